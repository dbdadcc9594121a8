/- The law and its row. No condition. -/
import Derived.Test.YtadghlcfbajamaaGreatMlM
import Derived.Below
import Derived.Carry
import Derived.ChangeOld
import Derived.OpenShut
import Derived.ProofKit
import Derived.ShutString
import Derived.SizedLaws
import Derived.Test.YtadghlcfbajamaaGreatRows
import Derived.WalkKit
set_option linter.unusedVariables false
set_option linter.unusedSimpArgs false
set_option maxRecDepth 100000
section
namespace Go.Proofs.YtadghlcfbajamaaGreat.Av
open Go Go.RowKit Go.Proofs.Tryz
noncomputable def loopFiles_r0:Rd prog 3 Int:=(Rd.int .i64 Tryz.underlying3 (by kernel_rfl))
noncomputable def loopFiles_r1:Rd prog 3 Int:=(Rd.int .i64 Tryz.underlying3 (by kernel_rfl))
noncomputable def loopFiles_r2:Rd prog 50 (Sl UInt8):=(Rd.slice (Rd.byte Tryz.underlying5 (by kernel_rfl)) Tryz.underlying50 (by kernel_rfl))
noncomputable def loopFiles_r3:Rd prog 50 (Sl UInt8):=(Rd.slice (Rd.byte Tryz.underlying5 (by kernel_rfl)) Tryz.underlying50 (by kernel_rfl))
noncomputable def loopFiles_r4:Rd prog 60 (Sl (UInt8×(UInt8×(UInt8×(Int×(Int×(Int×((Sl UInt8)×(Bool×((Sl Bool)×((Sl Int)×Unit))))))))))):=(Rd.slice (Rd.struct (Rds.cons (Rd.byte Tryz.underlying5 (by kernel_rfl)) (Rds.cons (Rd.byte Tryz.underlying5 (by kernel_rfl)) (Rds.cons (Rd.byte Tryz.underlying5 (by kernel_rfl)) (Rds.cons (Rd.int .i64 Tryz.underlying3 (by kernel_rfl)) (Rds.cons (Rd.int .i64 Tryz.underlying3 (by kernel_rfl)) (Rds.cons (Rd.int .i64 Tryz.underlying3 (by kernel_rfl)) (Rds.cons (Rd.slice (Rd.byte Tryz.underlying5 (by kernel_rfl)) Tryz.underlying50 (by kernel_rfl)) (Rds.cons (Rd.bool Tryz.underlying4 (by kernel_rfl)) (Rds.cons (Rd.slice (Rd.bool Tryz.underlying4 (by kernel_rfl)) Tryz.underlying63 (by kernel_rfl)) (Rds.cons (Rd.slice (Rd.int .i64 Tryz.underlying3 (by kernel_rfl)) Tryz.underlying64 (by kernel_rfl)) (Rds.nil _ _) rfl rfl) rfl rfl) rfl rfl) rfl rfl) rfl rfl) rfl rfl) rfl rfl) rfl rfl) rfl rfl) rfl rfl) Tryz.underlying66 (by kernel_rfl)) Tryz.underlying60 (by kernel_rfl))
end Go.Proofs.YtadghlcfbajamaaGreat.Av
namespace Go.Proofs.YtadghlcfbajamaaGreat
open Go.ChangeShapes Go.WideShapes Go.ChangeAt Go.RowKit
namespace loopFiles
set_option maxRecDepth 100000 in
theorem lifted (calls:∀(x0:Int),Av.loopFiles_r0.ok x0→∀(x1:Int),Av.loopFiles_r1.ok x1→∀(x2:(Av.Sl UInt8)),Av.loopFiles_r2.ok x2→∀(x3:(Av.Sl UInt8)),Av.loopFiles_r3.ok x3→∀(x4:(Av.Sl (UInt8×(UInt8×(UInt8×(Int×(Int×(Int×((Av.Sl UInt8)×(Bool×((Av.Sl Bool)×((Av.Sl Int)×Unit)))))))))))),Av.loopFiles_r4.ok x4→Av.ACalls Tryz.prog 9 (Av.loopFiles_r0.enc x0++Av.loopFiles_r1.enc x1++Av.loopFiles_r2.enc x2++Av.loopFiles_r3.enc x3++Av.loopFiles_r4.enc x4) [] λr _=>r=.lit (.bool true))(os:Os)(started:os.Started)(H:Type)(enc:TypeId×Value→H):
  ReturnsInHanded {} Tryz.checked os 9 .any (Rows.loopFilesSpec.pre6 enc Tryz.prog Tryz.f9 Rows.loopFilesRow.domain false) (Rows.loopFilesSpec.post enc Tryz.prog Tryz.f9 false true false false):=by
 refine returnsInHanded_of_change_sized (C:=Tryz.checked) Av.own started (by kernel_rfl) Tryz.func9
  (ChangeSpec.witness6 (enc:=enc) (C:=Tryz.checked) false ⟨#[],#[.int .i64 0,.int .i64 0,.slice none 0 0,.slice none 0 0,.slice none 0 0],[]⟩ 8 (by kernel_rfl) (by kernel_rfl) (by kernel_rfl) (by kernel_rfl)) ?_
 intro W base args ds gs before hval0 hW hcnd hsz0 _;have hval:∀(j:Nat) t v,Tryz.f9.params[j]?=some t→args[j]?=some v→Value.okWide Tryz.prog W .any base t v:=hval0;have hW':=hW;obtain⟨p,q,hA0,hV,rfl,hfz,hnd⟩:=hW;have hA:DataW.TrodAll enc Tryz.prog W 0 (λ_=>true) true Tryz.f9.params.toList args.toList ds p:=hA0;rw[Tryz.params9]at hA hval;obtain⟨v0,vs0,d0,ds0,p0,q0,hargs,rfl,rfl,h0,r0⟩:=trodAll_cons hA;obtain⟨v1,vs1,d1,ds1,p1,q1,rfl,rfl,rfl,h1,r1⟩:=trodAll_cons r0;obtain⟨v2,vs2,d2,ds2,p2,q2,rfl,rfl,rfl,h2,r2⟩:=trodAll_cons r1;obtain⟨v3,vs3,d3,ds3,p3,q3,rfl,rfl,rfl,h3,r3⟩:=trodAll_cons r2;obtain⟨v4,vs4,d4,ds4,p4,q4,rfl,rfl,rfl,h4,r4⟩:=trodAll_cons r3;obtain⟨rfl,rfl,rfl⟩:=trodAll_nil r4;obtain rfl:args= #[v0,v1,v2,v3,v4]:=by cases args;simp_all
 obtain⟨rfl,rfl⟩:=trodVars_none hV;obtain⟨b0,rfl⟩:=okWide_int Tryz.underlying3 (hval 0 3 v0 rfl rfl);have lt0:∀x∈p0,x.block<W.heap.size:=by obtain⟨m,hm⟩:=h0;exact DataW.trod_lt m _ _ _ hm
 obtain⟨x0,ok0,vr0⟩:=Av.loopFiles_r0.arg1 rfl h0;obtain⟨b1,rfl⟩:=okWide_int Tryz.underlying3 (hval 1 3 v1 rfl rfl);have lt1:∀x∈p1,x.block<W.heap.size:=by obtain⟨m,hm⟩:=h1;exact DataW.trod_lt m _ _ _ hm
 obtain⟨x1,ok1,vr1⟩:=Av.loopFiles_r1.arg1 rfl h1;obtain⟨b2,len2,cap2,rfl⟩:=okWide_slice Tryz.underlying50 (hval 2 50 v2 rfl rfl);have lt2:∀x∈p2,x.block<W.heap.size:=by obtain⟨m,hm⟩:=h2;exact DataW.trod_lt m _ _ _ hm
 obtain⟨x2,ok2,vr2⟩:=Av.loopFiles_r2.arg1 rfl h2;obtain⟨b3,len3,cap3,rfl⟩:=okWide_slice Tryz.underlying50 (hval 3 50 v3 rfl rfl);have lt3:∀x∈p3,x.block<W.heap.size:=by obtain⟨m,hm⟩:=h3;exact DataW.trod_lt m _ _ _ hm
 obtain⟨x3,ok3,vr3⟩:=Av.loopFiles_r3.arg1 rfl h3;obtain⟨b4,len4,cap4,rfl⟩:=okWide_slice Tryz.underlying60 (hval 4 60 v4 rfl rfl);have lt4:∀x∈p4,x.block<W.heap.size:=by obtain⟨m,hm⟩:=h4;exact DataW.trod_lt m _ _ _ hm
 obtain⟨x4,ok4,vr4⟩:=Av.loopFiles_r4.arg1 rfl h4;refine(Av.law_calls (calls x0 ok0 x1 ok1 x2 ok2 x3 ok3 x4 ok4) W ((((vr0.append vr1).append vr2).append vr3).append vr4)).mono fun e W' ⟨he,bel⟩=>?_
 subst he;exact⟨_,rfl,_,_,_,[],_,[],hW',trodAll_mk1 (shut_bool Tryz.underlying4 _),(trodAll_cons_mk (Below.trod Av.laidOut (by kernel_rfl) (of_decide_eq_true (by kernel_rfl)) h0 bel lt0) (trodAll_cons_mk (Below.trod Av.laidOut (by kernel_rfl) (of_decide_eq_true (by kernel_rfl)) h1 bel lt1) (trodAll_cons_mk (Below.trod Av.laidOut (by kernel_rfl) (of_decide_eq_true (by kernel_rfl)) h2 bel lt2) (trodAll_cons_mk (Below.trod Av.laidOut (by kernel_rfl) (of_decide_eq_true (by kernel_rfl)) h3 bel lt3) (trodAll_cons_mk (Below.trod Av.laidOut (by kernel_rfl) (of_decide_eq_true (by kernel_rfl)) h4 bel lt4) trodAll_mk0))))),rfl,bel.frame _,λh=>by cases h⟩
end loopFiles
theorem loopFiles_of (calls:∀(x0:Int),Av.loopFiles_r0.ok x0→∀(x1:Int),Av.loopFiles_r1.ok x1→∀(x2:(Av.Sl UInt8)),Av.loopFiles_r2.ok x2→∀(x3:(Av.Sl UInt8)),Av.loopFiles_r3.ok x3→∀(x4:(Av.Sl (UInt8×(UInt8×(UInt8×(Int×(Int×(Int×((Av.Sl UInt8)×(Bool×((Av.Sl Bool)×((Av.Sl Int)×Unit)))))))))))),Av.loopFiles_r4.ok x4→Av.ACalls Tryz.prog 9 (Av.loopFiles_r0.enc x0++Av.loopFiles_r1.enc x1++Av.loopFiles_r2.enc x2++Av.loopFiles_r3.enc x3++Av.loopFiles_r4.enc x4) [] λr _=>r=.lit (.bool true)):Rows.LoopFilesSaid:=
 OpenClaim.holds_of_wide 9 Tryz.f9 rfl rfl rfl rfl rfl rfl rfl ⟨rfl,rfl,rfl,rfl,rfl⟩ rfl rfl rfl rfl rfl (by kernel_rfl) Tryz.func9 (by kernel_rfl)
  (of_decide_eq_true (by kernel_rfl)) (by unfold Func.isWrapper;first | (rw[if_pos (by decide+kernel)];kernel_rfl) | (rw[if_neg (by decide+kernel)];exact⟨rfl,rfl⟩))
  (λos started H enc _=>loopFiles.lifted calls os started H enc)
end Go.Proofs.YtadghlcfbajamaaGreat
end
section
set_option maxHeartbeats 4000000
namespace Go.Proofs.YtadghlcfbajamaaGreat.Av
open Go Go.RowKit Go.Proofs.Tryz
theorem zdhbZ {N:Nat}{s:StS}(h:SW N s)(nm:List UInt8){l:List (List UInt8)}(hl:∀b∈l,b.length≤4096):SW (N+2+9*JK (l.flatMap BK)) (Z0 s nm l).2:=by
 rw[← pC hl];exact uJ h nm _
theorem YH {S:Nat→Bool}{i j:Nat}(h:i≠j):HK S i j=S j:=by unfold HK;rw[if_neg (Aj4 h)]
theorem zdezZ (S:Nat→Bool)(i:Nat):HK S i i=true:=by unfold HK;rw[if_pos rfl]
theorem zdntZ {N:Nat}{s:StS}{os od k:Nat}{p q bv:AV}{H:AH}{b nm:List UInt8}(duo:Duo s s os od p q H)(hw:SW N s)(hv:SV FB 1 b bv)(hb:b.length≤150)(hk:k≤b.length)(hnm:nm.length≤9223372036854775807)(hN:N≤800000)
  {R20:List AV→AH→Prop} {nv j:AV} {K:AV→AH→Prop} (last:∀s' p' q' H',Duo s' s' os od p' q' H'→SW (N+3000) s'→D5 R20 nv bv (.ptr os 0) (.ptr od 0) j (B false) H' K):
  D6 R20 nv bv (.ptr os 0) (.ptr od 0) j (S (B9 nm)) (I k) H K:=by
 obtain⟨u,e1,hu⟩:=hv.cutG (lo:=none) (hi:=some (I k)) (l:=0) (k:=k) rfl (by simp[Ci]) (by omega) hk;obtain⟨w,e2,hz⟩:=hv.cutG (lo:=some (I k)) (hi:=none) (l:=k) (k:=b.length) (by simp[Ci]) rfl hk (by omega);have ou:=SV.oneA hu;have ow:=SV.oneA hz;generalize hA:(b.drop 0).take (k - 0)=A at hu;generalize hC:(b.drop k).take (b.length - k)=C at hz;have lA:A.length≤150:=by rw[← hA,Ah8];omega
 have lC:C.length≤150:=by rw[← hC,Ah8];omega
 have eL:Qo 1 3 (B4 [Ad] 3) [(0,1,u),(1,1,Ad),(2,1,w)]=some (.imm [u,Ad,w] 3 1):=by
  simp[Qo,B4,Bs ou,Bs ow,Bm]
 have bl:([A,[],C]:List (List UInt8))=[(u,A),(Ad,[]),(w,C)].map (Prod.snd:AV×List UInt8→List UInt8):=rfl
 have hl:∀x∈([A,[],C]:List (List UInt8)),x.length≤4096:=by
  intro x hx;simp only[Ae4]at hx;rcases hx with rfl | rfl | rfl
  ·omega
  ·simp
  ·omega
 obtain⟨c1,c2,c3⟩:=RJ (bl:=[(u,A),(Ad,[]),(w,C)]) (by
  intro x hx;simp only[Ae4]at hx;rcases hx with rfl | rfl | rfl
  ·simp only;omega
  ·simp
  ·simp only;omega)
 have c4:JK (([A,[],C]:List (List UInt8)).flatMap BK)≤300:=by
  have:([A,[],C]:List (List UInt8)).flatMap BK=([(u,A),(Ad,[]),(w,C)]:List (AV×List UInt8)).flatMap λx=>BK x.2:=by simp
  rw[this,c3]
  simp;omega
 have hN2:N+2+9*JK (([A,[],C]:List (List UInt8)).flatMap BK)≤N+3000:=by omega
 have hput:=zdhbZ hw nm hl;have heq:=pC (s:=s) (nm:=nm) hl;have hput:=hput.mono hN2;generalize hX:Z0 s nm [A,[],C]=X at*;have duoL:=duo.P.os_lt
 let V:Nat→AV:=λn=>([.ptr os 0,S (B9 nm),bv,I k,u,bv,I k,w,.imm [u,Ad,w] 3 1,I X.1,.ptr od 0,S (B9 nm),bv,I k,u,bv,I k,w,.imm [u,Ad,w] 3 1,I X.1,B false,B false,.ptr os 0,.ptr od 0,B true,B false,B false]:List AV).getD n AO
 refine zdgsZ R20 _ _ _ _ _ _ _ V (λS Hc=>(S 9=false→Hc=H)∧(S 9=true→S 19=false→∃p',Duo X.2 s os od p' q Hc)∧(S 19=true→∃p' q',Duo X.2 X.2 os od p' q' Hc)) ⟨λ_=>rfl,⟨λh=>Bool.noConfusion h,λh=>Bool.noConfusion h⟩⟩ ?_ ?_
 ·intro i hi S vals Hc hS cl hn hI
  have up:∀p q,q∈lfNeed.getD p []→S q=false→S p=false:=λp q hq h=>by
   cases hp:S p with
   | false=>rfl
   | true=>have:=cl p hp q hq;rw[h]at this;cases this
  have u19:S 9=false→S 19=false:=up 19 9 (by simp[lfNeed])
  have same:∀n,n≠9→n≠19→((HK S n 9=false→Hc=H)∧(HK S n 9=true→HK S n 19=false→∃p',Duo X.2 s os od p' q Hc)∧(HK S n 19=true→∃p' q',Duo X.2 X.2 os od p' q' Hc)):=λn h1 h2=>by
   rw[YH h1,YH h2];exact hI
  have hcase:i=0∨i=1∨i=2∨i=3∨i=4∨i=5∨i=6∨i=7∨i=8∨i=9∨i=10∨i=11∨i=12∨i=13∨i=14∨i=15∨i=16∨i=17∨i=18∨i=19∨i=20∨i=21∨i=22∨i=23∨i=24∨i=25∨i=26:=by omega
  have hv':∀j,j∈lfNeed.getD i []→vals j=V j:=λj hj=>(hn j hj).2
  rcases hcase with rfl | rfl | rfl | rfl | rfl | rfl | rfl | rfl | rfl | rfl | rfl | rfl | rfl | rfl | rfl | rfl | rfl | rfl | rfl | rfl | rfl | rfl | rfl | rfl | rfl | rfl | rfl
  all_goals simp only[zdosZ,lfNeed,Do,Ae4,forall_eq_or_imp,forall_eq]at hv'⊢
  ·exact⟨rfl,same 0 (by omega) (by omega)⟩
  ·exact⟨rfl,same 1 (by omega) (by omega)⟩
  ·exact⟨rfl,same 2 (by omega) (by omega)⟩
  ·exact⟨rfl,same 3 (by omega) (by omega)⟩
  ·rw[hv'.1,hv'.2,show Bf 1 (V 2) none (some (V 3)) none=some u from e1]
   exact⟨rfl,same 4 (by omega) (by omega)⟩
  ·exact⟨rfl,same 5 (by omega) (by omega)⟩
  ·exact⟨rfl,same 6 (by omega) (by omega)⟩
  ·rw[hv'.1,hv'.2,show Bf 1 (V 5) (some (V 6)) none none=some w from e2]
   exact⟨rfl,same 7 (by omega) (by omega)⟩
  ·rw[hv'.1,hv'.2,show Qo 1 3 (B4 [Ad] 3) [(0,1,V 4),(1,1,Ad),(2,1,V 7)]=some (.imm [u,Ad,w] 3 1)from eL]
   exact⟨rfl,same 8 (by omega) (by omega)⟩
  ·rw[hv'.1,hv'.2.1,hv'.2.2]
   obtain rfl:=hI.1 hS
   refine(zdhsZ (nm:=nm) (a2:=.imm [u,Ad,w] 3 1) (bl:=[(u,A),(Ad,[]),(w,C)]) duo.P hw hnm rfl (by simp[AM]) (by
    intro x hx;simp only[Ae4]at hx;rcases hx with rfl | rfl | rfl
    ·exact⟨hu.bytes _,ou,by simp only;omega,by simp only[hu.noId];simp⟩
    ·exact⟨rfl,rfl,by simp,by simp[AM]⟩
    ·exact⟨hz.bytes _,ow,by simp only;omega,by simp only[hz.noId];simp⟩) (by simp) (by rw[c3];simp;omega)).mono ?_
   rintro r H' ⟨p',h1,h2,h3⟩;have e:([(u,A),(Ad,[]),(w,C)]:List (AV×List UInt8)).flatMap (λx=>BK x.2)=([A,[],C]:List (List UInt8)).flatMap BK:=by simp
   rw[e,heq]at h1 h2;refine⟨h1,⟨λh=>(by rw[zdezZ]at h;cases h),⟨λ_ _=>⟨p',duo.stepP h2 h3⟩,λh=>?_⟩⟩⟩;rw[YH (by omega),u19 hS]at h;cases h
  ·exact⟨rfl,same 10 (by omega) (by omega)⟩
  ·exact⟨rfl,same 11 (by omega) (by omega)⟩
  ·exact⟨rfl,same 12 (by omega) (by omega)⟩
  ·exact⟨rfl,same 13 (by omega) (by omega)⟩
  ·rw[hv'.1,hv'.2,show Bf 1 (V 12) none (some (V 13)) none=some u from e1]
   exact⟨rfl,same 14 (by omega) (by omega)⟩
  ·exact⟨rfl,same 15 (by omega) (by omega)⟩
  ·exact⟨rfl,same 16 (by omega) (by omega)⟩
  ·rw[hv'.1,hv'.2,show Bf 1 (V 15) (some (V 16)) none none=some w from e2]
   exact⟨rfl,same 17 (by omega) (by omega)⟩
  ·rw[hv'.1,hv'.2,show Qo 1 3 (B4 [Ad] 3) [(0,1,V 14),(1,1,Ad),(2,1,V 17)]=some (.imm [u,Ad,w] 3 1)from eL]
   exact⟨rfl,same 18 (by omega) (by omega)⟩
  ·have s9:=(hn 9 (by simp[lfNeed])).1
   obtain⟨p',duo1⟩:=hI.2.1 s9 hS;rw[hv'.2.1,hv'.2.2.1,hv'.2.2.2]
   obtain⟨r,H',⟨rfl,q',d1,f1⟩,hc⟩:=zdisZ (nm:=nm) (w:=.imm [u,Ad,w] 3 1) (bl:=[(u,A),(Ad,[]),(w,C)]) duo1.D hw hnm (SV.imm (λ_=>rfl) λx hx=>by
    simp only[Ae4]at hx;rcases hx with rfl | rfl | rfl
    ·simp[zdglZ,A5,hu.1]
    ·rfl
    ·simp[zdglZ,A5,hz.1]) (by
    intro x hx;simp only[Ae4]at hx;rcases hx with rfl | rfl | rfl
    ·exact⟨hu,by simp only;omega⟩
    ·exact⟨SV.nil,by simp⟩
    ·exact⟨hz,by simp only;omega⟩) (by simp) (by simp[JK];omega)
   refine ACalls.mono hc ?_;rintro r H2 ⟨rfl,rfl⟩;rw[← bl,hX]at d1⊢;refine⟨rfl,⟨λh=>?_,⟨λ_ h=>(by rw[zdezZ]at h;cases h),λ_=>⟨p',q',duo1.stepD d1 f1⟩⟩⟩⟩;rw[YH (by omega),s9]at h;cases h
  ·rw[hv'.1,hv'.2,show Ar .neq (V 9) (V 19)=some (B false) by simp[V]]
   exact⟨rfl,same 20 (by omega) (by omega)⟩
  ·exact⟨hv'.2,same 21 (by omega) (by omega)⟩
  ·exact⟨hv',rfl,same 22 (by omega) (by omega)⟩
  ·exact⟨hv',rfl,same 23 (by omega) (by omega)⟩
  ·refine⟨hv'.1,?_⟩
   rw[hv'.2.1,hv'.2.2];have s19:=cl 20 (cl 21 (hn 21 (by simp[lfNeed])).1 20 (by simp[lfNeed])) 19 (by simp[lfNeed]);obtain⟨p',q',duo1⟩:=hI.2.2 s19;obtain⟨r,H',⟨rfl,g⟩,hc⟩:=zdfiZ duo1 hput (by omega);refine ACalls.mono hc ?_;rintro r H2 ⟨rfl,rfl⟩;refine⟨rfl,⟨λh=>?_,⟨λ_ h=>?_,λ_=>⟨p',q',duo1.grew g⟩⟩⟩⟩
   ·rw[YH (by omega),cl 19 s19 9 (by simp[lfNeed])]at h;cases h
   ·rw[YH (by omega),s19]at h;cases h
  ·refine⟨hv'.1,?_⟩
   rw[hv'.2,show Em .not (V 24)=some (B false)from rfl];exact⟨rfl,same 25 (by omega) (by omega)⟩
  ·rw[hv'.1,hv'.2,show A0 (V 21) (B true) (V 25)=some (B false)from rfl]
   exact⟨rfl,same 26 (by omega) (by omega)⟩
 ·intro S vals H' hS hI
  obtain⟨p',q',d⟩:=hI.2.2 (hS 19 (by omega)).1;rw[(hS 26 (by omega)).2];exact last _ p' q' H' d hput
theorem loopFiles_calls (x0:Int)(h0:loopFiles_r0.ok x0)(x1:Int)(h1:loopFiles_r1.ok x1)(x2:Sl UInt8)(h2:loopFiles_r2.ok x2)(x3:Sl UInt8)(h3:loopFiles_r3.ok x3)(x4:Sl mB)(h4:loopFiles_r4.ok x4):
  ACalls prog 9 (loopFiles_r0.enc x0++loopFiles_r1.enc x1++loopFiles_r2.enc x2++loopFiles_r3.enc x3++loopFiles_r4.enc x4) [] λr _=>r=.lit (.bool true):=by
 have hroom:x0≤9223372036854775807:=(zdcyZ h0).2;have harm:x1≤9223372036854775807:=(zdcyZ h1).2;have hml:maxLen≤9223372036854775807:=by decide
 have okx:∀y∈x4.l,zdltZ y:=λy hy=>by
  have:=h4.2.2 y hy
  exact⟨this.2.2.2.2.2.2.1.1,this.2.2.2.2.2.2.2.2.1.1,this.2.2.2.2.2.2.2.2.2.1.1,(zdcyZ this.2.2.2.2.2.1).2⟩
 obtain⟨l,vl,hll,hln⟩:=zdevZ x4 h4.1 okx zW (λ_ _=>rfl);have hn:=sH x2 h2.1;have hb:=sH x3 h3.1;have hbl:=h4.2.1
 show ACalls prog 9 [I x0,I x1,if x2.nil then .lit (.slice none 0 0)else .imm (x2.l.flatMap FB) x2.l.length 1,if x3.nil then .lit (.slice none 0 0)else .imm (x3.l.flatMap FB) x3.l.length 1,if x4.nil then .lit (.slice none 0 0)else .imm (x4.l.flatMap zW) x4.l.length 10] [] _
 generalize (if x4.nil then AV.lit (.slice none 0 0)else .imm (x4.l.flatMap zW) x4.l.length 10)=v at vl;generalize (if x2.nil then AV.lit (.slice none 0 0)else .imm (x2.l.flatMap FB) x2.l.length 1)=nv at hn;generalize (if x3.nil then AV.lit (.slice none 0 0)else .imm (x3.l.flatMap FB) x3.l.length 1)=bv at hb;generalize x2.l=names at hn;generalize x3.l=b at hb;refine PX ?_;unfold G8;simp only[hn.len,Aa,Du,AU]
 by_cases k0:(20:Int)<(names.length:Int)
 ·simp only[k0,Aa4,show((true==false)=false)from rfl,BY,WV,Af8,AU,As]
  exact Ay RO (by trivial)
 simp only[k0,Dd,Ac8,hb.len,Aa,Du,An]
 by_cases k1:(150:Int)<(b.length:Int)
 ·simp only[k1,Aa4,show((true==false)=false)from rfl,BY,WV,Aj,As]
  exact Ay RO (by trivial)
 simp only[k1,Dd,Aa0,Aa,ZW];refine Ay (zddgZ vl (by omega) 20) ?_
 by_cases c1:qU l 20
 rotate_left
 ·simp only[c1,Dd,Ag9,Aa6,An]
  exact Ay RO (by trivial)
 simp only[c1,CL,Ag5,An];have l20:=c1.1;obtain⟨r,H1,⟨p,rfl,l1,st0,g,hid⟩,hc⟩:=zdhrZ x0 [] hroom;refine bC_of hc ?_;obtain⟨r,H2,⟨rfl,l2,ds0,g2⟩,hc⟩:=zdirZ x0 H1 hroom;refine bC_of hc ?_;have e1:ZQ .eql Y7 (.ptr ([]:AH).length 0) (.lit (.pointer none))=some (B false):=rfl;have duo:=zdgkZ st0 l1 hid ds0 g2;simp only[e1,Aa6,Ak];generalize ([]:AH).length=os at*;generalize H1.length=od at*;clear hc g g2 l1 l2 st0 ds0 hid;refine L3 (λm y1 y2 y3 y4 y11 y12 y13 H'=>∃(j:Nat) (s:StS) (p q:AV),j+m=l.length∧y1=I x1∧nv=y2∧bv=y3∧v=y4∧y11=.ptr os 0∧y12=.ptr od 0∧y13=I j∧Duo s s os od p q H'∧SW (4099*j) s) ?_ l.length ⟨0,_,_,_,by omega,rfl,rfl,rfl,rfl,rfl,rfl,rfl,duo,kQ x0⟩;rintro m y1 y2 y3 y4 y11 y12 y13 H3 R hR ⟨j,s,p,q,hj,rfl,rfl,rfl,rfl,rfl,rfl,rfl,duo,hw⟩;unfold GD;simp only[vl.len,Ac0];rcases Ai0 j l.length with hlt | hge
 ·have hx:=DD hlt
  have hmem:=At4 hlt;generalize l[j]=x at hx hmem;obtain⟨r,H4,⟨rfl,p',q',duo'⟩,hc⟩:=zdoyZ duo hw (by omega) x (c1.2 x hmem) (hln x hmem);have hw':=zS hw (c1.2 x hmem) (hln x hmem);have q2:Ar .add (I (j:Int)) (I 1)=some (I ((j+1:Nat):Int)):=by rw[Au (by omega) (by omega)];congr 3
  simp only[show((j:Int)<(l.length:Int)) by omega,Ad1,vl.idx bU hx rfl,Aa,rdP];refine bC_of hc ?_;simp only[Ag5,q2];exact hR (m - 1) _ _ _ _ _ _ _ _ (by omega) ⟨j+1,_,p',q',by omega,rfl,rfl,rfl,rfl,rfl,rfl,rfl,duo',by rw[show 4099*(j+1)=4099*j+4099 by omega];exact hw'⟩
 simp only[show ¬((j:Int)<(l.length:Int)) by omega,Ab7];have hw:SW 90000 s:=hw.mono (by omega);obtain⟨r,H4,⟨rfl,st4,f4⟩,hc⟩:=zdhoZ duo.P x1;refine bC_of hc ?_;have duo4:=duo.stepP st4 f4;obtain⟨r,H5,⟨rfl,ds5,f5⟩,hc⟩:=xX duo4.D x1;refine bC_of hc ?_;have duo5:=duo4.stepD ds5 f5;have w5:=yV hw harm;generalize mR s x1=s5 at duo5 w5;clear hc f5 f4 ds5 st4 duo4 duo hR;refine L4 (λm y2 y3 y11 y12 y14 H'=>∃(j:Nat) (s:StS) (p q:AV),j+m=names.length∧nv=y2∧bv=y3∧y11=.ptr os 0∧y12=.ptr od 0∧y14=I j∧Duo s s os od p q H'∧SW (90000+3000*j) s) ?_ names.length ⟨0,_,_,_,by omega,rfl,rfl,rfl,rfl,rfl,duo5,w5⟩;rintro m y2 y3 y11 y12 y14 H6 R20 hR ⟨j,s,p,q,hj,rfl,rfl,rfl,rfl,rfl,duo,hw⟩;unfold GE;simp only[hn.len,Ac0];rcases Ai0 j names.length with hlt | hge
 rotate_left
 ·simp only[show ¬((j:Int)<(names.length:Int)) by omega,Ab7]
  exact Ay RO (by trivial)
 have hx:=DD hlt;generalize names[j]=k at hx;have q0:∀t,Ap false 1 H6 (.ip (FB k++t))=some (.lit (.int .u8 k.toNat)):=λ_=>rfl
 have q1:Ar .add (I (b.length:Int)) (I 1)=some (I ((b.length+1:Nat):Int)):=by rw[Au (by omega) (by omega)];congr 3
 have q3:Ar .rem (I (k.toNat:Int)) (I ((b.length+1:Nat):Int))=some (I ((k.toNat % (b.length+1):Nat):Int)):=by rw[U3 (by omega) (by omega)];congr 3
 have kb:=k.toNat_lt;have hm:k.toNat % (b.length+1)<b.length+1:=At8 _ (by omega);have nb:=Y5 k;simp only[show((j:Int)<(names.length:Int)) by omega,Ad1,hn.idx (λ_=>rfl) hx rfl,Aa,q0];refine Ay (pR k) ?_;simp only[ZR (a:=(k.toNat:Int)) (k':=.u8) (by omega) (by omega),hb.len,Aa,q1,q3];refine zdntZ duo hw hb (by omega) (by omega) (by omega) (by omega) λs' p' q' H7 d7 w7=>?_
 rw[MA];unfold GC;simp only[Aj,Ak];refine L5 R20 (λn y2 y3 y11 y12 y14 y17 H'=>∃(i:Nat),i+n=5∧nv=y2∧bv=y3∧y11=.ptr os 0∧y12=.ptr od 0∧y14=I j∧y17=I i∧Duo s' s' os od p' q' H') ?_ 5 ⟨0,by omega,rfl,rfl,rfl,rfl,rfl,rfl,d7⟩;rintro n y2 y3 y11 y12 y14 y17 H8 R hR2 ⟨i,hi,rfl,rfl,rfl,rfl,rfl,rfl,d8⟩;unfold GF;have q4:∀{x:Nat},x≤100→Ar .add (I (x:Int)) (I 1)=some (I ((x+1:Nat):Int)):=λh=>by rw[Au (by omega) (by omega)];congr 3
 simp only[Ac0];rcases Ai0 i 5 with h5 | h5
 ·simp only[show((i:Int)<5) by omega,Ad1]
  obtain⟨r,H9,⟨v1,rfl,s1,i1,g1⟩,hc⟩:=zdiiZ d8.P w7 (by omega) (i:Int);refine bC_of hc ?_;have d9:=d8.grew g1;obtain⟨r,H10,⟨v2,rfl,s2,i2,g2⟩,hc⟩:=zdfpZ d9.D w7 (by omega) (i:Int);simp only[Ad5];refine bC_of hc ?_;simp only[Ad0,Qp (g2.slice s1),Qp s2,sU,Ag2,Ac8,An,q4 (show i≤100 by omega)];exact hR2 (n - 1) _ _ _ _ _ _ _ (by omega) ⟨i+1,by omega,rfl,rfl,rfl,rfl,rfl,rfl,d9.grew g2⟩
 ·simp only[show ¬((i:Int)<5) by omega,Ab7,q4 (show j≤100 by omega),Aa]
  exact hR (m - 1) _ _ _ _ _ _ (by omega) ⟨j+1,s',p',q',by omega,rfl,rfl,rfl,rfl,rfl,d8,w7.mono (by omega)⟩
end Go.Proofs.YtadghlcfbajamaaGreat.Av
namespace Go.Proofs.YtadghlcfbajamaaGreat
theorem loopFiles_holds:Rows.LoopFilesSaid:=loopFiles_of Av.loopFiles_calls
#print axioms loopFiles_holds
end Go.Proofs.YtadghlcfbajamaaGreat
end
