/- The law and its row. No condition. -/
import Derived.Test.YtadghlcfbajamaaGreatMsL
import Derived.Below
import Derived.Carry
import Derived.ChangeOld
import Derived.OpenShut
import Derived.ProofKit
import Derived.ShutString
import Derived.SizedLaws
import Derived.Test.YtadghlcfbajamaaGreatRows
import Derived.WalkKit
set_option linter.unusedVariables false
set_option linter.unusedSimpArgs false
set_option maxRecDepth 100000
section
namespace Go.Proofs.YtadghlcfbajamaaGreat.Av
open Go Go.RowKit Go.Proofs.Tryz
noncomputable def storeAll_r0:Rd prog 3 Int:=(Rd.int .i64 Tryz.underlying3 (by kernel_rfl))
noncomputable def storeAll_r1:Rd prog 60 (Sl (UInt8×(UInt8×(UInt8×(Int×(Int×(Int×((Sl UInt8)×(Bool×((Sl Bool)×((Sl Int)×Unit))))))))))):=(Rd.slice (Rd.struct (Rds.cons (Rd.byte Tryz.underlying5 (by kernel_rfl)) (Rds.cons (Rd.byte Tryz.underlying5 (by kernel_rfl)) (Rds.cons (Rd.byte Tryz.underlying5 (by kernel_rfl)) (Rds.cons (Rd.int .i64 Tryz.underlying3 (by kernel_rfl)) (Rds.cons (Rd.int .i64 Tryz.underlying3 (by kernel_rfl)) (Rds.cons (Rd.int .i64 Tryz.underlying3 (by kernel_rfl)) (Rds.cons (Rd.slice (Rd.byte Tryz.underlying5 (by kernel_rfl)) Tryz.underlying50 (by kernel_rfl)) (Rds.cons (Rd.bool Tryz.underlying4 (by kernel_rfl)) (Rds.cons (Rd.slice (Rd.bool Tryz.underlying4 (by kernel_rfl)) Tryz.underlying63 (by kernel_rfl)) (Rds.cons (Rd.slice (Rd.int .i64 Tryz.underlying3 (by kernel_rfl)) Tryz.underlying64 (by kernel_rfl)) (Rds.nil _ _) rfl rfl) rfl rfl) rfl rfl) rfl rfl) rfl rfl) rfl rfl) rfl rfl) rfl rfl) rfl rfl) rfl rfl) Tryz.underlying66 (by kernel_rfl)) Tryz.underlying60 (by kernel_rfl))
end Go.Proofs.YtadghlcfbajamaaGreat.Av
namespace Go.Proofs.YtadghlcfbajamaaGreat
open Go.ChangeShapes Go.WideShapes Go.ChangeAt Go.RowKit
namespace storeAll
set_option maxRecDepth 100000 in
theorem lifted (calls:∀(x0:Int),Av.storeAll_r0.ok x0→∀(x1:(Av.Sl (UInt8×(UInt8×(UInt8×(Int×(Int×(Int×((Av.Sl UInt8)×(Bool×((Av.Sl Bool)×((Av.Sl Int)×Unit)))))))))))),Av.storeAll_r1.ok x1→Av.ACalls Tryz.prog 7 (Av.storeAll_r0.enc x0++Av.storeAll_r1.enc x1) [] λr _=>r=.lit (.bool true))(os:Os)(started:os.Started)(H:Type)(enc:TypeId×Value→H):
  ReturnsInHanded {} Tryz.checked os 7 .any (Rows.storeAllSpec.pre6 enc Tryz.prog Tryz.f7 Rows.storeAllRow.domain false) (Rows.storeAllSpec.post enc Tryz.prog Tryz.f7 false true false false):=by
 refine returnsInHanded_of_change_sized (C:=Tryz.checked) Av.own started (by kernel_rfl) Tryz.func7
  (ChangeSpec.witness6 (enc:=enc) (C:=Tryz.checked) false ⟨#[],#[.int .i64 0,.slice none 0 0],[]⟩ 8 (by kernel_rfl) (by kernel_rfl) (by kernel_rfl) (by kernel_rfl)) ?_
 intro W base args ds gs before hval0 hW hcnd hsz0 _;have hval:∀(j:Nat) t v,Tryz.f7.params[j]?=some t→args[j]?=some v→Value.okWide Tryz.prog W .any base t v:=hval0;have hW':=hW;obtain⟨p,q,hA0,hV,rfl,hfz,hnd⟩:=hW;have hA:DataW.TrodAll enc Tryz.prog W 0 (λ_=>true) true Tryz.f7.params.toList args.toList ds p:=hA0;rw[Tryz.params7]at hA hval;obtain⟨v0,vs0,d0,ds0,p0,q0,hargs,rfl,rfl,h0,r0⟩:=trodAll_cons hA;obtain⟨v1,vs1,d1,ds1,p1,q1,rfl,rfl,rfl,h1,r1⟩:=trodAll_cons r0;obtain⟨rfl,rfl,rfl⟩:=trodAll_nil r1;obtain rfl:args= #[v0,v1]:=by cases args;simp_all
 obtain⟨rfl,rfl⟩:=trodVars_none hV;obtain⟨b0,rfl⟩:=okWide_int Tryz.underlying3 (hval 0 3 v0 rfl rfl);have lt0:∀x∈p0,x.block<W.heap.size:=by obtain⟨m,hm⟩:=h0;exact DataW.trod_lt m _ _ _ hm
 obtain⟨x0,ok0,vr0⟩:=Av.storeAll_r0.arg1 rfl h0;obtain⟨b1,len1,cap1,rfl⟩:=okWide_slice Tryz.underlying60 (hval 1 60 v1 rfl rfl);have lt1:∀x∈p1,x.block<W.heap.size:=by obtain⟨m,hm⟩:=h1;exact DataW.trod_lt m _ _ _ hm
 obtain⟨x1,ok1,vr1⟩:=Av.storeAll_r1.arg1 rfl h1;refine(Av.law_calls (calls x0 ok0 x1 ok1) W (vr0.append vr1)).mono fun e W' ⟨he,bel⟩=>?_
 subst he;exact⟨_,rfl,_,_,_,[],_,[],hW',trodAll_mk1 (shut_bool Tryz.underlying4 _),(trodAll_cons_mk (Below.trod Av.laidOut (by kernel_rfl) (of_decide_eq_true (by kernel_rfl)) h0 bel lt0) (trodAll_cons_mk (Below.trod Av.laidOut (by kernel_rfl) (of_decide_eq_true (by kernel_rfl)) h1 bel lt1) trodAll_mk0)),rfl,bel.frame _,λh=>by cases h⟩
end storeAll
theorem storeAll_of (calls:∀(x0:Int),Av.storeAll_r0.ok x0→∀(x1:(Av.Sl (UInt8×(UInt8×(UInt8×(Int×(Int×(Int×((Av.Sl UInt8)×(Bool×((Av.Sl Bool)×((Av.Sl Int)×Unit)))))))))))),Av.storeAll_r1.ok x1→Av.ACalls Tryz.prog 7 (Av.storeAll_r0.enc x0++Av.storeAll_r1.enc x1) [] λr _=>r=.lit (.bool true)):Rows.StoreAllSaid:=
 OpenClaim.holds_of_wide 7 Tryz.f7 rfl rfl rfl rfl rfl rfl rfl ⟨rfl,rfl,rfl,rfl,rfl⟩ rfl rfl rfl rfl rfl (by kernel_rfl) Tryz.func7 (by kernel_rfl)
  (of_decide_eq_true (by kernel_rfl)) (by unfold Func.isWrapper;first | (rw[if_pos (by decide+kernel)];kernel_rfl) | (rw[if_neg (by decide+kernel)];exact⟨rfl,rfl⟩))
  (λos started H enc _=>storeAll.lifted calls os started H enc)
end Go.Proofs.YtadghlcfbajamaaGreat
end
section
set_option maxHeartbeats 4000000
namespace Go.Proofs.YtadghlcfbajamaaGreat.Av
open Go Go.RowKit Go.Proofs.Tryz
theorem Z9 {bits:List Bool}:∀{r:List OpM} {i:Nat} {x:U0},(∀j,i≤j→j<i+r.length→NR bits j=true)→Hg bits i r x=I6 r x
 | [],i,x,_=>rfl
 | o::r,i,x,h=>by
  unfold Hg;rw[if_pos (h i (Ah3 _) (by simp)),Z9 λj h1 h2=>h j (by omega) (by simp only[Al7];omega)];rfl
theorem iJ {n j:Nat}(h:j<n):NR (List.replicate n true) j=true:=by
 unfold NR;simp[h]
theorem YI {room:Int}(hr:room≤9223372036854775807){l:List StpV}{v:AV}(hv:SV CW 10 l v)(hf:∀x∈l,¬O1 x.s∧x.s.n≤9223372036854775807)(hl:l.length≤40)(H:AH):
  ∃H',(∃s p,StAt s H.length p H'∧(∀i∈Bl p,H.length<i)∧SW 163960 s∧s=l.foldl (λs x=>Ct s x.s) (KK room)∧Grew H H')∧BCall prog 37 [I room,v] H (.ptr H.length 0) H':=by
 obtain⟨r,X,⟨s,p,q,rfl,duo,hw,hs⟩,hc⟩:=rW hr hv hf hl (List.replicate H.length none);rw[As8]at duo hc;have hlt:=duo.P.os_lt;refine⟨_,⟨s,p,?_,duo.lo,hw.mono (by omega),hs,?_⟩,BCall.hide hc ?_ (by omega)⟩
 ·have at':∀i,H.length≤i→(H++X.drop H.length)[i]?=X[i]?:=λi hi=>by
   rw[Ah0 hi,Ah6,show H.length+(i - H.length)=i by omega]
  exact duo.P.keepH (at' _ (Ah3 _)) λi hi=>at' _ (Nat.le_of_lt (duo.lo i hi))
 ·exact Grew.app _ _
 ·exact En (by simp[Az,noIds,hv.1])
theorem zdfbZ {s t:StS}{o1 o2 m1 m2:Nat}{p1 p2 na nb ka kb:AV}{H:AH}(h1:StAt s o1 p1 H)(h2:StAt t o2 p2 H)(w1:SW 163960 s)(w2:SW 163960 t)(e1:s.kept=s.now)(e2:t.now=t.kept)(f1:s.pend=[])(f2:t.pend=[])(f3:s.off=false)
  (hn:ImV s.now.1 s.now.2 (.agg [na,nb])) (hk:ImV t.kept.1 t.kept.2 (.agg [ka,kb])) (k1:H[m1]?=some (some (.cells [na,nb]))) (k2:H[m2]?=some (some (.cells [ka,kb]))):
  D6 (.ptr o1 0) (.ptr o2 0) (.ptr m1 0) (.ptr m2 0) H λr _=>r=.lit (.bool true):=by
 obtain⟨A,hA,fA⟩:=gX h1 w1 (by omega);obtain⟨C,hC,fC⟩:=ZZ h1 w1 (by omega);obtain⟨D,hD,fD⟩:=gX h2 w2 (by omega);obtain⟨E,hE,fE⟩:=ZZ h2 w2 (by omega);obtain⟨km,hkm,hkw⟩:=w1.kept;obtain⟨lm,hlm,hlw⟩:=w2.kept;have s1:=aB hA hn (w1.now.sm (by omega));have s2:=aB hC hn (hkm.sm (by omega));have s3:=aB hD hk (w2.now.sm (by omega));have s4:=aB hE hk (hlm.sm (by omega));rw[e1]at s2;rw[e2]at s3;rw[jX]at s1 s2 s3 s4;have rd2':∀a b:AV,Aq true 2 [a,b] 0=some (.agg [a,b]):=λ_ _=>rfl
 have same:∀{Hc:AH} {x y:AV} {K:AV→AH→Prop},BPure prog 44 [x,y] (B true)→K (B true) Hc→ACalls prog 44 [x,y] Hc K:=λhp hk=>ACalls.mono (hp _) (by rintro r H' ⟨rfl,rfl⟩;exact hk)
 have call:∀{Hc H':AH} {f:FuncId} {az:List AV} {x:AV} {K:AV→AH→Prop},BCall prog f az Hc x H'→K x H'→ACalls prog f az Hc K:=λhc hk=>ACalls.mono hc (by rintro r H' ⟨rfl,rfl⟩;exact hk)
 let V:Nat→AV:=λn=>([.ptr o1 0,A,.agg [na,nb],B true,B true,.ptr o1 0,C,.agg [na,nb],B true,B true,B true,.ptr o2 0,D,.agg [ka,kb],B true,B true,B true,.ptr o2 0,E,.agg [ka,kb],B true,B true,B true,.ptr o1 0,I 0,B true,B true,B true,.ptr o2 0,I 0,B true,B true,B true,.ptr o1 0,B false,B true,B true,B true,B true,B true,B true]:List AV).getD n AO
 have pk:∀x:AV,Ay (B true) x (B false)=some x:=λ_=>rfl
 refine Lg _ _ _ _ V (λ_ Hc=>Grew H Hc) (Grew.refl H) ?_ ?_
 ·intro i hi S vals Hc hS cl hn' g
  have hv':∀j,j∈salvorlaw13_StoreAll_U14Need.getD i []→vals j=V j:=λj hj=>(hn' j hj).2
  have l1:Am true 2 Hc (.ptr m1 0)=some (.agg [na,nb]):=by rw[Ah (g.cells k1)];rfl
  have l2:Am true 2 Hc (.ptr m2 0)=some (.agg [ka,kb]):=by rw[Ah (g.cells k2)];rfl
  have hcase:i=0∨i=1∨i=2∨i=3∨i=4∨i=5∨i=6∨i=7∨i=8∨i=9∨i=10∨i=11∨i=12∨i=13∨i=14∨i=15∨i=16∨i=17∨i=18∨i=19∨i=20∨i=21∨i=22∨i=23∨i=24∨i=25∨i=26∨i=27∨i=28∨i=29∨i=30∨i=31∨i=32∨i=33∨i=34∨i=35∨i=36∨i=37∨i=38∨i=39∨i=40:=by omega
  rcases hcase with rfl | rfl | rfl | rfl | rfl | rfl | rfl | rfl | rfl | rfl | rfl | rfl | rfl | rfl | rfl | rfl | rfl | rfl | rfl | rfl | rfl | rfl | rfl | rfl | rfl | rfl | rfl | rfl | rfl | rfl | rfl | rfl | rfl | rfl | rfl | rfl | rfl | rfl | rfl | rfl | rfl
  all_goals simp only[Du,salvorlaw13_StoreAll_U14Need,Do,Ac7,List.not_mem_nil,or_false,forall_eq,false_implies,forall_const]at hv'⊢
  all_goals (try simp only[hv',l1,l2,Ab]);(try simp only[V,Do,pk,Af8,DC,Bg,Ar7])
  all_goals first
   | exact⟨rfl,g⟩
   | exact g
   | exact same s1 ⟨rfl,g⟩
   | exact same s2 ⟨rfl,g⟩
   | exact same s3 ⟨rfl,g⟩
   | exact same s4 ⟨rfl,g⟩
   | skip
  ·obtain⟨r,H',⟨rfl,g'⟩,hc⟩:=fA Hc g
   exact call hc ⟨rfl,g.trans g'⟩
  ·obtain⟨r,H',⟨rfl,g'⟩,hc⟩:=fC Hc g
   exact call hc ⟨rfl,g.trans g'⟩
  ·obtain⟨r,H',⟨rfl,g'⟩,hc⟩:=fD Hc g
   exact call hc ⟨rfl,g.trans g'⟩
  ·obtain⟨r,H',⟨rfl,g'⟩,hc⟩:=fE Hc g
   exact call hc ⟨rfl,g.trans g'⟩
  ·exact call (TT (h1.grew g)) ⟨by rw[f1];rfl,g⟩
  ·exact call (TT (h2.grew g)) ⟨by rw[f2];rfl,g⟩
  ·exact call (zK (h1.grew g)) ⟨by rw[f3],g⟩
  ·exact ACalls.mono (WN _) (by rintro r H' ⟨rfl,rfl⟩;exact⟨rfl,g⟩)
 ·intro S vals H' hS g
  rw[Me];unfold GF;rw[(hS 40 (by omega)).2];rfl
theorem storeAll_calls (x0:Int)(h0:storeAll_r0.ok x0)(x1:Sl dF)(h1:storeAll_r1.ok x1):
  ACalls prog 7 (storeAll_r0.enc x0++storeAll_r1.enc x1) [] λr _=>r=.lit (.bool true):=by
 have hroom:x0≤9223372036854775807:=(vT h0).2;have hml:maxLen≤9223372036854775807:=by decide
 obtain⟨l,vl,hll,hln⟩:=sU x1 h1.1 (λy hy=>by
  have:=h1.2.2 y hy
  exact⟨this.2.2.2.2.2.2.1.1,this.2.2.2.2.2.2.2.2.1.1,this.2.2.2.2.2.2.2.2.2.1.1,(vT this.2.2.2.2.2.1).2⟩) qX (λ_ _=>rfl)
 have hbl:=h1.2.1
 show ACalls prog 7 [I x0,if x1.nil then .lit (.slice none 0 0)else .imm (x1.l.flatMap qX) x1.l.length 10] [] _
 generalize (if x1.nil then AV.lit (.slice none 0 0)else .imm (x1.l.flatMap qX) x1.l.length 10)=v at vl;refine P2 ?_;unfold GE;refine bC_of (rL vl (by omega) 40 _) ?_
 by_cases c1:iP l 40
 rotate_left
 ·simp only[c1,E0,Ag2,Aa8]
  exact As WN (by trivial)
 simp only[c1,DC,Ag4];have l40:=c1.1;have hf:∀x∈l,¬O1 x.s∧x.s.n≤9223372036854775807:=λx hx=>⟨c1.2 x hx,hln x hx⟩
 obtain⟨H1,⟨s,p,st1,lo1,hw,hs,g1⟩,hc⟩:=YI hroom vl hf (by omega) [];refine bC_of hc ?_;obtain⟨H2,⟨t,q,st2,lo2,hw2,hs2,g2⟩,hc⟩:=YI hroom vl hf (by omega) H1;refine bC_of hc ?_;obtain rfl:t=s:=hs2.trans hs.symm
 have iv:IvS t:=by
  rw[hs];exact(IvS.new x0).steps (rQ x0) hf
 have os1:=st1.os_lt;have lp1:=st1.p_lt;have st1:=st1.grew g2;generalize ([]:AH).length=o1 at*;generalize ho2:H1.length=o2 at*;have lt2:=st2.os_lt;have lp2:=st2.p_lt;have e1:YO .eql Wf (.ptr o1 0) (.lit (.pointer none))=some (B false):=rfl;have e2:YO .eql Wf (.ptr o2 0) (.lit (.pointer none))=some (B false):=rfl;simp only[e1,e2,Af4,Ae4,Ao];obtain⟨Rn,hRn,r,H3,⟨rfl,g3⟩,hc⟩:=zJ st1 hw (by omega);refine bC_of hc ?_;obtain⟨Rk,hRk,r,H4,⟨rfl,g4⟩,hc⟩:=wC (st2.grew g3) hw (by omega);refine bC_of hc ?_;obtain⟨na,nb,rfl,ona,onb⟩:=hRn.agg2;obtain⟨ka,kb,rfl,oka,okb⟩:=hRk.agg2;have g34:=g3.trans g4;have l24:=g34.1;have n1:A9 H4 (.agg [Ac,Ac])=some (.ptr H4.length 0,H4++[some (.cells [Ac,Ac])]):=by simp
 have n2:A9 (H4++[some (AObj.cells [Ac,Ac])]) (.agg [Ac,Ac])=some (.ptr (H4.length+1) 0,H4++[some (AObj.cells [Ac,Ac])]++[some (.cells [Ac,Ac])]):=by simp
 have t1:AJ 2 (H4++[some (AObj.cells [Ac,Ac])]++[some (AObj.cells [Ac,Ac])]) (.ptr H4.length 0) (.agg [na,nb])=some (H4++[some (AObj.cells [na,nb])]++[some (AObj.cells [Ac,Ac])]):=by
  rw[AF (n:=2) (xs:=[na,nb]) (cs:=[Ac,Ac]) (by simp[ona,onb]) (by simp) rfl (by simp)];simp[AZ]
 have t2:AJ 2 (H4++[some (AObj.cells [na,nb])]++[some (AObj.cells [Ac,Ac])]) (.ptr (H4.length+1) 0) (.agg [ka,kb])=some (H4++[some (AObj.cells [na,nb])]++[some (AObj.cells [ka,kb])]):=by
  rw[AF (n:=2) (xs:=[ka,kb]) (cs:=[Ac,Ac]) (by simp[oka,okb]) (by simp) rfl (by simp)];simp[AZ]
 simp only[n1,AA,n2,t1,AC,t2];have g6:Grew H4 (H4++[some (AObj.cells [na,nb])]++[some (AObj.cells [ka,kb])]):=by rw[Ai0];exact Grew.app _ _
 have m1:(H4++[some (AObj.cells [na,nb])]++[some (AObj.cells [ka,kb])])[H4.length]?=some (some (.cells [na,nb])):=by simp
 have m2:(H4++[some (AObj.cells [na,nb])]++[some (AObj.cells [ka,kb])])[H4.length+1]?=some (some (.cells [ka,kb])):=by simp
 have hl6:(H4++[some (AObj.cells [na,nb])]++[some (AObj.cells [ka,kb])]).length=H4.length+2:=by simp
 generalize (H4++[some (AObj.cells [na,nb])]++[some (AObj.cells [ka,kb])])=H6 at*;have g26:=g34.trans g6;refine bC_of (TT (st1.grew g26)) ?_;have hpl:=hw.plen
 have e3:wQ 1 1 [(B false)] H6 (I (t.pend.length:Nat)) (I (t.pend.length:Nat))=some (.sl H6.length 0 t.pend.length 1 (.ex t.pend.length),H6++[some (.cells (List.replicate t.pend.length (B false)))]):=by
  have z:BI [B false] t.pend.length=List.replicate t.pend.length (B false):=by
   unfold BI
   induction t.pend.length with
   | zero=>rfl
   | succ n ih=>rw[Ap3,List.flatten_cons,ih];rfl
  unfold wQ;simp only;rw[if_pos ⟨by omega,by omega,by omega,by omega⟩,Int.toNat_natCast,z]
 simp only[e3,AA]
 -- the bits,one by one
 refine Lf (λn y5 y6 y7 y8 y9 y10 H'=>∃j:Nat,j+n=t.pend.length∧y5=.ptr o1 0∧y6=.ptr o2 0∧y7=.ptr H4.length 0∧y8=.ptr (H4.length+1) 0∧y9=.sl H6.length 0 t.pend.length 1 (.ex t.pend.length)∧y10=I j∧H'=H6++[some (.cells (List.replicate j (B true)++List.replicate (t.pend.length - j) (B false)))]) ?_ t.pend.length ⟨0,by omega,rfl,rfl,rfl,rfl,rfl,rfl,by simp⟩;rintro n y5 y6 y7 y8 y9 y10 H7 R hR ⟨j,hj,rfl,rfl,rfl,rfl,rfl,rfl,rfl⟩;unfold GG;simp only[show ∀(a b c d:Nat) (e:Room),AY (.sl a b c d e)=some (I c)from λ_ _ _ _ _=>rfl,Ad4];rcases Ah2 j t.pend.length with hlt | hge
 ·have q1:Ar .add (I (j:Int)) (I 1)=some (I ((j+1:Nat):Int)):=by rw[Ax (by omega) (by omega)];congr 3
  have e4:Bq 1 (.sl H6.length 0 t.pend.length 1 (.ex t.pend.length)) (I (j:Int))=some (.ptr H6.length j):=by
   simp[Bq,L3,hlt]
  have e5:AJ 1 (H6++[some (AObj.cells (List.replicate j (B true)++List.replicate (t.pend.length - j) (B false)))]) (.ptr H6.length j) (B true)=some (H6++[some (.cells (List.replicate (j+1) (B true)++List.replicate (t.pend.length - (j+1)) (B false)))]):=by
   rw[AF (n:=1) (xs:=[B true]) (off:=j) (cs:=List.replicate j (B true)++List.replicate (t.pend.length - j) (B false)) rfl Da rfl (by simp;omega)]
   have:AZ (List.replicate j (B true)++List.replicate (t.pend.length - j) (B false)) j [B true]=List.replicate (j+1) (B true)++List.replicate (t.pend.length - (j+1)) (B false):=by
    rw[show t.pend.length - j=(t.pend.length - (j+1))+1 by omega,Ap3];simp[AZ,List.replicate_succ']
   rw[this];simp
  simp only[show((j:Int)<(t.pend.length:Int)) by omega,Ad7,e4,Ab,e5,AC,q1];exact hR (n - 1) _ _ _ _ _ _ _ (by omega) ⟨j+1,by omega,rfl,rfl,rfl,rfl,rfl,rfl,rfl⟩
 simp only[show ¬((j:Int)<(t.pend.length:Int)) by omega,Ac1];have ej:j=t.pend.length:=by omega
 subst ej;have g7:=Grew.app H6 [some (AObj.cells (List.replicate t.pend.length (B true)++List.replicate (t.pend.length - t.pend.length) (B false)))]
 have hsl:Ad (H6++[some (AObj.cells (List.replicate t.pend.length (B true)++List.replicate (t.pend.length - t.pend.length) (B false)))]) 1 (.sl H6.length 0 t.pend.length 1 (.ex t.pend.length))=some ((List.replicate t.pend.length true).flatMap WT,(List.replicate t.pend.length true).length):=by
  have z:(List.replicate t.pend.length true).flatMap WT=List.replicate t.pend.length (B true):=by
   induction t.pend.length with
   | zero=>rfl
   | succ n ih=>rw[Ap3,Aj3,ih];rfl
  rw[z,Bo Da (by simp)];simp
 have g27:=g26.trans g7;have m1:=g7.cells m1;have m2:=g7.cells m2;generalize (H6++[some (AObj.cells (List.replicate t.pend.length (B true)++List.replicate (t.pend.length - t.pend.length) (B false)))])=H7 at*;have l6:=g26.1;have st7:=st1.grew g27;have tt7:=st2.grew g27
 obtain⟨r,H8,⟨rfl,st8,f8⟩,hc⟩:=VC st7 hw (by omega) hsl (by
  intro i hi;simp only[Bl,An5]at hi;subst hi;exact⟨by omega,λz=>by have:=lp1 _ z;omega⟩) (by simp;omega)
 refine bC_of hc ?_;have tt8:=tt7.keepH (f8.same o2 tt7.os_lt (by omega) (λz=>by have:=lp1 _ z;omega)) λi hi=>f8.same i (tt7.p_lt i hi) (by have:=lo2 i hi;omega) (λz=>by have:=lp1 _ z;have:=lo2 i hi;omega)
 have m18:=f8.same H4.length (B5.1 m1).1 (by omega) (λz=>by have:=lp1 _ z;omega);have m28:=f8.same (H4.length+1) (B5.1 m2).1 (by omega) (λz=>by have:=lp1 _ z;omega);obtain⟨r,H9,⟨rfl,tt9,f9⟩,hc⟩:=VC (l:=[]) (v:=Ac) tt8 hw (by omega) rfl (by simp[Bl]) (by simp);refine bC_of hc ?_;have zB:=st8.keepH (f9.same o1 st8.os_lt (by omega) (λz=>by have:=lo2 _ z;omega)) λi hi=>by simp[Bl]at hi
 have lt8:=f8.len;have m19:=f9.same H4.length (by have:=(B5.1 m1).1;omega) (by omega) (λz=>by have:=lp2 _ z;omega);have m29:=f9.same (H4.length+1) (by have:=(B5.1 m2).1;omega) (by omega) (λz=>by have:=lp2 _ z;omega)
 have k1:(ME t (List.replicate t.pend.length true)).now=t.now:=by
  show Hg _ 0 t.pend t.kept=t.now
  rw[Z9 λj _ h=>iJ (by omega)];exact(IvC.now iv).symm
 have k2:(ME t []).now=t.kept:=Uk (by simp);refine zdfbZ zB tt9 (cG hw _) (cG hw _) rfl rfl rfl rfl rfl (by rw[k1];exact hRn) (by rw[show(ME t []).kept=t.kept from k2];exact hRk) (by rw[m19,m18];exact m1) (by rw[m29,m28];exact m2)
end Go.Proofs.YtadghlcfbajamaaGreat.Av
namespace Go.Proofs.YtadghlcfbajamaaGreat
theorem storeAll_holds:Rows.StoreAllSaid:=storeAll_of Av.storeAll_calls
#print axioms storeAll_holds
end Go.Proofs.YtadghlcfbajamaaGreat
end
