/- The law and its row. No condition. -/
import Derived.Test.YtbppnhenlboefaaGreatMfJ
import Derived.Below
import Derived.Carry
import Derived.ChangeOld
import Derived.OpenShut
import Derived.ProofKit
import Derived.ShutString
import Derived.SizedLaws
import Derived.Test.YtbppnhenlboefaaGreatRows
import Derived.WalkKit
set_option linter.unusedVariables false
set_option linter.unusedSimpArgs false
set_option maxRecDepth 100000
section
namespace Go.Proofs.YtbppnhenlboefaaGreat.Av
open Go Go.RowKit Go.Proofs.Tryz
noncomputable def cpFar_r0:Rd prog 54 Int:=(Rd.int .u32 Tryz.underlying54 (by kernel_rfl))
noncomputable def cpFar_r1:Rd prog 5 UInt8:=(Rd.byte Tryz.underlying5 (by kernel_rfl))
noncomputable def cpFar_r2:Rd prog 5 UInt8:=(Rd.byte Tryz.underlying5 (by kernel_rfl))
end Go.Proofs.YtbppnhenlboefaaGreat.Av
namespace Go.Proofs.YtbppnhenlboefaaGreat
open Go.ChangeShapes Go.WideShapes Go.ChangeAt Go.RowKit
namespace cpFar
set_option maxRecDepth 100000 in
theorem lifted (calls:∀(x0:Int),Av.cpFar_r0.ok x0→∀(x1:UInt8),Av.cpFar_r1.ok x1→∀(x2:UInt8),Av.cpFar_r2.ok x2→Av.ACalls Tryz.prog 5 (Av.cpFar_r0.enc x0++Av.cpFar_r1.enc x1++Av.cpFar_r2.enc x2) [] λr _=>r=.lit (.bool true))(os:Os)(started:os.Started)(H:Type)(enc:TypeId×Value→H):
  ReturnsInHanded {} Tryz.checked os 5 .any (Rows.cpFarSpec.pre6 enc Tryz.prog Tryz.f5 Rows.cpFarRow.domain false) (Rows.cpFarSpec.post enc Tryz.prog Tryz.f5 false true false false):=by
 refine returnsInHanded_of_change_sized (C:=Tryz.checked) Av.own started (by kernel_rfl) Tryz.func5
  (ChangeSpec.witness6 (enc:=enc) (C:=Tryz.checked) false ⟨#[],#[.int .u32 0,.int .u8 0,.int .u8 0],[]⟩ 8 (by kernel_rfl) (by kernel_rfl) (by kernel_rfl) (by kernel_rfl)) ?_
 intro W base args ds gs before hval0 hW hcnd hsz0 _;have hval:∀(j:Nat) t v,Tryz.f5.params[j]?=some t→args[j]?=some v→Value.okWide Tryz.prog W .any base t v:=hval0;have hW':=hW;obtain⟨p,q,hA0,hV,rfl,hfz,hnd⟩:=hW;have hA:DataW.TrodAll enc Tryz.prog W 0 (λ_=>true) true Tryz.f5.params.toList args.toList ds p:=hA0;rw[Tryz.params5]at hA hval;obtain⟨v0,vs0,d0,ds0,p0,q0,hargs,rfl,rfl,h0,r0⟩:=trodAll_cons hA;obtain⟨v1,vs1,d1,ds1,p1,q1,rfl,rfl,rfl,h1,r1⟩:=trodAll_cons r0;obtain⟨v2,vs2,d2,ds2,p2,q2,rfl,rfl,rfl,h2,r2⟩:=trodAll_cons r1;obtain⟨rfl,rfl,rfl⟩:=trodAll_nil r2;obtain rfl:args= #[v0,v1,v2]:=by cases args;simp_all
 obtain⟨rfl,rfl⟩:=trodVars_none hV;obtain⟨b0,rfl⟩:=okWide_int Tryz.underlying54 (hval 0 54 v0 rfl rfl);have lt0:∀x∈p0,x.block<W.heap.size:=by obtain⟨m,hm⟩:=h0;exact DataW.trod_lt m _ _ _ hm
 obtain⟨x0,ok0,vr0⟩:=Av.cpFar_r0.arg1 rfl h0;obtain⟨b1,rfl⟩:=okWide_int Tryz.underlying5 (hval 1 5 v1 rfl rfl);have lt1:∀x∈p1,x.block<W.heap.size:=by obtain⟨m,hm⟩:=h1;exact DataW.trod_lt m _ _ _ hm
 obtain⟨x1,ok1,vr1⟩:=Av.cpFar_r1.arg1 rfl h1;obtain⟨b2,rfl⟩:=okWide_int Tryz.underlying5 (hval 2 5 v2 rfl rfl);have lt2:∀x∈p2,x.block<W.heap.size:=by obtain⟨m,hm⟩:=h2;exact DataW.trod_lt m _ _ _ hm
 obtain⟨x2,ok2,vr2⟩:=Av.cpFar_r2.arg1 rfl h2;refine(Av.law_calls (calls x0 ok0 x1 ok1 x2 ok2) W ((vr0.append vr1).append vr2)).mono fun e W' ⟨he,bel⟩=>?_
 subst he;exact⟨_,rfl,_,_,_,[],_,[],hW',trodAll_mk1 (shut_bool Tryz.underlying4 _),(trodAll_cons_mk (Below.trod Av.laidOut (by kernel_rfl) (of_decide_eq_true (by kernel_rfl)) h0 bel lt0) (trodAll_cons_mk (Below.trod Av.laidOut (by kernel_rfl) (of_decide_eq_true (by kernel_rfl)) h1 bel lt1) (trodAll_cons_mk (Below.trod Av.laidOut (by kernel_rfl) (of_decide_eq_true (by kernel_rfl)) h2 bel lt2) trodAll_mk0))),rfl,bel.frame _,λh=>by cases h⟩
end cpFar
theorem cpFar_of (calls:∀(x0:Int),Av.cpFar_r0.ok x0→∀(x1:UInt8),Av.cpFar_r1.ok x1→∀(x2:UInt8),Av.cpFar_r2.ok x2→Av.ACalls Tryz.prog 5 (Av.cpFar_r0.enc x0++Av.cpFar_r1.enc x1++Av.cpFar_r2.enc x2) [] λr _=>r=.lit (.bool true)):Rows.CpFarSaid:=
 OpenClaim.holds_of_wide 5 Tryz.f5 rfl rfl rfl rfl rfl rfl rfl ⟨rfl,rfl,rfl,rfl,rfl⟩ rfl rfl rfl rfl rfl (by kernel_rfl) Tryz.func5 (by kernel_rfl)
  (of_decide_eq_true (by kernel_rfl)) (by unfold Func.isWrapper;first | (rw[if_pos (by decide+kernel)];kernel_rfl) | (rw[if_neg (by decide+kernel)];exact⟨rfl,rfl⟩))
  (λos started H enc _=>cpFar.lifted calls os started H enc)
end Go.Proofs.YtbppnhenlboefaaGreat
end
section
set_option maxHeartbeats 2000000
namespace Go.Proofs.YtbppnhenlboefaaGreat.Av
open Go Go.RowKit Go.Proofs.Tryz
theorem tQ:(AX (Li 20) [97] true).1=(1,0)∧ON [97] 20 0 [] (AX (Li 20) [97] true).2∧(AX (Li 20) [97] true).2.made=1:=by
 refine⟨rfl,⟨by decide,by decide,by decide,rfl,rfl,rfl⟩,rfl⟩
theorem nV {a:Int}{k:Nat}(h0:0≤a)(h1:a≤4294967295)(hk:k<9):∃m,Aq .shl (I a) (.lit (.int .u64 k))=some (I m)∧0≤m∧m≤1099511627520:=by
 have:k=0∨k=1∨k=2∨k=3∨k=4∨k=5∨k=6∨k=7∨k=8:=by omega
 refine⟨a*2 ^ k,?_⟩;rcases this with rfl | rfl | rfl | rfl | rfl | rfl | rfl | rfl | rfl
 all_goals refine⟨?_,by omega,by omega⟩
 all_goals (simp[Aq,Gq,KB,IntKind.bits,IntKind.wrap,IntKind.signed];try omega)
theorem cU {w:Nat}{n e:Int}{s:StS}{os co:Nat}{p:AV}{H:AH}(hw:w<256)(st:StAt s os p H)(sw:SW 800000 s)(hc:H[co]?=some (some (.cells [I e,S (Ay []),I 0,I 0,I 0,I 0,I 0])))
  (hs:(w % 4=2∧e=4∧¬PC s.now.1 s.now.2 [98])∨(w % 4≠2∧e=0∧TW 20 n [] n [] s)):
  E5 (.lit (.int .u8 w)) (.ptr os 0) (I n) (I 0) (I 0) (.ptr co 0) H λr _=>r=.lit (.bool true):=by
 rw[Ks];unfold FP;obtain⟨R,hR,r,H1,⟨rfl,g1⟩,q⟩:=Uj st sw (by omega);refine bC_of q ?_;refine A1 (iQ hR (sw.now.sm (by omega)) [98]) ?_;simp only[zU,Ab];rw[Kt];unfold FQ;have st1:=st.grew g1;obtain⟨R2,hR2,r,H2,⟨rfl,g2⟩,q2⟩:=Uj st1 sw (by omega);refine bC_of q2 ?_;obtain⟨L,hL,hp⟩:=Wn hR2 (sw.now.sm (by omega)) (JU s.now.1 s.now.2 [98]);refine A1 hp ?_;have oL:=SV.oneA hL;have cn:=Qs H2 (E2 s.now.1 s.now.2 (JU s.now.1 s.now.2 [98])).size oL;simp only[zU,Ab,cn.1,cn.2,zT];clear cn;have st2:=st1.grew g2;have g3:=Grew.app H2 [some (AObj.cells [I (E2 s.now.1 s.now.2 (JU s.now.1 s.now.2 [98])).size,L])];have st3:=st2.grew g3;have c3:=g3.cells (g2.cells (g1.cells hc));have top:(H2++[some (AObj.cells [I (E2 s.now.1 s.now.2 (JU s.now.1 s.now.2 [98])).size,L])])[H2.length]?=_:=C6;generalize (H2++[some (AObj.cells [I (E2 s.now.1 s.now.2 (JU s.now.1 s.now.2 [98])).size,L])])=H3 at*;generalize H2.length=cc at*;rw[Ku];unfold FS;simp only[CD,yY,Dg,Ab,zW,yZ,An];rw[Kw];unfold FU;simp only[Ag,Aj];rw[Kv];unfold FT;have r1:Aq .rem (.lit (.int .u8 (w:Int))) (.lit (.int .u8 4))=some (.lit (.int .u8 ((w % 4:Nat):Int))):=by rw[IA (by omega) (by omega)];rfl
 simp only[r1,Ab,Cn];rw[Ky];unfold FX;rcases hs with⟨hm,rfl,hn⟩ | ⟨hm,rfl,tw⟩
 ·simp only[show(((w % 4:Nat):Int)=2)from by omega,zE,Ag,zH,zQ,Ak c3,Cn,zW,yZ,hn,Dg,Bo,Od]
  refine bC_of (Qu H3) ?_;simp only[Ab]
 ·obtain⟨f1,f2⟩:=tw.find
  obtain⟨k1,k2⟩:=tw.get
  have fr:KY s=20:=by
   unfold KY;rw[tw.cap,tw.now];rfl
  rw[f2,k2]at top hL;have hl0:Bf L=some (I 0):=by rw[hL.len];rfl
  simp only[show ¬(((w % 4:Nat):Int)=2)from by omega,zI,Ag];rw[Kx];unfold FV;simp only[zQ,Ak c3,Ak top,Cn,zW,yZ,f1,zE,hl0,Od];refine bC_of (iS st3 sw (by omega)) ?_;simp only[fr,Cn,zE,Ab,zW,beq_self_eq_true,Od];refine bC_of (Qu H3) ?_;simp only[Ac2,Aw]
theorem kR {w:Nat}{n:Int}{os:Nat}{p:AV}{H:AH}(hw:w<256)(hn:32768<n)(hn':n≤1099511627776)(st:StAt (Li 20) os p H):
  Dy (.lit (.int .u8 w)) (.ptr os 0) (I n) H λr _=>r=.lit (.bool true):=by
 rw[Lr];unfold GA;obtain⟨r,H1,⟨rfl,p1,st1,f1⟩,q⟩:=Uk st (S5 20) (by omega) (name:=[97]) (by simp) true;refine bC_of q ?_;have w1:=Om (S5 20) [97] true;obtain⟨o1,o2,o3⟩:=tQ;generalize AX (Li 20) [97] true=O at*;rw[o1];simp only[zU,Ab];rw[Ls];unfold GB;obtain⟨r,H2,⟨rfl,p2,st2,f2⟩,q2⟩:=PU st1 w1 (by omega) 1 n;refine bC_of q2 ?_;have w2:=LC w1 1 n;obtain⟨s2,t1,t2,t3⟩:=o2.truncR (LD (by omega) (by omega) (by omega) hn').1 (LD (n:=0) (by omega) (by omega) (by omega) hn').2;rw[t1]at w2 st2;rw[t1];have w3:SW 4000 s2:=w2.mono (by omega);rw[Lt];unfold GC;obtain⟨r,H3,⟨sl,g3⟩,q3⟩:=iO w hw H2;refine bC_of q3 ?_;obtain⟨a1,a2⟩:=Ux w;obtain⟨r,H4,⟨rfl,p4,st4,f4⟩,q4⟩:=bX (Bd:=4096) (l:=LN w) (st2.grew g3) w3 (FE w3 λd hd=>Ae1 (w3.now.2 d hd) (by omega)) (by omega) (by omega) sl (λt ht=>by have:=a2 t ht;omega) (by omega);refine bC_of q4 ?_;have on:=Zp H4 (VL s2 (LN w)).1;simp only[on.1,on.2,zT];clear on;have g5:=Grew.app H4 [some (AObj.cells [I (VL s2 (LN w)).1,S (Ay []),I 0,I 0,I 0,I 0,I 0])];rcases sI t2 (t3.trans o3) hn hn' w with⟨hm,e⟩ | ⟨hm,s',e,tw⟩
 ·rw[e]at st4 g5⊢
  exact cU hw (st4.grew g5) (w3.mono (by omega)) C6 (.inl ⟨hm,rfl,t2.find.2.2⟩)
 ·have w5:=kG w3 (LN w) (Bd:=4096) (FE w3 λd hd=>Ae1 (w3.now.2 d hd) (by omega)) (by omega)
  rw[e]at w5;have w5:SW 800000 s':=w5.mono (by omega);rw[e]at st4 g5⊢;exact cU hw (st4.grew g5) w5 C6 (.inr ⟨hm,rfl,tw⟩)
theorem cpFar_calls (x0:Int)(h0:cpFar_r0.ok x0)(x1:UInt8)(h1:cpFar_r1.ok x1)(x2:UInt8)(h2:cpFar_r2.ok x2):
  ACalls prog 5 (cpFar_r0.enc x0++cpFar_r1.enc x1++cpFar_r2.enc x2) [] λr _=>r=.lit (.bool true):=by
 have hx:0≤x0∧x0≤4294967295:=by
  have h:IntKind.u32.min≤x0∧x0≤IntKind.u32.max:=h0
  simpa[IntKind.min,IntKind.max,IntKind.signed,IntKind.bits]using h
 show ACalls prog 5 [.lit (.int .u32 x0),.lit (.int .u8 x1.toNat),.lit (.int .u8 x2.toNat)] [] _
 have hy:x1.toNat<256:=x1.toNat_lt;have hz:x2.toNat<256:=x2.toNat_lt;generalize x1.toNat=y at*;generalize x2.toNat=w at*
 obtain⟨r,H',hr,hq⟩:=NJ (a0:=.lit (.int .u32 x0)) (a1:=.lit (.int .u8 y)) (a2:=.lit (.int .u8 w)) (H:=[]) (K:=λr _=>r=.lit (.bool true)) (by
  unfold Ke;obtain⟨r,H1,⟨p,rfl,ll1,st0,g0,hid⟩,q⟩:=iU 20 [] (by omega);refine bC_of q ?_;have n1:VM .eql S6 (.ptr ([]:AH).length 0) (.lit (.pointer none))=some (B false):=rfl;have c1:RI .i64 (.lit (.int .u32 x0))=some (I x0):=LJ (by omega) (by omega);have c2:Aq .rem (.lit (.int .u8 (y:Int))) (.lit (.int .u8 9))=some (.lit (.int .u8 ((y % 9:Nat):Int))):=by rw[IA (by omega) (by omega)];rfl
  have c3:RI .u64 (.lit (.int .u8 ((y % 9:Nat):Int)))=some (.lit (.int .u64 ((y % 9:Nat):Int))):=TX (by omega) (by omega);obtain⟨m,c4,c5,c6⟩:=nV hx.1 hx.2 (show y % 9<9 by omega);simp only[n1,zC,Aj,c1,c2,c3,c4,Ax (show -9223372036854775808≤m+32768 by omega) (by omega),Ax (show -9223372036854775808≤m+32768+1 by omega) (by omega),LH]
  by_cases k:1099511627776<m+32768+1
  ·simp only[k,zL]
   exact kR hz (by omega) (by omega) st0
  ·simp only[k,zI]
   exact kR hz (by omega) (by omega) st0)
 exact ACalls.mono hq (by rintro r2 H2 ⟨rfl,rfl⟩;exact hr)
end Go.Proofs.YtbppnhenlboefaaGreat.Av
namespace Go.Proofs.YtbppnhenlboefaaGreat
theorem cpFar_holds:Rows.CpFarSaid:=cpFar_of Av.cpFar_calls
#print axioms cpFar_holds
end Go.Proofs.YtbppnhenlboefaaGreat
end
