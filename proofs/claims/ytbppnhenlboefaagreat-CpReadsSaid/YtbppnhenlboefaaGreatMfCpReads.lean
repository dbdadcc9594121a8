/- The law and its row. No condition. -/
import Derived.Test.YtbppnhenlboefaaGreatMfJ
import Derived.Below
import Derived.Carry
import Derived.ChangeOld
import Derived.OpenShut
import Derived.ProofKit
import Derived.ShutString
import Derived.SizedLaws
import Derived.Test.YtbppnhenlboefaaGreatRows
import Derived.WalkKit
set_option linter.unusedVariables false
set_option linter.unusedSimpArgs false
set_option maxRecDepth 100000
section
namespace Go.Proofs.YtbppnhenlboefaaGreat.Av
open Go Go.RowKit Go.Proofs.Tryz
noncomputable def cpReads_r0:Rd prog 43 (Sl (UInt8×(UInt8×Unit))):=(Rd.slice (Rd.struct (Rds.cons (Rd.byte Tryz.underlying5 (by kernel_rfl)) (Rds.cons (Rd.byte Tryz.underlying5 (by kernel_rfl)) (Rds.nil _ _) rfl rfl) rfl rfl) Tryz.underlying103 (by kernel_rfl)) Tryz.underlying43 (by kernel_rfl))
noncomputable def cpReads_r1:Rd prog 44 Int:=(Rd.int .u16 Tryz.underlying44 (by kernel_rfl))
noncomputable def cpReads_r2:Rd prog 26 (Sl UInt8):=(Rd.slice (Rd.byte Tryz.underlying5 (by kernel_rfl)) Tryz.underlying26 (by kernel_rfl))
noncomputable def cpReads_r3:Rd prog 5 UInt8:=(Rd.byte Tryz.underlying5 (by kernel_rfl))
end Go.Proofs.YtbppnhenlboefaaGreat.Av
namespace Go.Proofs.YtbppnhenlboefaaGreat
open Go.ChangeShapes Go.WideShapes Go.ChangeAt Go.RowKit
namespace cpReads
set_option maxRecDepth 100000 in
theorem lifted (calls:∀(x0:(Av.Sl (UInt8×(UInt8×Unit)))),Av.cpReads_r0.ok x0→∀(x1:Int),Av.cpReads_r1.ok x1→∀(x2:(Av.Sl UInt8)),Av.cpReads_r2.ok x2→∀(x3:UInt8),Av.cpReads_r3.ok x3→Av.ACalls Tryz.prog 6 (Av.cpReads_r0.enc x0++Av.cpReads_r1.enc x1++Av.cpReads_r2.enc x2++Av.cpReads_r3.enc x3) [] λr _=>r=.lit (.bool true))(os:Os)(started:os.Started)(H:Type)(enc:TypeId×Value→H):
  ReturnsInHanded {} Tryz.checked os 6 .any (Rows.cpReadsSpec.pre6 enc Tryz.prog Tryz.f6 Rows.cpReadsRow.domain false) (Rows.cpReadsSpec.post enc Tryz.prog Tryz.f6 false true false false):=by
 refine returnsInHanded_of_change_sized (C:=Tryz.checked) Av.own started (by kernel_rfl) Tryz.func6
  (ChangeSpec.witness6 (enc:=enc) (C:=Tryz.checked) false ⟨#[],#[.slice none 0 0,.int .u16 0,.slice none 0 0,.int .u8 0],[]⟩ 8 (by kernel_rfl) (by kernel_rfl) (by kernel_rfl) (by kernel_rfl)) ?_
 intro W base args ds gs before hval0 hW hcnd hsz0 _;have hval:∀(j:Nat) t v,Tryz.f6.params[j]?=some t→args[j]?=some v→Value.okWide Tryz.prog W .any base t v:=hval0;have hW':=hW;obtain⟨p,q,hA0,hV,rfl,hfz,hnd⟩:=hW;have hA:DataW.TrodAll enc Tryz.prog W 0 (λ_=>true) true Tryz.f6.params.toList args.toList ds p:=hA0;rw[Tryz.params6]at hA hval;obtain⟨v0,vs0,d0,ds0,p0,q0,hargs,rfl,rfl,h0,r0⟩:=trodAll_cons hA;obtain⟨v1,vs1,d1,ds1,p1,q1,rfl,rfl,rfl,h1,r1⟩:=trodAll_cons r0;obtain⟨v2,vs2,d2,ds2,p2,q2,rfl,rfl,rfl,h2,r2⟩:=trodAll_cons r1;obtain⟨v3,vs3,d3,ds3,p3,q3,rfl,rfl,rfl,h3,r3⟩:=trodAll_cons r2;obtain⟨rfl,rfl,rfl⟩:=trodAll_nil r3;obtain rfl:args= #[v0,v1,v2,v3]:=by cases args;simp_all
 obtain⟨rfl,rfl⟩:=trodVars_none hV;obtain⟨b0,len0,cap0,rfl⟩:=okWide_slice Tryz.underlying43 (hval 0 43 v0 rfl rfl);have lt0:∀x∈p0,x.block<W.heap.size:=by obtain⟨m,hm⟩:=h0;exact DataW.trod_lt m _ _ _ hm
 obtain⟨x0,ok0,vr0⟩:=Av.cpReads_r0.arg1 rfl h0;obtain⟨b1,rfl⟩:=okWide_int Tryz.underlying44 (hval 1 44 v1 rfl rfl);have lt1:∀x∈p1,x.block<W.heap.size:=by obtain⟨m,hm⟩:=h1;exact DataW.trod_lt m _ _ _ hm
 obtain⟨x1,ok1,vr1⟩:=Av.cpReads_r1.arg1 rfl h1;obtain⟨b2,len2,cap2,rfl⟩:=okWide_slice Tryz.underlying26 (hval 2 26 v2 rfl rfl);have lt2:∀x∈p2,x.block<W.heap.size:=by obtain⟨m,hm⟩:=h2;exact DataW.trod_lt m _ _ _ hm
 obtain⟨x2,ok2,vr2⟩:=Av.cpReads_r2.arg1 rfl h2;obtain⟨b3,rfl⟩:=okWide_int Tryz.underlying5 (hval 3 5 v3 rfl rfl);have lt3:∀x∈p3,x.block<W.heap.size:=by obtain⟨m,hm⟩:=h3;exact DataW.trod_lt m _ _ _ hm
 obtain⟨x3,ok3,vr3⟩:=Av.cpReads_r3.arg1 rfl h3;refine(Av.law_calls (calls x0 ok0 x1 ok1 x2 ok2 x3 ok3) W (((vr0.append vr1).append vr2).append vr3)).mono fun e W' ⟨he,bel⟩=>?_
 subst he;exact⟨_,rfl,_,_,_,[],_,[],hW',trodAll_mk1 (shut_bool Tryz.underlying4 _),(trodAll_cons_mk (Below.trod Av.laidOut (by kernel_rfl) (of_decide_eq_true (by kernel_rfl)) h0 bel lt0) (trodAll_cons_mk (Below.trod Av.laidOut (by kernel_rfl) (of_decide_eq_true (by kernel_rfl)) h1 bel lt1) (trodAll_cons_mk (Below.trod Av.laidOut (by kernel_rfl) (of_decide_eq_true (by kernel_rfl)) h2 bel lt2) (trodAll_cons_mk (Below.trod Av.laidOut (by kernel_rfl) (of_decide_eq_true (by kernel_rfl)) h3 bel lt3) trodAll_mk0)))),rfl,bel.frame _,λh=>by cases h⟩
end cpReads
theorem cpReads_of (calls:∀(x0:(Av.Sl (UInt8×(UInt8×Unit)))),Av.cpReads_r0.ok x0→∀(x1:Int),Av.cpReads_r1.ok x1→∀(x2:(Av.Sl UInt8)),Av.cpReads_r2.ok x2→∀(x3:UInt8),Av.cpReads_r3.ok x3→Av.ACalls Tryz.prog 6 (Av.cpReads_r0.enc x0++Av.cpReads_r1.enc x1++Av.cpReads_r2.enc x2++Av.cpReads_r3.enc x3) [] λr _=>r=.lit (.bool true)):Rows.CpReadsSaid:=
 OpenClaim.holds_of_wide 6 Tryz.f6 rfl rfl rfl rfl rfl rfl rfl ⟨rfl,rfl,rfl,rfl,rfl⟩ rfl rfl rfl rfl rfl (by kernel_rfl) Tryz.func6 (by kernel_rfl)
  (of_decide_eq_true (by kernel_rfl)) (by unfold Func.isWrapper;first | (rw[if_pos (by decide+kernel)];kernel_rfl) | (rw[if_neg (by decide+kernel)];exact⟨rfl,rfl⟩))
  (λos started H enc _=>cpReads.lifted calls os started H enc)
end Go.Proofs.YtbppnhenlboefaaGreat
end
section
set_option maxHeartbeats 2000000
namespace Go.Proofs.YtbppnhenlboefaaGreat.Av
open Go Go.RowKit Go.Proofs.Tryz
theorem cpReads_calls (x0:Sl (UInt8×(UInt8×Unit)))(h0:cpReads_r0.ok x0)(x1:Int)(h1:cpReads_r1.ok x1)(x2:Sl UInt8)(h2:cpReads_r2.ok x2)(x3:UInt8)(h3:cpReads_r3.ok x3):
  ACalls prog 6 (cpReads_r0.enc x0++cpReads_r1.enc x1++cpReads_r2.enc x2++cpReads_r3.enc x3) [] λr _=>r=.lit (.bool true):=by
 have hx:0≤x1∧x1≤65535:=by
  have h:IntKind.u16.min≤x1∧x1≤IntKind.u16.max:=h1
  simpa[IntKind.min,IntKind.max,IntKind.signed,IntKind.bits]using h
 obtain⟨q,hq⟩:=rY x0 h0.1
 have hv:SV J9 1 x2.l (if x2.nil then .lit (.slice none 0 0)else .imm (x2.l.flatMap J9) x2.l.length 1):=by
  have hn:=h2.1;cases hnil:x2.nil with
  | true=>simp only[if_true];rw[hn hnil];exact SV.nil
  | false=>simp only[An];exact SV.imm (λ_=>rfl) (λx hx=>rfl)
 show ACalls prog 6 [oH x0,.lit (.int .u16 x1),if x2.nil then .lit (.slice none 0 0)else .imm (x2.l.flatMap J9) x2.l.length 1,.lit (.int .u8 x3.toNat)] [] _
 obtain⟨n,rfl⟩:∃n:Nat,x1=n:=⟨x1.toNat,by omega⟩;generalize (if x2.nil then AV.lit (.slice none 0 0)else .imm (x2.l.flatMap J9) x2.l.length 1)=v at hv;generalize x2.l=A at*;have hw:x3.toNat<256:=x3.toNat_lt;generalize x3.toNat=w at*;generalize oH x0=bv at*;refine Lx ?_;unfold EQ;simp only[hv.len,Ab,LH]
 by_cases k0:(200:Int)<(A.length:Int)
 ·simp only[k0,zL,Ag]
  exact A1 Qu (by trivial)
 simp only[k0,zI,Ag];obtain⟨R,hR,hp⟩:=eI hq n;refine A1 hp ?_
 refine⟨_,tL hR (Al7 _ (by omega)) (by rw[RY,Ac4];omega) (λx hx=>by
  have:=YB x hx
  rw[Ac4]at this;omega) hv (by omega) [],?_⟩
 have hn:n % 500<500:=Al7 _ (by omega);generalize n % 500=n at*;rintro r H1 ⟨os,s,m,l,k,p,rfl,st,tw,ll,sw⟩;have n1:EX .not (B true)=some (B false):=rfl;simp only[zU,zC,n1,Aj];obtain⟨R1,hR1,r,H2,⟨rfl,g2⟩,q2⟩:=Uj st sw (by omega);refine bC_of q2 ?_;obtain⟨L1,hL1,hp1⟩:=Wn hR1 (sw.now.sm (by omega)) 1;refine A1 hp1 ?_;obtain⟨-,-,t1⟩:=tw.one;rw[t1]at hL1⊢;have oL1:=SV.oneA hL1;have cn1:=Qs H2 (n:Int) oL1;simp only[zU,Ab,cn1.1,cn1.2,zT];clear cn1;have st2:=st.grew g2;have b1:=Bes.new st2 [I n,L1];have st3:=st2.grew (Grew.app H2 [some (AObj.cells [I n,L1])]);generalize (H2++[some (AObj.cells [I (n:Int),L1])])=H3 at*;generalize H2.length=c1 at*;obtain⟨r,H4,⟨sl,g4⟩,q4⟩:=iO w hw H3;refine bC_of q4 ?_;obtain⟨a1,a2⟩:=Ux w;obtain⟨r,H5,⟨rfl,p5,st5,f5⟩,q5⟩:=bX (Bd:=10000) (l:=LN w) (st3.grew g4) sw (FE sw λd hd=>sw.now.2 d hd) (by omega) (by omega) sl (λt ht=>by have:=a2 t ht;omega) (by omega);refine bC_of q5 ?_;obtain⟨s',k',e,tw',at',-,-⟩:=sJ tw (by omega) ll w;have w5:=kG sw (LN w) (Bd:=10000) (FE sw λd hd=>sw.now.2 d hd) (by omega);rw[e]at st5 w5⊢;have b5:=(b1.grew g4).step f5;have on:=Zp H5 0;simp only[on.1,on.2,zT];clear on;have b6:=Bes.new st5 [I 0,S (Ay []),I 0,I 0,I 0,I 0,I 0];have g6:=Grew.app H5 [some (AObj.cells [I 0,S (Ay []),I 0,I 0,I 0,I 0,I 0])];have st6:=st5.grew g6;have b5:=b5.grew g6;clear g6;generalize (H5++[some (AObj.cells [I 0,S (Ay []),I 0,I 0,I 0,I 0,I 0])])=H6 at*;generalize H5.length=c2 at*;obtain⟨R7,hR7,r,H7,⟨rfl,g7⟩,q7⟩:=Uj st6 w5 (by omega);refine bC_of q7 ?_;obtain⟨L7,hL7,hp7⟩:=Wn hR7 (w5.now.sm (by omega)) 1;refine A1 hp7 ?_;obtain⟨-,-,t7⟩:=tw'.one;rw[t7]at hL7⊢;have cn7:=Qs H7 (n:Int) (SV.oneA hL7);simp only[zU,Ab,cn7.1,cn7.2,zT];clear cn7;have st7:=st6.grew g7;have b7:=Bes.new st7 [I n,L7];have g8:=Grew.app H7 [some (AObj.cells [I (n:Int),L7])];have st8:=st7.grew g8;have b5:=(b5.grew g7).grew g8;have b6:=(b6.grew g7).grew g8;clear g7 g8;generalize (H7++[some (AObj.cells [I (n:Int),L7])])=H8 at*;generalize H7.length=c3 at*;obtain⟨R9,hR9,r,H9,⟨rfl,g9⟩,q9⟩:=Uj st8 w5 (by omega);refine bC_of q9 ?_;obtain⟨L9,hL9,hp9⟩:=Wn hR9 (w5.now.sm (by omega)) 2;refine A1 hp9 ?_;obtain⟨t8,t9⟩:=tw'.get;rw[t9]at hL9⊢;have cn9:=Qs H9 (n:Int) (SV.oneA hL9);simp only[zU,Ab,cn9.1,cn9.2,zT];clear cn9;have xZ:=st8.grew g9;have b9:=Bes.new xZ [I n,L9];have g10:=Grew.app H9 [some (AObj.cells [I (n:Int),L9])];have b5:=(b5.grew g9).grew g10;have b6:=(b6.grew g9).grew g10;have b7:=(b7.grew g9).grew g10;generalize (H9++[some (AObj.cells [I (n:Int),L9])])=H10 at*;generalize H9.length=c4 at*;have rd2':∀a b:AV,Am true 2 [a,b] 0=some (.agg [a,b]):=λ_ _=>rfl
 have lk:=MW w5 2;rw[tw'.content]at lk;obtain⟨V1,hV1,hq1⟩:=Pc (size:=(n:Int)) hL9 (by simp only at lk⊢;omega) 0 4096;obtain⟨V2,hV2,hq2⟩:=Pc (size:=(n:Int)) hL1 (by simp only;omega) 0 4096;have sm:=VX (a:=(n:Int)) (b:=(n:Int)) hL1 hL7 (by simp only;omega);rw[decide_eq_true (show WX (n:Int) l (n:Int) l from⟨rfl,rfl⟩)]at sm;simp only[zQ,Ak b5.at',Ak b6.at',Ak b7.at',Ak b9.at',rd2',Cn,zE,zW,yZ,t8,QB];refine bP_of sm ?_;simp only[zQ,Ak b5.at',Ak b6.at',Ak b7.at',Ak b9.at',rd2',Cn,zE,zW,yZ,QB];refine bP_of hq1 ?_;simp only[Ym (hV1.bytes H10),zQ,Ak b5.at',Ak b6.at',Ak b7.at',Ak b9.at',rd2',Cn,zE,zW,yZ,QB];refine bP_of hq2 ?_;simp only[Ym (hV2.bytes H10),Gp,gZ tw.ca tw'.cb at' 4096,zQ,Ak b5.at',Ak b6.at',Ak b7.at',Ak b9.at',rd2',Cn,zE,zW,yZ,QB];refine bP_of Qu ?_;simp only[Ac2,Aw]
end Go.Proofs.YtbppnhenlboefaaGreat.Av
namespace Go.Proofs.YtbppnhenlboefaaGreat
theorem cpReads_holds:Rows.CpReadsSaid:=cpReads_of Av.cpReads_calls
#print axioms cpReads_holds
end Go.Proofs.YtbppnhenlboefaaGreat
end
