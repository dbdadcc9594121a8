/- The law and its row. No condition. -/
import Derived.Test.YtlhiaihmkjlaaaaGreatMsL
import Derived.Below
import Derived.Carry
import Derived.ChangeOld
import Derived.OpenShut
import Derived.ProofKit
import Derived.ShutString
import Derived.SizedLaws
import Derived.Test.YtlhiaihmkjlaaaaGreatRows
import Derived.WalkKit
set_option linter.unusedVariables false
set_option linter.unusedSimpArgs false
set_option maxRecDepth 100000
section
namespace Go.Proofs.YtlhiaihmkjlaaaaGreat.Av
open Go Go.RowKit
noncomputable def storeSynced_r0 : Rd Tryz.prog 3 Int:=(Rd.int .i64 Tryz.underlying3 (by kernel_rfl))
noncomputable def storeSynced_r1 : Rd Tryz.prog 22 (Sl (UInt8 × (UInt8 × (UInt8 × (Int × (Int × (Int × ((Sl UInt8) × (Bool × ((Sl Bool) × ((Sl Int) × Unit))))))))))):=(Rd.slice (Rd.struct (Rds.cons (Rd.byte Tryz.underlying5 (by kernel_rfl)) (Rds.cons (Rd.byte Tryz.underlying5 (by kernel_rfl)) (Rds.cons (Rd.byte Tryz.underlying5 (by kernel_rfl)) (Rds.cons (Rd.int .i64 Tryz.underlying3 (by kernel_rfl)) (Rds.cons (Rd.int .i64 Tryz.underlying3 (by kernel_rfl)) (Rds.cons (Rd.int .i64 Tryz.underlying3 (by kernel_rfl)) (Rds.cons (Rd.slice (Rd.byte Tryz.underlying5 (by kernel_rfl)) Tryz.underlying36 (by kernel_rfl)) (Rds.cons (Rd.bool Tryz.underlying4 (by kernel_rfl)) (Rds.cons (Rd.slice (Rd.bool Tryz.underlying4 (by kernel_rfl)) Tryz.underlying37 (by kernel_rfl)) (Rds.cons (Rd.slice (Rd.int .i64 Tryz.underlying3 (by kernel_rfl)) Tryz.underlying38 (by kernel_rfl)) (Rds.nil _ _) rfl rfl) rfl rfl) rfl rfl) rfl rfl) rfl rfl) rfl rfl) rfl rfl) rfl rfl) rfl rfl) rfl rfl) Tryz.underlying40 (by kernel_rfl)) Tryz.underlying22 (by kernel_rfl))
noncomputable def storeSynced_r2 : Rd Tryz.prog 5 UInt8:=(Rd.byte Tryz.underlying5 (by kernel_rfl))
noncomputable def storeSynced_r3 : Rd Tryz.prog 37 (Sl Bool):=(Rd.slice (Rd.bool Tryz.underlying4 (by kernel_rfl)) Tryz.underlying37 (by kernel_rfl))
end Go.Proofs.YtlhiaihmkjlaaaaGreat.Av
namespace Go.Proofs.YtlhiaihmkjlaaaaGreat
open Go.ChangeShapes Go.WideShapes Go.ChangeAt Go.RowKit
namespace storeSynced
set_option maxRecDepth 100000 in
theorem lifted (calls : ∀ (x0 : Int),Av.storeSynced_r0.ok x0→∀ (x1 : (Av.Sl (UInt8 × (UInt8 × (UInt8 × (Int × (Int × (Int × ((Av.Sl UInt8) × (Bool × ((Av.Sl Bool) × ((Av.Sl Int) × Unit)))))))))))),Av.storeSynced_r1.ok x1→∀ (x2 : UInt8),Av.storeSynced_r2.ok x2→∀ (x3 : (Av.Sl Bool)),Av.storeSynced_r3.ok x3→Av.ACalls Tryz.prog 5 (Av.storeSynced_r0.enc x0 ++ Av.storeSynced_r1.enc x1 ++ Av.storeSynced_r2.enc x2 ++ Av.storeSynced_r3.enc x3) [] λr _=>r = .lit (.bool true)) (os : Os) (started : os.Started) (H : Type) (enc : TypeId × Value→H) :
  ReturnsInHanded {} Tryz.checked os 5 .any (Rows.storeSyncedSpec.pre6 enc Tryz.prog Tryz.f5 Rows.storeSyncedRow.domain false) (Rows.storeSyncedSpec.post enc Tryz.prog Tryz.f5 false true false false):=by
 refine returnsInHanded_of_change_sized (C:=Tryz.checked) Av.own started (by kernel_rfl) Tryz.func5
  (ChangeSpec.witness6 (enc:=enc) (C:=Tryz.checked) false ⟨#[],#[.int .i64 0,.slice none 0 0,.int .u8 0,.slice none 0 0],[]⟩ 8 (by kernel_rfl) (by kernel_rfl) (by kernel_rfl) (by kernel_rfl)) ?_
 intro W base args ds gs before hval0 hW hcnd hsz0 _;have hval : ∀ (j : Nat) t v,Tryz.f5.params[j]? = some t→args[j]? = some v→Value.okWide Tryz.prog W .any base t v:=hval0;have hW':=hW;obtain ⟨p,q,hA0,hV,rfl,hfz,hnd⟩:=hW;have hA : DataW.TrodAll enc Tryz.prog W 0 (λ_=>true) true Tryz.f5.params.toList args.toList ds p:=hA0;rw [Tryz.params5] at hA hval;obtain ⟨v0,vs0,d0,ds0,p0,q0,hargs,rfl,rfl,h0,r0⟩:=trodAll_cons hA;obtain ⟨v1,vs1,d1,ds1,p1,q1,rfl,rfl,rfl,h1,r1⟩:=trodAll_cons r0;obtain ⟨v2,vs2,d2,ds2,p2,q2,rfl,rfl,rfl,h2,r2⟩:=trodAll_cons r1;obtain ⟨v3,vs3,d3,ds3,p3,q3,rfl,rfl,rfl,h3,r3⟩:=trodAll_cons r2;obtain ⟨rfl,rfl,rfl⟩:=trodAll_nil r3;obtain rfl : args = #[v0,v1,v2,v3]:=by cases args; simp_all
 obtain ⟨rfl,rfl⟩:=trodVars_none hV;obtain ⟨b0,rfl⟩:=okWide_int Tryz.underlying3 (hval 0 3 v0 rfl rfl);have lt0 : ∀ x ∈ p0,x.block < W.heap.size:=by obtain ⟨m,hm⟩:=h0; exact DataW.trod_lt m _ _ _ hm
 obtain ⟨x0,ok0,vr0⟩:=Av.storeSynced_r0.arg1 rfl h0;obtain ⟨b1,len1,cap1,rfl⟩:=okWide_slice Tryz.underlying22 (hval 1 22 v1 rfl rfl);have lt1 : ∀ x ∈ p1,x.block < W.heap.size:=by obtain ⟨m,hm⟩:=h1; exact DataW.trod_lt m _ _ _ hm
 obtain ⟨x1,ok1,vr1⟩:=Av.storeSynced_r1.arg1 rfl h1;obtain ⟨b2,rfl⟩:=okWide_int Tryz.underlying5 (hval 2 5 v2 rfl rfl);have lt2 : ∀ x ∈ p2,x.block < W.heap.size:=by obtain ⟨m,hm⟩:=h2; exact DataW.trod_lt m _ _ _ hm
 obtain ⟨x2,ok2,vr2⟩:=Av.storeSynced_r2.arg1 rfl h2;obtain ⟨b3,len3,cap3,rfl⟩:=okWide_slice Tryz.underlying37 (hval 3 37 v3 rfl rfl);have lt3 : ∀ x ∈ p3,x.block < W.heap.size:=by obtain ⟨m,hm⟩:=h3; exact DataW.trod_lt m _ _ _ hm
 obtain ⟨x3,ok3,vr3⟩:=Av.storeSynced_r3.arg1 rfl h3;refine (Av.law_calls (calls x0 ok0 x1 ok1 x2 ok2 x3 ok3) W (((vr0.append vr1).append vr2).append vr3)).mono fun e W' ⟨he,bel⟩ => ?_
 subst he;exact ⟨_,rfl,_,_,_,[],_,[],hW',trodAll_mk1 (shut_bool Tryz.underlying4 _),(trodAll_cons_mk (Below.trod Av.laidOut (by kernel_rfl) (of_decide_eq_true (by kernel_rfl)) h0 bel lt0) (trodAll_cons_mk (Below.trod Av.laidOut (by kernel_rfl) (of_decide_eq_true (by kernel_rfl)) h1 bel lt1) (trodAll_cons_mk (Below.trod Av.laidOut (by kernel_rfl) (of_decide_eq_true (by kernel_rfl)) h2 bel lt2) (trodAll_cons_mk (Below.trod Av.laidOut (by kernel_rfl) (of_decide_eq_true (by kernel_rfl)) h3 bel lt3) trodAll_mk0)))),rfl,bel.frame _,λh=>by cases h⟩
end storeSynced
theorem storeSynced_of (calls : ∀ (x0 : Int),Av.storeSynced_r0.ok x0→∀ (x1 : (Av.Sl (UInt8 × (UInt8 × (UInt8 × (Int × (Int × (Int × ((Av.Sl UInt8) × (Bool × ((Av.Sl Bool) × ((Av.Sl Int) × Unit)))))))))))),Av.storeSynced_r1.ok x1→∀ (x2 : UInt8),Av.storeSynced_r2.ok x2→∀ (x3 : (Av.Sl Bool)),Av.storeSynced_r3.ok x3→Av.ACalls Tryz.prog 5 (Av.storeSynced_r0.enc x0 ++ Av.storeSynced_r1.enc x1 ++ Av.storeSynced_r2.enc x2 ++ Av.storeSynced_r3.enc x3) [] λr _=>r = .lit (.bool true)) : Rows.StoreSyncedSaid :=
 OpenClaim.holds_of_wide 5 Tryz.f5 rfl rfl rfl rfl rfl rfl rfl ⟨rfl,rfl,rfl,rfl,rfl⟩ rfl rfl rfl rfl rfl (by kernel_rfl) Tryz.func5 (by kernel_rfl)
  (of_decide_eq_true (by kernel_rfl)) (by unfold Func.isWrapper; first | (rw [if_pos (by decide +kernel)]; kernel_rfl) | (rw [if_neg (by decide +kernel)]; exact ⟨rfl,rfl⟩))
  (λos started H enc _=>storeSynced.lifted calls os started H enc)
end Go.Proofs.YtlhiaihmkjlaaaaGreat
end
section
set_option maxHeartbeats 4000000
namespace Go.Proofs.YtlhiaihmkjlaaaaGreat.Av
open Go Go.RowKit
theorem storeSynced_calls (x0 : Int) (h0 : storeSynced_r0.ok x0) (x1 : Sl XStp) (h1 : storeSynced_r1.ok x1) (x2 : UInt8) (h2 : storeSynced_r2.ok x2) (x3 : Sl Bool) (h3 : storeSynced_r3.ok x3) :
  ACalls Tryz.prog 5 (storeSynced_r0.enc x0 ++ storeSynced_r1.enc x1 ++ storeSynced_r2.enc x2 ++ storeSynced_r3.enc x3) [] λr _=>r = .lit (.bool true):=by
 have hroom : x0≤9223372036854775807:=(in64h h0).2;have hml : maxLen≤9223372036854775807:=by decide
 obtain ⟨l,vl,hll,hln⟩:=steps_sv x1 h1.1 (λy hy=>by
  have:=h1.2.2 y hy
  exact ⟨this.2.2.2.2.2.2.1.1,this.2.2.2.2.2.2.2.2.1.1,this.2.2.2.2.2.2.2.2.2.1.1,(in64h this.2.2.2.2.2.1).2⟩) encXs (λ_ _=>rfl)
 have vb:=slT_sv x3 h3.1;have hbl:=h1.2.1;have hbb:=h3.2.1
 show ACalls Tryz.prog 5 [I x0,if x1.nil then .lit (.slice none 0 0) else .imm (x1.l.flatMap encXs) x1.l.length 10,.lit (.int .u8 x2.toNat),if x3.nil then .lit (.slice none 0 0) else .imm (x3.l.flatMap encT) x3.l.length 1] [] _
 generalize (if x1.nil then AV.lit (.slice none 0 0) else .imm (x1.l.flatMap encXs) x1.l.length 10)=v at vl;generalize (if x3.nil then AV.lit (.slice none 0 0) else .imm (x3.l.flatMap encT) x3.l.length 1)=w at vb;generalize x3.l=bits at *;refine law_of (zsnZ ?_);unfold zmiZ;refine zyZ (lawFew_p vl (by omega) 40) ?_
 by_cases c1 : fewS l 40
 rotate_left
 ·simp only [c1,dFf,zdyZ,Bool.not_false,zbZ,zcxZ,show ((true == false)=false) from rfl,zgdZ,zoZ,if_true,zpZ,zbcZ]
  exact zyZ zwmZ (by trivial)
 simp only [c1,dTt,zdyZ,Bool.not_true,zbZ,zcxZ,beq_self_eq_true,zbsZ,vb.len,zwbZ,zoZ,if_false,Bool.false_eq_true,zpZ]
 by_cases c2 : (200 : Int) < (bits.length : Int)
 ·simp only [c2,dTt,zbcZ]
  exact zyZ zwmZ (by trivial)
 simp only [c2,dFf,zmZ];have l40:=c1.1;obtain ⟨r,H1,⟨s,p,q,rfl,duo,hw,hs⟩,hc⟩:=played_c hroom vl (λx hx=>⟨c1.2 x hx,hln x hx⟩) (by omega) [];refine bC_of hc ?_
 have iv : IvS s:=by
  rw [hs];exact (IvS.new x0).steps (newS_w x0) λx hx=>⟨c1.2 x hx,hln x hx⟩
 have hw : SW 163960 s:=hw.mono (by omega);generalize ([] : AH).length=os at *;have e1 : abN .eql nilP (.ptr os 0) (.lit (.pointer none))=some (B false):=rfl;have nb':=nameK_len x2;simp only [e1,zbZ,zpZ,zmZ];refine zyZ (Name_p x2) ?_
 try simp only [zbZ]
 obtain ⟨r,H2,⟨rfl,p2,st2,f2⟩,hc⟩:=Open_c duo.P hw (by omega) (name:=nameK x2) (by omega) false;refine bC_of hc ?_;have eo : openS s (nameK x2) false=(findS s (nameK x2),s):=by unfold openS; rw [if_pos (.inr rfl)]
 rw [eo] at st2;simp only [eo,zjZ,gCS,gCZ,zbZ,zkjZ,ne_eq,zpZ]
 by_cases c3 : (findS s (nameK x2)).2=0
 rotate_left
 ·simp only [c3,not_false_eq_true,dTt,zbcZ]
  exact zyZ zwmZ (by trivial)
 have key:=synced iv hw c3;simp only [c3,not_true_eq_false,dFf,zmZ];generalize (findS s (nameK x2)).1=X at *;obtain ⟨Rn,hRn,r,H3,⟨rfl,g3⟩,hc⟩:=Now_c st2 hw (by omega);refine bC_of hc ?_;have st3:=st2.grew g3;obtain ⟨na,nb,rfl,ona,onb⟩:=hRn.agg2;have n1 : anew H3 (.agg [nilSl,nilSl])=some (.ptr H3.length 0,H3 ++ [some (.cells [nilSl,nilSl])]):=by simp
 have t1 : ast 2 (H3 ++ [some (AObj.cells [nilSl,nilSl])]) (.ptr H3.length 0) (.agg [na,nb])=some (H3 ++ [some (AObj.cells [na,nb])]):=by
  rw [zckZ (n:=2) (xs:=[na,nb]) (cs:=[nilSl,nilSl]) (by simp [ona,onb]) (by simp) rfl (by simp)];simp [zjoZ]
 simp only [n1,zboZ,t1,zcaZ];have hd:=Held.new st3 [na,nb];have st4:=st3.grew (Grew.app H3 [some (AObj.cells [na,nb])]);generalize (H3 ++ [some (AObj.cells [na,nb])])=H4 at *;generalize H3.length=o1 at *;have eA : absl H4 1 1 (zrow [(I 0)] 1) [(0,1,I X)]=some (.sl H4.length 0 1 1 (.ex 1),H4 ++ [some (.cells [I X])]):=rfl;rw [eA,zboZ];have gA:=Grew.app H4 [some (AObj.cells [I X])];have st5:=st4.grew gA;have hd:=hd.grew gA;have os4:=st4.os_lt;have p4:=st4.p_lt
 obtain ⟨r,H5,⟨rfl,p5,st6,f5⟩,hc⟩:=Sync_c st5 hw (by omega) (l:=[X]) (v:=.sl H4.length 0 1 1 (.ex 1)) (by simp [zaZ,encZ]) (by
  intro j hj;simp only [idS,List.mem_singleton] at hj;subst hj;exact ⟨by omega,λz=>by have:=p4 _ z; omega⟩) (by simp)
 refine bC_of hc ?_;have hd:=hd.step f5;have hw5:=syncS_w hw [X];simp only [zkjZ,ne_eq,zbZ,zpZ]
 by_cases c4 : (syncS s [X]).1=0
 rotate_left
 ·simp only [c4,not_false_eq_true,dTt,zbcZ]
  have eoff : (syncS s [X]).2.off=true:=by
   unfold syncS at c4 ⊢;split at c4
   ·simp at c4
   ·rename_i q
    rw [if_neg q];unfold deedS at q ⊢
    split
    ·rfl
    ·rename_i q2
     rw [if_neg q2] at q;split at q <;> simp at q
  refine bC_of (Off_c st6) ?_;simp only [eoff,zcxZ,beq_self_eq_true,gP_true];exact zyZ zwmZ (by trivial)
 simp only [c4,not_true_eq_false,dFf,zmZ];obtain ⟨k1,k2,k3,k4,k5,k6⟩:=key c4 bits;generalize (syncS s [X]).2=s5 at *;have sb : zaZ H5 1 w=some (bits.flatMap encT,bits.length):=vb.2 _;obtain ⟨r,H6,⟨rfl,st7,f6⟩,hc⟩:=Restart_c st6 hw5 (by omega) (l:=bits) (v:=w) sb (by rw [vb.noId]; simp) (by omega);refine bC_of hc ?_;have hd:=hd.step f6;have hw6:=restS_w hw5 bits;generalize restS s5 bits=s6 at *;have rd2' : ∀ a b : AV,ztZ true 2 [a,b] 0=some (.agg [a,b]):=λ_ _=>rfl
 obtain ⟨Ra,hRa,pa⟩:=Get_p hRn (hw.now.sm (by omega)) X;simp only [zlZ hd.at',rd2',zbZ];refine zyZ pa ?_;simp only [zjZ,gCS,gCZ,zbZ,nwC,zboZ,stC' H6 _ (SV.oneA hRa),zcaZ];have st8:=st7.grew (Grew.app H6 [some (AObj.cells [I (getN s.now.1 s.now.2 X).size,Ra])]);have ha : (H6 ++ [some (AObj.cells [I (getN s.now.1 s.now.2 X).size,Ra])])[H6.length]? = some (some (.cells [I (getN s.now.1 s.now.2 X).size,Ra])):=top1;generalize (H6 ++ [some (AObj.cells [I (getN s.now.1 s.now.2 X).size,Ra])])=H7 at *;obtain ⟨Rm,hRm,r,H8,⟨rfl,g8⟩,hc⟩:=Now_c st8 hw6 (by omega);refine bC_of hc ?_;have st9:=st8.grew g8;have ha:=g8.cells ha;obtain ⟨Rb,hRb,pb⟩:=Get_p hRm (hw6.now.sm (by omega)) X;refine zyZ pb ?_;simp only [zjZ,gCS,gCZ,zbZ,nwC,zboZ,stC' H8 _ (SV.oneA hRb),zcaZ];have gB:=Grew.app H8 [some (AObj.cells [I (getN s6.now.1 s6.now.2 X).size,Rb])];have st10:=st9.grew gB;have ha:=gB.cells ha;have hb : (H8 ++ [some (AObj.cells [I (getN s6.now.1 s6.now.2 X).size,Rb])])[H8.length]? = some (some (.cells [I (getN s6.now.1 s6.now.2 X).size,Rb])):=top1;generalize (H8 ++ [some (AObj.cells [I (getN s6.now.1 s6.now.2 X).size,Rb])])=H9 at *;obtain ⟨Rk,hRk,r,H10,⟨rfl,g10⟩,hc⟩:=Now_c st10 hw6 (by omega);refine bC_of hc ?_;have ha:=g10.cells ha;have hb:=g10.cells hb;refine zyZ (Find_p hRk (hw6.now.sm (by omega)) (nameK x2)) ?_;obtain ⟨q1,q2⟩:=findI_w hw6.now.1 (nameK x2);have kf : hasI s6.now.1 s6.now.2 (nameK x2):=q2.2 (by rw [k4]; exact k1);have kn : findI s6.now.1 s6.now.2 (nameK x2)=X:=by rw [q1,k4,← k2]
 have hlen : (getN s.now.1 s.now.2 X).l.length≤281474976710656:=by
  by_cases hg : hasK Nd.ino s.now.2 X
  ·obtain ⟨d,dm,rfl⟩:=hg
   rw [(getN_w hw.now.1 dm).1]
   have:=hw.now.2 d dm
   omega
  ·rw [(getN_no hg).1]; simp
 have ps:=extent_Same_p (a:=(getN s.now.1 s.now.2 X).size) (b:=(getN s6.now.1 s6.now.2 X).size) hRa hRb hlen;have es : sameC (getN s.now.1 s.now.2 X).size (getN s.now.1 s.now.2 X).l (getN s6.now.1 s6.now.2 X).size (getN s6.now.1 s6.now.2 X).l:=by rw [k6]; exact ⟨rfl,rfl⟩
 simp only [es,dTt] at ps;simp only [zjZ,gCS,gCZ,zbZ,k5,kf,kn,dTt,zcxZ,beq_self_eq_true,zbsZ,zoZ,if_true,zkvZ,zlZ ha,zlZ hb,rd2',gP_true];refine zyZ ps ?_;simp only [zoZ,if_true,zbZ,zcxZ,beq_self_eq_true,gP_true];exact zyZ zwmZ (by trivial)
end Go.Proofs.YtlhiaihmkjlaaaaGreat.Av
namespace Go.Proofs.YtlhiaihmkjlaaaaGreat
theorem storeSynced_holds : Rows.StoreSyncedSaid:=storeSynced_of Av.storeSynced_calls
#print axioms storeSynced_holds
end Go.Proofs.YtlhiaihmkjlaaaaGreat
end
