/- The law and its row. No condition. -/
import Derived.Test.YtlhiaihmkjlaaaaGreatMrL
import Derived.Below
import Derived.Carry
import Derived.ChangeOld
import Derived.OpenShut
import Derived.ProofKit
import Derived.ShutString
import Derived.SizedLaws
import Derived.Test.YtlhiaihmkjlaaaaGreatRows
import Derived.WalkKit
set_option linter.unusedVariables false
set_option linter.unusedSimpArgs false
set_option maxRecDepth 100000
section
namespace Go.Proofs.YtlhiaihmkjlaaaaGreat.Av
open Go Go.RowKit
noncomputable def storeRoom_r0 : Rd Tryz.prog 5 UInt8:=(Rd.byte Tryz.underlying5 (by kernel_rfl))
noncomputable def storeRoom_r1 : Rd Tryz.prog 22 (Sl (UInt8 × (UInt8 × (UInt8 × (Int × (Int × (Int × ((Sl UInt8) × (Bool × ((Sl Bool) × ((Sl Int) × Unit))))))))))):=(Rd.slice (Rd.struct (Rds.cons (Rd.byte Tryz.underlying5 (by kernel_rfl)) (Rds.cons (Rd.byte Tryz.underlying5 (by kernel_rfl)) (Rds.cons (Rd.byte Tryz.underlying5 (by kernel_rfl)) (Rds.cons (Rd.int .i64 Tryz.underlying3 (by kernel_rfl)) (Rds.cons (Rd.int .i64 Tryz.underlying3 (by kernel_rfl)) (Rds.cons (Rd.int .i64 Tryz.underlying3 (by kernel_rfl)) (Rds.cons (Rd.slice (Rd.byte Tryz.underlying5 (by kernel_rfl)) Tryz.underlying36 (by kernel_rfl)) (Rds.cons (Rd.bool Tryz.underlying4 (by kernel_rfl)) (Rds.cons (Rd.slice (Rd.bool Tryz.underlying4 (by kernel_rfl)) Tryz.underlying37 (by kernel_rfl)) (Rds.cons (Rd.slice (Rd.int .i64 Tryz.underlying3 (by kernel_rfl)) Tryz.underlying38 (by kernel_rfl)) (Rds.nil _ _) rfl rfl) rfl rfl) rfl rfl) rfl rfl) rfl rfl) rfl rfl) rfl rfl) rfl rfl) rfl rfl) rfl rfl) Tryz.underlying40 (by kernel_rfl)) Tryz.underlying22 (by kernel_rfl))
noncomputable def storeRoom_r2 : Rd Tryz.prog 55 Int:=(Rd.int .u16 Tryz.underlying55 (by kernel_rfl))
noncomputable def storeRoom_r3 : Rd Tryz.prog 36 (Sl UInt8):=(Rd.slice (Rd.byte Tryz.underlying5 (by kernel_rfl)) Tryz.underlying36 (by kernel_rfl))
end Go.Proofs.YtlhiaihmkjlaaaaGreat.Av
namespace Go.Proofs.YtlhiaihmkjlaaaaGreat
open Go.ChangeShapes Go.WideShapes Go.ChangeAt Go.RowKit
namespace storeRoom
set_option maxRecDepth 100000 in
theorem lifted (calls : ∀ (x0 : UInt8),Av.storeRoom_r0.ok x0→∀ (x1 : (Av.Sl (UInt8 × (UInt8 × (UInt8 × (Int × (Int × (Int × ((Av.Sl UInt8) × (Bool × ((Av.Sl Bool) × ((Av.Sl Int) × Unit)))))))))))),Av.storeRoom_r1.ok x1→∀ (x2 : Int),Av.storeRoom_r2.ok x2→∀ (x3 : (Av.Sl UInt8)),Av.storeRoom_r3.ok x3→Av.ACalls Tryz.prog 4 (Av.storeRoom_r0.enc x0 ++ Av.storeRoom_r1.enc x1 ++ Av.storeRoom_r2.enc x2 ++ Av.storeRoom_r3.enc x3) [] λr _=>r = .lit (.bool true)) (os : Os) (started : os.Started) (H : Type) (enc : TypeId × Value→H) :
  ReturnsInHanded {} Tryz.checked os 4 .any (Rows.storeRoomSpec.pre6 enc Tryz.prog Tryz.f4 Rows.storeRoomRow.domain false) (Rows.storeRoomSpec.post enc Tryz.prog Tryz.f4 false true false false):=by
 refine returnsInHanded_of_change_sized (C:=Tryz.checked) Av.own started (by kernel_rfl) Tryz.func4
  (ChangeSpec.witness6 (enc:=enc) (C:=Tryz.checked) false ⟨#[],#[.int .u8 0,.slice none 0 0,.int .u16 0,.slice none 0 0],[]⟩ 8 (by kernel_rfl) (by kernel_rfl) (by kernel_rfl) (by kernel_rfl)) ?_
 intro W base args ds gs before hval0 hW hcnd hsz0 _;have hval : ∀ (j : Nat) t v,Tryz.f4.params[j]? = some t→args[j]? = some v→Value.okWide Tryz.prog W .any base t v:=hval0;have hW':=hW;obtain ⟨p,q,hA0,hV,rfl,hfz,hnd⟩:=hW;have hA : DataW.TrodAll enc Tryz.prog W 0 (λ_=>true) true Tryz.f4.params.toList args.toList ds p:=hA0;rw [Tryz.params4] at hA hval;obtain ⟨v0,vs0,d0,ds0,p0,q0,hargs,rfl,rfl,h0,r0⟩:=trodAll_cons hA;obtain ⟨v1,vs1,d1,ds1,p1,q1,rfl,rfl,rfl,h1,r1⟩:=trodAll_cons r0;obtain ⟨v2,vs2,d2,ds2,p2,q2,rfl,rfl,rfl,h2,r2⟩:=trodAll_cons r1;obtain ⟨v3,vs3,d3,ds3,p3,q3,rfl,rfl,rfl,h3,r3⟩:=trodAll_cons r2;obtain ⟨rfl,rfl,rfl⟩:=trodAll_nil r3;obtain rfl : args = #[v0,v1,v2,v3]:=by cases args; simp_all
 obtain ⟨rfl,rfl⟩:=trodVars_none hV;obtain ⟨b0,rfl⟩:=okWide_int Tryz.underlying5 (hval 0 5 v0 rfl rfl);have lt0 : ∀ x ∈ p0,x.block < W.heap.size:=by obtain ⟨m,hm⟩:=h0; exact DataW.trod_lt m _ _ _ hm
 obtain ⟨x0,ok0,vr0⟩:=Av.storeRoom_r0.arg1 rfl h0;obtain ⟨b1,len1,cap1,rfl⟩:=okWide_slice Tryz.underlying22 (hval 1 22 v1 rfl rfl);have lt1 : ∀ x ∈ p1,x.block < W.heap.size:=by obtain ⟨m,hm⟩:=h1; exact DataW.trod_lt m _ _ _ hm
 obtain ⟨x1,ok1,vr1⟩:=Av.storeRoom_r1.arg1 rfl h1;obtain ⟨b2,rfl⟩:=okWide_int Tryz.underlying55 (hval 2 55 v2 rfl rfl);have lt2 : ∀ x ∈ p2,x.block < W.heap.size:=by obtain ⟨m,hm⟩:=h2; exact DataW.trod_lt m _ _ _ hm
 obtain ⟨x2,ok2,vr2⟩:=Av.storeRoom_r2.arg1 rfl h2;obtain ⟨b3,len3,cap3,rfl⟩:=okWide_slice Tryz.underlying36 (hval 3 36 v3 rfl rfl);have lt3 : ∀ x ∈ p3,x.block < W.heap.size:=by obtain ⟨m,hm⟩:=h3; exact DataW.trod_lt m _ _ _ hm
 obtain ⟨x3,ok3,vr3⟩:=Av.storeRoom_r3.arg1 rfl h3;refine (Av.law_calls (calls x0 ok0 x1 ok1 x2 ok2 x3 ok3) W (((vr0.append vr1).append vr2).append vr3)).mono fun e W' ⟨he,bel⟩ => ?_
 subst he;exact ⟨_,rfl,_,_,_,[],_,[],hW',trodAll_mk1 (shut_bool Tryz.underlying4 _),(trodAll_cons_mk (Below.trod Av.laidOut (by kernel_rfl) (of_decide_eq_true (by kernel_rfl)) h0 bel lt0) (trodAll_cons_mk (Below.trod Av.laidOut (by kernel_rfl) (of_decide_eq_true (by kernel_rfl)) h1 bel lt1) (trodAll_cons_mk (Below.trod Av.laidOut (by kernel_rfl) (of_decide_eq_true (by kernel_rfl)) h2 bel lt2) (trodAll_cons_mk (Below.trod Av.laidOut (by kernel_rfl) (of_decide_eq_true (by kernel_rfl)) h3 bel lt3) trodAll_mk0)))),rfl,bel.frame _,λh=>by cases h⟩
end storeRoom
theorem storeRoom_of (calls : ∀ (x0 : UInt8),Av.storeRoom_r0.ok x0→∀ (x1 : (Av.Sl (UInt8 × (UInt8 × (UInt8 × (Int × (Int × (Int × ((Av.Sl UInt8) × (Bool × ((Av.Sl Bool) × ((Av.Sl Int) × Unit)))))))))))),Av.storeRoom_r1.ok x1→∀ (x2 : Int),Av.storeRoom_r2.ok x2→∀ (x3 : (Av.Sl UInt8)),Av.storeRoom_r3.ok x3→Av.ACalls Tryz.prog 4 (Av.storeRoom_r0.enc x0 ++ Av.storeRoom_r1.enc x1 ++ Av.storeRoom_r2.enc x2 ++ Av.storeRoom_r3.enc x3) [] λr _=>r = .lit (.bool true)) : Rows.StoreRoomSaid :=
 OpenClaim.holds_of_wide 4 Tryz.f4 rfl rfl rfl rfl rfl rfl rfl ⟨rfl,rfl,rfl,rfl,rfl⟩ rfl rfl rfl rfl rfl (by kernel_rfl) Tryz.func4 (by kernel_rfl)
  (of_decide_eq_true (by kernel_rfl)) (by unfold Func.isWrapper; first | (rw [if_pos (by decide +kernel)]; kernel_rfl) | (rw [if_neg (by decide +kernel)]; exact ⟨rfl,rfl⟩))
  (λos started H enc _=>storeRoom.lifted calls os started H enc)
end Go.Proofs.YtlhiaihmkjlaaaaGreat
end
section
set_option maxHeartbeats 4000000
namespace Go.Proofs.YtlhiaihmkjlaaaaGreat.Av
open Go Go.RowKit
theorem aslS_no {v hi : AV} : aslS 1 v none (some hi) none=aslS 1 v (some (I 0)) (some hi) none:=by cases v <;> rfl
theorem storeRoom_calls (x0 : UInt8) (h0 : storeRoom_r0.ok x0) (x1 : Sl XStp) (h1 : storeRoom_r1.ok x1) (x2 : Int) (h2 : storeRoom_r2.ok x2) (x3 : Sl UInt8) (h3 : storeRoom_r3.ok x3) :
  ACalls Tryz.prog 4 (storeRoom_r0.enc x0 ++ storeRoom_r1.enc x1 ++ storeRoom_r2.enc x2 ++ storeRoom_r3.enc x3) [] λr _=>r = .lit (.bool true):=by
 have hml : maxLen≤9223372036854775807:=by decide
 have h2 : IntKind.u16.min≤x2∧x2≤IntKind.u16.max:=h2;have pz : 0≤x2∧x2≤65535:=by simpa [IntKind.min,IntKind.max,IntKind.signed,IntKind.bits] using h2
 obtain ⟨P,rfl⟩ : ∃ P : Nat,x2=P:=⟨x2.toNat,by omega⟩;have x0lt:=x0.toNat_lt
 obtain ⟨l,vl,hll,hln⟩:=steps_sv x1 h1.1 (λy hy=>by
  have:=h1.2.2 y hy
  exact ⟨this.2.2.2.2.2.2.1.1,this.2.2.2.2.2.2.2.2.1.1,this.2.2.2.2.2.2.2.2.2.1.1,(in64h this.2.2.2.2.2.1).2⟩) encXs (λ_ _=>rfl)
 have vb:=slU_sv x3 h3.1;have hbl:=h1.2.1;have hbb:=h3.2.1
 show ACalls Tryz.prog 4 [.lit (.int .u8 (x0.toNat : Int)),if x1.nil then .lit (.slice none 0 0) else .imm (x1.l.flatMap encXs) x1.l.length 10,.lit (.int .u16 (P : Int)),if x3.nil then .lit (.slice none 0 0) else .imm (x3.l.flatMap encU) x3.l.length 1] [] _
 generalize (if x1.nil then AV.lit (.slice none 0 0) else .imm (x1.l.flatMap encXs) x1.l.length 10)=v at vl;generalize (if x3.nil then AV.lit (.slice none 0 0) else .imm (x3.l.flatMap encU) x3.l.length 1)=w at vb;generalize x3.l=b at *;refine law_of (zwvZ ?_);unfold zpeZ;refine zyZ (lawFew_p vl (by omega) 40) ?_
 by_cases c1 : fewS l 40
 rotate_left
 ·simp only [c1,dFf,zduZ,Bool.not_false,zbZ,zcrZ,show ((true == false)=false) from rfl,zfxZ,zoZ,if_true,zpZ,zbcZ]
  exact zyZ zxiZ (by trivial)
 simp only [c1,dTt,zduZ,Bool.not_true,zbZ,zcrZ,beq_self_eq_true,zbrZ,vb.len,ztmZ,zoZ,if_false,Bool.false_eq_true,zpZ]
 by_cases c2 : (200 : Int) < (b.length : Int)
 ·simp only [c2,dTt,zbcZ]
  exact zyZ zxiZ (by trivial)
 have r1 : abI .rem (.lit (.int .u8 (x0.toNat : Int))) (.lit (.int .u8 30))=some (.lit (.int .u8 ((x0.toNat % 30 : Nat) : Int))):=by
  have : abI .rem (.lit (.int .u8 (x0.toNat : Int))) (.lit (.int .u8 (30 : Nat)))=some (.lit (.int .u8 ((x0.toNat % 30 : Nat) : Int))):=by
   rw [abI_rem (by omega) (by omega)]; congr 3
  exact this
 have r2 : acI .i64 (.lit (.int .u8 ((x0.toNat % 30 : Nat) : Int)))=some (I ((x0.toNat % 30 : Nat) : Int)):=acI_i64 (by omega) (by omega);simp only [c2,dFf,zmZ,r1,r2,zbZ];have hk : x0.toNat % 30 < 30:=Nat.mod_lt _ (by omega);generalize x0.toNat % 30=k at *;have l40:=c1.1;obtain ⟨r,H1,⟨p,rfl,l1,st0,g,hid⟩,hc⟩:=New_c (k : Int) [] (by omega);refine bC_of hc ?_;obtain ⟨r,H2,⟨rfl,l2,ds0,g2⟩,hc⟩:=RNew_c (k : Int) H1 (by omega);refine bC_of hc ?_;have duo:=duo_new st0 l1 hid ds0 g2;generalize ([] : AH).length=os at *;generalize H1.length=od at *;have e1 : abN .eql nilP (.ptr os 0) (.lit (.pointer none))=some (B false):=rfl;simp only [e1,zbZ,zpZ,zmZ];refine zovZ (λn y1 y2 y3 y9 y10 y11 y12 H'=>∃ (j : Nat) (s : StS) (p q : AV),j + n=l.length∧v=y1∧y2 = .lit (.int .u16 (P : Int))∧w=y3∧y9=I k∧y10 = .ptr os 0∧y11 = .ptr od 0∧y12=I j∧Duo s s os od p q H'∧SW (4099 * j) s∧RmS s∧s.cap=k) ?_ l.length
  ⟨0,_,_,_,by omega,rfl,rfl,rfl,rfl,rfl,rfl,rfl,duo,newS_w _,RmS.new _,by show min (max (k : Int) 0) 4096=k; omega⟩
 rintro n y1 y2 y3 y9 y10 y11 y12 H3 R hR ⟨j,s,p3,q3,hj,rfl,rfl,rfl,rfl,rfl,rfl,rfl,duo,hw,rm,hcap⟩;unfold zilZ;simp only [vl.len,zbZ,zglZ,zpZ];rcases Nat.lt_or_ge j l.length with hlt | hge
 ·have hx:=gEG hlt
  have hmem:=List.getElem_mem hlt;generalize l[j]=x at hx hmem;have f1:=c1.2 x hmem;have f2:=hln x hmem;have q2 : abI .add (I (j : Int)) (I 1)=some (I ((j + 1 : Nat) : Int)):=by rw [zbdZ (by omega) (by omega)]; congr 3
  have klt:=x.s.kind.toNat_lt
  have hrem : abI .rem (.lit (.int .u8 x.s.kind.toNat)) (.lit (.int .u8 16))=some (.lit (.int .u8 ((x.s.kind.toNat % 16 : Nat) : Int))):=by
   have : abI .rem (.lit (.int .u8 (x.s.kind.toNat : Int))) (.lit (.int .u8 (16 : Nat)))=some (.lit (.int .u8 ((x.s.kind.toNat % 16 : Nat) : Int))):=by rw [abI_rem (by omega) (by omega)]; congr 3
   exact this
  have es0 : ∀ t,zhZ 0 (.ip (encP x ++ t))=some (.ip (encP x ++ t)):=λ_=>rfl
  have ea0 : ∀ t H,ald false 1 H (.ip (encP x ++ t))=some (.lit (.int .u8 x.s.kind.toNat)):=λ_ _=>rfl
  have tail : ∀ (t : StS) (p4 q4 : AV) (H4 : AH),Duo t t os od p4 q4 H4→SW (4099 * (j + 1)) t→RmS t→t.cap=k→zebZ R v (.lit (.int .u16 (P : Int))) w (I k) (.ptr os 0) (.ptr od 0) (I j) H4 (λr H=>r = .lit (.bool true)):=by
   intro t p4 q4 H4 du hwt rt hct;rw [zqiZ]; unfold zikZ;obtain ⟨Rn,hRn,r,H5,⟨rfl,g5⟩,hc⟩:=Now_c du.P hwt (by omega);refine bC_of hc ?_;have du5:=du.grew g5;have hmay:=hwt.now.1;have pu:=Used_p hRn (hwt.now.sm (by omega));rw [usedI_w hmay] at pu;have hroom:=rt.room;have hfree : freeS t=k - sumL t.now.2:=by unfold freeS; omega
   have ng : ¬ ((k : Int) < (sumL t.now.2 : Int)):=by omega
   refine zyZ pu ?_;simp only [ztmZ,ng,dFf,zbZ,zcrZ,beq_self_eq_true,zbrZ,gC_true];refine bC_of (Free_c du5.P hwt (by omega)) ?_;obtain ⟨Rm,hRm,r,H6,⟨rfl,g6⟩,hc⟩:=Now_c du5.P hwt (by omega);refine bC_of hc ?_;have du6:=du5.grew g6;have pu2:=Used_p hRm (hwt.now.sm (by omega));rw [usedI_w hmay] at pu2;have es : abI .sub (I (k : Int)) (I (sumL t.now.2 : Int))=some (I ((k : Int) - sumL t.now.2)):=zfpZ (by omega) (by omega);simp only [gP_true];refine zyZ pu2 ?_;simp only [es,zbrZ,zbZ,hfree,zkuZ,ne_eq,not_true_eq_false,dFf,zoZ,if_false,Bool.false_eq_true];rw [zqlZ]; unfold zinZ;simp only [zpZ,zmZ];rw [zqmZ]; unfold zidZ;simp only [q2,zbZ];exact hR (n - 1) _ _ _ _ _ _ _ _ (by omega) ⟨j + 1,t,p4,q4,by omega,rfl,rfl,rfl,rfl,rfl,rfl,rfl,du6,hwt,rt,hct⟩
  simp only [show ((j : Int) < (l.length : Int)) by omega,dTt,zbcZ,vl.idx encP_len hx rfl,zbZ,es0,ea0,hrem,zglZ]
  by_cases ck : x.s.kind.toNat % 16 < 13
  ·have ck2 : ((x.s.kind.toNat % 16 : Nat) : Int) < 13:=by omega
   simp only [ck2,dTt,zbcZ,rdP,zbZ];obtain ⟨r,H4,⟨rfl,p4,q4,du4⟩,hc⟩:=Do_c duo hw (by omega) x f1 f2;refine bC_of hc ?_;exact tail _ _ _ _ du4 (by rw [show 4099 * (j + 1)=4099 * j + 4099 by omega]; exact doStep_w hw f1 f2) (rm.step hw ck) (by rw [doStep_cap]; exact hcap)
  ·have ck2 : ¬ ((x.s.kind.toNat % 16 : Nat) : Int) < 13:=by omega
   simp only [ck2,dFf,zmZ];exact tail _ _ _ _ duo (hw.mono (by omega)) rm hcap
 ·simp only [show ¬ ((j : Int) < (l.length : Int)) by omega,dFf,zmZ]
  have hw : SW 163960 s:=hw.mono (by omega);have mn : mayN [100,115,116]:=by decide
  obtain ⟨r,H4,⟨rfl,p4,st4,f4⟩,hc⟩:=Open_c duo.P hw (by omega) (name:=[100,115,116]) (by simp) true;refine bC_of hc ?_;have rO:=rm.open [100,115,116] true;have wO:=openS_w hw [100,115,116] true;have mO:=rm.made hw (by omega) mn;generalize openS s [100,115,116] true=O at *;obtain ⟨⟨ino,e⟩,s4⟩:=O;simp only at st4 rO wO mO;simp only [ziZ,gCS,gCZ,zbZ,zkuZ,ne_eq,zpZ];rcases mO with ⟨rfl,d,dm,di⟩ | rfl
  rotate_left
  ·simp only [show ¬ ((4 : Int)=0) by omega,not_false_eq_true,dTt,zbcZ,zjaZ,zbZ,zcrZ,beq_self_eq_true,gP_true]
   exact zyZ zxiZ (by trivial)
  simp only [not_true_eq_false,dFf,zmZ];have hm4:=wO.now.1;obtain ⟨gn1,-⟩:=getN_w hm4 dm;rw [di] at gn1;obtain ⟨Rn,hRn,r,H5,⟨rfl,g5⟩,hc⟩:=Now_c st4 wO (by omega);refine bC_of hc ?_;have st5:=st4.grew g5;obtain ⟨Ra,hRa,pa⟩:=Get_p hRn (wO.now.sm (by omega)) ino;rw [gn1] at hRa pa;refine zyZ pa ?_
  have rp1 : abI .rem (.lit (.int .u16 (P : Int))) (.lit (.int .u16 300))=some (.lit (.int .u16 ((P % 300 : Nat) : Int))):=by
   have : abI .rem (.lit (.int .u16 (P : Int))) (.lit (.int .u16 (300 : Nat)))=some (.lit (.int .u16 ((P % 300 : Nat) : Int))):=by
    rw [abI_rem (by omega) (by omega)]; congr 3
   exact this
  have rp2 : acI .i64 (.lit (.int .u16 ((P % 300 : Nat) : Int)))=some (I ((P % 300 : Nat) : Int)):=acI_i64 (by omega) (by omega);simp only [ziZ,gCS,gCZ,zbZ,nwC,zbpZ,stC' H5 _ (SV.oneA hRa),zcaZ,rp1,rp2];have hP : P % 300 < 300:=Nat.mod_lt _ (by omega);generalize P % 300=pos at *;have hd:=Held.new st5 [I d.size,Ra];have st6:=st5.grew (Grew.app H5 [some (AObj.cells [I d.size,Ra])]);generalize (H5 ++ [some (AObj.cells [I d.size,Ra])])=H6 at *;generalize H5.length=o1 at *;have hf : fitsW (pos : Int) b.length:=by unfold fitsW; omega
  obtain ⟨m,d',e,s7,w1,w2,w3,w4,w5,w6,w7⟩:=writeS_room rO wO dm di hf;obtain ⟨r,H7,⟨rfl,p7,st7,f7⟩,hc⟩:=Write_c st6 wO ino pos (by omega) (vb.bytes _) (by rw [vb.noId]; simp);refine bC_of hc ?_;have wW:=writeS_w wO ino pos b;rw [w1] at st7 wW;simp only at st7 wW;have hd:=hd.step f7;simp only [w1,ziZ,gCS,gCZ,zbZ];obtain ⟨Rm,hRm,r,H8,⟨rfl,g8⟩,hc⟩:=Now_c st7 wW (by omega);refine bC_of hc ?_;have st8:=st7.grew g8;have hd:=hd.grew g8;have hm7:=wW.now.1;obtain ⟨gn2,-⟩:=getN_w hm7 w4;rw [w5] at gn2;obtain ⟨Rb,hRb,pb⟩:=Get_p hRm (wW.now.sm (by omega)) ino;rw [gn2] at hRb pb;refine zyZ pb ?_;have rd2' : ∀ a b : AV,ztZ true 2 [a,b] 0=some (.agg [a,b]):=λ_ _=>rfl
  have a1 : amm imx [I (m : Int),(I 0)]=some (I (m : Int)):=by rw [zbggZ,imx_eq]; congr 3
  have a2 : amm imn [I (m : Int),I (b.length : Int)]=some (I (m : Int)):=by rw [zbggZ,imn_eq]; congr 3; omega
  obtain ⟨u,a3,hu⟩:=vb.cutB (l:=0) (k:=m) (li:=0) (ki:=m) rfl rfl (by omega) w2;rw [← aslS_no] at a3;simp only [List.drop_zero,Nat.sub_zero] at hu;have gB:=Grew.app H8 [some (AObj.cells [I d'.size,Rb])];have hd9:=hd.grew gB;have st9:=st8.grew gB;have hb9 : (H8 ++ [some (AObj.cells [I d'.size,Rb])])[H8.length]? = some (some (.cells [I d'.size,Rb])):=top1;simp only [ziZ,gCS,gCZ,zbZ,nwC,zbpZ,stC' H8 _ (SV.oneA hRb),zcaZ,zlZ hd9.at',rd2',a1,vb.len,a2,a3];generalize (H8 ++ [some (AObj.cells [I d'.size,Rb])])=H9 at *;generalize H8.length=o2 at *;have hdl:=wO.now.2 d dm;have hdl2:=wW.now.2 d' w4;obtain ⟨Rc,hRc,pc⟩:=zbevZ hRa (by omega) (pos : Int) hu (by rw [List.length_take]; omega) (size:=d.size);rw [w6] at hRc pc;simp only [cL,cS,Option.getD_some,Option.isSome_some] at hRc pc;refine bP_of pc ?_;have gC2:=Grew.app H9 [some (AObj.cells [I d'.size,Rc])];have hb10:=gC2.cells hb9;have hd10:=hd9.grew gC2;have st10:=st9.grew gC2;have hc10 : (H9 ++ [some (AObj.cells [I d'.size,Rc])])[H9.length]? = some (some (.cells [I d'.size,Rc])):=top1;have hd9b : (H9 ++ [some (AObj.cells [I 0,nilSl])])[o1]? = some (some (.cells [I d.size,Ra])):=(Grew.app H9 [some (AObj.cells [I 0,nilSl])]).cells hd9.at';simp only [ziZ,gCS,gCZ,zbZ,nwC,zbpZ,stC' H9 _ (SV.oneA hRc),zcaZ,zlZ hd9b,rd2',a1,vb.len,a2,a3,true_and];generalize (H9 ++ [some (AObj.cells [I d'.size,Rc])])=H10 at *;generalize H9.length=o3 at *;have ps:=extent_Same_p (a:=d'.size) (b:=d'.size) hRb hRc (by omega);simp only [show sameC d'.size d'.l d'.size d'.l from ⟨rfl,rfl⟩,dTt] at ps;have n0 : ¬ ((m : Int) < 0):=by omega
  have n1 : ¬ ((b.length : Int) < (m : Int)):=by omega
  simp only [zglZ,ztmZ,n0,n1,dFf,zbZ,zcrZ,beq_self_eq_true,zbrZ,vb.len,zoZ,if_false,Bool.false_eq_true,zduZ,Bool.not_true,zlZ hb10,zlZ hc10,rd2',gP_true];refine zyZ ps ?_;simp only [zbrZ,zduZ,Bool.not_true,zbZ,zoZ,if_false,Bool.false_eq_true,zpZ,zmZ];rcases w7 with ⟨rfl,rfl⟩ | ⟨rfl,hlt,hfr⟩
  ·simp only [zjaZ,dTt,zbZ,zcrZ,beq_self_eq_true,zbrZ,vb.len,zoZ,if_true,show ((true == false)=false) from rfl,zfxZ,gC_false,gP_true]
   exact zyZ zxiZ (by trivial)
  ·have ml : (m : Int) < (b.length : Int):=by omega
   simp only [zjaZ,zglZ,show ¬ ((4 : Int)=0) by omega,ml,dTt,dFf,zbZ,zcrZ,beq_self_eq_true,zbrZ,vb.len,zoZ,if_true,if_false,Bool.false_eq_true,show ((false == true)=false) from rfl,zfxZ,gC_true];refine bC_of (Free_c st10 wW (by omega)) ?_;simp only [hfr,zjaZ,dTt,zbrZ,zbZ,zoZ,if_true,zcrZ,beq_self_eq_true,gP_true];exact zyZ zxiZ (by trivial)
end Go.Proofs.YtlhiaihmkjlaaaaGreat.Av
namespace Go.Proofs.YtlhiaihmkjlaaaaGreat
theorem storeRoom_holds : Rows.StoreRoomSaid:=storeRoom_of Av.storeRoom_calls
#print axioms storeRoom_holds
end Go.Proofs.YtlhiaihmkjlaaaaGreat
end
