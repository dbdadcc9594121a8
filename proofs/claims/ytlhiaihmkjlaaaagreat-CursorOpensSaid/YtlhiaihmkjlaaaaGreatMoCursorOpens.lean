/- The law and its row. No condition. -/
import Derived.Test.YtlhiaihmkjlaaaaGreatMoK
import Derived.Below
import Derived.Carry
import Derived.ChangeOld
import Derived.OpenShut
import Derived.ProofKit
import Derived.ShutString
import Derived.SizedLaws
import Derived.Test.YtlhiaihmkjlaaaaGreatRows
import Derived.WalkKit
set_option linter.unusedVariables false
set_option linter.unusedSimpArgs false
set_option maxRecDepth 100000
section
namespace Go.Proofs.YtlhiaihmkjlaaaaGreat.Av
open Go Go.RowKit
noncomputable def cursorOpens_r0 : Rd Tryz.prog 9 ByteArray:=(Rd.string Tryz.underlying9 (by kernel_rfl))
noncomputable def cursorOpens_r1 : Rd Tryz.prog 4 Bool:=(Rd.bool Tryz.underlying4 (by kernel_rfl))
noncomputable def cursorOpens_r2 : Rd Tryz.prog 4 Bool:=(Rd.bool Tryz.underlying4 (by kernel_rfl))
end Go.Proofs.YtlhiaihmkjlaaaaGreat.Av
namespace Go.Proofs.YtlhiaihmkjlaaaaGreat
open Go.ChangeShapes Go.WideShapes Go.ChangeAt Go.RowKit
namespace cursorOpens
set_option maxRecDepth 100000 in
theorem lifted (calls : ∀ (x0 : ByteArray),Av.cursorOpens_r0.ok x0→∀ (x1 : Bool),Av.cursorOpens_r1.ok x1→∀ (x2 : Bool),Av.cursorOpens_r2.ok x2→Av.ACalls Tryz.prog 7 (Av.cursorOpens_r0.enc x0 ++ Av.cursorOpens_r1.enc x1 ++ Av.cursorOpens_r2.enc x2) [] fun r _ => r = .lit (.bool true)) (os : Os) (started : os.Started) (H : Type) (enc : TypeId × Value→H) :
  ReturnsInHanded {} Tryz.checked os 7 .any (Rows.cursorOpensSpec.pre6 enc Tryz.prog Tryz.f7 Rows.cursorOpensRow.domain false) (Rows.cursorOpensSpec.post enc Tryz.prog Tryz.f7 false true false false):=by
 refine returnsInHanded_of_change_sized (C:=Tryz.checked) Av.own started (by kernel_rfl) Tryz.func7
  (ChangeSpec.witness6 (enc:=enc) (C:=Tryz.checked) false ⟨#[],#[.string ByteArray.empty,.bool false,.bool false],[]⟩ 8 (by kernel_rfl) (by kernel_rfl) (by kernel_rfl) (by kernel_rfl)) ?_
 intro W base args ds gs before hval0 hW hcnd hsz0 _
 have hval : ∀ (j : Nat) t v,Tryz.f7.params[j]? = some t→args[j]? = some v→Value.okWide Tryz.prog W .any base t v:=hval0
 have hW':=hW
 obtain ⟨p,q,hA0,hV,rfl,hfz,hnd⟩:=hW
 have hA : DataW.TrodAll enc Tryz.prog W 0 (fun _ => true) true Tryz.f7.params.toList args.toList ds p:=hA0
 rw [Tryz.params7] at hA hval
 obtain ⟨v0,vs0,d0,ds0,p0,q0,hargs,rfl,rfl,h0,r0⟩:=trodAll_cons hA
 obtain ⟨v1,vs1,d1,ds1,p1,q1,rfl,rfl,rfl,h1,r1⟩:=trodAll_cons r0
 obtain ⟨v2,vs2,d2,ds2,p2,q2,rfl,rfl,rfl,h2,r2⟩:=trodAll_cons r1
 obtain ⟨rfl,rfl,rfl⟩:=trodAll_nil r2
 obtain rfl : args = #[v0,v1,v2]:=by cases args; simp_all
 obtain ⟨rfl,rfl⟩:=trodVars_none hV
 obtain ⟨b0,rfl⟩:=okWide_string Tryz.underlying9 (hval 0 9 v0 rfl rfl)
 have lt0 : ∀ x ∈ p0,x.block < W.heap.size:=by obtain ⟨m,hm⟩:=h0; exact DataW.trod_lt m _ _ _ hm
 obtain ⟨x0,ok0,vr0⟩:=Av.cursorOpens_r0.arg1 rfl h0
 obtain ⟨b1,rfl⟩:=okWide_bool Tryz.underlying4 (hval 1 4 v1 rfl rfl)
 have lt1 : ∀ x ∈ p1,x.block < W.heap.size:=by obtain ⟨m,hm⟩:=h1; exact DataW.trod_lt m _ _ _ hm
 obtain ⟨x1,ok1,vr1⟩:=Av.cursorOpens_r1.arg1 rfl h1
 obtain ⟨b2,rfl⟩:=okWide_bool Tryz.underlying4 (hval 2 4 v2 rfl rfl)
 have lt2 : ∀ x ∈ p2,x.block < W.heap.size:=by obtain ⟨m,hm⟩:=h2; exact DataW.trod_lt m _ _ _ hm
 obtain ⟨x2,ok2,vr2⟩:=Av.cursorOpens_r2.arg1 rfl h2
 refine (Av.law_calls (calls x0 ok0 x1 ok1 x2 ok2) W ((vr0.append vr1).append vr2)).mono fun e W' ⟨he,bel⟩ => ?_
 subst he
 exact ⟨_,rfl,_,_,_,[],_,[],hW',trodAll_mk1 (shut_bool Tryz.underlying4 _),(trodAll_cons_mk (Below.trod Av.laidOut (by kernel_rfl) (of_decide_eq_true (by kernel_rfl)) h0 bel lt0) (trodAll_cons_mk (Below.trod Av.laidOut (by kernel_rfl) (of_decide_eq_true (by kernel_rfl)) h1 bel lt1) (trodAll_cons_mk (Below.trod Av.laidOut (by kernel_rfl) (of_decide_eq_true (by kernel_rfl)) h2 bel lt2) trodAll_mk0))),rfl,bel.frame _,fun h => by cases h⟩
end cursorOpens
theorem cursorOpens_of (calls : ∀ (x0 : ByteArray),Av.cursorOpens_r0.ok x0→∀ (x1 : Bool),Av.cursorOpens_r1.ok x1→∀ (x2 : Bool),Av.cursorOpens_r2.ok x2→Av.ACalls Tryz.prog 7 (Av.cursorOpens_r0.enc x0 ++ Av.cursorOpens_r1.enc x1 ++ Av.cursorOpens_r2.enc x2) [] fun r _ => r = .lit (.bool true)) : Rows.CursorOpensSaid :=
 OpenClaim.holds_of_wide 7 Tryz.f7 rfl rfl rfl rfl rfl rfl rfl ⟨rfl,rfl,rfl,rfl,rfl⟩ rfl rfl rfl rfl rfl (by kernel_rfl) Tryz.func7 (by kernel_rfl)
  (of_decide_eq_true (by kernel_rfl)) (by unfold Func.isWrapper; first | (rw [if_pos (by decide +kernel)]; kernel_rfl) | (rw [if_neg (by decide +kernel)]; exact ⟨rfl,rfl⟩))
  (fun os started H enc _ => cursorOpens.lifted calls os started H enc)
end Go.Proofs.YtlhiaihmkjlaaaaGreat
end
section
set_option maxHeartbeats 2000000
namespace Go.Proofs.YtlhiaihmkjlaaaaGreat.Av
open Go Go.RowKit
theorem cursorOpens_calls (x0 : ByteArray) (h0 : cursorOpens_r0.ok x0) (x1 : Bool) (h1 : cursorOpens_r1.ok x1) (x2 : Bool) (h2 : cursorOpens_r2.ok x2) :
  ACalls Tryz.prog 7 (cursorOpens_r0.enc x0 ++ cursorOpens_r1.enc x1 ++ cursorOpens_r2.enc x2) [] fun r _ => r = .lit (.bool true):=by
 have hsz : x0.size≤maxLen:=h0
 have hml : maxLen≤9223372036854775807:=by decide
 show ACalls Tryz.prog 7 [S x0,B x1,B x2] [] _
 obtain ⟨name,rfl⟩ : ∃ l,x0=bstr l:=⟨x0.data.toList,(bstr_data x0).symm⟩
 have hnl : name.length≤9223372036854775807:=by
  have : (bstr name).size=name.length:=by simp [bstr,ByteArray.size]
  omega
 clear h0 h1 h2
 refine law_of (zqwZ ?_)
 unfold zghZ
 simp only [alnT_spec hnl,bO_some,abI_gtr,bB_bool]
 by_cases k0 : (60 : Int) < (name.length : Int)
 ·simp only [k0,decide_true,bI_true]
  exact bP_pure cursorRuns_p (by trivial)
 simp only [k0,decide_false,zxZ]
 obtain ⟨r,H1,⟨p,rfl,l1,st0,g,hid⟩,hc⟩:=New_c 4 [] (by omega)
 refine bC_of hc ?_
 obtain ⟨r,H2,⟨rfl,l2,ds0,g2⟩,hc⟩:=RNew_c 4 H1 (by omega)
 refine bC_of hc ?_
 have e1 : abN .eql nilP (.ptr ([] : AH).length 0) (.lit (.pointer none))=some (B false):=rfl
 simp only [e1,bO_some,bB_bool,zxZ]
 have duo:=duo_new st0 l1 hid ds0 g2
 have eS : (AV.lit (.string ⟨#[98]⟩))=S (bstr [98]):=rfl
 simp only [eS]
 obtain ⟨r,H3,⟨rfl,p3,st3,f3⟩,hc⟩:=Open_c duo.P (newS_w 4) (by omega) (name:=[98]) (by simp) true
 refine bC_of hc ?_
 have duo3:=duo.stepP st3 f3
 obtain ⟨r,H4,⟨rfl,q4,ds4,f4⟩,hc⟩:=ROpen_c duo3.D (newS_w 4) (by omega) (name:=[98]) (by simp) true
 refine bC_of hc ?_
 have duo4:=duo3.stepD ds4 f4
 have w4:=openS_w (newS_w 4) [98] true
 -- the rest,of any two stores alike
 have j10 : ∀ (s : StS) (p q : AV) (H : AH),Duo s s ([] : AH).length H1.length p q H→SW 1 s→zcnZ (S (bstr name)) (B x1) (.ptr ([] : AH).length 0) (.ptr H1.length 0) H (fun r _ => r = .lit (.bool true)):=by
  intro s p q H duo hw
  generalize ([] : AH).length=os at *
  generalize H1.length=od at *
  rw [zncZ]; unfold zgeZ
  have w2:=openS_w hw name x1
  by_cases hcode : (openS s name x1).1.2=0
  ·obtain ⟨r,H5,⟨p5,fo,rfl,hfo,hF,hfp,st5,f5⟩,hc⟩:=COpen_c duo.P hw (by omega) hnl x1 hcode
   refine bC_of hc ?_
   have duo5:=duo.stepP st5 f5
   simp only [zbaZ,List.getElem?_cons_succ,List.getElem?_cons_zero,bO_some]
   rw [zfxZ]; unfold zdnZ
   obtain ⟨r,H6,⟨rfl,q6,ds6,f6⟩,hc⟩:=ROpen_c duo5.D hw (by omega) hnl x1
   refine bC_of hc ?_
   have duo6:=duo5.stepD ds6 f6
   have hfl:=(List.getElem?_eq_some_iff.1 hF).1
   have od5:=duo.D.os_lt
   have q5:=duo.D.p_lt
   have hF6 : FAt fo os (openS s name x1).1.1 0 H6:=by
    unfold FAt
    rw [f6.same fo hfl (by omega) (fun z => by have:=q5 _ z; omega)]
    exact hF
   simp only [zbaZ,List.getElem?_cons_succ,List.getElem?_cons_zero,bO_some]
   rw [zfsZ]; unfold zdlZ
   have e2 : abN .eql nilP (.ptr fo 0) (.lit (.pointer none))=some (B false):=rfl
   simp only [hcode,abI_eql,decide_true,bO_some,bG_bool,beq_self_eq_true,gO_true,e2,abI_neq,ne_eq,not_true_eq_false,decide_false,abB_eql,zcvZ,if_true,gC_true]
   refine bC_of (Ino_c hF6) ?_
   simp only [abI_eql,decide_true,bO_some,bG_bool,beq_self_eq_true,gO_true,zfZ,zjZ,Nat.zero_add,gC_true]
   refine bC_of (Tell_c hF6) ?_
   simp only [abI_eql,decide_true,bO_some,bG_bool,beq_self_eq_true,gO_true,zcvZ,if_true,if_false,Bool.false_eq_true,gC_true]
   obtain ⟨R,hR,r,H7,⟨rfl,g7⟩,hc⟩:=Now_c duo6.P w2 (by omega)
   refine bC_of hc ?_
   have duo7:=duo6.grew g7
   obtain ⟨a,b,hI,hl⟩:=duo_now duo7
   obtain ⟨a6,b6,hI6,hl6⟩:=duo_now duo6
   have hsame:=ref_SameImage_p hR hI (w2.now.sm (by omega))
   rw [sameI_self] at hsame
   have hl6' : ald true 2 H6 (.ptr od 0)=some (.agg [a,b]):=by
    obtain ⟨_,_,_,_,_,hc6⟩:=duo6.D
    rw [ald_ptr hc6.obj]
    rw [ald_ptr (g7.cells hc6.obj)] at hl
    exact hl
   simp only [bO_some,bG_bool,beq_self_eq_true,gO_true,zfZ,zjZ,Nat.zero_add,hl,gP_true]
   refine bP_of hsame ?_
   simp only [bO_some,bG_bool,beq_self_eq_true,gO_true,zcvZ,if_true,gP_true,hl6',bI_true,and_true,true_and]
   exact bP_of cursorRuns_p (by trivial)
  ·obtain ⟨r,H5,⟨p5,rfl,st5,f5⟩,hc⟩:=COpenE_c duo.P hw (by omega) hnl x1 hcode
   refine bC_of hc ?_
   have duo5:=duo.stepP st5 f5
   simp only [zbaZ,List.getElem?_cons_succ,List.getElem?_cons_zero,bO_some]
   rw [zfxZ]; unfold zdnZ
   obtain ⟨r,H6,⟨rfl,q6,ds6,f6⟩,hc⟩:=ROpen_c duo5.D hw (by omega) hnl x1
   refine bC_of hc ?_
   have duo6:=duo5.stepD ds6 f6
   simp only [zbaZ,List.getElem?_cons_succ,List.getElem?_cons_zero,bO_some]
   rw [zfsZ]; unfold zdlZ
   have e2 : abN .eql nilP (.lit (.pointer none)) (.lit (.pointer none))=some (B true):=rfl
   obtain ⟨R,hR,r,H7,⟨rfl,g7⟩,hc⟩:=Now_c duo6.P w2 (by omega)
   have duo7:=duo6.grew g7
   obtain ⟨a,b,hI,hl⟩:=duo_now duo7
   have hsame:=ref_SameImage_p hR hI (w2.now.sm (by omega))
   rw [sameI_self] at hsame
   have hl6' : ald true 2 H6 (.ptr od 0)=some (.agg [a,b]):=by
    obtain ⟨_,_,_,_,_,hc6⟩:=duo6.D
    rw [ald_ptr hc6.obj]
    rw [ald_ptr (g7.cells hc6.obj)] at hl
    exact hl
   simp only [hcode,abI_eql,decide_true,bO_some,bG_bool,bG_undef,beq_self_eq_true,show ((true == false)=false) from rfl,gO_true,gO_false,e2,abI_neq,ne_eq,not_false_eq_true,decide_false,abB_eql,zcvZ,if_true,gC_true,gC_false]
   refine bC_of hc ?_
   simp only [bO_some,bG_bool,beq_self_eq_true,gO_true,zfZ,zjZ,Nat.zero_add,hl,gP_true]
   refine bP_of hsame ?_
   simp only [bO_some,bG_bool,beq_self_eq_true,gO_true,zcvZ,if_true,gP_true,hl6',bI_true,and_true,true_and]
   exact bP_of cursorRuns_p (by trivial)
 cases x2 with
 | false =>
  simp only [bB_bool,zxZ]
  exact j10 _ _ _ _ duo4 w4
 | true =>
  simp only [bB_bool,bI_true]
  obtain ⟨r,H5,⟨rfl,st5,f5⟩,hc⟩:=Arm_c duo4.P 0
  refine bC_of hc ?_
  have duo5:=duo4.stepP st5 f5
  obtain ⟨r,H6,⟨rfl,ds6,f6⟩,hc⟩:=RArm_c duo5.D 0
  refine bC_of hc ?_
  exact j10 _ _ _ _ (duo5.stepD ds6 f6) (armS_w w4 (by omega))
end Go.Proofs.YtlhiaihmkjlaaaaGreat.Av
namespace Go.Proofs.YtlhiaihmkjlaaaaGreat
theorem cursorOpens_holds : Rows.CursorOpensSaid:=cursorOpens_of Av.cursorOpens_calls
#print axioms cursorOpens_holds
end Go.Proofs.YtlhiaihmkjlaaaaGreat
end
