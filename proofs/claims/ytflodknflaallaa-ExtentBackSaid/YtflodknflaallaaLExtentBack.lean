/- The row of the law ExtentBack, out of what a call of it comes to. No condition. Printed by a program of this session. -/
import Derived.Test.YtflodknflaallaaAvZ
import Derived.Test.YtflodknflaallaaAvK2
import Derived.Test.YtflodknflaallaaRows
import Derived.WalkKit
import Derived.ProofKit
import Derived.OpenShut
import Derived.ShutString
import Derived.ChangeOld
import Derived.Below
import Derived.Carry
import Derived.SizedLaws
set_option linter.unusedVariables false
namespace Go.Proofs.Ytflodknflaallaa.Av
open Go Go.RowKit
noncomputable def extentBack_r0 : Rd Try.prog 24 (Int × ((Sl (Int × ((List UInt8) × Unit))) × Unit)) := (Rd.struct (Rds.cons (Rd.int .i64 Try.underlying3 (by kernel_rfl)) (Rds.cons (Rd.slice (Rd.struct (Rds.cons (Rd.int .i64 Try.underlying3 (by kernel_rfl)) (Rds.cons (Rd.array 8 (Rd.byte Try.underlying5 (by kernel_rfl)) Try.underlying30 (by kernel_rfl)) (Rds.nil _ _) rfl rfl) rfl rfl) Try.underlying32 (by kernel_rfl)) Try.underlying22 (by kernel_rfl)) (Rds.nil _ _) rfl rfl) rfl rfl) Try.underlying24 (by kernel_rfl))
noncomputable def extentBack_r1 : Rd Try.prog 3 Int := (Rd.int .i64 Try.underlying3 (by kernel_rfl))
noncomputable def extentBack_r2 : Rd Try.prog 27 (Sl UInt8) := (Rd.slice (Rd.byte Try.underlying5 (by kernel_rfl)) Try.underlying27 (by kernel_rfl))
noncomputable def extentBack_r3 : Rd Try.prog 3 Int := (Rd.int .i64 Try.underlying3 (by kernel_rfl))
end Go.Proofs.Ytflodknflaallaa.Av
namespace Go.Proofs.Ytflodknflaallaa
open Go.ChangeShapes Go.WideShapes Go.ChangeAt Go.RowKit
namespace extentBack
set_option maxRecDepth 100000 in
theorem lifted (calls : ∀ (x0 : (Int × ((Av.Sl (Int × ((List UInt8) × Unit))) × Unit))), Av.extentBack_r0.ok x0 → ∀ (x1 : Int), Av.extentBack_r1.ok x1 → ∀ (x2 : (Av.Sl UInt8)), Av.extentBack_r2.ok x2 → ∀ (x3 : Int), Av.extentBack_r3.ok x3 → Av.ACalls Try.prog 7 ([.agg (Av.extentBack_r0.enc x0)] ++ Av.extentBack_r1.enc x1 ++ Av.extentBack_r2.enc x2 ++ Av.extentBack_r3.enc x3) [] fun r _ => r = .lit (.bool true)) (os : Os) (started : os.Started) (H : Type) (enc : TypeId × Value → H) :
    ReturnsInHanded {} Try.checked os 7 .any (Rows.extentBackSpec.pre6 enc Try.prog Try.f7 Rows.extentBackRow.domain false) (Rows.extentBackSpec.post enc Try.prog Try.f7 false true false false) := by
  refine returnsInHanded_of_change_sized (C := Try.checked) Av.own started (by kernel_rfl) Try.func7
    (ChangeSpec.witness6 (enc := enc) (C := Try.checked) false ⟨#[], #[.agg #[.int .i64 0, .slice none 0 0], .int .i64 0, .slice none 0 0, .int .i64 0], []⟩ 8 (by kernel_rfl) (by kernel_rfl) (by kernel_rfl) (by kernel_rfl)) ?_
  intro W base args ds gs before hval0 hW hcnd hsz0 _
  have hval : ∀ (j : Nat) t v, Try.f7.params[j]? = some t → args[j]? = some v → Value.okWide Try.prog W .any base t v := hval0
  have hW' := hW
  obtain ⟨p, q, hA0, hV, rfl, hfz, hnd⟩ := hW
  have hA : DataW.TrodAll enc Try.prog W 0 (fun _ => true) true Try.f7.params.toList args.toList ds p := hA0
  rw [Try.params7] at hA hval
  obtain ⟨v0, vs0, d0, ds0, p0, q0, hargs, rfl, rfl, h0, r0⟩ := trodAll_cons hA
  obtain ⟨v1, vs1, d1, ds1, p1, q1, rfl, rfl, rfl, h1, r1⟩ := trodAll_cons r0
  obtain ⟨v2, vs2, d2, ds2, p2, q2, rfl, rfl, rfl, h2, r2⟩ := trodAll_cons r1
  obtain ⟨v3, vs3, d3, ds3, p3, q3, rfl, rfl, rfl, h3, r3⟩ := trodAll_cons r2
  obtain ⟨rfl, rfl, rfl⟩ := trodAll_nil r3
  obtain rfl : args = #[v0, v1, v2, v3] := by cases args; simp_all
  obtain ⟨rfl, rfl⟩ := trodVars_none hV
  obtain ⟨b0, rfl, -⟩ := okWide_struct Try.underlying24 (hval 0 24 v0 rfl rfl)
  have lt0 : ∀ x ∈ p0, x.block < W.heap.size := by obtain ⟨m, hm⟩ := h0; exact DataW.trod_lt m _ _ _ hm
  obtain ⟨x0, ok0, vr0⟩ := Av.extentBack_r0.argN h0
  obtain ⟨b1, rfl⟩ := okWide_int Try.underlying3 (hval 1 3 v1 rfl rfl)
  have lt1 : ∀ x ∈ p1, x.block < W.heap.size := by obtain ⟨m, hm⟩ := h1; exact DataW.trod_lt m _ _ _ hm
  obtain ⟨x1, ok1, vr1⟩ := Av.extentBack_r1.arg1 rfl h1
  obtain ⟨b2, len2, cap2, rfl⟩ := okWide_slice Try.underlying27 (hval 2 27 v2 rfl rfl)
  have lt2 : ∀ x ∈ p2, x.block < W.heap.size := by obtain ⟨m, hm⟩ := h2; exact DataW.trod_lt m _ _ _ hm
  obtain ⟨x2, ok2, vr2⟩ := Av.extentBack_r2.arg1 rfl h2
  obtain ⟨b3, rfl⟩ := okWide_int Try.underlying3 (hval 3 3 v3 rfl rfl)
  have lt3 : ∀ x ∈ p3, x.block < W.heap.size := by obtain ⟨m, hm⟩ := h3; exact DataW.trod_lt m _ _ _ hm
  obtain ⟨x3, ok3, vr3⟩ := Av.extentBack_r3.arg1 rfl h3
  refine (Av.law_calls (calls x0 ok0 x1 ok1 x2 ok2 x3 ok3) W (((vr0.append vr1).append vr2).append vr3)).mono fun e W' ⟨he, bel⟩ => ?_
  subst he
  exact ⟨_, rfl, _, _, _, [], _, [], hW', trodAll_mk1 (shut_bool Try.underlying4 _), (trodAll_cons_mk (Below.trod Av.laidOut (by kernel_rfl) (of_decide_eq_true (by kernel_rfl)) h0 bel lt0) (trodAll_cons_mk (Below.trod Av.laidOut (by kernel_rfl) (of_decide_eq_true (by kernel_rfl)) h1 bel lt1) (trodAll_cons_mk (Below.trod Av.laidOut (by kernel_rfl) (of_decide_eq_true (by kernel_rfl)) h2 bel lt2) (trodAll_cons_mk (Below.trod Av.laidOut (by kernel_rfl) (of_decide_eq_true (by kernel_rfl)) h3 bel lt3) trodAll_mk0)))), rfl, bel.frame _, fun h => by cases h⟩
end extentBack
theorem extentBack_of (calls : ∀ (x0 : (Int × ((Av.Sl (Int × ((List UInt8) × Unit))) × Unit))), Av.extentBack_r0.ok x0 → ∀ (x1 : Int), Av.extentBack_r1.ok x1 → ∀ (x2 : (Av.Sl UInt8)), Av.extentBack_r2.ok x2 → ∀ (x3 : Int), Av.extentBack_r3.ok x3 → Av.ACalls Try.prog 7 ([.agg (Av.extentBack_r0.enc x0)] ++ Av.extentBack_r1.enc x1 ++ Av.extentBack_r2.enc x2 ++ Av.extentBack_r3.enc x3) [] fun r _ => r = .lit (.bool true)) : Rows.ExtentBackSaid :=
  OpenClaim.holds_of_wide 7 Try.f7 rfl rfl rfl rfl rfl rfl rfl ⟨rfl, rfl, rfl, rfl, rfl⟩ rfl rfl rfl rfl rfl (by kernel_rfl) Try.func7 (by kernel_rfl)
    (of_decide_eq_true (by kernel_rfl)) (by unfold Func.isWrapper; first | (rw [if_pos (by decide +kernel)]; kernel_rfl) | (rw [if_neg (by decide +kernel)]; exact ⟨rfl, rfl⟩))
    (fun os started H enc _ => extentBack.lifted calls os started H enc)
end Go.Proofs.Ytflodknflaallaa
