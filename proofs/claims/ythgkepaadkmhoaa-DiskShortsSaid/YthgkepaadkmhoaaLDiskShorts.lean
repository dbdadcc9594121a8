/- The row of the law DiskShorts, out of what a call of it comes to. No condition. Printed by a program of this session. -/
import Derived.Test.YthgkepaadkmhoaaAvZ
import Derived.Test.YthgkepaadkmhoaaAvK2
import Derived.Test.YthgkepaadkmhoaaRows
import Derived.WalkKit
import Derived.ProofKit
import Derived.OpenShut
import Derived.ShutString
import Derived.ChangeOld
import Derived.Below
import Derived.Carry
import Derived.SizedLaws
set_option linter.unusedVariables false
namespace Go.Proofs.Ythgkepaadkmhoaa.Av
open Go Go.RowKit
noncomputable def diskShorts_r0 : Rd Try.prog 28 (Sl Int) := (Rd.slice (Rd.int .i64 Try.underlying3 (by kernel_rfl)) Try.underlying28 (by kernel_rfl))
noncomputable def diskShorts_r1 : Rd Try.prog 5 UInt8 := (Rd.byte Try.underlying5 (by kernel_rfl))
end Go.Proofs.Ythgkepaadkmhoaa.Av
namespace Go.Proofs.Ythgkepaadkmhoaa
open Go.ChangeShapes Go.WideShapes Go.ChangeAt Go.RowKit
namespace diskShorts
set_option maxRecDepth 100000 in
theorem lifted (calls : ∀ (x0 : (Av.Sl Int)), Av.diskShorts_r0.ok x0 → ∀ (x1 : UInt8), Av.diskShorts_r1.ok x1 → Av.ACalls Try.prog 4 (Av.diskShorts_r0.enc x0 ++ Av.diskShorts_r1.enc x1) [] fun r _ => r = .lit (.bool true)) (os : Os) (started : os.Started) (H : Type) (enc : TypeId × Value → H) :
    ReturnsInHanded {} Try.checked os 4 .any (Rows.diskShortsSpec.pre6 enc Try.prog Try.f4 Rows.diskShortsRow.domain false) (Rows.diskShortsSpec.post enc Try.prog Try.f4 false true false false) := by
  refine returnsInHanded_of_change_sized (C := Try.checked) Av.own started (by kernel_rfl) Try.func4
    (ChangeSpec.witness6 (enc := enc) (C := Try.checked) false ⟨#[], #[.slice none 0 0, .int .u8 0], []⟩ 8 (by kernel_rfl) (by kernel_rfl) (by kernel_rfl) (by kernel_rfl)) ?_
  intro W base args ds gs before hval0 hW hcnd hsz0 _
  have hval : ∀ (j : Nat) t v, Try.f4.params[j]? = some t → args[j]? = some v → Value.okWide Try.prog W .any base t v := hval0
  have hW' := hW
  obtain ⟨p, q, hA0, hV, rfl, hfz, hnd⟩ := hW
  have hA : DataW.TrodAll enc Try.prog W 0 (fun _ => true) true Try.f4.params.toList args.toList ds p := hA0
  rw [Try.params4] at hA hval
  obtain ⟨v0, vs0, d0, ds0, p0, q0, hargs, rfl, rfl, h0, r0⟩ := trodAll_cons hA
  obtain ⟨v1, vs1, d1, ds1, p1, q1, rfl, rfl, rfl, h1, r1⟩ := trodAll_cons r0
  obtain ⟨rfl, rfl, rfl⟩ := trodAll_nil r1
  obtain rfl : args = #[v0, v1] := by cases args; simp_all
  obtain ⟨rfl, rfl⟩ := trodVars_none hV
  obtain ⟨b0, len0, cap0, rfl⟩ := okWide_slice Try.underlying28 (hval 0 28 v0 rfl rfl)
  have lt0 : ∀ x ∈ p0, x.block < W.heap.size := by obtain ⟨m, hm⟩ := h0; exact DataW.trod_lt m _ _ _ hm
  obtain ⟨x0, ok0, vr0⟩ := Av.diskShorts_r0.arg1 rfl h0
  obtain ⟨b1, rfl⟩ := okWide_int Try.underlying5 (hval 1 5 v1 rfl rfl)
  have lt1 : ∀ x ∈ p1, x.block < W.heap.size := by obtain ⟨m, hm⟩ := h1; exact DataW.trod_lt m _ _ _ hm
  obtain ⟨x1, ok1, vr1⟩ := Av.diskShorts_r1.arg1 rfl h1
  refine (Av.law_calls (calls x0 ok0 x1 ok1) W (vr0.append vr1)).mono fun e W' ⟨he, bel⟩ => ?_
  subst he
  exact ⟨_, rfl, _, _, _, [], _, [], hW', trodAll_mk1 (shut_bool Try.underlying4 _), (trodAll_cons_mk (Below.trod Av.laidOut (by kernel_rfl) (of_decide_eq_true (by kernel_rfl)) h0 bel lt0) (trodAll_cons_mk (Below.trod Av.laidOut (by kernel_rfl) (of_decide_eq_true (by kernel_rfl)) h1 bel lt1) trodAll_mk0)), rfl, bel.frame _, fun h => by cases h⟩
end diskShorts
theorem diskShorts_of (calls : ∀ (x0 : (Av.Sl Int)), Av.diskShorts_r0.ok x0 → ∀ (x1 : UInt8), Av.diskShorts_r1.ok x1 → Av.ACalls Try.prog 4 (Av.diskShorts_r0.enc x0 ++ Av.diskShorts_r1.enc x1) [] fun r _ => r = .lit (.bool true)) : Rows.DiskShortsSaid :=
  OpenClaim.holds_of_wide 4 Try.f4 rfl rfl rfl rfl rfl rfl rfl ⟨rfl, rfl, rfl, rfl, rfl⟩ rfl rfl rfl rfl rfl (by kernel_rfl) Try.func4 (by kernel_rfl)
    (of_decide_eq_true (by kernel_rfl)) (by unfold Func.isWrapper; first | (rw [if_pos (by decide +kernel)]; kernel_rfl) | (rw [if_neg (by decide +kernel)]; exact ⟨rfl, rfl⟩))
    (fun os started H enc _ => diskShorts.lifted calls os started H enc)
end Go.Proofs.Ythgkepaadkmhoaa
