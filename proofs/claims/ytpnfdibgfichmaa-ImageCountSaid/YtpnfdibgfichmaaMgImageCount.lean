/- The law and its row. No condition. -/
import Derived.Test.YtpnfdibgfichmaaMgG
import Derived.Below
import Derived.Carry
import Derived.ChangeOld
import Derived.OpenShut
import Derived.ProofKit
import Derived.ShutString
import Derived.SizedLaws
import Derived.Test.YtpnfdibgfichmaaRows
import Derived.WalkKit
/-! YtpnfdibgfichmaaLImageCount -/
section
/- The row of the law ImageCount, out of what a call of it comes to. No condition. Printed by a program of this session. -/
set_option linter.unusedVariables false
namespace Go.Proofs.Ytpnfdibgfichmaa.Av
open Go Go.RowKit
noncomputable def imageCount_r0 : Rd Try.prog 5 UInt8 := (Rd.byte Try.underlying5 (by kernel_rfl))
end Go.Proofs.Ytpnfdibgfichmaa.Av
namespace Go.Proofs.Ytpnfdibgfichmaa
open Go.ChangeShapes Go.WideShapes Go.ChangeAt Go.RowKit
namespace imageCount
set_option maxRecDepth 100000 in
theorem lifted (calls : ∀ (x0 : UInt8), Av.imageCount_r0.ok x0 → Av.ACalls Try.prog 6 (Av.imageCount_r0.enc x0) [] fun r _ => r = .lit (.bool true)) (os : Os) (started : os.Started) (H : Type) (enc : TypeId × Value → H) :
    ReturnsInHanded {} Try.checked os 6 .any (Rows.imageCountSpec.pre6 enc Try.prog Try.f6 Rows.imageCountRow.domain false) (Rows.imageCountSpec.post enc Try.prog Try.f6 false true false false) := by
  refine returnsInHanded_of_change_sized (C := Try.checked) Av.own started (by kernel_rfl) Try.func6
    (ChangeSpec.witness6 (enc := enc) (C := Try.checked) false ⟨#[], #[.int .u8 0], []⟩ 8 (by kernel_rfl) (by kernel_rfl) (by kernel_rfl) (by kernel_rfl)) ?_
  intro W base args ds gs before hval0 hW hcnd hsz0 _
  have hval : ∀ (j : Nat) t v, Try.f6.params[j]? = some t → args[j]? = some v → Value.okWide Try.prog W .any base t v := hval0
  have hW' := hW
  obtain ⟨p, q, hA0, hV, rfl, hfz, hnd⟩ := hW
  have hA : DataW.TrodAll enc Try.prog W 0 (fun _ => true) true Try.f6.params.toList args.toList ds p := hA0
  rw [Try.params6] at hA hval
  obtain ⟨v0, vs0, d0, ds0, p0, q0, hargs, rfl, rfl, h0, r0⟩ := trodAll_cons hA
  obtain ⟨rfl, rfl, rfl⟩ := trodAll_nil r0
  obtain rfl : args = #[v0] := by cases args; simp_all
  obtain ⟨rfl, rfl⟩ := trodVars_none hV
  obtain ⟨b0, rfl⟩ := okWide_int Try.underlying5 (hval 0 5 v0 rfl rfl)
  have lt0 : ∀ x ∈ p0, x.block < W.heap.size := by obtain ⟨m, hm⟩ := h0; exact DataW.trod_lt m _ _ _ hm
  obtain ⟨x0, ok0, vr0⟩ := Av.imageCount_r0.arg1 rfl h0
  refine (Av.law_calls (calls x0 ok0) W vr0).mono fun e W' ⟨he, bel⟩ => ?_
  subst he
  exact ⟨_, rfl, _, _, _, [], _, [], hW', trodAll_mk1 (shut_bool Try.underlying4 _), (trodAll_cons_mk (Below.trod Av.laidOut (by kernel_rfl) (of_decide_eq_true (by kernel_rfl)) h0 bel lt0) trodAll_mk0), rfl, bel.frame _, fun h => by cases h⟩
end imageCount
theorem imageCount_of (calls : ∀ (x0 : UInt8), Av.imageCount_r0.ok x0 → Av.ACalls Try.prog 6 (Av.imageCount_r0.enc x0) [] fun r _ => r = .lit (.bool true)) : Rows.ImageCountSaid :=
  OpenClaim.holds_of_wide 6 Try.f6 rfl rfl rfl rfl rfl rfl rfl ⟨rfl, rfl, rfl, rfl, rfl⟩ rfl rfl rfl rfl rfl (by kernel_rfl) Try.func6 (by kernel_rfl)
    (of_decide_eq_true (by kernel_rfl)) (by unfold Func.isWrapper; first | (rw [if_pos (by decide +kernel)]; kernel_rfl) | (rw [if_neg (by decide +kernel)]; exact ⟨rfl, rfl⟩))
    (fun os started H enc _ => imageCount.lifted calls os started H enc)
end Go.Proofs.Ytpnfdibgfichmaa
end
/-! YtpnfdibgfichmaaAvImageCount -/
section
/- The law ImageCount: as many files as may be are made, and not one more. No condition. -/
set_option linter.unusedVariables false
set_option linter.unusedSimpArgs false
set_option maxRecDepth 100000
set_option maxHeartbeats 2000000
namespace Go.Proofs.Ytpnfdibgfichmaa.Av
open Go Go.RowKit

def numK (i : Nat) : List UInt8 := if i < 10 then [UInt8.ofNat (48 + i)] else [UInt8.ofNat (48 + i / 10), UInt8.ofNat (48 + i % 10)]
def isS (s : List UInt8) : Option (AV × AH) → Bool
  | some (.lit (.string b), _) => decide (b.data.toList = s)
  | _ => false
theorem num_ran : (List.range 30).all (fun i => isS (numK i) (run Try.prog noCall (inL []) (inL []) 1000 30 23 [.lit (.int .i64 (Int.ofNat i))] [])) = true := by kernel_rfl
theorem Num_p {i : Nat} (hi : i < 30) : BPure Try.prog 23 [I i] (S (bstr (numK i))) := by
  have h := List.all_eq_true.1 num_ran i (List.mem_range.2 hi)
  cases hr : run Try.prog noCall (inL []) (inL []) 1000 30 23 [.lit (.int .i64 (Int.ofNat i))] [] with
  | none => rw [hr] at h; cases h
  | some q =>
    obtain ⟨r, X⟩ := q
    rw [hr] at h
    have hc := run_ok noCall_ok _ _ _ _ _ _ hr
    refine BPure.val rfl rfl ⟨r, X, ?_, hc⟩
    unfold isS at h
    split at h
    · rename_i b X' he
      injection he with he; injection he with he1 he2
      rw [he1]
      have := of_decide_eq_true h
      rw [← this, bstr_data]
    · cases h
def cntO (i : Nat) : OpM := ⟨1, 1 + i, 0, 0, false, 102 :: numK i, [], []⟩
def cntV (i : Nat) : OpV := ⟨cntO i, nilSl, SV.nil⟩
def cntL (k : Nat) : List OpM := (List.range k).map cntO
theorem cnt_all : (List.range 30).all (fun k => decide ((allI [] [] (cntL k)).1.length = min k 16 ∧ (allI [] [] (cntL k)).2.length = (allI [] [] (cntL k)).1.length ∧ mayI (allI [] [] (cntL k)).1 (allI [] [] (cntL k)).2)) = true := by kernel_rfl
theorem imageCount_calls (x0 : UInt8) (h0 : imageCount_r0.ok x0) : ACalls Try.prog 6 (imageCount_r0.enc x0) [] fun r _ => r = .lit (.bool true) := by
  show ACalls Try.prog 6 [.lit (.int .u8 x0.toNat)] [] _
  have hk : x0.toNat % 30 < 30 := Nat.mod_lt _ (by omega)
  have hcnt := of_decide_eq_true (List.all_eq_true.1 cnt_all (x0.toNat % 30) (List.mem_range.2 hk))
  refine law_of (salvorlaw12_ImageCount_ok ?_)
  unfold salvorlaw12_ImageCount
  have e1 : abI .rem (.lit (.int .u8 x0.toNat)) (.lit (.int .u8 30)) = some (.lit (.int .u8 ((x0.toNat % 30 : Nat) : Int))) := by
    have : abI .rem (.lit (.int .u8 x0.toNat)) (.lit (.int .u8 (30 : Nat))) = some (.lit (.int .u8 ((x0.toNat % 30 : Nat) : Int))) := by
      rw [abI_rem (by omega) (by omega)]; congr 3
    exact this
  have e2 : acI .i64 (.lit (.int .u8 ((x0.toNat % 30 : Nat) : Int))) = some (I ((x0.toNat % 30 : Nat) : Int)) := acI_i64 (by omega) (by omega)
  simp only [e1, bO_some, e2]
  generalize x0.toNat % 30 = k at hk hcnt
  refine salvorlaw12_ImageCount_L5_rule (fun n x3 x4 x5 H' => ∃ i : Nat, i + n = k ∧ x4 = I k ∧ x5 = I i ∧ sliceCells H' 8 x3 = some (((List.range i).map cntV).flatMap encO, ((List.range i).map cntV).length) ∧ ownedS x3 = true) ?_ k ⟨0, by omega, rfl, rfl, rfl, rfl⟩
  rintro n x3 x4 x5 H' R hR ⟨i, hi, rfl, rfl, hs, hown⟩
  unfold salvorlaw12_ImageCount_L5_b
  rcases Nat.lt_or_ge i k with h | h
  · simp only [abI_lss, bO_some, bB_bool, Int.ofNat_lt, h, decide_true, bI_true]
    refine bP_pure (Num_p (show i < 30 by omega)) ?_
    have hnl : (numK i).length ≤ 2 := by unfold numK; split <;> simp
    have e3 : abT .add (.lit (.string ⟨#[102]⟩)) (S (bstr (numK i))) = some (S (bstr (102 :: numK i))) := abT_add (a := [102]) (by simp; omega)
    have e4 : abI .add (.lit (.int .i64 1)) (I i) = some (I (1 + i)) := abI_add (by omega) (by omega)
    have e5 : abl [(.lit (.int .i64 0)), (.lit (.int .i64 0)), (.lit (.int .i64 0)), (.lit (.int .i64 0)), (.lit (.bool false)), (.lit (.string ⟨#[]⟩)), (.lit (.string ⟨#[]⟩)), (.lit (.slice none 0 0))] [(0, 1, (.lit (.int .i64 1))), (5, 1, S (bstr (102 :: numK i))), (1, 1, I (1 + i))] = some (.agg (encO (cntV i))) := rfl
    have e6 : absl H' 8 1 (zrow [(.lit (.int .i64 0)), (.lit (.int .i64 0)), (.lit (.int .i64 0)), (.lit (.int .i64 0)), (.lit (.bool false)), (.lit (.string ⟨#[]⟩)), (.lit (.string ⟨#[]⟩)), (.lit (.slice none 0 0))] 1) [(0, 8, .agg (encO (cntV i)))] = some (.sl H'.length 0 1 8 (.ex 1), H' ++ [some (.cells (encO (cntV i)))]) := rfl
    have g := Grew.app H' [some (.cells (encO (cntV i)))]
    have x1 : appended (H' ++ [some (.cells (encO (cntV i)))]) 8 (.sl H'.length 0 1 8 (.ex 1)) = some (encO (cntV i), 1) := appended_slice (by rw [sliceCells_sl (c := encO (cntV i)) (by simp) (by simp [encO, opA])]; rfl)
    have hlen : ((List.range i).map cntV).length = i := by simp
    obtain ⟨r, H2, a1, a2, a3, -⟩ := aap_spec (bytes := 96) (g.slice hs) hown x1 (by omega)
    simp only [bO_some, e3, e4, e5, e6, bH_some, a1, abI_add (a := i) (b := 1) (by omega) (by omega)]
    refine hR (n - 1) _ _ _ _ (by omega) ⟨i + 1, by omega, rfl, by simp, ?_, a2⟩
    rw [List.range_succ, List.map_append, List.flatMap_append, List.length_append]
    simpa using a3
  · have hik : i = k := by omega
    subst hik
    have e3 : abl [(.lit (.slice none 0 0)), (.lit (.slice none 0 0))] [] = some (.agg [nilSl, nilSl]) := rfl
    have hlen : ((List.range i).map cntV).length = i := by simp
    have hf : Fit 0 [] [] := by simp [Fit]
    obtain ⟨r, H2, ⟨hI, hg⟩, hc⟩ := All_c (ns := []) (ds := []) (v := .agg [nilSl, nilSl]) ⟨nilSl, nilSl, [], rfl, SV.nil, SV.nil, rfl⟩ hf hs (by omega) (by
      intro x hx
      obtain ⟨j, hj, rfl⟩ := List.mem_map.1 hx
      have : (numK j).length ≤ 2 := by unfold numK; split <;> simp
      simp [OpFew, cntV, cntO]; omega)
    have el : ((List.range i).map cntV).map OpV.o = cntL i := by unfold cntL; rw [List.map_map]; rfl
    rw [el] at hI
    have hI0 := hI
    obtain ⟨c, d, dv, rfl, sc, sd, hdv⟩ := hI
    have oc := SV.oneA sc
    have od := SV.oneA sd
    obtain ⟨q1, q2, q3⟩ := hcnt
    have ld := congrArg List.length hdv
    rw [List.length_map] at ld
    have emin : amm imn [I i, (.lit (.int .i64 16))] = some (I ((min i 16 : Nat) : Int)) := by
      have : imn (i : Int) 16 = ((min i 16 : Nat) : Int) := by unfold imn; split <;> omega
      rw [amm_two, this]
    have hni : ¬ i < i := by omega
    simp only [abI_lss, bO_some, bB_bool, Int.ofNat_lt, hni, decide_false, bI_false, e3]
    refine bC_of hc ?_
    have b0 : rdCells true 2 [c, d] 0 = some (.agg [c, d]) := rfl
    obtain ⟨H3, f1, f2, f3⟩ : ∃ H3, anew H2 (.agg [(.lit (.slice none 0 0)), (.lit (.slice none 0 0))]) = some (.ptr H2.length 0, H2 ++ [some (.cells [nilSl, nilSl])]) ∧ ast 2 (H2 ++ [some (.cells [nilSl, nilSl])]) (.ptr H2.length 0) (.agg [c, d]) = some H3 ∧ H3[H2.length]? = some (some (.cells [c, d])) :=
      ⟨H2 ++ [some (.cells [c, d])], by simp, by simp [ast, splice, oc, od, cellsA_one oc, cellsA_one od], by simp⟩
    simp only [f1, bH_some, f2, bS_some]
    have lc : alnS c = some (I ((min i 16 : Nat) : Int)) := by rw [sc.len, q1]
    have ldd : alnS d = some (I ((min i 16 : Nat) : Int)) := by rw [sd.len, ld, q2, q1]
    simp [f3, lc, ldd, emin, b0]
    have hsm : Sm (allI [] [] (cntL i)).1 (allI [] [] (cntL i)).2 := by
      have hf2 : ∀ m, m ≤ i → Fit m (allI [] [] (cntL m)).1 (allI [] [] (cntL m)).2 := by
        intro m
        induction m with
        | zero => intro _; exact hf
        | succ m ih =>
          intro hm
          have e : allI [] [] (cntL (m + 1)) = applyI (allI [] [] (cntL m)).1 (allI [] [] (cntL m)).2 (cntO m) := by
            unfold cntL allI
            rw [List.range_succ, List.map_append, List.foldl_append]; rfl
          rw [e]
          refine (ih (by omega)).step ?_
          have : (numK m).length ≤ 2 := by unfold numK; split <;> simp
          simp [OpFew, cntO]; omega
      exact (hf2 i (Nat.le_refl _)).sm (by omega)
    refine bP_pure (May_p hI0 hsm) ?_
    simp [q3]
    first | refine bP_of (imageRuns_p) ?_ | refine bP_pure (imageRuns_p) ?_
    simp
end Go.Proofs.Ytpnfdibgfichmaa.Av
namespace Go.Proofs.Ytpnfdibgfichmaa
theorem imageCount_holds : Rows.ImageCountSaid := imageCount_of Av.imageCount_calls
#print axioms imageCount_holds
end Go.Proofs.Ytpnfdibgfichmaa
end
