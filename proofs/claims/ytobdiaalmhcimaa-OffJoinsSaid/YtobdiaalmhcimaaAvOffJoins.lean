/- The law OffJoins: the sum of all is the sum of two sums, in either order; so is a product, where both can be told. No condition. -/
import Derived.Test.YtobdiaalmhcimaaAvOff
import Derived.Test.YtobdiaalmhcimaaAvOffRuns
import Derived.Test.YtobdiaalmhcimaaLOffJoins
set_option linter.unusedVariables false
set_option linter.unusedSimpArgs false
set_option maxRecDepth 100000
namespace Go.Proofs.Ytobdiaalmhcimaa.Av
open Go Go.RowKit
def gd (o : Option Int) : Int := o.getD 0
theorem oI_eq (o : Option Int) : oI o = .tup [I (gd o), B o.isSome] := by cases o <;> rfl
theorem addS_some {l : List Int} {x : Int} : addS l = some x ↔ (∀ n ∈ l, May n) ∧ l.sum ≤ 4611686018427387904 ∧ x = l.sum := by
  unfold addS
  split
  · rename_i h; exact ⟨fun hh => ⟨h.1, h.2, by injection hh with hh; exact hh.symm⟩, fun hh => by rw [hh.2.2]⟩
  · rename_i h; simp; intro h1 h2; exact absurd ⟨h1, h2⟩ h
theorem addS_none {l : List Int} : addS l = none ↔ ¬ ((∀ n ∈ l, May n) ∧ l.sum ≤ 4611686018427387904) := by
  unfold addS; split <;> simp_all
theorem sum_nonneg {l : List Int} (h : ∀ n ∈ l, May n) : 0 ≤ l.sum := by have := sum_take h l.length; simpa using this.1
/-- The sum of all is the sum of both. -/
theorem addS_app (a b : List Int) : addS (a ++ b) = match addS a, addS b with
    | some x, some y => addS [x, y]
    | _, _ => none := by
  cases ha : addS a with
  | none =>
    rw [addS_none] at ha
    simp only
    rw [addS_none]
    rintro ⟨h1, h2⟩
    refine ha ⟨fun n hn => h1 n (by simp [hn]), ?_⟩
    have := sum_nonneg (l := b) (fun n hn => h1 n (by simp [hn]))
    simp at h2; omega
  | some x =>
    cases hb : addS b with
    | none =>
      rw [addS_none] at hb
      simp only
      rw [addS_none]
      rintro ⟨h1, h2⟩
      refine hb ⟨fun n hn => h1 n (by simp [hn]), ?_⟩
      have := sum_nonneg (l := a) (fun n hn => h1 n (by simp [hn]))
      simp at h2; omega
    | some y =>
      rw [addS_some] at ha hb
      obtain ⟨a1, a2, rfl⟩ := ha
      obtain ⟨b1, b2, rfl⟩ := hb
      have s1 := sum_nonneg a1
      have s2 := sum_nonneg b1
      simp only
      unfold addS
      have : (∀ n ∈ a ++ b, May n) ↔ True := by simp; intro n hn; rcases hn with h | h; exact a1 n h; exact b1 n h
      have : (∀ n ∈ [a.sum, b.sum], May n) ↔ True := by simp [May]; omega
      simp_all
theorem addS_comm (a b : List Int) : addS (b ++ a) = addS (a ++ b) := by
  unfold addS
  have h1 : (b ++ a).sum = (a ++ b).sum := by simp; omega
  have h2 : (∀ n ∈ b ++ a, May n) ↔ ∀ n ∈ a ++ b, May n := by simp [or_comm]
  simp only [h1, h2]
theorem mulS_may {l : List Int} {x : Int} (h : mulS l = some x) : May x := by
  unfold mulS at h
  split at h
  · rename_i hm
    split at h
    · injection h with h; subst h; simp [May]
    · rename_i h0
      split at h
      · rename_i hp
        injection h with h; subst h
        have := prod_take hm h0 l.length
        simp at this
        unfold May; omega
      · cases h
  · cases h
theorem mulS_app {a b : List Int} {p q : Int} (ha : mulS a = some p) (hb : mulS b = some q) : mulS (a ++ b) = mulS [p, q] := by
  have mp := mulS_may ha
  have mq := mulS_may hb
  unfold mulS at ha hb
  split at ha
  · rename_i a1
    split at hb
    · rename_i b1
      have h1 : ∀ n ∈ a ++ b, May n := by intro n hn; rcases List.mem_append.1 hn with h | h; exact a1 n h; exact b1 n h
      have h2 : ∀ n ∈ [p, q], May n := by simp [mp, mq]
      unfold mulS
      rw [if_pos h1, if_pos h2]
      split at ha
      · rename_i a0
        injection ha with ha; subst ha
        rw [if_pos (by simp [a0]), if_pos (by simp)]
      · rename_i a0
        split at hb
        · rename_i b0
          injection hb with hb; subst hb
          rw [if_pos (by simp [b0]), if_pos (by simp)]
        · rename_i b0
          split at ha
          · split at hb
            · injection ha with ha; injection hb with hb
              subst ha; subst hb
              have e1 := prod_take a1 a0 a.length
              have e2 := prod_take b1 b0 b.length
              simp at e1 e2
              have z1 : ¬ 0 ∈ a ++ b := by simp [a0, b0]
              have z2 : ¬ 0 ∈ [a.prod, b.prod] := by simp; omega
              rw [if_neg z1, if_neg z2]
              simp [List.prod_append]
            · cases hb
          · cases ha
    · cases hb
  · cases ha
theorem noIdss_int (l : List Int) : noIdss (l.flatMap encI) = true := by
  induction l with
  | nil => rfl
  | cons a l ih => rw [List.flatMap_cons]; simpa [encI, noIdss, noIds] using ih
theorem flat_oI (o : Option Int) : flatA (oI o) = true := by cases o <;> rfl
theorem offJoins_calls (x0 : Sl Int) (h0 : offJoins_r0.ok x0) (x1 : Sl Int) (h1 : offJoins_r1.ok x1) : ACalls Try.prog 6 (offJoins_r0.enc x0 ++ offJoins_r1.enc x1) [] fun r _ => r = .lit (.bool true) := by
  have hv : SV encI 1 x0.l (if x0.nil then .lit (.slice none 0 0) else .imm (x0.l.flatMap encI) x0.l.length 1) := sl_sv (Rd.int (P := Try.prog) .i64 Try.underlying3 (by kernel_rfl)) x0 h0.1 (fun _ => rfl) (fun _ _ => rfl)
  have hw : SV encI 1 x1.l (if x1.nil then .lit (.slice none 0 0) else .imm (x1.l.flatMap encI) x1.l.length 1) := sl_sv (Rd.int (P := Try.prog) .i64 Try.underlying3 (by kernel_rfl)) x1 h1.1 (fun _ => rfl) (fun _ _ => rfl)
  show ACalls Try.prog 6 [if x0.nil then .lit (.slice none 0 0) else .imm (x0.l.flatMap encI) x0.l.length 1, if x1.nil then .lit (.slice none 0 0) else .imm (x1.l.flatMap encI) x1.l.length 1] [] _
  generalize (if x0.nil then AV.lit (.slice none 0 0) else .imm (x0.l.flatMap encI) x0.l.length 1) = v at hv
  generalize (if x1.nil then AV.lit (.slice none 0 0) else .imm (x1.l.flatMap encI) x1.l.length 1) = w at hw
  generalize x0.l = a at hv
  generalize x1.l = b at hw
  refine law_of (salvorlaw1_OffJoins_ok ?_)
  unfold salvorlaw1_OffJoins
  by_cases hla : (200 : Int) < a.length
  case pos =>
    simp [hv.len, hla]
    first | refine bP_of (offRuns_p) ?_ | refine bP_pure (offRuns_p) ?_
    rfl
  by_cases hlb : (200 : Int) < b.length
  case pos =>
    simp [hv.len, hw.len, hla, hlb]
    first | refine bP_of (offRuns_p) ?_ | refine bP_pure (offRuns_p) ?_
    rfl
  obtain ⟨r1, H1, a1, a2, a3, a4, a5, a6⟩ := aap_spec (sz := 1) (bytes := 8) (H := []) (v := nilSl) (cs := []) (n := 0) rfl rfl (appended_slice (hv.2 [])) (by omega)
  obtain ⟨r2, H2, b1, b2, b3, b4, b5, b6⟩ := aap_spec (bytes := 8) a3 a2 (appended_slice (hw.2 H1)) (by omega)
  obtain ⟨r3, H3, c1, c2, c3, c4, c5, c6⟩ := aap_spec (sz := 1) (bytes := 8) (H := H2) (v := nilSl) (cs := []) (n := 0) rfl rfl (appended_slice (hw.2 H2)) (by omega)
  obtain ⟨r4, H4, d1, d2, d3, d4, d5, d6⟩ := aap_spec (bytes := 8) c3 c2 (appended_slice (hv.2 H3)) (by omega)
  have lt2 := sliceCells_lt b3
  have b3' : sliceCells H3 1 r2 = some ((a ++ b).flatMap encI, (a ++ b).length) := by
    rw [sliceCells_keep b3 (fun i hi => c5 i (lt2 i hi) (by simp [idS]))]; simp
  have lt3 := sliceCells_lt b3'
  have b3'' : sliceCells H4 1 r2 = some ((a ++ b).flatMap encI, (a ++ b).length) := sliceCells_keep b3' (fun i hi => d5 i (lt3 i hi) (fun h => by
    rcases c6 i h with h | h
    · simp [idS] at h
    · have := lt2 i hi; omega))
  have d3' : sliceCells H4 1 r4 = some ((b ++ a).flatMap encI, (b ++ a).length) := by rw [d3]; simp
  have hab : (a ++ b).length ≤ 281474976710656 := by simp; omega
  have hba : (b ++ a).length ≤ 281474976710656 := by simp; omega
  have l2 (X : AH) : sliceCells (H4 ++ X) 1 r2 = some ((a ++ b).flatMap encI, (a ++ b).length) := sliceCells_keep b3'' (fun i hi => List.getElem?_append_left (sliceCells_lt b3'' i hi))
  simp [hv.len, hw.len, hla, hlb, a1, b1, c1, d1]
  first | refine bP_of (off_Add_p hv (by omega)) ?_ | refine bP_pure (off_Add_p hv (by omega)) ?_
  simp [oI_eq]
  first | refine bP_of (off_Add_p hw (by omega)) ?_ | refine bP_pure (off_Add_p hw (by omega)) ?_
  simp [oI_eq]
  refine bP_of (PCall.lend1 b3'' (noIdss_int _) (flat_oI (addS (a ++ b))) (fun R n1 n2 => off_Add_p ⟨n1, n2⟩ hab)) ?_
  simp [oI_eq]
  refine bP_of (PCall.lend1 d3' (noIdss_int _) (flat_oI (addS (b ++ a))) (fun R n1 n2 => off_Add_p ⟨n1, n2⟩ hba)) ?_
  rw [addS_comm a b]
  simp [oI_eq]
  refine bP_of (PCall.lend1 (sz := 1) (cs := [gd (addS a), gd (addS b)].flatMap encI) (m := 2) (by simp [sliceCells, encI]) (noIdss_int _) (flat_oI (addS [gd (addS a), gd (addS b)])) (fun R n1 n2 => off_Add_p ⟨n1, n2⟩ (by simp))) ?_
  simp [oI_eq]
  have key := addS_app a b
  have fin : ∀ H', H' = H4 ++ [some (AObj.cells [I (gd (addS a)), I (gd (addS b))])] → bP (PCall Try.prog 12 [v] H') (fun v71 =>
    bO (aextract v71 0) fun v72 =>
    bO (aextract v71 1) fun v73 =>
    bP (PCall Try.prog 12 [w] H') fun v74 =>
    bO (aextract v74 0) fun v75 =>
    bO (aextract v74 1) fun v76 =>
    bP (PCall Try.prog 12 [r2] H') fun v77 =>
    bO (aextract v77 0) fun v78 =>
    bO (aextract v77 1) fun v79 =>
    bH (absl H' 1 2 (zrow [(.lit (.int .i64 0))] 2) [(0, 1, v72), (1, 1, v75)]) fun v80 H81 =>
    bP (PCall Try.prog 12 [v80] H81) fun v82 =>
    bO (aextract v82 0) fun v83 =>
    bO (aextract v82 1) fun v84 =>
    bO (aun .not v73) fun v85 =>
    bG v85 false fun w86 =>
    gO w86 (some v76) fun v87 =>
    bG v85 false fun w88 =>
    gO w88 (aun .not v87) fun v89 =>
    bO (apick v85 (.lit (.bool true)) v89) fun v90 =>
    bG v90 false fun w91 =>
    gO w91 (some v78) fun v92 =>
    bG v90 false fun w93 =>
    gO w93 (some v83) fun v94 =>
    bG v90 false fun w95 =>
    gO w95 (abI .eql v92 v94) fun v96 =>
    bG v90 false fun w97 =>
    gO w97 (some v96) fun v98 =>
    bG v98 true fun w99 =>
    gO w99 (some v79) fun v100 =>
    bG v98 true fun w101 =>
    gO w101 (some v84) fun v102 =>
    bG v98 true fun w103 =>
    gO w103 (abB .eql v100 v102) fun v104 =>
    bG v90 false fun w105 =>
    gO w105 (apick v98 v104 (.lit (.bool false))) fun v106 =>
    bO (apick v90 (.lit (.bool true)) v106) fun v107 =>
    bG v107 true fun w108 =>
    gP w108 (PCall Try.prog 3 [] H81) fun v109 =>
    bO (apick v107 v109 (.lit (.bool false))) fun v110 =>
    v110 = B true) := by
    rintro H' rfl
    first | refine bP_of (off_Mul_p hv (by omega)) ?_ | refine bP_pure (off_Mul_p hv (by omega)) ?_
    simp [oI_eq]
    first | refine bP_of (off_Mul_p hw (by omega)) ?_ | refine bP_pure (off_Mul_p hw (by omega)) ?_
    simp [oI_eq]
    refine bP_of (PCall.lend1 (l2 _) (noIdss_int _) (flat_oI (mulS (a ++ b))) (fun R n1 n2 => off_Mul_p ⟨n1, n2⟩ hab)) ?_
    simp [oI_eq]
    refine bP_of (PCall.lend1 (sz := 1) (cs := [gd (mulS a), gd (mulS b)].flatMap encI) (m := 2) (by simp [sliceCells, encI]) (noIdss_int _) (flat_oI (mulS [gd (mulS a), gd (mulS b)])) (fun R n1 n2 => off_Mul_p ⟨n1, n2⟩ (by simp))) ?_
    simp [oI_eq]
    cases ha : mulS a with
    | none =>
      simp
      first | refine bP_of (offRuns_p) ?_ | refine bP_pure (offRuns_p) ?_
      simp
    | some p =>
      cases hb : mulS b with
      | none =>
        simp
        first | refine bP_of (offRuns_p) ?_ | refine bP_pure (offRuns_p) ?_
        simp
      | some q =>
        have := mulS_app ha hb
        simp [gd, this]
        first | refine bP_of (offRuns_p) ?_ | refine bP_pure (offRuns_p) ?_
        simp
  cases ha : addS a with
  | none =>
    rw [ha] at key
    simp only at key
    simp [gd, key]
    simpa [ha, gd] using fin _ rfl
  | some x =>
    cases hb : addS b with
    | none =>
      rw [ha, hb] at key
      simp only at key
      simp [gd, key]
      simpa [ha, hb, gd] using fin _ rfl
    | some y =>
      rw [ha, hb] at key
      simp only at key
      rw [key]
      cases hc : addS [x, y] with
      | none =>
        simp [gd, hc]
        simpa [ha, hb, gd] using fin _ rfl
      | some z =>
        simp [gd, hc]
        simpa [ha, hb, gd] using fin _ rfl
end Go.Proofs.Ytobdiaalmhcimaa.Av
namespace Go.Proofs.Ytobdiaalmhcimaa
theorem offJoins_holds : Rows.OffJoinsSaid := offJoins_of Av.offJoins_calls
#print axioms offJoins_holds
end Go.Proofs.Ytobdiaalmhcimaa
