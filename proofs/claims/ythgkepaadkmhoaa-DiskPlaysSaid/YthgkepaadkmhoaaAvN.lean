/- The operations on slices as formulas have them, in terms of what a slice holds; calls that are lent what is one's own. -/
import Derived.Test.YthgkepaadkmhoaaAvM
import Derived.Test.YthgkepaadkmhoaaAvWa
set_option linter.unusedVariables false
set_option linter.unusedSimpArgs false
namespace Go.Proofs.Ythgkepaadkmhoaa.Av
open Go Go.RowKit

section
variable {α : Type} {sz : Nat} {H : AH} {v : AV} {cs : List AV} {n : Nat}
theorem alnS_spec (h : sliceCells H sz v = some (cs, n)) : alnS v = some (I n) := by
  unfold sliceCells at h
  split at h
  · split at h
    · injection h with h; injection h with h1 h2; rw [← h2]; rfl
    · cases h
  · split at h
    · split at h
      · injection h with h; injection h with h1 h2; rw [← h2]; rfl
      · cases h
    · cases h
  · injection h with h; injection h with h1 h2; rw [← h2]; rfl
  · injection h with h; injection h with h1 h2; rw [← h2]; rfl
  · cases h
theorem aap_spec {bytes : Nat} {x : AV} {ds : List AV} {m : Nat} (h1 : sliceCells H sz v = some (cs, n)) (ho : ownedS v = true) (h2 : appended H sz x = some (ds, m)) (hb : (n + m) * bytes ≤ 140737488355328) :
    ∃ r H', aap sz bytes H v x = some (r, H') ∧ ownedS r = true ∧ sliceCells H' sz r = some (cs ++ ds, n + m) ∧ H.length ≤ H'.length ∧ (∀ i, i < H.length → i ∉ idS v → H'[i]? = H[i]?) ∧ ∀ i ∈ idS r, i ∈ idS v ∨ H.length ≤ i := by
  obtain ⟨r, H', h⟩ := aapp1_spec h1 ho (appended_len h2) hb
  exact ⟨r, H', by unfold aap; rw [h2]; exact h.1, h.2⟩
/-- A part of a slice. -/
theorem aslS_spec (h : sliceCells H sz v = some (cs, n)) {lo hi : Option AV} {l k : Nat} (hl : abnd lo 0 = some l) (hk : abnd hi n = some k) (hlk : l ≤ k) (hkn : k ≤ n) :
    ∃ r, aslS sz v lo hi none = some r ∧ sliceCells H sz r = some ((cs.drop (l * sz)).take ((k - l) * sz), k - l) ∧ (∀ i ∈ idS r, i ∈ idS v) ∧ (ownedS v = true → ownedS r = true) ∧ (noIds v = true → noIds r = true) := by
  have hcl := sliceCells_len h
  have hmul : l * sz + (k - l) * sz = k * sz := by rw [← Nat.add_mul]; congr 1; omega
  have hmul2 : k * sz ≤ n * sz := Nat.mul_le_mul_right _ hkn
  unfold sliceCells at h
  unfold aslS
  split at h
  · rename_i c len esz
    split at h
    · rename_i hb
      obtain ⟨rfl, hb⟩ := hb
      injection h with h; injection h with h1 h2
      subst h1; subst h2
      simp only [hl, hk, hlk, hkn, and_self, if_true]
      refine ⟨_, rfl, ?_, (fun i hi => hi), (fun h => by simp [ownedS] at h), fun h => ?_⟩
      · simp only [sliceCells, true_and]
        rw [if_pos (by rw [List.length_take, List.length_drop]; omega)]
      · simp only [noIds] at h ⊢
        have key : ∀ (c : List AV) (a b : Nat), noIdss c = true → noIdss ((c.drop a).take b) = true := by
          intro c
          induction c with
          | nil => intro a b _; simp [noIdss]
          | cons x c ih =>
            intro a b hc
            simp only [noIdss, Bool.and_eq_true] at hc
            cases a with
            | zero =>
              cases b with
              | zero => rfl
              | succ b => simp only [List.drop_zero, List.take_succ_cons, noIdss, Bool.and_eq_true]; exact ⟨hc.1, by simpa using ih 0 b hc.2⟩
            | succ a => simpa using ih a b hc.2
        exact key _ _ _ h
    · cases h
  · rename_i o off len esz cap
    split at h
    · rename_i c hoc
      split at h
      · rename_i hb
        obtain ⟨rfl, hb⟩ := hb
        injection h with h; injection h with h1 h2
        subst h1; subst h2
        simp only [ne_eq, not_true_eq_false, if_false, hl, hk]
        rw [if_pos ⟨hlk, by omega⟩]
        refine ⟨_, rfl, ?_, (fun i hi => hi), (fun _ => rfl), fun h => by simp [noIds] at h⟩
        rw [sliceCells_sl hoc (by omega), List.drop_take, List.drop_drop, List.take_take]
        congr 3
        omega
      · cases h
    · cases h
  · injection h with h; injection h with h1 h2
    subst h1; subst h2
    obtain rfl : k = 0 := by omega
    obtain rfl : l = 0 := by omega
    simp only [hl, hk]
    exact ⟨_, rfl, by simp [sliceCells], (fun i hi => hi), (fun _ => rfl), fun _ => rfl⟩
  · injection h with h; injection h with h1 h2
    subst h1; subst h2
    obtain rfl : k = 0 := by omega
    obtain rfl : l = 0 := by omega
    simp only [hl, hk]
    exact ⟨_, rfl, by simp [sliceCells], (fun i hi => hi), (fun _ => rfl), fun _ => rfl⟩
  · cases h
/-- What lies at a pointer, as far as is told. -/
def rdAt (H : AH) : AV → Option (List AV)
  | .ptr o off => match H[o]? with
    | some (some (.cells cs)) => some (cs.drop off)
    | _ => none
  | .ip cs => some cs
  | _ => none
theorem ald_at {g : Bool} {k : Nat} {p : AV} (h : rdAt H p = some cs) (hk : 0 < k) (hl : k ≤ cs.length) : ald g k H p = rdCells g k cs 0 := by
  unfold rdAt at h
  unfold ald
  split at h
  · rename_i o off
    simp only
    split at h
    · rename_i c hc
      injection h with h
      subst h
      unfold rdCells
      rw [List.length_drop] at hl
      simp only [hc]
      cases g
      · simp
      · simp only [if_true]
        rw [if_pos (by omega), if_pos (by rw [List.length_drop]; omega)]
        simp
    · cases h
  · injection h with h
    subst h; rfl
  · cases h
theorem ashift_at {k : Nat} {p : AV} (h : rdAt H p = some cs) : ∃ q, ashift k p = some q ∧ rdAt H q = some (cs.drop k) := by
  unfold rdAt at h
  split at h
  · rename_i o off
    split at h
    · rename_i c hc
      injection h with h
      subst h
      exact ⟨_, rfl, by simp [rdAt, hc]⟩
    · cases h
  · injection h with h
    subst h
    exact ⟨_, rfl, rfl⟩
  · cases h
/-- An element of a slice: where it lies. -/
theorem aixS_spec (h : sliceCells H sz v = some (cs, n)) {k : Nat} {i : Int} (hi : i = k) (hk : k < n) : ∃ p c, aixS sz v (.lit (.int .i64 i)) = some p ∧ rdAt H p = some c ∧ c.take sz = (cs.drop (k * sz)).take sz ∧ sz ≤ c.length := by
  subst hi
  have hcl := sliceCells_len h
  have hmul : k * sz + sz ≤ n * sz := by rw [← Nat.succ_mul]; exact Nat.mul_le_mul_right _ hk
  unfold sliceCells at h
  unfold aixS
  simp only [aint]
  split at h
  · rename_i c len esz
    split at h
    · rename_i hb
      obtain ⟨rfl, hb⟩ := hb
      injection h with h; injection h with h1 h2
      subst h1; subst h2
      refine ⟨_, _, if_pos (by omega), rfl, by simp, by simp; omega⟩
    · cases h
  · rename_i o off len esz cap
    split at h
    · rename_i c hoc
      split at h
      · rename_i hb
        obtain ⟨rfl, hb⟩ := hb
        injection h with h; injection h with h1 h2
        subst h1; subst h2
        refine ⟨_, c.drop (off + k * esz), if_pos (by omega), by simp [rdAt, hoc], ?_, by rw [List.length_drop]; omega⟩
        rw [List.drop_take, List.drop_drop, List.take_take]
        congr 1
        omega
      · cases h
    · cases h
  · injection h with h; injection h with h1 h2; omega
  · injection h with h; injection h with h1 h2; omega
  · cases h
end


/-! ### freezing what is answered -/
mutual
theorem frz_noIds (X : AH) : ∀ (a : AV), noIds a = true → ∃ n0, ∀ n, n0 ≤ n → frz X n a = some a
  | .lit v, _ => ⟨1, fun n hn => by cases n with
    | zero => omega
    | succ n => rfl⟩
  | .ip cs, h => by
    simp only [noIds] at h
    obtain ⟨n0, h0⟩ := frz_noIdss X cs h
    refine ⟨n0 + 1, fun n hn => ?_⟩
    cases n with
    | zero => omega
    | succ n => simp only [frz, h0 n (by omega)]; rfl
  | .imm cs len esz, h => by
    simp only [noIds] at h
    obtain ⟨n0, h0⟩ := frz_noIdss X cs h
    refine ⟨n0 + 1, fun n hn => ?_⟩
    cases n with
    | zero => omega
    | succ n => simp only [frz, h0 n (by omega)]; rfl
  | .agg cs, h => by
    simp only [noIds] at h
    obtain ⟨n0, h0⟩ := frz_noIdss X cs h
    refine ⟨n0 + 1, fun n hn => ?_⟩
    cases n with
    | zero => omega
    | succ n => simp only [frz, h0 n (by omega)]; rfl
  | .tup cs, h => by
    simp only [noIds] at h
    obtain ⟨n0, h0⟩ := frz_noIdss X cs h
    refine ⟨n0 + 1, fun n hn => ?_⟩
    cases n with
    | zero => omega
    | succ n => simp only [frz, h0 n (by omega)]; rfl
  | .fn f a b, h => by
    simp only [noIds, Bool.and_eq_true] at h
    obtain ⟨n0, h0⟩ := frz_noIdss X a h.1
    obtain ⟨n1, h1⟩ := frz_noIdss X b h.2
    refine ⟨n0 + n1 + 1, fun n hn => ?_⟩
    cases n with
    | zero => omega
    | succ n => simp only [frz, h0 n (by omega), h1 n (by omega)]
  | .emp, _ => ⟨1, fun n hn => by cases n with
    | zero => omega
    | succ n => rfl⟩
  | .junk, _ => ⟨1, fun n hn => by cases n with
    | zero => omega
    | succ n => rfl⟩
  | .ptr .., h => by simp [noIds] at h
  | .sl .., h => by simp [noIds] at h
  | .mp .., h => by simp [noIds] at h
theorem frz_noIdss (X : AH) : ∀ (as : List AV), noIdss as = true → ∃ n0, ∀ n, n0 ≤ n → mapO (frz X n) as = some as
  | [], _ => ⟨0, fun _ _ => rfl⟩
  | a :: as, h => by
    simp only [noIdss, Bool.and_eq_true] at h
    obtain ⟨n0, h0⟩ := frz_noIds X a h.1
    obtain ⟨n1, h1⟩ := frz_noIdss X as h.2
    exact ⟨n0 + n1, fun n hn => by simp only [mapO, h0 n (by omega), h1 n (by omega)]⟩
end
/-- A slice, frozen. -/
theorem frz_slice {X : AH} {sz : Nat} {r : AV} {cs : List AV} {m : Nat} (h : sliceCells X sz r = some (cs, m)) (hc : noIdss cs = true) : ∃ R n0, noIds R = true ∧ (∀ H, sliceCells H sz R = some (cs, m)) ∧ ∀ n, n0 ≤ n → frz X n r = some R := by
  have hcl := sliceCells_len h
  unfold sliceCells at h
  split at h
  · rename_i c len esz
    split at h
    · rename_i hb
      injection h with h; injection h with h1 h2
      subst h1; subst h2
      obtain ⟨n0, h0⟩ := frz_noIds X (.imm c len esz) (by simpa only [noIds] using hc)
      exact ⟨_, n0, by simpa only [noIds] using hc, fun H => by simp [sliceCells, hb.1, hb.2], h0⟩
    · cases h
  · rename_i o off len esz cap
    split at h
    · rename_i c hoc
      split at h
      · rename_i hb
        injection h with h; injection h with h1 h2
        obtain ⟨n0, h0⟩ := frz_noIdss X cs hc
        refine ⟨.imm cs len esz, n0 + 1, by simpa only [noIds] using hc, fun H => ?_, fun n hn => ?_⟩
        · rw [← h2] at hcl ⊢
          simp [sliceCells, hb.1, hcl]
        · cases n with
          | zero => omega
          | succ n =>
            obtain ⟨rfl, -⟩ := hb
            simp only [frz, hoc, h1, h0 n (by omega)]
            rfl
      · cases h
    · cases h
  · injection h with h; injection h with h1 h2
    subst h1; subst h2
    exact ⟨_, 1, rfl, fun H => rfl, fun n hn => by cases n with
      | zero => omega
      | succ n => rfl⟩
  · injection h with h; injection h with h1 h2
    subst h1; subst h2
    exact ⟨_, 1, rfl, fun H => rfl, fun n hn => by cases n with
      | zero => omega
      | succ n => rfl⟩
  · cases h
section
variable {P : Program} {f : FuncId} {args : List AV}
theorem BPure.fz {Q : AV → Prop} (hb : noIdss args = true) (h : ∃ r X, (∃ n R, frz X n r = some R ∧ Q R) ∧ BCall P f args [] r X) : ∃ R, Q R ∧ BPure P f args R := by
  obtain ⟨r, X, ⟨n, R, hf, hq⟩, h⟩ := h
  exact ⟨R, hq, BPure.of h hb hf⟩
theorem BPure.val {R : AV} (hb : noIdss args = true) (hR : noIds R = true) (h : ∃ r X, r = R ∧ BCall P f args [] r X) : BPure P f args R := by
  obtain ⟨r, X, rfl, h⟩ := h
  obtain ⟨n0, h0⟩ := frz_noIds X r hR
  exact BPure.of h hb (h0 n0 (Nat.le_refl _))
theorem BPure.sl {sz : Nat} {cs : List AV} {m : Nat} (hb : noIdss args = true) (hc : noIdss cs = true) (h : ∃ r X, sliceCells X sz r = some (cs, m) ∧ BCall P f args [] r X) : ∃ R, (noIds R = true ∧ ∀ H, sliceCells H sz R = some (cs, m)) ∧ BPure P f args R := by
  obtain ⟨r, X, h1, h⟩ := h
  obtain ⟨R, n0, h2, h3, h4⟩ := frz_slice h1 hc
  exact ⟨R, ⟨h2, h3⟩, BPure.of h hb (h4 n0 (Nat.le_refl _))⟩
/-- One slice of one's own, lent. -/
theorem PCall.lend1 {H : AH} {sz : Nat} {r x : AV} {cs : List AV} {m : Nat} (hs : sliceCells H sz r = some (cs, m)) (hc : noIdss cs = true) (hx : flatA x = true) (h : ∀ R, noIds R = true → (∀ H, sliceCells H sz R = some (cs, m)) → BPure P f [R] x) : PCall P f [r] H x := by
  obtain ⟨R, n0, h1, h2, h3⟩ := frz_slice hs hc
  exact .inr ⟨n0, [R], by simp only [mapO, h3 n0 (Nat.le_refl _)], hx, h R h1 h2⟩
end
end Go.Proofs.Ythgkepaadkmhoaa.Av
