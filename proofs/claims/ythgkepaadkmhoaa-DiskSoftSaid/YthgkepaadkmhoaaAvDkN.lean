/- Chapter 10: a new disk. -/
import Derived.Test.YthgkepaadkmhoaaAvDk
set_option linter.unusedVariables false
set_option linter.unusedSimpArgs false
set_option maxRecDepth 100000
namespace Go.Proofs.Ythgkepaadkmhoaa.Av
open Go Go.RowKit
def Eff (d : Dev) : Dev := if mayD d then d else ⟨[], [], [], []⟩
/-- How often a sector fails for a while. -/
def sumS : List (Int × Int) → Int → Int
  | [], _ => 0
  | s :: r, k => (if s.1 = k then s.2 else 0) + sumS r k
def MapI (H : AH) (o : Nat) (z : AV) (f : Int → AV) : Prop := ∃ ps, H[o]? = some (some (.map (encM ps))) ∧ ∀ k, look z ps k = f k
theorem MapI.keep {H H' : AH} {o : Nat} {z : AV} {f : Int → AV} (h : MapI H o z f) (hk : H'[o]? = H[o]?) : MapI H' o z f := by
  obtain ⟨ps, h1, h2⟩ := h
  exact ⟨ps, by rw [hk]; exact h1, h2⟩
/-- A disk, in objects n0 to n1. -/
structure DiskP (n0 n1 : Nat) (H : AH) (o : Nat) (D : Dev) (L : Int → Int) (c : Int) (dv : AV) (bo lo : Nat) (sv : AV) : Prop where
  obj : H[o]? = some (some (.cells [dv, .mp bo, .mp lo, sv, I c]))
  data : sliceCells H 1 dv = some (encB D.data, D.data.length)
  bad : MapI H bo (B false) (fun k => B (decide (k ∈ D.bad)))
  left : MapI H lo (I 0) (fun k => I (L k))
  shorts : sliceCells H 1 sv = some (D.shorts.flatMap encI, D.shorts.length)
  ne : bo ≠ lo
  od : o ∉ idS dv
  os : o ∉ idS sv
  low : n0 ≤ o ∧ n0 ≤ bo ∧ n0 ≤ lo ∧ (∀ i ∈ idS dv, n0 ≤ i) ∧ ∀ i ∈ idS sv, n0 ≤ i
  high : o < n1 ∧ bo < n1 ∧ lo < n1 ∧ (∀ i ∈ idS dv, i < n1) ∧ ∀ i ∈ idS sv, i < n1
  top : n1 ≤ H.length
  one : oneA dv = true ∧ oneA sv = true
/-- Only objects n0 to n1 may have changed. -/
def Keep (n0 n1 : Nat) (H H' : AH) : Prop := H.length ≤ H'.length ∧ ∀ i, i < H.length → ¬ (n0 ≤ i ∧ i < n1) → H'[i]? = H[i]?
theorem Keep.trans {a b : Nat} {A B C : AH} (h : Keep a b A B) (k : Keep a b B C) : Keep a b A C := ⟨Nat.le_trans h.1 k.1, fun i hi hn => (k.2 i (Nat.lt_of_lt_of_le hi h.1) hn).trans (h.2 i hi hn)⟩
theorem Keep.of {a b : Nat} {A B : AH} (h : Grew A B) : Keep a b A B := ⟨h.1, fun i hi _ => h.2 i hi⟩
theorem Keep.cells {a b : Nat} {H H' : AH} (h : Keep a b H H') {o : Nat} {x : Option AObj} (ho : H[o]? = some x) (hn : ¬ (a ≤ o ∧ o < b)) : H'[o]? = some x := by
  rw [h.2 o (List.getElem?_eq_some_iff.1 ho).1 hn]; exact ho
theorem DiskP.keep {a b c e : Nat} {H H' : AH} {o : Nat} {D : Dev} {L : Int → Int} {cc : Int} {dv sv : AV} {bo lo : Nat} (h : DiskP a b H o D L cc dv bo lo sv) (k : Keep c e H H') (hd : b ≤ c ∨ e ≤ a) : DiskP a b H' o D L cc dv bo lo sv := by
  have hin : ∀ i, a ≤ i → i < b → H'[i]? = H[i]? := fun i h1 h2 => k.2 i (by have := h.top; omega) (by omega)
  obtain ⟨l1, l2, l3, l4, l5⟩ := h.low
  obtain ⟨g1, g2, g3, g4, g5⟩ := h.high
  exact ⟨(hin o l1 g1).trans h.obj, sliceCells_keep h.data fun i hi => hin i (l4 i hi) (g4 i hi), h.bad.keep (hin _ l2 g2), h.left.keep (hin _ l3 g3), sliceCells_keep h.shorts fun i hi => hin i (l5 i hi) (g5 i hi), h.ne, h.od, h.os, h.low, h.high, Nat.le_trans h.top k.1, h.one⟩
noncomputable def newOps : List Oper := (opsOf (sub [true, true, false] (bodyOf Try.f9))).toList
def newT (x1 : AV) : List AV := expand (mk 54 0 [1]) [x1]
theorem op0 (x1 : AV) : OpIs Try.prog newOps (newT x1) 0 [] fun vals H K => gO true (ashift 0 x1) fun v => K v H :=
  OpIs.op (newOps.getD 0 default) (by kernel_rfl) (by kernel_rfl) (by kernel_rfl) (by kernel_rfl) (fun ρ => by kernel_rfl) (fun vals H K h => Eq.mpr (by kernel_rfl : sOp Try.prog pql none0 false (aeval (pt newOps vals (fun _ => true) (newT x1) 0)) H (newOps.getD 0 default) true K = gO true (ashift 0 x1) fun v => K v H) h)
theorem op1 (x1 : AV) : OpIs Try.prog newOps (newT x1) 1 [0] fun vals H K => gO true (ald false 1 H (vals 0)) fun v => K v H :=
  OpIs.op (newOps.getD 1 default) (by kernel_rfl) (by kernel_rfl) (by kernel_rfl) (by kernel_rfl) (fun ρ => by kernel_rfl) (fun vals H K h => Eq.mpr (by kernel_rfl : sOp Try.prog pql none0 false (aeval (pt newOps vals (fun _ => true) (newT x1) 1)) H (newOps.getD 1 default) true K = gO true (ald false 1 H (vals 0)) fun v => K v H) h)
theorem op2 (x1 : AV) : OpIs Try.prog newOps (newT x1) 2 [1] fun vals H K => ACalls Try.prog 21 [vals 1] H K :=
  OpIs.call (newOps.getD 2 default) (by kernel_rfl) (by kernel_rfl) (by kernel_rfl) _ (fun vals => [vals 1]) (by kernel_rfl) (fun vals => by kernel_rfl) (fun vals H K h => h)
theorem op3 (x1 : AV) : OpIs Try.prog newOps (newT x1) 3 [] fun vals H K => gH true (amkM H none) H K :=
  OpIs.op (newOps.getD 3 default) (by kernel_rfl) (by kernel_rfl) (by kernel_rfl) (by kernel_rfl) (fun ρ => by kernel_rfl) (fun vals H K h => Eq.mpr (by kernel_rfl : sOp Try.prog pql none0 false (aeval (pt newOps vals (fun _ => true) (newT x1) 3)) H (newOps.getD 3 default) true K = gH true (amkM H none) H K) h)
theorem op4 (x1 : AV) : OpIs Try.prog newOps (newT x1) 4 [] fun vals H K => gH true (amkM H none) H K :=
  OpIs.op (newOps.getD 4 default) (by kernel_rfl) (by kernel_rfl) (by kernel_rfl) (by kernel_rfl) (fun ρ => by kernel_rfl) (fun vals H K h => Eq.mpr (by kernel_rfl : sOp Try.prog pql none0 false (aeval (pt newOps vals (fun _ => true) (newT x1) 4)) H (newOps.getD 4 default) true K = gH true (amkM H none) H K) h)
theorem op5 (x1 : AV) : OpIs Try.prog newOps (newT x1) 5 [] fun vals H K => gO true (ashift 3 x1) fun v => K v H :=
  OpIs.op (newOps.getD 5 default) (by kernel_rfl) (by kernel_rfl) (by kernel_rfl) (by kernel_rfl) (fun ρ => by kernel_rfl) (fun vals H K h => Eq.mpr (by kernel_rfl : sOp Try.prog pql none0 false (aeval (pt newOps vals (fun _ => true) (newT x1) 5)) H (newOps.getD 5 default) true K = gO true (ashift 3 x1) fun v => K v H) h)
theorem op6 (x1 : AV) : OpIs Try.prog newOps (newT x1) 6 [5] fun vals H K => gO true (ald false 1 H (vals 5)) fun v => K v H :=
  OpIs.op (newOps.getD 6 default) (by kernel_rfl) (by kernel_rfl) (by kernel_rfl) (by kernel_rfl) (fun ρ => by kernel_rfl) (fun vals H K h => Eq.mpr (by kernel_rfl : sOp Try.prog pql none0 false (aeval (pt newOps vals (fun _ => true) (newT x1) 6)) H (newOps.getD 6 default) true K = gO true (ald false 1 H (vals 5)) fun v => K v H) h)
theorem op7 (x1 : AV) : OpIs Try.prog newOps (newT x1) 7 [6] fun vals H K => ACalls Try.prog 22 [vals 6] H K :=
  OpIs.call (newOps.getD 7 default) (by kernel_rfl) (by kernel_rfl) (by kernel_rfl) _ (fun vals => [vals 6]) (by kernel_rfl) (fun vals => by kernel_rfl) (fun vals H K h => h)
theorem op8 (x1 : AV) : OpIs Try.prog newOps (newT x1) 8 [2, 3, 4, 7] fun vals H K => gO true (abl [nilSl, .lit (.map none), .lit (.map none), nilSl, I 0] [(0, 1, vals 2), (1, 1, vals 3), (2, 1, vals 4), (3, 1, vals 7)]) fun v => K v H :=
  OpIs.op (newOps.getD 8 default) (by kernel_rfl) (by kernel_rfl) (by kernel_rfl) (by kernel_rfl) (fun ρ => by kernel_rfl) (fun vals H K h => Eq.mpr (by kernel_rfl : sOp Try.prog pql none0 false (aeval (pt newOps vals (fun _ => true) (newT x1) 8)) H (newOps.getD 8 default) true K = gO true (abl [nilSl, .lit (.map none), .lit (.map none), nilSl, I 0] [(0, 1, vals 2), (1, 1, vals 3), (2, 1, vals 4), (3, 1, vals 7)]) fun v => K v H) h)
theorem op9 (x1 : AV) : OpIs Try.prog newOps (newT x1) 9 [8] fun vals H K => gH true (anew H (vals 8)) H K :=
  OpIs.op (newOps.getD 9 default) (by kernel_rfl) (by kernel_rfl) (by kernel_rfl) (by kernel_rfl) (fun ρ => by kernel_rfl) (fun vals H K h => Eq.mpr (by kernel_rfl : sOp Try.prog pql none0 false (aeval (pt newOps vals (fun _ => true) (newT x1) 9)) H (newOps.getD 9 default) true K = gH true (anew H (vals 8)) H K) h)
theorem op10 (x1 : AV) : OpIs Try.prog newOps (newT x1) 10 [9] fun vals H K => gO true (some (vals 9)) fun v => K v H :=
  OpIs.op (newOps.getD 10 default) (by kernel_rfl) (by kernel_rfl) (by kernel_rfl) (by kernel_rfl) (fun ρ => by kernel_rfl) (fun vals H K h => Eq.mpr (by kernel_rfl : sOp Try.prog pql none0 false (aeval (pt newOps vals (fun _ => true) (newT x1) 10)) H (newOps.getD 10 default) true K = gO true (some (vals 9)) fun v => K v H) h)
theorem newLen : newOps.length = 11 := by kernel_rfl
theorem newOrd : ordOk newOps = true := by kernel_rfl
theorem newK (x1 : AV) (vals : Nat → AV) (H : AH) (K : AV → AH → Prop) : (kSeq (cutC (mk 54 0 [1, 3]) (disk_New_c [true, true, true] 4)) (kRet Try.prog Try.f9.results.toList K)) .normal (pt newOps vals (fun _ => true) (newT x1) 11) H = disk_New_J3 x1 (vals 10) H K := by kernel_rfl
/-- What a new disk's region has done. -/
structure NewI (d : Dev) (H1 : AH) (p : Nat) (a e : AV) (H : AH) (vals : Nat → AV) (S : Nat → Bool) : Prop where
  g : Grew H1 H
  v0 : S 0 = true → vals 0 = .ptr p 0
  v1 : S 1 = true → vals 1 = a
  v2 : S 2 = true → sliceCells H 1 (vals 2) = some (encB d.data, d.data.length) ∧ ownedS (vals 2) = true ∧ ∀ i ∈ idS (vals 2), H1.length ≤ i
  v3 : S 3 = true → ∃ m, vals 3 = .mp m ∧ H[m]? = some (some (.map [])) ∧ H1.length ≤ m
  v4 : S 4 = true → ∃ m, vals 4 = .mp m ∧ H[m]? = some (some (.map [])) ∧ H1.length ≤ m
  v34 : S 3 = true → S 4 = true → vals 3 ≠ vals 4
  v5 : S 5 = true → vals 5 = .ptr p 3
  v6 : S 6 = true → vals 6 = e
  v7 : S 7 = true → sliceCells H 1 (vals 7) = some (d.shorts.flatMap encI, d.shorts.length) ∧ ownedS (vals 7) = true ∧ ∀ i ∈ idS (vals 7), H1.length ≤ i
  v8 : S 8 = true → vals 8 = .agg [vals 2, vals 3, vals 4, vals 7, I 0]
  v9 : S 9 = true → ∃ o, vals 9 = .ptr o 0 ∧ H[o]? = some (some (.cells [vals 2, vals 3, vals 4, vals 7, I 0])) ∧ H1.length ≤ o ∧ (∀ i ∈ idS (vals 2), i ≠ o) ∧ ∀ i ∈ idS (vals 7), i ≠ o
  v10 : S 10 = true → vals 10 = vals 9
  low : (S 8 = true → S 2 = true ∧ S 3 = true ∧ S 4 = true ∧ S 7 = true) ∧ (S 9 = true → S 8 = true) ∧ (S 10 = true → S 9 = true)
theorem NewI.grew {d : Dev} {H1 : AH} {p : Nat} {a e : AV} {H H' : AH} {vals : Nat → AV} {S : Nat → Bool} (h : NewI d H1 p a e H vals S) (g : Grew H H') : NewI d H1 p a e H' vals S := by
  refine ⟨h.g.trans g, h.v0, h.v1, fun c => ?_, fun c => ?_, fun c => ?_, h.v34, h.v5, h.v6, fun c => ?_, h.v8, fun c => ?_, h.v10, h.low⟩
  · obtain ⟨x, y⟩ := h.v2 c; exact ⟨g.slice x, y⟩
  · obtain ⟨m, x, y, z⟩ := h.v3 c; exact ⟨m, x, g.cells y, z⟩
  · obtain ⟨m, x, y, z⟩ := h.v4 c; exact ⟨m, x, g.cells y, z⟩
  · obtain ⟨x, y⟩ := h.v7 c; exact ⟨g.slice x, y⟩
  · obtain ⟨o, x, y, z⟩ := h.v9 c; exact ⟨o, x, g.cells y, z⟩
theorem updN {S : Nat → Bool} {i j : Nat} (h : j ≠ i) : upd S i j = S j := by unfold upd; rw [if_neg h]
theorem valN {vals : Nat → AV} {i j : Nat} {r : AV} (h : j ≠ i) : valUp vals i r j = vals j := by unfold valUp; rw [if_neg h]
theorem valE {vals : Nat → AV} {i : Nat} {r : AV} : valUp vals i r i = r := by unfold valUp; rw [if_pos rfl]
theorem new_region {d : Dev} {a b c e : AV} {H1 : AH} {p : Nat} (hp : H1[p]? = some (some (.cells [a, b, c, e]))) (ha : sliceCells H1 1 a = some (encB d.data, d.data.length)) (he : sliceCells H1 1 e = some (d.shorts.flatMap encI, d.shorts.length)) (h1 : d.data.length ≤ 1000000) (h2 : d.shorts.length ≤ 1000000) {K : AV → AH → Prop}
    (hK : ∀ H o dv m1 m2 sv, Grew H1 H → H[o]? = some (some (.cells [dv, .mp m1, .mp m2, sv, I 0])) → sliceCells H 1 dv = some (encB d.data, d.data.length) → sliceCells H 1 sv = some (d.shorts.flatMap encI, d.shorts.length) → ownedS dv = true → ownedS sv = true → H[m1]? = some (some (.map [])) → H[m2]? = some (some (.map [])) → m1 ≠ m2 →
      H1.length ≤ o → H1.length ≤ m1 → H1.length ≤ m2 → (∀ i ∈ idS dv, H1.length ≤ i ∧ i ≠ o) → (∀ i ∈ idS sv, H1.length ≤ i ∧ i ≠ o) → disk_New_J3 (.ptr p 0) (.ptr o 0) H K) : disk_New_U3 (.ptr p 0) H1 K := by
  refine unR.mk ?_
  show ACode Try.prog (.region 3 newOps.toArray true) _ (newT (.ptr p 0)) H1
  refine ACode.told mixP newOrd (NewI d H1 p a e) (fun _ => undefA) ⟨Grew.refl H1, by simp, by simp, by simp, by simp, by simp, by simp, by simp, by simp, by simp, by simp, by simp, by simp, by simp⟩ ?_ ?_
  · intro i hi
    rw [newLen] at hi
    have hcases : i = 0 ∨ i = 1 ∨ i = 2 ∨ i = 3 ∨ i = 4 ∨ i = 5 ∨ i = 6 ∨ i = 7 ∨ i = 8 ∨ i = 9 ∨ i = 10 := by omega
    -- the values of others stay
    have step : ∀ (i : Nat) (S : Nat → Bool) (Hc H' : AH) (vals : Nat → AV) (r : AV), S i = false → NewI d H1 p a e Hc vals S → Grew Hc H' → (i = 0 → r = .ptr p 0) → (i = 1 → r = a) →
        (i = 2 → sliceCells H' 1 r = some (encB d.data, d.data.length) ∧ ownedS r = true ∧ ∀ i ∈ idS r, H1.length ≤ i) → (i = 3 → ∃ m, r = .mp m ∧ H'[m]? = some (some (.map [])) ∧ H1.length ≤ m ∧ (S 4 = true → r ≠ vals 4)) → (i = 4 → ∃ m, r = .mp m ∧ H'[m]? = some (some (.map [])) ∧ H1.length ≤ m ∧ (S 3 = true → vals 3 ≠ r)) →
        (i = 5 → r = .ptr p 3) → (i = 6 → r = e) → (i = 7 → sliceCells H' 1 r = some (d.shorts.flatMap encI, d.shorts.length) ∧ ownedS r = true ∧ ∀ i ∈ idS r, H1.length ≤ i) → (i = 8 → r = .agg [vals 2, vals 3, vals 4, vals 7, I 0] ∧ S 2 = true ∧ S 3 = true ∧ S 4 = true ∧ S 7 = true) →
        (i = 9 → S 8 = true ∧ ∃ o, r = .ptr o 0 ∧ H'[o]? = some (some (.cells [vals 2, vals 3, vals 4, vals 7, I 0])) ∧ H1.length ≤ o ∧ (∀ i ∈ idS (vals 2), i ≠ o) ∧ ∀ i ∈ idS (vals 7), i ≠ o) → (i = 10 → r = vals 9 ∧ S 9 = true) → NewI d H1 p a e H' (valUp vals i r) (upd S i) := by
      intro i S Hc H' vals r hS hI g q0 q1 q2 q3 q4 q5 q6 q7 q8 q9 q10
      have hI := hI.grew g
      have h8 : S 8 = true → i ≠ 2 ∧ i ≠ 3 ∧ i ≠ 4 ∧ i ≠ 7 := fun h => by
        obtain ⟨z1, z2, z3, z4⟩ := hI.low.1 h
        refine ⟨?_, ?_, ?_, ?_⟩ <;> (rintro rfl; simp_all)
      have h9 : S 9 = true → S 8 = true := hI.low.2.1
      have get : ∀ j, upd S i j = true → (j = i) ∨ (j ≠ i ∧ S j = true) := fun j h => by
        by_cases c : j = i
        · exact .inl c
        · rw [updN c] at h; exact .inr ⟨c, h⟩
      refine ⟨hI.g, fun c => ?_, fun c => ?_, fun c => ?_, fun c => ?_, fun c => ?_, fun c c2 => ?_, fun c => ?_, fun c => ?_, fun c => ?_, fun c => ?_, fun c => ?_, fun c => ?_, fun c => ?_, fun c => ?_, fun c => ?_⟩
      · rcases get 0 c with rfl | ⟨k, c⟩
        · rw [valE]; exact q0 rfl
        · rw [valN k]; exact hI.v0 c
      · rcases get 1 c with rfl | ⟨k, c⟩
        · rw [valE]; exact q1 rfl
        · rw [valN k]; exact hI.v1 c
      · rcases get 2 c with rfl | ⟨k, c⟩
        · rw [valE]; exact q2 rfl
        · rw [valN k]; exact hI.v2 c
      · rcases get 3 c with rfl | ⟨k, c⟩
        · rw [valE]; obtain ⟨m, x, y, z, -⟩ := q3 rfl; exact ⟨m, x, y, z⟩
        · rw [valN k]; exact hI.v3 c
      · rcases get 4 c with rfl | ⟨k, c⟩
        · rw [valE]; obtain ⟨m, x, y, z, -⟩ := q4 rfl; exact ⟨m, x, y, z⟩
        · rw [valN k]; exact hI.v4 c
      · rcases get 3 c with rfl | ⟨k, c⟩
        · rw [valE, valN (by omega)]
          obtain ⟨m, x, y, z, t⟩ := q3 rfl
          exact t (by rwa [updN (by omega)] at c2)
        · rw [valN k]
          rcases get 4 c2 with rfl | ⟨k2, c2⟩
          · rw [valE]
            obtain ⟨m, x, y, z, t⟩ := q4 rfl
            exact t c
          · rw [valN k2]; exact hI.v34 c c2
      · rcases get 5 c with rfl | ⟨k, c⟩
        · rw [valE]; exact q5 rfl
        · rw [valN k]; exact hI.v5 c
      · rcases get 6 c with rfl | ⟨k, c⟩
        · rw [valE]; exact q6 rfl
        · rw [valN k]; exact hI.v6 c
      · rcases get 7 c with rfl | ⟨k, c⟩
        · rw [valE]; exact q7 rfl
        · rw [valN k]; exact hI.v7 c
      · rcases get 8 c with rfl | ⟨k, c⟩
        · rw [valE, valN (by omega), valN (by omega), valN (by omega), valN (by omega)]; exact (q8 rfl).1
        · obtain ⟨z1, z2, z3, z4⟩ := h8 c
          rw [valN k, valN (Ne.symm z1), valN (Ne.symm z2), valN (Ne.symm z3), valN (Ne.symm z4)]; exact hI.v8 c
      · rcases get 9 c with rfl | ⟨k, c⟩
        · rw [valE, valN (by omega), valN (by omega), valN (by omega), valN (by omega)]; exact (q9 rfl).2
        · obtain ⟨z1, z2, z3, z4⟩ := h8 (h9 c)
          rw [valN k, valN (Ne.symm z1), valN (Ne.symm z2), valN (Ne.symm z3), valN (Ne.symm z4)]; exact hI.v9 c
      · rcases get 10 c with rfl | ⟨k, c⟩
        · rw [valE, valN (by omega)]; exact (q10 rfl).1
        · rw [valN k]
          by_cases c9 : 9 = i
          · subst c9
            have := hI.low.2.2 c
            rw [hS] at this; cases this
          · rw [valN c9]; exact hI.v10 c
      · rcases get 8 c with rfl | ⟨k, c⟩
        · obtain ⟨-, z1, z2, z3, z4⟩ := q8 rfl
          exact ⟨by rw [updN (by omega)]; exact z1, by rw [updN (by omega)]; exact z2, by rw [updN (by omega)]; exact z3, by rw [updN (by omega)]; exact z4⟩
        · obtain ⟨z1, z2, z3, z4⟩ := h8 c
          obtain ⟨y1, y2, y3, y4⟩ := hI.low.1 c
          exact ⟨by rw [updN (Ne.symm z1)]; exact y1, by rw [updN (Ne.symm z2)]; exact y2, by rw [updN (Ne.symm z3)]; exact y3, by rw [updN (Ne.symm z4)]; exact y4⟩
      · rcases get 9 c with rfl | ⟨k, c⟩
        · rw [updN (by omega)]; exact (q9 rfl).1
        · have := h9 c
          by_cases c8 : 8 = i
          · subst c8; rw [hS] at this; cases this
          · rw [updN c8]; exact this
      · rcases get 10 c with rfl | ⟨k, c⟩
        · rw [updN (by omega)]; exact (q10 rfl).2
        · have := hI.low.2.2 c
          by_cases c9 : 9 = i
          · subst c9; rw [hS] at this; cases this
          · rw [updN c9]; exact this
    have hpl := (List.getElem?_eq_some_iff.1 hp).1
    rcases hcases with rfl | rfl | rfl | rfl | rfl | rfl | rfl | rfl | rfl | rfl | rfl
    · refine ⟨_, _, op0 _, fun S Hc vals hS hn hI => ?_⟩
      simp only [gO_true, ashift_ptr, bO_some, Nat.add_zero]
      exact step 0 S Hc Hc vals _ hS hI (Grew.refl _) (fun _ => rfl) (by omega) (by omega) (by omega) (by omega) (by omega) (by omega) (by omega) (by omega) (by omega) (by omega)
    · refine ⟨_, _, op1 _, fun S Hc vals hS hn hI => ?_⟩
      have e0 := hI.v0 (hn 0 (by simp))
      simp only [gO_true, e0, ald_ptr (hI.g.cells hp), rdCells_one, List.getElem?_cons_zero, bO_some]
      exact step 1 S Hc Hc vals _ hS hI (Grew.refl _) (by omega) (fun _ => rfl) (by omega) (by omega) (by omega) (by omega) (by omega) (by omega) (by omega) (by omega) (by omega)
    · refine ⟨_, _, op2 _, fun S Hc vals hS hn hI => ?_⟩
      have e1 := hI.v1 (hn 1 (by simp))
      rw [e1]
      obtain ⟨r, H', ⟨c1, c2, c3, c4⟩, c5⟩ := cloneB_c (hI.g.slice ha) (by omega)
      refine c5.mono ?_
      rintro r' H'' ⟨rfl, rfl⟩
      exact step 2 S Hc _ vals _ hS hI c3 (by omega) (by omega) (fun _ => ⟨c2, c1, fun i hi => Nat.le_trans hI.g.1 (c4 i hi)⟩) (by omega) (by omega) (by omega) (by omega) (by omega) (by omega) (by omega) (by omega)
    · refine ⟨_, _, op3 _, fun S Hc vals hS hn hI => ?_⟩
      rw [gH_true]
      simp only [amkM, bH_some]
      refine step 3 S Hc _ vals _ hS hI (Grew.app _ _) (by omega) (by omega) (by omega) (fun _ => ⟨Hc.length, rfl, by simp, hI.g.1, fun h4 => ?_⟩) (by omega) (by omega) (by omega) (by omega) (by omega) (by omega) (by omega)
      obtain ⟨m, x, y, z⟩ := hI.v4 h4
      rw [x]
      have := (List.getElem?_eq_some_iff.1 y).1
      intro h; injection h with h; omega
    · refine ⟨_, _, op4 _, fun S Hc vals hS hn hI => ?_⟩
      rw [gH_true]
      simp only [amkM, bH_some]
      refine step 4 S Hc _ vals _ hS hI (Grew.app _ _) (by omega) (by omega) (by omega) (by omega) (fun _ => ⟨Hc.length, rfl, by simp, hI.g.1, fun h4 => ?_⟩) (by omega) (by omega) (by omega) (by omega) (by omega) (by omega)
      obtain ⟨m, x, y, z⟩ := hI.v3 h4
      rw [x]
      have := (List.getElem?_eq_some_iff.1 y).1
      intro h; injection h with h; omega
    · refine ⟨_, _, op5 _, fun S Hc vals hS hn hI => ?_⟩
      simp only [gO_true, ashift_ptr, bO_some, Nat.zero_add]
      exact step 5 S Hc Hc vals _ hS hI (Grew.refl _) (by omega) (by omega) (by omega) (by omega) (by omega) (fun _ => rfl) (by omega) (by omega) (by omega) (by omega) (by omega)
    · refine ⟨_, _, op6 _, fun S Hc vals hS hn hI => ?_⟩
      have e0 := hI.v5 (hn 5 (by simp))
      simp only [gO_true, e0, ald_ptr (hI.g.cells hp), rdCells_one, List.getElem?_cons_succ, List.getElem?_cons_zero, bO_some]
      exact step 6 S Hc Hc vals _ hS hI (Grew.refl _) (by omega) (by omega) (by omega) (by omega) (by omega) (by omega) (fun _ => rfl) (by omega) (by omega) (by omega) (by omega)
    · refine ⟨_, _, op7 _, fun S Hc vals hS hn hI => ?_⟩
      have e1 := hI.v6 (hn 6 (by simp))
      rw [e1]
      obtain ⟨r, H', ⟨c1, c2, c3, c4⟩, c5⟩ := cloneI_c (hI.g.slice he) (by omega)
      refine c5.mono ?_
      rintro r' H'' ⟨rfl, rfl⟩
      exact step 7 S Hc _ vals _ hS hI c3 (by omega) (by omega) (by omega) (by omega) (by omega) (by omega) (by omega) (fun _ => ⟨c2, c1, fun i hi => Nat.le_trans hI.g.1 (c4 i hi)⟩) (by omega) (by omega) (by omega)
    · refine ⟨_, _, op8 _, fun S Hc vals hS hn hI => ?_⟩
      have k2 := hn 2 (by simp)
      have k3 := hn 3 (by simp)
      have k4 := hn 4 (by simp)
      have k7 := hn 7 (by simp)
      obtain ⟨-, w2, -⟩ := hI.v2 k2
      obtain ⟨-, w7, -⟩ := hI.v7 k7
      obtain ⟨m3, w3, -⟩ := hI.v3 k3
      obtain ⟨m4, w4, -⟩ := hI.v4 k4
      have e : abl [nilSl, .lit (.map none), .lit (.map none), nilSl, I 0] [(0, 1, vals 2), (1, 1, vals 3), (2, 1, vals 4), (3, 1, vals 7)] = some (.agg [vals 2, vals 3, vals 4, vals 7, I 0]) := by
        simp [w3, w4, cellsA_one (oneA_owned w2), cellsA_one (oneA_owned w7)]
      simp only [gO_true, e, bO_some]
      exact step 8 S Hc Hc vals _ hS hI (Grew.refl _) (by omega) (by omega) (by omega) (by omega) (by omega) (by omega) (by omega) (by omega) (fun _ => ⟨rfl, k2, k3, k4, k7⟩) (by omega) (by omega)
    · refine ⟨_, _, op9 _, fun S Hc vals hS hn hI => ?_⟩
      have k8 := hn 8 (by simp)
      obtain ⟨k2, k3, k4, k7⟩ := hI.low.1 k8
      obtain ⟨u2, w2, -⟩ := hI.v2 k2
      obtain ⟨u7, w7, -⟩ := hI.v7 k7
      obtain ⟨m3, w3, -⟩ := hI.v3 k3
      obtain ⟨m4, w4, -⟩ := hI.v4 k4
      have e : anew Hc (vals 8) = some (.ptr Hc.length 0, Hc ++ [some (.cells [vals 2, vals 3, vals 4, vals 7, I 0])]) := by
        rw [hI.v8 k8]
        simp [w3, w4, oneA_owned w2, oneA_owned w7]
      simp only [gH_true, e, bH_some]
      exact step 9 S Hc _ vals _ hS hI (Grew.app _ _) (by omega) (by omega) (by omega) (by omega) (by omega) (by omega) (by omega) (by omega) (by omega)
        (fun _ => ⟨k8, Hc.length, rfl, by simp, hI.g.1, fun i hi => by have := sliceCells_lt u2 i hi; omega, fun i hi => by have := sliceCells_lt u7 i hi; omega⟩) (by omega)
    · refine ⟨_, _, op10 _, fun S Hc vals hS hn hI => ?_⟩
      simp only [gO_true, bO_some]
      exact step 10 S Hc Hc vals _ hS hI (Grew.refl _) (by omega) (by omega) (by omega) (by omega) (by omega) (by omega) (by omega) (by omega) (by omega) (by omega) (fun _ => ⟨rfl, hn 9 (by simp)⟩)
  · intro Hc vals S hS hI
    rw [newLen]
    rw [newLen] at hS
    show (kSeq (cutC (mk 54 0 [1, 3]) (disk_New_c [true, true, true] 4)) (kRet Try.prog Try.f9.results.toList K)) .normal _ Hc
    rw [newK]
    obtain ⟨o, x1, x2, x3, x4, x5⟩ := hI.v9 (hS 9 (by omega))
    obtain ⟨m3, y1, y2, y3⟩ := hI.v3 (hS 3 (by omega))
    obtain ⟨m4, z1, z2, z3⟩ := hI.v4 (hS 4 (by omega))
    obtain ⟨u2, w2, t2⟩ := hI.v2 (hS 2 (by omega))
    obtain ⟨u7, w7, t7⟩ := hI.v7 (hS 7 (by omega))
    have hne := hI.v34 (hS 3 (by omega)) (hS 4 (by omega))
    rw [hI.v10 (hS 10 (by omega)), x1]
    rw [y1, z1] at x2 hne
    exact hK Hc o (vals 2) m3 m4 (vals 7) hI.g x2 u2 u7 w2 w7 y2 z2 (fun h => hne (by rw [h])) x3 y3 z3 (fun i hi => ⟨t2 i hi, x4 i hi⟩) (fun i hi => ⟨t7 i hi, x5 i hi⟩)
end Go.Proofs.Ythgkepaadkmhoaa.Av
