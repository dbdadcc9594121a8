/- Chapter 1's functions, told: the program's and the reference's. -/
import Derived.Test.YtflodknflaallaaAvN
import Derived.Test.YtflodknflaallaaPa
set_option linter.unusedVariables false
set_option linter.unusedSimpArgs false
namespace Go.Proofs.Ytflodknflaallaa.Av
open Go Go.RowKit

def May (n : Int) : Prop := 0 ≤ n ∧ n ≤ 4611686018427387904
instance (n : Int) : Decidable (May n) := by unfold May; infer_instance
def encI (n : Int) : List AV := [I n]
theorem encI_len (n : Int) : (encI n).length = 1 := rfl
/-- A number, or none. -/
def oI : Option Int → AV
  | some n => .tup [I n, B true]
  | none => .tup [I 0, B false]
def addS (l : List Int) : Option Int := if (∀ n ∈ l, May n) ∧ l.sum ≤ 4611686018427387904 then some l.sum else none

theorem off_May_p (n : Int) : BPure Try.prog 58 [I n] (B (decide (May n))) := BPure.flat fun H => off_May_ok (by
  unfold off_May
  by_cases h1 : 0 ≤ n <;> by_cases h2 : n ≤ 4611686018427387904 <;> simp [May, h1, h2])

/-! spans -/
structure Sp where
  pos : Int
  len : Int
  deriving DecidableEq, Inhabited
def encSp (s : Sp) : List AV := [I s.pos, I s.len]
theorem encSp_len (s : Sp) : (encSp s).length = 2 := rfl
def MaySpan (s : Sp) : Prop := May s.pos ∧ May s.len ∧ s.len ≤ 4611686018427387904 - s.pos
instance (s : Sp) : Decidable (MaySpan s) := by unfold MaySpan; infer_instance
theorem off_MaySpan_p (s : Sp) : BPure Try.prog 52 [.agg (encSp s)] (B (decide (MaySpan s))) := BPure.val rfl rfl (off_MaySpan_ok (by
  unfold off_MaySpan
  obtain ⟨p, n⟩ := s
  simp [encSp, ald_ptr']
  refine bP_pure (off_May_p _) ?_
  by_cases h1 : May p
  · have h1' := h1
    unfold May at h1'
    simp [h1]
    refine bP_pure (off_May_p _) ?_
    by_cases h2 : May n
    · simp [h2, abI_sub (a := 4611686018427387904) (b := p) (by omega) (by omega), MaySpan, h1]
    · simp [h2, MaySpan]
  · simp [h1, MaySpan]))
def meet (a b : Sp) : Sp :=
  if MaySpan a ∧ MaySpan b ∧ max a.pos b.pos < min (a.pos + a.len) (b.pos + b.len) then ⟨max a.pos b.pos, min (a.pos + a.len) (b.pos + b.len) - max a.pos b.pos⟩ else ⟨0, 0⟩
theorem off_Meet_p (a b : Sp) : BPure Try.prog 37 [.agg (encSp a), .agg (encSp b)] (.agg (encSp (meet a b))) := BPure.val rfl rfl (off_Meet_ok (by
  unfold off_Meet
  simp [encSp, ald_ptr', rdCells]
  refine bP_pure (off_MaySpan_p a) ?_
  by_cases h1 : MaySpan a
  · simp [h1]
    refine bP_pure (off_MaySpan_p b) ?_
    by_cases h2 : MaySpan b
    · have h1' := h1
      have h2' := h2
      simp only [MaySpan, May] at h1' h2'
      obtain ⟨p, n⟩ := a
      obtain ⟨q, m⟩ := b
      simp only at h1' h2'
      simp [h2, abI_add (a := p) (b := n) (by omega) (by omega), abI_add (a := q) (b := m) (by omega) (by omega)]
      by_cases h3 : max p q < min (p + n) (q + m)
      · have h3' : ¬ min (q + m) (p + n) ≤ max q p := by omega
        simp [h3', abI_sub (a := min (q + m) (p + n)) (b := max q p) (by omega) (by omega), ast, meet, h1, h2, h3]
        omega
      · have h3' : min (q + m) (p + n) ≤ max q p := by omega
        simp [h3', ast, meet, h3]
    · simp [h2, ast, meet]
  · simp [h1, ast, meet]))
theorem eqSp_a (a b c d : Int) : abin Try.prog .eql 54 (.agg [I a, I b]) (.agg [I c, I d]) = some (B (a == c && (b == d && true))) := by kernel_rfl
theorem neSp_a (a b c d : Int) : abin Try.prog .neq 54 (.agg [I a, I b]) (.agg [I c, I d]) = some (B !(a == c && (b == d && true))) := by kernel_rfl
theorem sp_beq (x y : Sp) : (x.pos == y.pos && (x.len == y.len && true)) = decide (x = y) := by
  obtain ⟨a, b⟩ := x
  obtain ⟨c, d⟩ := y
  by_cases h1 : a = c <;> by_cases h2 : b = d <;> simp [h1, h2]
theorem eqSp (x y : Sp) : abin Try.prog .eql 54 (.agg (encSp x)) (.agg (encSp y)) = some (B (decide (x = y))) := by rw [← sp_beq]; exact eqSp_a _ _ _ _
theorem neSp (x y : Sp) : abin Try.prog .neq 54 (.agg (encSp x)) (.agg (encSp y)) = some (B (decide (x ≠ y))) := by
  rw [decide_not, ← sp_beq]; exact neSp_a _ _ _ _
def Within (a b : Sp) : Prop := MaySpan a ∧ MaySpan b ∧ (a.len = 0 ∨ meet a b = a)
instance (a b : Sp) : Decidable (Within a b) := by unfold Within; infer_instance
theorem off_Within_p (a b : Sp) : BPure Try.prog 50 [.agg (encSp a), .agg (encSp b)] (B (decide (Within a b))) := BPure.val rfl rfl (off_Within_ok (by
  unfold off_Within
  simp [encSp, ald_ptr', rdCells]
  refine bP_pure (off_MaySpan_p a) ?_
  by_cases h1 : MaySpan a
  · simp [h1]
    refine bP_pure (off_MaySpan_p b) ?_
    by_cases h2 : MaySpan b
    · by_cases h3 : a.len = 0
      · simp [h2, h3, Within, h1]
      · simp [h2, h3, Within, h1]
        refine bP_of (off_Meet_p a b) ?_
        have := eqSp (meet a b) a
        simp only [encSp] at this ⊢
        simp [this]
    · simp [h2, Within]
  · simp [h1, Within]))

/-! lists of numbers -/
theorem sum_take {l : List Int} (h : ∀ n ∈ l, May n) (k : Nat) : 0 ≤ (l.take k).sum ∧ (l.take k).sum ≤ l.sum := by
  induction l generalizing k with
  | nil => simp
  | cons a l ih =>
    have ha := h a (by simp)
    have := ih (fun n hn => h n (by simp [hn]))
    cases k with
    | zero => have := this l.length; simp at this ⊢; unfold May at ha; omega
    | succ k => have := this k; simp; unfold May at ha; omega
theorem take_succ_sum {l : List Int} {k : Nat} {x : Int} (h : l[k]? = some x) : (l.take (k + 1)).sum = (l.take k).sum + x := by
  rw [List.take_add_one, h]; simp
def mulS (l : List Int) : Option Int := if ∀ n ∈ l, May n then if 0 ∈ l then some 0 else if l.prod ≤ 4611686018427387904 then some l.prod else none else none
theorem prod_take {l : List Int} (h : ∀ n ∈ l, May n) (h0 : 0 ∉ l) (k : Nat) : 1 ≤ (l.take k).prod ∧ (l.take k).prod ≤ l.prod := by
  induction l generalizing k with
  | nil => simp
  | cons a l ih =>
    have ha := h a (by simp)
    have ha0 : a ≠ 0 := fun hh => h0 (by simp [hh])
    unfold May at ha
    have this := ih (fun n hn => h n (by simp [hn])) (fun hh => h0 (by simp [hh]))
    have h1 := this l.length
    simp at h1
    cases k with
    | zero =>
      simp
      have : (1 : Int) * 1 ≤ a * l.prod := Int.mul_le_mul (by omega) h1 (by omega) (by omega)
      omega
    | succ k =>
      have h2 := this k
      simp
      constructor
      · have : (1 : Int) * 1 ≤ a * (l.take k).prod := Int.mul_le_mul (by omega) h2.1 (by omega) (by omega)
        omega
      · exact Int.mul_le_mul_of_nonneg_left h2.2 (by omega)
theorem take_succ_prod {l : List Int} {k : Nat} {x : Int} (h : l[k]? = some x) : (l.take (k + 1)).prod = (l.take k).prod * x := by
  rw [List.take_add_one, h]; simp [List.prod_append]
theorem le_div {m p y : Int} (hp : 1 ≤ p) : y ≤ m / p ↔ p * y ≤ m := by
  rw [Int.le_ediv_iff_mul_le (by omega), Int.mul_comm]

/-! cut at multiples -/
def cutsS : Nat → Int → Int → Int → List Sp
  | 0, _, _, _ => []
  | f + 1, pos, len, unit => if 0 < len then ⟨pos, min len (unit - pos % unit)⟩ :: cutsS f (pos + min len (unit - pos % unit)) (len - min len (unit - pos % unit)) unit else []
def partsS (s : Sp) (unit : Int) : List Sp := if MaySpan s ∧ s.len ≤ 4096 ∧ 1 ≤ unit then cutsS s.len.toNat s.pos s.len unit else []
theorem cutsS_step {f : Nat} {pos len unit : Int} (hf : len.toNat ≤ f) (hl : 0 < len) (hp : 0 ≤ pos) (hu : 1 ≤ unit) : cutsS f pos len unit = ⟨pos, min len (unit - pos % unit)⟩ :: cutsS (len - min len (unit - pos % unit)).toNat (pos + min len (unit - pos % unit)) (len - min len (unit - pos % unit)) unit := by
  induction f using Nat.strongRecOn generalizing pos len with
  | _ f ih =>
    have h1 := Int.emod_lt_of_pos pos (show 0 < unit by omega)
    have h2 := Int.emod_nonneg pos (show unit ≠ 0 by omega)
    cases f with
    | zero => omega
    | succ f =>
      simp only [cutsS, hl, if_true]
      congr 1
      have hm : 1 ≤ min len (unit - pos % unit) := by omega
      generalize min len (unit - pos % unit) = m at *
      have more : ∀ (a b : Nat) (p n : Int), n.toNat ≤ a → n.toNat ≤ b → 0 ≤ p → cutsS a p n unit = cutsS b p n unit := by
        intro a
        induction a with
        | zero =>
          intro b p n ha hb hp
          cases b with
          | zero => rfl
          | succ b => simp only [cutsS]; rw [if_neg (by omega)]
        | succ a iha =>
          intro b p n ha hb hp
          have h1 := Int.emod_lt_of_pos p (show 0 < unit by omega)
          have h2 := Int.emod_nonneg p (show unit ≠ 0 by omega)
          cases b with
          | zero => simp only [cutsS]; rw [if_neg (by omega)]
          | succ b =>
            simp only [cutsS]
            split
            · rw [iha b _ _ (by omega) (by omega) (by omega)]
            · rfl
      exact more _ _ _ _ (by omega) (by omega) (by omega)
theorem cutsS_stop {f : Nat} {pos len unit : Int} (hl : ¬ 0 < len) : cutsS f pos len unit = [] := by
  cases f with
  | zero => rfl
  | succ f => simp only [cutsS, if_neg hl]
theorem noIdss_sp (l : List Sp) : noIdss (l.flatMap encSp) = true := by
  induction l with
  | nil => rfl
  | cons a l ih => rw [List.flatMap_cons]; simp [encSp, noIdss, noIds]; simpa [encSp] using ih
theorem off_Parts_p (s : Sp) {unit : Int} (hu : unit ≤ 9223372036854775807) : ∃ v, SV encSp 2 (partsS s unit) v ∧ BPure Try.prog 34 [.agg (encSp s), I unit] v := by
  refine BPure.sl (sz := 2) rfl (noIdss_sp _) (off_Parts_ok ?_)
  unfold off_Parts
  obtain ⟨p, n⟩ := s
  simp [encSp, rdCells]
  refine bP_pure (off_MaySpan_p ⟨p, n⟩) ?_
  by_cases h1 : MaySpan ⟨p, n⟩
  · simp [h1]
    by_cases h2 : 4096 < n
    · have : partsS ⟨p, n⟩ unit = [] := if_neg (by simp only; omega)
      simp [h2, this, sliceCells]
    · simp [h2]
      by_cases h3 : unit < 1
      · have : partsS ⟨p, n⟩ unit = [] := if_neg (by omega)
        simp [h3, this, sliceCells]
      · simp [h3]
        have hP : partsS ⟨p, n⟩ unit = cutsS n.toNat p n unit := if_pos ⟨h1, by simp only; omega, by omega⟩
        simp only [MaySpan, May] at h1
        refine off_Parts_L6_rule (fun k x1 x2 x5 H => ∃ (pos len : Int) (l : List Sp), k = len.toNat ∧ x1 = I unit ∧ x2 = .ptr 0 0 ∧ H[0]? = some (some (.cells [I pos, I len])) ∧ ownedS x5 = true ∧ sliceCells H 2 x5 = some (l.flatMap encSp, l.length) ∧ 0 ∉ idS x5 ∧
          0 ≤ pos ∧ 0 ≤ len ∧ pos + len ≤ 4611686018427387904 ∧ (l.length : Int) + len ≤ 4096 ∧ l ++ cutsS len.toNat pos len unit = cutsS n.toNat p n unit) ?_ n.toNat
          ⟨p, n, [], rfl, rfl, rfl, rfl, rfl, rfl, by simp [idS], by omega, by omega, by omega, by simp; omega, rfl⟩
        rintro k x1 x2 x5 H R hR ⟨pos, len, l, rfl, rfl, rfl, hH, ho, hs, hid, hp, hl, hpl, hll, hc⟩
        unfold off_Parts_L6_b
        have e1 := Int.emod_lt_of_pos pos (show 0 < unit by omega)
        have e2 := Int.emod_nonneg pos (show unit ≠ 0 by omega)
        by_cases hlen : 0 < len
        · rw [cutsS_step (Nat.le_refl _) hlen hp (by omega)] at hc
          have hcomm : min (unit - pos % unit) len = min len (unit - pos % unit) := by omega
          have hm1 : 1 ≤ min len (unit - pos % unit) := by omega
          have hm2 : min len (unit - pos % unit) ≤ len := by omega
          generalize min len (unit - pos % unit) = m at hcomm hm1 hm2 hc
          have hH0 := (List.getElem?_eq_some_iff.1 hH).1
          have hs1 : sliceCells (H ++ [some (.cells [I pos, I m])]) 2 x5 = some (l.flatMap encSp, l.length) := sliceCells_keep hs fun i hi => List.getElem?_append_left (sliceCells_lt hs i hi)
          obtain ⟨r, H2, a1, a2, a3, a4, a5, a6⟩ := aap_spec (bytes := 16) hs1 ho (appended_slice (v := .sl H.length 0 1 2 (.ex 1)) (q := ([I pos, I m], 1)) (by simp [sliceCells])) (by omega)
          have hH2 : H2[0]? = some (some (.cells [I pos, I len])) := by
            rw [a5 0 (by simp) hid, List.getElem?_append_left hH0]; exact hH
          have hid2 : 0 ∉ idS r := fun hi => (a6 0 hi).elim hid (by simp)
          have hH20 := (List.getElem?_eq_some_iff.1 hH2).1
          have keep : ∀ c, sliceCells (H2.set 0 c) 2 r = some ((l ++ [(⟨pos, m⟩ : Sp)]).flatMap encSp, (l ++ [(⟨pos, m⟩ : Sp)]).length) := fun c => by
            rw [sliceCells_keep a3 (fun i hi => List.getElem?_set_ne (by rintro rfl; exact hid2 hi))]
            simp [encSp]
          simp [hH, hlen, abI_rem (a := pos) (b := unit) (by omega) (by omega), abI_sub (a := unit) (b := pos % unit) (by omega) (by omega), hcomm, a1, hH2, abI_add (a := pos) (b := m) (by omega) (by omega), abI_sub (a := len) (b := m) (by omega) (by omega), ast]
          refine hR (len - m).toNat _ _ _ _ (by omega) ?_
          exact ⟨pos + m, len - m, l ++ [(⟨pos, m⟩ : Sp)], rfl, rfl, rfl, by simp [hH20], a2, keep _, hid2, by omega, by omega, by omega, by simp; omega, by simpa using hc⟩
        · rw [cutsS_stop hlen, List.append_nil] at hc
          simp [hH, hlen]
          rw [hP, ← hc]
          exact hs
  · have : partsS ⟨p, n⟩ unit = [] := if_neg (fun h => h1 h.1)
    simp [h1, this, sliceCells]

/-! multiples -/
def down (n unit : Int) : Int := if May n ∧ 1 ≤ unit then n - n % unit else 0
def up (n unit : Int) : Option Int := if May n ∧ 1 ≤ unit then if n % unit = 0 then some n else if n - n % unit + unit ≤ 4611686018427387904 then some (n - n % unit + unit) else none else none
/-- .. as the document says it. -/
def Within' (a b : Sp) : Prop := MaySpan a ∧ MaySpan b ∧ (a.len = 0 ∨ (b.pos ≤ a.pos ∧ a.pos + a.len ≤ b.pos + b.len))
instance (a b : Sp) : Decidable (Within' a b) := by unfold Within'; infer_instance
theorem within_iff (a b : Sp) : Within a b ↔ Within' a b := by
  unfold Within Within'
  by_cases h1 : MaySpan a <;> by_cases h2 : MaySpan b <;> simp [h1, h2]
  have h1' := h1
  have h2' := h2
  simp only [MaySpan, May] at h1' h2'
  by_cases h0 : a.len = 0
  · simp [h0]
  · simp only [h0, false_or]
    unfold meet
    obtain ⟨p, n⟩ := a
    obtain ⟨q, m⟩ := b
    simp only at h1' h2' h0 ⊢
    split
    · rename_i h; simp only [Sp.mk.injEq]; omega
    · rename_i h
      simp only [h1, h2, true_and] at h
      simp only [Sp.mk.injEq]
      omega
end Go.Proofs.Ytflodknflaallaa.Av
