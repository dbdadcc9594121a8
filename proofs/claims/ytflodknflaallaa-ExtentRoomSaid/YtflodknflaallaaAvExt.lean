/- Chapter 11: blocks and contents; which may be, what is read, where data and holes are. -/
import Derived.Test.YtflodknflaallaaAvOff
import Derived.Test.YtflodknflaallaaAvJ
set_option linter.unusedVariables false
set_option linter.unusedSimpArgs false
set_option maxRecDepth 100000
namespace Go.Proofs.Ytflodknflaallaa.Av
open Go Go.RowKit

/-- A block that is there. -/
structure Ext where
  no : Int
  b : List UInt8
  hb : b.length = 8
  deriving DecidableEq
def encE (x : Ext) : List AV := I x.no :: encB x.b
theorem encE_len (x : Ext) : (encE x).length = 9 := by simp [encE, encB_len, x.hb]
theorem encB_all (l : List UInt8) : (encB l).all oneA = true := by simp [encB]
@[simp] theorem encE_all (x : Ext) : (encE x).all oneA = true := by
  show (oneA (I x.no) && (encB x.b).all oneA) = true
  rw [encB_all]; rfl
theorem noIdss_encE (x : Ext) : noIdss (encE x) = true := by
  show noIdss (I x.no :: encB x.b) = true
  simp [noIdss, noIds, noIdss_encB]
@[simp] theorem encE_no (x : Ext) (t : List AV) : (encE x ++ t)[0]? = some (I x.no) := rfl
@[simp] theorem encE_no' (x : Ext) : (encE x)[0]? = some (I x.no) := rfl
@[simp] theorem rd_b (x : Ext) : rdCells true 8 (encE x) 1 = some (.agg (encB x.b)) := by
  have := x.hb
  simp [rdCells, encE, encB_len, this, List.take_of_length_le]
@[simp] theorem rd_e (x : Ext) (t : List AV) : rdCells true 9 (encE x ++ t) 0 = some (.agg (encE x)) := by
  have := encE_len x
  simp [rdCells, this, List.take_append_of_le_length]
@[simp] theorem rd_e' (x : Ext) : rdCells true 9 (encE x) 0 = some (.agg (encE x)) := by
  have := encE_len x
  simp [rdCells, this, List.take_of_length_le]
theorem aiv_b {b : List UInt8} {k : Nat} {y : UInt8} (h : b[k]? = some y) (hk : k < 8) : aivA false 1 8 1 (.agg (encB b)) (I k) = some (.lit (.int .u8 y.toNat)) := by
  have : (k : Int) < 8 := by omega
  simp [aivA, aint, this, encB_get, h]
theorem ast_e {H : AH} {z : List AV} {x : Ext} {o : Nat} (ho : o = H.length) (hz : z.length = 9) : ast 9 (H ++ [some (.cells z)]) (.ptr o 0) (.agg (encE x)) = some (H ++ [some (.cells (encE x))]) := by
  have := encE_len x
  have e : splice z 0 (encE x) = encE x := by
    have hb : (encB x.b).length = 8 := by rw [encB_len, x.hb]
    unfold encE
    cases hB : encB x.b with
    | nil => rw [hB] at hb; simp at hb
    | cons a r => rw [hB] at hb; simp at hb; simp [splice, hz, hb]
  simp [ast, ho, this, hz, e, -splice]
theorem u8z {y : UInt8} : (y.toNat = 0) = (y = 0) := by
  refine propext ⟨fun h => ?_, fun h => by rw [h]; rfl⟩
  apply UInt8.toNat_inj.1
  rw [h]; rfl
/-- Bytes from a place on: at or behind the size 0. -/
def cleanB (size : Int) : Int → List UInt8 → Prop
  | _, [] => True
  | p, b :: r => (b ≠ 0 → p < size) ∧ cleanB size (p + 1) r
instance cleanB.dec (size : Int) : ∀ (p : Int) (l : List UInt8), Decidable (cleanB size p l)
  | _, [] => Decidable.isTrue True.intro
  | p, b :: r => by
    have := cleanB.dec size (p + 1) r
    unfold cleanB; infer_instance
def cleanE (size : Int) (x : Ext) : Prop := cleanB size (x.no * 8) x.b
instance (size : Int) (x : Ext) : Decidable (cleanE size x) := by unfold cleanE; infer_instance
/-- Blocks that rise, and may be. -/
def okL (size : Int) : Int → List Ext → Prop
  | _, [] => True
  | p, x :: r => p < x.no ∧ x.no < 137438953472 ∧ cleanE size x ∧ okL size x.no r
instance okL.dec (size : Int) : ∀ (p : Int) (l : List Ext), Decidable (okL size p l)
  | _, [] => Decidable.isTrue True.intro
  | p, x :: r => by
    have := okL.dec size x.no r
    unfold okL; infer_instance
theorem okL_cons {size p : Int} {x : Ext} {r : List Ext} : okL size p (x :: r) = (p < x.no ∧ x.no < 137438953472 ∧ cleanE size x ∧ okL size x.no r) := rfl
theorem okL_nil {size p : Int} : okL size p [] = True := rfl
/-- May content be? -/
def mayC (size : Int) (l : List Ext) : Prop := 0 ≤ size ∧ size ≤ 1099511627776 ∧ okL size (-1) l
instance (size : Int) (l : List Ext) : Decidable (mayC size l) := by unfold mayC; infer_instance
theorem drop_cons {α : Type} {l : List α} {k : Nat} {y : α} (h : l[k]? = some y) : l.drop k = y :: l.drop (k + 1) := by
  obtain ⟨hk, e⟩ := List.getElem?_eq_some_iff.1 h
  rw [List.drop_eq_getElem_cons hk, e]

theorem extent_clean_p (x : Ext) (size : Int) (h0 : -1 ≤ x.no) (h1 : x.no < 137438953472) : BPure Try.prog 39 [.agg (encE x), I size] (B (decide (cleanE size x))) := BPure.val (by simp [noIdss, noIds, noIdss_encE]) rfl (extent_clean_ok (by
  unfold extent_clean
  simp
  refine extent_clean_L3_rule (fun n x1 x2 x8 x9 H' => ∃ k : Nat, k + n = 8 ∧ x1 = I size ∧ x2 = .ptr 0 0 ∧ x8 = .agg (encB x.b) ∧ x9 = I k ∧ H' = [some (.cells (encE x))] ∧ (cleanE size x ↔ cleanB size (x.no * 8 + k) (x.b.drop k))) ?_ 8 ⟨0, rfl, rfl, rfl, rfl, rfl, rfl, by simp [cleanE]⟩
  rintro n x1 x2 x8 x9 H' R hR ⟨k, hk, rfl, rfl, rfl, rfl, rfl, hm⟩
  unfold extent_clean_L3_b
  rcases Nat.lt_or_ge k 8 with hlt | hge
  · have hlt' : (k : Int) < 8 := by omega
    have hx := List.getElem?_eq_getElem (l := x.b) (i := k) (by rw [x.hb]; exact hlt)
    generalize x.b[k]'(by rw [x.hb]; exact hlt) = y at hx
    rw [drop_cons hx] at hm
    unfold cleanB at hm
    simp [hlt', aiv_b hx hlt, u8z]
    have hkk : (k : Int) + 1 = ((k + 1 : Nat) : Int) := by omega
    by_cases hy : y = 0
    · simp [hy, abI_add (a := k) (b := 1) (by omega) (by omega)]
      refine hR (n - 1) _ _ _ _ _ (by omega) ⟨k + 1, by omega, rfl, rfl, rfl, rfl, rfl, ?_⟩
      rw [hm]
      simp [hy, Int.add_assoc]
    · simp [hy, abI_mul (a := x.no) (b := 8) (by omega) (by omega), abI_add (a := x.no * 8) (b := k) (by omega) (by omega)]
      by_cases hs : size ≤ x.no * 8 + k
      · have : ¬ cleanE size x := by rw [hm]; intro h; have := h.1 hy; omega
        simp [hs, this]
      · simp [hs, abI_add (a := k) (b := 1) (by omega) (by omega)]
        refine hR (n - 1) _ _ _ _ _ (by omega) ⟨k + 1, by omega, rfl, rfl, rfl, rfl, rfl, ?_⟩
        rw [hm]
        simp [hy, Int.add_assoc]
        omega
  · have : k = 8 := by omega
    subst this
    have e : x.b.drop 8 = [] := by rw [List.drop_eq_nil_iff, x.hb]; omega
    rw [e] at hm
    simp only [cleanB, iff_true] at hm
    simp [hm]))

theorem oneA_sv {α : Type} {enc : α → List AV} {sz : Nat} {l : List α} {v : AV} (hv : SV enc sz l v) : oneA v = true := by
  have h1 := hv.1
  have h2 := hv.2 []
  cases v with
  | lit a => cases a <;> first | rfl | (simp [sliceCells] at h2)
  | _ => first | rfl | (simp [sliceCells] at h2)
theorem extent_whole_p (no : Int) (h0 : 0 ≤ no) (h1 : no < 137438953472) : BPure Try.prog 38 [I no] (.agg (encSp ⟨no * 8, 8⟩)) := BPure.val (by simp [noIdss, noIds]) rfl (extent_whole_ok (by
  unfold extent_whole
  simp [abI_mul (a := no) (b := 8) (by omega) (by omega), ast, rdCells, encSp]))
theorem exts_nat {l : List Ext} {k : Nat} : (k : Int) + 1 = ((k + 1 : Nat) : Int) := by omega

theorem extent_May_p {size : Int} {l : List Ext} {v : AV} (hv : SV encE 9 l v) (hl : l.length ≤ 281474976710656) : BPure Try.prog 16 [.agg [I size, v]] (B (decide (mayC size l))) := BPure.val (by simp [noIdss, noIds, hv.1]) rfl (extent_May_ok (by
  unfold extent_May
  simp [oneA_sv hv]
  by_cases h1 : size < 0
  · have : ¬ mayC size l := fun h => by have := h.1; omega
    simp [h1, this]
  · by_cases h2 : 1099511627776 < size
    · have : ¬ mayC size l := fun h => by have := h.2.1; omega
      simp [h1, h2, this]
    · simp [h1, h2, hv.len]
      have hm : mayC size l ↔ okL size (-1) l := by unfold mayC; constructor <;> intro h <;> simp_all <;> omega
      have e : decide (mayC size l) = decide (okL size (-1) l) := decide_eq_decide.2 hm
      rw [e]
      refine extent_May_L7_rule (fun n x1 x3 x15 x16 x17 H' => ∃ (k : Nat) (p : Int), k + n = l.length ∧ x1 = .ptr 0 0 ∧ x3 = I p ∧ x15 = v ∧ x16 = I l.length ∧ x17 = I k ∧ (∃ X, H' = some (.cells [I size, v]) :: X) ∧ -1 ≤ p ∧ (okL size (-1) l ↔ okL size p (l.drop k))) ?_ l.length ⟨0, -1, by simp, rfl, rfl, rfl, rfl, rfl, ⟨[], rfl⟩, by omega, by simp⟩
      rintro n x1 x3 x15 x16 x17 H' R hR ⟨k, p, hk, rfl, rfl, rfl, rfl, rfl, ⟨X, rfl⟩, hp, hm⟩
      unfold extent_May_L7_b
      rcases Nat.lt_or_ge k l.length with hlt | hge
      · have hx := List.getElem?_eq_getElem hlt
        generalize l[k] = y at hx
        rw [drop_cons hx] at hm
        rw [okL_cons] at hm
        simp [hlt, hv.idx encE_len hx rfl, -ald_ptr']
        rw [← List.cons_append, ast_e (by simp) (by rfl)]
        simp
        by_cases c1 : y.no ≤ p
        · have : ¬ okL size (-1) l := by rw [hm]; intro h; omega
          simp [c1, this]
        · by_cases c2 : 137438953472 ≤ y.no
          · have : ¬ okL size (-1) l := by rw [hm]; intro h; omega
            simp [c1, c2, this]
          · simp [c1, c2]
            refine bP_pure (extent_clean_p y size (by omega) (by omega)) ?_
            by_cases c3 : cleanE size y
            · simp [c3, abI_add (a := k) (b := 1) (by omega) (by omega)]
              refine hR (n - 1) _ _ _ _ _ _ (by omega) ⟨k + 1, y.no, by omega, rfl, rfl, rfl, rfl, rfl, ⟨X ++ [some (.cells (encE y))], rfl⟩, by omega, ?_⟩
              rw [hm]
              exact ⟨fun h => h.2.2.2, fun h => ⟨by omega, by omega, c3, h⟩⟩
            · have : ¬ okL size (-1) l := by rw [hm]; intro h; exact c3 h.2.2.1
              simp [c3, this]
      · have : k = l.length := by omega
        subst this
        rw [List.drop_length] at hm
        simp only [okL_nil, iff_true] at hm
        simp [hm]))

theorem aixA_b {b : List UInt8} {t : List AV} {k : Nat} {y : UInt8} {H : AH} (h : b[k]? = some y) (hk : k < 8) : ∃ q, aixA 8 1 (.ip (encB b ++ t)) (I k) = some q ∧ ald false 1 H q = some (.lit (.int .u8 y.toNat)) := by
  have hk' : (k : Int) < 8 := by omega
  have hl : k < b.length := (List.getElem?_eq_some_iff.1 h).1
  refine ⟨.ip ((encB b ++ t).drop k), by simp [aixA, aint, hk'], ?_⟩
  have hl' : k < (encB b).length := by rw [encB_len]; exact hl
  simp [List.getElem?_append_left hl', encB_get, h]
theorem ref_MayContent_p {size : Int} {l : List Ext} {v : AV} (hv : SV encE 9 l v) (hl : l.length ≤ 281474976710656) : BPure Try.prog 23 [.agg [I size, v]] (B (decide (mayC size l))) := BPure.val (by simp [noIdss, noIds, hv.1]) rfl (salvorref11_MayContent_ok (by
  unfold salvorref11_MayContent
  simp [oneA_sv hv]
  by_cases h1 : size < 0
  · have : ¬ mayC size l := fun h => by have := h.1; omega
    simp [h1, this]
  · by_cases h2 : 1099511627776 < size
    · have : ¬ mayC size l := fun h => by have := h.2.1; omega
      simp [h1, h2, this]
    · simp [h1, h2]
      have hm : mayC size l ↔ okL size (-1) l := by unfold mayC; constructor <;> intro h <;> simp_all <;> omega
      have e : decide (mayC size l) = decide (okL size (-1) l) := decide_eq_decide.2 hm
      rw [e]
      refine salvorref11_MayContent_L6_rule (fun n x1 x3 H' => ∃ (k : Nat) (p : Int), k + n = l.length ∧ x1 = .ptr 0 0 ∧ x3 = I k ∧ H' = [some (.cells [I size, v])] ∧ -1 ≤ p ∧ (k = 0 → p = -1) ∧ (∀ z, 0 < k → l[k - 1]? = some z → p = z.no) ∧ (okL size (-1) l ↔ okL size p (l.drop k))) ?_ l.length ⟨0, -1, by simp, rfl, rfl, rfl, by omega, by simp, by simp, by simp⟩
      rintro n x1 x3 H' R hR ⟨k, p, hk, rfl, rfl, rfl, hp, hp0, hp1, hm⟩
      unfold salvorref11_MayContent_L6_b
      rcases Nat.lt_or_ge k l.length with hlt | hge
      · have hx := List.getElem?_eq_getElem hlt
        generalize l[k] = y at hx
        rw [drop_cons hx] at hm
        rw [okL_cons] at hm
        simp [hlt, hv.len, hv.idx encE_len hx rfl]
        have fin : ¬ p < y.no ∨ ¬ y.no < 137438953472 → ¬ okL size (-1) l := by
          rw [hm]; intro h h'; omega
        have go : -1 ≤ y.no → y.no < 137438953472 → p < y.no → salvorref11_MayContent_L15 R (.ptr 0 0) (I k) (I y.no) (I 0) [some (.cells [I size, v])] (fun r H' => r = B (decide (okL size (-1) l))) := by
          intro g1 g2 g3
          refine salvorref11_MayContent_L15_rule R (fun m x1 x3 x4 x5 H' => ∃ (j : Nat), j + m = 8 ∧ x1 = .ptr 0 0 ∧ x3 = I k ∧ x4 = I y.no ∧ x5 = I j ∧ H' = [some (.cells [I size, v])] ∧ (cleanE size y ↔ cleanB size (y.no * 8 + j) (y.b.drop j))) ?_ 8 ⟨0, rfl, rfl, rfl, rfl, rfl, rfl, by simp [cleanE]⟩
          rintro m x1 x3 x4 x5 H' R2 hR2 ⟨j, hj, rfl, rfl, rfl, rfl, rfl, hc⟩
          unfold salvorref11_MayContent_L15_b
          rcases Nat.lt_or_ge j 8 with hlj | hgj
          · have hlj' : (j : Int) < 8 := by omega
            have hy := List.getElem?_eq_getElem (l := y.b) (i := j) (by rw [y.hb]; exact hlj)
            generalize y.b[j]'(by rw [y.hb]; exact hlj) = u at hy
            rw [drop_cons hy] at hc
            simp only [cleanB] at hc
            simp [hlj', abI_mul (a := y.no) (b := 8) (by omega) (by omega), abI_add (a := y.no * 8) (b := j) (by omega) (by omega)]
            have nxt : (u ≠ 0 → y.no * 8 + j < size) → (bO (abI .add (I j) (I 1)) fun v20 => R2 [.ptr 0 0, I k, I y.no, v20] [some (.cells [I size, v])]) := by
              intro hu
              simp [abI_add (a := j) (b := 1) (by omega) (by omega)]
              refine hR2 (m - 1) _ _ _ _ _ (by omega) ⟨j + 1, by omega, rfl, rfl, rfl, rfl, rfl, ?_⟩
              rw [hc]
              have : y.no * 8 + (j : Int) + 1 = y.no * 8 + ((j + 1 : Nat) : Int) := by omega
              rw [this]
              exact ⟨fun h => h.2, fun h => ⟨hu, h⟩⟩
            by_cases hs : size ≤ y.no * 8 + j
            · obtain ⟨q, e1, e2⟩ := aixA_b (t := (l.drop (k + 1)).flatMap encE) (H := [some (.cells [I size, v])]) hy hlj
              have e0 : (encE y ++ (l.drop (k + 1)).flatMap encE).drop 1 = encB y.b ++ (l.drop (k + 1)).flatMap encE := rfl
              simp [hs, hv.idx encE_len hx rfl, e0, e1, e2, u8z]
              by_cases hu : u = 0
              · simp [hu]
                exact nxt (fun h => absurd hu h)
              · have : ¬ okL size (-1) l := by rw [hm]; intro h; have := (hc.1 h.2.2.1).1 hu; omega
                simp [hu, this]
            · simp [hs]
              exact nxt (fun h => by omega)
          · have : j = 8 := by omega
            subst this
            have e : y.b.drop 8 = [] := by rw [List.drop_eq_nil_iff, y.hb]; omega
            rw [e] at hc
            simp only [cleanB, iff_true] at hc
            simp [abI_add (a := k) (b := 1) (by omega) (by omega)]
            refine hR (n - 1) _ _ _ (by omega) ⟨k + 1, y.no, by omega, rfl, rfl, rfl, by omega, by omega, ?_, ?_⟩
            · intro z _ hz; simp [hx] at hz; rw [hz]
            · rw [hm]
              exact ⟨fun h => h.2.2.2, fun h => ⟨by omega, by omega, hc, h⟩⟩
        by_cases c1 : y.no < 0
        · simp [c1, fin (.inl (by omega))]
        · by_cases c2 : 137438953472 ≤ y.no
          · simp [c1, c2, fin (.inr (by omega))]
          · simp [c1, c2]
            rcases Nat.eq_zero_or_pos k with k0 | k0
            · subst k0
              simp
              have := hp0 rfl
              exact go (by omega) (by omega) (by omega)
            · have hxp := List.getElem?_eq_getElem (l := l) (i := k - 1) (by omega)
              generalize l[k - 1]'(by omega) = z at hxp
              have hpz := hp1 z k0 hxp
              simp [k0, abI_sub (a := k) (b := 1) (by omega) (by omega), hv.idx encE_len hxp (i := (k : Int) - 1) (by omega)]
              by_cases c3 : y.no ≤ z.no
              · simp [c3, fin (.inl (by omega))]
              · simp [c3]
                exact go (by omega) (by omega) (by omega)
      · have : k = l.length := by omega
        subst this
        rw [List.drop_length] at hm
        simp only [okL_nil, iff_true] at hm
        simp [hm, hv.len]))
end Go.Proofs.Ytflodknflaallaa.Av
