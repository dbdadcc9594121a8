/- Texts of this proof, one behind the other, packed into one file by a program of this session. No condition. -/
import Derived.Test.YtpnfdibgfichmaaMgF
/-! YtpnfdibgfichmaaAvIv -/
section
/- Chapter 12: a file is made. -/
set_option linter.unusedVariables false
set_option linter.unusedSimpArgs false
set_option maxRecDepth 100000
namespace Go.Proofs.Ytpnfdibgfichmaa.Av
open Go Go.RowKit

structure OpM where
  kind : Int
  ino : Int
  pos : Int
  size : Int
  keep : Bool
  name : List UInt8
  to : List UInt8
  b : List UInt8
  deriving DecidableEq
def opA (o : OpM) (bv : AV) : List AV := [I o.kind, I o.ino, I o.pos, I o.size, B o.keep, S (bstr o.name), S (bstr o.to), bv]
theorem crN_K (x0 x3 x4 x6 : AV) (vals : Nat → AV) (H : AH) (K : AV → AH → Prop) : (kSeq (cutC (mk 82 0 [0, 3, 6]) (image_create_c [true, true, true, true, true] 6)) (kRet Try.prog Try.f38.results.toList K)) .normal (pt crNOps vals (fun _ => true) (crNT x0 x3 x4 x6) 16) H = image_create_J5 x0 x3 x6 H K := by kernel_rfl
theorem crD_K (x0 x3 x6 : AV) (vals : Nat → AV) (H : AH) (K : AV → AH → Prop) : (kRet Try.prog Try.f38.results.toList K) .normal (pt crDOps vals (fun _ => true) (crDT x0 x3 x6) 14) H = K (.tup []) H := by kernel_rfl
theorem crN_acode (x0 x3 x4 x6 : AV) (H : AH) (K : AV → AH → Prop) (h : ACode Try.prog (.region 4 crNOps.toArray true) (kSeq (cutC (mk 82 0 [0, 3, 6]) (image_create_c [true, true, true, true, true] 6)) (kRet Try.prog Try.f38.results.toList K)) (crNT x0 x3 x4 x6) H) : image_create_U4 x0 x3 x4 x6 H K := unR.mk h
theorem crD_acode (x0 x3 x6 : AV) (H : AH) (K : AV → AH → Prop) (h : ACode Try.prog (.region 5 crDOps.toArray true) (kRet Try.prog Try.f38.results.toList K) (crDT x0 x3 x6) H) : image_create_U5 x0 x3 x6 H K := unR.mk h
/-- A heap that goes on in three steps. -/
def hp3 (i j k : Nat) (A B C D : AH) (S : Nat → Bool) : AH := if S k = true then D else if S j = true then C else if S i = true then B else A
theorem hp3_u {i j k : Nat} {A B C D : AH} {S : Nat → Bool} {q : Nat} (h1 : q ≠ i) (h2 : q ≠ j) (h3 : q ≠ k) : hp3 i j k A B C D (upd S q) = hp3 i j k A B C D S := by
  unfold hp3 upd
  rw [if_neg (Ne.symm h3), if_neg (Ne.symm h2), if_neg (Ne.symm h1)]
theorem create_U4 {L oi p k : Nat} {ns : List Nm} {dv : List NdV} {a b bv : AV} {H : AH} {o : OpM} (h : ImH L oi ns dv a b H) (hp : H[p]? = some (some (.cells (opA o bv)))) (hpo : p ≠ oi) (hpa : p ∉ idS a) (hk : k ≤ ns.length) (hn : ns.length ≤ 100000) :
    ∃ r H2, ImH L oi (ns.take k ++ ⟨o.name, o.ino⟩ :: ns.drop k) dv r b H2 ∧ FrL L oi H H2 ∧ H2[p]? = H[p]? ∧ ∀ x6 K, image_create_J5 (.ptr oi 0) (.ptr p 0) x6 H2 K → image_create_U4 (.ptr oi 0) (.ptr p 0) (I k) x6 H K := by
  have g := Grew.app H [some (.cells (encN ⟨o.name, o.ino⟩))]
  have hg := h.grew g
  have hpl := (List.getElem?_eq_some_iff.1 hp).1
  obtain ⟨r, H12, hI, hc⟩ := insN_c (x := ⟨o.name, o.ino⟩) (oj := H.length) hg.sa hg.oa hg.ca hk (by omega) (by simp) (fun hh => by have := sliceCells_lt h.sa _ hh; omega)
  obtain ⟨i1, i2, i3, i4, i5, i6⟩ := hI
  have el : (ns.take k ++ (⟨o.name, o.ino⟩ : Nm) :: ns.drop k).length = ns.length + 1 := by simp; omega
  obtain ⟨H2, e2, n1, n2⟩ := hg.newA (ms := ns.take k ++ ⟨o.name, o.ino⟩ :: ns.drop k) i3 i4 (by rw [el]; exact i2) i1 (by rw [el]; exact i6) i5
  have hp2 : H2[p]? = H[p]? := by
    have c0 : H12[oi]? = some (some (.cells [a, b])) := by rw [i4 oi (List.getElem?_eq_some_iff.1 hg.obj).1 hg.noA]; exact hg.obj
    rw [ast_ptr (n := 1) (off := 0) (xs := [r]) (cs := [a, b]) (cellsA_one (oneA_owned i1)) c0 rfl (by simp)] at e2
    injection e2 with e2
    rw [← e2, List.getElem?_set_ne (Ne.symm hpo), i4 p (by simp; omega) hpa, g.2 p hpl]
  have hfr : FrL L oi H H2 := by
    have hle := h.len
    exact ⟨Nat.le_trans g.1 n2.1, fun j h5 h6 => (n2.2 j h5 h6).trans (g.2 j (by omega))⟩
  let V : Nat → AV := fun i => ([.ptr oi 0, .ptr oi 0, .ptr oi 0, .ptr oi 0, a, I k, .ptr p 5, S (bstr o.name), .ptr p 1, I o.ino, .agg (encN ⟨o.name, o.ino⟩), .sl H.length 0 1 2 (.ex 1), r, .ptr oi 0, .ptr oi 0, undefA] : List AV).getD i undefA
  refine ⟨r, H2, n1, hfr, hp2, fun x6 K hK => crN_acode _ _ _ _ _ _ ?_⟩
  refine ACode.told2 mixP crNOrd (fun i => crNNeed.getD i []) (fun i => (crNF (.ptr oi 0) (.ptr p 0) (I k) x6).getD i (fun _ _ _ => False)) V (hp3 11 12 15 H (H ++ [some (.cells (encN ⟨o.name, o.ino⟩))]) H12 H2) (crNIs _ _ _ _) rfl ?_ ?_
  · intro i hi S vals hS cl hn
    rw [crNLen] at hi
    have n12 : S 4 = false → S 12 = false := fun h4 => by
      cases h : S 12 with
      | false => rfl
      | true => have := cl 12 h 4 (by simp [crNNeed]); rw [h4] at this; cases this
    have n15 : S 12 = false → S 15 = false := fun h4 => by
      cases h : S 15 with
      | false => rfl
      | true => have := cl 15 h 12 (by simp [crNNeed]); rw [h4] at this; cases this
    have n12' : S 11 = false → S 12 = false := fun h4 => by
      cases h : S 12 with
      | false => rfl
      | true => have := cl 12 h 11 (by simp [crNNeed]); rw [h4] at this; cases this
    have n11 : ∀ j, j = 7 ∨ j = 9 → S j = false → S 11 = false := fun j hj h4 => by
      cases h : S 11 with
      | false => rfl
      | true =>
        have h10 := cl 11 h 10 (by simp [crNNeed])
        have := cl 10 h10 j (by rcases hj with rfl | rfl <;> simp [crNNeed])
        rw [h4] at this; cases this
    have hcase : i = 0 ∨ i = 1 ∨ i = 2 ∨ i = 3 ∨ i = 4 ∨ i = 5 ∨ i = 6 ∨ i = 7 ∨ i = 8 ∨ i = 9 ∨ i = 10 ∨ i = 11 ∨ i = 12 ∨ i = 13 ∨ i = 14 ∨ i = 15 := by omega
    rcases hcase with rfl | rfl | rfl | rfl | rfl | rfl | rfl | rfl | rfl | rfl | rfl | rfl | rfl | rfl | rfl | rfl
    · simp only [crNF, List.getD_cons_succ, List.getD_cons_zero, gO_true, gH_true, gS_true, bO_some]
      exact ⟨rfl, (hp3_u (by omega) (by omega) (by omega)).symm⟩
    · simp only [crNF, List.getD_cons_succ, List.getD_cons_zero, gO_true, gH_true, gS_true, bO_some]
      exact ⟨rfl, (hp3_u (by omega) (by omega) (by omega)).symm⟩
    · simp only [crNF, List.getD_cons_succ, List.getD_cons_zero, gO_true, gH_true, gS_true, bO_some]
      have v1 := (hn 1 (by simp [crNNeed])).2
      rw [v1]
      exact ⟨rfl, (hp3_u (by omega) (by omega) (by omega)).symm⟩
    · simp only [crNF, List.getD_cons_succ, List.getD_cons_zero, gO_true, gH_true, gS_true, bO_some]
      have v2 := (hn 2 (by simp [crNNeed])).2
      rw [v2]
      exact ⟨rfl, (hp3_u (by omega) (by omega) (by omega)).symm⟩
    · simp only [crNF, List.getD_cons_succ, List.getD_cons_zero, gO_true, gH_true, gS_true, bO_some]
      have v3 := (hn 3 (by simp [crNNeed])).2
      rw [v3]
      have e : ald false 1 (hp3 11 12 15 H (H ++ [some (.cells (encN ⟨o.name, o.ino⟩))]) H12 H2 S) (V 3) = some a := by
        have q12 := n12 hS
        have q15 := n15 q12
        have : (hp3 11 12 15 H (H ++ [some (.cells (encN ⟨o.name, o.ino⟩))]) H12 H2 S)[oi]? = some (some (.cells [a, b])) := by
          unfold hp3
          rw [q15, q12]
          cases S 11 with
          | true => exact hg.obj
          | false => exact h.obj
        show ald false 1 _ (.ptr oi 0) = _
        rw [ald_ptr this]; rfl
      rw [e]
      exact ⟨rfl, (hp3_u (by omega) (by omega) (by omega)).symm⟩
    · simp only [crNF, List.getD_cons_succ, List.getD_cons_zero, gO_true, gH_true, gS_true, bO_some]
      exact ⟨rfl, (hp3_u (by omega) (by omega) (by omega)).symm⟩
    · simp only [crNF, List.getD_cons_succ, List.getD_cons_zero, gO_true, gH_true, gS_true, bO_some]
      exact ⟨rfl, (hp3_u (by omega) (by omega) (by omega)).symm⟩
    · simp only [crNF, List.getD_cons_succ, List.getD_cons_zero, gO_true, gH_true, gS_true, bO_some]
      have v6 := (hn 6 (by simp [crNNeed])).2
      rw [v6]
      have e : ald false 1 (hp3 11 12 15 H (H ++ [some (.cells (encN ⟨o.name, o.ino⟩))]) H12 H2 S) (V 6) = some (.lit (.string (bstr o.name))) := by
        have q11 := n11 7 (by omega) hS
        have q12 := n12' q11
        have q15 := n15 q12
        unfold hp3
        rw [q15, q12, q11]
        show ald false 1 H (.ptr p 5) = _
        rw [ald_ptr hp]; rfl
      rw [e]
      exact ⟨rfl, (hp3_u (by omega) (by omega) (by omega)).symm⟩
    · simp only [crNF, List.getD_cons_succ, List.getD_cons_zero, gO_true, gH_true, gS_true, bO_some]
      exact ⟨rfl, (hp3_u (by omega) (by omega) (by omega)).symm⟩
    · simp only [crNF, List.getD_cons_succ, List.getD_cons_zero, gO_true, gH_true, gS_true, bO_some]
      have v8 := (hn 8 (by simp [crNNeed])).2
      rw [v8]
      have e : ald false 1 (hp3 11 12 15 H (H ++ [some (.cells (encN ⟨o.name, o.ino⟩))]) H12 H2 S) (V 8) = some (I o.ino) := by
        have q11 := n11 9 (by omega) hS
        have q12 := n12' q11
        have q15 := n15 q12
        unfold hp3
        rw [q15, q12, q11]
        show ald false 1 H (.ptr p 1) = _
        rw [ald_ptr hp]; rfl
      rw [e]
      exact ⟨rfl, (hp3_u (by omega) (by omega) (by omega)).symm⟩
    · simp only [crNF, List.getD_cons_succ, List.getD_cons_zero, gO_true, gH_true, gS_true, bO_some]
      have v7 := (hn 7 (by simp [crNNeed])).2
      have v9 := (hn 9 (by simp [crNNeed])).2
      rw [v7, v9]
      exact ⟨rfl, (hp3_u (by omega) (by omega) (by omega)).symm⟩
    · simp only [crNF, List.getD_cons_succ, List.getD_cons_zero, gO_true, gH_true, gS_true, bO_some]
      have v10 := (hn 10 (by simp [crNNeed])).2
      rw [v10]
      have q12 := n12' hS
      have q15 := n15 q12
      have e : hp3 11 12 15 H (H ++ [some (.cells (encN ⟨o.name, o.ino⟩))]) H12 H2 S = H := by unfold hp3; rw [q15, q12, hS]; rfl
      have e2 : hp3 11 12 15 H (H ++ [some (.cells (encN ⟨o.name, o.ino⟩))]) H12 H2 (upd S 11) = H ++ [some (.cells (encN ⟨o.name, o.ino⟩))] := by unfold hp3; simp [upd, q15, q12]
      rw [e, e2]
      exact ⟨rfl, rfl⟩
    · simp only [crNF, List.getD_cons_succ, List.getD_cons_zero, gO_true, gH_true, gS_true, bO_some]
      have v4 := (hn 4 (by simp [crNNeed])).2
      have v5 := (hn 5 (by simp [crNNeed])).2
      have v11 := (hn 11 (by simp [crNNeed])).2
      rw [v4, v5, v11]
      have q15 := n15 hS
      have e : hp3 11 12 15 H (H ++ [some (.cells (encN ⟨o.name, o.ino⟩))]) H12 H2 S = H ++ [some (.cells (encN ⟨o.name, o.ino⟩))] := by unfold hp3; rw [q15, hS, (hn 11 (by simp [crNNeed])).1]; rfl
      have e2 : hp3 11 12 15 H (H ++ [some (.cells (encN ⟨o.name, o.ino⟩))]) H12 H2 (upd S 12) = H12 := by unfold hp3; simp [upd, q15]
      rw [e, e2]
      exact hc
    · simp only [crNF, List.getD_cons_succ, List.getD_cons_zero, gO_true, gH_true, gS_true, bO_some]
      have v0 := (hn 0 (by simp [crNNeed])).2
      rw [v0]
      exact ⟨rfl, (hp3_u (by omega) (by omega) (by omega)).symm⟩
    · simp only [crNF, List.getD_cons_succ, List.getD_cons_zero, gO_true, gH_true, gS_true, bO_some]
      have v13 := (hn 13 (by simp [crNNeed])).2
      rw [v13]
      exact ⟨rfl, (hp3_u (by omega) (by omega) (by omega)).symm⟩
    · simp only [crNF, List.getD_cons_succ, List.getD_cons_zero, gO_true, gH_true, gS_true, bO_some]
      have v14 := (hn 14 (by simp [crNNeed])).2
      have v12 := (hn 12 (by simp [crNNeed])).2
      rw [v14, v12]
      have e : hp3 11 12 15 H (H ++ [some (.cells (encN ⟨o.name, o.ino⟩))]) H12 H2 S = H12 := by unfold hp3; rw [hS, (hn 12 (by simp [crNNeed])).1]; rfl
      have e3 : hp3 11 12 15 H (H ++ [some (.cells (encN ⟨o.name, o.ino⟩))]) H12 H2 (upd S 15) = H2 := by unfold hp3; simp [upd]
      rw [e, e3]
      show bS (ast 1 H12 (.ptr oi 0) r) _
      rw [e2, bS_some]
      exact ⟨rfl, rfl⟩
  · intro S vals hS
    rw [crNLen, crN_K]
    have : hp3 11 12 15 H (H ++ [some (.cells (encN ⟨o.name, o.ino⟩))]) H12 H2 S = H2 := by unfold hp3; rw [if_pos (hS 15 (by rw [crNLen]; omega)).1]
    rw [this]
    exact hK
def newD (ino : Int) : NdV := ⟨⟨ino, 0, []⟩, nilSl, SV.nil⟩
theorem create_U5 {L oi p k : Nat} {ns : List Nm} {dv : List NdV} {a b bv : AV} {H : AH} {o : OpM} (h : ImH L oi ns dv a b H) (hp : H[p]? = some (some (.cells (opA o bv)))) (hk : k ≤ dv.length) (hn : dv.length ≤ 100000) :
    ∃ r H2, ImH L oi ns (dv.take k ++ newD o.ino :: dv.drop k) a r H2 ∧ FrL L oi H H2 ∧ ∀ K : AV → AH → Prop, K (.tup []) H2 → image_create_U5 (.ptr oi 0) (.ptr p 0) (I k) H K := by
  have g := Grew.app H [some (.cells (encD (newD o.ino)))]
  have hg := h.grew g
  have hpl := (List.getElem?_eq_some_iff.1 hp).1
  obtain ⟨r, H10, hI, hc⟩ := insD_c (x := newD o.ino) (oj := H.length) hg.sb hg.ob hg.cb hk (by omega) (by simp) (fun hh => by have := sliceCells_lt h.sb _ hh; omega)
  obtain ⟨i1, i2, i3, i4, i5, i6⟩ := hI
  have el : (dv.take k ++ newD o.ino :: dv.drop k).length = dv.length + 1 := by simp; omega
  obtain ⟨H2, e2, n1, n2⟩ := hg.newB (ew := dv.take k ++ newD o.ino :: dv.drop k) i3 i4 (by rw [el]; exact i2) i1 (by rw [el]; exact i6) i5
  have hfr : FrL L oi H H2 := by
    have hle := h.len
    exact ⟨Nat.le_trans g.1 n2.1, fun j h5 h6 => (n2.2 j h5 h6).trans (g.2 j (by omega))⟩
  let V : Nat → AV := fun i => ([.ptr oi 0, .ptr oi 0, .ptr oi 0, .ptr oi 1, b, I k, .ptr p 1, I o.ino, .agg (encD (newD o.ino)), .sl H.length 0 1 3 (.ex 1), r, .ptr oi 0, .ptr oi 1, undefA] : List AV).getD i undefA
  refine ⟨r, H2, n1, hfr, fun K hK => crD_acode _ _ _ _ _ ?_⟩
  refine ACode.told2 mixP crDOrd (fun i => crDNeed.getD i []) (fun i => (crDF (.ptr oi 0) (.ptr p 0) (I k)).getD i (fun _ _ _ => False)) V (hp3 9 10 13 H (H ++ [some (.cells (encD (newD o.ino)))]) H10 H2) (crDIs _ _ _) rfl ?_ ?_
  · intro i hi S vals hS cl hn
    rw [crDLen] at hi
    have n12 : S 4 = false → S 10 = false := fun h4 => by
      cases h : S 10 with
      | false => rfl
      | true => have := cl 10 h 4 (by simp [crDNeed]); rw [h4] at this; cases this
    have n15 : S 10 = false → S 13 = false := fun h4 => by
      cases h : S 13 with
      | false => rfl
      | true => have := cl 13 h 10 (by simp [crDNeed]); rw [h4] at this; cases this
    have n12' : S 9 = false → S 10 = false := fun h4 => by
      cases h : S 10 with
      | false => rfl
      | true => have := cl 10 h 9 (by simp [crDNeed]); rw [h4] at this; cases this
    have n11 : S 7 = false → S 9 = false := fun h4 => by
      cases h : S 9 with
      | false => rfl
      | true =>
        have h8 := cl 9 h 8 (by simp [crDNeed])
        have := cl 8 h8 7 (by simp [crDNeed])
        rw [h4] at this; cases this
    have hcase : i = 0 ∨ i = 1 ∨ i = 2 ∨ i = 3 ∨ i = 4 ∨ i = 5 ∨ i = 6 ∨ i = 7 ∨ i = 8 ∨ i = 9 ∨ i = 10 ∨ i = 11 ∨ i = 12 ∨ i = 13 := by omega
    rcases hcase with rfl | rfl | rfl | rfl | rfl | rfl | rfl | rfl | rfl | rfl | rfl | rfl | rfl | rfl
    · simp only [crDF, List.getD_cons_succ, List.getD_cons_zero, gO_true, gH_true, gS_true, bO_some]
      exact ⟨rfl, (hp3_u (by omega) (by omega) (by omega)).symm⟩
    · simp only [crDF, List.getD_cons_succ, List.getD_cons_zero, gO_true, gH_true, gS_true, bO_some]
      exact ⟨rfl, (hp3_u (by omega) (by omega) (by omega)).symm⟩
    · simp only [crDF, List.getD_cons_succ, List.getD_cons_zero, gO_true, gH_true, gS_true, bO_some]
      have v1 := (hn 1 (by simp [crDNeed])).2
      rw [v1]
      exact ⟨rfl, (hp3_u (by omega) (by omega) (by omega)).symm⟩
    · simp only [crDF, List.getD_cons_succ, List.getD_cons_zero, gO_true, gH_true, gS_true, bO_some]
      have v2 := (hn 2 (by simp [crDNeed])).2
      rw [v2]
      exact ⟨rfl, (hp3_u (by omega) (by omega) (by omega)).symm⟩
    · simp only [crDF, List.getD_cons_succ, List.getD_cons_zero, gO_true, gH_true, gS_true, bO_some]
      have v3 := (hn 3 (by simp [crDNeed])).2
      rw [v3]
      have e : ald false 1 (hp3 9 10 13 H (H ++ [some (.cells (encD (newD o.ino)))]) H10 H2 S) (V 3) = some b := by
        have q12 := n12 hS
        have q15 := n15 q12
        have : (hp3 9 10 13 H (H ++ [some (.cells (encD (newD o.ino)))]) H10 H2 S)[oi]? = some (some (.cells [a, b])) := by
          unfold hp3
          rw [q15, q12]
          cases S 9 with
          | true => exact hg.obj
          | false => exact h.obj
        show ald false 1 _ (.ptr oi 1) = _
        rw [ald_ptr this]; rfl
      rw [e]
      exact ⟨rfl, (hp3_u (by omega) (by omega) (by omega)).symm⟩
    · simp only [crDF, List.getD_cons_succ, List.getD_cons_zero, gO_true, gH_true, gS_true, bO_some]
      exact ⟨rfl, (hp3_u (by omega) (by omega) (by omega)).symm⟩
    · simp only [crDF, List.getD_cons_succ, List.getD_cons_zero, gO_true, gH_true, gS_true, bO_some]
      exact ⟨rfl, (hp3_u (by omega) (by omega) (by omega)).symm⟩
    · simp only [crDF, List.getD_cons_succ, List.getD_cons_zero, gO_true, gH_true, gS_true, bO_some]
      have v6 := (hn 6 (by simp [crDNeed])).2
      rw [v6]
      have e : ald false 1 (hp3 9 10 13 H (H ++ [some (.cells (encD (newD o.ino)))]) H10 H2 S) (V 6) = some (I o.ino) := by
        have q11 := n11 hS
        have q12 := n12' q11
        have q15 := n15 q12
        unfold hp3
        rw [q15, q12, q11]
        show ald false 1 H (.ptr p 1) = _
        rw [ald_ptr hp]; rfl
      rw [e]
      exact ⟨rfl, (hp3_u (by omega) (by omega) (by omega)).symm⟩
    · simp only [crDF, List.getD_cons_succ, List.getD_cons_zero, gO_true, gH_true, gS_true, bO_some]
      have v7 := (hn 7 (by simp [crDNeed])).2
      rw [v7]
      exact ⟨rfl, (hp3_u (by omega) (by omega) (by omega)).symm⟩
    · simp only [crDF, List.getD_cons_succ, List.getD_cons_zero, gO_true, gH_true, gS_true, bO_some]
      have v8 := (hn 8 (by simp [crDNeed])).2
      rw [v8]
      have q12 := n12' hS
      have q15 := n15 q12
      have e : hp3 9 10 13 H (H ++ [some (.cells (encD (newD o.ino)))]) H10 H2 S = H := by unfold hp3; rw [q15, q12, hS]; rfl
      have e2 : hp3 9 10 13 H (H ++ [some (.cells (encD (newD o.ino)))]) H10 H2 (upd S 9) = H ++ [some (.cells (encD (newD o.ino)))] := by unfold hp3; simp [upd, q15, q12]
      rw [e, e2]
      exact ⟨rfl, rfl⟩
    · simp only [crDF, List.getD_cons_succ, List.getD_cons_zero, gO_true, gH_true, gS_true, bO_some]
      have v4 := (hn 4 (by simp [crDNeed])).2
      have v5 := (hn 5 (by simp [crDNeed])).2
      have v9 := (hn 9 (by simp [crDNeed])).2
      rw [v4, v5, v9]
      have q15 := n15 hS
      have e : hp3 9 10 13 H (H ++ [some (.cells (encD (newD o.ino)))]) H10 H2 S = H ++ [some (.cells (encD (newD o.ino)))] := by unfold hp3; rw [q15, hS, (hn 9 (by simp [crDNeed])).1]; rfl
      have e2 : hp3 9 10 13 H (H ++ [some (.cells (encD (newD o.ino)))]) H10 H2 (upd S 10) = H10 := by unfold hp3; simp [upd, q15]
      rw [e, e2]
      exact hc
    · simp only [crDF, List.getD_cons_succ, List.getD_cons_zero, gO_true, gH_true, gS_true, bO_some]
      have v0 := (hn 0 (by simp [crDNeed])).2
      rw [v0]
      exact ⟨rfl, (hp3_u (by omega) (by omega) (by omega)).symm⟩
    · simp only [crDF, List.getD_cons_succ, List.getD_cons_zero, gO_true, gH_true, gS_true, bO_some]
      have v11 := (hn 11 (by simp [crDNeed])).2
      rw [v11]
      exact ⟨rfl, (hp3_u (by omega) (by omega) (by omega)).symm⟩
    · simp only [crDF, List.getD_cons_succ, List.getD_cons_zero, gO_true, gH_true, gS_true, bO_some]
      have v12 := (hn 12 (by simp [crDNeed])).2
      have v10 := (hn 10 (by simp [crDNeed])).2
      rw [v12, v10]
      have e : hp3 9 10 13 H (H ++ [some (.cells (encD (newD o.ino)))]) H10 H2 S = H10 := by unfold hp3; rw [hS, (hn 10 (by simp [crDNeed])).1]; rfl
      have e3 : hp3 9 10 13 H (H ++ [some (.cells (encD (newD o.ino)))]) H10 H2 (upd S 13) = H2 := by unfold hp3; simp [upd]
      rw [e, e3]
      show bS (ast 1 H10 (.ptr oi 1) r) _
      rw [e2, bS_some]
      exact ⟨rfl, rfl⟩
  · intro S vals hS
    rw [crDLen, crD_K]
    have : hp3 9 10 13 H (H ++ [some (.cells (encD (newD o.ino)))]) H10 H2 S = H2 := by unfold hp3; rw [if_pos (hS 13 (by rw [crDLen]; omega)).1]
    rw [this]
    exact hK
end Go.Proofs.Ytpnfdibgfichmaa.Av
end
/-! YtpnfdibgfichmaaAvIw -/
section
/- Chapter 12: files that are made, and removed; names that are changed. -/
set_option linter.unusedVariables false
set_option linter.unusedSimpArgs false
set_option maxRecDepth 100000
namespace Go.Proofs.Ytpnfdibgfichmaa.Av
open Go Go.RowKit

/-- What a call leaves of an image of one's own. -/
def ImP (L oi : Nat) (H : AH) (ns : List Nm) (dv : List NdV) (r : AV) (H' : AH) : Prop := r = .tup [] ∧ ∃ a b, ImH L oi ns dv a b H' ∧ FrL L oi H H'
def creOk (ns : List Nm) (dv : List NdV) (o : OpM) : Prop := ¬ hasK Nm.name ns o.name ∧ ¬ hasK NdV.ino dv o.ino ∧ mayN o.name ∧ 1 ≤ o.ino ∧ o.ino ≤ 4611686018427387904 ∧ ns.length < 16
instance (ns : List Nm) (dv : List NdV) (o : OpM) : Decidable (creOk ns dv o) := by unfold creOk; infer_instance
def creNs (ns : List Nm) (dv : List NdV) (o : OpM) : List Nm := if creOk ns dv o then insK cmpN Nm.name ns ⟨o.name, o.ino⟩ else ns
def creDv (ns : List Nm) (dv : List NdV) (o : OpM) : List NdV := if creOk ns dv o then insK cmpI NdV.ino dv (newD o.ino) else dv
theorem op_new {L oi : Nat} {ns : List Nm} {dv : List NdV} {a b : AV} {H : AH} (h : ImH L oi ns dv a b H) (o : OpM) {bv : AV} (hb : oneA bv = true) : ∃ H1, anew H (.agg (opA o bv)) = some (.ptr H.length 0, H1) ∧ H1[H.length]? = some (some (.cells (opA o bv))) ∧ ImH L oi ns dv a b H1 ∧ FrL L oi H H1 := by
  have g := Grew.app H [some (.cells (opA o bv))]
  have hle := h.len
  exact ⟨_, by simp [opA, hb], by simp, h.grew g, g.1, fun j h1 h2 => g.2 j (by omega)⟩
theorem create_w {L oi : Nat} {ns : List Nm} {dv : List NdV} {a b bv : AV} {H H1 : AH} {o : OpM} (h : ImH L oi ns dv a b H) (e1 : anew H (.agg (opA o bv)) = some (.ptr H.length 0, H1)) (hp : H1[H.length]? = some (some (.cells (opA o bv)))) (h1 : ImH L oi ns dv a b H1)
    (hs : srtK cmpN Nm.name ns) (hd : srtK cmpI NdV.ino dv) (hn : ns.length ≤ 100000) (hm : dv.length ≤ 100000) (hnm : o.name.length ≤ 1000000000) {K : AV → AH → Prop} (hno : ¬ creOk ns dv o → K (.tup []) H1) (hyes : creOk ns dv o → image_create_U4 (.ptr oi 0) (.ptr H.length 0) (I (posK cmpN Nm.name ns o.name)) (I (posK cmpI NdV.ino dv o.ino)) H1 K) :
    image_create (.ptr oi 0) (.agg (opA o bv)) H K := by
  obtain ⟨Ra, Rb, sa, sb, fz⟩ := h1.lend
  have c0 := h1.obj
  unfold image_create
  simp only [e1, bH_some]
  have b0 : rdCells true 2 [a, b] 0 = some (.agg [a, b]) := rfl
  simp [hp, c0, b0, opA]
  refine bC_of (PCall.lend (FZs.cons fz (FZs.cons (FZ.lit _) FZs.nil)) rfl (named_p sa sb hs (by omega) o.name)).call ?_
  simp [hp, c0, b0, opA]
  refine bC_of (PCall.lend (FZs.cons fz (FZs.cons (FZ.lit _) FZs.nil)) rfl (node_p sa sb hd (by omega) o.ino)).call ?_
  by_cases q1 : hasK Nm.name ns o.name
  · simp [q1]
    exact hno fun hc => hc.1 q1
  · by_cases q2 : hasK NdV.ino dv o.ino
    · simp [q1, q2]
      exact hno fun hc => hc.2.1 q2
    · simp [q1, q2, hp, opA]
      refine bP_pure (MayName_p (s := o.name) (by omega)) ?_
      by_cases q3 : mayN o.name
      · by_cases q4 : o.ino < 1
        · simp [q3, q4, hp, opA]
          exact hno fun hc => by have := hc.2.2.2.1; omega
        · by_cases q5 : 4611686018427387904 < o.ino
          · simp [q3, q4, q5, hp, opA]
            exact hno fun hc => by have := hc.2.2.2.2.1; omega
          · have ln := alnS_spec h1.sa
            by_cases q6 : 16 ≤ ns.length
            · have q6' : (16 : Int) ≤ ns.length := by omega
              simp [q3, q4, q5, hp, opA, c0, ln, q6']
              exact hno fun hc => by have := hc.2.2.2.2.2; omega
            · have q6' : ¬ (16 : Int) ≤ ns.length := by omega
              simp [q3, q4, q5, hp, opA, c0, ln, q6']
              exact hyes ⟨q1, q2, q3, by omega, by omega, by omega⟩
      · simp [q3]
        exact hno fun hc => q3 hc.2.2.1
theorem create_c {L oi : Nat} {ns : List Nm} {dv : List NdV} {a b bv : AV} {H : AH} {o : OpM} (h : ImH L oi ns dv a b H) (hs : srtK cmpN Nm.name ns) (hd : srtK cmpI NdV.ino dv) (hb : oneA bv = true) (hn : ns.length ≤ 100000) (hm : dv.length ≤ 100000) (hnm : o.name.length ≤ 1000000000) :
    ∃ r H', ImP L oi H (creNs ns dv o) (creDv ns dv o) r H' ∧ BCall Try.prog 38 [.ptr oi 0, .agg (opA o bv)] H r H' := by
  obtain ⟨H1, e1, hp, h1, f1⟩ := op_new h o hb
  have hpl : H.length ≠ oi := by have := (List.getElem?_eq_some_iff.1 h.obj).1; omega
  have hpa : H.length ∉ idS a := fun hh => by have := sliceCells_lt h.sa _ hh; omega
  by_cases hc : creOk ns dv o
  · obtain ⟨r, H2, h2, f2, g2, w2⟩ := create_U4 h1 hp hpl hpa (posK_le (c := cmpN) (key := Nm.name) ns o.name) hn
    obtain ⟨r2, H3, h3, f3, w3⟩ := create_U5 h2 (g2.trans hp) (posK_le (c := cmpI) (key := NdV.ino) dv o.ino) hm
    refine ⟨.tup [], H3, ⟨rfl, r, r2, ?_, f1.trans (f2.trans f3)⟩, image_create_ok (create_w h e1 hp h1 hs hd hn hm hnm (fun q => absurd hc q) fun _ => w2 _ _ ?_)⟩
    · unfold creNs creDv
      rw [if_pos hc, if_pos hc]; exact h3
    · rw [image_create_J5_eq]
      unfold image_create_J5_b
      exact w3 _ ⟨rfl, rfl⟩
  · refine ⟨.tup [], H1, ⟨rfl, a, b, ?_, f1⟩, image_create_ok (create_w h e1 hp h1 hs hd hn hm hnm (fun _ => ⟨rfl, rfl⟩) fun q => absurd q hc)⟩
    unfold creNs creDv
    rw [if_neg hc, if_neg hc]; exact h1
/-! removed -/
def remNs (ns : List Nm) (s : List UInt8) : List Nm := if hasK Nm.name ns s then delK cmpN Nm.name ns s else ns
def remDv (ns : List Nm) (dv : List NdV) (s : List UInt8) : List NdV := if hasK Nm.name ns s then delK cmpI NdV.ino dv (nameI ns s) else dv
theorem remove_c {L oi : Nat} {ns : List Nm} {dv : List NdV} {a b : AV} {H : AH} {s : List UInt8} (h : ImH L oi ns dv a b H) (hs : srtK cmpN Nm.name ns) (hd : srtK cmpI NdV.ino dv) (hx : ∀ x ∈ ns, hasK NdV.ino dv x.ino) (hn : ns.length ≤ 100000) (hm : dv.length ≤ 100000) :
    ∃ r H', ImP L oi H (remNs ns s) (remDv ns dv s) r H' ∧ BCall Try.prog 41 [.ptr oi 0, S (bstr s)] H r H' := image_remove_ok (by
  obtain ⟨Ra, Rb, sa, sb, fz⟩ := h.lend
  have c0 := h.obj
  unfold image_remove
  have b0 : rdCells true 2 [a, b] 0 = some (.agg [a, b]) := rfl
  simp [c0, b0]
  refine bC_of (PCall.lend (FZs.cons fz (FZs.cons (FZ.lit _) FZs.nil)) rfl (named_p sa sb hs (by omega) s)).call ?_
  by_cases q : hasK Nm.name ns s
  · obtain ⟨x, hx1, hx2, hx3⟩ := posK_atK koN hs q
    obtain ⟨o, off, cells, u1, u2, u3, u4, u5, -⟩ := own_at encN_len (by omega) h.sa h.oa hx1
    have u51 := u5 1 (by omega)
    have hk := hx x (List.mem_of_getElem? hx1)
    have hkl := hasK_pos koI hd hk
    have hpl := (List.getElem?_eq_some_iff.1 hx1).1
    have e1 : remNs ns s = delK cmpN Nm.name ns s := if_pos q
    have e2 : remDv ns dv s = delK cmpI NdV.ino dv x.ino := by unfold remDv nameI; rw [if_pos q, hx2]
    simp [q, c0, b0, u1, u3, u51, encN]
    refine bC_of (PCall.lend (FZs.cons fz (FZs.cons (FZ.lit _) FZs.nil)) rfl (node_p sa sb hd (by omega) x.ino)).call ?_
    simp [c0, abI_add (a := (posK cmpN Nm.name ns s : Nat)) (b := 1) (by omega) (by omega)]
    obtain ⟨r1, H2, ⟨d1, d2, d3, d4, d5, d6⟩, d7⟩ := delN_c h.sa h.oa h.ca hpl (by omega)
    refine bC_of d7 ?_
    have l1 := delK_len (c := cmpN) (key := Nm.name) (k := s) hpl
    obtain ⟨H3, e3, n1, n2⟩ := h.newA (ms := delK cmpN Nm.name ns s) (Nat.le_of_eq d3.symm) (fun i _ hi => d4 i hi) (by rw [show (delK cmpN Nm.name ns s).length = ns.length - 1 by omega]; exact d2) d1 (by rw [show (delK cmpN Nm.name ns s).length = ns.length - 1 by omega]; exact d6) (fun i hi => .inl (d5 ▸ hi))
    have c3 := n1.obj
    simp [e3, c3, abI_add (a := (posK cmpI NdV.ino dv x.ino : Nat)) (b := 1) (by omega) (by omega)]
    obtain ⟨r2, H4, ⟨g1, g2, g3, g4, g5, g6⟩, g7⟩ := delD_c n1.sb n1.ob n1.cb hkl (by omega)
    refine bC_of g7 ?_
    have l2 := delK_len (c := cmpI) (key := NdV.ino) (k := x.ino) hkl
    obtain ⟨H5, e5, m1, m2⟩ := n1.newB (ew := delK cmpI NdV.ino dv x.ino) (Nat.le_of_eq g3.symm) (fun i _ hi => g4 i hi) (by rw [show (delK cmpI NdV.ino dv x.ino).length = dv.length - 1 by omega]; exact g2) g1 (by rw [show (delK cmpI NdV.ino dv x.ino).length = dv.length - 1 by omega]; exact g6) (fun i hi => .inl (g5 ▸ hi))
    simp [e5]
    rw [e1, e2]
    exact ⟨rfl, _, _, m1, n2.trans m2⟩
  · simp [q]
    refine ⟨rfl, a, b, ?_, FrL.refl _ _ _⟩
    unfold remNs remDv
    rw [if_neg q, if_neg q]; exact h)
end Go.Proofs.Ytpnfdibgfichmaa.Av
end
/-! YtpnfdibgfichmaaAvExtA -/
section
/- Chapter 11: room, and the document's own. -/
set_option linter.unusedVariables false
set_option linter.unusedSimpArgs false
set_option maxRecDepth 100000
namespace Go.Proofs.Ytpnfdibgfichmaa.Av
open Go Go.RowKit
def maySp (pos n : Int) : Prop := 0 ≤ pos ∧ 1 ≤ n ∧ n ≤ 1099511627776 ∧ pos ≤ 1099511627776 - n
instance (pos n : Int) : Decidable (maySp pos n) := by unfold maySp; infer_instance
theorem extent_span_p (pos n : Int) : BPure Try.prog 96 [I pos, I n] (B (decide (maySp pos n))) := BPure.flat fun H => extent_span_ok (by
  unfold extent_span maySp
  by_cases h1 : 0 ≤ pos
  · by_cases h2 : 1 ≤ n
    · by_cases h3 : n ≤ 1099511627776
      · simp [h1, h2, h3, abI_sub (a := 1099511627776) (b := n) (by omega) (by omega)]
      · simp [h1, h2, h3]
    · simp [h1, h2]
  · simp [h1])
theorem extent_Allocate_p {size : Int} {l : List Ext} {v : AV} (hv : SV encE 9 l v) (hl : l.length ≤ 1000000) (pos n : Int) (keep : Bool) :
    ∃ R, SV encE 9 (cL (allocC (size, l) pos n keep)) R ∧ BPure Try.prog 73 [.agg [I size, v], I pos, I n, B keep] (.tup [.agg [I (cS (allocC (size, l) pos n keep)), R], B (allocC (size, l) pos n keep).isSome]) := by
  refine BPure.cont (by simp [noIdss, noIds, hv.1]) (extent_Allocate_ok ?_)
  unfold extent_Allocate
  simp [oneA_sv hv, rdCells]
  refine bP_pure (extent_May_p hv (by omega)) ?_
  by_cases h1 : mayC size l
  · simp [h1]
    refine bP_pure (extent_span_p pos n) ?_
    by_cases h2 : maySp pos n
    · by_cases h3 : 32768 < n
      · have hn : allocC (size, l) pos n keep = none := if_neg (fun h => by omega)
        simp [h2, h3, ast]
        exact ContK.none hn
      · obtain ⟨g1, g2, g3, g4⟩ := h2
        have hw : allocC (size, l) pos n keep = some (if keep then size else max size (pos + n), allocL l pos n) := if_pos ⟨h1, g1, g2, by omega, g4⟩
        simp [show maySp pos n from ⟨g1, g2, g3, g4⟩, h3]
        obtain ⟨r, H2, ⟨w, rfl, a2, a3, a4, a5⟩, a1⟩ := copied_c (size := size) (hv.2 [some (.cells [I size, v]), some (.cells [I 0, nilSl])]) (oneA_sv hv) (by omega)
        refine bC_of a1 ?_
        have c0 := a4.cells (o := 0) (x := some (.cells [I size, v])) rfl
        have c1 := a4.cells (o := 1) (x := some (.cells [I 0, nilSl])) rfl
        have hl2 := a4.1
        simp only [List.length_cons, List.length_nil] at hl2
        have hwo := oneA_owned a2
        have id0 : ∀ j, j < 2 → j ∉ idS w := fun j hj h => by have := a5 j h; simp at this; omega
        rw [ast_ptr (n := 2) (off := 0) (x := .agg [I size, w]) (xs := [I size, w]) (by simp [hwo]) c0 rfl (by simp)]
        simp [abI_quo (a := pos) (b := 8) (by omega) (by omega) (by omega)]
        have hs0 := okL_srt h1.2.2
        have hN : allocN pos n ≤ 4098 := by unfold allocN; omega
        refine extent_Allocate_L7_rule (fun m x1 x2 x3 x4 x8 x10 H => ∃ (d : Nat) (w : AV), d + m = allocN pos n ∧ x1 = I pos ∧ x2 = I n ∧ x3 = B keep ∧ x4 = .ptr 0 0 ∧ x8 = .ptr 1 0 ∧ x10 = I (pos / 8 + d) ∧ H[0]? = some (some (.cells [I size, w])) ∧ H[1]? = some (some (.cells [I 0, nilSl])) ∧
          sliceCells H 9 w = some ((needs l (pos / 8) d).flatMap encE, (needs l (pos / 8) d).length) ∧ ownedS w = true ∧ (∀ j, j < 2 → j ∉ idS w)) ?_ (allocN pos n)
          ⟨0, w, by simp, rfl, rfl, rfl, rfl, rfl, by simp, List.getElem?_set_self (by omega), (List.getElem?_set_ne (by omega)).trans c1, ?_, a2, id0⟩
        · rintro m x1 x2 x3 x4 x8 x10 H R hR ⟨d, w, hdn, rfl, rfl, rfl, rfl, rfl, rfl, k0, k1, kw, ko, kid⟩
          unfold extent_Allocate_L7_b
          have hH0 := (List.getElem?_eq_some_iff.1 k0).1
          have hH1 := (List.getElem?_eq_some_iff.1 k1).1
          simp [abI_add (a := pos) (b := n) (by omega) (by omega), abI_sub (a := pos + n) (b := 1) (by omega) (by omega), abI_quo (a := pos + n - 1) (b := 8) (by omega) (by omega) (by omega)]
          by_cases hd : d < allocN pos n
          · have hc : pos / 8 + (d : Int) ≤ (pos + n - 1) / 8 := by unfold allocN at hd; omega
            have hws := ns_srt (k := d) hs0 (pos / 8)
            have hlen := ns_len (k := d) (l := l) (no := pos / 8)
            obtain ⟨H11, ⟨w', q1, q2, q3, q4, q5, q6, q7⟩, q8⟩ := extent_need_c' (no := pos / 8 + d) k0 kw ko (kid 0 (by omega)) hws (by omega)
            simp [hc]
            refine bC_of q8 ?_
            have hid' : ∀ i, i < H.length → i ∉ idS w → i ∉ idS w' := fun i h1 h2 h3 => (q7 i h3).elim h2 (fun h => by omega)
            simp [abI_add (a := pos / 8 + d) (b := 1) (by omega) (by omega)]
            refine hR (m - 1) _ _ _ _ _ _ _ (by omega) ⟨d + 1, w', by omega, rfl, rfl, rfl, rfl, rfl, by rw [show pos / 8 + (d : Int) + 1 = pos / 8 + ((d + 1 : Nat) : Int) by omega], q1, ?_, ?_, q3, fun i hi => hid' i (by omega) (kid i hi)⟩
            · rw [q6 1 hH1 (by omega) (kid 1 (by omega))]; exact k1
            · rw [ns_succ]; exact q2
          · have hd' : d = allocN pos n := by omega
            subst hd'
            have hc : ¬ pos / 8 + ((allocN pos n : Nat) : Int) ≤ (pos + n - 1) / 8 := by unfold allocN; omega
            have hko := oneA_owned ko
            have tail : ∀ s H2, H2.length = H.length → H2[0]? = some (some (.cells [I s, w])) → H2[1]? = some (some (.cells [I 0, nilSl])) → sliceCells H2 9 w = some ((allocL l pos n).flatMap encE, (allocL l pos n).length) → allocC (size, l) pos n keep = some (s, allocL l pos n) → extent_Allocate_J11 (.ptr 0 0) (.ptr 1 0) H2 (ContK (allocC (size, l) pos n keep)) := by
              intro s H2 hl2 e0 e1 e2 e3
              rw [extent_Allocate_J11_eq]
              unfold extent_Allocate_J11_b
              simp [-ald_ptr', ald_ptr e0, rdCells]
              rw [ast_ptr (n := 2) (off := 0) (xs := [I s, w]) (cs := [I 0, nilSl]) (by simp [hko]) e1 rfl (by simp)]
              simp [show 1 < H2.length by omega, rdCells]
              exact ContK.some e3 (sliceCells_keep e2 fun i hi => by
                have h2 : 2 ≤ i := Nat.le_of_not_lt fun h => kid i h hi
                rw [List.getElem?_set_ne (by omega)])
            simp [hc]
            cases keep with
            | true =>
              simp
              exact tail size H rfl k0 k1 kw hw
            | false =>
              have hmx : max (pos + n) size = max size (pos + n) := by omega
              simp [k0, abI_add (a := pos) (b := n) (by omega) (by omega), hmx]
              rw [ast_ptr (n := 1) (off := 0) (xs := [I (max size (pos + n))]) (cs := [I size, w]) rfl k0 rfl (by simp)]
              simp
              refine tail _ _ (by simp) (List.getElem?_set_self hH0) ((List.getElem?_set_ne (by omega)).trans k1) (sliceCells_keep kw fun i hi => by
                have h2 : 2 ≤ i := Nat.le_of_not_lt fun h => kid i h hi
                rw [List.getElem?_set_ne (by omega)]) hw
        · exact sliceCells_keep a3 fun i hi => by
            have h2 : 2 ≤ i := Nat.le_of_not_lt fun h => id0 i h hi
            rw [List.getElem?_set_ne (by omega)]
    · have hn : allocC (size, l) pos n keep = none := if_neg (fun h => h2 ⟨h.2.1, h.2.2.1, by omega, h.2.2.2.2⟩)
      simp [h2, ast]
      exact ContK.none hn
  · have hn : allocC (size, l) pos n keep = none := if_neg (fun h => h1 h.1)
    simp [h1, ast]
    exact ContK.none hn
theorem ref_AllocateContent_p {size : Int} {l : List Ext} {v : AV} (hv : SV encE 9 l v) (hl : l.length ≤ 1000000) (pos n : Int) (keep : Bool) :
    ∃ R, SV encE 9 (cL (allocC (size, l) pos n keep)) R ∧ BPure Try.prog 79 [.agg [I size, v], I pos, I n, B keep] (.tup [.agg [I (cS (allocC (size, l) pos n keep)), R], B (allocC (size, l) pos n keep).isSome]) := by
  refine BPure.cont (by simp [noIdss, noIds, hv.1]) (salvorref11_AllocateContent_ok ?_)
  unfold salvorref11_AllocateContent
  simp [oneA_sv hv, rdCells]
  refine bP_pure (ref_MayContent_p hv (by omega)) ?_
  by_cases h1 : mayC size l
  · by_cases h2 : maySp pos n
    · by_cases h3 : 32768 < n
      · have hn : allocC (size, l) pos n keep = none := if_neg (fun h => by omega)
        obtain ⟨g1, g2, g3, g4⟩ := h2
        simp [h1, show ¬ pos < 0 by omega, show ¬ n < 1 by omega, h3, ast]
        exact ContK.none hn
      · obtain ⟨g1, g2, g3, g4⟩ := h2
        have hw : allocC (size, l) pos n keep = some (if keep then size else max size (pos + n), allocL l pos n) := if_pos ⟨h1, g1, g2, by omega, g4⟩
        simp [h1, show ¬ pos < 0 by omega, show ¬ n < 1 by omega, h3, abI_sub (a := 1099511627776) (b := n) (by omega) (by omega), show ¬ 1099511627776 - n < pos by omega]
        obtain ⟨r, H2, ⟨w, rfl, a2, a3, a4, a5⟩, a1⟩ := ref_copyOf_c (size := size) (hv.2 [some (.cells [I size, v]), some (.cells [I 0, nilSl])]) (oneA_sv hv) (by omega)
        refine bC_of a1 ?_
        have c0 := a4.cells (o := 0) (x := some (.cells [I size, v])) rfl
        have c1 := a4.cells (o := 1) (x := some (.cells [I 0, nilSl])) rfl
        have hl2 := a4.1
        simp only [List.length_cons, List.length_nil] at hl2
        have hwo := oneA_owned a2
        have id0 : ∀ j, j < 2 → j ∉ idS w := fun j hj h => by have := a5 j h; simp at this; omega
        rw [ast_ptr (n := 2) (off := 0) (x := .agg [I size, w]) (xs := [I size, w]) (by simp [hwo]) c0 rfl (by simp)]
        simp [abI_quo (a := pos) (b := 8) (by omega) (by omega) (by omega)]
        have hs0 := okL_srt h1.2.2
        have hN : allocN pos n ≤ 4098 := by unfold allocN; omega
        refine salvorref11_AllocateContent_L7_rule (fun m x1 x2 x3 x4 x8 x10 H => ∃ (d : Nat) (w : AV), d + m = allocN pos n ∧ x1 = I pos ∧ x2 = I n ∧ x3 = B keep ∧ x4 = .ptr 0 0 ∧ x8 = .ptr 1 0 ∧ x10 = I (pos / 8 + d) ∧ H[0]? = some (some (.cells [I size, w])) ∧ H[1]? = some (some (.cells [I 0, nilSl])) ∧
          sliceCells H 9 w = some ((needs l (pos / 8) d).flatMap encE, (needs l (pos / 8) d).length) ∧ ownedS w = true ∧ (∀ j, j < 2 → j ∉ idS w)) ?_ (allocN pos n)
          ⟨0, w, by simp, rfl, rfl, rfl, rfl, rfl, by simp, List.getElem?_set_self (by omega), (List.getElem?_set_ne (by omega)).trans c1, ?_, a2, id0⟩
        · rintro m x1 x2 x3 x4 x8 x10 H R hR ⟨d, w, hdn, rfl, rfl, rfl, rfl, rfl, rfl, k0, k1, kw, ko, kid⟩
          unfold salvorref11_AllocateContent_L7_b
          have hH0 := (List.getElem?_eq_some_iff.1 k0).1
          have hH1 := (List.getElem?_eq_some_iff.1 k1).1
          have hub : allocN pos n = ((pos + n - 1) / 8 - pos / 8 + 1).toNat := rfl
          simp [abI_add (a := pos) (b := n) (by omega) (by omega), abI_mul (a := pos / 8 + d) (b := 8) (by omega) (by omega)]
          by_cases hd : d < allocN pos n
          · have hc : (pos / 8 + (d : Int)) * 8 < pos + n := by unfold allocN at hd; omega
            have hws := ns_srt (k := d) hs0 (pos / 8)
            have hlen := ns_len (k := d) (l := l) (no := pos / 8)
            obtain ⟨H11, ⟨w', q1, q2, q3, q4, q5, q6, q7⟩, q8⟩ := ref_need_c' (no := pos / 8 + d) k0 kw ko (kid 0 (by omega)) hws (by omega)
            simp [hc]
            refine bC_of q8 ?_
            have hid' : ∀ i, i < H.length → i ∉ idS w → i ∉ idS w' := fun i h1 h2 h3 => (q7 i h3).elim h2 (fun h => by omega)
            simp [abI_add (a := pos / 8 + d) (b := 1) (by omega) (by omega)]
            refine hR (m - 1) _ _ _ _ _ _ _ (by omega) ⟨d + 1, w', by omega, rfl, rfl, rfl, rfl, rfl, by rw [show pos / 8 + (d : Int) + 1 = pos / 8 + ((d + 1 : Nat) : Int) by omega], q1, ?_, ?_, q3, fun i hi => hid' i (by omega) (kid i hi)⟩
            · rw [q6 1 hH1 (by omega) (kid 1 (by omega))]; exact k1
            · rw [ns_succ]; exact q2
          · have hd' : d = allocN pos n := by omega
            subst hd'
            have hc : ¬ (pos / 8 + ((allocN pos n : Nat) : Int)) * 8 < pos + n := by unfold allocN; omega
            have hko := oneA_owned ko
            have tail : ∀ s H2, H2.length = H.length → H2[0]? = some (some (.cells [I s, w])) → H2[1]? = some (some (.cells [I 0, nilSl])) → sliceCells H2 9 w = some ((allocL l pos n).flatMap encE, (allocL l pos n).length) → allocC (size, l) pos n keep = some (s, allocL l pos n) → salvorref11_AllocateContent_J11 (.ptr 0 0) (.ptr 1 0) H2 (ContK (allocC (size, l) pos n keep)) := by
              intro s H2 hl2 e0 e1 e2 e3
              rw [salvorref11_AllocateContent_J11_eq]
              unfold salvorref11_AllocateContent_J11_b
              simp [-ald_ptr', ald_ptr e0, rdCells]
              rw [ast_ptr (n := 2) (off := 0) (xs := [I s, w]) (cs := [I 0, nilSl]) (by simp [hko]) e1 rfl (by simp)]
              simp [show 1 < H2.length by omega, rdCells]
              exact ContK.some e3 (sliceCells_keep e2 fun i hi => by
                have h2 : 2 ≤ i := Nat.le_of_not_lt fun h => kid i h hi
                rw [List.getElem?_set_ne (by omega)])
            simp [hc]
            cases keep with
            | true =>
              simp
              exact tail size H rfl k0 k1 kw hw
            | false =>
              have hmx : max (pos + n) size = max size (pos + n) := by omega
              simp [k0, abI_add (a := pos) (b := n) (by omega) (by omega), hmx]
              rw [ast_ptr (n := 1) (off := 0) (xs := [I (max size (pos + n))]) (cs := [I size, w]) rfl k0 rfl (by simp)]
              simp
              refine tail _ _ (by simp) (List.getElem?_set_self hH0) ((List.getElem?_set_ne (by omega)).trans k1) (sliceCells_keep kw fun i hi => by
                have h2 : 2 ≤ i := Nat.le_of_not_lt fun h => kid i h hi
                rw [List.getElem?_set_ne (by omega)]) hw
        · exact sliceCells_keep a3 fun i hi => by
            have h2 : 2 ≤ i := Nat.le_of_not_lt fun h => id0 i h hi
            rw [List.getElem?_set_ne (by omega)]
    · have hn : allocC (size, l) pos n keep = none := if_neg (fun h => h2 ⟨h.2.1, h.2.2.1, by omega, h.2.2.2.2⟩)
      by_cases g1 : pos < 0
      · simp [h1, g1, ast]
        exact ContK.none hn
      · by_cases g2 : n < 1
        · simp [h1, g1, g2, ast]
          exact ContK.none hn
        · by_cases g3 : 32768 < n
          · simp [h1, g1, g2, g3, ast]
            exact ContK.none hn
          · have g4 : 1099511627776 - n < pos := Int.lt_of_not_ge fun h => h2 ⟨by omega, by omega, by omega, h⟩
            simp [h1, g1, g2, g3, abI_sub (a := 1099511627776) (b := n) (by omega) (by omega), g4, ast]
            exact ContK.none hn
  · have hn : allocC (size, l) pos n keep = none := if_neg (fun h => h1 h.1)
    simp [h1, ast]
    exact ContK.none hn
end Go.Proofs.Ytpnfdibgfichmaa.Av
end
/-! YtpnfdibgfichmaaAvExtF -/
section
/- Chapter 11: another size, and holes. -/
set_option linter.unusedVariables false
set_option linter.unusedSimpArgs false
set_option maxRecDepth 100000
namespace Go.Proofs.Ytpnfdibgfichmaa.Av
open Go Go.RowKit

theorem FZ.fn {X : AH} {k : Fn} {a b a' b' : List AV} (ha : FZs X a a') (hb : FZs X b b') : FZ X (.fn k a b) (.fn k a' b') := by
  obtain ⟨n0, h0⟩ := ha
  obtain ⟨n1, h1⟩ := hb
  refine ⟨n0 + n1 + 1, fun n hn => ?_⟩
  cases n with
  | zero => omega
  | succ n => simp only [frz, h0 n (by omega), h1 n (by omega)]
theorem FZs.same {X : AH} {vs : List AV} (h : noIdss vs = true) : FZs X vs vs := frz_noIdss X vs h
theorem FZ.ptr {X : AH} {o off : Nat} {cs Rs : List AV} (ho : X[o]? = some (some (.cells cs))) (h : FZs X (cs.drop off) Rs) : FZ X (.ptr o off) (.ip Rs) := by
  obtain ⟨n0, h0⟩ := h
  refine ⟨n0 + 1, fun n hn => ?_⟩
  cases n with
  | zero => omega
  | succ n => simp only [frz, ho, h0 n (by omega)]; rfl
/-- An element is written into a slice of one's own. -/
theorem sl_put {α : Type} {enc : α → List AV} {sz : Nat} (hsz : ∀ x, (enc x).length = sz) (h0 : 0 < sz) {H : AH} {w x : AV} {l : List α} {y : α} {i : Nat} {a : Int} (hw : sliceCells H sz w = some (l.flatMap enc, l.length)) (ho : ownedS w = true) (hi : i < l.length) (ha : a = i) (hx : cellsA x = some (enc y)) :
    ∃ p H', aixS sz w (I a) = some p ∧ ast sz H p x = some H' ∧ H'.length = H.length ∧ (∀ j, j ∉ idS w → H'[j]? = H[j]?) ∧ sliceCells H' sz w = some ((l.set i y).flatMap enc, l.length) := by
  subst ha
  obtain ⟨o, off, cap, cells, rfl, h1, h2, h3⟩ := owned_sl hw ho (by omega)
  have hol := (List.getElem?_eq_some_iff.1 h1).1
  have hmul : i * sz + sz ≤ l.length * sz := by rw [← Nat.succ_mul]; exact Nat.mul_le_mul_right _ hi
  have hy := hsz y
  have hl := List.getElem?_eq_getElem hi
  have hll := hsz (l[i])
  refine ⟨.ptr o (off + i * sz), H.set o (some (.cells (over cells (off + (i * sz + 0)) (enc y)))), ?_, ?_, by simp, fun j hj => List.getElem?_set_ne (by simp [idS] at hj; omega), ?_⟩
  · simp only [aixS, aint]
    rw [if_pos ⟨by omega, by omega⟩]; simp
  · rw [ast_ptr (n := sz) (off := off + i * sz) (xs := enc y) hx h1 hy (by omega), splice_eq _ _ _ (by omega)]; rfl
  · rw [sliceCells_sl (c := over cells (off + (i * sz + 0)) (enc y)) (by simp [hol]) (by rw [over_len (by omega)]; exact h2)]
    rw [over_part h2 (by omega), ← h3, over_flat (q := 0) hsz hl (by unfold over; rw [List.take_zero, List.nil_append, List.drop_of_length_le (by omega), List.append_nil]) (by omega)]

/-! which blocks go -/
def firstI (p : Ext → Bool) (l : List Ext) : Int := match l.findIdx? p with
  | some i => i
  | none => -1
/-- What the deleting asks of a block. -/
def DelP (k : FuncId) (oc : Nat) (c : List AV) (l : List Ext) (p : Ext → Bool) : Prop :=
  goFunc Try.prog k = true ∧ noIdss c = true ∧ ∀ x ∈ l, ∀ (H : AH) (a : AV), (a = .ip c ∨ (a = .ptr oc 0 ∧ H[oc]? = some (some (.cells c)))) → ∃ H', Grew H H' ∧ BCall Try.prog k [.agg (encE x), a] H (B (p x)) H'
theorem ext_IndexFunc_p {k : FuncId} {oc : Nat} {c : List AV} {l : List Ext} {p : Ext → Bool} {R : AV} (hR : SV encE 9 l R) (hl : l.length ≤ 281474976710656) (hd : DelP k oc c l p) :
    BPure Try.prog 107 [R, .fn (.func k) [] [.ip c]] (I (firstI p l)) := BPure.val (by simp [noIdss, noIds, hR.1, hd.2.1]) rfl (slices_IndexFunc_Lapi_Ext_api_Ext_ok (by
  unfold slices_IndexFunc_Lapi_Ext_api_Ext
  simp [hR.len]
  refine slices_IndexFunc_Lapi_Ext_api_Ext_L3_rule (fun n x0 x1 x7 x8 H => ∃ j : Nat, j + n = l.length ∧ x0 = R ∧ x1 = .fn (.func k) [] [.ip c] ∧ x7 = I l.length ∧ x8 = I j ∧ ∀ m x, m < j → l[m]? = some x → p x = false) ?_ l.length ⟨0, by simp, rfl, rfl, rfl, rfl, by simp⟩
  rintro n x0 x1 x7 x8 H R' hR' ⟨j, hj, rfl, rfl, rfl, rfl, hm⟩
  unfold slices_IndexFunc_Lapi_Ext_api_Ext_L3_b
  rcases Nat.lt_or_ge j l.length with hlt | hge
  · have hx := List.getElem?_eq_getElem hlt
    generalize l[j] = y at hx
    obtain ⟨H', g, hc⟩ := hd.2.2 y (List.mem_of_getElem? hx) H (.ip c) (.inl rfl)
    simp [hlt, hR.idx encE_len hx rfl, hd.1]
    refine bC_of hc ?_
    cases hp : p y with
    | true =>
      have : l.findIdx? p = some j := by
        rw [List.findIdx?_eq_some_iff_getElem]
        obtain ⟨h1, h2⟩ := List.getElem?_eq_some_iff.1 hx
        refine ⟨h1, by rw [h2]; exact hp, fun i hi => ?_⟩
        have := hm i _ hi (List.getElem?_eq_getElem (by omega))
        simp [this]
      simp [firstI, this]
    | false =>
      simp [abI_add (a := j) (b := 1) (by omega) (by omega)]
      refine hR' (n - 1) _ _ _ _ _ (by omega) ⟨j + 1, by omega, rfl, rfl, rfl, rfl, fun m x hmj hx2 => ?_⟩
      by_cases h : m = j
      · subst h; rw [hx] at hx2; injection hx2 with hx2; rw [← hx2]; exact hp
      · exact hm m x (by omega) hx2
  · have : l.findIdx? p = none := by
      rw [List.findIdx?_eq_none_iff]
      intro x hx
      obtain ⟨m, hmx⟩ := List.mem_iff_getElem?.1 hx
      exact hm m x (by have := (List.getElem?_eq_some_iff.1 hmx).1; omega) hmx
    have hjl : ¬ j < l.length := by omega
    simp [hjl, firstI, this]))
theorem filter_none {p : Ext → Bool} {l : List Ext} (h : ∀ x ∈ l, p x = false) : l.filter (fun x => !p x) = l := List.filter_eq_self.2 fun x hx => by simp [h x hx]
theorem ext_DeleteFunc_c {H : AH} {v : AV} {l : List Ext} {k : FuncId} {oc : Nat} {c : List AV} {p : Ext → Bool} (hv : sliceCells H 9 v = some (l.flatMap encE, l.length)) (ho : ownedS v = true) (hl : l.length ≤ 1000000) (hc : H[oc]? = some (some (.cells c))) (hne : oc ∉ idS v) (hd : DelP k oc c l p) :
    ∃ r H', (ownedS r = true ∧ sliceCells H' 9 r = some ((l.filter fun x => !p x).flatMap encE, (l.filter fun x => !p x).length) ∧ H.length ≤ H'.length ∧ (∀ i, i < H.length → i ∉ idS v → H'[i]? = H[i]?) ∧ ∀ i ∈ idS r, i ∈ idS v) ∧
      BCall Try.prog 93 [v, .fn (.func k) [] [.ptr oc 0]] H r H' := slices_DeleteFunc_Lapi_Ext_api_Ext_ok (by
  unfold slices_DeleteFunc_Lapi_Ext_api_Ext
  obtain ⟨R, hR, fR⟩ := FZ.sv hv (noIdss_exts l)
  have fc : FZ H (.fn (.func k) [] [.ptr oc 0]) (.fn (.func k) [] [.ip c]) := FZ.fn FZs.nil (FZs.cons (FZ.ptr hc (FZs.same hd.2.1)) FZs.nil)
  refine bP_of (PCall.lend (FZs.cons fR (FZs.cons fc FZs.nil)) rfl (ext_IndexFunc_p hR (by omega) hd)) ?_
  cases hf : l.findIdx? p with
  | none =>
    rw [List.findIdx?_eq_none_iff] at hf
    simp [firstI, List.findIdx?_eq_none_iff.2 hf]
    rw [filter_none hf]
    exact ⟨ho, hv⟩
  | some i0 =>
    obtain ⟨h1, h2, h3⟩ := List.findIdx?_eq_some_iff_getElem.1 hf
    have hoc := (List.getElem?_eq_some_iff.1 hc).1
    simp [firstI, hf, show ¬ (i0 : Int) = -1 by omega, abI_add (a := i0) (b := 1) (by omega) (by omega)]
    have ht : (l.take (i0 + 1)).filter (fun x => !p x) = l.take i0 := by
      rw [List.take_add_one, List.filter_append, List.getElem?_eq_getElem h1]
      simp [h2]
      intro x hx
      obtain ⟨m, hm⟩ := List.mem_iff_getElem?.1 hx
      have hml := (List.getElem?_eq_some_iff.1 hm).1
      rw [List.length_take] at hml
      rw [List.getElem?_take, if_pos (by omega)] at hm
      have := h3 m (by omega)
      obtain ⟨q1, q2⟩ := List.getElem?_eq_some_iff.1 hm
      rw [q2] at this
      simpa using this
    refine slices_DeleteFunc_Lapi_Ext_api_Ext_L7_rule (fun n x0 x1 x5 x6 H' => ∃ (i j : Nat) (M : List Ext), j + n = l.length ∧ i < j ∧ x0 = v ∧ x1 = .fn (.func k) [] [.ptr oc 0] ∧ x5 = I i ∧ x6 = I j ∧ M.length = l.length ∧ M.take i = (l.take j).filter (fun x => !p x) ∧ M.drop j = l.drop j ∧
      sliceCells H' 9 v = some (M.flatMap encE, M.length) ∧ H'[oc]? = some (some (.cells c)) ∧ H.length ≤ H'.length ∧ ∀ i, i < H.length → i ∉ idS v → H'[i]? = H[i]?) ?_ (l.length - (i0 + 1))
      ⟨i0, i0 + 1, l, by omega, by omega, rfl, rfl, rfl, rfl, rfl, ht.symm, rfl, hv, hc, Nat.le_refl _, fun _ _ _ => rfl⟩
    rintro n x0 x1 x5 x6 H' R' hR' ⟨i, j, M, hj, hij, rfl, rfl, rfl, rfl, hM, hMt, hMd, hw, hc', hle, hk⟩
    unfold slices_DeleteFunc_Lapi_Ext_api_Ext_L7_b
    rcases Nat.lt_or_ge j l.length with hlt | hge
    · have hx := List.getElem?_eq_getElem hlt
      generalize l[j] = y at hx
      have hMx : M[j]? = some y := by
        have := congrArg (fun q => q[0]?) hMd
        simp only [List.getElem?_drop, Nat.add_zero] at this
        rw [this]; exact hx
      obtain ⟨q, -, e1, -, -, e2⟩ := sl_no (a := j) hw hMx rfl
      have hoc' := (List.getElem?_eq_some_iff.1 hc').1
      have gA := Grew.app H' [some (.cells (encE y))]
      obtain ⟨H10, g, hcl⟩ := hd.2.2 y (List.mem_of_getElem? hx) (H' ++ [some (.cells (encE y))]) (.ptr oc 0) (.inr ⟨rfl, gA.cells hc'⟩)
      have gB := gA.trans g
      have z := g.cells (o := H'.length) (x := some (.cells (encE y))) (by simp)
      simp [alnS_spec hw, hM, hlt, e1, e2, hd.1, -ald_ptr']
      rw [ast_e (by simp) (by rfl)]
      simp
      refine bC_of hcl ?_
      have hdrop : M.drop (j + 1) = l.drop (j + 1) := by
        have := congrArg (List.drop 1) hMd
        rw [List.drop_drop, List.drop_drop] at this
        exact this
      have hkeepB : ∀ i, i < H.length → i ∉ idS x0 → H10[i]? = H[i]? := fun i h1 h2 => by rw [gB.2 i (by omega), hk i h1 h2]
      cases hp : p y with
      | true =>
        simp
        rw [slices_DeleteFunc_Lapi_Ext_api_Ext_J10_eq]
        unfold slices_DeleteFunc_Lapi_Ext_api_Ext_J10_b
        simp [abI_add (a := j) (b := 1) (by omega) (by omega)]
        refine hR' (n - 1) _ _ _ _ _ (by omega) ⟨i, j + 1, M, by omega, by omega, rfl, rfl, rfl, rfl, hM, ?_, hdrop, gB.slice hw, gB.cells hc', by have := gB.1; omega, hkeepB⟩
        rw [List.take_add_one, List.filter_append, ← hMt, hx]
        simp [hp]
      | false =>
        obtain ⟨q2, H16, f1, f2, f3, f4, f5⟩ := sl_put (x := .agg (encE y)) (y := y) (i := i) (a := i) encE_len (by omega) (gB.slice hw) ho (by omega) rfl (by simp)
        simp [z, f1, f2, abI_add (a := i) (b := 1) (by omega) (by omega)]
        rw [slices_DeleteFunc_Lapi_Ext_api_Ext_J10_eq]
        unfold slices_DeleteFunc_Lapi_Ext_api_Ext_J10_b
        simp [abI_add (a := j) (b := 1) (by omega) (by omega)]
        refine hR' (n - 1) _ _ _ _ _ (by omega) ⟨i + 1, j + 1, M.set i y, by omega, by omega, rfl, rfl, rfl, rfl, by simpa using hM, ?_, ?_, by simpa using f5, ?_, by have := gB.1; omega, fun i h1 h2 => by rw [f4 i h2]; exact hkeepB i h1 h2⟩
        · rw [List.take_add_one (l := l), List.filter_append, ← hMt, hx, List.take_add_one, List.getElem?_set_self (by omega), List.take_set_of_le (Nat.le_refl _)]
          simp [hp]
        · rw [List.drop_set_of_lt (by omega)]; exact hdrop
        · rw [f4 oc hne]; exact gB.cells hc'
    · have hjl : j = l.length := by omega
      subst hjl
      rw [List.take_length] at hMt
      have hil : i ≤ M.length := by omega
      have hfl : (l.filter fun x => !p x).length = i := by rw [← hMt, List.length_take]; omega
      obtain ⟨o, off, cap, cells, rfl, w1, w2, w3⟩ := owned_sl hw ho (by omega)
      have hol := (List.getElem?_eq_some_iff.1 w1).1
      have hmul : i * 9 ≤ M.length * 9 := Nat.mul_le_mul_right _ hil
      have hmul2 : i * 9 + (M.length - i) * 9 = M.length * 9 := by rw [← Nat.add_mul]; congr 1; omega
      have hz : (zrow (encE (newE 0)) (M.length - i)).length = (M.length - i) * 9 := by rw [zrow_length]; rfl
      have e3 : aslS 9 (.sl o off M.length 9 cap) (some (I i)) none none = some (.sl o (off + i * 9) (M.length - i) 9 (cap.cut M.length i)) := by
        simp [aslS, abnd]; omega
      have e4 : aslS 9 (.sl o off M.length 9 cap) none (some (I i)) none = some (.sl o off i 9 (cap.cut M.length 0)) := by
        simp [aslS, abnd]; omega
      have e5 : acl (encE (newE 0)) H' (.sl o (off + i * 9) (M.length - i) 9 (cap.cut M.length i)) = some (H'.set o (some (.cells (over cells (off + i * 9) (zrow (encE (newE 0)) (M.length - i)))))) := by
        simp only [acl, w1]
        rw [if_pos ⟨rfl, by omega, by omega⟩, if_neg (by omega), splice_eq _ _ _ (by rw [hz]; omega)]
        rfl
      rw [← encE_new]
      have hnl : ¬ (l.length : Int) < M.length := by omega
      simp only [alnS_sl, bO_some, abI_lss, hnl, decide_false, bB_bool, bI_false, e3, e5, bS_some, e4]
      refine ⟨rfl, ?_, by simpa using hle, fun a h1 h2 => ?_, by simp [idS]⟩
      · have hov : (over cells (off + i * 9) (zrow (encE (newE 0)) (M.length - i))).length = cells.length := over_len (by rw [hz]; omega)
        rw [hfl, sliceCells_sl (c := over cells (off + i * 9) (zrow (encE (newE 0)) (M.length - i))) (by simp [hol]) (by rw [hov]; omega)]
        congr 2
        rw [← hMt, ← flat_take encE_len, w3, List.take_take, Nat.min_eq_left hmul]
        refine List.ext_getElem? fun q => ?_
        rw [List.getElem?_take, List.getElem?_take]
        split
        · rw [List.getElem?_drop, List.getElem?_drop, over_get (by rw [hz]; omega), if_neg (by omega)]
        · rfl
      · rw [List.getElem?_set_ne (by simp [idS] at h2; omega)]
        exact hk a h1 h2)

/-! bytes of a block that are taken -/
theorem over_over {cs a b : List AV} {k : Nat} (hl : a.length = b.length) (h : k + a.length ≤ cs.length) : over (over cs k a) k b = over cs k b := by
  refine List.ext_getElem? fun i => ?_
  rw [over_get (by rw [over_len h]; omega), over_get (cs := cs) (xs := b) (by omega)]
  split
  · rfl
  · rename_i c
    rw [over_get h, if_neg (by omega)]
theorem over_part0 {cs xs : List AV} {k : Nat} (h : k + xs.length ≤ cs.length) : ((over cs k xs).drop k).take xs.length = xs := by
  refine List.ext_getElem? fun i => ?_
  rw [List.getElem?_take, List.getElem?_drop, over_get h]
  by_cases c : i < xs.length
  · rw [if_pos c, if_pos (by omega), show k + i - k = i by omega]
  · rw [if_neg c, List.getElem?_eq_none (by omega)]
theorem over_same {cs xs : List AV} {k : Nat} (h : (cs.drop k).take xs.length = xs) (hl : k + xs.length ≤ cs.length) : over cs k xs = cs := by
  refine List.ext_getElem? fun i => ?_
  rw [over_get hl]
  split
  · rename_i c
    rw [← h, List.getElem?_take, if_pos (by omega), List.getElem?_drop, show k + (i - k) = i by omega]
  · rfl
theorem encE_get (x : Ext) {j : Nat} (hj : j < 8) : (encE x)[j + 1]? = some (.lit (.int .u8 (x.b.getD j 0).toNat)) := by
  have hb := x.hb
  unfold encE
  rw [List.getElem?_cons_succ, encB_get, List.getD_eq_getElem?_getD, List.getElem?_eq_getElem (by omega)]
  rfl
theorem wipe_step {x : Ext} {a : Int} {i j : Nat} (hj : (j : Int) = a - x.no * 8 + i) (hj8 : j < 8) : (encE (wipeE x a (a + i))).set (1 + j) (.lit (.int .u8 0)) = encE (wipeE x a (a + (i + 1 : Nat))) := by
  refine List.ext_getElem? fun q => ?_
  rw [List.getElem?_set]
  cases q with
  | zero => rw [if_neg (by omega)]; rfl
  | succ q =>
    by_cases hq : q < 8
    · rw [encE_get _ hq, encE_get _ hq, wipeE_get hq, wipeE_get hq, encE_len]
      by_cases c : 1 + j = q + 1
      · rw [if_pos c, if_pos (by omega), if_pos (by omega)]; rfl
      · rw [if_neg c]
        by_cases c2 : a ≤ x.no * 8 + (q : Int) ∧ x.no * 8 + (q : Int) < a + i
        · rw [if_pos c2, if_pos (by omega)]
        · rw [if_neg c2, if_neg (by omega)]
    · rw [List.getElem?_eq_none (by rw [encE_len]; omega), List.getElem?_eq_none (by rw [encE_len]; omega), encE_len]
      rw [if_neg (by omega)]
theorem wipe_c {H : AH} {o q : Nat} {cells : List AV} {x : Ext} {s : Sp} (hc : H[o]? = some (some (.cells cells))) (hx : (cells.drop q).take 9 = encE x) (hq : q + 9 ≤ cells.length) (hs : MaySpan s) (h0 : 0 ≤ x.no) (h1 : x.no < 137438953472) :
    ∃ H', (H'[o]? = some (some (.cells (over cells q (encE (wipeE x s.pos (s.pos + s.len)))))) ∧ H.length ≤ H'.length ∧ ∀ i, i < H.length → i ≠ o → H'[i]? = H[i]?) ∧ BCall Try.prog 95 [.ptr o q, .agg (encSp s)] H (.tup []) H' := by
  have key : ∃ r H', (r = .tup [] ∧ (H'[o]? = some (some (.cells (over cells q (encE (wipeE x s.pos (s.pos + s.len)))))) ∧ H.length ≤ H'.length ∧ ∀ i, i < H.length → i ≠ o → H'[i]? = H[i]?)) ∧ BCall Try.prog 95 [.ptr o q, .agg (encSp s)] H r H' := extent_wipe_ok (by
    unfold extent_wipe
    have ho := (List.getElem?_eq_some_iff.1 hc).1
    have hno : cells[q]? = some (I x.no) := by
      have := congrArg (fun l => l[0]?) hx
      simp only [List.getElem?_take, List.getElem?_drop, Nat.add_zero] at this
      simpa [encE] using this
    have g1 := Grew.app H [some (.cells (encSp s))]
    have c1 := g1.cells hc
    have c1' : H[o]? = some (some (.cells cells)) := hc
    obtain ⟨p, n⟩ := s
    simp only [encSp] at c1 g1 ⊢
    simp [List.getElem?_append_left ho, hc, hno, rdCells]
    refine bP_of (extent_whole_p x.no h0 h1) ?_
    refine bP_of (off_Meet_p ⟨x.no * 8, 8⟩ ⟨p, n⟩) ?_
    have hwm : MaySpan ⟨x.no * 8, 8⟩ := by simp only [MaySpan, May]; omega
    have hm : meet ⟨x.no * 8, 8⟩ ⟨p, n⟩ = if max (x.no * 8) p < min (x.no * 8 + 8) (p + n) then ⟨max (x.no * 8) p, min (x.no * 8 + 8) (p + n) - max (x.no * 8) p⟩ else ⟨0, 0⟩ := by
      unfold meet
      simp only
      by_cases c : max (x.no * 8) p < min (x.no * 8 + 8) (p + n)
      · rw [if_pos ⟨hwm, hs, c⟩, if_pos c]
      · rw [if_neg (fun h => c h.2.2), if_neg c]
    -- what is wiped
    have hres : ∀ m : Nat, (m : Int) = (meet ⟨x.no * 8, 8⟩ ⟨p, n⟩).len → wipeE x (meet ⟨x.no * 8, 8⟩ ⟨p, n⟩).pos ((meet ⟨x.no * 8, 8⟩ ⟨p, n⟩).pos + m) = wipeE x p (p + n) := by
      intro m he
      refine ext_eq rfl fun k hk => ?_
      rw [wipeE_get hk, wipeE_get hk]
      rw [hm] at he ⊢
      by_cases c : max (x.no * 8) p < min (x.no * 8 + 8) (p + n)
      · rw [if_pos c] at he ⊢
        simp only at he ⊢
        by_cases c2 : p ≤ x.no * 8 + (k : Int) ∧ x.no * 8 + (k : Int) < p + n
        · rw [if_pos c2, if_pos (by omega)]
        · rw [if_neg c2, if_neg (by omega)]
      · rw [if_neg c] at he ⊢
        simp only at he ⊢
        rw [if_neg (by omega), if_neg (by omega)]
    have hml : ∃ m : Nat, (m : Int) = (meet ⟨x.no * 8, 8⟩ ⟨p, n⟩).len ∧ (0 < m → x.no * 8 ≤ (meet ⟨x.no * 8, 8⟩ ⟨p, n⟩).pos ∧ (meet ⟨x.no * 8, 8⟩ ⟨p, n⟩).pos + m ≤ x.no * 8 + 8) := by
      rw [hm]
      split
      · exact ⟨(min (x.no * 8 + 8) (p + n) - max (x.no * 8) p).toNat, by simp only; omega, fun _ => by simp only; omega⟩
      · exact ⟨0, rfl, fun h => by omega⟩
    obtain ⟨m, hmm, hmb⟩ := hml
    have hres := hres m hmm
    generalize meet ⟨x.no * 8, 8⟩ ⟨p, n⟩ = M at hmm hmb hres
    obtain ⟨a, ml⟩ := M
    simp only at hmm hmb hres
    subst hmm
    have hxl := encE_len x
    simp [encSp, List.getElem?_append_left ho, hc, hno, ast]
    have hz0 : wipeE x a (a + (0 : Nat)) = x := ext_eq rfl fun k hk => by rw [wipeE_get hk, if_neg (by omega)]
    refine extent_wipe_L3_rule (fun t x0 x4 x14 x15 H' => ∃ i : Nat, i + t = m ∧ x0 = .ptr o q ∧ x4 = .ptr (H.length + 1) 0 ∧ x14 = I m ∧ x15 = I i ∧ H'[o]? = some (some (.cells (over cells q (encE (wipeE x a (a + i)))))) ∧ H'[H.length + 1]? = some (some (.cells [I a, I m])) ∧ H.length ≤ H'.length ∧ ∀ i, i < H.length → i ≠ o → H'[i]? = H[i]?) ?_ m
      ⟨0, by omega, rfl, rfl, rfl, rfl, ?_, ?_, by simp, fun i hi _ => List.getElem?_append_left hi⟩
    · rintro t x0 x4 x14 x15 H' R hR ⟨i, hi, rfl, rfl, rfl, rfl, d0, d1, d2, d3⟩
      unfold extent_wipe_L3_b
      by_cases hlt : i < m
      · obtain ⟨b1, b2⟩ := hmb (by omega)
        obtain ⟨j, hj⟩ : ∃ j : Nat, (j : Int) = a - x.no * 8 + i := ⟨(a - x.no * 8 + i).toNat, by omega⟩
        have ho' := (List.getElem?_eq_some_iff.1 d0).1
        have hwl := encE_len (wipeE x a (a + i))
        have hno' : (over cells q (encE (wipeE x a (a + i))))[q]? = some (I x.no) := by
          rw [over_get (by omega), if_pos (by omega), Nat.sub_self]; rfl
        simp [hlt, d1, d0, hno', abI_mul (a := x.no) (b := 8) (by omega) (by omega), abI_sub (a := a) (b := x.no * 8) (by omega) (by omega), abI_add (a := a - x.no * 8) (b := i) (by omega) (by omega), ← hj]
        have e1 : aixA 8 1 (.ptr o (q + 1)) (I j) = some (.ptr o (q + 1 + j)) := by
          simp [aixA, aint]; omega
        rw [e1]
        simp only [bO_some]
        rw [ast_ptr (n := 1) (off := q + 1 + j) (xs := [.lit (.int .u8 0)]) rfl d0 rfl (by rw [over_len (by omega)]; omega)]
        simp [abI_add (a := i) (b := 1) (by omega) (by omega)]
        refine hR (t - 1) _ _ _ _ _ (by omega) ⟨i + 1, by omega, rfl, rfl, rfl, rfl, ?_, ?_, by simpa using d2, fun y h1 h2 => ?_⟩
        · rw [List.getElem?_set_self ho', ← wipe_step hj (by omega)]
          congr 3
          refine List.ext_getElem? fun y => ?_
          rw [List.getElem?_set, over_len (by omega), over_get (by omega), over_get (by simp; omega), List.getElem?_set, List.length_set]
          by_cases c : q + 1 + j = y
          · subst c
            rw [if_pos rfl, if_pos (by omega), if_pos (by omega), if_pos (by omega), if_pos (by omega)]
          · rw [if_neg c]
            split
            · rw [if_neg (by omega)]
            · rfl
        · rw [List.getElem?_set_ne (by omega)]; exact d1
        · rw [List.getElem?_set_ne (by omega)]; exact d3 y h1 h2
      · have : i = m := by omega
        subst this
        simp [hlt]
        rw [hres] at d0
        exact ⟨d0, d2, d3⟩
    · rw [List.getElem?_append_left ho, hz0, over_same (by rw [hxl]; exact hx) (by omega)]
      exact hc
    · rw [List.getElem?_append_right (by omega)]; simp)
  obtain ⟨r, H', ⟨rfl, h1⟩, h2⟩ := key
  exact ⟨H', h1, h2⟩
end Go.Proofs.Ytpnfdibgfichmaa.Av
end
/-! YtpnfdibgfichmaaAvExtG -/
section
/- Chapter 11: Truncate and Punch. -/
set_option linter.unusedVariables false
set_option linter.unusedSimpArgs false
set_option maxRecDepth 100000
namespace Go.Proofs.Ytpnfdibgfichmaa.Av
open Go Go.RowKit
theorem sl_wipe {H : AH} {w : AV} {l : List Ext} {i : Nat} {a : Int} {x : Ext} {s : Sp} (hw : sliceCells H 9 w = some (l.flatMap encE, l.length)) (ho : ownedS w = true) (hx : l[i]? = some x) (ha : a = i) (hs : MaySpan s) (h0 : 0 ≤ x.no) (h1 : x.no < 137438953472) :
    ∃ p H', aixS 9 w (I a) = some p ∧ BCall Try.prog 95 [p, .agg (encSp s)] H (.tup []) H' ∧ H.length ≤ H'.length ∧ (∀ j, j < H.length → j ∉ idS w → H'[j]? = H[j]?) ∧ sliceCells H' 9 w = some ((l.set i (wipeE x s.pos (s.pos + s.len))).flatMap encE, l.length) := by
  subst ha
  have hi := (List.getElem?_eq_some_iff.1 hx).1
  obtain ⟨o, off, cap, cells, rfl, h2, h3, h4⟩ := owned_sl hw ho (by omega)
  have hol := (List.getElem?_eq_some_iff.1 h2).1
  have hmul : i * 9 + 9 ≤ l.length * 9 := by rw [← Nat.succ_mul]; exact Nat.mul_le_mul_right _ hi
  have hxl := encE_len x
  have hwl := encE_len (wipeE x s.pos (s.pos + s.len))
  have hpart : (cells.drop (off + i * 9)).take 9 = encE x := by
    have e : ((l.flatMap encE).drop (i * 9)).take 9 = encE x := by
      rw [flatMap_split encE_len hx, List.take_append_of_le_length (by omega), List.take_of_length_le (by omega)]
    rw [h4, List.drop_take, List.drop_drop, List.take_take, Nat.min_eq_left (by omega)] at e
    exact e
  obtain ⟨H', ⟨k1, k2, k3⟩, k4⟩ := wipe_c (q := off + i * 9) h2 hpart (by omega) hs h0 h1
  refine ⟨.ptr o (off + i * 9), H', ?_, k4, k2, fun j h5 h6 => k3 j h5 (by simp [idS] at h6; omega), ?_⟩
  · simp only [aixS, aint]
    rw [if_pos ⟨by omega, by omega⟩]; simp
  · rw [sliceCells_sl k1 (by rw [over_len (by omega)]; exact h3)]
    rw [show off + i * 9 = off + (i * 9 + 0) by omega, over_part h3 (by omega), ← h4, over_flat (q := 0) encE_len hx (by unfold over; rw [List.take_zero, List.nil_append, List.drop_of_length_le (by omega), List.append_nil]) (by omega)]
theorem map_set {f : Ext → Ext} {l : List Ext} {i : Nat} {x : Ext} (hx : l[i]? = some x) : ((l.take i).map f ++ l.drop i).set i (f x) = (l.take (i + 1)).map f ++ l.drop (i + 1) := by
  have hi := (List.getElem?_eq_some_iff.1 hx).1
  rw [drop_cons hx, List.set_append_right _ _ (by rw [List.length_map, List.length_take]; omega), List.take_add_one, hx]
  simp [show i - min i l.length = 0 by omega]
theorem map_get {f : Ext → Ext} {l : List Ext} {i : Nat} {x : Ext} (hx : l[i]? = some x) : ((l.take i).map f ++ l.drop i)[i]? = some x := by
  have hi := (List.getElem?_eq_some_iff.1 hx).1
  rw [List.getElem?_append_right (by rw [List.length_map, List.length_take]; omega), List.getElem?_drop]
  simp only [List.length_map, List.length_take]
  rw [show i + (i - min i l.length) = i by omega]; exact hx
theorem map_len {f : Ext → Ext} {l : List Ext} {i : Nat} : ((l.take i).map f ++ l.drop i).length = l.length := by
  simp; omega
theorem trunc_del (size : Int) (l : List Ext) (h : ∀ x ∈ l, -1 ≤ x.no ∧ x.no < 137438953472) : DelP 94 1 [I size] l (fun x => decide (size ≤ x.no * 8)) := by
  refine ⟨by kernel_rfl, rfl, fun x hx H a ha => ?_⟩
  obtain ⟨h1, h2⟩ := h x hx
  have key : ∃ r H', (r = B (decide (size ≤ x.no * 8)) ∧ Grew H H') ∧ BCall Try.prog 94 [.agg (encE x), a] H r H' := extent_Truncate_1_ok (by
    unfold extent_Truncate_1
    have g := Grew.app H [some (.cells (encE x))]
    rcases ha with rfl | ⟨rfl, hc⟩
    · simp [abI_mul (a := x.no) (b := 8) (by omega) (by omega)]
      exact g
    · have h1' := (List.getElem?_eq_some_iff.1 hc).1
      have hc' := g.cells hc
      simp [abI_mul (a := x.no) (b := 8) (by omega) (by omega), hc']
      exact g)
  obtain ⟨r, H', ⟨rfl, g⟩, hc⟩ := key
  exact ⟨H', g, hc⟩
theorem punch_del (oc : Nat) (s : Sp) (l : List Ext) (h : ∀ x ∈ l, 0 ≤ x.no ∧ x.no < 137438953472) : DelP 97 oc (encSp s) l (fun x => decide (Within ⟨x.no * 8, 8⟩ s)) := by
  refine ⟨by kernel_rfl, rfl, fun x hx H a ha => ?_⟩
  obtain ⟨h1, h2⟩ := h x hx
  have key : ∃ r H', (r = B (decide (Within ⟨x.no * 8, 8⟩ s)) ∧ Grew H H') ∧ BCall Try.prog 97 [.agg (encE x), a] H r H' := extent_Punch_1_ok (by
    unfold extent_Punch_1
    have g := Grew.app H [some (.cells (encE x))]
    simp
    refine bP_of (extent_whole_p x.no h1 h2) ?_
    have ha' : ald true 2 (H ++ [some (.cells (encE x))]) a = some (.agg (encSp s)) := by
      rcases ha with rfl | ⟨rfl, hc⟩
      · rfl
      · rw [ald_ptr (g.cells hc)]; rfl
    rw [ha']
    simp
    refine bP_of (off_Within_p ⟨x.no * 8, 8⟩ s) ?_
    exact ⟨rfl, g⟩)
  obtain ⟨r, H', ⟨rfl, g⟩, hc⟩ := key
  exact ⟨H', g, hc⟩
theorem extent_Truncate_p {size0 : Int} {l : List Ext} {v : AV} (hv : SV encE 9 l v) (hl : l.length ≤ 1000000) (size : Int) :
    ∃ R, SV encE 9 (cL (truncC (size0, l) size)) R ∧ BPure Try.prog 72 [.agg [I size0, v], I size] (.tup [.agg [I (cS (truncC (size0, l) size)), R], B (truncC (size0, l) size).isSome]) := by
  refine BPure.cont (by simp [noIdss, noIds, hv.1]) (extent_Truncate_ok ?_)
  unfold extent_Truncate
  simp [oneA_sv hv, rdCells, anew_lit]
  refine bP_pure (extent_May_p hv (by omega)) ?_
  by_cases h1 : mayC size0 l
  · by_cases h2 : size < 0
    · have hn : truncC (size0, l) size = none := if_neg (fun h => by omega)
      simp [h1, h2, ast]
      exact ContK.none hn
    · by_cases h3 : 1099511627776 < size
      · have hn : truncC (size0, l) size = none := if_neg (fun h => by omega)
        simp [h1, h2, h3, ast]
        exact ContK.none hn
      · have hw : truncC (size0, l) size = some (size, truncL l size) := if_pos ⟨h1, by omega, by omega⟩
        simp [h1, h2, h3]
        obtain ⟨r, H2, ⟨w, rfl, a2, a3, a4, a5⟩, a1⟩ := copied_c (size := size0) (hv.2 [some (.cells [I size0, v]), some (.cells [I size]), some (.cells [I 0, nilSl])]) (oneA_sv hv) (by omega)
        refine bC_of a1 ?_
        have c0 := a4.cells (o := 0) (x := some (.cells [I size0, v])) rfl
        have c1 := a4.cells (o := 1) (x := some (.cells [I size])) rfl
        have c2 := a4.cells (o := 2) (x := some (.cells [I 0, nilSl])) rfl
        have hl2 := a4.1
        simp only [List.length_cons, List.length_nil] at hl2
        have hwo := oneA_owned a2
        have id0 : ∀ j, j < 3 → j ∉ idS w := fun j hj h => by have := a5 j h; simp at this; omega
        have hs0 := okL_srt h1.2.2
        have hno := fun x hx => (okL_all h1.2.2 x hx)
        rw [ast_ptr (n := 2) (off := 0) (x := .agg [I size0, w]) (xs := [I size0, w]) (by simp [hwo]) c0 rfl (by simp)]
        simp [c1]
        rw [ast_ptr (n := 1) (off := 0) (xs := [I size]) (cs := [I size0, w]) rfl (List.getElem?_set_self (by omega)) rfl (by simp)]
        simp [show 0 < H2.length by omega]
        have keep0 : ∀ j x, j ≠ 0 → (H2.set 0 x)[j]? = H2[j]? := fun j x hj => List.getElem?_set_ne (by omega)
        have hw1 : sliceCells (H2.set 0 (some (.cells [I size, w]))) 9 w = some (l.flatMap encE, l.length) := sliceCells_keep a3 fun i hi => keep0 i _ (fun h => id0 0 (by omega) (h ▸ hi))
        obtain ⟨r2, H3, ⟨b1, b2, b3, b4, b5⟩, b6⟩ := ext_DeleteFunc_c (k := 94) hw1 a2 (by omega) (oc := 1) (c := [I size]) (by rw [keep0 1 _ (by omega)]; exact c1) (id0 1 (by omega)) (trunc_del size l fun x hx => by have := hno x hx; omega)
        have hfe : (l.filter fun x => !decide (size ≤ x.no * 8)) = l.filter fun x => decide (x.no * 8 < size) := List.filter_congr fun x _ => by
          by_cases c : size ≤ x.no * 8
          · simp [c, show ¬ x.no * 8 < size by omega]
          · simp [c, show x.no * 8 < size by omega]
        rw [hfe] at b2
        refine bC_of b6 ?_
        simp at b3
        have id3 : ∀ j, j < 3 → j ∉ idS r2 := fun j hj h => id0 j hj (b5 j h)
        have d0 : H3[0]? = some (some (.cells [I size, w])) := by rw [b4 0 (by simp; omega) (id0 0 (by omega))]; exact List.getElem?_set_self (by omega)
        have d1 : H3[1]? = some (some (.cells [I size])) := by rw [b4 1 (by simp; omega) (id0 1 (by omega)), keep0 1 _ (by omega)]; exact c1
        have d2 : H3[2]? = some (some (.cells [I 0, nilSl])) := by rw [b4 2 (by simp; omega) (id0 2 (by omega)), keep0 2 _ (by omega)]; exact c2
        have hr2 := oneA_owned b1
        rw [ast_ptr (n := 1) (off := 1) (xs := [r2]) (cs := [I size, w]) (cellsA_one hr2) d0 rfl (by simp)]
        have hfl : (l.filter fun x => decide (x.no * 8 < size)).length ≤ l.length := List.length_filter_le _ _
        have hfm : ∀ x ∈ (l.filter fun x => decide (x.no * 8 < size)), 0 ≤ x.no ∧ x.no < 137438953472 := fun x hx => by
          have := hno x (List.mem_filter.1 hx).1; omega
        have hte : truncL l size = (l.filter fun x => decide (x.no * 8 < size)).map fun x => wipeE x size 1099511627776 := rfl
        generalize (l.filter fun x => decide (x.no * 8 < size)) = F at b2 hfl hfm hte
        simp [show 0 < H3.length by omega, alnS_spec b2]
        have hsp : MaySpan ⟨size, 1099511627776 - size⟩ := by simp only [MaySpan, May]; omega
        refine extent_Truncate_L9_rule (fun t x2 x3 x4 x30 x31 H => ∃ i : Nat, i + t = F.length ∧ x2 = .ptr 0 0 ∧ x3 = .ptr 1 0 ∧ x4 = .ptr 2 0 ∧ x30 = I F.length ∧ x31 = I i ∧ H[0]? = some (some (.cells [I size, r2])) ∧ H[1]? = some (some (.cells [I size])) ∧ H[2]? = some (some (.cells [I 0, nilSl])) ∧
          sliceCells H 9 r2 = some (((F.take i).map (fun x => wipeE x size 1099511627776) ++ F.drop i).flatMap encE, ((F.take i).map (fun x => wipeE x size 1099511627776) ++ F.drop i).length)) ?_ F.length
          ⟨0, by omega, rfl, rfl, rfl, rfl, rfl, List.getElem?_set_self (by omega), (List.getElem?_set_ne (by omega)).trans d1, (List.getElem?_set_ne (by omega)).trans d2, ?_⟩
        · rintro t x2 x3 x4 x30 x31 H R hR ⟨i, hi, rfl, rfl, rfl, rfl, rfl, e0, e1, e2, e3⟩
          unfold extent_Truncate_L9_b
          have hH0 := (List.getElem?_eq_some_iff.1 e0).1
          have hH1 := (List.getElem?_eq_some_iff.1 e1).1
          have hH2 := (List.getElem?_eq_some_iff.1 e2).1
          rcases Nat.lt_or_ge i F.length with hlt | hge
          · have hx := List.getElem?_eq_getElem hlt
            generalize F[i] = x at hx
            obtain ⟨x0, x1⟩ := hfm x (List.mem_of_getElem? hx)
            obtain ⟨p, H', f1, f2, f3, f4, f5⟩ := sl_wipe (s := ⟨size, 1099511627776 - size⟩) e3 b1 (map_get hx) (a := i) rfl hsp x0 x1
            simp only [show size + (1099511627776 - size) = 1099511627776 by omega] at f5
            rw [map_set (f := fun x => wipeE x size 1099511627776) hx] at f5
            simp [hlt, e0, e1, f1, abI_sub (a := 1099511627776) (b := size) (by omega) (by omega)]
            refine bC_of f2 ?_
            simp [abI_add (a := i) (b := 1) (by omega) (by omega)]
            refine hR (t - 1) _ _ _ _ _ _ (by omega) ⟨i + 1, by omega, rfl, rfl, rfl, rfl, rfl, by rw [f4 0 hH0 (id3 0 (by omega))]; exact e0, by rw [f4 1 hH1 (id3 1 (by omega))]; exact e1, by rw [f4 2 hH2 (id3 2 (by omega))]; exact e2, by rw [f5, map_len, map_len]⟩
          · have : i = F.length := by omega
            subst this
            simp [e0, rdCells]
            rw [ast_ptr (n := 2) (off := 0) (xs := [I size, r2]) (cs := [I 0, nilSl]) (by simp [hr2]) e2 rfl (by simp)]
            simp [hH2]
            rw [List.take_length, List.drop_length, List.append_nil, ← hte] at e3
            exact ContK.some hw (sliceCells_keep e3 fun i hi => by
              have h2 : 3 ≤ i := Nat.le_of_not_lt fun h => id3 i h hi
              rw [List.getElem?_set_ne (by omega)])
        · simp only [List.take_zero, List.map_nil, List.nil_append, List.drop_zero]
          exact sliceCells_keep b2 fun i hi => by
            have h2 : 3 ≤ i := Nat.le_of_not_lt fun h => id3 i h hi
            rw [List.getElem?_set_ne (by omega)]
  · have hn : truncC (size0, l) size = none := if_neg (fun h => h1 h.1)
    simp [h1, ast]
    exact ContK.none hn
theorem within_gone {no pos n : Int} (h : maySp pos n) (h0 : 0 ≤ no) (h1 : no < 137438953472) : (!decide (Within ⟨no * 8, 8⟩ ⟨pos, n⟩)) = !gone pos n no := by
  have e : Within ⟨no * 8, 8⟩ ⟨pos, n⟩ ↔ (pos ≤ no * 8 ∧ no * 8 + 8 ≤ pos + n) := by
    rw [within_iff]
    unfold Within' MaySpan May
    unfold maySp at h
    simp only
    omega
  unfold gone
  by_cases c1 : pos ≤ no * 8 <;> by_cases c2 : no * 8 + 8 ≤ pos + n <;> simp [e, c1, c2]
theorem extent_Punch_p {size : Int} {l : List Ext} {v : AV} (hv : SV encE 9 l v) (hl : l.length ≤ 1000000) (pos n : Int) :
    ∃ R, SV encE 9 (cL (punchC (size, l) pos n)) R ∧ BPure Try.prog 74 [.agg [I size, v], I pos, I n] (.tup [.agg [I (cS (punchC (size, l) pos n)), R], B (punchC (size, l) pos n).isSome]) := by
  refine BPure.cont (by simp [noIdss, noIds, hv.1]) (extent_Punch_ok ?_)
  unfold extent_Punch
  simp [oneA_sv hv, rdCells]
  refine bP_pure (extent_May_p hv (by omega)) ?_
  by_cases h1 : mayC size l
  · simp [h1]
    refine bP_pure (extent_span_p pos n) ?_
    by_cases h2 : maySp pos n
    · have hw : punchC (size, l) pos n = some (size, punchL l pos n) := if_pos ⟨h1, h2⟩
      have h2' := h2
      obtain ⟨g1, g2, g3, g4⟩ := h2'
      simp [h2]
      obtain ⟨r, H2, ⟨w, rfl, a2, a3, a4, a5⟩, a1⟩ := copied_c (size := size) (hv.2 [some (.cells [I size, v]), some (.cells [I 0, nilSl])]) (oneA_sv hv) (by omega)
      refine bC_of a1 ?_
      have c0 := a4.cells (o := 0) (x := some (.cells [I size, v])) rfl
      have c2 := a4.cells (o := 1) (x := some (.cells [I 0, nilSl])) rfl
      have hl2 := a4.1
      simp only [List.length_cons, List.length_nil] at hl2
      have hwo := oneA_owned a2
      have id0 : ∀ j, j < 2 → j ∉ idS w := fun j hj h => by have := a5 j h; simp at this; omega
      have hs0 := okL_srt h1.2.2
      have hno := fun x hx => (okL_all h1.2.2 x hx)
      rw [ast_ptr (n := 2) (off := 0) (x := .agg [I size, w]) (xs := [I size, w]) (by simp [hwo]) c0 rfl (by simp)]
      simp
      rw [ast_ptr (n := 2) (off := 0) (x := .agg [I pos, I n]) (xs := [I pos, I n]) (cs := [I 0, I 0]) (by simp) (by rw [List.getElem?_append_right (by simp)]; simp) rfl (by simp)]
      have hset : ((H2.set 0 (some (AObj.cells [I size, w]))) ++ [some (AObj.cells [I 0, I 0])]).set H2.length (some (AObj.cells (splice [I 0, I 0] 0 [I pos, I n]))) = (H2.set 0 (some (AObj.cells [I size, w]))) ++ [some (AObj.cells [I pos, I n])] := by
        rw [List.set_append_right _ _ (by simp)]; simp
      rw [hset]
      have g := Grew.app (H2.set 0 (some (AObj.cells [I size, w]))) [some (.cells [I pos, I n])]
      have keep0 : ∀ j x, j ≠ 0 → (H2.set 0 x)[j]? = H2[j]? := fun j x hj => List.getElem?_set_ne (by omega)
      have z0 := g.cells (o := 0) (x := some (.cells [I size, w])) (List.getElem?_set_self (by omega))
      have z1 := g.cells (o := 1) (x := some (.cells [I 0, nilSl])) (by rw [keep0 1 _ (by omega)]; exact c2)
      have z2 : (H2.set 0 (some (AObj.cells [I size, w])) ++ [some (AObj.cells [I pos, I n])])[H2.length]? = some (some (.cells [I pos, I n])) := by rw [List.getElem?_append_right (by simp)]; simp
      have zid : H2.length ∉ idS w := fun h => by have := sliceCells_lt a3 _ h; omega
      have hlen3 : (H2.set 0 (some (AObj.cells [I size, w])) ++ [some (AObj.cells [I pos, I n])]).length = H2.length + 1 := by simp
      have hw1 := g.slice (sliceCells_keep (H' := H2.set 0 (some (AObj.cells [I size, w]))) a3 fun i hi => keep0 i _ (fun h => id0 0 (by omega) (h ▸ hi)))
      generalize hH3 : (H2.set 0 (some (AObj.cells [I size, w])) ++ [some (AObj.cells [I pos, I n])]) = H3 at g z0 z1 z2 hw1 hlen3
      generalize H2.length = so at z2 zid hlen3 hl2
      simp [z0]
      obtain ⟨r2, H4, ⟨b1, b2, b3, b4, b5⟩, b6⟩ := ext_DeleteFunc_c (k := 97) hw1 a2 (by omega) (oc := so) (c := encSp ⟨pos, n⟩) z2 zid (punch_del so ⟨pos, n⟩ l fun x hx => by have := hno x hx; omega)
      have hfe : (l.filter fun x => !decide (Within ⟨x.no * 8, 8⟩ ⟨pos, n⟩)) = l.filter fun x => !gone pos n x.no := List.filter_congr fun x hx => by
        have := hno x hx
        exact within_gone h2 (by omega) (by omega)
      rw [hfe] at b2
      refine bC_of b6 ?_
      have id3 : ∀ j, j < 2 → j ∉ idS r2 := fun j hj h => id0 j hj (b5 j h)
      have id4 : so ∉ idS r2 := fun h => zid (b5 so h)
      have d0 : H4[0]? = some (some (.cells [I size, w])) := by rw [b4 0 (by omega) (id0 0 (by omega))]; exact z0
      have d1 : H4[1]? = some (some (.cells [I 0, nilSl])) := by rw [b4 1 (by omega) (id0 1 (by omega))]; exact z1
      have d2 : H4[so]? = some (some (.cells [I pos, I n])) := by rw [b4 so (by omega) zid]; exact z2
      have hr2 := oneA_owned b1
      rw [ast_ptr (n := 1) (off := 1) (xs := [r2]) (cs := [I size, w]) (cellsA_one hr2) d0 rfl (by simp)]
      have hfl : (l.filter fun x => !gone pos n x.no).length ≤ l.length := List.length_filter_le _ _
      have hfm : ∀ x ∈ (l.filter fun x => !gone pos n x.no), 0 ≤ x.no ∧ x.no < 137438953472 := fun x hx => by
        have := hno x (List.mem_filter.1 hx).1; omega
      have hte : punchL l pos n = (l.filter fun x => !gone pos n x.no).map fun x => wipeE x pos (pos + n) := rfl
      generalize (l.filter fun x => !gone pos n x.no) = F at b2 hfl hfm hte
      simp [show 0 < H4.length by omega, alnS_spec b2]
      have hsp : MaySpan ⟨pos, n⟩ := by simp only [MaySpan, May]; omega
      refine extent_Punch_L9_rule (fun t x3 x6 x8 x32 x33 H => ∃ i : Nat, i + t = F.length ∧ x3 = .ptr 0 0 ∧ x6 = .ptr 1 0 ∧ x8 = .ptr so 0 ∧ x32 = I F.length ∧ x33 = I i ∧ H[0]? = some (some (.cells [I size, r2])) ∧ H[1]? = some (some (.cells [I 0, nilSl])) ∧ H[so]? = some (some (.cells [I pos, I n])) ∧
        sliceCells H 9 r2 = some (((F.take i).map (fun x => wipeE x pos (pos + n)) ++ F.drop i).flatMap encE, ((F.take i).map (fun x => wipeE x pos (pos + n)) ++ F.drop i).length)) ?_ F.length
        ⟨0, by omega, rfl, rfl, rfl, rfl, rfl, List.getElem?_set_self (by omega), (List.getElem?_set_ne (by omega)).trans d1, (List.getElem?_set_ne (by omega)).trans d2, ?_⟩
      · rintro t x3 x6 x8 x32 x33 H R hR ⟨i, hi, rfl, rfl, rfl, rfl, rfl, e0, e1, e2, e3⟩
        unfold extent_Punch_L9_b
        have hH0 := (List.getElem?_eq_some_iff.1 e0).1
        have hH1 := (List.getElem?_eq_some_iff.1 e1).1
        have hH2 := (List.getElem?_eq_some_iff.1 e2).1
        rcases Nat.lt_or_ge i F.length with hlt | hge
        · have hx := List.getElem?_eq_getElem hlt
          generalize F[i] = x at hx
          obtain ⟨x0, x1⟩ := hfm x (List.mem_of_getElem? hx)
          obtain ⟨p, H', f1, f2, f3, f4, f5⟩ := sl_wipe (s := ⟨pos, n⟩) e3 b1 (map_get hx) (a := i) rfl hsp x0 x1
          rw [map_set (f := fun x => wipeE x pos (pos + n)) hx] at f5
          simp [hlt, e0, e2, f1, rdCells]
          refine bC_of f2 ?_
          simp [abI_add (a := i) (b := 1) (by omega) (by omega)]
          refine hR (t - 1) _ _ _ _ _ _ (by omega) ⟨i + 1, by omega, rfl, rfl, rfl, rfl, rfl, by rw [f4 0 hH0 (id3 0 (by omega))]; exact e0, by rw [f4 1 hH1 (id3 1 (by omega))]; exact e1, by rw [f4 so hH2 id4]; exact e2, by rw [f5, map_len, map_len]⟩
        · have : i = F.length := by omega
          subst this
          simp [e0, rdCells]
          rw [ast_ptr (n := 2) (off := 0) (xs := [I size, r2]) (cs := [I 0, nilSl]) (by simp [hr2]) e1 rfl (by simp)]
          simp [hH1]
          rw [List.take_length, List.drop_length, List.append_nil, ← hte] at e3
          exact ContK.some hw (sliceCells_keep e3 fun i hi => by
            have h2 : 2 ≤ i := Nat.le_of_not_lt fun h => id3 i h hi
            rw [List.getElem?_set_ne (by omega)])
      · simp only [List.take_zero, List.map_nil, List.nil_append, List.drop_zero]
        exact sliceCells_keep b2 fun i hi => by
          have h2 : 2 ≤ i := Nat.le_of_not_lt fun h => id3 i h hi
          rw [List.getElem?_set_ne (by omega)]
    · have hn : punchC (size, l) pos n = none := if_neg (fun h => h2 h.2)
      simp [h2, ast]
      exact ContK.none hn
  · have hn : punchC (size, l) pos n = none := if_neg (fun h => h1 h.1)
    simp [h1, ast]
    exact ContK.none hn
end Go.Proofs.Ytpnfdibgfichmaa.Av
end
/-! YtpnfdibgfichmaaAvIx -/
section
/- Chapter 12: a file is called otherwise; its content is changed. -/
set_option linter.unusedVariables false
set_option linter.unusedSimpArgs false
set_option maxRecDepth 100000
namespace Go.Proofs.Ytpnfdibgfichmaa.Av
open Go Go.RowKit

def renOk (ns : List Nm) (s t : List UInt8) : Prop := hasK Nm.name ns s ∧ mayN t ∧ s ≠ t
instance (ns : List Nm) (s t : List UInt8) : Decidable (renOk ns s t) := by unfold renOk; infer_instance
def renNs (ns : List Nm) (s t : List UInt8) : List Nm := if renOk ns s t then insK cmpN Nm.name (remNs (delK cmpN Nm.name ns s) t) ⟨t, nameI ns s⟩ else ns
def renDv (ns : List Nm) (dv : List NdV) (s t : List UInt8) : List NdV := if renOk ns s t then remDv (delK cmpN Nm.name ns s) dv t else dv
theorem remNs_srt {ns : List Nm} {t : List UInt8} (h : srtK cmpN Nm.name ns) : srtK cmpN Nm.name (remNs ns t) := by
  unfold remNs
  split
  · exact srtK_del h
  · exact h
theorem remNs_len {ns : List Nm} {t : List UInt8} : (remNs ns t).length ≤ ns.length := by
  unfold remNs
  split
  · exact delK_sub.length_le
  · exact Nat.le_refl _
theorem rename_c {L oi : Nat} {ns : List Nm} {dv : List NdV} {a b : AV} {H : AH} {s t : List UInt8} (h : ImH L oi ns dv a b H) (hs : srtK cmpN Nm.name ns) (hd : srtK cmpI NdV.ino dv) (hx : ∀ x ∈ ns, hasK NdV.ino dv x.ino) (hn : ns.length ≤ 100000) (hm : dv.length ≤ 100000) (ht : t.length ≤ 1000000000) :
    ∃ r H', ImP L oi H (renNs ns s t) (renDv ns dv s t) r H' ∧ BCall Try.prog 40 [.ptr oi 0, S (bstr s), S (bstr t)] H r H' := image_rename_ok (by
  obtain ⟨Ra, Rb, sa, sb, fz⟩ := h.lend
  have c0 := h.obj
  unfold image_rename
  have b0 : ∀ a b : AV, rdCells true 2 [a, b] 0 = some (.agg [a, b]) := fun _ _ => rfl
  have hno : ¬ renOk ns s t → ImP L oi H (renNs ns s t) (renDv ns dv s t) (.tup []) H := fun hc => by
    unfold renNs renDv
    rw [if_neg hc, if_neg hc]
    exact ⟨rfl, a, b, h, FrL.refl _ _ _⟩
  simp [c0, b0]
  refine bC_of (PCall.lend (FZs.cons fz (FZs.cons (FZ.lit _) FZs.nil)) rfl (named_p sa sb hs (by omega) s)).call ?_
  by_cases q1 : hasK Nm.name ns s
  · simp [q1]
    refine bP_pure (MayName_p (s := t) (by omega)) ?_
    by_cases q2 : mayN t
    · by_cases q3 : s = t
      · simp [q2, abT_eql, q3]
        rw [← q3] at hno ⊢
        exact hno fun hc => hc.2.2 rfl
      · have hc : renOk ns s t := ⟨q1, q2, q3⟩
        unfold renNs renDv
        rw [if_pos hc, if_pos hc]
        obtain ⟨x, hx1, hx2, hx3⟩ := posK_atK koN hs q1
        obtain ⟨o, off, cells, u1, u2, u3, u4, u5, -⟩ := own_at encN_len (by omega) h.sa h.oa hx1
        have u51 := u5 1 (by omega)
        have hpl := (List.getElem?_eq_some_iff.1 hx1).1
        have e1 : nameI ns s = x.ino := by unfold nameI; rw [hx2]
        simp [q2, abT_eql, q3, c0, b0, u1, u3, u51, encN, abI_add (a := (posK cmpN Nm.name ns s : Nat)) (b := 1) (by omega) (by omega)]
        obtain ⟨r1, H2, ⟨d1, d2, d3, d4, d5, d6⟩, d7⟩ := delN_c h.sa h.oa h.ca hpl (by omega)
        refine bC_of d7 ?_
        have l1 := delK_len (c := cmpN) (key := Nm.name) (k := s) hpl
        obtain ⟨H3, e3, n1, n2⟩ := h.newA (ms := delK cmpN Nm.name ns s) (Nat.le_of_eq d3.symm) (fun i _ hi => d4 i hi) (by rw [show (delK cmpN Nm.name ns s).length = ns.length - 1 by omega]; exact d2) d1 (by rw [show (delK cmpN Nm.name ns s).length = ns.length - 1 by omega]; exact d6) (fun i hi => .inl (d5 ▸ hi))
        simp [e3]
        have hs1 : srtK cmpN Nm.name (delK cmpN Nm.name ns s) := srtK_del hs
        obtain ⟨r4, H4, ⟨rfl, a4, b4, m1, m2⟩, m3⟩ := remove_c (s := t) n1 hs1 hd (fun y hy => hx y (delK_sub.subset hy)) (by omega) hm
        refine bC_of m3 ?_
        have c4 := m1.obj
        obtain ⟨Sa, Sb, ta, tb, gz⟩ := m1.lend
        have hs2 := remNs_srt (t := t) hs1
        have hl2 := remNs_len (ns := delK cmpN Nm.name ns s) (t := t)
        simp [c4, b0]
        refine bC_of (PCall.lend (FZs.cons gz (FZs.cons (FZ.lit _) FZs.nil)) rfl (named_p ta tb hs2 (by omega) t)).call ?_
        have g5 := Grew.app H4 [some (.cells (encN ⟨t, x.ino⟩))]
        have m5 := m1.grew g5
        have e5 : absl H4 2 1 (zrow [(.lit (.string ⟨#[]⟩)), (.lit (.int .i64 0))] 1) [(0, 2, .agg (encN ⟨t, x.ino⟩))] = some (.sl H4.length 0 1 2 (.ex 1), H4 ++ [some (.cells (encN ⟨t, x.ino⟩))]) := rfl
        have e6 : abl [(.lit (.string ⟨#[]⟩)), (.lit (.int .i64 0))] [(0, 1, S (bstr t)), (1, 1, I x.ino)] = some (.agg (encN ⟨t, x.ino⟩)) := rfl
        simp [c4, e5, e6]
        obtain ⟨r7, H7, ⟨k1, k2, k3, k4, k5, k6⟩, k7⟩ := insN_c (x := ⟨t, x.ino⟩) (oj := H4.length) m5.sa m5.oa m5.ca (posK_le (c := cmpN) (key := Nm.name) _ t) (by omega) (by simp) (fun hh => by have := sliceCells_lt m1.sa _ hh; omega)
        refine bC_of k7 ?_
        have el := insK_len (c := cmpN) (key := Nm.name) (l := remNs (delK cmpN Nm.name ns s) t) (x := ⟨t, x.ino⟩)
        obtain ⟨H8, e8, p1, p2⟩ := m5.newA (ms := insK cmpN Nm.name (remNs (delK cmpN Nm.name ns s) t) ⟨t, x.ino⟩) k3 k4 (by rw [el]; exact k2) k1 (by rw [el]; exact k6) k5
        simp [e8]
        rw [e1]
        have hle := m1.len
        exact ⟨rfl, _, _, p1, n2.trans (m2.trans ⟨Nat.le_trans g5.1 p2.1, fun j h1 h2 => (p2.2 j h1 h2).trans (g5.2 j (by omega))⟩)⟩
    · simp [q2]
      exact hno fun hc => q2 hc.2.1
  · simp [q1]
    exact hno fun hc => q1 hc.1)
/-! a content is changed -/
def chgC (o : OpM) (d : Nd) : Option Cont := if o.kind = 2 then writeC (d.size, d.l) o.pos o.b else if o.kind = 3 then truncC (d.size, d.l) o.size else if o.kind = 4 then allocC (d.size, d.l) o.pos o.size o.keep else if o.kind = 5 then punchC (d.size, d.l) o.pos o.size else none
def chgD (ds : List Nd) (o : OpM) : List Nd := match atK Nd.ino ds o.ino with
  | some d => match chgC o d with
    | some c => ds.set (posK cmpI Nd.ino ds o.ino) ⟨d.ino, c.1, c.2⟩
    | none => ds
  | none => ds
theorem change_tail {L oi k q : Nat} {ns : List Nm} {dv : List NdV} {a b R : AV} {H : AH} {x : NdV} {sz : Int} {l : List Ext} (h : ImH L oi ns dv a b H) (hx : dv[k]? = some x) (hR : SV encE 9 l R) (hq : H[q]? = some (some (.cells [I sz, R]))) (ok : Bool) :
    ∃ H', ImH L oi ns (if ok = true then dv.set k ⟨⟨x.nd.ino, sz, l⟩, R, hR⟩ else dv) a b H' ∧ FrL L oi H H' ∧ ∀ K : AV → AH → Prop, K (.tup []) H' → image_change_J5 (.ptr oi 0) (I k) (B ok) (.ptr q 0) H K := by
  cases ok with
  | false =>
    refine ⟨H, h, FrL.refl _ _ _, fun K hK => ?_⟩
    rw [image_change_J5_eq]; unfold image_change_J5_b
    rw [image_change_J11_eq]; unfold image_change_J11_b
    simpa using hK
  | true =>
    obtain ⟨o, off, cells, u1, u2, u3, u4, u5, u6⟩ := own_at encD_len (by omega) h.sb h.ob hx
    have oL := h.ib o u2
    have hoo : o ≠ oi := fun e => h.noB (e ▸ u2)
    have hle := h.len
    have o2 := SV.oneA hR
    have c0 := h.obj
    have hol := (List.getElem?_eq_some_iff.1 u3).1
    have e1 : ast 2 H (.ptr o (off + 1)) (.agg [I sz, R]) = some (H.set o (some (.cells (splice cells (off + 1) [I sz, R])))) := by
      rw [ast_ptr (n := 2) (xs := [I sz, R]) (by simp [o2]) u3 rfl (by omega)]
    refine ⟨H.set o (some (.cells (splice cells (off + 1) [I sz, R]))), ⟨?_, h.lo, by simp; omega, ?_, h.oa, h.ca, h.ia, ?_, h.ob, by simpa using h.cb, h.ib, h.ab⟩, ⟨by simp, fun j h1 h2 => List.getElem?_set_ne (by omega)⟩, fun K hK => ?_⟩
    · rw [List.getElem?_set_ne (by omega)]; exact c0
    · exact sliceCells_keep h.sa fun i hi => List.getElem?_set_ne (fun (e : o = i) => h.ab i hi (e ▸ u2))
    · have := u6 ⟨⟨x.nd.ino, sz, l⟩, R, hR⟩ 1 [I sz, R] rfl (by simp)
      simpa using this
    · rw [image_change_J5_eq]; unfold image_change_J5_b
      rw [image_change_J11_eq]; unfold image_change_J11_b
      have b0 : rdCells true 2 [I sz, R] 0 = some (.agg [I sz, R]) := rfl
      simp only [bB_bool, bI_true]
      have e3 : ald false 1 H (.ptr oi 1) = some b := by rw [ald_ptr c0]; rfl
      have e4 : ald true 2 H (.ptr q 0) = some (.agg [I sz, R]) := by rw [ald_ptr hq]; rfl
      show bO (some (AV.ptr oi 0)) _
      simp only [bO_some]
      show bO (some (AV.ptr oi 1)) _
      simp only [bO_some, e3, e4, u1]
      show bO (some (AV.ptr o (off + 1))) _
      simp only [bO_some, e1, bS_some]
      exact hK
/-- What a call leaves of an image whose contents may be changed. -/
def ChP (L oi : Nat) (H : AH) (ns : List Nm) (ds : List Nd) (r : AV) (H' : AH) : Prop := r = .tup [] ∧ ∃ a b dv, dv.map NdV.nd = ds ∧ ImH L oi ns dv a b H' ∧ FrL L oi H H'
theorem change_c {L oi : Nat} {ns : List Nm} {dv : List NdV} {a b bv : AV} {H : AH} {o : OpM} (h : ImH L oi ns dv a b H) (hs : srtK cmpN Nm.name ns) (hd : srtK cmpI NdV.ino dv) (hb : SV encU 1 o.b bv) (hm : dv.length ≤ 100000) (hbl : o.b.length ≤ 281474976710656) (hl : ∀ d ∈ dv, d.nd.l.length ≤ 1000000) (hk : o.kind = 2 ∨ o.kind = 3 ∨ o.kind = 4 ∨ o.kind = 5) :
    ∃ r H', ChP L oi H ns (chgD (dv.map NdV.nd) o) r H' ∧ BCall Try.prog 39 [.ptr oi 0, .agg (opA o bv)] H r H' := image_change_ok (by
  obtain ⟨H1, e1, hp, h1, f1⟩ := op_new h o (SV.oneA hb)
  obtain ⟨Ra, Rb, sa, sb, fz⟩ := h1.lend
  have c0 := h1.obj
  unfold image_change
  simp only [e1, bH_some]
  have b0 : rdCells true 2 [a, b] 0 = some (.agg [a, b]) := rfl
  simp [hp, c0, b0, opA]
  refine bC_of (PCall.lend (FZs.cons fz (FZs.cons (FZ.lit _) FZs.nil)) rfl (node_p sa sb hd (by omega) o.ino)).call ?_
  by_cases q1 : hasK NdV.ino dv o.ino
  · obtain ⟨x, hx1, hx2, hx3⟩ := posK_atK koI hd q1
    obtain ⟨oo, off, cells, u1, u2, u3, u4, u5, u6⟩ := own_at encD_len (by omega) h1.sb h1.ob hx1
    have hxl := hl x (List.mem_of_getElem? hx1)
    have rd1 : rdCells true 2 cells (off + 1) = some (.agg [I x.nd.size, x.R]) := by
      have e51 := u5 1 (by omega)
      have e52 := u5 2 (by omega)
      have l2 : off + 1 + 2 ≤ cells.length := by omega
      have : (cells.drop (off + 1)).take 2 = [I x.nd.size, x.R] := by
        rw [List.drop_eq_getElem_cons (by omega), List.drop_eq_getElem_cons (by omega)]
        rw [List.getElem?_eq_getElem (by omega)] at e51 e52
        simp [encD] at e51 e52
        simp [e51, e52]
      simp [rdCells, l2, this]
    have o1 := SV.oneA x.h
    have fin : ∀ (res : Option Cont) (R : AV) (Hc : AH) (sR : SV encE 9 (cL res) R), chgC o x.nd = res → ImH L oi ns dv a b Hc → FrL L oi H1 Hc → ∀ q, Hc[q]? = some (some (.cells [I (cS res), R])) → image_change_J5 (.ptr oi 0) (I (posK cmpI NdV.ino dv o.ino)) (B res.isSome) (.ptr q 0) Hc (ChP L oi H ns (chgD (dv.map NdV.nd) o)) := by
      intro res R Hc sR hr hc fc q hq
      obtain ⟨H9, w1, w2, w3⟩ := change_tail hc hx1 sR hq res.isSome
      refine w3 _ ⟨rfl, _, _, _, ?_, w1, f1.trans (fc.trans w2)⟩
      unfold chgD
      rw [atK_map hx2]
      simp only [hr]
      cases res with
      | none => rfl
      | some c =>
        simp only [Option.isSome_some, if_true, List.map_set, posK_map]
        rfl
    simp [q1, c0, u1, u3, rd1]
    obtain ⟨H2, e2, hq2, hp2, h2, f2⟩ : ∃ H2, ast 2 (H1 ++ [some (.cells [I 0, nilSl])]) (.ptr H1.length 0) (.agg [I x.nd.size, x.R]) = some H2 ∧ H2[H1.length]? = some (some (.cells [I x.nd.size, x.R])) ∧ H2[H.length]? = some (some (.cells (opA o bv))) ∧ ImH L oi ns dv a b H2 ∧ FrL L oi H1 H2 := by
      have g := Grew.app H1 [some (.cells [I x.nd.size, x.R])]
      have hle := h1.len
      exact ⟨_, by simp [ast, splice, o1, cellsA_one o1], by simp, g.cells hp, h1.grew g, g.1, fun j i1 i2 => g.2 j (by omega)⟩
    have hol2 := (List.getElem?_eq_some_iff.1 hq2).1
    have hql : L ≤ H1.length := h1.len
    have put : ∀ (sz : Int) (R : AV), oneA R = true → ast 2 H2 (.ptr H1.length 0) (.agg [I sz, R]) = some (H2.set H1.length (some (.cells [I sz, R]))) ∧ ImH L oi ns dv a b (H2.set H1.length (some (.cells [I sz, R]))) ∧ FrL L oi H1 (H2.set H1.length (some (.cells [I sz, R]))) ∧ (H2.set H1.length (some (.cells [I sz, R])))[H1.length]? = some (some (.cells [I sz, R])) := by
      intro sz R hR
      have hlo := (List.getElem?_eq_some_iff.1 h1.obj).1
      refine ⟨?_, ⟨?_, h2.lo, by simpa using h2.len, ?_, h2.oa, h2.ca, h2.ia, ?_, h2.ob, h2.cb, h2.ib, h2.ab⟩, ⟨by simpa using f2.1, fun j i1 i2 => ?_⟩, by simp [hol2]⟩
      · rw [ast_ptr (n := 2) (off := 0) (xs := [I sz, R]) (by simp [hR]) hq2 rfl (by simp)]; rfl
      · rw [List.getElem?_set_ne (by omega)]; exact h2.obj
      · exact sliceCells_keep h2.sa fun i hi => List.getElem?_set_ne (by have := sliceCells_lt h1.sa i hi; omega)
      · exact sliceCells_keep h2.sb fun i hi => List.getElem?_set_ne (by have := sliceCells_lt h1.sb i hi; omega)
      · rw [List.getElem?_set_ne (by omega)]; exact f2.2 j i1 i2
    have b1 : ∀ (s : Int) (R : AV), rdCells true 2 [I s, R] 0 = some (.agg [I s, R]) := fun _ _ => rfl
    simp [e2, hp2, opA]
    rcases hk with hk | hk | hk | hk
    · simp [hk, hq2, b1, hp2, opA]
      obtain ⟨R, s1, p1⟩ := extent_Write_p x.h hxl o.pos hb hbl
      refine bP_pure p1 ?_
      obtain ⟨t1, t2, t3, t4⟩ := put (cS (writeC (x.nd.size, x.nd.l) o.pos o.b)) R (SV.oneA s1)
      simp [t1]
      exact fin _ R _ s1 (by unfold chgC; rw [if_pos hk]) t2 t3 _ t4
    · simp [hk, hq2, b1, hp2, opA]
      obtain ⟨R, s1, p1⟩ := extent_Truncate_p (size0 := x.nd.size) x.h hxl o.size
      refine bP_pure p1 ?_
      obtain ⟨t1, t2, t3, t4⟩ := put (cS (truncC (x.nd.size, x.nd.l) o.size)) R (SV.oneA s1)
      simp [t1]
      exact fin _ R _ s1 (by unfold chgC; rw [if_neg (by omega), if_pos hk]) t2 t3 _ t4
    · simp [hk, hq2, b1, hp2, opA]
      obtain ⟨R, s1, p1⟩ := extent_Allocate_p (size := x.nd.size) x.h hxl o.pos o.size o.keep
      refine bP_pure p1 ?_
      obtain ⟨t1, t2, t3, t4⟩ := put (cS (allocC (x.nd.size, x.nd.l) o.pos o.size o.keep)) R (SV.oneA s1)
      simp [t1]
      exact fin _ R _ s1 (by unfold chgC; rw [if_neg (by omega), if_neg (by omega), if_pos hk]) t2 t3 _ t4
    · simp [hk, hq2, b1, hp2, opA]
      obtain ⟨R, s1, p1⟩ := extent_Punch_p (size := x.nd.size) x.h hxl o.pos o.size
      refine bP_pure p1 ?_
      obtain ⟨t1, t2, t3, t4⟩ := put (cS (punchC (x.nd.size, x.nd.l) o.pos o.size)) R (SV.oneA s1)
      simp [t1]
      exact fin _ R _ s1 (by unfold chgC; rw [if_neg (by omega), if_neg (by omega), if_neg (by omega), if_pos hk]) t2 t3 _ t4
  · simp [q1]
    refine ⟨rfl, a, b, dv, ?_, h1, f1⟩
    unfold chgD
    rw [atK_none (fun hh => q1 (hasK_map.1 hh))])
end Go.Proofs.Ytpnfdibgfichmaa.Av
end
/-! YtpnfdibgfichmaaAvIy -/
section
/- Chapter 12: an image is copied; a change of it. -/
set_option linter.unusedVariables false
set_option linter.unusedSimpArgs false
set_option maxRecDepth 100000
namespace Go.Proofs.Ytpnfdibgfichmaa.Av
open Go Go.RowKit

theorem cloneN_c {H : AH} {v : AV} {cs : List AV} {n : Nat} (h : sliceCells H 2 v = some (cs, n)) (hn : n ≤ 1000000000) :
    ∃ r H', (ownedS r = true ∧ sliceCells H' 2 r = some (cs, n) ∧ Grew H H' ∧ (∀ i ∈ idS r, H.length ≤ i) ∧ capOk r n) ∧ BCall Try.prog 60 [v] H r H' := slices_Clone_Lapi_Name_api_Name_ok (by
  unfold slices_Clone_Lapi_Name_api_Name
  rcases nilS_slice h with ⟨rfl, rfl, rfl⟩ | hb
  · have e : abN .eql nilS nilSl nilSl = some (B true) := rfl
    simp only [e, bO_some, bB_bool, bI_true]
    exact ⟨rfl, h, Grew.refl H, by simp [idS], by simp [capOk]⟩
  · simp only [hb, bO_some, bB_bool, bI_false]
    have e : absl H 2 0 (zrow [(.lit (.string ⟨#[]⟩)), (.lit (.int .i64 0))] 0) [] = some (.sl H.length 0 0 2 (.ex 0), H ++ [some (.cells [])]) := rfl
    simp only [e, bH_some]
    have g := Grew.app H [some (.cells [])]
    have h0 : sliceCells (H ++ [some (.cells [])]) 2 (.sl H.length 0 0 2 (.ex 0)) = some ([], 0) := by simp [sliceCells]
    obtain ⟨r, H2, a1, a2, a3, a4, a5, a6⟩ := aap_spec (sz := 2) (bytes := 24) (H := H ++ [some (.cells [])]) (v := .sl H.length 0 0 2 (.ex 0)) (cs := []) (n := 0) h0 rfl (appended_slice (g.slice h)) (by omega)
    have a7 := aap_cap h0 rfl (appended_slice (g.slice h)) (by simp [capOk]) a1
    simp only [a1, bH_some]
    refine ⟨a2, by simpa using a3, ⟨by simp at a4; omega, fun i hi => ?_⟩, fun i hi => ?_, by simpa using a7⟩
    · rw [a5 i (by simp; omega) (by simp [idS]; omega)]
      exact g.2 i hi
    · rcases a6 i hi with h | h
      · simp [idS] at h; omega
      · simp at h; omega)
theorem cloneD_c {H : AH} {v : AV} {cs : List AV} {n : Nat} (h : sliceCells H 3 v = some (cs, n)) (hn : n ≤ 1000000000) :
    ∃ r H', (ownedS r = true ∧ sliceCells H' 3 r = some (cs, n) ∧ Grew H H' ∧ (∀ i ∈ idS r, H.length ≤ i) ∧ capOk r n) ∧ BCall Try.prog 61 [v] H r H' := slices_Clone_Lapi_Node_api_Node_ok (by
  unfold slices_Clone_Lapi_Node_api_Node
  rcases nilS_slice h with ⟨rfl, rfl, rfl⟩ | hb
  · have e : abN .eql nilS nilSl nilSl = some (B true) := rfl
    simp only [e, bO_some, bB_bool, bI_true]
    exact ⟨rfl, h, Grew.refl H, by simp [idS], by simp [capOk]⟩
  · simp only [hb, bO_some, bB_bool, bI_false]
    have e : absl H 3 0 (zrow [(.lit (.int .i64 0)), (.lit (.int .i64 0)), (.lit (.slice none 0 0))] 0) [] = some (.sl H.length 0 0 3 (.ex 0), H ++ [some (.cells [])]) := rfl
    simp only [e, bH_some]
    have g := Grew.app H [some (.cells [])]
    have h0 : sliceCells (H ++ [some (.cells [])]) 3 (.sl H.length 0 0 3 (.ex 0)) = some ([], 0) := by simp [sliceCells]
    obtain ⟨r, H2, a1, a2, a3, a4, a5, a6⟩ := aap_spec (sz := 3) (bytes := 40) (H := H ++ [some (.cells [])]) (v := .sl H.length 0 0 3 (.ex 0)) (cs := []) (n := 0) h0 rfl (appended_slice (g.slice h)) (by omega)
    have a7 := aap_cap h0 rfl (appended_slice (g.slice h)) (by simp [capOk]) a1
    simp only [a1, bH_some]
    refine ⟨a2, by simpa using a3, ⟨by simp at a4; omega, fun i hi => ?_⟩, fun i hi => ?_, by simpa using a7⟩
    · rw [a5 i (by simp; omega) (by simp [idS]; omega)]
      exact g.2 i hi
    · rcases a6 i hi with h | h
      · simp [idS] at h; omega
      · simp at h; omega)
/-- An image's two slices, of its own. -/
structure OwI (L : Nat) (ns : List Nm) (dv : List NdV) (a b : AV) (H : AH) : Prop where
  sa : sliceCells H 2 a = some (ns.flatMap encN, ns.length)
  oa : ownedS a = true
  ca : capOk a ns.length
  ia : ∀ i ∈ idS a, L ≤ i
  sb : sliceCells H 3 b = some (dv.flatMap encD, dv.length)
  ob : ownedS b = true
  cb : capOk b dv.length
  ib : ∀ i ∈ idS b, L ≤ i
  ab : ∀ i ∈ idS a, i ∉ idS b
def CopyK (H : AH) (ns : List Nm) (ds : List Nd) (r : AV) (H' : AH) : Prop := ∃ a b dv, r = .agg [a, b] ∧ dv.map NdV.nd = ds ∧ Grew H H' ∧ OwI H.length ns dv a b H'
theorem ImH.ow {L oi : Nat} {ns : List Nm} {dv : List NdV} {a b : AV} {H : AH} (h : ImH L oi ns dv a b H) : OwI L ns dv a b H := ⟨h.sa, h.oa, h.ca, h.ia, h.sb, h.ob, h.cb, h.ib, h.ab⟩
/-- One file's content is put anew. -/
theorem ImH.putD {L oi k : Nat} {ns : List Nm} {dv : List NdV} {a b R : AV} {H : AH} {x : NdV} {sz : Int} {l : List Ext} (h : ImH L oi ns dv a b H) (hx : dv[k]? = some x) (hR : SV encE 9 l R) :
    ∃ o off cells H', aixS 3 b (I k) = some (.ptr o off) ∧ H[o]? = some (some (.cells cells)) ∧ rdCells true 2 cells (off + 1) = some (.agg [I x.nd.size, x.R]) ∧ ast 2 H (.ptr o (off + 1)) (.agg [I sz, R]) = some H' ∧ ImH L oi ns (dv.set k ⟨⟨x.nd.ino, sz, l⟩, R, hR⟩) a b H' ∧ FrL L oi H H' := by
  obtain ⟨o, off, cells, u1, u2, u3, u4, u5, u6⟩ := own_at encD_len (by omega) h.sb h.ob hx
  have oL := h.ib o u2
  have hoo : o ≠ oi := fun e => h.noB (e ▸ u2)
  have hle := h.len
  have o2 := SV.oneA hR
  have hol := (List.getElem?_eq_some_iff.1 u3).1
  have rd1 : rdCells true 2 cells (off + 1) = some (.agg [I x.nd.size, x.R]) := by
    have e51 := u5 1 (by omega)
    have e52 := u5 2 (by omega)
    have l2 : off + 1 + 2 ≤ cells.length := by omega
    have : (cells.drop (off + 1)).take 2 = [I x.nd.size, x.R] := by
      rw [List.drop_eq_getElem_cons (by omega), List.drop_eq_getElem_cons (by omega)]
      rw [List.getElem?_eq_getElem (by omega)] at e51 e52
      simp [encD] at e51 e52
      simp [e51, e52]
    simp [rdCells, l2, this]
  refine ⟨o, off, cells, H.set o (some (.cells (splice cells (off + 1) [I sz, R]))), u1, u3, rd1, ?_, ⟨?_, h.lo, by simp; omega, ?_, h.oa, h.ca, h.ia, ?_, h.ob, by simpa using h.cb, h.ib, h.ab⟩, ⟨by simp, fun j h1 h2 => List.getElem?_set_ne (by omega)⟩⟩
  · rw [ast_ptr (n := 2) (xs := [I sz, R]) (by simp [o2]) u3 rfl (by omega)]
  · rw [List.getElem?_set_ne (by omega)]; exact h.obj
  · exact sliceCells_keep h.sa fun i hi => List.getElem?_set_ne (fun (e : o = i) => h.ab i hi (e ▸ u2))
  · have := u6 ⟨⟨x.nd.ino, sz, l⟩, R, hR⟩ 1 [I sz, R] rfl (by simp)
    simpa using this
theorem Copy_c {H : AH} {ns : List Nm} {dv : List NdV} {a b : AV} (sa : SV encN 2 ns a) (sb : SV encD 3 dv b) (hn : ns.length ≤ 100000) (hm : dv.length ≤ 100000) (hl : ∀ d ∈ dv, d.nd.l.length ≤ 1000000) :
    ∃ r H', CopyK H ns (dv.map NdV.nd) r H' ∧ BCall Try.prog 33 [.agg [a, b]] H r H' := image_Copy_ok (by
  unfold image_Copy
  have oa := SV.oneA sa
  have ob := SV.oneA sb
  obtain ⟨H3, e3, c0, c1, g3, l3⟩ : ∃ H3, anew (H ++ [some (.cells [a, b])]) (.agg [nilSl, nilSl]) = some (.ptr (H.length + 1) 0, H3) ∧ H3[H.length]? = some (some (.cells [a, b])) ∧ H3[H.length + 1]? = some (some (.cells [nilSl, nilSl])) ∧ Grew H H3 ∧ H3.length = H.length + 2 := by
    refine ⟨H ++ [some (.cells [a, b]), some (.cells [nilSl, nilSl])], by simp, by simp, by rw [List.getElem?_append_right (by omega)]; simp, Grew.app _ _, by simp⟩
  simp [oa, ob, e3, c0]
  obtain ⟨ra, H7, ⟨p1, p2, p3, p4, p5⟩, p6⟩ := cloneN_c (sa.2 H3) (by omega)
  refine bC_of p6 ?_
  have c7 := p3.cells c0
  simp [c7]
  obtain ⟨rb, H11, ⟨q1, q2, q3, q4, q5⟩, q6⟩ := cloneD_c (sb.2 H7) (by omega)
  refine bC_of q6 ?_
  have c8 := q3.cells c7
  have ra1 := oneA_owned p1
  have rb1 := oneA_owned q1
  have l7 := p3.1
  have l11 := q3.1
  have i0 : ImH (H.length + 2) H.length ns dv ra rb (H11.set H.length (some (.cells [ra, rb]))) := by
    refine ⟨by rw [List.getElem?_set_self (by omega)], ⟨fun q => by have := p4 _ q; omega, fun q => by have := q4 _ q; omega⟩, by rw [List.length_set]; omega, ?_, p1, p5, fun i hi => by have := p4 i hi; omega, ?_, q1, q5, fun i hi => by have := q4 i hi; omega, fun i hi hh => ?_⟩
    · exact sliceCells_keep (q3.slice p2) fun i hi => List.getElem?_set_ne (by have := p4 i hi; omega)
    · exact sliceCells_keep q2 fun i hi => List.getElem?_set_ne (by have := q4 i hi; omega)
    · have := q4 i hh; have := sliceCells_lt p2 i hi; omega
  have e13 : ast 2 H11 (.ptr H.length 0) (.agg [ra, rb]) = some (H11.set H.length (some (.cells [ra, rb]))) := by
    rw [ast_ptr (n := 2) (off := 0) (xs := [ra, rb]) (by simp [ra1, rb1]) c8 rfl (by simp)]; rfl
  have g13 : Grew H (H11.set H.length (some (.cells [ra, rb]))) := ⟨by simp; omega, fun i hi => by rw [List.getElem?_set_ne (by omega), (g3.trans (p3.trans q3)).2 i hi]⟩
  have c13 : (H11.set H.length (some (.cells [ra, rb])))[H.length + 1]? = some (some (.cells [nilSl, nilSl])) := by
    rw [List.getElem?_set_ne (by omega)]; exact q3.cells (p3.cells c1)
  generalize H11.set H.length (some (.cells [ra, rb])) = H13 at i0 e13 g13 c13
  have d0 := i0.obj
  simp [cellsA_one ra1, cellsA_one rb1, e13]
  have ln := alnS_spec i0.sb
  simp [d0, ln]
  refine image_Copy_L4_rule (fun n x1 x2 x13 x14 H' => ∃ (k : Nat) (ew : List NdV), k + n = dv.length ∧ x1 = .ptr H.length 0 ∧ x2 = .ptr (H.length + 1) 0 ∧ x13 = I dv.length ∧ x14 = I k ∧ ew.map NdV.nd = dv.map NdV.nd ∧ ImH (H.length + 2) H.length ns ew ra rb H' ∧ Grew H H' ∧ H'[H.length + 1]? = some (some (.cells [nilSl, nilSl]))) ?_ dv.length ⟨0, dv, by omega, rfl, rfl, rfl, rfl, rfl, i0, g13, c13⟩
  rintro n x1 x2 x13 x14 H' R hR ⟨k, ew, hk, rfl, rfl, rfl, rfl, hew, hi, hg, hc⟩
  unfold image_Copy_L4_b
  have el : ew.length = dv.length := by have := congrArg List.length hew; simpa using this
  have e0 := hi.obj
  rcases Nat.lt_or_ge k dv.length with h | h
  · have hx := List.getElem?_eq_getElem (l := ew) (i := k) (by omega)
    generalize ew[k] = x at hx
    have hxl : x.nd.l.length ≤ 1000000 := by
      have h1 : x.nd ∈ ew.map NdV.nd := List.mem_map_of_mem (List.mem_of_getElem? hx)
      rw [hew] at h1
      obtain ⟨d, hd, e⟩ := List.mem_map.1 h1
      rw [← e]; exact hl d hd
    obtain ⟨R2, s2, p2⟩ := copied_p (size := x.nd.size) x.h (by omega)
    obtain ⟨o, off, cells, H2, w1, w2, w3, w4, w5, w6⟩ := hi.putD (sz := x.nd.size) hx s2
    simp [h, e0, w1, w2, w3]
    refine bP_of p2 ?_
    simp [w4, abI_add (a := k) (b := 1) (by omega) (by omega)]
    refine hR (n - 1) _ _ _ _ _ (by omega) ⟨k + 1, _, by omega, rfl, rfl, rfl, by simp, ?_, w5, ⟨by have := hg.1; have := w6.1; omega, fun i hi2 => by rw [w6.2 i (by omega) (by omega), hg.2 i hi2]⟩, by rw [w6.2 _ (by omega) (by omega)]; exact hc⟩
    rw [← hew, List.map_set]
    refine List.ext_getElem? fun j => ?_
    rw [List.getElem?_set]
    split
    · rename_i hj
      subst hj
      rw [List.getElem?_map, hx]
      simp; omega
    · rfl
  · have b0 : rdCells true 2 [ra, rb] 0 = some (.agg [ra, rb]) := rfl
    have hcl := (List.getElem?_eq_some_iff.1 hc).1
    have e5 : ast 2 H' (.ptr (H.length + 1) 0) (.agg [ra, rb]) = some (H'.set (H.length + 1) (some (.cells [ra, rb]))) := by
      rw [ast_ptr (n := 2) (off := 0) (xs := [ra, rb]) (by simp [ra1, rb1]) hc rfl (by simp)]; rfl
    simp [show ¬ k < dv.length by omega, e0, b0, e5, hcl]
    refine ⟨ra, rb, ew, rfl, hew, ⟨by simpa using hg.1, fun i hi2 => by rw [List.getElem?_set_ne (by omega), hg.2 i hi2]⟩, ⟨?_, hi.oa, hi.ca, fun i q => by have := hi.ia i q; omega, ?_, hi.ob, hi.cb, fun i q => by have := hi.ib i q; omega, hi.ab⟩⟩
    · exact sliceCells_keep hi.sa fun i q => List.getElem?_set_ne (by have := hi.ia i q; omega)
    · exact sliceCells_keep hi.sb fun i q => List.getElem?_set_ne (by have := hi.ib i q; omega))
/-! a change -/
def creI (ns : List Nm) (ds : List Nd) (o : OpM) : Prop := ¬ hasK Nm.name ns o.name ∧ ¬ hasK Nd.ino ds o.ino ∧ mayN o.name ∧ 1 ≤ o.ino ∧ o.ino ≤ 4611686018427387904 ∧ ns.length < 16
instance (ns : List Nm) (ds : List Nd) (o : OpM) : Decidable (creI ns ds o) := by unfold creI; infer_instance
def remD (ns : List Nm) (ds : List Nd) (s : List UInt8) : List Nd := if hasK Nm.name ns s then delK cmpI Nd.ino ds (nameI ns s) else ds
/-- What any change makes of names and files. -/
def applyI (ns : List Nm) (ds : List Nd) (o : OpM) : List Nm × List Nd :=
  if mayI ns ds then
    if o.kind = 1 then (if creI ns ds o then (insK cmpN Nm.name ns ⟨o.name, o.ino⟩, insK cmpI Nd.ino ds ⟨o.ino, 0, []⟩) else (ns, ds))
    else if o.kind = 2 ∨ o.kind = 3 ∨ o.kind = 4 ∨ o.kind = 5 then (ns, chgD ds o)
    else if o.kind = 6 then (if renOk ns o.name o.to then (insK cmpN Nm.name (remNs (delK cmpN Nm.name ns o.name) o.to) ⟨o.to, nameI ns o.name⟩, remD (delK cmpN Nm.name ns o.name) ds o.to) else (ns, ds))
    else if o.kind = 7 then (remNs ns o.name, remD ns ds o.name)
    else (ns, ds)
  else (ns, ds)
theorem insK_map {dv : List NdV} {i : Int} : (insK cmpI NdV.ino dv (newD i)).map NdV.nd = insK cmpI Nd.ino (dv.map NdV.nd) ⟨i, 0, []⟩ := by
  unfold insK
  rw [posK_map, List.map_append, List.map_cons, List.map_take, List.map_drop]
  rfl
theorem delK_map {dv : List NdV} {k : Int} : (delK cmpI NdV.ino dv k).map NdV.nd = delK cmpI Nd.ino (dv.map NdV.nd) k := by
  unfold delK
  rw [posK_map, List.map_append, List.map_take, List.map_drop]
theorem remDv_map {ns : List Nm} {dv : List NdV} {s : List UInt8} : (remDv ns dv s).map NdV.nd = remD ns (dv.map NdV.nd) s := by
  unfold remDv remD
  split
  · exact delK_map
  · rfl
theorem creOk_map {ns : List Nm} {dv : List NdV} {o : OpM} : creI ns (dv.map NdV.nd) o ↔ creOk ns dv o := by
  unfold creI creOk
  rw [hasK_map]
def ApK (p : List Nm × List Nd) (r : AV) (X : AH) : Prop := ∃ R, FZ X r R ∧ ImV p.1 p.2 R
theorem apply_fin {ns : List Nm} {dv : List NdV} {a b : AV} {H : AH} {p : List Nm × List Nd} (h : ImH 3 0 ns dv a b H) (h2 : H[2]? = some (some (.cells [nilSl, nilSl]))) (hp : p = (ns, dv.map NdV.nd)) : image_Apply_J5 (.ptr 0 0) (.ptr 2 0) H (ApK p) := by
  rw [image_Apply_J5_eq]; unfold image_Apply_J5_b
  have c0 := h.obj
  have b0 : rdCells true 2 [a, b] 0 = some (.agg [a, b]) := rfl
  have ra1 := oneA_owned h.oa
  have rb1 := oneA_owned h.ob
  have hcl := (List.getElem?_eq_some_iff.1 h2).1
  have e5 : ast 2 H (.ptr 2 0) (.agg [a, b]) = some (H.set 2 (some (.cells [a, b]))) := by
    rw [ast_ptr (n := 2) (off := 0) (xs := [a, b]) (by simp [ra1, rb1]) h2 rfl (by simp)]; rfl
  simp [c0, b0, e5, hcl]
  have h3 : ImH 3 0 ns dv a b (H.set 2 (some (.cells [a, b]))) := ⟨by rw [List.getElem?_set_ne (by omega)]; exact c0, h.lo, by simpa using h.len, sliceCells_keep h.sa fun i q => List.getElem?_set_ne (by have := h.ia i q; omega), h.oa, h.ca, h.ia, sliceCells_keep h.sb fun i q => List.getElem?_set_ne (by have := h.ib i q; omega), h.ob, h.cb, h.ib, h.ab⟩
  obtain ⟨Ra, Rb, sa, sb, fz⟩ := h3.lend
  subst hp
  exact ⟨_, fz, Ra, Rb, dv, rfl, sa, sb, rfl⟩
theorem Apply_p {ns : List Nm} {ds : List Nd} {v bv : AV} {o : OpM} (hv : ImV ns ds v) (hb : Sm ns ds) (hbv : SV encU 1 o.b bv) (hbl : o.b.length ≤ 281474976710656) (hn : o.name.length ≤ 1000000000) (ht : o.to.length ≤ 1000000000) :
    ∃ R, ImV (applyI ns ds o).1 (applyI ns ds o).2 R ∧ BPure Try.prog 18 [v, .agg (opA o bv)] R := by
  have hids := hv.noIds
  refine BPure.FZ (by simp [noIdss] at hids ⊢; exact ⟨hids, by simp [opA, noIds, noIdss, hbv.1]⟩) (image_Apply_ok (K := ApK (applyI ns ds o)) ?_)
  obtain ⟨a, b, dv, rfl, sa, sb, rfl⟩ := hv
  have b1 := hb.1
  have b2 := hb.2.1
  rw [List.length_map] at b2
  have oa := SV.oneA sa
  have ob := SV.oneA sb
  have o3 := SV.oneA hbv
  unfold image_Apply
  obtain ⟨H5, e5, c0, c1, c2, l5⟩ : ∃ H5, anew [some (.cells [a, b]), some (.cells (opA o bv))] (.agg [nilSl, nilSl]) = some (.ptr 2 0, H5) ∧ H5[0]? = some (some (.cells [a, b])) ∧ H5[1]? = some (some (.cells (opA o bv))) ∧ H5[2]? = some (some (.cells [nilSl, nilSl])) ∧ H5.length = 3 :=
    ⟨[some (.cells [a, b]), some (.cells (opA o bv)), some (.cells [nilSl, nilSl])], by simp, rfl, rfl, rfl, rfl⟩
  have e4 : anew [some (.cells [a, b])] (.agg (opA o bv)) = some (.ptr 1 0, [some (.cells [a, b]), some (.cells (opA o bv))]) := by simp [opA, o3]
  have b0 : ∀ x y : AV, rdCells true 2 [x, y] 0 = some (.agg [x, y]) := fun _ _ => rfl
  simp [oa, ob, e4, e5, c0, b0]
  obtain ⟨r, H8, ⟨a', b', ew, rfl, hew, hg, ow⟩, hc⟩ := Copy_c (H := H5) sa sb (by omega) b2 (fun d hd => hb.2.2.2 d.nd (List.mem_map_of_mem hd))
  refine bC_of hc ?_
  have a1 := oneA_owned ow.oa
  have a2 := oneA_owned ow.ob
  have l8 := hg.1
  rw [l5] at ow
  have e9 : ast 2 H8 (.ptr 0 0) (.agg [a', b']) = some (H8.set 0 (some (.cells [a', b']))) := by
    rw [ast_ptr (n := 2) (off := 0) (xs := [a', b']) (by simp [a1, a2]) (hg.cells c0) rfl (by simp)]; rfl
  have i9 : ImH 3 0 ns ew a' b' (H8.set 0 (some (.cells [a', b']))) := ⟨by rw [List.getElem?_set_self (by omega)], ⟨fun q => by have := ow.ia _ q; omega, fun q => by have := ow.ib _ q; omega⟩, by rw [List.length_set]; omega, sliceCells_keep ow.sa fun i q => List.getElem?_set_ne (by have := ow.ia i q; omega), ow.oa, ow.ca, ow.ia, sliceCells_keep ow.sb fun i q => List.getElem?_set_ne (by have := ow.ib i q; omega), ow.ob, ow.cb, ow.ib, ow.ab⟩
  have k1 : (H8.set 0 (some (.cells [a', b'])))[1]? = some (some (.cells (opA o bv))) := by rw [List.getElem?_set_ne (by omega)]; exact hg.cells c1
  have k2 : (H8.set 0 (some (.cells [a', b'])))[2]? = some (some (.cells [nilSl, nilSl])) := by rw [List.getElem?_set_ne (by omega)]; exact hg.cells c2
  simp only [e9, bS_some]
  generalize H8.set 0 (some (.cells [a', b'])) = H9 at i9 k1 k2
  have d0 := i9.obj
  obtain ⟨Ra, Rb, ta, tb, fz⟩ := i9.lend
  have hsm : Sm ns (ew.map NdV.nd) := by rw [hew]; exact hb
  have keep : ∀ {H' : AH}, FrL 3 0 H9 H' → H'[2]? = some (some (.cells [nilSl, nilSl])) := fun f => by rw [f.2 2 (by omega) (by omega)]; exact k2
  rw [← hew]
  have b8 : rdCells true 8 (opA o bv) 0 = some (.agg (opA o bv)) := rfl
  have el : ew.length = dv.length := by have := congrArg List.length hew; simpa using this
  have hlw : ∀ d ∈ ew, d.nd.l.length ≤ 1000000 := fun d hd => hsm.2.2.2 d.nd (List.mem_map_of_mem hd)
  simp [d0, b0]
  refine bP_of (PCall.lend (FZs.cons fz FZs.nil) rfl (May_p ⟨Ra, Rb, ew, rfl, ta, tb, rfl⟩ hsm)) ?_
  by_cases hm : mayI ns (ew.map NdV.nd)
  · have hs := hm.1.2.2.1
    have hd := srtK_map.1 hm.2.2.1
    have hx : ∀ x ∈ ns, hasK NdV.ino ew x.ino := fun x hx => hasK_map.1 ((mayI_doc.1 hm).2.2.2.2.1 x hx)
    simp [hm, k1, opA]
    by_cases q1 : o.kind = 1
    · have e : applyI ns (ew.map NdV.nd) o = (creNs ns ew o, (creDv ns ew o).map NdV.nd) := by
        unfold applyI creNs creDv
        rw [if_pos hm, if_pos q1]
        by_cases hc : creOk ns ew o
        · rw [if_pos hc, if_pos hc, if_pos (creOk_map.2 hc), insK_map]
        · rw [if_neg hc, if_neg hc, if_neg (fun h => hc (creOk_map.1 h))]
      rw [decide_eq_true q1]
      simp only [bI_true]
      obtain ⟨r2, H2, ⟨rfl, a3, b3, i3, f3⟩, w3⟩ := create_c i9 hs hd o3 b1 (by omega) hn
      refine bC_of w3 ?_
      exact apply_fin i3 (keep f3) e
    · have hJ8 : ∀ t : Bool, (t = true ↔ (o.kind = 2 ∨ o.kind = 3 ∨ o.kind = 4 ∨ o.kind = 5)) → image_Apply_J8 (.ptr 0 0) (.ptr 1 0) (.ptr 2 0) (I o.kind) (B t) H9 (ApK (applyI ns (ew.map NdV.nd) o)) := by
        intro t htt
        rw [image_Apply_J8_eq]; unfold image_Apply_J8_b
        by_cases q2 : o.kind = 2 ∨ o.kind = 3 ∨ o.kind = 4 ∨ o.kind = 5
        · rw [htt.2 q2]
          have e : applyI ns (ew.map NdV.nd) o = (ns, chgD (ew.map NdV.nd) o) := by
            unfold applyI
            rw [if_pos hm, if_neg q1, if_pos q2]
          simp [k1, b8]
          obtain ⟨r2, H2, ⟨rfl, a3, b3, dw, hdw, i3, f3⟩, w3⟩ := change_c i9 hs hd hbv (by omega) hbl hlw q2
          refine bC_of w3 ?_
          exact apply_fin i3 (keep f3) (by rw [hdw]; exact e)
        · have : t = false := by cases t with
            | true => exact absurd (htt.1 rfl) q2
            | false => rfl
          subst this
          simp
          rw [image_Apply_J12_eq]; unfold image_Apply_J12_b
          by_cases q6 : o.kind = 6
          · have e : applyI ns (ew.map NdV.nd) o = (renNs ns o.name o.to, (renDv ns ew o.name o.to).map NdV.nd) := by
              unfold applyI renNs renDv
              rw [if_pos hm, if_neg q1, if_neg q2, if_pos q6]
              by_cases hc : renOk ns o.name o.to
              · rw [if_pos hc, if_pos hc, if_pos hc, remDv_map]
              · rw [if_neg hc, if_neg hc, if_neg hc]
            simp [q6, k1, opA]
            obtain ⟨r2, H2, ⟨rfl, a3, b3, i3, f3⟩, w3⟩ := rename_c (s := o.name) (t := o.to) i9 hs hd hx b1 (by omega) ht
            refine bC_of w3 ?_
            exact apply_fin i3 (keep f3) e
          · simp [q6]
            rw [image_Apply_J13_eq]; unfold image_Apply_J13_b
            by_cases q7 : o.kind = 7
            · have e : applyI ns (ew.map NdV.nd) o = (remNs ns o.name, (remDv ns ew o.name).map NdV.nd) := by
                unfold applyI
                rw [if_pos hm, if_neg q1, if_neg q2, if_neg q6, if_pos q7, remDv_map]
              simp [q7, k1, opA]
              obtain ⟨r2, H2, ⟨rfl, a3, b3, i3, f3⟩, w3⟩ := remove_c (s := o.name) i9 hs hd hx b1 (by omega)
              refine bC_of w3 ?_
              exact apply_fin i3 (keep f3) e
            · have e : applyI ns (ew.map NdV.nd) o = (ns, ew.map NdV.nd) := by
                unfold applyI
                rw [if_pos hm, if_neg q1, if_neg q2, if_neg q6, if_neg q7]
              simp [q7]
              exact apply_fin i9 k2 e
      simp [q1]
      by_cases w2 : o.kind = 2
      · simp [w2]
        have := hJ8 true (by simp [w2]); rwa [w2] at this
      · by_cases w3 : o.kind = 3
        · simp [w3]
          have := hJ8 true (by simp [w3]); rwa [w3] at this
        · by_cases w4 : o.kind = 4
          · simp [w4]
            have := hJ8 true (by simp [w4]); rwa [w4] at this
          · simp [w2, w3, w4]
            exact hJ8 (decide (o.kind = 5)) (by simp [w2, w3, w4])
  · have e : applyI ns (ew.map NdV.nd) o = (ns, ew.map NdV.nd) := by unfold applyI; rw [if_neg hm]
    have := apply_fin i9 k2 e
    rw [image_Apply_J5_eq] at this; unfold image_Apply_J5_b at this
    simp [d0, b0] at this
    simp [hm]
    exact this
end Go.Proofs.Ytpnfdibgfichmaa.Av
end
/-! YtpnfdibgfichmaaAvExtH -/
section
/- Chapter 11: the document's own other size, and holes. -/
set_option linter.unusedVariables false
set_option linter.unusedSimpArgs false
set_option maxRecDepth 100000
namespace Go.Proofs.Ytpnfdibgfichmaa.Av
open Go Go.RowKit
theorem enc_set0 {x y : Ext} {j : Nat} (hn : y.no = x.no) (hj : j < 8) (h : ∀ k, k < 8 → y.b.getD k 0 = if k = j then 0 else x.b.getD k 0) : (encE x).set (1 + j) (.lit (.int .u8 0)) = encE y := by
  refine List.ext_getElem? fun q => ?_
  rw [List.getElem?_set]
  cases q with
  | zero => rw [if_neg (by omega)]; simp [encE, hn]
  | succ q =>
    by_cases hq : q < 8
    · rw [encE_get _ hq, encE_get _ hq, h q hq, encE_len]
      by_cases c : 1 + j = q + 1
      · rw [if_pos c, if_pos (by omega), if_pos (by omega)]; rfl
      · rw [if_neg c, if_neg (by omega)]
    · rw [List.getElem?_eq_none (by rw [encE_len]; omega), List.getElem?_eq_none (by rw [encE_len]; omega), encE_len]
      rw [if_neg (by omega)]
theorem wipe_none {x : Ext} {a b : Int} (h : b ≤ a ∨ b ≤ x.no * 8 ∨ x.no * 8 + 8 ≤ a) : wipeE x a b = x := ext_eq rfl fun k hk => by rw [wipeE_get hk, if_neg (by omega)]
/-- What is built: the parts of a content, in objects 0, 1 and 2. -/
def BuildP (a v : AV) (s : Int) (F : List Ext) (w : AV) (H : AH) : Prop :=
  H[0]? = some (some (.cells [a, v])) ∧ H[1]? = some (some (.cells [I 0, nilSl])) ∧ H[2]? = some (some (.cells [I s, w])) ∧ sliceCells H 9 w = some (F.flatMap encE, F.length) ∧ ownedS w = true ∧ ∀ j, j < 3 → j ∉ idS w
theorem BuildP.grew {a v w : AV} {s : Int} {F : List Ext} {H H' : AH} (h : BuildP a v s F w H) (g : Grew H H') : BuildP a v s F w H' := by
  obtain ⟨h0, h1, h2, h3, h4, h5⟩ := h
  exact ⟨g.cells h0, g.cells h1, g.cells h2, g.slice h3, h4, h5⟩
theorem BuildP.other {a v w : AV} {s : Int} {F : List Ext} {H : AH} (h : BuildP a v s F w H) {o : Nat} {x : Option AObj} (ho : 3 ≤ o) (hw : o ∉ idS w) : BuildP a v s F w (H.set o x) := by
  obtain ⟨h0, h1, h2, h3, h4, h5⟩ := h
  exact ⟨(List.getElem?_set_ne (by omega)).trans h0, (List.getElem?_set_ne (by omega)).trans h1, (List.getElem?_set_ne (by omega)).trans h2, sliceCells_keep h3 fun i hi => List.getElem?_set_ne (fun (e : o = i) => hw (e ▸ hi)), h4, h5⟩
theorem BuildP.add {a v w : AV} {s : Int} {F : List Ext} {H : AH} (h : BuildP a v s F w H) (Y : Ext) (hF : F.length ≤ 10000000) :
    ∃ r H2 H3, aap 9 16 (H ++ [some (.cells (encE Y))]) w (.sl H.length 0 1 9 (.ex 1)) = some (r, H2) ∧ H2[2]? = some (some (.cells [I s, w])) ∧ oneA r = true ∧ H3 = H2.set 2 (some (.cells [I s, r])) ∧ BuildP a v s (F ++ [Y]) r H3 ∧ H.length ≤ H3.length := by
  obtain ⟨h0, h1, h2, h3, h4, h5⟩ := h
  have g := Grew.app H [some (.cells (encE Y))]
  obtain ⟨r, H2, b1, b2, b3, b4, b5, b6⟩ := aap_spec (sz := 9) (bytes := 16) (g.slice h3) h4 (appended_slice (v := .sl H.length 0 1 9 (.ex 1)) (q := (encE Y, 1)) (by simp [sliceCells, encE_len, List.take_of_length_le])) (by omega)
  have hl := (List.getElem?_eq_some_iff.1 h2).1
  have k : ∀ j, j < 3 → H2[j]? = H[j]? := fun j hj => by rw [b5 j (by simp; omega) (h5 j hj), g.2 j (by omega)]
  have hid : ∀ j, j < 3 → j ∉ idS r := fun j hj h => (b6 j h).elim (h5 j hj) (fun h => by simp at h; omega)
  have hl2 : 2 < H2.length := by simp at b4; omega
  refine ⟨r, H2, _, b1, by rw [k 2 (by omega)]; exact h2, oneA_owned b2, rfl, ⟨?_, ?_, List.getElem?_set_self hl2, ?_, b2, hid⟩, by simp at b4; simp; omega⟩
  · rw [List.getElem?_set_ne (by omega), k 0 (by omega)]; exact h0
  · rw [List.getElem?_set_ne (by omega), k 1 (by omega)]; exact h1
  · rw [sliceCells_keep b3 fun i hi => List.getElem?_set_ne (fun (e : 2 = i) => hid 2 (by omega) (e ▸ hi))]
    simp [List.flatMap_append]
theorem absl_e {H : AH} (Y : Ext) : absl H 9 1 (zrow [(.lit (.int .i64 0)), (.lit (.int .u8 0)), (.lit (.int .u8 0)), (.lit (.int .u8 0)), (.lit (.int .u8 0)), (.lit (.int .u8 0)), (.lit (.int .u8 0)), (.lit (.int .u8 0)), (.lit (.int .u8 0))] 1) [(0, 9, .agg (encE Y))] = some (.sl H.length 0 1 9 (.ex 1), H ++ [some (.cells (encE Y))]) := by
  have hl := encE_len Y
  have e : zrow [(.lit (.int .i64 0)), (.lit (.int .u8 0)), (.lit (.int .u8 0)), (.lit (.int .u8 0)), (.lit (.int .u8 0)), (.lit (.int .u8 0)), (.lit (.int .u8 0)), (.lit (.int .u8 0)), (.lit (.int .u8 0))] 1 = encE (newE 0) := rfl
  rw [e]
  have hz := encE_len (newE 0)
  have : fillR (encE (newE 0)) [(0, 9, .agg (encE Y))] = some (encE Y) := by
    rw [fillR_cons]
    simp only [cellsA_agg, encE_all, if_true]
    rw [if_pos ⟨hl, by omega⟩, splice_eq _ _ _ (by omega), List.take_zero, List.nil_append, List.drop_of_length_le (by omega), List.append_nil]
    rfl
  unfold absl
  rw [this]; rfl
theorem ref_TruncateContent_p {size0 : Int} {l : List Ext} {v : AV} (hv : SV encE 9 l v) (hl : l.length ≤ 1000000) (size : Int) :
    ∃ R, SV encE 9 (cL (truncC (size0, l) size)) R ∧ BPure Try.prog 78 [.agg [I size0, v], I size] (.tup [.agg [I (cS (truncC (size0, l) size)), R], B (truncC (size0, l) size).isSome]) := by
  refine BPure.cont (by simp [noIdss, noIds, hv.1]) (salvorref11_TruncateContent_ok ?_)
  unfold salvorref11_TruncateContent
  simp [oneA_sv hv, rdCells]
  refine bP_pure (ref_MayContent_p hv (by omega)) ?_
  by_cases h1 : mayC size0 l
  · by_cases h2 : size < 0
    · have hn : truncC (size0, l) size = none := if_neg (fun h => by omega)
      simp [h1, h2, ast]
      exact ContK.none hn
    · by_cases h3 : 1099511627776 < size
      · have hn : truncC (size0, l) size = none := if_neg (fun h => by omega)
        simp [h1, h2, h3, ast]
        exact ContK.none hn
      · have hw : truncC (size0, l) size = some (size, truncL l size) := if_pos ⟨h1, by omega, by omega⟩
        simp [h1, h2, h3, ast]
        have hno := fun x hx => (okL_all h1.2.2 x hx)
        have hstep : ∀ (k : Nat) (y : Ext), l[k]? = some y → truncL (l.take (k + 1)) size = truncL (l.take k) size ++ if y.no * 8 < size then [wipeE y size 1099511627776] else [] := by
          intro k y hy
          unfold truncL wipeL
          rw [List.take_add_one, hy, List.filter_append, List.map_append]
          congr 1
          split <;> simp [*]
        have hlenF : ∀ k, (truncL (l.take k) size).length ≤ l.length := fun k => by
          unfold truncL wipeL
          rw [List.length_map]
          exact Nat.le_trans (List.length_filter_le _ _) (by rw [List.length_take]; omega)
        refine salvorref11_TruncateContent_L7_rule (fun t x1 x2 x4 x6 x7 H => ∃ (k : Nat) (w : AV), k + t = l.length ∧ x1 = I size ∧ x2 = .ptr 0 0 ∧ x4 = .ptr 1 0 ∧ x6 = .ptr 2 0 ∧ x7 = I k ∧ BuildP (I size0) v size (truncL (l.take k) size) w H) ?_ l.length
          ⟨0, nilSl, by omega, rfl, rfl, rfl, rfl, rfl, rfl, rfl, rfl, rfl, rfl, by simp [idS]⟩
        rintro t x1 x2 x4 x6 x7 H R hR ⟨k, w, hk, rfl, rfl, rfl, rfl, rfl, hB⟩
        unfold salvorref11_TruncateContent_L7_b
        have hB' := hB
        obtain ⟨e0, e1, e2, e3, e4, e5⟩ := hB'
        have hH2 := (List.getElem?_eq_some_iff.1 e2).1
        rcases Nat.lt_or_ge k l.length with hlt | hge
        · have hx := List.getElem?_eq_getElem hlt
          generalize l[k] = y at hx
          have hy := hno y (List.mem_of_getElem? hx)
          have g := Grew.app H [some (.cells (encE y))]
          simp [e0, hv.len, hlt, hv.idx encE_len hx rfl, -ald_ptr', ald_ptr e0]
          rw [ast_e (by simp) (by rfl)]
          have nxt : ∀ H2 w2, BuildP (I size0) v size (truncL (l.take (k + 1)) size) w2 H2 → salvorref11_TruncateContent_J10 R (I size) (.ptr 0 0) (.ptr 1 0) (.ptr 2 0) (I k) H2 (ContK (truncC (size0, l) size)) := by
            intro H2 w2 h2
            rw [salvorref11_TruncateContent_J10_eq]
            unfold salvorref11_TruncateContent_J10_b
            simp [abI_add (a := k) (b := 1) (by omega) (by omega)]
            exact hR (t - 1) _ _ _ _ _ _ (by omega) ⟨k + 1, w2, by omega, rfl, rfl, rfl, rfl, rfl, h2⟩
          by_cases hc : size ≤ y.no * 8
          · simp [abI_mul (a := y.no) (b := 8) (by omega) (by omega), hc]
            refine nxt _ w ?_
            rw [hstep k y hx, if_neg (by omega), List.append_nil]
            exact hB.grew g
          · simp [abI_mul (a := y.no) (b := 8) (by omega) (by omega), hc]
            have hxo : H.length ∉ idS w := fun h => by have := sliceCells_lt e3 _ h; omega
            refine salvorref11_TruncateContent_L16_rule R (fun q z1 z2 z4 z6 z7 z8 z9 H2 => ∃ j : Nat, j + q = 8 ∧ z1 = I size ∧ z2 = .ptr 0 0 ∧ z4 = .ptr 1 0 ∧ z6 = .ptr 2 0 ∧ z7 = I k ∧ z8 = .ptr H.length 0 ∧ z9 = I j ∧ BuildP (I size0) v size (truncL (l.take k) size) w H2 ∧ H2[H.length]? = some (some (.cells (encE (wipeE y size (y.no * 8 + j)))))) ?_ 8
              ⟨0, rfl, rfl, rfl, rfl, rfl, rfl, rfl, rfl, hB.grew g, by rw [wipe_none (.inr (.inl (by omega)))]; simp⟩
            rintro q z1 z2 z4 z6 z7 z8 z9 H2 R2 hR2 ⟨j, hj, rfl, rfl, rfl, rfl, rfl, rfl, rfl, hB2, hxc⟩
            unfold salvorref11_TruncateContent_L16_b
            have hxol := (List.getElem?_eq_some_iff.1 hxc).1
            have nxt2 : ∀ H3, BuildP (I size0) v size (truncL (l.take k) size) w H3 → H3[H.length]? = some (some (.cells (encE (wipeE y size (y.no * 8 + ((j + 1 : Nat) : Int)))))) → j < 8 → salvorref11_TruncateContent_J19 R2 R (I size) (.ptr 0 0) (.ptr 1 0) (.ptr 2 0) (I k) (.ptr H.length 0) (I j) H3 (ContK (truncC (size0, l) size)) := by
              intro H3 h1 h2 h3
              rw [salvorref11_TruncateContent_J19_eq]
              unfold salvorref11_TruncateContent_J19_b
              simp [abI_add (a := j) (b := 1) (by omega) (by omega)]
              exact hR2 (q - 1) _ _ _ _ _ _ _ _ (by omega) ⟨j + 1, by omega, rfl, rfl, rfl, rfl, rfl, rfl, rfl, h1, h2⟩
            rcases Nat.lt_or_ge j 8 with hlj | hgj
            · have hlj' : (j : Int) < 8 := by omega
              have hn0 : (encE (wipeE y size (y.no * 8 + j)))[0]? = some (I y.no) := rfl
              simp [hlj', hxc, hn0, abI_mul (a := y.no) (b := 8) (by omega) (by omega), abI_add (a := y.no * 8) (b := j) (by omega) (by omega)]
              by_cases hs : size ≤ y.no * 8 + j
              · have e1 : aixA 8 1 (.ptr H.length 1) (I j) = some (.ptr H.length (1 + j)) := by
                  simp [aixA, aint]; omega
                have hwl := encE_len (wipeE y size (y.no * 8 + j))
                simp [hs, e1]
                rw [ast_ptr (n := 1) (off := 1 + j) (xs := [.lit (.int .u8 0)]) rfl hxc rfl (by omega)]
                simp
                refine nxt2 _ (hB2.other (by omega) hxo) ?_ hlj
                rw [List.getElem?_set_self hxol, enc_set0 (x := wipeE y size (y.no * 8 + j)) (y := wipeE y size (y.no * 8 + ((j + 1 : Nat) : Int))) rfl hlj]
                intro a ha
                rw [wipeE_get ha, wipeE_get ha]
                by_cases c1 : a = j
                · rw [if_pos c1, if_pos (by omega)]
                · rw [if_neg c1]
                  by_cases c2 : size ≤ y.no * 8 + (a : Int) ∧ y.no * 8 + (a : Int) < y.no * 8 + j
                  · rw [if_pos c2, if_pos (by omega)]
                  · rw [if_neg c2, if_neg (by omega)]
              · simp [hs]
                refine nxt2 _ hB2 ?_ hlj
                rw [hxc, wipe_none (.inl (by omega)), wipe_none (.inl (by omega))]
            · have : j = 8 := by omega
              subst this
              have hY : wipeE y size (y.no * 8 + ((8 : Nat) : Int)) = wipeE y size 1099511627776 := ext_eq rfl fun a ha => by
                rw [wipeE_get ha, wipeE_get ha]
                by_cases c2 : size ≤ y.no * 8 + (a : Int)
                · rw [if_pos (by omega), if_pos (by omega)]
                · rw [if_neg (by omega), if_neg (by omega)]
              rw [hY] at hxc
              obtain ⟨d0, d1, d2, d3, d4, d5⟩ := hB2
              obtain ⟨r, H4, H5, q1, q2, q3, q4, q5, q6⟩ := BuildP.add ⟨d0, d1, d2, d3, d4, d5⟩ (wipeE y size 1099511627776) (by have := hlenF k; omega)
              simp only [show ¬ ((8 : Nat) : Int) < 8 by omega, abI_lss, bO_some, decide_false, bB_bool, bI_false, ashift_ptr, Nat.zero_add, Nat.add_zero, ald_ptr d2, rdCells_one, ald_ptr hxc, rd_e']
              simp only [List.getElem?_cons_succ, List.getElem?_cons_zero, bO_some, absl_e, bH_some, q1]
              rw [ast_ptr (n := 1) (off := 1) (xs := [r]) (cs := [I size, w]) (cellsA_one q3) q2 rfl (by simp)]
              simp
              refine nxt _ r ?_
              rw [hstep k y hx, if_pos (by omega)]
              rw [q4] at q5
              exact q5
        · have : k = l.length := by omega
          subst this
          have hko := oneA_owned e4
          simp [hv.len, -ald_ptr', ald_ptr e0, ald_ptr e2, rdCells]
          rw [ast_ptr (n := 2) (off := 0) (xs := [I size, w]) (cs := [I 0, nilSl]) (by simp [hko]) e1 rfl (by simp)]
          simp [show 1 < H.length by omega, rdCells]
          rw [List.take_length] at e3
          exact ContK.some hw (sliceCells_keep e3 fun i hi => by
            have h2 : 3 ≤ i := Nat.le_of_not_lt fun h => e5 i h hi
            rw [List.getElem?_set_ne (by omega)])
  · have hn : truncC (size0, l) size = none := if_neg (fun h => h1 h.1)
    simp [h1, ast]
    exact ContK.none hn
theorem ref_PunchContent_p {size : Int} {l : List Ext} {v : AV} (hv : SV encE 9 l v) (hl : l.length ≤ 1000000) (pos n : Int) :
    ∃ R, SV encE 9 (cL (punchC (size, l) pos n)) R ∧ BPure Try.prog 80 [.agg [I size, v], I pos, I n] (.tup [.agg [I (cS (punchC (size, l) pos n)), R], B (punchC (size, l) pos n).isSome]) := by
  refine BPure.cont (by simp [noIdss, noIds, hv.1]) (salvorref11_PunchContent_ok ?_)
  unfold salvorref11_PunchContent
  simp [oneA_sv hv, rdCells]
  refine bP_pure (ref_MayContent_p hv (by omega)) ?_
  by_cases h1 : mayC size l
  · by_cases h2 : maySp pos n
    · have hw : punchC (size, l) pos n = some (size, punchL l pos n) := if_pos ⟨h1, h2⟩
      obtain ⟨g1, g2, g3, g4⟩ := h2
      simp [h1, show ¬ pos < 0 by omega, show ¬ n < 1 by omega, show ¬ 1099511627776 < n by omega, abI_sub (a := 1099511627776) (b := n) (by omega) (by omega), show ¬ 1099511627776 - n < pos by omega, ast]
      have hno := fun x hx => (okL_all h1.2.2 x hx)
      have hstep : ∀ (k : Nat) (y : Ext), l[k]? = some y → punchL (l.take (k + 1)) pos n = punchL (l.take k) pos n ++ if pos ≤ y.no * 8 ∧ y.no * 8 + 8 ≤ pos + n then [] else [wipeE y pos (pos + n)] := by
        intro k y hy
        unfold punchL wipeL gone
        rw [List.take_add_one, hy, List.filter_append, List.map_append]
        congr 1
        by_cases c1 : pos ≤ y.no * 8 <;> by_cases c2 : y.no * 8 + 8 ≤ pos + n <;> simp [c1, c2]
      have hlenF : ∀ k, (punchL (l.take k) pos n).length ≤ l.length := fun k => by
        unfold punchL wipeL
        rw [List.length_map]
        exact Nat.le_trans (List.length_filter_le _ _) (by rw [List.length_take]; omega)
      refine salvorref11_PunchContent_L7_rule (fun t x1 x2 x3 x6 x8 x9 H => ∃ (k : Nat) (w : AV), k + t = l.length ∧ x1 = I pos ∧ x2 = I n ∧ x3 = .ptr 0 0 ∧ x6 = .ptr 1 0 ∧ x8 = .ptr 2 0 ∧ x9 = I k ∧ BuildP (I size) v size (punchL (l.take k) pos n) w H) ?_ l.length
        ⟨0, nilSl, by omega, rfl, rfl, rfl, rfl, rfl, rfl, rfl, rfl, rfl, rfl, rfl, by simp [idS]⟩
      rintro t x1 x2 x3 x6 x8 x9 H R hR ⟨k, w, hk, rfl, rfl, rfl, rfl, rfl, rfl, hB⟩
      unfold salvorref11_PunchContent_L7_b
      have hB' := hB
      obtain ⟨e0, e1, e2, e3, e4, e5⟩ := hB'
      have hH2 := (List.getElem?_eq_some_iff.1 e2).1
      rcases Nat.lt_or_ge k l.length with hlt | hge
      · have hx := List.getElem?_eq_getElem hlt
        generalize l[k] = y at hx
        have hy := hno y (List.mem_of_getElem? hx)
        have g := Grew.app H [some (.cells (encE y))]
        simp [e0, hv.len, hlt, hv.idx encE_len hx rfl, -ald_ptr', ald_ptr e0]
        rw [ast_e (by simp) (by rfl)]
        simp
        have nxt : ∀ H2 w2, BuildP (I size) v size (punchL (l.take (k + 1)) pos n) w2 H2 → salvorref11_PunchContent_J10 R (I pos) (I n) (.ptr 0 0) (.ptr 1 0) (.ptr 2 0) (I k) H2 (ContK (punchC (size, l) pos n)) := by
          intro H2 w2 h2
          rw [salvorref11_PunchContent_J10_eq]
          unfold salvorref11_PunchContent_J10_b
          simp [abI_add (a := k) (b := 1) (by omega) (by omega)]
          exact hR (t - 1) _ _ _ _ _ _ _ (by omega) ⟨k + 1, w2, by omega, rfl, rfl, rfl, rfl, rfl, rfl, h2⟩
        have hxo : H.length ∉ idS w := fun h => by have := sliceCells_lt e3 _ h; omega
        refine salvorref11_PunchContent_L15_rule R (fun q z1 z2 z3 z6 z8 z9 z10 z11 z12 H2 => ∃ j : Nat, j + q = 8 ∧ z1 = I pos ∧ z2 = I n ∧ z3 = .ptr 0 0 ∧ z6 = .ptr 1 0 ∧ z8 = .ptr 2 0 ∧ z9 = I k ∧ z10 = .ptr H.length 0 ∧ z11 = I (max 0 (min (pos + n) (y.no * 8 + j) - max pos (y.no * 8))) ∧ z12 = I j ∧ BuildP (I size) v size (punchL (l.take k) pos n) w H2 ∧
          H2[H.length]? = some (some (.cells (encE (wipeE y pos (min (pos + n) (y.no * 8 + j))))))) ?_ 8
          ⟨0, rfl, rfl, rfl, rfl, rfl, rfl, rfl, rfl, by rw [show max 0 (min (pos + n) (y.no * 8 + ((0 : Nat) : Int)) - max pos (y.no * 8)) = 0 by omega], rfl, hB.grew g, by rw [wipe_none (by omega)]; simp⟩
        rintro q z1 z2 z3 z6 z8 z9 z10 z11 z12 H2 R2 hR2 ⟨j, hj, rfl, rfl, rfl, rfl, rfl, rfl, rfl, rfl, rfl, hB2, hxc⟩
        unfold salvorref11_PunchContent_L15_b
        have hxol := (List.getElem?_eq_some_iff.1 hxc).1
        have nxt2 : ∀ H3 c, c = max 0 (min (pos + n) (y.no * 8 + ((j + 1 : Nat) : Int)) - max pos (y.no * 8)) → BuildP (I size) v size (punchL (l.take k) pos n) w H3 → H3[H.length]? = some (some (.cells (encE (wipeE y pos (min (pos + n) (y.no * 8 + ((j + 1 : Nat) : Int))))))) → j < 8 → salvorref11_PunchContent_J18 R2 R (I pos) (I n) (.ptr 0 0) (.ptr 1 0) (.ptr 2 0) (I k) (.ptr H.length 0) (I c) (I j) H3 (ContK (punchC (size, l) pos n)) := by
          rintro H3 c rfl h1 h2 h3
          rw [salvorref11_PunchContent_J18_eq]
          unfold salvorref11_PunchContent_J18_b
          simp [abI_add (a := j) (b := 1) (by omega) (by omega)]
          exact hR2 (q - 1) _ _ _ _ _ _ _ _ _ _ (by omega) ⟨j + 1, by omega, rfl, rfl, rfl, rfl, rfl, rfl, rfl, rfl, rfl, h1, h2⟩
        rcases Nat.lt_or_ge j 8 with hlj | hgj
        · have hlj' : (j : Int) < 8 := by omega
          have hn0 : (encE (wipeE y pos (min (pos + n) (y.no * 8 + j))))[0]? = some (I y.no) := rfl
          by_cases hs : pos ≤ y.no * 8 + j ∧ y.no * 8 + j < pos + n
          · have e1 : aixA 8 1 (.ptr H.length 1) (I j) = some (.ptr H.length (1 + j)) := by
              simp [aixA, aint]; omega
            have hwl := encE_len (wipeE y pos (min (pos + n) (y.no * 8 + j)))
            simp [hlj', hxc, hn0, abI_mul (a := y.no) (b := 8) (by omega) (by omega), abI_add (a := y.no * 8) (b := j) (by omega) (by omega), abI_add (a := pos) (b := n) (by omega) (by omega), hs.1, hs.2, e1]
            rw [ast_ptr (n := 1) (off := 1 + j) (xs := [.lit (.int .u8 0)]) rfl hxc rfl (by omega)]
            simp
            rw [abI_add (by omega) (by omega)]
            simp
            refine nxt2 _ _ (by omega) (hB2.other (by omega) hxo) ?_ hlj
            rw [List.getElem?_set_self hxol, enc_set0 (x := wipeE y pos (min (pos + n) (y.no * 8 + j))) (y := wipeE y pos (min (pos + n) (y.no * 8 + ((j + 1 : Nat) : Int)))) rfl hlj]
            intro a ha
            rw [wipeE_get ha, wipeE_get ha]
            by_cases c1 : a = j
            · rw [if_pos c1, if_pos (by omega)]
            · rw [if_neg c1]
              by_cases c2 : pos ≤ y.no * 8 + (a : Int) ∧ y.no * 8 + (a : Int) < min (pos + n) (y.no * 8 + j)
              · rw [if_pos c2, if_pos (by omega)]
              · rw [if_neg c2, if_neg (by omega)]
          · have hsame : encE (wipeE y pos (min (pos + n) (y.no * 8 + ((j + 1 : Nat) : Int)))) = encE (wipeE y pos (min (pos + n) (y.no * 8 + j))) := by
              congr 1
              refine ext_eq rfl fun a ha => ?_
              rw [wipeE_get ha, wipeE_get ha]
              by_cases c2 : pos ≤ y.no * 8 + (a : Int) ∧ y.no * 8 + (a : Int) < min (pos + n) (y.no * 8 + j)
              · rw [if_pos c2, if_pos (by omega)]
              · rw [if_neg c2, if_neg (by omega)]
            by_cases hs1 : pos ≤ y.no * 8 + j
            · have hs2 : ¬ y.no * 8 + j < pos + n := fun h => hs ⟨hs1, h⟩
              simp [hlj', hxc, hn0, abI_mul (a := y.no) (b := 8) (by omega) (by omega), abI_add (a := y.no * 8) (b := j) (by omega) (by omega), abI_add (a := pos) (b := n) (by omega) (by omega), hs1, hs2]
              exact nxt2 _ _ (by omega) hB2 (by rw [hsame]; exact hxc) hlj
            · simp [hlj', hxc, hn0, abI_mul (a := y.no) (b := 8) (by omega) (by omega), abI_add (a := y.no * 8) (b := j) (by omega) (by omega), abI_add (a := pos) (b := n) (by omega) (by omega), hs1]
              exact nxt2 _ _ (by omega) hB2 (by rw [hsame]; exact hxc) hlj
        · have : j = 8 := by omega
          subst this
          have hY : wipeE y pos (min (pos + n) (y.no * 8 + ((8 : Nat) : Int))) = wipeE y pos (pos + n) := ext_eq rfl fun a ha => by
            rw [wipeE_get ha, wipeE_get ha]
            by_cases c2 : pos ≤ y.no * 8 + (a : Int) ∧ y.no * 8 + (a : Int) < pos + n
            · rw [if_pos (by omega), if_pos (by omega)]
            · rw [if_neg (by omega), if_neg (by omega)]
          rw [hY] at hxc
          simp only [show ¬ ((8 : Nat) : Int) < 8 by omega, abI_lss, bO_some, decide_false, bB_bool, bI_false]
          by_cases hg : pos ≤ y.no * 8 ∧ y.no * 8 + 8 ≤ pos + n
          · have hc : ¬ max 0 (min (pos + n) (y.no * 8 + ((8 : Nat) : Int)) - max pos (y.no * 8)) < 8 := by omega
            simp only [hc, decide_false, bI_false]
            refine nxt _ w ?_
            rw [hstep k y hx, if_pos hg, List.append_nil]
            exact hB2
          · have hc : max 0 (min (pos + n) (y.no * 8 + ((8 : Nat) : Int)) - max pos (y.no * 8)) < 8 := by omega
            simp only [hc, decide_true, bI_true]
            obtain ⟨d0, d1, d2, d3, d4, d5⟩ := hB2
            obtain ⟨r, H4, H5, q1, q2, q3, q4, q5, q6⟩ := BuildP.add ⟨d0, d1, d2, d3, d4, d5⟩ (wipeE y pos (pos + n)) (by have := hlenF k; omega)
            simp only [ashift_ptr, Nat.zero_add, Nat.add_zero, ald_ptr d2, rdCells_one, ald_ptr hxc, rd_e']
            simp only [List.getElem?_cons_succ, List.getElem?_cons_zero, bO_some, absl_e, bH_some, q1]
            rw [ald_ptr d2]
            simp only [rdCells_one, List.getElem?_cons_succ, List.getElem?_cons_zero, bO_some, bH_some, q1]
            rw [ast_ptr (n := 1) (off := 1) (xs := [r]) (cs := [I size, w]) (cellsA_one q3) q2 rfl (by simp)]
            simp
            refine nxt _ r ?_
            rw [hstep k y hx, if_neg hg]
            rw [q4] at q5
            exact q5
      · have : k = l.length := by omega
        subst this
        have hko := oneA_owned e4
        simp [hv.len, -ald_ptr', ald_ptr e0, ald_ptr e2, rdCells]
        rw [ast_ptr (n := 2) (off := 0) (xs := [I size, w]) (cs := [I 0, nilSl]) (by simp [hko]) e1 rfl (by simp)]
        simp [show 1 < H.length by omega, rdCells]
        rw [List.take_length] at e3
        exact ContK.some hw (sliceCells_keep e3 fun i hi => by
          have h2 : 3 ≤ i := Nat.le_of_not_lt fun h => e5 i h hi
          rw [List.getElem?_set_ne (by omega)])
    · have hn : punchC (size, l) pos n = none := if_neg (fun h => h2 h.2)
      by_cases g1 : pos < 0
      · simp [h1, g1, ast]
        exact ContK.none hn
      · by_cases g2 : n < 1
        · simp [h1, g1, g2, ast]
          exact ContK.none hn
        · by_cases g3 : 1099511627776 < n
          · simp [h1, g1, g2, g3, ast]
            exact ContK.none hn
          · have g4 : 1099511627776 - n < pos := Int.lt_of_not_ge fun h => h2 ⟨by omega, by omega, by omega, h⟩
            simp [h1, g1, g2, g3, abI_sub (a := 1099511627776) (b := n) (by omega) (by omega), g4, ast]
            exact ContK.none hn
  · have hn : punchC (size, l) pos n = none := if_neg (fun h => h1 h.1)
    simp [h1, ast]
    exact ContK.none hn
end Go.Proofs.Ytpnfdibgfichmaa.Av
end
/-! YtpnfdibgfichmaaAvIz -/
section
/- Chapter 12: the document's changes. -/
set_option linter.unusedVariables false
set_option linter.unusedSimpArgs false
set_option maxRecDepth 100000
namespace Go.Proofs.Ytpnfdibgfichmaa.Av
open Go Go.RowKit

/-- What lies below N stays. -/
def GrN (N : Nat) (H H' : AH) : Prop := H.length ≤ H'.length ∧ ∀ i, i < N → H'[i]? = H[i]?
theorem GrN.refl (N : Nat) (H : AH) : GrN N H H := ⟨Nat.le_refl _, fun _ _ => rfl⟩
theorem GrN.trans {N : Nat} {A B C : AH} (h : GrN N A B) (k : GrN N B C) : GrN N A C := ⟨Nat.le_trans h.1 k.1, fun i hi => (k.2 i hi).trans (h.2 i hi)⟩
theorem GrN.of {N : Nat} {A B : AH} (h : Grew A B) (hN : N ≤ A.length) : GrN N A B := ⟨h.1, fun i hi => h.2 i (by omega)⟩
/-- A slice of one's own, from N on. -/
structure OwN (N sz : Nat) (cs : List AV) (n : Nat) (r : AV) (H : AH) : Prop where
  s : sliceCells H sz r = some (cs, n)
  o : ownedS r = true
  i : ∀ i ∈ idS r, N ≤ i
  c : capOk r n
theorem app0 {sz bytes : Nat} {H : AH} {x : AV} {ds : List AV} {m : Nat} (hx : appended H sz x = some (ds, m)) (hb : m * bytes ≤ 140737488355328) : ∃ r H', aap sz bytes H nilSl x = some (r, H') ∧ OwN H.length sz ds m r H' ∧ Grew H H' := by
  have h0 : sliceCells H sz nilSl = some ([], 0) := rfl
  obtain ⟨r, H2, a1, a2, a3, a4, a5, a6⟩ := aap_spec (bytes := bytes) h0 rfl hx (by rw [Nat.zero_add]; exact hb)
  have a7 := aap_cap h0 rfl hx (by simp [capOk]) a1
  exact ⟨r, H2, a1, ⟨by simpa using a3, a2, fun i hi => (a6 i hi).elim (by simp [idS]) id, by simpa using a7⟩, a4, fun i hi => a5 i hi (by simp [idS])⟩
theorem app1 {N sz bytes : Nat} {H : AH} {s x : AV} {cs ds : List AV} {n m : Nat} (hs : OwN N sz cs n s H) (hx : appended H sz x = some (ds, m)) (hN : N ≤ H.length) (hb : (n + m) * bytes ≤ 140737488355328) : ∃ r H', aap sz bytes H s x = some (r, H') ∧ OwN N sz (cs ++ ds) (n + m) r H' ∧ GrN N H H' := by
  obtain ⟨r, H2, a1, a2, a3, a4, a5, a6⟩ := aap_spec (bytes := bytes) hs.s hs.o hx hb
  have a7 := aap_cap hs.s hs.o hx hs.c a1
  exact ⟨r, H2, a1, ⟨a3, a2, fun i hi => (a6 i hi).elim (hs.i i) (fun q => by omega), a7⟩, a4, fun i hi => a5 i (by omega) (fun q => by have := hs.i i q; omega)⟩
theorem OwN.grew {N sz n : Nat} {cs : List AV} {r : AV} {H H' : AH} (h : OwN N sz cs n r H) (g : Grew H H') : OwN N sz cs n r H' := ⟨g.slice h.s, h.o, h.i, h.c⟩
/-- A part of a list of elements. -/
theorem part_spec {α : Type} {enc : α → List AV} {sz : Nat} (hsz : ∀ x, (enc x).length = sz) {H : AH} {v : AV} {l : List α} (h : sliceCells H sz v = some (l.flatMap enc, l.length)) {k : Nat} (hk : k ≤ l.length) :
    (∃ r, aslS sz v none (some (I k)) none = some r ∧ sliceCells H sz r = some ((l.take k).flatMap enc, k) ∧ ∀ i ∈ idS r, i ∈ idS v) ∧ ∃ r, aslS sz v (some (I k)) none none = some r ∧ sliceCells H sz r = some ((l.drop k).flatMap enc, l.length - k) ∧ ∀ i ∈ idS r, i ∈ idS v := by
  constructor
  · obtain ⟨r, h1, h2, h3, -⟩ := aslS_spec h (lo := none) (hi := some (I k)) (l := 0) (k := k) rfl (by simp [abnd]) (by omega) hk
    refine ⟨r, h1, ?_, h3⟩
    rw [h2, Nat.zero_mul, List.drop_zero, Nat.sub_zero, flat_take hsz]
  · obtain ⟨r, h1, h2, h3, -⟩ := aslS_spec h (lo := some (I k)) (hi := none) (l := k) (k := l.length) (by simp [abnd]) rfl hk (Nat.le_refl _)
    refine ⟨r, h1, ?_, h3⟩
    rw [h2, flat_drop hsz, List.take_of_length_le]
    rw [sliceCells_len h2 |> fun e => (by
      have := flat_drop hsz l k
      rw [← this, List.length_drop, sliceCells_len h, Nat.mul_comm, ← Nat.mul_comm sz, ← Nat.mul_sub, Nat.mul_comm] : ((l.drop k).flatMap enc).length = (l.length - k) * sz)]
    exact Nat.le_refl _
theorem called_c {L oi : Nat} {ns : List Nm} {dv : List NdV} {a b : AV} {H : AH} {s : List UInt8} {no : Int} (h : ImH L oi ns dv a b H) (hn : ns.length ≤ 100000) :
    ∃ r H', ImP L oi H (insK cmpN Nm.name ns ⟨s, no⟩) dv r H' ∧ BCall Try.prog 45 [.ptr oi 0, S (bstr s), I no] H r H' := salvorref11_called_ok (by
  unfold salvorref11_called
  have c0 := h.obj
  refine salvorref11_called_L2_rule (fun n x0 x1 x2 x6 H' => ∃ k : Nat, k + n = ns.length ∧ x0 = .ptr oi 0 ∧ x1 = S (bstr s) ∧ x2 = I no ∧ x6 = I k ∧ H' = H ∧ ∀ m y, m < k → ns[m]? = some y → cmpN y.name s < 0) ?_ ns.length ⟨0, by omega, rfl, rfl, rfl, rfl, rfl, by omega⟩
  rintro n x0 x1 x2 x6 H' R hR ⟨k, hk, rfl, rfl, rfl, rfl, rfl, hlt⟩
  unfold salvorref11_called_L2_b
  have ln := alnS_spec h.sa
  have fin : posK cmpN Nm.name ns s = k →
      bO (aslS 2 a none (some (I k)) none) (fun v31 => bH (aap 2 24 H' (.lit (.slice none 0 0)) v31) fun v32 H33 =>
        bO (abl [(.lit (.string ⟨#[]⟩)), (.lit (.int .i64 0))] [(0, 1, S (bstr s)), (1, 1, I no)]) fun v34 => bH (absl H33 2 1 (zrow [(.lit (.string ⟨#[]⟩)), (.lit (.int .i64 0))] 1) [(0, 2, v34)]) fun v35 H36 => bH (aap 2 24 H36 v32 v35) fun v37 H38 =>
        bO (anilCheck (.ptr oi 0)) fun v39 => bO (ashift 0 v39) fun v40 => bO (ald false 1 H38 v40) fun v41 => bO (aslS 2 v41 (some (I k)) none none) fun v42 => bH (aap 2 24 H38 v37 v42) fun v43 H44 =>
        bO (anilCheck (.ptr oi 0)) fun v45 => bO (ashift 0 v45) fun v46 => bS (ast 1 H44 v46 v43) fun H47 => ImP L oi H' (insK cmpN Nm.name ns ⟨s, no⟩) dv (.tup []) H47) := by
    intro hp
    obtain ⟨⟨s1, e1, t1, i1⟩, -⟩ := part_spec encN_len h.sa (show k ≤ ns.length by omega)
    obtain ⟨r1, H1, e2, w1, g1⟩ := app0 (bytes := 24) (appended_slice t1) (by omega)
    have g2 := Grew.app H1 [some (.cells (encN ⟨s, no⟩))]
    have w2 := w1.grew g2
    have hl1 := g1.1
    have x1 : appended (H1 ++ [some (.cells (encN ⟨s, no⟩))]) 2 (.sl H1.length 0 1 2 (.ex 1)) = some (encN ⟨s, no⟩, 1) := appended_slice (by rw [sliceCells_sl (c := encN ⟨s, no⟩) (by simp) (by simp [encN])]; rfl)
    obtain ⟨r2, H2, e3, w3, g3⟩ := app1 (bytes := 24) w2 x1 (by simp; omega) (by omega)
    have gg : GrN H'.length H' H2 := (GrN.of (g1.trans g2) (Nat.le_refl _)).trans g3
    have hol := (List.getElem?_eq_some_iff.1 c0).1
    have c2 : H2[oi]? = some (some (.cells [a, b])) := by rw [gg.2 oi hol]; exact c0
    have sa2 : sliceCells H2 2 a = some (ns.flatMap encN, ns.length) := sliceCells_keep h.sa fun i hi => gg.2 i (sliceCells_lt h.sa i hi)
    obtain ⟨-, ⟨s2, e4, t2, i2⟩⟩ := part_spec encN_len sa2 (show k ≤ ns.length by omega)
    obtain ⟨r3, H3, e5, w4, g4⟩ := app1 (bytes := 24) w3 (appended_slice t2) gg.1 (by omega)
    have el := insK_len (c := cmpN) (key := Nm.name) (l := ns) (x := ⟨s, no⟩)
    have ev : (ns.take k).flatMap encN ++ encN ⟨s, no⟩ ++ (ns.drop k).flatMap encN = (insK cmpN Nm.name ns ⟨s, no⟩).flatMap encN := by
      unfold insK
      rw [show posK cmpN Nm.name ns (Nm.name ⟨s, no⟩) = k from hp, List.flatMap_append, List.flatMap_cons, List.append_assoc]
    have en : k + 1 + (ns.length - k) = (insK cmpN Nm.name ns ⟨s, no⟩).length := by omega
    have g5 := gg.trans g4
    obtain ⟨H4, e6, n1, n2⟩ := h.newA (ms := insK cmpN Nm.name ns ⟨s, no⟩) (H' := H3) (r := r3) g5.1 (fun i hi _ => g5.2 i hi) (by rw [← ev, ← en]; exact w4.s) w4.o (by rw [← en]; exact w4.c) (fun i hi => .inr (w4.i i hi))
    have e7 : absl H1 2 1 (zrow [(.lit (.string ⟨#[]⟩)), (.lit (.int .i64 0))] 1) [(0, 2, .agg (encN ⟨s, no⟩))] = some (.sl H1.length 0 1 2 (.ex 1), H1 ++ [some (.cells (encN ⟨s, no⟩))]) := rfl
    have e8 : abl [(.lit (.string ⟨#[]⟩)), (.lit (.int .i64 0))] [(0, 1, S (bstr s)), (1, 1, I no)] = some (.agg (encN ⟨s, no⟩)) := rfl
    have e9 : ald false 1 H2 (.ptr oi 0) = some a := by rw [ald_ptr c2]; rfl
    simp only [e1, bO_some, e2, bH_some, e8, e7, e3]
    show bO (some (AV.ptr oi 0)) _
    simp only [bO_some]
    show bO (some (AV.ptr oi 0)) _
    simp only [bO_some, e9, e4, e5, bH_some]
    show bO (some (AV.ptr oi 0)) _
    simp only [bO_some]
    show bO (some (AV.ptr oi 0)) _
    simp only [bO_some, e6, bS_some]
    exact ⟨rfl, r3, b, n1, n2⟩
  rcases Nat.lt_or_ge k ns.length with hkl | hkl
  · have hx := List.getElem?_eq_getElem hkl
    generalize ns[k] = x at hx
    obtain ⟨o, off, cells, u1, u2, u3, u4, u5, -⟩ := own_at encN_len (by omega) h.sa h.oa hx
    have u50 := u5 0 (by omega)
    rw [Nat.add_zero] at u50
    by_cases hc : cmpN x.name s < 0
    · simp [c0, ln, hkl, u1, u3, u50, encN, abT_lss, hc, abI_add (a := k) (b := 1) (by omega) (by omega)]
      exact hR (n - 1) _ _ _ _ _ (by omega) ⟨k + 1, by omega, rfl, rfl, rfl, by simp, rfl, fun m y hm hy => by
        by_cases c2 : m = k
        · rw [c2, hx] at hy; injection hy with hy; rw [← hy]; exact hc
        · exact hlt m y (by omega) hy⟩
    · have := fin (posK_eq (by omega) hlt (fun y hy => by rw [hx] at hy; injection hy with hy; rw [← hy]; exact hc))
      simp [c0] at this
      simp [c0, ln, hkl, u1, u3, u50, encN, abT_lss, hc]
      exact this
  · have := fin (posK_eq (by omega) hlt (fun y hy => by have := (List.getElem?_eq_some_iff.1 hy).1; omega))
    simp [c0] at this
    simp [c0, ln, show ¬ k < ns.length by omega]
    exact this)
theorem Sm.sub {ns ms : List Nm} {ds es : List Nd} (h : Sm ns ds) (h1 : ms.Sublist ns) (h2 : es.Sublist ds) : Sm ms es :=
  ⟨Nat.le_trans h1.length_le h.1, Nat.le_trans h2.length_le h.2.1, fun x hx => h.2.2.1 x (h1.subset hx), fun d hd => h.2.2.2 d (h2.subset hd)⟩
/-- All but one, built anew: names. -/
theorem cutN {L oi k : Nat} {ns : List Nm} {dv : List NdV} {a b : AV} {H : AH} (h : ImH L oi ns dv a b H) (hk : k < ns.length) (hn : ns.length ≤ 100000) :
    ∃ s1 r1 H1 s2 r2 H2 H3, aslS 2 a none (some (I k)) none = some s1 ∧ aap 2 24 H nilSl s1 = some (r1, H1) ∧ H1[oi]? = some (some (.cells [a, b])) ∧ aslS 2 a (some (I ((k : Int) + 1))) none none = some s2 ∧ aap 2 24 H1 r1 s2 = some (r2, H2) ∧ ast 1 H2 (.ptr oi 0) r2 = some H3 ∧ ImH L oi (ns.take k ++ ns.drop (k + 1)) dv r2 b H3 ∧ FrL L oi H H3 := by
  have c0 := h.obj
  obtain ⟨⟨s1, e1, t1, i1⟩, -⟩ := part_spec encN_len h.sa (show k ≤ ns.length by omega)
  obtain ⟨r1, H1, e2, w1, g1⟩ := app0 (bytes := 24) (appended_slice t1) (by omega)
  have sa1 := g1.slice h.sa
  obtain ⟨-, ⟨s2, e4, t2, i2⟩⟩ := part_spec encN_len sa1 (show k + 1 ≤ ns.length by omega)
  obtain ⟨r2, H2, e5, w4, g4⟩ := app1 (bytes := 24) w1 (appended_slice t2) g1.1 (by omega)
  have g5 := (GrN.of g1 (Nat.le_refl _)).trans g4
  have en : k + (ns.length - (k + 1)) = (ns.take k ++ ns.drop (k + 1)).length := by simp; omega
  obtain ⟨H3, e6, n1, n2⟩ := h.newA (ms := ns.take k ++ ns.drop (k + 1)) (H' := H2) (r := r2) g5.1 (fun i hi _ => g5.2 i hi) (by rw [List.flatMap_append, ← en]; exact w4.s) w4.o (by rw [← en]; exact w4.c) (fun i hi => .inr (w4.i i hi))
  exact ⟨s1, r1, H1, s2, r2, H2, H3, e1, e2, g1.cells c0, e4, e5, e6, n1, n2⟩
/-- All but one, built anew: files. -/
theorem cutD {L oi k : Nat} {ns : List Nm} {dv : List NdV} {a b : AV} {H : AH} (h : ImH L oi ns dv a b H) (hk : k < dv.length) (hn : dv.length ≤ 100000) :
    ∃ s1 r1 H1 s2 r2 H2 H3, aslS 3 b none (some (I k)) none = some s1 ∧ aap 3 40 H nilSl s1 = some (r1, H1) ∧ H1[oi]? = some (some (.cells [a, b])) ∧ aslS 3 b (some (I ((k : Int) + 1))) none none = some s2 ∧ aap 3 40 H1 r1 s2 = some (r2, H2) ∧ ast 1 H2 (.ptr oi 1) r2 = some H3 ∧ ImH L oi ns (dv.take k ++ dv.drop (k + 1)) a r2 H3 ∧ FrL L oi H H3 := by
  have c0 := h.obj
  obtain ⟨⟨s1, e1, t1, i1⟩, -⟩ := part_spec encD_len h.sb (show k ≤ dv.length by omega)
  obtain ⟨r1, H1, e2, w1, g1⟩ := app0 (bytes := 40) (appended_slice t1) (by omega)
  have sa1 := g1.slice h.sb
  obtain ⟨-, ⟨s2, e4, t2, i2⟩⟩ := part_spec encD_len sa1 (show k + 1 ≤ dv.length by omega)
  obtain ⟨r2, H2, e5, w4, g4⟩ := app1 (bytes := 40) w1 (appended_slice t2) g1.1 (by omega)
  have g5 := (GrN.of g1 (Nat.le_refl _)).trans g4
  have en : k + (dv.length - (k + 1)) = (dv.take k ++ dv.drop (k + 1)).length := by simp; omega
  obtain ⟨H3, e6, n1, n2⟩ := h.newB (ew := dv.take k ++ dv.drop (k + 1)) (H' := H2) (r := r2) g5.1 (fun i hi _ => g5.2 i hi) (by rw [List.flatMap_append, ← en]; exact w4.s) w4.o (by rw [← en]; exact w4.c) (fun i hi => .inr (w4.i i hi))
  exact ⟨s1, r1, H1, s2, r2, H2, H3, e1, e2, g1.cells c0, e4, e5, e6, n1, n2⟩
theorem gone_c {L oi : Nat} {ns : List Nm} {dv : List NdV} {a b : AV} {H : AH} {s : List UInt8} (h : ImH L oi ns dv a b H) (hs : srtK cmpN Nm.name ns) (hd : srtK cmpI NdV.ino dv) (hb : Sm ns (dv.map NdV.nd)) (q : hasK Nm.name ns s) (f : Bool) (hk : f = true → hasK NdV.ino dv (nameI ns s)) :
    ∃ r H', ImP L oi H (delK cmpN Nm.name ns s) (if f = true then delK cmpI NdV.ino dv (nameI ns s) else dv) r H' ∧ BCall Try.prog 46 [.ptr oi 0, S (bstr s), B f] H r H' := salvorref11_gone_ok (by
  have b1 := hb.1
  have b2 := hb.2.1
  rw [List.length_map] at b2
  obtain ⟨Ra, Rb, sa, sb, fz⟩ := h.lend
  have c0 := h.obj
  have b0 : ∀ x y : AV, rdCells true 2 [x, y] 0 = some (.agg [x, y]) := fun _ _ => rfl
  unfold salvorref11_gone
  simp [c0, b0]
  refine bP_of (PCall.lend (FZs.cons fz (FZs.cons (FZ.lit _) FZs.nil)) rfl (ref_named_p ⟨Ra, Rb, dv, rfl, sa, sb, rfl⟩ hb s)) ?_
  rw [idxK_pos koN hs q]
  obtain ⟨x, hx1, hx2, hx3⟩ := posK_atK koN hs q
  have en : nameI ns s = x.ino := by unfold nameI; rw [hx2]
  rw [en] at hk ⊢
  obtain ⟨o, off, cells, u1, u2, u3, u4, u5, -⟩ := own_at encN_len (by omega) h.sa h.oa hx1
  have u51 := u5 1 (by omega)
  have hpl := (List.getElem?_eq_some_iff.1 hx1).1
  obtain ⟨s1, r1, H1, s2, r2, H2, H3, e1, e2, e3, e4, e5, e6, n1, n2⟩ := cutN h hpl b1
  have c3 := n1.obj
  have n1' : ImH L oi (delK cmpN Nm.name ns s) dv r2 b H3 := n1
  obtain ⟨Sa, Sb, ta, tb, gz⟩ := n1'.lend
  have hb2 : Sm (delK cmpN Nm.name ns s) (dv.map NdV.nd) := hb.sub delK_sub (List.Sublist.refl _)
  simp [c0, u1, u3, u51, encN, e1, e2, e3, abI_add (a := (posK cmpN Nm.name ns s : Nat)) (b := 1) (by omega) (by omega), e4, e5, e6, c3, b0]
  refine bP_of (PCall.lend (FZs.cons gz (FZs.cons (FZ.lit _) FZs.nil)) rfl (ref_node_p ⟨Sa, Sb, dv, rfl, ta, tb, rfl⟩ hb2 x.ino)) ?_
  cases f with
  | false =>
    simp
    exact ⟨rfl, _, _, n1', n2⟩
  | true =>
    have hk := hk rfl
    rw [idxK_pos koI (srtK_map.2 hd) (hasK_map.2 hk), posK_map]
    have hdl := hasK_pos koI hd hk
    obtain ⟨s3, r3, H4, s4, r4, H5, H6, f1, f2, f3, f4, f5, f6, m1, m2⟩ := cutD n1' hdl b2
    simp [c3, f1, f2, f3, abI_add (a := (posK cmpI NdV.ino dv x.ino : Nat)) (b := 1) (by omega) (by omega), f4, f5, f6]
    exact ⟨rfl, _, _, m1, n2.trans m2⟩)
end Go.Proofs.Ytpnfdibgfichmaa.Av
end
/-! YtpnfdibgfichmaaAvJa -/
section
/- Chapter 12: the document's copy of an image; its changes. -/
set_option linter.unusedVariables false
set_option linter.unusedSimpArgs false
set_option maxRecDepth 100000
namespace Go.Proofs.Ytpnfdibgfichmaa.Av
open Go Go.RowKit

theorem CopyImage_c {H : AH} {ns : List Nm} {dv : List NdV} {a b : AV} (sa : SV encN 2 ns a) (sb : SV encD 3 dv b) (hn : ns.length ≤ 100000) (hm : dv.length ≤ 100000) (hl : ∀ d ∈ dv, d.nd.l.length ≤ 1000000) :
    ∃ r H', CopyK H ns (dv.map NdV.nd) r H' ∧ BCall Try.prog 42 [.agg [a, b]] H r H' := salvorref11_CopyImage_ok (by
  unfold salvorref11_CopyImage
  have oa := SV.oneA sa
  have ob := SV.oneA sb
  obtain ⟨H3, e3, c0, c1, g3, l3⟩ : ∃ H3, anew (H ++ [some (.cells [a, b])]) (.agg [nilSl, nilSl]) = some (.ptr (H.length + 1) 0, H3) ∧ H3[H.length]? = some (some (.cells [a, b])) ∧ H3[H.length + 1]? = some (some (.cells [nilSl, nilSl])) ∧ Grew H H3 ∧ H3.length = H.length + 2 := by
    refine ⟨H ++ [some (.cells [a, b]), some (.cells [nilSl, nilSl])], by simp, by simp, by rw [List.getElem?_append_right (by omega)]; simp, Grew.app _ _, by simp⟩
  simp [oa, ob, e3, c0]
  obtain ⟨ra, H7, e7, w7, g7⟩ := app0 (bytes := 24) (appended_slice (sa.2 H3)) (by omega)
  have ra1 := oneA_owned w7.o
  have l7 := g7.1
  have w7i := w7.i
  simp [e7, cellsA_one ra1]
  -- the new image
  obtain ⟨H11, e11, d9, g11, l11⟩ : ∃ H11, ast 2 (H7 ++ [some (.cells [nilSl, nilSl])]) (.ptr H7.length 0) (.agg [ra, nilSl]) = some H11 ∧ H11[H7.length]? = some (some (.cells [ra, nilSl])) ∧ Grew H7 H11 ∧ H11.length = H7.length + 1 := by
    exact ⟨H7 ++ [some (.cells [ra, nilSl])], by simp [ast, splice, ra1, cellsA_one ra1], by simp, Grew.app _ _, by simp⟩
  simp [e11]
  have sra := g11.slice w7.s
  have d0 := g11.cells (g7.cells c0)
  have d1 := g11.cells (g7.cells c1)
  have gall : Grew H H11 := g3.trans (g7.trans g11)
  refine salvorref11_CopyImage_L4_rule (fun n x1 x2 x3 x4 H' => ∃ (k : Nat) (ew : List NdV) (rb : AV), k + n = dv.length ∧ x1 = .ptr H.length 0 ∧ x2 = .ptr (H.length + 1) 0 ∧ x3 = .ptr H7.length 0 ∧ x4 = I k ∧ ew.map NdV.nd = (dv.map NdV.nd).take k ∧ H'[H7.length]? = some (some (.cells [ra, rb])) ∧ OwN H11.length 3 (ew.flatMap encD) ew.length rb H' ∧ H11.length ≤ H'.length ∧ ∀ i, i < H11.length → i ≠ H7.length → H'[i]? = H11[i]?) ?_ dv.length ⟨0, [], nilSl, by omega, rfl, rfl, rfl, rfl, rfl, d9, ⟨rfl, rfl, by simp [idS], by simp [capOk]⟩, Nat.le_refl _, fun _ _ _ => rfl⟩
  rintro n x1 x2 x3 x4 H' R hR ⟨k, ew, rb, hk, rfl, rfl, rfl, rfl, hew, h9, hrb, hlen, hfr⟩
  unfold salvorref11_CopyImage_L4_b
  have f0 : H'[H.length]? = some (some (.cells [a, b])) := by rw [hfr _ (by omega) (by omega)]; exact d0
  have el : ew.length = k := by have := congrArg List.length hew; simp at this; omega
  have rb1 := oneA_owned hrb.o
  rcases Nat.lt_or_ge k dv.length with h | h
  · have hx := List.getElem?_eq_getElem h
    generalize dv[k] = x at hx
    have hxl := hl x (List.mem_of_getElem? hx)
    obtain ⟨R2, s2, p2⟩ := copyOf_p (size := x.nd.size) x.h (by omega)
    have ei := sb.idx encD_len hx rfl
    have o2 := SV.oneA s2
    simp [f0, sb.len, h, h9, ei, encD_0, encD_c]
    refine bP_of p2 ?_
    have ap : appended H' 3 (.imm [I x.nd.ino, I x.nd.size, R2] 1 3) = some (encD ⟨x.nd, R2, s2⟩, 1) := appended_slice (by simp [sliceCells, encD])
    obtain ⟨r4, H4, e4, w4, g4⟩ := app1 (bytes := 40) hrb ap hlen (by omega)
    have hH7 : H7.length < H11.length := by omega
    have k9 : H4[H7.length]? = some (some (.cells [ra, rb])) := by rw [g4.2 _ hH7]; exact h9
    have r41 := oneA_owned w4.o
    have e5 : ast 1 H4 (.ptr H7.length 1) r4 = some (H4.set H7.length (some (.cells [ra, r4]))) := by
      rw [ast_ptr (n := 1) (off := 1) (xs := [r4]) (cs := [ra, rb]) (cellsA_one r41) k9 rfl (by simp)]; rfl
    have k9l := (List.getElem?_eq_some_iff.1 k9).1
    simp [cellsA_one o2, o2, e4, e5, absf, zrow, abI_add (a := k) (b := 1) (by omega) (by omega)]
    refine hR (n - 1) _ _ _ _ _ (by omega) ⟨k + 1, ew ++ [⟨x.nd, R2, s2⟩], r4, by omega, rfl, rfl, rfl, by simp, ?_, by simp [k9l], ⟨?_, w4.o, w4.i, by simpa using w4.c⟩, by rw [List.length_set]; have := g4.1; omega, fun i i1 i2 => ?_⟩
    · rw [List.map_append, hew, take_snoc (x := x.nd) (by rw [List.getElem?_map, hx]; rfl)]; rfl
    · have := w4.s
      rw [List.flatMap_append, List.flatMap_singleton, List.length_append, List.length_singleton]
      exact sliceCells_keep this fun i hi => List.getElem?_set_ne (by have := w4.i i hi; omega)
    · rw [List.getElem?_set_ne (Ne.symm i2), g4.2 i i1, hfr i i1 i2]
  · have ek : (dv.map NdV.nd).take k = dv.map NdV.nd := List.take_of_length_le (by simp; omega)
    rw [ek] at hew
    have b0 : rdCells true 2 [ra, rb] 0 = some (.agg [ra, rb]) := rfl
    have f1 : H'[H.length + 1]? = some (some (.cells [nilSl, nilSl])) := by rw [hfr _ (by omega) (by omega)]; exact d1
    have f1l := (List.getElem?_eq_some_iff.1 f1).1
    have e5 : ast 2 H' (.ptr (H.length + 1) 0) (.agg [ra, rb]) = some (H'.set (H.length + 1) (some (.cells [ra, rb]))) := by
      rw [ast_ptr (n := 2) (off := 0) (xs := [ra, rb]) (by simp [ra1, rb1]) f1 rfl (by simp)]; rfl
    simp [f0, sb.len, show ¬ k < dv.length by omega, h9, b0, e5, f1l]
    have lta := sliceCells_lt w7.s
    refine ⟨ra, rb, ew, rfl, hew, ⟨by rw [List.length_set]; omega, fun i hi => by rw [List.getElem?_set_ne (by omega), hfr i (by omega) (by omega)]; exact gall.2 i hi⟩, ⟨?_, w7.o, w7.c, fun i q => by have := w7i i q; omega, ?_, hrb.o, hrb.c, fun i q => by have := hrb.i i q; omega, fun i q1 q2 => by have := hrb.i i q2; have := lta i q1; omega⟩⟩
    · refine sliceCells_keep sra fun i q => ?_
      have h1 := w7i i q
      have h2 := lta i q
      rw [List.getElem?_set_ne (by omega), hfr i (by omega) (by omega)]
    · exact sliceCells_keep hrb.s fun i q => List.getElem?_set_ne (by have := hrb.i i q; omega))
theorem ref_change_p {d : Nd} {R bv : AV} {o : OpM} (hv : SV encE 9 d.l R) (hl : d.l.length ≤ 1000000) (hb : SV encU 1 o.b bv) (hbl : o.b.length ≤ 281474976710656) :
    ∃ R', SV encE 9 (cL (chgC o d)) R' ∧ BPure Try.prog 47 [.agg [I d.size, R], .agg (opA o bv)] (.tup [.agg [I (cS (chgC o d)), R'], B (chgC o d).isSome]) := by
  have o1 := SV.oneA hv
  have o3 := SV.oneA hb
  have hids : noIdss [.agg [I d.size, R], .agg (opA o bv)] = true := by simp [noIdss, noIds, hv.1, opA, hb.1]
  have wk : ∀ (res : Option Cont) (R' : AV), chgC o d = res → SV encE 9 (cL res) R' → salvorref11_change (.agg [I d.size, R]) (.agg (opA o bv)) [] (fun r _ => r = .tup [.agg [I (cS res), R'], B res.isSome]) → ∃ R', SV encE 9 (cL (chgC o d)) R' ∧ BPure Try.prog 47 [.agg [I d.size, R], .agg (opA o bv)] (.tup [.agg [I (cS (chgC o d)), R'], B (chgC o d).isSome]) := by
    intro res R' hr h1 h2
    rw [hr]
    exact ⟨R', h1, BPure.val hids (by simp [noIds, noIdss, h1.1]) (salvorref11_change_ok h2)⟩
  have b8 : rdCells true 8 (opA o bv) 0 = some (.agg (opA o bv)) := rfl
  by_cases k2 : o.kind = 2
  · obtain ⟨R', s1, p1⟩ := ref_WriteContent_p (size := d.size) hv hl o.pos hb hbl
    refine wk _ R' (by unfold chgC; rw [if_pos k2]) s1 ?_
    have o2 := SV.oneA s1
    unfold salvorref11_change
    simp [o1, o3, opA, k2, rdCells]
    refine bP_pure p1 ?_
    simp [o2, cellsA_one o2, ast, splice, rdCells]
  · by_cases k3 : o.kind = 3
    · obtain ⟨R', s1, p1⟩ := ref_TruncateContent_p (size0 := d.size) hv hl o.size
      refine wk _ R' (by unfold chgC; rw [if_neg k2, if_pos k3]) s1 ?_
      have o2 := SV.oneA s1
      unfold salvorref11_change
      simp [o1, o3, opA, k3, rdCells]
      refine bP_pure p1 ?_
      simp [o2, cellsA_one o2, ast, splice, rdCells]
    · by_cases k4 : o.kind = 4
      · obtain ⟨R', s1, p1⟩ := ref_AllocateContent_p (size := d.size) hv hl o.pos o.size o.keep
        refine wk _ R' (by unfold chgC; rw [if_neg k2, if_neg k3, if_pos k4]) s1 ?_
        have o2 := SV.oneA s1
        unfold salvorref11_change
        simp [o1, o3, opA, k4, rdCells]
        refine bP_pure p1 ?_
        simp [o2, cellsA_one o2, ast, splice, rdCells]
      · by_cases k5 : o.kind = 5
        · obtain ⟨R', s1, p1⟩ := ref_PunchContent_p (size := d.size) hv hl o.pos o.size
          refine wk _ R' (by unfold chgC; rw [if_neg k2, if_neg k3, if_neg k4, if_pos k5]) s1 ?_
          have o2 := SV.oneA s1
          unfold salvorref11_change
          simp [o1, o3, opA, k5, rdCells]
          refine bP_pure p1 ?_
          simp [o2, cellsA_one o2, ast, splice, rdCells]
        · refine wk none nilSl (by unfold chgC; rw [if_neg k2, if_neg k3, if_neg k4, if_neg k5]) SV.nil ?_
          unfold salvorref11_change
          simp [o1, o3, opA, k2, k3, k4, k5, ast, splice, rdCells, cS]
theorem chgD_other {ds : List Nd} {o : OpM} (h : ¬ (o.kind = 2 ∨ o.kind = 3 ∨ o.kind = 4 ∨ o.kind = 5)) : chgD ds o = ds := by
  have hn : ∀ d, chgC o d = none := fun d => by
    unfold chgC
    rw [if_neg (by omega), if_neg (by omega), if_neg (by omega), if_neg (by omega)]
  unfold chgD
  split
  · rw [hn]
  · rfl
theorem ref_apply_fin {oi : Nat} {ns : List Nm} {dv : List NdV} {a b : AV} {H : AH} {p : List Nm × List Nd} (h : ImH 3 oi ns dv a b H) (hoi : 3 ≤ oi) (h2 : H[2]? = some (some (.cells [nilSl, nilSl]))) (hp : p = (ns, dv.map NdV.nd)) : salvorref11_Apply_J5 (.ptr 2 0) (.ptr oi 0) H (ApK p) := by
  rw [salvorref11_Apply_J5_eq]; unfold salvorref11_Apply_J5_b
  have c0 := h.obj
  have b0 : rdCells true 2 [a, b] 0 = some (.agg [a, b]) := rfl
  have ra1 := oneA_owned h.oa
  have rb1 := oneA_owned h.ob
  have hcl := (List.getElem?_eq_some_iff.1 h2).1
  have e5 : ast 2 H (.ptr 2 0) (.agg [a, b]) = some (H.set 2 (some (.cells [a, b]))) := by
    rw [ast_ptr (n := 2) (off := 0) (xs := [a, b]) (by simp [ra1, rb1]) h2 rfl (by simp)]; rfl
  simp [c0, b0, e5, hcl]
  have h3 : ImH 3 oi ns dv a b (H.set 2 (some (.cells [a, b]))) := ⟨by rw [List.getElem?_set_ne (by omega)]; exact c0, h.lo, by simpa using h.len, sliceCells_keep h.sa fun i q => List.getElem?_set_ne (by have := h.ia i q; omega), h.oa, h.ca, h.ia, sliceCells_keep h.sb fun i q => List.getElem?_set_ne (by have := h.ib i q; omega), h.ob, h.cb, h.ib, h.ab⟩
  obtain ⟨Ra, Rb, sa, sb, fz⟩ := h3.lend
  subst hp
  exact ⟨_, fz, Ra, Rb, dv, rfl, sa, sb, rfl⟩
/-- The document's loop that puts a file in its place. -/
theorem ref_ins {oi : Nat} {ns : List Nm} {dv : List NdV} {a b bv : AV} {H : AH} {o : OpM} {K : AV → AH → Prop} (h : ImH 3 oi ns dv a b H) (hp : H[1]? = some (some (.cells (opA o bv)))) (hoi : 3 ≤ oi) (hm : dv.length ≤ 100000)
    (hK : ∀ r H', ImH 3 oi ns (insK cmpI NdV.ino dv (newD o.ino)) a r H' → FrL 3 oi H H' → salvorref11_Apply_J5 (.ptr 2 0) (.ptr oi 0) H' K) : salvorref11_Apply_L12 (.ptr 1 0) (.ptr 2 0) (.ptr oi 0) (I 0) H K := by
  have c0 := h.obj
  refine salvorref11_Apply_L12_rule (fun n x3 x4 x5 x6 H' => ∃ k : Nat, k + n = dv.length ∧ x3 = .ptr 1 0 ∧ x4 = .ptr 2 0 ∧ x5 = .ptr oi 0 ∧ x6 = I k ∧ H = H' ∧ ∀ m y, m < k → dv[m]? = some y → cmpI y.ino o.ino < 0) ?_ dv.length ⟨0, by omega, rfl, rfl, rfl, rfl, rfl, by omega⟩
  rintro n x3 x4 x5 x6 H' R hR ⟨k, hk, rfl, rfl, rfl, rfl, rfl, hlt⟩
  unfold salvorref11_Apply_L12_b
  have ln := alnS_spec h.sb
  have fin : posK cmpI NdV.ino dv o.ino = k →
      bO (aslS 3 b none (some (I k)) none) (fun v27 => bH (aap 3 40 H (.lit (.slice none 0 0)) v27) fun v28 H29 =>
        bO (ashift 1 (.ptr 1 0)) fun v30 => bO (ald false 1 H29 v30) fun v31 => bO (abl [(.lit (.int .i64 0)), (.lit (.int .i64 0)), (.lit (.slice none 0 0))] [(0, 1, v31)]) fun v32 => bH (absl H29 3 1 (zrow [(.lit (.int .i64 0)), (.lit (.int .i64 0)), (.lit (.slice none 0 0))] 1) [(0, 3, v32)]) fun v33 H34 => bH (aap 3 40 H34 v28 v33) fun v35 H36 =>
        bO (ashift 1 (.ptr oi 0)) fun v37 => bO (ald false 1 H36 v37) fun v38 => bO (aslS 3 v38 (some (I k)) none none) fun v39 => bH (aap 3 40 H36 v35 v39) fun v40 H41 =>
        bO (ashift 1 (.ptr oi 0)) fun v42 => bS (ast 1 H41 v42 v40) fun H43 => salvorref11_Apply_J5 (.ptr 2 0) (.ptr oi 0) H43 K) := by
    intro hp0
    have hol := (List.getElem?_eq_some_iff.1 c0).1
    obtain ⟨⟨s1, e1, t1, i1⟩, -⟩ := part_spec encD_len h.sb (show k ≤ dv.length by omega)
    obtain ⟨r1, H1, e2, w1, g1⟩ := app0 (bytes := 40) (appended_slice t1) (by omega)
    have p1 := g1.cells hp
    have g2 := Grew.app H1 [some (.cells (encD (newD o.ino)))]
    have w2 := w1.grew g2
    have hl1 := g1.1
    have x1 : appended (H1 ++ [some (.cells (encD (newD o.ino)))]) 3 (.sl H1.length 0 1 3 (.ex 1)) = some (encD (newD o.ino), 1) := appended_slice (by rw [sliceCells_sl (c := encD (newD o.ino)) (by simp) (by simp [encD])]; rfl)
    obtain ⟨r2, H2, e3, w3, g3⟩ := app1 (bytes := 40) w2 x1 (by simp; omega) (by omega)
    have gg : GrN H.length H H2 := (GrN.of (g1.trans g2) (Nat.le_refl _)).trans g3
    have c2 : H2[oi]? = some (some (.cells [a, b])) := by rw [gg.2 oi hol]; exact c0
    have sb2 : sliceCells H2 3 b = some (dv.flatMap encD, dv.length) := sliceCells_keep h.sb fun i hi => gg.2 i (sliceCells_lt h.sb i hi)
    obtain ⟨-, ⟨s2, e4, t2, i2⟩⟩ := part_spec encD_len sb2 (show k ≤ dv.length by omega)
    obtain ⟨r3, H3, e5, w4, g4⟩ := app1 (bytes := 40) w3 (appended_slice t2) gg.1 (by omega)
    have el := insK_len (c := cmpI) (key := NdV.ino) (l := dv) (x := newD o.ino)
    have ev : (dv.take k).flatMap encD ++ encD (newD o.ino) ++ (dv.drop k).flatMap encD = (insK cmpI NdV.ino dv (newD o.ino)).flatMap encD := by
      unfold insK
      rw [show posK cmpI NdV.ino dv (NdV.ino (newD o.ino)) = k from hp0, List.flatMap_append, List.flatMap_cons, List.append_assoc]
    have en : k + 1 + (dv.length - k) = (insK cmpI NdV.ino dv (newD o.ino)).length := by omega
    have g5 := gg.trans g4
    obtain ⟨H4, e6, n1, n2⟩ := h.newB (ew := insK cmpI NdV.ino dv (newD o.ino)) (H' := H3) (r := r3) g5.1 (fun i hi _ => g5.2 i hi) (by rw [← ev, ← en]; exact w4.s) w4.o (by rw [← en]; exact w4.c) (fun i hi => .inr (w4.i i hi))
    have e7 : absl H1 3 1 (zrow [(.lit (.int .i64 0)), (.lit (.int .i64 0)), (.lit (.slice none 0 0))] 1) [(0, 3, .agg (encD (newD o.ino)))] = some (.sl H1.length 0 1 3 (.ex 1), H1 ++ [some (.cells (encD (newD o.ino)))]) := rfl
    have e8 : abl [(.lit (.int .i64 0)), (.lit (.int .i64 0)), (.lit (.slice none 0 0))] [(0, 1, I o.ino)] = some (.agg (encD (newD o.ino))) := rfl
    have e9 : ald false 1 H2 (.ptr oi 1) = some b := by rw [ald_ptr c2]; rfl
    have e10 : ald false 1 H1 (.ptr 1 1) = some (I o.ino) := by rw [ald_ptr p1]; rfl
    simp only [e1, bO_some, e2, bH_some]
    show bO (some (AV.ptr 1 1)) _
    simp only [bO_some, e10, e8, e7, bH_some, e3]
    show bO (some (AV.ptr oi 1)) _
    simp only [bO_some, e9, e4, e5, bH_some]
    show bO (some (AV.ptr oi 1)) _
    simp only [bO_some, e6, bS_some]
    exact hK r3 H4 n1 n2
  rcases Nat.lt_or_ge k dv.length with hkl | hkl
  · have hx := List.getElem?_eq_getElem hkl
    generalize dv[k] = x at hx
    obtain ⟨o', off, cells, u1, u2, u3, u4, u5, -⟩ := own_at encD_len (by omega) h.sb h.ob hx
    have u50 := u5 0 (by omega)
    rw [Nat.add_zero] at u50
    by_cases hc : cmpI x.ino o.ino < 0
    · have hc' : x.nd.ino < o.ino := cmpI_lt.1 hc
      simp [c0, hp, opA, ln, hkl, u1, u3, u50, encD, hc', abI_add (a := k) (b := 1) (by omega) (by omega)]
      exact hR (n - 1) _ _ _ _ _ (by omega) ⟨k + 1, by omega, rfl, rfl, rfl, by simp, rfl, fun m y hm hy => by
        by_cases c2 : m = k
        · rw [c2, hx] at hy; injection hy with hy; rw [← hy]; exact hc
        · exact hlt m y (by omega) hy⟩
    · have := fin (posK_eq (by omega) hlt (fun y hy => by rw [hx] at hy; injection hy with hy; rw [← hy]; exact hc))
      have hc' : ¬ x.nd.ino < o.ino := fun q => hc (cmpI_lt.2 q)
      simp [c0] at this
      simp [c0, hp, opA, ln, hkl, u1, u3, u50, encD, hc']
      exact this
  · have := fin (posK_eq (by omega) hlt (fun y hy => by have := (List.getElem?_eq_some_iff.1 hy).1; omega))
    simp [c0] at this
    simp [c0, ln, show ¬ k < dv.length by omega]
    exact this
/-! two names that go -/
section
variable {κ α : Type} {c : κ → κ → Int} {key : α → κ}
theorem srtK_ext (hc : KO c) : ∀ {l m : List α}, srtK c key l → srtK c key m → (∀ x, x ∈ l ↔ x ∈ m) → l = m
  | [], [], _, _, _ => rfl
  | [], b :: m, _, _, h => by have := (h b).2 (by simp); simp at this
  | a :: l, [], _, _, h => by have := (h a).1 (by simp); simp at this
  | a :: l, b :: m, h1, h2, h => by
    have k1 := List.pairwise_cons.1 h1
    have k2 := List.pairwise_cons.1 h2
    have e : a = b := by
      rcases List.mem_cons.1 ((h a).1 (by simp)) with e | q1
      · exact e
      · rcases List.mem_cons.1 ((h b).2 (by simp)) with e | q2
        · exact e.symm
        · exact absurd (hc.trans _ _ _ (k1.1 b q2) (k2.1 a q1)) (hc.irr _)
    subst e
    congr 1
    refine srtK_ext hc k1.2 k2.2 fun x => ?_
    have irr : ∀ y, y ∈ l ∨ y ∈ m → y ≠ a := by
      rintro y (q | q) rfl
      · exact hc.irr _ (k1.1 y q)
      · exact hc.irr _ (k2.1 y q)
    constructor
    · intro q
      rcases List.mem_cons.1 ((h x).1 (by simp [q])) with e | q2
      · exact absurd e (irr x (.inl q))
      · exact q2
    · intro q
      rcases List.mem_cons.1 ((h x).2 (by simp [q])) with e | q2
      · exact absurd e (irr x (.inr q))
      · exact q2
theorem hasK_del (hc : KO c) {l : List α} (h : srtK c key l) {k k2 : κ} (hk : hasK key l k) (hne : k2 ≠ k) : hasK key (delK c key l k) k2 ↔ hasK key l k2 := by
  constructor
  · rintro ⟨x, hx, e⟩
    exact ⟨x, delK_sub.subset hx, e⟩
  · rintro ⟨x, hx, e⟩
    exact ⟨x, (mem_delK hc h hk).2 ⟨hx, by rw [e]; exact hne⟩, e⟩
theorem delK_comm (hc : KO c) {l : List α} (h : srtK c key l) {k k2 : κ} (hk : hasK key l k) (hk2 : hasK key l k2) (hne : k ≠ k2) : delK c key (delK c key l k) k2 = delK c key (delK c key l k2) k := by
  refine srtK_ext hc (srtK_del (srtK_del h)) (srtK_del (srtK_del h)) fun x => ?_
  rw [mem_delK hc (srtK_del h) ((hasK_del hc h hk (Ne.symm hne)).2 hk2), mem_delK hc h hk, mem_delK hc (srtK_del h) ((hasK_del hc h hk2 hne).2 hk), mem_delK hc h hk2, and_right_comm]
end
theorem nameI_del {ns : List Nm} (hs : srtK cmpN Nm.name ns) {s t : List UInt8} (hk : hasK Nm.name ns s) (ht : hasK Nm.name ns t) (hne : t ≠ s) : nameI (delK cmpN Nm.name ns s) t = nameI ns t := by
  obtain ⟨x, h1, h2, rfl⟩ := atK_has ht
  unfold nameI
  rw [h1, atK_eq koN (srtK_del hs) ((mem_delK koN hs hk).2 ⟨h2, hne⟩)]
end Go.Proofs.Ytpnfdibgfichmaa.Av
end
/-! YtpnfdibgfichmaaAvJb -/
section
/- Chapter 12: the document's Apply. -/
set_option linter.unusedVariables false
set_option linter.unusedSimpArgs false
set_option maxRecDepth 100000
namespace Go.Proofs.Ytpnfdibgfichmaa.Av
open Go Go.RowKit

theorem idxK_ge {κ α : Type} [DecidableEq κ] {key : α → κ} {l : List α} {k : κ} : 0 ≤ idxK key l k ↔ hasK key l k := by
  constructor
  · intro h
    refine Classical.byContradiction fun q => ?_
    have := idxK_lt.2 q
    omega
  · intro h
    obtain ⟨j, x, h1, -⟩ := idxK_has h
    omega
theorem renOk_doc {ns : List Nm} {ds : List Nd} {o : OpM} (hm : mayI ns ds) (h1 : ¬ o.kind = 1) (h2 : ¬ (o.kind = 2 ∨ o.kind = 3 ∨ o.kind = 4 ∨ o.kind = 5)) (h6 : o.kind = 6) (hc : renOk ns o.name o.to) :
    applyI ns ds o = (insK cmpN Nm.name (delK cmpN Nm.name (if hasK Nm.name ns o.to then delK cmpN Nm.name ns o.to else ns) o.name) ⟨o.to, nameI ns o.name⟩, if hasK Nm.name ns o.to then delK cmpI Nd.ino ds (nameI ns o.to) else ds) := by
  unfold applyI
  rw [if_pos hm, if_neg h1, if_neg h2, if_pos h6, if_pos hc]
  have hs := hm.1.2.2.1
  unfold remNs remD
  have hd := hasK_del koN hs hc.1 (Ne.symm hc.2.2)
  by_cases ht : hasK Nm.name ns o.to
  · rw [if_pos ht, if_pos (hd.2 ht), if_pos ht, if_pos (hd.2 ht), delK_comm koN hs hc.1 ht hc.2.2, nameI_del hs hc.1 ht (Ne.symm hc.2.2)]
  · rw [if_neg ht, if_neg (fun h => ht (hd.1 h)), if_neg ht, if_neg (fun h => ht (hd.1 h))]
theorem ref_Apply_p {ns : List Nm} {ds : List Nd} {v bv : AV} {o : OpM} (hv : ImV ns ds v) (hb : Sm ns ds) (hbv : SV encU 1 o.b bv) (hbl : o.b.length ≤ 281474976710656) (hn : o.name.length ≤ 1000000000) (ht : o.to.length ≤ 1000000000) :
    ∃ R, ImV (applyI ns ds o).1 (applyI ns ds o).2 R ∧ BPure Try.prog 19 [v, .agg (opA o bv)] R := by
  have hids := hv.noIds
  refine BPure.FZ (by simp [noIdss] at hids ⊢; exact ⟨hids, by simp [opA, noIds, noIdss, hbv.1]⟩) (salvorref11_Apply_ok (K := ApK (applyI ns ds o)) ?_)
  have hv0 := hv
  obtain ⟨a, b, dv, rfl, sa, sb, rfl⟩ := hv
  have b1 := hb.1
  have b2 := hb.2.1
  rw [List.length_map] at b2
  have oa := SV.oneA sa
  have ob := SV.oneA sb
  have o3 := SV.oneA hbv
  unfold salvorref11_Apply
  obtain ⟨H5, e5, c0, c1, c2, l5⟩ : ∃ H5, anew [some (.cells [a, b]), some (.cells (opA o bv))] (.agg [nilSl, nilSl]) = some (.ptr 2 0, H5) ∧ H5[0]? = some (some (.cells [a, b])) ∧ H5[1]? = some (some (.cells (opA o bv))) ∧ H5[2]? = some (some (.cells [nilSl, nilSl])) ∧ H5.length = 3 :=
    ⟨[some (.cells [a, b]), some (.cells (opA o bv)), some (.cells [nilSl, nilSl])], by simp, rfl, rfl, rfl, rfl⟩
  have e4 : anew [some (.cells [a, b])] (.agg (opA o bv)) = some (.ptr 1 0, [some (.cells [a, b]), some (.cells (opA o bv))]) := by simp [opA, o3]
  have b0 : ∀ x y : AV, rdCells true 2 [x, y] 0 = some (.agg [x, y]) := fun _ _ => rfl
  have e0 : anew [] (.agg [a, b]) = some (.ptr 0 0, [some (.cells [a, b])]) := by simp [oa, ob]
  simp [-anew_agg, e0, e4, e5, c0, b0]
  obtain ⟨r, H8, ⟨a', b', ew, rfl, hew, hg, ow⟩, hc⟩ := CopyImage_c (H := H5) sa sb (by omega) b2 (fun d hd => hb.2.2.2 d.nd (List.mem_map_of_mem hd))
  refine bC_of hc ?_
  have a1 := oneA_owned ow.oa
  have a2 := oneA_owned ow.ob
  have l8 := hg.1
  rw [l5] at ow l8
  obtain ⟨H11, e11, i9, g11, l11⟩ : ∃ H11, ast 2 (H8 ++ [some (.cells [nilSl, nilSl])]) (.ptr H8.length 0) (.agg [a', b']) = some H11 ∧ ImH 3 H8.length ns ew a' b' H11 ∧ Grew H8 H11 ∧ H11.length = H8.length + 1 := by
    have g := Grew.app H8 [some (.cells [a', b'])]
    refine ⟨H8 ++ [some (.cells [a', b'])], by simp [ast, splice, a1, a2, cellsA_one a1, cellsA_one a2], ⟨by simp, ⟨fun q => by have := sliceCells_lt ow.sa _ q; omega, fun q => by have := sliceCells_lt ow.sb _ q; omega⟩, by simp; omega, g.slice ow.sa, ow.oa, ow.ca, ow.ia, g.slice ow.sb, ow.ob, ow.cb, ow.ib, ow.ab⟩, g, by simp⟩
  have e10 : anew H8 (.agg [nilSl, nilSl]) = some (.ptr H8.length 0, H8 ++ [some (.cells [nilSl, nilSl])]) := by simp
  simp [-anew_agg, e10, e11]
  have k0 := g11.cells (hg.cells c0)
  have k1 := g11.cells (hg.cells c1)
  have k2 := g11.cells (hg.cells c2)
  have hoi : 3 ≤ H8.length := l8
  generalize H8.length = oi at *
  have d0 := i9.obj
  have el : ew.length = dv.length := by have := congrArg List.length hew; simpa using this
  have keep : ∀ {H' : AH}, FrL 3 oi H11 H' → H'[0]? = some (some (.cells [a, b])) ∧ H'[1]? = some (some (.cells (opA o bv))) ∧ H'[2]? = some (some (.cells [nilSl, nilSl])) := fun f => by
    rw [f.2 0 (by omega) (by omega), f.2 1 (by omega) (by omega), f.2 2 (by omega) (by omega)]; exact ⟨k0, k1, k2⟩
  have hsm : Sm ns (ew.map NdV.nd) := by rw [hew]; exact hb
  simp [-anew_agg, k0, b0]
  refine bP_pure (ref_MayImage_p hv0 hb) ?_
  by_cases hm : mayI ns (dv.map NdV.nd)
  · have hs := hm.1.2.2.1
    have hdd := hm.2.2.1
    have hd : srtK cmpI NdV.ino ew := by rw [← srtK_map, hew]; exact hdd
    have hx : ∀ x ∈ ns, hasK NdV.ino ew x.ino := fun x hx => by rw [← hasK_map, hew]; exact (mayI_doc.1 hm).2.2.2.2.1 x hx
    simp [-anew_agg, hm, k1, opA]
    by_cases q1 : o.kind = 1
    · -- a file is made
      have hno : ¬ creI ns (dv.map NdV.nd) o → salvorref11_Apply_J5 (.ptr 2 0) (.ptr oi 0) H11 (ApK (applyI ns (dv.map NdV.nd) o)) := fun hc => ref_apply_fin i9 hoi k2 (by unfold applyI; rw [if_pos hm, if_pos q1, if_neg hc, hew])
      rw [decide_eq_true q1]
      simp only [bI_true]
      refine bP_pure (ref_MayName_p (s := o.name) (by omega)) ?_
      by_cases q3 : mayN o.name
      · simp [q3, k0, k1, b0, opA]
        refine bP_pure (ref_named_p hv0 hb o.name) ?_
        by_cases q4 : hasK Nm.name ns o.name
        · have i4 : ¬ idxK Nm.name ns o.name < 0 := by rw [idxK_lt]; exact fun h => h q4
          simp [i4]
          exact hno fun hc => hc.1 q4
        · have i4 : idxK Nm.name ns o.name < 0 := idxK_lt.2 q4
          simp [i4, k1, opA]
          by_cases q5 : 1 ≤ o.ino
          · by_cases q6 : o.ino ≤ 4611686018427387904
            · simp [q5, q6, k0, k1, b0, opA]
              refine bP_pure (ref_node_p hv0 hb o.ino) ?_
              by_cases q7 : hasK Nd.ino (dv.map NdV.nd) o.ino
              · have i7 : ¬ idxK Nd.ino (dv.map NdV.nd) o.ino < 0 := by rw [idxK_lt]; exact fun h => h q7
                simp [i7]
                exact hno fun hc => hc.2.1 q7
              · have i7 : idxK Nd.ino (dv.map NdV.nd) o.ino < 0 := idxK_lt.2 q7
                by_cases q8 : ns.length < 16
                · have q8' : (ns.length : Int) < 16 := by omega
                  have hc : creI ns (dv.map NdV.nd) o := ⟨q4, q7, q3, q5, q6, q8⟩
                  have e : applyI ns (dv.map NdV.nd) o = (insK cmpN Nm.name ns ⟨o.name, o.ino⟩, (insK cmpI NdV.ino ew (newD o.ino)).map NdV.nd) := by
                    unfold applyI; rw [if_pos hm, if_pos q1, if_pos hc, insK_map, hew]
                  simp [i7, k0, sa.len, q8', k1, opA]
                  obtain ⟨r2, H2, ⟨rfl, a3, b3, i3, f3⟩, w3⟩ := called_c (s := o.name) (no := o.ino) i9 b1
                  refine bC_of w3 ?_
                  refine ref_ins i3 (keep f3).2.1 hoi (by omega) fun r4 H4 i4 f4 => ?_
                  exact ref_apply_fin i4 hoi (keep (f3.trans f4)).2.2 e
                · have q8' : ¬ (ns.length : Int) < 16 := by omega
                  simp [i7, k0, sa.len, q8']
                  exact hno fun hc => q8 hc.2.2.2.2.2
            · simp [q5, q6, k1, opA]
              exact hno fun hc => q6 hc.2.2.2.2.1
          · simp [q5]
            exact hno fun hc => q5 hc.2.2.2.1
      · simp [q3]
        exact hno fun hc => q3 hc.2.2.1
    · by_cases q6 : o.kind = 6
      · have q2 : ¬ (o.kind = 2 ∨ o.kind = 3 ∨ o.kind = 4 ∨ o.kind = 5) := by omega
        have hno : ¬ renOk ns o.name o.to → salvorref11_Apply_J5 (.ptr 2 0) (.ptr oi 0) H11 (ApK (applyI ns (dv.map NdV.nd) o)) := fun hc => ref_apply_fin i9 hoi k2 (by unfold applyI; rw [if_pos hm, if_neg q1, if_neg q2, if_pos q6, if_neg hc, hew])
        rw [decide_eq_false q1]
        simp only [bI_false]
        simp [q6, k0, k1, b0, opA]
        refine bP_pure (ref_named_p hv0 hb o.name) ?_
        by_cases q3 : hasK Nm.name ns o.name
        · have i3 : 0 ≤ idxK Nm.name ns o.name := idxK_ge.2 q3
          simp [i3, k1, opA]
          refine bP_pure (ref_MayName_p (s := o.to) (by omega)) ?_
          by_cases q4 : mayN o.to
          · simp [q4, k1, opA, abT_neq]
            by_cases q5 : o.to = o.name
            · simp [q5]
              exact hno fun hc => hc.2.2 q5.symm
            · have hc : renOk ns o.name o.to := ⟨q3, q4, Ne.symm q5⟩
              have e := renOk_doc hm q1 q2 q6 hc
              obtain ⟨Ra, Rb, ta, tb, fz⟩ := i9.lend
              have hJ : ∀ ns1 dw a1 b1 Hc, ImH 3 oi ns1 dw a1 b1 Hc → FrL 3 oi H11 Hc → srtK cmpN Nm.name ns1 → srtK cmpI NdV.ino dw → Sm ns1 (dw.map NdV.nd) → hasK Nm.name ns1 o.name → applyI ns (dv.map NdV.nd) o = (insK cmpN Nm.name (delK cmpN Nm.name ns1 o.name) ⟨o.to, nameI ns o.name⟩, dw.map NdV.nd) → salvorref11_Apply_J20 (.ptr 0 0) (.ptr 1 0) (.ptr 2 0) (.ptr oi 0) (I (idxK Nm.name ns o.name)) Hc (ApK (applyI ns (dv.map NdV.nd) o)) := by
                intro ns1 dw a1 b1 Hc hi hf hs1 hd1 hb1 hk1 he
                rw [salvorref11_Apply_J20_eq]; unfold salvorref11_Apply_J20_b
                obtain ⟨g0, g1, g2⟩ := keep hf
                simp [g1, opA]
                obtain ⟨r2, H2, ⟨rfl, a3, b3, i3, f3⟩, w3⟩ := gone_c (s := o.name) hi hs1 hd1 hb1 hk1 false (by simp)
                refine bC_of w3 ?_
                rw [salvorref11_Apply_J22_eq]; unfold salvorref11_Apply_J22_b
                obtain ⟨g0, g1, g2⟩ := keep (hf.trans f3)
                rw [idxK_pos koN hs q3]
                obtain ⟨x, hx1, hx2, hx3⟩ := posK_atK koN hs q3
                have en : nameI ns o.name = x.ino := by unfold nameI; rw [hx2]
                simp [g0, g1, opA, sa.idx encN_len hx1 rfl, encN_1]
                obtain ⟨r4, H4, ⟨rfl, a5, b5, i5, f5⟩, w5⟩ := called_c (s := o.to) (no := x.ino) i3 (Nat.le_trans delK_sub.length_le hb1.1)
                refine bC_of w5 ?_
                rw [en] at he
                exact ref_apply_fin i5 hoi (keep ((hf.trans f3).trans f5)).2.2 he
              simp [q5, d0, b0, k1, opA]
              refine bP_of (PCall.lend (FZs.cons fz (FZs.cons (FZ.lit _) FZs.nil)) rfl (ref_named_p ⟨Ra, Rb, ew, rfl, ta, tb, rfl⟩ hsm o.to)) ?_
              by_cases q7 : hasK Nm.name ns o.to
              · have i7 := idxK_ge.2 q7
                rw [if_pos q7, if_pos q7] at e
                have hk7 : hasK NdV.ino ew (nameI ns o.to) := by
                  obtain ⟨y, y1, y2, y3⟩ := atK_has q7
                  have : nameI ns o.to = y.ino := by unfold nameI; rw [y1]
                  rw [this]; exact hx y y2
                simp [i7, k1, opA]
                obtain ⟨r2, H2, ⟨rfl, a3, b3, i3, f3⟩, w3⟩ := gone_c (s := o.to) i9 hs hd hsm q7 true (fun _ => hk7)
                refine bC_of w3 ?_
                refine hJ _ _ _ _ _ i3 f3 (srtK_del hs) (by simpa using srtK_del hd) (hsm.sub delK_sub (by simpa using delK_sub.map NdV.nd)) ((hasK_del koN hs q7 (Ne.symm q5)).2 q3) ?_
                rw [e, ← hew]
                simp [delK_map]
              · have i7 : ¬ 0 ≤ idxK Nm.name ns o.to := fun h => q7 (idxK_ge.1 h)
                rw [if_neg q7, if_neg q7] at e
                simp [i7]
                exact hJ _ _ _ _ _ i9 (FrL.refl _ _ _) hs hd hsm q3 (by rw [e, hew])
          · simp [q4]
            exact hno fun hc => q4 hc.2.1
        · have i3 : ¬ 0 ≤ idxK Nm.name ns o.name := fun h => q3 (idxK_ge.1 h)
          simp [i3]
          exact hno fun hc => q3 hc.1
      · by_cases q7 : o.kind = 7
        · have q2 : ¬ (o.kind = 2 ∨ o.kind = 3 ∨ o.kind = 4 ∨ o.kind = 5) := by omega
          have e : applyI ns (dv.map NdV.nd) o = (remNs ns o.name, (remDv ns ew o.name).map NdV.nd) := by
            unfold applyI
            rw [if_pos hm, if_neg q1, if_neg q2, if_neg q6, if_pos q7, remDv_map, hew]
          rw [decide_eq_false q1]
          simp only [bI_false]
          simp [q7, k0, k1, b0, opA]
          refine bP_pure (ref_named_p hv0 hb o.name) ?_
          by_cases q3 : hasK Nm.name ns o.name
          · have i3 := idxK_ge.2 q3
            have hk7 : hasK NdV.ino ew (nameI ns o.name) := by
              obtain ⟨y, y1, y2, y3⟩ := atK_has q3
              have : nameI ns o.name = y.ino := by unfold nameI; rw [y1]
              rw [this]; exact hx y y2
            simp [i3, k1, opA]
            obtain ⟨r2, H2, ⟨rfl, a3, b3, i3, f3⟩, w3⟩ := gone_c (s := o.name) i9 hs hd hsm q3 true (fun _ => hk7)
            refine bC_of w3 ?_
            refine ref_apply_fin i3 hoi (keep f3).2.2 (e.trans ?_)
            unfold remNs remDv
            rw [if_pos q3, if_pos q3]; rfl
          · have i3 : ¬ 0 ≤ idxK Nm.name ns o.name := fun h => q3 (idxK_ge.1 h)
            simp [i3]
            refine ref_apply_fin i9 hoi k2 (e.trans ?_)
            unfold remNs remDv
            rw [if_neg q3, if_neg q3]
        · have e : applyI ns (dv.map NdV.nd) o = (ns, chgD (ew.map NdV.nd) o) := by
            unfold applyI
            rw [if_pos hm, if_neg q1, if_neg q6, if_neg q7, hew]
            by_cases q2 : o.kind = 2 ∨ o.kind = 3 ∨ o.kind = 4 ∨ o.kind = 5
            · rw [if_pos q2]
            · rw [if_neg q2, chgD_other q2]
          rw [decide_eq_false q1]
          simp only [bI_false]
          simp [-anew_agg, q6, q7, k0, k1, b0, opA]
          refine bP_pure (ref_node_p hv0 hb o.ino) ?_
          by_cases q3 : hasK Nd.ino (dv.map NdV.nd) o.ino
          · have i3 := idxK_ge.2 q3
            have hdv : srtK cmpI NdV.ino dv := srtK_map.1 hdd
            have ek := idxK_pos koI hdd q3
            rw [posK_map] at ek
            obtain ⟨x, hx1, hx2, hx3⟩ := posK_atK koI hdv (hasK_map.1 q3)
            have hxl := hb.2.2.2 x.nd (List.mem_map_of_mem (List.mem_of_getElem? hx1))
            obtain ⟨R2, s2, p2⟩ := ref_change_p (d := x.nd) (o := o) x.h hxl hbv hbl
            have o2 := SV.oneA s2
            obtain ⟨y, hy1, hy2⟩ : ∃ y, ew[posK cmpI NdV.ino dv o.ino]? = some y ∧ y.nd = x.nd := by
              have h1 : (ew.map NdV.nd)[posK cmpI NdV.ino dv o.ino]? = some x.nd := by rw [hew, List.getElem?_map, hx1]; rfl
              exact getElem?_map_nd h1
            have b8 : rdCells true 8 (opA o bv) 0 = some (.agg (opA o bv)) := rfl
            have ei := sb.idx encD_len hx1 rfl
            obtain ⟨H1, f1, f2, f3, f4, f5⟩ : ∃ H1, anew H11 (.agg [I 0, nilSl]) = some (.ptr H11.length 0, H1) ∧ H1[0]? = some (some (.cells [a, b])) ∧ H1[1]? = some (some (.cells (opA o bv))) ∧ H1 = H11 ++ [some (.cells [I 0, nilSl])] ∧ Grew H11 H1 := by
              have g := Grew.app H11 [some (.cells [I 0, nilSl])]
              exact ⟨_, by simp, g.cells k0, g.cells k1, rfl, g⟩
            obtain ⟨H2, f6, f7, f8⟩ : ∃ H2, ast 2 H1 (.ptr H11.length 0) (.agg [I (cS (chgC o x.nd)), R2]) = some H2 ∧ H2[H11.length]? = some (some (.cells [I (cS (chgC o x.nd)), R2])) ∧ Grew H11 H2 := by
              subst f4
              exact ⟨H11 ++ [some (.cells [I (cS (chgC o x.nd)), R2])], by simp [ast, splice, o2, cellsA_one o2], by simp, Grew.app _ _⟩
            have i2 := i9.grew f8
            have d2 := i2.obj
            have fr2 : FrL 3 oi H11 H2 := ⟨f8.1, fun j j1 j2 => f8.2 j (by have := i9.len; omega)⟩
            have hat : atK Nd.ino (dv.map NdV.nd) o.ino = some x.nd := atK_map hx2
            simp [-anew_agg, i3, ek, k0, k1, b8, ei, encD_c]
            refine bP_of p2 ?_
            simp only [aextract, bO_some, List.getElem?_cons_zero, List.getElem?_cons_succ, f1, bH_some, f6, bS_some]
            simp [f2, f3, b8, ei, encD_c]
            cases hr : chgC o x.nd with
            | none =>
              simp
              refine ⟨by simp [rdCells, encD], rfl, ?_⟩
              refine ref_apply_fin i2 hoi (keep fr2).2.2 (e.trans ?_)
              unfold chgD
              rw [hew, hat]
              simp only [hr]
            | some c =>
              rw [hr] at s2 f7
              obtain ⟨o', off, cells, H4, w1, w2, w3, w4, w5, w6⟩ := i2.putD (sz := cS (some c)) hy1 s2
              simp [d2, f7, w1, rdCells, w4]
              refine ⟨by rw [encD_len]; omega, rfl, ?_⟩
              refine ref_apply_fin w5 hoi (keep (fr2.trans w6)).2.2 (e.trans ?_)
              unfold chgD
              rw [hew, hat]
              simp only [hr, posK_map]
              rw [List.map_set, hew]
              congr 2
              rw [← hy2]; rfl
          · have i3 : ¬ 0 ≤ idxK Nd.ino (dv.map NdV.nd) o.ino := fun h => q3 (idxK_ge.1 h)
            simp [i3]
            refine ref_apply_fin i9 hoi k2 (e.trans ?_)
            unfold chgD
            rw [hew, atK_none q3]
  · have e : applyI ns (dv.map NdV.nd) o = (ns, ew.map NdV.nd) := by unfold applyI; rw [if_neg hm, hew]
    have := ref_apply_fin i9 hoi k2 e
    rw [salvorref11_Apply_J5_eq] at this; unfold salvorref11_Apply_J5_b at this
    simp [d0, b0] at this
    simp [hm, d0, b0]
    exact this
end Go.Proofs.Ytpnfdibgfichmaa.Av
end
/-! YtpnfdibgfichmaaAvJc -/
section
/- Chapter 12: how long names, lists and contents are behind a change. -/
set_option linter.unusedVariables false
set_option linter.unusedSimpArgs false
set_option maxRecDepth 100000
namespace Go.Proofs.Ytpnfdibgfichmaa.Av
open Go Go.RowKit

theorem wr_len12 : ∀ {bs : List UInt8} {l : List Ext} {p : Int}, (writeL l p bs).length ≤ l.length + bs.length
  | [], l, p => Nat.le_refl _
  | b :: r, l, p => by
    show (writeL (needPut l p [b]) (p + 1) r).length ≤ _
    have ih := wr_len12 (bs := r) (l := needPut l p [b]) (p := p + 1)
    have h : (needPut l p [b]).length ≤ l.length + 1 := by
      unfold needPut
      have := need_len l (p / 8)
      simp [putL]
      omega
    simp only [List.length_cons]; omega
theorem chg_len {o : OpM} {d : Nd} : (cL (chgC o d)).length ≤ d.l.length + o.b.length + 4098 := by
  unfold chgC
  split
  · unfold writeC
    split
    · split
      · simp only [cL, Option.getD_some]; omega
      · simp only [cL, Option.getD_some]
        have := wr_len12 (bs := o.b) (l := d.l) (p := o.pos)
        omega
    · simp [cL]
  · split
    · unfold truncC
      split
      · simp only [cL, Option.getD_some, truncL, wipeL, List.length_map]
        exact Nat.le_trans (List.length_filter_le _ _) (by omega)
      · simp [cL]
    · split
      · unfold allocC
        split
        · simp only [cL, Option.getD_some, allocL]
          have := (ns_len (k := allocN o.pos o.size) (l := d.l) (no := o.pos / 8)).1
          have hN : allocN o.pos o.size ≤ 4098 := by unfold allocN; omega
          omega
        · simp [cL]
      · split
        · unfold punchC
          split
          · simp only [cL, Option.getD_some, punchL, wipeL, List.length_map]
            exact Nat.le_trans (List.length_filter_le _ _) (by omega)
          · simp [cL]
        · simp [cL]
theorem chgD_mem {ds : List Nd} {o : OpM} {d : Nd} (h : d ∈ chgD ds o) : d ∈ ds ∨ ∃ e ∈ ds, d.l.length ≤ e.l.length + o.b.length + 4098 := by
  unfold chgD at h
  split at h
  · rename_i e he
    split at h
    · rename_i c hc
      rcases List.mem_or_eq_of_mem_set h with h | h
      · exact .inl h
      · refine .inr ⟨e, List.mem_of_find?_eq_some he, ?_⟩
        have := chg_len (o := o) (d := e)
        rw [hc] at this
        rw [h]; exact this
    · exact .inl h
  · exact .inl h
theorem remNs_sub {ns : List Nm} {s : List UInt8} : (remNs ns s).Sublist ns := by
  unfold remNs
  split
  · exact delK_sub
  · exact List.Sublist.refl _
theorem remD_sub {ns : List Nm} {ds : List Nd} {s : List UInt8} : (remD ns ds s).Sublist ds := by
  unfold remD
  split
  · exact delK_sub
  · exact List.Sublist.refl _
theorem chgD_len {ds : List Nd} {o : OpM} : (chgD ds o).length = ds.length := by
  unfold chgD
  split
  · split
    · simp
    · rfl
  · rfl
/-- What a change adds at most. -/
theorem applyI_len {ns : List Nm} {ds : List Nd} {o : OpM} : (applyI ns ds o).1.length ≤ ns.length + 1 ∧ (applyI ns ds o).2.length ≤ ds.length + 1 ∧ (∀ x ∈ (applyI ns ds o).1, x ∈ ns ∨ x.name = o.name ∨ x.name = o.to) ∧ ∀ d ∈ (applyI ns ds o).2, d ∈ ds ∨ d.l = [] ∨ ∃ e ∈ ds, d.l.length ≤ e.l.length + o.b.length + 4098 := by
  have base : (ns, ds).1.length ≤ ns.length + 1 ∧ (ns, ds).2.length ≤ ds.length + 1 ∧ (∀ x ∈ (ns, ds).1, x ∈ ns ∨ x.name = o.name ∨ x.name = o.to) ∧ ∀ d ∈ (ns, ds).2, d ∈ ds ∨ d.l = [] ∨ ∃ e ∈ ds, d.l.length ≤ e.l.length + o.b.length + 4098 := ⟨Nat.le_succ _, Nat.le_succ _, fun x h => .inl h, fun d h => .inl h⟩
  unfold applyI
  split
  · split
    · split
      · refine ⟨Nat.le_of_eq insK_len, Nat.le_of_eq insK_len, fun x h => ?_, fun d h => ?_⟩
        · rcases mem_insK.1 h with rfl | h
          · exact .inr (.inl rfl)
          · exact .inl h
        · rcases mem_insK.1 h with rfl | h
          · exact .inr (.inl rfl)
          · exact .inl h
      · exact base
    · split
      · refine ⟨Nat.le_succ _, by show (chgD ds o).length ≤ _; rw [chgD_len]; omega, fun x h => .inl h, fun d h => (chgD_mem h).imp id .inr⟩
      · split
        · split
          · have h1 := (remNs_sub (ns := delK cmpN Nm.name ns o.name) (s := o.to)).trans delK_sub
            have h2 := remD_sub (ns := delK cmpN Nm.name ns o.name) (ds := ds) (s := o.to)
            refine ⟨?_, Nat.le_succ_of_le h2.length_le, fun x h => ?_, fun d h => .inl (h2.subset h)⟩
            · show (insK _ _ _ _).length ≤ _
              rw [insK_len]
              have := h1.length_le
              omega
            · rcases mem_insK.1 h with rfl | h
              · exact .inr (.inr rfl)
              · exact .inl (h1.subset h)
          · exact base
        · split
          · exact ⟨Nat.le_succ_of_le remNs_sub.length_le, Nat.le_succ_of_le remD_sub.length_le, fun x h => .inl (remNs_sub.subset h), fun d h => .inl (remD_sub.subset h)⟩
          · exact base
  · exact base
end Go.Proofs.Ytpnfdibgfichmaa.Av
end
/-! YtpnfdibgfichmaaAvJd -/
section
/- Chapter 12: changes, one behind the other. -/
set_option linter.unusedVariables false
set_option linter.unusedSimpArgs false
set_option maxRecDepth 100000
namespace Go.Proofs.Ytpnfdibgfichmaa.Av
open Go Go.RowKit

theorem OwI.lend {L : Nat} {ns : List Nm} {dv : List NdV} {a b : AV} {H : AH} (h : OwI L ns dv a b H) : ∃ R, ImV ns (dv.map NdV.nd) R ∧ FZ H (.agg [a, b]) R := by
  obtain ⟨Ra, h1, f1⟩ := FZ.sv h.sa (noIdss_flat fun x _ => noIdss_encN x)
  obtain ⟨Rb, h2, f2⟩ := FZ.sv h.sb (noIdss_flat fun x _ => noIdss_encD x)
  exact ⟨_, ⟨Ra, Rb, dv, rfl, h1, h2, rfl⟩, FZ.agg (FZs.cons f1 (FZs.cons f2 FZs.nil))⟩
theorem Copy_p {ns : List Nm} {ds : List Nd} {v : AV} (hv : ImV ns ds v) (hb : Sm ns ds) : ∃ R, ImV ns ds R ∧ BPure Try.prog 33 [v] R := by
  have hids := hv.noIds
  obtain ⟨a, b, dv, rfl, sa, sb, rfl⟩ := hv
  have b2 := hb.2.1
  rw [List.length_map] at b2
  obtain ⟨r, X, ⟨a', b', ew, rfl, hew, -, ow⟩, hc⟩ := Copy_c (H := []) sa sb hb.1 b2 (fun d hd => hb.2.2.2 d.nd (List.mem_map_of_mem hd))
  obtain ⟨R, hR, fR⟩ := ow.lend
  rw [hew] at hR
  exact BPure.FZ hids ⟨_, X, ⟨R, fR, hR⟩, hc⟩
/-- A change that is handed in a list. -/
structure OpV where
  o : OpM
  bv : AV
  h : SV encU 1 o.b bv
def encO (x : OpV) : List AV := opA x.o x.bv
theorem encO_len (x : OpV) : (encO x).length = 8 := rfl
theorem noIdss_encO (x : OpV) : noIdss (encO x) = true := by simp [encO, opA, noIdss, noIds, x.h.1]
def allI (ns : List Nm) (ds : List Nd) (l : List OpM) : List Nm × List Nd := l.foldl (fun p o => applyI p.1 p.2 o) (ns, ds)
/-- Not too much, behind k changes. -/
def Fit (k : Nat) (ns : List Nm) (ds : List Nd) : Prop := ns.length ≤ 100 + k ∧ ds.length ≤ 100 + k ∧ (∀ x ∈ ns, x.name.length ≤ 1000000) ∧ ∀ d ∈ ds, d.l.length ≤ 1000 + k * 5000
def OpFew (o : OpM) : Prop := o.b.length ≤ 200 ∧ o.name.length ≤ 100 ∧ o.to.length ≤ 100
theorem Fit.sm {k : Nat} {ns : List Nm} {ds : List Nd} (h : Fit k ns ds) (hk : k ≤ 100) : Sm ns ds :=
  ⟨by have := h.1; omega, by have := h.2.1; omega, fun x hx => by have := h.2.2.1 x hx; omega, fun d hd => by have := h.2.2.2 d hd; omega⟩
theorem Fit.step {k : Nat} {ns : List Nm} {ds : List Nd} {o : OpM} (h : Fit k ns ds) (ho : OpFew o) : Fit (k + 1) (applyI ns ds o).1 (applyI ns ds o).2 := by
  obtain ⟨l1, l2, l3, l4⟩ := applyI_len (ns := ns) (ds := ds) (o := o)
  obtain ⟨h1, h2, h3, h4⟩ := h
  obtain ⟨o1, o2, o3⟩ := ho
  refine ⟨by omega, by omega, fun x hx => ?_, fun d hd => ?_⟩
  · rcases l3 x hx with h | h | h
    · exact h3 x h
    · rw [h]; omega
    · rw [h]; omega
  · rcases l4 d hd with h | h | ⟨e, h, h5⟩
    · have := h4 d h; omega
    · rw [h]; simp
    · have := h4 e h; omega
def ImK (p : List Nm × List Nd) (r : AV) : Prop := ImV p.1 p.2 r
theorem All_p {ns : List Nm} {ds : List Nd} {v lv : AV} {l : List OpV} (hv : ImV ns ds v) (hb : Fit 0 ns ds) (hl : SV encO 8 l lv) (hn : l.length ≤ 100) (ho : ∀ x ∈ l, OpFew x.o) :
    ∃ R, ImV (allI ns ds (l.map OpV.o)).1 (allI ns ds (l.map OpV.o)).2 R ∧ BPure Try.prog 10 [v, lv] R := by
  have hids := hv.noIds
  refine BPure.FZ (Q := fun R => ImV (allI ns ds (l.map OpV.o)).1 (allI ns ds (l.map OpV.o)).2 R) (by simp [noIdss] at hids ⊢; exact ⟨hids, hl.1⟩) (image_All_ok (K := ApK (allI ns ds (l.map OpV.o))) ?_)
  obtain ⟨R0, hR0, pc⟩ := Copy_p hv (hb.sm (by omega))
  obtain ⟨a, b, dv, rfl, sa, sb, rfl⟩ := hv
  obtain ⟨a1, b1, dv1, rfl, sa1, sb1, e1⟩ := hR0
  have oa := SV.oneA sa
  have ob := SV.oneA sb
  have oa1 := SV.oneA sa1
  have ob1 := SV.oneA sb1
  unfold image_All
  have b0 : ∀ x y : AV, rdCells true 2 [x, y] 0 = some (.agg [x, y]) := fun _ _ => rfl
  simp [oa, ob, b0]
  refine bP_pure pc ?_
  simp [oa1, ob1, ast, cellsA_one oa1, cellsA_one ob1, splice, hl.len]
  refine image_All_L4_rule (fun n x2 x4 x9 x10 x11 H' => ∃ (k : Nat) (c d : AV), k + n = l.length ∧ x2 = .ptr 0 0 ∧ x4 = .ptr 1 0 ∧ x9 = lv ∧ x10 = I l.length ∧ x11 = I k ∧ 2 ≤ H'.length ∧ H'[0]? = some (some (.cells [c, d])) ∧ H'[1]? = some (some (.cells [nilSl, nilSl])) ∧ ImV (allI ns (dv.map NdV.nd) ((l.take k).map OpV.o)).1 (allI ns (dv.map NdV.nd) ((l.take k).map OpV.o)).2 (.agg [c, d]) ∧ Fit k (allI ns (dv.map NdV.nd) ((l.take k).map OpV.o)).1 (allI ns (dv.map NdV.nd) ((l.take k).map OpV.o)).2) ?_ l.length ⟨0, a1, b1, by omega, rfl, rfl, rfl, rfl, rfl, by simp, rfl, rfl, ⟨a1, b1, dv1, rfl, sa1, sb1, e1⟩, hb⟩
  rintro n x2 x4 x9 x10 x11 H' R hR ⟨k, c, d, hk, rfl, rfl, rfl, rfl, rfl, hlen, c0, c1, hI, hF⟩
  unfold image_All_L4_b
  rcases Nat.lt_or_ge k l.length with h | h
  · have hx := List.getElem?_eq_getElem h
    generalize l[k] = x at hx
    have hos := ho x (List.mem_of_getElem? hx)
    have ox := SV.oneA x.h
    obtain ⟨R2, i2, p2⟩ := Apply_p (o := x.o) hI (hF.sm (by omega)) x.h (by have := hos.1; omega) (by have := hos.2.1; omega) (by have := hos.2.2; omega)
    have rd8 : ∀ t, rdCells true 8 (encO x ++ t) 0 = some (.agg (opA x.o x.bv)) := fun t => by simp [rdCells, encO, opA]
    obtain ⟨H2, e2, k0, k1, k2, l2⟩ : ∃ H2, ast 8 (H' ++ [some (.cells [I 0, I 0, I 0, I 0, B false, S ⟨#[]⟩, S ⟨#[]⟩, nilSl])]) (.ptr H'.length 0) (.agg (opA x.o x.bv)) = some H2 ∧ H2[0]? = some (some (.cells [c, d])) ∧ H2[1]? = some (some (.cells [nilSl, nilSl])) ∧ H2[H'.length]? = some (some (.cells (opA x.o x.bv))) ∧ H2.length = H'.length + 1 := by
      have g := Grew.app H' [some (.cells (opA x.o x.bv))]
      exact ⟨_, by simp [ast, opA, splice, ox], g.cells c0, g.cells c1, by simp, by simp⟩
    have r8 : rdCells true 8 (opA x.o x.bv) 0 = some (.agg (opA x.o x.bv)) := rfl
    have eal : allI ns (dv.map NdV.nd) ((l.take (k + 1)).map OpV.o) = applyI (allI ns (dv.map NdV.nd) ((l.take k).map OpV.o)).1 (allI ns (dv.map NdV.nd) ((l.take k).map OpV.o)).2 x.o := by
      rw [take_snoc hx, List.map_append]
      unfold allI
      rw [List.foldl_append]; rfl
    obtain ⟨c2, d2, dv2, rfl, sc2, sd2, e3⟩ := i2
    have oc2 := SV.oneA sc2
    have od2 := SV.oneA sd2
    have e4 : ast 2 H2 (.ptr 0 0) (.agg [c2, d2]) = some (H2.set 0 (some (.cells [c2, d2]))) := by
      rw [ast_ptr (n := 2) (off := 0) (xs := [c2, d2]) (by simp [oc2, od2]) k0 rfl (by simp)]; rfl
    simp [h, hl.idx encO_len hx rfl, rd8, e2, k0, b0, k2, r8]
    refine bP_pure p2 ?_
    simp [e4, abI_add (a := k) (b := 1) (by omega) (by omega)]
    refine hR (n - 1) _ _ _ _ _ _ (by omega) ⟨k + 1, c2, d2, by omega, rfl, rfl, rfl, rfl, by simp, by rw [List.length_set]; omega, by rw [List.getElem?_set_self (by omega)], by rw [List.getElem?_set_ne (by omega)]; exact k1, ?_, ?_⟩
    · rw [eal]; exact ⟨c2, d2, dv2, rfl, sc2, sd2, e3⟩
    · rw [eal]; exact hF.step hos
  · have ek : l.take k = l := List.take_of_length_le (by omega)
    rw [ek] at hI
    obtain ⟨c', d', dv2, e5, sc2, sd2, e3⟩ := hI
    injection e5 with e5; injection e5 with e5 e6; injection e6 with e6
    subst e5; subst e6
    have oc2 := SV.oneA sc2
    have od2 := SV.oneA sd2
    have k1l := (List.getElem?_eq_some_iff.1 c1).1
    have e4 : ast 2 H' (.ptr 1 0) (.agg [c, d]) = some (H'.set 1 (some (.cells [c, d]))) := by
      rw [ast_ptr (n := 2) (off := 0) (xs := [c, d]) (by simp [oc2, od2]) c1 rfl (by simp)]; rfl
    simp [show ¬ k < l.length by omega, c0, b0, e4, k1l]
    exact ⟨.agg [c, d], FZ.same (by simp [noIds, noIdss, sc2.1, sd2.1]), c, d, dv2, rfl, sc2, sd2, e3⟩
/-- A change that lies in a slice. -/
theorem op_at {H : AH} {w : AV} {l : List OpV} {k : Nat} {x : OpV} (hw : sliceCells H 8 w = some (l.flatMap encO, l.length)) (hx : l[k]? = some x) : ∃ p, aixS 8 w (I k) = some p ∧ ald true 8 H p = some (.agg (opA x.o x.bv)) := by
  have hk := (List.getElem?_eq_some_iff.1 hx).1
  obtain ⟨p, c, h1, h2, h3, h4⟩ := aixS_spec hw (i := (k : Int)) rfl hk
  have hc : c.take 8 = encO x := by
    rw [h3, flatMap_split encO_len hx, List.take_append_of_le_length (by rw [encO_len]; omega), List.take_of_length_le (by rw [encO_len]; omega)]
  exact ⟨p, h1, by rw [ald_at h2 (by omega) h4, rdCells_agg (by omega), List.drop_zero, hc]; rfl⟩
theorem All_c {H : AH} {ns : List Nm} {ds : List Nd} {v lv : AV} {l : List OpV} (hv : ImV ns ds v) (hb : Fit 0 ns ds) (hl : sliceCells H 8 lv = some (l.flatMap encO, l.length)) (hn : l.length ≤ 100) (ho : ∀ x ∈ l, OpFew x.o) :
    ∃ r H', (ImV (allI ns ds (l.map OpV.o)).1 (allI ns ds (l.map OpV.o)).2 r ∧ Grew H H') ∧ BCall Try.prog 10 [v, lv] H r H' := image_All_ok (by
  obtain ⟨R0, hR0, pc⟩ := Copy_p hv (hb.sm (by omega))
  obtain ⟨a, b, dv, rfl, sa, sb, rfl⟩ := hv
  obtain ⟨a1, b1, dv1, rfl, sa1, sb1, e1⟩ := hR0
  have oa := SV.oneA sa
  have ob := SV.oneA sb
  have oa1 := SV.oneA sa1
  have ob1 := SV.oneA sb1
  unfold image_All
  have b0 : ∀ x y : AV, rdCells true 2 [x, y] 0 = some (.agg [x, y]) := fun _ _ => rfl
  have ln := alnS_spec hl
  obtain ⟨H3, e3, c0, c1, g3, l3⟩ : ∃ H3, anew (H ++ [some (.cells [a, b])]) (.agg [nilSl, nilSl]) = some (.ptr (H.length + 1) 0, H3) ∧ H3[H.length]? = some (some (.cells [a, b])) ∧ H3[H.length + 1]? = some (some (.cells [nilSl, nilSl])) ∧ Grew H H3 ∧ H3.length = H.length + 2 := by
    refine ⟨H ++ [some (.cells [a, b]), some (.cells [nilSl, nilSl])], by simp, by simp, by rw [List.getElem?_append_right (by omega)]; simp, Grew.app _ _, by simp⟩
  have e6 : ast 2 H3 (.ptr H.length 0) (.agg [a1, b1]) = some (H3.set H.length (some (.cells [a1, b1]))) := by
    rw [ast_ptr (n := 2) (off := 0) (xs := [a1, b1]) (by simp [oa1, ob1]) c0 rfl (by simp)]; rfl
  simp [oa, ob, e3, c0, b0]
  refine bP_pure pc ?_
  simp only [e6, bS_some, ln, bO_some]
  refine image_All_L4_rule (fun n x2 x4 x9 x10 x11 H' => ∃ (k : Nat) (c d : AV), k + n = l.length ∧ x2 = .ptr H.length 0 ∧ x4 = .ptr (H.length + 1) 0 ∧ x9 = lv ∧ x10 = I l.length ∧ x11 = I k ∧ H.length + 2 ≤ H'.length ∧ (∀ i, i < H.length → H'[i]? = H[i]?) ∧ H'[H.length]? = some (some (.cells [c, d])) ∧ H'[H.length + 1]? = some (some (.cells [nilSl, nilSl])) ∧ ImV (allI ns (dv.map NdV.nd) ((l.take k).map OpV.o)).1 (allI ns (dv.map NdV.nd) ((l.take k).map OpV.o)).2 (.agg [c, d]) ∧ Fit k (allI ns (dv.map NdV.nd) ((l.take k).map OpV.o)).1 (allI ns (dv.map NdV.nd) ((l.take k).map OpV.o)).2) ?_ l.length ⟨0, a1, b1, by omega, rfl, rfl, rfl, rfl, rfl, by rw [List.length_set]; omega, fun i hi => by rw [List.getElem?_set_ne (by omega)]; exact g3.2 i hi, by rw [List.getElem?_set_self (by omega)], by rw [List.getElem?_set_ne (by omega)]; exact c1, ⟨a1, b1, dv1, rfl, sa1, sb1, e1⟩, hb⟩
  rintro n x2 x4 x9 x10 x11 H' R hR ⟨k, c, d, hk, rfl, rfl, rfl, rfl, rfl, hlen, hfr, c0, c1, hI, hF⟩
  unfold image_All_L4_b
  have hl' : sliceCells H' 8 x9 = some (l.flatMap encO, l.length) := sliceCells_keep hl fun i hi => hfr i (sliceCells_lt hl i hi)
  rcases Nat.lt_or_ge k l.length with h | h
  · have hx := List.getElem?_eq_getElem h
    generalize l[k] = x at hx
    have hos := ho x (List.mem_of_getElem? hx)
    have ox := SV.oneA x.h
    obtain ⟨R2, i2, p2⟩ := Apply_p (o := x.o) hI (hF.sm (by omega)) x.h (by have := hos.1; omega) (by have := hos.2.1; omega) (by have := hos.2.2; omega)
    obtain ⟨p, p1, p3⟩ := op_at hl' hx
    obtain ⟨H2, e2, k0, k1, k2, l2, f2⟩ : ∃ H2, ast 8 (H' ++ [some (.cells [I 0, I 0, I 0, I 0, B false, S ⟨#[]⟩, S ⟨#[]⟩, nilSl])]) (.ptr H'.length 0) (.agg (opA x.o x.bv)) = some H2 ∧ H2[H.length]? = some (some (.cells [c, d])) ∧ H2[H.length + 1]? = some (some (.cells [nilSl, nilSl])) ∧ H2[H'.length]? = some (some (.cells (opA x.o x.bv))) ∧ H2.length = H'.length + 1 ∧ ∀ i, i < H'.length → H2[i]? = H'[i]? := by
      have g := Grew.app H' [some (.cells (opA x.o x.bv))]
      exact ⟨_, by simp [ast, opA, splice, ox], g.cells c0, g.cells c1, by simp, by simp, g.2⟩
    have r8 : rdCells true 8 (opA x.o x.bv) 0 = some (.agg (opA x.o x.bv)) := rfl
    have eal : allI ns (dv.map NdV.nd) ((l.take (k + 1)).map OpV.o) = applyI (allI ns (dv.map NdV.nd) ((l.take k).map OpV.o)).1 (allI ns (dv.map NdV.nd) ((l.take k).map OpV.o)).2 x.o := by
      rw [take_snoc hx, List.map_append]
      unfold allI
      rw [List.foldl_append]; rfl
    obtain ⟨c2, d2, dv2, rfl, sc2, sd2, e3⟩ := i2
    have oc2 := SV.oneA sc2
    have od2 := SV.oneA sd2
    have e4 : ast 2 H2 (.ptr H.length 0) (.agg [c2, d2]) = some (H2.set H.length (some (.cells [c2, d2]))) := by
      rw [ast_ptr (n := 2) (off := 0) (xs := [c2, d2]) (by simp [oc2, od2]) k0 rfl (by simp)]; rfl
    have q1 : ald true 2 H2 (.ptr H.length 0) = some (.agg [c, d]) := by rw [ald_ptr k0]; rfl
    have q2 : ald true 8 H2 (.ptr H'.length 0) = some (.agg (opA x.o x.bv)) := by rw [ald_ptr k2]; rfl
    have q3 : anew H' (.agg [I 0, I 0, I 0, I 0, B false, S ⟨#[]⟩, S ⟨#[]⟩, nilSl]) = some (.ptr H'.length 0, H' ++ [some (.cells [I 0, I 0, I 0, I 0, B false, S ⟨#[]⟩, S ⟨#[]⟩, nilSl])]) := by simp
    simp only [abI_lss, Int.ofNat_lt, h, decide_true, bO_some, bB_bool, bI_true, p1, p3, q3, bH_some, e2, bS_some, q1, q2]
    refine bP_pure p2 ?_
    simp only [e4, bS_some, abI_add (a := k) (b := 1) (by omega) (by omega), bO_some]
    refine hR (n - 1) _ _ _ _ _ _ (by omega) ⟨k + 1, c2, d2, by omega, rfl, rfl, rfl, rfl, by simp, by rw [List.length_set]; omega, fun i hi => by rw [List.getElem?_set_ne (by omega), f2 i (by omega)]; exact hfr i hi, by rw [List.getElem?_set_self (by omega)], by rw [List.getElem?_set_ne (by omega)]; exact k1, ?_, ?_⟩
    · rw [eal]; exact ⟨c2, d2, dv2, rfl, sc2, sd2, e3⟩
    · rw [eal]; exact hF.step hos
  · have ek : l.take k = l := List.take_of_length_le (by omega)
    rw [ek] at hI
    obtain ⟨c', d', dv2, e5, sc2, sd2, e3⟩ := hI
    injection e5 with e5; injection e5 with e5 e6; injection e6 with e6
    subst e5; subst e6
    have oc2 := SV.oneA sc2
    have od2 := SV.oneA sd2
    have k1l := (List.getElem?_eq_some_iff.1 c1).1
    have e4 : ast 2 H' (.ptr (H.length + 1) 0) (.agg [c, d]) = some (H'.set (H.length + 1) (some (.cells [c, d]))) := by
      rw [ast_ptr (n := 2) (off := 0) (xs := [c, d]) (by simp [oc2, od2]) c1 rfl (by simp)]; rfl
    simp [show ¬ k < l.length by omega, c0, b0, e4, k1l]
    exact ⟨⟨c, d, dv2, rfl, sc2, sd2, e3⟩, by rw [List.length_set]; omega, fun i hi => by rw [List.getElem?_set_ne (by omega)]; exact hfr i hi⟩)
end Go.Proofs.Ytpnfdibgfichmaa.Av
end
