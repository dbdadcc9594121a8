/- Chapter 11: another size, and holes. -/
import Derived.Test.YtflodknflaallaaAvExtA
set_option linter.unusedVariables false
set_option linter.unusedSimpArgs false
set_option maxRecDepth 100000
namespace Go.Proofs.Ytflodknflaallaa.Av
open Go Go.RowKit

theorem FZ.fn {X : AH} {k : Fn} {a b a' b' : List AV} (ha : FZs X a a') (hb : FZs X b b') : FZ X (.fn k a b) (.fn k a' b') := by
  obtain ⟨n0, h0⟩ := ha
  obtain ⟨n1, h1⟩ := hb
  refine ⟨n0 + n1 + 1, fun n hn => ?_⟩
  cases n with
  | zero => omega
  | succ n => simp only [frz, h0 n (by omega), h1 n (by omega)]
theorem FZs.same {X : AH} {vs : List AV} (h : noIdss vs = true) : FZs X vs vs := frz_noIdss X vs h
theorem FZ.ptr {X : AH} {o off : Nat} {cs Rs : List AV} (ho : X[o]? = some (some (.cells cs))) (h : FZs X (cs.drop off) Rs) : FZ X (.ptr o off) (.ip Rs) := by
  obtain ⟨n0, h0⟩ := h
  refine ⟨n0 + 1, fun n hn => ?_⟩
  cases n with
  | zero => omega
  | succ n => simp only [frz, ho, h0 n (by omega)]; rfl
/-- An element is written into a slice of one's own. -/
theorem sl_put {α : Type} {enc : α → List AV} {sz : Nat} (hsz : ∀ x, (enc x).length = sz) (h0 : 0 < sz) {H : AH} {w x : AV} {l : List α} {y : α} {i : Nat} {a : Int} (hw : sliceCells H sz w = some (l.flatMap enc, l.length)) (ho : ownedS w = true) (hi : i < l.length) (ha : a = i) (hx : cellsA x = some (enc y)) :
    ∃ p H', aixS sz w (I a) = some p ∧ ast sz H p x = some H' ∧ H'.length = H.length ∧ (∀ j, j ∉ idS w → H'[j]? = H[j]?) ∧ sliceCells H' sz w = some ((l.set i y).flatMap enc, l.length) := by
  subst ha
  obtain ⟨o, off, cap, cells, rfl, h1, h2, h3⟩ := owned_sl hw ho (by omega)
  have hol := (List.getElem?_eq_some_iff.1 h1).1
  have hmul : i * sz + sz ≤ l.length * sz := by rw [← Nat.succ_mul]; exact Nat.mul_le_mul_right _ hi
  have hy := hsz y
  have hl := List.getElem?_eq_getElem hi
  have hll := hsz (l[i])
  refine ⟨.ptr o (off + i * sz), H.set o (some (.cells (over cells (off + (i * sz + 0)) (enc y)))), ?_, ?_, by simp, fun j hj => List.getElem?_set_ne (by simp [idS] at hj; omega), ?_⟩
  · simp only [aixS, aint]
    rw [if_pos ⟨by omega, by omega⟩]; simp
  · rw [ast_ptr (n := sz) (off := off + i * sz) (xs := enc y) hx h1 hy (by omega), splice_eq _ _ _ (by omega)]; rfl
  · rw [sliceCells_sl (c := over cells (off + (i * sz + 0)) (enc y)) (by simp [hol]) (by rw [over_len (by omega)]; exact h2)]
    rw [over_part h2 (by omega), ← h3, over_flat (q := 0) hsz hl (by unfold over; rw [List.take_zero, List.nil_append, List.drop_of_length_le (by omega), List.append_nil]) (by omega)]

/-! which blocks go -/
def firstI (p : Ext → Bool) (l : List Ext) : Int := match l.findIdx? p with
  | some i => i
  | none => -1
/-- What the deleting asks of a block. -/
def DelP (k : FuncId) (oc : Nat) (c : List AV) (l : List Ext) (p : Ext → Bool) : Prop :=
  goFunc Try.prog k = true ∧ noIdss c = true ∧ ∀ x ∈ l, ∀ (H : AH) (a : AV), (a = .ip c ∨ (a = .ptr oc 0 ∧ H[oc]? = some (some (.cells c)))) → ∃ H', Grew H H' ∧ BCall Try.prog k [.agg (encE x), a] H (B (p x)) H'
theorem ext_IndexFunc_p {k : FuncId} {oc : Nat} {c : List AV} {l : List Ext} {p : Ext → Bool} {R : AV} (hR : SV encE 9 l R) (hl : l.length ≤ 281474976710656) (hd : DelP k oc c l p) :
    BPure Try.prog 57 [R, .fn (.func k) [] [.ip c]] (I (firstI p l)) := BPure.val (by simp [noIdss, noIds, hR.1, hd.2.1]) rfl (slices_IndexFunc_Lapi_Ext_api_Ext_ok (by
  unfold slices_IndexFunc_Lapi_Ext_api_Ext
  simp [hR.len]
  refine slices_IndexFunc_Lapi_Ext_api_Ext_L3_rule (fun n x0 x1 x7 x8 H => ∃ j : Nat, j + n = l.length ∧ x0 = R ∧ x1 = .fn (.func k) [] [.ip c] ∧ x7 = I l.length ∧ x8 = I j ∧ ∀ m x, m < j → l[m]? = some x → p x = false) ?_ l.length ⟨0, by simp, rfl, rfl, rfl, rfl, by simp⟩
  rintro n x0 x1 x7 x8 H R' hR' ⟨j, hj, rfl, rfl, rfl, rfl, hm⟩
  unfold slices_IndexFunc_Lapi_Ext_api_Ext_L3_b
  rcases Nat.lt_or_ge j l.length with hlt | hge
  · have hx := List.getElem?_eq_getElem hlt
    generalize l[j] = y at hx
    obtain ⟨H', g, hc⟩ := hd.2.2 y (List.mem_of_getElem? hx) H (.ip c) (.inl rfl)
    simp [hlt, hR.idx encE_len hx rfl, hd.1]
    refine bC_of hc ?_
    cases hp : p y with
    | true =>
      have : l.findIdx? p = some j := by
        rw [List.findIdx?_eq_some_iff_getElem]
        obtain ⟨h1, h2⟩ := List.getElem?_eq_some_iff.1 hx
        refine ⟨h1, by rw [h2]; exact hp, fun i hi => ?_⟩
        have := hm i _ hi (List.getElem?_eq_getElem (by omega))
        simp [this]
      simp [firstI, this]
    | false =>
      simp [abI_add (a := j) (b := 1) (by omega) (by omega)]
      refine hR' (n - 1) _ _ _ _ _ (by omega) ⟨j + 1, by omega, rfl, rfl, rfl, rfl, fun m x hmj hx2 => ?_⟩
      by_cases h : m = j
      · subst h; rw [hx] at hx2; injection hx2 with hx2; rw [← hx2]; exact hp
      · exact hm m x (by omega) hx2
  · have : l.findIdx? p = none := by
      rw [List.findIdx?_eq_none_iff]
      intro x hx
      obtain ⟨m, hmx⟩ := List.mem_iff_getElem?.1 hx
      exact hm m x (by have := (List.getElem?_eq_some_iff.1 hmx).1; omega) hmx
    have hjl : ¬ j < l.length := by omega
    simp [hjl, firstI, this]))
theorem filter_none {p : Ext → Bool} {l : List Ext} (h : ∀ x ∈ l, p x = false) : l.filter (fun x => !p x) = l := List.filter_eq_self.2 fun x hx => by simp [h x hx]
theorem ext_DeleteFunc_c {H : AH} {v : AV} {l : List Ext} {k : FuncId} {oc : Nat} {c : List AV} {p : Ext → Bool} (hv : sliceCells H 9 v = some (l.flatMap encE, l.length)) (ho : ownedS v = true) (hl : l.length ≤ 1000000) (hc : H[oc]? = some (some (.cells c))) (hne : oc ∉ idS v) (hd : DelP k oc c l p) :
    ∃ r H', (ownedS r = true ∧ sliceCells H' 9 r = some ((l.filter fun x => !p x).flatMap encE, (l.filter fun x => !p x).length) ∧ H.length ≤ H'.length ∧ (∀ i, i < H.length → i ∉ idS v → H'[i]? = H[i]?) ∧ ∀ i ∈ idS r, i ∈ idS v) ∧
      BCall Try.prog 46 [v, .fn (.func k) [] [.ptr oc 0]] H r H' := slices_DeleteFunc_Lapi_Ext_api_Ext_ok (by
  unfold slices_DeleteFunc_Lapi_Ext_api_Ext
  obtain ⟨R, hR, fR⟩ := FZ.sv hv (noIdss_exts l)
  have fc : FZ H (.fn (.func k) [] [.ptr oc 0]) (.fn (.func k) [] [.ip c]) := FZ.fn FZs.nil (FZs.cons (FZ.ptr hc (FZs.same hd.2.1)) FZs.nil)
  refine bP_of (PCall.lend (FZs.cons fR (FZs.cons fc FZs.nil)) rfl (ext_IndexFunc_p hR (by omega) hd)) ?_
  cases hf : l.findIdx? p with
  | none =>
    rw [List.findIdx?_eq_none_iff] at hf
    simp [firstI, List.findIdx?_eq_none_iff.2 hf]
    rw [filter_none hf]
    exact ⟨ho, hv⟩
  | some i0 =>
    obtain ⟨h1, h2, h3⟩ := List.findIdx?_eq_some_iff_getElem.1 hf
    have hoc := (List.getElem?_eq_some_iff.1 hc).1
    simp [firstI, hf, show ¬ (i0 : Int) = -1 by omega, abI_add (a := i0) (b := 1) (by omega) (by omega)]
    have ht : (l.take (i0 + 1)).filter (fun x => !p x) = l.take i0 := by
      rw [List.take_add_one, List.filter_append, List.getElem?_eq_getElem h1]
      simp [h2]
      intro x hx
      obtain ⟨m, hm⟩ := List.mem_iff_getElem?.1 hx
      have hml := (List.getElem?_eq_some_iff.1 hm).1
      rw [List.length_take] at hml
      rw [List.getElem?_take, if_pos (by omega)] at hm
      have := h3 m (by omega)
      obtain ⟨q1, q2⟩ := List.getElem?_eq_some_iff.1 hm
      rw [q2] at this
      simpa using this
    refine slices_DeleteFunc_Lapi_Ext_api_Ext_L7_rule (fun n x0 x1 x5 x6 H' => ∃ (i j : Nat) (M : List Ext), j + n = l.length ∧ i < j ∧ x0 = v ∧ x1 = .fn (.func k) [] [.ptr oc 0] ∧ x5 = I i ∧ x6 = I j ∧ M.length = l.length ∧ M.take i = (l.take j).filter (fun x => !p x) ∧ M.drop j = l.drop j ∧
      sliceCells H' 9 v = some (M.flatMap encE, M.length) ∧ H'[oc]? = some (some (.cells c)) ∧ H.length ≤ H'.length ∧ ∀ i, i < H.length → i ∉ idS v → H'[i]? = H[i]?) ?_ (l.length - (i0 + 1))
      ⟨i0, i0 + 1, l, by omega, by omega, rfl, rfl, rfl, rfl, rfl, ht.symm, rfl, hv, hc, Nat.le_refl _, fun _ _ _ => rfl⟩
    rintro n x0 x1 x5 x6 H' R' hR' ⟨i, j, M, hj, hij, rfl, rfl, rfl, rfl, hM, hMt, hMd, hw, hc', hle, hk⟩
    unfold slices_DeleteFunc_Lapi_Ext_api_Ext_L7_b
    rcases Nat.lt_or_ge j l.length with hlt | hge
    · have hx := List.getElem?_eq_getElem hlt
      generalize l[j] = y at hx
      have hMx : M[j]? = some y := by
        have := congrArg (fun q => q[0]?) hMd
        simp only [List.getElem?_drop, Nat.add_zero] at this
        rw [this]; exact hx
      obtain ⟨q, -, e1, -, -, e2⟩ := sl_no (a := j) hw hMx rfl
      have hoc' := (List.getElem?_eq_some_iff.1 hc').1
      have gA := Grew.app H' [some (.cells (encE y))]
      obtain ⟨H10, g, hcl⟩ := hd.2.2 y (List.mem_of_getElem? hx) (H' ++ [some (.cells (encE y))]) (.ptr oc 0) (.inr ⟨rfl, gA.cells hc'⟩)
      have gB := gA.trans g
      have z := g.cells (o := H'.length) (x := some (.cells (encE y))) (by simp)
      simp [alnS_spec hw, hM, hlt, e1, e2, hd.1, -ald_ptr']
      rw [ast_e (by simp) (by rfl)]
      simp
      refine bC_of hcl ?_
      have hdrop : M.drop (j + 1) = l.drop (j + 1) := by
        have := congrArg (List.drop 1) hMd
        rw [List.drop_drop, List.drop_drop] at this
        exact this
      have hkeepB : ∀ i, i < H.length → i ∉ idS x0 → H10[i]? = H[i]? := fun i h1 h2 => by rw [gB.2 i (by omega), hk i h1 h2]
      cases hp : p y with
      | true =>
        simp
        rw [slices_DeleteFunc_Lapi_Ext_api_Ext_J10_eq]
        unfold slices_DeleteFunc_Lapi_Ext_api_Ext_J10_b
        simp [abI_add (a := j) (b := 1) (by omega) (by omega)]
        refine hR' (n - 1) _ _ _ _ _ (by omega) ⟨i, j + 1, M, by omega, by omega, rfl, rfl, rfl, rfl, hM, ?_, hdrop, gB.slice hw, gB.cells hc', by have := gB.1; omega, hkeepB⟩
        rw [List.take_add_one, List.filter_append, ← hMt, hx]
        simp [hp]
      | false =>
        obtain ⟨q2, H16, f1, f2, f3, f4, f5⟩ := sl_put (x := .agg (encE y)) (y := y) (i := i) (a := i) encE_len (by omega) (gB.slice hw) ho (by omega) rfl (by simp)
        simp [z, f1, f2, abI_add (a := i) (b := 1) (by omega) (by omega)]
        rw [slices_DeleteFunc_Lapi_Ext_api_Ext_J10_eq]
        unfold slices_DeleteFunc_Lapi_Ext_api_Ext_J10_b
        simp [abI_add (a := j) (b := 1) (by omega) (by omega)]
        refine hR' (n - 1) _ _ _ _ _ (by omega) ⟨i + 1, j + 1, M.set i y, by omega, by omega, rfl, rfl, rfl, rfl, by simpa using hM, ?_, ?_, by simpa using f5, ?_, by have := gB.1; omega, fun i h1 h2 => by rw [f4 i h2]; exact hkeepB i h1 h2⟩
        · rw [List.take_add_one (l := l), List.filter_append, ← hMt, hx, List.take_add_one, List.getElem?_set_self (by omega), List.take_set_of_le (Nat.le_refl _)]
          simp [hp]
        · rw [List.drop_set_of_lt (by omega)]; exact hdrop
        · rw [f4 oc hne]; exact gB.cells hc'
    · have hjl : j = l.length := by omega
      subst hjl
      rw [List.take_length] at hMt
      have hil : i ≤ M.length := by omega
      have hfl : (l.filter fun x => !p x).length = i := by rw [← hMt, List.length_take]; omega
      obtain ⟨o, off, cap, cells, rfl, w1, w2, w3⟩ := owned_sl hw ho (by omega)
      have hol := (List.getElem?_eq_some_iff.1 w1).1
      have hmul : i * 9 ≤ M.length * 9 := Nat.mul_le_mul_right _ hil
      have hmul2 : i * 9 + (M.length - i) * 9 = M.length * 9 := by rw [← Nat.add_mul]; congr 1; omega
      have hz : (zrow (encE (newE 0)) (M.length - i)).length = (M.length - i) * 9 := by rw [zrow_length]; rfl
      have e3 : aslS 9 (.sl o off M.length 9 cap) (some (I i)) none none = some (.sl o (off + i * 9) (M.length - i) 9 (cap.cut M.length i)) := by
        simp [aslS, abnd]; omega
      have e4 : aslS 9 (.sl o off M.length 9 cap) none (some (I i)) none = some (.sl o off i 9 (cap.cut M.length 0)) := by
        simp [aslS, abnd]; omega
      have e5 : acl (encE (newE 0)) H' (.sl o (off + i * 9) (M.length - i) 9 (cap.cut M.length i)) = some (H'.set o (some (.cells (over cells (off + i * 9) (zrow (encE (newE 0)) (M.length - i)))))) := by
        simp only [acl, w1]
        rw [if_pos ⟨rfl, by omega, by omega⟩, if_neg (by omega), splice_eq _ _ _ (by rw [hz]; omega)]
        rfl
      rw [← encE_new]
      have hnl : ¬ (l.length : Int) < M.length := by omega
      simp only [alnS_sl, bO_some, abI_lss, hnl, decide_false, bB_bool, bI_false, e3, e5, bS_some, e4]
      refine ⟨rfl, ?_, by simpa using hle, fun a h1 h2 => ?_, by simp [idS]⟩
      · have hov : (over cells (off + i * 9) (zrow (encE (newE 0)) (M.length - i))).length = cells.length := over_len (by rw [hz]; omega)
        rw [hfl, sliceCells_sl (c := over cells (off + i * 9) (zrow (encE (newE 0)) (M.length - i))) (by simp [hol]) (by rw [hov]; omega)]
        congr 2
        rw [← hMt, ← flat_take encE_len, w3, List.take_take, Nat.min_eq_left hmul]
        refine List.ext_getElem? fun q => ?_
        rw [List.getElem?_take, List.getElem?_take]
        split
        · rw [List.getElem?_drop, List.getElem?_drop, over_get (by rw [hz]; omega), if_neg (by omega)]
        · rfl
      · rw [List.getElem?_set_ne (by simp [idS] at h2; omega)]
        exact hk a h1 h2)

/-! bytes of a block that are taken -/
theorem over_over {cs a b : List AV} {k : Nat} (hl : a.length = b.length) (h : k + a.length ≤ cs.length) : over (over cs k a) k b = over cs k b := by
  refine List.ext_getElem? fun i => ?_
  rw [over_get (by rw [over_len h]; omega), over_get (cs := cs) (xs := b) (by omega)]
  split
  · rfl
  · rename_i c
    rw [over_get h, if_neg (by omega)]
theorem over_part0 {cs xs : List AV} {k : Nat} (h : k + xs.length ≤ cs.length) : ((over cs k xs).drop k).take xs.length = xs := by
  refine List.ext_getElem? fun i => ?_
  rw [List.getElem?_take, List.getElem?_drop, over_get h]
  by_cases c : i < xs.length
  · rw [if_pos c, if_pos (by omega), show k + i - k = i by omega]
  · rw [if_neg c, List.getElem?_eq_none (by omega)]
theorem over_same {cs xs : List AV} {k : Nat} (h : (cs.drop k).take xs.length = xs) (hl : k + xs.length ≤ cs.length) : over cs k xs = cs := by
  refine List.ext_getElem? fun i => ?_
  rw [over_get hl]
  split
  · rename_i c
    rw [← h, List.getElem?_take, if_pos (by omega), List.getElem?_drop, show k + (i - k) = i by omega]
  · rfl
theorem encE_get (x : Ext) {j : Nat} (hj : j < 8) : (encE x)[j + 1]? = some (.lit (.int .u8 (x.b.getD j 0).toNat)) := by
  have hb := x.hb
  unfold encE
  rw [List.getElem?_cons_succ, encB_get, List.getD_eq_getElem?_getD, List.getElem?_eq_getElem (by omega)]
  rfl
theorem wipe_step {x : Ext} {a : Int} {i j : Nat} (hj : (j : Int) = a - x.no * 8 + i) (hj8 : j < 8) : (encE (wipeE x a (a + i))).set (1 + j) (.lit (.int .u8 0)) = encE (wipeE x a (a + (i + 1 : Nat))) := by
  refine List.ext_getElem? fun q => ?_
  rw [List.getElem?_set]
  cases q with
  | zero => rw [if_neg (by omega)]; rfl
  | succ q =>
    by_cases hq : q < 8
    · rw [encE_get _ hq, encE_get _ hq, wipeE_get hq, wipeE_get hq, encE_len]
      by_cases c : 1 + j = q + 1
      · rw [if_pos c, if_pos (by omega), if_pos (by omega)]; rfl
      · rw [if_neg c]
        by_cases c2 : a ≤ x.no * 8 + (q : Int) ∧ x.no * 8 + (q : Int) < a + i
        · rw [if_pos c2, if_pos (by omega)]
        · rw [if_neg c2, if_neg (by omega)]
    · rw [List.getElem?_eq_none (by rw [encE_len]; omega), List.getElem?_eq_none (by rw [encE_len]; omega), encE_len]
      rw [if_neg (by omega)]
theorem wipe_c {H : AH} {o q : Nat} {cells : List AV} {x : Ext} {s : Sp} (hc : H[o]? = some (some (.cells cells))) (hx : (cells.drop q).take 9 = encE x) (hq : q + 9 ≤ cells.length) (hs : MaySpan s) (h0 : 0 ≤ x.no) (h1 : x.no < 137438953472) :
    ∃ H', (H'[o]? = some (some (.cells (over cells q (encE (wipeE x s.pos (s.pos + s.len)))))) ∧ H.length ≤ H'.length ∧ ∀ i, i < H.length → i ≠ o → H'[i]? = H[i]?) ∧ BCall Try.prog 48 [.ptr o q, .agg (encSp s)] H (.tup []) H' := by
  have key : ∃ r H', (r = .tup [] ∧ (H'[o]? = some (some (.cells (over cells q (encE (wipeE x s.pos (s.pos + s.len)))))) ∧ H.length ≤ H'.length ∧ ∀ i, i < H.length → i ≠ o → H'[i]? = H[i]?)) ∧ BCall Try.prog 48 [.ptr o q, .agg (encSp s)] H r H' := extent_wipe_ok (by
    unfold extent_wipe
    have ho := (List.getElem?_eq_some_iff.1 hc).1
    have hno : cells[q]? = some (I x.no) := by
      have := congrArg (fun l => l[0]?) hx
      simp only [List.getElem?_take, List.getElem?_drop, Nat.add_zero] at this
      simpa [encE] using this
    have g1 := Grew.app H [some (.cells (encSp s))]
    have c1 := g1.cells hc
    have c1' : H[o]? = some (some (.cells cells)) := hc
    obtain ⟨p, n⟩ := s
    simp only [encSp] at c1 g1 ⊢
    simp [List.getElem?_append_left ho, hc, hno, rdCells]
    refine bP_of (extent_whole_p x.no h0 h1) ?_
    refine bP_of (off_Meet_p ⟨x.no * 8, 8⟩ ⟨p, n⟩) ?_
    have hwm : MaySpan ⟨x.no * 8, 8⟩ := by simp only [MaySpan, May]; omega
    have hm : meet ⟨x.no * 8, 8⟩ ⟨p, n⟩ = if max (x.no * 8) p < min (x.no * 8 + 8) (p + n) then ⟨max (x.no * 8) p, min (x.no * 8 + 8) (p + n) - max (x.no * 8) p⟩ else ⟨0, 0⟩ := by
      unfold meet
      simp only
      by_cases c : max (x.no * 8) p < min (x.no * 8 + 8) (p + n)
      · rw [if_pos ⟨hwm, hs, c⟩, if_pos c]
      · rw [if_neg (fun h => c h.2.2), if_neg c]
    -- what is wiped
    have hres : ∀ m : Nat, (m : Int) = (meet ⟨x.no * 8, 8⟩ ⟨p, n⟩).len → wipeE x (meet ⟨x.no * 8, 8⟩ ⟨p, n⟩).pos ((meet ⟨x.no * 8, 8⟩ ⟨p, n⟩).pos + m) = wipeE x p (p + n) := by
      intro m he
      refine ext_eq rfl fun k hk => ?_
      rw [wipeE_get hk, wipeE_get hk]
      rw [hm] at he ⊢
      by_cases c : max (x.no * 8) p < min (x.no * 8 + 8) (p + n)
      · rw [if_pos c] at he ⊢
        simp only at he ⊢
        by_cases c2 : p ≤ x.no * 8 + (k : Int) ∧ x.no * 8 + (k : Int) < p + n
        · rw [if_pos c2, if_pos (by omega)]
        · rw [if_neg c2, if_neg (by omega)]
      · rw [if_neg c] at he ⊢
        simp only at he ⊢
        rw [if_neg (by omega), if_neg (by omega)]
    have hml : ∃ m : Nat, (m : Int) = (meet ⟨x.no * 8, 8⟩ ⟨p, n⟩).len ∧ (0 < m → x.no * 8 ≤ (meet ⟨x.no * 8, 8⟩ ⟨p, n⟩).pos ∧ (meet ⟨x.no * 8, 8⟩ ⟨p, n⟩).pos + m ≤ x.no * 8 + 8) := by
      rw [hm]
      split
      · exact ⟨(min (x.no * 8 + 8) (p + n) - max (x.no * 8) p).toNat, by simp only; omega, fun _ => by simp only; omega⟩
      · exact ⟨0, rfl, fun h => by omega⟩
    obtain ⟨m, hmm, hmb⟩ := hml
    have hres := hres m hmm
    generalize meet ⟨x.no * 8, 8⟩ ⟨p, n⟩ = M at hmm hmb hres
    obtain ⟨a, ml⟩ := M
    simp only at hmm hmb hres
    subst hmm
    have hxl := encE_len x
    simp [encSp, List.getElem?_append_left ho, hc, hno, ast]
    have hz0 : wipeE x a (a + (0 : Nat)) = x := ext_eq rfl fun k hk => by rw [wipeE_get hk, if_neg (by omega)]
    refine extent_wipe_L3_rule (fun t x0 x4 x14 x15 H' => ∃ i : Nat, i + t = m ∧ x0 = .ptr o q ∧ x4 = .ptr (H.length + 1) 0 ∧ x14 = I m ∧ x15 = I i ∧ H'[o]? = some (some (.cells (over cells q (encE (wipeE x a (a + i)))))) ∧ H'[H.length + 1]? = some (some (.cells [I a, I m])) ∧ H.length ≤ H'.length ∧ ∀ i, i < H.length → i ≠ o → H'[i]? = H[i]?) ?_ m
      ⟨0, by omega, rfl, rfl, rfl, rfl, ?_, ?_, by simp, fun i hi _ => List.getElem?_append_left hi⟩
    · rintro t x0 x4 x14 x15 H' R hR ⟨i, hi, rfl, rfl, rfl, rfl, d0, d1, d2, d3⟩
      unfold extent_wipe_L3_b
      by_cases hlt : i < m
      · obtain ⟨b1, b2⟩ := hmb (by omega)
        obtain ⟨j, hj⟩ : ∃ j : Nat, (j : Int) = a - x.no * 8 + i := ⟨(a - x.no * 8 + i).toNat, by omega⟩
        have ho' := (List.getElem?_eq_some_iff.1 d0).1
        have hwl := encE_len (wipeE x a (a + i))
        have hno' : (over cells q (encE (wipeE x a (a + i))))[q]? = some (I x.no) := by
          rw [over_get (by omega), if_pos (by omega), Nat.sub_self]; rfl
        simp [hlt, d1, d0, hno', abI_mul (a := x.no) (b := 8) (by omega) (by omega), abI_sub (a := a) (b := x.no * 8) (by omega) (by omega), abI_add (a := a - x.no * 8) (b := i) (by omega) (by omega), ← hj]
        have e1 : aixA 8 1 (.ptr o (q + 1)) (I j) = some (.ptr o (q + 1 + j)) := by
          simp [aixA, aint]; omega
        rw [e1]
        simp only [bO_some]
        rw [ast_ptr (n := 1) (off := q + 1 + j) (xs := [.lit (.int .u8 0)]) rfl d0 rfl (by rw [over_len (by omega)]; omega)]
        simp [abI_add (a := i) (b := 1) (by omega) (by omega)]
        refine hR (t - 1) _ _ _ _ _ (by omega) ⟨i + 1, by omega, rfl, rfl, rfl, rfl, ?_, ?_, by simpa using d2, fun y h1 h2 => ?_⟩
        · rw [List.getElem?_set_self ho', ← wipe_step hj (by omega)]
          congr 3
          refine List.ext_getElem? fun y => ?_
          rw [List.getElem?_set, over_len (by omega), over_get (by omega), over_get (by simp; omega), List.getElem?_set, List.length_set]
          by_cases c : q + 1 + j = y
          · subst c
            rw [if_pos rfl, if_pos (by omega), if_pos (by omega), if_pos (by omega), if_pos (by omega)]
          · rw [if_neg c]
            split
            · rw [if_neg (by omega)]
            · rfl
        · rw [List.getElem?_set_ne (by omega)]; exact d1
        · rw [List.getElem?_set_ne (by omega)]; exact d3 y h1 h2
      · have : i = m := by omega
        subst this
        simp [hlt]
        rw [hres] at d0
        exact ⟨d0, d2, d3⟩
    · rw [List.getElem?_append_left ho, hz0, over_same (by rw [hxl]; exact hx) (by omega)]
      exact hc
    · rw [List.getElem?_append_right (by omega)]; simp)
  obtain ⟨r, H', ⟨rfl, h1⟩, h2⟩ := key
  exact ⟨H', h1, h2⟩
end Go.Proofs.Ytflodknflaallaa.Av
