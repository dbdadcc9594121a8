/- Chapter 11: the document's own writing. -/
import Derived.Test.YtflodknflaallaaAvExtD
set_option linter.unusedVariables false
set_option linter.unusedSimpArgs false
set_option maxRecDepth 100000
namespace Go.Proofs.Ytflodknflaallaa.Av
open Go Go.RowKit

/-- A block's number, in a slice. -/
theorem sl_no {H : AH} {w : AV} {l : List Ext} {n k : Nat} {a : Int} {x : Ext} (hw : sliceCells H 9 w = some (l.flatMap encE, n)) (hx : l[k]? = some x) (ha : a = k) :
    ∃ p q, aixS 9 w (I a) = some p ∧ ashift 0 p = some q ∧ ald false 1 H q = some (I x.no) ∧ ald true 9 H p = some (.agg (encE x)) := by
  have hk := (List.getElem?_eq_some_iff.1 hx).1
  have hn : n = l.length := by have h1 := sliceCells_len hw; have h2 := flatMap_len encE_len l; omega
  obtain ⟨p, c, h1, h2, h3, h4⟩ := aixS_spec hw ha (show k < n by omega)
  obtain ⟨q, h5, h6⟩ := ashift_at (k := 0) h2
  have hc : c.take 9 = encE x := by
    rw [h3, flatMap_split encE_len hx, List.take_append_of_le_length (by rw [encE_len]; omega), List.take_of_length_le (by rw [encE_len]; omega)]
  refine ⟨p, q, h1, h5, ?_, ?_⟩
  · rw [ald_at h6 (by omega) (by simp; omega), rdCells_one]
    have := congrArg (fun l => l[0]?) hc
    simp only [List.drop_zero] at this ⊢
    rw [List.getElem?_take_of_lt (by omega)] at this
    exact this
  · rw [ald_at h2 (by omega) h4, rdCells_agg (by omega), List.drop_zero, hc]
/-- A byte is written into a block that lies in a slice of one's own. -/
theorem sl_byte {H : AH} {w : AV} {l : List Ext} {y : UInt8} {x : Ext} {i k : Nat} {a b : Int} (hw : sliceCells H 9 w = some (l.flatMap encE, l.length)) (ho : ownedS w = true) (hx : l[i]? = some x) (hk : k < 8) (ha : a = i) (hb : b = k) :
    ∃ p q d H', aixS 9 w (I a) = some p ∧ ashift 1 p = some q ∧ aixA 8 1 q (I b) = some d ∧ ast 1 H d (.lit (.int .u8 y.toNat)) = some H' ∧ H'.length = H.length ∧ (∀ j, j ∉ idS w → H'[j]? = H[j]?) ∧ sliceCells H' 9 w = some ((l.set i (putE x k [y])).flatMap encE, l.length) := by
  subst ha; subst hb
  have hi := (List.getElem?_eq_some_iff.1 hx).1
  obtain ⟨o, off, cap, cells, rfl, h1, h2, h3⟩ := owned_sl hw ho (by omega)
  have hol := (List.getElem?_eq_some_iff.1 h1).1
  have hmul : i * 9 + 9 ≤ l.length * 9 := by rw [← Nat.succ_mul]; exact Nat.mul_le_mul_right _ hi
  refine ⟨.ptr o (off + i * 9), .ptr o (off + i * 9 + 1), .ptr o (off + (i * 9 + (1 + k))), H.set o (some (.cells (over cells (off + (i * 9 + (1 + k))) (encB [y])))), ?_, rfl, ?_, ?_, by simp, fun j hj => List.getElem?_set_ne (by simp [idS] at hj; omega), ?_⟩
  · simp only [aixS, aint]
    rw [if_pos ⟨by omega, by omega⟩]; simp
  · simp only [aixA, aint]
    rw [if_pos ⟨by omega, by omega⟩]
    simp only [ashift_ptr, Int.toNat_natCast, Nat.mul_one]
    rw [show off + i * 9 + 1 + k = off + (i * 9 + (1 + k)) by omega]
  · rw [ast_ptr (n := 1) (off := off + (i * 9 + (1 + k))) (xs := encB [y]) rfl h1 rfl (by omega), splice_eq _ _ _ (by rw [encB_len]; simp; omega)]; rfl
  · rw [sliceCells_sl (c := over cells (off + (i * 9 + (1 + k))) (encB [y])) (by simp [hol]) (by rw [over_len (by rw [encB_len]; simp; omega)]; exact h2)]
    rw [over_part h2 (by rw [encB_len]; simp; omega), ← h3, over_flat encE_len hx (encE_put (by simp; omega)) (by rw [encB_len]; simp; omega)]
theorem ref_copyOf_c {H : AH} {size : Int} {v : AV} {cs : List AV} {n : Nat} (h : sliceCells H 9 v = some (cs, n)) (h1 : oneA v = true) (hn : n ≤ 1000000000) :
    ∃ r H', (∃ w, r = .agg [I size, w] ∧ ownedS w = true ∧ sliceCells H' 9 w = some (cs, n) ∧ Grew H H' ∧ ∀ i ∈ idS w, H.length ≤ i) ∧ BCall Try.prog 40 [.agg [I size, v]] H r H' := salvorref11_copyOf_ok (by
  unfold salvorref11_copyOf
  have g := Grew.app H [some (.cells [I size, v]), some (.cells [I 0, nilSl])]
  obtain ⟨w, H2, a1, a2, a3, a4, a5, a6⟩ := aap_spec (sz := 9) (bytes := 16) (H := H ++ [some (.cells [I size, v]), some (.cells [I 0, nilSl])]) (v := nilSl) (cs := []) (n := 0) rfl rfl (appended_slice (g.slice h)) (by omega)
  have g2 : Grew (H ++ [some (.cells [I size, v]), some (.cells [I 0, nilSl])]) H2 := ⟨a4, fun i hi => a5 i hi (by simp [idS])⟩
  have c0 := g2.cells (o := H.length) (x := some (.cells [I size, v])) (by simp)
  have c1 := g2.cells (o := H.length + 1) (x := some (.cells [I 0, nilSl])) (by rw [List.getElem?_append_right (by omega)]; simp)
  have l2 : H.length + 2 ≤ H2.length := by simpa using a4
  have hw := oneA_owned a2
  have a6' : ∀ i ∈ idS w, H.length + 2 ≤ i := fun i hi => (a6 i hi).elim (by simp [idS]) (fun h => by simpa using h)
  simp [h1, a1, cellsA_one hw]
  rw [ast_ptr (n := 2) (off := 0) (x := .agg [I size, w]) (xs := [I size, w]) (cs := [I 0, nilSl]) (by simp [hw]) c1 rfl (by simp)]
  simp [show H.length + 1 < H2.length by omega, c0, rdCells]
  refine ⟨a2, by simpa using (sliceCells_keep a3 fun i hi => List.getElem?_set_ne (by have := a6' i hi; omega)), ?_, fun i hi => ?_⟩
  · refine ⟨by simp; omega, fun i hi => ?_⟩
    rw [List.getElem?_set_ne (by omega), g2.2 i (by simp; omega), g.2 i hi]
  · have := a6' i hi; omega)
theorem ref_need_c' {H : AH} {oc : Nat} {size no : Int} {v : AV} {l : List Ext} (hc : H[oc]? = some (some (.cells [I size, v]))) (hv : sliceCells H 9 v = some (l.flatMap encE, l.length)) (ho : ownedS v = true) (hne : oc ∉ idS v) (hs : srt l) (hl : l.length ≤ 100000000) :
    ∃ H', ContP H oc size v (needL l no) H' ∧ BCall Try.prog 41 [.ptr oc 0, I no] H (I (posL l no)) H' := by
  have key : ∃ r H', (r = I (posL l no) ∧ ContP H oc size v (needL l no) H') ∧ BCall Try.prog 41 [.ptr oc 0, I no] H r H' := salvorref11_need_ok (by
    unfold salvorref11_need
    have hol := (List.getElem?_eq_some_iff.1 hc).1
    refine salvorref11_need_L3_rule (fun n x0 x1 x5 H' => ∃ k : Nat, k + n = l.length ∧ x0 = .ptr oc 0 ∧ x1 = I no ∧ x5 = I k ∧ H' = H ∧ ∀ m x, m < k → l[m]? = some x → x.no < no) ?_ l.length ⟨0, by simp, rfl, rfl, rfl, rfl, by simp⟩
    rintro n x0 x1 x5 H' R hR ⟨k, hk, rfl, rfl, rfl, hHe, hm⟩
    replace hHe := hHe.symm
    subst hHe
    unfold salvorref11_need_L3_b
    have hcase : (∃ y, l[k]? = some y ∧ y.no < no) ∨ (∃ y, l[k]? = some y ∧ y.no = no) ∨ (∃ y, l[k]? = some y ∧ no < y.no) ∨ k = l.length := by
      rcases Nat.lt_or_ge k l.length with h | h
      · have hx := List.getElem?_eq_getElem h
        rcases Int.lt_trichotomy (l[k]).no no with c | c | c
        · exact .inl ⟨_, hx, c⟩
        · exact .inr (.inl ⟨_, hx, c⟩)
        · exact .inr (.inr (.inl ⟨_, hx, c⟩))
      · exact .inr (.inr (.inr (by omega)))
    have hlen := alnS_spec hv
    rcases hcase with ⟨y, hy, c⟩ | ⟨y, hy, c⟩ | h3 | h3
    · obtain ⟨p, q, e1, e2, e3, -⟩ := sl_no (a := k) hv hy rfl
      have hkl := (List.getElem?_eq_some_iff.1 hy).1
      simp [hc, hlen, hkl, e1, e2, e3, c, -ald_ptr', ald_ptr hc]
      simp [abI_add (a := k) (b := 1) (by omega) (by omega)]
      refine hR (n - 1) _ _ _ _ (by omega) ⟨k + 1, by omega, rfl, rfl, rfl, rfl, fun m x hmk hx => ?_⟩
      by_cases h : m = k
      · subst h; rw [hy] at hx; injection hx with hx; rw [← hx]; exact c
      · exact hm m x (by omega) hx
    · obtain ⟨p, q, e1, e2, e3, -⟩ := sl_no (a := k) hv hy rfl
      have hkl := (List.getElem?_eq_some_iff.1 hy).1
      have hh : hasL l no := ⟨y, List.mem_of_getElem? hy, c⟩
      have hp : posL l no = k := by rw [← c]; exact posL_at hs hy
      have e : needL l no = l := if_pos hh
      simp [hc, hlen, hkl, e1, e2, e3, c, -ald_ptr', ald_ptr hc]
      rw [hp, e]
      exact ⟨rfl, v, hc, hv, ho, hne, Nat.le_refl _, fun _ _ _ _ => rfl, fun i hi => .inl hi⟩
    all_goals
      have h : (∃ y, l[k]? = some y ∧ no < y.no) ∨ k = l.length := by first | exact .inl h3 | exact .inr h3
      have hp : posL l no = k := by
        rcases h with ⟨y, hy, c⟩ | h
        · exact posL_eq (by omega) hm (fun x hx => by rw [hy] at hx; injection hx with hx; rw [← hx]; omega)
        · exact posL_eq (by omega) hm (fun x hx => by have := (List.getElem?_eq_some_iff.1 hx).1; omega)
      have hh : ¬ hasL l no := by
        rw [hasL_iff hs, hp]
        rintro ⟨z, hz, e⟩
        rcases h with ⟨y, hy, c⟩ | h
        · rw [hy] at hz; injection hz with hz; rw [hz] at c; omega
        · have := (List.getElem?_eq_some_iff.1 hz).1; omega
      have e : needL l no = l.take k ++ newE no :: l.drop k := by rw [← hp]; exact if_neg hh
      obtain ⟨r1, f1, f2, f3, f4, -⟩ := aslS_spec hv (lo := none) (hi := some (I k)) (l := 0) (k := k) rfl (by simp [abnd]) (by omega) (by omega)
      simp only [Nat.zero_mul, List.drop_zero, Nat.sub_zero, flat_take encE_len] at f2
      obtain ⟨r2, H2, a1, a2, a3, a4, a5, a6⟩ := aap_spec (sz := 9) (bytes := 16) (H := H) (v := nilSl) (cs := []) (n := 0) rfl rfl (appended_slice f2) (by omega)
      have g2 : Grew H H2 := ⟨a4, fun i hi => a5 i hi (by simp [idS])⟩
      have g3 := Grew.app H2 [some (.cells (encE (newE no)))]
      obtain ⟨r3, H3, b1, b2, b3, b4, b5, b6⟩ := aap_spec (sz := 9) (bytes := 16) (g3.slice a3) a2 (appended_slice (v := .sl H2.length 0 1 9 (.ex 1)) (q := (encE (newE no), 1)) (by simp [sliceCells, encE_len, List.take_of_length_le])) (by omega)
      have hid2 : ∀ i ∈ idS r2, H.length ≤ i := fun i hi => (a6 i hi).elim (by simp [idS]) id
      have g4 : ∀ i, i < H.length → H3[i]? = H[i]? := fun i hi => by
        rw [b5 i (by simp; omega) (fun h => by have := hid2 i h; omega), g3.2 i (by omega), g2.2 i hi]
      have c3 : H3[oc]? = some (some (.cells [I size, v])) := by rw [g4 oc hol]; exact hc
      have hv3 : sliceCells H3 9 v = some (l.flatMap encE, l.length) := sliceCells_keep hv fun i hi => g4 i (sliceCells_lt hv i hi)
      obtain ⟨r4, d1, d2, d3, d4, -⟩ := aslS_spec hv3 (lo := some (I k)) (hi := none) (l := k) (k := l.length) (by simp [abnd]) rfl (by omega) (by omega)
      rw [flat_drop encE_len, List.take_of_length_le (by rw [flatMap_len encE_len, List.length_drop]; omega)] at d2
      obtain ⟨r5, H5, j1, j2, j3, j4, j5, j6⟩ := aap_spec (sz := 9) (bytes := 16) b3 b2 (appended_slice d2) (by omega)
      have hid3 : ∀ i ∈ idS r3, H.length ≤ i := fun i hi => (b6 i hi).elim (hid2 i) (fun h => by simp at h; omega)
      have hid5 : ∀ i ∈ idS r5, H.length ≤ i := fun i hi => (j6 i hi).elim (hid3 i) (fun h => by simp at b4; omega)
      have g5 : ∀ i, i < H.length → H5[i]? = H[i]? := fun i hi => by
        rw [j5 i (by simp at b4; omega) (fun h => by have := hid3 i h; omega), g4 i hi]
      have c5 : H5[oc]? = some (some (.cells [I size, v])) := by rw [g5 oc hol]; exact hc
      have hol5 := (List.getElem?_eq_some_iff.1 c5).1
      have hle : H.length ≤ H5.length := by simp at b4; omega
      rw [encE_new] at b1
      first
        | (obtain ⟨y, hy, c⟩ := h3
           obtain ⟨p, q, e1, e2, e3, -⟩ := sl_no (a := k) hv hy rfl
           have hkl := (List.getElem?_eq_some_iff.1 hy).1
           simp [hlen, hkl, e1, e2, e3, show ¬ y.no < no by omega, show ¬ y.no = no by omega, -ald_ptr', ald_ptr hc])
        | (have hkl : ¬ k < l.length := by omega
           simp [hlen, hkl, -ald_ptr', ald_ptr hc])
      simp [f1, a1, -ald_ptr']
      simp [b1, ald_ptr c3, d1, j1, -ald_ptr']
      rw [ast_ptr (n := 1) (off := 1) (xs := [r5]) (cs := [I size, v]) (cellsA_one (oneA_owned j2)) c5 rfl (by simp)]
      simp
      have hoc : oc ∉ idS r5 := fun h => by have := hid5 oc h; omega
      refine ⟨by rw [hp], r5, by simp [hol5], ?_, j2, hoc, by simp; omega, fun i hi h1 h2 => ?_, fun i hi => .inr (hid5 i hi)⟩
      · rw [sliceCells_keep j3 (fun i hi => List.getElem?_set_ne (fun (h : oc = i) => hoc (h ▸ hi))), e]
        simp [List.flatMap_append]
        omega
      · rw [List.getElem?_set_ne (by omega), g5 i hi])
  obtain ⟨r, H', ⟨rfl, h1⟩, h2⟩ := key
  exact ⟨H', h1, h2⟩
theorem ref_WriteContent_p {size : Int} {l : List Ext} {v bv : AV} {bs : List UInt8} (hv : SV encE 9 l v) (hl : l.length ≤ 1000000) (pos : Int) (hb : SV encU 1 bs bv) (hbl : bs.length ≤ 281474976710656) :
    ∃ R, SV encE 9 (cL (writeC (size, l) pos bs)) R ∧ BPure Try.prog 18 [.agg [I size, v], I pos, bv] (.tup [.agg [I (cS (writeC (size, l) pos bs)), R], B (writeC (size, l) pos bs).isSome]) := by
  refine BPure.cont (by simp [noIdss, noIds, hv.1, hb.1]) (salvorref11_WriteContent_ok ?_)
  unfold salvorref11_WriteContent
  simp [oneA_sv hv, rdCells]
  refine bP_pure (ref_MayContent_p hv (by omega)) ?_
  by_cases h1 : mayC size l
  · by_cases h0 : pos < 0
    · have hn : writeC (size, l) pos bs = none := if_neg (fun h => by omega)
      simp [h1, h0, ast]
      exact ContK.none hn
    · by_cases h2 : 4096 < bs.length
      · have hn : writeC (size, l) pos bs = none := if_neg (fun h => by omega)
        simp [h1, h0, hb.len, show (4096 : Int) < bs.length by omega, ast]
        exact ContK.none hn
      · simp [h1, h0, hb.len, show ¬ (4096 : Int) < bs.length by omega, abI_sub (a := 1099511627776) (b := bs.length) (by omega) (by omega)]
        by_cases h3 : 1099511627776 - (bs.length : Int) < pos
        · have hn : writeC (size, l) pos bs = none := if_neg (fun h => by omega)
          simp [h3, ast]
          exact ContK.none hn
        · have hw : writeC (size, l) pos bs = some (if bs = [] then (size, l) else (max size (pos + bs.length), writeL l pos bs)) := if_pos ⟨h1, by omega, by omega, by omega⟩
          simp [h3]
          obtain ⟨r, H2, ⟨w, rfl, a2, a3, a4, a5⟩, a1⟩ := ref_copyOf_c (size := size) (hv.2 [some (.cells [I size, v]), some (.cells [I 0, nilSl])]) (oneA_sv hv) (by omega)
          refine bC_of a1 ?_
          have c0 := a4.cells (o := 0) (x := some (.cells [I size, v])) rfl
          have c1 := a4.cells (o := 1) (x := some (.cells [I 0, nilSl])) rfl
          have hl2 := a4.1
          simp only [List.length_cons, List.length_nil] at hl2
          have hwo := oneA_owned a2
          have id0 : ∀ j, j < 2 → j ∉ idS w := fun j hj h => by have := a5 j h; simp at this; omega
          rw [ast_ptr (n := 2) (off := 0) (x := .agg [I size, w]) (xs := [I size, w]) (by simp [hwo]) c0 rfl (by simp)]
          simp
          have hs0 := okL_srt h1.2.2
          refine salvorref11_WriteContent_L7_rule (fun n x1 x2 x3 x6 x8 H => ∃ (d : Nat) (w : AV), d + n = bs.length ∧ x1 = I pos ∧ x2 = bv ∧ x3 = .ptr 0 0 ∧ x6 = .ptr 1 0 ∧ x8 = I d ∧ H[0]? = some (some (.cells [I size, w])) ∧ H[1]? = some (some (.cells [I 0, nilSl])) ∧
            sliceCells H 9 w = some ((writeL l pos (bs.take d)).flatMap encE, (writeL l pos (bs.take d)).length) ∧ ownedS w = true ∧ (∀ j, j < 2 → j ∉ idS w)) ?_ bs.length
            ⟨0, w, by simp, rfl, rfl, rfl, rfl, rfl, List.getElem?_set_self (by omega), (List.getElem?_set_ne (by omega)).trans c1, ?_, a2, id0⟩
          · rintro n x1 x2 x3 x6 x8 H R hR ⟨d, w, hdn, rfl, rfl, rfl, rfl, rfl, k0, k1, kw, ko, kid⟩
            unfold salvorref11_WriteContent_L7_b
            by_cases hd : d < bs.length
            · have hlL := wr_len (bs := bs.take d) (l := l) (p := pos)
              have htl : (bs.take d).length = d := by rw [List.length_take]; omega
              have hws := wr_srt (bs := bs.take d) hs0 pos
              generalize hL : writeL l pos (bs.take d) = L at kw hlL hws
              have hy := List.getElem?_eq_getElem hd
              generalize bs[d] = y at hy
              simp [hb.len, hd, abI_add (a := pos) (b := d) (by omega) (by omega), abI_quo (a := pos + d) (b := 8) (by omega) (by omega) (by omega)]
              obtain ⟨H11, ⟨w', q1, q2, q3, q4, q5, q6, q7⟩, q8⟩ := ref_need_c' (no := (pos + d) / 8) k0 kw ko (kid 0 (by omega)) hws (by omega)
              refine bC_of q8 ?_
              have hH0 := (List.getElem?_eq_some_iff.1 k0).1
              have hH1 := (List.getElem?_eq_some_iff.1 k1).1
              have hid' : ∀ i, i < H.length → i ∉ idS w → i ∉ idS w' := fun i h1 h2 h3 => (q7 i h3).elim h2 (fun h => by omega)
              have z1 : H11[1]? = some (some (.cells [I 0, nilSl])) := by
                rw [q6 1 hH1 (by omega) (kid 1 (by omega))]; exact k1
              obtain ⟨x, hx, hxn⟩ := need_get hws ((pos + d) / 8)
              obtain ⟨p, q, dd, H29, u1, u2, u3, u4, u5, u6, u7⟩ := sl_byte (y := y) (a := posL L ((pos + d) / 8)) (b := (pos + d) % 8) (k := ((pos + d) % 8).toNat) q2 q3 hx (by omega) rfl (by omega)
              obtain ⟨p2, s1, -, s2⟩ := aix_byte (H := H11) (hb.bytes H11) (i := d) (k := d) rfl hy
              simp [q1, abI_rem (a := pos + d) (b := 8) (by omega) (by omega), s1, s2, u1, u2, u3, u4, abI_add (a := d) (b := 1) (by omega) (by omega), -ald_ptr', ald_ptr q1]
              rw [put_set (need_srt hws _) hx, hxn] at u7
              have hnp : putL (needL L ((pos + d) / 8)) ((pos + d) / 8) ((pos + d) % 8).toNat [y] = writeL l pos (bs.take (d + 1)) := by
                show needPut L (pos + d) _ = _
                rw [wr_one hws (by simp; omega) (by simp), ← hL, List.take_add_one, hy, wr_app, htl]
                rfl
              rw [hnp] at u7
              have hll : (needL L ((pos + d) / 8)).length = (writeL l pos (bs.take (d + 1))).length := by rw [← hnp]; simp [putL]
              rw [hll] at u7
              refine hR (n - 1) _ _ _ _ _ _ (by omega) ⟨d + 1, w', by omega, rfl, rfl, rfl, rfl, rfl, ?_, ?_, u7, q3, fun i hi => hid' i (by omega) (kid i hi)⟩
              · rw [u6 0 (hid' 0 (by omega) (kid 0 (by omega)))]; exact q1
              · rw [u6 1 (hid' 1 (by omega) (kid 1 (by omega)))]; exact z1
            · have hd' : d = bs.length := by omega
              subst hd'
              rw [List.take_length] at kw
              have hH0 := (List.getElem?_eq_some_iff.1 k0).1
              have hH1 := (List.getElem?_eq_some_iff.1 k1).1
              have hko := oneA_owned ko
              have tail : ∀ s H2, H2.length = H.length → H2[0]? = some (some (.cells [I s, w])) → H2[1]? = some (some (.cells [I 0, nilSl])) → sliceCells H2 9 w = some ((writeL l pos bs).flatMap encE, (writeL l pos bs).length) → writeC (size, l) pos bs = some (s, writeL l pos bs) → salvorref11_WriteContent_J12 (.ptr 0 0) (.ptr 1 0) H2 (ContK (writeC (size, l) pos bs)) := by
                intro s H2 hl2 e0 e1 e2 e3
                rw [salvorref11_WriteContent_J12_eq]
                unfold salvorref11_WriteContent_J12_b
                simp [-ald_ptr', ald_ptr e0, rdCells]
                rw [ast_ptr (n := 2) (off := 0) (xs := [I s, w]) (cs := [I 0, nilSl]) (by simp [hko]) e1 rfl (by simp)]
                simp [show 1 < H2.length by omega, rdCells]
                exact ContK.some e3 (sliceCells_keep e2 fun i hi => by
                  have h2 : 2 ≤ i := Nat.le_of_not_lt fun h => kid i h hi
                  rw [List.getElem?_set_ne (by omega)])
              by_cases hbs : bs = []
              · rw [if_pos hbs] at hw
                have h00 : ¬ 0 < bs.length := by rw [hbs]; simp
                simp only [hb.len, bO_some, abI_gtr, abI_lss, Int.lt_irrefl, bB_bool, show ¬ (0 : Int) < bs.length by omega, decide_false, bI_false]
                refine tail size H rfl k0 k1 kw ?_
                rw [hw, hbs]; rfl
              · rw [if_neg hbs] at hw
                have hlen : 0 < bs.length := List.length_pos_iff.2 hbs
                have hmx : max (pos + (bs.length : Int)) size = max size (pos + bs.length) := by omega
                simp [hb.len, hlen, -ald_ptr', ald_ptr k0, abI_add (a := pos) (b := bs.length) (by omega) (by omega), hmx]
                rw [ast_ptr (n := 1) (off := 0) (xs := [I (max size (pos + bs.length))]) (cs := [I size, w]) rfl k0 rfl (by simp)]
                simp
                refine tail _ _ (by simp) (List.getElem?_set_self hH0) ((List.getElem?_set_ne (by omega)).trans k1) (sliceCells_keep kw fun i hi => by
                  have h2 : 2 ≤ i := Nat.le_of_not_lt fun h => kid i h hi
                  rw [List.getElem?_set_ne (by omega)]) hw
          · simp only [List.take_zero, writeL]
            exact sliceCells_keep a3 fun i hi => by
              have h2 : 2 ≤ i := Nat.le_of_not_lt fun h => id0 i h hi
              rw [List.getElem?_set_ne (by omega)]
  · have hn : writeC (size, l) pos bs = none := if_neg (fun h => h1 h.1)
    simp [h1, ast]
    exact ContK.none hn
end Go.Proofs.Ytflodknflaallaa.Av
