/- Chapter 11: Write, and the document's own. -/
import Derived.Test.YtflodknflaallaaAvExtC
set_option linter.unusedVariables false
set_option linter.unusedSimpArgs false
set_option maxRecDepth 100000
namespace Go.Proofs.Ytflodknflaallaa.Av
open Go Go.RowKit

def cS (o : Option Cont) : Int := (o.getD (0, [])).1
def cL (o : Option Cont) : List Ext := (o.getD (0, [])).2
theorem noIdss_exts (l : List Ext) : noIdss (l.flatMap encE) = true := noIdss_flat fun x _ => noIdss_encE x
/-- A call comes to a content, and whether there is one. -/
def ContK (res : Option Cont) (r : AV) (X : AH) : Prop := ∃ w, r = .tup [.agg [I (cS res), w], B res.isSome] ∧ sliceCells X 9 w = some ((cL res).flatMap encE, (cL res).length)
theorem ContK.none {res : Option Cont} (h : res = none) {X : AH} : ContK res (.tup [.agg [I 0, nilSl], B false]) X := by
  subst h; exact ⟨_, rfl, rfl⟩
theorem ContK.some {res : Option Cont} {s : Int} {l : List Ext} (h : res = some (s, l)) {X : AH} {w : AV} (hw : sliceCells X 9 w = some (l.flatMap encE, l.length)) : ContK res (.tup [.agg [I s, w], B true]) X := by
  subst h; exact ⟨_, rfl, hw⟩
theorem BPure.cont {P : Program} {f : FuncId} {args : List AV} {res : Option Cont} (hb : noIdss args = true) (h : ∃ r X, ContK res r X ∧ BCall P f args [] r X) :
    ∃ R, SV encE 9 (cL res) R ∧ BPure P f args (.tup [.agg [I (cS res), R], B res.isSome]) := by
  obtain ⟨r, X, ⟨w, rfl, hw⟩, h⟩ := h
  obtain ⟨R, hR, fR⟩ := FZ.sv hw (noIdss_exts _)
  obtain ⟨R', ⟨rfl, _⟩, h2⟩ := BPure.FZ (Q := fun R' => R' = .tup [.agg [I (cS res), R], B res.isSome] ∧ True) hb ⟨_, X, ⟨_, FZ.tup (FZs.cons (FZ.agg (FZs.cons (FZ.lit _) (FZs.cons fR FZs.nil))) (FZs.cons (FZ.lit _) FZs.nil)), rfl, trivial⟩, h⟩
  exact ⟨R, hR, h2⟩
theorem encE_put {x : Ext} {k : Nat} {bs : List UInt8} (h : k + bs.length ≤ 8) : encE (putE x k bs) = over (encE x) (1 + k) (encB bs) := by
  have e : over (encE x) (1 + k) (encB bs) = I x.no :: over (encB x.b) k (encB bs) := by
    unfold over encE
    rw [Nat.add_comm 1 k, List.take_succ_cons, show k + 1 + (encB bs).length = (k + (encB bs).length) + 1 by omega, List.drop_succ_cons]
    rfl
  rw [e, over_encB]
  unfold encE
  rw [putE_no, putE_b h]
/-- Bytes are copied into a block that lies in a slice of one's own. -/
theorem sl_copy {H : AH} {w s : AV} {l : List Ext} {bs : List UInt8} {x : Ext} {i k m : Nat} {a b : Int} (hw : sliceCells H 9 w = some (l.flatMap encE, l.length)) (ho : ownedS w = true) (hx : l[i]? = some x) (hs : sliceCells H 1 s = some (encB bs, m)) (hk : k + bs.length ≤ 8) (ha : a = i) (hb : b = k) :
    ∃ p q d H', aixS 9 w (I a) = some p ∧ ashift 1 p = some q ∧ aslA 8 1 H q (some (I b)) none = some d ∧ acp 1 H d s = some (I bs.length, H') ∧ H'.length = H.length ∧ (∀ j, j ∉ idS w → H'[j]? = H[j]?) ∧ sliceCells H' 9 w = some ((l.set i (putE x k bs)).flatMap encE, l.length) := by
  subst ha; subst hb
  have hi := (List.getElem?_eq_some_iff.1 hx).1
  obtain ⟨o, off, cap, cells, rfl, h1, h2, h3⟩ := owned_sl hw ho (by omega)
  have hol := (List.getElem?_eq_some_iff.1 h1).1
  have hm : m = bs.length := by have := sliceCells_len hs; rw [encB_len] at this; omega
  subst hm
  have hmul : i * 9 + 9 ≤ l.length * 9 := by rw [← Nat.succ_mul]; exact Nat.mul_le_mul_right _ hi
  have e1 : min bs.length (8 - k) = bs.length := by omega
  refine ⟨.ptr o (off + i * 9), .ptr o (off + i * 9 + 1), .sl o (off + i * 9 + 1 + k) (8 - k) 1 (.ex (8 - k)), H.set o (some (.cells (over cells (off + (i * 9 + (1 + k))) (encB bs)))), ?_, rfl, ?_, ?_, by simp, fun j hj => List.getElem?_set_ne (by simp [idS] at hj; omega), ?_⟩
  · simp only [aixS, aint]
    rw [if_pos ⟨by omega, by omega⟩]; simp
  · simp [aslA, abnd, h1]; omega
  · unfold acp acp0
    rw [appended_slice hs]
    simp only [h1]
    rw [if_pos ⟨trivial, by omega⟩, e1, Nat.mul_one, List.take_of_length_le (by rw [encB_len]; omega)]
    simp only [show off + i * 9 + 1 + k = off + (i * 9 + (1 + k)) by omega]
  · rw [sliceCells_sl (c := over cells (off + (i * 9 + (1 + k))) (encB bs)) (by simp [hol]) (by rw [over_len (by rw [encB_len]; omega)]; exact h2)]
    rw [over_part h2 (by rw [encB_len]; omega), ← h3, over_flat encE_len hx (encE_put hk) (by rw [encB_len]; omega)]
theorem extent_Fits_p (pos : Int) (n : Nat) (hn : n ≤ 281474976710656) : BPure Try.prog 32 [I pos, I n] (B (decide (0 ≤ pos ∧ n ≤ 4096 ∧ pos ≤ 1099511627776 - n))) := BPure.flat fun H => extent_Fits_ok (by
  unfold extent_Fits
  by_cases h1 : 0 ≤ pos
  · by_cases h2 : n ≤ 4096
    · have : (n : Int) ≤ 4096 := by omega
      simp [h1, h2, this, abI_sub (a := 1099511627776) (b := n) (by omega) (by omega)]
    · have : ¬ (n : Int) ≤ 4096 := by omega
      simp [h1, h2, this]
  · simp [h1])
theorem cuts_more {f g : Nat} {p n : Int} (hf : n.toNat ≤ f) (hg : n.toNat ≤ g) (hp : 0 ≤ p) : cutsS f p n 8 = cutsS g p n 8 := by
  by_cases h : 0 < n
  · rw [cutsS_step hf h hp (by omega), cutsS_step hg h hp (by omega)]
  · rw [cutsS_stop h, cutsS_stop h]
theorem extent_Write_p {size : Int} {l : List Ext} {v bv : AV} {bs : List UInt8} (hv : SV encE 9 l v) (hl : l.length ≤ 1000000) (pos : Int) (hb : SV encU 1 bs bv) (hbl : bs.length ≤ 281474976710656) :
    ∃ R, SV encE 9 (cL (writeC (size, l) pos bs)) R ∧ BPure Try.prog 12 [.agg [I size, v], I pos, bv] (.tup [.agg [I (cS (writeC (size, l) pos bs)), R], B (writeC (size, l) pos bs).isSome]) := by
  refine BPure.cont (by simp [noIdss, noIds, hv.1, hb.1]) (extent_Write_ok ?_)
  unfold extent_Write
  simp [oneA_sv hv, rdCells]
  refine bP_pure (extent_May_p hv (by omega)) ?_
  by_cases h1 : mayC size l
  · simp [h1, hb.len]
    refine bP_pure (extent_Fits_p pos bs.length hbl) ?_
    by_cases h2 : 0 ≤ pos ∧ bs.length ≤ 4096 ∧ pos ≤ 1099511627776 - bs.length
    · have hw : writeC (size, l) pos bs = some (if bs = [] then (size, l) else (max size (pos + bs.length), writeL l pos bs)) := if_pos ⟨h1, h2⟩
      obtain ⟨g1, g2, g3⟩ := h2
      simp [g1, g2, g3]
      obtain ⟨r, H2, ⟨w, rfl, a2, a3, a4, a5⟩, a1⟩ := copied_c (size := size) (hv.2 [some (.cells [I size, v]), some (.cells [I 0, nilSl])]) (oneA_sv hv) (by omega)
      refine bC_of a1 ?_
      have c0 := a4.cells (o := 0) (x := some (.cells [I size, v])) rfl
      have c1 := a4.cells (o := 1) (x := some (.cells [I 0, nilSl])) rfl
      have hl2 := a4.1
      simp only [List.length_cons, List.length_nil] at hl2
      have hwo := oneA_owned a2
      have id0 : ∀ j, j < 2 → j ∉ idS w := fun j hj h => by have := a5 j h; simp at this; omega
      rw [ast_ptr (n := 2) (off := 0) (x := .agg [I size, w]) (xs := [I size, w]) (by simp [hwo]) c0 rfl (by simp)]
      simp
      by_cases hbs : bs = []
      · subst hbs
        simp [show 0 < H2.length by omega]
        rw [ast_ptr (n := 2) (off := 0) (x := .agg [I size, w]) (xs := [I size, w]) (cs := [I 0, nilSl]) (by simp [hwo]) (by rw [List.getElem?_set_ne (by omega)]; exact c1) rfl (by simp)]
        simp [show 1 < H2.length by omega]
        exact ContK.some hw (sliceCells_keep a3 fun i hi => by
          have h2 : 2 ≤ i := Nat.le_of_not_lt fun h => id0 i h hi
          rw [List.getElem?_set_ne (by omega), List.getElem?_set_ne (by omega)])
      · have hlen : 0 < bs.length := List.length_pos_iff.2 hbs
        rw [if_neg hbs] at hw
        simp [hbs]
        obtain ⟨pv, hpv, pq⟩ := off_Parts_p ⟨pos, bs.length⟩ (unit := 8) (by omega)
        refine bP_pure pq ?_
        have hP : partsS ⟨pos, bs.length⟩ 8 = cutsS bs.length pos bs.length 8 := if_pos ⟨by simp only [MaySpan, May]; omega, by simp only; omega, by omega⟩
        generalize partsS ⟨pos, (bs.length : Int)⟩ 8 = parts at hpv hP
        simp [hpv.len]
        have hs0 := okL_srt h1.2.2
        refine extent_Write_L10_rule (fun n x1 x2 x3 x6 x33 x34 x35 H => ∃ (j d : Nat) (w : AV), j + n = parts.length ∧ x1 = I pos ∧ x2 = bv ∧ x3 = .ptr 0 0 ∧ x6 = .ptr 1 0 ∧ x33 = pv ∧ x34 = I parts.length ∧ x35 = I j ∧ H[0]? = some (some (.cells [I size, w])) ∧ H[1]? = some (some (.cells [I 0, nilSl])) ∧
          sliceCells H 9 w = some ((writeL l pos (bs.take d)).flatMap encE, (writeL l pos (bs.take d)).length) ∧ ownedS w = true ∧ (∀ j, j < 2 → j ∉ idS w) ∧ d ≤ bs.length ∧ parts.drop j = cutsS (bs.length - d) (pos + d) (bs.length - d : Nat) 8 ∧ j ≤ d) ?_ parts.length
          ⟨0, 0, w, by simp, rfl, rfl, rfl, rfl, rfl, rfl, rfl, List.getElem?_set_self (by omega), (List.getElem?_set_ne (by omega)).trans c1, ?_, a2, id0, by omega, by simpa using hP, by omega⟩
        · rintro n x1 x2 x3 x6 x33 x34 x35 H R hR ⟨j, d, w, hj, rfl, rfl, rfl, rfl, rfl, rfl, rfl, k0, k1, kw, ko, kid, kd, kp, kj⟩
          unfold extent_Write_L10_b
          by_cases hd : d < bs.length
          · rw [cutsS_step (by omega) (by omega) (by omega) (by omega)] at kp
            obtain ⟨m, hm⟩ : ∃ m : Nat, (m : Int) = min ((bs.length - d : Nat) : Int) (8 - (pos + d) % 8) := ⟨(min ((bs.length - d : Nat) : Int) (8 - (pos + d) % 8)).toNat, by omega⟩
            rw [← hm] at kp
            have hpj : parts[j]? = some ⟨pos + d, m⟩ := by
              have := congrArg (fun q => q[0]?) kp
              simpa using this
            have hjl := (List.getElem?_eq_some_iff.1 hpj).1
            simp [hjl, hpv.idx encSp_len hpj rfl, encSp, rdCells, ast, abI_quo (a := pos + d) (b := 8) (by omega) (by omega) (by omega)]
            have g := Grew.app H [some (.cells [I (pos + d), I m])]
            have hlL := wr_len (bs := bs.take d) (l := l) (p := pos)
            have htl : (bs.take d).length = d := by rw [List.length_take]; omega
            have hws := wr_srt (bs := bs.take d) hs0 pos
            generalize hL : writeL l pos (bs.take d) = L at kw hlL hws
            have hH0 := (List.getElem?_eq_some_iff.1 k0).1
            have hH1 := (List.getElem?_eq_some_iff.1 k1).1
            obtain ⟨H11, ⟨w', q1, q2, q3, q4, q5, q6, q7⟩, q8⟩ := extent_need_c' (no := (pos + d) / 8) (g.cells k0) (g.slice kw) ko (kid 0 (by omega)) hws (by omega)
            refine bC_of q8 ?_
            have hid' : ∀ i, i < H.length → i ∉ idS w → i ∉ idS w' := fun i h1 h2 h3 => (q7 i h3).elim h2 (fun h => by simp at h; omega)
            have z1 : H11[1]? = some (some (.cells [I 0, nilSl])) := by
              rw [q6 1 (by simp; omega) (by omega) (kid 1 (by omega))]; exact g.cells k1
            have z2 : H11[H.length]? = some (some (.cells [I (pos + d), I m])) := by
              rw [q6 H.length (by simp) (by omega) (fun h => by have := sliceCells_lt kw _ h; omega)]; simp
            obtain ⟨x, hx, hxn⟩ := need_get hws ((pos + d) / 8)
            obtain ⟨r24, s1, s2, -, -, s3⟩ := aslS_spec (H := H11) (hb.bytes H11) (lo := some (I d)) (hi := none) (l := d) (k := bs.length) (by simp [abnd]) rfl kd (Nat.le_refl _)
            obtain ⟨r27, t1, t2, -, -, -⟩ := aslS_spec (H := H11) s2 (lo := none) (hi := some (I m)) (l := 0) (k := m) rfl (by simp [abnd]) (by omega) (by omega)
            have t3 : sliceCells H11 1 r27 = some (encB ((bs.drop d).take m), m) := by
              rw [t2]
              simp [encB_take, encB_drop]
              rw [List.take_of_length_le (l := bs.drop d) (by simp)]
            have hbl2 : ((bs.drop d).take m).length = m := by rw [List.length_take, List.length_drop]; omega
            obtain ⟨p, q, dd, H29, u1, u2, u3, u4, u5, u6, u7⟩ := sl_copy (a := posL L ((pos + d) / 8)) (b := pos + d - (pos + d) / 8 * 8) (k := ((pos + d) % 8).toNat) q2 q3 hx t3 (by omega) rfl (by omega)
            rw [hbl2] at u4
            simp [q1, z2, u1, u2, abI_mul (a := (pos + d) / 8) (b := 8) (by omega) (by omega), abI_sub (a := pos + d) (b := (pos + d) / 8 * 8) (by omega) (by omega), u3, abI_sub (a := pos + d) (b := pos) (by omega) (by omega), show pos + (d : Int) - pos = d by omega, s1, t1, u4, abI_add (a := j) (b := 1) (by omega) (by omega)]
            rw [put_set (need_srt hws _) hx, hxn] at u7
            have hnp : putL (needL L ((pos + d) / 8)) ((pos + d) / 8) ((pos + d) % 8).toNat ((bs.drop d).take m) = writeL l pos (bs.take (d + m)) := by
              show needPut L (pos + d) _ = _
              rw [wr_one hws (by omega) (fun h => by rw [h] at hbl2; simp at hbl2; omega), ← hL, List.take_add, wr_app, htl]
            rw [hnp] at u7
            have hll : (needL L ((pos + d) / 8)).length = (writeL l pos (bs.take (d + m))).length := by rw [← hnp]; simp [putL]
            rw [hll] at u7
            refine hR (n - 1) _ _ _ _ _ _ _ _ (by omega) ⟨j + 1, d + m, w', by omega, rfl, rfl, rfl, rfl, rfl, rfl, rfl, ?_, ?_, u7, q3, fun i hi => hid' i (by omega) (kid i hi), by omega, ?_, by omega⟩
            · rw [u6 0 (hid' 0 (by omega) (kid 0 (by omega)))]; exact q1
            · rw [u6 1 (hid' 1 (by omega) (kid 1 (by omega)))]; exact z1
            · have := congrArg List.tail kp
              rw [List.tail_drop] at this
              rw [this, List.tail_cons, show pos + (d : Int) + m = pos + ((d + m : Nat) : Int) by omega, show ((bs.length - d : Nat) : Int) - m = ((bs.length - (d + m) : Nat) : Int) by omega]
              rfl
          · have hd' : d = bs.length := by omega
            subst hd'
            rw [cutsS_stop (by omega)] at kp
            have hjl : ¬ j < parts.length := fun h => by
              have := congrArg List.length kp
              rw [List.length_drop] at this; simp at this; omega
            rw [List.take_length] at kw
            have hH0 := (List.getElem?_eq_some_iff.1 k0).1
            have hH1 := (List.getElem?_eq_some_iff.1 k1).1
            have hko := oneA_owned ko
            have hmx : max (pos + (bs.length : Int)) size = max size (pos + bs.length) := by omega
            simp [hjl, k0, hb.len, abI_add (a := pos) (b := bs.length) (by omega) (by omega), hmx]
            rw [ast_ptr (n := 1) (off := 0) (xs := [I (max size (pos + bs.length))]) (cs := [I size, w]) rfl k0 rfl (by simp)]
            simp [hH0, rdCells]
            rw [ast_ptr (n := 2) (off := 0) (xs := [I (max size (pos + bs.length)), w]) (cs := [I 0, nilSl]) (by simp [hko]) ((List.getElem?_set_ne (by omega)).trans k1) rfl (by simp)]
            simp [hH1]
            exact ContK.some hw (sliceCells_keep kw fun i hi => by
              have h2 : 2 ≤ i := Nat.le_of_not_lt fun h => kid i h hi
              rw [List.getElem?_set_ne (by omega), List.getElem?_set_ne (by omega)])
        · simp only [List.take_zero, writeL]
          exact sliceCells_keep a3 fun i hi => by
            have h2 : 2 ≤ i := Nat.le_of_not_lt fun h => id0 i h hi
            rw [List.getElem?_set_ne (by omega)]
    · have hn : writeC (size, l) pos bs = none := if_neg (fun h => h2 h.2)
      have h2' : ¬ (0 ≤ pos ∧ bs.length ≤ 4096 ∧ pos ≤ 1099511627776 - bs.length) := h2
      simp [h2', ast]
      exact ContK.none hn
  · have hn : writeC (size, l) pos bs = none := if_neg (fun h => h1 h.1)
    simp [h1, ast]
    exact ContK.none hn
end Go.Proofs.Ytflodknflaallaa.Av
