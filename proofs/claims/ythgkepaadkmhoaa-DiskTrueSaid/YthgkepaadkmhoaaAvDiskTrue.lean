/- The law DiskTrue: each byte that is answered is the disk's, no more than were asked for, none of a sector that fails for ever; what fails is such a sector, or one that fails once less then. No condition. -/
import Derived.Test.YthgkepaadkmhoaaAvDkS
import Derived.Test.YthgkepaadkmhoaaLDiskTrue
set_option linter.unusedVariables false
set_option linter.unusedSimpArgs false
set_option maxRecDepth 100000
namespace Go.Proofs.Ythgkepaadkmhoaa.Av
open Go Go.RowKit
theorem law10_bad_p {d : Dev} {a b c e : AV} (h : DevV d a b c e) (hl : d.bad.length ≤ 1000000) (k : Int) : BPure Try.prog 20 [.agg [a, b, c, e], I k] (B (decide (k ∈ d.bad))) := BPure.val (by simp [noIdss, noIds, h.data.1, h.bad.1, h.soft.1, h.shorts.1]) rfl (salvorlaw10_bad_ok (by
  unfold salvorlaw10_bad
  simp [oneA_sv h.data, oneA_sv h.bad, oneA_sv h.soft, oneA_sv h.shorts]
  refine salvorlaw10_bad_L3_rule (fun n x1 x2 x5 H' => ∃ j : Nat, j + n = d.bad.length ∧ x1 = I k ∧ x2 = .ptr 0 0 ∧ x5 = I j ∧ H' = [some (.cells [a, b, c, e])] ∧ ∀ (m : Nat) y, m < j → d.bad[m]? = some y → y ≠ k) ?_ d.bad.length ⟨0, by omega, rfl, rfl, rfl, rfl, by simp⟩
  rintro n x1 x2 x5 H' R hR ⟨j, hj, rfl, rfl, rfl, rfl, hm⟩
  unfold salvorlaw10_bad_L3_b
  rcases Nat.lt_or_ge j d.bad.length with hlt | hge
  · have hx := List.getElem?_eq_getElem hlt
    generalize d.bad[j] = y at hx
    by_cases c1 : y = k
    · have : k ∈ d.bad := c1 ▸ List.mem_of_getElem? hx
      simp [h.bad.len, hlt, h.bad.idx encI_len hx rfl, encI, c1, this]
    · simp [h.bad.len, hlt, h.bad.idx encI_len hx rfl, encI, c1, abI_add (a := j) (b := 1) (by omega) (by omega)]
      refine hR (n - 1) _ _ _ _ (by omega) ⟨j + 1, by omega, rfl, rfl, rfl, rfl, fun m z hmj hz => ?_⟩
      by_cases hh : m = j
      · subst hh; rw [hx] at hz; injection hz with hz; subst hz; exact c1
      · exact hm m z (by omega) hz
  · have : ¬ k ∈ d.bad := fun hk => by
      obtain ⟨m, hm2⟩ := List.mem_iff_getElem?.1 hk
      exact hm m k (by have := (List.getElem?_eq_some_iff.1 hm2).1; omega) hm2 rfl
    simp [h.bad.len, show ¬ j < d.bad.length by omega, this]))
/-- What is true of an answer. -/
structure GetT (D : Dev) (L : Int → Int) (p n : Int) (bs : List UInt8) (code : Int) (L' : Int → Int) : Prop where
  data : bs ≠ [] → code = 0 ∧ 0 ≤ p ∧ (bs.length : Int) ≤ n ∧ p + bs.length ≤ D.data.length ∧ bs = partB D.data p (p + bs.length)
  good : ∀ k : Int, 0 ≤ k → k < bs.length → (p + k) / 8 ∉ D.bad ∧ leftS D L' ((p + k) / 8) ≤ 0
  fails : code = 1 → bs = [] ∧ 0 ≤ p ∧ p < D.data.length ∧ (p / 8 ∈ D.bad ∨ leftS D L' (p / 8) = leftS D L (p / 8) - 1)
  same : code ≠ 1 → L' = L
theorem getS_true (D : Dev) (L : Int → Int) (c p n : Int) : GetT D L p n (getS D L c p n).1 (getS D L c p n).2.1 (getS D L c p n).2.2.1 := by
  by_cases h1 : p < 0 ∨ n < 0 ∨ 4096 < n
  · have : getS D L c p n = ([], 5, L, c) := if_pos h1
    rw [this]
    exact ⟨fun h => absurd rfl h, fun k h1 h2 => by simp at h2; omega, fun h => by simp at h, fun _ => rfl⟩
  · by_cases h2 : askS D c p n = 0
    · have : getS D L c p n = ([], 0, L, c + 1) := by unfold getS; rw [if_neg h1, if_pos h2]
      rw [this]
      exact ⟨fun h => absurd rfl h, fun k h1 h2 => by simp at h2; omega, fun h => by simp at h, fun _ => rfl⟩
    · obtain ⟨b1, b2, b3⟩ := ask_bnd (D := D) (c := c) (pos := p) (n := n) (by omega)
      have b4 := b3 (by omega)
      by_cases h3 : failS D L (p / 8)
      · have : getS D L c p n = ([], 1, (if p / 8 ∈ D.bad then L else fun k => if k = p / 8 then L (p / 8) - 1 else L k), c + 1) := by unfold getS; rw [if_neg h1, if_neg h2, if_pos h3]
        rw [this]
        refine ⟨fun h => absurd rfl h, fun k h1 h2 => by simp at h2; omega, fun _ => ⟨rfl, by omega, by omega, ?_⟩, fun h => absurd rfl h⟩
        by_cases h4 : p / 8 ∈ D.bad
        · exact .inl h4
        · right
          simp only [if_neg h4]
          have hr : ¬ (p / 8 < 0 ∨ nsec D ≤ p / 8 ∨ p / 8 ∈ D.bad) := fun hh => by
            rcases hh with hh | hh | hh
            · omega
            · unfold nsec at hh; omega
            · exact h4 hh
          unfold leftS
          rw [if_neg hr, if_neg hr]
          exact if_pos rfl
      · have hs := endS_spec D L (p / 8 + 1) (p + askS D c p n)
        have this : getS D L c p n = (partB D.data p (endS D L (p / 8 + 1) (p + askS D c p n)), 0, L, c + 1) := by unfold getS; rw [if_neg h1, if_neg h2, if_neg h3]
        generalize endS D L (p / 8 + 1) (p + askS D c p n) = e at hs this
        have he := hs.le
        have hl := partB_len (l := D.data) (a := p) (b := e) (by omega) (by omega) (by omega)
        rw [this]
        refine ⟨fun _ => ⟨rfl, by omega, by simp only; omega, by simp only; omega, by simp only; rw [show p + ((partB D.data p e).length : Int) = e by omega]⟩, fun k k1 k2 => ?_, fun h => by simp at h, fun _ => rfl⟩
        simp only at k2 ⊢
        have nf : ¬ failS D L ((p + k) / 8) := by
          by_cases hk : (p + k) / 8 = p / 8
          · rw [hk]; exact h3
          · exact hs.2 _ (by omega) (by omega)
        unfold failS at nf
        refine ⟨fun h => nf (.inl h), ?_⟩
        unfold leftS
        split
        · omega
        · by_cases hh : 0 < L ((p + k) / 8)
          · exact absurd (.inr hh) nf
          · omega
theorem bounds_get {D : Dev} {L : Int → Int} {c pos n : Int} {t : Int} (hL : ∀ k, -t ≤ L k ∧ L k ≤ t) : (∀ k, -(t + 1) ≤ (getS D L c pos n).2.2.1 k ∧ (getS D L c pos n).2.2.1 k ≤ t + 1) ∧ c ≤ (getS D L c pos n).2.2.2 ∧ (getS D L c pos n).2.2.2 ≤ c + 1 := by
  unfold getS
  split
  · exact ⟨fun k => by have := hL k; simp only; omega, by simp only; omega, by simp only; omega⟩
  · split
    · exact ⟨fun k => by have := hL k; simp only; omega, by simp only; omega, by simp only; omega⟩
    · split
      · refine ⟨fun k => ?_, by simp only; omega, by simp only; omega⟩
        have h1 := hL k
        have h2 := hL (pos / 8)
        by_cases c1 : pos / 8 ∈ D.bad
        · simp only [if_pos c1]; omega
        · by_cases c2 : k = pos / 8
          · simp only [if_neg c1, if_pos c2]; omega
          · simp only [if_neg c1, if_neg c2]; omega
      · exact ⟨fun k => by have := hL k; simp only; omega, by simp only; omega, by simp only; omega⟩
theorem left_bnd {D : Dev} {L : Int → Int} {t : Int} (ht : 0 ≤ t) (hL : ∀ k, -t ≤ L k ∧ L k ≤ t) (k : Int) : -t ≤ leftS D L k ∧ leftS D L k ≤ t := by
  unfold leftS
  split
  · omega
  · exact hL k
theorem diskTrue_calls (x0 : Sl UInt8 × Sl Int × Sl (Int × Int × Unit) × Sl Int × Unit) (h0 : diskTrue_r0.ok x0) (x1 : Sl (Int × Int × Unit)) (h1 : diskTrue_r1.ok x1) :
    ACalls Try.prog 7 ([.agg (diskTrue_r0.enc x0)] ++ diskTrue_r1.enc x1) [] fun r _ => r = .lit (.bool true) := by
  obtain ⟨xa, xb, xc, xe, u⟩ := x0
  have va := bytes_sv xa h0.1.1
  have vb := ints_sv xb h0.2.1.1
  have vc := softs_sv xc h0.2.2.1.1
  have ve := ints_sv xe h0.2.2.2.1.1
  have vq := softs_sv x1 h1.1
  have hq : ∀ s ∈ x1.l.map (fun x => (x.1, x.2.1)), s.1 ≤ 9223372036854775807 := fun s hs => by
    obtain ⟨x, hx, rfl⟩ := List.mem_map.1 hs
    exact (in64 (h1.2.2 x hx).1).2
  show ACalls Try.prog 7 [.agg [if xa.nil then AV.lit (.slice none 0 0) else .imm (xa.l.flatMap encU) xa.l.length 1, if xb.nil then AV.lit (.slice none 0 0) else .imm (xb.l.flatMap encI) xb.l.length 1, if xc.nil then AV.lit (.slice none 0 0) else .imm (xc.l.flatMap senc) xc.l.length 2, if xe.nil then AV.lit (.slice none 0 0) else .imm (xe.l.flatMap encI) xe.l.length 1], if x1.nil then AV.lit (.slice none 0 0) else .imm (x1.l.flatMap senc) x1.l.length 2] [] _
  generalize (if xa.nil then AV.lit (.slice none 0 0) else .imm (xa.l.flatMap encU) xa.l.length 1) = a at va
  generalize (if xb.nil then AV.lit (.slice none 0 0) else .imm (xb.l.flatMap encI) xb.l.length 1) = b at vb
  generalize (if xc.nil then AV.lit (.slice none 0 0) else .imm (xc.l.flatMap senc) xc.l.length 2) = c at vc
  generalize (if xe.nil then AV.lit (.slice none 0 0) else .imm (xe.l.flatMap encI) xe.l.length 1) = e at ve
  generalize (if x1.nil then AV.lit (.slice none 0 0) else .imm (x1.l.flatMap senc) x1.l.length 2) = qv at vq
  generalize (x1.l.map fun x => (x.1, x.2.1)) = ql at vq hq
  have hV : DevV ⟨xa.l, xb.l, xc.l.map fun x => (x.1, x.2.1), xe.l⟩ a b c e := ⟨va, vb, vc, ve⟩
  generalize (⟨xa.l, xb.l, xc.l.map fun x => (x.1, x.2.1), xe.l⟩ : Dev) = d at hV
  refine salvorlaw10_DiskTrue_ok ?_
  unfold salvorlaw10_DiskTrue
  simp [oneA_sv hV.data, oneA_sv hV.bad, oneA_sv hV.soft, oneA_sv hV.shorts, rdCells]
  first | refine bP_of (law10_Few_p hV) ?_ | refine bP_pure (law10_Few_p hV) ?_
  by_cases c1 : d.data.length ≤ 400 ∧ d.bad.length ≤ 60 ∧ d.soft.length ≤ 60 ∧ d.shorts.length ≤ 200
  · by_cases c2 : (100 : Int) < ql.length
    · simp [c1, vq.len, c2]
      first | refine bP_of (diskRuns_p) ?_ | refine bP_pure (diskRuns_p) ?_
      rfl
    · simp [c1, vq.len, c2, rdCells]
      first | refine bP_of (disk_May_p hV (by omega) (by omega)) ?_ | refine bP_pure (disk_May_p hV (by omega) (by omega)) ?_
      by_cases c3 : mayD d
      · simp [c3]
        refine ⟨_, disk_New_a (hV.dh _) (by omega) (by omega) (by omega) (by omega), ?_⟩
        rintro r H1 ⟨o, n1, dv, bo, lo, sv, rfl, hP, g⟩
        have hE : Eff d = d := if_pos c3
        rw [hE] at hP
        have e0 : abN .eql nilP (.ptr o 0) (.lit (.pointer none)) = some (B false) := rfl
        simp [e0]
        have hsm := fun k => sumS_bnd c3.2.2 k
        refine salvorlaw10_DiskTrue_L10_rule (fun q y1 y2 y5 y6 H' => ∃ (i : Nat) (L : Int → Int) (cc : Int), i + q = ql.length ∧ y1 = qv ∧ y2 = .ptr 0 0 ∧ y5 = .ptr o 0 ∧ y6 = I i ∧ H'[0]? = some (some (.cells [a, b, c, e])) ∧ DiskP 1 n1 H' o d L cc dv bo lo sv ∧ (∀ k, -(30000000 + (i : Int)) ≤ L k ∧ L k ≤ 30000000 + i) ∧ 0 ≤ cc ∧ cc ≤ i) ?_ ql.length
          ⟨0, sumS d.soft, 0, by omega, rfl, rfl, rfl, rfl, g.cells (o := 0) rfl, hP, fun k => by have := hsm k; omega, by omega, by omega⟩
        rintro q y1 y2 y5 y6 H' R hRR ⟨i, L, cc, hi, rfl, rfl, rfl, rfl, hx0, hP', hL, hc0, hc1⟩
        unfold salvorlaw10_DiskTrue_L10_b
        have hf : Fine d L cc := ⟨fun k => by have := hL k; omega, by omega, by omega, by omega⟩
        rcases Nat.lt_or_ge i ql.length with hlt | hge
        · have hx := List.getElem?_eq_getElem hlt
          have hmem := List.getElem_mem hlt
          generalize ql[i] = y at hx hmem
          have hy := hq y hmem
          simp [vq.len, hlt, vq.idx encS_len hx rfl, encS, abI_quo (a := max 0 y.1) (b := 8) (by omega) (by omega) (by omega)]
          refine bC_of (disk_Left_c hP' hf _) ?_
          obtain ⟨r, H2, ⟨w, rfl, a1, a1o, a1i, a2, a3⟩, a4⟩ := disk_Get_c hP' hf y.1 y.2 hy
          refine bC_of a4 ?_
          have hres := bounds_get (D := d) (c := cc) (pos := y.1) (n := y.2) hL
          have ht := getS_true d L cc y.1 y.2
          have hlb := left_bnd (D := d) (by omega) hL (max 0 y.1 / 8)
          have hx2 := a3.cells hx0 (by omega)
          generalize getS d L cc y.1 y.2 = res at *
          obtain ⟨bs, code, L', cc'⟩ := res
          simp only at a1 a2 hres ht
          have hf' : Fine d L' cc' := ⟨fun k => by have := hres.1 k; omega, by omega, by omega, by omega⟩
          simp [abI_quo (a := max 0 y.1) (b := 8) (by omega) (by omega) (by omega)]
          refine bC_of (disk_Left_c a2 hf' _) ?_
          have hlen := alnS_spec a1
          have hnb := left_bnd (D := d) (L := L') (t := 30000000 + (i : Int) + 1) (by omega) (fun k => by have := hres.1 k; omega) (max 0 y.1 / 8)
          have hpos : bs ≠ [] → 0 < bs.length := fun h => List.length_pos_iff.2 h
          have j23 : salvorlaw10_DiskTrue_L23 R y1 (.ptr 0 0) (.ptr o 0) (I i) (I y.1) (I (leftS d L (max 0 y.1 / 8))) w (I code) (I (leftS d L' (max 0 y.1 / 8))) (I 0) H2 (fun r x => r = B true) := by
            refine salvorlaw10_DiskTrue_L23_rule R (fun q z1 z2 z5 z6 z7 z9 z10 z11 z12 z13 H3 => ∃ j : Nat, j + q = bs.length ∧ z1 = y1 ∧ z2 = .ptr 0 0 ∧ z5 = .ptr o 0 ∧ z6 = I i ∧ z7 = I y.1 ∧ z9 = I (leftS d L (max 0 y.1 / 8)) ∧ z10 = w ∧ z11 = I code ∧ z12 = I (leftS d L' (max 0 y.1 / 8)) ∧ z13 = I j ∧ H3 = H2) ?_ bs.length ⟨0, by omega, rfl, rfl, rfl, rfl, rfl, rfl, rfl, rfl, rfl, rfl, rfl⟩
            rintro q z1 z2 z5 z6 z7 z9 z10 z11 z12 z13 H3 R2 hR2 ⟨j, hj, rfl, rfl, rfl, rfl, rfl, rfl, rfl, rfl, rfl, rfl, rfl⟩
            unfold salvorlaw10_DiskTrue_L23_b
            rcases Nat.lt_or_ge j bs.length with hjl | hjg
            · have hb0 : bs ≠ [] := by rintro rfl; simp at hjl
              obtain ⟨t1, t2, t3, t4, t5⟩ := ht.data hb0
              obtain ⟨t6, t7⟩ := ht.good j (by omega) (by omega)
              have hjl' : (j : Int) < bs.length := by omega
              simp [hlen, hjl, -ald_ptr', ald_ptr hx2, rdCells, abI_add (a := y.1) (b := j) (by omega) (by omega), abI_quo (a := y.1 + j) (b := 8) (by omega) (by omega) (by omega)]
              first | refine bP_of (law10_bad_p hV (by omega) ((y.1 + j) / 8)) ?_ | refine bP_pure (law10_bad_p hV (by omega) ((y.1 + j) / 8)) ?_
              simp [t6, abI_add (a := y.1) (b := j) (by omega) (by omega), abI_quo (a := y.1 + j) (b := 8) (by omega) (by omega) (by omega)]
              refine bC_of (disk_Left_c a2 hf' _) ?_
              simp [show ¬ 0 < leftS d L' ((y.1 + j) / 8) by omega, abI_add (a := j) (b := 1) (by omega) (by omega)]
              exact hR2 (q - 1) _ _ _ _ _ _ _ _ _ _ _ (by omega) ⟨j + 1, by omega, rfl, rfl, rfl, rfl, rfl, rfl, rfl, rfl, rfl, rfl, rfl⟩
            · have hjl : ¬ j < bs.length := by omega
              have nxt : R [z1, .ptr 0 0, .ptr o 0, I ((i + 1 : Nat) : Int)] H3 := hRR (ql.length - (i + 1)) _ _ _ _ _ (by omega) ⟨i + 1, L', cc', by omega, rfl, rfl, rfl, rfl, hx2, a2, fun k => by have := hres.1 k; omega, by omega, by omega⟩
              by_cases k1 : code = 1
              · obtain ⟨t1, t2, t3, t4⟩ := ht.fails k1
                subst t1
                have hmx : max 0 y.1 = y.1 := by omega
                rw [hmx] at hnb hlb ⊢
                by_cases k2 : y.1 / 8 ∈ d.bad
                · simp [hlen, k1, show ¬ y.1 < 0 by omega, -ald_ptr', ald_ptr hx2, rdCells, hV.data.len, show ¬ (d.data.length : Int) ≤ y.1 by omega, abI_quo (a := y.1) (b := 8) (by omega) (by omega) (by omega)]
                  first | refine bP_of (law10_bad_p hV (by omega) (y.1 / 8)) ?_ | refine bP_pure (law10_bad_p hV (by omega) (y.1 / 8)) ?_
                  simp [k2, abI_add (a := i) (b := 1) (by omega) (by omega)]
                  exact nxt
                · have t5 := t4.resolve_left k2
                  simp [hlen, k1, show ¬ y.1 < 0 by omega, -ald_ptr', ald_ptr hx2, rdCells, hV.data.len, show ¬ (d.data.length : Int) ≤ y.1 by omega, abI_quo (a := y.1) (b := 8) (by omega) (by omega) (by omega)]
                  first | refine bP_of (law10_bad_p hV (by omega) (y.1 / 8)) ?_ | refine bP_pure (law10_bad_p hV (by omega) (y.1 / 8)) ?_
                  simp [k2, abI_sub (a := leftS d L (y.1 / 8)) (b := 1) (by omega) (by omega), t5, abI_add (a := i) (b := 1) (by omega) (by omega)]
                  exact nxt
              · have t1 := ht.same k1
                simp [hlen, hjl, k1, t1, abI_add (a := i) (b := 1) (by omega) (by omega)]
                exact nxt
          by_cases hb0 : bs = []
          · have : bs.length = 0 := by rw [hb0]; rfl
            simp [hlen, this]
            exact j23
          · obtain ⟨t1, t2, t3, t4, t5⟩ := ht.data hb0
            have hp := hpos hb0
            obtain ⟨r88, s1, s2, -, -, -⟩ := aslS_spec (hV.data.bytes H2) (lo := some (I y.1)) (hi := some (I (y.1 + bs.length))) (l := y.1.toNat) (k := (y.1 + bs.length).toNat) (by simp [abnd]; omega) (by simp [abnd]; omega) (by omega) (by omega)
            have s3 : sliceCells H2 1 r88 = some (encB bs, (y.1 + bs.length).toNat - y.1.toNat) := by
              rw [s2]
              congr 2
              conv => rhs; rw [t5]
              simp only [partB, encB_drop, encB_take, Nat.mul_one]
              rw [show (y.1 + (bs.length : Int) - y.1).toNat = (y.1 + bs.length).toNat - y.1.toNat by omega]
            simp [hlen, hp, t1, show ¬ y.1 < 0 by omega, show ¬ y.2 < (bs.length : Int) by omega, abI_add (a := y.1) (b := bs.length) (by omega) (by omega), -ald_ptr', ald_ptr hx2, rdCells, hV.data.len, show ¬ (d.data.length : Int) < y.1 + bs.length by omega, acB_spec a1, s1, acB_spec s3, abT_neq]
            rw [t1] at j23
            exact j23
        · simp [vq.len, show ¬ i < ql.length by omega]
          first | refine bP_of (diskRuns_p) ?_ | refine bP_pure (diskRuns_p) ?_
          rfl
      · simp [c3]
        first | refine bP_of (diskRuns_p) ?_ | refine bP_pure (diskRuns_p) ?_
        rfl
  · simp [c1]
    first | refine bP_of (diskRuns_p) ?_ | refine bP_pure (diskRuns_p) ?_
    rfl
end Go.Proofs.Ythgkepaadkmhoaa.Av
namespace Go.Proofs.Ythgkepaadkmhoaa
theorem diskTrue_holds : Rows.DiskTrueSaid := diskTrue_of Av.diskTrue_calls
#print axioms diskTrue_holds
end Go.Proofs.Ythgkepaadkmhoaa
