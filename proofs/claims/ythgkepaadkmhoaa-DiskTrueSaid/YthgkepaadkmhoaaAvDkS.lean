/- Chapter 10's laws: what they are handed; a disk and the document's, made in whatever order is drawn. -/
import Derived.Test.YthgkepaadkmhoaaAvDkL
set_option linter.unusedVariables false
set_option linter.unusedSimpArgs false
set_option maxRecDepth 100000
namespace Go.Proofs.Ythgkepaadkmhoaa.Av
open Go Go.RowKit
theorem in64 {n : Int} (h : IntKind.i64.min ≤ n ∧ n ≤ IntKind.i64.max) : -9223372036854775808 ≤ n ∧ n ≤ 9223372036854775807 := by
  simpa [IntKind.min, IntKind.max, IntKind.signed, IntKind.bits] using h
theorem bytes_sv (s : Sl UInt8) (hn : s.nil = true → s.l = []) : SV encU 1 s.l (if s.nil then .lit (.slice none 0 0) else .imm (s.l.flatMap encU) s.l.length 1) := by
  obtain ⟨l, nil⟩ := s
  cases nil with
  | true =>
    have := hn rfl
    simp only at this
    subst this
    exact SV.nil
  | false => exact SV.imm encU_len (fun x _ => rfl)
theorem ints_sv (s : Sl Int) (hn : s.nil = true → s.l = []) : SV encI 1 s.l (if s.nil then .lit (.slice none 0 0) else .imm (s.l.flatMap encI) s.l.length 1) := by
  obtain ⟨l, nil⟩ := s
  cases nil with
  | true =>
    have := hn rfl
    simp only at this
    subst this
    exact SV.nil
  | false => exact SV.imm encI_len (fun x _ => rfl)
def senc (x : Int × Int × Unit) : List AV := [I x.1] ++ ([I x.2.1] ++ [])
theorem softs_sv (s : Sl (Int × Int × Unit)) (hn : s.nil = true → s.l = []) : SV encS 2 (s.l.map fun x => (x.1, x.2.1)) (if s.nil then .lit (.slice none 0 0) else .imm (s.l.flatMap senc) s.l.length 2) := by
  obtain ⟨l, nil⟩ := s
  cases nil with
  | true =>
    have := hn rfl
    simp only at this
    subst this
    exact SV.nil
  | false =>
    have e : l.flatMap senc = (l.map fun x => (x.1, x.2.1)).flatMap encS := by rw [List.flatMap_map]; rfl
    have h2 := SV.imm (enc := encS) (sz := 2) (l := l.map fun x => (x.1, x.2.1)) encS_len (fun x _ => rfl)
    rw [← e, List.length_map] at h2
    exact h2
theorem rem0 (D : Dev) (n : Nat) : remS D (List.replicate n 0) = sumS D.soft := by
  funext k
  unfold remS
  rw [List.getElem?_replicate]
  split
  · omega
  · split <;> simp
/-- A disk and the document's, made one behind the other. -/
structure PairI (d : Dev) (H1 : AH) (a b c e : AV) (H : AH) (vals : Nat → AV) (S : Nat → Bool) : Prop where
  g : Grew H1 H
  v0 : S 0 = true → vals 0 = .agg [a, b, c, e]
  v1 : S 1 = true → ∃ o n1 dv bo lo sv, vals 1 = .ptr o 0 ∧ DiskP H1.length n1 H o (Eff d) (sumS (Eff d).soft) 0 dv bo lo sv ∧ (S 3 = true → ∃ m0 m1 o2 a b s e gv, vals 3 = .ptr o2 0 ∧ n1 ≤ m0 ∧ RefP m0 m1 H o2 (Eff d) (List.replicate (nsec (Eff d)).toNat 0) 0 a b s e gv)
  v2 : S 2 = true → vals 2 = .agg [a, b, c, e]
  v4 : S 4 = true → vals 4 = vals 1
  v5 : S 5 = true → vals 5 = vals 3
  low : (S 3 = true → S 1 = true) ∧ (S 4 = true → S 1 = true ∧ S 3 = true) ∧ (S 5 = true → S 3 = true)
theorem pair_region {id : Nat} {ops : List Oper} {T : List AV} {Q : AQ} {x a b c e : AV} {d : Dev} {H1 : AH} (hV : DevV d a b c e) (h1 : d.bad.length ≤ 1000000) (h2 : d.soft.length ≤ 1000000) (h3 : d.data.length ≤ 1000000) (h4 : d.shorts.length ≤ 1000000)
    (hord : ordOk ops = true) (hlen : ops.length = 6) (hx : ∀ H, Grew H1 H → ald true 4 H x = some (.agg [a, b, c, e]))
    (o0 : OpIs Try.prog ops T 0 [] fun vals H K => gO true (ald true 4 H x) fun v => K v H) (o1 : OpIs Try.prog ops T 1 [0] fun vals H K => ACalls Try.prog 9 [vals 0] H K)
    (o2 : OpIs Try.prog ops T 2 [] fun vals H K => gO true (ald true 4 H x) fun v => K v H) (o3 : OpIs Try.prog ops T 3 [2, 1] fun vals H K => ACalls Try.prog 14 [vals 2] H K)
    (o4 : OpIs Try.prog ops T 4 [1, 3] fun vals H K => gO true (some (vals 1)) fun v => K v H) (o5 : OpIs Try.prog ops T 5 [3] fun vals H K => gO true (some (vals 3)) fun v => K v H)
    (last : ∀ H vals o n1 dv bo lo sv m0 m1 o2 a b s e gv, Grew H1 H → vals 4 = .ptr o 0 → vals 5 = .ptr o2 0 → DiskP H1.length n1 H o (Eff d) (sumS (Eff d).soft) 0 dv bo lo sv → n1 ≤ m0 → RefP m0 m1 H o2 (Eff d) (List.replicate (nsec (Eff d)).toNat 0) 0 a b s e gv → Q .normal (pt ops vals (fun _ => true) T 6) H) :
    ACode Try.prog (.region id ops.toArray true) Q T H1 := by
  refine ACode.told mixP hord (PairI d H1 a b c e) (fun _ => undefA) ⟨Grew.refl H1, by simp, by simp, by simp, by simp, by simp, by simp⟩ ?_ ?_
  · intro i hi
    rw [hlen] at hi
    have hcases : i = 0 ∨ i = 1 ∨ i = 2 ∨ i = 3 ∨ i = 4 ∨ i = 5 := by omega
    rcases hcases with rfl | rfl | rfl | rfl | rfl | rfl
    · refine ⟨_, _, o0, fun S Hc vals hS hn hI => ?_⟩
      simp only [gO_true, hx Hc hI.g, bO_some]
      exact ⟨hI.g, fun _ => valE, fun c => by rw [updN (by omega)] at c; simpa only [valN (show (1 : Nat) ≠ 0 by omega), valN (show (3 : Nat) ≠ 0 by omega), updN (show (3 : Nat) ≠ 0 by omega)] using hI.v1 c, fun c => by rw [updN (by omega)] at c; rw [valN (by omega)]; exact hI.v2 c,
        fun c => by rw [updN (by omega)] at c; rw [valN (by omega), valN (by omega)]; exact hI.v4 c, fun c => by rw [updN (by omega)] at c; rw [valN (by omega), valN (by omega)]; exact hI.v5 c, by rw [updN (by omega), updN (by omega), updN (by omega), updN (by omega)]; exact hI.low⟩
    · refine ⟨_, _, o1, fun S Hc vals hS hn hI => ?_⟩
      rw [hI.v0 (hn 0 (by simp))]
      refine (disk_New_a (hV.dh Hc) h1 h2 h3 h4).mono ?_
      rintro r H' ⟨o, n1, dv, bo, lo, sv, rfl, hP, g⟩
      have n3 : S 3 = false := by
        cases h : S 3 with
        | false => rfl
        | true => have := hI.low.1 h; rw [hS] at this; cases this
      have n4 : S 4 = false := by
        cases h : S 4 with
        | false => rfl
        | true => have := (hI.low.2.1 h).1; rw [hS] at this; cases this
      have n5 : S 5 = false := by
        cases h : S 5 with
        | false => rfl
        | true => have := hI.low.2.2 h; rw [n3] at this; cases this
      have hlow : DiskP H1.length n1 H' o (Eff d) (sumS (Eff d).soft) 0 dv bo lo sv := by
        have hg := hI.g.1
        obtain ⟨l1, l2, l3, l4, l5⟩ := hP.low
        exact ⟨hP.obj, hP.data, hP.bad, hP.left, hP.shorts, hP.ne, hP.od, hP.os, ⟨by omega, by omega, by omega, fun i hi => Nat.le_trans hg (l4 i hi), fun i hi => Nat.le_trans hg (l5 i hi)⟩, hP.high, hP.top, hP.one⟩
      exact ⟨hI.g.trans g, fun c => by rw [updN (by omega)] at c; rw [valN (by omega)]; exact hI.v0 c, fun _ => ⟨o, n1, dv, bo, lo, sv, valE, hlow, fun c => absurd c (by rw [updN (by omega), n3]; simp)⟩, fun c => by rw [updN (by omega)] at c; rw [valN (by omega)]; exact hI.v2 c,
        fun c => absurd c (by rw [updN (by omega), n4]; simp), fun c => absurd c (by rw [updN (by omega), n5]; simp), ⟨fun c => absurd c (by rw [updN (by omega), n3]; simp), fun c => absurd c (by rw [updN (by omega), n4]; simp), fun c => absurd c (by rw [updN (by omega), n5]; simp)⟩⟩
    · refine ⟨_, _, o2, fun S Hc vals hS hn hI => ?_⟩
      simp only [gO_true, hx Hc hI.g, bO_some]
      exact ⟨hI.g, fun c => by rw [updN (by omega)] at c; rw [valN (by omega)]; exact hI.v0 c, fun c => by rw [updN (by omega)] at c; simpa only [valN (show (1 : Nat) ≠ 2 by omega), valN (show (3 : Nat) ≠ 2 by omega), updN (show (3 : Nat) ≠ 2 by omega)] using hI.v1 c, fun _ => valE,
        fun c => by rw [updN (by omega)] at c; rw [valN (by omega), valN (by omega)]; exact hI.v4 c, fun c => by rw [updN (by omega)] at c; rw [valN (by omega), valN (by omega)]; exact hI.v5 c, by rw [updN (by omega), updN (by omega), updN (by omega), updN (by omega)]; exact hI.low⟩
    · refine ⟨_, _, o3, fun S Hc vals hS hn hI => ?_⟩
      rw [hI.v2 (hn 2 (by simp))]
      have s1 := hn 1 (by simp)
      obtain ⟨r, H', ⟨o2, m1, ra, rb, rs, re, gv, rfl, hR, g⟩, hc⟩ := ref_NewDisk_c hV h1 h2 h3 Hc
      refine hc.mono ?_
      rintro r' H'' ⟨rfl, rfl⟩
      obtain ⟨o, n1, dv, bo, lo, sv, e1, hP, -⟩ := hI.v1 s1
      have n4 : S 4 = false := by
        cases h : S 4 with
        | false => rfl
        | true => have := (hI.low.2.1 h).2; rw [hS] at this; cases this
      have n5 : S 5 = false := by
        cases h : S 5 with
        | false => rfl
        | true => have := hI.low.2.2 h; rw [hS] at this; cases this
      exact ⟨hI.g.trans g, fun c => by rw [updN (by omega)] at c; rw [valN (by omega)]; exact hI.v0 c, fun _ => ⟨o, n1, dv, bo, lo, sv, by rw [valN (by omega)]; exact e1, hP.keep (Keep.of (a := n1) (b := n1) g) (.inl (Nat.le_refl _)), fun _ => ⟨Hc.length, m1, o2, ra, rb, rs, re, gv, valE, hP.top, hR⟩⟩, fun c => by rw [updN (by omega)] at c; rw [valN (by omega)]; exact hI.v2 c,
        fun c => absurd c (by rw [updN (by omega), n4]; simp), fun c => absurd c (by rw [updN (by omega), n5]; simp), ⟨fun _ => by rw [updN (by omega)]; exact s1, fun c => absurd c (by rw [updN (by omega), n4]; simp), fun c => absurd c (by rw [updN (by omega), n5]; simp)⟩⟩
    · refine ⟨_, _, o4, fun S Hc vals hS hn hI => ?_⟩
      simp only [gO_true, bO_some]
      have s1 := hn 1 (by simp)
      have s3 := hn 3 (by simp)
      exact ⟨hI.g, fun c => by rw [updN (by omega)] at c; rw [valN (by omega)]; exact hI.v0 c, fun c => by rw [updN (by omega)] at c; simpa only [valN (show (1 : Nat) ≠ 4 by omega), valN (show (3 : Nat) ≠ 4 by omega), updN (show (3 : Nat) ≠ 4 by omega)] using hI.v1 c, fun c => by rw [updN (by omega)] at c; rw [valN (by omega)]; exact hI.v2 c,
        fun c => by rw [valE, valN (by omega)], fun c => by rw [updN (by omega)] at c; rw [valN (by omega), valN (by omega)]; exact hI.v5 c, ⟨fun _ => by rw [updN (by omega)]; exact s1, fun _ => ⟨by rw [updN (by omega)]; exact s1, by rw [updN (by omega)]; exact s3⟩, fun _ => by rw [updN (by omega)]; exact s3⟩⟩
    · refine ⟨_, _, o5, fun S Hc vals hS hn hI => ?_⟩
      simp only [gO_true, bO_some]
      have s3 := hn 3 (by simp)
      exact ⟨hI.g, fun c => by rw [updN (by omega)] at c; rw [valN (by omega)]; exact hI.v0 c, fun c => by rw [updN (by omega)] at c; simpa only [valN (show (1 : Nat) ≠ 5 by omega), valN (show (3 : Nat) ≠ 5 by omega), updN (show (3 : Nat) ≠ 5 by omega)] using hI.v1 c, fun c => by rw [updN (by omega)] at c; rw [valN (by omega)]; exact hI.v2 c,
        fun c => by rw [updN (by omega)] at c; rw [valN (by omega), valN (by omega)]; exact hI.v4 c, fun c => by rw [valE, valN (by omega)], by rw [updN (by omega), updN (by omega), updN (by omega)]; exact ⟨hI.low.1, hI.low.2.1, fun _ => s3⟩⟩
  · intro Hc vals S hS hI
    rw [hlen] at hS ⊢
    obtain ⟨o, n1, dv, bo, lo, sv, e1, hP, hq⟩ := hI.v1 (hS 1 (by omega))
    obtain ⟨m0, m1, o2, ra, rb, rs, re, gv, e3, hm, hR⟩ := hq (hS 3 (by omega))
    exact last Hc vals o n1 dv bo lo sv m0 m1 o2 ra rb rs re gv hI.g ((hI.v4 (hS 4 (by omega))).trans e1) ((hI.v5 (hS 5 (by omega))).trans e3) hP hm hR
theorem eff_len (d : Dev) (h1 : d.bad.length ≤ 1000000) (h2 : d.soft.length ≤ 1000000) (h4 : d.shorts.length ≤ 1000000) : (Eff d).bad.length ≤ 1000000 ∧ (Eff d).soft.length ≤ 1000000 ∧ (Eff d).shorts.length ≤ 1000000 := by
  unfold Eff
  split
  · exact ⟨h1, h2, h4⟩
  · simp
end Go.Proofs.Ythgkepaadkmhoaa.Av
