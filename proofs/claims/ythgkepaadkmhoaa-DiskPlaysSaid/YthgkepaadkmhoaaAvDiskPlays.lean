/- The law DiskPlays: whatever is asked, what each call answers, how often which sector still fails, how many calls there were. No condition. -/
import Derived.Test.YthgkepaadkmhoaaAvDkS
import Derived.Test.YthgkepaadkmhoaaLDiskPlays
set_option linter.unusedVariables false
set_option linter.unusedSimpArgs false
set_option maxRecDepth 100000
namespace Go.Proofs.Ythgkepaadkmhoaa.Av
open Go Go.RowKit
noncomputable def plOps : List Oper := (opsOf (sub [true, true, false] (bodyOf Try.f6))).toList
def plT (u w x1 : AV) : List AV := expand (mk 106 0 [1, 2, 3]) [u, w, x1]
theorem pl0 (u w x : AV) : OpIs Try.prog plOps (plT u w x) 0 [] fun vals H K => gO true (ald true 4 H x) fun v => K v H :=
  OpIs.op (plOps.getD 0 default) (by kernel_rfl) (by kernel_rfl) (by kernel_rfl) (by kernel_rfl) (fun ρ => by kernel_rfl) (fun vals H K h => Eq.mpr (by kernel_rfl : sOp Try.prog pql none0 false (aeval (pt plOps vals (fun _ => true) (plT u w x) 0)) H (plOps.getD 0 default) true K = gO true (ald true 4 H x) fun v => K v H) h)
theorem pl1 (u w x : AV) : OpIs Try.prog plOps (plT u w x) 1 [0] fun vals H K => ACalls Try.prog 9 [vals 0] H K :=
  OpIs.call (plOps.getD 1 default) (by kernel_rfl) (by kernel_rfl) (by kernel_rfl) _ (fun vals => [vals 0]) (by kernel_rfl) (fun vals => by kernel_rfl) (fun vals H K h => h)
theorem pl2 (u w x : AV) : OpIs Try.prog plOps (plT u w x) 2 [] fun vals H K => gO true (ald true 4 H x) fun v => K v H :=
  OpIs.op (plOps.getD 2 default) (by kernel_rfl) (by kernel_rfl) (by kernel_rfl) (by kernel_rfl) (fun ρ => by kernel_rfl) (fun vals H K h => Eq.mpr (by kernel_rfl : sOp Try.prog pql none0 false (aeval (pt plOps vals (fun _ => true) (plT u w x) 2)) H (plOps.getD 2 default) true K = gO true (ald true 4 H x) fun v => K v H) h)
theorem pl3 (u w x : AV) : OpIs Try.prog plOps (plT u w x) 3 [2, 1] fun vals H K => ACalls Try.prog 14 [vals 2] H K :=
  OpIs.call (plOps.getD 3 default) (by kernel_rfl) (by kernel_rfl) (by kernel_rfl) _ (fun vals => [vals 2]) (by kernel_rfl) (fun vals => by kernel_rfl) (fun vals H K h => h)
theorem pl4 (u w x : AV) : OpIs Try.prog plOps (plT u w x) 4 [1, 3] fun vals H K => gO true (some (vals 1)) fun v => K v H :=
  OpIs.op (plOps.getD 4 default) (by kernel_rfl) (by kernel_rfl) (by kernel_rfl) (by kernel_rfl) (fun ρ => by kernel_rfl) (fun vals H K h => Eq.mpr (by kernel_rfl : sOp Try.prog pql none0 false (aeval (pt plOps vals (fun _ => true) (plT u w x) 4)) H (plOps.getD 4 default) true K = gO true (some (vals 1)) fun v => K v H) h)
theorem pl5 (u w x : AV) : OpIs Try.prog plOps (plT u w x) 5 [3] fun vals H K => gO true (some (vals 3)) fun v => K v H :=
  OpIs.op (plOps.getD 5 default) (by kernel_rfl) (by kernel_rfl) (by kernel_rfl) (by kernel_rfl) (fun ρ => by kernel_rfl) (fun vals H K h => Eq.mpr (by kernel_rfl : sOp Try.prog pql none0 false (aeval (pt plOps vals (fun _ => true) (plT u w x) 5)) H (plOps.getD 5 default) true K = gO true (some (vals 3)) fun v => K v H) h)
theorem plK (u w x : AV) (vals : Nat → AV) (H : AH) (K : AV → AH → Prop) : (kSeq (cutC (mk 106 0 [1, 2, 7, 8]) (salvorlaw10_DiskPlays_c [true, true, true] 5)) (kRet Try.prog Try.f6.results.toList K)) .normal (pt plOps vals (fun _ => true) (plT u w x) 6) H = salvorlaw10_DiskPlays_J4 u w (vals 4) (vals 5) H K := by kernel_rfl
def asks (x : Int × Int × Unit) : Int × Int := (x.1, x.2.1)
theorem bounds_get {D : Dev} {L : Int → Int} {c pos n : Int} {t : Int} (hL : ∀ k, -t ≤ L k ∧ L k ≤ t) : (∀ k, -(t + 1) ≤ (getS D L c pos n).2.2.1 k ∧ (getS D L c pos n).2.2.1 k ≤ t + 1) ∧ c ≤ (getS D L c pos n).2.2.2 ∧ (getS D L c pos n).2.2.2 ≤ c + 1 := by
  unfold getS
  split
  · exact ⟨fun k => by have := hL k; simp only; omega, by simp only; omega, by simp only; omega⟩
  · split
    · exact ⟨fun k => by have := hL k; simp only; omega, by simp only; omega, by simp only; omega⟩
    · split
      · refine ⟨fun k => ?_, by simp only; omega, by simp only; omega⟩
        have h1 := hL k
        have h2 := hL (pos / 8)
        by_cases c1 : pos / 8 ∈ D.bad
        · simp only [if_pos c1]; omega
        · by_cases c2 : k = pos / 8
          · simp only [if_neg c1, if_pos c2]; omega
          · simp only [if_neg c1, if_neg c2]; omega
      · exact ⟨fun k => by have := hL k; simp only; omega, by simp only; omega, by simp only; omega⟩
theorem diskPlays_calls (x0 : Sl UInt8 × Sl Int × Sl (Int × Int × Unit) × Sl Int × Unit) (h0 : diskPlays_r0.ok x0) (x1 : Sl (Int × Int × Unit)) (h1 : diskPlays_r1.ok x1) (x2 : Int) (h2 : diskPlays_r2.ok x2) :
    ACalls Try.prog 6 ([.agg (diskPlays_r0.enc x0)] ++ diskPlays_r1.enc x1 ++ diskPlays_r2.enc x2) [] fun r _ => r = .lit (.bool true) := by
  obtain ⟨xa, xb, xc, xe, u⟩ := x0
  have va := bytes_sv xa h0.1.1
  have vb := ints_sv xb h0.2.1.1
  have vc := softs_sv xc h0.2.2.1.1
  have ve := ints_sv xe h0.2.2.2.1.1
  have vq := softs_sv x1 h1.1
  have hq : ∀ s ∈ x1.l.map (fun x => (x.1, x.2.1)), s.1 ≤ 9223372036854775807 := fun s hs => by
    obtain ⟨x, hx, rfl⟩ := List.mem_map.1 hs
    exact (in64 (h1.2.2 x hx).1).2
  show ACalls Try.prog 6 [.agg [if xa.nil then AV.lit (.slice none 0 0) else .imm (xa.l.flatMap encU) xa.l.length 1, if xb.nil then AV.lit (.slice none 0 0) else .imm (xb.l.flatMap encI) xb.l.length 1, if xc.nil then AV.lit (.slice none 0 0) else .imm (xc.l.flatMap senc) xc.l.length 2, if xe.nil then AV.lit (.slice none 0 0) else .imm (xe.l.flatMap encI) xe.l.length 1], if x1.nil then AV.lit (.slice none 0 0) else .imm (x1.l.flatMap senc) x1.l.length 2, I x2] [] _
  generalize (if xa.nil then AV.lit (.slice none 0 0) else .imm (xa.l.flatMap encU) xa.l.length 1) = a at va
  generalize (if xb.nil then AV.lit (.slice none 0 0) else .imm (xb.l.flatMap encI) xb.l.length 1) = b at vb
  generalize (if xc.nil then AV.lit (.slice none 0 0) else .imm (xc.l.flatMap senc) xc.l.length 2) = c at vc
  generalize (if xe.nil then AV.lit (.slice none 0 0) else .imm (xe.l.flatMap encI) xe.l.length 1) = e at ve
  generalize (if x1.nil then AV.lit (.slice none 0 0) else .imm (x1.l.flatMap senc) x1.l.length 2) = qv at vq
  generalize (x1.l.map fun x => (x.1, x.2.1)) = ql at vq hq
  have hV : DevV ⟨xa.l, xb.l, xc.l.map fun x => (x.1, x.2.1), xe.l⟩ a b c e := ⟨va, vb, vc, ve⟩
  generalize (⟨xa.l, xb.l, xc.l.map fun x => (x.1, x.2.1), xe.l⟩ : Dev) = d at hV
  refine salvorlaw10_DiskPlays_ok ?_
  unfold salvorlaw10_DiskPlays
  simp [oneA_sv hV.data, oneA_sv hV.bad, oneA_sv hV.soft, oneA_sv hV.shorts, rdCells]
  first | refine bP_of (law10_Few_p hV) ?_ | refine bP_pure (law10_Few_p hV) ?_
  by_cases c1 : d.data.length ≤ 400 ∧ d.bad.length ≤ 60 ∧ d.soft.length ≤ 60 ∧ d.shorts.length ≤ 200
  · by_cases c2 : (100 : Int) < ql.length
    · simp [c1, vq.len, c2]
      first | refine bP_of (diskRuns_p) ?_ | refine bP_pure (diskRuns_p) ?_
      rfl
    · simp [c1, vq.len, c2]
      refine unR.mk ?_
      show ACode Try.prog (.region 3 plOps.toArray true) _ (plT qv (I x2) (.ptr 0 0)) [some (.cells [a, b, c, e])]
      refine pair_region (x := .ptr 0 0) hV (by omega) (by omega) (by omega) (by omega) (by kernel_rfl) (by kernel_rfl) (fun H g => by rw [ald_ptr (g.cells (o := 0) (x := some (.cells [a, b, c, e])) rfl)]; rfl) (pl0 _ _ _) (pl1 _ _ _) (pl2 _ _ _) (pl3 _ _ _) (pl4 _ _ _) (pl5 _ _ _) ?_
      intro H vals o n1 dv bo lo sv m0 m1 o2 ra rb rs re gv g e4 e5 hP hm hR
      rw [plK, e4, e5, salvorlaw10_DiskPlays_J4_eq]
      unfold salvorlaw10_DiskPlays_J4_b
      have e0 : abN .eql nilP (.ptr o 0) (.lit (.pointer none)) = some (B false) := rfl
      simp [e0]
      obtain ⟨l1, l2, l3⟩ := eff_len d (by omega) (by omega) (by omega)
      have hmay := eff_may d
      have hdl := hmay.1
      have hlen0 : ((List.replicate (nsec (Eff d)).toNat (0 : Int)).length : Int) = nsec (Eff d) := by rw [List.length_replicate]; unfold nsec; omega
      generalize Eff d = D at *
      refine salvorlaw10_DiskPlays_L10_rule (fun q y1 y2 y7 y8 y9 H' => ∃ (i : Nat) (L : Int → Int) (gone : List Int) (cc : Int), i + q = ql.length ∧ y1 = qv ∧ y2 = I x2 ∧ y7 = .ptr o 0 ∧ y8 = .ptr o2 0 ∧ y9 = I i ∧ DiskP 1 n1 H' o D L cc dv bo lo sv ∧ RefP m0 m1 H' o2 D gone cc ra rb rs re gv ∧ remS D gone = L ∧ (gone.length : Int) = nsec D ∧ (∀ x ∈ gone, 0 ≤ x ∧ x ≤ 1000000 + i) ∧ (∀ k, -(30000000 + (i : Int)) ≤ L k ∧ L k ≤ 30000000 + i) ∧ 0 ≤ cc ∧ cc ≤ i) ?_ ql.length
        ⟨0, sumS D.soft, _, 0, by omega, rfl, rfl, rfl, rfl, rfl, hP, hR, rem0 D _, hlen0, fun x hx => by rw [List.eq_of_mem_replicate hx]; omega, fun k => by have := sumS_bnd hmay.2.2 k; omega, by omega, by omega⟩
      rintro q y1 y2 y7 y8 y9 H' R hRR ⟨i, L, gone, cc, hi, rfl, rfl, rfl, rfl, rfl, hP', hR', hrem, hgl, hg, hL, hc0, hc1⟩
      unfold salvorlaw10_DiskPlays_L10_b
      have hr : RFine D gone := ⟨hmay, l1, l2, l3, hgl, fun x hx => by have := hg x hx; omega⟩
      have hf : Fine D L cc := ⟨fun k => by have := hL k; omega, by omega, by omega, l3⟩
      have left : ∀ (k : Int), (leftS D L k) = leftS D (remS D gone) k := fun k => by rw [hrem]
      rcases Nat.lt_or_ge i ql.length with hlt | hge
      · have hx := List.getElem?_eq_getElem hlt
        have hmem := List.getElem_mem hlt
        generalize ql[i] = y at hx hmem
        have hy := hq y hmem
        simp [vq.len, hlt, vq.idx encS_len hx rfl, encS]
        obtain ⟨r, H2, ⟨w, rfl, a1, a1o, a1i, a2, a3⟩, a4⟩ := disk_Get_c hP' hf y.1 y.2 hy
        refine bC_of a4 ?_
        have hR2 := hR'.keep a3 (.inr hm)
        simp
        obtain ⟨r2, H3, ⟨w2, gone', rfl, b1, b2, b3, b4, b6, b7⟩, b8⟩ := ref_Get_c hR2 hr (by omega) y.1 y.2 hy
        rw [hrem] at b1 b2 b3 b8
        refine bC_of b8 ?_
        have hres := bounds_get (D := D) (c := cc) (pos := y.1) (n := y.2) hL
        have a2' := a2.keep b7 (.inl hm)
        have a1' : sliceCells H3 1 w = _ := sliceCells_keep a1 fun j hj => b7.2 j (sliceCells_lt a1 j hj) (fun hh => by have := a1i j hj; have := hR'.top; omega)
        have hb6 := b6 (1000000 + i) hg
        generalize getS D L cc y.1 y.2 = res at *
        obtain ⟨bs, code, L', cc'⟩ := res
        simp only at a1' a2' b1 b2 b3 hres
        have hr' : RFine D gone' := ⟨hmay, l1, l2, l3, b4, fun x hx => by have := hb6 x hx; omega⟩
        have hf' : Fine D L' cc' := ⟨fun k => by have := hres.1 k; omega, by omega, by omega, l3⟩
        have hv2 := vq.idx encS_len hx (i := i) rfl
        simp [acB_spec a1', acB_spec b1, abT_neq]
        refine bC_of (disk_Calls_c a2') ?_
        simp [b2.obj]
        refine bC_of (disk_Left_c a2' hf' x2) ?_
        refine bC_of (ref_Left_c b2 hr' x2) ?_
        rw [b3]
        simp [b2.obj, abI_add (a := i) (b := 1) (by omega) (by omega)]
        exact hRR (q - 1) _ _ _ _ _ _ (by omega) ⟨i + 1, L', gone', cc', by omega, rfl, rfl, rfl, rfl, rfl, a2', b2, b3, b4, fun x hx => by have := hb6 x hx; omega, fun k => by have := hres.1 k; omega, by omega, by omega⟩
      · have hil : i = ql.length := by omega
        subst hil
        simp [vq.len]
        refine salvorlaw10_DiskPlays_L20_rule (fun q y7 y8 y14 H2 => ∃ k : Int, q = (60 - k).toNat ∧ 0 ≤ k ∧ y7 = .ptr o 0 ∧ y8 = .ptr o2 0 ∧ y14 = I k ∧ H2 = H') ?_ (60 - (0 : Int)).toNat ⟨0, rfl, by omega, rfl, rfl, rfl, rfl⟩
        rintro q y7 y8 y14 H2 R hRR ⟨k, rfl, hk, rfl, rfl, rfl, rfl⟩
        unfold salvorlaw10_DiskPlays_L20_b
        by_cases hlt : k < 60
        · simp [hlt]
          refine bC_of (disk_Left_c hP' hf k) ?_
          refine bC_of (ref_Left_c hR' hr k) ?_
          rw [hrem]
          simp [abI_add (a := k) (b := 1) (by omega) (by omega)]
          exact hRR (60 - (k + 1)).toNat _ _ _ _ (by omega) ⟨k + 1, rfl, by omega, rfl, rfl, rfl, rfl⟩
        · simp [hlt]
          first | refine bP_of (diskRuns_p) ?_ | refine bP_pure (diskRuns_p) ?_
          rfl
  · simp [c1]
    first | refine bP_of (diskRuns_p) ?_ | refine bP_pure (diskRuns_p) ?_
    rfl
end Go.Proofs.Ythgkepaadkmhoaa.Av
namespace Go.Proofs.Ythgkepaadkmhoaa
theorem diskPlays_holds : Rows.DiskPlaysSaid := diskPlays_of Av.diskPlays_calls
#print axioms diskPlays_holds
end Go.Proofs.Ythgkepaadkmhoaa
