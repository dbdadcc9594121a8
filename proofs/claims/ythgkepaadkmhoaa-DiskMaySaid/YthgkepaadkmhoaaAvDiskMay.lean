/- The law DiskMay: which devices may be, and how long their disks are. No condition. -/
import Derived.Test.YthgkepaadkmhoaaAvDkS
import Derived.Test.YthgkepaadkmhoaaLDiskMay
set_option linter.unusedVariables false
set_option linter.unusedSimpArgs false
set_option maxRecDepth 100000
namespace Go.Proofs.Ythgkepaadkmhoaa.Av
open Go Go.RowKit
noncomputable def mayOps : List Oper := (opsOf (sub [true, true, false] (bodyOf Try.f5))).toList
def mayT (x1 : AV) : List AV := expand (mk 51 0 [1]) [x1]
theorem may0 (x : AV) : OpIs Try.prog mayOps (mayT x) 0 [] fun vals H K => gO true (ald true 4 H x) fun v => K v H :=
  OpIs.op (mayOps.getD 0 default) (by kernel_rfl) (by kernel_rfl) (by kernel_rfl) (by kernel_rfl) (fun ρ => by kernel_rfl) (fun vals H K h => Eq.mpr (by kernel_rfl : sOp Try.prog pql none0 false (aeval (pt mayOps vals (fun _ => true) (mayT x) 0)) H (mayOps.getD 0 default) true K = gO true (ald true 4 H x) fun v => K v H) h)
theorem may1 (x : AV) : OpIs Try.prog mayOps (mayT x) 1 [0] fun vals H K => ACalls Try.prog 9 [vals 0] H K :=
  OpIs.call (mayOps.getD 1 default) (by kernel_rfl) (by kernel_rfl) (by kernel_rfl) _ (fun vals => [vals 0]) (by kernel_rfl) (fun vals => by kernel_rfl) (fun vals H K h => h)
theorem may2 (x : AV) : OpIs Try.prog mayOps (mayT x) 2 [] fun vals H K => gO true (ald true 4 H x) fun v => K v H :=
  OpIs.op (mayOps.getD 2 default) (by kernel_rfl) (by kernel_rfl) (by kernel_rfl) (by kernel_rfl) (fun ρ => by kernel_rfl) (fun vals H K h => Eq.mpr (by kernel_rfl : sOp Try.prog pql none0 false (aeval (pt mayOps vals (fun _ => true) (mayT x) 2)) H (mayOps.getD 2 default) true K = gO true (ald true 4 H x) fun v => K v H) h)
theorem may3 (x : AV) : OpIs Try.prog mayOps (mayT x) 3 [2, 1] fun vals H K => ACalls Try.prog 14 [vals 2] H K :=
  OpIs.call (mayOps.getD 3 default) (by kernel_rfl) (by kernel_rfl) (by kernel_rfl) _ (fun vals => [vals 2]) (by kernel_rfl) (fun vals => by kernel_rfl) (fun vals H K h => h)
theorem may4 (x : AV) : OpIs Try.prog mayOps (mayT x) 4 [1, 3] fun vals H K => gO true (some (vals 1)) fun v => K v H :=
  OpIs.op (mayOps.getD 4 default) (by kernel_rfl) (by kernel_rfl) (by kernel_rfl) (by kernel_rfl) (fun ρ => by kernel_rfl) (fun vals H K h => Eq.mpr (by kernel_rfl : sOp Try.prog pql none0 false (aeval (pt mayOps vals (fun _ => true) (mayT x) 4)) H (mayOps.getD 4 default) true K = gO true (some (vals 1)) fun v => K v H) h)
theorem may5 (x : AV) : OpIs Try.prog mayOps (mayT x) 5 [3] fun vals H K => gO true (some (vals 3)) fun v => K v H :=
  OpIs.op (mayOps.getD 5 default) (by kernel_rfl) (by kernel_rfl) (by kernel_rfl) (by kernel_rfl) (fun ρ => by kernel_rfl) (fun vals H K h => Eq.mpr (by kernel_rfl : sOp Try.prog pql none0 false (aeval (pt mayOps vals (fun _ => true) (mayT x) 5)) H (mayOps.getD 5 default) true K = gO true (some (vals 3)) fun v => K v H) h)
theorem mayK (x : AV) (vals : Nat → AV) (H : AH) (K : AV → AH → Prop) : (kSeq (cutC (mk 51 0 [1, 3, 4]) (salvorlaw10_DiskMay_c [true, true, true] 5)) (kRet Try.prog Try.f5.results.toList K)) .normal (pt mayOps vals (fun _ => true) (mayT x) 6) H = salvorlaw10_DiskMay_J4 x (vals 4) (vals 5) H K := by kernel_rfl
theorem diskMay_calls (x0 : Sl UInt8 × Sl Int × Sl (Int × Int × Unit) × Sl Int × Unit) (h0 : diskMay_r0.ok x0) :
    ACalls Try.prog 5 ([.agg (diskMay_r0.enc x0)]) [] fun r _ => r = .lit (.bool true) := by
  obtain ⟨xa, xb, xc, xe, u⟩ := x0
  have va := bytes_sv xa h0.1.1
  have vb := ints_sv xb h0.2.1.1
  have vc := softs_sv xc h0.2.2.1.1
  have ve := ints_sv xe h0.2.2.2.1.1
  show ACalls Try.prog 5 [.agg [if xa.nil then AV.lit (.slice none 0 0) else .imm (xa.l.flatMap encU) xa.l.length 1, if xb.nil then AV.lit (.slice none 0 0) else .imm (xb.l.flatMap encI) xb.l.length 1, if xc.nil then AV.lit (.slice none 0 0) else .imm (xc.l.flatMap senc) xc.l.length 2, if xe.nil then AV.lit (.slice none 0 0) else .imm (xe.l.flatMap encI) xe.l.length 1]] [] _
  generalize (if xa.nil then AV.lit (.slice none 0 0) else .imm (xa.l.flatMap encU) xa.l.length 1) = a at va
  generalize (if xb.nil then AV.lit (.slice none 0 0) else .imm (xb.l.flatMap encI) xb.l.length 1) = b at vb
  generalize (if xc.nil then AV.lit (.slice none 0 0) else .imm (xc.l.flatMap senc) xc.l.length 2) = c at vc
  generalize (if xe.nil then AV.lit (.slice none 0 0) else .imm (xe.l.flatMap encI) xe.l.length 1) = e at ve
  have hV : DevV ⟨xa.l, xb.l, xc.l.map fun x => (x.1, x.2.1), xe.l⟩ a b c e := ⟨va, vb, vc, ve⟩
  generalize (⟨xa.l, xb.l, xc.l.map fun x => (x.1, x.2.1), xe.l⟩ : Dev) = d at hV
  refine salvorlaw10_DiskMay_ok ?_
  unfold salvorlaw10_DiskMay
  simp [oneA_sv hV.data, oneA_sv hV.bad, oneA_sv hV.soft, oneA_sv hV.shorts, rdCells]
  first | refine bP_of (law10_Few_p hV) ?_ | refine bP_pure (law10_Few_p hV) ?_
  by_cases c1 : d.data.length ≤ 400 ∧ d.bad.length ≤ 60 ∧ d.soft.length ≤ 60 ∧ d.shorts.length ≤ 200
  · simp [c1]
    refine unR.mk ?_
    show ACode Try.prog (.region 3 mayOps.toArray true) _ (mayT (.ptr 0 0)) [some (.cells [a, b, c, e])]
    refine pair_region (x := .ptr 0 0) hV (by omega) (by omega) (by omega) (by omega) (by kernel_rfl) (by kernel_rfl) (fun H g => by rw [ald_ptr (g.cells (o := 0) (x := some (.cells [a, b, c, e])) rfl)]; rfl) (may0 _) (may1 _) (may2 _) (may3 _) (may4 _) (may5 _) ?_
    intro H vals o n1 dv bo lo sv m0 m1 o2 ra rb rs re gv g e4 e5 hP hm hR
    rw [mayK, e4, e5, salvorlaw10_DiskMay_J4_eq]
    unfold salvorlaw10_DiskMay_J4_b
    have e0 : abN .eql nilP (.ptr o 0) (.lit (.pointer none)) = some (B false) := rfl
    simp [e0]
    obtain ⟨l1, l2, l3⟩ := eff_len d (by omega) (by omega) (by omega)
    have hf := fine0 (eff_may d) l2 l3
    have hr : RFine (Eff d) (List.replicate (nsec (Eff d)).toNat 0) := ⟨eff_may d, l1, l2, l3, by rw [List.length_replicate]; unfold nsec; omega, fun x hx => by rw [List.eq_of_mem_replicate hx]; omega⟩
    refine salvorlaw10_DiskMay_L10_rule (fun q y1 y3 y4 y5 H' => ∃ k : Int, q = (60 - k).toNat ∧ -1 ≤ k ∧ y1 = .ptr 0 0 ∧ y3 = .ptr o 0 ∧ y4 = .ptr o2 0 ∧ y5 = I k ∧ H' = H) ?_ (60 - (-1 : Int)).toNat ⟨-1, rfl, by omega, rfl, rfl, rfl, rfl, rfl⟩
    rintro q y1 y3 y4 y5 H' R hRR ⟨k, rfl, hk, rfl, rfl, rfl, rfl, rfl⟩
    unfold salvorlaw10_DiskMay_L10_b
    by_cases hlt : k < 60
    · simp [hlt]
      refine bC_of (disk_Left_c hP hf k) ?_
      refine bC_of (ref_Left_c hR hr k) ?_
      rw [rem0]
      simp [abI_add (a := k) (b := 1) (by omega) (by omega)]
      exact hRR (60 - (k + 1)).toNat _ _ _ _ _ (by omega) ⟨k + 1, rfl, by omega, rfl, rfl, rfl, rfl, rfl⟩
    · have hc := g.cells (o := 0) (x := some (.cells [a, b, c, e])) rfl
      simp [hlt, -ald_ptr', ald_ptr hc, rdCells]
      refine bP_of (disk_May_p hV (by omega) (by omega)) ?_
      refine bP_of (ref_MayDevice_p hV (by omega) (by omega)) ?_
      simp
      refine bC_of (disk_Long_c hP) ?_
      simp [hR.obj, hR.dev.data.len]
      refine bC_of (disk_Calls_c hP) ?_
      simp
      first | refine bP_of (diskRuns_p) ?_ | refine bP_pure (diskRuns_p) ?_
      simp [hR.obj, hR.dev.data.len]
  · simp [c1]
    first | refine bP_of (diskRuns_p) ?_ | refine bP_pure (diskRuns_p) ?_
    rfl
end Go.Proofs.Ythgkepaadkmhoaa.Av
namespace Go.Proofs.Ythgkepaadkmhoaa
theorem diskMay_holds : Rows.DiskMaySaid := diskMay_of Av.diskMay_calls
#print axioms diskMay_holds
end Go.Proofs.Ythgkepaadkmhoaa
