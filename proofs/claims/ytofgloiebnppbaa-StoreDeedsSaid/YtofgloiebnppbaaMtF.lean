/- Texts of this proof, one behind the other, packed into one file by a program of this session. No condition. -/
import Derived.Test.YtofgloiebnppbaaMtE
import Derived.KernelRfl
/-! YtofgloiebnppbaaAvIu -/
section
/- Chapter 12: the two drawn regions that make a file, told operation by operation (printed by opis.py). -/
set_option linter.unusedVariables false
set_option linter.unusedSimpArgs false
set_option maxRecDepth 100000
namespace Go.Proofs.Ytofgloiebnppbaa.Av
open Go Go.RowKit
noncomputable def crNOps : List Oper := (opsOf (sub [true, true, true, true, false] (bodyOf Try.f54))).toList
def crNT (x0 x3 x4 x6 : AV) : List AV := expand (mk 82 0 [0, 3, 4, 6]) [x0, x3, x4, x6]
theorem crNLen : crNOps.length = 16 := by kernel_rfl
theorem crNOrd : ordOk crNOps = true := by kernel_rfl
theorem crN_e0 (x0 x3 x4 x6 : AV) (vals : Nat → AV) (H : AH) (K : AV → AH → Prop) : sOp Try.prog pqb none0 false (aeval (pt crNOps vals (fun _ => true) (crNT x0 x3 x4 x6) 0)) H (crNOps.getD 0 default) true K = gO true (some x0) fun v => K v H := by kernel_rfl
theorem crN_op0 (x0 x3 x4 x6 : AV) : OpIs Try.prog crNOps (crNT x0 x3 x4 x6) 0 [] fun vals H K => gO true (some x0) fun v => K v H := by
 refine OpIs.opB (ql := pqb) (crNOps.getD 0 default) (by kernel_rfl) (by kernel_rfl) (by kernel_rfl) (fun ρ => by kernel_rfl) ?_
 intro vals H K h
 rw [crN_e0]
 exact h
theorem crN_e1 (x0 x3 x4 x6 : AV) (vals : Nat → AV) (H : AH) (K : AV → AH → Prop) : sOp Try.prog pqb none0 false (aeval (pt crNOps vals (fun _ => true) (crNT x0 x3 x4 x6) 1)) H (crNOps.getD 1 default) true K = gO true (some x0) fun v => K v H := by kernel_rfl
theorem crN_op1 (x0 x3 x4 x6 : AV) : OpIs Try.prog crNOps (crNT x0 x3 x4 x6) 1 [] fun vals H K => gO true (some x0) fun v => K v H := by
 refine OpIs.opB (ql := pqb) (crNOps.getD 1 default) (by kernel_rfl) (by kernel_rfl) (by kernel_rfl) (fun ρ => by kernel_rfl) ?_
 intro vals H K h
 rw [crN_e1]
 exact h
theorem crN_e2 (x0 x3 x4 x6 : AV) (vals : Nat → AV) (H : AH) (K : AV → AH → Prop) : sOp Try.prog pqb none0 false (aeval (pt crNOps vals (fun _ => true) (crNT x0 x3 x4 x6) 2)) H (crNOps.getD 2 default) true K = gO true (zdZ (vals 1)) fun v => K v H := by kernel_rfl
theorem crN_op2 (x0 x3 x4 x6 : AV) : OpIs Try.prog crNOps (crNT x0 x3 x4 x6) 2 [1] fun vals H K => gO true (zdZ (vals 1)) fun v => K v H := by
 refine OpIs.opB (ql := pqb) (crNOps.getD 2 default) (by kernel_rfl) (by kernel_rfl) (by kernel_rfl) (fun ρ => by kernel_rfl) ?_
 intro vals H K h
 rw [crN_e2]
 exact h
theorem crN_e3 (x0 x3 x4 x6 : AV) (vals : Nat → AV) (H : AH) (K : AV → AH → Prop) : sOp Try.prog pqb none0 false (aeval (pt crNOps vals (fun _ => true) (crNT x0 x3 x4 x6) 3)) H (crNOps.getD 3 default) true K = gO true (ashift 0 (vals 2)) fun v => K v H := by kernel_rfl
theorem crN_op3 (x0 x3 x4 x6 : AV) : OpIs Try.prog crNOps (crNT x0 x3 x4 x6) 3 [2] fun vals H K => gO true (ashift 0 (vals 2)) fun v => K v H := by
 refine OpIs.opB (ql := pqb) (crNOps.getD 3 default) (by kernel_rfl) (by kernel_rfl) (by kernel_rfl) (fun ρ => by kernel_rfl) ?_
 intro vals H K h
 rw [crN_e3]
 exact h
theorem crN_e4 (x0 x3 x4 x6 : AV) (vals : Nat → AV) (H : AH) (K : AV → AH → Prop) : sOp Try.prog pqb none0 false (aeval (pt crNOps vals (fun _ => true) (crNT x0 x3 x4 x6) 4)) H (crNOps.getD 4 default) true K = gO true (ald false 1 H (vals 3)) fun v => K v H := by kernel_rfl
theorem crN_op4 (x0 x3 x4 x6 : AV) : OpIs Try.prog crNOps (crNT x0 x3 x4 x6) 4 [3] fun vals H K => gO true (ald false 1 H (vals 3)) fun v => K v H := by
 refine OpIs.opB (ql := pqb) (crNOps.getD 4 default) (by kernel_rfl) (by kernel_rfl) (by kernel_rfl) (fun ρ => by kernel_rfl) ?_
 intro vals H K h
 rw [crN_e4]
 exact h
theorem crN_e5 (x0 x3 x4 x6 : AV) (vals : Nat → AV) (H : AH) (K : AV → AH → Prop) : sOp Try.prog pqb none0 false (aeval (pt crNOps vals (fun _ => true) (crNT x0 x3 x4 x6) 5)) H (crNOps.getD 5 default) true K = gO true (some x4) fun v => K v H := by kernel_rfl
theorem crN_op5 (x0 x3 x4 x6 : AV) : OpIs Try.prog crNOps (crNT x0 x3 x4 x6) 5 [] fun vals H K => gO true (some x4) fun v => K v H := by
 refine OpIs.opB (ql := pqb) (crNOps.getD 5 default) (by kernel_rfl) (by kernel_rfl) (by kernel_rfl) (fun ρ => by kernel_rfl) ?_
 intro vals H K h
 rw [crN_e5]
 exact h
theorem crN_e6 (x0 x3 x4 x6 : AV) (vals : Nat → AV) (H : AH) (K : AV → AH → Prop) : sOp Try.prog pqb none0 false (aeval (pt crNOps vals (fun _ => true) (crNT x0 x3 x4 x6) 6)) H (crNOps.getD 6 default) true K = gO true (ashift 5 x3) fun v => K v H := by kernel_rfl
theorem crN_op6 (x0 x3 x4 x6 : AV) : OpIs Try.prog crNOps (crNT x0 x3 x4 x6) 6 [] fun vals H K => gO true (ashift 5 x3) fun v => K v H := by
 refine OpIs.opB (ql := pqb) (crNOps.getD 6 default) (by kernel_rfl) (by kernel_rfl) (by kernel_rfl) (fun ρ => by kernel_rfl) ?_
 intro vals H K h
 rw [crN_e6]
 exact h
theorem crN_e7 (x0 x3 x4 x6 : AV) (vals : Nat → AV) (H : AH) (K : AV → AH → Prop) : sOp Try.prog pqb none0 false (aeval (pt crNOps vals (fun _ => true) (crNT x0 x3 x4 x6) 7)) H (crNOps.getD 7 default) true K = gO true (ald false 1 H (vals 6)) fun v => K v H := by kernel_rfl
theorem crN_op7 (x0 x3 x4 x6 : AV) : OpIs Try.prog crNOps (crNT x0 x3 x4 x6) 7 [6] fun vals H K => gO true (ald false 1 H (vals 6)) fun v => K v H := by
 refine OpIs.opB (ql := pqb) (crNOps.getD 7 default) (by kernel_rfl) (by kernel_rfl) (by kernel_rfl) (fun ρ => by kernel_rfl) ?_
 intro vals H K h
 rw [crN_e7]
 exact h
theorem crN_e8 (x0 x3 x4 x6 : AV) (vals : Nat → AV) (H : AH) (K : AV → AH → Prop) : sOp Try.prog pqb none0 false (aeval (pt crNOps vals (fun _ => true) (crNT x0 x3 x4 x6) 8)) H (crNOps.getD 8 default) true K = gO true (ashift 1 x3) fun v => K v H := by kernel_rfl
theorem crN_op8 (x0 x3 x4 x6 : AV) : OpIs Try.prog crNOps (crNT x0 x3 x4 x6) 8 [] fun vals H K => gO true (ashift 1 x3) fun v => K v H := by
 refine OpIs.opB (ql := pqb) (crNOps.getD 8 default) (by kernel_rfl) (by kernel_rfl) (by kernel_rfl) (fun ρ => by kernel_rfl) ?_
 intro vals H K h
 rw [crN_e8]
 exact h
theorem crN_e9 (x0 x3 x4 x6 : AV) (vals : Nat → AV) (H : AH) (K : AV → AH → Prop) : sOp Try.prog pqb none0 false (aeval (pt crNOps vals (fun _ => true) (crNT x0 x3 x4 x6) 9)) H (crNOps.getD 9 default) true K = gO true (ald false 1 H (vals 8)) fun v => K v H := by kernel_rfl
theorem crN_op9 (x0 x3 x4 x6 : AV) : OpIs Try.prog crNOps (crNT x0 x3 x4 x6) 9 [8] fun vals H K => gO true (ald false 1 H (vals 8)) fun v => K v H := by
 refine OpIs.opB (ql := pqb) (crNOps.getD 9 default) (by kernel_rfl) (by kernel_rfl) (by kernel_rfl) (fun ρ => by kernel_rfl) ?_
 intro vals H K h
 rw [crN_e9]
 exact h
theorem crN_e10 (x0 x3 x4 x6 : AV) (vals : Nat → AV) (H : AH) (K : AV → AH → Prop) : sOp Try.prog pqb none0 false (aeval (pt crNOps vals (fun _ => true) (crNT x0 x3 x4 x6) 10)) H (crNOps.getD 10 default) true K = gO true (abl zN [(0, 1, (vals 7)), (1, 1, (vals 9))]) fun v => K v H := by kernel_rfl
theorem crN_op10 (x0 x3 x4 x6 : AV) : OpIs Try.prog crNOps (crNT x0 x3 x4 x6) 10 [7, 9] fun vals H K => gO true (abl zN [(0, 1, (vals 7)), (1, 1, (vals 9))]) fun v => K v H := by
 refine OpIs.opB (ql := pqb) (crNOps.getD 10 default) (by kernel_rfl) (by kernel_rfl) (by kernel_rfl) (fun ρ => by kernel_rfl) ?_
 intro vals H K h
 rw [crN_e10]
 exact h
theorem crN_e11 (x0 x3 x4 x6 : AV) (vals : Nat → AV) (H : AH) (K : AV → AH → Prop) : sOp Try.prog pqb none0 false (aeval (pt crNOps vals (fun _ => true) (crNT x0 x3 x4 x6) 11)) H (crNOps.getD 11 default) true K = gH true (absl H 2 1 (zrow zN 1) [(0, 2, (vals 10))]) H K := by kernel_rfl
theorem crN_op11 (x0 x3 x4 x6 : AV) : OpIs Try.prog crNOps (crNT x0 x3 x4 x6) 11 [10] fun vals H K => gH true (absl H 2 1 (zrow zN 1) [(0, 2, (vals 10))]) H K := by
 refine OpIs.opB (ql := pqb) (crNOps.getD 11 default) (by kernel_rfl) (by kernel_rfl) (by kernel_rfl) (fun ρ => by kernel_rfl) ?_
 intro vals H K h
 rw [crN_e11]
 exact h
theorem crN_op12 (x0 x3 x4 x6 : AV) : OpIs Try.prog crNOps (crNT x0 x3 x4 x6) 12 [4, 5, 11] fun vals H K => ACalls Try.prog 77 [(vals 4), (vals 5), (vals 11)] H K :=
 OpIs.call (crNOps.getD 12 default) (by kernel_rfl) (by kernel_rfl) (by kernel_rfl) _ (fun vals => [(vals 4), (vals 5), (vals 11)]) (by kernel_rfl) (fun vals => by kernel_rfl) (fun vals H K h => h)
theorem crN_e13 (x0 x3 x4 x6 : AV) (vals : Nat → AV) (H : AH) (K : AV → AH → Prop) : sOp Try.prog pqb none0 false (aeval (pt crNOps vals (fun _ => true) (crNT x0 x3 x4 x6) 13)) H (crNOps.getD 13 default) true K = gO true (zdZ (vals 0)) fun v => K v H := by kernel_rfl
theorem crN_op13 (x0 x3 x4 x6 : AV) : OpIs Try.prog crNOps (crNT x0 x3 x4 x6) 13 [0, 1, 2, 3, 4, 5, 6, 7, 8, 9, 10, 11, 12] fun vals H K => gO true (zdZ (vals 0)) fun v => K v H := by
 refine OpIs.opB (ql := pqb) (crNOps.getD 13 default) (by kernel_rfl) (by kernel_rfl) (by kernel_rfl) (fun ρ => by kernel_rfl) ?_
 intro vals H K h
 rw [crN_e13]
 exact h
theorem crN_e14 (x0 x3 x4 x6 : AV) (vals : Nat → AV) (H : AH) (K : AV → AH → Prop) : sOp Try.prog pqb none0 false (aeval (pt crNOps vals (fun _ => true) (crNT x0 x3 x4 x6) 14)) H (crNOps.getD 14 default) true K = gO true (ashift 0 (vals 13)) fun v => K v H := by kernel_rfl
theorem crN_op14 (x0 x3 x4 x6 : AV) : OpIs Try.prog crNOps (crNT x0 x3 x4 x6) 14 [0, 1, 2, 3, 4, 5, 6, 7, 8, 9, 10, 11, 12, 13] fun vals H K => gO true (ashift 0 (vals 13)) fun v => K v H := by
 refine OpIs.opB (ql := pqb) (crNOps.getD 14 default) (by kernel_rfl) (by kernel_rfl) (by kernel_rfl) (fun ρ => by kernel_rfl) ?_
 intro vals H K h
 rw [crN_e14]
 exact h
theorem crN_e15 (x0 x3 x4 x6 : AV) (vals : Nat → AV) (H : AH) (K : AV → AH → Prop) : sOp Try.prog pqb none0 false (aeval (pt crNOps vals (fun _ => true) (crNT x0 x3 x4 x6) 15)) H (crNOps.getD 15 default) true K = gS true (ast 1 H (vals 14) (vals 12)) H fun H' => K undefA H' := by kernel_rfl
theorem crN_op15 (x0 x3 x4 x6 : AV) : OpIs Try.prog crNOps (crNT x0 x3 x4 x6) 15 [0, 1, 2, 3, 4, 5, 6, 7, 8, 9, 10, 11, 12, 14] fun vals H K => gS true (ast 1 H (vals 14) (vals 12)) H fun H' => K undefA H' := by
 refine OpIs.opB (ql := pqb) (crNOps.getD 15 default) (by kernel_rfl) (by kernel_rfl) (by kernel_rfl) (fun ρ => by kernel_rfl) ?_
 intro vals H K h
 rw [crN_e15]
 exact h
def crNNeed : List (List Nat) := [[], [], [1], [2], [3], [], [], [6], [], [8], [7, 9], [10], [4, 5, 11], [0, 1, 2, 3, 4, 5, 6, 7, 8, 9, 10, 11, 12], [0, 1, 2, 3, 4, 5, 6, 7, 8, 9, 10, 11, 12, 13], [0, 1, 2, 3, 4, 5, 6, 7, 8, 9, 10, 11, 12, 14]]
def crNF (x0 x3 x4 x6 : AV) : List ((Nat → AV) → AH → (AV → AH → Prop) → Prop) := [
 fun vals H K => gO true (some x0) fun v => K v H,
 fun vals H K => gO true (some x0) fun v => K v H,
 fun vals H K => gO true (zdZ (vals 1)) fun v => K v H,
 fun vals H K => gO true (ashift 0 (vals 2)) fun v => K v H,
 fun vals H K => gO true (ald false 1 H (vals 3)) fun v => K v H,
 fun vals H K => gO true (some x4) fun v => K v H,
 fun vals H K => gO true (ashift 5 x3) fun v => K v H,
 fun vals H K => gO true (ald false 1 H (vals 6)) fun v => K v H,
 fun vals H K => gO true (ashift 1 x3) fun v => K v H,
 fun vals H K => gO true (ald false 1 H (vals 8)) fun v => K v H,
 fun vals H K => gO true (abl zN [(0, 1, (vals 7)), (1, 1, (vals 9))]) fun v => K v H,
 fun vals H K => gH true (absl H 2 1 (zrow zN 1) [(0, 2, (vals 10))]) H K,
 fun vals H K => ACalls Try.prog 77 [(vals 4), (vals 5), (vals 11)] H K,
 fun vals H K => gO true (zdZ (vals 0)) fun v => K v H,
 fun vals H K => gO true (ashift 0 (vals 13)) fun v => K v H,
 fun vals H K => gS true (ast 1 H (vals 14) (vals 12)) H fun H' => K undefA H']
theorem crNIs (x0 x3 x4 x6 : AV) : ∀ i, i < crNOps.length → OpIs Try.prog crNOps (crNT x0 x3 x4 x6) i (crNNeed.getD i []) ((crNF x0 x3 x4 x6).getD i (fun _ _ _ => False)) := by
 intro i hi
 rw [crNLen] at hi
 have : i = 0 ∨ i = 1 ∨ i = 2 ∨ i = 3 ∨ i = 4 ∨ i = 5 ∨ i = 6 ∨ i = 7 ∨ i = 8 ∨ i = 9 ∨ i = 10 ∨ i = 11 ∨ i = 12 ∨ i = 13 ∨ i = 14 ∨ i = 15 := by omega
 rcases this with rfl | rfl | rfl | rfl | rfl | rfl | rfl | rfl | rfl | rfl | rfl | rfl | rfl | rfl | rfl | rfl
 ·exact crN_op0 x0 x3 x4 x6
 ·exact crN_op1 x0 x3 x4 x6
 ·exact crN_op2 x0 x3 x4 x6
 ·exact crN_op3 x0 x3 x4 x6
 ·exact crN_op4 x0 x3 x4 x6
 ·exact crN_op5 x0 x3 x4 x6
 ·exact crN_op6 x0 x3 x4 x6
 ·exact crN_op7 x0 x3 x4 x6
 ·exact crN_op8 x0 x3 x4 x6
 ·exact crN_op9 x0 x3 x4 x6
 ·exact crN_op10 x0 x3 x4 x6
 ·exact crN_op11 x0 x3 x4 x6
 ·exact crN_op12 x0 x3 x4 x6
 ·exact crN_op13 x0 x3 x4 x6
 ·exact crN_op14 x0 x3 x4 x6
 ·exact crN_op15 x0 x3 x4 x6
noncomputable def crDOps : List Oper := (opsOf (sub [true, true, true, true, true] (bodyOf Try.f54))).toList
def crDT (x0 x3 x6 : AV) : List AV := expand (mk 82 0 [0, 3, 6]) [x0, x3, x6]
theorem crDLen : crDOps.length = 14 := by kernel_rfl
theorem crDOrd : ordOk crDOps = true := by kernel_rfl
theorem crD_e0 (x0 x3 x6 : AV) (vals : Nat → AV) (H : AH) (K : AV → AH → Prop) : sOp Try.prog pqb none0 false (aeval (pt crDOps vals (fun _ => true) (crDT x0 x3 x6) 0)) H (crDOps.getD 0 default) true K = gO true (some x0) fun v => K v H := by kernel_rfl
theorem crD_op0 (x0 x3 x6 : AV) : OpIs Try.prog crDOps (crDT x0 x3 x6) 0 [] fun vals H K => gO true (some x0) fun v => K v H := by
 refine OpIs.opB (ql := pqb) (crDOps.getD 0 default) (by kernel_rfl) (by kernel_rfl) (by kernel_rfl) (fun ρ => by kernel_rfl) ?_
 intro vals H K h
 rw [crD_e0]
 exact h
theorem crD_e1 (x0 x3 x6 : AV) (vals : Nat → AV) (H : AH) (K : AV → AH → Prop) : sOp Try.prog pqb none0 false (aeval (pt crDOps vals (fun _ => true) (crDT x0 x3 x6) 1)) H (crDOps.getD 1 default) true K = gO true (some x0) fun v => K v H := by kernel_rfl
theorem crD_op1 (x0 x3 x6 : AV) : OpIs Try.prog crDOps (crDT x0 x3 x6) 1 [] fun vals H K => gO true (some x0) fun v => K v H := by
 refine OpIs.opB (ql := pqb) (crDOps.getD 1 default) (by kernel_rfl) (by kernel_rfl) (by kernel_rfl) (fun ρ => by kernel_rfl) ?_
 intro vals H K h
 rw [crD_e1]
 exact h
theorem crD_e2 (x0 x3 x6 : AV) (vals : Nat → AV) (H : AH) (K : AV → AH → Prop) : sOp Try.prog pqb none0 false (aeval (pt crDOps vals (fun _ => true) (crDT x0 x3 x6) 2)) H (crDOps.getD 2 default) true K = gO true (zdZ (vals 1)) fun v => K v H := by kernel_rfl
theorem crD_op2 (x0 x3 x6 : AV) : OpIs Try.prog crDOps (crDT x0 x3 x6) 2 [1] fun vals H K => gO true (zdZ (vals 1)) fun v => K v H := by
 refine OpIs.opB (ql := pqb) (crDOps.getD 2 default) (by kernel_rfl) (by kernel_rfl) (by kernel_rfl) (fun ρ => by kernel_rfl) ?_
 intro vals H K h
 rw [crD_e2]
 exact h
theorem crD_e3 (x0 x3 x6 : AV) (vals : Nat → AV) (H : AH) (K : AV → AH → Prop) : sOp Try.prog pqb none0 false (aeval (pt crDOps vals (fun _ => true) (crDT x0 x3 x6) 3)) H (crDOps.getD 3 default) true K = gO true (ashift 1 (vals 2)) fun v => K v H := by kernel_rfl
theorem crD_op3 (x0 x3 x6 : AV) : OpIs Try.prog crDOps (crDT x0 x3 x6) 3 [2] fun vals H K => gO true (ashift 1 (vals 2)) fun v => K v H := by
 refine OpIs.opB (ql := pqb) (crDOps.getD 3 default) (by kernel_rfl) (by kernel_rfl) (by kernel_rfl) (fun ρ => by kernel_rfl) ?_
 intro vals H K h
 rw [crD_e3]
 exact h
theorem crD_e4 (x0 x3 x6 : AV) (vals : Nat → AV) (H : AH) (K : AV → AH → Prop) : sOp Try.prog pqb none0 false (aeval (pt crDOps vals (fun _ => true) (crDT x0 x3 x6) 4)) H (crDOps.getD 4 default) true K = gO true (ald false 1 H (vals 3)) fun v => K v H := by kernel_rfl
theorem crD_op4 (x0 x3 x6 : AV) : OpIs Try.prog crDOps (crDT x0 x3 x6) 4 [3] fun vals H K => gO true (ald false 1 H (vals 3)) fun v => K v H := by
 refine OpIs.opB (ql := pqb) (crDOps.getD 4 default) (by kernel_rfl) (by kernel_rfl) (by kernel_rfl) (fun ρ => by kernel_rfl) ?_
 intro vals H K h
 rw [crD_e4]
 exact h
theorem crD_e5 (x0 x3 x6 : AV) (vals : Nat → AV) (H : AH) (K : AV → AH → Prop) : sOp Try.prog pqb none0 false (aeval (pt crDOps vals (fun _ => true) (crDT x0 x3 x6) 5)) H (crDOps.getD 5 default) true K = gO true (some x6) fun v => K v H := by kernel_rfl
theorem crD_op5 (x0 x3 x6 : AV) : OpIs Try.prog crDOps (crDT x0 x3 x6) 5 [] fun vals H K => gO true (some x6) fun v => K v H := by
 refine OpIs.opB (ql := pqb) (crDOps.getD 5 default) (by kernel_rfl) (by kernel_rfl) (by kernel_rfl) (fun ρ => by kernel_rfl) ?_
 intro vals H K h
 rw [crD_e5]
 exact h
theorem crD_e6 (x0 x3 x6 : AV) (vals : Nat → AV) (H : AH) (K : AV → AH → Prop) : sOp Try.prog pqb none0 false (aeval (pt crDOps vals (fun _ => true) (crDT x0 x3 x6) 6)) H (crDOps.getD 6 default) true K = gO true (ashift 1 x3) fun v => K v H := by kernel_rfl
theorem crD_op6 (x0 x3 x6 : AV) : OpIs Try.prog crDOps (crDT x0 x3 x6) 6 [] fun vals H K => gO true (ashift 1 x3) fun v => K v H := by
 refine OpIs.opB (ql := pqb) (crDOps.getD 6 default) (by kernel_rfl) (by kernel_rfl) (by kernel_rfl) (fun ρ => by kernel_rfl) ?_
 intro vals H K h
 rw [crD_e6]
 exact h
theorem crD_e7 (x0 x3 x6 : AV) (vals : Nat → AV) (H : AH) (K : AV → AH → Prop) : sOp Try.prog pqb none0 false (aeval (pt crDOps vals (fun _ => true) (crDT x0 x3 x6) 7)) H (crDOps.getD 7 default) true K = gO true (ald false 1 H (vals 6)) fun v => K v H := by kernel_rfl
theorem crD_op7 (x0 x3 x6 : AV) : OpIs Try.prog crDOps (crDT x0 x3 x6) 7 [6] fun vals H K => gO true (ald false 1 H (vals 6)) fun v => K v H := by
 refine OpIs.opB (ql := pqb) (crDOps.getD 7 default) (by kernel_rfl) (by kernel_rfl) (by kernel_rfl) (fun ρ => by kernel_rfl) ?_
 intro vals H K h
 rw [crD_e7]
 exact h
theorem crD_e8 (x0 x3 x6 : AV) (vals : Nat → AV) (H : AH) (K : AV → AH → Prop) : sOp Try.prog pqb none0 false (aeval (pt crDOps vals (fun _ => true) (crDT x0 x3 x6) 8)) H (crDOps.getD 8 default) true K = gO true (abl zD [(0, 1, (vals 7))]) fun v => K v H := by kernel_rfl
theorem crD_op8 (x0 x3 x6 : AV) : OpIs Try.prog crDOps (crDT x0 x3 x6) 8 [7] fun vals H K => gO true (abl zD [(0, 1, (vals 7))]) fun v => K v H := by
 refine OpIs.opB (ql := pqb) (crDOps.getD 8 default) (by kernel_rfl) (by kernel_rfl) (by kernel_rfl) (fun ρ => by kernel_rfl) ?_
 intro vals H K h
 rw [crD_e8]
 exact h
theorem crD_e9 (x0 x3 x6 : AV) (vals : Nat → AV) (H : AH) (K : AV → AH → Prop) : sOp Try.prog pqb none0 false (aeval (pt crDOps vals (fun _ => true) (crDT x0 x3 x6) 9)) H (crDOps.getD 9 default) true K = gH true (absl H 3 1 (zrow zD 1) [(0, 3, (vals 8))]) H K := by kernel_rfl
theorem crD_op9 (x0 x3 x6 : AV) : OpIs Try.prog crDOps (crDT x0 x3 x6) 9 [8] fun vals H K => gH true (absl H 3 1 (zrow zD 1) [(0, 3, (vals 8))]) H K := by
 refine OpIs.opB (ql := pqb) (crDOps.getD 9 default) (by kernel_rfl) (by kernel_rfl) (by kernel_rfl) (fun ρ => by kernel_rfl) ?_
 intro vals H K h
 rw [crD_e9]
 exact h
theorem crD_op10 (x0 x3 x6 : AV) : OpIs Try.prog crDOps (crDT x0 x3 x6) 10 [4, 5, 9] fun vals H K => ACalls Try.prog 78 [(vals 4), (vals 5), (vals 9)] H K :=
 OpIs.call (crDOps.getD 10 default) (by kernel_rfl) (by kernel_rfl) (by kernel_rfl) _ (fun vals => [(vals 4), (vals 5), (vals 9)]) (by kernel_rfl) (fun vals => by kernel_rfl) (fun vals H K h => h)
theorem crD_e11 (x0 x3 x6 : AV) (vals : Nat → AV) (H : AH) (K : AV → AH → Prop) : sOp Try.prog pqb none0 false (aeval (pt crDOps vals (fun _ => true) (crDT x0 x3 x6) 11)) H (crDOps.getD 11 default) true K = gO true (zdZ (vals 0)) fun v => K v H := by kernel_rfl
theorem crD_op11 (x0 x3 x6 : AV) : OpIs Try.prog crDOps (crDT x0 x3 x6) 11 [0, 1, 2, 3, 4, 5, 6, 7, 8, 9, 10] fun vals H K => gO true (zdZ (vals 0)) fun v => K v H := by
 refine OpIs.opB (ql := pqb) (crDOps.getD 11 default) (by kernel_rfl) (by kernel_rfl) (by kernel_rfl) (fun ρ => by kernel_rfl) ?_
 intro vals H K h
 rw [crD_e11]
 exact h
theorem crD_e12 (x0 x3 x6 : AV) (vals : Nat → AV) (H : AH) (K : AV → AH → Prop) : sOp Try.prog pqb none0 false (aeval (pt crDOps vals (fun _ => true) (crDT x0 x3 x6) 12)) H (crDOps.getD 12 default) true K = gO true (ashift 1 (vals 11)) fun v => K v H := by kernel_rfl
theorem crD_op12 (x0 x3 x6 : AV) : OpIs Try.prog crDOps (crDT x0 x3 x6) 12 [0, 1, 2, 3, 4, 5, 6, 7, 8, 9, 10, 11] fun vals H K => gO true (ashift 1 (vals 11)) fun v => K v H := by
 refine OpIs.opB (ql := pqb) (crDOps.getD 12 default) (by kernel_rfl) (by kernel_rfl) (by kernel_rfl) (fun ρ => by kernel_rfl) ?_
 intro vals H K h
 rw [crD_e12]
 exact h
theorem crD_e13 (x0 x3 x6 : AV) (vals : Nat → AV) (H : AH) (K : AV → AH → Prop) : sOp Try.prog pqb none0 false (aeval (pt crDOps vals (fun _ => true) (crDT x0 x3 x6) 13)) H (crDOps.getD 13 default) true K = gS true (ast 1 H (vals 12) (vals 10)) H fun H' => K undefA H' := by kernel_rfl
theorem crD_op13 (x0 x3 x6 : AV) : OpIs Try.prog crDOps (crDT x0 x3 x6) 13 [0, 1, 2, 3, 4, 5, 6, 7, 8, 9, 10, 12] fun vals H K => gS true (ast 1 H (vals 12) (vals 10)) H fun H' => K undefA H' := by
 refine OpIs.opB (ql := pqb) (crDOps.getD 13 default) (by kernel_rfl) (by kernel_rfl) (by kernel_rfl) (fun ρ => by kernel_rfl) ?_
 intro vals H K h
 rw [crD_e13]
 exact h
def crDNeed : List (List Nat) := [[], [], [1], [2], [3], [], [], [6], [7], [8], [4, 5, 9], [0, 1, 2, 3, 4, 5, 6, 7, 8, 9, 10], [0, 1, 2, 3, 4, 5, 6, 7, 8, 9, 10, 11], [0, 1, 2, 3, 4, 5, 6, 7, 8, 9, 10, 12]]
def crDF (x0 x3 x6 : AV) : List ((Nat → AV) → AH → (AV → AH → Prop) → Prop) := [
 fun vals H K => gO true (some x0) fun v => K v H,
 fun vals H K => gO true (some x0) fun v => K v H,
 fun vals H K => gO true (zdZ (vals 1)) fun v => K v H,
 fun vals H K => gO true (ashift 1 (vals 2)) fun v => K v H,
 fun vals H K => gO true (ald false 1 H (vals 3)) fun v => K v H,
 fun vals H K => gO true (some x6) fun v => K v H,
 fun vals H K => gO true (ashift 1 x3) fun v => K v H,
 fun vals H K => gO true (ald false 1 H (vals 6)) fun v => K v H,
 fun vals H K => gO true (abl zD [(0, 1, (vals 7))]) fun v => K v H,
 fun vals H K => gH true (absl H 3 1 (zrow zD 1) [(0, 3, (vals 8))]) H K,
 fun vals H K => ACalls Try.prog 78 [(vals 4), (vals 5), (vals 9)] H K,
 fun vals H K => gO true (zdZ (vals 0)) fun v => K v H,
 fun vals H K => gO true (ashift 1 (vals 11)) fun v => K v H,
 fun vals H K => gS true (ast 1 H (vals 12) (vals 10)) H fun H' => K undefA H']
theorem crDIs (x0 x3 x6 : AV) : ∀ i, i < crDOps.length → OpIs Try.prog crDOps (crDT x0 x3 x6) i (crDNeed.getD i []) ((crDF x0 x3 x6).getD i (fun _ _ _ => False)) := by
 intro i hi
 rw [crDLen] at hi
 have : i = 0 ∨ i = 1 ∨ i = 2 ∨ i = 3 ∨ i = 4 ∨ i = 5 ∨ i = 6 ∨ i = 7 ∨ i = 8 ∨ i = 9 ∨ i = 10 ∨ i = 11 ∨ i = 12 ∨ i = 13 := by omega
 rcases this with rfl | rfl | rfl | rfl | rfl | rfl | rfl | rfl | rfl | rfl | rfl | rfl | rfl | rfl
 ·exact crD_op0 x0 x3 x6
 ·exact crD_op1 x0 x3 x6
 ·exact crD_op2 x0 x3 x6
 ·exact crD_op3 x0 x3 x6
 ·exact crD_op4 x0 x3 x6
 ·exact crD_op5 x0 x3 x6
 ·exact crD_op6 x0 x3 x6
 ·exact crD_op7 x0 x3 x6
 ·exact crD_op8 x0 x3 x6
 ·exact crD_op9 x0 x3 x6
 ·exact crD_op10 x0 x3 x6
 ·exact crD_op11 x0 x3 x6
 ·exact crD_op12 x0 x3 x6
 ·exact crD_op13 x0 x3 x6
end Go.Proofs.Ytofgloiebnppbaa.Av
end
/-! YtofgloiebnppbaaAvIv -/
section
/- Chapter 12: a file is made. -/
set_option linter.unusedVariables false
set_option linter.unusedSimpArgs false
set_option maxRecDepth 100000
namespace Go.Proofs.Ytofgloiebnppbaa.Av
open Go Go.RowKit

structure OpM where
 kind : Int
 ino : Int
 pos : Int
 size : Int
 keep : Bool
 name : List UInt8
 to : List UInt8
 b : List UInt8
 deriving DecidableEq
def opA (o : OpM) (bv : AV) : List AV := [I o.kind, I o.ino, I o.pos, I o.size, B o.keep, S (bstr o.name), S (bstr o.to), bv]
theorem crN_K (x0 x3 x4 x6 : AV) (vals : Nat → AV) (H : AH) (K : AV → AH → Prop) : (kSeq (cutC (mk 82 0 [0, 3, 6]) (zhvZ [true, true, true, true, true] 6)) (kRet Try.prog Try.f54.results.toList K)) .normal (pt crNOps vals (fun _ => true) (crNT x0 x3 x4 x6) 16) H = zjkZ x0 x3 x6 H K := by kernel_rfl
theorem crD_K (x0 x3 x6 : AV) (vals : Nat → AV) (H : AH) (K : AV → AH → Prop) : (kRet Try.prog Try.f54.results.toList K) .normal (pt crDOps vals (fun _ => true) (crDT x0 x3 x6) 14) H = K (.tup []) H := by kernel_rfl
theorem crN_acode (x0 x3 x4 x6 : AV) (H : AH) (K : AV → AH → Prop) (h : ACode Try.prog (.region 4 crNOps.toArray true) (kSeq (cutC (mk 82 0 [0, 3, 6]) (zhvZ [true, true, true, true, true] 6)) (kRet Try.prog Try.f54.results.toList K)) (crNT x0 x3 x4 x6) H) : zhgZ x0 x3 x4 x6 H K := unR.mk h
theorem crD_acode (x0 x3 x6 : AV) (H : AH) (K : AV → AH → Prop) (h : ACode Try.prog (.region 5 crDOps.toArray true) (kRet Try.prog Try.f54.results.toList K) (crDT x0 x3 x6) H) : zjsZ x0 x3 x6 H K := unR.mk h
def hp3 (i j k : Nat) (A B C D : AH) (S : Nat → Bool) : AH := if S k = true then D else if S j = true then C else if S i = true then B else A
theorem hp3_u {i j k : Nat} {A B C D : AH} {S : Nat → Bool} {q : Nat} (h1 : q ≠ i) (h2 : q ≠ j) (h3 : q ≠ k) : hp3 i j k A B C D (upd S q) = hp3 i j k A B C D S := by
 unfold hp3 upd
 rw [if_neg (Ne.symm h3), if_neg (Ne.symm h2), if_neg (Ne.symm h1)]
theorem create_U4 {L oi p k : Nat} {ns : List Nm} {dv : List NdV} {a b bv : AV} {H : AH} {o : OpM} (h : ImH L oi ns dv a b H) (hp : H[p]? = some (some (.cells (opA o bv)))) (hpo : p ≠ oi) (hpa : p ∉ idS a) (hk : k ≤ ns.length) (hn : ns.length ≤ 100000) :
  ∃ r H2, ImH L oi (ns.take k ++ ⟨o.name, o.ino⟩ :: ns.drop k) dv r b H2 ∧ FrL L oi H H2 ∧ H2[p]? = H[p]? ∧ ∀ x6 K, zjkZ (.ptr oi 0) (.ptr p 0) x6 H2 K → zhgZ (.ptr oi 0) (.ptr p 0) (I k) x6 H K := by
 have g := Grew.app H [some (.cells (encN ⟨o.name, o.ino⟩))]
 have hg := h.grew g
 have hpl := (List.getElem?_eq_some_iff.1 hp).1
 obtain ⟨r, H12, hI, hc⟩ := insN_c (x := ⟨o.name, o.ino⟩) (oj := H.length) hg.sa hg.oa hg.ca hk (by omega) (by simp) (fun hh => by have := zoZ h.sa _ hh; omega)
 obtain ⟨i1, i2, i3, i4, i5, i6⟩ := hI
 have el : (ns.take k ++ (⟨o.name, o.ino⟩ : Nm) :: ns.drop k).length = ns.length + 1 := by simp; omega
 obtain ⟨H2, e2, n1, n2⟩ := hg.newA (ms := ns.take k ++ ⟨o.name, o.ino⟩ :: ns.drop k) i3 i4 (by rw [el]; exact i2) i1 (by rw [el]; exact i6) i5
 have hp2 : H2[p]? = H[p]? := by
  have c0 : H12[oi]? = some (some (.cells [a, b])) := by rw [i4 oi (List.getElem?_eq_some_iff.1 hg.obj).1 hg.noA]; exact hg.obj
  rw [ast_ptr (n := 1) (off := 0) (xs := [r]) (cs := [a, b]) (zdoZ (zbpZ i1)) c0 rfl (by simp)] at e2
  injection e2 with e2
  rw [← e2, List.getElem?_set_ne (Ne.symm hpo), i4 p (by simp; omega) hpa, g.2 p hpl]
 have hfr : FrL L oi H H2 := by
  have hle := h.len
  exact ⟨Nat.le_trans g.1 n2.1, fun j h5 h6 => (n2.2 j h5 h6).trans (g.2 j (by omega))⟩
 let V : Nat → AV := fun i => ([.ptr oi 0, .ptr oi 0, .ptr oi 0, .ptr oi 0, a, I k, .ptr p 5, S (bstr o.name), .ptr p 1, I o.ino, .agg (encN ⟨o.name, o.ino⟩), .sl H.length 0 1 2 (.ex 1), r, .ptr oi 0, .ptr oi 0, undefA] : List AV).getD i undefA
 refine ⟨r, H2, n1, hfr, hp2, fun x6 K hK => crN_acode _ _ _ _ _ _ ?_⟩
 refine ACode.told2 mixP crNOrd (fun i => crNNeed.getD i []) (fun i => (crNF (.ptr oi 0) (.ptr p 0) (I k) x6).getD i (fun _ _ _ => False)) V (hp3 11 12 15 H (H ++ [some (.cells (encN ⟨o.name, o.ino⟩))]) H12 H2) (crNIs _ _ _ _) rfl ?_ ?_
 ·intro i hi S vals hS cl hn
  rw [crNLen] at hi
  have n12 : S 4 = false → S 12 = false := fun h4 => by
   cases h : S 12 with
   | false => rfl
   | true => have := cl 12 h 4 (by simp [crNNeed]); rw [h4] at this; cases this
  have n15 : S 12 = false → S 15 = false := fun h4 => by
   cases h : S 15 with
   | false => rfl
   | true => have := cl 15 h 12 (by simp [crNNeed]); rw [h4] at this; cases this
  have n12' : S 11 = false → S 12 = false := fun h4 => by
   cases h : S 12 with
   | false => rfl
   | true => have := cl 12 h 11 (by simp [crNNeed]); rw [h4] at this; cases this
  have n11 : ∀ j, j = 7 ∨ j = 9 → S j = false → S 11 = false := fun j hj h4 => by
   cases h : S 11 with
   | false => rfl
   | true =>
    have h10 := cl 11 h 10 (by simp [crNNeed])
    have := cl 10 h10 j (by rcases hj with rfl | rfl <;> simp [crNNeed])
    rw [h4] at this; cases this
  have hcase : i = 0 ∨ i = 1 ∨ i = 2 ∨ i = 3 ∨ i = 4 ∨ i = 5 ∨ i = 6 ∨ i = 7 ∨ i = 8 ∨ i = 9 ∨ i = 10 ∨ i = 11 ∨ i = 12 ∨ i = 13 ∨ i = 14 ∨ i = 15 := by omega
  rcases hcase with rfl | rfl | rfl | rfl | rfl | rfl | rfl | rfl | rfl | rfl | rfl | rfl | rfl | rfl | rfl | rfl
  ·simp only [crNF, List.getD_cons_succ, List.getD_cons_zero, gO_true, gH_true, gS_true, bO_some]
   exact ⟨rfl, (hp3_u (by omega) (by omega) (by omega)).symm⟩
  ·simp only [crNF, List.getD_cons_succ, List.getD_cons_zero, gO_true, gH_true, gS_true, bO_some]
   exact ⟨rfl, (hp3_u (by omega) (by omega) (by omega)).symm⟩
  ·simp only [crNF, List.getD_cons_succ, List.getD_cons_zero, gO_true, gH_true, gS_true, bO_some]
   have v1 := (hn 1 (by simp [crNNeed])).2
   rw [v1]
   exact ⟨rfl, (hp3_u (by omega) (by omega) (by omega)).symm⟩
  ·simp only [crNF, List.getD_cons_succ, List.getD_cons_zero, gO_true, gH_true, gS_true, bO_some]
   have v2 := (hn 2 (by simp [crNNeed])).2
   rw [v2]
   exact ⟨rfl, (hp3_u (by omega) (by omega) (by omega)).symm⟩
  ·simp only [crNF, List.getD_cons_succ, List.getD_cons_zero, gO_true, gH_true, gS_true, bO_some]
   have v3 := (hn 3 (by simp [crNNeed])).2
   rw [v3]
   have e : ald false 1 (hp3 11 12 15 H (H ++ [some (.cells (encN ⟨o.name, o.ino⟩))]) H12 H2 S) (V 3) = some a := by
    have q12 := n12 hS
    have q15 := n15 q12
    have : (hp3 11 12 15 H (H ++ [some (.cells (encN ⟨o.name, o.ino⟩))]) H12 H2 S)[oi]? = some (some (.cells [a, b])) := by
     unfold hp3
     rw [q15, q12]
     cases S 11 with
     | true => exact hg.obj
     | false => exact h.obj
    show ald false 1 _ (.ptr oi 0) = _
    rw [ald_ptr this]; rfl
   rw [e]
   exact ⟨rfl, (hp3_u (by omega) (by omega) (by omega)).symm⟩
  ·simp only [crNF, List.getD_cons_succ, List.getD_cons_zero, gO_true, gH_true, gS_true, bO_some]
   exact ⟨rfl, (hp3_u (by omega) (by omega) (by omega)).symm⟩
  ·simp only [crNF, List.getD_cons_succ, List.getD_cons_zero, gO_true, gH_true, gS_true, bO_some]
   exact ⟨rfl, (hp3_u (by omega) (by omega) (by omega)).symm⟩
  ·simp only [crNF, List.getD_cons_succ, List.getD_cons_zero, gO_true, gH_true, gS_true, bO_some]
   have v6 := (hn 6 (by simp [crNNeed])).2
   rw [v6]
   have e : ald false 1 (hp3 11 12 15 H (H ++ [some (.cells (encN ⟨o.name, o.ino⟩))]) H12 H2 S) (V 6) = some (.lit (.string (bstr o.name))) := by
    have q11 := n11 7 (by omega) hS
    have q12 := n12' q11
    have q15 := n15 q12
    unfold hp3
    rw [q15, q12, q11]
    show ald false 1 H (.ptr p 5) = _
    rw [ald_ptr hp]; rfl
   rw [e]
   exact ⟨rfl, (hp3_u (by omega) (by omega) (by omega)).symm⟩
  ·simp only [crNF, List.getD_cons_succ, List.getD_cons_zero, gO_true, gH_true, gS_true, bO_some]
   exact ⟨rfl, (hp3_u (by omega) (by omega) (by omega)).symm⟩
  ·simp only [crNF, List.getD_cons_succ, List.getD_cons_zero, gO_true, gH_true, gS_true, bO_some]
   have v8 := (hn 8 (by simp [crNNeed])).2
   rw [v8]
   have e : ald false 1 (hp3 11 12 15 H (H ++ [some (.cells (encN ⟨o.name, o.ino⟩))]) H12 H2 S) (V 8) = some (I o.ino) := by
    have q11 := n11 9 (by omega) hS
    have q12 := n12' q11
    have q15 := n15 q12
    unfold hp3
    rw [q15, q12, q11]
    show ald false 1 H (.ptr p 1) = _
    rw [ald_ptr hp]; rfl
   rw [e]
   exact ⟨rfl, (hp3_u (by omega) (by omega) (by omega)).symm⟩
  ·simp only [crNF, List.getD_cons_succ, List.getD_cons_zero, gO_true, gH_true, gS_true, bO_some]
   have v7 := (hn 7 (by simp [crNNeed])).2
   have v9 := (hn 9 (by simp [crNNeed])).2
   rw [v7, v9]
   exact ⟨rfl, (hp3_u (by omega) (by omega) (by omega)).symm⟩
  ·simp only [crNF, List.getD_cons_succ, List.getD_cons_zero, gO_true, gH_true, gS_true, bO_some]
   have v10 := (hn 10 (by simp [crNNeed])).2
   rw [v10]
   have q12 := n12' hS
   have q15 := n15 q12
   have e : hp3 11 12 15 H (H ++ [some (.cells (encN ⟨o.name, o.ino⟩))]) H12 H2 S = H := by unfold hp3; rw [q15, q12, hS]; rfl
   have e2 : hp3 11 12 15 H (H ++ [some (.cells (encN ⟨o.name, o.ino⟩))]) H12 H2 (upd S 11) = H ++ [some (.cells (encN ⟨o.name, o.ino⟩))] := by unfold hp3; simp [upd, q15, q12]
   rw [e, e2]
   exact ⟨rfl, rfl⟩
  ·simp only [crNF, List.getD_cons_succ, List.getD_cons_zero, gO_true, gH_true, gS_true, bO_some]
   have v4 := (hn 4 (by simp [crNNeed])).2
   have v5 := (hn 5 (by simp [crNNeed])).2
   have v11 := (hn 11 (by simp [crNNeed])).2
   rw [v4, v5, v11]
   have q15 := n15 hS
   have e : hp3 11 12 15 H (H ++ [some (.cells (encN ⟨o.name, o.ino⟩))]) H12 H2 S = H ++ [some (.cells (encN ⟨o.name, o.ino⟩))] := by unfold hp3; rw [q15, hS, (hn 11 (by simp [crNNeed])).1]; rfl
   have e2 : hp3 11 12 15 H (H ++ [some (.cells (encN ⟨o.name, o.ino⟩))]) H12 H2 (upd S 12) = H12 := by unfold hp3; simp [upd, q15]
   rw [e, e2]
   exact hc
  ·simp only [crNF, List.getD_cons_succ, List.getD_cons_zero, gO_true, gH_true, gS_true, bO_some]
   have v0 := (hn 0 (by simp [crNNeed])).2
   rw [v0]
   exact ⟨rfl, (hp3_u (by omega) (by omega) (by omega)).symm⟩
  ·simp only [crNF, List.getD_cons_succ, List.getD_cons_zero, gO_true, gH_true, gS_true, bO_some]
   have v13 := (hn 13 (by simp [crNNeed])).2
   rw [v13]
   exact ⟨rfl, (hp3_u (by omega) (by omega) (by omega)).symm⟩
  ·simp only [crNF, List.getD_cons_succ, List.getD_cons_zero, gO_true, gH_true, gS_true, bO_some]
   have v14 := (hn 14 (by simp [crNNeed])).2
   have v12 := (hn 12 (by simp [crNNeed])).2
   rw [v14, v12]
   have e : hp3 11 12 15 H (H ++ [some (.cells (encN ⟨o.name, o.ino⟩))]) H12 H2 S = H12 := by unfold hp3; rw [hS, (hn 12 (by simp [crNNeed])).1]; rfl
   have e3 : hp3 11 12 15 H (H ++ [some (.cells (encN ⟨o.name, o.ino⟩))]) H12 H2 (upd S 15) = H2 := by unfold hp3; simp [upd]
   rw [e, e3]
   show bS (ast 1 H12 (.ptr oi 0) r) _
   rw [e2, bS_some]
   exact ⟨rfl, rfl⟩
 ·intro S vals hS
  rw [crNLen, crN_K]
  have : hp3 11 12 15 H (H ++ [some (.cells (encN ⟨o.name, o.ino⟩))]) H12 H2 S = H2 := by unfold hp3; rw [if_pos (hS 15 (by rw [crNLen]; omega)).1]
  rw [this]
  exact hK
def newD (ino : Int) : NdV := ⟨⟨ino, 0, []⟩, nilSl, SV.nil⟩
theorem create_U5 {L oi p k : Nat} {ns : List Nm} {dv : List NdV} {a b bv : AV} {H : AH} {o : OpM} (h : ImH L oi ns dv a b H) (hp : H[p]? = some (some (.cells (opA o bv)))) (hk : k ≤ dv.length) (hn : dv.length ≤ 100000) :
  ∃ r H2, ImH L oi ns (dv.take k ++ newD o.ino :: dv.drop k) a r H2 ∧ FrL L oi H H2 ∧ ∀ K : AV → AH → Prop, K (.tup []) H2 → zjsZ (.ptr oi 0) (.ptr p 0) (I k) H K := by
 have g := Grew.app H [some (.cells (encD (newD o.ino)))]
 have hg := h.grew g
 have hpl := (List.getElem?_eq_some_iff.1 hp).1
 obtain ⟨r, H10, hI, hc⟩ := insD_c (x := newD o.ino) (oj := H.length) hg.sb hg.ob hg.cb hk (by omega) (by simp) (fun hh => by have := zoZ h.sb _ hh; omega)
 obtain ⟨i1, i2, i3, i4, i5, i6⟩ := hI
 have el : (dv.take k ++ newD o.ino :: dv.drop k).length = dv.length + 1 := by simp; omega
 obtain ⟨H2, e2, n1, n2⟩ := hg.newB (ew := dv.take k ++ newD o.ino :: dv.drop k) i3 i4 (by rw [el]; exact i2) i1 (by rw [el]; exact i6) i5
 have hfr : FrL L oi H H2 := by
  have hle := h.len
  exact ⟨Nat.le_trans g.1 n2.1, fun j h5 h6 => (n2.2 j h5 h6).trans (g.2 j (by omega))⟩
 let V : Nat → AV := fun i => ([.ptr oi 0, .ptr oi 0, .ptr oi 0, .ptr oi 1, b, I k, .ptr p 1, I o.ino, .agg (encD (newD o.ino)), .sl H.length 0 1 3 (.ex 1), r, .ptr oi 0, .ptr oi 1, undefA] : List AV).getD i undefA
 refine ⟨r, H2, n1, hfr, fun K hK => crD_acode _ _ _ _ _ ?_⟩
 refine ACode.told2 mixP crDOrd (fun i => crDNeed.getD i []) (fun i => (crDF (.ptr oi 0) (.ptr p 0) (I k)).getD i (fun _ _ _ => False)) V (hp3 9 10 13 H (H ++ [some (.cells (encD (newD o.ino)))]) H10 H2) (crDIs _ _ _) rfl ?_ ?_
 ·intro i hi S vals hS cl hn
  rw [crDLen] at hi
  have n12 : S 4 = false → S 10 = false := fun h4 => by
   cases h : S 10 with
   | false => rfl
   | true => have := cl 10 h 4 (by simp [crDNeed]); rw [h4] at this; cases this
  have n15 : S 10 = false → S 13 = false := fun h4 => by
   cases h : S 13 with
   | false => rfl
   | true => have := cl 13 h 10 (by simp [crDNeed]); rw [h4] at this; cases this
  have n12' : S 9 = false → S 10 = false := fun h4 => by
   cases h : S 10 with
   | false => rfl
   | true => have := cl 10 h 9 (by simp [crDNeed]); rw [h4] at this; cases this
  have n11 : S 7 = false → S 9 = false := fun h4 => by
   cases h : S 9 with
   | false => rfl
   | true =>
    have h8 := cl 9 h 8 (by simp [crDNeed])
    have := cl 8 h8 7 (by simp [crDNeed])
    rw [h4] at this; cases this
  have hcase : i = 0 ∨ i = 1 ∨ i = 2 ∨ i = 3 ∨ i = 4 ∨ i = 5 ∨ i = 6 ∨ i = 7 ∨ i = 8 ∨ i = 9 ∨ i = 10 ∨ i = 11 ∨ i = 12 ∨ i = 13 := by omega
  rcases hcase with rfl | rfl | rfl | rfl | rfl | rfl | rfl | rfl | rfl | rfl | rfl | rfl | rfl | rfl
  ·simp only [crDF, List.getD_cons_succ, List.getD_cons_zero, gO_true, gH_true, gS_true, bO_some]
   exact ⟨rfl, (hp3_u (by omega) (by omega) (by omega)).symm⟩
  ·simp only [crDF, List.getD_cons_succ, List.getD_cons_zero, gO_true, gH_true, gS_true, bO_some]
   exact ⟨rfl, (hp3_u (by omega) (by omega) (by omega)).symm⟩
  ·simp only [crDF, List.getD_cons_succ, List.getD_cons_zero, gO_true, gH_true, gS_true, bO_some]
   have v1 := (hn 1 (by simp [crDNeed])).2
   rw [v1]
   exact ⟨rfl, (hp3_u (by omega) (by omega) (by omega)).symm⟩
  ·simp only [crDF, List.getD_cons_succ, List.getD_cons_zero, gO_true, gH_true, gS_true, bO_some]
   have v2 := (hn 2 (by simp [crDNeed])).2
   rw [v2]
   exact ⟨rfl, (hp3_u (by omega) (by omega) (by omega)).symm⟩
  ·simp only [crDF, List.getD_cons_succ, List.getD_cons_zero, gO_true, gH_true, gS_true, bO_some]
   have v3 := (hn 3 (by simp [crDNeed])).2
   rw [v3]
   have e : ald false 1 (hp3 9 10 13 H (H ++ [some (.cells (encD (newD o.ino)))]) H10 H2 S) (V 3) = some b := by
    have q12 := n12 hS
    have q15 := n15 q12
    have : (hp3 9 10 13 H (H ++ [some (.cells (encD (newD o.ino)))]) H10 H2 S)[oi]? = some (some (.cells [a, b])) := by
     unfold hp3
     rw [q15, q12]
     cases S 9 with
     | true => exact hg.obj
     | false => exact h.obj
    show ald false 1 _ (.ptr oi 1) = _
    rw [ald_ptr this]; rfl
   rw [e]
   exact ⟨rfl, (hp3_u (by omega) (by omega) (by omega)).symm⟩
  ·simp only [crDF, List.getD_cons_succ, List.getD_cons_zero, gO_true, gH_true, gS_true, bO_some]
   exact ⟨rfl, (hp3_u (by omega) (by omega) (by omega)).symm⟩
  ·simp only [crDF, List.getD_cons_succ, List.getD_cons_zero, gO_true, gH_true, gS_true, bO_some]
   exact ⟨rfl, (hp3_u (by omega) (by omega) (by omega)).symm⟩
  ·simp only [crDF, List.getD_cons_succ, List.getD_cons_zero, gO_true, gH_true, gS_true, bO_some]
   have v6 := (hn 6 (by simp [crDNeed])).2
   rw [v6]
   have e : ald false 1 (hp3 9 10 13 H (H ++ [some (.cells (encD (newD o.ino)))]) H10 H2 S) (V 6) = some (I o.ino) := by
    have q11 := n11 hS
    have q12 := n12' q11
    have q15 := n15 q12
    unfold hp3
    rw [q15, q12, q11]
    show ald false 1 H (.ptr p 1) = _
    rw [ald_ptr hp]; rfl
   rw [e]
   exact ⟨rfl, (hp3_u (by omega) (by omega) (by omega)).symm⟩
  ·simp only [crDF, List.getD_cons_succ, List.getD_cons_zero, gO_true, gH_true, gS_true, bO_some]
   have v7 := (hn 7 (by simp [crDNeed])).2
   rw [v7]
   exact ⟨rfl, (hp3_u (by omega) (by omega) (by omega)).symm⟩
  ·simp only [crDF, List.getD_cons_succ, List.getD_cons_zero, gO_true, gH_true, gS_true, bO_some]
   have v8 := (hn 8 (by simp [crDNeed])).2
   rw [v8]
   have q12 := n12' hS
   have q15 := n15 q12
   have e : hp3 9 10 13 H (H ++ [some (.cells (encD (newD o.ino)))]) H10 H2 S = H := by unfold hp3; rw [q15, q12, hS]; rfl
   have e2 : hp3 9 10 13 H (H ++ [some (.cells (encD (newD o.ino)))]) H10 H2 (upd S 9) = H ++ [some (.cells (encD (newD o.ino)))] := by unfold hp3; simp [upd, q15, q12]
   rw [e, e2]
   exact ⟨rfl, rfl⟩
  ·simp only [crDF, List.getD_cons_succ, List.getD_cons_zero, gO_true, gH_true, gS_true, bO_some]
   have v4 := (hn 4 (by simp [crDNeed])).2
   have v5 := (hn 5 (by simp [crDNeed])).2
   have v9 := (hn 9 (by simp [crDNeed])).2
   rw [v4, v5, v9]
   have q15 := n15 hS
   have e : hp3 9 10 13 H (H ++ [some (.cells (encD (newD o.ino)))]) H10 H2 S = H ++ [some (.cells (encD (newD o.ino)))] := by unfold hp3; rw [q15, hS, (hn 9 (by simp [crDNeed])).1]; rfl
   have e2 : hp3 9 10 13 H (H ++ [some (.cells (encD (newD o.ino)))]) H10 H2 (upd S 10) = H10 := by unfold hp3; simp [upd, q15]
   rw [e, e2]
   exact hc
  ·simp only [crDF, List.getD_cons_succ, List.getD_cons_zero, gO_true, gH_true, gS_true, bO_some]
   have v0 := (hn 0 (by simp [crDNeed])).2
   rw [v0]
   exact ⟨rfl, (hp3_u (by omega) (by omega) (by omega)).symm⟩
  ·simp only [crDF, List.getD_cons_succ, List.getD_cons_zero, gO_true, gH_true, gS_true, bO_some]
   have v11 := (hn 11 (by simp [crDNeed])).2
   rw [v11]
   exact ⟨rfl, (hp3_u (by omega) (by omega) (by omega)).symm⟩
  ·simp only [crDF, List.getD_cons_succ, List.getD_cons_zero, gO_true, gH_true, gS_true, bO_some]
   have v12 := (hn 12 (by simp [crDNeed])).2
   have v10 := (hn 10 (by simp [crDNeed])).2
   rw [v12, v10]
   have e : hp3 9 10 13 H (H ++ [some (.cells (encD (newD o.ino)))]) H10 H2 S = H10 := by unfold hp3; rw [hS, (hn 10 (by simp [crDNeed])).1]; rfl
   have e3 : hp3 9 10 13 H (H ++ [some (.cells (encD (newD o.ino)))]) H10 H2 (upd S 13) = H2 := by unfold hp3; simp [upd]
   rw [e, e3]
   show bS (ast 1 H10 (.ptr oi 1) r) _
   rw [e2, bS_some]
   exact ⟨rfl, rfl⟩
 ·intro S vals hS
  rw [crDLen, crD_K]
  have : hp3 9 10 13 H (H ++ [some (.cells (encD (newD o.ino)))]) H10 H2 S = H2 := by unfold hp3; rw [if_pos (hS 13 (by rw [crDLen]; omega)).1]
  rw [this]
  exact hK
end Go.Proofs.Ytofgloiebnppbaa.Av
end
/-! YtofgloiebnppbaaAvIw -/
section
/- Chapter 12: files that are made, and removed; names that are changed. -/
set_option linter.unusedVariables false
set_option linter.unusedSimpArgs false
set_option maxRecDepth 100000
namespace Go.Proofs.Ytofgloiebnppbaa.Av
open Go Go.RowKit

def ImP (L oi : Nat) (H : AH) (ns : List Nm) (dv : List NdV) (r : AV) (H' : AH) : Prop := r = .tup [] ∧ ∃ a b, ImH L oi ns dv a b H' ∧ FrL L oi H H'
def creOk (ns : List Nm) (dv : List NdV) (o : OpM) : Prop := ¬ hasK Nm.name ns o.name ∧ ¬ hasK NdV.ino dv o.ino ∧ mayN o.name ∧ 1 ≤ o.ino ∧ o.ino ≤ 4611686018427387904 ∧ ns.length < 16
instance (ns : List Nm) (dv : List NdV) (o : OpM) : Decidable (creOk ns dv o) := by unfold creOk; infer_instance
def creNs (ns : List Nm) (dv : List NdV) (o : OpM) : List Nm := if creOk ns dv o then insK cmpN Nm.name ns ⟨o.name, o.ino⟩ else ns
def creDv (ns : List Nm) (dv : List NdV) (o : OpM) : List NdV := if creOk ns dv o then insK cmpI NdV.ino dv (newD o.ino) else dv
theorem op_new {L oi : Nat} {ns : List Nm} {dv : List NdV} {a b : AV} {H : AH} (h : ImH L oi ns dv a b H) (o : OpM) {bv : AV} (hb : oneA bv = true) : ∃ H1, anew H (.agg (opA o bv)) = some (.ptr H.length 0, H1) ∧ H1[H.length]? = some (some (.cells (opA o bv))) ∧ ImH L oi ns dv a b H1 ∧ FrL L oi H H1 := by
 have g := Grew.app H [some (.cells (opA o bv))]
 have hle := h.len
 exact ⟨_, by simp [opA, hb], by simp, h.grew g, g.1, fun j h1 h2 => g.2 j (by omega)⟩
theorem create_w {L oi : Nat} {ns : List Nm} {dv : List NdV} {a b bv : AV} {H H1 : AH} {o : OpM} (h : ImH L oi ns dv a b H) (e1 : anew H (.agg (opA o bv)) = some (.ptr H.length 0, H1)) (hp : H1[H.length]? = some (some (.cells (opA o bv)))) (h1 : ImH L oi ns dv a b H1)
  (hs : srtK cmpN Nm.name ns) (hd : srtK cmpI NdV.ino dv) (hn : ns.length ≤ 100000) (hm : dv.length ≤ 100000) (hnm : o.name.length ≤ 1000000000) {K : AV → AH → Prop} (hno : ¬ creOk ns dv o → K (.tup []) H1) (hyes : creOk ns dv o → zhgZ (.ptr oi 0) (.ptr H.length 0) (I (posK cmpN Nm.name ns o.name)) (I (posK cmpI NdV.ino dv o.ino)) H1 K) :
  zllZ (.ptr oi 0) (.agg (opA o bv)) H K := by
 obtain ⟨Ra, Rb, sa, sb, fz⟩ := h1.lend
 have c0 := h1.obj
 unfold zllZ
 simp only [e1, bH_some]
 have b0 : rdCells true 2 [a, b] 0 = some (.agg [a, b]) := rfl
 simp [hp, c0, b0, opA]
 refine bC_of (PCall.lend (FZs.cons fz (FZs.cons (FZ.lit _) FZs.nil)) rfl (named_p sa sb hs (by omega) o.name)).call ?_
 simp [hp, c0, b0, opA]
 refine bC_of (PCall.lend (FZs.cons fz (FZs.cons (FZ.lit _) FZs.nil)) rfl (node_p sa sb hd (by omega) o.ino)).call ?_
 by_cases q1 : hasK Nm.name ns o.name
 ·simp [q1]
  exact hno fun hc => hc.1 q1
 ·by_cases q2 : hasK NdV.ino dv o.ino
  ·simp [q1, q2]
   exact hno fun hc => hc.2.1 q2
  ·simp [q1, q2, hp, opA]
   refine bP_pure (MayName_p (s := o.name) (by omega)) ?_
   by_cases q3 : mayN o.name
   ·by_cases q4 : o.ino < 1
    ·simp [q3, q4, hp, opA]
     exact hno fun hc => by have := hc.2.2.2.1; omega
    ·by_cases q5 : 4611686018427387904 < o.ino
     ·simp [q3, q4, q5, hp, opA]
      exact hno fun hc => by have := hc.2.2.2.2.1; omega
     ·have ln := zjrZ h1.sa
      by_cases q6 : 16 ≤ ns.length
      ·have q6' : (16 : Int) ≤ ns.length := by omega
       simp [q3, q4, q5, hp, opA, c0, ln, q6']
       exact hno fun hc => by have := hc.2.2.2.2.2; omega
      ·have q6' : ¬ (16 : Int) ≤ ns.length := by omega
       simp [q3, q4, q5, hp, opA, c0, ln, q6']
       exact hyes ⟨q1, q2, q3, by omega, by omega, by omega⟩
   ·simp [q3]
    exact hno fun hc => q3 hc.2.2.1
theorem create_c {L oi : Nat} {ns : List Nm} {dv : List NdV} {a b bv : AV} {H : AH} {o : OpM} (h : ImH L oi ns dv a b H) (hs : srtK cmpN Nm.name ns) (hd : srtK cmpI NdV.ino dv) (hb : oneA bv = true) (hn : ns.length ≤ 100000) (hm : dv.length ≤ 100000) (hnm : o.name.length ≤ 1000000000) :
  ∃ r H', ImP L oi H (creNs ns dv o) (creDv ns dv o) r H' ∧ BCall Try.prog 54 [.ptr oi 0, .agg (opA o bv)] H r H' := by
 obtain ⟨H1, e1, hp, h1, f1⟩ := op_new h o hb
 have hpl : H.length ≠ oi := by have := (List.getElem?_eq_some_iff.1 h.obj).1; omega
 have hpa : H.length ∉ idS a := fun hh => by have := zoZ h.sa _ hh; omega
 by_cases hc : creOk ns dv o
 ·obtain ⟨r, H2, h2, f2, g2, w2⟩ := create_U4 h1 hp hpl hpa (posK_le (c := cmpN) (key := Nm.name) ns o.name) hn
  obtain ⟨r2, H3, h3, f3, w3⟩ := create_U5 h2 (g2.trans hp) (posK_le (c := cmpI) (key := NdV.ino) dv o.ino) hm
  refine ⟨.tup [], H3, ⟨rfl, r, r2, ?_, f1.trans (f2.trans f3)⟩, image_create_ok (create_w h e1 hp h1 hs hd hn hm hnm (fun q => absurd hc q) fun _ => w2 _ _ ?_)⟩
  ·unfold creNs creDv
   rw [if_pos hc, if_pos hc]; exact h3
  ·rw [image_create_J5_eq]
   unfold zleZ
   exact w3 _ ⟨rfl, rfl⟩
 ·refine ⟨.tup [], H1, ⟨rfl, a, b, ?_, f1⟩, image_create_ok (create_w h e1 hp h1 hs hd hn hm hnm (fun _ => ⟨rfl, rfl⟩) fun q => absurd q hc)⟩
  unfold creNs creDv
  rw [if_neg hc, if_neg hc]; exact h1
/-! removed -/
def remNs (ns : List Nm) (s : List UInt8) : List Nm := if hasK Nm.name ns s then delK cmpN Nm.name ns s else ns
def remDv (ns : List Nm) (dv : List NdV) (s : List UInt8) : List NdV := if hasK Nm.name ns s then delK cmpI NdV.ino dv (nameI ns s) else dv
theorem remove_c {L oi : Nat} {ns : List Nm} {dv : List NdV} {a b : AV} {H : AH} {s : List UInt8} (h : ImH L oi ns dv a b H) (hs : srtK cmpN Nm.name ns) (hd : srtK cmpI NdV.ino dv) (hx : ∀ x ∈ ns, hasK NdV.ino dv x.ino) (hn : ns.length ≤ 100000) (hm : dv.length ≤ 100000) :
  ∃ r H', ImP L oi H (remNs ns s) (remDv ns dv s) r H' ∧ BCall Try.prog 57 [.ptr oi 0, S (bstr s)] H r H' := image_remove_ok (by
 obtain ⟨Ra, Rb, sa, sb, fz⟩ := h.lend
 have c0 := h.obj
 unfold image_remove
 have b0 : rdCells true 2 [a, b] 0 = some (.agg [a, b]) := rfl
 simp [c0, b0]
 refine bC_of (PCall.lend (FZs.cons fz (FZs.cons (FZ.lit _) FZs.nil)) rfl (named_p sa sb hs (by omega) s)).call ?_
 by_cases q : hasK Nm.name ns s
 ·obtain ⟨x, hx1, hx2, hx3⟩ := posK_atK koN hs q
  obtain ⟨o, off, cells, u1, u2, u3, u4, u5, -⟩ := own_at encN_len (by omega) h.sa h.oa hx1
  have u51 := u5 1 (by omega)
  have hk := hx x (List.mem_of_getElem? hx1)
  have hkl := hasK_pos koI hd hk
  have hpl := (List.getElem?_eq_some_iff.1 hx1).1
  have e1 : remNs ns s = delK cmpN Nm.name ns s := if_pos q
  have e2 : remDv ns dv s = delK cmpI NdV.ino dv x.ino := by unfold remDv nameI; rw [if_pos q, hx2]
  simp [q, c0, b0, u1, u3, u51, encN]
  refine bC_of (PCall.lend (FZs.cons fz (FZs.cons (FZ.lit _) FZs.nil)) rfl (node_p sa sb hd (by omega) x.ino)).call ?_
  simp [c0, abI_add (a := (posK cmpN Nm.name ns s : Nat)) (b := 1) (by omega) (by omega)]
  obtain ⟨r1, H2, ⟨d1, d2, d3, d4, d5, d6⟩, d7⟩ := delN_c h.sa h.oa h.ca hpl (by omega)
  refine bC_of d7 ?_
  have l1 := delK_len (c := cmpN) (key := Nm.name) (k := s) hpl
  obtain ⟨H3, e3, n1, n2⟩ := h.newA (ms := delK cmpN Nm.name ns s) (Nat.le_of_eq d3.symm) (fun i _ hi => d4 i hi) (by rw [show (delK cmpN Nm.name ns s).length = ns.length - 1 by omega]; exact d2) d1 (by rw [show (delK cmpN Nm.name ns s).length = ns.length - 1 by omega]; exact d6) (fun i hi => .inl (d5 ▸ hi))
  have c3 := n1.obj
  simp [e3, c3, abI_add (a := (posK cmpI NdV.ino dv x.ino : Nat)) (b := 1) (by omega) (by omega)]
  obtain ⟨r2, H4, ⟨g1, g2, g3, g4, g5, g6⟩, g7⟩ := delD_c n1.sb n1.ob n1.cb hkl (by omega)
  refine bC_of g7 ?_
  have l2 := delK_len (c := cmpI) (key := NdV.ino) (k := x.ino) hkl
  obtain ⟨H5, e5, m1, m2⟩ := n1.newB (ew := delK cmpI NdV.ino dv x.ino) (Nat.le_of_eq g3.symm) (fun i _ hi => g4 i hi) (by rw [show (delK cmpI NdV.ino dv x.ino).length = dv.length - 1 by omega]; exact g2) g1 (by rw [show (delK cmpI NdV.ino dv x.ino).length = dv.length - 1 by omega]; exact g6) (fun i hi => .inl (g5 ▸ hi))
  simp [e5]
  rw [e1, e2]
  exact ⟨rfl, _, _, m1, n2.trans m2⟩
 ·simp [q]
  refine ⟨rfl, a, b, ?_, FrL.refl _ _ _⟩
  unfold remNs remDv
  rw [if_neg q, if_neg q]; exact h)
end Go.Proofs.Ytofgloiebnppbaa.Av
end
/-! YtofgloiebnppbaaAvExtA -/
section
/- Chapter 11: room, and the document's own. -/
set_option linter.unusedVariables false
set_option linter.unusedSimpArgs false
set_option maxRecDepth 100000
namespace Go.Proofs.Ytofgloiebnppbaa.Av
open Go Go.RowKit
def maySp (pos n : Int) : Prop := 0 ≤ pos ∧ 1 ≤ n ∧ n ≤ 1099511627776 ∧ pos ≤ 1099511627776 - n
instance (pos n : Int) : Decidable (maySp pos n) := by unfold maySp; infer_instance
theorem extent_span_p (pos n : Int) : BPure Try.prog 95 [I pos, I n] (B (decide (maySp pos n))) := BPure.flat fun H => extent_span_ok (by
 unfold extent_span maySp
 by_cases h1 : 0 ≤ pos
 ·by_cases h2 : 1 ≤ n
  ·by_cases h3 : n ≤ 1099511627776
   ·simp [h1, h2, h3, abI_sub (a := 1099511627776) (b := n) (by omega) (by omega)]
   ·simp [h1, h2, h3]
  ·simp [h1, h2]
 ·simp [h1])
theorem extent_Allocate_p {size : Int} {l : List Ext} {v : AV} (hv : SV encE 9 l v) (hl : l.length ≤ 1000000) (pos n : Int) (keep : Bool) :
  ∃ R, SV encE 9 (cL (allocC (size, l) pos n keep)) R ∧ BPure Try.prog 80 [.agg [I size, v], I pos, I n, B keep] (.tup [.agg [I (cS (allocC (size, l) pos n keep)), R], B (allocC (size, l) pos n keep).isSome]) := by
 refine BPure.cont (by simp [noIdss, noIds, hv.1]) (extent_Allocate_ok ?_)
 unfold zjvZ
 simp [oneA_sv hv, rdCells]
 refine bP_pure (zjfZ hv (by omega)) ?_
 by_cases h1 : mayC size l
 ·simp [h1]
  refine bP_pure (extent_span_p pos n) ?_
  by_cases h2 : maySp pos n
  ·by_cases h3 : 32768 < n
   ·have hn : allocC (size, l) pos n keep = none := if_neg (fun h => by omega)
    simp [h2, h3, ast]
    exact ContK.none hn
   ·obtain ⟨g1, g2, g3, g4⟩ := h2
    have hw : allocC (size, l) pos n keep = some (if keep then size else max size (pos + n), allocL l pos n) := if_pos ⟨h1, g1, g2, by omega, g4⟩
    simp [show maySp pos n from ⟨g1, g2, g3, g4⟩, h3]
    obtain ⟨r, H2, ⟨w, rfl, a2, a3, a4, a5⟩, a1⟩ := copied_c (size := size) (hv.2 [some (.cells [I size, v]), some (.cells [I 0, nilSl])]) (oneA_sv hv) (by omega)
    refine bC_of a1 ?_
    have c0 := a4.cells (o := 0) (x := some (.cells [I size, v])) rfl
    have c1 := a4.cells (o := 1) (x := some (.cells [I 0, nilSl])) rfl
    have hl2 := a4.1
    simp only [List.length_cons, List.length_nil] at hl2
    have hwo := zbpZ a2
    have id0 : ∀ j, j < 2 → j ∉ idS w := fun j hj h => by have := a5 j h; simp at this; omega
    rw [ast_ptr (n := 2) (off := 0) (x := .agg [I size, w]) (xs := [I size, w]) (by simp [hwo]) c0 rfl (by simp)]
    simp [abI_quo (a := pos) (b := 8) (by omega) (by omega) (by omega)]
    have hs0 := okL_srt h1.2.2
    have hN : allocN pos n ≤ 4098 := by unfold allocN; omega
    refine zkqZ (fun m x1 x2 x3 x4 x8 x10 H => ∃ (d : Nat) (w : AV), d + m = allocN pos n ∧ x1 = I pos ∧ x2 = I n ∧ x3 = B keep ∧ x4 = .ptr 0 0 ∧ x8 = .ptr 1 0 ∧ x10 = I (pos / 8 + d) ∧ H[0]? = some (some (.cells [I size, w])) ∧ H[1]? = some (some (.cells [I 0, nilSl])) ∧
     zaZ H 9 w = some ((needs l (pos / 8) d).flatMap encE, (needs l (pos / 8) d).length) ∧ ownedS w = true ∧ (∀ j, j < 2 → j ∉ idS w)) ?_ (allocN pos n)
     ⟨0, w, by simp, rfl, rfl, rfl, rfl, rfl, by simp, List.getElem?_set_self (by omega), (List.getElem?_set_ne (by omega)).trans c1, ?_, a2, id0⟩
    ·rintro m x1 x2 x3 x4 x8 x10 H R hR ⟨d, w, hdn, rfl, rfl, rfl, rfl, rfl, rfl, k0, k1, kw, ko, kid⟩
     unfold zfvZ
     have hH0 := (List.getElem?_eq_some_iff.1 k0).1
     have hH1 := (List.getElem?_eq_some_iff.1 k1).1
     simp [abI_add (a := pos) (b := n) (by omega) (by omega), abI_sub (a := pos + n) (b := 1) (by omega) (by omega), abI_quo (a := pos + n - 1) (b := 8) (by omega) (by omega) (by omega)]
     by_cases hd : d < allocN pos n
     ·have hc : pos / 8 + (d : Int) ≤ (pos + n - 1) / 8 := by unfold allocN at hd; omega
      have hws := ns_srt (k := d) hs0 (pos / 8)
      have hlen := ns_len (k := d) (l := l) (no := pos / 8)
      obtain ⟨H11, ⟨w', q1, q2, q3, q4, q5, q6, q7⟩, q8⟩ := extent_need_c' (no := pos / 8 + d) k0 kw ko (kid 0 (by omega)) hws (by omega)
      simp [hc]
      refine bC_of q8 ?_
      have hid' : ∀ i, i < H.length → i ∉ idS w → i ∉ idS w' := fun i h1 h2 h3 => (q7 i h3).elim h2 (fun h => by omega)
      simp [abI_add (a := pos / 8 + d) (b := 1) (by omega) (by omega)]
      refine hR (m - 1) _ _ _ _ _ _ _ (by omega) ⟨d + 1, w', by omega, rfl, rfl, rfl, rfl, rfl, by rw [show pos / 8 + (d : Int) + 1 = pos / 8 + ((d + 1 : Nat) : Int) by omega], q1, ?_, ?_, q3, fun i hi => hid' i (by omega) (kid i hi)⟩
      ·rw [q6 1 hH1 (by omega) (kid 1 (by omega))]; exact k1
      ·rw [ns_succ]; exact q2
     ·have hd' : d = allocN pos n := by omega
      subst hd'
      have hc : ¬ pos / 8 + ((allocN pos n : Nat) : Int) ≤ (pos + n - 1) / 8 := by unfold allocN; omega
      have hko := zbpZ ko
      have tail : ∀ s H2, H2.length = H.length → H2[0]? = some (some (.cells [I s, w])) → H2[1]? = some (some (.cells [I 0, nilSl])) → zaZ H2 9 w = some ((allocL l pos n).flatMap encE, (allocL l pos n).length) → allocC (size, l) pos n keep = some (s, allocL l pos n) → zdyZ (.ptr 0 0) (.ptr 1 0) H2 (ContK (allocC (size, l) pos n keep)) := by
       intro s H2 hl2 e0 e1 e2 e3
       rw [zloZ]
       unfold zhjZ
       simp [-ald_ptr', ald_ptr e0, rdCells]
       rw [ast_ptr (n := 2) (off := 0) (xs := [I s, w]) (cs := [I 0, nilSl]) (by simp [hko]) e1 rfl (by simp)]
       simp [show 1 < H2.length by omega, rdCells]
       exact ContK.some e3 (zbZ e2 fun i hi => by
        have h2 : 2 ≤ i := Nat.le_of_not_lt fun h => kid i h hi
        rw [List.getElem?_set_ne (by omega)])
      simp [hc]
      cases keep with
      | true =>
       simp
       exact tail size H rfl k0 k1 kw hw
      | false =>
       have hmx : max (pos + n) size = max size (pos + n) := by omega
       simp [k0, abI_add (a := pos) (b := n) (by omega) (by omega), hmx]
       rw [ast_ptr (n := 1) (off := 0) (xs := [I (max size (pos + n))]) (cs := [I size, w]) rfl k0 rfl (by simp)]
       simp
       refine tail _ _ (by simp) (List.getElem?_set_self hH0) ((List.getElem?_set_ne (by omega)).trans k1) (zbZ kw fun i hi => by
        have h2 : 2 ≤ i := Nat.le_of_not_lt fun h => kid i h hi
        rw [List.getElem?_set_ne (by omega)]) hw
    ·exact zbZ a3 fun i hi => by
      have h2 : 2 ≤ i := Nat.le_of_not_lt fun h => id0 i h hi
      rw [List.getElem?_set_ne (by omega)]
  ·have hn : allocC (size, l) pos n keep = none := if_neg (fun h => h2 ⟨h.2.1, h.2.2.1, by omega, h.2.2.2.2⟩)
   simp [h2, ast]
   exact ContK.none hn
 ·have hn : allocC (size, l) pos n keep = none := if_neg (fun h => h1 h.1)
  simp [h1, ast]
  exact ContK.none hn
end Go.Proofs.Ytofgloiebnppbaa.Av
end
/-! YtofgloiebnppbaaAvExtF -/
section
/- Chapter 11: another size, and holes. -/
set_option linter.unusedVariables false
set_option linter.unusedSimpArgs false
set_option maxRecDepth 100000
namespace Go.Proofs.Ytofgloiebnppbaa.Av
open Go Go.RowKit

theorem FZ.fn {X : AH} {k : Fn} {a b a' b' : List AV} (ha : FZs X a a') (hb : FZs X b b') : FZ X (.fn k a b) (.fn k a' b') := by
 obtain ⟨n0, h0⟩ := ha
 obtain ⟨n1, h1⟩ := hb
 refine ⟨n0 + n1 + 1, fun n hn => ?_⟩
 cases n with
 | zero => omega
 | succ n => simp only [frz, h0 n (by omega), h1 n (by omega)]
theorem FZs.same {X : AH} {vs : List AV} (h : noIdss vs = true) : FZs X vs vs := zhfZ X vs h
theorem FZ.ptr {X : AH} {o off : Nat} {cs Rs : List AV} (ho : X[o]? = some (some (.cells cs))) (h : FZs X (cs.drop off) Rs) : FZ X (.ptr o off) (.ip Rs) := by
 obtain ⟨n0, h0⟩ := h
 refine ⟨n0 + 1, fun n hn => ?_⟩
 cases n with
 | zero => omega
 | succ n => simp only [frz, ho, h0 n (by omega)]; rfl
theorem sl_put {α : Type} {enc : α → List AV} {sz : Nat} (hsz : ∀ x, (enc x).length = sz) (h0 : 0 < sz) {H : AH} {w x : AV} {l : List α} {y : α} {i : Nat} {a : Int} (hw : zaZ H sz w = some (l.flatMap enc, l.length)) (ho : ownedS w = true) (hi : i < l.length) (ha : a = i) (hx : cellsA x = some (enc y)) :
  ∃ p H', aixS sz w (I a) = some p ∧ ast sz H p x = some H' ∧ H'.length = H.length ∧ (∀ j, j ∉ idS w → H'[j]? = H[j]?) ∧ zaZ H' sz w = some ((l.set i y).flatMap enc, l.length) := by
 subst ha
 obtain ⟨o, off, cap, cells, rfl, h1, h2, h3⟩ := owned_sl hw ho (by omega)
 have hol := (List.getElem?_eq_some_iff.1 h1).1
 have hmul : i * sz + sz ≤ l.length * sz := by rw [← Nat.succ_mul]; exact Nat.mul_le_mul_right _ hi
 have hy := hsz y
 have hl := List.getElem?_eq_getElem hi
 have hll := hsz (l[i])
 refine ⟨.ptr o (off + i * sz), H.set o (some (.cells (over cells (off + (i * sz + 0)) (enc y)))), ?_, ?_, by simp, fun j hj => List.getElem?_set_ne (by simp [idS] at hj; omega), ?_⟩
 ·simp only [aixS, aint]
  rw [if_pos ⟨by omega, by omega⟩]; simp
 ·rw [ast_ptr (n := sz) (off := off + i * sz) (xs := enc y) hx h1 hy (by omega), splice_eq _ _ _ (by omega)]; rfl
 ·rw [zbjZ (c := over cells (off + (i * sz + 0)) (enc y)) (by simp [hol]) (by rw [over_len (by omega)]; exact h2)]
  rw [over_part h2 (by omega), ← h3, over_flat (q := 0) hsz hl (by unfold over; rw [List.take_zero, List.nil_append, List.drop_of_length_le (by omega), List.append_nil]) (by omega)]

/-! which blocks go -/
def firstI (p : Ext → Bool) (l : List Ext) : Int := match l.findIdx? p with
 | some i => i
 | none => -1
def DelP (k : FuncId) (oc : Nat) (c : List AV) (l : List Ext) (p : Ext → Bool) : Prop :=
 goFunc Try.prog k = true ∧ noIdss c = true ∧ ∀ x ∈ l, ∀ (H : AH) (a : AV), (a = .ip c ∨ (a = .ptr oc 0 ∧ H[oc]? = some (some (.cells c)))) → ∃ H', Grew H H' ∧ BCall Try.prog k [.agg (encE x), a] H (B (p x)) H'
theorem ext_IndexFunc_p {k : FuncId} {oc : Nat} {c : List AV} {l : List Ext} {p : Ext → Bool} {R : AV} (hR : SV encE 9 l R) (hl : l.length ≤ 281474976710656) (hd : DelP k oc c l p) :
  BPure Try.prog 75 [R, .fn (.func k) [] [.ip c]] (I (firstI p l)) := BPure.val (by simp [noIdss, noIds, hR.1, hd.2.1]) rfl (zcqZ (by
 unfold zbcZ
 simp [hR.len]
 refine zbtZ (fun n x0 x1 x7 x8 H => ∃ j : Nat, j + n = l.length ∧ x0 = R ∧ x1 = .fn (.func k) [] [.ip c] ∧ x7 = I l.length ∧ x8 = I j ∧ ∀ m x, m < j → l[m]? = some x → p x = false) ?_ l.length ⟨0, by simp, rfl, rfl, rfl, rfl, by simp⟩
 rintro n x0 x1 x7 x8 H R' hR' ⟨j, hj, rfl, rfl, rfl, rfl, hm⟩
 unfold zqZ
 rcases Nat.lt_or_ge j l.length with hlt | hge
 ·have hx := List.getElem?_eq_getElem hlt
  generalize l[j] = y at hx
  obtain ⟨H', g, hc⟩ := hd.2.2 y (List.mem_of_getElem? hx) H (.ip c) (.inl rfl)
  simp [hlt, hR.idx zbxZ hx rfl, hd.1]
  refine bC_of hc ?_
  cases hp : p y with
  | true =>
   have : l.findIdx? p = some j := by
    rw [List.findIdx?_eq_some_iff_getElem]
    obtain ⟨h1, h2⟩ := List.getElem?_eq_some_iff.1 hx
    refine ⟨h1, by rw [h2]; exact hp, fun i hi => ?_⟩
    have := hm i _ hi (List.getElem?_eq_getElem (by omega))
    simp [this]
   simp [firstI, this]
  | false =>
   simp [abI_add (a := j) (b := 1) (by omega) (by omega)]
   refine hR' (n - 1) _ _ _ _ _ (by omega) ⟨j + 1, by omega, rfl, rfl, rfl, rfl, fun m x hmj hx2 => ?_⟩
   by_cases h : m = j
   ·subst h; rw [hx] at hx2; injection hx2 with hx2; rw [← hx2]; exact hp
   ·exact hm m x (by omega) hx2
 ·have : l.findIdx? p = none := by
   rw [List.findIdx?_eq_none_iff]
   intro x hx
   obtain ⟨m, hmx⟩ := List.mem_iff_getElem?.1 hx
   exact hm m x (by have := (List.getElem?_eq_some_iff.1 hmx).1; omega) hmx
  have hjl : ¬ j < l.length := by omega
  simp [hjl, firstI, this]))
theorem filter_none {p : Ext → Bool} {l : List Ext} (h : ∀ x ∈ l, p x = false) : l.filter (fun x => !p x) = l := List.filter_eq_self.2 fun x hx => by simp [h x hx]
theorem zlsZ {H : AH} {v : AV} {l : List Ext} {k : FuncId} {oc : Nat} {c : List AV} {p : Ext → Bool} (hv : zaZ H 9 v = some (l.flatMap encE, l.length)) (ho : ownedS v = true) (hl : l.length ≤ 1000000) (hc : H[oc]? = some (some (.cells c))) (hne : oc ∉ idS v) (hd : DelP k oc c l p) :
  ∃ r H', (ownedS r = true ∧ zaZ H' 9 r = some ((l.filter fun x => !p x).flatMap encE, (l.filter fun x => !p x).length) ∧ H.length ≤ H'.length ∧ (∀ i, i < H.length → i ∉ idS v → H'[i]? = H[i]?) ∧ ∀ i ∈ idS r, i ∈ idS v) ∧
   BCall Try.prog 70 [v, .fn (.func k) [] [.ptr oc 0]] H r H' := zelZ (by
 unfold zbqZ
 obtain ⟨R, hR, fR⟩ := FZ.sv hv (noIdss_exts l)
 have fc : FZ H (.fn (.func k) [] [.ptr oc 0]) (.fn (.func k) [] [.ip c]) := FZ.fn FZs.nil (FZs.cons (FZ.ptr hc (FZs.same hd.2.1)) FZs.nil)
 refine bP_of (PCall.lend (FZs.cons fR (FZs.cons fc FZs.nil)) rfl (ext_IndexFunc_p hR (by omega) hd)) ?_
 cases hf : l.findIdx? p with
 | none =>
  rw [List.findIdx?_eq_none_iff] at hf
  simp [firstI, List.findIdx?_eq_none_iff.2 hf]
  rw [filter_none hf]
  exact ⟨ho, hv⟩
 | some i0 =>
  obtain ⟨h1, h2, h3⟩ := List.findIdx?_eq_some_iff_getElem.1 hf
  have hoc := (List.getElem?_eq_some_iff.1 hc).1
  simp [firstI, hf, show ¬ (i0 : Int) = -1 by omega, abI_add (a := i0) (b := 1) (by omega) (by omega)]
  have ht : (l.take (i0 + 1)).filter (fun x => !p x) = l.take i0 := by
   rw [List.take_add_one, List.filter_append, List.getElem?_eq_getElem h1]
   simp [h2]
   intro x hx
   obtain ⟨m, hm⟩ := List.mem_iff_getElem?.1 hx
   have hml := (List.getElem?_eq_some_iff.1 hm).1
   rw [List.length_take] at hml
   rw [List.getElem?_take, if_pos (by omega)] at hm
   have := h3 m (by omega)
   obtain ⟨q1, q2⟩ := List.getElem?_eq_some_iff.1 hm
   rw [q2] at this
   simpa using this
  refine zdpZ (fun n x0 x1 x5 x6 H' => ∃ (i j : Nat) (M : List Ext), j + n = l.length ∧ i < j ∧ x0 = v ∧ x1 = .fn (.func k) [] [.ptr oc 0] ∧ x5 = I i ∧ x6 = I j ∧ M.length = l.length ∧ M.take i = (l.take j).filter (fun x => !p x) ∧ M.drop j = l.drop j ∧
   zaZ H' 9 v = some (M.flatMap encE, M.length) ∧ H'[oc]? = some (some (.cells c)) ∧ H.length ≤ H'.length ∧ ∀ i, i < H.length → i ∉ idS v → H'[i]? = H[i]?) ?_ (l.length - (i0 + 1))
   ⟨i0, i0 + 1, l, by omega, by omega, rfl, rfl, rfl, rfl, rfl, ht.symm, rfl, hv, hc, Nat.le_refl _, fun _ _ _ => rfl⟩
  rintro n x0 x1 x5 x6 H' R' hR' ⟨i, j, M, hj, hij, rfl, rfl, rfl, rfl, hM, hMt, hMd, hw, hc', hle, hk⟩
  unfold zbdZ
  rcases Nat.lt_or_ge j l.length with hlt | hge
  ·have hx := List.getElem?_eq_getElem hlt
   generalize l[j] = y at hx
   have hMx : M[j]? = some y := by
    have := congrArg (fun q => q[0]?) hMd
    simp only [List.getElem?_drop, Nat.add_zero] at this
    rw [this]; exact hx
   obtain ⟨q, -, e1, -, -, e2⟩ := sl_no (a := j) hw hMx rfl
   have hoc' := (List.getElem?_eq_some_iff.1 hc').1
   have gA := Grew.app H' [some (.cells (encE y))]
   obtain ⟨H10, g, hcl⟩ := hd.2.2 y (List.mem_of_getElem? hx) (H' ++ [some (.cells (encE y))]) (.ptr oc 0) (.inr ⟨rfl, gA.cells hc'⟩)
   have gB := gA.trans g
   have z := g.cells (o := H'.length) (x := some (.cells (encE y))) (by simp)
   simp [zjrZ hw, hM, hlt, e1, e2, hd.1, -ald_ptr']
   rw [ast_e (by simp) (by rfl)]
   simp
   refine bC_of hcl ?_
   have hdrop : M.drop (j + 1) = l.drop (j + 1) := by
    have := congrArg (List.drop 1) hMd
    rw [List.drop_drop, List.drop_drop] at this
    exact this
   have hkeepB : ∀ i, i < H.length → i ∉ idS x0 → H10[i]? = H[i]? := fun i h1 h2 => by rw [gB.2 i (by omega), hk i h1 h2]
   cases hp : p y with
   | true =>
    simp
    rw [zbvZ]
    unfold zbbZ
    simp [abI_add (a := j) (b := 1) (by omega) (by omega)]
    refine hR' (n - 1) _ _ _ _ _ (by omega) ⟨i, j + 1, M, by omega, by omega, rfl, rfl, rfl, rfl, hM, ?_, hdrop, gB.slice hw, gB.cells hc', by have := gB.1; omega, hkeepB⟩
    rw [List.take_add_one, List.filter_append, ← hMt, hx]
    simp [hp]
   | false =>
    obtain ⟨q2, H16, f1, f2, f3, f4, f5⟩ := sl_put (x := .agg (encE y)) (y := y) (i := i) (a := i) zbxZ (by omega) (gB.slice hw) ho (by omega) rfl (by simp)
    simp [z, f1, f2, abI_add (a := i) (b := 1) (by omega) (by omega)]
    rw [zbvZ]
    unfold zbbZ
    simp [abI_add (a := j) (b := 1) (by omega) (by omega)]
    refine hR' (n - 1) _ _ _ _ _ (by omega) ⟨i + 1, j + 1, M.set i y, by omega, by omega, rfl, rfl, rfl, rfl, by simpa using hM, ?_, ?_, by simpa using f5, ?_, by have := gB.1; omega, fun i h1 h2 => by rw [f4 i h2]; exact hkeepB i h1 h2⟩
    ·rw [List.take_add_one (l := l), List.filter_append, ← hMt, hx, List.take_add_one, List.getElem?_set_self (by omega), List.take_set_of_le (Nat.le_refl _)]
     simp [hp]
    ·rw [List.drop_set_of_lt (by omega)]; exact hdrop
    ·rw [f4 oc hne]; exact gB.cells hc'
  ·have hjl : j = l.length := by omega
   subst hjl
   rw [List.take_length] at hMt
   have hil : i ≤ M.length := by omega
   have hfl : (l.filter fun x => !p x).length = i := by rw [← hMt, List.length_take]; omega
   obtain ⟨o, off, cap, cells, rfl, w1, w2, w3⟩ := owned_sl hw ho (by omega)
   have hol := (List.getElem?_eq_some_iff.1 w1).1
   have hmul : i * 9 ≤ M.length * 9 := Nat.mul_le_mul_right _ hil
   have hmul2 : i * 9 + (M.length - i) * 9 = M.length * 9 := by rw [← Nat.add_mul]; congr 1; omega
   have hz : (zrow (encE (newE 0)) (M.length - i)).length = (M.length - i) * 9 := by rw [zekZ]; rfl
   have e3 : aslS 9 (.sl o off M.length 9 cap) (some (I i)) none none = some (.sl o (off + i * 9) (M.length - i) 9 (cap.cut M.length i)) := by
    simp [aslS, abnd]; omega
   have e4 : aslS 9 (.sl o off M.length 9 cap) none (some (I i)) none = some (.sl o off i 9 (cap.cut M.length 0)) := by
    simp [aslS, abnd]; omega
   have e5 : acl (encE (newE 0)) H' (.sl o (off + i * 9) (M.length - i) 9 (cap.cut M.length i)) = some (H'.set o (some (.cells (over cells (off + i * 9) (zrow (encE (newE 0)) (M.length - i)))))) := by
    simp only [acl, w1]
    rw [if_pos ⟨rfl, by omega, by omega⟩, if_neg (by omega), splice_eq _ _ _ (by rw [hz]; omega)]
    rfl
   rw [← encE_new]
   have hnl : ¬ (l.length : Int) < M.length := by omega
   simp only [alnS_sl, bO_some, abI_lss, hnl, decide_false, bB_bool, zwZ, e3, e5, bS_some, e4]
   refine ⟨rfl, ?_, by simpa using hle, fun a h1 h2 => ?_, by simp [idS]⟩
   ·have hov : (over cells (off + i * 9) (zrow (encE (newE 0)) (M.length - i))).length = cells.length := over_len (by rw [hz]; omega)
    rw [hfl, zbjZ (c := over cells (off + i * 9) (zrow (encE (newE 0)) (M.length - i))) (by simp [hol]) (by rw [hov]; omega)]
    congr 2
    rw [← hMt, ← flat_take zbxZ, w3, List.take_take, Nat.min_eq_left hmul]
    refine List.ext_getElem? fun q => ?_
    rw [List.getElem?_take, List.getElem?_take]
    split
    ·rw [List.getElem?_drop, List.getElem?_drop, over_get (by rw [hz]; omega), if_neg (by omega)]
    ·rfl
   ·rw [List.getElem?_set_ne (by simp [idS] at h2; omega)]
    exact hk a h1 h2)

/-! bytes of a block that are taken -/
theorem over_same {cs xs : List AV} {k : Nat} (h : (cs.drop k).take xs.length = xs) (hl : k + xs.length ≤ cs.length) : over cs k xs = cs := by
 refine List.ext_getElem? fun i => ?_
 rw [over_get hl]
 split
 ·rename_i c
  rw [← h, List.getElem?_take, if_pos (by omega), List.getElem?_drop, show k + (i - k) = i by omega]
 ·rfl
theorem encE_get (x : Ext) {j : Nat} (hj : j < 8) : (encE x)[j + 1]? = some (.lit (.int .u8 (x.b.getD j 0).toNat)) := by
 have hb := x.hb
 unfold encE
 rw [List.getElem?_cons_succ, encB_get, List.getD_eq_getElem?_getD, List.getElem?_eq_getElem (by omega)]
 rfl
theorem wipe_step {x : Ext} {a : Int} {i j : Nat} (hj : (j : Int) = a - x.no * 8 + i) (hj8 : j < 8) : (encE (wipeE x a (a + i))).set (1 + j) (.lit (.int .u8 0)) = encE (wipeE x a (a + (i + 1 : Nat))) := by
 refine List.ext_getElem? fun q => ?_
 rw [List.getElem?_set]
 cases q with
 | zero => rw [if_neg (by omega)]; rfl
 | succ q =>
  by_cases hq : q < 8
  ·rw [encE_get _ hq, encE_get _ hq, wipeE_get hq, wipeE_get hq, zbxZ]
   by_cases c : 1 + j = q + 1
   ·rw [if_pos c, if_pos (by omega), if_pos (by omega)]; rfl
   ·rw [if_neg c]
    by_cases c2 : a ≤ x.no * 8 + (q : Int) ∧ x.no * 8 + (q : Int) < a + i
    ·rw [if_pos c2, if_pos (by omega)]
    ·rw [if_neg c2, if_neg (by omega)]
  ·rw [List.getElem?_eq_none (by rw [zbxZ]; omega), List.getElem?_eq_none (by rw [zbxZ]; omega), zbxZ]
   rw [if_neg (by omega)]
theorem wipe_c {H : AH} {o q : Nat} {cells : List AV} {x : Ext} {s : Sp} (hc : H[o]? = some (some (.cells cells))) (hx : (cells.drop q).take 9 = encE x) (hq : q + 9 ≤ cells.length) (hs : MaySpan s) (h0 : 0 ≤ x.no) (h1 : x.no < 137438953472) :
  ∃ H', (H'[o]? = some (some (.cells (over cells q (encE (wipeE x s.pos (s.pos + s.len)))))) ∧ H.length ≤ H'.length ∧ ∀ i, i < H.length → i ≠ o → H'[i]? = H[i]?) ∧ BCall Try.prog 72 [.ptr o q, .agg (encSp s)] H (.tup []) H' := by
 have key : ∃ r H', (r = .tup [] ∧ (H'[o]? = some (some (.cells (over cells q (encE (wipeE x s.pos (s.pos + s.len)))))) ∧ H.length ≤ H'.length ∧ ∀ i, i < H.length → i ≠ o → H'[i]? = H[i]?)) ∧ BCall Try.prog 72 [.ptr o q, .agg (encSp s)] H r H' := extent_wipe_ok (by
  unfold extent_wipe
  have ho := (List.getElem?_eq_some_iff.1 hc).1
  have hno : cells[q]? = some (I x.no) := by
   have := congrArg (fun l => l[0]?) hx
   simp only [List.getElem?_take, List.getElem?_drop, Nat.add_zero] at this
   simpa [encE] using this
  have g1 := Grew.app H [some (.cells (encSp s))]
  have c1 := g1.cells hc
  have c1' : H[o]? = some (some (.cells cells)) := hc
  obtain ⟨p, n⟩ := s
  simp only [encSp] at c1 g1 ⊢
  simp [List.getElem?_append_left ho, hc, hno, rdCells]
  refine bP_of (extent_whole_p x.no h0 h1) ?_
  refine bP_of (off_Meet_p ⟨x.no * 8, 8⟩ ⟨p, n⟩) ?_
  have hwm : MaySpan ⟨x.no * 8, 8⟩ := by simp only [MaySpan, May]; omega
  have hm : meet ⟨x.no * 8, 8⟩ ⟨p, n⟩ = if max (x.no * 8) p < min (x.no * 8 + 8) (p + n) then ⟨max (x.no * 8) p, min (x.no * 8 + 8) (p + n) - max (x.no * 8) p⟩ else ⟨0, 0⟩ := by
   unfold meet
   simp only
   by_cases c : max (x.no * 8) p < min (x.no * 8 + 8) (p + n)
   ·rw [if_pos ⟨hwm, hs, c⟩, if_pos c]
   ·rw [if_neg (fun h => c h.2.2), if_neg c]
  -- what is wiped
  have hres : ∀ m : Nat, (m : Int) = (meet ⟨x.no * 8, 8⟩ ⟨p, n⟩).len → wipeE x (meet ⟨x.no * 8, 8⟩ ⟨p, n⟩).pos ((meet ⟨x.no * 8, 8⟩ ⟨p, n⟩).pos + m) = wipeE x p (p + n) := by
   intro m he
   refine ext_eq rfl fun k hk => ?_
   rw [wipeE_get hk, wipeE_get hk]
   rw [hm] at he ⊢
   by_cases c : max (x.no * 8) p < min (x.no * 8 + 8) (p + n)
   ·rw [if_pos c] at he ⊢
    simp only at he ⊢
    by_cases c2 : p ≤ x.no * 8 + (k : Int) ∧ x.no * 8 + (k : Int) < p + n
    ·rw [if_pos c2, if_pos (by omega)]
    ·rw [if_neg c2, if_neg (by omega)]
   ·rw [if_neg c] at he ⊢
    simp only at he ⊢
    rw [if_neg (by omega), if_neg (by omega)]
  have hml : ∃ m : Nat, (m : Int) = (meet ⟨x.no * 8, 8⟩ ⟨p, n⟩).len ∧ (0 < m → x.no * 8 ≤ (meet ⟨x.no * 8, 8⟩ ⟨p, n⟩).pos ∧ (meet ⟨x.no * 8, 8⟩ ⟨p, n⟩).pos + m ≤ x.no * 8 + 8) := by
   rw [hm]
   split
   ·exact ⟨(min (x.no * 8 + 8) (p + n) - max (x.no * 8) p).toNat, by simp only; omega, fun _ => by simp only; omega⟩
   ·exact ⟨0, rfl, fun h => by omega⟩
  obtain ⟨m, hmm, hmb⟩ := hml
  have hres := hres m hmm
  generalize meet ⟨x.no * 8, 8⟩ ⟨p, n⟩ = M at hmm hmb hres
  obtain ⟨a, ml⟩ := M
  simp only at hmm hmb hres
  subst hmm
  have hxl := zbxZ x
  simp [encSp, List.getElem?_append_left ho, hc, hno, ast]
  have hz0 : wipeE x a (a + (0 : Nat)) = x := ext_eq rfl fun k hk => by rw [wipeE_get hk, if_neg (by omega)]
  refine extent_wipe_L3_rule (fun t x0 x4 x14 x15 H' => ∃ i : Nat, i + t = m ∧ x0 = .ptr o q ∧ x4 = .ptr (H.length + 1) 0 ∧ x14 = I m ∧ x15 = I i ∧ H'[o]? = some (some (.cells (over cells q (encE (wipeE x a (a + i)))))) ∧ H'[H.length + 1]? = some (some (.cells [I a, I m])) ∧ H.length ≤ H'.length ∧ ∀ i, i < H.length → i ≠ o → H'[i]? = H[i]?) ?_ m
   ⟨0, by omega, rfl, rfl, rfl, rfl, ?_, ?_, by simp, fun i hi _ => List.getElem?_append_left hi⟩
  ·rintro t x0 x4 x14 x15 H' R hR ⟨i, hi, rfl, rfl, rfl, rfl, d0, d1, d2, d3⟩
   unfold zirZ
   by_cases hlt : i < m
   ·obtain ⟨b1, b2⟩ := hmb (by omega)
    obtain ⟨j, hj⟩ : ∃ j : Nat, (j : Int) = a - x.no * 8 + i := ⟨(a - x.no * 8 + i).toNat, by omega⟩
    have ho' := (List.getElem?_eq_some_iff.1 d0).1
    have hwl := zbxZ (wipeE x a (a + i))
    have hno' : (over cells q (encE (wipeE x a (a + i))))[q]? = some (I x.no) := by
     rw [over_get (by omega), if_pos (by omega), Nat.sub_self]; rfl
    simp [hlt, d1, d0, hno', abI_mul (a := x.no) (b := 8) (by omega) (by omega), abI_sub (a := a) (b := x.no * 8) (by omega) (by omega), abI_add (a := a - x.no * 8) (b := i) (by omega) (by omega), ← hj]
    have e1 : aixA 8 1 (.ptr o (q + 1)) (I j) = some (.ptr o (q + 1 + j)) := by
     simp [aixA, aint]; omega
    rw [e1]
    simp only [bO_some]
    rw [ast_ptr (n := 1) (off := q + 1 + j) (xs := [.lit (.int .u8 0)]) rfl d0 rfl (by rw [over_len (by omega)]; omega)]
    simp [abI_add (a := i) (b := 1) (by omega) (by omega)]
    refine hR (t - 1) _ _ _ _ _ (by omega) ⟨i + 1, by omega, rfl, rfl, rfl, rfl, ?_, ?_, by simpa using d2, fun y h1 h2 => ?_⟩
    ·rw [List.getElem?_set_self ho', ← wipe_step hj (by omega)]
     congr 3
     refine List.ext_getElem? fun y => ?_
     rw [List.getElem?_set, over_len (by omega), over_get (by omega), over_get (by simp; omega), List.getElem?_set, List.length_set]
     by_cases c : q + 1 + j = y
     ·subst c
      rw [if_pos rfl, if_pos (by omega), if_pos (by omega), if_pos (by omega), if_pos (by omega)]
     ·rw [if_neg c]
      split
      ·rw [if_neg (by omega)]
      ·rfl
    ·rw [List.getElem?_set_ne (by omega)]; exact d1
    ·rw [List.getElem?_set_ne (by omega)]; exact d3 y h1 h2
   ·have : i = m := by omega
    subst this
    simp [hlt]
    rw [hres] at d0
    exact ⟨d0, d2, d3⟩
  ·rw [List.getElem?_append_left ho, hz0, over_same (by rw [hxl]; exact hx) (by omega)]
   exact hc
  ·rw [List.getElem?_append_right (by omega)]; simp)
 obtain ⟨r, H', ⟨rfl, h1⟩, h2⟩ := key
 exact ⟨H', h1, h2⟩
end Go.Proofs.Ytofgloiebnppbaa.Av
end
/-! YtofgloiebnppbaaAvExtG -/
section
/- Chapter 11: Truncate and Punch. -/
set_option linter.unusedVariables false
set_option linter.unusedSimpArgs false
set_option maxRecDepth 100000
namespace Go.Proofs.Ytofgloiebnppbaa.Av
open Go Go.RowKit
theorem sl_wipe {H : AH} {w : AV} {l : List Ext} {i : Nat} {a : Int} {x : Ext} {s : Sp} (hw : zaZ H 9 w = some (l.flatMap encE, l.length)) (ho : ownedS w = true) (hx : l[i]? = some x) (ha : a = i) (hs : MaySpan s) (h0 : 0 ≤ x.no) (h1 : x.no < 137438953472) :
  ∃ p H', aixS 9 w (I a) = some p ∧ BCall Try.prog 72 [p, .agg (encSp s)] H (.tup []) H' ∧ H.length ≤ H'.length ∧ (∀ j, j < H.length → j ∉ idS w → H'[j]? = H[j]?) ∧ zaZ H' 9 w = some ((l.set i (wipeE x s.pos (s.pos + s.len))).flatMap encE, l.length) := by
 subst ha
 have hi := (List.getElem?_eq_some_iff.1 hx).1
 obtain ⟨o, off, cap, cells, rfl, h2, h3, h4⟩ := owned_sl hw ho (by omega)
 have hol := (List.getElem?_eq_some_iff.1 h2).1
 have hmul : i * 9 + 9 ≤ l.length * 9 := by rw [← Nat.succ_mul]; exact Nat.mul_le_mul_right _ hi
 have hxl := zbxZ x
 have hwl := zbxZ (wipeE x s.pos (s.pos + s.len))
 have hpart : (cells.drop (off + i * 9)).take 9 = encE x := by
  have e : ((l.flatMap encE).drop (i * 9)).take 9 = encE x := by
   rw [zhtZ zbxZ hx, List.take_append_of_le_length (by omega), List.take_of_length_le (by omega)]
  rw [h4, List.drop_take, List.drop_drop, List.take_take, Nat.min_eq_left (by omega)] at e
  exact e
 obtain ⟨H', ⟨k1, k2, k3⟩, k4⟩ := wipe_c (q := off + i * 9) h2 hpart (by omega) hs h0 h1
 refine ⟨.ptr o (off + i * 9), H', ?_, k4, k2, fun j h5 h6 => k3 j h5 (by simp [idS] at h6; omega), ?_⟩
 ·simp only [aixS, aint]
  rw [if_pos ⟨by omega, by omega⟩]; simp
 ·rw [zbjZ k1 (by rw [over_len (by omega)]; exact h3)]
  rw [show off + i * 9 = off + (i * 9 + 0) by omega, over_part h3 (by omega), ← h4, over_flat (q := 0) zbxZ hx (by unfold over; rw [List.take_zero, List.nil_append, List.drop_of_length_le (by omega), List.append_nil]) (by omega)]
theorem map_set {f : Ext → Ext} {l : List Ext} {i : Nat} {x : Ext} (hx : l[i]? = some x) : ((l.take i).map f ++ l.drop i).set i (f x) = (l.take (i + 1)).map f ++ l.drop (i + 1) := by
 have hi := (List.getElem?_eq_some_iff.1 hx).1
 rw [drop_cons hx, List.set_append_right _ _ (by rw [List.length_map, List.length_take]; omega), List.take_add_one, hx]
 simp [show i - min i l.length = 0 by omega]
theorem map_get {f : Ext → Ext} {l : List Ext} {i : Nat} {x : Ext} (hx : l[i]? = some x) : ((l.take i).map f ++ l.drop i)[i]? = some x := by
 have hi := (List.getElem?_eq_some_iff.1 hx).1
 rw [List.getElem?_append_right (by rw [List.length_map, List.length_take]; omega), List.getElem?_drop]
 simp only [List.length_map, List.length_take]
 rw [show i + (i - min i l.length) = i by omega]; exact hx
theorem map_len {f : Ext → Ext} {l : List Ext} {i : Nat} : ((l.take i).map f ++ l.drop i).length = l.length := by
 simp; omega
theorem trunc_del (size : Int) (l : List Ext) (h : ∀ x ∈ l, -1 ≤ x.no ∧ x.no < 137438953472) : DelP 71 1 [I size] l (fun x => decide (size ≤ x.no * 8)) := by
 refine ⟨by kernel_rfl, rfl, fun x hx H a ha => ?_⟩
 obtain ⟨h1, h2⟩ := h x hx
 have key : ∃ r H', (r = B (decide (size ≤ x.no * 8)) ∧ Grew H H') ∧ BCall Try.prog 71 [.agg (encE x), a] H r H' := extent_Truncate_1_ok (by
  unfold zhiZ
  have g := Grew.app H [some (.cells (encE x))]
  rcases ha with rfl | ⟨rfl, hc⟩
  ·simp [abI_mul (a := x.no) (b := 8) (by omega) (by omega)]
   exact g
  ·have h1' := (List.getElem?_eq_some_iff.1 hc).1
   have hc' := g.cells hc
   simp [abI_mul (a := x.no) (b := 8) (by omega) (by omega), hc']
   exact g)
 obtain ⟨r, H', ⟨rfl, g⟩, hc⟩ := key
 exact ⟨H', g, hc⟩
theorem punch_del (oc : Nat) (s : Sp) (l : List Ext) (h : ∀ x ∈ l, 0 ≤ x.no ∧ x.no < 137438953472) : DelP 96 oc (encSp s) l (fun x => decide (Within ⟨x.no * 8, 8⟩ s)) := by
 refine ⟨by kernel_rfl, rfl, fun x hx H a ha => ?_⟩
 obtain ⟨h1, h2⟩ := h x hx
 have key : ∃ r H', (r = B (decide (Within ⟨x.no * 8, 8⟩ s)) ∧ Grew H H') ∧ BCall Try.prog 96 [.agg (encE x), a] H r H' := extent_Punch_1_ok (by
  unfold zkuZ
  have g := Grew.app H [some (.cells (encE x))]
  simp
  refine bP_of (extent_whole_p x.no h1 h2) ?_
  have ha' : ald true 2 (H ++ [some (.cells (encE x))]) a = some (.agg (encSp s)) := by
   rcases ha with rfl | ⟨rfl, hc⟩
   ·rfl
   ·rw [ald_ptr (g.cells hc)]; rfl
  rw [ha']
  simp
  refine bP_of (off_Within_p ⟨x.no * 8, 8⟩ s) ?_
  exact ⟨rfl, g⟩)
 obtain ⟨r, H', ⟨rfl, g⟩, hc⟩ := key
 exact ⟨H', g, hc⟩
theorem zksZ {size0 : Int} {l : List Ext} {v : AV} (hv : SV encE 9 l v) (hl : l.length ≤ 1000000) (size : Int) :
  ∃ R, SV encE 9 (cL (truncC (size0, l) size)) R ∧ BPure Try.prog 47 [.agg [I size0, v], I size] (.tup [.agg [I (cS (truncC (size0, l) size)), R], B (truncC (size0, l) size).isSome]) := by
 refine BPure.cont (by simp [noIdss, noIds, hv.1]) (extent_Truncate_ok ?_)
 unfold zjpZ
 simp [oneA_sv hv, rdCells, anew_lit]
 refine bP_pure (zjfZ hv (by omega)) ?_
 by_cases h1 : mayC size0 l
 ·by_cases h2 : size < 0
  ·have hn : truncC (size0, l) size = none := if_neg (fun h => by omega)
   simp [h1, h2, ast]
   exact ContK.none hn
  ·by_cases h3 : 1099511627776 < size
   ·have hn : truncC (size0, l) size = none := if_neg (fun h => by omega)
    simp [h1, h2, h3, ast]
    exact ContK.none hn
   ·have hw : truncC (size0, l) size = some (size, truncL l size) := if_pos ⟨h1, by omega, by omega⟩
    simp [h1, h2, h3]
    obtain ⟨r, H2, ⟨w, rfl, a2, a3, a4, a5⟩, a1⟩ := copied_c (size := size0) (hv.2 [some (.cells [I size0, v]), some (.cells [I size]), some (.cells [I 0, nilSl])]) (oneA_sv hv) (by omega)
    refine bC_of a1 ?_
    have c0 := a4.cells (o := 0) (x := some (.cells [I size0, v])) rfl
    have c1 := a4.cells (o := 1) (x := some (.cells [I size])) rfl
    have c2 := a4.cells (o := 2) (x := some (.cells [I 0, nilSl])) rfl
    have hl2 := a4.1
    simp only [List.length_cons, List.length_nil] at hl2
    have hwo := zbpZ a2
    have id0 : ∀ j, j < 3 → j ∉ idS w := fun j hj h => by have := a5 j h; simp at this; omega
    have hs0 := okL_srt h1.2.2
    have hno := fun x hx => (okL_all h1.2.2 x hx)
    rw [ast_ptr (n := 2) (off := 0) (x := .agg [I size0, w]) (xs := [I size0, w]) (by simp [hwo]) c0 rfl (by simp)]
    simp [c1]
    rw [ast_ptr (n := 1) (off := 0) (xs := [I size]) (cs := [I size0, w]) rfl (List.getElem?_set_self (by omega)) rfl (by simp)]
    simp [show 0 < H2.length by omega]
    have keep0 : ∀ j x, j ≠ 0 → (H2.set 0 x)[j]? = H2[j]? := fun j x hj => List.getElem?_set_ne (by omega)
    have hw1 : zaZ (H2.set 0 (some (.cells [I size, w]))) 9 w = some (l.flatMap encE, l.length) := zbZ a3 fun i hi => keep0 i _ (fun h => id0 0 (by omega) (h ▸ hi))
    obtain ⟨r2, H3, ⟨b1, b2, b3, b4, b5⟩, b6⟩ := zlsZ (k := 71) hw1 a2 (by omega) (oc := 1) (c := [I size]) (by rw [keep0 1 _ (by omega)]; exact c1) (id0 1 (by omega)) (trunc_del size l fun x hx => by have := hno x hx; omega)
    have hfe : (l.filter fun x => !decide (size ≤ x.no * 8)) = l.filter fun x => decide (x.no * 8 < size) := List.filter_congr fun x _ => by
     by_cases c : size ≤ x.no * 8
     ·simp [c, show ¬ x.no * 8 < size by omega]
     ·simp [c, show x.no * 8 < size by omega]
    rw [hfe] at b2
    refine bC_of b6 ?_
    simp at b3
    have id3 : ∀ j, j < 3 → j ∉ idS r2 := fun j hj h => id0 j hj (b5 j h)
    have d0 : H3[0]? = some (some (.cells [I size, w])) := by rw [b4 0 (by simp; omega) (id0 0 (by omega))]; exact List.getElem?_set_self (by omega)
    have d1 : H3[1]? = some (some (.cells [I size])) := by rw [b4 1 (by simp; omega) (id0 1 (by omega)), keep0 1 _ (by omega)]; exact c1
    have d2 : H3[2]? = some (some (.cells [I 0, nilSl])) := by rw [b4 2 (by simp; omega) (id0 2 (by omega)), keep0 2 _ (by omega)]; exact c2
    have hr2 := zbpZ b1
    rw [ast_ptr (n := 1) (off := 1) (xs := [r2]) (cs := [I size, w]) (zdoZ hr2) d0 rfl (by simp)]
    have hfl : (l.filter fun x => decide (x.no * 8 < size)).length ≤ l.length := List.length_filter_le _ _
    have hfm : ∀ x ∈ (l.filter fun x => decide (x.no * 8 < size)), 0 ≤ x.no ∧ x.no < 137438953472 := fun x hx => by
     have := hno x (List.mem_filter.1 hx).1; omega
    have hte : truncL l size = (l.filter fun x => decide (x.no * 8 < size)).map fun x => wipeE x size 1099511627776 := rfl
    generalize (l.filter fun x => decide (x.no * 8 < size)) = F at b2 hfl hfm hte
    simp [show 0 < H3.length by omega, zjrZ b2]
    have hsp : MaySpan ⟨size, 1099511627776 - size⟩ := by simp only [MaySpan, May]; omega
    refine zlaZ (fun t x2 x3 x4 x30 x31 H => ∃ i : Nat, i + t = F.length ∧ x2 = .ptr 0 0 ∧ x3 = .ptr 1 0 ∧ x4 = .ptr 2 0 ∧ x30 = I F.length ∧ x31 = I i ∧ H[0]? = some (some (.cells [I size, r2])) ∧ H[1]? = some (some (.cells [I size])) ∧ H[2]? = some (some (.cells [I 0, nilSl])) ∧
     zaZ H 9 r2 = some (((F.take i).map (fun x => wipeE x size 1099511627776) ++ F.drop i).flatMap encE, ((F.take i).map (fun x => wipeE x size 1099511627776) ++ F.drop i).length)) ?_ F.length
     ⟨0, by omega, rfl, rfl, rfl, rfl, rfl, List.getElem?_set_self (by omega), (List.getElem?_set_ne (by omega)).trans d1, (List.getElem?_set_ne (by omega)).trans d2, ?_⟩
    ·rintro t x2 x3 x4 x30 x31 H R hR ⟨i, hi, rfl, rfl, rfl, rfl, rfl, e0, e1, e2, e3⟩
     unfold zffZ
     have hH0 := (List.getElem?_eq_some_iff.1 e0).1
     have hH1 := (List.getElem?_eq_some_iff.1 e1).1
     have hH2 := (List.getElem?_eq_some_iff.1 e2).1
     rcases Nat.lt_or_ge i F.length with hlt | hge
     ·have hx := List.getElem?_eq_getElem hlt
      generalize F[i] = x at hx
      obtain ⟨x0, x1⟩ := hfm x (List.mem_of_getElem? hx)
      obtain ⟨p, H', f1, f2, f3, f4, f5⟩ := sl_wipe (s := ⟨size, 1099511627776 - size⟩) e3 b1 (map_get hx) (a := i) rfl hsp x0 x1
      simp only [show size + (1099511627776 - size) = 1099511627776 by omega] at f5
      rw [map_set (f := fun x => wipeE x size 1099511627776) hx] at f5
      simp [hlt, e0, e1, f1, abI_sub (a := 1099511627776) (b := size) (by omega) (by omega)]
      refine bC_of f2 ?_
      simp [abI_add (a := i) (b := 1) (by omega) (by omega)]
      refine hR (t - 1) _ _ _ _ _ _ (by omega) ⟨i + 1, by omega, rfl, rfl, rfl, rfl, rfl, by rw [f4 0 hH0 (id3 0 (by omega))]; exact e0, by rw [f4 1 hH1 (id3 1 (by omega))]; exact e1, by rw [f4 2 hH2 (id3 2 (by omega))]; exact e2, by rw [f5, map_len, map_len]⟩
     ·have : i = F.length := by omega
      subst this
      simp [e0, rdCells]
      rw [ast_ptr (n := 2) (off := 0) (xs := [I size, r2]) (cs := [I 0, nilSl]) (by simp [hr2]) e2 rfl (by simp)]
      simp [hH2]
      rw [List.take_length, List.drop_length, List.append_nil, ← hte] at e3
      exact ContK.some hw (zbZ e3 fun i hi => by
       have h2 : 3 ≤ i := Nat.le_of_not_lt fun h => id3 i h hi
       rw [List.getElem?_set_ne (by omega)])
    ·simp only [List.take_zero, List.map_nil, List.nil_append, List.drop_zero]
     exact zbZ b2 fun i hi => by
      have h2 : 3 ≤ i := Nat.le_of_not_lt fun h => id3 i h hi
      rw [List.getElem?_set_ne (by omega)]
 ·have hn : truncC (size0, l) size = none := if_neg (fun h => h1 h.1)
  simp [h1, ast]
  exact ContK.none hn
theorem within_gone {no pos n : Int} (h : maySp pos n) (h0 : 0 ≤ no) (h1 : no < 137438953472) : (!decide (Within ⟨no * 8, 8⟩ ⟨pos, n⟩)) = !gone pos n no := by
 have e : Within ⟨no * 8, 8⟩ ⟨pos, n⟩ ↔ (pos ≤ no * 8 ∧ no * 8 + 8 ≤ pos + n) := by
  rw [within_iff]
  unfold Within' MaySpan May
  unfold maySp at h
  simp only
  omega
 unfold gone
 by_cases c1 : pos ≤ no * 8 <;> by_cases c2 : no * 8 + 8 ≤ pos + n <;> simp [e, c1, c2]
theorem extent_Punch_p {size : Int} {l : List Ext} {v : AV} (hv : SV encE 9 l v) (hl : l.length ≤ 1000000) (pos n : Int) :
  ∃ R, SV encE 9 (cL (punchC (size, l) pos n)) R ∧ BPure Try.prog 81 [.agg [I size, v], I pos, I n] (.tup [.agg [I (cS (punchC (size, l) pos n)), R], B (punchC (size, l) pos n).isSome]) := by
 refine BPure.cont (by simp [noIdss, noIds, hv.1]) (extent_Punch_ok ?_)
 unfold extent_Punch
 simp [oneA_sv hv, rdCells]
 refine bP_pure (zjfZ hv (by omega)) ?_
 by_cases h1 : mayC size l
 ·simp [h1]
  refine bP_pure (extent_span_p pos n) ?_
  by_cases h2 : maySp pos n
  ·have hw : punchC (size, l) pos n = some (size, punchL l pos n) := if_pos ⟨h1, h2⟩
   have h2' := h2
   obtain ⟨g1, g2, g3, g4⟩ := h2'
   simp [h2]
   obtain ⟨r, H2, ⟨w, rfl, a2, a3, a4, a5⟩, a1⟩ := copied_c (size := size) (hv.2 [some (.cells [I size, v]), some (.cells [I 0, nilSl])]) (oneA_sv hv) (by omega)
   refine bC_of a1 ?_
   have c0 := a4.cells (o := 0) (x := some (.cells [I size, v])) rfl
   have c2 := a4.cells (o := 1) (x := some (.cells [I 0, nilSl])) rfl
   have hl2 := a4.1
   simp only [List.length_cons, List.length_nil] at hl2
   have hwo := zbpZ a2
   have id0 : ∀ j, j < 2 → j ∉ idS w := fun j hj h => by have := a5 j h; simp at this; omega
   have hs0 := okL_srt h1.2.2
   have hno := fun x hx => (okL_all h1.2.2 x hx)
   rw [ast_ptr (n := 2) (off := 0) (x := .agg [I size, w]) (xs := [I size, w]) (by simp [hwo]) c0 rfl (by simp)]
   simp
   rw [ast_ptr (n := 2) (off := 0) (x := .agg [I pos, I n]) (xs := [I pos, I n]) (cs := [I 0, I 0]) (by simp) (by rw [List.getElem?_append_right (by simp)]; simp) rfl (by simp)]
   have hset : ((H2.set 0 (some (AObj.cells [I size, w]))) ++ [some (AObj.cells [I 0, I 0])]).set H2.length (some (AObj.cells (splice [I 0, I 0] 0 [I pos, I n]))) = (H2.set 0 (some (AObj.cells [I size, w]))) ++ [some (AObj.cells [I pos, I n])] := by
    rw [List.set_append_right _ _ (by simp)]; simp
   rw [hset]
   have g := Grew.app (H2.set 0 (some (AObj.cells [I size, w]))) [some (.cells [I pos, I n])]
   have keep0 : ∀ j x, j ≠ 0 → (H2.set 0 x)[j]? = H2[j]? := fun j x hj => List.getElem?_set_ne (by omega)
   have z0 := g.cells (o := 0) (x := some (.cells [I size, w])) (List.getElem?_set_self (by omega))
   have z1 := g.cells (o := 1) (x := some (.cells [I 0, nilSl])) (by rw [keep0 1 _ (by omega)]; exact c2)
   have z2 : (H2.set 0 (some (AObj.cells [I size, w])) ++ [some (AObj.cells [I pos, I n])])[H2.length]? = some (some (.cells [I pos, I n])) := by rw [List.getElem?_append_right (by simp)]; simp
   have zid : H2.length ∉ idS w := fun h => by have := zoZ a3 _ h; omega
   have hlen3 : (H2.set 0 (some (AObj.cells [I size, w])) ++ [some (AObj.cells [I pos, I n])]).length = H2.length + 1 := by simp
   have hw1 := g.slice (zbZ (H' := H2.set 0 (some (AObj.cells [I size, w]))) a3 fun i hi => keep0 i _ (fun h => id0 0 (by omega) (h ▸ hi)))
   generalize hH3 : (H2.set 0 (some (AObj.cells [I size, w])) ++ [some (AObj.cells [I pos, I n])]) = H3 at g z0 z1 z2 hw1 hlen3
   generalize H2.length = so at z2 zid hlen3 hl2
   simp [z0]
   obtain ⟨r2, H4, ⟨b1, b2, b3, b4, b5⟩, b6⟩ := zlsZ (k := 96) hw1 a2 (by omega) (oc := so) (c := encSp ⟨pos, n⟩) z2 zid (punch_del so ⟨pos, n⟩ l fun x hx => by have := hno x hx; omega)
   have hfe : (l.filter fun x => !decide (Within ⟨x.no * 8, 8⟩ ⟨pos, n⟩)) = l.filter fun x => !gone pos n x.no := List.filter_congr fun x hx => by
    have := hno x hx
    exact within_gone h2 (by omega) (by omega)
   rw [hfe] at b2
   refine bC_of b6 ?_
   have id3 : ∀ j, j < 2 → j ∉ idS r2 := fun j hj h => id0 j hj (b5 j h)
   have id4 : so ∉ idS r2 := fun h => zid (b5 so h)
   have d0 : H4[0]? = some (some (.cells [I size, w])) := by rw [b4 0 (by omega) (id0 0 (by omega))]; exact z0
   have d1 : H4[1]? = some (some (.cells [I 0, nilSl])) := by rw [b4 1 (by omega) (id0 1 (by omega))]; exact z1
   have d2 : H4[so]? = some (some (.cells [I pos, I n])) := by rw [b4 so (by omega) zid]; exact z2
   have hr2 := zbpZ b1
   rw [ast_ptr (n := 1) (off := 1) (xs := [r2]) (cs := [I size, w]) (zdoZ hr2) d0 rfl (by simp)]
   have hfl : (l.filter fun x => !gone pos n x.no).length ≤ l.length := List.length_filter_le _ _
   have hfm : ∀ x ∈ (l.filter fun x => !gone pos n x.no), 0 ≤ x.no ∧ x.no < 137438953472 := fun x hx => by
    have := hno x (List.mem_filter.1 hx).1; omega
   have hte : punchL l pos n = (l.filter fun x => !gone pos n x.no).map fun x => wipeE x pos (pos + n) := rfl
   generalize (l.filter fun x => !gone pos n x.no) = F at b2 hfl hfm hte
   simp [show 0 < H4.length by omega, zjrZ b2]
   have hsp : MaySpan ⟨pos, n⟩ := by simp only [MaySpan, May]; omega
   refine extent_Punch_L9_rule (fun t x3 x6 x8 x32 x33 H => ∃ i : Nat, i + t = F.length ∧ x3 = .ptr 0 0 ∧ x6 = .ptr 1 0 ∧ x8 = .ptr so 0 ∧ x32 = I F.length ∧ x33 = I i ∧ H[0]? = some (some (.cells [I size, r2])) ∧ H[1]? = some (some (.cells [I 0, nilSl])) ∧ H[so]? = some (some (.cells [I pos, I n])) ∧
    zaZ H 9 r2 = some (((F.take i).map (fun x => wipeE x pos (pos + n)) ++ F.drop i).flatMap encE, ((F.take i).map (fun x => wipeE x pos (pos + n)) ++ F.drop i).length)) ?_ F.length
    ⟨0, by omega, rfl, rfl, rfl, rfl, rfl, List.getElem?_set_self (by omega), (List.getElem?_set_ne (by omega)).trans d1, (List.getElem?_set_ne (by omega)).trans d2, ?_⟩
   ·rintro t x3 x6 x8 x32 x33 H R hR ⟨i, hi, rfl, rfl, rfl, rfl, rfl, e0, e1, e2, e3⟩
    unfold zhoZ
    have hH0 := (List.getElem?_eq_some_iff.1 e0).1
    have hH1 := (List.getElem?_eq_some_iff.1 e1).1
    have hH2 := (List.getElem?_eq_some_iff.1 e2).1
    rcases Nat.lt_or_ge i F.length with hlt | hge
    ·have hx := List.getElem?_eq_getElem hlt
     generalize F[i] = x at hx
     obtain ⟨x0, x1⟩ := hfm x (List.mem_of_getElem? hx)
     obtain ⟨p, H', f1, f2, f3, f4, f5⟩ := sl_wipe (s := ⟨pos, n⟩) e3 b1 (map_get hx) (a := i) rfl hsp x0 x1
     rw [map_set (f := fun x => wipeE x pos (pos + n)) hx] at f5
     simp [hlt, e0, e2, f1, rdCells]
     refine bC_of f2 ?_
     simp [abI_add (a := i) (b := 1) (by omega) (by omega)]
     refine hR (t - 1) _ _ _ _ _ _ (by omega) ⟨i + 1, by omega, rfl, rfl, rfl, rfl, rfl, by rw [f4 0 hH0 (id3 0 (by omega))]; exact e0, by rw [f4 1 hH1 (id3 1 (by omega))]; exact e1, by rw [f4 so hH2 id4]; exact e2, by rw [f5, map_len, map_len]⟩
    ·have : i = F.length := by omega
     subst this
     simp [e0, rdCells]
     rw [ast_ptr (n := 2) (off := 0) (xs := [I size, r2]) (cs := [I 0, nilSl]) (by simp [hr2]) e1 rfl (by simp)]
     simp [hH1]
     rw [List.take_length, List.drop_length, List.append_nil, ← hte] at e3
     exact ContK.some hw (zbZ e3 fun i hi => by
      have h2 : 2 ≤ i := Nat.le_of_not_lt fun h => id3 i h hi
      rw [List.getElem?_set_ne (by omega)])
   ·simp only [List.take_zero, List.map_nil, List.nil_append, List.drop_zero]
    exact zbZ b2 fun i hi => by
     have h2 : 2 ≤ i := Nat.le_of_not_lt fun h => id3 i h hi
     rw [List.getElem?_set_ne (by omega)]
  ·have hn : punchC (size, l) pos n = none := if_neg (fun h => h2 h.2)
   simp [h2, ast]
   exact ContK.none hn
 ·have hn : punchC (size, l) pos n = none := if_neg (fun h => h1 h.1)
  simp [h1, ast]
  exact ContK.none hn
end Go.Proofs.Ytofgloiebnppbaa.Av
end
/-! YtofgloiebnppbaaAvIx -/
section
/- Chapter 12: a file is called otherwise; its content is changed. -/
set_option linter.unusedVariables false
set_option linter.unusedSimpArgs false
set_option maxRecDepth 100000
namespace Go.Proofs.Ytofgloiebnppbaa.Av
open Go Go.RowKit

def renOk (ns : List Nm) (s t : List UInt8) : Prop := hasK Nm.name ns s ∧ mayN t ∧ s ≠ t
instance (ns : List Nm) (s t : List UInt8) : Decidable (renOk ns s t) := by unfold renOk; infer_instance
def renNs (ns : List Nm) (s t : List UInt8) : List Nm := if renOk ns s t then insK cmpN Nm.name (remNs (delK cmpN Nm.name ns s) t) ⟨t, nameI ns s⟩ else ns
def renDv (ns : List Nm) (dv : List NdV) (s t : List UInt8) : List NdV := if renOk ns s t then remDv (delK cmpN Nm.name ns s) dv t else dv
theorem remNs_srt {ns : List Nm} {t : List UInt8} (h : srtK cmpN Nm.name ns) : srtK cmpN Nm.name (remNs ns t) := by
 unfold remNs
 split
 ·exact srtK_del h
 ·exact h
theorem remNs_len {ns : List Nm} {t : List UInt8} : (remNs ns t).length ≤ ns.length := by
 unfold remNs
 split
 ·exact delK_sub.length_le
 ·exact Nat.le_refl _
theorem rename_c {L oi : Nat} {ns : List Nm} {dv : List NdV} {a b : AV} {H : AH} {s t : List UInt8} (h : ImH L oi ns dv a b H) (hs : srtK cmpN Nm.name ns) (hd : srtK cmpI NdV.ino dv) (hx : ∀ x ∈ ns, hasK NdV.ino dv x.ino) (hn : ns.length ≤ 100000) (hm : dv.length ≤ 100000) (ht : t.length ≤ 1000000000) :
  ∃ r H', ImP L oi H (renNs ns s t) (renDv ns dv s t) r H' ∧ BCall Try.prog 56 [.ptr oi 0, S (bstr s), S (bstr t)] H r H' := image_rename_ok (by
 obtain ⟨Ra, Rb, sa, sb, fz⟩ := h.lend
 have c0 := h.obj
 unfold image_rename
 have b0 : ∀ a b : AV, rdCells true 2 [a, b] 0 = some (.agg [a, b]) := fun _ _ => rfl
 have hno : ¬ renOk ns s t → ImP L oi H (renNs ns s t) (renDv ns dv s t) (.tup []) H := fun hc => by
  unfold renNs renDv
  rw [if_neg hc, if_neg hc]
  exact ⟨rfl, a, b, h, FrL.refl _ _ _⟩
 simp [c0, b0]
 refine bC_of (PCall.lend (FZs.cons fz (FZs.cons (FZ.lit _) FZs.nil)) rfl (named_p sa sb hs (by omega) s)).call ?_
 by_cases q1 : hasK Nm.name ns s
 ·simp [q1]
  refine bP_pure (MayName_p (s := t) (by omega)) ?_
  by_cases q2 : mayN t
  ·by_cases q3 : s = t
   ·simp [q2, abT_eql, q3]
    rw [← q3] at hno ⊢
    exact hno fun hc => hc.2.2 rfl
   ·have hc : renOk ns s t := ⟨q1, q2, q3⟩
    unfold renNs renDv
    rw [if_pos hc, if_pos hc]
    obtain ⟨x, hx1, hx2, hx3⟩ := posK_atK koN hs q1
    obtain ⟨o, off, cells, u1, u2, u3, u4, u5, -⟩ := own_at encN_len (by omega) h.sa h.oa hx1
    have u51 := u5 1 (by omega)
    have hpl := (List.getElem?_eq_some_iff.1 hx1).1
    have e1 : nameI ns s = x.ino := by unfold nameI; rw [hx2]
    simp [q2, abT_eql, q3, c0, b0, u1, u3, u51, encN, abI_add (a := (posK cmpN Nm.name ns s : Nat)) (b := 1) (by omega) (by omega)]
    obtain ⟨r1, H2, ⟨d1, d2, d3, d4, d5, d6⟩, d7⟩ := delN_c h.sa h.oa h.ca hpl (by omega)
    refine bC_of d7 ?_
    have l1 := delK_len (c := cmpN) (key := Nm.name) (k := s) hpl
    obtain ⟨H3, e3, n1, n2⟩ := h.newA (ms := delK cmpN Nm.name ns s) (Nat.le_of_eq d3.symm) (fun i _ hi => d4 i hi) (by rw [show (delK cmpN Nm.name ns s).length = ns.length - 1 by omega]; exact d2) d1 (by rw [show (delK cmpN Nm.name ns s).length = ns.length - 1 by omega]; exact d6) (fun i hi => .inl (d5 ▸ hi))
    simp [e3]
    have hs1 : srtK cmpN Nm.name (delK cmpN Nm.name ns s) := srtK_del hs
    obtain ⟨r4, H4, ⟨rfl, a4, b4, m1, m2⟩, m3⟩ := remove_c (s := t) n1 hs1 hd (fun y hy => hx y (delK_sub.subset hy)) (by omega) hm
    refine bC_of m3 ?_
    have c4 := m1.obj
    obtain ⟨Sa, Sb, ta, tb, gz⟩ := m1.lend
    have hs2 := remNs_srt (t := t) hs1
    have hl2 := remNs_len (ns := delK cmpN Nm.name ns s) (t := t)
    simp [c4, b0]
    refine bC_of (PCall.lend (FZs.cons gz (FZs.cons (FZ.lit _) FZs.nil)) rfl (named_p ta tb hs2 (by omega) t)).call ?_
    have g5 := Grew.app H4 [some (.cells (encN ⟨t, x.ino⟩))]
    have m5 := m1.grew g5
    have e5 : absl H4 2 1 (zrow [(.lit (.string ⟨#[]⟩)), (.lit (.int .i64 0))] 1) [(0, 2, .agg (encN ⟨t, x.ino⟩))] = some (.sl H4.length 0 1 2 (.ex 1), H4 ++ [some (.cells (encN ⟨t, x.ino⟩))]) := rfl
    have e6 : abl [(.lit (.string ⟨#[]⟩)), (.lit (.int .i64 0))] [(0, 1, S (bstr t)), (1, 1, I x.ino)] = some (.agg (encN ⟨t, x.ino⟩)) := rfl
    simp [c4, e5, e6]
    obtain ⟨r7, H7, ⟨k1, k2, k3, k4, k5, k6⟩, k7⟩ := insN_c (x := ⟨t, x.ino⟩) (oj := H4.length) m5.sa m5.oa m5.ca (posK_le (c := cmpN) (key := Nm.name) _ t) (by omega) (by simp) (fun hh => by have := zoZ m1.sa _ hh; omega)
    refine bC_of k7 ?_
    have el := insK_len (c := cmpN) (key := Nm.name) (l := remNs (delK cmpN Nm.name ns s) t) (x := ⟨t, x.ino⟩)
    obtain ⟨H8, e8, p1, p2⟩ := m5.newA (ms := insK cmpN Nm.name (remNs (delK cmpN Nm.name ns s) t) ⟨t, x.ino⟩) k3 k4 (by rw [el]; exact k2) k1 (by rw [el]; exact k6) k5
    simp [e8]
    rw [e1]
    have hle := m1.len
    exact ⟨rfl, _, _, p1, n2.trans (m2.trans ⟨Nat.le_trans g5.1 p2.1, fun j h1 h2 => (p2.2 j h1 h2).trans (g5.2 j (by omega))⟩)⟩
  ·simp [q2]
   exact hno fun hc => q2 hc.2.1
 ·simp [q1]
  exact hno fun hc => q1 hc.1)
/-! a content is changed -/
def chgC (o : OpM) (d : Nd) : Option Cont := if o.kind = 2 then writeC (d.size, d.l) o.pos o.b else if o.kind = 3 then truncC (d.size, d.l) o.size else if o.kind = 4 then allocC (d.size, d.l) o.pos o.size o.keep else if o.kind = 5 then punchC (d.size, d.l) o.pos o.size else none
def chgD (ds : List Nd) (o : OpM) : List Nd := match atK Nd.ino ds o.ino with
 | some d => match chgC o d with
  | some c => ds.set (posK cmpI Nd.ino ds o.ino) ⟨d.ino, c.1, c.2⟩
  | none => ds
 | none => ds
theorem change_tail {L oi k q : Nat} {ns : List Nm} {dv : List NdV} {a b R : AV} {H : AH} {x : NdV} {sz : Int} {l : List Ext} (h : ImH L oi ns dv a b H) (hx : dv[k]? = some x) (hR : SV encE 9 l R) (hq : H[q]? = some (some (.cells [I sz, R]))) (ok : Bool) :
  ∃ H', ImH L oi ns (if ok = true then dv.set k ⟨⟨x.nd.ino, sz, l⟩, R, hR⟩ else dv) a b H' ∧ FrL L oi H H' ∧ ∀ K : AV → AH → Prop, K (.tup []) H' → zcxZ (.ptr oi 0) (I k) (B ok) (.ptr q 0) H K := by
 cases ok with
 | false =>
  refine ⟨H, h, FrL.refl _ _ _, fun K hK => ?_⟩
  rw [zkcZ]; unfold zhsZ
  rw [ziyZ]; unfold zgyZ
  simpa using hK
 | true =>
  obtain ⟨o, off, cells, u1, u2, u3, u4, u5, u6⟩ := own_at encD_len (by omega) h.sb h.ob hx
  have oL := h.ib o u2
  have hoo : o ≠ oi := fun e => h.noB (e ▸ u2)
  have hle := h.len
  have o2 := SV.oneA hR
  have c0 := h.obj
  have hol := (List.getElem?_eq_some_iff.1 u3).1
  have e1 : ast 2 H (.ptr o (off + 1)) (.agg [I sz, R]) = some (H.set o (some (.cells (splice cells (off + 1) [I sz, R])))) := by
   rw [ast_ptr (n := 2) (xs := [I sz, R]) (by simp [o2]) u3 rfl (by omega)]
  refine ⟨H.set o (some (.cells (splice cells (off + 1) [I sz, R]))), ⟨?_, h.lo, by simp; omega, ?_, h.oa, h.ca, h.ia, ?_, h.ob, by simpa using h.cb, h.ib, h.ab⟩, ⟨by simp, fun j h1 h2 => List.getElem?_set_ne (by omega)⟩, fun K hK => ?_⟩
  ·rw [List.getElem?_set_ne (by omega)]; exact c0
  ·exact zbZ h.sa fun i hi => List.getElem?_set_ne (fun (e : o = i) => h.ab i hi (e ▸ u2))
  ·have := u6 ⟨⟨x.nd.ino, sz, l⟩, R, hR⟩ 1 [I sz, R] rfl (by simp)
   simpa using this
  ·rw [zkcZ]; unfold zhsZ
   rw [ziyZ]; unfold zgyZ
   have b0 : rdCells true 2 [I sz, R] 0 = some (.agg [I sz, R]) := rfl
   simp only [bB_bool, bI_true]
   have e3 : ald false 1 H (.ptr oi 1) = some b := by rw [ald_ptr c0]; rfl
   have e4 : ald true 2 H (.ptr q 0) = some (.agg [I sz, R]) := by rw [ald_ptr hq]; rfl
   show bO (some (AV.ptr oi 0)) _
   simp only [bO_some]
   show bO (some (AV.ptr oi 1)) _
   simp only [bO_some, e3, e4, u1]
   show bO (some (AV.ptr o (off + 1))) _
   simp only [bO_some, e1, bS_some]
   exact hK
def ChP (L oi : Nat) (H : AH) (ns : List Nm) (ds : List Nd) (r : AV) (H' : AH) : Prop := r = .tup [] ∧ ∃ a b dv, dv.map NdV.nd = ds ∧ ImH L oi ns dv a b H' ∧ FrL L oi H H'
theorem change_c {L oi : Nat} {ns : List Nm} {dv : List NdV} {a b bv : AV} {H : AH} {o : OpM} (h : ImH L oi ns dv a b H) (hs : srtK cmpN Nm.name ns) (hd : srtK cmpI NdV.ino dv) (hb : SV encU 1 o.b bv) (hm : dv.length ≤ 100000) (hbl : o.b.length ≤ 281474976710656) (hl : ∀ d ∈ dv, d.nd.l.length ≤ 1000000) (hk : o.kind = 2 ∨ o.kind = 3 ∨ o.kind = 4 ∨ o.kind = 5) :
  ∃ r H', ChP L oi H ns (chgD (dv.map NdV.nd) o) r H' ∧ BCall Try.prog 55 [.ptr oi 0, .agg (opA o bv)] H r H' := image_change_ok (by
 obtain ⟨H1, e1, hp, h1, f1⟩ := op_new h o (SV.oneA hb)
 obtain ⟨Ra, Rb, sa, sb, fz⟩ := h1.lend
 have c0 := h1.obj
 unfold image_change
 simp only [e1, bH_some]
 have b0 : rdCells true 2 [a, b] 0 = some (.agg [a, b]) := rfl
 simp [hp, c0, b0, opA]
 refine bC_of (PCall.lend (FZs.cons fz (FZs.cons (FZ.lit _) FZs.nil)) rfl (node_p sa sb hd (by omega) o.ino)).call ?_
 by_cases q1 : hasK NdV.ino dv o.ino
 ·obtain ⟨x, hx1, hx2, hx3⟩ := posK_atK koI hd q1
  obtain ⟨oo, off, cells, u1, u2, u3, u4, u5, u6⟩ := own_at encD_len (by omega) h1.sb h1.ob hx1
  have hxl := hl x (List.mem_of_getElem? hx1)
  have rd1 : rdCells true 2 cells (off + 1) = some (.agg [I x.nd.size, x.R]) := by
   have e51 := u5 1 (by omega)
   have e52 := u5 2 (by omega)
   have l2 : off + 1 + 2 ≤ cells.length := by omega
   have : (cells.drop (off + 1)).take 2 = [I x.nd.size, x.R] := by
    rw [List.drop_eq_getElem_cons (by omega), List.drop_eq_getElem_cons (by omega)]
    rw [List.getElem?_eq_getElem (by omega)] at e51 e52
    simp [encD] at e51 e52
    simp [e51, e52]
   simp [rdCells, l2, this]
  have o1 := SV.oneA x.h
  have fin : ∀ (res : Option Cont) (R : AV) (Hc : AH) (sR : SV encE 9 (cL res) R), chgC o x.nd = res → ImH L oi ns dv a b Hc → FrL L oi H1 Hc → ∀ q, Hc[q]? = some (some (.cells [I (cS res), R])) → zcxZ (.ptr oi 0) (I (posK cmpI NdV.ino dv o.ino)) (B res.isSome) (.ptr q 0) Hc (ChP L oi H ns (chgD (dv.map NdV.nd) o)) := by
   intro res R Hc sR hr hc fc q hq
   obtain ⟨H9, w1, w2, w3⟩ := change_tail hc hx1 sR hq res.isSome
   refine w3 _ ⟨rfl, _, _, _, ?_, w1, f1.trans (fc.trans w2)⟩
   unfold chgD
   rw [atK_map hx2]
   simp only [hr]
   cases res with
   | none => rfl
   | some c =>
    simp only [Option.isSome_some, if_true, List.map_set, posK_map]
    rfl
  simp [q1, c0, u1, u3, rd1]
  obtain ⟨H2, e2, hq2, hp2, h2, f2⟩ : ∃ H2, ast 2 (H1 ++ [some (.cells [I 0, nilSl])]) (.ptr H1.length 0) (.agg [I x.nd.size, x.R]) = some H2 ∧ H2[H1.length]? = some (some (.cells [I x.nd.size, x.R])) ∧ H2[H.length]? = some (some (.cells (opA o bv))) ∧ ImH L oi ns dv a b H2 ∧ FrL L oi H1 H2 := by
   have g := Grew.app H1 [some (.cells [I x.nd.size, x.R])]
   have hle := h1.len
   exact ⟨_, by simp [ast, splice, o1, zdoZ o1], by simp, g.cells hp, h1.grew g, g.1, fun j i1 i2 => g.2 j (by omega)⟩
  have hol2 := (List.getElem?_eq_some_iff.1 hq2).1
  have hql : L ≤ H1.length := h1.len
  have put : ∀ (sz : Int) (R : AV), oneA R = true → ast 2 H2 (.ptr H1.length 0) (.agg [I sz, R]) = some (H2.set H1.length (some (.cells [I sz, R]))) ∧ ImH L oi ns dv a b (H2.set H1.length (some (.cells [I sz, R]))) ∧ FrL L oi H1 (H2.set H1.length (some (.cells [I sz, R]))) ∧ (H2.set H1.length (some (.cells [I sz, R])))[H1.length]? = some (some (.cells [I sz, R])) := by
   intro sz R hR
   have hlo := (List.getElem?_eq_some_iff.1 h1.obj).1
   refine ⟨?_, ⟨?_, h2.lo, by simpa using h2.len, ?_, h2.oa, h2.ca, h2.ia, ?_, h2.ob, h2.cb, h2.ib, h2.ab⟩, ⟨by simpa using f2.1, fun j i1 i2 => ?_⟩, by simp [hol2]⟩
   ·rw [ast_ptr (n := 2) (off := 0) (xs := [I sz, R]) (by simp [hR]) hq2 rfl (by simp)]; rfl
   ·rw [List.getElem?_set_ne (by omega)]; exact h2.obj
   ·exact zbZ h2.sa fun i hi => List.getElem?_set_ne (by have := zoZ h1.sa i hi; omega)
   ·exact zbZ h2.sb fun i hi => List.getElem?_set_ne (by have := zoZ h1.sb i hi; omega)
   ·rw [List.getElem?_set_ne (by omega)]; exact f2.2 j i1 i2
  have b1 : ∀ (s : Int) (R : AV), rdCells true 2 [I s, R] 0 = some (.agg [I s, R]) := fun _ _ => rfl
  simp [e2, hp2, opA]
  rcases hk with hk | hk | hk | hk
  ·simp [hk, hq2, b1, hp2, opA]
   obtain ⟨R, s1, p1⟩ := extent_Write_p x.h hxl o.pos hb hbl
   refine bP_pure p1 ?_
   obtain ⟨t1, t2, t3, t4⟩ := put (cS (writeC (x.nd.size, x.nd.l) o.pos o.b)) R (SV.oneA s1)
   simp [t1]
   exact fin _ R _ s1 (by unfold chgC; rw [if_pos hk]) t2 t3 _ t4
  ·simp [hk, hq2, b1, hp2, opA]
   obtain ⟨R, s1, p1⟩ := zksZ (size0 := x.nd.size) x.h hxl o.size
   refine bP_pure p1 ?_
   obtain ⟨t1, t2, t3, t4⟩ := put (cS (truncC (x.nd.size, x.nd.l) o.size)) R (SV.oneA s1)
   simp [t1]
   exact fin _ R _ s1 (by unfold chgC; rw [if_neg (by omega), if_pos hk]) t2 t3 _ t4
  ·simp [hk, hq2, b1, hp2, opA]
   obtain ⟨R, s1, p1⟩ := extent_Allocate_p (size := x.nd.size) x.h hxl o.pos o.size o.keep
   refine bP_pure p1 ?_
   obtain ⟨t1, t2, t3, t4⟩ := put (cS (allocC (x.nd.size, x.nd.l) o.pos o.size o.keep)) R (SV.oneA s1)
   simp [t1]
   exact fin _ R _ s1 (by unfold chgC; rw [if_neg (by omega), if_neg (by omega), if_pos hk]) t2 t3 _ t4
  ·simp [hk, hq2, b1, hp2, opA]
   obtain ⟨R, s1, p1⟩ := extent_Punch_p (size := x.nd.size) x.h hxl o.pos o.size
   refine bP_pure p1 ?_
   obtain ⟨t1, t2, t3, t4⟩ := put (cS (punchC (x.nd.size, x.nd.l) o.pos o.size)) R (SV.oneA s1)
   simp [t1]
   exact fin _ R _ s1 (by unfold chgC; rw [if_neg (by omega), if_neg (by omega), if_neg (by omega), if_pos hk]) t2 t3 _ t4
 ·simp [q1]
  refine ⟨rfl, a, b, dv, ?_, h1, f1⟩
  unfold chgD
  rw [atK_none (fun hh => q1 (hasK_map.1 hh))])
end Go.Proofs.Ytofgloiebnppbaa.Av
end
/-! YtofgloiebnppbaaAvIy -/
section
/- Chapter 12: an image is copied; a change of it. -/
set_option linter.unusedVariables false
set_option linter.unusedSimpArgs false
set_option maxRecDepth 100000
namespace Go.Proofs.Ytofgloiebnppbaa.Av
open Go Go.RowKit

theorem cloneN_c {H : AH} {v : AV} {cs : List AV} {n : Nat} (h : zaZ H 2 v = some (cs, n)) (hn : n ≤ 1000000000) :
  ∃ r H', (ownedS r = true ∧ zaZ H' 2 r = some (cs, n) ∧ Grew H H' ∧ (∀ i ∈ idS r, H.length ≤ i) ∧ capOk r n) ∧ BCall Try.prog 58 [v] H r H' := zgdZ (by
 unfold zcaZ
 rcases nilS_slice h with ⟨rfl, rfl, rfl⟩ | hb
 ·have e : abN .eql nilS nilSl nilSl = some (B true) := rfl
  simp only [e, bO_some, bB_bool, bI_true]
  exact ⟨rfl, h, Grew.refl H, by simp [idS], by simp [capOk]⟩
 ·simp only [hb, bO_some, bB_bool, zwZ]
  have e : absl H 2 0 (zrow [(.lit (.string ⟨#[]⟩)), (.lit (.int .i64 0))] 0) [] = some (.sl H.length 0 0 2 (.ex 0), H ++ [some (.cells [])]) := rfl
  simp only [e, bH_some]
  have g := Grew.app H [some (.cells [])]
  have h0 : zaZ (H ++ [some (.cells [])]) 2 (.sl H.length 0 0 2 (.ex 0)) = some ([], 0) := by simp [zaZ]
  obtain ⟨r, H2, a1, a2, a3, a4, a5, a6⟩ := aap_spec (sz := 2) (bytes := 24) (H := H ++ [some (.cells [])]) (v := .sl H.length 0 0 2 (.ex 0)) (cs := []) (n := 0) h0 rfl (ztZ (g.slice h)) (by omega)
  have a7 := aap_cap h0 rfl (ztZ (g.slice h)) (by simp [capOk]) a1
  simp only [a1, bH_some]
  refine ⟨a2, by simpa using a3, ⟨by simp at a4; omega, fun i hi => ?_⟩, fun i hi => ?_, by simpa using a7⟩
  ·rw [a5 i (by simp; omega) (by simp [idS]; omega)]
   exact g.2 i hi
  ·rcases a6 i hi with h | h
   ·simp [idS] at h; omega
   ·simp at h; omega)
theorem cloneD_c {H : AH} {v : AV} {cs : List AV} {n : Nat} (h : zaZ H 3 v = some (cs, n)) (hn : n ≤ 1000000000) :
  ∃ r H', (ownedS r = true ∧ zaZ H' 3 r = some (cs, n) ∧ Grew H H' ∧ (∀ i ∈ idS r, H.length ≤ i) ∧ capOk r n) ∧ BCall Try.prog 59 [v] H r H' := zfyZ (by
 unfold zbyZ
 rcases nilS_slice h with ⟨rfl, rfl, rfl⟩ | hb
 ·have e : abN .eql nilS nilSl nilSl = some (B true) := rfl
  simp only [e, bO_some, bB_bool, bI_true]
  exact ⟨rfl, h, Grew.refl H, by simp [idS], by simp [capOk]⟩
 ·simp only [hb, bO_some, bB_bool, zwZ]
  have e : absl H 3 0 (zrow [(.lit (.int .i64 0)), (.lit (.int .i64 0)), (.lit (.slice none 0 0))] 0) [] = some (.sl H.length 0 0 3 (.ex 0), H ++ [some (.cells [])]) := rfl
  simp only [e, bH_some]
  have g := Grew.app H [some (.cells [])]
  have h0 : zaZ (H ++ [some (.cells [])]) 3 (.sl H.length 0 0 3 (.ex 0)) = some ([], 0) := by simp [zaZ]
  obtain ⟨r, H2, a1, a2, a3, a4, a5, a6⟩ := aap_spec (sz := 3) (bytes := 40) (H := H ++ [some (.cells [])]) (v := .sl H.length 0 0 3 (.ex 0)) (cs := []) (n := 0) h0 rfl (ztZ (g.slice h)) (by omega)
  have a7 := aap_cap h0 rfl (ztZ (g.slice h)) (by simp [capOk]) a1
  simp only [a1, bH_some]
  refine ⟨a2, by simpa using a3, ⟨by simp at a4; omega, fun i hi => ?_⟩, fun i hi => ?_, by simpa using a7⟩
  ·rw [a5 i (by simp; omega) (by simp [idS]; omega)]
   exact g.2 i hi
  ·rcases a6 i hi with h | h
   ·simp [idS] at h; omega
   ·simp at h; omega)
structure OwI (L : Nat) (ns : List Nm) (dv : List NdV) (a b : AV) (H : AH) : Prop where
 sa : zaZ H 2 a = some (ns.flatMap encN, ns.length)
 oa : ownedS a = true
 ca : capOk a ns.length
 ia : ∀ i ∈ idS a, L ≤ i
 sb : zaZ H 3 b = some (dv.flatMap encD, dv.length)
 ob : ownedS b = true
 cb : capOk b dv.length
 ib : ∀ i ∈ idS b, L ≤ i
 ab : ∀ i ∈ idS a, i ∉ idS b
def CopyK (H : AH) (ns : List Nm) (ds : List Nd) (r : AV) (H' : AH) : Prop := ∃ a b dv, r = .agg [a, b] ∧ dv.map NdV.nd = ds ∧ Grew H H' ∧ OwI H.length ns dv a b H'
theorem ImH.putD {L oi k : Nat} {ns : List Nm} {dv : List NdV} {a b R : AV} {H : AH} {x : NdV} {sz : Int} {l : List Ext} (h : ImH L oi ns dv a b H) (hx : dv[k]? = some x) (hR : SV encE 9 l R) :
  ∃ o off cells H', aixS 3 b (I k) = some (.ptr o off) ∧ H[o]? = some (some (.cells cells)) ∧ rdCells true 2 cells (off + 1) = some (.agg [I x.nd.size, x.R]) ∧ ast 2 H (.ptr o (off + 1)) (.agg [I sz, R]) = some H' ∧ ImH L oi ns (dv.set k ⟨⟨x.nd.ino, sz, l⟩, R, hR⟩) a b H' ∧ FrL L oi H H' := by
 obtain ⟨o, off, cells, u1, u2, u3, u4, u5, u6⟩ := own_at encD_len (by omega) h.sb h.ob hx
 have oL := h.ib o u2
 have hoo : o ≠ oi := fun e => h.noB (e ▸ u2)
 have hle := h.len
 have o2 := SV.oneA hR
 have hol := (List.getElem?_eq_some_iff.1 u3).1
 have rd1 : rdCells true 2 cells (off + 1) = some (.agg [I x.nd.size, x.R]) := by
  have e51 := u5 1 (by omega)
  have e52 := u5 2 (by omega)
  have l2 : off + 1 + 2 ≤ cells.length := by omega
  have : (cells.drop (off + 1)).take 2 = [I x.nd.size, x.R] := by
   rw [List.drop_eq_getElem_cons (by omega), List.drop_eq_getElem_cons (by omega)]
   rw [List.getElem?_eq_getElem (by omega)] at e51 e52
   simp [encD] at e51 e52
   simp [e51, e52]
  simp [rdCells, l2, this]
 refine ⟨o, off, cells, H.set o (some (.cells (splice cells (off + 1) [I sz, R]))), u1, u3, rd1, ?_, ⟨?_, h.lo, by simp; omega, ?_, h.oa, h.ca, h.ia, ?_, h.ob, by simpa using h.cb, h.ib, h.ab⟩, ⟨by simp, fun j h1 h2 => List.getElem?_set_ne (by omega)⟩⟩
 ·rw [ast_ptr (n := 2) (xs := [I sz, R]) (by simp [o2]) u3 rfl (by omega)]
 ·rw [List.getElem?_set_ne (by omega)]; exact h.obj
 ·exact zbZ h.sa fun i hi => List.getElem?_set_ne (fun (e : o = i) => h.ab i hi (e ▸ u2))
 ·have := u6 ⟨⟨x.nd.ino, sz, l⟩, R, hR⟩ 1 [I sz, R] rfl (by simp)
  simpa using this
theorem Copy_c {H : AH} {ns : List Nm} {dv : List NdV} {a b : AV} (sa : SV encN 2 ns a) (sb : SV encD 3 dv b) (hn : ns.length ≤ 100000) (hm : dv.length ≤ 100000) (hl : ∀ d ∈ dv, d.nd.l.length ≤ 1000000) :
  ∃ r H', CopyK H ns (dv.map NdV.nd) r H' ∧ BCall Try.prog 40 [.agg [a, b]] H r H' := image_Copy_ok (by
 unfold image_Copy
 have oa := SV.oneA sa
 have ob := SV.oneA sb
 obtain ⟨H3, e3, c0, c1, g3, l3⟩ : ∃ H3, anew (H ++ [some (.cells [a, b])]) (.agg [nilSl, nilSl]) = some (.ptr (H.length + 1) 0, H3) ∧ H3[H.length]? = some (some (.cells [a, b])) ∧ H3[H.length + 1]? = some (some (.cells [nilSl, nilSl])) ∧ Grew H H3 ∧ H3.length = H.length + 2 := by
  refine ⟨H ++ [some (.cells [a, b]), some (.cells [nilSl, nilSl])], by simp, by simp, by rw [List.getElem?_append_right (by omega)]; simp, Grew.app _ _, by simp⟩
 simp [oa, ob, e3, c0]
 obtain ⟨ra, H7, ⟨p1, p2, p3, p4, p5⟩, p6⟩ := cloneN_c (sa.2 H3) (by omega)
 refine bC_of p6 ?_
 have c7 := p3.cells c0
 simp [c7]
 obtain ⟨rb, H11, ⟨q1, q2, q3, q4, q5⟩, q6⟩ := cloneD_c (sb.2 H7) (by omega)
 refine bC_of q6 ?_
 have c8 := q3.cells c7
 have ra1 := zbpZ p1
 have rb1 := zbpZ q1
 have l7 := p3.1
 have l11 := q3.1
 have i0 : ImH (H.length + 2) H.length ns dv ra rb (H11.set H.length (some (.cells [ra, rb]))) := by
  refine ⟨by rw [List.getElem?_set_self (by omega)], ⟨fun q => by have := p4 _ q; omega, fun q => by have := q4 _ q; omega⟩, by rw [List.length_set]; omega, ?_, p1, p5, fun i hi => by have := p4 i hi; omega, ?_, q1, q5, fun i hi => by have := q4 i hi; omega, fun i hi hh => ?_⟩
  ·exact zbZ (q3.slice p2) fun i hi => List.getElem?_set_ne (by have := p4 i hi; omega)
  ·exact zbZ q2 fun i hi => List.getElem?_set_ne (by have := q4 i hi; omega)
  ·have := q4 i hh; have := zoZ p2 i hi; omega
 have e13 : ast 2 H11 (.ptr H.length 0) (.agg [ra, rb]) = some (H11.set H.length (some (.cells [ra, rb]))) := by
  rw [ast_ptr (n := 2) (off := 0) (xs := [ra, rb]) (by simp [ra1, rb1]) c8 rfl (by simp)]; rfl
 have g13 : Grew H (H11.set H.length (some (.cells [ra, rb]))) := ⟨by simp; omega, fun i hi => by rw [List.getElem?_set_ne (by omega), (g3.trans (p3.trans q3)).2 i hi]⟩
 have c13 : (H11.set H.length (some (.cells [ra, rb])))[H.length + 1]? = some (some (.cells [nilSl, nilSl])) := by
  rw [List.getElem?_set_ne (by omega)]; exact q3.cells (p3.cells c1)
 generalize H11.set H.length (some (.cells [ra, rb])) = H13 at i0 e13 g13 c13
 have d0 := i0.obj
 simp [zdoZ ra1, zdoZ rb1, e13]
 have ln := zjrZ i0.sb
 simp [d0, ln]
 refine image_Copy_L4_rule (fun n x1 x2 x13 x14 H' => ∃ (k : Nat) (ew : List NdV), k + n = dv.length ∧ x1 = .ptr H.length 0 ∧ x2 = .ptr (H.length + 1) 0 ∧ x13 = I dv.length ∧ x14 = I k ∧ ew.map NdV.nd = dv.map NdV.nd ∧ ImH (H.length + 2) H.length ns ew ra rb H' ∧ Grew H H' ∧ H'[H.length + 1]? = some (some (.cells [nilSl, nilSl]))) ?_ dv.length ⟨0, dv, by omega, rfl, rfl, rfl, rfl, rfl, i0, g13, c13⟩
 rintro n x1 x2 x13 x14 H' R hR ⟨k, ew, hk, rfl, rfl, rfl, rfl, hew, hi, hg, hc⟩
 unfold zjlZ
 have el : ew.length = dv.length := by have := congrArg List.length hew; simpa using this
 have e0 := hi.obj
 rcases Nat.lt_or_ge k dv.length with h | h
 ·have hx := List.getElem?_eq_getElem (l := ew) (i := k) (by omega)
  generalize ew[k] = x at hx
  have hxl : x.nd.l.length ≤ 1000000 := by
   have h1 : x.nd ∈ ew.map NdV.nd := List.mem_map_of_mem (List.mem_of_getElem? hx)
   rw [hew] at h1
   obtain ⟨d, hd, e⟩ := List.mem_map.1 h1
   rw [← e]; exact hl d hd
  obtain ⟨R2, s2, p2⟩ := copied_p (size := x.nd.size) x.h (by omega)
  obtain ⟨o, off, cells, H2, w1, w2, w3, w4, w5, w6⟩ := hi.putD (sz := x.nd.size) hx s2
  simp [h, e0, w1, w2, w3]
  refine bP_of p2 ?_
  simp [w4, abI_add (a := k) (b := 1) (by omega) (by omega)]
  refine hR (n - 1) _ _ _ _ _ (by omega) ⟨k + 1, _, by omega, rfl, rfl, rfl, by simp, ?_, w5, ⟨by have := hg.1; have := w6.1; omega, fun i hi2 => by rw [w6.2 i (by omega) (by omega), hg.2 i hi2]⟩, by rw [w6.2 _ (by omega) (by omega)]; exact hc⟩
  rw [← hew, List.map_set]
  refine List.ext_getElem? fun j => ?_
  rw [List.getElem?_set]
  split
  ·rename_i hj
   subst hj
   rw [List.getElem?_map, hx]
   simp; omega
  ·rfl
 ·have b0 : rdCells true 2 [ra, rb] 0 = some (.agg [ra, rb]) := rfl
  have hcl := (List.getElem?_eq_some_iff.1 hc).1
  have e5 : ast 2 H' (.ptr (H.length + 1) 0) (.agg [ra, rb]) = some (H'.set (H.length + 1) (some (.cells [ra, rb]))) := by
   rw [ast_ptr (n := 2) (off := 0) (xs := [ra, rb]) (by simp [ra1, rb1]) hc rfl (by simp)]; rfl
  simp [show ¬ k < dv.length by omega, e0, b0, e5, hcl]
  refine ⟨ra, rb, ew, rfl, hew, ⟨by simpa using hg.1, fun i hi2 => by rw [List.getElem?_set_ne (by omega), hg.2 i hi2]⟩, ⟨?_, hi.oa, hi.ca, fun i q => by have := hi.ia i q; omega, ?_, hi.ob, hi.cb, fun i q => by have := hi.ib i q; omega, hi.ab⟩⟩
  ·exact zbZ hi.sa fun i q => List.getElem?_set_ne (by have := hi.ia i q; omega)
  ·exact zbZ hi.sb fun i q => List.getElem?_set_ne (by have := hi.ib i q; omega))
/-! a change -/
def creI (ns : List Nm) (ds : List Nd) (o : OpM) : Prop := ¬ hasK Nm.name ns o.name ∧ ¬ hasK Nd.ino ds o.ino ∧ mayN o.name ∧ 1 ≤ o.ino ∧ o.ino ≤ 4611686018427387904 ∧ ns.length < 16
instance (ns : List Nm) (ds : List Nd) (o : OpM) : Decidable (creI ns ds o) := by unfold creI; infer_instance
def remD (ns : List Nm) (ds : List Nd) (s : List UInt8) : List Nd := if hasK Nm.name ns s then delK cmpI Nd.ino ds (nameI ns s) else ds
def applyI (ns : List Nm) (ds : List Nd) (o : OpM) : List Nm × List Nd :=
 if mayI ns ds then
  if o.kind = 1 then (if creI ns ds o then (insK cmpN Nm.name ns ⟨o.name, o.ino⟩, insK cmpI Nd.ino ds ⟨o.ino, 0, []⟩) else (ns, ds))
  else if o.kind = 2 ∨ o.kind = 3 ∨ o.kind = 4 ∨ o.kind = 5 then (ns, chgD ds o)
  else if o.kind = 6 then (if renOk ns o.name o.to then (insK cmpN Nm.name (remNs (delK cmpN Nm.name ns o.name) o.to) ⟨o.to, nameI ns o.name⟩, remD (delK cmpN Nm.name ns o.name) ds o.to) else (ns, ds))
  else if o.kind = 7 then (remNs ns o.name, remD ns ds o.name)
  else (ns, ds)
 else (ns, ds)
theorem insK_map {dv : List NdV} {i : Int} : (insK cmpI NdV.ino dv (newD i)).map NdV.nd = insK cmpI Nd.ino (dv.map NdV.nd) ⟨i, 0, []⟩ := by
 unfold insK
 rw [posK_map, List.map_append, List.map_cons, List.map_take, List.map_drop]
 rfl
theorem delK_map {dv : List NdV} {k : Int} : (delK cmpI NdV.ino dv k).map NdV.nd = delK cmpI Nd.ino (dv.map NdV.nd) k := by
 unfold delK
 rw [posK_map, List.map_append, List.map_take, List.map_drop]
theorem remDv_map {ns : List Nm} {dv : List NdV} {s : List UInt8} : (remDv ns dv s).map NdV.nd = remD ns (dv.map NdV.nd) s := by
 unfold remDv remD
 split
 ·exact delK_map
 ·rfl
theorem creOk_map {ns : List Nm} {dv : List NdV} {o : OpM} : creI ns (dv.map NdV.nd) o ↔ creOk ns dv o := by
 unfold creI creOk
 rw [hasK_map]
def ApK (p : List Nm × List Nd) (r : AV) (X : AH) : Prop := ∃ R, FZ X r R ∧ ImV p.1 p.2 R
theorem apply_fin {ns : List Nm} {dv : List NdV} {a b : AV} {H : AH} {p : List Nm × List Nd} (h : ImH 3 0 ns dv a b H) (h2 : H[2]? = some (some (.cells [nilSl, nilSl]))) (hp : p = (ns, dv.map NdV.nd)) : zdsZ (.ptr 0 0) (.ptr 2 0) H (ApK p) := by
 rw [zkwZ]; unfold zinZ
 have c0 := h.obj
 have b0 : rdCells true 2 [a, b] 0 = some (.agg [a, b]) := rfl
 have ra1 := zbpZ h.oa
 have rb1 := zbpZ h.ob
 have hcl := (List.getElem?_eq_some_iff.1 h2).1
 have e5 : ast 2 H (.ptr 2 0) (.agg [a, b]) = some (H.set 2 (some (.cells [a, b]))) := by
  rw [ast_ptr (n := 2) (off := 0) (xs := [a, b]) (by simp [ra1, rb1]) h2 rfl (by simp)]; rfl
 simp [c0, b0, e5, hcl]
 have h3 : ImH 3 0 ns dv a b (H.set 2 (some (.cells [a, b]))) := ⟨by rw [List.getElem?_set_ne (by omega)]; exact c0, h.lo, by simpa using h.len, zbZ h.sa fun i q => List.getElem?_set_ne (by have := h.ia i q; omega), h.oa, h.ca, h.ia, zbZ h.sb fun i q => List.getElem?_set_ne (by have := h.ib i q; omega), h.ob, h.cb, h.ib, h.ab⟩
 obtain ⟨Ra, Rb, sa, sb, fz⟩ := h3.lend
 subst hp
 exact ⟨_, fz, Ra, Rb, dv, rfl, sa, sb, rfl⟩
theorem Apply_p {ns : List Nm} {ds : List Nd} {v bv : AV} {o : OpM} (hv : ImV ns ds v) (hb : Sm ns ds) (hbv : SV encU 1 o.b bv) (hbl : o.b.length ≤ 281474976710656) (hn : o.name.length ≤ 1000000000) (ht : o.to.length ≤ 1000000000) :
  ∃ R, ImV (applyI ns ds o).1 (applyI ns ds o).2 R ∧ BPure Try.prog 39 [v, .agg (opA o bv)] R := by
 have hids := hv.noIds
 refine BPure.FZ (by simp [noIdss] at hids ⊢; exact ⟨hids, by simp [opA, noIds, noIdss, hbv.1]⟩) (image_Apply_ok (K := ApK (applyI ns ds o)) ?_)
 obtain ⟨a, b, dv, rfl, sa, sb, rfl⟩ := hv
 have b1 := hb.1
 have b2 := hb.2.1
 rw [List.length_map] at b2
 have oa := SV.oneA sa
 have ob := SV.oneA sb
 have o3 := SV.oneA hbv
 unfold image_Apply
 obtain ⟨H5, e5, c0, c1, c2, l5⟩ : ∃ H5, anew [some (.cells [a, b]), some (.cells (opA o bv))] (.agg [nilSl, nilSl]) = some (.ptr 2 0, H5) ∧ H5[0]? = some (some (.cells [a, b])) ∧ H5[1]? = some (some (.cells (opA o bv))) ∧ H5[2]? = some (some (.cells [nilSl, nilSl])) ∧ H5.length = 3 :=
  ⟨[some (.cells [a, b]), some (.cells (opA o bv)), some (.cells [nilSl, nilSl])], by simp, rfl, rfl, rfl, rfl⟩
 have e4 : anew [some (.cells [a, b])] (.agg (opA o bv)) = some (.ptr 1 0, [some (.cells [a, b]), some (.cells (opA o bv))]) := by simp [opA, o3]
 have b0 : ∀ x y : AV, rdCells true 2 [x, y] 0 = some (.agg [x, y]) := fun _ _ => rfl
 simp [oa, ob, e4, e5, c0, b0]
 obtain ⟨r, H8, ⟨a', b', ew, rfl, hew, hg, ow⟩, hc⟩ := Copy_c (H := H5) sa sb (by omega) b2 (fun d hd => hb.2.2.2 d.nd (List.mem_map_of_mem hd))
 refine bC_of hc ?_
 have a1 := zbpZ ow.oa
 have a2 := zbpZ ow.ob
 have l8 := hg.1
 rw [l5] at ow
 have e9 : ast 2 H8 (.ptr 0 0) (.agg [a', b']) = some (H8.set 0 (some (.cells [a', b']))) := by
  rw [ast_ptr (n := 2) (off := 0) (xs := [a', b']) (by simp [a1, a2]) (hg.cells c0) rfl (by simp)]; rfl
 have i9 : ImH 3 0 ns ew a' b' (H8.set 0 (some (.cells [a', b']))) := ⟨by rw [List.getElem?_set_self (by omega)], ⟨fun q => by have := ow.ia _ q; omega, fun q => by have := ow.ib _ q; omega⟩, by rw [List.length_set]; omega, zbZ ow.sa fun i q => List.getElem?_set_ne (by have := ow.ia i q; omega), ow.oa, ow.ca, ow.ia, zbZ ow.sb fun i q => List.getElem?_set_ne (by have := ow.ib i q; omega), ow.ob, ow.cb, ow.ib, ow.ab⟩
 have k1 : (H8.set 0 (some (.cells [a', b'])))[1]? = some (some (.cells (opA o bv))) := by rw [List.getElem?_set_ne (by omega)]; exact hg.cells c1
 have k2 : (H8.set 0 (some (.cells [a', b'])))[2]? = some (some (.cells [nilSl, nilSl])) := by rw [List.getElem?_set_ne (by omega)]; exact hg.cells c2
 simp only [e9, bS_some]
 generalize H8.set 0 (some (.cells [a', b'])) = H9 at i9 k1 k2
 have d0 := i9.obj
 obtain ⟨Ra, Rb, ta, tb, fz⟩ := i9.lend
 have hsm : Sm ns (ew.map NdV.nd) := by rw [hew]; exact hb
 have keep : ∀ {H' : AH}, FrL 3 0 H9 H' → H'[2]? = some (some (.cells [nilSl, nilSl])) := fun f => by rw [f.2 2 (by omega) (by omega)]; exact k2
 rw [← hew]
 have b8 : rdCells true 8 (opA o bv) 0 = some (.agg (opA o bv)) := rfl
 have el : ew.length = dv.length := by have := congrArg List.length hew; simpa using this
 have hlw : ∀ d ∈ ew, d.nd.l.length ≤ 1000000 := fun d hd => hsm.2.2.2 d.nd (List.mem_map_of_mem hd)
 simp [d0, b0]
 refine bP_of (PCall.lend (FZs.cons fz FZs.nil) rfl (May_p ⟨Ra, Rb, ew, rfl, ta, tb, rfl⟩ hsm)) ?_
 by_cases hm : mayI ns (ew.map NdV.nd)
 ·have hs := hm.1.2.2.1
  have hd := srtK_map.1 hm.2.2.1
  have hx : ∀ x ∈ ns, hasK NdV.ino ew x.ino := fun x hx => hasK_map.1 ((mayI_doc.1 hm).2.2.2.2.1 x hx)
  simp [hm, k1, opA]
  by_cases q1 : o.kind = 1
  ·have e : applyI ns (ew.map NdV.nd) o = (creNs ns ew o, (creDv ns ew o).map NdV.nd) := by
    unfold applyI creNs creDv
    rw [if_pos hm, if_pos q1]
    by_cases hc : creOk ns ew o
    ·rw [if_pos hc, if_pos hc, if_pos (creOk_map.2 hc), insK_map]
    ·rw [if_neg hc, if_neg hc, if_neg (fun h => hc (creOk_map.1 h))]
   rw [decide_eq_true q1]
   simp only [bI_true]
   obtain ⟨r2, H2, ⟨rfl, a3, b3, i3, f3⟩, w3⟩ := create_c i9 hs hd o3 b1 (by omega) hn
   refine bC_of w3 ?_
   exact apply_fin i3 (keep f3) e
  ·have hJ8 : ∀ t : Bool, (t = true ↔ (o.kind = 2 ∨ o.kind = 3 ∨ o.kind = 4 ∨ o.kind = 5)) → zesZ (.ptr 0 0) (.ptr 1 0) (.ptr 2 0) (I o.kind) (B t) H9 (ApK (applyI ns (ew.map NdV.nd) o)) := by
    intro t htt
    rw [image_Apply_J8_eq]; unfold zlvZ
    by_cases q2 : o.kind = 2 ∨ o.kind = 3 ∨ o.kind = 4 ∨ o.kind = 5
    ·rw [htt.2 q2]
     have e : applyI ns (ew.map NdV.nd) o = (ns, chgD (ew.map NdV.nd) o) := by
      unfold applyI
      rw [if_pos hm, if_neg q1, if_pos q2]
     simp [k1, b8]
     obtain ⟨r2, H2, ⟨rfl, a3, b3, dw, hdw, i3, f3⟩, w3⟩ := change_c i9 hs hd hbv (by omega) hbl hlw q2
     refine bC_of w3 ?_
     exact apply_fin i3 (keep f3) (by rw [hdw]; exact e)
    ·have : t = false := by cases t with
      | true => exact absurd (htt.1 rfl) q2
      | false => rfl
     subst this
     simp
     rw [image_Apply_J12_eq]; unfold zlhZ
     by_cases q6 : o.kind = 6
     ·have e : applyI ns (ew.map NdV.nd) o = (renNs ns o.name o.to, (renDv ns ew o.name o.to).map NdV.nd) := by
       unfold applyI renNs renDv
       rw [if_pos hm, if_neg q1, if_neg q2, if_pos q6]
       by_cases hc : renOk ns o.name o.to
       ·rw [if_pos hc, if_pos hc, if_pos hc, remDv_map]
       ·rw [if_neg hc, if_neg hc, if_neg hc]
      simp [q6, k1, opA]
      obtain ⟨r2, H2, ⟨rfl, a3, b3, i3, f3⟩, w3⟩ := rename_c (s := o.name) (t := o.to) i9 hs hd hx b1 (by omega) ht
      refine bC_of w3 ?_
      exact apply_fin i3 (keep f3) e
     ·simp [q6]
      rw [image_Apply_J13_eq]; unfold zldZ
      by_cases q7 : o.kind = 7
      ·have e : applyI ns (ew.map NdV.nd) o = (remNs ns o.name, (remDv ns ew o.name).map NdV.nd) := by
        unfold applyI
        rw [if_pos hm, if_neg q1, if_neg q2, if_neg q6, if_pos q7, remDv_map]
       simp [q7, k1, opA]
       obtain ⟨r2, H2, ⟨rfl, a3, b3, i3, f3⟩, w3⟩ := remove_c (s := o.name) i9 hs hd hx b1 (by omega)
       refine bC_of w3 ?_
       exact apply_fin i3 (keep f3) e
      ·have e : applyI ns (ew.map NdV.nd) o = (ns, ew.map NdV.nd) := by
        unfold applyI
        rw [if_pos hm, if_neg q1, if_neg q2, if_neg q6, if_neg q7]
       simp [q7]
       exact apply_fin i9 k2 e
   simp [q1]
   by_cases w2 : o.kind = 2
   ·simp [w2]
    have := hJ8 true (by simp [w2]); rwa [w2] at this
   ·by_cases w3 : o.kind = 3
    ·simp [w3]
     have := hJ8 true (by simp [w3]); rwa [w3] at this
    ·by_cases w4 : o.kind = 4
     ·simp [w4]
      have := hJ8 true (by simp [w4]); rwa [w4] at this
     ·simp [w2, w3, w4]
      exact hJ8 (decide (o.kind = 5)) (by simp [w2, w3, w4])
 ·have e : applyI ns (ew.map NdV.nd) o = (ns, ew.map NdV.nd) := by unfold applyI; rw [if_neg hm]
  have := apply_fin i9 k2 e
  rw [zkwZ] at this; unfold zinZ at this
  simp [d0, b0] at this
  simp [hm]
  exact this
end Go.Proofs.Ytofgloiebnppbaa.Av
end
/-! YtofgloiebnppbaaAvExtH -/
section
/- Chapter 11: the document's own other size, and holes. -/
set_option linter.unusedVariables false
set_option linter.unusedSimpArgs false
set_option maxRecDepth 100000
namespace Go.Proofs.Ytofgloiebnppbaa.Av
open Go Go.RowKit
def BuildP (a v : AV) (s : Int) (F : List Ext) (w : AV) (H : AH) : Prop :=
 H[0]? = some (some (.cells [a, v])) ∧ H[1]? = some (some (.cells [I 0, nilSl])) ∧ H[2]? = some (some (.cells [I s, w])) ∧ zaZ H 9 w = some (F.flatMap encE, F.length) ∧ ownedS w = true ∧ ∀ j, j < 3 → j ∉ idS w
theorem BuildP.grew {a v w : AV} {s : Int} {F : List Ext} {H H' : AH} (h : BuildP a v s F w H) (g : Grew H H') : BuildP a v s F w H' := by
 obtain ⟨h0, h1, h2, h3, h4, h5⟩ := h
 exact ⟨g.cells h0, g.cells h1, g.cells h2, g.slice h3, h4, h5⟩
theorem BuildP.add {a v w : AV} {s : Int} {F : List Ext} {H : AH} (h : BuildP a v s F w H) (Y : Ext) (hF : F.length ≤ 10000000) :
  ∃ r H2 H3, aap 9 16 (H ++ [some (.cells (encE Y))]) w (.sl H.length 0 1 9 (.ex 1)) = some (r, H2) ∧ H2[2]? = some (some (.cells [I s, w])) ∧ oneA r = true ∧ H3 = H2.set 2 (some (.cells [I s, r])) ∧ BuildP a v s (F ++ [Y]) r H3 ∧ H.length ≤ H3.length := by
 obtain ⟨h0, h1, h2, h3, h4, h5⟩ := h
 have g := Grew.app H [some (.cells (encE Y))]
 obtain ⟨r, H2, b1, b2, b3, b4, b5, b6⟩ := aap_spec (sz := 9) (bytes := 16) (g.slice h3) h4 (ztZ (v := .sl H.length 0 1 9 (.ex 1)) (q := (encE Y, 1)) (by simp [zaZ, zbxZ, List.take_of_length_le])) (by omega)
 have hl := (List.getElem?_eq_some_iff.1 h2).1
 have k : ∀ j, j < 3 → H2[j]? = H[j]? := fun j hj => by rw [b5 j (by simp; omega) (h5 j hj), g.2 j (by omega)]
 have hid : ∀ j, j < 3 → j ∉ idS r := fun j hj h => (b6 j h).elim (h5 j hj) (fun h => by simp at h; omega)
 have hl2 : 2 < H2.length := by simp at b4; omega
 refine ⟨r, H2, _, b1, by rw [k 2 (by omega)]; exact h2, zbpZ b2, rfl, ⟨?_, ?_, List.getElem?_set_self hl2, ?_, b2, hid⟩, by simp at b4; simp; omega⟩
 ·rw [List.getElem?_set_ne (by omega), k 0 (by omega)]; exact h0
 ·rw [List.getElem?_set_ne (by omega), k 1 (by omega)]; exact h1
 ·rw [zbZ b3 fun i hi => List.getElem?_set_ne (fun (e : 2 = i) => hid 2 (by omega) (e ▸ hi))]
  simp [List.flatMap_append]
end Go.Proofs.Ytofgloiebnppbaa.Av
end
/-! YtofgloiebnppbaaAvIz -/
section
/- Chapter 12: the document's changes. -/
set_option linter.unusedVariables false
set_option linter.unusedSimpArgs false
set_option maxRecDepth 100000
namespace Go.Proofs.Ytofgloiebnppbaa.Av
open Go Go.RowKit

def GrN (N : Nat) (H H' : AH) : Prop := H.length ≤ H'.length ∧ ∀ i, i < N → H'[i]? = H[i]?
theorem GrN.refl (N : Nat) (H : AH) : GrN N H H := ⟨Nat.le_refl _, fun _ _ => rfl⟩
theorem GrN.trans {N : Nat} {A B C : AH} (h : GrN N A B) (k : GrN N B C) : GrN N A C := ⟨Nat.le_trans h.1 k.1, fun i hi => (k.2 i hi).trans (h.2 i hi)⟩
theorem GrN.of {N : Nat} {A B : AH} (h : Grew A B) (hN : N ≤ A.length) : GrN N A B := ⟨h.1, fun i hi => h.2 i (by omega)⟩
structure OwN (N sz : Nat) (cs : List AV) (n : Nat) (r : AV) (H : AH) : Prop where
 s : zaZ H sz r = some (cs, n)
 o : ownedS r = true
 i : ∀ i ∈ idS r, N ≤ i
 c : capOk r n
theorem OwN.grew {N sz n : Nat} {cs : List AV} {r : AV} {H H' : AH} (h : OwN N sz cs n r H) (g : Grew H H') : OwN N sz cs n r H' := ⟨g.slice h.s, h.o, h.i, h.c⟩
theorem Sm.sub {ns ms : List Nm} {ds es : List Nd} (h : Sm ns ds) (h1 : ms.Sublist ns) (h2 : es.Sublist ds) : Sm ms es :=
 ⟨Nat.le_trans h1.length_le h.1, Nat.le_trans h2.length_le h.2.1, fun x hx => h.2.2.1 x (h1.subset hx), fun d hd => h.2.2.2 d (h2.subset hd)⟩
end Go.Proofs.Ytofgloiebnppbaa.Av
end
/-! YtofgloiebnppbaaAvJa -/
section
/- Chapter 12: the document's copy of an image; its changes. -/
set_option linter.unusedVariables false
set_option linter.unusedSimpArgs false
set_option maxRecDepth 100000
namespace Go.Proofs.Ytofgloiebnppbaa.Av
open Go Go.RowKit

/-! two names that go -/
section
variable {κ α : Type} {c : κ → κ → Int} {key : α → κ}
theorem srtK_ext (hc : KO c) : ∀ {l m : List α}, srtK c key l → srtK c key m → (∀ x, x ∈ l ↔ x ∈ m) → l = m
 | [], [], _, _, _ => rfl
 | [], b :: m, _, _, h => by have := (h b).2 (by simp); simp at this
 | a :: l, [], _, _, h => by have := (h a).1 (by simp); simp at this
 | a :: l, b :: m, h1, h2, h => by
  have k1 := List.pairwise_cons.1 h1
  have k2 := List.pairwise_cons.1 h2
  have e : a = b := by
   rcases List.mem_cons.1 ((h a).1 (by simp)) with e | q1
   ·exact e
   ·rcases List.mem_cons.1 ((h b).2 (by simp)) with e | q2
    ·exact e.symm
    ·exact absurd (hc.trans _ _ _ (k1.1 b q2) (k2.1 a q1)) (hc.irr _)
  subst e
  congr 1
  refine srtK_ext hc k1.2 k2.2 fun x => ?_
  have irr : ∀ y, y ∈ l ∨ y ∈ m → y ≠ a := by
   rintro y (q | q) rfl
   ·exact hc.irr _ (k1.1 y q)
   ·exact hc.irr _ (k2.1 y q)
  constructor
  ·intro q
   rcases List.mem_cons.1 ((h x).1 (by simp [q])) with e | q2
   ·exact absurd e (irr x (.inl q))
   ·exact q2
  ·intro q
   rcases List.mem_cons.1 ((h x).2 (by simp [q])) with e | q2
   ·exact absurd e (irr x (.inr q))
   ·exact q2
theorem hasK_del (hc : KO c) {l : List α} (h : srtK c key l) {k k2 : κ} (hk : hasK key l k) (hne : k2 ≠ k) : hasK key (delK c key l k) k2 ↔ hasK key l k2 := by
 constructor
 ·rintro ⟨x, hx, e⟩
  exact ⟨x, delK_sub.subset hx, e⟩
 ·rintro ⟨x, hx, e⟩
  exact ⟨x, (mem_delK hc h hk).2 ⟨hx, by rw [e]; exact hne⟩, e⟩
theorem delK_comm (hc : KO c) {l : List α} (h : srtK c key l) {k k2 : κ} (hk : hasK key l k) (hk2 : hasK key l k2) (hne : k ≠ k2) : delK c key (delK c key l k) k2 = delK c key (delK c key l k2) k := by
 refine srtK_ext hc (srtK_del (srtK_del h)) (srtK_del (srtK_del h)) fun x => ?_
 rw [mem_delK hc (srtK_del h) ((hasK_del hc h hk (Ne.symm hne)).2 hk2), mem_delK hc h hk, mem_delK hc (srtK_del h) ((hasK_del hc h hk2 hne).2 hk), mem_delK hc h hk2, and_right_comm]
end
theorem nameI_del {ns : List Nm} (hs : srtK cmpN Nm.name ns) {s t : List UInt8} (hk : hasK Nm.name ns s) (ht : hasK Nm.name ns t) (hne : t ≠ s) : nameI (delK cmpN Nm.name ns s) t = nameI ns t := by
 obtain ⟨x, h1, h2, rfl⟩ := atK_has ht
 unfold nameI
 rw [h1, atK_eq koN (srtK_del hs) ((mem_delK koN hs hk).2 ⟨h2, hne⟩)]
end Go.Proofs.Ytofgloiebnppbaa.Av
end
/-! YtofgloiebnppbaaAvJb -/
section
/- Chapter 12: the document's Apply. -/
set_option linter.unusedVariables false
set_option linter.unusedSimpArgs false
set_option maxRecDepth 100000
namespace Go.Proofs.Ytofgloiebnppbaa.Av
open Go Go.RowKit

end Go.Proofs.Ytofgloiebnppbaa.Av
end
/-! YtofgloiebnppbaaAvJc -/
section
/- Chapter 12: how long names, lists and contents are behind a change. -/
set_option linter.unusedVariables false
set_option linter.unusedSimpArgs false
set_option maxRecDepth 100000
namespace Go.Proofs.Ytofgloiebnppbaa.Av
open Go Go.RowKit

theorem wr_len12 : ∀ {bs : List UInt8} {l : List Ext} {p : Int}, (writeL l p bs).length ≤ l.length + bs.length
 | [], l, p => Nat.le_refl _
 | b :: r, l, p => by
  show (writeL (needPut l p [b]) (p + 1) r).length ≤ _
  have ih := wr_len12 (bs := r) (l := needPut l p [b]) (p := p + 1)
  have h : (needPut l p [b]).length ≤ l.length + 1 := by
   unfold needPut
   have := need_len l (p / 8)
   simp [putL]
   omega
  simp only [List.length_cons]; omega
theorem chg_len {o : OpM} {d : Nd} : (cL (chgC o d)).length ≤ d.l.length + o.b.length + 4098 := by
 unfold chgC
 split
 ·unfold writeC
  split
  ·split
   ·simp only [cL, Option.getD_some]; omega
   ·simp only [cL, Option.getD_some]
    have := wr_len12 (bs := o.b) (l := d.l) (p := o.pos)
    omega
  ·simp [cL]
 ·split
  ·unfold truncC
   split
   ·simp only [cL, Option.getD_some, truncL, wipeL, List.length_map]
    exact Nat.le_trans (List.length_filter_le _ _) (by omega)
   ·simp [cL]
  ·split
   ·unfold allocC
    split
    ·simp only [cL, Option.getD_some, allocL]
     have := (ns_len (k := allocN o.pos o.size) (l := d.l) (no := o.pos / 8)).1
     have hN : allocN o.pos o.size ≤ 4098 := by unfold allocN; omega
     omega
    ·simp [cL]
   ·split
    ·unfold punchC
     split
     ·simp only [cL, Option.getD_some, punchL, wipeL, List.length_map]
      exact Nat.le_trans (List.length_filter_le _ _) (by omega)
     ·simp [cL]
    ·simp [cL]
theorem chgD_mem {ds : List Nd} {o : OpM} {d : Nd} (h : d ∈ chgD ds o) : d ∈ ds ∨ ∃ e ∈ ds, d.l.length ≤ e.l.length + o.b.length + 4098 := by
 unfold chgD at h
 split at h
 ·rename_i e he
  split at h
  ·rename_i c hc
   rcases List.mem_or_eq_of_mem_set h with h | h
   ·exact .inl h
   ·refine .inr ⟨e, List.mem_of_find?_eq_some he, ?_⟩
    have := chg_len (o := o) (d := e)
    rw [hc] at this
    rw [h]; exact this
  ·exact .inl h
 ·exact .inl h
theorem remNs_sub {ns : List Nm} {s : List UInt8} : (remNs ns s).Sublist ns := by
 unfold remNs
 split
 ·exact delK_sub
 ·exact List.Sublist.refl _
theorem remD_sub {ns : List Nm} {ds : List Nd} {s : List UInt8} : (remD ns ds s).Sublist ds := by
 unfold remD
 split
 ·exact delK_sub
 ·exact List.Sublist.refl _
theorem chgD_len {ds : List Nd} {o : OpM} : (chgD ds o).length = ds.length := by
 unfold chgD
 split
 ·split
  ·simp
  ·rfl
 ·rfl
theorem applyI_len {ns : List Nm} {ds : List Nd} {o : OpM} : (applyI ns ds o).1.length ≤ ns.length + 1 ∧ (applyI ns ds o).2.length ≤ ds.length + 1 ∧ (∀ x ∈ (applyI ns ds o).1, x ∈ ns ∨ x.name = o.name ∨ x.name = o.to) ∧ ∀ d ∈ (applyI ns ds o).2, d ∈ ds ∨ d.l = [] ∨ ∃ e ∈ ds, d.l.length ≤ e.l.length + o.b.length + 4098 := by
 have base : (ns, ds).1.length ≤ ns.length + 1 ∧ (ns, ds).2.length ≤ ds.length + 1 ∧ (∀ x ∈ (ns, ds).1, x ∈ ns ∨ x.name = o.name ∨ x.name = o.to) ∧ ∀ d ∈ (ns, ds).2, d ∈ ds ∨ d.l = [] ∨ ∃ e ∈ ds, d.l.length ≤ e.l.length + o.b.length + 4098 := ⟨Nat.le_succ _, Nat.le_succ _, fun x h => .inl h, fun d h => .inl h⟩
 unfold applyI
 split
 ·split
  ·split
   ·refine ⟨Nat.le_of_eq insK_len, Nat.le_of_eq insK_len, fun x h => ?_, fun d h => ?_⟩
    ·rcases mem_insK.1 h with rfl | h
     ·exact .inr (.inl rfl)
     ·exact .inl h
    ·rcases mem_insK.1 h with rfl | h
     ·exact .inr (.inl rfl)
     ·exact .inl h
   ·exact base
  ·split
   ·refine ⟨Nat.le_succ _, by show (chgD ds o).length ≤ _; rw [chgD_len]; omega, fun x h => .inl h, fun d h => (chgD_mem h).imp id .inr⟩
   ·split
    ·split
     ·have h1 := (remNs_sub (ns := delK cmpN Nm.name ns o.name) (s := o.to)).trans delK_sub
      have h2 := remD_sub (ns := delK cmpN Nm.name ns o.name) (ds := ds) (s := o.to)
      refine ⟨?_, Nat.le_succ_of_le h2.length_le, fun x h => ?_, fun d h => .inl (h2.subset h)⟩
      ·show (insK _ _ _ _).length ≤ _
       rw [insK_len]
       have := h1.length_le
       omega
      ·rcases mem_insK.1 h with rfl | h
       ·exact .inr (.inr rfl)
       ·exact .inl (h1.subset h)
     ·exact base
    ·split
     ·exact ⟨Nat.le_succ_of_le remNs_sub.length_le, Nat.le_succ_of_le remD_sub.length_le, fun x h => .inl (remNs_sub.subset h), fun d h => .inl (remD_sub.subset h)⟩
     ·exact base
 ·exact base
end Go.Proofs.Ytofgloiebnppbaa.Av
end
/-! YtofgloiebnppbaaAvExtL -/
section
/- Chapter 11's laws: what they are handed; few; a byte; the closed sentence. -/
set_option linter.unusedVariables false
set_option linter.unusedSimpArgs false
set_option maxRecDepth 100000
namespace Go.Proofs.Ytofgloiebnppbaa.Av
open Go Go.RowKit
end Go.Proofs.Ytofgloiebnppbaa.Av
end
/-! YtofgloiebnppbaaAvImL -/
section
/- Chapter 12's laws: what they are handed; few; the closed sentence. -/
set_option linter.unusedVariables false
set_option linter.unusedSimpArgs false
set_option maxRecDepth 100000
namespace Go.Proofs.Ytofgloiebnppbaa.Av
open Go Go.RowKit

/-! few -/
def FewI (ns : List Nm) (ds : List Nd) : Prop := ns.length ≤ 30 ∧ ds.length ≤ 30 ∧ (∀ d ∈ ds, d.l.length ≤ 60) ∧ sumL ds ≤ 300
instance (ns : List Nm) (ds : List Nd) : Decidable (FewI ns ds) := by unfold FewI; infer_instance
theorem FewI.sm {ns : List Nm} {ds : List Nd} (h : FewI ns ds) (hn : ∀ x ∈ ns, x.name.length ≤ 9223372036854775807) : Sm ns ds :=
 ⟨by have := h.1; omega, by have := h.2.1; omega, hn, fun d hd => by have := h.2.2.1 d hd; omega⟩
end Go.Proofs.Ytofgloiebnppbaa.Av
end
/-! YtofgloiebnppbaaAvJd -/
section
/- Chapter 12: changes, one behind the other. -/
set_option linter.unusedVariables false
set_option linter.unusedSimpArgs false
set_option maxRecDepth 100000
namespace Go.Proofs.Ytofgloiebnppbaa.Av
open Go Go.RowKit

theorem OwI.lend {L : Nat} {ns : List Nm} {dv : List NdV} {a b : AV} {H : AH} (h : OwI L ns dv a b H) : ∃ R, ImV ns (dv.map NdV.nd) R ∧ FZ H (.agg [a, b]) R := by
 obtain ⟨Ra, h1, f1⟩ := FZ.sv h.sa (zfaZ fun x _ => noIdss_encN x)
 obtain ⟨Rb, h2, f2⟩ := FZ.sv h.sb (zfaZ fun x _ => noIdss_encD x)
 exact ⟨_, ⟨Ra, Rb, dv, rfl, h1, h2, rfl⟩, FZ.agg (FZs.cons f1 (FZs.cons f2 FZs.nil))⟩
structure OpV where
 o : OpM
 bv : AV
 h : SV encU 1 o.b bv
def encO (x : OpV) : List AV := opA x.o x.bv
theorem encO_len (x : OpV) : (encO x).length = 8 := rfl
def Fit (k : Nat) (ns : List Nm) (ds : List Nd) : Prop := ns.length ≤ 100 + k ∧ ds.length ≤ 100 + k ∧ (∀ x ∈ ns, x.name.length ≤ 1000000) ∧ ∀ d ∈ ds, d.l.length ≤ 1000 + k * 5000
def OpFew (o : OpM) : Prop := o.b.length ≤ 200 ∧ o.name.length ≤ 100 ∧ o.to.length ≤ 100
theorem Fit.sm {k : Nat} {ns : List Nm} {ds : List Nd} (h : Fit k ns ds) (hk : k ≤ 100) : Sm ns ds :=
 ⟨by have := h.1; omega, by have := h.2.1; omega, fun x hx => by have := h.2.2.1 x hx; omega, fun d hd => by have := h.2.2.2 d hd; omega⟩
theorem Fit.step {k : Nat} {ns : List Nm} {ds : List Nd} {o : OpM} (h : Fit k ns ds) (ho : OpFew o) : Fit (k + 1) (applyI ns ds o).1 (applyI ns ds o).2 := by
 obtain ⟨l1, l2, l3, l4⟩ := applyI_len (ns := ns) (ds := ds) (o := o)
 obtain ⟨h1, h2, h3, h4⟩ := h
 obtain ⟨o1, o2, o3⟩ := ho
 refine ⟨by omega, by omega, fun x hx => ?_, fun d hd => ?_⟩
 ·rcases l3 x hx with h | h | h
  ·exact h3 x h
  ·rw [h]; omega
  ·rw [h]; omega
 ·rcases l4 d hd with h | h | ⟨e, h, h5⟩
  ·have := h4 d h; omega
  ·rw [h]; simp
  ·have := h4 e h; omega
theorem op_at {H : AH} {w : AV} {l : List OpV} {k : Nat} {x : OpV} (hw : zaZ H 8 w = some (l.flatMap encO, l.length)) (hx : l[k]? = some x) : ∃ p, aixS 8 w (I k) = some p ∧ ald true 8 H p = some (.agg (opA x.o x.bv)) := by
 have hk := (List.getElem?_eq_some_iff.1 hx).1
 obtain ⟨p, c, h1, h2, h3, h4⟩ := aixS_spec hw (i := (k : Int)) rfl hk
 have hc : c.take 8 = encO x := by
  rw [h3, zhtZ encO_len hx, List.take_append_of_le_length (by rw [encO_len]; omega), List.take_of_length_le (by rw [encO_len]; omega)]
 exact ⟨p, h1, by rw [ald_at h2 (by omega) h4, rdCells_agg (by omega), List.drop_zero, hc]; rfl⟩
end Go.Proofs.Ytofgloiebnppbaa.Av
end
/-! YtofgloiebnppbaaAvLa -/
section
/- Images: what a change keeps, what is found behind it. No program in sight. -/
set_option linter.unusedVariables false
set_option linter.unusedSimpArgs false
set_option maxRecDepth 100000
namespace Go.Proofs.Ytofgloiebnppbaa.Av
open Go Go.RowKit

section
variable {α κ ι : Type} {c : κ → κ → Int} {key : α → κ}
theorem hasK_ins {f : α → ι} {l : List α} {x : α} {i : ι} : hasK f (insK c key l x) i ↔ f x = i ∨ hasK f l i := by
 unfold hasK
 constructor
 ·rintro ⟨y, hy, e⟩
  rcases mem_insK.1 hy with rfl | hy
  ·exact .inl e
  ·exact .inr ⟨y, hy, e⟩
 ·rintro (e | ⟨y, hy, e⟩)
  ·exact ⟨x, mem_insK.2 (.inl rfl), e⟩
  ·exact ⟨y, mem_insK.2 (.inr hy), e⟩
theorem hasK_delf (hc : KO c) {f : α → ι} {l : List α} (h : srtK c key l) {k : κ} (hk : hasK key l k) {i : ι} : hasK f (delK c key l k) i ↔ ∃ y ∈ l, key y ≠ k ∧ f y = i := by
 unfold hasK
 constructor
 ·rintro ⟨y, hy, e⟩
  obtain ⟨h1, h2⟩ := (mem_delK hc h hk).1 hy
  exact ⟨y, h1, h2, e⟩
 ·rintro ⟨y, hy, h2, e⟩
  exact ⟨y, (mem_delK hc h hk).2 ⟨hy, h2⟩, e⟩
theorem nodup_inj {β : Type} {f : α → β} : ∀ {l : List α}, l.Nodup → ((l.map f).Nodup ↔ ∀ x ∈ l, ∀ y ∈ l, f x = f y → x = y)
 | [], _ => by simp
 | a :: l, h => by
  obtain ⟨h1, h2⟩ := List.nodup_cons.1 h
  rw [List.map_cons, List.nodup_cons, nodup_inj h2]
  constructor
  ·rintro ⟨h3, h4⟩ x hx y hy e
   rcases List.mem_cons.1 hx with hx1 | hx1 <;> rcases List.mem_cons.1 hy with hy1 | hy1
   ·rw [hx1, hy1]
   ·rw [hx1] at e; exact absurd (List.mem_map.2 ⟨y, hy1, e.symm⟩) h3
   ·rw [hy1] at e; exact absurd (List.mem_map.2 ⟨x, hx1, e⟩) h3
   ·exact h4 x hx1 y hy1 e
  ·intro h3
   refine ⟨fun hm => ?_, fun x hx y hy => h3 x (by simp [hx]) y (by simp [hy])⟩
   obtain ⟨y, hy, e⟩ := List.mem_map.1 hm
   have := h3 y (by simp [hy]) a (by simp) e
   exact h1 (this ▸ hy)
theorem srtK_nodup (hc : KO c) {l : List α} (h : srtK c key l) : l.Nodup := by
 refine List.Pairwise.imp ?_ h
 rintro a b hab rfl
 exact hc.irr _ hab
end
structure MayW (ns : List Nm) (ds : List Nd) : Prop where
 len : ns.length ≤ 16
 nm : ∀ x ∈ ns, mayN x.name ∧ 1 ≤ x.ino ∧ x.ino ≤ 4611686018427387904
 srt : srtK cmpN Nm.name ns
 inj : ∀ x ∈ ns, ∀ y ∈ ns, x.ino = y.ino → x = y
 sd : srtK cmpI Nd.ino ds
 mc : ∀ d ∈ ds, mayC d.size d.l
 ino : ∀ i, hasK Nd.ino ds i ↔ hasK Nm.ino ns i
theorem inos_nodup {ds : List Nd} (h : srtK cmpI Nd.ino ds) : (ds.map Nd.ino).Nodup := by
 rw [List.Nodup, List.pairwise_map]
 exact h.imp fun h => by rw [cmpI_lt] at h; omega
theorem mayI_w {ns : List Nm} {ds : List Nd} : mayI ns ds ↔ MayW ns ds := by
 constructor
 ·intro h
  have h2 := mayI_doc.1 h
  obtain ⟨h21, h22, ⟨h23, h24, h25⟩, h26, h27, h28⟩ := h2
  refine ⟨h21, h23, h24, (nodup_inj (srtK_nodup koN h24)).1 h25, h26, h28, fun i => ⟨?_, ?_⟩⟩
  ·rintro ⟨d, hd, rfl⟩
   exact (h.2.2.2 d hd).1
  ·rintro ⟨x, hx, rfl⟩
   exact h27 x hx
 ·intro h
  refine ⟨⟨h.len, h.nm, h.srt, (nodup_inj (srtK_nodup koN h.srt)).2 h.inj⟩, ?_, h.sd, fun d hd => ⟨(h.ino d.ino).1 ⟨d, hd, rfl⟩, h.mc d hd⟩⟩
  have hp := (List.perm_ext_iff_of_nodup (inos_nodup h.sd) ((nodup_inj (srtK_nodup koN h.srt)).2 h.inj)).2 fun i => by
   have := h.ino i
   unfold hasK at this
   simpa [List.mem_map] using this
  have := hp.length_eq
  simpa using this
theorem nameI_mem {ns : List Nm} (hs : srtK cmpN Nm.name ns) {x : Nm} (hx : x ∈ ns) : nameI ns x.name = x.ino := by
 unfold nameI
 rw [atK_eq koN hs hx]
theorem nameI_no {ns : List Nm} {s : List UInt8} (h : ¬ hasK Nm.name ns s) : nameI ns s = 0 := by
 unfold nameI
 rw [atK_none h]
theorem MayW.rem {ns : List Nm} {ds : List Nd} {s : List UInt8} (h : MayW ns ds) (hk : hasK Nm.name ns s) : MayW (delK cmpN Nm.name ns s) (delK cmpI Nd.ino ds (nameI ns s)) := by
 obtain ⟨x, hx, rfl⟩ := hk
 have hk : hasK Nm.name ns x.name := ⟨x, hx, rfl⟩
 rw [nameI_mem h.srt hx]
 have hd : hasK Nd.ino ds x.ino := (h.ino _).2 ⟨x, hx, rfl⟩
 have sub : ∀ y, y ∈ delK cmpN Nm.name ns x.name → y ∈ ns := fun y hy => delK_sub.subset hy
 have hl := delK_len (hasK_pos koN h.srt hk)
 have := h.len
 refine ⟨by omega, fun y hy => h.nm y (sub y hy), srtK_del h.srt, fun y hy z hz => h.inj y (sub y hy) z (sub z hz), srtK_del h.sd, fun d hd => h.mc d (delK_sub.subset hd), fun i => ?_⟩
 rw [hasK_delf koI h.sd hd, hasK_delf koN h.srt hk]
 constructor
 ·rintro ⟨d, hd1, hd2, rfl⟩
  obtain ⟨y, hy, e⟩ := (h.ino d.ino).1 ⟨d, hd1, rfl⟩
  exact ⟨y, hy, fun e2 => hd2 (by rw [← e, srtK_uniq koN h.srt hy hx e2]), e⟩
 ·rintro ⟨y, hy, hne, rfl⟩
  obtain ⟨d, hd1, e⟩ := (h.ino y.ino).2 ⟨y, hy, rfl⟩
  exact ⟨d, hd1, fun e2 => hne (by rw [h.inj y hy x hx (by rw [← e, e2])]), e⟩
theorem MayW.ren {ns : List Nm} {ds : List Nd} {s t : List UInt8} (h : MayW ns ds) (hk : hasK Nm.name ns s) (ht : ¬ hasK Nm.name ns t) (hm : mayN t) : MayW (insK cmpN Nm.name (delK cmpN Nm.name ns s) ⟨t, nameI ns s⟩) ds := by
 obtain ⟨x, hx, rfl⟩ := hk
 have hk : hasK Nm.name ns x.name := ⟨x, hx, rfl⟩
 rw [nameI_mem h.srt hx]
 have mem : ∀ y, y ∈ insK cmpN Nm.name (delK cmpN Nm.name ns x.name) ⟨t, x.ino⟩ ↔ y = ⟨t, x.ino⟩ ∨ (y ∈ ns ∧ y.name ≠ x.name) := fun y => by rw [mem_insK, mem_delK koN h.srt hk]
 have hl := delK_len (hasK_pos koN h.srt hk)
 have := h.len
 refine ⟨by rw [insK_len]; omega, ?_, srtK_ins koN (srtK_del h.srt) (fun hh => ht ?_), ?_, h.sd, h.mc, fun i => ?_⟩
 ·intro y hy
  rcases (mem y).1 hy with rfl | ⟨hy, -⟩
  ·exact ⟨hm, (h.nm x hx).2⟩
  ·exact h.nm y hy
 ·obtain ⟨y, hy, e⟩ := hh
  exact ⟨y, delK_sub.subset hy, e⟩
 ·intro y hy z hz e
  rcases (mem y).1 hy with rfl | ⟨hy, hny⟩ <;> rcases (mem z).1 hz with rfl | ⟨hz, hnz⟩
  ·rfl
  ·exact absurd (by rw [h.inj x hx z hz e]) hnz
  ·exact absurd (by rw [h.inj y hy x hx e]) hny
  ·exact h.inj y hy z hz e
 ·rw [h.ino i, hasK_ins, hasK_delf koN h.srt hk]
  constructor
  ·rintro ⟨y, hy, rfl⟩
   by_cases c : y.name = x.name
   ·exact .inl (by rw [srtK_uniq koN h.srt hy hx c])
   ·exact .inr ⟨y, hy, c, rfl⟩
  ·rintro (rfl | ⟨y, hy, -, rfl⟩)
   ·exact ⟨x, hx, rfl⟩
   ·exact ⟨y, hy, rfl⟩
theorem mayC_nil : mayC 0 [] := by decide
theorem MayW.cre {ns : List Nm} {ds : List Nd} {o : OpM} (h : MayW ns ds) (hc : creI ns ds o) : MayW (insK cmpN Nm.name ns ⟨o.name, o.ino⟩) (insK cmpI Nd.ino ds ⟨o.ino, 0, []⟩) := by
 obtain ⟨h1, h2, h3, h4, h5, h6⟩ := hc
 have hn : ¬ hasK Nm.ino ns o.ino := fun hh => h2 ((h.ino _).2 hh)
 refine ⟨by rw [insK_len]; omega, ?_, srtK_ins koN h.srt h1, ?_, srtK_ins koI h.sd h2, ?_, fun i => by rw [hasK_ins, hasK_ins, h.ino]⟩
 ·intro y hy
  rcases mem_insK.1 hy with rfl | hy
  ·exact ⟨h3, h4, h5⟩
  ·exact h.nm y hy
 ·intro y hy z hz e
  rcases mem_insK.1 hy with rfl | hy <;> rcases mem_insK.1 hz with rfl | hz
  ·rfl
  ·exact absurd ⟨z, hz, e.symm⟩ hn
  ·exact absurd ⟨y, hy, e⟩ hn
  ·exact h.inj y hy z hz e
 ·intro d hd
  rcases mem_insK.1 hd with rfl | hd
  ·exact mayC_nil
  ·exact h.mc d hd
/-! contents -/
theorem chgC_may {o : OpM} {d : Nd} {c : Cont} (hk : o.kind = 2 ∨ o.kind = 3 ∨ o.kind = 4 ∨ o.kind = 5) (h : chgC o d = some c) : mayC c.1 c.2 := by
 unfold chgC at h
 split at h
 ·exact may_write h
 ·split at h
  ·exact may_trunc h
  ·split at h
   ·exact may_alloc h
   ·split at h
    ·exact may_punch h
    ·omega
theorem chgD_inos {ds : List Nd} {o : OpM} (hs : srtK cmpI Nd.ino ds) : (chgD ds o).map Nd.ino = ds.map Nd.ino := by
 unfold chgD
 split
 ·rename_i d hd
  split
  ·rename_i c hc
   have hk : hasK Nd.ino ds o.ino := ⟨d, List.mem_of_find?_eq_some hd, by simpa using List.find?_some hd⟩
   obtain ⟨y, h1, h2, h3⟩ := posK_atK koI hs hk
   have e : y = d := by rw [hd] at h2; injection h2 with h2; exact h2.symm
   rw [List.map_set, ← e]
   apply List.ext_getElem?
   intro j
   rw [List.getElem?_set]
   split
   ·rename_i hj
    subst hj
    split
    ·rw [List.getElem?_map, h1]; rfl
    ·rename_i hl
     rw [List.getElem?_map, h1] 
     have := (List.getElem?_eq_some_iff.1 h1).1
     simp at hl; omega
   ·rfl
  ·rfl
 ·rfl
theorem srt_inos {ds es : List Nd} (e : ds.map Nd.ino = es.map Nd.ino) (h : srtK cmpI Nd.ino es) : srtK cmpI Nd.ino ds := by
 unfold srtK at h ⊢
 have h1 : (es.map Nd.ino).Pairwise fun a b => cmpI a b < 0 := List.pairwise_map.2 h
 rw [← e] at h1
 exact List.pairwise_map.1 h1
theorem has_inos {ds es : List Nd} (e : ds.map Nd.ino = es.map Nd.ino) (i : Int) : hasK Nd.ino ds i ↔ hasK Nd.ino es i := by
 have a : ∀ l : List Nd, hasK Nd.ino l i ↔ i ∈ l.map Nd.ino := fun l => by unfold hasK; simp [List.mem_map]
 rw [a, a, e]
theorem mem_chgD {ds : List Nd} {o : OpM} (hs : srtK cmpI Nd.ino ds) {d : Nd} (h : d ∈ chgD ds o) : d ∈ ds ∨ (d.ino = o.ino ∧ ∃ e ∈ ds, e.ino = o.ino ∧ chgC o e = some (d.size, d.l)) := by
 unfold chgD at h
 split at h
 ·rename_i e he
  split at h
  ·rename_i c hc
   have e1 := List.mem_of_find?_eq_some he
   have e2 : e.ino = o.ino := by simpa using List.find?_some he
   rcases List.mem_or_eq_of_mem_set h with h | h
   ·exact .inl h
   ·exact .inr ⟨by rw [h]; exact e2, e, e1, e2, by rw [h]; exact hc⟩
  ·exact .inl h
 ·exact .inl h
theorem MayW.chg {ns : List Nm} {ds : List Nd} {o : OpM} (h : MayW ns ds) (hk : o.kind = 2 ∨ o.kind = 3 ∨ o.kind = 4 ∨ o.kind = 5) : MayW ns (chgD ds o) := by
 have hi := chgD_inos (o := o) h.sd
 refine ⟨h.len, h.nm, h.srt, h.inj, srt_inos hi h.sd, fun d hd => ?_, fun i => by rw [has_inos hi, h.ino]⟩
 rcases mem_chgD h.sd hd with hd | ⟨-, e, -, -, he⟩
 ·exact h.mc d hd
 ·exact chgC_may hk he
theorem ren_eq {ns : List Nm} {ds : List Nd} {s t : List UInt8} (h : MayW ns ds) (hk : hasK Nm.name ns s) (hne : s ≠ t) :
  (insK cmpN Nm.name (remNs (delK cmpN Nm.name ns s) t) ⟨t, nameI ns s⟩, remD (delK cmpN Nm.name ns s) ds t) = (insK cmpN Nm.name (delK cmpN Nm.name (remNs ns t) s) ⟨t, nameI (remNs ns t) s⟩, remD ns ds t) := by
 unfold remNs remD
 by_cases c : hasK Nm.name ns t
 ·have c1 : hasK Nm.name (delK cmpN Nm.name ns s) t := (hasK_del koN h.srt hk (Ne.symm hne)).2 c
  rw [if_pos c1, if_pos c, if_pos c1, if_pos c, delK_comm koN h.srt hk c hne, nameI_del h.srt hk c (Ne.symm hne), nameI_del h.srt c hk hne]
 ·have c1 : ¬ hasK Nm.name (delK cmpN Nm.name ns s) t := fun hh => c ((hasK_del koN h.srt hk (Ne.symm hne)).1 hh)
  rw [if_neg c1, if_neg c, if_neg c1, if_neg c]
theorem MayW.remN {ns : List Nm} {ds : List Nd} (h : MayW ns ds) (t : List UInt8) : MayW (remNs ns t) (remD ns ds t) ∧ ¬ hasK Nm.name (remNs ns t) t := by
 unfold remNs remD
 by_cases c : hasK Nm.name ns t
 ·rw [if_pos c, if_pos c]
  refine ⟨h.rem c, ?_⟩
  rintro ⟨y, hy, e⟩
  exact ((mem_delK koN h.srt c).1 hy).2 e
 ·rw [if_neg c, if_neg c]; exact ⟨h, c⟩
theorem has_remN {ns : List Nm} (hs : srtK cmpN Nm.name ns) {s t : List UInt8} (hne : s ≠ t) : hasK Nm.name (remNs ns t) s ↔ hasK Nm.name ns s := by
 unfold remNs
 split
 ·rename_i c; exact hasK_del koN hs c hne
 ·rfl
theorem applyI_w {ns : List Nm} {ds : List Nd} (h : MayW ns ds) (o : OpM) : MayW (applyI ns ds o).1 (applyI ns ds o).2 := by
 unfold applyI
 rw [if_pos (mayI_w.2 h)]
 split
 ·split
  ·rename_i hc; exact h.cre hc
  ·exact h
 ·split
  ·rename_i hk; exact h.chg hk
  ·split
   ·split
    ·rename_i hr
     obtain ⟨h1, h2, h3⟩ := hr
     rw [ren_eq h h1 h3]
     obtain ⟨g1, g2⟩ := h.remN o.to
     exact g1.ren ((has_remN h.srt h3).2 h1) g2 h2
    ·exact h
   ·split
    ·exact (h.remN o.name).1
    ·exact h
/-! what is found -/
theorem findI_w {ns : List Nm} {ds : List Nd} (h : MayW ns ds) (s : List UInt8) : findI ns ds s = nameI ns s ∧ (hasI ns ds s ↔ hasK Nm.name ns s) := by
 have hm := mayI_w.2 h
 have hi : hasI ns ds s ↔ hasK Nm.name ns s := ⟨fun hh => hh.2, fun hh => ⟨hm, hh⟩⟩
 refine ⟨?_, hi⟩
 unfold findI
 by_cases c : hasI ns ds s
 ·rw [if_pos c]
 ·rw [if_neg c, nameI_no (fun hh => c (hi.2 hh))]
theorem getN_w {ns : List Nm} {ds : List Nd} (h : MayW ns ds) {d : Nd} (hd : d ∈ ds) : getN ns ds d.ino = d ∧ hasG ns ds d.ino := by
 have hg : hasG ns ds d.ino := ⟨mayI_w.2 h, d, hd, rfl⟩
 refine ⟨?_, hg⟩
 unfold getN
 rw [if_pos hg, atK_eq koI h.sd hd]; rfl
theorem usedI_w {ns : List Nm} {ds : List Nd} (h : MayW ns ds) : usedI ns ds = sumL ds := by unfold usedI; rw [if_pos (mayI_w.2 h)]
end Go.Proofs.Ytofgloiebnppbaa.Av
end
/-! YtofgloiebnppbaaAvFr -/
section
/- Calls whose answer is made anew: what they made is memory that nobody writes. -/
set_option linter.unusedVariables false
set_option linter.unusedSimpArgs false
namespace Go.Proofs.Ytofgloiebnppbaa.Av
open Go Go.RowKit

def old (N : Nat) (X : AH) : AH := List.replicate N none ++ X.drop N
theorem old_get {N : Nat} {X : AH} {o : Nat} {x : AObj} (h : (old N X)[o]? = some (some x)) : N ≤ o ∧ X[o]? = some (some x) := by
 unfold old at h
 rcases Nat.lt_or_ge o N with hlt | hge
 ·rw [List.getElem?_append_left (by simpa using hlt), List.getElem?_replicate, if_pos hlt] at h
  cases h
 ·rw [List.getElem?_append_right (by simpa using hge), List.length_replicate, List.getElem?_drop] at h
  rw [show N + (o - N) = o by omega] at h
  exact ⟨hge, h⟩
def Cfg.less (G : Cfg) (L : Nat → Prop) : Cfg := { G with L := L }
theorem HR.less {G : Cfg} {H : AH} (hr : HR G H) (L : Nat → Prop) (hL : ∀ b, L b → G.L b) (hl : ∀ (o : Nat) (x : AObj), H[o]? = some (some x) → L (G.μ o).1) : HR (G.less L) H := by
 have ht : Tr G (G.less L) := ⟨Nat.le_refl _, fun _ _ => rfl, fun ad vs hh => hh.imp id fun h => ⟨fun hh => h.1 (hh.imp (hL _) id), h.2⟩⟩
 exact ⟨hr.n, fun o x ho => OR.tr ht (hr.lt_n ho) rfl (hr.obj o x ho), hr.inj, hl, fun b hb => hr.lt b (hb.imp (hL _) id), fun b hb => hr.dis b (hL b hb)⟩
theorem HR.fewer {G : Cfg} {H H2 : AH} (hr : HR G H) (hlen : H2.length = H.length) (h : ∀ (o : Nat) (x : AObj), H2[o]? = some (some x) → H[o]? = some (some x)) : HR G H2 :=
 ⟨by rw [hlen]; exact hr.n, fun o x ho => hr.obj o x (h o x ho), fun o o' x x' ho ho' => hr.inj o o' x x' (h o x ho) (h o' x' ho'), fun o x ho => hr.live o x (h o x ho), hr.lt, hr.dis⟩
section
variable {P : Program}
theorem ACalls.fzNew {f : FuncId} {args : List AV} {H : AH} {R : AV → AH → Prop} {R' : AV → Prop} (h : ACalls P f args H R)
  (hR : ∀ r H1, R r H1 → H.length ≤ H1.length ∧ (∀ o, o < H.length → H1[o]? = H[o]?) ∧ ∃ n r', frz (old H.length H1) n r = some r' ∧ R' r') : ACalls P f args H fun r' H' => R' r' ∧ H' = H := by
 intro G vs hH hv
 refine (h G vs hH hv).mono ?_
 rintro e w' ⟨r, H1, G', v, rfl, rfl, hE, hx, hX, hq⟩
 obtain ⟨hlen, hpre, n, r', hf, hr'⟩ := hR r H1 hq
 have e1 : H1 = H ++ H1.drop H.length := by
  apply List.ext_getElem?
  intro o
  rcases Nat.lt_or_ge o H.length with hlt | hge
  ·rw [List.getElem?_append_left hlt, hpre o hlt]
  ·rw [List.getElem?_append_right hge, List.getElem?_drop, show H.length + (o - H.length) = o by omega]
 have hX1 : HR G' (H ++ H1.drop H.length) := by rw [← e1]; exact hX
 have hF : HR { G' with n := H.length } H := hX1.forget fun o x ho => by
  have := (hH.obj o x ho).bel
  rwa [hH.n] at this
 let L2 : Nat → Prop := fun b => G.L b ∧ G'.L b ∧ ∀ (o : Nat) (x : AObj), H.length ≤ o → H1[o]? = some (some x) → b ≠ (G'.μ o).1
 have hF2 := hF.less L2 (fun b hb => hb.2.1) (fun o x ho => by
  have hlt := (List.getElem?_eq_some_iff.1 ho).1
  have ho1 : H1[o]? = some (some x) := by rw [hpre o hlt]; exact ho
  have hμ : G'.μ o = G.μ o := hE.μ o (by rw [hH.n]; exact hlt)
  refine ⟨?_, hX.live o x ho1, fun o' x' hge ho' he => ?_⟩
  ·show G.L (G'.μ o).1
   rw [hμ]; exact hH.live o x ho
  ·have := hX.inj o o' x x' ho1 ho' he
   omega)
 have hE2 : Evo G (Cfg.less { G' with n := H.length } L2) := ⟨hE.os, hE.tape, hE.output, hE.size, fun k hk hL => ⟨(hE.keep k hk hL).1, fun hh => hL hh.1⟩, by show G.n ≤ H.length; rw [hH.n]; exact Nat.le_refl _, fun o ho => hE.μ o ho, hE.K⟩
 have hK : HR G' (old H.length H1) := hX.fewer (by unfold old; simp; omega) fun o x ho => (old_get ho).2
 refine ⟨r', H, Cfg.less { G' with n := H.length } L2, v, rfl, rfl, hE2, ?_, hF2, hr', rfl⟩
 refine frz_ok (G' := G') (G'' := Cfg.less { G' with n := H.length } L2) rfl (fun b hn hh => hn (hh.imp (fun h => h.2.1) id)) hK ?_ n r v r' hx hf
 intro o x ho hh
 obtain ⟨h1, h2⟩ := old_get ho
 rcases hh with hh | hh
 ·exact hh.2.2 o x h1 h2 rfl
 ·exact hX.dis _ (hX.live o x h2) hh
end
end Go.Proofs.Ytofgloiebnppbaa.Av
end
