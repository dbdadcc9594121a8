/- Formulas of functions of the program: printed by a program of this session (wip/tools/Pr.lean.txt), each checked by the kernel. -/
import Derived.Test.YthgkepaadkmhoaaAvG
import Derived.Test.YthgkepaadkmhoaaAvZ
set_option linter.unusedVariables false
set_option maxRecDepth 100000
namespace Go.Proofs.Ythgkepaadkmhoaa.Av
open Go
def pql : FuncId → Bool := inL [3,13,17,18,20]
def pal : FuncId → Bool := inL [9]
theorem mixP : Try.prog.follows .mixedOrders = true := by kernel_rfl
/-! salvor/salvorlaw10.DiskRuns -/
def salvorlaw10_DiskRuns_fl : Floats := flOf []
def salvorlaw10_DiskRuns_kp : Nat → Option (List Bool) := kpOf []
def salvorlaw10_DiskRuns_un : Nat → Bool := inL []
def salvorlaw10_DiskRuns_c (p : List Bool) (n : Nat) : List AV → AH → Kf → Prop := sCode Try.prog salvorlaw10_DiskRuns_fl pql pal salvorlaw10_DiskRuns_un salvorlaw10_DiskRuns_kp (sub p (bodyOf Try.f3)) n
def salvorlaw10_DiskRuns (H : AH) (K : AV → AH → Prop) : Prop :=
bH (amk 1 1 [(.lit (.int .u8 0))] H (.lit (.int .i64 16)) (.lit (.int .i64 16))) fun v0 H1 =>
bO (abl [(.lit (.int .i64 0)), (.lit (.int .i64 0))] [(0, 1, (.lit (.int .i64 1))), (1, 1, (.lit (.int .i64 1)))]) fun v2 =>
bH (absl H1 2 1 (zrow [(.lit (.int .i64 0)), (.lit (.int .i64 0))] 1) [(0, 2, v2)]) fun v3 H4 =>
bO (abl [(.lit (.slice none 0 0)), (.lit (.slice none 0 0)), (.lit (.slice none 0 0)), (.lit (.slice none 0 0))] [(0, 1, v0), (2, 1, v3)]) fun v5 =>
bA (ACalls Try.prog 9 [v5] H4) fun v6 H7 =>
bO (abN .eql nilP v6 (.lit (.pointer none))) fun v8 =>
bB v8 fun t9 => bI t9 (
K (.lit (.bool false)) H7)
 (bC (BCall Try.prog 10 [v6, (.lit (.int .i64 0)), (.lit (.int .i64 16))] H7) fun v10 H11 =>
bO (aextract v10 0) fun v12 =>
bO (aextract v10 1) fun v13 =>
bC (BCall Try.prog 10 [v6, (.lit (.int .i64 8)), (.lit (.int .i64 8))] H11) fun v14 H15 =>
bO (aextract v14 0) fun v16 =>
bO (aextract v14 1) fun v17 =>
bC (BCall Try.prog 10 [v6, (.lit (.int .i64 8)), (.lit (.int .i64 8))] H15) fun v18 H19 =>
bO (aextract v18 0) fun v20 =>
bO (aextract v18 1) fun v21 =>
bO (alnS v12) fun v22 =>
bO (abI .eql v22 (.lit (.int .i64 8))) fun v23 =>
bG v23 true fun w24 =>
gO w24 (some v13) fun v25 =>
bG v23 true fun w26 =>
gO w26 (abI .eql v25 (.lit (.int .i64 0))) fun v27 =>
bO (apick v23 v27 (.lit (.bool false))) fun v28 =>
bG v28 true fun w29 =>
gO w29 (some v16) fun v30 =>
bG v28 true fun w31 =>
gO w31 (alnS v30) fun v32 =>
bG v28 true fun w33 =>
gO w33 (abI .eql v32 (.lit (.int .i64 0))) fun v34 =>
bO (apick v28 v34 (.lit (.bool false))) fun v35 =>
bG v35 true fun w36 =>
gO w36 (some v17) fun v37 =>
bG v35 true fun w38 =>
gO w38 (abI .eql v37 (.lit (.int .i64 1))) fun v39 =>
bO (apick v35 v39 (.lit (.bool false))) fun v40 =>
bG v40 true fun w41 =>
gO w41 (some v20) fun v42 =>
bG v40 true fun w43 =>
gO w43 (alnS v42) fun v44 =>
bG v40 true fun w45 =>
gO w45 (abI .eql v44 (.lit (.int .i64 8))) fun v46 =>
bO (apick v40 v46 (.lit (.bool false))) fun v47 =>
bG v47 true fun w48 =>
gO w48 (some v21) fun v49 =>
bG v47 true fun w50 =>
gO w50 (abI .eql v49 (.lit (.int .i64 0))) fun v51 =>
bO (apick v47 v51 (.lit (.bool false))) fun v52 =>
bG v52 true fun w53 =>
gO w53 (some v6) fun v54 =>
bG v52 true fun w55 =>
gC w55 (BCall Try.prog 11 [v54] H19) H19 fun v56 H57 =>
bG v52 true fun w58 =>
gO w58 (abI .eql v56 (.lit (.int .i64 16))) fun v59 =>
bO (apick v52 v59 (.lit (.bool false))) fun v60 =>
bG v60 true fun w61 =>
gO w61 (some v6) fun v62 =>
bG v60 true fun w63 =>
gC w63 (BCall Try.prog 12 [v62] H57) H57 fun v64 H65 =>
bG v60 true fun w66 =>
gO w66 (abI .eql v64 (.lit (.int .i64 3))) fun v67 =>
bO (apick v60 v67 (.lit (.bool false))) fun v68 =>
K v68 H65)
theorem salvorlaw10_DiskRuns_eq (H : AH) (K : AV → AH → Prop) : sFun Try.prog salvorlaw10_DiskRuns_fl pql pal salvorlaw10_DiskRuns_un salvorlaw10_DiskRuns_kp Try.f3 [] H K = salvorlaw10_DiskRuns H K := by kernel_rfl
theorem salvorlaw10_DiskRuns_ok {H : AH} {K : AV → AH → Prop} (h : salvorlaw10_DiskRuns H K) : ACalls Try.prog 3 [] H K :=
  sFun_wp mixP Try.func3 (by kernel_rfl) (Eq.mpr (salvorlaw10_DiskRuns_eq H K) h)
/-! salvor/salvorlaw10.DiskShorts -/
def salvorlaw10_DiskShorts_fl : Floats := flOf []
def salvorlaw10_DiskShorts_kp : Nat → Option (List Bool) := kpOf [(14, mk 71 0 [0, 5, 6, 7]), (19, mk 71 0 [0, 5, 6, 7, 69]), (18, mk 71 0 [0, 5, 6, 7, 8, 9, 10]), (16, mk 71 0 [0, 5, 6, 7, 8]), (11, mk 71 0 [0, 5, 6, 7])]
def salvorlaw10_DiskShorts_un : Nat → Bool := inL []
def salvorlaw10_DiskShorts_c (p : List Bool) (n : Nat) : List AV → AH → Kf → Prop := sCode Try.prog salvorlaw10_DiskShorts_fl pql pal salvorlaw10_DiskShorts_un salvorlaw10_DiskShorts_kp (sub p (bodyOf Try.f4)) n
def salvorlaw10_DiskShorts_J14 (R11 : List AV → AH → Prop) (x0 x5 x6 x7 : AV) (H : AH) (K : AV → AH → Prop) : Prop := jn (mk 71 0 [0, 5, 6, 7]) (salvorlaw10_DiskShorts_c [true, true, true, true, true, false, true, false, false, true, true] 21) [x0, x5, x6, x7] H (kLp (mk 71 0 [0, 5, 6, 7]) R11 (kBlk 0 (kSeq (salvorlaw10_DiskShorts_c [true, true, true, true, true, true] 21) (kRet Try.prog Try.f4.results.toList K))))
def salvorlaw10_DiskShorts_J19 (R11 : List AV → AH → Prop) (x0 x5 x6 x7 x69 : AV) (H : AH) (K : AV → AH → Prop) : Prop := jn (mk 71 0 [0, 5, 6, 7, 69]) (salvorlaw10_DiskShorts_c [true, true, true, true, true, false, true, false, false, true, false, false, true, true, true, true] 20) [x0, x5, x6, x7, x69] H (kBlk 1 (kSeq (cutC (mk 71 0 [0, 5, 6, 7]) (salvorlaw10_DiskShorts_c [true, true, true, true, true, false, true, false, false, true, true] 21)) (kLp (mk 71 0 [0, 5, 6, 7]) R11 (kBlk 0 (kSeq (salvorlaw10_DiskShorts_c [true, true, true, true, true, true] 21) (kRet Try.prog Try.f4.results.toList K))))))
def salvorlaw10_DiskShorts_J18 (R11 : List AV → AH → Prop) (x0 x5 x6 x7 x8 x9 x10 : AV) (H : AH) (K : AV → AH → Prop) : Prop := jn (mk 71 0 [0, 5, 6, 7, 8, 9, 10]) (salvorlaw10_DiskShorts_c [true, true, true, true, true, false, true, false, false, true, false, false, true, true, true] 19) [x0, x5, x6, x7, x8, x9, x10] H (kBlk 1 (kSeq (cutC (mk 71 0 [0, 5, 6, 7]) (salvorlaw10_DiskShorts_c [true, true, true, true, true, false, true, false, false, true, true] 21)) (kLp (mk 71 0 [0, 5, 6, 7]) R11 (kBlk 0 (kSeq (salvorlaw10_DiskShorts_c [true, true, true, true, true, true] 21) (kRet Try.prog Try.f4.results.toList K))))))
def salvorlaw10_DiskShorts_J16 (R11 : List AV → AH → Prop) (x0 x5 x6 x7 x8 : AV) (H : AH) (K : AV → AH → Prop) : Prop := jn (mk 71 0 [0, 5, 6, 7, 8]) (salvorlaw10_DiskShorts_c [true, true, true, true, true, false, true, false, false, true, false, false, true, true] 18) [x0, x5, x6, x7, x8] H (kBlk 1 (kSeq (cutC (mk 71 0 [0, 5, 6, 7]) (salvorlaw10_DiskShorts_c [true, true, true, true, true, false, true, false, false, true, true] 21)) (kLp (mk 71 0 [0, 5, 6, 7]) R11 (kBlk 0 (kSeq (salvorlaw10_DiskShorts_c [true, true, true, true, true, true] 21) (kRet Try.prog Try.f4.results.toList K))))))
def salvorlaw10_DiskShorts_L11 (x0 x5 x6 x7 : AV) (H : AH) (K : AV → AH → Prop) : Prop := lp (mk 71 0 [0, 5, 6, 7]) (salvorlaw10_DiskShorts_c [true, true, true, true, true, false, true, false, false] 12) [x0, x5, x6, x7] H (kBlk 0 (kSeq (salvorlaw10_DiskShorts_c [true, true, true, true, true, true] 21) (kRet Try.prog Try.f4.results.toList K)))
def salvorlaw10_DiskShorts_J14_b (R11 : List AV → AH → Prop) (x0 x5 x6 x7 : AV) (H : AH) (K : AV → AH → Prop) : Prop :=
bO (abI .add x7 (.lit (.int .i64 1))) fun v0 =>
R11 [x0, x5, x6, v0] H
theorem salvorlaw10_DiskShorts_J14_eq0 (R11 : List AV → AH → Prop) (x0 x5 x6 x7 : AV) (H : AH) (K : AV → AH → Prop) : salvorlaw10_DiskShorts_c [true, true, true, true, true, false, true, false, false, true, true] 21 (expand (mk 71 0 [0, 5, 6, 7]) [x0, x5, x6, x7]) H (kLp (mk 71 0 [0, 5, 6, 7]) R11 (kBlk 0 (kSeq (salvorlaw10_DiskShorts_c [true, true, true, true, true, true] 21) (kRet Try.prog Try.f4.results.toList K)))) = salvorlaw10_DiskShorts_J14_b R11 x0 x5 x6 x7 H K := by kernel_rfl
theorem salvorlaw10_DiskShorts_J14_eq (R11 : List AV → AH → Prop) (x0 x5 x6 x7 : AV) (H : AH) (K : AV → AH → Prop) : salvorlaw10_DiskShorts_J14 R11 x0 x5 x6 x7 H K = salvorlaw10_DiskShorts_J14_b R11 x0 x5 x6 x7 H K := (jn_eq _ _ _ _ _).trans (salvorlaw10_DiskShorts_J14_eq0 R11 x0 x5 x6 x7 H K)
def salvorlaw10_DiskShorts_J19_b (R11 : List AV → AH → Prop) (x0 x5 x6 x7 x69 : AV) (H : AH) (K : AV → AH → Prop) : Prop :=
bB x69 fun t0 => bI t0 (
K (.lit (.bool false)) H)
 (salvorlaw10_DiskShorts_J14 R11 x0 x5 x6 x7 H K)
theorem salvorlaw10_DiskShorts_J19_eq0 (R11 : List AV → AH → Prop) (x0 x5 x6 x7 x69 : AV) (H : AH) (K : AV → AH → Prop) : salvorlaw10_DiskShorts_c [true, true, true, true, true, false, true, false, false, true, false, false, true, true, true, true] 20 (expand (mk 71 0 [0, 5, 6, 7, 69]) [x0, x5, x6, x7, x69]) H (kBlk 1 (kSeq (cutC (mk 71 0 [0, 5, 6, 7]) (salvorlaw10_DiskShorts_c [true, true, true, true, true, false, true, false, false, true, true] 21)) (kLp (mk 71 0 [0, 5, 6, 7]) R11 (kBlk 0 (kSeq (salvorlaw10_DiskShorts_c [true, true, true, true, true, true] 21) (kRet Try.prog Try.f4.results.toList K)))))) = salvorlaw10_DiskShorts_J19_b R11 x0 x5 x6 x7 x69 H K := by kernel_rfl
theorem salvorlaw10_DiskShorts_J19_eq (R11 : List AV → AH → Prop) (x0 x5 x6 x7 x69 : AV) (H : AH) (K : AV → AH → Prop) : salvorlaw10_DiskShorts_J19 R11 x0 x5 x6 x7 x69 H K = salvorlaw10_DiskShorts_J19_b R11 x0 x5 x6 x7 x69 H K := (jn_eq _ _ _ _ _).trans (salvorlaw10_DiskShorts_J19_eq0 R11 x0 x5 x6 x7 x69 H K)
def salvorlaw10_DiskShorts_J18_b (R11 : List AV → AH → Prop) (x0 x5 x6 x7 x8 x9 x10 : AV) (H : AH) (K : AV → AH → Prop) : Prop :=
bO (alnS x9) fun v0 =>
bO (abI .neq v0 x8) fun v1 =>
bG v1 false fun w2 =>
gO w2 (some x10) fun v3 =>
bG v1 false fun w4 =>
gO w4 (abI .neq v3 (.lit (.int .i64 0))) fun v5 =>
bO (apick v1 (.lit (.bool true)) v5) fun v6 =>
salvorlaw10_DiskShorts_J19 R11 x0 x5 x6 x7 v6 H K
theorem salvorlaw10_DiskShorts_J18_eq0 (R11 : List AV → AH → Prop) (x0 x5 x6 x7 x8 x9 x10 : AV) (H : AH) (K : AV → AH → Prop) : salvorlaw10_DiskShorts_c [true, true, true, true, true, false, true, false, false, true, false, false, true, true, true] 19 (expand (mk 71 0 [0, 5, 6, 7, 8, 9, 10]) [x0, x5, x6, x7, x8, x9, x10]) H (kBlk 1 (kSeq (cutC (mk 71 0 [0, 5, 6, 7]) (salvorlaw10_DiskShorts_c [true, true, true, true, true, false, true, false, false, true, true] 21)) (kLp (mk 71 0 [0, 5, 6, 7]) R11 (kBlk 0 (kSeq (salvorlaw10_DiskShorts_c [true, true, true, true, true, true] 21) (kRet Try.prog Try.f4.results.toList K)))))) = salvorlaw10_DiskShorts_J18_b R11 x0 x5 x6 x7 x8 x9 x10 H K := by kernel_rfl
theorem salvorlaw10_DiskShorts_J18_eq (R11 : List AV → AH → Prop) (x0 x5 x6 x7 x8 x9 x10 : AV) (H : AH) (K : AV → AH → Prop) : salvorlaw10_DiskShorts_J18 R11 x0 x5 x6 x7 x8 x9 x10 H K = salvorlaw10_DiskShorts_J18_b R11 x0 x5 x6 x7 x8 x9 x10 H K := (jn_eq _ _ _ _ _).trans (salvorlaw10_DiskShorts_J18_eq0 R11 x0 x5 x6 x7 x8 x9 x10 H K)
def salvorlaw10_DiskShorts_J16_b (R11 : List AV → AH → Prop) (x0 x5 x6 x7 x8 : AV) (H : AH) (K : AV → AH → Prop) : Prop :=
bO (abI .rem x7 (.lit (.int .i64 40))) fun v0 =>
bC (BCall Try.prog 10 [x5, v0, x6] H) fun v1 H2 =>
bO (aextract v1 0) fun v3 =>
bO (aextract v1 1) fun v4 =>
salvorlaw10_DiskShorts_J18 R11 x0 x5 x6 x7 x8 v3 v4 H2 K
theorem salvorlaw10_DiskShorts_J16_eq0 (R11 : List AV → AH → Prop) (x0 x5 x6 x7 x8 : AV) (H : AH) (K : AV → AH → Prop) : salvorlaw10_DiskShorts_c [true, true, true, true, true, false, true, false, false, true, false, false, true, true] 18 (expand (mk 71 0 [0, 5, 6, 7, 8]) [x0, x5, x6, x7, x8]) H (kBlk 1 (kSeq (cutC (mk 71 0 [0, 5, 6, 7]) (salvorlaw10_DiskShorts_c [true, true, true, true, true, false, true, false, false, true, true] 21)) (kLp (mk 71 0 [0, 5, 6, 7]) R11 (kBlk 0 (kSeq (salvorlaw10_DiskShorts_c [true, true, true, true, true, true] 21) (kRet Try.prog Try.f4.results.toList K)))))) = salvorlaw10_DiskShorts_J16_b R11 x0 x5 x6 x7 x8 H K := by kernel_rfl
theorem salvorlaw10_DiskShorts_J16_eq (R11 : List AV → AH → Prop) (x0 x5 x6 x7 x8 : AV) (H : AH) (K : AV → AH → Prop) : salvorlaw10_DiskShorts_J16 R11 x0 x5 x6 x7 x8 H K = salvorlaw10_DiskShorts_J16_b R11 x0 x5 x6 x7 x8 H K := (jn_eq _ _ _ _ _).trans (salvorlaw10_DiskShorts_J16_eq0 R11 x0 x5 x6 x7 x8 H K)
def salvorlaw10_DiskShorts_L11_b (R11 : List AV → AH → Prop) (x0 x5 x6 x7 : AV) (H : AH) (K : AV → AH → Prop) : Prop :=
bO (alnS x0) fun v0 =>
bO (abI .add v0 (.lit (.int .i64 2))) fun v1 =>
bO (abI .lss x7 v1) fun v2 =>
bB v2 fun t3 => bI t3 (
bO (alnS x0) fun v4 =>
bO (abI .lss x7 v4) fun v5 =>
bG v5 true fun w6 =>
gO w6 (some x0) fun v7 =>
bG v5 true fun w8 =>
gO w8 (some x7) fun v9 =>
bG v5 true fun w10 =>
gO w10 (aixS 1 v7 v9) fun v11 =>
bG v5 true fun w12 =>
gO w12 (ald false 1 H v11) fun v13 =>
bG v5 true fun w14 =>
gO w14 (abI .gtr v13 (.lit (.int .i64 0))) fun v15 =>
bO (apick v5 v15 (.lit (.bool false))) fun v16 =>
bG v16 true fun w17 =>
gO w17 (some x0) fun v18 =>
bG v16 true fun w19 =>
gO w19 (some x7) fun v20 =>
bG v16 true fun w21 =>
gO w21 (aixS 1 v18 v20) fun v22 =>
bG v16 true fun w23 =>
gO w23 (ald false 1 H v22) fun v24 =>
bG v16 true fun w25 =>
gO w25 (some x6) fun v26 =>
bG v16 true fun w27 =>
gO w27 (abI .lss v24 v26) fun v28 =>
bO (apick v16 v28 (.lit (.bool false))) fun v29 =>
bB v29 fun t30 => bI t30 (
bO (aixS 1 x0 x7) fun v31 =>
bO (ald false 1 H v31) fun v32 =>
salvorlaw10_DiskShorts_J16 R11 x0 x5 x6 x7 v32 H K)
 (salvorlaw10_DiskShorts_J16 R11 x0 x5 x6 x7 x6 H K))
 (bP (PCall Try.prog 3 [] H) fun v33 =>
K v33 H)
theorem salvorlaw10_DiskShorts_L11_eq (R11 : List AV → AH → Prop) (x0 x5 x6 x7 : AV) (H : AH) (K : AV → AH → Prop) : salvorlaw10_DiskShorts_c [true, true, true, true, true, false, true, false, false] 12 (expand (mk 71 0 [0, 5, 6, 7]) [x0, x5, x6, x7]) H (kLp (mk 71 0 [0, 5, 6, 7]) R11 (kBlk 0 (kSeq (salvorlaw10_DiskShorts_c [true, true, true, true, true, true] 21) (kRet Try.prog Try.f4.results.toList K)))) = salvorlaw10_DiskShorts_L11_b R11 x0 x5 x6 x7 H K := by kernel_rfl
theorem salvorlaw10_DiskShorts_L11_rule {K : AV → AH → Prop} (I : Nat → AV → AV → AV → AV → AH → Prop) (round : ∀ (n : Nat) (x0 x5 x6 x7 : AV) (H : AH) (R : List AV → AH → Prop), (∀ (m : Nat) (y0 y5 y6 y7 : AV) (H' : AH), m < n → I m y0 y5 y6 y7 H' → R [y0, y5, y6, y7] H') → I n x0 x5 x6 x7 H → salvorlaw10_DiskShorts_L11_b R x0 x5 x6 x7 H K) (n : Nat) {x0 x5 x6 x7 : AV} {H : AH} (h : I n x0 x5 x6 x7 H) : salvorlaw10_DiskShorts_L11 x0 x5 x6 x7 H K := by
  refine lp_upto (sCode_one_calm _ _ (by kernel_rfl)) (LI4 I) ?_ n h
  intro n X H h
  obtain ⟨x0, x5, x6, x7, rfl, h⟩ := h.elim
  exact Eq.mpr (salvorlaw10_DiskShorts_L11_eq _ x0 x5 x6 x7 H K) (round n x0 x5 x6 x7 H (fun X H' => ∃ m, m < n ∧ LI4 I m X H') (fun m y0 y5 y6 y7 H' hm hi => ⟨m, hm, hi⟩) h)
def salvorlaw10_DiskShorts (a0 a1 : AV) (H : AH) (K : AV → AH → Prop) : Prop :=
bO (alnS a0) fun v0 =>
bO (abI .gtr v0 (.lit (.int .i64 100))) fun v1 =>
bB v1 fun t2 => bI t2 (
bP (PCall Try.prog 3 [] H) fun v3 =>
K v3 H)
 (bH (amk 1 1 [(.lit (.int .u8 0))] H (.lit (.int .i64 300)) (.lit (.int .i64 300))) fun v4 H5 =>
bO (abl [(.lit (.slice none 0 0)), (.lit (.slice none 0 0)), (.lit (.slice none 0 0)), (.lit (.slice none 0 0))] [(0, 1, v4), (3, 1, a0)]) fun v6 =>
bA (ACalls Try.prog 9 [v6] H5) fun v7 H8 =>
bO (abN .eql nilP v7 (.lit (.pointer none))) fun v9 =>
bB v9 fun t10 => bI t10 (
K (.lit (.bool false)) H8)
 (bO (acI .i64 a1) fun v11 =>
salvorlaw10_DiskShorts_L11 a0 v7 v11 (.lit (.int .i64 0)) H8 K))
theorem salvorlaw10_DiskShorts_eq (a0 a1 : AV) (H : AH) (K : AV → AH → Prop) : sFun Try.prog salvorlaw10_DiskShorts_fl pql pal salvorlaw10_DiskShorts_un salvorlaw10_DiskShorts_kp Try.f4 [a0, a1] H K = salvorlaw10_DiskShorts a0 a1 H K := by kernel_rfl
theorem salvorlaw10_DiskShorts_ok {a0 a1 : AV} {H : AH} {K : AV → AH → Prop} (h : salvorlaw10_DiskShorts a0 a1 H K) : ACalls Try.prog 4 [a0, a1] H K :=
  sFun_wp mixP Try.func4 (by kernel_rfl) (Eq.mpr (salvorlaw10_DiskShorts_eq a0 a1 H K) h)
/-! salvor/salvorlaw10.DiskMay -/
def salvorlaw10_DiskMay_fl : Floats := flOf [(3, [(2, none)]), (11, [(12, none), (13, none)])]
def salvorlaw10_DiskMay_kp : Nat → Option (List Bool) := kpOf [(100003, mk 51 0 [1]), (10, mk 51 0 [1, 3, 4, 5]), (4, mk 51 0 [1, 3, 4])]
def salvorlaw10_DiskMay_un : Nat → Bool := inL [3]
def salvorlaw10_DiskMay_c (p : List Bool) (n : Nat) : List AV → AH → Kf → Prop := sCode Try.prog salvorlaw10_DiskMay_fl pql pal salvorlaw10_DiskMay_un salvorlaw10_DiskMay_kp (sub p (bodyOf Try.f5)) n
def salvorlaw10_DiskMay_L10 (x1 x3 x4 x5 : AV) (H : AH) (K : AV → AH → Prop) : Prop := lp (mk 51 0 [1, 3, 4, 5]) (salvorlaw10_DiskMay_c [true, true, true, true, false, true, false, false] 11) [x1, x3, x4, x5] H (kBlk 0 (kSeq (salvorlaw10_DiskMay_c [true, true, true, true, true] 16) (kRet Try.prog Try.f5.results.toList K)))
def salvorlaw10_DiskMay_J4 (x1 x3 x4 : AV) (H : AH) (K : AV → AH → Prop) : Prop := jn (mk 51 0 [1, 3, 4]) (salvorlaw10_DiskMay_c [true, true, true] 5) [x1, x3, x4] H (kRet Try.prog Try.f5.results.toList K)
def salvorlaw10_DiskMay_U3 (x1 : AV) (H : AH) (K : AV → AH → Prop) : Prop := unR Try.prog 3 (opsOf (sub [true, true, false] (bodyOf Try.f5))) (expand (mk 51 0 [1]) [x1]) H (kSeq (cutC (mk 51 0 [1, 3, 4]) (salvorlaw10_DiskMay_c [true, true, true] 5)) (kRet Try.prog Try.f5.results.toList K))
def salvorlaw10_DiskMay_L10_b (R10 : List AV → AH → Prop) (x1 x3 x4 x5 : AV) (H : AH) (K : AV → AH → Prop) : Prop :=
bO (abI .lss x5 (.lit (.int .i64 60))) fun v0 =>
bB v0 fun t1 => bI t1 (
bC (BCall Try.prog 15 [x3, x5] H) fun v2 H3 =>
bC (BCall Try.prog 16 [x4, x5] H3) fun v4 H5 =>
bO (abI .neq v2 v4) fun v6 =>
bB v6 fun t7 => bI t7 (
K (.lit (.bool false)) H5)
 (bO (abI .add x5 (.lit (.int .i64 1))) fun v8 =>
R10 [x1, x3, x4, v8] H5))
 (bO (ald true 4 H x1) fun v9 =>
bP (BPure Try.prog 17 [v9]) fun v10 =>
bO (ald true 4 H x1) fun v11 =>
bP (BPure Try.prog 18 [v11]) fun v12 =>
bO (abB .eql v10 v12) fun v13 =>
bG v13 true fun w14 =>
gO w14 (some x3) fun v15 =>
bG v13 true fun w16 =>
gC w16 (BCall Try.prog 11 [v15] H) H fun v17 H18 =>
bG v13 true fun w19 =>
gO w19 (some x4) fun v20 =>
bG v13 true fun w21 =>
gO w21 (anilCheck v20) fun v22 =>
bG v13 true fun w23 =>
gO w23 (ashift 0 v22) fun v24 =>
bG v13 true fun w25 =>
gO w25 (ashift 0 v24) fun v26 =>
bG v13 true fun w27 =>
gO w27 (ald false 1 H18 v26) fun v28 =>
bG v13 true fun w29 =>
gO w29 (alnS v28) fun v30 =>
bG v13 true fun w31 =>
gO w31 (abI .eql v17 v30) fun v32 =>
bO (apick v13 v32 (.lit (.bool false))) fun v33 =>
bG v33 true fun w34 =>
gO w34 (some x3) fun v35 =>
bG v33 true fun w36 =>
gC w36 (BCall Try.prog 12 [v35] H18) H18 fun v37 H38 =>
bG v33 true fun w39 =>
gO w39 (abI .eql v37 (.lit (.int .i64 0))) fun v40 =>
bO (apick v33 v40 (.lit (.bool false))) fun v41 =>
bG v41 true fun w42 =>
gP w42 (BPure Try.prog 3 []) fun v43 =>
bO (apick v41 v43 (.lit (.bool false))) fun v44 =>
(bG v13 true fun w => bI w (ald false 1 H v26 = some v28) True) ∧
(bG v13 true fun w => bI w (alnS v28 = some v30) True) ∧
K v44 H38)
theorem salvorlaw10_DiskMay_L10_eq (R10 : List AV → AH → Prop) (x1 x3 x4 x5 : AV) (H : AH) (K : AV → AH → Prop) : salvorlaw10_DiskMay_c [true, true, true, true, false, true, false, false] 11 (expand (mk 51 0 [1, 3, 4, 5]) [x1, x3, x4, x5]) H (kLp (mk 51 0 [1, 3, 4, 5]) R10 (kBlk 0 (kSeq (salvorlaw10_DiskMay_c [true, true, true, true, true] 16) (kRet Try.prog Try.f5.results.toList K)))) = salvorlaw10_DiskMay_L10_b R10 x1 x3 x4 x5 H K := by kernel_rfl
theorem salvorlaw10_DiskMay_L10_rule {K : AV → AH → Prop} (I : Nat → AV → AV → AV → AV → AH → Prop) (round : ∀ (n : Nat) (x1 x3 x4 x5 : AV) (H : AH) (R : List AV → AH → Prop), (∀ (m : Nat) (y1 y3 y4 y5 : AV) (H' : AH), m < n → I m y1 y3 y4 y5 H' → R [y1, y3, y4, y5] H') → I n x1 x3 x4 x5 H → salvorlaw10_DiskMay_L10_b R x1 x3 x4 x5 H K) (n : Nat) {x1 x3 x4 x5 : AV} {H : AH} (h : I n x1 x3 x4 x5 H) : salvorlaw10_DiskMay_L10 x1 x3 x4 x5 H K := by
  refine lp_upto (sCode_one_calm _ _ (by kernel_rfl)) (LI4 I) ?_ n h
  intro n X H h
  obtain ⟨x1, x3, x4, x5, rfl, h⟩ := h.elim
  exact Eq.mpr (salvorlaw10_DiskMay_L10_eq _ x1 x3 x4 x5 H K) (round n x1 x3 x4 x5 H (fun X H' => ∃ m, m < n ∧ LI4 I m X H') (fun m y1 y3 y4 y5 H' hm hi => ⟨m, hm, hi⟩) h)
def salvorlaw10_DiskMay_J4_b (x1 x3 x4 : AV) (H : AH) (K : AV → AH → Prop) : Prop :=
bO (abN .eql nilP x3 (.lit (.pointer none))) fun v0 =>
bB v0 fun t1 => bI t1 (
K (.lit (.bool false)) H)
 (salvorlaw10_DiskMay_L10 x1 x3 x4 (.lit (.int .i64 (-1))) H K)
theorem salvorlaw10_DiskMay_J4_eq0 (x1 x3 x4 : AV) (H : AH) (K : AV → AH → Prop) : salvorlaw10_DiskMay_c [true, true, true] 5 (expand (mk 51 0 [1, 3, 4]) [x1, x3, x4]) H (kRet Try.prog Try.f5.results.toList K) = salvorlaw10_DiskMay_J4_b x1 x3 x4 H K := by kernel_rfl
theorem salvorlaw10_DiskMay_J4_eq (x1 x3 x4 : AV) (H : AH) (K : AV → AH → Prop) : salvorlaw10_DiskMay_J4 x1 x3 x4 H K = salvorlaw10_DiskMay_J4_b x1 x3 x4 H K := (jn_eq _ _ _ _ _).trans (salvorlaw10_DiskMay_J4_eq0 x1 x3 x4 H K)
def salvorlaw10_DiskMay (a0 : AV) (H : AH) (K : AV → AH → Prop) : Prop :=
bH (anew H a0) fun v0 H1 =>
bO (ald true 4 H1 v0) fun v2 =>
bP (PCall Try.prog 13 [v2] H1) fun v3 =>
bO (aun .not v3) fun v4 =>
bB v4 fun t5 => bI t5 (
bP (PCall Try.prog 3 [] H1) fun v6 =>
K v6 H1)
 (salvorlaw10_DiskMay_U3 v0 H1 K)
theorem salvorlaw10_DiskMay_eq (a0 : AV) (H : AH) (K : AV → AH → Prop) : sFun Try.prog salvorlaw10_DiskMay_fl pql pal salvorlaw10_DiskMay_un salvorlaw10_DiskMay_kp Try.f5 [a0] H K = salvorlaw10_DiskMay a0 H K := by kernel_rfl
theorem salvorlaw10_DiskMay_ok {a0 : AV} {H : AH} {K : AV → AH → Prop} (h : salvorlaw10_DiskMay a0 H K) : ACalls Try.prog 5 [a0] H K :=
  sFun_wp mixP Try.func5 (by kernel_rfl) (Eq.mpr (salvorlaw10_DiskMay_eq a0 H K) h)
/-! salvor/salvorlaw10.DiskPlays -/
def salvorlaw10_DiskPlays_fl : Floats := flOf [(3, [(2, none)]), (11, [(16, none)])]
def salvorlaw10_DiskPlays_kp : Nat → Option (List Bool) := kpOf [(100003, mk 106 0 [1, 2, 3]), (20, mk 106 0 [7, 8, 14]), (10, mk 106 0 [1, 2, 7, 8, 9]), (4, mk 106 0 [1, 2, 7, 8])]
def salvorlaw10_DiskPlays_un : Nat → Bool := inL [3]
def salvorlaw10_DiskPlays_c (p : List Bool) (n : Nat) : List AV → AH → Kf → Prop := sCode Try.prog salvorlaw10_DiskPlays_fl pql pal salvorlaw10_DiskPlays_un salvorlaw10_DiskPlays_kp (sub p (bodyOf Try.f6)) n
def salvorlaw10_DiskPlays_L20 (x7 x8 x14 : AV) (H : AH) (K : AV → AH → Prop) : Prop := lp (mk 106 0 [7, 8, 14]) (salvorlaw10_DiskPlays_c [true, true, true, true, true, false, true, false, false] 21) [x7, x8, x14] H (kBlk 2 (kSeq (salvorlaw10_DiskPlays_c [true, true, true, true, true, true] 26) (kRet Try.prog Try.f6.results.toList K)))
def salvorlaw10_DiskPlays_L10 (x1 x2 x7 x8 x9 : AV) (H : AH) (K : AV → AH → Prop) : Prop := lp (mk 106 0 [1, 2, 7, 8, 9]) (salvorlaw10_DiskPlays_c [true, true, true, true, false, true, false, false] 11) [x1, x2, x7, x8, x9] H (kBlk 0 (kSeq (salvorlaw10_DiskPlays_c [true, true, true, true, true] 18) (kRet Try.prog Try.f6.results.toList K)))
def salvorlaw10_DiskPlays_J4 (x1 x2 x7 x8 : AV) (H : AH) (K : AV → AH → Prop) : Prop := jn (mk 106 0 [1, 2, 7, 8]) (salvorlaw10_DiskPlays_c [true, true, true] 5) [x1, x2, x7, x8] H (kRet Try.prog Try.f6.results.toList K)
def salvorlaw10_DiskPlays_U3 (x1 x2 x3 : AV) (H : AH) (K : AV → AH → Prop) : Prop := unR Try.prog 3 (opsOf (sub [true, true, false] (bodyOf Try.f6))) (expand (mk 106 0 [1, 2, 3]) [x1, x2, x3]) H (kSeq (cutC (mk 106 0 [1, 2, 7, 8]) (salvorlaw10_DiskPlays_c [true, true, true] 5)) (kRet Try.prog Try.f6.results.toList K))
def salvorlaw10_DiskPlays_L20_b (R20 : List AV → AH → Prop) (x7 x8 x14 : AV) (H : AH) (K : AV → AH → Prop) : Prop :=
bO (abI .lss x14 (.lit (.int .i64 60))) fun v0 =>
bB v0 fun t1 => bI t1 (
bC (BCall Try.prog 15 [x7, x14] H) fun v2 H3 =>
bC (BCall Try.prog 16 [x8, x14] H3) fun v4 H5 =>
bO (abI .neq v2 v4) fun v6 =>
bB v6 fun t7 => bI t7 (
K (.lit (.bool false)) H5)
 (bO (abI .add x14 (.lit (.int .i64 1))) fun v8 =>
R20 [x7, x8, v8] H5))
 (bP (PCall Try.prog 3 [] H) fun v9 =>
K v9 H)
theorem salvorlaw10_DiskPlays_L20_eq (R20 : List AV → AH → Prop) (x7 x8 x14 : AV) (H : AH) (K : AV → AH → Prop) : salvorlaw10_DiskPlays_c [true, true, true, true, true, false, true, false, false] 21 (expand (mk 106 0 [7, 8, 14]) [x7, x8, x14]) H (kLp (mk 106 0 [7, 8, 14]) R20 (kBlk 2 (kSeq (salvorlaw10_DiskPlays_c [true, true, true, true, true, true] 26) (kRet Try.prog Try.f6.results.toList K)))) = salvorlaw10_DiskPlays_L20_b R20 x7 x8 x14 H K := by kernel_rfl
theorem salvorlaw10_DiskPlays_L20_rule {K : AV → AH → Prop} (I : Nat → AV → AV → AV → AH → Prop) (round : ∀ (n : Nat) (x7 x8 x14 : AV) (H : AH) (R : List AV → AH → Prop), (∀ (m : Nat) (y7 y8 y14 : AV) (H' : AH), m < n → I m y7 y8 y14 H' → R [y7, y8, y14] H') → I n x7 x8 x14 H → salvorlaw10_DiskPlays_L20_b R x7 x8 x14 H K) (n : Nat) {x7 x8 x14 : AV} {H : AH} (h : I n x7 x8 x14 H) : salvorlaw10_DiskPlays_L20 x7 x8 x14 H K := by
  refine lp_upto (sCode_one_calm _ _ (by kernel_rfl)) (LI3 I) ?_ n h
  intro n X H h
  obtain ⟨x7, x8, x14, rfl, h⟩ := h.elim
  exact Eq.mpr (salvorlaw10_DiskPlays_L20_eq _ x7 x8 x14 H K) (round n x7 x8 x14 H (fun X H' => ∃ m, m < n ∧ LI3 I m X H') (fun m y7 y8 y14 H' hm hi => ⟨m, hm, hi⟩) h)
def salvorlaw10_DiskPlays_L10_b (R10 : List AV → AH → Prop) (x1 x2 x7 x8 x9 : AV) (H : AH) (K : AV → AH → Prop) : Prop :=
bO (alnS x1) fun v0 =>
bO (abI .lss x9 v0) fun v1 =>
bB v1 fun t2 => bI t2 (
bO (aixS 2 x1 x9) fun v3 =>
bO (ashift 0 v3) fun v4 =>
bO (ald false 1 H v4) fun v5 =>
bO (aixS 2 x1 x9) fun v6 =>
bO (ashift 1 v6) fun v7 =>
bO (ald false 1 H v7) fun v8 =>
bC (BCall Try.prog 10 [x7, v5, v8] H) fun v9 H10 =>
bO (aextract v9 0) fun v11 =>
bO (aextract v9 1) fun v12 =>
bO (aixS 2 x1 x9) fun v13 =>
bO (ashift 0 v13) fun v14 =>
bO (ald false 1 H10 v14) fun v15 =>
bO (aixS 2 x1 x9) fun v16 =>
bO (ashift 1 v16) fun v17 =>
bO (ald false 1 H10 v17) fun v18 =>
bC (BCall Try.prog 19 [x8, v15, v18] H10) fun v19 H20 =>
bO (aextract v19 0) fun v21 =>
bO (aextract v19 1) fun v22 =>
bO (acB H20 v11) fun v23 =>
bO (acB H20 v21) fun v24 =>
bO (abT .neq v23 v24) fun v25 =>
bG v25 false fun w26 =>
gO w26 (some v12) fun v27 =>
bG v25 false fun w28 =>
gO w28 (some v22) fun v29 =>
bG v25 false fun w30 =>
gO w30 (abI .neq v27 v29) fun v31 =>
bO (apick v25 (.lit (.bool true)) v31) fun v32 =>
bG v32 false fun w33 =>
gO w33 (some x7) fun v34 =>
bG v32 false fun w35 =>
gC w35 (BCall Try.prog 12 [v34] H20) H20 fun v36 H37 =>
bG v32 false fun w38 =>
gO w38 (some x8) fun v39 =>
bG v32 false fun w40 =>
gO w40 (anilCheck v39) fun v41 =>
bG v32 false fun w42 =>
gO w42 (ashift 5 v41) fun v43 =>
bG v32 false fun w44 =>
gO w44 (ald false 1 H37 v43) fun v45 =>
bG v32 false fun w46 =>
gO w46 (abI .neq v36 v45) fun v47 =>
bO (apick v32 (.lit (.bool true)) v47) fun v48 =>
bG v48 false fun w49 =>
gO w49 (some x7) fun v50 =>
bG v48 false fun w51 =>
gO w51 (some x2) fun v52 =>
bG v48 false fun w53 =>
gC w53 (BCall Try.prog 15 [v50, v52] H37) H37 fun v54 H55 =>
bG v48 false fun w56 =>
gO w56 (some x8) fun v57 =>
bG v48 false fun w58 =>
gO w58 (some x2) fun v59 =>
bG v48 false fun w60 =>
gC w60 (BCall Try.prog 16 [v57, v59] H55) H55 fun v61 H62 =>
bG v48 false fun w63 =>
gO w63 (abI .neq v54 v61) fun v64 =>
bO (apick v48 (.lit (.bool true)) v64) fun v65 =>
(bG v32 false fun w => bI w (ald false 1 H20 v43 = some v45) True) ∧
bB v65 fun t66 => bI t66 (
K (.lit (.bool false)) H62)
 (bO (abI .add x9 (.lit (.int .i64 1))) fun v67 =>
R10 [x1, x2, x7, x8, v67] H62))
 (salvorlaw10_DiskPlays_L20 x7 x8 (.lit (.int .i64 0)) H K)
theorem salvorlaw10_DiskPlays_L10_eq (R10 : List AV → AH → Prop) (x1 x2 x7 x8 x9 : AV) (H : AH) (K : AV → AH → Prop) : salvorlaw10_DiskPlays_c [true, true, true, true, false, true, false, false] 11 (expand (mk 106 0 [1, 2, 7, 8, 9]) [x1, x2, x7, x8, x9]) H (kLp (mk 106 0 [1, 2, 7, 8, 9]) R10 (kBlk 0 (kSeq (salvorlaw10_DiskPlays_c [true, true, true, true, true] 18) (kRet Try.prog Try.f6.results.toList K)))) = salvorlaw10_DiskPlays_L10_b R10 x1 x2 x7 x8 x9 H K := by kernel_rfl
theorem salvorlaw10_DiskPlays_L10_rule {K : AV → AH → Prop} (I : Nat → AV → AV → AV → AV → AV → AH → Prop) (round : ∀ (n : Nat) (x1 x2 x7 x8 x9 : AV) (H : AH) (R : List AV → AH → Prop), (∀ (m : Nat) (y1 y2 y7 y8 y9 : AV) (H' : AH), m < n → I m y1 y2 y7 y8 y9 H' → R [y1, y2, y7, y8, y9] H') → I n x1 x2 x7 x8 x9 H → salvorlaw10_DiskPlays_L10_b R x1 x2 x7 x8 x9 H K) (n : Nat) {x1 x2 x7 x8 x9 : AV} {H : AH} (h : I n x1 x2 x7 x8 x9 H) : salvorlaw10_DiskPlays_L10 x1 x2 x7 x8 x9 H K := by
  refine lp_upto (sCode_one_calm _ _ (by kernel_rfl)) (LI5 I) ?_ n h
  intro n X H h
  obtain ⟨x1, x2, x7, x8, x9, rfl, h⟩ := h.elim
  exact Eq.mpr (salvorlaw10_DiskPlays_L10_eq _ x1 x2 x7 x8 x9 H K) (round n x1 x2 x7 x8 x9 H (fun X H' => ∃ m, m < n ∧ LI5 I m X H') (fun m y1 y2 y7 y8 y9 H' hm hi => ⟨m, hm, hi⟩) h)
def salvorlaw10_DiskPlays_J4_b (x1 x2 x7 x8 : AV) (H : AH) (K : AV → AH → Prop) : Prop :=
bO (abN .eql nilP x7 (.lit (.pointer none))) fun v0 =>
bB v0 fun t1 => bI t1 (
K (.lit (.bool false)) H)
 (salvorlaw10_DiskPlays_L10 x1 x2 x7 x8 (.lit (.int .i64 0)) H K)
theorem salvorlaw10_DiskPlays_J4_eq0 (x1 x2 x7 x8 : AV) (H : AH) (K : AV → AH → Prop) : salvorlaw10_DiskPlays_c [true, true, true] 5 (expand (mk 106 0 [1, 2, 7, 8]) [x1, x2, x7, x8]) H (kRet Try.prog Try.f6.results.toList K) = salvorlaw10_DiskPlays_J4_b x1 x2 x7 x8 H K := by kernel_rfl
theorem salvorlaw10_DiskPlays_J4_eq (x1 x2 x7 x8 : AV) (H : AH) (K : AV → AH → Prop) : salvorlaw10_DiskPlays_J4 x1 x2 x7 x8 H K = salvorlaw10_DiskPlays_J4_b x1 x2 x7 x8 H K := (jn_eq _ _ _ _ _).trans (salvorlaw10_DiskPlays_J4_eq0 x1 x2 x7 x8 H K)
def salvorlaw10_DiskPlays (a0 a1 a2 : AV) (H : AH) (K : AV → AH → Prop) : Prop :=
bH (anew H a0) fun v0 H1 =>
bO (ald true 4 H1 v0) fun v2 =>
bP (PCall Try.prog 13 [v2] H1) fun v3 =>
bO (aun .not v3) fun v4 =>
bG v4 false fun w5 =>
gO w5 (some a1) fun v6 =>
bG v4 false fun w7 =>
gO w7 (alnS v6) fun v8 =>
bG v4 false fun w9 =>
gO w9 (abI .gtr v8 (.lit (.int .i64 100))) fun v10 =>
bO (apick v4 (.lit (.bool true)) v10) fun v11 =>
bB v11 fun t12 => bI t12 (
bP (PCall Try.prog 3 [] H1) fun v13 =>
K v13 H1)
 (salvorlaw10_DiskPlays_U3 a1 a2 v0 H1 K)
theorem salvorlaw10_DiskPlays_eq (a0 a1 a2 : AV) (H : AH) (K : AV → AH → Prop) : sFun Try.prog salvorlaw10_DiskPlays_fl pql pal salvorlaw10_DiskPlays_un salvorlaw10_DiskPlays_kp Try.f6 [a0, a1, a2] H K = salvorlaw10_DiskPlays a0 a1 a2 H K := by kernel_rfl
theorem salvorlaw10_DiskPlays_ok {a0 a1 a2 : AV} {H : AH} {K : AV → AH → Prop} (h : salvorlaw10_DiskPlays a0 a1 a2 H K) : ACalls Try.prog 6 [a0, a1, a2] H K :=
  sFun_wp mixP Try.func6 (by kernel_rfl) (Eq.mpr (salvorlaw10_DiskPlays_eq a0 a1 a2 H K) h)
/-! salvor/salvorlaw10.DiskTrue -/
def salvorlaw10_DiskTrue_fl : Floats := flOf []
def salvorlaw10_DiskTrue_kp : Nat → Option (List Bool) := kpOf [(23, mk 168 0 [1, 2, 5, 6, 7, 9, 10, 11, 12, 13]), (10, mk 168 0 [1, 2, 5, 6])]
def salvorlaw10_DiskTrue_un : Nat → Bool := inL []
def salvorlaw10_DiskTrue_c (p : List Bool) (n : Nat) : List AV → AH → Kf → Prop := sCode Try.prog salvorlaw10_DiskTrue_fl pql pal salvorlaw10_DiskTrue_un salvorlaw10_DiskTrue_kp (sub p (bodyOf Try.f7)) n
def salvorlaw10_DiskTrue_L23 (R10 : List AV → AH → Prop) (x1 x2 x5 x6 x7 x9 x10 x11 x12 x13 : AV) (H : AH) (K : AV → AH → Prop) : Prop := lp (mk 168 0 [1, 2, 5, 6, 7, 9, 10, 11, 12, 13]) (salvorlaw10_DiskTrue_c [true, true, true, true, false, true, false, false, true, false, false, true, true, true, true, true, false, true, false, false] 24) [x1, x2, x5, x6, x7, x9, x10, x11, x12, x13] H (kBlk 2 (kSeq (salvorlaw10_DiskTrue_c [true, true, true, true, false, true, false, false, true, false, false, true, true, true, true, true, true] 29) (kBlk 1 (kSeq (salvorlaw10_DiskTrue_c [true, true, true, true, false, true, false, false, true, true] 31) (kLp (mk 168 0 [1, 2, 5, 6]) R10 (kBlk 0 (kSeq (salvorlaw10_DiskTrue_c [true, true, true, true, true] 31) (kRet Try.prog Try.f7.results.toList K))))))))
def salvorlaw10_DiskTrue_L10 (x1 x2 x5 x6 : AV) (H : AH) (K : AV → AH → Prop) : Prop := lp (mk 168 0 [1, 2, 5, 6]) (salvorlaw10_DiskTrue_c [true, true, true, true, false, true, false, false] 11) [x1, x2, x5, x6] H (kBlk 0 (kSeq (salvorlaw10_DiskTrue_c [true, true, true, true, true] 31) (kRet Try.prog Try.f7.results.toList K)))
def salvorlaw10_DiskTrue_L23_b (R10 : List AV → AH → Prop) (R23 : List AV → AH → Prop) (x1 x2 x5 x6 x7 x9 x10 x11 x12 x13 : AV) (H : AH) (K : AV → AH → Prop) : Prop :=
bO (alnS x10) fun v0 =>
bO (abI .lss x13 v0) fun v1 =>
bB v1 fun t2 => bI t2 (
bO (ald true 4 H x2) fun v3 =>
bO (abI .add x7 x13) fun v4 =>
bO (abI .quo v4 (.lit (.int .i64 8))) fun v5 =>
bP (PCall Try.prog 20 [v3, v5] H) fun v6 =>
bG v6 false fun w7 =>
gO w7 (some x5) fun v8 =>
bG v6 false fun w9 =>
gO w9 (some x7) fun v10 =>
bG v6 false fun w11 =>
gO w11 (some x13) fun v12 =>
bG v6 false fun w13 =>
gO w13 (abI .add v10 v12) fun v14 =>
bG v6 false fun w15 =>
gO w15 (abI .quo v14 (.lit (.int .i64 8))) fun v16 =>
bG v6 false fun w17 =>
gC w17 (BCall Try.prog 15 [v8, v16] H) H fun v18 H19 =>
bG v6 false fun w20 =>
gO w20 (abI .gtr v18 (.lit (.int .i64 0))) fun v21 =>
bO (apick v6 (.lit (.bool true)) v21) fun v22 =>
bB v22 fun t23 => bI t23 (
K (.lit (.bool false)) H19)
 (bO (abI .add x13 (.lit (.int .i64 1))) fun v24 =>
R23 [x1, x2, x5, x6, x7, x9, x10, x11, x12, v24] H19))
 (bO (abI .eql x11 (.lit (.int .i64 1))) fun v25 =>
bG v25 true fun w26 =>
gO w26 (some x10) fun v27 =>
bG v25 true fun w28 =>
gO w28 (alnS v27) fun v29 =>
bG v25 true fun w30 =>
gO w30 (abI .gtr v29 (.lit (.int .i64 0))) fun v31 =>
bG v25 true fun w32 =>
gO w32 (some v31) fun v33 =>
bG v33 false fun w34 =>
gO w34 (some x7) fun v35 =>
bG v33 false fun w36 =>
gO w36 (abI .lss v35 (.lit (.int .i64 0))) fun v37 =>
bG v25 true fun w38 =>
gO w38 (apick v33 (.lit (.bool true)) v37) fun v39 =>
bG v25 true fun w40 =>
gO w40 (some v39) fun v41 =>
bG v41 false fun w42 =>
gO w42 (some x7) fun v43 =>
bG v41 false fun w44 =>
gO w44 (ashift 0 x2) fun v45 =>
bG v41 false fun w46 =>
gO w46 (ald false 1 H v45) fun v47 =>
bG v41 false fun w48 =>
gO w48 (alnS v47) fun v49 =>
bG v41 false fun w50 =>
gO w50 (abI .geq v43 v49) fun v51 =>
bG v25 true fun w52 =>
gO w52 (apick v41 (.lit (.bool true)) v51) fun v53 =>
bG v25 true fun w54 =>
gO w54 (some v53) fun v55 =>
bG v55 false fun w56 =>
gO w56 (ald true 4 H x2) fun v57 =>
bG v55 false fun w58 =>
gO w58 (some x7) fun v59 =>
bG v55 false fun w60 =>
gO w60 (abI .quo v59 (.lit (.int .i64 8))) fun v61 =>
bG v55 false fun w62 =>
gP w62 (PCall Try.prog 20 [v57, v61] H) fun v63 =>
bG v55 false fun w64 =>
gO w64 (aun .not v63) fun v65 =>
bG v55 false fun w66 =>
gO w66 (some v65) fun v67 =>
bG v67 true fun w68 =>
gO w68 (some x12) fun v69 =>
bG v67 true fun w70 =>
gO w70 (some x9) fun v71 =>
bG v67 true fun w72 =>
gO w72 (abI .sub v71 (.lit (.int .i64 1))) fun v73 =>
bG v67 true fun w74 =>
gO w74 (abI .neq v69 v73) fun v75 =>
bG v55 false fun w76 =>
gO w76 (apick v67 v75 (.lit (.bool false))) fun v77 =>
bG v25 true fun w78 =>
gO w78 (apick v55 (.lit (.bool true)) v77) fun v79 =>
bO (apick v25 v79 (.lit (.bool false))) fun v80 =>
bG v80 false fun w81 =>
gO w81 (some x11) fun v82 =>
bG v80 false fun w83 =>
gO w83 (abI .neq v82 (.lit (.int .i64 1))) fun v84 =>
bG v80 false fun w85 =>
gO w85 (some v84) fun v86 =>
bG v86 true fun w87 =>
gO w87 (some x12) fun v88 =>
bG v86 true fun w89 =>
gO w89 (some x9) fun v90 =>
bG v86 true fun w91 =>
gO w91 (abI .neq v88 v90) fun v92 =>
bG v80 false fun w93 =>
gO w93 (apick v86 v92 (.lit (.bool false))) fun v94 =>
bO (apick v80 (.lit (.bool true)) v94) fun v95 =>
bB v95 fun t96 => bI t96 (
K (.lit (.bool false)) H)
 (bO (abI .add x6 (.lit (.int .i64 1))) fun v97 =>
R10 [x1, x2, x5, v97] H))
theorem salvorlaw10_DiskTrue_L23_eq (R10 : List AV → AH → Prop) (R23 : List AV → AH → Prop) (x1 x2 x5 x6 x7 x9 x10 x11 x12 x13 : AV) (H : AH) (K : AV → AH → Prop) : salvorlaw10_DiskTrue_c [true, true, true, true, false, true, false, false, true, false, false, true, true, true, true, true, false, true, false, false] 24 (expand (mk 168 0 [1, 2, 5, 6, 7, 9, 10, 11, 12, 13]) [x1, x2, x5, x6, x7, x9, x10, x11, x12, x13]) H (kLp (mk 168 0 [1, 2, 5, 6, 7, 9, 10, 11, 12, 13]) R23 (kBlk 2 (kSeq (salvorlaw10_DiskTrue_c [true, true, true, true, false, true, false, false, true, false, false, true, true, true, true, true, true] 29) (kBlk 1 (kSeq (salvorlaw10_DiskTrue_c [true, true, true, true, false, true, false, false, true, true] 31) (kLp (mk 168 0 [1, 2, 5, 6]) R10 (kBlk 0 (kSeq (salvorlaw10_DiskTrue_c [true, true, true, true, true] 31) (kRet Try.prog Try.f7.results.toList K))))))))) = salvorlaw10_DiskTrue_L23_b R10 R23 x1 x2 x5 x6 x7 x9 x10 x11 x12 x13 H K := by kernel_rfl
theorem salvorlaw10_DiskTrue_L23_rule (R10 : List AV → AH → Prop) {K : AV → AH → Prop} (I : Nat → AV → AV → AV → AV → AV → AV → AV → AV → AV → AV → AH → Prop) (round : ∀ (n : Nat) (x1 x2 x5 x6 x7 x9 x10 x11 x12 x13 : AV) (H : AH) (R : List AV → AH → Prop), (∀ (m : Nat) (y1 y2 y5 y6 y7 y9 y10 y11 y12 y13 : AV) (H' : AH), m < n → I m y1 y2 y5 y6 y7 y9 y10 y11 y12 y13 H' → R [y1, y2, y5, y6, y7, y9, y10, y11, y12, y13] H') → I n x1 x2 x5 x6 x7 x9 x10 x11 x12 x13 H → salvorlaw10_DiskTrue_L23_b R10 R x1 x2 x5 x6 x7 x9 x10 x11 x12 x13 H K) (n : Nat) {x1 x2 x5 x6 x7 x9 x10 x11 x12 x13 : AV} {H : AH} (h : I n x1 x2 x5 x6 x7 x9 x10 x11 x12 x13 H) : salvorlaw10_DiskTrue_L23 R10 x1 x2 x5 x6 x7 x9 x10 x11 x12 x13 H K := by
  refine lp_upto (sCode_one_calm _ _ (by kernel_rfl)) (LI10 I) ?_ n h
  intro n X H h
  obtain ⟨x1, x2, x5, x6, x7, x9, x10, x11, x12, x13, rfl, h⟩ := h.elim
  exact Eq.mpr (salvorlaw10_DiskTrue_L23_eq R10 _ x1 x2 x5 x6 x7 x9 x10 x11 x12 x13 H K) (round n x1 x2 x5 x6 x7 x9 x10 x11 x12 x13 H (fun X H' => ∃ m, m < n ∧ LI10 I m X H') (fun m y1 y2 y5 y6 y7 y9 y10 y11 y12 y13 H' hm hi => ⟨m, hm, hi⟩) h)
def salvorlaw10_DiskTrue_L10_b (R10 : List AV → AH → Prop) (x1 x2 x5 x6 : AV) (H : AH) (K : AV → AH → Prop) : Prop :=
bO (alnS x1) fun v0 =>
bO (abI .lss x6 v0) fun v1 =>
bB v1 fun t2 => bI t2 (
bO (aixS 2 x1 x6) fun v3 =>
bO (ashift 0 v3) fun v4 =>
bO (ald false 1 H v4) fun v5 =>
bO (aixS 2 x1 x6) fun v6 =>
bO (ashift 1 v6) fun v7 =>
bO (ald false 1 H v7) fun v8 =>
bO (amm imx [v5, (.lit (.int .i64 0))]) fun v9 =>
bO (abI .quo v9 (.lit (.int .i64 8))) fun v10 =>
bC (BCall Try.prog 15 [x5, v10] H) fun v11 H12 =>
bC (BCall Try.prog 10 [x5, v5, v8] H12) fun v13 H14 =>
bO (aextract v13 0) fun v15 =>
bO (aextract v13 1) fun v16 =>
bO (amm imx [v5, (.lit (.int .i64 0))]) fun v17 =>
bO (abI .quo v17 (.lit (.int .i64 8))) fun v18 =>
bC (BCall Try.prog 15 [x5, v18] H14) fun v19 H20 =>
bO (alnS v15) fun v21 =>
bO (abI .gtr v21 (.lit (.int .i64 0))) fun v22 =>
bG v22 true fun w23 =>
gO w23 (some v16) fun v24 =>
bG v22 true fun w25 =>
gO w25 (abI .neq v24 (.lit (.int .i64 0))) fun v26 =>
bG v22 true fun w27 =>
gO w27 (some v26) fun v28 =>
bG v28 false fun w29 =>
gO w29 (some v5) fun v30 =>
bG v28 false fun w31 =>
gO w31 (abI .lss v30 (.lit (.int .i64 0))) fun v32 =>
bG v22 true fun w33 =>
gO w33 (apick v28 (.lit (.bool true)) v32) fun v34 =>
bG v22 true fun w35 =>
gO w35 (some v34) fun v36 =>
bG v36 false fun w37 =>
gO w37 (some v15) fun v38 =>
bG v36 false fun w39 =>
gO w39 (alnS v38) fun v40 =>
bG v36 false fun w41 =>
gO w41 (some v8) fun v42 =>
bG v36 false fun w43 =>
gO w43 (abI .gtr v40 v42) fun v44 =>
bG v22 true fun w45 =>
gO w45 (apick v36 (.lit (.bool true)) v44) fun v46 =>
bG v22 true fun w47 =>
gO w47 (some v46) fun v48 =>
bG v48 false fun w49 =>
gO w49 (some v5) fun v50 =>
bG v48 false fun w51 =>
gO w51 (some v15) fun v52 =>
bG v48 false fun w53 =>
gO w53 (alnS v52) fun v54 =>
bG v48 false fun w55 =>
gO w55 (abI .add v50 v54) fun v56 =>
bG v48 false fun w57 =>
gO w57 (ashift 0 x2) fun v58 =>
bG v48 false fun w59 =>
gO w59 (ald false 1 H20 v58) fun v60 =>
bG v48 false fun w61 =>
gO w61 (alnS v60) fun v62 =>
bG v48 false fun w63 =>
gO w63 (abI .gtr v56 v62) fun v64 =>
bG v22 true fun w65 =>
gO w65 (apick v48 (.lit (.bool true)) v64) fun v66 =>
bG v22 true fun w67 =>
gO w67 (some v66) fun v68 =>
bG v68 false fun w69 =>
gO w69 (some v15) fun v70 =>
bG v68 false fun w71 =>
gO w71 (acB H20 v70) fun v72 =>
bG v68 false fun w73 =>
gO w73 (ashift 0 x2) fun v74 =>
bG v68 false fun w75 =>
gO w75 (ald false 1 H20 v74) fun v76 =>
bG v68 false fun w77 =>
gO w77 (some v5) fun v78 =>
bG v68 false fun w79 =>
gO w79 (some v5) fun v80 =>
bG v68 false fun w81 =>
gO w81 (some v15) fun v82 =>
bG v68 false fun w83 =>
gO w83 (alnS v82) fun v84 =>
bG v68 false fun w85 =>
gO w85 (abI .add v80 v84) fun v86 =>
bG v68 false fun w87 =>
gO w87 (aslS 1 v76 (some v78) (some v86) none) fun v88 =>
bG v68 false fun w89 =>
gO w89 (acB H20 v88) fun v90 =>
bG v68 false fun w91 =>
gO w91 (abT .neq v72 v90) fun v92 =>
bG v22 true fun w93 =>
gO w93 (apick v68 (.lit (.bool true)) v92) fun v94 =>
bO (apick v22 v94 (.lit (.bool false))) fun v95 =>
bB v95 fun t96 => bI t96 (
K (.lit (.bool false)) H20)
 (salvorlaw10_DiskTrue_L23 R10 x1 x2 x5 x6 v5 v11 v15 v16 v19 (.lit (.int .i64 0)) H20 K))
 (bP (PCall Try.prog 3 [] H) fun v97 =>
K v97 H)
theorem salvorlaw10_DiskTrue_L10_eq (R10 : List AV → AH → Prop) (x1 x2 x5 x6 : AV) (H : AH) (K : AV → AH → Prop) : salvorlaw10_DiskTrue_c [true, true, true, true, false, true, false, false] 11 (expand (mk 168 0 [1, 2, 5, 6]) [x1, x2, x5, x6]) H (kLp (mk 168 0 [1, 2, 5, 6]) R10 (kBlk 0 (kSeq (salvorlaw10_DiskTrue_c [true, true, true, true, true] 31) (kRet Try.prog Try.f7.results.toList K)))) = salvorlaw10_DiskTrue_L10_b R10 x1 x2 x5 x6 H K := by kernel_rfl
theorem salvorlaw10_DiskTrue_L10_rule {K : AV → AH → Prop} (I : Nat → AV → AV → AV → AV → AH → Prop) (round : ∀ (n : Nat) (x1 x2 x5 x6 : AV) (H : AH) (R : List AV → AH → Prop), (∀ (m : Nat) (y1 y2 y5 y6 : AV) (H' : AH), m < n → I m y1 y2 y5 y6 H' → R [y1, y2, y5, y6] H') → I n x1 x2 x5 x6 H → salvorlaw10_DiskTrue_L10_b R x1 x2 x5 x6 H K) (n : Nat) {x1 x2 x5 x6 : AV} {H : AH} (h : I n x1 x2 x5 x6 H) : salvorlaw10_DiskTrue_L10 x1 x2 x5 x6 H K := by
  refine lp_upto (sCode_one_calm _ _ (by kernel_rfl)) (LI4 I) ?_ n h
  intro n X H h
  obtain ⟨x1, x2, x5, x6, rfl, h⟩ := h.elim
  exact Eq.mpr (salvorlaw10_DiskTrue_L10_eq _ x1 x2 x5 x6 H K) (round n x1 x2 x5 x6 H (fun X H' => ∃ m, m < n ∧ LI4 I m X H') (fun m y1 y2 y5 y6 H' hm hi => ⟨m, hm, hi⟩) h)
def salvorlaw10_DiskTrue (a0 a1 : AV) (H : AH) (K : AV → AH → Prop) : Prop :=
bH (anew H a0) fun v0 H1 =>
bO (ald true 4 H1 v0) fun v2 =>
bP (PCall Try.prog 13 [v2] H1) fun v3 =>
bO (aun .not v3) fun v4 =>
bG v4 false fun w5 =>
gO w5 (some a1) fun v6 =>
bG v4 false fun w7 =>
gO w7 (alnS v6) fun v8 =>
bG v4 false fun w9 =>
gO w9 (abI .gtr v8 (.lit (.int .i64 100))) fun v10 =>
bO (apick v4 (.lit (.bool true)) v10) fun v11 =>
bG v11 false fun w12 =>
gO w12 (ald true 4 H1 v0) fun v13 =>
bG v11 false fun w14 =>
gP w14 (PCall Try.prog 17 [v13] H1) fun v15 =>
bG v11 false fun w16 =>
gO w16 (aun .not v15) fun v17 =>
bO (apick v11 (.lit (.bool true)) v17) fun v18 =>
bB v18 fun t19 => bI t19 (
bP (PCall Try.prog 3 [] H1) fun v20 =>
K v20 H1)
 (bO (ald true 4 H1 v0) fun v21 =>
bA (ACalls Try.prog 9 [v21] H1) fun v22 H23 =>
bO (abN .eql nilP v22 (.lit (.pointer none))) fun v24 =>
bB v24 fun t25 => bI t25 (
K (.lit (.bool false)) H23)
 (salvorlaw10_DiskTrue_L10 a1 v0 v22 (.lit (.int .i64 0)) H23 K))
theorem salvorlaw10_DiskTrue_eq (a0 a1 : AV) (H : AH) (K : AV → AH → Prop) : sFun Try.prog salvorlaw10_DiskTrue_fl pql pal salvorlaw10_DiskTrue_un salvorlaw10_DiskTrue_kp Try.f7 [a0, a1] H K = salvorlaw10_DiskTrue a0 a1 H K := by kernel_rfl
theorem salvorlaw10_DiskTrue_ok {a0 a1 : AV} {H : AH} {K : AV → AH → Prop} (h : salvorlaw10_DiskTrue a0 a1 H K) : ACalls Try.prog 7 [a0, a1] H K :=
  sFun_wp mixP Try.func7 (by kernel_rfl) (Eq.mpr (salvorlaw10_DiskTrue_eq a0 a1 H K) h)
/-! salvor/salvorlaw10.DiskSoft -/
def salvorlaw10_DiskSoft_fl : Floats := flOf []
def salvorlaw10_DiskSoft_kp : Nat → Option (List Bool) := kpOf [(17, mk 98 0 [2, 7, 9, 13]), (8, mk 98 0 [2, 7, 8, 9, 10])]
def salvorlaw10_DiskSoft_un : Nat → Bool := inL []
def salvorlaw10_DiskSoft_c (p : List Bool) (n : Nat) : List AV → AH → Kf → Prop := sCode Try.prog salvorlaw10_DiskSoft_fl pql pal salvorlaw10_DiskSoft_un salvorlaw10_DiskSoft_kp (sub p (bodyOf Try.f8)) n
def salvorlaw10_DiskSoft_L17 (x2 x7 x9 x13 : AV) (H : AH) (K : AV → AH → Prop) : Prop := lp (mk 98 0 [2, 7, 9, 13]) (salvorlaw10_DiskSoft_c [true, true, true, true, true, false, true, false, false] 18) [x2, x7, x9, x13] H (kBlk 2 (kSeq (salvorlaw10_DiskSoft_c [true, true, true, true, true, true] 24) (kRet Try.prog Try.f8.results.toList K)))
def salvorlaw10_DiskSoft_L8 (x2 x7 x8 x9 x10 : AV) (H : AH) (K : AV → AH → Prop) : Prop := lp (mk 98 0 [2, 7, 8, 9, 10]) (salvorlaw10_DiskSoft_c [true, true, true, true, false, true, false, false] 9) [x2, x7, x8, x9, x10] H (kBlk 0 (kSeq (salvorlaw10_DiskSoft_c [true, true, true, true, true] 15) (kRet Try.prog Try.f8.results.toList K)))
def salvorlaw10_DiskSoft_L17_b (R17 : List AV → AH → Prop) (x2 x7 x9 x13 : AV) (H : AH) (K : AV → AH → Prop) : Prop :=
bO (abI .rem x2 (.lit (.int .u8 20))) fun v0 =>
bO (acI .i64 v0) fun v1 =>
bO (abI .add v1 (.lit (.int .i64 1))) fun v2 =>
bO (abI .lss x13 v2) fun v3 =>
bB v3 fun t4 => bI t4 (
bO (abI .mul (.lit (.int .i64 8)) x7) fun v5 =>
bC (BCall Try.prog 10 [x9, v5, (.lit (.int .i64 8))] H) fun v6 H7 =>
bO (aextract v6 0) fun v8 =>
bO (aextract v6 1) fun v9 =>
bO (abI .neq v9 (.lit (.int .i64 0))) fun v10 =>
bG v10 false fun w11 =>
gO w11 (some v8) fun v12 =>
bG v10 false fun w13 =>
gO w13 (alnS v12) fun v14 =>
bG v10 false fun w15 =>
gO w15 (abI .neq v14 (.lit (.int .i64 8))) fun v16 =>
bO (apick v10 (.lit (.bool true)) v16) fun v17 =>
bB v17 fun t18 => bI t18 (
K (.lit (.bool false)) H7)
 (bO (abI .add x13 (.lit (.int .i64 1))) fun v19 =>
R17 [x2, x7, x9, v19] H7))
 (bC (BCall Try.prog 15 [x9, x7] H) fun v20 H21 =>
bO (abI .eql v20 (.lit (.int .i64 0))) fun v22 =>
bG v22 true fun w23 =>
gO w23 (some x9) fun v24 =>
bG v22 true fun w25 =>
gC w25 (BCall Try.prog 15 [v24, (.lit (.int .i64 90))] H21) H21 fun v26 H27 =>
bG v22 true fun w28 =>
gO w28 (abI .eql v26 (.lit (.int .i64 0))) fun v29 =>
bO (apick v22 v29 (.lit (.bool false))) fun v30 =>
bG v30 true fun w31 =>
gP w31 (PCall Try.prog 3 [] H27) fun v32 =>
bO (apick v30 v32 (.lit (.bool false))) fun v33 =>
K v33 H27)
theorem salvorlaw10_DiskSoft_L17_eq (R17 : List AV → AH → Prop) (x2 x7 x9 x13 : AV) (H : AH) (K : AV → AH → Prop) : salvorlaw10_DiskSoft_c [true, true, true, true, true, false, true, false, false] 18 (expand (mk 98 0 [2, 7, 9, 13]) [x2, x7, x9, x13]) H (kLp (mk 98 0 [2, 7, 9, 13]) R17 (kBlk 2 (kSeq (salvorlaw10_DiskSoft_c [true, true, true, true, true, true] 24) (kRet Try.prog Try.f8.results.toList K)))) = salvorlaw10_DiskSoft_L17_b R17 x2 x7 x9 x13 H K := by kernel_rfl
theorem salvorlaw10_DiskSoft_L17_rule {K : AV → AH → Prop} (I : Nat → AV → AV → AV → AV → AH → Prop) (round : ∀ (n : Nat) (x2 x7 x9 x13 : AV) (H : AH) (R : List AV → AH → Prop), (∀ (m : Nat) (y2 y7 y9 y13 : AV) (H' : AH), m < n → I m y2 y7 y9 y13 H' → R [y2, y7, y9, y13] H') → I n x2 x7 x9 x13 H → salvorlaw10_DiskSoft_L17_b R x2 x7 x9 x13 H K) (n : Nat) {x2 x7 x9 x13 : AV} {H : AH} (h : I n x2 x7 x9 x13 H) : salvorlaw10_DiskSoft_L17 x2 x7 x9 x13 H K := by
  refine lp_upto (sCode_one_calm _ _ (by kernel_rfl)) (LI4 I) ?_ n h
  intro n X H h
  obtain ⟨x2, x7, x9, x13, rfl, h⟩ := h.elim
  exact Eq.mpr (salvorlaw10_DiskSoft_L17_eq _ x2 x7 x9 x13 H K) (round n x2 x7 x9 x13 H (fun X H' => ∃ m, m < n ∧ LI4 I m X H') (fun m y2 y7 y9 y13 H' hm hi => ⟨m, hm, hi⟩) h)
def salvorlaw10_DiskSoft_L8_b (R8 : List AV → AH → Prop) (x2 x7 x8 x9 x10 : AV) (H : AH) (K : AV → AH → Prop) : Prop :=
bO (abI .lss x10 x8) fun v0 =>
bB v0 fun t1 => bI t1 (
bO (abI .mul (.lit (.int .i64 8)) x7) fun v2 =>
bO (abI .rem x10 (.lit (.int .i64 8))) fun v3 =>
bO (abI .add v2 v3) fun v4 =>
bC (BCall Try.prog 10 [x9, v4, (.lit (.int .i64 5))] H) fun v5 H6 =>
bO (aextract v5 0) fun v7 =>
bO (aextract v5 1) fun v8 =>
bO (abI .neq v8 (.lit (.int .i64 1))) fun v9 =>
bG v9 false fun w10 =>
gO w10 (some v7) fun v11 =>
bG v9 false fun w12 =>
gO w12 (alnS v11) fun v13 =>
bG v9 false fun w14 =>
gO w14 (abI .neq v13 (.lit (.int .i64 0))) fun v15 =>
bO (apick v9 (.lit (.bool true)) v15) fun v16 =>
bG v16 false fun w17 =>
gO w17 (some x9) fun v18 =>
bG v16 false fun w19 =>
gO w19 (some x7) fun v20 =>
bG v16 false fun w21 =>
gC w21 (BCall Try.prog 15 [v18, v20] H6) H6 fun v22 H23 =>
bG v16 false fun w24 =>
gO w24 (some x8) fun v25 =>
bG v16 false fun w26 =>
gO w26 (abI .sub v25 (.lit (.int .i64 1))) fun v27 =>
bG v16 false fun w28 =>
gO w28 (some x10) fun v29 =>
bG v16 false fun w30 =>
gO w30 (abI .sub v27 v29) fun v31 =>
bG v16 false fun w32 =>
gO w32 (abI .neq v22 v31) fun v33 =>
bO (apick v16 (.lit (.bool true)) v33) fun v34 =>
bB v34 fun t35 => bI t35 (
K (.lit (.bool false)) H23)
 (bO (abI .add x10 (.lit (.int .i64 1))) fun v36 =>
R8 [x2, x7, x8, x9, v36] H23))
 (salvorlaw10_DiskSoft_L17 x2 x7 x9 (.lit (.int .i64 0)) H K)
theorem salvorlaw10_DiskSoft_L8_eq (R8 : List AV → AH → Prop) (x2 x7 x8 x9 x10 : AV) (H : AH) (K : AV → AH → Prop) : salvorlaw10_DiskSoft_c [true, true, true, true, false, true, false, false] 9 (expand (mk 98 0 [2, 7, 8, 9, 10]) [x2, x7, x8, x9, x10]) H (kLp (mk 98 0 [2, 7, 8, 9, 10]) R8 (kBlk 0 (kSeq (salvorlaw10_DiskSoft_c [true, true, true, true, true] 15) (kRet Try.prog Try.f8.results.toList K)))) = salvorlaw10_DiskSoft_L8_b R8 x2 x7 x8 x9 x10 H K := by kernel_rfl
theorem salvorlaw10_DiskSoft_L8_rule {K : AV → AH → Prop} (I : Nat → AV → AV → AV → AV → AV → AH → Prop) (round : ∀ (n : Nat) (x2 x7 x8 x9 x10 : AV) (H : AH) (R : List AV → AH → Prop), (∀ (m : Nat) (y2 y7 y8 y9 y10 : AV) (H' : AH), m < n → I m y2 y7 y8 y9 y10 H' → R [y2, y7, y8, y9, y10] H') → I n x2 x7 x8 x9 x10 H → salvorlaw10_DiskSoft_L8_b R x2 x7 x8 x9 x10 H K) (n : Nat) {x2 x7 x8 x9 x10 : AV} {H : AH} (h : I n x2 x7 x8 x9 x10 H) : salvorlaw10_DiskSoft_L8 x2 x7 x8 x9 x10 H K := by
  refine lp_upto (sCode_one_calm _ _ (by kernel_rfl)) (LI5 I) ?_ n h
  intro n X H h
  obtain ⟨x2, x7, x8, x9, x10, rfl, h⟩ := h.elim
  exact Eq.mpr (salvorlaw10_DiskSoft_L8_eq _ x2 x7 x8 x9 x10 H K) (round n x2 x7 x8 x9 x10 H (fun X H' => ∃ m, m < n ∧ LI5 I m X H') (fun m y2 y7 y8 y9 y10 H' hm hi => ⟨m, hm, hi⟩) h)
def salvorlaw10_DiskSoft (a0 a1 a2 : AV) (H : AH) (K : AV → AH → Prop) : Prop :=
bO (abI .rem a1 (.lit (.int .u8 10))) fun v0 =>
bO (acI .i64 v0) fun v1 =>
bO (abI .rem a0 (.lit (.int .u8 21))) fun v2 =>
bO (acI .i64 v2) fun v3 =>
bH (amk 1 1 [(.lit (.int .u8 0))] H (.lit (.int .i64 80)) (.lit (.int .i64 80))) fun v4 H5 =>
bO (abl [(.lit (.int .i64 0)), (.lit (.int .i64 0))] [(0, 1, v1), (1, 1, v3)]) fun v6 =>
bO (abl [(.lit (.int .i64 0)), (.lit (.int .i64 0))] [(0, 1, (.lit (.int .i64 90))), (1, 1, (.lit (.int .i64 3)))]) fun v7 =>
bH (absl H5 2 2 (zrow [(.lit (.int .i64 0)), (.lit (.int .i64 0))] 2) [(0, 2, v6), (2, 2, v7)]) fun v8 H9 =>
bO (abl [(.lit (.slice none 0 0)), (.lit (.slice none 0 0)), (.lit (.slice none 0 0)), (.lit (.slice none 0 0))] [(0, 1, v4), (2, 1, v8)]) fun v10 =>
bA (ACalls Try.prog 9 [v10] H9) fun v11 H12 =>
bO (abN .eql nilP v11 (.lit (.pointer none))) fun v13 =>
bB v13 fun t14 => bI t14 (
K (.lit (.bool false)) H12)
 (salvorlaw10_DiskSoft_L8 a2 v1 v3 v11 (.lit (.int .i64 0)) H12 K)
theorem salvorlaw10_DiskSoft_eq (a0 a1 a2 : AV) (H : AH) (K : AV → AH → Prop) : sFun Try.prog salvorlaw10_DiskSoft_fl pql pal salvorlaw10_DiskSoft_un salvorlaw10_DiskSoft_kp Try.f8 [a0, a1, a2] H K = salvorlaw10_DiskSoft a0 a1 a2 H K := by kernel_rfl
theorem salvorlaw10_DiskSoft_ok {a0 a1 a2 : AV} {H : AH} {K : AV → AH → Prop} (h : salvorlaw10_DiskSoft a0 a1 a2 H K) : ACalls Try.prog 8 [a0, a1, a2] H K :=
  sFun_wp mixP Try.func8 (by kernel_rfl) (Eq.mpr (salvorlaw10_DiskSoft_eq a0 a1 a2 H K) h)
/-! salvor/disk.New -/
def disk_New_fl : Floats := flOf [(3, [(1, some 3), (1, some 4), (6, none), (6, some 2), (6, some 3)])]
def disk_New_kp : Nat → Option (List Bool) := kpOf [(100003, mk 54 0 [1]), (13, mk 54 0 [3, 36, 37, 38]), (6, mk 54 0 [1, 3, 23, 24, 25]), (3, mk 54 0 [1, 3]), (1, mk 54 0 [1])]
def disk_New_un : Nat → Bool := inL [3]
def disk_New_c (p : List Bool) (n : Nat) : List AV → AH → Kf → Prop := sCode Try.prog disk_New_fl pql pal disk_New_un disk_New_kp (sub p (bodyOf Try.f9)) n
def disk_New_L13 (x3 x36 x37 x38 : AV) (H : AH) (K : AV → AH → Prop) : Prop := lp (mk 54 0 [3, 36, 37, 38]) (disk_New_c [true, true, true, true, false, true, false, false] 14) [x3, x36, x37, x38] H (kBlk 2 (kSeq (disk_New_c [true, true, true, true, true] 18) (kRet Try.prog Try.f9.results.toList K)))
def disk_New_L6 (x1 x3 x23 x24 x25 : AV) (H : AH) (K : AV → AH → Prop) : Prop := lp (mk 54 0 [1, 3, 23, 24, 25]) (disk_New_c [true, true, true, false, true, false, false] 7) [x1, x3, x23, x24, x25] H (kBlk 0 (kSeq (disk_New_c [true, true, true, true] 11) (kRet Try.prog Try.f9.results.toList K)))
def disk_New_J3 (x1 x3 : AV) (H : AH) (K : AV → AH → Prop) : Prop := jn (mk 54 0 [1, 3]) (disk_New_c [true, true, true] 4) [x1, x3] H (kRet Try.prog Try.f9.results.toList K)
def disk_New_U3 (x1 : AV) (H : AH) (K : AV → AH → Prop) : Prop := unR Try.prog 3 (opsOf (sub [true, true, false] (bodyOf Try.f9))) (expand (mk 54 0 [1]) [x1]) H (kSeq (cutC (mk 54 0 [1, 3]) (disk_New_c [true, true, true] 4)) (kRet Try.prog Try.f9.results.toList K))
def disk_New_J1 (x1 : AV) (H : AH) (K : AV → AH → Prop) : Prop := jn (mk 54 0 [1]) (disk_New_c [true, true] 3) [x1] H (kRet Try.prog Try.f9.results.toList K)
def disk_New_L13_b (R13 : List AV → AH → Prop) (x3 x36 x37 x38 : AV) (H : AH) (K : AV → AH → Prop) : Prop :=
bO (abI .lss x38 x37) fun v0 =>
bB v0 fun t1 => bI t1 (
bO (aixS 2 x36 x38) fun v2 =>
bO (ald true 2 H v2) fun v3 =>
bH (anew H (.agg [(.lit (.int .i64 0)), (.lit (.int .i64 0))])) fun v4 H5 =>
bS (ast 2 H5 v4 v3) fun H6 =>
bO (anilCheck x3) fun v7 =>
bO (ashift 2 v7) fun v8 =>
bO (ald false 1 H6 v8) fun v9 =>
bO (ashift 0 v4) fun v10 =>
bO (ald false 1 H6 v10) fun v11 =>
bO (alk (.int .i64) (.int .i64 0) H6 v9 v11 false) fun v12 =>
bO (ashift 1 v4) fun v13 =>
bO (ald false 1 H6 v13) fun v14 =>
bO (abI .add v12 v14) fun v15 =>
bS (amu (.int .i64) H6 v9 v11 v15) fun H16 =>
bO (abI .add x38 (.lit (.int .i64 1))) fun v17 =>
R13 [x3, x36, x37, v17] H16)
 (K x3 H)
theorem disk_New_L13_eq (R13 : List AV → AH → Prop) (x3 x36 x37 x38 : AV) (H : AH) (K : AV → AH → Prop) : disk_New_c [true, true, true, true, false, true, false, false] 14 (expand (mk 54 0 [3, 36, 37, 38]) [x3, x36, x37, x38]) H (kLp (mk 54 0 [3, 36, 37, 38]) R13 (kBlk 2 (kSeq (disk_New_c [true, true, true, true, true] 18) (kRet Try.prog Try.f9.results.toList K)))) = disk_New_L13_b R13 x3 x36 x37 x38 H K := by kernel_rfl
theorem disk_New_L13_rule {K : AV → AH → Prop} (I : Nat → AV → AV → AV → AV → AH → Prop) (round : ∀ (n : Nat) (x3 x36 x37 x38 : AV) (H : AH) (R : List AV → AH → Prop), (∀ (m : Nat) (y3 y36 y37 y38 : AV) (H' : AH), m < n → I m y3 y36 y37 y38 H' → R [y3, y36, y37, y38] H') → I n x3 x36 x37 x38 H → disk_New_L13_b R x3 x36 x37 x38 H K) (n : Nat) {x3 x36 x37 x38 : AV} {H : AH} (h : I n x3 x36 x37 x38 H) : disk_New_L13 x3 x36 x37 x38 H K := by
  refine lp_upto (sCode_one_calm _ _ (by kernel_rfl)) (LI4 I) ?_ n h
  intro n X H h
  obtain ⟨x3, x36, x37, x38, rfl, h⟩ := h.elim
  exact Eq.mpr (disk_New_L13_eq _ x3 x36 x37 x38 H K) (round n x3 x36 x37 x38 H (fun X H' => ∃ m, m < n ∧ LI4 I m X H') (fun m y3 y36 y37 y38 H' hm hi => ⟨m, hm, hi⟩) h)
def disk_New_L6_b (R6 : List AV → AH → Prop) (x1 x3 x23 x24 x25 : AV) (H : AH) (K : AV → AH → Prop) : Prop :=
bO (abI .lss x25 x24) fun v0 =>
bB v0 fun t1 => bI t1 (
bO (aixS 1 x23 x25) fun v2 =>
bO (ald false 1 H v2) fun v3 =>
bO (anilCheck x3) fun v4 =>
bO (ashift 1 v4) fun v5 =>
bO (ald false 1 H v5) fun v6 =>
bS (amu (.int .i64) H v6 v3 (.lit (.bool true))) fun H7 =>
bO (abI .add x25 (.lit (.int .i64 1))) fun v8 =>
R6 [x1, x3, x23, x24, v8] H7)
 (bO (ashift 2 x1) fun v9 =>
bO (ald false 1 H v9) fun v10 =>
bO (alnS v10) fun v11 =>
disk_New_L13 x3 v10 v11 (.lit (.int .i64 0)) H K)
theorem disk_New_L6_eq (R6 : List AV → AH → Prop) (x1 x3 x23 x24 x25 : AV) (H : AH) (K : AV → AH → Prop) : disk_New_c [true, true, true, false, true, false, false] 7 (expand (mk 54 0 [1, 3, 23, 24, 25]) [x1, x3, x23, x24, x25]) H (kLp (mk 54 0 [1, 3, 23, 24, 25]) R6 (kBlk 0 (kSeq (disk_New_c [true, true, true, true] 11) (kRet Try.prog Try.f9.results.toList K)))) = disk_New_L6_b R6 x1 x3 x23 x24 x25 H K := by kernel_rfl
theorem disk_New_L6_rule {K : AV → AH → Prop} (I : Nat → AV → AV → AV → AV → AV → AH → Prop) (round : ∀ (n : Nat) (x1 x3 x23 x24 x25 : AV) (H : AH) (R : List AV → AH → Prop), (∀ (m : Nat) (y1 y3 y23 y24 y25 : AV) (H' : AH), m < n → I m y1 y3 y23 y24 y25 H' → R [y1, y3, y23, y24, y25] H') → I n x1 x3 x23 x24 x25 H → disk_New_L6_b R x1 x3 x23 x24 x25 H K) (n : Nat) {x1 x3 x23 x24 x25 : AV} {H : AH} (h : I n x1 x3 x23 x24 x25 H) : disk_New_L6 x1 x3 x23 x24 x25 H K := by
  refine lp_upto (sCode_one_calm _ _ (by kernel_rfl)) (LI5 I) ?_ n h
  intro n X H h
  obtain ⟨x1, x3, x23, x24, x25, rfl, h⟩ := h.elim
  exact Eq.mpr (disk_New_L6_eq _ x1 x3 x23 x24 x25 H K) (round n x1 x3 x23 x24 x25 H (fun X H' => ∃ m, m < n ∧ LI5 I m X H') (fun m y1 y3 y23 y24 y25 H' hm hi => ⟨m, hm, hi⟩) h)
def disk_New_J3_b (x1 x3 : AV) (H : AH) (K : AV → AH → Prop) : Prop :=
bO (ashift 1 x1) fun v0 =>
bO (ald false 1 H v0) fun v1 =>
bO (alnS v1) fun v2 =>
disk_New_L6 x1 x3 v1 v2 (.lit (.int .i64 0)) H K
theorem disk_New_J3_eq0 (x1 x3 : AV) (H : AH) (K : AV → AH → Prop) : disk_New_c [true, true, true] 4 (expand (mk 54 0 [1, 3]) [x1, x3]) H (kRet Try.prog Try.f9.results.toList K) = disk_New_J3_b x1 x3 H K := by kernel_rfl
theorem disk_New_J3_eq (x1 x3 : AV) (H : AH) (K : AV → AH → Prop) : disk_New_J3 x1 x3 H K = disk_New_J3_b x1 x3 H K := (jn_eq _ _ _ _ _).trans (disk_New_J3_eq0 x1 x3 H K)
def disk_New_J1_b (x1 : AV) (H : AH) (K : AV → AH → Prop) : Prop :=
disk_New_U3 x1 H K
theorem disk_New_J1_eq0 (x1 : AV) (H : AH) (K : AV → AH → Prop) : disk_New_c [true, true] 3 (expand (mk 54 0 [1]) [x1]) H (kRet Try.prog Try.f9.results.toList K) = disk_New_J1_b x1 H K := by kernel_rfl
theorem disk_New_J1_eq (x1 : AV) (H : AH) (K : AV → AH → Prop) : disk_New_J1 x1 H K = disk_New_J1_b x1 H K := (jn_eq _ _ _ _ _).trans (disk_New_J1_eq0 x1 H K)
def disk_New (a0 : AV) (H : AH) (K : AV → AH → Prop) : Prop :=
bH (anew H a0) fun v0 H1 =>
bO (ald true 4 H1 v0) fun v2 =>
bP (PCall Try.prog 17 [v2] H1) fun v3 =>
bO (aun .not v3) fun v4 =>
bB v4 fun t5 => bI t5 (
bO (abl [(.lit (.slice none 0 0)), (.lit (.slice none 0 0)), (.lit (.slice none 0 0)), (.lit (.slice none 0 0))] []) fun v6 =>
bS (ast 4 H1 v0 v6) fun H7 =>
disk_New_J1 v0 H7 K)
 (disk_New_J1 v0 H1 K)
theorem disk_New_eq (a0 : AV) (H : AH) (K : AV → AH → Prop) : sFun Try.prog disk_New_fl pql pal disk_New_un disk_New_kp Try.f9 [a0] H K = disk_New a0 H K := by kernel_rfl
theorem disk_New_ok {a0 : AV} {H : AH} {K : AV → AH → Prop} (h : disk_New a0 H K) : ACalls Try.prog 9 [a0] H K :=
  sFun_wp mixP Try.func9 (by kernel_rfl) (Eq.mpr (disk_New_eq a0 H K) h)
/-! (*salvor/disk.Disk).Get -/
def disk_Disk_Get_fl : Floats := flOf []
def disk_Disk_Get_kp : Nat → Option (List Bool) := kpOf [(21, mk 77 0 [0, 1, 9, 10]), (18, mk 77 0 [0, 1, 9, 10]), (12, mk 77 0 [])]
def disk_Disk_Get_c (p : List Bool) (n : Nat) : List AV → AH → Kf → Prop := sCode Try.prog disk_Disk_Get_fl pql none0 none0 disk_Disk_Get_kp (sub p (bodyOf Try.f10)) n
def disk_Disk_Get_J12 (H : AH) (K : AV → AH → Prop) : Prop := jn (mk 77 0 []) (disk_Disk_Get_c [true, true, true, true, true, true, false, true, false, true] 14) [] H (kSeq (disk_Disk_Get_c [true, true, true, true, true, true, true] 15) (kRet Try.prog Try.f10.results.toList K))
def disk_Disk_Get_J21 (R18 : List AV → AH → Prop) (x0 x1 x9 x10 : AV) (H : AH) (K : AV → AH → Prop) : Prop := jn (mk 77 0 [0, 1, 9, 10]) (disk_Disk_Get_c [true, true, true, true, true, true, true, true, false, true, false, false, true, true] 23) [x0, x1, x9, x10] H (kLp (mk 77 0 [0, 1, 9, 10]) R18 (kBlk 0 (kSeq (disk_Disk_Get_c [true, true, true, true, true, true, true, true, true] 23) (kRet Try.prog Try.f10.results.toList K))))
def disk_Disk_Get_L18 (x0 x1 x9 x10 : AV) (H : AH) (K : AV → AH → Prop) : Prop := lp (mk 77 0 [0, 1, 9, 10]) (disk_Disk_Get_c [true, true, true, true, true, true, true, true, false, true, false, false] 19) [x0, x1, x9, x10] H (kBlk 0 (kSeq (disk_Disk_Get_c [true, true, true, true, true, true, true, true, true] 23) (kRet Try.prog Try.f10.results.toList K)))
def disk_Disk_Get_J12_b (H : AH) (K : AV → AH → Prop) : Prop :=
K (.tup [(.lit (.slice none 0 0)), (.lit (.int .i64 1))]) H
theorem disk_Disk_Get_J12_eq0 (H : AH) (K : AV → AH → Prop) : disk_Disk_Get_c [true, true, true, true, true, true, false, true, false, true] 14 (expand (mk 77 0 []) []) H (kSeq (disk_Disk_Get_c [true, true, true, true, true, true, true] 15) (kRet Try.prog Try.f10.results.toList K)) = disk_Disk_Get_J12_b H K := by kernel_rfl
theorem disk_Disk_Get_J12_eq (H : AH) (K : AV → AH → Prop) : disk_Disk_Get_J12 H K = disk_Disk_Get_J12_b H K := (jn_eq _ _ _ _ _).trans (disk_Disk_Get_J12_eq0 H K)
def disk_Disk_Get_J21_b (R18 : List AV → AH → Prop) (x0 x1 x9 x10 : AV) (H : AH) (K : AV → AH → Prop) : Prop :=
bO (abI .add x10 (.lit (.int .i64 1))) fun v0 =>
R18 [x0, x1, x9, v0] H
theorem disk_Disk_Get_J21_eq0 (R18 : List AV → AH → Prop) (x0 x1 x9 x10 : AV) (H : AH) (K : AV → AH → Prop) : disk_Disk_Get_c [true, true, true, true, true, true, true, true, false, true, false, false, true, true] 23 (expand (mk 77 0 [0, 1, 9, 10]) [x0, x1, x9, x10]) H (kLp (mk 77 0 [0, 1, 9, 10]) R18 (kBlk 0 (kSeq (disk_Disk_Get_c [true, true, true, true, true, true, true, true, true] 23) (kRet Try.prog Try.f10.results.toList K)))) = disk_Disk_Get_J21_b R18 x0 x1 x9 x10 H K := by kernel_rfl
theorem disk_Disk_Get_J21_eq (R18 : List AV → AH → Prop) (x0 x1 x9 x10 : AV) (H : AH) (K : AV → AH → Prop) : disk_Disk_Get_J21 R18 x0 x1 x9 x10 H K = disk_Disk_Get_J21_b R18 x0 x1 x9 x10 H K := (jn_eq _ _ _ _ _).trans (disk_Disk_Get_J21_eq0 R18 x0 x1 x9 x10 H K)
def disk_Disk_Get_L18_b (R18 : List AV → AH → Prop) (x0 x1 x9 x10 : AV) (H : AH) (K : AV → AH → Prop) : Prop :=
bO (abI .mul x10 (.lit (.int .i64 8))) fun v0 =>
bO (abI .lss v0 x9) fun v1 =>
bB v1 fun t2 => bI t2 (
bC (BCall Try.prog 24 [x0, x10] H) fun v3 H4 =>
bB v3 fun t5 => bI t5 (
bO (abI .mul x10 (.lit (.int .i64 8))) fun v6 =>
disk_Disk_Get_J21 R18 x0 x1 v6 x10 H4 K)
 (disk_Disk_Get_J21 R18 x0 x1 x9 x10 H4 K))
 (bO (anilCheck x0) fun v7 =>
bO (ashift 0 v7) fun v8 =>
bO (ald false 1 H v8) fun v9 =>
bO (aslS 1 v9 (some x1) (some x9) none) fun v10 =>
bC (BCall Try.prog 21 [v10] H) fun v11 H12 =>
K (.tup [v11, (.lit (.int .i64 0))]) H12)
theorem disk_Disk_Get_L18_eq (R18 : List AV → AH → Prop) (x0 x1 x9 x10 : AV) (H : AH) (K : AV → AH → Prop) : disk_Disk_Get_c [true, true, true, true, true, true, true, true, false, true, false, false] 19 (expand (mk 77 0 [0, 1, 9, 10]) [x0, x1, x9, x10]) H (kLp (mk 77 0 [0, 1, 9, 10]) R18 (kBlk 0 (kSeq (disk_Disk_Get_c [true, true, true, true, true, true, true, true, true] 23) (kRet Try.prog Try.f10.results.toList K)))) = disk_Disk_Get_L18_b R18 x0 x1 x9 x10 H K := by kernel_rfl
theorem disk_Disk_Get_L18_rule {K : AV → AH → Prop} (I : Nat → AV → AV → AV → AV → AH → Prop) (round : ∀ (n : Nat) (x0 x1 x9 x10 : AV) (H : AH) (R : List AV → AH → Prop), (∀ (m : Nat) (y0 y1 y9 y10 : AV) (H' : AH), m < n → I m y0 y1 y9 y10 H' → R [y0, y1, y9, y10] H') → I n x0 x1 x9 x10 H → disk_Disk_Get_L18_b R x0 x1 x9 x10 H K) (n : Nat) {x0 x1 x9 x10 : AV} {H : AH} (h : I n x0 x1 x9 x10 H) : disk_Disk_Get_L18 x0 x1 x9 x10 H K := by
  refine lp_upto (sCode_one _ _) (LI4 I) ?_ n h
  intro n X H h
  obtain ⟨x0, x1, x9, x10, rfl, h⟩ := h.elim
  exact Eq.mpr (disk_Disk_Get_L18_eq _ x0 x1 x9 x10 H K) (round n x0 x1 x9 x10 H (fun X H' => ∃ m, m < n ∧ LI4 I m X H') (fun m y0 y1 y9 y10 H' hm hi => ⟨m, hm, hi⟩) h)
def disk_Disk_Get (a0 a1 a2 : AV) (H : AH) (K : AV → AH → Prop) : Prop :=
bO (abI .lss a1 (.lit (.int .i64 0))) fun v0 =>
bG v0 false fun w1 =>
gO w1 (some a2) fun v2 =>
bG v0 false fun w3 =>
gO w3 (abI .lss v2 (.lit (.int .i64 0))) fun v4 =>
bO (apick v0 (.lit (.bool true)) v4) fun v5 =>
bG v5 false fun w6 =>
gO w6 (some a2) fun v7 =>
bG v5 false fun w8 =>
gO w8 (abI .gtr v7 (.lit (.int .i64 4096))) fun v9 =>
bO (apick v5 (.lit (.bool true)) v9) fun v10 =>
bB v10 fun t11 => bI t11 (
K (.tup [(.lit (.slice none 0 0)), (.lit (.int .i64 5))]) H)
 (bC (BCall Try.prog 23 [a0, a1, a2] H) fun v12 H13 =>
bO (anilCheck a0) fun v14 =>
bO (ashift 4 v14) fun v15 =>
bO (ald false 1 H13 v15) fun v16 =>
bO (abI .add v16 (.lit (.int .i64 1))) fun v17 =>
bO (anilCheck a0) fun v18 =>
bO (ashift 4 v18) fun v19 =>
bS (ast 1 H13 v19 v17) fun H20 =>
bO (abI .eql v12 (.lit (.int .i64 0))) fun v21 =>
bB v21 fun t22 => bI t22 (
K (.tup [(.lit (.slice none 0 0)), (.lit (.int .i64 0))]) H20)
 (bO (abI .quo a1 (.lit (.int .i64 8))) fun v23 =>
bC (BCall Try.prog 24 [a0, v23] H20) fun v24 H25 =>
bB v24 fun t26 => bI t26 (
bO (anilCheck a0) fun v27 =>
bO (ashift 1 v27) fun v28 =>
bO (ald false 1 H25 v28) fun v29 =>
bO (alk (.int .i64) (.bool false) H25 v29 v23 false) fun v30 =>
bO (aun .not v30) fun v31 =>
bB v31 fun t32 => bI t32 (
bO (anilCheck a0) fun v33 =>
bO (ashift 2 v33) fun v34 =>
bO (ald false 1 H25 v34) fun v35 =>
bO (alk (.int .i64) (.int .i64 0) H25 v35 v23 false) fun v36 =>
bO (abI .sub v36 (.lit (.int .i64 1))) fun v37 =>
bS (amu (.int .i64) H25 v35 v23 v37) fun H38 =>
disk_Disk_Get_J12 H38 K)
 (disk_Disk_Get_J12 H25 K))
 (bO (abI .add a1 v12) fun v39 =>
bO (abI .add v23 (.lit (.int .i64 1))) fun v40 =>
disk_Disk_Get_L18 a0 a1 v39 v40 H25 K)))
theorem disk_Disk_Get_eq (a0 a1 a2 : AV) (H : AH) (K : AV → AH → Prop) : sFun Try.prog disk_Disk_Get_fl pql none0 none0 disk_Disk_Get_kp Try.f10 [a0, a1, a2] H K = disk_Disk_Get a0 a1 a2 H K := by kernel_rfl
theorem disk_Disk_Get_ok {a0 a1 a2 : AV} {H : AH} {K : AV → AH → Prop} (h : disk_Disk_Get a0 a1 a2 H K) : ∃ r H', K r H' ∧ BCall Try.prog 10 [a0, a1, a2] H r H' :=
  sFun_ok mixP Try.func10 (by kernel_rfl) (Eq.mpr (disk_Disk_Get_eq a0 a1 a2 H K) h)
/-! (*salvor/disk.Disk).Long -/
def disk_Disk_Long_fl : Floats := flOf []
def disk_Disk_Long_kp : Nat → Option (List Bool) := kpOf []
def disk_Disk_Long_c (p : List Bool) (n : Nat) : List AV → AH → Kf → Prop := sCode Try.prog disk_Disk_Long_fl pql none0 none0 disk_Disk_Long_kp (sub p (bodyOf Try.f11)) n
def disk_Disk_Long (a0 : AV) (H : AH) (K : AV → AH → Prop) : Prop :=
bO (anilCheck a0) fun v0 =>
bO (ashift 0 v0) fun v1 =>
bO (ald false 1 H v1) fun v2 =>
bO (alnS v2) fun v3 =>
K v3 H
theorem disk_Disk_Long_eq (a0 : AV) (H : AH) (K : AV → AH → Prop) : sFun Try.prog disk_Disk_Long_fl pql none0 none0 disk_Disk_Long_kp Try.f11 [a0] H K = disk_Disk_Long a0 H K := by kernel_rfl
theorem disk_Disk_Long_ok {a0 : AV} {H : AH} {K : AV → AH → Prop} (h : disk_Disk_Long a0 H K) : ∃ r H', K r H' ∧ BCall Try.prog 11 [a0] H r H' :=
  sFun_ok mixP Try.func11 (by kernel_rfl) (Eq.mpr (disk_Disk_Long_eq a0 H K) h)
/-! (*salvor/disk.Disk).Calls -/
def disk_Disk_Calls_fl : Floats := flOf []
def disk_Disk_Calls_kp : Nat → Option (List Bool) := kpOf []
def disk_Disk_Calls_c (p : List Bool) (n : Nat) : List AV → AH → Kf → Prop := sCode Try.prog disk_Disk_Calls_fl pql none0 none0 disk_Disk_Calls_kp (sub p (bodyOf Try.f12)) n
def disk_Disk_Calls (a0 : AV) (H : AH) (K : AV → AH → Prop) : Prop :=
bO (anilCheck a0) fun v0 =>
bO (ashift 4 v0) fun v1 =>
bO (ald false 1 H v1) fun v2 =>
K v2 H
theorem disk_Disk_Calls_eq (a0 : AV) (H : AH) (K : AV → AH → Prop) : sFun Try.prog disk_Disk_Calls_fl pql none0 none0 disk_Disk_Calls_kp Try.f12 [a0] H K = disk_Disk_Calls a0 H K := by kernel_rfl
theorem disk_Disk_Calls_ok {a0 : AV} {H : AH} {K : AV → AH → Prop} (h : disk_Disk_Calls a0 H K) : ∃ r H', K r H' ∧ BCall Try.prog 12 [a0] H r H' :=
  sFun_ok mixP Try.func12 (by kernel_rfl) (Eq.mpr (disk_Disk_Calls_eq a0 H K) h)
/-! salvor/salvorlaw10.Few -/
def salvorlaw10_Few_fl : Floats := flOf []
def salvorlaw10_Few_kp : Nat → Option (List Bool) := kpOf []
def salvorlaw10_Few_c (p : List Bool) (n : Nat) : List AV → AH → Kf → Prop := sCode Try.prog salvorlaw10_Few_fl pql none0 none0 salvorlaw10_Few_kp (sub p (bodyOf Try.f13)) n
def salvorlaw10_Few (a0 : AV) (H : AH) (K : AV → AH → Prop) : Prop :=
bH (anew H a0) fun v0 H1 =>
bO (ashift 0 v0) fun v2 =>
bO (ald false 1 H1 v2) fun v3 =>
bO (alnS v3) fun v4 =>
bO (abI .leq v4 (.lit (.int .i64 400))) fun v5 =>
bG v5 true fun w6 =>
gO w6 (ashift 1 v0) fun v7 =>
bG v5 true fun w8 =>
gO w8 (ald false 1 H1 v7) fun v9 =>
bG v5 true fun w10 =>
gO w10 (alnS v9) fun v11 =>
bG v5 true fun w12 =>
gO w12 (abI .leq v11 (.lit (.int .i64 60))) fun v13 =>
bO (apick v5 v13 (.lit (.bool false))) fun v14 =>
bG v14 true fun w15 =>
gO w15 (ashift 2 v0) fun v16 =>
bG v14 true fun w17 =>
gO w17 (ald false 1 H1 v16) fun v18 =>
bG v14 true fun w19 =>
gO w19 (alnS v18) fun v20 =>
bG v14 true fun w21 =>
gO w21 (abI .leq v20 (.lit (.int .i64 60))) fun v22 =>
bO (apick v14 v22 (.lit (.bool false))) fun v23 =>
bG v23 true fun w24 =>
gO w24 (ashift 3 v0) fun v25 =>
bG v23 true fun w26 =>
gO w26 (ald false 1 H1 v25) fun v27 =>
bG v23 true fun w28 =>
gO w28 (alnS v27) fun v29 =>
bG v23 true fun w30 =>
gO w30 (abI .leq v29 (.lit (.int .i64 200))) fun v31 =>
bO (apick v23 v31 (.lit (.bool false))) fun v32 =>
K v32 H1
theorem salvorlaw10_Few_eq (a0 : AV) (H : AH) (K : AV → AH → Prop) : sFun Try.prog salvorlaw10_Few_fl pql none0 none0 salvorlaw10_Few_kp Try.f13 [a0] H K = salvorlaw10_Few a0 H K := by kernel_rfl
theorem salvorlaw10_Few_ok {a0 : AV} {H : AH} {K : AV → AH → Prop} (h : salvorlaw10_Few a0 H K) : ∃ r H', K r H' ∧ BCall Try.prog 13 [a0] H r H' :=
  sFun_ok mixP Try.func13 (by kernel_rfl) (Eq.mpr (salvorlaw10_Few_eq a0 H K) h)
/-! salvor/salvorref6.NewDisk -/
def salvorref6_NewDisk_fl : Floats := flOf [(3, [(0, some 7)])]
def salvorref6_NewDisk_kp : Nat → Option (List Bool) := kpOf [(1, mk 17 0 [1])]
def salvorref6_NewDisk_c (p : List Bool) (n : Nat) : List AV → AH → Kf → Prop := sCode Try.prog salvorref6_NewDisk_fl pql none0 none0 salvorref6_NewDisk_kp (sub p (bodyOf Try.f14)) n
def salvorref6_NewDisk_J1 (x1 : AV) (H : AH) (K : AV → AH → Prop) : Prop := jn (mk 17 0 [1]) (salvorref6_NewDisk_c [true, true] 3) [x1] H (kRet Try.prog Try.f14.results.toList K)
def salvorref6_NewDisk_J1_b (x1 : AV) (H : AH) (K : AV → AH → Prop) : Prop :=
bO (ald true 4 H x1) fun v0 =>
bO (ashift 0 x1) fun v1 =>
bO (ald false 1 H v1) fun v2 =>
bO (alnS v2) fun v3 =>
bO (abI .add v3 (.lit (.int .i64 8))) fun v4 =>
bO (abI .sub v4 (.lit (.int .i64 1))) fun v5 =>
bO (abI .quo v5 (.lit (.int .i64 8))) fun v6 =>
bH (amk 1 8 [(.lit (.int .i64 0))] H v6 v6) fun v7 H8 =>
bO (abl [(.lit (.slice none 0 0)), (.lit (.slice none 0 0)), (.lit (.slice none 0 0)), (.lit (.slice none 0 0)), (.lit (.slice none 0 0)), (.lit (.int .i64 0))] [(0, 4, v0), (4, 1, v7)]) fun v9 =>
bH (anew H8 v9) fun v10 H11 =>
(ald true 4 H8 x1 = some v0) ∧
K v10 H11
theorem salvorref6_NewDisk_J1_eq0 (x1 : AV) (H : AH) (K : AV → AH → Prop) : salvorref6_NewDisk_c [true, true] 3 (expand (mk 17 0 [1]) [x1]) H (kRet Try.prog Try.f14.results.toList K) = salvorref6_NewDisk_J1_b x1 H K := by kernel_rfl
theorem salvorref6_NewDisk_J1_eq (x1 : AV) (H : AH) (K : AV → AH → Prop) : salvorref6_NewDisk_J1 x1 H K = salvorref6_NewDisk_J1_b x1 H K := (jn_eq _ _ _ _ _).trans (salvorref6_NewDisk_J1_eq0 x1 H K)
def salvorref6_NewDisk (a0 : AV) (H : AH) (K : AV → AH → Prop) : Prop :=
bH (anew H a0) fun v0 H1 =>
bO (ald true 4 H1 v0) fun v2 =>
bP (PCall Try.prog 18 [v2] H1) fun v3 =>
bO (aun .not v3) fun v4 =>
bB v4 fun t5 => bI t5 (
bO (abl [(.lit (.slice none 0 0)), (.lit (.slice none 0 0)), (.lit (.slice none 0 0)), (.lit (.slice none 0 0))] []) fun v6 =>
bS (ast 4 H1 v0 v6) fun H7 =>
salvorref6_NewDisk_J1 v0 H7 K)
 (salvorref6_NewDisk_J1 v0 H1 K)
theorem salvorref6_NewDisk_eq (a0 : AV) (H : AH) (K : AV → AH → Prop) : sFun Try.prog salvorref6_NewDisk_fl pql none0 none0 salvorref6_NewDisk_kp Try.f14 [a0] H K = salvorref6_NewDisk a0 H K := by kernel_rfl
theorem salvorref6_NewDisk_ok {a0 : AV} {H : AH} {K : AV → AH → Prop} (h : salvorref6_NewDisk a0 H K) : ∃ r H', K r H' ∧ BCall Try.prog 14 [a0] H r H' :=
  sFun_ok mixP Try.func14 (by kernel_rfl) (Eq.mpr (salvorref6_NewDisk_eq a0 H K) h)
/-! (*salvor/disk.Disk).Left -/
def disk_Disk_Left_fl : Floats := flOf []
def disk_Disk_Left_kp : Nat → Option (List Bool) := kpOf []
def disk_Disk_Left_c (p : List Bool) (n : Nat) : List AV → AH → Kf → Prop := sCode Try.prog disk_Disk_Left_fl pql none0 none0 disk_Disk_Left_kp (sub p (bodyOf Try.f15)) n
def disk_Disk_Left (a0 a1 : AV) (H : AH) (K : AV → AH → Prop) : Prop :=
bO (abI .lss a1 (.lit (.int .i64 0))) fun v0 =>
bG v0 false fun w1 =>
gO w1 (some a1) fun v2 =>
bG v0 false fun w3 =>
gO w3 (some a0) fun v4 =>
bG v0 false fun w5 =>
gC w5 (BCall Try.prog 25 [v4] H) H fun v6 H7 =>
bG v0 false fun w8 =>
gO w8 (abI .geq v2 v6) fun v9 =>
bO (apick v0 (.lit (.bool true)) v9) fun v10 =>
bG v10 false fun w11 =>
gO w11 (some a0) fun v12 =>
bG v10 false fun w13 =>
gO w13 (anilCheck v12) fun v14 =>
bG v10 false fun w15 =>
gO w15 (ashift 1 v14) fun v16 =>
bG v10 false fun w17 =>
gO w17 (ald false 1 H7 v16) fun v18 =>
bG v10 false fun w19 =>
gO w19 (some a1) fun v20 =>
bG v10 false fun w21 =>
gO w21 (alk (.int .i64) (.bool false) H7 v18 v20 false) fun v22 =>
bO (apick v10 (.lit (.bool true)) v22) fun v23 =>
bB v23 fun t24 => bI t24 (
K (.lit (.int .i64 0)) H7)
 (bO (anilCheck a0) fun v25 =>
bO (ashift 2 v25) fun v26 =>
bO (ald false 1 H7 v26) fun v27 =>
bO (alk (.int .i64) (.int .i64 0) H7 v27 a1 false) fun v28 =>
K v28 H7)
theorem disk_Disk_Left_eq (a0 a1 : AV) (H : AH) (K : AV → AH → Prop) : sFun Try.prog disk_Disk_Left_fl pql none0 none0 disk_Disk_Left_kp Try.f15 [a0, a1] H K = disk_Disk_Left a0 a1 H K := by kernel_rfl
theorem disk_Disk_Left_ok {a0 a1 : AV} {H : AH} {K : AV → AH → Prop} (h : disk_Disk_Left a0 a1 H K) : ∃ r H', K r H' ∧ BCall Try.prog 15 [a0, a1] H r H' :=
  sFun_ok mixP Try.func15 (by kernel_rfl) (Eq.mpr (disk_Disk_Left_eq a0 a1 H K) h)
/-! (*salvor/salvorref6.Disk).Left -/
def salvorref6_Disk_Left_fl : Floats := flOf []
def salvorref6_Disk_Left_kp : Nat → Option (List Bool) := kpOf [(10, mk 64 0 [0, 1, 5, 6]), (7, mk 64 0 [0, 1, 5, 6])]
def salvorref6_Disk_Left_c (p : List Bool) (n : Nat) : List AV → AH → Kf → Prop := sCode Try.prog salvorref6_Disk_Left_fl pql none0 none0 salvorref6_Disk_Left_kp (sub p (bodyOf Try.f16)) n
def salvorref6_Disk_Left_J10 (R7 : List AV → AH → Prop) (x0 x1 x5 x6 : AV) (H : AH) (K : AV → AH → Prop) : Prop := jn (mk 64 0 [0, 1, 5, 6]) (salvorref6_Disk_Left_c [true, true, true, false, true, false, false, true, true] 12) [x0, x1, x5, x6] H (kLp (mk 64 0 [0, 1, 5, 6]) R7 (kBlk 0 (kSeq (salvorref6_Disk_Left_c [true, true, true, true] 12) (kRet Try.prog Try.f16.results.toList K))))
def salvorref6_Disk_Left_L7 (x0 x1 x5 x6 : AV) (H : AH) (K : AV → AH → Prop) : Prop := lp (mk 64 0 [0, 1, 5, 6]) (salvorref6_Disk_Left_c [true, true, true, false, true, false, false] 8) [x0, x1, x5, x6] H (kBlk 0 (kSeq (salvorref6_Disk_Left_c [true, true, true, true] 12) (kRet Try.prog Try.f16.results.toList K)))
def salvorref6_Disk_Left_J10_b (R7 : List AV → AH → Prop) (x0 x1 x5 x6 : AV) (H : AH) (K : AV → AH → Prop) : Prop :=
bO (abI .add x6 (.lit (.int .i64 1))) fun v0 =>
R7 [x0, x1, x5, v0] H
theorem salvorref6_Disk_Left_J10_eq0 (R7 : List AV → AH → Prop) (x0 x1 x5 x6 : AV) (H : AH) (K : AV → AH → Prop) : salvorref6_Disk_Left_c [true, true, true, false, true, false, false, true, true] 12 (expand (mk 64 0 [0, 1, 5, 6]) [x0, x1, x5, x6]) H (kLp (mk 64 0 [0, 1, 5, 6]) R7 (kBlk 0 (kSeq (salvorref6_Disk_Left_c [true, true, true, true] 12) (kRet Try.prog Try.f16.results.toList K)))) = salvorref6_Disk_Left_J10_b R7 x0 x1 x5 x6 H K := by kernel_rfl
theorem salvorref6_Disk_Left_J10_eq (R7 : List AV → AH → Prop) (x0 x1 x5 x6 : AV) (H : AH) (K : AV → AH → Prop) : salvorref6_Disk_Left_J10 R7 x0 x1 x5 x6 H K = salvorref6_Disk_Left_J10_b R7 x0 x1 x5 x6 H K := (jn_eq _ _ _ _ _).trans (salvorref6_Disk_Left_J10_eq0 R7 x0 x1 x5 x6 H K)
def salvorref6_Disk_Left_L7_b (R7 : List AV → AH → Prop) (x0 x1 x5 x6 : AV) (H : AH) (K : AV → AH → Prop) : Prop :=
bO (anilCheck x0) fun v0 =>
bO (ashift 0 v0) fun v1 =>
bO (ashift 2 v1) fun v2 =>
bO (ald false 1 H v2) fun v3 =>
bO (alnS v3) fun v4 =>
bO (abI .lss x6 v4) fun v5 =>
bB v5 fun t6 => bI t6 (
bO (anilCheck x0) fun v7 =>
bO (ashift 0 v7) fun v8 =>
bO (ashift 2 v8) fun v9 =>
bO (ald false 1 H v9) fun v10 =>
bO (aixS 2 v10 x6) fun v11 =>
bO (ashift 0 v11) fun v12 =>
bO (ald false 1 H v12) fun v13 =>
bO (abI .eql v13 x1) fun v14 =>
bB v14 fun t15 => bI t15 (
bO (anilCheck x0) fun v16 =>
bO (ashift 0 v16) fun v17 =>
bO (ashift 2 v17) fun v18 =>
bO (ald false 1 H v18) fun v19 =>
bO (aixS 2 v19 x6) fun v20 =>
bO (ashift 1 v20) fun v21 =>
bO (ald false 1 H v21) fun v22 =>
bO (abI .add x5 v22) fun v23 =>
salvorref6_Disk_Left_J10 R7 x0 x1 v23 x6 H K)
 (salvorref6_Disk_Left_J10 R7 x0 x1 x5 x6 H K))
 (bO (anilCheck x0) fun v24 =>
bO (ashift 4 v24) fun v25 =>
bO (ald false 1 H v25) fun v26 =>
bO (aixS 1 v26 x1) fun v27 =>
bO (ald false 1 H v27) fun v28 =>
bO (abI .sub x5 v28) fun v29 =>
K v29 H)
theorem salvorref6_Disk_Left_L7_eq (R7 : List AV → AH → Prop) (x0 x1 x5 x6 : AV) (H : AH) (K : AV → AH → Prop) : salvorref6_Disk_Left_c [true, true, true, false, true, false, false] 8 (expand (mk 64 0 [0, 1, 5, 6]) [x0, x1, x5, x6]) H (kLp (mk 64 0 [0, 1, 5, 6]) R7 (kBlk 0 (kSeq (salvorref6_Disk_Left_c [true, true, true, true] 12) (kRet Try.prog Try.f16.results.toList K)))) = salvorref6_Disk_Left_L7_b R7 x0 x1 x5 x6 H K := by kernel_rfl
theorem salvorref6_Disk_Left_L7_rule {K : AV → AH → Prop} (I : Nat → AV → AV → AV → AV → AH → Prop) (round : ∀ (n : Nat) (x0 x1 x5 x6 : AV) (H : AH) (R : List AV → AH → Prop), (∀ (m : Nat) (y0 y1 y5 y6 : AV) (H' : AH), m < n → I m y0 y1 y5 y6 H' → R [y0, y1, y5, y6] H') → I n x0 x1 x5 x6 H → salvorref6_Disk_Left_L7_b R x0 x1 x5 x6 H K) (n : Nat) {x0 x1 x5 x6 : AV} {H : AH} (h : I n x0 x1 x5 x6 H) : salvorref6_Disk_Left_L7 x0 x1 x5 x6 H K := by
  refine lp_upto (sCode_one _ _) (LI4 I) ?_ n h
  intro n X H h
  obtain ⟨x0, x1, x5, x6, rfl, h⟩ := h.elim
  exact Eq.mpr (salvorref6_Disk_Left_L7_eq _ x0 x1 x5 x6 H K) (round n x0 x1 x5 x6 H (fun X H' => ∃ m, m < n ∧ LI4 I m X H') (fun m y0 y1 y5 y6 H' hm hi => ⟨m, hm, hi⟩) h)
def salvorref6_Disk_Left (a0 a1 : AV) (H : AH) (K : AV → AH → Prop) : Prop :=
bO (abI .lss a1 (.lit (.int .i64 0))) fun v0 =>
bG v0 false fun w1 =>
gO w1 (some a1) fun v2 =>
bG v0 false fun w3 =>
gO w3 (some a0) fun v4 =>
bG v0 false fun w5 =>
gO w5 (anilCheck v4) fun v6 =>
bG v0 false fun w7 =>
gO w7 (ashift 4 v6) fun v8 =>
bG v0 false fun w9 =>
gO w9 (ald false 1 H v8) fun v10 =>
bG v0 false fun w11 =>
gO w11 (alnS v10) fun v12 =>
bG v0 false fun w13 =>
gO w13 (abI .geq v2 v12) fun v14 =>
bO (apick v0 (.lit (.bool true)) v14) fun v15 =>
bG v15 false fun w16 =>
gO w16 (some a0) fun v17 =>
bG v15 false fun w18 =>
gO w18 (some a1) fun v19 =>
bG v15 false fun w20 =>
gC w20 (BCall Try.prog 26 [v17, v19] H) H fun v21 H22 =>
bO (apick v15 (.lit (.bool true)) v21) fun v23 =>
bB v23 fun t24 => bI t24 (
K (.lit (.int .i64 0)) H22)
 (salvorref6_Disk_Left_L7 a0 a1 (.lit (.int .i64 0)) (.lit (.int .i64 0)) H22 K)
theorem salvorref6_Disk_Left_eq (a0 a1 : AV) (H : AH) (K : AV → AH → Prop) : sFun Try.prog salvorref6_Disk_Left_fl pql none0 none0 salvorref6_Disk_Left_kp Try.f16 [a0, a1] H K = salvorref6_Disk_Left a0 a1 H K := by kernel_rfl
theorem salvorref6_Disk_Left_ok {a0 a1 : AV} {H : AH} {K : AV → AH → Prop} (h : salvorref6_Disk_Left a0 a1 H K) : ∃ r H', K r H' ∧ BCall Try.prog 16 [a0, a1] H r H' :=
  sFun_ok mixP Try.func16 (by kernel_rfl) (Eq.mpr (salvorref6_Disk_Left_eq a0 a1 H K) h)
/-! salvor/disk.May -/
def disk_May_fl : Floats := flOf []
def disk_May_kp : Nat → Option (List Bool) := kpOf []
def disk_May_c (p : List Bool) (n : Nat) : List AV → AH → Kf → Prop := sCode Try.prog disk_May_fl pql none0 none0 disk_May_kp (sub p (bodyOf Try.f17)) n
def disk_May (a0 : AV) (H : AH) (K : AV → AH → Prop) : Prop :=
bH (anew H a0) fun v0 H1 =>
bO (ashift 0 v0) fun v2 =>
bO (ald false 1 H1 v2) fun v3 =>
bO (alnS v3) fun v4 =>
bO (abI .leq v4 (.lit (.int .i64 65536))) fun v5 =>
bG v5 true fun w6 =>
gO w6 (ashift 1 v0) fun v7 =>
bG v5 true fun w8 =>
gO w8 (ald false 1 H1 v7) fun v9 =>
bG v5 true fun w10 =>
gO w10 (some (.fn (.func 27) [] [])) fun v11 =>
bG v5 true fun w12 =>
gC w12 (BCall Try.prog 29 [v9, v11] H1) H1 fun v13 H14 =>
bG v5 true fun w15 =>
gO w15 (aun .not v13) fun v16 =>
bO (apick v5 v16 (.lit (.bool false))) fun v17 =>
bG v17 true fun w18 =>
gO w18 (ashift 2 v0) fun v19 =>
bG v17 true fun w20 =>
gO w20 (ald false 1 H14 v19) fun v21 =>
bG v17 true fun w22 =>
gO w22 (some (.fn (.func 28) [] [])) fun v23 =>
bG v17 true fun w24 =>
gC w24 (BCall Try.prog 30 [v21, v23] H14) H14 fun v25 H26 =>
bG v17 true fun w27 =>
gO w27 (aun .not v25) fun v28 =>
bO (apick v17 v28 (.lit (.bool false))) fun v29 =>
K v29 H26
theorem disk_May_eq (a0 : AV) (H : AH) (K : AV → AH → Prop) : sFun Try.prog disk_May_fl pql none0 none0 disk_May_kp Try.f17 [a0] H K = disk_May a0 H K := by kernel_rfl
theorem disk_May_ok {a0 : AV} {H : AH} {K : AV → AH → Prop} (h : disk_May a0 H K) : ∃ r H', K r H' ∧ BCall Try.prog 17 [a0] H r H' :=
  sFun_ok mixP Try.func17 (by kernel_rfl) (Eq.mpr (disk_May_eq a0 H K) h)
/-! salvor/salvorref6.MayDevice -/
def salvorref6_MayDevice_fl : Floats := flOf []
def salvorref6_MayDevice_kp : Nat → Option (List Bool) := kpOf [(11, mk 54 0 [1, 4]), (3, mk 54 0 [1, 3])]
def salvorref6_MayDevice_c (p : List Bool) (n : Nat) : List AV → AH → Kf → Prop := sCode Try.prog salvorref6_MayDevice_fl pql none0 none0 salvorref6_MayDevice_kp (sub p (bodyOf Try.f18)) n
def salvorref6_MayDevice_L11 (x1 x4 : AV) (H : AH) (K : AV → AH → Prop) : Prop := lp (mk 54 0 [1, 4]) (salvorref6_MayDevice_c [true, true, false, true, false, false] 12) [x1, x4] H (kBlk 2 (kSeq (salvorref6_MayDevice_c [true, true, true] 17) (kRet Try.prog Try.f18.results.toList K)))
def salvorref6_MayDevice_L3 (x1 x3 : AV) (H : AH) (K : AV → AH → Prop) : Prop := lp (mk 54 0 [1, 3]) (salvorref6_MayDevice_c [true, false, true, false, false] 4) [x1, x3] H (kBlk 0 (kSeq (salvorref6_MayDevice_c [true, true] 9) (kRet Try.prog Try.f18.results.toList K)))
def salvorref6_MayDevice_L11_b (R11 : List AV → AH → Prop) (x1 x4 : AV) (H : AH) (K : AV → AH → Prop) : Prop :=
bO (ashift 2 x1) fun v0 =>
bO (ald false 1 H v0) fun v1 =>
bO (alnS v1) fun v2 =>
bO (abI .lss x4 v2) fun v3 =>
bB v3 fun t4 => bI t4 (
bO (ashift 2 x1) fun v5 =>
bO (ald false 1 H v5) fun v6 =>
bO (aixS 2 v6 x4) fun v7 =>
bO (ashift 0 v7) fun v8 =>
bO (ald false 1 H v8) fun v9 =>
bO (abI .lss v9 (.lit (.int .i64 0))) fun v10 =>
bG v10 false fun w11 =>
gO w11 (ashift 2 x1) fun v12 =>
bG v10 false fun w13 =>
gO w13 (ald false 1 H v12) fun v14 =>
bG v10 false fun w15 =>
gO w15 (some x4) fun v16 =>
bG v10 false fun w17 =>
gO w17 (aixS 2 v14 v16) fun v18 =>
bG v10 false fun w19 =>
gO w19 (ashift 1 v18) fun v20 =>
bG v10 false fun w21 =>
gO w21 (ald false 1 H v20) fun v22 =>
bG v10 false fun w23 =>
gO w23 (abI .lss v22 (.lit (.int .i64 0))) fun v24 =>
bO (apick v10 (.lit (.bool true)) v24) fun v25 =>
bG v25 false fun w26 =>
gO w26 (ashift 2 x1) fun v27 =>
bG v25 false fun w28 =>
gO w28 (ald false 1 H v27) fun v29 =>
bG v25 false fun w30 =>
gO w30 (some x4) fun v31 =>
bG v25 false fun w32 =>
gO w32 (aixS 2 v29 v31) fun v33 =>
bG v25 false fun w34 =>
gO w34 (ashift 1 v33) fun v35 =>
bG v25 false fun w36 =>
gO w36 (ald false 1 H v35) fun v37 =>
bG v25 false fun w38 =>
gO w38 (abI .gtr v37 (.lit (.int .i64 20))) fun v39 =>
bO (apick v25 (.lit (.bool true)) v39) fun v40 =>
bB v40 fun t41 => bI t41 (
K (.lit (.bool false)) H)
 (bO (abI .add x4 (.lit (.int .i64 1))) fun v42 =>
R11 [x1, v42] H))
 (bO (ashift 0 x1) fun v43 =>
bO (ald false 1 H v43) fun v44 =>
bO (alnS v44) fun v45 =>
bO (abI .leq v45 (.lit (.int .i64 65536))) fun v46 =>
K v46 H)
theorem salvorref6_MayDevice_L11_eq (R11 : List AV → AH → Prop) (x1 x4 : AV) (H : AH) (K : AV → AH → Prop) : salvorref6_MayDevice_c [true, true, false, true, false, false] 12 (expand (mk 54 0 [1, 4]) [x1, x4]) H (kLp (mk 54 0 [1, 4]) R11 (kBlk 2 (kSeq (salvorref6_MayDevice_c [true, true, true] 17) (kRet Try.prog Try.f18.results.toList K)))) = salvorref6_MayDevice_L11_b R11 x1 x4 H K := by kernel_rfl
theorem salvorref6_MayDevice_L11_rule {K : AV → AH → Prop} (I : Nat → AV → AV → AH → Prop) (round : ∀ (n : Nat) (x1 x4 : AV) (H : AH) (R : List AV → AH → Prop), (∀ (m : Nat) (y1 y4 : AV) (H' : AH), m < n → I m y1 y4 H' → R [y1, y4] H') → I n x1 x4 H → salvorref6_MayDevice_L11_b R x1 x4 H K) (n : Nat) {x1 x4 : AV} {H : AH} (h : I n x1 x4 H) : salvorref6_MayDevice_L11 x1 x4 H K := by
  refine lp_upto (sCode_one _ _) (LI2 I) ?_ n h
  intro n X H h
  obtain ⟨x1, x4, rfl, h⟩ := h.elim
  exact Eq.mpr (salvorref6_MayDevice_L11_eq _ x1 x4 H K) (round n x1 x4 H (fun X H' => ∃ m, m < n ∧ LI2 I m X H') (fun m y1 y4 H' hm hi => ⟨m, hm, hi⟩) h)
def salvorref6_MayDevice_L3_b (R3 : List AV → AH → Prop) (x1 x3 : AV) (H : AH) (K : AV → AH → Prop) : Prop :=
bO (ashift 1 x1) fun v0 =>
bO (ald false 1 H v0) fun v1 =>
bO (alnS v1) fun v2 =>
bO (abI .lss x3 v2) fun v3 =>
bB v3 fun t4 => bI t4 (
bO (ashift 1 x1) fun v5 =>
bO (ald false 1 H v5) fun v6 =>
bO (aixS 1 v6 x3) fun v7 =>
bO (ald false 1 H v7) fun v8 =>
bO (abI .lss v8 (.lit (.int .i64 0))) fun v9 =>
bB v9 fun t10 => bI t10 (
K (.lit (.bool false)) H)
 (bO (abI .add x3 (.lit (.int .i64 1))) fun v11 =>
R3 [x1, v11] H))
 (salvorref6_MayDevice_L11 x1 (.lit (.int .i64 0)) H K)
theorem salvorref6_MayDevice_L3_eq (R3 : List AV → AH → Prop) (x1 x3 : AV) (H : AH) (K : AV → AH → Prop) : salvorref6_MayDevice_c [true, false, true, false, false] 4 (expand (mk 54 0 [1, 3]) [x1, x3]) H (kLp (mk 54 0 [1, 3]) R3 (kBlk 0 (kSeq (salvorref6_MayDevice_c [true, true] 9) (kRet Try.prog Try.f18.results.toList K)))) = salvorref6_MayDevice_L3_b R3 x1 x3 H K := by kernel_rfl
theorem salvorref6_MayDevice_L3_rule {K : AV → AH → Prop} (I : Nat → AV → AV → AH → Prop) (round : ∀ (n : Nat) (x1 x3 : AV) (H : AH) (R : List AV → AH → Prop), (∀ (m : Nat) (y1 y3 : AV) (H' : AH), m < n → I m y1 y3 H' → R [y1, y3] H') → I n x1 x3 H → salvorref6_MayDevice_L3_b R x1 x3 H K) (n : Nat) {x1 x3 : AV} {H : AH} (h : I n x1 x3 H) : salvorref6_MayDevice_L3 x1 x3 H K := by
  refine lp_upto (sCode_one _ _) (LI2 I) ?_ n h
  intro n X H h
  obtain ⟨x1, x3, rfl, h⟩ := h.elim
  exact Eq.mpr (salvorref6_MayDevice_L3_eq _ x1 x3 H K) (round n x1 x3 H (fun X H' => ∃ m, m < n ∧ LI2 I m X H') (fun m y1 y3 H' hm hi => ⟨m, hm, hi⟩) h)
def salvorref6_MayDevice (a0 : AV) (H : AH) (K : AV → AH → Prop) : Prop :=
bH (anew H a0) fun v0 H1 =>
salvorref6_MayDevice_L3 v0 (.lit (.int .i64 0)) H1 K
theorem salvorref6_MayDevice_eq (a0 : AV) (H : AH) (K : AV → AH → Prop) : sFun Try.prog salvorref6_MayDevice_fl pql none0 none0 salvorref6_MayDevice_kp Try.f18 [a0] H K = salvorref6_MayDevice a0 H K := by kernel_rfl
theorem salvorref6_MayDevice_ok {a0 : AV} {H : AH} {K : AV → AH → Prop} (h : salvorref6_MayDevice a0 H K) : ∃ r H', K r H' ∧ BCall Try.prog 18 [a0] H r H' :=
  sFun_ok mixP Try.func18 (by kernel_rfl) (Eq.mpr (salvorref6_MayDevice_eq a0 H K) h)
/-! (*salvor/salvorref6.Disk).Get -/
def salvorref6_Disk_Get_fl : Floats := flOf []
def salvorref6_Disk_Get_kp : Nat → Option (List Bool) := kpOf [(25, mk 127 0 [0, 1, 9, 11]), (22, mk 127 0 [0, 1, 9, 11]), (21, mk 127 0 [0, 1, 9, 11]), (16, mk 127 0 [0, 1, 9, 10]), (18, mk 127 0 []), (17, mk 127 0 [0, 1, 9, 10, 83]), (13, mk 127 0 [0, 1, 9, 10]), (14, mk 127 0 [0, 1, 9, 10, 79]), (12, mk 127 0 [0, 1, 9, 10]), (9, mk 127 0 [0, 1, 9]), (10, mk 127 0 [0, 1, 9, 74]), (7, mk 127 0 [0, 1, 9])]
def salvorref6_Disk_Get_c (p : List Bool) (n : Nat) : List AV → AH → Kf → Prop := sCode Try.prog salvorref6_Disk_Get_fl pql none0 none0 salvorref6_Disk_Get_kp (sub p (bodyOf Try.f19)) n
def salvorref6_Disk_Get_J18 (H : AH) (K : AV → AH → Prop) : Prop := jn (mk 127 0 []) (salvorref6_Disk_Get_c [true, true, true, true, true, true, true, true, true, false, true, false, true] 19) [] H (kSeq (cutC (mk 127 0 [0, 1, 9, 10]) (salvorref6_Disk_Get_c [true, true, true, true, true, true, true, true, true, true] 20)) (kRet Try.prog Try.f19.results.toList K))
def salvorref6_Disk_Get_J25 (R22 : List AV → AH → Prop) (x0 x1 x9 x11 : AV) (H : AH) (K : AV → AH → Prop) : Prop := jn (mk 127 0 [0, 1, 9, 11]) (salvorref6_Disk_Get_c [true, true, true, true, true, true, true, true, true, true, false, true, false, false, true, true] 27) [x0, x1, x9, x11] H (kLp (mk 127 0 [0, 1, 9, 11]) R22 (kBlk 0 (kSeq (salvorref6_Disk_Get_c [true, true, true, true, true, true, true, true, true, true, true] 27) (kRet Try.prog Try.f19.results.toList K))))
def salvorref6_Disk_Get_L22 (x0 x1 x9 x11 : AV) (H : AH) (K : AV → AH → Prop) : Prop := lp (mk 127 0 [0, 1, 9, 11]) (salvorref6_Disk_Get_c [true, true, true, true, true, true, true, true, true, true, false, true, false, false] 23) [x0, x1, x9, x11] H (kBlk 0 (kSeq (salvorref6_Disk_Get_c [true, true, true, true, true, true, true, true, true, true, true] 27) (kRet Try.prog Try.f19.results.toList K)))
def salvorref6_Disk_Get_J21 (x0 x1 x9 x11 : AV) (H : AH) (K : AV → AH → Prop) : Prop := jn (mk 127 0 [0, 1, 9, 11]) (salvorref6_Disk_Get_c [true, true, true, true, true, true, true, true, true, true, false, true] 22) [x0, x1, x9, x11] H (kSeq (salvorref6_Disk_Get_c [true, true, true, true, true, true, true, true, true, true, true] 27) (kRet Try.prog Try.f19.results.toList K))
def salvorref6_Disk_Get_J16 (x0 x1 x9 x10 : AV) (H : AH) (K : AV → AH → Prop) : Prop := jn (mk 127 0 [0, 1, 9, 10]) (salvorref6_Disk_Get_c [true, true, true, true, true, true, true, true, true, true] 20) [x0, x1, x9, x10] H (kRet Try.prog Try.f19.results.toList K)
def salvorref6_Disk_Get_J17 (x0 x1 x9 x10 x83 : AV) (H : AH) (K : AV → AH → Prop) : Prop := jn (mk 127 0 [0, 1, 9, 10, 83]) (salvorref6_Disk_Get_c [true, true, true, true, true, true, true, true, true, false, true] 18) [x0, x1, x9, x10, x83] H (kSeq (cutC (mk 127 0 [0, 1, 9, 10]) (salvorref6_Disk_Get_c [true, true, true, true, true, true, true, true, true, true] 20)) (kRet Try.prog Try.f19.results.toList K))
def salvorref6_Disk_Get_J13 (x0 x1 x9 x10 : AV) (H : AH) (K : AV → AH → Prop) : Prop := jn (mk 127 0 [0, 1, 9, 10]) (salvorref6_Disk_Get_c [true, true, true, true, true, true, true, true, true] 16) [x0, x1, x9, x10] H (kRet Try.prog Try.f19.results.toList K)
def salvorref6_Disk_Get_J14 (x0 x1 x9 x10 x79 : AV) (H : AH) (K : AV → AH → Prop) : Prop := jn (mk 127 0 [0, 1, 9, 10, 79]) (salvorref6_Disk_Get_c [true, true, true, true, true, true, true, true, false, true] 15) [x0, x1, x9, x10, x79] H (kSeq (cutC (mk 127 0 [0, 1, 9, 10]) (salvorref6_Disk_Get_c [true, true, true, true, true, true, true, true, true] 16)) (kRet Try.prog Try.f19.results.toList K))
def salvorref6_Disk_Get_J12 (x0 x1 x9 x10 : AV) (H : AH) (K : AV → AH → Prop) : Prop := jn (mk 127 0 [0, 1, 9, 10]) (salvorref6_Disk_Get_c [true, true, true, true, true, true, true, true] 13) [x0, x1, x9, x10] H (kRet Try.prog Try.f19.results.toList K)
def salvorref6_Disk_Get_J9 (x0 x1 x9 : AV) (H : AH) (K : AV → AH → Prop) : Prop := jn (mk 127 0 [0, 1, 9]) (salvorref6_Disk_Get_c [true, true, true, true, true, true, true] 12) [x0, x1, x9] H (kRet Try.prog Try.f19.results.toList K)
def salvorref6_Disk_Get_J10 (x0 x1 x9 x74 : AV) (H : AH) (K : AV → AH → Prop) : Prop := jn (mk 127 0 [0, 1, 9, 74]) (salvorref6_Disk_Get_c [true, true, true, true, true, true, false, true] 11) [x0, x1, x9, x74] H (kSeq (cutC (mk 127 0 [0, 1, 9]) (salvorref6_Disk_Get_c [true, true, true, true, true, true, true] 12)) (kRet Try.prog Try.f19.results.toList K))
def salvorref6_Disk_Get_J7 (x0 x1 x9 : AV) (H : AH) (K : AV → AH → Prop) : Prop := jn (mk 127 0 [0, 1, 9]) (salvorref6_Disk_Get_c [true, true, true, true, true, true] 9) [x0, x1, x9] H (kRet Try.prog Try.f19.results.toList K)
def salvorref6_Disk_Get_J18_b (H : AH) (K : AV → AH → Prop) : Prop :=
K (.tup [(.lit (.slice none 0 0)), (.lit (.int .i64 1))]) H
theorem salvorref6_Disk_Get_J18_eq0 (H : AH) (K : AV → AH → Prop) : salvorref6_Disk_Get_c [true, true, true, true, true, true, true, true, true, false, true, false, true] 19 (expand (mk 127 0 []) []) H (kSeq (cutC (mk 127 0 [0, 1, 9, 10]) (salvorref6_Disk_Get_c [true, true, true, true, true, true, true, true, true, true] 20)) (kRet Try.prog Try.f19.results.toList K)) = salvorref6_Disk_Get_J18_b H K := by kernel_rfl
theorem salvorref6_Disk_Get_J18_eq (H : AH) (K : AV → AH → Prop) : salvorref6_Disk_Get_J18 H K = salvorref6_Disk_Get_J18_b H K := (jn_eq _ _ _ _ _).trans (salvorref6_Disk_Get_J18_eq0 H K)
def salvorref6_Disk_Get_J25_b (R22 : List AV → AH → Prop) (x0 x1 x9 x11 : AV) (H : AH) (K : AV → AH → Prop) : Prop :=
bO (abI .add x11 (.lit (.int .i64 1))) fun v0 =>
R22 [x0, x1, x9, v0] H
theorem salvorref6_Disk_Get_J25_eq0 (R22 : List AV → AH → Prop) (x0 x1 x9 x11 : AV) (H : AH) (K : AV → AH → Prop) : salvorref6_Disk_Get_c [true, true, true, true, true, true, true, true, true, true, false, true, false, false, true, true] 27 (expand (mk 127 0 [0, 1, 9, 11]) [x0, x1, x9, x11]) H (kLp (mk 127 0 [0, 1, 9, 11]) R22 (kBlk 0 (kSeq (salvorref6_Disk_Get_c [true, true, true, true, true, true, true, true, true, true, true] 27) (kRet Try.prog Try.f19.results.toList K)))) = salvorref6_Disk_Get_J25_b R22 x0 x1 x9 x11 H K := by kernel_rfl
theorem salvorref6_Disk_Get_J25_eq (R22 : List AV → AH → Prop) (x0 x1 x9 x11 : AV) (H : AH) (K : AV → AH → Prop) : salvorref6_Disk_Get_J25 R22 x0 x1 x9 x11 H K = salvorref6_Disk_Get_J25_b R22 x0 x1 x9 x11 H K := (jn_eq _ _ _ _ _).trans (salvorref6_Disk_Get_J25_eq0 R22 x0 x1 x9 x11 H K)
def salvorref6_Disk_Get_L22_b (R22 : List AV → AH → Prop) (x0 x1 x9 x11 : AV) (H : AH) (K : AV → AH → Prop) : Prop :=
bO (abI .mul x11 (.lit (.int .i64 8))) fun v0 =>
bO (abI .add x1 x9) fun v1 =>
bO (abI .lss v0 v1) fun v2 =>
bB v2 fun t3 => bI t3 (
bC (BCall Try.prog 26 [x0, x11] H) fun v4 H5 =>
bG v4 false fun w6 =>
gO w6 (some x0) fun v7 =>
bG v4 false fun w8 =>
gO w8 (some x11) fun v9 =>
bG v4 false fun w10 =>
gC w10 (BCall Try.prog 16 [v7, v9] H5) H5 fun v11 H12 =>
bG v4 false fun w13 =>
gO w13 (abI .gtr v11 (.lit (.int .i64 0))) fun v14 =>
bO (apick v4 (.lit (.bool true)) v14) fun v15 =>
bB v15 fun t16 => bI t16 (
bO (abI .mul x11 (.lit (.int .i64 8))) fun v17 =>
bO (abI .sub v17 x1) fun v18 =>
salvorref6_Disk_Get_J25 R22 x0 x1 v18 x11 H12 K)
 (salvorref6_Disk_Get_J25 R22 x0 x1 x9 x11 H12 K))
 (bO (anilCheck x0) fun v19 =>
bO (ashift 0 v19) fun v20 =>
bO (ashift 0 v20) fun v21 =>
bO (ald false 1 H v21) fun v22 =>
bO (abI .add x1 x9) fun v23 =>
bO (aslS 1 v22 (some x1) (some v23) none) fun v24 =>
bH (aap 1 1 H (.lit (.slice none 0 0)) v24) fun v25 H26 =>
K (.tup [v25, (.lit (.int .i64 0))]) H26)
theorem salvorref6_Disk_Get_L22_eq (R22 : List AV → AH → Prop) (x0 x1 x9 x11 : AV) (H : AH) (K : AV → AH → Prop) : salvorref6_Disk_Get_c [true, true, true, true, true, true, true, true, true, true, false, true, false, false] 23 (expand (mk 127 0 [0, 1, 9, 11]) [x0, x1, x9, x11]) H (kLp (mk 127 0 [0, 1, 9, 11]) R22 (kBlk 0 (kSeq (salvorref6_Disk_Get_c [true, true, true, true, true, true, true, true, true, true, true] 27) (kRet Try.prog Try.f19.results.toList K)))) = salvorref6_Disk_Get_L22_b R22 x0 x1 x9 x11 H K := by kernel_rfl
theorem salvorref6_Disk_Get_L22_rule {K : AV → AH → Prop} (I : Nat → AV → AV → AV → AV → AH → Prop) (round : ∀ (n : Nat) (x0 x1 x9 x11 : AV) (H : AH) (R : List AV → AH → Prop), (∀ (m : Nat) (y0 y1 y9 y11 : AV) (H' : AH), m < n → I m y0 y1 y9 y11 H' → R [y0, y1, y9, y11] H') → I n x0 x1 x9 x11 H → salvorref6_Disk_Get_L22_b R x0 x1 x9 x11 H K) (n : Nat) {x0 x1 x9 x11 : AV} {H : AH} (h : I n x0 x1 x9 x11 H) : salvorref6_Disk_Get_L22 x0 x1 x9 x11 H K := by
  refine lp_upto (sCode_one _ _) (LI4 I) ?_ n h
  intro n X H h
  obtain ⟨x0, x1, x9, x11, rfl, h⟩ := h.elim
  exact Eq.mpr (salvorref6_Disk_Get_L22_eq _ x0 x1 x9 x11 H K) (round n x0 x1 x9 x11 H (fun X H' => ∃ m, m < n ∧ LI4 I m X H') (fun m y0 y1 y9 y11 H' hm hi => ⟨m, hm, hi⟩) h)
def salvorref6_Disk_Get_J21_b (x0 x1 x9 x11 : AV) (H : AH) (K : AV → AH → Prop) : Prop :=
salvorref6_Disk_Get_L22 x0 x1 x9 x11 H K
theorem salvorref6_Disk_Get_J21_eq0 (x0 x1 x9 x11 : AV) (H : AH) (K : AV → AH → Prop) : salvorref6_Disk_Get_c [true, true, true, true, true, true, true, true, true, true, false, true] 22 (expand (mk 127 0 [0, 1, 9, 11]) [x0, x1, x9, x11]) H (kSeq (salvorref6_Disk_Get_c [true, true, true, true, true, true, true, true, true, true, true] 27) (kRet Try.prog Try.f19.results.toList K)) = salvorref6_Disk_Get_J21_b x0 x1 x9 x11 H K := by kernel_rfl
theorem salvorref6_Disk_Get_J21_eq (x0 x1 x9 x11 : AV) (H : AH) (K : AV → AH → Prop) : salvorref6_Disk_Get_J21 x0 x1 x9 x11 H K = salvorref6_Disk_Get_J21_b x0 x1 x9 x11 H K := (jn_eq _ _ _ _ _).trans (salvorref6_Disk_Get_J21_eq0 x0 x1 x9 x11 H K)
def salvorref6_Disk_Get_J16_b (x0 x1 x9 x10 : AV) (H : AH) (K : AV → AH → Prop) : Prop :=
bO (abI .add x10 (.lit (.int .i64 1))) fun v0 =>
salvorref6_Disk_Get_J21 x0 x1 x9 v0 H K
theorem salvorref6_Disk_Get_J16_eq0 (x0 x1 x9 x10 : AV) (H : AH) (K : AV → AH → Prop) : salvorref6_Disk_Get_c [true, true, true, true, true, true, true, true, true, true] 20 (expand (mk 127 0 [0, 1, 9, 10]) [x0, x1, x9, x10]) H (kRet Try.prog Try.f19.results.toList K) = salvorref6_Disk_Get_J16_b x0 x1 x9 x10 H K := by kernel_rfl
theorem salvorref6_Disk_Get_J16_eq (x0 x1 x9 x10 : AV) (H : AH) (K : AV → AH → Prop) : salvorref6_Disk_Get_J16 x0 x1 x9 x10 H K = salvorref6_Disk_Get_J16_b x0 x1 x9 x10 H K := (jn_eq _ _ _ _ _).trans (salvorref6_Disk_Get_J16_eq0 x0 x1 x9 x10 H K)
def salvorref6_Disk_Get_J17_b (x0 x1 x9 x10 x83 : AV) (H : AH) (K : AV → AH → Prop) : Prop :=
bB x83 fun t0 => bI t0 (
bO (anilCheck x0) fun v1 =>
bO (ashift 4 v1) fun v2 =>
bO (ald false 1 H v2) fun v3 =>
bO (aixS 1 v3 x10) fun v4 =>
bO (ald false 1 H v4) fun v5 =>
bO (abI .add v5 (.lit (.int .i64 1))) fun v6 =>
bO (aixS 1 v3 x10) fun v7 =>
bS (ast 1 H v7 v6) fun H8 =>
salvorref6_Disk_Get_J18 H8 K)
 (salvorref6_Disk_Get_J16 x0 x1 x9 x10 H K)
theorem salvorref6_Disk_Get_J17_eq0 (x0 x1 x9 x10 x83 : AV) (H : AH) (K : AV → AH → Prop) : salvorref6_Disk_Get_c [true, true, true, true, true, true, true, true, true, false, true] 18 (expand (mk 127 0 [0, 1, 9, 10, 83]) [x0, x1, x9, x10, x83]) H (kSeq (cutC (mk 127 0 [0, 1, 9, 10]) (salvorref6_Disk_Get_c [true, true, true, true, true, true, true, true, true, true] 20)) (kRet Try.prog Try.f19.results.toList K)) = salvorref6_Disk_Get_J17_b x0 x1 x9 x10 x83 H K := by kernel_rfl
theorem salvorref6_Disk_Get_J17_eq (x0 x1 x9 x10 x83 : AV) (H : AH) (K : AV → AH → Prop) : salvorref6_Disk_Get_J17 x0 x1 x9 x10 x83 H K = salvorref6_Disk_Get_J17_b x0 x1 x9 x10 x83 H K := (jn_eq _ _ _ _ _).trans (salvorref6_Disk_Get_J17_eq0 x0 x1 x9 x10 x83 H K)
def salvorref6_Disk_Get_J13_b (x0 x1 x9 x10 : AV) (H : AH) (K : AV → AH → Prop) : Prop :=
bC (BCall Try.prog 16 [x0, x10] H) fun v0 H1 =>
bO (abI .gtr v0 (.lit (.int .i64 0))) fun v2 =>
salvorref6_Disk_Get_J17 x0 x1 x9 x10 v2 H1 K
theorem salvorref6_Disk_Get_J13_eq0 (x0 x1 x9 x10 : AV) (H : AH) (K : AV → AH → Prop) : salvorref6_Disk_Get_c [true, true, true, true, true, true, true, true, true] 16 (expand (mk 127 0 [0, 1, 9, 10]) [x0, x1, x9, x10]) H (kRet Try.prog Try.f19.results.toList K) = salvorref6_Disk_Get_J13_b x0 x1 x9 x10 H K := by kernel_rfl
theorem salvorref6_Disk_Get_J13_eq (x0 x1 x9 x10 : AV) (H : AH) (K : AV → AH → Prop) : salvorref6_Disk_Get_J13 x0 x1 x9 x10 H K = salvorref6_Disk_Get_J13_b x0 x1 x9 x10 H K := (jn_eq _ _ _ _ _).trans (salvorref6_Disk_Get_J13_eq0 x0 x1 x9 x10 H K)
def salvorref6_Disk_Get_J14_b (x0 x1 x9 x10 x79 : AV) (H : AH) (K : AV → AH → Prop) : Prop :=
bB x79 fun t0 => bI t0 (
K (.tup [(.lit (.slice none 0 0)), (.lit (.int .i64 1))]) H)
 (salvorref6_Disk_Get_J13 x0 x1 x9 x10 H K)
theorem salvorref6_Disk_Get_J14_eq0 (x0 x1 x9 x10 x79 : AV) (H : AH) (K : AV → AH → Prop) : salvorref6_Disk_Get_c [true, true, true, true, true, true, true, true, false, true] 15 (expand (mk 127 0 [0, 1, 9, 10, 79]) [x0, x1, x9, x10, x79]) H (kSeq (cutC (mk 127 0 [0, 1, 9, 10]) (salvorref6_Disk_Get_c [true, true, true, true, true, true, true, true, true] 16)) (kRet Try.prog Try.f19.results.toList K)) = salvorref6_Disk_Get_J14_b x0 x1 x9 x10 x79 H K := by kernel_rfl
theorem salvorref6_Disk_Get_J14_eq (x0 x1 x9 x10 x79 : AV) (H : AH) (K : AV → AH → Prop) : salvorref6_Disk_Get_J14 x0 x1 x9 x10 x79 H K = salvorref6_Disk_Get_J14_b x0 x1 x9 x10 x79 H K := (jn_eq _ _ _ _ _).trans (salvorref6_Disk_Get_J14_eq0 x0 x1 x9 x10 x79 H K)
def salvorref6_Disk_Get_J12_b (x0 x1 x9 x10 : AV) (H : AH) (K : AV → AH → Prop) : Prop :=
bC (BCall Try.prog 26 [x0, x10] H) fun v0 H1 =>
salvorref6_Disk_Get_J14 x0 x1 x9 x10 v0 H1 K
theorem salvorref6_Disk_Get_J12_eq0 (x0 x1 x9 x10 : AV) (H : AH) (K : AV → AH → Prop) : salvorref6_Disk_Get_c [true, true, true, true, true, true, true, true] 13 (expand (mk 127 0 [0, 1, 9, 10]) [x0, x1, x9, x10]) H (kRet Try.prog Try.f19.results.toList K) = salvorref6_Disk_Get_J12_b x0 x1 x9 x10 H K := by kernel_rfl
theorem salvorref6_Disk_Get_J12_eq (x0 x1 x9 x10 : AV) (H : AH) (K : AV → AH → Prop) : salvorref6_Disk_Get_J12 x0 x1 x9 x10 H K = salvorref6_Disk_Get_J12_b x0 x1 x9 x10 H K := (jn_eq _ _ _ _ _).trans (salvorref6_Disk_Get_J12_eq0 x0 x1 x9 x10 H K)
def salvorref6_Disk_Get_J9_b (x0 x1 x9 : AV) (H : AH) (K : AV → AH → Prop) : Prop :=
bO (abI .quo x1 (.lit (.int .i64 8))) fun v0 =>
salvorref6_Disk_Get_J12 x0 x1 x9 v0 H K
theorem salvorref6_Disk_Get_J9_eq0 (x0 x1 x9 : AV) (H : AH) (K : AV → AH → Prop) : salvorref6_Disk_Get_c [true, true, true, true, true, true, true] 12 (expand (mk 127 0 [0, 1, 9]) [x0, x1, x9]) H (kRet Try.prog Try.f19.results.toList K) = salvorref6_Disk_Get_J9_b x0 x1 x9 H K := by kernel_rfl
theorem salvorref6_Disk_Get_J9_eq (x0 x1 x9 : AV) (H : AH) (K : AV → AH → Prop) : salvorref6_Disk_Get_J9 x0 x1 x9 H K = salvorref6_Disk_Get_J9_b x0 x1 x9 H K := (jn_eq _ _ _ _ _).trans (salvorref6_Disk_Get_J9_eq0 x0 x1 x9 H K)
def salvorref6_Disk_Get_J10_b (x0 x1 x9 x74 : AV) (H : AH) (K : AV → AH → Prop) : Prop :=
bB x74 fun t0 => bI t0 (
K (.tup [(.lit (.slice none 0 0)), (.lit (.int .i64 0))]) H)
 (salvorref6_Disk_Get_J9 x0 x1 x9 H K)
theorem salvorref6_Disk_Get_J10_eq0 (x0 x1 x9 x74 : AV) (H : AH) (K : AV → AH → Prop) : salvorref6_Disk_Get_c [true, true, true, true, true, true, false, true] 11 (expand (mk 127 0 [0, 1, 9, 74]) [x0, x1, x9, x74]) H (kSeq (cutC (mk 127 0 [0, 1, 9]) (salvorref6_Disk_Get_c [true, true, true, true, true, true, true] 12)) (kRet Try.prog Try.f19.results.toList K)) = salvorref6_Disk_Get_J10_b x0 x1 x9 x74 H K := by kernel_rfl
theorem salvorref6_Disk_Get_J10_eq (x0 x1 x9 x74 : AV) (H : AH) (K : AV → AH → Prop) : salvorref6_Disk_Get_J10 x0 x1 x9 x74 H K = salvorref6_Disk_Get_J10_b x0 x1 x9 x74 H K := (jn_eq _ _ _ _ _).trans (salvorref6_Disk_Get_J10_eq0 x0 x1 x9 x74 H K)
def salvorref6_Disk_Get_J7_b (x0 x1 x9 : AV) (H : AH) (K : AV → AH → Prop) : Prop :=
bO (abI .eql x9 (.lit (.int .i64 0))) fun v0 =>
salvorref6_Disk_Get_J10 x0 x1 x9 v0 H K
theorem salvorref6_Disk_Get_J7_eq0 (x0 x1 x9 : AV) (H : AH) (K : AV → AH → Prop) : salvorref6_Disk_Get_c [true, true, true, true, true, true] 9 (expand (mk 127 0 [0, 1, 9]) [x0, x1, x9]) H (kRet Try.prog Try.f19.results.toList K) = salvorref6_Disk_Get_J7_b x0 x1 x9 H K := by kernel_rfl
theorem salvorref6_Disk_Get_J7_eq (x0 x1 x9 : AV) (H : AH) (K : AV → AH → Prop) : salvorref6_Disk_Get_J7 x0 x1 x9 H K = salvorref6_Disk_Get_J7_b x0 x1 x9 H K := (jn_eq _ _ _ _ _).trans (salvorref6_Disk_Get_J7_eq0 x0 x1 x9 H K)
def salvorref6_Disk_Get (a0 a1 a2 : AV) (H : AH) (K : AV → AH → Prop) : Prop :=
bO (abI .lss a1 (.lit (.int .i64 0))) fun v0 =>
bG v0 false fun w1 =>
gO w1 (some a2) fun v2 =>
bG v0 false fun w3 =>
gO w3 (abI .lss v2 (.lit (.int .i64 0))) fun v4 =>
bO (apick v0 (.lit (.bool true)) v4) fun v5 =>
bG v5 false fun w6 =>
gO w6 (some a2) fun v7 =>
bG v5 false fun w8 =>
gO w8 (abI .gtr v7 (.lit (.int .i64 4096))) fun v9 =>
bO (apick v5 (.lit (.bool true)) v9) fun v10 =>
bB v10 fun t11 => bI t11 (
K (.tup [(.lit (.slice none 0 0)), (.lit (.int .i64 5))]) H)
 (bO (anilCheck a0) fun v12 =>
bO (ashift 5 v12) fun v13 =>
bO (ald false 1 H v13) fun v14 =>
bO (anilCheck a0) fun v15 =>
bO (ashift 5 v15) fun v16 =>
bO (ald false 1 H v16) fun v17 =>
bO (abI .add v17 (.lit (.int .i64 1))) fun v18 =>
bO (anilCheck a0) fun v19 =>
bO (ashift 5 v19) fun v20 =>
bS (ast 1 H v20 v18) fun H21 =>
bO (anilCheck a0) fun v22 =>
bO (ashift 0 v22) fun v23 =>
bO (ashift 0 v23) fun v24 =>
bO (ald false 1 H21 v24) fun v25 =>
bO (alnS v25) fun v26 =>
bO (abI .sub v26 a1) fun v27 =>
bO (amm imx [v27, (.lit (.int .i64 0))]) fun v28 =>
bO (amm imn [a2, v28]) fun v29 =>
bO (anilCheck a0) fun v30 =>
bO (ashift 0 v30) fun v31 =>
bO (ashift 3 v31) fun v32 =>
bO (ald false 1 H21 v32) fun v33 =>
bO (alnS v33) fun v34 =>
bO (abI .lss v14 v34) fun v35 =>
bG v35 true fun w36 =>
gO w36 (some a0) fun v37 =>
bG v35 true fun w38 =>
gO w38 (anilCheck v37) fun v39 =>
bG v35 true fun w40 =>
gO w40 (ashift 0 v39) fun v41 =>
bG v35 true fun w42 =>
gO w42 (ashift 3 v41) fun v43 =>
bG v35 true fun w44 =>
gO w44 (ald false 1 H21 v43) fun v45 =>
bG v35 true fun w46 =>
gO w46 (some v14) fun v47 =>
bG v35 true fun w48 =>
gO w48 (aixS 1 v45 v47) fun v49 =>
bG v35 true fun w50 =>
gO w50 (ald false 1 H21 v49) fun v51 =>
bG v35 true fun w52 =>
gO w52 (abI .gtr v51 (.lit (.int .i64 0))) fun v53 =>
bO (apick v35 v53 (.lit (.bool false))) fun v54 =>
bB v54 fun t55 => bI t55 (
bO (anilCheck a0) fun v56 =>
bO (ashift 0 v56) fun v57 =>
bO (ashift 3 v57) fun v58 =>
bO (ald false 1 H21 v58) fun v59 =>
bO (aixS 1 v59 v14) fun v60 =>
bO (ald false 1 H21 v60) fun v61 =>
bO (amm imn [v29, v61]) fun v62 =>
salvorref6_Disk_Get_J7 a0 a1 v62 H21 K)
 (salvorref6_Disk_Get_J7 a0 a1 v29 H21 K))
theorem salvorref6_Disk_Get_eq (a0 a1 a2 : AV) (H : AH) (K : AV → AH → Prop) : sFun Try.prog salvorref6_Disk_Get_fl pql none0 none0 salvorref6_Disk_Get_kp Try.f19 [a0, a1, a2] H K = salvorref6_Disk_Get a0 a1 a2 H K := by kernel_rfl
theorem salvorref6_Disk_Get_ok {a0 a1 a2 : AV} {H : AH} {K : AV → AH → Prop} (h : salvorref6_Disk_Get a0 a1 a2 H K) : ∃ r H', K r H' ∧ BCall Try.prog 19 [a0, a1, a2] H r H' :=
  sFun_ok mixP Try.func19 (by kernel_rfl) (Eq.mpr (salvorref6_Disk_Get_eq a0 a1 a2 H K) h)
/-! salvor/salvorlaw10.bad -/
def salvorlaw10_bad_fl : Floats := flOf []
def salvorlaw10_bad_kp : Nat → Option (List Bool) := kpOf [(3, mk 20 0 [1, 2, 5])]
def salvorlaw10_bad_c (p : List Bool) (n : Nat) : List AV → AH → Kf → Prop := sCode Try.prog salvorlaw10_bad_fl pql none0 none0 salvorlaw10_bad_kp (sub p (bodyOf Try.f20)) n
def salvorlaw10_bad_L3 (x1 x2 x5 : AV) (H : AH) (K : AV → AH → Prop) : Prop := lp (mk 20 0 [1, 2, 5]) (salvorlaw10_bad_c [true, false, true, false, false] 4) [x1, x2, x5] H (kBlk 0 (kSeq (salvorlaw10_bad_c [true, true] 9) (kRet Try.prog Try.f20.results.toList K)))
def salvorlaw10_bad_L3_b (R3 : List AV → AH → Prop) (x1 x2 x5 : AV) (H : AH) (K : AV → AH → Prop) : Prop :=
bO (ashift 1 x2) fun v0 =>
bO (ald false 1 H v0) fun v1 =>
bO (alnS v1) fun v2 =>
bO (abI .lss x5 v2) fun v3 =>
bB v3 fun t4 => bI t4 (
bO (ashift 1 x2) fun v5 =>
bO (ald false 1 H v5) fun v6 =>
bO (aixS 1 v6 x5) fun v7 =>
bO (ald false 1 H v7) fun v8 =>
bO (abI .eql v8 x1) fun v9 =>
bB v9 fun t10 => bI t10 (
K (.lit (.bool true)) H)
 (bO (abI .add x5 (.lit (.int .i64 1))) fun v11 =>
R3 [x1, x2, v11] H))
 (K (.lit (.bool false)) H)
theorem salvorlaw10_bad_L3_eq (R3 : List AV → AH → Prop) (x1 x2 x5 : AV) (H : AH) (K : AV → AH → Prop) : salvorlaw10_bad_c [true, false, true, false, false] 4 (expand (mk 20 0 [1, 2, 5]) [x1, x2, x5]) H (kLp (mk 20 0 [1, 2, 5]) R3 (kBlk 0 (kSeq (salvorlaw10_bad_c [true, true] 9) (kRet Try.prog Try.f20.results.toList K)))) = salvorlaw10_bad_L3_b R3 x1 x2 x5 H K := by kernel_rfl
theorem salvorlaw10_bad_L3_rule {K : AV → AH → Prop} (I : Nat → AV → AV → AV → AH → Prop) (round : ∀ (n : Nat) (x1 x2 x5 : AV) (H : AH) (R : List AV → AH → Prop), (∀ (m : Nat) (y1 y2 y5 : AV) (H' : AH), m < n → I m y1 y2 y5 H' → R [y1, y2, y5] H') → I n x1 x2 x5 H → salvorlaw10_bad_L3_b R x1 x2 x5 H K) (n : Nat) {x1 x2 x5 : AV} {H : AH} (h : I n x1 x2 x5 H) : salvorlaw10_bad_L3 x1 x2 x5 H K := by
  refine lp_upto (sCode_one _ _) (LI3 I) ?_ n h
  intro n X H h
  obtain ⟨x1, x2, x5, rfl, h⟩ := h.elim
  exact Eq.mpr (salvorlaw10_bad_L3_eq _ x1 x2 x5 H K) (round n x1 x2 x5 H (fun X H' => ∃ m, m < n ∧ LI3 I m X H') (fun m y1 y2 y5 H' hm hi => ⟨m, hm, hi⟩) h)
def salvorlaw10_bad (a0 a1 : AV) (H : AH) (K : AV → AH → Prop) : Prop :=
bH (anew H a0) fun v0 H1 =>
salvorlaw10_bad_L3 a1 v0 (.lit (.int .i64 0)) H1 K
theorem salvorlaw10_bad_eq (a0 a1 : AV) (H : AH) (K : AV → AH → Prop) : sFun Try.prog salvorlaw10_bad_fl pql none0 none0 salvorlaw10_bad_kp Try.f20 [a0, a1] H K = salvorlaw10_bad a0 a1 H K := by kernel_rfl
theorem salvorlaw10_bad_ok {a0 a1 : AV} {H : AH} {K : AV → AH → Prop} (h : salvorlaw10_bad a0 a1 H K) : ∃ r H', K r H' ∧ BCall Try.prog 20 [a0, a1] H r H' :=
  sFun_ok mixP Try.func20 (by kernel_rfl) (Eq.mpr (salvorlaw10_bad_eq a0 a1 H K) h)
/-! slices.Clone[[]byte,byte] -/
def slices_Clone_Lbyte_byte_fl : Floats := flOf []
def slices_Clone_Lbyte_byte_kp : Nat → Option (List Bool) := kpOf []
def slices_Clone_Lbyte_byte_c (p : List Bool) (n : Nat) : List AV → AH → Kf → Prop := sCode Try.prog slices_Clone_Lbyte_byte_fl pql none0 none0 slices_Clone_Lbyte_byte_kp (sub p (bodyOf Try.f21)) n
def slices_Clone_Lbyte_byte (a0 : AV) (H : AH) (K : AV → AH → Prop) : Prop :=
bO (abN .eql nilS a0 (.lit (.slice none 0 0))) fun v0 =>
bB v0 fun t1 => bI t1 (
K (.lit (.slice none 0 0)) H)
 (bH (absl H 1 0 (zrow [(.lit (.int .u8 0))] 0) []) fun v2 H3 =>
bH (aap 1 1 H3 v2 a0) fun v4 H5 =>
K v4 H5)
theorem slices_Clone_Lbyte_byte_eq (a0 : AV) (H : AH) (K : AV → AH → Prop) : sFun Try.prog slices_Clone_Lbyte_byte_fl pql none0 none0 slices_Clone_Lbyte_byte_kp Try.f21 [a0] H K = slices_Clone_Lbyte_byte a0 H K := by kernel_rfl
theorem slices_Clone_Lbyte_byte_ok {a0 : AV} {H : AH} {K : AV → AH → Prop} (h : slices_Clone_Lbyte_byte a0 H K) : ∃ r H', K r H' ∧ BCall Try.prog 21 [a0] H r H' :=
  sFun_ok mixP Try.func21 (by kernel_rfl) (Eq.mpr (slices_Clone_Lbyte_byte_eq a0 H K) h)
/-! slices.Clone[[]int,int] -/
def slices_Clone_Lint_int_fl : Floats := flOf []
def slices_Clone_Lint_int_kp : Nat → Option (List Bool) := kpOf []
def slices_Clone_Lint_int_c (p : List Bool) (n : Nat) : List AV → AH → Kf → Prop := sCode Try.prog slices_Clone_Lint_int_fl pql none0 none0 slices_Clone_Lint_int_kp (sub p (bodyOf Try.f22)) n
def slices_Clone_Lint_int (a0 : AV) (H : AH) (K : AV → AH → Prop) : Prop :=
bO (abN .eql nilS a0 (.lit (.slice none 0 0))) fun v0 =>
bB v0 fun t1 => bI t1 (
K (.lit (.slice none 0 0)) H)
 (bH (absl H 1 0 (zrow [(.lit (.int .i64 0))] 0) []) fun v2 H3 =>
bH (aap 1 8 H3 v2 a0) fun v4 H5 =>
K v4 H5)
theorem slices_Clone_Lint_int_eq (a0 : AV) (H : AH) (K : AV → AH → Prop) : sFun Try.prog slices_Clone_Lint_int_fl pql none0 none0 slices_Clone_Lint_int_kp Try.f22 [a0] H K = slices_Clone_Lint_int a0 H K := by kernel_rfl
theorem slices_Clone_Lint_int_ok {a0 : AV} {H : AH} {K : AV → AH → Prop} (h : slices_Clone_Lint_int a0 H K) : ∃ r H', K r H' ∧ BCall Try.prog 22 [a0] H r H' :=
  sFun_ok mixP Try.func22 (by kernel_rfl) (Eq.mpr (slices_Clone_Lint_int_eq a0 H K) h)
/-! (*salvor/disk.Disk).asked -/
def disk_Disk_asked_fl : Floats := flOf []
def disk_Disk_asked_kp : Nat → Option (List Bool) := kpOf [(2, mk 53 0 [2])]
def disk_Disk_asked_c (p : List Bool) (n : Nat) : List AV → AH → Kf → Prop := sCode Try.prog disk_Disk_asked_fl pql none0 none0 disk_Disk_asked_kp (sub p (bodyOf Try.f23)) n
def disk_Disk_asked_J2 (x2 : AV) (H : AH) (K : AV → AH → Prop) : Prop := jn (mk 53 0 [2]) (disk_Disk_asked_c [true, true, true] 4) [x2] H (kRet Try.prog Try.f23.results.toList K)
def disk_Disk_asked_J2_b (x2 : AV) (H : AH) (K : AV → AH → Prop) : Prop :=
K x2 H
theorem disk_Disk_asked_J2_eq0 (x2 : AV) (H : AH) (K : AV → AH → Prop) : disk_Disk_asked_c [true, true, true] 4 (expand (mk 53 0 [2]) [x2]) H (kRet Try.prog Try.f23.results.toList K) = disk_Disk_asked_J2_b x2 H K := by kernel_rfl
theorem disk_Disk_asked_J2_eq (x2 : AV) (H : AH) (K : AV → AH → Prop) : disk_Disk_asked_J2 x2 H K = disk_Disk_asked_J2_b x2 H K := (jn_eq _ _ _ _ _).trans (disk_Disk_asked_J2_eq0 x2 H K)
def disk_Disk_asked (a0 a1 a2 : AV) (H : AH) (K : AV → AH → Prop) : Prop :=
bO (anilCheck a0) fun v0 =>
bO (ashift 0 v0) fun v1 =>
bO (ald false 1 H v1) fun v2 =>
bO (alnS v2) fun v3 =>
bO (abI .sub v3 a1) fun v4 =>
bO (amm imx [(.lit (.int .i64 0)), v4]) fun v5 =>
bO (amm imn [a2, v5]) fun v6 =>
bO (anilCheck a0) fun v7 =>
bO (ashift 4 v7) fun v8 =>
bO (ald false 1 H v8) fun v9 =>
bO (anilCheck a0) fun v10 =>
bO (ashift 3 v10) fun v11 =>
bO (ald false 1 H v11) fun v12 =>
bO (alnS v12) fun v13 =>
bO (abI .lss v9 v13) fun v14 =>
bG v14 true fun w15 =>
gO w15 (some a0) fun v16 =>
bG v14 true fun w17 =>
gO w17 (anilCheck v16) fun v18 =>
bG v14 true fun w19 =>
gO w19 (ashift 3 v18) fun v20 =>
bG v14 true fun w21 =>
gO w21 (ald false 1 H v20) fun v22 =>
bG v14 true fun w23 =>
gO w23 (some a0) fun v24 =>
bG v14 true fun w25 =>
gO w25 (anilCheck v24) fun v26 =>
bG v14 true fun w27 =>
gO w27 (ashift 4 v26) fun v28 =>
bG v14 true fun w29 =>
gO w29 (ald false 1 H v28) fun v30 =>
bG v14 true fun w31 =>
gO w31 (aixS 1 v22 v30) fun v32 =>
bG v14 true fun w33 =>
gO w33 (ald false 1 H v32) fun v34 =>
bG v14 true fun w35 =>
gO w35 (abI .gtr v34 (.lit (.int .i64 0))) fun v36 =>
bO (apick v14 v36 (.lit (.bool false))) fun v37 =>
bB v37 fun t38 => bI t38 (
bO (anilCheck a0) fun v39 =>
bO (ashift 3 v39) fun v40 =>
bO (ald false 1 H v40) fun v41 =>
bO (anilCheck a0) fun v42 =>
bO (ashift 4 v42) fun v43 =>
bO (ald false 1 H v43) fun v44 =>
bO (aixS 1 v41 v44) fun v45 =>
bO (ald false 1 H v45) fun v46 =>
bO (amm imn [v6, v46]) fun v47 =>
disk_Disk_asked_J2 v47 H K)
 (disk_Disk_asked_J2 v6 H K)
theorem disk_Disk_asked_eq (a0 a1 a2 : AV) (H : AH) (K : AV → AH → Prop) : sFun Try.prog disk_Disk_asked_fl pql none0 none0 disk_Disk_asked_kp Try.f23 [a0, a1, a2] H K = disk_Disk_asked a0 a1 a2 H K := by kernel_rfl
theorem disk_Disk_asked_ok {a0 a1 a2 : AV} {H : AH} {K : AV → AH → Prop} (h : disk_Disk_asked a0 a1 a2 H K) : ∃ r H', K r H' ∧ BCall Try.prog 23 [a0, a1, a2] H r H' :=
  sFun_ok mixP Try.func23 (by kernel_rfl) (Eq.mpr (disk_Disk_asked_eq a0 a1 a2 H K) h)
/-! (*salvor/disk.Disk).fails -/
def disk_Disk_fails_fl : Floats := flOf []
def disk_Disk_fails_kp : Nat → Option (List Bool) := kpOf []
def disk_Disk_fails_c (p : List Bool) (n : Nat) : List AV → AH → Kf → Prop := sCode Try.prog disk_Disk_fails_fl pql none0 none0 disk_Disk_fails_kp (sub p (bodyOf Try.f24)) n
def disk_Disk_fails (a0 a1 : AV) (H : AH) (K : AV → AH → Prop) : Prop :=
bO (anilCheck a0) fun v0 =>
bO (ashift 1 v0) fun v1 =>
bO (ald false 1 H v1) fun v2 =>
bO (alk (.int .i64) (.bool false) H v2 a1 false) fun v3 =>
bG v3 false fun w4 =>
gO w4 (some a0) fun v5 =>
bG v3 false fun w6 =>
gO w6 (anilCheck v5) fun v7 =>
bG v3 false fun w8 =>
gO w8 (ashift 2 v7) fun v9 =>
bG v3 false fun w10 =>
gO w10 (ald false 1 H v9) fun v11 =>
bG v3 false fun w12 =>
gO w12 (some a1) fun v13 =>
bG v3 false fun w14 =>
gO w14 (alk (.int .i64) (.int .i64 0) H v11 v13 false) fun v15 =>
bG v3 false fun w16 =>
gO w16 (abI .gtr v15 (.lit (.int .i64 0))) fun v17 =>
bO (apick v3 (.lit (.bool true)) v17) fun v18 =>
K v18 H
theorem disk_Disk_fails_eq (a0 a1 : AV) (H : AH) (K : AV → AH → Prop) : sFun Try.prog disk_Disk_fails_fl pql none0 none0 disk_Disk_fails_kp Try.f24 [a0, a1] H K = disk_Disk_fails a0 a1 H K := by kernel_rfl
theorem disk_Disk_fails_ok {a0 a1 : AV} {H : AH} {K : AV → AH → Prop} (h : disk_Disk_fails a0 a1 H K) : ∃ r H', K r H' ∧ BCall Try.prog 24 [a0, a1] H r H' :=
  sFun_ok mixP Try.func24 (by kernel_rfl) (Eq.mpr (disk_Disk_fails_eq a0 a1 H K) h)
/-! (*salvor/disk.Disk).sectors -/
def disk_Disk_sectors_fl : Floats := flOf []
def disk_Disk_sectors_kp : Nat → Option (List Bool) := kpOf []
def disk_Disk_sectors_c (p : List Bool) (n : Nat) : List AV → AH → Kf → Prop := sCode Try.prog disk_Disk_sectors_fl pql none0 none0 disk_Disk_sectors_kp (sub p (bodyOf Try.f25)) n
def disk_Disk_sectors (a0 : AV) (H : AH) (K : AV → AH → Prop) : Prop :=
bO (anilCheck a0) fun v0 =>
bO (ashift 0 v0) fun v1 =>
bO (ald false 1 H v1) fun v2 =>
bO (alnS v2) fun v3 =>
bO (abI .add v3 (.lit (.int .i64 8))) fun v4 =>
bO (abI .sub v4 (.lit (.int .i64 1))) fun v5 =>
bO (abI .quo v5 (.lit (.int .i64 8))) fun v6 =>
K v6 H
theorem disk_Disk_sectors_eq (a0 : AV) (H : AH) (K : AV → AH → Prop) : sFun Try.prog disk_Disk_sectors_fl pql none0 none0 disk_Disk_sectors_kp Try.f25 [a0] H K = disk_Disk_sectors a0 H K := by kernel_rfl
theorem disk_Disk_sectors_ok {a0 : AV} {H : AH} {K : AV → AH → Prop} (h : disk_Disk_sectors a0 H K) : ∃ r H', K r H' ∧ BCall Try.prog 25 [a0] H r H' :=
  sFun_ok mixP Try.func25 (by kernel_rfl) (Eq.mpr (disk_Disk_sectors_eq a0 H K) h)
/-! (*salvor/salvorref6.Disk).Bad -/
def salvorref6_Disk_Bad_fl : Floats := flOf []
def salvorref6_Disk_Bad_kp : Nat → Option (List Bool) := kpOf [(3, mk 26 0 [0, 1, 5])]
def salvorref6_Disk_Bad_c (p : List Bool) (n : Nat) : List AV → AH → Kf → Prop := sCode Try.prog salvorref6_Disk_Bad_fl pql none0 none0 salvorref6_Disk_Bad_kp (sub p (bodyOf Try.f26)) n
def salvorref6_Disk_Bad_L3 (x0 x1 x5 : AV) (H : AH) (K : AV → AH → Prop) : Prop := lp (mk 26 0 [0, 1, 5]) (salvorref6_Disk_Bad_c [true, false, true, false, false] 4) [x0, x1, x5] H (kBlk 0 (kSeq (salvorref6_Disk_Bad_c [true, true] 9) (kRet Try.prog Try.f26.results.toList K)))
def salvorref6_Disk_Bad_L3_b (R3 : List AV → AH → Prop) (x0 x1 x5 : AV) (H : AH) (K : AV → AH → Prop) : Prop :=
bO (anilCheck x0) fun v0 =>
bO (ashift 0 v0) fun v1 =>
bO (ashift 1 v1) fun v2 =>
bO (ald false 1 H v2) fun v3 =>
bO (alnS v3) fun v4 =>
bO (abI .lss x5 v4) fun v5 =>
bB v5 fun t6 => bI t6 (
bO (anilCheck x0) fun v7 =>
bO (ashift 0 v7) fun v8 =>
bO (ashift 1 v8) fun v9 =>
bO (ald false 1 H v9) fun v10 =>
bO (aixS 1 v10 x5) fun v11 =>
bO (ald false 1 H v11) fun v12 =>
bO (abI .eql v12 x1) fun v13 =>
bB v13 fun t14 => bI t14 (
K (.lit (.bool true)) H)
 (bO (abI .add x5 (.lit (.int .i64 1))) fun v15 =>
R3 [x0, x1, v15] H))
 (K (.lit (.bool false)) H)
theorem salvorref6_Disk_Bad_L3_eq (R3 : List AV → AH → Prop) (x0 x1 x5 : AV) (H : AH) (K : AV → AH → Prop) : salvorref6_Disk_Bad_c [true, false, true, false, false] 4 (expand (mk 26 0 [0, 1, 5]) [x0, x1, x5]) H (kLp (mk 26 0 [0, 1, 5]) R3 (kBlk 0 (kSeq (salvorref6_Disk_Bad_c [true, true] 9) (kRet Try.prog Try.f26.results.toList K)))) = salvorref6_Disk_Bad_L3_b R3 x0 x1 x5 H K := by kernel_rfl
theorem salvorref6_Disk_Bad_L3_rule {K : AV → AH → Prop} (I : Nat → AV → AV → AV → AH → Prop) (round : ∀ (n : Nat) (x0 x1 x5 : AV) (H : AH) (R : List AV → AH → Prop), (∀ (m : Nat) (y0 y1 y5 : AV) (H' : AH), m < n → I m y0 y1 y5 H' → R [y0, y1, y5] H') → I n x0 x1 x5 H → salvorref6_Disk_Bad_L3_b R x0 x1 x5 H K) (n : Nat) {x0 x1 x5 : AV} {H : AH} (h : I n x0 x1 x5 H) : salvorref6_Disk_Bad_L3 x0 x1 x5 H K := by
  refine lp_upto (sCode_one _ _) (LI3 I) ?_ n h
  intro n X H h
  obtain ⟨x0, x1, x5, rfl, h⟩ := h.elim
  exact Eq.mpr (salvorref6_Disk_Bad_L3_eq _ x0 x1 x5 H K) (round n x0 x1 x5 H (fun X H' => ∃ m, m < n ∧ LI3 I m X H') (fun m y0 y1 y5 H' hm hi => ⟨m, hm, hi⟩) h)
def salvorref6_Disk_Bad (a0 a1 : AV) (H : AH) (K : AV → AH → Prop) : Prop :=
salvorref6_Disk_Bad_L3 a0 a1 (.lit (.int .i64 0)) H K
theorem salvorref6_Disk_Bad_eq (a0 a1 : AV) (H : AH) (K : AV → AH → Prop) : sFun Try.prog salvorref6_Disk_Bad_fl pql none0 none0 salvorref6_Disk_Bad_kp Try.f26 [a0, a1] H K = salvorref6_Disk_Bad a0 a1 H K := by kernel_rfl
theorem salvorref6_Disk_Bad_ok {a0 a1 : AV} {H : AH} {K : AV → AH → Prop} (h : salvorref6_Disk_Bad a0 a1 H K) : ∃ r H', K r H' ∧ BCall Try.prog 26 [a0, a1] H r H' :=
  sFun_ok mixP Try.func26 (by kernel_rfl) (Eq.mpr (salvorref6_Disk_Bad_eq a0 a1 H K) h)
/-! salvor/disk.May$1 -/
def disk_May_1_fl : Floats := flOf []
def disk_May_1_kp : Nat → Option (List Bool) := kpOf []
def disk_May_1_c (p : List Bool) (n : Nat) : List AV → AH → Kf → Prop := sCode Try.prog disk_May_1_fl pql none0 none0 disk_May_1_kp (sub p (bodyOf Try.f27)) n
def disk_May_1 (a0 : AV) (H : AH) (K : AV → AH → Prop) : Prop :=
bO (abI .lss a0 (.lit (.int .i64 0))) fun v0 =>
K v0 H
theorem disk_May_1_eq (a0 : AV) (H : AH) (K : AV → AH → Prop) : sFun Try.prog disk_May_1_fl pql none0 none0 disk_May_1_kp Try.f27 [a0] H K = disk_May_1 a0 H K := by kernel_rfl
theorem disk_May_1_ok {a0 : AV} {H : AH} {K : AV → AH → Prop} (h : disk_May_1 a0 H K) : ∃ r H', K r H' ∧ BCall Try.prog 27 [a0] H r H' :=
  sFun_ok mixP Try.func27 (by kernel_rfl) (Eq.mpr (disk_May_1_eq a0 H K) h)
/-! salvor/disk.May$2 -/
def disk_May_2_fl : Floats := flOf []
def disk_May_2_kp : Nat → Option (List Bool) := kpOf []
def disk_May_2_c (p : List Bool) (n : Nat) : List AV → AH → Kf → Prop := sCode Try.prog disk_May_2_fl pql none0 none0 disk_May_2_kp (sub p (bodyOf Try.f28)) n
def disk_May_2 (a0 : AV) (H : AH) (K : AV → AH → Prop) : Prop :=
bH (anew H a0) fun v0 H1 =>
bO (ashift 0 v0) fun v2 =>
bO (ald false 1 H1 v2) fun v3 =>
bO (abI .lss v3 (.lit (.int .i64 0))) fun v4 =>
bG v4 false fun w5 =>
gO w5 (ashift 1 v0) fun v6 =>
bG v4 false fun w7 =>
gO w7 (ald false 1 H1 v6) fun v8 =>
bG v4 false fun w9 =>
gO w9 (abI .lss v8 (.lit (.int .i64 0))) fun v10 =>
bO (apick v4 (.lit (.bool true)) v10) fun v11 =>
bG v11 false fun w12 =>
gO w12 (ashift 1 v0) fun v13 =>
bG v11 false fun w14 =>
gO w14 (ald false 1 H1 v13) fun v15 =>
bG v11 false fun w16 =>
gO w16 (abI .gtr v15 (.lit (.int .i64 20))) fun v17 =>
bO (apick v11 (.lit (.bool true)) v17) fun v18 =>
K v18 H1
theorem disk_May_2_eq (a0 : AV) (H : AH) (K : AV → AH → Prop) : sFun Try.prog disk_May_2_fl pql none0 none0 disk_May_2_kp Try.f28 [a0] H K = disk_May_2 a0 H K := by kernel_rfl
theorem disk_May_2_ok {a0 : AV} {H : AH} {K : AV → AH → Prop} (h : disk_May_2 a0 H K) : ∃ r H', K r H' ∧ BCall Try.prog 28 [a0] H r H' :=
  sFun_ok mixP Try.func28 (by kernel_rfl) (Eq.mpr (disk_May_2_eq a0 H K) h)
/-! slices.ContainsFunc[[]int,int] -/
def slices_ContainsFunc_Lint_int_fl : Floats := flOf []
def slices_ContainsFunc_Lint_int_kp : Nat → Option (List Bool) := kpOf []
def slices_ContainsFunc_Lint_int_c (p : List Bool) (n : Nat) : List AV → AH → Kf → Prop := sCode Try.prog slices_ContainsFunc_Lint_int_fl pql none0 none0 slices_ContainsFunc_Lint_int_kp (sub p (bodyOf Try.f29)) n
def slices_ContainsFunc_Lint_int (a0 a1 : AV) (H : AH) (K : AV → AH → Prop) : Prop :=
bC (BCall Try.prog 31 [a0, a1] H) fun v0 H1 =>
bO (abI .geq v0 (.lit (.int .i64 0))) fun v2 =>
K v2 H1
theorem slices_ContainsFunc_Lint_int_eq (a0 a1 : AV) (H : AH) (K : AV → AH → Prop) : sFun Try.prog slices_ContainsFunc_Lint_int_fl pql none0 none0 slices_ContainsFunc_Lint_int_kp Try.f29 [a0, a1] H K = slices_ContainsFunc_Lint_int a0 a1 H K := by kernel_rfl
theorem slices_ContainsFunc_Lint_int_ok {a0 a1 : AV} {H : AH} {K : AV → AH → Prop} (h : slices_ContainsFunc_Lint_int a0 a1 H K) : ∃ r H', K r H' ∧ BCall Try.prog 29 [a0, a1] H r H' :=
  sFun_ok mixP Try.func29 (by kernel_rfl) (Eq.mpr (slices_ContainsFunc_Lint_int_eq a0 a1 H K) h)
/-! slices.ContainsFunc[[]salvor/api.Soft,salvor/api.Soft] -/
def slices_ContainsFunc_Lapi_Soft_api_Soft_fl : Floats := flOf []
def slices_ContainsFunc_Lapi_Soft_api_Soft_kp : Nat → Option (List Bool) := kpOf []
def slices_ContainsFunc_Lapi_Soft_api_Soft_c (p : List Bool) (n : Nat) : List AV → AH → Kf → Prop := sCode Try.prog slices_ContainsFunc_Lapi_Soft_api_Soft_fl pql none0 none0 slices_ContainsFunc_Lapi_Soft_api_Soft_kp (sub p (bodyOf Try.f30)) n
def slices_ContainsFunc_Lapi_Soft_api_Soft (a0 a1 : AV) (H : AH) (K : AV → AH → Prop) : Prop :=
bC (BCall Try.prog 32 [a0, a1] H) fun v0 H1 =>
bO (abI .geq v0 (.lit (.int .i64 0))) fun v2 =>
K v2 H1
theorem slices_ContainsFunc_Lapi_Soft_api_Soft_eq (a0 a1 : AV) (H : AH) (K : AV → AH → Prop) : sFun Try.prog slices_ContainsFunc_Lapi_Soft_api_Soft_fl pql none0 none0 slices_ContainsFunc_Lapi_Soft_api_Soft_kp Try.f30 [a0, a1] H K = slices_ContainsFunc_Lapi_Soft_api_Soft a0 a1 H K := by kernel_rfl
theorem slices_ContainsFunc_Lapi_Soft_api_Soft_ok {a0 a1 : AV} {H : AH} {K : AV → AH → Prop} (h : slices_ContainsFunc_Lapi_Soft_api_Soft a0 a1 H K) : ∃ r H', K r H' ∧ BCall Try.prog 30 [a0, a1] H r H' :=
  sFun_ok mixP Try.func30 (by kernel_rfl) (Eq.mpr (slices_ContainsFunc_Lapi_Soft_api_Soft_eq a0 a1 H K) h)
/-! slices.IndexFunc[[]int,int] -/
def slices_IndexFunc_Lint_int_fl : Floats := flOf []
def slices_IndexFunc_Lint_int_kp : Nat → Option (List Bool) := kpOf [(3, mk 19 0 [0, 1, 7, 8])]
def slices_IndexFunc_Lint_int_c (p : List Bool) (n : Nat) : List AV → AH → Kf → Prop := sCode Try.prog slices_IndexFunc_Lint_int_fl pql none0 none0 slices_IndexFunc_Lint_int_kp (sub p (bodyOf Try.f31)) n
def slices_IndexFunc_Lint_int_L3 (x0 x1 x7 x8 : AV) (H : AH) (K : AV → AH → Prop) : Prop := lp (mk 19 0 [0, 1, 7, 8]) (slices_IndexFunc_Lint_int_c [true, false, true, false, false] 4) [x0, x1, x7, x8] H (kBlk 0 (kSeq (slices_IndexFunc_Lint_int_c [true, true] 10) (kRet Try.prog Try.f31.results.toList K)))
def slices_IndexFunc_Lint_int_L3_b (R3 : List AV → AH → Prop) (x0 x1 x7 x8 : AV) (H : AH) (K : AV → AH → Prop) : Prop :=
bO (abI .lss x8 x7) fun v0 =>
bB v0 fun t1 => bI t1 (
bO (aixS 1 x0 x8) fun v2 =>
bO (ald false 1 H v2) fun v3 =>
bF true x1 fun k6 f6 c6 =>
bT (goFunc Try.prog k6 || !true) <|
bC (BCall Try.prog k6 (f6 ++ [v3] ++ c6) H) fun v4 H5 =>
bB v4 fun t7 => bI t7 (
K x8 H5)
 (bO (abI .add x8 (.lit (.int .i64 1))) fun v8 =>
R3 [x0, x1, x7, v8] H5))
 (K (.lit (.int .i64 (-1))) H)
theorem slices_IndexFunc_Lint_int_L3_eq (R3 : List AV → AH → Prop) (x0 x1 x7 x8 : AV) (H : AH) (K : AV → AH → Prop) : slices_IndexFunc_Lint_int_c [true, false, true, false, false] 4 (expand (mk 19 0 [0, 1, 7, 8]) [x0, x1, x7, x8]) H (kLp (mk 19 0 [0, 1, 7, 8]) R3 (kBlk 0 (kSeq (slices_IndexFunc_Lint_int_c [true, true] 10) (kRet Try.prog Try.f31.results.toList K)))) = slices_IndexFunc_Lint_int_L3_b R3 x0 x1 x7 x8 H K := by kernel_rfl
theorem slices_IndexFunc_Lint_int_L3_rule {K : AV → AH → Prop} (I : Nat → AV → AV → AV → AV → AH → Prop) (round : ∀ (n : Nat) (x0 x1 x7 x8 : AV) (H : AH) (R : List AV → AH → Prop), (∀ (m : Nat) (y0 y1 y7 y8 : AV) (H' : AH), m < n → I m y0 y1 y7 y8 H' → R [y0, y1, y7, y8] H') → I n x0 x1 x7 x8 H → slices_IndexFunc_Lint_int_L3_b R x0 x1 x7 x8 H K) (n : Nat) {x0 x1 x7 x8 : AV} {H : AH} (h : I n x0 x1 x7 x8 H) : slices_IndexFunc_Lint_int_L3 x0 x1 x7 x8 H K := by
  refine lp_upto (sCode_one _ _) (LI4 I) ?_ n h
  intro n X H h
  obtain ⟨x0, x1, x7, x8, rfl, h⟩ := h.elim
  exact Eq.mpr (slices_IndexFunc_Lint_int_L3_eq _ x0 x1 x7 x8 H K) (round n x0 x1 x7 x8 H (fun X H' => ∃ m, m < n ∧ LI4 I m X H') (fun m y0 y1 y7 y8 H' hm hi => ⟨m, hm, hi⟩) h)
def slices_IndexFunc_Lint_int (a0 a1 : AV) (H : AH) (K : AV → AH → Prop) : Prop :=
bO (alnS a0) fun v0 =>
slices_IndexFunc_Lint_int_L3 a0 a1 v0 (.lit (.int .i64 0)) H K
theorem slices_IndexFunc_Lint_int_eq (a0 a1 : AV) (H : AH) (K : AV → AH → Prop) : sFun Try.prog slices_IndexFunc_Lint_int_fl pql none0 none0 slices_IndexFunc_Lint_int_kp Try.f31 [a0, a1] H K = slices_IndexFunc_Lint_int a0 a1 H K := by kernel_rfl
theorem slices_IndexFunc_Lint_int_ok {a0 a1 : AV} {H : AH} {K : AV → AH → Prop} (h : slices_IndexFunc_Lint_int a0 a1 H K) : ∃ r H', K r H' ∧ BCall Try.prog 31 [a0, a1] H r H' :=
  sFun_ok mixP Try.func31 (by kernel_rfl) (Eq.mpr (slices_IndexFunc_Lint_int_eq a0 a1 H K) h)
/-! slices.IndexFunc[[]salvor/api.Soft,salvor/api.Soft] -/
def slices_IndexFunc_Lapi_Soft_api_Soft_fl : Floats := flOf []
def slices_IndexFunc_Lapi_Soft_api_Soft_kp : Nat → Option (List Bool) := kpOf [(3, mk 19 0 [0, 1, 7, 8])]
def slices_IndexFunc_Lapi_Soft_api_Soft_c (p : List Bool) (n : Nat) : List AV → AH → Kf → Prop := sCode Try.prog slices_IndexFunc_Lapi_Soft_api_Soft_fl pql none0 none0 slices_IndexFunc_Lapi_Soft_api_Soft_kp (sub p (bodyOf Try.f32)) n
def slices_IndexFunc_Lapi_Soft_api_Soft_L3 (x0 x1 x7 x8 : AV) (H : AH) (K : AV → AH → Prop) : Prop := lp (mk 19 0 [0, 1, 7, 8]) (slices_IndexFunc_Lapi_Soft_api_Soft_c [true, false, true, false, false] 4) [x0, x1, x7, x8] H (kBlk 0 (kSeq (slices_IndexFunc_Lapi_Soft_api_Soft_c [true, true] 10) (kRet Try.prog Try.f32.results.toList K)))
def slices_IndexFunc_Lapi_Soft_api_Soft_L3_b (R3 : List AV → AH → Prop) (x0 x1 x7 x8 : AV) (H : AH) (K : AV → AH → Prop) : Prop :=
bO (abI .lss x8 x7) fun v0 =>
bB v0 fun t1 => bI t1 (
bO (aixS 2 x0 x8) fun v2 =>
bO (ald true 2 H v2) fun v3 =>
bF true x1 fun k6 f6 c6 =>
bT (goFunc Try.prog k6 || !true) <|
bC (BCall Try.prog k6 (f6 ++ [v3] ++ c6) H) fun v4 H5 =>
bB v4 fun t7 => bI t7 (
K x8 H5)
 (bO (abI .add x8 (.lit (.int .i64 1))) fun v8 =>
R3 [x0, x1, x7, v8] H5))
 (K (.lit (.int .i64 (-1))) H)
theorem slices_IndexFunc_Lapi_Soft_api_Soft_L3_eq (R3 : List AV → AH → Prop) (x0 x1 x7 x8 : AV) (H : AH) (K : AV → AH → Prop) : slices_IndexFunc_Lapi_Soft_api_Soft_c [true, false, true, false, false] 4 (expand (mk 19 0 [0, 1, 7, 8]) [x0, x1, x7, x8]) H (kLp (mk 19 0 [0, 1, 7, 8]) R3 (kBlk 0 (kSeq (slices_IndexFunc_Lapi_Soft_api_Soft_c [true, true] 10) (kRet Try.prog Try.f32.results.toList K)))) = slices_IndexFunc_Lapi_Soft_api_Soft_L3_b R3 x0 x1 x7 x8 H K := by kernel_rfl
theorem slices_IndexFunc_Lapi_Soft_api_Soft_L3_rule {K : AV → AH → Prop} (I : Nat → AV → AV → AV → AV → AH → Prop) (round : ∀ (n : Nat) (x0 x1 x7 x8 : AV) (H : AH) (R : List AV → AH → Prop), (∀ (m : Nat) (y0 y1 y7 y8 : AV) (H' : AH), m < n → I m y0 y1 y7 y8 H' → R [y0, y1, y7, y8] H') → I n x0 x1 x7 x8 H → slices_IndexFunc_Lapi_Soft_api_Soft_L3_b R x0 x1 x7 x8 H K) (n : Nat) {x0 x1 x7 x8 : AV} {H : AH} (h : I n x0 x1 x7 x8 H) : slices_IndexFunc_Lapi_Soft_api_Soft_L3 x0 x1 x7 x8 H K := by
  refine lp_upto (sCode_one _ _) (LI4 I) ?_ n h
  intro n X H h
  obtain ⟨x0, x1, x7, x8, rfl, h⟩ := h.elim
  exact Eq.mpr (slices_IndexFunc_Lapi_Soft_api_Soft_L3_eq _ x0 x1 x7 x8 H K) (round n x0 x1 x7 x8 H (fun X H' => ∃ m, m < n ∧ LI4 I m X H') (fun m y0 y1 y7 y8 H' hm hi => ⟨m, hm, hi⟩) h)
def slices_IndexFunc_Lapi_Soft_api_Soft (a0 a1 : AV) (H : AH) (K : AV → AH → Prop) : Prop :=
bO (alnS a0) fun v0 =>
slices_IndexFunc_Lapi_Soft_api_Soft_L3 a0 a1 v0 (.lit (.int .i64 0)) H K
theorem slices_IndexFunc_Lapi_Soft_api_Soft_eq (a0 a1 : AV) (H : AH) (K : AV → AH → Prop) : sFun Try.prog slices_IndexFunc_Lapi_Soft_api_Soft_fl pql none0 none0 slices_IndexFunc_Lapi_Soft_api_Soft_kp Try.f32 [a0, a1] H K = slices_IndexFunc_Lapi_Soft_api_Soft a0 a1 H K := by kernel_rfl
theorem slices_IndexFunc_Lapi_Soft_api_Soft_ok {a0 a1 : AV} {H : AH} {K : AV → AH → Prop} (h : slices_IndexFunc_Lapi_Soft_api_Soft a0 a1 H K) : ∃ r H', K r H' ∧ BCall Try.prog 32 [a0, a1] H r H' :=
  sFun_ok mixP Try.func32 (by kernel_rfl) (Eq.mpr (slices_IndexFunc_Lapi_Soft_api_Soft_eq a0 a1 H K) h)
end Go.Proofs.Ythgkepaadkmhoaa.Av
