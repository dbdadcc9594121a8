/- Formulas of functions of the program: printed by a program of this session (wip/tools/Pr.lean.txt), each checked by the kernel. -/
import Derived.Test.YtmokogdcikdlfaaAvG
import Derived.Test.YtmokogdcikdlfaaAvZ
set_option linter.unusedVariables false
set_option maxRecDepth 100000
namespace Go.Proofs.Ytmokogdcikdlfaa.Av
open Go
def pql : FuncId → Bool := inL [3,12]
theorem mixP : Try.prog.follows .mixedOrders = true := by kernel_rfl
/-! salvor/salvorlaw4.FifoRuns -/
def salvorlaw4_FifoRuns_fl : Floats := flOf []
def salvorlaw4_FifoRuns_kp : Nat → Option (List Bool) := kpOf []
def salvorlaw4_FifoRuns_c (p : List Bool) (n : Nat) : List AV → AH → Kf → Prop := sCode Try.prog salvorlaw4_FifoRuns_fl pql salvorlaw4_FifoRuns_kp (sub p (bodyOf Try.f3)) n
def salvorlaw4_FifoRuns (H : AH) (K : AV → AH → Prop) : Prop :=
 bC (BCall Try.prog 7 [(.lit (.int .i64 3))] H) fun v0 H1 =>
 bO (abN .eql nilP v0 (.lit (.pointer none))) fun v2 =>
 bB v2 fun t3 => bI t3 (
 K (.lit (.bool false)) H1)
 (bH (absl H1 1 2 (zrow [(.lit (.int .u8 0))] 2) [(0, 1, (.lit (.int .u8 1))), (1, 1, (.lit (.int .u8 2)))]) fun v4 H5 =>
 bH (absl H5 1 2 (zrow [(.lit (.int .u8 0))] 2) [(0, 1, (.lit (.int .u8 3))), (1, 1, (.lit (.int .u8 4)))]) fun v6 H7 =>
 bH (absl H7 1 2 (zrow [(.lit (.slice none 0 0))] 2) [(0, 1, v4), (1, 1, v6)]) fun v8 H9 =>
 bC (BCall Try.prog 8 [v0, v8] H9) fun v10 H11 =>
 bC (BCall Try.prog 9 [v0] H11) fun v12 H13 =>
 bO (aextract v12 0) fun v14 =>
 bO (aextract v12 1) fun v15 =>
 bC (BCall Try.prog 9 [v0] H13) fun v16 H17 =>
 bO (aextract v16 0) fun v18 =>
 bO (aextract v16 1) fun v19 =>
 bO (acB H17 v14) fun v20 =>
 bO (abT .eql v20 (.lit (.string ⟨#[1, 2, 3]⟩))) fun v21 =>
 bG v21 true fun w22 =>
 gO w22 (some v15) fun v23 =>
 bO (apick v21 v23 (.lit (.bool false))) fun v24 =>
 bG v24 true fun w25 =>
 gO w25 (some v19) fun v26 =>
 bG v24 true fun w27 =>
 gO w27 (aun .not v26) fun v28 =>
 bO (apick v24 v28 (.lit (.bool false))) fun v29 =>
 bG v29 true fun w30 =>
 gO w30 (some v0) fun v31 =>
 bG v29 true fun w32 =>
 gC w32 (BCall Try.prog 10 [v31] H17) H17 fun v33 H34 =>
 bG v29 true fun w35 =>
 gO w35 (abI .eql v33 (.lit (.int .i64 1))) fun v36 =>
 bO (apick v29 v36 (.lit (.bool false))) fun v37 =>
 bG v37 true fun w38 =>
 gO w38 (some v0) fun v39 =>
 bG v37 true fun w40 =>
 gC w40 (BCall Try.prog 11 [v39] H34) H34 fun v41 H42 =>
 bG v37 true fun w43 =>
 gO w43 (acB H42 v41) fun v44 =>
 bG v37 true fun w45 =>
 gO w45 (abT .eql v44 (.lit (.string ⟨#[4]⟩))) fun v46 =>
 bO (apick v37 v46 (.lit (.bool false))) fun v47 =>
 bG v47 true fun w48 =>
 gO w48 (some v0) fun v49 =>
 bG v47 true fun w50 =>
 gC w50 (BCall Try.prog 10 [v49] H42) H42 fun v51 H52 =>
 bG v47 true fun w53 =>
 gO w53 (abI .eql v51 (.lit (.int .i64 0))) fun v54 =>
 bO (apick v47 v54 (.lit (.bool false))) fun v55 =>
 K v55 H52)
theorem salvorlaw4_FifoRuns_eq (H : AH) (K : AV → AH → Prop) : sFun Try.prog salvorlaw4_FifoRuns_fl pql salvorlaw4_FifoRuns_kp Try.f3 [] H K = salvorlaw4_FifoRuns H K := by kernel_rfl
theorem salvorlaw4_FifoRuns_ok {H : AH} {K : AV → AH → Prop} (h : salvorlaw4_FifoRuns H K) : ∃ r H', K r H' ∧ BCall Try.prog 3 [] H r H' :=
  sFun_ok mixP Try.func3 (by kernel_rfl) (Eq.mpr (salvorlaw4_FifoRuns_eq H K) h)
/-! salvor/salvorlaw4.FifoPlays -/
def salvorlaw4_FifoPlays_fl : Floats := flOf [(10, [(2, some 4)]), (22, [(5, none), (6, none)])]
def salvorlaw4_FifoPlays_kp : Nat → Option (List Bool) := kpOf [(25, mk 102 0 [1, 5, 6, 7, 40]), (23, mk 102 0 [1, 5, 6, 7, 92]), (22, mk 102 0 [1, 5, 6, 7, 8, 9, 10, 11]), (21, mk 102 0 [1, 5, 6, 7, 8, 9]), (20, mk 102 0 [1, 5, 6, 7, 71]), (13, mk 102 0 [1, 5, 6, 7]), (27, mk 102 0 [1, 5, 6, 7, 100]), (14, mk 102 0 [1, 5, 6, 7]), (19, mk 102 0 [1, 5, 6, 7]), (18, mk 102 0 [1, 5, 6, 7]), (16, mk 102 0 [1, 5, 6, 7, 33, 41]), (10, mk 102 0 [1, 5, 6, 7])]
def salvorlaw4_FifoPlays_c (p : List Bool) (n : Nat) : List AV → AH → Kf → Prop := sCode Try.prog salvorlaw4_FifoPlays_fl pql salvorlaw4_FifoPlays_kp (sub p (bodyOf Try.f4)) n
def salvorlaw4_FifoPlays_J13 (R10 : List AV → AH → Prop) (x1 x5 x6 x7 : AV) (H : AH) (K : AV → AH → Prop) : Prop := jn (mk 102 0 [1, 5, 6, 7]) (salvorlaw4_FifoPlays_c [true, true, true, true, false, true, false, false, true, true] 29) [x1, x5, x6, x7] H (kLp (mk 102 0 [1, 5, 6, 7]) R10 (kBlk 0 (kSeq (salvorlaw4_FifoPlays_c [true, true, true, true, true] 29) (kRet Try.prog Try.f4.results.toList K))))
def salvorlaw4_FifoPlays_J27 (R10 : List AV → AH → Prop) (x1 x5 x6 x7 x100 : AV) (H : AH) (K : AV → AH → Prop) : Prop := jn (mk 102 0 [1, 5, 6, 7, 100]) (salvorlaw4_FifoPlays_c [true, true, true, true, false, true, false, false, true, false, false, true, true] 28) [x1, x5, x6, x7, x100] H (kBlk 1 (kSeq (cutC (mk 102 0 [1, 5, 6, 7]) (salvorlaw4_FifoPlays_c [true, true, true, true, false, true, false, false, true, true] 29)) (kLp (mk 102 0 [1, 5, 6, 7]) R10 (kBlk 0 (kSeq (salvorlaw4_FifoPlays_c [true, true, true, true, true] 29) (kRet Try.prog Try.f4.results.toList K))))))
def salvorlaw4_FifoPlays_J14 (R10 : List AV → AH → Prop) (x1 x5 x6 x7 : AV) (H : AH) (K : AV → AH → Prop) : Prop := jn (mk 102 0 [1, 5, 6, 7]) (salvorlaw4_FifoPlays_c [true, true, true, true, false, true, false, false, true, false, false, true] 27) [x1, x5, x6, x7] H (kBlk 1 (kSeq (cutC (mk 102 0 [1, 5, 6, 7]) (salvorlaw4_FifoPlays_c [true, true, true, true, false, true, false, false, true, true] 29)) (kLp (mk 102 0 [1, 5, 6, 7]) R10 (kBlk 0 (kSeq (salvorlaw4_FifoPlays_c [true, true, true, true, true] 29) (kRet Try.prog Try.f4.results.toList K))))))
def salvorlaw4_FifoPlays_J19 (R10 : List AV → AH → Prop) (x1 x5 x6 x7 : AV) (H : AH) (K : AV → AH → Prop) : Prop := jn (mk 102 0 [1, 5, 6, 7]) (salvorlaw4_FifoPlays_c [true, true, true, true, false, true, false, false, true, false, false, false, true, false, true, false, true, true] 20) [x1, x5, x6, x7] H (kBlk 2 (kSeq (cutC (mk 102 0 [1, 5, 6, 7]) (salvorlaw4_FifoPlays_c [true, true, true, true, false, true, false, false, true, false, false, true] 27)) (kBlk 1 (kSeq (cutC (mk 102 0 [1, 5, 6, 7]) (salvorlaw4_FifoPlays_c [true, true, true, true, false, true, false, false, true, true] 29)) (kLp (mk 102 0 [1, 5, 6, 7]) R10 (kBlk 0 (kSeq (salvorlaw4_FifoPlays_c [true, true, true, true, true] 29) (kRet Try.prog Try.f4.results.toList K))))))))
def salvorlaw4_FifoPlays_J18 (R10 : List AV → AH → Prop) (x1 x5 x6 x7 : AV) (H : AH) (K : AV → AH → Prop) : Prop := jn (mk 102 0 [1, 5, 6, 7]) (salvorlaw4_FifoPlays_c [true, true, true, true, false, true, false, false, true, false, false, false, true, false, true, false, true] 19) [x1, x5, x6, x7] H (kBlk 2 (kSeq (cutC (mk 102 0 [1, 5, 6, 7]) (salvorlaw4_FifoPlays_c [true, true, true, true, false, true, false, false, true, false, false, true] 27)) (kBlk 1 (kSeq (cutC (mk 102 0 [1, 5, 6, 7]) (salvorlaw4_FifoPlays_c [true, true, true, true, false, true, false, false, true, true] 29)) (kLp (mk 102 0 [1, 5, 6, 7]) R10 (kBlk 0 (kSeq (salvorlaw4_FifoPlays_c [true, true, true, true, true] 29) (kRet Try.prog Try.f4.results.toList K))))))))
def salvorlaw4_FifoPlays_J23 (R10 : List AV → AH → Prop) (x1 x5 x6 x7 x92 : AV) (H : AH) (K : AV → AH → Prop) : Prop := jn (mk 102 0 [1, 5, 6, 7, 92]) (salvorlaw4_FifoPlays_c [true, true, true, true, false, true, false, false, true, false, false, false, true, false, true, true, true, false, true, true, true] 24) [x1, x5, x6, x7, x92] H (kBlk 2 (kSeq (cutC (mk 102 0 [1, 5, 6, 7]) (salvorlaw4_FifoPlays_c [true, true, true, true, false, true, false, false, true, false, false, true] 27)) (kBlk 1 (kSeq (cutC (mk 102 0 [1, 5, 6, 7]) (salvorlaw4_FifoPlays_c [true, true, true, true, false, true, false, false, true, true] 29)) (kLp (mk 102 0 [1, 5, 6, 7]) R10 (kBlk 0 (kSeq (salvorlaw4_FifoPlays_c [true, true, true, true, true] 29) (kRet Try.prog Try.f4.results.toList K))))))))
def salvorlaw4_FifoPlays_J22 (R10 : List AV → AH → Prop) (x1 x5 x6 x7 x8 x9 x10 x11 : AV) (H : AH) (K : AV → AH → Prop) : Prop := jn (mk 102 0 [1, 5, 6, 7, 8, 9, 10, 11]) (salvorlaw4_FifoPlays_c [true, true, true, true, false, true, false, false, true, false, false, false, true, false, true, true, true, false, true, true] 23) [x1, x5, x6, x7, x8, x9, x10, x11] H (kBlk 2 (kSeq (cutC (mk 102 0 [1, 5, 6, 7]) (salvorlaw4_FifoPlays_c [true, true, true, true, false, true, false, false, true, false, false, true] 27)) (kBlk 1 (kSeq (cutC (mk 102 0 [1, 5, 6, 7]) (salvorlaw4_FifoPlays_c [true, true, true, true, false, true, false, false, true, true] 29)) (kLp (mk 102 0 [1, 5, 6, 7]) R10 (kBlk 0 (kSeq (salvorlaw4_FifoPlays_c [true, true, true, true, true] 29) (kRet Try.prog Try.f4.results.toList K))))))))
def salvorlaw4_FifoPlays_J21 (R10 : List AV → AH → Prop) (x1 x5 x6 x7 x8 x9 : AV) (H : AH) (K : AV → AH → Prop) : Prop := jn (mk 102 0 [1, 5, 6, 7, 8, 9]) (salvorlaw4_FifoPlays_c [true, true, true, true, false, true, false, false, true, false, false, false, true, false, true, true, true, false, true] 22) [x1, x5, x6, x7, x8, x9] H (kBlk 2 (kSeq (cutC (mk 102 0 [1, 5, 6, 7]) (salvorlaw4_FifoPlays_c [true, true, true, true, false, true, false, false, true, false, false, true] 27)) (kBlk 1 (kSeq (cutC (mk 102 0 [1, 5, 6, 7]) (salvorlaw4_FifoPlays_c [true, true, true, true, false, true, false, false, true, true] 29)) (kLp (mk 102 0 [1, 5, 6, 7]) R10 (kBlk 0 (kSeq (salvorlaw4_FifoPlays_c [true, true, true, true, true] 29) (kRet Try.prog Try.f4.results.toList K))))))))
def salvorlaw4_FifoPlays_J25 (R10 : List AV → AH → Prop) (x1 x5 x6 x7 x40 : AV) (H : AH) (K : AV → AH → Prop) : Prop := jn (mk 102 0 [1, 5, 6, 7, 40]) (salvorlaw4_FifoPlays_c [true, true, true, true, false, true, false, false, true, false, false, false, true, false, true, true, true, true, true] 26) [x1, x5, x6, x7, x40] H (kBlk 2 (kSeq (cutC (mk 102 0 [1, 5, 6, 7]) (salvorlaw4_FifoPlays_c [true, true, true, true, false, true, false, false, true, false, false, true] 27)) (kBlk 1 (kSeq (cutC (mk 102 0 [1, 5, 6, 7]) (salvorlaw4_FifoPlays_c [true, true, true, true, false, true, false, false, true, true] 29)) (kLp (mk 102 0 [1, 5, 6, 7]) R10 (kBlk 0 (kSeq (salvorlaw4_FifoPlays_c [true, true, true, true, true] 29) (kRet Try.prog Try.f4.results.toList K))))))))
def salvorlaw4_FifoPlays_J20 (R10 : List AV → AH → Prop) (x1 x5 x6 x7 x71 : AV) (H : AH) (K : AV → AH → Prop) : Prop := jn (mk 102 0 [1, 5, 6, 7, 71]) (salvorlaw4_FifoPlays_c [true, true, true, true, false, true, false, false, true, false, false, false, true, false, true, true, true] 21) [x1, x5, x6, x7, x71] H (kBlk 2 (kSeq (cutC (mk 102 0 [1, 5, 6, 7]) (salvorlaw4_FifoPlays_c [true, true, true, true, false, true, false, false, true, false, false, true] 27)) (kBlk 1 (kSeq (cutC (mk 102 0 [1, 5, 6, 7]) (salvorlaw4_FifoPlays_c [true, true, true, true, false, true, false, false, true, true] 29)) (kLp (mk 102 0 [1, 5, 6, 7]) R10 (kBlk 0 (kSeq (salvorlaw4_FifoPlays_c [true, true, true, true, true] 29) (kRet Try.prog Try.f4.results.toList K))))))))
def salvorlaw4_FifoPlays_J16 (R10 : List AV → AH → Prop) (x1 x5 x6 x7 x33 x41 : AV) (H : AH) (K : AV → AH → Prop) : Prop := jn (mk 102 0 [1, 5, 6, 7, 33, 41]) (salvorlaw4_FifoPlays_c [true, true, true, true, false, true, false, false, true, false, false, false, true, false, true] 18) [x1, x5, x6, x7, x33, x41] H (kBlk 2 (kSeq (cutC (mk 102 0 [1, 5, 6, 7]) (salvorlaw4_FifoPlays_c [true, true, true, true, false, true, false, false, true, false, false, true] 27)) (kBlk 1 (kSeq (cutC (mk 102 0 [1, 5, 6, 7]) (salvorlaw4_FifoPlays_c [true, true, true, true, false, true, false, false, true, true] 29)) (kLp (mk 102 0 [1, 5, 6, 7]) R10 (kBlk 0 (kSeq (salvorlaw4_FifoPlays_c [true, true, true, true, true] 29) (kRet Try.prog Try.f4.results.toList K))))))))
def salvorlaw4_FifoPlays_L10 (x1 x5 x6 x7 : AV) (H : AH) (K : AV → AH → Prop) : Prop := lp (mk 102 0 [1, 5, 6, 7]) (salvorlaw4_FifoPlays_c [true, true, true, true, false, true, false, false] 11) [x1, x5, x6, x7] H (kBlk 0 (kSeq (salvorlaw4_FifoPlays_c [true, true, true, true, true] 29) (kRet Try.prog Try.f4.results.toList K)))
def salvorlaw4_FifoPlays_J13_b (R10 : List AV → AH → Prop) (x1 x5 x6 x7 : AV) (H : AH) (K : AV → AH → Prop) : Prop :=
 bO (abI .add x7 (.lit (.int .i64 1))) fun v0 =>
 R10 [x1, x5, x6, v0] H
theorem salvorlaw4_FifoPlays_J13_eq0 (R10 : List AV → AH → Prop) (x1 x5 x6 x7 : AV) (H : AH) (K : AV → AH → Prop) : salvorlaw4_FifoPlays_c [true, true, true, true, false, true, false, false, true, true] 29 (expand (mk 102 0 [1, 5, 6, 7]) [x1, x5, x6, x7]) H (kLp (mk 102 0 [1, 5, 6, 7]) R10 (kBlk 0 (kSeq (salvorlaw4_FifoPlays_c [true, true, true, true, true] 29) (kRet Try.prog Try.f4.results.toList K)))) = salvorlaw4_FifoPlays_J13_b R10 x1 x5 x6 x7 H K := by kernel_rfl
theorem salvorlaw4_FifoPlays_J13_eq (R10 : List AV → AH → Prop) (x1 x5 x6 x7 : AV) (H : AH) (K : AV → AH → Prop) : salvorlaw4_FifoPlays_J13 R10 x1 x5 x6 x7 H K = salvorlaw4_FifoPlays_J13_b R10 x1 x5 x6 x7 H K := (jn_eq _ _ _ _ _).trans (salvorlaw4_FifoPlays_J13_eq0 R10 x1 x5 x6 x7 H K)
def salvorlaw4_FifoPlays_J27_b (R10 : List AV → AH → Prop) (x1 x5 x6 x7 x100 : AV) (H : AH) (K : AV → AH → Prop) : Prop :=
 bB x100 fun t0 => bI t0 (
 K (.lit (.bool false)) H)
 (salvorlaw4_FifoPlays_J13 R10 x1 x5 x6 x7 H K)
theorem salvorlaw4_FifoPlays_J27_eq0 (R10 : List AV → AH → Prop) (x1 x5 x6 x7 x100 : AV) (H : AH) (K : AV → AH → Prop) : salvorlaw4_FifoPlays_c [true, true, true, true, false, true, false, false, true, false, false, true, true] 28 (expand (mk 102 0 [1, 5, 6, 7, 100]) [x1, x5, x6, x7, x100]) H (kBlk 1 (kSeq (cutC (mk 102 0 [1, 5, 6, 7]) (salvorlaw4_FifoPlays_c [true, true, true, true, false, true, false, false, true, true] 29)) (kLp (mk 102 0 [1, 5, 6, 7]) R10 (kBlk 0 (kSeq (salvorlaw4_FifoPlays_c [true, true, true, true, true] 29) (kRet Try.prog Try.f4.results.toList K)))))) = salvorlaw4_FifoPlays_J27_b R10 x1 x5 x6 x7 x100 H K := by kernel_rfl
theorem salvorlaw4_FifoPlays_J27_eq (R10 : List AV → AH → Prop) (x1 x5 x6 x7 x100 : AV) (H : AH) (K : AV → AH → Prop) : salvorlaw4_FifoPlays_J27 R10 x1 x5 x6 x7 x100 H K = salvorlaw4_FifoPlays_J27_b R10 x1 x5 x6 x7 x100 H K := (jn_eq _ _ _ _ _).trans (salvorlaw4_FifoPlays_J27_eq0 R10 x1 x5 x6 x7 x100 H K)
def salvorlaw4_FifoPlays_J14_b (R10 : List AV → AH → Prop) (x1 x5 x6 x7 : AV) (H : AH) (K : AV → AH → Prop) : Prop :=
 bC (BCall Try.prog 10 [x5] H) fun v0 H1 =>
 bO (anilCheck x6) fun v2 =>
 bO (ashift 1 v2) fun v3 =>
 bO (ald false 1 H1 v3) fun v4 =>
 bO (alnS v4) fun v5 =>
 bO (abI .neq v0 v5) fun v6 =>
(ald false 1 H v3 = some v4) ∧
(alnS v4 = some v5) ∧
 salvorlaw4_FifoPlays_J27 R10 x1 x5 x6 x7 v6 H1 K
theorem salvorlaw4_FifoPlays_J14_eq0 (R10 : List AV → AH → Prop) (x1 x5 x6 x7 : AV) (H : AH) (K : AV → AH → Prop) : salvorlaw4_FifoPlays_c [true, true, true, true, false, true, false, false, true, false, false, true] 27 (expand (mk 102 0 [1, 5, 6, 7]) [x1, x5, x6, x7]) H (kBlk 1 (kSeq (cutC (mk 102 0 [1, 5, 6, 7]) (salvorlaw4_FifoPlays_c [true, true, true, true, false, true, false, false, true, true] 29)) (kLp (mk 102 0 [1, 5, 6, 7]) R10 (kBlk 0 (kSeq (salvorlaw4_FifoPlays_c [true, true, true, true, true] 29) (kRet Try.prog Try.f4.results.toList K)))))) = salvorlaw4_FifoPlays_J14_b R10 x1 x5 x6 x7 H K := by kernel_rfl
theorem salvorlaw4_FifoPlays_J14_eq (R10 : List AV → AH → Prop) (x1 x5 x6 x7 : AV) (H : AH) (K : AV → AH → Prop) : salvorlaw4_FifoPlays_J14 R10 x1 x5 x6 x7 H K = salvorlaw4_FifoPlays_J14_b R10 x1 x5 x6 x7 H K := (jn_eq _ _ _ _ _).trans (salvorlaw4_FifoPlays_J14_eq0 R10 x1 x5 x6 x7 H K)
def salvorlaw4_FifoPlays_J19_b (R10 : List AV → AH → Prop) (x1 x5 x6 x7 : AV) (H : AH) (K : AV → AH → Prop) : Prop :=
 bO (aixS 3 x1 x7) fun v0 =>
 bO (ashift 2 v0) fun v1 =>
 bO (ald false 1 H v1) fun v2 =>
 bC (BCall Try.prog 14 [x6, v2] H) fun v3 H4 =>
 salvorlaw4_FifoPlays_J14 R10 x1 x5 x6 x7 H4 K
theorem salvorlaw4_FifoPlays_J19_eq0 (R10 : List AV → AH → Prop) (x1 x5 x6 x7 : AV) (H : AH) (K : AV → AH → Prop) : salvorlaw4_FifoPlays_c [true, true, true, true, false, true, false, false, true, false, false, false, true, false, true, false, true, true] 20 (expand (mk 102 0 [1, 5, 6, 7]) [x1, x5, x6, x7]) H (kBlk 2 (kSeq (cutC (mk 102 0 [1, 5, 6, 7]) (salvorlaw4_FifoPlays_c [true, true, true, true, false, true, false, false, true, false, false, true] 27)) (kBlk 1 (kSeq (cutC (mk 102 0 [1, 5, 6, 7]) (salvorlaw4_FifoPlays_c [true, true, true, true, false, true, false, false, true, true] 29)) (kLp (mk 102 0 [1, 5, 6, 7]) R10 (kBlk 0 (kSeq (salvorlaw4_FifoPlays_c [true, true, true, true, true] 29) (kRet Try.prog Try.f4.results.toList K)))))))) = salvorlaw4_FifoPlays_J19_b R10 x1 x5 x6 x7 H K := by kernel_rfl
theorem salvorlaw4_FifoPlays_J19_eq (R10 : List AV → AH → Prop) (x1 x5 x6 x7 : AV) (H : AH) (K : AV → AH → Prop) : salvorlaw4_FifoPlays_J19 R10 x1 x5 x6 x7 H K = salvorlaw4_FifoPlays_J19_b R10 x1 x5 x6 x7 H K := (jn_eq _ _ _ _ _).trans (salvorlaw4_FifoPlays_J19_eq0 R10 x1 x5 x6 x7 H K)
def salvorlaw4_FifoPlays_J18_b (R10 : List AV → AH → Prop) (x1 x5 x6 x7 : AV) (H : AH) (K : AV → AH → Prop) : Prop :=
 bO (aixS 3 x1 x7) fun v0 =>
 bO (ashift 1 v0) fun v1 =>
 bO (ald false 1 H v1) fun v2 =>
 bC (BCall Try.prog 14 [x6, v2] H) fun v3 H4 =>
 salvorlaw4_FifoPlays_J19 R10 x1 x5 x6 x7 H4 K
theorem salvorlaw4_FifoPlays_J18_eq0 (R10 : List AV → AH → Prop) (x1 x5 x6 x7 : AV) (H : AH) (K : AV → AH → Prop) : salvorlaw4_FifoPlays_c [true, true, true, true, false, true, false, false, true, false, false, false, true, false, true, false, true] 19 (expand (mk 102 0 [1, 5, 6, 7]) [x1, x5, x6, x7]) H (kBlk 2 (kSeq (cutC (mk 102 0 [1, 5, 6, 7]) (salvorlaw4_FifoPlays_c [true, true, true, true, false, true, false, false, true, false, false, true] 27)) (kBlk 1 (kSeq (cutC (mk 102 0 [1, 5, 6, 7]) (salvorlaw4_FifoPlays_c [true, true, true, true, false, true, false, false, true, true] 29)) (kLp (mk 102 0 [1, 5, 6, 7]) R10 (kBlk 0 (kSeq (salvorlaw4_FifoPlays_c [true, true, true, true, true] 29) (kRet Try.prog Try.f4.results.toList K)))))))) = salvorlaw4_FifoPlays_J18_b R10 x1 x5 x6 x7 H K := by kernel_rfl
theorem salvorlaw4_FifoPlays_J18_eq (R10 : List AV → AH → Prop) (x1 x5 x6 x7 : AV) (H : AH) (K : AV → AH → Prop) : salvorlaw4_FifoPlays_J18 R10 x1 x5 x6 x7 H K = salvorlaw4_FifoPlays_J18_b R10 x1 x5 x6 x7 H K := (jn_eq _ _ _ _ _).trans (salvorlaw4_FifoPlays_J18_eq0 R10 x1 x5 x6 x7 H K)
def salvorlaw4_FifoPlays_J23_b (R10 : List AV → AH → Prop) (x1 x5 x6 x7 x92 : AV) (H : AH) (K : AV → AH → Prop) : Prop :=
 bB x92 fun t0 => bI t0 (
 K (.lit (.bool false)) H)
 (salvorlaw4_FifoPlays_J14 R10 x1 x5 x6 x7 H K)
theorem salvorlaw4_FifoPlays_J23_eq0 (R10 : List AV → AH → Prop) (x1 x5 x6 x7 x92 : AV) (H : AH) (K : AV → AH → Prop) : salvorlaw4_FifoPlays_c [true, true, true, true, false, true, false, false, true, false, false, false, true, false, true, true, true, false, true, true, true] 24 (expand (mk 102 0 [1, 5, 6, 7, 92]) [x1, x5, x6, x7, x92]) H (kBlk 2 (kSeq (cutC (mk 102 0 [1, 5, 6, 7]) (salvorlaw4_FifoPlays_c [true, true, true, true, false, true, false, false, true, false, false, true] 27)) (kBlk 1 (kSeq (cutC (mk 102 0 [1, 5, 6, 7]) (salvorlaw4_FifoPlays_c [true, true, true, true, false, true, false, false, true, true] 29)) (kLp (mk 102 0 [1, 5, 6, 7]) R10 (kBlk 0 (kSeq (salvorlaw4_FifoPlays_c [true, true, true, true, true] 29) (kRet Try.prog Try.f4.results.toList K)))))))) = salvorlaw4_FifoPlays_J23_b R10 x1 x5 x6 x7 x92 H K := by kernel_rfl
theorem salvorlaw4_FifoPlays_J23_eq (R10 : List AV → AH → Prop) (x1 x5 x6 x7 x92 : AV) (H : AH) (K : AV → AH → Prop) : salvorlaw4_FifoPlays_J23 R10 x1 x5 x6 x7 x92 H K = salvorlaw4_FifoPlays_J23_b R10 x1 x5 x6 x7 x92 H K := (jn_eq _ _ _ _ _).trans (salvorlaw4_FifoPlays_J23_eq0 R10 x1 x5 x6 x7 x92 H K)
def salvorlaw4_FifoPlays_J22_b (R10 : List AV → AH → Prop) (x1 x5 x6 x7 x8 x9 x10 x11 : AV) (H : AH) (K : AV → AH → Prop) : Prop :=
 bO (acB H x8) fun v0 =>
 bO (acB H x10) fun v1 =>
 bO (abT .neq v0 v1) fun v2 =>
 bG v2 false fun w3 =>
 gO w3 (some x9) fun v4 =>
 bG v2 false fun w5 =>
 gO w5 (some x11) fun v6 =>
 bG v2 false fun w7 =>
 gO w7 (abB .neq v4 v6) fun v8 =>
 bO (apick v2 (.lit (.bool true)) v8) fun v9 =>
 salvorlaw4_FifoPlays_J23 R10 x1 x5 x6 x7 v9 H K
theorem salvorlaw4_FifoPlays_J22_eq0 (R10 : List AV → AH → Prop) (x1 x5 x6 x7 x8 x9 x10 x11 : AV) (H : AH) (K : AV → AH → Prop) : salvorlaw4_FifoPlays_c [true, true, true, true, false, true, false, false, true, false, false, false, true, false, true, true, true, false, true, true] 23 (expand (mk 102 0 [1, 5, 6, 7, 8, 9, 10, 11]) [x1, x5, x6, x7, x8, x9, x10, x11]) H (kBlk 2 (kSeq (cutC (mk 102 0 [1, 5, 6, 7]) (salvorlaw4_FifoPlays_c [true, true, true, true, false, true, false, false, true, false, false, true] 27)) (kBlk 1 (kSeq (cutC (mk 102 0 [1, 5, 6, 7]) (salvorlaw4_FifoPlays_c [true, true, true, true, false, true, false, false, true, true] 29)) (kLp (mk 102 0 [1, 5, 6, 7]) R10 (kBlk 0 (kSeq (salvorlaw4_FifoPlays_c [true, true, true, true, true] 29) (kRet Try.prog Try.f4.results.toList K)))))))) = salvorlaw4_FifoPlays_J22_b R10 x1 x5 x6 x7 x8 x9 x10 x11 H K := by kernel_rfl
theorem salvorlaw4_FifoPlays_J22_eq (R10 : List AV → AH → Prop) (x1 x5 x6 x7 x8 x9 x10 x11 : AV) (H : AH) (K : AV → AH → Prop) : salvorlaw4_FifoPlays_J22 R10 x1 x5 x6 x7 x8 x9 x10 x11 H K = salvorlaw4_FifoPlays_J22_b R10 x1 x5 x6 x7 x8 x9 x10 x11 H K := (jn_eq _ _ _ _ _).trans (salvorlaw4_FifoPlays_J22_eq0 R10 x1 x5 x6 x7 x8 x9 x10 x11 H K)
def salvorlaw4_FifoPlays_J21_b (R10 : List AV → AH → Prop) (x1 x5 x6 x7 x8 x9 : AV) (H : AH) (K : AV → AH → Prop) : Prop :=
 bC (BCall Try.prog 15 [x6] H) fun v0 H1 =>
 bO (aextract v0 0) fun v2 =>
 bO (aextract v0 1) fun v3 =>
 salvorlaw4_FifoPlays_J22 R10 x1 x5 x6 x7 x8 x9 v2 v3 H1 K
theorem salvorlaw4_FifoPlays_J21_eq0 (R10 : List AV → AH → Prop) (x1 x5 x6 x7 x8 x9 : AV) (H : AH) (K : AV → AH → Prop) : salvorlaw4_FifoPlays_c [true, true, true, true, false, true, false, false, true, false, false, false, true, false, true, true, true, false, true] 22 (expand (mk 102 0 [1, 5, 6, 7, 8, 9]) [x1, x5, x6, x7, x8, x9]) H (kBlk 2 (kSeq (cutC (mk 102 0 [1, 5, 6, 7]) (salvorlaw4_FifoPlays_c [true, true, true, true, false, true, false, false, true, false, false, true] 27)) (kBlk 1 (kSeq (cutC (mk 102 0 [1, 5, 6, 7]) (salvorlaw4_FifoPlays_c [true, true, true, true, false, true, false, false, true, true] 29)) (kLp (mk 102 0 [1, 5, 6, 7]) R10 (kBlk 0 (kSeq (salvorlaw4_FifoPlays_c [true, true, true, true, true] 29) (kRet Try.prog Try.f4.results.toList K)))))))) = salvorlaw4_FifoPlays_J21_b R10 x1 x5 x6 x7 x8 x9 H K := by kernel_rfl
theorem salvorlaw4_FifoPlays_J21_eq (R10 : List AV → AH → Prop) (x1 x5 x6 x7 x8 x9 : AV) (H : AH) (K : AV → AH → Prop) : salvorlaw4_FifoPlays_J21 R10 x1 x5 x6 x7 x8 x9 H K = salvorlaw4_FifoPlays_J21_b R10 x1 x5 x6 x7 x8 x9 H K := (jn_eq _ _ _ _ _).trans (salvorlaw4_FifoPlays_J21_eq0 R10 x1 x5 x6 x7 x8 x9 H K)
def salvorlaw4_FifoPlays_J25_b (R10 : List AV → AH → Prop) (x1 x5 x6 x7 x40 : AV) (H : AH) (K : AV → AH → Prop) : Prop :=
 bB x40 fun t0 => bI t0 (
 K (.lit (.bool false)) H)
 (salvorlaw4_FifoPlays_J14 R10 x1 x5 x6 x7 H K)
theorem salvorlaw4_FifoPlays_J25_eq0 (R10 : List AV → AH → Prop) (x1 x5 x6 x7 x40 : AV) (H : AH) (K : AV → AH → Prop) : salvorlaw4_FifoPlays_c [true, true, true, true, false, true, false, false, true, false, false, false, true, false, true, true, true, true, true] 26 (expand (mk 102 0 [1, 5, 6, 7, 40]) [x1, x5, x6, x7, x40]) H (kBlk 2 (kSeq (cutC (mk 102 0 [1, 5, 6, 7]) (salvorlaw4_FifoPlays_c [true, true, true, true, false, true, false, false, true, false, false, true] 27)) (kBlk 1 (kSeq (cutC (mk 102 0 [1, 5, 6, 7]) (salvorlaw4_FifoPlays_c [true, true, true, true, false, true, false, false, true, true] 29)) (kLp (mk 102 0 [1, 5, 6, 7]) R10 (kBlk 0 (kSeq (salvorlaw4_FifoPlays_c [true, true, true, true, true] 29) (kRet Try.prog Try.f4.results.toList K)))))))) = salvorlaw4_FifoPlays_J25_b R10 x1 x5 x6 x7 x40 H K := by kernel_rfl
theorem salvorlaw4_FifoPlays_J25_eq (R10 : List AV → AH → Prop) (x1 x5 x6 x7 x40 : AV) (H : AH) (K : AV → AH → Prop) : salvorlaw4_FifoPlays_J25 R10 x1 x5 x6 x7 x40 H K = salvorlaw4_FifoPlays_J25_b R10 x1 x5 x6 x7 x40 H K := (jn_eq _ _ _ _ _).trans (salvorlaw4_FifoPlays_J25_eq0 R10 x1 x5 x6 x7 x40 H K)
def salvorlaw4_FifoPlays_J20_b (R10 : List AV → AH → Prop) (x1 x5 x6 x7 x71 : AV) (H : AH) (K : AV → AH → Prop) : Prop :=
 bB x71 fun t0 => bI t0 (
 bC (BCall Try.prog 9 [x5] H) fun v1 H2 =>
 bO (aextract v1 0) fun v3 =>
 bO (aextract v1 1) fun v4 =>
 salvorlaw4_FifoPlays_J21 R10 x1 x5 x6 x7 v3 v4 H2 K)
 (bC (BCall Try.prog 11 [x5] H) fun v5 H6 =>
 bO (acB H6 v5) fun v7 =>
 bC (BCall Try.prog 16 [x6] H6) fun v8 H9 =>
 bO (acB H9 v8) fun v10 =>
 bO (abT .neq v7 v10) fun v11 =>
(acB H9 v5 = some v7) ∧
 salvorlaw4_FifoPlays_J25 R10 x1 x5 x6 x7 v11 H9 K)
theorem salvorlaw4_FifoPlays_J20_eq0 (R10 : List AV → AH → Prop) (x1 x5 x6 x7 x71 : AV) (H : AH) (K : AV → AH → Prop) : salvorlaw4_FifoPlays_c [true, true, true, true, false, true, false, false, true, false, false, false, true, false, true, true, true] 21 (expand (mk 102 0 [1, 5, 6, 7, 71]) [x1, x5, x6, x7, x71]) H (kBlk 2 (kSeq (cutC (mk 102 0 [1, 5, 6, 7]) (salvorlaw4_FifoPlays_c [true, true, true, true, false, true, false, false, true, false, false, true] 27)) (kBlk 1 (kSeq (cutC (mk 102 0 [1, 5, 6, 7]) (salvorlaw4_FifoPlays_c [true, true, true, true, false, true, false, false, true, true] 29)) (kLp (mk 102 0 [1, 5, 6, 7]) R10 (kBlk 0 (kSeq (salvorlaw4_FifoPlays_c [true, true, true, true, true] 29) (kRet Try.prog Try.f4.results.toList K)))))))) = salvorlaw4_FifoPlays_J20_b R10 x1 x5 x6 x7 x71 H K := by kernel_rfl
theorem salvorlaw4_FifoPlays_J20_eq (R10 : List AV → AH → Prop) (x1 x5 x6 x7 x71 : AV) (H : AH) (K : AV → AH → Prop) : salvorlaw4_FifoPlays_J20 R10 x1 x5 x6 x7 x71 H K = salvorlaw4_FifoPlays_J20_b R10 x1 x5 x6 x7 x71 H K := (jn_eq _ _ _ _ _).trans (salvorlaw4_FifoPlays_J20_eq0 R10 x1 x5 x6 x7 x71 H K)
def salvorlaw4_FifoPlays_J16_b (R10 : List AV → AH → Prop) (x1 x5 x6 x7 x33 x41 : AV) (H : AH) (K : AV → AH → Prop) : Prop :=
 bB x41 fun t0 => bI t0 (
 bO (aixS 3 x1 x7) fun v1 =>
 bO (ashift 1 v1) fun v2 =>
 bO (ald false 1 H v2) fun v3 =>
 bO (aixS 3 x1 x7) fun v4 =>
 bO (ashift 2 v4) fun v5 =>
 bO (ald false 1 H v5) fun v6 =>
 bO (absf 1 2 (zrow [(.lit (.slice none 0 0))] 2) [(0, 1, v3), (1, 1, v6)]) fun v7 =>
 bC (BCall Try.prog 8 [x5, v7] H) fun v8 H9 =>
 salvorlaw4_FifoPlays_J18 R10 x1 x5 x6 x7 H9 K)
 (bO (abI .eql x33 (.lit (.int .u8 2))) fun v10 =>
 salvorlaw4_FifoPlays_J20 R10 x1 x5 x6 x7 v10 H K)
theorem salvorlaw4_FifoPlays_J16_eq0 (R10 : List AV → AH → Prop) (x1 x5 x6 x7 x33 x41 : AV) (H : AH) (K : AV → AH → Prop) : salvorlaw4_FifoPlays_c [true, true, true, true, false, true, false, false, true, false, false, false, true, false, true] 18 (expand (mk 102 0 [1, 5, 6, 7, 33, 41]) [x1, x5, x6, x7, x33, x41]) H (kBlk 2 (kSeq (cutC (mk 102 0 [1, 5, 6, 7]) (salvorlaw4_FifoPlays_c [true, true, true, true, false, true, false, false, true, false, false, true] 27)) (kBlk 1 (kSeq (cutC (mk 102 0 [1, 5, 6, 7]) (salvorlaw4_FifoPlays_c [true, true, true, true, false, true, false, false, true, true] 29)) (kLp (mk 102 0 [1, 5, 6, 7]) R10 (kBlk 0 (kSeq (salvorlaw4_FifoPlays_c [true, true, true, true, true] 29) (kRet Try.prog Try.f4.results.toList K)))))))) = salvorlaw4_FifoPlays_J16_b R10 x1 x5 x6 x7 x33 x41 H K := by kernel_rfl
theorem salvorlaw4_FifoPlays_J16_eq (R10 : List AV → AH → Prop) (x1 x5 x6 x7 x33 x41 : AV) (H : AH) (K : AV → AH → Prop) : salvorlaw4_FifoPlays_J16 R10 x1 x5 x6 x7 x33 x41 H K = salvorlaw4_FifoPlays_J16_b R10 x1 x5 x6 x7 x33 x41 H K := (jn_eq _ _ _ _ _).trans (salvorlaw4_FifoPlays_J16_eq0 R10 x1 x5 x6 x7 x33 x41 H K)
def salvorlaw4_FifoPlays_L10_b (R10 : List AV → AH → Prop) (x1 x5 x6 x7 : AV) (H : AH) (K : AV → AH → Prop) : Prop :=
 bO (alnS x1) fun v0 =>
 bO (abI .lss x7 v0) fun v1 =>
 bB v1 fun t2 => bI t2 (
 bO (aixS 3 x1 x7) fun v3 =>
 bO (ashift 0 v3) fun v4 =>
 bO (ald false 1 H v4) fun v5 =>
 bO (abI .rem v5 (.lit (.int .u8 4))) fun v6 =>
 bO (abI .eql v6 (.lit (.int .u8 0))) fun v7 =>
 bB v7 fun t8 => bI t8 (
 salvorlaw4_FifoPlays_J16 R10 x1 x5 x6 x7 v6 v7 H K)
 (bO (abI .eql v6 (.lit (.int .u8 1))) fun v9 =>
 salvorlaw4_FifoPlays_J16 R10 x1 x5 x6 x7 v6 v9 H K))
 (bP (PCall Try.prog 3 [] H) fun v10 =>
 K v10 H)
theorem salvorlaw4_FifoPlays_L10_eq (R10 : List AV → AH → Prop) (x1 x5 x6 x7 : AV) (H : AH) (K : AV → AH → Prop) : salvorlaw4_FifoPlays_c [true, true, true, true, false, true, false, false] 11 (expand (mk 102 0 [1, 5, 6, 7]) [x1, x5, x6, x7]) H (kLp (mk 102 0 [1, 5, 6, 7]) R10 (kBlk 0 (kSeq (salvorlaw4_FifoPlays_c [true, true, true, true, true] 29) (kRet Try.prog Try.f4.results.toList K)))) = salvorlaw4_FifoPlays_L10_b R10 x1 x5 x6 x7 H K := by kernel_rfl
theorem salvorlaw4_FifoPlays_L10_rule {K : AV → AH → Prop} (I : Nat → AV → AV → AV → AV → AH → Prop) (round : ∀ (n : Nat) (x1 x5 x6 x7 : AV) (H : AH) (R : List AV → AH → Prop), (∀ (m : Nat) (y1 y5 y6 y7 : AV) (H' : AH), m < n → I m y1 y5 y6 y7 H' → R [y1, y5, y6, y7] H') → I n x1 x5 x6 x7 H → salvorlaw4_FifoPlays_L10_b R x1 x5 x6 x7 H K) (n : Nat) {x1 x5 x6 x7 : AV} {H : AH} (h : I n x1 x5 x6 x7 H) : salvorlaw4_FifoPlays_L10 x1 x5 x6 x7 H K := by
  refine lp_upto (sCode_one _ _) (LI4 I) ?_ n h
  intro n X H h
  obtain ⟨x1, x5, x6, x7, rfl, h⟩ := h.elim
  exact Eq.mpr (salvorlaw4_FifoPlays_L10_eq _ x1 x5 x6 x7 H K) (round n x1 x5 x6 x7 H (fun X H' => ∃ m, m < n ∧ LI4 I m X H') (fun m y1 y5 y6 y7 H' hm hi => ⟨m, hm, hi⟩) h)
def salvorlaw4_FifoPlays (a0 a1 : AV) (H : AH) (K : AV → AH → Prop) : Prop :=
 bP (PCall Try.prog 12 [a1] H) fun v0 =>
 bO (aun .not v0) fun v1 =>
 bB v1 fun t2 => bI t2 (
 bP (PCall Try.prog 3 [] H) fun v3 =>
 K v3 H)
 (bC (BCall Try.prog 7 [a0] H) fun v4 H5 =>
 bC (BCall Try.prog 13 [a0] H5) fun v6 H7 =>
 bO (abN .eql nilP v4 (.lit (.pointer none))) fun v8 =>
 bB v8 fun t9 => bI t9 (
 K (.lit (.bool false)) H7)
 (salvorlaw4_FifoPlays_L10 a1 v4 v6 (.lit (.int .i64 0)) H7 K))
theorem salvorlaw4_FifoPlays_eq (a0 a1 : AV) (H : AH) (K : AV → AH → Prop) : sFun Try.prog salvorlaw4_FifoPlays_fl pql salvorlaw4_FifoPlays_kp Try.f4 [a0, a1] H K = salvorlaw4_FifoPlays a0 a1 H K := by kernel_rfl
theorem salvorlaw4_FifoPlays_ok {a0 a1 : AV} {H : AH} {K : AV → AH → Prop} (h : salvorlaw4_FifoPlays a0 a1 H K) : ∃ r H', K r H' ∧ BCall Try.prog 4 [a0, a1] H r H' :=
  sFun_ok mixP Try.func4 (by kernel_rfl) (Eq.mpr (salvorlaw4_FifoPlays_eq a0 a1 H K) h)
/-! salvor/salvorlaw4.FifoOrder -/
def salvorlaw4_FifoOrder_fl : Floats := flOf []
def salvorlaw4_FifoOrder_kp : Nat → Option (List Bool) := kpOf [(20, mk 112 0 [1, 5, 6, 7, 8, 9]), (12, mk 112 0 [1, 5, 6, 7, 8, 9])]
def salvorlaw4_FifoOrder_c (p : List Bool) (n : Nat) : List AV → AH → Kf → Prop := sCode Try.prog salvorlaw4_FifoOrder_fl pql salvorlaw4_FifoOrder_kp (sub p (bodyOf Try.f5)) n
def salvorlaw4_FifoOrder_L20 (R12 : List AV → AH → Prop) (x1 x5 x6 x7 x8 x9 : AV) (H : AH) (K : AV → AH → Prop) : Prop := lp (mk 112 0 [1, 5, 6, 7, 8, 9]) (salvorlaw4_FifoOrder_c [true, true, true, true, true, true, false, true, false, false, true, false, false, true, true, true, false, false, false] 21) [x1, x5, x6, x7, x8, x9] H (kBlk 2 (kSeq (salvorlaw4_FifoOrder_c [true, true, true, true, true, true, false, true, false, false, true, false, false, true, true, true, true] 27) (kBlk 1 (kSeq (salvorlaw4_FifoOrder_c [true, true, true, true, true, true, false, true, false, false, true, true] 30) (kLp (mk 112 0 [1, 5, 6, 7, 8, 9]) R12 (kBlk 0 (kSeq (salvorlaw4_FifoOrder_c [true, true, true, true, true, true, true] 30) (kRet Try.prog Try.f5.results.toList K))))))))
def salvorlaw4_FifoOrder_L12 (x1 x5 x6 x7 x8 x9 : AV) (H : AH) (K : AV → AH → Prop) : Prop := lp (mk 112 0 [1, 5, 6, 7, 8, 9]) (salvorlaw4_FifoOrder_c [true, true, true, true, true, true, false, true, false, false] 13) [x1, x5, x6, x7, x8, x9] H (kBlk 0 (kSeq (salvorlaw4_FifoOrder_c [true, true, true, true, true, true, true] 30) (kRet Try.prog Try.f5.results.toList K)))
def salvorlaw4_FifoOrder_L20_b (R12 : List AV → AH → Prop) (R20 : List AV → AH → Prop) (x1 x5 x6 x7 x8 x9 : AV) (H : AH) (K : AV → AH → Prop) : Prop :=
 bC (BCall Try.prog 10 [x5] H) fun v0 H1 =>
 bO (abI .geq v0 x6) fun v2 =>
 bB v2 fun t3 => bI t3 (
 bC (BCall Try.prog 9 [x5] H1) fun v4 H5 =>
 bO (aextract v4 0) fun v6 =>
 bO (aextract v4 1) fun v7 =>
 bO (aun .not v7) fun v8 =>
 bG v8 false fun w9 =>
 gO w9 (some v6) fun v10 =>
 bG v8 false fun w11 =>
 gO w11 (alnS v10) fun v12 =>
 bG v8 false fun w13 =>
 gO w13 (some x6) fun v14 =>
 bG v8 false fun w15 =>
 gO w15 (abI .neq v12 v14) fun v16 =>
 bO (apick v8 (.lit (.bool true)) v16) fun v17 =>
 bB v17 fun t18 => bI t18 (
 K (.lit (.bool false)) H5)
 (bO (acB H5 v6) fun v19 =>
 bO (abT .add x8 v19) fun v20 =>
 R20 [x1, x5, x6, x7, v20, x9] H5))
 (bC (BCall Try.prog 9 [x5] H1) fun v21 H22 =>
 bO (aextract v21 0) fun v23 =>
 bO (aextract v21 1) fun v24 =>
 bB v24 fun t25 => bI t25 (
 K (.lit (.bool false)) H22)
 (bO (abI .add x9 (.lit (.int .i64 1))) fun v26 =>
 R12 [x1, x5, x6, x7, x8, v26] H22))
theorem salvorlaw4_FifoOrder_L20_eq (R12 : List AV → AH → Prop) (R20 : List AV → AH → Prop) (x1 x5 x6 x7 x8 x9 : AV) (H : AH) (K : AV → AH → Prop) : salvorlaw4_FifoOrder_c [true, true, true, true, true, true, false, true, false, false, true, false, false, true, true, true, false, false, false] 21 (expand (mk 112 0 [1, 5, 6, 7, 8, 9]) [x1, x5, x6, x7, x8, x9]) H (kLp (mk 112 0 [1, 5, 6, 7, 8, 9]) R20 (kBlk 2 (kSeq (salvorlaw4_FifoOrder_c [true, true, true, true, true, true, false, true, false, false, true, false, false, true, true, true, true] 27) (kBlk 1 (kSeq (salvorlaw4_FifoOrder_c [true, true, true, true, true, true, false, true, false, false, true, true] 30) (kLp (mk 112 0 [1, 5, 6, 7, 8, 9]) R12 (kBlk 0 (kSeq (salvorlaw4_FifoOrder_c [true, true, true, true, true, true, true] 30) (kRet Try.prog Try.f5.results.toList K))))))))) = salvorlaw4_FifoOrder_L20_b R12 R20 x1 x5 x6 x7 x8 x9 H K := by kernel_rfl
theorem salvorlaw4_FifoOrder_L20_rule (R12 : List AV → AH → Prop) {K : AV → AH → Prop} (I : Nat → AV → AV → AV → AV → AV → AV → AH → Prop) (round : ∀ (n : Nat) (x1 x5 x6 x7 x8 x9 : AV) (H : AH) (R : List AV → AH → Prop), (∀ (m : Nat) (y1 y5 y6 y7 y8 y9 : AV) (H' : AH), m < n → I m y1 y5 y6 y7 y8 y9 H' → R [y1, y5, y6, y7, y8, y9] H') → I n x1 x5 x6 x7 x8 x9 H → salvorlaw4_FifoOrder_L20_b R12 R x1 x5 x6 x7 x8 x9 H K) (n : Nat) {x1 x5 x6 x7 x8 x9 : AV} {H : AH} (h : I n x1 x5 x6 x7 x8 x9 H) : salvorlaw4_FifoOrder_L20 R12 x1 x5 x6 x7 x8 x9 H K := by
  refine lp_upto (sCode_one _ _) (LI6 I) ?_ n h
  intro n X H h
  obtain ⟨x1, x5, x6, x7, x8, x9, rfl, h⟩ := h.elim
  exact Eq.mpr (salvorlaw4_FifoOrder_L20_eq R12 _ x1 x5 x6 x7 x8 x9 H K) (round n x1 x5 x6 x7 x8 x9 H (fun X H' => ∃ m, m < n ∧ LI6 I m X H') (fun m y1 y5 y6 y7 y8 y9 H' hm hi => ⟨m, hm, hi⟩) h)
def salvorlaw4_FifoOrder_L12_b (R12 : List AV → AH → Prop) (x1 x5 x6 x7 x8 x9 : AV) (H : AH) (K : AV → AH → Prop) : Prop :=
 bO (alnS x1) fun v0 =>
 bO (abI .lss x9 v0) fun v1 =>
 bB v1 fun t2 => bI t2 (
 bC (BCall Try.prog 8 [x5, (.lit (.slice none 0 0))] H) fun v3 H4 =>
 bO (aixS 3 x1 x9) fun v5 =>
 bO (ashift 1 v5) fun v6 =>
 bO (ald false 1 H4 v6) fun v7 =>
 bO (aixS 3 x1 x9) fun v8 =>
 bO (ashift 2 v8) fun v9 =>
 bO (ald false 1 H4 v9) fun v10 =>
 bO (absf 1 3 (zrow [(.lit (.slice none 0 0))] 3) [(0, 1, v7), (1, 1, (.lit (.slice none 0 0))), (2, 1, v10)]) fun v11 =>
 bC (BCall Try.prog 8 [x5, v11] H4) fun v12 H13 =>
 bO (aixS 3 x1 x9) fun v14 =>
 bO (ashift 1 v14) fun v15 =>
 bO (ald false 1 H13 v15) fun v16 =>
 bO (acB H13 v16) fun v17 =>
 bO (abT .add x7 v17) fun v18 =>
 bO (aixS 3 x1 x9) fun v19 =>
 bO (ashift 2 v19) fun v20 =>
 bO (ald false 1 H13 v20) fun v21 =>
 bO (acB H13 v21) fun v22 =>
 bO (abT .add v18 v22) fun v23 =>
 salvorlaw4_FifoOrder_L20 R12 x1 x5 x6 v23 x8 x9 H13 K)
 (bC (BCall Try.prog 11 [x5] H) fun v24 H25 =>
 bO (alnS v24) fun v26 =>
 bO (abI .lss v26 x6) fun v27 =>
 bG v27 true fun w28 =>
 gO w28 (some x8) fun v29 =>
 bG v27 true fun w30 =>
 gO w30 (some v24) fun v31 =>
 bG v27 true fun w32 =>
 gO w32 (acB H25 v31) fun v33 =>
 bG v27 true fun w34 =>
 gO w34 (abT .add v29 v33) fun v35 =>
 bG v27 true fun w36 =>
 gO w36 (some x7) fun v37 =>
 bG v27 true fun w38 =>
 gO w38 (abT .eql v35 v37) fun v39 =>
 bO (apick v27 v39 (.lit (.bool false))) fun v40 =>
 bG v40 true fun w41 =>
 gO w41 (some x5) fun v42 =>
 bG v40 true fun w43 =>
 gC w43 (BCall Try.prog 11 [v42] H25) H25 fun v44 H45 =>
 bG v40 true fun w46 =>
 gO w46 (alnS v44) fun v47 =>
 bG v40 true fun w48 =>
 gO w48 (abI .eql v47 (.lit (.int .i64 0))) fun v49 =>
 bO (apick v40 v49 (.lit (.bool false))) fun v50 =>
 bG v50 true fun w51 =>
 gP w51 (PCall Try.prog 3 [] H45) fun v52 =>
 bO (apick v50 v52 (.lit (.bool false))) fun v53 =>
 K v53 H45)
theorem salvorlaw4_FifoOrder_L12_eq (R12 : List AV → AH → Prop) (x1 x5 x6 x7 x8 x9 : AV) (H : AH) (K : AV → AH → Prop) : salvorlaw4_FifoOrder_c [true, true, true, true, true, true, false, true, false, false] 13 (expand (mk 112 0 [1, 5, 6, 7, 8, 9]) [x1, x5, x6, x7, x8, x9]) H (kLp (mk 112 0 [1, 5, 6, 7, 8, 9]) R12 (kBlk 0 (kSeq (salvorlaw4_FifoOrder_c [true, true, true, true, true, true, true] 30) (kRet Try.prog Try.f5.results.toList K)))) = salvorlaw4_FifoOrder_L12_b R12 x1 x5 x6 x7 x8 x9 H K := by kernel_rfl
theorem salvorlaw4_FifoOrder_L12_rule {K : AV → AH → Prop} (I : Nat → AV → AV → AV → AV → AV → AV → AH → Prop) (round : ∀ (n : Nat) (x1 x5 x6 x7 x8 x9 : AV) (H : AH) (R : List AV → AH → Prop), (∀ (m : Nat) (y1 y5 y6 y7 y8 y9 : AV) (H' : AH), m < n → I m y1 y5 y6 y7 y8 y9 H' → R [y1, y5, y6, y7, y8, y9] H') → I n x1 x5 x6 x7 x8 x9 H → salvorlaw4_FifoOrder_L12_b R x1 x5 x6 x7 x8 x9 H K) (n : Nat) {x1 x5 x6 x7 x8 x9 : AV} {H : AH} (h : I n x1 x5 x6 x7 x8 x9 H) : salvorlaw4_FifoOrder_L12 x1 x5 x6 x7 x8 x9 H K := by
  refine lp_upto (sCode_one _ _) (LI6 I) ?_ n h
  intro n X H h
  obtain ⟨x1, x5, x6, x7, x8, x9, rfl, h⟩ := h.elim
  exact Eq.mpr (salvorlaw4_FifoOrder_L12_eq _ x1 x5 x6 x7 x8 x9 H K) (round n x1 x5 x6 x7 x8 x9 H (fun X H' => ∃ m, m < n ∧ LI6 I m X H') (fun m y1 y5 y6 y7 y8 y9 H' hm hi => ⟨m, hm, hi⟩) h)
def salvorlaw4_FifoOrder (a0 a1 : AV) (H : AH) (K : AV → AH → Prop) : Prop :=
 bP (PCall Try.prog 12 [a1] H) fun v0 =>
 bO (aun .not v0) fun v1 =>
 bB v1 fun t2 => bI t2 (
 bP (PCall Try.prog 3 [] H) fun v3 =>
 K v3 H)
 (bC (BCall Try.prog 7 [a0] H) fun v4 H5 =>
 bO (abN .eql nilP v4 (.lit (.pointer none))) fun v6 =>
 bB v6 fun t7 => bI t7 (
 K (.lit (.bool false)) H5)
 (bO (amm imx [a0, (.lit (.int .i64 1))]) fun v8 =>
 bO (amm imn [v8, (.lit (.int .i64 4096))]) fun v9 =>
 salvorlaw4_FifoOrder_L12 a1 v4 v9 (.lit (.string ⟨#[]⟩)) (.lit (.string ⟨#[]⟩)) (.lit (.int .i64 0)) H5 K))
theorem salvorlaw4_FifoOrder_eq (a0 a1 : AV) (H : AH) (K : AV → AH → Prop) : sFun Try.prog salvorlaw4_FifoOrder_fl pql salvorlaw4_FifoOrder_kp Try.f5 [a0, a1] H K = salvorlaw4_FifoOrder a0 a1 H K := by kernel_rfl
theorem salvorlaw4_FifoOrder_ok {a0 a1 : AV} {H : AH} {K : AV → AH → Prop} (h : salvorlaw4_FifoOrder a0 a1 H K) : ∃ r H', K r H' ∧ BCall Try.prog 5 [a0, a1] H r H' :=
  sFun_ok mixP Try.func5 (by kernel_rfl) (Eq.mpr (salvorlaw4_FifoOrder_eq a0 a1 H K) h)
/-! salvor/salvorlaw4.FifoOwn -/
def salvorlaw4_FifoOwn_fl : Floats := flOf [(20, [(6, none), (8, none)])]
def salvorlaw4_FifoOwn_kp : Nat → Option (List Bool) := kpOf [(24, mk 79 0 [0, 5, 10]), (20, mk 79 0 [0, 5, 8, 9, 10, 11]), (12, mk 79 0 [0, 5, 6, 7])]
def salvorlaw4_FifoOwn_c (p : List Bool) (n : Nat) : List AV → AH → Kf → Prop := sCode Try.prog salvorlaw4_FifoOwn_fl pql salvorlaw4_FifoOwn_kp (sub p (bodyOf Try.f6)) n
def salvorlaw4_FifoOwn_J24 (x0 x5 x10 : AV) (H : AH) (K : AV → AH → Prop) : Prop := jn (mk 79 0 [0, 5, 10]) (salvorlaw4_FifoOwn_c [true, true, true, true, true, true, true, true, true, true, true] 26) [x0, x5, x10] H (kRet Try.prog Try.f6.results.toList K)
def salvorlaw4_FifoOwn_L20 (x0 x5 x8 x9 x10 x11 : AV) (H : AH) (K : AV → AH → Prop) : Prop := lp (mk 79 0 [0, 5, 8, 9, 10, 11]) (salvorlaw4_FifoOwn_c [true, true, true, true, true, true, true, true, true, false, true, false, false] 21) [x0, x5, x8, x9, x10, x11] H (kBlk 2 (kSeq (salvorlaw4_FifoOwn_c [true, true, true, true, true, true, true, true, true, true] 24) (kRet Try.prog Try.f6.results.toList K)))
def salvorlaw4_FifoOwn_L12 (x0 x5 x6 x7 : AV) (H : AH) (K : AV → AH → Prop) : Prop := lp (mk 79 0 [0, 5, 6, 7]) (salvorlaw4_FifoOwn_c [true, true, true, true, true, true, false, true, false, false] 13) [x0, x5, x6, x7] H (kBlk 0 (kSeq (salvorlaw4_FifoOwn_c [true, true, true, true, true, true, true] 16) (kRet Try.prog Try.f6.results.toList K)))
def salvorlaw4_FifoOwn_J24_b (x0 x5 x10 : AV) (H : AH) (K : AV → AH → Prop) : Prop :=
 bC (BCall Try.prog 11 [x5] H) fun v0 H1 =>
 bO (acB H1 v0) fun v2 =>
 bO (abT .add x10 v2) fun v3 =>
 bO (acB H1 x0) fun v4 =>
 bO (acB H1 x0) fun v5 =>
 bO (abT .add v4 v5) fun v6 =>
 bO (abT .eql v3 v6) fun v7 =>
 bG v7 true fun w8 =>
 gP w8 (BPure Try.prog 3 []) fun v9 =>
 bO (apick v7 v9 (.lit (.bool false))) fun v10 =>
(acB H x0 = some v4) ∧
(acB H x0 = some v5) ∧
 K v10 H1
theorem salvorlaw4_FifoOwn_J24_eq0 (x0 x5 x10 : AV) (H : AH) (K : AV → AH → Prop) : salvorlaw4_FifoOwn_c [true, true, true, true, true, true, true, true, true, true, true] 26 (expand (mk 79 0 [0, 5, 10]) [x0, x5, x10]) H (kRet Try.prog Try.f6.results.toList K) = salvorlaw4_FifoOwn_J24_b x0 x5 x10 H K := by kernel_rfl
theorem salvorlaw4_FifoOwn_J24_eq (x0 x5 x10 : AV) (H : AH) (K : AV → AH → Prop) : salvorlaw4_FifoOwn_J24 x0 x5 x10 H K = salvorlaw4_FifoOwn_J24_b x0 x5 x10 H K := (jn_eq _ _ _ _ _).trans (salvorlaw4_FifoOwn_J24_eq0 x0 x5 x10 H K)
def salvorlaw4_FifoOwn_L20_b (R20 : List AV → AH → Prop) (x0 x5 x8 x9 x10 x11 : AV) (H : AH) (K : AV → AH → Prop) : Prop :=
 bO (alnS x8) fun v0 =>
 bO (abI .lss x11 v0) fun v1 =>
 bB v1 fun t2 => bI t2 (
 bO (aixS 1 x8 x11) fun v3 =>
 bO (ald false 1 H v3) fun v4 =>
 bO (abI .add v4 (.lit (.int .u8 1))) fun v5 =>
 bO (aixS 1 x8 x11) fun v6 =>
 bS (ast 1 H v6 v5) fun H7 =>
 bO (abI .add x11 (.lit (.int .i64 1))) fun v8 =>
 R20 [x0, x5, x8, x9, x10, v8] H7)
 (bO (aun .not x9) fun v9 =>
 bB v9 fun t10 => bI t10 (
 salvorlaw4_FifoOwn_J24 x0 x5 (.lit (.string ⟨#[]⟩)) H K)
 (salvorlaw4_FifoOwn_J24 x0 x5 x10 H K))
theorem salvorlaw4_FifoOwn_L20_eq (R20 : List AV → AH → Prop) (x0 x5 x8 x9 x10 x11 : AV) (H : AH) (K : AV → AH → Prop) : salvorlaw4_FifoOwn_c [true, true, true, true, true, true, true, true, true, false, true, false, false] 21 (expand (mk 79 0 [0, 5, 8, 9, 10, 11]) [x0, x5, x8, x9, x10, x11]) H (kLp (mk 79 0 [0, 5, 8, 9, 10, 11]) R20 (kBlk 2 (kSeq (salvorlaw4_FifoOwn_c [true, true, true, true, true, true, true, true, true, true] 24) (kRet Try.prog Try.f6.results.toList K)))) = salvorlaw4_FifoOwn_L20_b R20 x0 x5 x8 x9 x10 x11 H K := by kernel_rfl
theorem salvorlaw4_FifoOwn_L20_rule {K : AV → AH → Prop} (I : Nat → AV → AV → AV → AV → AV → AV → AH → Prop) (round : ∀ (n : Nat) (x0 x5 x8 x9 x10 x11 : AV) (H : AH) (R : List AV → AH → Prop), (∀ (m : Nat) (y0 y5 y8 y9 y10 y11 : AV) (H' : AH), m < n → I m y0 y5 y8 y9 y10 y11 H' → R [y0, y5, y8, y9, y10, y11] H') → I n x0 x5 x8 x9 x10 x11 H → salvorlaw4_FifoOwn_L20_b R x0 x5 x8 x9 x10 x11 H K) (n : Nat) {x0 x5 x8 x9 x10 x11 : AV} {H : AH} (h : I n x0 x5 x8 x9 x10 x11 H) : salvorlaw4_FifoOwn_L20 x0 x5 x8 x9 x10 x11 H K := by
  refine lp_upto (sCode_one _ _) (LI6 I) ?_ n h
  intro n X H h
  obtain ⟨x0, x5, x8, x9, x10, x11, rfl, h⟩ := h.elim
  exact Eq.mpr (salvorlaw4_FifoOwn_L20_eq _ x0 x5 x8 x9 x10 x11 H K) (round n x0 x5 x8 x9 x10 x11 H (fun X H' => ∃ m, m < n ∧ LI6 I m X H') (fun m y0 y5 y8 y9 y10 y11 H' hm hi => ⟨m, hm, hi⟩) h)
def salvorlaw4_FifoOwn_L12_b (R12 : List AV → AH → Prop) (x0 x5 x6 x7 : AV) (H : AH) (K : AV → AH → Prop) : Prop :=
 bO (alnS x6) fun v0 =>
 bO (abI .lss x7 v0) fun v1 =>
 bB v1 fun t2 => bI t2 (
 bO (aixS 1 x6 x7) fun v3 =>
 bO (ald false 1 H v3) fun v4 =>
 bO (abI .add v4 (.lit (.int .u8 1))) fun v5 =>
 bO (aixS 1 x6 x7) fun v6 =>
 bS (ast 1 H v6 v5) fun H7 =>
 bO (abI .add x7 (.lit (.int .i64 1))) fun v8 =>
 R12 [x0, x5, x6, v8] H7)
 (bC (BCall Try.prog 9 [x5] H) fun v9 H10 =>
 bO (aextract v9 0) fun v11 =>
 bO (aextract v9 1) fun v12 =>
 bO (acB H10 v11) fun v13 =>
 salvorlaw4_FifoOwn_L20 x0 x5 v11 v12 v13 (.lit (.int .i64 0)) H10 K)
theorem salvorlaw4_FifoOwn_L12_eq (R12 : List AV → AH → Prop) (x0 x5 x6 x7 : AV) (H : AH) (K : AV → AH → Prop) : salvorlaw4_FifoOwn_c [true, true, true, true, true, true, false, true, false, false] 13 (expand (mk 79 0 [0, 5, 6, 7]) [x0, x5, x6, x7]) H (kLp (mk 79 0 [0, 5, 6, 7]) R12 (kBlk 0 (kSeq (salvorlaw4_FifoOwn_c [true, true, true, true, true, true, true] 16) (kRet Try.prog Try.f6.results.toList K)))) = salvorlaw4_FifoOwn_L12_b R12 x0 x5 x6 x7 H K := by kernel_rfl
theorem salvorlaw4_FifoOwn_L12_rule {K : AV → AH → Prop} (I : Nat → AV → AV → AV → AV → AH → Prop) (round : ∀ (n : Nat) (x0 x5 x6 x7 : AV) (H : AH) (R : List AV → AH → Prop), (∀ (m : Nat) (y0 y5 y6 y7 : AV) (H' : AH), m < n → I m y0 y5 y6 y7 H' → R [y0, y5, y6, y7] H') → I n x0 x5 x6 x7 H → salvorlaw4_FifoOwn_L12_b R x0 x5 x6 x7 H K) (n : Nat) {x0 x5 x6 x7 : AV} {H : AH} (h : I n x0 x5 x6 x7 H) : salvorlaw4_FifoOwn_L12 x0 x5 x6 x7 H K := by
  refine lp_upto (sCode_one _ _) (LI4 I) ?_ n h
  intro n X H h
  obtain ⟨x0, x5, x6, x7, rfl, h⟩ := h.elim
  exact Eq.mpr (salvorlaw4_FifoOwn_L12_eq _ x0 x5 x6 x7 H K) (round n x0 x5 x6 x7 H (fun X H' => ∃ m, m < n ∧ LI4 I m X H') (fun m y0 y5 y6 y7 H' hm hi => ⟨m, hm, hi⟩) h)
def salvorlaw4_FifoOwn (a0 a1 : AV) (H : AH) (K : AV → AH → Prop) : Prop :=
 bO (alnS a0) fun v0 =>
 bO (abI .gtr v0 (.lit (.int .i64 500))) fun v1 =>
 bB v1 fun t2 => bI t2 (
 bP (PCall Try.prog 3 [] H) fun v3 =>
 K v3 H)
 (bO (acI .i64 a1) fun v4 =>
 bC (BCall Try.prog 7 [v4] H) fun v5 H6 =>
 bO (abN .eql nilP v5 (.lit (.pointer none))) fun v7 =>
 bB v7 fun t8 => bI t8 (
 K (.lit (.bool false)) H6)
 (bH (aap 1 1 H6 (.lit (.slice none 0 0)) a0) fun v9 H10 =>
 bH (absl H10 1 2 (zrow [(.lit (.slice none 0 0))] 2) [(0, 1, v9), (1, 1, v9)]) fun v11 H12 =>
 bC (BCall Try.prog 8 [v5, v11] H12) fun v13 H14 =>
 salvorlaw4_FifoOwn_L12 a0 v5 v9 (.lit (.int .i64 0)) H14 K))
theorem salvorlaw4_FifoOwn_eq (a0 a1 : AV) (H : AH) (K : AV → AH → Prop) : sFun Try.prog salvorlaw4_FifoOwn_fl pql salvorlaw4_FifoOwn_kp Try.f6 [a0, a1] H K = salvorlaw4_FifoOwn a0 a1 H K := by kernel_rfl
theorem salvorlaw4_FifoOwn_ok {a0 a1 : AV} {H : AH} {K : AV → AH → Prop} (h : salvorlaw4_FifoOwn a0 a1 H K) : ∃ r H', K r H' ∧ BCall Try.prog 6 [a0, a1] H r H' :=
  sFun_ok mixP Try.func6 (by kernel_rfl) (Eq.mpr (salvorlaw4_FifoOwn_eq a0 a1 H K) h)
/-! salvor/fifo.New -/
def fifo_New_fl : Floats := flOf []
def fifo_New_kp : Nat → Option (List Bool) := kpOf []
def fifo_New_c (p : List Bool) (n : Nat) : List AV → AH → Kf → Prop := sCode Try.prog fifo_New_fl pql fifo_New_kp (sub p (bodyOf Try.f7)) n
def fifo_New (a0 : AV) (H : AH) (K : AV → AH → Prop) : Prop :=
 bO (amm imx [a0, (.lit (.int .i64 1))]) fun v0 =>
 bO (amm imn [v0, (.lit (.int .i64 4096))]) fun v1 =>
 bO (abl [(.lit (.int .i64 0)), (.lit (.slice none 0 0))] [(0, 1, v1)]) fun v2 =>
 bH (anew H v2) fun v3 H4 =>
 K v3 H4
theorem fifo_New_eq (a0 : AV) (H : AH) (K : AV → AH → Prop) : sFun Try.prog fifo_New_fl pql fifo_New_kp Try.f7 [a0] H K = fifo_New a0 H K := by kernel_rfl
theorem fifo_New_ok {a0 : AV} {H : AH} {K : AV → AH → Prop} (h : fifo_New a0 H K) : ∃ r H', K r H' ∧ BCall Try.prog 7 [a0] H r H' :=
  sFun_ok mixP Try.func7 (by kernel_rfl) (Eq.mpr (fifo_New_eq a0 H K) h)
/-! (*salvor/fifo.Fifo).Put -/
def fifo_Fifo_Put_fl : Floats := flOf []
def fifo_Fifo_Put_kp : Nat → Option (List Bool) := kpOf [(1, mk 22 0 [0, 6, 7, 8])]
def fifo_Fifo_Put_c (p : List Bool) (n : Nat) : List AV → AH → Kf → Prop := sCode Try.prog fifo_Fifo_Put_fl pql fifo_Fifo_Put_kp (sub p (bodyOf Try.f8)) n
def fifo_Fifo_Put_L1 (x0 x6 x7 x8 : AV) (H : AH) (K : AV → AH → Prop) : Prop := lp (mk 22 0 [0, 6, 7, 8]) (fifo_Fifo_Put_c [true, false, false] 2) [x0, x6, x7, x8] H (kBlk 0 (kRet Try.prog Try.f8.results.toList K))
def fifo_Fifo_Put_L1_b (R1 : List AV → AH → Prop) (x0 x6 x7 x8 : AV) (H : AH) (K : AV → AH → Prop) : Prop :=
 bO (abI .lss x8 x7) fun v0 =>
 bB v0 fun t1 => bI t1 (
 bO (aixS 1 x6 x8) fun v2 =>
 bO (ald false 1 H v2) fun v3 =>
 bO (anilCheck x0) fun v4 =>
 bO (ashift 1 v4) fun v5 =>
 bO (ald false 1 H v5) fun v6 =>
 bH (aap 1 1 H v6 v3) fun v7 H8 =>
 bO (anilCheck x0) fun v9 =>
 bO (ashift 1 v9) fun v10 =>
 bS (ast 1 H8 v10 v7) fun H11 =>
 bO (abI .add x8 (.lit (.int .i64 1))) fun v12 =>
 R1 [x0, x6, x7, v12] H11)
 (K (.tup []) H)
theorem fifo_Fifo_Put_L1_eq (R1 : List AV → AH → Prop) (x0 x6 x7 x8 : AV) (H : AH) (K : AV → AH → Prop) : fifo_Fifo_Put_c [true, false, false] 2 (expand (mk 22 0 [0, 6, 7, 8]) [x0, x6, x7, x8]) H (kLp (mk 22 0 [0, 6, 7, 8]) R1 (kBlk 0 (kRet Try.prog Try.f8.results.toList K))) = fifo_Fifo_Put_L1_b R1 x0 x6 x7 x8 H K := by kernel_rfl
theorem fifo_Fifo_Put_L1_rule {K : AV → AH → Prop} (I : Nat → AV → AV → AV → AV → AH → Prop) (round : ∀ (n : Nat) (x0 x6 x7 x8 : AV) (H : AH) (R : List AV → AH → Prop), (∀ (m : Nat) (y0 y6 y7 y8 : AV) (H' : AH), m < n → I m y0 y6 y7 y8 H' → R [y0, y6, y7, y8] H') → I n x0 x6 x7 x8 H → fifo_Fifo_Put_L1_b R x0 x6 x7 x8 H K) (n : Nat) {x0 x6 x7 x8 : AV} {H : AH} (h : I n x0 x6 x7 x8 H) : fifo_Fifo_Put_L1 x0 x6 x7 x8 H K := by
  refine lp_upto (sCode_one _ _) (LI4 I) ?_ n h
  intro n X H h
  obtain ⟨x0, x6, x7, x8, rfl, h⟩ := h.elim
  exact Eq.mpr (fifo_Fifo_Put_L1_eq _ x0 x6 x7 x8 H K) (round n x0 x6 x7 x8 H (fun X H' => ∃ m, m < n ∧ LI4 I m X H') (fun m y0 y6 y7 y8 H' hm hi => ⟨m, hm, hi⟩) h)
def fifo_Fifo_Put (a0 a1 : AV) (H : AH) (K : AV → AH → Prop) : Prop :=
 bO (alnS a1) fun v0 =>
 fifo_Fifo_Put_L1 a0 a1 v0 (.lit (.int .i64 0)) H K
theorem fifo_Fifo_Put_eq (a0 a1 : AV) (H : AH) (K : AV → AH → Prop) : sFun Try.prog fifo_Fifo_Put_fl pql fifo_Fifo_Put_kp Try.f8 [a0, a1] H K = fifo_Fifo_Put a0 a1 H K := by kernel_rfl
theorem fifo_Fifo_Put_ok {a0 a1 : AV} {H : AH} {K : AV → AH → Prop} (h : fifo_Fifo_Put a0 a1 H K) : ∃ r H', K r H' ∧ BCall Try.prog 8 [a0, a1] H r H' :=
  sFun_ok mixP Try.func8 (by kernel_rfl) (Eq.mpr (fifo_Fifo_Put_eq a0 a1 H K) h)
/-! (*salvor/fifo.Fifo).Take -/
def fifo_Fifo_Take_fl : Floats := flOf []
def fifo_Fifo_Take_kp : Nat → Option (List Bool) := kpOf []
def fifo_Fifo_Take_c (p : List Bool) (n : Nat) : List AV → AH → Kf → Prop := sCode Try.prog fifo_Fifo_Take_fl pql fifo_Fifo_Take_kp (sub p (bodyOf Try.f9)) n
def fifo_Fifo_Take (a0 : AV) (H : AH) (K : AV → AH → Prop) : Prop :=
 bO (anilCheck a0) fun v0 =>
 bO (ashift 1 v0) fun v1 =>
 bO (ald false 1 H v1) fun v2 =>
 bO (alnS v2) fun v3 =>
 bO (anilCheck a0) fun v4 =>
 bO (ashift 0 v4) fun v5 =>
 bO (ald false 1 H v5) fun v6 =>
 bO (abI .lss v3 v6) fun v7 =>
 bB v7 fun t8 => bI t8 (
 K (.tup [(.lit (.slice none 0 0)), (.lit (.bool false))]) H)
 (bO (anilCheck a0) fun v9 =>
 bO (ashift 1 v9) fun v10 =>
 bO (ald false 1 H v10) fun v11 =>
 bO (anilCheck a0) fun v12 =>
 bO (ashift 0 v12) fun v13 =>
 bO (ald false 1 H v13) fun v14 =>
 bO (aslS 1 v11 none (some v14) none) fun v15 =>
 bC (BCall Try.prog 17 [v15] H) fun v16 H17 =>
 bO (anilCheck a0) fun v18 =>
 bO (ashift 1 v18) fun v19 =>
 bO (ald false 1 H17 v19) fun v20 =>
 bO (anilCheck a0) fun v21 =>
 bO (ashift 0 v21) fun v22 =>
 bO (ald false 1 H17 v22) fun v23 =>
 bO (aslS 1 v20 (some v23) none none) fun v24 =>
 bO (anilCheck a0) fun v25 =>
 bO (ashift 1 v25) fun v26 =>
 bS (ast 1 H17 v26 v24) fun H27 =>
 K (.tup [v16, (.lit (.bool true))]) H27)
theorem fifo_Fifo_Take_eq (a0 : AV) (H : AH) (K : AV → AH → Prop) : sFun Try.prog fifo_Fifo_Take_fl pql fifo_Fifo_Take_kp Try.f9 [a0] H K = fifo_Fifo_Take a0 H K := by kernel_rfl
theorem fifo_Fifo_Take_ok {a0 : AV} {H : AH} {K : AV → AH → Prop} (h : fifo_Fifo_Take a0 H K) : ∃ r H', K r H' ∧ BCall Try.prog 9 [a0] H r H' :=
  sFun_ok mixP Try.func9 (by kernel_rfl) (Eq.mpr (fifo_Fifo_Take_eq a0 H K) h)
/-! (*salvor/fifo.Fifo).Len -/
def fifo_Fifo_Len_fl : Floats := flOf []
def fifo_Fifo_Len_kp : Nat → Option (List Bool) := kpOf []
def fifo_Fifo_Len_c (p : List Bool) (n : Nat) : List AV → AH → Kf → Prop := sCode Try.prog fifo_Fifo_Len_fl pql fifo_Fifo_Len_kp (sub p (bodyOf Try.f10)) n
def fifo_Fifo_Len (a0 : AV) (H : AH) (K : AV → AH → Prop) : Prop :=
 bO (anilCheck a0) fun v0 =>
 bO (ashift 1 v0) fun v1 =>
 bO (ald false 1 H v1) fun v2 =>
 bO (alnS v2) fun v3 =>
 K v3 H
theorem fifo_Fifo_Len_eq (a0 : AV) (H : AH) (K : AV → AH → Prop) : sFun Try.prog fifo_Fifo_Len_fl pql fifo_Fifo_Len_kp Try.f10 [a0] H K = fifo_Fifo_Len a0 H K := by kernel_rfl
theorem fifo_Fifo_Len_ok {a0 : AV} {H : AH} {K : AV → AH → Prop} (h : fifo_Fifo_Len a0 H K) : ∃ r H', K r H' ∧ BCall Try.prog 10 [a0] H r H' :=
  sFun_ok mixP Try.func10 (by kernel_rfl) (Eq.mpr (fifo_Fifo_Len_eq a0 H K) h)
/-! (*salvor/fifo.Fifo).Rest -/
def fifo_Fifo_Rest_fl : Floats := flOf []
def fifo_Fifo_Rest_kp : Nat → Option (List Bool) := kpOf []
def fifo_Fifo_Rest_c (p : List Bool) (n : Nat) : List AV → AH → Kf → Prop := sCode Try.prog fifo_Fifo_Rest_fl pql fifo_Fifo_Rest_kp (sub p (bodyOf Try.f11)) n
def fifo_Fifo_Rest (a0 : AV) (H : AH) (K : AV → AH → Prop) : Prop :=
 bO (anilCheck a0) fun v0 =>
 bO (ashift 1 v0) fun v1 =>
 bO (ald false 1 H v1) fun v2 =>
 bC (BCall Try.prog 17 [v2] H) fun v3 H4 =>
 bO (anilCheck a0) fun v5 =>
 bO (ashift 1 v5) fun v6 =>
 bS (ast 1 H4 v6 (.lit (.slice none 0 0))) fun H7 =>
 K v3 H7
theorem fifo_Fifo_Rest_eq (a0 : AV) (H : AH) (K : AV → AH → Prop) : sFun Try.prog fifo_Fifo_Rest_fl pql fifo_Fifo_Rest_kp Try.f11 [a0] H K = fifo_Fifo_Rest a0 H K := by kernel_rfl
theorem fifo_Fifo_Rest_ok {a0 : AV} {H : AH} {K : AV → AH → Prop} (h : fifo_Fifo_Rest a0 H K) : ∃ r H', K r H' ∧ BCall Try.prog 11 [a0] H r H' :=
  sFun_ok mixP Try.func11 (by kernel_rfl) (Eq.mpr (fifo_Fifo_Rest_eq a0 H K) h)
/-! salvor/salvorlaw4.few -/
def salvorlaw4_few_fl : Floats := flOf []
def salvorlaw4_few_kp : Nat → Option (List Bool) := kpOf [(4, mk 53 0 [0, 3, 4])]
def salvorlaw4_few_c (p : List Bool) (n : Nat) : List AV → AH → Kf → Prop := sCode Try.prog salvorlaw4_few_fl pql salvorlaw4_few_kp (sub p (bodyOf Try.f12)) n
def salvorlaw4_few_L4 (x0 x3 x4 : AV) (H : AH) (K : AV → AH → Prop) : Prop := lp (mk 53 0 [0, 3, 4]) (salvorlaw4_few_c [true, true, false, true, false, false] 5) [x0, x3, x4] H (kBlk 0 (kSeq (salvorlaw4_few_c [true, true, true] 11) (kRet Try.prog Try.f12.results.toList K)))
def salvorlaw4_few_L4_b (R4 : List AV → AH → Prop) (x0 x3 x4 : AV) (H : AH) (K : AV → AH → Prop) : Prop :=
 bO (alnS x0) fun v0 =>
 bO (abI .lss x4 v0) fun v1 =>
 bG v1 true fun w2 =>
 gO w2 (some x4) fun v3 =>
 bG v1 true fun w4 =>
 gO w4 (abI .lss v3 (.lit (.int .i64 100))) fun v5 =>
 bO (apick v1 v5 (.lit (.bool false))) fun v6 =>
 bB v6 fun t7 => bI t7 (
 bO (aixS 3 x0 x4) fun v8 =>
 bO (ashift 1 v8) fun v9 =>
 bO (ald false 1 H v9) fun v10 =>
 bO (alnS v10) fun v11 =>
 bO (abI .gtr v11 (.lit (.int .i64 2000))) fun v12 =>
 bG v12 false fun w13 =>
 gO w13 (some x0) fun v14 =>
 bG v12 false fun w15 =>
 gO w15 (some x4) fun v16 =>
 bG v12 false fun w17 =>
 gO w17 (aixS 3 v14 v16) fun v18 =>
 bG v12 false fun w19 =>
 gO w19 (ashift 2 v18) fun v20 =>
 bG v12 false fun w21 =>
 gO w21 (ald false 1 H v20) fun v22 =>
 bG v12 false fun w23 =>
 gO w23 (alnS v22) fun v24 =>
 bG v12 false fun w25 =>
 gO w25 (abI .gtr v24 (.lit (.int .i64 2000))) fun v26 =>
 bO (apick v12 (.lit (.bool true)) v26) fun v27 =>
 bB v27 fun t28 => bI t28 (
 K (.lit (.bool false)) H)
 (bO (aixS 3 x0 x4) fun v29 =>
 bO (ashift 1 v29) fun v30 =>
 bO (ald false 1 H v30) fun v31 =>
 bO (alnS v31) fun v32 =>
 bO (abI .add x3 v32) fun v33 =>
 bO (aixS 3 x0 x4) fun v34 =>
 bO (ashift 2 v34) fun v35 =>
 bO (ald false 1 H v35) fun v36 =>
 bO (alnS v36) fun v37 =>
 bO (abI .add v33 v37) fun v38 =>
 bO (abI .add x4 (.lit (.int .i64 1))) fun v39 =>
 R4 [x0, v38, v39] H))
 (bO (alnS x0) fun v40 =>
 bO (abI .leq v40 (.lit (.int .i64 60))) fun v41 =>
 bG v41 true fun w42 =>
 gO w42 (some x3) fun v43 =>
 bG v41 true fun w44 =>
 gO w44 (abI .leq v43 (.lit (.int .i64 12000))) fun v45 =>
 bO (apick v41 v45 (.lit (.bool false))) fun v46 =>
 K v46 H)
theorem salvorlaw4_few_L4_eq (R4 : List AV → AH → Prop) (x0 x3 x4 : AV) (H : AH) (K : AV → AH → Prop) : salvorlaw4_few_c [true, true, false, true, false, false] 5 (expand (mk 53 0 [0, 3, 4]) [x0, x3, x4]) H (kLp (mk 53 0 [0, 3, 4]) R4 (kBlk 0 (kSeq (salvorlaw4_few_c [true, true, true] 11) (kRet Try.prog Try.f12.results.toList K)))) = salvorlaw4_few_L4_b R4 x0 x3 x4 H K := by kernel_rfl
theorem salvorlaw4_few_L4_rule {K : AV → AH → Prop} (I : Nat → AV → AV → AV → AH → Prop) (round : ∀ (n : Nat) (x0 x3 x4 : AV) (H : AH) (R : List AV → AH → Prop), (∀ (m : Nat) (y0 y3 y4 : AV) (H' : AH), m < n → I m y0 y3 y4 H' → R [y0, y3, y4] H') → I n x0 x3 x4 H → salvorlaw4_few_L4_b R x0 x3 x4 H K) (n : Nat) {x0 x3 x4 : AV} {H : AH} (h : I n x0 x3 x4 H) : salvorlaw4_few_L4 x0 x3 x4 H K := by
  refine lp_upto (sCode_one _ _) (LI3 I) ?_ n h
  intro n X H h
  obtain ⟨x0, x3, x4, rfl, h⟩ := h.elim
  exact Eq.mpr (salvorlaw4_few_L4_eq _ x0 x3 x4 H K) (round n x0 x3 x4 H (fun X H' => ∃ m, m < n ∧ LI3 I m X H') (fun m y0 y3 y4 H' hm hi => ⟨m, hm, hi⟩) h)
def salvorlaw4_few (a0 : AV) (H : AH) (K : AV → AH → Prop) : Prop :=
 salvorlaw4_few_L4 a0 (.lit (.int .i64 0)) (.lit (.int .i64 0)) H K
theorem salvorlaw4_few_eq (a0 : AV) (H : AH) (K : AV → AH → Prop) : sFun Try.prog salvorlaw4_few_fl pql salvorlaw4_few_kp Try.f12 [a0] H K = salvorlaw4_few a0 H K := by kernel_rfl
theorem salvorlaw4_few_ok {a0 : AV} {H : AH} {K : AV → AH → Prop} (h : salvorlaw4_few a0 H K) : ∃ r H', K r H' ∧ BCall Try.prog 12 [a0] H r H' :=
  sFun_ok mixP Try.func12 (by kernel_rfl) (Eq.mpr (salvorlaw4_few_eq a0 H K) h)
/-! salvor/salvorref1.NewFifo -/
def salvorref1_NewFifo_fl : Floats := flOf []
def salvorref1_NewFifo_kp : Nat → Option (List Bool) := kpOf []
def salvorref1_NewFifo_c (p : List Bool) (n : Nat) : List AV → AH → Kf → Prop := sCode Try.prog salvorref1_NewFifo_fl pql salvorref1_NewFifo_kp (sub p (bodyOf Try.f13)) n
def salvorref1_NewFifo (a0 : AV) (H : AH) (K : AV → AH → Prop) : Prop :=
 bO (amm imx [a0, (.lit (.int .i64 1))]) fun v0 =>
 bO (amm imn [v0, (.lit (.int .i64 4096))]) fun v1 =>
 bO (abl [(.lit (.int .i64 0)), (.lit (.slice none 0 0))] [(0, 1, v1)]) fun v2 =>
 bH (anew H v2) fun v3 H4 =>
 K v3 H4
theorem salvorref1_NewFifo_eq (a0 : AV) (H : AH) (K : AV → AH → Prop) : sFun Try.prog salvorref1_NewFifo_fl pql salvorref1_NewFifo_kp Try.f13 [a0] H K = salvorref1_NewFifo a0 H K := by kernel_rfl
theorem salvorref1_NewFifo_ok {a0 : AV} {H : AH} {K : AV → AH → Prop} (h : salvorref1_NewFifo a0 H K) : ∃ r H', K r H' ∧ BCall Try.prog 13 [a0] H r H' :=
  sFun_ok mixP Try.func13 (by kernel_rfl) (Eq.mpr (salvorref1_NewFifo_eq a0 H K) h)
/-! (*salvor/salvorref1.Fifo).Put -/
def salvorref1_Fifo_Put_fl : Floats := flOf []
def salvorref1_Fifo_Put_kp : Nat → Option (List Bool) := kpOf []
def salvorref1_Fifo_Put_c (p : List Bool) (n : Nat) : List AV → AH → Kf → Prop := sCode Try.prog salvorref1_Fifo_Put_fl pql salvorref1_Fifo_Put_kp (sub p (bodyOf Try.f14)) n
def salvorref1_Fifo_Put (a0 a1 : AV) (H : AH) (K : AV → AH → Prop) : Prop :=
 bO (anilCheck a0) fun v0 =>
 bO (ashift 1 v0) fun v1 =>
 bO (ald false 1 H v1) fun v2 =>
 bH (aap 1 1 H v2 a1) fun v3 H4 =>
 bO (anilCheck a0) fun v5 =>
 bO (ashift 1 v5) fun v6 =>
 bS (ast 1 H4 v6 v3) fun H7 =>
 K (.tup []) H7
theorem salvorref1_Fifo_Put_eq (a0 a1 : AV) (H : AH) (K : AV → AH → Prop) : sFun Try.prog salvorref1_Fifo_Put_fl pql salvorref1_Fifo_Put_kp Try.f14 [a0, a1] H K = salvorref1_Fifo_Put a0 a1 H K := by kernel_rfl
theorem salvorref1_Fifo_Put_ok {a0 a1 : AV} {H : AH} {K : AV → AH → Prop} (h : salvorref1_Fifo_Put a0 a1 H K) : ∃ r H', K r H' ∧ BCall Try.prog 14 [a0, a1] H r H' :=
  sFun_ok mixP Try.func14 (by kernel_rfl) (Eq.mpr (salvorref1_Fifo_Put_eq a0 a1 H K) h)
/-! (*salvor/salvorref1.Fifo).Take -/
def salvorref1_Fifo_Take_fl : Floats := flOf []
def salvorref1_Fifo_Take_kp : Nat → Option (List Bool) := kpOf []
def salvorref1_Fifo_Take_c (p : List Bool) (n : Nat) : List AV → AH → Kf → Prop := sCode Try.prog salvorref1_Fifo_Take_fl pql salvorref1_Fifo_Take_kp (sub p (bodyOf Try.f15)) n
def salvorref1_Fifo_Take (a0 : AV) (H : AH) (K : AV → AH → Prop) : Prop :=
 bO (anilCheck a0) fun v0 =>
 bO (ashift 1 v0) fun v1 =>
 bO (ald false 1 H v1) fun v2 =>
 bO (alnS v2) fun v3 =>
 bO (anilCheck a0) fun v4 =>
 bO (ashift 0 v4) fun v5 =>
 bO (ald false 1 H v5) fun v6 =>
 bO (abI .lss v3 v6) fun v7 =>
 bB v7 fun t8 => bI t8 (
 K (.tup [(.lit (.slice none 0 0)), (.lit (.bool false))]) H)
 (bO (anilCheck a0) fun v9 =>
 bO (ashift 1 v9) fun v10 =>
 bO (ald false 1 H v10) fun v11 =>
 bO (anilCheck a0) fun v12 =>
 bO (ashift 0 v12) fun v13 =>
 bO (ald false 1 H v13) fun v14 =>
 bO (aslS 1 v11 none (some v14) none) fun v15 =>
 bH (aap 1 1 H (.lit (.slice none 0 0)) v15) fun v16 H17 =>
 bO (anilCheck a0) fun v18 =>
 bO (ashift 1 v18) fun v19 =>
 bO (ald false 1 H17 v19) fun v20 =>
 bO (anilCheck a0) fun v21 =>
 bO (ashift 0 v21) fun v22 =>
 bO (ald false 1 H17 v22) fun v23 =>
 bO (aslS 1 v20 (some v23) none none) fun v24 =>
 bH (aap 1 1 H17 (.lit (.slice none 0 0)) v24) fun v25 H26 =>
 bO (anilCheck a0) fun v27 =>
 bO (ashift 1 v27) fun v28 =>
 bS (ast 1 H26 v28 v25) fun H29 =>
 K (.tup [v16, (.lit (.bool true))]) H29)
theorem salvorref1_Fifo_Take_eq (a0 : AV) (H : AH) (K : AV → AH → Prop) : sFun Try.prog salvorref1_Fifo_Take_fl pql salvorref1_Fifo_Take_kp Try.f15 [a0] H K = salvorref1_Fifo_Take a0 H K := by kernel_rfl
theorem salvorref1_Fifo_Take_ok {a0 : AV} {H : AH} {K : AV → AH → Prop} (h : salvorref1_Fifo_Take a0 H K) : ∃ r H', K r H' ∧ BCall Try.prog 15 [a0] H r H' :=
  sFun_ok mixP Try.func15 (by kernel_rfl) (Eq.mpr (salvorref1_Fifo_Take_eq a0 H K) h)
/-! (*salvor/salvorref1.Fifo).Rest -/
def salvorref1_Fifo_Rest_fl : Floats := flOf []
def salvorref1_Fifo_Rest_kp : Nat → Option (List Bool) := kpOf []
def salvorref1_Fifo_Rest_c (p : List Bool) (n : Nat) : List AV → AH → Kf → Prop := sCode Try.prog salvorref1_Fifo_Rest_fl pql salvorref1_Fifo_Rest_kp (sub p (bodyOf Try.f16)) n
def salvorref1_Fifo_Rest (a0 : AV) (H : AH) (K : AV → AH → Prop) : Prop :=
 bO (anilCheck a0) fun v0 =>
 bO (ashift 1 v0) fun v1 =>
 bO (ald false 1 H v1) fun v2 =>
 bO (anilCheck a0) fun v3 =>
 bO (ashift 1 v3) fun v4 =>
 bS (ast 1 H v4 (.lit (.slice none 0 0))) fun H5 =>
 K v2 H5
theorem salvorref1_Fifo_Rest_eq (a0 : AV) (H : AH) (K : AV → AH → Prop) : sFun Try.prog salvorref1_Fifo_Rest_fl pql salvorref1_Fifo_Rest_kp Try.f16 [a0] H K = salvorref1_Fifo_Rest a0 H K := by kernel_rfl
theorem salvorref1_Fifo_Rest_ok {a0 : AV} {H : AH} {K : AV → AH → Prop} (h : salvorref1_Fifo_Rest a0 H K) : ∃ r H', K r H' ∧ BCall Try.prog 16 [a0] H r H' :=
  sFun_ok mixP Try.func16 (by kernel_rfl) (Eq.mpr (salvorref1_Fifo_Rest_eq a0 H K) h)
/-! slices.Clone[[]byte,byte] -/
def slices_Clone_Lbyte_byte_fl : Floats := flOf []
def slices_Clone_Lbyte_byte_kp : Nat → Option (List Bool) := kpOf []
def slices_Clone_Lbyte_byte_c (p : List Bool) (n : Nat) : List AV → AH → Kf → Prop := sCode Try.prog slices_Clone_Lbyte_byte_fl pql slices_Clone_Lbyte_byte_kp (sub p (bodyOf Try.f17)) n
def slices_Clone_Lbyte_byte (a0 : AV) (H : AH) (K : AV → AH → Prop) : Prop :=
 bO (abN .eql nilS a0 (.lit (.slice none 0 0))) fun v0 =>
 bB v0 fun t1 => bI t1 (
 K (.lit (.slice none 0 0)) H)
 (bH (absl H 1 0 (zrow [(.lit (.int .u8 0))] 0) []) fun v2 H3 =>
 bH (aap 1 1 H3 v2 a0) fun v4 H5 =>
 K v4 H5)
theorem slices_Clone_Lbyte_byte_eq (a0 : AV) (H : AH) (K : AV → AH → Prop) : sFun Try.prog slices_Clone_Lbyte_byte_fl pql slices_Clone_Lbyte_byte_kp Try.f17 [a0] H K = slices_Clone_Lbyte_byte a0 H K := by kernel_rfl
theorem slices_Clone_Lbyte_byte_ok {a0 : AV} {H : AH} {K : AV → AH → Prop} (h : slices_Clone_Lbyte_byte a0 H K) : ∃ r H', K r H' ∧ BCall Try.prog 17 [a0] H r H' :=
  sFun_ok mixP Try.func17 (by kernel_rfl) (Eq.mpr (slices_Clone_Lbyte_byte_eq a0 H K) h)
end Go.Proofs.Ytmokogdcikdlfaa.Av
