/- Formulas of functions of the program: printed by a program of this session (wip/tools/Pr.lean.txt), each checked by the kernel. -/
import Derived.Test.YtobdiaalmhcimaaAvG
import Derived.Test.YtobdiaalmhcimaaAvZ
set_option linter.unusedVariables false
set_option maxRecDepth 100000
namespace Go.Proofs.Ytobdiaalmhcimaa.Av
open Go
def pql : FuncId → Bool := inL [11,12,13,14,15,16,17,18,19,20,21,22,23,24,25,26,27,28,29,30,3]
theorem mixP : Try.prog.follows .mixedOrders = true := by kernel_rfl
/-! salvor/salvorlaw1.OffRuns -/
def salvorlaw1_OffRuns_fl : Floats := flOf []
def salvorlaw1_OffRuns_kp : Nat → Option (List Bool) := kpOf []
def salvorlaw1_OffRuns_c (p : List Bool) (n : Nat) : List AV → AH → Kf → Prop := sCode Try.prog salvorlaw1_OffRuns_fl pql salvorlaw1_OffRuns_kp (sub p (bodyOf Try.f3)) n
def salvorlaw1_OffRuns (H : AH) (K : AV → AH → Prop) : Prop :=
bH (absl H 1 3 (zrow [(.lit (.int .i64 0))] 3) [(0, 1, (.lit (.int .i64 1))), (1, 1, (.lit (.int .i64 2))), (2, 1, (.lit (.int .i64 3)))]) fun v0 H1 =>
bP (PCall Try.prog 11 [v0] H1) fun v2 =>
bO (aextract v2 0) fun v3 =>
bO (aextract v2 1) fun v4 =>
bP (PCall Try.prog 12 [(.lit (.slice none 0 0))] H1) fun v5 =>
bO (aextract v5 0) fun v6 =>
bO (aextract v5 1) fun v7 =>
bO (abl [(.lit (.int .i64 0)), (.lit (.int .i64 0))] [(0, 1, (.lit (.int .i64 5))), (1, 1, (.lit (.int .i64 6)))]) fun v8 =>
bP (PCall Try.prog 13 [v8, (.lit (.int .i64 8))] H1) fun v9 =>
bO (abI .eql v3 (.lit (.int .i64 6))) fun v10 =>
bG v10 true fun w11 =>
gO w11 (some v4) fun v12 =>
bO (apick v10 v12 (.lit (.bool false))) fun v13 =>
bG v13 true fun w14 =>
gO w14 (some v6) fun v15 =>
bG v13 true fun w16 =>
gO w16 (abI .eql v15 (.lit (.int .i64 1))) fun v17 =>
bO (apick v13 v17 (.lit (.bool false))) fun v18 =>
bG v18 true fun w19 =>
gO w19 (some v7) fun v20 =>
bO (apick v18 v20 (.lit (.bool false))) fun v21 =>
bG v21 true fun w22 =>
gO w22 (some v9) fun v23 =>
bG v21 true fun w24 =>
gO w24 (alnS v23) fun v25 =>
bG v21 true fun w26 =>
gO w26 (abI .eql v25 (.lit (.int .i64 2))) fun v27 =>
bO (apick v21 v27 (.lit (.bool false))) fun v28 =>
bG v28 true fun w29 =>
gO w29 (some v9) fun v30 =>
bG v28 true fun w31 =>
gO w31 (aixS 2 v30 (.lit (.int .i64 0))) fun v32 =>
bG v28 true fun w33 =>
gO w33 (ald true 2 H1 v32) fun v34 =>
bG v28 true fun w35 =>
gO w35 (abl [(.lit (.int .i64 0)), (.lit (.int .i64 0))] [(0, 1, (.lit (.int .i64 5))), (1, 1, (.lit (.int .i64 3)))]) fun v36 =>
bG v28 true fun w37 =>
gO w37 (abin Try.prog .eql 27 v34 v36) fun v38 =>
bO (apick v28 v38 (.lit (.bool false))) fun v39 =>
bG v39 true fun w40 =>
gO w40 (some v9) fun v41 =>
bG v39 true fun w42 =>
gO w42 (aixS 2 v41 (.lit (.int .i64 1))) fun v43 =>
bG v39 true fun w44 =>
gO w44 (ald true 2 H1 v43) fun v45 =>
bG v39 true fun w46 =>
gO w46 (abl [(.lit (.int .i64 0)), (.lit (.int .i64 0))] [(0, 1, (.lit (.int .i64 8))), (1, 1, (.lit (.int .i64 3)))]) fun v47 =>
bG v39 true fun w48 =>
gO w48 (abin Try.prog .eql 27 v45 v47) fun v49 =>
bO (apick v39 v49 (.lit (.bool false))) fun v50 =>
bG v50 true fun w51 =>
gP w51 (PCall Try.prog 14 [(.lit (.int .i64 4611686018427387904))] H1) fun v52 =>
bO (apick v50 v52 (.lit (.bool false))) fun v53 =>
bG v53 true fun w54 =>
gP w54 (PCall Try.prog 14 [(.lit (.int .i64 (-1)))] H1) fun v55 =>
bG v53 true fun w56 =>
gO w56 (aun .not v55) fun v57 =>
bO (apick v53 v57 (.lit (.bool false))) fun v58 =>
K v58 H1
theorem salvorlaw1_OffRuns_eq (H : AH) (K : AV → AH → Prop) : sFun Try.prog salvorlaw1_OffRuns_fl pql salvorlaw1_OffRuns_kp Try.f3 [] H K = salvorlaw1_OffRuns H K := by kernel_rfl
theorem salvorlaw1_OffRuns_ok {H : AH} {K : AV → AH → Prop} (h : salvorlaw1_OffRuns H K) : ∃ r H', K r H' ∧ BCall Try.prog 3 [] H r H' :=
  sFun_ok mixP Try.func3 (by kernel_rfl) (Eq.mpr (salvorlaw1_OffRuns_eq H K) h)
/-! salvor/salvorlaw1.OffSums -/
def salvorlaw1_OffSums_fl : Floats := flOf []
def salvorlaw1_OffSums_kp : Nat → Option (List Bool) := kpOf [(10, mk 74 0 [0, 3, 4, 5, 6, 7, 8, 9, 10, 11])]
def salvorlaw1_OffSums_c (p : List Bool) (n : Nat) : List AV → AH → Kf → Prop := sCode Try.prog salvorlaw1_OffSums_fl pql salvorlaw1_OffSums_kp (sub p (bodyOf Try.f4)) n
def salvorlaw1_OffSums_L10 (x0 x3 x4 x5 x6 x7 x8 x9 x10 x11 : AV) (H : AH) (K : AV → AH → Prop) : Prop := lp (mk 74 0 [0, 3, 4, 5, 6, 7, 8, 9, 10, 11]) (salvorlaw1_OffSums_c [true, true, true, true, true, true, false, true, false, false] 11) [x0, x3, x4, x5, x6, x7, x8, x9, x10, x11] H (kBlk 0 (kSeq (salvorlaw1_OffSums_c [true, true, true, true, true, true, true] 16) (kRet Try.prog Try.f4.results.toList K)))
def salvorlaw1_OffSums_L10_b (R10 : List AV → AH → Prop) (x0 x3 x4 x5 x6 x7 x8 x9 x10 x11 : AV) (H : AH) (K : AV → AH → Prop) : Prop :=
bO (alnS x0) fun v0 =>
bO (abI .lss x11 v0) fun v1 =>
bB v1 fun t2 => bI t2 (
bO (aixS 1 x0 x11) fun v3 =>
bO (ald false 1 H v3) fun v4 =>
bP (BPure Try.prog 14 [v4]) fun v5 =>
bO (aixS 1 x0 x11) fun v6 =>
bO (ald false 1 H v6) fun v7 =>
bP (BPure Try.prog 17 [v7]) fun v8 =>
bO (abB .neq v5 v8) fun v9 =>
bB v9 fun t10 => bI t10 (
K (.lit (.bool false)) H)
 (bO (abI .add x11 (.lit (.int .i64 1))) fun v11 =>
R10 [x0, x3, x4, x5, x6, x7, x8, x9, x10, v11] H))
 (bO (abI .eql x3 x5) fun v12 =>
bG v12 true fun w13 =>
gO w13 (some x4) fun v14 =>
bG v12 true fun w15 =>
gO w15 (some x6) fun v16 =>
bG v12 true fun w17 =>
gO w17 (abB .eql v14 v16) fun v18 =>
bO (apick v12 v18 (.lit (.bool false))) fun v19 =>
bG v19 true fun w20 =>
gO w20 (some x7) fun v21 =>
bG v19 true fun w22 =>
gO w22 (some x9) fun v23 =>
bG v19 true fun w24 =>
gO w24 (abI .eql v21 v23) fun v25 =>
bO (apick v19 v25 (.lit (.bool false))) fun v26 =>
bG v26 true fun w27 =>
gO w27 (some x8) fun v28 =>
bG v26 true fun w29 =>
gO w29 (some x10) fun v30 =>
bG v26 true fun w31 =>
gO w31 (abB .eql v28 v30) fun v32 =>
bO (apick v26 v32 (.lit (.bool false))) fun v33 =>
bG v33 true fun w34 =>
gP w34 (PCall Try.prog 3 [] H) fun v35 =>
bO (apick v33 v35 (.lit (.bool false))) fun v36 =>
K v36 H)
theorem salvorlaw1_OffSums_L10_eq (R10 : List AV → AH → Prop) (x0 x3 x4 x5 x6 x7 x8 x9 x10 x11 : AV) (H : AH) (K : AV → AH → Prop) : salvorlaw1_OffSums_c [true, true, true, true, true, true, false, true, false, false] 11 (expand (mk 74 0 [0, 3, 4, 5, 6, 7, 8, 9, 10, 11]) [x0, x3, x4, x5, x6, x7, x8, x9, x10, x11]) H (kLp (mk 74 0 [0, 3, 4, 5, 6, 7, 8, 9, 10, 11]) R10 (kBlk 0 (kSeq (salvorlaw1_OffSums_c [true, true, true, true, true, true, true] 16) (kRet Try.prog Try.f4.results.toList K)))) = salvorlaw1_OffSums_L10_b R10 x0 x3 x4 x5 x6 x7 x8 x9 x10 x11 H K := by kernel_rfl
theorem salvorlaw1_OffSums_L10_rule {K : AV → AH → Prop} (I : Nat → AV → AV → AV → AV → AV → AV → AV → AV → AV → AV → AH → Prop) (round : ∀ (n : Nat) (x0 x3 x4 x5 x6 x7 x8 x9 x10 x11 : AV) (H : AH) (R : List AV → AH → Prop), (∀ (m : Nat) (y0 y3 y4 y5 y6 y7 y8 y9 y10 y11 : AV) (H' : AH), m < n → I m y0 y3 y4 y5 y6 y7 y8 y9 y10 y11 H' → R [y0, y3, y4, y5, y6, y7, y8, y9, y10, y11] H') → I n x0 x3 x4 x5 x6 x7 x8 x9 x10 x11 H → salvorlaw1_OffSums_L10_b R x0 x3 x4 x5 x6 x7 x8 x9 x10 x11 H K) (n : Nat) {x0 x3 x4 x5 x6 x7 x8 x9 x10 x11 : AV} {H : AH} (h : I n x0 x3 x4 x5 x6 x7 x8 x9 x10 x11 H) : salvorlaw1_OffSums_L10 x0 x3 x4 x5 x6 x7 x8 x9 x10 x11 H K := by
  refine lp_upto (sCode_one _ _) (LI10 I) ?_ n h
  intro n X H h
  obtain ⟨x0, x3, x4, x5, x6, x7, x8, x9, x10, x11, rfl, h⟩ := h.elim
  exact Eq.mpr (salvorlaw1_OffSums_L10_eq _ x0 x3 x4 x5 x6 x7 x8 x9 x10 x11 H K) (round n x0 x3 x4 x5 x6 x7 x8 x9 x10 x11 H (fun X H' => ∃ m, m < n ∧ LI10 I m X H') (fun m y0 y3 y4 y5 y6 y7 y8 y9 y10 y11 H' hm hi => ⟨m, hm, hi⟩) h)
def salvorlaw1_OffSums (a0 : AV) (H : AH) (K : AV → AH → Prop) : Prop :=
bO (alnS a0) fun v0 =>
bO (abI .gtr v0 (.lit (.int .i64 300))) fun v1 =>
bB v1 fun t2 => bI t2 (
bP (PCall Try.prog 3 [] H) fun v3 =>
K v3 H)
 (bP (PCall Try.prog 11 [a0] H) fun v4 =>
bO (aextract v4 0) fun v5 =>
bO (aextract v4 1) fun v6 =>
bP (PCall Try.prog 15 [a0] H) fun v7 =>
bO (aextract v7 0) fun v8 =>
bO (aextract v7 1) fun v9 =>
bP (PCall Try.prog 12 [a0] H) fun v10 =>
bO (aextract v10 0) fun v11 =>
bO (aextract v10 1) fun v12 =>
bP (PCall Try.prog 16 [a0] H) fun v13 =>
bO (aextract v13 0) fun v14 =>
bO (aextract v13 1) fun v15 =>
salvorlaw1_OffSums_L10 a0 v5 v6 v8 v9 v11 v12 v14 v15 (.lit (.int .i64 0)) H K)
theorem salvorlaw1_OffSums_eq (a0 : AV) (H : AH) (K : AV → AH → Prop) : sFun Try.prog salvorlaw1_OffSums_fl pql salvorlaw1_OffSums_kp Try.f4 [a0] H K = salvorlaw1_OffSums a0 H K := by kernel_rfl
theorem salvorlaw1_OffSums_ok {a0 : AV} {H : AH} {K : AV → AH → Prop} (h : salvorlaw1_OffSums a0 H K) : ∃ r H', K r H' ∧ BCall Try.prog 4 [a0] H r H' :=
  sFun_ok mixP Try.func4 (by kernel_rfl) (Eq.mpr (salvorlaw1_OffSums_eq a0 H K) h)
/-! salvor/salvorlaw1.OffParts -/
def salvorlaw1_OffParts_fl : Floats := flOf []
def salvorlaw1_OffParts_kp : Nat → Option (List Bool) := kpOf []
def salvorlaw1_OffParts_c (p : List Bool) (n : Nat) : List AV → AH → Kf → Prop := sCode Try.prog salvorlaw1_OffParts_fl pql salvorlaw1_OffParts_kp (sub p (bodyOf Try.f5)) n
def salvorlaw1_OffParts (a0 a1 : AV) (H : AH) (K : AV → AH → Prop) : Prop :=
bH (anew H a0) fun v0 H1 =>
bO (ald true 2 H1 v0) fun v2 =>
bP (BPure Try.prog 13 [v2, a1]) fun v3 =>
bO (ald true 2 H1 v0) fun v4 =>
bP (BPure Try.prog 19 [v4, a1]) fun v5 =>
bP (BPure Try.prog 18 [v3, v5]) fun v6 =>
bG v6 true fun w7 =>
gP w7 (BPure Try.prog 3 []) fun v8 =>
bO (apick v6 v8 (.lit (.bool false))) fun v9 =>
K v9 H1
theorem salvorlaw1_OffParts_eq (a0 a1 : AV) (H : AH) (K : AV → AH → Prop) : sFun Try.prog salvorlaw1_OffParts_fl pql salvorlaw1_OffParts_kp Try.f5 [a0, a1] H K = salvorlaw1_OffParts a0 a1 H K := by kernel_rfl
theorem salvorlaw1_OffParts_ok {a0 a1 : AV} {H : AH} {K : AV → AH → Prop} (h : salvorlaw1_OffParts a0 a1 H K) : ∃ r H', K r H' ∧ BCall Try.prog 5 [a0, a1] H r H' :=
  sFun_ok mixP Try.func5 (by kernel_rfl) (Eq.mpr (salvorlaw1_OffParts_eq a0 a1 H K) h)
/-! salvor/salvorlaw1.OffJoins -/
def salvorlaw1_OffJoins_fl : Floats := flOf []
def salvorlaw1_OffJoins_kp : Nat → Option (List Bool) := kpOf []
def salvorlaw1_OffJoins_c (p : List Bool) (n : Nat) : List AV → AH → Kf → Prop := sCode Try.prog salvorlaw1_OffJoins_fl pql salvorlaw1_OffJoins_kp (sub p (bodyOf Try.f6)) n
def salvorlaw1_OffJoins (a0 a1 : AV) (H : AH) (K : AV → AH → Prop) : Prop :=
bO (alnS a0) fun v0 =>
bO (abI .gtr v0 (.lit (.int .i64 200))) fun v1 =>
bG v1 false fun w2 =>
gO w2 (some a1) fun v3 =>
bG v1 false fun w4 =>
gO w4 (alnS v3) fun v5 =>
bG v1 false fun w6 =>
gO w6 (abI .gtr v5 (.lit (.int .i64 200))) fun v7 =>
bO (apick v1 (.lit (.bool true)) v7) fun v8 =>
bB v8 fun t9 => bI t9 (
bP (PCall Try.prog 3 [] H) fun v10 =>
K v10 H)
 (bH (aap 1 8 H (.lit (.slice none 0 0)) a0) fun v11 H12 =>
bH (aap 1 8 H12 v11 a1) fun v13 H14 =>
bH (aap 1 8 H14 (.lit (.slice none 0 0)) a1) fun v15 H16 =>
bH (aap 1 8 H16 v15 a0) fun v17 H18 =>
bP (PCall Try.prog 11 [a0] H18) fun v19 =>
bO (aextract v19 0) fun v20 =>
bO (aextract v19 1) fun v21 =>
bP (PCall Try.prog 11 [a1] H18) fun v22 =>
bO (aextract v22 0) fun v23 =>
bO (aextract v22 1) fun v24 =>
bP (PCall Try.prog 11 [v13] H18) fun v25 =>
bO (aextract v25 0) fun v26 =>
bO (aextract v25 1) fun v27 =>
bP (PCall Try.prog 11 [v17] H18) fun v28 =>
bO (aextract v28 0) fun v29 =>
bO (aextract v28 1) fun v30 =>
bH (absl H18 1 2 (zrow [(.lit (.int .i64 0))] 2) [(0, 1, v20), (1, 1, v23)]) fun v31 H32 =>
bP (PCall Try.prog 11 [v31] H32) fun v33 =>
bO (aextract v33 0) fun v34 =>
bO (aextract v33 1) fun v35 =>
bG v21 true fun w36 =>
gO w36 (some v24) fun v37 =>
bO (apick v21 v37 (.lit (.bool false))) fun v38 =>
bG v38 true fun w39 =>
gO w39 (some v35) fun v40 =>
bO (apick v38 v40 (.lit (.bool false))) fun v41 =>
bO (abB .neq v27 v41) fun v42 =>
bG v42 false fun w43 =>
gO w43 (some v27) fun v44 =>
bG v42 false fun w45 =>
gO w45 (some v44) fun v46 =>
bG v46 true fun w47 =>
gO w47 (some v26) fun v48 =>
bG v46 true fun w49 =>
gO w49 (some v34) fun v50 =>
bG v46 true fun w51 =>
gO w51 (abI .neq v48 v50) fun v52 =>
bG v42 false fun w53 =>
gO w53 (apick v46 v52 (.lit (.bool false))) fun v54 =>
bO (apick v42 (.lit (.bool true)) v54) fun v55 =>
bG v55 false fun w56 =>
gO w56 (some v29) fun v57 =>
bG v55 false fun w58 =>
gO w58 (some v26) fun v59 =>
bG v55 false fun w60 =>
gO w60 (abI .neq v57 v59) fun v61 =>
bO (apick v55 (.lit (.bool true)) v61) fun v62 =>
bG v62 false fun w63 =>
gO w63 (some v30) fun v64 =>
bG v62 false fun w65 =>
gO w65 (some v27) fun v66 =>
bG v62 false fun w67 =>
gO w67 (abB .neq v64 v66) fun v68 =>
bO (apick v62 (.lit (.bool true)) v68) fun v69 =>
bB v69 fun t70 => bI t70 (
K (.lit (.bool false)) H32)
 (bP (PCall Try.prog 12 [a0] H32) fun v71 =>
bO (aextract v71 0) fun v72 =>
bO (aextract v71 1) fun v73 =>
bP (PCall Try.prog 12 [a1] H32) fun v74 =>
bO (aextract v74 0) fun v75 =>
bO (aextract v74 1) fun v76 =>
bP (PCall Try.prog 12 [v13] H32) fun v77 =>
bO (aextract v77 0) fun v78 =>
bO (aextract v77 1) fun v79 =>
bH (absl H32 1 2 (zrow [(.lit (.int .i64 0))] 2) [(0, 1, v72), (1, 1, v75)]) fun v80 H81 =>
bP (PCall Try.prog 12 [v80] H81) fun v82 =>
bO (aextract v82 0) fun v83 =>
bO (aextract v82 1) fun v84 =>
bO (aun .not v73) fun v85 =>
bG v85 false fun w86 =>
gO w86 (some v76) fun v87 =>
bG v85 false fun w88 =>
gO w88 (aun .not v87) fun v89 =>
bO (apick v85 (.lit (.bool true)) v89) fun v90 =>
bG v90 false fun w91 =>
gO w91 (some v78) fun v92 =>
bG v90 false fun w93 =>
gO w93 (some v83) fun v94 =>
bG v90 false fun w95 =>
gO w95 (abI .eql v92 v94) fun v96 =>
bG v90 false fun w97 =>
gO w97 (some v96) fun v98 =>
bG v98 true fun w99 =>
gO w99 (some v79) fun v100 =>
bG v98 true fun w101 =>
gO w101 (some v84) fun v102 =>
bG v98 true fun w103 =>
gO w103 (abB .eql v100 v102) fun v104 =>
bG v90 false fun w105 =>
gO w105 (apick v98 v104 (.lit (.bool false))) fun v106 =>
bO (apick v90 (.lit (.bool true)) v106) fun v107 =>
bG v107 true fun w108 =>
gP w108 (PCall Try.prog 3 [] H81) fun v109 =>
bO (apick v107 v109 (.lit (.bool false))) fun v110 =>
K v110 H81))
theorem salvorlaw1_OffJoins_eq (a0 a1 : AV) (H : AH) (K : AV → AH → Prop) : sFun Try.prog salvorlaw1_OffJoins_fl pql salvorlaw1_OffJoins_kp Try.f6 [a0, a1] H K = salvorlaw1_OffJoins a0 a1 H K := by kernel_rfl
theorem salvorlaw1_OffJoins_ok {a0 a1 : AV} {H : AH} {K : AV → AH → Prop} (h : salvorlaw1_OffJoins a0 a1 H K) : ∃ r H', K r H' ∧ BCall Try.prog 6 [a0, a1] H r H' :=
  sFun_ok mixP Try.func6 (by kernel_rfl) (Eq.mpr (salvorlaw1_OffJoins_eq a0 a1 H K) h)
/-! salvor/salvorlaw1.OffCover -/
def salvorlaw1_OffCover_fl : Floats := flOf []
def salvorlaw1_OffCover_kp : Nat → Option (List Bool) := kpOf [(8, mk 98 0 [1, 2, 5, 6, 7])]
def salvorlaw1_OffCover_c (p : List Bool) (n : Nat) : List AV → AH → Kf → Prop := sCode Try.prog salvorlaw1_OffCover_fl pql salvorlaw1_OffCover_kp (sub p (bodyOf Try.f7)) n
def salvorlaw1_OffCover_L8 (x1 x2 x5 x6 x7 : AV) (H : AH) (K : AV → AH → Prop) : Prop := lp (mk 98 0 [1, 2, 5, 6, 7]) (salvorlaw1_OffCover_c [true, true, true, true, false, true, false, false] 9) [x1, x2, x5, x6, x7] H (kBlk 0 (kSeq (salvorlaw1_OffCover_c [true, true, true, true, true] 15) (kRet Try.prog Try.f7.results.toList K)))
def salvorlaw1_OffCover_L8_b (R8 : List AV → AH → Prop) (x1 x2 x5 x6 x7 : AV) (H : AH) (K : AV → AH → Prop) : Prop :=
bO (alnS x5) fun v0 =>
bO (abI .lss x7 v0) fun v1 =>
bB v1 fun t2 => bI t2 (
bO (aixS 2 x5 x7) fun v3 =>
bO (ashift 0 v3) fun v4 =>
bO (ald false 1 H v4) fun v5 =>
bO (abI .neq v5 x6) fun v6 =>
bG v6 false fun w7 =>
gO w7 (some x5) fun v8 =>
bG v6 false fun w9 =>
gO w9 (some x7) fun v10 =>
bG v6 false fun w11 =>
gO w11 (aixS 2 v8 v10) fun v12 =>
bG v6 false fun w13 =>
gO w13 (ashift 1 v12) fun v14 =>
bG v6 false fun w15 =>
gO w15 (ald false 1 H v14) fun v16 =>
bG v6 false fun w17 =>
gO w17 (abI .lss v16 (.lit (.int .i64 1))) fun v18 =>
bO (apick v6 (.lit (.bool true)) v18) fun v19 =>
bG v19 false fun w20 =>
gO w20 (some x5) fun v21 =>
bG v19 false fun w22 =>
gO w22 (some x7) fun v23 =>
bG v19 false fun w24 =>
gO w24 (aixS 2 v21 v23) fun v25 =>
bG v19 false fun w26 =>
gO w26 (ashift 1 v25) fun v27 =>
bG v19 false fun w28 =>
gO w28 (ald false 1 H v27) fun v29 =>
bG v19 false fun w30 =>
gO w30 (some x1) fun v31 =>
bG v19 false fun w32 =>
gO w32 (abI .gtr v29 v31) fun v33 =>
bO (apick v19 (.lit (.bool true)) v33) fun v34 =>
bG v34 false fun w35 =>
gO w35 (some x7) fun v36 =>
bG v34 false fun w37 =>
gO w37 (abI .gtr v36 (.lit (.int .i64 0))) fun v38 =>
bG v34 false fun w39 =>
gO w39 (some v38) fun v40 =>
bG v40 true fun w41 =>
gO w41 (some x6) fun v42 =>
bG v40 true fun w43 =>
gO w43 (some x1) fun v44 =>
bG v40 true fun w45 =>
gO w45 (abI .rem v42 v44) fun v46 =>
bG v40 true fun w47 =>
gO w47 (abI .neq v46 (.lit (.int .i64 0))) fun v48 =>
bG v34 false fun w49 =>
gO w49 (apick v40 v48 (.lit (.bool false))) fun v50 =>
bO (apick v34 (.lit (.bool true)) v50) fun v51 =>
bG v51 false fun w52 =>
gO w52 (some x5) fun v53 =>
bG v51 false fun w54 =>
gO w54 (some x7) fun v55 =>
bG v51 false fun w56 =>
gO w56 (aixS 2 v53 v55) fun v57 =>
bG v51 false fun w58 =>
gO w58 (ashift 1 v57) fun v59 =>
bG v51 false fun w60 =>
gO w60 (ald false 1 H v59) fun v61 =>
bG v51 false fun w62 =>
gO w62 (ashift 1 x2) fun v63 =>
bG v51 false fun w64 =>
gO w64 (ald false 1 H v63) fun v65 =>
bG v51 false fun w66 =>
gO w66 (abI .gtr v61 v65) fun v67 =>
bO (apick v51 (.lit (.bool true)) v67) fun v68 =>
bB v68 fun t69 => bI t69 (
K (.lit (.bool false)) H)
 (bO (aixS 2 x5 x7) fun v70 =>
bO (ashift 1 v70) fun v71 =>
bO (ald false 1 H v71) fun v72 =>
bO (abI .add x6 v72) fun v73 =>
bO (abI .add x7 (.lit (.int .i64 1))) fun v74 =>
R8 [x1, x2, x5, v73, v74] H))
 (bO (ashift 0 x2) fun v75 =>
bO (ald false 1 H v75) fun v76 =>
bO (ashift 1 x2) fun v77 =>
bO (ald false 1 H v77) fun v78 =>
bO (abI .add v76 v78) fun v79 =>
bO (abI .eql x6 v79) fun v80 =>
bG v80 true fun w81 =>
gP w81 (PCall Try.prog 3 [] H) fun v82 =>
bO (apick v80 v82 (.lit (.bool false))) fun v83 =>
K v83 H)
theorem salvorlaw1_OffCover_L8_eq (R8 : List AV → AH → Prop) (x1 x2 x5 x6 x7 : AV) (H : AH) (K : AV → AH → Prop) : salvorlaw1_OffCover_c [true, true, true, true, false, true, false, false] 9 (expand (mk 98 0 [1, 2, 5, 6, 7]) [x1, x2, x5, x6, x7]) H (kLp (mk 98 0 [1, 2, 5, 6, 7]) R8 (kBlk 0 (kSeq (salvorlaw1_OffCover_c [true, true, true, true, true] 15) (kRet Try.prog Try.f7.results.toList K)))) = salvorlaw1_OffCover_L8_b R8 x1 x2 x5 x6 x7 H K := by kernel_rfl
theorem salvorlaw1_OffCover_L8_rule {K : AV → AH → Prop} (I : Nat → AV → AV → AV → AV → AV → AH → Prop) (round : ∀ (n : Nat) (x1 x2 x5 x6 x7 : AV) (H : AH) (R : List AV → AH → Prop), (∀ (m : Nat) (y1 y2 y5 y6 y7 : AV) (H' : AH), m < n → I m y1 y2 y5 y6 y7 H' → R [y1, y2, y5, y6, y7] H') → I n x1 x2 x5 x6 x7 H → salvorlaw1_OffCover_L8_b R x1 x2 x5 x6 x7 H K) (n : Nat) {x1 x2 x5 x6 x7 : AV} {H : AH} (h : I n x1 x2 x5 x6 x7 H) : salvorlaw1_OffCover_L8 x1 x2 x5 x6 x7 H K := by
  refine lp_upto (sCode_one _ _) (LI5 I) ?_ n h
  intro n X H h
  obtain ⟨x1, x2, x5, x6, x7, rfl, h⟩ := h.elim
  exact Eq.mpr (salvorlaw1_OffCover_L8_eq _ x1 x2 x5 x6 x7 H K) (round n x1 x2 x5 x6 x7 H (fun X H' => ∃ m, m < n ∧ LI5 I m X H') (fun m y1 y2 y5 y6 y7 H' hm hi => ⟨m, hm, hi⟩) h)
def salvorlaw1_OffCover (a0 a1 : AV) (H : AH) (K : AV → AH → Prop) : Prop :=
bH (anew H a0) fun v0 H1 =>
bO (ald true 2 H1 v0) fun v2 =>
bP (PCall Try.prog 13 [v2, a1] H1) fun v3 =>
bO (ald true 2 H1 v0) fun v4 =>
bP (PCall Try.prog 20 [v4] H1) fun v5 =>
bO (aun .not v5) fun v6 =>
bG v6 false fun w7 =>
gO w7 (ashift 1 v0) fun v8 =>
bG v6 false fun w9 =>
gO w9 (ald false 1 H1 v8) fun v10 =>
bG v6 false fun w11 =>
gO w11 (abI .gtr v10 (.lit (.int .i64 4096))) fun v12 =>
bO (apick v6 (.lit (.bool true)) v12) fun v13 =>
bG v13 false fun w14 =>
gO w14 (some a1) fun v15 =>
bG v13 false fun w16 =>
gO w16 (abI .lss v15 (.lit (.int .i64 1))) fun v17 =>
bO (apick v13 (.lit (.bool true)) v17) fun v18 =>
bB v18 fun t19 => bI t19 (
bO (alnS v3) fun v20 =>
bO (abI .eql v20 (.lit (.int .i64 0))) fun v21 =>
bG v21 true fun w22 =>
gP w22 (PCall Try.prog 3 [] H1) fun v23 =>
bO (apick v21 v23 (.lit (.bool false))) fun v24 =>
K v24 H1)
 (bO (ashift 0 v0) fun v25 =>
bO (ald false 1 H1 v25) fun v26 =>
salvorlaw1_OffCover_L8 a1 v0 v3 v26 (.lit (.int .i64 0)) H1 K)
theorem salvorlaw1_OffCover_eq (a0 a1 : AV) (H : AH) (K : AV → AH → Prop) : sFun Try.prog salvorlaw1_OffCover_fl pql salvorlaw1_OffCover_kp Try.f7 [a0, a1] H K = salvorlaw1_OffCover a0 a1 H K := by kernel_rfl
theorem salvorlaw1_OffCover_ok {a0 a1 : AV} {H : AH} {K : AV → AH → Prop} (h : salvorlaw1_OffCover a0 a1 H K) : ∃ r H', K r H' ∧ BCall Try.prog 7 [a0, a1] H r H' :=
  sFun_ok mixP Try.func7 (by kernel_rfl) (Eq.mpr (salvorlaw1_OffCover_eq a0 a1 H K) h)
/-! salvor/salvorlaw1.OffMeets -/
def salvorlaw1_OffMeets_fl : Floats := flOf []
def salvorlaw1_OffMeets_kp : Nat → Option (List Bool) := kpOf []
def salvorlaw1_OffMeets_c (p : List Bool) (n : Nat) : List AV → AH → Kf → Prop := sCode Try.prog salvorlaw1_OffMeets_fl pql salvorlaw1_OffMeets_kp (sub p (bodyOf Try.f8)) n
def salvorlaw1_OffMeets (a0 a1 a2 : AV) (H : AH) (K : AV → AH → Prop) : Prop :=
bH (anew H a0) fun v0 H1 =>
bH (anew H1 a1) fun v2 H3 =>
bO (ald true 2 H3 v0) fun v4 =>
bP (PCall Try.prog 20 [v4] H3) fun v5 =>
bO (aun .not v5) fun v6 =>
bG v6 false fun w7 =>
gO w7 (ald true 2 H3 v2) fun v8 =>
bG v6 false fun w9 =>
gP w9 (PCall Try.prog 20 [v8] H3) fun v10 =>
bG v6 false fun w11 =>
gO w11 (aun .not v10) fun v12 =>
bO (apick v6 (.lit (.bool true)) v12) fun v13 =>
bG v13 false fun w14 =>
gO w14 (some a2) fun v15 =>
bG v13 false fun w16 =>
gP w16 (PCall Try.prog 14 [v15] H3) fun v17 =>
bG v13 false fun w18 =>
gO w18 (aun .not v17) fun v19 =>
bO (apick v13 (.lit (.bool true)) v19) fun v20 =>
bB v20 fun t21 => bI t21 (
bP (PCall Try.prog 3 [] H3) fun v22 =>
K v22 H3)
 (bO (ald true 2 H3 v0) fun v23 =>
bO (ald true 2 H3 v2) fun v24 =>
bP (PCall Try.prog 21 [v23, v24] H3) fun v25 =>
bH (anew H3 (.agg [(.lit (.int .i64 0)), (.lit (.int .i64 0))])) fun v26 H27 =>
bS (ast 2 H27 v26 v25) fun H28 =>
bO (ashift 0 v0) fun v29 =>
bO (ald false 1 H28 v29) fun v30 =>
bO (abI .geq a2 v30) fun v31 =>
bG v31 true fun w32 =>
gO w32 (some a2) fun v33 =>
bG v31 true fun w34 =>
gO w34 (ashift 0 v0) fun v35 =>
bG v31 true fun w36 =>
gO w36 (ald false 1 H28 v35) fun v37 =>
bG v31 true fun w38 =>
gO w38 (abI .sub v33 v37) fun v39 =>
bG v31 true fun w40 =>
gO w40 (ashift 1 v0) fun v41 =>
bG v31 true fun w42 =>
gO w42 (ald false 1 H28 v41) fun v43 =>
bG v31 true fun w44 =>
gO w44 (abI .lss v39 v43) fun v45 =>
bO (apick v31 v45 (.lit (.bool false))) fun v46 =>
bG v46 true fun w47 =>
gO w47 (some a2) fun v48 =>
bG v46 true fun w49 =>
gO w49 (ashift 0 v2) fun v50 =>
bG v46 true fun w51 =>
gO w51 (ald false 1 H28 v50) fun v52 =>
bG v46 true fun w53 =>
gO w53 (abI .geq v48 v52) fun v54 =>
bO (apick v46 v54 (.lit (.bool false))) fun v55 =>
bG v55 true fun w56 =>
gO w56 (some a2) fun v57 =>
bG v55 true fun w58 =>
gO w58 (ashift 0 v2) fun v59 =>
bG v55 true fun w60 =>
gO w60 (ald false 1 H28 v59) fun v61 =>
bG v55 true fun w62 =>
gO w62 (abI .sub v57 v61) fun v63 =>
bG v55 true fun w64 =>
gO w64 (ashift 1 v2) fun v65 =>
bG v55 true fun w66 =>
gO w66 (ald false 1 H28 v65) fun v67 =>
bG v55 true fun w68 =>
gO w68 (abI .lss v63 v67) fun v69 =>
bO (apick v55 v69 (.lit (.bool false))) fun v70 =>
bO (ashift 0 v26) fun v71 =>
bO (ald false 1 H28 v71) fun v72 =>
bO (abI .geq a2 v72) fun v73 =>
bG v73 true fun w74 =>
gO w74 (some a2) fun v75 =>
bG v73 true fun w76 =>
gO w76 (ashift 0 v26) fun v77 =>
bG v73 true fun w78 =>
gO w78 (ald false 1 H28 v77) fun v79 =>
bG v73 true fun w80 =>
gO w80 (abI .sub v75 v79) fun v81 =>
bG v73 true fun w82 =>
gO w82 (ashift 1 v26) fun v83 =>
bG v73 true fun w84 =>
gO w84 (ald false 1 H28 v83) fun v85 =>
bG v73 true fun w86 =>
gO w86 (abI .lss v81 v85) fun v87 =>
bO (apick v73 v87 (.lit (.bool false))) fun v88 =>
bO (abB .eql v70 v88) fun v89 =>
bG v89 true fun w90 =>
gO w90 (ald true 2 H28 v26) fun v91 =>
bG v89 true fun w92 =>
gO w92 (ald true 2 H28 v0) fun v93 =>
bG v89 true fun w94 =>
gP w94 (BPure Try.prog 22 [v91, v93]) fun v95 =>
bO (apick v89 v95 (.lit (.bool false))) fun v96 =>
bG v96 true fun w97 =>
gO w97 (ald true 2 H28 v26) fun v98 =>
bG v96 true fun w99 =>
gO w99 (ald true 2 H28 v2) fun v100 =>
bG v96 true fun w101 =>
gP w101 (BPure Try.prog 22 [v98, v100]) fun v102 =>
bO (apick v96 v102 (.lit (.bool false))) fun v103 =>
bG v103 true fun w104 =>
gO w104 (ald true 2 H28 v26) fun v105 =>
bG v103 true fun w106 =>
gO w106 (ald true 2 H28 v2) fun v107 =>
bG v103 true fun w108 =>
gO w108 (ald true 2 H28 v0) fun v109 =>
bG v103 true fun w110 =>
gP w110 (BPure Try.prog 21 [v107, v109]) fun v111 =>
bG v103 true fun w112 =>
gO w112 (abin Try.prog .eql 27 v105 v111) fun v113 =>
bO (apick v103 v113 (.lit (.bool false))) fun v114 =>
bG v114 true fun w115 =>
gO w115 (ald true 2 H28 v0) fun v116 =>
bG v114 true fun w117 =>
gO w117 (ald true 2 H28 v0) fun v118 =>
bG v114 true fun w119 =>
gP w119 (BPure Try.prog 21 [v116, v118]) fun v120 =>
bG v114 true fun w121 =>
gO w121 (aprt false 1 1 v120) fun v122 =>
bG v114 true fun w123 =>
gO w123 (ashift 1 v0) fun v124 =>
bG v114 true fun w125 =>
gO w125 (ald false 1 H28 v124) fun v126 =>
bG v114 true fun w127 =>
gO w127 (abI .eql v122 v126) fun v128 =>
bO (apick v114 v128 (.lit (.bool false))) fun v129 =>
bG v129 true fun w130 =>
gP w130 (BPure Try.prog 3 []) fun v131 =>
bO (apick v129 v131 (.lit (.bool false))) fun v132 =>
K v132 H28)
theorem salvorlaw1_OffMeets_eq (a0 a1 a2 : AV) (H : AH) (K : AV → AH → Prop) : sFun Try.prog salvorlaw1_OffMeets_fl pql salvorlaw1_OffMeets_kp Try.f8 [a0, a1, a2] H K = salvorlaw1_OffMeets a0 a1 a2 H K := by kernel_rfl
theorem salvorlaw1_OffMeets_ok {a0 a1 a2 : AV} {H : AH} {K : AV → AH → Prop} (h : salvorlaw1_OffMeets a0 a1 a2 H K) : ∃ r H', K r H' ∧ BCall Try.prog 8 [a0, a1, a2] H r H' :=
  sFun_ok mixP Try.func8 (by kernel_rfl) (Eq.mpr (salvorlaw1_OffMeets_eq a0 a1 a2 H K) h)
/-! salvor/salvorlaw1.OffNear -/
def salvorlaw1_OffNear_fl : Floats := flOf []
def salvorlaw1_OffNear_kp : Nat → Option (List Bool) := kpOf []
def salvorlaw1_OffNear_c (p : List Bool) (n : Nat) : List AV → AH → Kf → Prop := sCode Try.prog salvorlaw1_OffNear_fl pql salvorlaw1_OffNear_kp (sub p (bodyOf Try.f9)) n
def salvorlaw1_OffNear (a0 a1 : AV) (H : AH) (K : AV → AH → Prop) : Prop :=
bP (PCall Try.prog 23 [a0, a1] H) fun v0 =>
bP (PCall Try.prog 24 [a0, a1] H) fun v1 =>
bO (aextract v1 0) fun v2 =>
bO (aextract v1 1) fun v3 =>
bP (PCall Try.prog 14 [a0] H) fun v4 =>
bO (aun .not v4) fun v5 =>
bG v5 false fun w6 =>
gO w6 (some a1) fun v7 =>
bG v5 false fun w8 =>
gO w8 (abI .lss v7 (.lit (.int .i64 1))) fun v9 =>
bO (apick v5 (.lit (.bool true)) v9) fun v10 =>
bB v10 fun t11 => bI t11 (
bO (abI .eql v0 (.lit (.int .i64 0))) fun v12 =>
bG v12 true fun w13 =>
gO w13 (some v2) fun v14 =>
bG v12 true fun w15 =>
gO w15 (abI .eql v14 (.lit (.int .i64 0))) fun v16 =>
bO (apick v12 v16 (.lit (.bool false))) fun v17 =>
bG v17 true fun w18 =>
gO w18 (some v3) fun v19 =>
bG v17 true fun w20 =>
gO w20 (aun .not v19) fun v21 =>
bO (apick v17 v21 (.lit (.bool false))) fun v22 =>
bG v22 true fun w23 =>
gP w23 (PCall Try.prog 3 [] H) fun v24 =>
bO (apick v22 v24 (.lit (.bool false))) fun v25 =>
K v25 H)
 (bO (abI .rem v0 a1) fun v26 =>
bO (abI .neq v26 (.lit (.int .i64 0))) fun v27 =>
bG v27 false fun w28 =>
gO w28 (some v0) fun v29 =>
bG v27 false fun w30 =>
gO w30 (some a0) fun v31 =>
bG v27 false fun w32 =>
gO w32 (abI .gtr v29 v31) fun v33 =>
bO (apick v27 (.lit (.bool true)) v33) fun v34 =>
bG v34 false fun w35 =>
gO w35 (some a0) fun v36 =>
bG v34 false fun w37 =>
gO w37 (some v0) fun v38 =>
bG v34 false fun w39 =>
gO w39 (abI .sub v36 v38) fun v40 =>
bG v34 false fun w41 =>
gO w41 (some a1) fun v42 =>
bG v34 false fun w43 =>
gO w43 (abI .geq v40 v42) fun v44 =>
bO (apick v34 (.lit (.bool true)) v44) fun v45 =>
bG v45 false fun w46 =>
gO w46 (some v0) fun v47 =>
bG v45 false fun w48 =>
gO w48 (abI .lss v47 (.lit (.int .i64 0))) fun v49 =>
bO (apick v45 (.lit (.bool true)) v49) fun v50 =>
bB v50 fun t51 => bI t51 (
K (.lit (.bool false)) H)
 (bO (aun .not v3) fun v52 =>
bB v52 fun t53 => bI t53 (
bO (abI .eql v2 (.lit (.int .i64 0))) fun v54 =>
bG v54 true fun w55 =>
gO w55 (some a0) fun v56 =>
bG v54 true fun w57 =>
gO w57 (some a1) fun v58 =>
bG v54 true fun w59 =>
gO w59 (abI .rem v56 v58) fun v60 =>
bG v54 true fun w61 =>
gO w61 (abI .gtr v60 (.lit (.int .i64 0))) fun v62 =>
bO (apick v54 v62 (.lit (.bool false))) fun v63 =>
bG v63 true fun w64 =>
gO w64 (some a1) fun v65 =>
bG v63 true fun w66 =>
gO w66 (some a0) fun v67 =>
bG v63 true fun w68 =>
gO w68 (some a1) fun v69 =>
bG v63 true fun w70 =>
gO w70 (abI .rem v67 v69) fun v71 =>
bG v63 true fun w72 =>
gO w72 (abI .sub v65 v71) fun v73 =>
bG v63 true fun w74 =>
gO w74 (some a0) fun v75 =>
bG v63 true fun w76 =>
gO w76 (abI .sub (.lit (.int .i64 4611686018427387904)) v75) fun v77 =>
bG v63 true fun w78 =>
gO w78 (abI .gtr v73 v77) fun v79 =>
bO (apick v63 v79 (.lit (.bool false))) fun v80 =>
bG v80 true fun w81 =>
gP w81 (PCall Try.prog 3 [] H) fun v82 =>
bO (apick v80 v82 (.lit (.bool false))) fun v83 =>
K v83 H)
 (bO (abI .rem v2 a1) fun v84 =>
bO (abI .eql v84 (.lit (.int .i64 0))) fun v85 =>
bG v85 true fun w86 =>
gO w86 (some v2) fun v87 =>
bG v85 true fun w88 =>
gO w88 (some a0) fun v89 =>
bG v85 true fun w90 =>
gO w90 (abI .geq v87 v89) fun v91 =>
bO (apick v85 v91 (.lit (.bool false))) fun v92 =>
bG v92 true fun w93 =>
gO w93 (some v2) fun v94 =>
bG v92 true fun w95 =>
gO w95 (some a0) fun v96 =>
bG v92 true fun w97 =>
gO w97 (abI .sub v94 v96) fun v98 =>
bG v92 true fun w99 =>
gO w99 (some a1) fun v100 =>
bG v92 true fun w101 =>
gO w101 (abI .lss v98 v100) fun v102 =>
bO (apick v92 v102 (.lit (.bool false))) fun v103 =>
bG v103 true fun w104 =>
gO w104 (some v2) fun v105 =>
bG v103 true fun w106 =>
gO w106 (abI .leq v105 (.lit (.int .i64 4611686018427387904))) fun v107 =>
bO (apick v103 v107 (.lit (.bool false))) fun v108 =>
bG v108 true fun w109 =>
gP w109 (PCall Try.prog 3 [] H) fun v110 =>
bO (apick v108 v110 (.lit (.bool false))) fun v111 =>
K v111 H)))
theorem salvorlaw1_OffNear_eq (a0 a1 : AV) (H : AH) (K : AV → AH → Prop) : sFun Try.prog salvorlaw1_OffNear_fl pql salvorlaw1_OffNear_kp Try.f9 [a0, a1] H K = salvorlaw1_OffNear a0 a1 H K := by kernel_rfl
theorem salvorlaw1_OffNear_ok {a0 a1 : AV} {H : AH} {K : AV → AH → Prop} (h : salvorlaw1_OffNear a0 a1 H K) : ∃ r H', K r H' ∧ BCall Try.prog 9 [a0, a1] H r H' :=
  sFun_ok mixP Try.func9 (by kernel_rfl) (Eq.mpr (salvorlaw1_OffNear_eq a0 a1 H K) h)
/-! salvor/salvorlaw1.OffCuts -/
def salvorlaw1_OffCuts_fl : Floats := flOf []
def salvorlaw1_OffCuts_kp : Nat → Option (List Bool) := kpOf []
def salvorlaw1_OffCuts_c (p : List Bool) (n : Nat) : List AV → AH → Kf → Prop := sCode Try.prog salvorlaw1_OffCuts_fl pql salvorlaw1_OffCuts_kp (sub p (bodyOf Try.f10)) n
def salvorlaw1_OffCuts (a0 a1 a2 a3 : AV) (H : AH) (K : AV → AH → Prop) : Prop :=
bH (anew H a2) fun v0 H1 =>
bH (anew H1 a3) fun v2 H3 =>
bP (PCall Try.prog 24 [a0, a1] H3) fun v4 =>
bO (aextract v4 0) fun v5 =>
bO (aextract v4 1) fun v6 =>
bP (PCall Try.prog 25 [a0, a1] H3) fun v7 =>
bO (aextract v7 0) fun v8 =>
bO (aextract v7 1) fun v9 =>
bP (BPure Try.prog 23 [a0, a1]) fun v10 =>
bP (BPure Try.prog 26 [a0, a1]) fun v11 =>
bO (abI .eql v10 v11) fun v12 =>
bG v12 true fun w13 =>
gO w13 (some v5) fun v14 =>
bG v12 true fun w15 =>
gO w15 (some v8) fun v16 =>
bG v12 true fun w17 =>
gO w17 (abI .eql v14 v16) fun v18 =>
bO (apick v12 v18 (.lit (.bool false))) fun v19 =>
bG v19 true fun w20 =>
gO w20 (some v6) fun v21 =>
bG v19 true fun w22 =>
gO w22 (some v9) fun v23 =>
bG v19 true fun w24 =>
gO w24 (abB .eql v21 v23) fun v25 =>
bO (apick v19 v25 (.lit (.bool false))) fun v26 =>
bG v26 true fun w27 =>
gO w27 (ald true 2 H3 v0) fun v28 =>
bG v26 true fun w29 =>
gP w29 (BPure Try.prog 20 [v28]) fun v30 =>
bG v26 true fun w31 =>
gO w31 (ald true 2 H3 v0) fun v32 =>
bG v26 true fun w33 =>
gP w33 (BPure Try.prog 27 [v32]) fun v34 =>
bG v26 true fun w35 =>
gO w35 (abB .eql v30 v34) fun v36 =>
bO (apick v26 v36 (.lit (.bool false))) fun v37 =>
bG v37 true fun w38 =>
gO w38 (ald true 2 H3 v0) fun v39 =>
bG v37 true fun w40 =>
gO w40 (ald true 2 H3 v2) fun v41 =>
bG v37 true fun w42 =>
gP w42 (BPure Try.prog 21 [v39, v41]) fun v43 =>
bG v37 true fun w44 =>
gO w44 (ald true 2 H3 v0) fun v45 =>
bG v37 true fun w46 =>
gO w46 (ald true 2 H3 v2) fun v47 =>
bG v37 true fun w48 =>
gP w48 (BPure Try.prog 28 [v45, v47]) fun v49 =>
bG v37 true fun w50 =>
gO w50 (abin Try.prog .eql 27 v43 v49) fun v51 =>
bO (apick v37 v51 (.lit (.bool false))) fun v52 =>
bG v52 true fun w53 =>
gO w53 (ald true 2 H3 v0) fun v54 =>
bG v52 true fun w55 =>
gO w55 (ald true 2 H3 v2) fun v56 =>
bG v52 true fun w57 =>
gP w57 (BPure Try.prog 22 [v54, v56]) fun v58 =>
bG v52 true fun w59 =>
gO w59 (ald true 2 H3 v0) fun v60 =>
bG v52 true fun w61 =>
gO w61 (ald true 2 H3 v2) fun v62 =>
bG v52 true fun w63 =>
gP w63 (BPure Try.prog 29 [v60, v62]) fun v64 =>
bG v52 true fun w65 =>
gO w65 (abB .eql v58 v64) fun v66 =>
bO (apick v52 v66 (.lit (.bool false))) fun v67 =>
bG v67 true fun w68 =>
gP w68 (BPure Try.prog 3 []) fun v69 =>
bO (apick v67 v69 (.lit (.bool false))) fun v70 =>
K v70 H3
theorem salvorlaw1_OffCuts_eq (a0 a1 a2 a3 : AV) (H : AH) (K : AV → AH → Prop) : sFun Try.prog salvorlaw1_OffCuts_fl pql salvorlaw1_OffCuts_kp Try.f10 [a0, a1, a2, a3] H K = salvorlaw1_OffCuts a0 a1 a2 a3 H K := by kernel_rfl
theorem salvorlaw1_OffCuts_ok {a0 a1 a2 a3 : AV} {H : AH} {K : AV → AH → Prop} (h : salvorlaw1_OffCuts a0 a1 a2 a3 H K) : ∃ r H', K r H' ∧ BCall Try.prog 10 [a0, a1, a2, a3] H r H' :=
  sFun_ok mixP Try.func10 (by kernel_rfl) (Eq.mpr (salvorlaw1_OffCuts_eq a0 a1 a2 a3 H K) h)
/-! salvor/off.Add -/
def off_Add_fl : Floats := flOf []
def off_Add_kp : Nat → Option (List Bool) := kpOf [(7, mk 25 0 [4, 10, 11, 12])]
def off_Add_c (p : List Bool) (n : Nat) : List AV → AH → Kf → Prop := sCode Try.prog off_Add_fl pql off_Add_kp (sub p (bodyOf Try.f11)) n
def off_Add_L7 (x4 x10 x11 x12 : AV) (H : AH) (K : AV → AH → Prop) : Prop := lp (mk 25 0 [4, 10, 11, 12]) (off_Add_c [true, true, true, false, true, false, false] 8) [x4, x10, x11, x12] H (kBlk 0 (kSeq (off_Add_c [true, true, true, true] 15) (kRet Try.prog Try.f11.results.toList K)))
def off_Add_L7_b (R7 : List AV → AH → Prop) (x4 x10 x11 x12 : AV) (H : AH) (K : AV → AH → Prop) : Prop :=
bO (abI .lss x12 x11) fun v0 =>
bB v0 fun t1 => bI t1 (
bO (aixS 1 x10 x12) fun v2 =>
bO (ald false 1 H v2) fun v3 =>
bO (abI .sub (.lit (.int .i64 4611686018427387904)) x4) fun v4 =>
bO (abI .gtr v3 v4) fun v5 =>
bB v5 fun t6 => bI t6 (
K (.tup [(.lit (.int .i64 0)), (.lit (.bool false))]) H)
 (bO (abI .add x4 v3) fun v7 =>
bO (abI .add x12 (.lit (.int .i64 1))) fun v8 =>
R7 [v7, x10, x11, v8] H))
 (K (.tup [x4, (.lit (.bool true))]) H)
theorem off_Add_L7_eq (R7 : List AV → AH → Prop) (x4 x10 x11 x12 : AV) (H : AH) (K : AV → AH → Prop) : off_Add_c [true, true, true, false, true, false, false] 8 (expand (mk 25 0 [4, 10, 11, 12]) [x4, x10, x11, x12]) H (kLp (mk 25 0 [4, 10, 11, 12]) R7 (kBlk 0 (kSeq (off_Add_c [true, true, true, true] 15) (kRet Try.prog Try.f11.results.toList K)))) = off_Add_L7_b R7 x4 x10 x11 x12 H K := by kernel_rfl
theorem off_Add_L7_rule {K : AV → AH → Prop} (I : Nat → AV → AV → AV → AV → AH → Prop) (round : ∀ (n : Nat) (x4 x10 x11 x12 : AV) (H : AH) (R : List AV → AH → Prop), (∀ (m : Nat) (y4 y10 y11 y12 : AV) (H' : AH), m < n → I m y4 y10 y11 y12 H' → R [y4, y10, y11, y12] H') → I n x4 x10 x11 x12 H → off_Add_L7_b R x4 x10 x11 x12 H K) (n : Nat) {x4 x10 x11 x12 : AV} {H : AH} (h : I n x4 x10 x11 x12 H) : off_Add_L7 x4 x10 x11 x12 H K := by
  refine lp_upto (sCode_one _ _) (LI4 I) ?_ n h
  intro n X H h
  obtain ⟨x4, x10, x11, x12, rfl, h⟩ := h.elim
  exact Eq.mpr (off_Add_L7_eq _ x4 x10 x11 x12 H K) (round n x4 x10 x11 x12 H (fun X H' => ∃ m, m < n ∧ LI4 I m X H') (fun m y4 y10 y11 y12 H' hm hi => ⟨m, hm, hi⟩) h)
def off_Add (a0 : AV) (H : AH) (K : AV → AH → Prop) : Prop :=
bP (PCall Try.prog 30 [a0] H) fun v0 =>
bO (aun .not v0) fun v1 =>
bB v1 fun t2 => bI t2 (
K (.tup [(.lit (.int .i64 0)), (.lit (.bool false))]) H)
 (bO (alnS a0) fun v3 =>
off_Add_L7 (.lit (.int .i64 0)) a0 v3 (.lit (.int .i64 0)) H K)
theorem off_Add_eq (a0 : AV) (H : AH) (K : AV → AH → Prop) : sFun Try.prog off_Add_fl pql off_Add_kp Try.f11 [a0] H K = off_Add a0 H K := by kernel_rfl
theorem off_Add_ok {a0 : AV} {H : AH} {K : AV → AH → Prop} (h : off_Add a0 H K) : ∃ r H', K r H' ∧ BCall Try.prog 11 [a0] H r H' :=
  sFun_ok mixP Try.func11 (by kernel_rfl) (Eq.mpr (off_Add_eq a0 H K) h)
/-! salvor/off.Mul -/
def off_Mul_fl : Floats := flOf []
def off_Mul_kp : Nat → Option (List Bool) := kpOf [(16, mk 36 0 [6, 21, 22, 23]), (6, mk 36 0 [0, 12, 13, 14])]
def off_Mul_c (p : List Bool) (n : Nat) : List AV → AH → Kf → Prop := sCode Try.prog off_Mul_fl pql off_Mul_kp (sub p (bodyOf Try.f12)) n
def off_Mul_L16 (x6 x21 x22 x23 : AV) (H : AH) (K : AV → AH → Prop) : Prop := lp (mk 36 0 [6, 21, 22, 23]) (off_Mul_c [true, true, true, true, false, true, false, false] 17) [x6, x21, x22, x23] H (kBlk 2 (kSeq (off_Mul_c [true, true, true, true, true] 24) (kRet Try.prog Try.f12.results.toList K)))
def off_Mul_L6 (x0 x12 x13 x14 : AV) (H : AH) (K : AV → AH → Prop) : Prop := lp (mk 36 0 [0, 12, 13, 14]) (off_Mul_c [true, true, false, true, false, false] 7) [x0, x12, x13, x14] H (kBlk 0 (kSeq (off_Mul_c [true, true, true] 13) (kRet Try.prog Try.f12.results.toList K)))
def off_Mul_L16_b (R16 : List AV → AH → Prop) (x6 x21 x22 x23 : AV) (H : AH) (K : AV → AH → Prop) : Prop :=
bO (abI .lss x23 x22) fun v0 =>
bB v0 fun t1 => bI t1 (
bO (aixS 1 x21 x23) fun v2 =>
bO (ald false 1 H v2) fun v3 =>
bO (abI .quo (.lit (.int .i64 4611686018427387904)) x6) fun v4 =>
bO (abI .gtr v3 v4) fun v5 =>
bB v5 fun t6 => bI t6 (
K (.tup [(.lit (.int .i64 0)), (.lit (.bool false))]) H)
 (bO (abI .mul x6 v3) fun v7 =>
bO (abI .add x23 (.lit (.int .i64 1))) fun v8 =>
R16 [v7, x21, x22, v8] H))
 (K (.tup [x6, (.lit (.bool true))]) H)
theorem off_Mul_L16_eq (R16 : List AV → AH → Prop) (x6 x21 x22 x23 : AV) (H : AH) (K : AV → AH → Prop) : off_Mul_c [true, true, true, true, false, true, false, false] 17 (expand (mk 36 0 [6, 21, 22, 23]) [x6, x21, x22, x23]) H (kLp (mk 36 0 [6, 21, 22, 23]) R16 (kBlk 2 (kSeq (off_Mul_c [true, true, true, true, true] 24) (kRet Try.prog Try.f12.results.toList K)))) = off_Mul_L16_b R16 x6 x21 x22 x23 H K := by kernel_rfl
theorem off_Mul_L16_rule {K : AV → AH → Prop} (I : Nat → AV → AV → AV → AV → AH → Prop) (round : ∀ (n : Nat) (x6 x21 x22 x23 : AV) (H : AH) (R : List AV → AH → Prop), (∀ (m : Nat) (y6 y21 y22 y23 : AV) (H' : AH), m < n → I m y6 y21 y22 y23 H' → R [y6, y21, y22, y23] H') → I n x6 x21 x22 x23 H → off_Mul_L16_b R x6 x21 x22 x23 H K) (n : Nat) {x6 x21 x22 x23 : AV} {H : AH} (h : I n x6 x21 x22 x23 H) : off_Mul_L16 x6 x21 x22 x23 H K := by
  refine lp_upto (sCode_one _ _) (LI4 I) ?_ n h
  intro n X H h
  obtain ⟨x6, x21, x22, x23, rfl, h⟩ := h.elim
  exact Eq.mpr (off_Mul_L16_eq _ x6 x21 x22 x23 H K) (round n x6 x21 x22 x23 H (fun X H' => ∃ m, m < n ∧ LI4 I m X H') (fun m y6 y21 y22 y23 H' hm hi => ⟨m, hm, hi⟩) h)
def off_Mul_L6_b (R6 : List AV → AH → Prop) (x0 x12 x13 x14 : AV) (H : AH) (K : AV → AH → Prop) : Prop :=
bO (abI .lss x14 x13) fun v0 =>
bB v0 fun t1 => bI t1 (
bO (aixS 1 x12 x14) fun v2 =>
bO (ald false 1 H v2) fun v3 =>
bO (abI .eql v3 (.lit (.int .i64 0))) fun v4 =>
bB v4 fun t5 => bI t5 (
K (.tup [(.lit (.int .i64 0)), (.lit (.bool true))]) H)
 (bO (abI .add x14 (.lit (.int .i64 1))) fun v6 =>
R6 [x0, x12, x13, v6] H))
 (bO (alnS x0) fun v7 =>
off_Mul_L16 (.lit (.int .i64 1)) x0 v7 (.lit (.int .i64 0)) H K)
theorem off_Mul_L6_eq (R6 : List AV → AH → Prop) (x0 x12 x13 x14 : AV) (H : AH) (K : AV → AH → Prop) : off_Mul_c [true, true, false, true, false, false] 7 (expand (mk 36 0 [0, 12, 13, 14]) [x0, x12, x13, x14]) H (kLp (mk 36 0 [0, 12, 13, 14]) R6 (kBlk 0 (kSeq (off_Mul_c [true, true, true] 13) (kRet Try.prog Try.f12.results.toList K)))) = off_Mul_L6_b R6 x0 x12 x13 x14 H K := by kernel_rfl
theorem off_Mul_L6_rule {K : AV → AH → Prop} (I : Nat → AV → AV → AV → AV → AH → Prop) (round : ∀ (n : Nat) (x0 x12 x13 x14 : AV) (H : AH) (R : List AV → AH → Prop), (∀ (m : Nat) (y0 y12 y13 y14 : AV) (H' : AH), m < n → I m y0 y12 y13 y14 H' → R [y0, y12, y13, y14] H') → I n x0 x12 x13 x14 H → off_Mul_L6_b R x0 x12 x13 x14 H K) (n : Nat) {x0 x12 x13 x14 : AV} {H : AH} (h : I n x0 x12 x13 x14 H) : off_Mul_L6 x0 x12 x13 x14 H K := by
  refine lp_upto (sCode_one _ _) (LI4 I) ?_ n h
  intro n X H h
  obtain ⟨x0, x12, x13, x14, rfl, h⟩ := h.elim
  exact Eq.mpr (off_Mul_L6_eq _ x0 x12 x13 x14 H K) (round n x0 x12 x13 x14 H (fun X H' => ∃ m, m < n ∧ LI4 I m X H') (fun m y0 y12 y13 y14 H' hm hi => ⟨m, hm, hi⟩) h)
def off_Mul (a0 : AV) (H : AH) (K : AV → AH → Prop) : Prop :=
bP (PCall Try.prog 30 [a0] H) fun v0 =>
bO (aun .not v0) fun v1 =>
bB v1 fun t2 => bI t2 (
K (.tup [(.lit (.int .i64 0)), (.lit (.bool false))]) H)
 (bO (alnS a0) fun v3 =>
off_Mul_L6 a0 a0 v3 (.lit (.int .i64 0)) H K)
theorem off_Mul_eq (a0 : AV) (H : AH) (K : AV → AH → Prop) : sFun Try.prog off_Mul_fl pql off_Mul_kp Try.f12 [a0] H K = off_Mul a0 H K := by kernel_rfl
theorem off_Mul_ok {a0 : AV} {H : AH} {K : AV → AH → Prop} (h : off_Mul a0 H K) : ∃ r H', K r H' ∧ BCall Try.prog 12 [a0] H r H' :=
  sFun_ok mixP Try.func12 (by kernel_rfl) (Eq.mpr (off_Mul_eq a0 H K) h)
/-! salvor/off.Parts -/
def off_Parts_fl : Floats := flOf []
def off_Parts_kp : Nat → Option (List Bool) := kpOf [(6, mk 48 0 [1, 2, 5])]
def off_Parts_c (p : List Bool) (n : Nat) : List AV → AH → Kf → Prop := sCode Try.prog off_Parts_fl pql off_Parts_kp (sub p (bodyOf Try.f13)) n
def off_Parts_L6 (x1 x2 x5 : AV) (H : AH) (K : AV → AH → Prop) : Prop := lp (mk 48 0 [1, 2, 5]) (off_Parts_c [true, true, true, false, false, false] 7) [x1, x2, x5] H (kBlk 0 (kSeq (off_Parts_c [true, true, true, true] 11) (kRet Try.prog Try.f13.results.toList K)))
def off_Parts_L6_b (R6 : List AV → AH → Prop) (x1 x2 x5 : AV) (H : AH) (K : AV → AH → Prop) : Prop :=
bO (ashift 1 x2) fun v0 =>
bO (ald false 1 H v0) fun v1 =>
bO (abI .gtr v1 (.lit (.int .i64 0))) fun v2 =>
bB v2 fun t3 => bI t3 (
bO (ashift 1 x2) fun v4 =>
bO (ald false 1 H v4) fun v5 =>
bO (ashift 0 x2) fun v6 =>
bO (ald false 1 H v6) fun v7 =>
bO (abI .rem v7 x1) fun v8 =>
bO (abI .sub x1 v8) fun v9 =>
bO (amm imn [v5, v9]) fun v10 =>
bO (ashift 0 x2) fun v11 =>
bO (ald false 1 H v11) fun v12 =>
bO (abl [(.lit (.int .i64 0)), (.lit (.int .i64 0))] [(0, 1, v12), (1, 1, v10)]) fun v13 =>
bH (absl H 2 1 (zrow [(.lit (.int .i64 0)), (.lit (.int .i64 0))] 1) [(0, 2, v13)]) fun v14 H15 =>
bH (aap 2 16 H15 x5 v14) fun v16 H17 =>
bO (ashift 0 x2) fun v18 =>
bO (ald false 1 H17 v18) fun v19 =>
bO (abI .add v19 v10) fun v20 =>
bO (ashift 1 x2) fun v21 =>
bO (ald false 1 H17 v21) fun v22 =>
bO (abI .sub v22 v10) fun v23 =>
bO (abl [(.lit (.int .i64 0)), (.lit (.int .i64 0))] [(0, 1, v20), (1, 1, v23)]) fun v24 =>
bS (ast 2 H17 x2 v24) fun H25 =>
R6 [x1, x2, v16] H25)
 (K x5 H)
theorem off_Parts_L6_eq (R6 : List AV → AH → Prop) (x1 x2 x5 : AV) (H : AH) (K : AV → AH → Prop) : off_Parts_c [true, true, true, false, false, false] 7 (expand (mk 48 0 [1, 2, 5]) [x1, x2, x5]) H (kLp (mk 48 0 [1, 2, 5]) R6 (kBlk 0 (kSeq (off_Parts_c [true, true, true, true] 11) (kRet Try.prog Try.f13.results.toList K)))) = off_Parts_L6_b R6 x1 x2 x5 H K := by kernel_rfl
theorem off_Parts_L6_rule {K : AV → AH → Prop} (I : Nat → AV → AV → AV → AH → Prop) (round : ∀ (n : Nat) (x1 x2 x5 : AV) (H : AH) (R : List AV → AH → Prop), (∀ (m : Nat) (y1 y2 y5 : AV) (H' : AH), m < n → I m y1 y2 y5 H' → R [y1, y2, y5] H') → I n x1 x2 x5 H → off_Parts_L6_b R x1 x2 x5 H K) (n : Nat) {x1 x2 x5 : AV} {H : AH} (h : I n x1 x2 x5 H) : off_Parts_L6 x1 x2 x5 H K := by
  refine lp_upto (sCode_one _ _) (LI3 I) ?_ n h
  intro n X H h
  obtain ⟨x1, x2, x5, rfl, h⟩ := h.elim
  exact Eq.mpr (off_Parts_L6_eq _ x1 x2 x5 H K) (round n x1 x2 x5 H (fun X H' => ∃ m, m < n ∧ LI3 I m X H') (fun m y1 y2 y5 H' hm hi => ⟨m, hm, hi⟩) h)
def off_Parts (a0 a1 : AV) (H : AH) (K : AV → AH → Prop) : Prop :=
bH (anew H a0) fun v0 H1 =>
bO (ald true 2 H1 v0) fun v2 =>
bP (PCall Try.prog 20 [v2] H1) fun v3 =>
bO (aun .not v3) fun v4 =>
bG v4 false fun w5 =>
gO w5 (ashift 1 v0) fun v6 =>
bG v4 false fun w7 =>
gO w7 (ald false 1 H1 v6) fun v8 =>
bG v4 false fun w9 =>
gO w9 (abI .gtr v8 (.lit (.int .i64 4096))) fun v10 =>
bO (apick v4 (.lit (.bool true)) v10) fun v11 =>
bG v11 false fun w12 =>
gO w12 (some a1) fun v13 =>
bG v11 false fun w14 =>
gO w14 (abI .lss v13 (.lit (.int .i64 1))) fun v15 =>
bO (apick v11 (.lit (.bool true)) v15) fun v16 =>
bB v16 fun t17 => bI t17 (
K (.lit (.slice none 0 0)) H1)
 (off_Parts_L6 a1 v0 (.lit (.slice none 0 0)) H1 K)
theorem off_Parts_eq (a0 a1 : AV) (H : AH) (K : AV → AH → Prop) : sFun Try.prog off_Parts_fl pql off_Parts_kp Try.f13 [a0, a1] H K = off_Parts a0 a1 H K := by kernel_rfl
theorem off_Parts_ok {a0 a1 : AV} {H : AH} {K : AV → AH → Prop} (h : off_Parts a0 a1 H K) : ∃ r H', K r H' ∧ BCall Try.prog 13 [a0, a1] H r H' :=
  sFun_ok mixP Try.func13 (by kernel_rfl) (Eq.mpr (off_Parts_eq a0 a1 H K) h)
/-! salvor/off.May -/
def off_May_fl : Floats := flOf []
def off_May_kp : Nat → Option (List Bool) := kpOf []
def off_May_c (p : List Bool) (n : Nat) : List AV → AH → Kf → Prop := sCode Try.prog off_May_fl pql off_May_kp (sub p (bodyOf Try.f14)) n
def off_May (a0 : AV) (H : AH) (K : AV → AH → Prop) : Prop :=
bO (abI .geq a0 (.lit (.int .i64 0))) fun v0 =>
bG v0 true fun w1 =>
gO w1 (some a0) fun v2 =>
bG v0 true fun w3 =>
gO w3 (abI .leq v2 (.lit (.int .i64 4611686018427387904))) fun v4 =>
bO (apick v0 v4 (.lit (.bool false))) fun v5 =>
K v5 H
theorem off_May_eq (a0 : AV) (H : AH) (K : AV → AH → Prop) : sFun Try.prog off_May_fl pql off_May_kp Try.f14 [a0] H K = off_May a0 H K := by kernel_rfl
theorem off_May_ok {a0 : AV} {H : AH} {K : AV → AH → Prop} (h : off_May a0 H K) : ∃ r H', K r H' ∧ BCall Try.prog 14 [a0] H r H' :=
  sFun_ok mixP Try.func14 (by kernel_rfl) (Eq.mpr (off_May_eq a0 H K) h)
/-! salvor/salvorref1.Add -/
def salvorref1_Add_fl : Floats := flOf []
def salvorref1_Add_kp : Nat → Option (List Bool) := kpOf [(4, mk 34 0 [0, 4, 5])]
def salvorref1_Add_c (p : List Bool) (n : Nat) : List AV → AH → Kf → Prop := sCode Try.prog salvorref1_Add_fl pql salvorref1_Add_kp (sub p (bodyOf Try.f15)) n
def salvorref1_Add_L4 (x0 x4 x5 : AV) (H : AH) (K : AV → AH → Prop) : Prop := lp (mk 34 0 [0, 4, 5]) (salvorref1_Add_c [true, true, false, true, false, false] 5) [x0, x4, x5] H (kBlk 0 (kSeq (salvorref1_Add_c [true, true, true] 11) (kRet Try.prog Try.f15.results.toList K)))
def salvorref1_Add_L4_b (R4 : List AV → AH → Prop) (x0 x4 x5 : AV) (H : AH) (K : AV → AH → Prop) : Prop :=
bO (alnS x0) fun v0 =>
bO (abI .lss x5 v0) fun v1 =>
bB v1 fun t2 => bI t2 (
bO (aixS 1 x0 x5) fun v3 =>
bO (ald false 1 H v3) fun v4 =>
bP (PCall Try.prog 17 [v4] H) fun v5 =>
bO (aun .not v5) fun v6 =>
bG v6 false fun w7 =>
gO w7 (some x0) fun v8 =>
bG v6 false fun w9 =>
gO w9 (some x5) fun v10 =>
bG v6 false fun w11 =>
gO w11 (aixS 1 v8 v10) fun v12 =>
bG v6 false fun w13 =>
gO w13 (ald false 1 H v12) fun v14 =>
bG v6 false fun w15 =>
gO w15 (some x4) fun v16 =>
bG v6 false fun w17 =>
gO w17 (abI .sub (.lit (.int .i64 4611686018427387904)) v16) fun v18 =>
bG v6 false fun w19 =>
gO w19 (abI .gtr v14 v18) fun v20 =>
bO (apick v6 (.lit (.bool true)) v20) fun v21 =>
bB v21 fun t22 => bI t22 (
K (.tup [(.lit (.int .i64 0)), (.lit (.bool false))]) H)
 (bO (aixS 1 x0 x5) fun v23 =>
bO (ald false 1 H v23) fun v24 =>
bO (abI .add x4 v24) fun v25 =>
bO (abI .add x5 (.lit (.int .i64 1))) fun v26 =>
R4 [x0, v25, v26] H))
 (K (.tup [x4, (.lit (.bool true))]) H)
theorem salvorref1_Add_L4_eq (R4 : List AV → AH → Prop) (x0 x4 x5 : AV) (H : AH) (K : AV → AH → Prop) : salvorref1_Add_c [true, true, false, true, false, false] 5 (expand (mk 34 0 [0, 4, 5]) [x0, x4, x5]) H (kLp (mk 34 0 [0, 4, 5]) R4 (kBlk 0 (kSeq (salvorref1_Add_c [true, true, true] 11) (kRet Try.prog Try.f15.results.toList K)))) = salvorref1_Add_L4_b R4 x0 x4 x5 H K := by kernel_rfl
theorem salvorref1_Add_L4_rule {K : AV → AH → Prop} (I : Nat → AV → AV → AV → AH → Prop) (round : ∀ (n : Nat) (x0 x4 x5 : AV) (H : AH) (R : List AV → AH → Prop), (∀ (m : Nat) (y0 y4 y5 : AV) (H' : AH), m < n → I m y0 y4 y5 H' → R [y0, y4, y5] H') → I n x0 x4 x5 H → salvorref1_Add_L4_b R x0 x4 x5 H K) (n : Nat) {x0 x4 x5 : AV} {H : AH} (h : I n x0 x4 x5 H) : salvorref1_Add_L4 x0 x4 x5 H K := by
  refine lp_upto (sCode_one _ _) (LI3 I) ?_ n h
  intro n X H h
  obtain ⟨x0, x4, x5, rfl, h⟩ := h.elim
  exact Eq.mpr (salvorref1_Add_L4_eq _ x0 x4 x5 H K) (round n x0 x4 x5 H (fun X H' => ∃ m, m < n ∧ LI3 I m X H') (fun m y0 y4 y5 H' hm hi => ⟨m, hm, hi⟩) h)
def salvorref1_Add (a0 : AV) (H : AH) (K : AV → AH → Prop) : Prop :=
salvorref1_Add_L4 a0 (.lit (.int .i64 0)) (.lit (.int .i64 0)) H K
theorem salvorref1_Add_eq (a0 : AV) (H : AH) (K : AV → AH → Prop) : sFun Try.prog salvorref1_Add_fl pql salvorref1_Add_kp Try.f15 [a0] H K = salvorref1_Add a0 H K := by kernel_rfl
theorem salvorref1_Add_ok {a0 : AV} {H : AH} {K : AV → AH → Prop} (h : salvorref1_Add a0 H K) : ∃ r H', K r H' ∧ BCall Try.prog 15 [a0] H r H' :=
  sFun_ok mixP Try.func15 (by kernel_rfl) (Eq.mpr (salvorref1_Add_eq a0 H K) h)
/-! salvor/salvorref1.Mul -/
def salvorref1_Mul_fl : Floats := flOf []
def salvorref1_Mul_kp : Nat → Option (List Bool) := kpOf [(17, mk 49 0 [0, 6, 7]), (4, mk 49 0 [0, 4, 5])]
def salvorref1_Mul_c (p : List Bool) (n : Nat) : List AV → AH → Kf → Prop := sCode Try.prog salvorref1_Mul_fl pql salvorref1_Mul_kp (sub p (bodyOf Try.f16)) n
def salvorref1_Mul_L17 (x0 x6 x7 : AV) (H : AH) (K : AV → AH → Prop) : Prop := lp (mk 49 0 [0, 6, 7]) (salvorref1_Mul_c [true, true, true, true, true, false, true, false, false] 18) [x0, x6, x7] H (kBlk 2 (kSeq (salvorref1_Mul_c [true, true, true, true, true, true] 24) (kRet Try.prog Try.f16.results.toList K)))
def salvorref1_Mul_L4 (x0 x4 x5 : AV) (H : AH) (K : AV → AH → Prop) : Prop := lp (mk 49 0 [0, 4, 5]) (salvorref1_Mul_c [true, true, false, true, false, false] 5) [x0, x4, x5] H (kBlk 0 (kSeq (salvorref1_Mul_c [true, true, true] 11) (kRet Try.prog Try.f16.results.toList K)))
def salvorref1_Mul_L17_b (R17 : List AV → AH → Prop) (x0 x6 x7 : AV) (H : AH) (K : AV → AH → Prop) : Prop :=
bO (alnS x0) fun v0 =>
bO (abI .lss x7 v0) fun v1 =>
bB v1 fun t2 => bI t2 (
bO (aixS 1 x0 x7) fun v3 =>
bO (ald false 1 H v3) fun v4 =>
bO (abI .quo (.lit (.int .i64 4611686018427387904)) x6) fun v5 =>
bO (abI .gtr v4 v5) fun v6 =>
bB v6 fun t7 => bI t7 (
K (.tup [(.lit (.int .i64 0)), (.lit (.bool false))]) H)
 (bO (aixS 1 x0 x7) fun v8 =>
bO (ald false 1 H v8) fun v9 =>
bO (abI .mul x6 v9) fun v10 =>
bO (abI .add x7 (.lit (.int .i64 1))) fun v11 =>
R17 [x0, v10, v11] H))
 (K (.tup [x6, (.lit (.bool true))]) H)
theorem salvorref1_Mul_L17_eq (R17 : List AV → AH → Prop) (x0 x6 x7 : AV) (H : AH) (K : AV → AH → Prop) : salvorref1_Mul_c [true, true, true, true, true, false, true, false, false] 18 (expand (mk 49 0 [0, 6, 7]) [x0, x6, x7]) H (kLp (mk 49 0 [0, 6, 7]) R17 (kBlk 2 (kSeq (salvorref1_Mul_c [true, true, true, true, true, true] 24) (kRet Try.prog Try.f16.results.toList K)))) = salvorref1_Mul_L17_b R17 x0 x6 x7 H K := by kernel_rfl
theorem salvorref1_Mul_L17_rule {K : AV → AH → Prop} (I : Nat → AV → AV → AV → AH → Prop) (round : ∀ (n : Nat) (x0 x6 x7 : AV) (H : AH) (R : List AV → AH → Prop), (∀ (m : Nat) (y0 y6 y7 : AV) (H' : AH), m < n → I m y0 y6 y7 H' → R [y0, y6, y7] H') → I n x0 x6 x7 H → salvorref1_Mul_L17_b R x0 x6 x7 H K) (n : Nat) {x0 x6 x7 : AV} {H : AH} (h : I n x0 x6 x7 H) : salvorref1_Mul_L17 x0 x6 x7 H K := by
  refine lp_upto (sCode_one _ _) (LI3 I) ?_ n h
  intro n X H h
  obtain ⟨x0, x6, x7, rfl, h⟩ := h.elim
  exact Eq.mpr (salvorref1_Mul_L17_eq _ x0 x6 x7 H K) (round n x0 x6 x7 H (fun X H' => ∃ m, m < n ∧ LI3 I m X H') (fun m y0 y6 y7 H' hm hi => ⟨m, hm, hi⟩) h)
def salvorref1_Mul_L4_b (R4 : List AV → AH → Prop) (x0 x4 x5 : AV) (H : AH) (K : AV → AH → Prop) : Prop :=
bO (alnS x0) fun v0 =>
bO (abI .lss x5 v0) fun v1 =>
bB v1 fun t2 => bI t2 (
bO (aixS 1 x0 x5) fun v3 =>
bO (ald false 1 H v3) fun v4 =>
bP (PCall Try.prog 17 [v4] H) fun v5 =>
bO (aun .not v5) fun v6 =>
bB v6 fun t7 => bI t7 (
K (.tup [(.lit (.int .i64 0)), (.lit (.bool false))]) H)
 (bG x4 false fun w8 =>
gO w8 (some x0) fun v9 =>
bG x4 false fun w10 =>
gO w10 (some x5) fun v11 =>
bG x4 false fun w12 =>
gO w12 (aixS 1 v9 v11) fun v13 =>
bG x4 false fun w14 =>
gO w14 (ald false 1 H v13) fun v15 =>
bG x4 false fun w16 =>
gO w16 (abI .eql v15 (.lit (.int .i64 0))) fun v17 =>
bO (apick x4 (.lit (.bool true)) v17) fun v18 =>
bO (abI .add x5 (.lit (.int .i64 1))) fun v19 =>
R4 [x0, v18, v19] H))
 (bB x4 fun t20 => bI t20 (
K (.tup [(.lit (.int .i64 0)), (.lit (.bool true))]) H)
 (salvorref1_Mul_L17 x0 (.lit (.int .i64 1)) (.lit (.int .i64 0)) H K))
theorem salvorref1_Mul_L4_eq (R4 : List AV → AH → Prop) (x0 x4 x5 : AV) (H : AH) (K : AV → AH → Prop) : salvorref1_Mul_c [true, true, false, true, false, false] 5 (expand (mk 49 0 [0, 4, 5]) [x0, x4, x5]) H (kLp (mk 49 0 [0, 4, 5]) R4 (kBlk 0 (kSeq (salvorref1_Mul_c [true, true, true] 11) (kRet Try.prog Try.f16.results.toList K)))) = salvorref1_Mul_L4_b R4 x0 x4 x5 H K := by kernel_rfl
theorem salvorref1_Mul_L4_rule {K : AV → AH → Prop} (I : Nat → AV → AV → AV → AH → Prop) (round : ∀ (n : Nat) (x0 x4 x5 : AV) (H : AH) (R : List AV → AH → Prop), (∀ (m : Nat) (y0 y4 y5 : AV) (H' : AH), m < n → I m y0 y4 y5 H' → R [y0, y4, y5] H') → I n x0 x4 x5 H → salvorref1_Mul_L4_b R x0 x4 x5 H K) (n : Nat) {x0 x4 x5 : AV} {H : AH} (h : I n x0 x4 x5 H) : salvorref1_Mul_L4 x0 x4 x5 H K := by
  refine lp_upto (sCode_one _ _) (LI3 I) ?_ n h
  intro n X H h
  obtain ⟨x0, x4, x5, rfl, h⟩ := h.elim
  exact Eq.mpr (salvorref1_Mul_L4_eq _ x0 x4 x5 H K) (round n x0 x4 x5 H (fun X H' => ∃ m, m < n ∧ LI3 I m X H') (fun m y0 y4 y5 H' hm hi => ⟨m, hm, hi⟩) h)
def salvorref1_Mul (a0 : AV) (H : AH) (K : AV → AH → Prop) : Prop :=
salvorref1_Mul_L4 a0 (.lit (.bool false)) (.lit (.int .i64 0)) H K
theorem salvorref1_Mul_eq (a0 : AV) (H : AH) (K : AV → AH → Prop) : sFun Try.prog salvorref1_Mul_fl pql salvorref1_Mul_kp Try.f16 [a0] H K = salvorref1_Mul a0 H K := by kernel_rfl
theorem salvorref1_Mul_ok {a0 : AV} {H : AH} {K : AV → AH → Prop} (h : salvorref1_Mul a0 H K) : ∃ r H', K r H' ∧ BCall Try.prog 16 [a0] H r H' :=
  sFun_ok mixP Try.func16 (by kernel_rfl) (Eq.mpr (salvorref1_Mul_eq a0 H K) h)
/-! salvor/salvorref1.May -/
def salvorref1_May_fl : Floats := flOf []
def salvorref1_May_kp : Nat → Option (List Bool) := kpOf []
def salvorref1_May_c (p : List Bool) (n : Nat) : List AV → AH → Kf → Prop := sCode Try.prog salvorref1_May_fl pql salvorref1_May_kp (sub p (bodyOf Try.f17)) n
def salvorref1_May (a0 : AV) (H : AH) (K : AV → AH → Prop) : Prop :=
bO (abI .geq a0 (.lit (.int .i64 0))) fun v0 =>
bG v0 true fun w1 =>
gO w1 (some a0) fun v2 =>
bG v0 true fun w3 =>
gO w3 (abI .leq v2 (.lit (.int .i64 4611686018427387904))) fun v4 =>
bO (apick v0 v4 (.lit (.bool false))) fun v5 =>
K v5 H
theorem salvorref1_May_eq (a0 : AV) (H : AH) (K : AV → AH → Prop) : sFun Try.prog salvorref1_May_fl pql salvorref1_May_kp Try.f17 [a0] H K = salvorref1_May a0 H K := by kernel_rfl
theorem salvorref1_May_ok {a0 : AV} {H : AH} {K : AV → AH → Prop} (h : salvorref1_May a0 H K) : ∃ r H', K r H' ∧ BCall Try.prog 17 [a0] H r H' :=
  sFun_ok mixP Try.func17 (by kernel_rfl) (Eq.mpr (salvorref1_May_eq a0 H K) h)
/-! salvor/salvorlaw1.same -/
def salvorlaw1_same_fl : Floats := flOf []
def salvorlaw1_same_kp : Nat → Option (List Bool) := kpOf [(6, mk 26 0 [0, 1, 5])]
def salvorlaw1_same_c (p : List Bool) (n : Nat) : List AV → AH → Kf → Prop := sCode Try.prog salvorlaw1_same_fl pql salvorlaw1_same_kp (sub p (bodyOf Try.f18)) n
def salvorlaw1_same_L6 (x0 x1 x5 : AV) (H : AH) (K : AV → AH → Prop) : Prop := lp (mk 26 0 [0, 1, 5]) (salvorlaw1_same_c [true, true, false, true, false, false] 7) [x0, x1, x5] H (kBlk 0 (kSeq (salvorlaw1_same_c [true, true, true] 12) (kRet Try.prog Try.f18.results.toList K)))
def salvorlaw1_same_L6_b (R6 : List AV → AH → Prop) (x0 x1 x5 : AV) (H : AH) (K : AV → AH → Prop) : Prop :=
bO (alnS x0) fun v0 =>
bO (abI .lss x5 v0) fun v1 =>
bB v1 fun t2 => bI t2 (
bO (aixS 2 x0 x5) fun v3 =>
bO (ald true 2 H v3) fun v4 =>
bO (aixS 2 x1 x5) fun v5 =>
bO (ald true 2 H v5) fun v6 =>
bO (abin Try.prog .neq 27 v4 v6) fun v7 =>
bB v7 fun t8 => bI t8 (
K (.lit (.bool false)) H)
 (bO (abI .add x5 (.lit (.int .i64 1))) fun v9 =>
R6 [x0, x1, v9] H))
 (K (.lit (.bool true)) H)
theorem salvorlaw1_same_L6_eq (R6 : List AV → AH → Prop) (x0 x1 x5 : AV) (H : AH) (K : AV → AH → Prop) : salvorlaw1_same_c [true, true, false, true, false, false] 7 (expand (mk 26 0 [0, 1, 5]) [x0, x1, x5]) H (kLp (mk 26 0 [0, 1, 5]) R6 (kBlk 0 (kSeq (salvorlaw1_same_c [true, true, true] 12) (kRet Try.prog Try.f18.results.toList K)))) = salvorlaw1_same_L6_b R6 x0 x1 x5 H K := by kernel_rfl
theorem salvorlaw1_same_L6_rule {K : AV → AH → Prop} (I : Nat → AV → AV → AV → AH → Prop) (round : ∀ (n : Nat) (x0 x1 x5 : AV) (H : AH) (R : List AV → AH → Prop), (∀ (m : Nat) (y0 y1 y5 : AV) (H' : AH), m < n → I m y0 y1 y5 H' → R [y0, y1, y5] H') → I n x0 x1 x5 H → salvorlaw1_same_L6_b R x0 x1 x5 H K) (n : Nat) {x0 x1 x5 : AV} {H : AH} (h : I n x0 x1 x5 H) : salvorlaw1_same_L6 x0 x1 x5 H K := by
  refine lp_upto (sCode_one _ _) (LI3 I) ?_ n h
  intro n X H h
  obtain ⟨x0, x1, x5, rfl, h⟩ := h.elim
  exact Eq.mpr (salvorlaw1_same_L6_eq _ x0 x1 x5 H K) (round n x0 x1 x5 H (fun X H' => ∃ m, m < n ∧ LI3 I m X H') (fun m y0 y1 y5 H' hm hi => ⟨m, hm, hi⟩) h)
def salvorlaw1_same (a0 a1 : AV) (H : AH) (K : AV → AH → Prop) : Prop :=
bO (alnS a0) fun v0 =>
bO (alnS a1) fun v1 =>
bO (abI .neq v0 v1) fun v2 =>
bB v2 fun t3 => bI t3 (
K (.lit (.bool false)) H)
 (salvorlaw1_same_L6 a0 a1 (.lit (.int .i64 0)) H K)
theorem salvorlaw1_same_eq (a0 a1 : AV) (H : AH) (K : AV → AH → Prop) : sFun Try.prog salvorlaw1_same_fl pql salvorlaw1_same_kp Try.f18 [a0, a1] H K = salvorlaw1_same a0 a1 H K := by kernel_rfl
theorem salvorlaw1_same_ok {a0 a1 : AV} {H : AH} {K : AV → AH → Prop} (h : salvorlaw1_same a0 a1 H K) : ∃ r H', K r H' ∧ BCall Try.prog 18 [a0, a1] H r H' :=
  sFun_ok mixP Try.func18 (by kernel_rfl) (Eq.mpr (salvorlaw1_same_eq a0 a1 H K) h)
/-! salvor/salvorref1.Parts -/
def salvorref1_Parts_fl : Floats := flOf []
def salvorref1_Parts_kp : Nat → Option (List Bool) := kpOf [(6, mk 50 0 [1, 2, 5])]
def salvorref1_Parts_c (p : List Bool) (n : Nat) : List AV → AH → Kf → Prop := sCode Try.prog salvorref1_Parts_fl pql salvorref1_Parts_kp (sub p (bodyOf Try.f19)) n
def salvorref1_Parts_L6 (x1 x2 x5 : AV) (H : AH) (K : AV → AH → Prop) : Prop := lp (mk 50 0 [1, 2, 5]) (salvorref1_Parts_c [true, true, true, false, false, false] 7) [x1, x2, x5] H (kBlk 0 (kSeq (salvorref1_Parts_c [true, true, true, true] 11) (kRet Try.prog Try.f19.results.toList K)))
def salvorref1_Parts_L6_b (R6 : List AV → AH → Prop) (x1 x2 x5 : AV) (H : AH) (K : AV → AH → Prop) : Prop :=
bO (ashift 1 x2) fun v0 =>
bO (ald false 1 H v0) fun v1 =>
bO (abI .gtr v1 (.lit (.int .i64 0))) fun v2 =>
bB v2 fun t3 => bI t3 (
bO (ashift 1 x2) fun v4 =>
bO (ald false 1 H v4) fun v5 =>
bO (ashift 0 x2) fun v6 =>
bO (ald false 1 H v6) fun v7 =>
bO (abI .rem v7 x1) fun v8 =>
bO (abI .sub x1 v8) fun v9 =>
bO (amm imn [v5, v9]) fun v10 =>
bO (ashift 0 x2) fun v11 =>
bO (ald false 1 H v11) fun v12 =>
bO (abl [(.lit (.int .i64 0)), (.lit (.int .i64 0))] [(0, 1, v12), (1, 1, v10)]) fun v13 =>
bH (absl H 2 1 (zrow [(.lit (.int .i64 0)), (.lit (.int .i64 0))] 1) [(0, 2, v13)]) fun v14 H15 =>
bH (aap 2 16 H15 x5 v14) fun v16 H17 =>
bO (ashift 0 x2) fun v18 =>
bO (ald false 1 H17 v18) fun v19 =>
bO (abI .add v19 v10) fun v20 =>
bO (ashift 1 x2) fun v21 =>
bO (ald false 1 H17 v21) fun v22 =>
bO (abI .sub v22 v10) fun v23 =>
bO (ashift 0 x2) fun v24 =>
bS (ast 1 H17 v24 v20) fun H25 =>
bO (ashift 1 x2) fun v26 =>
bS (ast 1 H25 v26 v23) fun H27 =>
R6 [x1, x2, v16] H27)
 (K x5 H)
theorem salvorref1_Parts_L6_eq (R6 : List AV → AH → Prop) (x1 x2 x5 : AV) (H : AH) (K : AV → AH → Prop) : salvorref1_Parts_c [true, true, true, false, false, false] 7 (expand (mk 50 0 [1, 2, 5]) [x1, x2, x5]) H (kLp (mk 50 0 [1, 2, 5]) R6 (kBlk 0 (kSeq (salvorref1_Parts_c [true, true, true, true] 11) (kRet Try.prog Try.f19.results.toList K)))) = salvorref1_Parts_L6_b R6 x1 x2 x5 H K := by kernel_rfl
theorem salvorref1_Parts_L6_rule {K : AV → AH → Prop} (I : Nat → AV → AV → AV → AH → Prop) (round : ∀ (n : Nat) (x1 x2 x5 : AV) (H : AH) (R : List AV → AH → Prop), (∀ (m : Nat) (y1 y2 y5 : AV) (H' : AH), m < n → I m y1 y2 y5 H' → R [y1, y2, y5] H') → I n x1 x2 x5 H → salvorref1_Parts_L6_b R x1 x2 x5 H K) (n : Nat) {x1 x2 x5 : AV} {H : AH} (h : I n x1 x2 x5 H) : salvorref1_Parts_L6 x1 x2 x5 H K := by
  refine lp_upto (sCode_one _ _) (LI3 I) ?_ n h
  intro n X H h
  obtain ⟨x1, x2, x5, rfl, h⟩ := h.elim
  exact Eq.mpr (salvorref1_Parts_L6_eq _ x1 x2 x5 H K) (round n x1 x2 x5 H (fun X H' => ∃ m, m < n ∧ LI3 I m X H') (fun m y1 y2 y5 H' hm hi => ⟨m, hm, hi⟩) h)
def salvorref1_Parts (a0 a1 : AV) (H : AH) (K : AV → AH → Prop) : Prop :=
bH (anew H a0) fun v0 H1 =>
bO (ald true 2 H1 v0) fun v2 =>
bP (PCall Try.prog 27 [v2] H1) fun v3 =>
bO (aun .not v3) fun v4 =>
bG v4 false fun w5 =>
gO w5 (ashift 1 v0) fun v6 =>
bG v4 false fun w7 =>
gO w7 (ald false 1 H1 v6) fun v8 =>
bG v4 false fun w9 =>
gO w9 (abI .gtr v8 (.lit (.int .i64 4096))) fun v10 =>
bO (apick v4 (.lit (.bool true)) v10) fun v11 =>
bG v11 false fun w12 =>
gO w12 (some a1) fun v13 =>
bG v11 false fun w14 =>
gO w14 (abI .lss v13 (.lit (.int .i64 1))) fun v15 =>
bO (apick v11 (.lit (.bool true)) v15) fun v16 =>
bB v16 fun t17 => bI t17 (
K (.lit (.slice none 0 0)) H1)
 (salvorref1_Parts_L6 a1 v0 (.lit (.slice none 0 0)) H1 K)
theorem salvorref1_Parts_eq (a0 a1 : AV) (H : AH) (K : AV → AH → Prop) : sFun Try.prog salvorref1_Parts_fl pql salvorref1_Parts_kp Try.f19 [a0, a1] H K = salvorref1_Parts a0 a1 H K := by kernel_rfl
theorem salvorref1_Parts_ok {a0 a1 : AV} {H : AH} {K : AV → AH → Prop} (h : salvorref1_Parts a0 a1 H K) : ∃ r H', K r H' ∧ BCall Try.prog 19 [a0, a1] H r H' :=
  sFun_ok mixP Try.func19 (by kernel_rfl) (Eq.mpr (salvorref1_Parts_eq a0 a1 H K) h)
/-! salvor/off.MaySpan -/
def off_MaySpan_fl : Floats := flOf []
def off_MaySpan_kp : Nat → Option (List Bool) := kpOf []
def off_MaySpan_c (p : List Bool) (n : Nat) : List AV → AH → Kf → Prop := sCode Try.prog off_MaySpan_fl pql off_MaySpan_kp (sub p (bodyOf Try.f20)) n
def off_MaySpan (a0 : AV) (H : AH) (K : AV → AH → Prop) : Prop :=
bH (anew H a0) fun v0 H1 =>
bO (ashift 0 v0) fun v2 =>
bO (ald false 1 H1 v2) fun v3 =>
bP (PCall Try.prog 14 [v3] H1) fun v4 =>
bG v4 true fun w5 =>
gO w5 (ashift 1 v0) fun v6 =>
bG v4 true fun w7 =>
gO w7 (ald false 1 H1 v6) fun v8 =>
bG v4 true fun w9 =>
gP w9 (PCall Try.prog 14 [v8] H1) fun v10 =>
bO (apick v4 v10 (.lit (.bool false))) fun v11 =>
bG v11 true fun w12 =>
gO w12 (ashift 1 v0) fun v13 =>
bG v11 true fun w14 =>
gO w14 (ald false 1 H1 v13) fun v15 =>
bG v11 true fun w16 =>
gO w16 (ashift 0 v0) fun v17 =>
bG v11 true fun w18 =>
gO w18 (ald false 1 H1 v17) fun v19 =>
bG v11 true fun w20 =>
gO w20 (abI .sub (.lit (.int .i64 4611686018427387904)) v19) fun v21 =>
bG v11 true fun w22 =>
gO w22 (abI .leq v15 v21) fun v23 =>
bO (apick v11 v23 (.lit (.bool false))) fun v24 =>
K v24 H1
theorem off_MaySpan_eq (a0 : AV) (H : AH) (K : AV → AH → Prop) : sFun Try.prog off_MaySpan_fl pql off_MaySpan_kp Try.f20 [a0] H K = off_MaySpan a0 H K := by kernel_rfl
theorem off_MaySpan_ok {a0 : AV} {H : AH} {K : AV → AH → Prop} (h : off_MaySpan a0 H K) : ∃ r H', K r H' ∧ BCall Try.prog 20 [a0] H r H' :=
  sFun_ok mixP Try.func20 (by kernel_rfl) (Eq.mpr (off_MaySpan_eq a0 H K) h)
/-! salvor/off.Meet -/
def off_Meet_fl : Floats := flOf []
def off_Meet_kp : Nat → Option (List Bool) := kpOf []
def off_Meet_c (p : List Bool) (n : Nat) : List AV → AH → Kf → Prop := sCode Try.prog off_Meet_fl pql off_Meet_kp (sub p (bodyOf Try.f21)) n
def off_Meet (a0 a1 : AV) (H : AH) (K : AV → AH → Prop) : Prop :=
bH (anew H a0) fun v0 H1 =>
bH (anew H1 a1) fun v2 H3 =>
bH (anew H3 (.agg [(.lit (.int .i64 0)), (.lit (.int .i64 0))])) fun v4 H5 =>
bO (ald true 2 H5 v0) fun v6 =>
bP (PCall Try.prog 20 [v6] H5) fun v7 =>
bO (aun .not v7) fun v8 =>
bG v8 false fun w9 =>
gO w9 (ald true 2 H5 v2) fun v10 =>
bG v8 false fun w11 =>
gP w11 (PCall Try.prog 20 [v10] H5) fun v12 =>
bG v8 false fun w13 =>
gO w13 (aun .not v12) fun v14 =>
bO (apick v8 (.lit (.bool true)) v14) fun v15 =>
bB v15 fun t16 => bI t16 (
bO (abl [(.lit (.int .i64 0)), (.lit (.int .i64 0))] []) fun v17 =>
bS (ast 2 H5 v4 v17) fun H18 =>
bO (ald true 2 H18 v4) fun v19 =>
K v19 H18)
 (bO (ashift 0 v0) fun v20 =>
bO (ald false 1 H5 v20) fun v21 =>
bO (ashift 0 v2) fun v22 =>
bO (ald false 1 H5 v22) fun v23 =>
bO (amm imx [v21, v23]) fun v24 =>
bO (ashift 0 v0) fun v25 =>
bO (ald false 1 H5 v25) fun v26 =>
bO (ashift 1 v0) fun v27 =>
bO (ald false 1 H5 v27) fun v28 =>
bO (abI .add v26 v28) fun v29 =>
bO (ashift 0 v2) fun v30 =>
bO (ald false 1 H5 v30) fun v31 =>
bO (ashift 1 v2) fun v32 =>
bO (ald false 1 H5 v32) fun v33 =>
bO (abI .add v31 v33) fun v34 =>
bO (amm imn [v29, v34]) fun v35 =>
bO (abI .geq v24 v35) fun v36 =>
bB v36 fun t37 => bI t37 (
bO (abl [(.lit (.int .i64 0)), (.lit (.int .i64 0))] []) fun v38 =>
bS (ast 2 H5 v4 v38) fun H39 =>
bO (ald true 2 H39 v4) fun v40 =>
K v40 H39)
 (bO (abI .sub v35 v24) fun v41 =>
bO (abl [(.lit (.int .i64 0)), (.lit (.int .i64 0))] [(0, 1, v24), (1, 1, v41)]) fun v42 =>
bS (ast 2 H5 v4 v42) fun H43 =>
bO (ald true 2 H43 v4) fun v44 =>
K v44 H43))
theorem off_Meet_eq (a0 a1 : AV) (H : AH) (K : AV → AH → Prop) : sFun Try.prog off_Meet_fl pql off_Meet_kp Try.f21 [a0, a1] H K = off_Meet a0 a1 H K := by kernel_rfl
theorem off_Meet_ok {a0 a1 : AV} {H : AH} {K : AV → AH → Prop} (h : off_Meet a0 a1 H K) : ∃ r H', K r H' ∧ BCall Try.prog 21 [a0, a1] H r H' :=
  sFun_ok mixP Try.func21 (by kernel_rfl) (Eq.mpr (off_Meet_eq a0 a1 H K) h)
/-! salvor/off.Within -/
def off_Within_fl : Floats := flOf []
def off_Within_kp : Nat → Option (List Bool) := kpOf []
def off_Within_c (p : List Bool) (n : Nat) : List AV → AH → Kf → Prop := sCode Try.prog off_Within_fl pql off_Within_kp (sub p (bodyOf Try.f22)) n
def off_Within (a0 a1 : AV) (H : AH) (K : AV → AH → Prop) : Prop :=
bH (anew H a0) fun v0 H1 =>
bH (anew H1 a1) fun v2 H3 =>
bO (ald true 2 H3 v0) fun v4 =>
bP (PCall Try.prog 20 [v4] H3) fun v5 =>
bO (aun .not v5) fun v6 =>
bG v6 false fun w7 =>
gO w7 (ald true 2 H3 v2) fun v8 =>
bG v6 false fun w9 =>
gP w9 (PCall Try.prog 20 [v8] H3) fun v10 =>
bG v6 false fun w11 =>
gO w11 (aun .not v10) fun v12 =>
bO (apick v6 (.lit (.bool true)) v12) fun v13 =>
bB v13 fun t14 => bI t14 (
K (.lit (.bool false)) H3)
 (bO (ashift 1 v0) fun v15 =>
bO (ald false 1 H3 v15) fun v16 =>
bO (abI .eql v16 (.lit (.int .i64 0))) fun v17 =>
bG v17 false fun w18 =>
gO w18 (ald true 2 H3 v0) fun v19 =>
bG v17 false fun w20 =>
gO w20 (ald true 2 H3 v2) fun v21 =>
bG v17 false fun w22 =>
gP w22 (BPure Try.prog 21 [v19, v21]) fun v23 =>
bG v17 false fun w24 =>
gO w24 (ald true 2 H3 v0) fun v25 =>
bG v17 false fun w26 =>
gO w26 (abin Try.prog .eql 27 v23 v25) fun v27 =>
bO (apick v17 (.lit (.bool true)) v27) fun v28 =>
K v28 H3)
theorem off_Within_eq (a0 a1 : AV) (H : AH) (K : AV → AH → Prop) : sFun Try.prog off_Within_fl pql off_Within_kp Try.f22 [a0, a1] H K = off_Within a0 a1 H K := by kernel_rfl
theorem off_Within_ok {a0 a1 : AV} {H : AH} {K : AV → AH → Prop} (h : off_Within a0 a1 H K) : ∃ r H', K r H' ∧ BCall Try.prog 22 [a0, a1] H r H' :=
  sFun_ok mixP Try.func22 (by kernel_rfl) (Eq.mpr (off_Within_eq a0 a1 H K) h)
/-! salvor/off.Down -/
def off_Down_fl : Floats := flOf []
def off_Down_kp : Nat → Option (List Bool) := kpOf []
def off_Down_c (p : List Bool) (n : Nat) : List AV → AH → Kf → Prop := sCode Try.prog off_Down_fl pql off_Down_kp (sub p (bodyOf Try.f23)) n
def off_Down (a0 a1 : AV) (H : AH) (K : AV → AH → Prop) : Prop :=
bP (PCall Try.prog 14 [a0] H) fun v0 =>
bO (aun .not v0) fun v1 =>
bG v1 false fun w2 =>
gO w2 (some a1) fun v3 =>
bG v1 false fun w4 =>
gO w4 (abI .lss v3 (.lit (.int .i64 1))) fun v5 =>
bO (apick v1 (.lit (.bool true)) v5) fun v6 =>
bB v6 fun t7 => bI t7 (
K (.lit (.int .i64 0)) H)
 (bO (abI .rem a0 a1) fun v8 =>
bO (abI .sub a0 v8) fun v9 =>
K v9 H)
theorem off_Down_eq (a0 a1 : AV) (H : AH) (K : AV → AH → Prop) : sFun Try.prog off_Down_fl pql off_Down_kp Try.f23 [a0, a1] H K = off_Down a0 a1 H K := by kernel_rfl
theorem off_Down_ok {a0 a1 : AV} {H : AH} {K : AV → AH → Prop} (h : off_Down a0 a1 H K) : ∃ r H', K r H' ∧ BCall Try.prog 23 [a0, a1] H r H' :=
  sFun_ok mixP Try.func23 (by kernel_rfl) (Eq.mpr (off_Down_eq a0 a1 H K) h)
/-! salvor/off.Up -/
def off_Up_fl : Floats := flOf []
def off_Up_kp : Nat → Option (List Bool) := kpOf []
def off_Up_c (p : List Bool) (n : Nat) : List AV → AH → Kf → Prop := sCode Try.prog off_Up_fl pql off_Up_kp (sub p (bodyOf Try.f24)) n
def off_Up (a0 a1 : AV) (H : AH) (K : AV → AH → Prop) : Prop :=
bP (PCall Try.prog 14 [a0] H) fun v0 =>
bO (aun .not v0) fun v1 =>
bG v1 false fun w2 =>
gO w2 (some a1) fun v3 =>
bG v1 false fun w4 =>
gO w4 (abI .lss v3 (.lit (.int .i64 1))) fun v5 =>
bO (apick v1 (.lit (.bool true)) v5) fun v6 =>
bB v6 fun t7 => bI t7 (
K (.tup [(.lit (.int .i64 0)), (.lit (.bool false))]) H)
 (bP (PCall Try.prog 23 [a0, a1] H) fun v8 =>
bO (abI .eql v8 a0) fun v9 =>
bB v9 fun t10 => bI t10 (
K (.tup [a0, (.lit (.bool true))]) H)
 (bO (abI .sub (.lit (.int .i64 4611686018427387904)) v8) fun v11 =>
bO (abI .gtr a1 v11) fun v12 =>
bB v12 fun t13 => bI t13 (
K (.tup [(.lit (.int .i64 0)), (.lit (.bool false))]) H)
 (bO (abI .add v8 a1) fun v14 =>
K (.tup [v14, (.lit (.bool true))]) H)))
theorem off_Up_eq (a0 a1 : AV) (H : AH) (K : AV → AH → Prop) : sFun Try.prog off_Up_fl pql off_Up_kp Try.f24 [a0, a1] H K = off_Up a0 a1 H K := by kernel_rfl
theorem off_Up_ok {a0 a1 : AV} {H : AH} {K : AV → AH → Prop} (h : off_Up a0 a1 H K) : ∃ r H', K r H' ∧ BCall Try.prog 24 [a0, a1] H r H' :=
  sFun_ok mixP Try.func24 (by kernel_rfl) (Eq.mpr (off_Up_eq a0 a1 H K) h)
/-! salvor/salvorref1.Up -/
def salvorref1_Up_fl : Floats := flOf []
def salvorref1_Up_kp : Nat → Option (List Bool) := kpOf []
def salvorref1_Up_c (p : List Bool) (n : Nat) : List AV → AH → Kf → Prop := sCode Try.prog salvorref1_Up_fl pql salvorref1_Up_kp (sub p (bodyOf Try.f25)) n
def salvorref1_Up (a0 a1 : AV) (H : AH) (K : AV → AH → Prop) : Prop :=
bP (PCall Try.prog 17 [a0] H) fun v0 =>
bO (aun .not v0) fun v1 =>
bG v1 false fun w2 =>
gO w2 (some a1) fun v3 =>
bG v1 false fun w4 =>
gO w4 (abI .lss v3 (.lit (.int .i64 1))) fun v5 =>
bO (apick v1 (.lit (.bool true)) v5) fun v6 =>
bB v6 fun t7 => bI t7 (
K (.tup [(.lit (.int .i64 0)), (.lit (.bool false))]) H)
 (bO (abI .rem a0 a1) fun v8 =>
bO (abI .eql v8 (.lit (.int .i64 0))) fun v9 =>
bB v9 fun t10 => bI t10 (
K (.tup [a0, (.lit (.bool true))]) H)
 (bO (abI .sub a1 v8) fun v11 =>
bO (abI .sub (.lit (.int .i64 4611686018427387904)) a0) fun v12 =>
bO (abI .gtr v11 v12) fun v13 =>
bB v13 fun t14 => bI t14 (
K (.tup [(.lit (.int .i64 0)), (.lit (.bool false))]) H)
 (bO (abI .sub a1 v8) fun v15 =>
bO (abI .add a0 v15) fun v16 =>
K (.tup [v16, (.lit (.bool true))]) H)))
theorem salvorref1_Up_eq (a0 a1 : AV) (H : AH) (K : AV → AH → Prop) : sFun Try.prog salvorref1_Up_fl pql salvorref1_Up_kp Try.f25 [a0, a1] H K = salvorref1_Up a0 a1 H K := by kernel_rfl
theorem salvorref1_Up_ok {a0 a1 : AV} {H : AH} {K : AV → AH → Prop} (h : salvorref1_Up a0 a1 H K) : ∃ r H', K r H' ∧ BCall Try.prog 25 [a0, a1] H r H' :=
  sFun_ok mixP Try.func25 (by kernel_rfl) (Eq.mpr (salvorref1_Up_eq a0 a1 H K) h)
/-! salvor/salvorref1.Down -/
def salvorref1_Down_fl : Floats := flOf []
def salvorref1_Down_kp : Nat → Option (List Bool) := kpOf []
def salvorref1_Down_c (p : List Bool) (n : Nat) : List AV → AH → Kf → Prop := sCode Try.prog salvorref1_Down_fl pql salvorref1_Down_kp (sub p (bodyOf Try.f26)) n
def salvorref1_Down (a0 a1 : AV) (H : AH) (K : AV → AH → Prop) : Prop :=
bP (PCall Try.prog 17 [a0] H) fun v0 =>
bO (aun .not v0) fun v1 =>
bG v1 false fun w2 =>
gO w2 (some a1) fun v3 =>
bG v1 false fun w4 =>
gO w4 (abI .lss v3 (.lit (.int .i64 1))) fun v5 =>
bO (apick v1 (.lit (.bool true)) v5) fun v6 =>
bB v6 fun t7 => bI t7 (
K (.lit (.int .i64 0)) H)
 (bO (abI .rem a0 a1) fun v8 =>
bO (abI .sub a0 v8) fun v9 =>
K v9 H)
theorem salvorref1_Down_eq (a0 a1 : AV) (H : AH) (K : AV → AH → Prop) : sFun Try.prog salvorref1_Down_fl pql salvorref1_Down_kp Try.f26 [a0, a1] H K = salvorref1_Down a0 a1 H K := by kernel_rfl
theorem salvorref1_Down_ok {a0 a1 : AV} {H : AH} {K : AV → AH → Prop} (h : salvorref1_Down a0 a1 H K) : ∃ r H', K r H' ∧ BCall Try.prog 26 [a0, a1] H r H' :=
  sFun_ok mixP Try.func26 (by kernel_rfl) (Eq.mpr (salvorref1_Down_eq a0 a1 H K) h)
/-! salvor/salvorref1.MaySpan -/
def salvorref1_MaySpan_fl : Floats := flOf []
def salvorref1_MaySpan_kp : Nat → Option (List Bool) := kpOf []
def salvorref1_MaySpan_c (p : List Bool) (n : Nat) : List AV → AH → Kf → Prop := sCode Try.prog salvorref1_MaySpan_fl pql salvorref1_MaySpan_kp (sub p (bodyOf Try.f27)) n
def salvorref1_MaySpan (a0 : AV) (H : AH) (K : AV → AH → Prop) : Prop :=
bH (anew H a0) fun v0 H1 =>
bO (ashift 0 v0) fun v2 =>
bO (ald false 1 H1 v2) fun v3 =>
bO (ashift 1 v0) fun v4 =>
bO (ald false 1 H1 v4) fun v5 =>
bH (absl H1 1 2 (zrow [(.lit (.int .i64 0))] 2) [(0, 1, v3), (1, 1, v5)]) fun v6 H7 =>
bP (PCall Try.prog 15 [v6] H7) fun v8 =>
bO (aextract v8 0) fun v9 =>
bO (aextract v8 1) fun v10 =>
K v10 H7
theorem salvorref1_MaySpan_eq (a0 : AV) (H : AH) (K : AV → AH → Prop) : sFun Try.prog salvorref1_MaySpan_fl pql salvorref1_MaySpan_kp Try.f27 [a0] H K = salvorref1_MaySpan a0 H K := by kernel_rfl
theorem salvorref1_MaySpan_ok {a0 : AV} {H : AH} {K : AV → AH → Prop} (h : salvorref1_MaySpan a0 H K) : ∃ r H', K r H' ∧ BCall Try.prog 27 [a0] H r H' :=
  sFun_ok mixP Try.func27 (by kernel_rfl) (Eq.mpr (salvorref1_MaySpan_eq a0 H K) h)
/-! salvor/salvorref1.Meet -/
def salvorref1_Meet_fl : Floats := flOf []
def salvorref1_Meet_kp : Nat → Option (List Bool) := kpOf []
def salvorref1_Meet_c (p : List Bool) (n : Nat) : List AV → AH → Kf → Prop := sCode Try.prog salvorref1_Meet_fl pql salvorref1_Meet_kp (sub p (bodyOf Try.f28)) n
def salvorref1_Meet (a0 a1 : AV) (H : AH) (K : AV → AH → Prop) : Prop :=
bH (anew H a0) fun v0 H1 =>
bH (anew H1 a1) fun v2 H3 =>
bH (anew H3 (.agg [(.lit (.int .i64 0)), (.lit (.int .i64 0))])) fun v4 H5 =>
bO (ald true 2 H5 v0) fun v6 =>
bP (PCall Try.prog 27 [v6] H5) fun v7 =>
bO (aun .not v7) fun v8 =>
bG v8 false fun w9 =>
gO w9 (ald true 2 H5 v2) fun v10 =>
bG v8 false fun w11 =>
gP w11 (PCall Try.prog 27 [v10] H5) fun v12 =>
bG v8 false fun w13 =>
gO w13 (aun .not v12) fun v14 =>
bO (apick v8 (.lit (.bool true)) v14) fun v15 =>
bB v15 fun t16 => bI t16 (
bO (abl [(.lit (.int .i64 0)), (.lit (.int .i64 0))] []) fun v17 =>
bS (ast 2 H5 v4 v17) fun H18 =>
bO (ald true 2 H18 v4) fun v19 =>
K v19 H18)
 (bO (ashift 0 v0) fun v20 =>
bO (ald false 1 H5 v20) fun v21 =>
bO (ashift 0 v2) fun v22 =>
bO (ald false 1 H5 v22) fun v23 =>
bO (amm imx [v21, v23]) fun v24 =>
bO (ashift 0 v0) fun v25 =>
bO (ald false 1 H5 v25) fun v26 =>
bO (ashift 1 v0) fun v27 =>
bO (ald false 1 H5 v27) fun v28 =>
bO (abI .add v26 v28) fun v29 =>
bO (ashift 0 v2) fun v30 =>
bO (ald false 1 H5 v30) fun v31 =>
bO (ashift 1 v2) fun v32 =>
bO (ald false 1 H5 v32) fun v33 =>
bO (abI .add v31 v33) fun v34 =>
bO (amm imn [v29, v34]) fun v35 =>
bO (abI .leq v35 v24) fun v36 =>
bB v36 fun t37 => bI t37 (
bO (abl [(.lit (.int .i64 0)), (.lit (.int .i64 0))] []) fun v38 =>
bS (ast 2 H5 v4 v38) fun H39 =>
bO (ald true 2 H39 v4) fun v40 =>
K v40 H39)
 (bO (abI .sub v35 v24) fun v41 =>
bO (abl [(.lit (.int .i64 0)), (.lit (.int .i64 0))] [(0, 1, v24), (1, 1, v41)]) fun v42 =>
bS (ast 2 H5 v4 v42) fun H43 =>
bO (ald true 2 H43 v4) fun v44 =>
K v44 H43))
theorem salvorref1_Meet_eq (a0 a1 : AV) (H : AH) (K : AV → AH → Prop) : sFun Try.prog salvorref1_Meet_fl pql salvorref1_Meet_kp Try.f28 [a0, a1] H K = salvorref1_Meet a0 a1 H K := by kernel_rfl
theorem salvorref1_Meet_ok {a0 a1 : AV} {H : AH} {K : AV → AH → Prop} (h : salvorref1_Meet a0 a1 H K) : ∃ r H', K r H' ∧ BCall Try.prog 28 [a0, a1] H r H' :=
  sFun_ok mixP Try.func28 (by kernel_rfl) (Eq.mpr (salvorref1_Meet_eq a0 a1 H K) h)
/-! salvor/salvorref1.Within -/
def salvorref1_Within_fl : Floats := flOf []
def salvorref1_Within_kp : Nat → Option (List Bool) := kpOf []
def salvorref1_Within_c (p : List Bool) (n : Nat) : List AV → AH → Kf → Prop := sCode Try.prog salvorref1_Within_fl pql salvorref1_Within_kp (sub p (bodyOf Try.f29)) n
def salvorref1_Within (a0 a1 : AV) (H : AH) (K : AV → AH → Prop) : Prop :=
bH (anew H a0) fun v0 H1 =>
bH (anew H1 a1) fun v2 H3 =>
bO (ald true 2 H3 v0) fun v4 =>
bP (PCall Try.prog 27 [v4] H3) fun v5 =>
bO (aun .not v5) fun v6 =>
bG v6 false fun w7 =>
gO w7 (ald true 2 H3 v2) fun v8 =>
bG v6 false fun w9 =>
gP w9 (PCall Try.prog 27 [v8] H3) fun v10 =>
bG v6 false fun w11 =>
gO w11 (aun .not v10) fun v12 =>
bO (apick v6 (.lit (.bool true)) v12) fun v13 =>
bB v13 fun t14 => bI t14 (
K (.lit (.bool false)) H3)
 (bO (ashift 1 v0) fun v15 =>
bO (ald false 1 H3 v15) fun v16 =>
bO (abI .eql v16 (.lit (.int .i64 0))) fun v17 =>
bG v17 false fun w18 =>
gO w18 (ashift 0 v0) fun v19 =>
bG v17 false fun w20 =>
gO w20 (ald false 1 H3 v19) fun v21 =>
bG v17 false fun w22 =>
gO w22 (ashift 0 v2) fun v23 =>
bG v17 false fun w24 =>
gO w24 (ald false 1 H3 v23) fun v25 =>
bG v17 false fun w26 =>
gO w26 (abI .geq v21 v25) fun v27 =>
bG v17 false fun w28 =>
gO w28 (some v27) fun v29 =>
bG v29 true fun w30 =>
gO w30 (ashift 0 v0) fun v31 =>
bG v29 true fun w32 =>
gO w32 (ald false 1 H3 v31) fun v33 =>
bG v29 true fun w34 =>
gO w34 (ashift 1 v0) fun v35 =>
bG v29 true fun w36 =>
gO w36 (ald false 1 H3 v35) fun v37 =>
bG v29 true fun w38 =>
gO w38 (abI .add v33 v37) fun v39 =>
bG v29 true fun w40 =>
gO w40 (ashift 0 v2) fun v41 =>
bG v29 true fun w42 =>
gO w42 (ald false 1 H3 v41) fun v43 =>
bG v29 true fun w44 =>
gO w44 (ashift 1 v2) fun v45 =>
bG v29 true fun w46 =>
gO w46 (ald false 1 H3 v45) fun v47 =>
bG v29 true fun w48 =>
gO w48 (abI .add v43 v47) fun v49 =>
bG v29 true fun w50 =>
gO w50 (abI .leq v39 v49) fun v51 =>
bG v17 false fun w52 =>
gO w52 (apick v29 v51 (.lit (.bool false))) fun v53 =>
bO (apick v17 (.lit (.bool true)) v53) fun v54 =>
K v54 H3)
theorem salvorref1_Within_eq (a0 a1 : AV) (H : AH) (K : AV → AH → Prop) : sFun Try.prog salvorref1_Within_fl pql salvorref1_Within_kp Try.f29 [a0, a1] H K = salvorref1_Within a0 a1 H K := by kernel_rfl
theorem salvorref1_Within_ok {a0 a1 : AV} {H : AH} {K : AV → AH → Prop} (h : salvorref1_Within a0 a1 H K) : ∃ r H', K r H' ∧ BCall Try.prog 29 [a0, a1] H r H' :=
  sFun_ok mixP Try.func29 (by kernel_rfl) (Eq.mpr (salvorref1_Within_eq a0 a1 H K) h)
/-! salvor/off.all -/
def off_all_fl : Floats := flOf []
def off_all_kp : Nat → Option (List Bool) := kpOf [(3, mk 15 0 [5, 6, 7])]
def off_all_c (p : List Bool) (n : Nat) : List AV → AH → Kf → Prop := sCode Try.prog off_all_fl pql off_all_kp (sub p (bodyOf Try.f30)) n
def off_all_L3 (x5 x6 x7 : AV) (H : AH) (K : AV → AH → Prop) : Prop := lp (mk 15 0 [5, 6, 7]) (off_all_c [true, false, true, false, false] 4) [x5, x6, x7] H (kBlk 0 (kSeq (off_all_c [true, true] 10) (kRet Try.prog Try.f30.results.toList K)))
def off_all_L3_b (R3 : List AV → AH → Prop) (x5 x6 x7 : AV) (H : AH) (K : AV → AH → Prop) : Prop :=
bO (abI .lss x7 x6) fun v0 =>
bB v0 fun t1 => bI t1 (
bO (aixS 1 x5 x7) fun v2 =>
bO (ald false 1 H v2) fun v3 =>
bP (PCall Try.prog 14 [v3] H) fun v4 =>
bO (aun .not v4) fun v5 =>
bB v5 fun t6 => bI t6 (
K (.lit (.bool false)) H)
 (bO (abI .add x7 (.lit (.int .i64 1))) fun v7 =>
R3 [x5, x6, v7] H))
 (K (.lit (.bool true)) H)
theorem off_all_L3_eq (R3 : List AV → AH → Prop) (x5 x6 x7 : AV) (H : AH) (K : AV → AH → Prop) : off_all_c [true, false, true, false, false] 4 (expand (mk 15 0 [5, 6, 7]) [x5, x6, x7]) H (kLp (mk 15 0 [5, 6, 7]) R3 (kBlk 0 (kSeq (off_all_c [true, true] 10) (kRet Try.prog Try.f30.results.toList K)))) = off_all_L3_b R3 x5 x6 x7 H K := by kernel_rfl
theorem off_all_L3_rule {K : AV → AH → Prop} (I : Nat → AV → AV → AV → AH → Prop) (round : ∀ (n : Nat) (x5 x6 x7 : AV) (H : AH) (R : List AV → AH → Prop), (∀ (m : Nat) (y5 y6 y7 : AV) (H' : AH), m < n → I m y5 y6 y7 H' → R [y5, y6, y7] H') → I n x5 x6 x7 H → off_all_L3_b R x5 x6 x7 H K) (n : Nat) {x5 x6 x7 : AV} {H : AH} (h : I n x5 x6 x7 H) : off_all_L3 x5 x6 x7 H K := by
  refine lp_upto (sCode_one _ _) (LI3 I) ?_ n h
  intro n X H h
  obtain ⟨x5, x6, x7, rfl, h⟩ := h.elim
  exact Eq.mpr (off_all_L3_eq _ x5 x6 x7 H K) (round n x5 x6 x7 H (fun X H' => ∃ m, m < n ∧ LI3 I m X H') (fun m y5 y6 y7 H' hm hi => ⟨m, hm, hi⟩) h)
def off_all (a0 : AV) (H : AH) (K : AV → AH → Prop) : Prop :=
bO (alnS a0) fun v0 =>
off_all_L3 a0 v0 (.lit (.int .i64 0)) H K
theorem off_all_eq (a0 : AV) (H : AH) (K : AV → AH → Prop) : sFun Try.prog off_all_fl pql off_all_kp Try.f30 [a0] H K = off_all a0 H K := by kernel_rfl
theorem off_all_ok {a0 : AV} {H : AH} {K : AV → AH → Prop} (h : off_all a0 H K) : ∃ r H', K r H' ∧ BCall Try.prog 30 [a0] H r H' :=
  sFun_ok mixP Try.func30 (by kernel_rfl) (Eq.mpr (off_all_eq a0 H K) h)
end Go.Proofs.Ytobdiaalmhcimaa.Av
