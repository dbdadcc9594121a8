/- Formulas of functions of the program: printed by a program of this session (wip/tools/Pr.lean.txt), each checked by the kernel. -/
import Derived.Test.YtflodknflaallaaAvG
import Derived.Test.YtflodknflaallaaAvZ
set_option linter.unusedVariables false
set_option maxRecDepth 100000
namespace Go.Proofs.Ytflodknflaallaa.Av
open Go
def pql : FuncId → Bool := inL [3,12,13,14,15,16,17,18,19,20,21,22,23,24,25,26,27,28,29,30,31,32,34,36,37,38,39,42,43,44,45,50,52,54,56,57,58,61]
def pal : FuncId → Bool := inL [59]
theorem mixP : Try.prog.follows .mixedOrders = true := by kernel_rfl
/-! salvor/salvorlaw11.ExtentRuns -/
def salvorlaw11_ExtentRuns_fl : Floats := flOf []
def salvorlaw11_ExtentRuns_kp : Nat → Option (List Bool) := kpOf []
def salvorlaw11_ExtentRuns_c (p : List Bool) (n : Nat) : List AV → AH → Kf → Prop := sCode Try.prog salvorlaw11_ExtentRuns_fl pql none0 none0 salvorlaw11_ExtentRuns_kp (sub p (bodyOf Try.f3)) n
def salvorlaw11_ExtentRuns (H : AH) (K : AV → AH → Prop) : Prop :=
bO (abl [(.lit (.int .i64 0)), (.lit (.slice none 0 0))] []) fun v0 =>
bH (absl H 1 1 (zrow [(.lit (.int .u8 0))] 1) [(0, 1, (.lit (.int .u8 1)))]) fun v1 H2 =>
bP (PCall Try.prog 12 [v0, (.lit (.int .i64 20)), v1] H2) fun v3 =>
bO (aextract v3 0) fun v4 =>
bO (aextract v3 1) fun v5 =>
bH (anew H2 (.agg [(.lit (.int .i64 0)), (.lit (.slice none 0 0))])) fun v6 H7 =>
bS (ast 2 H7 v6 v4) fun H8 =>
bO (ald true 2 H8 v6) fun v9 =>
bP (PCall Try.prog 13 [v9, (.lit (.int .i64 0))] H8) fun v10 =>
bO (aextract v10 0) fun v11 =>
bO (aextract v10 1) fun v12 =>
bO (ald true 2 H8 v6) fun v13 =>
bP (PCall Try.prog 14 [v13, (.lit (.int .i64 20))] H8) fun v14 =>
bO (aextract v14 0) fun v15 =>
bO (aextract v14 1) fun v16 =>
bG v5 true fun w17 =>
gO w17 (ashift 0 v6) fun v18 =>
bG v5 true fun w19 =>
gO w19 (ald false 1 H8 v18) fun v20 =>
bG v5 true fun w21 =>
gO w21 (abI .eql v20 (.lit (.int .i64 21))) fun v22 =>
bO (apick v5 v22 (.lit (.bool false))) fun v23 =>
bG v23 true fun w24 =>
gO w24 (ashift 1 v6) fun v25 =>
bG v23 true fun w26 =>
gO w26 (ald false 1 H8 v25) fun v27 =>
bG v23 true fun w28 =>
gO w28 (alnS v27) fun v29 =>
bG v23 true fun w30 =>
gO w30 (abI .eql v29 (.lit (.int .i64 1))) fun v31 =>
bO (apick v23 v31 (.lit (.bool false))) fun v32 =>
bG v32 true fun w33 =>
gO w33 (ashift 1 v6) fun v34 =>
bG v32 true fun w35 =>
gO w35 (ald false 1 H8 v34) fun v36 =>
bG v32 true fun w37 =>
gO w37 (aixS 9 v36 (.lit (.int .i64 0))) fun v38 =>
bG v32 true fun w39 =>
gO w39 (ashift 0 v38) fun v40 =>
bG v32 true fun w41 =>
gO w41 (ald false 1 H8 v40) fun v42 =>
bG v32 true fun w43 =>
gO w43 (abI .eql v42 (.lit (.int .i64 2))) fun v44 =>
bO (apick v32 v44 (.lit (.bool false))) fun v45 =>
bG v45 true fun w46 =>
gO w46 (some v11) fun v47 =>
bG v45 true fun w48 =>
gO w48 (abI .eql v47 (.lit (.int .i64 16))) fun v49 =>
bO (apick v45 v49 (.lit (.bool false))) fun v50 =>
bG v50 true fun w51 =>
gO w51 (some v12) fun v52 =>
bO (apick v50 v52 (.lit (.bool false))) fun v53 =>
bG v53 true fun w54 =>
gO w54 (some v15) fun v55 =>
bG v53 true fun w56 =>
gO w56 (abI .eql v55 (.lit (.int .i64 21))) fun v57 =>
bO (apick v53 v57 (.lit (.bool false))) fun v58 =>
bG v58 true fun w59 =>
gO w59 (some v16) fun v60 =>
bO (apick v58 v60 (.lit (.bool false))) fun v61 =>
bG v61 true fun w62 =>
gO w62 (ald true 2 H8 v6) fun v63 =>
bG v61 true fun w64 =>
gP w64 (PCall Try.prog 15 [v63, (.lit (.int .i64 19)), (.lit (.int .i64 9))] H8) fun v65 =>
bG v61 true fun w66 =>
gO w66 (acB H8 v65) fun v67 =>
bG v61 true fun w68 =>
gO w68 (abT .eql v67 (.lit (.string ⟨#[0, 1]⟩))) fun v69 =>
bO (apick v61 v69 (.lit (.bool false))) fun v70 =>
bG v70 true fun w71 =>
gO w71 (ald true 2 H8 v6) fun v72 =>
bG v70 true fun w73 =>
gP w73 (PCall Try.prog 16 [v72] H8) fun v74 =>
bO (apick v70 v74 (.lit (.bool false))) fun v75 =>
bG v75 true fun w76 =>
gO w76 (abl [(.lit (.int .i64 0)), (.lit (.slice none 0 0))] [(0, 1, (.lit (.int .i64 (-1))))]) fun v77 =>
bG v75 true fun w78 =>
gP w78 (PCall Try.prog 16 [v77] H8) fun v79 =>
bG v75 true fun w80 =>
gO w80 (aun .not v79) fun v81 =>
bO (apick v75 v81 (.lit (.bool false))) fun v82 =>
K v82 H8
theorem salvorlaw11_ExtentRuns_eq (H : AH) (K : AV → AH → Prop) : sFun Try.prog salvorlaw11_ExtentRuns_fl pql none0 none0 salvorlaw11_ExtentRuns_kp Try.f3 [] H K = salvorlaw11_ExtentRuns H K := by kernel_rfl
theorem salvorlaw11_ExtentRuns_ok {H : AH} {K : AV → AH → Prop} (h : salvorlaw11_ExtentRuns H K) : ∃ r H', K r H' ∧ BCall Try.prog 3 [] H r H' :=
  sFun_ok mixP Try.func3 (by kernel_rfl) (Eq.mpr (salvorlaw11_ExtentRuns_eq H K) h)
/-! salvor/salvorlaw11.ExtentWrites -/
def salvorlaw11_ExtentWrites_fl : Floats := flOf []
def salvorlaw11_ExtentWrites_kp : Nat → Option (List Bool) := kpOf []
def salvorlaw11_ExtentWrites_c (p : List Bool) (n : Nat) : List AV → AH → Kf → Prop := sCode Try.prog salvorlaw11_ExtentWrites_fl pql none0 none0 salvorlaw11_ExtentWrites_kp (sub p (bodyOf Try.f4)) n
def salvorlaw11_ExtentWrites (a0 a1 a2 : AV) (H : AH) (K : AV → AH → Prop) : Prop :=
bH (anew H a0) fun v0 H1 =>
bO (ald true 2 H1 v0) fun v2 =>
bP (PCall Try.prog 17 [v2] H1) fun v3 =>
bO (aun .not v3) fun v4 =>
bG v4 false fun w5 =>
gO w5 (some a2) fun v6 =>
bG v4 false fun w7 =>
gO w7 (alnS v6) fun v8 =>
bG v4 false fun w9 =>
gO w9 (abI .gtr v8 (.lit (.int .i64 300))) fun v10 =>
bG v4 false fun w11 =>
gO w11 (some v10) fun v12 =>
bG v12 true fun w13 =>
gO w13 (some a2) fun v14 =>
bG v12 true fun w15 =>
gO w15 (alnS v14) fun v16 =>
bG v12 true fun w17 =>
gO w17 (abI .neq v16 (.lit (.int .i64 4097))) fun v18 =>
bG v4 false fun w19 =>
gO w19 (apick v12 v18 (.lit (.bool false))) fun v20 =>
bO (apick v4 (.lit (.bool true)) v20) fun v21 =>
bB v21 fun t22 => bI t22 (
bP (PCall Try.prog 3 [] H1) fun v23 =>
K v23 H1)
 (bO (ald true 2 H1 v0) fun v24 =>
bP (PCall Try.prog 12 [v24, a1, a2] H1) fun v25 =>
bO (aextract v25 0) fun v26 =>
bO (aextract v25 1) fun v27 =>
bH (anew H1 (.agg [(.lit (.int .i64 0)), (.lit (.slice none 0 0))])) fun v28 H29 =>
bS (ast 2 H29 v28 v26) fun H30 =>
bO (ald true 2 H30 v0) fun v31 =>
bP (PCall Try.prog 18 [v31, a1, a2] H30) fun v32 =>
bO (aextract v32 0) fun v33 =>
bO (aextract v32 1) fun v34 =>
bH (anew H30 (.agg [(.lit (.int .i64 0)), (.lit (.slice none 0 0))])) fun v35 H36 =>
bS (ast 2 H36 v35 v33) fun H37 =>
bO (ald true 2 H37 v28) fun v38 =>
bO (ald true 2 H37 v35) fun v39 =>
bP (PCall Try.prog 19 [v38, v39] H37) fun v40 =>
bG v40 true fun w41 =>
gO w41 (some v27) fun v42 =>
bG v40 true fun w43 =>
gO w43 (some v34) fun v44 =>
bG v40 true fun w45 =>
gO w45 (abB .eql v42 v44) fun v46 =>
bO (apick v40 v46 (.lit (.bool false))) fun v47 =>
bG v47 true fun w48 =>
gP w48 (PCall Try.prog 3 [] H37) fun v49 =>
bO (apick v47 v49 (.lit (.bool false))) fun v50 =>
K v50 H37)
theorem salvorlaw11_ExtentWrites_eq (a0 a1 a2 : AV) (H : AH) (K : AV → AH → Prop) : sFun Try.prog salvorlaw11_ExtentWrites_fl pql none0 none0 salvorlaw11_ExtentWrites_kp Try.f4 [a0, a1, a2] H K = salvorlaw11_ExtentWrites a0 a1 a2 H K := by kernel_rfl
theorem salvorlaw11_ExtentWrites_ok {a0 a1 a2 : AV} {H : AH} {K : AV → AH → Prop} (h : salvorlaw11_ExtentWrites a0 a1 a2 H K) : ∃ r H', K r H' ∧ BCall Try.prog 4 [a0, a1, a2] H r H' :=
  sFun_ok mixP Try.func4 (by kernel_rfl) (Eq.mpr (salvorlaw11_ExtentWrites_eq a0 a1 a2 H K) h)
/-! salvor/salvorlaw11.ExtentSeeks -/
def salvorlaw11_ExtentSeeks_fl : Floats := flOf []
def salvorlaw11_ExtentSeeks_kp : Nat → Option (List Bool) := kpOf [(15, mk 121 0 [2, 5, 6, 7, 8, 9, 10, 11]), (14, mk 121 0 [2, 5, 6, 7, 8, 9, 10, 11]), (11, mk 121 0 [2, 5, 6, 7, 8, 9, 10])]
def salvorlaw11_ExtentSeeks_c (p : List Bool) (n : Nat) : List AV → AH → Kf → Prop := sCode Try.prog salvorlaw11_ExtentSeeks_fl pql none0 none0 salvorlaw11_ExtentSeeks_kp (sub p (bodyOf Try.f5)) n
def salvorlaw11_ExtentSeeks_L15 (x2 x5 x6 x7 x8 x9 x10 x11 : AV) (H : AH) (K : AV → AH → Prop) : Prop := lp (mk 121 0 [2, 5, 6, 7, 8, 9, 10, 11]) (salvorlaw11_ExtentSeeks_c [true, true, true, true, true, true, true, true, false, true, false, false] 16) [x2, x5, x6, x7, x8, x9, x10, x11] H (kBlk 0 (kSeq (salvorlaw11_ExtentSeeks_c [true, true, true, true, true, true, true, true, true] 21) (kRet Try.prog Try.f5.results.toList K)))
def salvorlaw11_ExtentSeeks_J14 (x2 x5 x6 x7 x8 x9 x10 x11 : AV) (H : AH) (K : AV → AH → Prop) : Prop := jn (mk 121 0 [2, 5, 6, 7, 8, 9, 10, 11]) (salvorlaw11_ExtentSeeks_c [true, true, true, true, true, true, true, true, false, true] 15) [x2, x5, x6, x7, x8, x9, x10, x11] H (kSeq (salvorlaw11_ExtentSeeks_c [true, true, true, true, true, true, true, true, true] 21) (kRet Try.prog Try.f5.results.toList K))
def salvorlaw11_ExtentSeeks_J11 (x2 x5 x6 x7 x8 x9 x10 : AV) (H : AH) (K : AV → AH → Prop) : Prop := jn (mk 121 0 [2, 5, 6, 7, 8, 9, 10]) (salvorlaw11_ExtentSeeks_c [true, true, true, true, true, true, true, true] 13) [x2, x5, x6, x7, x8, x9, x10] H (kRet Try.prog Try.f5.results.toList K)
def salvorlaw11_ExtentSeeks_L15_b (R15 : List AV → AH → Prop) (x2 x5 x6 x7 x8 x9 x10 x11 : AV) (H : AH) (K : AV → AH → Prop) : Prop :=
bO (abI .lss x11 x10) fun v0 =>
bB v0 fun t1 => bI t1 (
bO (ald true 2 H x2) fun v2 =>
bP (PCall Try.prog 20 [v2, x11] H) fun v3 =>
bO (abI .neq v3 (.lit (.int .i64 0))) fun v4 =>
bB v4 fun t5 => bI t5 (
K (.lit (.bool false)) H)
 (bO (abI .add x11 (.lit (.int .i64 1))) fun v6 =>
R15 [x2, x5, x6, x7, x8, x9, x10, v6] H))
 (bG x9 true fun w7 =>
gO w7 (some x8) fun v8 =>
bG x9 true fun w9 =>
gO w9 (some x5) fun v10 =>
bG x9 true fun w11 =>
gO w11 (abI .geq v8 v10) fun v12 =>
bO (apick x9 v12 (.lit (.bool false))) fun v13 =>
bG v13 true fun w14 =>
gO w14 (some x8) fun v15 =>
bG v13 true fun w16 =>
gO w16 (ashift 0 x2) fun v17 =>
bG v13 true fun w18 =>
gO w18 (ald false 1 H v17) fun v19 =>
bG v13 true fun w20 =>
gO w20 (abI .leq v15 v19) fun v21 =>
bO (apick v13 v21 (.lit (.bool false))) fun v22 =>
bG v22 true fun w23 =>
gO w23 (some x7) fun v24 =>
bG v22 true fun w25 =>
gO w25 (some v24) fun v26 =>
bG v26 true fun w27 =>
gO w27 (some x6) fun v28 =>
bG v26 true fun w29 =>
gO w29 (some x5) fun v30 =>
bG v26 true fun w31 =>
gO w31 (abI .eql v28 v30) fun v32 =>
bG v22 true fun w33 =>
gO w33 (apick v26 v32 (.lit (.bool false))) fun v34 =>
bG v22 true fun w35 =>
gO w35 (some x8) fun v36 =>
bG v22 true fun w37 =>
gO w37 (some x5) fun v38 =>
bG v22 true fun w39 =>
gO w39 (abI .eql v36 v38) fun v40 =>
bG v22 true fun w41 =>
gO w41 (abB .neq v34 v40) fun v42 =>
bO (apick v22 v42 (.lit (.bool false))) fun v43 =>
bG v43 true fun w44 =>
gO w44 (some x7) fun v45 =>
bG v43 true fun w46 =>
gO w46 (aun .not v45) fun v47 =>
bG v43 true fun w48 =>
gO w48 (some v47) fun v49 =>
bG v49 false fun w50 =>
gO w50 (some x6) fun v51 =>
bG v49 false fun w52 =>
gO w52 (some x5) fun v53 =>
bG v49 false fun w54 =>
gO w54 (abI .geq v51 v53) fun v55 =>
bG v49 false fun w56 =>
gO w56 (some v55) fun v57 =>
bG v57 true fun w58 =>
gO w58 (some x6) fun v59 =>
bG v57 true fun w60 =>
gO w60 (ashift 0 x2) fun v61 =>
bG v57 true fun w62 =>
gO w62 (ald false 1 H v61) fun v63 =>
bG v57 true fun w64 =>
gO w64 (abI .lss v59 v63) fun v65 =>
bG v49 false fun w66 =>
gO w66 (apick v57 v65 (.lit (.bool false))) fun v67 =>
bG v43 true fun w68 =>
gO w68 (apick v49 (.lit (.bool true)) v67) fun v69 =>
bO (apick v43 v69 (.lit (.bool false))) fun v70 =>
bG v70 true fun w71 =>
gP w71 (PCall Try.prog 3 [] H) fun v72 =>
bO (apick v70 v72 (.lit (.bool false))) fun v73 =>
K v73 H)
theorem salvorlaw11_ExtentSeeks_L15_eq (R15 : List AV → AH → Prop) (x2 x5 x6 x7 x8 x9 x10 x11 : AV) (H : AH) (K : AV → AH → Prop) : salvorlaw11_ExtentSeeks_c [true, true, true, true, true, true, true, true, false, true, false, false] 16 (expand (mk 121 0 [2, 5, 6, 7, 8, 9, 10, 11]) [x2, x5, x6, x7, x8, x9, x10, x11]) H (kLp (mk 121 0 [2, 5, 6, 7, 8, 9, 10, 11]) R15 (kBlk 0 (kSeq (salvorlaw11_ExtentSeeks_c [true, true, true, true, true, true, true, true, true] 21) (kRet Try.prog Try.f5.results.toList K)))) = salvorlaw11_ExtentSeeks_L15_b R15 x2 x5 x6 x7 x8 x9 x10 x11 H K := by kernel_rfl
theorem salvorlaw11_ExtentSeeks_L15_rule {K : AV → AH → Prop} (I : Nat → AV → AV → AV → AV → AV → AV → AV → AV → AH → Prop) (round : ∀ (n : Nat) (x2 x5 x6 x7 x8 x9 x10 x11 : AV) (H : AH) (R : List AV → AH → Prop), (∀ (m : Nat) (y2 y5 y6 y7 y8 y9 y10 y11 : AV) (H' : AH), m < n → I m y2 y5 y6 y7 y8 y9 y10 y11 H' → R [y2, y5, y6, y7, y8, y9, y10, y11] H') → I n x2 x5 x6 x7 x8 x9 x10 x11 H → salvorlaw11_ExtentSeeks_L15_b R x2 x5 x6 x7 x8 x9 x10 x11 H K) (n : Nat) {x2 x5 x6 x7 x8 x9 x10 x11 : AV} {H : AH} (h : I n x2 x5 x6 x7 x8 x9 x10 x11 H) : salvorlaw11_ExtentSeeks_L15 x2 x5 x6 x7 x8 x9 x10 x11 H K := by
  refine lp_upto (sCode_one _ _) (LI8 I) ?_ n h
  intro n X H h
  obtain ⟨x2, x5, x6, x7, x8, x9, x10, x11, rfl, h⟩ := h.elim
  exact Eq.mpr (salvorlaw11_ExtentSeeks_L15_eq _ x2 x5 x6 x7 x8 x9 x10 x11 H K) (round n x2 x5 x6 x7 x8 x9 x10 x11 H (fun X H' => ∃ m, m < n ∧ LI8 I m X H') (fun m y2 y5 y6 y7 y8 y9 y10 y11 H' hm hi => ⟨m, hm, hi⟩) h)
def salvorlaw11_ExtentSeeks_J14_b (x2 x5 x6 x7 x8 x9 x10 x11 : AV) (H : AH) (K : AV → AH → Prop) : Prop :=
salvorlaw11_ExtentSeeks_L15 x2 x5 x6 x7 x8 x9 x10 x11 H K
theorem salvorlaw11_ExtentSeeks_J14_eq0 (x2 x5 x6 x7 x8 x9 x10 x11 : AV) (H : AH) (K : AV → AH → Prop) : salvorlaw11_ExtentSeeks_c [true, true, true, true, true, true, true, true, false, true] 15 (expand (mk 121 0 [2, 5, 6, 7, 8, 9, 10, 11]) [x2, x5, x6, x7, x8, x9, x10, x11]) H (kSeq (salvorlaw11_ExtentSeeks_c [true, true, true, true, true, true, true, true, true] 21) (kRet Try.prog Try.f5.results.toList K)) = salvorlaw11_ExtentSeeks_J14_b x2 x5 x6 x7 x8 x9 x10 x11 H K := by kernel_rfl
theorem salvorlaw11_ExtentSeeks_J14_eq (x2 x5 x6 x7 x8 x9 x10 x11 : AV) (H : AH) (K : AV → AH → Prop) : salvorlaw11_ExtentSeeks_J14 x2 x5 x6 x7 x8 x9 x10 x11 H K = salvorlaw11_ExtentSeeks_J14_b x2 x5 x6 x7 x8 x9 x10 x11 H K := (jn_eq _ _ _ _ _).trans (salvorlaw11_ExtentSeeks_J14_eq0 x2 x5 x6 x7 x8 x9 x10 x11 H K)
def salvorlaw11_ExtentSeeks_J11_b (x2 x5 x6 x7 x8 x9 x10 : AV) (H : AH) (K : AV → AH → Prop) : Prop :=
salvorlaw11_ExtentSeeks_J14 x2 x5 x6 x7 x8 x9 x10 x5 H K
theorem salvorlaw11_ExtentSeeks_J11_eq0 (x2 x5 x6 x7 x8 x9 x10 : AV) (H : AH) (K : AV → AH → Prop) : salvorlaw11_ExtentSeeks_c [true, true, true, true, true, true, true, true] 13 (expand (mk 121 0 [2, 5, 6, 7, 8, 9, 10]) [x2, x5, x6, x7, x8, x9, x10]) H (kRet Try.prog Try.f5.results.toList K) = salvorlaw11_ExtentSeeks_J11_b x2 x5 x6 x7 x8 x9 x10 H K := by kernel_rfl
theorem salvorlaw11_ExtentSeeks_J11_eq (x2 x5 x6 x7 x8 x9 x10 : AV) (H : AH) (K : AV → AH → Prop) : salvorlaw11_ExtentSeeks_J11 x2 x5 x6 x7 x8 x9 x10 H K = salvorlaw11_ExtentSeeks_J11_b x2 x5 x6 x7 x8 x9 x10 H K := (jn_eq _ _ _ _ _).trans (salvorlaw11_ExtentSeeks_J11_eq0 x2 x5 x6 x7 x8 x9 x10 H K)
def salvorlaw11_ExtentSeeks (a0 a1 : AV) (H : AH) (K : AV → AH → Prop) : Prop :=
bH (anew H a0) fun v0 H1 =>
bO (ald true 2 H1 v0) fun v2 =>
bP (PCall Try.prog 17 [v2] H1) fun v3 =>
bO (aun .not v3) fun v4 =>
bG v4 false fun w5 =>
gO w5 (ald true 2 H1 v0) fun v6 =>
bG v4 false fun w7 =>
gP w7 (PCall Try.prog 16 [v6] H1) fun v8 =>
bG v4 false fun w9 =>
gO w9 (aun .not v8) fun v10 =>
bO (apick v4 (.lit (.bool true)) v10) fun v11 =>
bG v11 false fun w12 =>
gO w12 (ashift 0 v0) fun v13 =>
bG v11 false fun w14 =>
gO w14 (ald false 1 H1 v13) fun v15 =>
bG v11 false fun w16 =>
gO w16 (abI .gtr v15 (.lit (.int .i64 2000))) fun v17 =>
bO (apick v11 (.lit (.bool true)) v17) fun v18 =>
bB v18 fun t19 => bI t19 (
bP (PCall Try.prog 3 [] H1) fun v20 =>
K v20 H1)
 (bO (acI .i64 a1) fun v21 =>
bO (ashift 0 v0) fun v22 =>
bO (ald false 1 H1 v22) fun v23 =>
bO (abI .add v23 (.lit (.int .i64 1))) fun v24 =>
bO (abI .rem v21 v24) fun v25 =>
bO (ald true 2 H1 v0) fun v26 =>
bP (PCall Try.prog 13 [v26, v25] H1) fun v27 =>
bO (aextract v27 0) fun v28 =>
bO (aextract v27 1) fun v29 =>
bO (ald true 2 H1 v0) fun v30 =>
bP (PCall Try.prog 14 [v30, v25] H1) fun v31 =>
bO (aextract v31 0) fun v32 =>
bO (aextract v31 1) fun v33 =>
bO (ashift 0 v0) fun v34 =>
bO (ald false 1 H1 v34) fun v35 =>
bO (abI .geq v25 v35) fun v36 =>
bB v36 fun t37 => bI t37 (
bO (aun .not v29) fun v38 =>
bG v38 true fun w39 =>
gO w39 (some v33) fun v40 =>
bG v38 true fun w41 =>
gO w41 (aun .not v40) fun v42 =>
bO (apick v38 v42 (.lit (.bool false))) fun v43 =>
bG v43 true fun w44 =>
gO w44 (some v28) fun v45 =>
bG v43 true fun w46 =>
gO w46 (abI .eql v45 (.lit (.int .i64 0))) fun v47 =>
bO (apick v43 v47 (.lit (.bool false))) fun v48 =>
bG v48 true fun w49 =>
gO w49 (some v32) fun v50 =>
bG v48 true fun w51 =>
gO w51 (abI .eql v50 (.lit (.int .i64 0))) fun v52 =>
bO (apick v48 v52 (.lit (.bool false))) fun v53 =>
bG v53 true fun w54 =>
gP w54 (PCall Try.prog 3 [] H1) fun v55 =>
bO (apick v53 v55 (.lit (.bool false))) fun v56 =>
K v56 H1)
 (bO (ashift 0 v0) fun v57 =>
bO (ald false 1 H1 v57) fun v58 =>
bB v29 fun t59 => bI t59 (
salvorlaw11_ExtentSeeks_J11 v0 v25 v28 v29 v32 v33 v28 H1 K)
 (salvorlaw11_ExtentSeeks_J11 v0 v25 v28 v29 v32 v33 v58 H1 K)))
theorem salvorlaw11_ExtentSeeks_eq (a0 a1 : AV) (H : AH) (K : AV → AH → Prop) : sFun Try.prog salvorlaw11_ExtentSeeks_fl pql none0 none0 salvorlaw11_ExtentSeeks_kp Try.f5 [a0, a1] H K = salvorlaw11_ExtentSeeks a0 a1 H K := by kernel_rfl
theorem salvorlaw11_ExtentSeeks_ok {a0 a1 : AV} {H : AH} {K : AV → AH → Prop} (h : salvorlaw11_ExtentSeeks a0 a1 H K) : ∃ r H', K r H' ∧ BCall Try.prog 5 [a0, a1] H r H' :=
  sFun_ok mixP Try.func5 (by kernel_rfl) (Eq.mpr (salvorlaw11_ExtentSeeks_eq a0 a1 H K) h)
/-! salvor/salvorlaw11.ExtentReads -/
def salvorlaw11_ExtentReads_fl : Floats := flOf []
def salvorlaw11_ExtentReads_kp : Nat → Option (List Bool) := kpOf []
def salvorlaw11_ExtentReads_c (p : List Bool) (n : Nat) : List AV → AH → Kf → Prop := sCode Try.prog salvorlaw11_ExtentReads_fl pql none0 none0 salvorlaw11_ExtentReads_kp (sub p (bodyOf Try.f6)) n
def salvorlaw11_ExtentReads (a0 a1 a2 a3 : AV) (H : AH) (K : AV → AH → Prop) : Prop :=
bH (anew H a0) fun v0 H1 =>
bH (anew H1 a1) fun v2 H3 =>
bO (ald true 2 H3 v0) fun v4 =>
bP (PCall Try.prog 17 [v4] H3) fun v5 =>
bO (aun .not v5) fun v6 =>
bG v6 false fun w7 =>
gO w7 (ald true 2 H3 v2) fun v8 =>
bG v6 false fun w9 =>
gP w9 (PCall Try.prog 17 [v8] H3) fun v10 =>
bG v6 false fun w11 =>
gO w11 (aun .not v10) fun v12 =>
bO (apick v6 (.lit (.bool true)) v12) fun v13 =>
bG v13 false fun w14 =>
gO w14 (some a3) fun v15 =>
bG v13 false fun w16 =>
gO w16 (abI .gtr v15 (.lit (.int .i64 600))) fun v17 =>
bG v13 false fun w18 =>
gO w18 (some v17) fun v19 =>
bG v19 true fun w20 =>
gO w20 (some a3) fun v21 =>
bG v19 true fun w22 =>
gO w22 (abI .leq v21 (.lit (.int .i64 4096))) fun v23 =>
bG v13 false fun w24 =>
gO w24 (apick v19 v23 (.lit (.bool false))) fun v25 =>
bO (apick v13 (.lit (.bool true)) v25) fun v26 =>
bB v26 fun t27 => bI t27 (
bP (PCall Try.prog 3 [] H3) fun v28 =>
K v28 H3)
 (bO (ald true 2 H3 v0) fun v29 =>
bP (PCall Try.prog 13 [v29, a2] H3) fun v30 =>
bO (aextract v30 0) fun v31 =>
bO (aextract v30 1) fun v32 =>
bO (ald true 2 H3 v0) fun v33 =>
bP (PCall Try.prog 21 [v33, a2] H3) fun v34 =>
bO (aextract v34 0) fun v35 =>
bO (aextract v34 1) fun v36 =>
bO (ald true 2 H3 v0) fun v37 =>
bP (PCall Try.prog 14 [v37, a2] H3) fun v38 =>
bO (aextract v38 0) fun v39 =>
bO (aextract v38 1) fun v40 =>
bO (ald true 2 H3 v0) fun v41 =>
bP (PCall Try.prog 22 [v41, a2] H3) fun v42 =>
bO (aextract v42 0) fun v43 =>
bO (aextract v42 1) fun v44 =>
bO (ald true 2 H3 v0) fun v45 =>
bP (BPure Try.prog 16 [v45]) fun v46 =>
bO (ald true 2 H3 v0) fun v47 =>
bP (BPure Try.prog 23 [v47]) fun v48 =>
bO (abB .eql v46 v48) fun v49 =>
bG v49 true fun w50 =>
gO w50 (ald true 2 H3 v0) fun v51 =>
bG v49 true fun w52 =>
gO w52 (ald true 2 H3 v2) fun v53 =>
bG v49 true fun w54 =>
gP w54 (BPure Try.prog 24 [v51, v53]) fun v55 =>
bG v49 true fun w56 =>
gO w56 (ald true 2 H3 v0) fun v57 =>
bG v49 true fun w58 =>
gO w58 (ald true 2 H3 v2) fun v59 =>
bG v49 true fun w60 =>
gP w60 (BPure Try.prog 19 [v57, v59]) fun v61 =>
bG v49 true fun w62 =>
gO w62 (abB .eql v55 v61) fun v63 =>
bO (apick v49 v63 (.lit (.bool false))) fun v64 =>
bG v64 true fun w65 =>
gO w65 (ald true 2 H3 v0) fun v66 =>
bG v64 true fun w67 =>
gO w67 (some a2) fun v68 =>
bG v64 true fun w69 =>
gO w69 (some a3) fun v70 =>
bG v64 true fun w71 =>
gP w71 (BPure Try.prog 15 [v66, v68, v70]) fun v72 =>
bG v64 true fun w73 =>
gO w73 (acB H3 v72) fun v74 =>
bG v64 true fun w75 =>
gO w75 (ald true 2 H3 v0) fun v76 =>
bG v64 true fun w77 =>
gO w77 (some a2) fun v78 =>
bG v64 true fun w79 =>
gO w79 (some a3) fun v80 =>
bG v64 true fun w81 =>
gP w81 (BPure Try.prog 25 [v76, v78, v80]) fun v82 =>
bG v64 true fun w83 =>
gO w83 (acB H3 v82) fun v84 =>
bG v64 true fun w85 =>
gO w85 (abT .eql v74 v84) fun v86 =>
bO (apick v64 v86 (.lit (.bool false))) fun v87 =>
bG v87 true fun w88 =>
gO w88 (some v31) fun v89 =>
bG v87 true fun w90 =>
gO w90 (some v35) fun v91 =>
bG v87 true fun w92 =>
gO w92 (abI .eql v89 v91) fun v93 =>
bO (apick v87 v93 (.lit (.bool false))) fun v94 =>
bG v94 true fun w95 =>
gO w95 (some v32) fun v96 =>
bG v94 true fun w97 =>
gO w97 (some v36) fun v98 =>
bG v94 true fun w99 =>
gO w99 (abB .eql v96 v98) fun v100 =>
bO (apick v94 v100 (.lit (.bool false))) fun v101 =>
bG v101 true fun w102 =>
gO w102 (some v39) fun v103 =>
bG v101 true fun w104 =>
gO w104 (some v43) fun v105 =>
bG v101 true fun w106 =>
gO w106 (abI .eql v103 v105) fun v107 =>
bO (apick v101 v107 (.lit (.bool false))) fun v108 =>
bG v108 true fun w109 =>
gO w109 (some v40) fun v110 =>
bG v108 true fun w111 =>
gO w111 (some v44) fun v112 =>
bG v108 true fun w113 =>
gO w113 (abB .eql v110 v112) fun v114 =>
bO (apick v108 v114 (.lit (.bool false))) fun v115 =>
bG v115 true fun w116 =>
gP w116 (BPure Try.prog 3 []) fun v117 =>
bO (apick v115 v117 (.lit (.bool false))) fun v118 =>
K v118 H3)
theorem salvorlaw11_ExtentReads_eq (a0 a1 a2 a3 : AV) (H : AH) (K : AV → AH → Prop) : sFun Try.prog salvorlaw11_ExtentReads_fl pql none0 none0 salvorlaw11_ExtentReads_kp Try.f6 [a0, a1, a2, a3] H K = salvorlaw11_ExtentReads a0 a1 a2 a3 H K := by kernel_rfl
theorem salvorlaw11_ExtentReads_ok {a0 a1 a2 a3 : AV} {H : AH} {K : AV → AH → Prop} (h : salvorlaw11_ExtentReads a0 a1 a2 a3 H K) : ∃ r H', K r H' ∧ BCall Try.prog 6 [a0, a1, a2, a3] H r H' :=
  sFun_ok mixP Try.func6 (by kernel_rfl) (Eq.mpr (salvorlaw11_ExtentReads_eq a0 a1 a2 a3 H K) h)
/-! salvor/salvorlaw11.ExtentBack -/
def salvorlaw11_ExtentBack_fl : Floats := flOf []
def salvorlaw11_ExtentBack_kp : Nat → Option (List Bool) := kpOf [(12, mk 125 0 [2, 3, 4, 9, 11])]
def salvorlaw11_ExtentBack_c (p : List Bool) (n : Nat) : List AV → AH → Kf → Prop := sCode Try.prog salvorlaw11_ExtentBack_fl pql none0 none0 salvorlaw11_ExtentBack_kp (sub p (bodyOf Try.f7)) n
def salvorlaw11_ExtentBack_J12 (x2 x3 x4 x9 x11 : AV) (H : AH) (K : AV → AH → Prop) : Prop := jn (mk 125 0 [2, 3, 4, 9, 11]) (salvorlaw11_ExtentBack_c [true, true, true, true, true, true, true] 15) [x2, x3, x4, x9, x11] H (kRet Try.prog Try.f7.results.toList K)
def salvorlaw11_ExtentBack_J12_b (x2 x3 x4 x9 x11 : AV) (H : AH) (K : AV → AH → Prop) : Prop :=
bO (ald true 2 H x9) fun v0 =>
bP (PCall Try.prog 20 [v0, x3] H) fun v1 =>
bO (abI .eql v1 x11) fun v2 =>
bG v2 true fun w3 =>
gO w3 (some x2) fun v4 =>
bG v2 true fun w5 =>
gO w5 (alnS v4) fun v6 =>
bG v2 true fun w7 =>
gO w7 (abI .gtr v6 (.lit (.int .i64 0))) fun v8 =>
bG v2 true fun w9 =>
gO w9 (some v8) fun v10 =>
bG v10 false fun w11 =>
gO w11 (ald true 2 H x9) fun v12 =>
bG v10 false fun w13 =>
gO w13 (ald true 2 H x4) fun v14 =>
bG v10 false fun w15 =>
gP w15 (PCall Try.prog 24 [v12, v14] H) fun v16 =>
bG v2 true fun w17 =>
gO w17 (apick v10 (.lit (.bool true)) v16) fun v18 =>
bO (apick v2 v18 (.lit (.bool false))) fun v19 =>
bG v19 true fun w20 =>
gP w20 (PCall Try.prog 3 [] H) fun v21 =>
bO (apick v19 v21 (.lit (.bool false))) fun v22 =>
K v22 H
theorem salvorlaw11_ExtentBack_J12_eq0 (x2 x3 x4 x9 x11 : AV) (H : AH) (K : AV → AH → Prop) : salvorlaw11_ExtentBack_c [true, true, true, true, true, true, true] 15 (expand (mk 125 0 [2, 3, 4, 9, 11]) [x2, x3, x4, x9, x11]) H (kRet Try.prog Try.f7.results.toList K) = salvorlaw11_ExtentBack_J12_b x2 x3 x4 x9 x11 H K := by kernel_rfl
theorem salvorlaw11_ExtentBack_J12_eq (x2 x3 x4 x9 x11 : AV) (H : AH) (K : AV → AH → Prop) : salvorlaw11_ExtentBack_J12 x2 x3 x4 x9 x11 H K = salvorlaw11_ExtentBack_J12_b x2 x3 x4 x9 x11 H K := (jn_eq _ _ _ _ _).trans (salvorlaw11_ExtentBack_J12_eq0 x2 x3 x4 x9 x11 H K)
def salvorlaw11_ExtentBack (a0 a1 a2 a3 : AV) (H : AH) (K : AV → AH → Prop) : Prop :=
bH (anew H a0) fun v0 H1 =>
bO (ald true 2 H1 v0) fun v2 =>
bP (PCall Try.prog 17 [v2] H1) fun v3 =>
bO (aun .not v3) fun v4 =>
bG v4 false fun w5 =>
gO w5 (ald true 2 H1 v0) fun v6 =>
bG v4 false fun w7 =>
gP w7 (PCall Try.prog 16 [v6] H1) fun v8 =>
bG v4 false fun w9 =>
gO w9 (aun .not v8) fun v10 =>
bO (apick v4 (.lit (.bool true)) v10) fun v11 =>
bG v11 false fun w12 =>
gO w12 (some a2) fun v13 =>
bG v11 false fun w14 =>
gO w14 (alnS v13) fun v15 =>
bG v11 false fun w16 =>
gO w16 (abI .gtr v15 (.lit (.int .i64 200))) fun v17 =>
bO (apick v11 (.lit (.bool true)) v17) fun v18 =>
bB v18 fun t19 => bI t19 (
bP (PCall Try.prog 3 [] H1) fun v20 =>
K v20 H1)
 (bO (ald true 2 H1 v0) fun v21 =>
bP (PCall Try.prog 12 [v21, a1, a2] H1) fun v22 =>
bO (aextract v22 0) fun v23 =>
bO (aextract v22 1) fun v24 =>
bH (anew H1 (.agg [(.lit (.int .i64 0)), (.lit (.slice none 0 0))])) fun v25 H26 =>
bS (ast 2 H26 v25 v23) fun H27 =>
bO (aun .not v24) fun v28 =>
bB v28 fun t29 => bI t29 (
bO (abI .lss a1 (.lit (.int .i64 0))) fun v30 =>
bG v30 false fun w31 =>
gO w31 (some a1) fun v32 =>
bG v30 false fun w33 =>
gO w33 (some a2) fun v34 =>
bG v30 false fun w35 =>
gO w35 (alnS v34) fun v36 =>
bG v30 false fun w37 =>
gO w37 (abI .sub (.lit (.int .i64 1099511627776)) v36) fun v38 =>
bG v30 false fun w39 =>
gO w39 (abI .gtr v32 v38) fun v40 =>
bO (apick v30 (.lit (.bool true)) v40) fun v41 =>
bG v41 true fun w42 =>
gO w42 (ashift 0 v25) fun v43 =>
bG v41 true fun w44 =>
gO w44 (ald false 1 H27 v43) fun v45 =>
bG v41 true fun w46 =>
gO w46 (abI .eql v45 (.lit (.int .i64 0))) fun v47 =>
bO (apick v41 v47 (.lit (.bool false))) fun v48 =>
bG v48 true fun w49 =>
gO w49 (ashift 1 v25) fun v50 =>
bG v48 true fun w51 =>
gO w51 (ald false 1 H27 v50) fun v52 =>
bG v48 true fun w53 =>
gO w53 (alnS v52) fun v54 =>
bG v48 true fun w55 =>
gO w55 (abI .eql v54 (.lit (.int .i64 0))) fun v56 =>
bO (apick v48 v56 (.lit (.bool false))) fun v57 =>
bG v57 true fun w58 =>
gP w58 (PCall Try.prog 3 [] H27) fun v59 =>
bO (apick v57 v59 (.lit (.bool false))) fun v60 =>
K v60 H27)
 (bO (ald true 2 H27 v25) fun v61 =>
bO (alnS a2) fun v62 =>
bP (BPure Try.prog 15 [v61, a1, v62]) fun v63 =>
bO (acB H27 v63) fun v64 =>
bO (acB H27 a2) fun v65 =>
bO (abT .neq v64 v65) fun v66 =>
bG v66 false fun w67 =>
gO w67 (ald true 2 H27 v25) fun v68 =>
bG v66 false fun w69 =>
gP w69 (BPure Try.prog 16 [v68]) fun v70 =>
bG v66 false fun w71 =>
gO w71 (aun .not v70) fun v72 =>
bO (apick v66 (.lit (.bool true)) v72) fun v73 =>
bB v73 fun t74 => bI t74 (
K (.lit (.bool false)) H27)
 (bO (ald true 2 H27 v0) fun v75 =>
bP (PCall Try.prog 20 [v75, a3] H27) fun v76 =>
bO (abI .geq a3 a1) fun v77 =>
bG v77 true fun w78 =>
gO w78 (some a3) fun v79 =>
bG v77 true fun w80 =>
gO w80 (some a1) fun v81 =>
bG v77 true fun w82 =>
gO w82 (abI .sub v79 v81) fun v83 =>
bG v77 true fun w84 =>
gO w84 (some a2) fun v85 =>
bG v77 true fun w86 =>
gO w86 (alnS v85) fun v87 =>
bG v77 true fun w88 =>
gO w88 (abI .lss v83 v87) fun v89 =>
bO (apick v77 v89 (.lit (.bool false))) fun v90 =>
bB v90 fun t91 => bI t91 (
bO (abI .sub a3 a1) fun v92 =>
bO (aixS 1 a2 v92) fun v93 =>
bO (ald false 1 H27 v93) fun v94 =>
bO (acI .i64 v94) fun v95 =>
salvorlaw11_ExtentBack_J12 a2 a3 v0 v25 v95 H27 K)
 (bO (alnS a2) fun v96 =>
bO (abI .gtr v96 (.lit (.int .i64 0))) fun v97 =>
bG v97 true fun w98 =>
gO w98 (some a3) fun v99 =>
bG v97 true fun w100 =>
gO w100 (ashift 0 v0) fun v101 =>
bG v97 true fun w102 =>
gO w102 (ald false 1 H27 v101) fun v103 =>
bG v97 true fun w104 =>
gO w104 (abI .geq v99 v103) fun v105 =>
bO (apick v97 v105 (.lit (.bool false))) fun v106 =>
bG v106 true fun w107 =>
gO w107 (some a3) fun v108 =>
bG v106 true fun w109 =>
gO w109 (some a1) fun v110 =>
bG v106 true fun w111 =>
gO w111 (abI .lss v108 v110) fun v112 =>
bO (apick v106 v112 (.lit (.bool false))) fun v113 =>
bB v113 fun t114 => bI t114 (
salvorlaw11_ExtentBack_J12 a2 a3 v0 v25 (.lit (.int .i64 0)) H27 K)
 (salvorlaw11_ExtentBack_J12 a2 a3 v0 v25 v76 H27 K)))))
theorem salvorlaw11_ExtentBack_eq (a0 a1 a2 a3 : AV) (H : AH) (K : AV → AH → Prop) : sFun Try.prog salvorlaw11_ExtentBack_fl pql none0 none0 salvorlaw11_ExtentBack_kp Try.f7 [a0, a1, a2, a3] H K = salvorlaw11_ExtentBack a0 a1 a2 a3 H K := by kernel_rfl
theorem salvorlaw11_ExtentBack_ok {a0 a1 a2 a3 : AV} {H : AH} {K : AV → AH → Prop} (h : salvorlaw11_ExtentBack a0 a1 a2 a3 H K) : ∃ r H', K r H' ∧ BCall Try.prog 7 [a0, a1, a2, a3] H r H' :=
  sFun_ok mixP Try.func7 (by kernel_rfl) (Eq.mpr (salvorlaw11_ExtentBack_eq a0 a1 a2 a3 H K) h)
/-! salvor/salvorlaw11.ExtentRoom -/
def salvorlaw11_ExtentRoom_fl : Floats := flOf []
def salvorlaw11_ExtentRoom_kp : Nat → Option (List Bool) := kpOf [(17, mk 112 0 [4, 11, 12, 13, 15, 16, 17]), (16, mk 112 0 [4, 11, 12, 13, 15, 16, 17]), (13, mk 112 0 [4, 11, 12, 13, 15, 16]), (14, mk 112 0 [4, 11, 12, 13, 15, 16, 77]), (12, mk 112 0 [4, 5, 11, 12, 13, 15, 16]), (9, mk 112 0 [4, 5, 11, 12, 13, 15]), (10, mk 112 0 [4, 5, 11, 12, 13, 15, 65]), (7, mk 112 0 [4, 5, 11, 12, 13, 14, 15])]
def salvorlaw11_ExtentRoom_c (p : List Bool) (n : Nat) : List AV → AH → Kf → Prop := sCode Try.prog salvorlaw11_ExtentRoom_fl pql none0 none0 salvorlaw11_ExtentRoom_kp (sub p (bodyOf Try.f8)) n
def salvorlaw11_ExtentRoom_L17 (x4 x11 x12 x13 x15 x16 x17 : AV) (H : AH) (K : AV → AH → Prop) : Prop := lp (mk 112 0 [4, 11, 12, 13, 15, 16, 17]) (salvorlaw11_ExtentRoom_c [true, true, true, true, true, true, true, true, true, false, true, false, false] 18) [x4, x11, x12, x13, x15, x16, x17] H (kBlk 0 (kSeq (salvorlaw11_ExtentRoom_c [true, true, true, true, true, true, true, true, true, true] 24) (kRet Try.prog Try.f8.results.toList K)))
def salvorlaw11_ExtentRoom_J16 (x4 x11 x12 x13 x15 x16 x17 : AV) (H : AH) (K : AV → AH → Prop) : Prop := jn (mk 112 0 [4, 11, 12, 13, 15, 16, 17]) (salvorlaw11_ExtentRoom_c [true, true, true, true, true, true, true, true, true, false, true] 17) [x4, x11, x12, x13, x15, x16, x17] H (kSeq (salvorlaw11_ExtentRoom_c [true, true, true, true, true, true, true, true, true, true] 24) (kRet Try.prog Try.f8.results.toList K))
def salvorlaw11_ExtentRoom_J13 (x4 x11 x12 x13 x15 x16 : AV) (H : AH) (K : AV → AH → Prop) : Prop := jn (mk 112 0 [4, 11, 12, 13, 15, 16]) (salvorlaw11_ExtentRoom_c [true, true, true, true, true, true, true, true, true] 15) [x4, x11, x12, x13, x15, x16] H (kRet Try.prog Try.f8.results.toList K)
def salvorlaw11_ExtentRoom_J14 (x4 x11 x12 x13 x15 x16 x77 : AV) (H : AH) (K : AV → AH → Prop) : Prop := jn (mk 112 0 [4, 11, 12, 13, 15, 16, 77]) (salvorlaw11_ExtentRoom_c [true, true, true, true, true, true, true, true, false, true] 15) [x4, x11, x12, x13, x15, x16, x77] H (kSeq (cutC (mk 112 0 [4, 11, 12, 13, 15, 16]) (salvorlaw11_ExtentRoom_c [true, true, true, true, true, true, true, true, true] 15)) (kRet Try.prog Try.f8.results.toList K))
def salvorlaw11_ExtentRoom_J12 (x4 x5 x11 x12 x13 x15 x16 : AV) (H : AH) (K : AV → AH → Prop) : Prop := jn (mk 112 0 [4, 5, 11, 12, 13, 15, 16]) (salvorlaw11_ExtentRoom_c [true, true, true, true, true, true, true, true] 13) [x4, x5, x11, x12, x13, x15, x16] H (kRet Try.prog Try.f8.results.toList K)
def salvorlaw11_ExtentRoom_J9 (x4 x5 x11 x12 x13 x15 : AV) (H : AH) (K : AV → AH → Prop) : Prop := jn (mk 112 0 [4, 5, 11, 12, 13, 15]) (salvorlaw11_ExtentRoom_c [true, true, true, true, true, true, true] 12) [x4, x5, x11, x12, x13, x15] H (kRet Try.prog Try.f8.results.toList K)
def salvorlaw11_ExtentRoom_J10 (x4 x5 x11 x12 x13 x15 x65 : AV) (H : AH) (K : AV → AH → Prop) : Prop := jn (mk 112 0 [4, 5, 11, 12, 13, 15, 65]) (salvorlaw11_ExtentRoom_c [true, true, true, true, true, true, false, true] 11) [x4, x5, x11, x12, x13, x15, x65] H (kSeq (cutC (mk 112 0 [4, 5, 11, 12, 13, 15]) (salvorlaw11_ExtentRoom_c [true, true, true, true, true, true, true] 12)) (kRet Try.prog Try.f8.results.toList K))
def salvorlaw11_ExtentRoom_J7 (x4 x5 x11 x12 x13 x14 x15 : AV) (H : AH) (K : AV → AH → Prop) : Prop := jn (mk 112 0 [4, 5, 11, 12, 13, 14, 15]) (salvorlaw11_ExtentRoom_c [true, true, true, true, true, true] 9) [x4, x5, x11, x12, x13, x14, x15] H (kRet Try.prog Try.f8.results.toList K)
def salvorlaw11_ExtentRoom_L17_b (R17 : List AV → AH → Prop) (x4 x11 x12 x13 x15 x16 x17 : AV) (H : AH) (K : AV → AH → Prop) : Prop :=
bO (abI .add x11 x12) fun v0 =>
bO (abI .lss x17 v0) fun v1 =>
bG v1 true fun w2 =>
gO w2 (some x17) fun v3 =>
bG v1 true fun w4 =>
gO w4 (some x15) fun v5 =>
bG v1 true fun w6 =>
gO w6 (abI .lss v3 v5) fun v7 =>
bO (apick v1 v7 (.lit (.bool false))) fun v8 =>
bB v8 fun t9 => bI t9 (
bO (ald true 2 H x13) fun v10 =>
bP (PCall Try.prog 13 [v10, x17] H) fun v11 =>
bO (aextract v11 0) fun v12 =>
bO (aextract v11 1) fun v13 =>
bO (aun .not v13) fun v14 =>
bG v14 false fun w15 =>
gO w15 (some v12) fun v16 =>
bG v14 false fun w17 =>
gO w17 (some x17) fun v18 =>
bG v14 false fun w19 =>
gO w19 (abI .neq v16 v18) fun v20 =>
bO (apick v14 (.lit (.bool true)) v20) fun v21 =>
bB v21 fun t22 => bI t22 (
K (.lit (.bool false)) H)
 (bO (abI .add x17 (.lit (.int .i64 1))) fun v23 =>
R17 [x4, x11, x12, x13, x15, x16, v23] H))
 (bO (ald true 2 H x13) fun v24 =>
bP (PCall Try.prog 20 [v24, x4] H) fun v25 =>
bO (abI .eql v25 x16) fun v26 =>
bG v26 true fun w27 =>
gP w27 (PCall Try.prog 3 [] H) fun v28 =>
bO (apick v26 v28 (.lit (.bool false))) fun v29 =>
K v29 H)
theorem salvorlaw11_ExtentRoom_L17_eq (R17 : List AV → AH → Prop) (x4 x11 x12 x13 x15 x16 x17 : AV) (H : AH) (K : AV → AH → Prop) : salvorlaw11_ExtentRoom_c [true, true, true, true, true, true, true, true, true, false, true, false, false] 18 (expand (mk 112 0 [4, 11, 12, 13, 15, 16, 17]) [x4, x11, x12, x13, x15, x16, x17]) H (kLp (mk 112 0 [4, 11, 12, 13, 15, 16, 17]) R17 (kBlk 0 (kSeq (salvorlaw11_ExtentRoom_c [true, true, true, true, true, true, true, true, true, true] 24) (kRet Try.prog Try.f8.results.toList K)))) = salvorlaw11_ExtentRoom_L17_b R17 x4 x11 x12 x13 x15 x16 x17 H K := by kernel_rfl
theorem salvorlaw11_ExtentRoom_L17_rule {K : AV → AH → Prop} (I : Nat → AV → AV → AV → AV → AV → AV → AV → AH → Prop) (round : ∀ (n : Nat) (x4 x11 x12 x13 x15 x16 x17 : AV) (H : AH) (R : List AV → AH → Prop), (∀ (m : Nat) (y4 y11 y12 y13 y15 y16 y17 : AV) (H' : AH), m < n → I m y4 y11 y12 y13 y15 y16 y17 H' → R [y4, y11, y12, y13, y15, y16, y17] H') → I n x4 x11 x12 x13 x15 x16 x17 H → salvorlaw11_ExtentRoom_L17_b R x4 x11 x12 x13 x15 x16 x17 H K) (n : Nat) {x4 x11 x12 x13 x15 x16 x17 : AV} {H : AH} (h : I n x4 x11 x12 x13 x15 x16 x17 H) : salvorlaw11_ExtentRoom_L17 x4 x11 x12 x13 x15 x16 x17 H K := by
  refine lp_upto (sCode_one _ _) (LI7 I) ?_ n h
  intro n X H h
  obtain ⟨x4, x11, x12, x13, x15, x16, x17, rfl, h⟩ := h.elim
  exact Eq.mpr (salvorlaw11_ExtentRoom_L17_eq _ x4 x11 x12 x13 x15 x16 x17 H K) (round n x4 x11 x12 x13 x15 x16 x17 H (fun X H' => ∃ m, m < n ∧ LI7 I m X H') (fun m y4 y11 y12 y13 y15 y16 y17 H' hm hi => ⟨m, hm, hi⟩) h)
def salvorlaw11_ExtentRoom_J16_b (x4 x11 x12 x13 x15 x16 x17 : AV) (H : AH) (K : AV → AH → Prop) : Prop :=
salvorlaw11_ExtentRoom_L17 x4 x11 x12 x13 x15 x16 x17 H K
theorem salvorlaw11_ExtentRoom_J16_eq0 (x4 x11 x12 x13 x15 x16 x17 : AV) (H : AH) (K : AV → AH → Prop) : salvorlaw11_ExtentRoom_c [true, true, true, true, true, true, true, true, true, false, true] 17 (expand (mk 112 0 [4, 11, 12, 13, 15, 16, 17]) [x4, x11, x12, x13, x15, x16, x17]) H (kSeq (salvorlaw11_ExtentRoom_c [true, true, true, true, true, true, true, true, true, true] 24) (kRet Try.prog Try.f8.results.toList K)) = salvorlaw11_ExtentRoom_J16_b x4 x11 x12 x13 x15 x16 x17 H K := by kernel_rfl
theorem salvorlaw11_ExtentRoom_J16_eq (x4 x11 x12 x13 x15 x16 x17 : AV) (H : AH) (K : AV → AH → Prop) : salvorlaw11_ExtentRoom_J16 x4 x11 x12 x13 x15 x16 x17 H K = salvorlaw11_ExtentRoom_J16_b x4 x11 x12 x13 x15 x16 x17 H K := (jn_eq _ _ _ _ _).trans (salvorlaw11_ExtentRoom_J16_eq0 x4 x11 x12 x13 x15 x16 x17 H K)
def salvorlaw11_ExtentRoom_J13_b (x4 x11 x12 x13 x15 x16 : AV) (H : AH) (K : AV → AH → Prop) : Prop :=
salvorlaw11_ExtentRoom_J16 x4 x11 x12 x13 x15 x16 x11 H K
theorem salvorlaw11_ExtentRoom_J13_eq0 (x4 x11 x12 x13 x15 x16 : AV) (H : AH) (K : AV → AH → Prop) : salvorlaw11_ExtentRoom_c [true, true, true, true, true, true, true, true, true] 15 (expand (mk 112 0 [4, 11, 12, 13, 15, 16]) [x4, x11, x12, x13, x15, x16]) H (kRet Try.prog Try.f8.results.toList K) = salvorlaw11_ExtentRoom_J13_b x4 x11 x12 x13 x15 x16 H K := by kernel_rfl
theorem salvorlaw11_ExtentRoom_J13_eq (x4 x11 x12 x13 x15 x16 : AV) (H : AH) (K : AV → AH → Prop) : salvorlaw11_ExtentRoom_J13 x4 x11 x12 x13 x15 x16 H K = salvorlaw11_ExtentRoom_J13_b x4 x11 x12 x13 x15 x16 H K := (jn_eq _ _ _ _ _).trans (salvorlaw11_ExtentRoom_J13_eq0 x4 x11 x12 x13 x15 x16 H K)
def salvorlaw11_ExtentRoom_J14_b (x4 x11 x12 x13 x15 x16 x77 : AV) (H : AH) (K : AV → AH → Prop) : Prop :=
bB x77 fun t0 => bI t0 (
salvorlaw11_ExtentRoom_J13 x4 x11 x12 x13 x15 (.lit (.int .i64 0)) H K)
 (salvorlaw11_ExtentRoom_J13 x4 x11 x12 x13 x15 x16 H K)
theorem salvorlaw11_ExtentRoom_J14_eq0 (x4 x11 x12 x13 x15 x16 x77 : AV) (H : AH) (K : AV → AH → Prop) : salvorlaw11_ExtentRoom_c [true, true, true, true, true, true, true, true, false, true] 15 (expand (mk 112 0 [4, 11, 12, 13, 15, 16, 77]) [x4, x11, x12, x13, x15, x16, x77]) H (kSeq (cutC (mk 112 0 [4, 11, 12, 13, 15, 16]) (salvorlaw11_ExtentRoom_c [true, true, true, true, true, true, true, true, true] 15)) (kRet Try.prog Try.f8.results.toList K)) = salvorlaw11_ExtentRoom_J14_b x4 x11 x12 x13 x15 x16 x77 H K := by kernel_rfl
theorem salvorlaw11_ExtentRoom_J14_eq (x4 x11 x12 x13 x15 x16 x77 : AV) (H : AH) (K : AV → AH → Prop) : salvorlaw11_ExtentRoom_J14 x4 x11 x12 x13 x15 x16 x77 H K = salvorlaw11_ExtentRoom_J14_b x4 x11 x12 x13 x15 x16 x77 H K := (jn_eq _ _ _ _ _).trans (salvorlaw11_ExtentRoom_J14_eq0 x4 x11 x12 x13 x15 x16 x77 H K)
def salvorlaw11_ExtentRoom_J12_b (x4 x5 x11 x12 x13 x15 x16 : AV) (H : AH) (K : AV → AH → Prop) : Prop :=
bO (ashift 0 x5) fun v0 =>
bO (ald false 1 H v0) fun v1 =>
bO (abI .geq x4 v1) fun v2 =>
bG v2 true fun w3 =>
gO w3 (some x4) fun v4 =>
bG v2 true fun w5 =>
gO w5 (some x15) fun v6 =>
bG v2 true fun w7 =>
gO w7 (abI .lss v4 v6) fun v8 =>
bO (apick v2 v8 (.lit (.bool false))) fun v9 =>
salvorlaw11_ExtentRoom_J14 x4 x11 x12 x13 x15 x16 v9 H K
theorem salvorlaw11_ExtentRoom_J12_eq0 (x4 x5 x11 x12 x13 x15 x16 : AV) (H : AH) (K : AV → AH → Prop) : salvorlaw11_ExtentRoom_c [true, true, true, true, true, true, true, true] 13 (expand (mk 112 0 [4, 5, 11, 12, 13, 15, 16]) [x4, x5, x11, x12, x13, x15, x16]) H (kRet Try.prog Try.f8.results.toList K) = salvorlaw11_ExtentRoom_J12_b x4 x5 x11 x12 x13 x15 x16 H K := by kernel_rfl
theorem salvorlaw11_ExtentRoom_J12_eq (x4 x5 x11 x12 x13 x15 x16 : AV) (H : AH) (K : AV → AH → Prop) : salvorlaw11_ExtentRoom_J12 x4 x5 x11 x12 x13 x15 x16 H K = salvorlaw11_ExtentRoom_J12_b x4 x5 x11 x12 x13 x15 x16 H K := (jn_eq _ _ _ _ _).trans (salvorlaw11_ExtentRoom_J12_eq0 x4 x5 x11 x12 x13 x15 x16 H K)
def salvorlaw11_ExtentRoom_J9_b (x4 x5 x11 x12 x13 x15 : AV) (H : AH) (K : AV → AH → Prop) : Prop :=
bO (ald true 2 H x5) fun v0 =>
bP (PCall Try.prog 20 [v0, x4] H) fun v1 =>
salvorlaw11_ExtentRoom_J12 x4 x5 x11 x12 x13 x15 v1 H K
theorem salvorlaw11_ExtentRoom_J9_eq0 (x4 x5 x11 x12 x13 x15 : AV) (H : AH) (K : AV → AH → Prop) : salvorlaw11_ExtentRoom_c [true, true, true, true, true, true, true] 12 (expand (mk 112 0 [4, 5, 11, 12, 13, 15]) [x4, x5, x11, x12, x13, x15]) H (kRet Try.prog Try.f8.results.toList K) = salvorlaw11_ExtentRoom_J9_b x4 x5 x11 x12 x13 x15 H K := by kernel_rfl
theorem salvorlaw11_ExtentRoom_J9_eq (x4 x5 x11 x12 x13 x15 : AV) (H : AH) (K : AV → AH → Prop) : salvorlaw11_ExtentRoom_J9 x4 x5 x11 x12 x13 x15 H K = salvorlaw11_ExtentRoom_J9_b x4 x5 x11 x12 x13 x15 H K := (jn_eq _ _ _ _ _).trans (salvorlaw11_ExtentRoom_J9_eq0 x4 x5 x11 x12 x13 x15 H K)
def salvorlaw11_ExtentRoom_J10_b (x4 x5 x11 x12 x13 x15 x65 : AV) (H : AH) (K : AV → AH → Prop) : Prop :=
bB x65 fun t0 => bI t0 (
K (.lit (.bool false)) H)
 (salvorlaw11_ExtentRoom_J9 x4 x5 x11 x12 x13 x15 H K)
theorem salvorlaw11_ExtentRoom_J10_eq0 (x4 x5 x11 x12 x13 x15 x65 : AV) (H : AH) (K : AV → AH → Prop) : salvorlaw11_ExtentRoom_c [true, true, true, true, true, true, false, true] 11 (expand (mk 112 0 [4, 5, 11, 12, 13, 15, 65]) [x4, x5, x11, x12, x13, x15, x65]) H (kSeq (cutC (mk 112 0 [4, 5, 11, 12, 13, 15]) (salvorlaw11_ExtentRoom_c [true, true, true, true, true, true, true] 12)) (kRet Try.prog Try.f8.results.toList K)) = salvorlaw11_ExtentRoom_J10_b x4 x5 x11 x12 x13 x15 x65 H K := by kernel_rfl
theorem salvorlaw11_ExtentRoom_J10_eq (x4 x5 x11 x12 x13 x15 x65 : AV) (H : AH) (K : AV → AH → Prop) : salvorlaw11_ExtentRoom_J10 x4 x5 x11 x12 x13 x15 x65 H K = salvorlaw11_ExtentRoom_J10_b x4 x5 x11 x12 x13 x15 x65 H K := (jn_eq _ _ _ _ _).trans (salvorlaw11_ExtentRoom_J10_eq0 x4 x5 x11 x12 x13 x15 x65 H K)
def salvorlaw11_ExtentRoom_J7_b (x4 x5 x11 x12 x13 x14 x15 : AV) (H : AH) (K : AV → AH → Prop) : Prop :=
bO (aun .not x14) fun v0 =>
bG v0 false fun w1 =>
gO w1 (ashift 0 x13) fun v2 =>
bG v0 false fun w3 =>
gO w3 (ald false 1 H v2) fun v4 =>
bG v0 false fun w5 =>
gO w5 (some x15) fun v6 =>
bG v0 false fun w7 =>
gO w7 (abI .neq v4 v6) fun v8 =>
bO (apick v0 (.lit (.bool true)) v8) fun v9 =>
bG v9 false fun w10 =>
gO w10 (ald true 2 H x13) fun v11 =>
bG v9 false fun w12 =>
gP w12 (PCall Try.prog 16 [v11] H) fun v13 =>
bG v9 false fun w14 =>
gO w14 (aun .not v13) fun v15 =>
bO (apick v9 (.lit (.bool true)) v15) fun v16 =>
salvorlaw11_ExtentRoom_J10 x4 x5 x11 x12 x13 x15 v16 H K
theorem salvorlaw11_ExtentRoom_J7_eq0 (x4 x5 x11 x12 x13 x14 x15 : AV) (H : AH) (K : AV → AH → Prop) : salvorlaw11_ExtentRoom_c [true, true, true, true, true, true] 9 (expand (mk 112 0 [4, 5, 11, 12, 13, 14, 15]) [x4, x5, x11, x12, x13, x14, x15]) H (kRet Try.prog Try.f8.results.toList K) = salvorlaw11_ExtentRoom_J7_b x4 x5 x11 x12 x13 x14 x15 H K := by kernel_rfl
theorem salvorlaw11_ExtentRoom_J7_eq (x4 x5 x11 x12 x13 x14 x15 : AV) (H : AH) (K : AV → AH → Prop) : salvorlaw11_ExtentRoom_J7 x4 x5 x11 x12 x13 x14 x15 H K = salvorlaw11_ExtentRoom_J7_b x4 x5 x11 x12 x13 x14 x15 H K := (jn_eq _ _ _ _ _).trans (salvorlaw11_ExtentRoom_J7_eq0 x4 x5 x11 x12 x13 x14 x15 H K)
def salvorlaw11_ExtentRoom (a0 a1 a2 a3 a4 : AV) (H : AH) (K : AV → AH → Prop) : Prop :=
bH (anew H a0) fun v0 H1 =>
bO (ald true 2 H1 v0) fun v2 =>
bP (PCall Try.prog 17 [v2] H1) fun v3 =>
bO (aun .not v3) fun v4 =>
bG v4 false fun w5 =>
gO w5 (ald true 2 H1 v0) fun v6 =>
bG v4 false fun w7 =>
gP w7 (PCall Try.prog 16 [v6] H1) fun v8 =>
bG v4 false fun w9 =>
gO w9 (aun .not v8) fun v10 =>
bO (apick v4 (.lit (.bool true)) v10) fun v11 =>
bB v11 fun t12 => bI t12 (
bP (PCall Try.prog 3 [] H1) fun v13 =>
K v13 H1)
 (bO (abI .rem a1 (.lit (.int .u16 600))) fun v14 =>
bO (acI .i64 v14) fun v15 =>
bO (abI .rem a2 (.lit (.int .u16 200))) fun v16 =>
bO (acI .i64 v16) fun v17 =>
bO (abI .add v17 (.lit (.int .i64 1))) fun v18 =>
bO (ald true 2 H1 v0) fun v19 =>
bP (PCall Try.prog 26 [v19, v15, v18, a3] H1) fun v20 =>
bO (aextract v20 0) fun v21 =>
bO (aextract v20 1) fun v22 =>
bH (anew H1 (.agg [(.lit (.int .i64 0)), (.lit (.slice none 0 0))])) fun v23 H24 =>
bS (ast 2 H24 v23 v21) fun H25 =>
bO (ashift 0 v0) fun v26 =>
bO (ald false 1 H25 v26) fun v27 =>
bO (aun .not a3) fun v28 =>
bB v28 fun t29 => bI t29 (
bO (abI .add v15 v18) fun v30 =>
bO (amm imx [v27, v30]) fun v31 =>
salvorlaw11_ExtentRoom_J7 a4 v0 v15 v18 v23 v22 v31 H25 K)
 (salvorlaw11_ExtentRoom_J7 a4 v0 v15 v18 v23 v22 v27 H25 K))
theorem salvorlaw11_ExtentRoom_eq (a0 a1 a2 a3 a4 : AV) (H : AH) (K : AV → AH → Prop) : sFun Try.prog salvorlaw11_ExtentRoom_fl pql none0 none0 salvorlaw11_ExtentRoom_kp Try.f8 [a0, a1, a2, a3, a4] H K = salvorlaw11_ExtentRoom a0 a1 a2 a3 a4 H K := by kernel_rfl
theorem salvorlaw11_ExtentRoom_ok {a0 a1 a2 a3 a4 : AV} {H : AH} {K : AV → AH → Prop} (h : salvorlaw11_ExtentRoom a0 a1 a2 a3 a4 H K) : ∃ r H', K r H' ∧ BCall Try.prog 8 [a0, a1, a2, a3, a4] H r H' :=
  sFun_ok mixP Try.func8 (by kernel_rfl) (Eq.mpr (salvorlaw11_ExtentRoom_eq a0 a1 a2 a3 a4 H K) h)
/-! salvor/salvorlaw11.ExtentSized -/
def salvorlaw11_ExtentSized_fl : Floats := flOf []
def salvorlaw11_ExtentSized_kp : Nat → Option (List Bool) := kpOf [(16, mk 121 0 [3, 9, 13, 15, 16]), (15, mk 121 0 [3, 9, 13, 15, 16]), (11, mk 121 0 [3, 9, 13, 15])]
def salvorlaw11_ExtentSized_c (p : List Bool) (n : Nat) : List AV → AH → Kf → Prop := sCode Try.prog salvorlaw11_ExtentSized_fl pql none0 none0 salvorlaw11_ExtentSized_kp (sub p (bodyOf Try.f9)) n
def salvorlaw11_ExtentSized_L16 (x3 x9 x13 x15 x16 : AV) (H : AH) (K : AV → AH → Prop) : Prop := lp (mk 121 0 [3, 9, 13, 15, 16]) (salvorlaw11_ExtentSized_c [true, true, true, true, true, true, true, true, false, true, false, false] 17) [x3, x9, x13, x15, x16] H (kBlk 1 (kSeq (salvorlaw11_ExtentSized_c [true, true, true, true, true, true, true, true, true] 22) (kRet Try.prog Try.f9.results.toList K)))
def salvorlaw11_ExtentSized_J15 (x3 x9 x13 x15 x16 : AV) (H : AH) (K : AV → AH → Prop) : Prop := jn (mk 121 0 [3, 9, 13, 15, 16]) (salvorlaw11_ExtentSized_c [true, true, true, true, true, true, true, true, false, true] 16) [x3, x9, x13, x15, x16] H (kSeq (salvorlaw11_ExtentSized_c [true, true, true, true, true, true, true, true, true] 22) (kRet Try.prog Try.f9.results.toList K))
def salvorlaw11_ExtentSized_J11 (x3 x9 x13 x15 : AV) (H : AH) (K : AV → AH → Prop) : Prop := jn (mk 121 0 [3, 9, 13, 15]) (salvorlaw11_ExtentSized_c [true, true, true, true, true, true, true, true] 14) [x3, x9, x13, x15] H (kRet Try.prog Try.f9.results.toList K)
def salvorlaw11_ExtentSized_L16_b (R16 : List AV → AH → Prop) (x3 x9 x13 x15 x16 : AV) (H : AH) (K : AV → AH → Prop) : Prop :=
bO (ashift 1 x13) fun v0 =>
bO (ald false 1 H v0) fun v1 =>
bO (alnS v1) fun v2 =>
bO (abI .lss x16 v2) fun v3 =>
bB v3 fun t4 => bI t4 (
bO (ashift 1 x13) fun v5 =>
bO (ald false 1 H v5) fun v6 =>
bO (aixS 9 v6 x16) fun v7 =>
bO (ashift 0 v7) fun v8 =>
bO (ald false 1 H v8) fun v9 =>
bO (abI .mul v9 (.lit (.int .i64 8))) fun v10 =>
bO (abI .geq v10 x9) fun v11 =>
bB v11 fun t12 => bI t12 (
K (.lit (.bool false)) H)
 (bO (abI .add x16 (.lit (.int .i64 1))) fun v13 =>
R16 [x3, x9, x13, x15, v13] H))
 (bO (ald true 2 H x13) fun v14 =>
bP (PCall Try.prog 20 [v14, x3] H) fun v15 =>
bO (abI .eql v15 x15) fun v16 =>
bG v16 true fun w17 =>
gP w17 (PCall Try.prog 3 [] H) fun v18 =>
bO (apick v16 v18 (.lit (.bool false))) fun v19 =>
K v19 H)
theorem salvorlaw11_ExtentSized_L16_eq (R16 : List AV → AH → Prop) (x3 x9 x13 x15 x16 : AV) (H : AH) (K : AV → AH → Prop) : salvorlaw11_ExtentSized_c [true, true, true, true, true, true, true, true, false, true, false, false] 17 (expand (mk 121 0 [3, 9, 13, 15, 16]) [x3, x9, x13, x15, x16]) H (kLp (mk 121 0 [3, 9, 13, 15, 16]) R16 (kBlk 1 (kSeq (salvorlaw11_ExtentSized_c [true, true, true, true, true, true, true, true, true] 22) (kRet Try.prog Try.f9.results.toList K)))) = salvorlaw11_ExtentSized_L16_b R16 x3 x9 x13 x15 x16 H K := by kernel_rfl
theorem salvorlaw11_ExtentSized_L16_rule {K : AV → AH → Prop} (I : Nat → AV → AV → AV → AV → AV → AH → Prop) (round : ∀ (n : Nat) (x3 x9 x13 x15 x16 : AV) (H : AH) (R : List AV → AH → Prop), (∀ (m : Nat) (y3 y9 y13 y15 y16 : AV) (H' : AH), m < n → I m y3 y9 y13 y15 y16 H' → R [y3, y9, y13, y15, y16] H') → I n x3 x9 x13 x15 x16 H → salvorlaw11_ExtentSized_L16_b R x3 x9 x13 x15 x16 H K) (n : Nat) {x3 x9 x13 x15 x16 : AV} {H : AH} (h : I n x3 x9 x13 x15 x16 H) : salvorlaw11_ExtentSized_L16 x3 x9 x13 x15 x16 H K := by
  refine lp_upto (sCode_one _ _) (LI5 I) ?_ n h
  intro n X H h
  obtain ⟨x3, x9, x13, x15, x16, rfl, h⟩ := h.elim
  exact Eq.mpr (salvorlaw11_ExtentSized_L16_eq _ x3 x9 x13 x15 x16 H K) (round n x3 x9 x13 x15 x16 H (fun X H' => ∃ m, m < n ∧ LI5 I m X H') (fun m y3 y9 y13 y15 y16 H' hm hi => ⟨m, hm, hi⟩) h)
def salvorlaw11_ExtentSized_J15_b (x3 x9 x13 x15 x16 : AV) (H : AH) (K : AV → AH → Prop) : Prop :=
salvorlaw11_ExtentSized_L16 x3 x9 x13 x15 x16 H K
theorem salvorlaw11_ExtentSized_J15_eq0 (x3 x9 x13 x15 x16 : AV) (H : AH) (K : AV → AH → Prop) : salvorlaw11_ExtentSized_c [true, true, true, true, true, true, true, true, false, true] 16 (expand (mk 121 0 [3, 9, 13, 15, 16]) [x3, x9, x13, x15, x16]) H (kSeq (salvorlaw11_ExtentSized_c [true, true, true, true, true, true, true, true, true] 22) (kRet Try.prog Try.f9.results.toList K)) = salvorlaw11_ExtentSized_J15_b x3 x9 x13 x15 x16 H K := by kernel_rfl
theorem salvorlaw11_ExtentSized_J15_eq (x3 x9 x13 x15 x16 : AV) (H : AH) (K : AV → AH → Prop) : salvorlaw11_ExtentSized_J15 x3 x9 x13 x15 x16 H K = salvorlaw11_ExtentSized_J15_b x3 x9 x13 x15 x16 H K := (jn_eq _ _ _ _ _).trans (salvorlaw11_ExtentSized_J15_eq0 x3 x9 x13 x15 x16 H K)
def salvorlaw11_ExtentSized_J11_b (x3 x9 x13 x15 : AV) (H : AH) (K : AV → AH → Prop) : Prop :=
salvorlaw11_ExtentSized_J15 x3 x9 x13 x15 (.lit (.int .i64 0)) H K
theorem salvorlaw11_ExtentSized_J11_eq0 (x3 x9 x13 x15 : AV) (H : AH) (K : AV → AH → Prop) : salvorlaw11_ExtentSized_c [true, true, true, true, true, true, true, true] 14 (expand (mk 121 0 [3, 9, 13, 15]) [x3, x9, x13, x15]) H (kRet Try.prog Try.f9.results.toList K) = salvorlaw11_ExtentSized_J11_b x3 x9 x13 x15 H K := by kernel_rfl
theorem salvorlaw11_ExtentSized_J11_eq (x3 x9 x13 x15 : AV) (H : AH) (K : AV → AH → Prop) : salvorlaw11_ExtentSized_J11 x3 x9 x13 x15 H K = salvorlaw11_ExtentSized_J11_b x3 x9 x13 x15 H K := (jn_eq _ _ _ _ _).trans (salvorlaw11_ExtentSized_J11_eq0 x3 x9 x13 x15 H K)
def salvorlaw11_ExtentSized (a0 a1 a2 a3 : AV) (H : AH) (K : AV → AH → Prop) : Prop :=
bH (anew H a0) fun v0 H1 =>
bO (ald true 2 H1 v0) fun v2 =>
bP (PCall Try.prog 17 [v2] H1) fun v3 =>
bO (aun .not v3) fun v4 =>
bG v4 false fun w5 =>
gO w5 (ald true 2 H1 v0) fun v6 =>
bG v4 false fun w7 =>
gP w7 (PCall Try.prog 16 [v6] H1) fun v8 =>
bG v4 false fun w9 =>
gO w9 (aun .not v8) fun v10 =>
bO (apick v4 (.lit (.bool true)) v10) fun v11 =>
bB v11 fun t12 => bI t12 (
bP (PCall Try.prog 3 [] H1) fun v13 =>
K v13 H1)
 (bO (abI .rem a1 (.lit (.int .u16 600))) fun v14 =>
bO (acI .i64 v14) fun v15 =>
bO (abI .rem a1 (.lit (.int .u16 600))) fun v16 =>
bO (acI .i64 v16) fun v17 =>
bO (abI .rem a2 (.lit (.int .u16 600))) fun v18 =>
bO (acI .i64 v18) fun v19 =>
bO (abI .add v17 v19) fun v20 =>
bO (ald true 2 H1 v0) fun v21 =>
bP (PCall Try.prog 27 [v21, v15] H1) fun v22 =>
bO (aextract v22 0) fun v23 =>
bO (aextract v22 1) fun v24 =>
bH (anew H1 (.agg [(.lit (.int .i64 0)), (.lit (.slice none 0 0))])) fun v25 H26 =>
bS (ast 2 H26 v25 v23) fun H27 =>
bO (ald true 2 H27 v25) fun v28 =>
bP (PCall Try.prog 27 [v28, v20] H27) fun v29 =>
bO (aextract v29 0) fun v30 =>
bO (aextract v29 1) fun v31 =>
bH (anew H27 (.agg [(.lit (.int .i64 0)), (.lit (.slice none 0 0))])) fun v32 H33 =>
bS (ast 2 H33 v32 v30) fun H34 =>
bO (aun .not v24) fun v35 =>
bG v35 false fun w36 =>
gO w36 (some v31) fun v37 =>
bG v35 false fun w38 =>
gO w38 (aun .not v37) fun v39 =>
bO (apick v35 (.lit (.bool true)) v39) fun v40 =>
bG v40 false fun w41 =>
gO w41 (ashift 0 v25) fun v42 =>
bG v40 false fun w43 =>
gO w43 (ald false 1 H34 v42) fun v44 =>
bG v40 false fun w45 =>
gO w45 (some v15) fun v46 =>
bG v40 false fun w47 =>
gO w47 (abI .neq v44 v46) fun v48 =>
bO (apick v40 (.lit (.bool true)) v48) fun v49 =>
bG v49 false fun w50 =>
gO w50 (ashift 0 v32) fun v51 =>
bG v49 false fun w52 =>
gO w52 (ald false 1 H34 v51) fun v53 =>
bG v49 false fun w54 =>
gO w54 (some v20) fun v55 =>
bG v49 false fun w56 =>
gO w56 (abI .neq v53 v55) fun v57 =>
bO (apick v49 (.lit (.bool true)) v57) fun v58 =>
bG v58 false fun w59 =>
gO w59 (ald true 2 H34 v25) fun v60 =>
bG v58 false fun w61 =>
gP w61 (PCall Try.prog 16 [v60] H34) fun v62 =>
bG v58 false fun w63 =>
gO w63 (aun .not v62) fun v64 =>
bO (apick v58 (.lit (.bool true)) v64) fun v65 =>
bG v65 false fun w66 =>
gO w66 (ald true 2 H34 v32) fun v67 =>
bG v65 false fun w68 =>
gP w68 (PCall Try.prog 16 [v67] H34) fun v69 =>
bG v65 false fun w70 =>
gO w70 (aun .not v69) fun v71 =>
bO (apick v65 (.lit (.bool true)) v71) fun v72 =>
bB v72 fun t73 => bI t73 (
K (.lit (.bool false)) H34)
 (bO (abI .lss a3 (.lit (.int .i64 0))) fun v74 =>
bG v74 false fun w75 =>
gO w75 (some a3) fun v76 =>
bG v74 false fun w77 =>
gO w77 (some v20) fun v78 =>
bG v74 false fun w79 =>
gO w79 (abI .geq v76 v78) fun v80 =>
bO (apick v74 (.lit (.bool true)) v80) fun v81 =>
bB v81 fun t82 => bI t82 (
salvorlaw11_ExtentSized_J11 a3 v15 v32 (.lit (.int .i64 (-1))) H34 K)
 (bO (abI .lss a3 v15) fun v83 =>
bG v83 true fun w84 =>
gO w84 (some a3) fun v85 =>
bG v83 true fun w86 =>
gO w86 (ashift 0 v0) fun v87 =>
bG v83 true fun w88 =>
gO w88 (ald false 1 H34 v87) fun v89 =>
bG v83 true fun w90 =>
gO w90 (abI .lss v85 v89) fun v91 =>
bO (apick v83 v91 (.lit (.bool false))) fun v92 =>
bB v92 fun t93 => bI t93 (
bO (ald true 2 H34 v0) fun v94 =>
bP (PCall Try.prog 20 [v94, a3] H34) fun v95 =>
salvorlaw11_ExtentSized_J11 a3 v15 v32 v95 H34 K)
 (salvorlaw11_ExtentSized_J11 a3 v15 v32 (.lit (.int .i64 0)) H34 K))))
theorem salvorlaw11_ExtentSized_eq (a0 a1 a2 a3 : AV) (H : AH) (K : AV → AH → Prop) : sFun Try.prog salvorlaw11_ExtentSized_fl pql none0 none0 salvorlaw11_ExtentSized_kp Try.f9 [a0, a1, a2, a3] H K = salvorlaw11_ExtentSized a0 a1 a2 a3 H K := by kernel_rfl
theorem salvorlaw11_ExtentSized_ok {a0 a1 a2 a3 : AV} {H : AH} {K : AV → AH → Prop} (h : salvorlaw11_ExtentSized a0 a1 a2 a3 H K) : ∃ r H', K r H' ∧ BCall Try.prog 9 [a0, a1, a2, a3] H r H' :=
  sFun_ok mixP Try.func9 (by kernel_rfl) (Eq.mpr (salvorlaw11_ExtentSized_eq a0 a1 a2 a3 H K) h)
/-! salvor/salvorlaw11.ExtentPunched -/
def salvorlaw11_ExtentPunched_fl : Floats := flOf []
def salvorlaw11_ExtentPunched_kp : Nat → Option (List Bool) := kpOf [(18, mk 117 0 [3, 4, 9, 10, 11, 13, 14, 15]), (15, mk 117 0 [3, 4, 9, 10, 11, 13, 14, 15]), (14, mk 117 0 [3, 4, 9, 10, 11, 13, 14, 15]), (12, mk 117 0 [3, 4, 9, 10, 11, 13, 14]), (10, mk 117 0 [3, 4, 9, 10, 11, 13])]
def salvorlaw11_ExtentPunched_c (p : List Bool) (n : Nat) : List AV → AH → Kf → Prop := sCode Try.prog salvorlaw11_ExtentPunched_fl pql none0 none0 salvorlaw11_ExtentPunched_kp (sub p (bodyOf Try.f10)) n
def salvorlaw11_ExtentPunched_J18 (R15 : List AV → AH → Prop) (x3 x4 x9 x10 x11 x13 x14 x15 : AV) (H : AH) (K : AV → AH → Prop) : Prop := jn (mk 117 0 [3, 4, 9, 10, 11, 13, 14, 15]) (salvorlaw11_ExtentPunched_c [true, true, true, true, true, true, true, true, false, true, false, false, true, true] 20) [x3, x4, x9, x10, x11, x13, x14, x15] H (kLp (mk 117 0 [3, 4, 9, 10, 11, 13, 14, 15]) R15 (kBlk 0 (kSeq (salvorlaw11_ExtentPunched_c [true, true, true, true, true, true, true, true, true] 20) (kRet Try.prog Try.f10.results.toList K))))
def salvorlaw11_ExtentPunched_L15 (x3 x4 x9 x10 x11 x13 x14 x15 : AV) (H : AH) (K : AV → AH → Prop) : Prop := lp (mk 117 0 [3, 4, 9, 10, 11, 13, 14, 15]) (salvorlaw11_ExtentPunched_c [true, true, true, true, true, true, true, true, false, true, false, false] 16) [x3, x4, x9, x10, x11, x13, x14, x15] H (kBlk 0 (kSeq (salvorlaw11_ExtentPunched_c [true, true, true, true, true, true, true, true, true] 20) (kRet Try.prog Try.f10.results.toList K)))
def salvorlaw11_ExtentPunched_J14 (x3 x4 x9 x10 x11 x13 x14 x15 : AV) (H : AH) (K : AV → AH → Prop) : Prop := jn (mk 117 0 [3, 4, 9, 10, 11, 13, 14, 15]) (salvorlaw11_ExtentPunched_c [true, true, true, true, true, true, true, true, false, true] 15) [x3, x4, x9, x10, x11, x13, x14, x15] H (kSeq (salvorlaw11_ExtentPunched_c [true, true, true, true, true, true, true, true, true] 20) (kRet Try.prog Try.f10.results.toList K))
def salvorlaw11_ExtentPunched_J12 (x3 x4 x9 x10 x11 x13 x14 : AV) (H : AH) (K : AV → AH → Prop) : Prop := jn (mk 117 0 [3, 4, 9, 10, 11, 13, 14]) (salvorlaw11_ExtentPunched_c [true, true, true, true, true, true, true, true] 13) [x3, x4, x9, x10, x11, x13, x14] H (kRet Try.prog Try.f10.results.toList K)
def salvorlaw11_ExtentPunched_J10 (x3 x4 x9 x10 x11 x13 : AV) (H : AH) (K : AV → AH → Prop) : Prop := jn (mk 117 0 [3, 4, 9, 10, 11, 13]) (salvorlaw11_ExtentPunched_c [true, true, true, true, true, true, true] 12) [x3, x4, x9, x10, x11, x13] H (kRet Try.prog Try.f10.results.toList K)
def salvorlaw11_ExtentPunched_J18_b (R15 : List AV → AH → Prop) (x3 x4 x9 x10 x11 x13 x14 x15 : AV) (H : AH) (K : AV → AH → Prop) : Prop :=
bO (abI .add x15 (.lit (.int .i64 1))) fun v0 =>
R15 [x3, x4, x9, x10, x11, x13, x14, v0] H
theorem salvorlaw11_ExtentPunched_J18_eq0 (R15 : List AV → AH → Prop) (x3 x4 x9 x10 x11 x13 x14 x15 : AV) (H : AH) (K : AV → AH → Prop) : salvorlaw11_ExtentPunched_c [true, true, true, true, true, true, true, true, false, true, false, false, true, true] 20 (expand (mk 117 0 [3, 4, 9, 10, 11, 13, 14, 15]) [x3, x4, x9, x10, x11, x13, x14, x15]) H (kLp (mk 117 0 [3, 4, 9, 10, 11, 13, 14, 15]) R15 (kBlk 0 (kSeq (salvorlaw11_ExtentPunched_c [true, true, true, true, true, true, true, true, true] 20) (kRet Try.prog Try.f10.results.toList K)))) = salvorlaw11_ExtentPunched_J18_b R15 x3 x4 x9 x10 x11 x13 x14 x15 H K := by kernel_rfl
theorem salvorlaw11_ExtentPunched_J18_eq (R15 : List AV → AH → Prop) (x3 x4 x9 x10 x11 x13 x14 x15 : AV) (H : AH) (K : AV → AH → Prop) : salvorlaw11_ExtentPunched_J18 R15 x3 x4 x9 x10 x11 x13 x14 x15 H K = salvorlaw11_ExtentPunched_J18_b R15 x3 x4 x9 x10 x11 x13 x14 x15 H K := (jn_eq _ _ _ _ _).trans (salvorlaw11_ExtentPunched_J18_eq0 R15 x3 x4 x9 x10 x11 x13 x14 x15 H K)
def salvorlaw11_ExtentPunched_L15_b (R15 : List AV → AH → Prop) (x3 x4 x9 x10 x11 x13 x14 x15 : AV) (H : AH) (K : AV → AH → Prop) : Prop :=
bO (ashift 1 x4) fun v0 =>
bO (ald false 1 H v0) fun v1 =>
bO (alnS v1) fun v2 =>
bO (abI .lss x15 v2) fun v3 =>
bB v3 fun t4 => bI t4 (
bO (ashift 1 x4) fun v5 =>
bO (ald false 1 H v5) fun v6 =>
bO (aixS 9 v6 x15) fun v7 =>
bO (ashift 0 v7) fun v8 =>
bO (ald false 1 H v8) fun v9 =>
bO (abI .mul v9 (.lit (.int .i64 8))) fun v10 =>
bO (abI .lss v10 x9) fun v11 =>
bG v11 false fun w12 =>
gO w12 (ashift 1 x4) fun v13 =>
bG v11 false fun w14 =>
gO w14 (ald false 1 H v13) fun v15 =>
bG v11 false fun w16 =>
gO w16 (some x15) fun v17 =>
bG v11 false fun w18 =>
gO w18 (aixS 9 v15 v17) fun v19 =>
bG v11 false fun w20 =>
gO w20 (ashift 0 v19) fun v21 =>
bG v11 false fun w22 =>
gO w22 (ald false 1 H v21) fun v23 =>
bG v11 false fun w24 =>
gO w24 (abI .add v23 (.lit (.int .i64 1))) fun v25 =>
bG v11 false fun w26 =>
gO w26 (abI .mul v25 (.lit (.int .i64 8))) fun v27 =>
bG v11 false fun w28 =>
gO w28 (some x9) fun v29 =>
bG v11 false fun w30 =>
gO w30 (some x10) fun v31 =>
bG v11 false fun w32 =>
gO w32 (abI .add v29 v31) fun v33 =>
bG v11 false fun w34 =>
gO w34 (abI .gtr v27 v33) fun v35 =>
bO (apick v11 (.lit (.bool true)) v35) fun v36 =>
bB v36 fun t37 => bI t37 (
bO (abI .add x14 (.lit (.int .i64 1))) fun v38 =>
salvorlaw11_ExtentPunched_J18 R15 x3 x4 x9 x10 x11 x13 v38 x15 H K)
 (salvorlaw11_ExtentPunched_J18 R15 x3 x4 x9 x10 x11 x13 x14 x15 H K))
 (bO (ald true 2 H x11) fun v39 =>
bP (PCall Try.prog 20 [v39, x3] H) fun v40 =>
bO (abI .eql v40 x13) fun v41 =>
bG v41 true fun w42 =>
gO w42 (ashift 1 x11) fun v43 =>
bG v41 true fun w44 =>
gO w44 (ald false 1 H v43) fun v45 =>
bG v41 true fun w46 =>
gO w46 (alnS v45) fun v47 =>
bG v41 true fun w48 =>
gO w48 (some x14) fun v49 =>
bG v41 true fun w50 =>
gO w50 (abI .eql v47 v49) fun v51 =>
bO (apick v41 v51 (.lit (.bool false))) fun v52 =>
bG v52 true fun w53 =>
gP w53 (PCall Try.prog 3 [] H) fun v54 =>
bO (apick v52 v54 (.lit (.bool false))) fun v55 =>
K v55 H)
theorem salvorlaw11_ExtentPunched_L15_eq (R15 : List AV → AH → Prop) (x3 x4 x9 x10 x11 x13 x14 x15 : AV) (H : AH) (K : AV → AH → Prop) : salvorlaw11_ExtentPunched_c [true, true, true, true, true, true, true, true, false, true, false, false] 16 (expand (mk 117 0 [3, 4, 9, 10, 11, 13, 14, 15]) [x3, x4, x9, x10, x11, x13, x14, x15]) H (kLp (mk 117 0 [3, 4, 9, 10, 11, 13, 14, 15]) R15 (kBlk 0 (kSeq (salvorlaw11_ExtentPunched_c [true, true, true, true, true, true, true, true, true] 20) (kRet Try.prog Try.f10.results.toList K)))) = salvorlaw11_ExtentPunched_L15_b R15 x3 x4 x9 x10 x11 x13 x14 x15 H K := by kernel_rfl
theorem salvorlaw11_ExtentPunched_L15_rule {K : AV → AH → Prop} (I : Nat → AV → AV → AV → AV → AV → AV → AV → AV → AH → Prop) (round : ∀ (n : Nat) (x3 x4 x9 x10 x11 x13 x14 x15 : AV) (H : AH) (R : List AV → AH → Prop), (∀ (m : Nat) (y3 y4 y9 y10 y11 y13 y14 y15 : AV) (H' : AH), m < n → I m y3 y4 y9 y10 y11 y13 y14 y15 H' → R [y3, y4, y9, y10, y11, y13, y14, y15] H') → I n x3 x4 x9 x10 x11 x13 x14 x15 H → salvorlaw11_ExtentPunched_L15_b R x3 x4 x9 x10 x11 x13 x14 x15 H K) (n : Nat) {x3 x4 x9 x10 x11 x13 x14 x15 : AV} {H : AH} (h : I n x3 x4 x9 x10 x11 x13 x14 x15 H) : salvorlaw11_ExtentPunched_L15 x3 x4 x9 x10 x11 x13 x14 x15 H K := by
  refine lp_upto (sCode_one _ _) (LI8 I) ?_ n h
  intro n X H h
  obtain ⟨x3, x4, x9, x10, x11, x13, x14, x15, rfl, h⟩ := h.elim
  exact Eq.mpr (salvorlaw11_ExtentPunched_L15_eq _ x3 x4 x9 x10 x11 x13 x14 x15 H K) (round n x3 x4 x9 x10 x11 x13 x14 x15 H (fun X H' => ∃ m, m < n ∧ LI8 I m X H') (fun m y3 y4 y9 y10 y11 y13 y14 y15 H' hm hi => ⟨m, hm, hi⟩) h)
def salvorlaw11_ExtentPunched_J14_b (x3 x4 x9 x10 x11 x13 x14 x15 : AV) (H : AH) (K : AV → AH → Prop) : Prop :=
salvorlaw11_ExtentPunched_L15 x3 x4 x9 x10 x11 x13 x14 x15 H K
theorem salvorlaw11_ExtentPunched_J14_eq0 (x3 x4 x9 x10 x11 x13 x14 x15 : AV) (H : AH) (K : AV → AH → Prop) : salvorlaw11_ExtentPunched_c [true, true, true, true, true, true, true, true, false, true] 15 (expand (mk 117 0 [3, 4, 9, 10, 11, 13, 14, 15]) [x3, x4, x9, x10, x11, x13, x14, x15]) H (kSeq (salvorlaw11_ExtentPunched_c [true, true, true, true, true, true, true, true, true] 20) (kRet Try.prog Try.f10.results.toList K)) = salvorlaw11_ExtentPunched_J14_b x3 x4 x9 x10 x11 x13 x14 x15 H K := by kernel_rfl
theorem salvorlaw11_ExtentPunched_J14_eq (x3 x4 x9 x10 x11 x13 x14 x15 : AV) (H : AH) (K : AV → AH → Prop) : salvorlaw11_ExtentPunched_J14 x3 x4 x9 x10 x11 x13 x14 x15 H K = salvorlaw11_ExtentPunched_J14_b x3 x4 x9 x10 x11 x13 x14 x15 H K := (jn_eq _ _ _ _ _).trans (salvorlaw11_ExtentPunched_J14_eq0 x3 x4 x9 x10 x11 x13 x14 x15 H K)
def salvorlaw11_ExtentPunched_J12_b (x3 x4 x9 x10 x11 x13 x14 : AV) (H : AH) (K : AV → AH → Prop) : Prop :=
salvorlaw11_ExtentPunched_J14 x3 x4 x9 x10 x11 x13 x14 (.lit (.int .i64 0)) H K
theorem salvorlaw11_ExtentPunched_J12_eq0 (x3 x4 x9 x10 x11 x13 x14 : AV) (H : AH) (K : AV → AH → Prop) : salvorlaw11_ExtentPunched_c [true, true, true, true, true, true, true, true] 13 (expand (mk 117 0 [3, 4, 9, 10, 11, 13, 14]) [x3, x4, x9, x10, x11, x13, x14]) H (kRet Try.prog Try.f10.results.toList K) = salvorlaw11_ExtentPunched_J12_b x3 x4 x9 x10 x11 x13 x14 H K := by kernel_rfl
theorem salvorlaw11_ExtentPunched_J12_eq (x3 x4 x9 x10 x11 x13 x14 : AV) (H : AH) (K : AV → AH → Prop) : salvorlaw11_ExtentPunched_J12 x3 x4 x9 x10 x11 x13 x14 H K = salvorlaw11_ExtentPunched_J12_b x3 x4 x9 x10 x11 x13 x14 H K := (jn_eq _ _ _ _ _).trans (salvorlaw11_ExtentPunched_J12_eq0 x3 x4 x9 x10 x11 x13 x14 H K)
def salvorlaw11_ExtentPunched_J10_b (x3 x4 x9 x10 x11 x13 : AV) (H : AH) (K : AV → AH → Prop) : Prop :=
salvorlaw11_ExtentPunched_J12 x3 x4 x9 x10 x11 x13 (.lit (.int .i64 0)) H K
theorem salvorlaw11_ExtentPunched_J10_eq0 (x3 x4 x9 x10 x11 x13 : AV) (H : AH) (K : AV → AH → Prop) : salvorlaw11_ExtentPunched_c [true, true, true, true, true, true, true] 12 (expand (mk 117 0 [3, 4, 9, 10, 11, 13]) [x3, x4, x9, x10, x11, x13]) H (kRet Try.prog Try.f10.results.toList K) = salvorlaw11_ExtentPunched_J10_b x3 x4 x9 x10 x11 x13 H K := by kernel_rfl
theorem salvorlaw11_ExtentPunched_J10_eq (x3 x4 x9 x10 x11 x13 : AV) (H : AH) (K : AV → AH → Prop) : salvorlaw11_ExtentPunched_J10 x3 x4 x9 x10 x11 x13 H K = salvorlaw11_ExtentPunched_J10_b x3 x4 x9 x10 x11 x13 H K := (jn_eq _ _ _ _ _).trans (salvorlaw11_ExtentPunched_J10_eq0 x3 x4 x9 x10 x11 x13 H K)
def salvorlaw11_ExtentPunched (a0 a1 a2 a3 : AV) (H : AH) (K : AV → AH → Prop) : Prop :=
bH (anew H a0) fun v0 H1 =>
bO (ald true 2 H1 v0) fun v2 =>
bP (PCall Try.prog 17 [v2] H1) fun v3 =>
bO (aun .not v3) fun v4 =>
bG v4 false fun w5 =>
gO w5 (ald true 2 H1 v0) fun v6 =>
bG v4 false fun w7 =>
gP w7 (PCall Try.prog 16 [v6] H1) fun v8 =>
bG v4 false fun w9 =>
gO w9 (aun .not v8) fun v10 =>
bO (apick v4 (.lit (.bool true)) v10) fun v11 =>
bB v11 fun t12 => bI t12 (
bP (PCall Try.prog 3 [] H1) fun v13 =>
K v13 H1)
 (bO (abI .rem a1 (.lit (.int .u16 600))) fun v14 =>
bO (acI .i64 v14) fun v15 =>
bO (abI .rem a2 (.lit (.int .u16 300))) fun v16 =>
bO (acI .i64 v16) fun v17 =>
bO (abI .add v17 (.lit (.int .i64 1))) fun v18 =>
bO (ald true 2 H1 v0) fun v19 =>
bP (PCall Try.prog 28 [v19, v15, v18] H1) fun v20 =>
bO (aextract v20 0) fun v21 =>
bO (aextract v20 1) fun v22 =>
bH (anew H1 (.agg [(.lit (.int .i64 0)), (.lit (.slice none 0 0))])) fun v23 H24 =>
bS (ast 2 H24 v23 v21) fun H25 =>
bO (aun .not v22) fun v26 =>
bG v26 false fun w27 =>
gO w27 (ashift 0 v23) fun v28 =>
bG v26 false fun w29 =>
gO w29 (ald false 1 H25 v28) fun v30 =>
bG v26 false fun w31 =>
gO w31 (ashift 0 v0) fun v32 =>
bG v26 false fun w33 =>
gO w33 (ald false 1 H25 v32) fun v34 =>
bG v26 false fun w35 =>
gO w35 (abI .neq v30 v34) fun v36 =>
bO (apick v26 (.lit (.bool true)) v36) fun v37 =>
bG v37 false fun w38 =>
gO w38 (ald true 2 H25 v23) fun v39 =>
bG v37 false fun w40 =>
gP w40 (PCall Try.prog 16 [v39] H25) fun v41 =>
bG v37 false fun w42 =>
gO w42 (aun .not v41) fun v43 =>
bO (apick v37 (.lit (.bool true)) v43) fun v44 =>
bB v44 fun t45 => bI t45 (
K (.lit (.bool false)) H25)
 (bO (ald true 2 H25 v0) fun v46 =>
bP (PCall Try.prog 20 [v46, a3] H25) fun v47 =>
bO (abI .geq v47 (.lit (.int .i64 0))) fun v48 =>
bG v48 true fun w49 =>
gO w49 (some a3) fun v50 =>
bG v48 true fun w51 =>
gO w51 (some v15) fun v52 =>
bG v48 true fun w53 =>
gO w53 (abI .geq v50 v52) fun v54 =>
bO (apick v48 v54 (.lit (.bool false))) fun v55 =>
bG v55 true fun w56 =>
gO w56 (some a3) fun v57 =>
bG v55 true fun w58 =>
gO w58 (some v15) fun v59 =>
bG v55 true fun w60 =>
gO w60 (some v18) fun v61 =>
bG v55 true fun w62 =>
gO w62 (abI .add v59 v61) fun v63 =>
bG v55 true fun w64 =>
gO w64 (abI .lss v57 v63) fun v65 =>
bO (apick v55 v65 (.lit (.bool false))) fun v66 =>
bB v66 fun t67 => bI t67 (
salvorlaw11_ExtentPunched_J10 a3 v0 v15 v18 v23 (.lit (.int .i64 0)) H25 K)
 (salvorlaw11_ExtentPunched_J10 a3 v0 v15 v18 v23 v47 H25 K)))
theorem salvorlaw11_ExtentPunched_eq (a0 a1 a2 a3 : AV) (H : AH) (K : AV → AH → Prop) : sFun Try.prog salvorlaw11_ExtentPunched_fl pql none0 none0 salvorlaw11_ExtentPunched_kp Try.f10 [a0, a1, a2, a3] H K = salvorlaw11_ExtentPunched a0 a1 a2 a3 H K := by kernel_rfl
theorem salvorlaw11_ExtentPunched_ok {a0 a1 a2 a3 : AV} {H : AH} {K : AV → AH → Prop} (h : salvorlaw11_ExtentPunched a0 a1 a2 a3 H K) : ∃ r H', K r H' ∧ BCall Try.prog 10 [a0, a1, a2, a3] H r H' :=
  sFun_ok mixP Try.func10 (by kernel_rfl) (Eq.mpr (salvorlaw11_ExtentPunched_eq a0 a1 a2 a3 H K) h)
/-! salvor/salvorlaw11.ExtentChanges -/
def salvorlaw11_ExtentChanges_fl : Floats := flOf []
def salvorlaw11_ExtentChanges_kp : Nat → Option (List Bool) := kpOf []
def salvorlaw11_ExtentChanges_c (p : List Bool) (n : Nat) : List AV → AH → Kf → Prop := sCode Try.prog salvorlaw11_ExtentChanges_fl pql none0 none0 salvorlaw11_ExtentChanges_kp (sub p (bodyOf Try.f11)) n
def salvorlaw11_ExtentChanges (a0 a1 a2 a3 a4 : AV) (H : AH) (K : AV → AH → Prop) : Prop :=
bH (anew H a0) fun v0 H1 =>
bO (ald true 2 H1 v0) fun v2 =>
bP (PCall Try.prog 17 [v2] H1) fun v3 =>
bO (aun .not v3) fun v4 =>
bG v4 false fun w5 =>
gO w5 (some a2) fun v6 =>
bG v4 false fun w7 =>
gO w7 (abI .gtr v6 (.lit (.int .i64 400))) fun v8 =>
bG v4 false fun w9 =>
gO w9 (some v8) fun v10 =>
bG v10 true fun w11 =>
gO w11 (some a2) fun v12 =>
bG v10 true fun w13 =>
gO w13 (abI .leq v12 (.lit (.int .i64 32768))) fun v14 =>
bG v4 false fun w15 =>
gO w15 (apick v10 v14 (.lit (.bool false))) fun v16 =>
bO (apick v4 (.lit (.bool true)) v16) fun v17 =>
bB v17 fun t18 => bI t18 (
bP (PCall Try.prog 3 [] H1) fun v19 =>
K v19 H1)
 (bO (ald true 2 H1 v0) fun v20 =>
bP (PCall Try.prog 27 [v20, a3] H1) fun v21 =>
bO (aextract v21 0) fun v22 =>
bO (aextract v21 1) fun v23 =>
bH (anew H1 (.agg [(.lit (.int .i64 0)), (.lit (.slice none 0 0))])) fun v24 H25 =>
bS (ast 2 H25 v24 v22) fun H26 =>
bO (ald true 2 H26 v0) fun v27 =>
bP (PCall Try.prog 29 [v27, a3] H26) fun v28 =>
bO (aextract v28 0) fun v29 =>
bO (aextract v28 1) fun v30 =>
bH (anew H26 (.agg [(.lit (.int .i64 0)), (.lit (.slice none 0 0))])) fun v31 H32 =>
bS (ast 2 H32 v31 v29) fun H33 =>
bO (ald true 2 H33 v0) fun v34 =>
bP (PCall Try.prog 26 [v34, a1, a2, a4] H33) fun v35 =>
bO (aextract v35 0) fun v36 =>
bO (aextract v35 1) fun v37 =>
bH (anew H33 (.agg [(.lit (.int .i64 0)), (.lit (.slice none 0 0))])) fun v38 H39 =>
bS (ast 2 H39 v38 v36) fun H40 =>
bO (ald true 2 H40 v0) fun v41 =>
bP (PCall Try.prog 30 [v41, a1, a2, a4] H40) fun v42 =>
bO (aextract v42 0) fun v43 =>
bO (aextract v42 1) fun v44 =>
bH (anew H40 (.agg [(.lit (.int .i64 0)), (.lit (.slice none 0 0))])) fun v45 H46 =>
bS (ast 2 H46 v45 v43) fun H47 =>
bO (ald true 2 H47 v0) fun v48 =>
bP (PCall Try.prog 28 [v48, a1, a2] H47) fun v49 =>
bO (aextract v49 0) fun v50 =>
bO (aextract v49 1) fun v51 =>
bH (anew H47 (.agg [(.lit (.int .i64 0)), (.lit (.slice none 0 0))])) fun v52 H53 =>
bS (ast 2 H53 v52 v50) fun H54 =>
bO (ald true 2 H54 v0) fun v55 =>
bP (PCall Try.prog 31 [v55, a1, a2] H54) fun v56 =>
bO (aextract v56 0) fun v57 =>
bO (aextract v56 1) fun v58 =>
bH (anew H54 (.agg [(.lit (.int .i64 0)), (.lit (.slice none 0 0))])) fun v59 H60 =>
bS (ast 2 H60 v59 v57) fun H61 =>
bO (ald true 2 H61 v24) fun v62 =>
bO (ald true 2 H61 v31) fun v63 =>
bP (PCall Try.prog 19 [v62, v63] H61) fun v64 =>
bG v64 true fun w65 =>
gO w65 (some v23) fun v66 =>
bG v64 true fun w67 =>
gO w67 (some v30) fun v68 =>
bG v64 true fun w69 =>
gO w69 (abB .eql v66 v68) fun v70 =>
bO (apick v64 v70 (.lit (.bool false))) fun v71 =>
bG v71 true fun w72 =>
gO w72 (ald true 2 H61 v38) fun v73 =>
bG v71 true fun w74 =>
gO w74 (ald true 2 H61 v45) fun v75 =>
bG v71 true fun w76 =>
gP w76 (PCall Try.prog 19 [v73, v75] H61) fun v77 =>
bO (apick v71 v77 (.lit (.bool false))) fun v78 =>
bG v78 true fun w79 =>
gO w79 (some v37) fun v80 =>
bG v78 true fun w81 =>
gO w81 (some v44) fun v82 =>
bG v78 true fun w83 =>
gO w83 (abB .eql v80 v82) fun v84 =>
bO (apick v78 v84 (.lit (.bool false))) fun v85 =>
bG v85 true fun w86 =>
gO w86 (ald true 2 H61 v52) fun v87 =>
bG v85 true fun w88 =>
gO w88 (ald true 2 H61 v59) fun v89 =>
bG v85 true fun w90 =>
gP w90 (PCall Try.prog 19 [v87, v89] H61) fun v91 =>
bO (apick v85 v91 (.lit (.bool false))) fun v92 =>
bG v92 true fun w93 =>
gO w93 (some v51) fun v94 =>
bG v92 true fun w95 =>
gO w95 (some v58) fun v96 =>
bG v92 true fun w97 =>
gO w97 (abB .eql v94 v96) fun v98 =>
bO (apick v92 v98 (.lit (.bool false))) fun v99 =>
bG v99 true fun w100 =>
gP w100 (PCall Try.prog 3 [] H61) fun v101 =>
bO (apick v99 v101 (.lit (.bool false))) fun v102 =>
K v102 H61)
theorem salvorlaw11_ExtentChanges_eq (a0 a1 a2 a3 a4 : AV) (H : AH) (K : AV → AH → Prop) : sFun Try.prog salvorlaw11_ExtentChanges_fl pql none0 none0 salvorlaw11_ExtentChanges_kp Try.f11 [a0, a1, a2, a3, a4] H K = salvorlaw11_ExtentChanges a0 a1 a2 a3 a4 H K := by kernel_rfl
theorem salvorlaw11_ExtentChanges_ok {a0 a1 a2 a3 a4 : AV} {H : AH} {K : AV → AH → Prop} (h : salvorlaw11_ExtentChanges a0 a1 a2 a3 a4 H K) : ∃ r H', K r H' ∧ BCall Try.prog 11 [a0, a1, a2, a3, a4] H r H' :=
  sFun_ok mixP Try.func11 (by kernel_rfl) (Eq.mpr (salvorlaw11_ExtentChanges_eq a0 a1 a2 a3 a4 H K) h)
/-! salvor/extent.Write -/
def extent_Write_fl : Floats := flOf []
def extent_Write_kp : Nat → Option (List Bool) := kpOf [(10, mk 75 0 [1, 2, 3, 6, 33, 34, 35])]
def extent_Write_c (p : List Bool) (n : Nat) : List AV → AH → Kf → Prop := sCode Try.prog extent_Write_fl pql none0 none0 extent_Write_kp (sub p (bodyOf Try.f12)) n
def extent_Write_L10 (x1 x2 x3 x6 x33 x34 x35 : AV) (H : AH) (K : AV → AH → Prop) : Prop := lp (mk 75 0 [1, 2, 3, 6, 33, 34, 35]) (extent_Write_c [true, true, true, true, false, true, false, false] 11) [x1, x2, x3, x6, x33, x34, x35] H (kBlk 0 (kSeq (extent_Write_c [true, true, true, true, true] 17) (kRet Try.prog Try.f12.results.toList K)))
def extent_Write_L10_b (R10 : List AV → AH → Prop) (x1 x2 x3 x6 x33 x34 x35 : AV) (H : AH) (K : AV → AH → Prop) : Prop :=
bO (abI .lss x35 x34) fun v0 =>
bB v0 fun t1 => bI t1 (
bO (aixS 2 x33 x35) fun v2 =>
bO (ald true 2 H v2) fun v3 =>
bH (anew H (.agg [(.lit (.int .i64 0)), (.lit (.int .i64 0))])) fun v4 H5 =>
bS (ast 2 H5 v4 v3) fun H6 =>
bO (ashift 0 v4) fun v7 =>
bO (ald false 1 H6 v7) fun v8 =>
bO (abI .quo v8 (.lit (.int .i64 8))) fun v9 =>
bC (BCall Try.prog 35 [x3, v9] H6) fun v10 H11 =>
bO (ashift 1 x3) fun v12 =>
bO (ald false 1 H11 v12) fun v13 =>
bO (aixS 9 v13 v10) fun v14 =>
bO (ashift 1 v14) fun v15 =>
bO (ashift 0 v4) fun v16 =>
bO (ald false 1 H11 v16) fun v17 =>
bO (abI .mul v9 (.lit (.int .i64 8))) fun v18 =>
bO (abI .sub v17 v18) fun v19 =>
bO (aslA 8 1 H11 v15 (some v19) none) fun v20 =>
bO (ashift 0 v4) fun v21 =>
bO (ald false 1 H11 v21) fun v22 =>
bO (abI .sub v22 x1) fun v23 =>
bO (aslS 1 x2 (some v23) none none) fun v24 =>
bO (ashift 1 v4) fun v25 =>
bO (ald false 1 H11 v25) fun v26 =>
bO (aslS 1 v24 none (some v26) none) fun v27 =>
bH (acp 1 H11 v20 v27) fun v28 H29 =>
bO (abI .add x35 (.lit (.int .i64 1))) fun v30 =>
R10 [x1, x2, x3, x6, x33, x34, v30] H29)
 (bO (ashift 0 x3) fun v31 =>
bO (ald false 1 H v31) fun v32 =>
bO (alnS x2) fun v33 =>
bO (abI .add x1 v33) fun v34 =>
bO (amm imx [v32, v34]) fun v35 =>
bO (ashift 0 x3) fun v36 =>
bS (ast 1 H v36 v35) fun H37 =>
bO (ald true 2 H37 x3) fun v38 =>
bS (ast 2 H37 x6 v38) fun H39 =>
bO (ald true 2 H39 x6) fun v40 =>
K (.tup [v40, (.lit (.bool true))]) H39)
theorem extent_Write_L10_eq (R10 : List AV → AH → Prop) (x1 x2 x3 x6 x33 x34 x35 : AV) (H : AH) (K : AV → AH → Prop) : extent_Write_c [true, true, true, true, false, true, false, false] 11 (expand (mk 75 0 [1, 2, 3, 6, 33, 34, 35]) [x1, x2, x3, x6, x33, x34, x35]) H (kLp (mk 75 0 [1, 2, 3, 6, 33, 34, 35]) R10 (kBlk 0 (kSeq (extent_Write_c [true, true, true, true, true] 17) (kRet Try.prog Try.f12.results.toList K)))) = extent_Write_L10_b R10 x1 x2 x3 x6 x33 x34 x35 H K := by kernel_rfl
theorem extent_Write_L10_rule {K : AV → AH → Prop} (I : Nat → AV → AV → AV → AV → AV → AV → AV → AH → Prop) (round : ∀ (n : Nat) (x1 x2 x3 x6 x33 x34 x35 : AV) (H : AH) (R : List AV → AH → Prop), (∀ (m : Nat) (y1 y2 y3 y6 y33 y34 y35 : AV) (H' : AH), m < n → I m y1 y2 y3 y6 y33 y34 y35 H' → R [y1, y2, y3, y6, y33, y34, y35] H') → I n x1 x2 x3 x6 x33 x34 x35 H → extent_Write_L10_b R x1 x2 x3 x6 x33 x34 x35 H K) (n : Nat) {x1 x2 x3 x6 x33 x34 x35 : AV} {H : AH} (h : I n x1 x2 x3 x6 x33 x34 x35 H) : extent_Write_L10 x1 x2 x3 x6 x33 x34 x35 H K := by
  refine lp_upto (sCode_one _ _) (LI7 I) ?_ n h
  intro n X H h
  obtain ⟨x1, x2, x3, x6, x33, x34, x35, rfl, h⟩ := h.elim
  exact Eq.mpr (extent_Write_L10_eq _ x1 x2 x3 x6 x33 x34 x35 H K) (round n x1 x2 x3 x6 x33 x34 x35 H (fun X H' => ∃ m, m < n ∧ LI7 I m X H') (fun m y1 y2 y3 y6 y33 y34 y35 H' hm hi => ⟨m, hm, hi⟩) h)
def extent_Write (a0 a1 a2 : AV) (H : AH) (K : AV → AH → Prop) : Prop :=
bH (anew H a0) fun v0 H1 =>
bH (anew H1 (.agg [(.lit (.int .i64 0)), (.lit (.slice none 0 0))])) fun v2 H3 =>
bO (ald true 2 H3 v0) fun v4 =>
bP (PCall Try.prog 16 [v4] H3) fun v5 =>
bO (aun .not v5) fun v6 =>
bG v6 false fun w7 =>
gO w7 (some a1) fun v8 =>
bG v6 false fun w9 =>
gO w9 (some a2) fun v10 =>
bG v6 false fun w11 =>
gO w11 (alnS v10) fun v12 =>
bG v6 false fun w13 =>
gP w13 (PCall Try.prog 32 [v8, v12] H3) fun v14 =>
bG v6 false fun w15 =>
gO w15 (aun .not v14) fun v16 =>
bO (apick v6 (.lit (.bool true)) v16) fun v17 =>
bB v17 fun t18 => bI t18 (
bO (abl [(.lit (.int .i64 0)), (.lit (.slice none 0 0))] []) fun v19 =>
bS (ast 2 H3 v2 v19) fun H20 =>
bO (ald true 2 H20 v2) fun v21 =>
K (.tup [v21, (.lit (.bool false))]) H20)
 (bO (ald true 2 H3 v0) fun v22 =>
bC (BCall Try.prog 33 [v22] H3) fun v23 H24 =>
bS (ast 2 H24 v0 v23) fun H25 =>
bO (alnS a2) fun v26 =>
bO (abI .eql v26 (.lit (.int .i64 0))) fun v27 =>
bB v27 fun t28 => bI t28 (
bO (ald true 2 H25 v0) fun v29 =>
bS (ast 2 H25 v2 v29) fun H30 =>
bO (ald true 2 H30 v2) fun v31 =>
K (.tup [v31, (.lit (.bool true))]) H30)
 (bO (alnS a2) fun v32 =>
bO (abl [(.lit (.int .i64 0)), (.lit (.int .i64 0))] [(0, 1, a1), (1, 1, v32)]) fun v33 =>
bP (PCall Try.prog 34 [v33, (.lit (.int .i64 8))] H25) fun v34 =>
bO (alnS v34) fun v35 =>
extent_Write_L10 a1 a2 v0 v2 v34 v35 (.lit (.int .i64 0)) H25 K))
theorem extent_Write_eq (a0 a1 a2 : AV) (H : AH) (K : AV → AH → Prop) : sFun Try.prog extent_Write_fl pql none0 none0 extent_Write_kp Try.f12 [a0, a1, a2] H K = extent_Write a0 a1 a2 H K := by kernel_rfl
theorem extent_Write_ok {a0 a1 a2 : AV} {H : AH} {K : AV → AH → Prop} (h : extent_Write a0 a1 a2 H K) : ∃ r H', K r H' ∧ BCall Try.prog 12 [a0, a1, a2] H r H' :=
  sFun_ok mixP Try.func12 (by kernel_rfl) (Eq.mpr (extent_Write_eq a0 a1 a2 H K) h)
/-! salvor/extent.Data -/
def extent_Data_fl : Floats := flOf []
def extent_Data_kp : Nat → Option (List Bool) := kpOf [(6, mk 39 0 [1, 2, 17, 18, 19])]
def extent_Data_c (p : List Bool) (n : Nat) : List AV → AH → Kf → Prop := sCode Try.prog extent_Data_fl pql none0 none0 extent_Data_kp (sub p (bodyOf Try.f13)) n
def extent_Data_L6 (x1 x2 x17 x18 x19 : AV) (H : AH) (K : AV → AH → Prop) : Prop := lp (mk 39 0 [1, 2, 17, 18, 19]) (extent_Data_c [true, true, false, true, false, false] 7) [x1, x2, x17, x18, x19] H (kBlk 0 (kSeq (extent_Data_c [true, true, true] 14) (kRet Try.prog Try.f13.results.toList K)))
def extent_Data_L6_b (R6 : List AV → AH → Prop) (x1 x2 x17 x18 x19 : AV) (H : AH) (K : AV → AH → Prop) : Prop :=
bO (abI .lss x19 x18) fun v0 =>
bB v0 fun t1 => bI t1 (
bO (aixS 9 x17 x19) fun v2 =>
bO (ald true 9 H v2) fun v3 =>
bH (anew H (.agg [(.lit (.int .i64 0)), (.lit (.int .u8 0)), (.lit (.int .u8 0)), (.lit (.int .u8 0)), (.lit (.int .u8 0)), (.lit (.int .u8 0)), (.lit (.int .u8 0)), (.lit (.int .u8 0)), (.lit (.int .u8 0))])) fun v4 H5 =>
bS (ast 9 H5 v4 v3) fun H6 =>
bO (ashift 0 v4) fun v7 =>
bO (ald false 1 H6 v7) fun v8 =>
bO (abI .mul v8 (.lit (.int .i64 8))) fun v9 =>
bO (amm imx [x1, v9]) fun v10 =>
bO (ashift 0 x2) fun v11 =>
bO (ald false 1 H6 v11) fun v12 =>
bO (ashift 0 v4) fun v13 =>
bO (ald false 1 H6 v13) fun v14 =>
bO (abI .add v14 (.lit (.int .i64 1))) fun v15 =>
bO (abI .mul v15 (.lit (.int .i64 8))) fun v16 =>
bO (amm imn [v12, v16]) fun v17 =>
bO (abI .lss v10 v17) fun v18 =>
bB v18 fun t19 => bI t19 (
K (.tup [v10, (.lit (.bool true))]) H6)
 (bO (abI .add x19 (.lit (.int .i64 1))) fun v20 =>
R6 [x1, x2, x17, x18, v20] H6))
 (K (.tup [(.lit (.int .i64 0)), (.lit (.bool false))]) H)
theorem extent_Data_L6_eq (R6 : List AV → AH → Prop) (x1 x2 x17 x18 x19 : AV) (H : AH) (K : AV → AH → Prop) : extent_Data_c [true, true, false, true, false, false] 7 (expand (mk 39 0 [1, 2, 17, 18, 19]) [x1, x2, x17, x18, x19]) H (kLp (mk 39 0 [1, 2, 17, 18, 19]) R6 (kBlk 0 (kSeq (extent_Data_c [true, true, true] 14) (kRet Try.prog Try.f13.results.toList K)))) = extent_Data_L6_b R6 x1 x2 x17 x18 x19 H K := by kernel_rfl
theorem extent_Data_L6_rule {K : AV → AH → Prop} (I : Nat → AV → AV → AV → AV → AV → AH → Prop) (round : ∀ (n : Nat) (x1 x2 x17 x18 x19 : AV) (H : AH) (R : List AV → AH → Prop), (∀ (m : Nat) (y1 y2 y17 y18 y19 : AV) (H' : AH), m < n → I m y1 y2 y17 y18 y19 H' → R [y1, y2, y17, y18, y19] H') → I n x1 x2 x17 x18 x19 H → extent_Data_L6_b R x1 x2 x17 x18 x19 H K) (n : Nat) {x1 x2 x17 x18 x19 : AV} {H : AH} (h : I n x1 x2 x17 x18 x19 H) : extent_Data_L6 x1 x2 x17 x18 x19 H K := by
  refine lp_upto (sCode_one _ _) (LI5 I) ?_ n h
  intro n X H h
  obtain ⟨x1, x2, x17, x18, x19, rfl, h⟩ := h.elim
  exact Eq.mpr (extent_Data_L6_eq _ x1 x2 x17 x18 x19 H K) (round n x1 x2 x17 x18 x19 H (fun X H' => ∃ m, m < n ∧ LI5 I m X H') (fun m y1 y2 y17 y18 y19 H' hm hi => ⟨m, hm, hi⟩) h)
def extent_Data (a0 a1 : AV) (H : AH) (K : AV → AH → Prop) : Prop :=
bH (anew H a0) fun v0 H1 =>
bO (ald true 2 H1 v0) fun v2 =>
bP (PCall Try.prog 16 [v2] H1) fun v3 =>
bO (aun .not v3) fun v4 =>
bG v4 false fun w5 =>
gO w5 (some a1) fun v6 =>
bG v4 false fun w7 =>
gO w7 (abI .lss v6 (.lit (.int .i64 0))) fun v8 =>
bO (apick v4 (.lit (.bool true)) v8) fun v9 =>
bB v9 fun t10 => bI t10 (
K (.tup [(.lit (.int .i64 0)), (.lit (.bool false))]) H1)
 (bO (ashift 1 v0) fun v11 =>
bO (ald false 1 H1 v11) fun v12 =>
bO (alnS v12) fun v13 =>
extent_Data_L6 a1 v0 v12 v13 (.lit (.int .i64 0)) H1 K)
theorem extent_Data_eq (a0 a1 : AV) (H : AH) (K : AV → AH → Prop) : sFun Try.prog extent_Data_fl pql none0 none0 extent_Data_kp Try.f13 [a0, a1] H K = extent_Data a0 a1 H K := by kernel_rfl
theorem extent_Data_ok {a0 a1 : AV} {H : AH} {K : AV → AH → Prop} (h : extent_Data a0 a1 H K) : ∃ r H', K r H' ∧ BCall Try.prog 13 [a0, a1] H r H' :=
  sFun_ok mixP Try.func13 (by kernel_rfl) (Eq.mpr (extent_Data_eq a0 a1 H K) h)
/-! salvor/extent.Hole -/
def extent_Hole_fl : Floats := flOf []
def extent_Hole_kp : Nat → Option (List Bool) := kpOf [(6, mk 44 0 [2, 6])]
def extent_Hole_c (p : List Bool) (n : Nat) : List AV → AH → Kf → Prop := sCode Try.prog extent_Hole_fl pql none0 none0 extent_Hole_kp (sub p (bodyOf Try.f14)) n
def extent_Hole_L6 (x2 x6 : AV) (H : AH) (K : AV → AH → Prop) : Prop := lp (mk 44 0 [2, 6]) (extent_Hole_c [true, true, false, true, false, false] 7) [x2, x6] H (kBlk 0 (kSeq (extent_Hole_c [true, true, true] 13) (kRet Try.prog Try.f14.results.toList K)))
def extent_Hole_L6_b (R6 : List AV → AH → Prop) (x2 x6 : AV) (H : AH) (K : AV → AH → Prop) : Prop :=
bO (ashift 0 x2) fun v0 =>
bO (ald false 1 H v0) fun v1 =>
bO (abI .lss x6 v1) fun v2 =>
bB v2 fun t3 => bI t3 (
bO (ashift 1 x2) fun v4 =>
bO (ald false 1 H v4) fun v5 =>
bO (abI .quo x6 (.lit (.int .i64 8))) fun v6 =>
bP (PCall Try.prog 36 [v5, v6] H) fun v7 =>
bO (aextract v7 0) fun v8 =>
bO (aextract v7 1) fun v9 =>
bO (aun .not v9) fun v10 =>
bB v10 fun t11 => bI t11 (
K (.tup [x6, (.lit (.bool true))]) H)
 (bO (abI .quo x6 (.lit (.int .i64 8))) fun v12 =>
bO (abI .add v12 (.lit (.int .i64 1))) fun v13 =>
bO (abI .mul v13 (.lit (.int .i64 8))) fun v14 =>
R6 [x2, v14] H))
 (bO (ashift 0 x2) fun v15 =>
bO (ald false 1 H v15) fun v16 =>
K (.tup [v16, (.lit (.bool true))]) H)
theorem extent_Hole_L6_eq (R6 : List AV → AH → Prop) (x2 x6 : AV) (H : AH) (K : AV → AH → Prop) : extent_Hole_c [true, true, false, true, false, false] 7 (expand (mk 44 0 [2, 6]) [x2, x6]) H (kLp (mk 44 0 [2, 6]) R6 (kBlk 0 (kSeq (extent_Hole_c [true, true, true] 13) (kRet Try.prog Try.f14.results.toList K)))) = extent_Hole_L6_b R6 x2 x6 H K := by kernel_rfl
theorem extent_Hole_L6_rule {K : AV → AH → Prop} (I : Nat → AV → AV → AH → Prop) (round : ∀ (n : Nat) (x2 x6 : AV) (H : AH) (R : List AV → AH → Prop), (∀ (m : Nat) (y2 y6 : AV) (H' : AH), m < n → I m y2 y6 H' → R [y2, y6] H') → I n x2 x6 H → extent_Hole_L6_b R x2 x6 H K) (n : Nat) {x2 x6 : AV} {H : AH} (h : I n x2 x6 H) : extent_Hole_L6 x2 x6 H K := by
  refine lp_upto (sCode_one _ _) (LI2 I) ?_ n h
  intro n X H h
  obtain ⟨x2, x6, rfl, h⟩ := h.elim
  exact Eq.mpr (extent_Hole_L6_eq _ x2 x6 H K) (round n x2 x6 H (fun X H' => ∃ m, m < n ∧ LI2 I m X H') (fun m y2 y6 H' hm hi => ⟨m, hm, hi⟩) h)
def extent_Hole (a0 a1 : AV) (H : AH) (K : AV → AH → Prop) : Prop :=
bH (anew H a0) fun v0 H1 =>
bO (ald true 2 H1 v0) fun v2 =>
bP (PCall Try.prog 16 [v2] H1) fun v3 =>
bO (aun .not v3) fun v4 =>
bG v4 false fun w5 =>
gO w5 (some a1) fun v6 =>
bG v4 false fun w7 =>
gO w7 (abI .lss v6 (.lit (.int .i64 0))) fun v8 =>
bO (apick v4 (.lit (.bool true)) v8) fun v9 =>
bG v9 false fun w10 =>
gO w10 (some a1) fun v11 =>
bG v9 false fun w12 =>
gO w12 (ashift 0 v0) fun v13 =>
bG v9 false fun w14 =>
gO w14 (ald false 1 H1 v13) fun v15 =>
bG v9 false fun w16 =>
gO w16 (abI .geq v11 v15) fun v17 =>
bO (apick v9 (.lit (.bool true)) v17) fun v18 =>
bB v18 fun t19 => bI t19 (
K (.tup [(.lit (.int .i64 0)), (.lit (.bool false))]) H1)
 (extent_Hole_L6 v0 a1 H1 K)
theorem extent_Hole_eq (a0 a1 : AV) (H : AH) (K : AV → AH → Prop) : sFun Try.prog extent_Hole_fl pql none0 none0 extent_Hole_kp Try.f14 [a0, a1] H K = extent_Hole a0 a1 H K := by kernel_rfl
theorem extent_Hole_ok {a0 a1 : AV} {H : AH} {K : AV → AH → Prop} (h : extent_Hole a0 a1 H K) : ∃ r H', K r H' ∧ BCall Try.prog 14 [a0, a1] H r H' :=
  sFun_ok mixP Try.func14 (by kernel_rfl) (Eq.mpr (extent_Hole_eq a0 a1 H K) h)
/-! salvor/extent.Read -/
def extent_Read_fl : Floats := flOf []
def extent_Read_kp : Nat → Option (List Bool) := kpOf [(11, mk 77 0 [1, 2, 7, 41, 42, 43]), (8, mk 77 0 [1, 2, 7, 41, 42, 43])]
def extent_Read_c (p : List Bool) (n : Nat) : List AV → AH → Kf → Prop := sCode Try.prog extent_Read_fl pql none0 none0 extent_Read_kp (sub p (bodyOf Try.f15)) n
def extent_Read_J11 (R8 : List AV → AH → Prop) (x1 x2 x7 x41 x42 x43 : AV) (H : AH) (K : AV → AH → Prop) : Prop := jn (mk 77 0 [1, 2, 7, 41, 42, 43]) (extent_Read_c [true, true, true, true, false, true, false, false, true, true, true] 15) [x1, x2, x7, x41, x42, x43] H (kLp (mk 77 0 [1, 2, 7, 41, 42, 43]) R8 (kBlk 0 (kSeq (extent_Read_c [true, true, true, true, true] 15) (kRet Try.prog Try.f15.results.toList K))))
def extent_Read_L8 (x1 x2 x7 x41 x42 x43 : AV) (H : AH) (K : AV → AH → Prop) : Prop := lp (mk 77 0 [1, 2, 7, 41, 42, 43]) (extent_Read_c [true, true, true, true, false, true, false, false] 9) [x1, x2, x7, x41, x42, x43] H (kBlk 0 (kSeq (extent_Read_c [true, true, true, true, true] 15) (kRet Try.prog Try.f15.results.toList K)))
def extent_Read_J11_b (R8 : List AV → AH → Prop) (x1 x2 x7 x41 x42 x43 : AV) (H : AH) (K : AV → AH → Prop) : Prop :=
bO (abI .add x43 (.lit (.int .i64 1))) fun v0 =>
R8 [x1, x2, x7, x41, x42, v0] H
theorem extent_Read_J11_eq0 (R8 : List AV → AH → Prop) (x1 x2 x7 x41 x42 x43 : AV) (H : AH) (K : AV → AH → Prop) : extent_Read_c [true, true, true, true, false, true, false, false, true, true, true] 15 (expand (mk 77 0 [1, 2, 7, 41, 42, 43]) [x1, x2, x7, x41, x42, x43]) H (kLp (mk 77 0 [1, 2, 7, 41, 42, 43]) R8 (kBlk 0 (kSeq (extent_Read_c [true, true, true, true, true] 15) (kRet Try.prog Try.f15.results.toList K)))) = extent_Read_J11_b R8 x1 x2 x7 x41 x42 x43 H K := by kernel_rfl
theorem extent_Read_J11_eq (R8 : List AV → AH → Prop) (x1 x2 x7 x41 x42 x43 : AV) (H : AH) (K : AV → AH → Prop) : extent_Read_J11 R8 x1 x2 x7 x41 x42 x43 H K = extent_Read_J11_b R8 x1 x2 x7 x41 x42 x43 H K := (jn_eq _ _ _ _ _).trans (extent_Read_J11_eq0 R8 x1 x2 x7 x41 x42 x43 H K)
def extent_Read_L8_b (R8 : List AV → AH → Prop) (x1 x2 x7 x41 x42 x43 : AV) (H : AH) (K : AV → AH → Prop) : Prop :=
bO (abI .lss x43 x42) fun v0 =>
bB v0 fun t1 => bI t1 (
bO (aixS 9 x41 x43) fun v2 =>
bO (ald true 9 H v2) fun v3 =>
bH (anew H (.agg [(.lit (.int .i64 0)), (.lit (.int .u8 0)), (.lit (.int .u8 0)), (.lit (.int .u8 0)), (.lit (.int .u8 0)), (.lit (.int .u8 0)), (.lit (.int .u8 0)), (.lit (.int .u8 0)), (.lit (.int .u8 0))])) fun v4 H5 =>
bS (ast 9 H5 v4 v3) fun H6 =>
bO (ashift 0 v4) fun v7 =>
bO (ald false 1 H6 v7) fun v8 =>
bP (PCall Try.prog 38 [v8] H6) fun v9 =>
bO (abl [(.lit (.int .i64 0)), (.lit (.int .i64 0))] [(0, 1, x1), (1, 1, x2)]) fun v10 =>
bP (PCall Try.prog 37 [v9, v10] H6) fun v11 =>
bH (anew H6 (.agg [(.lit (.int .i64 0)), (.lit (.int .i64 0))])) fun v12 H13 =>
bS (ast 2 H13 v12 v11) fun H14 =>
bO (ashift 1 v12) fun v15 =>
bO (ald false 1 H14 v15) fun v16 =>
bO (abI .gtr v16 (.lit (.int .i64 0))) fun v17 =>
bB v17 fun t18 => bI t18 (
bO (ashift 0 v12) fun v19 =>
bO (ald false 1 H14 v19) fun v20 =>
bO (abI .sub v20 x1) fun v21 =>
bO (aslS 1 x7 (some v21) none none) fun v22 =>
bO (ashift 1 v4) fun v23 =>
bO (ashift 0 v12) fun v24 =>
bO (ald false 1 H14 v24) fun v25 =>
bO (ashift 0 v4) fun v26 =>
bO (ald false 1 H14 v26) fun v27 =>
bO (abI .mul v27 (.lit (.int .i64 8))) fun v28 =>
bO (abI .sub v25 v28) fun v29 =>
bO (aslA 8 1 H14 v23 (some v29) none) fun v30 =>
bO (ashift 1 v12) fun v31 =>
bO (ald false 1 H14 v31) fun v32 =>
bO (aslS 1 v30 none (some v32) none) fun v33 =>
bH (acp 1 H14 v22 v33) fun v34 H35 =>
extent_Read_J11 R8 x1 x2 x7 x41 x42 x43 H35 K)
 (extent_Read_J11 R8 x1 x2 x7 x41 x42 x43 H14 K))
 (K x7 H)
theorem extent_Read_L8_eq (R8 : List AV → AH → Prop) (x1 x2 x7 x41 x42 x43 : AV) (H : AH) (K : AV → AH → Prop) : extent_Read_c [true, true, true, true, false, true, false, false] 9 (expand (mk 77 0 [1, 2, 7, 41, 42, 43]) [x1, x2, x7, x41, x42, x43]) H (kLp (mk 77 0 [1, 2, 7, 41, 42, 43]) R8 (kBlk 0 (kSeq (extent_Read_c [true, true, true, true, true] 15) (kRet Try.prog Try.f15.results.toList K)))) = extent_Read_L8_b R8 x1 x2 x7 x41 x42 x43 H K := by kernel_rfl
theorem extent_Read_L8_rule {K : AV → AH → Prop} (I : Nat → AV → AV → AV → AV → AV → AV → AH → Prop) (round : ∀ (n : Nat) (x1 x2 x7 x41 x42 x43 : AV) (H : AH) (R : List AV → AH → Prop), (∀ (m : Nat) (y1 y2 y7 y41 y42 y43 : AV) (H' : AH), m < n → I m y1 y2 y7 y41 y42 y43 H' → R [y1, y2, y7, y41, y42, y43] H') → I n x1 x2 x7 x41 x42 x43 H → extent_Read_L8_b R x1 x2 x7 x41 x42 x43 H K) (n : Nat) {x1 x2 x7 x41 x42 x43 : AV} {H : AH} (h : I n x1 x2 x7 x41 x42 x43 H) : extent_Read_L8 x1 x2 x7 x41 x42 x43 H K := by
  refine lp_upto (sCode_one _ _) (LI6 I) ?_ n h
  intro n X H h
  obtain ⟨x1, x2, x7, x41, x42, x43, rfl, h⟩ := h.elim
  exact Eq.mpr (extent_Read_L8_eq _ x1 x2 x7 x41 x42 x43 H K) (round n x1 x2 x7 x41 x42 x43 H (fun X H' => ∃ m, m < n ∧ LI6 I m X H') (fun m y1 y2 y7 y41 y42 y43 H' hm hi => ⟨m, hm, hi⟩) h)
def extent_Read (a0 a1 a2 : AV) (H : AH) (K : AV → AH → Prop) : Prop :=
bH (anew H a0) fun v0 H1 =>
bO (ald true 2 H1 v0) fun v2 =>
bP (PCall Try.prog 16 [v2] H1) fun v3 =>
bO (aun .not v3) fun v4 =>
bG v4 false fun w5 =>
gO w5 (some a1) fun v6 =>
bG v4 false fun w7 =>
gO w7 (abI .lss v6 (.lit (.int .i64 0))) fun v8 =>
bO (apick v4 (.lit (.bool true)) v8) fun v9 =>
bG v9 false fun w10 =>
gO w10 (some a2) fun v11 =>
bG v9 false fun w12 =>
gO w12 (abI .lss v11 (.lit (.int .i64 0))) fun v13 =>
bO (apick v9 (.lit (.bool true)) v13) fun v14 =>
bG v14 false fun w15 =>
gO w15 (some a2) fun v16 =>
bG v14 false fun w17 =>
gO w17 (abI .gtr v16 (.lit (.int .i64 4096))) fun v18 =>
bO (apick v14 (.lit (.bool true)) v18) fun v19 =>
bG v19 false fun w20 =>
gO w20 (some a1) fun v21 =>
bG v19 false fun w22 =>
gO w22 (ashift 0 v0) fun v23 =>
bG v19 false fun w24 =>
gO w24 (ald false 1 H1 v23) fun v25 =>
bG v19 false fun w26 =>
gO w26 (abI .geq v21 v25) fun v27 =>
bO (apick v19 (.lit (.bool true)) v27) fun v28 =>
bB v28 fun t29 => bI t29 (
K (.lit (.slice none 0 0)) H1)
 (bO (ashift 0 v0) fun v30 =>
bO (ald false 1 H1 v30) fun v31 =>
bO (abI .sub v31 a1) fun v32 =>
bO (amm imn [a2, v32]) fun v33 =>
bH (amk 1 1 [(.lit (.int .u8 0))] H1 v33 v33) fun v34 H35 =>
bO (ashift 1 v0) fun v36 =>
bO (ald false 1 H35 v36) fun v37 =>
bO (alnS v37) fun v38 =>
extent_Read_L8 a1 v33 v34 v37 v38 (.lit (.int .i64 0)) H35 K)
theorem extent_Read_eq (a0 a1 a2 : AV) (H : AH) (K : AV → AH → Prop) : sFun Try.prog extent_Read_fl pql none0 none0 extent_Read_kp Try.f15 [a0, a1, a2] H K = extent_Read a0 a1 a2 H K := by kernel_rfl
theorem extent_Read_ok {a0 a1 a2 : AV} {H : AH} {K : AV → AH → Prop} (h : extent_Read a0 a1 a2 H K) : ∃ r H', K r H' ∧ BCall Try.prog 15 [a0, a1, a2] H r H' :=
  sFun_ok mixP Try.func15 (by kernel_rfl) (Eq.mpr (extent_Read_eq a0 a1 a2 H K) h)
/-! salvor/extent.May -/
def extent_May_fl : Floats := flOf []
def extent_May_kp : Nat → Option (List Bool) := kpOf [(7, mk 40 0 [1, 3, 15, 16, 17])]
def extent_May_c (p : List Bool) (n : Nat) : List AV → AH → Kf → Prop := sCode Try.prog extent_May_fl pql none0 none0 extent_May_kp (sub p (bodyOf Try.f16)) n
def extent_May_L7 (x1 x3 x15 x16 x17 : AV) (H : AH) (K : AV → AH → Prop) : Prop := lp (mk 40 0 [1, 3, 15, 16, 17]) (extent_May_c [true, true, true, false, true, false, false] 8) [x1, x3, x15, x16, x17] H (kBlk 0 (kSeq (extent_May_c [true, true, true, true] 15) (kRet Try.prog Try.f16.results.toList K)))
def extent_May_L7_b (R7 : List AV → AH → Prop) (x1 x3 x15 x16 x17 : AV) (H : AH) (K : AV → AH → Prop) : Prop :=
bO (abI .lss x17 x16) fun v0 =>
bB v0 fun t1 => bI t1 (
bO (aixS 9 x15 x17) fun v2 =>
bO (ald true 9 H v2) fun v3 =>
bH (anew H (.agg [(.lit (.int .i64 0)), (.lit (.int .u8 0)), (.lit (.int .u8 0)), (.lit (.int .u8 0)), (.lit (.int .u8 0)), (.lit (.int .u8 0)), (.lit (.int .u8 0)), (.lit (.int .u8 0)), (.lit (.int .u8 0))])) fun v4 H5 =>
bS (ast 9 H5 v4 v3) fun H6 =>
bO (ashift 0 v4) fun v7 =>
bO (ald false 1 H6 v7) fun v8 =>
bO (abI .leq v8 x3) fun v9 =>
bG v9 false fun w10 =>
gO w10 (ashift 0 v4) fun v11 =>
bG v9 false fun w12 =>
gO w12 (ald false 1 H6 v11) fun v13 =>
bG v9 false fun w14 =>
gO w14 (abI .geq v13 (.lit (.int .i64 137438953472))) fun v15 =>
bO (apick v9 (.lit (.bool true)) v15) fun v16 =>
bG v16 false fun w17 =>
gO w17 (ald true 9 H6 v4) fun v18 =>
bG v16 false fun w19 =>
gO w19 (ashift 0 x1) fun v20 =>
bG v16 false fun w21 =>
gO w21 (ald false 1 H6 v20) fun v22 =>
bG v16 false fun w23 =>
gP w23 (PCall Try.prog 39 [v18, v22] H6) fun v24 =>
bG v16 false fun w25 =>
gO w25 (aun .not v24) fun v26 =>
bO (apick v16 (.lit (.bool true)) v26) fun v27 =>
bB v27 fun t28 => bI t28 (
K (.lit (.bool false)) H6)
 (bO (ashift 0 v4) fun v29 =>
bO (ald false 1 H6 v29) fun v30 =>
bO (abI .add x17 (.lit (.int .i64 1))) fun v31 =>
R7 [x1, v30, x15, x16, v31] H6))
 (K (.lit (.bool true)) H)
theorem extent_May_L7_eq (R7 : List AV → AH → Prop) (x1 x3 x15 x16 x17 : AV) (H : AH) (K : AV → AH → Prop) : extent_May_c [true, true, true, false, true, false, false] 8 (expand (mk 40 0 [1, 3, 15, 16, 17]) [x1, x3, x15, x16, x17]) H (kLp (mk 40 0 [1, 3, 15, 16, 17]) R7 (kBlk 0 (kSeq (extent_May_c [true, true, true, true] 15) (kRet Try.prog Try.f16.results.toList K)))) = extent_May_L7_b R7 x1 x3 x15 x16 x17 H K := by kernel_rfl
theorem extent_May_L7_rule {K : AV → AH → Prop} (I : Nat → AV → AV → AV → AV → AV → AH → Prop) (round : ∀ (n : Nat) (x1 x3 x15 x16 x17 : AV) (H : AH) (R : List AV → AH → Prop), (∀ (m : Nat) (y1 y3 y15 y16 y17 : AV) (H' : AH), m < n → I m y1 y3 y15 y16 y17 H' → R [y1, y3, y15, y16, y17] H') → I n x1 x3 x15 x16 x17 H → extent_May_L7_b R x1 x3 x15 x16 x17 H K) (n : Nat) {x1 x3 x15 x16 x17 : AV} {H : AH} (h : I n x1 x3 x15 x16 x17 H) : extent_May_L7 x1 x3 x15 x16 x17 H K := by
  refine lp_upto (sCode_one _ _) (LI5 I) ?_ n h
  intro n X H h
  obtain ⟨x1, x3, x15, x16, x17, rfl, h⟩ := h.elim
  exact Eq.mpr (extent_May_L7_eq _ x1 x3 x15 x16 x17 H K) (round n x1 x3 x15 x16 x17 H (fun X H' => ∃ m, m < n ∧ LI5 I m X H') (fun m y1 y3 y15 y16 y17 H' hm hi => ⟨m, hm, hi⟩) h)
def extent_May (a0 : AV) (H : AH) (K : AV → AH → Prop) : Prop :=
bH (anew H a0) fun v0 H1 =>
bO (ashift 0 v0) fun v2 =>
bO (ald false 1 H1 v2) fun v3 =>
bO (abI .lss v3 (.lit (.int .i64 0))) fun v4 =>
bG v4 false fun w5 =>
gO w5 (ashift 0 v0) fun v6 =>
bG v4 false fun w7 =>
gO w7 (ald false 1 H1 v6) fun v8 =>
bG v4 false fun w9 =>
gO w9 (abI .gtr v8 (.lit (.int .i64 1099511627776))) fun v10 =>
bO (apick v4 (.lit (.bool true)) v10) fun v11 =>
bB v11 fun t12 => bI t12 (
K (.lit (.bool false)) H1)
 (bO (ashift 1 v0) fun v13 =>
bO (ald false 1 H1 v13) fun v14 =>
bO (alnS v14) fun v15 =>
extent_May_L7 v0 (.lit (.int .i64 (-1))) v14 v15 (.lit (.int .i64 0)) H1 K)
theorem extent_May_eq (a0 : AV) (H : AH) (K : AV → AH → Prop) : sFun Try.prog extent_May_fl pql none0 none0 extent_May_kp Try.f16 [a0] H K = extent_May a0 H K := by kernel_rfl
theorem extent_May_ok {a0 : AV} {H : AH} {K : AV → AH → Prop} (h : extent_May a0 H K) : ∃ r H', K r H' ∧ BCall Try.prog 16 [a0] H r H' :=
  sFun_ok mixP Try.func16 (by kernel_rfl) (Eq.mpr (extent_May_eq a0 H K) h)
/-! salvor/salvorlaw11.Few -/
def salvorlaw11_Few_fl : Floats := flOf []
def salvorlaw11_Few_kp : Nat → Option (List Bool) := kpOf []
def salvorlaw11_Few_c (p : List Bool) (n : Nat) : List AV → AH → Kf → Prop := sCode Try.prog salvorlaw11_Few_fl pql none0 none0 salvorlaw11_Few_kp (sub p (bodyOf Try.f17)) n
def salvorlaw11_Few (a0 : AV) (H : AH) (K : AV → AH → Prop) : Prop :=
bH (anew H a0) fun v0 H1 =>
bO (ashift 1 v0) fun v2 =>
bO (ald false 1 H1 v2) fun v3 =>
bO (alnS v3) fun v4 =>
bO (abI .leq v4 (.lit (.int .i64 60))) fun v5 =>
K v5 H1
theorem salvorlaw11_Few_eq (a0 : AV) (H : AH) (K : AV → AH → Prop) : sFun Try.prog salvorlaw11_Few_fl pql none0 none0 salvorlaw11_Few_kp Try.f17 [a0] H K = salvorlaw11_Few a0 H K := by kernel_rfl
theorem salvorlaw11_Few_ok {a0 : AV} {H : AH} {K : AV → AH → Prop} (h : salvorlaw11_Few a0 H K) : ∃ r H', K r H' ∧ BCall Try.prog 17 [a0] H r H' :=
  sFun_ok mixP Try.func17 (by kernel_rfl) (Eq.mpr (salvorlaw11_Few_eq a0 H K) h)
/-! salvor/salvorref11.WriteContent -/
def salvorref11_WriteContent_fl : Floats := flOf []
def salvorref11_WriteContent_kp : Nat → Option (List Bool) := kpOf [(12, mk 69 0 [3, 6]), (7, mk 69 0 [1, 2, 3, 6, 8])]
def salvorref11_WriteContent_c (p : List Bool) (n : Nat) : List AV → AH → Kf → Prop := sCode Try.prog salvorref11_WriteContent_fl pql none0 none0 salvorref11_WriteContent_kp (sub p (bodyOf Try.f18)) n
def salvorref11_WriteContent_J12 (x3 x6 : AV) (H : AH) (K : AV → AH → Prop) : Prop := jn (mk 69 0 [3, 6]) (salvorref11_WriteContent_c [true, true, true, true, true] 14) [x3, x6] H (kRet Try.prog Try.f18.results.toList K)
def salvorref11_WriteContent_L7 (x1 x2 x3 x6 x8 : AV) (H : AH) (K : AV → AH → Prop) : Prop := lp (mk 69 0 [1, 2, 3, 6, 8]) (salvorref11_WriteContent_c [true, true, true, false, true, false, false] 8) [x1, x2, x3, x6, x8] H (kBlk 0 (kSeq (salvorref11_WriteContent_c [true, true, true, true] 12) (kRet Try.prog Try.f18.results.toList K)))
def salvorref11_WriteContent_J12_b (x3 x6 : AV) (H : AH) (K : AV → AH → Prop) : Prop :=
bO (ald true 2 H x3) fun v0 =>
bS (ast 2 H x6 v0) fun H1 =>
bO (ald true 2 H1 x6) fun v2 =>
K (.tup [v2, (.lit (.bool true))]) H1
theorem salvorref11_WriteContent_J12_eq0 (x3 x6 : AV) (H : AH) (K : AV → AH → Prop) : salvorref11_WriteContent_c [true, true, true, true, true] 14 (expand (mk 69 0 [3, 6]) [x3, x6]) H (kRet Try.prog Try.f18.results.toList K) = salvorref11_WriteContent_J12_b x3 x6 H K := by kernel_rfl
theorem salvorref11_WriteContent_J12_eq (x3 x6 : AV) (H : AH) (K : AV → AH → Prop) : salvorref11_WriteContent_J12 x3 x6 H K = salvorref11_WriteContent_J12_b x3 x6 H K := (jn_eq _ _ _ _ _).trans (salvorref11_WriteContent_J12_eq0 x3 x6 H K)
def salvorref11_WriteContent_L7_b (R7 : List AV → AH → Prop) (x1 x2 x3 x6 x8 : AV) (H : AH) (K : AV → AH → Prop) : Prop :=
bO (alnS x2) fun v0 =>
bO (abI .lss x8 v0) fun v1 =>
bB v1 fun t2 => bI t2 (
bO (abI .add x1 x8) fun v3 =>
bO (abI .quo v3 (.lit (.int .i64 8))) fun v4 =>
bC (BCall Try.prog 41 [x3, v4] H) fun v5 H6 =>
bO (ashift 1 x3) fun v7 =>
bO (ald false 1 H6 v7) fun v8 =>
bO (abI .add x1 x8) fun v9 =>
bO (abI .rem v9 (.lit (.int .i64 8))) fun v10 =>
bO (aixS 1 x2 x8) fun v11 =>
bO (ald false 1 H6 v11) fun v12 =>
bO (aixS 9 v8 v5) fun v13 =>
bO (ashift 1 v13) fun v14 =>
bO (aixA 8 1 v14 v10) fun v15 =>
bS (ast 1 H6 v15 v12) fun H16 =>
bO (abI .add x8 (.lit (.int .i64 1))) fun v17 =>
R7 [x1, x2, x3, x6, v17] H16)
 (bO (alnS x2) fun v18 =>
bO (abI .gtr v18 (.lit (.int .i64 0))) fun v19 =>
bB v19 fun t20 => bI t20 (
bO (ashift 0 x3) fun v21 =>
bO (ald false 1 H v21) fun v22 =>
bO (alnS x2) fun v23 =>
bO (abI .add x1 v23) fun v24 =>
bO (amm imx [v22, v24]) fun v25 =>
bO (ashift 0 x3) fun v26 =>
bS (ast 1 H v26 v25) fun H27 =>
salvorref11_WriteContent_J12 x3 x6 H27 K)
 (salvorref11_WriteContent_J12 x3 x6 H K))
theorem salvorref11_WriteContent_L7_eq (R7 : List AV → AH → Prop) (x1 x2 x3 x6 x8 : AV) (H : AH) (K : AV → AH → Prop) : salvorref11_WriteContent_c [true, true, true, false, true, false, false] 8 (expand (mk 69 0 [1, 2, 3, 6, 8]) [x1, x2, x3, x6, x8]) H (kLp (mk 69 0 [1, 2, 3, 6, 8]) R7 (kBlk 0 (kSeq (salvorref11_WriteContent_c [true, true, true, true] 12) (kRet Try.prog Try.f18.results.toList K)))) = salvorref11_WriteContent_L7_b R7 x1 x2 x3 x6 x8 H K := by kernel_rfl
theorem salvorref11_WriteContent_L7_rule {K : AV → AH → Prop} (I : Nat → AV → AV → AV → AV → AV → AH → Prop) (round : ∀ (n : Nat) (x1 x2 x3 x6 x8 : AV) (H : AH) (R : List AV → AH → Prop), (∀ (m : Nat) (y1 y2 y3 y6 y8 : AV) (H' : AH), m < n → I m y1 y2 y3 y6 y8 H' → R [y1, y2, y3, y6, y8] H') → I n x1 x2 x3 x6 x8 H → salvorref11_WriteContent_L7_b R x1 x2 x3 x6 x8 H K) (n : Nat) {x1 x2 x3 x6 x8 : AV} {H : AH} (h : I n x1 x2 x3 x6 x8 H) : salvorref11_WriteContent_L7 x1 x2 x3 x6 x8 H K := by
  refine lp_upto (sCode_one _ _) (LI5 I) ?_ n h
  intro n X H h
  obtain ⟨x1, x2, x3, x6, x8, rfl, h⟩ := h.elim
  exact Eq.mpr (salvorref11_WriteContent_L7_eq _ x1 x2 x3 x6 x8 H K) (round n x1 x2 x3 x6 x8 H (fun X H' => ∃ m, m < n ∧ LI5 I m X H') (fun m y1 y2 y3 y6 y8 H' hm hi => ⟨m, hm, hi⟩) h)
def salvorref11_WriteContent (a0 a1 a2 : AV) (H : AH) (K : AV → AH → Prop) : Prop :=
bH (anew H a0) fun v0 H1 =>
bH (anew H1 (.agg [(.lit (.int .i64 0)), (.lit (.slice none 0 0))])) fun v2 H3 =>
bO (ald true 2 H3 v0) fun v4 =>
bP (PCall Try.prog 23 [v4] H3) fun v5 =>
bO (aun .not v5) fun v6 =>
bG v6 false fun w7 =>
gO w7 (some a1) fun v8 =>
bG v6 false fun w9 =>
gO w9 (abI .lss v8 (.lit (.int .i64 0))) fun v10 =>
bO (apick v6 (.lit (.bool true)) v10) fun v11 =>
bG v11 false fun w12 =>
gO w12 (some a2) fun v13 =>
bG v11 false fun w14 =>
gO w14 (alnS v13) fun v15 =>
bG v11 false fun w16 =>
gO w16 (abI .gtr v15 (.lit (.int .i64 4096))) fun v17 =>
bO (apick v11 (.lit (.bool true)) v17) fun v18 =>
bG v18 false fun w19 =>
gO w19 (some a1) fun v20 =>
bG v18 false fun w21 =>
gO w21 (some a2) fun v22 =>
bG v18 false fun w23 =>
gO w23 (alnS v22) fun v24 =>
bG v18 false fun w25 =>
gO w25 (abI .sub (.lit (.int .i64 1099511627776)) v24) fun v26 =>
bG v18 false fun w27 =>
gO w27 (abI .gtr v20 v26) fun v28 =>
bO (apick v18 (.lit (.bool true)) v28) fun v29 =>
bB v29 fun t30 => bI t30 (
bO (abl [(.lit (.int .i64 0)), (.lit (.slice none 0 0))] []) fun v31 =>
bS (ast 2 H3 v2 v31) fun H32 =>
bO (ald true 2 H32 v2) fun v33 =>
K (.tup [v33, (.lit (.bool false))]) H32)
 (bO (ald true 2 H3 v0) fun v34 =>
bC (BCall Try.prog 40 [v34] H3) fun v35 H36 =>
bS (ast 2 H36 v0 v35) fun H37 =>
salvorref11_WriteContent_L7 a1 a2 v0 v2 (.lit (.int .i64 0)) H37 K)
theorem salvorref11_WriteContent_eq (a0 a1 a2 : AV) (H : AH) (K : AV → AH → Prop) : sFun Try.prog salvorref11_WriteContent_fl pql none0 none0 salvorref11_WriteContent_kp Try.f18 [a0, a1, a2] H K = salvorref11_WriteContent a0 a1 a2 H K := by kernel_rfl
theorem salvorref11_WriteContent_ok {a0 a1 a2 : AV} {H : AH} {K : AV → AH → Prop} (h : salvorref11_WriteContent a0 a1 a2 H K) : ∃ r H', K r H' ∧ BCall Try.prog 18 [a0, a1, a2] H r H' :=
  sFun_ok mixP Try.func18 (by kernel_rfl) (Eq.mpr (salvorref11_WriteContent_eq a0 a1 a2 H K) h)
/-! salvor/salvorref11.SameContent -/
def salvorref11_SameContent_fl : Floats := flOf []
def salvorref11_SameContent_kp : Nat → Option (List Bool) := kpOf [(6, mk 38 0 [2, 3, 5])]
def salvorref11_SameContent_c (p : List Bool) (n : Nat) : List AV → AH → Kf → Prop := sCode Try.prog salvorref11_SameContent_fl pql none0 none0 salvorref11_SameContent_kp (sub p (bodyOf Try.f19)) n
def salvorref11_SameContent_L6 (x2 x3 x5 : AV) (H : AH) (K : AV → AH → Prop) : Prop := lp (mk 38 0 [2, 3, 5]) (salvorref11_SameContent_c [true, true, false, true, false, false] 7) [x2, x3, x5] H (kBlk 0 (kSeq (salvorref11_SameContent_c [true, true, true] 12) (kRet Try.prog Try.f19.results.toList K)))
def salvorref11_SameContent_L6_b (R6 : List AV → AH → Prop) (x2 x3 x5 : AV) (H : AH) (K : AV → AH → Prop) : Prop :=
bO (ashift 1 x2) fun v0 =>
bO (ald false 1 H v0) fun v1 =>
bO (alnS v1) fun v2 =>
bO (abI .lss x5 v2) fun v3 =>
bB v3 fun t4 => bI t4 (
bO (ashift 1 x2) fun v5 =>
bO (ald false 1 H v5) fun v6 =>
bO (aixS 9 v6 x5) fun v7 =>
bO (ald true 9 H v7) fun v8 =>
bO (ashift 1 x3) fun v9 =>
bO (ald false 1 H v9) fun v10 =>
bO (aixS 9 v10 x5) fun v11 =>
bO (ald true 9 H v11) fun v12 =>
bO (abin Try.prog .neq 32 v8 v12) fun v13 =>
bB v13 fun t14 => bI t14 (
K (.lit (.bool false)) H)
 (bO (abI .add x5 (.lit (.int .i64 1))) fun v15 =>
R6 [x2, x3, v15] H))
 (K (.lit (.bool true)) H)
theorem salvorref11_SameContent_L6_eq (R6 : List AV → AH → Prop) (x2 x3 x5 : AV) (H : AH) (K : AV → AH → Prop) : salvorref11_SameContent_c [true, true, false, true, false, false] 7 (expand (mk 38 0 [2, 3, 5]) [x2, x3, x5]) H (kLp (mk 38 0 [2, 3, 5]) R6 (kBlk 0 (kSeq (salvorref11_SameContent_c [true, true, true] 12) (kRet Try.prog Try.f19.results.toList K)))) = salvorref11_SameContent_L6_b R6 x2 x3 x5 H K := by kernel_rfl
theorem salvorref11_SameContent_L6_rule {K : AV → AH → Prop} (I : Nat → AV → AV → AV → AH → Prop) (round : ∀ (n : Nat) (x2 x3 x5 : AV) (H : AH) (R : List AV → AH → Prop), (∀ (m : Nat) (y2 y3 y5 : AV) (H' : AH), m < n → I m y2 y3 y5 H' → R [y2, y3, y5] H') → I n x2 x3 x5 H → salvorref11_SameContent_L6_b R x2 x3 x5 H K) (n : Nat) {x2 x3 x5 : AV} {H : AH} (h : I n x2 x3 x5 H) : salvorref11_SameContent_L6 x2 x3 x5 H K := by
  refine lp_upto (sCode_one _ _) (LI3 I) ?_ n h
  intro n X H h
  obtain ⟨x2, x3, x5, rfl, h⟩ := h.elim
  exact Eq.mpr (salvorref11_SameContent_L6_eq _ x2 x3 x5 H K) (round n x2 x3 x5 H (fun X H' => ∃ m, m < n ∧ LI3 I m X H') (fun m y2 y3 y5 H' hm hi => ⟨m, hm, hi⟩) h)
def salvorref11_SameContent (a0 a1 : AV) (H : AH) (K : AV → AH → Prop) : Prop :=
bH (anew H a0) fun v0 H1 =>
bH (anew H1 a1) fun v2 H3 =>
bO (ashift 0 v0) fun v4 =>
bO (ald false 1 H3 v4) fun v5 =>
bO (ashift 0 v2) fun v6 =>
bO (ald false 1 H3 v6) fun v7 =>
bO (abI .neq v5 v7) fun v8 =>
bG v8 false fun w9 =>
gO w9 (ashift 1 v0) fun v10 =>
bG v8 false fun w11 =>
gO w11 (ald false 1 H3 v10) fun v12 =>
bG v8 false fun w13 =>
gO w13 (alnS v12) fun v14 =>
bG v8 false fun w15 =>
gO w15 (ashift 1 v2) fun v16 =>
bG v8 false fun w17 =>
gO w17 (ald false 1 H3 v16) fun v18 =>
bG v8 false fun w19 =>
gO w19 (alnS v18) fun v20 =>
bG v8 false fun w21 =>
gO w21 (abI .neq v14 v20) fun v22 =>
bO (apick v8 (.lit (.bool true)) v22) fun v23 =>
bB v23 fun t24 => bI t24 (
K (.lit (.bool false)) H3)
 (salvorref11_SameContent_L6 v0 v2 (.lit (.int .i64 0)) H3 K)
theorem salvorref11_SameContent_eq (a0 a1 : AV) (H : AH) (K : AV → AH → Prop) : sFun Try.prog salvorref11_SameContent_fl pql none0 none0 salvorref11_SameContent_kp Try.f19 [a0, a1] H K = salvorref11_SameContent a0 a1 H K := by kernel_rfl
theorem salvorref11_SameContent_ok {a0 a1 : AV} {H : AH} {K : AV → AH → Prop} (h : salvorref11_SameContent a0 a1 H K) : ∃ r H', K r H' ∧ BCall Try.prog 19 [a0, a1] H r H' :=
  sFun_ok mixP Try.func19 (by kernel_rfl) (Eq.mpr (salvorref11_SameContent_eq a0 a1 H K) h)
/-! salvor/salvorlaw11.at -/
def salvorlaw11_at_fl : Floats := flOf []
def salvorlaw11_at_kp : Nat → Option (List Bool) := kpOf []
def salvorlaw11_at_c (p : List Bool) (n : Nat) : List AV → AH → Kf → Prop := sCode Try.prog salvorlaw11_at_fl pql none0 none0 salvorlaw11_at_kp (sub p (bodyOf Try.f20)) n
def salvorlaw11_at (a0 a1 : AV) (H : AH) (K : AV → AH → Prop) : Prop :=
bH (anew H a0) fun v0 H1 =>
bO (ald true 2 H1 v0) fun v2 =>
bP (PCall Try.prog 15 [v2, a1, (.lit (.int .i64 1))] H1) fun v3 =>
bO (alnS v3) fun v4 =>
bO (abI .neq v4 (.lit (.int .i64 1))) fun v5 =>
bB v5 fun t6 => bI t6 (
K (.lit (.int .i64 (-1))) H1)
 (bO (aixS 1 v3 (.lit (.int .i64 0))) fun v7 =>
bO (ald false 1 H1 v7) fun v8 =>
bO (acI .i64 v8) fun v9 =>
K v9 H1)
theorem salvorlaw11_at_eq (a0 a1 : AV) (H : AH) (K : AV → AH → Prop) : sFun Try.prog salvorlaw11_at_fl pql none0 none0 salvorlaw11_at_kp Try.f20 [a0, a1] H K = salvorlaw11_at a0 a1 H K := by kernel_rfl
theorem salvorlaw11_at_ok {a0 a1 : AV} {H : AH} {K : AV → AH → Prop} (h : salvorlaw11_at a0 a1 H K) : ∃ r H', K r H' ∧ BCall Try.prog 20 [a0, a1] H r H' :=
  sFun_ok mixP Try.func20 (by kernel_rfl) (Eq.mpr (salvorlaw11_at_eq a0 a1 H K) h)
/-! salvor/salvorref11.DataContent -/
def salvorref11_DataContent_fl : Floats := flOf []
def salvorref11_DataContent_kp : Nat → Option (List Bool) := kpOf [(6, mk 48 0 [1, 2, 6])]
def salvorref11_DataContent_c (p : List Bool) (n : Nat) : List AV → AH → Kf → Prop := sCode Try.prog salvorref11_DataContent_fl pql none0 none0 salvorref11_DataContent_kp (sub p (bodyOf Try.f21)) n
def salvorref11_DataContent_L6 (x1 x2 x6 : AV) (H : AH) (K : AV → AH → Prop) : Prop := lp (mk 48 0 [1, 2, 6]) (salvorref11_DataContent_c [true, true, false, true, false, false] 7) [x1, x2, x6] H (kBlk 0 (kSeq (salvorref11_DataContent_c [true, true, true] 13) (kRet Try.prog Try.f21.results.toList K)))
def salvorref11_DataContent_L6_b (R6 : List AV → AH → Prop) (x1 x2 x6 : AV) (H : AH) (K : AV → AH → Prop) : Prop :=
bO (ashift 1 x2) fun v0 =>
bO (ald false 1 H v0) fun v1 =>
bO (alnS v1) fun v2 =>
bO (abI .lss x6 v2) fun v3 =>
bB v3 fun t4 => bI t4 (
bO (ashift 1 x2) fun v5 =>
bO (ald false 1 H v5) fun v6 =>
bO (aixS 9 v6 x6) fun v7 =>
bO (ashift 0 v7) fun v8 =>
bO (ald false 1 H v8) fun v9 =>
bO (abI .mul v9 (.lit (.int .i64 8))) fun v10 =>
bO (amm imx [v10, x1]) fun v11 =>
bO (ashift 1 x2) fun v12 =>
bO (ald false 1 H v12) fun v13 =>
bO (aixS 9 v13 x6) fun v14 =>
bO (ashift 0 v14) fun v15 =>
bO (ald false 1 H v15) fun v16 =>
bO (abI .add v16 (.lit (.int .i64 1))) fun v17 =>
bO (abI .mul v17 (.lit (.int .i64 8))) fun v18 =>
bO (abI .lss v11 v18) fun v19 =>
bG v19 true fun w20 =>
gO w20 (some v11) fun v21 =>
bG v19 true fun w22 =>
gO w22 (ashift 0 x2) fun v23 =>
bG v19 true fun w24 =>
gO w24 (ald false 1 H v23) fun v25 =>
bG v19 true fun w26 =>
gO w26 (abI .lss v21 v25) fun v27 =>
bO (apick v19 v27 (.lit (.bool false))) fun v28 =>
bB v28 fun t29 => bI t29 (
K (.tup [v11, (.lit (.bool true))]) H)
 (bO (abI .add x6 (.lit (.int .i64 1))) fun v30 =>
R6 [x1, x2, v30] H))
 (K (.tup [(.lit (.int .i64 0)), (.lit (.bool false))]) H)
theorem salvorref11_DataContent_L6_eq (R6 : List AV → AH → Prop) (x1 x2 x6 : AV) (H : AH) (K : AV → AH → Prop) : salvorref11_DataContent_c [true, true, false, true, false, false] 7 (expand (mk 48 0 [1, 2, 6]) [x1, x2, x6]) H (kLp (mk 48 0 [1, 2, 6]) R6 (kBlk 0 (kSeq (salvorref11_DataContent_c [true, true, true] 13) (kRet Try.prog Try.f21.results.toList K)))) = salvorref11_DataContent_L6_b R6 x1 x2 x6 H K := by kernel_rfl
theorem salvorref11_DataContent_L6_rule {K : AV → AH → Prop} (I : Nat → AV → AV → AV → AH → Prop) (round : ∀ (n : Nat) (x1 x2 x6 : AV) (H : AH) (R : List AV → AH → Prop), (∀ (m : Nat) (y1 y2 y6 : AV) (H' : AH), m < n → I m y1 y2 y6 H' → R [y1, y2, y6] H') → I n x1 x2 x6 H → salvorref11_DataContent_L6_b R x1 x2 x6 H K) (n : Nat) {x1 x2 x6 : AV} {H : AH} (h : I n x1 x2 x6 H) : salvorref11_DataContent_L6 x1 x2 x6 H K := by
  refine lp_upto (sCode_one _ _) (LI3 I) ?_ n h
  intro n X H h
  obtain ⟨x1, x2, x6, rfl, h⟩ := h.elim
  exact Eq.mpr (salvorref11_DataContent_L6_eq _ x1 x2 x6 H K) (round n x1 x2 x6 H (fun X H' => ∃ m, m < n ∧ LI3 I m X H') (fun m y1 y2 y6 H' hm hi => ⟨m, hm, hi⟩) h)
def salvorref11_DataContent (a0 a1 : AV) (H : AH) (K : AV → AH → Prop) : Prop :=
bH (anew H a0) fun v0 H1 =>
bO (ald true 2 H1 v0) fun v2 =>
bP (PCall Try.prog 23 [v2] H1) fun v3 =>
bO (aun .not v3) fun v4 =>
bG v4 false fun w5 =>
gO w5 (some a1) fun v6 =>
bG v4 false fun w7 =>
gO w7 (abI .lss v6 (.lit (.int .i64 0))) fun v8 =>
bO (apick v4 (.lit (.bool true)) v8) fun v9 =>
bB v9 fun t10 => bI t10 (
K (.tup [(.lit (.int .i64 0)), (.lit (.bool false))]) H1)
 (salvorref11_DataContent_L6 a1 v0 (.lit (.int .i64 0)) H1 K)
theorem salvorref11_DataContent_eq (a0 a1 : AV) (H : AH) (K : AV → AH → Prop) : sFun Try.prog salvorref11_DataContent_fl pql none0 none0 salvorref11_DataContent_kp Try.f21 [a0, a1] H K = salvorref11_DataContent a0 a1 H K := by kernel_rfl
theorem salvorref11_DataContent_ok {a0 a1 : AV} {H : AH} {K : AV → AH → Prop} (h : salvorref11_DataContent a0 a1 H K) : ∃ r H', K r H' ∧ BCall Try.prog 21 [a0, a1] H r H' :=
  sFun_ok mixP Try.func21 (by kernel_rfl) (Eq.mpr (salvorref11_DataContent_eq a0 a1 H K) h)
/-! salvor/salvorref11.HoleContent -/
def salvorref11_HoleContent_fl : Floats := flOf []
def salvorref11_HoleContent_kp : Nat → Option (List Bool) := kpOf [(5, mk 32 0 [1, 2])]
def salvorref11_HoleContent_c (p : List Bool) (n : Nat) : List AV → AH → Kf → Prop := sCode Try.prog salvorref11_HoleContent_fl pql none0 none0 salvorref11_HoleContent_kp (sub p (bodyOf Try.f22)) n
def salvorref11_HoleContent_L5 (x1 x2 : AV) (H : AH) (K : AV → AH → Prop) : Prop := lp (mk 32 0 [1, 2]) (salvorref11_HoleContent_c [true, true, false, false, false] 6) [x1, x2] H (kBlk 0 (kSeq (salvorref11_HoleContent_c [true, true, true] 8) (kRet Try.prog Try.f22.results.toList K)))
def salvorref11_HoleContent_L5_b (R5 : List AV → AH → Prop) (x1 x2 : AV) (H : AH) (K : AV → AH → Prop) : Prop :=
bO (ald true 2 H x2) fun v0 =>
bO (abI .quo x1 (.lit (.int .i64 8))) fun v1 =>
bP (PCall Try.prog 42 [v0, v1] H) fun v2 =>
bO (abI .geq v2 (.lit (.int .i64 0))) fun v3 =>
bB v3 fun t4 => bI t4 (
bO (abI .quo x1 (.lit (.int .i64 8))) fun v5 =>
bO (abI .add v5 (.lit (.int .i64 1))) fun v6 =>
bO (abI .mul v6 (.lit (.int .i64 8))) fun v7 =>
R5 [v7, x2] H)
 (bO (ashift 0 x2) fun v8 =>
bO (ald false 1 H v8) fun v9 =>
bO (amm imn [x1, v9]) fun v10 =>
K (.tup [v10, (.lit (.bool true))]) H)
theorem salvorref11_HoleContent_L5_eq (R5 : List AV → AH → Prop) (x1 x2 : AV) (H : AH) (K : AV → AH → Prop) : salvorref11_HoleContent_c [true, true, false, false, false] 6 (expand (mk 32 0 [1, 2]) [x1, x2]) H (kLp (mk 32 0 [1, 2]) R5 (kBlk 0 (kSeq (salvorref11_HoleContent_c [true, true, true] 8) (kRet Try.prog Try.f22.results.toList K)))) = salvorref11_HoleContent_L5_b R5 x1 x2 H K := by kernel_rfl
theorem salvorref11_HoleContent_L5_rule {K : AV → AH → Prop} (I : Nat → AV → AV → AH → Prop) (round : ∀ (n : Nat) (x1 x2 : AV) (H : AH) (R : List AV → AH → Prop), (∀ (m : Nat) (y1 y2 : AV) (H' : AH), m < n → I m y1 y2 H' → R [y1, y2] H') → I n x1 x2 H → salvorref11_HoleContent_L5_b R x1 x2 H K) (n : Nat) {x1 x2 : AV} {H : AH} (h : I n x1 x2 H) : salvorref11_HoleContent_L5 x1 x2 H K := by
  refine lp_upto (sCode_one _ _) (LI2 I) ?_ n h
  intro n X H h
  obtain ⟨x1, x2, rfl, h⟩ := h.elim
  exact Eq.mpr (salvorref11_HoleContent_L5_eq _ x1 x2 H K) (round n x1 x2 H (fun X H' => ∃ m, m < n ∧ LI2 I m X H') (fun m y1 y2 H' hm hi => ⟨m, hm, hi⟩) h)
def salvorref11_HoleContent (a0 a1 : AV) (H : AH) (K : AV → AH → Prop) : Prop :=
bH (anew H a0) fun v0 H1 =>
bO (ald true 2 H1 v0) fun v2 =>
bP (PCall Try.prog 23 [v2] H1) fun v3 =>
bO (aun .not v3) fun v4 =>
bG v4 false fun w5 =>
gO w5 (some a1) fun v6 =>
bG v4 false fun w7 =>
gO w7 (abI .lss v6 (.lit (.int .i64 0))) fun v8 =>
bO (apick v4 (.lit (.bool true)) v8) fun v9 =>
bG v9 false fun w10 =>
gO w10 (some a1) fun v11 =>
bG v9 false fun w12 =>
gO w12 (ashift 0 v0) fun v13 =>
bG v9 false fun w14 =>
gO w14 (ald false 1 H1 v13) fun v15 =>
bG v9 false fun w16 =>
gO w16 (abI .geq v11 v15) fun v17 =>
bO (apick v9 (.lit (.bool true)) v17) fun v18 =>
bB v18 fun t19 => bI t19 (
K (.tup [(.lit (.int .i64 0)), (.lit (.bool false))]) H1)
 (salvorref11_HoleContent_L5 a1 v0 H1 K)
theorem salvorref11_HoleContent_eq (a0 a1 : AV) (H : AH) (K : AV → AH → Prop) : sFun Try.prog salvorref11_HoleContent_fl pql none0 none0 salvorref11_HoleContent_kp Try.f22 [a0, a1] H K = salvorref11_HoleContent a0 a1 H K := by kernel_rfl
theorem salvorref11_HoleContent_ok {a0 a1 : AV} {H : AH} {K : AV → AH → Prop} (h : salvorref11_HoleContent a0 a1 H K) : ∃ r H', K r H' ∧ BCall Try.prog 22 [a0, a1] H r H' :=
  sFun_ok mixP Try.func22 (by kernel_rfl) (Eq.mpr (salvorref11_HoleContent_eq a0 a1 H K) h)
/-! salvor/salvorref11.MayContent -/
def salvorref11_MayContent_fl : Floats := flOf []
def salvorref11_MayContent_kp : Nat → Option (List Bool) := kpOf [(15, mk 70 0 [1, 3, 4, 5]), (6, mk 70 0 [1, 3])]
def salvorref11_MayContent_c (p : List Bool) (n : Nat) : List AV → AH → Kf → Prop := sCode Try.prog salvorref11_MayContent_fl pql none0 none0 salvorref11_MayContent_kp (sub p (bodyOf Try.f23)) n
def salvorref11_MayContent_L15 (R6 : List AV → AH → Prop) (x1 x3 x4 x5 : AV) (H : AH) (K : AV → AH → Prop) : Prop := lp (mk 70 0 [1, 3, 4, 5]) (salvorref11_MayContent_c [true, true, false, true, false, false, true, false, false, true, true, true, false, false] 16) [x1, x3, x4, x5] H (kBlk 2 (kBlk 1 (kSeq (salvorref11_MayContent_c [true, true, false, true, false, false, true, true] 21) (kLp (mk 70 0 [1, 3]) R6 (kBlk 0 (kSeq (salvorref11_MayContent_c [true, true, true] 21) (kRet Try.prog Try.f23.results.toList K)))))))
def salvorref11_MayContent_L6 (x1 x3 : AV) (H : AH) (K : AV → AH → Prop) : Prop := lp (mk 70 0 [1, 3]) (salvorref11_MayContent_c [true, true, false, true, false, false] 7) [x1, x3] H (kBlk 0 (kSeq (salvorref11_MayContent_c [true, true, true] 21) (kRet Try.prog Try.f23.results.toList K)))
def salvorref11_MayContent_L15_b (R6 : List AV → AH → Prop) (R15 : List AV → AH → Prop) (x1 x3 x4 x5 : AV) (H : AH) (K : AV → AH → Prop) : Prop :=
bO (abI .lss x5 (.lit (.int .i64 8))) fun v0 =>
bB v0 fun t1 => bI t1 (
bO (abI .mul x4 (.lit (.int .i64 8))) fun v2 =>
bO (abI .add v2 x5) fun v3 =>
bO (ashift 0 x1) fun v4 =>
bO (ald false 1 H v4) fun v5 =>
bO (abI .geq v3 v5) fun v6 =>
bG v6 true fun w7 =>
gO w7 (ashift 1 x1) fun v8 =>
bG v6 true fun w9 =>
gO w9 (ald false 1 H v8) fun v10 =>
bG v6 true fun w11 =>
gO w11 (some x3) fun v12 =>
bG v6 true fun w13 =>
gO w13 (some x5) fun v14 =>
bG v6 true fun w15 =>
gO w15 (aixS 9 v10 v12) fun v16 =>
bG v6 true fun w17 =>
gO w17 (ashift 1 v16) fun v18 =>
bG v6 true fun w19 =>
gO w19 (aixA 8 1 v18 v14) fun v20 =>
bG v6 true fun w21 =>
gO w21 (ald false 1 H v20) fun v22 =>
bG v6 true fun w23 =>
gO w23 (abI .neq v22 (.lit (.int .u8 0))) fun v24 =>
bO (apick v6 v24 (.lit (.bool false))) fun v25 =>
bB v25 fun t26 => bI t26 (
K (.lit (.bool false)) H)
 (bO (abI .add x5 (.lit (.int .i64 1))) fun v27 =>
R15 [x1, x3, x4, v27] H))
 (bO (abI .add x3 (.lit (.int .i64 1))) fun v28 =>
R6 [x1, v28] H)
theorem salvorref11_MayContent_L15_eq (R6 : List AV → AH → Prop) (R15 : List AV → AH → Prop) (x1 x3 x4 x5 : AV) (H : AH) (K : AV → AH → Prop) : salvorref11_MayContent_c [true, true, false, true, false, false, true, false, false, true, true, true, false, false] 16 (expand (mk 70 0 [1, 3, 4, 5]) [x1, x3, x4, x5]) H (kLp (mk 70 0 [1, 3, 4, 5]) R15 (kBlk 2 (kBlk 1 (kSeq (salvorref11_MayContent_c [true, true, false, true, false, false, true, true] 21) (kLp (mk 70 0 [1, 3]) R6 (kBlk 0 (kSeq (salvorref11_MayContent_c [true, true, true] 21) (kRet Try.prog Try.f23.results.toList K)))))))) = salvorref11_MayContent_L15_b R6 R15 x1 x3 x4 x5 H K := by kernel_rfl
theorem salvorref11_MayContent_L15_rule (R6 : List AV → AH → Prop) {K : AV → AH → Prop} (I : Nat → AV → AV → AV → AV → AH → Prop) (round : ∀ (n : Nat) (x1 x3 x4 x5 : AV) (H : AH) (R : List AV → AH → Prop), (∀ (m : Nat) (y1 y3 y4 y5 : AV) (H' : AH), m < n → I m y1 y3 y4 y5 H' → R [y1, y3, y4, y5] H') → I n x1 x3 x4 x5 H → salvorref11_MayContent_L15_b R6 R x1 x3 x4 x5 H K) (n : Nat) {x1 x3 x4 x5 : AV} {H : AH} (h : I n x1 x3 x4 x5 H) : salvorref11_MayContent_L15 R6 x1 x3 x4 x5 H K := by
  refine lp_upto (sCode_one _ _) (LI4 I) ?_ n h
  intro n X H h
  obtain ⟨x1, x3, x4, x5, rfl, h⟩ := h.elim
  exact Eq.mpr (salvorref11_MayContent_L15_eq R6 _ x1 x3 x4 x5 H K) (round n x1 x3 x4 x5 H (fun X H' => ∃ m, m < n ∧ LI4 I m X H') (fun m y1 y3 y4 y5 H' hm hi => ⟨m, hm, hi⟩) h)
def salvorref11_MayContent_L6_b (R6 : List AV → AH → Prop) (x1 x3 : AV) (H : AH) (K : AV → AH → Prop) : Prop :=
bO (ashift 1 x1) fun v0 =>
bO (ald false 1 H v0) fun v1 =>
bO (alnS v1) fun v2 =>
bO (abI .lss x3 v2) fun v3 =>
bB v3 fun t4 => bI t4 (
bO (ashift 1 x1) fun v5 =>
bO (ald false 1 H v5) fun v6 =>
bO (aixS 9 v6 x3) fun v7 =>
bO (ashift 0 v7) fun v8 =>
bO (ald false 1 H v8) fun v9 =>
bO (abI .lss v9 (.lit (.int .i64 0))) fun v10 =>
bG v10 false fun w11 =>
gO w11 (some v9) fun v12 =>
bG v10 false fun w13 =>
gO w13 (abI .geq v12 (.lit (.int .i64 137438953472))) fun v14 =>
bO (apick v10 (.lit (.bool true)) v14) fun v15 =>
bG v15 false fun w16 =>
gO w16 (some x3) fun v17 =>
bG v15 false fun w18 =>
gO w18 (abI .gtr v17 (.lit (.int .i64 0))) fun v19 =>
bG v15 false fun w20 =>
gO w20 (some v19) fun v21 =>
bG v21 true fun w22 =>
gO w22 (ashift 1 x1) fun v23 =>
bG v21 true fun w24 =>
gO w24 (ald false 1 H v23) fun v25 =>
bG v21 true fun w26 =>
gO w26 (some x3) fun v27 =>
bG v21 true fun w28 =>
gO w28 (abI .sub v27 (.lit (.int .i64 1))) fun v29 =>
bG v21 true fun w30 =>
gO w30 (aixS 9 v25 v29) fun v31 =>
bG v21 true fun w32 =>
gO w32 (ashift 0 v31) fun v33 =>
bG v21 true fun w34 =>
gO w34 (ald false 1 H v33) fun v35 =>
bG v21 true fun w36 =>
gO w36 (some v9) fun v37 =>
bG v21 true fun w38 =>
gO w38 (abI .geq v35 v37) fun v39 =>
bG v15 false fun w40 =>
gO w40 (apick v21 v39 (.lit (.bool false))) fun v41 =>
bO (apick v15 (.lit (.bool true)) v41) fun v42 =>
bB v42 fun t43 => bI t43 (
K (.lit (.bool false)) H)
 (salvorref11_MayContent_L15 R6 x1 x3 v9 (.lit (.int .i64 0)) H K))
 (K (.lit (.bool true)) H)
theorem salvorref11_MayContent_L6_eq (R6 : List AV → AH → Prop) (x1 x3 : AV) (H : AH) (K : AV → AH → Prop) : salvorref11_MayContent_c [true, true, false, true, false, false] 7 (expand (mk 70 0 [1, 3]) [x1, x3]) H (kLp (mk 70 0 [1, 3]) R6 (kBlk 0 (kSeq (salvorref11_MayContent_c [true, true, true] 21) (kRet Try.prog Try.f23.results.toList K)))) = salvorref11_MayContent_L6_b R6 x1 x3 H K := by kernel_rfl
theorem salvorref11_MayContent_L6_rule {K : AV → AH → Prop} (I : Nat → AV → AV → AH → Prop) (round : ∀ (n : Nat) (x1 x3 : AV) (H : AH) (R : List AV → AH → Prop), (∀ (m : Nat) (y1 y3 : AV) (H' : AH), m < n → I m y1 y3 H' → R [y1, y3] H') → I n x1 x3 H → salvorref11_MayContent_L6_b R x1 x3 H K) (n : Nat) {x1 x3 : AV} {H : AH} (h : I n x1 x3 H) : salvorref11_MayContent_L6 x1 x3 H K := by
  refine lp_upto (sCode_one _ _) (LI2 I) ?_ n h
  intro n X H h
  obtain ⟨x1, x3, rfl, h⟩ := h.elim
  exact Eq.mpr (salvorref11_MayContent_L6_eq _ x1 x3 H K) (round n x1 x3 H (fun X H' => ∃ m, m < n ∧ LI2 I m X H') (fun m y1 y3 H' hm hi => ⟨m, hm, hi⟩) h)
def salvorref11_MayContent (a0 : AV) (H : AH) (K : AV → AH → Prop) : Prop :=
bH (anew H a0) fun v0 H1 =>
bO (ashift 0 v0) fun v2 =>
bO (ald false 1 H1 v2) fun v3 =>
bO (abI .lss v3 (.lit (.int .i64 0))) fun v4 =>
bG v4 false fun w5 =>
gO w5 (ashift 0 v0) fun v6 =>
bG v4 false fun w7 =>
gO w7 (ald false 1 H1 v6) fun v8 =>
bG v4 false fun w9 =>
gO w9 (abI .gtr v8 (.lit (.int .i64 1099511627776))) fun v10 =>
bO (apick v4 (.lit (.bool true)) v10) fun v11 =>
bB v11 fun t12 => bI t12 (
K (.lit (.bool false)) H1)
 (salvorref11_MayContent_L6 v0 (.lit (.int .i64 0)) H1 K)
theorem salvorref11_MayContent_eq (a0 : AV) (H : AH) (K : AV → AH → Prop) : sFun Try.prog salvorref11_MayContent_fl pql none0 none0 salvorref11_MayContent_kp Try.f23 [a0] H K = salvorref11_MayContent a0 H K := by kernel_rfl
theorem salvorref11_MayContent_ok {a0 : AV} {H : AH} {K : AV → AH → Prop} (h : salvorref11_MayContent a0 H K) : ∃ r H', K r H' ∧ BCall Try.prog 23 [a0] H r H' :=
  sFun_ok mixP Try.func23 (by kernel_rfl) (Eq.mpr (salvorref11_MayContent_eq a0 H K) h)
/-! salvor/extent.Same -/
def extent_Same_fl : Floats := flOf []
def extent_Same_kp : Nat → Option (List Bool) := kpOf []
def extent_Same_c (p : List Bool) (n : Nat) : List AV → AH → Kf → Prop := sCode Try.prog extent_Same_fl pql none0 none0 extent_Same_kp (sub p (bodyOf Try.f24)) n
def extent_Same (a0 a1 : AV) (H : AH) (K : AV → AH → Prop) : Prop :=
bH (anew H a0) fun v0 H1 =>
bH (anew H1 a1) fun v2 H3 =>
bO (ashift 0 v0) fun v4 =>
bO (ald false 1 H3 v4) fun v5 =>
bO (ashift 0 v2) fun v6 =>
bO (ald false 1 H3 v6) fun v7 =>
bO (abI .eql v5 v7) fun v8 =>
bG v8 true fun w9 =>
gO w9 (ashift 1 v0) fun v10 =>
bG v8 true fun w11 =>
gO w11 (ald false 1 H3 v10) fun v12 =>
bG v8 true fun w13 =>
gO w13 (ashift 1 v2) fun v14 =>
bG v8 true fun w15 =>
gO w15 (ald false 1 H3 v14) fun v16 =>
bG v8 true fun w17 =>
gP w17 (PCall Try.prog 43 [v12, v16] H3) fun v18 =>
bO (apick v8 v18 (.lit (.bool false))) fun v19 =>
K v19 H3
theorem extent_Same_eq (a0 a1 : AV) (H : AH) (K : AV → AH → Prop) : sFun Try.prog extent_Same_fl pql none0 none0 extent_Same_kp Try.f24 [a0, a1] H K = extent_Same a0 a1 H K := by kernel_rfl
theorem extent_Same_ok {a0 a1 : AV} {H : AH} {K : AV → AH → Prop} (h : extent_Same a0 a1 H K) : ∃ r H', K r H' ∧ BCall Try.prog 24 [a0, a1] H r H' :=
  sFun_ok mixP Try.func24 (by kernel_rfl) (Eq.mpr (extent_Same_eq a0 a1 H K) h)
/-! salvor/salvorref11.ReadContent -/
def salvorref11_ReadContent_fl : Floats := flOf []
def salvorref11_ReadContent_kp : Nat → Option (List Bool) := kpOf [(7, mk 47 0 [1, 2, 3, 7, 8])]
def salvorref11_ReadContent_c (p : List Bool) (n : Nat) : List AV → AH → Kf → Prop := sCode Try.prog salvorref11_ReadContent_fl pql none0 none0 salvorref11_ReadContent_kp (sub p (bodyOf Try.f25)) n
def salvorref11_ReadContent_L7 (x1 x2 x3 x7 x8 : AV) (H : AH) (K : AV → AH → Prop) : Prop := lp (mk 47 0 [1, 2, 3, 7, 8]) (salvorref11_ReadContent_c [true, true, true, false, true, false, false] 8) [x1, x2, x3, x7, x8] H (kBlk 0 (kSeq (salvorref11_ReadContent_c [true, true, true, true] 11) (kRet Try.prog Try.f25.results.toList K)))
def salvorref11_ReadContent_L7_b (R7 : List AV → AH → Prop) (x1 x2 x3 x7 x8 : AV) (H : AH) (K : AV → AH → Prop) : Prop :=
bO (abI .lss x8 x2) fun v0 =>
bG v0 true fun w1 =>
gO w1 (some x1) fun v2 =>
bG v0 true fun w3 =>
gO w3 (ashift 0 x3) fun v4 =>
bG v0 true fun w5 =>
gO w5 (ald false 1 H v4) fun v6 =>
bG v0 true fun w7 =>
gO w7 (some x8) fun v8 =>
bG v0 true fun w9 =>
gO w9 (abI .sub v6 v8) fun v10 =>
bG v0 true fun w11 =>
gO w11 (abI .lss v2 v10) fun v12 =>
bO (apick v0 v12 (.lit (.bool false))) fun v13 =>
bB v13 fun t14 => bI t14 (
bO (ald true 2 H x3) fun v15 =>
bO (abI .add x1 x8) fun v16 =>
bP (PCall Try.prog 44 [v15, v16] H) fun v17 =>
bH (absl H 1 1 (zrow [(.lit (.int .u8 0))] 1) [(0, 1, v17)]) fun v18 H19 =>
bH (aap 1 1 H19 x7 v18) fun v20 H21 =>
bO (abI .add x8 (.lit (.int .i64 1))) fun v22 =>
R7 [x1, x2, x3, v20, v22] H21)
 (K x7 H)
theorem salvorref11_ReadContent_L7_eq (R7 : List AV → AH → Prop) (x1 x2 x3 x7 x8 : AV) (H : AH) (K : AV → AH → Prop) : salvorref11_ReadContent_c [true, true, true, false, true, false, false] 8 (expand (mk 47 0 [1, 2, 3, 7, 8]) [x1, x2, x3, x7, x8]) H (kLp (mk 47 0 [1, 2, 3, 7, 8]) R7 (kBlk 0 (kSeq (salvorref11_ReadContent_c [true, true, true, true] 11) (kRet Try.prog Try.f25.results.toList K)))) = salvorref11_ReadContent_L7_b R7 x1 x2 x3 x7 x8 H K := by kernel_rfl
theorem salvorref11_ReadContent_L7_rule {K : AV → AH → Prop} (I : Nat → AV → AV → AV → AV → AV → AH → Prop) (round : ∀ (n : Nat) (x1 x2 x3 x7 x8 : AV) (H : AH) (R : List AV → AH → Prop), (∀ (m : Nat) (y1 y2 y3 y7 y8 : AV) (H' : AH), m < n → I m y1 y2 y3 y7 y8 H' → R [y1, y2, y3, y7, y8] H') → I n x1 x2 x3 x7 x8 H → salvorref11_ReadContent_L7_b R x1 x2 x3 x7 x8 H K) (n : Nat) {x1 x2 x3 x7 x8 : AV} {H : AH} (h : I n x1 x2 x3 x7 x8 H) : salvorref11_ReadContent_L7 x1 x2 x3 x7 x8 H K := by
  refine lp_upto (sCode_one _ _) (LI5 I) ?_ n h
  intro n X H h
  obtain ⟨x1, x2, x3, x7, x8, rfl, h⟩ := h.elim
  exact Eq.mpr (salvorref11_ReadContent_L7_eq _ x1 x2 x3 x7 x8 H K) (round n x1 x2 x3 x7 x8 H (fun X H' => ∃ m, m < n ∧ LI5 I m X H') (fun m y1 y2 y3 y7 y8 H' hm hi => ⟨m, hm, hi⟩) h)
def salvorref11_ReadContent (a0 a1 a2 : AV) (H : AH) (K : AV → AH → Prop) : Prop :=
bH (anew H a0) fun v0 H1 =>
bO (ald true 2 H1 v0) fun v2 =>
bP (PCall Try.prog 23 [v2] H1) fun v3 =>
bO (aun .not v3) fun v4 =>
bG v4 false fun w5 =>
gO w5 (some a1) fun v6 =>
bG v4 false fun w7 =>
gO w7 (abI .lss v6 (.lit (.int .i64 0))) fun v8 =>
bO (apick v4 (.lit (.bool true)) v8) fun v9 =>
bG v9 false fun w10 =>
gO w10 (some a2) fun v11 =>
bG v9 false fun w12 =>
gO w12 (abI .lss v11 (.lit (.int .i64 0))) fun v13 =>
bO (apick v9 (.lit (.bool true)) v13) fun v14 =>
bG v14 false fun w15 =>
gO w15 (some a2) fun v16 =>
bG v14 false fun w17 =>
gO w17 (abI .gtr v16 (.lit (.int .i64 4096))) fun v18 =>
bO (apick v14 (.lit (.bool true)) v18) fun v19 =>
bB v19 fun t20 => bI t20 (
K (.lit (.slice none 0 0)) H1)
 (salvorref11_ReadContent_L7 a1 a2 v0 (.lit (.slice none 0 0)) (.lit (.int .i64 0)) H1 K)
theorem salvorref11_ReadContent_eq (a0 a1 a2 : AV) (H : AH) (K : AV → AH → Prop) : sFun Try.prog salvorref11_ReadContent_fl pql none0 none0 salvorref11_ReadContent_kp Try.f25 [a0, a1, a2] H K = salvorref11_ReadContent a0 a1 a2 H K := by kernel_rfl
theorem salvorref11_ReadContent_ok {a0 a1 a2 : AV} {H : AH} {K : AV → AH → Prop} (h : salvorref11_ReadContent a0 a1 a2 H K) : ∃ r H', K r H' ∧ BCall Try.prog 25 [a0, a1, a2] H r H' :=
  sFun_ok mixP Try.func25 (by kernel_rfl) (Eq.mpr (salvorref11_ReadContent_eq a0 a1 a2 H K) h)
/-! salvor/extent.Allocate -/
def extent_Allocate_fl : Floats := flOf []
def extent_Allocate_kp : Nat → Option (List Bool) := kpOf [(11, mk 50 0 [4, 8]), (7, mk 50 0 [1, 2, 3, 4, 8, 10])]
def extent_Allocate_c (p : List Bool) (n : Nat) : List AV → AH → Kf → Prop := sCode Try.prog extent_Allocate_fl pql none0 none0 extent_Allocate_kp (sub p (bodyOf Try.f26)) n
def extent_Allocate_J11 (x4 x8 : AV) (H : AH) (K : AV → AH → Prop) : Prop := jn (mk 50 0 [4, 8]) (extent_Allocate_c [true, true, true, true, true] 13) [x4, x8] H (kRet Try.prog Try.f26.results.toList K)
def extent_Allocate_L7 (x1 x2 x3 x4 x8 x10 : AV) (H : AH) (K : AV → AH → Prop) : Prop := lp (mk 50 0 [1, 2, 3, 4, 8, 10]) (extent_Allocate_c [true, true, true, false, true, false, false] 8) [x1, x2, x3, x4, x8, x10] H (kBlk 0 (kSeq (extent_Allocate_c [true, true, true, true] 11) (kRet Try.prog Try.f26.results.toList K)))
def extent_Allocate_J11_b (x4 x8 : AV) (H : AH) (K : AV → AH → Prop) : Prop :=
bO (ald true 2 H x4) fun v0 =>
bS (ast 2 H x8 v0) fun H1 =>
bO (ald true 2 H1 x8) fun v2 =>
K (.tup [v2, (.lit (.bool true))]) H1
theorem extent_Allocate_J11_eq0 (x4 x8 : AV) (H : AH) (K : AV → AH → Prop) : extent_Allocate_c [true, true, true, true, true] 13 (expand (mk 50 0 [4, 8]) [x4, x8]) H (kRet Try.prog Try.f26.results.toList K) = extent_Allocate_J11_b x4 x8 H K := by kernel_rfl
theorem extent_Allocate_J11_eq (x4 x8 : AV) (H : AH) (K : AV → AH → Prop) : extent_Allocate_J11 x4 x8 H K = extent_Allocate_J11_b x4 x8 H K := (jn_eq _ _ _ _ _).trans (extent_Allocate_J11_eq0 x4 x8 H K)
def extent_Allocate_L7_b (R7 : List AV → AH → Prop) (x1 x2 x3 x4 x8 x10 : AV) (H : AH) (K : AV → AH → Prop) : Prop :=
bO (abI .add x1 x2) fun v0 =>
bO (abI .sub v0 (.lit (.int .i64 1))) fun v1 =>
bO (abI .quo v1 (.lit (.int .i64 8))) fun v2 =>
bO (abI .leq x10 v2) fun v3 =>
bB v3 fun t4 => bI t4 (
bC (BCall Try.prog 35 [x4, x10] H) fun v5 H6 =>
bO (abI .add x10 (.lit (.int .i64 1))) fun v7 =>
R7 [x1, x2, x3, x4, x8, v7] H6)
 (bO (aun .not x3) fun v8 =>
bB v8 fun t9 => bI t9 (
bO (ashift 0 x4) fun v10 =>
bO (ald false 1 H v10) fun v11 =>
bO (abI .add x1 x2) fun v12 =>
bO (amm imx [v11, v12]) fun v13 =>
bO (ashift 0 x4) fun v14 =>
bS (ast 1 H v14 v13) fun H15 =>
extent_Allocate_J11 x4 x8 H15 K)
 (extent_Allocate_J11 x4 x8 H K))
theorem extent_Allocate_L7_eq (R7 : List AV → AH → Prop) (x1 x2 x3 x4 x8 x10 : AV) (H : AH) (K : AV → AH → Prop) : extent_Allocate_c [true, true, true, false, true, false, false] 8 (expand (mk 50 0 [1, 2, 3, 4, 8, 10]) [x1, x2, x3, x4, x8, x10]) H (kLp (mk 50 0 [1, 2, 3, 4, 8, 10]) R7 (kBlk 0 (kSeq (extent_Allocate_c [true, true, true, true] 11) (kRet Try.prog Try.f26.results.toList K)))) = extent_Allocate_L7_b R7 x1 x2 x3 x4 x8 x10 H K := by kernel_rfl
theorem extent_Allocate_L7_rule {K : AV → AH → Prop} (I : Nat → AV → AV → AV → AV → AV → AV → AH → Prop) (round : ∀ (n : Nat) (x1 x2 x3 x4 x8 x10 : AV) (H : AH) (R : List AV → AH → Prop), (∀ (m : Nat) (y1 y2 y3 y4 y8 y10 : AV) (H' : AH), m < n → I m y1 y2 y3 y4 y8 y10 H' → R [y1, y2, y3, y4, y8, y10] H') → I n x1 x2 x3 x4 x8 x10 H → extent_Allocate_L7_b R x1 x2 x3 x4 x8 x10 H K) (n : Nat) {x1 x2 x3 x4 x8 x10 : AV} {H : AH} (h : I n x1 x2 x3 x4 x8 x10 H) : extent_Allocate_L7 x1 x2 x3 x4 x8 x10 H K := by
  refine lp_upto (sCode_one _ _) (LI6 I) ?_ n h
  intro n X H h
  obtain ⟨x1, x2, x3, x4, x8, x10, rfl, h⟩ := h.elim
  exact Eq.mpr (extent_Allocate_L7_eq _ x1 x2 x3 x4 x8 x10 H K) (round n x1 x2 x3 x4 x8 x10 H (fun X H' => ∃ m, m < n ∧ LI6 I m X H') (fun m y1 y2 y3 y4 y8 y10 H' hm hi => ⟨m, hm, hi⟩) h)
def extent_Allocate (a0 a1 a2 a3 : AV) (H : AH) (K : AV → AH → Prop) : Prop :=
bH (anew H a0) fun v0 H1 =>
bH (anew H1 (.agg [(.lit (.int .i64 0)), (.lit (.slice none 0 0))])) fun v2 H3 =>
bO (ald true 2 H3 v0) fun v4 =>
bP (PCall Try.prog 16 [v4] H3) fun v5 =>
bO (aun .not v5) fun v6 =>
bG v6 false fun w7 =>
gO w7 (some a1) fun v8 =>
bG v6 false fun w9 =>
gO w9 (some a2) fun v10 =>
bG v6 false fun w11 =>
gP w11 (PCall Try.prog 45 [v8, v10] H3) fun v12 =>
bG v6 false fun w13 =>
gO w13 (aun .not v12) fun v14 =>
bO (apick v6 (.lit (.bool true)) v14) fun v15 =>
bG v15 false fun w16 =>
gO w16 (some a2) fun v17 =>
bG v15 false fun w18 =>
gO w18 (abI .gtr v17 (.lit (.int .i64 32768))) fun v19 =>
bO (apick v15 (.lit (.bool true)) v19) fun v20 =>
bB v20 fun t21 => bI t21 (
bO (abl [(.lit (.int .i64 0)), (.lit (.slice none 0 0))] []) fun v22 =>
bS (ast 2 H3 v2 v22) fun H23 =>
bO (ald true 2 H23 v2) fun v24 =>
K (.tup [v24, (.lit (.bool false))]) H23)
 (bO (ald true 2 H3 v0) fun v25 =>
bC (BCall Try.prog 33 [v25] H3) fun v26 H27 =>
bS (ast 2 H27 v0 v26) fun H28 =>
bO (abI .quo a1 (.lit (.int .i64 8))) fun v29 =>
extent_Allocate_L7 a1 a2 a3 v0 v2 v29 H28 K)
theorem extent_Allocate_eq (a0 a1 a2 a3 : AV) (H : AH) (K : AV → AH → Prop) : sFun Try.prog extent_Allocate_fl pql none0 none0 extent_Allocate_kp Try.f26 [a0, a1, a2, a3] H K = extent_Allocate a0 a1 a2 a3 H K := by kernel_rfl
theorem extent_Allocate_ok {a0 a1 a2 a3 : AV} {H : AH} {K : AV → AH → Prop} (h : extent_Allocate a0 a1 a2 a3 H K) : ∃ r H', K r H' ∧ BCall Try.prog 26 [a0, a1, a2, a3] H r H' :=
  sFun_ok mixP Try.func26 (by kernel_rfl) (Eq.mpr (extent_Allocate_eq a0 a1 a2 a3 H K) h)
/-! salvor/extent.Truncate -/
def extent_Truncate_fl : Floats := flOf []
def extent_Truncate_kp : Nat → Option (List Bool) := kpOf [(9, mk 45 0 [2, 3, 4, 30, 31])]
def extent_Truncate_c (p : List Bool) (n : Nat) : List AV → AH → Kf → Prop := sCode Try.prog extent_Truncate_fl pql none0 none0 extent_Truncate_kp (sub p (bodyOf Try.f27)) n
def extent_Truncate_L9 (x2 x3 x4 x30 x31 : AV) (H : AH) (K : AV → AH → Prop) : Prop := lp (mk 45 0 [2, 3, 4, 30, 31]) (extent_Truncate_c [true, true, true, true, true, false, true, false, false] 10) [x2, x3, x4, x30, x31] H (kBlk 0 (kSeq (extent_Truncate_c [true, true, true, true, true, true] 14) (kRet Try.prog Try.f27.results.toList K)))
def extent_Truncate_L9_b (R9 : List AV → AH → Prop) (x2 x3 x4 x30 x31 : AV) (H : AH) (K : AV → AH → Prop) : Prop :=
bO (abI .lss x31 x30) fun v0 =>
bB v0 fun t1 => bI t1 (
bO (ashift 1 x2) fun v2 =>
bO (ald false 1 H v2) fun v3 =>
bO (aixS 9 v3 x31) fun v4 =>
bO (ald false 1 H x3) fun v5 =>
bO (ald false 1 H x3) fun v6 =>
bO (abI .sub (.lit (.int .i64 1099511627776)) v6) fun v7 =>
bO (abl [(.lit (.int .i64 0)), (.lit (.int .i64 0))] [(0, 1, v5), (1, 1, v7)]) fun v8 =>
bC (BCall Try.prog 48 [v4, v8] H) fun v9 H10 =>
bO (abI .add x31 (.lit (.int .i64 1))) fun v11 =>
R9 [x2, x3, x4, x30, v11] H10)
 (bO (ald true 2 H x2) fun v12 =>
bS (ast 2 H x4 v12) fun H13 =>
bO (ald true 2 H13 x4) fun v14 =>
K (.tup [v14, (.lit (.bool true))]) H13)
theorem extent_Truncate_L9_eq (R9 : List AV → AH → Prop) (x2 x3 x4 x30 x31 : AV) (H : AH) (K : AV → AH → Prop) : extent_Truncate_c [true, true, true, true, true, false, true, false, false] 10 (expand (mk 45 0 [2, 3, 4, 30, 31]) [x2, x3, x4, x30, x31]) H (kLp (mk 45 0 [2, 3, 4, 30, 31]) R9 (kBlk 0 (kSeq (extent_Truncate_c [true, true, true, true, true, true] 14) (kRet Try.prog Try.f27.results.toList K)))) = extent_Truncate_L9_b R9 x2 x3 x4 x30 x31 H K := by kernel_rfl
theorem extent_Truncate_L9_rule {K : AV → AH → Prop} (I : Nat → AV → AV → AV → AV → AV → AH → Prop) (round : ∀ (n : Nat) (x2 x3 x4 x30 x31 : AV) (H : AH) (R : List AV → AH → Prop), (∀ (m : Nat) (y2 y3 y4 y30 y31 : AV) (H' : AH), m < n → I m y2 y3 y4 y30 y31 H' → R [y2, y3, y4, y30, y31] H') → I n x2 x3 x4 x30 x31 H → extent_Truncate_L9_b R x2 x3 x4 x30 x31 H K) (n : Nat) {x2 x3 x4 x30 x31 : AV} {H : AH} (h : I n x2 x3 x4 x30 x31 H) : extent_Truncate_L9 x2 x3 x4 x30 x31 H K := by
  refine lp_upto (sCode_one _ _) (LI5 I) ?_ n h
  intro n X H h
  obtain ⟨x2, x3, x4, x30, x31, rfl, h⟩ := h.elim
  exact Eq.mpr (extent_Truncate_L9_eq _ x2 x3 x4 x30 x31 H K) (round n x2 x3 x4 x30 x31 H (fun X H' => ∃ m, m < n ∧ LI5 I m X H') (fun m y2 y3 y4 y30 y31 H' hm hi => ⟨m, hm, hi⟩) h)
def extent_Truncate (a0 a1 : AV) (H : AH) (K : AV → AH → Prop) : Prop :=
bH (anew H a0) fun v0 H1 =>
bH (anew H1 a1) fun v2 H3 =>
bH (anew H3 (.agg [(.lit (.int .i64 0)), (.lit (.slice none 0 0))])) fun v4 H5 =>
bO (ald true 2 H5 v0) fun v6 =>
bP (PCall Try.prog 16 [v6] H5) fun v7 =>
bO (aun .not v7) fun v8 =>
bG v8 false fun w9 =>
gO w9 (ald false 1 H5 v2) fun v10 =>
bG v8 false fun w11 =>
gO w11 (abI .lss v10 (.lit (.int .i64 0))) fun v12 =>
bO (apick v8 (.lit (.bool true)) v12) fun v13 =>
bG v13 false fun w14 =>
gO w14 (ald false 1 H5 v2) fun v15 =>
bG v13 false fun w16 =>
gO w16 (abI .gtr v15 (.lit (.int .i64 1099511627776))) fun v17 =>
bO (apick v13 (.lit (.bool true)) v17) fun v18 =>
bB v18 fun t19 => bI t19 (
bO (abl [(.lit (.int .i64 0)), (.lit (.slice none 0 0))] []) fun v20 =>
bS (ast 2 H5 v4 v20) fun H21 =>
bO (ald true 2 H21 v4) fun v22 =>
K (.tup [v22, (.lit (.bool false))]) H21)
 (bO (ald true 2 H5 v0) fun v23 =>
bC (BCall Try.prog 33 [v23] H5) fun v24 H25 =>
bS (ast 2 H25 v0 v24) fun H26 =>
bO (ald false 1 H26 v2) fun v27 =>
bO (ashift 0 v0) fun v28 =>
bS (ast 1 H26 v28 v27) fun H29 =>
bO (ashift 1 v0) fun v30 =>
bO (ald false 1 H29 v30) fun v31 =>
bC (BCall Try.prog 46 [v31, (.fn (.func 47) [] [v2])] H29) fun v32 H33 =>
bO (ashift 1 v0) fun v34 =>
bS (ast 1 H33 v34 v32) fun H35 =>
bO (ashift 1 v0) fun v36 =>
bO (ald false 1 H35 v36) fun v37 =>
bO (alnS v37) fun v38 =>
extent_Truncate_L9 v0 v2 v4 v38 (.lit (.int .i64 0)) H35 K)
theorem extent_Truncate_eq (a0 a1 : AV) (H : AH) (K : AV → AH → Prop) : sFun Try.prog extent_Truncate_fl pql none0 none0 extent_Truncate_kp Try.f27 [a0, a1] H K = extent_Truncate a0 a1 H K := by kernel_rfl
theorem extent_Truncate_ok {a0 a1 : AV} {H : AH} {K : AV → AH → Prop} (h : extent_Truncate a0 a1 H K) : ∃ r H', K r H' ∧ BCall Try.prog 27 [a0, a1] H r H' :=
  sFun_ok mixP Try.func27 (by kernel_rfl) (Eq.mpr (extent_Truncate_eq a0 a1 H K) h)
/-! salvor/extent.Punch -/
def extent_Punch_fl : Floats := flOf []
def extent_Punch_kp : Nat → Option (List Bool) := kpOf [(9, mk 44 0 [3, 6, 8, 32, 33])]
def extent_Punch_c (p : List Bool) (n : Nat) : List AV → AH → Kf → Prop := sCode Try.prog extent_Punch_fl pql none0 none0 extent_Punch_kp (sub p (bodyOf Try.f28)) n
def extent_Punch_L9 (x3 x6 x8 x32 x33 : AV) (H : AH) (K : AV → AH → Prop) : Prop := lp (mk 44 0 [3, 6, 8, 32, 33]) (extent_Punch_c [true, true, true, true, true, false, true, false, false] 10) [x3, x6, x8, x32, x33] H (kBlk 0 (kSeq (extent_Punch_c [true, true, true, true, true, true] 14) (kRet Try.prog Try.f28.results.toList K)))
def extent_Punch_L9_b (R9 : List AV → AH → Prop) (x3 x6 x8 x32 x33 : AV) (H : AH) (K : AV → AH → Prop) : Prop :=
bO (abI .lss x33 x32) fun v0 =>
bB v0 fun t1 => bI t1 (
bO (ashift 1 x3) fun v2 =>
bO (ald false 1 H v2) fun v3 =>
bO (aixS 9 v3 x33) fun v4 =>
bO (ald true 2 H x8) fun v5 =>
bC (BCall Try.prog 48 [v4, v5] H) fun v6 H7 =>
bO (abI .add x33 (.lit (.int .i64 1))) fun v8 =>
R9 [x3, x6, x8, x32, v8] H7)
 (bO (ald true 2 H x3) fun v9 =>
bS (ast 2 H x6 v9) fun H10 =>
bO (ald true 2 H10 x6) fun v11 =>
K (.tup [v11, (.lit (.bool true))]) H10)
theorem extent_Punch_L9_eq (R9 : List AV → AH → Prop) (x3 x6 x8 x32 x33 : AV) (H : AH) (K : AV → AH → Prop) : extent_Punch_c [true, true, true, true, true, false, true, false, false] 10 (expand (mk 44 0 [3, 6, 8, 32, 33]) [x3, x6, x8, x32, x33]) H (kLp (mk 44 0 [3, 6, 8, 32, 33]) R9 (kBlk 0 (kSeq (extent_Punch_c [true, true, true, true, true, true] 14) (kRet Try.prog Try.f28.results.toList K)))) = extent_Punch_L9_b R9 x3 x6 x8 x32 x33 H K := by kernel_rfl
theorem extent_Punch_L9_rule {K : AV → AH → Prop} (I : Nat → AV → AV → AV → AV → AV → AH → Prop) (round : ∀ (n : Nat) (x3 x6 x8 x32 x33 : AV) (H : AH) (R : List AV → AH → Prop), (∀ (m : Nat) (y3 y6 y8 y32 y33 : AV) (H' : AH), m < n → I m y3 y6 y8 y32 y33 H' → R [y3, y6, y8, y32, y33] H') → I n x3 x6 x8 x32 x33 H → extent_Punch_L9_b R x3 x6 x8 x32 x33 H K) (n : Nat) {x3 x6 x8 x32 x33 : AV} {H : AH} (h : I n x3 x6 x8 x32 x33 H) : extent_Punch_L9 x3 x6 x8 x32 x33 H K := by
  refine lp_upto (sCode_one _ _) (LI5 I) ?_ n h
  intro n X H h
  obtain ⟨x3, x6, x8, x32, x33, rfl, h⟩ := h.elim
  exact Eq.mpr (extent_Punch_L9_eq _ x3 x6 x8 x32 x33 H K) (round n x3 x6 x8 x32 x33 H (fun X H' => ∃ m, m < n ∧ LI5 I m X H') (fun m y3 y6 y8 y32 y33 H' hm hi => ⟨m, hm, hi⟩) h)
def extent_Punch (a0 a1 a2 : AV) (H : AH) (K : AV → AH → Prop) : Prop :=
bH (anew H a0) fun v0 H1 =>
bH (anew H1 (.agg [(.lit (.int .i64 0)), (.lit (.slice none 0 0))])) fun v2 H3 =>
bO (ald true 2 H3 v0) fun v4 =>
bP (PCall Try.prog 16 [v4] H3) fun v5 =>
bO (aun .not v5) fun v6 =>
bG v6 false fun w7 =>
gO w7 (some a1) fun v8 =>
bG v6 false fun w9 =>
gO w9 (some a2) fun v10 =>
bG v6 false fun w11 =>
gP w11 (PCall Try.prog 45 [v8, v10] H3) fun v12 =>
bG v6 false fun w13 =>
gO w13 (aun .not v12) fun v14 =>
bO (apick v6 (.lit (.bool true)) v14) fun v15 =>
bB v15 fun t16 => bI t16 (
bO (abl [(.lit (.int .i64 0)), (.lit (.slice none 0 0))] []) fun v17 =>
bS (ast 2 H3 v2 v17) fun H18 =>
bO (ald true 2 H18 v2) fun v19 =>
K (.tup [v19, (.lit (.bool false))]) H18)
 (bO (ald true 2 H3 v0) fun v20 =>
bC (BCall Try.prog 33 [v20] H3) fun v21 H22 =>
bS (ast 2 H22 v0 v21) fun H23 =>
bO (abl [(.lit (.int .i64 0)), (.lit (.int .i64 0))] [(0, 1, a1), (1, 1, a2)]) fun v24 =>
bH (anew H23 (.agg [(.lit (.int .i64 0)), (.lit (.int .i64 0))])) fun v25 H26 =>
bS (ast 2 H26 v25 v24) fun H27 =>
bO (ashift 1 v0) fun v28 =>
bO (ald false 1 H27 v28) fun v29 =>
bC (BCall Try.prog 46 [v29, (.fn (.func 49) [] [v25])] H27) fun v30 H31 =>
bO (ashift 1 v0) fun v32 =>
bS (ast 1 H31 v32 v30) fun H33 =>
bO (ashift 1 v0) fun v34 =>
bO (ald false 1 H33 v34) fun v35 =>
bO (alnS v35) fun v36 =>
extent_Punch_L9 v0 v2 v25 v36 (.lit (.int .i64 0)) H33 K)
theorem extent_Punch_eq (a0 a1 a2 : AV) (H : AH) (K : AV → AH → Prop) : sFun Try.prog extent_Punch_fl pql none0 none0 extent_Punch_kp Try.f28 [a0, a1, a2] H K = extent_Punch a0 a1 a2 H K := by kernel_rfl
theorem extent_Punch_ok {a0 a1 a2 : AV} {H : AH} {K : AV → AH → Prop} (h : extent_Punch a0 a1 a2 H K) : ∃ r H', K r H' ∧ BCall Try.prog 28 [a0, a1, a2] H r H' :=
  sFun_ok mixP Try.func28 (by kernel_rfl) (Eq.mpr (extent_Punch_eq a0 a1 a2 H K) h)
/-! salvor/salvorref11.TruncateContent -/
def salvorref11_TruncateContent_fl : Floats := flOf []
def salvorref11_TruncateContent_kp : Nat → Option (List Bool) := kpOf [(19, mk 62 0 [1, 2, 4, 6, 7, 8, 9]), (16, mk 62 0 [1, 2, 4, 6, 7, 8, 9]), (10, mk 62 0 [1, 2, 4, 6, 7]), (7, mk 62 0 [1, 2, 4, 6, 7])]
def salvorref11_TruncateContent_c (p : List Bool) (n : Nat) : List AV → AH → Kf → Prop := sCode Try.prog salvorref11_TruncateContent_fl pql none0 none0 salvorref11_TruncateContent_kp (sub p (bodyOf Try.f29)) n
def salvorref11_TruncateContent_J10 (R7 : List AV → AH → Prop) (x1 x2 x4 x6 x7 : AV) (H : AH) (K : AV → AH → Prop) : Prop := jn (mk 62 0 [1, 2, 4, 6, 7]) (salvorref11_TruncateContent_c [true, true, true, false, true, false, false, true, true] 21) [x1, x2, x4, x6, x7] H (kLp (mk 62 0 [1, 2, 4, 6, 7]) R7 (kBlk 0 (kSeq (salvorref11_TruncateContent_c [true, true, true, true] 21) (kRet Try.prog Try.f29.results.toList K))))
def salvorref11_TruncateContent_J19 (R16 : List AV → AH → Prop) (R7 : List AV → AH → Prop) (x1 x2 x4 x6 x7 x8 x9 : AV) (H : AH) (K : AV → AH → Prop) : Prop := jn (mk 62 0 [1, 2, 4, 6, 7, 8, 9]) (salvorref11_TruncateContent_c [true, true, true, false, true, false, false, true, false, false, true, true, false, true, false, false, true, true] 21) [x1, x2, x4, x6, x7, x8, x9] H (kLp (mk 62 0 [1, 2, 4, 6, 7, 8, 9]) R16 (kBlk 2 (kSeq (salvorref11_TruncateContent_c [true, true, true, false, true, false, false, true, false, false, true, true, true] 21) (kBlk 1 (kSeq (cutC (mk 62 0 [1, 2, 4, 6, 7]) (salvorref11_TruncateContent_c [true, true, true, false, true, false, false, true, true] 21)) (kLp (mk 62 0 [1, 2, 4, 6, 7]) R7 (kBlk 0 (kSeq (salvorref11_TruncateContent_c [true, true, true, true] 21) (kRet Try.prog Try.f29.results.toList K)))))))))
def salvorref11_TruncateContent_L16 (R7 : List AV → AH → Prop) (x1 x2 x4 x6 x7 x8 x9 : AV) (H : AH) (K : AV → AH → Prop) : Prop := lp (mk 62 0 [1, 2, 4, 6, 7, 8, 9]) (salvorref11_TruncateContent_c [true, true, true, false, true, false, false, true, false, false, true, true, false, true, false, false] 17) [x1, x2, x4, x6, x7, x8, x9] H (kBlk 2 (kSeq (salvorref11_TruncateContent_c [true, true, true, false, true, false, false, true, false, false, true, true, true] 21) (kBlk 1 (kSeq (cutC (mk 62 0 [1, 2, 4, 6, 7]) (salvorref11_TruncateContent_c [true, true, true, false, true, false, false, true, true] 21)) (kLp (mk 62 0 [1, 2, 4, 6, 7]) R7 (kBlk 0 (kSeq (salvorref11_TruncateContent_c [true, true, true, true] 21) (kRet Try.prog Try.f29.results.toList K))))))))
def salvorref11_TruncateContent_L7 (x1 x2 x4 x6 x7 : AV) (H : AH) (K : AV → AH → Prop) : Prop := lp (mk 62 0 [1, 2, 4, 6, 7]) (salvorref11_TruncateContent_c [true, true, true, false, true, false, false] 8) [x1, x2, x4, x6, x7] H (kBlk 0 (kSeq (salvorref11_TruncateContent_c [true, true, true, true] 21) (kRet Try.prog Try.f29.results.toList K)))
def salvorref11_TruncateContent_J10_b (R7 : List AV → AH → Prop) (x1 x2 x4 x6 x7 : AV) (H : AH) (K : AV → AH → Prop) : Prop :=
bO (abI .add x7 (.lit (.int .i64 1))) fun v0 =>
R7 [x1, x2, x4, x6, v0] H
theorem salvorref11_TruncateContent_J10_eq0 (R7 : List AV → AH → Prop) (x1 x2 x4 x6 x7 : AV) (H : AH) (K : AV → AH → Prop) : salvorref11_TruncateContent_c [true, true, true, false, true, false, false, true, true] 21 (expand (mk 62 0 [1, 2, 4, 6, 7]) [x1, x2, x4, x6, x7]) H (kLp (mk 62 0 [1, 2, 4, 6, 7]) R7 (kBlk 0 (kSeq (salvorref11_TruncateContent_c [true, true, true, true] 21) (kRet Try.prog Try.f29.results.toList K)))) = salvorref11_TruncateContent_J10_b R7 x1 x2 x4 x6 x7 H K := by kernel_rfl
theorem salvorref11_TruncateContent_J10_eq (R7 : List AV → AH → Prop) (x1 x2 x4 x6 x7 : AV) (H : AH) (K : AV → AH → Prop) : salvorref11_TruncateContent_J10 R7 x1 x2 x4 x6 x7 H K = salvorref11_TruncateContent_J10_b R7 x1 x2 x4 x6 x7 H K := (jn_eq _ _ _ _ _).trans (salvorref11_TruncateContent_J10_eq0 R7 x1 x2 x4 x6 x7 H K)
def salvorref11_TruncateContent_J19_b (R16 : List AV → AH → Prop) (R7 : List AV → AH → Prop) (x1 x2 x4 x6 x7 x8 x9 : AV) (H : AH) (K : AV → AH → Prop) : Prop :=
bO (abI .add x9 (.lit (.int .i64 1))) fun v0 =>
R16 [x1, x2, x4, x6, x7, x8, v0] H
theorem salvorref11_TruncateContent_J19_eq0 (R16 : List AV → AH → Prop) (R7 : List AV → AH → Prop) (x1 x2 x4 x6 x7 x8 x9 : AV) (H : AH) (K : AV → AH → Prop) : salvorref11_TruncateContent_c [true, true, true, false, true, false, false, true, false, false, true, true, false, true, false, false, true, true] 21 (expand (mk 62 0 [1, 2, 4, 6, 7, 8, 9]) [x1, x2, x4, x6, x7, x8, x9]) H (kLp (mk 62 0 [1, 2, 4, 6, 7, 8, 9]) R16 (kBlk 2 (kSeq (salvorref11_TruncateContent_c [true, true, true, false, true, false, false, true, false, false, true, true, true] 21) (kBlk 1 (kSeq (cutC (mk 62 0 [1, 2, 4, 6, 7]) (salvorref11_TruncateContent_c [true, true, true, false, true, false, false, true, true] 21)) (kLp (mk 62 0 [1, 2, 4, 6, 7]) R7 (kBlk 0 (kSeq (salvorref11_TruncateContent_c [true, true, true, true] 21) (kRet Try.prog Try.f29.results.toList K))))))))) = salvorref11_TruncateContent_J19_b R16 R7 x1 x2 x4 x6 x7 x8 x9 H K := by kernel_rfl
theorem salvorref11_TruncateContent_J19_eq (R16 : List AV → AH → Prop) (R7 : List AV → AH → Prop) (x1 x2 x4 x6 x7 x8 x9 : AV) (H : AH) (K : AV → AH → Prop) : salvorref11_TruncateContent_J19 R16 R7 x1 x2 x4 x6 x7 x8 x9 H K = salvorref11_TruncateContent_J19_b R16 R7 x1 x2 x4 x6 x7 x8 x9 H K := (jn_eq _ _ _ _ _).trans (salvorref11_TruncateContent_J19_eq0 R16 R7 x1 x2 x4 x6 x7 x8 x9 H K)
def salvorref11_TruncateContent_L16_b (R7 : List AV → AH → Prop) (R16 : List AV → AH → Prop) (x1 x2 x4 x6 x7 x8 x9 : AV) (H : AH) (K : AV → AH → Prop) : Prop :=
bO (abI .lss x9 (.lit (.int .i64 8))) fun v0 =>
bB v0 fun t1 => bI t1 (
bO (ashift 0 x8) fun v2 =>
bO (ald false 1 H v2) fun v3 =>
bO (abI .mul v3 (.lit (.int .i64 8))) fun v4 =>
bO (abI .add v4 x9) fun v5 =>
bO (abI .geq v5 x1) fun v6 =>
bB v6 fun t7 => bI t7 (
bO (ashift 1 x8) fun v8 =>
bO (aixA 8 1 v8 x9) fun v9 =>
bS (ast 1 H v9 (.lit (.int .u8 0))) fun H10 =>
salvorref11_TruncateContent_J19 R16 R7 x1 x2 x4 x6 x7 x8 x9 H10 K)
 (salvorref11_TruncateContent_J19 R16 R7 x1 x2 x4 x6 x7 x8 x9 H K))
 (bO (ashift 1 x6) fun v11 =>
bO (ald false 1 H v11) fun v12 =>
bO (ald true 9 H x8) fun v13 =>
bH (absl H 9 1 (zrow [(.lit (.int .i64 0)), (.lit (.int .u8 0)), (.lit (.int .u8 0)), (.lit (.int .u8 0)), (.lit (.int .u8 0)), (.lit (.int .u8 0)), (.lit (.int .u8 0)), (.lit (.int .u8 0)), (.lit (.int .u8 0))] 1) [(0, 9, v13)]) fun v14 H15 =>
bH (aap 9 16 H15 v12 v14) fun v16 H17 =>
bO (ashift 1 x6) fun v18 =>
bS (ast 1 H17 v18 v16) fun H19 =>
salvorref11_TruncateContent_J10 R7 x1 x2 x4 x6 x7 H19 K)
theorem salvorref11_TruncateContent_L16_eq (R7 : List AV → AH → Prop) (R16 : List AV → AH → Prop) (x1 x2 x4 x6 x7 x8 x9 : AV) (H : AH) (K : AV → AH → Prop) : salvorref11_TruncateContent_c [true, true, true, false, true, false, false, true, false, false, true, true, false, true, false, false] 17 (expand (mk 62 0 [1, 2, 4, 6, 7, 8, 9]) [x1, x2, x4, x6, x7, x8, x9]) H (kLp (mk 62 0 [1, 2, 4, 6, 7, 8, 9]) R16 (kBlk 2 (kSeq (salvorref11_TruncateContent_c [true, true, true, false, true, false, false, true, false, false, true, true, true] 21) (kBlk 1 (kSeq (cutC (mk 62 0 [1, 2, 4, 6, 7]) (salvorref11_TruncateContent_c [true, true, true, false, true, false, false, true, true] 21)) (kLp (mk 62 0 [1, 2, 4, 6, 7]) R7 (kBlk 0 (kSeq (salvorref11_TruncateContent_c [true, true, true, true] 21) (kRet Try.prog Try.f29.results.toList K))))))))) = salvorref11_TruncateContent_L16_b R7 R16 x1 x2 x4 x6 x7 x8 x9 H K := by kernel_rfl
theorem salvorref11_TruncateContent_L16_rule (R7 : List AV → AH → Prop) {K : AV → AH → Prop} (I : Nat → AV → AV → AV → AV → AV → AV → AV → AH → Prop) (round : ∀ (n : Nat) (x1 x2 x4 x6 x7 x8 x9 : AV) (H : AH) (R : List AV → AH → Prop), (∀ (m : Nat) (y1 y2 y4 y6 y7 y8 y9 : AV) (H' : AH), m < n → I m y1 y2 y4 y6 y7 y8 y9 H' → R [y1, y2, y4, y6, y7, y8, y9] H') → I n x1 x2 x4 x6 x7 x8 x9 H → salvorref11_TruncateContent_L16_b R7 R x1 x2 x4 x6 x7 x8 x9 H K) (n : Nat) {x1 x2 x4 x6 x7 x8 x9 : AV} {H : AH} (h : I n x1 x2 x4 x6 x7 x8 x9 H) : salvorref11_TruncateContent_L16 R7 x1 x2 x4 x6 x7 x8 x9 H K := by
  refine lp_upto (sCode_one _ _) (LI7 I) ?_ n h
  intro n X H h
  obtain ⟨x1, x2, x4, x6, x7, x8, x9, rfl, h⟩ := h.elim
  exact Eq.mpr (salvorref11_TruncateContent_L16_eq R7 _ x1 x2 x4 x6 x7 x8 x9 H K) (round n x1 x2 x4 x6 x7 x8 x9 H (fun X H' => ∃ m, m < n ∧ LI7 I m X H') (fun m y1 y2 y4 y6 y7 y8 y9 H' hm hi => ⟨m, hm, hi⟩) h)
def salvorref11_TruncateContent_L7_b (R7 : List AV → AH → Prop) (x1 x2 x4 x6 x7 : AV) (H : AH) (K : AV → AH → Prop) : Prop :=
bO (ashift 1 x2) fun v0 =>
bO (ald false 1 H v0) fun v1 =>
bO (alnS v1) fun v2 =>
bO (abI .lss x7 v2) fun v3 =>
bB v3 fun t4 => bI t4 (
bO (ashift 1 x2) fun v5 =>
bO (ald false 1 H v5) fun v6 =>
bO (aixS 9 v6 x7) fun v7 =>
bO (ald true 9 H v7) fun v8 =>
bH (anew H (.agg [(.lit (.int .i64 0)), (.lit (.int .u8 0)), (.lit (.int .u8 0)), (.lit (.int .u8 0)), (.lit (.int .u8 0)), (.lit (.int .u8 0)), (.lit (.int .u8 0)), (.lit (.int .u8 0)), (.lit (.int .u8 0))])) fun v9 H10 =>
bS (ast 9 H10 v9 v8) fun H11 =>
bO (ashift 0 v9) fun v12 =>
bO (ald false 1 H11 v12) fun v13 =>
bO (abI .mul v13 (.lit (.int .i64 8))) fun v14 =>
bO (abI .geq v14 x1) fun v15 =>
bB v15 fun t16 => bI t16 (
salvorref11_TruncateContent_J10 R7 x1 x2 x4 x6 x7 H11 K)
 (salvorref11_TruncateContent_L16 R7 x1 x2 x4 x6 x7 v9 (.lit (.int .i64 0)) H11 K))
 (bO (ald true 2 H x6) fun v17 =>
bS (ast 2 H x4 v17) fun H18 =>
bO (ald true 2 H18 x4) fun v19 =>
K (.tup [v19, (.lit (.bool true))]) H18)
theorem salvorref11_TruncateContent_L7_eq (R7 : List AV → AH → Prop) (x1 x2 x4 x6 x7 : AV) (H : AH) (K : AV → AH → Prop) : salvorref11_TruncateContent_c [true, true, true, false, true, false, false] 8 (expand (mk 62 0 [1, 2, 4, 6, 7]) [x1, x2, x4, x6, x7]) H (kLp (mk 62 0 [1, 2, 4, 6, 7]) R7 (kBlk 0 (kSeq (salvorref11_TruncateContent_c [true, true, true, true] 21) (kRet Try.prog Try.f29.results.toList K)))) = salvorref11_TruncateContent_L7_b R7 x1 x2 x4 x6 x7 H K := by kernel_rfl
theorem salvorref11_TruncateContent_L7_rule {K : AV → AH → Prop} (I : Nat → AV → AV → AV → AV → AV → AH → Prop) (round : ∀ (n : Nat) (x1 x2 x4 x6 x7 : AV) (H : AH) (R : List AV → AH → Prop), (∀ (m : Nat) (y1 y2 y4 y6 y7 : AV) (H' : AH), m < n → I m y1 y2 y4 y6 y7 H' → R [y1, y2, y4, y6, y7] H') → I n x1 x2 x4 x6 x7 H → salvorref11_TruncateContent_L7_b R x1 x2 x4 x6 x7 H K) (n : Nat) {x1 x2 x4 x6 x7 : AV} {H : AH} (h : I n x1 x2 x4 x6 x7 H) : salvorref11_TruncateContent_L7 x1 x2 x4 x6 x7 H K := by
  refine lp_upto (sCode_one _ _) (LI5 I) ?_ n h
  intro n X H h
  obtain ⟨x1, x2, x4, x6, x7, rfl, h⟩ := h.elim
  exact Eq.mpr (salvorref11_TruncateContent_L7_eq _ x1 x2 x4 x6 x7 H K) (round n x1 x2 x4 x6 x7 H (fun X H' => ∃ m, m < n ∧ LI5 I m X H') (fun m y1 y2 y4 y6 y7 H' hm hi => ⟨m, hm, hi⟩) h)
def salvorref11_TruncateContent (a0 a1 : AV) (H : AH) (K : AV → AH → Prop) : Prop :=
bH (anew H a0) fun v0 H1 =>
bH (anew H1 (.agg [(.lit (.int .i64 0)), (.lit (.slice none 0 0))])) fun v2 H3 =>
bO (ald true 2 H3 v0) fun v4 =>
bP (PCall Try.prog 23 [v4] H3) fun v5 =>
bO (aun .not v5) fun v6 =>
bG v6 false fun w7 =>
gO w7 (some a1) fun v8 =>
bG v6 false fun w9 =>
gO w9 (abI .lss v8 (.lit (.int .i64 0))) fun v10 =>
bO (apick v6 (.lit (.bool true)) v10) fun v11 =>
bG v11 false fun w12 =>
gO w12 (some a1) fun v13 =>
bG v11 false fun w14 =>
gO w14 (abI .gtr v13 (.lit (.int .i64 1099511627776))) fun v15 =>
bO (apick v11 (.lit (.bool true)) v15) fun v16 =>
bB v16 fun t17 => bI t17 (
bO (abl [(.lit (.int .i64 0)), (.lit (.slice none 0 0))] []) fun v18 =>
bS (ast 2 H3 v2 v18) fun H19 =>
bO (ald true 2 H19 v2) fun v20 =>
K (.tup [v20, (.lit (.bool false))]) H19)
 (bO (abl [(.lit (.int .i64 0)), (.lit (.slice none 0 0))] [(0, 1, a1)]) fun v21 =>
bH (anew H3 (.agg [(.lit (.int .i64 0)), (.lit (.slice none 0 0))])) fun v22 H23 =>
bS (ast 2 H23 v22 v21) fun H24 =>
salvorref11_TruncateContent_L7 a1 v0 v2 v22 (.lit (.int .i64 0)) H24 K)
theorem salvorref11_TruncateContent_eq (a0 a1 : AV) (H : AH) (K : AV → AH → Prop) : sFun Try.prog salvorref11_TruncateContent_fl pql none0 none0 salvorref11_TruncateContent_kp Try.f29 [a0, a1] H K = salvorref11_TruncateContent a0 a1 H K := by kernel_rfl
theorem salvorref11_TruncateContent_ok {a0 a1 : AV} {H : AH} {K : AV → AH → Prop} (h : salvorref11_TruncateContent a0 a1 H K) : ∃ r H', K r H' ∧ BCall Try.prog 29 [a0, a1] H r H' :=
  sFun_ok mixP Try.func29 (by kernel_rfl) (Eq.mpr (salvorref11_TruncateContent_eq a0 a1 H K) h)
/-! salvor/salvorref11.AllocateContent -/
def salvorref11_AllocateContent_fl : Floats := flOf []
def salvorref11_AllocateContent_kp : Nat → Option (List Bool) := kpOf [(11, mk 57 0 [4, 8]), (7, mk 57 0 [1, 2, 3, 4, 8, 10])]
def salvorref11_AllocateContent_c (p : List Bool) (n : Nat) : List AV → AH → Kf → Prop := sCode Try.prog salvorref11_AllocateContent_fl pql none0 none0 salvorref11_AllocateContent_kp (sub p (bodyOf Try.f30)) n
def salvorref11_AllocateContent_J11 (x4 x8 : AV) (H : AH) (K : AV → AH → Prop) : Prop := jn (mk 57 0 [4, 8]) (salvorref11_AllocateContent_c [true, true, true, true, true] 13) [x4, x8] H (kRet Try.prog Try.f30.results.toList K)
def salvorref11_AllocateContent_L7 (x1 x2 x3 x4 x8 x10 : AV) (H : AH) (K : AV → AH → Prop) : Prop := lp (mk 57 0 [1, 2, 3, 4, 8, 10]) (salvorref11_AllocateContent_c [true, true, true, false, true, false, false] 8) [x1, x2, x3, x4, x8, x10] H (kBlk 0 (kSeq (salvorref11_AllocateContent_c [true, true, true, true] 11) (kRet Try.prog Try.f30.results.toList K)))
def salvorref11_AllocateContent_J11_b (x4 x8 : AV) (H : AH) (K : AV → AH → Prop) : Prop :=
bO (ald true 2 H x4) fun v0 =>
bS (ast 2 H x8 v0) fun H1 =>
bO (ald true 2 H1 x8) fun v2 =>
K (.tup [v2, (.lit (.bool true))]) H1
theorem salvorref11_AllocateContent_J11_eq0 (x4 x8 : AV) (H : AH) (K : AV → AH → Prop) : salvorref11_AllocateContent_c [true, true, true, true, true] 13 (expand (mk 57 0 [4, 8]) [x4, x8]) H (kRet Try.prog Try.f30.results.toList K) = salvorref11_AllocateContent_J11_b x4 x8 H K := by kernel_rfl
theorem salvorref11_AllocateContent_J11_eq (x4 x8 : AV) (H : AH) (K : AV → AH → Prop) : salvorref11_AllocateContent_J11 x4 x8 H K = salvorref11_AllocateContent_J11_b x4 x8 H K := (jn_eq _ _ _ _ _).trans (salvorref11_AllocateContent_J11_eq0 x4 x8 H K)
def salvorref11_AllocateContent_L7_b (R7 : List AV → AH → Prop) (x1 x2 x3 x4 x8 x10 : AV) (H : AH) (K : AV → AH → Prop) : Prop :=
bO (abI .mul x10 (.lit (.int .i64 8))) fun v0 =>
bO (abI .add x1 x2) fun v1 =>
bO (abI .lss v0 v1) fun v2 =>
bB v2 fun t3 => bI t3 (
bC (BCall Try.prog 41 [x4, x10] H) fun v4 H5 =>
bO (abI .add x10 (.lit (.int .i64 1))) fun v6 =>
R7 [x1, x2, x3, x4, x8, v6] H5)
 (bO (aun .not x3) fun v7 =>
bB v7 fun t8 => bI t8 (
bO (ashift 0 x4) fun v9 =>
bO (ald false 1 H v9) fun v10 =>
bO (abI .add x1 x2) fun v11 =>
bO (amm imx [v10, v11]) fun v12 =>
bO (ashift 0 x4) fun v13 =>
bS (ast 1 H v13 v12) fun H14 =>
salvorref11_AllocateContent_J11 x4 x8 H14 K)
 (salvorref11_AllocateContent_J11 x4 x8 H K))
theorem salvorref11_AllocateContent_L7_eq (R7 : List AV → AH → Prop) (x1 x2 x3 x4 x8 x10 : AV) (H : AH) (K : AV → AH → Prop) : salvorref11_AllocateContent_c [true, true, true, false, true, false, false] 8 (expand (mk 57 0 [1, 2, 3, 4, 8, 10]) [x1, x2, x3, x4, x8, x10]) H (kLp (mk 57 0 [1, 2, 3, 4, 8, 10]) R7 (kBlk 0 (kSeq (salvorref11_AllocateContent_c [true, true, true, true] 11) (kRet Try.prog Try.f30.results.toList K)))) = salvorref11_AllocateContent_L7_b R7 x1 x2 x3 x4 x8 x10 H K := by kernel_rfl
theorem salvorref11_AllocateContent_L7_rule {K : AV → AH → Prop} (I : Nat → AV → AV → AV → AV → AV → AV → AH → Prop) (round : ∀ (n : Nat) (x1 x2 x3 x4 x8 x10 : AV) (H : AH) (R : List AV → AH → Prop), (∀ (m : Nat) (y1 y2 y3 y4 y8 y10 : AV) (H' : AH), m < n → I m y1 y2 y3 y4 y8 y10 H' → R [y1, y2, y3, y4, y8, y10] H') → I n x1 x2 x3 x4 x8 x10 H → salvorref11_AllocateContent_L7_b R x1 x2 x3 x4 x8 x10 H K) (n : Nat) {x1 x2 x3 x4 x8 x10 : AV} {H : AH} (h : I n x1 x2 x3 x4 x8 x10 H) : salvorref11_AllocateContent_L7 x1 x2 x3 x4 x8 x10 H K := by
  refine lp_upto (sCode_one _ _) (LI6 I) ?_ n h
  intro n X H h
  obtain ⟨x1, x2, x3, x4, x8, x10, rfl, h⟩ := h.elim
  exact Eq.mpr (salvorref11_AllocateContent_L7_eq _ x1 x2 x3 x4 x8 x10 H K) (round n x1 x2 x3 x4 x8 x10 H (fun X H' => ∃ m, m < n ∧ LI6 I m X H') (fun m y1 y2 y3 y4 y8 y10 H' hm hi => ⟨m, hm, hi⟩) h)
def salvorref11_AllocateContent (a0 a1 a2 a3 : AV) (H : AH) (K : AV → AH → Prop) : Prop :=
bH (anew H a0) fun v0 H1 =>
bH (anew H1 (.agg [(.lit (.int .i64 0)), (.lit (.slice none 0 0))])) fun v2 H3 =>
bO (ald true 2 H3 v0) fun v4 =>
bP (PCall Try.prog 23 [v4] H3) fun v5 =>
bO (aun .not v5) fun v6 =>
bG v6 false fun w7 =>
gO w7 (some a1) fun v8 =>
bG v6 false fun w9 =>
gO w9 (abI .lss v8 (.lit (.int .i64 0))) fun v10 =>
bO (apick v6 (.lit (.bool true)) v10) fun v11 =>
bG v11 false fun w12 =>
gO w12 (some a2) fun v13 =>
bG v11 false fun w14 =>
gO w14 (abI .lss v13 (.lit (.int .i64 1))) fun v15 =>
bO (apick v11 (.lit (.bool true)) v15) fun v16 =>
bG v16 false fun w17 =>
gO w17 (some a2) fun v18 =>
bG v16 false fun w19 =>
gO w19 (abI .gtr v18 (.lit (.int .i64 32768))) fun v20 =>
bO (apick v16 (.lit (.bool true)) v20) fun v21 =>
bG v21 false fun w22 =>
gO w22 (some a1) fun v23 =>
bG v21 false fun w24 =>
gO w24 (some a2) fun v25 =>
bG v21 false fun w26 =>
gO w26 (abI .sub (.lit (.int .i64 1099511627776)) v25) fun v27 =>
bG v21 false fun w28 =>
gO w28 (abI .gtr v23 v27) fun v29 =>
bO (apick v21 (.lit (.bool true)) v29) fun v30 =>
bB v30 fun t31 => bI t31 (
bO (abl [(.lit (.int .i64 0)), (.lit (.slice none 0 0))] []) fun v32 =>
bS (ast 2 H3 v2 v32) fun H33 =>
bO (ald true 2 H33 v2) fun v34 =>
K (.tup [v34, (.lit (.bool false))]) H33)
 (bO (ald true 2 H3 v0) fun v35 =>
bC (BCall Try.prog 40 [v35] H3) fun v36 H37 =>
bS (ast 2 H37 v0 v36) fun H38 =>
bO (abI .quo a1 (.lit (.int .i64 8))) fun v39 =>
salvorref11_AllocateContent_L7 a1 a2 a3 v0 v2 v39 H38 K)
theorem salvorref11_AllocateContent_eq (a0 a1 a2 a3 : AV) (H : AH) (K : AV → AH → Prop) : sFun Try.prog salvorref11_AllocateContent_fl pql none0 none0 salvorref11_AllocateContent_kp Try.f30 [a0, a1, a2, a3] H K = salvorref11_AllocateContent a0 a1 a2 a3 H K := by kernel_rfl
theorem salvorref11_AllocateContent_ok {a0 a1 a2 a3 : AV} {H : AH} {K : AV → AH → Prop} (h : salvorref11_AllocateContent a0 a1 a2 a3 H K) : ∃ r H', K r H' ∧ BCall Try.prog 30 [a0, a1, a2, a3] H r H' :=
  sFun_ok mixP Try.func30 (by kernel_rfl) (Eq.mpr (salvorref11_AllocateContent_eq a0 a1 a2 a3 H K) h)
/-! salvor/salvorref11.PunchContent -/
def salvorref11_PunchContent_fl : Floats := flOf []
def salvorref11_PunchContent_kp : Nat → Option (List Bool) := kpOf [(10, mk 84 0 [1, 2, 3, 6, 8, 9]), (18, mk 84 0 [1, 2, 3, 6, 8, 9, 10, 11, 12]), (15, mk 84 0 [1, 2, 3, 6, 8, 9, 10, 11, 12]), (7, mk 84 0 [1, 2, 3, 6, 8, 9])]
def salvorref11_PunchContent_c (p : List Bool) (n : Nat) : List AV → AH → Kf → Prop := sCode Try.prog salvorref11_PunchContent_fl pql none0 none0 salvorref11_PunchContent_kp (sub p (bodyOf Try.f31)) n
def salvorref11_PunchContent_J18 (R15 : List AV → AH → Prop) (R7 : List AV → AH → Prop) (x1 x2 x3 x6 x8 x9 x10 x11 x12 : AV) (H : AH) (K : AV → AH → Prop) : Prop := jn (mk 84 0 [1, 2, 3, 6, 8, 9, 10, 11, 12]) (salvorref11_PunchContent_c [true, true, true, false, true, false, false, true, false, false, true, true, false, true, false, false, true, true] 22) [x1, x2, x3, x6, x8, x9, x10, x11, x12] H (kLp (mk 84 0 [1, 2, 3, 6, 8, 9, 10, 11, 12]) R15 (kBlk 2 (kSeq (salvorref11_PunchContent_c [true, true, true, false, true, false, false, true, false, false, true, true, true] 22) (kBlk 1 (kSeq (cutC (mk 84 0 [1, 2, 3, 6, 8, 9]) (salvorref11_PunchContent_c [true, true, true, false, true, false, false, true, true] 23)) (kLp (mk 84 0 [1, 2, 3, 6, 8, 9]) R7 (kBlk 0 (kSeq (salvorref11_PunchContent_c [true, true, true, true] 23) (kRet Try.prog Try.f31.results.toList K)))))))))
def salvorref11_PunchContent_J10 (R7 : List AV → AH → Prop) (x1 x2 x3 x6 x8 x9 : AV) (H : AH) (K : AV → AH → Prop) : Prop := jn (mk 84 0 [1, 2, 3, 6, 8, 9]) (salvorref11_PunchContent_c [true, true, true, false, true, false, false, true, true] 23) [x1, x2, x3, x6, x8, x9] H (kLp (mk 84 0 [1, 2, 3, 6, 8, 9]) R7 (kBlk 0 (kSeq (salvorref11_PunchContent_c [true, true, true, true] 23) (kRet Try.prog Try.f31.results.toList K))))
def salvorref11_PunchContent_L15 (R7 : List AV → AH → Prop) (x1 x2 x3 x6 x8 x9 x10 x11 x12 : AV) (H : AH) (K : AV → AH → Prop) : Prop := lp (mk 84 0 [1, 2, 3, 6, 8, 9, 10, 11, 12]) (salvorref11_PunchContent_c [true, true, true, false, true, false, false, true, false, false, true, true, false, true, false, false] 16) [x1, x2, x3, x6, x8, x9, x10, x11, x12] H (kBlk 2 (kSeq (salvorref11_PunchContent_c [true, true, true, false, true, false, false, true, false, false, true, true, true] 22) (kBlk 1 (kSeq (cutC (mk 84 0 [1, 2, 3, 6, 8, 9]) (salvorref11_PunchContent_c [true, true, true, false, true, false, false, true, true] 23)) (kLp (mk 84 0 [1, 2, 3, 6, 8, 9]) R7 (kBlk 0 (kSeq (salvorref11_PunchContent_c [true, true, true, true] 23) (kRet Try.prog Try.f31.results.toList K))))))))
def salvorref11_PunchContent_L7 (x1 x2 x3 x6 x8 x9 : AV) (H : AH) (K : AV → AH → Prop) : Prop := lp (mk 84 0 [1, 2, 3, 6, 8, 9]) (salvorref11_PunchContent_c [true, true, true, false, true, false, false] 8) [x1, x2, x3, x6, x8, x9] H (kBlk 0 (kSeq (salvorref11_PunchContent_c [true, true, true, true] 23) (kRet Try.prog Try.f31.results.toList K)))
def salvorref11_PunchContent_J18_b (R15 : List AV → AH → Prop) (R7 : List AV → AH → Prop) (x1 x2 x3 x6 x8 x9 x10 x11 x12 : AV) (H : AH) (K : AV → AH → Prop) : Prop :=
bO (abI .add x12 (.lit (.int .i64 1))) fun v0 =>
R15 [x1, x2, x3, x6, x8, x9, x10, x11, v0] H
theorem salvorref11_PunchContent_J18_eq0 (R15 : List AV → AH → Prop) (R7 : List AV → AH → Prop) (x1 x2 x3 x6 x8 x9 x10 x11 x12 : AV) (H : AH) (K : AV → AH → Prop) : salvorref11_PunchContent_c [true, true, true, false, true, false, false, true, false, false, true, true, false, true, false, false, true, true] 22 (expand (mk 84 0 [1, 2, 3, 6, 8, 9, 10, 11, 12]) [x1, x2, x3, x6, x8, x9, x10, x11, x12]) H (kLp (mk 84 0 [1, 2, 3, 6, 8, 9, 10, 11, 12]) R15 (kBlk 2 (kSeq (salvorref11_PunchContent_c [true, true, true, false, true, false, false, true, false, false, true, true, true] 22) (kBlk 1 (kSeq (cutC (mk 84 0 [1, 2, 3, 6, 8, 9]) (salvorref11_PunchContent_c [true, true, true, false, true, false, false, true, true] 23)) (kLp (mk 84 0 [1, 2, 3, 6, 8, 9]) R7 (kBlk 0 (kSeq (salvorref11_PunchContent_c [true, true, true, true] 23) (kRet Try.prog Try.f31.results.toList K))))))))) = salvorref11_PunchContent_J18_b R15 R7 x1 x2 x3 x6 x8 x9 x10 x11 x12 H K := by kernel_rfl
theorem salvorref11_PunchContent_J18_eq (R15 : List AV → AH → Prop) (R7 : List AV → AH → Prop) (x1 x2 x3 x6 x8 x9 x10 x11 x12 : AV) (H : AH) (K : AV → AH → Prop) : salvorref11_PunchContent_J18 R15 R7 x1 x2 x3 x6 x8 x9 x10 x11 x12 H K = salvorref11_PunchContent_J18_b R15 R7 x1 x2 x3 x6 x8 x9 x10 x11 x12 H K := (jn_eq _ _ _ _ _).trans (salvorref11_PunchContent_J18_eq0 R15 R7 x1 x2 x3 x6 x8 x9 x10 x11 x12 H K)
def salvorref11_PunchContent_J10_b (R7 : List AV → AH → Prop) (x1 x2 x3 x6 x8 x9 : AV) (H : AH) (K : AV → AH → Prop) : Prop :=
bO (abI .add x9 (.lit (.int .i64 1))) fun v0 =>
R7 [x1, x2, x3, x6, x8, v0] H
theorem salvorref11_PunchContent_J10_eq0 (R7 : List AV → AH → Prop) (x1 x2 x3 x6 x8 x9 : AV) (H : AH) (K : AV → AH → Prop) : salvorref11_PunchContent_c [true, true, true, false, true, false, false, true, true] 23 (expand (mk 84 0 [1, 2, 3, 6, 8, 9]) [x1, x2, x3, x6, x8, x9]) H (kLp (mk 84 0 [1, 2, 3, 6, 8, 9]) R7 (kBlk 0 (kSeq (salvorref11_PunchContent_c [true, true, true, true] 23) (kRet Try.prog Try.f31.results.toList K)))) = salvorref11_PunchContent_J10_b R7 x1 x2 x3 x6 x8 x9 H K := by kernel_rfl
theorem salvorref11_PunchContent_J10_eq (R7 : List AV → AH → Prop) (x1 x2 x3 x6 x8 x9 : AV) (H : AH) (K : AV → AH → Prop) : salvorref11_PunchContent_J10 R7 x1 x2 x3 x6 x8 x9 H K = salvorref11_PunchContent_J10_b R7 x1 x2 x3 x6 x8 x9 H K := (jn_eq _ _ _ _ _).trans (salvorref11_PunchContent_J10_eq0 R7 x1 x2 x3 x6 x8 x9 H K)
def salvorref11_PunchContent_L15_b (R7 : List AV → AH → Prop) (R15 : List AV → AH → Prop) (x1 x2 x3 x6 x8 x9 x10 x11 x12 : AV) (H : AH) (K : AV → AH → Prop) : Prop :=
bO (abI .lss x12 (.lit (.int .i64 8))) fun v0 =>
bB v0 fun t1 => bI t1 (
bO (ashift 0 x10) fun v2 =>
bO (ald false 1 H v2) fun v3 =>
bO (abI .mul v3 (.lit (.int .i64 8))) fun v4 =>
bO (abI .add v4 x12) fun v5 =>
bO (abI .geq v5 x1) fun v6 =>
bG v6 true fun w7 =>
gO w7 (some v5) fun v8 =>
bG v6 true fun w9 =>
gO w9 (some x1) fun v10 =>
bG v6 true fun w11 =>
gO w11 (some x2) fun v12 =>
bG v6 true fun w13 =>
gO w13 (abI .add v10 v12) fun v14 =>
bG v6 true fun w15 =>
gO w15 (abI .lss v8 v14) fun v16 =>
bO (apick v6 v16 (.lit (.bool false))) fun v17 =>
bB v17 fun t18 => bI t18 (
bO (ashift 1 x10) fun v19 =>
bO (aixA 8 1 v19 x12) fun v20 =>
bS (ast 1 H v20 (.lit (.int .u8 0))) fun H21 =>
bO (abI .add x11 (.lit (.int .i64 1))) fun v22 =>
salvorref11_PunchContent_J18 R15 R7 x1 x2 x3 x6 x8 x9 x10 v22 x12 H21 K)
 (salvorref11_PunchContent_J18 R15 R7 x1 x2 x3 x6 x8 x9 x10 x11 x12 H K))
 (bO (abI .lss x11 (.lit (.int .i64 8))) fun v23 =>
bB v23 fun t24 => bI t24 (
bO (ashift 1 x8) fun v25 =>
bO (ald false 1 H v25) fun v26 =>
bO (ald true 9 H x10) fun v27 =>
bH (absl H 9 1 (zrow [(.lit (.int .i64 0)), (.lit (.int .u8 0)), (.lit (.int .u8 0)), (.lit (.int .u8 0)), (.lit (.int .u8 0)), (.lit (.int .u8 0)), (.lit (.int .u8 0)), (.lit (.int .u8 0)), (.lit (.int .u8 0))] 1) [(0, 9, v27)]) fun v28 H29 =>
bH (aap 9 16 H29 v26 v28) fun v30 H31 =>
bO (ashift 1 x8) fun v32 =>
bS (ast 1 H31 v32 v30) fun H33 =>
salvorref11_PunchContent_J10 R7 x1 x2 x3 x6 x8 x9 H33 K)
 (salvorref11_PunchContent_J10 R7 x1 x2 x3 x6 x8 x9 H K))
theorem salvorref11_PunchContent_L15_eq (R7 : List AV → AH → Prop) (R15 : List AV → AH → Prop) (x1 x2 x3 x6 x8 x9 x10 x11 x12 : AV) (H : AH) (K : AV → AH → Prop) : salvorref11_PunchContent_c [true, true, true, false, true, false, false, true, false, false, true, true, false, true, false, false] 16 (expand (mk 84 0 [1, 2, 3, 6, 8, 9, 10, 11, 12]) [x1, x2, x3, x6, x8, x9, x10, x11, x12]) H (kLp (mk 84 0 [1, 2, 3, 6, 8, 9, 10, 11, 12]) R15 (kBlk 2 (kSeq (salvorref11_PunchContent_c [true, true, true, false, true, false, false, true, false, false, true, true, true] 22) (kBlk 1 (kSeq (cutC (mk 84 0 [1, 2, 3, 6, 8, 9]) (salvorref11_PunchContent_c [true, true, true, false, true, false, false, true, true] 23)) (kLp (mk 84 0 [1, 2, 3, 6, 8, 9]) R7 (kBlk 0 (kSeq (salvorref11_PunchContent_c [true, true, true, true] 23) (kRet Try.prog Try.f31.results.toList K))))))))) = salvorref11_PunchContent_L15_b R7 R15 x1 x2 x3 x6 x8 x9 x10 x11 x12 H K := by kernel_rfl
theorem salvorref11_PunchContent_L15_rule (R7 : List AV → AH → Prop) {K : AV → AH → Prop} (I : Nat → AV → AV → AV → AV → AV → AV → AV → AV → AV → AH → Prop) (round : ∀ (n : Nat) (x1 x2 x3 x6 x8 x9 x10 x11 x12 : AV) (H : AH) (R : List AV → AH → Prop), (∀ (m : Nat) (y1 y2 y3 y6 y8 y9 y10 y11 y12 : AV) (H' : AH), m < n → I m y1 y2 y3 y6 y8 y9 y10 y11 y12 H' → R [y1, y2, y3, y6, y8, y9, y10, y11, y12] H') → I n x1 x2 x3 x6 x8 x9 x10 x11 x12 H → salvorref11_PunchContent_L15_b R7 R x1 x2 x3 x6 x8 x9 x10 x11 x12 H K) (n : Nat) {x1 x2 x3 x6 x8 x9 x10 x11 x12 : AV} {H : AH} (h : I n x1 x2 x3 x6 x8 x9 x10 x11 x12 H) : salvorref11_PunchContent_L15 R7 x1 x2 x3 x6 x8 x9 x10 x11 x12 H K := by
  refine lp_upto (sCode_one _ _) (LI9 I) ?_ n h
  intro n X H h
  obtain ⟨x1, x2, x3, x6, x8, x9, x10, x11, x12, rfl, h⟩ := h.elim
  exact Eq.mpr (salvorref11_PunchContent_L15_eq R7 _ x1 x2 x3 x6 x8 x9 x10 x11 x12 H K) (round n x1 x2 x3 x6 x8 x9 x10 x11 x12 H (fun X H' => ∃ m, m < n ∧ LI9 I m X H') (fun m y1 y2 y3 y6 y8 y9 y10 y11 y12 H' hm hi => ⟨m, hm, hi⟩) h)
def salvorref11_PunchContent_L7_b (R7 : List AV → AH → Prop) (x1 x2 x3 x6 x8 x9 : AV) (H : AH) (K : AV → AH → Prop) : Prop :=
bO (ashift 1 x3) fun v0 =>
bO (ald false 1 H v0) fun v1 =>
bO (alnS v1) fun v2 =>
bO (abI .lss x9 v2) fun v3 =>
bB v3 fun t4 => bI t4 (
bO (ashift 1 x3) fun v5 =>
bO (ald false 1 H v5) fun v6 =>
bO (aixS 9 v6 x9) fun v7 =>
bO (ald true 9 H v7) fun v8 =>
bH (anew H (.agg [(.lit (.int .i64 0)), (.lit (.int .u8 0)), (.lit (.int .u8 0)), (.lit (.int .u8 0)), (.lit (.int .u8 0)), (.lit (.int .u8 0)), (.lit (.int .u8 0)), (.lit (.int .u8 0)), (.lit (.int .u8 0))])) fun v9 H10 =>
bS (ast 9 H10 v9 v8) fun H11 =>
salvorref11_PunchContent_L15 R7 x1 x2 x3 x6 x8 x9 v9 (.lit (.int .i64 0)) (.lit (.int .i64 0)) H11 K)
 (bO (ald true 2 H x8) fun v12 =>
bS (ast 2 H x6 v12) fun H13 =>
bO (ald true 2 H13 x6) fun v14 =>
K (.tup [v14, (.lit (.bool true))]) H13)
theorem salvorref11_PunchContent_L7_eq (R7 : List AV → AH → Prop) (x1 x2 x3 x6 x8 x9 : AV) (H : AH) (K : AV → AH → Prop) : salvorref11_PunchContent_c [true, true, true, false, true, false, false] 8 (expand (mk 84 0 [1, 2, 3, 6, 8, 9]) [x1, x2, x3, x6, x8, x9]) H (kLp (mk 84 0 [1, 2, 3, 6, 8, 9]) R7 (kBlk 0 (kSeq (salvorref11_PunchContent_c [true, true, true, true] 23) (kRet Try.prog Try.f31.results.toList K)))) = salvorref11_PunchContent_L7_b R7 x1 x2 x3 x6 x8 x9 H K := by kernel_rfl
theorem salvorref11_PunchContent_L7_rule {K : AV → AH → Prop} (I : Nat → AV → AV → AV → AV → AV → AV → AH → Prop) (round : ∀ (n : Nat) (x1 x2 x3 x6 x8 x9 : AV) (H : AH) (R : List AV → AH → Prop), (∀ (m : Nat) (y1 y2 y3 y6 y8 y9 : AV) (H' : AH), m < n → I m y1 y2 y3 y6 y8 y9 H' → R [y1, y2, y3, y6, y8, y9] H') → I n x1 x2 x3 x6 x8 x9 H → salvorref11_PunchContent_L7_b R x1 x2 x3 x6 x8 x9 H K) (n : Nat) {x1 x2 x3 x6 x8 x9 : AV} {H : AH} (h : I n x1 x2 x3 x6 x8 x9 H) : salvorref11_PunchContent_L7 x1 x2 x3 x6 x8 x9 H K := by
  refine lp_upto (sCode_one _ _) (LI6 I) ?_ n h
  intro n X H h
  obtain ⟨x1, x2, x3, x6, x8, x9, rfl, h⟩ := h.elim
  exact Eq.mpr (salvorref11_PunchContent_L7_eq _ x1 x2 x3 x6 x8 x9 H K) (round n x1 x2 x3 x6 x8 x9 H (fun X H' => ∃ m, m < n ∧ LI6 I m X H') (fun m y1 y2 y3 y6 y8 y9 H' hm hi => ⟨m, hm, hi⟩) h)
def salvorref11_PunchContent (a0 a1 a2 : AV) (H : AH) (K : AV → AH → Prop) : Prop :=
bH (anew H a0) fun v0 H1 =>
bH (anew H1 (.agg [(.lit (.int .i64 0)), (.lit (.slice none 0 0))])) fun v2 H3 =>
bO (ald true 2 H3 v0) fun v4 =>
bP (PCall Try.prog 23 [v4] H3) fun v5 =>
bO (aun .not v5) fun v6 =>
bG v6 false fun w7 =>
gO w7 (some a1) fun v8 =>
bG v6 false fun w9 =>
gO w9 (abI .lss v8 (.lit (.int .i64 0))) fun v10 =>
bO (apick v6 (.lit (.bool true)) v10) fun v11 =>
bG v11 false fun w12 =>
gO w12 (some a2) fun v13 =>
bG v11 false fun w14 =>
gO w14 (abI .lss v13 (.lit (.int .i64 1))) fun v15 =>
bO (apick v11 (.lit (.bool true)) v15) fun v16 =>
bG v16 false fun w17 =>
gO w17 (some a2) fun v18 =>
bG v16 false fun w19 =>
gO w19 (abI .gtr v18 (.lit (.int .i64 1099511627776))) fun v20 =>
bO (apick v16 (.lit (.bool true)) v20) fun v21 =>
bG v21 false fun w22 =>
gO w22 (some a1) fun v23 =>
bG v21 false fun w24 =>
gO w24 (some a2) fun v25 =>
bG v21 false fun w26 =>
gO w26 (abI .sub (.lit (.int .i64 1099511627776)) v25) fun v27 =>
bG v21 false fun w28 =>
gO w28 (abI .gtr v23 v27) fun v29 =>
bO (apick v21 (.lit (.bool true)) v29) fun v30 =>
bB v30 fun t31 => bI t31 (
bO (abl [(.lit (.int .i64 0)), (.lit (.slice none 0 0))] []) fun v32 =>
bS (ast 2 H3 v2 v32) fun H33 =>
bO (ald true 2 H33 v2) fun v34 =>
K (.tup [v34, (.lit (.bool false))]) H33)
 (bO (ashift 0 v0) fun v35 =>
bO (ald false 1 H3 v35) fun v36 =>
bO (abl [(.lit (.int .i64 0)), (.lit (.slice none 0 0))] [(0, 1, v36)]) fun v37 =>
bH (anew H3 (.agg [(.lit (.int .i64 0)), (.lit (.slice none 0 0))])) fun v38 H39 =>
bS (ast 2 H39 v38 v37) fun H40 =>
salvorref11_PunchContent_L7 a1 a2 v0 v2 v38 (.lit (.int .i64 0)) H40 K)
theorem salvorref11_PunchContent_eq (a0 a1 a2 : AV) (H : AH) (K : AV → AH → Prop) : sFun Try.prog salvorref11_PunchContent_fl pql none0 none0 salvorref11_PunchContent_kp Try.f31 [a0, a1, a2] H K = salvorref11_PunchContent a0 a1 a2 H K := by kernel_rfl
theorem salvorref11_PunchContent_ok {a0 a1 a2 : AV} {H : AH} {K : AV → AH → Prop} (h : salvorref11_PunchContent a0 a1 a2 H K) : ∃ r H', K r H' ∧ BCall Try.prog 31 [a0, a1, a2] H r H' :=
  sFun_ok mixP Try.func31 (by kernel_rfl) (Eq.mpr (salvorref11_PunchContent_eq a0 a1 a2 H K) h)
/-! salvor/extent.Fits -/
def extent_Fits_fl : Floats := flOf []
def extent_Fits_kp : Nat → Option (List Bool) := kpOf []
def extent_Fits_c (p : List Bool) (n : Nat) : List AV → AH → Kf → Prop := sCode Try.prog extent_Fits_fl pql none0 none0 extent_Fits_kp (sub p (bodyOf Try.f32)) n
def extent_Fits (a0 a1 : AV) (H : AH) (K : AV → AH → Prop) : Prop :=
bO (abI .geq a0 (.lit (.int .i64 0))) fun v0 =>
bG v0 true fun w1 =>
gO w1 (some a1) fun v2 =>
bG v0 true fun w3 =>
gO w3 (abI .leq v2 (.lit (.int .i64 4096))) fun v4 =>
bO (apick v0 v4 (.lit (.bool false))) fun v5 =>
bG v5 true fun w6 =>
gO w6 (some a0) fun v7 =>
bG v5 true fun w8 =>
gO w8 (some a1) fun v9 =>
bG v5 true fun w10 =>
gO w10 (abI .sub (.lit (.int .i64 1099511627776)) v9) fun v11 =>
bG v5 true fun w12 =>
gO w12 (abI .leq v7 v11) fun v13 =>
bO (apick v5 v13 (.lit (.bool false))) fun v14 =>
K v14 H
theorem extent_Fits_eq (a0 a1 : AV) (H : AH) (K : AV → AH → Prop) : sFun Try.prog extent_Fits_fl pql none0 none0 extent_Fits_kp Try.f32 [a0, a1] H K = extent_Fits a0 a1 H K := by kernel_rfl
theorem extent_Fits_ok {a0 a1 : AV} {H : AH} {K : AV → AH → Prop} (h : extent_Fits a0 a1 H K) : ∃ r H', K r H' ∧ BCall Try.prog 32 [a0, a1] H r H' :=
  sFun_ok mixP Try.func32 (by kernel_rfl) (Eq.mpr (extent_Fits_eq a0 a1 H K) h)
/-! salvor/extent.copied -/
def extent_copied_fl : Floats := flOf [(1, [(1, some 4)])]
def extent_copied_kp : Nat → Option (List Bool) := kpOf []
def extent_copied_c (p : List Bool) (n : Nat) : List AV → AH → Kf → Prop := sCode Try.prog extent_copied_fl pql none0 none0 extent_copied_kp (sub p (bodyOf Try.f33)) n
def extent_copied (a0 : AV) (H : AH) (K : AV → AH → Prop) : Prop :=
bH (anew H a0) fun v0 H1 =>
bH (anew H1 (.agg [(.lit (.int .i64 0)), (.lit (.slice none 0 0))])) fun v2 H3 =>
bO (ashift 0 v0) fun v4 =>
bO (ald false 1 H3 v4) fun v5 =>
bO (ashift 1 v0) fun v6 =>
bO (ald false 1 H3 v6) fun v7 =>
bC (BCall Try.prog 51 [v7] H3) fun v8 H9 =>
bO (abl [(.lit (.int .i64 0)), (.lit (.slice none 0 0))] [(0, 1, v5), (1, 1, v8)]) fun v10 =>
bS (ast 2 H9 v2 v10) fun H11 =>
(ald false 1 H9 v4 = some v5) ∧
bO (ald true 2 H11 v2) fun v12 =>
K v12 H11
theorem extent_copied_eq (a0 : AV) (H : AH) (K : AV → AH → Prop) : sFun Try.prog extent_copied_fl pql none0 none0 extent_copied_kp Try.f33 [a0] H K = extent_copied a0 H K := by kernel_rfl
theorem extent_copied_ok {a0 : AV} {H : AH} {K : AV → AH → Prop} (h : extent_copied a0 H K) : ∃ r H', K r H' ∧ BCall Try.prog 33 [a0] H r H' :=
  sFun_ok mixP Try.func33 (by kernel_rfl) (Eq.mpr (extent_copied_eq a0 H K) h)
/-! salvor/off.Parts -/
def off_Parts_fl : Floats := flOf []
def off_Parts_kp : Nat → Option (List Bool) := kpOf [(6, mk 48 0 [1, 2, 5])]
def off_Parts_c (p : List Bool) (n : Nat) : List AV → AH → Kf → Prop := sCode Try.prog off_Parts_fl pql none0 none0 off_Parts_kp (sub p (bodyOf Try.f34)) n
def off_Parts_L6 (x1 x2 x5 : AV) (H : AH) (K : AV → AH → Prop) : Prop := lp (mk 48 0 [1, 2, 5]) (off_Parts_c [true, true, true, false, false, false] 7) [x1, x2, x5] H (kBlk 0 (kSeq (off_Parts_c [true, true, true, true] 11) (kRet Try.prog Try.f34.results.toList K)))
def off_Parts_L6_b (R6 : List AV → AH → Prop) (x1 x2 x5 : AV) (H : AH) (K : AV → AH → Prop) : Prop :=
bO (ashift 1 x2) fun v0 =>
bO (ald false 1 H v0) fun v1 =>
bO (abI .gtr v1 (.lit (.int .i64 0))) fun v2 =>
bB v2 fun t3 => bI t3 (
bO (ashift 1 x2) fun v4 =>
bO (ald false 1 H v4) fun v5 =>
bO (ashift 0 x2) fun v6 =>
bO (ald false 1 H v6) fun v7 =>
bO (abI .rem v7 x1) fun v8 =>
bO (abI .sub x1 v8) fun v9 =>
bO (amm imn [v5, v9]) fun v10 =>
bO (ashift 0 x2) fun v11 =>
bO (ald false 1 H v11) fun v12 =>
bO (abl [(.lit (.int .i64 0)), (.lit (.int .i64 0))] [(0, 1, v12), (1, 1, v10)]) fun v13 =>
bH (absl H 2 1 (zrow [(.lit (.int .i64 0)), (.lit (.int .i64 0))] 1) [(0, 2, v13)]) fun v14 H15 =>
bH (aap 2 16 H15 x5 v14) fun v16 H17 =>
bO (ashift 0 x2) fun v18 =>
bO (ald false 1 H17 v18) fun v19 =>
bO (abI .add v19 v10) fun v20 =>
bO (ashift 1 x2) fun v21 =>
bO (ald false 1 H17 v21) fun v22 =>
bO (abI .sub v22 v10) fun v23 =>
bO (abl [(.lit (.int .i64 0)), (.lit (.int .i64 0))] [(0, 1, v20), (1, 1, v23)]) fun v24 =>
bS (ast 2 H17 x2 v24) fun H25 =>
R6 [x1, x2, v16] H25)
 (K x5 H)
theorem off_Parts_L6_eq (R6 : List AV → AH → Prop) (x1 x2 x5 : AV) (H : AH) (K : AV → AH → Prop) : off_Parts_c [true, true, true, false, false, false] 7 (expand (mk 48 0 [1, 2, 5]) [x1, x2, x5]) H (kLp (mk 48 0 [1, 2, 5]) R6 (kBlk 0 (kSeq (off_Parts_c [true, true, true, true] 11) (kRet Try.prog Try.f34.results.toList K)))) = off_Parts_L6_b R6 x1 x2 x5 H K := by kernel_rfl
theorem off_Parts_L6_rule {K : AV → AH → Prop} (I : Nat → AV → AV → AV → AH → Prop) (round : ∀ (n : Nat) (x1 x2 x5 : AV) (H : AH) (R : List AV → AH → Prop), (∀ (m : Nat) (y1 y2 y5 : AV) (H' : AH), m < n → I m y1 y2 y5 H' → R [y1, y2, y5] H') → I n x1 x2 x5 H → off_Parts_L6_b R x1 x2 x5 H K) (n : Nat) {x1 x2 x5 : AV} {H : AH} (h : I n x1 x2 x5 H) : off_Parts_L6 x1 x2 x5 H K := by
  refine lp_upto (sCode_one _ _) (LI3 I) ?_ n h
  intro n X H h
  obtain ⟨x1, x2, x5, rfl, h⟩ := h.elim
  exact Eq.mpr (off_Parts_L6_eq _ x1 x2 x5 H K) (round n x1 x2 x5 H (fun X H' => ∃ m, m < n ∧ LI3 I m X H') (fun m y1 y2 y5 H' hm hi => ⟨m, hm, hi⟩) h)
def off_Parts (a0 a1 : AV) (H : AH) (K : AV → AH → Prop) : Prop :=
bH (anew H a0) fun v0 H1 =>
bO (ald true 2 H1 v0) fun v2 =>
bP (PCall Try.prog 52 [v2] H1) fun v3 =>
bO (aun .not v3) fun v4 =>
bG v4 false fun w5 =>
gO w5 (ashift 1 v0) fun v6 =>
bG v4 false fun w7 =>
gO w7 (ald false 1 H1 v6) fun v8 =>
bG v4 false fun w9 =>
gO w9 (abI .gtr v8 (.lit (.int .i64 4096))) fun v10 =>
bO (apick v4 (.lit (.bool true)) v10) fun v11 =>
bG v11 false fun w12 =>
gO w12 (some a1) fun v13 =>
bG v11 false fun w14 =>
gO w14 (abI .lss v13 (.lit (.int .i64 1))) fun v15 =>
bO (apick v11 (.lit (.bool true)) v15) fun v16 =>
bB v16 fun t17 => bI t17 (
K (.lit (.slice none 0 0)) H1)
 (off_Parts_L6 a1 v0 (.lit (.slice none 0 0)) H1 K)
theorem off_Parts_eq (a0 a1 : AV) (H : AH) (K : AV → AH → Prop) : sFun Try.prog off_Parts_fl pql none0 none0 off_Parts_kp Try.f34 [a0, a1] H K = off_Parts a0 a1 H K := by kernel_rfl
theorem off_Parts_ok {a0 a1 : AV} {H : AH} {K : AV → AH → Prop} (h : off_Parts a0 a1 H K) : ∃ r H', K r H' ∧ BCall Try.prog 34 [a0, a1] H r H' :=
  sFun_ok mixP Try.func34 (by kernel_rfl) (Eq.mpr (off_Parts_eq a0 a1 H K) h)
/-! salvor/extent.need -/
def extent_need_fl : Floats := flOf []
def extent_need_kp : Nat → Option (List Bool) := kpOf [(2, mk 31 0 [5])]
def extent_need_c (p : List Bool) (n : Nat) : List AV → AH → Kf → Prop := sCode Try.prog extent_need_fl pql none0 none0 extent_need_kp (sub p (bodyOf Try.f35)) n
def extent_need_J2 (x5 : AV) (H : AH) (K : AV → AH → Prop) : Prop := jn (mk 31 0 [5]) (extent_need_c [true, true, true] 4) [x5] H (kRet Try.prog Try.f35.results.toList K)
def extent_need_J2_b (x5 : AV) (H : AH) (K : AV → AH → Prop) : Prop :=
K x5 H
theorem extent_need_J2_eq0 (x5 : AV) (H : AH) (K : AV → AH → Prop) : extent_need_c [true, true, true] 4 (expand (mk 31 0 [5]) [x5]) H (kRet Try.prog Try.f35.results.toList K) = extent_need_J2_b x5 H K := by kernel_rfl
theorem extent_need_J2_eq (x5 : AV) (H : AH) (K : AV → AH → Prop) : extent_need_J2 x5 H K = extent_need_J2_b x5 H K := (jn_eq _ _ _ _ _).trans (extent_need_J2_eq0 x5 H K)
def extent_need (a0 a1 : AV) (H : AH) (K : AV → AH → Prop) : Prop :=
bO (anilCheck a0) fun v0 =>
bO (ashift 1 v0) fun v1 =>
bO (ald false 1 H v1) fun v2 =>
bP (PCall Try.prog 36 [v2, a1] H) fun v3 =>
bO (aextract v3 0) fun v4 =>
bO (aextract v3 1) fun v5 =>
bO (aun .not v5) fun v6 =>
bB v6 fun t7 => bI t7 (
bO (anilCheck a0) fun v8 =>
bO (ashift 1 v8) fun v9 =>
bO (ald false 1 H v9) fun v10 =>
bO (abl [(.lit (.int .i64 0)), (.lit (.int .u8 0)), (.lit (.int .u8 0)), (.lit (.int .u8 0)), (.lit (.int .u8 0)), (.lit (.int .u8 0)), (.lit (.int .u8 0)), (.lit (.int .u8 0)), (.lit (.int .u8 0))] [(0, 1, a1)]) fun v11 =>
bH (absl H 9 1 (zrow [(.lit (.int .i64 0)), (.lit (.int .u8 0)), (.lit (.int .u8 0)), (.lit (.int .u8 0)), (.lit (.int .u8 0)), (.lit (.int .u8 0)), (.lit (.int .u8 0)), (.lit (.int .u8 0)), (.lit (.int .u8 0))] 1) [(0, 9, v11)]) fun v12 H13 =>
bC (BCall Try.prog 53 [v10, v4, v12] H13) fun v14 H15 =>
bO (anilCheck a0) fun v16 =>
bO (ashift 1 v16) fun v17 =>
bS (ast 1 H15 v17 v14) fun H18 =>
extent_need_J2 v4 H18 K)
 (extent_need_J2 v4 H K)
theorem extent_need_eq (a0 a1 : AV) (H : AH) (K : AV → AH → Prop) : sFun Try.prog extent_need_fl pql none0 none0 extent_need_kp Try.f35 [a0, a1] H K = extent_need a0 a1 H K := by kernel_rfl
theorem extent_need_ok {a0 a1 : AV} {H : AH} {K : AV → AH → Prop} (h : extent_need a0 a1 H K) : ∃ r H', K r H' ∧ BCall Try.prog 35 [a0, a1] H r H' :=
  sFun_ok mixP Try.func35 (by kernel_rfl) (Eq.mpr (extent_need_eq a0 a1 H K) h)
/-! salvor/extent.place -/
def extent_place_fl : Floats := flOf []
def extent_place_kp : Nat → Option (List Bool) := kpOf []
def extent_place_c (p : List Bool) (n : Nat) : List AV → AH → Kf → Prop := sCode Try.prog extent_place_fl pql none0 none0 extent_place_kp (sub p (bodyOf Try.f36)) n
def extent_place (a0 a1 : AV) (H : AH) (K : AV → AH → Prop) : Prop :=
bP (PCall Try.prog 54 [a0, a1, (.fn (.func 55) [] [])] H) fun v0 =>
bO (aextract v0 0) fun v1 =>
bO (aextract v0 1) fun v2 =>
K (.tup [v1, v2]) H
theorem extent_place_eq (a0 a1 : AV) (H : AH) (K : AV → AH → Prop) : sFun Try.prog extent_place_fl pql none0 none0 extent_place_kp Try.f36 [a0, a1] H K = extent_place a0 a1 H K := by kernel_rfl
theorem extent_place_ok {a0 a1 : AV} {H : AH} {K : AV → AH → Prop} (h : extent_place a0 a1 H K) : ∃ r H', K r H' ∧ BCall Try.prog 36 [a0, a1] H r H' :=
  sFun_ok mixP Try.func36 (by kernel_rfl) (Eq.mpr (extent_place_eq a0 a1 H K) h)
/-! salvor/off.Meet -/
def off_Meet_fl : Floats := flOf []
def off_Meet_kp : Nat → Option (List Bool) := kpOf []
def off_Meet_c (p : List Bool) (n : Nat) : List AV → AH → Kf → Prop := sCode Try.prog off_Meet_fl pql none0 none0 off_Meet_kp (sub p (bodyOf Try.f37)) n
def off_Meet (a0 a1 : AV) (H : AH) (K : AV → AH → Prop) : Prop :=
bH (anew H a0) fun v0 H1 =>
bH (anew H1 a1) fun v2 H3 =>
bH (anew H3 (.agg [(.lit (.int .i64 0)), (.lit (.int .i64 0))])) fun v4 H5 =>
bO (ald true 2 H5 v0) fun v6 =>
bP (PCall Try.prog 52 [v6] H5) fun v7 =>
bO (aun .not v7) fun v8 =>
bG v8 false fun w9 =>
gO w9 (ald true 2 H5 v2) fun v10 =>
bG v8 false fun w11 =>
gP w11 (PCall Try.prog 52 [v10] H5) fun v12 =>
bG v8 false fun w13 =>
gO w13 (aun .not v12) fun v14 =>
bO (apick v8 (.lit (.bool true)) v14) fun v15 =>
bB v15 fun t16 => bI t16 (
bO (abl [(.lit (.int .i64 0)), (.lit (.int .i64 0))] []) fun v17 =>
bS (ast 2 H5 v4 v17) fun H18 =>
bO (ald true 2 H18 v4) fun v19 =>
K v19 H18)
 (bO (ashift 0 v0) fun v20 =>
bO (ald false 1 H5 v20) fun v21 =>
bO (ashift 0 v2) fun v22 =>
bO (ald false 1 H5 v22) fun v23 =>
bO (amm imx [v21, v23]) fun v24 =>
bO (ashift 0 v0) fun v25 =>
bO (ald false 1 H5 v25) fun v26 =>
bO (ashift 1 v0) fun v27 =>
bO (ald false 1 H5 v27) fun v28 =>
bO (abI .add v26 v28) fun v29 =>
bO (ashift 0 v2) fun v30 =>
bO (ald false 1 H5 v30) fun v31 =>
bO (ashift 1 v2) fun v32 =>
bO (ald false 1 H5 v32) fun v33 =>
bO (abI .add v31 v33) fun v34 =>
bO (amm imn [v29, v34]) fun v35 =>
bO (abI .geq v24 v35) fun v36 =>
bB v36 fun t37 => bI t37 (
bO (abl [(.lit (.int .i64 0)), (.lit (.int .i64 0))] []) fun v38 =>
bS (ast 2 H5 v4 v38) fun H39 =>
bO (ald true 2 H39 v4) fun v40 =>
K v40 H39)
 (bO (abI .sub v35 v24) fun v41 =>
bO (abl [(.lit (.int .i64 0)), (.lit (.int .i64 0))] [(0, 1, v24), (1, 1, v41)]) fun v42 =>
bS (ast 2 H5 v4 v42) fun H43 =>
bO (ald true 2 H43 v4) fun v44 =>
K v44 H43))
theorem off_Meet_eq (a0 a1 : AV) (H : AH) (K : AV → AH → Prop) : sFun Try.prog off_Meet_fl pql none0 none0 off_Meet_kp Try.f37 [a0, a1] H K = off_Meet a0 a1 H K := by kernel_rfl
theorem off_Meet_ok {a0 a1 : AV} {H : AH} {K : AV → AH → Prop} (h : off_Meet a0 a1 H K) : ∃ r H', K r H' ∧ BCall Try.prog 37 [a0, a1] H r H' :=
  sFun_ok mixP Try.func37 (by kernel_rfl) (Eq.mpr (off_Meet_eq a0 a1 H K) h)
/-! salvor/extent.whole -/
def extent_whole_fl : Floats := flOf []
def extent_whole_kp : Nat → Option (List Bool) := kpOf []
def extent_whole_c (p : List Bool) (n : Nat) : List AV → AH → Kf → Prop := sCode Try.prog extent_whole_fl pql none0 none0 extent_whole_kp (sub p (bodyOf Try.f38)) n
def extent_whole (a0 : AV) (H : AH) (K : AV → AH → Prop) : Prop :=
bH (anew H (.agg [(.lit (.int .i64 0)), (.lit (.int .i64 0))])) fun v0 H1 =>
bO (abI .mul a0 (.lit (.int .i64 8))) fun v2 =>
bO (abl [(.lit (.int .i64 0)), (.lit (.int .i64 0))] [(0, 1, v2), (1, 1, (.lit (.int .i64 8)))]) fun v3 =>
bS (ast 2 H1 v0 v3) fun H4 =>
bO (ald true 2 H4 v0) fun v5 =>
K v5 H4
theorem extent_whole_eq (a0 : AV) (H : AH) (K : AV → AH → Prop) : sFun Try.prog extent_whole_fl pql none0 none0 extent_whole_kp Try.f38 [a0] H K = extent_whole a0 H K := by kernel_rfl
theorem extent_whole_ok {a0 : AV} {H : AH} {K : AV → AH → Prop} (h : extent_whole a0 H K) : ∃ r H', K r H' ∧ BCall Try.prog 38 [a0] H r H' :=
  sFun_ok mixP Try.func38 (by kernel_rfl) (Eq.mpr (extent_whole_eq a0 H K) h)
/-! salvor/extent.clean -/
def extent_clean_fl : Floats := flOf []
def extent_clean_kp : Nat → Option (List Bool) := kpOf [(3, mk 25 0 [1, 2, 8, 9])]
def extent_clean_c (p : List Bool) (n : Nat) : List AV → AH → Kf → Prop := sCode Try.prog extent_clean_fl pql none0 none0 extent_clean_kp (sub p (bodyOf Try.f39)) n
def extent_clean_L3 (x1 x2 x8 x9 : AV) (H : AH) (K : AV → AH → Prop) : Prop := lp (mk 25 0 [1, 2, 8, 9]) (extent_clean_c [true, false, true, false, false] 4) [x1, x2, x8, x9] H (kBlk 0 (kSeq (extent_clean_c [true, true] 10) (kRet Try.prog Try.f39.results.toList K)))
def extent_clean_L3_b (R3 : List AV → AH → Prop) (x1 x2 x8 x9 : AV) (H : AH) (K : AV → AH → Prop) : Prop :=
bO (abI .lss x9 (.lit (.int .i64 8))) fun v0 =>
bB v0 fun t1 => bI t1 (
bO (aivA false 1 8 1 x8 x9) fun v2 =>
bO (abI .neq v2 (.lit (.int .u8 0))) fun v3 =>
bG v3 true fun w4 =>
gO w4 (ashift 0 x2) fun v5 =>
bG v3 true fun w6 =>
gO w6 (ald false 1 H v5) fun v7 =>
bG v3 true fun w8 =>
gO w8 (abI .mul v7 (.lit (.int .i64 8))) fun v9 =>
bG v3 true fun w10 =>
gO w10 (some x9) fun v11 =>
bG v3 true fun w12 =>
gO w12 (abI .add v9 v11) fun v13 =>
bG v3 true fun w14 =>
gO w14 (some x1) fun v15 =>
bG v3 true fun w16 =>
gO w16 (abI .geq v13 v15) fun v17 =>
bO (apick v3 v17 (.lit (.bool false))) fun v18 =>
bB v18 fun t19 => bI t19 (
K (.lit (.bool false)) H)
 (bO (abI .add x9 (.lit (.int .i64 1))) fun v20 =>
R3 [x1, x2, x8, v20] H))
 (K (.lit (.bool true)) H)
theorem extent_clean_L3_eq (R3 : List AV → AH → Prop) (x1 x2 x8 x9 : AV) (H : AH) (K : AV → AH → Prop) : extent_clean_c [true, false, true, false, false] 4 (expand (mk 25 0 [1, 2, 8, 9]) [x1, x2, x8, x9]) H (kLp (mk 25 0 [1, 2, 8, 9]) R3 (kBlk 0 (kSeq (extent_clean_c [true, true] 10) (kRet Try.prog Try.f39.results.toList K)))) = extent_clean_L3_b R3 x1 x2 x8 x9 H K := by kernel_rfl
theorem extent_clean_L3_rule {K : AV → AH → Prop} (I : Nat → AV → AV → AV → AV → AH → Prop) (round : ∀ (n : Nat) (x1 x2 x8 x9 : AV) (H : AH) (R : List AV → AH → Prop), (∀ (m : Nat) (y1 y2 y8 y9 : AV) (H' : AH), m < n → I m y1 y2 y8 y9 H' → R [y1, y2, y8, y9] H') → I n x1 x2 x8 x9 H → extent_clean_L3_b R x1 x2 x8 x9 H K) (n : Nat) {x1 x2 x8 x9 : AV} {H : AH} (h : I n x1 x2 x8 x9 H) : extent_clean_L3 x1 x2 x8 x9 H K := by
  refine lp_upto (sCode_one _ _) (LI4 I) ?_ n h
  intro n X H h
  obtain ⟨x1, x2, x8, x9, rfl, h⟩ := h.elim
  exact Eq.mpr (extent_clean_L3_eq _ x1 x2 x8 x9 H K) (round n x1 x2 x8 x9 H (fun X H' => ∃ m, m < n ∧ LI4 I m X H') (fun m y1 y2 y8 y9 H' hm hi => ⟨m, hm, hi⟩) h)
def extent_clean (a0 a1 : AV) (H : AH) (K : AV → AH → Prop) : Prop :=
bH (anew H a0) fun v0 H1 =>
bO (ashift 1 v0) fun v2 =>
bO (ald true 8 H1 v2) fun v3 =>
extent_clean_L3 a1 v0 v3 (.lit (.int .i64 0)) H1 K
theorem extent_clean_eq (a0 a1 : AV) (H : AH) (K : AV → AH → Prop) : sFun Try.prog extent_clean_fl pql none0 none0 extent_clean_kp Try.f39 [a0, a1] H K = extent_clean a0 a1 H K := by kernel_rfl
theorem extent_clean_ok {a0 a1 : AV} {H : AH} {K : AV → AH → Prop} (h : extent_clean a0 a1 H K) : ∃ r H', K r H' ∧ BCall Try.prog 39 [a0, a1] H r H' :=
  sFun_ok mixP Try.func39 (by kernel_rfl) (Eq.mpr (extent_clean_eq a0 a1 H K) h)
/-! salvor/salvorref11.copyOf -/
def salvorref11_copyOf_fl : Floats := flOf [(1, [(1, some 4)])]
def salvorref11_copyOf_kp : Nat → Option (List Bool) := kpOf []
def salvorref11_copyOf_c (p : List Bool) (n : Nat) : List AV → AH → Kf → Prop := sCode Try.prog salvorref11_copyOf_fl pql none0 none0 salvorref11_copyOf_kp (sub p (bodyOf Try.f40)) n
def salvorref11_copyOf (a0 : AV) (H : AH) (K : AV → AH → Prop) : Prop :=
bH (anew H a0) fun v0 H1 =>
bH (anew H1 (.agg [(.lit (.int .i64 0)), (.lit (.slice none 0 0))])) fun v2 H3 =>
bO (ashift 0 v0) fun v4 =>
bO (ald false 1 H3 v4) fun v5 =>
bO (ashift 1 v0) fun v6 =>
bO (ald false 1 H3 v6) fun v7 =>
bH (aap 9 16 H3 (.lit (.slice none 0 0)) v7) fun v8 H9 =>
bO (abl [(.lit (.int .i64 0)), (.lit (.slice none 0 0))] [(0, 1, v5), (1, 1, v8)]) fun v10 =>
bS (ast 2 H9 v2 v10) fun H11 =>
(ald false 1 H9 v4 = some v5) ∧
bO (ald true 2 H11 v2) fun v12 =>
K v12 H11
theorem salvorref11_copyOf_eq (a0 : AV) (H : AH) (K : AV → AH → Prop) : sFun Try.prog salvorref11_copyOf_fl pql none0 none0 salvorref11_copyOf_kp Try.f40 [a0] H K = salvorref11_copyOf a0 H K := by kernel_rfl
theorem salvorref11_copyOf_ok {a0 : AV} {H : AH} {K : AV → AH → Prop} (h : salvorref11_copyOf a0 H K) : ∃ r H', K r H' ∧ BCall Try.prog 40 [a0] H r H' :=
  sFun_ok mixP Try.func40 (by kernel_rfl) (Eq.mpr (salvorref11_copyOf_eq a0 H K) h)
/-! salvor/salvorref11.need -/
def salvorref11_need_fl : Floats := flOf []
def salvorref11_need_kp : Nat → Option (List Bool) := kpOf [(3, mk 72 0 [0, 1, 5])]
def salvorref11_need_c (p : List Bool) (n : Nat) : List AV → AH → Kf → Prop := sCode Try.prog salvorref11_need_fl pql none0 none0 salvorref11_need_kp (sub p (bodyOf Try.f41)) n
def salvorref11_need_L3 (x0 x1 x5 : AV) (H : AH) (K : AV → AH → Prop) : Prop := lp (mk 72 0 [0, 1, 5]) (salvorref11_need_c [true, true, false, false, false] 4) [x0, x1, x5] H (kBlk 0 (kSeq (salvorref11_need_c [true, true, true] 6) (kRet Try.prog Try.f41.results.toList K)))
def salvorref11_need_L3_b (R3 : List AV → AH → Prop) (x0 x1 x5 : AV) (H : AH) (K : AV → AH → Prop) : Prop :=
bO (anilCheck x0) fun v0 =>
bO (ashift 1 v0) fun v1 =>
bO (ald false 1 H v1) fun v2 =>
bO (alnS v2) fun v3 =>
bO (abI .lss x5 v3) fun v4 =>
bG v4 true fun w5 =>
gO w5 (some x0) fun v6 =>
bG v4 true fun w7 =>
gO w7 (anilCheck v6) fun v8 =>
bG v4 true fun w9 =>
gO w9 (ashift 1 v8) fun v10 =>
bG v4 true fun w11 =>
gO w11 (ald false 1 H v10) fun v12 =>
bG v4 true fun w13 =>
gO w13 (some x5) fun v14 =>
bG v4 true fun w15 =>
gO w15 (aixS 9 v12 v14) fun v16 =>
bG v4 true fun w17 =>
gO w17 (ashift 0 v16) fun v18 =>
bG v4 true fun w19 =>
gO w19 (ald false 1 H v18) fun v20 =>
bG v4 true fun w21 =>
gO w21 (some x1) fun v22 =>
bG v4 true fun w23 =>
gO w23 (abI .lss v20 v22) fun v24 =>
bO (apick v4 v24 (.lit (.bool false))) fun v25 =>
bB v25 fun t26 => bI t26 (
bO (abI .add x5 (.lit (.int .i64 1))) fun v27 =>
R3 [x0, x1, v27] H)
 (bO (anilCheck x0) fun v28 =>
bO (ashift 1 v28) fun v29 =>
bO (ald false 1 H v29) fun v30 =>
bO (alnS v30) fun v31 =>
bO (abI .lss x5 v31) fun v32 =>
bG v32 true fun w33 =>
gO w33 (some x0) fun v34 =>
bG v32 true fun w35 =>
gO w35 (anilCheck v34) fun v36 =>
bG v32 true fun w37 =>
gO w37 (ashift 1 v36) fun v38 =>
bG v32 true fun w39 =>
gO w39 (ald false 1 H v38) fun v40 =>
bG v32 true fun w41 =>
gO w41 (some x5) fun v42 =>
bG v32 true fun w43 =>
gO w43 (aixS 9 v40 v42) fun v44 =>
bG v32 true fun w45 =>
gO w45 (ashift 0 v44) fun v46 =>
bG v32 true fun w47 =>
gO w47 (ald false 1 H v46) fun v48 =>
bG v32 true fun w49 =>
gO w49 (some x1) fun v50 =>
bG v32 true fun w51 =>
gO w51 (abI .eql v48 v50) fun v52 =>
bO (apick v32 v52 (.lit (.bool false))) fun v53 =>
bB v53 fun t54 => bI t54 (
K x5 H)
 (bO (anilCheck x0) fun v55 =>
bO (ashift 1 v55) fun v56 =>
bO (ald false 1 H v56) fun v57 =>
bO (aslS 9 v57 none (some x5) none) fun v58 =>
bH (aap 9 16 H (.lit (.slice none 0 0)) v58) fun v59 H60 =>
bO (abl [(.lit (.int .i64 0)), (.lit (.int .u8 0)), (.lit (.int .u8 0)), (.lit (.int .u8 0)), (.lit (.int .u8 0)), (.lit (.int .u8 0)), (.lit (.int .u8 0)), (.lit (.int .u8 0)), (.lit (.int .u8 0))] [(0, 1, x1)]) fun v61 =>
bH (absl H60 9 1 (zrow [(.lit (.int .i64 0)), (.lit (.int .u8 0)), (.lit (.int .u8 0)), (.lit (.int .u8 0)), (.lit (.int .u8 0)), (.lit (.int .u8 0)), (.lit (.int .u8 0)), (.lit (.int .u8 0)), (.lit (.int .u8 0))] 1) [(0, 9, v61)]) fun v62 H63 =>
bH (aap 9 16 H63 v59 v62) fun v64 H65 =>
bO (anilCheck x0) fun v66 =>
bO (ashift 1 v66) fun v67 =>
bO (ald false 1 H65 v67) fun v68 =>
bO (aslS 9 v68 (some x5) none none) fun v69 =>
bH (aap 9 16 H65 v64 v69) fun v70 H71 =>
bO (anilCheck x0) fun v72 =>
bO (ashift 1 v72) fun v73 =>
bS (ast 1 H71 v73 v70) fun H74 =>
K x5 H74))
theorem salvorref11_need_L3_eq (R3 : List AV → AH → Prop) (x0 x1 x5 : AV) (H : AH) (K : AV → AH → Prop) : salvorref11_need_c [true, true, false, false, false] 4 (expand (mk 72 0 [0, 1, 5]) [x0, x1, x5]) H (kLp (mk 72 0 [0, 1, 5]) R3 (kBlk 0 (kSeq (salvorref11_need_c [true, true, true] 6) (kRet Try.prog Try.f41.results.toList K)))) = salvorref11_need_L3_b R3 x0 x1 x5 H K := by kernel_rfl
theorem salvorref11_need_L3_rule {K : AV → AH → Prop} (I : Nat → AV → AV → AV → AH → Prop) (round : ∀ (n : Nat) (x0 x1 x5 : AV) (H : AH) (R : List AV → AH → Prop), (∀ (m : Nat) (y0 y1 y5 : AV) (H' : AH), m < n → I m y0 y1 y5 H' → R [y0, y1, y5] H') → I n x0 x1 x5 H → salvorref11_need_L3_b R x0 x1 x5 H K) (n : Nat) {x0 x1 x5 : AV} {H : AH} (h : I n x0 x1 x5 H) : salvorref11_need_L3 x0 x1 x5 H K := by
  refine lp_upto (sCode_one _ _) (LI3 I) ?_ n h
  intro n X H h
  obtain ⟨x0, x1, x5, rfl, h⟩ := h.elim
  exact Eq.mpr (salvorref11_need_L3_eq _ x0 x1 x5 H K) (round n x0 x1 x5 H (fun X H' => ∃ m, m < n ∧ LI3 I m X H') (fun m y0 y1 y5 H' hm hi => ⟨m, hm, hi⟩) h)
def salvorref11_need (a0 a1 : AV) (H : AH) (K : AV → AH → Prop) : Prop :=
salvorref11_need_L3 a0 a1 (.lit (.int .i64 0)) H K
theorem salvorref11_need_eq (a0 a1 : AV) (H : AH) (K : AV → AH → Prop) : sFun Try.prog salvorref11_need_fl pql none0 none0 salvorref11_need_kp Try.f41 [a0, a1] H K = salvorref11_need a0 a1 H K := by kernel_rfl
theorem salvorref11_need_ok {a0 a1 : AV} {H : AH} {K : AV → AH → Prop} (h : salvorref11_need a0 a1 H K) : ∃ r H', K r H' ∧ BCall Try.prog 41 [a0, a1] H r H' :=
  sFun_ok mixP Try.func41 (by kernel_rfl) (Eq.mpr (salvorref11_need_eq a0 a1 H K) h)
/-! salvor/salvorref11.find -/
def salvorref11_find_fl : Floats := flOf []
def salvorref11_find_kp : Nat → Option (List Bool) := kpOf [(3, mk 22 0 [1, 2, 5])]
def salvorref11_find_c (p : List Bool) (n : Nat) : List AV → AH → Kf → Prop := sCode Try.prog salvorref11_find_fl pql none0 none0 salvorref11_find_kp (sub p (bodyOf Try.f42)) n
def salvorref11_find_L3 (x1 x2 x5 : AV) (H : AH) (K : AV → AH → Prop) : Prop := lp (mk 22 0 [1, 2, 5]) (salvorref11_find_c [true, false, true, false, false] 4) [x1, x2, x5] H (kBlk 0 (kSeq (salvorref11_find_c [true, true] 9) (kRet Try.prog Try.f42.results.toList K)))
def salvorref11_find_L3_b (R3 : List AV → AH → Prop) (x1 x2 x5 : AV) (H : AH) (K : AV → AH → Prop) : Prop :=
bO (ashift 1 x2) fun v0 =>
bO (ald false 1 H v0) fun v1 =>
bO (alnS v1) fun v2 =>
bO (abI .lss x5 v2) fun v3 =>
bB v3 fun t4 => bI t4 (
bO (ashift 1 x2) fun v5 =>
bO (ald false 1 H v5) fun v6 =>
bO (aixS 9 v6 x5) fun v7 =>
bO (ashift 0 v7) fun v8 =>
bO (ald false 1 H v8) fun v9 =>
bO (abI .eql v9 x1) fun v10 =>
bB v10 fun t11 => bI t11 (
K x5 H)
 (bO (abI .add x5 (.lit (.int .i64 1))) fun v12 =>
R3 [x1, x2, v12] H))
 (K (.lit (.int .i64 (-1))) H)
theorem salvorref11_find_L3_eq (R3 : List AV → AH → Prop) (x1 x2 x5 : AV) (H : AH) (K : AV → AH → Prop) : salvorref11_find_c [true, false, true, false, false] 4 (expand (mk 22 0 [1, 2, 5]) [x1, x2, x5]) H (kLp (mk 22 0 [1, 2, 5]) R3 (kBlk 0 (kSeq (salvorref11_find_c [true, true] 9) (kRet Try.prog Try.f42.results.toList K)))) = salvorref11_find_L3_b R3 x1 x2 x5 H K := by kernel_rfl
theorem salvorref11_find_L3_rule {K : AV → AH → Prop} (I : Nat → AV → AV → AV → AH → Prop) (round : ∀ (n : Nat) (x1 x2 x5 : AV) (H : AH) (R : List AV → AH → Prop), (∀ (m : Nat) (y1 y2 y5 : AV) (H' : AH), m < n → I m y1 y2 y5 H' → R [y1, y2, y5] H') → I n x1 x2 x5 H → salvorref11_find_L3_b R x1 x2 x5 H K) (n : Nat) {x1 x2 x5 : AV} {H : AH} (h : I n x1 x2 x5 H) : salvorref11_find_L3 x1 x2 x5 H K := by
  refine lp_upto (sCode_one _ _) (LI3 I) ?_ n h
  intro n X H h
  obtain ⟨x1, x2, x5, rfl, h⟩ := h.elim
  exact Eq.mpr (salvorref11_find_L3_eq _ x1 x2 x5 H K) (round n x1 x2 x5 H (fun X H' => ∃ m, m < n ∧ LI3 I m X H') (fun m y1 y2 y5 H' hm hi => ⟨m, hm, hi⟩) h)
def salvorref11_find (a0 a1 : AV) (H : AH) (K : AV → AH → Prop) : Prop :=
bH (anew H a0) fun v0 H1 =>
salvorref11_find_L3 a1 v0 (.lit (.int .i64 0)) H1 K
theorem salvorref11_find_eq (a0 a1 : AV) (H : AH) (K : AV → AH → Prop) : sFun Try.prog salvorref11_find_fl pql none0 none0 salvorref11_find_kp Try.f42 [a0, a1] H K = salvorref11_find a0 a1 H K := by kernel_rfl
theorem salvorref11_find_ok {a0 a1 : AV} {H : AH} {K : AV → AH → Prop} (h : salvorref11_find a0 a1 H K) : ∃ r H', K r H' ∧ BCall Try.prog 42 [a0, a1] H r H' :=
  sFun_ok mixP Try.func42 (by kernel_rfl) (Eq.mpr (salvorref11_find_eq a0 a1 H K) h)
/-! slices.Equal[[]salvor/api.Ext,salvor/api.Ext] -/
def slices_Equal_Lapi_Ext_api_Ext_fl : Floats := flOf []
def slices_Equal_Lapi_Ext_api_Ext_kp : Nat → Option (List Bool) := kpOf [(6, mk 26 0 [0, 1, 12, 13])]
def slices_Equal_Lapi_Ext_api_Ext_c (p : List Bool) (n : Nat) : List AV → AH → Kf → Prop := sCode Try.prog slices_Equal_Lapi_Ext_api_Ext_fl pql none0 none0 slices_Equal_Lapi_Ext_api_Ext_kp (sub p (bodyOf Try.f43)) n
def slices_Equal_Lapi_Ext_api_Ext_L6 (x0 x1 x12 x13 : AV) (H : AH) (K : AV → AH → Prop) : Prop := lp (mk 26 0 [0, 1, 12, 13]) (slices_Equal_Lapi_Ext_api_Ext_c [true, true, false, true, false, false] 7) [x0, x1, x12, x13] H (kBlk 0 (kSeq (slices_Equal_Lapi_Ext_api_Ext_c [true, true, true] 13) (kRet Try.prog Try.f43.results.toList K)))
def slices_Equal_Lapi_Ext_api_Ext_L6_b (R6 : List AV → AH → Prop) (x0 x1 x12 x13 : AV) (H : AH) (K : AV → AH → Prop) : Prop :=
bO (abI .lss x13 x12) fun v0 =>
bB v0 fun t1 => bI t1 (
bO (aixS 9 x0 x13) fun v2 =>
bO (ald true 9 H v2) fun v3 =>
bO (aixS 9 x1 x13) fun v4 =>
bO (ald true 9 H v4) fun v5 =>
bO (abin Try.prog .neq 32 v3 v5) fun v6 =>
bB v6 fun t7 => bI t7 (
K (.lit (.bool false)) H)
 (bO (abI .add x13 (.lit (.int .i64 1))) fun v8 =>
R6 [x0, x1, x12, v8] H))
 (K (.lit (.bool true)) H)
theorem slices_Equal_Lapi_Ext_api_Ext_L6_eq (R6 : List AV → AH → Prop) (x0 x1 x12 x13 : AV) (H : AH) (K : AV → AH → Prop) : slices_Equal_Lapi_Ext_api_Ext_c [true, true, false, true, false, false] 7 (expand (mk 26 0 [0, 1, 12, 13]) [x0, x1, x12, x13]) H (kLp (mk 26 0 [0, 1, 12, 13]) R6 (kBlk 0 (kSeq (slices_Equal_Lapi_Ext_api_Ext_c [true, true, true] 13) (kRet Try.prog Try.f43.results.toList K)))) = slices_Equal_Lapi_Ext_api_Ext_L6_b R6 x0 x1 x12 x13 H K := by kernel_rfl
theorem slices_Equal_Lapi_Ext_api_Ext_L6_rule {K : AV → AH → Prop} (I : Nat → AV → AV → AV → AV → AH → Prop) (round : ∀ (n : Nat) (x0 x1 x12 x13 : AV) (H : AH) (R : List AV → AH → Prop), (∀ (m : Nat) (y0 y1 y12 y13 : AV) (H' : AH), m < n → I m y0 y1 y12 y13 H' → R [y0, y1, y12, y13] H') → I n x0 x1 x12 x13 H → slices_Equal_Lapi_Ext_api_Ext_L6_b R x0 x1 x12 x13 H K) (n : Nat) {x0 x1 x12 x13 : AV} {H : AH} (h : I n x0 x1 x12 x13 H) : slices_Equal_Lapi_Ext_api_Ext_L6 x0 x1 x12 x13 H K := by
  refine lp_upto (sCode_one _ _) (LI4 I) ?_ n h
  intro n X H h
  obtain ⟨x0, x1, x12, x13, rfl, h⟩ := h.elim
  exact Eq.mpr (slices_Equal_Lapi_Ext_api_Ext_L6_eq _ x0 x1 x12 x13 H K) (round n x0 x1 x12 x13 H (fun X H' => ∃ m, m < n ∧ LI4 I m X H') (fun m y0 y1 y12 y13 H' hm hi => ⟨m, hm, hi⟩) h)
def slices_Equal_Lapi_Ext_api_Ext (a0 a1 : AV) (H : AH) (K : AV → AH → Prop) : Prop :=
bO (alnS a0) fun v0 =>
bO (alnS a1) fun v1 =>
bO (abI .neq v0 v1) fun v2 =>
bB v2 fun t3 => bI t3 (
K (.lit (.bool false)) H)
 (bO (alnS a0) fun v4 =>
slices_Equal_Lapi_Ext_api_Ext_L6 a0 a1 v4 (.lit (.int .i64 0)) H K)
theorem slices_Equal_Lapi_Ext_api_Ext_eq (a0 a1 : AV) (H : AH) (K : AV → AH → Prop) : sFun Try.prog slices_Equal_Lapi_Ext_api_Ext_fl pql none0 none0 slices_Equal_Lapi_Ext_api_Ext_kp Try.f43 [a0, a1] H K = slices_Equal_Lapi_Ext_api_Ext a0 a1 H K := by kernel_rfl
theorem slices_Equal_Lapi_Ext_api_Ext_ok {a0 a1 : AV} {H : AH} {K : AV → AH → Prop} (h : slices_Equal_Lapi_Ext_api_Ext a0 a1 H K) : ∃ r H', K r H' ∧ BCall Try.prog 43 [a0, a1] H r H' :=
  sFun_ok mixP Try.func43 (by kernel_rfl) (Eq.mpr (slices_Equal_Lapi_Ext_api_Ext_eq a0 a1 H K) h)
/-! salvor/salvorref11.At -/
def salvorref11_At_fl : Floats := flOf []
def salvorref11_At_kp : Nat → Option (List Bool) := kpOf []
def salvorref11_At_c (p : List Bool) (n : Nat) : List AV → AH → Kf → Prop := sCode Try.prog salvorref11_At_fl pql none0 none0 salvorref11_At_kp (sub p (bodyOf Try.f44)) n
def salvorref11_At (a0 a1 : AV) (H : AH) (K : AV → AH → Prop) : Prop :=
bH (anew H a0) fun v0 H1 =>
bO (ald true 2 H1 v0) fun v2 =>
bO (abI .quo a1 (.lit (.int .i64 8))) fun v3 =>
bP (PCall Try.prog 42 [v2, v3] H1) fun v4 =>
bO (abI .lss v4 (.lit (.int .i64 0))) fun v5 =>
bB v5 fun t6 => bI t6 (
K (.lit (.int .u8 0)) H1)
 (bO (ashift 1 v0) fun v7 =>
bO (ald false 1 H1 v7) fun v8 =>
bO (abI .rem a1 (.lit (.int .i64 8))) fun v9 =>
bO (aixS 9 v8 v4) fun v10 =>
bO (ashift 1 v10) fun v11 =>
bO (aixA 8 1 v11 v9) fun v12 =>
bO (ald false 1 H1 v12) fun v13 =>
K v13 H1)
theorem salvorref11_At_eq (a0 a1 : AV) (H : AH) (K : AV → AH → Prop) : sFun Try.prog salvorref11_At_fl pql none0 none0 salvorref11_At_kp Try.f44 [a0, a1] H K = salvorref11_At a0 a1 H K := by kernel_rfl
theorem salvorref11_At_ok {a0 a1 : AV} {H : AH} {K : AV → AH → Prop} (h : salvorref11_At a0 a1 H K) : ∃ r H', K r H' ∧ BCall Try.prog 44 [a0, a1] H r H' :=
  sFun_ok mixP Try.func44 (by kernel_rfl) (Eq.mpr (salvorref11_At_eq a0 a1 H K) h)
/-! salvor/extent.span -/
def extent_span_fl : Floats := flOf []
def extent_span_kp : Nat → Option (List Bool) := kpOf []
def extent_span_c (p : List Bool) (n : Nat) : List AV → AH → Kf → Prop := sCode Try.prog extent_span_fl pql none0 none0 extent_span_kp (sub p (bodyOf Try.f45)) n
def extent_span (a0 a1 : AV) (H : AH) (K : AV → AH → Prop) : Prop :=
bO (abI .geq a0 (.lit (.int .i64 0))) fun v0 =>
bG v0 true fun w1 =>
gO w1 (some a1) fun v2 =>
bG v0 true fun w3 =>
gO w3 (abI .geq v2 (.lit (.int .i64 1))) fun v4 =>
bO (apick v0 v4 (.lit (.bool false))) fun v5 =>
bG v5 true fun w6 =>
gO w6 (some a1) fun v7 =>
bG v5 true fun w8 =>
gO w8 (abI .leq v7 (.lit (.int .i64 1099511627776))) fun v9 =>
bO (apick v5 v9 (.lit (.bool false))) fun v10 =>
bG v10 true fun w11 =>
gO w11 (some a0) fun v12 =>
bG v10 true fun w13 =>
gO w13 (some a1) fun v14 =>
bG v10 true fun w15 =>
gO w15 (abI .sub (.lit (.int .i64 1099511627776)) v14) fun v16 =>
bG v10 true fun w17 =>
gO w17 (abI .leq v12 v16) fun v18 =>
bO (apick v10 v18 (.lit (.bool false))) fun v19 =>
K v19 H
theorem extent_span_eq (a0 a1 : AV) (H : AH) (K : AV → AH → Prop) : sFun Try.prog extent_span_fl pql none0 none0 extent_span_kp Try.f45 [a0, a1] H K = extent_span a0 a1 H K := by kernel_rfl
theorem extent_span_ok {a0 a1 : AV} {H : AH} {K : AV → AH → Prop} (h : extent_span a0 a1 H K) : ∃ r H', K r H' ∧ BCall Try.prog 45 [a0, a1] H r H' :=
  sFun_ok mixP Try.func45 (by kernel_rfl) (Eq.mpr (extent_span_eq a0 a1 H K) h)
/-! slices.DeleteFunc[[]salvor/api.Ext,salvor/api.Ext] -/
def slices_DeleteFunc_Lapi_Ext_api_Ext_fl : Floats := flOf []
def slices_DeleteFunc_Lapi_Ext_api_Ext_kp : Nat → Option (List Bool) := kpOf [(10, mk 42 0 [0, 1, 5, 6]), (7, mk 42 0 [0, 1, 5, 6])]
def slices_DeleteFunc_Lapi_Ext_api_Ext_c (p : List Bool) (n : Nat) : List AV → AH → Kf → Prop := sCode Try.prog slices_DeleteFunc_Lapi_Ext_api_Ext_fl pql none0 none0 slices_DeleteFunc_Lapi_Ext_api_Ext_kp (sub p (bodyOf Try.f46)) n
def slices_DeleteFunc_Lapi_Ext_api_Ext_J10 (R7 : List AV → AH → Prop) (x0 x1 x5 x6 : AV) (H : AH) (K : AV → AH → Prop) : Prop := jn (mk 42 0 [0, 1, 5, 6]) (slices_DeleteFunc_Lapi_Ext_api_Ext_c [true, true, true, false, true, false, false, true, true] 14) [x0, x1, x5, x6] H (kLp (mk 42 0 [0, 1, 5, 6]) R7 (kBlk 0 (kSeq (slices_DeleteFunc_Lapi_Ext_api_Ext_c [true, true, true, true] 14) (kRet Try.prog Try.f46.results.toList K))))
def slices_DeleteFunc_Lapi_Ext_api_Ext_L7 (x0 x1 x5 x6 : AV) (H : AH) (K : AV → AH → Prop) : Prop := lp (mk 42 0 [0, 1, 5, 6]) (slices_DeleteFunc_Lapi_Ext_api_Ext_c [true, true, true, false, true, false, false] 8) [x0, x1, x5, x6] H (kBlk 0 (kSeq (slices_DeleteFunc_Lapi_Ext_api_Ext_c [true, true, true, true] 14) (kRet Try.prog Try.f46.results.toList K)))
def slices_DeleteFunc_Lapi_Ext_api_Ext_J10_b (R7 : List AV → AH → Prop) (x0 x1 x5 x6 : AV) (H : AH) (K : AV → AH → Prop) : Prop :=
bO (abI .add x6 (.lit (.int .i64 1))) fun v0 =>
R7 [x0, x1, x5, v0] H
theorem slices_DeleteFunc_Lapi_Ext_api_Ext_J10_eq0 (R7 : List AV → AH → Prop) (x0 x1 x5 x6 : AV) (H : AH) (K : AV → AH → Prop) : slices_DeleteFunc_Lapi_Ext_api_Ext_c [true, true, true, false, true, false, false, true, true] 14 (expand (mk 42 0 [0, 1, 5, 6]) [x0, x1, x5, x6]) H (kLp (mk 42 0 [0, 1, 5, 6]) R7 (kBlk 0 (kSeq (slices_DeleteFunc_Lapi_Ext_api_Ext_c [true, true, true, true] 14) (kRet Try.prog Try.f46.results.toList K)))) = slices_DeleteFunc_Lapi_Ext_api_Ext_J10_b R7 x0 x1 x5 x6 H K := by kernel_rfl
theorem slices_DeleteFunc_Lapi_Ext_api_Ext_J10_eq (R7 : List AV → AH → Prop) (x0 x1 x5 x6 : AV) (H : AH) (K : AV → AH → Prop) : slices_DeleteFunc_Lapi_Ext_api_Ext_J10 R7 x0 x1 x5 x6 H K = slices_DeleteFunc_Lapi_Ext_api_Ext_J10_b R7 x0 x1 x5 x6 H K := (jn_eq _ _ _ _ _).trans (slices_DeleteFunc_Lapi_Ext_api_Ext_J10_eq0 R7 x0 x1 x5 x6 H K)
def slices_DeleteFunc_Lapi_Ext_api_Ext_L7_b (R7 : List AV → AH → Prop) (x0 x1 x5 x6 : AV) (H : AH) (K : AV → AH → Prop) : Prop :=
bO (alnS x0) fun v0 =>
bO (abI .lss x6 v0) fun v1 =>
bB v1 fun t2 => bI t2 (
bO (aixS 9 x0 x6) fun v3 =>
bO (ald true 9 H v3) fun v4 =>
bH (anew H (.agg [(.lit (.int .i64 0)), (.lit (.int .u8 0)), (.lit (.int .u8 0)), (.lit (.int .u8 0)), (.lit (.int .u8 0)), (.lit (.int .u8 0)), (.lit (.int .u8 0)), (.lit (.int .u8 0)), (.lit (.int .u8 0))])) fun v5 H6 =>
bS (ast 9 H6 v5 v4) fun H7 =>
bO (ald true 9 H7 v5) fun v8 =>
bF true x1 fun k11 f11 c11 =>
bT (goFunc Try.prog k11 || !true) <|
bC (BCall Try.prog k11 (f11 ++ [v8] ++ c11) H7) fun v9 H10 =>
bO (aun .not v9) fun v12 =>
bB v12 fun t13 => bI t13 (
bO (ald true 9 H10 v5) fun v14 =>
bO (aixS 9 x0 x5) fun v15 =>
bS (ast 9 H10 v15 v14) fun H16 =>
bO (abI .add x5 (.lit (.int .i64 1))) fun v17 =>
slices_DeleteFunc_Lapi_Ext_api_Ext_J10 R7 x0 x1 v17 x6 H16 K)
 (slices_DeleteFunc_Lapi_Ext_api_Ext_J10 R7 x0 x1 x5 x6 H10 K))
 (bO (aslS 9 x0 (some x5) none none) fun v18 =>
bS (acl [(.lit (.int .i64 0)), (.lit (.int .u8 0)), (.lit (.int .u8 0)), (.lit (.int .u8 0)), (.lit (.int .u8 0)), (.lit (.int .u8 0)), (.lit (.int .u8 0)), (.lit (.int .u8 0)), (.lit (.int .u8 0))] H v18) fun H19 =>
bO (aslS 9 x0 none (some x5) none) fun v20 =>
K v20 H19)
theorem slices_DeleteFunc_Lapi_Ext_api_Ext_L7_eq (R7 : List AV → AH → Prop) (x0 x1 x5 x6 : AV) (H : AH) (K : AV → AH → Prop) : slices_DeleteFunc_Lapi_Ext_api_Ext_c [true, true, true, false, true, false, false] 8 (expand (mk 42 0 [0, 1, 5, 6]) [x0, x1, x5, x6]) H (kLp (mk 42 0 [0, 1, 5, 6]) R7 (kBlk 0 (kSeq (slices_DeleteFunc_Lapi_Ext_api_Ext_c [true, true, true, true] 14) (kRet Try.prog Try.f46.results.toList K)))) = slices_DeleteFunc_Lapi_Ext_api_Ext_L7_b R7 x0 x1 x5 x6 H K := by kernel_rfl
theorem slices_DeleteFunc_Lapi_Ext_api_Ext_L7_rule {K : AV → AH → Prop} (I : Nat → AV → AV → AV → AV → AH → Prop) (round : ∀ (n : Nat) (x0 x1 x5 x6 : AV) (H : AH) (R : List AV → AH → Prop), (∀ (m : Nat) (y0 y1 y5 y6 : AV) (H' : AH), m < n → I m y0 y1 y5 y6 H' → R [y0, y1, y5, y6] H') → I n x0 x1 x5 x6 H → slices_DeleteFunc_Lapi_Ext_api_Ext_L7_b R x0 x1 x5 x6 H K) (n : Nat) {x0 x1 x5 x6 : AV} {H : AH} (h : I n x0 x1 x5 x6 H) : slices_DeleteFunc_Lapi_Ext_api_Ext_L7 x0 x1 x5 x6 H K := by
  refine lp_upto (sCode_one _ _) (LI4 I) ?_ n h
  intro n X H h
  obtain ⟨x0, x1, x5, x6, rfl, h⟩ := h.elim
  exact Eq.mpr (slices_DeleteFunc_Lapi_Ext_api_Ext_L7_eq _ x0 x1 x5 x6 H K) (round n x0 x1 x5 x6 H (fun X H' => ∃ m, m < n ∧ LI4 I m X H') (fun m y0 y1 y5 y6 H' hm hi => ⟨m, hm, hi⟩) h)
def slices_DeleteFunc_Lapi_Ext_api_Ext (a0 a1 : AV) (H : AH) (K : AV → AH → Prop) : Prop :=
bP (PCall Try.prog 57 [a0, a1] H) fun v0 =>
bO (abI .eql v0 (.lit (.int .i64 (-1)))) fun v1 =>
bB v1 fun t2 => bI t2 (
K a0 H)
 (bO (abI .add v0 (.lit (.int .i64 1))) fun v3 =>
slices_DeleteFunc_Lapi_Ext_api_Ext_L7 a0 a1 v0 v3 H K)
theorem slices_DeleteFunc_Lapi_Ext_api_Ext_eq (a0 a1 : AV) (H : AH) (K : AV → AH → Prop) : sFun Try.prog slices_DeleteFunc_Lapi_Ext_api_Ext_fl pql none0 none0 slices_DeleteFunc_Lapi_Ext_api_Ext_kp Try.f46 [a0, a1] H K = slices_DeleteFunc_Lapi_Ext_api_Ext a0 a1 H K := by kernel_rfl
theorem slices_DeleteFunc_Lapi_Ext_api_Ext_ok {a0 a1 : AV} {H : AH} {K : AV → AH → Prop} (h : slices_DeleteFunc_Lapi_Ext_api_Ext a0 a1 H K) : ∃ r H', K r H' ∧ BCall Try.prog 46 [a0, a1] H r H' :=
  sFun_ok mixP Try.func46 (by kernel_rfl) (Eq.mpr (slices_DeleteFunc_Lapi_Ext_api_Ext_eq a0 a1 H K) h)
/-! salvor/extent.Truncate$1 -/
def extent_Truncate_1_fl : Floats := flOf []
def extent_Truncate_1_kp : Nat → Option (List Bool) := kpOf []
def extent_Truncate_1_c (p : List Bool) (n : Nat) : List AV → AH → Kf → Prop := sCode Try.prog extent_Truncate_1_fl pql none0 none0 extent_Truncate_1_kp (sub p (bodyOf Try.f47)) n
def extent_Truncate_1 (a0 a1 : AV) (H : AH) (K : AV → AH → Prop) : Prop :=
bH (anew H a0) fun v0 H1 =>
bO (ashift 0 v0) fun v2 =>
bO (ald false 1 H1 v2) fun v3 =>
bO (abI .mul v3 (.lit (.int .i64 8))) fun v4 =>
bO (ald false 1 H1 a1) fun v5 =>
bO (abI .geq v4 v5) fun v6 =>
K v6 H1
theorem extent_Truncate_1_eq (a0 a1 : AV) (H : AH) (K : AV → AH → Prop) : sFun Try.prog extent_Truncate_1_fl pql none0 none0 extent_Truncate_1_kp Try.f47 [a0, a1] H K = extent_Truncate_1 a0 a1 H K := by kernel_rfl
theorem extent_Truncate_1_ok {a0 a1 : AV} {H : AH} {K : AV → AH → Prop} (h : extent_Truncate_1 a0 a1 H K) : ∃ r H', K r H' ∧ BCall Try.prog 47 [a0, a1] H r H' :=
  sFun_ok mixP Try.func47 (by kernel_rfl) (Eq.mpr (extent_Truncate_1_eq a0 a1 H K) h)
/-! salvor/extent.wipe -/
def extent_wipe_fl : Floats := flOf [(1, [(3, some 7), (5, some 7)])]
def extent_wipe_kp : Nat → Option (List Bool) := kpOf [(3, mk 33 0 [0, 4, 14, 15])]
def extent_wipe_c (p : List Bool) (n : Nat) : List AV → AH → Kf → Prop := sCode Try.prog extent_wipe_fl pql none0 none0 extent_wipe_kp (sub p (bodyOf Try.f48)) n
def extent_wipe_L3 (x0 x4 x14 x15 : AV) (H : AH) (K : AV → AH → Prop) : Prop := lp (mk 33 0 [0, 4, 14, 15]) (extent_wipe_c [true, true, true, false, false] 4) [x0, x4, x14, x15] H (kBlk 0 (kRet Try.prog Try.f48.results.toList K))
def extent_wipe_L3_b (R3 : List AV → AH → Prop) (x0 x4 x14 x15 : AV) (H : AH) (K : AV → AH → Prop) : Prop :=
bO (abI .lss x15 x14) fun v0 =>
bB v0 fun t1 => bI t1 (
bO (ashift 0 x4) fun v2 =>
bO (ald false 1 H v2) fun v3 =>
bO (anilCheck x0) fun v4 =>
bO (ashift 0 v4) fun v5 =>
bO (ald false 1 H v5) fun v6 =>
bO (abI .mul v6 (.lit (.int .i64 8))) fun v7 =>
bO (abI .sub v3 v7) fun v8 =>
bO (abI .add v8 x15) fun v9 =>
bO (anilCheck x0) fun v10 =>
bO (ashift 1 v10) fun v11 =>
bO (aixA 8 1 v11 v9) fun v12 =>
bS (ast 1 H v12 (.lit (.int .u8 0))) fun H13 =>
bO (abI .add x15 (.lit (.int .i64 1))) fun v14 =>
R3 [x0, x4, x14, v14] H13)
 (K (.tup []) H)
theorem extent_wipe_L3_eq (R3 : List AV → AH → Prop) (x0 x4 x14 x15 : AV) (H : AH) (K : AV → AH → Prop) : extent_wipe_c [true, true, true, false, false] 4 (expand (mk 33 0 [0, 4, 14, 15]) [x0, x4, x14, x15]) H (kLp (mk 33 0 [0, 4, 14, 15]) R3 (kBlk 0 (kRet Try.prog Try.f48.results.toList K))) = extent_wipe_L3_b R3 x0 x4 x14 x15 H K := by kernel_rfl
theorem extent_wipe_L3_rule {K : AV → AH → Prop} (I : Nat → AV → AV → AV → AV → AH → Prop) (round : ∀ (n : Nat) (x0 x4 x14 x15 : AV) (H : AH) (R : List AV → AH → Prop), (∀ (m : Nat) (y0 y4 y14 y15 : AV) (H' : AH), m < n → I m y0 y4 y14 y15 H' → R [y0, y4, y14, y15] H') → I n x0 x4 x14 x15 H → extent_wipe_L3_b R x0 x4 x14 x15 H K) (n : Nat) {x0 x4 x14 x15 : AV} {H : AH} (h : I n x0 x4 x14 x15 H) : extent_wipe_L3 x0 x4 x14 x15 H K := by
  refine lp_upto (sCode_one _ _) (LI4 I) ?_ n h
  intro n X H h
  obtain ⟨x0, x4, x14, x15, rfl, h⟩ := h.elim
  exact Eq.mpr (extent_wipe_L3_eq _ x0 x4 x14 x15 H K) (round n x0 x4 x14 x15 H (fun X H' => ∃ m, m < n ∧ LI4 I m X H') (fun m y0 y4 y14 y15 H' hm hi => ⟨m, hm, hi⟩) h)
def extent_wipe (a0 a1 : AV) (H : AH) (K : AV → AH → Prop) : Prop :=
bH (anew H a1) fun v0 H1 =>
bO (anilCheck a0) fun v2 =>
bO (ashift 0 v2) fun v3 =>
bO (ald false 1 H1 v3) fun v4 =>
bP (BPure Try.prog 38 [v4]) fun v5 =>
bO (ald true 2 H1 v0) fun v6 =>
bP (BPure Try.prog 37 [v5, v6]) fun v7 =>
bH (anew H1 (.agg [(.lit (.int .i64 0)), (.lit (.int .i64 0))])) fun v8 H9 =>
bS (ast 2 H9 v8 v7) fun H10 =>
(ald false 1 H9 v3 = some v4) ∧
(ald true 2 H9 v0 = some v6) ∧
bO (ashift 1 v8) fun v11 =>
bO (ald false 1 H10 v11) fun v12 =>
extent_wipe_L3 a0 v8 v12 (.lit (.int .i64 0)) H10 K
theorem extent_wipe_eq (a0 a1 : AV) (H : AH) (K : AV → AH → Prop) : sFun Try.prog extent_wipe_fl pql none0 none0 extent_wipe_kp Try.f48 [a0, a1] H K = extent_wipe a0 a1 H K := by kernel_rfl
theorem extent_wipe_ok {a0 a1 : AV} {H : AH} {K : AV → AH → Prop} (h : extent_wipe a0 a1 H K) : ∃ r H', K r H' ∧ BCall Try.prog 48 [a0, a1] H r H' :=
  sFun_ok mixP Try.func48 (by kernel_rfl) (Eq.mpr (extent_wipe_eq a0 a1 H K) h)
/-! salvor/extent.Punch$1 -/
def extent_Punch_1_fl : Floats := flOf []
def extent_Punch_1_kp : Nat → Option (List Bool) := kpOf []
def extent_Punch_1_c (p : List Bool) (n : Nat) : List AV → AH → Kf → Prop := sCode Try.prog extent_Punch_1_fl pql none0 none0 extent_Punch_1_kp (sub p (bodyOf Try.f49)) n
def extent_Punch_1 (a0 a1 : AV) (H : AH) (K : AV → AH → Prop) : Prop :=
bH (anew H a0) fun v0 H1 =>
bO (ashift 0 v0) fun v2 =>
bO (ald false 1 H1 v2) fun v3 =>
bP (BPure Try.prog 38 [v3]) fun v4 =>
bO (ald true 2 H1 a1) fun v5 =>
bP (BPure Try.prog 50 [v4, v5]) fun v6 =>
K v6 H1
theorem extent_Punch_1_eq (a0 a1 : AV) (H : AH) (K : AV → AH → Prop) : sFun Try.prog extent_Punch_1_fl pql none0 none0 extent_Punch_1_kp Try.f49 [a0, a1] H K = extent_Punch_1 a0 a1 H K := by kernel_rfl
theorem extent_Punch_1_ok {a0 a1 : AV} {H : AH} {K : AV → AH → Prop} (h : extent_Punch_1 a0 a1 H K) : ∃ r H', K r H' ∧ BCall Try.prog 49 [a0, a1] H r H' :=
  sFun_ok mixP Try.func49 (by kernel_rfl) (Eq.mpr (extent_Punch_1_eq a0 a1 H K) h)
/-! salvor/off.Within -/
def off_Within_fl : Floats := flOf []
def off_Within_kp : Nat → Option (List Bool) := kpOf []
def off_Within_c (p : List Bool) (n : Nat) : List AV → AH → Kf → Prop := sCode Try.prog off_Within_fl pql none0 none0 off_Within_kp (sub p (bodyOf Try.f50)) n
def off_Within (a0 a1 : AV) (H : AH) (K : AV → AH → Prop) : Prop :=
bH (anew H a0) fun v0 H1 =>
bH (anew H1 a1) fun v2 H3 =>
bO (ald true 2 H3 v0) fun v4 =>
bP (PCall Try.prog 52 [v4] H3) fun v5 =>
bO (aun .not v5) fun v6 =>
bG v6 false fun w7 =>
gO w7 (ald true 2 H3 v2) fun v8 =>
bG v6 false fun w9 =>
gP w9 (PCall Try.prog 52 [v8] H3) fun v10 =>
bG v6 false fun w11 =>
gO w11 (aun .not v10) fun v12 =>
bO (apick v6 (.lit (.bool true)) v12) fun v13 =>
bB v13 fun t14 => bI t14 (
K (.lit (.bool false)) H3)
 (bO (ashift 1 v0) fun v15 =>
bO (ald false 1 H3 v15) fun v16 =>
bO (abI .eql v16 (.lit (.int .i64 0))) fun v17 =>
bG v17 false fun w18 =>
gO w18 (ald true 2 H3 v0) fun v19 =>
bG v17 false fun w20 =>
gO w20 (ald true 2 H3 v2) fun v21 =>
bG v17 false fun w22 =>
gP w22 (BPure Try.prog 37 [v19, v21]) fun v23 =>
bG v17 false fun w24 =>
gO w24 (ald true 2 H3 v0) fun v25 =>
bG v17 false fun w26 =>
gO w26 (abin Try.prog .eql 54 v23 v25) fun v27 =>
bO (apick v17 (.lit (.bool true)) v27) fun v28 =>
K v28 H3)
theorem off_Within_eq (a0 a1 : AV) (H : AH) (K : AV → AH → Prop) : sFun Try.prog off_Within_fl pql none0 none0 off_Within_kp Try.f50 [a0, a1] H K = off_Within a0 a1 H K := by kernel_rfl
theorem off_Within_ok {a0 a1 : AV} {H : AH} {K : AV → AH → Prop} (h : off_Within a0 a1 H K) : ∃ r H', K r H' ∧ BCall Try.prog 50 [a0, a1] H r H' :=
  sFun_ok mixP Try.func50 (by kernel_rfl) (Eq.mpr (off_Within_eq a0 a1 H K) h)
/-! slices.Clone[[]salvor/api.Ext,salvor/api.Ext] -/
def slices_Clone_Lapi_Ext_api_Ext_fl : Floats := flOf []
def slices_Clone_Lapi_Ext_api_Ext_kp : Nat → Option (List Bool) := kpOf []
def slices_Clone_Lapi_Ext_api_Ext_c (p : List Bool) (n : Nat) : List AV → AH → Kf → Prop := sCode Try.prog slices_Clone_Lapi_Ext_api_Ext_fl pql none0 none0 slices_Clone_Lapi_Ext_api_Ext_kp (sub p (bodyOf Try.f51)) n
def slices_Clone_Lapi_Ext_api_Ext (a0 : AV) (H : AH) (K : AV → AH → Prop) : Prop :=
bO (abN .eql nilS a0 (.lit (.slice none 0 0))) fun v0 =>
bB v0 fun t1 => bI t1 (
K (.lit (.slice none 0 0)) H)
 (bH (absl H 9 0 (zrow [(.lit (.int .i64 0)), (.lit (.int .u8 0)), (.lit (.int .u8 0)), (.lit (.int .u8 0)), (.lit (.int .u8 0)), (.lit (.int .u8 0)), (.lit (.int .u8 0)), (.lit (.int .u8 0)), (.lit (.int .u8 0))] 0) []) fun v2 H3 =>
bH (aap 9 16 H3 v2 a0) fun v4 H5 =>
K v4 H5)
theorem slices_Clone_Lapi_Ext_api_Ext_eq (a0 : AV) (H : AH) (K : AV → AH → Prop) : sFun Try.prog slices_Clone_Lapi_Ext_api_Ext_fl pql none0 none0 slices_Clone_Lapi_Ext_api_Ext_kp Try.f51 [a0] H K = slices_Clone_Lapi_Ext_api_Ext a0 H K := by kernel_rfl
theorem slices_Clone_Lapi_Ext_api_Ext_ok {a0 : AV} {H : AH} {K : AV → AH → Prop} (h : slices_Clone_Lapi_Ext_api_Ext a0 H K) : ∃ r H', K r H' ∧ BCall Try.prog 51 [a0] H r H' :=
  sFun_ok mixP Try.func51 (by kernel_rfl) (Eq.mpr (slices_Clone_Lapi_Ext_api_Ext_eq a0 H K) h)
/-! salvor/off.MaySpan -/
def off_MaySpan_fl : Floats := flOf []
def off_MaySpan_kp : Nat → Option (List Bool) := kpOf []
def off_MaySpan_c (p : List Bool) (n : Nat) : List AV → AH → Kf → Prop := sCode Try.prog off_MaySpan_fl pql none0 none0 off_MaySpan_kp (sub p (bodyOf Try.f52)) n
def off_MaySpan (a0 : AV) (H : AH) (K : AV → AH → Prop) : Prop :=
bH (anew H a0) fun v0 H1 =>
bO (ashift 0 v0) fun v2 =>
bO (ald false 1 H1 v2) fun v3 =>
bP (PCall Try.prog 58 [v3] H1) fun v4 =>
bG v4 true fun w5 =>
gO w5 (ashift 1 v0) fun v6 =>
bG v4 true fun w7 =>
gO w7 (ald false 1 H1 v6) fun v8 =>
bG v4 true fun w9 =>
gP w9 (PCall Try.prog 58 [v8] H1) fun v10 =>
bO (apick v4 v10 (.lit (.bool false))) fun v11 =>
bG v11 true fun w12 =>
gO w12 (ashift 1 v0) fun v13 =>
bG v11 true fun w14 =>
gO w14 (ald false 1 H1 v13) fun v15 =>
bG v11 true fun w16 =>
gO w16 (ashift 0 v0) fun v17 =>
bG v11 true fun w18 =>
gO w18 (ald false 1 H1 v17) fun v19 =>
bG v11 true fun w20 =>
gO w20 (abI .sub (.lit (.int .i64 4611686018427387904)) v19) fun v21 =>
bG v11 true fun w22 =>
gO w22 (abI .leq v15 v21) fun v23 =>
bO (apick v11 v23 (.lit (.bool false))) fun v24 =>
K v24 H1
theorem off_MaySpan_eq (a0 : AV) (H : AH) (K : AV → AH → Prop) : sFun Try.prog off_MaySpan_fl pql none0 none0 off_MaySpan_kp Try.f52 [a0] H K = off_MaySpan a0 H K := by kernel_rfl
theorem off_MaySpan_ok {a0 : AV} {H : AH} {K : AV → AH → Prop} (h : off_MaySpan a0 H K) : ∃ r H', K r H' ∧ BCall Try.prog 52 [a0] H r H' :=
  sFun_ok mixP Try.func52 (by kernel_rfl) (Eq.mpr (off_MaySpan_eq a0 H K) h)
/-! slices.Insert[[]salvor/api.Ext,salvor/api.Ext] -/
def slices_Insert_Lapi_Ext_api_Ext_fl : Floats := flOf []
def slices_Insert_Lapi_Ext_api_Ext_kp : Nat → Option (List Bool) := kpOf []
def slices_Insert_Lapi_Ext_api_Ext_un : Nat → Bool := inL []
def slices_Insert_Lapi_Ext_api_Ext_c (p : List Bool) (n : Nat) : List AV → AH → Kf → Prop := sCode Try.prog slices_Insert_Lapi_Ext_api_Ext_fl pql pal slices_Insert_Lapi_Ext_api_Ext_un slices_Insert_Lapi_Ext_api_Ext_kp (sub p (bodyOf Try.f53)) n
def slices_Insert_Lapi_Ext_api_Ext (a0 a1 a2 : AV) (H : AH) (K : AV → AH → Prop) : Prop :=
bO (aslS 9 a0 (some a1) none none) fun v0 =>
bO (alnS a2) fun v1 =>
bO (abI .eql v1 (.lit (.int .i64 0))) fun v2 =>
bB v2 fun t3 => bI t3 (
K a0 H)
 (bO (alnS a0) fun v4 =>
bO (abI .eql a1 v4) fun v5 =>
bB v5 fun t6 => bI t6 (
bH (aap 9 16 H a0 a2) fun v7 H8 =>
K v7 H8)
 (bO (abI .add v4 v1) fun v9 =>
bO (acpS a0) fun v10 =>
bO (abI .gtr v9 v10) fun v11 =>
bB v11 fun t12 => bI t12 (
bO (aslS 9 a0 none (some a1) none) fun v13 =>
bO (abI .add v4 v1) fun v14 =>
bO (abI .sub v14 a1) fun v15 =>
bH (aappZ1 H 9 16 [(.lit (.int .i64 0)), (.lit (.int .u8 0)), (.lit (.int .u8 0)), (.lit (.int .u8 0)), (.lit (.int .u8 0)), (.lit (.int .u8 0)), (.lit (.int .u8 0)), (.lit (.int .u8 0)), (.lit (.int .u8 0))] v13 v15) fun v16 H17 =>
bO (aslS 9 v16 (some a1) none none) fun v18 =>
bH (acp 9 H17 v18 a2) fun v19 H20 =>
bO (abI .add a1 v1) fun v21 =>
bO (aslS 9 v16 (some v21) none none) fun v22 =>
bO (aslS 9 a0 (some a1) none none) fun v23 =>
bH (acp 9 H20 v22 v23) fun v24 H25 =>
K v16 H25)
 (bO (abI .add v4 v1) fun v26 =>
bO (aslS 9 a0 none (some v26) none) fun v27 =>
bO (abI .add a1 v1) fun v28 =>
bO (aslS 9 v27 (some v28) none none) fun v29 =>
bP (ExtR Try.prog 59 [a2, v29] H) fun v30 =>
bO (aun .not v30) fun v31 =>
bB v31 fun t32 => bI t32 (
bO (abI .add a1 v1) fun v33 =>
bO (aslS 9 v27 (some v33) none none) fun v34 =>
bO (aslS 9 v27 (some a1) none none) fun v35 =>
bH (acp 9 H v34 v35) fun v36 H37 =>
bO (aslS 9 v27 (some a1) none none) fun v38 =>
bH (acp 9 H37 v38 a2) fun v39 H40 =>
K v27 H40)
 (bO (aslS 9 v27 (some v4) none none) fun v41 =>
bH (acp 9 H v41 a2) fun v42 H43 =>
bO (aslS 9 v27 (some a1) none none) fun v44 =>
bC (BCall Try.prog 60 [v44, v1] H43) fun v45 H46 =>
K v27 H46))))
theorem slices_Insert_Lapi_Ext_api_Ext_eq (a0 a1 a2 : AV) (H : AH) (K : AV → AH → Prop) : sFun Try.prog slices_Insert_Lapi_Ext_api_Ext_fl pql pal slices_Insert_Lapi_Ext_api_Ext_un slices_Insert_Lapi_Ext_api_Ext_kp Try.f53 [a0, a1, a2] H K = slices_Insert_Lapi_Ext_api_Ext a0 a1 a2 H K := by kernel_rfl
theorem slices_Insert_Lapi_Ext_api_Ext_ok {a0 a1 a2 : AV} {H : AH} {K : AV → AH → Prop} (h : slices_Insert_Lapi_Ext_api_Ext a0 a1 a2 H K) : ACalls Try.prog 53 [a0, a1, a2] H K :=
  sFun_wp mixP Try.func53 (by kernel_rfl) (Eq.mpr (slices_Insert_Lapi_Ext_api_Ext_eq a0 a1 a2 H K) h)
/-! slices.BinarySearchFunc[[]salvor/api.Ext,salvor/api.Ext,int] -/
def slices_BinarySearchFunc_Lapi_Ext_api_Ext_int_fl : Floats := flOf []
def slices_BinarySearchFunc_Lapi_Ext_api_Ext_int_kp : Nat → Option (List Bool) := kpOf [(4, mk 49 0 [0, 1, 2, 8, 9, 10])]
def slices_BinarySearchFunc_Lapi_Ext_api_Ext_int_c (p : List Bool) (n : Nat) : List AV → AH → Kf → Prop := sCode Try.prog slices_BinarySearchFunc_Lapi_Ext_api_Ext_int_fl pql none0 none0 slices_BinarySearchFunc_Lapi_Ext_api_Ext_int_kp (sub p (bodyOf Try.f54)) n
def slices_BinarySearchFunc_Lapi_Ext_api_Ext_int_L4 (x0 x1 x2 x8 x9 x10 : AV) (H : AH) (K : AV → AH → Prop) : Prop := lp (mk 49 0 [0, 1, 2, 8, 9, 10]) (slices_BinarySearchFunc_Lapi_Ext_api_Ext_int_c [true, true, true, false, false, false] 5) [x0, x1, x2, x8, x9, x10] H (kBlk 0 (kSeq (slices_BinarySearchFunc_Lapi_Ext_api_Ext_int_c [true, true, true, true] 9) (kRet Try.prog Try.f54.results.toList K)))
def slices_BinarySearchFunc_Lapi_Ext_api_Ext_int_L4_b (R4 : List AV → AH → Prop) (x0 x1 x2 x8 x9 x10 : AV) (H : AH) (K : AV → AH → Prop) : Prop :=
bO (abI .lss x9 x10) fun v0 =>
bB v0 fun t1 => bI t1 (
bO (abI .add x9 x10) fun v2 =>
bO (acI .u64 v2) fun v3 =>
bO (abI .shr v3 (.lit (.int .u64 1))) fun v4 =>
bO (acI .i64 v4) fun v5 =>
bO (aixS 9 x0 v5) fun v6 =>
bO (ald true 9 H v6) fun v7 =>
bF true x2 fun k10 f10 c10 =>
bT (goFunc Try.prog k10 || !true) <|
bC (BCall Try.prog k10 (f10 ++ [v7, x1] ++ c10) H) fun v8 H9 =>
bO (abI .lss v8 (.lit (.int .i64 0))) fun v11 =>
bB v11 fun t12 => bI t12 (
bO (abI .add v5 (.lit (.int .i64 1))) fun v13 =>
R4 [x0, x1, x2, x8, v13, x10] H9)
 (R4 [x0, x1, x2, x8, x9, v5] H9))
 (bO (abI .lss x9 x8) fun v14 =>
bG v14 true fun w15 =>
gO w15 (some x2) fun v16 =>
bG v14 true fun w17 =>
gO w17 (some x0) fun v18 =>
bG v14 true fun w19 =>
gO w19 (some x9) fun v20 =>
bG v14 true fun w21 =>
gO w21 (aixS 9 v18 v20) fun v22 =>
bG v14 true fun w23 =>
gO w23 (ald true 9 H v22) fun v24 =>
bG v14 true fun w25 =>
gO w25 (some x1) fun v26 =>
bG v14 true fun w27 =>
bF w27 v16 fun k30 f30 c30 =>
bT (goFunc Try.prog k30 || !w27) <|
gC w27 (BCall Try.prog k30 (f30 ++ [v24, v26] ++ c30) H) H fun v28 H29 =>
bG v14 true fun w31 =>
gO w31 (abI .eql v28 (.lit (.int .i64 0))) fun v32 =>
bO (apick v14 v32 (.lit (.bool false))) fun v33 =>
K (.tup [x9, v33]) H29)
theorem slices_BinarySearchFunc_Lapi_Ext_api_Ext_int_L4_eq (R4 : List AV → AH → Prop) (x0 x1 x2 x8 x9 x10 : AV) (H : AH) (K : AV → AH → Prop) : slices_BinarySearchFunc_Lapi_Ext_api_Ext_int_c [true, true, true, false, false, false] 5 (expand (mk 49 0 [0, 1, 2, 8, 9, 10]) [x0, x1, x2, x8, x9, x10]) H (kLp (mk 49 0 [0, 1, 2, 8, 9, 10]) R4 (kBlk 0 (kSeq (slices_BinarySearchFunc_Lapi_Ext_api_Ext_int_c [true, true, true, true] 9) (kRet Try.prog Try.f54.results.toList K)))) = slices_BinarySearchFunc_Lapi_Ext_api_Ext_int_L4_b R4 x0 x1 x2 x8 x9 x10 H K := by kernel_rfl
theorem slices_BinarySearchFunc_Lapi_Ext_api_Ext_int_L4_rule {K : AV → AH → Prop} (I : Nat → AV → AV → AV → AV → AV → AV → AH → Prop) (round : ∀ (n : Nat) (x0 x1 x2 x8 x9 x10 : AV) (H : AH) (R : List AV → AH → Prop), (∀ (m : Nat) (y0 y1 y2 y8 y9 y10 : AV) (H' : AH), m < n → I m y0 y1 y2 y8 y9 y10 H' → R [y0, y1, y2, y8, y9, y10] H') → I n x0 x1 x2 x8 x9 x10 H → slices_BinarySearchFunc_Lapi_Ext_api_Ext_int_L4_b R x0 x1 x2 x8 x9 x10 H K) (n : Nat) {x0 x1 x2 x8 x9 x10 : AV} {H : AH} (h : I n x0 x1 x2 x8 x9 x10 H) : slices_BinarySearchFunc_Lapi_Ext_api_Ext_int_L4 x0 x1 x2 x8 x9 x10 H K := by
  refine lp_upto (sCode_one _ _) (LI6 I) ?_ n h
  intro n X H h
  obtain ⟨x0, x1, x2, x8, x9, x10, rfl, h⟩ := h.elim
  exact Eq.mpr (slices_BinarySearchFunc_Lapi_Ext_api_Ext_int_L4_eq _ x0 x1 x2 x8 x9 x10 H K) (round n x0 x1 x2 x8 x9 x10 H (fun X H' => ∃ m, m < n ∧ LI6 I m X H') (fun m y0 y1 y2 y8 y9 y10 H' hm hi => ⟨m, hm, hi⟩) h)
def slices_BinarySearchFunc_Lapi_Ext_api_Ext_int (a0 a1 a2 : AV) (H : AH) (K : AV → AH → Prop) : Prop :=
bO (alnS a0) fun v0 =>
slices_BinarySearchFunc_Lapi_Ext_api_Ext_int_L4 a0 a1 a2 v0 (.lit (.int .i64 0)) v0 H K
theorem slices_BinarySearchFunc_Lapi_Ext_api_Ext_int_eq (a0 a1 a2 : AV) (H : AH) (K : AV → AH → Prop) : sFun Try.prog slices_BinarySearchFunc_Lapi_Ext_api_Ext_int_fl pql none0 none0 slices_BinarySearchFunc_Lapi_Ext_api_Ext_int_kp Try.f54 [a0, a1, a2] H K = slices_BinarySearchFunc_Lapi_Ext_api_Ext_int a0 a1 a2 H K := by kernel_rfl
theorem slices_BinarySearchFunc_Lapi_Ext_api_Ext_int_ok {a0 a1 a2 : AV} {H : AH} {K : AV → AH → Prop} (h : slices_BinarySearchFunc_Lapi_Ext_api_Ext_int a0 a1 a2 H K) : ∃ r H', K r H' ∧ BCall Try.prog 54 [a0, a1, a2] H r H' :=
  sFun_ok mixP Try.func54 (by kernel_rfl) (Eq.mpr (slices_BinarySearchFunc_Lapi_Ext_api_Ext_int_eq a0 a1 a2 H K) h)
/-! salvor/extent.place$1 -/
def extent_place_1_fl : Floats := flOf []
def extent_place_1_kp : Nat → Option (List Bool) := kpOf []
def extent_place_1_c (p : List Bool) (n : Nat) : List AV → AH → Kf → Prop := sCode Try.prog extent_place_1_fl pql none0 none0 extent_place_1_kp (sub p (bodyOf Try.f55)) n
def extent_place_1 (a0 a1 : AV) (H : AH) (K : AV → AH → Prop) : Prop :=
bH (anew H a0) fun v0 H1 =>
bO (ashift 0 v0) fun v2 =>
bO (ald false 1 H1 v2) fun v3 =>
bP (PCall Try.prog 56 [v3, a1] H1) fun v4 =>
K v4 H1
theorem extent_place_1_eq (a0 a1 : AV) (H : AH) (K : AV → AH → Prop) : sFun Try.prog extent_place_1_fl pql none0 none0 extent_place_1_kp Try.f55 [a0, a1] H K = extent_place_1 a0 a1 H K := by kernel_rfl
theorem extent_place_1_ok {a0 a1 : AV} {H : AH} {K : AV → AH → Prop} (h : extent_place_1 a0 a1 H K) : ∃ r H', K r H' ∧ BCall Try.prog 55 [a0, a1] H r H' :=
  sFun_ok mixP Try.func55 (by kernel_rfl) (Eq.mpr (extent_place_1_eq a0 a1 H K) h)
/-! cmp.Compare[int] -/
def cmp_Compare_int_fl : Floats := flOf []
def cmp_Compare_int_kp : Nat → Option (List Bool) := kpOf []
def cmp_Compare_int_c (p : List Bool) (n : Nat) : List AV → AH → Kf → Prop := sCode Try.prog cmp_Compare_int_fl pql none0 none0 cmp_Compare_int_kp (sub p (bodyOf Try.f56)) n
def cmp_Compare_int (a0 a1 : AV) (H : AH) (K : AV → AH → Prop) : Prop :=
bP (PCall Try.prog 61 [a0] H) fun v0 =>
bP (PCall Try.prog 61 [a1] H) fun v1 =>
bB v0 fun t2 => bI t2 (
bB v1 fun t3 => bI t3 (
K (.lit (.int .i64 0)) H)
 (K (.lit (.int .i64 (-1))) H))
 (bB v1 fun t4 => bI t4 (
K (.lit (.int .i64 1)) H)
 (bO (abI .lss a0 a1) fun v5 =>
bB v5 fun t6 => bI t6 (
K (.lit (.int .i64 (-1))) H)
 (bO (abI .gtr a0 a1) fun v7 =>
bB v7 fun t8 => bI t8 (
K (.lit (.int .i64 1)) H)
 (K (.lit (.int .i64 0)) H))))
theorem cmp_Compare_int_eq (a0 a1 : AV) (H : AH) (K : AV → AH → Prop) : sFun Try.prog cmp_Compare_int_fl pql none0 none0 cmp_Compare_int_kp Try.f56 [a0, a1] H K = cmp_Compare_int a0 a1 H K := by kernel_rfl
theorem cmp_Compare_int_ok {a0 a1 : AV} {H : AH} {K : AV → AH → Prop} (h : cmp_Compare_int a0 a1 H K) : ∃ r H', K r H' ∧ BCall Try.prog 56 [a0, a1] H r H' :=
  sFun_ok mixP Try.func56 (by kernel_rfl) (Eq.mpr (cmp_Compare_int_eq a0 a1 H K) h)
/-! slices.IndexFunc[[]salvor/api.Ext,salvor/api.Ext] -/
def slices_IndexFunc_Lapi_Ext_api_Ext_fl : Floats := flOf []
def slices_IndexFunc_Lapi_Ext_api_Ext_kp : Nat → Option (List Bool) := kpOf [(3, mk 19 0 [0, 1, 7, 8])]
def slices_IndexFunc_Lapi_Ext_api_Ext_c (p : List Bool) (n : Nat) : List AV → AH → Kf → Prop := sCode Try.prog slices_IndexFunc_Lapi_Ext_api_Ext_fl pql none0 none0 slices_IndexFunc_Lapi_Ext_api_Ext_kp (sub p (bodyOf Try.f57)) n
def slices_IndexFunc_Lapi_Ext_api_Ext_L3 (x0 x1 x7 x8 : AV) (H : AH) (K : AV → AH → Prop) : Prop := lp (mk 19 0 [0, 1, 7, 8]) (slices_IndexFunc_Lapi_Ext_api_Ext_c [true, false, true, false, false] 4) [x0, x1, x7, x8] H (kBlk 0 (kSeq (slices_IndexFunc_Lapi_Ext_api_Ext_c [true, true] 10) (kRet Try.prog Try.f57.results.toList K)))
def slices_IndexFunc_Lapi_Ext_api_Ext_L3_b (R3 : List AV → AH → Prop) (x0 x1 x7 x8 : AV) (H : AH) (K : AV → AH → Prop) : Prop :=
bO (abI .lss x8 x7) fun v0 =>
bB v0 fun t1 => bI t1 (
bO (aixS 9 x0 x8) fun v2 =>
bO (ald true 9 H v2) fun v3 =>
bF true x1 fun k6 f6 c6 =>
bT (goFunc Try.prog k6 || !true) <|
bC (BCall Try.prog k6 (f6 ++ [v3] ++ c6) H) fun v4 H5 =>
bB v4 fun t7 => bI t7 (
K x8 H5)
 (bO (abI .add x8 (.lit (.int .i64 1))) fun v8 =>
R3 [x0, x1, x7, v8] H5))
 (K (.lit (.int .i64 (-1))) H)
theorem slices_IndexFunc_Lapi_Ext_api_Ext_L3_eq (R3 : List AV → AH → Prop) (x0 x1 x7 x8 : AV) (H : AH) (K : AV → AH → Prop) : slices_IndexFunc_Lapi_Ext_api_Ext_c [true, false, true, false, false] 4 (expand (mk 19 0 [0, 1, 7, 8]) [x0, x1, x7, x8]) H (kLp (mk 19 0 [0, 1, 7, 8]) R3 (kBlk 0 (kSeq (slices_IndexFunc_Lapi_Ext_api_Ext_c [true, true] 10) (kRet Try.prog Try.f57.results.toList K)))) = slices_IndexFunc_Lapi_Ext_api_Ext_L3_b R3 x0 x1 x7 x8 H K := by kernel_rfl
theorem slices_IndexFunc_Lapi_Ext_api_Ext_L3_rule {K : AV → AH → Prop} (I : Nat → AV → AV → AV → AV → AH → Prop) (round : ∀ (n : Nat) (x0 x1 x7 x8 : AV) (H : AH) (R : List AV → AH → Prop), (∀ (m : Nat) (y0 y1 y7 y8 : AV) (H' : AH), m < n → I m y0 y1 y7 y8 H' → R [y0, y1, y7, y8] H') → I n x0 x1 x7 x8 H → slices_IndexFunc_Lapi_Ext_api_Ext_L3_b R x0 x1 x7 x8 H K) (n : Nat) {x0 x1 x7 x8 : AV} {H : AH} (h : I n x0 x1 x7 x8 H) : slices_IndexFunc_Lapi_Ext_api_Ext_L3 x0 x1 x7 x8 H K := by
  refine lp_upto (sCode_one _ _) (LI4 I) ?_ n h
  intro n X H h
  obtain ⟨x0, x1, x7, x8, rfl, h⟩ := h.elim
  exact Eq.mpr (slices_IndexFunc_Lapi_Ext_api_Ext_L3_eq _ x0 x1 x7 x8 H K) (round n x0 x1 x7 x8 H (fun X H' => ∃ m, m < n ∧ LI4 I m X H') (fun m y0 y1 y7 y8 H' hm hi => ⟨m, hm, hi⟩) h)
def slices_IndexFunc_Lapi_Ext_api_Ext (a0 a1 : AV) (H : AH) (K : AV → AH → Prop) : Prop :=
bO (alnS a0) fun v0 =>
slices_IndexFunc_Lapi_Ext_api_Ext_L3 a0 a1 v0 (.lit (.int .i64 0)) H K
theorem slices_IndexFunc_Lapi_Ext_api_Ext_eq (a0 a1 : AV) (H : AH) (K : AV → AH → Prop) : sFun Try.prog slices_IndexFunc_Lapi_Ext_api_Ext_fl pql none0 none0 slices_IndexFunc_Lapi_Ext_api_Ext_kp Try.f57 [a0, a1] H K = slices_IndexFunc_Lapi_Ext_api_Ext a0 a1 H K := by kernel_rfl
theorem slices_IndexFunc_Lapi_Ext_api_Ext_ok {a0 a1 : AV} {H : AH} {K : AV → AH → Prop} (h : slices_IndexFunc_Lapi_Ext_api_Ext a0 a1 H K) : ∃ r H', K r H' ∧ BCall Try.prog 57 [a0, a1] H r H' :=
  sFun_ok mixP Try.func57 (by kernel_rfl) (Eq.mpr (slices_IndexFunc_Lapi_Ext_api_Ext_eq a0 a1 H K) h)
/-! salvor/off.May -/
def off_May_fl : Floats := flOf []
def off_May_kp : Nat → Option (List Bool) := kpOf []
def off_May_c (p : List Bool) (n : Nat) : List AV → AH → Kf → Prop := sCode Try.prog off_May_fl pql none0 none0 off_May_kp (sub p (bodyOf Try.f58)) n
def off_May (a0 : AV) (H : AH) (K : AV → AH → Prop) : Prop :=
bO (abI .geq a0 (.lit (.int .i64 0))) fun v0 =>
bG v0 true fun w1 =>
gO w1 (some a0) fun v2 =>
bG v0 true fun w3 =>
gO w3 (abI .leq v2 (.lit (.int .i64 4611686018427387904))) fun v4 =>
bO (apick v0 v4 (.lit (.bool false))) fun v5 =>
K v5 H
theorem off_May_eq (a0 : AV) (H : AH) (K : AV → AH → Prop) : sFun Try.prog off_May_fl pql none0 none0 off_May_kp Try.f58 [a0] H K = off_May a0 H K := by kernel_rfl
theorem off_May_ok {a0 : AV} {H : AH} {K : AV → AH → Prop} (h : off_May a0 H K) : ∃ r H', K r H' ∧ BCall Try.prog 58 [a0] H r H' :=
  sFun_ok mixP Try.func58 (by kernel_rfl) (Eq.mpr (off_May_eq a0 H K) h)
/-! slices.rotateRight[salvor/api.Ext] -/
def slices_rotateRight_api_Ext_fl : Floats := flOf []
def slices_rotateRight_api_Ext_kp : Nat → Option (List Bool) := kpOf []
def slices_rotateRight_api_Ext_c (p : List Bool) (n : Nat) : List AV → AH → Kf → Prop := sCode Try.prog slices_rotateRight_api_Ext_fl pql none0 none0 slices_rotateRight_api_Ext_kp (sub p (bodyOf Try.f60)) n
def slices_rotateRight_api_Ext (a0 a1 : AV) (H : AH) (K : AV → AH → Prop) : Prop :=
bO (alnS a0) fun v0 =>
bO (abI .sub v0 a1) fun v1 =>
bC (BCall Try.prog 62 [a0, v1] H) fun v2 H3 =>
K (.tup []) H3
theorem slices_rotateRight_api_Ext_eq (a0 a1 : AV) (H : AH) (K : AV → AH → Prop) : sFun Try.prog slices_rotateRight_api_Ext_fl pql none0 none0 slices_rotateRight_api_Ext_kp Try.f60 [a0, a1] H K = slices_rotateRight_api_Ext a0 a1 H K := by kernel_rfl
theorem slices_rotateRight_api_Ext_ok {a0 a1 : AV} {H : AH} {K : AV → AH → Prop} (h : slices_rotateRight_api_Ext a0 a1 H K) : ∃ r H', K r H' ∧ BCall Try.prog 60 [a0, a1] H r H' :=
  sFun_ok mixP Try.func60 (by kernel_rfl) (Eq.mpr (slices_rotateRight_api_Ext_eq a0 a1 H K) h)
/-! cmp.isNaN[int] -/
def cmp_isNaN_int_fl : Floats := flOf []
def cmp_isNaN_int_kp : Nat → Option (List Bool) := kpOf []
def cmp_isNaN_int_c (p : List Bool) (n : Nat) : List AV → AH → Kf → Prop := sCode Try.prog cmp_isNaN_int_fl pql none0 none0 cmp_isNaN_int_kp (sub p (bodyOf Try.f61)) n
def cmp_isNaN_int (a0 : AV) (H : AH) (K : AV → AH → Prop) : Prop :=
bO (abI .neq a0 a0) fun v0 =>
K v0 H
theorem cmp_isNaN_int_eq (a0 : AV) (H : AH) (K : AV → AH → Prop) : sFun Try.prog cmp_isNaN_int_fl pql none0 none0 cmp_isNaN_int_kp Try.f61 [a0] H K = cmp_isNaN_int a0 H K := by kernel_rfl
theorem cmp_isNaN_int_ok {a0 : AV} {H : AH} {K : AV → AH → Prop} (h : cmp_isNaN_int a0 H K) : ∃ r H', K r H' ∧ BCall Try.prog 61 [a0] H r H' :=
  sFun_ok mixP Try.func61 (by kernel_rfl) (Eq.mpr (cmp_isNaN_int_eq a0 H K) h)
/-! slices.rotateLeft[salvor/api.Ext] -/
def slices_rotateLeft_api_Ext_fl : Floats := flOf []
def slices_rotateLeft_api_Ext_kp : Nat → Option (List Bool) := kpOf []
def slices_rotateLeft_api_Ext_c (p : List Bool) (n : Nat) : List AV → AH → Kf → Prop := sCode Try.prog slices_rotateLeft_api_Ext_fl pql none0 none0 slices_rotateLeft_api_Ext_kp (sub p (bodyOf Try.f62)) n
def slices_rotateLeft_api_Ext (a0 a1 : AV) (H : AH) (K : AV → AH → Prop) : Prop :=
bO (aslS 9 a0 none (some a1) none) fun v0 =>
bC (BCall Try.prog 63 [v0] H) fun v1 H2 =>
bO (aslS 9 a0 (some a1) none none) fun v3 =>
bC (BCall Try.prog 63 [v3] H2) fun v4 H5 =>
bC (BCall Try.prog 63 [a0] H5) fun v6 H7 =>
K (.tup []) H7
theorem slices_rotateLeft_api_Ext_eq (a0 a1 : AV) (H : AH) (K : AV → AH → Prop) : sFun Try.prog slices_rotateLeft_api_Ext_fl pql none0 none0 slices_rotateLeft_api_Ext_kp Try.f62 [a0, a1] H K = slices_rotateLeft_api_Ext a0 a1 H K := by kernel_rfl
theorem slices_rotateLeft_api_Ext_ok {a0 a1 : AV} {H : AH} {K : AV → AH → Prop} (h : slices_rotateLeft_api_Ext a0 a1 H K) : ∃ r H', K r H' ∧ BCall Try.prog 62 [a0, a1] H r H' :=
  sFun_ok mixP Try.func62 (by kernel_rfl) (Eq.mpr (slices_rotateLeft_api_Ext_eq a0 a1 H K) h)
/-! slices.Reverse[[]salvor/api.Ext,salvor/api.Ext] -/
def slices_Reverse_Lapi_Ext_api_Ext_fl : Floats := flOf []
def slices_Reverse_Lapi_Ext_api_Ext_kp : Nat → Option (List Bool) := kpOf [(1, mk 28 0 [0, 2, 3])]
def slices_Reverse_Lapi_Ext_api_Ext_c (p : List Bool) (n : Nat) : List AV → AH → Kf → Prop := sCode Try.prog slices_Reverse_Lapi_Ext_api_Ext_fl pql none0 none0 slices_Reverse_Lapi_Ext_api_Ext_kp (sub p (bodyOf Try.f63)) n
def slices_Reverse_Lapi_Ext_api_Ext_L1 (x0 x2 x3 : AV) (H : AH) (K : AV → AH → Prop) : Prop := lp (mk 28 0 [0, 2, 3]) (slices_Reverse_Lapi_Ext_api_Ext_c [true, false, false] 2) [x0, x2, x3] H (kBlk 0 (kRet Try.prog Try.f63.results.toList K))
def slices_Reverse_Lapi_Ext_api_Ext_L1_b (R1 : List AV → AH → Prop) (x0 x2 x3 : AV) (H : AH) (K : AV → AH → Prop) : Prop :=
bO (abI .lss x2 x3) fun v0 =>
bB v0 fun t1 => bI t1 (
bO (aixS 9 x0 x3) fun v2 =>
bO (ald true 9 H v2) fun v3 =>
bO (aixS 9 x0 x2) fun v4 =>
bO (ald true 9 H v4) fun v5 =>
bO (aixS 9 x0 x2) fun v6 =>
bS (ast 9 H v6 v3) fun H7 =>
bO (aixS 9 x0 x3) fun v8 =>
bS (ast 9 H7 v8 v5) fun H9 =>
bO (abI .add x2 (.lit (.int .i64 1))) fun v10 =>
bO (abI .sub x3 (.lit (.int .i64 1))) fun v11 =>
R1 [x0, v10, v11] H9)
 (K (.tup []) H)
theorem slices_Reverse_Lapi_Ext_api_Ext_L1_eq (R1 : List AV → AH → Prop) (x0 x2 x3 : AV) (H : AH) (K : AV → AH → Prop) : slices_Reverse_Lapi_Ext_api_Ext_c [true, false, false] 2 (expand (mk 28 0 [0, 2, 3]) [x0, x2, x3]) H (kLp (mk 28 0 [0, 2, 3]) R1 (kBlk 0 (kRet Try.prog Try.f63.results.toList K))) = slices_Reverse_Lapi_Ext_api_Ext_L1_b R1 x0 x2 x3 H K := by kernel_rfl
theorem slices_Reverse_Lapi_Ext_api_Ext_L1_rule {K : AV → AH → Prop} (I : Nat → AV → AV → AV → AH → Prop) (round : ∀ (n : Nat) (x0 x2 x3 : AV) (H : AH) (R : List AV → AH → Prop), (∀ (m : Nat) (y0 y2 y3 : AV) (H' : AH), m < n → I m y0 y2 y3 H' → R [y0, y2, y3] H') → I n x0 x2 x3 H → slices_Reverse_Lapi_Ext_api_Ext_L1_b R x0 x2 x3 H K) (n : Nat) {x0 x2 x3 : AV} {H : AH} (h : I n x0 x2 x3 H) : slices_Reverse_Lapi_Ext_api_Ext_L1 x0 x2 x3 H K := by
  refine lp_upto (sCode_one _ _) (LI3 I) ?_ n h
  intro n X H h
  obtain ⟨x0, x2, x3, rfl, h⟩ := h.elim
  exact Eq.mpr (slices_Reverse_Lapi_Ext_api_Ext_L1_eq _ x0 x2 x3 H K) (round n x0 x2 x3 H (fun X H' => ∃ m, m < n ∧ LI3 I m X H') (fun m y0 y2 y3 H' hm hi => ⟨m, hm, hi⟩) h)
def slices_Reverse_Lapi_Ext_api_Ext (a0 : AV) (H : AH) (K : AV → AH → Prop) : Prop :=
bO (alnS a0) fun v0 =>
bO (abI .sub v0 (.lit (.int .i64 1))) fun v1 =>
slices_Reverse_Lapi_Ext_api_Ext_L1 a0 (.lit (.int .i64 0)) v1 H K
theorem slices_Reverse_Lapi_Ext_api_Ext_eq (a0 : AV) (H : AH) (K : AV → AH → Prop) : sFun Try.prog slices_Reverse_Lapi_Ext_api_Ext_fl pql none0 none0 slices_Reverse_Lapi_Ext_api_Ext_kp Try.f63 [a0] H K = slices_Reverse_Lapi_Ext_api_Ext a0 H K := by kernel_rfl
theorem slices_Reverse_Lapi_Ext_api_Ext_ok {a0 : AV} {H : AH} {K : AV → AH → Prop} (h : slices_Reverse_Lapi_Ext_api_Ext a0 H K) : ∃ r H', K r H' ∧ BCall Try.prog 63 [a0] H r H' :=
  sFun_ok mixP Try.func63 (by kernel_rfl) (Eq.mpr (slices_Reverse_Lapi_Ext_api_Ext_eq a0 H K) h)
end Go.Proofs.Ytflodknflaallaa.Av
