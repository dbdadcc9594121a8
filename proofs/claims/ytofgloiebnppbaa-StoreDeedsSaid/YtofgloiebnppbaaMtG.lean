/- Texts of this proof, one behind the other, packed into one file by a program of this session. No condition. -/
import Derived.Test.YtofgloiebnppbaaMtF
/-! YtofgloiebnppbaaPe -/
section
/- Formulas of functions of the program: printed by a program of this session (wip/tools/Pr.lean.txt), each checked by the kernel. -/
set_option linter.unusedVariables false
set_option maxRecDepth 100000
namespace Go.Proofs.Ytofgloiebnppbaa.Av
open Go
def pqe : FuncId → Bool := inL [40,39,18,49,42,43,48,41,33,47,80,81,79,34,46,50,35,52,38,51,75,53,76,16,3,5]
/-! salvor/store.New -/
def store_New_fl : Floats := flOf []
def store_New_kp : Nat → Option (List Bool) := kpOf []
def store_New (a0 : AV) (H : AH) (K : AV → AH → Prop) : Prop :=
bO (amm imx [a0, (.lit (.int .i64 0))]) fun v0 =>
bO (amm imn [v0, (.lit (.int .i64 4096))]) fun v1 =>
bO (abl [(.lit (.int .i64 0)), (.lit (.slice none 0 0)), (.lit (.slice none 0 0)), (.lit (.slice none 0 0)), (.lit (.slice none 0 0)), (.lit (.slice none 0 0)), (.lit (.int .i64 0)), (.lit (.int .i64 0)), (.lit (.bool false))] [(0, 1, v1), (7, 1, (.lit (.int .i64 (-1))))]) fun v2 =>
bH (anew H v2) fun v3 H4 =>
K v3 H4
theorem store_New_eq (a0 : AV) (H : AH) (K : AV → AH → Prop) : sFun Try.prog store_New_fl pqe none0 none0 store_New_kp Try.f9 [a0] H K = store_New a0 H K := by kernel_rfl
theorem store_New_ok {a0 : AV} {H : AH} {K : AV → AH → Prop} (h : store_New a0 H K) : ∃ r H', K r H' ∧ BCall Try.prog 9 [a0] H r H' :=
 sFun_ok mixP Try.func9 (by kernel_rfl) (Eq.mpr (store_New_eq a0 H K) h)
/-! (*salvor/store.Store).Now -/
/-! (*salvor/store.Store).Free -/
def store_Store_Free_fl : Floats := flOf []
def store_Store_Free_kp : Nat → Option (List Bool) := kpOf []
def zioZ (a0 : AV) (H : AH) (K : AV → AH → Prop) : Prop :=
bO (zdZ a0) fun v0 =>
bO (ashift 0 v0) fun v1 =>
bO (ald false 1 H v1) fun v2 =>
bO (zdZ a0) fun v3 =>
bO (ashift 1 v3) fun v4 =>
bO (ald true 2 H v4) fun v5 =>
bP (BPure Try.prog 42 [v5]) fun v6 =>
bO (abI .sub v2 v6) fun v7 =>
bO (amm imx [(.lit (.int .i64 0)), v7]) fun v8 =>
K v8 H
theorem store_Store_Free_eq (a0 : AV) (H : AH) (K : AV → AH → Prop) : sFun Try.prog store_Store_Free_fl pqe none0 none0 store_Store_Free_kp Try.f15 [a0] H K = zioZ a0 H K := by kernel_rfl
theorem store_Store_Free_ok {a0 : AV} {H : AH} {K : AV → AH → Prop} (h : zioZ a0 H K) : ∃ r H', K r H' ∧ BCall Try.prog 15 [a0] H r H' :=
 sFun_ok mixP Try.func15 (by kernel_rfl) (Eq.mpr (store_Store_Free_eq a0 H K) h)
/-! (*salvor/store.Store).Off -/
def store_Store_Off_fl : Floats := flOf []
def store_Store_Off_kp : Nat → Option (List Bool) := kpOf []
def zjzZ (a0 : AV) (H : AH) (K : AV → AH → Prop) : Prop :=
bO (zdZ a0) fun v0 =>
bO (ashift 8 v0) fun v1 =>
bO (ald false 1 H v1) fun v2 =>
K v2 H
theorem store_Store_Off_eq (a0 : AV) (H : AH) (K : AV → AH → Prop) : sFun Try.prog store_Store_Off_fl pqe none0 none0 store_Store_Off_kp Try.f29 [a0] H K = zjzZ a0 H K := by kernel_rfl
theorem store_Store_Off_ok {a0 : AV} {H : AH} {K : AV → AH → Prop} (h : zjzZ a0 H K) : ∃ r H', K r H' ∧ BCall Try.prog 29 [a0] H r H' :=
 sFun_ok mixP Try.func29 (by kernel_rfl) (Eq.mpr (store_Store_Off_eq a0 H K) h)
/-! (*salvor/store.Store).Arm -/
def store_Store_Arm_fl : Floats := flOf []
def store_Store_Arm_kp : Nat → Option (List Bool) := kpOf []
def zjmZ (a0 a1 : AV) (H : AH) (K : AV → AH → Prop) : Prop :=
bO (amm imx [a1, (.lit (.int .i64 (-1)))]) fun v0 =>
bO (zdZ a0) fun v1 =>
bO (ashift 7 v1) fun v2 =>
bS (ast 1 H v2 v0) fun H3 =>
K (.tup []) H3
theorem store_Store_Arm_eq (a0 a1 : AV) (H : AH) (K : AV → AH → Prop) : sFun Try.prog store_Store_Arm_fl pqe none0 none0 store_Store_Arm_kp Try.f26 [a0, a1] H K = zjmZ a0 a1 H K := by kernel_rfl
theorem store_Store_Arm_ok {a0 a1 : AV} {H : AH} {K : AV → AH → Prop} (h : zjmZ a0 a1 H K) : ∃ r H', K r H' ∧ BCall Try.prog 26 [a0, a1] H r H' :=
 sFun_ok mixP Try.func26 (by kernel_rfl) (Eq.mpr (store_Store_Arm_eq a0 a1 H K) h)
/-! (*salvor/store.Store).Restart -/
/-! (*salvor/store.Store).deed -/
def zjeZ : Floats := flOf []
def ziwZ : Nat → Option (List Bool) := kpOf [(1, mk 31 0 [])]
def store_Store_deed_c (p : List Bool) (n : Nat) : List AV → AH → Kf → Prop := sCode Try.prog zjeZ pqe none0 none0 ziwZ (sub p (bodyOf Try.f37)) n
def zgnZ (H : AH) (K : AV → AH → Prop) : Prop := jn (mk 31 0 []) (store_Store_deed_c [true, true] 6) [] H (kRet Try.prog Try.f37.results.toList K)
def zeqZ (H : AH) (K : AV → AH → Prop) : Prop :=
K (.lit (.bool true)) H
theorem zhdZ (H : AH) (K : AV → AH → Prop) : zgnZ H K = zeqZ H K := (jn_eq _ _ _ _ _).trans (by kernel_rfl)
def zitZ (a0 : AV) (H : AH) (K : AV → AH → Prop) : Prop :=
bO (zdZ a0) fun v0 =>
bO (ashift 8 v0) fun v1 =>
bO (ald false 1 H v1) fun v2 =>
bG v2 false fun w3 =>
gO w3 (some a0) fun v4 =>
bG v2 false fun w5 =>
gO w5 (zdZ v4) fun v6 =>
bG v2 false fun w7 =>
gO w7 (ashift 7 v6) fun v8 =>
bG v2 false fun w9 =>
gO w9 (ald false 1 H v8) fun v10 =>
bG v2 false fun w11 =>
gO w11 (abI .eql v10 (.lit (.int .i64 0))) fun v12 =>
bO (apick v2 (.lit (.bool true)) v12) fun v13 =>
bB v13 fun t14 => bI t14 (
bO (zdZ a0) fun v15 =>
bO (ashift 8 v15) fun v16 =>
bS (ast 1 H v16 (.lit (.bool true))) fun H17 =>
K (.lit (.bool false)) H17)
 (bO (zdZ a0) fun v18 =>
bO (ashift 7 v18) fun v19 =>
bO (ald false 1 H v19) fun v20 =>
bO (abI .gtr v20 (.lit (.int .i64 0))) fun v21 =>
bB v21 fun t22 => bI t22 (
bO (zdZ a0) fun v23 =>
bO (ashift 7 v23) fun v24 =>
bO (ald false 1 H v24) fun v25 =>
bO (abI .sub v25 (.lit (.int .i64 1))) fun v26 =>
bO (zdZ a0) fun v27 =>
bO (ashift 7 v27) fun v28 =>
bS (ast 1 H v28 v26) fun H29 =>
zgnZ H29 K)
 (zgnZ H K))
theorem store_Store_deed_eq (a0 : AV) (H : AH) (K : AV → AH → Prop) : sFun Try.prog zjeZ pqe none0 none0 ziwZ Try.f37 [a0] H K = zitZ a0 H K := by kernel_rfl
theorem store_Store_deed_ok {a0 : AV} {H : AH} {K : AV → AH → Prop} (h : zitZ a0 H K) : ∃ r H', K r H' ∧ BCall Try.prog 37 [a0] H r H' :=
 sFun_ok mixP Try.func37 (by kernel_rfl) (Eq.mpr (store_Store_deed_eq a0 H K) h)
/-! (*salvor/store.Store).do -/
def store_Store_do_fl : Floats := flOf []
def store_Store_do_kp : Nat → Option (List Bool) := kpOf []
def zkrZ (a0 a1 : AV) (H : AH) (K : AV → AH → Prop) : Prop :=
bH (anew H a1) fun v0 H1 =>
bC (BCall Try.prog 37 [a0] H1) fun v2 H3 =>
bO (aun .not v2) fun v4 =>
bB v4 fun t5 => bI t5 (
K (.lit (.int .i64 8)) H3)
 (bO (zdZ a0) fun v6 =>
bO (ashift 1 v6) fun v7 =>
bO (ald true 2 H3 v7) fun v8 =>
bO (ald true 8 H3 v0) fun v9 =>
bP (BPure Try.prog 39 [v8, v9]) fun v10 =>
bO (zdZ a0) fun v11 =>
bO (ashift 1 v11) fun v12 =>
bS (ast 2 H3 v12 v10) fun H13 =>
bO (zdZ a0) fun v14 =>
bO (ashift 5 v14) fun v15 =>
bO (ald false 1 H13 v15) fun v16 =>
bO (ald true 8 H13 v0) fun v17 =>
bO (absf 8 1 (zrow [(.lit (.int .i64 0)), (.lit (.int .i64 0)), (.lit (.int .i64 0)), (.lit (.int .i64 0)), (.lit (.bool false)), (.lit (.string ⟨#[]⟩)), (.lit (.string ⟨#[]⟩)), (.lit (.slice none 0 0))] 1) [(0, 8, v17)]) fun v18 =>
bH (aap 8 96 H13 v16 v18) fun v19 H20 =>
bO (zdZ a0) fun v21 =>
bO (ashift 5 v21) fun v22 =>
bS (ast 1 H20 v22 v19) fun H23 =>
K (.lit (.int .i64 0)) H23)
theorem store_Store_do_eq (a0 a1 : AV) (H : AH) (K : AV → AH → Prop) : sFun Try.prog store_Store_do_fl pqe none0 none0 store_Store_do_kp Try.f31 [a0, a1] H K = zkrZ a0 a1 H K := by kernel_rfl
theorem store_Store_do_ok {a0 a1 : AV} {H : AH} {K : AV → AH → Prop} (h : zkrZ a0 a1 H K) : ∃ r H', K r H' ∧ BCall Try.prog 31 [a0, a1] H r H' :=
 sFun_ok mixP Try.func31 (by kernel_rfl) (Eq.mpr (store_Store_do_eq a0 a1 H K) h)
/-! (*salvor/store.Store).content -/
def zlpZ : Floats := flOf []
def zlnZ : Nat → Option (List Bool) := kpOf []
def zdfZ (a0 a1 : AV) (H : AH) (K : AV → AH → Prop) : Prop :=
bH (anew H (.agg [(.lit (.int .i64 0)), (.lit (.slice none 0 0))])) fun v0 H1 =>
bO (zdZ a0) fun v2 =>
bO (ashift 8 v2) fun v3 =>
bO (ald false 1 H1 v3) fun v4 =>
bB v4 fun t5 => bI t5 (
bO (abl [(.lit (.int .i64 0)), (.lit (.slice none 0 0))] []) fun v6 =>
bS (ast 2 H1 v0 v6) fun H7 =>
bO (ald true 2 H7 v0) fun v8 =>
K (.tup [v8, (.lit (.int .i64 8))]) H7)
 (bO (zdZ a0) fun v9 =>
bO (ashift 1 v9) fun v10 =>
bO (ald true 2 H1 v10) fun v11 =>
bP (PCall Try.prog 49 [v11, a1] H1) fun v12 =>
bO (zkZ v12 0) fun v13 =>
bO (zkZ v12 1) fun v14 =>
bH (anew H1 (.agg [(.lit (.int .i64 0)), (.lit (.slice none 0 0))])) fun v15 H16 =>
bS (ast 2 H16 v15 v13) fun H17 =>
bO (aun .not v14) fun v18 =>
bB v18 fun t19 => bI t19 (
bO (abl [(.lit (.int .i64 0)), (.lit (.slice none 0 0))] []) fun v20 =>
bS (ast 2 H17 v0 v20) fun H21 =>
bO (ald true 2 H21 v0) fun v22 =>
K (.tup [v22, (.lit (.int .i64 3))]) H21)
 (bO (ald true 2 H17 v15) fun v23 =>
bS (ast 2 H17 v0 v23) fun H24 =>
bO (ald true 2 H24 v0) fun v25 =>
K (.tup [v25, (.lit (.int .i64 0))]) H24))
theorem zlqZ (a0 a1 : AV) (H : AH) (K : AV → AH → Prop) : sFun Try.prog zlpZ pqe none0 none0 zlnZ Try.f32 [a0, a1] H K = zdfZ a0 a1 H K := by kernel_rfl
theorem zedZ {a0 a1 : AV} {H : AH} {K : AV → AH → Prop} (h : zdfZ a0 a1 H K) : ∃ r H', K r H' ∧ BCall Try.prog 32 [a0, a1] H r H' :=
 sFun_ok mixP Try.func32 (by kernel_rfl) (Eq.mpr (zlqZ a0 a1 H K) h)
/-! (*salvor/store.Store).find -/
def store_Store_find_fl : Floats := flOf []
def store_Store_find_kp : Nat → Option (List Bool) := kpOf []
def zihZ (a0 a1 : AV) (H : AH) (K : AV → AH → Prop) : Prop :=
bO (zdZ a0) fun v0 =>
bO (ashift 8 v0) fun v1 =>
bO (ald false 1 H v1) fun v2 =>
bB v2 fun t3 => bI t3 (
K (.tup [(.lit (.int .i64 0)), (.lit (.int .i64 8))]) H)
 (bP (PCall Try.prog 48 [a1] H) fun v4 =>
bO (aun .not v4) fun v5 =>
bB v5 fun t6 => bI t6 (
K (.tup [(.lit (.int .i64 0)), (.lit (.int .i64 5))]) H)
 (bO (zdZ a0) fun v7 =>
bO (ashift 1 v7) fun v8 =>
bO (ald true 2 H v8) fun v9 =>
bP (PCall Try.prog 18 [v9, a1] H) fun v10 =>
bO (zkZ v10 0) fun v11 =>
bO (zkZ v10 1) fun v12 =>
bO (aun .not v12) fun v13 =>
bB v13 fun t14 => bI t14 (
K (.tup [(.lit (.int .i64 0)), (.lit (.int .i64 3))]) H)
 (K (.tup [v11, (.lit (.int .i64 0))]) H)))
theorem store_Store_find_eq (a0 a1 : AV) (H : AH) (K : AV → AH → Prop) : sFun Try.prog store_Store_find_fl pqe none0 none0 store_Store_find_kp Try.f30 [a0, a1] H K = zihZ a0 a1 H K := by kernel_rfl
theorem store_Store_find_ok {a0 a1 : AV} {H : AH} {K : AV → AH → Prop} (h : zihZ a0 a1 H K) : ∃ r H', K r H' ∧ BCall Try.prog 30 [a0, a1] H r H' :=
 sFun_ok mixP Try.func30 (by kernel_rfl) (Eq.mpr (store_Store_find_eq a0 a1 H K) h)
/-! (*salvor/store.Store).Open -/
def store_Store_Open_fl : Floats := flOf []
def store_Store_Open_kp : Nat → Option (List Bool) := kpOf []
def zilZ (a0 a1 a2 : AV) (H : AH) (K : AV → AH → Prop) : Prop :=
bC (BCall Try.prog 30 [a0, a1] H) fun v0 H1 =>
bO (zkZ v0 0) fun v2 =>
bO (zkZ v0 1) fun v3 =>
bO (abI .neq v3 (.lit (.int .i64 3))) fun v4 =>
bG v4 false fun w5 =>
gO w5 (some a2) fun v6 =>
bG v4 false fun w7 =>
gO w7 (aun .not v6) fun v8 =>
bO (apick v4 (.lit (.bool true)) v8) fun v9 =>
bB v9 fun t10 => bI t10 (
K (.tup [v2, v3]) H1)
 (bO (zdZ a0) fun v11 =>
bO (ashift 1 v11) fun v12 =>
bO (ashift 0 v12) fun v13 =>
bO (ald false 1 H1 v13) fun v14 =>
bO (alnS v14) fun v15 =>
bO (abI .geq v15 (.lit (.int .i64 16))) fun v16 =>
bB v16 fun t17 => bI t17 (
K (.tup [(.lit (.int .i64 0)), (.lit (.int .i64 4))]) H1)
 (bO (zdZ a0) fun v18 =>
bO (ashift 6 v18) fun v19 =>
bO (ald false 1 H1 v19) fun v20 =>
bO (abI .add v20 (.lit (.int .i64 1))) fun v21 =>
bO (abl [(.lit (.int .i64 0)), (.lit (.int .i64 0)), (.lit (.int .i64 0)), (.lit (.int .i64 0)), (.lit (.bool false)), (.lit (.string ⟨#[]⟩)), (.lit (.string ⟨#[]⟩)), (.lit (.slice none 0 0))] [(0, 1, (.lit (.int .i64 1))), (5, 1, a1), (1, 1, v21)]) fun v22 =>
bC (BCall Try.prog 31 [a0, v22] H1) fun v23 H24 =>
bO (abI .neq v23 (.lit (.int .i64 0))) fun v25 =>
bB v25 fun t26 => bI t26 (
K (.tup [(.lit (.int .i64 0)), v23]) H24)
 (bO (zdZ a0) fun v27 =>
bO (ashift 6 v27) fun v28 =>
bO (ald false 1 H24 v28) fun v29 =>
bO (abI .add v29 (.lit (.int .i64 1))) fun v30 =>
bO (zdZ a0) fun v31 =>
bO (ashift 6 v31) fun v32 =>
bS (ast 1 H24 v32 v30) fun H33 =>
bO (zdZ a0) fun v34 =>
bO (ashift 6 v34) fun v35 =>
bO (ald false 1 H33 v35) fun v36 =>
K (.tup [v36, (.lit (.int .i64 0))]) H33)))
theorem store_Store_Open_eq (a0 a1 a2 : AV) (H : AH) (K : AV → AH → Prop) : sFun Try.prog store_Store_Open_fl pqe none0 none0 store_Store_Open_kp Try.f10 [a0, a1, a2] H K = zilZ a0 a1 a2 H K := by kernel_rfl
theorem store_Store_Open_ok {a0 a1 a2 : AV} {H : AH} {K : AV → AH → Prop} (h : zilZ a0 a1 a2 H K) : ∃ r H', K r H' ∧ BCall Try.prog 10 [a0, a1, a2] H r H' :=
 sFun_ok mixP Try.func10 (by kernel_rfl) (Eq.mpr (store_Store_Open_eq a0 a1 a2 H K) h)
/-! (*salvor/store.Store).Read -/
/-! (*salvor/store.Store).Write -/
def zhyZ : Floats := flOf [(12, [(3, some 11)])]
def zhxZ : Nat → Option (List Bool) := kpOf [(9, mk 79 0 [0, 1, 2, 3, 10, 36, 37, 38])]
def zdxZ (p : List Bool) (n : Nat) : List AV → AH → Kf → Prop := sCode Try.prog zhyZ pqe none0 none0 zhxZ (sub p (bodyOf Try.f11)) n
def zidZ (x0 x1 x2 x3 x10 x36 x37 x38 : AV) (H : AH) (K : AV → AH → Prop) : Prop := lp (mk 79 0 [0, 1, 2, 3, 10, 36, 37, 38]) (zdxZ [true, true, true, false, true, false, false] 10) [x0, x1, x2, x3, x10, x36, x37, x38] H (kBlk 1 (kSeq (zdxZ [true, true, true, true] 21) (kRet Try.prog Try.f11.results.toList K)))
def zebZ (R9 : List AV → AH → Prop) (x0 x1 x2 x3 x10 x36 x37 x38 : AV) (H : AH) (K : AV → AH → Prop) : Prop :=
bO (abI .lss x38 x37) fun v0 =>
bB v0 fun t1 => bI t1 (
bO (aixS 2 x36 x38) fun v2 =>
bO (ald true 2 H v2) fun v3 =>
bH (anew H (.agg [(.lit (.int .i64 0)), (.lit (.int .i64 0))])) fun v4 H5 =>
bS (ast 2 H5 v4 v3) fun H6 =>
bO (ashift 0 v4) fun v7 =>
bO (ald false 1 H6 v7) fun v8 =>
bO (abI .sub v8 x2) fun v9 =>
bO (ald true 2 H6 x10) fun v10 =>
bO (ashift 0 v4) fun v11 =>
bO (ald false 1 H6 v11) fun v12 =>
bO (abI .quo v12 (.lit (.int .i64 8))) fun v13 =>
bP (PCall Try.prog 35 [v10, v13] H6) fun v14 =>
bO (aun .not v14) fun v15 =>
bG v15 true fun w16 =>
gO w16 (some x0) fun v17 =>
bG v15 true fun w18 =>
gC w18 (BCall Try.prog 15 [v17] H6) H6 fun v19 H20 =>
bG v15 true fun w21 =>
gO w21 (abI .eql v19 (.lit (.int .i64 0))) fun v22 =>
bO (apick v15 v22 (.lit (.bool false))) fun v23 =>
bB v23 fun t24 => bI t24 (
K (.tup [v9, (.lit (.int .i64 4))]) H20)
 (bO (ashift 0 v4) fun v25 =>
bO (ald false 1 H20 v25) fun v26 =>
bO (ashift 1 v4) fun v27 =>
bO (ald false 1 H20 v27) fun v28 =>
bO (abI .add v9 v28) fun v29 =>
bO (aslS 1 x3 (some v9) (some v29) none) fun v30 =>
bC (BCall Try.prog 36 [v30] H20) fun v31 H32 =>
bO (abl [(.lit (.int .i64 0)), (.lit (.int .i64 0)), (.lit (.int .i64 0)), (.lit (.int .i64 0)), (.lit (.bool false)), (.lit (.string ⟨#[]⟩)), (.lit (.string ⟨#[]⟩)), (.lit (.slice none 0 0))] [(0, 1, (.lit (.int .i64 2))), (1, 1, x1), (2, 1, v26), (7, 1, v31)]) fun v33 =>
bC (BCall Try.prog 31 [x0, v33] H32) fun v34 H35 =>
(ald false 1 H32 v25 = some v26) ∧
bO (abI .neq v34 (.lit (.int .i64 0))) fun v36 =>
bB v36 fun t37 => bI t37 (
K (.tup [v9, v34]) H35)
 (bO (abI .add x38 (.lit (.int .i64 1))) fun v38 =>
R9 [x0, x1, x2, x3, x10, x36, x37, v38] H35)))
 (bO (alnS x3) fun v39 =>
K (.tup [v39, (.lit (.int .i64 0))]) H)
theorem zkxZ (R9 : List AV → AH → Prop) (x0 x1 x2 x3 x10 x36 x37 x38 : AV) (H : AH) (K : AV → AH → Prop) : zdxZ [true, true, true, false, true, false, false] 10 (expand (mk 79 0 [0, 1, 2, 3, 10, 36, 37, 38]) [x0, x1, x2, x3, x10, x36, x37, x38]) H (kLp (mk 79 0 [0, 1, 2, 3, 10, 36, 37, 38]) R9 (kBlk 1 (kSeq (zdxZ [true, true, true, true] 21) (kRet Try.prog Try.f11.results.toList K)))) = zebZ R9 x0 x1 x2 x3 x10 x36 x37 x38 H K := by kernel_rfl
theorem zjoZ {K : AV → AH → Prop} (I : Nat → AV → AV → AV → AV → AV → AV → AV → AV → AH → Prop) (round : ∀ (n : Nat) (x0 x1 x2 x3 x10 x36 x37 x38 : AV) (H : AH) (R : List AV → AH → Prop), (∀ (m : Nat) (y0 y1 y2 y3 y10 y36 y37 y38 : AV) (H' : AH), m < n → I m y0 y1 y2 y3 y10 y36 y37 y38 H' → R [y0, y1, y2, y3, y10, y36, y37, y38] H') → I n x0 x1 x2 x3 x10 x36 x37 x38 H → zebZ R x0 x1 x2 x3 x10 x36 x37 x38 H K) (n : Nat) {x0 x1 x2 x3 x10 x36 x37 x38 : AV} {H : AH} (h : I n x0 x1 x2 x3 x10 x36 x37 x38 H) : zidZ x0 x1 x2 x3 x10 x36 x37 x38 H K := by
 refine lp_upto (zbnZ _ _) (LI8 I) ?_ n h
 intro n X H h
 obtain ⟨x0, x1, x2, x3, x10, x36, x37, x38, rfl, h⟩ := h.elim
 exact Eq.mpr (zkxZ _ x0 x1 x2 x3 x10 x36 x37 x38 H K) (round n x0 x1 x2 x3 x10 x36 x37 x38 H (fun X H' => ∃ m, m < n ∧ LI8 I m X H') (fun m y0 y1 y2 y3 y10 y36 y37 y38 H' hm hi => ⟨m, hm, hi⟩) h)
def zhhZ (a0 a1 a2 a3 : AV) (H : AH) (K : AV → AH → Prop) : Prop :=
bC (BCall Try.prog 32 [a0, a1] H) fun v0 H1 =>
bO (zkZ v0 0) fun v2 =>
bO (zkZ v0 1) fun v3 =>
bH (anew H1 (.agg [(.lit (.int .i64 0)), (.lit (.slice none 0 0))])) fun v4 H5 =>
bS (ast 2 H5 v4 v2) fun H6 =>
bO (abI .neq v3 (.lit (.int .i64 0))) fun v7 =>
bB v7 fun t8 => bI t8 (
K (.tup [(.lit (.int .i64 0)), v3]) H6)
 (bO (alnS a3) fun v9 =>
bP (PCall Try.prog 33 [a2, v9] H6) fun v10 =>
bO (aun .not v10) fun v11 =>
bB v11 fun t12 => bI t12 (
K (.tup [(.lit (.int .i64 0)), (.lit (.int .i64 5))]) H6)
 (bO (alnS a3) fun v13 =>
bO (abl [(.lit (.int .i64 0)), (.lit (.int .i64 0))] [(0, 1, a2), (1, 1, v13)]) fun v14 =>
bP (PCall Try.prog 34 [v14, (.lit (.int .i64 8))] H6) fun v15 =>
bO (alnS v15) fun v16 =>
zidZ a0 a1 a2 a3 v4 v15 v16 (.lit (.int .i64 0)) H6 K))
theorem store_Store_Write_eq (a0 a1 a2 a3 : AV) (H : AH) (K : AV → AH → Prop) : sFun Try.prog zhyZ pqe none0 none0 zhxZ Try.f11 [a0, a1, a2, a3] H K = zhhZ a0 a1 a2 a3 H K := by kernel_rfl
theorem store_Store_Write_ok {a0 a1 a2 a3 : AV} {H : AH} {K : AV → AH → Prop} (h : zhhZ a0 a1 a2 a3 H K) : ∃ r H', K r H' ∧ BCall Try.prog 11 [a0, a1, a2, a3] H r H' :=
 sFun_ok mixP Try.func11 (by kernel_rfl) (Eq.mpr (store_Store_Write_eq a0 a1 a2 a3 H K) h)
/-! (*salvor/store.Store).Truncate -/
def zlfZ : Floats := flOf []
def zlbZ : Nat → Option (List Bool) := kpOf []
def zfqZ (a0 a1 a2 : AV) (H : AH) (K : AV → AH → Prop) : Prop :=
bC (BCall Try.prog 32 [a0, a1] H) fun v0 H1 =>
bO (zkZ v0 0) fun v2 =>
bO (zkZ v0 1) fun v3 =>
bH (anew H1 (.agg [(.lit (.int .i64 0)), (.lit (.slice none 0 0))])) fun v4 H5 =>
bS (ast 2 H5 v4 v2) fun H6 =>
bO (abI .neq v3 (.lit (.int .i64 0))) fun v7 =>
bB v7 fun t8 => bI t8 (
K v3 H6)
 (bO (ald true 2 H6 v4) fun v9 =>
bP (PCall Try.prog 47 [v9, a2] H6) fun v10 =>
bO (zkZ v10 0) fun v11 =>
bO (zkZ v10 1) fun v12 =>
bH (anew H6 (.agg [(.lit (.int .i64 0)), (.lit (.slice none 0 0))])) fun v13 H14 =>
bS (ast 2 H14 v13 v11) fun H15 =>
bO (aun .not v12) fun v16 =>
bB v16 fun t17 => bI t17 (
K (.lit (.int .i64 5)) H15)
 (bO (abl [(.lit (.int .i64 0)), (.lit (.int .i64 0)), (.lit (.int .i64 0)), (.lit (.int .i64 0)), (.lit (.bool false)), (.lit (.string ⟨#[]⟩)), (.lit (.string ⟨#[]⟩)), (.lit (.slice none 0 0))] [(0, 1, (.lit (.int .i64 3))), (1, 1, a1), (3, 1, a2)]) fun v18 =>
bC (BCall Try.prog 31 [a0, v18] H15) fun v19 H20 =>
K v19 H20))
theorem zknZ (a0 a1 a2 : AV) (H : AH) (K : AV → AH → Prop) : sFun Try.prog zlfZ pqe none0 none0 zlbZ Try.f27 [a0, a1, a2] H K = zfqZ a0 a1 a2 H K := by kernel_rfl
theorem zlcZ {a0 a1 a2 : AV} {H : AH} {K : AV → AH → Prop} (h : zfqZ a0 a1 a2 H K) : ∃ r H', K r H' ∧ BCall Try.prog 27 [a0, a1, a2] H r H' :=
 sFun_ok mixP Try.func27 (by kernel_rfl) (Eq.mpr (zknZ a0 a1 a2 H K) h)
/-! (*salvor/store.Store).Rename -/
def zlzZ : Floats := flOf []
def zmfZ : Nat → Option (List Bool) := kpOf []
def zhbZ (a0 a1 a2 : AV) (H : AH) (K : AV → AH → Prop) : Prop :=
bO (zdZ a0) fun v0 =>
bO (ashift 8 v0) fun v1 =>
bO (ald false 1 H v1) fun v2 =>
bO (aun .not v2) fun v3 =>
bG v3 true fun w4 =>
gO w4 (some a2) fun v5 =>
bG v3 true fun w6 =>
gP w6 (PCall Try.prog 48 [v5] H) fun v7 =>
bG v3 true fun w8 =>
gO w8 (aun .not v7) fun v9 =>
bO (apick v3 v9 (.lit (.bool false))) fun v10 =>
bB v10 fun t11 => bI t11 (
K (.lit (.int .i64 5)) H)
 (bC (BCall Try.prog 30 [a0, a1] H) fun v12 H13 =>
bO (zkZ v12 0) fun v14 =>
bO (zkZ v12 1) fun v15 =>
bO (abI .neq v15 (.lit (.int .i64 0))) fun v16 =>
bG v16 false fun w17 =>
gO w17 (some a1) fun v18 =>
bG v16 false fun w19 =>
gO w19 (some a2) fun v20 =>
bG v16 false fun w21 =>
gO w21 (abT .eql v18 v20) fun v22 =>
bO (apick v16 (.lit (.bool true)) v22) fun v23 =>
bB v23 fun t24 => bI t24 (
K v15 H13)
 (bO (abl [(.lit (.int .i64 0)), (.lit (.int .i64 0)), (.lit (.int .i64 0)), (.lit (.int .i64 0)), (.lit (.bool false)), (.lit (.string ⟨#[]⟩)), (.lit (.string ⟨#[]⟩)), (.lit (.slice none 0 0))] [(0, 1, (.lit (.int .i64 6))), (5, 1, a1), (6, 1, a2)]) fun v25 =>
bC (BCall Try.prog 31 [a0, v25] H13) fun v26 H27 =>
K v26 H27))
theorem zmaZ (a0 a1 a2 : AV) (H : AH) (K : AV → AH → Prop) : sFun Try.prog zlzZ pqe none0 none0 zmfZ Try.f28 [a0, a1, a2] H K = zhbZ a0 a1 a2 H K := by kernel_rfl
theorem zmgZ {a0 a1 a2 : AV} {H : AH} {K : AV → AH → Prop} (h : zhbZ a0 a1 a2 H K) : ∃ r H', K r H' ∧ BCall Try.prog 28 [a0, a1, a2] H r H' :=
 sFun_ok mixP Try.func28 (by kernel_rfl) (Eq.mpr (zmaZ a0 a1 a2 H K) h)
/-! (*salvor/store.Store).Remove -/
/-! (*salvor/store.Store).Sync -/
def zjhZ : Floats := flOf []
def zjdZ : Nat → Option (List Bool) := kpOf [(10, mk 41 0 [0, 1, 5, 14, 15, 16]), (7, mk 41 0 [0, 1, 5, 14, 15, 16])]
def zcvZ (p : List Bool) (n : Nat) : List AV → AH → Kf → Prop := sCode Try.prog zjhZ pqe none0 none0 zjdZ (sub p (bodyOf Try.f12)) n
def zfpZ (R7 : List AV → AH → Prop) (x0 x1 x5 x14 x15 x16 : AV) (H : AH) (K : AV → AH → Prop) : Prop := jn (mk 41 0 [0, 1, 5, 14, 15, 16]) (zcvZ [true, true, true, false, true, false, false, true, true, true] 13) [x0, x1, x5, x14, x15, x16] H (kLp (mk 41 0 [0, 1, 5, 14, 15, 16]) R7 (kBlk 0 (kSeq (zcvZ [true, true, true, true] 13) (kRet Try.prog Try.f12.results.toList K))))
def zjbZ (x0 x1 x5 x14 x15 x16 : AV) (H : AH) (K : AV → AH → Prop) : Prop := lp (mk 41 0 [0, 1, 5, 14, 15, 16]) (zcvZ [true, true, true, false, true, false, false] 8) [x0, x1, x5, x14, x15, x16] H (kBlk 0 (kSeq (zcvZ [true, true, true, true] 13) (kRet Try.prog Try.f12.results.toList K)))
def zejZ (R7 : List AV → AH → Prop) (x0 x1 x5 x14 x15 x16 : AV) (H : AH) (K : AV → AH → Prop) : Prop :=
bO (abI .add x16 (.lit (.int .i64 1))) fun v0 =>
R7 [x0, x1, x5, x14, x15, v0] H
theorem zgwZ (R7 : List AV → AH → Prop) (x0 x1 x5 x14 x15 x16 : AV) (H : AH) (K : AV → AH → Prop) : zfpZ R7 x0 x1 x5 x14 x15 x16 H K = zejZ R7 x0 x1 x5 x14 x15 x16 H K := (jn_eq _ _ _ _ _).trans (by kernel_rfl)
def zenZ (R7 : List AV → AH → Prop) (x0 x1 x5 x14 x15 x16 : AV) (H : AH) (K : AV → AH → Prop) : Prop :=
bO (abI .lss x16 x15) fun v0 =>
bB v0 fun t1 => bI t1 (
bO (aixS 8 x14 x16) fun v2 =>
bO (ald true 8 H v2) fun v3 =>
bH (anew H (.agg [(.lit (.int .i64 0)), (.lit (.int .i64 0)), (.lit (.int .i64 0)), (.lit (.int .i64 0)), (.lit (.bool false)), (.lit (.string ⟨#[]⟩)), (.lit (.string ⟨#[]⟩)), (.lit (.slice none 0 0))])) fun v4 H5 =>
bS (ast 8 H5 v4 v3) fun H6 =>
bO (ald true 8 H6 v4) fun v7 =>
bP (PCall Try.prog 38 [v7, x1] H6) fun v8 =>
bB v8 fun t9 => bI t9 (
bO (zdZ x0) fun v10 =>
bO (ashift 3 v10) fun v11 =>
bO (ald true 2 H6 v11) fun v12 =>
bO (ald true 8 H6 v4) fun v13 =>
bP (BPure Try.prog 39 [v12, v13]) fun v14 =>
bO (zdZ x0) fun v15 =>
bO (ashift 3 v15) fun v16 =>
bS (ast 2 H6 v16 v14) fun H17 =>
zfpZ R7 x0 x1 x5 x14 x15 x16 H17 K)
 (bO (ald true 8 H6 v4) fun v18 =>
bH (absl H6 8 1 (zrow [(.lit (.int .i64 0)), (.lit (.int .i64 0)), (.lit (.int .i64 0)), (.lit (.int .i64 0)), (.lit (.bool false)), (.lit (.string ⟨#[]⟩)), (.lit (.string ⟨#[]⟩)), (.lit (.slice none 0 0))] 1) [(0, 8, v18)]) fun v19 H20 =>
bH (aap 8 96 H20 x5 v19) fun v21 H22 =>
zfpZ R7 x0 x1 v21 x14 x15 x16 H22 K))
 (bO (zdZ x0) fun v23 =>
bO (ashift 5 v23) fun v24 =>
bS (ast 1 H v24 x5) fun H25 =>
K (.lit (.int .i64 0)) H25)
theorem zlrZ (R7 : List AV → AH → Prop) (x0 x1 x5 x14 x15 x16 : AV) (H : AH) (K : AV → AH → Prop) : zcvZ [true, true, true, false, true, false, false] 8 (expand (mk 41 0 [0, 1, 5, 14, 15, 16]) [x0, x1, x5, x14, x15, x16]) H (kLp (mk 41 0 [0, 1, 5, 14, 15, 16]) R7 (kBlk 0 (kSeq (zcvZ [true, true, true, true] 13) (kRet Try.prog Try.f12.results.toList K)))) = zenZ R7 x0 x1 x5 x14 x15 x16 H K := by kernel_rfl
theorem zkjZ {K : AV → AH → Prop} (I : Nat → AV → AV → AV → AV → AV → AV → AH → Prop) (round : ∀ (n : Nat) (x0 x1 x5 x14 x15 x16 : AV) (H : AH) (R : List AV → AH → Prop), (∀ (m : Nat) (y0 y1 y5 y14 y15 y16 : AV) (H' : AH), m < n → I m y0 y1 y5 y14 y15 y16 H' → R [y0, y1, y5, y14, y15, y16] H') → I n x0 x1 x5 x14 x15 x16 H → zenZ R x0 x1 x5 x14 x15 x16 H K) (n : Nat) {x0 x1 x5 x14 x15 x16 : AV} {H : AH} (h : I n x0 x1 x5 x14 x15 x16 H) : zjbZ x0 x1 x5 x14 x15 x16 H K := by
 refine lp_upto (zbnZ _ _) (LI6 I) ?_ n h
 intro n X H h
 obtain ⟨x0, x1, x5, x14, x15, x16, rfl, h⟩ := h.elim
 exact Eq.mpr (zlrZ _ x0 x1 x5 x14 x15 x16 H K) (round n x0 x1 x5 x14 x15 x16 H (fun X H' => ∃ m, m < n ∧ LI6 I m X H') (fun m y0 y1 y5 y14 y15 y16 H' hm hi => ⟨m, hm, hi⟩) h)
def ziiZ (a0 a1 : AV) (H : AH) (K : AV → AH → Prop) : Prop :=
bC (BCall Try.prog 37 [a0] H) fun v0 H1 =>
bO (aun .not v0) fun v2 =>
bB v2 fun t3 => bI t3 (
K (.lit (.int .i64 8)) H1)
 (bO (zdZ a0) fun v4 =>
bO (ashift 5 v4) fun v5 =>
bO (ald false 1 H1 v5) fun v6 =>
bO (alnS v6) fun v7 =>
zjbZ a0 a1 (.lit (.slice none 0 0)) v6 v7 (.lit (.int .i64 0)) H1 K)
theorem store_Store_Sync_eq (a0 a1 : AV) (H : AH) (K : AV → AH → Prop) : sFun Try.prog zjhZ pqe none0 none0 zjdZ Try.f12 [a0, a1] H K = ziiZ a0 a1 H K := by kernel_rfl
theorem store_Store_Sync_ok {a0 a1 : AV} {H : AH} {K : AV → AH → Prop} (h : ziiZ a0 a1 H K) : ∃ r H', K r H' ∧ BCall Try.prog 12 [a0, a1] H r H' :=
 sFun_ok mixP Try.func12 (by kernel_rfl) (Eq.mpr (store_Store_Sync_eq a0 a1 H K) h)
/-! salvor/store.has -/
def store_has_fl : Floats := flOf []
def store_has_kp : Nat → Option (List Bool) := kpOf []
def store_has (a0 a1 : AV) (H : AH) (K : AV → AH → Prop) : Prop :=
bH (anew H a0) fun v0 H1 =>
bH (anew H1 a1) fun v2 H3 =>
bO (ashift 1 v0) fun v4 =>
bO (ald false 1 H3 v4) fun v5 =>
bP (PCall Try.prog 51 [v5, (.fn (.func 52) [] [v2])] H3) fun v6 =>
K v6 H3
theorem store_has_eq (a0 a1 : AV) (H : AH) (K : AV → AH → Prop) : sFun Try.prog store_has_fl pqe none0 none0 store_has_kp Try.f35 [a0, a1] H K = store_has a0 a1 H K := by kernel_rfl
theorem store_has_ok {a0 a1 : AV} {H : AH} {K : AV → AH → Prop} (h : store_has a0 a1 H K) : ∃ r H', K r H' ∧ BCall Try.prog 35 [a0, a1] H r H' :=
 sFun_ok mixP Try.func35 (by kernel_rfl) (Eq.mpr (store_has_eq a0 a1 H K) h)
/-! salvor/store.has$1 -/
def store_has_1_fl : Floats := flOf []
def store_has_1_kp : Nat → Option (List Bool) := kpOf []
def store_has_1 (a0 a1 : AV) (H : AH) (K : AV → AH → Prop) : Prop :=
bH (anew H a0) fun v0 H1 =>
bO (ashift 0 v0) fun v2 =>
bO (ald false 1 H1 v2) fun v3 =>
bO (ald false 1 H1 a1) fun v4 =>
bO (abI .eql v3 v4) fun v5 =>
K v5 H1
theorem store_has_1_eq (a0 a1 : AV) (H : AH) (K : AV → AH → Prop) : sFun Try.prog store_has_1_fl pqe none0 none0 store_has_1_kp Try.f52 [a0, a1] H K = store_has_1 a0 a1 H K := by kernel_rfl
theorem store_has_1_ok {a0 a1 : AV} {H : AH} {K : AV → AH → Prop} (h : store_has_1 a0 a1 H K) : ∃ r H', K r H' ∧ BCall Try.prog 52 [a0, a1] H r H' :=
 sFun_ok mixP Try.func52 (by kernel_rfl) (Eq.mpr (store_has_1_eq a0 a1 H K) h)
/-! salvor/store.stays -/
def store_stays_fl : Floats := flOf []
def store_stays_kp : Nat → Option (List Bool) := kpOf [(1, mk 15 0 [1, 2]), (3, mk 15 0 [1, 2, 7])]
def store_stays_c (p : List Bool) (n : Nat) : List AV → AH → Kf → Prop := sCode Try.prog store_stays_fl pqe none0 none0 store_stays_kp (sub p (bodyOf Try.f38)) n
def zktZ (x1 x2 : AV) (H : AH) (K : AV → AH → Prop) : Prop := jn (mk 15 0 [1, 2]) (store_stays_c [true, true] 7) [x1, x2] H (kRet Try.prog Try.f38.results.toList K)
def zhuZ (x1 x2 x7 : AV) (H : AH) (K : AV → AH → Prop) : Prop := jn (mk 15 0 [1, 2, 7]) (store_stays_c [true, false, true, false, true] 6) [x1, x2, x7] H (kBlk 0 (kSeq (cutC (mk 15 0 [1, 2]) (store_stays_c [true, true] 7)) (kRet Try.prog Try.f38.results.toList K)))
def zlxZ (x1 x2 : AV) (H : AH) (K : AV → AH → Prop) : Prop :=
bO (ashift 1 x2) fun v0 =>
bO (ald false 1 H v0) fun v1 =>
bP (PCall Try.prog 53 [x1, v1] H) fun v2 =>
K v2 H
theorem store_stays_J1_eq (x1 x2 : AV) (H : AH) (K : AV → AH → Prop) : zktZ x1 x2 H K = zlxZ x1 x2 H K := (jn_eq _ _ _ _ _).trans (by kernel_rfl)
def zgoZ (x1 x2 x7 : AV) (H : AH) (K : AV → AH → Prop) : Prop :=
bB x7 fun t0 => bI t0 (
K (.lit (.bool true)) H)
 (zktZ x1 x2 H K)
theorem zhkZ (x1 x2 x7 : AV) (H : AH) (K : AV → AH → Prop) : zhuZ x1 x2 x7 H K = zgoZ x1 x2 x7 H K := (jn_eq _ _ _ _ _).trans (by kernel_rfl)
def store_stays (a0 a1 : AV) (H : AH) (K : AV → AH → Prop) : Prop :=
bH (anew H a0) fun v0 H1 =>
bO (ashift 0 v0) fun v2 =>
bO (ald false 1 H1 v2) fun v3 =>
bO (abI .eql v3 (.lit (.int .i64 1))) fun v4 =>
bB v4 fun t5 => bI t5 (
zhuZ a1 v0 v4 H1 K)
 (bO (abI .eql v3 (.lit (.int .i64 6))) fun v6 =>
bB v6 fun t7 => bI t7 (
zhuZ a1 v0 v6 H1 K)
 (bO (abI .eql v3 (.lit (.int .i64 7))) fun v8 =>
zhuZ a1 v0 v8 H1 K))
theorem store_stays_eq (a0 a1 : AV) (H : AH) (K : AV → AH → Prop) : sFun Try.prog store_stays_fl pqe none0 none0 store_stays_kp Try.f38 [a0, a1] H K = store_stays a0 a1 H K := by kernel_rfl
theorem store_stays_ok {a0 a1 : AV} {H : AH} {K : AV → AH → Prop} (h : store_stays a0 a1 H K) : ∃ r H', K r H' ∧ BCall Try.prog 38 [a0, a1] H r H' :=
 sFun_ok mixP Try.func38 (by kernel_rfl) (Eq.mpr (store_stays_eq a0 a1 H K) h)
/-! slices.ContainsFunc[[]salvor/api.Ext,salvor/api.Ext] -/
def zefZ : Floats := flOf []
def zeiZ : Nat → Option (List Bool) := kpOf []
def zboZ (a0 a1 : AV) (H : AH) (K : AV → AH → Prop) : Prop :=
bP (PCall Try.prog 75 [a0, a1] H) fun v0 =>
bO (abI .geq v0 (.lit (.int .i64 0))) fun v1 =>
K v1 H
theorem zehZ (a0 a1 : AV) (H : AH) (K : AV → AH → Prop) : sFun Try.prog zefZ pqe none0 none0 zeiZ Try.f51 [a0, a1] H K = zboZ a0 a1 H K := by kernel_rfl
theorem zegZ {a0 a1 : AV} {H : AH} {K : AV → AH → Prop} (h : zboZ a0 a1 H K) : ∃ r H', K r H' ∧ BCall Try.prog 51 [a0, a1] H r H' :=
 sFun_ok mixP Try.func51 (by kernel_rfl) (Eq.mpr (zehZ a0 a1 H K) h)
/-! slices.Contains[[]int,int] -/
def zijZ : Floats := flOf []
def zifZ : Nat → Option (List Bool) := kpOf []
def zdnZ (a0 a1 : AV) (H : AH) (K : AV → AH → Prop) : Prop :=
bP (PCall Try.prog 76 [a0, a1] H) fun v0 =>
bO (abI .geq v0 (.lit (.int .i64 0))) fun v1 =>
K v1 H
theorem ziqZ (a0 a1 : AV) (H : AH) (K : AV → AH → Prop) : sFun Try.prog zijZ pqe none0 none0 zifZ Try.f53 [a0, a1] H K = zdnZ a0 a1 H K := by kernel_rfl
theorem zieZ {a0 a1 : AV} {H : AH} {K : AV → AH → Prop} (h : zdnZ a0 a1 H K) : ∃ r H', K r H' ∧ BCall Try.prog 53 [a0, a1] H r H' :=
 sFun_ok mixP Try.func53 (by kernel_rfl) (Eq.mpr (ziqZ a0 a1 H K) h)
/-! slices.Index[[]int,int] -/
def zghZ : Floats := flOf []
def zgiZ : Nat → Option (List Bool) := kpOf [(3, mk 19 0 [0, 1, 7, 8])]
def zczZ (p : List Bool) (n : Nat) : List AV → AH → Kf → Prop := sCode Try.prog zghZ pqe none0 none0 zgiZ (sub p (bodyOf Try.f76)) n
def zggZ (x0 x1 x7 x8 : AV) (H : AH) (K : AV → AH → Prop) : Prop := lp (mk 19 0 [0, 1, 7, 8]) (zczZ [true, false, true, false, false] 4) [x0, x1, x7, x8] H (kBlk 0 (kSeq (zczZ [true, true] 10) (kRet Try.prog Try.f76.results.toList K)))
def zdcZ (R3 : List AV → AH → Prop) (x0 x1 x7 x8 : AV) (H : AH) (K : AV → AH → Prop) : Prop :=
bO (abI .lss x8 x7) fun v0 =>
bB v0 fun t1 => bI t1 (
bO (aixS 1 x0 x8) fun v2 =>
bO (ald false 1 H v2) fun v3 =>
bO (abI .eql x1 v3) fun v4 =>
bB v4 fun t5 => bI t5 (
K x8 H)
 (bO (abI .add x8 (.lit (.int .i64 1))) fun v6 =>
R3 [x0, x1, x7, v6] H))
 (K (.lit (.int .i64 (-1))) H)
theorem zisZ (R3 : List AV → AH → Prop) (x0 x1 x7 x8 : AV) (H : AH) (K : AV → AH → Prop) : zczZ [true, false, true, false, false] 4 (expand (mk 19 0 [0, 1, 7, 8]) [x0, x1, x7, x8]) H (kLp (mk 19 0 [0, 1, 7, 8]) R3 (kBlk 0 (kSeq (zczZ [true, true] 10) (kRet Try.prog Try.f76.results.toList K)))) = zdcZ R3 x0 x1 x7 x8 H K := by kernel_rfl
theorem zhlZ {K : AV → AH → Prop} (I : Nat → AV → AV → AV → AV → AH → Prop) (round : ∀ (n : Nat) (x0 x1 x7 x8 : AV) (H : AH) (R : List AV → AH → Prop), (∀ (m : Nat) (y0 y1 y7 y8 : AV) (H' : AH), m < n → I m y0 y1 y7 y8 H' → R [y0, y1, y7, y8] H') → I n x0 x1 x7 x8 H → zdcZ R x0 x1 x7 x8 H K) (n : Nat) {x0 x1 x7 x8 : AV} {H : AH} (h : I n x0 x1 x7 x8 H) : zggZ x0 x1 x7 x8 H K := by
 refine lp_upto (zbnZ _ _) (LI4 I) ?_ n h
 intro n X H h
 obtain ⟨x0, x1, x7, x8, rfl, h⟩ := h.elim
 exact Eq.mpr (zisZ _ x0 x1 x7 x8 H K) (round n x0 x1 x7 x8 H (fun X H' => ∃ m, m < n ∧ LI4 I m X H') (fun m y0 y1 y7 y8 H' hm hi => ⟨m, hm, hi⟩) h)
def zeoZ (a0 a1 : AV) (H : AH) (K : AV → AH → Prop) : Prop :=
bO (alnS a0) fun v0 =>
zggZ a0 a1 v0 (.lit (.int .i64 0)) H K
theorem zkkZ (a0 a1 : AV) (H : AH) (K : AV → AH → Prop) : sFun Try.prog zghZ pqe none0 none0 zgiZ Try.f76 [a0, a1] H K = zeoZ a0 a1 H K := by kernel_rfl
theorem zkiZ {a0 a1 : AV} {H : AH} {K : AV → AH → Prop} (h : zeoZ a0 a1 H K) : ∃ r H', K r H' ∧ BCall Try.prog 76 [a0, a1] H r H' :=
 sFun_ok mixP Try.func76 (by kernel_rfl) (Eq.mpr (zkkZ a0 a1 H K) h)
/-! slices.Clone[[]byte,byte] -/
def zizZ : Floats := flOf []
def zjgZ : Nat → Option (List Bool) := kpOf []
def zdtZ (a0 : AV) (H : AH) (K : AV → AH → Prop) : Prop :=
bO (abN .eql nilS a0 (.lit (.slice none 0 0))) fun v0 =>
bB v0 fun t1 => bI t1 (
K (.lit (.slice none 0 0)) H)
 (bH (absl H 1 0 (zrow [(.lit (.int .u8 0))] 0) []) fun v2 H3 =>
bH (aap 1 1 H3 v2 a0) fun v4 H5 =>
K v4 H5)
theorem zjaZ (a0 : AV) (H : AH) (K : AV → AH → Prop) : sFun Try.prog zizZ pqe none0 none0 zjgZ Try.f36 [a0] H K = zdtZ a0 H K := by kernel_rfl
theorem zjcZ {a0 : AV} {H : AH} {K : AV → AH → Prop} (h : zdtZ a0 H K) : ∃ r H', K r H' ∧ BCall Try.prog 36 [a0] H r H' :=
 sFun_ok mixP Try.func36 (by kernel_rfl) (Eq.mpr (zjaZ a0 H K) h)
/-! salvor/salvorlaw13.StoreDeeds -/
def zfnZ : Floats := flOf []
def zfuZ : Nat → Option (List Bool) := kpOf [(27, mk 103 0 [0, 1, 5, 6, 7, 8, 9, 91]), (16, mk 103 0 [0, 1, 5, 6, 7, 8, 9]), (26, mk 103 0 [0, 1, 5, 6, 7, 8, 9, 80]), (18, mk 103 0 [0, 1, 5, 6, 7, 8, 9, 10]), (13, mk 103 0 [0, 1, 5, 6, 7, 8, 9])]
def zcZ (p : List Bool) (n : Nat) : List AV → AH → Kf → Prop := sCode Try.prog zfnZ pqe none0 none0 zfuZ (sub p (bodyOf Try.f8)) n
def zbwZ (R13 : List AV → AH → Prop) (x0 x1 x5 x6 x7 x8 x9 : AV) (H : AH) (K : AV → AH → Prop) : Prop := jn (mk 103 0 [0, 1, 5, 6, 7, 8, 9]) (zcZ [true, true, true, true, true, true, true, false, true, false, false, true, true] 29) [x0, x1, x5, x6, x7, x8, x9] H (kLp (mk 103 0 [0, 1, 5, 6, 7, 8, 9]) R13 (kBlk 0 (kSeq (zcZ [true, true, true, true, true, true, true, true] 29) (kRet Try.prog Try.f8.results.toList K))))
def zeuZ (R13 : List AV → AH → Prop) (x0 x1 x5 x6 x7 x8 x9 x91 : AV) (H : AH) (K : AV → AH → Prop) : Prop := jn (mk 103 0 [0, 1, 5, 6, 7, 8, 9, 91]) (zcZ [true, true, true, true, true, true, true, false, true, false, false, true, false, false, true, true, true, true, true] 28) [x0, x1, x5, x6, x7, x8, x9, x91] H (kBlk 1 (kSeq (cutC (mk 103 0 [0, 1, 5, 6, 7, 8, 9]) (zcZ [true, true, true, true, true, true, true, false, true, false, false, true, true] 29)) (kLp (mk 103 0 [0, 1, 5, 6, 7, 8, 9]) R13 (kBlk 0 (kSeq (zcZ [true, true, true, true, true, true, true, true] 29) (kRet Try.prog Try.f8.results.toList K))))))
def zetZ (R13 : List AV → AH → Prop) (x0 x1 x5 x6 x7 x8 x9 x80 : AV) (H : AH) (K : AV → AH → Prop) : Prop := jn (mk 103 0 [0, 1, 5, 6, 7, 8, 9, 80]) (zcZ [true, true, true, true, true, true, true, false, true, false, false, true, false, false, true, true, true] 27) [x0, x1, x5, x6, x7, x8, x9, x80] H (kBlk 1 (kSeq (cutC (mk 103 0 [0, 1, 5, 6, 7, 8, 9]) (zcZ [true, true, true, true, true, true, true, false, true, false, false, true, true] 29)) (kLp (mk 103 0 [0, 1, 5, 6, 7, 8, 9]) R13 (kBlk 0 (kSeq (zcZ [true, true, true, true, true, true, true, true] 29) (kRet Try.prog Try.f8.results.toList K))))))
def zjZ (R13 : List AV → AH → Prop) (x0 x1 x5 x6 x7 x8 x9 x10 : AV) (H : AH) (K : AV → AH → Prop) : Prop := jn (mk 103 0 [0, 1, 5, 6, 7, 8, 9, 10]) (zcZ [true, true, true, true, true, true, true, false, true, false, false, true, false, false, true, true] 26) [x0, x1, x5, x6, x7, x8, x9, x10] H (kBlk 1 (kSeq (cutC (mk 103 0 [0, 1, 5, 6, 7, 8, 9]) (zcZ [true, true, true, true, true, true, true, false, true, false, false, true, true] 29)) (kLp (mk 103 0 [0, 1, 5, 6, 7, 8, 9]) R13 (kBlk 0 (kSeq (zcZ [true, true, true, true, true, true, true, true] 29) (kRet Try.prog Try.f8.results.toList K))))))
def zevZ (x0 x1 x5 x6 x7 x8 x9 : AV) (H : AH) (K : AV → AH → Prop) : Prop := lp (mk 103 0 [0, 1, 5, 6, 7, 8, 9]) (zcZ [true, true, true, true, true, true, true, false, true, false, false] 14) [x0, x1, x5, x6, x7, x8, x9] H (kBlk 0 (kSeq (zcZ [true, true, true, true, true, true, true, true] 29) (kRet Try.prog Try.f8.results.toList K)))
def zdzZ (R13 : List AV → AH → Prop) (x0 x1 x5 x6 x7 x8 x9 : AV) (H : AH) (K : AV → AH → Prop) : Prop :=
bO (abI .add x9 (.lit (.int .i64 1))) fun v0 =>
R13 [x0, x1, x5, x6, x7, x8, v0] H
theorem zhqZ (R13 : List AV → AH → Prop) (x0 x1 x5 x6 x7 x8 x9 : AV) (H : AH) (K : AV → AH → Prop) : zbwZ R13 x0 x1 x5 x6 x7 x8 x9 H K = zdzZ R13 x0 x1 x5 x6 x7 x8 x9 H K := (jn_eq _ _ _ _ _).trans (by kernel_rfl)
def zeaZ (R13 : List AV → AH → Prop) (x0 x1 x5 x6 x7 x8 x9 x91 : AV) (H : AH) (K : AV → AH → Prop) : Prop :=
bB x91 fun t0 => bI t0 (
K (.lit (.bool false)) H)
 (zbwZ R13 x0 x1 x5 x6 x7 x8 x9 H K)
theorem zhpZ (R13 : List AV → AH → Prop) (x0 x1 x5 x6 x7 x8 x9 x91 : AV) (H : AH) (K : AV → AH → Prop) : zeuZ R13 x0 x1 x5 x6 x7 x8 x9 x91 H K = zeaZ R13 x0 x1 x5 x6 x7 x8 x9 x91 H K := (jn_eq _ _ _ _ _).trans (by kernel_rfl)
def zcuZ (R13 : List AV → AH → Prop) (x0 x1 x5 x6 x7 x8 x9 x80 : AV) (H : AH) (K : AV → AH → Prop) : Prop :=
bB x80 fun t0 => bI t0 (
bO (abI .add x8 (.lit (.int .i64 1))) fun v1 =>
zbwZ R13 x0 x1 x5 x6 x7 v1 x9 H K)
 (bC (BCall Try.prog 29 [x5] H) fun v2 H3 =>
bO (aun .not v2) fun v4 =>
bG v4 false fun w5 =>
gO w5 (some x8) fun v6 =>
bG v4 false fun w7 =>
gO w7 (some x0) fun v8 =>
bG v4 false fun w9 =>
gO w9 (acI .i64 v8) fun v10 =>
bG v4 false fun w11 =>
gO w11 (abI .neq v6 v10) fun v12 =>
bO (apick v4 (.lit (.bool true)) v12) fun v13 =>
zeuZ R13 x0 x1 x5 x6 x7 x8 x9 v13 H3 K)
theorem zdvZ (R13 : List AV → AH → Prop) (x0 x1 x5 x6 x7 x8 x9 x80 : AV) (H : AH) (K : AV → AH → Prop) : zetZ R13 x0 x1 x5 x6 x7 x8 x9 x80 H K = zcuZ R13 x0 x1 x5 x6 x7 x8 x9 x80 H K := (jn_eq _ _ _ _ _).trans (by kernel_rfl)
def zctZ (R13 : List AV → AH → Prop) (x0 x1 x5 x6 x7 x8 x9 x10 : AV) (H : AH) (K : AV → AH → Prop) : Prop :=
zetZ R13 x0 x1 x5 x6 x7 x8 x9 x10 H K
theorem zdqZ (R13 : List AV → AH → Prop) (x0 x1 x5 x6 x7 x8 x9 x10 : AV) (H : AH) (K : AV → AH → Prop) : zjZ R13 x0 x1 x5 x6 x7 x8 x9 x10 H K = zctZ R13 x0 x1 x5 x6 x7 x8 x9 x10 H K := (jn_eq _ _ _ _ _).trans (by kernel_rfl)
def zcsZ (R13 : List AV → AH → Prop) (x0 x1 x5 x6 x7 x8 x9 : AV) (H : AH) (K : AV → AH → Prop) : Prop :=
bO (alnS x1) fun v0 =>
bO (abI .lss x9 v0) fun v1 =>
bB v1 fun t2 => bI t2 (
bO (aixS 1 x1 x9) fun v3 =>
bO (ald false 1 H v3) fun v4 =>
bO (abI .rem v4 (.lit (.int .u8 4))) fun v5 =>
bO (abI .eql v5 (.lit (.int .u8 0))) fun v6 =>
bB v6 fun t7 => bI t7 (
bO (aixS 1 x1 x9) fun v8 =>
bO (ald false 1 H v8) fun v9 =>
bH (absl H 1 1 (zrow [(.lit (.int .u8 0))] 1) [(0, 1, v9)]) fun v10 H11 =>
bC (BCall Try.prog 11 [x5, x6, x9, v10] H11) fun v12 H13 =>
bO (zkZ v12 0) fun v14 =>
bO (zkZ v12 1) fun v15 =>
bO (abI .eql v15 (.lit (.int .i64 0))) fun v16 =>
bG v16 true fun w17 =>
gO w17 (some v14) fun v18 =>
bG v16 true fun w19 =>
gO w19 (abI .eql v18 (.lit (.int .i64 1))) fun v20 =>
bO (apick v16 v20 (.lit (.bool false))) fun v21 =>
zjZ R13 x0 x1 x5 x6 x7 x8 x9 v21 H13 K)
 (bO (abI .eql v5 (.lit (.int .u8 1))) fun v22 =>
bB v22 fun t23 => bI t23 (
bH (absl H 1 1 (zrow [(.lit (.int .i64 0))] 1) [(0, 1, x6)]) fun v24 H25 =>
bC (BCall Try.prog 12 [x5, v24] H25) fun v26 H27 =>
bO (abI .eql v26 (.lit (.int .i64 0))) fun v28 =>
zjZ R13 x0 x1 x5 x6 x7 x8 x9 v28 H27 K)
 (bO (abI .eql v5 (.lit (.int .u8 2))) fun v29 =>
bB v29 fun t30 => bI t30 (
bC (BCall Try.prog 27 [x5, x6, x9] H) fun v31 H32 =>
bO (abI .eql v31 (.lit (.int .i64 0))) fun v33 =>
zjZ R13 x0 x1 x5 x6 x7 x8 x9 v33 H32 K)
 (bC (BCall Try.prog 28 [x5, (.lit (.string ⟨#[97]⟩)), (.lit (.string ⟨#[97]⟩))] H) fun v34 H35 =>
bO (abI .eql v34 (.lit (.int .i64 0))) fun v36 =>
bB v36 fun t37 => bI t37 (
bO (abI .sub x8 (.lit (.int .i64 1))) fun v38 =>
zjZ R13 x0 x1 x5 x6 x7 v38 x9 v36 H35 K)
 (zjZ R13 x0 x1 x5 x6 x7 x8 x9 v36 H35 K)))))
 (bO (abI .eql x7 (.lit (.int .i64 0))) fun v39 =>
bG v39 true fun w40 =>
gO w40 (some x8) fun v41 =>
bG v39 true fun w42 =>
gO w42 (some x0) fun v43 =>
bG v39 true fun w44 =>
gO w44 (acI .i64 v43) fun v45 =>
bG v39 true fun w46 =>
gO w46 (abI .leq v41 v45) fun v47 =>
bO (apick v39 v47 (.lit (.bool false))) fun v48 =>
bG v48 true fun w49 =>
gP w49 (PCall Try.prog 3 [] H) fun v50 =>
bO (apick v48 v50 (.lit (.bool false))) fun v51 =>
K v51 H)
theorem zhnZ (R13 : List AV → AH → Prop) (x0 x1 x5 x6 x7 x8 x9 : AV) (H : AH) (K : AV → AH → Prop) : zcZ [true, true, true, true, true, true, true, false, true, false, false] 14 (expand (mk 103 0 [0, 1, 5, 6, 7, 8, 9]) [x0, x1, x5, x6, x7, x8, x9]) H (kLp (mk 103 0 [0, 1, 5, 6, 7, 8, 9]) R13 (kBlk 0 (kSeq (zcZ [true, true, true, true, true, true, true, true] 29) (kRet Try.prog Try.f8.results.toList K)))) = zcsZ R13 x0 x1 x5 x6 x7 x8 x9 H K := by kernel_rfl
theorem zgxZ {K : AV → AH → Prop} (I : Nat → AV → AV → AV → AV → AV → AV → AV → AH → Prop) (round : ∀ (n : Nat) (x0 x1 x5 x6 x7 x8 x9 : AV) (H : AH) (R : List AV → AH → Prop), (∀ (m : Nat) (y0 y1 y5 y6 y7 y8 y9 : AV) (H' : AH), m < n → I m y0 y1 y5 y6 y7 y8 y9 H' → R [y0, y1, y5, y6, y7, y8, y9] H') → I n x0 x1 x5 x6 x7 x8 x9 H → zcsZ R x0 x1 x5 x6 x7 x8 x9 H K) (n : Nat) {x0 x1 x5 x6 x7 x8 x9 : AV} {H : AH} (h : I n x0 x1 x5 x6 x7 x8 x9 H) : zevZ x0 x1 x5 x6 x7 x8 x9 H K := by
 refine lp_upto (zbnZ _ _) (LI7 I) ?_ n h
 intro n X H h
 obtain ⟨x0, x1, x5, x6, x7, x8, x9, rfl, h⟩ := h.elim
 exact Eq.mpr (zhnZ _ x0 x1 x5 x6 x7 x8 x9 H K) (round n x0 x1 x5 x6 x7 x8 x9 H (fun X H' => ∃ m, m < n ∧ LI7 I m X H') (fun m y0 y1 y5 y6 y7 y8 y9 H' hm hi => ⟨m, hm, hi⟩) h)
def zeeZ (a0 a1 : AV) (H : AH) (K : AV → AH → Prop) : Prop :=
bO (alnS a1) fun v0 =>
bO (abI .gtr v0 (.lit (.int .i64 60))) fun v1 =>
bB v1 fun t2 => bI t2 (
bP (PCall Try.prog 3 [] H) fun v3 =>
K v3 H)
 (bC (BCall Try.prog 9 [(.lit (.int .i64 100))] H) fun v4 H5 =>
bO (abN .eql nilP v4 (.lit (.pointer none))) fun v6 =>
bB v6 fun t7 => bI t7 (
K (.lit (.bool false)) H5)
 (bC (BCall Try.prog 10 [v4, (.lit (.string ⟨#[97]⟩)), (.lit (.bool true))] H5) fun v8 H9 =>
bO (zkZ v8 0) fun v10 =>
bO (zkZ v8 1) fun v11 =>
bO (acI .i64 a0) fun v12 =>
bC (BCall Try.prog 26 [v4, v12] H9) fun v13 H14 =>
zevZ a0 a1 v4 v10 v11 (.lit (.int .i64 0)) (.lit (.int .i64 0)) H14 K))
theorem zjwZ (a0 a1 : AV) (H : AH) (K : AV → AH → Prop) : sFun Try.prog zfnZ pqe none0 none0 zfuZ Try.f8 [a0, a1] H K = zeeZ a0 a1 H K := by kernel_rfl
theorem zjqZ {a0 a1 : AV} {H : AH} {K : AV → AH → Prop} (h : zeeZ a0 a1 H K) : ∃ r H', K r H' ∧ BCall Try.prog 8 [a0, a1] H r H' :=
 sFun_ok mixP Try.func8 (by kernel_rfl) (Eq.mpr (zjwZ a0 a1 H K) h)
end Go.Proofs.Ytofgloiebnppbaa.Av
end
/-! YtofgloiebnppbaaAvSt -/
section
/- Chapter 13: a store, in plain words, and as it lies in the heap. -/
set_option linter.unusedVariables false
set_option linter.unusedSimpArgs false
set_option maxRecDepth 100000
namespace Go.Proofs.Ytofgloiebnppbaa.Av
open Go Go.RowKit

abbrev Img := List Nm × List Nd
structure StS where
 cap : Int
 now : Img
 kept : Img
 pend : List OpM
 made : Int
 armed : Int
 off : Bool
def newS (room : Int) : StS := ⟨min (max room 0) 4096, ([], []), ([], []), [], 0, -1, false⟩
def wt (o : OpM) : Nat := 1 + o.b.length + if o.kind = 4 then 4098 else 0
def wts (l : List OpM) : Nat := (l.map wt).sum
theorem chg_wt {o : OpM} {d : Nd} {c : Cont} (h : chgC o d = some c) : c.2.length ≤ d.l.length + wt o := by
 have h4 := chg_len (o := o) (d := d)
 rw [h] at h4
 simp only [cL, Option.getD_some] at h4
 unfold wt
 by_cases c4 : o.kind = 4
 ·rw [if_pos c4]; omega
 ·rw [if_neg c4]
  unfold chgC at h
  split at h
  ·unfold writeC at h
   split at h
   ·injection h with h
    subst h
    split
    ·simp
    ·have := wr_len12 (bs := o.b) (l := d.l) (p := o.pos)
     simp only; omega
   ·cases h
  ·split at h
   ·unfold truncC at h
    split at h
    ·injection h with h
     subst h
     simp only [truncL, wipeL, List.length_map]
     exact Nat.le_trans (List.length_filter_le _ _) (by omega)
    ·cases h
   ·split at h
    ·unfold punchC at h
     split at h
     ·injection h with h
      subst h
      simp only [punchL, wipeL, List.length_map]
      exact Nat.le_trans (List.length_filter_le _ _) (by omega)
     ·cases h
    ·cases h
def Few1 (M : Nat) (i : Img) : Prop := MayW i.1 i.2 ∧ ∀ d ∈ i.2, d.l.length ≤ M
theorem remD_mem {ns : List Nm} {ds : List Nd} {s : List UInt8} {d : Nd} (h : d ∈ remD ns ds s) : d ∈ ds := by
 unfold remD at h
 split at h
 ·exact delK_sub.subset h
 ·exact h
theorem Few1.step {M : Nat} {i : Img} (h : Few1 M i) (o : OpM) : Few1 (M + wt o) (applyI i.1 i.2 o) := by
 refine ⟨applyI_w h.1 o, fun d hd => ?_⟩
 have old : d ∈ i.2 → d.l.length ≤ M + wt o := fun hd => Nat.le_trans (h.2 d hd) (by omega)
 unfold applyI at hd
 rw [if_pos (mayI_w.2 h.1)] at hd
 split at hd
 ·split at hd
  ·rcases mem_insK.1 hd with rfl | hd
   ·simp
   ·exact old hd
  ·exact old hd
 ·split at hd
  ·rcases mem_chgD h.1.sd hd with hd | ⟨-, e, he, -, hc⟩
   ·exact old hd
   ·have := chg_wt hc
    have := h.2 e he
    simp only at *
    omega
  ·split at hd
   ·split at hd
    ·exact old (remD_mem hd)
    ·exact old hd
   ·split at hd
    ·exact old (remD_mem hd)
    ·exact old hd
theorem Few1.mono {M M' : Nat} {i : Img} (h : Few1 M i) (hm : M ≤ M') : Few1 M' i := ⟨h.1, fun d hd => Nat.le_trans (h.2 d hd) hm⟩
theorem MayW.len2 {ns : List Nm} {ds : List Nd} (h : MayW ns ds) : ds.length ≤ 16 := by
 have := (mayI_w.2 h).2.1
 have := h.len
 omega
theorem Few1.sm {M : Nat} {i : Img} (h : Few1 M i) (hm : M ≤ 1000000) : Sm i.1 i.2 :=
 ⟨by have := h.1.len; omega, by have := h.1.len2; omega, fun x hx => by have := (h.1.nm x hx).1.2.1; omega, fun d hd => Nat.le_trans (h.2 d hd) hm⟩
def OpB (o : OpM) : Prop := o.b.length ≤ 5000 ∧ o.name.length ≤ 20 ∧ o.to.length ≤ 20
structure SW (N : Nat) (s : StS) : Prop where
 now : Few1 N s.now
 kept : ∃ a, Few1 a s.kept ∧ a + wts s.pend ≤ N
 ob : ∀ o ∈ s.pend, OpB o
 made : 0 ≤ s.made ∧ s.made ≤ N
 cap : 0 ≤ s.cap ∧ s.cap ≤ 4096
 armed : -1 ≤ s.armed ∧ s.armed ≤ 9223372036854775807
theorem wts_len {l : List OpM} : l.length ≤ wts l := by
 unfold wts
 induction l with
 | nil => simp
 | cons o l ih => simp only [List.map_cons, List.sum_cons, List.length_cons]; unfold wt at *; omega
theorem wts_snoc {l : List OpM} {o : OpM} : wts (l ++ [o]) = wts l + wt o := by simp [wts]
theorem SW.plen {N : Nat} {s : StS} (h : SW N s) : s.pend.length ≤ N := by
 obtain ⟨a, -, h2⟩ := h.kept
 have := wts_len (l := s.pend)
 omega
theorem SW.mono {N N' : Nat} {s : StS} (h : SW N s) (hn : N ≤ N') : SW N' s :=
 ⟨h.now.mono hn, by obtain ⟨a, h1, h2⟩ := h.kept; exact ⟨a, h1, by omega⟩, h.ob, by have := h.made; omega, h.cap, h.armed⟩
theorem mayW_nil : MayW [] [] := ⟨by simp, by simp, by simp [srtK], by simp, by simp [srtK], by simp, fun i => by simp [hasK]⟩
theorem newS_w (room : Int) : SW 0 (newS room) :=
 ⟨⟨mayW_nil, by simp [newS]⟩, ⟨0, ⟨mayW_nil, by simp [newS]⟩, by simp [newS, wts]⟩, by simp [newS], by simp [newS], by simp [newS]; omega, by simp [newS]⟩
/-! deeds -/
def deedS (s : StS) : Bool × StS :=
 if s.off = true ∨ s.armed = 0 then (false, { s with off := true })
 else if 0 < s.armed then (true, { s with armed := s.armed - 1 })
 else (true, s)
def doS (s : StS) (o : OpM) : Int × StS :=
 if (deedS s).1 = true then (0, { (deedS s).2 with now := applyI s.now.1 s.now.2 o, pend := s.pend ++ [o] }) else (8, (deedS s).2)
theorem deedS_w {N : Nat} {s : StS} (h : SW N s) : SW N (deedS s).2 := by
 unfold deedS
 split
 ·exact ⟨h.now, h.kept, h.ob, h.made, h.cap, h.armed⟩
 ·split
  ·exact ⟨h.now, h.kept, h.ob, h.made, h.cap, by have := h.armed; simp only; omega⟩
  ·exact h
theorem deedS_same (s : StS) : (deedS s).2.now = s.now ∧ (deedS s).2.kept = s.kept ∧ (deedS s).2.pend = s.pend ∧ (deedS s).2.made = s.made ∧ (deedS s).2.cap = s.cap := by
 unfold deedS
 split
 ·exact ⟨rfl, rfl, rfl, rfl, rfl⟩
 ·split <;> exact ⟨rfl, rfl, rfl, rfl, rfl⟩
theorem doS_w {N : Nat} {s : StS} {o : OpM} (h : SW N s) (ho : OpB o) : SW (N + wt o) (doS s o).2 := by
 have hd := deedS_w h
 obtain ⟨e1, e2, e3, e4, e5⟩ := deedS_same s
 unfold doS
 split
 ·obtain ⟨a, h1, h2⟩ := h.kept
  refine ⟨h.now.step o, ⟨a, by simp only [e2]; exact h1, by simp only [wts_snoc]; omega⟩, ?_, by simp only [e4]; have := h.made; omega, by simp only [e5]; exact h.cap, hd.armed⟩
  intro x hx
  simp only [List.mem_append, List.mem_singleton] at hx
  rcases hx with hx | rfl
  ·exact h.ob x hx
  ·exact ho
 ·exact hd.mono (by omega)
/-! in the heap -/
structure StC (s : StS) (os : Nat) (a b c d p : AV) (pv : List OpV) (H : AH) : Prop where
 obj : H[os]? = some (some (.cells [I s.cap, a, b, c, d, p, I s.made, I s.armed, B s.off]))
 now : ImV s.now.1 s.now.2 (.agg [a, b])
 kept : ImV s.kept.1 s.kept.2 (.agg [c, d])
 pm : pv.map OpV.o = s.pend
 ps : zaZ H 8 p = some (pv.flatMap encO, pv.length)
 po : ownedS p = true
 pi : os ∉ idS p
 pc : capOk p pv.length
def StAt (s : StS) (os : Nat) (p : AV) (H : AH) : Prop := ∃ a b c d pv, StC s os a b c d p pv H
structure StF (os : Nat) (p p' : AV) (H H' : AH) : Prop where
 len : H.length ≤ H'.length
 same : ∀ j, j < H.length → j ≠ os → j ∉ idS p → H'[j]? = H[j]?
 ids : ∀ j ∈ idS p', j ∈ idS p ∨ H.length ≤ j
theorem StF.refl (os : Nat) (p : AV) (H : AH) : StF os p p H H := ⟨Nat.le_refl _, fun _ _ _ _ => rfl, fun _ h => .inl h⟩
theorem StF.trans {os : Nat} {p p' p'' : AV} {A B C : AH} (h : StF os p p' A B) (k : StF os p' p'' B C) : StF os p p'' A C :=
  ⟨Nat.le_trans h.len k.len, fun j hj hne hp => by
    rw [k.same j (Nat.lt_of_lt_of_le hj h.len) hne (fun hp' => (h.ids j hp').elim hp (fun q => by omega)), h.same j hj hne hp],
   fun j hj => (k.ids j hj).elim (h.ids j) (fun q => .inr (Nat.le_trans h.len q))⟩
theorem StF.of_grew {os : Nat} {p : AV} {H H' : AH} (g : Grew H H') : StF os p p H H' := ⟨g.1, fun j hj _ _ => g.2 j hj, fun _ h => .inl h⟩
theorem StF.grew {os : Nat} {p p' : AV} {H H' H'' : AH} (h : StF os p p' H H') (g : Grew H' H'') : StF os p p' H H'' := h.trans (.of_grew g)
theorem StC.lt {s : StS} {os : Nat} {a b c d p : AV} {pv : List OpV} {H : AH} (h : StC s os a b c d p pv H) : os < H.length := (List.getElem?_eq_some_iff.1 h.obj).1
theorem StC.grew {s : StS} {os : Nat} {a b c d p : AV} {pv : List OpV} {H H' : AH} (h : StC s os a b c d p pv H) (g : Grew H H') : StC s os a b c d p pv H' :=
 ⟨g.cells h.obj, h.now, h.kept, h.pm, g.slice h.ps, h.po, h.pi, h.pc⟩
theorem StAt.grew {s : StS} {os : Nat} {p : AV} {H H' : AH} (h : StAt s os p H) (g : Grew H H') : StAt s os p H' := by
 obtain ⟨a, b, c, d, pv, h⟩ := h
 exact ⟨a, b, c, d, pv, h.grew g⟩
theorem StC.set {s s' : StS} {os : Nat} {a b c d a' b' c' d' p : AV} {pv : List OpV} {H : AH} (h : StC s os a b c d p pv H) (hn : ImV s'.now.1 s'.now.2 (.agg [a', b'])) (hk : ImV s'.kept.1 s'.kept.2 (.agg [c', d'])) (hp : s'.pend = s.pend) :
  StC s' os a' b' c' d' p pv (H.set os (some (.cells [I s'.cap, a', b', c', d', p, I s'.made, I s'.armed, B s'.off]))) ∧ StF os p p H (H.set os (some (.cells [I s'.cap, a', b', c', d', p, I s'.made, I s'.armed, B s'.off]))) := by
 refine ⟨⟨List.getElem?_set_self h.lt, hn, hk, by rw [hp]; exact h.pm, zbZ h.ps fun i q => List.getElem?_set_ne (fun e => h.pi (by rw [e]; exact q)), h.po, h.pi, h.pc⟩, by simp, fun j _ hne _ => List.getElem?_set_ne (Ne.symm hne), fun _ q => .inl q⟩
theorem ImV.one {ns : List Nm} {ds : List Nd} {a b : AV} (h : ImV ns ds (.agg [a, b])) : oneA a = true ∧ oneA b = true := by
 obtain ⟨a', b', dv, e, h1, h2, -⟩ := h
 injection e with e
 injection e with e1 e2
 injection e2 with e2 _
 subst e1; subst e2
 exact ⟨SV.oneA h1, SV.oneA h2⟩
theorem ImV.agg2 {ns : List Nm} {ds : List Nd} {v : AV} (h : ImV ns ds v) : ∃ a b, v = .agg [a, b] ∧ oneA a = true ∧ oneA b = true := by
 obtain ⟨a, b, dv, rfl, h1, h2, -⟩ := h
 exact ⟨a, b, rfl, SV.oneA h1, SV.oneA h2⟩
theorem fld {H : AH} {os k : Nat} {cs : List AV} {x : AV} (h : H[os]? = some (some (.cells cs))) (hk : k < cs.length) (hx : oneA x = true) : ast 1 H (.ptr os k) x = some (H.set os (some (.cells (cs.set k x)))) := by
 rw [ast_ptr (n := 1) (xs := [x]) (cs := cs) (zdoZ hx) h rfl hk]; rfl
end Go.Proofs.Ytofgloiebnppbaa.Av
end
/-! YtofgloiebnppbaaAvSu -/
section
/- Chapter 13: a store's inner calls. -/
set_option linter.unusedVariables false
set_option linter.unusedSimpArgs false
set_option maxRecDepth 100000
namespace Go.Proofs.Ytofgloiebnppbaa.Av
open Go Go.RowKit

theorem rd2 (x y : AV) : rdCells true 2 [x, y] 0 = some (.agg [x, y]) := rfl
theorem nwC (H : AH) : anew H (.agg [(.lit (.int .i64 0)), (.lit (.slice none 0 0))]) = some (.ptr H.length 0, H ++ [some (.cells [I 0, nilSl])]) := by simp
theorem stC' (H : AH) (s : Int) {R : AV} (hR : oneA R = true) : ast 2 (H ++ [some (.cells [I 0, nilSl])]) (.ptr H.length 0) (.agg [I s, R]) = some (H ++ [some (.cells [I s, R])]) := by
 rw [ast_ptr (n := 2) (xs := [I s, R]) (cs := [I 0, nilSl]) (by simp [hR]) (by simp) rfl (by simp)]
 simp [splice]
theorem top1 {H : AH} {x : AObj} : (H ++ [some x])[H.length]? = some (some x) := by simp
/-! making -/
theorem New_c (room : Int) (H : AH) (hr : room ≤ 9223372036854775807) : ∃ r H', (∃ p, r = .ptr H.length 0 ∧ H'.length = H.length + 1 ∧ StAt (newS room) H.length p H' ∧ Grew H H' ∧ idS p = []) ∧ BCall Try.prog 9 [I room] H r H' := store_New_ok (by
 unfold store_New
 have e1 : amm imx [I room, (.lit (.int .i64 0))] = some (I (max room 0)) := by rw [amm_two, imx_eq, Int.max_comm]
 have e2 : amm imn [I (max room 0), (.lit (.int .i64 4096))] = some (I (min (max room 0) 4096)) := by rw [amm_two, imn_eq, Int.min_comm]
 have e3 : abl [(.lit (.int .i64 0)), (.lit (.slice none 0 0)), (.lit (.slice none 0 0)), (.lit (.slice none 0 0)), (.lit (.slice none 0 0)), (.lit (.slice none 0 0)), (.lit (.int .i64 0)), (.lit (.int .i64 0)), (.lit (.bool false))] [(0, 1, I (min (max room 0) 4096)), (7, 1, (.lit (.int .i64 (-1))))] = some (.agg [I (min (max room 0) 4096), nilSl, nilSl, nilSl, nilSl, nilSl, I 0, I (-1), B false]) := rfl
 have e4 : anew H (.agg [I (min (max room 0) 4096), nilSl, nilSl, nilSl, nilSl, nilSl, I 0, I (-1), B false]) = some (.ptr H.length 0, H ++ [some (.cells [I (min (max room 0) 4096), nilSl, nilSl, nilSl, nilSl, nilSl, I 0, I (-1), B false])]) := by simp
 rw [e1, bO_some, e2, bO_some, e3, bO_some, e4, bH_some]
 have hI : ImV [] [] (.agg [nilSl, nilSl]) := ⟨nilSl, nilSl, [], rfl, SV.nil, SV.nil, rfl⟩
 exact ⟨nilSl, rfl, by simp, ⟨nilSl, nilSl, nilSl, nilSl, [], ⟨top1, hI, hI, rfl, rfl, rfl, by simp [idS], by simp [capOk]⟩⟩, Grew.app _ _, rfl⟩)
theorem Off_c {s : StS} {os : Nat} {p : AV} {H : AH} (h : StAt s os p H) : BCall Try.prog 29 [.ptr os 0] H (B s.off) H := by
 obtain ⟨r, H', ⟨rfl, rfl⟩, hc⟩ := store_Store_Off_ok (a0 := .ptr os 0) (H := H) (K := fun r H' => r = B s.off ∧ H' = H) (by
  obtain ⟨a, b, c, d, pv, h⟩ := h
  unfold zjzZ
  simp only [zlZ, bO_some, zxZ, Nat.zero_add, ald_ptr h.obj, zbiZ, List.getElem?_cons_succ, List.getElem?_cons_zero]
  exact ⟨by trivial, by trivial⟩)
 exact hc
def armS (s : StS) (n : Int) : StS := { s with armed := max n (-1) }
theorem armS_w {N : Nat} {s : StS} (h : SW N s) {n : Int} (hn : n ≤ 9223372036854775807) : SW N (armS s n) := ⟨h.now, h.kept, h.ob, h.made, h.cap, by simp only [armS]; omega⟩
theorem Arm_c {s : StS} {os : Nat} {p : AV} {H : AH} (h : StAt s os p H) (n : Int) : ∃ r H', (r = .tup [] ∧ StAt (armS s n) os p H' ∧ StF os p p H H') ∧ BCall Try.prog 26 [.ptr os 0, I n] H r H' := store_Store_Arm_ok (by
 obtain ⟨a, b, c, d, pv, h⟩ := h
 unfold zjmZ
 have e1 : amm imx [I n, (.lit (.int .i64 (-1)))] = some (I (max n (-1))) := by rw [amm_two, imx_eq, Int.max_comm]
 obtain ⟨h2, h3⟩ := h.set (s' := armS s n) h.now h.kept rfl
 have e2 : ast 1 H (.ptr os 7) (I (max n (-1))) = some (H.set os (some (.cells [I s.cap, a, b, c, d, p, I s.made, I (max n (-1)), B s.off]))) := fld h.obj (by simp) rfl
 simp only [e1, bO_some, zlZ, zxZ, Nat.zero_add, e2, bS_some]
 exact ⟨by trivial, ⟨a, b, c, d, pv, h2⟩, h3⟩)
theorem deed_c {s : StS} {os : Nat} {p : AV} {H : AH} (h : StAt s os p H) (hb : -1 ≤ s.armed ∧ s.armed ≤ 9223372036854775807) : ∃ r H', (r = B (deedS s).1 ∧ StAt (deedS s).2 os p H' ∧ StF os p p H H') ∧ BCall Try.prog 37 [.ptr os 0] H r H' := store_Store_deed_ok (by
 obtain ⟨a, b, c, d, pv, h⟩ := h
 unfold zitZ
 simp only [zlZ, bO_some, zxZ, Nat.zero_add, ald_ptr h.obj, zbiZ, List.getElem?_cons_succ, List.getElem?_cons_zero, bG_bool]
 have stop : s.off = true ∨ s.armed = 0 → bS (ast 1 H (.ptr os 8) (.lit (.bool true))) fun H17 => B false = B (deedS s).1 ∧ StAt (deedS s).2 os p H17 ∧ StF os p p H H17 := by
  intro hc
  have e : deedS s = (false, { s with off := true }) := by unfold deedS; rw [if_pos hc]
  rw [e]
  obtain ⟨h2, h3⟩ := h.set (s' := { s with off := true }) h.now h.kept rfl
  have e2 : ast 1 H (.ptr os 8) (B true) = some (H.set os (some (.cells [I s.cap, a, b, c, d, p, I s.made, I s.armed, B true]))) := fld h.obj (by simp) rfl
  simp only [e2, bS_some]
  exact ⟨by trivial, ⟨a, b, c, d, pv, h2⟩, h3⟩
 cases ho : s.off with
 | true =>
  simp only [show ((true == false) = false) from rfl, gO_false, bO_some, zdlZ, if_true, bB_bool, bI_true, zlZ, zxZ, Nat.zero_add]
  exact stop (.inl ho)
 | false =>
  simp only [beq_self_eq_true, gO_true, bO_some, zlZ, zxZ, Nat.zero_add, ald_ptr h.obj, zbiZ, List.getElem?_cons_succ, List.getElem?_cons_zero, abI_eql, zdlZ, if_false, Bool.false_eq_true, bB_bool]
  by_cases h0 : s.armed = 0
  ·simp only [h0, decide_true, bI_true]
   exact stop (.inr h0)
  ·simp only [h0, decide_false, zwZ, abI_gtr, bB_bool]
   have hn : ¬ (s.off = true ∨ s.armed = 0) := by rintro (q | q); rw [ho] at q; cases q; exact h0 q
   by_cases hp : 0 < s.armed
   ·have e : deedS s = (true, { s with armed := s.armed - 1 }) := by unfold deedS; rw [if_neg hn, if_pos hp]
    rw [e]
    obtain ⟨h2, h3⟩ := h.set (s' := { s with armed := s.armed - 1 }) h.now h.kept rfl
    have e1 : abI .sub (I s.armed) (.lit (.int .i64 1)) = some (I (s.armed - 1)) := abI_sub (by omega) (by omega)
    have e2 : ast 1 H (.ptr os 7) (I (s.armed - 1)) = some (H.set os (some (.cells [I s.cap, a, b, c, d, p, I s.made, I (s.armed - 1), B s.off]))) := fld h.obj (by simp) rfl
    simp only [hp, decide_true, bI_true, e1, bO_some, e2, bS_some]
    rw [zhdZ]; unfold zeqZ
    exact ⟨rfl, ⟨a, b, c, d, pv, h2⟩, h3⟩
   ·have e : deedS s = (true, s) := by unfold deedS; rw [if_neg hn, if_neg hp]
    rw [e]
    simp only [hp, decide_false, zwZ]
    rw [zhdZ]; unfold zeqZ
    exact ⟨rfl, ⟨a, b, c, d, pv, h⟩, .refl _ _ _⟩)
theorem rd9 (c a b d e f g h i : AV) : rdCells true 2 [c, a, b, d, e, f, g, h, i] 1 = some (.agg [a, b]) ∧ rdCells true 2 [c, a, b, d, e, f, g, h, i] 3 = some (.agg [d, e]) := ⟨rfl, rfl⟩
theorem st9 {H : AH} {os : Nat} {x0 x1 x2 x3 x4 x5 x6 x7 x8 a b : AV} (h : H[os]? = some (some (.cells [x0, x1, x2, x3, x4, x5, x6, x7, x8]))) (ha : oneA a = true) (hb : oneA b = true) :
  ast 2 H (.ptr os 1) (.agg [a, b]) = some (H.set os (some (.cells [x0, a, b, x3, x4, x5, x6, x7, x8]))) ∧ ast 2 H (.ptr os 3) (.agg [a, b]) = some (H.set os (some (.cells [x0, x1, x2, a, b, x5, x6, x7, x8]))) := by
 constructor
 ·rw [ast_ptr (n := 2) (off := 1) (xs := [a, b]) (by simp [ha, hb]) h rfl (by simp)]; rfl
 ·rw [ast_ptr (n := 2) (off := 3) (xs := [a, b]) (by simp [ha, hb]) h rfl (by simp)]; rfl
theorem idS_lt {s : StS} {os : Nat} {a b c d p : AV} {pv : List OpV} {H : AH} (h : StC s os a b c d p pv H) : ∀ j ∈ idS p, j < H.length := fun j q => zoZ h.ps j q
theorem do_c {N : Nat} {s : StS} {os : Nat} {p bv : AV} {H : AH} {o : OpM} (h : StAt s os p H) (hw : SW N s) (hN : N ≤ 900000) (hb : SV encU 1 o.b bv) (ho : OpB o) :
  ∃ r H', (r = I (doS s o).1 ∧ ∃ p', StAt (doS s o).2 os p' H' ∧ StF os p p' H H') ∧ BCall Try.prog 31 [.ptr os 0, .agg (opA o bv)] H r H' := store_Store_do_ok (by
 have h0 := h
 obtain ⟨a0, b0, c0, d0, pv0, hc0⟩ := h
 unfold zkrZ
 have obv := SV.oneA hb
 have e1 : anew H (.agg (opA o bv)) = some (.ptr H.length 0, H ++ [some (.cells (opA o bv))]) := by simp [opA, obv]
 have g := Grew.app H [some (.cells (opA o bv))]
 obtain ⟨r, H3, ⟨rfl, h3, f3⟩, hc⟩ := deed_c (h0.grew g) hw.armed
 rw [e1, bH_some]
 refine bC_of hc ?_
 have sm := hw.now.sm (by omega)
 obtain ⟨q1, q2, q3, q4, q5⟩ := deedS_same s
 simp only [aun_not, bO_some, bB_bool]
 cases hd : (deedS s).1 with
 | false =>
  have e : doS s o = (8, (deedS s).2) := by unfold doS; rw [if_neg (by rw [hd]; simp)]
  rw [e]
  simp only [Bool.not_false, bI_true]
  exact ⟨by trivial, p, h3, (StF.of_grew g).trans f3⟩
 | true =>
  have e : doS s o = (0, { (deedS s).2 with now := applyI s.now.1 s.now.2 o, pend := s.pend ++ [o] }) := by unfold doS; rw [if_pos hd]
  rw [e]
  have hos : os < H.length := hc0.lt
  have hid := idS_lt hc0
  obtain ⟨a, b, c, d, pv, h3⟩ := h3
  have c3 : H3[H.length]? = some (some (.cells (opA o bv))) := by
   rw [f3.same H.length (by simp) (by omega) (fun q => by have := hid _ q; omega)]; exact top1
  obtain ⟨R, hR, hp⟩ := Apply_p (o := o) (bv := bv) h3.now (by rw [q1]; exact sm) hb (by have := ho.1; omega) (by have := ho.2.1; omega) (by have := ho.2.2; omega)
  rw [q1] at hR
  obtain ⟨a', b', rfl, oa, ob⟩ := hR.agg2
  have rd8 : rdCells true 8 (opA o bv) 0 = some (.agg (opA o bv)) := rfl
  simp only [Bool.not_true, zwZ, zlZ, bO_some, zxZ, Nat.zero_add, ald_ptr h3.obj, (rd9 _ _ _ _ _ _ _ _ _).1, ald_ptr c3, rd8]
  refine bP_of hp ?_
  obtain ⟨h4, f4⟩ := h3.set (s' := { (deedS s).2 with now := applyI s.now.1 s.now.2 o }) hR h3.kept rfl
  simp only [zlZ, bO_some, zxZ, Nat.zero_add, (st9 h3.obj oa ob).1, bS_some]
  have c4 : (H3.set os (some (AObj.cells [I (deedS s).2.cap, a', b', c, d, p, I (deedS s).2.made, I (deedS s).2.armed, B (deedS s).2.off])))[H.length]? = some (some (.cells (opA o bv))) := by rw [List.getElem?_set_ne (by omega)]; exact c3
  simp only at h4 f4
  generalize hH4 : H3.set os (some (AObj.cells [I (deedS s).2.cap, a', b', c, d, p, I (deedS s).2.made, I (deedS s).2.armed, B (deedS s).2.off])) = H4 at *
  have e6 : absf 8 1 (zrow [(.lit (.int .i64 0)), (.lit (.int .i64 0)), (.lit (.int .i64 0)), (.lit (.int .i64 0)), (.lit (.bool false)), (.lit (.string ⟨#[]⟩)), (.lit (.string ⟨#[]⟩)), (.lit (.slice none 0 0))] 1) [(0, 8, .agg (opA o bv))] = some (.imm (encO ⟨o, bv, hb⟩) 1 8) := by
   simp [absf, zrow, encO, opA, cellsA_agg, obv, splice]
  have x1 : zcoZ H4 8 (.imm (encO ⟨o, bv, hb⟩) 1 8) = some (encO ⟨o, bv, hb⟩, 1) := ztZ (by simp [zaZ, encO, opA])
  have hpl : pv.length = s.pend.length := by rw [← q3, ← h3.pm, List.length_map]
  have hplN := hw.plen
  obtain ⟨r, H5, a1, a2, a3, a4, a5, a6⟩ := aap_spec (bytes := 96) h4.ps h4.po x1 (by omega)
  have a7 := aap_cap h4.ps h4.po x1 h4.pc a1
  have c5 : H5[os]? = some (some (.cells [I (deedS s).2.cap, a', b', c, d, p, I (deedS s).2.made, I (deedS s).2.armed, B (deedS s).2.off])) := by rw [a5 os h4.lt h4.pi]; exact h4.obj
  have hor : os ∉ idS r := fun q => (a6 os q).elim h4.pi (fun q => by have := h4.lt; omega)
  have e7 : ast 1 H5 (.ptr os 5) r = some (H5.set os (some (.cells [I (deedS s).2.cap, a', b', c, d, r, I (deedS s).2.made, I (deedS s).2.armed, B (deedS s).2.off]))) := fld c5 (by simp) (zbpZ a2)
  simp only [ald_ptr h4.obj, zbiZ, List.getElem?_cons_succ, List.getElem?_cons_zero, bO_some, ald_ptr c4, rd8, e6, a1, bH_some, e7, bS_some, zxZ, Nat.zero_add, zlZ]
  have hl5 : os < H5.length := (List.getElem?_eq_some_iff.1 c5).1
  refine ⟨by trivial, r, ⟨a', b', c, d, pv ++ [⟨o, bv, hb⟩], ⟨List.getElem?_set_self hl5, hR, h3.kept, ?_, ?_, a2, hor, by simpa using a7⟩⟩, ?_⟩
  ·rw [List.map_append, h3.pm, q3]; rfl
  ·have := zbZ a3 (H' := H5.set os (some (.cells [I (deedS s).2.cap, a', b', c, d, r, I (deedS s).2.made, I (deedS s).2.armed, B (deedS s).2.off]))) fun i q => List.getElem?_set_ne (fun e => hor (by rw [e]; exact q))
   simpa using this
  ·have f5 : StF os p r H4 (H5.set os (some (.cells [I (deedS s).2.cap, a', b', c, d, r, I (deedS s).2.made, I (deedS s).2.armed, B (deedS s).2.off]))) := ⟨by simpa using a4, fun j hj hne hjp => by rw [List.getElem?_set_ne (Ne.symm hne), a5 j hj hjp], a6⟩
   exact ((StF.of_grew g).trans f3).trans (f4.trans f5))
/-! reading -/
def freeS (s : StS) : Int := max 0 (s.cap - sumL s.now.2)
theorem sumL_few {M : Nat} {i : Img} (h : Few1 M i) : sumL i.2 ≤ 16 * M := by
 have h1 := sumL_le h.2
 have h2 := h.1.len2
 exact Nat.le_trans h1 (Nat.mul_le_mul_right _ h2)
theorem Free_c {N : Nat} {s : StS} {os : Nat} {p : AV} {H : AH} (h : StAt s os p H) (hw : SW N s) (hN : N ≤ 900000) : BCall Try.prog 15 [.ptr os 0] H (I (freeS s)) H := by
 obtain ⟨r, H', ⟨rfl, rfl⟩, hc⟩ := store_Store_Free_ok (a0 := .ptr os 0) (H := H) (K := fun r H' => r = I (freeS s) ∧ H' = H) (by
  obtain ⟨a, b, c, d, pv, h⟩ := h
  unfold zioZ
  have hu := Used_p h.now (hw.now.sm (by omega))
  rw [usedI_w hw.now.1] at hu
  have hs := sumL_few hw.now
  have hcap := hw.cap
  have e1 : abI .sub (I s.cap) (I (sumL s.now.2 : Int)) = some (I (s.cap - sumL s.now.2)) := abI_sub (by omega) (by omega)
  have e2 : amm imx [(.lit (.int .i64 0)), I (s.cap - sumL s.now.2)] = some (I (freeS s)) := by rw [amm_two, imx_eq, Int.max_comm]; rfl
  simp only [zlZ, bO_some, zxZ, Nat.zero_add, ald_ptr h.obj, zbiZ, List.getElem?_cons_zero, (rd9 _ _ _ _ _ _ _ _ _).1]
  refine bP_of hu ?_
  simp only [e1, bO_some, e2]
  exact ⟨by trivial, by trivial⟩)
 exact hc
def zduZ (s : StS) (ino : Int) : Cont × Int :=
 if s.off = true then ((0, []), 8) else if hasG s.now.1 s.now.2 ino then (((getN s.now.1 s.now.2 ino).size, (getN s.now.1 s.now.2 ino).l), 0) else ((0, []), 3)
theorem content_c {N : Nat} {s : StS} {os : Nat} {p : AV} {H : AH} (h : StAt s os p H) (hw : SW N s) (hN : N ≤ 900000) (ino : Int) :
  ∃ R, SV encE 9 (zduZ s ino).1.2 R ∧ ∃ r H', (r = .tup [.agg [I (zduZ s ino).1.1, R], I (zduZ s ino).2] ∧ Grew H H') ∧ BCall Try.prog 32 [.ptr os 0, I ino] H r H' := by
 obtain ⟨a, b, c, d, pv, h⟩ := h
 have e0 : abl [(.lit (.int .i64 0)), (.lit (.slice none 0 0))] [] = some (.agg [I 0, nilSl]) := rfl
 have g := Grew.app H [some (.cells [I 0, nilSl])]
 cases ho : s.off with
 | true =>
  have e : zduZ s ino = ((0, []), 8) := by unfold zduZ; rw [if_pos ho]
  rw [e]
  refine ⟨nilSl, SV.nil, zedZ ?_⟩
  unfold zdfZ
  simp only [nwC, bH_some, zlZ, bO_some, zxZ, Nat.zero_add, ald_ptr (g.cells h.obj), zbiZ, List.getElem?_cons_succ, List.getElem?_cons_zero, ho, bB_bool, bI_true, e0, stC' H 0 (R := nilSl) rfl, bS_some, ald_ptr top1, rd2]
  exact ⟨by trivial, Grew.app _ _⟩
 | false =>
  have sm := hw.now.sm (by omega)
  obtain ⟨R, hR, hp⟩ := Get_p h.now sm ino
  have oR := SV.oneA hR
  by_cases hg : hasG s.now.1 s.now.2 ino
  ·have e : zduZ s ino = (((getN s.now.1 s.now.2 ino).size, (getN s.now.1 s.now.2 ino).l), 0) := by unfold zduZ; rw [if_neg (by rw [ho]; simp), if_pos hg]
   rw [e]
   refine ⟨R, hR, zedZ ?_⟩
   unfold zdfZ
   simp only [nwC, bH_some, zlZ, bO_some, zxZ, Nat.zero_add, ald_ptr (g.cells h.obj), zbiZ, List.getElem?_cons_succ, List.getElem?_cons_zero, ho, bB_bool, zwZ, (rd9 _ _ _ _ _ _ _ _ _).1]
   refine bP_pure hp ?_
   have g2 := Grew.app (H ++ [some (AObj.cells [I 0, nilSl])]) [some (AObj.cells [I (getN s.now.1 s.now.2 ino).size, R])]
   have e5 : ast 2 (H ++ [some (AObj.cells [I 0, nilSl])] ++ [some (AObj.cells [I (getN s.now.1 s.now.2 ino).size, R])]) (.ptr H.length 0) (.agg [I (getN s.now.1 s.now.2 ino).size, R]) = some (H ++ [some (AObj.cells [I (getN s.now.1 s.now.2 ino).size, R])] ++ [some (AObj.cells [I (getN s.now.1 s.now.2 ino).size, R])]) := by
    rw [ast_ptr (n := 2) (xs := [I (getN s.now.1 s.now.2 ino).size, R]) (cs := [I 0, nilSl]) (by simp [oR]) (g2.cells top1) rfl (by simp)]
    simp [splice]
   have g3 := Grew.app (H ++ [some (AObj.cells [I (getN s.now.1 s.now.2 ino).size, R])]) [some (AObj.cells [I (getN s.now.1 s.now.2 ino).size, R])]
   simp only [zddZ, List.getElem?_cons_succ, List.getElem?_cons_zero, bO_some, nwC, bH_some, stC' _ _ oR, bS_some, hg, decide_true, aun_not, Bool.not_true, bB_bool, zwZ, ald_ptr top1, rd2, e5, ald_ptr (g3.cells top1)]
   exact ⟨by trivial, (Grew.app H _).trans g3⟩
  ·have e : zduZ s ino = ((0, []), 3) := by unfold zduZ; rw [if_neg (by rw [ho]; simp), if_neg hg]
   rw [e]
   refine ⟨nilSl, SV.nil, zedZ ?_⟩
   unfold zdfZ
   simp only [nwC, bH_some, zlZ, bO_some, zxZ, Nat.zero_add, ald_ptr (g.cells h.obj), zbiZ, List.getElem?_cons_succ, List.getElem?_cons_zero, ho, bB_bool, zwZ, (rd9 _ _ _ _ _ _ _ _ _).1]
   refine bP_pure hp ?_
   have g2 := Grew.app (H ++ [some (AObj.cells [I 0, nilSl])]) [some (AObj.cells [I (getN s.now.1 s.now.2 ino).size, R])]
   have e5 : ast 2 (H ++ [some (AObj.cells [I 0, nilSl])] ++ [some (AObj.cells [I (getN s.now.1 s.now.2 ino).size, R])]) (.ptr H.length 0) (.agg [I 0, nilSl]) = some (H ++ [some (AObj.cells [I 0, nilSl])] ++ [some (AObj.cells [I (getN s.now.1 s.now.2 ino).size, R])]) := by
    rw [ast_ptr (n := 2) (xs := [I 0, nilSl]) (cs := [I 0, nilSl]) rfl (g2.cells top1) rfl (by simp)]
    simp [splice]
   simp only [zddZ, List.getElem?_cons_succ, List.getElem?_cons_zero, bO_some, nwC, bH_some, stC' _ _ oR, bS_some, hg, decide_false, aun_not, Bool.not_false, bB_bool, bI_true, e0, e5, ald_ptr (g2.cells top1), rd2]
   exact ⟨by trivial, g.trans g2⟩
def findS (s : StS) (name : List UInt8) : Int × Int :=
 if s.off = true then (0, 8) else if ¬ mayN name then (0, 5) else if hasK Nm.name s.now.1 name then (nameI s.now.1 name, 0) else (0, 3)
theorem find_c {N : Nat} {s : StS} {os : Nat} {p : AV} {H : AH} (h : StAt s os p H) (hw : SW N s) (hN : N ≤ 900000) {name : List UInt8} (hn : name.length ≤ 9223372036854775807) :
  BCall Try.prog 30 [.ptr os 0, S (bstr name)] H (.tup [I (findS s name).1, I (findS s name).2]) H := by
 obtain ⟨r, H', ⟨rfl, rfl⟩, hc⟩ := store_Store_find_ok (a0 := .ptr os 0) (a1 := S (bstr name)) (H := H) (K := fun r H' => r = .tup [I (findS s name).1, I (findS s name).2] ∧ H' = H) (by
  obtain ⟨a, b, c, d, pv, h⟩ := h
  unfold zihZ
  unfold findS
  simp only [zlZ, bO_some, zxZ, Nat.zero_add, ald_ptr h.obj, zbiZ, List.getElem?_cons_succ, List.getElem?_cons_zero, bB_bool]
  cases ho : s.off with
  | true => simp only [if_true, bI_true]; exact ⟨by trivial, by trivial⟩
  | false =>
   simp only [zwZ, Bool.false_eq_true, if_false]
   refine bP_pure (MayName_p hn) ?_
   by_cases hm : mayN name
   ·simp only [hm, decide_true, aun_not, Bool.not_true, bO_some, bB_bool, zwZ, not_true_eq_false, if_false]
    have hf := Find_p h.now (hw.now.sm (by omega)) name
    obtain ⟨w1, w2⟩ := findI_w hw.now.1 name
    rw [w1, show decide (hasI s.now.1 s.now.2 name) = decide (hasK Nm.name s.now.1 name) from decide_eq_decide.2 w2] at hf
    simp only [zlZ, bO_some, zxZ, Nat.zero_add, ald_ptr h.obj, (rd9 _ _ _ _ _ _ _ _ _).1]
    refine bP_pure hf ?_
    by_cases hk : hasK Nm.name s.now.1 name
    ·simp only [zddZ, List.getElem?_cons_succ, List.getElem?_cons_zero, bO_some, hk, decide_true, aun_not, Bool.not_true, bB_bool, zwZ, if_true]
     exact ⟨by trivial, by trivial⟩
    ·simp only [zddZ, List.getElem?_cons_succ, List.getElem?_cons_zero, bO_some, hk, decide_false, aun_not, Bool.not_false, bB_bool, bI_true, if_false]
     exact ⟨by trivial, by trivial⟩
   ·simp only [hm, decide_false, aun_not, Bool.not_false, bO_some, bB_bool, bI_true, not_false_eq_true, if_true]
    exact ⟨by trivial, by trivial⟩)
 exact hc
end Go.Proofs.Ytofgloiebnppbaa.Av
end
/-! YtofgloiebnppbaaAvSv -/
section
/- Chapter 13: a store's calls but Write, Sync, Restart. -/
set_option linter.unusedVariables false
set_option linter.unusedSimpArgs false
set_option maxRecDepth 100000
namespace Go.Proofs.Ytofgloiebnppbaa.Av
open Go Go.RowKit

def opCre (name : List UInt8) (i : Int) : OpM := ⟨1, i, 0, 0, false, name, [], []⟩
def opRen (name to : List UInt8) : OpM := ⟨6, 0, 0, 0, false, name, to, []⟩
def opTr (ino size : Int) : OpM := ⟨3, ino, 0, size, false, [], [], []⟩
theorem opTr_b (ino size : Int) : OpB (opTr ino size) := ⟨by simp [opTr], by simp [opTr], by simp [opTr]⟩
/-! Open -/
def openS (s : StS) (name : List UInt8) (make : Bool) : (Int × Int) × StS :=
 if (findS s name).2 ≠ 3 ∨ make = false then (findS s name, s)
 else if 16 ≤ s.now.1.length then ((0, 4), s)
 else if (doS s (opCre name (s.made + 1))).1 ≠ 0 then ((0, (doS s (opCre name (s.made + 1))).1), (doS s (opCre name (s.made + 1))).2)
 else ((s.made + 1, 0), { (doS s (opCre name (s.made + 1))).2 with made := s.made + 1 })
theorem findS_3 {s : StS} {name : List UInt8} (h : (findS s name).2 = 3) : mayN name ∧ ¬ hasK Nm.name s.now.1 name ∧ s.off = false := by
 unfold findS at h
 split at h
 ·simp at h
 ·split at h
  ·simp at h
  ·split at h
   ·simp at h
   ·rename_i h1 h2 h3
    exact ⟨Decidable.byContradiction h2, h3, by simpa using h1⟩
theorem findS_0 {s : StS} {name : List UInt8} (h : (findS s name).2 = 0) : mayN name ∧ hasK Nm.name s.now.1 name ∧ s.off = false ∧ (findS s name).1 = nameI s.now.1 name := by
 unfold findS at h ⊢
 split at h
 ·simp at h
 ·split at h
  ·simp at h
  ·split at h
   ·rename_i h1 h2 h3
    rw [if_neg h1, if_neg h2, if_pos h3]
    exact ⟨Decidable.byContradiction h2, h3, by simpa using h1, rfl⟩
   ·simp at h
theorem openS_w {N : Nat} {s : StS} (h : SW N s) (name : List UInt8) (make : Bool) : SW (N + 1) (openS s name make).2 := by
 unfold openS
 split
 ·exact h.mono (by omega)
 ·rename_i hf
  have hn : mayN name := (findS_3 (Decidable.byContradiction fun q => hf (.inl q))).1
  have ho : OpB (opCre name (s.made + 1)) := ⟨by simp [opCre], hn.2.1, by simp [opCre]⟩
  have hd := doS_w h ho
  have hwt : wt (opCre name (s.made + 1)) = 1 := rfl
  rw [hwt] at hd
  split
  ·exact h.mono (by omega)
  ·split
   ·exact hd
   ·exact ⟨hd.now, hd.kept, hd.ob, by simp only; have := h.made; omega, hd.cap, hd.armed⟩
theorem Open_c {N : Nat} {s : StS} {os : Nat} {p : AV} {H : AH} (h : StAt s os p H) (hw : SW N s) (hN : N < 900000) {name : List UInt8} (hn : name.length ≤ 9223372036854775807) (make : Bool) :
  ∃ r H', (r = .tup [I (openS s name make).1.1, I (openS s name make).1.2] ∧ ∃ p', StAt (openS s name make).2 os p' H' ∧ StF os p p' H H') ∧ BCall Try.prog 10 [.ptr os 0, S (bstr name), B make] H r H' := store_Store_Open_ok (by
 unfold zilZ
 refine bC_of (find_c h hw (by omega) hn) ?_
 have hmade := hw.made
 simp only [zddZ, List.getElem?_cons_succ, List.getElem?_cons_zero, bO_some, abI_neq, bG_bool]
 by_cases h3 : (findS s name).2 = 3
 ·obtain ⟨hm, hk, hoff⟩ := findS_3 h3
  simp only [h3, ne_eq, not_true_eq_false, decide_false, beq_self_eq_true, gO_true, bO_some, aun_not, zdlZ, if_false, Bool.false_eq_true, bB_bool]
  cases make with
  | false =>
   have e : openS s name false = (findS s name, s) := by unfold openS; rw [if_pos (.inr rfl)]
   rw [e]
   simp only [Bool.not_false, bI_true]
   exact ⟨by rw [h3], p, h, .refl _ _ _⟩
  | true =>
   have hn0 : ¬ ((findS s name).2 ≠ 3 ∨ true = false) := by rintro (q | q); exact q h3; cases q
   have h' := h
   obtain ⟨a, b, c, d, pv, hc⟩ := h
   obtain ⟨a', b', dv, eab, sa, sb, -⟩ := hc.now
   injection eab with eab; injection eab with ea eb
   subst ea
   simp only [Bool.not_true, zwZ, zlZ, bO_some, zxZ, Nat.zero_add, Nat.add_zero, ald_ptr hc.obj, zbiZ, List.getElem?_cons_succ, List.getElem?_cons_zero, sa.len, abI_geq, bB_bool]
   by_cases h16 : 16 ≤ s.now.1.length
   ·have h16I : (16 : Int) ≤ (s.now.1.length : Int) := by omega
    have e : openS s name true = ((0, 4), s) := by unfold openS; rw [if_neg hn0, if_pos h16]
    rw [e]
    simp only [h16I, decide_true, bI_true]
    exact ⟨by trivial, p, h', .refl _ _ _⟩
   ·have h16I : ¬ (16 : Int) ≤ (s.now.1.length : Int) := by omega
    have ho : OpB (opCre name (s.made + 1)) := ⟨by simp [opCre], hm.2.1, by simp [opCre]⟩
    have e1 : abI .add (I s.made) (.lit (.int .i64 1)) = some (I (s.made + 1)) := abI_add (by omega) (by omega)
    have e2 : abl [(.lit (.int .i64 0)), (.lit (.int .i64 0)), (.lit (.int .i64 0)), (.lit (.int .i64 0)), (.lit (.bool false)), (.lit (.string ⟨#[]⟩)), (.lit (.string ⟨#[]⟩)), (.lit (.slice none 0 0))] [(0, 1, (.lit (.int .i64 1))), (5, 1, S (bstr name)), (1, 1, I (s.made + 1))] = some (.agg (opA (opCre name (s.made + 1)) nilSl)) := rfl
    simp only [h16I, decide_false, zwZ, zlZ, bO_some, zxZ, Nat.zero_add, ald_ptr hc.obj, zbiZ, List.getElem?_cons_succ, List.getElem?_cons_zero, e1, e2]
    obtain ⟨r, H2, ⟨rfl, p2, h2, f2⟩, hcall⟩ := do_c (bv := nilSl) h' hw (by omega) SV.nil ho
    refine bC_of hcall ?_
    simp only [abI_neq, bO_some, bB_bool]
    by_cases hd : (doS s (opCre name (s.made + 1))).1 = 0
    ·have e : openS s name true = ((s.made + 1, 0), { (doS s (opCre name (s.made + 1))).2 with made := s.made + 1 }) := by unfold openS; rw [if_neg hn0, if_neg h16, if_neg (by rw [hd]; simp)]
     rw [e]
     have emade : (doS s (opCre name (s.made + 1))).2.made = s.made := by
      obtain ⟨-, -, -, q4, -⟩ := deedS_same s
      unfold doS; split <;> exact q4
     obtain ⟨a2, b2, c2, d2, pv2, hc2⟩ := h2
     obtain ⟨h3', f3⟩ := hc2.set (s' := { (doS s (opCre name (s.made + 1))).2 with made := s.made + 1 }) hc2.now hc2.kept rfl
     have e3 : ast 1 H2 (.ptr os 6) (I (s.made + 1)) = some (H2.set os (some (.cells [I (doS s (opCre name (s.made + 1))).2.cap, a2, b2, c2, d2, p2, I (s.made + 1), I (doS s (opCre name (s.made + 1))).2.armed, B (doS s (opCre name (s.made + 1))).2.off]))) := fld hc2.obj (by simp) rfl
     have hob := hc2.obj
     rw [emade] at hob
     simp only [hd, ne_eq, not_true_eq_false, decide_false, zwZ, zlZ, bO_some, zxZ, Nat.zero_add, ald_ptr hob, zbiZ, List.getElem?_cons_succ, List.getElem?_cons_zero, e1, e3, bS_some, ald_ptr h3'.obj]
     exact ⟨by trivial, p2, ⟨a2, b2, c2, d2, pv2, h3'⟩, f2.trans f3⟩
    ·have e : openS s name true = ((0, (doS s (opCre name (s.made + 1))).1), (doS s (opCre name (s.made + 1))).2) := by unfold openS; rw [if_neg hn0, if_neg h16, if_pos hd]
     rw [e]
     simp only [hd, ne_eq, not_false_eq_true, decide_true, bI_true]
     exact ⟨by trivial, p2, h2, f2⟩
 ·have e : openS s name make = (findS s name, s) := by unfold openS; rw [if_pos (.inl h3)]
  rw [e]
  simp only [h3, ne_eq, not_false_eq_true, decide_true, show ((true == false) = false) from rfl, gO_false, bO_some, zdlZ, if_true, bB_bool, bI_true]
  exact ⟨by trivial, p, h, .refl _ _ _⟩)
/-! Truncate -/
def truncS (s : StS) (ino size : Int) : Int × StS :=
 if (zduZ s ino).2 ≠ 0 then ((zduZ s ino).2, s) else if truncC (zduZ s ino).1 size = none then (5, s) else doS s (opTr ino size)
theorem truncS_w {N : Nat} {s : StS} (h : SW N s) (ino size : Int) : SW (N + 1) (truncS s ino size).2 := by
 unfold truncS
 split
 ·exact h.mono (by omega)
 ·split
  ·exact h.mono (by omega)
  ·exact doS_w h (opTr_b ino size)
theorem content_len {N : Nat} {s : StS} (h : SW N s) (ino : Int) : (zduZ s ino).1.2.length ≤ N := by
 unfold zduZ
 split
 ·simp
 ·split
  ·rename_i hg
   obtain ⟨d, hd, rfl⟩ := hg.2
   rw [(getN_w h.now.1 hd).1]
   exact h.now.2 d hd
  ·simp
theorem Trunc_c {N : Nat} {s : StS} {os : Nat} {p : AV} {H : AH} (h : StAt s os p H) (hw : SW N s) (hN : N < 900000) (ino size : Int) :
  ∃ r H', (r = I (truncS s ino size).1 ∧ ∃ p', StAt (truncS s ino size).2 os p' H' ∧ StF os p p' H H') ∧ BCall Try.prog 27 [.ptr os 0, I ino, I size] H r H' := zlcZ (by
 unfold zfqZ
 obtain ⟨R, hR, r, H1, ⟨rfl, g1⟩, hc⟩ := content_c h hw (by omega) ino
 have hlen := content_len hw ino
 refine bC_of hc ?_
 unfold truncS
 generalize zduZ s ino = ct at *
 have oR := SV.oneA hR
 have h1 := h.grew g1
 have g2 := Grew.app H1 [some (.cells [I ct.1.1, R])]
 have h2 := h1.grew g2
 simp only [zddZ, List.getElem?_cons_succ, List.getElem?_cons_zero, bO_some, nwC, bH_some, stC' _ _ oR, bS_some, abI_neq, bB_bool]
 by_cases hc0 : ct.2 = 0
 ·simp only [hc0, ne_eq, not_true_eq_false, decide_false, zwZ, if_false, ald_ptr top1, rd2, bO_some]
  obtain ⟨R2, hR2, hp⟩ := zksZ (size0 := ct.1.1) hR (by omega) size
  refine bP_pure hp ?_
  have oR2 := SV.oneA hR2
  have g3 := Grew.app (H1 ++ [some (AObj.cells [I ct.1.1, R])]) [some (.cells [I (cS (truncC (ct.1.1, ct.1.2) size)), R2])]
  have h3 := h2.grew g3
  have ff : StF os p p H (H1 ++ [some (AObj.cells [I ct.1.1, R])] ++ [some (.cells [I (cS (truncC (ct.1.1, ct.1.2) size)), R2])]) := .of_grew ((g1.trans g2).trans g3)
  simp only [zddZ, List.getElem?_cons_succ, List.getElem?_cons_zero, bO_some, nwC, bH_some, stC' _ _ oR2, bS_some, aun_not, bB_bool]
  cases ht : truncC (ct.1.1, ct.1.2) size with
  | none =>
   have ht' : truncC ct.1 size = none := ht
   rw [ht] at h3 ff
   simp only [Option.isSome_none, Bool.not_false, bI_true, ht', if_true]
   exact ⟨by trivial, p, h3, ff⟩
  | some c2 =>
   have ht' : ¬ truncC ct.1 size = none := by rw [show truncC ct.1 size = some c2 from ht]; simp
   rw [ht] at h3 ff
   have e2 : abl [(.lit (.int .i64 0)), (.lit (.int .i64 0)), (.lit (.int .i64 0)), (.lit (.int .i64 0)), (.lit (.bool false)), (.lit (.string ⟨#[]⟩)), (.lit (.string ⟨#[]⟩)), (.lit (.slice none 0 0))] [(0, 1, (.lit (.int .i64 3))), (1, 1, I ino), (3, 1, I size)] = some (.agg (opA (opTr ino size) nilSl)) := rfl
   simp only [Option.isSome_some, Bool.not_true, zwZ, ht', if_false, e2, bO_some]
   obtain ⟨r, H2, ⟨rfl, p2, h4, f4⟩, hcall⟩ := do_c (bv := nilSl) (o := opTr ino size) h3 hw (by omega) SV.nil (opTr_b ino size)
   exact bC_of hcall ⟨rfl, p2, h4, ff.trans f4⟩
 ·simp only [hc0, ne_eq, not_false_eq_true, decide_true, bI_true, if_true]
  exact ⟨by trivial, p, h2, .of_grew (g1.trans g2)⟩)
/-! Rename, Remove -/
def renS (s : StS) (name to : List UInt8) : Int × StS :=
 if s.off = false ∧ ¬ mayN to then (5, s) else if (findS s name).2 ≠ 0 ∨ name = to then ((findS s name).2, s) else doS s (opRen name to)
theorem renS_ob {s : StS} {name to : List UInt8} (h1 : ¬ (s.off = false ∧ ¬ mayN to)) (h2 : ¬ ((findS s name).2 ≠ 0 ∨ name = to)) : OpB (opRen name to) := by
 obtain ⟨a1, a2, a3, -⟩ := findS_0 (Decidable.byContradiction fun q => h2 (.inl q))
 have : mayN to := Decidable.byContradiction fun q => h1 ⟨a3, q⟩
 exact ⟨by simp [opRen], a1.2.1, this.2.1⟩
theorem Rename_c {N : Nat} {s : StS} {os : Nat} {p : AV} {H : AH} (h : StAt s os p H) (hw : SW N s) (hN : N < 900000) {name to : List UInt8} (hn : name.length ≤ 9223372036854775807) (ht : to.length ≤ 9223372036854775807) :
    ∃ r H', (r = I (renS s name to).1 ∧ ∃ p', StAt (renS s name to).2 os p' H' ∧ StF os p p' H H') ∧ BCall Try.prog 28 [.ptr os 0, S (bstr name), S (bstr to)] H r H' := zmgZ (by
  unfold zhbZ
  have h' := h
  obtain ⟨a, b, c, d, pv, hc⟩ := h
  have rest : ¬ (s.off = false ∧ ¬ mayN to) → bC (BCall Try.prog 30 [.ptr os 0, S (bstr name)] H) fun v12 H13 =>
      bO (zkZ v12 0) fun v14 =>
      bO (zkZ v12 1) fun v15 =>
      bO (abI .neq v15 (.lit (.int .i64 0))) fun v16 =>
      bG v16 false fun w17 =>
      gO w17 (some (S (bstr name))) fun v18 =>
      bG v16 false fun w19 =>
      gO w19 (some (S (bstr to))) fun v20 =>
      bG v16 false fun w21 =>
      gO w21 (abT .eql v18 v20) fun v22 =>
      bO (apick v16 (.lit (.bool true)) v22) fun v23 =>
      bB v23 fun t24 => bI t24 (
      v15 = I (renS s name to).1 ∧ ∃ p', StAt (renS s name to).2 os p' H13 ∧ StF os p p' H H13)
       (bO (abl [(.lit (.int .i64 0)), (.lit (.int .i64 0)), (.lit (.int .i64 0)), (.lit (.int .i64 0)), (.lit (.bool false)), (.lit (.string ⟨#[]⟩)), (.lit (.string ⟨#[]⟩)), (.lit (.slice none 0 0))] [(0, 1, (.lit (.int .i64 6))), (5, 1, S (bstr name)), (6, 1, S (bstr to))]) fun v25 =>
      bC (BCall Try.prog 31 [.ptr os 0, v25] H13) fun v26 H27 =>
      v26 = I (renS s name to).1 ∧ ∃ p', StAt (renS s name to).2 os p' H27 ∧ StF os p p' H H27) := by
    intro hno
    refine bC_of (find_c h' hw (by omega) hn) ?_
    unfold renS
    rw [if_neg hno]
    simp only [zddZ, List.getElem?_cons_succ, List.getElem?_cons_zero, bO_some, abI_neq, bG_bool]
    by_cases h0 : (findS s name).2 = 0
    · have eT : abT .eql (S (bstr name)) (S (bstr to)) = some (B (decide (name = to))) := abT_eql
      simp only [h0, ne_eq, not_true_eq_false, decide_false, beq_self_eq_true, gO_true, bO_some, eT, zdlZ, if_false, Bool.false_eq_true, bB_bool, false_or]
      by_cases he : name = to
      · simp only [he, decide_true, bI_true, if_true]
        exact ⟨by trivial, p, h', .refl _ _ _⟩
      · have e2 : abl [(.lit (.int .i64 0)), (.lit (.int .i64 0)), (.lit (.int .i64 0)), (.lit (.int .i64 0)), (.lit (.bool false)), (.lit (.string ⟨#[]⟩)), (.lit (.string ⟨#[]⟩)), (.lit (.slice none 0 0))] [(0, 1, (.lit (.int .i64 6))), (5, 1, S (bstr name)), (6, 1, S (bstr to))] = some (.agg (opA (opRen name to) nilSl)) := rfl
        simp only [he, decide_false, zwZ, if_false, e2, bO_some]
        obtain ⟨r, H2, ⟨rfl, p2, h4, f4⟩, hcall⟩ := do_c (bv := nilSl) (o := opRen name to) h' hw (by omega) SV.nil (renS_ob hno (by rintro (q | q); exact q h0; exact he q))
        exact bC_of hcall ⟨rfl, p2, h4, f4⟩
    · simp only [h0, ne_eq, not_false_eq_true, decide_true, show ((true == false) = false) from rfl, gO_false, bO_some, zdlZ, if_true, bB_bool, bI_true, true_or]
      exact ⟨by trivial, p, h', .refl _ _ _⟩
  simp only [zlZ, bO_some, zxZ, Nat.zero_add, ald_ptr hc.obj, zbiZ, List.getElem?_cons_succ, List.getElem?_cons_zero, aun_not, bG_bool]
  cases ho : s.off with
  | true =>
    simp only [Bool.not_true, show ((false == true) = false) from rfl, gO_false, gP_false, bO_some, zdlZ, if_false, Bool.false_eq_true, bB_bool, zwZ]
    exact rest (fun hh => by rw [ho] at hh; cases hh.1)
  | false =>
    simp only [Bool.not_false, beq_self_eq_true, gO_true, gP_true, bO_some]
    refine bP_pure (MayName_p ht) ?_
    by_cases hm : mayN to
    · simp only [hm, decide_true, aun_not, Bool.not_true, bO_some, zdlZ, if_true, bB_bool, zwZ]
      exact rest (fun hh => hh.2 hm)
    · simp only [hm, decide_false, aun_not, Bool.not_false, bO_some, zdlZ, if_true, bB_bool, bI_true]
      unfold renS
      rw [if_pos ⟨ho, hm⟩]
      exact ⟨rfl, p, h', .refl _ _ _⟩)
/-! Read -/
end Go.Proofs.Ytofgloiebnppbaa.Av
end
/-! YtofgloiebnppbaaAvSw -/
section
/- Chapter 13: Write. -/
set_option linter.unusedVariables false
set_option linter.unusedSimpArgs false
set_option maxRecDepth 100000
namespace Go.Proofs.Ytofgloiebnppbaa.Av
open Go Go.RowKit

theorem old_eq {N : Nat} {X : AH} {o : Nat} (hN : N ≤ o) : (old N X)[o]? = X[o]? := by
 unfold old
 rw [List.getElem?_append_right (by simpa using hN), List.length_replicate, List.getElem?_drop, show N + (o - N) = o by omega]
theorem BCall.fzS {P : Program} {f : FuncId} {args : List AV} {H X : AH} {r : AV} {sz m : Nat} {cs : List AV} (h : BCall P f args H r X) (g : Grew H X) (hs : zaZ X sz r = some (cs, m)) (hi : ∀ i ∈ idS r, H.length ≤ i) (hn : noIdss cs = true) :
  ∃ R, (noIds R = true ∧ ∀ H, zaZ H sz R = some (cs, m)) ∧ BCall P f args H R H := by
 have hs2 : zaZ (old H.length X) sz r = some (cs, m) := zbZ hs fun i q => old_eq (hi i q)
 obtain ⟨R, n0, h1, h2, h3⟩ := frz_slice hs2 hn
 refine ⟨R, ⟨h1, h2⟩, ACalls.fzNew (R' := fun r' => r' = R) h ?_⟩
 rintro r1 H1 ⟨rfl, rfl⟩
 exact ⟨g.1, g.2, n0, R, h3 n0 (Nat.le_refl _), rfl⟩
theorem cloneB_z {H : AH} {v : AV} {l : List UInt8} (h : zaZ H 1 v = some (encB l, l.length)) (hl : l.length ≤ 1000000000) : ∃ R, SV encU 1 l R ∧ BCall Try.prog 36 [v] H R H := by
 obtain ⟨r, X, ⟨hs, g, hi⟩, hc⟩ := zjcZ (a0 := v) (H := H) (K := fun r X => zaZ X 1 r = some (encB l, l.length) ∧ Grew H X ∧ ∀ i ∈ idS r, H.length ≤ i) (by
  unfold zdtZ
  rcases nilS_slice h with ⟨rfl, e1, e2⟩ | hb
  ·have e : abN .eql nilS nilSl nilSl = some (B true) := rfl
   simp only [e, bO_some, bB_bool, bI_true]
   exact ⟨h, Grew.refl H, by simp [idS]⟩
  ·simp only [hb, bO_some, bB_bool, zwZ]
   have e : absl H 1 0 (zrow [(.lit (.int .u8 0))] 0) [] = some (.sl H.length 0 0 1 (.ex 0), H ++ [some (.cells [])]) := rfl
   simp only [e, bH_some]
   have g := Grew.app H [some (.cells [])]
   have h0 : zaZ (H ++ [some (.cells [])]) 1 (.sl H.length 0 0 1 (.ex 0)) = some ([], 0) := by simp [zaZ]
   obtain ⟨r, H2, a1, a2, a3, a4, a5, a6⟩ := aap_spec (sz := 1) (bytes := 1) (H := H ++ [some (.cells [])]) (v := .sl H.length 0 0 1 (.ex 0)) (cs := []) (n := 0) h0 rfl (ztZ (g.slice h)) (by omega)
   simp only [a1, bH_some]
   refine ⟨by simpa using a3, ⟨by simp at a4; omega, fun i hi => ?_⟩, fun i hi => ?_⟩
   ·rw [a5 i (by simp; omega) (by simp [idS]; omega)]
    exact g.2 i hi
   ·rcases a6 i hi with h | h
    ·simp [idS] at h; omega
    ·simp at h; omega)
 obtain ⟨R, ⟨h1, h2⟩, h3⟩ := BCall.fzS hc g hs hi (noIdss_encB _)
 exact ⟨R, ⟨h1, fun H => by rw [h2 H, flat_encU]⟩, h3⟩
/-! has -/
theorem goF_has : goFunc Try.prog 52 = true := by kernel_rfl
theorem has1_p (x : Ext) (no : Int) : BPure Try.prog 52 [.agg (encE x), .ip [I no]] (B (decide (x.no = no))) := BPure.val (by simp [noIdss, noIds, ziuZ]) rfl (store_has_1_ok (by
 unfold store_has_1
 have e1 : anew [] (.agg (encE x)) = some (.ptr 0 0, [some (.cells (encE x))]) := by simp
 have e2 : (encE x)[0]? = some (I x.no) := rfl
 have e3 : ([some (.cells (encE x))] : AH)[0]? = some (some (.cells (encE x))) := rfl
 simp only [e1, bH_some, zxZ, Nat.zero_add, bO_some, ald_ptr e3, zbiZ, e2, ald_ip, List.getElem?_cons_zero, abI_eql]
 try trivial))
theorem rdh_E (x : Ext) (t : List AV) : rdCells true 9 (encE x ++ t) 0 = some (.agg (encE x)) := by
 have := zbxZ x
 simp only [rdCells, if_true, List.length_append, this, List.drop_zero]
 rw [if_pos (by omega), List.take_append_of_le_length (by omega), List.take_of_length_le (by omega)]
theorem idxHas_p {l : List Ext} {v : AV} (hv : SV encE 9 l v) (hl : l.length ≤ 281474976710656) (no : Int) : ∃ j : Int, (0 ≤ j ↔ hasL l no) ∧ BPure Try.prog 75 [v, .fn (.func 52) [] [.ip [I no]]] (I j) := by
 have key : ∃ r X, (∃ j : Int, r = I j ∧ (0 ≤ j ↔ hasL l no)) ∧ BCall Try.prog 75 [v, .fn (.func 52) [] [.ip [I no]]] [] r X := zcqZ (by
  unfold zbcZ
  simp only [hv.len, bO_some]
  refine zbtZ (fun n x0 x1 x7 x8 H' => ∃ k : Nat, k + n = l.length ∧ x0 = v ∧ x1 = .fn (.func 52) [] [.ip [I no]] ∧ x7 = I l.length ∧ x8 = I k ∧ ∀ (m : Nat) y, m < k → l[m]? = some y → y.no ≠ no) ?_ l.length ⟨0, by omega, rfl, rfl, rfl, rfl, by omega⟩
  rintro n x0 x1 x7 x8 H R hR ⟨k, hk, rfl, rfl, rfl, rfl, hb⟩
  unfold zqZ
  rcases Nat.lt_or_ge k l.length with h | h
  ·have hx := List.getElem?_eq_getElem h
   generalize l[k] = y at hx
   have kI : (k : Int) < (l.length : Int) := by omega
   simp only [abI_lss, bO_some, bB_bool, kI, decide_true, bI_true, hv.idx zbxZ hx rfl, ald_ip, rdh_E, bF_fn, goF_has, Bool.true_or, bT_true, List.nil_append, List.cons_append]
   refine bC_of (has1_p y no H) ?_
   simp only [bB_bool]
   by_cases c : y.no = no
   ·simp only [c, decide_true, bI_true]
    exact ⟨k, rfl, by simp only [Int.natCast_nonneg, true_iff]; exact ⟨y, List.mem_of_getElem? hx, c⟩⟩
   ·simp only [c, decide_false, zwZ, abI_add (a := k) (b := 1) (by omega) (by omega), bO_some]
    refine hR (n - 1) _ _ _ _ _ (by omega) ⟨k + 1, by omega, rfl, rfl, rfl, by simp, ?_⟩
    intro m z hm hz
    by_cases e : m = k
    ·rw [e, hx] at hz; injection hz with hz; rw [← hz]; exact c
    ·exact hb m z (by omega) hz
  ·have kI : ¬ (k : Int) < (l.length : Int) := by omega
   simp only [abI_lss, bO_some, bB_bool, kI, decide_false, zwZ]
   refine ⟨-1, rfl, by simp only [show ¬ (0 : Int) ≤ -1 by omega, false_iff]; rintro ⟨y, hy, e⟩; obtain ⟨m, hm⟩ := List.mem_iff_getElem?.1 hy; exact hb m y (by have := (List.getElem?_eq_some_iff.1 hm).1; omega) hm e⟩)
 obtain ⟨r, X, ⟨j, rfl, hj⟩, hc⟩ := key
 exact ⟨j, hj, BPure.val (by simp [noIdss, noIds, hv.1]) rfl ⟨_, _, rfl, hc⟩⟩
theorem Contains_p {l : List Ext} {v : AV} (hv : SV encE 9 l v) (hl : l.length ≤ 281474976710656) (no : Int) : BPure Try.prog 51 [v, .fn (.func 52) [] [.ip [I no]]] (B (decide (hasL l no))) := by
 obtain ⟨j, hj, hp⟩ := idxHas_p hv hl no
 refine BPure.flat fun H => zegZ ?_
 unfold zboZ
 refine bP_pure hp ?_
 simp only [abI_geq, bO_some]
 exact ⟨by congr 3; exact propext hj, by trivial⟩
theorem has_p {size : Int} {l : List Ext} {v : AV} (hv : SV encE 9 l v) (hl : l.length ≤ 281474976710656) (no : Int) : BPure Try.prog 35 [.agg [I size, v], I no] (B (decide (hasL l no))) := BPure.val (by simp [noIdss, noIds, hv.1]) rfl (store_has_ok (by
 have ov := SV.oneA hv
 unfold store_has
 have e1 : anew [] (.agg [I size, v]) = some (.ptr 0 0, [some (.cells [I size, v])]) := by simp [ov]
 have e2 : anew [some (.cells [I size, v])] (I no) = some (.ptr 1 0, [some (.cells [I size, v]), some (.cells [I no])]) := rfl
 have e3 : ([some (.cells [I size, v]), some (.cells [I no])] : AH)[0]? = some (some (.cells [I size, v])) := rfl
 simp only [e1, bH_some, e2, zxZ, Nat.zero_add, bO_some, ald_ptr e3, zbiZ, List.getElem?_cons_succ, List.getElem?_cons_zero]
 have hf : FZs [some (.cells [I size, v]), some (.cells [I no])] [v, .fn (.func 52) [] [.ptr 1 0]] [v, .fn (.func 52) [] [.ip [I no]]] := by
  refine FZs.cons (FZ.same hv.1) (FZs.cons ⟨3, fun n hn => ?_⟩ FZs.nil)
  obtain ⟨n, rfl⟩ : ∃ m, n = m + 3 := ⟨n - 3, by omega⟩
  rfl
 refine bP_of (PCall.lend hf rfl (Contains_p hv hl no)) ?_
 try trivial))
/-! the parts of what is written -/
theorem cuts_in : ∀ {f : Nat} {p n : Int} {q : Sp}, 0 ≤ p → q ∈ cutsS f p n 8 → p ≤ q.pos ∧ 0 < q.len ∧ q.len ≤ 8 ∧ q.pos + q.len ≤ p + n
 | 0, p, n, q, _, h => by simp [cutsS] at h
 | f + 1, p, n, q, hp, h => by
  unfold cutsS at h
  split at h
  ·rename_i hn
   have h1 := Int.emod_lt_of_pos p (show (0 : Int) < 8 by omega)
   have h2 := Int.emod_nonneg p (show (8 : Int) ≠ 0 by omega)
   rcases List.mem_cons.1 h with rfl | h
   ·simp only; omega
   ·have := cuts_in (by omega) h
    omega
  ·simp at h
def opWr (ino pos : Int) (b : List UInt8) : OpM := ⟨2, ino, pos, 0, false, [], [], b⟩
theorem opWr_b {ino pos : Int} {b : List UInt8} (h : b.length ≤ 8) : OpB (opWr ino pos b) := ⟨by show b.length ≤ _; omega, by simp [opWr], by simp [opWr]⟩
def partB (b : List UInt8) (pos : Int) (q : Sp) : List UInt8 := (b.drop (q.pos - pos).toNat).take q.len.toNat
def wrS (c : List Ext) (ino pos : Int) (b : List UInt8) : List Sp → StS → (Int × Int) × StS
 | [], s => ((b.length, 0), s)
 | q :: r, s =>
  if ¬ hasL c (q.pos / 8) ∧ freeS s = 0 then ((q.pos - pos, 4), s)
  else if (doS s (opWr ino q.pos (partB b pos q))).1 ≠ 0 then ((q.pos - pos, (doS s (opWr ino q.pos (partB b pos q))).1), (doS s (opWr ino q.pos (partB b pos q))).2)
  else wrS c ino pos b r (doS s (opWr ino q.pos (partB b pos q))).2
def fitsW (pos : Int) (n : Nat) : Prop := 0 ≤ pos ∧ n ≤ 4096 ∧ pos ≤ 1099511627776 - n
instance (pos : Int) (n : Nat) : Decidable (fitsW pos n) := by unfold fitsW; infer_instance
def writeS (s : StS) (ino pos : Int) (b : List UInt8) : (Int × Int) × StS :=
 if (zduZ s ino).2 ≠ 0 then ((0, (zduZ s ino).2), s) else if ¬ fitsW pos b.length then ((0, 5), s)
 else wrS (zduZ s ino).1.2 ino pos b (partsS ⟨pos, b.length⟩ 8) s
theorem parts_in {pos : Int} {b : List UInt8} {q : Sp} (hf : fitsW pos b.length) (h : q ∈ partsS ⟨pos, b.length⟩ 8) : pos ≤ q.pos ∧ 0 < q.len ∧ q.len ≤ 8 ∧ q.pos + q.len ≤ pos + b.length := by
 unfold partsS at h
 split at h
 ·exact cuts_in hf.1 h
 ·simp at h
theorem partB_len {b : List UInt8} {pos : Int} {q : Sp} (h : pos ≤ q.pos ∧ 0 < q.len ∧ q.len ≤ 8 ∧ q.pos + q.len ≤ pos + b.length) : (partB b pos q).length = q.len.toNat := by
 unfold partB
 rw [List.length_take, List.length_drop]; omega
theorem wrS_w {c : List Ext} {ino pos : Int} {b : List UInt8} : ∀ {l : List Sp} {N : Nat} {s : StS}, (∀ q ∈ l, pos ≤ q.pos ∧ 0 < q.len ∧ q.len ≤ 8 ∧ q.pos + q.len ≤ pos + b.length) → SW N s → SW (N + 9 * l.length) (wrS c ino pos b l s).2
 | [], N, s, _, h => h
 | q :: r, N, s, hq, h => by
  have h1 := hq q (by simp)
  have hl := partB_len h1
  have hd := doS_w (o := opWr ino q.pos (partB b pos q)) h (opWr_b (by omega))
  have hwt : wt (opWr ino q.pos (partB b pos q)) ≤ 9 := by
   show 1 + (partB b pos q).length + (if (2 : Int) = 4 then 4098 else 0) ≤ 9
   rw [if_neg (by omega)]; omega
  unfold wrS
  simp only [List.length_cons]
  split
  ·exact h.mono (by omega)
  ·split
   ·exact hd.mono (by omega)
   ·exact (wrS_w (fun x hx => hq x (by simp [hx])) hd).mono (by omega)
theorem parts_len {pos : Int} {b : List UInt8} (hf : fitsW pos b.length) : (partsS ⟨pos, b.length⟩ 8).length ≤ b.length := by
 unfold partsS
 split
 ·have : ∀ (f : Nat) (p n : Int), (cutsS f p n 8).length ≤ f := by
   intro f
   induction f with
   | zero => intro p n; simp [cutsS]
   | succ f ih =>
    intro p n
    unfold cutsS
    split
    ·simp only [List.length_cons]; have := ih (p + min n (8 - p % 8)) (n - min n (8 - p % 8)); omega
    ·simp
  have h2 := this (b.length : Int).toNat pos b.length
  have e : ((b.length : Int)).toNat = b.length := by omega
  simp only
  omega
 ·simp
theorem writeS_w {N : Nat} {s : StS} (h : SW N s) (ino pos : Int) (b : List UInt8) : SW (N + 9 * b.length) (writeS s ino pos b).2 := by
 unfold writeS
 split
 ·exact h.mono (by omega)
 ·split
  ·exact h.mono (by omega)
  ·rename_i hf
   have hf := Decidable.byContradiction hf
   exact (wrS_w (fun q hq => parts_in hf hq) h).mono (by have := parts_len hf; omega)
theorem Write_c {N : Nat} {s : StS} {os : Nat} {p v : AV} {H : AH} (h : StAt s os p H) (hw : SW N s) (ino pos : Int) {b : List UInt8} (hN : N + 9 * b.length < 900000) (hv : zaZ H 1 v = some (encB b, b.length)) (hvi : ∀ j ∈ idS v, j ≠ os ∧ j ∉ idS p) :
  ∃ r H', (r = .tup [I (writeS s ino pos b).1.1, I (writeS s ino pos b).1.2] ∧ ∃ p', StAt (writeS s ino pos b).2 os p' H' ∧ StF os p p' H H') ∧ BCall Try.prog 11 [.ptr os 0, I ino, I pos, v] H r H' := store_Store_Write_ok (by
 unfold zhhZ
 obtain ⟨R, hR, r, H1, ⟨rfl, g1⟩, hc⟩ := content_c h hw (by omega) ino
 have hlen := content_len hw ino
 refine bC_of hc ?_
 unfold writeS
 generalize zduZ s ino = ct at *
 have oR := SV.oneA hR
 have h1 := h.grew g1
 have g2 := Grew.app H1 [some (.cells [I ct.1.1, R])]
 have h2 := h1.grew g2
 have hv2 := g2.slice (g1.slice hv)
 have alv : alnS v = some (I b.length) := zjrZ hv
 simp only [zddZ, List.getElem?_cons_succ, List.getElem?_cons_zero, bO_some, nwC, bH_some, stC' _ _ oR, bS_some, abI_neq, bB_bool]
 by_cases hc0 : ct.2 = 0
 ·simp only [hc0, ne_eq, not_true_eq_false, decide_false, zwZ, if_false, alv, bO_some]
  refine bP_pure (extent_Fits_p pos b.length (by omega)) ?_
  by_cases hf : fitsW pos b.length
  ·have hf' : 0 ≤ pos ∧ b.length ≤ 4096 ∧ pos ≤ 1099511627776 - b.length := hf
   have e1 : abl [(.lit (.int .i64 0)), (.lit (.int .i64 0))] [(0, 1, I pos), (1, 1, I (b.length : Int))] = some (.agg (encSp ⟨pos, b.length⟩)) := rfl
   simp only [hf, hf', and_self, decide_true, aun_not, Bool.not_true, bO_some, bB_bool, zwZ, not_true_eq_false, if_false, alv, e1]
   obtain ⟨V, hV, hp⟩ := off_Parts_p ⟨pos, b.length⟩ (unit := 8) (by omega)
   refine bP_pure hp ?_
   simp only [hV.len, bO_some]
   have hin : ∀ q ∈ partsS ⟨pos, b.length⟩ 8, pos ≤ q.pos ∧ 0 < q.len ∧ q.len ≤ 8 ∧ q.pos + q.len ≤ pos + b.length := fun q hq => parts_in hf hq
   have hpl := parts_len hf
   generalize partsS ⟨pos, b.length⟩ 8 = L at hV hin hpl
   have c0 : (H1 ++ [some (AObj.cells [I ct.1.1, R])])[H1.length]? = some (some (.cells [I ct.1.1, R])) := top1
   have f0 : StF os p p H (H1 ++ [some (AObj.cells [I ct.1.1, R])]) := .of_grew (g1.trans g2)
   have hosH : os < H.length := by obtain ⟨a, b', c, d, pv, hx⟩ := h; exact hx.lt
   have hpH : ∀ j ∈ idS p, j < H.length := by obtain ⟨a, b', c, d, pv, hx⟩ := h; exact idS_lt hx
   have hvH : ∀ j ∈ idS v, j < H.length := fun j q => zoZ hv j q
   have hH1 : H.length ≤ H1.length := g1.1
   refine zjoZ (fun m x0 x1 x2 x3 x10 x36 x37 x38 H' => ∃ (k : Nat) (s' : StS) (p' : AV), k + m = L.length ∧ x0 = .ptr os 0 ∧ x1 = I ino ∧ x2 = I pos ∧ x3 = v ∧ x10 = .ptr H1.length 0 ∧ x36 = V ∧ x37 = I L.length ∧ x38 = I k ∧ StAt s' os p' H' ∧ StF os p p' H H' ∧ SW (N + 9 * k) s' ∧ H'[H1.length]? = some (some (.cells [I ct.1.1, R])) ∧ H1.length ∉ idS p' ∧ wrS ct.1.2 ino pos b (L.drop k) s' = wrS ct.1.2 ino pos b L s) ?_ L.length ⟨0, s, p, by omega, rfl, rfl, rfl, rfl, rfl, rfl, rfl, rfl, h2, f0, hw, c0, fun q => by have := hpH _ q; omega, rfl⟩
   rintro m x0 x1 x2 x3 x10 x36 x37 x38 H2 R2 hR2 ⟨k, s', p', hk, rfl, rfl, rfl, rfl, rfl, rfl, rfl, rfl, hs', fs', hws', cc, hcp, heq⟩
   rw [← heq]
   unfold zebZ
   rcases Nat.lt_or_ge k L.length with hlt | hge
   ·have hx := List.getElem?_eq_getElem hlt
    have hq := hin L[k] (List.getElem_mem hlt)
    generalize L[k] = q at hx hq
    obtain ⟨q1, q2, q3, q4⟩ := hq
    have kI : (k : Int) < (L.length : Int) := by omega
    have hdrop : L.drop k = q :: L.drop (k + 1) := drop_cons hx
    rw [hdrop]
    generalize hW : wrS ct.1.2 ino pos b (q :: L.drop (k + 1)) s' = W
    have rdq : rdCells true 2 (encSp q ++ (L.drop (k + 1)).flatMap encSp) 0 = some (.agg (encSp q)) := by simp [rdCells, encSp]
    have eA : (AV.agg (encSp q)) = .agg [I q.pos, I q.len] := rfl
    have n2 : anew H2 (.agg [(.lit (.int .i64 0)), (.lit (.int .i64 0))]) = some (.ptr H2.length 0, H2 ++ [some (.cells [I 0, I 0])]) := by simp
    have t2 : ast 2 (H2 ++ [some (.cells [I 0, I 0])]) (.ptr H2.length 0) (.agg [I q.pos, I q.len]) = some (H2 ++ [some (.cells [I q.pos, I q.len])]) := by
     rw [ast_ptr (n := 2) (xs := [I q.pos, I q.len]) (cs := [I 0, I 0]) rfl (by simp) rfl (by simp)]
     simp [splice]
    have g3 := Grew.app H2 [some (.cells [I q.pos, I q.len])]
    have e2 : abI .sub (I q.pos) (I pos) = some (I (q.pos - pos)) := abI_sub (by omega) (by omega)
    have e3 : abI .quo (I q.pos) (.lit (.int .i64 8)) = some (I (q.pos / 8)) := abI_quo (by omega) (by omega) (by omega)
    simp only [abI_lss, bO_some, bB_bool, kI, decide_true, bI_true, hV.idx encSp_len hx rfl, ald_ip, rdq, eA, n2, bH_some, t2, bS_some, zxZ, Nat.zero_add, ald_ptr top1, zbiZ, List.getElem?_cons_succ, List.getElem?_cons_zero, e2, ald_ptr (g3.cells cc), rd2, e3]
    refine bP_pure (has_p hR (by omega) (q.pos / 8)) ?_
    have hs3 := hs'.grew g3
    have fs3 : StF os p p' H (H2 ++ [some (.cells [I q.pos, I q.len])]) := fs'.grew g3
    have cc3 := g3.cells cc
    have tq : (H2 ++ [some (AObj.cells [I q.pos, I q.len])])[H2.length]? = some (some (.cells [I q.pos, I q.len])) := top1
    have hl3 : H2.length + 1 = (H2 ++ [some (AObj.cells [I q.pos, I q.len])]).length := by simp
    have hpid : ∀ j ∈ idS p', j < H2.length := by obtain ⟨a, b', c, d, pv, hx⟩ := hs'; exact idS_lt hx
    have hos2 : os < H2.length := by obtain ⟨a, b', c, d, pv, hx⟩ := hs'; exact hx.lt
    have hcl2 : H1.length < H2.length := (List.getElem?_eq_some_iff.1 cc).1
    generalize (H2 ++ [some (AObj.cells [I q.pos, I q.len])]) = H3 at hs3 fs3 cc3 tq hl3
    -- the deed
    have deed : ¬ (¬ hasL ct.1.2 (q.pos / 8) ∧ freeS s' = 0) → bO (ashift 0 (.ptr H2.length 0)) (fun v25 => bO (ald false 1 H3 v25) fun v26 => bO (ashift 1 (.ptr H2.length 0)) fun v27 => bO (ald false 1 H3 v27) fun v28 => bO (abI .add (I (q.pos - pos)) v28) fun v29 => bO (aslS 1 x3 (some (I (q.pos - pos))) (some v29) none) fun v30 =>
      bC (BCall Try.prog 36 [v30] H3) fun v31 H32 => bO (abl [(.lit (.int .i64 0)), (.lit (.int .i64 0)), (.lit (.int .i64 0)), (.lit (.int .i64 0)), (.lit (.bool false)), (.lit (.string ⟨#[]⟩)), (.lit (.string ⟨#[]⟩)), (.lit (.slice none 0 0))] [(0, 1, (.lit (.int .i64 2))), (1, 1, I ino), (2, 1, v26), (7, 1, v31)]) fun v33 =>
      bC (BCall Try.prog 31 [.ptr os 0, v33] H32) fun v34 H35 => (ald false 1 H32 v25 = some v26) ∧ bO (abI .neq v34 (.lit (.int .i64 0))) fun v36 => bB v36 fun t37 => bI t37
       (AV.tup [I (q.pos - pos), v34] = .tup [I W.1.1, I W.1.2] ∧
        ∃ p', StAt W.2 os p' H35 ∧ StF os p p' H H35)
       (bO (abI .add (I k) (.lit (.int .i64 1))) fun v38 => R2 [.ptr os 0, I ino, I pos, x3, .ptr H1.length 0, x36, I L.length, v38] H35)) := by
     intro hno
     have e4 : abI .add (I (q.pos - pos)) (I q.len) = some (I (q.pos - pos + q.len)) := abI_add (by omega) (by omega)
     have hv3 : zaZ H3 1 x3 = some (encB b, b.length) := zbZ hv fun j hj => by
      have hne := hvi j hj
      exact fs3.same j (hvH j hj) hne.1 hne.2
     obtain ⟨r5, s1, s2, s3, -⟩ := aslS_spec hv3 (lo := some (I (q.pos - pos))) (hi := some (I (q.pos - pos + q.len))) (l := (q.pos - pos).toNat) (k := (q.pos - pos + q.len).toNat) (by simp only [abnd]; rw [if_pos (by omega)]) (by simp only [abnd]; rw [if_pos (by omega)]) (by omega) (by omega)
     have hpl2 := partB_len (b := b) (pos := pos) (q := q) ⟨q1, q2, q3, q4⟩
     have s2' : zaZ H3 1 r5 = some (encB (partB b pos q), (partB b pos q).length) := by
      rw [s2, hpl2]
      unfold partB
      rw [Nat.mul_one, Nat.mul_one, show (q.pos - pos + q.len).toNat - (q.pos - pos).toNat = q.len.toNat by omega]
      simp [encB, List.map_take, List.map_drop]
     obtain ⟨Rb, hRb, hcb⟩ := cloneB_z s2' (by omega)
     simp only [zxZ, Nat.zero_add, bO_some, ald_ptr tq, zbiZ, List.getElem?_cons_succ, List.getElem?_cons_zero, e4, s1]
     refine bC_of hcb ?_
     have e5 : abl [(.lit (.int .i64 0)), (.lit (.int .i64 0)), (.lit (.int .i64 0)), (.lit (.int .i64 0)), (.lit (.bool false)), (.lit (.string ⟨#[]⟩)), (.lit (.string ⟨#[]⟩)), (.lit (.slice none 0 0))] [(0, 1, (.lit (.int .i64 2))), (1, 1, I ino), (2, 1, I q.pos), (7, 1, Rb)] = some (.agg (opA (opWr ino q.pos (partB b pos q)) Rb)) := by
      have := SV.oneA hRb
      simp [abl, opA, opWr, zdoZ this]
      rfl
     simp only [e5, bO_some]
     obtain ⟨r6, H6, ⟨rfl, p6, h6, f6⟩, hcall⟩ := do_c (o := opWr ino q.pos (partB b pos q)) hs3 hws' (by omega) hRb (opWr_b (by omega))
     have hws6 := doS_w (o := opWr ino q.pos (partB b pos q)) hws' (opWr_b (by omega))
     refine bC_of hcall ⟨by rw [ald_ptr tq]; rfl, ?_⟩
     simp only [abI_neq, bO_some, bB_bool]
     by_cases hd : (doS s' (opWr ino q.pos (partB b pos q))).1 = 0
     ·simp only [hd, ne_eq, not_true_eq_false, decide_false, zwZ, abI_add (a := k) (b := 1) (by omega) (by omega), bO_some]
      have hwt : wt (opWr ino q.pos (partB b pos q)) ≤ 9 := by
       show 1 + (partB b pos q).length + (if (2 : Int) = 4 then 4098 else 0) ≤ 9
       rw [if_neg (by omega)]; omega
      refine hR2 (m - 1) _ _ _ _ _ _ _ _ _ (by omega) ⟨k + 1, _, p6, by omega, rfl, rfl, rfl, rfl, rfl, rfl, rfl, by simp, h6, fs3.trans f6, hws6.mono (by omega), ?_, ?_, ?_⟩
      ·rw [f6.same H1.length (by omega) (by omega) hcp]; exact cc3
      ·intro hh
       rcases f6.ids _ hh with hh | hh
       ·exact hcp hh
       ·omega
      ·rw [← heq, hdrop]
       conv => rhs; unfold wrS
       rw [if_neg hno, if_neg (by rw [hd]; simp)]
     ·have eW : W = ((q.pos - pos, (doS s' (opWr ino q.pos (partB b pos q))).1), (doS s' (opWr ino q.pos (partB b pos q))).2) := by
       rw [← hW]; unfold wrS; rw [if_neg hno, if_pos hd]
      rw [eW]
      simp only [hd, ne_eq, not_false_eq_true, decide_true, bI_true]
      exact ⟨by trivial, p6, h6, fs3.trans f6⟩
    by_cases hh : hasL ct.1.2 (q.pos / 8)
    ·simp only [hh, decide_true, aun_not, Bool.not_true, bO_some, bG_bool, show ((false == true) = false) from rfl, gO_false, gC_false, zdlZ, if_false, Bool.false_eq_true, bB_bool, zwZ]
     exact deed (fun x => x.1 hh)
    ·simp only [hh, decide_false, aun_not, Bool.not_false, bO_some, bG_bool, beq_self_eq_true, gO_true, gC_true]
     refine bC_of (Free_c hs3 hws' (by omega)) ?_
     simp only [abI_eql, bO_some, zdlZ, if_true, bB_bool]
     by_cases hfr : freeS s' = 0
     ·have eW : W = ((q.pos - pos, 4), s') := by
       rw [← hW]; unfold wrS; rw [if_pos ⟨hh, hfr⟩]
      rw [eW]
      simp only [hfr, decide_true, bI_true]
      exact ⟨by trivial, p', hs3, fs3⟩
     ·simp only [hfr, decide_false, zwZ]
      exact deed (fun x => hfr x.2)
   ·have kI : ¬ (k : Int) < (L.length : Int) := by omega
    have hdrop : L.drop k = [] := List.drop_of_length_le hge
    rw [hdrop]
    unfold wrS
    simp only [abI_lss, bO_some, bB_bool, kI, decide_false, zwZ, alv]
    exact ⟨by trivial, p', hs', fs'⟩
  ·have hf' : ¬ (0 ≤ pos ∧ b.length ≤ 4096 ∧ pos ≤ 1099511627776 - b.length) := hf
   simp only [hf, hf', decide_false, aun_not, Bool.not_false, bO_some, bB_bool, bI_true, not_false_eq_true, if_true]
   exact ⟨by trivial, p, h2, .of_grew (g1.trans g2)⟩
 ·simp only [hc0, ne_eq, not_false_eq_true, decide_true, bI_true, if_true]
  exact ⟨by trivial, p, h2, .of_grew (g1.trans g2)⟩)
end Go.Proofs.Ytofgloiebnppbaa.Av
end
/-! YtofgloiebnppbaaAvSx -/
section
/- Chapter 13: Sync, Restart. -/
set_option linter.unusedVariables false
set_option linter.unusedSimpArgs false
set_option maxRecDepth 100000
namespace Go.Proofs.Ytofgloiebnppbaa.Av
open Go Go.RowKit

def encZ (i : Int) : List AV := [I i]
theorem encZ_len (i : Int) : (encZ i).length = 1 := rfl
theorem noIdss_encZ (l : List Int) : noIdss (l.flatMap encZ) = true := zfaZ fun x _ => rfl
theorem rdh_Z (x : Int) (t : List AV) : rdCells false 1 (encZ x ++ t) 0 = some (I x) := rfl
theorem idxZ_p {l : List Int} {v : AV} (hv : SV encZ 1 l v) (hl : l.length ≤ 281474976710656) (no : Int) : ∃ j : Int, (0 ≤ j ↔ no ∈ l) ∧ BPure Try.prog 76 [v, I no] (I j) := by
 have key : ∃ r X, (∃ j : Int, r = I j ∧ (0 ≤ j ↔ no ∈ l)) ∧ BCall Try.prog 76 [v, I no] [] r X := zkiZ (by
  unfold zeoZ
  simp only [hv.len, bO_some]
  refine zhlZ (fun n x0 x1 x7 x8 H' => ∃ k : Nat, k + n = l.length ∧ x0 = v ∧ x1 = I no ∧ x7 = I l.length ∧ x8 = I k ∧ ∀ (m : Nat) y, m < k → l[m]? = some y → no ≠ y) ?_ l.length ⟨0, by omega, rfl, rfl, rfl, rfl, by omega⟩
  rintro n x0 x1 x7 x8 H R hR ⟨k, hk, rfl, rfl, rfl, rfl, hb⟩
  unfold zdcZ
  rcases Nat.lt_or_ge k l.length with h | h
  ·have hx := List.getElem?_eq_getElem h
   generalize l[k] = y at hx
   have kI : (k : Int) < (l.length : Int) := by omega
   simp only [abI_lss, bO_some, bB_bool, kI, decide_true, bI_true, hv.idx encZ_len hx rfl, ald_ip, rdh_Z, abI_eql]
   by_cases c : no = y
   ·simp only [c, decide_true, bI_true]
    exact ⟨k, rfl, by simp only [Int.natCast_nonneg, true_iff]; exact List.mem_of_getElem? hx⟩
   ·simp only [c, decide_false, zwZ, abI_add (a := k) (b := 1) (by omega) (by omega), bO_some]
    refine hR (n - 1) _ _ _ _ _ (by omega) ⟨k + 1, by omega, rfl, rfl, rfl, by simp, ?_⟩
    intro m z hm hz
    by_cases e : m = k
    ·rw [e, hx] at hz; injection hz with hz; rw [← hz]; exact c
    ·exact hb m z (by omega) hz
  ·have kI : ¬ (k : Int) < (l.length : Int) := by omega
   simp only [abI_lss, bO_some, bB_bool, kI, decide_false, zwZ]
   refine ⟨-1, rfl, by simp only [show ¬ (0 : Int) ≤ -1 by omega, false_iff]; intro hy; obtain ⟨m, hm⟩ := List.mem_iff_getElem?.1 hy; exact hb m no (by have := (List.getElem?_eq_some_iff.1 hm).1; omega) hm rfl⟩)
 obtain ⟨r, X, ⟨j, rfl, hj⟩, hc⟩ := key
 exact ⟨j, hj, BPure.val (by simp [noIdss, noIds, hv.1]) rfl ⟨_, _, rfl, hc⟩⟩
theorem ContainsZ_p {l : List Int} {v : AV} (hv : SV encZ 1 l v) (hl : l.length ≤ 281474976710656) (no : Int) : BPure Try.prog 53 [v, I no] (B (decide (no ∈ l))) := by
 obtain ⟨j, hj, hp⟩ := idxZ_p hv hl no
 refine BPure.val (by simp [noIdss, noIds, hv.1]) rfl (zieZ ?_)
 unfold zdnZ
 refine bP_pure hp ?_
 simp only [abI_geq, bO_some]
 congr 3; exact propext hj
def staysO (l : List Int) (o : OpM) : Prop := o.kind = 1 ∨ o.kind = 6 ∨ o.kind = 7 ∨ o.ino ∈ l
instance (l : List Int) (o : OpM) : Decidable (staysO l o) := by unfold staysO; infer_instance
theorem stays_p {o : OpM} {bv : AV} (hb : SV encU 1 o.b bv) {l : List Int} {v : AV} (hv : SV encZ 1 l v) (hl : l.length ≤ 281474976710656) : BPure Try.prog 38 [.agg (opA o bv), v] (B (decide (staysO l o))) := by
 have obv := SV.oneA hb
 have e1 : anew [] (.agg (opA o bv)) = some (.ptr 0 0, [some (.cells (opA o bv))]) := by simp [opA, obv]
 have e0 : ([some (.cells (opA o bv))] : AH)[0]? = some (some (.cells (opA o bv))) := rfl
 have i0 : (opA o bv)[0]? = some (I o.kind) := rfl
 have i1 : (opA o bv)[1]? = some (I o.ino) := rfl
 refine BPure.val (by simp [noIdss, noIds, hv.1, hb.1, opA]) rfl (store_stays_ok ?_)
 unfold store_stays
 simp only [e1, bH_some, zxZ, Nat.zero_add, bO_some, ald_ptr e0, zbiZ, i0, abI_eql, bB_bool]
 have last : ∀ c : Prop, ∀ _ : Decidable c, zktZ v (.ptr 0 0) [some (.cells (opA o bv))] (fun r H => r = B (decide (o.ino ∈ l))) := by
  intro c _
  rw [store_stays_J1_eq]; unfold zlxZ
  simp only [zxZ, Nat.zero_add, bO_some, ald_ptr e0, zbiZ, i1]
  exact bP_pure (ContainsZ_p hv hl o.ino) rfl
 unfold staysO
 by_cases c1 : o.kind = 1
 ·simp only [c1, decide_true, bI_true, true_or]
  rw [zhkZ]; unfold zgoZ
  simp only [bB_bool, bI_true]
  try trivial
 ·simp only [c1, decide_false, zwZ, false_or]
  by_cases c6 : o.kind = 6
  ·simp only [c6, decide_true, bI_true, true_or]
   rw [zhkZ]; unfold zgoZ
   simp only [bB_bool, bI_true]
   try trivial
  ·simp only [c6, decide_false, zwZ, false_or]
   rw [zhkZ]; unfold zgoZ
   by_cases c7 : o.kind = 7
   ·simp only [c7, decide_true, bB_bool, bI_true, true_or]
    try trivial
   ·simp only [c7, decide_false, bB_bool, zwZ, false_or]
    exact last True inferInstance
/-! Sync -/
def syncF (l : List Int) : List OpM → Img × List OpM → Img × List OpM
 | [], x => x
 | o :: r, x => if staysO l o then syncF l r (applyI x.1.1 x.1.2 o, x.2) else syncF l r (x.1, x.2 ++ [o])
def syncS (s : StS) (l : List Int) : Int × StS :=
 if (deedS s).1 = true then (0, { (deedS s).2 with kept := (syncF l s.pend (s.kept, [])).1, pend := (syncF l s.pend (s.kept, [])).2 }) else (8, (deedS s).2)
theorem syncF_w {l : List Int} {N : Nat} : ∀ {r : List OpM} {x : Img × List OpM}, (∃ a, Few1 a x.1 ∧ a + wts x.2 + wts r ≤ N) → (∃ a, Few1 a (syncF l r x).1 ∧ a + wts (syncF l r x).2 ≤ N)
 | [], x, ⟨a, h1, h2⟩ => ⟨a, h1, by simp only [syncF]; omega⟩
 | o :: r, x, ⟨a, h1, h2⟩ => by
  have e : wts (o :: r) = wt o + wts r := by simp [wts]
  unfold syncF
  split
  ·exact syncF_w ⟨a + wt o, h1.step o, by simp only; omega⟩
  ·exact syncF_w ⟨a, h1, by simp only [wts_snoc]; omega⟩
theorem syncF_b {l : List Int} : ∀ {r : List OpM} {x : Img × List OpM}, (∀ o ∈ x.2, OpB o) → (∀ o ∈ r, OpB o) → ∀ o ∈ (syncF l r x).2, OpB o
 | [], x, h1, h2, o, ho => h1 o ho
 | q :: r, x, h1, h2, o, ho => by
  unfold syncF at ho
  split at ho
  ·exact syncF_b (x := (applyI x.1.1 x.1.2 q, x.2)) h1 (fun z hz => h2 z (by simp [hz])) o ho
  ·refine syncF_b (x := (x.1, x.2 ++ [q])) ?_ (fun z hz => h2 z (by simp [hz])) o ho
   intro z hz
   simp only [List.mem_append, List.mem_singleton] at hz
   rcases hz with hz | rfl
   ·exact h1 z hz
   ·exact h2 _ (by simp)
theorem syncS_w {N : Nat} {s : StS} (h : SW N s) (l : List Int) : SW N (syncS s l).2 := by
 have hd := deedS_w h
 obtain ⟨e1, e2, e3, e4, e5⟩ := deedS_same s
 unfold syncS
 split
 ·refine ⟨by simp only [e1]; exact h.now, ?_, ?_, hd.made, hd.cap, hd.armed⟩
  ·obtain ⟨a, h1, h2⟩ := h.kept
   exact syncF_w ⟨a, h1, by simp only [wts, List.map_nil, List.sum_nil]; unfold wts at h2; omega⟩
  ·exact syncF_b (x := (s.kept, [])) (by simp) h.ob
 ·exact hd
theorem Sync_c {N : Nat} {s : StS} {os : Nat} {p v : AV} {H : AH} (h : StAt s os p H) (hw : SW N s) (hN : N ≤ 900000) {l : List Int} (hv : zaZ H 1 v = some (l.flatMap encZ, l.length)) (hvi : ∀ j ∈ idS v, j ≠ os ∧ j ∉ idS p) (hl : l.length ≤ 1000000) :
  ∃ r H', (r = I (syncS s l).1 ∧ ∃ p', StAt (syncS s l).2 os p' H' ∧ StF os p p' H H') ∧ BCall Try.prog 12 [.ptr os 0, v] H r H' := store_Store_Sync_ok (by
 unfold ziiZ
 obtain ⟨r, H1, ⟨rfl, h1, f1⟩, hc⟩ := deed_c h hw.armed
 refine bC_of hc ?_
 obtain ⟨e1, e2, e3, e4, e5⟩ := deedS_same s
 have hwd := deedS_w hw
 have hpl : (deedS s).2.pend.length ≤ N := by rw [e3]; exact hw.plen
 have hob : ∀ o ∈ (deedS s).2.pend, OpB o := by rw [e3]; exact hw.ob
 have hkw : ∃ a, Few1 a (deedS s).2.kept ∧ a + wts (deedS s).2.pend ≤ N := by rw [e2, e3]; exact hw.kept
 unfold syncS
 rw [← e2, ← e3]
 simp only [aun_not, bO_some, bB_bool]
 cases hd : (deedS s).1 with
 | false =>
  simp only [Bool.not_false, bI_true, Bool.false_eq_true, if_false]
  exact ⟨by trivial, p, h1, f1⟩
 | true =>
  have hv1 : zaZ H1 1 v = some (l.flatMap encZ, l.length) := zbZ hv fun j hj => f1.same j (zoZ hv j hj) (hvi j hj).1 (hvi j hj).2
  clear e1 e2 e3 e4 e5 hc
  generalize (deedS s).2 = s1 at *
  simp only [if_true]
  obtain ⟨a, b, c, d, pv, h1⟩ := h1
  have hpn : pv.length = s1.pend.length := by rw [← h1.pm, List.length_map]
  have alv : alnS p = some (I (s1.pend.length : Nat)) := by rw [← hpn]; exact zjrZ h1.ps
  simp only [Bool.not_true, zwZ, zlZ, bO_some, zxZ, Nat.zero_add, ald_ptr h1.obj, zbiZ, List.getElem?_cons_succ, List.getElem?_cons_zero, alv]
  have hos : os < H1.length := h1.lt
  have hH : H.length ≤ H1.length := f1.len
  generalize hres : syncF l s1.pend (s1.kept, []) = res
  refine zkjZ (fun m x0 x1 x5 x14 x15 x16 H' => ∃ (k : Nat) (ki : Img) (c' d' : AV) (lv : List OpV), k + m = s1.pend.length ∧ x0 = .ptr os 0 ∧ x1 = v ∧ x14 = p ∧ x15 = I s1.pend.length ∧ x16 = I k ∧ StC { s1 with kept := ki } os a b c' d' p pv H' ∧ StF os p p H1 H' ∧ syncF l (s1.pend.drop k) (ki, lv.map OpV.o) = res ∧ (∃ a, Few1 a ki ∧ a + wts (lv.map OpV.o) + wts (s1.pend.drop k) ≤ N) ∧ zaZ H' 8 x5 = some (lv.flatMap encO, lv.length) ∧ ownedS x5 = true ∧ capOk x5 lv.length ∧ (∀ j ∈ idS x5, H1.length ≤ j)) ?_ s1.pend.length ⟨0, s1.kept, c, d, [], by omega, rfl, rfl, rfl, rfl, rfl, h1, .refl _ _ _, hres, by obtain ⟨x, y, z⟩ := hkw; exact ⟨x, y, by simp only [List.map_nil, List.drop_zero]; simp only [wts, List.map_nil, List.sum_nil] at *; omega⟩, rfl, rfl, by simp [capOk], by simp [idS]⟩
  rintro m x0 x1 x5 x14 x15 x16 H2 R hR ⟨k, ki, c', d', lv, hk, rfl, rfl, rfl, rfl, rfl, h2, f2, hsy, hfew, ls, lo, lc, li⟩
  have lvN : lv.length ≤ N := by
   obtain ⟨x, -, y⟩ := hfew
   have := wts_len (l := lv.map OpV.o)
   rw [List.length_map] at this
   omega
  unfold zenZ
  rcases Nat.lt_or_ge k s1.pend.length with hlt | hge
  ·have hx := List.getElem?_eq_getElem (show k < pv.length by omega)
   generalize pv[k]'(by omega) = x at hx
   have hxo : s1.pend[k]? = some x.o := by rw [← h1.pm, List.getElem?_map, hx]; rfl
   have hdrop : s1.pend.drop k = x.o :: s1.pend.drop (k + 1) := drop_cons hxo
   have hxb := hob x.o (List.mem_of_getElem? hxo)
   rw [hdrop] at hsy hfew
   have ox := SV.oneA x.h
   have kI : (k : Int) < (s1.pend.length : Int) := by omega
   obtain ⟨pp, q1, q2⟩ := op_at h2.ps hx
   have n8 : anew H2 (.agg [(.lit (.int .i64 0)), (.lit (.int .i64 0)), (.lit (.int .i64 0)), (.lit (.int .i64 0)), (.lit (.bool false)), (.lit (.string ⟨#[]⟩)), (.lit (.string ⟨#[]⟩)), (.lit (.slice none 0 0))]) = some (.ptr H2.length 0, H2 ++ [some (.cells [I 0, I 0, I 0, I 0, B false, S ⟨#[]⟩, S ⟨#[]⟩, nilSl])]) := by simp
   have t8 : ast 8 (H2 ++ [some (.cells [I 0, I 0, I 0, I 0, B false, S ⟨#[]⟩, S ⟨#[]⟩, nilSl])]) (.ptr H2.length 0) (.agg (opA x.o x.bv)) = some (H2 ++ [some (.cells (opA x.o x.bv))]) := by
    rw [ast_ptr (n := 8) (xs := opA x.o x.bv) (cs := [I 0, I 0, I 0, I 0, B false, S ⟨#[]⟩, S ⟨#[]⟩, nilSl]) (by simp [opA, ox]) (by simp) rfl (by simp)]
    simp [splice, opA]
   have g3 := Grew.app H2 [some (.cells (opA x.o x.bv))]
   have rd8 : rdCells true 8 (opA x.o x.bv) 0 = some (.agg (opA x.o x.bv)) := rfl
   have h3 := h2.grew g3
   have f3 : StF os x14 x14 H1 (H2 ++ [some (AObj.cells (opA x.o x.bv))]) := f2.grew g3
   have hl2 := f2.len
   have hv3 : zaZ (H2 ++ [some (AObj.cells (opA x.o x.bv))]) 1 x1 = some (l.flatMap encZ, l.length) := zbZ hv fun j hj => by
    have := zoZ hv j hj
    rw [f3.same j (by omega) (hvi j hj).1 (hvi j hj).2, f1.same j this (hvi j hj).1 (hvi j hj).2]
   obtain ⟨Rv, hRv, fRv⟩ := FZ.sv hv3 (noIdss_encZ l)
   have ls3 := g3.slice ls
   have sm : Sm ki.1 ki.2 := by obtain ⟨x, y, z⟩ := hfew; exact y.sm (by omega)
   simp only [abI_lss, bO_some, bB_bool, kI, decide_true, bI_true, q1, q2, n8, bH_some, t8, bS_some, ald_ptr top1, rd8]
   refine bP_of (PCall.lend (FZs.cons (FZ.same (by simp [noIds, opA, noIdss, x.h.1])) (FZs.cons fRv FZs.nil)) rfl (stays_p x.h hRv (by omega))) ?_
   have topx : (H2 ++ [some (AObj.cells (opA x.o x.bv))])[H2.length]? = some (some (.cells (opA x.o x.bv))) := top1
   have hl3 : (H2 ++ [some (AObj.cells (opA x.o x.bv))]).length = H2.length + 1 := by simp
   generalize (H2 ++ [some (AObj.cells (opA x.o x.bv))]) = H3 at *
   simp only [bB_bool]
   by_cases hst : staysO l x.o
   ·obtain ⟨RA, hRA, hpA⟩ := Apply_p (o := x.o) (bv := x.bv) h3.kept sm x.h (by have := hxb.1; omega) (by have := hxb.2.1; omega) (by have := hxb.2.2; omega)
    obtain ⟨a', b', rfl, oa, ob⟩ := hRA.agg2
    simp only [hst, decide_true, bI_true, zlZ, bO_some, zxZ, Nat.zero_add, ald_ptr h3.obj, (rd9 _ _ _ _ _ _ _ _ _).2, ald_ptr topx, rd8]
    refine bP_of hpA ?_
    obtain ⟨h4, f4⟩ := h3.set (s' := { s1 with kept := applyI ki.1 ki.2 x.o }) h3.now hRA rfl
    simp only [zlZ, bO_some, zxZ, Nat.zero_add, (st9 h3.obj oa ob).2, bS_some]
    rw [zgwZ]; unfold zejZ
    simp only [abI_add (a := k) (b := 1) (by omega) (by omega), bO_some]
    refine hR (m - 1) _ _ _ _ _ _ _ (by omega) ⟨k + 1, _, a', b', lv, by omega, rfl, rfl, rfl, rfl, by simp, h4, f3.trans f4, ?_, ?_, ?_, lo, lc, li⟩
    ·rw [← hsy]; conv => rhs; unfold syncF
     rw [if_pos hst]
    ·obtain ⟨y, z, w⟩ := hfew
     have e : wts (x.o :: s1.pend.drop (k + 1)) = wt x.o + wts (s1.pend.drop (k + 1)) := by simp [wts]
     exact ⟨y + wt x.o, z.step x.o, by omega⟩
    ·exact zbZ ls3 fun j hj => by
      have := li j hj
      exact f4.same j (by have := zoZ ls3 j hj; omega) (by omega) (fun q => by have := idS_lt h1 j q; omega)
   ·have eA : absl H3 8 1 (zrow [(.lit (.int .i64 0)), (.lit (.int .i64 0)), (.lit (.int .i64 0)), (.lit (.int .i64 0)), (.lit (.bool false)), (.lit (.string ⟨#[]⟩)), (.lit (.string ⟨#[]⟩)), (.lit (.slice none 0 0))] 1) [(0, 8, .agg (opA x.o x.bv))] = some (.sl H3.length 0 1 8 (.ex 1), H3 ++ [some (.cells (encO x))]) := by
     simp [absl, absf, zrow, encO, opA, cellsA_agg, ox, splice]
    have g4 := Grew.app H3 [some (.cells (encO x))]
    have x1' : zcoZ (H3 ++ [some (AObj.cells (encO x))]) 8 (.sl H3.length 0 1 8 (.ex 1)) = some (encO x, 1) := ztZ (by simp [zaZ, encO, opA])
    obtain ⟨r, H5, a1, a2, a3, a4, a5, a6⟩ := aap_spec (bytes := 96) (g4.slice ls3) lo x1' (by omega)
    have a7 := aap_cap (g4.slice ls3) lo x1' lc a1
    simp only [hst, decide_false, zwZ, ald_ptr topx, rd8, bO_some, eA, bH_some, a1]
    rw [zgwZ]; unfold zejZ
    simp only [abI_add (a := k) (b := 1) (by omega) (by omega), bO_some]
    have h4 := h3.grew g4
    have f4 := f3.grew g4
    have lt4 : ∀ j, j < H1.length → j ∉ idS x5 := fun j hj q => by have := li j q; omega
    have len4 : (H3 ++ [some (AObj.cells (encO x))]).length = H3.length + 1 := by simp
    have k5 : ∀ j, j < H1.length → H5[j]? = (H3 ++ [some (AObj.cells (encO x))])[j]? := fun j hj => a5 j (by omega) (lt4 j hj)
    refine hR (m - 1) _ _ _ _ _ _ _ (by omega) ⟨k + 1, ki, c', d', lv ++ [x], by omega, rfl, rfl, rfl, rfl, by simp, ?_, ?_, ?_, ?_, ?_, a2, by simpa using a7, ?_⟩
    ·exact ⟨by rw [k5 os hos]; exact h4.obj, h4.now, h4.kept, h4.pm, zbZ h4.ps fun j hj => k5 j (idS_lt h1 j hj), h4.po, h4.pi, h4.pc⟩
    ·exact ⟨by omega, fun j hj hne hjp => by rw [k5 j hj]; exact f4.same j hj hne hjp, fun _ q => .inl q⟩
    ·rw [← hsy]; conv => rhs; unfold syncF
     rw [if_neg hst]
     simp
    ·obtain ⟨y, z, w⟩ := hfew
     have e : wts (x.o :: s1.pend.drop (k + 1)) = wt x.o + wts (s1.pend.drop (k + 1)) := by simp [wts]
     exact ⟨y, z, by rw [List.map_append]; simp only [List.map_cons, List.map_nil, wts_snoc]; omega⟩
    ·simpa using a3
    ·intro j hj
     rcases a6 j hj with q | q
     ·exact li j q
     ·omega
  ·have kI : ¬ (k : Int) < (s1.pend.length : Int) := by omega
   have hdrop : s1.pend.drop k = [] := List.drop_of_length_le hge
   rw [hdrop] at hsy hfew
   unfold syncF at hsy
   rw [← hsy]
   have e7 : ast 1 H2 (.ptr os 5) x5 = some (H2.set os (some (.cells [I s1.cap, a, b, c', d', x5, I s1.made, I s1.armed, B s1.off]))) := fld h2.obj (by simp) (zbpZ lo)
   have hnx : os ∉ idS x5 := fun q => by have := li os q; omega
   simp only [abI_lss, bO_some, bB_bool, kI, decide_false, zwZ, zlZ, zxZ, Nat.zero_add, e7, bS_some]
   have hl2 := f2.len
   refine ⟨by trivial, x5, ⟨a, b, c', d', lv, ⟨List.getElem?_set_self h2.lt, h2.now, h2.kept, rfl, zbZ ls fun j hj => List.getElem?_set_ne (fun e => hnx (by rw [e]; exact hj)), lo, hnx, lc⟩⟩, ?_⟩
   refine ⟨by rw [List.length_set]; omega, fun j hj hne hjp => ?_, fun j hj => .inr (by have := li j hj; omega)⟩
   rw [List.getElem?_set_ne (Ne.symm hne), f2.same j (by omega) hne hjp, f1.same j hj hne hjp])
/-! Restart -/
end Go.Proofs.Ytofgloiebnppbaa.Av
end
/-! YtofgloiebnppbaaAvSr -/
section
/- Chapter 13: its closed sentence. -/
namespace Go.Proofs.Ytofgloiebnppbaa.Av
open Go Go.RowKit
set_option maxRecDepth 100000
theorem storeRuns_ran : isTrue (run Try.prog cmpExt (inL []) (inL []) 100000 100 3 [] []) = true := by kernel_rfl
theorem storeRuns_p : BPure Try.prog 3 [] (B true) := .of_true (run_true cmpExt_ok storeRuns_ran)
end Go.Proofs.Ytofgloiebnppbaa.Av
end
/-! YtofgloiebnppbaaAvSd -/
section
/- Chapter 13: one file, and the power that goes. -/
set_option linter.unusedVariables false
set_option linter.unusedSimpArgs false
set_option maxRecDepth 100000
namespace Go.Proofs.Ytofgloiebnppbaa.Av
open Go Go.RowKit

def oneI (size : Int) (l : List Ext) : Img := ([⟨[97], 1⟩], [⟨1, size, l⟩])
theorem oneI_w {size : Int} {l : List Ext} (h : mayC size l) : MayW (oneI size l).1 (oneI size l).2 := by
 refine ⟨by simp [oneI], ?_, by simp [oneI, srtK], by simp [oneI], by simp [oneI, srtK], by simpa [oneI] using h, by simp [oneI, hasK]⟩
 intro x hx
 simp only [oneI, List.mem_singleton] at hx
 subst hx
 exact ⟨by decide, by decide, by decide⟩
theorem oneI_apply {size : Int} {l : List Ext} {o : OpM} {c : Cont} (h : mayC size l) (hk : o.kind = 2 ∨ o.kind = 3) (hi : o.ino = 1) (hc : chgC o ⟨1, size, l⟩ = some c) : applyI (oneI size l).1 (oneI size l).2 o = oneI c.1 c.2 := by
 unfold applyI
 rw [if_pos (mayI_w.2 (oneI_w h)), if_neg (by omega), if_pos (by omega)]
 have e1 : atK Nd.ino (oneI size l).2 o.ino = some ⟨1, size, l⟩ := by rw [hi]; rfl
 have e2 : posK cmpI Nd.ino (oneI size l).2 o.ino = 0 := by rw [hi]; rfl
 unfold chgD
 rw [e1]
 simp only [hc, e2]
 rfl
structure DS (k : Nat) (n d : Int) (s : StS) : Prop where
 now : ∃ size l, s.now = oneI size l ∧ mayC size l ∧ l.length ≤ k
 cap : s.cap = 100
 st : (s.off = false ∧ 0 ≤ s.armed ∧ s.armed = n - d) ∨ (s.off = true ∧ d = n)
theorem DS.mono {k k' : Nat} {n d : Int} {s : StS} (h : DS k n d s) (hk : k ≤ k') : DS k' n d s := by
 obtain ⟨size, l, a, b, c⟩ := h.now
 exact ⟨⟨size, l, a, b, by omega⟩, h.cap, h.st⟩
theorem DS.deed {k : Nat} {n d : Int} {s : StS} (h : DS k n d s) : ((deedS s).1 = true ∧ DS k n (d + 1) (deedS s).2) ∨ ((deedS s).1 = false ∧ (deedS s).2.off = true ∧ d = n ∧ DS k n d (deedS s).2) := by
 unfold deedS
 split
 ·rename_i h1
  have hd : d = n := by
   rcases h1 with h1 | h1
   ·rcases h.st with h2 | h2
    ·rw [h2.1] at h1; cases h1
    ·exact h2.2
   ·rcases h.st with h2 | h2
    ·omega
    ·exact h2.2
  exact .inr ⟨rfl, rfl, hd, h.now, h.cap, .inr ⟨rfl, hd⟩⟩
 ·rename_i h1
  have hoff : s.off = false := by cases ho : s.off with
   | true => exact absurd (.inl ho) h1
   | false => rfl
  rcases h.st with h2 | h2
  ·have : s.armed ≠ 0 := fun q => h1 (.inr q)
   rw [if_pos (by omega)]
   exact .inl ⟨rfl, h.now, h.cap, .inl ⟨hoff, by simp only; omega, by simp only; omega⟩⟩
  ·rw [hoff] at h2; cases h2.1
theorem DS.do {k : Nat} {n d : Int} {s : StS} {o : OpM} (h : DS k n d s) (hk : o.kind = 2 ∨ o.kind = 3) (hi : o.ino = 1) (hc : ∀ size l, s.now = oneI size l → mayC size l → l.length ≤ k → ∃ c, chgC o ⟨1, size, l⟩ = some c ∧ mayC c.1 c.2 ∧ c.2.length ≤ k + 1) :
  ((doS s o).1 = 0 ∧ DS (k + 1) n (d + 1) (doS s o).2) ∨ ((doS s o).1 = 8 ∧ (doS s o).2.off = true ∧ d = n ∧ DS (k + 1) n d (doS s o).2) := by
 obtain ⟨e1, e2, e3, e4, e5⟩ := deedS_same s
 unfold doS
 rcases h.deed with ⟨a, b⟩ | ⟨a, b, c, e⟩
 ·rw [if_pos a]
  obtain ⟨size, l, q1, q2, q3⟩ := h.now
  obtain ⟨c, r1, r2, r3⟩ := hc size l q1 q2 q3
  refine .inl ⟨rfl, ⟨c.1, c.2, ?_, r2, r3⟩, b.cap, b.st⟩
  simp only
  rw [q1]
  exact oneI_apply q2 hk hi r1
 ·rw [if_neg (by rw [a]; simp)]
  exact .inr ⟨rfl, b, c, e.mono (by omega)⟩
theorem DS.content {k : Nat} {n d : Int} {s : StS} (h : DS k n d s) : (s.off = true ∧ (zduZ s 1).2 = 8) ∨ (s.off = false ∧ ∃ size l, s.now = oneI size l ∧ mayC size l ∧ l.length ≤ k ∧ zduZ s 1 = ((size, l), 0)) := by
 cases ho : s.off with
 | true => exact .inl ⟨rfl, by unfold zduZ; rw [if_pos ho]⟩
 | false =>
  obtain ⟨size, l, q1, q2, q3⟩ := h.now
  refine .inr ⟨rfl, size, l, q1, q2, q3, ?_⟩
  have hg : hasG s.now.1 s.now.2 1 := by
   rw [q1]
   exact ⟨mayI_w.2 (oneI_w q2), by simp [oneI, hasK]⟩
  unfold zduZ
  rw [if_neg (by rw [ho]; simp), if_pos hg]
  have : getN s.now.1 s.now.2 1 = ⟨1, size, l⟩ := by
   unfold getN
   rw [if_pos hg, q1]; rfl
  rw [this]
theorem DS.off {k : Nat} {n d : Int} {s : StS} (h : DS k n d s) (ho : s.off = true) : d = n := by
 rcases h.st with h2 | h2
 ·rw [ho] at h2; cases h2.1
 ·exact h2.2
theorem parts_one (i : Int) (h0 : 0 ≤ i) (h1 : i ≤ 1000) : partsS ⟨i, 1⟩ 8 = [⟨i, 1⟩] := by
 unfold partsS
 rw [if_pos ⟨⟨by unfold May; simp only; omega, by unfold May; simp only; omega, by simp only; omega⟩, by simp only; omega, by omega⟩]
 show cutsS 1 i 1 8 = _
 unfold cutsS
 rw [if_pos (by omega)]
 have : min (1 : Int) (8 - i % 8) = 1 := by omega
 rw [this]
 unfold cutsS
 rfl
theorem DS.write {k : Nat} {n d : Int} {s : StS} (h : DS k n d s) (hk : k < 90) {i : Nat} (hi : i ≤ 100) (y : UInt8) :
  (((writeS s 1 i [y]).1 = (1, 0)) ∧ DS (k + 1) n (d + 1) (writeS s 1 i [y]).2) ∨ ((writeS s 1 i [y]).1.2 = 8 ∧ (writeS s 1 i [y]).2.off = true ∧ d = n ∧ DS (k + 1) n d (writeS s 1 i [y]).2) := by
 unfold writeS
 rcases h.content with ⟨a, b⟩ | ⟨a, size, l, q1, q2, q3, b⟩
 ·rw [if_pos (by rw [b]; simp)]
  exact .inr ⟨b, a, h.off a, h.mono (by omega)⟩
 ·rw [b, if_neg (by simp), if_neg (fun q => q ⟨by omega, by simp, by simp; omega⟩)]
  show (((wrS l 1 i [y] (partsS ⟨i, 1⟩ 8) s).1 = (1, 0)) ∧ DS (k + 1) n (d + 1) (wrS l 1 i [y] (partsS ⟨i, 1⟩ 8) s).2) ∨ ((wrS l 1 i [y] (partsS ⟨i, 1⟩ 8) s).1.2 = 8 ∧ (wrS l 1 i [y] (partsS ⟨i, 1⟩ 8) s).2.off = true ∧ d = n ∧ DS (k + 1) n d (wrS l 1 i [y] (partsS ⟨i, 1⟩ 8) s).2)
  rw [parts_one i (by omega) (by omega)]
  unfold wrS
  have hfree : freeS s ≠ 0 := by
   unfold freeS
   rw [h.cap, q1]
   have : sumL (oneI size l).2 = l.length := by simp [sumL, oneI]
   rw [this]; omega
  have hpb : partB [y] i ⟨(i : Int), 1⟩ = [y] := by
   unfold partB
   simp
  rw [if_neg (fun q => hfree q.2)]
  rw [hpb]
  rcases h.do (o := opWr 1 i [y]) (.inl rfl) rfl (fun size l e1 e2 e3 => by
   refine ⟨(max size (i + ([y] : List UInt8).length), writeL l i [y]), ?_, ?_, ?_⟩
   ·show (if (2 : Int) = 2 then writeC (size, l) i [y] else _) = _
    rw [if_pos rfl]
    unfold writeC
    rw [if_pos ⟨e2, by omega, by simp, by simp; omega⟩, if_neg (by simp)]
   ·refine may_write (c := (size, l)) (pos := i) (bs := [y]) ?_
    unfold writeC
    rw [if_pos ⟨e2, by omega, by simp, by simp; omega⟩, if_neg (by simp)]
   ·have := wr_len12 (bs := [y]) (l := l) (p := i)
    simp only [List.length_cons, List.length_nil] at this
    simp only; omega) with ⟨r1, r2⟩ | ⟨r1, r2, r3, r4⟩
  ·rw [if_neg (by rw [r1]; simp)]
   unfold wrS
   exact .inl ⟨rfl, r2⟩
  ·rw [if_pos (by rw [r1]; omega)]
   exact .inr ⟨r1, r2, r3, r4⟩
theorem DS.trunc {k : Nat} {n d : Int} {s : StS} (h : DS k n d s) {i : Nat} (hi : i ≤ 100) :
  ((truncS s 1 i).1 = 0 ∧ DS (k + 1) n (d + 1) (truncS s 1 i).2) ∨ ((truncS s 1 i).1 = 8 ∧ (truncS s 1 i).2.off = true ∧ d = n ∧ DS (k + 1) n d (truncS s 1 i).2) := by
 unfold truncS
 rcases h.content with ⟨a, b⟩ | ⟨a, size, l, q1, q2, q3, b⟩
 ·rw [if_pos (by rw [b]; simp)]
  exact .inr ⟨b, a, h.off a, h.mono (by omega)⟩
 ·have ht : ∀ (size : Int) (l : List Ext), mayC size l → truncC (size, l) i = some ((i : Int), truncL l i) := fun size l e => by
   unfold truncC; rw [if_pos ⟨e, by omega, by omega⟩]
  rw [b, if_neg (by simp), if_neg (by rw [ht size l q2]; simp)]
  refine h.do (.inr rfl) rfl fun size l e1 e2 e3 => ⟨((i : Int), truncL l i), ?_, may_trunc (ht size l e2), ?_⟩
  ·show (if (3 : Int) = 2 then _ else if (3 : Int) = 3 then truncC (size, l) i else _) = _
   rw [if_neg (by omega), if_pos rfl]
   exact ht size l e2
  ·simp only [truncL, wipeL, List.length_map]
   exact Nat.le_trans (List.length_filter_le _ _) (by omega)
theorem DS.sync {k : Nat} {n d : Int} {s : StS} (h : DS k n d s) (l : List Int) :
  ((syncS s l).1 = 0 ∧ DS (k + 1) n (d + 1) (syncS s l).2) ∨ ((syncS s l).1 = 8 ∧ (syncS s l).2.off = true ∧ d = n ∧ DS (k + 1) n d (syncS s l).2) := by
 unfold syncS
 rcases h.deed with ⟨a, b⟩ | ⟨a, b, c, e⟩
 ·rw [if_pos a]
  have b := b.mono (k' := k + 1) (by omega)
  exact .inl ⟨rfl, b.now, b.cap, b.st⟩
 ·rw [if_neg (by rw [a]; simp)]
  exact .inr ⟨rfl, b, c, e.mono (by omega)⟩
theorem DS.ren {k : Nat} {n d : Int} {s : StS} (h : DS k n d s) : (renS s [97] [97]).2 = s ∧ (((renS s [97] [97]).1 = 0) ∨ ((renS s [97] [97]).1 = 8 ∧ s.off = true ∧ d = n)) := by
 have hm : mayN [97] := by decide
 unfold renS
 rw [if_neg (fun q => q.2 hm), if_pos (.inr rfl)]
 refine ⟨rfl, ?_⟩
 simp only
 unfold findS
 cases ho : s.off with
 | true => exact .inr ⟨by simp, rfl, h.off ho⟩
 | false =>
  obtain ⟨size, l, q1, q2, q3⟩ := h.now
  have : hasK Nm.name s.now.1 [97] := by rw [q1]; simp [oneI, hasK]
  exact .inl (by simp [hm, this])
theorem open_first : ∃ s, openS (newS 100) [97] true = ((1, 0), s) ∧ s.off = false ∧ s.now = oneI 0 [] ∧ s.cap = 100 := by
 refine ⟨_, rfl, rfl, ?_, rfl⟩
 decide
end Go.Proofs.Ytofgloiebnppbaa.Av
end
