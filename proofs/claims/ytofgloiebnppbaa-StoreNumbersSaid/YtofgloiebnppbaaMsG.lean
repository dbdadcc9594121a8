/- Texts of this proof, one behind the other, packed into one file by a program of this session. No condition. -/
import Derived.Test.YtofgloiebnppbaaMsF
/-! YtofgloiebnppbaaPe -/
section
/- Formulas of functions of the program: printed by a program of this session (wip/tools/Pr.lean.txt), each checked by the kernel. -/
set_option linter.unusedVariables false
set_option maxRecDepth 100000
namespace Go.Proofs.Ytofgloiebnppbaa.Av
open Go
def pqe : FuncId → Bool := inL [40,39,18,49,42,43,48,41,33,47,80,81,79,34,46,50,35,52,38,51,75,53,76,16,3,5]
/-! salvor/store.New -/
def store_New_fl : Floats := flOf []
def store_New_kp : Nat → Option (List Bool) := kpOf []
def store_New (a0 : AV) (H : AH) (K : AV → AH → Prop) : Prop :=
bO (amm imx [a0, (.lit (.int .i64 0))]) fun v0 =>
bO (amm imn [v0, (.lit (.int .i64 4096))]) fun v1 =>
bO (abl [(.lit (.int .i64 0)), (.lit (.slice none 0 0)), (.lit (.slice none 0 0)), (.lit (.slice none 0 0)), (.lit (.slice none 0 0)), (.lit (.slice none 0 0)), (.lit (.int .i64 0)), (.lit (.int .i64 0)), (.lit (.bool false))] [(0, 1, v1), (7, 1, (.lit (.int .i64 (-1))))]) fun v2 =>
bH (anew H v2) fun v3 H4 =>
K v3 H4
theorem store_New_eq (a0 : AV) (H : AH) (K : AV → AH → Prop) : sFun Try.prog store_New_fl pqe none0 none0 store_New_kp Try.f9 [a0] H K = store_New a0 H K := by kernel_rfl
theorem store_New_ok {a0 : AV} {H : AH} {K : AV → AH → Prop} (h : store_New a0 H K) : ∃ r H', K r H' ∧ BCall Try.prog 9 [a0] H r H' :=
 sFun_ok mixP Try.func9 (by kernel_rfl) (Eq.mpr (store_New_eq a0 H K) h)
/-! (*salvor/store.Store).Now -/
def store_Store_Now_fl : Floats := flOf []
def store_Store_Now_kp : Nat → Option (List Bool) := kpOf []
def zirZ (a0 : AV) (H : AH) (K : AV → AH → Prop) : Prop :=
bH (anew H (.agg [(.lit (.slice none 0 0)), (.lit (.slice none 0 0))])) fun v0 H1 =>
bO (zcZ a0) fun v2 =>
bO (ashift 1 v2) fun v3 =>
bO (ald true 2 H1 v3) fun v4 =>
bP (PCall Try.prog 40 [v4] H1) fun v5 =>
bS (ast 2 H1 v0 v5) fun H6 =>
bO (ald true 2 H6 v0) fun v7 =>
K v7 H6
theorem store_Store_Now_eq (a0 : AV) (H : AH) (K : AV → AH → Prop) : sFun Try.prog store_Store_Now_fl pqe none0 none0 store_Store_Now_kp Try.f19 [a0] H K = zirZ a0 H K := by kernel_rfl
theorem store_Store_Now_ok {a0 : AV} {H : AH} {K : AV → AH → Prop} (h : zirZ a0 H K) : ∃ r H', K r H' ∧ BCall Try.prog 19 [a0] H r H' :=
 sFun_ok mixP Try.func19 (by kernel_rfl) (Eq.mpr (store_Store_Now_eq a0 H K) h)
/-! (*salvor/store.Store).Free -/
/-! (*salvor/store.Store).Off -/
/-! (*salvor/store.Store).Arm -/
/-! (*salvor/store.Store).Restart -/
def zgtZ : Floats := flOf []
def zgqZ : Nat → Option (List Bool) := kpOf [(5, mk 53 0 [0, 1, 9, 10, 11]), (2, mk 53 0 [0, 1, 9, 10, 11])]
def zboZ (p : List Bool) (n : Nat) : List AV → AH → Kf → Prop := sCode Try.prog zgtZ pqe none0 none0 zgqZ (sub p (bodyOf Try.f13)) n
def zbxZ (R2 : List AV → AH → Prop) (x0 x1 x9 x10 x11 : AV) (H : AH) (K : AV → AH → Prop) : Prop := jn (mk 53 0 [0, 1, 9, 10, 11]) (zboZ [false, true, false, false, true, true, true] 8) [x0, x1, x9, x10, x11] H (kLp (mk 53 0 [0, 1, 9, 10, 11]) R2 (kBlk 0 (kSeq (zboZ [true] 8) (kRet Try.prog Try.f13.results.toList K))))
def zgsZ (x0 x1 x9 x10 x11 : AV) (H : AH) (K : AV → AH → Prop) : Prop := lp (mk 53 0 [0, 1, 9, 10, 11]) (zboZ [false, true, false, false] 3) [x0, x1, x9, x10, x11] H (kBlk 0 (kSeq (zboZ [true] 8) (kRet Try.prog Try.f13.results.toList K)))
def zdjZ (R2 : List AV → AH → Prop) (x0 x1 x9 x10 x11 : AV) (H : AH) (K : AV → AH → Prop) : Prop :=
bO (abI .add x11 (.lit (.int .i64 1))) fun v0 =>
R2 [x0, x1, x9, x10, v0] H
theorem zetZ (R2 : List AV → AH → Prop) (x0 x1 x9 x10 x11 : AV) (H : AH) (K : AV → AH → Prop) : zbxZ R2 x0 x1 x9 x10 x11 H K = zdjZ R2 x0 x1 x9 x10 x11 H K := (jn_eq _ _ _ _ _).trans (by kernel_rfl)
def zdgZ (R2 : List AV → AH → Prop) (x0 x1 x9 x10 x11 : AV) (H : AH) (K : AV → AH → Prop) : Prop :=
bO (abI .lss x11 x10) fun v0 =>
bB v0 fun t1 => bI t1 (
bO (aixS 8 x9 x11) fun v2 =>
bO (ald true 8 H v2) fun v3 =>
bH (anew H (.agg [(.lit (.int .i64 0)), (.lit (.int .i64 0)), (.lit (.int .i64 0)), (.lit (.int .i64 0)), (.lit (.bool false)), (.lit (.string ⟨#[]⟩)), (.lit (.string ⟨#[]⟩)), (.lit (.slice none 0 0))])) fun v4 H5 =>
bS (ast 8 H5 v4 v3) fun H6 =>
bO (alnS x1) fun v7 =>
bO (abI .lss x11 v7) fun v8 =>
bG v8 true fun w9 =>
gO w9 (some x1) fun v10 =>
bG v8 true fun w11 =>
gO w11 (some x11) fun v12 =>
bG v8 true fun w13 =>
gO w13 (aixS 1 v10 v12) fun v14 =>
bG v8 true fun w15 =>
gO w15 (ald false 1 H6 v14) fun v16 =>
bO (apick v8 v16 (.lit (.bool false))) fun v17 =>
bB v17 fun t18 => bI t18 (
bO (zcZ x0) fun v19 =>
bO (ashift 3 v19) fun v20 =>
bO (ald true 2 H6 v20) fun v21 =>
bO (ald true 8 H6 v4) fun v22 =>
bP (BPure Try.prog 39 [v21, v22]) fun v23 =>
bO (zcZ x0) fun v24 =>
bO (ashift 3 v24) fun v25 =>
bS (ast 2 H6 v25 v23) fun H26 =>
zbxZ R2 x0 x1 x9 x10 x11 H26 K)
 (zbxZ R2 x0 x1 x9 x10 x11 H6 K))
 (bO (zcZ x0) fun v27 =>
bO (ashift 3 v27) fun v28 =>
bO (ald true 2 H v28) fun v29 =>
bP (PCall Try.prog 40 [v29] H) fun v30 =>
bO (zcZ x0) fun v31 =>
bO (ashift 1 v31) fun v32 =>
bS (ast 2 H v32 v30) fun H33 =>
bO (zcZ x0) fun v34 =>
bO (ashift 5 v34) fun v35 =>
bS (ast 1 H33 v35 (.lit (.slice none 0 0))) fun H36 =>
bO (zcZ x0) fun v37 =>
bO (ashift 8 v37) fun v38 =>
bS (ast 1 H36 v38 (.lit (.bool false))) fun H39 =>
bO (zcZ x0) fun v40 =>
bO (ashift 7 v40) fun v41 =>
bS (ast 1 H39 v41 (.lit (.int .i64 (-1)))) fun H42 =>
K (.tup []) H42)
theorem ziyZ (R2 : List AV → AH → Prop) (x0 x1 x9 x10 x11 : AV) (H : AH) (K : AV → AH → Prop) : zboZ [false, true, false, false] 3 (expand (mk 53 0 [0, 1, 9, 10, 11]) [x0, x1, x9, x10, x11]) H (kLp (mk 53 0 [0, 1, 9, 10, 11]) R2 (kBlk 0 (kSeq (zboZ [true] 8) (kRet Try.prog Try.f13.results.toList K)))) = zdgZ R2 x0 x1 x9 x10 x11 H K := by kernel_rfl
theorem zhtZ {K : AV → AH → Prop} (I : Nat → AV → AV → AV → AV → AV → AH → Prop) (round : ∀ (n : Nat) (x0 x1 x9 x10 x11 : AV) (H : AH) (R : List AV → AH → Prop), (∀ (m : Nat) (y0 y1 y9 y10 y11 : AV) (H' : AH), m < n → I m y0 y1 y9 y10 y11 H' → R [y0, y1, y9, y10, y11] H') → I n x0 x1 x9 x10 x11 H → zdgZ R x0 x1 x9 x10 x11 H K) (n : Nat) {x0 x1 x9 x10 x11 : AV} {H : AH} (h : I n x0 x1 x9 x10 x11 H) : zgsZ x0 x1 x9 x10 x11 H K := by
 refine lp_upto (zbkZ _ _) (LI5 I) ?_ n h
 intro n X H h
 obtain ⟨x0, x1, x9, x10, x11, rfl, h⟩ := h.elim
 exact Eq.mpr (ziyZ _ x0 x1 x9 x10 x11 H K) (round n x0 x1 x9 x10 x11 H (fun X H' => ∃ m, m < n ∧ LI5 I m X H') (fun m y0 y1 y9 y10 y11 H' hm hi => ⟨m, hm, hi⟩) h)
def zfvZ (a0 a1 : AV) (H : AH) (K : AV → AH → Prop) : Prop :=
bO (zcZ a0) fun v0 =>
bO (ashift 5 v0) fun v1 =>
bO (ald false 1 H v1) fun v2 =>
bO (alnS v2) fun v3 =>
zgsZ a0 a1 v2 v3 (.lit (.int .i64 0)) H K
theorem zkmZ (a0 a1 : AV) (H : AH) (K : AV → AH → Prop) : sFun Try.prog zgtZ pqe none0 none0 zgqZ Try.f13 [a0, a1] H K = zfvZ a0 a1 H K := by kernel_rfl
theorem zknZ {a0 a1 : AV} {H : AH} {K : AV → AH → Prop} (h : zfvZ a0 a1 H K) : ∃ r H', K r H' ∧ BCall Try.prog 13 [a0, a1] H r H' :=
 sFun_ok mixP Try.func13 (by kernel_rfl) (Eq.mpr (zkmZ a0 a1 H K) h)
/-! (*salvor/store.Store).deed -/
def zikZ : Floats := flOf []
def zijZ : Nat → Option (List Bool) := kpOf [(1, mk 31 0 [])]
def store_Store_deed_c (p : List Bool) (n : Nat) : List AV → AH → Kf → Prop := sCode Try.prog zikZ pqe none0 none0 zijZ (sub p (bodyOf Try.f37)) n
def zftZ (H : AH) (K : AV → AH → Prop) : Prop := jn (mk 31 0 []) (store_Store_deed_c [true, true] 6) [] H (kRet Try.prog Try.f37.results.toList K)
def zeaZ (H : AH) (K : AV → AH → Prop) : Prop :=
K (.lit (.bool true)) H
theorem zgrZ (H : AH) (K : AV → AH → Prop) : zftZ H K = zeaZ H K := (jn_eq _ _ _ _ _).trans (by kernel_rfl)
def zhoZ (a0 : AV) (H : AH) (K : AV → AH → Prop) : Prop :=
bO (zcZ a0) fun v0 =>
bO (ashift 8 v0) fun v1 =>
bO (ald false 1 H v1) fun v2 =>
bG v2 false fun w3 =>
gO w3 (some a0) fun v4 =>
bG v2 false fun w5 =>
gO w5 (zcZ v4) fun v6 =>
bG v2 false fun w7 =>
gO w7 (ashift 7 v6) fun v8 =>
bG v2 false fun w9 =>
gO w9 (ald false 1 H v8) fun v10 =>
bG v2 false fun w11 =>
gO w11 (abI .eql v10 (.lit (.int .i64 0))) fun v12 =>
bO (apick v2 (.lit (.bool true)) v12) fun v13 =>
bB v13 fun t14 => bI t14 (
bO (zcZ a0) fun v15 =>
bO (ashift 8 v15) fun v16 =>
bS (ast 1 H v16 (.lit (.bool true))) fun H17 =>
K (.lit (.bool false)) H17)
 (bO (zcZ a0) fun v18 =>
bO (ashift 7 v18) fun v19 =>
bO (ald false 1 H v19) fun v20 =>
bO (abI .gtr v20 (.lit (.int .i64 0))) fun v21 =>
bB v21 fun t22 => bI t22 (
bO (zcZ a0) fun v23 =>
bO (ashift 7 v23) fun v24 =>
bO (ald false 1 H v24) fun v25 =>
bO (abI .sub v25 (.lit (.int .i64 1))) fun v26 =>
bO (zcZ a0) fun v27 =>
bO (ashift 7 v27) fun v28 =>
bS (ast 1 H v28 v26) fun H29 =>
zftZ H29 K)
 (zftZ H K))
theorem store_Store_deed_eq (a0 : AV) (H : AH) (K : AV → AH → Prop) : sFun Try.prog zikZ pqe none0 none0 zijZ Try.f37 [a0] H K = zhoZ a0 H K := by kernel_rfl
theorem store_Store_deed_ok {a0 : AV} {H : AH} {K : AV → AH → Prop} (h : zhoZ a0 H K) : ∃ r H', K r H' ∧ BCall Try.prog 37 [a0] H r H' :=
 sFun_ok mixP Try.func37 (by kernel_rfl) (Eq.mpr (store_Store_deed_eq a0 H K) h)
/-! (*salvor/store.Store).do -/
def store_Store_do_fl : Floats := flOf []
def store_Store_do_kp : Nat → Option (List Bool) := kpOf []
def zjwZ (a0 a1 : AV) (H : AH) (K : AV → AH → Prop) : Prop :=
bH (anew H a1) fun v0 H1 =>
bC (BCall Try.prog 37 [a0] H1) fun v2 H3 =>
bO (aun .not v2) fun v4 =>
bB v4 fun t5 => bI t5 (
K (.lit (.int .i64 8)) H3)
 (bO (zcZ a0) fun v6 =>
bO (ashift 1 v6) fun v7 =>
bO (ald true 2 H3 v7) fun v8 =>
bO (ald true 8 H3 v0) fun v9 =>
bP (BPure Try.prog 39 [v8, v9]) fun v10 =>
bO (zcZ a0) fun v11 =>
bO (ashift 1 v11) fun v12 =>
bS (ast 2 H3 v12 v10) fun H13 =>
bO (zcZ a0) fun v14 =>
bO (ashift 5 v14) fun v15 =>
bO (ald false 1 H13 v15) fun v16 =>
bO (ald true 8 H13 v0) fun v17 =>
bO (absf 8 1 (zrow [(.lit (.int .i64 0)), (.lit (.int .i64 0)), (.lit (.int .i64 0)), (.lit (.int .i64 0)), (.lit (.bool false)), (.lit (.string ⟨#[]⟩)), (.lit (.string ⟨#[]⟩)), (.lit (.slice none 0 0))] 1) [(0, 8, v17)]) fun v18 =>
bH (aap 8 96 H13 v16 v18) fun v19 H20 =>
bO (zcZ a0) fun v21 =>
bO (ashift 5 v21) fun v22 =>
bS (ast 1 H20 v22 v19) fun H23 =>
K (.lit (.int .i64 0)) H23)
theorem store_Store_do_eq (a0 a1 : AV) (H : AH) (K : AV → AH → Prop) : sFun Try.prog store_Store_do_fl pqe none0 none0 store_Store_do_kp Try.f31 [a0, a1] H K = zjwZ a0 a1 H K := by kernel_rfl
theorem store_Store_do_ok {a0 a1 : AV} {H : AH} {K : AV → AH → Prop} (h : zjwZ a0 a1 H K) : ∃ r H', K r H' ∧ BCall Try.prog 31 [a0, a1] H r H' :=
 sFun_ok mixP Try.func31 (by kernel_rfl) (Eq.mpr (store_Store_do_eq a0 a1 H K) h)
/-! (*salvor/store.Store).content -/
/-! (*salvor/store.Store).find -/
def store_Store_find_fl : Floats := flOf []
def store_Store_find_kp : Nat → Option (List Bool) := kpOf []
def zhpZ (a0 a1 : AV) (H : AH) (K : AV → AH → Prop) : Prop :=
bO (zcZ a0) fun v0 =>
bO (ashift 8 v0) fun v1 =>
bO (ald false 1 H v1) fun v2 =>
bB v2 fun t3 => bI t3 (
K (.tup [(.lit (.int .i64 0)), (.lit (.int .i64 8))]) H)
 (bP (PCall Try.prog 48 [a1] H) fun v4 =>
bO (aun .not v4) fun v5 =>
bB v5 fun t6 => bI t6 (
K (.tup [(.lit (.int .i64 0)), (.lit (.int .i64 5))]) H)
 (bO (zcZ a0) fun v7 =>
bO (ashift 1 v7) fun v8 =>
bO (ald true 2 H v8) fun v9 =>
bP (PCall Try.prog 18 [v9, a1] H) fun v10 =>
bO (zqZ v10 0) fun v11 =>
bO (zqZ v10 1) fun v12 =>
bO (aun .not v12) fun v13 =>
bB v13 fun t14 => bI t14 (
K (.tup [(.lit (.int .i64 0)), (.lit (.int .i64 3))]) H)
 (K (.tup [v11, (.lit (.int .i64 0))]) H)))
theorem store_Store_find_eq (a0 a1 : AV) (H : AH) (K : AV → AH → Prop) : sFun Try.prog store_Store_find_fl pqe none0 none0 store_Store_find_kp Try.f30 [a0, a1] H K = zhpZ a0 a1 H K := by kernel_rfl
theorem store_Store_find_ok {a0 a1 : AV} {H : AH} {K : AV → AH → Prop} (h : zhpZ a0 a1 H K) : ∃ r H', K r H' ∧ BCall Try.prog 30 [a0, a1] H r H' :=
 sFun_ok mixP Try.func30 (by kernel_rfl) (Eq.mpr (store_Store_find_eq a0 a1 H K) h)
/-! (*salvor/store.Store).Open -/
def store_Store_Open_fl : Floats := flOf []
def store_Store_Open_kp : Nat → Option (List Bool) := kpOf []
def zhrZ (a0 a1 a2 : AV) (H : AH) (K : AV → AH → Prop) : Prop :=
bC (BCall Try.prog 30 [a0, a1] H) fun v0 H1 =>
bO (zqZ v0 0) fun v2 =>
bO (zqZ v0 1) fun v3 =>
bO (abI .neq v3 (.lit (.int .i64 3))) fun v4 =>
bG v4 false fun w5 =>
gO w5 (some a2) fun v6 =>
bG v4 false fun w7 =>
gO w7 (aun .not v6) fun v8 =>
bO (apick v4 (.lit (.bool true)) v8) fun v9 =>
bB v9 fun t10 => bI t10 (
K (.tup [v2, v3]) H1)
 (bO (zcZ a0) fun v11 =>
bO (ashift 1 v11) fun v12 =>
bO (ashift 0 v12) fun v13 =>
bO (ald false 1 H1 v13) fun v14 =>
bO (alnS v14) fun v15 =>
bO (abI .geq v15 (.lit (.int .i64 16))) fun v16 =>
bB v16 fun t17 => bI t17 (
K (.tup [(.lit (.int .i64 0)), (.lit (.int .i64 4))]) H1)
 (bO (zcZ a0) fun v18 =>
bO (ashift 6 v18) fun v19 =>
bO (ald false 1 H1 v19) fun v20 =>
bO (abI .add v20 (.lit (.int .i64 1))) fun v21 =>
bO (abl [(.lit (.int .i64 0)), (.lit (.int .i64 0)), (.lit (.int .i64 0)), (.lit (.int .i64 0)), (.lit (.bool false)), (.lit (.string ⟨#[]⟩)), (.lit (.string ⟨#[]⟩)), (.lit (.slice none 0 0))] [(0, 1, (.lit (.int .i64 1))), (5, 1, a1), (1, 1, v21)]) fun v22 =>
bC (BCall Try.prog 31 [a0, v22] H1) fun v23 H24 =>
bO (abI .neq v23 (.lit (.int .i64 0))) fun v25 =>
bB v25 fun t26 => bI t26 (
K (.tup [(.lit (.int .i64 0)), v23]) H24)
 (bO (zcZ a0) fun v27 =>
bO (ashift 6 v27) fun v28 =>
bO (ald false 1 H24 v28) fun v29 =>
bO (abI .add v29 (.lit (.int .i64 1))) fun v30 =>
bO (zcZ a0) fun v31 =>
bO (ashift 6 v31) fun v32 =>
bS (ast 1 H24 v32 v30) fun H33 =>
bO (zcZ a0) fun v34 =>
bO (ashift 6 v34) fun v35 =>
bO (ald false 1 H33 v35) fun v36 =>
K (.tup [v36, (.lit (.int .i64 0))]) H33)))
theorem store_Store_Open_eq (a0 a1 a2 : AV) (H : AH) (K : AV → AH → Prop) : sFun Try.prog store_Store_Open_fl pqe none0 none0 store_Store_Open_kp Try.f10 [a0, a1, a2] H K = zhrZ a0 a1 a2 H K := by kernel_rfl
theorem store_Store_Open_ok {a0 a1 a2 : AV} {H : AH} {K : AV → AH → Prop} (h : zhrZ a0 a1 a2 H K) : ∃ r H', K r H' ∧ BCall Try.prog 10 [a0, a1, a2] H r H' :=
 sFun_ok mixP Try.func10 (by kernel_rfl) (Eq.mpr (store_Store_Open_eq a0 a1 a2 H K) h)
/-! (*salvor/store.Store).Read -/
/-! (*salvor/store.Store).Write -/
/-! (*salvor/store.Store).Truncate -/
/-! (*salvor/store.Store).Rename -/
/-! (*salvor/store.Store).Remove -/
def zldZ : Floats := flOf []
def zlaZ : Nat → Option (List Bool) := kpOf []
def zgnZ (a0 a1 : AV) (H : AH) (K : AV → AH → Prop) : Prop :=
bC (BCall Try.prog 30 [a0, a1] H) fun v0 H1 =>
bO (zqZ v0 0) fun v2 =>
bO (zqZ v0 1) fun v3 =>
bO (abI .neq v3 (.lit (.int .i64 0))) fun v4 =>
bB v4 fun t5 => bI t5 (
K v3 H1)
 (bO (abl [(.lit (.int .i64 0)), (.lit (.int .i64 0)), (.lit (.int .i64 0)), (.lit (.int .i64 0)), (.lit (.bool false)), (.lit (.string ⟨#[]⟩)), (.lit (.string ⟨#[]⟩)), (.lit (.slice none 0 0))] [(0, 1, (.lit (.int .i64 7))), (5, 1, a1)]) fun v6 =>
bC (BCall Try.prog 31 [a0, v6] H1) fun v7 H8 =>
K v7 H8)
theorem zkxZ (a0 a1 : AV) (H : AH) (K : AV → AH → Prop) : sFun Try.prog zldZ pqe none0 none0 zlaZ Try.f17 [a0, a1] H K = zgnZ a0 a1 H K := by kernel_rfl
theorem zlcZ {a0 a1 : AV} {H : AH} {K : AV → AH → Prop} (h : zgnZ a0 a1 H K) : ∃ r H', K r H' ∧ BCall Try.prog 17 [a0, a1] H r H' :=
 sFun_ok mixP Try.func17 (by kernel_rfl) (Eq.mpr (zkxZ a0 a1 H K) h)
/-! (*salvor/store.Store).Sync -/
def ziqZ : Floats := flOf []
def zioZ : Nat → Option (List Bool) := kpOf [(10, mk 41 0 [0, 1, 5, 14, 15, 16]), (7, mk 41 0 [0, 1, 5, 14, 15, 16])]
def zcqZ (p : List Bool) (n : Nat) : List AV → AH → Kf → Prop := sCode Try.prog ziqZ pqe none0 none0 zioZ (sub p (bodyOf Try.f12)) n
def zfcZ (R7 : List AV → AH → Prop) (x0 x1 x5 x14 x15 x16 : AV) (H : AH) (K : AV → AH → Prop) : Prop := jn (mk 41 0 [0, 1, 5, 14, 15, 16]) (zcqZ [true, true, true, false, true, false, false, true, true, true] 13) [x0, x1, x5, x14, x15, x16] H (kLp (mk 41 0 [0, 1, 5, 14, 15, 16]) R7 (kBlk 0 (kSeq (zcqZ [true, true, true, true] 13) (kRet Try.prog Try.f12.results.toList K))))
def zinZ (x0 x1 x5 x14 x15 x16 : AV) (H : AH) (K : AV → AH → Prop) : Prop := lp (mk 41 0 [0, 1, 5, 14, 15, 16]) (zcqZ [true, true, true, false, true, false, false] 8) [x0, x1, x5, x14, x15, x16] H (kBlk 0 (kSeq (zcqZ [true, true, true, true] 13) (kRet Try.prog Try.f12.results.toList K)))
def zdtZ (R7 : List AV → AH → Prop) (x0 x1 x5 x14 x15 x16 : AV) (H : AH) (K : AV → AH → Prop) : Prop :=
bO (abI .add x16 (.lit (.int .i64 1))) fun v0 =>
R7 [x0, x1, x5, x14, x15, v0] H
theorem zgdZ (R7 : List AV → AH → Prop) (x0 x1 x5 x14 x15 x16 : AV) (H : AH) (K : AV → AH → Prop) : zfcZ R7 x0 x1 x5 x14 x15 x16 H K = zdtZ R7 x0 x1 x5 x14 x15 x16 H K := (jn_eq _ _ _ _ _).trans (by kernel_rfl)
def zdyZ (R7 : List AV → AH → Prop) (x0 x1 x5 x14 x15 x16 : AV) (H : AH) (K : AV → AH → Prop) : Prop :=
bO (abI .lss x16 x15) fun v0 =>
bB v0 fun t1 => bI t1 (
bO (aixS 8 x14 x16) fun v2 =>
bO (ald true 8 H v2) fun v3 =>
bH (anew H (.agg [(.lit (.int .i64 0)), (.lit (.int .i64 0)), (.lit (.int .i64 0)), (.lit (.int .i64 0)), (.lit (.bool false)), (.lit (.string ⟨#[]⟩)), (.lit (.string ⟨#[]⟩)), (.lit (.slice none 0 0))])) fun v4 H5 =>
bS (ast 8 H5 v4 v3) fun H6 =>
bO (ald true 8 H6 v4) fun v7 =>
bP (PCall Try.prog 38 [v7, x1] H6) fun v8 =>
bB v8 fun t9 => bI t9 (
bO (zcZ x0) fun v10 =>
bO (ashift 3 v10) fun v11 =>
bO (ald true 2 H6 v11) fun v12 =>
bO (ald true 8 H6 v4) fun v13 =>
bP (BPure Try.prog 39 [v12, v13]) fun v14 =>
bO (zcZ x0) fun v15 =>
bO (ashift 3 v15) fun v16 =>
bS (ast 2 H6 v16 v14) fun H17 =>
zfcZ R7 x0 x1 x5 x14 x15 x16 H17 K)
 (bO (ald true 8 H6 v4) fun v18 =>
bH (absl H6 8 1 (zrow [(.lit (.int .i64 0)), (.lit (.int .i64 0)), (.lit (.int .i64 0)), (.lit (.int .i64 0)), (.lit (.bool false)), (.lit (.string ⟨#[]⟩)), (.lit (.string ⟨#[]⟩)), (.lit (.slice none 0 0))] 1) [(0, 8, v18)]) fun v19 H20 =>
bH (aap 8 96 H20 x5 v19) fun v21 H22 =>
zfcZ R7 x0 x1 v21 x14 x15 x16 H22 K))
 (bO (zcZ x0) fun v23 =>
bO (ashift 5 v23) fun v24 =>
bS (ast 1 H v24 x5) fun H25 =>
K (.lit (.int .i64 0)) H25)
theorem zkoZ (R7 : List AV → AH → Prop) (x0 x1 x5 x14 x15 x16 : AV) (H : AH) (K : AV → AH → Prop) : zcqZ [true, true, true, false, true, false, false] 8 (expand (mk 41 0 [0, 1, 5, 14, 15, 16]) [x0, x1, x5, x14, x15, x16]) H (kLp (mk 41 0 [0, 1, 5, 14, 15, 16]) R7 (kBlk 0 (kSeq (zcqZ [true, true, true, true] 13) (kRet Try.prog Try.f12.results.toList K)))) = zdyZ R7 x0 x1 x5 x14 x15 x16 H K := by kernel_rfl
theorem zjmZ {K : AV → AH → Prop} (I : Nat → AV → AV → AV → AV → AV → AV → AH → Prop) (round : ∀ (n : Nat) (x0 x1 x5 x14 x15 x16 : AV) (H : AH) (R : List AV → AH → Prop), (∀ (m : Nat) (y0 y1 y5 y14 y15 y16 : AV) (H' : AH), m < n → I m y0 y1 y5 y14 y15 y16 H' → R [y0, y1, y5, y14, y15, y16] H') → I n x0 x1 x5 x14 x15 x16 H → zdyZ R x0 x1 x5 x14 x15 x16 H K) (n : Nat) {x0 x1 x5 x14 x15 x16 : AV} {H : AH} (h : I n x0 x1 x5 x14 x15 x16 H) : zinZ x0 x1 x5 x14 x15 x16 H K := by
 refine lp_upto (zbkZ _ _) (LI6 I) ?_ n h
 intro n X H h
 obtain ⟨x0, x1, x5, x14, x15, x16, rfl, h⟩ := h.elim
 exact Eq.mpr (zkoZ _ x0 x1 x5 x14 x15 x16 H K) (round n x0 x1 x5 x14 x15 x16 H (fun X H' => ∃ m, m < n ∧ LI6 I m X H') (fun m y0 y1 y5 y14 y15 y16 H' hm hi => ⟨m, hm, hi⟩) h)
def zhvZ (a0 a1 : AV) (H : AH) (K : AV → AH → Prop) : Prop :=
bC (BCall Try.prog 37 [a0] H) fun v0 H1 =>
bO (aun .not v0) fun v2 =>
bB v2 fun t3 => bI t3 (
K (.lit (.int .i64 8)) H1)
 (bO (zcZ a0) fun v4 =>
bO (ashift 5 v4) fun v5 =>
bO (ald false 1 H1 v5) fun v6 =>
bO (alnS v6) fun v7 =>
zinZ a0 a1 (.lit (.slice none 0 0)) v6 v7 (.lit (.int .i64 0)) H1 K)
theorem store_Store_Sync_eq (a0 a1 : AV) (H : AH) (K : AV → AH → Prop) : sFun Try.prog ziqZ pqe none0 none0 zioZ Try.f12 [a0, a1] H K = zhvZ a0 a1 H K := by kernel_rfl
theorem store_Store_Sync_ok {a0 a1 : AV} {H : AH} {K : AV → AH → Prop} (h : zhvZ a0 a1 H K) : ∃ r H', K r H' ∧ BCall Try.prog 12 [a0, a1] H r H' :=
 sFun_ok mixP Try.func12 (by kernel_rfl) (Eq.mpr (store_Store_Sync_eq a0 a1 H K) h)
/-! salvor/store.has -/
/-! salvor/store.has$1 -/
/-! salvor/store.stays -/
def store_stays_fl : Floats := flOf []
def store_stays_kp : Nat → Option (List Bool) := kpOf [(1, mk 15 0 [1, 2]), (3, mk 15 0 [1, 2, 7])]
def store_stays_c (p : List Bool) (n : Nat) : List AV → AH → Kf → Prop := sCode Try.prog store_stays_fl pqe none0 none0 store_stays_kp (sub p (bodyOf Try.f38)) n
def zjrZ (x1 x2 : AV) (H : AH) (K : AV → AH → Prop) : Prop := jn (mk 15 0 [1, 2]) (store_stays_c [true, true] 7) [x1, x2] H (kRet Try.prog Try.f38.results.toList K)
def zhlZ (x1 x2 x7 : AV) (H : AH) (K : AV → AH → Prop) : Prop := jn (mk 15 0 [1, 2, 7]) (store_stays_c [true, false, true, false, true] 6) [x1, x2, x7] H (kBlk 0 (kSeq (cutC (mk 15 0 [1, 2]) (store_stays_c [true, true] 7)) (kRet Try.prog Try.f38.results.toList K)))
def zkrZ (x1 x2 : AV) (H : AH) (K : AV → AH → Prop) : Prop :=
bO (ashift 1 x2) fun v0 =>
bO (ald false 1 H v0) fun v1 =>
bP (PCall Try.prog 53 [x1, v1] H) fun v2 =>
K v2 H
theorem store_stays_J1_eq (x1 x2 : AV) (H : AH) (K : AV → AH → Prop) : zjrZ x1 x2 H K = zkrZ x1 x2 H K := (jn_eq _ _ _ _ _).trans (by kernel_rfl)
def zgbZ (x1 x2 x7 : AV) (H : AH) (K : AV → AH → Prop) : Prop :=
bB x7 fun t0 => bI t0 (
K (.lit (.bool true)) H)
 (zjrZ x1 x2 H K)
theorem zhfZ (x1 x2 x7 : AV) (H : AH) (K : AV → AH → Prop) : zhlZ x1 x2 x7 H K = zgbZ x1 x2 x7 H K := (jn_eq _ _ _ _ _).trans (by kernel_rfl)
def store_stays (a0 a1 : AV) (H : AH) (K : AV → AH → Prop) : Prop :=
bH (anew H a0) fun v0 H1 =>
bO (ashift 0 v0) fun v2 =>
bO (ald false 1 H1 v2) fun v3 =>
bO (abI .eql v3 (.lit (.int .i64 1))) fun v4 =>
bB v4 fun t5 => bI t5 (
zhlZ a1 v0 v4 H1 K)
 (bO (abI .eql v3 (.lit (.int .i64 6))) fun v6 =>
bB v6 fun t7 => bI t7 (
zhlZ a1 v0 v6 H1 K)
 (bO (abI .eql v3 (.lit (.int .i64 7))) fun v8 =>
zhlZ a1 v0 v8 H1 K))
theorem store_stays_eq (a0 a1 : AV) (H : AH) (K : AV → AH → Prop) : sFun Try.prog store_stays_fl pqe none0 none0 store_stays_kp Try.f38 [a0, a1] H K = store_stays a0 a1 H K := by kernel_rfl
theorem store_stays_ok {a0 a1 : AV} {H : AH} {K : AV → AH → Prop} (h : store_stays a0 a1 H K) : ∃ r H', K r H' ∧ BCall Try.prog 38 [a0, a1] H r H' :=
 sFun_ok mixP Try.func38 (by kernel_rfl) (Eq.mpr (store_stays_eq a0 a1 H K) h)
/-! slices.ContainsFunc[[]salvor/api.Ext,salvor/api.Ext] -/
/-! slices.Contains[[]int,int] -/
def ziaZ : Floats := flOf []
def zihZ : Nat → Option (List Bool) := kpOf []
def zdhZ (a0 a1 : AV) (H : AH) (K : AV → AH → Prop) : Prop :=
bP (PCall Try.prog 76 [a0, a1] H) fun v0 =>
bO (abI .geq v0 (.lit (.int .i64 0))) fun v1 =>
K v1 H
theorem zhzZ (a0 a1 : AV) (H : AH) (K : AV → AH → Prop) : sFun Try.prog ziaZ pqe none0 none0 zihZ Try.f53 [a0, a1] H K = zdhZ a0 a1 H K := by kernel_rfl
theorem zidZ {a0 a1 : AV} {H : AH} {K : AV → AH → Prop} (h : zdhZ a0 a1 H K) : ∃ r H', K r H' ∧ BCall Try.prog 53 [a0, a1] H r H' :=
 sFun_ok mixP Try.func53 (by kernel_rfl) (Eq.mpr (zhzZ a0 a1 H K) h)
/-! slices.Index[[]int,int] -/
def zfrZ : Floats := flOf []
def zfpZ : Nat → Option (List Bool) := kpOf [(3, mk 19 0 [0, 1, 7, 8])]
def zcsZ (p : List Bool) (n : Nat) : List AV → AH → Kf → Prop := sCode Try.prog zfrZ pqe none0 none0 zfpZ (sub p (bodyOf Try.f76)) n
def zfqZ (x0 x1 x7 x8 : AV) (H : AH) (K : AV → AH → Prop) : Prop := lp (mk 19 0 [0, 1, 7, 8]) (zcsZ [true, false, true, false, false] 4) [x0, x1, x7, x8] H (kBlk 0 (kSeq (zcsZ [true, true] 10) (kRet Try.prog Try.f76.results.toList K)))
def zdaZ (R3 : List AV → AH → Prop) (x0 x1 x7 x8 : AV) (H : AH) (K : AV → AH → Prop) : Prop :=
bO (abI .lss x8 x7) fun v0 =>
bB v0 fun t1 => bI t1 (
bO (aixS 1 x0 x8) fun v2 =>
bO (ald false 1 H v2) fun v3 =>
bO (abI .eql x1 v3) fun v4 =>
bB v4 fun t5 => bI t5 (
K x8 H)
 (bO (abI .add x8 (.lit (.int .i64 1))) fun v6 =>
R3 [x0, x1, x7, v6] H))
 (K (.lit (.int .i64 (-1))) H)
theorem zicZ (R3 : List AV → AH → Prop) (x0 x1 x7 x8 : AV) (H : AH) (K : AV → AH → Prop) : zcsZ [true, false, true, false, false] 4 (expand (mk 19 0 [0, 1, 7, 8]) [x0, x1, x7, x8]) H (kLp (mk 19 0 [0, 1, 7, 8]) R3 (kBlk 0 (kSeq (zcsZ [true, true] 10) (kRet Try.prog Try.f76.results.toList K)))) = zdaZ R3 x0 x1 x7 x8 H K := by kernel_rfl
theorem zheZ {K : AV → AH → Prop} (I : Nat → AV → AV → AV → AV → AH → Prop) (round : ∀ (n : Nat) (x0 x1 x7 x8 : AV) (H : AH) (R : List AV → AH → Prop), (∀ (m : Nat) (y0 y1 y7 y8 : AV) (H' : AH), m < n → I m y0 y1 y7 y8 H' → R [y0, y1, y7, y8] H') → I n x0 x1 x7 x8 H → zdaZ R x0 x1 x7 x8 H K) (n : Nat) {x0 x1 x7 x8 : AV} {H : AH} (h : I n x0 x1 x7 x8 H) : zfqZ x0 x1 x7 x8 H K := by
 refine lp_upto (zbkZ _ _) (LI4 I) ?_ n h
 intro n X H h
 obtain ⟨x0, x1, x7, x8, rfl, h⟩ := h.elim
 exact Eq.mpr (zicZ _ x0 x1 x7 x8 H K) (round n x0 x1 x7 x8 H (fun X H' => ∃ m, m < n ∧ LI4 I m X H') (fun m y0 y1 y7 y8 H' hm hi => ⟨m, hm, hi⟩) h)
def zebZ (a0 a1 : AV) (H : AH) (K : AV → AH → Prop) : Prop :=
bO (alnS a0) fun v0 =>
zfqZ a0 a1 v0 (.lit (.int .i64 0)) H K
theorem zjoZ (a0 a1 : AV) (H : AH) (K : AV → AH → Prop) : sFun Try.prog zfrZ pqe none0 none0 zfpZ Try.f76 [a0, a1] H K = zebZ a0 a1 H K := by kernel_rfl
theorem zjnZ {a0 a1 : AV} {H : AH} {K : AV → AH → Prop} (h : zebZ a0 a1 H K) : ∃ r H', K r H' ∧ BCall Try.prog 76 [a0, a1] H r H' :=
 sFun_ok mixP Try.func76 (by kernel_rfl) (Eq.mpr (zjoZ a0 a1 H K) h)
/-! slices.Clone[[]byte,byte] -/
/-! salvor/salvorkeep.Right -/
def salvorkeep_Right_fl : Floats := flOf []
def salvorkeep_Right_kp : Nat → Option (List Bool) := kpOf []
def zieZ (a0 : AV) (H : AH) (K : AV → AH → Prop) : Prop :=
bH (absl H 1 6 (zrow [(.lit (.string ⟨#[]⟩))] 6) [(0, 1, (.lit (.string ⟨#[97]⟩))), (1, 1, (.lit (.string ⟨#[98]⟩))), (2, 1, (.lit (.string ⟨#[99]⟩))), (3, 1, (.lit (.string ⟨#[100, 115, 116]⟩))), (4, 1, (.lit (.string ⟨#[109, 97, 112]⟩))), (5, 1, (.lit (.string ⟨#[120, 45, 49]⟩)))]) fun v0 H1 =>
bO (abI .rem a0 (.lit (.int .u8 6))) fun v2 =>
bO (aixS 1 v0 v2) fun v3 =>
bO (ald false 1 H1 v3) fun v4 =>
K v4 H1
theorem salvorkeep_Right_eq (a0 : AV) (H : AH) (K : AV → AH → Prop) : sFun Try.prog salvorkeep_Right_fl pqe none0 none0 salvorkeep_Right_kp Try.f16 [a0] H K = zieZ a0 H K := by kernel_rfl
theorem salvorkeep_Right_ok {a0 : AV} {H : AH} {K : AV → AH → Prop} (h : zieZ a0 H K) : ∃ r H', K r H' ∧ BCall Try.prog 16 [a0] H r H' :=
 sFun_ok mixP Try.func16 (by kernel_rfl) (Eq.mpr (salvorkeep_Right_eq a0 H K) h)
/-! salvor/salvorlaw13.StoreNumbers -/
def zdvZ : Floats := flOf []
def zdwZ : Nat → Option (List Bool) := kpOf [(14, mk 85 0 [0, 3, 4, 5]), (11, mk 85 0 [0, 3, 4, 5])]
def ztZ (p : List Bool) (n : Nat) : List AV → AH → Kf → Prop := sCode Try.prog zdvZ pqe none0 none0 zdwZ (sub p (bodyOf Try.f4)) n
def zoZ (R11 : List AV → AH → Prop) (x0 x3 x4 x5 : AV) (H : AH) (K : AV → AH → Prop) : Prop := jn (mk 85 0 [0, 3, 4, 5]) (ztZ [true, true, true, true, true, false, true, false, false, true, true] 25) [x0, x3, x4, x5] H (kLp (mk 85 0 [0, 3, 4, 5]) R11 (kBlk 0 (kSeq (ztZ [true, true, true, true, true, true] 25) (kRet Try.prog Try.f4.results.toList K))))
def zdrZ (x0 x3 x4 x5 : AV) (H : AH) (K : AV → AH → Prop) : Prop := lp (mk 85 0 [0, 3, 4, 5]) (ztZ [true, true, true, true, true, false, true, false, false] 12) [x0, x3, x4, x5] H (kBlk 0 (kSeq (ztZ [true, true, true, true, true, true] 25) (kRet Try.prog Try.f4.results.toList K)))
def zdkZ (R11 : List AV → AH → Prop) (x0 x3 x4 x5 : AV) (H : AH) (K : AV → AH → Prop) : Prop :=
bO (abI .add x5 (.lit (.int .i64 1))) fun v0 =>
R11 [x0, x3, x4, v0] H
theorem zgkZ (R11 : List AV → AH → Prop) (x0 x3 x4 x5 : AV) (H : AH) (K : AV → AH → Prop) : zoZ R11 x0 x3 x4 x5 H K = zdkZ R11 x0 x3 x4 x5 H K := (jn_eq _ _ _ _ _).trans (by kernel_rfl)
def zcaZ (R11 : List AV → AH → Prop) (x0 x3 x4 x5 : AV) (H : AH) (K : AV → AH → Prop) : Prop :=
bO (alnS x0) fun v0 =>
bO (abI .lss x5 v0) fun v1 =>
bB v1 fun t2 => bI t2 (
bO (aixS 1 x0 x5) fun v3 =>
bO (ald false 1 H v3) fun v4 =>
bP (PCall Try.prog 16 [v4] H) fun v5 =>
bO (aixS 1 x0 x5) fun v6 =>
bO (ald false 1 H v6) fun v7 =>
bO (abI .quo v7 (.lit (.int .u8 8))) fun v8 =>
bO (abI .rem v8 (.lit (.int .u8 5))) fun v9 =>
bO (abI .eql v9 (.lit (.int .u8 0))) fun v10 =>
bB v10 fun t11 => bI t11 (
bC (BCall Try.prog 17 [x3, v5] H) fun v12 H13 =>
zoZ R11 x0 x3 x4 x5 H13 K)
 (bO (abI .eql v9 (.lit (.int .u8 1))) fun v14 =>
bB v14 fun t15 => bI t15 (
bC (BCall Try.prog 13 [x3, (.lit (.slice none 0 0))] H) fun v16 H17 =>
zoZ R11 x0 x3 x4 x5 H17 K)
 (bO (abI .eql v9 (.lit (.int .u8 2))) fun v18 =>
bB v18 fun t19 => bI t19 (
bC (BCall Try.prog 12 [x3, (.lit (.slice none 0 0))] H) fun v20 H21 =>
zoZ R11 x0 x3 x4 x5 H21 K)
 (bC (BCall Try.prog 19 [x3] H) fun v22 H23 =>
bP (PCall Try.prog 18 [v22, v5] H23) fun v24 =>
bO (zqZ v24 0) fun v25 =>
bO (zqZ v24 1) fun v26 =>
bC (BCall Try.prog 10 [x3, v5, (.lit (.bool true))] H23) fun v27 H28 =>
bO (zqZ v27 0) fun v29 =>
bO (zqZ v27 1) fun v30 =>
bO (abI .neq v30 (.lit (.int .i64 0))) fun v31 =>
bG v31 false fun w32 =>
gO w32 (some v26) fun v33 =>
bG v31 false fun w34 =>
gO w34 (aun .not v33) fun v35 =>
bG v31 false fun w36 =>
gO w36 (some v35) fun v37 =>
bG v37 true fun w38 =>
gO w38 (some v29) fun v39 =>
bG v37 true fun w40 =>
gO w40 (some x4) fun v41 =>
bG v37 true fun w42 =>
gO w42 (abI .add v41 (.lit (.int .i64 1))) fun v43 =>
bG v37 true fun w44 =>
gO w44 (abI .neq v39 v43) fun v45 =>
bG v31 false fun w46 =>
gO w46 (apick v37 v45 (.lit (.bool false))) fun v47 =>
bO (apick v31 (.lit (.bool true)) v47) fun v48 =>
bG v48 false fun w49 =>
gO w49 (some v26) fun v50 =>
bG v48 false fun w51 =>
gO w51 (some v50) fun v52 =>
bG v52 true fun w53 =>
gO w53 (some v29) fun v54 =>
bG v52 true fun w55 =>
gO w55 (some x4) fun v56 =>
bG v52 true fun w57 =>
gO w57 (abI .gtr v54 v56) fun v58 =>
bG v48 false fun w59 =>
gO w59 (apick v52 v58 (.lit (.bool false))) fun v60 =>
bO (apick v48 (.lit (.bool true)) v60) fun v61 =>
bB v61 fun t62 => bI t62 (
K (.lit (.bool false)) H28)
 (bO (amm imx [x4, v29]) fun v63 =>
zoZ R11 x0 x3 v63 x5 H28 K)))))
 (bP (PCall Try.prog 3 [] H) fun v64 =>
K v64 H)
theorem zgpZ (R11 : List AV → AH → Prop) (x0 x3 x4 x5 : AV) (H : AH) (K : AV → AH → Prop) : ztZ [true, true, true, true, true, false, true, false, false] 12 (expand (mk 85 0 [0, 3, 4, 5]) [x0, x3, x4, x5]) H (kLp (mk 85 0 [0, 3, 4, 5]) R11 (kBlk 0 (kSeq (ztZ [true, true, true, true, true, true] 25) (kRet Try.prog Try.f4.results.toList K)))) = zcaZ R11 x0 x3 x4 x5 H K := by kernel_rfl
theorem zfwZ {K : AV → AH → Prop} (I : Nat → AV → AV → AV → AV → AH → Prop) (round : ∀ (n : Nat) (x0 x3 x4 x5 : AV) (H : AH) (R : List AV → AH → Prop), (∀ (m : Nat) (y0 y3 y4 y5 : AV) (H' : AH), m < n → I m y0 y3 y4 y5 H' → R [y0, y3, y4, y5] H') → I n x0 x3 x4 x5 H → zcaZ R x0 x3 x4 x5 H K) (n : Nat) {x0 x3 x4 x5 : AV} {H : AH} (h : I n x0 x3 x4 x5 H) : zdrZ x0 x3 x4 x5 H K := by
 refine lp_upto (zbkZ _ _) (LI4 I) ?_ n h
 intro n X H h
 obtain ⟨x0, x3, x4, x5, rfl, h⟩ := h.elim
 exact Eq.mpr (zgpZ _ x0 x3 x4 x5 H K) (round n x0 x3 x4 x5 H (fun X H' => ∃ m, m < n ∧ LI4 I m X H') (fun m y0 y3 y4 y5 H' hm hi => ⟨m, hm, hi⟩) h)
def zdiZ (a0 : AV) (H : AH) (K : AV → AH → Prop) : Prop :=
bO (alnS a0) fun v0 =>
bO (abI .gtr v0 (.lit (.int .i64 60))) fun v1 =>
bB v1 fun t2 => bI t2 (
bP (PCall Try.prog 3 [] H) fun v3 =>
K v3 H)
 (bC (BCall Try.prog 9 [(.lit (.int .i64 3))] H) fun v4 H5 =>
bO (abN .eql nilP v4 (.lit (.pointer none))) fun v6 =>
bB v6 fun t7 => bI t7 (
K (.lit (.bool false)) H5)
 (zdrZ a0 v4 (.lit (.int .i64 0)) (.lit (.int .i64 0)) H5 K))
theorem zifZ (a0 : AV) (H : AH) (K : AV → AH → Prop) : sFun Try.prog zdvZ pqe none0 none0 zdwZ Try.f4 [a0] H K = zdiZ a0 H K := by kernel_rfl
theorem zigZ {a0 : AV} {H : AH} {K : AV → AH → Prop} (h : zdiZ a0 H K) : ∃ r H', K r H' ∧ BCall Try.prog 4 [a0] H r H' :=
 sFun_ok mixP Try.func4 (by kernel_rfl) (Eq.mpr (zifZ a0 H K) h)
end Go.Proofs.Ytofgloiebnppbaa.Av
end
/-! YtofgloiebnppbaaAvSt -/
section
/- Chapter 13: a store, in plain words, and as it lies in the heap. -/
set_option linter.unusedVariables false
set_option linter.unusedSimpArgs false
set_option maxRecDepth 100000
namespace Go.Proofs.Ytofgloiebnppbaa.Av
open Go Go.RowKit

abbrev Img := List Nm × List Nd
structure StS where
 cap : Int
 now : Img
 kept : Img
 pend : List OpM
 made : Int
 armed : Int
 off : Bool
def newS (room : Int) : StS := ⟨min (max room 0) 4096, ([], []), ([], []), [], 0, -1, false⟩
def wt (o : OpM) : Nat := 1 + o.b.length + if o.kind = 4 then 4098 else 0
def wts (l : List OpM) : Nat := (l.map wt).sum
theorem chg_wt {o : OpM} {d : Nd} {c : Cont} (h : chgC o d = some c) : c.2.length ≤ d.l.length + wt o := by
 have h4 := chg_len (o := o) (d := d)
 rw [h] at h4
 simp only [cL, Option.getD_some] at h4
 unfold wt
 by_cases c4 : o.kind = 4
 ·rw [if_pos c4]; omega
 ·rw [if_neg c4]
  unfold chgC at h
  split at h
  ·unfold writeC at h
   split at h
   ·injection h with h
    subst h
    split
    ·simp
    ·have := wr_len12 (bs := o.b) (l := d.l) (p := o.pos)
     simp only; omega
   ·cases h
  ·split at h
   ·unfold truncC at h
    split at h
    ·injection h with h
     subst h
     simp only [truncL, wipeL, List.length_map]
     exact Nat.le_trans (List.length_filter_le _ _) (by omega)
    ·cases h
   ·split at h
    ·unfold punchC at h
     split at h
     ·injection h with h
      subst h
      simp only [punchL, wipeL, List.length_map]
      exact Nat.le_trans (List.length_filter_le _ _) (by omega)
     ·cases h
    ·cases h
def Few1 (M : Nat) (i : Img) : Prop := MayW i.1 i.2 ∧ ∀ d ∈ i.2, d.l.length ≤ M
theorem remD_mem {ns : List Nm} {ds : List Nd} {s : List UInt8} {d : Nd} (h : d ∈ remD ns ds s) : d ∈ ds := by
 unfold remD at h
 split at h
 ·exact delK_sub.subset h
 ·exact h
theorem Few1.step {M : Nat} {i : Img} (h : Few1 M i) (o : OpM) : Few1 (M + wt o) (applyI i.1 i.2 o) := by
 refine ⟨applyI_w h.1 o, fun d hd => ?_⟩
 have old : d ∈ i.2 → d.l.length ≤ M + wt o := fun hd => Nat.le_trans (h.2 d hd) (by omega)
 unfold applyI at hd
 rw [if_pos (mayI_w.2 h.1)] at hd
 split at hd
 ·split at hd
  ·rcases mem_insK.1 hd with rfl | hd
   ·simp
   ·exact old hd
  ·exact old hd
 ·split at hd
  ·rcases mem_chgD h.1.sd hd with hd | ⟨-, e, he, -, hc⟩
   ·exact old hd
   ·have := chg_wt hc
    have := h.2 e he
    simp only at *
    omega
  ·split at hd
   ·split at hd
    ·exact old (remD_mem hd)
    ·exact old hd
   ·split at hd
    ·exact old (remD_mem hd)
    ·exact old hd
theorem Few1.mono {M M' : Nat} {i : Img} (h : Few1 M i) (hm : M ≤ M') : Few1 M' i := ⟨h.1, fun d hd => Nat.le_trans (h.2 d hd) hm⟩
theorem MayW.len2 {ns : List Nm} {ds : List Nd} (h : MayW ns ds) : ds.length ≤ 16 := by
 have := (mayI_w.2 h).2.1
 have := h.len
 omega
theorem Few1.sm {M : Nat} {i : Img} (h : Few1 M i) (hm : M ≤ 1000000) : Sm i.1 i.2 :=
 ⟨by have := h.1.len; omega, by have := h.1.len2; omega, fun x hx => by have := (h.1.nm x hx).1.2.1; omega, fun d hd => Nat.le_trans (h.2 d hd) hm⟩
def OpB (o : OpM) : Prop := o.b.length ≤ 5000 ∧ o.name.length ≤ 20 ∧ o.to.length ≤ 20
structure SW (N : Nat) (s : StS) : Prop where
 now : Few1 N s.now
 kept : ∃ a, Few1 a s.kept ∧ a + wts s.pend ≤ N
 ob : ∀ o ∈ s.pend, OpB o
 made : 0 ≤ s.made ∧ s.made ≤ N
 cap : 0 ≤ s.cap ∧ s.cap ≤ 4096
 armed : -1 ≤ s.armed ∧ s.armed ≤ 9223372036854775807
theorem wts_len {l : List OpM} : l.length ≤ wts l := by
 unfold wts
 induction l with
 | nil => simp
 | cons o l ih => simp only [List.map_cons, List.sum_cons, List.length_cons]; unfold wt at *; omega
theorem wts_snoc {l : List OpM} {o : OpM} : wts (l ++ [o]) = wts l + wt o := by simp [wts]
theorem SW.plen {N : Nat} {s : StS} (h : SW N s) : s.pend.length ≤ N := by
 obtain ⟨a, -, h2⟩ := h.kept
 have := wts_len (l := s.pend)
 omega
theorem SW.mono {N N' : Nat} {s : StS} (h : SW N s) (hn : N ≤ N') : SW N' s :=
 ⟨h.now.mono hn, by obtain ⟨a, h1, h2⟩ := h.kept; exact ⟨a, h1, by omega⟩, h.ob, by have := h.made; omega, h.cap, h.armed⟩
theorem mayW_nil : MayW [] [] := ⟨by simp, by simp, by simp [srtK], by simp, by simp [srtK], by simp, fun i => by simp [hasK]⟩
theorem newS_w (room : Int) : SW 0 (newS room) :=
 ⟨⟨mayW_nil, by simp [newS]⟩, ⟨0, ⟨mayW_nil, by simp [newS]⟩, by simp [newS, wts]⟩, by simp [newS], by simp [newS], by simp [newS]; omega, by simp [newS]⟩
/-! deeds -/
def deedS (s : StS) : Bool × StS :=
 if s.off = true ∨ s.armed = 0 then (false, { s with off := true })
 else if 0 < s.armed then (true, { s with armed := s.armed - 1 })
 else (true, s)
def doS (s : StS) (o : OpM) : Int × StS :=
 if (deedS s).1 = true then (0, { (deedS s).2 with now := applyI s.now.1 s.now.2 o, pend := s.pend ++ [o] }) else (8, (deedS s).2)
theorem deedS_w {N : Nat} {s : StS} (h : SW N s) : SW N (deedS s).2 := by
 unfold deedS
 split
 ·exact ⟨h.now, h.kept, h.ob, h.made, h.cap, h.armed⟩
 ·split
  ·exact ⟨h.now, h.kept, h.ob, h.made, h.cap, by have := h.armed; simp only; omega⟩
  ·exact h
theorem deedS_same (s : StS) : (deedS s).2.now = s.now ∧ (deedS s).2.kept = s.kept ∧ (deedS s).2.pend = s.pend ∧ (deedS s).2.made = s.made ∧ (deedS s).2.cap = s.cap := by
 unfold deedS
 split
 ·exact ⟨rfl, rfl, rfl, rfl, rfl⟩
 ·split <;> exact ⟨rfl, rfl, rfl, rfl, rfl⟩
theorem doS_w {N : Nat} {s : StS} {o : OpM} (h : SW N s) (ho : OpB o) : SW (N + wt o) (doS s o).2 := by
 have hd := deedS_w h
 obtain ⟨e1, e2, e3, e4, e5⟩ := deedS_same s
 unfold doS
 split
 ·obtain ⟨a, h1, h2⟩ := h.kept
  refine ⟨h.now.step o, ⟨a, by simp only [e2]; exact h1, by simp only [wts_snoc]; omega⟩, ?_, by simp only [e4]; have := h.made; omega, by simp only [e5]; exact h.cap, hd.armed⟩
  intro x hx
  simp only [List.mem_append, List.mem_singleton] at hx
  rcases hx with hx | rfl
  ·exact h.ob x hx
  ·exact ho
 ·exact hd.mono (by omega)
/-! in the heap -/
structure StC (s : StS) (os : Nat) (a b c d p : AV) (pv : List OpV) (H : AH) : Prop where
 obj : H[os]? = some (some (.cells [I s.cap, a, b, c, d, p, I s.made, I s.armed, B s.off]))
 now : ImV s.now.1 s.now.2 (.agg [a, b])
 kept : ImV s.kept.1 s.kept.2 (.agg [c, d])
 pm : pv.map OpV.o = s.pend
 ps : zaZ H 8 p = some (pv.flatMap encO, pv.length)
 po : ownedS p = true
 pi : os ∉ idS p
 pc : capOk p pv.length
def StAt (s : StS) (os : Nat) (p : AV) (H : AH) : Prop := ∃ a b c d pv, StC s os a b c d p pv H
structure StF (os : Nat) (p p' : AV) (H H' : AH) : Prop where
 len : H.length ≤ H'.length
 same : ∀ j, j < H.length → j ≠ os → j ∉ idS p → H'[j]? = H[j]?
 ids : ∀ j ∈ idS p', j ∈ idS p ∨ H.length ≤ j
theorem StF.refl (os : Nat) (p : AV) (H : AH) : StF os p p H H := ⟨Nat.le_refl _, fun _ _ _ _ => rfl, fun _ h => .inl h⟩
theorem StF.trans {os : Nat} {p p' p'' : AV} {A B C : AH} (h : StF os p p' A B) (k : StF os p' p'' B C) : StF os p p'' A C :=
  ⟨Nat.le_trans h.len k.len, fun j hj hne hp => by
    rw [k.same j (Nat.lt_of_lt_of_le hj h.len) hne (fun hp' => (h.ids j hp').elim hp (fun q => by omega)), h.same j hj hne hp],
   fun j hj => (k.ids j hj).elim (h.ids j) (fun q => .inr (Nat.le_trans h.len q))⟩
theorem StF.of_grew {os : Nat} {p : AV} {H H' : AH} (g : Grew H H') : StF os p p H H' := ⟨g.1, fun j hj _ _ => g.2 j hj, fun _ h => .inl h⟩
theorem StF.grew {os : Nat} {p p' : AV} {H H' H'' : AH} (h : StF os p p' H H') (g : Grew H' H'') : StF os p p' H H'' := h.trans (.of_grew g)
theorem StC.lt {s : StS} {os : Nat} {a b c d p : AV} {pv : List OpV} {H : AH} (h : StC s os a b c d p pv H) : os < H.length := (List.getElem?_eq_some_iff.1 h.obj).1
theorem StC.grew {s : StS} {os : Nat} {a b c d p : AV} {pv : List OpV} {H H' : AH} (h : StC s os a b c d p pv H) (g : Grew H H') : StC s os a b c d p pv H' :=
 ⟨g.cells h.obj, h.now, h.kept, h.pm, g.slice h.ps, h.po, h.pi, h.pc⟩
theorem StAt.grew {s : StS} {os : Nat} {p : AV} {H H' : AH} (h : StAt s os p H) (g : Grew H H') : StAt s os p H' := by
 obtain ⟨a, b, c, d, pv, h⟩ := h
 exact ⟨a, b, c, d, pv, h.grew g⟩
theorem StC.set {s s' : StS} {os : Nat} {a b c d a' b' c' d' p : AV} {pv : List OpV} {H : AH} (h : StC s os a b c d p pv H) (hn : ImV s'.now.1 s'.now.2 (.agg [a', b'])) (hk : ImV s'.kept.1 s'.kept.2 (.agg [c', d'])) (hp : s'.pend = s.pend) :
  StC s' os a' b' c' d' p pv (H.set os (some (.cells [I s'.cap, a', b', c', d', p, I s'.made, I s'.armed, B s'.off]))) ∧ StF os p p H (H.set os (some (.cells [I s'.cap, a', b', c', d', p, I s'.made, I s'.armed, B s'.off]))) := by
 refine ⟨⟨List.getElem?_set_self h.lt, hn, hk, by rw [hp]; exact h.pm, zbZ h.ps fun i q => List.getElem?_set_ne (fun e => h.pi (by rw [e]; exact q)), h.po, h.pi, h.pc⟩, by simp, fun j _ hne _ => List.getElem?_set_ne (Ne.symm hne), fun _ q => .inl q⟩
theorem ImV.one {ns : List Nm} {ds : List Nd} {a b : AV} (h : ImV ns ds (.agg [a, b])) : oneA a = true ∧ oneA b = true := by
 obtain ⟨a', b', dv, e, h1, h2, -⟩ := h
 injection e with e
 injection e with e1 e2
 injection e2 with e2 _
 subst e1; subst e2
 exact ⟨SV.oneA h1, SV.oneA h2⟩
theorem ImV.agg2 {ns : List Nm} {ds : List Nd} {v : AV} (h : ImV ns ds v) : ∃ a b, v = .agg [a, b] ∧ oneA a = true ∧ oneA b = true := by
 obtain ⟨a, b, dv, rfl, h1, h2, -⟩ := h
 exact ⟨a, b, rfl, SV.oneA h1, SV.oneA h2⟩
theorem fld {H : AH} {os k : Nat} {cs : List AV} {x : AV} (h : H[os]? = some (some (.cells cs))) (hk : k < cs.length) (hx : oneA x = true) : ast 1 H (.ptr os k) x = some (H.set os (some (.cells (cs.set k x)))) := by
 rw [ast_ptr (n := 1) (xs := [x]) (cs := cs) (zdxZ hx) h rfl hk]; rfl
end Go.Proofs.Ytofgloiebnppbaa.Av
end
/-! YtofgloiebnppbaaAvSu -/
section
/- Chapter 13: a store's inner calls. -/
set_option linter.unusedVariables false
set_option linter.unusedSimpArgs false
set_option maxRecDepth 100000
namespace Go.Proofs.Ytofgloiebnppbaa.Av
open Go Go.RowKit

theorem rd2 (x y : AV) : rdCells true 2 [x, y] 0 = some (.agg [x, y]) := rfl
theorem top1 {H : AH} {x : AObj} : (H ++ [some x])[H.length]? = some (some x) := by simp
/-! making -/
theorem New_c (room : Int) (H : AH) (hr : room ≤ 9223372036854775807) : ∃ r H', (∃ p, r = .ptr H.length 0 ∧ H'.length = H.length + 1 ∧ StAt (newS room) H.length p H' ∧ Grew H H' ∧ idS p = []) ∧ BCall Try.prog 9 [I room] H r H' := store_New_ok (by
 unfold store_New
 have e1 : amm imx [I room, (.lit (.int .i64 0))] = some (I (max room 0)) := by rw [amm_two, imx_eq, Int.max_comm]
 have e2 : amm imn [I (max room 0), (.lit (.int .i64 4096))] = some (I (min (max room 0) 4096)) := by rw [amm_two, imn_eq, Int.min_comm]
 have e3 : abl [(.lit (.int .i64 0)), (.lit (.slice none 0 0)), (.lit (.slice none 0 0)), (.lit (.slice none 0 0)), (.lit (.slice none 0 0)), (.lit (.slice none 0 0)), (.lit (.int .i64 0)), (.lit (.int .i64 0)), (.lit (.bool false))] [(0, 1, I (min (max room 0) 4096)), (7, 1, (.lit (.int .i64 (-1))))] = some (.agg [I (min (max room 0) 4096), nilSl, nilSl, nilSl, nilSl, nilSl, I 0, I (-1), B false]) := rfl
 have e4 : anew H (.agg [I (min (max room 0) 4096), nilSl, nilSl, nilSl, nilSl, nilSl, I 0, I (-1), B false]) = some (.ptr H.length 0, H ++ [some (.cells [I (min (max room 0) 4096), nilSl, nilSl, nilSl, nilSl, nilSl, I 0, I (-1), B false])]) := by simp
 rw [e1, bO_some, e2, bO_some, e3, bO_some, e4, bH_some]
 have hI : ImV [] [] (.agg [nilSl, nilSl]) := ⟨nilSl, nilSl, [], rfl, SV.nil, SV.nil, rfl⟩
 exact ⟨nilSl, rfl, by simp, ⟨nilSl, nilSl, nilSl, nilSl, [], ⟨top1, hI, hI, rfl, rfl, rfl, by simp [idS], by simp [capOk]⟩⟩, Grew.app _ _, rfl⟩)
theorem deed_c {s : StS} {os : Nat} {p : AV} {H : AH} (h : StAt s os p H) (hb : -1 ≤ s.armed ∧ s.armed ≤ 9223372036854775807) : ∃ r H', (r = B (deedS s).1 ∧ StAt (deedS s).2 os p H' ∧ StF os p p H H') ∧ BCall Try.prog 37 [.ptr os 0] H r H' := store_Store_deed_ok (by
 obtain ⟨a, b, c, d, pv, h⟩ := h
 unfold zhoZ
 simp only [zjZ, bO_some, zblZ, Nat.zero_add, ald_ptr h.obj, zcyZ, List.getElem?_cons_succ, List.getElem?_cons_zero, bG_bool]
 have stop : s.off = true ∨ s.armed = 0 → bS (ast 1 H (.ptr os 8) (.lit (.bool true))) fun H17 => B false = B (deedS s).1 ∧ StAt (deedS s).2 os p H17 ∧ StF os p p H H17 := by
  intro hc
  have e : deedS s = (false, { s with off := true }) := by unfold deedS; rw [if_pos hc]
  rw [e]
  obtain ⟨h2, h3⟩ := h.set (s' := { s with off := true }) h.now h.kept rfl
  have e2 : ast 1 H (.ptr os 8) (B true) = some (H.set os (some (.cells [I s.cap, a, b, c, d, p, I s.made, I s.armed, B true]))) := fld h.obj (by simp) rfl
  simp only [e2, bS_some]
  exact ⟨by trivial, ⟨a, b, c, d, pv, h2⟩, h3⟩
 cases ho : s.off with
 | true =>
  simp only [show ((true == false) = false) from rfl, gO_false, bO_some, zhgZ, if_true, bB_bool, bI_true, zjZ, zblZ, Nat.zero_add]
  exact stop (.inl ho)
 | false =>
  simp only [beq_self_eq_true, gO_true, bO_some, zjZ, zblZ, Nat.zero_add, ald_ptr h.obj, zcyZ, List.getElem?_cons_succ, List.getElem?_cons_zero, abI_eql, zhgZ, if_false, Bool.false_eq_true, bB_bool]
  by_cases h0 : s.armed = 0
  ·simp only [h0, decide_true, bI_true]
   exact stop (.inr h0)
  ·simp only [h0, decide_false, zbtZ, abI_gtr, bB_bool]
   have hn : ¬ (s.off = true ∨ s.armed = 0) := by rintro (q | q); rw [ho] at q; cases q; exact h0 q
   by_cases hp : 0 < s.armed
   ·have e : deedS s = (true, { s with armed := s.armed - 1 }) := by unfold deedS; rw [if_neg hn, if_pos hp]
    rw [e]
    obtain ⟨h2, h3⟩ := h.set (s' := { s with armed := s.armed - 1 }) h.now h.kept rfl
    have e1 : abI .sub (I s.armed) (.lit (.int .i64 1)) = some (I (s.armed - 1)) := abI_sub (by omega) (by omega)
    have e2 : ast 1 H (.ptr os 7) (I (s.armed - 1)) = some (H.set os (some (.cells [I s.cap, a, b, c, d, p, I s.made, I (s.armed - 1), B s.off]))) := fld h.obj (by simp) rfl
    simp only [hp, decide_true, bI_true, e1, bO_some, e2, bS_some]
    rw [zgrZ]; unfold zeaZ
    exact ⟨rfl, ⟨a, b, c, d, pv, h2⟩, h3⟩
   ·have e : deedS s = (true, s) := by unfold deedS; rw [if_neg hn, if_neg hp]
    rw [e]
    simp only [hp, decide_false, zbtZ]
    rw [zgrZ]; unfold zeaZ
    exact ⟨rfl, ⟨a, b, c, d, pv, h⟩, .refl _ _ _⟩)
theorem rd9 (c a b d e f g h i : AV) : rdCells true 2 [c, a, b, d, e, f, g, h, i] 1 = some (.agg [a, b]) ∧ rdCells true 2 [c, a, b, d, e, f, g, h, i] 3 = some (.agg [d, e]) := ⟨rfl, rfl⟩
theorem st9 {H : AH} {os : Nat} {x0 x1 x2 x3 x4 x5 x6 x7 x8 a b : AV} (h : H[os]? = some (some (.cells [x0, x1, x2, x3, x4, x5, x6, x7, x8]))) (ha : oneA a = true) (hb : oneA b = true) :
  ast 2 H (.ptr os 1) (.agg [a, b]) = some (H.set os (some (.cells [x0, a, b, x3, x4, x5, x6, x7, x8]))) ∧ ast 2 H (.ptr os 3) (.agg [a, b]) = some (H.set os (some (.cells [x0, x1, x2, a, b, x5, x6, x7, x8]))) := by
 constructor
 ·rw [ast_ptr (n := 2) (off := 1) (xs := [a, b]) (by simp [ha, hb]) h rfl (by simp)]; rfl
 ·rw [ast_ptr (n := 2) (off := 3) (xs := [a, b]) (by simp [ha, hb]) h rfl (by simp)]; rfl
theorem idS_lt {s : StS} {os : Nat} {a b c d p : AV} {pv : List OpV} {H : AH} (h : StC s os a b c d p pv H) : ∀ j ∈ idS p, j < H.length := fun j q => zkZ h.ps j q
theorem do_c {N : Nat} {s : StS} {os : Nat} {p bv : AV} {H : AH} {o : OpM} (h : StAt s os p H) (hw : SW N s) (hN : N ≤ 900000) (hb : SV encU 1 o.b bv) (ho : OpB o) :
  ∃ r H', (r = I (doS s o).1 ∧ ∃ p', StAt (doS s o).2 os p' H' ∧ StF os p p' H H') ∧ BCall Try.prog 31 [.ptr os 0, .agg (opA o bv)] H r H' := store_Store_do_ok (by
 have h0 := h
 obtain ⟨a0, b0, c0, d0, pv0, hc0⟩ := h
 unfold zjwZ
 have obv := SV.oneA hb
 have e1 : anew H (.agg (opA o bv)) = some (.ptr H.length 0, H ++ [some (.cells (opA o bv))]) := by simp [opA, obv]
 have g := Grew.app H [some (.cells (opA o bv))]
 obtain ⟨r, H3, ⟨rfl, h3, f3⟩, hc⟩ := deed_c (h0.grew g) hw.armed
 rw [e1, bH_some]
 refine bC_of hc ?_
 have sm := hw.now.sm (by omega)
 obtain ⟨q1, q2, q3, q4, q5⟩ := deedS_same s
 simp only [aun_not, bO_some, bB_bool]
 cases hd : (deedS s).1 with
 | false =>
  have e : doS s o = (8, (deedS s).2) := by unfold doS; rw [if_neg (by rw [hd]; simp)]
  rw [e]
  simp only [Bool.not_false, bI_true]
  exact ⟨by trivial, p, h3, (StF.of_grew g).trans f3⟩
 | true =>
  have e : doS s o = (0, { (deedS s).2 with now := applyI s.now.1 s.now.2 o, pend := s.pend ++ [o] }) := by unfold doS; rw [if_pos hd]
  rw [e]
  have hos : os < H.length := hc0.lt
  have hid := idS_lt hc0
  obtain ⟨a, b, c, d, pv, h3⟩ := h3
  have c3 : H3[H.length]? = some (some (.cells (opA o bv))) := by
   rw [f3.same H.length (by simp) (by omega) (fun q => by have := hid _ q; omega)]; exact top1
  obtain ⟨R, hR, hp⟩ := Apply_p (o := o) (bv := bv) h3.now (by rw [q1]; exact sm) hb (by have := ho.1; omega) (by have := ho.2.1; omega) (by have := ho.2.2; omega)
  rw [q1] at hR
  obtain ⟨a', b', rfl, oa, ob⟩ := hR.agg2
  have rd8 : rdCells true 8 (opA o bv) 0 = some (.agg (opA o bv)) := rfl
  simp only [Bool.not_true, zbtZ, zjZ, bO_some, zblZ, Nat.zero_add, ald_ptr h3.obj, (rd9 _ _ _ _ _ _ _ _ _).1, ald_ptr c3, rd8]
  refine bP_of hp ?_
  obtain ⟨h4, f4⟩ := h3.set (s' := { (deedS s).2 with now := applyI s.now.1 s.now.2 o }) hR h3.kept rfl
  simp only [zjZ, bO_some, zblZ, Nat.zero_add, (st9 h3.obj oa ob).1, bS_some]
  have c4 : (H3.set os (some (AObj.cells [I (deedS s).2.cap, a', b', c, d, p, I (deedS s).2.made, I (deedS s).2.armed, B (deedS s).2.off])))[H.length]? = some (some (.cells (opA o bv))) := by rw [List.getElem?_set_ne (by omega)]; exact c3
  simp only at h4 f4
  generalize hH4 : H3.set os (some (AObj.cells [I (deedS s).2.cap, a', b', c, d, p, I (deedS s).2.made, I (deedS s).2.armed, B (deedS s).2.off])) = H4 at *
  have e6 : absf 8 1 (zrow [(.lit (.int .i64 0)), (.lit (.int .i64 0)), (.lit (.int .i64 0)), (.lit (.int .i64 0)), (.lit (.bool false)), (.lit (.string ⟨#[]⟩)), (.lit (.string ⟨#[]⟩)), (.lit (.slice none 0 0))] 1) [(0, 8, .agg (opA o bv))] = some (.imm (encO ⟨o, bv, hb⟩) 1 8) := by
   simp [absf, zrow, encO, opA, cellsA_agg, obv, splice]
  have x1 : zcnZ H4 8 (.imm (encO ⟨o, bv, hb⟩) 1 8) = some (encO ⟨o, bv, hb⟩, 1) := zuZ (by simp [zaZ, encO, opA])
  have hpl : pv.length = s.pend.length := by rw [← q3, ← h3.pm, List.length_map]
  have hplN := hw.plen
  obtain ⟨r, H5, a1, a2, a3, a4, a5, a6⟩ := aap_spec (bytes := 96) h4.ps h4.po x1 (by omega)
  have a7 := aap_cap h4.ps h4.po x1 h4.pc a1
  have c5 : H5[os]? = some (some (.cells [I (deedS s).2.cap, a', b', c, d, p, I (deedS s).2.made, I (deedS s).2.armed, B (deedS s).2.off])) := by rw [a5 os h4.lt h4.pi]; exact h4.obj
  have hor : os ∉ idS r := fun q => (a6 os q).elim h4.pi (fun q => by have := h4.lt; omega)
  have e7 : ast 1 H5 (.ptr os 5) r = some (H5.set os (some (.cells [I (deedS s).2.cap, a', b', c, d, r, I (deedS s).2.made, I (deedS s).2.armed, B (deedS s).2.off]))) := fld c5 (by simp) (zbjZ a2)
  simp only [ald_ptr h4.obj, zcyZ, List.getElem?_cons_succ, List.getElem?_cons_zero, bO_some, ald_ptr c4, rd8, e6, a1, bH_some, e7, bS_some, zblZ, Nat.zero_add, zjZ]
  have hl5 : os < H5.length := (List.getElem?_eq_some_iff.1 c5).1
  refine ⟨by trivial, r, ⟨a', b', c, d, pv ++ [⟨o, bv, hb⟩], ⟨List.getElem?_set_self hl5, hR, h3.kept, ?_, ?_, a2, hor, by simpa using a7⟩⟩, ?_⟩
  ·rw [List.map_append, h3.pm, q3]; rfl
  ·have := zbZ a3 (H' := H5.set os (some (.cells [I (deedS s).2.cap, a', b', c, d, r, I (deedS s).2.made, I (deedS s).2.armed, B (deedS s).2.off]))) fun i q => List.getElem?_set_ne (fun e => hor (by rw [e]; exact q))
   simpa using this
  ·have f5 : StF os p r H4 (H5.set os (some (.cells [I (deedS s).2.cap, a', b', c, d, r, I (deedS s).2.made, I (deedS s).2.armed, B (deedS s).2.off]))) := ⟨by simpa using a4, fun j hj hne hjp => by rw [List.getElem?_set_ne (Ne.symm hne), a5 j hj hjp], a6⟩
   exact ((StF.of_grew g).trans f3).trans (f4.trans f5))
/-! reading -/
theorem Now_c {N : Nat} {s : StS} {os : Nat} {p : AV} {H : AH} (h : StAt s os p H) (hw : SW N s) (hN : N ≤ 900000) : ∃ R, ImV s.now.1 s.now.2 R ∧ ∃ r H', (r = R ∧ Grew H H') ∧ BCall Try.prog 19 [.ptr os 0] H r H' := by
 obtain ⟨a, b, c, d, pv, h⟩ := h
 obtain ⟨R, hR, hp⟩ := Copy_p h.now (hw.now.sm (by omega))
 refine ⟨R, hR, store_Store_Now_ok ?_⟩
 unfold zirZ
 obtain ⟨a', b', rfl, oa, ob⟩ := hR.agg2
 have e1 : anew H (.agg [(.lit (.slice none 0 0)), (.lit (.slice none 0 0))]) = some (.ptr H.length 0, H ++ [some (.cells [nilSl, nilSl])]) := by simp
 have g := Grew.app H [some (.cells [nilSl, nilSl])]
 have e2 : ast 2 (H ++ [some (.cells [nilSl, nilSl])]) (.ptr H.length 0) (.agg [a', b']) = some (H ++ [some (.cells [a', b'])]) := by
  rw [ast_ptr (n := 2) (xs := [a', b']) (cs := [nilSl, nilSl]) (by simp [oa, ob]) (by simp) rfl (by simp)]
  simp [splice]
 simp only [e1, bH_some, zjZ, bO_some, zblZ, Nat.zero_add, ald_ptr (g.cells h.obj), (rd9 _ _ _ _ _ _ _ _ _).1]
 refine bP_pure hp ?_
 simp only [e2, bS_some, ald_ptr top1, rd2, bO_some]
 exact ⟨by trivial, Grew.app _ _⟩
def findS (s : StS) (name : List UInt8) : Int × Int :=
 if s.off = true then (0, 8) else if ¬ mayN name then (0, 5) else if hasK Nm.name s.now.1 name then (nameI s.now.1 name, 0) else (0, 3)
theorem find_c {N : Nat} {s : StS} {os : Nat} {p : AV} {H : AH} (h : StAt s os p H) (hw : SW N s) (hN : N ≤ 900000) {name : List UInt8} (hn : name.length ≤ 9223372036854775807) :
  BCall Try.prog 30 [.ptr os 0, S (bstr name)] H (.tup [I (findS s name).1, I (findS s name).2]) H := by
 obtain ⟨r, H', ⟨rfl, rfl⟩, hc⟩ := store_Store_find_ok (a0 := .ptr os 0) (a1 := S (bstr name)) (H := H) (K := fun r H' => r = .tup [I (findS s name).1, I (findS s name).2] ∧ H' = H) (by
  obtain ⟨a, b, c, d, pv, h⟩ := h
  unfold zhpZ
  unfold findS
  simp only [zjZ, bO_some, zblZ, Nat.zero_add, ald_ptr h.obj, zcyZ, List.getElem?_cons_succ, List.getElem?_cons_zero, bB_bool]
  cases ho : s.off with
  | true => simp only [if_true, bI_true]; exact ⟨by trivial, by trivial⟩
  | false =>
   simp only [zbtZ, Bool.false_eq_true, if_false]
   refine bP_pure (MayName_p hn) ?_
   by_cases hm : mayN name
   ·simp only [hm, decide_true, aun_not, Bool.not_true, bO_some, bB_bool, zbtZ, not_true_eq_false, if_false]
    have hf := Find_p h.now (hw.now.sm (by omega)) name
    obtain ⟨w1, w2⟩ := findI_w hw.now.1 name
    rw [w1, show decide (hasI s.now.1 s.now.2 name) = decide (hasK Nm.name s.now.1 name) from decide_eq_decide.2 w2] at hf
    simp only [zjZ, bO_some, zblZ, Nat.zero_add, ald_ptr h.obj, (rd9 _ _ _ _ _ _ _ _ _).1]
    refine bP_pure hf ?_
    by_cases hk : hasK Nm.name s.now.1 name
    ·simp only [zgxZ, List.getElem?_cons_succ, List.getElem?_cons_zero, bO_some, hk, decide_true, aun_not, Bool.not_true, bB_bool, zbtZ, if_true]
     exact ⟨by trivial, by trivial⟩
    ·simp only [zgxZ, List.getElem?_cons_succ, List.getElem?_cons_zero, bO_some, hk, decide_false, aun_not, Bool.not_false, bB_bool, bI_true, if_false]
     exact ⟨by trivial, by trivial⟩
   ·simp only [hm, decide_false, aun_not, Bool.not_false, bO_some, bB_bool, bI_true, not_false_eq_true, if_true]
    exact ⟨by trivial, by trivial⟩)
 exact hc
end Go.Proofs.Ytofgloiebnppbaa.Av
end
/-! YtofgloiebnppbaaAvSv -/
section
/- Chapter 13: a store's calls but Write, Sync, Restart. -/
set_option linter.unusedVariables false
set_option linter.unusedSimpArgs false
set_option maxRecDepth 100000
namespace Go.Proofs.Ytofgloiebnppbaa.Av
open Go Go.RowKit

def opCre (name : List UInt8) (i : Int) : OpM := ⟨1, i, 0, 0, false, name, [], []⟩
def opRem (name : List UInt8) : OpM := ⟨7, 0, 0, 0, false, name, [], []⟩
theorem opRem_b {name : List UInt8} (h : mayN name) : OpB (opRem name) := ⟨by simp [opRem], h.2.1, by simp [opRem]⟩
/-! Open -/
def openS (s : StS) (name : List UInt8) (make : Bool) : (Int × Int) × StS :=
 if (findS s name).2 ≠ 3 ∨ make = false then (findS s name, s)
 else if 16 ≤ s.now.1.length then ((0, 4), s)
 else if (doS s (opCre name (s.made + 1))).1 ≠ 0 then ((0, (doS s (opCre name (s.made + 1))).1), (doS s (opCre name (s.made + 1))).2)
 else ((s.made + 1, 0), { (doS s (opCre name (s.made + 1))).2 with made := s.made + 1 })
theorem findS_3 {s : StS} {name : List UInt8} (h : (findS s name).2 = 3) : mayN name ∧ ¬ hasK Nm.name s.now.1 name ∧ s.off = false := by
 unfold findS at h
 split at h
 ·simp at h
 ·split at h
  ·simp at h
  ·split at h
   ·simp at h
   ·rename_i h1 h2 h3
    exact ⟨Decidable.byContradiction h2, h3, by simpa using h1⟩
theorem findS_0 {s : StS} {name : List UInt8} (h : (findS s name).2 = 0) : mayN name ∧ hasK Nm.name s.now.1 name ∧ s.off = false ∧ (findS s name).1 = nameI s.now.1 name := by
 unfold findS at h ⊢
 split at h
 ·simp at h
 ·split at h
  ·simp at h
  ·split at h
   ·rename_i h1 h2 h3
    rw [if_neg h1, if_neg h2, if_pos h3]
    exact ⟨Decidable.byContradiction h2, h3, by simpa using h1, rfl⟩
   ·simp at h
theorem openS_w {N : Nat} {s : StS} (h : SW N s) (name : List UInt8) (make : Bool) : SW (N + 1) (openS s name make).2 := by
 unfold openS
 split
 ·exact h.mono (by omega)
 ·rename_i hf
  have hn : mayN name := (findS_3 (Decidable.byContradiction fun q => hf (.inl q))).1
  have ho : OpB (opCre name (s.made + 1)) := ⟨by simp [opCre], hn.2.1, by simp [opCre]⟩
  have hd := doS_w h ho
  have hwt : wt (opCre name (s.made + 1)) = 1 := rfl
  rw [hwt] at hd
  split
  ·exact h.mono (by omega)
  ·split
   ·exact hd
   ·exact ⟨hd.now, hd.kept, hd.ob, by simp only; have := h.made; omega, hd.cap, hd.armed⟩
theorem Open_c {N : Nat} {s : StS} {os : Nat} {p : AV} {H : AH} (h : StAt s os p H) (hw : SW N s) (hN : N < 900000) {name : List UInt8} (hn : name.length ≤ 9223372036854775807) (make : Bool) :
  ∃ r H', (r = .tup [I (openS s name make).1.1, I (openS s name make).1.2] ∧ ∃ p', StAt (openS s name make).2 os p' H' ∧ StF os p p' H H') ∧ BCall Try.prog 10 [.ptr os 0, S (bstr name), B make] H r H' := store_Store_Open_ok (by
 unfold zhrZ
 refine bC_of (find_c h hw (by omega) hn) ?_
 have hmade := hw.made
 simp only [zgxZ, List.getElem?_cons_succ, List.getElem?_cons_zero, bO_some, abI_neq, bG_bool]
 by_cases h3 : (findS s name).2 = 3
 ·obtain ⟨hm, hk, hoff⟩ := findS_3 h3
  simp only [h3, ne_eq, not_true_eq_false, decide_false, beq_self_eq_true, gO_true, bO_some, aun_not, zhgZ, if_false, Bool.false_eq_true, bB_bool]
  cases make with
  | false =>
   have e : openS s name false = (findS s name, s) := by unfold openS; rw [if_pos (.inr rfl)]
   rw [e]
   simp only [Bool.not_false, bI_true]
   exact ⟨by rw [h3], p, h, .refl _ _ _⟩
  | true =>
   have hn0 : ¬ ((findS s name).2 ≠ 3 ∨ true = false) := by rintro (q | q); exact q h3; cases q
   have h' := h
   obtain ⟨a, b, c, d, pv, hc⟩ := h
   obtain ⟨a', b', dv, eab, sa, sb, -⟩ := hc.now
   injection eab with eab; injection eab with ea eb
   subst ea
   simp only [Bool.not_true, zbtZ, zjZ, bO_some, zblZ, Nat.zero_add, Nat.add_zero, ald_ptr hc.obj, zcyZ, List.getElem?_cons_succ, List.getElem?_cons_zero, sa.len, abI_geq, bB_bool]
   by_cases h16 : 16 ≤ s.now.1.length
   ·have h16I : (16 : Int) ≤ (s.now.1.length : Int) := by omega
    have e : openS s name true = ((0, 4), s) := by unfold openS; rw [if_neg hn0, if_pos h16]
    rw [e]
    simp only [h16I, decide_true, bI_true]
    exact ⟨by trivial, p, h', .refl _ _ _⟩
   ·have h16I : ¬ (16 : Int) ≤ (s.now.1.length : Int) := by omega
    have ho : OpB (opCre name (s.made + 1)) := ⟨by simp [opCre], hm.2.1, by simp [opCre]⟩
    have e1 : abI .add (I s.made) (.lit (.int .i64 1)) = some (I (s.made + 1)) := abI_add (by omega) (by omega)
    have e2 : abl [(.lit (.int .i64 0)), (.lit (.int .i64 0)), (.lit (.int .i64 0)), (.lit (.int .i64 0)), (.lit (.bool false)), (.lit (.string ⟨#[]⟩)), (.lit (.string ⟨#[]⟩)), (.lit (.slice none 0 0))] [(0, 1, (.lit (.int .i64 1))), (5, 1, S (bstr name)), (1, 1, I (s.made + 1))] = some (.agg (opA (opCre name (s.made + 1)) nilSl)) := rfl
    simp only [h16I, decide_false, zbtZ, zjZ, bO_some, zblZ, Nat.zero_add, ald_ptr hc.obj, zcyZ, List.getElem?_cons_succ, List.getElem?_cons_zero, e1, e2]
    obtain ⟨r, H2, ⟨rfl, p2, h2, f2⟩, hcall⟩ := do_c (bv := nilSl) h' hw (by omega) SV.nil ho
    refine bC_of hcall ?_
    simp only [abI_neq, bO_some, bB_bool]
    by_cases hd : (doS s (opCre name (s.made + 1))).1 = 0
    ·have e : openS s name true = ((s.made + 1, 0), { (doS s (opCre name (s.made + 1))).2 with made := s.made + 1 }) := by unfold openS; rw [if_neg hn0, if_neg h16, if_neg (by rw [hd]; simp)]
     rw [e]
     have emade : (doS s (opCre name (s.made + 1))).2.made = s.made := by
      obtain ⟨-, -, -, q4, -⟩ := deedS_same s
      unfold doS; split <;> exact q4
     obtain ⟨a2, b2, c2, d2, pv2, hc2⟩ := h2
     obtain ⟨h3', f3⟩ := hc2.set (s' := { (doS s (opCre name (s.made + 1))).2 with made := s.made + 1 }) hc2.now hc2.kept rfl
     have e3 : ast 1 H2 (.ptr os 6) (I (s.made + 1)) = some (H2.set os (some (.cells [I (doS s (opCre name (s.made + 1))).2.cap, a2, b2, c2, d2, p2, I (s.made + 1), I (doS s (opCre name (s.made + 1))).2.armed, B (doS s (opCre name (s.made + 1))).2.off]))) := fld hc2.obj (by simp) rfl
     have hob := hc2.obj
     rw [emade] at hob
     simp only [hd, ne_eq, not_true_eq_false, decide_false, zbtZ, zjZ, bO_some, zblZ, Nat.zero_add, ald_ptr hob, zcyZ, List.getElem?_cons_succ, List.getElem?_cons_zero, e1, e3, bS_some, ald_ptr h3'.obj]
     exact ⟨by trivial, p2, ⟨a2, b2, c2, d2, pv2, h3'⟩, f2.trans f3⟩
    ·have e : openS s name true = ((0, (doS s (opCre name (s.made + 1))).1), (doS s (opCre name (s.made + 1))).2) := by unfold openS; rw [if_neg hn0, if_neg h16, if_pos hd]
     rw [e]
     simp only [hd, ne_eq, not_false_eq_true, decide_true, bI_true]
     exact ⟨by trivial, p2, h2, f2⟩
 ·have e : openS s name make = (findS s name, s) := by unfold openS; rw [if_pos (.inl h3)]
  rw [e]
  simp only [h3, ne_eq, not_false_eq_true, decide_true, show ((true == false) = false) from rfl, gO_false, bO_some, zhgZ, if_true, bB_bool, bI_true]
  exact ⟨by trivial, p, h, .refl _ _ _⟩)
/-! Truncate -/
/-! Rename, Remove -/
def remS (s : StS) (name : List UInt8) : Int × StS := if (findS s name).2 ≠ 0 then ((findS s name).2, s) else doS s (opRem name)
theorem remS_w {N : Nat} {s : StS} (h : SW N s) (name : List UInt8) : SW (N + 1) (remS s name).2 := by
 unfold remS
 split
 ·exact h.mono (by omega)
 ·rename_i h2
  exact doS_w h (opRem_b (findS_0 (Decidable.byContradiction h2)).1)
theorem Remove_c {N : Nat} {s : StS} {os : Nat} {p : AV} {H : AH} (h : StAt s os p H) (hw : SW N s) (hN : N < 900000) {name : List UInt8} (hn : name.length ≤ 9223372036854775807) :
  ∃ r H', (r = I (remS s name).1 ∧ ∃ p', StAt (remS s name).2 os p' H' ∧ StF os p p' H H') ∧ BCall Try.prog 17 [.ptr os 0, S (bstr name)] H r H' := zlcZ (by
 unfold zgnZ
 refine bC_of (find_c h hw (by omega) hn) ?_
 unfold remS
 simp only [zgxZ, List.getElem?_cons_succ, List.getElem?_cons_zero, bO_some, abI_neq, bB_bool]
 by_cases h0 : (findS s name).2 = 0
 ·have e2 : abl [(.lit (.int .i64 0)), (.lit (.int .i64 0)), (.lit (.int .i64 0)), (.lit (.int .i64 0)), (.lit (.bool false)), (.lit (.string ⟨#[]⟩)), (.lit (.string ⟨#[]⟩)), (.lit (.slice none 0 0))] [(0, 1, (.lit (.int .i64 7))), (5, 1, S (bstr name))] = some (.agg (opA (opRem name) nilSl)) := rfl
  simp only [h0, ne_eq, not_true_eq_false, decide_false, zbtZ, if_false, e2, bO_some]
  obtain ⟨r, H2, ⟨rfl, p2, h4, f4⟩, hcall⟩ := do_c (bv := nilSl) (o := opRem name) h hw (by omega) SV.nil (opRem_b (findS_0 h0).1)
  exact bC_of hcall ⟨rfl, p2, h4, f4⟩
 ·simp only [h0, ne_eq, not_false_eq_true, decide_true, bI_true, if_true]
  exact ⟨by trivial, p, h, .refl _ _ _⟩)
/-! Read -/
end Go.Proofs.Ytofgloiebnppbaa.Av
end
/-! YtofgloiebnppbaaAvSw -/
section
/- Chapter 13: Write. -/
set_option linter.unusedVariables false
set_option linter.unusedSimpArgs false
set_option maxRecDepth 100000
namespace Go.Proofs.Ytofgloiebnppbaa.Av
open Go Go.RowKit

/-! has -/
/-! the parts of what is written -/
def fitsW (pos : Int) (n : Nat) : Prop := 0 ≤ pos ∧ n ≤ 4096 ∧ pos ≤ 1099511627776 - n
instance (pos : Int) (n : Nat) : Decidable (fitsW pos n) := by unfold fitsW; infer_instance
end Go.Proofs.Ytofgloiebnppbaa.Av
end
/-! YtofgloiebnppbaaAvSx -/
section
/- Chapter 13: Sync, Restart. -/
set_option linter.unusedVariables false
set_option linter.unusedSimpArgs false
set_option maxRecDepth 100000
namespace Go.Proofs.Ytofgloiebnppbaa.Av
open Go Go.RowKit

def encZ (i : Int) : List AV := [I i]
theorem encZ_len (i : Int) : (encZ i).length = 1 := rfl
theorem noIdss_encZ (l : List Int) : noIdss (l.flatMap encZ) = true := zepZ fun x _ => rfl
theorem rdh_Z (x : Int) (t : List AV) : rdCells false 1 (encZ x ++ t) 0 = some (I x) := rfl
theorem idxZ_p {l : List Int} {v : AV} (hv : SV encZ 1 l v) (hl : l.length ≤ 281474976710656) (no : Int) : ∃ j : Int, (0 ≤ j ↔ no ∈ l) ∧ BPure Try.prog 76 [v, I no] (I j) := by
 have key : ∃ r X, (∃ j : Int, r = I j ∧ (0 ≤ j ↔ no ∈ l)) ∧ BCall Try.prog 76 [v, I no] [] r X := zjnZ (by
  unfold zebZ
  simp only [hv.len, bO_some]
  refine zheZ (fun n x0 x1 x7 x8 H' => ∃ k : Nat, k + n = l.length ∧ x0 = v ∧ x1 = I no ∧ x7 = I l.length ∧ x8 = I k ∧ ∀ (m : Nat) y, m < k → l[m]? = some y → no ≠ y) ?_ l.length ⟨0, by omega, rfl, rfl, rfl, rfl, by omega⟩
  rintro n x0 x1 x7 x8 H R hR ⟨k, hk, rfl, rfl, rfl, rfl, hb⟩
  unfold zdaZ
  rcases Nat.lt_or_ge k l.length with h | h
  ·have hx := List.getElem?_eq_getElem h
   generalize l[k] = y at hx
   have kI : (k : Int) < (l.length : Int) := by omega
   simp only [abI_lss, bO_some, bB_bool, kI, decide_true, bI_true, hv.idx encZ_len hx rfl, ald_ip, rdh_Z, abI_eql]
   by_cases c : no = y
   ·simp only [c, decide_true, bI_true]
    exact ⟨k, rfl, by simp only [Int.natCast_nonneg, true_iff]; exact List.mem_of_getElem? hx⟩
   ·simp only [c, decide_false, zbtZ, abI_add (a := k) (b := 1) (by omega) (by omega), bO_some]
    refine hR (n - 1) _ _ _ _ _ (by omega) ⟨k + 1, by omega, rfl, rfl, rfl, by simp, ?_⟩
    intro m z hm hz
    by_cases e : m = k
    ·rw [e, hx] at hz; injection hz with hz; rw [← hz]; exact c
    ·exact hb m z (by omega) hz
  ·have kI : ¬ (k : Int) < (l.length : Int) := by omega
   simp only [abI_lss, bO_some, bB_bool, kI, decide_false, zbtZ]
   refine ⟨-1, rfl, by simp only [show ¬ (0 : Int) ≤ -1 by omega, false_iff]; intro hy; obtain ⟨m, hm⟩ := List.mem_iff_getElem?.1 hy; exact hb m no (by have := (List.getElem?_eq_some_iff.1 hm).1; omega) hm rfl⟩)
 obtain ⟨r, X, ⟨j, rfl, hj⟩, hc⟩ := key
 exact ⟨j, hj, BPure.val (by simp [noIdss, noIds, hv.1]) rfl ⟨_, _, rfl, hc⟩⟩
theorem ContainsZ_p {l : List Int} {v : AV} (hv : SV encZ 1 l v) (hl : l.length ≤ 281474976710656) (no : Int) : BPure Try.prog 53 [v, I no] (B (decide (no ∈ l))) := by
 obtain ⟨j, hj, hp⟩ := idxZ_p hv hl no
 refine BPure.val (by simp [noIdss, noIds, hv.1]) rfl (zidZ ?_)
 unfold zdhZ
 refine bP_pure hp ?_
 simp only [abI_geq, bO_some]
 congr 3; exact propext hj
def staysO (l : List Int) (o : OpM) : Prop := o.kind = 1 ∨ o.kind = 6 ∨ o.kind = 7 ∨ o.ino ∈ l
instance (l : List Int) (o : OpM) : Decidable (staysO l o) := by unfold staysO; infer_instance
theorem stays_p {o : OpM} {bv : AV} (hb : SV encU 1 o.b bv) {l : List Int} {v : AV} (hv : SV encZ 1 l v) (hl : l.length ≤ 281474976710656) : BPure Try.prog 38 [.agg (opA o bv), v] (B (decide (staysO l o))) := by
 have obv := SV.oneA hb
 have e1 : anew [] (.agg (opA o bv)) = some (.ptr 0 0, [some (.cells (opA o bv))]) := by simp [opA, obv]
 have e0 : ([some (.cells (opA o bv))] : AH)[0]? = some (some (.cells (opA o bv))) := rfl
 have i0 : (opA o bv)[0]? = some (I o.kind) := rfl
 have i1 : (opA o bv)[1]? = some (I o.ino) := rfl
 refine BPure.val (by simp [noIdss, noIds, hv.1, hb.1, opA]) rfl (store_stays_ok ?_)
 unfold store_stays
 simp only [e1, bH_some, zblZ, Nat.zero_add, bO_some, ald_ptr e0, zcyZ, i0, abI_eql, bB_bool]
 have last : ∀ c : Prop, ∀ _ : Decidable c, zjrZ v (.ptr 0 0) [some (.cells (opA o bv))] (fun r H => r = B (decide (o.ino ∈ l))) := by
  intro c _
  rw [store_stays_J1_eq]; unfold zkrZ
  simp only [zblZ, Nat.zero_add, bO_some, ald_ptr e0, zcyZ, i1]
  exact bP_pure (ContainsZ_p hv hl o.ino) rfl
 unfold staysO
 by_cases c1 : o.kind = 1
 ·simp only [c1, decide_true, bI_true, true_or]
  rw [zhfZ]; unfold zgbZ
  simp only [bB_bool, bI_true]
  try trivial
 ·simp only [c1, decide_false, zbtZ, false_or]
  by_cases c6 : o.kind = 6
  ·simp only [c6, decide_true, bI_true, true_or]
   rw [zhfZ]; unfold zgbZ
   simp only [bB_bool, bI_true]
   try trivial
  ·simp only [c6, decide_false, zbtZ, false_or]
   rw [zhfZ]; unfold zgbZ
   by_cases c7 : o.kind = 7
   ·simp only [c7, decide_true, bB_bool, bI_true, true_or]
    try trivial
   ·simp only [c7, decide_false, bB_bool, zbtZ, false_or]
    exact last True inferInstance
/-! Sync -/
def syncF (l : List Int) : List OpM → Img × List OpM → Img × List OpM
 | [], x => x
 | o :: r, x => if staysO l o then syncF l r (applyI x.1.1 x.1.2 o, x.2) else syncF l r (x.1, x.2 ++ [o])
def syncS (s : StS) (l : List Int) : Int × StS :=
 if (deedS s).1 = true then (0, { (deedS s).2 with kept := (syncF l s.pend (s.kept, [])).1, pend := (syncF l s.pend (s.kept, [])).2 }) else (8, (deedS s).2)
theorem syncF_w {l : List Int} {N : Nat} : ∀ {r : List OpM} {x : Img × List OpM}, (∃ a, Few1 a x.1 ∧ a + wts x.2 + wts r ≤ N) → (∃ a, Few1 a (syncF l r x).1 ∧ a + wts (syncF l r x).2 ≤ N)
 | [], x, ⟨a, h1, h2⟩ => ⟨a, h1, by simp only [syncF]; omega⟩
 | o :: r, x, ⟨a, h1, h2⟩ => by
  have e : wts (o :: r) = wt o + wts r := by simp [wts]
  unfold syncF
  split
  ·exact syncF_w ⟨a + wt o, h1.step o, by simp only; omega⟩
  ·exact syncF_w ⟨a, h1, by simp only [wts_snoc]; omega⟩
theorem syncF_b {l : List Int} : ∀ {r : List OpM} {x : Img × List OpM}, (∀ o ∈ x.2, OpB o) → (∀ o ∈ r, OpB o) → ∀ o ∈ (syncF l r x).2, OpB o
 | [], x, h1, h2, o, ho => h1 o ho
 | q :: r, x, h1, h2, o, ho => by
  unfold syncF at ho
  split at ho
  ·exact syncF_b (x := (applyI x.1.1 x.1.2 q, x.2)) h1 (fun z hz => h2 z (by simp [hz])) o ho
  ·refine syncF_b (x := (x.1, x.2 ++ [q])) ?_ (fun z hz => h2 z (by simp [hz])) o ho
   intro z hz
   simp only [List.mem_append, List.mem_singleton] at hz
   rcases hz with hz | rfl
   ·exact h1 z hz
   ·exact h2 _ (by simp)
theorem syncS_w {N : Nat} {s : StS} (h : SW N s) (l : List Int) : SW N (syncS s l).2 := by
 have hd := deedS_w h
 obtain ⟨e1, e2, e3, e4, e5⟩ := deedS_same s
 unfold syncS
 split
 ·refine ⟨by simp only [e1]; exact h.now, ?_, ?_, hd.made, hd.cap, hd.armed⟩
  ·obtain ⟨a, h1, h2⟩ := h.kept
   exact syncF_w ⟨a, h1, by simp only [wts, List.map_nil, List.sum_nil]; unfold wts at h2; omega⟩
  ·exact syncF_b (x := (s.kept, [])) (by simp) h.ob
 ·exact hd
theorem Sync_c {N : Nat} {s : StS} {os : Nat} {p v : AV} {H : AH} (h : StAt s os p H) (hw : SW N s) (hN : N ≤ 900000) {l : List Int} (hv : zaZ H 1 v = some (l.flatMap encZ, l.length)) (hvi : ∀ j ∈ idS v, j ≠ os ∧ j ∉ idS p) (hl : l.length ≤ 1000000) :
  ∃ r H', (r = I (syncS s l).1 ∧ ∃ p', StAt (syncS s l).2 os p' H' ∧ StF os p p' H H') ∧ BCall Try.prog 12 [.ptr os 0, v] H r H' := store_Store_Sync_ok (by
 unfold zhvZ
 obtain ⟨r, H1, ⟨rfl, h1, f1⟩, hc⟩ := deed_c h hw.armed
 refine bC_of hc ?_
 obtain ⟨e1, e2, e3, e4, e5⟩ := deedS_same s
 have hwd := deedS_w hw
 have hpl : (deedS s).2.pend.length ≤ N := by rw [e3]; exact hw.plen
 have hob : ∀ o ∈ (deedS s).2.pend, OpB o := by rw [e3]; exact hw.ob
 have hkw : ∃ a, Few1 a (deedS s).2.kept ∧ a + wts (deedS s).2.pend ≤ N := by rw [e2, e3]; exact hw.kept
 unfold syncS
 rw [← e2, ← e3]
 simp only [aun_not, bO_some, bB_bool]
 cases hd : (deedS s).1 with
 | false =>
  simp only [Bool.not_false, bI_true, Bool.false_eq_true, if_false]
  exact ⟨by trivial, p, h1, f1⟩
 | true =>
  have hv1 : zaZ H1 1 v = some (l.flatMap encZ, l.length) := zbZ hv fun j hj => f1.same j (zkZ hv j hj) (hvi j hj).1 (hvi j hj).2
  clear e1 e2 e3 e4 e5 hc
  generalize (deedS s).2 = s1 at *
  simp only [if_true]
  obtain ⟨a, b, c, d, pv, h1⟩ := h1
  have hpn : pv.length = s1.pend.length := by rw [← h1.pm, List.length_map]
  have alv : alnS p = some (I (s1.pend.length : Nat)) := by rw [← hpn]; exact zhwZ h1.ps
  simp only [Bool.not_true, zbtZ, zjZ, bO_some, zblZ, Nat.zero_add, ald_ptr h1.obj, zcyZ, List.getElem?_cons_succ, List.getElem?_cons_zero, alv]
  have hos : os < H1.length := h1.lt
  have hH : H.length ≤ H1.length := f1.len
  generalize hres : syncF l s1.pend (s1.kept, []) = res
  refine zjmZ (fun m x0 x1 x5 x14 x15 x16 H' => ∃ (k : Nat) (ki : Img) (c' d' : AV) (lv : List OpV), k + m = s1.pend.length ∧ x0 = .ptr os 0 ∧ x1 = v ∧ x14 = p ∧ x15 = I s1.pend.length ∧ x16 = I k ∧ StC { s1 with kept := ki } os a b c' d' p pv H' ∧ StF os p p H1 H' ∧ syncF l (s1.pend.drop k) (ki, lv.map OpV.o) = res ∧ (∃ a, Few1 a ki ∧ a + wts (lv.map OpV.o) + wts (s1.pend.drop k) ≤ N) ∧ zaZ H' 8 x5 = some (lv.flatMap encO, lv.length) ∧ ownedS x5 = true ∧ capOk x5 lv.length ∧ (∀ j ∈ idS x5, H1.length ≤ j)) ?_ s1.pend.length ⟨0, s1.kept, c, d, [], by omega, rfl, rfl, rfl, rfl, rfl, h1, .refl _ _ _, hres, by obtain ⟨x, y, z⟩ := hkw; exact ⟨x, y, by simp only [List.map_nil, List.drop_zero]; simp only [wts, List.map_nil, List.sum_nil] at *; omega⟩, rfl, rfl, by simp [capOk], by simp [idS]⟩
  rintro m x0 x1 x5 x14 x15 x16 H2 R hR ⟨k, ki, c', d', lv, hk, rfl, rfl, rfl, rfl, rfl, h2, f2, hsy, hfew, ls, lo, lc, li⟩
  have lvN : lv.length ≤ N := by
   obtain ⟨x, -, y⟩ := hfew
   have := wts_len (l := lv.map OpV.o)
   rw [List.length_map] at this
   omega
  unfold zdyZ
  rcases Nat.lt_or_ge k s1.pend.length with hlt | hge
  ·have hx := List.getElem?_eq_getElem (show k < pv.length by omega)
   generalize pv[k]'(by omega) = x at hx
   have hxo : s1.pend[k]? = some x.o := by rw [← h1.pm, List.getElem?_map, hx]; rfl
   have hdrop : s1.pend.drop k = x.o :: s1.pend.drop (k + 1) := drop_cons hxo
   have hxb := hob x.o (List.mem_of_getElem? hxo)
   rw [hdrop] at hsy hfew
   have ox := SV.oneA x.h
   have kI : (k : Int) < (s1.pend.length : Int) := by omega
   obtain ⟨pp, q1, q2⟩ := op_at h2.ps hx
   have n8 : anew H2 (.agg [(.lit (.int .i64 0)), (.lit (.int .i64 0)), (.lit (.int .i64 0)), (.lit (.int .i64 0)), (.lit (.bool false)), (.lit (.string ⟨#[]⟩)), (.lit (.string ⟨#[]⟩)), (.lit (.slice none 0 0))]) = some (.ptr H2.length 0, H2 ++ [some (.cells [I 0, I 0, I 0, I 0, B false, S ⟨#[]⟩, S ⟨#[]⟩, nilSl])]) := by simp
   have t8 : ast 8 (H2 ++ [some (.cells [I 0, I 0, I 0, I 0, B false, S ⟨#[]⟩, S ⟨#[]⟩, nilSl])]) (.ptr H2.length 0) (.agg (opA x.o x.bv)) = some (H2 ++ [some (.cells (opA x.o x.bv))]) := by
    rw [ast_ptr (n := 8) (xs := opA x.o x.bv) (cs := [I 0, I 0, I 0, I 0, B false, S ⟨#[]⟩, S ⟨#[]⟩, nilSl]) (by simp [opA, ox]) (by simp) rfl (by simp)]
    simp [splice, opA]
   have g3 := Grew.app H2 [some (.cells (opA x.o x.bv))]
   have rd8 : rdCells true 8 (opA x.o x.bv) 0 = some (.agg (opA x.o x.bv)) := rfl
   have h3 := h2.grew g3
   have f3 : StF os x14 x14 H1 (H2 ++ [some (AObj.cells (opA x.o x.bv))]) := f2.grew g3
   have hl2 := f2.len
   have hv3 : zaZ (H2 ++ [some (AObj.cells (opA x.o x.bv))]) 1 x1 = some (l.flatMap encZ, l.length) := zbZ hv fun j hj => by
    have := zkZ hv j hj
    rw [f3.same j (by omega) (hvi j hj).1 (hvi j hj).2, f1.same j this (hvi j hj).1 (hvi j hj).2]
   obtain ⟨Rv, hRv, fRv⟩ := FZ.sv hv3 (noIdss_encZ l)
   have ls3 := g3.slice ls
   have sm : Sm ki.1 ki.2 := by obtain ⟨x, y, z⟩ := hfew; exact y.sm (by omega)
   simp only [abI_lss, bO_some, bB_bool, kI, decide_true, bI_true, q1, q2, n8, bH_some, t8, bS_some, ald_ptr top1, rd8]
   refine bP_of (PCall.lend (FZs.cons (FZ.same (by simp [noIds, opA, noIdss, x.h.1])) (FZs.cons fRv FZs.nil)) rfl (stays_p x.h hRv (by omega))) ?_
   have topx : (H2 ++ [some (AObj.cells (opA x.o x.bv))])[H2.length]? = some (some (.cells (opA x.o x.bv))) := top1
   have hl3 : (H2 ++ [some (AObj.cells (opA x.o x.bv))]).length = H2.length + 1 := by simp
   generalize (H2 ++ [some (AObj.cells (opA x.o x.bv))]) = H3 at *
   simp only [bB_bool]
   by_cases hst : staysO l x.o
   ·obtain ⟨RA, hRA, hpA⟩ := Apply_p (o := x.o) (bv := x.bv) h3.kept sm x.h (by have := hxb.1; omega) (by have := hxb.2.1; omega) (by have := hxb.2.2; omega)
    obtain ⟨a', b', rfl, oa, ob⟩ := hRA.agg2
    simp only [hst, decide_true, bI_true, zjZ, bO_some, zblZ, Nat.zero_add, ald_ptr h3.obj, (rd9 _ _ _ _ _ _ _ _ _).2, ald_ptr topx, rd8]
    refine bP_of hpA ?_
    obtain ⟨h4, f4⟩ := h3.set (s' := { s1 with kept := applyI ki.1 ki.2 x.o }) h3.now hRA rfl
    simp only [zjZ, bO_some, zblZ, Nat.zero_add, (st9 h3.obj oa ob).2, bS_some]
    rw [zgdZ]; unfold zdtZ
    simp only [abI_add (a := k) (b := 1) (by omega) (by omega), bO_some]
    refine hR (m - 1) _ _ _ _ _ _ _ (by omega) ⟨k + 1, _, a', b', lv, by omega, rfl, rfl, rfl, rfl, by simp, h4, f3.trans f4, ?_, ?_, ?_, lo, lc, li⟩
    ·rw [← hsy]; conv => rhs; unfold syncF
     rw [if_pos hst]
    ·obtain ⟨y, z, w⟩ := hfew
     have e : wts (x.o :: s1.pend.drop (k + 1)) = wt x.o + wts (s1.pend.drop (k + 1)) := by simp [wts]
     exact ⟨y + wt x.o, z.step x.o, by omega⟩
    ·exact zbZ ls3 fun j hj => by
      have := li j hj
      exact f4.same j (by have := zkZ ls3 j hj; omega) (by omega) (fun q => by have := idS_lt h1 j q; omega)
   ·have eA : absl H3 8 1 (zrow [(.lit (.int .i64 0)), (.lit (.int .i64 0)), (.lit (.int .i64 0)), (.lit (.int .i64 0)), (.lit (.bool false)), (.lit (.string ⟨#[]⟩)), (.lit (.string ⟨#[]⟩)), (.lit (.slice none 0 0))] 1) [(0, 8, .agg (opA x.o x.bv))] = some (.sl H3.length 0 1 8 (.ex 1), H3 ++ [some (.cells (encO x))]) := by
     simp [absl, absf, zrow, encO, opA, cellsA_agg, ox, splice]
    have g4 := Grew.app H3 [some (.cells (encO x))]
    have x1' : zcnZ (H3 ++ [some (AObj.cells (encO x))]) 8 (.sl H3.length 0 1 8 (.ex 1)) = some (encO x, 1) := zuZ (by simp [zaZ, encO, opA])
    obtain ⟨r, H5, a1, a2, a3, a4, a5, a6⟩ := aap_spec (bytes := 96) (g4.slice ls3) lo x1' (by omega)
    have a7 := aap_cap (g4.slice ls3) lo x1' lc a1
    simp only [hst, decide_false, zbtZ, ald_ptr topx, rd8, bO_some, eA, bH_some, a1]
    rw [zgdZ]; unfold zdtZ
    simp only [abI_add (a := k) (b := 1) (by omega) (by omega), bO_some]
    have h4 := h3.grew g4
    have f4 := f3.grew g4
    have lt4 : ∀ j, j < H1.length → j ∉ idS x5 := fun j hj q => by have := li j q; omega
    have len4 : (H3 ++ [some (AObj.cells (encO x))]).length = H3.length + 1 := by simp
    have k5 : ∀ j, j < H1.length → H5[j]? = (H3 ++ [some (AObj.cells (encO x))])[j]? := fun j hj => a5 j (by omega) (lt4 j hj)
    refine hR (m - 1) _ _ _ _ _ _ _ (by omega) ⟨k + 1, ki, c', d', lv ++ [x], by omega, rfl, rfl, rfl, rfl, by simp, ?_, ?_, ?_, ?_, ?_, a2, by simpa using a7, ?_⟩
    ·exact ⟨by rw [k5 os hos]; exact h4.obj, h4.now, h4.kept, h4.pm, zbZ h4.ps fun j hj => k5 j (idS_lt h1 j hj), h4.po, h4.pi, h4.pc⟩
    ·exact ⟨by omega, fun j hj hne hjp => by rw [k5 j hj]; exact f4.same j hj hne hjp, fun _ q => .inl q⟩
    ·rw [← hsy]; conv => rhs; unfold syncF
     rw [if_neg hst]
     simp
    ·obtain ⟨y, z, w⟩ := hfew
     have e : wts (x.o :: s1.pend.drop (k + 1)) = wt x.o + wts (s1.pend.drop (k + 1)) := by simp [wts]
     exact ⟨y, z, by rw [List.map_append]; simp only [List.map_cons, List.map_nil, wts_snoc]; omega⟩
    ·simpa using a3
    ·intro j hj
     rcases a6 j hj with q | q
     ·exact li j q
     ·omega
  ·have kI : ¬ (k : Int) < (s1.pend.length : Int) := by omega
   have hdrop : s1.pend.drop k = [] := List.drop_of_length_le hge
   rw [hdrop] at hsy hfew
   unfold syncF at hsy
   rw [← hsy]
   have e7 : ast 1 H2 (.ptr os 5) x5 = some (H2.set os (some (.cells [I s1.cap, a, b, c', d', x5, I s1.made, I s1.armed, B s1.off]))) := fld h2.obj (by simp) (zbjZ lo)
   have hnx : os ∉ idS x5 := fun q => by have := li os q; omega
   simp only [abI_lss, bO_some, bB_bool, kI, decide_false, zbtZ, zjZ, zblZ, Nat.zero_add, e7, bS_some]
   have hl2 := f2.len
   refine ⟨by trivial, x5, ⟨a, b, c', d', lv, ⟨List.getElem?_set_self h2.lt, h2.now, h2.kept, rfl, zbZ ls fun j hj => List.getElem?_set_ne (fun e => hnx (by rw [e]; exact hj)), lo, hnx, lc⟩⟩, ?_⟩
   refine ⟨by rw [List.length_set]; omega, fun j hj hne hjp => ?_, fun j hj => .inr (by have := li j hj; omega)⟩
   rw [List.getElem?_set_ne (Ne.symm hne), f2.same j (by omega) hne hjp, f1.same j hj hne hjp])
/-! Restart -/
def bitAt (bits : List Bool) (i : Nat) : Bool := bits[i]?.getD false
def keepF (bits : List Bool) : Nat → List OpM → Img → Img
 | _, [], x => x
 | i, o :: r, x => keepF bits (i + 1) r (if bitAt bits i = true then applyI x.1 x.2 o else x)
def restS (s : StS) (bits : List Bool) : StS :=
 { s with kept := keepF bits 0 s.pend s.kept, now := keepF bits 0 s.pend s.kept, pend := [], off := false, armed := -1 }
theorem keepF_w {bits : List Bool} {N : Nat} : ∀ {r : List OpM} {i : Nat} {x : Img}, (∃ a, Few1 a x ∧ a + wts r ≤ N) → Few1 N (keepF bits i r x)
 | [], i, x, ⟨a, h1, h2⟩ => h1.mono (by omega)
 | o :: r, i, x, ⟨a, h1, h2⟩ => by
  have e : wts (o :: r) = wt o + wts r := by simp [wts]
  unfold keepF
  split
  ·exact keepF_w ⟨a + wt o, h1.step o, by omega⟩
  ·exact keepF_w ⟨a, h1, by omega⟩
theorem restS_w {N : Nat} {s : StS} (h : SW N s) (bits : List Bool) : SW N (restS s bits) := by
 have hk := keepF_w (bits := bits) (i := 0) h.kept
 exact ⟨hk, ⟨N, hk, by simp [restS, wts]⟩, by simp [restS], h.made, h.cap, by simp [restS]⟩
def encT (b : Bool) : List AV := [B b]
theorem one_at {α : Type} {enc : α → List AV} {f : α → AV} (he : ∀ x, enc x = [f x]) {H : AH} {w : AV} {l : List α} {k : Nat} {x : α} (hw : zaZ H 1 w = some (l.flatMap enc, l.length)) (hx : l[k]? = some x) : ∃ p, aixS 1 w (I k) = some p ∧ ald false 1 H p = some (f x) := by
 have hk := (List.getElem?_eq_some_iff.1 hx).1
 obtain ⟨p, c, h1, h2, h3, h4⟩ := aixS_spec hw (i := (k : Int)) rfl hk
 have el : ∀ x, (enc x).length = 1 := fun x => by rw [he]; rfl
 have hc : c.take 1 = [f x] := by
  rw [h3, zfsZ el hx, List.take_append_of_le_length (by rw [el]; exact Nat.le_refl 1), List.take_of_length_le (by rw [el]; exact Nat.le_refl 1), he]
 refine ⟨p, h1, ?_⟩
 rw [ald_at h2 (by omega) h4]
 cases c with
 | nil => simp at hc
 | cons y t => simp at hc; rw [hc]; rfl
theorem Restart_c {N : Nat} {s : StS} {os : Nat} {p v : AV} {H : AH} (h : StAt s os p H) (hw : SW N s) (hN : N ≤ 900000) {l : List Bool} (hv : zaZ H 1 v = some (l.flatMap encT, l.length)) (hvi : ∀ j ∈ idS v, j ≠ os ∧ j ∉ idS p) (hl : l.length ≤ 1000000) :
  ∃ r H', (r = .tup [] ∧ StAt (restS s l) os nilSl H' ∧ StF os p nilSl H H') ∧ BCall Try.prog 13 [.ptr os 0, v] H r H' := zknZ (by
 unfold zfvZ
 obtain ⟨a, b, c, d, pv, h1⟩ := h
 have hpl := hw.plen
 have hob := hw.ob
 have hpn : pv.length = s.pend.length := by rw [← h1.pm, List.length_map]
 have alv : alnS p = some (I (s.pend.length : Nat)) := by rw [← hpn]; exact zhwZ h1.ps
 simp only [zjZ, bO_some, zblZ, Nat.zero_add, ald_ptr h1.obj, zcyZ, List.getElem?_cons_succ, List.getElem?_cons_zero, alv]
 unfold restS
 generalize hres : keepF l 0 s.pend s.kept = res
 have hos : os < H.length := h1.lt
 refine zhtZ (fun m x0 x1 x9 x10 x11 H' => ∃ (k : Nat) (ki : Img) (c' d' : AV), k + m = s.pend.length ∧ x0 = .ptr os 0 ∧ x1 = v ∧ p = x9 ∧ x10 = I s.pend.length ∧ x11 = I k ∧ StC { s with kept := ki } os a b c' d' p pv H' ∧ StF os p p H H' ∧ keepF l k (s.pend.drop k) ki = res ∧ (∃ a, Few1 a ki ∧ a + wts (s.pend.drop k) ≤ N)) ?_ s.pend.length ⟨0, s.kept, c, d, by omega, rfl, rfl, rfl, rfl, rfl, h1, .refl _ _ _, hres, by simp only [List.drop_zero]; exact hw.kept⟩
 rintro m x0 x1 x9 x10 x11 H2 R hR ⟨k, ki, c', d', hk, rfl, rfl, ep, rfl, rfl, h2, f2, hsy, hfew⟩
 subst ep
 unfold zdgZ
 rcases Nat.lt_or_ge k s.pend.length with hlt | hge
 ·have hx := List.getElem?_eq_getElem (show k < pv.length by omega)
  generalize pv[k]'(by omega) = x at hx
  have hxo : s.pend[k]? = some x.o := by rw [← h1.pm, List.getElem?_map, hx]; rfl
  have hdrop : s.pend.drop k = x.o :: s.pend.drop (k + 1) := drop_cons hxo
  have hxb := hob x.o (List.mem_of_getElem? hxo)
  rw [hdrop] at hsy hfew
  have ox := SV.oneA x.h
  have kI : (k : Int) < (s.pend.length : Int) := by omega
  obtain ⟨pp, q1, q2⟩ := op_at h2.ps hx
  have n8 : anew H2 (.agg [(.lit (.int .i64 0)), (.lit (.int .i64 0)), (.lit (.int .i64 0)), (.lit (.int .i64 0)), (.lit (.bool false)), (.lit (.string ⟨#[]⟩)), (.lit (.string ⟨#[]⟩)), (.lit (.slice none 0 0))]) = some (.ptr H2.length 0, H2 ++ [some (.cells [I 0, I 0, I 0, I 0, B false, S ⟨#[]⟩, S ⟨#[]⟩, nilSl])]) := by simp
  have t8 : ast 8 (H2 ++ [some (.cells [I 0, I 0, I 0, I 0, B false, S ⟨#[]⟩, S ⟨#[]⟩, nilSl])]) (.ptr H2.length 0) (.agg (opA x.o x.bv)) = some (H2 ++ [some (.cells (opA x.o x.bv))]) := by
   rw [ast_ptr (n := 8) (xs := opA x.o x.bv) (cs := [I 0, I 0, I 0, I 0, B false, S ⟨#[]⟩, S ⟨#[]⟩, nilSl]) (by simp [opA, ox]) (by simp) rfl (by simp)]
   simp [splice, opA]
  have g3 := Grew.app H2 [some (.cells (opA x.o x.bv))]
  have rd8 : rdCells true 8 (opA x.o x.bv) 0 = some (.agg (opA x.o x.bv)) := rfl
  have h3 := h2.grew g3
  have f3 : StF os p p H (H2 ++ [some (AObj.cells (opA x.o x.bv))]) := f2.grew g3
  have hv3 : zaZ (H2 ++ [some (AObj.cells (opA x.o x.bv))]) 1 x1 = some (l.flatMap encT, l.length) := zbZ hv fun j hj => f3.same j (zkZ hv j hj) (hvi j hj).1 (hvi j hj).2
  have alb : alnS x1 = some (I (l.length : Nat)) := zhwZ hv
  have sm : Sm ki.1 ki.2 := by obtain ⟨x, y, z⟩ := hfew; exact y.sm (by omega)
  have topx : (H2 ++ [some (AObj.cells (opA x.o x.bv))])[H2.length]? = some (some (.cells (opA x.o x.bv))) := top1
  simp only [abI_lss, bO_some, bB_bool, kI, decide_true, bI_true, q1, q2, n8, bH_some, t8, bS_some, alb]
  generalize (H2 ++ [some (AObj.cells (opA x.o x.bv))]) = H3 at *
  have yes : bitAt l k = true → bO (zcZ (.ptr os 0)) fun v19 => bO (ashift 3 v19) fun v20 => bO (ald true 2 H3 v20) fun v21 => bO (ald true 8 H3 (.ptr H2.length 0)) fun v22 =>
    bP (BPure Try.prog 39 [v21, v22]) fun v23 => bO (zcZ (.ptr os 0)) fun v24 => bO (ashift 3 v24) fun v25 => bS (ast 2 H3 v25 v23) fun H26 =>
    zbxZ R (.ptr os 0) x1 p (I s.pend.length) (I k) H26 (fun r H' => r = .tup [] ∧ StAt { s with kept := res, now := res, pend := [], off := false, armed := -1 } os nilSl H' ∧ StF os p nilSl H H') := by
   intro hst
   obtain ⟨RA, hRA, hpA⟩ := Apply_p (o := x.o) (bv := x.bv) h3.kept sm x.h (by have := hxb.1; omega) (by have := hxb.2.1; omega) (by have := hxb.2.2; omega)
   obtain ⟨a', b', rfl, oa, ob⟩ := hRA.agg2
   simp only [zjZ, bO_some, zblZ, Nat.zero_add, ald_ptr h3.obj, (rd9 _ _ _ _ _ _ _ _ _).2, ald_ptr topx, rd8]
   refine bP_of hpA ?_
   obtain ⟨h4, f4⟩ := h3.set (s' := { s with kept := applyI ki.1 ki.2 x.o }) h3.now hRA rfl
   simp only [zjZ, bO_some, zblZ, Nat.zero_add, (st9 h3.obj oa ob).2, bS_some]
   rw [zetZ]; unfold zdjZ
   simp only [abI_add (a := k) (b := 1) (by omega) (by omega), bO_some]
   refine hR (m - 1) _ _ _ _ _ _ (by omega) ⟨k + 1, _, a', b', by omega, rfl, rfl, rfl, rfl, by simp, h4, f3.trans f4, ?_, ?_⟩
   ·rw [← hsy]; conv => rhs; unfold keepF
    rw [if_pos hst]
   ·obtain ⟨y, z, w⟩ := hfew
    have e : wts (x.o :: s.pend.drop (k + 1)) = wt x.o + wts (s.pend.drop (k + 1)) := by simp [wts]
    exact ⟨y + wt x.o, z.step x.o, by omega⟩
  have no : ¬ bitAt l k = true → zbxZ R (.ptr os 0) x1 p (I s.pend.length) (I k) H3 (fun r H' => r = .tup [] ∧ StAt { s with kept := res, now := res, pend := [], off := false, armed := -1 } os nilSl H' ∧ StF os p nilSl H H') := by
   intro hst
   rw [zetZ]; unfold zdjZ
   simp only [abI_add (a := k) (b := 1) (by omega) (by omega), bO_some]
   refine hR (m - 1) _ _ _ _ _ _ (by omega) ⟨k + 1, ki, c', d', by omega, rfl, rfl, rfl, rfl, by simp, h3, f3, ?_, ?_⟩
   ·rw [← hsy]; conv => rhs; unfold keepF
    rw [if_neg hst]
   ·obtain ⟨y, z, w⟩ := hfew
    have e : wts (x.o :: s.pend.drop (k + 1)) = wt x.o + wts (s.pend.drop (k + 1)) := by simp [wts]
    exact ⟨y, z, by omega⟩
  rcases Nat.lt_or_ge k l.length with hkl | hkl
  ·have hb := List.getElem?_eq_getElem hkl
   generalize l[k] = bt at hb
   have hbt : bitAt l k = bt := by unfold bitAt; rw [hb]; rfl
   obtain ⟨pb, r1, r2⟩ := one_at (f := B) (fun _ => rfl) hv3 hb
   have kl : (k : Int) < (l.length : Int) := by omega
   simp only [kl, decide_true, bG_bool, beq_self_eq_true, gO_true, bO_some, r1, r2, zhgZ, if_true, bB_bool]
   cases bt with
   | true => simp only [bI_true]; exact yes hbt
   | false => simp only [zbtZ]; exact no (by rw [hbt]; simp)
  ·have hbt : bitAt l k = false := by unfold bitAt; rw [List.getElem?_eq_none hkl]; rfl
   have kl : ¬ (k : Int) < (l.length : Int) := by omega
   simp only [kl, decide_false, bG_bool, show ((false == true) = false) from rfl, gO_false, bO_some, zhgZ, if_false, Bool.false_eq_true, bB_bool, zbtZ]
   exact no (by rw [hbt]; simp)
 ·have kI : ¬ (k : Int) < (s.pend.length : Int) := by omega
  have hdrop : s.pend.drop k = [] := List.drop_of_length_le hge
  rw [hdrop] at hsy hfew
  unfold keepF at hsy
  subst hsy
  have sm : Sm ki.1 ki.2 := by obtain ⟨x, y, z⟩ := hfew; exact y.sm (by omega)
  obtain ⟨RC, hRC, hpC⟩ := Copy_p h2.kept sm
  obtain ⟨a', b', rfl, oa, ob⟩ := hRC.agg2
  have l2 := h2.lt
  simp only [abI_lss, bO_some, bB_bool, kI, decide_false, zbtZ, zjZ, zblZ, Nat.zero_add, ald_ptr h2.obj, (rd9 _ _ _ _ _ _ _ _ _).2]
  refine bP_pure hpC ?_
  have s1 := (st9 h2.obj oa ob).1
  have c1 : (H2.set os (some (AObj.cells [I s.cap, a', b', c', d', p, I s.made, I s.armed, B s.off])))[os]? = some (some (.cells [I s.cap, a', b', c', d', p, I s.made, I s.armed, B s.off])) := List.getElem?_set_self l2
  have s2 := fld c1 (k := 5) (x := nilSl) (by simp) rfl
  have c2 : (H2.set os (some (AObj.cells [I s.cap, a', b', c', d', nilSl, I s.made, I s.armed, B s.off])))[os]? = some (some (.cells [I s.cap, a', b', c', d', nilSl, I s.made, I s.armed, B s.off])) := List.getElem?_set_self l2
  have s3 := fld c2 (k := 8) (x := B false) (by simp) rfl
  have c3 : (H2.set os (some (AObj.cells [I s.cap, a', b', c', d', nilSl, I s.made, I s.armed, B false])))[os]? = some (some (.cells [I s.cap, a', b', c', d', nilSl, I s.made, I s.armed, B false])) := List.getElem?_set_self l2
  have s4 := fld c3 (k := 7) (x := I (-1)) (by simp) rfl
  simp only [List.set_set, List.set_cons_succ, List.set_cons_zero] at s2 s3 s4
  simp only [zjZ, bO_some, zblZ, Nat.zero_add, s1, bS_some, s2, s3, s4]
  refine ⟨by trivial, ⟨a', b', c', d', [], ⟨List.getElem?_set_self l2, hRC, h2.kept, rfl, rfl, rfl, by simp [idS], by simp [capOk]⟩⟩, ?_⟩
  refine ⟨by rw [List.length_set]; exact f2.len, fun j hj hne hjp => ?_, fun j hj => by simp [idS] at hj⟩
  rw [List.getElem?_set_ne (Ne.symm hne), f2.same j hj hne hjp])
end Go.Proofs.Ytofgloiebnppbaa.Av
end
/-! YtofgloiebnppbaaAvKp -/
section
/- What the statements hand in, made of small numbers: names, bytes. -/
set_option linter.unusedVariables false
set_option linter.unusedSimpArgs false
set_option maxRecDepth 100000
namespace Go.Proofs.Ytofgloiebnppbaa.Av
open Go Go.RowKit

def rightT : List (List UInt8) := [[97], [98], [99], [100, 115, 116], [109, 97, 112], [120, 45, 49]]
def rightK (k : UInt8) : List UInt8 := rightT.getD (k.toNat % 6) []
theorem Right_p (k : UInt8) : BPure Try.prog 16 [.lit (.int .u8 k.toNat)] (S (bstr (rightK k))) := BPure.val rfl rfl (salvorkeep_Right_ok (by
 unfold zieZ
 have e1 : absl [] 1 6 (zrow [(.lit (.string ⟨#[]⟩))] 6) [(0, 1, (.lit (.string ⟨#[97]⟩))), (1, 1, (.lit (.string ⟨#[98]⟩))), (2, 1, (.lit (.string ⟨#[99]⟩))), (3, 1, (.lit (.string ⟨#[100, 115, 116]⟩))), (4, 1, (.lit (.string ⟨#[109, 97, 112]⟩))), (5, 1, (.lit (.string ⟨#[120, 45, 49]⟩)))] = some (.sl 0 0 6 1 (.ex 6), [some (.cells (rightT.map fun s => S (bstr s)))]) := by rfl
 have hm : k.toNat % 6 < 6 := Nat.mod_lt _ (by omega)
 have e2 : abI .rem (.lit (.int .u8 k.toNat)) (.lit (.int .u8 6)) = some (.lit (.int .u8 ((k.toNat % 6 : Nat) : Int))) := by
  simp [abI, aint2, Int.tmod_eq_emod_of_nonneg]
 rw [e1, e2]
 simp only [bH_some, bO_some]
 have e3 : aixS 1 (.sl 0 0 6 1 (.ex 6)) (.lit (.int .u8 ((k.toNat % 6 : Nat) : Int))) = some (.ptr 0 (k.toNat % 6)) := by
  simp [aixS, aint]
  omega
 have e4 : ald false 1 [some (.cells (rightT.map fun s => S (bstr s)))] (.ptr 0 (k.toNat % 6)) = some (S (bstr (rightK k))) := by
  rw [ald_ptr (cs := rightT.map fun s => S (bstr s)) rfl]
  have : rightT[k.toNat % 6]? = some (rightK k) := by
   unfold rightK
   rw [List.getD_eq_getElem?_getD, List.getElem?_eq_getElem (show k.toNat % 6 < rightT.length by simp [rightT]; omega)]
   rfl
  simp [zcyZ, this]
 rw [e3]
 simp only [bO_some, e4]))
end Go.Proofs.Ytofgloiebnppbaa.Av
end
/-! YtofgloiebnppbaaAvSr -/
section
/- Chapter 13: its closed sentence. -/
namespace Go.Proofs.Ytofgloiebnppbaa.Av
open Go Go.RowKit
set_option maxRecDepth 100000
theorem storeRuns_ran : isTrue (run Try.prog cmpExt (inL []) (inL []) 100000 100 3 [] []) = true := by kernel_rfl
theorem storeRuns_p : BPure Try.prog 3 [] (B true) := .of_true (run_true cmpExt_ok storeRuns_ran)
end Go.Proofs.Ytofgloiebnppbaa.Av
end
/-! YtofgloiebnppbaaAvSn -/
section
/- Chapter 13: the numbers that files have. -/
set_option linter.unusedVariables false
set_option linter.unusedSimpArgs false
set_option maxRecDepth 100000
namespace Go.Proofs.Ytofgloiebnppbaa.Av
open Go Go.RowKit

def NOk (m : Int) (i : Img) : Prop := ∀ x ∈ i.1, x.ino ≤ m ∧ x.name ∈ rightT
def OOk (m : Int) (o : OpM) : Prop := (o.kind = 1 ∧ o.ino ≤ m ∧ o.name ∈ rightT) ∨ o.kind = 7
theorem NOk.step {m : Int} {i : Img} {o : OpM} (h : NOk m i) (ho : OOk m o) : NOk m (applyI i.1 i.2 o) := by
 intro x hx
 unfold applyI at hx
 split at hx
 ·rcases ho with ⟨k, a, b⟩ | k
  ·rw [if_pos k] at hx
   split at hx
   ·rcases mem_insK.1 hx with rfl | hx
    ·exact ⟨a, b⟩
    ·exact h x hx
   ·exact h x hx
  ·rw [if_neg (by omega), if_neg (by omega), if_neg (by omega), if_pos k] at hx
   have hx : x ∈ remNs i.1 o.name := hx
   unfold remNs at hx
   split at hx
   ·exact h x (delK_sub.subset hx)
   ·exact h x hx
 ·exact h x hx
theorem NOk.mono {m m' : Int} {i : Img} (h : NOk m i) (hm : m ≤ m') : NOk m' i := fun x hx => ⟨by have := (h x hx).1; omega, (h x hx).2⟩
theorem OOk.mono {m m' : Int} {o : OpM} (h : OOk m o) (hm : m ≤ m') : OOk m' o := by
 rcases h with ⟨a, b, c⟩ | h
 ·exact .inl ⟨a, by omega, c⟩
 ·exact .inr h
structure NumS (s : StS) : Prop where
 off : s.off = false
 armed : s.armed = -1
 now : NOk s.made s.now
 kept : NOk s.made s.kept
 pend : ∀ o ∈ s.pend, OOk s.made o
theorem NumS.new (n : Int) : NumS (newS n) := ⟨rfl, rfl, by simp [NOk, newS], by simp [NOk, newS], by simp [newS]⟩
theorem keepF_n {m : Int} {bits : List Bool} : ∀ {r : List OpM} {i : Nat} {x : Img}, NOk m x → (∀ o ∈ r, OOk m o) → NOk m (keepF bits i r x)
 | [], i, x, h, _ => h
 | o :: r, i, x, h, ho => by
  unfold keepF
  split
  ·exact keepF_n (h.step (ho o (by simp))) fun z hz => ho z (by simp [hz])
  ·exact keepF_n h fun z hz => ho z (by simp [hz])
theorem syncF_n {m : Int} {l : List Int} : ∀ {r : List OpM} {x : Img × List OpM}, NOk m x.1 → (∀ o ∈ x.2, OOk m o) → (∀ o ∈ r, OOk m o) → NOk m (syncF l r x).1 ∧ ∀ o ∈ (syncF l r x).2, OOk m o
 | [], x, h, h2, _ => ⟨h, h2⟩
 | o :: r, x, h, h2, ho => by
  unfold syncF
  split
  ·exact syncF_n (x := (applyI x.1.1 x.1.2 o, x.2)) (h.step (ho o (by simp))) h2 fun z hz => ho z (by simp [hz])
  ·refine syncF_n (x := (x.1, x.2 ++ [o])) h (fun z hz => ?_) fun z hz => ho z (by simp [hz])
   simp only [List.mem_append, List.mem_singleton] at hz
   rcases hz with hz | rfl
   ·exact h2 z hz
   ·exact ho _ (by simp)
theorem NumS.rest {s : StS} (h : NumS s) (l : List Bool) : NumS (restS s l) := by
 have hk := keepF_n (bits := l) (i := 0) h.kept h.pend
 exact ⟨rfl, rfl, hk, hk, by simp [restS]⟩
theorem NumS.deed {s : StS} (h : NumS s) : deedS s = (true, s) := by
 unfold deedS
 rw [if_neg (by rw [h.off, h.armed]; simp), if_neg (by rw [h.armed]; omega)]
theorem NumS.do {s : StS} (h : NumS s) (o : OpM) : doS s o = (0, { s with now := applyI s.now.1 s.now.2 o, pend := s.pend ++ [o] }) := by
 unfold doS
 rw [h.deed]; rfl
theorem NumS.sync {s : StS} (h : NumS s) (l : List Int) : NumS (syncS s l).2 := by
 unfold syncS
 rw [h.deed]
 obtain ⟨h1, h2⟩ := syncF_n (l := l) (x := (s.kept, [])) h.kept (by simp) h.pend
 exact ⟨h.off, h.armed, h.now, h1, h2⟩
theorem NumS.rem {s : StS} (h : NumS s) (name : List UInt8) : NumS (remS s name).2 ∧ (remS s name).2.made = s.made := by
 unfold remS
 split
 ·exact ⟨h, rfl⟩
 ·unfold doS
  rw [h.deed]
  have ho : OOk s.made (opRem name) := .inr rfl
  refine ⟨⟨h.off, h.armed, h.now.step ho, h.kept, fun o hm => ?_⟩, rfl⟩
  have hm : o ∈ s.pend ++ [opRem name] := hm
  simp only [List.mem_append, List.mem_singleton] at hm
  rcases hm with hm | rfl
  ·exact h.pend o hm
  ·exact ho
theorem nd_len {α : Type} [DecidableEq α] : ∀ {a b : List α}, a.Nodup → (∀ x ∈ a, x ∈ b) → a.length ≤ b.length
 | [], _, _, _ => by simp
 | x :: a, b, hn, hs => by
  rw [List.nodup_cons] at hn
  have h1 := nd_len (a := a) (b := b.erase x) hn.2 fun y hy => (List.mem_erase_of_ne (fun e => hn.1 (by rw [← e]; exact hy))).2 (hs y (by simp [hy]))
  rw [List.length_erase_of_mem (hs x (by simp))] at h1
  have := List.length_pos_of_mem (hs x (by simp))
  simp only [List.length_cons]; omega
theorem names_few {l : List Nm} (hs : srtK cmpN Nm.name l) (hr : ∀ x ∈ l, x.name ∈ rightT) : l.length ≤ 6 := by
 have hn : (l.map Nm.name).Nodup := by
  unfold List.Nodup
  rw [List.pairwise_map]
  refine List.Pairwise.imp ?_ hs
  intro a b h e
  rw [e] at h
  exact koN.irr _ h
 have := nd_len (b := rightT) hn (by intro x hx; obtain ⟨y, hy, rfl⟩ := List.mem_map.1 hx; exact hr y hy)
 rw [List.length_map] at this
 exact this
theorem right_may : ∀ s ∈ rightT, mayN s := by decide
theorem NumS.open {N : Nat} {s : StS} (h : NumS s) (hw : SW N s) {name : List UInt8} (hn : name ∈ rightT) :
  NumS (openS s name true).2 ∧ (openS s name true).1.2 = 0 ∧
  ((hasK Nm.name s.now.1 name ∧ (openS s name true).1.1 ≤ s.made ∧ (openS s name true).2.made = s.made) ∨ (¬ hasK Nm.name s.now.1 name ∧ (openS s name true).1.1 = s.made + 1 ∧ (openS s name true).2.made = s.made + 1)) := by
 have hm := right_may name hn
 have hl := names_few hw.now.1.srt fun x hx => (h.now x hx).2
 unfold openS
 by_cases hk : hasK Nm.name s.now.1 name
 ·have e : findS s name = (nameI s.now.1 name, 0) := by
   unfold findS; rw [if_neg (by rw [h.off]; simp), if_neg (fun q => q hm), if_pos hk]
  rw [e]
  refine ⟨?_, ?_, .inl ⟨hk, ?_⟩⟩
  ·simp [h]
  ·simp
  ·simp
   obtain ⟨x, e1, e2, e3⟩ := atK_has hk
   unfold nameI
   rw [e1]
   exact (h.now x e2).1
 ·have e : findS s name = (0, 3) := by
   unfold findS; rw [if_neg (by rw [h.off]; simp), if_neg (fun q => q hm), if_neg hk]
  have ho : OOk (s.made + 1) (opCre name (s.made + 1)) := .inl ⟨rfl, by simp [opCre], hn⟩
  rw [e, if_neg (by simp), if_neg (by omega)]
  rw [h.do, if_neg (by simp)]
  refine ⟨⟨h.off, h.armed, (h.now.mono (by simp only; omega)).step ho, h.kept.mono (by simp only; omega), fun o hm => ?_⟩, rfl, .inr ⟨hk, rfl, rfl⟩⟩
  simp only [List.mem_append, List.mem_singleton] at hm
  rcases hm with hm | rfl
  ·exact (h.pend o hm).mono (by simp only; omega)
  ·exact ho
end Go.Proofs.Ytofgloiebnppbaa.Av
end
