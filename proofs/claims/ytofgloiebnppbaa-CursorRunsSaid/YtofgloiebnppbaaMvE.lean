/- Texts of this proof, one behind the other, packed into one file by a program of this session. No condition. -/
import Derived.Test.YtofgloiebnppbaaMvD
import Derived.ChangeArms
import Derived.DataElems
import Derived.DataReads
import Derived.Laws.IdiomStrings
import Derived.Lib.Bytealg
import Derived.OpenShut
/-! YtofgloiebnppbaaPb -/
section
/- Formulas of functions of the program: printed by a program of this session (wip/tools/Pr.lean.txt), each checked by the kernel. -/
set_option linter.unusedVariables false
set_option maxRecDepth 100000
namespace Go.Proofs.Ytofgloiebnppbaa.Av
open Go
def pqb : FuncId → Bool := inL [79,61,80,47,81,89,60,84,18,49,42,48,39,43,73,65,67,87,86]
def pqba : FuncId → Bool := inL [90,92]
/-! salvor/image.copied -/
def image_copied_fl : Floats := flOf []
def image_copied_kp : Nat → Option (List Bool) := kpOf []
def image_copied (a0 : AV) (H : AH) (K : AV → AH → Prop) : Prop :=
bH (anew H a0) fun v0 H1 =>
bH (anew H1 (.agg [(.lit (.int .i64 0)), (.lit (.slice none 0 0))])) fun v2 H3 =>
bO (ashift 0 v0) fun v4 =>
bO (ald false 1 H3 v4) fun v5 =>
bO (ashift 1 v0) fun v6 =>
bO (ald false 1 H3 v6) fun v7 =>
bP (BPure Try.prog 84 [v7]) fun v8 =>
bO (abl [(.lit (.int .i64 0)), (.lit (.slice none 0 0))] [(0, 1, v5), (1, 1, v8)]) fun v9 =>
bS (ast 2 H3 v2 v9) fun H10 =>
bO (ald true 2 H10 v2) fun v11 =>
K v11 H10
theorem image_copied_eq (a0 : AV) (H : AH) (K : AV → AH → Prop) : sFun Try.prog image_copied_fl pqb none0 none0 image_copied_kp Try.f60 [a0] H K = image_copied a0 H K := by kernel_rfl
theorem image_copied_ok {a0 : AV} {H : AH} {K : AV → AH → Prop} (h : image_copied a0 H K) : ∃ r H', K r H' ∧ BCall Try.prog 60 [a0] H r H' :=
 sFun_ok mixP Try.func60 (by kernel_rfl) (Eq.mpr (image_copied_eq a0 H K) h)
/-! salvor/image.Find -/
def image_Find_fl : Floats := flOf []
def image_Find_kp : Nat → Option (List Bool) := kpOf []
def image_Find (a0 a1 : AV) (H : AH) (K : AV → AH → Prop) : Prop :=
bH (anew H a0) fun v0 H1 =>
bO (ald true 2 H1 v0) fun v2 =>
bP (PCall Try.prog 43 [v2] H1) fun v3 =>
bO (aun .not v3) fun v4 =>
bB v4 fun t5 => bI t5 (
K (.tup [(.lit (.int .i64 0)), (.lit (.bool false))]) H1)
 (bO (ald true 2 H1 v0) fun v6 =>
bC (BCall Try.prog 44 [v6, a1] H1) fun v7 H8 =>
bO (zdZ v7 0) fun v9 =>
bO (zdZ v7 1) fun v10 =>
bO (aun .not v10) fun v11 =>
bB v11 fun t12 => bI t12 (
K (.tup [(.lit (.int .i64 0)), (.lit (.bool false))]) H8)
 (bO (ashift 0 v0) fun v13 =>
bO (ald false 1 H8 v13) fun v14 =>
bO (aixS 2 v14 v9) fun v15 =>
bO (ashift 1 v15) fun v16 =>
bO (ald false 1 H8 v16) fun v17 =>
K (.tup [v17, (.lit (.bool true))]) H8))
theorem image_Find_eq (a0 a1 : AV) (H : AH) (K : AV → AH → Prop) : sFun Try.prog image_Find_fl pqb none0 none0 image_Find_kp Try.f18 [a0, a1] H K = image_Find a0 a1 H K := by kernel_rfl
theorem image_Find_ok {a0 a1 : AV} {H : AH} {K : AV → AH → Prop} (h : image_Find a0 a1 H K) : ∃ r H', K r H' ∧ BCall Try.prog 18 [a0, a1] H r H' :=
 sFun_ok mixP Try.func18 (by kernel_rfl) (Eq.mpr (image_Find_eq a0 a1 H K) h)
/-! salvor/image.Get -/
def image_Get_fl : Floats := flOf []
def image_Get_kp : Nat → Option (List Bool) := kpOf []
def image_Get (a0 a1 : AV) (H : AH) (K : AV → AH → Prop) : Prop :=
bH (anew H a0) fun v0 H1 =>
bH (anew H1 (.agg [(.lit (.int .i64 0)), (.lit (.slice none 0 0))])) fun v2 H3 =>
bO (ald true 2 H3 v0) fun v4 =>
bP (PCall Try.prog 43 [v4] H3) fun v5 =>
bO (aun .not v5) fun v6 =>
bB v6 fun t7 => bI t7 (
bO (abl [(.lit (.int .i64 0)), (.lit (.slice none 0 0))] []) fun v8 =>
bS (ast 2 H3 v2 v8) fun H9 =>
bO (ald true 2 H9 v2) fun v10 =>
K (.tup [v10, (.lit (.bool false))]) H9)
 (bO (ald true 2 H3 v0) fun v11 =>
bC (BCall Try.prog 74 [v11, a1] H3) fun v12 H13 =>
bO (zdZ v12 0) fun v14 =>
bO (zdZ v12 1) fun v15 =>
bO (aun .not v15) fun v16 =>
bB v16 fun t17 => bI t17 (
bO (abl [(.lit (.int .i64 0)), (.lit (.slice none 0 0))] []) fun v18 =>
bS (ast 2 H13 v2 v18) fun H19 =>
bO (ald true 2 H19 v2) fun v20 =>
K (.tup [v20, (.lit (.bool false))]) H19)
 (bO (ashift 1 v0) fun v21 =>
bO (ald false 1 H13 v21) fun v22 =>
bO (aixS 3 v22 v14) fun v23 =>
bO (ashift 1 v23) fun v24 =>
bO (ald true 2 H13 v24) fun v25 =>
bP (PCall Try.prog 60 [v25] H13) fun v26 =>
bS (ast 2 H13 v2 v26) fun H27 =>
bO (ald true 2 H27 v2) fun v28 =>
K (.tup [v28, (.lit (.bool true))]) H27))
theorem image_Get_eq (a0 a1 : AV) (H : AH) (K : AV → AH → Prop) : sFun Try.prog image_Get_fl pqb none0 none0 image_Get_kp Try.f49 [a0, a1] H K = image_Get a0 a1 H K := by kernel_rfl
theorem image_Get_ok {a0 a1 : AV} {H : AH} {K : AV → AH → Prop} (h : image_Get a0 a1 H K) : ∃ r H', K r H' ∧ BCall Try.prog 49 [a0, a1] H r H' :=
 sFun_ok mixP Try.func49 (by kernel_rfl) (Eq.mpr (image_Get_eq a0 a1 H K) h)
/-! salvor/image.Used -/
def image_Used_fl : Floats := flOf []
def image_Used_kp : Nat → Option (List Bool) := kpOf [(7, mk 24 0 [3, 10, 11, 12])]
def zljZ (p : List Bool) (n : Nat) : List AV → AH → Kf → Prop := sCode Try.prog image_Used_fl pqb none0 none0 image_Used_kp (sub p (bodyOf Try.f42)) n
def image_Used_L7 (x3 x10 x11 x12 : AV) (H : AH) (K : AV → AH → Prop) : Prop := lp (mk 24 0 [3, 10, 11, 12]) (zljZ [true, true, true, false, true, false, false] 8) [x3, x10, x11, x12] H (kBlk 0 (kSeq (zljZ [true, true, true, true] 12) (kRet Try.prog Try.f42.results.toList K)))
def zjgZ (R7 : List AV → AH → Prop) (x3 x10 x11 x12 : AV) (H : AH) (K : AV → AH → Prop) : Prop :=
bO (abI .lss x12 x11) fun v0 =>
bB v0 fun t1 => bI t1 (
bO (aixS 3 x10 x12) fun v2 =>
bO (ald true 3 H v2) fun v3 =>
bH (anew H (.agg [(.lit (.int .i64 0)), (.lit (.int .i64 0)), (.lit (.slice none 0 0))])) fun v4 H5 =>
bS (ast 3 H5 v4 v3) fun H6 =>
bO (ashift 1 v4) fun v7 =>
bO (ashift 1 v7) fun v8 =>
bO (ald false 1 H6 v8) fun v9 =>
bO (alnS v9) fun v10 =>
bO (abI .add x3 v10) fun v11 =>
bO (abI .add x12 (.lit (.int .i64 1))) fun v12 =>
R7 [v11, x10, x11, v12] H6)
 (K x3 H)
theorem image_Used_L7_eq (R7 : List AV → AH → Prop) (x3 x10 x11 x12 : AV) (H : AH) (K : AV → AH → Prop) : zljZ [true, true, true, false, true, false, false] 8 (expand (mk 24 0 [3, 10, 11, 12]) [x3, x10, x11, x12]) H (kLp (mk 24 0 [3, 10, 11, 12]) R7 (kBlk 0 (kSeq (zljZ [true, true, true, true] 12) (kRet Try.prog Try.f42.results.toList K)))) = zjgZ R7 x3 x10 x11 x12 H K := by kernel_rfl
theorem image_Used_L7_rule {K : AV → AH → Prop} (I : Nat → AV → AV → AV → AV → AH → Prop) (round : ∀ (n : Nat) (x3 x10 x11 x12 : AV) (H : AH) (R : List AV → AH → Prop), (∀ (m : Nat) (y3 y10 y11 y12 : AV) (H' : AH), m < n → I m y3 y10 y11 y12 H' → R [y3, y10, y11, y12] H') → I n x3 x10 x11 x12 H → zjgZ R x3 x10 x11 x12 H K) (n : Nat) {x3 x10 x11 x12 : AV} {H : AH} (h : I n x3 x10 x11 x12 H) : image_Used_L7 x3 x10 x11 x12 H K := by
 refine lp_upto (zbqZ _ _) (LI4 I) ?_ n h
 intro n X H h
 obtain ⟨x3, x10, x11, x12, rfl, h⟩ := h.elim
 exact Eq.mpr (image_Used_L7_eq _ x3 x10 x11 x12 H K) (round n x3 x10 x11 x12 H (fun X H' => ∃ m, m < n ∧ LI4 I m X H') (fun m y3 y10 y11 y12 H' hm hi => ⟨m, hm, hi⟩) h)
def image_Used (a0 : AV) (H : AH) (K : AV → AH → Prop) : Prop :=
bH (anew H a0) fun v0 H1 =>
bO (ald true 2 H1 v0) fun v2 =>
bP (PCall Try.prog 43 [v2] H1) fun v3 =>
bO (aun .not v3) fun v4 =>
bB v4 fun t5 => bI t5 (
K (.lit (.int .i64 0)) H1)
 (bO (ashift 1 v0) fun v6 =>
bO (ald false 1 H1 v6) fun v7 =>
bO (alnS v7) fun v8 =>
image_Used_L7 (.lit (.int .i64 0)) v7 v8 (.lit (.int .i64 0)) H1 K)
theorem image_Used_eq (a0 : AV) (H : AH) (K : AV → AH → Prop) : sFun Try.prog image_Used_fl pqb none0 none0 image_Used_kp Try.f42 [a0] H K = image_Used a0 H K := by kernel_rfl
theorem image_Used_ok {a0 : AV} {H : AH} {K : AV → AH → Prop} (h : image_Used a0 H K) : ∃ r H', K r H' ∧ BCall Try.prog 42 [a0] H r H' :=
 sFun_ok mixP Try.func42 (by kernel_rfl) (Eq.mpr (image_Used_eq a0 H K) h)
/-! salvor/image.MayName -/
def zluZ : Floats := flOf []
def zlvZ : Nat → Option (List Bool) := kpOf [(6, mk 27 0 [0, 17, 18])]
def zhaZ (p : List Bool) (n : Nat) : List AV → AH → Kf → Prop := sCode Try.prog zluZ pqb none0 none0 zlvZ (sub p (bodyOf Try.f48)) n
def zijZ (x0 x17 x18 : AV) (H : AH) (K : AV → AH → Prop) : Prop := lp (mk 27 0 [0, 17, 18]) (zhaZ [true, true, false, true, false, false] 7) [x0, x17, x18] H (kBlk 0 (kSeq (zhaZ [true, true, true] 13) (kRet Try.prog Try.f48.results.toList K)))
def zgtZ (R6 : List AV → AH → Prop) (x0 x17 x18 : AV) (H : AH) (K : AV → AH → Prop) : Prop :=
bO (abI .lss x18 x17) fun v0 =>
bB v0 fun t1 => bI t1 (
bO (aivT x0 x18) fun v2 =>
bP (PCall Try.prog 73 [v2] H) fun v3 =>
bO (aun .not v3) fun v4 =>
bB v4 fun t5 => bI t5 (
K (.lit (.bool false)) H)
 (bO (abI .add x18 (.lit (.int .i64 1))) fun v6 =>
R6 [x0, x17, v6] H))
 (K (.lit (.bool true)) H)
theorem image_MayName_L6_eq (R6 : List AV → AH → Prop) (x0 x17 x18 : AV) (H : AH) (K : AV → AH → Prop) : zhaZ [true, true, false, true, false, false] 7 (expand (mk 27 0 [0, 17, 18]) [x0, x17, x18]) H (kLp (mk 27 0 [0, 17, 18]) R6 (kBlk 0 (kSeq (zhaZ [true, true, true] 13) (kRet Try.prog Try.f48.results.toList K)))) = zgtZ R6 x0 x17 x18 H K := by kernel_rfl
theorem zmdZ {K : AV → AH → Prop} (I : Nat → AV → AV → AV → AH → Prop) (round : ∀ (n : Nat) (x0 x17 x18 : AV) (H : AH) (R : List AV → AH → Prop), (∀ (m : Nat) (y0 y17 y18 : AV) (H' : AH), m < n → I m y0 y17 y18 H' → R [y0, y17, y18] H') → I n x0 x17 x18 H → zgtZ R x0 x17 x18 H K) (n : Nat) {x0 x17 x18 : AV} {H : AH} (h : I n x0 x17 x18 H) : zijZ x0 x17 x18 H K := by
 refine lp_upto (zbqZ _ _) (LI3 I) ?_ n h
 intro n X H h
 obtain ⟨x0, x17, x18, rfl, h⟩ := h.elim
 exact Eq.mpr (image_MayName_L6_eq _ x0 x17 x18 H K) (round n x0 x17 x18 H (fun X H' => ∃ m, m < n ∧ LI3 I m X H') (fun m y0 y17 y18 H' hm hi => ⟨m, hm, hi⟩) h)
def image_MayName (a0 : AV) (H : AH) (K : AV → AH → Prop) : Prop :=
bO (abT .eql a0 (.lit (.string ⟨#[]⟩))) fun v0 =>
bG v0 false fun w1 =>
gO w1 (some a0) fun v2 =>
bG v0 false fun w3 =>
gO w3 (alnT v2) fun v4 =>
bG v0 false fun w5 =>
gO w5 (abI .gtr v4 (.lit (.int .i64 20))) fun v6 =>
bO (apick v0 (.lit (.bool true)) v6) fun v7 =>
bG v7 false fun w8 =>
gO w8 (some a0) fun v9 =>
bG v7 false fun w10 =>
gO w10 (aivT v9 (.lit (.int .i64 0))) fun v11 =>
bG v7 false fun w12 =>
gO w12 (abI .eql v11 (.lit (.int .u8 45))) fun v13 =>
bO (apick v7 (.lit (.bool true)) v13) fun v14 =>
bB v14 fun t15 => bI t15 (
K (.lit (.bool false)) H)
 (bO (alnT a0) fun v16 =>
zijZ a0 v16 (.lit (.int .i64 0)) H K)
theorem image_MayName_eq (a0 : AV) (H : AH) (K : AV → AH → Prop) : sFun Try.prog zluZ pqb none0 none0 zlvZ Try.f48 [a0] H K = image_MayName a0 H K := by kernel_rfl
theorem image_MayName_ok {a0 : AV} {H : AH} {K : AV → AH → Prop} (h : image_MayName a0 H K) : ∃ r H', K r H' ∧ BCall Try.prog 48 [a0] H r H' :=
 sFun_ok mixP Try.func48 (by kernel_rfl) (Eq.mpr (image_MayName_eq a0 H K) h)
/-! salvor/image.Apply -/
def image_Apply_fl : Floats := flOf []
def image_Apply_kp : Nat → Option (List Bool) := kpOf [(13, mk 37 0 [2, 3, 4, 31]), (12, mk 37 0 [2, 3, 4, 12, 24]), (8, mk 37 0 [2, 3, 4, 12, 17]), (5, mk 37 0 [2, 4])]
def zefZ (p : List Bool) (n : Nat) : List AV → AH → Kf → Prop := sCode Try.prog image_Apply_fl pqb none0 none0 image_Apply_kp (sub p (bodyOf Try.f39)) n
def zdpZ (x2 x4 : AV) (H : AH) (K : AV → AH → Prop) : Prop := jn (mk 37 0 [2, 4]) (zefZ [true, true, true, true] 14) [x2, x4] H (kRet Try.prog Try.f39.results.toList K)
def image_Apply_J13 (x2 x3 x4 x31 : AV) (H : AH) (K : AV → AH → Prop) : Prop := jn (mk 37 0 [2, 3, 4, 31]) (zefZ [true, true, true, false, true, false, true, true, true, true, true, true, true] 14) [x2, x3, x4, x31] H (kBlk 0 (kSeq (cutC (mk 37 0 [2, 4]) (zefZ [true, true, true, true] 14)) (kRet Try.prog Try.f39.results.toList K)))
def image_Apply_J12 (x2 x3 x4 x12 x24 : AV) (H : AH) (K : AV → AH → Prop) : Prop := jn (mk 37 0 [2, 3, 4, 12, 24]) (zefZ [true, true, true, false, true, false, true, true, true, true, true] 13) [x2, x3, x4, x12, x24] H (kBlk 0 (kSeq (cutC (mk 37 0 [2, 4]) (zefZ [true, true, true, true] 14)) (kRet Try.prog Try.f39.results.toList K)))
def zelZ (x2 x3 x4 x12 x17 : AV) (H : AH) (K : AV → AH → Prop) : Prop := jn (mk 37 0 [2, 3, 4, 12, 17]) (zefZ [true, true, true, false, true, false, true, true, true] 12) [x2, x3, x4, x12, x17] H (kBlk 0 (kSeq (cutC (mk 37 0 [2, 4]) (zefZ [true, true, true, true] 14)) (kRet Try.prog Try.f39.results.toList K)))
def zigZ (x2 x4 : AV) (H : AH) (K : AV → AH → Prop) : Prop :=
bO (ald true 2 H x2) fun v0 =>
bS (ast 2 H x4 v0) fun H1 =>
bO (ald true 2 H1 x4) fun v2 =>
K v2 H1
theorem zlhZ (x2 x4 : AV) (H : AH) (K : AV → AH → Prop) : zdpZ x2 x4 H K = zigZ x2 x4 H K := (jn_eq _ _ _ _ _).trans (by kernel_rfl)
def zkxZ (x2 x3 x4 x31 : AV) (H : AH) (K : AV → AH → Prop) : Prop :=
bB x31 fun t0 => bI t0 (
bO (ashift 5 x3) fun v1 =>
bO (ald false 1 H v1) fun v2 =>
bC (BCall Try.prog 57 [x2, v2] H) fun v3 H4 =>
zdpZ x2 x4 H4 K)
 (zdpZ x2 x4 H K)
theorem image_Apply_J13_eq (x2 x3 x4 x31 : AV) (H : AH) (K : AV → AH → Prop) : image_Apply_J13 x2 x3 x4 x31 H K = zkxZ x2 x3 x4 x31 H K := (jn_eq _ _ _ _ _).trans (by kernel_rfl)
def zliZ (x2 x3 x4 x12 x24 : AV) (H : AH) (K : AV → AH → Prop) : Prop :=
bB x24 fun t0 => bI t0 (
bO (ashift 5 x3) fun v1 =>
bO (ald false 1 H v1) fun v2 =>
bO (ashift 6 x3) fun v3 =>
bO (ald false 1 H v3) fun v4 =>
bC (BCall Try.prog 56 [x2, v2, v4] H) fun v5 H6 =>
zdpZ x2 x4 H6 K)
 (bO (abI .eql x12 (.lit (.int .i64 7))) fun v7 =>
image_Apply_J13 x2 x3 x4 v7 H K)
theorem image_Apply_J12_eq (x2 x3 x4 x12 x24 : AV) (H : AH) (K : AV → AH → Prop) : image_Apply_J12 x2 x3 x4 x12 x24 H K = zliZ x2 x3 x4 x12 x24 H K := (jn_eq _ _ _ _ _).trans (by kernel_rfl)
def zltZ (x2 x3 x4 x12 x17 : AV) (H : AH) (K : AV → AH → Prop) : Prop :=
bB x17 fun t0 => bI t0 (
bO (ald true 8 H x3) fun v1 =>
bC (BCall Try.prog 55 [x2, v1] H) fun v2 H3 =>
zdpZ x2 x4 H3 K)
 (bO (abI .eql x12 (.lit (.int .i64 6))) fun v4 =>
image_Apply_J12 x2 x3 x4 x12 v4 H K)
theorem image_Apply_J8_eq (x2 x3 x4 x12 x17 : AV) (H : AH) (K : AV → AH → Prop) : zelZ x2 x3 x4 x12 x17 H K = zltZ x2 x3 x4 x12 x17 H K := (jn_eq _ _ _ _ _).trans (by kernel_rfl)
def image_Apply (a0 a1 : AV) (H : AH) (K : AV → AH → Prop) : Prop :=
bH (anew H a0) fun v0 H1 =>
bH (anew H1 a1) fun v2 H3 =>
bH (anew H3 (.agg [(.lit (.slice none 0 0)), (.lit (.slice none 0 0))])) fun v4 H5 =>
bO (ald true 2 H5 v0) fun v6 =>
bC (BCall Try.prog 40 [v6] H5) fun v7 H8 =>
bS (ast 2 H8 v0 v7) fun H9 =>
bO (ald true 2 H9 v0) fun v10 =>
bP (PCall Try.prog 43 [v10] H9) fun v11 =>
bO (aun .not v11) fun v12 =>
bB v12 fun t13 => bI t13 (
bO (ald true 2 H9 v0) fun v14 =>
bS (ast 2 H9 v4 v14) fun H15 =>
bO (ald true 2 H15 v4) fun v16 =>
K v16 H15)
 (bO (ashift 0 v2) fun v17 =>
bO (ald false 1 H9 v17) fun v18 =>
bO (abI .eql v18 (.lit (.int .i64 1))) fun v19 =>
bB v19 fun t20 => bI t20 (
bO (ald true 8 H9 v2) fun v21 =>
bC (BCall Try.prog 54 [v0, v21] H9) fun v22 H23 =>
zdpZ v0 v4 H23 K)
 (bO (abI .eql v18 (.lit (.int .i64 2))) fun v24 =>
bB v24 fun t25 => bI t25 (
zelZ v0 v2 v4 v18 v24 H9 K)
 (bO (abI .eql v18 (.lit (.int .i64 3))) fun v26 =>
bB v26 fun t27 => bI t27 (
zelZ v0 v2 v4 v18 v26 H9 K)
 (bO (abI .eql v18 (.lit (.int .i64 4))) fun v28 =>
bB v28 fun t29 => bI t29 (
zelZ v0 v2 v4 v18 v28 H9 K)
 (bO (abI .eql v18 (.lit (.int .i64 5))) fun v30 =>
zelZ v0 v2 v4 v18 v30 H9 K)))))
theorem image_Apply_eq (a0 a1 : AV) (H : AH) (K : AV → AH → Prop) : sFun Try.prog image_Apply_fl pqb none0 none0 image_Apply_kp Try.f39 [a0, a1] H K = image_Apply a0 a1 H K := by kernel_rfl
theorem image_Apply_ok {a0 a1 : AV} {H : AH} {K : AV → AH → Prop} (h : image_Apply a0 a1 H K) : ∃ r H', K r H' ∧ BCall Try.prog 39 [a0, a1] H r H' :=
 sFun_ok mixP Try.func39 (by kernel_rfl) (Eq.mpr (image_Apply_eq a0 a1 H K) h)
/-! salvor/image.May -/
def image_May_fl : Floats := flOf []
def image_May_kp : Nat → Option (List Bool) := kpOf [(8, mk 51 0 [3, 5, 25, 26, 27])]
def image_May_c (p : List Bool) (n : Nat) : List AV → AH → Kf → Prop := sCode Try.prog image_May_fl pqb none0 none0 image_May_kp (sub p (bodyOf Try.f43)) n
def image_May_L8 (x3 x5 x25 x26 x27 : AV) (H : AH) (K : AV → AH → Prop) : Prop := lp (mk 51 0 [3, 5, 25, 26, 27]) (image_May_c [true, true, true, true, false, true, false, false] 9) [x3, x5, x25, x26, x27] H (kBlk 0 (kSeq (image_May_c [true, true, true, true, true] 16) (kRet Try.prog Try.f43.results.toList K)))
def zkqZ (R8 : List AV → AH → Prop) (x3 x5 x25 x26 x27 : AV) (H : AH) (K : AV → AH → Prop) : Prop :=
bO (abI .lss x27 x26) fun v0 =>
bB v0 fun t1 => bI t1 (
bO (aixS 3 x25 x27) fun v2 =>
bO (ald true 3 H v2) fun v3 =>
bH (anew H (.agg [(.lit (.int .i64 0)), (.lit (.int .i64 0)), (.lit (.slice none 0 0))])) fun v4 H5 =>
bS (ast 3 H5 v4 v3) fun H6 =>
bO (ashift 0 v4) fun v7 =>
bO (ald false 1 H6 v7) fun v8 =>
bO (abI .leq v8 x5) fun v9 =>
bG v9 false fun w10 =>
gO w10 (some x3) fun v11 =>
bG v9 false fun w12 =>
gO w12 (ashift 0 v4) fun v13 =>
bG v9 false fun w14 =>
gO w14 (ald false 1 H6 v13) fun v15 =>
bG v9 false fun w16 =>
gO w16 (alk (.int .i64) (.bool false) H6 v11 v15 false) fun v17 =>
bG v9 false fun w18 =>
gO w18 (aun .not v17) fun v19 =>
bO (apick v9 (.lit (.bool true)) v19) fun v20 =>
bG v20 false fun w21 =>
gO w21 (ashift 1 v4) fun v22 =>
bG v20 false fun w23 =>
gO w23 (ald true 2 H6 v22) fun v24 =>
bG v20 false fun w25 =>
gP w25 (PCall Try.prog 61 [v24] H6) fun v26 =>
bG v20 false fun w27 =>
gO w27 (aun .not v26) fun v28 =>
bO (apick v20 (.lit (.bool true)) v28) fun v29 =>
bB v29 fun t30 => bI t30 (
K (.lit (.bool false)) H6)
 (bO (ashift 0 v4) fun v31 =>
bO (ald false 1 H6 v31) fun v32 =>
bO (abI .add x27 (.lit (.int .i64 1))) fun v33 =>
R8 [x3, v32, x25, x26, v33] H6))
 (K (.lit (.bool true)) H)
theorem image_May_L8_eq (R8 : List AV → AH → Prop) (x3 x5 x25 x26 x27 : AV) (H : AH) (K : AV → AH → Prop) : image_May_c [true, true, true, true, false, true, false, false] 9 (expand (mk 51 0 [3, 5, 25, 26, 27]) [x3, x5, x25, x26, x27]) H (kLp (mk 51 0 [3, 5, 25, 26, 27]) R8 (kBlk 0 (kSeq (image_May_c [true, true, true, true, true] 16) (kRet Try.prog Try.f43.results.toList K)))) = zkqZ R8 x3 x5 x25 x26 x27 H K := by kernel_rfl
theorem image_May_L8_rule {K : AV → AH → Prop} (I : Nat → AV → AV → AV → AV → AV → AH → Prop) (round : ∀ (n : Nat) (x3 x5 x25 x26 x27 : AV) (H : AH) (R : List AV → AH → Prop), (∀ (m : Nat) (y3 y5 y25 y26 y27 : AV) (H' : AH), m < n → I m y3 y5 y25 y26 y27 H' → R [y3, y5, y25, y26, y27] H') → I n x3 x5 x25 x26 x27 H → zkqZ R x3 x5 x25 x26 x27 H K) (n : Nat) {x3 x5 x25 x26 x27 : AV} {H : AH} (h : I n x3 x5 x25 x26 x27 H) : image_May_L8 x3 x5 x25 x26 x27 H K := by
 refine lp_upto (zbqZ _ _) (LI5 I) ?_ n h
 intro n X H h
 obtain ⟨x3, x5, x25, x26, x27, rfl, h⟩ := h.elim
 exact Eq.mpr (image_May_L8_eq _ x3 x5 x25 x26 x27 H K) (round n x3 x5 x25 x26 x27 H (fun X H' => ∃ m, m < n ∧ LI5 I m X H') (fun m y3 y5 y25 y26 y27 H' hm hi => ⟨m, hm, hi⟩) h)
def image_May (a0 : AV) (H : AH) (K : AV → AH → Prop) : Prop :=
bH (anew H a0) fun v0 H1 =>
bO (ashift 0 v0) fun v2 =>
bO (ald false 1 H1 v2) fun v3 =>
bC (BCall Try.prog 64 [v3] H1) fun v4 H5 =>
bO (zdZ v4 0) fun v6 =>
bO (zdZ v4 1) fun v7 =>
bO (aun .not v7) fun v8 =>
bG v8 false fun w9 =>
gO w9 (ashift 1 v0) fun v10 =>
bG v8 false fun w11 =>
gO w11 (ald false 1 H5 v10) fun v12 =>
bG v8 false fun w13 =>
gO w13 (alnS v12) fun v14 =>
bG v8 false fun w15 =>
gO w15 (some v6) fun v16 =>
bG v8 false fun w17 =>
gO w17 (alnM H5 v16) fun v18 =>
bG v8 false fun w19 =>
gO w19 (abI .neq v14 v18) fun v20 =>
bO (apick v8 (.lit (.bool true)) v20) fun v21 =>
bB v21 fun t22 => bI t22 (
K (.lit (.bool false)) H5)
 (bO (ashift 1 v0) fun v23 =>
bO (ald false 1 H5 v23) fun v24 =>
bO (alnS v24) fun v25 =>
image_May_L8 v6 (.lit (.int .i64 0)) v24 v25 (.lit (.int .i64 0)) H5 K)
theorem image_May_eq (a0 : AV) (H : AH) (K : AV → AH → Prop) : sFun Try.prog image_May_fl pqb none0 none0 image_May_kp Try.f43 [a0] H K = image_May a0 H K := by kernel_rfl
theorem image_May_ok {a0 : AV} {H : AH} {K : AV → AH → Prop} (h : image_May a0 H K) : ∃ r H', K r H' ∧ BCall Try.prog 43 [a0] H r H' :=
 sFun_ok mixP Try.func43 (by kernel_rfl) (Eq.mpr (image_May_eq a0 H K) h)
/-! salvor/image.Copy -/
def image_Copy_fl : Floats := flOf [(1, [(4, none)])]
def image_Copy_kp : Nat → Option (List Bool) := kpOf [(4, mk 31 0 [1, 2, 13, 14])]
def zlmZ (p : List Bool) (n : Nat) : List AV → AH → Kf → Prop := sCode Try.prog image_Copy_fl pqb none0 none0 image_Copy_kp (sub p (bodyOf Try.f40)) n
def image_Copy_L4 (x1 x2 x13 x14 : AV) (H : AH) (K : AV → AH → Prop) : Prop := lp (mk 31 0 [1, 2, 13, 14]) (zlmZ [true, true, false, true, false, false] 5) [x1, x2, x13, x14] H (kBlk 0 (kSeq (zlmZ [true, true, true] 9) (kRet Try.prog Try.f40.results.toList K)))
def zjnZ (R4 : List AV → AH → Prop) (x1 x2 x13 x14 : AV) (H : AH) (K : AV → AH → Prop) : Prop :=
bO (abI .lss x14 x13) fun v0 =>
bB v0 fun t1 => bI t1 (
bO (ashift 1 x1) fun v2 =>
bO (ald false 1 H v2) fun v3 =>
bO (ashift 1 x1) fun v4 =>
bO (ald false 1 H v4) fun v5 =>
bO (aixS 3 v5 x14) fun v6 =>
bO (ashift 1 v6) fun v7 =>
bO (ald true 2 H v7) fun v8 =>
bP (BPure Try.prog 60 [v8]) fun v9 =>
bO (aixS 3 v3 x14) fun v10 =>
bO (ashift 1 v10) fun v11 =>
bS (ast 2 H v11 v9) fun H12 =>
bO (abI .add x14 (.lit (.int .i64 1))) fun v13 =>
R4 [x1, x2, x13, v13] H12)
 (bO (ald true 2 H x1) fun v14 =>
bS (ast 2 H x2 v14) fun H15 =>
bO (ald true 2 H15 x2) fun v16 =>
K v16 H15)
theorem image_Copy_L4_eq (R4 : List AV → AH → Prop) (x1 x2 x13 x14 : AV) (H : AH) (K : AV → AH → Prop) : zlmZ [true, true, false, true, false, false] 5 (expand (mk 31 0 [1, 2, 13, 14]) [x1, x2, x13, x14]) H (kLp (mk 31 0 [1, 2, 13, 14]) R4 (kBlk 0 (kSeq (zlmZ [true, true, true] 9) (kRet Try.prog Try.f40.results.toList K)))) = zjnZ R4 x1 x2 x13 x14 H K := by kernel_rfl
theorem image_Copy_L4_rule {K : AV → AH → Prop} (I : Nat → AV → AV → AV → AV → AH → Prop) (round : ∀ (n : Nat) (x1 x2 x13 x14 : AV) (H : AH) (R : List AV → AH → Prop), (∀ (m : Nat) (y1 y2 y13 y14 : AV) (H' : AH), m < n → I m y1 y2 y13 y14 H' → R [y1, y2, y13, y14] H') → I n x1 x2 x13 x14 H → zjnZ R x1 x2 x13 x14 H K) (n : Nat) {x1 x2 x13 x14 : AV} {H : AH} (h : I n x1 x2 x13 x14 H) : image_Copy_L4 x1 x2 x13 x14 H K := by
 refine lp_upto (zbqZ _ _) (LI4 I) ?_ n h
 intro n X H h
 obtain ⟨x1, x2, x13, x14, rfl, h⟩ := h.elim
 exact Eq.mpr (image_Copy_L4_eq _ x1 x2 x13 x14 H K) (round n x1 x2 x13 x14 H (fun X H' => ∃ m, m < n ∧ LI4 I m X H') (fun m y1 y2 y13 y14 H' hm hi => ⟨m, hm, hi⟩) h)
def image_Copy (a0 : AV) (H : AH) (K : AV → AH → Prop) : Prop :=
bH (anew H a0) fun v0 H1 =>
bH (anew H1 (.agg [(.lit (.slice none 0 0)), (.lit (.slice none 0 0))])) fun v2 H3 =>
bO (ashift 0 v0) fun v4 =>
bO (ald false 1 H3 v4) fun v5 =>
bC (BCall Try.prog 58 [v5] H3) fun v6 H7 =>
bO (ashift 1 v0) fun v8 =>
bO (ald false 1 H7 v8) fun v9 =>
bC (BCall Try.prog 59 [v9] H7) fun v10 H11 =>
bO (abl [(.lit (.slice none 0 0)), (.lit (.slice none 0 0))] [(0, 1, v6), (1, 1, v10)]) fun v12 =>
bS (ast 2 H11 v0 v12) fun H13 =>
(ald false 1 H3 v8 = some v9) ∧
bO (ashift 1 v0) fun v14 =>
bO (ald false 1 H13 v14) fun v15 =>
bO (alnS v15) fun v16 =>
image_Copy_L4 v0 v2 v16 (.lit (.int .i64 0)) H13 K
theorem image_Copy_eq (a0 : AV) (H : AH) (K : AV → AH → Prop) : sFun Try.prog image_Copy_fl pqb none0 none0 image_Copy_kp Try.f40 [a0] H K = image_Copy a0 H K := by kernel_rfl
theorem image_Copy_ok {a0 : AV} {H : AH} {K : AV → AH → Prop} (h : image_Copy a0 H K) : ∃ r H', K r H' ∧ BCall Try.prog 40 [a0] H r H' :=
 sFun_ok mixP Try.func40 (by kernel_rfl) (Eq.mpr (image_Copy_eq a0 H K) h)
/-! salvor/image.named -/
def image_named_fl : Floats := flOf []
def image_named_kp : Nat → Option (List Bool) := kpOf []
def image_named (a0 a1 : AV) (H : AH) (K : AV → AH → Prop) : Prop :=
bH (anew H a0) fun v0 H1 =>
bO (ashift 0 v0) fun v2 =>
bO (ald false 1 H1 v2) fun v3 =>
bP (PCall Try.prog 65 [v3, a1, (.fn (.func 66) [] [])] H1) fun v4 =>
bO (zdZ v4 0) fun v5 =>
bO (zdZ v4 1) fun v6 =>
K (.tup [v5, v6]) H1
theorem image_named_eq (a0 a1 : AV) (H : AH) (K : AV → AH → Prop) : sFun Try.prog image_named_fl pqb none0 none0 image_named_kp Try.f44 [a0, a1] H K = image_named a0 a1 H K := by kernel_rfl
theorem image_named_ok {a0 a1 : AV} {H : AH} {K : AV → AH → Prop} (h : image_named a0 a1 H K) : ∃ r H', K r H' ∧ BCall Try.prog 44 [a0, a1] H r H' :=
 sFun_ok mixP Try.func44 (by kernel_rfl) (Eq.mpr (image_named_eq a0 a1 H K) h)
/-! salvor/image.node -/
def image_node_fl : Floats := flOf []
def image_node_kp : Nat → Option (List Bool) := kpOf []
def image_node (a0 a1 : AV) (H : AH) (K : AV → AH → Prop) : Prop :=
bH (anew H a0) fun v0 H1 =>
bO (ashift 1 v0) fun v2 =>
bO (ald false 1 H1 v2) fun v3 =>
bP (PCall Try.prog 87 [v3, a1, (.fn (.func 88) [] [])] H1) fun v4 =>
bO (zdZ v4 0) fun v5 =>
bO (zdZ v4 1) fun v6 =>
K (.tup [v5, v6]) H1
theorem image_node_eq (a0 a1 : AV) (H : AH) (K : AV → AH → Prop) : sFun Try.prog image_node_fl pqb none0 none0 image_node_kp Try.f74 [a0, a1] H K = image_node a0 a1 H K := by kernel_rfl
theorem image_node_ok {a0 a1 : AV} {H : AH} {K : AV → AH → Prop} (h : image_node a0 a1 H K) : ∃ r H', K r H' ∧ BCall Try.prog 74 [a0, a1] H r H' :=
 sFun_ok mixP Try.func74 (by kernel_rfl) (Eq.mpr (image_node_eq a0 a1 H K) h)
/-! salvor/image.may -/
def image_may_fl : Floats := flOf []
def image_may_kp : Nat → Option (List Bool) := kpOf []
def image_may (a0 : AV) (H : AH) (K : AV → AH → Prop) : Prop :=
bO (abI .geq a0 (.lit (.int .u8 97))) fun v0 =>
bG v0 true fun w1 =>
gO w1 (some a0) fun v2 =>
bG v0 true fun w3 =>
gO w3 (abI .leq v2 (.lit (.int .u8 122))) fun v4 =>
bO (apick v0 v4 (.lit (.bool false))) fun v5 =>
bG v5 false fun w6 =>
gO w6 (some a0) fun v7 =>
bG v5 false fun w8 =>
gO w8 (abI .geq v7 (.lit (.int .u8 48))) fun v9 =>
bG v5 false fun w10 =>
gO w10 (some v9) fun v11 =>
bG v11 true fun w12 =>
gO w12 (some a0) fun v13 =>
bG v11 true fun w14 =>
gO w14 (abI .leq v13 (.lit (.int .u8 57))) fun v15 =>
bG v5 false fun w16 =>
gO w16 (apick v11 v15 (.lit (.bool false))) fun v17 =>
bO (apick v5 (.lit (.bool true)) v17) fun v18 =>
bG v18 false fun w19 =>
gO w19 (some a0) fun v20 =>
bG v18 false fun w21 =>
gO w21 (abI .eql v20 (.lit (.int .u8 46))) fun v22 =>
bO (apick v18 (.lit (.bool true)) v22) fun v23 =>
bG v23 false fun w24 =>
gO w24 (some a0) fun v25 =>
bG v23 false fun w26 =>
gO w26 (abI .eql v25 (.lit (.int .u8 95))) fun v27 =>
bO (apick v23 (.lit (.bool true)) v27) fun v28 =>
bG v28 false fun w29 =>
gO w29 (some a0) fun v30 =>
bG v28 false fun w31 =>
gO w31 (abI .eql v30 (.lit (.int .u8 45))) fun v32 =>
bO (apick v28 (.lit (.bool true)) v32) fun v33 =>
K v33 H
theorem image_may_eq (a0 : AV) (H : AH) (K : AV → AH → Prop) : sFun Try.prog image_may_fl pqb none0 none0 image_may_kp Try.f73 [a0] H K = image_may a0 H K := by kernel_rfl
theorem image_may_ok {a0 : AV} {H : AH} {K : AV → AH → Prop} (h : image_may a0 H K) : ∃ r H', K r H' ∧ BCall Try.prog 73 [a0] H r H' :=
 sFun_ok mixP Try.func73 (by kernel_rfl) (Eq.mpr (image_may_eq a0 H K) h)
/-! salvor/image.create -/
def image_create_fl : Floats := flOf []
def image_create_kp : Nat → Option (List Bool) := kpOf [(100004, mk 82 0 [0, 3, 4, 6]), (100005, mk 82 0 [0, 3, 6]), (5, mk 82 0 [0, 3, 6])]
def image_create_un : Nat → Bool := inL [4, 5]
def zhwZ (p : List Bool) (n : Nat) : List AV → AH → Kf → Prop := sCode Try.prog image_create_fl pqb pqba image_create_un image_create_kp (sub p (bodyOf Try.f54)) n
def zjhZ (x0 x3 x6 : AV) (H : AH) (K : AV → AH → Prop) : Prop := unR Try.prog 5 (opsOf (sub [true, true, true, true, true] (bodyOf Try.f54))) (expand (mk 82 0 [0, 3, 6]) [x0, x3, x6]) H (kRet Try.prog Try.f54.results.toList K)
def zjpZ (x0 x3 x6 : AV) (H : AH) (K : AV → AH → Prop) : Prop := jn (mk 82 0 [0, 3, 6]) (zhwZ [true, true, true, true, true] 6) [x0, x3, x6] H (kRet Try.prog Try.f54.results.toList K)
def zgxZ (x0 x3 x4 x6 : AV) (H : AH) (K : AV → AH → Prop) : Prop := unR Try.prog 4 (opsOf (sub [true, true, true, true, false] (bodyOf Try.f54))) (expand (mk 82 0 [0, 3, 4, 6]) [x0, x3, x4, x6]) H (kSeq (cutC (mk 82 0 [0, 3, 6]) (zhwZ [true, true, true, true, true] 6)) (kRet Try.prog Try.f54.results.toList K))
def zkwZ (x0 x3 x6 : AV) (H : AH) (K : AV → AH → Prop) : Prop :=
zjhZ x0 x3 x6 H K
theorem image_create_J5_eq (x0 x3 x6 : AV) (H : AH) (K : AV → AH → Prop) : zjpZ x0 x3 x6 H K = zkwZ x0 x3 x6 H K := (jn_eq _ _ _ _ _).trans (by kernel_rfl)
def zlnZ (a0 a1 : AV) (H : AH) (K : AV → AH → Prop) : Prop :=
bH (anew H a1) fun v0 H1 =>
bO (zcZ a0) fun v2 =>
bO (ald true 2 H1 v2) fun v3 =>
bO (ashift 5 v0) fun v4 =>
bO (ald false 1 H1 v4) fun v5 =>
bC (BCall Try.prog 44 [v3, v5] H1) fun v6 H7 =>
bO (zdZ v6 0) fun v8 =>
bO (zdZ v6 1) fun v9 =>
bO (zcZ a0) fun v10 =>
bO (ald true 2 H7 v10) fun v11 =>
bO (ashift 1 v0) fun v12 =>
bO (ald false 1 H7 v12) fun v13 =>
bC (BCall Try.prog 74 [v11, v13] H7) fun v14 H15 =>
bO (zdZ v14 0) fun v16 =>
bO (zdZ v14 1) fun v17 =>
bG v9 false fun w18 =>
gO w18 (some v17) fun v19 =>
bO (apick v9 (.lit (.bool true)) v19) fun v20 =>
bG v20 false fun w21 =>
gO w21 (ashift 5 v0) fun v22 =>
bG v20 false fun w23 =>
gO w23 (ald false 1 H15 v22) fun v24 =>
bG v20 false fun w25 =>
gP w25 (PCall Try.prog 48 [v24] H15) fun v26 =>
bG v20 false fun w27 =>
gO w27 (aun .not v26) fun v28 =>
bO (apick v20 (.lit (.bool true)) v28) fun v29 =>
bG v29 false fun w30 =>
gO w30 (ashift 1 v0) fun v31 =>
bG v29 false fun w32 =>
gO w32 (ald false 1 H15 v31) fun v33 =>
bG v29 false fun w34 =>
gO w34 (abI .lss v33 (.lit (.int .i64 1))) fun v35 =>
bO (apick v29 (.lit (.bool true)) v35) fun v36 =>
bG v36 false fun w37 =>
gO w37 (ashift 1 v0) fun v38 =>
bG v36 false fun w39 =>
gO w39 (ald false 1 H15 v38) fun v40 =>
bG v36 false fun w41 =>
gO w41 (abI .gtr v40 (.lit (.int .i64 4611686018427387904))) fun v42 =>
bO (apick v36 (.lit (.bool true)) v42) fun v43 =>
bG v43 false fun w44 =>
gO w44 (some a0) fun v45 =>
bG v43 false fun w46 =>
gO w46 (zcZ v45) fun v47 =>
bG v43 false fun w48 =>
gO w48 (ashift 0 v47) fun v49 =>
bG v43 false fun w50 =>
gO w50 (ald false 1 H15 v49) fun v51 =>
bG v43 false fun w52 =>
gO w52 (alnS v51) fun v53 =>
bG v43 false fun w54 =>
gO w54 (abI .geq v53 (.lit (.int .i64 16))) fun v55 =>
bO (apick v43 (.lit (.bool true)) v55) fun v56 =>
bB v56 fun t57 => bI t57 (
K (.tup []) H15)
 (zgxZ a0 v0 v8 v16 H15 K)
theorem image_create_eq (a0 a1 : AV) (H : AH) (K : AV → AH → Prop) : sFun Try.prog image_create_fl pqb pqba image_create_un image_create_kp Try.f54 [a0, a1] H K = zlnZ a0 a1 H K := by kernel_rfl
theorem image_create_ok {a0 a1 : AV} {H : AH} {K : AV → AH → Prop} (h : zlnZ a0 a1 H K) : ACalls Try.prog 54 [a0, a1] H K :=
 sFun_wp mixP Try.func54 (by kernel_rfl) (Eq.mpr (image_create_eq a0 a1 H K) h)
/-! salvor/image.change -/
def image_change_fl : Floats := flOf []
def image_change_kp : Nat → Option (List Bool) := kpOf [(11, mk 81 0 [0, 4, 6, 72]), (5, mk 81 0 [0, 4, 5, 6])]
def image_change_c (p : List Bool) (n : Nat) : List AV → AH → Kf → Prop := sCode Try.prog image_change_fl pqb none0 none0 image_change_kp (sub p (bodyOf Try.f55)) n
def zlyZ (x0 x4 x6 x72 : AV) (H : AH) (K : AV → AH → Prop) : Prop := jn (mk 81 0 [0, 4, 6, 72]) (image_change_c [true, true, true, true, true, true] 12) [x0, x4, x6, x72] H (kRet Try.prog Try.f55.results.toList K)
def zczZ (x0 x4 x5 x6 : AV) (H : AH) (K : AV → AH → Prop) : Prop := jn (mk 81 0 [0, 4, 5, 6]) (image_change_c [true, true, true, true, true] 11) [x0, x4, x5, x6] H (kRet Try.prog Try.f55.results.toList K)
def zgrZ (x0 x4 x6 x72 : AV) (H : AH) (K : AV → AH → Prop) : Prop :=
bB x72 fun t0 => bI t0 (
bO (zcZ x0) fun v1 =>
bO (ashift 1 v1) fun v2 =>
bO (ald false 1 H v2) fun v3 =>
bO (ald true 2 H x6) fun v4 =>
bO (aixS 3 v3 x4) fun v5 =>
bO (ashift 1 v5) fun v6 =>
bS (ast 2 H v6 v4) fun H7 =>
K (.tup []) H7)
 (K (.tup []) H)
theorem zjdZ (x0 x4 x6 x72 : AV) (H : AH) (K : AV → AH → Prop) : zlyZ x0 x4 x6 x72 H K = zgrZ x0 x4 x6 x72 H K := (jn_eq _ _ _ _ _).trans (by kernel_rfl)
def zhlZ (x0 x4 x5 x6 : AV) (H : AH) (K : AV → AH → Prop) : Prop :=
zlyZ x0 x4 x6 x5 H K
theorem zkhZ (x0 x4 x5 x6 : AV) (H : AH) (K : AV → AH → Prop) : zczZ x0 x4 x5 x6 H K = zhlZ x0 x4 x5 x6 H K := (jn_eq _ _ _ _ _).trans (by kernel_rfl)
def image_change (a0 a1 : AV) (H : AH) (K : AV → AH → Prop) : Prop :=
bH (anew H a1) fun v0 H1 =>
bO (zcZ a0) fun v2 =>
bO (ald true 2 H1 v2) fun v3 =>
bO (ashift 1 v0) fun v4 =>
bO (ald false 1 H1 v4) fun v5 =>
bC (BCall Try.prog 74 [v3, v5] H1) fun v6 H7 =>
bO (zdZ v6 0) fun v8 =>
bO (zdZ v6 1) fun v9 =>
bO (aun .not v9) fun v10 =>
bB v10 fun t11 => bI t11 (
K (.tup []) H7)
 (bO (zcZ a0) fun v12 =>
bO (ashift 1 v12) fun v13 =>
bO (ald false 1 H7 v13) fun v14 =>
bO (aixS 3 v14 v8) fun v15 =>
bO (ashift 1 v15) fun v16 =>
bO (ald true 2 H7 v16) fun v17 =>
bH (anew H7 (.agg [(.lit (.int .i64 0)), (.lit (.slice none 0 0))])) fun v18 H19 =>
bS (ast 2 H19 v18 v17) fun H20 =>
bO (ashift 0 v0) fun v21 =>
bO (ald false 1 H20 v21) fun v22 =>
bO (abI .eql v22 (.lit (.int .i64 2))) fun v23 =>
bB v23 fun t24 => bI t24 (
bO (ald true 2 H20 v18) fun v25 =>
bO (ashift 2 v0) fun v26 =>
bO (ald false 1 H20 v26) fun v27 =>
bO (ashift 7 v0) fun v28 =>
bO (ald false 1 H20 v28) fun v29 =>
bP (PCall Try.prog 79 [v25, v27, v29] H20) fun v30 =>
bO (zdZ v30 0) fun v31 =>
bO (zdZ v30 1) fun v32 =>
bS (ast 2 H20 v18 v31) fun H33 =>
zczZ a0 v8 v32 v18 H33 K)
 (bO (abI .eql v22 (.lit (.int .i64 3))) fun v34 =>
bB v34 fun t35 => bI t35 (
bO (ald true 2 H20 v18) fun v36 =>
bO (ashift 3 v0) fun v37 =>
bO (ald false 1 H20 v37) fun v38 =>
bP (PCall Try.prog 47 [v36, v38] H20) fun v39 =>
bO (zdZ v39 0) fun v40 =>
bO (zdZ v39 1) fun v41 =>
bS (ast 2 H20 v18 v40) fun H42 =>
zczZ a0 v8 v41 v18 H42 K)
 (bO (abI .eql v22 (.lit (.int .i64 4))) fun v43 =>
bB v43 fun t44 => bI t44 (
bO (ald true 2 H20 v18) fun v45 =>
bO (ashift 2 v0) fun v46 =>
bO (ald false 1 H20 v46) fun v47 =>
bO (ashift 3 v0) fun v48 =>
bO (ald false 1 H20 v48) fun v49 =>
bO (ashift 4 v0) fun v50 =>
bO (ald false 1 H20 v50) fun v51 =>
bP (PCall Try.prog 80 [v45, v47, v49, v51] H20) fun v52 =>
bO (zdZ v52 0) fun v53 =>
bO (zdZ v52 1) fun v54 =>
bS (ast 2 H20 v18 v53) fun H55 =>
zczZ a0 v8 v54 v18 H55 K)
 (bO (abI .eql v22 (.lit (.int .i64 5))) fun v56 =>
bB v56 fun t57 => bI t57 (
bO (ald true 2 H20 v18) fun v58 =>
bO (ashift 2 v0) fun v59 =>
bO (ald false 1 H20 v59) fun v60 =>
bO (ashift 3 v0) fun v61 =>
bO (ald false 1 H20 v61) fun v62 =>
bP (PCall Try.prog 81 [v58, v60, v62] H20) fun v63 =>
bO (zdZ v63 0) fun v64 =>
bO (zdZ v63 1) fun v65 =>
bS (ast 2 H20 v18 v64) fun H66 =>
zczZ a0 v8 v65 v18 H66 K)
 (zczZ a0 v8 v9 v18 H20 K)))))
theorem image_change_eq (a0 a1 : AV) (H : AH) (K : AV → AH → Prop) : sFun Try.prog image_change_fl pqb none0 none0 image_change_kp Try.f55 [a0, a1] H K = image_change a0 a1 H K := by kernel_rfl
theorem image_change_ok {a0 a1 : AV} {H : AH} {K : AV → AH → Prop} (h : image_change a0 a1 H K) : ∃ r H', K r H' ∧ BCall Try.prog 55 [a0, a1] H r H' :=
 sFun_ok mixP Try.func55 (by kernel_rfl) (Eq.mpr (image_change_eq a0 a1 H K) h)
/-! salvor/image.rename -/
def image_rename_fl : Floats := flOf []
def image_rename_kp : Nat → Option (List Bool) := kpOf []
def image_rename (a0 a1 a2 : AV) (H : AH) (K : AV → AH → Prop) : Prop :=
bO (zcZ a0) fun v0 =>
bO (ald true 2 H v0) fun v1 =>
bC (BCall Try.prog 44 [v1, a1] H) fun v2 H3 =>
bO (zdZ v2 0) fun v4 =>
bO (zdZ v2 1) fun v5 =>
bO (aun .not v5) fun v6 =>
bG v6 false fun w7 =>
gO w7 (some a2) fun v8 =>
bG v6 false fun w9 =>
gP w9 (PCall Try.prog 48 [v8] H3) fun v10 =>
bG v6 false fun w11 =>
gO w11 (aun .not v10) fun v12 =>
bO (apick v6 (.lit (.bool true)) v12) fun v13 =>
bG v13 false fun w14 =>
gO w14 (some a1) fun v15 =>
bG v13 false fun w16 =>
gO w16 (some a2) fun v17 =>
bG v13 false fun w18 =>
gO w18 (abT .eql v15 v17) fun v19 =>
bO (apick v13 (.lit (.bool true)) v19) fun v20 =>
bB v20 fun t21 => bI t21 (
K (.tup []) H3)
 (bO (zcZ a0) fun v22 =>
bO (ashift 0 v22) fun v23 =>
bO (ald false 1 H3 v23) fun v24 =>
bO (aixS 2 v24 v4) fun v25 =>
bO (ashift 1 v25) fun v26 =>
bO (ald false 1 H3 v26) fun v27 =>
bO (zcZ a0) fun v28 =>
bO (ashift 0 v28) fun v29 =>
bO (ald false 1 H3 v29) fun v30 =>
bO (abI .add v4 (.lit (.int .i64 1))) fun v31 =>
bC (BCall Try.prog 82 [v30, v4, v31] H3) fun v32 H33 =>
bO (zcZ a0) fun v34 =>
bO (ashift 0 v34) fun v35 =>
bS (ast 1 H33 v35 v32) fun H36 =>
bC (BCall Try.prog 57 [a0, a2] H36) fun v37 H38 =>
bO (zcZ a0) fun v39 =>
bO (ald true 2 H38 v39) fun v40 =>
bC (BCall Try.prog 44 [v40, a2] H38) fun v41 H42 =>
bO (zdZ v41 0) fun v43 =>
bO (zdZ v41 1) fun v44 =>
bO (zcZ a0) fun v45 =>
bO (ashift 0 v45) fun v46 =>
bO (ald false 1 H42 v46) fun v47 =>
bO (abl [(.lit (.string ⟨#[]⟩)), (.lit (.int .i64 0))] [(0, 1, a2), (1, 1, v27)]) fun v48 =>
bH (absl H42 2 1 (zrow [(.lit (.string ⟨#[]⟩)), (.lit (.int .i64 0))] 1) [(0, 2, v48)]) fun v49 H50 =>
bC (BCall Try.prog 77 [v47, v43, v49] H50) fun v51 H52 =>
bO (zcZ a0) fun v53 =>
bO (ashift 0 v53) fun v54 =>
bS (ast 1 H52 v54 v51) fun H55 =>
K (.tup []) H55)
theorem image_rename_eq (a0 a1 a2 : AV) (H : AH) (K : AV → AH → Prop) : sFun Try.prog image_rename_fl pqb none0 none0 image_rename_kp Try.f56 [a0, a1, a2] H K = image_rename a0 a1 a2 H K := by kernel_rfl
theorem image_rename_ok {a0 a1 a2 : AV} {H : AH} {K : AV → AH → Prop} (h : image_rename a0 a1 a2 H K) : ∃ r H', K r H' ∧ BCall Try.prog 56 [a0, a1, a2] H r H' :=
 sFun_ok mixP Try.func56 (by kernel_rfl) (Eq.mpr (image_rename_eq a0 a1 a2 H K) h)
/-! salvor/image.remove -/
def image_remove_fl : Floats := flOf []
def image_remove_kp : Nat → Option (List Bool) := kpOf []
def image_remove (a0 a1 : AV) (H : AH) (K : AV → AH → Prop) : Prop :=
bO (zcZ a0) fun v0 =>
bO (ald true 2 H v0) fun v1 =>
bC (BCall Try.prog 44 [v1, a1] H) fun v2 H3 =>
bO (zdZ v2 0) fun v4 =>
bO (zdZ v2 1) fun v5 =>
bO (aun .not v5) fun v6 =>
bB v6 fun t7 => bI t7 (
K (.tup []) H3)
 (bO (zcZ a0) fun v8 =>
bO (ald true 2 H3 v8) fun v9 =>
bO (zcZ a0) fun v10 =>
bO (ashift 0 v10) fun v11 =>
bO (ald false 1 H3 v11) fun v12 =>
bO (aixS 2 v12 v4) fun v13 =>
bO (ashift 1 v13) fun v14 =>
bO (ald false 1 H3 v14) fun v15 =>
bC (BCall Try.prog 74 [v9, v15] H3) fun v16 H17 =>
bO (zdZ v16 0) fun v18 =>
bO (zdZ v16 1) fun v19 =>
bO (zcZ a0) fun v20 =>
bO (ashift 0 v20) fun v21 =>
bO (ald false 1 H17 v21) fun v22 =>
bO (abI .add v4 (.lit (.int .i64 1))) fun v23 =>
bC (BCall Try.prog 82 [v22, v4, v23] H17) fun v24 H25 =>
bO (zcZ a0) fun v26 =>
bO (ashift 0 v26) fun v27 =>
bS (ast 1 H25 v27 v24) fun H28 =>
bO (zcZ a0) fun v29 =>
bO (ashift 1 v29) fun v30 =>
bO (ald false 1 H28 v30) fun v31 =>
bO (abI .add v18 (.lit (.int .i64 1))) fun v32 =>
bC (BCall Try.prog 83 [v31, v18, v32] H28) fun v33 H34 =>
bO (zcZ a0) fun v35 =>
bO (ashift 1 v35) fun v36 =>
bS (ast 1 H34 v36 v33) fun H37 =>
K (.tup []) H37)
theorem image_remove_eq (a0 a1 : AV) (H : AH) (K : AV → AH → Prop) : sFun Try.prog image_remove_fl pqb none0 none0 image_remove_kp Try.f57 [a0, a1] H K = image_remove a0 a1 H K := by kernel_rfl
theorem image_remove_ok {a0 a1 : AV} {H : AH} {K : AV → AH → Prop} (h : image_remove a0 a1 H K) : ∃ r H', K r H' ∧ BCall Try.prog 57 [a0, a1] H r H' :=
 sFun_ok mixP Try.func57 (by kernel_rfl) (Eq.mpr (image_remove_eq a0 a1 H K) h)
/-! salvor/image.names -/
def image_names_fl : Floats := flOf []
def image_names_kp : Nat → Option (List Bool) := kpOf [(7, mk 58 0 [0, 4, 11, 12, 13])]
def zjrZ (p : List Bool) (n : Nat) : List AV → AH → Kf → Prop := sCode Try.prog image_names_fl pqb none0 none0 image_names_kp (sub p (bodyOf Try.f64)) n
def image_names_L7 (x0 x4 x11 x12 x13 : AV) (H : AH) (K : AV → AH → Prop) : Prop := lp (mk 58 0 [0, 4, 11, 12, 13]) (zjrZ [true, true, true, false, true, false, false] 8) [x0, x4, x11, x12, x13] H (kBlk 0 (kSeq (zjrZ [true, true, true, true] 15) (kRet Try.prog Try.f64.results.toList K)))
def zieZ (R7 : List AV → AH → Prop) (x0 x4 x11 x12 x13 : AV) (H : AH) (K : AV → AH → Prop) : Prop :=
bO (abI .lss x13 x12) fun v0 =>
bB v0 fun t1 => bI t1 (
bO (aixS 2 x11 x13) fun v2 =>
bO (ald true 2 H v2) fun v3 =>
bH (anew H (.agg [(.lit (.string ⟨#[]⟩)), (.lit (.int .i64 0))])) fun v4 H5 =>
bS (ast 2 H5 v4 v3) fun H6 =>
bO (ashift 0 v4) fun v7 =>
bO (ald false 1 H6 v7) fun v8 =>
bP (BPure Try.prog 48 [v8]) fun v9 =>
bO (aun .not v9) fun v10 =>
bG v10 false fun w11 =>
gO w11 (some x13) fun v12 =>
bG v10 false fun w13 =>
gO w13 (abI .gtr v12 (.lit (.int .i64 0))) fun v14 =>
bG v10 false fun w15 =>
gO w15 (some v14) fun v16 =>
bG v16 true fun w17 =>
gO w17 (some x0) fun v18 =>
bG v16 true fun w19 =>
gO w19 (some x13) fun v20 =>
bG v16 true fun w21 =>
gO w21 (abI .sub v20 (.lit (.int .i64 1))) fun v22 =>
bG v16 true fun w23 =>
gO w23 (aixS 2 v18 v22) fun v24 =>
bG v16 true fun w25 =>
gO w25 (ashift 0 v24) fun v26 =>
bG v16 true fun w27 =>
gO w27 (ald false 1 H6 v26) fun v28 =>
bG v16 true fun w29 =>
gO w29 (ashift 0 v4) fun v30 =>
bG v16 true fun w31 =>
gO w31 (ald false 1 H6 v30) fun v32 =>
bG v16 true fun w33 =>
gO w33 (abT .geq v28 v32) fun v34 =>
bG v10 false fun w35 =>
gO w35 (apick v16 v34 (.lit (.bool false))) fun v36 =>
bO (apick v10 (.lit (.bool true)) v36) fun v37 =>
bG v37 false fun w38 =>
gO w38 (ashift 1 v4) fun v39 =>
bG v37 false fun w40 =>
gO w40 (ald false 1 H6 v39) fun v41 =>
bG v37 false fun w42 =>
gO w42 (abI .lss v41 (.lit (.int .i64 1))) fun v43 =>
bO (apick v37 (.lit (.bool true)) v43) fun v44 =>
bG v44 false fun w45 =>
gO w45 (ashift 1 v4) fun v46 =>
bG v44 false fun w47 =>
gO w47 (ald false 1 H6 v46) fun v48 =>
bG v44 false fun w49 =>
gO w49 (abI .gtr v48 (.lit (.int .i64 4611686018427387904))) fun v50 =>
bO (apick v44 (.lit (.bool true)) v50) fun v51 =>
bG v51 false fun w52 =>
gO w52 (some x4) fun v53 =>
bG v51 false fun w54 =>
gO w54 (ashift 1 v4) fun v55 =>
bG v51 false fun w56 =>
gO w56 (ald false 1 H6 v55) fun v57 =>
bG v51 false fun w58 =>
gO w58 (alk (.int .i64) (.bool false) H6 v53 v57 false) fun v59 =>
bO (apick v51 (.lit (.bool true)) v59) fun v60 =>
bB v60 fun t61 => bI t61 (
K (.tup [(.lit (.map none)), (.lit (.bool false))]) H6)
 (bO (ashift 1 v4) fun v62 =>
bO (ald false 1 H6 v62) fun v63 =>
bS (amu (.int .i64) H6 x4 v63 (.lit (.bool true))) fun H64 =>
bO (abI .add x13 (.lit (.int .i64 1))) fun v65 =>
R7 [x0, x4, x11, x12, v65] H64))
 (K (.tup [x4, (.lit (.bool true))]) H)
theorem image_names_L7_eq (R7 : List AV → AH → Prop) (x0 x4 x11 x12 x13 : AV) (H : AH) (K : AV → AH → Prop) : zjrZ [true, true, true, false, true, false, false] 8 (expand (mk 58 0 [0, 4, 11, 12, 13]) [x0, x4, x11, x12, x13]) H (kLp (mk 58 0 [0, 4, 11, 12, 13]) R7 (kBlk 0 (kSeq (zjrZ [true, true, true, true] 15) (kRet Try.prog Try.f64.results.toList K)))) = zieZ R7 x0 x4 x11 x12 x13 H K := by kernel_rfl
theorem image_names_L7_rule {K : AV → AH → Prop} (I : Nat → AV → AV → AV → AV → AV → AH → Prop) (round : ∀ (n : Nat) (x0 x4 x11 x12 x13 : AV) (H : AH) (R : List AV → AH → Prop), (∀ (m : Nat) (y0 y4 y11 y12 y13 : AV) (H' : AH), m < n → I m y0 y4 y11 y12 y13 H' → R [y0, y4, y11, y12, y13] H') → I n x0 x4 x11 x12 x13 H → zieZ R x0 x4 x11 x12 x13 H K) (n : Nat) {x0 x4 x11 x12 x13 : AV} {H : AH} (h : I n x0 x4 x11 x12 x13 H) : image_names_L7 x0 x4 x11 x12 x13 H K := by
 refine lp_upto (zbqZ _ _) (LI5 I) ?_ n h
 intro n X H h
 obtain ⟨x0, x4, x11, x12, x13, rfl, h⟩ := h.elim
 exact Eq.mpr (image_names_L7_eq _ x0 x4 x11 x12 x13 H K) (round n x0 x4 x11 x12 x13 H (fun X H' => ∃ m, m < n ∧ LI5 I m X H') (fun m y0 y4 y11 y12 y13 H' hm hi => ⟨m, hm, hi⟩) h)
def image_names (a0 : AV) (H : AH) (K : AV → AH → Prop) : Prop :=
bO (alnS a0) fun v0 =>
bO (abI .gtr v0 (.lit (.int .i64 16))) fun v1 =>
bB v1 fun t2 => bI t2 (
K (.tup [(.lit (.map none)), (.lit (.bool false))]) H)
 (bH (amkM H none) fun v3 H4 =>
bO (alnS a0) fun v5 =>
image_names_L7 a0 v3 a0 v5 (.lit (.int .i64 0)) H4 K)
theorem image_names_eq (a0 : AV) (H : AH) (K : AV → AH → Prop) : sFun Try.prog image_names_fl pqb none0 none0 image_names_kp Try.f64 [a0] H K = image_names a0 H K := by kernel_rfl
theorem image_names_ok {a0 : AV} {H : AH} {K : AV → AH → Prop} (h : image_names a0 H K) : ∃ r H', K r H' ∧ BCall Try.prog 64 [a0] H r H' :=
 sFun_ok mixP Try.func64 (by kernel_rfl) (Eq.mpr (image_names_eq a0 H K) h)
/-! slices.Clone[[]salvor/api.Name,salvor/api.Name] -/
def zfsZ : Floats := flOf []
def zfyZ : Nat → Option (List Bool) := kpOf []
def zcdZ (a0 : AV) (H : AH) (K : AV → AH → Prop) : Prop :=
bO (abN .eql nilS a0 (.lit (.slice none 0 0))) fun v0 =>
bB v0 fun t1 => bI t1 (
K (.lit (.slice none 0 0)) H)
 (bH (absl H 2 0 (zrow [(.lit (.string ⟨#[]⟩)), (.lit (.int .i64 0))] 0) []) fun v2 H3 =>
bH (aap 2 24 H3 v2 a0) fun v4 H5 =>
K v4 H5)
theorem zfuZ (a0 : AV) (H : AH) (K : AV → AH → Prop) : sFun Try.prog zfsZ pqb none0 none0 zfyZ Try.f58 [a0] H K = zcdZ a0 H K := by kernel_rfl
theorem zftZ {a0 : AV} {H : AH} {K : AV → AH → Prop} (h : zcdZ a0 H K) : ∃ r H', K r H' ∧ BCall Try.prog 58 [a0] H r H' :=
 sFun_ok mixP Try.func58 (by kernel_rfl) (Eq.mpr (zfuZ a0 H K) h)
/-! slices.Clone[[]salvor/api.Node,salvor/api.Node] -/
def zfzZ : Floats := flOf []
def zfwZ : Nat → Option (List Bool) := kpOf []
def zccZ (a0 : AV) (H : AH) (K : AV → AH → Prop) : Prop :=
bO (abN .eql nilS a0 (.lit (.slice none 0 0))) fun v0 =>
bB v0 fun t1 => bI t1 (
K (.lit (.slice none 0 0)) H)
 (bH (absl H 3 0 (zrow [(.lit (.int .i64 0)), (.lit (.int .i64 0)), (.lit (.slice none 0 0))] 0) []) fun v2 H3 =>
bH (aap 3 40 H3 v2 a0) fun v4 H5 =>
K v4 H5)
theorem zfvZ (a0 : AV) (H : AH) (K : AV → AH → Prop) : sFun Try.prog zfzZ pqb none0 none0 zfwZ Try.f59 [a0] H K = zccZ a0 H K := by kernel_rfl
theorem zfxZ {a0 : AV} {H : AH} {K : AV → AH → Prop} (h : zccZ a0 H K) : ∃ r H', K r H' ∧ BCall Try.prog 59 [a0] H r H' :=
 sFun_ok mixP Try.func59 (by kernel_rfl) (Eq.mpr (zfvZ a0 H K) h)
/-! slices.BinarySearchFunc[[]salvor/api.Name,salvor/api.Name,string] -/
def zbcZ : Floats := flOf []
def zzZ : Nat → Option (List Bool) := kpOf [(4, mk 49 0 [0, 1, 2, 8, 9, 10])]
def zfZ (p : List Bool) (n : Nat) : List AV → AH → Kf → Prop := sCode Try.prog zbcZ pqb none0 none0 zzZ (sub p (bodyOf Try.f65)) n
def zbbZ (x0 x1 x2 x8 x9 x10 : AV) (H : AH) (K : AV → AH → Prop) : Prop := lp (mk 49 0 [0, 1, 2, 8, 9, 10]) (zfZ [true, true, true, false, false, false] 5) [x0, x1, x2, x8, x9, x10] H (kBlk 0 (kSeq (zfZ [true, true, true, true] 9) (kRet Try.prog Try.f65.results.toList K)))
def zkZ (R4 : List AV → AH → Prop) (x0 x1 x2 x8 x9 x10 : AV) (H : AH) (K : AV → AH → Prop) : Prop :=
bO (abI .lss x9 x10) fun v0 =>
bB v0 fun t1 => bI t1 (
bO (abI .add x9 x10) fun v2 =>
bO (acI .u64 v2) fun v3 =>
bO (abI .shr v3 (.lit (.int .u64 1))) fun v4 =>
bO (acI .i64 v4) fun v5 =>
bO (aixS 2 x0 v5) fun v6 =>
bO (ald true 2 H v6) fun v7 =>
bF true x2 fun k10 f10 c10 =>
bT (goFunc Try.prog k10 || !true) <|
bC (BCall Try.prog k10 (f10 ++ [v7, x1] ++ c10) H) fun v8 H9 =>
bO (abI .lss v8 (.lit (.int .i64 0))) fun v11 =>
bB v11 fun t12 => bI t12 (
bO (abI .add v5 (.lit (.int .i64 1))) fun v13 =>
R4 [x0, x1, x2, x8, v13, x10] H9)
 (R4 [x0, x1, x2, x8, x9, v5] H9))
 (bO (abI .lss x9 x8) fun v14 =>
bG v14 true fun w15 =>
gO w15 (some x2) fun v16 =>
bG v14 true fun w17 =>
gO w17 (some x0) fun v18 =>
bG v14 true fun w19 =>
gO w19 (some x9) fun v20 =>
bG v14 true fun w21 =>
gO w21 (aixS 2 v18 v20) fun v22 =>
bG v14 true fun w23 =>
gO w23 (ald true 2 H v22) fun v24 =>
bG v14 true fun w25 =>
gO w25 (some x1) fun v26 =>
bG v14 true fun w27 =>
bF w27 v16 fun k30 f30 c30 =>
bT (goFunc Try.prog k30 || !w27) <|
gC w27 (BCall Try.prog k30 (f30 ++ [v24, v26] ++ c30) H) H fun v28 H29 =>
bG v14 true fun w31 =>
gO w31 (abI .eql v28 (.lit (.int .i64 0))) fun v32 =>
bO (apick v14 v32 (.lit (.bool false))) fun v33 =>
K (.tup [x9, v33]) H29)
theorem zcgZ (R4 : List AV → AH → Prop) (x0 x1 x2 x8 x9 x10 : AV) (H : AH) (K : AV → AH → Prop) : zfZ [true, true, true, false, false, false] 5 (expand (mk 49 0 [0, 1, 2, 8, 9, 10]) [x0, x1, x2, x8, x9, x10]) H (kLp (mk 49 0 [0, 1, 2, 8, 9, 10]) R4 (kBlk 0 (kSeq (zfZ [true, true, true, true] 9) (kRet Try.prog Try.f65.results.toList K)))) = zkZ R4 x0 x1 x2 x8 x9 x10 H K := by kernel_rfl
theorem zcbZ {K : AV → AH → Prop} (I : Nat → AV → AV → AV → AV → AV → AV → AH → Prop) (round : ∀ (n : Nat) (x0 x1 x2 x8 x9 x10 : AV) (H : AH) (R : List AV → AH → Prop), (∀ (m : Nat) (y0 y1 y2 y8 y9 y10 : AV) (H' : AH), m < n → I m y0 y1 y2 y8 y9 y10 H' → R [y0, y1, y2, y8, y9, y10] H') → I n x0 x1 x2 x8 x9 x10 H → zkZ R x0 x1 x2 x8 x9 x10 H K) (n : Nat) {x0 x1 x2 x8 x9 x10 : AV} {H : AH} (h : I n x0 x1 x2 x8 x9 x10 H) : zbbZ x0 x1 x2 x8 x9 x10 H K := by
 refine lp_upto (zbqZ _ _) (LI6 I) ?_ n h
 intro n X H h
 obtain ⟨x0, x1, x2, x8, x9, x10, rfl, h⟩ := h.elim
 exact Eq.mpr (zcgZ _ x0 x1 x2 x8 x9 x10 H K) (round n x0 x1 x2 x8 x9 x10 H (fun X H' => ∃ m, m < n ∧ LI6 I m X H') (fun m y0 y1 y2 y8 y9 y10 H' hm hi => ⟨m, hm, hi⟩) h)
def zpZ (a0 a1 a2 : AV) (H : AH) (K : AV → AH → Prop) : Prop :=
bO (alnS a0) fun v0 =>
zbbZ a0 a1 a2 v0 (.lit (.int .i64 0)) v0 H K
theorem zcqZ (a0 a1 a2 : AV) (H : AH) (K : AV → AH → Prop) : sFun Try.prog zbcZ pqb none0 none0 zzZ Try.f65 [a0, a1, a2] H K = zpZ a0 a1 a2 H K := by kernel_rfl
theorem zcpZ {a0 a1 a2 : AV} {H : AH} {K : AV → AH → Prop} (h : zpZ a0 a1 a2 H K) : ∃ r H', K r H' ∧ BCall Try.prog 65 [a0, a1, a2] H r H' :=
 sFun_ok mixP Try.func65 (by kernel_rfl) (Eq.mpr (zcqZ a0 a1 a2 H K) h)
/-! salvor/image.named$1 -/
def image_named_1_fl : Floats := flOf []
def image_named_1_kp : Nat → Option (List Bool) := kpOf []
def image_named_1 (a0 a1 : AV) (H : AH) (K : AV → AH → Prop) : Prop :=
bH (anew H a0) fun v0 H1 =>
bO (ashift 0 v0) fun v2 =>
bO (ald false 1 H1 v2) fun v3 =>
bP (PCall Try.prog 67 [v3, a1] H1) fun v4 =>
K v4 H1
theorem image_named_1_eq (a0 a1 : AV) (H : AH) (K : AV → AH → Prop) : sFun Try.prog image_named_1_fl pqb none0 none0 image_named_1_kp Try.f66 [a0, a1] H K = image_named_1 a0 a1 H K := by kernel_rfl
theorem image_named_1_ok {a0 a1 : AV} {H : AH} {K : AV → AH → Prop} (h : image_named_1 a0 a1 H K) : ∃ r H', K r H' ∧ BCall Try.prog 66 [a0, a1] H r H' :=
 sFun_ok mixP Try.func66 (by kernel_rfl) (Eq.mpr (image_named_1_eq a0 a1 H K) h)
/-! strings.Compare -/
def strings_Compare_fl : Floats := flOf []
def strings_Compare_kp : Nat → Option (List Bool) := kpOf []
def zjoZ (a0 a1 : AV) (H : AH) (K : AV → AH → Prop) : Prop :=
bP (PCall Try.prog 86 [a0, a1] H) fun v0 =>
K v0 H
theorem strings_Compare_eq (a0 a1 : AV) (H : AH) (K : AV → AH → Prop) : sFun Try.prog strings_Compare_fl pqb none0 none0 strings_Compare_kp Try.f67 [a0, a1] H K = zjoZ a0 a1 H K := by kernel_rfl
theorem strings_Compare_ok {a0 a1 : AV} {H : AH} {K : AV → AH → Prop} (h : zjoZ a0 a1 H K) : ∃ r H', K r H' ∧ BCall Try.prog 67 [a0, a1] H r H' :=
 sFun_ok mixP Try.func67 (by kernel_rfl) (Eq.mpr (strings_Compare_eq a0 a1 H K) h)
/-! slices.BinarySearchFunc[[]salvor/api.Node,salvor/api.Node,int] -/
def zblZ : Floats := flOf []
def zbiZ : Nat → Option (List Bool) := kpOf [(4, mk 49 0 [0, 1, 2, 8, 9, 10])]
def zhZ (p : List Bool) (n : Nat) : List AV → AH → Kf → Prop := sCode Try.prog zblZ pqb none0 none0 zbiZ (sub p (bodyOf Try.f87)) n
def zbjZ (x0 x1 x2 x8 x9 x10 : AV) (H : AH) (K : AV → AH → Prop) : Prop := lp (mk 49 0 [0, 1, 2, 8, 9, 10]) (zhZ [true, true, true, false, false, false] 5) [x0, x1, x2, x8, x9, x10] H (kBlk 0 (kSeq (zhZ [true, true, true, true] 9) (kRet Try.prog Try.f87.results.toList K)))
def zlZ (R4 : List AV → AH → Prop) (x0 x1 x2 x8 x9 x10 : AV) (H : AH) (K : AV → AH → Prop) : Prop :=
bO (abI .lss x9 x10) fun v0 =>
bB v0 fun t1 => bI t1 (
bO (abI .add x9 x10) fun v2 =>
bO (acI .u64 v2) fun v3 =>
bO (abI .shr v3 (.lit (.int .u64 1))) fun v4 =>
bO (acI .i64 v4) fun v5 =>
bO (aixS 3 x0 v5) fun v6 =>
bO (ald true 3 H v6) fun v7 =>
bF true x2 fun k10 f10 c10 =>
bT (goFunc Try.prog k10 || !true) <|
bC (BCall Try.prog k10 (f10 ++ [v7, x1] ++ c10) H) fun v8 H9 =>
bO (abI .lss v8 (.lit (.int .i64 0))) fun v11 =>
bB v11 fun t12 => bI t12 (
bO (abI .add v5 (.lit (.int .i64 1))) fun v13 =>
R4 [x0, x1, x2, x8, v13, x10] H9)
 (R4 [x0, x1, x2, x8, x9, v5] H9))
 (bO (abI .lss x9 x8) fun v14 =>
bG v14 true fun w15 =>
gO w15 (some x2) fun v16 =>
bG v14 true fun w17 =>
gO w17 (some x0) fun v18 =>
bG v14 true fun w19 =>
gO w19 (some x9) fun v20 =>
bG v14 true fun w21 =>
gO w21 (aixS 3 v18 v20) fun v22 =>
bG v14 true fun w23 =>
gO w23 (ald true 3 H v22) fun v24 =>
bG v14 true fun w25 =>
gO w25 (some x1) fun v26 =>
bG v14 true fun w27 =>
bF w27 v16 fun k30 f30 c30 =>
bT (goFunc Try.prog k30 || !w27) <|
gC w27 (BCall Try.prog k30 (f30 ++ [v24, v26] ++ c30) H) H fun v28 H29 =>
bG v14 true fun w31 =>
gO w31 (abI .eql v28 (.lit (.int .i64 0))) fun v32 =>
bO (apick v14 v32 (.lit (.bool false))) fun v33 =>
K (.tup [x9, v33]) H29)
theorem zcrZ (R4 : List AV → AH → Prop) (x0 x1 x2 x8 x9 x10 : AV) (H : AH) (K : AV → AH → Prop) : zhZ [true, true, true, false, false, false] 5 (expand (mk 49 0 [0, 1, 2, 8, 9, 10]) [x0, x1, x2, x8, x9, x10]) H (kLp (mk 49 0 [0, 1, 2, 8, 9, 10]) R4 (kBlk 0 (kSeq (zhZ [true, true, true, true] 9) (kRet Try.prog Try.f87.results.toList K)))) = zlZ R4 x0 x1 x2 x8 x9 x10 H K := by kernel_rfl
theorem zciZ {K : AV → AH → Prop} (I : Nat → AV → AV → AV → AV → AV → AV → AH → Prop) (round : ∀ (n : Nat) (x0 x1 x2 x8 x9 x10 : AV) (H : AH) (R : List AV → AH → Prop), (∀ (m : Nat) (y0 y1 y2 y8 y9 y10 : AV) (H' : AH), m < n → I m y0 y1 y2 y8 y9 y10 H' → R [y0, y1, y2, y8, y9, y10] H') → I n x0 x1 x2 x8 x9 x10 H → zlZ R x0 x1 x2 x8 x9 x10 H K) (n : Nat) {x0 x1 x2 x8 x9 x10 : AV} {H : AH} (h : I n x0 x1 x2 x8 x9 x10 H) : zbjZ x0 x1 x2 x8 x9 x10 H K := by
 refine lp_upto (zbqZ _ _) (LI6 I) ?_ n h
 intro n X H h
 obtain ⟨x0, x1, x2, x8, x9, x10, rfl, h⟩ := h.elim
 exact Eq.mpr (zcrZ _ x0 x1 x2 x8 x9 x10 H K) (round n x0 x1 x2 x8 x9 x10 H (fun X H' => ∃ m, m < n ∧ LI6 I m X H') (fun m y0 y1 y2 y8 y9 y10 H' hm hi => ⟨m, hm, hi⟩) h)
def zuZ (a0 a1 a2 : AV) (H : AH) (K : AV → AH → Prop) : Prop :=
bO (alnS a0) fun v0 =>
zbjZ a0 a1 a2 v0 (.lit (.int .i64 0)) v0 H K
theorem zdbZ (a0 a1 a2 : AV) (H : AH) (K : AV → AH → Prop) : sFun Try.prog zblZ pqb none0 none0 zbiZ Try.f87 [a0, a1, a2] H K = zuZ a0 a1 a2 H K := by kernel_rfl
theorem zdcZ {a0 a1 a2 : AV} {H : AH} {K : AV → AH → Prop} (h : zuZ a0 a1 a2 H K) : ∃ r H', K r H' ∧ BCall Try.prog 87 [a0, a1, a2] H r H' :=
 sFun_ok mixP Try.func87 (by kernel_rfl) (Eq.mpr (zdbZ a0 a1 a2 H K) h)
/-! salvor/image.node$1 -/
def image_node_1_fl : Floats := flOf []
def image_node_1_kp : Nat → Option (List Bool) := kpOf []
def image_node_1 (a0 a1 : AV) (H : AH) (K : AV → AH → Prop) : Prop :=
bH (anew H a0) fun v0 H1 =>
bO (ashift 0 v0) fun v2 =>
bO (ald false 1 H1 v2) fun v3 =>
bP (PCall Try.prog 89 [v3, a1] H1) fun v4 =>
K v4 H1
theorem image_node_1_eq (a0 a1 : AV) (H : AH) (K : AV → AH → Prop) : sFun Try.prog image_node_1_fl pqb none0 none0 image_node_1_kp Try.f88 [a0, a1] H K = image_node_1 a0 a1 H K := by kernel_rfl
theorem image_node_1_ok {a0 a1 : AV} {H : AH} {K : AV → AH → Prop} (h : image_node_1 a0 a1 H K) : ∃ r H', K r H' ∧ BCall Try.prog 88 [a0, a1] H r H' :=
 sFun_ok mixP Try.func88 (by kernel_rfl) (Eq.mpr (image_node_1_eq a0 a1 H K) h)
/-! slices.Insert[[]salvor/api.Name,salvor/api.Name] -/
def zfeZ : Floats := flOf []
def zfaZ : Nat → Option (List Bool) := kpOf []
def zffZ : Nat → Bool := inL []
def zdiZ (a0 a1 a2 : AV) (H : AH) (K : AV → AH → Prop) : Prop :=
bO (aslS 2 a0 (some a1) none none) fun v0 =>
bO (alnS a2) fun v1 =>
bO (abI .eql v1 (.lit (.int .i64 0))) fun v2 =>
bB v2 fun t3 => bI t3 (
K a0 H)
 (bO (alnS a0) fun v4 =>
bO (abI .eql a1 v4) fun v5 =>
bB v5 fun t6 => bI t6 (
bH (aap 2 24 H a0 a2) fun v7 H8 =>
K v7 H8)
 (bO (abI .add v4 v1) fun v9 =>
bO (acpS a0) fun v10 =>
bO (abI .gtr v9 v10) fun v11 =>
bB v11 fun t12 => bI t12 (
bO (aslS 2 a0 none (some a1) none) fun v13 =>
bO (abI .add v4 v1) fun v14 =>
bO (abI .sub v14 a1) fun v15 =>
bH (aappZ1 H 2 24 [(.lit (.string ⟨#[]⟩)), (.lit (.int .i64 0))] v13 v15) fun v16 H17 =>
bO (aslS 2 v16 (some a1) none none) fun v18 =>
bH (acp 2 H17 v18 a2) fun v19 H20 =>
bO (abI .add a1 v1) fun v21 =>
bO (aslS 2 v16 (some v21) none none) fun v22 =>
bO (aslS 2 a0 (some a1) none none) fun v23 =>
bH (acp 2 H20 v22 v23) fun v24 H25 =>
K v16 H25)
 (bO (abI .add v4 v1) fun v26 =>
bO (aslS 2 a0 none (some v26) none) fun v27 =>
bO (abI .add a1 v1) fun v28 =>
bO (aslS 2 v27 (some v28) none none) fun v29 =>
bP (ExtR Try.prog 90 [a2, v29] H) fun v30 =>
bO (aun .not v30) fun v31 =>
bB v31 fun t32 => bI t32 (
bO (abI .add a1 v1) fun v33 =>
bO (aslS 2 v27 (some v33) none none) fun v34 =>
bO (aslS 2 v27 (some a1) none none) fun v35 =>
bH (acp 2 H v34 v35) fun v36 H37 =>
bO (aslS 2 v27 (some a1) none none) fun v38 =>
bH (acp 2 H37 v38 a2) fun v39 H40 =>
K v27 H40)
 (bO (aslS 2 v27 (some v4) none none) fun v41 =>
bH (acp 2 H v41 a2) fun v42 H43 =>
bO (aslS 2 v27 (some a1) none none) fun v44 =>
bC (BCall Try.prog 91 [v44, v1] H43) fun v45 H46 =>
K v27 H46))))
theorem zfqZ (a0 a1 a2 : AV) (H : AH) (K : AV → AH → Prop) : sFun Try.prog zfeZ pqb pqba zffZ zfaZ Try.f77 [a0, a1, a2] H K = zdiZ a0 a1 a2 H K := by kernel_rfl
theorem zfgZ {a0 a1 a2 : AV} {H : AH} {K : AV → AH → Prop} (h : zdiZ a0 a1 a2 H K) : ACalls Try.prog 77 [a0, a1, a2] H K :=
 sFun_wp mixP Try.func77 (by kernel_rfl) (Eq.mpr (zfqZ a0 a1 a2 H K) h)
/-! slices.Insert[[]salvor/api.Node,salvor/api.Node] -/
def zexZ : Floats := flOf []
def zfoZ : Nat → Option (List Bool) := kpOf []
def zfrZ : Nat → Bool := inL []
def zdhZ (a0 a1 a2 : AV) (H : AH) (K : AV → AH → Prop) : Prop :=
bO (aslS 3 a0 (some a1) none none) fun v0 =>
bO (alnS a2) fun v1 =>
bO (abI .eql v1 (.lit (.int .i64 0))) fun v2 =>
bB v2 fun t3 => bI t3 (
K a0 H)
 (bO (alnS a0) fun v4 =>
bO (abI .eql a1 v4) fun v5 =>
bB v5 fun t6 => bI t6 (
bH (aap 3 40 H a0 a2) fun v7 H8 =>
K v7 H8)
 (bO (abI .add v4 v1) fun v9 =>
bO (acpS a0) fun v10 =>
bO (abI .gtr v9 v10) fun v11 =>
bB v11 fun t12 => bI t12 (
bO (aslS 3 a0 none (some a1) none) fun v13 =>
bO (abI .add v4 v1) fun v14 =>
bO (abI .sub v14 a1) fun v15 =>
bH (aappZ1 H 3 40 [(.lit (.int .i64 0)), (.lit (.int .i64 0)), (.lit (.slice none 0 0))] v13 v15) fun v16 H17 =>
bO (aslS 3 v16 (some a1) none none) fun v18 =>
bH (acp 3 H17 v18 a2) fun v19 H20 =>
bO (abI .add a1 v1) fun v21 =>
bO (aslS 3 v16 (some v21) none none) fun v22 =>
bO (aslS 3 a0 (some a1) none none) fun v23 =>
bH (acp 3 H20 v22 v23) fun v24 H25 =>
K v16 H25)
 (bO (abI .add v4 v1) fun v26 =>
bO (aslS 3 a0 none (some v26) none) fun v27 =>
bO (abI .add a1 v1) fun v28 =>
bO (aslS 3 v27 (some v28) none none) fun v29 =>
bP (ExtR Try.prog 92 [a2, v29] H) fun v30 =>
bO (aun .not v30) fun v31 =>
bB v31 fun t32 => bI t32 (
bO (abI .add a1 v1) fun v33 =>
bO (aslS 3 v27 (some v33) none none) fun v34 =>
bO (aslS 3 v27 (some a1) none none) fun v35 =>
bH (acp 3 H v34 v35) fun v36 H37 =>
bO (aslS 3 v27 (some a1) none none) fun v38 =>
bH (acp 3 H37 v38 a2) fun v39 H40 =>
K v27 H40)
 (bO (aslS 3 v27 (some v4) none none) fun v41 =>
bH (acp 3 H v41 a2) fun v42 H43 =>
bO (aslS 3 v27 (some a1) none none) fun v44 =>
bC (BCall Try.prog 93 [v44, v1] H43) fun v45 H46 =>
K v27 H46))))
theorem zfmZ (a0 a1 a2 : AV) (H : AH) (K : AV → AH → Prop) : sFun Try.prog zexZ pqb pqba zfrZ zfoZ Try.f78 [a0, a1, a2] H K = zdhZ a0 a1 a2 H K := by kernel_rfl
theorem zerZ {a0 a1 a2 : AV} {H : AH} {K : AV → AH → Prop} (h : zdhZ a0 a1 a2 H K) : ACalls Try.prog 78 [a0, a1, a2] H K :=
 sFun_wp mixP Try.func78 (by kernel_rfl) (Eq.mpr (zfmZ a0 a1 a2 H K) h)
/-! slices.Delete[[]salvor/api.Name,salvor/api.Name] -/
def zfjZ : Floats := flOf []
def zfbZ : Nat → Option (List Bool) := kpOf []
def zbxZ (a0 a1 a2 : AV) (H : AH) (K : AV → AH → Prop) : Prop :=
bO (alnS a0) fun v0 =>
bO (aslS 2 a0 (some a1) (some a2) (some v0)) fun v1 =>
bO (abI .eql a1 a2) fun v2 =>
bB v2 fun t3 => bI t3 (
K a0 H)
 (bO (alnS a0) fun v4 =>
bO (aslS 2 a0 none (some a1) none) fun v5 =>
bO (aslS 2 a0 (some a2) none none) fun v6 =>
bH (aap 2 24 H v5 v6) fun v7 H8 =>
bO (alnS v7) fun v9 =>
bO (aslS 2 v7 (some v9) (some v4) none) fun v10 =>
bS (acl [(.lit (.string ⟨#[]⟩)), (.lit (.int .i64 0))] H8 v10) fun H11 =>
K v7 H11)
theorem zfnZ (a0 a1 a2 : AV) (H : AH) (K : AV → AH → Prop) : sFun Try.prog zfjZ pqb none0 none0 zfbZ Try.f82 [a0, a1, a2] H K = zbxZ a0 a1 a2 H K := by kernel_rfl
theorem zewZ {a0 a1 a2 : AV} {H : AH} {K : AV → AH → Prop} (h : zbxZ a0 a1 a2 H K) : ∃ r H', K r H' ∧ BCall Try.prog 82 [a0, a1, a2] H r H' :=
 sFun_ok mixP Try.func82 (by kernel_rfl) (Eq.mpr (zfnZ a0 a1 a2 H K) h)
/-! slices.Delete[[]salvor/api.Node,salvor/api.Node] -/
def zfhZ : Floats := flOf []
def zetZ : Nat → Option (List Bool) := kpOf []
def zbwZ (a0 a1 a2 : AV) (H : AH) (K : AV → AH → Prop) : Prop :=
bO (alnS a0) fun v0 =>
bO (aslS 3 a0 (some a1) (some a2) (some v0)) fun v1 =>
bO (abI .eql a1 a2) fun v2 =>
bB v2 fun t3 => bI t3 (
K a0 H)
 (bO (alnS a0) fun v4 =>
bO (aslS 3 a0 none (some a1) none) fun v5 =>
bO (aslS 3 a0 (some a2) none none) fun v6 =>
bH (aap 3 40 H v5 v6) fun v7 H8 =>
bO (alnS v7) fun v9 =>
bO (aslS 3 v7 (some v9) (some v4) none) fun v10 =>
bS (acl [(.lit (.int .i64 0)), (.lit (.int .i64 0)), (.lit (.slice none 0 0))] H8 v10) fun H11 =>
K v7 H11)
theorem zepZ (a0 a1 a2 : AV) (H : AH) (K : AV → AH → Prop) : sFun Try.prog zfhZ pqb none0 none0 zetZ Try.f83 [a0, a1, a2] H K = zbwZ a0 a1 a2 H K := by kernel_rfl
theorem zevZ {a0 a1 a2 : AV} {H : AH} {K : AV → AH → Prop} (h : zbwZ a0 a1 a2 H K) : ∃ r H', K r H' ∧ BCall Try.prog 83 [a0, a1, a2] H r H' :=
 sFun_ok mixP Try.func83 (by kernel_rfl) (Eq.mpr (zepZ a0 a1 a2 H K) h)
end Go.Proofs.Ytofgloiebnppbaa.Av
end
/-! YtofgloiebnppbaaPe -/
section
/- Formulas of functions of the program: printed by a program of this session (wip/tools/Pr.lean.txt), each checked by the kernel. -/
set_option linter.unusedVariables false
set_option maxRecDepth 100000
namespace Go.Proofs.Ytofgloiebnppbaa.Av
open Go
def pqe : FuncId → Bool := inL [40,39,18,49,42,43,48,41,33,47,80,81,79,34,46,50,35,52,38,51,75,53,76,16,3,5]
def pqea : FuncId → Bool := inL [21]
/-! salvor/store.New -/
def store_New_fl : Floats := flOf []
def store_New_kp : Nat → Option (List Bool) := kpOf []
def store_New (a0 : AV) (H : AH) (K : AV → AH → Prop) : Prop :=
bO (amm imx [a0, (.lit (.int .i64 0))]) fun v0 =>
bO (amm imn [v0, (.lit (.int .i64 4096))]) fun v1 =>
bO (abl [(.lit (.int .i64 0)), (.lit (.slice none 0 0)), (.lit (.slice none 0 0)), (.lit (.slice none 0 0)), (.lit (.slice none 0 0)), (.lit (.slice none 0 0)), (.lit (.int .i64 0)), (.lit (.int .i64 0)), (.lit (.bool false))] [(0, 1, v1), (7, 1, (.lit (.int .i64 (-1))))]) fun v2 =>
bH (anew H v2) fun v3 H4 =>
K v3 H4
theorem store_New_eq (a0 : AV) (H : AH) (K : AV → AH → Prop) : sFun Try.prog store_New_fl pqe none0 none0 store_New_kp Try.f9 [a0] H K = store_New a0 H K := by kernel_rfl
theorem store_New_ok {a0 : AV} {H : AH} {K : AV → AH → Prop} (h : store_New a0 H K) : ∃ r H', K r H' ∧ BCall Try.prog 9 [a0] H r H' :=
 sFun_ok mixP Try.func9 (by kernel_rfl) (Eq.mpr (store_New_eq a0 H K) h)
/-! (*salvor/store.Store).Now -/
/-! (*salvor/store.Store).Free -/
def store_Store_Free_fl : Floats := flOf []
def store_Store_Free_kp : Nat → Option (List Bool) := kpOf []
def zikZ (a0 : AV) (H : AH) (K : AV → AH → Prop) : Prop :=
bO (zcZ a0) fun v0 =>
bO (ashift 0 v0) fun v1 =>
bO (ald false 1 H v1) fun v2 =>
bO (zcZ a0) fun v3 =>
bO (ashift 1 v3) fun v4 =>
bO (ald true 2 H v4) fun v5 =>
bP (BPure Try.prog 42 [v5]) fun v6 =>
bO (abI .sub v2 v6) fun v7 =>
bO (amm imx [(.lit (.int .i64 0)), v7]) fun v8 =>
K v8 H
theorem store_Store_Free_eq (a0 : AV) (H : AH) (K : AV → AH → Prop) : sFun Try.prog store_Store_Free_fl pqe none0 none0 store_Store_Free_kp Try.f15 [a0] H K = zikZ a0 H K := by kernel_rfl
theorem store_Store_Free_ok {a0 : AV} {H : AH} {K : AV → AH → Prop} (h : zikZ a0 H K) : ∃ r H', K r H' ∧ BCall Try.prog 15 [a0] H r H' :=
 sFun_ok mixP Try.func15 (by kernel_rfl) (Eq.mpr (store_Store_Free_eq a0 H K) h)
/-! (*salvor/store.Store).Off -/
/-! (*salvor/store.Store).Arm -/
/-! (*salvor/store.Store).Restart -/
/-! (*salvor/store.Store).deed -/
def zjaZ : Floats := flOf []
def ziwZ : Nat → Option (List Bool) := kpOf [(1, mk 31 0 [])]
def store_Store_deed_c (p : List Bool) (n : Nat) : List AV → AH → Kf → Prop := sCode Try.prog zjaZ pqe none0 none0 ziwZ (sub p (bodyOf Try.f37)) n
def zgaZ (H : AH) (K : AV → AH → Prop) : Prop := jn (mk 31 0 []) (store_Store_deed_c [true, true] 6) [] H (kRet Try.prog Try.f37.results.toList K)
def zejZ (H : AH) (K : AV → AH → Prop) : Prop :=
K (.lit (.bool true)) H
theorem zgwZ (H : AH) (K : AV → AH → Prop) : zgaZ H K = zejZ H K := (jn_eq _ _ _ _ _).trans (by kernel_rfl)
def zinZ (a0 : AV) (H : AH) (K : AV → AH → Prop) : Prop :=
bO (zcZ a0) fun v0 =>
bO (ashift 8 v0) fun v1 =>
bO (ald false 1 H v1) fun v2 =>
bG v2 false fun w3 =>
gO w3 (some a0) fun v4 =>
bG v2 false fun w5 =>
gO w5 (zcZ v4) fun v6 =>
bG v2 false fun w7 =>
gO w7 (ashift 7 v6) fun v8 =>
bG v2 false fun w9 =>
gO w9 (ald false 1 H v8) fun v10 =>
bG v2 false fun w11 =>
gO w11 (abI .eql v10 (.lit (.int .i64 0))) fun v12 =>
bO (apick v2 (.lit (.bool true)) v12) fun v13 =>
bB v13 fun t14 => bI t14 (
bO (zcZ a0) fun v15 =>
bO (ashift 8 v15) fun v16 =>
bS (ast 1 H v16 (.lit (.bool true))) fun H17 =>
K (.lit (.bool false)) H17)
 (bO (zcZ a0) fun v18 =>
bO (ashift 7 v18) fun v19 =>
bO (ald false 1 H v19) fun v20 =>
bO (abI .gtr v20 (.lit (.int .i64 0))) fun v21 =>
bB v21 fun t22 => bI t22 (
bO (zcZ a0) fun v23 =>
bO (ashift 7 v23) fun v24 =>
bO (ald false 1 H v24) fun v25 =>
bO (abI .sub v25 (.lit (.int .i64 1))) fun v26 =>
bO (zcZ a0) fun v27 =>
bO (ashift 7 v27) fun v28 =>
bS (ast 1 H v28 v26) fun H29 =>
zgaZ H29 K)
 (zgaZ H K))
theorem store_Store_deed_eq (a0 : AV) (H : AH) (K : AV → AH → Prop) : sFun Try.prog zjaZ pqe none0 none0 ziwZ Try.f37 [a0] H K = zinZ a0 H K := by kernel_rfl
theorem store_Store_deed_ok {a0 : AV} {H : AH} {K : AV → AH → Prop} (h : zinZ a0 H K) : ∃ r H', K r H' ∧ BCall Try.prog 37 [a0] H r H' :=
 sFun_ok mixP Try.func37 (by kernel_rfl) (Eq.mpr (store_Store_deed_eq a0 H K) h)
/-! (*salvor/store.Store).do -/
def store_Store_do_fl : Floats := flOf []
def store_Store_do_kp : Nat → Option (List Bool) := kpOf []
def zlbZ (a0 a1 : AV) (H : AH) (K : AV → AH → Prop) : Prop :=
bH (anew H a1) fun v0 H1 =>
bC (BCall Try.prog 37 [a0] H1) fun v2 H3 =>
bO (aun .not v2) fun v4 =>
bB v4 fun t5 => bI t5 (
K (.lit (.int .i64 8)) H3)
 (bO (zcZ a0) fun v6 =>
bO (ashift 1 v6) fun v7 =>
bO (ald true 2 H3 v7) fun v8 =>
bO (ald true 8 H3 v0) fun v9 =>
bP (BPure Try.prog 39 [v8, v9]) fun v10 =>
bO (zcZ a0) fun v11 =>
bO (ashift 1 v11) fun v12 =>
bS (ast 2 H3 v12 v10) fun H13 =>
bO (zcZ a0) fun v14 =>
bO (ashift 5 v14) fun v15 =>
bO (ald false 1 H13 v15) fun v16 =>
bO (ald true 8 H13 v0) fun v17 =>
bO (absf 8 1 (zrow [(.lit (.int .i64 0)), (.lit (.int .i64 0)), (.lit (.int .i64 0)), (.lit (.int .i64 0)), (.lit (.bool false)), (.lit (.string ⟨#[]⟩)), (.lit (.string ⟨#[]⟩)), (.lit (.slice none 0 0))] 1) [(0, 8, v17)]) fun v18 =>
bH (aap 8 96 H13 v16 v18) fun v19 H20 =>
bO (zcZ a0) fun v21 =>
bO (ashift 5 v21) fun v22 =>
bS (ast 1 H20 v22 v19) fun H23 =>
K (.lit (.int .i64 0)) H23)
theorem store_Store_do_eq (a0 a1 : AV) (H : AH) (K : AV → AH → Prop) : sFun Try.prog store_Store_do_fl pqe none0 none0 store_Store_do_kp Try.f31 [a0, a1] H K = zlbZ a0 a1 H K := by kernel_rfl
theorem store_Store_do_ok {a0 a1 : AV} {H : AH} {K : AV → AH → Prop} (h : zlbZ a0 a1 H K) : ∃ r H', K r H' ∧ BCall Try.prog 31 [a0, a1] H r H' :=
 sFun_ok mixP Try.func31 (by kernel_rfl) (Eq.mpr (store_Store_do_eq a0 a1 H K) h)
/-! (*salvor/store.Store).content -/
def zlrZ : Floats := flOf []
def zlsZ : Nat → Option (List Bool) := kpOf []
def zdgZ (a0 a1 : AV) (H : AH) (K : AV → AH → Prop) : Prop :=
bH (anew H (.agg [(.lit (.int .i64 0)), (.lit (.slice none 0 0))])) fun v0 H1 =>
bO (zcZ a0) fun v2 =>
bO (ashift 8 v2) fun v3 =>
bO (ald false 1 H1 v3) fun v4 =>
bB v4 fun t5 => bI t5 (
bO (abl [(.lit (.int .i64 0)), (.lit (.slice none 0 0))] []) fun v6 =>
bS (ast 2 H1 v0 v6) fun H7 =>
bO (ald true 2 H7 v0) fun v8 =>
K (.tup [v8, (.lit (.int .i64 8))]) H7)
 (bO (zcZ a0) fun v9 =>
bO (ashift 1 v9) fun v10 =>
bO (ald true 2 H1 v10) fun v11 =>
bP (PCall Try.prog 49 [v11, a1] H1) fun v12 =>
bO (zdZ v12 0) fun v13 =>
bO (zdZ v12 1) fun v14 =>
bH (anew H1 (.agg [(.lit (.int .i64 0)), (.lit (.slice none 0 0))])) fun v15 H16 =>
bS (ast 2 H16 v15 v13) fun H17 =>
bO (aun .not v14) fun v18 =>
bB v18 fun t19 => bI t19 (
bO (abl [(.lit (.int .i64 0)), (.lit (.slice none 0 0))] []) fun v20 =>
bS (ast 2 H17 v0 v20) fun H21 =>
bO (ald true 2 H21 v0) fun v22 =>
K (.tup [v22, (.lit (.int .i64 3))]) H21)
 (bO (ald true 2 H17 v15) fun v23 =>
bS (ast 2 H17 v0 v23) fun H24 =>
bO (ald true 2 H24 v0) fun v25 =>
K (.tup [v25, (.lit (.int .i64 0))]) H24))
theorem zlpZ (a0 a1 : AV) (H : AH) (K : AV → AH → Prop) : sFun Try.prog zlrZ pqe none0 none0 zlsZ Try.f32 [a0, a1] H K = zdgZ a0 a1 H K := by kernel_rfl
theorem zebZ {a0 a1 : AV} {H : AH} {K : AV → AH → Prop} (h : zdgZ a0 a1 H K) : ∃ r H', K r H' ∧ BCall Try.prog 32 [a0, a1] H r H' :=
 sFun_ok mixP Try.func32 (by kernel_rfl) (Eq.mpr (zlpZ a0 a1 H K) h)
/-! (*salvor/store.Store).find -/
def store_Store_find_fl : Floats := flOf []
def store_Store_find_kp : Nat → Option (List Bool) := kpOf []
def zihZ (a0 a1 : AV) (H : AH) (K : AV → AH → Prop) : Prop :=
bO (zcZ a0) fun v0 =>
bO (ashift 8 v0) fun v1 =>
bO (ald false 1 H v1) fun v2 =>
bB v2 fun t3 => bI t3 (
K (.tup [(.lit (.int .i64 0)), (.lit (.int .i64 8))]) H)
 (bP (PCall Try.prog 48 [a1] H) fun v4 =>
bO (aun .not v4) fun v5 =>
bB v5 fun t6 => bI t6 (
K (.tup [(.lit (.int .i64 0)), (.lit (.int .i64 5))]) H)
 (bO (zcZ a0) fun v7 =>
bO (ashift 1 v7) fun v8 =>
bO (ald true 2 H v8) fun v9 =>
bP (PCall Try.prog 18 [v9, a1] H) fun v10 =>
bO (zdZ v10 0) fun v11 =>
bO (zdZ v10 1) fun v12 =>
bO (aun .not v12) fun v13 =>
bB v13 fun t14 => bI t14 (
K (.tup [(.lit (.int .i64 0)), (.lit (.int .i64 3))]) H)
 (K (.tup [v11, (.lit (.int .i64 0))]) H)))
theorem store_Store_find_eq (a0 a1 : AV) (H : AH) (K : AV → AH → Prop) : sFun Try.prog store_Store_find_fl pqe none0 none0 store_Store_find_kp Try.f30 [a0, a1] H K = zihZ a0 a1 H K := by kernel_rfl
theorem store_Store_find_ok {a0 a1 : AV} {H : AH} {K : AV → AH → Prop} (h : zihZ a0 a1 H K) : ∃ r H', K r H' ∧ BCall Try.prog 30 [a0, a1] H r H' :=
 sFun_ok mixP Try.func30 (by kernel_rfl) (Eq.mpr (store_Store_find_eq a0 a1 H K) h)
/-! (*salvor/store.Store).Open -/
def store_Store_Open_fl : Floats := flOf []
def store_Store_Open_kp : Nat → Option (List Bool) := kpOf []
def zimZ (a0 a1 a2 : AV) (H : AH) (K : AV → AH → Prop) : Prop :=
bC (BCall Try.prog 30 [a0, a1] H) fun v0 H1 =>
bO (zdZ v0 0) fun v2 =>
bO (zdZ v0 1) fun v3 =>
bO (abI .neq v3 (.lit (.int .i64 3))) fun v4 =>
bG v4 false fun w5 =>
gO w5 (some a2) fun v6 =>
bG v4 false fun w7 =>
gO w7 (aun .not v6) fun v8 =>
bO (apick v4 (.lit (.bool true)) v8) fun v9 =>
bB v9 fun t10 => bI t10 (
K (.tup [v2, v3]) H1)
 (bO (zcZ a0) fun v11 =>
bO (ashift 1 v11) fun v12 =>
bO (ashift 0 v12) fun v13 =>
bO (ald false 1 H1 v13) fun v14 =>
bO (alnS v14) fun v15 =>
bO (abI .geq v15 (.lit (.int .i64 16))) fun v16 =>
bB v16 fun t17 => bI t17 (
K (.tup [(.lit (.int .i64 0)), (.lit (.int .i64 4))]) H1)
 (bO (zcZ a0) fun v18 =>
bO (ashift 6 v18) fun v19 =>
bO (ald false 1 H1 v19) fun v20 =>
bO (abI .add v20 (.lit (.int .i64 1))) fun v21 =>
bO (abl [(.lit (.int .i64 0)), (.lit (.int .i64 0)), (.lit (.int .i64 0)), (.lit (.int .i64 0)), (.lit (.bool false)), (.lit (.string ⟨#[]⟩)), (.lit (.string ⟨#[]⟩)), (.lit (.slice none 0 0))] [(0, 1, (.lit (.int .i64 1))), (5, 1, a1), (1, 1, v21)]) fun v22 =>
bC (BCall Try.prog 31 [a0, v22] H1) fun v23 H24 =>
bO (abI .neq v23 (.lit (.int .i64 0))) fun v25 =>
bB v25 fun t26 => bI t26 (
K (.tup [(.lit (.int .i64 0)), v23]) H24)
 (bO (zcZ a0) fun v27 =>
bO (ashift 6 v27) fun v28 =>
bO (ald false 1 H24 v28) fun v29 =>
bO (abI .add v29 (.lit (.int .i64 1))) fun v30 =>
bO (zcZ a0) fun v31 =>
bO (ashift 6 v31) fun v32 =>
bS (ast 1 H24 v32 v30) fun H33 =>
bO (zcZ a0) fun v34 =>
bO (ashift 6 v34) fun v35 =>
bO (ald false 1 H33 v35) fun v36 =>
K (.tup [v36, (.lit (.int .i64 0))]) H33)))
theorem store_Store_Open_eq (a0 a1 a2 : AV) (H : AH) (K : AV → AH → Prop) : sFun Try.prog store_Store_Open_fl pqe none0 none0 store_Store_Open_kp Try.f10 [a0, a1, a2] H K = zimZ a0 a1 a2 H K := by kernel_rfl
theorem store_Store_Open_ok {a0 a1 a2 : AV} {H : AH} {K : AV → AH → Prop} (h : zimZ a0 a1 a2 H K) : ∃ r H', K r H' ∧ BCall Try.prog 10 [a0, a1, a2] H r H' :=
 sFun_ok mixP Try.func10 (by kernel_rfl) (Eq.mpr (store_Store_Open_eq a0 a1 a2 H K) h)
/-! (*salvor/store.Store).Read -/
def store_Store_Read_fl : Floats := flOf []
def store_Store_Read_kp : Nat → Option (List Bool) := kpOf []
def zedZ (a0 a1 a2 a3 : AV) (H : AH) (K : AV → AH → Prop) : Prop :=
bC (BCall Try.prog 32 [a0, a1] H) fun v0 H1 =>
bO (zdZ v0 0) fun v2 =>
bO (zdZ v0 1) fun v3 =>
bH (anew H1 (.agg [(.lit (.int .i64 0)), (.lit (.slice none 0 0))])) fun v4 H5 =>
bS (ast 2 H5 v4 v2) fun H6 =>
bO (abI .neq v3 (.lit (.int .i64 0))) fun v7 =>
bB v7 fun t8 => bI t8 (
K (.tup [(.lit (.slice none 0 0)), v3]) H6)
 (bO (abI .lss a2 (.lit (.int .i64 0))) fun v9 =>
bG v9 false fun w10 =>
gO w10 (some a3) fun v11 =>
bG v9 false fun w12 =>
gO w12 (abI .lss v11 (.lit (.int .i64 0))) fun v13 =>
bO (apick v9 (.lit (.bool true)) v13) fun v14 =>
bG v14 false fun w15 =>
gO w15 (some a3) fun v16 =>
bG v14 false fun w17 =>
gO w17 (abI .gtr v16 (.lit (.int .i64 4096))) fun v18 =>
bO (apick v14 (.lit (.bool true)) v18) fun v19 =>
bB v19 fun t20 => bI t20 (
K (.tup [(.lit (.slice none 0 0)), (.lit (.int .i64 5))]) H6)
 (bO (ald true 2 H6 v4) fun v21 =>
bP (PCall Try.prog 41 [v21, a2, a3] H6) fun v22 =>
K (.tup [v22, (.lit (.int .i64 0))]) H6))
theorem store_Store_Read_eq (a0 a1 a2 a3 : AV) (H : AH) (K : AV → AH → Prop) : sFun Try.prog store_Store_Read_fl pqe none0 none0 store_Store_Read_kp Try.f14 [a0, a1, a2, a3] H K = zedZ a0 a1 a2 a3 H K := by kernel_rfl
theorem zgcZ {a0 a1 a2 a3 : AV} {H : AH} {K : AV → AH → Prop} (h : zedZ a0 a1 a2 a3 H K) : ∃ r H', K r H' ∧ BCall Try.prog 14 [a0, a1, a2, a3] H r H' :=
 sFun_ok mixP Try.func14 (by kernel_rfl) (Eq.mpr (store_Store_Read_eq a0 a1 a2 a3 H K) h)
/-! (*salvor/store.Store).Write -/
def ziaZ : Floats := flOf [(12, [(3, some 11)])]
def zhsZ : Nat → Option (List Bool) := kpOf [(9, mk 79 0 [0, 1, 2, 3, 10, 36, 37, 38])]
def zdqZ (p : List Bool) (n : Nat) : List AV → AH → Kf → Prop := sCode Try.prog ziaZ pqe none0 none0 zhsZ (sub p (bodyOf Try.f11)) n
def zibZ (x0 x1 x2 x3 x10 x36 x37 x38 : AV) (H : AH) (K : AV → AH → Prop) : Prop := lp (mk 79 0 [0, 1, 2, 3, 10, 36, 37, 38]) (zdqZ [true, true, true, false, true, false, false] 10) [x0, x1, x2, x3, x10, x36, x37, x38] H (kBlk 1 (kSeq (zdqZ [true, true, true, true] 21) (kRet Try.prog Try.f11.results.toList K)))
def zdxZ (R9 : List AV → AH → Prop) (x0 x1 x2 x3 x10 x36 x37 x38 : AV) (H : AH) (K : AV → AH → Prop) : Prop :=
bO (abI .lss x38 x37) fun v0 =>
bB v0 fun t1 => bI t1 (
bO (aixS 2 x36 x38) fun v2 =>
bO (ald true 2 H v2) fun v3 =>
bH (anew H (.agg [(.lit (.int .i64 0)), (.lit (.int .i64 0))])) fun v4 H5 =>
bS (ast 2 H5 v4 v3) fun H6 =>
bO (ashift 0 v4) fun v7 =>
bO (ald false 1 H6 v7) fun v8 =>
bO (abI .sub v8 x2) fun v9 =>
bO (ald true 2 H6 x10) fun v10 =>
bO (ashift 0 v4) fun v11 =>
bO (ald false 1 H6 v11) fun v12 =>
bO (abI .quo v12 (.lit (.int .i64 8))) fun v13 =>
bP (PCall Try.prog 35 [v10, v13] H6) fun v14 =>
bO (aun .not v14) fun v15 =>
bG v15 true fun w16 =>
gO w16 (some x0) fun v17 =>
bG v15 true fun w18 =>
gC w18 (BCall Try.prog 15 [v17] H6) H6 fun v19 H20 =>
bG v15 true fun w21 =>
gO w21 (abI .eql v19 (.lit (.int .i64 0))) fun v22 =>
bO (apick v15 v22 (.lit (.bool false))) fun v23 =>
bB v23 fun t24 => bI t24 (
K (.tup [v9, (.lit (.int .i64 4))]) H20)
 (bO (ashift 0 v4) fun v25 =>
bO (ald false 1 H20 v25) fun v26 =>
bO (ashift 1 v4) fun v27 =>
bO (ald false 1 H20 v27) fun v28 =>
bO (abI .add v9 v28) fun v29 =>
bO (aslS 1 x3 (some v9) (some v29) none) fun v30 =>
bC (BCall Try.prog 36 [v30] H20) fun v31 H32 =>
bO (abl [(.lit (.int .i64 0)), (.lit (.int .i64 0)), (.lit (.int .i64 0)), (.lit (.int .i64 0)), (.lit (.bool false)), (.lit (.string ⟨#[]⟩)), (.lit (.string ⟨#[]⟩)), (.lit (.slice none 0 0))] [(0, 1, (.lit (.int .i64 2))), (1, 1, x1), (2, 1, v26), (7, 1, v31)]) fun v33 =>
bC (BCall Try.prog 31 [x0, v33] H32) fun v34 H35 =>
(ald false 1 H32 v25 = some v26) ∧
bO (abI .neq v34 (.lit (.int .i64 0))) fun v36 =>
bB v36 fun t37 => bI t37 (
K (.tup [v9, v34]) H35)
 (bO (abI .add x38 (.lit (.int .i64 1))) fun v38 =>
R9 [x0, x1, x2, x3, x10, x36, x37, v38] H35)))
 (bO (alnS x3) fun v39 =>
K (.tup [v39, (.lit (.int .i64 0))]) H)
theorem zlcZ (R9 : List AV → AH → Prop) (x0 x1 x2 x3 x10 x36 x37 x38 : AV) (H : AH) (K : AV → AH → Prop) : zdqZ [true, true, true, false, true, false, false] 10 (expand (mk 79 0 [0, 1, 2, 3, 10, 36, 37, 38]) [x0, x1, x2, x3, x10, x36, x37, x38]) H (kLp (mk 79 0 [0, 1, 2, 3, 10, 36, 37, 38]) R9 (kBlk 1 (kSeq (zdqZ [true, true, true, true] 21) (kRet Try.prog Try.f11.results.toList K)))) = zdxZ R9 x0 x1 x2 x3 x10 x36 x37 x38 H K := by kernel_rfl
theorem zjxZ {K : AV → AH → Prop} (I : Nat → AV → AV → AV → AV → AV → AV → AV → AV → AH → Prop) (round : ∀ (n : Nat) (x0 x1 x2 x3 x10 x36 x37 x38 : AV) (H : AH) (R : List AV → AH → Prop), (∀ (m : Nat) (y0 y1 y2 y3 y10 y36 y37 y38 : AV) (H' : AH), m < n → I m y0 y1 y2 y3 y10 y36 y37 y38 H' → R [y0, y1, y2, y3, y10, y36, y37, y38] H') → I n x0 x1 x2 x3 x10 x36 x37 x38 H → zdxZ R x0 x1 x2 x3 x10 x36 x37 x38 H K) (n : Nat) {x0 x1 x2 x3 x10 x36 x37 x38 : AV} {H : AH} (h : I n x0 x1 x2 x3 x10 x36 x37 x38 H) : zibZ x0 x1 x2 x3 x10 x36 x37 x38 H K := by
 refine lp_upto (zbqZ _ _) (LI8 I) ?_ n h
 intro n X H h
 obtain ⟨x0, x1, x2, x3, x10, x36, x37, x38, rfl, h⟩ := h.elim
 exact Eq.mpr (zlcZ _ x0 x1 x2 x3 x10 x36 x37 x38 H K) (round n x0 x1 x2 x3 x10 x36 x37 x38 H (fun X H' => ∃ m, m < n ∧ LI8 I m X H') (fun m y0 y1 y2 y3 y10 y36 y37 y38 H' hm hi => ⟨m, hm, hi⟩) h)
def zhrZ (a0 a1 a2 a3 : AV) (H : AH) (K : AV → AH → Prop) : Prop :=
bC (BCall Try.prog 32 [a0, a1] H) fun v0 H1 =>
bO (zdZ v0 0) fun v2 =>
bO (zdZ v0 1) fun v3 =>
bH (anew H1 (.agg [(.lit (.int .i64 0)), (.lit (.slice none 0 0))])) fun v4 H5 =>
bS (ast 2 H5 v4 v2) fun H6 =>
bO (abI .neq v3 (.lit (.int .i64 0))) fun v7 =>
bB v7 fun t8 => bI t8 (
K (.tup [(.lit (.int .i64 0)), v3]) H6)
 (bO (alnS a3) fun v9 =>
bP (PCall Try.prog 33 [a2, v9] H6) fun v10 =>
bO (aun .not v10) fun v11 =>
bB v11 fun t12 => bI t12 (
K (.tup [(.lit (.int .i64 0)), (.lit (.int .i64 5))]) H6)
 (bO (alnS a3) fun v13 =>
bO (abl [(.lit (.int .i64 0)), (.lit (.int .i64 0))] [(0, 1, a2), (1, 1, v13)]) fun v14 =>
bP (PCall Try.prog 34 [v14, (.lit (.int .i64 8))] H6) fun v15 =>
bO (alnS v15) fun v16 =>
zibZ a0 a1 a2 a3 v4 v15 v16 (.lit (.int .i64 0)) H6 K))
theorem store_Store_Write_eq (a0 a1 a2 a3 : AV) (H : AH) (K : AV → AH → Prop) : sFun Try.prog ziaZ pqe none0 none0 zhsZ Try.f11 [a0, a1, a2, a3] H K = zhrZ a0 a1 a2 a3 H K := by kernel_rfl
theorem store_Store_Write_ok {a0 a1 a2 a3 : AV} {H : AH} {K : AV → AH → Prop} (h : zhrZ a0 a1 a2 a3 H K) : ∃ r H', K r H' ∧ BCall Try.prog 11 [a0, a1, a2, a3] H r H' :=
 sFun_ok mixP Try.func11 (by kernel_rfl) (Eq.mpr (store_Store_Write_eq a0 a1 a2 a3 H K) h)
/-! (*salvor/store.Store).Truncate -/
/-! (*salvor/store.Store).Rename -/
/-! (*salvor/store.Store).Remove -/
/-! (*salvor/store.Store).Sync -/
/-! salvor/store.has -/
def store_has_fl : Floats := flOf []
def store_has_kp : Nat → Option (List Bool) := kpOf []
def store_has (a0 a1 : AV) (H : AH) (K : AV → AH → Prop) : Prop :=
bH (anew H a0) fun v0 H1 =>
bH (anew H1 a1) fun v2 H3 =>
bO (ashift 1 v0) fun v4 =>
bO (ald false 1 H3 v4) fun v5 =>
bP (PCall Try.prog 51 [v5, (.fn (.func 52) [] [v2])] H3) fun v6 =>
K v6 H3
theorem store_has_eq (a0 a1 : AV) (H : AH) (K : AV → AH → Prop) : sFun Try.prog store_has_fl pqe none0 none0 store_has_kp Try.f35 [a0, a1] H K = store_has a0 a1 H K := by kernel_rfl
theorem store_has_ok {a0 a1 : AV} {H : AH} {K : AV → AH → Prop} (h : store_has a0 a1 H K) : ∃ r H', K r H' ∧ BCall Try.prog 35 [a0, a1] H r H' :=
 sFun_ok mixP Try.func35 (by kernel_rfl) (Eq.mpr (store_has_eq a0 a1 H K) h)
/-! salvor/store.has$1 -/
def store_has_1_fl : Floats := flOf []
def store_has_1_kp : Nat → Option (List Bool) := kpOf []
def store_has_1 (a0 a1 : AV) (H : AH) (K : AV → AH → Prop) : Prop :=
bH (anew H a0) fun v0 H1 =>
bO (ashift 0 v0) fun v2 =>
bO (ald false 1 H1 v2) fun v3 =>
bO (ald false 1 H1 a1) fun v4 =>
bO (abI .eql v3 v4) fun v5 =>
K v5 H1
theorem store_has_1_eq (a0 a1 : AV) (H : AH) (K : AV → AH → Prop) : sFun Try.prog store_has_1_fl pqe none0 none0 store_has_1_kp Try.f52 [a0, a1] H K = store_has_1 a0 a1 H K := by kernel_rfl
theorem store_has_1_ok {a0 a1 : AV} {H : AH} {K : AV → AH → Prop} (h : store_has_1 a0 a1 H K) : ∃ r H', K r H' ∧ BCall Try.prog 52 [a0, a1] H r H' :=
 sFun_ok mixP Try.func52 (by kernel_rfl) (Eq.mpr (store_has_1_eq a0 a1 H K) h)
/-! salvor/store.stays -/
/-! slices.ContainsFunc[[]salvor/api.Ext,salvor/api.Ext] -/
def zecZ : Floats := flOf []
def zdtZ : Nat → Option (List Bool) := kpOf []
def zbpZ (a0 a1 : AV) (H : AH) (K : AV → AH → Prop) : Prop :=
bP (PCall Try.prog 75 [a0, a1] H) fun v0 =>
bO (abI .geq v0 (.lit (.int .i64 0))) fun v1 =>
K v1 H
theorem zdyZ (a0 a1 : AV) (H : AH) (K : AV → AH → Prop) : sFun Try.prog zecZ pqe none0 none0 zdtZ Try.f51 [a0, a1] H K = zbpZ a0 a1 H K := by kernel_rfl
theorem zdwZ {a0 a1 : AV} {H : AH} {K : AV → AH → Prop} (h : zbpZ a0 a1 H K) : ∃ r H', K r H' ∧ BCall Try.prog 51 [a0, a1] H r H' :=
 sFun_ok mixP Try.func51 (by kernel_rfl) (Eq.mpr (zdyZ a0 a1 H K) h)
/-! slices.Contains[[]int,int] -/
/-! slices.Index[[]int,int] -/
/-! slices.Clone[[]byte,byte] -/
def zitZ : Floats := flOf []
def ziuZ : Nat → Option (List Bool) := kpOf []
def zdoZ (a0 : AV) (H : AH) (K : AV → AH → Prop) : Prop :=
bO (abN .eql nilS a0 (.lit (.slice none 0 0))) fun v0 =>
bB v0 fun t1 => bI t1 (
K (.lit (.slice none 0 0)) H)
 (bH (absl H 1 0 (zrow [(.lit (.int .u8 0))] 0) []) fun v2 H3 =>
bH (aap 1 1 H3 v2 a0) fun v4 H5 =>
K v4 H5)
theorem zisZ (a0 : AV) (H : AH) (K : AV → AH → Prop) : sFun Try.prog zitZ pqe none0 none0 ziuZ Try.f36 [a0] H K = zdoZ a0 H K := by kernel_rfl
theorem zjbZ {a0 : AV} {H : AH} {K : AV → AH → Prop} (h : zdoZ a0 H K) : ∃ r H', K r H' ∧ BCall Try.prog 36 [a0] H r H' :=
 sFun_ok mixP Try.func36 (by kernel_rfl) (Eq.mpr (zisZ a0 H K) h)
/-! slices.Chunk[[]byte,byte] -/
def zivZ : Floats := flOf []
def zixZ : Nat → Option (List Bool) := kpOf []
def zdnZ (a0 a1 : AV) (H : AH) (K : AV → AH → Prop) : Prop :=
bH (anew H a0) fun v0 H1 =>
bH (anew H1 a1) fun v2 H3 =>
bO (ald false 1 H3 v2) fun v4 =>
bO (abI .lss v4 (.lit (.int .i64 1))) fun v5 =>
bB v5 fun t6 => bI t6 (
False)
 (K (.fn (.func 68) [] [v0, v2]) H3)
theorem zirZ (a0 a1 : AV) (H : AH) (K : AV → AH → Prop) : sFun Try.prog zivZ pqe none0 none0 zixZ Try.f45 [a0, a1] H K = zdnZ a0 a1 H K := by kernel_rfl
theorem zizZ {a0 a1 : AV} {H : AH} {K : AV → AH → Prop} (h : zdnZ a0 a1 H K) : ∃ r H', K r H' ∧ BCall Try.prog 45 [a0, a1] H r H' :=
 sFun_ok mixP Try.func45 (by kernel_rfl) (Eq.mpr (zirZ a0 a1 H K) h)
/-! salvor/cursor.Open -/
def cursor_Open_fl : Floats := flOf []
def cursor_Open_kp : Nat → Option (List Bool) := kpOf []
def cursor_Open (a0 a1 a2 : AV) (H : AH) (K : AV → AH → Prop) : Prop :=
bC (BCall Try.prog 10 [a0, a1, a2] H) fun v0 H1 =>
bO (zdZ v0 0) fun v2 =>
bO (zdZ v0 1) fun v3 =>
bO (abI .neq v3 (.lit (.int .i64 0))) fun v4 =>
bB v4 fun t5 => bI t5 (
K (.tup [(.lit (.pointer none)), v3]) H1)
 (bO (abl [(.lit (.int .i64 0)), (.lit (.pointer none)), (.lit (.int .i64 0))] [(1, 1, a0), (2, 1, v2)]) fun v6 =>
bH (anew H1 v6) fun v7 H8 =>
K (.tup [v7, (.lit (.int .i64 0))]) H8)
theorem cursor_Open_eq (a0 a1 a2 : AV) (H : AH) (K : AV → AH → Prop) : sFun Try.prog cursor_Open_fl pqe none0 none0 cursor_Open_kp Try.f20 [a0, a1, a2] H K = cursor_Open a0 a1 a2 H K := by kernel_rfl
theorem cursor_Open_ok {a0 a1 a2 : AV} {H : AH} {K : AV → AH → Prop} (h : cursor_Open a0 a1 a2 H K) : ∃ r H', K r H' ∧ BCall Try.prog 20 [a0, a1, a2] H r H' :=
 sFun_ok mixP Try.func20 (by kernel_rfl) (Eq.mpr (cursor_Open_eq a0 a1 a2 H K) h)
/-! (*salvor/cursor.Cursor).Tell -/
def zmhZ : Floats := flOf []
def zlzZ : Nat → Option (List Bool) := kpOf []
def zguZ (a0 : AV) (H : AH) (K : AV → AH → Prop) : Prop :=
bO (zcZ a0) fun v0 =>
bO (ashift 0 v0) fun v1 =>
bO (ald false 1 H v1) fun v2 =>
K v2 H
theorem zmgZ (a0 : AV) (H : AH) (K : AV → AH → Prop) : sFun Try.prog zmhZ pqe none0 none0 zlzZ Try.f22 [a0] H K = zguZ a0 H K := by kernel_rfl
theorem zmeZ {a0 : AV} {H : AH} {K : AV → AH → Prop} (h : zguZ a0 H K) : ∃ r H', K r H' ∧ BCall Try.prog 22 [a0] H r H' :=
 sFun_ok mixP Try.func22 (by kernel_rfl) (Eq.mpr (zmgZ a0 H K) h)
/-! (*salvor/cursor.Cursor).Seek -/
def zmiZ : Floats := flOf []
def zmbZ : Nat → Option (List Bool) := kpOf []
def zgsZ (a0 a1 : AV) (H : AH) (K : AV → AH → Prop) : Prop :=
bP (PCall Try.prog 46 [a1] H) fun v0 =>
bO (aun .not v0) fun v1 =>
bB v1 fun t2 => bI t2 (
K (.lit (.bool false)) H)
 (bO (zcZ a0) fun v3 =>
bO (ashift 0 v3) fun v4 =>
bS (ast 1 H v4 a1) fun H5 =>
K (.lit (.bool true)) H5)
theorem zmaZ (a0 a1 : AV) (H : AH) (K : AV → AH → Prop) : sFun Try.prog zmiZ pqe none0 none0 zmbZ Try.f23 [a0, a1] H K = zgsZ a0 a1 H K := by kernel_rfl
theorem zmcZ {a0 a1 : AV} {H : AH} {K : AV → AH → Prop} (h : zgsZ a0 a1 H K) : ∃ r H', K r H' ∧ BCall Try.prog 23 [a0, a1] H r H' :=
 sFun_ok mixP Try.func23 (by kernel_rfl) (Eq.mpr (zmaZ a0 a1 H K) h)
/-! (*salvor/cursor.File).Ino -/
def cursor_File_Ino_fl : Floats := flOf []
def cursor_File_Ino_kp : Nat → Option (List Bool) := kpOf []
def zjuZ (a0 : AV) (H : AH) (K : AV → AH → Prop) : Prop :=
bO (zcZ a0) fun v0 =>
bO (ashift 2 v0) fun v1 =>
bO (ald false 1 H v1) fun v2 =>
K v2 H
theorem cursor_File_Ino_eq (a0 : AV) (H : AH) (K : AV → AH → Prop) : sFun Try.prog cursor_File_Ino_fl pqe none0 none0 cursor_File_Ino_kp Try.f25 [a0] H K = zjuZ a0 H K := by kernel_rfl
theorem cursor_File_Ino_ok {a0 : AV} {H : AH} {K : AV → AH → Prop} (h : zjuZ a0 H K) : ∃ r H', K r H' ∧ BCall Try.prog 25 [a0] H r H' :=
 sFun_ok mixP Try.func25 (by kernel_rfl) (Eq.mpr (cursor_File_Ino_eq a0 H K) h)
/-! (*salvor/cursor.File).Read -/
def cursor_File_Read_fl : Floats := flOf []
def cursor_File_Read_kp : Nat → Option (List Bool) := kpOf []
def zilZ (a0 a1 : AV) (H : AH) (K : AV → AH → Prop) : Prop :=
bO (zcZ a0) fun v0 =>
bO (ashift 1 v0) fun v1 =>
bO (ald false 1 H v1) fun v2 =>
bO (zcZ a0) fun v3 =>
bO (ashift 2 v3) fun v4 =>
bO (ald false 1 H v4) fun v5 =>
bO (zcZ a0) fun v6 =>
bO (ashift 0 v6) fun v7 =>
bO (ashift 0 v7) fun v8 =>
bO (ald false 1 H v8) fun v9 =>
bC (BCall Try.prog 14 [v2, v5, v9, a1] H) fun v10 H11 =>
bO (zdZ v10 0) fun v12 =>
bO (zdZ v10 1) fun v13 =>
bO (zcZ a0) fun v14 =>
bO (ashift 0 v14) fun v15 =>
bO (ashift 0 v15) fun v16 =>
bO (ald false 1 H11 v16) fun v17 =>
bO (alnS v12) fun v18 =>
bO (abI .add v17 v18) fun v19 =>
bO (zcZ a0) fun v20 =>
bO (ashift 0 v20) fun v21 =>
bO (ashift 0 v21) fun v22 =>
bS (ast 1 H11 v22 v19) fun H23 =>
K (.tup [v12, v13]) H23
theorem cursor_File_Read_eq (a0 a1 : AV) (H : AH) (K : AV → AH → Prop) : sFun Try.prog cursor_File_Read_fl pqe none0 none0 cursor_File_Read_kp Try.f24 [a0, a1] H K = zilZ a0 a1 H K := by kernel_rfl
theorem cursor_File_Read_ok {a0 a1 : AV} {H : AH} {K : AV → AH → Prop} (h : zilZ a0 a1 H K) : ∃ r H', K r H' ∧ BCall Try.prog 24 [a0, a1] H r H' :=
 sFun_ok mixP Try.func24 (by kernel_rfl) (Eq.mpr (cursor_File_Read_eq a0 a1 H K) h)
/-! (*salvor/cursor.File).Write -/
def zfpZ : Floats := flOf []
def zhzZ : Nat → Option (List Bool) := kpOf [(200010, mk 58 0 [2, 4, 5, 6, 12, 13, 14, 19]), (300010, mk 58 0 [2, 4, 5, 6, 9]), (4, mk 58 0 [2, 4, 5, 6, 12, 13, 14])]
def zfkZ : Nat → Bool := inL [200010]
def zsZ (p : List Bool) (n : Nat) : List AV → AH → Kf → Prop := sCode Try.prog zfpZ pqe pqea zfkZ zhzZ (sub p (bodyOf Try.f21)) n
def zheZ (R4 : List AV → AH → Prop) (x2 x4 x5 x6 x12 x13 x14 x19 : AV) (H : AH) (K : AV → AH → Prop) : Prop := unF Try.prog (sub [true, true, false, true, false, false, true, true, false, false, true, true, false] (bodyOf Try.f21)) (expand (mk 58 0 [2, 4, 5, 6, 12, 13, 14, 19]) [x2, x4, x5, x6, x12, x13, x14, x19]) H (kBlk 2 (kBlk 1 (kSeq (zsZ [true, true, false, true, false, false, true, true, true] 16) (kLp (mk 58 0 [2, 4, 5, 6, 12, 13, 14]) R4 (kBlk 0 (kSeq (zsZ [true, true, true] 16) (kRet Try.prog Try.f21.results.toList K)))))))
def zhuZ (x2 x4 x5 x6 x12 x13 x14 : AV) (H : AH) (K : AV → AH → Prop) : Prop := lp (mk 58 0 [2, 4, 5, 6, 12, 13, 14]) (zsZ [true, true, false, true, false, false] 5) [x2, x4, x5, x6, x12, x13, x14] H (kBlk 0 (kSeq (zsZ [true, true, true] 16) (kRet Try.prog Try.f21.results.toList K)))
theorem ziqZ : sub [true, true, false, true, false, false, true, true, false, false, true, true, false] (bodyOf Try.f21) = .rangeFunc (.tmp 19) #[20] (asgOf (sub [true, true, false, true, false, false, true, true, false, false, true, true, false] (bodyOf Try.f21))) (sub [true, true, false, true, false, false, true, true, false, false, true, true, false, true] (bodyOf Try.f21)) := by kernel_rfl
def zbzZ (Rf : Exit → AH → Prop) (x2 x4 x5 x6 x9 : AV) (H : AH) (K : AV → AH → Prop) : Prop :=
bO (ald false 1 H x2) fun v0 =>
bO (zcZ v0) fun v1 =>
bO (ashift 1 v1) fun v2 =>
bO (ald false 1 H v2) fun v3 =>
bO (ald false 1 H x2) fun v4 =>
bO (zcZ v4) fun v5 =>
bO (ashift 2 v5) fun v6 =>
bO (ald false 1 H v6) fun v7 =>
bO (ald false 1 H x2) fun v8 =>
bO (zcZ v8) fun v9 =>
bO (ashift 0 v9) fun v10 =>
bO (ashift 0 v10) fun v11 =>
bO (ald false 1 H v11) fun v12 =>
bC (BCall Try.prog 11 [v3, v7, v12, x9] H) fun v13 H14 =>
bO (zdZ v13 0) fun v15 =>
bO (zdZ v13 1) fun v16 =>
bO (ald false 1 H14 x2) fun v17 =>
bO (zcZ v17) fun v18 =>
bO (ashift 0 v18) fun v19 =>
bO (ashift 0 v19) fun v20 =>
bO (ald false 1 H14 v20) fun v21 =>
bO (abI .add v21 v15) fun v22 =>
bO (zcZ v17) fun v23 =>
bO (ashift 0 v23) fun v24 =>
bO (ashift 0 v24) fun v25 =>
bS (ast 1 H14 v25 v22) fun H26 =>
bO (ald false 1 H26 x6) fun v27 =>
bO (abI .add v27 v15) fun v28 =>
bS (ast 1 H26 x6 v28) fun H29 =>
bO (abI .neq v16 (.lit (.int .i64 0))) fun v30 =>
bB v30 fun t31 => bI t31 (
bO (ald false 1 H29 x6) fun v32 =>
bS (ast 1 H29 x4 v32) fun H33 =>
bS (ast 1 H33 x5 v16) fun H34 =>
Rf .ret H34)
 (Rf .normal H29)
theorem zkoZ (Rf : Exit → AH → Prop) (x2 x4 x5 x6 x9 : AV) (H : AH) (K : AV → AH → Prop) : zsZ [true, true, false, true, false, false, true, true, false, false, true, true, false, true] 11 (expand (mk 58 0 [2, 4, 5, 6, 9]) [x2, x4, x5, x6, x9]) H (fun e _ H => Rf e H) = zbzZ Rf x2 x4 x5 x6 x9 H K := by kernel_rfl
theorem zkpZ (R4 : List AV → AH → Prop) (x2 x4 x5 x6 x12 x13 x14 x19 : AV) (H : AH) (K : AV → AH → Prop) : (kBlk 2 (kBlk 1 (kSeq (zsZ [true, true, false, true, false, false, true, true, true] 16) (kLp (mk 58 0 [2, 4, 5, 6, 12, 13, 14]) R4 (kBlk 0 (kSeq (zsZ [true, true, true] 16) (kRet Try.prog Try.f21.results.toList K))))))) .normal (expand (mk 58 0 [2, 4, 5, 6, 12, 13, 14, 19]) [x2, x4, x5, x6, x12, x13, x14, x19]) H = (bO (abI .add x14 (.lit (.int .i64 1))) fun v6 =>
R4 [x2, x4, x5, x6, x12, x13, v6] H) := by kernel_rfl
theorem zklZ (R4 : List AV → AH → Prop) (x2 x4 x5 x6 x12 x13 x14 x19 : AV) (H : AH) (K : AV → AH → Prop) : (kBlk 2 (kBlk 1 (kSeq (zsZ [true, true, false, true, false, false, true, true, true] 16) (kLp (mk 58 0 [2, 4, 5, 6, 12, 13, 14]) R4 (kBlk 0 (kSeq (zsZ [true, true, true] 16) (kRet Try.prog Try.f21.results.toList K))))))) .ret (expand (mk 58 0 [2, 4, 5, 6, 12, 13, 14, 19]) [x2, x4, x5, x6, x12, x13, x14, x19]) H = (bO (ald false 1 H x4) fun v7 =>
bO (ald false 1 H x5) fun v8 =>
K (.tup [v7, v8]) H) := by kernel_rfl
def zdvZ (R4 : List AV → AH → Prop) (x2 x4 x5 x6 x12 x13 x14 : AV) (H : AH) (K : AV → AH → Prop) : Prop :=
bO (abI .lss x14 x13) fun v0 =>
bB v0 fun t1 => bI t1 (
bO (aixS 1 x12 x14) fun v2 =>
bO (ald false 1 H v2) fun v3 =>
bC (BCall Try.prog 45 [v3, (.lit (.int .i64 4096))] H) fun v4 H5 =>
zheZ R4 x2 x4 x5 x6 x12 x13 x14 v4 H5 K)
 (bO (ald false 1 H x6) fun v9 =>
bS (ast 1 H x4 v9) fun H10 =>
bS (ast 1 H10 x5 (.lit (.int .i64 0))) fun H11 =>
bO (ald false 1 H11 x4) fun v12 =>
bO (ald false 1 H11 x5) fun v13 =>
K (.tup [v12, v13]) H11)
theorem zleZ (R4 : List AV → AH → Prop) (x2 x4 x5 x6 x12 x13 x14 : AV) (H : AH) (K : AV → AH → Prop) : zsZ [true, true, false, true, false, false] 5 (expand (mk 58 0 [2, 4, 5, 6, 12, 13, 14]) [x2, x4, x5, x6, x12, x13, x14]) H (kLp (mk 58 0 [2, 4, 5, 6, 12, 13, 14]) R4 (kBlk 0 (kSeq (zsZ [true, true, true] 16) (kRet Try.prog Try.f21.results.toList K)))) = zdvZ R4 x2 x4 x5 x6 x12 x13 x14 H K := by kernel_rfl
theorem zjfZ {K : AV → AH → Prop} (I : Nat → AV → AV → AV → AV → AV → AV → AV → AH → Prop) (round : ∀ (n : Nat) (x2 x4 x5 x6 x12 x13 x14 : AV) (H : AH) (R : List AV → AH → Prop), (∀ (m : Nat) (y2 y4 y5 y6 y12 y13 y14 : AV) (H' : AH), m < n → I m y2 y4 y5 y6 y12 y13 y14 H' → R [y2, y4, y5, y6, y12, y13, y14] H') → I n x2 x4 x5 x6 x12 x13 x14 H → zdvZ R x2 x4 x5 x6 x12 x13 x14 H K) (n : Nat) {x2 x4 x5 x6 x12 x13 x14 : AV} {H : AH} (h : I n x2 x4 x5 x6 x12 x13 x14 H) : zhuZ x2 x4 x5 x6 x12 x13 x14 H K := by
 refine lp_mono (zfdZ _ _) (LI7 I) ?_ n h
 intro n X H h
 obtain ⟨x2, x4, x5, x6, x12, x13, x14, rfl, h⟩ := h.elim
 exact Eq.mpr (zleZ _ x2 x4 x5 x6 x12 x13 x14 H K) (round n x2 x4 x5 x6 x12 x13 x14 H (fun X H' => ∃ m, m < n ∧ LI7 I m X H') (fun m y2 y4 y5 y6 y12 y13 y14 H' hm hi => ⟨m, hm, hi⟩) h)
def zhoZ (a0 a1 : AV) (H : AH) (K : AV → AH → Prop) : Prop :=
bH (anew H a0) fun v0 H1 =>
bH (anew H1 (.lit (.int .i64 0))) fun v2 H3 =>
bH (anew H3 (.lit (.int .i64 0))) fun v4 H5 =>
bH (anew H5 (.lit (.int .i64 0))) fun v6 H7 =>
bS (ast 1 H7 v6 (.lit (.int .i64 0))) fun H8 =>
bO (alnS a1) fun v9 =>
zhuZ v0 v2 v4 v6 a1 v9 (.lit (.int .i64 0)) H8 K
theorem cursor_File_Write_eq (a0 a1 : AV) (H : AH) (K : AV → AH → Prop) : sFun Try.prog zfpZ pqe pqea zfkZ zhzZ Try.f21 [a0, a1] H K = zhoZ a0 a1 H K := by kernel_rfl
theorem cursor_File_Write_ok {a0 a1 : AV} {H : AH} {K : AV → AH → Prop} (h : zhoZ a0 a1 H K) : ACalls Try.prog 21 [a0, a1] H K :=
 sFun_wp mixP Try.func21 (by kernel_rfl) (Eq.mpr (cursor_File_Write_eq a0 a1 H K) h)
/-! salvor/salvorlaw14.CursorRuns -/
def zjmZ : Floats := flOf []
def zjkZ : Nat → Option (List Bool) := kpOf []
def zjlZ : Nat → Bool := inL []
def zduZ (H : AH) (K : AV → AH → Prop) : Prop :=
bC (BCall Try.prog 9 [(.lit (.int .i64 9))] H) fun v0 H1 =>
bO (abN .eql nilP v0 (.lit (.pointer none))) fun v2 =>
bB v2 fun t3 => bI t3 (
K (.lit (.bool false)) H1)
 (bC (BCall Try.prog 20 [v0, (.lit (.string ⟨#[97]⟩)), (.lit (.bool true))] H1) fun v4 H5 =>
bO (zdZ v4 0) fun v6 =>
bO (zdZ v4 1) fun v7 =>
bO (abN .eql nilP v6 (.lit (.pointer none))) fun v8 =>
bG v8 false fun w9 =>
gO w9 (some v7) fun v10 =>
bG v8 false fun w11 =>
gO w11 (abI .neq v10 (.lit (.int .i64 0))) fun v12 =>
bO (apick v8 (.lit (.bool true)) v12) fun v13 =>
bB v13 fun t14 => bI t14 (
K (.lit (.bool false)) H5)
 (bH (absl H5 1 2 (zrow [(.lit (.int .u8 0))] 2) [(0, 1, (.lit (.int .u8 1))), (1, 1, (.lit (.int .u8 2)))]) fun v15 H16 =>
bH (absl H16 1 1 (zrow [(.lit (.int .u8 0))] 1) [(0, 1, (.lit (.int .u8 3)))]) fun v17 H18 =>
bH (absl H18 1 2 (zrow [(.lit (.slice none 0 0))] 2) [(0, 1, v15), (1, 1, v17)]) fun v19 H20 =>
bA (ACalls Try.prog 21 [v6, v19] H20) fun v21 H22 =>
bO (zdZ v21 0) fun v23 =>
bO (zdZ v21 1) fun v24 =>
bO (zcZ v6) fun v25 =>
bO (ashift 0 v25) fun v26 =>
bC (BCall Try.prog 22 [v26] H22) fun v27 H28 =>
bO (zcZ v6) fun v29 =>
bO (ashift 0 v29) fun v30 =>
bC (BCall Try.prog 23 [v30, (.lit (.int .i64 1))] H28) fun v31 H32 =>
bC (BCall Try.prog 24 [v6, (.lit (.int .i64 9))] H32) fun v33 H34 =>
bO (zdZ v33 0) fun v35 =>
bO (zdZ v33 1) fun v36 =>
bO (abI .eql v23 (.lit (.int .i64 3))) fun v37 =>
bG v37 true fun w38 =>
gO w38 (some v24) fun v39 =>
bG v37 true fun w40 =>
gO w40 (abI .eql v39 (.lit (.int .i64 0))) fun v41 =>
bO (apick v37 v41 (.lit (.bool false))) fun v42 =>
bG v42 true fun w43 =>
gO w43 (some v27) fun v44 =>
bG v42 true fun w45 =>
gO w45 (abI .eql v44 (.lit (.int .i64 3))) fun v46 =>
bO (apick v42 v46 (.lit (.bool false))) fun v47 =>
bG v47 true fun w48 =>
gO w48 (some v31) fun v49 =>
bO (apick v47 v49 (.lit (.bool false))) fun v50 =>
bG v50 true fun w51 =>
gO w51 (some v35) fun v52 =>
bG v50 true fun w53 =>
gO w53 (acB H34 v52) fun v54 =>
bG v50 true fun w55 =>
gO w55 (abT .eql v54 (.lit (.string ⟨#[2, 3]⟩))) fun v56 =>
bO (apick v50 v56 (.lit (.bool false))) fun v57 =>
bG v57 true fun w58 =>
gO w58 (some v36) fun v59 =>
bG v57 true fun w60 =>
gO w60 (abI .eql v59 (.lit (.int .i64 0))) fun v61 =>
bO (apick v57 v61 (.lit (.bool false))) fun v62 =>
bG v62 true fun w63 =>
gO w63 (some v6) fun v64 =>
bG v62 true fun w65 =>
gO w65 (zcZ v64) fun v66 =>
bG v62 true fun w67 =>
gO w67 (ashift 0 v66) fun v68 =>
bG v62 true fun w69 =>
gC w69 (BCall Try.prog 22 [v68] H34) H34 fun v70 H71 =>
bG v62 true fun w72 =>
gO w72 (abI .eql v70 (.lit (.int .i64 3))) fun v73 =>
bO (apick v62 v73 (.lit (.bool false))) fun v74 =>
bG v74 true fun w75 =>
gO w75 (some v6) fun v76 =>
bG v74 true fun w77 =>
gC w77 (BCall Try.prog 25 [v76] H71) H71 fun v78 H79 =>
bG v74 true fun w80 =>
gO w80 (abI .eql v78 (.lit (.int .i64 1))) fun v81 =>
bO (apick v74 v81 (.lit (.bool false))) fun v82 =>
K v82 H79))
theorem zjyZ (H : AH) (K : AV → AH → Prop) : sFun Try.prog zjmZ pqe pqea zjlZ zjkZ Try.f5 [] H K = zduZ H K := by kernel_rfl
theorem zjvZ {H : AH} {K : AV → AH → Prop} (h : zduZ H K) : ACalls Try.prog 5 [] H K :=
 sFun_wp mixP Try.func5 (by kernel_rfl) (Eq.mpr (zjyZ H K) h)
/-! salvor/salvorlaw14.CursorBack -/
def zfiZ : Floats := flOf []
def zeqZ : Nat → Option (List Bool) := kpOf [(28, mk 130 0 [1, 6, 8, 12]), (15, mk 130 0 [0, 1, 6, 8, 9])]
def zflZ : Nat → Bool := inL []
def zrZ (p : List Bool) (n : Nat) : List AV → AH → Kf → Prop := sCode Try.prog zfiZ pqe pqea zflZ zeqZ (sub p (bodyOf Try.f6)) n
def zemZ (x1 x6 x8 x12 : AV) (H : AH) (K : AV → AH → Prop) : Prop := lp (mk 130 0 [1, 6, 8, 12]) (zrZ [true, true, true, true, true, true, true, true, true, true, true, false, false, false] 29) [x1, x6, x8, x12] H (kBlk 2 (kSeq (zrZ [true, true, true, true, true, true, true, true, true, true, true, true] 35) (kRet Try.prog Try.f6.results.toList K)))
def zekZ (x0 x1 x6 x8 x9 : AV) (H : AH) (K : AV → AH → Prop) : Prop := lp (mk 130 0 [0, 1, 6, 8, 9]) (zrZ [true, true, true, true, true, true, true, false, true, false, false] 16) [x0, x1, x6, x8, x9] H (kBlk 0 (kSeq (zrZ [true, true, true, true, true, true, true, true] 22) (kRet Try.prog Try.f6.results.toList K)))
def zcwZ (R28 : List AV → AH → Prop) (x1 x6 x8 x12 : AV) (H : AH) (K : AV → AH → Prop) : Prop :=
bO (alnT x12) fun v0 =>
bO (alnT x8) fun v1 =>
bO (abI .lss v0 v1) fun v2 =>
bB v2 fun t3 => bI t3 (
bO (abI .rem x1 (.lit (.int .u8 50))) fun v4 =>
bO (acI .i64 v4) fun v5 =>
bO (abI .add v5 (.lit (.int .i64 1))) fun v6 =>
bC (BCall Try.prog 24 [x6, v6] H) fun v7 H8 =>
bO (zdZ v7 0) fun v9 =>
bO (zdZ v7 1) fun v10 =>
bO (abI .neq v10 (.lit (.int .i64 0))) fun v11 =>
bG v11 false fun w12 =>
gO w12 (some v9) fun v13 =>
bG v11 false fun w14 =>
gO w14 (alnS v13) fun v15 =>
bG v11 false fun w16 =>
gO w16 (abI .eql v15 (.lit (.int .i64 0))) fun v17 =>
bO (apick v11 (.lit (.bool true)) v17) fun v18 =>
bB v18 fun t19 => bI t19 (
K (.lit (.bool false)) H8)
 (bO (acB H8 v9) fun v20 =>
bO (abT .add x12 v20) fun v21 =>
R28 [x1, x6, x8, v21] H8))
 (bC (BCall Try.prog 24 [x6, (.lit (.int .i64 9))] H) fun v22 H23 =>
bO (zdZ v22 0) fun v24 =>
bO (zdZ v22 1) fun v25 =>
bO (abT .eql x12 x8) fun v26 =>
bG v26 true fun w27 =>
gO w27 (some v24) fun v28 =>
bG v26 true fun w29 =>
gO w29 (alnS v28) fun v30 =>
bG v26 true fun w31 =>
gO w31 (abI .eql v30 (.lit (.int .i64 0))) fun v32 =>
bO (apick v26 v32 (.lit (.bool false))) fun v33 =>
bG v33 true fun w34 =>
gO w34 (some v25) fun v35 =>
bG v33 true fun w36 =>
gO w36 (abI .eql v35 (.lit (.int .i64 0))) fun v37 =>
bO (apick v33 v37 (.lit (.bool false))) fun v38 =>
bG v38 true fun w39 =>
gP w39 (PCall Try.prog 5 [] H23) fun v40 =>
bO (apick v38 v40 (.lit (.bool false))) fun v41 =>
K v41 H23)
theorem zhhZ (R28 : List AV → AH → Prop) (x1 x6 x8 x12 : AV) (H : AH) (K : AV → AH → Prop) : zrZ [true, true, true, true, true, true, true, true, true, true, true, false, false, false] 29 (expand (mk 130 0 [1, 6, 8, 12]) [x1, x6, x8, x12]) H (kLp (mk 130 0 [1, 6, 8, 12]) R28 (kBlk 2 (kSeq (zrZ [true, true, true, true, true, true, true, true, true, true, true, true] 35) (kRet Try.prog Try.f6.results.toList K)))) = zcwZ R28 x1 x6 x8 x12 H K := by kernel_rfl
theorem zgoZ {K : AV → AH → Prop} (I : Nat → AV → AV → AV → AV → AH → Prop) (round : ∀ (n : Nat) (x1 x6 x8 x12 : AV) (H : AH) (R : List AV → AH → Prop), (∀ (m : Nat) (y1 y6 y8 y12 : AV) (H' : AH), m < n → I m y1 y6 y8 y12 H' → R [y1, y6, y8, y12] H') → I n x1 x6 x8 x12 H → zcwZ R x1 x6 x8 x12 H K) (n : Nat) {x1 x6 x8 x12 : AV} {H : AH} (h : I n x1 x6 x8 x12 H) : zemZ x1 x6 x8 x12 H K := by
 refine lp_mono (zfdZ _ _) (LI4 I) ?_ n h
 intro n X H h
 obtain ⟨x1, x6, x8, x12, rfl, h⟩ := h.elim
 exact Eq.mpr (zhhZ _ x1 x6 x8 x12 H K) (round n x1 x6 x8 x12 H (fun X H' => ∃ m, m < n ∧ LI4 I m X H') (fun m y1 y6 y8 y12 H' hm hi => ⟨m, hm, hi⟩) h)
def zcxZ (R15 : List AV → AH → Prop) (x0 x1 x6 x8 x9 : AV) (H : AH) (K : AV → AH → Prop) : Prop :=
bO (alnS x0) fun v0 =>
bO (abI .lss x9 v0) fun v1 =>
bB v1 fun t2 => bI t2 (
bO (aixS 1 x0 x9) fun v3 =>
bO (ald false 1 H v3) fun v4 =>
bO (alnS v4) fun v5 =>
bO (abI .gtr v5 (.lit (.int .i64 100))) fun v6 =>
bB v6 fun t7 => bI t7 (
bP (PCall Try.prog 5 [] H) fun v8 =>
K v8 H)
 (bO (aixS 1 x0 x9) fun v9 =>
bO (ald false 1 H v9) fun v10 =>
bO (acB H v10) fun v11 =>
bO (abT .add x8 v11) fun v12 =>
bO (abI .add x9 (.lit (.int .i64 1))) fun v13 =>
R15 [x0, x1, x6, v12, v13] H))
 (bA (ACalls Try.prog 21 [x6, x0] H) fun v14 H15 =>
bO (zdZ v14 0) fun v16 =>
bO (zdZ v14 1) fun v17 =>
bO (alnT x8) fun v18 =>
bO (abI .neq v16 v18) fun v19 =>
bG v19 false fun w20 =>
gO w20 (some v17) fun v21 =>
bG v19 false fun w22 =>
gO w22 (abI .neq v21 (.lit (.int .i64 0))) fun v23 =>
bO (apick v19 (.lit (.bool true)) v23) fun v24 =>
bG v24 false fun w25 =>
gO w25 (some x6) fun v26 =>
bG v24 false fun w27 =>
gO w27 (zcZ v26) fun v28 =>
bG v24 false fun w29 =>
gO w29 (ashift 0 v28) fun v30 =>
bG v24 false fun w31 =>
gC w31 (BCall Try.prog 22 [v30] H15) H15 fun v32 H33 =>
bG v24 false fun w34 =>
gO w34 (some x8) fun v35 =>
bG v24 false fun w36 =>
gO w36 (alnT v35) fun v37 =>
bG v24 false fun w38 =>
gO w38 (abI .neq v32 v37) fun v39 =>
bO (apick v24 (.lit (.bool true)) v39) fun v40 =>
bG v40 false fun w41 =>
gO w41 (some x6) fun v42 =>
bG v40 false fun w43 =>
gO w43 (zcZ v42) fun v44 =>
bG v40 false fun w45 =>
gO w45 (ashift 0 v44) fun v46 =>
bG v40 false fun w47 =>
gC w47 (BCall Try.prog 23 [v46, (.lit (.int .i64 0))] H33) H33 fun v48 H49 =>
bG v40 false fun w50 =>
gO w50 (aun .not v48) fun v51 =>
bO (apick v40 (.lit (.bool true)) v51) fun v52 =>
bB v52 fun t53 => bI t53 (
K (.lit (.bool false)) H49)
 (zemZ x1 x6 x8 (.lit (.string ⟨#[]⟩)) H49 K))
theorem zhmZ (R15 : List AV → AH → Prop) (x0 x1 x6 x8 x9 : AV) (H : AH) (K : AV → AH → Prop) : zrZ [true, true, true, true, true, true, true, false, true, false, false] 16 (expand (mk 130 0 [0, 1, 6, 8, 9]) [x0, x1, x6, x8, x9]) H (kLp (mk 130 0 [0, 1, 6, 8, 9]) R15 (kBlk 0 (kSeq (zrZ [true, true, true, true, true, true, true, true] 22) (kRet Try.prog Try.f6.results.toList K)))) = zcxZ R15 x0 x1 x6 x8 x9 H K := by kernel_rfl
theorem zgvZ {K : AV → AH → Prop} (I : Nat → AV → AV → AV → AV → AV → AH → Prop) (round : ∀ (n : Nat) (x0 x1 x6 x8 x9 : AV) (H : AH) (R : List AV → AH → Prop), (∀ (m : Nat) (y0 y1 y6 y8 y9 : AV) (H' : AH), m < n → I m y0 y1 y6 y8 y9 H' → R [y0, y1, y6, y8, y9] H') → I n x0 x1 x6 x8 x9 H → zcxZ R x0 x1 x6 x8 x9 H K) (n : Nat) {x0 x1 x6 x8 x9 : AV} {H : AH} (h : I n x0 x1 x6 x8 x9 H) : zekZ x0 x1 x6 x8 x9 H K := by
 refine lp_mono (zfdZ _ _) (LI5 I) ?_ n h
 intro n X H h
 obtain ⟨x0, x1, x6, x8, x9, rfl, h⟩ := h.elim
 exact Eq.mpr (zhmZ _ x0 x1 x6 x8 x9 H K) (round n x0 x1 x6 x8 x9 H (fun X H' => ∃ m, m < n ∧ LI5 I m X H') (fun m y0 y1 y6 y8 y9 H' hm hi => ⟨m, hm, hi⟩) h)
def zdzZ (a0 a1 : AV) (H : AH) (K : AV → AH → Prop) : Prop :=
bO (alnS a0) fun v0 =>
bO (abI .gtr v0 (.lit (.int .i64 30))) fun v1 =>
bB v1 fun t2 => bI t2 (
bP (PCall Try.prog 5 [] H) fun v3 =>
K v3 H)
 (bC (BCall Try.prog 9 [(.lit (.int .i64 4096))] H) fun v4 H5 =>
bO (abN .eql nilP v4 (.lit (.pointer none))) fun v6 =>
bB v6 fun t7 => bI t7 (
K (.lit (.bool false)) H5)
 (bC (BCall Try.prog 20 [v4, (.lit (.string ⟨#[120, 45, 49]⟩)), (.lit (.bool true))] H5) fun v8 H9 =>
bO (zdZ v8 0) fun v10 =>
bO (zdZ v8 1) fun v11 =>
bO (abN .eql nilP v10 (.lit (.pointer none))) fun v12 =>
bG v12 false fun w13 =>
gO w13 (some v11) fun v14 =>
bG v12 false fun w15 =>
gO w15 (abI .neq v14 (.lit (.int .i64 0))) fun v16 =>
bO (apick v12 (.lit (.bool true)) v16) fun v17 =>
bB v17 fun t18 => bI t18 (
K (.lit (.bool false)) H9)
 (zekZ a0 a1 v10 (.lit (.string ⟨#[]⟩)) (.lit (.int .i64 0)) H9 K)))
theorem zjwZ (a0 a1 : AV) (H : AH) (K : AV → AH → Prop) : sFun Try.prog zfiZ pqe pqea zflZ zeqZ Try.f6 [a0, a1] H K = zdzZ a0 a1 H K := by kernel_rfl
theorem zjjZ {a0 a1 : AV} {H : AH} {K : AV → AH → Prop} (h : zdzZ a0 a1 H K) : ACalls Try.prog 6 [a0, a1] H K :=
 sFun_wp mixP Try.func6 (by kernel_rfl) (Eq.mpr (zjwZ a0 a1 H K) h)
/-! salvor/salvorlaw14.CursorTwo -/
def zkjZ : Floats := flOf [(17, [(34, none), (36, none)])]
def zkkZ : Nat → Option (List Bool) := kpOf []
def zkiZ : Nat → Bool := inL []
def zeiZ (a0 a1 a2 : AV) (H : AH) (K : AV → AH → Prop) : Prop :=
bO (alnS a0) fun v0 =>
bO (abI .gtr v0 (.lit (.int .i64 100))) fun v1 =>
bG v1 false fun w2 =>
gO w2 (some a1) fun v3 =>
bG v1 false fun w4 =>
gO w4 (alnS v3) fun v5 =>
bG v1 false fun w6 =>
gO w6 (abI .gtr v5 (.lit (.int .i64 100))) fun v7 =>
bO (apick v1 (.lit (.bool true)) v7) fun v8 =>
bB v8 fun t9 => bI t9 (
bP (PCall Try.prog 5 [] H) fun v10 =>
K v10 H)
 (bC (BCall Try.prog 9 [(.lit (.int .i64 200))] H) fun v11 H12 =>
bO (abN .eql nilP v11 (.lit (.pointer none))) fun v13 =>
bB v13 fun t14 => bI t14 (
K (.lit (.bool false)) H12)
 (bC (BCall Try.prog 20 [v11, (.lit (.string ⟨#[97]⟩)), (.lit (.bool true))] H12) fun v15 H16 =>
bO (zdZ v15 0) fun v17 =>
bO (zdZ v15 1) fun v18 =>
bC (BCall Try.prog 20 [v11, (.lit (.string ⟨#[97]⟩)), (.lit (.bool false))] H16) fun v19 H20 =>
bO (zdZ v19 0) fun v21 =>
bO (zdZ v19 1) fun v22 =>
bO (abN .eql nilP v17 (.lit (.pointer none))) fun v23 =>
bG v23 false fun w24 =>
gO w24 (some v21) fun v25 =>
bG v23 false fun w26 =>
gO w26 (abN .eql nilP v25 (.lit (.pointer none))) fun v27 =>
bO (apick v23 (.lit (.bool true)) v27) fun v28 =>
bG v28 false fun w29 =>
gO w29 (some v18) fun v30 =>
bG v28 false fun w31 =>
gO w31 (abI .neq v30 (.lit (.int .i64 0))) fun v32 =>
bO (apick v28 (.lit (.bool true)) v32) fun v33 =>
bG v33 false fun w34 =>
gO w34 (some v22) fun v35 =>
bG v33 false fun w36 =>
gO w36 (abI .neq v35 (.lit (.int .i64 0))) fun v37 =>
bO (apick v33 (.lit (.bool true)) v37) fun v38 =>
bB v38 fun t39 => bI t39 (
K (.lit (.bool false)) H20)
 (bH (absl H20 1 1 (zrow [(.lit (.slice none 0 0))] 1) [(0, 1, a0)]) fun v40 H41 =>
bA (ACalls Try.prog 21 [v17, v40] H41) fun v42 H43 =>
bO (acI .i64 a2) fun v44 =>
bO (alnS a0) fun v45 =>
bO (abI .add v45 (.lit (.int .i64 1))) fun v46 =>
bO (abI .rem v44 v46) fun v47 =>
bO (zcZ v21) fun v48 =>
bO (ashift 0 v48) fun v49 =>
bC (BCall Try.prog 23 [v49, v47] H43) fun v50 H51 =>
bC (BCall Try.prog 24 [v21, (.lit (.int .i64 200))] H51) fun v52 H53 =>
bO (zdZ v52 0) fun v54 =>
bO (zdZ v52 1) fun v55 =>
bC (BCall Try.prog 24 [v17, (.lit (.int .i64 200))] H53) fun v56 H57 =>
bO (zdZ v56 0) fun v58 =>
bO (zdZ v56 1) fun v59 =>
bH (absl H57 1 1 (zrow [(.lit (.slice none 0 0))] 1) [(0, 1, a1)]) fun v60 H61 =>
bA (ACalls Try.prog 21 [v17, v60] H61) fun v62 H63 =>
bO (zdZ v62 0) fun v64 =>
bO (zdZ v62 1) fun v65 =>
bC (BCall Try.prog 24 [v21, (.lit (.int .i64 200))] H63) fun v66 H67 =>
bO (zdZ v66 0) fun v68 =>
bO (zdZ v66 1) fun v69 =>
bG v50 true fun w70 =>
gO w70 (some v54) fun v71 =>
bG v50 true fun w72 =>
gO w72 (acB H67 v71) fun v73 =>
bG v50 true fun w74 =>
gO w74 (some a0) fun v75 =>
bG v50 true fun w76 =>
gO w76 (some v47) fun v77 =>
bG v50 true fun w78 =>
gO w78 (aslS 1 v75 (some v77) none none) fun v79 =>
bG v50 true fun w80 =>
gO w80 (acB H67 v79) fun v81 =>
bG v50 true fun w82 =>
gO w82 (abT .eql v73 v81) fun v83 =>
bO (apick v50 v83 (.lit (.bool false))) fun v84 =>
bG v84 true fun w85 =>
gO w85 (some v58) fun v86 =>
bG v84 true fun w87 =>
gO w87 (alnS v86) fun v88 =>
bG v84 true fun w89 =>
gO w89 (abI .eql v88 (.lit (.int .i64 0))) fun v90 =>
bO (apick v84 v90 (.lit (.bool false))) fun v91 =>
bG v91 true fun w92 =>
gO w92 (some v64) fun v93 =>
bG v91 true fun w94 =>
gO w94 (some a1) fun v95 =>
bG v91 true fun w96 =>
gO w96 (alnS v95) fun v97 =>
bG v91 true fun w98 =>
gO w98 (abI .eql v93 v97) fun v99 =>
bO (apick v91 v99 (.lit (.bool false))) fun v100 =>
bG v100 true fun w101 =>
gO w101 (some v68) fun v102 =>
bG v100 true fun w103 =>
gO w103 (acB H67 v102) fun v104 =>
bG v100 true fun w105 =>
gO w105 (some a1) fun v106 =>
bG v100 true fun w107 =>
gO w107 (acB H67 v106) fun v108 =>
bG v100 true fun w109 =>
gO w109 (abT .eql v104 v108) fun v110 =>
bO (apick v100 v110 (.lit (.bool false))) fun v111 =>
bG v111 true fun w112 =>
gO w112 (some v17) fun v113 =>
bG v111 true fun w114 =>
gO w114 (zcZ v113) fun v115 =>
bG v111 true fun w116 =>
gO w116 (ashift 0 v115) fun v117 =>
bG v111 true fun w118 =>
gC w118 (BCall Try.prog 22 [v117] H67) H67 fun v119 H120 =>
bG v111 true fun w121 =>
gO w121 (some a0) fun v122 =>
bG v111 true fun w123 =>
gO w123 (alnS v122) fun v124 =>
bG v111 true fun w125 =>
gO w125 (some a1) fun v126 =>
bG v111 true fun w127 =>
gO w127 (alnS v126) fun v128 =>
bG v111 true fun w129 =>
gO w129 (abI .add v124 v128) fun v130 =>
bG v111 true fun w131 =>
gO w131 (abI .eql v119 v130) fun v132 =>
bO (apick v111 v132 (.lit (.bool false))) fun v133 =>
bG v133 true fun w134 =>
gO w134 (some v21) fun v135 =>
bG v133 true fun w136 =>
gO w136 (zcZ v135) fun v137 =>
bG v133 true fun w138 =>
gO w138 (ashift 0 v137) fun v139 =>
bG v133 true fun w140 =>
gC w140 (BCall Try.prog 22 [v139] H120) H120 fun v141 H142 =>
bG v133 true fun w143 =>
gO w143 (some v17) fun v144 =>
bG v133 true fun w145 =>
gO w145 (zcZ v144) fun v146 =>
bG v133 true fun w147 =>
gO w147 (ashift 0 v146) fun v148 =>
bG v133 true fun w149 =>
gC w149 (BCall Try.prog 22 [v148] H142) H142 fun v150 H151 =>
bG v133 true fun w152 =>
gO w152 (abI .eql v141 v150) fun v153 =>
bO (apick v133 v153 (.lit (.bool false))) fun v154 =>
bG v154 true fun w155 =>
gP w155 (BPure Try.prog 5 []) fun v156 =>
bO (apick v154 v156 (.lit (.bool false))) fun v157 =>
(bG v111 true fun w => bI w (alnS v122 = some v124) True) ∧
(bG v111 true fun w => bI w (alnS v126 = some v128) True) ∧
K v157 H151)))
theorem zkmZ (a0 a1 a2 : AV) (H : AH) (K : AV → AH → Prop) : sFun Try.prog zkjZ pqe pqea zkiZ zkkZ Try.f7 [a0, a1, a2] H K = zeiZ a0 a1 a2 H K := by kernel_rfl
theorem zknZ {a0 a1 a2 : AV} {H : AH} {K : AV → AH → Prop} (h : zeiZ a0 a1 a2 H K) : ACalls Try.prog 7 [a0, a1, a2] H K :=
 sFun_wp mixP Try.func7 (by kernel_rfl) (Eq.mpr (zkmZ a0 a1 a2 H K) h)
end Go.Proofs.Ytofgloiebnppbaa.Av
end
/-! YtofgloiebnppbaaAvOff -/
section
/- Chapter 1's functions, told: the program's and the reference's. -/
set_option linter.unusedVariables false
set_option linter.unusedSimpArgs false
namespace Go.Proofs.Ytofgloiebnppbaa.Av
open Go Go.RowKit

def May (n : Int) : Prop := 0 ≤ n ∧ n ≤ 4611686018427387904
instance (n : Int) : Decidable (May n) := by unfold May; infer_instance
theorem off_May_p (n : Int) : BPure Try.prog 46 [I n] (B (decide (May n))) := BPure.flat fun H => off_May_ok (by
 unfold off_May
 by_cases h1 : 0 ≤ n <;> by_cases h2 : n ≤ 4611686018427387904 <;> simp [May, h1, h2])

/-! spans -/
structure Sp where
 pos : Int
 len : Int
 deriving DecidableEq, Inhabited
def encSp (s : Sp) : List AV := [I s.pos, I s.len]
theorem encSp_len (s : Sp) : (encSp s).length = 2 := rfl
def MaySpan (s : Sp) : Prop := May s.pos ∧ May s.len ∧ s.len ≤ 4611686018427387904 - s.pos
instance (s : Sp) : Decidable (MaySpan s) := by unfold MaySpan; infer_instance
theorem zhjZ (s : Sp) : BPure Try.prog 50 [.agg (encSp s)] (B (decide (MaySpan s))) := BPure.val rfl rfl (off_MaySpan_ok (by
 unfold off_MaySpan
 obtain ⟨p, n⟩ := s
 simp [encSp, ald_ptr']
 refine bP_pure (off_May_p _) ?_
 by_cases h1 : May p
 ·have h1' := h1
  unfold May at h1'
  simp [h1]
  refine bP_pure (off_May_p _) ?_
  by_cases h2 : May n
  ·simp [h2, abI_sub (a := 4611686018427387904) (b := p) (by omega) (by omega), MaySpan, h1]
  ·simp [h2, MaySpan]
 ·simp [h1, MaySpan]))
def meet (a b : Sp) : Sp :=
 if MaySpan a ∧ MaySpan b ∧ max a.pos b.pos < min (a.pos + a.len) (b.pos + b.len) then ⟨max a.pos b.pos, min (a.pos + a.len) (b.pos + b.len) - max a.pos b.pos⟩ else ⟨0, 0⟩
theorem off_Meet_p (a b : Sp) : BPure Try.prog 62 [.agg (encSp a), .agg (encSp b)] (.agg (encSp (meet a b))) := BPure.val rfl rfl (off_Meet_ok (by
 unfold off_Meet
 simp [encSp, ald_ptr', rdCells]
 refine bP_pure (zhjZ a) ?_
 by_cases h1 : MaySpan a
 ·simp [h1]
  refine bP_pure (zhjZ b) ?_
  by_cases h2 : MaySpan b
  ·have h1' := h1
   have h2' := h2
   simp only [MaySpan, May] at h1' h2'
   obtain ⟨p, n⟩ := a
   obtain ⟨q, m⟩ := b
   simp only at h1' h2'
   simp [h2, abI_add (a := p) (b := n) (by omega) (by omega), abI_add (a := q) (b := m) (by omega) (by omega)]
   by_cases h3 : max p q < min (p + n) (q + m)
   ·have h3' : ¬ min (q + m) (p + n) ≤ max q p := by omega
    simp [h3', abI_sub (a := min (q + m) (p + n)) (b := max q p) (by omega) (by omega), ast, meet, h1, h2, h3]
    omega
   ·have h3' : min (q + m) (p + n) ≤ max q p := by omega
    simp [h3', ast, meet, h3]
  ·simp [h2, ast, meet]
 ·simp [h1, ast, meet]))
theorem eqSp_a (a b c d : Int) : abin Try.prog .eql 78 (.agg [I a, I b]) (.agg [I c, I d]) = some (B (a == c && (b == d && true))) := by kernel_rfl
theorem sp_beq (x y : Sp) : (x.pos == y.pos && (x.len == y.len && true)) = decide (x = y) := by
 obtain ⟨a, b⟩ := x
 obtain ⟨c, d⟩ := y
 by_cases h1 : a = c <;> by_cases h2 : b = d <;> simp [h1, h2]
theorem eqSp (x y : Sp) : abin Try.prog .eql 78 (.agg (encSp x)) (.agg (encSp y)) = some (B (decide (x = y))) := by rw [← sp_beq]; exact eqSp_a _ _ _ _
def Within (a b : Sp) : Prop := MaySpan a ∧ MaySpan b ∧ (a.len = 0 ∨ meet a b = a)
instance (a b : Sp) : Decidable (Within a b) := by unfold Within; infer_instance
theorem off_Within_p (a b : Sp) : BPure Try.prog 97 [.agg (encSp a), .agg (encSp b)] (B (decide (Within a b))) := BPure.val rfl rfl (off_Within_ok (by
 unfold off_Within
 simp [encSp, ald_ptr', rdCells]
 refine bP_pure (zhjZ a) ?_
 by_cases h1 : MaySpan a
 ·simp [h1]
  refine bP_pure (zhjZ b) ?_
  by_cases h2 : MaySpan b
  ·by_cases h3 : a.len = 0
   ·simp [h2, h3, Within, h1]
   ·simp [h2, h3, Within, h1]
    refine bP_of (off_Meet_p a b) ?_
    have := eqSp (meet a b) a
    simp only [encSp] at this ⊢
    simp [this]
  ·simp [h2, Within]
 ·simp [h1, Within]))

/-! lists of numbers -/
/-! cut at multiples -/
def cutsS : Nat → Int → Int → Int → List Sp
 | 0, _, _, _ => []
 | f + 1, pos, len, unit => if 0 < len then ⟨pos, min len (unit - pos % unit)⟩ :: cutsS f (pos + min len (unit - pos % unit)) (len - min len (unit - pos % unit)) unit else []
def partsS (s : Sp) (unit : Int) : List Sp := if MaySpan s ∧ s.len ≤ 4096 ∧ 1 ≤ unit then cutsS s.len.toNat s.pos s.len unit else []
theorem cutsS_step {f : Nat} {pos len unit : Int} (hf : len.toNat ≤ f) (hl : 0 < len) (hp : 0 ≤ pos) (hu : 1 ≤ unit) : cutsS f pos len unit = ⟨pos, min len (unit - pos % unit)⟩ :: cutsS (len - min len (unit - pos % unit)).toNat (pos + min len (unit - pos % unit)) (len - min len (unit - pos % unit)) unit := by
 induction f using Nat.strongRecOn generalizing pos len with
 | _ f ih =>
  have h1 := Int.emod_lt_of_pos pos (show 0 < unit by omega)
  have h2 := Int.emod_nonneg pos (show unit ≠ 0 by omega)
  cases f with
  | zero => omega
  | succ f =>
   simp only [cutsS, hl, if_true]
   congr 1
   have hm : 1 ≤ min len (unit - pos % unit) := by omega
   generalize min len (unit - pos % unit) = m at *
   have more : ∀ (a b : Nat) (p n : Int), n.toNat ≤ a → n.toNat ≤ b → 0 ≤ p → cutsS a p n unit = cutsS b p n unit := by
    intro a
    induction a with
    | zero =>
     intro b p n ha hb hp
     cases b with
     | zero => rfl
     | succ b => simp only [cutsS]; rw [if_neg (by omega)]
    | succ a iha =>
     intro b p n ha hb hp
     have h1 := Int.emod_lt_of_pos p (show 0 < unit by omega)
     have h2 := Int.emod_nonneg p (show unit ≠ 0 by omega)
     cases b with
     | zero => simp only [cutsS]; rw [if_neg (by omega)]
     | succ b =>
      simp only [cutsS]
      split
      ·rw [iha b _ _ (by omega) (by omega) (by omega)]
      ·rfl
   exact more _ _ _ _ (by omega) (by omega) (by omega)
theorem cutsS_stop {f : Nat} {pos len unit : Int} (hl : ¬ 0 < len) : cutsS f pos len unit = [] := by
 cases f with
 | zero => rfl
 | succ f => simp only [cutsS, if_neg hl]
theorem noIdss_sp (l : List Sp) : noIdss (l.flatMap encSp) = true := by
 induction l with
 | nil => rfl
 | cons a l ih => rw [List.flatMap_cons]; simp [encSp, noIdss, noIds]; simpa [encSp] using ih
theorem off_Parts_p (s : Sp) {unit : Int} (hu : unit ≤ 9223372036854775807) : ∃ v, SV encSp 2 (partsS s unit) v ∧ BPure Try.prog 34 [.agg (encSp s), I unit] v := by
 refine BPure.sl (sz := 2) rfl (noIdss_sp _) (off_Parts_ok ?_)
 unfold off_Parts
 obtain ⟨p, n⟩ := s
 simp [encSp, rdCells]
 refine bP_pure (zhjZ ⟨p, n⟩) ?_
 by_cases h1 : MaySpan ⟨p, n⟩
 ·simp [h1]
  by_cases h2 : 4096 < n
  ·have : partsS ⟨p, n⟩ unit = [] := if_neg (by simp only; omega)
   simp [h2, this, zaZ]
  ·simp [h2]
   by_cases h3 : unit < 1
   ·have : partsS ⟨p, n⟩ unit = [] := if_neg (by omega)
    simp [h3, this, zaZ]
   ·simp [h3]
    have hP : partsS ⟨p, n⟩ unit = cutsS n.toNat p n unit := if_pos ⟨h1, by simp only; omega, by omega⟩
    simp only [MaySpan, May] at h1
    refine off_Parts_L6_rule (fun k x1 x2 x5 H => ∃ (pos len : Int) (l : List Sp), k = len.toNat ∧ x1 = I unit ∧ x2 = .ptr 0 0 ∧ H[0]? = some (some (.cells [I pos, I len])) ∧ ownedS x5 = true ∧ zaZ H 2 x5 = some (l.flatMap encSp, l.length) ∧ 0 ∉ idS x5 ∧
     0 ≤ pos ∧ 0 ≤ len ∧ pos + len ≤ 4611686018427387904 ∧ (l.length : Int) + len ≤ 4096 ∧ l ++ cutsS len.toNat pos len unit = cutsS n.toNat p n unit) ?_ n.toNat
     ⟨p, n, [], rfl, rfl, rfl, rfl, rfl, rfl, by simp [idS], by omega, by omega, by omega, by simp; omega, rfl⟩
    rintro k x1 x2 x5 H R hR ⟨pos, len, l, rfl, rfl, rfl, hH, ho, hs, hid, hp, hl, hpl, hll, hc⟩
    unfold zkvZ
    have e1 := Int.emod_lt_of_pos pos (show 0 < unit by omega)
    have e2 := Int.emod_nonneg pos (show unit ≠ 0 by omega)
    by_cases hlen : 0 < len
    ·rw [cutsS_step (Nat.le_refl _) hlen hp (by omega)] at hc
     have hcomm : min (unit - pos % unit) len = min len (unit - pos % unit) := by omega
     have hm1 : 1 ≤ min len (unit - pos % unit) := by omega
     have hm2 : min len (unit - pos % unit) ≤ len := by omega
     generalize min len (unit - pos % unit) = m at hcomm hm1 hm2 hc
     have hH0 := (List.getElem?_eq_some_iff.1 hH).1
     have hs1 : zaZ (H ++ [some (.cells [I pos, I m])]) 2 x5 = some (l.flatMap encSp, l.length) := zbZ hs fun i hi => List.getElem?_append_left (zoZ hs i hi)
     obtain ⟨r, H2, a1, a2, a3, a4, a5, a6⟩ := aap_spec (bytes := 16) hs1 ho (zwZ (v := .sl H.length 0 1 2 (.ex 1)) (q := ([I pos, I m], 1)) (by simp [zaZ])) (by omega)
     have hH2 : H2[0]? = some (some (.cells [I pos, I len])) := by
      rw [a5 0 (by simp) hid, List.getElem?_append_left hH0]; exact hH
     have hid2 : 0 ∉ idS r := fun hi => (a6 0 hi).elim hid (by simp)
     have hH20 := (List.getElem?_eq_some_iff.1 hH2).1
     have keep : ∀ c, zaZ (H2.set 0 c) 2 r = some ((l ++ [(⟨pos, m⟩ : Sp)]).flatMap encSp, (l ++ [(⟨pos, m⟩ : Sp)]).length) := fun c => by
      rw [zbZ a3 (fun i hi => List.getElem?_set_ne (by rintro rfl; exact hid2 hi))]
      simp [encSp]
     simp [hH, hlen, abI_rem (a := pos) (b := unit) (by omega) (by omega), abI_sub (a := unit) (b := pos % unit) (by omega) (by omega), hcomm, a1, hH2, abI_add (a := pos) (b := m) (by omega) (by omega), abI_sub (a := len) (b := m) (by omega) (by omega), ast]
     refine hR (len - m).toNat _ _ _ _ (by omega) ?_
     exact ⟨pos + m, len - m, l ++ [(⟨pos, m⟩ : Sp)], rfl, rfl, rfl, by simp [hH20], a2, keep _, hid2, by omega, by omega, by omega, by simp; omega, by simpa using hc⟩
    ·rw [cutsS_stop hlen, List.append_nil] at hc
     simp [hH, hlen]
     rw [hP, ← hc]
     exact hs
 ·have : partsS ⟨p, n⟩ unit = [] := if_neg (fun h => h1 h.1)
  simp [h1, this, zaZ]

/-! multiples -/
def down (n unit : Int) : Int := if May n ∧ 1 ≤ unit then n - n % unit else 0
def up (n unit : Int) : Option Int := if May n ∧ 1 ≤ unit then if n % unit = 0 then some n else if n - n % unit + unit ≤ 4611686018427387904 then some (n - n % unit + unit) else none else none
def Within' (a b : Sp) : Prop := MaySpan a ∧ MaySpan b ∧ (a.len = 0 ∨ (b.pos ≤ a.pos ∧ a.pos + a.len ≤ b.pos + b.len))
instance (a b : Sp) : Decidable (Within' a b) := by unfold Within'; infer_instance
theorem within_iff (a b : Sp) : Within a b ↔ Within' a b := by
 unfold Within Within'
 by_cases h1 : MaySpan a <;> by_cases h2 : MaySpan b <;> simp [h1, h2]
 have h1' := h1
 have h2' := h2
 simp only [MaySpan, May] at h1' h2'
 by_cases h0 : a.len = 0
 ·simp [h0]
 ·simp only [h0, false_or]
  unfold meet
  obtain ⟨p, n⟩ := a
  obtain ⟨q, m⟩ := b
  simp only at h1' h2' h0 ⊢
  split
  ·rename_i h; simp only [Sp.mk.injEq]; omega
  ·rename_i h
   simp only [h1, h2, true_and] at h
   simp only [Sp.mk.injEq]
   omega
end Go.Proofs.Ytofgloiebnppbaa.Av
end
/-! YtofgloiebnppbaaAvJ -/
section
/- Bytes and texts. -/
set_option linter.unusedVariables false
set_option linter.unusedSimpArgs false
namespace Go.Proofs.Ytofgloiebnppbaa.Av
open Go Go.RowKit

def encB (l : List UInt8) : List AV := l.map fun b => .lit (.int .u8 b.toNat)
theorem encB_app (a b : List UInt8) : encB (a ++ b) = encB a ++ encB b := by simp [encB]
theorem encB_len (a : List UInt8) : (encB a).length = a.length := by simp [encB]
theorem encB_take (a : List UInt8) (n : Nat) : (encB a).take n = encB (a.take n) := by simp [encB]
theorem encB_drop (a : List UInt8) (n : Nat) : (encB a).drop n = encB (a.drop n) := by simp [encB]
theorem encB_get (a : List UInt8) (n : Nat) : (encB a)[n]? = (a[n]?).map fun b => .lit (.int .u8 b.toNat) := by simp [encB]
def encU (b : UInt8) : List AV := [.lit (.int .u8 b.toNat)]
theorem flat_encU (l : List UInt8) : l.flatMap encU = encB l := by
 induction l with
 | nil => rfl
 | cons a l ih => rw [List.flatMap_cons, ih]; rfl
theorem noIdss_encB (l : List UInt8) : noIdss (encB l) = true := by
 induction l with
 | nil => rfl
 | cons a l ih => simpa [encB, noIdss, noIds] using ih
def bstr (l : List UInt8) : ByteArray := ⟨l.toArray⟩
theorem bstr_size (l : List UInt8) : (bstr l).size = l.length := rfl
theorem bstr_app (a b : List UInt8) : bstr a ++ bstr b = bstr (a ++ b) := by
 have : (bstr a ++ bstr b).data = (bstr (a ++ b)).data := by simp [bstr]
 cases h : bstr a ++ bstr b; rw [h] at this; simp only at this; rw [this]
theorem toList_loop (s : ByteArray) : ∀ (n i : Nat) (r : List UInt8), s.size - i = n → ByteArray.toList.loop s i r = r.reverse ++ s.data.toList.drop i := by
  intro n
  induction n with
  | zero =>
    intro i r h
    unfold ByteArray.toList.loop
    rw [if_neg (by omega), List.drop_of_length_le (by have : s.data.toList.length = s.size := by rw [Array.length_toList]; rfl
                                                      omega)]
    simp
  | succ n ih =>
    intro i r h
    unfold ByteArray.toList.loop
    have hi : i < s.size := by omega
    rw [if_pos hi, ih (i + 1) _ (by omega)]
    have hl : i < s.data.toList.length := by rw [Array.length_toList]; exact hi
    rw [List.drop_eq_getElem_cons hl]
    simp [ByteArray.get!, getElem!_def]
    have : s.data[i]? = some s.data[i] := Array.getElem?_eq_getElem hi
    simp [this]
theorem toList_data (s : ByteArray) : s.toList = s.data.toList := by
 unfold ByteArray.toList
 rw [toList_loop s s.size 0 [] (by simp)]
 simp
theorem bstr_toList (l : List UInt8) : (bstr l).toList = l := by rw [toList_data]; simp [bstr]
theorem avInts_encB (l : List UInt8) : avInts (encB l) = some (l.map fun b => (b.toNat : Int)) := by
 induction l with
 | nil => rfl
 | cons a l ih =>
  have : encB (a :: l) = .lit (.int .u8 a.toNat) :: encB l := rfl
  rw [this]; simp only [avInts, ih]; rfl
theorem pushAll_bytes (l : List UInt8) : pushAll (l.map fun b => (b.toNat : Int)) = bstr l := by
 unfold pushAll
 rw [foldl_push_byteCells]
 unfold bstr
 have : (ByteArray.empty.data ++ l.toArray) = l.toArray := by
  apply Array.ext'
  simp [ByteArray.empty, ByteArray.emptyWithCapacity]
  try rfl
 rw [this]
theorem acB_spec {H : AH} {x : AV} {l : List UInt8} {n : Nat} (h : zaZ H 1 x = some (encB l, n)) : acB H x = some (S (bstr l)) := by
 unfold acB
 split
 ·simp [zaZ] at h
 ·rw [h]; simp only [avInts_encB]; rw [← pushAll_bytes]; rfl
theorem abT_eql {a b : List UInt8} : abT .eql (S (bstr a)) (S (bstr b)) = some (B (decide (a = b))) := by
 simp only [abT, astr2, bstr_toList, Option.map_some]
 by_cases h : a = b <;> simp [h]
theorem abT_add {a b : List UInt8} (h : a.length + b.length ≤ 9223372036854775807) : abT .add (S (bstr a)) (S (bstr b)) = some (S (bstr (a ++ b))) := by
 unfold abT astr2
 have h1 : ¬ (((bstr a).size + (bstr b).size : Nat) : Int) > 9223372036854775807 := by rw [bstr_size, bstr_size]; omega
 simp only [if_neg h1, bstr_app]
 rfl
theorem bstr_nil : (⟨#[]⟩ : ByteArray) = bstr [] := rfl
theorem SV.bytes {l : List UInt8} {v : AV} (h : SV encU 1 l v) (H : AH) : zaZ H 1 v = some (encB l, l.length) := by rw [h.2 H, flat_encU]
theorem SV.noId {α : Type} {enc : α → List AV} {sz : Nat} {l : List α} {v : AV} (h : SV enc sz l v) : idS v = [] := by
 have := h.1
 cases v <;> simp [idS, noIds] at this ⊢
end Go.Proofs.Ytofgloiebnppbaa.Av
end
/-! YtofgloiebnppbaaAvExt -/
section
/- Chapter 11: blocks and contents; which may be, what is read, where data and holes are. -/
set_option linter.unusedVariables false
set_option linter.unusedSimpArgs false
set_option maxRecDepth 100000
namespace Go.Proofs.Ytofgloiebnppbaa.Av
open Go Go.RowKit

structure Ext where
 no : Int
 b : List UInt8
 hb : b.length = 8
 deriving DecidableEq
def encE (x : Ext) : List AV := I x.no :: encB x.b
theorem zbtZ (x : Ext) : (encE x).length = 9 := by simp [encE, encB_len, x.hb]
theorem encB_all (l : List UInt8) : (encB l).all oneA = true := by simp [encB]
@[simp] theorem encE_all (x : Ext) : (encE x).all oneA = true := by
 show (oneA (I x.no) && (encB x.b).all oneA) = true
 rw [encB_all]; rfl
theorem zjcZ (x : Ext) : noIdss (encE x) = true := by
 show noIdss (I x.no :: encB x.b) = true
 simp [noIdss, noIds, noIdss_encB]
@[simp] theorem encE_no (x : Ext) (t : List AV) : (encE x ++ t)[0]? = some (I x.no) := rfl
@[simp] theorem encE_no' (x : Ext) : (encE x)[0]? = some (I x.no) := rfl
@[simp] theorem rd_b (x : Ext) : rdCells true 8 (encE x) 1 = some (.agg (encB x.b)) := by
 have := x.hb
 simp [rdCells, encE, encB_len, this, List.take_of_length_le]
@[simp] theorem rd_e (x : Ext) (t : List AV) : rdCells true 9 (encE x ++ t) 0 = some (.agg (encE x)) := by
 have := zbtZ x
 simp [rdCells, this, List.take_append_of_le_length]
@[simp] theorem rd_e' (x : Ext) : rdCells true 9 (encE x) 0 = some (.agg (encE x)) := by
 have := zbtZ x
 simp [rdCells, this, List.take_of_length_le]
theorem aiv_b {b : List UInt8} {k : Nat} {y : UInt8} (h : b[k]? = some y) (hk : k < 8) : aivA false 1 8 1 (.agg (encB b)) (I k) = some (.lit (.int .u8 y.toNat)) := by
 have : (k : Int) < 8 := by omega
 simp [aivA, aint, this, encB_get, h]
theorem ast_e {H : AH} {z : List AV} {x : Ext} {o : Nat} (ho : o = H.length) (hz : z.length = 9) : ast 9 (H ++ [some (.cells z)]) (.ptr o 0) (.agg (encE x)) = some (H ++ [some (.cells (encE x))]) := by
 have := zbtZ x
 have e : splice z 0 (encE x) = encE x := by
  have hb : (encB x.b).length = 8 := by rw [encB_len, x.hb]
  unfold encE
  cases hB : encB x.b with
  | nil => rw [hB] at hb; simp at hb
  | cons a r => rw [hB] at hb; simp at hb; simp [splice, hz, hb]
 simp [ast, ho, this, hz, e, -splice]
theorem u8z {y : UInt8} : (y.toNat = 0) = (y = 0) := by
 refine propext ⟨fun h => ?_, fun h => by rw [h]; rfl⟩
 apply UInt8.toNat_inj.1
 rw [h]; rfl
def cleanB (size : Int) : Int → List UInt8 → Prop
 | _, [] => True
 | p, b :: r => (b ≠ 0 → p < size) ∧ cleanB size (p + 1) r
instance cleanB.dec (size : Int) : ∀ (p : Int) (l : List UInt8), Decidable (cleanB size p l)
 | _, [] => Decidable.isTrue True.intro
 | p, b :: r => by
  have := cleanB.dec size (p + 1) r
  unfold cleanB; infer_instance
def cleanE (size : Int) (x : Ext) : Prop := cleanB size (x.no * 8) x.b
instance (size : Int) (x : Ext) : Decidable (cleanE size x) := by unfold cleanE; infer_instance
def okL (size : Int) : Int → List Ext → Prop
 | _, [] => True
 | p, x :: r => p < x.no ∧ x.no < 137438953472 ∧ cleanE size x ∧ okL size x.no r
instance okL.dec (size : Int) : ∀ (p : Int) (l : List Ext), Decidable (okL size p l)
 | _, [] => Decidable.isTrue True.intro
 | p, x :: r => by
  have := okL.dec size x.no r
  unfold okL; infer_instance
theorem okL_cons {size p : Int} {x : Ext} {r : List Ext} : okL size p (x :: r) = (p < x.no ∧ x.no < 137438953472 ∧ cleanE size x ∧ okL size x.no r) := rfl
theorem okL_nil {size p : Int} : okL size p [] = True := rfl
def mayC (size : Int) (l : List Ext) : Prop := 0 ≤ size ∧ size ≤ 1099511627776 ∧ okL size (-1) l
instance (size : Int) (l : List Ext) : Decidable (mayC size l) := by unfold mayC; infer_instance
theorem drop_cons {α : Type} {l : List α} {k : Nat} {y : α} (h : l[k]? = some y) : l.drop k = y :: l.drop (k + 1) := by
 obtain ⟨hk, e⟩ := List.getElem?_eq_some_iff.1 h
 rw [List.drop_eq_getElem_cons hk, e]

theorem extent_clean_p (x : Ext) (size : Int) (h0 : -1 ≤ x.no) (h1 : x.no < 137438953472) : BPure Try.prog 85 [.agg (encE x), I size] (B (decide (cleanE size x))) := BPure.val (by simp [noIdss, noIds, zjcZ]) rfl (extent_clean_ok (by
 unfold extent_clean
 simp
 refine extent_clean_L3_rule (fun n x1 x2 x8 x9 H' => ∃ k : Nat, k + n = 8 ∧ x1 = I size ∧ x2 = .ptr 0 0 ∧ x8 = .agg (encB x.b) ∧ x9 = I k ∧ H' = [some (.cells (encE x))] ∧ (cleanE size x ↔ cleanB size (x.no * 8 + k) (x.b.drop k))) ?_ 8 ⟨0, rfl, rfl, rfl, rfl, rfl, rfl, by simp [cleanE]⟩
 rintro n x1 x2 x8 x9 H' R hR ⟨k, hk, rfl, rfl, rfl, rfl, rfl, hm⟩
 unfold zhpZ
 rcases Nat.lt_or_ge k 8 with hlt | hge
 ·have hlt' : (k : Int) < 8 := by omega
  have hx := List.getElem?_eq_getElem (l := x.b) (i := k) (by rw [x.hb]; exact hlt)
  generalize x.b[k]'(by rw [x.hb]; exact hlt) = y at hx
  rw [drop_cons hx] at hm
  unfold cleanB at hm
  simp [hlt', aiv_b hx hlt, u8z]
  have hkk : (k : Int) + 1 = ((k + 1 : Nat) : Int) := by omega
  by_cases hy : y = 0
  ·simp [hy, abI_add (a := k) (b := 1) (by omega) (by omega)]
   refine hR (n - 1) _ _ _ _ _ (by omega) ⟨k + 1, by omega, rfl, rfl, rfl, rfl, rfl, ?_⟩
   rw [hm]
   simp [hy, Int.add_assoc]
  ·simp [hy, abI_mul (a := x.no) (b := 8) (by omega) (by omega), abI_add (a := x.no * 8) (b := k) (by omega) (by omega)]
   by_cases hs : size ≤ x.no * 8 + k
   ·have : ¬ cleanE size x := by rw [hm]; intro h; have := h.1 hy; omega
    simp [hs, this]
   ·simp [hs, abI_add (a := k) (b := 1) (by omega) (by omega)]
    refine hR (n - 1) _ _ _ _ _ (by omega) ⟨k + 1, by omega, rfl, rfl, rfl, rfl, rfl, ?_⟩
    rw [hm]
    simp [hy, Int.add_assoc]
    omega
 ·have : k = 8 := by omega
  subst this
  have e : x.b.drop 8 = [] := by rw [List.drop_eq_nil_iff, x.hb]; omega
  rw [e] at hm
  simp only [cleanB, iff_true] at hm
  simp [hm]))

theorem oneA_sv {α : Type} {enc : α → List AV} {sz : Nat} {l : List α} {v : AV} (hv : SV enc sz l v) : oneA v = true := by
 have h1 := hv.1
 have h2 := hv.2 []
 cases v with
 | lit a => cases a <;> first | rfl | (simp [zaZ] at h2)
 | _ => first | rfl | (simp [zaZ] at h2)
theorem zksZ (no : Int) (h0 : 0 ≤ no) (h1 : no < 137438953472) : BPure Try.prog 63 [I no] (.agg (encSp ⟨no * 8, 8⟩)) := BPure.val (by simp [noIdss, noIds]) rfl (extent_whole_ok (by
 unfold extent_whole
 simp [abI_mul (a := no) (b := 8) (by omega) (by omega), ast, rdCells, encSp]))
theorem zhdZ {size : Int} {l : List Ext} {v : AV} (hv : SV encE 9 l v) (hl : l.length ≤ 281474976710656) : BPure Try.prog 61 [.agg [I size, v]] (B (decide (mayC size l))) := BPure.val (by simp [noIdss, noIds, hv.1]) rfl (extent_May_ok (by
 unfold extent_May
 simp [oneA_sv hv]
 by_cases h1 : size < 0
 ·have : ¬ mayC size l := fun h => by have := h.1; omega
  simp [h1, this]
 ·by_cases h2 : 1099511627776 < size
  ·have : ¬ mayC size l := fun h => by have := h.2.1; omega
   simp [h1, h2, this]
  ·simp [h1, h2, hv.len]
   have hm : mayC size l ↔ okL size (-1) l := by unfold mayC; constructor <;> intro h <;> simp_all <;> omega
   have e : decide (mayC size l) = decide (okL size (-1) l) := decide_eq_decide.2 hm
   rw [e]
   refine extent_May_L7_rule (fun n x1 x3 x15 x16 x17 H' => ∃ (k : Nat) (p : Int), k + n = l.length ∧ x1 = .ptr 0 0 ∧ x3 = I p ∧ x15 = v ∧ x16 = I l.length ∧ x17 = I k ∧ (∃ X, H' = some (.cells [I size, v]) :: X) ∧ -1 ≤ p ∧ (okL size (-1) l ↔ okL size p (l.drop k))) ?_ l.length ⟨0, -1, by simp, rfl, rfl, rfl, rfl, rfl, ⟨[], rfl⟩, by omega, by simp⟩
   rintro n x1 x3 x15 x16 x17 H' R hR ⟨k, p, hk, rfl, rfl, rfl, rfl, rfl, ⟨X, rfl⟩, hp, hm⟩
   unfold zjiZ
   rcases Nat.lt_or_ge k l.length with hlt | hge
   ·have hx := List.getElem?_eq_getElem hlt
    generalize l[k] = y at hx
    rw [drop_cons hx] at hm
    rw [okL_cons] at hm
    simp [hlt, hv.idx zbtZ hx rfl, -ald_ptr']
    rw [← List.cons_append, ast_e (by simp) (by rfl)]
    simp
    by_cases c1 : y.no ≤ p
    ·have : ¬ okL size (-1) l := by rw [hm]; intro h; omega
     simp [c1, this]
    ·by_cases c2 : 137438953472 ≤ y.no
     ·have : ¬ okL size (-1) l := by rw [hm]; intro h; omega
      simp [c1, c2, this]
     ·simp [c1, c2]
      refine bP_pure (extent_clean_p y size (by omega) (by omega)) ?_
      by_cases c3 : cleanE size y
      ·simp [c3, abI_add (a := k) (b := 1) (by omega) (by omega)]
       refine hR (n - 1) _ _ _ _ _ _ (by omega) ⟨k + 1, y.no, by omega, rfl, rfl, rfl, rfl, rfl, ⟨X ++ [some (.cells (encE y))], rfl⟩, by omega, ?_⟩
       rw [hm]
       exact ⟨fun h => h.2.2.2, fun h => ⟨by omega, by omega, c3, h⟩⟩
      ·have : ¬ okL size (-1) l := by rw [hm]; intro h; exact c3 h.2.2.1
       simp [c3, this]
   ·have : k = l.length := by omega
    subst this
    rw [List.drop_length] at hm
    simp only [okL_nil, iff_true] at hm
    simp [hm]))

end Go.Proofs.Ytofgloiebnppbaa.Av
end
/-! YtofgloiebnppbaaAvExtR -/
section
/- Chapter 11: where a block lies, which contents are one, where data and holes are. -/
set_option linter.unusedVariables false
set_option linter.unusedSimpArgs false
set_option maxRecDepth 100000
namespace Go.Proofs.Ytofgloiebnppbaa.Av
open Go Go.RowKit

/-! rising blocks -/
def srt (l : List Ext) : Prop := l.Pairwise fun a b => a.no < b.no
theorem okL_all {size : Int} : ∀ {l : List Ext} {p : Int}, okL size p l → ∀ x ∈ l, p < x.no ∧ x.no < 137438953472 ∧ cleanE size x
 | [], p, h => by simp
 | a :: r, p, h => by
  rw [okL_cons] at h
  intro x hx
  rcases List.mem_cons.1 hx with rfl | hx
  ·exact ⟨h.1, h.2.1, h.2.2.1⟩
  ·have := okL_all h.2.2.2 x hx
   exact ⟨by omega, this.2⟩
theorem okL_srt {size : Int} : ∀ {l : List Ext} {p : Int}, okL size p l → srt l
 | [], p, h => List.Pairwise.nil
 | a :: r, p, h => by
  rw [okL_cons] at h
  exact List.Pairwise.cons (fun b hb => (okL_all h.2.2.2 b hb).1) (okL_srt h.2.2.2)
theorem srt_get {l : List Ext} (h : srt l) {i j : Nat} {x y : Ext} (hi : l[i]? = some x) (hj : l[j]? = some y) (hij : i < j) : x.no < y.no := by
 obtain ⟨h1, e1⟩ := List.getElem?_eq_some_iff.1 hi
 obtain ⟨h2, e2⟩ := List.getElem?_eq_some_iff.1 hj
 have := List.pairwise_iff_getElem.1 h i j h1 h2 hij
 rw [e1, e2] at this; exact this
def posL (l : List Ext) (no : Int) : Nat := (l.takeWhile fun x => decide (x.no < no)).length
def hasL (l : List Ext) (no : Int) : Prop := ∃ x ∈ l, x.no = no
instance (l : List Ext) (no : Int) : Decidable (hasL l no) := by unfold hasL; infer_instance
theorem posL_eq {no : Int} : ∀ {l : List Ext} {i : Nat}, i ≤ l.length → (∀ m x, m < i → l[m]? = some x → x.no < no) → (∀ x, l[i]? = some x → no ≤ x.no) → posL l no = i
 | [], i, hi, _, _ => by simp at hi; simp [posL, hi]
 | a :: r, 0, _, _, h => by
  have := h a (by simp)
  have : ¬ a.no < no := by omega
  simp [posL, this]
 | a :: r, i + 1, hi, h1, h2 => by
  have := h1 0 a (by omega) (by simp)
  have ih := posL_eq (l := r) (i := i) (no := no) (by simpa using hi) (fun m x hm hx => h1 (m + 1) x (by omega) (by simpa using hx)) (fun x hx => h2 x (by simpa using hx))
  unfold posL at ih ⊢
  simp [this, ih]
theorem posL_le (l : List Ext) (no : Int) : posL l no ≤ l.length := by
 unfold posL
 exact (List.takeWhile_sublist _).length_le
theorem posL_lt {no : Int} : ∀ {l : List Ext} {m : Nat} {x : Ext}, m < posL l no → l[m]? = some x → x.no < no
 | a :: r, m, x, hm, hx => by
  by_cases ha : a.no < no
  ·cases m with
   | zero => simp at hx; rw [← hx]; exact ha
   | succ m =>
    refine posL_lt (l := r) (m := m) ?_ (by simpa using hx)
    unfold posL at hm ⊢
    simp [ha] at hm
    exact hm
  ·unfold posL at hm
   simp [ha] at hm
 | [], m, x, hm, hx => by simp at hx
theorem posL_ge {no : Int} : ∀ {l : List Ext} {x : Ext}, l[posL l no]? = some x → no ≤ x.no
 | a :: r, x, hx => by
  by_cases ha : a.no < no
  ·refine posL_ge (l := r) ?_
   unfold posL at hx ⊢
   simpa [ha] using hx
  ·unfold posL at hx
   simp [ha] at hx
   rw [← hx]; omega
 | [], x, hx => by simp at hx
theorem hasL_iff {l : List Ext} (h : srt l) {no : Int} : hasL l no ↔ ∃ x, l[posL l no]? = some x ∧ x.no = no := by
 constructor
 ·rintro ⟨x, hx, rfl⟩
  obtain ⟨m, hm⟩ := List.mem_iff_getElem?.1 hx
  refine ⟨x, ?_, rfl⟩
  have : posL l x.no = m := posL_eq (Nat.le_of_lt (List.getElem?_eq_some_iff.1 hm).1) (fun k y hk hy => srt_get h hy hm hk) (fun y hy => by rw [hm] at hy; injection hy with hy; rw [hy]; omega)
  rw [this]; exact hm
 ·rintro ⟨x, hx, e⟩
  exact ⟨x, List.mem_of_getElem? hx, e⟩
def cmpI (a b : Int) : Int := if a < b then -1 else if b < a then 1 else 0
theorem cmp_isNaN_p (a : Int) : BPure Try.prog 99 [I a] (B false) := BPure.flat fun H => cmp_isNaN_int_ok (by
 unfold cmp_isNaN_int
 simp)
theorem cmp_Compare_p (a b : Int) : BPure Try.prog 89 [I a, I b] (I (cmpI a b)) := BPure.flat fun H => cmp_Compare_int_ok (by
 unfold zjtZ
 refine bP_pure (cmp_isNaN_p a) ?_
 refine bP_pure (cmp_isNaN_p b) ?_
 unfold cmpI
 by_cases h1 : a < b
 ·simp [h1]
 ·by_cases h2 : b < a
  ·simp [h1, h2]
  ·simp [h1, h2])
theorem place1_p (x : Ext) (no : Int) : BPure Try.prog 107 [.agg (encE x), I no] (I (cmpI x.no no)) := BPure.val (by simp [noIdss, noIds, zjcZ]) rfl (extent_place_1_ok (by
 unfold zkrZ
 simp
 refine bP_pure (cmp_Compare_p x.no no) ?_
 rfl))
theorem acI_u64 {n : Int} {k : IntKind} (h1 : 0 ≤ n) (h2 : n ≤ 9223372036854775807) : acI .u64 (.lit (.int k n)) = some (.lit (.int .u64 n)) := by
 have e1 : IntKind.u64.wrap n = n := by
  simp [IntKind.wrap, IntKind.bits, IntKind.signed]; omega
 simp [acI, e1]
theorem abI_shr1 {n : Int} : abI .shr (.lit (.int .u64 n)) (.lit (.int .u64 1)) = some (.lit (.int .u64 (n / 2))) := by
 have e2 : n.fdiv 2 = n / 2 := Int.fdiv_eq_ediv_of_nonneg _ (by omega)
 simp [abI, ashiftOp, IntKind.bits, e2]
theorem goF55 : goFunc Try.prog 107 = true := by kernel_rfl
theorem search_p {l : List Ext} {v : AV} (hv : SV encE 9 l v) (hs : srt l) (hl : l.length ≤ 281474976710656) (no : Int) :
  BPure Try.prog 106 [v, I no, .fn (.func 107) [] []] (.tup [I (posL l no), B (decide (hasL l no))]) := BPure.val (by simp [noIdss, noIds, hv.1]) rfl (zdeZ (by
 unfold zvZ
 simp [hv.len]
 refine zcoZ (fun n x0 x1 x2 x8 x9 x10 H' => ∃ i j : Nat, i + n = j ∧ j ≤ l.length ∧ x0 = v ∧ x1 = I no ∧ x2 = .fn (.func 107) [] [] ∧ x8 = I l.length ∧ x9 = I i ∧ x10 = I j ∧ H' = [] ∧ (∀ m x, m < i → l[m]? = some x → x.no < no) ∧ (∀ m x, j ≤ m → l[m]? = some x → no ≤ x.no)) ?_ l.length ⟨0, l.length, by simp, by omega, rfl, rfl, rfl, rfl, rfl, rfl, rfl, by simp, fun m x hm hx => by have := (List.getElem?_eq_some_iff.1 hx).1; omega⟩
 rintro n x0 x1 x2 x8 x9 x10 H' R hR ⟨i, j, hij, hj, rfl, rfl, rfl, rfl, rfl, rfl, rfl, h1, h2⟩
 unfold znZ
 rcases Nat.lt_or_ge i j with hlt | hge
 ·have hx := List.getElem?_eq_getElem (l := l) (i := (i + j) / 2) (by omega)
  generalize l[(i + j) / 2]'(by omega) = y at hx
  simp [hlt, abI_add (a := i) (b := j) (by omega) (by omega), acI_u64 (n := (i : Int) + j) (by omega) (by omega), abI_shr1, acI_i64 (a := ((i : Int) + j) / 2) (by omega) (by omega), hv.idx zbtZ hx (i := ((i : Int) + j) / 2) (by omega), goF55]
  refine bC_of (place1_p y no []) ?_
  unfold cmpI
  by_cases c1 : y.no < no
  ·simp [c1, abI_add (a := ((i : Int) + j) / 2) (b := 1) (by omega) (by omega)]
   refine hR (j - ((i + j) / 2 + 1)) _ _ _ _ _ _ _ (by omega) ⟨(i + j) / 2 + 1, j, by omega, hj, rfl, rfl, rfl, rfl, by simp, rfl, rfl, ?_, h2⟩
   intro m x hm hmx
   by_cases hm2 : m = (i + j) / 2
   ·rw [hm2, hx] at hmx; injection hmx with e; rw [← e]; exact c1
   ·have := srt_get hs hmx hx (by omega); omega
  ·have e : ¬ (if no < y.no then (1 : Int) else 0) < 0 := by split <;> omega
   simp [c1, e]
   refine hR ((i + j) / 2 - i) _ _ _ _ _ _ _ (by omega) ⟨i, (i + j) / 2, by omega, by omega, rfl, rfl, rfl, rfl, rfl, by simp, rfl, h1, ?_⟩
   intro m x hm hmx
   by_cases hm2 : m = (i + j) / 2
   ·rw [hm2, hx] at hmx; injection hmx with e; rw [← e]; omega
   ·have := srt_get hs hx hmx (by omega); omega
 ·have hi : i = j := by omega
  subst hi
  have hp : posL l no = i := posL_eq (by omega) h1 (fun x hx => h2 i x (by omega) hx)
  rcases Nat.lt_or_ge i l.length with hil | hil
  ·have hx := List.getElem?_eq_getElem (l := l) (i := i) hil
   generalize l[i] = y at hx
   have hh : hasL l no ↔ cmpI y.no no = 0 := by
    rw [hasL_iff hs, hp]
    have := h2 i y (by omega) hx
    constructor
    ·rintro ⟨z, hz, e⟩
     rw [hx] at hz; injection hz with hz; rw [hz, e]; unfold cmpI; simp
    ·intro e
     refine ⟨y, hx, ?_⟩
     unfold cmpI at e
     split at e
     ·omega
     ·split at e <;> omega
   simp [hil, hv.idx zbtZ hx rfl, goF55]
   refine bC_of (place1_p y no []) ?_
   simp [hp, hh]
  ·have hn : ¬ hasL l no := by
    rw [hasL_iff hs, hp]
    rintro ⟨z, hz, e⟩
    have := (List.getElem?_eq_some_iff.1 hz).1
    omega
   simp [show ¬ i < l.length by omega, hp, hn]))
theorem extent_place_p {l : List Ext} {v : AV} (hv : SV encE 9 l v) (hs : srt l) (hl : l.length ≤ 281474976710656) (no : Int) :
  BPure Try.prog 102 [v, I no] (.tup [I (posL l no), B (decide (hasL l no))]) := BPure.val (by simp [noIdss, noIds, hv.1]) rfl (extent_place_ok (by
 unfold extent_place
 refine bP_pure (search_p hv hs hl no) ?_
 simp))

/-! one content -/
def sameC (a : Int) (l : List Ext) (b : Int) (m : List Ext) : Prop := a = b ∧ l = m
instance (a : Int) (l : List Ext) (b : Int) (m : List Ext) : Decidable (sameC a l b m) := by unfold sameC; infer_instance
/-! a block's bytes -/
end Go.Proofs.Ytofgloiebnppbaa.Av
end
/-! YtofgloiebnppbaaAvSo -/
section
/- Lists that rise by a key. Texts, ordered. No program in sight. -/
set_option linter.unusedVariables false
set_option linter.unusedSimpArgs false
namespace Go.Proofs.Ytofgloiebnppbaa.Av
open Go Go.RowKit

structure KO {κ : Type} (c : κ → κ → Int) : Prop where
 eq : ∀ a b, c a b = 0 ↔ a = b
 anti : ∀ a b, c a b < 0 ↔ 0 < c b a
 trans : ∀ a b d, c a b < 0 → c b d < 0 → c a d < 0
section
variable {κ α : Type} {c : κ → κ → Int} {key : α → κ}
theorem KO.irr (h : KO c) (a : κ) : ¬ c a a < 0 := by have := (h.eq a a).2 rfl; omega
theorem KO.tri (h : KO c) {a b : κ} (h1 : ¬ c a b < 0) (h2 : ¬ c b a < 0) : a = b := by
 refine (h.eq a b).1 ?_
 rw [h.anti] at h2
 omega
def srtK (c : κ → κ → Int) (key : α → κ) (l : List α) : Prop := l.Pairwise fun a b => c (key a) (key b) < 0
def posK (c : κ → κ → Int) (key : α → κ) (l : List α) (k : κ) : Nat := (l.takeWhile fun x => decide (c (key x) k < 0)).length
def hasK (key : α → κ) (l : List α) (k : κ) : Prop := ∃ x ∈ l, key x = k
instance [DecidableEq κ] (key : α → κ) (l : List α) (k : κ) : Decidable (hasK key l k) := by unfold hasK; infer_instance
instance (c : κ → κ → Int) (key : α → κ) (l : List α) : Decidable (srtK c key l) := by unfold srtK; infer_instance
theorem srtK_get {l : List α} (h : srtK c key l) {i j : Nat} {x y : α} (hi : l[i]? = some x) (hj : l[j]? = some y) (hij : i < j) : c (key x) (key y) < 0 := by
 obtain ⟨h1, e1⟩ := List.getElem?_eq_some_iff.1 hi
 obtain ⟨h2, e2⟩ := List.getElem?_eq_some_iff.1 hj
 have := List.pairwise_iff_getElem.1 h i j h1 h2 hij
 rw [e1, e2] at this; exact this
theorem posK_eq {k : κ} : ∀ {l : List α} {i : Nat}, i ≤ l.length → (∀ m x, m < i → l[m]? = some x → c (key x) k < 0) → (∀ x, l[i]? = some x → ¬ c (key x) k < 0) → posK c key l k = i
 | [], i, hi, _, _ => by simp at hi; simp [posK, hi]
 | a :: r, 0, _, _, h => by
  have := h a (by simp)
  simp [posK, this]
 | a :: r, i + 1, hi, h1, h2 => by
  have := h1 0 a (by omega) (by simp)
  have ih := posK_eq (l := r) (i := i) (k := k) (by simpa using hi) (fun m x hm hx => h1 (m + 1) x (by omega) (by simpa using hx)) (fun x hx => h2 x (by simpa using hx))
  unfold posK at ih ⊢
  simp [this, ih]
theorem posK_le (l : List α) (k : κ) : posK c key l k ≤ l.length := by
 unfold posK
 exact (List.takeWhile_sublist _).length_le
theorem posK_lt {k : κ} : ∀ {l : List α} {m : Nat} {x : α}, m < posK c key l k → l[m]? = some x → c (key x) k < 0
 | a :: r, m, x, hm, hx => by
  by_cases ha : c (key a) k < 0
  ·cases m with
   | zero => simp at hx; rw [← hx]; exact ha
   | succ m =>
    refine posK_lt (l := r) (m := m) ?_ (by simpa using hx)
    unfold posK at hm ⊢
    simp [ha] at hm
    exact hm
  ·unfold posK at hm
   simp [ha] at hm
 | [], m, x, hm, hx => by simp at hx
theorem posK_ge {k : κ} : ∀ {l : List α} {x : α}, l[posK c key l k]? = some x → ¬ c (key x) k < 0
 | a :: r, x, hx => by
  by_cases ha : c (key a) k < 0
  ·refine posK_ge (l := r) ?_
   unfold posK at hx ⊢
   simpa [ha] using hx
  ·unfold posK at hx
   simp [ha] at hx
   rw [← hx]; exact ha
 | [], x, hx => by simp at hx
theorem posK_at (hc : KO c) {l : List α} (h : srtK c key l) {m : Nat} {x : α} (hm : l[m]? = some x) : posK c key l (key x) = m :=
 posK_eq (Nat.le_of_lt (List.getElem?_eq_some_iff.1 hm).1) (fun k y hk hy => srtK_get h hy hm hk) (fun y hy => by rw [hm] at hy; injection hy with hy; rw [hy]; exact hc.irr _)
theorem hasK_iff (hc : KO c) {l : List α} (h : srtK c key l) {k : κ} : hasK key l k ↔ ∃ x, l[posK c key l k]? = some x ∧ key x = k := by
 constructor
 ·rintro ⟨x, hx, rfl⟩
  obtain ⟨m, hm⟩ := List.mem_iff_getElem?.1 hx
  exact ⟨x, by rw [posK_at hc h hm]; exact hm, rfl⟩
 ·rintro ⟨x, hx, e⟩
  exact ⟨x, List.mem_of_getElem? hx, e⟩
theorem hasK_pos (hc : KO c) {l : List α} (h : srtK c key l) {k : κ} (hk : hasK key l k) : posK c key l k < l.length := by
 obtain ⟨x, hx, -⟩ := (hasK_iff hc h).1 hk
 exact (List.getElem?_eq_some_iff.1 hx).1
theorem srtK_uniq (hc : KO c) {l : List α} (h : srtK c key l) {x y : α} (hx : x ∈ l) (hy : y ∈ l) (e : key x = key y) : x = y := by
 obtain ⟨m, hm⟩ := List.mem_iff_getElem?.1 hx
 obtain ⟨m', hm'⟩ := List.mem_iff_getElem?.1 hy
 have h1 := posK_at hc h hm
 have h2 := posK_at hc h hm'
 rw [e, h2] at h1
 subst h1
 rw [hm] at hm'
 injection hm'
def insK (c : κ → κ → Int) (key : α → κ) (l : List α) (x : α) : List α := l.take (posK c key l (key x)) ++ x :: l.drop (posK c key l (key x))
def delK (c : κ → κ → Int) (key : α → κ) (l : List α) (k : κ) : List α := l.take (posK c key l k) ++ l.drop (posK c key l k + 1)
theorem mem_insK {l : List α} {x y : α} : y ∈ insK c key l x ↔ y = x ∨ y ∈ l := by
 unfold insK
 rw [List.mem_append, List.mem_cons]
 constructor
 ·rintro (h | h | h)
  ·exact .inr (List.mem_of_mem_take h)
  ·exact .inl h
  ·exact .inr (List.mem_of_mem_drop h)
 ·rintro (h | h)
  ·exact .inr (.inl h)
  ·rw [← List.take_append_drop (posK c key l (key x)) l, List.mem_append] at h
   exact h.imp id .inr
theorem srtK_ins (hc : KO c) {l : List α} (h : srtK c key l) {x : α} (hn : ¬ hasK key l (key x)) : srtK c key (insK c key l x) := by
 unfold insK srtK
 have hl : ∀ y ∈ l.take (posK c key l (key x)), c (key y) (key x) < 0 := by
  intro y hy
  obtain ⟨m, hm⟩ := List.mem_iff_getElem?.1 hy
  rw [List.getElem?_take] at hm
  split at hm
  ·rename_i h1; exact posK_lt h1 hm
  ·cases hm
 have hr : ∀ y ∈ l.drop (posK c key l (key x)), c (key x) (key y) < 0 := by
  intro y hy
  obtain ⟨m, hm⟩ := List.mem_iff_getElem?.1 hy
  rw [List.getElem?_drop] at hm
  have hg : ¬ c (key y) (key x) < 0 := by
   rcases Nat.eq_zero_or_pos m with rfl | hm0
   ·exact posK_ge hm
   ·intro h2
    have hlt : posK c key l (key x) < l.length := by have := (List.getElem?_eq_some_iff.1 hm).1; omega
    have h3 := List.getElem?_eq_getElem hlt
    exact posK_ge h3 (hc.trans _ _ _ (srtK_get h h3 hm (by omega)) h2)
  by_cases h1 : c (key x) (key y) < 0
  ·exact h1
  ·exact absurd ⟨y, List.mem_of_getElem? hm, (hc.tri h1 hg).symm⟩ hn
 refine List.pairwise_append.2 ⟨h.sublist (List.take_sublist _ _), List.pairwise_cons.2 ⟨hr, h.sublist (List.drop_sublist _ _)⟩, ?_⟩
 intro a ha b hb
 rcases List.mem_cons.1 hb with rfl | hb
 ·exact hl a ha
 ·exact hc.trans _ _ _ (hl a ha) (hr b hb)
theorem delK_sub {l : List α} {k : κ} : (delK c key l k).Sublist l := by
 unfold delK
 conv => rhs; rw [← List.take_append_drop (posK c key l k) l]
 refine List.Sublist.append (List.Sublist.refl _) ?_
 rw [← List.drop_drop]
 exact List.drop_sublist _ _
theorem srtK_del {l : List α} (h : srtK c key l) {k : κ} : srtK c key (delK c key l k) := h.sublist delK_sub
theorem mem_delK (hc : KO c) {l : List α} (h : srtK c key l) {k : κ} (hk : hasK key l k) {y : α} : y ∈ delK c key l k ↔ y ∈ l ∧ key y ≠ k := by
 obtain ⟨x, hx, rfl⟩ := (hasK_iff hc h).1 hk
 have hlt := (List.getElem?_eq_some_iff.1 hx).1
 have e : l = l.take (posK c key l (key x)) ++ x :: l.drop (posK c key l (key x) + 1) := by
  conv => lhs; rw [← List.take_append_drop (posK c key l (key x)) l]
  rw [List.drop_eq_getElem_cons hlt, (List.getElem?_eq_some_iff.1 hx).2]
 have hs := h
 unfold srtK at hs
 generalize posK c key l (key x) = p at *
 unfold delK
 rw [posK_at hc h hx]
 rw [e] at hs
 rw [List.pairwise_append, List.pairwise_cons] at hs
 constructor
 ·intro hy
  rw [List.mem_append] at hy
  rcases hy with hy | hy
  ·exact ⟨List.mem_of_mem_take hy, fun e2 => hc.irr (key x) (e2 ▸ hs.2.2 y hy x (by simp))⟩
  ·exact ⟨List.mem_of_mem_drop hy, fun e2 => hc.irr (key x) (e2 ▸ hs.2.1.1 y hy)⟩
 ·rintro ⟨hy, hne⟩
  rw [e, List.mem_append, List.mem_cons] at hy
  rw [List.mem_append]
  rcases hy with hy | rfl | hy
  ·exact .inl hy
  ·exact absurd rfl hne
  ·exact .inr hy
theorem insK_len {l : List α} {x : α} : (insK c key l x).length = l.length + 1 := by
 have := posK_le (c := c) (key := key) l (key x)
 unfold insK
 rw [List.length_append, List.length_cons, List.length_take, List.length_drop]; omega
theorem delK_len {l : List α} {k : κ} (h : posK c key l k < l.length) : (delK c key l k).length + 1 = l.length := by
 unfold delK
 rw [List.length_append, List.length_take, List.length_drop]; omega
end
/-! texts -/
abbrev cmpN : List UInt8 → List UInt8 → Int := Lib.compareBytes
theorem cmpN_eq : ∀ a b : List UInt8, cmpN a b = 0 ↔ a = b
 | [], [] => by simp [cmpN, Lib.compareBytes]
 | [], _ :: _ => by simp [cmpN, Lib.compareBytes]
 | _ :: _, [] => by simp [cmpN, Lib.compareBytes]
 | x :: a, y :: b => by
  have ih := cmpN_eq a b
  simp only [cmpN] at ih ⊢
  unfold Lib.compareBytes
  by_cases h1 : x < y
  ·have : x ≠ y := fun e => by subst e; exact UInt8.lt_irrefl _ h1
   simp [h1, this]
  ·by_cases h2 : y < x
   ·have : x ≠ y := fun e => by subst e; exact UInt8.lt_irrefl _ h2
    simp [h1, h2, this]
   ·have : x = y := UInt8.le_antisymm (UInt8.not_lt.1 h2) (UInt8.not_lt.1 h1)
    simp [h1, h2, this, ih]
theorem cmpN_lt : ∀ a b : List UInt8, cmpN a b < 0 ↔ a < b
 | [], [] => by simp [cmpN, Lib.compareBytes]
 | [], _ :: _ => by simp [cmpN, Lib.compareBytes]
 | _ :: _, [] => by simp [cmpN, Lib.compareBytes]
 | x :: a, y :: b => by
  have ih := cmpN_lt a b
  simp only [cmpN] at ih ⊢
  unfold Lib.compareBytes
  rw [List.cons_lt_cons_iff]
  by_cases h1 : x < y
  ·simp [h1]
  ·by_cases h2 : y < x
   ·have : x ≠ y := fun e => by subst e; exact UInt8.lt_irrefl _ h2
    simp [h1, h2, this]
   ·have : x = y := UInt8.le_antisymm (UInt8.not_lt.1 h2) (UInt8.not_lt.1 h1)
    simp [h1, h2, this, ih]
theorem cmpN_gt : ∀ a b : List UInt8, 0 < cmpN a b ↔ b < a
 | [], [] => by simp [cmpN, Lib.compareBytes]
 | [], _ :: _ => by simp [cmpN, Lib.compareBytes]
 | _ :: _, [] => by simp [cmpN, Lib.compareBytes]
 | x :: a, y :: b => by
  have ih := cmpN_gt a b
  simp only [cmpN] at ih ⊢
  unfold Lib.compareBytes
  rw [List.cons_lt_cons_iff]
  by_cases h1 : x < y
  ·have : ¬ y < x := fun h => UInt8.lt_asymm h1 h
   have h3 : y ≠ x := fun e => by subst e; exact UInt8.lt_irrefl _ h1
   simp [h1, this, h3]
  ·by_cases h2 : y < x
   ·simp [h1, h2]
   ·have : x = y := UInt8.le_antisymm (UInt8.not_lt.1 h2) (UInt8.not_lt.1 h1)
    simp [h1, h2, this, ih]
theorem koN : KO cmpN where
 eq := cmpN_eq
 anti a b := by rw [cmpN_lt, cmpN_gt]
 trans a b d h1 h2 := by rw [cmpN_lt] at *; exact List.lt_trans h1 h2
theorem bytesLess_cmp : ∀ a b : List UInt8, Op.bytesLess a b = decide (cmpN a b < 0)
 | [], [] => by simp [Op.bytesLess, cmpN, Lib.compareBytes]
 | _ :: _, [] => by simp [Op.bytesLess, cmpN, Lib.compareBytes]
 | [], _ :: _ => by simp [Op.bytesLess, cmpN, Lib.compareBytes]
 | x :: a, y :: b => by
  have ih := bytesLess_cmp a b
  simp only [cmpN] at ih ⊢
  unfold Op.bytesLess Lib.compareBytes
  rw [ih]
  by_cases h1 : x < y
  ·simp [h1]
  ·by_cases h2 : y < x
   ·have : x ≠ y := fun e => by subst e; exact UInt8.lt_irrefl _ h2
    simp [h1, h2, this]
   ·have : x = y := UInt8.le_antisymm (UInt8.not_lt.1 h2) (UInt8.not_lt.1 h1)
    simp [h1, h2, this]
theorem abT_geq {a b : List UInt8} : abT .geq (S (bstr a)) (S (bstr b)) = some (B (decide (¬ cmpN a b < 0))) := by
 simp only [abT, astr2, bstr_toList, Option.map_some, bytesLess_cmp]
 by_cases h : cmpN a b < 0 <;> simp [h]
theorem aivT_spec {l : List UInt8} {k : Nat} {i : Int} {y : UInt8} (hi : i = k) (h : l[k]? = some y) : aivT (S (bstr l)) (I i) = some (.lit (.int .u8 y.toNat)) := by
 subst hi
 have : (bstr l)[k]? = some y := by
  obtain ⟨h1, h2⟩ := List.getElem?_eq_some_iff.1 h
  have hs : k < (bstr l).size := by rw [bstr_size]; exact h1
  rw [getElem?_pos (bstr l) k hs]
  congr 1
 simp [aivT, aint, this]
theorem alnT_spec {l : List UInt8} (h : l.length ≤ 9223372036854775807) : alnT (S (bstr l)) = some (I l.length) := by
 simp [alnT, bstr_size]
end Go.Proofs.Ytofgloiebnppbaa.Av
end
/-! YtofgloiebnppbaaAvK -/
section
/- What a law is handed, as abstract values: readers, one for each shape of type. -/
set_option linter.unusedVariables false
set_option linter.unusedSimpArgs false
namespace Go.Proofs.Ytofgloiebnppbaa.Av
open Go Go.RowKit

structure Sl (α : Type) where
 l : List α
 nil : Bool

structure Rd (P : Program) (t : TypeId) (α : Type) where
 size : Nat
 enc : α → List AV
 ok : α → Prop
 cells : P.cellsOf t = size
 read : ∀ {H : Type} {e : TypeId × Value → H} {W : World} {fuel : Nat} {cs : List Value} {d : DataW H × List MemPlace}, DataW.trod e P W 0 (fun _ => true) true fuel t cs = some d →
  ∃ x, ok x ∧ cs.length = size ∧ VRs (Cfg.start W) (enc x) cs ∧ ∀ u ∈ cs, u.oneCell' = true

section
variable {P : Program}
def Rd.int {t : TypeId} (k : IntKind) (hu : P.underlying t = some (.int k)) (hc : P.cellsOf t = 1) : Rd P t Int where
 size := 1
 enc n := [.lit (.int k n)]
 ok n := k.min ≤ n ∧ n ≤ k.max
 cells := hc
 read {H e W fuel cs d} h := by
  obtain ⟨n, rfl, -, hw⟩ := DataW.trod_int hu h
  refine ⟨n, by simpa [Lit.wf] using hw, rfl, .cons (by simp only [VR]) .nil, by simp [Value.oneCell']⟩
def Rd.bool {t : TypeId} (hu : P.underlying t = some .bool) (hc : P.cellsOf t = 1) : Rd P t Bool where
 size := 1
 enc b := [.lit (.bool b)]
 ok _ := True
 cells := hc
 read {H e W fuel cs d} h := by
  obtain ⟨b, rfl, -⟩ := DataW.trod_bool hu h
  exact ⟨b, trivial, rfl, .cons (by simp only [VR]) .nil, by simp [Value.oneCell']⟩
def Rd.string {t : TypeId} (hu : P.underlying t = some .string) (hc : P.cellsOf t = 1) : Rd P t ByteArray where
 size := 1
 enc s := [.lit (.string s)]
 ok s := s.size ≤ maxLen
 cells := hc
 read {H e W fuel cs d} h := by
  obtain ⟨s, rfl, -, hs⟩ := DataW.trod_string hu h
  exact ⟨s, hs, rfl, .cons (by simp only [VR]) .nil, by simp [Value.oneCell']⟩
theorem read_row {t : TypeId} {α : Type} (E : Rd P t α) {W : World} {a : Addr} {H : Type} {e : TypeId × Value → H} {fuel : Nat} : ∀ (n : Nat) (ds : List (DataW H × List MemPlace)), ds.length = n →
  (∀ i, i < n → (W.cells? 0 (a.add (i * P.cellsOf t)) (P.cellsOf t)).bind (DataW.trod e P W 0 (fun _ => true) true fuel t) = ds[i]?) →
  ∃ (xs : List α) (vs : List Value), xs.length = n ∧ (∀ x ∈ xs, E.ok x) ∧ vs.length = n * E.size ∧ VRs (Cfg.start W) (xs.flatMap E.enc) vs ∧ ∀ (i : Nat) (v : Value), vs[i]? = some v → W.cell? (a.add i) = some v ∧ v.oneCell' = true
 | 0, ds, hl, h => ⟨[], [], rfl, by simp, by simp, .nil, by simp⟩
 | n + 1, ds, hl, h => by
  obtain ⟨xs, vs, h1, h2, h3, h4, h5⟩ := read_row E n (ds.take n) (by rw [List.length_take]; omega) (fun i hi => by
   rw [h i (by omega), List.getElem?_take, if_pos hi])
  have hn := h n (by omega)
  rw [List.getElem?_eq_getElem (by omega)] at hn
  obtain ⟨cs, hcs, htr⟩ := Option.bind_eq_some_iff.1 hn
  obtain ⟨x, hx, hxl, hxv, hx1⟩ := E.read htr
  obtain ⟨-, hcl, hcell⟩ := World.cells?_some hcs
  refine ⟨xs ++ [x], vs ++ cs, by simp [h1], ?_, ?_, ?_, ?_⟩
  ·intro y hy
   simp only [List.mem_append, List.mem_singleton] at hy
   rcases hy with hy | rfl
   ·exact h2 y hy
   ·exact hx
  ·rw [List.length_append, h3, hxl, Nat.succ_mul]
  ·rw [List.flatMap_append]
   simpa using h4.append hxv
  ·intro i v hv
   rcases Nat.lt_or_ge i vs.length with hlt | hge
   ·rw [List.getElem?_append_left hlt] at hv
    exact h5 i v hv
   ·rw [List.getElem?_append_right hge, h3] at hv
    have hlt := (List.getElem?_eq_some_iff.1 hv).1
    have := hcell (i - n * E.size) (by rw [← hcl]; exact hlt)
    rw [hv, E.cells, Addr.add_add] at this
    rw [show n * E.size + (i - n * E.size) = i by omega] at this
    exact ⟨this, hx1 v (List.mem_of_getElem? hv)⟩
def Rd.slice {t e : TypeId} {α : Type} (E : Rd P e α) (hu : P.underlying t = some (.slice e)) (hc : P.cellsOf t = 1) : Rd P t (Sl α) where
 size := 1
 enc s := [if s.nil then .lit (.slice none 0 0) else .imm (s.l.flatMap E.enc) s.l.length E.size]
 ok s := (s.nil = true → s.l = []) ∧ s.l.length ≤ maxLen ∧ ∀ x ∈ s.l, E.ok x
 cells := hc
 read {H e' W fuel cs d} h := by
  rcases DataW.trod_slice hu h with ⟨rfl, -⟩ | ⟨a, len, cap, elems, rest, n, -, rfl, -, -, h1, h2, h3, h4, -, -⟩
  ·exact ⟨⟨[], true⟩, ⟨fun _ => rfl, by simp, by simp⟩, rfl, .cons (by simp only [if_true, VR]) .nil, by simp [Value.oneCell']⟩
  ·obtain ⟨xs, vs, g1, g2, g3, g4, g5⟩ := read_row E len elems h3 h4
   refine ⟨⟨xs, false⟩, ⟨by simp, by simp only; omega, g2⟩, rfl, .cons ?_ .nil, by simp [Value.oneCell']⟩
   simp only [Bool.false_eq_true, if_false, VR]
   refine ⟨a, cap, vs, by rw [g1], by omega, .inr ⟨fun hh => hh.elim id id, g5⟩, g4⟩
structure Rds (P : Program) (fs : List Field) (off total : Nat) (α : Type) where
 enc : α → List AV
 ok : α → Prop
 le : off ≤ total
 read : ∀ {H : Type} {e : TypeId × Value → H} {W : World} {fuel : Nat} {cs : List Value} {ds : List (DataW H × List MemPlace)}, cs.length = total → ds.length = fs.length →
  (∀ (i : Nat) (f : Field), fs[i]? = some f → DataW.trod e P W 0 (fun _ => true) true fuel f.type ((cs.drop f.offset).take (P.cellsOf f.type)) = ds[i]?) →
  ∃ x, ok x ∧ VRs (Cfg.start W) (enc x) (cs.drop off) ∧ ∀ u ∈ cs.drop off, u.oneCell' = true
def Rds.nil (P : Program) (total : Nat) : Rds P [] total total Unit where
 enc _ := []
 ok _ := True
 le := Nat.le_refl _
 read {H e W fuel cs ds} hl _ _ := ⟨(), trivial, by rw [List.drop_of_length_le (by omega)]; exact .nil, by rw [List.drop_of_length_le (by omega)]; simp⟩
def Rds.cons {f : Field} {fs : List Field} {t : TypeId} {off total : Nat} {α β : Type} (E : Rd P t α) (R : Rds P fs (off + E.size) total β) (ht : f.type = t) (ho : f.offset = off) : Rds P (f :: fs) off total (α × β) where
 enc x := E.enc x.1 ++ R.enc x.2
 ok x := E.ok x.1 ∧ R.ok x.2
 le := Nat.le_trans (Nat.le_add_right _ _) R.le
 read {H e W fuel cs ds} hl hd h := by
  subst ht
  cases ds with
  | nil => simp at hd
  | cons d ds =>
   have h0 := h 0 f rfl
   simp only [List.getElem?_cons_zero] at h0
   obtain ⟨x, hx, hxl, hxv, hx1⟩ := E.read h0
   obtain ⟨y, hy, hyv, hy1⟩ := R.read hl (by simpa using hd) (fun i g hg => by simpa using h (i + 1) g (by simpa using hg))
   have e1 : cs.drop off = (cs.drop f.offset).take (P.cellsOf f.type) ++ cs.drop (off + E.size) := by
    rw [ho, E.cells]
    rw [← List.drop_drop, List.take_append_drop]
   rw [e1]
   refine ⟨(x, y), ⟨hx, hy⟩, hxv.append hyv, ?_⟩
   intro u hu
   rcases List.mem_append.1 hu with hu | hu
   ·exact hx1 u hu
   ·exact hy1 u hu
def Rd.struct {t : TypeId} {fs : Array Field} {total : Nat} {α : Type} (R : Rds P fs.toList 0 total α) (hu : P.underlying t = some (.struct fs)) (hc : P.cellsOf t = total) : Rd P t α where
 size := total
 enc := R.enc
 ok := R.ok
 cells := hc
 read {H e W fuel cs d} h := by
  obtain ⟨xs, n, -, -, hl, hxl, hx⟩ := DataW.trod_struct hu h
  rw [hc] at hl
  obtain ⟨x, h1, h2, h3⟩ := R.read (ds := xs) hl (by simpa using hxl) (fun i f hf => hx i f (by simpa using hf))
  exact ⟨x, h1, hl, by simpa using h2, by simpa using h3⟩
theorem read_arr {t : TypeId} {α : Type} (E : Rd P t α) {W : World} {H : Type} {e : TypeId × Value → H} {fuel : Nat} : ∀ (n : Nat) (cs : List Value) (ds : List (DataW H × List MemPlace)), ds.length = n → cs.length = n * E.size →
  (∀ i, i < n → DataW.trod e P W 0 (fun _ => true) true fuel t ((cs.drop (i * P.cellsOf t)).take (P.cellsOf t)) = ds[i]?) →
  ∃ (xs : List α), xs.length = n ∧ (∀ x ∈ xs, E.ok x) ∧ VRs (Cfg.start W) (xs.flatMap E.enc) cs ∧ ∀ u ∈ cs, u.oneCell' = true
 | 0, cs, ds, hl, hc, h => by
  have : cs = [] := List.eq_nil_of_length_eq_zero (by simpa using hc)
  subst this
  exact ⟨[], rfl, by simp, .nil, by simp⟩
 | n + 1, cs, d :: ds, hl, hc, h => by
  have h0 := h 0 (by omega)
  simp only [Nat.zero_mul, List.drop_zero, List.getElem?_cons_zero] at h0
  obtain ⟨x, hx, hxl, hxv, hx1⟩ := E.read h0
  obtain ⟨xs, h1, h2, h3, h4⟩ := read_arr E n (cs.drop E.size) ds (by simpa using hl) (by rw [List.length_drop, hc, Nat.succ_mul]; omega) (fun i hi => by
   have := h (i + 1) (by omega)
   rw [List.getElem?_cons_succ] at this
   rw [← this, List.drop_drop, E.cells]
   congr 3
   rw [Nat.succ_mul]; omega)
  refine ⟨x :: xs, by simp [h1], ?_, ?_, ?_⟩
  ·intro y hy
   rcases List.mem_cons.1 hy with rfl | hy
   ·exact hx
   ·exact h2 y hy
  ·rw [List.flatMap_cons, ← List.take_append_drop E.size cs]
   rw [E.cells] at hxv
   exact hxv.append h3
  ·intro u hu
   rw [← List.take_append_drop E.size cs] at hu
   rcases List.mem_append.1 hu with hu | hu
   ·exact hx1 u (by rw [E.cells]; exact hu)
   ·exact h4 u hu
def Rd.array {t e : TypeId} {α : Type} (n : Nat) (E : Rd P e α) (hu : P.underlying t = some (.array n e)) (hc : P.cellsOf t = n * E.size) : Rd P t (List α) where
 size := n * E.size
 enc xs := xs.flatMap E.enc
 ok xs := xs.length = n ∧ ∀ x ∈ xs, E.ok x
 cells := hc
 read {H e' W fuel cs d} h := by
  obtain ⟨xs, m, -, -, hl, hxl, hx⟩ := DataW.trod_array hu h
  rw [hc] at hl
  obtain ⟨ys, h1, h2, h3, h4⟩ := read_arr E n cs xs hxl hl hx
  exact ⟨ys, ⟨h1, h2⟩, hl, h3, h4⟩
theorem Rd.arg1 {t : TypeId} {α : Type} (E : Rd P t α) {H : Type} {e : TypeId × Value → H} {W : World} {v : Value} {d : DataW H} {ps : List MemPlace} (hv : v.cells = #[v])
  (h : DataW.Trod e P W 0 (fun _ => true) true t v d ps) : ∃ x, E.ok x ∧ VRs (Cfg.start W) (E.enc x) [v] := by
 obtain ⟨fuel, h⟩ := h
 obtain ⟨x, h1, -, h2, -⟩ := E.read h
 rw [hv] at h2
 exact ⟨x, h1, h2⟩
end
end Go.Proofs.Ytofgloiebnppbaa.Av
end
/-! YtofgloiebnppbaaAvK2 -/
section
/- Bytes that are handed. -/
set_option linter.unusedVariables false
set_option linter.unusedSimpArgs false
namespace Go.Proofs.Ytofgloiebnppbaa.Av
open Go Go.RowKit
def Rd.byte {P : Program} {t : TypeId} (hu : P.underlying t = some (.int .u8)) (hc : P.cellsOf t = 1) : Rd P t UInt8 where
 size := 1
 enc b := [.lit (.int .u8 b.toNat)]
 ok _ := True
 cells := hc
 read {H e W fuel cs d} h := by
  obtain ⟨n, rfl, -, hw⟩ := DataW.trod_int hu h
  have hb : 0 ≤ n ∧ n ≤ 255 := by simpa [Lit.wf, IntKind.min, IntKind.max, IntKind.signed, IntKind.bits] using hw
  refine ⟨UInt8.ofNat n.toNat, trivial, rfl, .cons ?_ .nil, by simp [Value.oneCell']⟩
  simp only [VR]
  congr 1
  have : n.toNat < 256 := by omega
  rw [UInt8.toNat_ofNat_of_lt' this]
  omega
end Go.Proofs.Ytofgloiebnppbaa.Av
end
/-! YtofgloiebnppbaaAvK3 -/
section
/- Laws: what they are handed as lists; that they come to true. -/
set_option linter.unusedVariables false
set_option linter.unusedSimpArgs false
namespace Go.Proofs.Ytofgloiebnppbaa.Av
open Go Go.RowKit
section
variable {P : Program} {f : FuncId} {args : List AV}
theorem BPure.of_true (h : ACalls P f [] [] fun r _ => r = B true) : BPure P f [] (B true) := fun H =>
 ACalls.pure (R' := fun r => r = B true) h (by simp only [Bels]) (fun r X hr => ⟨1, r, by rw [hr]; rfl, hr⟩) H
end
end Go.Proofs.Ytofgloiebnppbaa.Av
end
