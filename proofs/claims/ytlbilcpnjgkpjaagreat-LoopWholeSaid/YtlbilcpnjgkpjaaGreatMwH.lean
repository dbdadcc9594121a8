/- Texts of this proof, one behind the other, packed into one file by a program of this session. No condition. -/
import Derived.Test.YtlbilcpnjgkpjaaGreatMwG
set_option linter.unusedVariables false
set_option linter.unusedSimpArgs false
set_option maxRecDepth 100000
section
namespace Go.Proofs.YtlbilcpnjgkpjaaGreat.Av
open Go
def pqf : FuncId→Bool:=inL [36,35,63,66,97,54,62,51,46,73,74,113,94,24,16,18,33,3]
def pqfa : FuncId→Bool:=inL [8,29,11,19]
def disk_New_fl : Floats:=flOf [(3,[(1,some 3),(1,some 4),(6,none),(6,some 2),(6,some 3)])]
def disk_New_kp : Nat→Option (List Bool):=kpOf [(100003,mk 54 0 [1]),(13,mk 54 0 [3,36,37,38]),(6,mk 54 0 [1,3,23,24,25]),(3,mk 54 0 [1,3]),(1,mk 54 0 [1])]
def disk_New_un : Nat→Bool:=inL [3]
def zeuZ (p : List Bool) (n : Nat) : List AV→AH→Kf→Prop:=sCode Tryz.prog disk_New_fl pqf pqfa disk_New_un disk_New_kp (sub p (bodyOf Tryz.f8)) n
def disk_New_L13 (x3 x36 x37 x38 : AV) (H : AH) (K : AV→AH→Prop) : Prop:=lp (mk 54 0 [3,36,37,38]) (zeuZ [true,true,true,true,false,true,false,false] 14) [x3,x36,x37,x38] H (kBlk 2 (kSeq (zeuZ [true,true,true,true,true] 18) (kRet Tryz.prog Tryz.f8.results.toList K)))
def disk_New_L6 (x1 x3 x23 x24 x25 : AV) (H : AH) (K : AV→AH→Prop) : Prop:=lp (mk 54 0 [1,3,23,24,25]) (zeuZ [true,true,true,false,true,false,false] 7) [x1,x3,x23,x24,x25] H (kBlk 0 (kSeq (zeuZ [true,true,true,true] 11) (kRet Tryz.prog Tryz.f8.results.toList K)))
def disk_New_J3 (x1 x3 : AV) (H : AH) (K : AV→AH→Prop) : Prop:=jn (mk 54 0 [1,3]) (zeuZ [true,true,true] 4) [x1,x3] H (kRet Tryz.prog Tryz.f8.results.toList K)
def disk_New_U3 (x1 : AV) (H : AH) (K : AV→AH→Prop) : Prop:=unR Tryz.prog 3 (opsOf (sub [true,true,false] (bodyOf Tryz.f8))) (expand (mk 54 0 [1]) [x1]) H (kSeq (cutC (mk 54 0 [1,3]) (zeuZ [true,true,true] 4)) (kRet Tryz.prog Tryz.f8.results.toList K))
def disk_New_J1 (x1 : AV) (H : AH) (K : AV→AH→Prop) : Prop:=jn (mk 54 0 [1]) (zeuZ [true,true] 3) [x1] H (kRet Tryz.prog Tryz.f8.results.toList K)
def zpbZ (R13 : List AV→AH→Prop) (x3 x36 x37 x38 : AV) (H : AH) (K : AV→AH→Prop) : Prop :=
 bO (abI .lss x38 x37) fun v0 =>
 bB v0 fun t1 => bI t1 (
 bO (aixS 2 x36 x38) fun v2 =>
 bO (ald true 2 H v2) fun v3 =>
 bH (anew H (.agg [(.lit (.int .i64 0)),(.lit (.int .i64 0))])) fun v4 H5 =>
 bS (ast 2 H5 v4 v3) fun H6 =>
 bO (zdZ x3) fun v7 =>
 bO (ashift 2 v7) fun v8 =>
 bO (ald false 1 H6 v8) fun v9 =>
 bO (ashift 0 v4) fun v10 =>
 bO (ald false 1 H6 v10) fun v11 =>
 bO (alk (.int .i64) (.int .i64 0) H6 v9 v11 false) fun v12 =>
 bO (ashift 1 v4) fun v13 =>
 bO (ald false 1 H6 v13) fun v14 =>
 bO (abI .add v12 v14) fun v15 =>
 bS (amu (.int .i64) H6 v9 v11 v15) fun H16 =>
 bO (abI .add x38 (.lit (.int .i64 1))) fun v17 =>
 R13 [x3,x36,x37,v17] H16)
 (K x3 H)
theorem disk_New_L13_eq (R13 : List AV→AH→Prop) (x3 x36 x37 x38 : AV) (H : AH) (K : AV→AH→Prop) : zeuZ [true,true,true,true,false,true,false,false] 14 (expand (mk 54 0 [3,36,37,38]) [x3,x36,x37,x38]) H (kLp (mk 54 0 [3,36,37,38]) R13 (kBlk 2 (kSeq (zeuZ [true,true,true,true,true] 18) (kRet Tryz.prog Tryz.f8.results.toList K))))=zpbZ R13 x3 x36 x37 x38 H K:=by kernel_rfl
theorem disk_New_L13_rule {K : AV→AH→Prop} (I : Nat→AV→AV→AV→AV→AH→Prop) (round : ∀ (n : Nat) (x3 x36 x37 x38 : AV) (H : AH) (R : List AV→AH→Prop),(∀ (m : Nat) (y3 y36 y37 y38 : AV) (H' : AH),m < n→I m y3 y36 y37 y38 H'→R [y3,y36,y37,y38] H')→I n x3 x36 x37 x38 H→zpbZ R x3 x36 x37 x38 H K) (n : Nat) {x3 x36 x37 x38 : AV} {H : AH} (h : I n x3 x36 x37 x38 H) : disk_New_L13 x3 x36 x37 x38 H K:=by
 refine lp_mono (zfmZ _ _) (LI4 I) ?_ n h
 intro n X H h
 obtain ⟨x3,x36,x37,x38,rfl,h⟩:=h.elim
 exact Eq.mpr (disk_New_L13_eq _ x3 x36 x37 x38 H K) (round n x3 x36 x37 x38 H (fun X H' => ∃ m,m < n∧LI4 I m X H') (fun m y3 y36 y37 y38 H' hm hi => ⟨m,hm,hi⟩) h)
def disk_New_L6_b (R6 : List AV→AH→Prop) (x1 x3 x23 x24 x25 : AV) (H : AH) (K : AV→AH→Prop) : Prop :=
 bO (abI .lss x25 x24) fun v0 =>
 bB v0 fun t1 => bI t1 (
 bO (aixS 1 x23 x25) fun v2 =>
 bO (ald false 1 H v2) fun v3 =>
 bO (zdZ x3) fun v4 =>
 bO (ashift 1 v4) fun v5 =>
 bO (ald false 1 H v5) fun v6 =>
 bS (amu (.int .i64) H v6 v3 (.lit (.bool true))) fun H7 =>
 bO (abI .add x25 (.lit (.int .i64 1))) fun v8 =>
 R6 [x1,x3,x23,x24,v8] H7)
 (bO (ashift 2 x1) fun v9 =>
 bO (ald false 1 H v9) fun v10 =>
 bO (alnS v10) fun v11 =>
 disk_New_L13 x3 v10 v11 (.lit (.int .i64 0)) H K)
theorem disk_New_L6_eq (R6 : List AV→AH→Prop) (x1 x3 x23 x24 x25 : AV) (H : AH) (K : AV→AH→Prop) : zeuZ [true,true,true,false,true,false,false] 7 (expand (mk 54 0 [1,3,23,24,25]) [x1,x3,x23,x24,x25]) H (kLp (mk 54 0 [1,3,23,24,25]) R6 (kBlk 0 (kSeq (zeuZ [true,true,true,true] 11) (kRet Tryz.prog Tryz.f8.results.toList K))))=disk_New_L6_b R6 x1 x3 x23 x24 x25 H K:=by kernel_rfl
theorem disk_New_L6_rule {K : AV→AH→Prop} (I : Nat→AV→AV→AV→AV→AV→AH→Prop) (round : ∀ (n : Nat) (x1 x3 x23 x24 x25 : AV) (H : AH) (R : List AV→AH→Prop),(∀ (m : Nat) (y1 y3 y23 y24 y25 : AV) (H' : AH),m < n→I m y1 y3 y23 y24 y25 H'→R [y1,y3,y23,y24,y25] H')→I n x1 x3 x23 x24 x25 H→disk_New_L6_b R x1 x3 x23 x24 x25 H K) (n : Nat) {x1 x3 x23 x24 x25 : AV} {H : AH} (h : I n x1 x3 x23 x24 x25 H) : disk_New_L6 x1 x3 x23 x24 x25 H K:=by
 refine lp_mono (zfmZ _ _) (LI5 I) ?_ n h
 intro n X H h
 obtain ⟨x1,x3,x23,x24,x25,rfl,h⟩:=h.elim
 exact Eq.mpr (disk_New_L6_eq _ x1 x3 x23 x24 x25 H K) (round n x1 x3 x23 x24 x25 H (fun X H' => ∃ m,m < n∧LI5 I m X H') (fun m y1 y3 y23 y24 y25 H' hm hi => ⟨m,hm,hi⟩) h)
def disk_New_J3_b (x1 x3 : AV) (H : AH) (K : AV→AH→Prop) : Prop :=
 bO (ashift 1 x1) fun v0 =>
 bO (ald false 1 H v0) fun v1 =>
 bO (alnS v1) fun v2 =>
 disk_New_L6 x1 x3 v1 v2 (.lit (.int .i64 0)) H K
theorem disk_New_J3_eq (x1 x3 : AV) (H : AH) (K : AV→AH→Prop) : disk_New_J3 x1 x3 H K=disk_New_J3_b x1 x3 H K:=(jn_eq _ _ _ _ _).trans (by kernel_rfl)
def disk_New_J1_b (x1 : AV) (H : AH) (K : AV→AH→Prop) : Prop :=
 disk_New_U3 x1 H K
theorem disk_New_J1_eq (x1 : AV) (H : AH) (K : AV→AH→Prop) : disk_New_J1 x1 H K=disk_New_J1_b x1 H K:=(jn_eq _ _ _ _ _).trans (by kernel_rfl)
def disk_New (a0 : AV) (H : AH) (K : AV→AH→Prop) : Prop :=
 bH (anew H a0) fun v0 H1 =>
 bO (ald true 4 H1 v0) fun v2 =>
 bP (PCall Tryz.prog 24 [v2] H1) fun v3 =>
 bO (aun .not v3) fun v4 =>
 bB v4 fun t5 => bI t5 (
 bO (abl [(.lit (.slice none 0 0)),(.lit (.slice none 0 0)),(.lit (.slice none 0 0)),(.lit (.slice none 0 0))] []) fun v6 =>
 bS (ast 4 H1 v0 v6) fun H7 =>
 disk_New_J1 v0 H7 K)
 (disk_New_J1 v0 H1 K)
theorem disk_New_eq (a0 : AV) (H : AH) (K : AV→AH→Prop) : sFun Tryz.prog disk_New_fl pqf pqfa disk_New_un disk_New_kp Tryz.f8 [a0] H K=disk_New a0 H K:=by kernel_rfl
theorem disk_New_ok {a0 : AV} {H : AH} {K : AV→AH→Prop} (h : disk_New a0 H K) : ACalls Tryz.prog 8 [a0] H K :=
 sFun_wp mixP Tryz.func8 (by kernel_rfl) (Eq.mpr (disk_New_eq a0 H K) h)
def disk_May_fl : Floats:=flOf []
def disk_May_kp : Nat→Option (List Bool):=kpOf []
def disk_May (a0 : AV) (H : AH) (K : AV→AH→Prop) : Prop :=
 bH (anew H a0) fun v0 H1 =>
 bO (ashift 0 v0) fun v2 =>
 bO (ald false 1 H1 v2) fun v3 =>
 bO (alnS v3) fun v4 =>
 bO (abI .leq v4 (.lit (.int .i64 65536))) fun v5 =>
 bG v5 true fun w6 =>
 gO w6 (ashift 1 v0) fun v7 =>
 bG v5 true fun w8 =>
 gO w8 (ald false 1 H1 v7) fun v9 =>
 bG v5 true fun w10 =>
 gO w10 (some (.fn (.func 39) [] [])) fun v11 =>
 bG v5 true fun w12 =>
 gC w12 (BCall Tryz.prog 41 [v9,v11] H1) H1 fun v13 H14 =>
 bG v5 true fun w15 =>
 gO w15 (aun .not v13) fun v16 =>
 bO (apick v5 v16 (.lit (.bool false))) fun v17 =>
 bG v17 true fun w18 =>
 gO w18 (ashift 2 v0) fun v19 =>
 bG v17 true fun w20 =>
 gO w20 (ald false 1 H14 v19) fun v21 =>
 bG v17 true fun w22 =>
 gO w22 (some (.fn (.func 40) [] [])) fun v23 =>
 bG v17 true fun w24 =>
 gC w24 (BCall Tryz.prog 42 [v21,v23] H14) H14 fun v25 H26 =>
 bG v17 true fun w27 =>
 gO w27 (aun .not v25) fun v28 =>
 bO (apick v17 v28 (.lit (.bool false))) fun v29 =>
 K v29 H26
theorem disk_May_eq (a0 : AV) (H : AH) (K : AV→AH→Prop) : sFun Tryz.prog disk_May_fl pqf none0 none0 disk_May_kp Tryz.f24 [a0] H K=disk_May a0 H K:=by kernel_rfl
theorem disk_May_ok {a0 : AV} {H : AH} {K : AV→AH→Prop} (h : disk_May a0 H K) : ∃ r H',K r H'∧BCall Tryz.prog 24 [a0] H r H' :=
 sFun_ok mixP Tryz.func24 (by kernel_rfl) (Eq.mpr (disk_May_eq a0 H K) h)
def disk_May_1_fl : Floats:=flOf []
def disk_May_1_kp : Nat→Option (List Bool):=kpOf []
def disk_May_1 (a0 : AV) (H : AH) (K : AV→AH→Prop) : Prop :=
 bO (abI .lss a0 (.lit (.int .i64 0))) fun v0 =>
 K v0 H
theorem disk_May_1_eq (a0 : AV) (H : AH) (K : AV→AH→Prop) : sFun Tryz.prog disk_May_1_fl pqf none0 none0 disk_May_1_kp Tryz.f39 [a0] H K=disk_May_1 a0 H K:=by kernel_rfl
theorem disk_May_1_ok {a0 : AV} {H : AH} {K : AV→AH→Prop} (h : disk_May_1 a0 H K) : ∃ r H',K r H'∧BCall Tryz.prog 39 [a0] H r H' :=
 sFun_ok mixP Tryz.func39 (by kernel_rfl) (Eq.mpr (disk_May_1_eq a0 H K) h)
def disk_May_2_fl : Floats:=flOf []
def disk_May_2_kp : Nat→Option (List Bool):=kpOf []
def disk_May_2 (a0 : AV) (H : AH) (K : AV→AH→Prop) : Prop :=
 bH (anew H a0) fun v0 H1 =>
 bO (ashift 0 v0) fun v2 =>
 bO (ald false 1 H1 v2) fun v3 =>
 bO (abI .lss v3 (.lit (.int .i64 0))) fun v4 =>
 bG v4 false fun w5 =>
 gO w5 (ashift 1 v0) fun v6 =>
 bG v4 false fun w7 =>
 gO w7 (ald false 1 H1 v6) fun v8 =>
 bG v4 false fun w9 =>
 gO w9 (abI .lss v8 (.lit (.int .i64 0))) fun v10 =>
 bO (apick v4 (.lit (.bool true)) v10) fun v11 =>
 bG v11 false fun w12 =>
 gO w12 (ashift 1 v0) fun v13 =>
 bG v11 false fun w14 =>
 gO w14 (ald false 1 H1 v13) fun v15 =>
 bG v11 false fun w16 =>
 gO w16 (abI .gtr v15 (.lit (.int .i64 20))) fun v17 =>
 bO (apick v11 (.lit (.bool true)) v17) fun v18 =>
 K v18 H1
theorem disk_May_2_eq (a0 : AV) (H : AH) (K : AV→AH→Prop) : sFun Tryz.prog disk_May_2_fl pqf none0 none0 disk_May_2_kp Tryz.f40 [a0] H K=disk_May_2 a0 H K:=by kernel_rfl
theorem disk_May_2_ok {a0 : AV} {H : AH} {K : AV→AH→Prop} (h : disk_May_2 a0 H K) : ∃ r H',K r H'∧BCall Tryz.prog 40 [a0] H r H' :=
 sFun_ok mixP Tryz.func40 (by kernel_rfl) (Eq.mpr (disk_May_2_eq a0 H K) h)
def zixZ : Floats:=flOf []
def ziuZ : Nat→Option (List Bool):=kpOf []
def zdfZ (a0 a1 : AV) (H : AH) (K : AV→AH→Prop) : Prop :=
 bC (BCall Tryz.prog 64 [a0,a1] H) fun v0 H1 =>
 bO (abI .geq v0 (.lit (.int .i64 0))) fun v2 =>
 K v2 H1
theorem zitZ (a0 a1 : AV) (H : AH) (K : AV→AH→Prop) : sFun Tryz.prog zixZ pqf none0 none0 ziuZ Tryz.f41 [a0,a1] H K=zdfZ a0 a1 H K:=by kernel_rfl
theorem zisZ {a0 a1 : AV} {H : AH} {K : AV→AH→Prop} (h : zdfZ a0 a1 H K) : ∃ r H',K r H'∧BCall Tryz.prog 41 [a0,a1] H r H' :=
 sFun_ok mixP Tryz.func41 (by kernel_rfl) (Eq.mpr (zitZ a0 a1 H K) h)
def zeqZ : Floats:=flOf []
def zeoZ : Nat→Option (List Bool):=kpOf []
def zbmZ (a0 a1 : AV) (H : AH) (K : AV→AH→Prop) : Prop :=
 bC (BCall Tryz.prog 65 [a0,a1] H) fun v0 H1 =>
 bO (abI .geq v0 (.lit (.int .i64 0))) fun v2 =>
 K v2 H1
theorem zemZ (a0 a1 : AV) (H : AH) (K : AV→AH→Prop) : sFun Tryz.prog zeqZ pqf none0 none0 zeoZ Tryz.f42 [a0,a1] H K=zbmZ a0 a1 H K:=by kernel_rfl
theorem zepZ {a0 a1 : AV} {H : AH} {K : AV→AH→Prop} (h : zbmZ a0 a1 H K) : ∃ r H',K r H'∧BCall Tryz.prog 42 [a0,a1] H r H' :=
 sFun_ok mixP Tryz.func42 (by kernel_rfl) (Eq.mpr (zemZ a0 a1 H K) h)
def zeyZ : Floats:=flOf []
def zewZ : Nat→Option (List Bool):=kpOf [(3,mk 19 0 [0,1,7,8])]
def zccZ (p : List Bool) (n : Nat) : List AV→AH→Kf→Prop:=sCode Tryz.prog zeyZ pqf none0 none0 zewZ (sub p (bodyOf Tryz.f64)) n
def zexZ (x0 x1 x7 x8 : AV) (H : AH) (K : AV→AH→Prop) : Prop:=lp (mk 19 0 [0,1,7,8]) (zccZ [true,false,true,false,false] 4) [x0,x1,x7,x8] H (kBlk 0 (kSeq (zccZ [true,true] 10) (kRet Tryz.prog Tryz.f64.results.toList K)))
def zcnZ (R3 : List AV→AH→Prop) (x0 x1 x7 x8 : AV) (H : AH) (K : AV→AH→Prop) : Prop :=
 bO (abI .lss x8 x7) fun v0 =>
 bB v0 fun t1 => bI t1 (
 bO (aixS 1 x0 x8) fun v2 =>
 bO (ald false 1 H v2) fun v3 =>
 bF true x1 fun k6 f6 c6 =>
 bT (goFunc Tryz.prog k6 || !true) <|
 bC (BCall Tryz.prog k6 (f6 ++ [v3] ++ c6) H) fun v4 H5 =>
 bB v4 fun t7 => bI t7 (
 K x8 H5)
 (bO (abI .add x8 (.lit (.int .i64 1))) fun v8 =>
 R3 [x0,x1,x7,v8] H5))
 (K (.lit (.int .i64 (-1))) H)
theorem zizZ (R3 : List AV→AH→Prop) (x0 x1 x7 x8 : AV) (H : AH) (K : AV→AH→Prop) : zccZ [true,false,true,false,false] 4 (expand (mk 19 0 [0,1,7,8]) [x0,x1,x7,x8]) H (kLp (mk 19 0 [0,1,7,8]) R3 (kBlk 0 (kSeq (zccZ [true,true] 10) (kRet Tryz.prog Tryz.f64.results.toList K))))=zcnZ R3 x0 x1 x7 x8 H K:=by kernel_rfl
theorem zigZ {K : AV→AH→Prop} (I : Nat→AV→AV→AV→AV→AH→Prop) (round : ∀ (n : Nat) (x0 x1 x7 x8 : AV) (H : AH) (R : List AV→AH→Prop),(∀ (m : Nat) (y0 y1 y7 y8 : AV) (H' : AH),m < n→I m y0 y1 y7 y8 H'→R [y0,y1,y7,y8] H')→I n x0 x1 x7 x8 H→zcnZ R x0 x1 x7 x8 H K) (n : Nat) {x0 x1 x7 x8 : AV} {H : AH} (h : I n x0 x1 x7 x8 H) : zexZ x0 x1 x7 x8 H K:=by
 refine lp_upto (zvZ _ _) (LI4 I) ?_ n h
 intro n X H h
 obtain ⟨x0,x1,x7,x8,rfl,h⟩:=h.elim
 exact Eq.mpr (zizZ _ x0 x1 x7 x8 H K) (round n x0 x1 x7 x8 H (fun X H' => ∃ m,m < n∧LI4 I m X H') (fun m y0 y1 y7 y8 H' hm hi => ⟨m,hm,hi⟩) h)
def zecZ (a0 a1 : AV) (H : AH) (K : AV→AH→Prop) : Prop :=
 bO (alnS a0) fun v0 =>
 zexZ a0 a1 v0 (.lit (.int .i64 0)) H K
theorem zkbZ (a0 a1 : AV) (H : AH) (K : AV→AH→Prop) : sFun Tryz.prog zeyZ pqf none0 none0 zewZ Tryz.f64 [a0,a1] H K=zecZ a0 a1 H K:=by kernel_rfl
theorem zkcZ {a0 a1 : AV} {H : AH} {K : AV→AH→Prop} (h : zecZ a0 a1 H K) : ∃ r H',K r H'∧BCall Tryz.prog 64 [a0,a1] H r H' :=
 sFun_ok mixP Tryz.func64 (by kernel_rfl) (Eq.mpr (zkbZ a0 a1 H K) h)
def zcpZ : Floats:=flOf []
def zcoZ : Nat→Option (List Bool):=kpOf [(3,mk 19 0 [0,1,7,8])]
def zyZ (p : List Bool) (n : Nat) : List AV→AH→Kf→Prop:=sCode Tryz.prog zcpZ pqf none0 none0 zcoZ (sub p (bodyOf Tryz.f65)) n
def zcqZ (x0 x1 x7 x8 : AV) (H : AH) (K : AV→AH→Prop) : Prop:=lp (mk 19 0 [0,1,7,8]) (zyZ [true,false,true,false,false] 4) [x0,x1,x7,x8] H (kBlk 0 (kSeq (zyZ [true,true] 10) (kRet Tryz.prog Tryz.f65.results.toList K)))
def zbjZ (R3 : List AV→AH→Prop) (x0 x1 x7 x8 : AV) (H : AH) (K : AV→AH→Prop) : Prop :=
 bO (abI .lss x8 x7) fun v0 =>
 bB v0 fun t1 => bI t1 (
 bO (aixS 2 x0 x8) fun v2 =>
 bO (ald true 2 H v2) fun v3 =>
 bF true x1 fun k6 f6 c6 =>
 bT (goFunc Tryz.prog k6 || !true) <|
 bC (BCall Tryz.prog k6 (f6 ++ [v3] ++ c6) H) fun v4 H5 =>
 bB v4 fun t7 => bI t7 (
 K x8 H5)
 (bO (abI .add x8 (.lit (.int .i64 1))) fun v8 =>
 R3 [x0,x1,x7,v8] H5))
 (K (.lit (.int .i64 (-1))) H)
theorem zejZ (R3 : List AV→AH→Prop) (x0 x1 x7 x8 : AV) (H : AH) (K : AV→AH→Prop) : zyZ [true,false,true,false,false] 4 (expand (mk 19 0 [0,1,7,8]) [x0,x1,x7,x8]) H (kLp (mk 19 0 [0,1,7,8]) R3 (kBlk 0 (kSeq (zyZ [true,true] 10) (kRet Tryz.prog Tryz.f65.results.toList K))))=zbjZ R3 x0 x1 x7 x8 H K:=by kernel_rfl
theorem zefZ {K : AV→AH→Prop} (I : Nat→AV→AV→AV→AV→AH→Prop) (round : ∀ (n : Nat) (x0 x1 x7 x8 : AV) (H : AH) (R : List AV→AH→Prop),(∀ (m : Nat) (y0 y1 y7 y8 : AV) (H' : AH),m < n→I m y0 y1 y7 y8 H'→R [y0,y1,y7,y8] H')→I n x0 x1 x7 x8 H→zbjZ R x0 x1 x7 x8 H K) (n : Nat) {x0 x1 x7 x8 : AV} {H : AH} (h : I n x0 x1 x7 x8 H) : zcqZ x0 x1 x7 x8 H K:=by
 refine lp_upto (zvZ _ _) (LI4 I) ?_ n h
 intro n X H h
 obtain ⟨x0,x1,x7,x8,rfl,h⟩:=h.elim
 exact Eq.mpr (zejZ _ x0 x1 x7 x8 H K) (round n x0 x1 x7 x8 H (fun X H' => ∃ m,m < n∧LI4 I m X H') (fun m y0 y1 y7 y8 H' hm hi => ⟨m,hm,hi⟩) h)
def zbvZ (a0 a1 : AV) (H : AH) (K : AV→AH→Prop) : Prop :=
 bO (alnS a0) fun v0 =>
 zcqZ a0 a1 v0 (.lit (.int .i64 0)) H K
theorem zfhZ (a0 a1 : AV) (H : AH) (K : AV→AH→Prop) : sFun Tryz.prog zcpZ pqf none0 none0 zcoZ Tryz.f65 [a0,a1] H K=zbvZ a0 a1 H K:=by kernel_rfl
theorem zfkZ {a0 a1 : AV} {H : AH} {K : AV→AH→Prop} (h : zbvZ a0 a1 H K) : ∃ r H',K r H'∧BCall Tryz.prog 65 [a0,a1] H r H' :=
 sFun_ok mixP Tryz.func65 (by kernel_rfl) (Eq.mpr (zfhZ a0 a1 H K) h)
def znuZ : Floats:=flOf []
def znnZ : Nat→Option (List Bool):=kpOf []
def zfuZ (a0 : AV) (H : AH) (K : AV→AH→Prop) : Prop :=
 bO (abN .eql nilS a0 (.lit (.slice none 0 0))) fun v0 =>
 bB v0 fun t1 => bI t1 (
 K (.lit (.slice none 0 0)) H)
 (bH (absl H 1 0 (zrow [(.lit (.int .i64 0))] 0) []) fun v2 H3 =>
 bH (aap 1 8 H3 v2 a0) fun v4 H5 =>
 K v4 H5)
theorem znxZ (a0 : AV) (H : AH) (K : AV→AH→Prop) : sFun Tryz.prog znuZ pqf none0 none0 znnZ Tryz.f26 [a0] H K=zfuZ a0 H K:=by kernel_rfl
theorem znvZ {a0 : AV} {H : AH} {K : AV→AH→Prop} (h : zfuZ a0 H K) : ∃ r H',K r H'∧BCall Tryz.prog 26 [a0] H r H' :=
 sFun_ok mixP Tryz.func26 (by kernel_rfl) (Eq.mpr (znxZ a0 H K) h)
def zqcZ : Floats:=flOf []
def zpxZ : Nat→Option (List Bool):=kpOf [(21,mk 77 0 [0,1,9,10]),(18,mk 77 0 [0,1,9,10]),(12,mk 77 0 [])]
def zdlZ (p : List Bool) (n : Nat) : List AV→AH→Kf→Prop:=sCode Tryz.prog zqcZ pqf none0 none0 zpxZ (sub p (bodyOf Tryz.f27)) n
def zjwZ (H : AH) (K : AV→AH→Prop) : Prop:=jn (mk 77 0 []) (zdlZ [true,true,true,true,true,true,false,true,false,true] 14) [] H (kSeq (zdlZ [true,true,true,true,true,true,true] 15) (kRet Tryz.prog Tryz.f27.results.toList K))
def zjyZ (R18 : List AV→AH→Prop) (x0 x1 x9 x10 : AV) (H : AH) (K : AV→AH→Prop) : Prop:=jn (mk 77 0 [0,1,9,10]) (zdlZ [true,true,true,true,true,true,true,true,false,true,false,false,true,true] 23) [x0,x1,x9,x10] H (kLp (mk 77 0 [0,1,9,10]) R18 (kBlk 0 (kSeq (zdlZ [true,true,true,true,true,true,true,true,true] 23) (kRet Tryz.prog Tryz.f27.results.toList K))))
def zomZ (x0 x1 x9 x10 : AV) (H : AH) (K : AV→AH→Prop) : Prop:=lp (mk 77 0 [0,1,9,10]) (zdlZ [true,true,true,true,true,true,true,true,false,true,false,false] 19) [x0,x1,x9,x10] H (kBlk 0 (kSeq (zdlZ [true,true,true,true,true,true,true,true,true] 23) (kRet Tryz.prog Tryz.f27.results.toList K)))
def zhzZ (H : AH) (K : AV→AH→Prop) : Prop :=
 K (.tup [(.lit (.slice none 0 0)),(.lit (.int .i64 1))]) H
theorem zkqZ (H : AH) (K : AV→AH→Prop) : zjwZ H K=zhzZ H K:=(jn_eq _ _ _ _ _).trans (by kernel_rfl)
def zibZ (R18 : List AV→AH→Prop) (x0 x1 x9 x10 : AV) (H : AH) (K : AV→AH→Prop) : Prop :=
 bO (abI .add x10 (.lit (.int .i64 1))) fun v0 =>
 R18 [x0,x1,x9,v0] H
theorem zkoZ (R18 : List AV→AH→Prop) (x0 x1 x9 x10 : AV) (H : AH) (K : AV→AH→Prop) : zjyZ R18 x0 x1 x9 x10 H K=zibZ R18 x0 x1 x9 x10 H K:=(jn_eq _ _ _ _ _).trans (by kernel_rfl)
def zifZ (R18 : List AV→AH→Prop) (x0 x1 x9 x10 : AV) (H : AH) (K : AV→AH→Prop) : Prop :=
 bO (abI .mul x10 (.lit (.int .i64 8))) fun v0 =>
 bO (abI .lss v0 x9) fun v1 =>
 bB v1 fun t2 => bI t2 (
 bC (BCall Tryz.prog 44 [x0,x10] H) fun v3 H4 =>
 bB v3 fun t5 => bI t5 (
 bO (abI .mul x10 (.lit (.int .i64 8))) fun v6 =>
 zjyZ R18 x0 x1 v6 x10 H4 K)
 (zjyZ R18 x0 x1 x9 x10 H4 K))
 (bO (zdZ x0) fun v7 =>
 bO (ashift 0 v7) fun v8 =>
 bO (ald false 1 H v8) fun v9 =>
 bO (aslS 1 v9 (some x1) (some x9) none) fun v10 =>
 bC (BCall Tryz.prog 25 [v10] H) fun v11 H12 =>
 K (.tup [v11,(.lit (.int .i64 0))]) H12)
theorem disk_Disk_Get_L18_eq (R18 : List AV→AH→Prop) (x0 x1 x9 x10 : AV) (H : AH) (K : AV→AH→Prop) : zdlZ [true,true,true,true,true,true,true,true,false,true,false,false] 19 (expand (mk 77 0 [0,1,9,10]) [x0,x1,x9,x10]) H (kLp (mk 77 0 [0,1,9,10]) R18 (kBlk 0 (kSeq (zdlZ [true,true,true,true,true,true,true,true,true] 23) (kRet Tryz.prog Tryz.f27.results.toList K))))=zifZ R18 x0 x1 x9 x10 H K:=by kernel_rfl
theorem zptZ {K : AV→AH→Prop} (I : Nat→AV→AV→AV→AV→AH→Prop) (round : ∀ (n : Nat) (x0 x1 x9 x10 : AV) (H : AH) (R : List AV→AH→Prop),(∀ (m : Nat) (y0 y1 y9 y10 : AV) (H' : AH),m < n→I m y0 y1 y9 y10 H'→R [y0,y1,y9,y10] H')→I n x0 x1 x9 x10 H→zifZ R x0 x1 x9 x10 H K) (n : Nat) {x0 x1 x9 x10 : AV} {H : AH} (h : I n x0 x1 x9 x10 H) : zomZ x0 x1 x9 x10 H K:=by
 refine lp_upto (zvZ _ _) (LI4 I) ?_ n h
 intro n X H h
 obtain ⟨x0,x1,x9,x10,rfl,h⟩:=h.elim
 exact Eq.mpr (disk_Disk_Get_L18_eq _ x0 x1 x9 x10 H K) (round n x0 x1 x9 x10 H (fun X H' => ∃ m,m < n∧LI4 I m X H') (fun m y0 y1 y9 y10 H' hm hi => ⟨m,hm,hi⟩) h)
def disk_Disk_Get (a0 a1 a2 : AV) (H : AH) (K : AV→AH→Prop) : Prop :=
 bO (abI .lss a1 (.lit (.int .i64 0))) fun v0 =>
 bG v0 false fun w1 =>
 gO w1 (some a2) fun v2 =>
 bG v0 false fun w3 =>
 gO w3 (abI .lss v2 (.lit (.int .i64 0))) fun v4 =>
 bO (apick v0 (.lit (.bool true)) v4) fun v5 =>
 bG v5 false fun w6 =>
 gO w6 (some a2) fun v7 =>
 bG v5 false fun w8 =>
 gO w8 (abI .gtr v7 (.lit (.int .i64 4096))) fun v9 =>
 bO (apick v5 (.lit (.bool true)) v9) fun v10 =>
 bB v10 fun t11 => bI t11 (
 K (.tup [(.lit (.slice none 0 0)),(.lit (.int .i64 5))]) H)
 (bC (BCall Tryz.prog 43 [a0,a1,a2] H) fun v12 H13 =>
 bO (zdZ a0) fun v14 =>
 bO (ashift 4 v14) fun v15 =>
 bO (ald false 1 H13 v15) fun v16 =>
 bO (abI .add v16 (.lit (.int .i64 1))) fun v17 =>
 bO (zdZ a0) fun v18 =>
 bO (ashift 4 v18) fun v19 =>
 bS (ast 1 H13 v19 v17) fun H20 =>
 bO (abI .eql v12 (.lit (.int .i64 0))) fun v21 =>
 bB v21 fun t22 => bI t22 (
 K (.tup [(.lit (.slice none 0 0)),(.lit (.int .i64 0))]) H20)
 (bO (abI .quo a1 (.lit (.int .i64 8))) fun v23 =>
 bC (BCall Tryz.prog 44 [a0,v23] H20) fun v24 H25 =>
 bB v24 fun t26 => bI t26 (
 bO (zdZ a0) fun v27 =>
 bO (ashift 1 v27) fun v28 =>
 bO (ald false 1 H25 v28) fun v29 =>
 bO (alk (.int .i64) (.bool false) H25 v29 v23 false) fun v30 =>
 bO (aun .not v30) fun v31 =>
 bB v31 fun t32 => bI t32 (
 bO (zdZ a0) fun v33 =>
 bO (ashift 2 v33) fun v34 =>
 bO (ald false 1 H25 v34) fun v35 =>
 bO (alk (.int .i64) (.int .i64 0) H25 v35 v23 false) fun v36 =>
 bO (abI .sub v36 (.lit (.int .i64 1))) fun v37 =>
 bS (amu (.int .i64) H25 v35 v23 v37) fun H38 =>
 zjwZ H38 K)
 (zjwZ H25 K))
 (bO (abI .add a1 v12) fun v39 =>
 bO (abI .add v23 (.lit (.int .i64 1))) fun v40 =>
 zomZ a0 a1 v39 v40 H25 K)))
theorem disk_Disk_Get_eq (a0 a1 a2 : AV) (H : AH) (K : AV→AH→Prop) : sFun Tryz.prog zqcZ pqf none0 none0 zpxZ Tryz.f27 [a0,a1,a2] H K=disk_Disk_Get a0 a1 a2 H K:=by kernel_rfl
theorem disk_Disk_Get_ok {a0 a1 a2 : AV} {H : AH} {K : AV→AH→Prop} (h : disk_Disk_Get a0 a1 a2 H K) : ∃ r H',K r H'∧BCall Tryz.prog 27 [a0,a1,a2] H r H' :=
 sFun_ok mixP Tryz.func27 (by kernel_rfl) (Eq.mpr (disk_Disk_Get_eq a0 a1 a2 H K) h)
def disk_Disk_Calls_fl : Floats:=flOf []
def disk_Disk_Calls_kp : Nat→Option (List Bool):=kpOf []
def zmqZ (a0 : AV) (H : AH) (K : AV→AH→Prop) : Prop :=
 bO (zdZ a0) fun v0 =>
 bO (ashift 4 v0) fun v1 =>
 bO (ald false 1 H v1) fun v2 =>
 K v2 H
theorem disk_Disk_Calls_eq (a0 : AV) (H : AH) (K : AV→AH→Prop) : sFun Tryz.prog disk_Disk_Calls_fl pqf none0 none0 disk_Disk_Calls_kp Tryz.f13 [a0] H K=zmqZ a0 H K:=by kernel_rfl
theorem disk_Disk_Calls_ok {a0 : AV} {H : AH} {K : AV→AH→Prop} (h : zmqZ a0 H K) : ∃ r H',K r H'∧BCall Tryz.prog 13 [a0] H r H' :=
 sFun_ok mixP Tryz.func13 (by kernel_rfl) (Eq.mpr (disk_Disk_Calls_eq a0 H K) h)
def znkZ : Floats:=flOf []
def zndZ : Nat→Option (List Bool):=kpOf [(2,mk 53 0 [2])]
def disk_Disk_asked_c (p : List Bool) (n : Nat) : List AV→AH→Kf→Prop:=sCode Tryz.prog znkZ pqf none0 none0 zndZ (sub p (bodyOf Tryz.f43)) n
def zflZ (x2 : AV) (H : AH) (K : AV→AH→Prop) : Prop:=jn (mk 53 0 [2]) (disk_Disk_asked_c [true,true,true] 4) [x2] H (kRet Tryz.prog Tryz.f43.results.toList K)
def zkgZ (x2 : AV) (H : AH) (K : AV→AH→Prop) : Prop :=
 K x2 H
theorem zqfZ (x2 : AV) (H : AH) (K : AV→AH→Prop) : zflZ x2 H K=zkgZ x2 H K:=(jn_eq _ _ _ _ _).trans (by kernel_rfl)
def znbZ (a0 a1 a2 : AV) (H : AH) (K : AV→AH→Prop) : Prop :=
 bO (zdZ a0) fun v0 =>
 bO (ashift 0 v0) fun v1 =>
 bO (ald false 1 H v1) fun v2 =>
 bO (alnS v2) fun v3 =>
 bO (abI .sub v3 a1) fun v4 =>
 bO (amm imx [(.lit (.int .i64 0)),v4]) fun v5 =>
 bO (amm imn [a2,v5]) fun v6 =>
 bO (zdZ a0) fun v7 =>
 bO (ashift 4 v7) fun v8 =>
 bO (ald false 1 H v8) fun v9 =>
 bO (zdZ a0) fun v10 =>
 bO (ashift 3 v10) fun v11 =>
 bO (ald false 1 H v11) fun v12 =>
 bO (alnS v12) fun v13 =>
 bO (abI .lss v9 v13) fun v14 =>
 bG v14 true fun w15 =>
 gO w15 (some a0) fun v16 =>
 bG v14 true fun w17 =>
 gO w17 (zdZ v16) fun v18 =>
 bG v14 true fun w19 =>
 gO w19 (ashift 3 v18) fun v20 =>
 bG v14 true fun w21 =>
 gO w21 (ald false 1 H v20) fun v22 =>
 bG v14 true fun w23 =>
 gO w23 (some a0) fun v24 =>
 bG v14 true fun w25 =>
 gO w25 (zdZ v24) fun v26 =>
 bG v14 true fun w27 =>
 gO w27 (ashift 4 v26) fun v28 =>
 bG v14 true fun w29 =>
 gO w29 (ald false 1 H v28) fun v30 =>
 bG v14 true fun w31 =>
 gO w31 (aixS 1 v22 v30) fun v32 =>
 bG v14 true fun w33 =>
 gO w33 (ald false 1 H v32) fun v34 =>
 bG v14 true fun w35 =>
 gO w35 (abI .gtr v34 (.lit (.int .i64 0))) fun v36 =>
 bO (apick v14 v36 (.lit (.bool false))) fun v37 =>
 bB v37 fun t38 => bI t38 (
 bO (zdZ a0) fun v39 =>
 bO (ashift 3 v39) fun v40 =>
 bO (ald false 1 H v40) fun v41 =>
 bO (zdZ a0) fun v42 =>
 bO (ashift 4 v42) fun v43 =>
 bO (ald false 1 H v43) fun v44 =>
 bO (aixS 1 v41 v44) fun v45 =>
 bO (ald false 1 H v45) fun v46 =>
 bO (amm imn [v6,v46]) fun v47 =>
 zflZ v47 H K)
 (zflZ v6 H K)
theorem disk_Disk_asked_eq (a0 a1 a2 : AV) (H : AH) (K : AV→AH→Prop) : sFun Tryz.prog znkZ pqf none0 none0 zndZ Tryz.f43 [a0,a1,a2] H K=znbZ a0 a1 a2 H K:=by kernel_rfl
theorem disk_Disk_asked_ok {a0 a1 a2 : AV} {H : AH} {K : AV→AH→Prop} (h : znbZ a0 a1 a2 H K) : ∃ r H',K r H'∧BCall Tryz.prog 43 [a0,a1,a2] H r H' :=
 sFun_ok mixP Tryz.func43 (by kernel_rfl) (Eq.mpr (disk_Disk_asked_eq a0 a1 a2 H K) h)
def disk_Disk_fails_fl : Floats:=flOf []
def disk_Disk_fails_kp : Nat→Option (List Bool):=kpOf []
def zmlZ (a0 a1 : AV) (H : AH) (K : AV→AH→Prop) : Prop :=
 bO (zdZ a0) fun v0 =>
 bO (ashift 1 v0) fun v1 =>
 bO (ald false 1 H v1) fun v2 =>
 bO (alk (.int .i64) (.bool false) H v2 a1 false) fun v3 =>
 bG v3 false fun w4 =>
 gO w4 (some a0) fun v5 =>
 bG v3 false fun w6 =>
 gO w6 (zdZ v5) fun v7 =>
 bG v3 false fun w8 =>
 gO w8 (ashift 2 v7) fun v9 =>
 bG v3 false fun w10 =>
 gO w10 (ald false 1 H v9) fun v11 =>
 bG v3 false fun w12 =>
 gO w12 (some a1) fun v13 =>
 bG v3 false fun w14 =>
 gO w14 (alk (.int .i64) (.int .i64 0) H v11 v13 false) fun v15 =>
 bG v3 false fun w16 =>
 gO w16 (abI .gtr v15 (.lit (.int .i64 0))) fun v17 =>
 bO (apick v3 (.lit (.bool true)) v17) fun v18 =>
 K v18 H
theorem disk_Disk_fails_eq (a0 a1 : AV) (H : AH) (K : AV→AH→Prop) : sFun Tryz.prog disk_Disk_fails_fl pqf none0 none0 disk_Disk_fails_kp Tryz.f44 [a0,a1] H K=zmlZ a0 a1 H K:=by kernel_rfl
theorem disk_Disk_fails_ok {a0 a1 : AV} {H : AH} {K : AV→AH→Prop} (h : zmlZ a0 a1 H K) : ∃ r H',K r H'∧BCall Tryz.prog 44 [a0,a1] H r H' :=
 sFun_ok mixP Tryz.func44 (by kernel_rfl) (Eq.mpr (disk_Disk_fails_eq a0 a1 H K) h)
def loop_Fill_fl : Floats:=flOf []
def loop_Fill_kp : Nat→Option (List Bool):=kpOf [(6,mk 47 0 [0,1,2,8])]
def loop_Fill_c (p : List Bool) (n : Nat) : List AV→AH→Kf→Prop:=sCode Tryz.prog loop_Fill_fl pqf none0 none0 loop_Fill_kp (sub p (bodyOf Tryz.f10)) n
def loop_Fill_L6 (x0 x1 x2 x8 : AV) (H : AH) (K : AV→AH→Prop) : Prop:=lp (mk 47 0 [0,1,2,8]) (loop_Fill_c [true,true,true,false,false,false] 7) [x0,x1,x2,x8] H (kBlk 0 (kSeq (loop_Fill_c [true,true,true,true] 13) (kRet Tryz.prog Tryz.f10.results.toList K)))
def zohZ (R6 : List AV→AH→Prop) (x0 x1 x2 x8 : AV) (H : AH) (K : AV→AH→Prop) : Prop :=
 bO (alnS x8) fun v0 =>
 bO (abI .lss v0 x2) fun v1 =>
 bB v1 fun t2 => bI t2 (
 bO (alnS x8) fun v3 =>
 bO (abI .add x1 v3) fun v4 =>
 bO (alnS x8) fun v5 =>
 bO (abI .sub x2 v5) fun v6 =>
 bC (BCall Tryz.prog 27 [x0,v4,v6] H) fun v7 H8 =>
 bO (zhZ v7 0) fun v9 =>
 bO (zhZ v7 1) fun v10 =>
 bO (alnS v9) fun v11 =>
 bO (abI .eql v11 (.lit (.int .i64 0))) fun v12 =>
 bB v12 fun t13 => bI t13 (
 K (.tup [x8,v10]) H8)
 (bH (aap 1 1 H8 x8 v9) fun v14 H15 =>
 R6 [x0,x1,x2,v14] H15))
 (K (.tup [x8,(.lit (.int .i64 0))]) H)
theorem loop_Fill_L6_eq (R6 : List AV→AH→Prop) (x0 x1 x2 x8 : AV) (H : AH) (K : AV→AH→Prop) : loop_Fill_c [true,true,true,false,false,false] 7 (expand (mk 47 0 [0,1,2,8]) [x0,x1,x2,x8]) H (kLp (mk 47 0 [0,1,2,8]) R6 (kBlk 0 (kSeq (loop_Fill_c [true,true,true,true] 13) (kRet Tryz.prog Tryz.f10.results.toList K))))=zohZ R6 x0 x1 x2 x8 H K:=by kernel_rfl
theorem loop_Fill_L6_rule {K : AV→AH→Prop} (I : Nat→AV→AV→AV→AV→AH→Prop) (round : ∀ (n : Nat) (x0 x1 x2 x8 : AV) (H : AH) (R : List AV→AH→Prop),(∀ (m : Nat) (y0 y1 y2 y8 : AV) (H' : AH),m < n→I m y0 y1 y2 y8 H'→R [y0,y1,y2,y8] H')→I n x0 x1 x2 x8 H→zohZ R x0 x1 x2 x8 H K) (n : Nat) {x0 x1 x2 x8 : AV} {H : AH} (h : I n x0 x1 x2 x8 H) : loop_Fill_L6 x0 x1 x2 x8 H K:=by
 refine lp_upto (zvZ _ _) (LI4 I) ?_ n h
 intro n X H h
 obtain ⟨x0,x1,x2,x8,rfl,h⟩:=h.elim
 exact Eq.mpr (loop_Fill_L6_eq _ x0 x1 x2 x8 H K) (round n x0 x1 x2 x8 H (fun X H' => ∃ m,m < n∧LI4 I m X H') (fun m y0 y1 y2 y8 H' hm hi => ⟨m,hm,hi⟩) h)
def loop_Fill (a0 a1 a2 : AV) (H : AH) (K : AV→AH→Prop) : Prop :=
 bO (abI .lss a1 (.lit (.int .i64 0))) fun v0 =>
 bG v0 false fun w1 =>
 gO w1 (some a2) fun v2 =>
 bG v0 false fun w3 =>
 gO w3 (abI .lss v2 (.lit (.int .i64 0))) fun v4 =>
 bO (apick v0 (.lit (.bool true)) v4) fun v5 =>
 bG v5 false fun w6 =>
 gO w6 (some a2) fun v7 =>
 bG v5 false fun w8 =>
 gO w8 (abI .gtr v7 (.lit (.int .i64 4096))) fun v9 =>
 bO (apick v5 (.lit (.bool true)) v9) fun v10 =>
 bB v10 fun t11 => bI t11 (
 K (.tup [(.lit (.slice none 0 0)),(.lit (.int .i64 5))]) H)
 (loop_Fill_L6 a0 a1 a2 (.lit (.slice none 0 0)) H K)
theorem loop_Fill_eq (a0 a1 a2 : AV) (H : AH) (K : AV→AH→Prop) : sFun Tryz.prog loop_Fill_fl pqf none0 none0 loop_Fill_kp Tryz.f10 [a0,a1,a2] H K=loop_Fill a0 a1 a2 H K:=by kernel_rfl
theorem loop_Fill_ok {a0 a1 a2 : AV} {H : AH} {K : AV→AH→Prop} (h : loop_Fill a0 a1 a2 H K) : ∃ r H',K r H'∧BCall Tryz.prog 10 [a0,a1,a2] H r H' :=
 sFun_ok mixP Tryz.func10 (by kernel_rfl) (Eq.mpr (loop_Fill_eq a0 a1 a2 H K) h)
def loop_Cat_fl : Floats:=flOf []
def loop_Cat_kp : Nat→Option (List Bool):=kpOf [(9,mk 43 0 [0,1,6,8])]
def loop_Cat_c (p : List Bool) (n : Nat) : List AV→AH→Kf→Prop:=sCode Tryz.prog loop_Cat_fl pqf none0 none0 loop_Cat_kp (sub p (bodyOf Tryz.f12)) n
def loop_Cat_L9 (x0 x1 x6 x8 : AV) (H : AH) (K : AV→AH→Prop) : Prop:=lp (mk 43 0 [0,1,6,8]) (loop_Cat_c [true,true,true,true,false,false,false] 10) [x0,x1,x6,x8] H (kBlk 1 (kSeq (loop_Cat_c [true,true,true,true,true] 16) (kRet Tryz.prog Tryz.f12.results.toList K)))
def loop_Cat_L9_b (R9 : List AV→AH→Prop) (x0 x1 x6 x8 : AV) (H : AH) (K : AV→AH→Prop) : Prop :=
 bO (alnS x8) fun v0 =>
 bO (abI .lss v0 x6) fun v1 =>
 bB v1 fun t2 => bI t2 (
 bO (alnS x8) fun v3 =>
 bC (BCall Tryz.prog 32 [x0,x1,v3,(.lit (.int .i64 4096))] H) fun v4 H5 =>
 bO (zhZ v4 0) fun v6 =>
 bO (zhZ v4 1) fun v7 =>
 bO (abI .neq v7 (.lit (.int .i64 0))) fun v8 =>
 bB v8 fun t9 => bI t9 (
 K (.tup [(.lit (.slice none 0 0)),v7]) H5)
 (bH (aap 1 1 H5 x8 v6) fun v10 H11 =>
 R9 [x0,x1,x6,v10] H11))
 (K (.tup [x8,(.lit (.int .i64 0))]) H)
theorem loop_Cat_L9_eq (R9 : List AV→AH→Prop) (x0 x1 x6 x8 : AV) (H : AH) (K : AV→AH→Prop) : loop_Cat_c [true,true,true,true,false,false,false] 10 (expand (mk 43 0 [0,1,6,8]) [x0,x1,x6,x8]) H (kLp (mk 43 0 [0,1,6,8]) R9 (kBlk 1 (kSeq (loop_Cat_c [true,true,true,true,true] 16) (kRet Tryz.prog Tryz.f12.results.toList K))))=loop_Cat_L9_b R9 x0 x1 x6 x8 H K:=by kernel_rfl
theorem loop_Cat_L9_rule {K : AV→AH→Prop} (I : Nat→AV→AV→AV→AV→AH→Prop) (round : ∀ (n : Nat) (x0 x1 x6 x8 : AV) (H : AH) (R : List AV→AH→Prop),(∀ (m : Nat) (y0 y1 y6 y8 : AV) (H' : AH),m < n→I m y0 y1 y6 y8 H'→R [y0,y1,y6,y8] H')→I n x0 x1 x6 x8 H→loop_Cat_L9_b R x0 x1 x6 x8 H K) (n : Nat) {x0 x1 x6 x8 : AV} {H : AH} (h : I n x0 x1 x6 x8 H) : loop_Cat_L9 x0 x1 x6 x8 H K:=by
 refine lp_upto (zvZ _ _) (LI4 I) ?_ n h
 intro n X H h
 obtain ⟨x0,x1,x6,x8,rfl,h⟩:=h.elim
 exact Eq.mpr (loop_Cat_L9_eq _ x0 x1 x6 x8 H K) (round n x0 x1 x6 x8 H (fun X H' => ∃ m,m < n∧LI4 I m X H') (fun m y0 y1 y6 y8 H' hm hi => ⟨m,hm,hi⟩) h)
def loop_Cat (a0 a1 : AV) (H : AH) (K : AV→AH→Prop) : Prop :=
 bC (BCall Tryz.prog 31 [a0,a1] H) fun v0 H1 =>
 bO (zhZ v0 0) fun v2 =>
 bO (zhZ v0 1) fun v3 =>
 bO (abI .neq v3 (.lit (.int .i64 0))) fun v4 =>
 bB v4 fun t5 => bI t5 (
 K (.tup [(.lit (.slice none 0 0)),v3]) H1)
 (bO (abI .gtr v2 (.lit (.int .i64 65536))) fun v6 =>
 bB v6 fun t7 => bI t7 (
 K (.tup [(.lit (.slice none 0 0)),(.lit (.int .i64 5))]) H1)
 (loop_Cat_L9 a0 a1 v2 (.lit (.slice none 0 0)) H1 K))
theorem loop_Cat_eq (a0 a1 : AV) (H : AH) (K : AV→AH→Prop) : sFun Tryz.prog loop_Cat_fl pqf none0 none0 loop_Cat_kp Tryz.f12 [a0,a1] H K=loop_Cat a0 a1 H K:=by kernel_rfl
theorem loop_Cat_ok {a0 a1 : AV} {H : AH} {K : AV→AH→Prop} (h : loop_Cat a0 a1 H K) : ∃ r H',K r H'∧BCall Tryz.prog 12 [a0,a1] H r H' :=
 sFun_ok mixP Tryz.func12 (by kernel_rfl) (Eq.mpr (loop_Cat_eq a0 a1 H K) h)
def loop_Into_fl : Floats:=flOf []
def loop_Into_kp : Nat→Option (List Bool):=kpOf [(200010,mk 37 0 [3,4,6,7,13,14,15,20]),(300010,mk 37 0 [3,4,6,7,10]),(4,mk 37 0 [3,4,6,7,13,14,15])]
def loop_Into_un : Nat→Bool:=inL [200010]
def zerZ (p : List Bool) (n : Nat) : List AV→AH→Kf→Prop:=sCode Tryz.prog loop_Into_fl pqf pqfa loop_Into_un loop_Into_kp (sub p (bodyOf Tryz.f29)) n
def loop_Into_F10 (R4 : List AV→AH→Prop) (x3 x4 x6 x7 x13 x14 x15 x20 : AV) (H : AH) (K : AV→AH→Prop) : Prop:=unF Tryz.prog (sub [true,true,false,true,false,false,true,true,false,false,true,true,false] (bodyOf Tryz.f29)) (expand (mk 37 0 [3,4,6,7,13,14,15,20]) [x3,x4,x6,x7,x13,x14,x15,x20]) H (kBlk 2 (kBlk 1 (kSeq (zerZ [true,true,false,true,false,false,true,true,true] 15) (kLp (mk 37 0 [3,4,6,7,13,14,15]) R4 (kBlk 0 (kSeq (zerZ [true,true,true] 15) (kRet Tryz.prog Tryz.f29.results.toList K)))))))
def loop_Into_L4 (x3 x4 x6 x7 x13 x14 x15 : AV) (H : AH) (K : AV→AH→Prop) : Prop:=lp (mk 37 0 [3,4,6,7,13,14,15]) (zerZ [true,true,false,true,false,false] 5) [x3,x4,x6,x7,x13,x14,x15] H (kBlk 0 (kSeq (zerZ [true,true,true] 15) (kRet Tryz.prog Tryz.f29.results.toList K)))
theorem loop_Into_F10_code : sub [true,true,false,true,false,false,true,true,false,false,true,true,false] (bodyOf Tryz.f29) = .rangeFunc (.tmp 20) #[21] (asgOf (sub [true,true,false,true,false,false,true,true,false,false,true,true,false] (bodyOf Tryz.f29))) (sub [true,true,false,true,false,false,true,true,false,false,true,true,false,true] (bodyOf Tryz.f29)):=by kernel_rfl
def zgvZ (Rf : Exit→AH→Prop) (x3 x4 x6 x7 x10 : AV) (H : AH) (K : AV→AH→Prop) : Prop :=
 bO (ald false 1 H x3) fun v0 =>
 bO (ald false 1 H x4) fun v1 =>
 bO (ald false 1 H x7) fun v2 =>
 bC (BCall Tryz.prog 48 [v0,v1,v2,x10] H) fun v3 H4 =>
 bO (zhZ v3 0) fun v5 =>
 bO (zhZ v3 1) fun v6 =>
 bO (abI .neq v6 (.lit (.int .i64 0))) fun v7 =>
 bB v7 fun t8 => bI t8 (
 bS (ast 1 H4 x6 v6) fun H9 =>
 Rf .ret H9)
 (bO (ald false 1 H4 x7) fun v10 =>
 bO (abI .add v10 v5) fun v11 =>
 bS (ast 1 H4 x7 v11) fun H12 =>
 Rf .normal H12)
theorem loop_Into_F10_eq (Rf : Exit→AH→Prop) (x3 x4 x6 x7 x10 : AV) (H : AH) (K : AV→AH→Prop) : zerZ [true,true,false,true,false,false,true,true,false,false,true,true,false,true] 11 (expand (mk 37 0 [3,4,6,7,10]) [x3,x4,x6,x7,x10]) H (fun e _ H => Rf e H)=zgvZ Rf x3 x4 x6 x7 x10 H K:=by kernel_rfl
theorem loop_Into_F10_kn (R4 : List AV→AH→Prop) (x3 x4 x6 x7 x13 x14 x15 x20 : AV) (H : AH) (K : AV→AH→Prop) : (kBlk 2 (kBlk 1 (kSeq (zerZ [true,true,false,true,false,false,true,true,true] 15) (kLp (mk 37 0 [3,4,6,7,13,14,15]) R4 (kBlk 0 (kSeq (zerZ [true,true,true] 15) (kRet Tryz.prog Tryz.f29.results.toList K))))))) .normal (expand (mk 37 0 [3,4,6,7,13,14,15,20]) [x3,x4,x6,x7,x13,x14,x15,x20]) H=(bO (abI .add x15 (.lit (.int .i64 1))) fun v6 =>
 R4 [x3,x4,x6,x7,x13,x14,v6] H):=by kernel_rfl
theorem loop_Into_F10_kr (R4 : List AV→AH→Prop) (x3 x4 x6 x7 x13 x14 x15 x20 : AV) (H : AH) (K : AV→AH→Prop) : (kBlk 2 (kBlk 1 (kSeq (zerZ [true,true,false,true,false,false,true,true,true] 15) (kLp (mk 37 0 [3,4,6,7,13,14,15]) R4 (kBlk 0 (kSeq (zerZ [true,true,true] 15) (kRet Tryz.prog Tryz.f29.results.toList K))))))) .ret (expand (mk 37 0 [3,4,6,7,13,14,15,20]) [x3,x4,x6,x7,x13,x14,x15,x20]) H=(bO (ald false 1 H x6) fun v7 =>
 K v7 H):=by kernel_rfl
def zonZ (R4 : List AV→AH→Prop) (x3 x4 x6 x7 x13 x14 x15 : AV) (H : AH) (K : AV→AH→Prop) : Prop :=
 bO (abI .lss x15 x14) fun v0 =>
 bB v0 fun t1 => bI t1 (
 bO (aixS 1 x13 x15) fun v2 =>
 bO (ald false 1 H v2) fun v3 =>
 bC (BCall Tryz.prog 47 [v3,(.lit (.int .i64 4096))] H) fun v4 H5 =>
 loop_Into_F10 R4 x3 x4 x6 x7 x13 x14 x15 v4 H5 K)
 (bS (ast 1 H x6 (.lit (.int .i64 0))) fun H8 =>
 bO (ald false 1 H8 x6) fun v9 =>
 K v9 H8)
theorem loop_Into_L4_eq (R4 : List AV→AH→Prop) (x3 x4 x6 x7 x13 x14 x15 : AV) (H : AH) (K : AV→AH→Prop) : zerZ [true,true,false,true,false,false] 5 (expand (mk 37 0 [3,4,6,7,13,14,15]) [x3,x4,x6,x7,x13,x14,x15]) H (kLp (mk 37 0 [3,4,6,7,13,14,15]) R4 (kBlk 0 (kSeq (zerZ [true,true,true] 15) (kRet Tryz.prog Tryz.f29.results.toList K))))=zonZ R4 x3 x4 x6 x7 x13 x14 x15 H K:=by kernel_rfl
theorem loop_Into_L4_rule {K : AV→AH→Prop} (I : Nat→AV→AV→AV→AV→AV→AV→AV→AH→Prop) (round : ∀ (n : Nat) (x3 x4 x6 x7 x13 x14 x15 : AV) (H : AH) (R : List AV→AH→Prop),(∀ (m : Nat) (y3 y4 y6 y7 y13 y14 y15 : AV) (H' : AH),m < n→I m y3 y4 y6 y7 y13 y14 y15 H'→R [y3,y4,y6,y7,y13,y14,y15] H')→I n x3 x4 x6 x7 x13 x14 x15 H→zonZ R x3 x4 x6 x7 x13 x14 x15 H K) (n : Nat) {x3 x4 x6 x7 x13 x14 x15 : AV} {H : AH} (h : I n x3 x4 x6 x7 x13 x14 x15 H) : loop_Into_L4 x3 x4 x6 x7 x13 x14 x15 H K:=by
 refine lp_mono (zfmZ _ _) (LI7 I) ?_ n h
 intro n X H h
 obtain ⟨x3,x4,x6,x7,x13,x14,x15,rfl,h⟩:=h.elim
 exact Eq.mpr (loop_Into_L4_eq _ x3 x4 x6 x7 x13 x14 x15 H K) (round n x3 x4 x6 x7 x13 x14 x15 H (fun X H' => ∃ m,m < n∧LI7 I m X H') (fun m y3 y4 y6 y7 y13 y14 y15 H' hm hi => ⟨m,hm,hi⟩) h)
def loop_Into (a0 a1 a2 : AV) (H : AH) (K : AV→AH→Prop) : Prop :=
 bH (anew H a0) fun v0 H1 =>
 bH (anew H1 a1) fun v2 H3 =>
 bH (anew H3 (.lit (.int .i64 0))) fun v4 H5 =>
 bH (anew H5 (.lit (.int .i64 0))) fun v6 H7 =>
 bS (ast 1 H7 v6 (.lit (.int .i64 0))) fun H8 =>
 bO (alnS a2) fun v9 =>
 loop_Into_L4 v0 v2 v4 v6 a2 v9 (.lit (.int .i64 0)) H8 K
theorem loop_Into_eq (a0 a1 a2 : AV) (H : AH) (K : AV→AH→Prop) : sFun Tryz.prog loop_Into_fl pqf pqfa loop_Into_un loop_Into_kp Tryz.f29 [a0,a1,a2] H K=loop_Into a0 a1 a2 H K:=by kernel_rfl
theorem loop_Into_ok {a0 a1 a2 : AV} {H : AH} {K : AV→AH→Prop} (h : loop_Into a0 a1 a2 H K) : ACalls Tryz.prog 29 [a0,a1,a2] H K :=
 sFun_wp mixP Tryz.func29 (by kernel_rfl) (Eq.mpr (loop_Into_eq a0 a1 a2 H K) h)
def loop_Put_fl : Floats:=flOf []
def loop_Put_kp : Nat→Option (List Bool):=kpOf []
def loop_Put_un : Nat→Bool:=inL []
def loop_Put (a0 a1 a2 : AV) (H : AH) (K : AV→AH→Prop) : Prop :=
 bC (BCall Tryz.prog 23 [a0,a1,(.lit (.bool true))] H) fun v0 H1 =>
 bO (zhZ v0 0) fun v2 =>
 bO (zhZ v0 1) fun v3 =>
 bO (abI .neq v3 (.lit (.int .i64 0))) fun v4 =>
 bB v4 fun t5 => bI t5 (
 K v3 H1)
 (bC (BCall Tryz.prog 28 [a0,v2,(.lit (.int .i64 0))] H1) fun v6 H7 =>
 bO (abI .neq v6 (.lit (.int .i64 0))) fun v8 =>
 bB v8 fun t9 => bI t9 (
 K v6 H7)
 (bA (ACalls Tryz.prog 29 [a0,v2,a2] H7) fun v10 H11 =>
 bO (abI .neq v10 (.lit (.int .i64 0))) fun v12 =>
 bB v12 fun t13 => bI t13 (
 K v10 H11)
 (bH (absl H11 1 1 (zrow [(.lit (.int .i64 0))] 1) [(0,1,v2)]) fun v14 H15 =>
 bC (BCall Tryz.prog 30 [a0,v14] H15) fun v16 H17 =>
 K v16 H17)))
theorem loop_Put_eq (a0 a1 a2 : AV) (H : AH) (K : AV→AH→Prop) : sFun Tryz.prog loop_Put_fl pqf pqfa loop_Put_un loop_Put_kp Tryz.f11 [a0,a1,a2] H K=loop_Put a0 a1 a2 H K:=by kernel_rfl
theorem loop_Put_ok {a0 a1 a2 : AV} {H : AH} {K : AV→AH→Prop} (h : loop_Put a0 a1 a2 H K) : ACalls Tryz.prog 11 [a0,a1,a2] H K :=
 sFun_wp mixP Tryz.func11 (by kernel_rfl) (Eq.mpr (loop_Put_eq a0 a1 a2 H K) h)
def zlrZ : Floats:=flOf []
def zmdZ : Nat→Option (List Bool):=kpOf [(3,mk 21 0 [1,2,5])]
def zfnZ (p : List Bool) (n : Nat) : List AV→AH→Kf→Prop:=sCode Tryz.prog zlrZ pqf none0 none0 zmdZ (sub p (bodyOf Tryz.f15)) n
def zlzZ (x1 x2 x5 : AV) (H : AH) (K : AV→AH→Prop) : Prop:=lp (mk 21 0 [1,2,5]) (zfnZ [true,false,true,false,false] 4) [x1,x2,x5] H (kBlk 0 (kSeq (zfnZ [true,true] 9) (kRet Tryz.prog Tryz.f15.results.toList K)))
def zfwZ (R3 : List AV→AH→Prop) (x1 x2 x5 : AV) (H : AH) (K : AV→AH→Prop) : Prop :=
 bO (ashift 1 x2) fun v0 =>
 bO (ald false 1 H v0) fun v1 =>
 bO (alnS v1) fun v2 =>
 bO (abI .lss x5 v2) fun v3 =>
 bB v3 fun t4 => bI t4 (
 bO (ashift 1 x2) fun v5 =>
 bO (ald false 1 H v5) fun v6 =>
 bO (aixS 1 v6 x5) fun v7 =>
 bO (ald false 1 H v7) fun v8 =>
 bO (abI .quo x1 (.lit (.int .i64 8))) fun v9 =>
 bO (abI .eql v8 v9) fun v10 =>
 bB v10 fun t11 => bI t11 (
 K (.lit (.bool true)) H)
 (bO (abI .add x5 (.lit (.int .i64 1))) fun v12 =>
 R3 [x1,x2,v12] H))
 (K (.lit (.bool false)) H)
theorem zpsZ (R3 : List AV→AH→Prop) (x1 x2 x5 : AV) (H : AH) (K : AV→AH→Prop) : zfnZ [true,false,true,false,false] 4 (expand (mk 21 0 [1,2,5]) [x1,x2,x5]) H (kLp (mk 21 0 [1,2,5]) R3 (kBlk 0 (kSeq (zfnZ [true,true] 9) (kRet Tryz.prog Tryz.f15.results.toList K))))=zfwZ R3 x1 x2 x5 H K:=by kernel_rfl
theorem znlZ {K : AV→AH→Prop} (I : Nat→AV→AV→AV→AH→Prop) (round : ∀ (n : Nat) (x1 x2 x5 : AV) (H : AH) (R : List AV→AH→Prop),(∀ (m : Nat) (y1 y2 y5 : AV) (H' : AH),m < n→I m y1 y2 y5 H'→R [y1,y2,y5] H')→I n x1 x2 x5 H→zfwZ R x1 x2 x5 H K) (n : Nat) {x1 x2 x5 : AV} {H : AH} (h : I n x1 x2 x5 H) : zlzZ x1 x2 x5 H K:=by
 refine lp_upto (zvZ _ _) (LI3 I) ?_ n h
 intro n X H h
 obtain ⟨x1,x2,x5,rfl,h⟩:=h.elim
 exact Eq.mpr (zpsZ _ x1 x2 x5 H K) (round n x1 x2 x5 H (fun X H' => ∃ m,m < n∧LI3 I m X H') (fun m y1 y2 y5 H' hm hi => ⟨m,hm,hi⟩) h)
def zlmZ (a0 a1 : AV) (H : AH) (K : AV→AH→Prop) : Prop :=
 bH (anew H a0) fun v0 H1 =>
 zlzZ a1 v0 (.lit (.int .i64 0)) H1 K
theorem salvorkeep_IsBad_eq (a0 a1 : AV) (H : AH) (K : AV→AH→Prop) : sFun Tryz.prog zlrZ pqf none0 none0 zmdZ Tryz.f15 [a0,a1] H K=zlmZ a0 a1 H K:=by kernel_rfl
theorem salvorkeep_IsBad_ok {a0 a1 : AV} {H : AH} {K : AV→AH→Prop} (h : zlmZ a0 a1 H K) : ∃ r H',K r H'∧BCall Tryz.prog 15 [a0,a1] H r H' :=
 sFun_ok mixP Tryz.func15 (by kernel_rfl) (Eq.mpr (salvorkeep_IsBad_eq a0 a1 H K) h)
def zhqZ : Floats:=flOf []
def zhrZ : Nat→Option (List Bool):=kpOf [(16,mk 98 0 [2,4,5,8]),(10,mk 98 0 [1,2,4,5,7]),(4,mk 98 0 [1,2,4,5,6])]
def zfZ (p : List Bool) (n : Nat) : List AV→AH→Kf→Prop:=sCode Tryz.prog zhqZ pqf none0 none0 zhrZ (sub p (bodyOf Tryz.f14)) n
def zeeZ (x2 x4 x5 x8 : AV) (H : AH) (K : AV→AH→Prop) : Prop:=lp (mk 98 0 [2,4,5,8]) (zfZ [true,true,true,true,false,true,false,false] 17) [x2,x4,x5,x8] H (kBlk 4 (kSeq (zfZ [true,true,true,true,true] 20) (kRet Tryz.prog Tryz.f14.results.toList K)))
def zedZ (x1 x2 x4 x5 x7 : AV) (H : AH) (K : AV→AH→Prop) : Prop:=lp (mk 98 0 [1,2,4,5,7]) (zfZ [true,true,true,false,true,false,false] 11) [x1,x2,x4,x5,x7] H (kBlk 2 (kSeq (zfZ [true,true,true,true] 14) (kRet Tryz.prog Tryz.f14.results.toList K)))
def zhnZ (x1 x2 x4 x5 x6 : AV) (H : AH) (K : AV→AH→Prop) : Prop:=lp (mk 98 0 [1,2,4,5,6]) (zfZ [true,true,false,true,false,false] 5) [x1,x2,x4,x5,x6] H (kBlk 0 (kSeq (zfZ [true,true,true] 8) (kRet Tryz.prog Tryz.f14.results.toList K)))
def zdpZ (R16 : List AV→AH→Prop) (x2 x4 x5 x8 : AV) (H : AH) (K : AV→AH→Prop) : Prop :=
 bO (ashift 4 x2) fun v0 =>
 bO (ald false 1 H v0) fun v1 =>
 bO (alnS v1) fun v2 =>
 bO (abI .lss x8 v2) fun v3 =>
 bG v3 true fun w4 =>
 gO w4 (some x8) fun v5 =>
 bG v3 true fun w6 =>
 gO w6 (abI .lss v5 (.lit (.int .i64 60))) fun v7 =>
 bO (apick v3 v7 (.lit (.bool false))) fun v8 =>
 bB v8 fun t9 => bI t9 (
 bO (ashift 3 x5) fun v10 =>
 bO (ald false 1 H v10) fun v11 =>
 bO (ashift 4 x2) fun v12 =>
 bO (ald false 1 H v12) fun v13 =>
 bO (aixS 1 v13 x8) fun v14 =>
 bO (ald false 1 H v14) fun v15 =>
 bO (abI .rem v15 (.lit (.int .u8 40))) fun v16 =>
 bO (acI .i64 v16) fun v17 =>
 bO (absf 1 1 (zrow [(.lit (.int .i64 0))] 1) [(0,1,v17)]) fun v18 =>
 bH (aap 1 8 H v11 v18) fun v19 H20 =>
 bO (ashift 3 x5) fun v21 =>
 bS (ast 1 H20 v21 v19) fun H22 =>
 bO (abI .add x8 (.lit (.int .i64 1))) fun v23 =>
 R16 [x2,x4,x5,v23] H22)
 (bO (ald true 4 H x5) fun v24 =>
 bS (ast 4 H x4 v24) fun H25 =>
 bO (ald true 4 H25 x4) fun v26 =>
 K v26 H25)
theorem zkeZ (R16 : List AV→AH→Prop) (x2 x4 x5 x8 : AV) (H : AH) (K : AV→AH→Prop) : zfZ [true,true,true,true,false,true,false,false] 17 (expand (mk 98 0 [2,4,5,8]) [x2,x4,x5,x8]) H (kLp (mk 98 0 [2,4,5,8]) R16 (kBlk 4 (kSeq (zfZ [true,true,true,true,true] 20) (kRet Tryz.prog Tryz.f14.results.toList K))))=zdpZ R16 x2 x4 x5 x8 H K:=by kernel_rfl
theorem zjjZ {K : AV→AH→Prop} (I : Nat→AV→AV→AV→AV→AH→Prop) (round : ∀ (n : Nat) (x2 x4 x5 x8 : AV) (H : AH) (R : List AV→AH→Prop),(∀ (m : Nat) (y2 y4 y5 y8 : AV) (H' : AH),m < n→I m y2 y4 y5 y8 H'→R [y2,y4,y5,y8] H')→I n x2 x4 x5 x8 H→zdpZ R x2 x4 x5 x8 H K) (n : Nat) {x2 x4 x5 x8 : AV} {H : AH} (h : I n x2 x4 x5 x8 H) : zeeZ x2 x4 x5 x8 H K:=by
 refine lp_upto (zvZ _ _) (LI4 I) ?_ n h
 intro n X H h
 obtain ⟨x2,x4,x5,x8,rfl,h⟩:=h.elim
 exact Eq.mpr (zkeZ _ x2 x4 x5 x8 H K) (round n x2 x4 x5 x8 H (fun X H' => ∃ m,m < n∧LI4 I m X H') (fun m y2 y4 y5 y8 H' hm hi => ⟨m,hm,hi⟩) h)
def zdsZ (R10 : List AV→AH→Prop) (x1 x2 x4 x5 x7 : AV) (H : AH) (K : AV→AH→Prop) : Prop :=
 bO (abI .add x7 (.lit (.int .i64 1))) fun v0 =>
 bO (ashift 3 x2) fun v1 =>
 bO (ald false 1 H v1) fun v2 =>
 bO (alnS v2) fun v3 =>
 bO (abI .lss v0 v3) fun v4 =>
 bG v4 true fun w5 =>
 gO w5 (some x7) fun v6 =>
 bG v4 true fun w7 =>
 gO w7 (abI .lss v6 (.lit (.int .i64 20))) fun v8 =>
 bO (apick v4 v8 (.lit (.bool false))) fun v9 =>
 bB v9 fun t10 => bI t10 (
 bO (ashift 2 x5) fun v11 =>
 bO (ald false 1 H v11) fun v12 =>
 bO (ashift 3 x2) fun v13 =>
 bO (ald false 1 H v13) fun v14 =>
 bO (aixS 1 v14 x7) fun v15 =>
 bO (ald false 1 H v15) fun v16 =>
 bO (abI .rem v16 (.lit (.int .u8 34))) fun v17 =>
 bO (acI .i64 v17) fun v18 =>
 bO (ashift 3 x2) fun v19 =>
 bO (ald false 1 H v19) fun v20 =>
 bO (abI .add x7 (.lit (.int .i64 1))) fun v21 =>
 bO (aixS 1 v20 v21) fun v22 =>
 bO (ald false 1 H v22) fun v23 =>
 bO (acI .i64 v23) fun v24 =>
 bO (abI .add x1 (.lit (.int .i64 1))) fun v25 =>
 bO (abI .rem v24 v25) fun v26 =>
 bO (abl [(.lit (.int .i64 0)),(.lit (.int .i64 0))] [(0,1,v18),(1,1,v26)]) fun v27 =>
 bO (absf 2 1 (zrow [(.lit (.int .i64 0)),(.lit (.int .i64 0))] 1) [(0,2,v27)]) fun v28 =>
 bH (aap 2 16 H v12 v28) fun v29 H30 =>
 bO (ashift 2 x5) fun v31 =>
 bS (ast 1 H30 v31 v29) fun H32 =>
 bO (abI .add x7 (.lit (.int .i64 2))) fun v33 =>
 R10 [x1,x2,x4,x5,v33] H32)
 (zeeZ x2 x4 x5 (.lit (.int .i64 0)) H K)
theorem zkfZ (R10 : List AV→AH→Prop) (x1 x2 x4 x5 x7 : AV) (H : AH) (K : AV→AH→Prop) : zfZ [true,true,true,false,true,false,false] 11 (expand (mk 98 0 [1,2,4,5,7]) [x1,x2,x4,x5,x7]) H (kLp (mk 98 0 [1,2,4,5,7]) R10 (kBlk 2 (kSeq (zfZ [true,true,true,true] 14) (kRet Tryz.prog Tryz.f14.results.toList K))))=zdsZ R10 x1 x2 x4 x5 x7 H K:=by kernel_rfl
theorem zjhZ {K : AV→AH→Prop} (I : Nat→AV→AV→AV→AV→AV→AH→Prop) (round : ∀ (n : Nat) (x1 x2 x4 x5 x7 : AV) (H : AH) (R : List AV→AH→Prop),(∀ (m : Nat) (y1 y2 y4 y5 y7 : AV) (H' : AH),m < n→I m y1 y2 y4 y5 y7 H'→R [y1,y2,y4,y5,y7] H')→I n x1 x2 x4 x5 x7 H→zdsZ R x1 x2 x4 x5 x7 H K) (n : Nat) {x1 x2 x4 x5 x7 : AV} {H : AH} (h : I n x1 x2 x4 x5 x7 H) : zedZ x1 x2 x4 x5 x7 H K:=by
 refine lp_upto (zvZ _ _) (LI5 I) ?_ n h
 intro n X H h
 obtain ⟨x1,x2,x4,x5,x7,rfl,h⟩:=h.elim
 exact Eq.mpr (zkfZ _ x1 x2 x4 x5 x7 H K) (round n x1 x2 x4 x5 x7 H (fun X H' => ∃ m,m < n∧LI5 I m X H') (fun m y1 y2 y4 y5 y7 H' hm hi => ⟨m,hm,hi⟩) h)
def zduZ (R4 : List AV→AH→Prop) (x1 x2 x4 x5 x6 : AV) (H : AH) (K : AV→AH→Prop) : Prop :=
 bO (ashift 2 x2) fun v0 =>
 bO (ald false 1 H v0) fun v1 =>
 bO (alnS v1) fun v2 =>
 bO (abI .lss x6 v2) fun v3 =>
 bG v3 true fun w4 =>
 gO w4 (some x6) fun v5 =>
 bG v3 true fun w6 =>
 gO w6 (abI .lss v5 (.lit (.int .i64 20))) fun v7 =>
 bO (apick v3 v7 (.lit (.bool false))) fun v8 =>
 bB v8 fun t9 => bI t9 (
 bO (ashift 1 x5) fun v10 =>
 bO (ald false 1 H v10) fun v11 =>
 bO (ashift 2 x2) fun v12 =>
 bO (ald false 1 H v12) fun v13 =>
 bO (aixS 1 v13 x6) fun v14 =>
 bO (ald false 1 H v14) fun v15 =>
 bO (abI .rem v15 (.lit (.int .u8 34))) fun v16 =>
 bO (acI .i64 v16) fun v17 =>
 bO (absf 1 1 (zrow [(.lit (.int .i64 0))] 1) [(0,1,v17)]) fun v18 =>
 bH (aap 1 8 H v11 v18) fun v19 H20 =>
 bO (ashift 1 x5) fun v21 =>
 bS (ast 1 H20 v21 v19) fun H22 =>
 bO (abI .add x6 (.lit (.int .i64 1))) fun v23 =>
 R4 [x1,x2,x4,x5,v23] H22)
 (zedZ x1 x2 x4 x5 (.lit (.int .i64 0)) H K)
theorem zleZ (R4 : List AV→AH→Prop) (x1 x2 x4 x5 x6 : AV) (H : AH) (K : AV→AH→Prop) : zfZ [true,true,false,true,false,false] 5 (expand (mk 98 0 [1,2,4,5,6]) [x1,x2,x4,x5,x6]) H (kLp (mk 98 0 [1,2,4,5,6]) R4 (kBlk 0 (kSeq (zfZ [true,true,true] 8) (kRet Tryz.prog Tryz.f14.results.toList K))))=zduZ R4 x1 x2 x4 x5 x6 H K:=by kernel_rfl
theorem zjuZ {K : AV→AH→Prop} (I : Nat→AV→AV→AV→AV→AV→AH→Prop) (round : ∀ (n : Nat) (x1 x2 x4 x5 x6 : AV) (H : AH) (R : List AV→AH→Prop),(∀ (m : Nat) (y1 y2 y4 y5 y6 : AV) (H' : AH),m < n→I m y1 y2 y4 y5 y6 H'→R [y1,y2,y4,y5,y6] H')→I n x1 x2 x4 x5 x6 H→zduZ R x1 x2 x4 x5 x6 H K) (n : Nat) {x1 x2 x4 x5 x6 : AV} {H : AH} (h : I n x1 x2 x4 x5 x6 H) : zhnZ x1 x2 x4 x5 x6 H K:=by
 refine lp_upto (zvZ _ _) (LI5 I) ?_ n h
 intro n X H h
 obtain ⟨x1,x2,x4,x5,x6,rfl,h⟩:=h.elim
 exact Eq.mpr (zleZ _ x1 x2 x4 x5 x6 H K) (round n x1 x2 x4 x5 x6 H (fun X H' => ∃ m,m < n∧LI5 I m X H') (fun m y1 y2 y4 y5 y6 H' hm hi => ⟨m,hm,hi⟩) h)
def zfvZ (a0 a1 : AV) (H : AH) (K : AV→AH→Prop) : Prop :=
 bH (anew H a0) fun v0 H1 =>
 bH (anew H1 (.agg [(.lit (.slice none 0 0)),(.lit (.slice none 0 0)),(.lit (.slice none 0 0)),(.lit (.slice none 0 0))])) fun v2 H3 =>
 bO (ashift 1 v0) fun v4 =>
 bO (ald false 1 H3 v4) fun v5 =>
 bO (ashift 0 v0) fun v6 =>
 bO (ald false 1 H3 v6) fun v7 =>
 bO (acI .i64 v7) fun v8 =>
 bP (PCall Tryz.prog 16 [v5,v8] H3) fun v9 =>
 bO (abl [(.lit (.slice none 0 0)),(.lit (.slice none 0 0)),(.lit (.slice none 0 0)),(.lit (.slice none 0 0))] [(0,1,v9)]) fun v10 =>
 bH (anew H3 (.agg [(.lit (.slice none 0 0)),(.lit (.slice none 0 0)),(.lit (.slice none 0 0)),(.lit (.slice none 0 0))])) fun v11 H12 =>
 bS (ast 4 H12 v11 v10) fun H13 =>
 zhnZ a1 v0 v2 v11 (.lit (.int .i64 0)) H13 K
theorem znsZ (a0 a1 : AV) (H : AH) (K : AV→AH→Prop) : sFun Tryz.prog zhqZ pqf none0 none0 zhrZ Tryz.f14 [a0,a1] H K=zfvZ a0 a1 H K:=by kernel_rfl
theorem znrZ {a0 a1 : AV} {H : AH} {K : AV→AH→Prop} (h : zfvZ a0 a1 H K) : ∃ r H',K r H'∧BCall Tryz.prog 14 [a0,a1] H r H' :=
 sFun_ok mixP Tryz.func14 (by kernel_rfl) (Eq.mpr (znsZ a0 a1 H K) h)
def zokZ : Floats:=flOf []
def zoqZ : Nat→Option (List Bool):=kpOf []
def zovZ : Nat→Bool:=inL []
def zgdZ (H : AH) (K : AV→AH→Prop) : Prop :=
 bH (absl H 1 8 (zrow [(.lit (.int .u8 0))] 8) [(0,1,(.lit (.int .u8 97))),(1,1,(.lit (.int .u8 98))),(2,1,(.lit (.int .u8 99))),(3,1,(.lit (.int .u8 100))),(4,1,(.lit (.int .u8 101))),(5,1,(.lit (.int .u8 102))),(6,1,(.lit (.int .u8 103))),(7,1,(.lit (.int .u8 104)))]) fun v0 H1 =>
 bH (acvS H1 v0) fun v2 H3 =>
 bH (absl H3 1 2 (zrow [(.lit (.int .i64 0))] 2) [(0,1,(.lit (.int .i64 3))),(1,1,(.lit (.int .i64 3)))]) fun v4 H5 =>
 bO (abl [(.lit (.slice none 0 0)),(.lit (.slice none 0 0)),(.lit (.slice none 0 0)),(.lit (.slice none 0 0))] [(0,1,v2),(3,1,v4)]) fun v6 =>
 bA (ACalls Tryz.prog 8 [v6] H5) fun v7 H8 =>
 bC (BCall Tryz.prog 9 [(.lit (.int .i64 9))] H8) fun v9 H10 =>
 bO (abN .eql nilP v7 (.lit (.pointer none))) fun v11 =>
 bG v11 false fun w12 =>
 gO w12 (some v9) fun v13 =>
 bG v11 false fun w14 =>
 gO w14 (abN .eql nilP v13 (.lit (.pointer none))) fun v15 =>
 bO (apick v11 (.lit (.bool true)) v15) fun v16 =>
 bB v16 fun t17 => bI t17 (
 K (.lit (.bool false)) H10)
 (bC (BCall Tryz.prog 10 [v7,(.lit (.int .i64 0)),(.lit (.int .i64 8))] H10) fun v18 H19 =>
 bO (zhZ v18 0) fun v20 =>
 bO (zhZ v18 1) fun v21 =>
 bH (absl H19 1 1 (zrow [(.lit (.int .u8 0))] 1) [(0,1,(.lit (.int .u8 105)))]) fun v22 H23 =>
 bH (acvS H23 v22) fun v24 H25 =>
 bH (absl H25 1 2 (zrow [(.lit (.slice none 0 0))] 2) [(0,1,v20),(1,1,v24)]) fun v26 H27 =>
 bA (ACalls Tryz.prog 11 [v9,(.lit (.string ⟨#[97]⟩)),v26] H27) fun v28 H29 =>
 bC (BCall Tryz.prog 12 [v9,(.lit (.int .i64 1))] H29) fun v30 H31 =>
 bO (zhZ v30 0) fun v32 =>
 bO (zhZ v30 1) fun v33 =>
 bO (acB H31 v20) fun v34 =>
 bO (abT .eql v34 (.lit (.string ⟨#[97,98,99,100,101,102,103,104]⟩))) fun v35 =>
 bG v35 true fun w36 =>
 gO w36 (some v21) fun v37 =>
 bG v35 true fun w38 =>
 gO w38 (abI .eql v37 (.lit (.int .i64 0))) fun v39 =>
 bO (apick v35 v39 (.lit (.bool false))) fun v40 =>
 bG v40 true fun w41 =>
 gO w41 (some v7) fun v42 =>
 bG v40 true fun w43 =>
 gC w43 (BCall Tryz.prog 13 [v42] H31) H31 fun v44 H45 =>
 bG v40 true fun w46 =>
 gO w46 (abI .eql v44 (.lit (.int .i64 3))) fun v47 =>
 bO (apick v40 v47 (.lit (.bool false))) fun v48 =>
 bG v48 true fun w49 =>
 gO w49 (some v28) fun v50 =>
 bG v48 true fun w51 =>
 gO w51 (abI .eql v50 (.lit (.int .i64 0))) fun v52 =>
 bO (apick v48 v52 (.lit (.bool false))) fun v53 =>
 bG v53 true fun w54 =>
 gO w54 (some v32) fun v55 =>
 bG v53 true fun w56 =>
 gO w56 (acB H45 v55) fun v57 =>
 bG v53 true fun w58 =>
 gO w58 (abT .eql v57 (.lit (.string ⟨#[97,98,99,100,101,102,103,104,105]⟩))) fun v59 =>
 bO (apick v53 v59 (.lit (.bool false))) fun v60 =>
 bG v60 true fun w61 =>
 gO w61 (some v33) fun v62 =>
 bG v60 true fun w63 =>
 gO w63 (abI .eql v62 (.lit (.int .i64 0))) fun v64 =>
 bO (apick v60 v64 (.lit (.bool false))) fun v65 =>
 K v65 H45)
theorem zofZ (H : AH) (K : AV→AH→Prop) : sFun Tryz.prog zokZ pqf pqfa zovZ zoqZ Tryz.f3 [] H K=zgdZ H K:=by kernel_rfl
theorem zpfZ {H : AH} {K : AV→AH→Prop} (h : zgdZ H K) : ACalls Tryz.prog 3 [] H K :=
 sFun_wp mixP Tryz.func3 (by kernel_rfl) (Eq.mpr (zofZ H K) h)
def zhoZ : Floats:=flOf []
def zhtZ : Nat→Option (List Bool):=kpOf [(10,mk 106 0 [7,9,10,11,12,13])]
def zhuZ : Nat→Bool:=inL []
def zdmZ (p : List Bool) (n : Nat) : List AV→AH→Kf→Prop:=sCode Tryz.prog zhoZ pqf pqfa zhuZ zhtZ (sub p (bodyOf Tryz.f4)) n
def zgeZ (x7 x9 x10 x11 x12 x13 : AV) (H : AH) (K : AV→AH→Prop) : Prop:=lp (mk 106 0 [7,9,10,11,12,13]) (zdmZ [true,true,true,true,true,true,true,false,false,false] 11) [x7,x9,x10,x11,x12,x13] H (kBlk 0 (kSeq (zdmZ [true,true,true,true,true,true,true,true] 13) (kRet Tryz.prog Tryz.f4.results.toList K)))
def zdoZ (R10 : List AV→AH→Prop) (x7 x9 x10 x11 x12 x13 : AV) (H : AH) (K : AV→AH→Prop) : Prop :=
 bO (abI .lss x13 x10) fun v0 =>
 bG v0 true fun w1 =>
 gO w1 (some x9) fun v2 =>
 bG v0 true fun w3 =>
 gO w3 (some x13) fun v4 =>
 bG v0 true fun w5 =>
 gO w5 (abI .add v2 v4) fun v6 =>
 bG v0 true fun w7 =>
 gO w7 (ashift 0 x7) fun v8 =>
 bG v0 true fun w9 =>
 gO w9 (ald false 1 H v8) fun v10 =>
 bG v0 true fun w11 =>
 gO w11 (alnS v10) fun v12 =>
 bG v0 true fun w13 =>
 gO w13 (abI .lss v6 v12) fun v14 =>
 bO (apick v0 v14 (.lit (.bool false))) fun v15 =>
 bG v15 true fun w16 =>
 gO w16 (ald true 4 H x7) fun v17 =>
 bG v15 true fun w18 =>
 gO w18 (some x9) fun v19 =>
 bG v15 true fun w20 =>
 gO w20 (some x13) fun v21 =>
 bG v15 true fun w22 =>
 gO w22 (abI .add v19 v21) fun v23 =>
 bG v15 true fun w24 =>
 gC w24 (BCall Tryz.prog 15 [v17,v23] H) H fun v25 H26 =>
 bG v15 true fun w27 =>
 gO w27 (aun .not v25) fun v28 =>
 bO (apick v15 v28 (.lit (.bool false))) fun v29 =>
 bB v29 fun t30 => bI t30 (
 bO (abI .add x13 (.lit (.int .i64 1))) fun v31 =>
 R10 [x7,x9,x10,x11,x12,v31] H26)
 (bO (abI .lss x13 x10) fun v32 =>
 bG v32 true fun w33 =>
 gO w33 (some x9) fun v34 =>
 bG v32 true fun w35 =>
 gO w35 (some x13) fun v36 =>
 bG v32 true fun w37 =>
 gO w37 (abI .add v34 v36) fun v38 =>
 bG v32 true fun w39 =>
 gO w39 (ashift 0 x7) fun v40 =>
 bG v32 true fun w41 =>
 gO w41 (ald false 1 H26 v40) fun v42 =>
 bG v32 true fun w43 =>
 gO w43 (alnS v42) fun v44 =>
 bG v32 true fun w45 =>
 gO w45 (abI .lss v38 v44) fun v46 =>
 bO (apick v32 v46 (.lit (.bool false))) fun v47 =>
 bO (alnS x11) fun v48 =>
 bO (abI .eql v48 x13) fun v49 =>
 bG v49 true fun w50 =>
 gO w50 (some x11) fun v51 =>
 bG v49 true fun w52 =>
 gO w52 (acB H26 v51) fun v53 =>
 bG v49 true fun w54 =>
 gO w54 (ashift 0 x7) fun v55 =>
 bG v49 true fun w56 =>
 gO w56 (ald false 1 H26 v55) fun v57 =>
 bG v49 true fun w58 =>
 gO w58 (some x9) fun v59 =>
 bG v49 true fun w60 =>
 gO w60 (ashift 0 x7) fun v61 =>
 bG v49 true fun w62 =>
 gO w62 (ald false 1 H26 v61) fun v63 =>
 bG v49 true fun w64 =>
 gO w64 (alnS v63) fun v65 =>
 bG v49 true fun w66 =>
 gO w66 (amm imn [v59,v65]) fun v67 =>
 bG v49 true fun w68 =>
 gO w68 (some x9) fun v69 =>
 bG v49 true fun w70 =>
 gO w70 (ashift 0 x7) fun v71 =>
 bG v49 true fun w72 =>
 gO w72 (ald false 1 H26 v71) fun v73 =>
 bG v49 true fun w74 =>
 gO w74 (alnS v73) fun v75 =>
 bG v49 true fun w76 =>
 gO w76 (amm imn [v69,v75]) fun v77 =>
 bG v49 true fun w78 =>
 gO w78 (some x13) fun v79 =>
 bG v49 true fun w80 =>
 gO w80 (abI .add v77 v79) fun v81 =>
 bG v49 true fun w82 =>
 gO w82 (aslS 1 v57 (some v67) (some v81) none) fun v83 =>
 bG v49 true fun w84 =>
 gO w84 (acB H26 v83) fun v85 =>
 bG v49 true fun w86 =>
 gO w86 (abT .eql v53 v85) fun v87 =>
 bO (apick v49 v87 (.lit (.bool false))) fun v88 =>
 bG v88 true fun w89 =>
 gO w89 (some x12) fun v90 =>
 bG v88 true fun w91 =>
 gO w91 (abI .eql v90 (.lit (.int .i64 1))) fun v92 =>
 bG v88 true fun w93 =>
 gO w93 (some v47) fun v94 =>
 bG v88 true fun w95 =>
 gO w95 (abB .eql v92 v94) fun v96 =>
 bO (apick v88 v96 (.lit (.bool false))) fun v97 =>
 bG v97 true fun w98 =>
 gO w98 (some x12) fun v99 =>
 bG v97 true fun w100 =>
 gO w100 (abI .eql v99 (.lit (.int .i64 0))) fun v101 =>
 bG v97 true fun w102 =>
 gO w102 (some v47) fun v103 =>
 bG v97 true fun w104 =>
 gO w104 (abB .neq v101 v103) fun v105 =>
 bO (apick v97 v105 (.lit (.bool false))) fun v106 =>
 bG v106 true fun w107 =>
 gP w107 (BPure Tryz.prog 3 []) fun v108 =>
 bO (apick v106 v108 (.lit (.bool false))) fun v109 =>
 K v109 H26)
theorem zkdZ (R10 : List AV→AH→Prop) (x7 x9 x10 x11 x12 x13 : AV) (H : AH) (K : AV→AH→Prop) : zdmZ [true,true,true,true,true,true,true,false,false,false] 11 (expand (mk 106 0 [7,9,10,11,12,13]) [x7,x9,x10,x11,x12,x13]) H (kLp (mk 106 0 [7,9,10,11,12,13]) R10 (kBlk 0 (kSeq (zdmZ [true,true,true,true,true,true,true,true] 13) (kRet Tryz.prog Tryz.f4.results.toList K))))=zdoZ R10 x7 x9 x10 x11 x12 x13 H K:=by kernel_rfl
theorem zjkZ {K : AV→AH→Prop} (I : Nat→AV→AV→AV→AV→AV→AV→AH→Prop) (round : ∀ (n : Nat) (x7 x9 x10 x11 x12 x13 : AV) (H : AH) (R : List AV→AH→Prop),(∀ (m : Nat) (y7 y9 y10 y11 y12 y13 : AV) (H' : AH),m < n→I m y7 y9 y10 y11 y12 y13 H'→R [y7,y9,y10,y11,y12,y13] H')→I n x7 x9 x10 x11 x12 x13 H→zdoZ R x7 x9 x10 x11 x12 x13 H K) (n : Nat) {x7 x9 x10 x11 x12 x13 : AV} {H : AH} (h : I n x7 x9 x10 x11 x12 x13 H) : zgeZ x7 x9 x10 x11 x12 x13 H K:=by
 refine lp_mono (zfmZ _ _) (LI6 I) ?_ n h
 intro n X H h
 obtain ⟨x7,x9,x10,x11,x12,x13,rfl,h⟩:=h.elim
 exact Eq.mpr (zkdZ _ x7 x9 x10 x11 x12 x13 H K) (round n x7 x9 x10 x11 x12 x13 H (fun X H' => ∃ m,m < n∧LI6 I m X H') (fun m y7 y9 y10 y11 y12 y13 H' hm hi => ⟨m,hm,hi⟩) h)
def zfsZ (a0 a1 a2 : AV) (H : AH) (K : AV→AH→Prop) : Prop :=
 bH (anew H a0) fun v0 H1 =>
 bO (ald true 5 H1 v0) fun v2 =>
 bC (BCall Tryz.prog 14 [v2,(.lit (.int .i64 0))] H1) fun v3 H4 =>
 bH (anew H4 (.agg [(.lit (.slice none 0 0)),(.lit (.slice none 0 0)),(.lit (.slice none 0 0)),(.lit (.slice none 0 0))])) fun v5 H6 =>
 bS (ast 4 H6 v5 v3) fun H7 =>
 bO (ald true 4 H7 v5) fun v8 =>
 bA (ACalls Tryz.prog 8 [v8] H7) fun v9 H10 =>
 bO (abN .eql nilP v9 (.lit (.pointer none))) fun v11 =>
 bB v11 fun t12 => bI t12 (
 K (.lit (.bool false)) H10)
 (bO (acI .i64 a1) fun v13 =>
 bO (acI .i64 a2) fun v14 =>
 bC (BCall Tryz.prog 10 [v9,v13,v14] H10) fun v15 H16 =>
 bO (zhZ v15 0) fun v17 =>
 bO (zhZ v15 1) fun v18 =>
 zgeZ v5 v13 v14 v17 v18 (.lit (.int .i64 0)) H16 K)
theorem zntZ (a0 a1 a2 : AV) (H : AH) (K : AV→AH→Prop) : sFun Tryz.prog zhoZ pqf pqfa zhuZ zhtZ Tryz.f4 [a0,a1,a2] H K=zfsZ a0 a1 a2 H K:=by kernel_rfl
theorem znqZ {a0 a1 a2 : AV} {H : AH} {K : AV→AH→Prop} (h : zfsZ a0 a1 a2 H K) : ACalls Tryz.prog 4 [a0,a1,a2] H K :=
 sFun_wp mixP Tryz.func4 (by kernel_rfl) (Eq.mpr (zntZ a0 a1 a2 H K) h)
end Go.Proofs.YtlbilcpnjgkpjaaGreat.Av
end
section
namespace Go.Proofs.YtlbilcpnjgkpjaaGreat.Av
open Go Go.RowKit
structure LwS (os b0 : Nat) (ino : Int) (s : StS) (at' : Int) (p : AV) (H : AH) : Prop where
 st : StAt s os p H
 bx : H[b0]? = some (some (.cells [.ptr os 0]))
 bi : H[b0 + 1]? = some (some (.cells [I ino]))
 br : ∃ a,H[b0 + 2]? = some (some (.cells [a]))
 ba : H[b0 + 3]? = some (some (.cells [I at']))
 no : os < b0
 nb : ∀ j,b0≤j→j≤b0 + 3→j ∉ idS p
structure LwF (os b0 : Nat) (p p' : AV) (H H' : AH) : Prop where
 len : H.length≤H'.length
 same : ∀ j,j < H.length→j ≠ os→(j < b0 + 2∨b0 + 3 < j)→j ∉ idS p→H'[j]? = H[j]?
 ids : ∀ j ∈ idS p',j ∈ idS p∨H.length≤j
theorem LwF.refl (os b0 : Nat) (p : AV) (H : AH) : LwF os b0 p p H H:=⟨Nat.le_refl _,fun _ _ _ _ _ => rfl,fun _ h => .inl h⟩
theorem LwF.trans {os b0 : Nat} {p p' p'' : AV} {A B C : AH} (h : LwF os b0 p p' A B) (k : LwF os b0 p' p'' B C) : LwF os b0 p p'' A C :=
  ⟨Nat.le_trans h.len k.len,fun j hj h1 h3 hp => by
    rw [k.same j (Nat.lt_of_lt_of_le hj h.len) h1 h3 (fun hp' => (h.ids j hp').elim hp (fun q => by omega)),h.same j hj h1 h3 hp],
   fun j hj => (k.ids j hj).elim (h.ids j) (fun q => .inr (Nat.le_trans h.len q))⟩
theorem LwF.of_grew {os b0 : Nat} {p : AV} {H H' : AH} (g : Grew H H') : LwF os b0 p p H H':=⟨g.1,fun j hj _ _ _ => g.2 j hj,fun _ h => .inl h⟩
theorem LwS.grew {os b0 : Nat} {ino : Int} {s : StS} {at' : Int} {p : AV} {H H' : AH} (h : LwS os b0 ino s at' p H) (g : Grew H H') : LwS os b0 ino s at' p H':=by
 obtain ⟨a,ha⟩:=h.br
 exact ⟨h.st.grew g,g.cells h.bx,g.cells h.bi,⟨a,g.cells ha⟩,g.cells h.ba,h.no,h.nb⟩
theorem lpiece_c {os b0 : Nat} {ino : Int} {s : StS} {at' : Int} {p w : AV} {H : AH} {N : Nat} {b : List UInt8} {K0 : AV→AH→Prop} {J X : AH→Prop} (h : LwS os b0 ino s at' p H) (hw : SW N s) (hN : N + 9 * b.length < 900000)
  (hv : zaZ H 1 w=some (encB b,b.length)) (hvi : ∀ j ∈ idS w,j ≠ os∧j ∉ idS p) (ha : 0≤at'∧at' + b.length≤4611686018427387904)
  (hj : (writeS s ino at' b).1.2=0→∀ p' H',LwS os b0 ino (writeS s ino at' b).2 (at' + (writeS s ino at' b).1.1) p' H'→LwF os b0 p p' H H'→J H')
  (hx : (writeS s ino at' b).1.2 ≠ 0→∀ p' H',StAt (writeS s ino at' b).2 os p' H'→LwF os b0 p p' H H'→H'[b0 + 2]? = some (some (.cells [I (writeS s ino at' b).1.2]))→X H') :
  zgvZ (fun e H' => match e with | .normal => J H' | .ret => X H' | _ => False) (.ptr b0 0) (.ptr (b0 + 1) 0) (.ptr (b0 + 2) 0) (.ptr (b0 + 3) 0) w H K0:=by
 unfold zgvZ
 obtain ⟨n1,n2⟩:=writeS_n s ino at' b
 obtain ⟨r,H1,⟨rfl,p',h1,f1⟩,hc⟩:=Write_c h.st hw ino at' hN hv hvi
 generalize writeS s ino at' b=W at *
 have d4:=h.no
 have hl3 : b0 + 3 < H.length:=(List.getElem?_eq_some_iff.1 h.ba).1
 have np : ∀ j,j < H.length→j ∉ idS p→j ∉ idS p':=fun j hj hp q => (f1.ids j q).elim hp (fun q => by omega)
 have keep : ∀ j,b0≤j→j≤b0 + 3→H1[j]? = H[j]?:=fun j hj1 hj2 => f1.same j (by omega) (by omega) (h.nb j hj1 hj2)
 have kx : H1[b0]? = _:=(keep b0 (by omega) (by omega)).trans h.bx
 have ki : H1[b0 + 1]? = _:=(keep _ (by omega) (by omega)).trans h.bi
 have ka : H1[b0 + 3]? = _:=(keep _ (by omega) (by omega)).trans h.ba
 obtain ⟨a2,q2⟩:=h.br
 have kr : H1[b0 + 2]? = _:=(keep _ (by omega) (by omega)).trans q2
 simp only [ald_ptr h.bx,ald_ptr h.bi,ald_ptr h.ba,zeZ,List.getElem?_cons_zero,bO_some]
 refine bC_of hc ?_
 have hlen:=f1.len
 have hid : ∀ j ∈ idS p',j < H1.length:=h1.p_lt
 simp only [zbcZ,List.getElem?_cons_succ,List.getElem?_cons_zero,bO_some,abI_neq,bB_bool]
 have nob : ∀ j,j=os∨j ∈ idS p'→j ≠ b0 + 2∧j ≠ b0 + 3:=by
  intro j hj
  rcases hj with rfl | hj
  ·omega
  ·exact ⟨fun e => np (b0 + 2) (by omega) (h.nb _ (by omega) (by omega)) (by rw [← e]; exact hj),fun e => np (b0 + 3) (by omega) (h.nb _ (by omega) (by omega)) (by rw [← e]; exact hj)⟩
 by_cases he : W.1.2=0
 ·have e1 : abI .add (I at') (I W.1.1)=some (I (at' + W.1.1)):=abI_add (by omega) (by omega)
  have e2 : ast 1 H1 (.ptr (b0 + 3) 0) (I (at' + W.1.1))=some (H1.set (b0 + 3) (some (.cells [I (at' + W.1.1)]))):=fld ka (by simp) rfl
  simp only [he,ne_eq,not_true_eq_false,decide_false,zlZ,ald_ptr ka,zeZ,List.getElem?_cons_zero,bO_some,e1,e2,bS_some]
  generalize hH2 : H1.set (b0 + 3) (some (AObj.cells [I (at' + W.1.1)]))=H2
  have g2 : ∀ j,j ≠ b0 + 3→H2[j]? = H1[j]?:=fun j hj => by rw [← hH2]; exact List.getElem?_set_ne (Ne.symm hj)
  have ga : H2[b0 + 3]? = some (some (.cells [I (at' + W.1.1)])):=by rw [← hH2]; exact List.getElem?_set_self (by omega)
  have l2 : H2.length=H1.length:=by rw [← hH2,List.length_set]
  exact hj he p' H2 ⟨h1.keep fun j hj => g2 j (nob j hj).2,by rw [g2 _ (by omega)]; exact kx,by rw [g2 _ (by omega)]; exact ki,⟨a2,by rw [g2 _ (by omega)]; exact kr⟩,ga,d4,fun j hj1 hj2 => np j (by omega) (h.nb j hj1 hj2)⟩
   ⟨by omega,fun j hj h1 h3 hp => by rw [g2 j (by omega),f1.same j hj h1 hp],f1.ids⟩
 ·have e2 : ast 1 H1 (.ptr (b0 + 2) 0) (I W.1.2)=some (H1.set (b0 + 2) (some (.cells [I W.1.2]))):=fld kr (by simp) rfl
  simp only [he,ne_eq,not_false_eq_true,decide_true,bI_true,e2,bS_some]
  generalize hH2 : H1.set (b0 + 2) (some (AObj.cells [I W.1.2]))=H2
  have g2 : ∀ j,j ≠ b0 + 2→H2[j]? = H1[j]?:=fun j hj => by rw [← hH2]; exact List.getElem?_set_ne (Ne.symm hj)
  have ga : H2[b0 + 2]? = some (some (.cells [I W.1.2])):=by rw [← hH2]; exact List.getElem?_set_self (by omega)
  have l2 : H2.length=H1.length:=by rw [← hH2,List.length_set]
  exact hx he p' H2 (h1.keep fun j hj => g2 j (nob j hj).1) ⟨by omega,fun j hj h1 h3 hp => by rw [g2 j (by omega),f1.same j hj h1 hp],f1.ids⟩ ga
noncomputable abbrev ltB : Code:=bodyOf Tryz.f29
theorem lt_asg (x3 x4 x6 x7 x13 x14 x15 x20 x : AV) (H : AH) (Q : Exit→List AV→AH→Prop) : sCode Tryz.prog (flOf []) none0 none0 none0 (kpOf []) (asgOf (sub fwP ltB)) 0 ((expand (mk 37 0 [3,4,6,7,13,14,15,20]) [x3,x4,x6,x7,x13,x14,x15,x20]).set 21 x) H (fun e T H => fP (mk 37 0 [3,4,6,7,10]) T fun X => Q e X H)=Q .normal [x3,x4,x6,x7,x] H:=by kernel_rfl
theorem lt_asg_ok : codeOk (flOf []) none0 (asgOf (sub fwP ltB))=true:=by kernel_rfl
theorem lt_bd_ok : codeOkU loop_Into_fl pqf loop_Into_un (sub (fwP ++ [true]) ltB)=true:=by kernel_rfl
theorem lt_rnd {x3 x4 x6 x7 x13 x14 x15 x20 x : AV} {H : AH} {J X : AH→Prop} {K0 : AV→AH→Prop} (h : zgvZ (fun e H' => match e with | .normal => J H' | .ret => X H' | _ => False) x3 x4 x6 x7 x H K0) :
  RndOk Tryz.prog (asgOf (sub fwP ltB)) (sub (fwP ++ [true]) ltB) (expand (mk 37 0 [3,4,6,7,13,14,15,20]) [x3,x4,x6,x7,x13,x14,x15,x20]) 21 x H J (fun c H' => c = .ret∧X H'):=by
 obtain ⟨e,T',H',hk,hb⟩:=sCode_ok mixP (asgOf (sub fwP ltB)) 0 _ H _ lt_asg_ok (Eq.mpr (lt_asg x3 x4 x6 x7 x13 x14 x15 x20 x H (fun e X H2 => e = .normal∧X=[x3,x4,x6,x7,x]∧H2=H)) ⟨rfl,rfl,rfl⟩)
 obtain ⟨hl,he,hX,hH⟩:=fP_iff.1 hk
 subst he; subst hH
 refine ⟨T',hb, ?_⟩
 refine ACode.weak (fun G a hF => zjrZ hl hF) ?_
 rw [hX]
 refine (sCode_wp mixP (sub (fwP ++ [true]) ltB) _ _ _ _ lt_bd_ok (Eq.mpr (loop_Into_F10_eq (fun e H' => match e with | .normal => J H' | .ret => X H' | _ => False) x3 x4 x6 x7 x _ K0) h)).mono ?_
 intro e T H2 hk
 cases e with
 | normal => exact hk
 | ret => exact ⟨rfl,hk⟩
 | _ => exact hk.elim
theorem lt_F {R4 : List AV→AH→Prop} {x3 x4 x6 x7 x13 x14 x15 : AV} {H : AH} {K : AV→AH→Prop} {k : FuncId} {cap xs : List AV} {Cap : AH→Prop} (hit : IterOk Tryz.prog k cap Cap xs) (hgo : goFunc Tryz.prog k=true) (J : Nat→AH→Prop) (X : AH→Prop) (h0 : J 0 H) (hcap : ∀ i H',J i H'→Cap H')
  (hr : ∀ i x H',xs[i]? = some x→J i H'→zgvZ (fun e H' => match e with | .normal => J (i + 1) H' | .ret => X H' | _ => False) x3 x4 x6 x7 x H' K)
  (hdone : ∀ H',J xs.length H'→bO (abI .add x15 (.lit (.int .i64 1))) fun v6 => R4 [x3,x4,x6,x7,x13,x14,v6] H')
  (hout : ∀ H',X H'→bO (ald false 1 H' x6) fun v7 => K v7 H') : loop_Into_F10 R4 x3 x4 x6 x7 x13 x14 x15 (.fn (.func k) [] cap) H K:=by
 refine ⟨?_⟩
 rw [loop_Into_F10_code]
 refine ACode.rangeF hit hgo rfl J (fun c H' => c = .ret∧X H') h0 hcap (fun i x H' hx hj => lt_rnd (hr i x H' hx hj)) (fun H' hj => ?_) (fun c H' hx => .inl ⟨hx.1, ?_⟩)
 ·exact Eq.mpr (loop_Into_F10_kn R4 x3 x4 x6 x7 x13 x14 x15 (.fn (.func k) [] cap) H' K) (hdone H' hj)
 ·exact Eq.mpr (loop_Into_F10_kr R4 x3 x4 x6 x7 x13 x14 x15 (.fn (.func k) [] cap) H' K) (hout H' hx.2)
end Go.Proofs.YtlbilcpnjgkpjaaGreat.Av
end
section
namespace Go.Proofs.YtlbilcpnjgkpjaaGreat.Av
open Go Go.RowKit
theorem Into_a {N : Nat} {s : StS} {os : Nat} {p a2 : AV} {H : AH} {ino : Int} {bl : List (AV × List UInt8)} (hst : StAt s os p H) (hw : SW N s)
  (ha : zaZ H 1 a2=some (bl.map Prod.fst,bl.length)) (hai : ∀ j ∈ idS a2,j ≠ os∧j ∉ idS p) (hb : ∀ x ∈ bl,zaZ H 1 x.1=some (encB x.2,x.2.length)∧oneA x.1=true∧x.2.length≤1000000∧∀ j ∈ idS x.1,j ≠ os∧j ∉ idS p) (hbn : bl.length≤1000000)
  (hN : N + 9 * lenB (bl.flatMap fun x => chunkB x.2) < 900000) :
  ACalls Tryz.prog 29 [.ptr os 0,I ino,a2] H fun r H' => ∃ p',r=I (pcs ino (bl.flatMap fun x => chunkB x.2) s 0 0).2∧StAt (pcs ino (bl.flatMap fun x => chunkB x.2) s 0 0).1.1 os p' H'∧StF os p p' H H':=loop_Into_ok (by
 generalize hRES : pcs ino (bl.flatMap fun x => chunkB x.2) s 0 0=RES
 generalize hNN : N + 9 * lenB (bl.flatMap fun x => chunkB x.2)=NN at hN
 unfold loop_Into
 have n1 : ∀ (Z : AH) (x : AV),oneA x=true→anew Z x=some (.ptr Z.length 0,Z ++ [some (.cells [x])]):=fun Z x hx => by unfold anew; rw [zbuZ hx]; rfl
 generalize hb0 : H.length=b0
 have al : alnS a2=some (I (bl.length : Nat)):=zbxZ ha
 have s0 : ast 1 (H ++ [some (AObj.cells [.ptr os 0])] ++ [some (.cells [I ino])] ++ [some (.cells [I 0])] ++ [some (.cells [I 0])]) (.ptr (b0 + 3) 0) (I 0)=some (H ++ [some (AObj.cells [.ptr os 0])] ++ [some (.cells [I ino])] ++ [some (.cells [I 0])] ++ [some (.cells [I 0])]):=by
  rw [fld (cs:=[I 0]) (k:=0) (by rw [← hb0]; simp) (by simp) rfl]
  congr 1
  apply List.ext_getElem?
  intro j
  by_cases c : j=b0 + 3
  ·subst c
   rw [List.getElem?_set_self (by rw [← hb0]; simp),← hb0]; simp
  ·rw [List.getElem?_set_ne (Ne.symm c)]
 have l1 : (H ++ [some (AObj.cells [AV.ptr os 0])]).length=b0 + 1:=by simp [hb0]
 have l2 : (H ++ [some (AObj.cells [AV.ptr os 0])] ++ [some (AObj.cells [I ino])]).length=b0 + 2:=by simp [hb0]
 have l3 : (H ++ [some (AObj.cells [AV.ptr os 0])] ++ [some (AObj.cells [I ino])] ++ [some (AObj.cells [I 0])]).length=b0 + 3:=by simp [hb0]
 simp only [n1 H (AV.ptr os 0) rfl,bH_some,n1 (H ++ [some (AObj.cells [AV.ptr os 0])]) (I ino) rfl,n1 (H ++ [some (AObj.cells [AV.ptr os 0])] ++ [some (AObj.cells [I ino])]) (I 0) rfl,n1 (H ++ [some (AObj.cells [AV.ptr os 0])] ++ [some (AObj.cells [I ino])] ++ [some (AObj.cells [I 0])]) (I 0) rfl,hb0,l1,l2,l3,s0,bS_some,al,bO_some]
 have g0 : Grew H (H ++ [some (AObj.cells [AV.ptr os 0])] ++ [some (AObj.cells [I ino])] ++ [some (AObj.cells [I 0])] ++ [some (AObj.cells [I 0])]):=by
  simp only [List.append_assoc]; exact Grew.app H _
 have hplt:=hst.p_lt
 have holt:=hst.os_lt
 have S0 : LwS os b0 ino s 0 p (H ++ [some (AObj.cells [AV.ptr os 0])] ++ [some (AObj.cells [I ino])] ++ [some (AObj.cells [I 0])] ++ [some (AObj.cells [I 0])]) :=
  ⟨hst.grew g0,by rw [← hb0]; simp,by rw [← hb0]; simp,⟨I 0,by rw [← hb0]; simp⟩,by rw [← hb0]; simp,by omega,fun j hj _ q => by have:=hplt j q; omega⟩
 have F0 : LwF os b0 p p H (H ++ [some (AObj.cells [AV.ptr os 0])] ++ [some (AObj.cells [I ino])] ++ [some (AObj.cells [I 0])] ++ [some (AObj.cells [I 0])]):=.of_grew g0
 have B0 : Bd NN (bl.flatMap fun x => chunkB x.2) s 0 0:=⟨⟨N,hw,by omega⟩,by omega,by omega⟩
 have fin : ∀ {p' H'},LwF os b0 p p' H H'→StF os p p' H H':=fun f => ⟨f.len,fun j hj h1 hp => f.same j hj h1 (by omega) hp,f.ids⟩
 generalize (H ++ [some (AObj.cells [AV.ptr os 0])] ++ [some (AObj.cells [I ino])] ++ [some (AObj.cells [I 0])] ++ [some (AObj.cells [I 0])])=HB at S0 F0
 refine loop_Into_L4_rule (fun m x2 x4 x5 x6 x12 x13 x14 H' => ∃ (k : Nat) (s : StS) (at' sum : Int) (p' : AV),k + m=bl.length∧x2 = .ptr b0 0∧x4 = .ptr (b0 + 1) 0∧x5 = .ptr (b0 + 2) 0∧x6 = .ptr (b0 + 3) 0∧a2=x12∧x13=I bl.length∧x14=I k ∧
  LwS os b0 ino s at' p' H'∧LwF os b0 p p' H H'∧pcs ino ((bl.drop k).flatMap fun x => chunkB x.2) s at' sum=RES∧Bd NN ((bl.drop k).flatMap fun x => chunkB x.2) s at' 0) ?_ bl.length ⟨0,s,0,0,p,by omega,rfl,rfl,rfl,rfl,rfl,rfl,rfl,S0,F0,hRES,B0⟩
 rintro m x2 x4 x5 x6 x12 x13 x14 H1 R hR ⟨k,s,at',sum,p1,hk,rfl,rfl,rfl,rfl,e12,rfl,rfl,S1,F1,hpc,hbd⟩
 subst e12
 unfold zonZ
 have keepS : ∀ {w : AV} {sz : Nat} {cs : List AV} {n : Nat} {p2 : AV} {H2 : AH},zaZ H sz w=some (cs,n)→(∀ j ∈ idS w,j ≠ os∧j ∉ idS p)→LwF os b0 p p2 H H2→zaZ H2 sz w=some (cs,n):=fun h1 h2 f => zbZ h1 fun j hj => f.same j (zcZ h1 j hj) (h2 j hj).1 (by have:=zcZ h1 j hj; omega) (h2 j hj).2
 rcases Nat.lt_or_ge k bl.length with h | h
 ·have hx:=List.getElem?_eq_getElem h
  generalize bl[k]=vb at hx
  obtain ⟨v,b⟩:=vb
  obtain ⟨hb1,hb2,hb3,hb4⟩:=hb _ (List.mem_of_getElem? hx)
  simp only at hb1 hb2 hb3 hb4
  have hdrop : bl.drop k=(v,b) :: bl.drop (k + 1):=drop_cons hx
  rw [hdrop] at hpc hbd
  simp only [List.flatMap_cons] at hpc hbd
  generalize hrest : (bl.drop (k + 1)).flatMap (fun x => chunkB x.2)=rest at hpc hbd
  have kI : (k : Int) < (bl.length : Int):=by omega
  have ha1:=keepS ha hai F1
  have hv1:=keepS hb1 hb4 F1
  obtain ⟨pp,q1,q2⟩:=one_at (enc:=fun x : AV × List UInt8 => [x.1]) (f:=Prod.fst) (fun _ => rfl) (l:=bl) (by rw [← List.map_eq_flatMap]; exact ha1) hx
  simp only [abI_lss,bO_some,bB_bool,kI,decide_true,bI_true,q1,q2]
  refine bC_of (Chunk_c hv1 hb2) ?_
  have g2:=Grew.app H1 [some (AObj.cells [v]),some (.cells [I 4096])]
  have S2:=S1.grew g2
  have F2 : LwF os b0 p p1 H (H1 ++ [some (AObj.cells [v]),some (.cells [I 4096])]):=F1.trans (.of_grew g2)
  have t0 : (H1 ++ [some (AObj.cells [v]),some (.cells [I 4096])])[H1.length]? = some (some (.cells [v])):=by simp
  have t1 : (H1 ++ [some (AObj.cells [v]),some (.cells [I 4096])])[H1.length + 1]? = some (some (.cells [I 4096])):=by simp
  have hlc : (H1 ++ [some (AObj.cells [v]),some (.cells [I 4096])]).length=H1.length + 2:=by simp
  have hp1:=S1.st.p_lt
  have hb03 : b0 + 3 < H1.length:=(List.getElem?_eq_some_iff.1 S1.ba).1
  have z4:=S1.no
  generalize (H1 ++ [some (AObj.cells [v]),some (.cells [I 4096])])=Hc at S2 F2 t0 t1 hlc
  refine lt_F (chunk_it (o1:=H1.length) (o2:=H1.length + 1) (s:=v) (cs:=encB b) (len:=b.length) (n:=4096) (by omega) (by omega) (by omega)) (by kernel_rfl)
   (fun i H' => ∃ (s : StS) (at' sum : Int) (p' : AV),LwS os b0 ino s at' p' H'∧LwF os b0 p1 p' Hc H'∧pcs ino ((chunkB b).drop i ++ rest) s at' sum=RES∧Bd NN ((chunkB b).drop i ++ rest) s at' 0)
   (fun H' => ∃ (s : StS) (at' sum : Int) (p' : AV) (e : Int),StAt s os p' H'∧LwF os b0 p1 p' Hc H'∧H'[b0 + 2]? = some (some (.cells [I e]))∧RES=((s,at',sum),e))
   ⟨s,at',sum,p1,S2,.refl _ _ _ _,by simpa using hpc,by simpa using hbd⟩ ?_ ?_ ?_ ?_
  ·rintro i H' ⟨s',at'',sum',p',S',F',-,-⟩
   refine ⟨(F'.same _ (by omega) (by omega) (by omega) (fun q => by have:=hp1 _ q; omega)).trans t0,(F'.same _ (by omega) (by omega) (by omega) (fun q => by have:=hp1 _ q; omega)).trans t1,keepS hb1 hb4 (F2.trans F')⟩
  ·rintro i x H' hxi ⟨s',at'',sum',p',S',F',hpc',hbd'⟩
   have hi : i < chN b.length 4096:=by
    have:=(List.getElem?_eq_some_iff.1 hxi).1
    rwa [chL_len] at this
   have hil:=(chN_lt (len:=b.length) (k:=i) (show 0 < 4096 by omega)).1 hi
   have ex : x=chX v b.length 4096 i:=by
    unfold chL at hxi
    rw [List.getElem?_map,List.getElem?_range hi] at hxi
    injection hxi with hxi
    exact hxi.symm
   subst ex
   have hv':=keepS hb1 hb4 (F2.trans F')
   obtain ⟨c1,c2⟩:=chX_sl hv' hil
   have hcd : (chunkB b).drop i=pieceB b i :: (chunkB b).drop (i + 1):=drop_cons (chunkB_get hi)
   rw [hcd,List.cons_append] at hpc' hbd'
   obtain ⟨⟨M,w1,w2⟩,w3,w4⟩:=hbd'
   rw [lenB_cons] at w2 w3 w4
   have fp : ∀ j ∈ idS v,j ∉ idS p':=fun j hj q => by
    have hjl:=zcZ hb1 j hj
    rcases (F2.trans F').ids j q with q | q
    ·exact (hb4 j hj).2 q
    ·omega
   have wn:=writeS_n s' ino at'' (pieceB b i)
   have ww:=writeS_w w1 ino at'' (pieceB b i)
   unfold pcs at hpc'
   refine lpiece_c S' w1 (by omega) c1 (fun j hj => ⟨(hb4 j (c2 j hj)).1,fp j (c2 j hj)⟩) (by omega) ?_ ?_
   ·intro he p2 H2 S2' F2'
    rw [if_pos he] at hpc'
    exact ⟨_,_,_,p2,S2',F'.trans F2',hpc',⟨⟨_,ww,by omega⟩,by omega,by omega⟩⟩
   ·intro he p2 H2 S2' F2' r2
    rw [if_neg he] at hpc'
    exact ⟨_,_,_,p2,_,S2',F'.trans F2',r2,hpc'.symm⟩
  ·rintro H' ⟨s',at'',sum',p',S',F',hpc',hbd'⟩
   rw [chL_len,← chunkB_len,List.drop_length,List.nil_append] at hpc' hbd'
   simp only [abI_add (a:=k) (b:=1) (by omega) (by omega),bO_some]
   exact hR (m - 1) _ _ _ _ _ _ _ _ (by omega) ⟨k + 1,s',at'',sum',p',by omega,rfl,rfl,rfl,rfl,rfl,rfl,by simp,S',F2.trans F',by rw [hrest]; exact hpc',by rw [hrest]; exact hbd'⟩
  ·rintro H' ⟨s',at'',sum',p',e,S',F',r2,rfl⟩
   simp only [ald_ptr r2,zeZ,List.getElem?_cons_zero,bO_some]
   exact ⟨p',by trivial,S',fin (F2.trans F')⟩
 ·have kI : ¬ (k : Int) < (bl.length : Int):=by omega
  have hdrop : bl.drop k=[]:=List.drop_of_length_le h
  rw [hdrop] at hpc
  simp only [List.flatMap_nil] at hpc
  unfold pcs at hpc
  subst hpc
  obtain ⟨c,r2⟩:=S1.br
  have hb03 : b0 + 3 < H1.length:=(List.getElem?_eq_some_iff.1 S1.ba).1
  have z4:=S1.no
  have e2 : ast 1 H1 (.ptr (b0 + 2) 0) (I 0)=some (H1.set (b0 + 2) (some (.cells [I 0]))):=fld r2 (by simp) rfl
  simp only [abI_lss,bO_some,bB_bool,kI,decide_false,zlZ,e2,bS_some]
  generalize hH4 : H1.set (b0 + 2) (some (AObj.cells [I 0]))=H4
  have g4 : ∀ j,j ≠ b0 + 2→H4[j]? = H1[j]?:=fun j hj => by rw [← hH4,List.getElem?_set_ne (Ne.symm hj)]
  have t2 : H4[b0 + 2]? = some (some (.cells [I 0])):=by rw [← hH4]; exact List.getElem?_set_self (by omega)
  have l4 : H4.length=H1.length:=by rw [← hH4,List.length_set]
  simp only [ald_ptr t2,zeZ,List.getElem?_cons_zero,bO_some]
  refine ⟨p1,by trivial,S1.st.keep fun j hj => ?_,fin ⟨by have:=F1.len; omega,fun j hj h1 h3 hp => by rw [g4 j (by omega)]; exact F1.same j hj h1 h3 hp,F1.ids⟩⟩
  rcases hj with rfl | hj
  ·exact g4 j (by omega)
  ·exact g4 j (fun e => S1.nb (b0 + 2) (by omega) (by omega) (by rw [← e]; exact hj)))
end Go.Proofs.YtlbilcpnjgkpjaaGreat.Av
end
section
namespace Go.Proofs.YtlbilcpnjgkpjaaGreat.Av
open Go Go.RowKit
theorem Size_c {N : Nat} {s : StS} {os : Nat} {p : AV} {H : AH} (h : StAt s os p H) (hw : SW N s) (hN : N≤900000) (ino : Int) : ∃ r H',(r = .tup [I (zbzZ s ino).1.1,I (zbzZ s ino).2]∧Grew H H')∧BCall Tryz.prog 31 [.ptr os 0,I ino] H r H':=store_Store_Size_ok (by
 unfold zlbZ
 obtain ⟨R,hR,r,H1,⟨rfl,g1⟩,hc⟩:=content_c h hw hN ino
 have oR:=SV.oneA hR
 refine bC_of hc ?_
 have g2:=Grew.app H1 [some (AObj.cells [I (zbzZ s ino).1.1,R])]
 simp only [zbcZ,List.getElem?_cons_succ,List.getElem?_cons_zero,bO_some,nwC,bH_some,stC' _ _ oR,bS_some,znZ,Nat.zero_add,ald_ptr top1,zeZ]
 exact ⟨by trivial,g1.trans g2⟩)
theorem Put_a {N : Nat} {s : StS} {os : Nat} {p a2 : AV} {H : AH} {nm : List UInt8} {bl : List (AV × List UInt8)} (hst : StAt s os p H) (hw : SW N s) (hnm : nm.length≤9223372036854775807)
  (ha : zaZ H 1 a2=some (bl.map Prod.fst,bl.length)) (hai : ∀ j ∈ idS a2,j ≠ os∧j ∉ idS p) (hb : ∀ x ∈ bl,zaZ H 1 x.1=some (encB x.2,x.2.length)∧oneA x.1=true∧x.2.length≤1000000∧∀ j ∈ idS x.1,j ≠ os∧j ∉ idS p) (hbn : bl.length≤1000000)
  (hN : N + 2 + 9 * lenB (bl.flatMap fun x => chunkB x.2) < 900000) :
  ACalls Tryz.prog 11 [.ptr os 0,S (bstr nm),a2] H fun r H' => ∃ p',r=I (putS s nm (bl.flatMap fun x => chunkB x.2)).1∧StAt (putS s nm (bl.flatMap fun x => chunkB x.2)).2 os p' H'∧StF os p p' H H':=loop_Put_ok (by
 unfold loop_Put
 obtain ⟨r,H1,⟨rfl,p1,h1,f1⟩,hc⟩:=Open_c hst hw (by omega) hnm true
 have w1:=openS_w hw nm true
 refine bC_of hc ?_
 unfold putS
 generalize openS s nm true=O at *
 simp only [zbcZ,List.getElem?_cons_succ,List.getElem?_cons_zero,bO_some,abI_neq,bB_bool]
 by_cases c1 : O.1.2=0
 rotate_left
 ·simp only [c1,ne_eq,not_false_eq_true,decide_true,bI_true,if_true]
  exact ⟨p1,by trivial,h1,f1⟩
 simp only [c1,ne_eq,not_true_eq_false,decide_false,zlZ,if_false]
 obtain ⟨r,H2,⟨rfl,p2,h2,f2⟩,hc⟩:=Trunc_c h1 w1 (by omega) O.1.1 0
 have w2:=truncS_w w1 O.1.1 0
 refine bC_of hc ?_
 generalize truncS O.2 O.1.1 0=Q at *
 simp only [abI_neq,bO_some,bB_bool]
 have f12:=f1.trans f2
 by_cases c2 : Q.1=0
 rotate_left
 ·simp only [c2,ne_eq,not_false_eq_true,decide_true,bI_true,if_true]
  exact ⟨p2,by trivial,h2,f12⟩
 simp only [c2,ne_eq,not_true_eq_false,decide_false,zlZ,if_false]
 have keepS : ∀ {w : AV} {cs : List AV} {n : Nat},zaZ H 1 w=some (cs,n)→(∀ j ∈ idS w,j ≠ os∧j ∉ idS p)→zaZ H2 1 w=some (cs,n)∧∀ j ∈ idS w,j ≠ os∧j ∉ idS p2:=fun k1 k2 =>
  ⟨zbZ k1 fun j hj => f12.same j (zcZ k1 j hj) (k2 j hj).1 (k2 j hj).2,fun j hj => ⟨(k2 j hj).1,fun q => (f12.ids j q).elim (k2 j hj).2 (fun q => by have:=zcZ k1 j hj; omega)⟩⟩
 refine ⟨_,Into_a (ino:=O.1.1) h2 w2 (keepS ha hai).1 (keepS ha hai).2 (fun x hx => ⟨(keepS (hb x hx).1 (hb x hx).2.2.2).1,(hb x hx).2.1,(hb x hx).2.2.1,(keepS (hb x hx).1 (hb x hx).2.2.2).2⟩) hbn (by omega), ?_⟩
 have w3:=pcs_w (ino:=O.1.1) (l:=bl.flatMap fun x => chunkB x.2) (a:=0) (m:=0) w2
 generalize pcs O.1.1 (bl.flatMap fun x => chunkB x.2) Q.2 0 0=Z at *
 rintro r H3 ⟨p3,rfl,h3,f3⟩
 have f123:=f12.trans f3
 simp only [abI_neq,bO_some,bB_bool]
 by_cases c3 : Z.2=0
 rotate_left
 ·simp only [c3,ne_eq,not_false_eq_true,decide_true,bI_true,if_true]
  exact ⟨p3,by trivial,h3,f123⟩
 simp only [c3,ne_eq,not_true_eq_false,decide_false,zlZ,if_false]
 have eA : absl H3 1 1 (zrow [(.lit (.int .i64 0))] 1) [(0,1,I O.1.1)]=some (.sl H3.length 0 1 1 (.ex 1),H3 ++ [some (.cells [I O.1.1])]):=rfl
 have g4:=Grew.app H3 [some (AObj.cells [I O.1.1])]
 have hsl : zaZ (H3 ++ [some (AObj.cells [I O.1.1])]) 1 (.sl H3.length 0 1 1 (.ex 1))=some (([O.1.1] : List Int).flatMap encZ,([O.1.1] : List Int).length):=by simp [zaZ,encZ]
 have lo:=h3.os_lt
 have lp:=h3.p_lt
 obtain ⟨r,H5,⟨rfl,p5,h5,f5⟩,hc⟩:=Sync_c (h3.grew g4) w3 (by omega) hsl (by
  intro j hj
  simp [idS] at hj
  subst hj
  exact ⟨by omega,fun q => by have:=lp _ q; omega⟩) (by simp)
 simp only [eA,bH_some]
 refine bC_of hc ?_
 exact ⟨p5,by trivial,h5,(f123.grew g4).trans f5⟩)
theorem Cat_c {nm : List UInt8} {cap N : Nat} {t : List UInt8} {s : StS} {os : Nat} {p : AV} {H : AH} (h : Txr nm cap t s) (hst : StAt s os p H) (hw : SW N s) (hN : N < 900000) (ht : t.length≤65536) :
  ∃ r H',(∃ v,r = .tup [v,I 0]∧zaZ H' 1 v=some (encB t,t.length)∧Grew H H')∧BCall Tryz.prog 12 [.ptr os 0,I 1] H r H':=loop_Cat_ok (by
 unfold loop_Cat
 obtain ⟨r,H1,⟨rfl,g1⟩,hc⟩:=Size_c hst hw (by omega) 1
 refine bC_of hc ?_
 obtain ⟨l,q1,q2,q3⟩:=h.h
 rw [q1.content]
 have c1 : ¬ (65536 : Int) < (t.length : Int):=by omega
 simp only [zbcZ,List.getElem?_cons_succ,List.getElem?_cons_zero,bO_some,abI_neq,ne_eq,not_true_eq_false,decide_false,bB_bool,zlZ,abI_gtr,c1]
 refine loop_Cat_L9_rule (fun m x0 x1 x6 x8 H' => ∃ j : Nat,j + m=t.length∧x0 = .ptr os 0∧x1=I 1∧x6=I t.length∧zaZ H' 1 x8=some (encB (t.take j),j)∧ownedS x8=true∧(∀ i ∈ idS x8,H.length≤i)∧Grew H H') ?_ t.length ⟨0,by omega,rfl,rfl,rfl,rfl,rfl,by simp [idS],g1⟩
 rintro m x0 x1 x6 x8 H2 R hR ⟨j,hj,rfl,rfl,rfl,hs,ho,hi,g2⟩
 unfold loop_Cat_L9_b
 have al:=zbxZ hs
 simp only [al,bO_some,abI_lss,bB_bool]
 by_cases c : j < t.length
 ·have c' : (j : Int) < (t.length : Int):=by omega
  have hr:=h.read (pos:=j) (n:=4096) (by omega) (by omega) (by omega)
  have hr' : readS s 1 j 4096=((t.drop j).take 4096,0):=hr
  obtain ⟨Rb,hRb,r,H3,⟨rfl,g3⟩,hc⟩:=Read_c (hst.grew g2) hw hN 1 (j : Int) 4096
  rw [hr'] at hRb hc
  simp only [c',decide_true,bI_true]
  refine bC_of hc ?_
  have hlen : ((t.drop j).take 4096).length=min 4096 (t.length - j):=by rw [List.length_take,List.length_drop]
  obtain ⟨r,H4,a1,a2,a3,a4,a5,a6⟩:=zjcZ (sz:=1) (bytes:=1) (g3.slice hs) ho (zjZ (hRb.bytes H3)) (by rw [hlen]; omega)
  simp only [zbcZ,List.getElem?_cons_succ,List.getElem?_cons_zero,bO_some,abI_neq,ne_eq,not_true_eq_false,decide_false,bB_bool,zlZ,a1,bH_some]
  refine hR (m - min 4096 (t.length - j)) _ _ _ _ _ (by omega) ⟨j + min 4096 (t.length - j),by omega,rfl,rfl,rfl, ?_,a2, ?_, ?_⟩
  ·rw [a3,hlen]
   congr 2
   rw [List.take_add,encB,encB,encB,List.map_append]
   congr 2
   rw [List.take_eq_take_iff,List.length_drop]
   omega
  ·intro i q
   rcases a6 i q with q | q
   ·exact hi i q
   ·have:=g2.1; have:=g3.1; omega
  ·refine ⟨by have:=g2.1; have:=g3.1; omega,fun i q => ?_⟩
   rw [a5 i (by have:=g2.1; have:=g3.1; omega) (fun z => by have:=hi i z; omega),g3.2 i (by have:=g2.1; omega),g2.2 i q]
 ·have c' : ¬ (j : Int) < (t.length : Int):=by omega
  have ej : j=t.length:=by omega
  subst ej
  rw [List.take_length] at hs
  simp only [c',decide_false,zlZ]
  exact ⟨x8,by trivial,hs,g2⟩)
end Go.Proofs.YtlbilcpnjgkpjaaGreat.Av
end
section
namespace Go.Proofs.YtlbilcpnjgkpjaaGreat.Av
open Go Go.RowKit
def encS (s : Int × Int) : List AV:=[I s.1,I s.2]
theorem encS_len (s : Int × Int) : (encS s).length=2:=rfl
theorem noIdss_ints (l : List Int) : noIdss (l.flatMap encI)=true:=zgiZ fun x _ => rfl
theorem noIdss_softs (l : List (Int × Int)) : noIdss (l.flatMap encS)=true:=zgiZ fun x _ => rfl
def ClonP (H : AH) (cs : List AV) (n : Nat) (r : AV) (H' : AH) : Prop:=ownedS r=true∧zaZ H' 1 r=some (cs,n)∧Grew H H'∧∀ i ∈ idS r,H.length≤i
theorem cloneB_c {H : AH} {v : AV} {cs : List AV} {n : Nat} (h : zaZ H 1 v=some (cs,n)) (hn : n≤1000000000) :
  ∃ r H',ClonP H cs n r H'∧BCall Tryz.prog 25 [v] H r H':=zgbZ (by
 unfold zdjZ
 rcases nilS_slice h with ⟨rfl,rfl,rfl⟩ | hb
 ·have e : abN .eql nilS nilSl nilSl=some (B true):=rfl
  simp only [e,bO_some,bB_bool,bI_true]
  exact ⟨rfl,h,Grew.refl H,by simp [idS]⟩
 ·simp only [hb,bO_some,bB_bool,zlZ]
  have e : absl H 1 0 (zrow [(.lit (.int .u8 0))] 0) []=some (.sl H.length 0 0 1 (.ex 0),H ++ [some (.cells [])]):=rfl
  simp only [e,bH_some]
  have g:=Grew.app H [some (.cells [])]
  obtain ⟨r,H2,a1,a2,a3,a4,a5,a6⟩:=zjcZ (sz:=1) (bytes:=1) (H:=H ++ [some (.cells [])]) (v:=.sl H.length 0 0 1 (.ex 0)) (cs:=[]) (n:=0) (by simp [zaZ]) rfl (zjZ (g.slice h)) (by omega)
  simp only [a1,bH_some]
  refine ⟨a2,by simpa using a3,⟨by simp at a4; omega,fun i hi => ?_⟩,fun i hi => ?_⟩
  ·rw [a5 i (by simp; omega) (by simp [idS]; omega)]
   exact g.2 i hi
  ·rcases a6 i hi with h | h
   ·simp [idS] at h; omega
   ·simp at h; omega)
theorem cloneI_c {H : AH} {v : AV} {cs : List AV} {n : Nat} (h : zaZ H 1 v=some (cs,n)) (hn : n≤1000000000) :
  ∃ r H',ClonP H cs n r H'∧BCall Tryz.prog 26 [v] H r H':=znvZ (by
 unfold zfuZ
 rcases nilS_slice h with ⟨rfl,rfl,rfl⟩ | hb
 ·have e : abN .eql nilS nilSl nilSl=some (B true):=rfl
  simp only [e,bO_some,bB_bool,bI_true]
  exact ⟨rfl,h,Grew.refl H,by simp [idS]⟩
 ·simp only [hb,bO_some,bB_bool,zlZ]
  have e : absl H 1 0 (zrow [(.lit (.int .i64 0))] 0) []=some (.sl H.length 0 0 1 (.ex 0),H ++ [some (.cells [])]):=rfl
  simp only [e,bH_some]
  have g:=Grew.app H [some (.cells [])]
  obtain ⟨r,H2,a1,a2,a3,a4,a5,a6⟩:=zjcZ (sz:=1) (bytes:=8) (H:=H ++ [some (.cells [])]) (v:=.sl H.length 0 0 1 (.ex 0)) (cs:=[]) (n:=0) (by simp [zaZ]) rfl (zjZ (g.slice h)) (by omega)
  simp only [a1,bH_some]
  refine ⟨a2,by simpa using a3,⟨by simp at a4; omega,fun i hi => ?_⟩,fun i hi => ?_⟩
  ·rw [a5 i (by simp; omega) (by simp [idS]; omega)]
   exact g.2 i hi
  ·rcases a6 i hi with h | h
   ·simp [idS] at h; omega
   ·simp at h; omega)
structure Dev where
 data : List UInt8
 bad : List Int
 soft : List (Int × Int)
 shorts : List Int
def mayD (d : Dev) : Prop:=d.data.length≤65536∧(∀ b ∈ d.bad,0≤b)∧∀ s ∈ d.soft,0≤s.1∧0≤s.2∧s.2≤20
instance (d : Dev) : Decidable (mayD d):=by unfold mayD; infer_instance
structure DevV (d : Dev) (a b c e : AV) : Prop where
 data : SV encU 1 d.data a
 bad : SV encI 1 d.bad b
 soft : SV encS 2 d.soft c
 shorts : SV encI 1 d.shorts e
theorem noD {d : Dev} {a b c e : AV} (h : DevV d a b c e) : noIdss [.agg [a,b,c,e]]=true:=by
 simp [noIdss,noIds,h.data.1,h.bad.1,h.soft.1,h.shorts.1]
theorem may1_c (n : Int) (H : AH) : BCall Tryz.prog 39 [I n] H (B (decide (n < 0))) H:=by
 obtain ⟨r,H',⟨rfl,rfl⟩,h⟩:=disk_May_1_ok (K:=fun r H' => r=B (decide (n < 0))∧H'=H) (a0:=I n) (H:=H) (by unfold disk_May_1; simp)
 exact h
def wrongS (s : Int × Int) : Prop:=s.1 < 0∨s.2 < 0∨20 < s.2
instance (s : Int × Int) : Decidable (wrongS s):=by unfold wrongS; infer_instance
theorem may2_c (s : Int × Int) (H : AH) : ∃ H',Grew H H'∧BCall Tryz.prog 40 [.agg (encS s)] H (B (decide (wrongS s))) H':=by
 obtain ⟨r,H',⟨rfl,g⟩,h⟩:=disk_May_2_ok (K:=fun r H' => r=B (decide (wrongS s))∧Grew H H') (a0:=.agg (encS s)) (H:=H) (by
  unfold disk_May_2 encS wrongS
  have g:=Grew.app H [some (.cells [I s.1,I s.2])]
  by_cases h1 : s.1 < 0
  ·simp [h1]; exact g
  ·by_cases h2 : s.2 < 0
   ·simp [h1,h2]; exact g
   ·simp [h1,h2]; exact g)
 exact ⟨H',g,h⟩
theorem anyI {p : Int→Bool} {l : List Int} {k : Nat} {x : Int} (hx : l[k]? = some x) (hm : ∀ (m : Nat) y,m < k→l[m]? = some y→p y=false) (h : p x=true) : l.any p=true:=List.any_eq_true.2 ⟨x,List.mem_of_getElem? hx,h⟩
theorem any_none {α : Type} {p : α→Bool} {l : List α} (hm : ∀ (m : Nat) y,m < l.length→l[m]? = some y→p y=false) : l.any p=false:=by
 rw [List.any_eq_false]
 intro x hx
 obtain ⟨m,h⟩:=List.mem_iff_getElem?.1 hx
 simp [hm m x (List.getElem?_eq_some_iff.1 h).1 h]
def IdxE (q : Bool) (H : AH) (r : AV) (H' : AH) : Prop:=∃ j : Int,r=I j∧H'=H∧(0≤j ↔ q=true)
def IdxK (q : Bool) (H : AH) (r : AV) (H' : AH) : Prop:=∃ j : Int,r=I j∧Grew H H'∧(0≤j ↔ q=true)
theorem contI_c {l : List Int} {v : AV} (hv : SV encI 1 l v) (hl : l.length≤281474976710656) (H : AH) :
  BCall Tryz.prog 41 [v,.fn (.func 39) [] []] H (B (l.any fun n => decide (n < 0))) H:=by
 have hi : ∃ j : Int,(0≤j ↔ l.any (fun n => decide (n < 0))=true)∧BCall Tryz.prog 64 [v,.fn (.func 39) [] []] H (I j) H:=by
  obtain ⟨r,H',⟨j,rfl,rfl,hj⟩,h⟩:=zkcZ (K:=IdxE (l.any fun n => decide (n < 0)) H) (a0:=v) (a1:=.fn (.func 39) [] []) (H:=H) (by
   unfold zecZ
   simp [hv.len]
   refine zigZ (fun n x0 x1 x7 x8 H' => ∃ k : Nat,k + n=l.length∧x0=v∧x1 = .fn (.func 39) [] []∧x7=I l.length∧x8=I k∧H'=H∧∀ (m : Nat) y,m < k→l[m]? = some y→decide (y < 0)=false) ?_ l.length ⟨0,by simp,rfl,rfl,rfl,rfl,rfl,by simp⟩
   rintro n x0 x1 x7 x8 H' R hR ⟨k,hk,rfl,rfl,rfl,rfl,rfl,hm⟩
   unfold zcnZ
   rcases Nat.lt_or_ge k l.length with hlt | hge
   ·have hx:=List.getElem?_eq_getElem hlt
    generalize l[k]=y at hx
    have gf : goFunc Tryz.prog 39=true:=by kernel_rfl
    simp [hlt,hv.idx encI_len hx rfl,encI,gf]
    refine bC_of (may1_c y _) ?_
    by_cases c : y < 0
    ·have ha : l.any (fun n => decide (n < 0))=true:=anyI hx hm (by simp [c])
     simp [c]
     exact ⟨k,rfl,rfl,by rw [ha]; simp⟩
    ·simp [c,abI_add (a:=k) (b:=1) (by omega) (by omega)]
     refine hR (n - 1) _ _ _ _ _ (by omega) ⟨k + 1,by omega,rfl,rfl,rfl,rfl,rfl,fun m z hmk hz => ?_⟩
     by_cases h : m=k
     ·subst h; rw [hx] at hz; injection hz with hz; subst hz; simpa using c
     ·exact hm m z (by omega) hz
   ·have hkl : k=l.length:=by omega
    subst hkl
    have ha:=any_none hm
    simp
    exact ⟨-1,rfl,rfl,by rw [ha]; simp⟩)
  exact ⟨j,hj,h⟩
 obtain ⟨j,hj,hc⟩:=hi
 obtain ⟨r,H',⟨rfl,rfl⟩,h⟩:=zisZ (K:=fun r H' => r=B (l.any fun n => decide (n < 0))∧H'=H) (a0:=v) (a1:=.fn (.func 39) [] []) (H:=H) (by
  unfold zdfZ
  refine bC_of hc ?_
  simp
  by_cases c : 0≤j
  ·simp [c,hj.1 c]
  ·have : l.any (fun n => decide (n < 0))=false:=by
    cases ha : l.any (fun n => decide (n < 0)) with
    | false => rfl
    | true => exact absurd (hj.2 ha) c
   rw [this]; simp [c])
 exact h
theorem contS_c {l : List (Int × Int)} {v : AV} (hv : SV encS 2 l v) (hl : l.length≤281474976710656) (H : AH) :
  ∃ H',Grew H H'∧BCall Tryz.prog 42 [v,.fn (.func 40) [] []] H (B (l.any fun s => decide (wrongS s))) H':=by
 have hi : ∃ (j : Int) (H' : AH),Grew H H'∧(0≤j ↔ l.any (fun s => decide (wrongS s))=true)∧BCall Tryz.prog 65 [v,.fn (.func 40) [] []] H (I j) H':=by
  obtain ⟨r,H',⟨j,rfl,g,hj⟩,h⟩:=zfkZ (K:=IdxK (l.any fun s => decide (wrongS s)) H) (a0:=v) (a1:=.fn (.func 40) [] []) (H:=H) (by
   unfold zbvZ
   simp [hv.len]
   refine zefZ (fun n x0 x1 x7 x8 H' => ∃ k : Nat,k + n=l.length∧x0=v∧x1 = .fn (.func 40) [] []∧x7=I l.length∧x8=I k∧Grew H H'∧∀ (m : Nat) y,m < k→l[m]? = some y→decide (wrongS y)=false) ?_ l.length ⟨0,by simp,rfl,rfl,rfl,rfl,Grew.refl H,by simp⟩
   rintro n x0 x1 x7 x8 H' R hR ⟨k,hk,rfl,rfl,rfl,rfl,g,hm⟩
   unfold zbjZ
   rcases Nat.lt_or_ge k l.length with hlt | hge
   ·have hx:=List.getElem?_eq_getElem hlt
    generalize l[k]=y at hx
    have gf : goFunc Tryz.prog 40=true:=by kernel_rfl
    have e : rdCells true 2 (encS y ++ List.flatMap encS (List.drop (k + 1) l)) 0=some (.agg (encS y)):=by simp [rdCells,encS]
    obtain ⟨H2,g2,hc2⟩:=may2_c y H'
    simp [hlt,hv.idx encS_len hx rfl,e,gf]
    refine bC_of hc2 ?_
    by_cases c : wrongS y
    ·have ha : l.any (fun s => decide (wrongS s))=true:=List.any_eq_true.2 ⟨y,List.mem_of_getElem? hx,by simp [c]⟩
     simp [c]
     exact ⟨k,rfl,g.trans g2,by rw [ha]; simp⟩
    ·simp [c,abI_add (a:=k) (b:=1) (by omega) (by omega)]
     refine hR (n - 1) _ _ _ _ _ (by omega) ⟨k + 1,by omega,rfl,rfl,rfl,rfl,g.trans g2,fun m z hmk hz => ?_⟩
     by_cases h : m=k
     ·subst h; rw [hx] at hz; injection hz with hz; subst hz; simpa using c
     ·exact hm m z (by omega) hz
   ·have hkl : k=l.length:=by omega
    subst hkl
    have ha:=any_none hm
    simp
    exact ⟨-1,rfl,g,by rw [ha]; simp⟩)
  exact ⟨j,H',g,hj,h⟩
 obtain ⟨j,H1,g1,hj,hc⟩:=hi
 obtain ⟨r,H',⟨rfl,g⟩,h⟩:=zepZ (K:=fun r H' => r=B (l.any fun s => decide (wrongS s))∧Grew H H') (a0:=v) (a1:=.fn (.func 40) [] []) (H:=H) (by
  unfold zbmZ
  refine bC_of hc ?_
  simp
  refine ⟨?_,g1⟩
  by_cases c : 0≤j
  ·simp [c,hj.1 c]
  ·have : l.any (fun s => decide (wrongS s))=false:=by
    cases ha : l.any (fun s => decide (wrongS s)) with
    | false => rfl
    | true => exact absurd (hj.2 ha) c
   rw [this]; simp [c])
 exact ⟨H',g,h⟩
theorem mayD_iff (d : Dev) : mayD d ↔ d.data.length≤65536∧d.bad.any (fun n => decide (n < 0))=false∧d.soft.any (fun s => decide (wrongS s))=false:=by
 unfold mayD
 rw [List.any_eq_false,List.any_eq_false]
 refine and_congr Iff.rfl (and_congr ?_ ?_)
 ·exact forall_congr' fun b => forall_congr' fun hb => by simp
 ·refine forall_congr' fun b => forall_congr' fun hb => ?_
  rw [decide_eq_true_iff]; unfold wrongS; omega
theorem disk_May_p {d : Dev} {a b c e : AV} (h : DevV d a b c e) (h1 : d.bad.length≤281474976710656) (h2 : d.soft.length≤281474976710656) : BPure Tryz.prog 24 [.agg [a,b,c,e]] (B (decide (mayD d))):=BPure.val (noD h) rfl (disk_May_ok (by
 unfold disk_May
 have hm:=mayD_iff d
 simp [oneA_sv h.data,oneA_sv h.bad,oneA_sv h.soft,oneA_sv h.shorts,h.data.len]
 by_cases c1 : d.data.length≤65536
 ·have c1' : (d.data.length : Int)≤65536:=by omega
  simp [c1']
  refine bC_of (contI_c h.bad h1 _) ?_
  cases c2 : d.bad.any (fun n => decide (n < 0)) with
  | true =>
   rw [c2] at hm
   have : ¬ mayD d:=by rw [hm]; simp
   simp [this]
  | false =>
   obtain ⟨H2,g2,hc2⟩:=contS_c h.soft h2 [some (.cells [a,b,c,e])]
   rw [c2] at hm
   simp
   refine bC_of hc2 ?_
   cases c3 : d.soft.any (fun s => decide (wrongS s)) with
   | true =>
    rw [c3] at hm
    have : ¬ mayD d:=by rw [hm]; simp
    simp [this]
   | false =>
    rw [c3] at hm
    have : mayD d:=by rw [hm]; simp [c1]
    simp [this]
 ·have c1' : ¬ (d.data.length : Int)≤65536:=by omega
  have : ¬ mayD d:=fun h => c1 h.1
  simp [c1',this]))
end Go.Proofs.YtlbilcpnjgkpjaaGreat.Av
end
section
namespace Go.Proofs.YtlbilcpnjgkpjaaGreat.Av
open Go Go.RowKit
def Eff (d : Dev) : Dev:=if mayD d then d else ⟨[],[],[],[]⟩
def sumS : List (Int × Int)→Int→Int
 | [],_ => 0
 | s :: r,k => (if s.1=k then s.2 else 0) + sumS r k
def MapI (H : AH) (o : Nat) (z : AV) (f : Int→AV) : Prop:=∃ ps,H[o]? = some (some (.map (encM ps)))∧∀ k,look z ps k=f k
theorem MapI.keep {H H' : AH} {o : Nat} {z : AV} {f : Int→AV} (h : MapI H o z f) (hk : H'[o]? = H[o]?) : MapI H' o z f:=by
 obtain ⟨ps,h1,h2⟩:=h
 exact ⟨ps,by rw [hk]; exact h1,h2⟩
structure DiskP (n0 n1 : Nat) (H : AH) (o : Nat) (D : Dev) (L : Int→Int) (c : Int) (dv : AV) (bo lo : Nat) (sv : AV) : Prop where
 obj : H[o]? = some (some (.cells [dv,.mp bo,.mp lo,sv,I c]))
 data : zaZ H 1 dv=some (encB D.data,D.data.length)
 bad : MapI H bo (B false) (fun k => B (decide (k ∈ D.bad)))
 left : MapI H lo (I 0) (fun k => I (L k))
 shorts : zaZ H 1 sv=some (D.shorts.flatMap encI,D.shorts.length)
 ne : bo ≠ lo
 od : o ∉ idS dv
 os : o ∉ idS sv
 low : n0≤o∧n0≤bo∧n0≤lo∧(∀ i ∈ idS dv,n0≤i)∧∀ i ∈ idS sv,n0≤i
 high : o < n1∧bo < n1∧lo < n1∧(∀ i ∈ idS dv,i < n1)∧∀ i ∈ idS sv,i < n1
 top : n1≤H.length
 one : oneA dv=true∧oneA sv=true
def Keep (n0 n1 : Nat) (H H' : AH) : Prop:=H.length≤H'.length∧∀ i,i < H.length→¬ (n0≤i∧i < n1)→H'[i]? = H[i]?
theorem Keep.trans {a b : Nat} {A B C : AH} (h : Keep a b A B) (k : Keep a b B C) : Keep a b A C:=⟨Nat.le_trans h.1 k.1,fun i hi hn => (k.2 i (Nat.lt_of_lt_of_le hi h.1) hn).trans (h.2 i hi hn)⟩
theorem Keep.of {a b : Nat} {A B : AH} (h : Grew A B) : Keep a b A B:=⟨h.1,fun i hi _ => h.2 i hi⟩
theorem DiskP.keep {a b c e : Nat} {H H' : AH} {o : Nat} {D : Dev} {L : Int→Int} {cc : Int} {dv sv : AV} {bo lo : Nat} (h : DiskP a b H o D L cc dv bo lo sv) (k : Keep c e H H') (hd : b≤c∨e≤a) : DiskP a b H' o D L cc dv bo lo sv:=by
 have hin : ∀ i,a≤i→i < b→H'[i]? = H[i]?:=fun i h1 h2 => k.2 i (by have:=h.top; omega) (by omega)
 obtain ⟨l1,l2,l3,l4,l5⟩:=h.low
 obtain ⟨g1,g2,g3,g4,g5⟩:=h.high
 exact ⟨(hin o l1 g1).trans h.obj,zbZ h.data fun i hi => hin i (l4 i hi) (g4 i hi),h.bad.keep (hin _ l2 g2),h.left.keep (hin _ l3 g3),zbZ h.shorts fun i hi => hin i (l5 i hi) (g5 i hi),h.ne,h.od,h.os,h.low,h.high,Nat.le_trans h.top k.1,h.one⟩
noncomputable def newOps : List Oper:=(opsOf (sub [true,true,false] (bodyOf Tryz.f8))).toList
def newT (x1 : AV) : List AV:=expand (mk 54 0 [1]) [x1]
theorem op0 (x1 : AV) : OpIs Tryz.prog newOps (newT x1) 0 [] fun vals H K => gO true (ashift 0 x1) fun v => K v H :=
 OpIs.op (newOps.getD 0 default) (by kernel_rfl) (by kernel_rfl) (by kernel_rfl) (by kernel_rfl) (fun ρ => by kernel_rfl) (fun vals H K h => Eq.mpr (by kernel_rfl : sOp Tryz.prog pqf none0 false (aeval (pt newOps vals (fun _ => true) (newT x1) 0)) H (newOps.getD 0 default) true K=gO true (ashift 0 x1) fun v => K v H) h)
theorem op1 (x1 : AV) : OpIs Tryz.prog newOps (newT x1) 1 [0] fun vals H K => gO true (ald false 1 H (vals 0)) fun v => K v H :=
 OpIs.op (newOps.getD 1 default) (by kernel_rfl) (by kernel_rfl) (by kernel_rfl) (by kernel_rfl) (fun ρ => by kernel_rfl) (fun vals H K h => Eq.mpr (by kernel_rfl : sOp Tryz.prog pqf none0 false (aeval (pt newOps vals (fun _ => true) (newT x1) 1)) H (newOps.getD 1 default) true K=gO true (ald false 1 H (vals 0)) fun v => K v H) h)
theorem op2 (x1 : AV) : OpIs Tryz.prog newOps (newT x1) 2 [1] fun vals H K => ACalls Tryz.prog 25 [vals 1] H K :=
 OpIs.call (newOps.getD 2 default) (by kernel_rfl) (by kernel_rfl) (by kernel_rfl) _ (fun vals => [vals 1]) (by kernel_rfl) (fun vals => by kernel_rfl) (fun vals H K h => h)
theorem op3 (x1 : AV) : OpIs Tryz.prog newOps (newT x1) 3 [] fun vals H K => gH true (amkM H none) H K :=
 OpIs.op (newOps.getD 3 default) (by kernel_rfl) (by kernel_rfl) (by kernel_rfl) (by kernel_rfl) (fun ρ => by kernel_rfl) (fun vals H K h => Eq.mpr (by kernel_rfl : sOp Tryz.prog pqf none0 false (aeval (pt newOps vals (fun _ => true) (newT x1) 3)) H (newOps.getD 3 default) true K=gH true (amkM H none) H K) h)
theorem op4 (x1 : AV) : OpIs Tryz.prog newOps (newT x1) 4 [] fun vals H K => gH true (amkM H none) H K :=
 OpIs.op (newOps.getD 4 default) (by kernel_rfl) (by kernel_rfl) (by kernel_rfl) (by kernel_rfl) (fun ρ => by kernel_rfl) (fun vals H K h => Eq.mpr (by kernel_rfl : sOp Tryz.prog pqf none0 false (aeval (pt newOps vals (fun _ => true) (newT x1) 4)) H (newOps.getD 4 default) true K=gH true (amkM H none) H K) h)
theorem op5 (x1 : AV) : OpIs Tryz.prog newOps (newT x1) 5 [] fun vals H K => gO true (ashift 3 x1) fun v => K v H :=
 OpIs.op (newOps.getD 5 default) (by kernel_rfl) (by kernel_rfl) (by kernel_rfl) (by kernel_rfl) (fun ρ => by kernel_rfl) (fun vals H K h => Eq.mpr (by kernel_rfl : sOp Tryz.prog pqf none0 false (aeval (pt newOps vals (fun _ => true) (newT x1) 5)) H (newOps.getD 5 default) true K=gO true (ashift 3 x1) fun v => K v H) h)
theorem op6 (x1 : AV) : OpIs Tryz.prog newOps (newT x1) 6 [5] fun vals H K => gO true (ald false 1 H (vals 5)) fun v => K v H :=
 OpIs.op (newOps.getD 6 default) (by kernel_rfl) (by kernel_rfl) (by kernel_rfl) (by kernel_rfl) (fun ρ => by kernel_rfl) (fun vals H K h => Eq.mpr (by kernel_rfl : sOp Tryz.prog pqf none0 false (aeval (pt newOps vals (fun _ => true) (newT x1) 6)) H (newOps.getD 6 default) true K=gO true (ald false 1 H (vals 5)) fun v => K v H) h)
theorem op7 (x1 : AV) : OpIs Tryz.prog newOps (newT x1) 7 [6] fun vals H K => ACalls Tryz.prog 26 [vals 6] H K :=
 OpIs.call (newOps.getD 7 default) (by kernel_rfl) (by kernel_rfl) (by kernel_rfl) _ (fun vals => [vals 6]) (by kernel_rfl) (fun vals => by kernel_rfl) (fun vals H K h => h)
theorem op8 (x1 : AV) : OpIs Tryz.prog newOps (newT x1) 8 [2,3,4,7] fun vals H K => gO true (abl [nilSl,.lit (.map none),.lit (.map none),nilSl,I 0] [(0,1,vals 2),(1,1,vals 3),(2,1,vals 4),(3,1,vals 7)]) fun v => K v H :=
 OpIs.op (newOps.getD 8 default) (by kernel_rfl) (by kernel_rfl) (by kernel_rfl) (by kernel_rfl) (fun ρ => by kernel_rfl) (fun vals H K h => Eq.mpr (by kernel_rfl : sOp Tryz.prog pqf none0 false (aeval (pt newOps vals (fun _ => true) (newT x1) 8)) H (newOps.getD 8 default) true K=gO true (abl [nilSl,.lit (.map none),.lit (.map none),nilSl,I 0] [(0,1,vals 2),(1,1,vals 3),(2,1,vals 4),(3,1,vals 7)]) fun v => K v H) h)
theorem op9 (x1 : AV) : OpIs Tryz.prog newOps (newT x1) 9 [8] fun vals H K => gH true (anew H (vals 8)) H K :=
 OpIs.op (newOps.getD 9 default) (by kernel_rfl) (by kernel_rfl) (by kernel_rfl) (by kernel_rfl) (fun ρ => by kernel_rfl) (fun vals H K h => Eq.mpr (by kernel_rfl : sOp Tryz.prog pqf none0 false (aeval (pt newOps vals (fun _ => true) (newT x1) 9)) H (newOps.getD 9 default) true K=gH true (anew H (vals 8)) H K) h)
theorem op10 (x1 : AV) : OpIs Tryz.prog newOps (newT x1) 10 [9] fun vals H K => gO true (some (vals 9)) fun v => K v H :=
 OpIs.op (newOps.getD 10 default) (by kernel_rfl) (by kernel_rfl) (by kernel_rfl) (by kernel_rfl) (fun ρ => by kernel_rfl) (fun vals H K h => Eq.mpr (by kernel_rfl : sOp Tryz.prog pqf none0 false (aeval (pt newOps vals (fun _ => true) (newT x1) 10)) H (newOps.getD 10 default) true K=gO true (some (vals 9)) fun v => K v H) h)
theorem newLen : newOps.length=11:=by kernel_rfl
theorem newOrd : ordOk newOps=true:=by kernel_rfl
theorem newK (x1 : AV) (vals : Nat→AV) (H : AH) (K : AV→AH→Prop) : (kSeq (cutC (mk 54 0 [1,3]) (zeuZ [true,true,true] 4)) (kRet Tryz.prog Tryz.f8.results.toList K)) .normal (pt newOps vals (fun _ => true) (newT x1) 11) H=disk_New_J3 x1 (vals 10) H K:=by kernel_rfl
structure NewI (d : Dev) (H1 : AH) (p : Nat) (a e : AV) (H : AH) (vals : Nat→AV) (S : Nat→Bool) : Prop where
 g : Grew H1 H
 v0 : S 0=true→vals 0 = .ptr p 0
 v1 : S 1=true→vals 1=a
 v2 : S 2=true→zaZ H 1 (vals 2)=some (encB d.data,d.data.length)∧ownedS (vals 2)=true∧∀ i ∈ idS (vals 2),H1.length≤i
 v3 : S 3=true→∃ m,vals 3 = .mp m∧H[m]? = some (some (.map []))∧H1.length≤m
 v4 : S 4=true→∃ m,vals 4 = .mp m∧H[m]? = some (some (.map []))∧H1.length≤m
 v34 : S 3=true→S 4=true→vals 3 ≠ vals 4
 v5 : S 5=true→vals 5 = .ptr p 3
 v6 : S 6=true→vals 6=e
 v7 : S 7=true→zaZ H 1 (vals 7)=some (d.shorts.flatMap encI,d.shorts.length)∧ownedS (vals 7)=true∧∀ i ∈ idS (vals 7),H1.length≤i
 v8 : S 8=true→vals 8 = .agg [vals 2,vals 3,vals 4,vals 7,I 0]
 v9 : S 9=true→∃ o,vals 9 = .ptr o 0∧H[o]? = some (some (.cells [vals 2,vals 3,vals 4,vals 7,I 0]))∧H1.length≤o∧(∀ i ∈ idS (vals 2),i ≠ o)∧∀ i ∈ idS (vals 7),i ≠ o
 v10 : S 10=true→vals 10=vals 9
 low : (S 8=true→S 2=true∧S 3=true∧S 4=true∧S 7=true)∧(S 9=true→S 8=true)∧(S 10=true→S 9=true)
theorem NewI.grew {d : Dev} {H1 : AH} {p : Nat} {a e : AV} {H H' : AH} {vals : Nat→AV} {S : Nat→Bool} (h : NewI d H1 p a e H vals S) (g : Grew H H') : NewI d H1 p a e H' vals S:=by
 refine ⟨h.g.trans g,h.v0,h.v1,fun c => ?_,fun c => ?_,fun c => ?_,h.v34,h.v5,h.v6,fun c => ?_,h.v8,fun c => ?_,h.v10,h.low⟩
 ·obtain ⟨x,y⟩:=h.v2 c; exact ⟨g.slice x,y⟩
 ·obtain ⟨m,x,y,z⟩:=h.v3 c; exact ⟨m,x,g.cells y,z⟩
 ·obtain ⟨m,x,y,z⟩:=h.v4 c; exact ⟨m,x,g.cells y,z⟩
 ·obtain ⟨x,y⟩:=h.v7 c; exact ⟨g.slice x,y⟩
 ·obtain ⟨o,x,y,z⟩:=h.v9 c; exact ⟨o,x,g.cells y,z⟩
theorem updN {S : Nat→Bool} {i j : Nat} (h : j ≠ i) : upd S i j=S j:=by unfold upd; rw [if_neg h]
theorem valN {vals : Nat→AV} {i j : Nat} {r : AV} (h : j ≠ i) : valUp vals i r j=vals j:=by unfold valUp; rw [if_neg h]
theorem valE {vals : Nat→AV} {i : Nat} {r : AV} : valUp vals i r i=r:=by unfold valUp; rw [if_pos rfl]
theorem new_region {d : Dev} {a b c e : AV} {H1 : AH} {p : Nat} (hp : H1[p]? = some (some (.cells [a,b,c,e]))) (ha : zaZ H1 1 a=some (encB d.data,d.data.length)) (he : zaZ H1 1 e=some (d.shorts.flatMap encI,d.shorts.length)) (h1 : d.data.length≤1000000) (h2 : d.shorts.length≤1000000) {K : AV→AH→Prop}
  (hK : ∀ H o dv m1 m2 sv,Grew H1 H→H[o]? = some (some (.cells [dv,.mp m1,.mp m2,sv,I 0]))→zaZ H 1 dv=some (encB d.data,d.data.length)→zaZ H 1 sv=some (d.shorts.flatMap encI,d.shorts.length)→ownedS dv=true→ownedS sv=true→H[m1]? = some (some (.map []))→H[m2]? = some (some (.map []))→m1 ≠ m2 →
   H1.length≤o→H1.length≤m1→H1.length≤m2→(∀ i ∈ idS dv,H1.length≤i∧i ≠ o)→(∀ i ∈ idS sv,H1.length≤i∧i ≠ o)→disk_New_J3 (.ptr p 0) (.ptr o 0) H K) : disk_New_U3 (.ptr p 0) H1 K:=by
 refine unR.mk ?_
 show ACode Tryz.prog (.region 3 newOps.toArray true) _ (newT (.ptr p 0)) H1
 refine ACode.told mixP newOrd (NewI d H1 p a e) (fun _ => undefA) ⟨Grew.refl H1,by simp,by simp,by simp,by simp,by simp,by simp,by simp,by simp,by simp,by simp,by simp,by simp,by simp⟩ ?_ ?_
 ·intro i hi
  rw [newLen] at hi
  have hcases : i=0∨i=1∨i=2∨i=3∨i=4∨i=5∨i=6∨i=7∨i=8∨i=9∨i=10:=by omega
  -- the values of others stay
  have step : ∀ (i : Nat) (S : Nat→Bool) (Hc H' : AH) (vals : Nat→AV) (r : AV),S i=false→NewI d H1 p a e Hc vals S→Grew Hc H'→(i=0→r = .ptr p 0)→(i=1→r=a) →
    (i=2→zaZ H' 1 r=some (encB d.data,d.data.length)∧ownedS r=true∧∀ i ∈ idS r,H1.length≤i)→(i=3→∃ m,r = .mp m∧H'[m]? = some (some (.map []))∧H1.length≤m∧(S 4=true→r ≠ vals 4))→(i=4→∃ m,r = .mp m∧H'[m]? = some (some (.map []))∧H1.length≤m∧(S 3=true→vals 3 ≠ r)) →
    (i=5→r = .ptr p 3)→(i=6→r=e)→(i=7→zaZ H' 1 r=some (d.shorts.flatMap encI,d.shorts.length)∧ownedS r=true∧∀ i ∈ idS r,H1.length≤i)→(i=8→r = .agg [vals 2,vals 3,vals 4,vals 7,I 0]∧S 2=true∧S 3=true∧S 4=true∧S 7=true) →
    (i=9→S 8=true∧∃ o,r = .ptr o 0∧H'[o]? = some (some (.cells [vals 2,vals 3,vals 4,vals 7,I 0]))∧H1.length≤o∧(∀ i ∈ idS (vals 2),i ≠ o)∧∀ i ∈ idS (vals 7),i ≠ o)→(i=10→r=vals 9∧S 9=true)→NewI d H1 p a e H' (valUp vals i r) (upd S i):=by
   intro i S Hc H' vals r hS hI g q0 q1 q2 q3 q4 q5 q6 q7 q8 q9 q10
   have hI:=hI.grew g
   have h8 : S 8=true→i ≠ 2∧i ≠ 3∧i ≠ 4∧i ≠ 7:=fun h => by
    obtain ⟨z1,z2,z3,z4⟩:=hI.low.1 h
    refine ⟨?_, ?_, ?_, ?_⟩ <;> (rintro rfl; simp_all)
   have h9 : S 9=true→S 8=true:=hI.low.2.1
   have get : ∀ j,upd S i j=true→(j=i)∨(j ≠ i∧S j=true):=fun j h => by
    by_cases c : j=i
    ·exact .inl c
    ·rw [updN c] at h; exact .inr ⟨c,h⟩
   refine ⟨hI.g,fun c => ?_,fun c => ?_,fun c => ?_,fun c => ?_,fun c => ?_,fun c c2 => ?_,fun c => ?_,fun c => ?_,fun c => ?_,fun c => ?_,fun c => ?_,fun c => ?_,fun c => ?_,fun c => ?_,fun c => ?_⟩
   ·rcases get 0 c with rfl | ⟨k,c⟩
    ·rw [valE]; exact q0 rfl
    ·rw [valN k]; exact hI.v0 c
   ·rcases get 1 c with rfl | ⟨k,c⟩
    ·rw [valE]; exact q1 rfl
    ·rw [valN k]; exact hI.v1 c
   ·rcases get 2 c with rfl | ⟨k,c⟩
    ·rw [valE]; exact q2 rfl
    ·rw [valN k]; exact hI.v2 c
   ·rcases get 3 c with rfl | ⟨k,c⟩
    ·rw [valE]; obtain ⟨m,x,y,z,-⟩:=q3 rfl; exact ⟨m,x,y,z⟩
    ·rw [valN k]; exact hI.v3 c
   ·rcases get 4 c with rfl | ⟨k,c⟩
    ·rw [valE]; obtain ⟨m,x,y,z,-⟩:=q4 rfl; exact ⟨m,x,y,z⟩
    ·rw [valN k]; exact hI.v4 c
   ·rcases get 3 c with rfl | ⟨k,c⟩
    ·rw [valE,valN (by omega)]
     obtain ⟨m,x,y,z,t⟩:=q3 rfl
     exact t (by rwa [updN (by omega)] at c2)
    ·rw [valN k]
     rcases get 4 c2 with rfl | ⟨k2,c2⟩
     ·rw [valE]
      obtain ⟨m,x,y,z,t⟩:=q4 rfl
      exact t c
     ·rw [valN k2]; exact hI.v34 c c2
   ·rcases get 5 c with rfl | ⟨k,c⟩
    ·rw [valE]; exact q5 rfl
    ·rw [valN k]; exact hI.v5 c
   ·rcases get 6 c with rfl | ⟨k,c⟩
    ·rw [valE]; exact q6 rfl
    ·rw [valN k]; exact hI.v6 c
   ·rcases get 7 c with rfl | ⟨k,c⟩
    ·rw [valE]; exact q7 rfl
    ·rw [valN k]; exact hI.v7 c
   ·rcases get 8 c with rfl | ⟨k,c⟩
    ·rw [valE,valN (by omega),valN (by omega),valN (by omega),valN (by omega)]; exact (q8 rfl).1
    ·obtain ⟨z1,z2,z3,z4⟩:=h8 c
     rw [valN k,valN (Ne.symm z1),valN (Ne.symm z2),valN (Ne.symm z3),valN (Ne.symm z4)]; exact hI.v8 c
   ·rcases get 9 c with rfl | ⟨k,c⟩
    ·rw [valE,valN (by omega),valN (by omega),valN (by omega),valN (by omega)]; exact (q9 rfl).2
    ·obtain ⟨z1,z2,z3,z4⟩:=h8 (h9 c)
     rw [valN k,valN (Ne.symm z1),valN (Ne.symm z2),valN (Ne.symm z3),valN (Ne.symm z4)]; exact hI.v9 c
   ·rcases get 10 c with rfl | ⟨k,c⟩
    ·rw [valE,valN (by omega)]; exact (q10 rfl).1
    ·rw [valN k]
     by_cases c9 : 9=i
     ·subst c9
      have:=hI.low.2.2 c
      rw [hS] at this; cases this
     ·rw [valN c9]; exact hI.v10 c
   ·rcases get 8 c with rfl | ⟨k,c⟩
    ·obtain ⟨-,z1,z2,z3,z4⟩:=q8 rfl
     exact ⟨by rw [updN (by omega)]; exact z1,by rw [updN (by omega)]; exact z2,by rw [updN (by omega)]; exact z3,by rw [updN (by omega)]; exact z4⟩
    ·obtain ⟨z1,z2,z3,z4⟩:=h8 c
     obtain ⟨y1,y2,y3,y4⟩:=hI.low.1 c
     exact ⟨by rw [updN (Ne.symm z1)]; exact y1,by rw [updN (Ne.symm z2)]; exact y2,by rw [updN (Ne.symm z3)]; exact y3,by rw [updN (Ne.symm z4)]; exact y4⟩
   ·rcases get 9 c with rfl | ⟨k,c⟩
    ·rw [updN (by omega)]; exact (q9 rfl).1
    ·have:=h9 c
     by_cases c8 : 8=i
     ·subst c8; rw [hS] at this; cases this
     ·rw [updN c8]; exact this
   ·rcases get 10 c with rfl | ⟨k,c⟩
    ·rw [updN (by omega)]; exact (q10 rfl).2
    ·have:=hI.low.2.2 c
     by_cases c9 : 9=i
     ·subst c9; rw [hS] at this; cases this
     ·rw [updN c9]; exact this
  have hpl:=(List.getElem?_eq_some_iff.1 hp).1
  rcases hcases with rfl | rfl | rfl | rfl | rfl | rfl | rfl | rfl | rfl | rfl | rfl
  ·refine ⟨_,_,op0 _,fun S Hc vals hS hn hI => ?_⟩
   simp only [gO_true,znZ,bO_some,Nat.add_zero]
   exact step 0 S Hc Hc vals _ hS hI (Grew.refl _) (fun _ => rfl) (by omega) (by omega) (by omega) (by omega) (by omega) (by omega) (by omega) (by omega) (by omega) (by omega)
  ·refine ⟨_,_,op1 _,fun S Hc vals hS hn hI => ?_⟩
   have e0:=hI.v0 (hn 0 (by simp))
   simp only [gO_true,e0,ald_ptr (hI.g.cells hp),zeZ,List.getElem?_cons_zero,bO_some]
   exact step 1 S Hc Hc vals _ hS hI (Grew.refl _) (by omega) (fun _ => rfl) (by omega) (by omega) (by omega) (by omega) (by omega) (by omega) (by omega) (by omega) (by omega)
  ·refine ⟨_,_,op2 _,fun S Hc vals hS hn hI => ?_⟩
   have e1:=hI.v1 (hn 1 (by simp))
   rw [e1]
   obtain ⟨r,H',⟨c1,c2,c3,c4⟩,c5⟩:=cloneB_c (hI.g.slice ha) (by omega)
   refine c5.mono ?_
   rintro r' H'' ⟨rfl,rfl⟩
   exact step 2 S Hc _ vals _ hS hI c3 (by omega) (by omega) (fun _ => ⟨c2,c1,fun i hi => Nat.le_trans hI.g.1 (c4 i hi)⟩) (by omega) (by omega) (by omega) (by omega) (by omega) (by omega) (by omega) (by omega)
  ·refine ⟨_,_,op3 _,fun S Hc vals hS hn hI => ?_⟩
   rw [gH_true]
   simp only [amkM,bH_some]
   refine step 3 S Hc _ vals _ hS hI (Grew.app _ _) (by omega) (by omega) (by omega) (fun _ => ⟨Hc.length,rfl,by simp,hI.g.1,fun h4 => ?_⟩) (by omega) (by omega) (by omega) (by omega) (by omega) (by omega) (by omega)
   obtain ⟨m,x,y,z⟩:=hI.v4 h4
   rw [x]
   have:=(List.getElem?_eq_some_iff.1 y).1
   intro h; injection h with h; omega
  ·refine ⟨_,_,op4 _,fun S Hc vals hS hn hI => ?_⟩
   rw [gH_true]
   simp only [amkM,bH_some]
   refine step 4 S Hc _ vals _ hS hI (Grew.app _ _) (by omega) (by omega) (by omega) (by omega) (fun _ => ⟨Hc.length,rfl,by simp,hI.g.1,fun h4 => ?_⟩) (by omega) (by omega) (by omega) (by omega) (by omega) (by omega)
   obtain ⟨m,x,y,z⟩:=hI.v3 h4
   rw [x]
   have:=(List.getElem?_eq_some_iff.1 y).1
   intro h; injection h with h; omega
  ·refine ⟨_,_,op5 _,fun S Hc vals hS hn hI => ?_⟩
   simp only [gO_true,znZ,bO_some,Nat.zero_add]
   exact step 5 S Hc Hc vals _ hS hI (Grew.refl _) (by omega) (by omega) (by omega) (by omega) (by omega) (fun _ => rfl) (by omega) (by omega) (by omega) (by omega) (by omega)
  ·refine ⟨_,_,op6 _,fun S Hc vals hS hn hI => ?_⟩
   have e0:=hI.v5 (hn 5 (by simp))
   simp only [gO_true,e0,ald_ptr (hI.g.cells hp),zeZ,List.getElem?_cons_succ,List.getElem?_cons_zero,bO_some]
   exact step 6 S Hc Hc vals _ hS hI (Grew.refl _) (by omega) (by omega) (by omega) (by omega) (by omega) (by omega) (fun _ => rfl) (by omega) (by omega) (by omega) (by omega)
  ·refine ⟨_,_,op7 _,fun S Hc vals hS hn hI => ?_⟩
   have e1:=hI.v6 (hn 6 (by simp))
   rw [e1]
   obtain ⟨r,H',⟨c1,c2,c3,c4⟩,c5⟩:=cloneI_c (hI.g.slice he) (by omega)
   refine c5.mono ?_
   rintro r' H'' ⟨rfl,rfl⟩
   exact step 7 S Hc _ vals _ hS hI c3 (by omega) (by omega) (by omega) (by omega) (by omega) (by omega) (by omega) (fun _ => ⟨c2,c1,fun i hi => Nat.le_trans hI.g.1 (c4 i hi)⟩) (by omega) (by omega) (by omega)
  ·refine ⟨_,_,op8 _,fun S Hc vals hS hn hI => ?_⟩
   have k2:=hn 2 (by simp)
   have k3:=hn 3 (by simp)
   have k4:=hn 4 (by simp)
   have k7:=hn 7 (by simp)
   obtain ⟨-,w2,-⟩:=hI.v2 k2
   obtain ⟨-,w7,-⟩:=hI.v7 k7
   obtain ⟨m3,w3,-⟩:=hI.v3 k3
   obtain ⟨m4,w4,-⟩:=hI.v4 k4
   have e : abl [nilSl,.lit (.map none),.lit (.map none),nilSl,I 0] [(0,1,vals 2),(1,1,vals 3),(2,1,vals 4),(3,1,vals 7)]=some (.agg [vals 2,vals 3,vals 4,vals 7,I 0]):=by
    simp [w3,w4,zbuZ (zpZ w2),zbuZ (zpZ w7)]
   simp only [gO_true,e,bO_some]
   exact step 8 S Hc Hc vals _ hS hI (Grew.refl _) (by omega) (by omega) (by omega) (by omega) (by omega) (by omega) (by omega) (by omega) (fun _ => ⟨rfl,k2,k3,k4,k7⟩) (by omega) (by omega)
  ·refine ⟨_,_,op9 _,fun S Hc vals hS hn hI => ?_⟩
   have k8:=hn 8 (by simp)
   obtain ⟨k2,k3,k4,k7⟩:=hI.low.1 k8
   obtain ⟨u2,w2,-⟩:=hI.v2 k2
   obtain ⟨u7,w7,-⟩:=hI.v7 k7
   obtain ⟨m3,w3,-⟩:=hI.v3 k3
   obtain ⟨m4,w4,-⟩:=hI.v4 k4
   have e : anew Hc (vals 8)=some (.ptr Hc.length 0,Hc ++ [some (.cells [vals 2,vals 3,vals 4,vals 7,I 0])]):=by
    rw [hI.v8 k8]
    simp [w3,w4,zpZ w2,zpZ w7]
   simp only [gH_true,e,bH_some]
   exact step 9 S Hc _ vals _ hS hI (Grew.app _ _) (by omega) (by omega) (by omega) (by omega) (by omega) (by omega) (by omega) (by omega) (by omega)
    (fun _ => ⟨k8,Hc.length,rfl,by simp,hI.g.1,fun i hi => by have:=zcZ u2 i hi; omega,fun i hi => by have:=zcZ u7 i hi; omega⟩) (by omega)
  ·refine ⟨_,_,op10 _,fun S Hc vals hS hn hI => ?_⟩
   simp only [gO_true,bO_some]
   exact step 10 S Hc Hc vals _ hS hI (Grew.refl _) (by omega) (by omega) (by omega) (by omega) (by omega) (by omega) (by omega) (by omega) (by omega) (by omega) (fun _ => ⟨rfl,hn 9 (by simp)⟩)
 ·intro Hc vals S hS hI
  rw [newLen]
  rw [newLen] at hS
  show (kSeq (cutC (mk 54 0 [1,3]) (zeuZ [true,true,true] 4)) (kRet Tryz.prog Tryz.f8.results.toList K)) .normal _ Hc
  rw [newK]
  obtain ⟨o,x1,x2,x3,x4,x5⟩:=hI.v9 (hS 9 (by omega))
  obtain ⟨m3,y1,y2,y3⟩:=hI.v3 (hS 3 (by omega))
  obtain ⟨m4,z1,z2,z3⟩:=hI.v4 (hS 4 (by omega))
  obtain ⟨u2,w2,t2⟩:=hI.v2 (hS 2 (by omega))
  obtain ⟨u7,w7,t7⟩:=hI.v7 (hS 7 (by omega))
  have hne:=hI.v34 (hS 3 (by omega)) (hS 4 (by omega))
  rw [hI.v10 (hS 10 (by omega)),x1]
  rw [y1,z1] at x2 hne
  exact hK Hc o (vals 2) m3 m4 (vals 7) hI.g x2 u2 u7 w2 w7 y2 z2 (fun h => hne (by rw [h])) x3 y3 z3 (fun i hi => ⟨t2 i hi,x4 i hi⟩) (fun i hi => ⟨t7 i hi,x5 i hi⟩)
end Go.Proofs.YtlbilcpnjgkpjaaGreat.Av
end
section
namespace Go.Proofs.YtlbilcpnjgkpjaaGreat.Av
open Go Go.RowKit
theorem sumS_app (l m : List (Int × Int)) (k : Int) : sumS (l ++ m) k=sumS l k + sumS m k:=by
 induction l with
 | nil => simp [sumS]
 | cons a l ih => simp only [List.cons_append,sumS,ih]; omega
theorem sumS_bnd : ∀ {l : List (Int × Int)} (_ : ∀ s ∈ l,0≤s.1∧0≤s.2∧s.2≤20) (k : Int),0≤sumS l k∧sumS l k≤20 * l.length
 | [],_,k => by simp [sumS]
 | s :: l,h,k => by
  have h1:=sumS_bnd (l:=l) (fun s hs => h s (by simp [hs])) k
  have h2:=h s (by simp)
  simp only [sumS,List.length_cons]
  split <;> omega
structure DevH (H : AH) (d : Dev) (a b c e : AV) : Prop where
 data : zaZ H 1 a=some (encB d.data,d.data.length)
 bad : zaZ H 1 b=some (d.bad.flatMap encI,d.bad.length)
 soft : zaZ H 2 c=some (d.soft.flatMap encS,d.soft.length)
 shorts : zaZ H 1 e=some (d.shorts.flatMap encI,d.shorts.length)
theorem DevH.grew {H H' : AH} {d : Dev} {a b c e : AV} (h : DevH H d a b c e) (g : Grew H H') : DevH H' d a b c e:=⟨g.slice h.data,g.slice h.bad,g.slice h.soft,g.slice h.shorts⟩
theorem one_slice {H : AH} {sz : Nat} {v : AV} {q : List AV × Nat} (h : zaZ H sz v=some q) : oneA v=true:=by
 cases v with
 | lit a => cases a <;> first | rfl | (simp [zaZ] at h)
 | _ => first | rfl | (simp [zaZ] at h)
theorem DevH.fz {H : AH} {d : Dev} {a b c e : AV} (h : DevH H d a b c e) : ∃ A B C E,DevV d A B C E∧FZ H (.agg [a,b,c,e]) (.agg [A,B,C,E]):=by
 obtain ⟨A,hA,fA⟩:=FZ.sv (enc:=encU) (l:=d.data) (by rw [flat_encU]; exact h.data) (by rw [flat_encU]; exact zodZ _)
 obtain ⟨B,hB,fB⟩:=FZ.sv h.bad (noIdss_ints _)
 obtain ⟨C,hC,fC⟩:=FZ.sv h.soft (noIdss_softs _)
 obtain ⟨E,hE,fE⟩:=FZ.sv h.shorts (noIdss_ints _)
 exact ⟨A,B,C,E,⟨hA,hB,hC,hE⟩,FZ.agg (FZs.cons fA (FZs.cons fB (FZs.cons fC (FZs.cons fE FZs.nil))))⟩
theorem aix_int {H : AH} {v : AV} {l : List Int} {n k : Nat} {i x : Int} (h : zaZ H 1 v=some (l.flatMap encI,n)) (hx : l[k]? = some x) (hi : i=k) : ∃ p,aixS 1 v (I i)=some p∧ald false 1 H p=some (I x):=by
 have hk:=(List.getElem?_eq_some_iff.1 hx).1
 have hn : n=l.length:=by have h1:=zbwZ h; have h2:=flatMap_len encI_len l; omega
 obtain ⟨p,c,h1,h2,h3,h4⟩:=aixS_spec h hi (show k < n by omega)
 refine ⟨p,h1, ?_⟩
 rw [ald_at h2 (by omega) h4,zeZ]
 have:=congrArg (fun l => l[0]?) h3
 simp only [zelZ encI_len hx,encI,List.cons_append,List.nil_append,List.take_succ_cons,List.take_zero,List.getElem?_cons_zero] at this
 rw [List.getElem?_take_of_lt (by omega)] at this
 exact this
theorem aix_soft {H : AH} {v : AV} {l : List (Int × Int)} {n k : Nat} {i : Int} {x : Int × Int} (h : zaZ H 2 v=some (l.flatMap encS,n)) (hx : l[k]? = some x) (hi : i=k) : ∃ p,aixS 2 v (I i)=some p∧ald true 2 H p=some (.agg (encS x)):=by
 have hk:=(List.getElem?_eq_some_iff.1 hx).1
 have hn : n=l.length:=by have h1:=zbwZ h; have h2:=flatMap_len encS_len l; omega
 obtain ⟨p,c,h1,h2,h3,h4⟩:=aixS_spec h hi (show k < n by omega)
 refine ⟨p,h1, ?_⟩
 rw [ald_at h2 (by omega) h4,rdCells_agg (by omega),List.drop_zero,h3,zelZ encS_len hx,List.take_append_of_le_length (by simp [encS]),List.take_of_length_le (by simp [encS])]
def NewK (H : AH) (d : Dev) (r : AV) (H' : AH) : Prop:=∃ o n1 dv bo lo sv,r = .ptr o 0∧DiskP H.length n1 H' o (Eff d) (sumS (Eff d).soft) 0 dv bo lo sv∧Grew H H'
theorem look_nil (z : AV) (k : Int) : look z [] k=z:=rfl
theorem MapI.put {H : AH} {o : Nat} {z v : AV} {f : Int→AV} {k : Int} (h : MapI H o z f) : ∃ H',amu (.int .i64) H (.mp o) (I k) v=some H'∧H'.length=H.length∧(∀ i,i ≠ o→H'[i]? = H[i]?)∧MapI H' o z (fun k2 => if k2=k then v else f k2):=by
 obtain ⟨ps,h1,h2⟩:=h
 refine ⟨_,amu_int h1,by simp,fun i hi => List.getElem?_set_ne (Ne.symm hi),putM ps k v,List.getElem?_set_self (List.getElem?_eq_some_iff.1 h1).1,fun k2 => ?_⟩
 rw [putM_look,h2]
theorem MapI.get {H : AH} {o : Nat} {zv : Value} {f : Int→AV} (h : MapI H o (.ofV zv) f) (k : Int) : alk (.int .i64) zv H (.mp o) (I k) false=some (f k):=by
 obtain ⟨ps,h1,h2⟩:=h
 rw [alk_int h1,h2]
theorem disk_New_a {d : Dev} {a b c e : AV} {H : AH} (h : DevH H d a b c e) (h1 : d.bad.length≤1000000) (h2 : d.soft.length≤1000000) (h3 : d.data.length≤1000000) (h4 : d.shorts.length≤1000000) :
  ACalls Tryz.prog 8 [.agg [a,b,c,e]] H (NewK H d):=disk_New_ok (by
 unfold disk_New
 have g0:=Grew.app H [some (.cells [a,b,c,e])]
 obtain ⟨A,B',C,E,hV,fV⟩:=(h.grew g0).fz
 simp [one_slice h.data,one_slice h.bad,one_slice h.soft,one_slice h.shorts,rdCells]
 refine bP_of (PCall.lend (FZs.cons fV FZs.nil) rfl (disk_May_p hV (by omega) (by omega))) ?_
 -- what follows,of a device that may be
 have main : ∀ (D : Dev) (a b c e : AV) (H1 : AH),mayD D→D=Eff d→DevH H1 D a b c e→D.bad.length≤1000000→D.soft.length≤1000000→D.data.length≤1000000→D.shorts.length≤1000000→H1.length=H.length + 1→(∀ i,i < H.length→H1[i]? = H[i]?)→H1[H.length]? = some (some (.cells [a,b,c,e])) →
   disk_New_J1 (.ptr H.length 0) H1 (NewK H d):=by
  intro D a b c e H1 hm hD hv b1 b2 b3 b4 hlen hold hp
  rw [disk_New_J1_eq]
  unfold disk_New_J1_b
  refine new_region hp hv.data hv.shorts b3 b4 ?_
  intro H2 o dv m1 m2 sv g k1 k2 k3 k4 k5 k6 k7 k8 k9 k10 k11 k12 k13
  rw [disk_New_J3_eq]
  unfold disk_New_J3_b
  have hp2:=g.cells hp
  have hv2:=hv.grew g
  simp [hp2,zbxZ hv2.bad]
  have hol:=(List.getElem?_eq_some_iff.1 k1).1
  have hm1:=(List.getElem?_eq_some_iff.1 k6).1
  have hm2:=(List.getElem?_eq_some_iff.1 k7).1
  have hom1 : o ≠ m1:=by rintro rfl; rw [k1] at k6; simp at k6
  have hom2 : o ≠ m2:=by rintro rfl; rw [k1] at k7; simp at k7
  have nd1 : m1 ∉ idS dv:=fun hi => by
   cases dv <;> simp [idS] at hi
   subst hi; simp [zaZ,k6] at k2
  have nd2 : m2 ∉ idS dv:=fun hi => by
   cases dv <;> simp [idS] at hi
   subst hi; simp [zaZ,k7] at k2
  have ns1 : m1 ∉ idS sv:=fun hi => by
   cases sv <;> simp [idS] at hi
   subst hi; simp [zaZ,k6] at k3
  have ns2 : m2 ∉ idS sv:=fun hi => by
   cases sv <;> simp [idS] at hi
   subst hi; simp [zaZ,k7] at k3
  have kb : ∀ H3 : AH,(∀ i,i < H1.length→H3[i]? = H2[i]?)→DevH H3 D a b c e:=fun H3 hs => by
   have : ∀ {sz : Nat} {v : AV} {q : List AV × Nat},zaZ H1 sz v=some q→zaZ H3 sz v=some q:=fun {sz v q} hh => zbZ hh fun i hi => by
    rw [hs i (zcZ hh i hi),g.2 i (zcZ hh i hi)]
   exact ⟨this hv.data,this hv.bad,this hv.soft,this hv.shorts⟩
  -- what does not change
  have stay : ∀ H3 : AH,H3.length=H2.length→(∀ i,i ≠ m1→i ≠ m2→H3[i]? = H2[i]?)→H3[H.length]? = some (some (.cells [a,b,c,e]))∧H3[o]? = some (some (.cells [dv,.mp m1,.mp m2,sv,I 0]))∧zaZ H3 1 dv=some (encB D.data,D.data.length)∧zaZ H3 1 sv=some (D.shorts.flatMap encI,D.shorts.length)∧Grew H H3:=by
   intro H3 hl hs
   refine ⟨(hs _ (by omega) (by omega)).trans hp2,(hs o hom1 hom2).trans k1,zbZ k2 fun i hi => hs i (fun h => nd1 (h ▸ hi)) (fun h => nd2 (h ▸ hi)),zbZ k3 fun i hi => hs i (fun h => ns1 (h ▸ hi)) (fun h => ns2 (h ▸ hi)), ?_,fun i hi => ?_⟩
   ·have:=g.1; omega
   ·rw [hs i (by omega) (by omega),g.2 i (by omega),hold i hi]
  refine disk_New_L6_rule (fun n x1 x3 x23 x24 x25 H3 => ∃ k : Nat,k + n=D.bad.length∧x1 = .ptr H.length 0∧x3 = .ptr o 0∧x23=b∧x24=I D.bad.length∧x25=I k∧H3.length=H2.length∧(∀ i,i ≠ m1→i ≠ m2→H3[i]? = H2[i]?)∧MapI H3 m1 (B false) (fun q => B (decide (q ∈ D.bad.take k)))∧MapI H3 m2 (I 0) (fun _ => I 0)) ?_ D.bad.length
   ⟨0,by omega,rfl,rfl,rfl,rfl,rfl,rfl,fun _ _ _ => rfl,⟨[],k6,fun k => by rw [look_nil]; simp⟩,⟨[],k7,fun k => look_nil _ _⟩⟩
  rintro n x1 x3 x23 x24 x25 H3 R hR ⟨k,hk,rfl,rfl,rfl,rfl,rfl,hl3,hs3,hb3,hf3⟩
  unfold disk_New_L6_b
  obtain ⟨t1,t2,t3,t4,t5⟩:=stay H3 hl3 hs3
  have hv3:=kb H3 fun i hi => hs3 i (by omega) (by omega)
  rcases Nat.lt_or_ge k D.bad.length with hlt | hge
  ·have hx:=List.getElem?_eq_getElem hlt
   generalize D.bad[k]=y at hx
   obtain ⟨H4,p1,p2,p3,p4⟩:=hb3.put (k:=y) (v:=B true)
   obtain ⟨qp,e1,e2⟩:=aix_int (i:=k) hv3.bad hx rfl
   simp [hlt,e1,e2,t2,p1,abI_add (a:=k) (b:=1) (by omega) (by omega)]
   refine hR (n - 1) _ _ _ _ _ _ (by omega) ⟨k + 1,by omega,rfl,rfl,rfl,rfl,rfl,by omega,fun i hi hi2 => by rw [p3 i hi]; exact hs3 i hi hi2, ?_,hf3.keep (p3 m2 (Ne.symm k8))⟩
   obtain ⟨ps,z1,z2⟩:=p4
   refine ⟨ps,z1,fun q => ?_⟩
   rw [z2,List.take_add_one,hx]
   by_cases c : q=y <;> simp [c]
  ·have hkl : k=D.bad.length:=by omega
   subst hkl
   rw [List.take_length] at hb3
   simp [t1,zbxZ hv3.soft]
   refine disk_New_L13_rule (fun n x3 x36 x37 x38 H4 => ∃ k : Nat,k + n=D.soft.length∧x3 = .ptr o 0∧x36=c∧x37=I D.soft.length∧x38=I k∧H2.length≤H4.length∧(∀ i,i < H2.length→i ≠ m1→i ≠ m2→H4[i]? = H2[i]?)∧MapI H4 m1 (B false) (fun q => B (decide (q ∈ D.bad)))∧MapI H4 m2 (I 0) (fun q => I (sumS (D.soft.take k) q))) ?_ D.soft.length
    ⟨0,by omega,rfl,rfl,rfl,rfl,by omega,fun i _ => hs3 i,hb3,hf3⟩
   rintro n x3 x36 x37 x38 H4 R hR ⟨k,hk,rfl,rfl,rfl,rfl,hl4,hs4,hb4,hf4⟩
   unfold zpbZ
   have u2 : H4[o]? = some (some (.cells [dv,.mp m1,.mp m2,sv,I 0])):=(hs4 o hol hom1 hom2).trans k1
   rcases Nat.lt_or_ge k D.soft.length with hlt | hge
   ·have hx:=List.getElem?_eq_getElem hlt
    generalize D.soft[k]=y at hx
    have hy:=hm.2.2 y (List.mem_of_getElem? hx)
    have hsum:=sumS_bnd (l:=D.soft.take k) (fun s hs => hm.2.2 s (List.mem_of_mem_take hs)) y.1
    have htl : (D.soft.take k).length≤D.soft.length:=by rw [List.length_take]; omega
    have gA:=Grew.app H4 [some (.cells (encS y))]
    have f5 : MapI (H4 ++ [some (.cells (encS y))]) m2 (.ofV (.int .i64 0)) (fun q => I (sumS (D.soft.take k) q)):=hf4.keep (gA.2 m2 (by omega))
    obtain ⟨H5,p1,p2,p3,p4⟩:=f5.put (k:=y.1) (v:=I (sumS (D.soft.take k) y.1 + y.2))
    have hg:=f5.get y.1
    have u2':=gA.cells u2
    unfold encS at p1 hg u2'
    have hv4:=kb H4 fun i hi => hs4 i (by have:=g.1; omega) (by omega) (by omega)
    obtain ⟨qp,e1,e2⟩:=aix_soft (i:=k) hv4.soft hx rfl
    simp [hlt,e1,e2,encS,rdCells,ast]
    simp [u2']
    simp [hg,abI_add (a:=sumS (D.soft.take k) y.1) (b:=y.2) (by omega) (by omega),p1,abI_add (a:=k) (b:=1) (by omega) (by omega)]
    have hlA : (H4 ++ [some (AObj.cells (encS y))]).length=H4.length + 1:=by simp
    refine hR (n - 1) _ _ _ _ _ (by omega) ⟨k + 1,by omega,rfl,rfl,rfl,rfl,by omega,fun i hi hi1 hi2 => by rw [p3 i hi2,gA.2 i (by omega)]; exact hs4 i hi hi1 hi2,(hb4.keep (gA.2 m1 (by omega))).keep (p3 m1 k8), ?_⟩
    obtain ⟨ps,z1,z2⟩:=p4
    refine ⟨ps,z1,fun q => ?_⟩
    rw [show (I 0 : AV)=AV.ofV (.int .i64 0) from rfl,z2,List.take_add_one,hx]
    simp only [sumS_app]
    by_cases cq : q=y.1
    ·rw [if_pos cq,cq]; simp [sumS]
    ·rw [if_neg cq]; simp [sumS,show ¬ y.1=q by omega]
   ·have hkl : k=D.soft.length:=by omega
    subst hkl
    rw [List.take_length] at hf4
    simp
    have keep : ∀ i,i < H2.length→i ≠ m1→i ≠ m2→H4[i]? = H2[i]?:=hs4
    refine ⟨o,H4.length,dv,m1,m2,sv,rfl, ?_,by omega,fun i hi => ?_⟩
    ·rw [← hD]
     refine ⟨u2,zbZ k2 fun i hi => keep i (zcZ k2 i hi) (fun h => nd1 (h ▸ hi)) (fun h => nd2 (h ▸ hi)),hb4,hf4,zbZ k3 fun i hi => keep i (zcZ k3 i hi) (fun h => ns1 (h ▸ hi)) (fun h => ns2 (h ▸ hi)),k8,fun hi => (k12 o hi).2 rfl,fun hi => (k13 o hi).2 rfl,
      ⟨by omega,by omega,by omega,fun i hi => by have:=(k12 i hi).1; omega,fun i hi => by have:=(k13 i hi).1; omega⟩,⟨by omega,by omega,by omega,fun i hi => by have:=zcZ k2 i hi; omega,fun i hi => by have:=zcZ k3 i hi; omega⟩,Nat.le_refl _,zpZ k4,zpZ k5⟩
    ·rw [keep i (by have:=g.1; omega) (by omega) (by omega),g.2 i (by omega),hold i hi]
 by_cases hm : mayD d
 ·simp [hm]
  exact main d a b c e _ hm (by unfold Eff; rw [if_pos hm]) (h.grew g0) h1 h2 h3 h4 (by simp) (fun i hi => List.getElem?_append_left hi) (by simp)
 ·simp [hm,ast]
  refine main ⟨[],[],[],[]⟩ nilSl nilSl nilSl nilSl _ ⟨by simp,by simp,by simp⟩ (by unfold Eff; rw [if_neg hm]) ⟨rfl,rfl,rfl,rfl⟩ (by simp) (by simp) (by simp) (by simp) (by simp) (fun i hi => ?_) ?_
  ·rw [List.getElem?_append_left hi]
  ·simp)
end Go.Proofs.YtlbilcpnjgkpjaaGreat.Av
end
section
namespace Go.Proofs.YtlbilcpnjgkpjaaGreat.Av
open Go Go.RowKit
def failS (D : Dev) (L : Int→Int) (k : Int) : Prop:=k ∈ D.bad∨0 < L k
instance (D : Dev) (L : Int→Int) (k : Int) : Decidable (failS D L k):=by unfold failS; infer_instance
def shortS (D : Dev) (c : Int) : Int:=(D.shorts[c.toNat]?).getD 0
def askS (D : Dev) (c pos n : Int) : Int:=if c < D.shorts.length∧0 < shortS D c then min (min n (max 0 (D.data.length - pos))) (shortS D c) else min n (max 0 (D.data.length - pos))
def endP (D : Dev) (L : Int→Int) (k0 e0 e : Int) : Prop:=(e=e0∨∃ k,k0≤k∧e=k * 8∧k * 8 < e0∧failS D L k)∧∀ k,k0≤k→k * 8 < e→¬ failS D L k
theorem endP.uniq {D : Dev} {L : Int→Int} {k0 e0 a b : Int} (h : endP D L k0 e0 a) (h' : endP D L k0 e0 b) : a=b:=by
 have key : ∀ {a b : Int},endP D L k0 e0 a→endP D L k0 e0 b→¬ a < b:=by
  intro a b h h' hlt
  rcases h.1 with rfl | ⟨k,k1,rfl,k2,k3⟩
  ·rcases h'.1 with rfl | ⟨k,k1,rfl,k2,k3⟩ <;> omega
  ·exact h'.2 k k1 hlt k3
 have:=key h h'; have:=key h' h; omega
theorem end_ex (D : Dev) (L : Int→Int) : ∀ (n : Nat) (k0 e0 : Int),(e0 - k0 * 8).toNat≤n→∃ e,endP D L k0 e0 e:=by
 intro n
 induction n with
 | zero => intro k0 e0 h; exact ⟨e0,.inl rfl,fun k h1 h2 => by omega⟩
 | succ n ih =>
  intro k0 e0 h
  by_cases c : k0 * 8 < e0
  ·by_cases hf : failS D L k0
   ·exact ⟨k0 * 8,.inr ⟨k0,by omega,rfl,c,hf⟩,fun k h1 h2 => by omega⟩
   ·obtain ⟨e,h1,h2⟩:=ih (k0 + 1) e0 (by omega)
    refine ⟨e,h1.imp id fun ⟨k,a,b,c,d⟩ => ⟨k,by omega,b,c,d⟩,fun k h3 h4 => ?_⟩
    by_cases hk : k=k0
    ·rw [hk]; exact hf
    ·exact h2 k (by omega) h4
  ·exact ⟨e0,.inl rfl,fun k h1 h2 => by omega⟩
noncomputable def endS (D : Dev) (L : Int→Int) (k0 e0 : Int) : Int:=Classical.choose (end_ex D L (e0 - k0 * 8).toNat k0 e0 (Nat.le_refl _))
theorem endS_spec (D : Dev) (L : Int→Int) (k0 e0 : Int) : endP D L k0 e0 (endS D L k0 e0):=Classical.choose_spec (end_ex D L (e0 - k0 * 8).toNat k0 e0 (Nat.le_refl _))
theorem endP.le {D : Dev} {L : Int→Int} {k0 e0 e : Int} (h : endP D L k0 e0 e) : e≤e0∧(e=e0∨k0 * 8≤e):=by
 rcases h.1 with rfl | ⟨k,k1,rfl,k2,k3⟩
 ·exact ⟨by omega,.inl rfl⟩
 ·exact ⟨by omega,.inr (by omega)⟩
def partD (l : List UInt8) (a b : Int) : List UInt8:=(l.drop a.toNat).take (b - a).toNat
noncomputable def getS (D : Dev) (L : Int→Int) (c pos n : Int) : List UInt8 × Int × (Int→Int) × Int :=
 if pos < 0∨n < 0∨4096 < n then ([],5,L,c)
 else if askS D c pos n=0 then ([],0,L,c + 1)
 else if failS D L (pos / 8) then ([],1,(if pos / 8 ∈ D.bad then L else fun k => if k=pos / 8 then L (pos / 8) - 1 else L k),c + 1)
 else (partD D.data pos (endS D L (pos / 8 + 1) (pos + askS D c pos n)),0,L,c + 1)
structure Fine (D : Dev) (L : Int→Int) (c : Int) : Prop where
 l : ∀ k,-1000000000000≤L k∧L k≤1000000000000
 c : 0≤c∧c≤1000000000000
 data : D.data.length≤1000000
 shorts : D.shorts.length≤1000000
section
variable {n0 n1 : Nat} {H : AH} {o : Nat} {D : Dev} {L : Int→Int} {c : Int} {dv sv : AV} {bo lo : Nat}
theorem DiskP.getB (h : DiskP n0 n1 H o D L c dv bo lo sv) (k : Int) : alk (.int .i64) (.bool false) H (.mp bo) (I k) false=some (B (decide (k ∈ D.bad))):=MapI.get (zv:=.bool false) h.bad k
theorem DiskP.getL (h : DiskP n0 n1 H o D L c dv bo lo sv) (k : Int) : alk (.int .i64) (.int .i64 0) H (.mp lo) (I k) false=some (I (L k)):=MapI.get (zv:=.int .i64 0) h.left k
theorem disk_Calls_c (h : DiskP n0 n1 H o D L c dv bo lo sv) : BCall Tryz.prog 13 [.ptr o 0] H (I c) H:=by
 obtain ⟨r,H',⟨rfl,rfl⟩,hc⟩:=disk_Disk_Calls_ok (K:=fun r H' => r=I c∧H'=H) (a0:=.ptr o 0) (H:=H) (by
  unfold zmqZ
  simp [h.obj])
 exact hc
theorem disk_fails_c (h : DiskP n0 n1 H o D L c dv bo lo sv) (k : Int) : BCall Tryz.prog 44 [.ptr o 0,I k] H (B (decide (failS D L k))) H:=by
 obtain ⟨r,H',⟨rfl,rfl⟩,hc⟩:=disk_Disk_fails_ok (K:=fun r H' => r=B (decide (failS D L k))∧H'=H) (a0:=.ptr o 0) (a1:=I k) (H:=H) (by
  unfold zmlZ
  by_cases h3 : k ∈ D.bad
  ·simp [h.obj,h.getB,h3,failS]
  ·simp [h.obj,h.getB,h3,h.getL,failS])
 exact hc
theorem disk_asked_c (h : DiskP n0 n1 H o D L c dv bo lo sv) (hf : Fine D L c) (pos n : Int) (hp : 0≤pos) (hp2 : pos≤9223372036854775807) : BCall Tryz.prog 43 [.ptr o 0,I pos,I n] H (I (askS D c pos n)) H:=by
 have hd:=hf.data
 have hc0:=hf.c
 obtain ⟨r,H',⟨rfl,rfl⟩,hc⟩:=disk_Disk_asked_ok (K:=fun r H' => r=I (askS D c pos n)∧H'=H) (a0:=.ptr o 0) (a1:=I pos) (a2:=I n) (H:=H) (by
  unfold znbZ
  have hm : min (max (D.data.length - pos) 0) n=min n (max 0 (D.data.length - pos)):=by omega
  simp [h.obj,zbxZ h.data,abI_sub (a:=(D.data.length : Int)) (b:=pos) (by omega) (by omega),hm,zbxZ h.shorts]
  have fin : ∀ x,x=askS D c pos n→zflZ (I x) H fun r H' => r=I (askS D c pos n)∧H'=H:=by
   rintro x rfl
   rw [zqfZ]
   unfold zkgZ
   exact ⟨rfl,rfl⟩
  by_cases h1 : c < D.shorts.length
  ·have hx:=List.getElem?_eq_getElem (l:=D.shorts) (i:=c.toNat) (by omega)
   generalize D.shorts[c.toNat]'(by omega)=y at hx
   have hy : shortS D c=y:=by unfold shortS; rw [hx]; rfl
   obtain ⟨p,e1,e2⟩:=aix_int h.shorts hx (i:=c) (by omega)
   by_cases h2 : 0 < y
   ·simp [h1,e1,e2,h2,h.obj]
    exact fin _ (by unfold askS; rw [if_pos ⟨h1,by rw [hy]; exact h2⟩,hy]; omega)
   ·simp [h1,e1,e2,h2,h.obj]
    exact fin _ (by unfold askS; rw [if_neg (fun h => h2 (by rw [← hy]; exact h.2))])
  ·simp [h1]
   exact fin _ (by unfold askS; rw [if_neg (fun h => h1 h.1)]))
 exact hc
end
def GetK (n0 n1 : Nat) (H : AH) (o : Nat) (D : Dev) (dv : AV) (bo lo : Nat) (sv : AV) (res : List UInt8 × Int × (Int→Int) × Int) (r : AV) (H' : AH) : Prop :=
 ∃ v,r = .tup [v,I res.2.1]∧zaZ H' 1 v=some (encB res.1,res.1.length)∧ownedS v=true∧(∀ i ∈ idS v,H.length≤i)∧DiskP n0 n1 H' o D res.2.2.1 res.2.2.2 dv bo lo sv∧Keep n0 n1 H H'
theorem ask_bnd {D : Dev} {c pos n : Int} (hn : 0≤n) : 0≤askS D c pos n∧askS D c pos n≤n∧(0 < askS D c pos n→pos + askS D c pos n≤D.data.length):=by
 unfold askS
 split
 ·rename_i h
  have:=h.2
  refine ⟨by omega,by omega,fun h => by omega⟩
 ·refine ⟨by omega,by omega,fun h => by omega⟩
theorem DiskP.set {n0 n1 : Nat} {H : AH} {o : Nat} {D : Dev} {L : Int→Int} {c c' : Int} {dv sv : AV} {bo lo : Nat} (h : DiskP n0 n1 H o D L c dv bo lo sv) : DiskP n0 n1 (H.set o (some (.cells [dv,.mp bo,.mp lo,sv,I c']))) o D L c' dv bo lo sv∧Keep n0 n1 H (H.set o (some (.cells [dv,.mp bo,.mp lo,sv,I c']))):=by
 have hol:=(List.getElem?_eq_some_iff.1 h.obj).1
 have hb : bo ≠ o:=by
  rintro rfl
  obtain ⟨ps,h1,-⟩:=h.bad
  rw [h.obj] at h1; simp at h1
 have hl : lo ≠ o:=by
  rintro rfl
  obtain ⟨ps,h1,-⟩:=h.left
  rw [h.obj] at h1; simp at h1
 refine ⟨⟨List.getElem?_set_self hol,zbZ h.data fun i hi => List.getElem?_set_ne (fun (e : o=i) => h.od (e ▸ hi)),h.bad.keep (List.getElem?_set_ne (Ne.symm hb)),h.left.keep (List.getElem?_set_ne (Ne.symm hl)),zbZ h.shorts fun i hi => List.getElem?_set_ne (fun (e : o=i) => h.os (e ▸ hi)),h.ne,h.od,h.os,h.low,h.high,by simpa using h.top,h.one⟩,
  by simp,fun i hi hn => List.getElem?_set_ne (by have:=h.low.1; have:=h.high.1; omega)⟩
theorem disk_Get_c {n0 n1 : Nat} {H : AH} {o : Nat} {D : Dev} {L : Int→Int} {c : Int} {dv sv : AV} {bo lo : Nat} (h : DiskP n0 n1 H o D L c dv bo lo sv) (hf : Fine D L c) (pos n : Int) (hp : pos≤9223372036854775807) :
  ∃ r H',GetK n0 n1 H o D dv bo lo sv (getS D L c pos n) r H'∧BCall Tryz.prog 27 [.ptr o 0,I pos,I n] H r H':=disk_Disk_Get_ok (by
 unfold disk_Disk_Get
 have hd:=hf.data
 have hc0:=hf.c
 have empty : ∀ (x : Int) L' c' H',DiskP n0 n1 H' o D L' c' dv bo lo sv→Keep n0 n1 H H'→getS D L c pos n=([],x,L',c')→GetK n0 n1 H o D dv bo lo sv (getS D L c pos n) (.tup [nilSl,I x]) H':=by
  intro x L' c' H' h1 h2 h3
  rw [h3]
  exact ⟨nilSl,rfl,rfl,rfl,by simp [idS],h1,h2⟩
 by_cases h1 : pos < 0
 ·simp [h1]
  exact empty 5 L c H h ⟨Nat.le_refl _,fun _ _ _ => rfl⟩ (if_pos (.inl h1))
 ·by_cases h2 : n < 0
  ·simp [h1,h2]
   exact empty 5 L c H h ⟨Nat.le_refl _,fun _ _ _ => rfl⟩ (if_pos (.inr (.inl h2)))
  ·by_cases h3 : 4096 < n
   ·simp [h1,h2,h3]
    exact empty 5 L c H h ⟨Nat.le_refl _,fun _ _ _ => rfl⟩ (if_pos (.inr (.inr h3)))
   ·have hg : getS D L c pos n=_:=if_neg (fun hh => by omega)
    simp [h1,h2,h3]
    refine bC_of (disk_asked_c h hf pos n (by omega) hp) ?_
    obtain ⟨b1,b2,b3⟩:=ask_bnd (D:=D) (c:=c) (pos:=pos) (n:=n) (by omega)
    simp [h.obj,abI_add (a:=c) (b:=1) (by omega) (by omega)]
    rw [ast_ptr (n:=1) (off:=4) (xs:=[I (c + 1)]) rfl h.obj rfl (by simp)]
    simp
    obtain ⟨h',kp⟩:=h.set (c':=c + 1)
    generalize (H.set o (some (.cells [dv,.mp bo,.mp lo,sv,I (c + 1)])))=H1 at h' kp
    generalize hm : askS D c pos n=m at *
    by_cases h4 : m=0
    ·rw [if_pos h4] at hg
     simp [h4]
     exact empty 0 L (c + 1) H1 h' kp hg
    ·rw [if_neg h4] at hg
     have hpm:=b3 (by omega)
     simp [h4,abI_quo (a:=pos) (b:=8) (by omega) (by omega) (by omega)]
     refine bC_of (disk_fails_c h' (pos / 8)) ?_
     by_cases h5 : failS D L (pos / 8)
     ·rw [if_pos h5] at hg
      simp [h5,h'.obj,h'.getB]
      by_cases h6 : pos / 8 ∈ D.bad
      ·rw [if_pos h6] at hg
       simp [h6]
       rw [zkqZ]
       unfold zhzZ
       exact empty 1 L (c + 1) H1 h' kp hg
      ·rw [if_neg h6] at hg
       have hL:=hf.l (pos / 8)
       obtain ⟨H2,p1,p2,p3,p4⟩:=h'.left.put (k:=pos / 8) (v:=I (L (pos / 8) - 1))
       simp [h6,h'.obj,h'.getL,abI_sub (a:=L (pos / 8)) (b:=1) (by omega) (by omega),p1]
       rw [zkqZ]
       unfold zhzZ
       have hlo : lo ≠ o:=by
        rintro rfl
        obtain ⟨ps,h1,-⟩:=h'.left
        rw [h'.obj] at h1; simp at h1
       have nd : lo ∉ idS dv:=fun hi => by
        obtain ⟨ps,z1,-⟩:=h'.left
        have z2:=h'.data
        cases dv <;> simp [idS] at hi
        subst hi; simp [zaZ,z1] at z2
       have ns : lo ∉ idS sv:=fun hi => by
        obtain ⟨ps,z1,-⟩:=h'.left
        have z2:=h'.shorts
        cases sv <;> simp [idS] at hi
        subst hi; simp [zaZ,z1] at z2
       have kp2 : Keep n0 n1 H1 H2:=⟨by omega,fun i hi hn => p3 i (by have:=h'.low; have:=h'.high; omega)⟩
       refine empty 1 _ (c + 1) H2 ⟨(p3 o (Ne.symm hlo)).trans h'.obj,zbZ h'.data fun i hi => p3 i (fun e => nd (e ▸ hi)),h'.bad.keep (p3 bo h'.ne), ?_,zbZ h'.shorts fun i hi => p3 i (fun e => ns (e ▸ hi)),h'.ne,h'.od,h'.os,h'.low,h'.high,by have:=h'.top; omega,h'.one⟩ (kp.trans kp2) hg
       obtain ⟨ps,z1,z2⟩:=p4
       refine ⟨ps,z1,fun k => ?_⟩
       rw [z2]
       by_cases hk : k=pos / 8 <;> simp [hk]
     ·rw [if_neg h5] at hg
      simp [h5,abI_add (a:=pos) (b:=m) (by omega) (by omega),abI_add (a:=pos / 8) (b:=1) (by omega) (by omega)]
      refine zptZ (fun q x0 x1 x9 x10 H' => ∃ (k e : Int),q=(pos + m - k * 8).toNat∧x0 = .ptr o 0∧x1=I pos∧x9=I e∧x10=I k∧H'=H1∧pos / 8 + 1≤k∧(e=pos + m∨∃ k2,pos / 8 + 1≤k2∧k2 < k∧e=k2 * 8∧k2 * 8 < pos + m∧failS D L k2)∧(∀ k2,pos / 8 + 1≤k2→k2 < k→k2 * 8 < e→¬ failS D L k2)∧k * 8≤pos + m + 8) ?_ (pos + m - (pos / 8 + 1) * 8).toNat
       ⟨pos / 8 + 1,pos + m,rfl,rfl,rfl,rfl,rfl,rfl,by omega,.inl rfl,fun k2 _ _ => by omega,by omega⟩
      rintro q x0 x1 x9 x10 H' R hR ⟨k,e,rfl,rfl,rfl,rfl,rfl,rfl,k1,k2,k3,k4⟩
      unfold zifZ
      have hle : e≤pos + m:=by rcases k2 with rfl | ⟨a,_,_,rfl,_,_⟩ <;> omega
      simp [abI_mul (a:=k) (b:=8) (by omega) (by omega)]
      by_cases c1 : k * 8 < e
      ·simp [c1]
       refine bC_of (disk_fails_c h' k) ?_
       by_cases c2 : failS D L k
       ·simp [c2,abI_mul (a:=k) (b:=8) (by omega) (by omega)]
        rw [zkoZ]
        unfold zibZ
        simp [abI_add (a:=k) (b:=1) (by omega) (by omega)]
        refine hR _ _ _ _ _ _ (by omega) ⟨k + 1,k * 8,rfl,rfl,rfl,rfl,rfl,rfl,by omega,.inr ⟨k,k1,by omega,rfl,by omega,c2⟩,fun k2 h1 h2 h3 => k3 k2 h1 (by omega) (by omega),by omega⟩
       ·simp [c2]
        rw [zkoZ]
        unfold zibZ
        simp [abI_add (a:=k) (b:=1) (by omega) (by omega)]
        refine hR _ _ _ _ _ _ (by omega) ⟨k + 1,e,rfl,rfl,rfl,rfl,rfl,rfl,by omega,k2.imp id fun ⟨a,b,cc,d⟩ => ⟨a,b,by omega,d⟩,fun k2 h1 h2 h3 => ?_,by omega⟩
        by_cases h : k2=k
        ·rw [h]; exact c2
        ·exact k3 k2 h1 (by omega) h3
      ·have hend : endP D L (pos / 8 + 1) (pos + m) e:=⟨k2.imp id fun ⟨a,b,cc,d⟩ => ⟨a,b,d⟩,fun k2 h1 h2 => k3 k2 h1 (by omega) h2⟩
       have he:=hend.uniq (endS_spec D L (pos / 8 + 1) (pos + m))
       have hel:=hend.le
       rw [← he] at hg
       have hge : pos≤e:=by omega
       obtain ⟨r10,s1,s2,-,-,-⟩:=aslS_spec h'.data (lo:=some (I pos)) (hi:=some (I e)) (l:=pos.toNat) (k:=e.toNat) (by simp [abnd]; omega) (by simp [abnd]; omega) (by omega) (by omega)
       simp [c1,h'.obj,s1]
       obtain ⟨r,H2,⟨q1,q2,q3,q4⟩,q5⟩:=cloneB_c s2 (by omega)
       refine bC_of q5 ?_
       rw [hg]
       have hl : (partD D.data pos e).length=e.toNat - pos.toNat:=by unfold partD; rw [List.length_take,List.length_drop]; omega
       refine ⟨r,rfl, ?_,q1,fun i hi => Nat.le_trans kp.1 (q4 i hi),h'.keep (Keep.of (a:=n1) (b:=n1) q3) (.inl (Nat.le_refl _)),kp.trans (Keep.of q3)⟩
       rw [q2,hl]
       simp only [partD,encB_drop,encB_take,Nat.mul_one]
       rw [show (e - pos).toNat=e.toNat - pos.toNat by omega])
end Go.Proofs.YtlbilcpnjgkpjaaGreat.Av
end
section
namespace Go.Proofs.YtlbilcpnjgkpjaaGreat.Av
open Go Go.RowKit
theorem partD_le {l : List UInt8} {a b : Int} : (partD l a b).length≤(b - a).toNat:=by
 unfold partD
 rw [List.length_take]; omega
noncomputable def fillF (D : Dev) (pos n : Int) : Nat→List UInt8→(Int→Int)→Int→List UInt8 × Int × (Int→Int) × Int
 | 0,out,L,c => (out,0,L,c)
 | f + 1,out,L,c =>
  if (out.length : Int) < n then
   if (getS D L c (pos + out.length) (n - out.length)).1=[] then (out,(getS D L c (pos + out.length) (n - out.length)).2)
   else fillF D pos n f (out ++ (getS D L c (pos + out.length) (n - out.length)).1) (getS D L c (pos + out.length) (n - out.length)).2.2.1 (getS D L c (pos + out.length) (n - out.length)).2.2.2
  else (out,0,L,c)
theorem fillF_s {D : Dev} {pos n : Int} {f : Nat} {out : List UInt8} {L : Int → Int} {c : Int} : fillF D pos n (f + 1) out L c = if (out.length : Int) < n then
      if (getS D L c (pos + out.length) (n - out.length)).1=[] then (out,(getS D L c (pos + out.length) (n - out.length)).2)
      else fillF D pos n f (out ++ (getS D L c (pos + out.length) (n - out.length)).1) (getS D L c (pos + out.length) (n - out.length)).2.2.1 (getS D L c (pos + out.length) (n - out.length)).2.2.2
    else (out,0,L,c):=rfl
noncomputable def fillS (D : Dev) (L : Int→Int) (c pos n : Int) : List UInt8 × Int × (Int→Int) × Int :=
 if pos < 0∨n < 0∨4096 < n then ([],5,L,c) else fillF D pos n (n.toNat + 1) [] L c
theorem Fine.get {D : Dev} {L : Int→Int} {c : Int} (h : Fine D L c) (hc : c < 1000000000000) (pos n : Int) : Fine D (getS D L c pos n).2.2.1 (getS D L c pos n).2.2.2∧c≤(getS D L c pos n).2.2.2∧(getS D L c pos n).2.2.2≤c + 1:=by
 have h0:=h.c
 have f1 : Fine D L (c + 1):=⟨h.l,by omega,h.data,h.shorts⟩
 unfold getS
 split
 ·exact ⟨h,by simp,by simp only; omega⟩
 ·split
  ·exact ⟨f1,by simp only; omega,by simp only; omega⟩
  ·split
   ·rename_i hf
    refine ⟨?_,by simp only; omega,by simp only; omega⟩
    simp only
    split
    ·exact f1
    ·rename_i hb
     have hL:=hf.resolve_left hb
     refine ⟨fun k => ?_,by omega,h.data,h.shorts⟩
     have:=h.l (pos / 8)
     have:=h.l k
     by_cases e : k=pos / 8
     ·simp only [e,if_true]; omega
     ·simp only [e,if_false]; omega
   ·exact ⟨f1,by simp only; omega,by simp only; omega⟩
theorem getS_len {D : Dev} {L : Int→Int} {c pos n : Int} (hn : 0≤n) : ((getS D L c pos n).1.length : Int)≤n∧((getS D L c pos n).1=[]∨pos + (getS D L c pos n).1.length≤D.data.length):=by
 obtain ⟨b1,b2,b3⟩:=ask_bnd (D:=D) (c:=c) (pos:=pos) (n:=n) hn
 unfold getS
 split
 ·exact ⟨by simpa using hn,.inl rfl⟩
 ·split
  ·exact ⟨by simpa using hn,.inl rfl⟩
  ·split
   ·exact ⟨by simpa using hn,.inl rfl⟩
   ·have he:=(endS_spec D L (pos / 8 + 1) (pos + askS D c pos n)).le
    have hp:=partD_le (l:=D.data) (a:=pos) (b:=endS D L (pos / 8 + 1) (pos + askS D c pos n))
    simp only
    exact ⟨by omega,.inr (by omega)⟩
theorem fillF_more {D : Dev} {pos n : Int} : ∀ (f g : Nat) {out : List UInt8} {L : Int→Int} {c : Int},n - out.length < f→f≤g→fillF D pos n g out L c=fillF D pos n f out L c:=by
 intro f
 induction f with
 | zero =>
  intro g out L c h1 h2
  cases g with
  | zero => rfl
  | succ g =>
   rw [fillF_s,if_neg (by omega)]
   rfl
 | succ f ih =>
  intro g out L c h1 h2
  obtain ⟨g,rfl⟩ : ∃ k,g=k + 1:=⟨g - 1,by omega⟩
  rw [fillF_s,fillF_s]
  by_cases c1 : (out.length : Int) < n
  ·rw [if_pos c1,if_pos c1]
   by_cases c2 : (getS D L c (pos + out.length) (n - out.length)).1=[]
   ·rw [if_pos c2,if_pos c2]
   ·rw [if_neg c2,if_neg c2]
    have:=List.length_pos_iff.2 c2
    exact ih g (by rw [List.length_append]; omega) (by omega)
  ·rw [if_neg c1,if_neg c1]
end Go.Proofs.YtlbilcpnjgkpjaaGreat.Av
end
section
namespace Go.Proofs.YtlbilcpnjgkpjaaGreat.Av
open Go Go.RowKit
theorem Fill_c {n0 n1 : Nat} {H : AH} {o : Nat} {D : Dev} {L : Int→Int} {c : Int} {dv sv : AV} {bo lo : Nat} (h : DiskP n0 n1 H o D L c dv bo lo sv) (hf : Fine D L c) (hc9 : c < 900000000000) (pos n : Int) (hp : pos≤9223372036854775807) :
  ∃ r H',GetK n0 n1 H o D dv bo lo sv (fillS D L c pos n) r H'∧BCall Tryz.prog 10 [.ptr o 0,I pos,I n] H r H':=loop_Fill_ok (by
 unfold loop_Fill
 have hd:=hf.data
 have stop : pos < 0∨n < 0∨4096 < n→GetK n0 n1 H o D dv bo lo sv (fillS D L c pos n) (.tup [nilSl,I 5]) H:=by
  intro q
  unfold fillS
  rw [if_pos q]
  exact ⟨nilSl,rfl,rfl,rfl,by simp [idS],h,⟨Nat.le_refl _,fun _ _ _ => rfl⟩⟩
 by_cases h1 : pos < 0
 ·simp [h1]
  exact stop (.inl h1)
 by_cases h2 : n < 0
 ·simp [h1,h2]
  exact stop (.inr (.inl h2))
 by_cases h3 : 4096 < n
 ·simp [h1,h2,h3]
  exact stop (.inr (.inr h3))
 simp only [abI_lss,abI_gtr,h1,h2,h3,decide_false,bO_some,bG_bool,show ((false == false)=true) from rfl,gO_true,ztZ,if_false,Bool.false_eq_true,bB_bool,zlZ]
 have hS : fillS D L c pos n=fillF D pos n (n.toNat + 1) [] L c:=if_neg (by omega)
 refine loop_Fill_L6_rule (fun m x0 x1 x2 x8 H' => ∃ (out : List UInt8) (L' : Int→Int) (c' : Int),m=(n - out.length).toNat∧x0 = .ptr o 0∧x1=I pos∧x2=I n∧zaZ H' 1 x8=some (encB out,out.length)∧ownedS x8=true∧(∀ i ∈ idS x8,H.length≤i)∧DiskP n0 n1 H' o D L' c' dv bo lo sv∧Fine D L' c'∧Keep n0 n1 H H'∧(out=[]∨pos + out.length≤D.data.length)∧out.length≤n∧c' + m < 990000000000∧fillF D pos n (m + 1) out L' c'=fillS D L c pos n) ?_ (n.toNat)
  ⟨[],L,c,by simp,rfl,rfl,rfl,rfl,rfl,by simp [idS],h,hf,⟨Nat.le_refl _,fun _ _ _ => rfl⟩,.inl rfl,by simp; omega,by omega,hS.symm⟩
 rintro m x0 x1 x2 x8 H2 R hR ⟨out,L',c',hm,rfl,rfl,rfl,hs,hos,hi,hP,hF,hK,hdat,hol,hcm,hfe⟩
 unfold zohZ
 have al:=zbxZ hs
 have e1 : abI .add (I pos) (I (out.length : Int))=some (I (pos + out.length)):=by
  rcases hdat with q | q
  ·subst q
   exact abI_add (by simp; omega) (by simp; omega)
  ·exact abI_add (by omega) (by omega)
 have e2 : abI .sub (I n) (I (out.length : Int))=some (I (n - out.length)):=abI_sub (by omega) (by omega)
 have hpl : pos + out.length≤9223372036854775807:=by
  rcases hdat with q | q
  ·subst q; simpa using hp
  ·omega
 have hlow:=h.low
 have hhigh:=h.high
 have htop:=h.top
 rw [fillF_s] at hfe
 simp only [al,bO_some,abI_lss,bB_bool]
 by_cases c1 : (out.length : Int) < n
 ·rw [if_pos c1] at hfe
  obtain ⟨r,H3,⟨v,rfl,a1,a2,a3,a4,a5⟩,hc⟩:=disk_Get_c hP hF (pos + out.length) (n - out.length) hpl
  obtain ⟨g1,g2,g3⟩:=hF.get (by omega) (pos + out.length) (n - out.length)
  obtain ⟨l1,l2⟩:=getS_len (D:=D) (L:=L') (c:=c') (pos:=pos + out.length) (n:=n - out.length) (by omega)
  simp only [c1,decide_true,bI_true,e1,e2,bO_some]
  refine bC_of hc ?_
  generalize getS D L' c' (pos + out.length) (n - out.length)=G at *
  have alv:=zbxZ a1
  have hs3 : zaZ H3 1 x8=some (encB out,out.length):=zbZ hs fun i q => a5.2 i (zcZ hs i q) (fun z => by have:=hi i q; omega)
  simp only [zbcZ,List.getElem?_cons_succ,List.getElem?_cons_zero,bO_some,alv,abI_eql,bB_bool]
  by_cases c2 : G.1=[]
  ·rw [if_pos c2] at hfe
   have : ((G.1.length : Int)=0):=by rw [c2]; rfl
   simp only [this,decide_true,bI_true]
   rw [← hfe]
   exact ⟨x8,rfl,hs3,hos,hi,a4,hK.trans a5⟩
  ·rw [if_neg c2] at hfe
   have hpos:=List.length_pos_iff.2 c2
   have : ¬ ((G.1.length : Int)=0):=by omega
   obtain ⟨r,H4,b1,b2,b3,b4,b5,b6⟩:=zjcZ (sz:=1) (bytes:=1) hs3 hos (zjZ a1) (by omega)
   simp only [this,decide_false,zlZ,b1,bH_some]
   have hlen : H.length≤H3.length:=Nat.le_trans hK.1 a5.1
   have k4 : Keep H.length (H3.length + 1) H3 H4:=⟨b4,fun i q1 q2 => b5 i q1 (fun z => q2 ⟨hi i z,by omega⟩)⟩
   refine hR ((n - (out ++ G.1).length).toNat) _ _ _ _ _ (by rw [List.length_append]; omega) ⟨out ++ G.1,G.2.2.1,G.2.2.2,rfl,rfl,rfl,rfl, ?_,b2, ?_,a4.keep k4 (.inl htop),g1, ?_,.inr ?_, ?_, ?_, ?_⟩
   ·rw [b3,List.length_append]
    simp [encB]
   ·intro i q
    rcases b6 i q with q | q
    ·exact hi i q
    ·omega
   ·exact ⟨by omega,fun i q1 q2 => by rw [b5 i (by omega) (fun z => by have:=hi i z; omega),a5.2 i (by have:=hK.1; omega) q2,hK.2 i q1 q2]⟩
   ·rw [List.length_append]; rcases l2 with q | q
    ·exact absurd q c2
    ·omega
   ·rw [List.length_append]; omega
   ·rw [List.length_append]; omega
   ·exact (fillF_more _ m (by omega) (by rw [List.length_append]; omega)).symm.trans hfe
 ·rw [if_neg c1] at hfe
  simp only [c1,decide_false,zlZ]
  rw [← hfe]
  exact ⟨x8,rfl,hs,hos,hi,hP,hK⟩)
end Go.Proofs.YtlbilcpnjgkpjaaGreat.Av
end
section
namespace Go.Proofs.YtlbilcpnjgkpjaaGreat.Av
open Go Go.RowKit
theorem getS_okz {D : Dev} {L : Int→Int} {c pos n m e : Int} (h1 : 0≤pos) (h2 : 0≤n) (h3 : n≤4096) (hm : askS D c pos n=m) (h4 : m ≠ 0) (h5 : ¬ failS D L (pos / 8)) (he : endP D L (pos / 8 + 1) (pos + m) e) : getS D L c pos n=(partD D.data pos e,0,L,c + 1):=by
 unfold getS
 rw [if_neg (by omega),hm,if_neg h4,if_neg h5,(endS_spec D L (pos / 8 + 1) (pos + m)).uniq he]
theorem StAt.keepI {s : StS} {os : Nat} {p : AV} {H H' : AH} (h : StAt s os p H) (k1 : H'[os]? = H[os]?) (k2 : ∀ i ∈ idS p,H'[i]? = H[i]?) : StAt s os p H':=by
 obtain ⟨a,b,c,d,pv,h⟩:=h
 exact ⟨a,b,c,d,pv,k1.trans h.obj,h.now,h.kept,h.pm,zbZ h.ps k2,h.po,h.pi,h.pc⟩
theorem absl_twoz {H : AH} {v u : AV} (h : oneA v=true) (k : oneA u=true) : absl H 1 2 (zrow [(.lit (.slice none 0 0))] 2) [(0,1,v),(1,1,u)]=some (.sl H.length 0 2 1 (.ex 2),H ++ [some (.cells [v,u])]):=by
 simp [absl,absf,zrow,zbuZ h,zbuZ k,splice]
theorem putS_wz {N : Nat} {s : StS} (h : SW N s) (nm : List UInt8) (l : List (List UInt8)) : SW (N + 2 + 9 * lenB l) (putS s nm l).2:=by
 have w1:=openS_w h nm true
 unfold putS
 generalize openS s nm true=O at *
 have w2:=truncS_w w1 O.1.1 0
 generalize truncS O.2 O.1.1 0=Q at *
 have w3:=pcs_w (ino:=O.1.1) (l:=l) (a:=0) (m:=0) w2
 split
 ·exact w1.mono (by omega)
 ·split
  ·exact w2.mono (by omega)
  ·split
   ·exact w3.mono (by omega)
   ·exact (syncS_w w3 _).mono (by omega)
theorem open9r : (openS (newS 9) [97] true).1=(1,0)∧Txr [97] 9 [] (openS (newS 9) [97] true).2∧KP (openS (newS 9) [97] true).2:=by
 refine ⟨rfl,⟨[],⟨by decide,by decide,by decide,rfl,rfl,rfl⟩,by simp,by simp [hasL]⟩,⟨by decide,by decide⟩⟩
def d15 : Dev:=⟨[97,98,99,100,101,102,103,104],[],[],[3,3]⟩
theorem fill15 : fillS d15 (fun _ => 0) 0 0 8=([97,98,99,100,101,102,103,104],0,(fun _ => 0),3):=by
 have nf : ∀ k,¬ failS d15 (fun _ => 0) k:=fun k h => by unfold failS at h; simp [d15] at h
 have g1 : getS d15 (fun _ => 0) 0 0 8=([97,98,99],0,(fun _ => 0),1):=getS_okz (m:=3) (e:=3) (by omega) (by omega) (by omega) rfl (by omega) (nf _) ⟨.inl (by omega),fun k _ _ => nf k⟩
 have g2 : getS d15 (fun _ => 0) 1 3 5=([100,101,102],0,(fun _ => 0),2):=getS_okz (m:=3) (e:=6) (by omega) (by omega) (by omega) rfl (by omega) (nf _) ⟨.inl (by omega),fun k _ _ => nf k⟩
 have g3 : getS d15 (fun _ => 0) 2 6 2=([103,104],0,(fun _ => 0),3):=getS_okz (m:=2) (e:=8) (by omega) (by omega) (by omega) rfl (by omega) (nf _) ⟨.inl (by omega),fun k _ _ => nf k⟩
 unfold fillS
 rw [if_neg (by omega),show ((8 : Int).toNat + 1)=9 from rfl,show (9 : Nat)=8 + 1 from rfl,fillF_s]
 simp only [List.length_nil,Int.ofNat_zero,Int.cast_ofNat_Int,Int.add_zero,Int.sub_zero,g1]
 rw [if_pos (by omega),if_neg (by simp),fillF_s]
 simp only [List.nil_append,List.length_cons,List.length_nil,Nat.zero_add,Nat.reduceAdd,Int.cast_ofNat_Int,Int.zero_add,Int.reduceSub,g2]
 rw [if_pos (by omega),if_neg (by simp),fillF_s]
 simp only [List.cons_append,List.nil_append,List.length_cons,List.length_nil,Nat.zero_add,Nat.reduceAdd,Int.cast_ofNat_Int,Int.zero_add,Int.reduceSub,g3]
 rw [if_pos (by omega),if_neg (by simp),fillF_s]
 simp only [List.cons_append,List.nil_append,List.length_cons,List.length_nil,Nat.zero_add,Nat.reduceAdd,Int.cast_ofNat_Int]
 rw [if_neg (by omega)]
theorem loopRuns_a : ACalls Tryz.prog 3 [] [] fun r _ => r=B true:=zpfZ (by
 unfold zgdZ
 have e1 : absl [] 1 8 (zrow [(.lit (.int .u8 0))] 8) [(0,1,(.lit (.int .u8 97))),(1,1,(.lit (.int .u8 98))),(2,1,(.lit (.int .u8 99))),(3,1,(.lit (.int .u8 100))),(4,1,(.lit (.int .u8 101))),(5,1,(.lit (.int .u8 102))),(6,1,(.lit (.int .u8 103))),(7,1,(.lit (.int .u8 104)))]=some (.sl 0 0 8 1 (.ex 8),[some (.cells (encB [97,98,99,100,101,102,103,104]))]):=rfl
 have e2 : acvS [some (.cells (encB [97,98,99,100,101,102,103,104]))] (.sl 0 0 8 1 (.ex 8))=some (.imm (encB [97,98,99,100,101,102,103,104]) 8 1,[none]):=rfl
 have e3 : absl [none] 1 2 (zrow [(.lit (.int .i64 0))] 2) [(0,1,(.lit (.int .i64 3))),(1,1,(.lit (.int .i64 3)))]=some (.sl 1 0 2 1 (.ex 2),[none,some (.cells [I 3,I 3])]):=rfl
 have e4 : abl [(.lit (.slice none 0 0)),(.lit (.slice none 0 0)),(.lit (.slice none 0 0)),(.lit (.slice none 0 0))] [(0,1,.imm (encB [97,98,99,100,101,102,103,104]) 8 1),(3,1,.sl 1 0 2 1 (.ex 2))]=some (.agg [.imm (encB [97,98,99,100,101,102,103,104]) 8 1,nilSl,nilSl,.sl 1 0 2 1 (.ex 2)]):=rfl
 simp only [e1,bH_some,e2,e3,e4,bO_some]
 refine ⟨_,disk_New_a (d:=d15) ⟨rfl,rfl,rfl,rfl⟩ (by simp [d15]) (by simp [d15]) (by simp [d15]) (by simp [d15]), ?_⟩
 rintro r H1 ⟨o,n1,dv,bo,lo,sv,rfl,hP,g⟩
 have hm : mayD d15:=by decide
 have he : Eff d15=d15:=if_pos hm
 have hz : sumS d15.soft=fun _ => 0:=rfl
 rw [he,hz] at hP
 have hf : Fine d15 (fun _ => 0) 0:=⟨fun k => by omega,by omega,by simp [d15],by simp [d15]⟩
 obtain ⟨r,H2,⟨p,rfl,l2,st0,g2,hid⟩,hc⟩:=New_c 9 H1 (by omega)
 refine bC_of hc ?_
 have n1' : abN .eql nilP (.ptr o 0) (.lit (.pointer none))=some (B false):=rfl
 have n2' : abN .eql nilP (.ptr H1.length 0) (.lit (.pointer none))=some (B false):=rfl
 simp only [n1',n2',bO_some,bG_bool,show ((false == false)=true) from rfl,gO_true,ztZ,if_false,Bool.false_eq_true,bB_bool,zlZ]
 have htop:=hP.top
 have hlow:=hP.low
 have hP2:=hP.keep (Keep.of (a:=n1) (b:=n1) g2) (.inl (Nat.le_refl _))
 obtain ⟨r,H3,⟨v,rfl,a1,a2,a3,a4,a5⟩,hc⟩:=Fill_c hP2 hf (by omega) 0 8 (by omega)
 rw [fill15] at a1 a4 hc
 refine bC_of hc ?_
 have os3 : H1.length < H3.length:=by have:=a5.1; omega
 have st3 : StAt (newS 9) H1.length p H3:=st0.keepI (a5.2 _ (by omega) (by have:=hP.high; omega)) (by rw [hid]; simp)
 have e5 : absl H3 1 1 (zrow [(.lit (.int .u8 0))] 1) [(0,1,(.lit (.int .u8 105)))]=some (.sl H3.length 0 1 1 (.ex 1),H3 ++ [some (.cells (encB [105]))]):=rfl
 have e6 : acvS (H3 ++ [some (.cells (encB [105]))]) (.sl H3.length 0 1 1 (.ex 1))=some (.imm (encB [105]) 1 1,H3 ++ [none]):=by
  simp [acvS,encB]
 have ov : oneA v=true:=zpZ a2
 have e7:=absl_twoz (H:=H3 ++ [none]) (v:=v) (u:=.imm (encB [105]) 1 1) ov rfl
 simp only [zbcZ,List.getElem?_cons_succ,List.getElem?_cons_zero,bO_some,e5,bH_some,e6,e7]
 have g4 : Grew H3 (H3 ++ [none] ++ [some (AObj.cells [v,.imm (encB [105]) 1 1])]):=by rw [List.append_assoc]; exact Grew.app _ _
 have hl4 : (H3 ++ [none] ++ [some (AObj.cells [v,.imm (encB [105]) 1 1])]).length=H3.length + 2:=by simp
 have top4 : (H3 ++ [none] ++ [some (AObj.cells [v,.imm (encB [105]) 1 1])])[(H3 ++ [none]).length]? = some (some (AObj.cells [v,.imm (encB [105]) 1 1])):=top1
 have hs4 : zaZ (H3 ++ [none] ++ [some (AObj.cells [v,.imm (encB [105]) 1 1])]) 1 (.sl (H3 ++ [none]).length 0 2 1 (.ex 2))=some ([v,.imm (encB [105]) 1 1],2):=by
  rw [zbdZ top4 (by simp)]; rfl
 have hi4 : ∀ j ∈ idS (AV.sl (H3 ++ [none]).length 0 2 1 (.ex 2)),j=H3.length + 1:=by intro j hj; simpa [idS] using hj
 generalize (.sl (H3 ++ [none]).length 0 2 1 (.ex 2) : AV)=w at *
 generalize (H3 ++ [none] ++ [some (AObj.cells [v,.imm (encB [105]) 1 1])])=H4 at *
 obtain ⟨o1,o2,o3⟩:=open9r
 obtain ⟨cA1,cA2,cA3⟩:=chunks_small (bl:=[(v,[97,98,99,100,101,102,103,104]),(.imm (encB [105]) 1 1,[105])]) (by simp)
 have fA : (([(v,[97,98,99,100,101,102,103,104]),(.imm (encB [105]) 1 1,[105])] : List (AV × List UInt8)).map Prod.snd).flatten=[97,98,99,100,101,102,103,104,105]:=rfl
 rw [fA] at cA1 cA3
 simp only [List.length_cons,List.length_nil] at cA3
 obtain ⟨s1,q1,q2,q3⟩:=put_done (l:=([(v,[97,98,99,100,101,102,103,104]),(.imm (encB [105]) 1 1,[105])] : List (AV × List UInt8)).flatMap fun x => chunkB x.2) o1 o2 o3 (by omega) cA2 (by omega)
 have w1:=openS_w (newS_w 9) [97] true
 refine ⟨_,Put_a (nm:=[97]) (bl:=[(v,[97,98,99,100,101,102,103,104]),(.imm (encB [105]) 1 1,[105])]) (st3.grew g4) (newS_w 9) (by simp) hs4 (by intro j hj; rw [hi4 j hj,hid]; exact ⟨by omega,by simp⟩) (by
  intro x hx
  simp only [List.mem_cons,List.not_mem_nil,or_false] at hx
  rcases hx with rfl | rfl
  ·exact ⟨g4.slice a1,ov,by simp,fun j hj => ⟨by have:=a3 j hj; omega,by rw [hid]; simp⟩⟩
  ·exact ⟨rfl,rfl,by simp,by simp [idS]⟩) (by simp) (by rw [cA3]; omega), ?_⟩
 have w9:=putS_wz (newS_w 9) [97] (([(v,[97,98,99,100,101,102,103,104]),(.imm (encB [105]) 1 1,[105])] : List (AV × List UInt8)).flatMap fun x => chunkB x.2)
 rw [q1]
 rw [q1] at w9
 rintro r H5 ⟨p5,rfl,st5,f5⟩
 rw [cA1] at q2
 obtain ⟨r,H6,⟨x,rfl,sx,g6⟩,hc⟩:=Cat_c q2 st5 w9 (by rw [cA3]; omega) (by simp)
 refine bC_of hc ?_
 have hv6 : zaZ H6 1 v=some (encB [97,98,99,100,101,102,103,104],8):=g6.slice (zbZ (g4.slice a1) fun i q => f5.same i (by have:=zcZ a1 i q; have:=g4.1; omega) (by have:=a3 i q; omega) (by rw [hid]; simp))
 have hP6:=((a4.keep (Keep.of (a:=n1) (b:=n1) g4) (.inl (Nat.le_refl _))).keep (c:=H1.length) (e:=H1.length + 1) (⟨f5.len,fun i q1 q2 => f5.same i q1 (by omega) (by rw [hid]; simp)⟩ : Keep H1.length (H1.length + 1) H4 H5) (.inl htop)).keep (Keep.of (a:=n1) (b:=n1) g6) (.inl (Nat.le_refl _))
 have eS1 : (AV.lit (.string ⟨#[97,98,99,100,101,102,103,104]⟩))=S (bstr [97,98,99,100,101,102,103,104]):=rfl
 have eS2 : (AV.lit (.string ⟨#[97,98,99,100,101,102,103,104,105]⟩))=S (bstr [97,98,99,100,101,102,103,104,105]):=rfl
 simp only [zbcZ,List.getElem?_cons_succ,List.getElem?_cons_zero,bO_some,acB_spec hv6,eS1,eS2,abT_eql,abI_eql,decide_true,bG_bool,beq_self_eq_true,gO_true,ztZ,if_true,gC_true]
 refine bC_of (disk_Calls_c hP6) ?_
 simp only [bO_some,abI_eql,decide_true,bG_bool,beq_self_eq_true,gO_true,ztZ,if_true,acB_spec sx,abT_eql])
theorem loopRuns_p : BPure Tryz.prog 3 [] (B true):=.of_true loopRuns_a
end Go.Proofs.YtlbilcpnjgkpjaaGreat.Av
end
