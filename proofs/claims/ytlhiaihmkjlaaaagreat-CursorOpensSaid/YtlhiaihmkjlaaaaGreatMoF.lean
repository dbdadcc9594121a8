/- Texts of this proof, one behind the other, packed into one file by a program of this session. No condition. -/
import Derived.Test.YtlhiaihmkjlaaaaGreatMoE
import Derived.KernelRfl
set_option linter.unusedVariables false
set_option linter.unusedSimpArgs false
set_option maxRecDepth 100000
section
namespace Go.Proofs.YtlhiaihmkjlaaaaGreat.Av
open Go
def pqb : FuncId→Bool:=inL [36,93,130,101,159,37,72,71,73,134,135,136,149,171,92,150,39,35,33,70,46,60,139,90,99,132,98,157,164,29,123,137,174,177,74,75,76,154,156,147,183]
def pqba : FuncId→Bool:=inL [190,192]
def image_copied_fl : Floats:=flOf []
def image_copied_kp : Nat→Option (List Bool):=kpOf []
def image_copied (a0 : AV) (H : AH) (K : AV→AH→Prop) : Prop :=
bH (anew H a0) fun v0 H1 =>
bH (anew H1 (.agg [(.lit (.int .i64 0)),(.lit (.slice none 0 0))])) fun v2 H3 =>
bO (ashift 0 v0) fun v4 =>
bO (ald false 1 H3 v4) fun v5 =>
bO (ashift 1 v0) fun v6 =>
bO (ald false 1 H3 v6) fun v7 =>
bP (BPure Tryz.prog 150 [v7]) fun v8 =>
bO (abl [(.lit (.int .i64 0)),(.lit (.slice none 0 0))] [(0,1,v5),(1,1,v8)]) fun v9 =>
bS (ast 2 H3 v2 v9) fun H10 =>
bO (ald true 2 H10 v2) fun v11 =>
K v11 H10
theorem image_copied_eq (a0 : AV) (H : AH) (K : AV→AH→Prop) : sFun Tryz.prog image_copied_fl pqb none0 none0 image_copied_kp Tryz.f92 [a0] H K=image_copied a0 H K:=by kernel_rfl
theorem image_copied_ok {a0 : AV} {H : AH} {K : AV→AH→Prop} (h : image_copied a0 H K) : ∃ r H',K r H'∧BCall Tryz.prog 92 [a0] H r H' :=
 sFun_ok mixP Tryz.func92 (by kernel_rfl) (Eq.mpr (image_copied_eq a0 H K) h)
def image_Find_fl : Floats:=flOf []
def image_Find_kp : Nat→Option (List Bool):=kpOf []
def image_Find (a0 a1 : AV) (H : AH) (K : AV→AH→Prop) : Prop :=
bH (anew H a0) fun v0 H1 =>
bO (ald true 2 H1 v0) fun v2 =>
bP (PCall Tryz.prog 90 [v2] H1) fun v3 =>
bO (aun .not v3) fun v4 =>
bB v4 fun t5 => bI t5 (
K (.tup [(.lit (.int .i64 0)),(.lit (.bool false))]) H1)
 (bO (ald true 2 H1 v0) fun v6 =>
bC (BCall Tryz.prog 97 [v6,a1] H1) fun v7 H8 =>
bO (zkZ v7 0) fun v9 =>
bO (zkZ v7 1) fun v10 =>
bO (aun .not v10) fun v11 =>
bB v11 fun t12 => bI t12 (
K (.tup [(.lit (.int .i64 0)),(.lit (.bool false))]) H8)
 (bO (ashift 0 v0) fun v13 =>
bO (ald false 1 H8 v13) fun v14 =>
bO (aixS 2 v14 v9) fun v15 =>
bO (ashift 1 v15) fun v16 =>
bO (ald false 1 H8 v16) fun v17 =>
K (.tup [v17,(.lit (.bool true))]) H8))
theorem image_Find_eq (a0 a1 : AV) (H : AH) (K : AV→AH→Prop) : sFun Tryz.prog image_Find_fl pqb none0 none0 image_Find_kp Tryz.f39 [a0,a1] H K=image_Find a0 a1 H K:=by kernel_rfl
theorem image_Find_ok {a0 a1 : AV} {H : AH} {K : AV→AH→Prop} (h : image_Find a0 a1 H K) : ∃ r H',K r H'∧BCall Tryz.prog 39 [a0,a1] H r H' :=
 sFun_ok mixP Tryz.func39 (by kernel_rfl) (Eq.mpr (image_Find_eq a0 a1 H K) h)
def image_Get_fl : Floats:=flOf []
def image_Get_kp : Nat→Option (List Bool):=kpOf []
def image_Get (a0 a1 : AV) (H : AH) (K : AV→AH→Prop) : Prop :=
bH (anew H a0) fun v0 H1 =>
bH (anew H1 (.agg [(.lit (.int .i64 0)),(.lit (.slice none 0 0))])) fun v2 H3 =>
bO (ald true 2 H3 v0) fun v4 =>
bP (PCall Tryz.prog 90 [v4] H3) fun v5 =>
bO (aun .not v5) fun v6 =>
bB v6 fun t7 => bI t7 (
bO (abl [(.lit (.int .i64 0)),(.lit (.slice none 0 0))] []) fun v8 =>
bS (ast 2 H3 v2 v8) fun H9 =>
bO (ald true 2 H9 v2) fun v10 =>
K (.tup [v10,(.lit (.bool false))]) H9)
 (bO (ald true 2 H3 v0) fun v11 =>
bC (BCall Tryz.prog 91 [v11,a1] H3) fun v12 H13 =>
bO (zkZ v12 0) fun v14 =>
bO (zkZ v12 1) fun v15 =>
bO (aun .not v15) fun v16 =>
bB v16 fun t17 => bI t17 (
bO (abl [(.lit (.int .i64 0)),(.lit (.slice none 0 0))] []) fun v18 =>
bS (ast 2 H13 v2 v18) fun H19 =>
bO (ald true 2 H19 v2) fun v20 =>
K (.tup [v20,(.lit (.bool false))]) H19)
 (bO (ashift 1 v0) fun v21 =>
bO (ald false 1 H13 v21) fun v22 =>
bO (aixS 3 v22 v14) fun v23 =>
bO (ashift 1 v23) fun v24 =>
bO (ald true 2 H13 v24) fun v25 =>
bP (PCall Tryz.prog 92 [v25] H13) fun v26 =>
bS (ast 2 H13 v2 v26) fun H27 =>
bO (ald true 2 H27 v2) fun v28 =>
K (.tup [v28,(.lit (.bool true))]) H27))
theorem image_Get_eq (a0 a1 : AV) (H : AH) (K : AV→AH→Prop) : sFun Tryz.prog image_Get_fl pqb none0 none0 image_Get_kp Tryz.f35 [a0,a1] H K=image_Get a0 a1 H K:=by kernel_rfl
theorem image_Get_ok {a0 a1 : AV} {H : AH} {K : AV→AH→Prop} (h : image_Get a0 a1 H K) : ∃ r H',K r H'∧BCall Tryz.prog 35 [a0,a1] H r H' :=
 sFun_ok mixP Tryz.func35 (by kernel_rfl) (Eq.mpr (image_Get_eq a0 a1 H K) h)
def image_Used_fl : Floats:=flOf []
def image_Used_kp : Nat→Option (List Bool):=kpOf [(7,mk 24 0 [3,10,11,12])]
def zvkZ (p : List Bool) (n : Nat) : List AV→AH→Kf→Prop:=sCode Tryz.prog image_Used_fl pqb none0 none0 image_Used_kp (sub p (bodyOf Tryz.f33)) n
def image_Used_L7 (x3 x10 x11 x12 : AV) (H : AH) (K : AV→AH→Prop) : Prop:=lp (mk 24 0 [3,10,11,12]) (zvkZ [true,true,true,false,true,false,false] 8) [x3,x10,x11,x12] H (kBlk 0 (kSeq (zvkZ [true,true,true,true] 12) (kRet Tryz.prog Tryz.f33.results.toList K)))
def zswZ (R7 : List AV→AH→Prop) (x3 x10 x11 x12 : AV) (H : AH) (K : AV→AH→Prop) : Prop :=
bO (abI .lss x12 x11) fun v0 =>
bB v0 fun t1 => bI t1 (
bO (aixS 3 x10 x12) fun v2 =>
bO (ald true 3 H v2) fun v3 =>
bH (anew H (.agg [(.lit (.int .i64 0)),(.lit (.int .i64 0)),(.lit (.slice none 0 0))])) fun v4 H5 =>
bS (ast 3 H5 v4 v3) fun H6 =>
bO (ashift 1 v4) fun v7 =>
bO (ashift 1 v7) fun v8 =>
bO (ald false 1 H6 v8) fun v9 =>
bO (alnS v9) fun v10 =>
bO (abI .add x3 v10) fun v11 =>
bO (abI .add x12 (.lit (.int .i64 1))) fun v12 =>
R7 [v11,x10,x11,v12] H6)
 (K x3 H)
theorem image_Used_L7_eq (R7 : List AV→AH→Prop) (x3 x10 x11 x12 : AV) (H : AH) (K : AV→AH→Prop) : zvkZ [true,true,true,false,true,false,false] 8 (expand (mk 24 0 [3,10,11,12]) [x3,x10,x11,x12]) H (kLp (mk 24 0 [3,10,11,12]) R7 (kBlk 0 (kSeq (zvkZ [true,true,true,true] 12) (kRet Tryz.prog Tryz.f33.results.toList K))))=zswZ R7 x3 x10 x11 x12 H K:=by kernel_rfl
theorem image_Used_L7_rule {K : AV→AH→Prop} (I : Nat→AV→AV→AV→AV→AH→Prop) (round : ∀ (n : Nat) (x3 x10 x11 x12 : AV) (H : AH) (R : List AV→AH→Prop),(∀ (m : Nat) (y3 y10 y11 y12 : AV) (H' : AH),m < n→I m y3 y10 y11 y12 H'→R [y3,y10,y11,y12] H')→I n x3 x10 x11 x12 H→zswZ R x3 x10 x11 x12 H K) (n : Nat) {x3 x10 x11 x12 : AV} {H : AH} (h : I n x3 x10 x11 x12 H) : image_Used_L7 x3 x10 x11 x12 H K:=by
 refine lp_upto (zsZ _ _) (LI4 I) ?_ n h
 intro n X H h
 obtain ⟨x3,x10,x11,x12,rfl,h⟩:=h.elim
 exact Eq.mpr (image_Used_L7_eq _ x3 x10 x11 x12 H K) (round n x3 x10 x11 x12 H (fun X H' => ∃ m,m < n∧LI4 I m X H') (fun m y3 y10 y11 y12 H' hm hi => ⟨m,hm,hi⟩) h)
def image_Used (a0 : AV) (H : AH) (K : AV→AH→Prop) : Prop :=
bH (anew H a0) fun v0 H1 =>
bO (ald true 2 H1 v0) fun v2 =>
bP (PCall Tryz.prog 90 [v2] H1) fun v3 =>
bO (aun .not v3) fun v4 =>
bB v4 fun t5 => bI t5 (
K (.lit (.int .i64 0)) H1)
 (bO (ashift 1 v0) fun v6 =>
bO (ald false 1 H1 v6) fun v7 =>
bO (alnS v7) fun v8 =>
image_Used_L7 (.lit (.int .i64 0)) v7 v8 (.lit (.int .i64 0)) H1 K)
theorem image_Used_eq (a0 : AV) (H : AH) (K : AV→AH→Prop) : sFun Tryz.prog image_Used_fl pqb none0 none0 image_Used_kp Tryz.f33 [a0] H K=image_Used a0 H K:=by kernel_rfl
theorem image_Used_ok {a0 : AV} {H : AH} {K : AV→AH→Prop} (h : image_Used a0 H K) : ∃ r H',K r H'∧BCall Tryz.prog 33 [a0] H r H' :=
 sFun_ok mixP Tryz.func33 (by kernel_rfl) (Eq.mpr (image_Used_eq a0 H K) h)
def zwaZ : Floats:=flOf []
def zwbZ : Nat→Option (List Bool):=kpOf [(6,mk 27 0 [0,17,18])]
def zndZ (p : List Bool) (n : Nat) : List AV→AH→Kf→Prop:=sCode Tryz.prog zwaZ pqb none0 none0 zwbZ (sub p (bodyOf Tryz.f70)) n
def zqaZ (x0 x17 x18 : AV) (H : AH) (K : AV→AH→Prop) : Prop:=lp (mk 27 0 [0,17,18]) (zndZ [true,true,false,true,false,false] 7) [x0,x17,x18] H (kBlk 0 (kSeq (zndZ [true,true,true] 13) (kRet Tryz.prog Tryz.f70.results.toList K)))
def zmqZ (R6 : List AV→AH→Prop) (x0 x17 x18 : AV) (H : AH) (K : AV→AH→Prop) : Prop :=
bO (abI .lss x18 x17) fun v0 =>
bB v0 fun t1 => bI t1 (
bO (aivT x0 x18) fun v2 =>
bP (PCall Tryz.prog 123 [v2] H) fun v3 =>
bO (aun .not v3) fun v4 =>
bB v4 fun t5 => bI t5 (
K (.lit (.bool false)) H)
 (bO (abI .add x18 (.lit (.int .i64 1))) fun v6 =>
R6 [x0,x17,v6] H))
 (K (.lit (.bool true)) H)
theorem image_MayName_L6_eq (R6 : List AV→AH→Prop) (x0 x17 x18 : AV) (H : AH) (K : AV→AH→Prop) : zndZ [true,true,false,true,false,false] 7 (expand (mk 27 0 [0,17,18]) [x0,x17,x18]) H (kLp (mk 27 0 [0,17,18]) R6 (kBlk 0 (kSeq (zndZ [true,true,true] 13) (kRet Tryz.prog Tryz.f70.results.toList K))))=zmqZ R6 x0 x17 x18 H K:=by kernel_rfl
theorem zwqZ {K : AV→AH→Prop} (I : Nat→AV→AV→AV→AH→Prop) (round : ∀ (n : Nat) (x0 x17 x18 : AV) (H : AH) (R : List AV→AH→Prop),(∀ (m : Nat) (y0 y17 y18 : AV) (H' : AH),m < n→I m y0 y17 y18 H'→R [y0,y17,y18] H')→I n x0 x17 x18 H→zmqZ R x0 x17 x18 H K) (n : Nat) {x0 x17 x18 : AV} {H : AH} (h : I n x0 x17 x18 H) : zqaZ x0 x17 x18 H K:=by
 refine lp_upto (zsZ _ _) (LI3 I) ?_ n h
 intro n X H h
 obtain ⟨x0,x17,x18,rfl,h⟩:=h.elim
 exact Eq.mpr (image_MayName_L6_eq _ x0 x17 x18 H K) (round n x0 x17 x18 H (fun X H' => ∃ m,m < n∧LI3 I m X H') (fun m y0 y17 y18 H' hm hi => ⟨m,hm,hi⟩) h)
def image_MayName (a0 : AV) (H : AH) (K : AV→AH→Prop) : Prop :=
bO (abT .eql a0 (.lit (.string ⟨#[]⟩))) fun v0 =>
bG v0 false fun w1 =>
gO w1 (some a0) fun v2 =>
bG v0 false fun w3 =>
gO w3 (alnT v2) fun v4 =>
bG v0 false fun w5 =>
gO w5 (abI .gtr v4 (.lit (.int .i64 20))) fun v6 =>
bO (apick v0 (.lit (.bool true)) v6) fun v7 =>
bG v7 false fun w8 =>
gO w8 (some a0) fun v9 =>
bG v7 false fun w10 =>
gO w10 (aivT v9 (.lit (.int .i64 0))) fun v11 =>
bG v7 false fun w12 =>
gO w12 (abI .eql v11 (.lit (.int .u8 45))) fun v13 =>
bO (apick v7 (.lit (.bool true)) v13) fun v14 =>
bB v14 fun t15 => bI t15 (
K (.lit (.bool false)) H)
 (bO (alnT a0) fun v16 =>
zqaZ a0 v16 (.lit (.int .i64 0)) H K)
theorem image_MayName_eq (a0 : AV) (H : AH) (K : AV→AH→Prop) : sFun Tryz.prog zwaZ pqb none0 none0 zwbZ Tryz.f70 [a0] H K=image_MayName a0 H K:=by kernel_rfl
theorem image_MayName_ok {a0 : AV} {H : AH} {K : AV→AH→Prop} (h : image_MayName a0 H K) : ∃ r H',K r H'∧BCall Tryz.prog 70 [a0] H r H' :=
 sFun_ok mixP Tryz.func70 (by kernel_rfl) (Eq.mpr (image_MayName_eq a0 H K) h)
def zktZ : Floats:=flOf []
def zkvZ : Nat→Option (List Bool):=kpOf [(14,mk 77 0 [2,3,6]),(6,mk 77 0 [2,3,5])]
def zbhZ (p : List Bool) (n : Nat) : List AV→AH→Kf→Prop:=sCode Tryz.prog zktZ pqb none0 none0 zkvZ (sub p (bodyOf Tryz.f46)) n
def zjqZ (x2 x3 x6 : AV) (H : AH) (K : AV→AH→Prop) : Prop:=lp (mk 77 0 [2,3,6]) (zbhZ [true,true,true,false,true,false,false] 15) [x2,x3,x6] H (kBlk 2 (kSeq (zbhZ [true,true,true,true] 20) (kRet Tryz.prog Tryz.f46.results.toList K)))
def zkwZ (x2 x3 x5 : AV) (H : AH) (K : AV→AH→Prop) : Prop:=lp (mk 77 0 [2,3,5]) (zbhZ [true,true,false,true,false,false] 7) [x2,x3,x5] H (kBlk 0 (kSeq (zbhZ [true,true,true] 12) (kRet Tryz.prog Tryz.f46.results.toList K)))
def zemZ (R14 : List AV→AH→Prop) (x2 x3 x6 : AV) (H : AH) (K : AV→AH→Prop) : Prop :=
bO (ashift 1 x2) fun v0 =>
bO (ald false 1 H v0) fun v1 =>
bO (alnS v1) fun v2 =>
bO (abI .lss x6 v2) fun v3 =>
bB v3 fun t4 => bI t4 (
bO (ashift 1 x2) fun v5 =>
bO (ald false 1 H v5) fun v6 =>
bO (aixS 3 v6 x6) fun v7 =>
bO (ashift 0 v7) fun v8 =>
bO (ald false 1 H v8) fun v9 =>
bO (ashift 1 x3) fun v10 =>
bO (ald false 1 H v10) fun v11 =>
bO (aixS 3 v11 x6) fun v12 =>
bO (ashift 0 v12) fun v13 =>
bO (ald false 1 H v13) fun v14 =>
bO (abI .neq v9 v14) fun v15 =>
bG v15 false fun w16 =>
gO w16 (ashift 1 x2) fun v17 =>
bG v15 false fun w18 =>
gO w18 (ald false 1 H v17) fun v19 =>
bG v15 false fun w20 =>
gO w20 (some x6) fun v21 =>
bG v15 false fun w22 =>
gO w22 (aixS 3 v19 v21) fun v23 =>
bG v15 false fun w24 =>
gO w24 (ashift 1 v23) fun v25 =>
bG v15 false fun w26 =>
gO w26 (ald true 2 H v25) fun v27 =>
bG v15 false fun w28 =>
gO w28 (ashift 1 x3) fun v29 =>
bG v15 false fun w30 =>
gO w30 (ald false 1 H v29) fun v31 =>
bG v15 false fun w32 =>
gO w32 (some x6) fun v33 =>
bG v15 false fun w34 =>
gO w34 (aixS 3 v31 v33) fun v35 =>
bG v15 false fun w36 =>
gO w36 (ashift 1 v35) fun v37 =>
bG v15 false fun w38 =>
gO w38 (ald true 2 H v37) fun v39 =>
bG v15 false fun w40 =>
gP w40 (BPure Tryz.prog 101 [v27,v39]) fun v41 =>
bG v15 false fun w42 =>
gO w42 (aun .not v41) fun v43 =>
bO (apick v15 (.lit (.bool true)) v43) fun v44 =>
bB v44 fun t45 => bI t45 (
K (.lit (.bool false)) H)
 (bO (abI .add x6 (.lit (.int .i64 1))) fun v46 =>
R14 [x2,x3,v46] H))
 (K (.lit (.bool true)) H)
theorem zokZ (R14 : List AV→AH→Prop) (x2 x3 x6 : AV) (H : AH) (K : AV→AH→Prop) : zbhZ [true,true,true,false,true,false,false] 15 (expand (mk 77 0 [2,3,6]) [x2,x3,x6]) H (kLp (mk 77 0 [2,3,6]) R14 (kBlk 2 (kSeq (zbhZ [true,true,true,true] 20) (kRet Tryz.prog Tryz.f46.results.toList K))))=zemZ R14 x2 x3 x6 H K:=by kernel_rfl
theorem zneZ {K : AV→AH→Prop} (I : Nat→AV→AV→AV→AH→Prop) (round : ∀ (n : Nat) (x2 x3 x6 : AV) (H : AH) (R : List AV→AH→Prop),(∀ (m : Nat) (y2 y3 y6 : AV) (H' : AH),m < n→I m y2 y3 y6 H'→R [y2,y3,y6] H')→I n x2 x3 x6 H→zemZ R x2 x3 x6 H K) (n : Nat) {x2 x3 x6 : AV} {H : AH} (h : I n x2 x3 x6 H) : zjqZ x2 x3 x6 H K:=by
 refine lp_upto (zsZ _ _) (LI3 I) ?_ n h
 intro n X H h
 obtain ⟨x2,x3,x6,rfl,h⟩:=h.elim
 exact Eq.mpr (zokZ _ x2 x3 x6 H K) (round n x2 x3 x6 H (fun X H' => ∃ m,m < n∧LI3 I m X H') (fun m y2 y3 y6 H' hm hi => ⟨m,hm,hi⟩) h)
def zesZ (R6 : List AV→AH→Prop) (x2 x3 x5 : AV) (H : AH) (K : AV→AH→Prop) : Prop :=
bO (ashift 0 x2) fun v0 =>
bO (ald false 1 H v0) fun v1 =>
bO (alnS v1) fun v2 =>
bO (abI .lss x5 v2) fun v3 =>
bB v3 fun t4 => bI t4 (
bO (ashift 0 x2) fun v5 =>
bO (ald false 1 H v5) fun v6 =>
bO (aixS 2 v6 x5) fun v7 =>
bO (ald true 2 H v7) fun v8 =>
bO (ashift 0 x3) fun v9 =>
bO (ald false 1 H v9) fun v10 =>
bO (aixS 2 v10 x5) fun v11 =>
bO (ald true 2 H v11) fun v12 =>
bO (abin Tryz.prog .neq 124 v8 v12) fun v13 =>
bB v13 fun t14 => bI t14 (
K (.lit (.bool false)) H)
 (bO (abI .add x5 (.lit (.int .i64 1))) fun v15 =>
R6 [x2,x3,v15] H))
 (zjqZ x2 x3 (.lit (.int .i64 0)) H K)
theorem zpnZ (R6 : List AV→AH→Prop) (x2 x3 x5 : AV) (H : AH) (K : AV→AH→Prop) : zbhZ [true,true,false,true,false,false] 7 (expand (mk 77 0 [2,3,5]) [x2,x3,x5]) H (kLp (mk 77 0 [2,3,5]) R6 (kBlk 0 (kSeq (zbhZ [true,true,true] 12) (kRet Tryz.prog Tryz.f46.results.toList K))))=zesZ R6 x2 x3 x5 H K:=by kernel_rfl
theorem znsZ {K : AV→AH→Prop} (I : Nat→AV→AV→AV→AH→Prop) (round : ∀ (n : Nat) (x2 x3 x5 : AV) (H : AH) (R : List AV→AH→Prop),(∀ (m : Nat) (y2 y3 y5 : AV) (H' : AH),m < n→I m y2 y3 y5 H'→R [y2,y3,y5] H')→I n x2 x3 x5 H→zesZ R x2 x3 x5 H K) (n : Nat) {x2 x3 x5 : AV} {H : AH} (h : I n x2 x3 x5 H) : zkwZ x2 x3 x5 H K:=by
 refine lp_upto (zsZ _ _) (LI3 I) ?_ n h
 intro n X H h
 obtain ⟨x2,x3,x5,rfl,h⟩:=h.elim
 exact Eq.mpr (zpnZ _ x2 x3 x5 H K) (round n x2 x3 x5 H (fun X H' => ∃ m,m < n∧LI3 I m X H') (fun m y2 y3 y5 H' hm hi => ⟨m,hm,hi⟩) h)
def zibZ (a0 a1 : AV) (H : AH) (K : AV→AH→Prop) : Prop :=
bH (anew H a0) fun v0 H1 =>
bH (anew H1 a1) fun v2 H3 =>
bO (ashift 0 v0) fun v4 =>
bO (ald false 1 H3 v4) fun v5 =>
bO (alnS v5) fun v6 =>
bO (ashift 0 v2) fun v7 =>
bO (ald false 1 H3 v7) fun v8 =>
bO (alnS v8) fun v9 =>
bO (abI .neq v6 v9) fun v10 =>
bG v10 false fun w11 =>
gO w11 (ashift 1 v0) fun v12 =>
bG v10 false fun w13 =>
gO w13 (ald false 1 H3 v12) fun v14 =>
bG v10 false fun w15 =>
gO w15 (alnS v14) fun v16 =>
bG v10 false fun w17 =>
gO w17 (ashift 1 v2) fun v18 =>
bG v10 false fun w19 =>
gO w19 (ald false 1 H3 v18) fun v20 =>
bG v10 false fun w21 =>
gO w21 (alnS v20) fun v22 =>
bG v10 false fun w23 =>
gO w23 (abI .neq v16 v22) fun v24 =>
bO (apick v10 (.lit (.bool true)) v24) fun v25 =>
bB v25 fun t26 => bI t26 (
K (.lit (.bool false)) H3)
 (zkwZ v0 v2 (.lit (.int .i64 0)) H3 K)
theorem ztwZ (a0 a1 : AV) (H : AH) (K : AV→AH→Prop) : sFun Tryz.prog zktZ pqb none0 none0 zkvZ Tryz.f46 [a0,a1] H K=zibZ a0 a1 H K:=by kernel_rfl
theorem zthZ {a0 a1 : AV} {H : AH} {K : AV→AH→Prop} (h : zibZ a0 a1 H K) : ∃ r H',K r H'∧BCall Tryz.prog 46 [a0,a1] H r H' :=
 sFun_ok mixP Tryz.func46 (by kernel_rfl) (Eq.mpr (ztwZ a0 a1 H K) h)
def image_Apply_fl : Floats:=flOf []
def image_Apply_kp : Nat→Option (List Bool):=kpOf [(13,mk 37 0 [2,3,4,31]),(12,mk 37 0 [2,3,4,12,24]),(8,mk 37 0 [2,3,4,12,17]),(5,mk 37 0 [2,4])]
def zidZ (p : List Bool) (n : Nat) : List AV→AH→Kf→Prop:=sCode Tryz.prog image_Apply_fl pqb none0 none0 image_Apply_kp (sub p (bodyOf Tryz.f60)) n
def zgfZ (x2 x4 : AV) (H : AH) (K : AV→AH→Prop) : Prop:=jn (mk 37 0 [2,4]) (zidZ [true,true,true,true] 14) [x2,x4] H (kRet Tryz.prog Tryz.f60.results.toList K)
def image_Apply_J13 (x2 x3 x4 x31 : AV) (H : AH) (K : AV→AH→Prop) : Prop:=jn (mk 37 0 [2,3,4,31]) (zidZ [true,true,true,false,true,false,true,true,true,true,true,true,true] 14) [x2,x3,x4,x31] H (kBlk 0 (kSeq (cutC (mk 37 0 [2,4]) (zidZ [true,true,true,true] 14)) (kRet Tryz.prog Tryz.f60.results.toList K)))
def image_Apply_J12 (x2 x3 x4 x12 x24 : AV) (H : AH) (K : AV→AH→Prop) : Prop:=jn (mk 37 0 [2,3,4,12,24]) (zidZ [true,true,true,false,true,false,true,true,true,true,true] 13) [x2,x3,x4,x12,x24] H (kBlk 0 (kSeq (cutC (mk 37 0 [2,4]) (zidZ [true,true,true,true] 14)) (kRet Tryz.prog Tryz.f60.results.toList K)))
def zirZ (x2 x3 x4 x12 x17 : AV) (H : AH) (K : AV→AH→Prop) : Prop:=jn (mk 37 0 [2,3,4,12,17]) (zidZ [true,true,true,false,true,false,true,true,true] 12) [x2,x3,x4,x12,x17] H (kBlk 0 (kSeq (cutC (mk 37 0 [2,4]) (zidZ [true,true,true,true] 14)) (kRet Tryz.prog Tryz.f60.results.toList K)))
def zqbZ (x2 x4 : AV) (H : AH) (K : AV→AH→Prop) : Prop :=
bO (ald true 2 H x2) fun v0 =>
bS (ast 2 H x4 v0) fun H1 =>
bO (ald true 2 H1 x4) fun v2 =>
K v2 H1
theorem zveZ (x2 x4 : AV) (H : AH) (K : AV→AH→Prop) : zgfZ x2 x4 H K=zqbZ x2 x4 H K:=(jn_eq _ _ _ _ _).trans (by kernel_rfl)
def zulZ (x2 x3 x4 x31 : AV) (H : AH) (K : AV→AH→Prop) : Prop :=
bB x31 fun t0 => bI t0 (
bO (ashift 5 x3) fun v1 =>
bO (ald false 1 H v1) fun v2 =>
bC (BCall Tryz.prog 115 [x2,v2] H) fun v3 H4 =>
zgfZ x2 x4 H4 K)
 (zgfZ x2 x4 H K)
theorem image_Apply_J13_eq (x2 x3 x4 x31 : AV) (H : AH) (K : AV→AH→Prop) : image_Apply_J13 x2 x3 x4 x31 H K=zulZ x2 x3 x4 x31 H K:=(jn_eq _ _ _ _ _).trans (by kernel_rfl)
def zukZ (x2 x3 x4 x12 x24 : AV) (H : AH) (K : AV→AH→Prop) : Prop :=
bB x24 fun t0 => bI t0 (
bO (ashift 5 x3) fun v1 =>
bO (ald false 1 H v1) fun v2 =>
bO (ashift 6 x3) fun v3 =>
bO (ald false 1 H v3) fun v4 =>
bC (BCall Tryz.prog 114 [x2,v2,v4] H) fun v5 H6 =>
zgfZ x2 x4 H6 K)
 (bO (abI .eql x12 (.lit (.int .i64 7))) fun v7 =>
image_Apply_J13 x2 x3 x4 v7 H K)
theorem image_Apply_J12_eq (x2 x3 x4 x12 x24 : AV) (H : AH) (K : AV→AH→Prop) : image_Apply_J12 x2 x3 x4 x12 x24 H K=zukZ x2 x3 x4 x12 x24 H K:=(jn_eq _ _ _ _ _).trans (by kernel_rfl)
def zvxZ (x2 x3 x4 x12 x17 : AV) (H : AH) (K : AV→AH→Prop) : Prop :=
bB x17 fun t0 => bI t0 (
bO (ald true 8 H x3) fun v1 =>
bC (BCall Tryz.prog 113 [x2,v1] H) fun v2 H3 =>
zgfZ x2 x4 H3 K)
 (bO (abI .eql x12 (.lit (.int .i64 6))) fun v4 =>
image_Apply_J12 x2 x3 x4 x12 v4 H K)
theorem image_Apply_J8_eq (x2 x3 x4 x12 x17 : AV) (H : AH) (K : AV→AH→Prop) : zirZ x2 x3 x4 x12 x17 H K=zvxZ x2 x3 x4 x12 x17 H K:=(jn_eq _ _ _ _ _).trans (by kernel_rfl)
def image_Apply (a0 a1 : AV) (H : AH) (K : AV→AH→Prop) : Prop :=
bH (anew H a0) fun v0 H1 =>
bH (anew H1 a1) fun v2 H3 =>
bH (anew H3 (.agg [(.lit (.slice none 0 0)),(.lit (.slice none 0 0))])) fun v4 H5 =>
bO (ald true 2 H5 v0) fun v6 =>
bC (BCall Tryz.prog 61 [v6] H5) fun v7 H8 =>
bS (ast 2 H8 v0 v7) fun H9 =>
bO (ald true 2 H9 v0) fun v10 =>
bP (PCall Tryz.prog 90 [v10] H9) fun v11 =>
bO (aun .not v11) fun v12 =>
bB v12 fun t13 => bI t13 (
bO (ald true 2 H9 v0) fun v14 =>
bS (ast 2 H9 v4 v14) fun H15 =>
bO (ald true 2 H15 v4) fun v16 =>
K v16 H15)
 (bO (ashift 0 v2) fun v17 =>
bO (ald false 1 H9 v17) fun v18 =>
bO (abI .eql v18 (.lit (.int .i64 1))) fun v19 =>
bB v19 fun t20 => bI t20 (
bO (ald true 8 H9 v2) fun v21 =>
bC (BCall Tryz.prog 112 [v0,v21] H9) fun v22 H23 =>
zgfZ v0 v4 H23 K)
 (bO (abI .eql v18 (.lit (.int .i64 2))) fun v24 =>
bB v24 fun t25 => bI t25 (
zirZ v0 v2 v4 v18 v24 H9 K)
 (bO (abI .eql v18 (.lit (.int .i64 3))) fun v26 =>
bB v26 fun t27 => bI t27 (
zirZ v0 v2 v4 v18 v26 H9 K)
 (bO (abI .eql v18 (.lit (.int .i64 4))) fun v28 =>
bB v28 fun t29 => bI t29 (
zirZ v0 v2 v4 v18 v28 H9 K)
 (bO (abI .eql v18 (.lit (.int .i64 5))) fun v30 =>
zirZ v0 v2 v4 v18 v30 H9 K)))))
theorem image_Apply_eq (a0 a1 : AV) (H : AH) (K : AV→AH→Prop) : sFun Tryz.prog image_Apply_fl pqb none0 none0 image_Apply_kp Tryz.f60 [a0,a1] H K=image_Apply a0 a1 H K:=by kernel_rfl
theorem image_Apply_ok {a0 a1 : AV} {H : AH} {K : AV→AH→Prop} (h : image_Apply a0 a1 H K) : ∃ r H',K r H'∧BCall Tryz.prog 60 [a0,a1] H r H' :=
 sFun_ok mixP Tryz.func60 (by kernel_rfl) (Eq.mpr (image_Apply_eq a0 a1 H K) h)
def zowZ : Floats:=flOf [(7,[(1,some 11),(5,some 11),(6,some 11)])]
def zotZ : Nat→Option (List Bool):=kpOf [(22,mk 171 0 [2,3,4,5,8]),(20,mk 171 0 [2,3,4,5,8]),(5,mk 171 0 [4,5]),(12,mk 171 0 [3,4,5,6])]
def zbdZ (p : List Bool) (n : Nat) : List AV→AH→Kf→Prop:=sCode Tryz.prog zowZ pqb none0 none0 zotZ (sub p (bodyOf Tryz.f139)) n
def zlZ (x4 x5 : AV) (H : AH) (K : AV→AH→Prop) : Prop:=jn (mk 171 0 [4,5]) (zbdZ [true,true,true,true] 29) [x4,x5] H (kRet Tryz.prog Tryz.f139.results.toList K)
def zhxZ (x3 x4 x5 x6 : AV) (H : AH) (K : AV→AH→Prop) : Prop:=lp (mk 171 0 [3,4,5,6]) (zbdZ [true,true,true,false,true,false,true,false,true,false,true,true,false,false,false] 13) [x3,x4,x5,x6] H (kBlk 1 (kSeq (zbdZ [true,true,true,false,true,false,true,false,true,false,true,true,true] 15) (kBlk 0 (kSeq (cutC (mk 171 0 [4,5]) (zbdZ [true,true,true,true] 29)) (kRet Tryz.prog Tryz.f139.results.toList K)))))
def znrZ (x2 x3 x4 x5 x8 : AV) (H : AH) (K : AV→AH→Prop) : Prop:=jn (mk 171 0 [2,3,4,5,8]) (zbdZ [true,true,true,false,true,false,true,true,true,false,true,true,false,true,true] 23) [x2,x3,x4,x5,x8] H (kBlk 0 (kSeq (cutC (mk 171 0 [4,5]) (zbdZ [true,true,true,true] 29)) (kRet Tryz.prog Tryz.f139.results.toList K)))
def zfiZ (x2 x3 x4 x5 x8 : AV) (H : AH) (K : AV→AH→Prop) : Prop:=jn (mk 171 0 [2,3,4,5,8]) (zbdZ [true,true,true,false,true,false,true,true,true,false,true,true,false,true] 22) [x2,x3,x4,x5,x8] H (kBlk 0 (kSeq (cutC (mk 171 0 [4,5]) (zbdZ [true,true,true,true] 29)) (kRet Tryz.prog Tryz.f139.results.toList K)))
def zguZ (x4 x5 : AV) (H : AH) (K : AV→AH→Prop) : Prop :=
bO (ald true 2 H x5) fun v0 =>
bS (ast 2 H x4 v0) fun H1 =>
bO (ald true 2 H1 x4) fun v2 =>
K v2 H1
theorem zmaZ (x4 x5 : AV) (H : AH) (K : AV→AH→Prop) : zlZ x4 x5 H K=zguZ x4 x5 H K:=(jn_eq _ _ _ _ _).trans (by kernel_rfl)
def zglZ (R12 : List AV→AH→Prop) (x3 x4 x5 x6 : AV) (H : AH) (K : AV→AH→Prop) : Prop :=
bO (ashift 1 x5) fun v0 =>
bO (ald false 1 H v0) fun v1 =>
bO (alnS v1) fun v2 =>
bO (abI .lss x6 v2) fun v3 =>
bG v3 true fun w4 =>
gO w4 (ashift 1 x5) fun v5 =>
bG v3 true fun w6 =>
gO w6 (ald false 1 H v5) fun v7 =>
bG v3 true fun w8 =>
gO w8 (some x6) fun v9 =>
bG v3 true fun w10 =>
gO w10 (aixS 3 v7 v9) fun v11 =>
bG v3 true fun w12 =>
gO w12 (ashift 0 v11) fun v13 =>
bG v3 true fun w14 =>
gO w14 (ald false 1 H v13) fun v15 =>
bG v3 true fun w16 =>
gO w16 (ashift 1 x3) fun v17 =>
bG v3 true fun w18 =>
gO w18 (ald false 1 H v17) fun v19 =>
bG v3 true fun w20 =>
gO w20 (abI .lss v15 v19) fun v21 =>
bO (apick v3 v21 (.lit (.bool false))) fun v22 =>
bB v22 fun t23 => bI t23 (
bO (abI .add x6 (.lit (.int .i64 1))) fun v24 =>
R12 [x3,x4,x5,v24] H)
 (bO (ashift 1 x5) fun v25 =>
bO (ald false 1 H v25) fun v26 =>
bO (aslS 3 v26 none (some x6) none) fun v27 =>
bH (aap 3 40 H (.lit (.slice none 0 0)) v27) fun v28 H29 =>
bO (ashift 1 x3) fun v30 =>
bO (ald false 1 H29 v30) fun v31 =>
bO (abl [(.lit (.int .i64 0)),(.lit (.int .i64 0)),(.lit (.slice none 0 0))] [(0,1,v31)]) fun v32 =>
bH (absl H29 3 1 (zrow [(.lit (.int .i64 0)),(.lit (.int .i64 0)),(.lit (.slice none 0 0))] 1) [(0,3,v32)]) fun v33 H34 =>
bH (aap 3 40 H34 v28 v33) fun v35 H36 =>
bO (ashift 1 x5) fun v37 =>
bO (ald false 1 H36 v37) fun v38 =>
bO (aslS 3 v38 (some x6) none none) fun v39 =>
bH (aap 3 40 H36 v35 v39) fun v40 H41 =>
bO (ashift 1 x5) fun v42 =>
bS (ast 1 H41 v42 v40) fun H43 =>
zlZ x4 x5 H43 K)
theorem ztlZ (R12 : List AV→AH→Prop) (x3 x4 x5 x6 : AV) (H : AH) (K : AV→AH→Prop) : zbdZ [true,true,true,false,true,false,true,false,true,false,true,true,false,false,false] 13 (expand (mk 171 0 [3,4,5,6]) [x3,x4,x5,x6]) H (kLp (mk 171 0 [3,4,5,6]) R12 (kBlk 1 (kSeq (zbdZ [true,true,true,false,true,false,true,false,true,false,true,true,true] 15) (kBlk 0 (kSeq (cutC (mk 171 0 [4,5]) (zbdZ [true,true,true,true] 29)) (kRet Tryz.prog Tryz.f139.results.toList K))))))=zglZ R12 x3 x4 x5 x6 H K:=by kernel_rfl
theorem zqkZ {K : AV→AH→Prop} (I : Nat→AV→AV→AV→AV→AH→Prop) (round : ∀ (n : Nat) (x3 x4 x5 x6 : AV) (H : AH) (R : List AV→AH→Prop),(∀ (m : Nat) (y3 y4 y5 y6 : AV) (H' : AH),m < n→I m y3 y4 y5 y6 H'→R [y3,y4,y5,y6] H')→I n x3 x4 x5 x6 H→zglZ R x3 x4 x5 x6 H K) (n : Nat) {x3 x4 x5 x6 : AV} {H : AH} (h : I n x3 x4 x5 x6 H) : zhxZ x3 x4 x5 x6 H K:=by
 refine lp_upto (zsZ _ _) (LI4 I) ?_ n h
 intro n X H h
 obtain ⟨x3,x4,x5,x6,rfl,h⟩:=h.elim
 exact Eq.mpr (ztlZ _ x3 x4 x5 x6 H K) (round n x3 x4 x5 x6 H (fun X H' => ∃ m,m < n∧LI4 I m X H') (fun m y3 y4 y5 y6 H' hm hi => ⟨m,hm,hi⟩) h)
def zluZ (x2 x3 x4 x5 x8 : AV) (H : AH) (K : AV→AH→Prop) : Prop :=
bO (ashift 6 x3) fun v0 =>
bO (ald false 1 H v0) fun v1 =>
bO (ashift 0 x2) fun v2 =>
bO (ald false 1 H v2) fun v3 =>
bO (aixS 2 v3 x8) fun v4 =>
bO (ashift 1 v4) fun v5 =>
bO (ald false 1 H v5) fun v6 =>
bC (BCall Tryz.prog 175 [x5,v1,v6] H) fun v7 H8 =>
zlZ x4 x5 H8 K
theorem ztkZ (x2 x3 x4 x5 x8 : AV) (H : AH) (K : AV→AH→Prop) : znrZ x2 x3 x4 x5 x8 H K=zluZ x2 x3 x4 x5 x8 H K:=(jn_eq _ _ _ _ _).trans (by kernel_rfl)
def zmcZ (x2 x3 x4 x5 x8 : AV) (H : AH) (K : AV→AH→Prop) : Prop :=
bO (ashift 5 x3) fun v0 =>
bO (ald false 1 H v0) fun v1 =>
bC (BCall Tryz.prog 176 [x5,v1,(.lit (.bool false))] H) fun v2 H3 =>
znrZ x2 x3 x4 x5 x8 H3 K
theorem ztqZ (x2 x3 x4 x5 x8 : AV) (H : AH) (K : AV→AH→Prop) : zfiZ x2 x3 x4 x5 x8 H K=zmcZ x2 x3 x4 x5 x8 H K:=(jn_eq _ _ _ _ _).trans (by kernel_rfl)
def znpZ (a0 a1 : AV) (H : AH) (K : AV→AH→Prop) : Prop :=
bH (anew H a0) fun v0 H1 =>
bH (anew H1 a1) fun v2 H3 =>
bH (anew H3 (.agg [(.lit (.slice none 0 0)),(.lit (.slice none 0 0))])) fun v4 H5 =>
bO (ald true 2 H5 v0) fun v6 =>
bC (BCall Tryz.prog 140 [v6] H5) fun v7 H8 =>
bH (anew H8 (.agg [(.lit (.slice none 0 0)),(.lit (.slice none 0 0))])) fun v9 H10 =>
bS (ast 2 H10 v9 v7) fun H11 =>
bO (ald true 2 H11 v0) fun v12 =>
bP (PCall Tryz.prog 157 [v12] H11) fun v13 =>
bO (aun .not v13) fun v14 =>
bB v14 fun t15 => bI t15 (
bO (ald true 2 H11 v9) fun v16 =>
bS (ast 2 H11 v4 v16) fun H17 =>
bO (ald true 2 H17 v4) fun v18 =>
K v18 H17)
 (bO (ashift 0 v2) fun v19 =>
bO (ald false 1 H11 v19) fun v20 =>
bO (abI .eql v20 (.lit (.int .i64 1))) fun v21 =>
bB v21 fun t22 => bI t22 (
bO (ashift 5 v2) fun v23 =>
bO (ald false 1 H11 v23) fun v24 =>
bP (PCall Tryz.prog 98 [v24] H11) fun v25 =>
bG v25 true fun w26 =>
gO w26 (ald true 2 H11 v0) fun v27 =>
bG v25 true fun w28 =>
gO w28 (ashift 5 v2) fun v29 =>
bG v25 true fun w30 =>
gO w30 (ald false 1 H11 v29) fun v31 =>
bG v25 true fun w32 =>
gP w32 (PCall Tryz.prog 137 [v27,v31] H11) fun v33 =>
bG v25 true fun w34 =>
gO w34 (abI .lss v33 (.lit (.int .i64 0))) fun v35 =>
bO (apick v25 v35 (.lit (.bool false))) fun v36 =>
bG v36 true fun w37 =>
gO w37 (ashift 1 v2) fun v38 =>
bG v36 true fun w39 =>
gO w39 (ald false 1 H11 v38) fun v40 =>
bG v36 true fun w41 =>
gO w41 (abI .geq v40 (.lit (.int .i64 1))) fun v42 =>
bO (apick v36 v42 (.lit (.bool false))) fun v43 =>
bG v43 true fun w44 =>
gO w44 (ashift 1 v2) fun v45 =>
bG v43 true fun w46 =>
gO w46 (ald false 1 H11 v45) fun v47 =>
bG v43 true fun w48 =>
gO w48 (abI .leq v47 (.lit (.int .i64 4611686018427387904))) fun v49 =>
bO (apick v43 v49 (.lit (.bool false))) fun v50 =>
bG v50 true fun w51 =>
gO w51 (ald true 2 H11 v0) fun v52 =>
bG v50 true fun w53 =>
gO w53 (ashift 1 v2) fun v54 =>
bG v50 true fun w55 =>
gO w55 (ald false 1 H11 v54) fun v56 =>
bG v50 true fun w57 =>
gP w57 (PCall Tryz.prog 174 [v52,v56] H11) fun v58 =>
bG v50 true fun w59 =>
gO w59 (abI .lss v58 (.lit (.int .i64 0))) fun v60 =>
bO (apick v50 v60 (.lit (.bool false))) fun v61 =>
bG v61 true fun w62 =>
gO w62 (ashift 0 v0) fun v63 =>
bG v61 true fun w64 =>
gO w64 (ald false 1 H11 v63) fun v65 =>
bG v61 true fun w66 =>
gO w66 (alnS v65) fun v67 =>
bG v61 true fun w68 =>
gO w68 (abI .lss v67 (.lit (.int .i64 16))) fun v69 =>
bO (apick v61 v69 (.lit (.bool false))) fun v70 =>
bB v70 fun t71 => bI t71 (
bO (ashift 5 v2) fun v72 =>
bO (ald false 1 H11 v72) fun v73 =>
bO (ashift 1 v2) fun v74 =>
bO (ald false 1 H11 v74) fun v75 =>
bC (BCall Tryz.prog 175 [v9,v73,v75] H11) fun v76 H77 =>
zhxZ v2 v4 v9 (.lit (.int .i64 0)) H77 K)
 (zlZ v4 v9 H11 K))
 (bO (abI .eql v20 (.lit (.int .i64 6))) fun v78 =>
bB v78 fun t79 => bI t79 (
bO (ald true 2 H11 v0) fun v80 =>
bO (ashift 5 v2) fun v81 =>
bO (ald false 1 H11 v81) fun v82 =>
bP (PCall Tryz.prog 137 [v80,v82] H11) fun v83 =>
bO (abI .geq v83 (.lit (.int .i64 0))) fun v84 =>
bG v84 true fun w85 =>
gO w85 (ashift 6 v2) fun v86 =>
bG v84 true fun w87 =>
gO w87 (ald false 1 H11 v86) fun v88 =>
bG v84 true fun w89 =>
gP w89 (PCall Tryz.prog 98 [v88] H11) fun v90 =>
bO (apick v84 v90 (.lit (.bool false))) fun v91 =>
bG v91 true fun w92 =>
gO w92 (ashift 6 v2) fun v93 =>
bG v91 true fun w94 =>
gO w94 (ald false 1 H11 v93) fun v95 =>
bG v91 true fun w96 =>
gO w96 (ashift 5 v2) fun v97 =>
bG v91 true fun w98 =>
gO w98 (ald false 1 H11 v97) fun v99 =>
bG v91 true fun w100 =>
gO w100 (abT .neq v95 v99) fun v101 =>
bO (apick v91 v101 (.lit (.bool false))) fun v102 =>
bB v102 fun t103 => bI t103 (
bO (ald true 2 H11 v9) fun v104 =>
bO (ashift 6 v2) fun v105 =>
bO (ald false 1 H11 v105) fun v106 =>
bP (PCall Tryz.prog 137 [v104,v106] H11) fun v107 =>
bO (abI .geq v107 (.lit (.int .i64 0))) fun v108 =>
bB v108 fun t109 => bI t109 (
bO (ashift 6 v2) fun v110 =>
bO (ald false 1 H11 v110) fun v111 =>
bC (BCall Tryz.prog 176 [v9,v111,(.lit (.bool true))] H11) fun v112 H113 =>
zfiZ v0 v2 v4 v9 v83 H113 K)
 (zfiZ v0 v2 v4 v9 v83 H11 K))
 (zlZ v4 v9 H11 K))
 (bO (abI .eql v20 (.lit (.int .i64 7))) fun v114 =>
bB v114 fun t115 => bI t115 (
bO (ald true 2 H11 v0) fun v116 =>
bO (ashift 5 v2) fun v117 =>
bO (ald false 1 H11 v117) fun v118 =>
bP (PCall Tryz.prog 137 [v116,v118] H11) fun v119 =>
bO (abI .geq v119 (.lit (.int .i64 0))) fun v120 =>
bB v120 fun t121 => bI t121 (
bO (ashift 5 v2) fun v122 =>
bO (ald false 1 H11 v122) fun v123 =>
bC (BCall Tryz.prog 176 [v9,v123,(.lit (.bool true))] H11) fun v124 H125 =>
zlZ v4 v9 H125 K)
 (zlZ v4 v9 H11 K))
 (bO (ald true 2 H11 v0) fun v126 =>
bO (ashift 1 v2) fun v127 =>
bO (ald false 1 H11 v127) fun v128 =>
bP (PCall Tryz.prog 174 [v126,v128] H11) fun v129 =>
bO (abI .geq v129 (.lit (.int .i64 0))) fun v130 =>
bB v130 fun t131 => bI t131 (
bO (ashift 1 v0) fun v132 =>
bO (ald false 1 H11 v132) fun v133 =>
bO (aixS 3 v133 v129) fun v134 =>
bO (ashift 1 v134) fun v135 =>
bO (ald true 2 H11 v135) fun v136 =>
bO (ald true 8 H11 v2) fun v137 =>
bP (BPure Tryz.prog 177 [v136,v137]) fun v138 =>
bO (zkZ v138 0) fun v139 =>
bO (zkZ v138 1) fun v140 =>
bH (anew H11 (.agg [(.lit (.int .i64 0)),(.lit (.slice none 0 0))])) fun v141 H142 =>
bS (ast 2 H142 v141 v139) fun H143 =>
(ald false 1 H142 v132=some v133) ∧
(ald true 2 H142 v135=some v136) ∧
(ald true 8 H142 v2=some v137) ∧
bB v140 fun t144 => bI t144 (
bO (ashift 1 v9) fun v145 =>
bO (ald false 1 H143 v145) fun v146 =>
bO (ald true 2 H143 v141) fun v147 =>
bO (aixS 3 v146 v129) fun v148 =>
bO (ashift 1 v148) fun v149 =>
bS (ast 2 H143 v149 v147) fun H150 =>
zlZ v4 v9 H150 K)
 (zlZ v4 v9 H143 K))
 (zlZ v4 v9 H11 K)))))
theorem salvorref11_Apply_eq (a0 a1 : AV) (H : AH) (K : AV→AH→Prop) : sFun Tryz.prog zowZ pqb none0 none0 zotZ Tryz.f139 [a0,a1] H K=znpZ a0 a1 H K:=by kernel_rfl
theorem salvorref11_Apply_ok {a0 a1 : AV} {H : AH} {K : AV→AH→Prop} (h : znpZ a0 a1 H K) : ∃ r H',K r H'∧BCall Tryz.prog 139 [a0,a1] H r H' :=
 sFun_ok mixP Tryz.func139 (by kernel_rfl) (Eq.mpr (salvorref11_Apply_eq a0 a1 H K) h)
def image_May_fl : Floats:=flOf []
def image_May_kp : Nat→Option (List Bool):=kpOf [(8,mk 51 0 [3,5,25,26,27])]
def image_May_c (p : List Bool) (n : Nat) : List AV→AH→Kf→Prop:=sCode Tryz.prog image_May_fl pqb none0 none0 image_May_kp (sub p (bodyOf Tryz.f90)) n
def image_May_L8 (x3 x5 x25 x26 x27 : AV) (H : AH) (K : AV→AH→Prop) : Prop:=lp (mk 51 0 [3,5,25,26,27]) (image_May_c [true,true,true,true,false,true,false,false] 9) [x3,x5,x25,x26,x27] H (kBlk 0 (kSeq (image_May_c [true,true,true,true,true] 16) (kRet Tryz.prog Tryz.f90.results.toList K)))
def zufZ (R8 : List AV→AH→Prop) (x3 x5 x25 x26 x27 : AV) (H : AH) (K : AV→AH→Prop) : Prop :=
bO (abI .lss x27 x26) fun v0 =>
bB v0 fun t1 => bI t1 (
bO (aixS 3 x25 x27) fun v2 =>
bO (ald true 3 H v2) fun v3 =>
bH (anew H (.agg [(.lit (.int .i64 0)),(.lit (.int .i64 0)),(.lit (.slice none 0 0))])) fun v4 H5 =>
bS (ast 3 H5 v4 v3) fun H6 =>
bO (ashift 0 v4) fun v7 =>
bO (ald false 1 H6 v7) fun v8 =>
bO (abI .leq v8 x5) fun v9 =>
bG v9 false fun w10 =>
gO w10 (some x3) fun v11 =>
bG v9 false fun w12 =>
gO w12 (ashift 0 v4) fun v13 =>
bG v9 false fun w14 =>
gO w14 (ald false 1 H6 v13) fun v15 =>
bG v9 false fun w16 =>
gO w16 (alk (.int .i64) (.bool false) H6 v11 v15 false) fun v17 =>
bG v9 false fun w18 =>
gO w18 (aun .not v17) fun v19 =>
bO (apick v9 (.lit (.bool true)) v19) fun v20 =>
bG v20 false fun w21 =>
gO w21 (ashift 1 v4) fun v22 =>
bG v20 false fun w23 =>
gO w23 (ald true 2 H6 v22) fun v24 =>
bG v20 false fun w25 =>
gP w25 (PCall Tryz.prog 93 [v24] H6) fun v26 =>
bG v20 false fun w27 =>
gO w27 (aun .not v26) fun v28 =>
bO (apick v20 (.lit (.bool true)) v28) fun v29 =>
bB v29 fun t30 => bI t30 (
K (.lit (.bool false)) H6)
 (bO (ashift 0 v4) fun v31 =>
bO (ald false 1 H6 v31) fun v32 =>
bO (abI .add x27 (.lit (.int .i64 1))) fun v33 =>
R8 [x3,v32,x25,x26,v33] H6))
 (K (.lit (.bool true)) H)
theorem image_May_L8_eq (R8 : List AV→AH→Prop) (x3 x5 x25 x26 x27 : AV) (H : AH) (K : AV→AH→Prop) : image_May_c [true,true,true,true,false,true,false,false] 9 (expand (mk 51 0 [3,5,25,26,27]) [x3,x5,x25,x26,x27]) H (kLp (mk 51 0 [3,5,25,26,27]) R8 (kBlk 0 (kSeq (image_May_c [true,true,true,true,true] 16) (kRet Tryz.prog Tryz.f90.results.toList K))))=zufZ R8 x3 x5 x25 x26 x27 H K:=by kernel_rfl
theorem image_May_L8_rule {K : AV→AH→Prop} (I : Nat→AV→AV→AV→AV→AV→AH→Prop) (round : ∀ (n : Nat) (x3 x5 x25 x26 x27 : AV) (H : AH) (R : List AV→AH→Prop),(∀ (m : Nat) (y3 y5 y25 y26 y27 : AV) (H' : AH),m < n→I m y3 y5 y25 y26 y27 H'→R [y3,y5,y25,y26,y27] H')→I n x3 x5 x25 x26 x27 H→zufZ R x3 x5 x25 x26 x27 H K) (n : Nat) {x3 x5 x25 x26 x27 : AV} {H : AH} (h : I n x3 x5 x25 x26 x27 H) : image_May_L8 x3 x5 x25 x26 x27 H K:=by
 refine lp_upto (zsZ _ _) (LI5 I) ?_ n h
 intro n X H h
 obtain ⟨x3,x5,x25,x26,x27,rfl,h⟩:=h.elim
 exact Eq.mpr (image_May_L8_eq _ x3 x5 x25 x26 x27 H K) (round n x3 x5 x25 x26 x27 H (fun X H' => ∃ m,m < n∧LI5 I m X H') (fun m y3 y5 y25 y26 y27 H' hm hi => ⟨m,hm,hi⟩) h)
def image_May (a0 : AV) (H : AH) (K : AV→AH→Prop) : Prop :=
bH (anew H a0) fun v0 H1 =>
bO (ashift 0 v0) fun v2 =>
bO (ald false 1 H1 v2) fun v3 =>
bC (BCall Tryz.prog 146 [v3] H1) fun v4 H5 =>
bO (zkZ v4 0) fun v6 =>
bO (zkZ v4 1) fun v7 =>
bO (aun .not v7) fun v8 =>
bG v8 false fun w9 =>
gO w9 (ashift 1 v0) fun v10 =>
bG v8 false fun w11 =>
gO w11 (ald false 1 H5 v10) fun v12 =>
bG v8 false fun w13 =>
gO w13 (alnS v12) fun v14 =>
bG v8 false fun w15 =>
gO w15 (some v6) fun v16 =>
bG v8 false fun w17 =>
gO w17 (alnM H5 v16) fun v18 =>
bG v8 false fun w19 =>
gO w19 (abI .neq v14 v18) fun v20 =>
bO (apick v8 (.lit (.bool true)) v20) fun v21 =>
bB v21 fun t22 => bI t22 (
K (.lit (.bool false)) H5)
 (bO (ashift 1 v0) fun v23 =>
bO (ald false 1 H5 v23) fun v24 =>
bO (alnS v24) fun v25 =>
image_May_L8 v6 (.lit (.int .i64 0)) v24 v25 (.lit (.int .i64 0)) H5 K)
theorem image_May_eq (a0 : AV) (H : AH) (K : AV→AH→Prop) : sFun Tryz.prog image_May_fl pqb none0 none0 image_May_kp Tryz.f90 [a0] H K=image_May a0 H K:=by kernel_rfl
theorem image_May_ok {a0 : AV} {H : AH} {K : AV→AH→Prop} (h : image_May a0 H K) : ∃ r H',K r H'∧BCall Tryz.prog 90 [a0] H r H' :=
 sFun_ok mixP Tryz.func90 (by kernel_rfl) (Eq.mpr (image_May_eq a0 H K) h)
def salvorref11_Find_fl : Floats:=flOf []
def salvorref11_Find_kp : Nat→Option (List Bool):=kpOf []
def zpkZ (a0 a1 : AV) (H : AH) (K : AV→AH→Prop) : Prop :=
bH (anew H a0) fun v0 H1 =>
bO (ald true 2 H1 v0) fun v2 =>
bP (PCall Tryz.prog 137 [v2,a1] H1) fun v3 =>
bO (ald true 2 H1 v0) fun v4 =>
bP (PCall Tryz.prog 157 [v4] H1) fun v5 =>
bO (aun .not v5) fun v6 =>
bG v6 false fun w7 =>
gO w7 (some v3) fun v8 =>
bG v6 false fun w9 =>
gO w9 (abI .lss v8 (.lit (.int .i64 0))) fun v10 =>
bO (apick v6 (.lit (.bool true)) v10) fun v11 =>
bB v11 fun t12 => bI t12 (
K (.tup [(.lit (.int .i64 0)),(.lit (.bool false))]) H1)
 (bO (ashift 0 v0) fun v13 =>
bO (ald false 1 H1 v13) fun v14 =>
bO (aixS 2 v14 v3) fun v15 =>
bO (ashift 1 v15) fun v16 =>
bO (ald false 1 H1 v16) fun v17 =>
K (.tup [v17,(.lit (.bool true))]) H1)
theorem salvorref11_Find_eq (a0 a1 : AV) (H : AH) (K : AV→AH→Prop) : sFun Tryz.prog salvorref11_Find_fl pqb none0 none0 salvorref11_Find_kp Tryz.f99 [a0,a1] H K=zpkZ a0 a1 H K:=by kernel_rfl
theorem salvorref11_Find_ok {a0 a1 : AV} {H : AH} {K : AV→AH→Prop} (h : zpkZ a0 a1 H K) : ∃ r H',K r H'∧BCall Tryz.prog 99 [a0,a1] H r H' :=
 sFun_ok mixP Tryz.func99 (by kernel_rfl) (Eq.mpr (salvorref11_Find_eq a0 a1 H K) h)
def zmvZ : Floats:=flOf []
def zmuZ : Nat→Option (List Bool):=kpOf [(3,mk 52 0 [0,3])]
def zfgZ (p : List Bool) (n : Nat) : List AV→AH→Kf→Prop:=sCode Tryz.prog zmvZ pqb none0 none0 zmuZ (sub p (bodyOf Tryz.f98)) n
def zmsZ (x0 x3 : AV) (H : AH) (K : AV→AH→Prop) : Prop:=lp (mk 52 0 [0,3]) (zfgZ [true,false,true,false,false] 4) [x0,x3] H (kBlk 0 (kSeq (zfgZ [true,true] 10) (kRet Tryz.prog Tryz.f98.results.toList K)))
def zfmZ (R3 : List AV→AH→Prop) (x0 x3 : AV) (H : AH) (K : AV→AH→Prop) : Prop :=
bO (alnT x0) fun v0 =>
bO (abI .lss x3 v0) fun v1 =>
bB v1 fun t2 => bI t2 (
bO (aivT x0 x3) fun v3 =>
bO (abI .lss v3 (.lit (.int .u8 97))) fun v4 =>
bG v4 false fun w5 =>
gO w5 (some v3) fun v6 =>
bG v4 false fun w7 =>
gO w7 (abI .gtr v6 (.lit (.int .u8 122))) fun v8 =>
bO (apick v4 (.lit (.bool true)) v8) fun v9 =>
bG v9 true fun w10 =>
gO w10 (some v3) fun v11 =>
bG v9 true fun w12 =>
gO w12 (abI .lss v11 (.lit (.int .u8 48))) fun v13 =>
bG v9 true fun w14 =>
gO w14 (some v13) fun v15 =>
bG v15 false fun w16 =>
gO w16 (some v3) fun v17 =>
bG v15 false fun w18 =>
gO w18 (abI .gtr v17 (.lit (.int .u8 57))) fun v19 =>
bG v9 true fun w20 =>
gO w20 (apick v15 (.lit (.bool true)) v19) fun v21 =>
bO (apick v9 v21 (.lit (.bool false))) fun v22 =>
bG v22 true fun w23 =>
gO w23 (some v3) fun v24 =>
bG v22 true fun w25 =>
gO w25 (abI .neq v24 (.lit (.int .u8 46))) fun v26 =>
bO (apick v22 v26 (.lit (.bool false))) fun v27 =>
bG v27 true fun w28 =>
gO w28 (some v3) fun v29 =>
bG v27 true fun w30 =>
gO w30 (abI .neq v29 (.lit (.int .u8 95))) fun v31 =>
bO (apick v27 v31 (.lit (.bool false))) fun v32 =>
bG v32 true fun w33 =>
gO w33 (some v3) fun v34 =>
bG v32 true fun w35 =>
gO w35 (abI .neq v34 (.lit (.int .u8 45))) fun v36 =>
bG v32 true fun w37 =>
gO w37 (some v36) fun v38 =>
bG v38 false fun w39 =>
gO w39 (some x3) fun v40 =>
bG v38 false fun w41 =>
gO w41 (abI .eql v40 (.lit (.int .i64 0))) fun v42 =>
bG v32 true fun w43 =>
gO w43 (apick v38 (.lit (.bool true)) v42) fun v44 =>
bO (apick v32 v44 (.lit (.bool false))) fun v45 =>
bB v45 fun t46 => bI t46 (
K (.lit (.bool false)) H)
 (bO (abI .add x3 (.lit (.int .i64 1))) fun v47 =>
R3 [x0,v47] H))
 (bO (alnT x0) fun v48 =>
bO (abI .geq v48 (.lit (.int .i64 1))) fun v49 =>
bG v49 true fun w50 =>
gO w50 (some x0) fun v51 =>
bG v49 true fun w52 =>
gO w52 (alnT v51) fun v53 =>
bG v49 true fun w54 =>
gO w54 (abI .leq v53 (.lit (.int .i64 20))) fun v55 =>
bO (apick v49 v55 (.lit (.bool false))) fun v56 =>
K v56 H)
theorem zrzZ (R3 : List AV→AH→Prop) (x0 x3 : AV) (H : AH) (K : AV→AH→Prop) : zfgZ [true,false,true,false,false] 4 (expand (mk 52 0 [0,3]) [x0,x3]) H (kLp (mk 52 0 [0,3]) R3 (kBlk 0 (kSeq (zfgZ [true,true] 10) (kRet Tryz.prog Tryz.f98.results.toList K))))=zfmZ R3 x0 x3 H K:=by kernel_rfl
theorem zpqZ {K : AV→AH→Prop} (I : Nat→AV→AV→AH→Prop) (round : ∀ (n : Nat) (x0 x3 : AV) (H : AH) (R : List AV→AH→Prop),(∀ (m : Nat) (y0 y3 : AV) (H' : AH),m < n→I m y0 y3 H'→R [y0,y3] H')→I n x0 x3 H→zfmZ R x0 x3 H K) (n : Nat) {x0 x3 : AV} {H : AH} (h : I n x0 x3 H) : zmsZ x0 x3 H K:=by
 refine lp_upto (zsZ _ _) (LI2 I) ?_ n h
 intro n X H h
 obtain ⟨x0,x3,rfl,h⟩:=h.elim
 exact Eq.mpr (zrzZ _ x0 x3 H K) (round n x0 x3 H (fun X H' => ∃ m,m < n∧LI2 I m X H') (fun m y0 y3 H' hm hi => ⟨m,hm,hi⟩) h)
def zlkZ (a0 : AV) (H : AH) (K : AV→AH→Prop) : Prop :=
zmsZ a0 (.lit (.int .i64 0)) H K
theorem zvqZ (a0 : AV) (H : AH) (K : AV→AH→Prop) : sFun Tryz.prog zmvZ pqb none0 none0 zmuZ Tryz.f98 [a0] H K=zlkZ a0 H K:=by kernel_rfl
theorem zvtZ {a0 : AV} {H : AH} {K : AV→AH→Prop} (h : zlkZ a0 H K) : ∃ r H',K r H'∧BCall Tryz.prog 98 [a0] H r H' :=
 sFun_ok mixP Tryz.func98 (by kernel_rfl) (Eq.mpr (zvqZ a0 H K) h)
def zlyZ : Floats:=flOf []
def zlmZ : Nat→Option (List Bool):=kpOf [(16,mk 110 0 [1,3,4,5]),(6,mk 110 0 [1,3])]
def znZ (p : List Bool) (n : Nat) : List AV→AH→Kf→Prop:=sCode Tryz.prog zlyZ pqb none0 none0 zlmZ (sub p (bodyOf Tryz.f157)) n
def zkyZ (R6 : List AV→AH→Prop) (x1 x3 x4 x5 : AV) (H : AH) (K : AV→AH→Prop) : Prop:=lp (mk 110 0 [1,3,4,5]) (znZ [true,true,false,true,false,false,true,false,false,true,true,false,true,false,false] 17) [x1,x3,x4,x5] H (kBlk 2 (kSeq (znZ [true,true,false,true,false,false,true,false,false,true,true,true] 22) (kBlk 1 (kSeq (znZ [true,true,false,true,false,false,true,true] 24) (kLp (mk 110 0 [1,3]) R6 (kBlk 0 (kSeq (znZ [true,true,true] 24) (kRet Tryz.prog Tryz.f157.results.toList K))))))))
def zlrZ (x1 x3 : AV) (H : AH) (K : AV→AH→Prop) : Prop:=lp (mk 110 0 [1,3]) (znZ [true,true,false,true,false,false] 7) [x1,x3] H (kBlk 0 (kSeq (znZ [true,true,true] 24) (kRet Tryz.prog Tryz.f157.results.toList K)))
def zcwZ (R6 : List AV→AH→Prop) (R16 : List AV→AH→Prop) (x1 x3 x4 x5 : AV) (H : AH) (K : AV→AH→Prop) : Prop :=
bO (abI .lss x5 x3) fun v0 =>
bB v0 fun t1 => bI t1 (
bO (ashift 0 x1) fun v2 =>
bO (ald false 1 H v2) fun v3 =>
bO (aixS 2 v3 x5) fun v4 =>
bO (ashift 1 v4) fun v5 =>
bO (ald false 1 H v5) fun v6 =>
bO (ashift 1 x4) fun v7 =>
bO (ald false 1 H v7) fun v8 =>
bO (abI .eql v6 v8) fun v9 =>
bB v9 fun t10 => bI t10 (
K (.lit (.bool false)) H)
 (bO (abI .add x5 (.lit (.int .i64 1))) fun v11 =>
R16 [x1,x3,x4,v11] H))
 (bO (abI .gtr x3 (.lit (.int .i64 0))) fun v12 =>
bG v12 true fun w13 =>
gO w13 (ashift 1 x1) fun v14 =>
bG v12 true fun w15 =>
gO w15 (ald false 1 H v14) fun v16 =>
bG v12 true fun w17 =>
gO w17 (some x3) fun v18 =>
bG v12 true fun w19 =>
gO w19 (abI .sub v18 (.lit (.int .i64 1))) fun v20 =>
bG v12 true fun w21 =>
gO w21 (aixS 3 v16 v20) fun v22 =>
bG v12 true fun w23 =>
gO w23 (ashift 0 v22) fun v24 =>
bG v12 true fun w25 =>
gO w25 (ald false 1 H v24) fun v26 =>
bG v12 true fun w27 =>
gO w27 (ashift 1 x1) fun v28 =>
bG v12 true fun w29 =>
gO w29 (ald false 1 H v28) fun v30 =>
bG v12 true fun w31 =>
gO w31 (some x3) fun v32 =>
bG v12 true fun w33 =>
gO w33 (aixS 3 v30 v32) fun v34 =>
bG v12 true fun w35 =>
gO w35 (ashift 0 v34) fun v36 =>
bG v12 true fun w37 =>
gO w37 (ald false 1 H v36) fun v38 =>
bG v12 true fun w39 =>
gO w39 (abI .geq v26 v38) fun v40 =>
bO (apick v12 v40 (.lit (.bool false))) fun v41 =>
bG v41 false fun w42 =>
gO w42 (ashift 1 x1) fun v43 =>
bG v41 false fun w44 =>
gO w44 (ald false 1 H v43) fun v45 =>
bG v41 false fun w46 =>
gO w46 (some x3) fun v47 =>
bG v41 false fun w48 =>
gO w48 (aixS 3 v45 v47) fun v49 =>
bG v41 false fun w50 =>
gO w50 (ashift 1 v49) fun v51 =>
bG v41 false fun w52 =>
gO w52 (ald true 2 H v51) fun v53 =>
bG v41 false fun w54 =>
gP w54 (BPure Tryz.prog 159 [v53]) fun v55 =>
bG v41 false fun w56 =>
gO w56 (aun .not v55) fun v57 =>
bO (apick v41 (.lit (.bool true)) v57) fun v58 =>
bB v58 fun t59 => bI t59 (
K (.lit (.bool false)) H)
 (bO (abI .add x3 (.lit (.int .i64 1))) fun v60 =>
R6 [x1,v60] H))
theorem zqfZ (R6 : List AV→AH→Prop) (R16 : List AV→AH→Prop) (x1 x3 x4 x5 : AV) (H : AH) (K : AV→AH→Prop) : znZ [true,true,false,true,false,false,true,false,false,true,true,false,true,false,false] 17 (expand (mk 110 0 [1,3,4,5]) [x1,x3,x4,x5]) H (kLp (mk 110 0 [1,3,4,5]) R16 (kBlk 2 (kSeq (znZ [true,true,false,true,false,false,true,false,false,true,true,true] 22) (kBlk 1 (kSeq (znZ [true,true,false,true,false,false,true,true] 24) (kLp (mk 110 0 [1,3]) R6 (kBlk 0 (kSeq (znZ [true,true,true] 24) (kRet Tryz.prog Tryz.f157.results.toList K)))))))))=zcwZ R6 R16 x1 x3 x4 x5 H K:=by kernel_rfl
theorem zgcZ (R6 : List AV→AH→Prop) {K : AV→AH→Prop} (I : Nat→AV→AV→AV→AV→AH→Prop) (round : ∀ (n : Nat) (x1 x3 x4 x5 : AV) (H : AH) (R : List AV→AH→Prop),(∀ (m : Nat) (y1 y3 y4 y5 : AV) (H' : AH),m < n→I m y1 y3 y4 y5 H'→R [y1,y3,y4,y5] H')→I n x1 x3 x4 x5 H→zcwZ R6 R x1 x3 x4 x5 H K) (n : Nat) {x1 x3 x4 x5 : AV} {H : AH} (h : I n x1 x3 x4 x5 H) : zkyZ R6 x1 x3 x4 x5 H K:=by
 refine lp_upto (zsZ _ _) (LI4 I) ?_ n h
 intro n X H h
 obtain ⟨x1,x3,x4,x5,rfl,h⟩:=h.elim
 exact Eq.mpr (zqfZ R6 _ x1 x3 x4 x5 H K) (round n x1 x3 x4 x5 H (fun X H' => ∃ m,m < n∧LI4 I m X H') (fun m y1 y3 y4 y5 H' hm hi => ⟨m,hm,hi⟩) h)
def zfeZ (R6 : List AV→AH→Prop) (x1 x3 : AV) (H : AH) (K : AV→AH→Prop) : Prop :=
bO (ashift 0 x1) fun v0 =>
bO (ald false 1 H v0) fun v1 =>
bO (alnS v1) fun v2 =>
bO (abI .lss x3 v2) fun v3 =>
bB v3 fun t4 => bI t4 (
bO (ashift 0 x1) fun v5 =>
bO (ald false 1 H v5) fun v6 =>
bO (aixS 2 v6 x3) fun v7 =>
bO (ald true 2 H v7) fun v8 =>
bH (anew H (.agg [(.lit (.string ⟨#[]⟩)),(.lit (.int .i64 0))])) fun v9 H10 =>
bS (ast 2 H10 v9 v8) fun H11 =>
bO (ashift 0 v9) fun v12 =>
bO (ald false 1 H11 v12) fun v13 =>
bP (BPure Tryz.prog 98 [v13]) fun v14 =>
bO (aun .not v14) fun v15 =>
bG v15 false fun w16 =>
gO w16 (ashift 1 v9) fun v17 =>
bG v15 false fun w18 =>
gO w18 (ald false 1 H11 v17) fun v19 =>
bG v15 false fun w20 =>
gO w20 (abI .lss v19 (.lit (.int .i64 1))) fun v21 =>
bO (apick v15 (.lit (.bool true)) v21) fun v22 =>
bG v22 false fun w23 =>
gO w23 (ashift 1 v9) fun v24 =>
bG v22 false fun w25 =>
gO w25 (ald false 1 H11 v24) fun v26 =>
bG v22 false fun w27 =>
gO w27 (abI .gtr v26 (.lit (.int .i64 4611686018427387904))) fun v28 =>
bO (apick v22 (.lit (.bool true)) v28) fun v29 =>
bG v29 false fun w30 =>
gO w30 (some x3) fun v31 =>
bG v29 false fun w32 =>
gO w32 (abI .gtr v31 (.lit (.int .i64 0))) fun v33 =>
bG v29 false fun w34 =>
gO w34 (some v33) fun v35 =>
bG v35 true fun w36 =>
gO w36 (ashift 0 x1) fun v37 =>
bG v35 true fun w38 =>
gO w38 (ald false 1 H11 v37) fun v39 =>
bG v35 true fun w40 =>
gO w40 (some x3) fun v41 =>
bG v35 true fun w42 =>
gO w42 (abI .sub v41 (.lit (.int .i64 1))) fun v43 =>
bG v35 true fun w44 =>
gO w44 (aixS 2 v39 v43) fun v45 =>
bG v35 true fun w46 =>
gO w46 (ashift 0 v45) fun v47 =>
bG v35 true fun w48 =>
gO w48 (ald false 1 H11 v47) fun v49 =>
bG v35 true fun w50 =>
gO w50 (ashift 0 v9) fun v51 =>
bG v35 true fun w52 =>
gO w52 (ald false 1 H11 v51) fun v53 =>
bG v35 true fun w54 =>
gO w54 (abT .geq v49 v53) fun v55 =>
bG v29 false fun w56 =>
gO w56 (apick v35 v55 (.lit (.bool false))) fun v57 =>
bO (apick v29 (.lit (.bool true)) v57) fun v58 =>
bG v58 false fun w59 =>
gO w59 (ald true 2 H11 x1) fun v60 =>
bG v58 false fun w61 =>
gO w61 (ashift 1 v9) fun v62 =>
bG v58 false fun w63 =>
gO w63 (ald false 1 H11 v62) fun v64 =>
bG v58 false fun w65 =>
gP w65 (BPure Tryz.prog 174 [v60,v64]) fun v66 =>
bG v58 false fun w67 =>
gO w67 (abI .lss v66 (.lit (.int .i64 0))) fun v68 =>
bO (apick v58 (.lit (.bool true)) v68) fun v69 =>
bB v69 fun t70 => bI t70 (
K (.lit (.bool false)) H11)
 (zkyZ R6 x1 x3 v9 (.lit (.int .i64 0)) H11 K))
 (K (.lit (.bool true)) H)
theorem zqpZ (R6 : List AV→AH→Prop) (x1 x3 : AV) (H : AH) (K : AV→AH→Prop) : znZ [true,true,false,true,false,false] 7 (expand (mk 110 0 [1,3]) [x1,x3]) H (kLp (mk 110 0 [1,3]) R6 (kBlk 0 (kSeq (znZ [true,true,true] 24) (kRet Tryz.prog Tryz.f157.results.toList K))))=zfeZ R6 x1 x3 H K:=by kernel_rfl
theorem zolZ {K : AV→AH→Prop} (I : Nat→AV→AV→AH→Prop) (round : ∀ (n : Nat) (x1 x3 : AV) (H : AH) (R : List AV→AH→Prop),(∀ (m : Nat) (y1 y3 : AV) (H' : AH),m < n→I m y1 y3 H'→R [y1,y3] H')→I n x1 x3 H→zfeZ R x1 x3 H K) (n : Nat) {x1 x3 : AV} {H : AH} (h : I n x1 x3 H) : zlrZ x1 x3 H K:=by
 refine lp_upto (zsZ _ _) (LI2 I) ?_ n h
 intro n X H h
 obtain ⟨x1,x3,rfl,h⟩:=h.elim
 exact Eq.mpr (zqpZ _ x1 x3 H K) (round n x1 x3 H (fun X H' => ∃ m,m < n∧LI2 I m X H') (fun m y1 y3 H' hm hi => ⟨m,hm,hi⟩) h)
def zjyZ (a0 : AV) (H : AH) (K : AV→AH→Prop) : Prop :=
bH (anew H a0) fun v0 H1 =>
bO (ashift 0 v0) fun v2 =>
bO (ald false 1 H1 v2) fun v3 =>
bO (alnS v3) fun v4 =>
bO (abI .gtr v4 (.lit (.int .i64 16))) fun v5 =>
bG v5 false fun w6 =>
gO w6 (ashift 0 v0) fun v7 =>
bG v5 false fun w8 =>
gO w8 (ald false 1 H1 v7) fun v9 =>
bG v5 false fun w10 =>
gO w10 (alnS v9) fun v11 =>
bG v5 false fun w12 =>
gO w12 (ashift 1 v0) fun v13 =>
bG v5 false fun w14 =>
gO w14 (ald false 1 H1 v13) fun v15 =>
bG v5 false fun w16 =>
gO w16 (alnS v15) fun v17 =>
bG v5 false fun w18 =>
gO w18 (abI .neq v11 v17) fun v19 =>
bO (apick v5 (.lit (.bool true)) v19) fun v20 =>
bB v20 fun t21 => bI t21 (
K (.lit (.bool false)) H1)
 (zlrZ v0 (.lit (.int .i64 0)) H1 K)
theorem zuaZ (a0 : AV) (H : AH) (K : AV→AH→Prop) : sFun Tryz.prog zlyZ pqb none0 none0 zlmZ Tryz.f157 [a0] H K=zjyZ a0 H K:=by kernel_rfl
theorem zuhZ {a0 : AV} {H : AH} {K : AV→AH→Prop} (h : zjyZ a0 H K) : ∃ r H',K r H'∧BCall Tryz.prog 157 [a0] H r H' :=
 sFun_ok mixP Tryz.func157 (by kernel_rfl) (Eq.mpr (zuaZ a0 H K) h)
def image_Copy_fl : Floats:=flOf [(1,[(4,none)])]
def image_Copy_kp : Nat→Option (List Bool):=kpOf [(4,mk 31 0 [1,2,13,14])]
def zvlZ (p : List Bool) (n : Nat) : List AV→AH→Kf→Prop:=sCode Tryz.prog image_Copy_fl pqb none0 none0 image_Copy_kp (sub p (bodyOf Tryz.f61)) n
def image_Copy_L4 (x1 x2 x13 x14 : AV) (H : AH) (K : AV→AH→Prop) : Prop:=lp (mk 31 0 [1,2,13,14]) (zvlZ [true,true,false,true,false,false] 5) [x1,x2,x13,x14] H (kBlk 0 (kSeq (zvlZ [true,true,true] 9) (kRet Tryz.prog Tryz.f61.results.toList K)))
def zrnZ (R4 : List AV→AH→Prop) (x1 x2 x13 x14 : AV) (H : AH) (K : AV→AH→Prop) : Prop :=
bO (abI .lss x14 x13) fun v0 =>
bB v0 fun t1 => bI t1 (
bO (ashift 1 x1) fun v2 =>
bO (ald false 1 H v2) fun v3 =>
bO (ashift 1 x1) fun v4 =>
bO (ald false 1 H v4) fun v5 =>
bO (aixS 3 v5 x14) fun v6 =>
bO (ashift 1 v6) fun v7 =>
bO (ald true 2 H v7) fun v8 =>
bP (BPure Tryz.prog 92 [v8]) fun v9 =>
bO (aixS 3 v3 x14) fun v10 =>
bO (ashift 1 v10) fun v11 =>
bS (ast 2 H v11 v9) fun H12 =>
bO (abI .add x14 (.lit (.int .i64 1))) fun v13 =>
R4 [x1,x2,x13,v13] H12)
 (bO (ald true 2 H x1) fun v14 =>
bS (ast 2 H x2 v14) fun H15 =>
bO (ald true 2 H15 x2) fun v16 =>
K v16 H15)
theorem image_Copy_L4_eq (R4 : List AV→AH→Prop) (x1 x2 x13 x14 : AV) (H : AH) (K : AV→AH→Prop) : zvlZ [true,true,false,true,false,false] 5 (expand (mk 31 0 [1,2,13,14]) [x1,x2,x13,x14]) H (kLp (mk 31 0 [1,2,13,14]) R4 (kBlk 0 (kSeq (zvlZ [true,true,true] 9) (kRet Tryz.prog Tryz.f61.results.toList K))))=zrnZ R4 x1 x2 x13 x14 H K:=by kernel_rfl
theorem image_Copy_L4_rule {K : AV→AH→Prop} (I : Nat→AV→AV→AV→AV→AH→Prop) (round : ∀ (n : Nat) (x1 x2 x13 x14 : AV) (H : AH) (R : List AV→AH→Prop),(∀ (m : Nat) (y1 y2 y13 y14 : AV) (H' : AH),m < n→I m y1 y2 y13 y14 H'→R [y1,y2,y13,y14] H')→I n x1 x2 x13 x14 H→zrnZ R x1 x2 x13 x14 H K) (n : Nat) {x1 x2 x13 x14 : AV} {H : AH} (h : I n x1 x2 x13 x14 H) : image_Copy_L4 x1 x2 x13 x14 H K:=by
 refine lp_upto (zsZ _ _) (LI4 I) ?_ n h
 intro n X H h
 obtain ⟨x1,x2,x13,x14,rfl,h⟩:=h.elim
 exact Eq.mpr (image_Copy_L4_eq _ x1 x2 x13 x14 H K) (round n x1 x2 x13 x14 H (fun X H' => ∃ m,m < n∧LI4 I m X H') (fun m y1 y2 y13 y14 H' hm hi => ⟨m,hm,hi⟩) h)
def image_Copy (a0 : AV) (H : AH) (K : AV→AH→Prop) : Prop :=
bH (anew H a0) fun v0 H1 =>
bH (anew H1 (.agg [(.lit (.slice none 0 0)),(.lit (.slice none 0 0))])) fun v2 H3 =>
bO (ashift 0 v0) fun v4 =>
bO (ald false 1 H3 v4) fun v5 =>
bC (BCall Tryz.prog 116 [v5] H3) fun v6 H7 =>
bO (ashift 1 v0) fun v8 =>
bO (ald false 1 H7 v8) fun v9 =>
bC (BCall Tryz.prog 117 [v9] H7) fun v10 H11 =>
bO (abl [(.lit (.slice none 0 0)),(.lit (.slice none 0 0))] [(0,1,v6),(1,1,v10)]) fun v12 =>
bS (ast 2 H11 v0 v12) fun H13 =>
(ald false 1 H3 v8=some v9) ∧
bO (ashift 1 v0) fun v14 =>
bO (ald false 1 H13 v14) fun v15 =>
bO (alnS v15) fun v16 =>
image_Copy_L4 v0 v2 v16 (.lit (.int .i64 0)) H13 K
theorem image_Copy_eq (a0 : AV) (H : AH) (K : AV→AH→Prop) : sFun Tryz.prog image_Copy_fl pqb none0 none0 image_Copy_kp Tryz.f61 [a0] H K=image_Copy a0 H K:=by kernel_rfl
theorem image_Copy_ok {a0 : AV} {H : AH} {K : AV→AH→Prop} (h : image_Copy a0 H K) : ∃ r H',K r H'∧BCall Tryz.prog 61 [a0] H r H' :=
 sFun_ok mixP Tryz.func61 (by kernel_rfl) (Eq.mpr (image_Copy_eq a0 H K) h)
def image_named_fl : Floats:=flOf []
def image_named_kp : Nat→Option (List Bool):=kpOf []
def image_named (a0 a1 : AV) (H : AH) (K : AV→AH→Prop) : Prop :=
bH (anew H a0) fun v0 H1 =>
bO (ashift 0 v0) fun v2 =>
bO (ald false 1 H1 v2) fun v3 =>
bP (PCall Tryz.prog 154 [v3,a1,(.fn (.func 155) [] [])] H1) fun v4 =>
bO (zkZ v4 0) fun v5 =>
bO (zkZ v4 1) fun v6 =>
K (.tup [v5,v6]) H1
theorem image_named_eq (a0 a1 : AV) (H : AH) (K : AV→AH→Prop) : sFun Tryz.prog image_named_fl pqb none0 none0 image_named_kp Tryz.f97 [a0,a1] H K=image_named a0 a1 H K:=by kernel_rfl
theorem image_named_ok {a0 a1 : AV} {H : AH} {K : AV→AH→Prop} (h : image_named a0 a1 H K) : ∃ r H',K r H'∧BCall Tryz.prog 97 [a0,a1] H r H' :=
 sFun_ok mixP Tryz.func97 (by kernel_rfl) (Eq.mpr (image_named_eq a0 a1 H K) h)
def image_node_fl : Floats:=flOf []
def image_node_kp : Nat→Option (List Bool):=kpOf []
def image_node (a0 a1 : AV) (H : AH) (K : AV→AH→Prop) : Prop :=
bH (anew H a0) fun v0 H1 =>
bO (ashift 1 v0) fun v2 =>
bO (ald false 1 H1 v2) fun v3 =>
bP (PCall Tryz.prog 147 [v3,a1,(.fn (.func 148) [] [])] H1) fun v4 =>
bO (zkZ v4 0) fun v5 =>
bO (zkZ v4 1) fun v6 =>
K (.tup [v5,v6]) H1
theorem image_node_eq (a0 a1 : AV) (H : AH) (K : AV→AH→Prop) : sFun Tryz.prog image_node_fl pqb none0 none0 image_node_kp Tryz.f91 [a0,a1] H K=image_node a0 a1 H K:=by kernel_rfl
theorem image_node_ok {a0 a1 : AV} {H : AH} {K : AV→AH→Prop} (h : image_node a0 a1 H K) : ∃ r H',K r H'∧BCall Tryz.prog 91 [a0,a1] H r H' :=
 sFun_ok mixP Tryz.func91 (by kernel_rfl) (Eq.mpr (image_node_eq a0 a1 H K) h)
def image_may_fl : Floats:=flOf []
def image_may_kp : Nat→Option (List Bool):=kpOf []
def image_may (a0 : AV) (H : AH) (K : AV→AH→Prop) : Prop :=
bO (abI .geq a0 (.lit (.int .u8 97))) fun v0 =>
bG v0 true fun w1 =>
gO w1 (some a0) fun v2 =>
bG v0 true fun w3 =>
gO w3 (abI .leq v2 (.lit (.int .u8 122))) fun v4 =>
bO (apick v0 v4 (.lit (.bool false))) fun v5 =>
bG v5 false fun w6 =>
gO w6 (some a0) fun v7 =>
bG v5 false fun w8 =>
gO w8 (abI .geq v7 (.lit (.int .u8 48))) fun v9 =>
bG v5 false fun w10 =>
gO w10 (some v9) fun v11 =>
bG v11 true fun w12 =>
gO w12 (some a0) fun v13 =>
bG v11 true fun w14 =>
gO w14 (abI .leq v13 (.lit (.int .u8 57))) fun v15 =>
bG v5 false fun w16 =>
gO w16 (apick v11 v15 (.lit (.bool false))) fun v17 =>
bO (apick v5 (.lit (.bool true)) v17) fun v18 =>
bG v18 false fun w19 =>
gO w19 (some a0) fun v20 =>
bG v18 false fun w21 =>
gO w21 (abI .eql v20 (.lit (.int .u8 46))) fun v22 =>
bO (apick v18 (.lit (.bool true)) v22) fun v23 =>
bG v23 false fun w24 =>
gO w24 (some a0) fun v25 =>
bG v23 false fun w26 =>
gO w26 (abI .eql v25 (.lit (.int .u8 95))) fun v27 =>
bO (apick v23 (.lit (.bool true)) v27) fun v28 =>
bG v28 false fun w29 =>
gO w29 (some a0) fun v30 =>
bG v28 false fun w31 =>
gO w31 (abI .eql v30 (.lit (.int .u8 45))) fun v32 =>
bO (apick v28 (.lit (.bool true)) v32) fun v33 =>
K v33 H
theorem image_may_eq (a0 : AV) (H : AH) (K : AV→AH→Prop) : sFun Tryz.prog image_may_fl pqb none0 none0 image_may_kp Tryz.f123 [a0] H K=image_may a0 H K:=by kernel_rfl
theorem image_may_ok {a0 : AV} {H : AH} {K : AV→AH→Prop} (h : image_may a0 H K) : ∃ r H',K r H'∧BCall Tryz.prog 123 [a0] H r H' :=
 sFun_ok mixP Tryz.func123 (by kernel_rfl) (Eq.mpr (image_may_eq a0 H K) h)
def image_create_fl : Floats:=flOf []
def image_create_kp : Nat→Option (List Bool):=kpOf [(100004,mk 82 0 [0,3,4,6]),(100005,mk 82 0 [0,3,6]),(5,mk 82 0 [0,3,6])]
def image_create_un : Nat→Bool:=inL [4,5]
def zovZ (p : List Bool) (n : Nat) : List AV→AH→Kf→Prop:=sCode Tryz.prog image_create_fl pqb pqba image_create_un image_create_kp (sub p (bodyOf Tryz.f112)) n
def zstZ (x0 x3 x6 : AV) (H : AH) (K : AV→AH→Prop) : Prop:=unR Tryz.prog 5 (opsOf (sub [true,true,true,true,true] (bodyOf Tryz.f112))) (expand (mk 82 0 [0,3,6]) [x0,x3,x6]) H (kRet Tryz.prog Tryz.f112.results.toList K)
def zrqZ (x0 x3 x6 : AV) (H : AH) (K : AV→AH→Prop) : Prop:=jn (mk 82 0 [0,3,6]) (zovZ [true,true,true,true,true] 6) [x0,x3,x6] H (kRet Tryz.prog Tryz.f112.results.toList K)
def znbZ (x0 x3 x4 x6 : AV) (H : AH) (K : AV→AH→Prop) : Prop:=unR Tryz.prog 4 (opsOf (sub [true,true,true,true,false] (bodyOf Tryz.f112))) (expand (mk 82 0 [0,3,4,6]) [x0,x3,x4,x6]) H (kSeq (cutC (mk 82 0 [0,3,6]) (zovZ [true,true,true,true,true] 6)) (kRet Tryz.prog Tryz.f112.results.toList K))
def zuxZ (x0 x3 x6 : AV) (H : AH) (K : AV→AH→Prop) : Prop :=
zstZ x0 x3 x6 H K
theorem image_create_J5_eq (x0 x3 x6 : AV) (H : AH) (K : AV→AH→Prop) : zrqZ x0 x3 x6 H K=zuxZ x0 x3 x6 H K:=(jn_eq _ _ _ _ _).trans (by kernel_rfl)
def zvmZ (a0 a1 : AV) (H : AH) (K : AV→AH→Prop) : Prop :=
bH (anew H a1) fun v0 H1 =>
bO (zcZ a0) fun v2 =>
bO (ald true 2 H1 v2) fun v3 =>
bO (ashift 5 v0) fun v4 =>
bO (ald false 1 H1 v4) fun v5 =>
bC (BCall Tryz.prog 97 [v3,v5] H1) fun v6 H7 =>
bO (zkZ v6 0) fun v8 =>
bO (zkZ v6 1) fun v9 =>
bO (zcZ a0) fun v10 =>
bO (ald true 2 H7 v10) fun v11 =>
bO (ashift 1 v0) fun v12 =>
bO (ald false 1 H7 v12) fun v13 =>
bC (BCall Tryz.prog 91 [v11,v13] H7) fun v14 H15 =>
bO (zkZ v14 0) fun v16 =>
bO (zkZ v14 1) fun v17 =>
bG v9 false fun w18 =>
gO w18 (some v17) fun v19 =>
bO (apick v9 (.lit (.bool true)) v19) fun v20 =>
bG v20 false fun w21 =>
gO w21 (ashift 5 v0) fun v22 =>
bG v20 false fun w23 =>
gO w23 (ald false 1 H15 v22) fun v24 =>
bG v20 false fun w25 =>
gP w25 (PCall Tryz.prog 70 [v24] H15) fun v26 =>
bG v20 false fun w27 =>
gO w27 (aun .not v26) fun v28 =>
bO (apick v20 (.lit (.bool true)) v28) fun v29 =>
bG v29 false fun w30 =>
gO w30 (ashift 1 v0) fun v31 =>
bG v29 false fun w32 =>
gO w32 (ald false 1 H15 v31) fun v33 =>
bG v29 false fun w34 =>
gO w34 (abI .lss v33 (.lit (.int .i64 1))) fun v35 =>
bO (apick v29 (.lit (.bool true)) v35) fun v36 =>
bG v36 false fun w37 =>
gO w37 (ashift 1 v0) fun v38 =>
bG v36 false fun w39 =>
gO w39 (ald false 1 H15 v38) fun v40 =>
bG v36 false fun w41 =>
gO w41 (abI .gtr v40 (.lit (.int .i64 4611686018427387904))) fun v42 =>
bO (apick v36 (.lit (.bool true)) v42) fun v43 =>
bG v43 false fun w44 =>
gO w44 (some a0) fun v45 =>
bG v43 false fun w46 =>
gO w46 (zcZ v45) fun v47 =>
bG v43 false fun w48 =>
gO w48 (ashift 0 v47) fun v49 =>
bG v43 false fun w50 =>
gO w50 (ald false 1 H15 v49) fun v51 =>
bG v43 false fun w52 =>
gO w52 (alnS v51) fun v53 =>
bG v43 false fun w54 =>
gO w54 (abI .geq v53 (.lit (.int .i64 16))) fun v55 =>
bO (apick v43 (.lit (.bool true)) v55) fun v56 =>
bB v56 fun t57 => bI t57 (
K (.tup []) H15)
 (znbZ a0 v0 v8 v16 H15 K)
theorem image_create_eq (a0 a1 : AV) (H : AH) (K : AV→AH→Prop) : sFun Tryz.prog image_create_fl pqb pqba image_create_un image_create_kp Tryz.f112 [a0,a1] H K=zvmZ a0 a1 H K:=by kernel_rfl
theorem image_create_ok {a0 a1 : AV} {H : AH} {K : AV→AH→Prop} (h : zvmZ a0 a1 H K) : ACalls Tryz.prog 112 [a0,a1] H K :=
 sFun_wp mixP Tryz.func112 (by kernel_rfl) (Eq.mpr (image_create_eq a0 a1 H K) h)
def image_change_fl : Floats:=flOf []
def image_change_kp : Nat→Option (List Bool):=kpOf [(11,mk 81 0 [0,4,6,72]),(5,mk 81 0 [0,4,5,6])]
def image_change_c (p : List Bool) (n : Nat) : List AV→AH→Kf→Prop:=sCode Tryz.prog image_change_fl pqb none0 none0 image_change_kp (sub p (bodyOf Tryz.f113)) n
def zvyZ (x0 x4 x6 x72 : AV) (H : AH) (K : AV→AH→Prop) : Prop:=jn (mk 81 0 [0,4,6,72]) (image_change_c [true,true,true,true,true,true] 12) [x0,x4,x6,x72] H (kRet Tryz.prog Tryz.f113.results.toList K)
def zeeZ (x0 x4 x5 x6 : AV) (H : AH) (K : AV→AH→Prop) : Prop:=jn (mk 81 0 [0,4,5,6]) (image_change_c [true,true,true,true,true] 11) [x0,x4,x5,x6] H (kRet Tryz.prog Tryz.f113.results.toList K)
def zmfZ (x0 x4 x6 x72 : AV) (H : AH) (K : AV→AH→Prop) : Prop :=
bB x72 fun t0 => bI t0 (
bO (zcZ x0) fun v1 =>
bO (ashift 1 v1) fun v2 =>
bO (ald false 1 H v2) fun v3 =>
bO (ald true 2 H x6) fun v4 =>
bO (aixS 3 v3 x4) fun v5 =>
bO (ashift 1 v5) fun v6 =>
bS (ast 2 H v6 v4) fun H7 =>
K (.tup []) H7)
 (K (.tup []) H)
theorem zrhZ (x0 x4 x6 x72 : AV) (H : AH) (K : AV→AH→Prop) : zvyZ x0 x4 x6 x72 H K=zmfZ x0 x4 x6 x72 H K:=(jn_eq _ _ _ _ _).trans (by kernel_rfl)
def zohZ (x0 x4 x5 x6 : AV) (H : AH) (K : AV→AH→Prop) : Prop :=
zvyZ x0 x4 x6 x5 H K
theorem ztaZ (x0 x4 x5 x6 : AV) (H : AH) (K : AV→AH→Prop) : zeeZ x0 x4 x5 x6 H K=zohZ x0 x4 x5 x6 H K:=(jn_eq _ _ _ _ _).trans (by kernel_rfl)
def image_change (a0 a1 : AV) (H : AH) (K : AV→AH→Prop) : Prop :=
bH (anew H a1) fun v0 H1 =>
bO (zcZ a0) fun v2 =>
bO (ald true 2 H1 v2) fun v3 =>
bO (ashift 1 v0) fun v4 =>
bO (ald false 1 H1 v4) fun v5 =>
bC (BCall Tryz.prog 91 [v3,v5] H1) fun v6 H7 =>
bO (zkZ v6 0) fun v8 =>
bO (zkZ v6 1) fun v9 =>
bO (aun .not v9) fun v10 =>
bB v10 fun t11 => bI t11 (
K (.tup []) H7)
 (bO (zcZ a0) fun v12 =>
bO (ashift 1 v12) fun v13 =>
bO (ald false 1 H7 v13) fun v14 =>
bO (aixS 3 v14 v8) fun v15 =>
bO (ashift 1 v15) fun v16 =>
bO (ald true 2 H7 v16) fun v17 =>
bH (anew H7 (.agg [(.lit (.int .i64 0)),(.lit (.slice none 0 0))])) fun v18 H19 =>
bS (ast 2 H19 v18 v17) fun H20 =>
bO (ashift 0 v0) fun v21 =>
bO (ald false 1 H20 v21) fun v22 =>
bO (abI .eql v22 (.lit (.int .i64 2))) fun v23 =>
bB v23 fun t24 => bI t24 (
bO (ald true 2 H20 v18) fun v25 =>
bO (ashift 2 v0) fun v26 =>
bO (ald false 1 H20 v26) fun v27 =>
bO (ashift 7 v0) fun v28 =>
bO (ald false 1 H20 v28) fun v29 =>
bP (PCall Tryz.prog 36 [v25,v27,v29] H20) fun v30 =>
bO (zkZ v30 0) fun v31 =>
bO (zkZ v30 1) fun v32 =>
bS (ast 2 H20 v18 v31) fun H33 =>
zeeZ a0 v8 v32 v18 H33 K)
 (bO (abI .eql v22 (.lit (.int .i64 3))) fun v34 =>
bB v34 fun t35 => bI t35 (
bO (ald true 2 H20 v18) fun v36 =>
bO (ashift 3 v0) fun v37 =>
bO (ald false 1 H20 v37) fun v38 =>
bP (PCall Tryz.prog 71 [v36,v38] H20) fun v39 =>
bO (zkZ v39 0) fun v40 =>
bO (zkZ v39 1) fun v41 =>
bS (ast 2 H20 v18 v40) fun H42 =>
zeeZ a0 v8 v41 v18 H42 K)
 (bO (abI .eql v22 (.lit (.int .i64 4))) fun v43 =>
bB v43 fun t44 => bI t44 (
bO (ald true 2 H20 v18) fun v45 =>
bO (ashift 2 v0) fun v46 =>
bO (ald false 1 H20 v46) fun v47 =>
bO (ashift 3 v0) fun v48 =>
bO (ald false 1 H20 v48) fun v49 =>
bO (ashift 4 v0) fun v50 =>
bO (ald false 1 H20 v50) fun v51 =>
bP (PCall Tryz.prog 72 [v45,v47,v49,v51] H20) fun v52 =>
bO (zkZ v52 0) fun v53 =>
bO (zkZ v52 1) fun v54 =>
bS (ast 2 H20 v18 v53) fun H55 =>
zeeZ a0 v8 v54 v18 H55 K)
 (bO (abI .eql v22 (.lit (.int .i64 5))) fun v56 =>
bB v56 fun t57 => bI t57 (
bO (ald true 2 H20 v18) fun v58 =>
bO (ashift 2 v0) fun v59 =>
bO (ald false 1 H20 v59) fun v60 =>
bO (ashift 3 v0) fun v61 =>
bO (ald false 1 H20 v61) fun v62 =>
bP (PCall Tryz.prog 73 [v58,v60,v62] H20) fun v63 =>
bO (zkZ v63 0) fun v64 =>
bO (zkZ v63 1) fun v65 =>
bS (ast 2 H20 v18 v64) fun H66 =>
zeeZ a0 v8 v65 v18 H66 K)
 (zeeZ a0 v8 v9 v18 H20 K)))))
theorem image_change_eq (a0 a1 : AV) (H : AH) (K : AV→AH→Prop) : sFun Tryz.prog image_change_fl pqb none0 none0 image_change_kp Tryz.f113 [a0,a1] H K=image_change a0 a1 H K:=by kernel_rfl
theorem image_change_ok {a0 a1 : AV} {H : AH} {K : AV→AH→Prop} (h : image_change a0 a1 H K) : ∃ r H',K r H'∧BCall Tryz.prog 113 [a0,a1] H r H' :=
 sFun_ok mixP Tryz.func113 (by kernel_rfl) (Eq.mpr (image_change_eq a0 a1 H K) h)
def image_rename_fl : Floats:=flOf []
def image_rename_kp : Nat→Option (List Bool):=kpOf []
def image_rename (a0 a1 a2 : AV) (H : AH) (K : AV→AH→Prop) : Prop :=
bO (zcZ a0) fun v0 =>
bO (ald true 2 H v0) fun v1 =>
bC (BCall Tryz.prog 97 [v1,a1] H) fun v2 H3 =>
bO (zkZ v2 0) fun v4 =>
bO (zkZ v2 1) fun v5 =>
bO (aun .not v5) fun v6 =>
bG v6 false fun w7 =>
gO w7 (some a2) fun v8 =>
bG v6 false fun w9 =>
gP w9 (PCall Tryz.prog 70 [v8] H3) fun v10 =>
bG v6 false fun w11 =>
gO w11 (aun .not v10) fun v12 =>
bO (apick v6 (.lit (.bool true)) v12) fun v13 =>
bG v13 false fun w14 =>
gO w14 (some a1) fun v15 =>
bG v13 false fun w16 =>
gO w16 (some a2) fun v17 =>
bG v13 false fun w18 =>
gO w18 (abT .eql v15 v17) fun v19 =>
bO (apick v13 (.lit (.bool true)) v19) fun v20 =>
bB v20 fun t21 => bI t21 (
K (.tup []) H3)
 (bO (zcZ a0) fun v22 =>
bO (ashift 0 v22) fun v23 =>
bO (ald false 1 H3 v23) fun v24 =>
bO (aixS 2 v24 v4) fun v25 =>
bO (ashift 1 v25) fun v26 =>
bO (ald false 1 H3 v26) fun v27 =>
bO (zcZ a0) fun v28 =>
bO (ashift 0 v28) fun v29 =>
bO (ald false 1 H3 v29) fun v30 =>
bO (abI .add v4 (.lit (.int .i64 1))) fun v31 =>
bC (BCall Tryz.prog 168 [v30,v4,v31] H3) fun v32 H33 =>
bO (zcZ a0) fun v34 =>
bO (ashift 0 v34) fun v35 =>
bS (ast 1 H33 v35 v32) fun H36 =>
bC (BCall Tryz.prog 115 [a0,a2] H36) fun v37 H38 =>
bO (zcZ a0) fun v39 =>
bO (ald true 2 H38 v39) fun v40 =>
bC (BCall Tryz.prog 97 [v40,a2] H38) fun v41 H42 =>
bO (zkZ v41 0) fun v43 =>
bO (zkZ v41 1) fun v44 =>
bO (zcZ a0) fun v45 =>
bO (ashift 0 v45) fun v46 =>
bO (ald false 1 H42 v46) fun v47 =>
bO (abl [(.lit (.string ⟨#[]⟩)),(.lit (.int .i64 0))] [(0,1,a2),(1,1,v27)]) fun v48 =>
bH (absl H42 2 1 (zrow [(.lit (.string ⟨#[]⟩)),(.lit (.int .i64 0))] 1) [(0,2,v48)]) fun v49 H50 =>
bC (BCall Tryz.prog 166 [v47,v43,v49] H50) fun v51 H52 =>
bO (zcZ a0) fun v53 =>
bO (ashift 0 v53) fun v54 =>
bS (ast 1 H52 v54 v51) fun H55 =>
K (.tup []) H55)
theorem image_rename_eq (a0 a1 a2 : AV) (H : AH) (K : AV→AH→Prop) : sFun Tryz.prog image_rename_fl pqb none0 none0 image_rename_kp Tryz.f114 [a0,a1,a2] H K=image_rename a0 a1 a2 H K:=by kernel_rfl
theorem image_rename_ok {a0 a1 a2 : AV} {H : AH} {K : AV→AH→Prop} (h : image_rename a0 a1 a2 H K) : ∃ r H',K r H'∧BCall Tryz.prog 114 [a0,a1,a2] H r H' :=
 sFun_ok mixP Tryz.func114 (by kernel_rfl) (Eq.mpr (image_rename_eq a0 a1 a2 H K) h)
def image_remove_fl : Floats:=flOf []
def image_remove_kp : Nat→Option (List Bool):=kpOf []
def image_remove (a0 a1 : AV) (H : AH) (K : AV→AH→Prop) : Prop :=
bO (zcZ a0) fun v0 =>
bO (ald true 2 H v0) fun v1 =>
bC (BCall Tryz.prog 97 [v1,a1] H) fun v2 H3 =>
bO (zkZ v2 0) fun v4 =>
bO (zkZ v2 1) fun v5 =>
bO (aun .not v5) fun v6 =>
bB v6 fun t7 => bI t7 (
K (.tup []) H3)
 (bO (zcZ a0) fun v8 =>
bO (ald true 2 H3 v8) fun v9 =>
bO (zcZ a0) fun v10 =>
bO (ashift 0 v10) fun v11 =>
bO (ald false 1 H3 v11) fun v12 =>
bO (aixS 2 v12 v4) fun v13 =>
bO (ashift 1 v13) fun v14 =>
bO (ald false 1 H3 v14) fun v15 =>
bC (BCall Tryz.prog 91 [v9,v15] H3) fun v16 H17 =>
bO (zkZ v16 0) fun v18 =>
bO (zkZ v16 1) fun v19 =>
bO (zcZ a0) fun v20 =>
bO (ashift 0 v20) fun v21 =>
bO (ald false 1 H17 v21) fun v22 =>
bO (abI .add v4 (.lit (.int .i64 1))) fun v23 =>
bC (BCall Tryz.prog 168 [v22,v4,v23] H17) fun v24 H25 =>
bO (zcZ a0) fun v26 =>
bO (ashift 0 v26) fun v27 =>
bS (ast 1 H25 v27 v24) fun H28 =>
bO (zcZ a0) fun v29 =>
bO (ashift 1 v29) fun v30 =>
bO (ald false 1 H28 v30) fun v31 =>
bO (abI .add v18 (.lit (.int .i64 1))) fun v32 =>
bC (BCall Tryz.prog 169 [v31,v18,v32] H28) fun v33 H34 =>
bO (zcZ a0) fun v35 =>
bO (ashift 1 v35) fun v36 =>
bS (ast 1 H34 v36 v33) fun H37 =>
K (.tup []) H37)
theorem image_remove_eq (a0 a1 : AV) (H : AH) (K : AV→AH→Prop) : sFun Tryz.prog image_remove_fl pqb none0 none0 image_remove_kp Tryz.f115 [a0,a1] H K=image_remove a0 a1 H K:=by kernel_rfl
theorem image_remove_ok {a0 a1 : AV} {H : AH} {K : AV→AH→Prop} (h : image_remove a0 a1 H K) : ∃ r H',K r H'∧BCall Tryz.prog 115 [a0,a1] H r H' :=
 sFun_ok mixP Tryz.func115 (by kernel_rfl) (Eq.mpr (image_remove_eq a0 a1 H K) h)
def zksZ : Floats:=flOf []
def zkxZ : Nat→Option (List Bool):=kpOf [(4,mk 36 0 [1,2,3,4])]
def zefZ (p : List Bool) (n : Nat) : List AV→AH→Kf→Prop:=sCode Tryz.prog zksZ pqb none0 none0 zkxZ (sub p (bodyOf Tryz.f140)) n
def zkzZ (x1 x2 x3 x4 : AV) (H : AH) (K : AV→AH→Prop) : Prop:=lp (mk 36 0 [1,2,3,4]) (zefZ [true,true,false,true,false,false] 5) [x1,x2,x3,x4] H (kBlk 0 (kSeq (zefZ [true,true,true] 8) (kRet Tryz.prog Tryz.f140.results.toList K)))
def zexZ (R4 : List AV→AH→Prop) (x1 x2 x3 x4 : AV) (H : AH) (K : AV→AH→Prop) : Prop :=
bO (ashift 1 x1) fun v0 =>
bO (ald false 1 H v0) fun v1 =>
bO (alnS v1) fun v2 =>
bO (abI .lss x4 v2) fun v3 =>
bB v3 fun t4 => bI t4 (
bO (ashift 1 x3) fun v5 =>
bO (ald false 1 H v5) fun v6 =>
bO (ashift 1 x1) fun v7 =>
bO (ald false 1 H v7) fun v8 =>
bO (aixS 3 v8 x4) fun v9 =>
bO (ashift 0 v9) fun v10 =>
bO (ald false 1 H v10) fun v11 =>
bO (ashift 1 x1) fun v12 =>
bO (ald false 1 H v12) fun v13 =>
bO (aixS 3 v13 x4) fun v14 =>
bO (ashift 1 v14) fun v15 =>
bO (ald true 2 H v15) fun v16 =>
bP (BPure Tryz.prog 171 [v16]) fun v17 =>
bO (abl [(.lit (.int .i64 0)),(.lit (.int .i64 0)),(.lit (.slice none 0 0))] [(0,1,v11),(1,2,v17)]) fun v18 =>
bO (absf 3 1 (zrow [(.lit (.int .i64 0)),(.lit (.int .i64 0)),(.lit (.slice none 0 0))] 1) [(0,3,v18)]) fun v19 =>
bH (aap 3 40 H v6 v19) fun v20 H21 =>
bO (ashift 1 x3) fun v22 =>
bS (ast 1 H21 v22 v20) fun H23 =>
bO (abI .add x4 (.lit (.int .i64 1))) fun v24 =>
R4 [x1,x2,x3,v24] H23)
 (bO (ald true 2 H x3) fun v25 =>
bS (ast 2 H x2 v25) fun H26 =>
bO (ald true 2 H26 x2) fun v27 =>
K v27 H26)
theorem zppZ (R4 : List AV→AH→Prop) (x1 x2 x3 x4 : AV) (H : AH) (K : AV→AH→Prop) : zefZ [true,true,false,true,false,false] 5 (expand (mk 36 0 [1,2,3,4]) [x1,x2,x3,x4]) H (kLp (mk 36 0 [1,2,3,4]) R4 (kBlk 0 (kSeq (zefZ [true,true,true] 8) (kRet Tryz.prog Tryz.f140.results.toList K))))=zexZ R4 x1 x2 x3 x4 H K:=by kernel_rfl
theorem zocZ {K : AV→AH→Prop} (I : Nat→AV→AV→AV→AV→AH→Prop) (round : ∀ (n : Nat) (x1 x2 x3 x4 : AV) (H : AH) (R : List AV→AH→Prop),(∀ (m : Nat) (y1 y2 y3 y4 : AV) (H' : AH),m < n→I m y1 y2 y3 y4 H'→R [y1,y2,y3,y4] H')→I n x1 x2 x3 x4 H→zexZ R x1 x2 x3 x4 H K) (n : Nat) {x1 x2 x3 x4 : AV} {H : AH} (h : I n x1 x2 x3 x4 H) : zkzZ x1 x2 x3 x4 H K:=by
 refine lp_upto (zsZ _ _) (LI4 I) ?_ n h
 intro n X H h
 obtain ⟨x1,x2,x3,x4,rfl,h⟩:=h.elim
 exact Eq.mpr (zppZ _ x1 x2 x3 x4 H K) (round n x1 x2 x3 x4 H (fun X H' => ∃ m,m < n∧LI4 I m X H') (fun m y1 y2 y3 y4 H' hm hi => ⟨m,hm,hi⟩) h)
def zhyZ (a0 : AV) (H : AH) (K : AV→AH→Prop) : Prop :=
bH (anew H a0) fun v0 H1 =>
bH (anew H1 (.agg [(.lit (.slice none 0 0)),(.lit (.slice none 0 0))])) fun v2 H3 =>
bO (ashift 0 v0) fun v4 =>
bO (ald false 1 H3 v4) fun v5 =>
bH (aap 2 24 H3 (.lit (.slice none 0 0)) v5) fun v6 H7 =>
bO (abl [(.lit (.slice none 0 0)),(.lit (.slice none 0 0))] [(0,1,v6)]) fun v8 =>
bH (anew H7 (.agg [(.lit (.slice none 0 0)),(.lit (.slice none 0 0))])) fun v9 H10 =>
bS (ast 2 H10 v9 v8) fun H11 =>
zkzZ v0 v2 v9 (.lit (.int .i64 0)) H11 K
theorem ztjZ (a0 : AV) (H : AH) (K : AV→AH→Prop) : sFun Tryz.prog zksZ pqb none0 none0 zkxZ Tryz.f140 [a0] H K=zhyZ a0 H K:=by kernel_rfl
theorem ztnZ {a0 : AV} {H : AH} {K : AV→AH→Prop} (h : zhyZ a0 H K) : ∃ r H',K r H'∧BCall Tryz.prog 140 [a0] H r H' :=
 sFun_ok mixP Tryz.func140 (by kernel_rfl) (Eq.mpr (ztjZ a0 H K) h)
def zpaZ : Floats:=flOf []
def zorZ : Nat→Option (List Bool):=kpOf [(3,mk 22 0 [1,2,5])]
def zgnZ (p : List Bool) (n : Nat) : List AV→AH→Kf→Prop:=sCode Tryz.prog zpaZ pqb none0 none0 zorZ (sub p (bodyOf Tryz.f137)) n
def zosZ (x1 x2 x5 : AV) (H : AH) (K : AV→AH→Prop) : Prop:=lp (mk 22 0 [1,2,5]) (zgnZ [true,false,true,false,false] 4) [x1,x2,x5] H (kBlk 0 (kSeq (zgnZ [true,true] 9) (kRet Tryz.prog Tryz.f137.results.toList K)))
def zheZ (R3 : List AV→AH→Prop) (x1 x2 x5 : AV) (H : AH) (K : AV→AH→Prop) : Prop :=
bO (ashift 0 x2) fun v0 =>
bO (ald false 1 H v0) fun v1 =>
bO (alnS v1) fun v2 =>
bO (abI .lss x5 v2) fun v3 =>
bB v3 fun t4 => bI t4 (
bO (ashift 0 x2) fun v5 =>
bO (ald false 1 H v5) fun v6 =>
bO (aixS 2 v6 x5) fun v7 =>
bO (ashift 0 v7) fun v8 =>
bO (ald false 1 H v8) fun v9 =>
bO (abT .eql v9 x1) fun v10 =>
bB v10 fun t11 => bI t11 (
K x5 H)
 (bO (abI .add x5 (.lit (.int .i64 1))) fun v12 =>
R3 [x1,x2,v12] H))
 (K (.lit (.int .i64 (-1))) H)
theorem zuyZ (R3 : List AV→AH→Prop) (x1 x2 x5 : AV) (H : AH) (K : AV→AH→Prop) : zgnZ [true,false,true,false,false] 4 (expand (mk 22 0 [1,2,5]) [x1,x2,x5]) H (kLp (mk 22 0 [1,2,5]) R3 (kBlk 0 (kSeq (zgnZ [true,true] 9) (kRet Tryz.prog Tryz.f137.results.toList K))))=zheZ R3 x1 x2 x5 H K:=by kernel_rfl
theorem zrpZ {K : AV→AH→Prop} (I : Nat→AV→AV→AV→AH→Prop) (round : ∀ (n : Nat) (x1 x2 x5 : AV) (H : AH) (R : List AV→AH→Prop),(∀ (m : Nat) (y1 y2 y5 : AV) (H' : AH),m < n→I m y1 y2 y5 H'→R [y1,y2,y5] H')→I n x1 x2 x5 H→zheZ R x1 x2 x5 H K) (n : Nat) {x1 x2 x5 : AV} {H : AH} (h : I n x1 x2 x5 H) : zosZ x1 x2 x5 H K:=by
 refine lp_upto (zsZ _ _) (LI3 I) ?_ n h
 intro n X H h
 obtain ⟨x1,x2,x5,rfl,h⟩:=h.elim
 exact Eq.mpr (zuyZ _ x1 x2 x5 H K) (round n x1 x2 x5 H (fun X H' => ∃ m,m < n∧LI3 I m X H') (fun m y1 y2 y5 H' hm hi => ⟨m,hm,hi⟩) h)
def zoaZ (a0 a1 : AV) (H : AH) (K : AV→AH→Prop) : Prop :=
bH (anew H a0) fun v0 H1 =>
zosZ a1 v0 (.lit (.int .i64 0)) H1 K
theorem salvorref11_named_eq (a0 a1 : AV) (H : AH) (K : AV→AH→Prop) : sFun Tryz.prog zpaZ pqb none0 none0 zorZ Tryz.f137 [a0,a1] H K=zoaZ a0 a1 H K:=by kernel_rfl
theorem salvorref11_named_ok {a0 a1 : AV} {H : AH} {K : AV→AH→Prop} (h : zoaZ a0 a1 H K) : ∃ r H',K r H'∧BCall Tryz.prog 137 [a0,a1] H r H' :=
 sFun_ok mixP Tryz.func137 (by kernel_rfl) (Eq.mpr (salvorref11_named_eq a0 a1 H K) h)
def zqoZ : Floats:=flOf []
def zqvZ : Nat→Option (List Bool):=kpOf [(3,mk 22 0 [1,2,5])]
def zhuZ (p : List Bool) (n : Nat) : List AV→AH→Kf→Prop:=sCode Tryz.prog zqoZ pqb none0 none0 zqvZ (sub p (bodyOf Tryz.f174)) n
def zqtZ (x1 x2 x5 : AV) (H : AH) (K : AV→AH→Prop) : Prop:=lp (mk 22 0 [1,2,5]) (zhuZ [true,false,true,false,false] 4) [x1,x2,x5] H (kBlk 0 (kSeq (zhuZ [true,true] 9) (kRet Tryz.prog Tryz.f174.results.toList K)))
def zicZ (R3 : List AV→AH→Prop) (x1 x2 x5 : AV) (H : AH) (K : AV→AH→Prop) : Prop :=
bO (ashift 1 x2) fun v0 =>
bO (ald false 1 H v0) fun v1 =>
bO (alnS v1) fun v2 =>
bO (abI .lss x5 v2) fun v3 =>
bB v3 fun t4 => bI t4 (
bO (ashift 1 x2) fun v5 =>
bO (ald false 1 H v5) fun v6 =>
bO (aixS 3 v6 x5) fun v7 =>
bO (ashift 0 v7) fun v8 =>
bO (ald false 1 H v8) fun v9 =>
bO (abI .eql v9 x1) fun v10 =>
bB v10 fun t11 => bI t11 (
K x5 H)
 (bO (abI .add x5 (.lit (.int .i64 1))) fun v12 =>
R3 [x1,x2,v12] H))
 (K (.lit (.int .i64 (-1))) H)
theorem zvvZ (R3 : List AV→AH→Prop) (x1 x2 x5 : AV) (H : AH) (K : AV→AH→Prop) : zhuZ [true,false,true,false,false] 4 (expand (mk 22 0 [1,2,5]) [x1,x2,x5]) H (kLp (mk 22 0 [1,2,5]) R3 (kBlk 0 (kSeq (zhuZ [true,true] 9) (kRet Tryz.prog Tryz.f174.results.toList K))))=zicZ R3 x1 x2 x5 H K:=by kernel_rfl
theorem ztpZ {K : AV→AH→Prop} (I : Nat→AV→AV→AV→AH→Prop) (round : ∀ (n : Nat) (x1 x2 x5 : AV) (H : AH) (R : List AV→AH→Prop),(∀ (m : Nat) (y1 y2 y5 : AV) (H' : AH),m < n→I m y1 y2 y5 H'→R [y1,y2,y5] H')→I n x1 x2 x5 H→zicZ R x1 x2 x5 H K) (n : Nat) {x1 x2 x5 : AV} {H : AH} (h : I n x1 x2 x5 H) : zqtZ x1 x2 x5 H K:=by
 refine lp_upto (zsZ _ _) (LI3 I) ?_ n h
 intro n X H h
 obtain ⟨x1,x2,x5,rfl,h⟩:=h.elim
 exact Eq.mpr (zvvZ _ x1 x2 x5 H K) (round n x1 x2 x5 H (fun X H' => ∃ m,m < n∧LI3 I m X H') (fun m y1 y2 y5 H' hm hi => ⟨m,hm,hi⟩) h)
def zpvZ (a0 a1 : AV) (H : AH) (K : AV→AH→Prop) : Prop :=
bH (anew H a0) fun v0 H1 =>
zqtZ a1 v0 (.lit (.int .i64 0)) H1 K
theorem salvorref11_node_eq (a0 a1 : AV) (H : AH) (K : AV→AH→Prop) : sFun Tryz.prog zqoZ pqb none0 none0 zqvZ Tryz.f174 [a0,a1] H K=zpvZ a0 a1 H K:=by kernel_rfl
theorem salvorref11_node_ok {a0 a1 : AV} {H : AH} {K : AV→AH→Prop} (h : zpvZ a0 a1 H K) : ∃ r H',K r H'∧BCall Tryz.prog 174 [a0,a1] H r H' :=
 sFun_ok mixP Tryz.func174 (by kernel_rfl) (Eq.mpr (salvorref11_node_eq a0 a1 H K) h)
def znyZ : Floats:=flOf []
def zogZ : Nat→Option (List Bool):=kpOf [(2,mk 53 0 [0,1,2,6])]
def zfnZ (p : List Bool) (n : Nat) : List AV→AH→Kf→Prop:=sCode Tryz.prog znyZ pqb none0 none0 zogZ (sub p (bodyOf Tryz.f175)) n
def znxZ (x0 x1 x2 x6 : AV) (H : AH) (K : AV→AH→Prop) : Prop:=lp (mk 53 0 [0,1,2,6]) (zfnZ [true,false,false,false] 3) [x0,x1,x2,x6] H (kBlk 0 (kSeq (zfnZ [true,true] 5) (kRet Tryz.prog Tryz.f175.results.toList K)))
def zgiZ (R2 : List AV→AH→Prop) (x0 x1 x2 x6 : AV) (H : AH) (K : AV→AH→Prop) : Prop :=
bO (zcZ x0) fun v0 =>
bO (ashift 0 v0) fun v1 =>
bO (ald false 1 H v1) fun v2 =>
bO (alnS v2) fun v3 =>
bO (abI .lss x6 v3) fun v4 =>
bG v4 true fun w5 =>
gO w5 (some x0) fun v6 =>
bG v4 true fun w7 =>
gO w7 (zcZ v6) fun v8 =>
bG v4 true fun w9 =>
gO w9 (ashift 0 v8) fun v10 =>
bG v4 true fun w11 =>
gO w11 (ald false 1 H v10) fun v12 =>
bG v4 true fun w13 =>
gO w13 (some x6) fun v14 =>
bG v4 true fun w15 =>
gO w15 (aixS 2 v12 v14) fun v16 =>
bG v4 true fun w17 =>
gO w17 (ashift 0 v16) fun v18 =>
bG v4 true fun w19 =>
gO w19 (ald false 1 H v18) fun v20 =>
bG v4 true fun w21 =>
gO w21 (some x1) fun v22 =>
bG v4 true fun w23 =>
gO w23 (abT .lss v20 v22) fun v24 =>
bO (apick v4 v24 (.lit (.bool false))) fun v25 =>
bB v25 fun t26 => bI t26 (
bO (abI .add x6 (.lit (.int .i64 1))) fun v27 =>
R2 [x0,x1,x2,v27] H)
 (bO (zcZ x0) fun v28 =>
bO (ashift 0 v28) fun v29 =>
bO (ald false 1 H v29) fun v30 =>
bO (aslS 2 v30 none (some x6) none) fun v31 =>
bH (aap 2 24 H (.lit (.slice none 0 0)) v31) fun v32 H33 =>
bO (abl [(.lit (.string ⟨#[]⟩)),(.lit (.int .i64 0))] [(0,1,x1),(1,1,x2)]) fun v34 =>
bH (absl H33 2 1 (zrow [(.lit (.string ⟨#[]⟩)),(.lit (.int .i64 0))] 1) [(0,2,v34)]) fun v35 H36 =>
bH (aap 2 24 H36 v32 v35) fun v37 H38 =>
bO (zcZ x0) fun v39 =>
bO (ashift 0 v39) fun v40 =>
bO (ald false 1 H38 v40) fun v41 =>
bO (aslS 2 v41 (some x6) none none) fun v42 =>
bH (aap 2 24 H38 v37 v42) fun v43 H44 =>
bO (zcZ x0) fun v45 =>
bO (ashift 0 v45) fun v46 =>
bS (ast 1 H44 v46 v43) fun H47 =>
K (.tup []) H47)
theorem ztrZ (R2 : List AV→AH→Prop) (x0 x1 x2 x6 : AV) (H : AH) (K : AV→AH→Prop) : zfnZ [true,false,false,false] 3 (expand (mk 53 0 [0,1,2,6]) [x0,x1,x2,x6]) H (kLp (mk 53 0 [0,1,2,6]) R2 (kBlk 0 (kSeq (zfnZ [true,true] 5) (kRet Tryz.prog Tryz.f175.results.toList K))))=zgiZ R2 x0 x1 x2 x6 H K:=by kernel_rfl
theorem zreZ {K : AV→AH→Prop} (I : Nat→AV→AV→AV→AV→AH→Prop) (round : ∀ (n : Nat) (x0 x1 x2 x6 : AV) (H : AH) (R : List AV→AH→Prop),(∀ (m : Nat) (y0 y1 y2 y6 : AV) (H' : AH),m < n→I m y0 y1 y2 y6 H'→R [y0,y1,y2,y6] H')→I n x0 x1 x2 x6 H→zgiZ R x0 x1 x2 x6 H K) (n : Nat) {x0 x1 x2 x6 : AV} {H : AH} (h : I n x0 x1 x2 x6 H) : znxZ x0 x1 x2 x6 H K:=by
 refine lp_upto (zsZ _ _) (LI4 I) ?_ n h
 intro n X H h
 obtain ⟨x0,x1,x2,x6,rfl,h⟩:=h.elim
 exact Eq.mpr (ztrZ _ x0 x1 x2 x6 H K) (round n x0 x1 x2 x6 H (fun X H' => ∃ m,m < n∧LI4 I m X H') (fun m y0 y1 y2 y6 H' hm hi => ⟨m,hm,hi⟩) h)
def zmiZ (a0 a1 a2 : AV) (H : AH) (K : AV→AH→Prop) : Prop :=
znxZ a0 a1 a2 (.lit (.int .i64 0)) H K
theorem zwfZ (a0 a1 a2 : AV) (H : AH) (K : AV→AH→Prop) : sFun Tryz.prog znyZ pqb none0 none0 zogZ Tryz.f175 [a0,a1,a2] H K=zmiZ a0 a1 a2 H K:=by kernel_rfl
theorem zwdZ {a0 a1 a2 : AV} {H : AH} {K : AV→AH→Prop} (h : zmiZ a0 a1 a2 H K) : ∃ r H',K r H'∧BCall Tryz.prog 175 [a0,a1,a2] H r H' :=
 sFun_ok mixP Tryz.func175 (by kernel_rfl) (Eq.mpr (zwfZ a0 a1 a2 H K) h)
def salvorref11_gone_fl : Floats:=flOf [(2,[(11,none),(14,none)]),(5,[(11,none),(14,none)])]
def salvorref11_gone_kp : Nat→Option (List Bool):=kpOf []
def zpjZ (a0 a1 a2 : AV) (H : AH) (K : AV→AH→Prop) : Prop :=
bO (zcZ a0) fun v0 =>
bO (ald true 2 H v0) fun v1 =>
bP (PCall Tryz.prog 137 [v1,a1] H) fun v2 =>
bO (zcZ a0) fun v3 =>
bO (ashift 0 v3) fun v4 =>
bO (ald false 1 H v4) fun v5 =>
bO (aixS 2 v5 v2) fun v6 =>
bO (ashift 1 v6) fun v7 =>
bO (ald false 1 H v7) fun v8 =>
bO (zcZ a0) fun v9 =>
bO (ashift 0 v9) fun v10 =>
bO (ald false 1 H v10) fun v11 =>
bO (aslS 2 v11 none (some v2) none) fun v12 =>
bH (aap 2 24 H (.lit (.slice none 0 0)) v12) fun v13 H14 =>
bO (zcZ a0) fun v15 =>
bO (ashift 0 v15) fun v16 =>
bO (ald false 1 H14 v16) fun v17 =>
bO (abI .add v2 (.lit (.int .i64 1))) fun v18 =>
bO (aslS 2 v17 (some v18) none none) fun v19 =>
bH (aap 2 24 H14 v13 v19) fun v20 H21 =>
bO (zcZ a0) fun v22 =>
bO (ashift 0 v22) fun v23 =>
bS (ast 1 H21 v23 v20) fun H24 =>
(ald false 1 H v16=some v17) ∧
(aslS 2 v17 (some v18) none none=some v19) ∧
bO (zcZ a0) fun v25 =>
bO (ald true 2 H24 v25) fun v26 =>
bP (PCall Tryz.prog 174 [v26,v8] H24) fun v27 =>
bB a2 fun t28 => bI t28 (
bO (zcZ a0) fun v29 =>
bO (ashift 1 v29) fun v30 =>
bO (ald false 1 H24 v30) fun v31 =>
bO (aslS 3 v31 none (some v27) none) fun v32 =>
bH (aap 3 40 H24 (.lit (.slice none 0 0)) v32) fun v33 H34 =>
bO (zcZ a0) fun v35 =>
bO (ashift 1 v35) fun v36 =>
bO (ald false 1 H34 v36) fun v37 =>
bO (abI .add v27 (.lit (.int .i64 1))) fun v38 =>
bO (aslS 3 v37 (some v38) none none) fun v39 =>
bH (aap 3 40 H34 v33 v39) fun v40 H41 =>
bO (zcZ a0) fun v42 =>
bO (ashift 1 v42) fun v43 =>
bS (ast 1 H41 v43 v40) fun H44 =>
(ald false 1 H24 v36=some v37) ∧
(aslS 3 v37 (some v38) none none=some v39) ∧
K (.tup []) H44)
 (K (.tup []) H24)
theorem salvorref11_gone_eq (a0 a1 a2 : AV) (H : AH) (K : AV→AH→Prop) : sFun Tryz.prog salvorref11_gone_fl pqb none0 none0 salvorref11_gone_kp Tryz.f176 [a0,a1,a2] H K=zpjZ a0 a1 a2 H K:=by kernel_rfl
theorem salvorref11_gone_ok {a0 a1 a2 : AV} {H : AH} {K : AV→AH→Prop} (h : zpjZ a0 a1 a2 H K) : ∃ r H',K r H'∧BCall Tryz.prog 176 [a0,a1,a2] H r H' :=
 sFun_ok mixP Tryz.func176 (by kernel_rfl) (Eq.mpr (salvorref11_gone_eq a0 a1 a2 H K) h)
def zwsZ : Floats:=flOf []
def zwjZ : Nat→Option (List Bool):=kpOf []
def zcfZ (a0 a1 : AV) (H : AH) (K : AV→AH→Prop) : Prop :=
bH (anew H a0) fun v0 H1 =>
bH (anew H1 a1) fun v2 H3 =>
bH (anew H3 (.agg [(.lit (.int .i64 0)),(.lit (.slice none 0 0))])) fun v4 H5 =>
bO (ashift 0 v2) fun v6 =>
bO (ald false 1 H5 v6) fun v7 =>
bO (abI .eql v7 (.lit (.int .i64 2))) fun v8 =>
bB v8 fun t9 => bI t9 (
bO (ald true 2 H5 v0) fun v10 =>
bO (ashift 2 v2) fun v11 =>
bO (ald false 1 H5 v11) fun v12 =>
bO (ashift 7 v2) fun v13 =>
bO (ald false 1 H5 v13) fun v14 =>
bP (PCall Tryz.prog 130 [v10,v12,v14] H5) fun v15 =>
bO (zkZ v15 0) fun v16 =>
bO (zkZ v15 1) fun v17 =>
bS (ast 2 H5 v4 v16) fun H18 =>
bO (ald true 2 H18 v4) fun v19 =>
K (.tup [v19,v17]) H18)
 (bO (abI .eql v7 (.lit (.int .i64 3))) fun v20 =>
bB v20 fun t21 => bI t21 (
bO (ald true 2 H5 v0) fun v22 =>
bO (ashift 3 v2) fun v23 =>
bO (ald false 1 H5 v23) fun v24 =>
bP (PCall Tryz.prog 134 [v22,v24] H5) fun v25 =>
bO (zkZ v25 0) fun v26 =>
bO (zkZ v25 1) fun v27 =>
bS (ast 2 H5 v4 v26) fun H28 =>
bO (ald true 2 H28 v4) fun v29 =>
K (.tup [v29,v27]) H28)
 (bO (abI .eql v7 (.lit (.int .i64 4))) fun v30 =>
bB v30 fun t31 => bI t31 (
bO (ald true 2 H5 v0) fun v32 =>
bO (ashift 2 v2) fun v33 =>
bO (ald false 1 H5 v33) fun v34 =>
bO (ashift 3 v2) fun v35 =>
bO (ald false 1 H5 v35) fun v36 =>
bO (ashift 4 v2) fun v37 =>
bO (ald false 1 H5 v37) fun v38 =>
bP (PCall Tryz.prog 135 [v32,v34,v36,v38] H5) fun v39 =>
bO (zkZ v39 0) fun v40 =>
bO (zkZ v39 1) fun v41 =>
bS (ast 2 H5 v4 v40) fun H42 =>
bO (ald true 2 H42 v4) fun v43 =>
K (.tup [v43,v41]) H42)
 (bO (abI .eql v7 (.lit (.int .i64 5))) fun v44 =>
bB v44 fun t45 => bI t45 (
bO (ald true 2 H5 v0) fun v46 =>
bO (ashift 2 v2) fun v47 =>
bO (ald false 1 H5 v47) fun v48 =>
bO (ashift 3 v2) fun v49 =>
bO (ald false 1 H5 v49) fun v50 =>
bP (PCall Tryz.prog 136 [v46,v48,v50] H5) fun v51 =>
bO (zkZ v51 0) fun v52 =>
bO (zkZ v51 1) fun v53 =>
bS (ast 2 H5 v4 v52) fun H54 =>
bO (ald true 2 H54 v4) fun v55 =>
K (.tup [v55,v53]) H54)
 (bO (abl [(.lit (.int .i64 0)),(.lit (.slice none 0 0))] []) fun v56 =>
bS (ast 2 H5 v4 v56) fun H57 =>
bO (ald true 2 H57 v4) fun v58 =>
K (.tup [v58,(.lit (.bool false))]) H57))))
theorem zwlZ (a0 a1 : AV) (H : AH) (K : AV→AH→Prop) : sFun Tryz.prog zwsZ pqb none0 none0 zwjZ Tryz.f177 [a0,a1] H K=zcfZ a0 a1 H K:=by kernel_rfl
theorem zwtZ {a0 a1 : AV} {H : AH} {K : AV→AH→Prop} (h : zcfZ a0 a1 H K) : ∃ r H',K r H'∧BCall Tryz.prog 177 [a0,a1] H r H' :=
 sFun_ok mixP Tryz.func177 (by kernel_rfl) (Eq.mpr (zwlZ a0 a1 H K) h)
def image_names_fl : Floats:=flOf []
def image_names_kp : Nat→Option (List Bool):=kpOf [(7,mk 58 0 [0,4,11,12,13])]
def zsbZ (p : List Bool) (n : Nat) : List AV→AH→Kf→Prop:=sCode Tryz.prog image_names_fl pqb none0 none0 image_names_kp (sub p (bodyOf Tryz.f146)) n
def image_names_L7 (x0 x4 x11 x12 x13 : AV) (H : AH) (K : AV→AH→Prop) : Prop:=lp (mk 58 0 [0,4,11,12,13]) (zsbZ [true,true,true,false,true,false,false] 8) [x0,x4,x11,x12,x13] H (kBlk 0 (kSeq (zsbZ [true,true,true,true] 15) (kRet Tryz.prog Tryz.f146.results.toList K)))
def zpoZ (R7 : List AV→AH→Prop) (x0 x4 x11 x12 x13 : AV) (H : AH) (K : AV→AH→Prop) : Prop :=
bO (abI .lss x13 x12) fun v0 =>
bB v0 fun t1 => bI t1 (
bO (aixS 2 x11 x13) fun v2 =>
bO (ald true 2 H v2) fun v3 =>
bH (anew H (.agg [(.lit (.string ⟨#[]⟩)),(.lit (.int .i64 0))])) fun v4 H5 =>
bS (ast 2 H5 v4 v3) fun H6 =>
bO (ashift 0 v4) fun v7 =>
bO (ald false 1 H6 v7) fun v8 =>
bP (BPure Tryz.prog 70 [v8]) fun v9 =>
bO (aun .not v9) fun v10 =>
bG v10 false fun w11 =>
gO w11 (some x13) fun v12 =>
bG v10 false fun w13 =>
gO w13 (abI .gtr v12 (.lit (.int .i64 0))) fun v14 =>
bG v10 false fun w15 =>
gO w15 (some v14) fun v16 =>
bG v16 true fun w17 =>
gO w17 (some x0) fun v18 =>
bG v16 true fun w19 =>
gO w19 (some x13) fun v20 =>
bG v16 true fun w21 =>
gO w21 (abI .sub v20 (.lit (.int .i64 1))) fun v22 =>
bG v16 true fun w23 =>
gO w23 (aixS 2 v18 v22) fun v24 =>
bG v16 true fun w25 =>
gO w25 (ashift 0 v24) fun v26 =>
bG v16 true fun w27 =>
gO w27 (ald false 1 H6 v26) fun v28 =>
bG v16 true fun w29 =>
gO w29 (ashift 0 v4) fun v30 =>
bG v16 true fun w31 =>
gO w31 (ald false 1 H6 v30) fun v32 =>
bG v16 true fun w33 =>
gO w33 (abT .geq v28 v32) fun v34 =>
bG v10 false fun w35 =>
gO w35 (apick v16 v34 (.lit (.bool false))) fun v36 =>
bO (apick v10 (.lit (.bool true)) v36) fun v37 =>
bG v37 false fun w38 =>
gO w38 (ashift 1 v4) fun v39 =>
bG v37 false fun w40 =>
gO w40 (ald false 1 H6 v39) fun v41 =>
bG v37 false fun w42 =>
gO w42 (abI .lss v41 (.lit (.int .i64 1))) fun v43 =>
bO (apick v37 (.lit (.bool true)) v43) fun v44 =>
bG v44 false fun w45 =>
gO w45 (ashift 1 v4) fun v46 =>
bG v44 false fun w47 =>
gO w47 (ald false 1 H6 v46) fun v48 =>
bG v44 false fun w49 =>
gO w49 (abI .gtr v48 (.lit (.int .i64 4611686018427387904))) fun v50 =>
bO (apick v44 (.lit (.bool true)) v50) fun v51 =>
bG v51 false fun w52 =>
gO w52 (some x4) fun v53 =>
bG v51 false fun w54 =>
gO w54 (ashift 1 v4) fun v55 =>
bG v51 false fun w56 =>
gO w56 (ald false 1 H6 v55) fun v57 =>
bG v51 false fun w58 =>
gO w58 (alk (.int .i64) (.bool false) H6 v53 v57 false) fun v59 =>
bO (apick v51 (.lit (.bool true)) v59) fun v60 =>
bB v60 fun t61 => bI t61 (
K (.tup [(.lit (.map none)),(.lit (.bool false))]) H6)
 (bO (ashift 1 v4) fun v62 =>
bO (ald false 1 H6 v62) fun v63 =>
bS (amu (.int .i64) H6 x4 v63 (.lit (.bool true))) fun H64 =>
bO (abI .add x13 (.lit (.int .i64 1))) fun v65 =>
R7 [x0,x4,x11,x12,v65] H64))
 (K (.tup [x4,(.lit (.bool true))]) H)
theorem image_names_L7_eq (R7 : List AV→AH→Prop) (x0 x4 x11 x12 x13 : AV) (H : AH) (K : AV→AH→Prop) : zsbZ [true,true,true,false,true,false,false] 8 (expand (mk 58 0 [0,4,11,12,13]) [x0,x4,x11,x12,x13]) H (kLp (mk 58 0 [0,4,11,12,13]) R7 (kBlk 0 (kSeq (zsbZ [true,true,true,true] 15) (kRet Tryz.prog Tryz.f146.results.toList K))))=zpoZ R7 x0 x4 x11 x12 x13 H K:=by kernel_rfl
theorem image_names_L7_rule {K : AV→AH→Prop} (I : Nat→AV→AV→AV→AV→AV→AH→Prop) (round : ∀ (n : Nat) (x0 x4 x11 x12 x13 : AV) (H : AH) (R : List AV→AH→Prop),(∀ (m : Nat) (y0 y4 y11 y12 y13 : AV) (H' : AH),m < n→I m y0 y4 y11 y12 y13 H'→R [y0,y4,y11,y12,y13] H')→I n x0 x4 x11 x12 x13 H→zpoZ R x0 x4 x11 x12 x13 H K) (n : Nat) {x0 x4 x11 x12 x13 : AV} {H : AH} (h : I n x0 x4 x11 x12 x13 H) : image_names_L7 x0 x4 x11 x12 x13 H K:=by
 refine lp_upto (zsZ _ _) (LI5 I) ?_ n h
 intro n X H h
 obtain ⟨x0,x4,x11,x12,x13,rfl,h⟩:=h.elim
 exact Eq.mpr (image_names_L7_eq _ x0 x4 x11 x12 x13 H K) (round n x0 x4 x11 x12 x13 H (fun X H' => ∃ m,m < n∧LI5 I m X H') (fun m y0 y4 y11 y12 y13 H' hm hi => ⟨m,hm,hi⟩) h)
def image_names (a0 : AV) (H : AH) (K : AV→AH→Prop) : Prop :=
bO (alnS a0) fun v0 =>
bO (abI .gtr v0 (.lit (.int .i64 16))) fun v1 =>
bB v1 fun t2 => bI t2 (
K (.tup [(.lit (.map none)),(.lit (.bool false))]) H)
 (bH (amkM H none) fun v3 H4 =>
bO (alnS a0) fun v5 =>
image_names_L7 a0 v3 a0 v5 (.lit (.int .i64 0)) H4 K)
theorem image_names_eq (a0 : AV) (H : AH) (K : AV→AH→Prop) : sFun Tryz.prog image_names_fl pqb none0 none0 image_names_kp Tryz.f146 [a0] H K=image_names a0 H K:=by kernel_rfl
theorem image_names_ok {a0 : AV} {H : AH} {K : AV→AH→Prop} (h : image_names a0 H K) : ∃ r H',K r H'∧BCall Tryz.prog 146 [a0] H r H' :=
 sFun_ok mixP Tryz.func146 (by kernel_rfl) (Eq.mpr (image_names_eq a0 H K) h)
def zkjZ : Floats:=flOf []
def zkrZ : Nat→Option (List Bool):=kpOf []
def zcyZ (a0 : AV) (H : AH) (K : AV→AH→Prop) : Prop :=
bO (abN .eql nilS a0 (.lit (.slice none 0 0))) fun v0 =>
bB v0 fun t1 => bI t1 (
K (.lit (.slice none 0 0)) H)
 (bH (absl H 2 0 (zrow [(.lit (.string ⟨#[]⟩)),(.lit (.int .i64 0))] 0) []) fun v2 H3 =>
bH (aap 2 24 H3 v2 a0) fun v4 H5 =>
K v4 H5)
theorem zklZ (a0 : AV) (H : AH) (K : AV→AH→Prop) : sFun Tryz.prog zkjZ pqb none0 none0 zkrZ Tryz.f116 [a0] H K=zcyZ a0 H K:=by kernel_rfl
theorem zknZ {a0 : AV} {H : AH} {K : AV→AH→Prop} (h : zcyZ a0 H K) : ∃ r H',K r H'∧BCall Tryz.prog 116 [a0] H r H' :=
 sFun_ok mixP Tryz.func116 (by kernel_rfl) (Eq.mpr (zklZ a0 H K) h)
def zkqZ : Floats:=flOf []
def zkhZ : Nat→Option (List Bool):=kpOf []
def zdaZ (a0 : AV) (H : AH) (K : AV→AH→Prop) : Prop :=
bO (abN .eql nilS a0 (.lit (.slice none 0 0))) fun v0 =>
bB v0 fun t1 => bI t1 (
K (.lit (.slice none 0 0)) H)
 (bH (absl H 3 0 (zrow [(.lit (.int .i64 0)),(.lit (.int .i64 0)),(.lit (.slice none 0 0))] 0) []) fun v2 H3 =>
bH (aap 3 40 H3 v2 a0) fun v4 H5 =>
K v4 H5)
theorem zkpZ (a0 : AV) (H : AH) (K : AV→AH→Prop) : sFun Tryz.prog zkqZ pqb none0 none0 zkhZ Tryz.f117 [a0] H K=zdaZ a0 H K:=by kernel_rfl
theorem zkgZ {a0 : AV} {H : AH} {K : AV→AH→Prop} (h : zdaZ a0 H K) : ∃ r H',K r H'∧BCall Tryz.prog 117 [a0] H r H' :=
 sFun_ok mixP Tryz.func117 (by kernel_rfl) (Eq.mpr (zkpZ a0 H K) h)
def zbmZ : Floats:=flOf []
def zboZ : Nat→Option (List Bool):=kpOf [(4,mk 49 0 [0,1,2,8,9,10])]
def zmZ (p : List Bool) (n : Nat) : List AV→AH→Kf→Prop:=sCode Tryz.prog zbmZ pqb none0 none0 zboZ (sub p (bodyOf Tryz.f154)) n
def zbnZ (x0 x1 x2 x8 x9 x10 : AV) (H : AH) (K : AV→AH→Prop) : Prop:=lp (mk 49 0 [0,1,2,8,9,10]) (zmZ [true,true,true,false,false,false] 5) [x0,x1,x2,x8,x9,x10] H (kBlk 0 (kSeq (zmZ [true,true,true,true] 9) (kRet Tryz.prog Tryz.f154.results.toList K)))
def ztZ (R4 : List AV→AH→Prop) (x0 x1 x2 x8 x9 x10 : AV) (H : AH) (K : AV→AH→Prop) : Prop :=
bO (abI .lss x9 x10) fun v0 =>
bB v0 fun t1 => bI t1 (
bO (abI .add x9 x10) fun v2 =>
bO (acI .u64 v2) fun v3 =>
bO (abI .shr v3 (.lit (.int .u64 1))) fun v4 =>
bO (acI .i64 v4) fun v5 =>
bO (aixS 2 x0 v5) fun v6 =>
bO (ald true 2 H v6) fun v7 =>
bF true x2 fun k10 f10 c10 =>
bT (goFunc Tryz.prog k10 || !true) <|
bC (BCall Tryz.prog k10 (f10 ++ [v7,x1] ++ c10) H) fun v8 H9 =>
bO (abI .lss v8 (.lit (.int .i64 0))) fun v11 =>
bB v11 fun t12 => bI t12 (
bO (abI .add v5 (.lit (.int .i64 1))) fun v13 =>
R4 [x0,x1,x2,x8,v13,x10] H9)
 (R4 [x0,x1,x2,x8,x9,v5] H9))
 (bO (abI .lss x9 x8) fun v14 =>
bG v14 true fun w15 =>
gO w15 (some x2) fun v16 =>
bG v14 true fun w17 =>
gO w17 (some x0) fun v18 =>
bG v14 true fun w19 =>
gO w19 (some x9) fun v20 =>
bG v14 true fun w21 =>
gO w21 (aixS 2 v18 v20) fun v22 =>
bG v14 true fun w23 =>
gO w23 (ald true 2 H v22) fun v24 =>
bG v14 true fun w25 =>
gO w25 (some x1) fun v26 =>
bG v14 true fun w27 =>
bF w27 v16 fun k30 f30 c30 =>
bT (goFunc Tryz.prog k30 || !w27) <|
gC w27 (BCall Tryz.prog k30 (f30 ++ [v24,v26] ++ c30) H) H fun v28 H29 =>
bG v14 true fun w31 =>
gO w31 (abI .eql v28 (.lit (.int .i64 0))) fun v32 =>
bO (apick v14 v32 (.lit (.bool false))) fun v33 =>
K (.tup [x9,v33]) H29)
theorem zdhZ (R4 : List AV→AH→Prop) (x0 x1 x2 x8 x9 x10 : AV) (H : AH) (K : AV→AH→Prop) : zmZ [true,true,true,false,false,false] 5 (expand (mk 49 0 [0,1,2,8,9,10]) [x0,x1,x2,x8,x9,x10]) H (kLp (mk 49 0 [0,1,2,8,9,10]) R4 (kBlk 0 (kSeq (zmZ [true,true,true,true] 9) (kRet Tryz.prog Tryz.f154.results.toList K))))=ztZ R4 x0 x1 x2 x8 x9 x10 H K:=by kernel_rfl
theorem zczZ {K : AV→AH→Prop} (I : Nat→AV→AV→AV→AV→AV→AV→AH→Prop) (round : ∀ (n : Nat) (x0 x1 x2 x8 x9 x10 : AV) (H : AH) (R : List AV→AH→Prop),(∀ (m : Nat) (y0 y1 y2 y8 y9 y10 : AV) (H' : AH),m < n→I m y0 y1 y2 y8 y9 y10 H'→R [y0,y1,y2,y8,y9,y10] H')→I n x0 x1 x2 x8 x9 x10 H→ztZ R x0 x1 x2 x8 x9 x10 H K) (n : Nat) {x0 x1 x2 x8 x9 x10 : AV} {H : AH} (h : I n x0 x1 x2 x8 x9 x10 H) : zbnZ x0 x1 x2 x8 x9 x10 H K:=by
 refine lp_upto (zsZ _ _) (LI6 I) ?_ n h
 intro n X H h
 obtain ⟨x0,x1,x2,x8,x9,x10,rfl,h⟩:=h.elim
 exact Eq.mpr (zdhZ _ x0 x1 x2 x8 x9 x10 H K) (round n x0 x1 x2 x8 x9 x10 H (fun X H' => ∃ m,m < n∧LI6 I m X H') (fun m y0 y1 y2 y8 y9 y10 H' hm hi => ⟨m,hm,hi⟩) h)
def zyZ (a0 a1 a2 : AV) (H : AH) (K : AV→AH→Prop) : Prop :=
bO (alnS a0) fun v0 =>
zbnZ a0 a1 a2 v0 (.lit (.int .i64 0)) v0 H K
theorem zdvZ (a0 a1 a2 : AV) (H : AH) (K : AV→AH→Prop) : sFun Tryz.prog zbmZ pqb none0 none0 zboZ Tryz.f154 [a0,a1,a2] H K=zyZ a0 a1 a2 H K:=by kernel_rfl
theorem zdtZ {a0 a1 a2 : AV} {H : AH} {K : AV→AH→Prop} (h : zyZ a0 a1 a2 H K) : ∃ r H',K r H'∧BCall Tryz.prog 154 [a0,a1,a2] H r H' :=
 sFun_ok mixP Tryz.func154 (by kernel_rfl) (Eq.mpr (zdvZ a0 a1 a2 H K) h)
def image_named_1_fl : Floats:=flOf []
def image_named_1_kp : Nat→Option (List Bool):=kpOf []
def image_named_1 (a0 a1 : AV) (H : AH) (K : AV→AH→Prop) : Prop :=
bH (anew H a0) fun v0 H1 =>
bO (ashift 0 v0) fun v2 =>
bO (ald false 1 H1 v2) fun v3 =>
bP (PCall Tryz.prog 156 [v3,a1] H1) fun v4 =>
K v4 H1
theorem image_named_1_eq (a0 a1 : AV) (H : AH) (K : AV→AH→Prop) : sFun Tryz.prog image_named_1_fl pqb none0 none0 image_named_1_kp Tryz.f155 [a0,a1] H K=image_named_1 a0 a1 H K:=by kernel_rfl
theorem image_named_1_ok {a0 a1 : AV} {H : AH} {K : AV→AH→Prop} (h : image_named_1 a0 a1 H K) : ∃ r H',K r H'∧BCall Tryz.prog 155 [a0,a1] H r H' :=
 sFun_ok mixP Tryz.func155 (by kernel_rfl) (Eq.mpr (image_named_1_eq a0 a1 H K) h)
def strings_Compare_fl : Floats:=flOf []
def strings_Compare_kp : Nat→Option (List Bool):=kpOf []
def zsqZ (a0 a1 : AV) (H : AH) (K : AV→AH→Prop) : Prop :=
bP (PCall Tryz.prog 183 [a0,a1] H) fun v0 =>
K v0 H
theorem strings_Compare_eq (a0 a1 : AV) (H : AH) (K : AV→AH→Prop) : sFun Tryz.prog strings_Compare_fl pqb none0 none0 strings_Compare_kp Tryz.f156 [a0,a1] H K=zsqZ a0 a1 H K:=by kernel_rfl
theorem strings_Compare_ok {a0 a1 : AV} {H : AH} {K : AV→AH→Prop} (h : zsqZ a0 a1 H K) : ∃ r H',K r H'∧BCall Tryz.prog 156 [a0,a1] H r H' :=
 sFun_ok mixP Tryz.func156 (by kernel_rfl) (Eq.mpr (strings_Compare_eq a0 a1 H K) h)
def zbtZ : Floats:=flOf []
def zbvZ : Nat→Option (List Bool):=kpOf [(4,mk 49 0 [0,1,2,8,9,10])]
def zpZ (p : List Bool) (n : Nat) : List AV→AH→Kf→Prop:=sCode Tryz.prog zbtZ pqb none0 none0 zbvZ (sub p (bodyOf Tryz.f147)) n
def zbuZ (x0 x1 x2 x8 x9 x10 : AV) (H : AH) (K : AV→AH→Prop) : Prop:=lp (mk 49 0 [0,1,2,8,9,10]) (zpZ [true,true,true,false,false,false] 5) [x0,x1,x2,x8,x9,x10] H (kBlk 0 (kSeq (zpZ [true,true,true,true] 9) (kRet Tryz.prog Tryz.f147.results.toList K)))
def zvZ (R4 : List AV→AH→Prop) (x0 x1 x2 x8 x9 x10 : AV) (H : AH) (K : AV→AH→Prop) : Prop :=
bO (abI .lss x9 x10) fun v0 =>
bB v0 fun t1 => bI t1 (
bO (abI .add x9 x10) fun v2 =>
bO (acI .u64 v2) fun v3 =>
bO (abI .shr v3 (.lit (.int .u64 1))) fun v4 =>
bO (acI .i64 v4) fun v5 =>
bO (aixS 3 x0 v5) fun v6 =>
bO (ald true 3 H v6) fun v7 =>
bF true x2 fun k10 f10 c10 =>
bT (goFunc Tryz.prog k10 || !true) <|
bC (BCall Tryz.prog k10 (f10 ++ [v7,x1] ++ c10) H) fun v8 H9 =>
bO (abI .lss v8 (.lit (.int .i64 0))) fun v11 =>
bB v11 fun t12 => bI t12 (
bO (abI .add v5 (.lit (.int .i64 1))) fun v13 =>
R4 [x0,x1,x2,x8,v13,x10] H9)
 (R4 [x0,x1,x2,x8,x9,v5] H9))
 (bO (abI .lss x9 x8) fun v14 =>
bG v14 true fun w15 =>
gO w15 (some x2) fun v16 =>
bG v14 true fun w17 =>
gO w17 (some x0) fun v18 =>
bG v14 true fun w19 =>
gO w19 (some x9) fun v20 =>
bG v14 true fun w21 =>
gO w21 (aixS 3 v18 v20) fun v22 =>
bG v14 true fun w23 =>
gO w23 (ald true 3 H v22) fun v24 =>
bG v14 true fun w25 =>
gO w25 (some x1) fun v26 =>
bG v14 true fun w27 =>
bF w27 v16 fun k30 f30 c30 =>
bT (goFunc Tryz.prog k30 || !w27) <|
gC w27 (BCall Tryz.prog k30 (f30 ++ [v24,v26] ++ c30) H) H fun v28 H29 =>
bG v14 true fun w31 =>
gO w31 (abI .eql v28 (.lit (.int .i64 0))) fun v32 =>
bO (apick v14 v32 (.lit (.bool false))) fun v33 =>
K (.tup [x9,v33]) H29)
theorem zdwZ (R4 : List AV→AH→Prop) (x0 x1 x2 x8 x9 x10 : AV) (H : AH) (K : AV→AH→Prop) : zpZ [true,true,true,false,false,false] 5 (expand (mk 49 0 [0,1,2,8,9,10]) [x0,x1,x2,x8,x9,x10]) H (kLp (mk 49 0 [0,1,2,8,9,10]) R4 (kBlk 0 (kSeq (zpZ [true,true,true,true] 9) (kRet Tryz.prog Tryz.f147.results.toList K))))=zvZ R4 x0 x1 x2 x8 x9 x10 H K:=by kernel_rfl
theorem zdjZ {K : AV→AH→Prop} (I : Nat→AV→AV→AV→AV→AV→AV→AH→Prop) (round : ∀ (n : Nat) (x0 x1 x2 x8 x9 x10 : AV) (H : AH) (R : List AV→AH→Prop),(∀ (m : Nat) (y0 y1 y2 y8 y9 y10 : AV) (H' : AH),m < n→I m y0 y1 y2 y8 y9 y10 H'→R [y0,y1,y2,y8,y9,y10] H')→I n x0 x1 x2 x8 x9 x10 H→zvZ R x0 x1 x2 x8 x9 x10 H K) (n : Nat) {x0 x1 x2 x8 x9 x10 : AV} {H : AH} (h : I n x0 x1 x2 x8 x9 x10 H) : zbuZ x0 x1 x2 x8 x9 x10 H K:=by
 refine lp_upto (zsZ _ _) (LI6 I) ?_ n h
 intro n X H h
 obtain ⟨x0,x1,x2,x8,x9,x10,rfl,h⟩:=h.elim
 exact Eq.mpr (zdwZ _ x0 x1 x2 x8 x9 x10 H K) (round n x0 x1 x2 x8 x9 x10 H (fun X H' => ∃ m,m < n∧LI6 I m X H') (fun m y0 y1 y2 y8 y9 y10 H' hm hi => ⟨m,hm,hi⟩) h)
def zbgZ (a0 a1 a2 : AV) (H : AH) (K : AV→AH→Prop) : Prop :=
bO (alnS a0) fun v0 =>
zbuZ a0 a1 a2 v0 (.lit (.int .i64 0)) v0 H K
theorem zenZ (a0 a1 a2 : AV) (H : AH) (K : AV→AH→Prop) : sFun Tryz.prog zbtZ pqb none0 none0 zbvZ Tryz.f147 [a0,a1,a2] H K=zbgZ a0 a1 a2 H K:=by kernel_rfl
theorem zeoZ {a0 a1 a2 : AV} {H : AH} {K : AV→AH→Prop} (h : zbgZ a0 a1 a2 H K) : ∃ r H',K r H'∧BCall Tryz.prog 147 [a0,a1,a2] H r H' :=
 sFun_ok mixP Tryz.func147 (by kernel_rfl) (Eq.mpr (zenZ a0 a1 a2 H K) h)
def image_node_1_fl : Floats:=flOf []
def image_node_1_kp : Nat→Option (List Bool):=kpOf []
def image_node_1 (a0 a1 : AV) (H : AH) (K : AV→AH→Prop) : Prop :=
bH (anew H a0) fun v0 H1 =>
bO (ashift 0 v0) fun v2 =>
bO (ald false 1 H1 v2) fun v3 =>
bP (PCall Tryz.prog 149 [v3,a1] H1) fun v4 =>
K v4 H1
theorem image_node_1_eq (a0 a1 : AV) (H : AH) (K : AV→AH→Prop) : sFun Tryz.prog image_node_1_fl pqb none0 none0 image_node_1_kp Tryz.f148 [a0,a1] H K=image_node_1 a0 a1 H K:=by kernel_rfl
theorem image_node_1_ok {a0 a1 : AV} {H : AH} {K : AV→AH→Prop} (h : image_node_1 a0 a1 H K) : ∃ r H',K r H'∧BCall Tryz.prog 148 [a0,a1] H r H' :=
 sFun_ok mixP Tryz.func148 (by kernel_rfl) (Eq.mpr (image_node_1_eq a0 a1 H K) h)
def zjwZ : Floats:=flOf []
def zjpZ : Nat→Option (List Bool):=kpOf []
def zjsZ : Nat→Bool:=inL []
def zfcZ (a0 a1 a2 : AV) (H : AH) (K : AV→AH→Prop) : Prop :=
bO (aslS 2 a0 (some a1) none none) fun v0 =>
bO (alnS a2) fun v1 =>
bO (abI .eql v1 (.lit (.int .i64 0))) fun v2 =>
bB v2 fun t3 => bI t3 (
K a0 H)
 (bO (alnS a0) fun v4 =>
bO (abI .eql a1 v4) fun v5 =>
bB v5 fun t6 => bI t6 (
bH (aap 2 24 H a0 a2) fun v7 H8 =>
K v7 H8)
 (bO (abI .add v4 v1) fun v9 =>
bO (acpS a0) fun v10 =>
bO (abI .gtr v9 v10) fun v11 =>
bB v11 fun t12 => bI t12 (
bO (aslS 2 a0 none (some a1) none) fun v13 =>
bO (abI .add v4 v1) fun v14 =>
bO (abI .sub v14 a1) fun v15 =>
bH (aappZ1 H 2 24 [(.lit (.string ⟨#[]⟩)),(.lit (.int .i64 0))] v13 v15) fun v16 H17 =>
bO (aslS 2 v16 (some a1) none none) fun v18 =>
bH (acp 2 H17 v18 a2) fun v19 H20 =>
bO (abI .add a1 v1) fun v21 =>
bO (aslS 2 v16 (some v21) none none) fun v22 =>
bO (aslS 2 a0 (some a1) none none) fun v23 =>
bH (acp 2 H20 v22 v23) fun v24 H25 =>
K v16 H25)
 (bO (abI .add v4 v1) fun v26 =>
bO (aslS 2 a0 none (some v26) none) fun v27 =>
bO (abI .add a1 v1) fun v28 =>
bO (aslS 2 v27 (some v28) none none) fun v29 =>
bP (ExtR Tryz.prog 190 [a2,v29] H) fun v30 =>
bO (aun .not v30) fun v31 =>
bB v31 fun t32 => bI t32 (
bO (abI .add a1 v1) fun v33 =>
bO (aslS 2 v27 (some v33) none none) fun v34 =>
bO (aslS 2 v27 (some a1) none none) fun v35 =>
bH (acp 2 H v34 v35) fun v36 H37 =>
bO (aslS 2 v27 (some a1) none none) fun v38 =>
bH (acp 2 H37 v38 a2) fun v39 H40 =>
K v27 H40)
 (bO (aslS 2 v27 (some v4) none none) fun v41 =>
bH (acp 2 H v41 a2) fun v42 H43 =>
bO (aslS 2 v27 (some a1) none none) fun v44 =>
bC (BCall Tryz.prog 191 [v44,v1] H43) fun v45 H46 =>
K v27 H46))))
theorem zjkZ (a0 a1 a2 : AV) (H : AH) (K : AV→AH→Prop) : sFun Tryz.prog zjwZ pqb pqba zjsZ zjpZ Tryz.f166 [a0,a1,a2] H K=zfcZ a0 a1 a2 H K:=by kernel_rfl
theorem zkfZ {a0 a1 a2 : AV} {H : AH} {K : AV→AH→Prop} (h : zfcZ a0 a1 a2 H K) : ACalls Tryz.prog 166 [a0,a1,a2] H K :=
 sFun_wp mixP Tryz.func166 (by kernel_rfl) (Eq.mpr (zjkZ a0 a1 a2 H K) h)
def zkdZ : Floats:=flOf []
def zjnZ : Nat→Option (List Bool):=kpOf []
def zjuZ : Nat→Bool:=inL []
def zfdZ (a0 a1 a2 : AV) (H : AH) (K : AV→AH→Prop) : Prop :=
bO (aslS 3 a0 (some a1) none none) fun v0 =>
bO (alnS a2) fun v1 =>
bO (abI .eql v1 (.lit (.int .i64 0))) fun v2 =>
bB v2 fun t3 => bI t3 (
K a0 H)
 (bO (alnS a0) fun v4 =>
bO (abI .eql a1 v4) fun v5 =>
bB v5 fun t6 => bI t6 (
bH (aap 3 40 H a0 a2) fun v7 H8 =>
K v7 H8)
 (bO (abI .add v4 v1) fun v9 =>
bO (acpS a0) fun v10 =>
bO (abI .gtr v9 v10) fun v11 =>
bB v11 fun t12 => bI t12 (
bO (aslS 3 a0 none (some a1) none) fun v13 =>
bO (abI .add v4 v1) fun v14 =>
bO (abI .sub v14 a1) fun v15 =>
bH (aappZ1 H 3 40 [(.lit (.int .i64 0)),(.lit (.int .i64 0)),(.lit (.slice none 0 0))] v13 v15) fun v16 H17 =>
bO (aslS 3 v16 (some a1) none none) fun v18 =>
bH (acp 3 H17 v18 a2) fun v19 H20 =>
bO (abI .add a1 v1) fun v21 =>
bO (aslS 3 v16 (some v21) none none) fun v22 =>
bO (aslS 3 a0 (some a1) none none) fun v23 =>
bH (acp 3 H20 v22 v23) fun v24 H25 =>
K v16 H25)
 (bO (abI .add v4 v1) fun v26 =>
bO (aslS 3 a0 none (some v26) none) fun v27 =>
bO (abI .add a1 v1) fun v28 =>
bO (aslS 3 v27 (some v28) none none) fun v29 =>
bP (ExtR Tryz.prog 192 [a2,v29] H) fun v30 =>
bO (aun .not v30) fun v31 =>
bB v31 fun t32 => bI t32 (
bO (abI .add a1 v1) fun v33 =>
bO (aslS 3 v27 (some v33) none none) fun v34 =>
bO (aslS 3 v27 (some a1) none none) fun v35 =>
bH (acp 3 H v34 v35) fun v36 H37 =>
bO (aslS 3 v27 (some a1) none none) fun v38 =>
bH (acp 3 H37 v38 a2) fun v39 H40 =>
K v27 H40)
 (bO (aslS 3 v27 (some v4) none none) fun v41 =>
bH (acp 3 H v41 a2) fun v42 H43 =>
bO (aslS 3 v27 (some a1) none none) fun v44 =>
bC (BCall Tryz.prog 193 [v44,v1] H43) fun v45 H46 =>
K v27 H46))))
theorem ziuZ (a0 a1 a2 : AV) (H : AH) (K : AV→AH→Prop) : sFun Tryz.prog zkdZ pqb pqba zjuZ zjnZ Tryz.f167 [a0,a1,a2] H K=zfdZ a0 a1 a2 H K:=by kernel_rfl
theorem ziyZ {a0 a1 a2 : AV} {H : AH} {K : AV→AH→Prop} (h : zfdZ a0 a1 a2 H K) : ACalls Tryz.prog 167 [a0,a1,a2] H K :=
 sFun_wp mixP Tryz.func167 (by kernel_rfl) (Eq.mpr (ziuZ a0 a1 a2 H K) h)
def zjgZ : Floats:=flOf []
def zixZ : Nat→Option (List Bool):=kpOf []
def zcsZ (a0 a1 a2 : AV) (H : AH) (K : AV→AH→Prop) : Prop :=
bO (alnS a0) fun v0 =>
bO (aslS 2 a0 (some a1) (some a2) (some v0)) fun v1 =>
bO (abI .eql a1 a2) fun v2 =>
bB v2 fun t3 => bI t3 (
K a0 H)
 (bO (alnS a0) fun v4 =>
bO (aslS 2 a0 none (some a1) none) fun v5 =>
bO (aslS 2 a0 (some a2) none none) fun v6 =>
bH (aap 2 24 H v5 v6) fun v7 H8 =>
bO (alnS v7) fun v9 =>
bO (aslS 2 v7 (some v9) (some v4) none) fun v10 =>
bS (acl [(.lit (.string ⟨#[]⟩)),(.lit (.int .i64 0))] H8 v10) fun H11 =>
K v7 H11)
theorem ziwZ (a0 a1 a2 : AV) (H : AH) (K : AV→AH→Prop) : sFun Tryz.prog zjgZ pqb none0 none0 zixZ Tryz.f168 [a0,a1,a2] H K=zcsZ a0 a1 a2 H K:=by kernel_rfl
theorem zkcZ {a0 a1 a2 : AV} {H : AH} {K : AV→AH→Prop} (h : zcsZ a0 a1 a2 H K) : ∃ r H',K r H'∧BCall Tryz.prog 168 [a0,a1,a2] H r H' :=
 sFun_ok mixP Tryz.func168 (by kernel_rfl) (Eq.mpr (ziwZ a0 a1 a2 H K) h)
def zjvZ : Floats:=flOf []
def zjmZ : Nat→Option (List Bool):=kpOf []
def zcoZ (a0 a1 a2 : AV) (H : AH) (K : AV→AH→Prop) : Prop :=
bO (alnS a0) fun v0 =>
bO (aslS 3 a0 (some a1) (some a2) (some v0)) fun v1 =>
bO (abI .eql a1 a2) fun v2 =>
bB v2 fun t3 => bI t3 (
K a0 H)
 (bO (alnS a0) fun v4 =>
bO (aslS 3 a0 none (some a1) none) fun v5 =>
bO (aslS 3 a0 (some a2) none none) fun v6 =>
bH (aap 3 40 H v5 v6) fun v7 H8 =>
bO (alnS v7) fun v9 =>
bO (aslS 3 v7 (some v9) (some v4) none) fun v10 =>
bS (acl [(.lit (.int .i64 0)),(.lit (.int .i64 0)),(.lit (.slice none 0 0))] H8 v10) fun H11 =>
K v7 H11)
theorem zjtZ (a0 a1 a2 : AV) (H : AH) (K : AV→AH→Prop) : sFun Tryz.prog zjvZ pqb none0 none0 zjmZ Tryz.f169 [a0,a1,a2] H K=zcoZ a0 a1 a2 H K:=by kernel_rfl
theorem zkeZ {a0 a1 a2 : AV} {H : AH} {K : AV→AH→Prop} (h : zcoZ a0 a1 a2 H K) : ∃ r H',K r H'∧BCall Tryz.prog 169 [a0,a1,a2] H r H' :=
 sFun_ok mixP Tryz.func169 (by kernel_rfl) (Eq.mpr (zjtZ a0 a1 a2 H K) h)
end Go.Proofs.YtlhiaihmkjlaaaaGreat.Av
end
section
namespace Go.Proofs.YtlhiaihmkjlaaaaGreat.Av
open Go Go.RowKit
structure Nm where
 name : List UInt8
 ino : Int
 deriving DecidableEq
def encN (x : Nm) : List AV:=[S (bstr x.name),I x.ino]
theorem zfbZ (x : Nm) : (encN x).length=2:=rfl
theorem noIdss_encN (x : Nm) : noIdss (encN x)=true:=rfl
structure Nd where
 ino : Int
 size : Int
 l : List Ext
 deriving DecidableEq
structure NdV where
 nd : Nd
 R : AV
 h : SV encE 9 nd.l R
abbrev NdV.ino (x : NdV) : Int:=x.nd.ino
def encD (x : NdV) : List AV:=[I x.nd.ino,I x.nd.size,x.R]
theorem zeyZ (x : NdV) : (encD x).length=3:=rfl
theorem noIdss_encD (x : NdV) : noIdss (encD x)=true:=by simp [encD,noIdss,noIds,x.h.1]
theorem encN_0 (x : Nm) (t : List AV) : (encN x ++ t)[0]? = some (S (bstr x.name)):=rfl
theorem encN_1 (x : Nm) (t : List AV) : (encN x ++ t)[1]? = some (I x.ino):=rfl
theorem encD_0 (x : NdV) (t : List AV) : (encD x ++ t)[0]? = some (I x.nd.ino):=rfl
theorem encD_c (x : NdV) (t : List AV) : rdCells true 2 (encD x ++ t) 1=some (.agg [I x.nd.size,x.R]):=by simp [rdCells,encD]
theorem koI : KO cmpI where
 eq a b:=by unfold cmpI; split <;> (try split) <;> omega
 anti a b:=by unfold cmpI; split <;> (try split) <;> (try split) <;> omega
 trans a b d:=by unfold cmpI; intro h1 h2; split at h1 <;> split at h2 <;> (try split at h1) <;> (try split at h2) <;> split <;> omega
theorem cmpI_lt {a b : Int} : cmpI a b < 0 ↔ a < b:=by unfold cmpI; split <;> (try split) <;> omega
theorem SV.oneA {α : Type} {enc : α→List AV} {sz : Nat} {l : List α} {v : AV} (h : SV enc sz l v) : oneA v=true:=by
 have h2:=h.2 []
 unfold zaZ at h2
 split at h2
 all_goals first | rfl | cases h2
def mayB (y : UInt8) : Prop:=(97≤(y.toNat : Int)∧(y.toNat : Int)≤122)∨(48≤(y.toNat : Int)∧(y.toNat : Int)≤57)∨(y.toNat : Int)=46∨(y.toNat : Int)=95∨(y.toNat : Int)=45
instance (y : UInt8) : Decidable (mayB y):=by unfold mayB; infer_instance
def mayN (s : List UInt8) : Prop:=s ≠ []∧s.length≤20∧s[0]? ≠ some 45∧∀ b ∈ s,mayB b
instance (s : List UInt8) : Decidable (mayN s):=by unfold mayN; infer_instance
theorem may_p (y : UInt8) : BPure Tryz.prog 123 [.lit (.int .u8 y.toNat)] (B (decide (mayB y))):=BPure.flat fun H => image_may_ok (by
 unfold image_may
 unfold mayB
 by_cases c1 : (97 : Int)≤y.toNat
 ·by_cases c2 : (y.toNat : Int)≤122
  ·simp [c1,c2]
  ·have e1 : ¬ (y.toNat : Int)≤57:=by omega
   have e2 : ¬ (y.toNat : Int)=46:=by omega
   have e3 : ¬ (y.toNat : Int)=95:=by omega
   have e4 : ¬ (y.toNat : Int)=45:=by omega
   simp [c1,c2,e1,e2,e3,e4,show (48 : Int)≤y.toNat by omega]
 ·by_cases c2 : (48 : Int)≤y.toNat
  ·by_cases c3 : (y.toNat : Int)≤57
   ·simp [c1,c2,c3]
   ·by_cases c4 : (y.toNat : Int)=95
    ·simp [c1,c2,c3,c4]
    ·have e2 : ¬ (y.toNat : Int)=46:=by omega
     have e4 : ¬ (y.toNat : Int)=45:=by omega
     simp [c1,c2,c3,c4,e2,e4]
  ·by_cases c4 : (y.toNat : Int)=46
   ·simp [c1,c2,c4]
   ·by_cases c5 : (y.toNat : Int)=95
    ·simp [c1,c2,c4,c5]
    ·by_cases c6 : (y.toNat : Int)=45
     ·simp [c1,c2,c4,c5,c6]
     ·simp [c1,c2,c4,c5,c6])
theorem u8c {y : UInt8} {k : UInt8} {n : Int} (h : (k.toNat : Int)=n) : ((y.toNat : Int)=n)=(y=k):=by
 refine propext ⟨fun e => UInt8.toNat_inj.1 (by omega),fun e => by rw [e]; exact h⟩
theorem MayName_p {s : List UInt8} (hs : s.length≤9223372036854775807) : BPure Tryz.prog 70 [S (bstr s)] (B (decide (mayN s))):=BPure.flat fun H => image_MayName_ok (by
 unfold image_MayName
 rw [bstr_nil,abT_eql,alnT_spec hs]
 have hl : ∀ t : List UInt8,t=s→0 < t.length→t.length≤20→t[0]? ≠ some 45→zqaZ (S (bstr t)) (I t.length) (I 0) H fun r H' => r=B (decide (mayN t))∧H'=H:=by
  intro t _ h0 h20 h45
  refine zwqZ (fun n x0 x17 x18 H' => ∃ k : Nat,k + n=t.length∧x0=S (bstr t)∧x17=I t.length∧x18=I k∧H'=H∧∀ m y,m < k→t[m]? = some y→mayB y) ?_ t.length ⟨0,by omega,rfl,rfl,rfl,rfl,by omega⟩
  rintro n x0 x17 x18 H' R hR ⟨k,hk,rfl,rfl,rfl,rfl,hb⟩
  unfold zmqZ
  rcases Nat.lt_or_ge k t.length with h | h
  ·have hx:=List.getElem?_eq_getElem h
   generalize t[k]=y at hx
   simp [h,aivT_spec rfl hx]
   refine bP_pure (may_p y) ?_
   by_cases hy : mayB y
   ·simp [hy,abI_add (a:=k) (b:=1) (by omega) (by omega)]
    refine hR (n - 1) _ _ _ _ (by omega) ⟨k + 1,by omega,rfl,rfl,by simp,rfl, ?_⟩
    intro m z hm hz
    by_cases c : m=k
    ·rw [c,hx] at hz; injection hz with hz; rw [← hz]; exact hy
    ·exact hb m z (by omega) hz
   ·have : ¬ mayN t:=fun hm => hy (hm.2.2.2 y (List.mem_of_getElem? hx))
    simp [hy,this]
  ·have : mayN t:=⟨fun e => by rw [e] at h0; simp at h0,h20,h45,fun b hb' => by
    obtain ⟨m,hm⟩:=List.mem_iff_getElem?.1 hb'
    have:=(List.getElem?_eq_some_iff.1 hm).1
    exact hb m b (by omega) hm⟩
   simp [show ¬ k < t.length by omega,this]
 by_cases h0 : s=[]
 ·subst h0
  simp [mayN]
 ·have hlen : 0 < s.length:=List.length_pos_iff.2 h0
  by_cases h1 : s.length≤20
  ·have hx:=List.getElem?_eq_getElem hlen
   have e20 : ¬ (20 : Int) < s.length:=by omega
   generalize s[0]=y at hx
   simp [h0,bstr_size,e20,aivT_spec (k:=0) (i:=0) rfl hx]
   have e45 : ((y.toNat : Int)=45)=(y=45):=u8c rfl
   by_cases h2 : (y.toNat : Int)=45
   ·have : ¬ mayN s:=fun hm => hm.2.2.1 (by rw [hx,e45.mp h2])
    simp [h2,this]
   ·simp [h2]
    exact hl s rfl hlen h1 (by rw [hx]; intro e; injection e with e; exact h2 (e45.mpr e))
  ·have e20 : (20 : Int) < s.length:=by omega
   have : ¬ mayN s:=fun hm => h1 hm.2.1
   simp [h0,bstr_size,e20,this])
theorem Compare_p (a b : List UInt8) : BPure Tryz.prog 156 [S (bstr a),S (bstr b)] (I (cmpN a b)):=BPure.flat fun H => strings_Compare_ok (by
 unfold zsqZ
 exact bP_pure (fun H => by have:=compareString_calls (bstr a) (bstr b) H; exact this) ⟨rfl,rfl⟩)
theorem named1_p (x : Nm) (s : List UInt8) : BPure Tryz.prog 155 [.agg (encN x),S (bstr s)] (I (cmpN x.name s)):=BPure.val (by simp [noIdss,noIds,noIdss_encN]) rfl (image_named_1_ok (by
 unfold image_named_1
 unfold encN
 simp
 refine bP_pure (Compare_p x.name s) ?_
 rfl))
theorem node1_p (x : NdV) (no : Int) : BPure Tryz.prog 148 [.agg (encD x),I no] (I (cmpI x.nd.ino no)):=BPure.val (by simp [noIdss,noIds,noIdss_encD]) rfl (image_node_1_ok (by
 unfold image_node_1
 unfold encD
 have h1:=SV.oneA x.h
 simp [h1]
 refine bP_pure (cmp_Compare_p x.nd.ino no) ?_
 rfl))
theorem rdh_N (x : Nm) (t : List AV) : rdCells true 2 (encN x ++ t) 0=some (.agg (encN x)):=by
 simp [rdCells,encN]
theorem rdh_D (x : NdV) (t : List AV) : rdCells true 3 (encD x ++ t) 0=some (.agg (encD x)):=by
 simp [rdCells,encD]
theorem goF_N : goFunc Tryz.prog 155=true:=by kernel_rfl
theorem srch_N {l : List Nm} {v : AV} (hv : SV encN 2 l v) (hs : srtK cmpN Nm.name l) (hl : l.length≤281474976710656) (no : List UInt8) :
  BPure Tryz.prog 154 [v,S (bstr no),.fn (.func 155) [] []] (.tup [I (posK cmpN Nm.name l no),B (decide (hasK Nm.name l no))]):=BPure.val (by simp [noIdss,noIds,hv.1]) rfl (zdtZ (by
 unfold zyZ
 simp [hv.len]
 refine zczZ (fun n x0 x1 x2 x8 x9 x10 H' => ∃ i j : Nat,i + n=j∧j≤l.length∧x0=v∧x1=S (bstr no)∧x2 = .fn (.func 155) [] []∧x8=I l.length∧x9=I i∧x10=I j∧H'=[]∧(∀ m x,m < i→l[m]? = some x→cmpN (Nm.name x) no < 0)∧(∀ m x,j≤m→l[m]? = some x→¬ cmpN (Nm.name x) no < 0)) ?_ l.length ⟨0,l.length,by simp,by omega,rfl,rfl,rfl,rfl,rfl,rfl,rfl,by simp,fun m x hm hx => by have:=(List.getElem?_eq_some_iff.1 hx).1; omega⟩
 rintro n x0 x1 x2 x8 x9 x10 H' R hR ⟨i,j,hij,hj,rfl,rfl,rfl,rfl,rfl,rfl,rfl,h1,h2⟩
 unfold ztZ
 rcases Nat.lt_or_ge i j with hlt | hge
 ·have hx:=List.getElem?_eq_getElem (l:=l) (i:=(i + j) / 2) (by omega)
  generalize l[(i + j) / 2]'(by omega)=y at hx
  simp [hlt,abI_add (a:=i) (b:=j) (by omega) (by omega),acI_u64 (n:=(i : Int) + j) (by omega) (by omega),abI_shr1,acI_i64 (a:=((i : Int) + j) / 2) (by omega) (by omega),hv.idx zfbZ hx (i:=((i : Int) + j) / 2) (by omega),goF_N,rdh_N]
  refine bC_of (named1_p y no []) ?_
  by_cases c1 : cmpN (Nm.name y) no < 0
  ·simp [c1,abI_add (a:=((i : Int) + j) / 2) (b:=1) (by omega) (by omega)]
   refine hR (j - ((i + j) / 2 + 1)) _ _ _ _ _ _ _ (by omega) ⟨(i + j) / 2 + 1,j,by omega,hj,rfl,rfl,rfl,rfl,by simp,rfl,rfl, ?_,h2⟩
   intro m x hm hmx
   by_cases hm2 : m=(i + j) / 2
   ·rw [hm2,hx] at hmx; injection hmx with e; rw [← e]; exact c1
   ·exact koN.trans _ _ _ (srtK_get hs hmx hx (by omega)) c1
  ·simp [c1]
   refine hR ((i + j) / 2 - i) _ _ _ _ _ _ _ (by omega) ⟨i,(i + j) / 2,by omega,by omega,rfl,rfl,rfl,rfl,rfl,by simp,rfl,h1, ?_⟩
   intro m x hm hmx
   by_cases hm2 : m=(i + j) / 2
   ·rw [hm2,hx] at hmx; injection hmx with e; rw [← e]; exact c1
   ·intro c2
    exact c1 (koN.trans _ _ _ (srtK_get hs hx hmx (by omega)) c2)
 ·have hi : i=j:=by omega
  subst hi
  have hp : posK cmpN Nm.name l no=i:=posK_eq (by omega) h1 (fun x hx => h2 i x (by omega) hx)
  rcases Nat.lt_or_ge i l.length with hil | hil
  ·have hx:=List.getElem?_eq_getElem (l:=l) (i:=i) hil
   generalize l[i]=y at hx
   have hh : hasK Nm.name l no ↔ cmpN (Nm.name y) no=0:=by
    rw [hasK_iff koN hs,hp,koN.eq]
    constructor
    ·rintro ⟨z,hz,e⟩
     rw [hx] at hz; injection hz with hz; rw [hz,e]
    ·intro e
     exact ⟨y,hx,e⟩
   simp [hil,hv.idx zfbZ hx rfl,goF_N,rdh_N]
   refine bC_of (named1_p y no []) ?_
   simp [hp,hh]
  ·have hn : ¬ hasK Nm.name l no:=by
    rw [hasK_iff koN hs,hp]
    rintro ⟨z,hz,e⟩
    have:=(List.getElem?_eq_some_iff.1 hz).1
    omega
   simp [show ¬ i < l.length by omega,hp,hn]))
theorem goF_D : goFunc Tryz.prog 148=true:=by kernel_rfl
theorem srch_D {l : List NdV} {v : AV} (hv : SV encD 3 l v) (hs : srtK cmpI NdV.ino l) (hl : l.length≤281474976710656) (no : Int) :
  BPure Tryz.prog 147 [v,I no,.fn (.func 148) [] []] (.tup [I (posK cmpI NdV.ino l no),B (decide (hasK NdV.ino l no))]):=BPure.val (by simp [noIdss,noIds,hv.1]) rfl (zeoZ (by
 unfold zbgZ
 simp [hv.len]
 refine zdjZ (fun n x0 x1 x2 x8 x9 x10 H' => ∃ i j : Nat,i + n=j∧j≤l.length∧x0=v∧x1=I no∧x2 = .fn (.func 148) [] []∧x8=I l.length∧x9=I i∧x10=I j∧H'=[]∧(∀ m x,m < i→l[m]? = some x→cmpI (NdV.ino x) no < 0)∧(∀ m x,j≤m→l[m]? = some x→¬ cmpI (NdV.ino x) no < 0)) ?_ l.length ⟨0,l.length,by simp,by omega,rfl,rfl,rfl,rfl,rfl,rfl,rfl,by simp,fun m x hm hx => by have:=(List.getElem?_eq_some_iff.1 hx).1; omega⟩
 rintro n x0 x1 x2 x8 x9 x10 H' R hR ⟨i,j,hij,hj,rfl,rfl,rfl,rfl,rfl,rfl,rfl,h1,h2⟩
 unfold zvZ
 rcases Nat.lt_or_ge i j with hlt | hge
 ·have hx:=List.getElem?_eq_getElem (l:=l) (i:=(i + j) / 2) (by omega)
  generalize l[(i + j) / 2]'(by omega)=y at hx
  simp [hlt,abI_add (a:=i) (b:=j) (by omega) (by omega),acI_u64 (n:=(i : Int) + j) (by omega) (by omega),abI_shr1,acI_i64 (a:=((i : Int) + j) / 2) (by omega) (by omega),hv.idx zeyZ hx (i:=((i : Int) + j) / 2) (by omega),goF_D,rdh_D]
  refine bC_of (node1_p y no []) ?_
  by_cases c1 : cmpI (NdV.ino y) no < 0
  ·simp [c1,abI_add (a:=((i : Int) + j) / 2) (b:=1) (by omega) (by omega)]
   refine hR (j - ((i + j) / 2 + 1)) _ _ _ _ _ _ _ (by omega) ⟨(i + j) / 2 + 1,j,by omega,hj,rfl,rfl,rfl,rfl,by simp,rfl,rfl, ?_,h2⟩
   intro m x hm hmx
   by_cases hm2 : m=(i + j) / 2
   ·rw [hm2,hx] at hmx; injection hmx with e; rw [← e]; exact c1
   ·exact koI.trans _ _ _ (srtK_get hs hmx hx (by omega)) c1
  ·simp [c1]
   refine hR ((i + j) / 2 - i) _ _ _ _ _ _ _ (by omega) ⟨i,(i + j) / 2,by omega,by omega,rfl,rfl,rfl,rfl,rfl,by simp,rfl,h1, ?_⟩
   intro m x hm hmx
   by_cases hm2 : m=(i + j) / 2
   ·rw [hm2,hx] at hmx; injection hmx with e; rw [← e]; exact c1
   ·intro c2
    exact c1 (koI.trans _ _ _ (srtK_get hs hx hmx (by omega)) c2)
 ·have hi : i=j:=by omega
  subst hi
  have hp : posK cmpI NdV.ino l no=i:=posK_eq (by omega) h1 (fun x hx => h2 i x (by omega) hx)
  rcases Nat.lt_or_ge i l.length with hil | hil
  ·have hx:=List.getElem?_eq_getElem (l:=l) (i:=i) hil
   generalize l[i]=y at hx
   have hh : hasK NdV.ino l no ↔ cmpI (NdV.ino y) no=0:=by
    rw [hasK_iff koI hs,hp,koI.eq]
    constructor
    ·rintro ⟨z,hz,e⟩
     rw [hx] at hz; injection hz with hz; rw [hz,e]
    ·intro e
     exact ⟨y,hx,e⟩
   simp [hil,hv.idx zeyZ hx rfl,goF_D,rdh_D]
   refine bC_of (node1_p y no []) ?_
   simp [hp,hh]
  ·have hn : ¬ hasK NdV.ino l no:=by
    rw [hasK_iff koI hs,hp]
    rintro ⟨z,hz,e⟩
    have:=(List.getElem?_eq_some_iff.1 hz).1
    omega
   simp [show ¬ i < l.length by omega,hp,hn]))
end Go.Proofs.YtlhiaihmkjlaaaaGreat.Av
end
section
namespace Go.Proofs.YtlhiaihmkjlaaaaGreat.Av
open Go Go.RowKit
def encM (ps : List (Int × AV)) : List (Value × AV):=ps.map fun p => (.int .i64 p.1,p.2)
def look (z : AV) (ps : List (Int × AV)) (k : Int) : AV:=match ps.find? (fun p => p.1 == k) with
 | some p => p.2
 | none => z
theorem same_int (a b : Int) : Instr.sameNow (.int .i64) (.int .i64 a) (.int .i64 b)=some (a == b):=rfl
theorem findA_int (k : Int) : ∀ (ps : List (Int × AV)) (i : Nat),findA (.int .i64) (.int .i64 k) (encM ps) i=some ((ps.findIdx? (fun p => p.1 == k)).bind fun j => (ps[j]?).map fun p => (i + j,p.2))
 | [],i => rfl
 | p :: ps,i => by
  show (match Instr.sameNow (.int .i64) (.int .i64 k) (.int .i64 p.1) with
   | some true => some (some (i,p.2))
   | some false => findA (.int .i64) (.int .i64 k) (encM ps) (i + 1)
   | none => none)=_
  rw [same_int,List.findIdx?_cons]
  by_cases h : p.1=k
  ·have h' : (k == p.1)=true:=by simp [h]
   have h2 : (p.1 == k)=true:=by simp [h]
   simp [h',h2]
  ·have h' : (k == p.1)=false:=by simp; omega
   have h2 : (p.1 == k)=false:=by simp [h]
   simp only [h',h2]
   rw [findA_int k ps (i + 1)]
   cases ps.findIdx? (fun p => p.1 == k) with
   | none => rfl
   | some j =>
    simp
    cases ps[j]? with
    | none => rfl
    | some q => simp; omega
theorem look_none {z : AV} {ps : List (Int × AV)} {k : Int} (h : ps.findIdx? (fun p => p.1 == k)=none) : look z ps k=z:=by
 have : ps.find? (fun p => p.1 == k)=none:=by
  rw [List.find?_eq_none]
  intro x hx
  rw [List.findIdx?_eq_none_iff] at h
  simpa using h x hx
 unfold look; rw [this]
theorem look_some {z : AV} {ps : List (Int × AV)} {k : Int} {j : Nat} (h : ps.findIdx? (fun p => p.1 == k)=some j) : ∃ p,ps[j]? = some p∧p.1=k∧look z ps k=p.2:=by
 obtain ⟨h1,h2,h3⟩:=List.findIdx?_eq_some_iff_getElem.1 h
 refine ⟨ps[j],List.getElem?_eq_getElem h1,by simpa using h2, ?_⟩
 have : ps.find? (fun p => p.1 == k)=some ps[j]:=by
  rw [List.find?_eq_some_iff_getElem]
  exact ⟨h2,j,h1,rfl,fun i hi => by simpa using h3 i hi⟩
 unfold look; rw [this]
theorem alk_int {H : AH} {o : Nat} {zv : Value} {ps : List (Int × AV)} {k : Int} (h : H[o]? = some (some (.map (encM ps)))) : alk (.int .i64) zv H (.mp o) (.lit (.int .i64 k)) false=some (look (.ofV zv) ps k):=by
 have hk : keyB (.int .i64) (.int .i64 k)=true:=rfl
 unfold alk entriesA
 simp only [h,hk,if_true,findA_int]
 cases hf : ps.findIdx? (fun p => p.1 == k) with
 | none => rw [look_none hf]; rfl
 | some j =>
  obtain ⟨p,h1,h2,h3⟩:=look_some (z:=.ofV zv) hf
  simp [h1,h3]
def putM (ps : List (Int × AV)) (k : Int) (v : AV) : List (Int × AV):=match ps.findIdx? (fun p => p.1 == k) with
 | some j => ps.set j (k,v)
 | none => ps ++ [(k,v)]
theorem amu_int {H : AH} {o : Nat} {ps : List (Int × AV)} {k : Int} {v : AV} (h : H[o]? = some (some (.map (encM ps)))) : amu (.int .i64) H (.mp o) (.lit (.int .i64 k)) v=some (H.set o (some (.map (encM (putM ps k v))))):=by
 have hk : keyB (.int .i64) (.int .i64 k)=true:=rfl
 unfold amu putM
 simp only [h,hk,if_true,findA_int]
 cases hf : ps.findIdx? (fun p => p.1 == k) with
 | none => simp [encM]
 | some j =>
  obtain ⟨p,h1,h2,h3⟩:=look_some (z:=.junk) hf
  simp [h1,encM,List.map_set]
end Go.Proofs.YtlhiaihmkjlaaaaGreat.Av
end
section
namespace Go.Proofs.YtlhiaihmkjlaaaaGreat.Av
open Go Go.RowKit
end Go.Proofs.YtlhiaihmkjlaaaaGreat.Av
end
section
namespace Go.Proofs.YtlhiaihmkjlaaaaGreat.Av
open Go Go.RowKit
def atL (l : List Ext) (p : Int) : UInt8:=match l.find? fun x => decide (x.no=p / 8) with
 | some x => x.b.getD (p % 8).toNat 0
 | none => 0
theorem atL_none {l : List Ext} {p : Int} (h : ¬ hasL l (p / 8)) : atL l p=0:=by
 have : l.find? (fun x => decide (x.no=p / 8))=none:=by
  rw [List.find?_eq_none]
  intro x hx he
  exact h ⟨x,hx,by simpa using he⟩
 unfold atL; rw [this]
theorem atL_some {l : List Ext} (hs : srt l) {p : Int} {k : Nat} {x : Ext} (hx : l[k]? = some x) (he : x.no=p / 8) : atL l p=x.b.getD (p % 8).toNat 0:=by
 have : l.find? (fun x => decide (x.no=p / 8))=some x:=by
  rw [List.find?_eq_some_iff_getElem]
  obtain ⟨h1,h2⟩:=List.getElem?_eq_some_iff.1 hx
  refine ⟨by simp [he],k,h1,h2, ?_⟩
  intro j hj
  have:=srt_get hs (List.getElem?_eq_getElem (Nat.lt_trans hj h1)) hx hj
  simp; omega
 unfold atL; rw [this]
def inC (size : Int) (l : List Ext) (pos n : Int) : Prop:=mayC size l∧0≤pos∧0≤n∧n≤4096∧pos < size
instance (size : Int) (l : List Ext) (pos n : Int) : Decidable (inC size l pos n):=by unfold inC; infer_instance
def bytesL (l : List Ext) (pos : Int) (k : Nat) : List UInt8:=(List.range k).map fun (i : Nat) => atL l (pos + (i : Int))
theorem bytesL_len (l : List Ext) (pos : Int) (k : Nat) : (bytesL l pos k).length=k:=by simp [bytesL]
theorem bytesL_succ (l : List Ext) (pos : Int) (k : Nat) : bytesL l pos (k + 1)=bytesL l pos k ++ [atL l (pos + k)]:=by simp [bytesL,List.range_succ]
def readC (size : Int) (l : List Ext) (pos n : Int) : List UInt8:=if inC size l pos n then bytesL l pos (min n (size - pos)).toNat else []
theorem ref_At_p {size : Int} {l : List Ext} {v : AV} (hv : SV encE 9 l v) (hs : srt l) (hl : l.length≤281474976710656) (pos : Int) (h0 : 0≤pos) (h1 : pos≤9223372036854775807) :
  BPure Tryz.prog 160 [.agg [I size,v],I pos] (.lit (.int .u8 (atL l pos).toNat)):=BPure.val (by simp [noIdss,noIds,hv.1]) rfl (salvorref11_At_ok (by
 unfold zuoZ
 simp [oneA_sv hv,rdCells,abI_quo (a:=pos) (b:=8) (by omega) (by omega)]
 refine bP_pure (ref_find_p hv hs hl (pos / 8)) ?_
 by_cases c : hasL l (pos / 8)
 ·obtain ⟨x,hx,he⟩:=(hasL_iff hs).1 c
  have hb:=x.hb
  have hr : (pos % 8)=((pos % 8).toNat : Int):=by omega
  have hy:=List.getElem?_eq_getElem (l:=x.b) (i:=(pos % 8).toNat) (by omega)
  generalize hu : x.b[(pos % 8).toNat]'(by omega)=u at hy
  obtain ⟨q,e1,e2⟩:=aixA_b (t:=(l.drop (posL l (pos / 8) + 1)).flatMap encE) (H:=[some (.cells [I size,v])]) hy (by omega)
  have e0 : (encE x ++ (l.drop (posL l (pos / 8) + 1)).flatMap encE).drop 1=encB x.b ++ (l.drop (posL l (pos / 8) + 1)).flatMap encE:=rfl
  rw [← hr] at e1
  have hn : ¬ ((posL l (pos / 8) : Nat) : Int) < 0:=by omega
  simp [c,hn,hv.idx zwZ hx rfl,abI_rem (a:=pos) (b:=8) (by omega) (by omega),e0,e1,e2,atL_some hs hx he,List.getD_eq_getElem?_getD,hy]
 ·simp [c,atL_none c]))
theorem ref_ReadContent_p {size : Int} {l : List Ext} {v : AV} (hv : SV encE 9 l v) (hl : l.length≤281474976710656) (pos n : Int) :
  ∃ r,SV encU 1 (readC size l pos n) r∧BPure Tryz.prog 104 [.agg [I size,v],I pos,I n] r:=by
 unfold SV
 simp only [flat_encU]
 have : ∃ r,(noIds r=true∧∀ H,zaZ H 1 r=some (encB (readC size l pos n),(readC size l pos n).length))∧BPure Tryz.prog 104 [.agg [I size,v],I pos,I n] r:=by
  refine BPure.sl (sz:=1) (by simp [noIdss,noIds,hv.1]) (ztyZ _) (zrfZ ?_)
  unfold zgjZ
  simp [oneA_sv hv,rdCells]
  refine bP_pure (zelZ hv hl) ?_
  have nix : ∀ H,¬ inC size l pos n→zaZ H 1 (.lit (.slice none 0 0))=some (encB (readC size l pos n),(readC size l pos n).length):=by
   intro H h
   have : readC size l pos n=[]:=if_neg h
   rw [this]; rfl
  by_cases h1 : mayC size l
  ·by_cases h2 : pos < 0
   ·simp [h1,h2,nix _ (fun h => by have:=h.2.1; omega)]
   ·by_cases h3 : n < 0
    ·simp [h1,h2,h3,nix _ (fun h => by have:=h.2.2.1; omega)]
    ·by_cases h4 : 4096 < n
     ·simp [h1,h2,h3,h4,nix _ (fun h => by have:=h.2.2.2.1; omega)]
     ·simp [h1,h2,h3,h4]
      have hs:=okL_srt h1.2.2
      have hsz:=h1.2.1
      have hsz0:=h1.1
      have hm : ∃ m : Nat,(m=min n (size - pos)∨(size≤pos∧m=0))∧readC size l pos n=bytesL l pos m:=by
       by_cases h5 : pos < size
       ·exact ⟨(min n (size - pos)).toNat,.inl (by omega),if_pos ⟨h1,by omega,by omega,by omega,h5⟩⟩
       ·refine ⟨0,.inr ⟨by omega,rfl⟩,(if_neg (fun h => h5 h.2.2.2.2)).trans rfl⟩
      obtain ⟨m,hm,hr⟩:=hm
      rw [hr,bytesL_len]
      refine zmoZ (fun q x1 x2 x3 x7 x8 H' => ∃ k : Nat,k + q=m∧x1=I pos∧x2=I n∧x3 = .ptr 0 0∧x8=I k∧H'[0]? = some (some (.cells [I size,v]))∧ownedS x7=true∧zaZ H' 1 x7=some (encB (bytesL l pos k),k)∧0 ∉ idS x7) ?_ m ⟨0,by omega,rfl,rfl,rfl,rfl,rfl,rfl,rfl,by simp [idS]⟩
      rintro q x1 x2 x3 x7 x8 H R hR ⟨k,hk,rfl,rfl,rfl,rfl,hH,ho,hsl,hid⟩
      unfold zecZ
      by_cases hc : k < m
      ·have c1 : (k : Int) < n:=by omega
       have c2 : pos < size - k:=by omega
       simp [c1,hH,abI_sub (a:=size) (b:=k) (by omega) (by omega),c2,rdCells,abI_add (a:=pos) (b:=k) (by omega) (by omega)]
       refine bP_pure (ref_At_p hv hs hl (pos + k) (by omega) (by omega)) ?_
       have hH0:=(List.getElem?_eq_some_iff.1 hH).1
       have hs1 : zaZ (H ++ [some (.cells (encB [atL l (pos + k)]))]) 1 x7=some (encB (bytesL l pos k),k):=zbZ hsl fun i hi => List.getElem?_append_left (ziZ hsl i hi)
       obtain ⟨r,H2,a1,a2,a3,a4,a5,a6⟩:=zlvZ (bytes:=1) hs1 ho (zgZ (v:=.sl H.length 0 1 1 (.ex 1)) (q:=(encB [atL l (pos + k)],1)) (by simp [zaZ,encB])) (by omega)
       have e : encB [atL l (pos + k)]=[.lit (.int .u8 (atL l (pos + k)).toNat)]:=rfl
       rw [e] at a1 a5
       have hH2 : H2[0]? = some (some (.cells [I size,v])):=by
        rw [a5 0 (by simp) hid,List.getElem?_append_left hH0]; exact hH
       simp [a1,abI_add (a:=k) (b:=1) (by omega) (by omega)]
       refine hR (q - 1) _ _ _ _ _ _ (by omega) ⟨k + 1,by omega,rfl,rfl,rfl,rfl,hH2,a2, ?_,fun hi => (a6 0 hi).elim hid (by simp)⟩
       rw [a3,bytesL_succ,encB_app]
      ·have c1 : ¬ ((k : Int) < n∧pos < size - k):=by omega
       have hkm : k=m:=by omega
       subst hkm
       by_cases c2 : (k : Int) < n
       ·have c3 : ¬ pos < size - k:=fun h => c1 ⟨c2,h⟩
        simp [c2,hH,abI_sub (a:=size) (b:=k) (by omega) (by omega),c3,hsl]
       ·simp [c2,hsl]
  ·simp [h1,nix _ (fun h => h1 h.1)]
 exact this
theorem srt_take {l : List Ext} (h : srt l) (k : Nat) : srt (l.take k):=List.Pairwise.sublist (List.take_sublist k l) h
theorem atL_succ {l : List Ext} (hs : srt l) {k : Nat} {y : Ext} (hx : l[k]? = some y) (p : Int) : atL (l.take (k + 1)) p=if y.no=p / 8 then y.b.getD (p % 8).toNat 0 else atL (l.take k) p:=by
 split
 ·rename_i h
  exact atL_some (srt_take hs (k + 1)) (k:=k) (by rw [List.getElem?_take,if_pos (by omega)]; exact hx) h
 ·rename_i h
  unfold atL
  rw [List.take_add_one,hx,List.find?_append]
  simp [h]
theorem zmwZ {l : List Ext} {pos : Int} {m i : Nat} : (bytesL l pos m)[i]? = if i < m then some (atL l (pos + i)) else none:=by
 unfold bytesL
 rw [List.getElem?_map]
 by_cases h : i < m
 ·simp [h]
 ·simp [h]
theorem read_skip {l : List Ext} (hs : srt l) {k m : Nat} {y : Ext} (hx : l[k]? = some y) {pos : Int} (h : ¬ max (y.no * 8) pos < min (y.no * 8 + 8) (pos + m)) : bytesL (l.take (k + 1)) pos m=bytesL (l.take k) pos m:=by
 refine List.ext_getElem? fun i => ?_
 rw [zmwZ,zmwZ]
 split
 ·rw [atL_succ hs hx,if_neg (by omega)]
 ·rfl
theorem read_step {l : List Ext} (hs : srt l) {k m : Nat} {y : Ext} (hx : l[k]? = some y) {pos : Int} {off from' mlen : Nat} (h : max (y.no * 8) pos < min (y.no * 8 + 8) (pos + m))
  (h1 : (off : Int)=max (y.no * 8) pos - pos) (h2 : (from' : Int)=max (y.no * 8) pos - y.no * 8) (h3 : (mlen : Int)=min (y.no * 8 + 8) (pos + m) - max (y.no * 8) pos) :
  (bytesL (l.take k) pos m).take off ++ ((y.b.drop from').take mlen) ++ (bytesL (l.take k) pos m).drop (off + mlen)=bytesL (l.take (k + 1)) pos m:=by
 have hb:=y.hb
 refine List.ext_getElem? fun i => ?_
 have hl1 : ((bytesL (l.take k) pos m).take off).length=off:=by rw [List.length_take,bytesL_len]; omega
 have hl2 : ((y.b.drop from').take mlen).length=mlen:=by rw [List.length_take,List.length_drop]; omega
 by_cases c1 : i < off
 ·rw [List.append_assoc,List.getElem?_append_left (by omega),List.getElem?_take,if_pos c1,zmwZ,zmwZ]
  split
  ·rw [atL_succ hs hx,if_neg (by omega)]
  ·rfl
 ·by_cases c2 : i < off + mlen
  ·rw [List.getElem?_append_left (by rw [List.length_append]; omega),List.getElem?_append_right (by omega),hl1,List.getElem?_take,if_pos (by omega),List.getElem?_drop,zmwZ,if_pos (by omega),atL_succ hs hx,if_pos (by omega)]
   rw [show ((pos + (i : Int)) % 8).toNat=from' + (i - off) by omega]
   rw [List.getD_eq_getElem?_getD,List.getElem?_eq_getElem (by omega)]
   simp
  ·rw [List.getElem?_append_right (by rw [List.length_append]; omega),List.length_append,hl1,hl2,List.getElem?_drop,zmwZ,zmwZ,show off + mlen + (i - (off + mlen))=i by omega]
   split
   ·rw [atL_succ hs hx,if_neg (by omega)]
   ·rfl
theorem over_encB (a b : List UInt8) (off : Nat) : over (encB a) off (encB b)=encB (a.take off ++ b ++ a.drop (off + b.length)):=by
 unfold over
 rw [zikZ,encB_take,encB_drop,encB_app,encB_app]
theorem zrow_bytes (l : List Ext) (pos : Int) (m : Nat) : List.replicate m (AV.lit (.int .u8 0))=encB (bytesL (l.take 0) pos m):=by
 refine List.ext_getElem? fun i => ?_
 rw [encB_get,zmwZ,List.getElem?_replicate]
 by_cases h : i < m
 ·rw [if_pos h,if_pos h]
  simp [atL]
 ·rw [if_neg h,if_neg h]
  rfl
theorem extent_Read_p {size : Int} {l : List Ext} {v : AV} (hv : SV encE 9 l v) (hl : l.length≤281474976710656) (pos n : Int) :
  ∃ r,SV encU 1 (readC size l pos n) r∧BPure Tryz.prog 69 [.agg [I size,v],I pos,I n] r:=by
 unfold SV
 simp only [flat_encU]
 have : ∃ r,(noIds r=true∧∀ H,zaZ H 1 r=some (encB (readC size l pos n),(readC size l pos n).length))∧BPure Tryz.prog 69 [.agg [I size,v],I pos,I n] r:=by
  refine BPure.sl (sz:=1) (by simp [noIdss,noIds,hv.1]) (ztyZ _) (extent_Read_ok ?_)
  unfold extent_Read
  simp [oneA_sv hv,rdCells]
  refine bP_pure (znkZ hv hl) ?_
  have nix : ∀ H,¬ inC size l pos n→zaZ H 1 (.lit (.slice none 0 0))=some (encB (readC size l pos n),(readC size l pos n).length):=by
   intro H h
   have : readC size l pos n=[]:=if_neg h
   rw [this]; rfl
  by_cases h1 : mayC size l
  ·by_cases h2 : pos < 0
   ·simp [h1,h2,nix _ (fun h => by have:=h.2.1; omega)]
   ·by_cases h3 : n < 0
    ·simp [h1,h2,h3,nix _ (fun h => by have:=h.2.2.1; omega)]
    ·by_cases h4 : 4096 < n
     ·simp [h1,h2,h3,h4,nix _ (fun h => by have:=h.2.2.2.1; omega)]
     ·by_cases h5 : size≤pos
      ·simp [h1,h2,h3,h4,h5,nix _ (fun h => by have:=h.2.2.2.2; omega)]
      ·have hs:=okL_srt h1.2.2
       have hsz:=h1.2.1
       have hsz0:=h1.1
       have hr : readC size l pos n=bytesL l pos (min n (size - pos)).toNat:=if_pos ⟨h1,by omega,by omega,by omega,by omega⟩
       rw [hr,bytesL_len]
       obtain ⟨m,hm⟩ : ∃ m : Nat,(m : Int)=min n (size - pos):=⟨(min n (size - pos)).toNat,by omega⟩
       have hm' : min (size - pos) n=(m : Int):=by omega
       rw [show (min n (size - pos)).toNat=m by omega]
       simp [h1,h2,h3,h4,h5,abI_sub (a:=size) (b:=pos) (by omega) (by omega),hm',amk,show (m : Int)≤281474976710656 by omega,show (m : Int)≤9223372036854775807 by omega,hv.len]
       have hz:=zrow_bytes l pos m
       refine extent_Read_L8_rule (fun q x1 x2 x7 x41 x42 x43 H' => ∃ k : Nat,k + q=l.length∧x1=I pos∧x2=I m∧x7 = .sl 1 0 m 1 (.ex m)∧x41=v∧x42=I l.length∧x43=I k∧∃ X,H'=some (.cells [I size,v]) :: some (.cells (encB (bytesL (l.take k) pos m))) :: X) ?_ l.length ⟨0,by omega,rfl,rfl,rfl,rfl,rfl,rfl,[],by rw [← hz]⟩
       rintro q x1 x2 x7 x41 x42 x43 H R hR ⟨k,hk,rfl,rfl,rfl,rfl,rfl,rfl,X,rfl⟩
       unfold zpxZ
       rcases Nat.lt_or_ge k l.length with hlt | hge
       ·have hx:=List.getElem?_eq_getElem hlt
        generalize l[k]=y at hx
        have hy:=okL_all h1.2.2 y (List.mem_of_getElem? hx)
        simp [hlt,hv.idx zwZ hx rfl,-zhkZ]
        rw [← List.cons_append,← List.cons_append,ast_e (by simp) (by rfl)]
        simp
        refine bP_pure (zvaZ y.no (by omega) (by omega)) ?_
        have nxt : ∀ Y,(znaZ R (I pos) (I m) (.sl 1 0 m 1 (.ex m)) x41 (I l.length) (I k) (some (.cells [I size,x41]) :: some (.cells (encB (bytesL (l.take (k + 1)) pos m))) :: Y) fun r H' => zaZ H' 1 r=some (encB (bytesL l pos m),m)):=by
         intro Y
         rw [extent_Read_J11_eq]
         unfold zudZ
         simp [abI_add (a:=k) (b:=1) (by omega) (by omega)]
         exact hR (q - 1) _ _ _ _ _ _ _ (by omega) ⟨k + 1,by omega,rfl,rfl,rfl,rfl,rfl,rfl,Y,rfl⟩
        have w1 : MaySpan ⟨y.no * 8,8⟩:=by simp only [MaySpan,May]; omega
        have w2 : MaySpan ⟨pos,m⟩:=by simp only [MaySpan,May]; omega
        refine bP_pure (off_Meet_p ⟨y.no * 8,8⟩ ⟨pos,m⟩) ?_
        by_cases c : max (y.no * 8) pos < min (y.no * 8 + 8) (pos + m)
        ·have e : meet ⟨y.no * 8,8⟩ ⟨pos,m⟩=⟨max (y.no * 8) pos,min (y.no * 8 + 8) (pos + m) - max (y.no * 8) pos⟩:=if_pos ⟨w1,w2,c⟩
         rw [e]
         obtain ⟨off,ho⟩ : ∃ off : Nat,(off : Int)=max (y.no * 8) pos - pos:=⟨(max (y.no * 8) pos - pos).toNat,by omega⟩
         obtain ⟨fr,hf⟩ : ∃ fr : Nat,(fr : Int)=max (y.no * 8) pos - y.no * 8:=⟨(max (y.no * 8) pos - y.no * 8).toNat,by omega⟩
         obtain ⟨ml,hml⟩ : ∃ ml : Nat,(ml : Int)=min (y.no * 8 + 8) (pos + m) - max (y.no * 8) pos:=⟨(min (y.no * 8 + 8) (pos + m) - max (y.no * 8) pos).toNat,by omega⟩
         have hst:=read_step hs hx c ho hf hml
         have hb:=y.hb
         have e1 : aslS 1 (.sl 1 0 m 1 (.ex m)) (some (I off)) none none=some (.sl 1 off (m - off) 1 (.ex (m - off))):=by
          simp [aslS,abnd,Room.least,Room.cut]; omega
         have e3 : ∀ o,aslS 1 (.sl o (1 + fr) (8 - fr) 1 (.ex (8 - fr))) none (some (I ml)) none=some (.sl o (1 + fr) ml 1 (.ex (8 - fr))):=by
          intro o
          simp [aslS,abnd,Room.least,Room.cut]; omega
         have key : ∀ (HH Y : AH) (o : Nat),HH=some (.cells [I size,x41]) :: some (.cells (encB (bytesL (l.take k) pos m))) :: Y→HH[o]? = some (some (.cells (encE y))) →
           aslA 8 1 HH (.ptr o 1) (some (I fr)) none=some (.sl o (1 + fr) (8 - fr) 1 (.ex (8 - fr))) ∧
           acp 1 HH (.sl 1 off (m - off) 1 (.ex (m - off))) (.sl o (1 + fr) ml 1 (.ex (8 - fr)))=some (I ml,some (.cells [I size,x41]) :: some (.cells (encB (bytesL (l.take (k + 1)) pos m))) :: Y):=by
          intro HH Y o hHH hHo
          refine ⟨by simp [aslA,abnd,hHo,zwZ]; omega, ?_⟩
          have a1 : zaZ HH 1 (.sl o (1 + fr) ml 1 (.ex (8 - fr)))=some (encB ((y.b.drop fr).take ml),ml):=by
           have : (encE y).drop (1 + fr)=encB (y.b.drop fr):=by
            rw [Nat.add_comm]
            show (encB y.b).drop fr=_
            rw [encB_drop]
           simp [zaZ,hHo,zwZ,this,encB_take]
           omega
          unfold acp acp0
          rw [zgZ a1,hHH]
          have a2 : min ml (m - off)=ml:=by omega
          have a3 : ((y.b.drop fr).take ml).length=ml:=by simp; omega
          have hle : off≤m:=by omega
          simp [zikZ,bytesL_len,a2,encB_take,hle]
          have a4 : List.take ml (List.take ml (y.b.drop fr))=(y.b.drop fr).take ml:=by rw [List.take_take,Nat.min_self]
          rw [a4,over_encB,a3,hst]
         simp [encSp,ast,c,abI_sub (a:=max (y.no * 8) pos) (b:=pos) (by omega) (by omega),← ho,e1,abI_mul (a:=y.no) (b:=8) (by omega) (by omega),abI_sub (a:=max (y.no * 8) pos) (b:=y.no * 8) (by omega) (by omega),← hf,← hml]
         obtain ⟨k1,k2⟩:=key _ (X ++ [some (.cells (encE y)),some (.cells [I (max (y.no * 8) pos),I ml])]) (X.length + 1 + 1) rfl (by simp)
         rw [k1]
         simp [e3]
         rw [k2]
         simp [show 0 < ml by omega]
         exact nxt _
        ·have e : meet ⟨y.no * 8,8⟩ ⟨pos,m⟩=⟨0,0⟩:=if_neg (fun h => c h.2.2)
         rw [e]
         simp [encSp,ast]
         rw [← read_skip hs hx c]
         exact nxt _
       ·have : k=l.length:=by omega
        subst this
        rw [List.take_length]
        simp [zaZ,zikZ,bytesL_len]
        rw [List.take_of_length_le (by rw [zikZ,bytesL_len]; omega)]
  ·simp [h1,nix _ (fun h => h1 h.1)]
 exact this
end Go.Proofs.YtlhiaihmkjlaaaaGreat.Av
end
section
namespace Go.Proofs.YtlhiaihmkjlaaaaGreat.Av
open Go Go.RowKit
theorem acp_sl {H : AH} {sz o off len o2 off2 m : Nat} {cap cap2 : Room} {cs cs2 : List AV} (ho : H[o]? = some (some (.cells cs))) (h2 : H[o2]? = some (some (.cells cs2))) (hoff : off≤cs.length) (ht : off2 + min m len * sz≤cs2.length) :
  acp sz H (.sl o off len sz cap) (.sl o2 off2 m sz cap2)=some (I ((min m len : Nat) : Int),H.set o (some (.cells (over cs off ((cs2.drop off2).take (min m len * sz)))))):=by
 unfold acp acp0
 by_cases h : off2 + m * sz≤cs2.length
 ·have e : zcmZ H sz (.sl o2 off2 m sz cap2)=some ((cs2.drop off2).take (m * sz),m):=zgZ (by simp [zaZ,h2,h])
  have hm : min (min m len * sz) (m * sz)=min m len * sz:=Nat.min_eq_left (Nat.mul_le_mul_right _ (Nat.min_le_left _ _))
  rw [e]
  simp only [ho,hoff,and_self,if_true,List.take_take,hm]
 ·have e : zcmZ H sz (.sl o2 off2 m sz cap2)=none:=by simp [zcmZ,zaZ,h2,h]
  rw [e]
  simp [acpT,ho,h2,hoff,ht]
theorem size_ext (w : World) : (Go.sizeOf 139).run Tryz.prog w = .ok 9 w:=zdfZ (by kernel_rfl)
theorem overlaps_no {H : AH} {oa offa la ea ka ob offb lb eb kb : Nat} {ca cb : List AV} (ha : H[oa]? = some (some (.cells ca))) (hbo : H[ob]? = some (some (.cells cb))) (hne : oa ≠ ob) (hka : ka ≠ 0) (hkb : kb ≠ 0) (hcb : cb ≠ []) :
  ExtR Tryz.prog 181 [.sl oa offa la ea (.ex ka),.sl ob offb lb eb (.ex kb)] H (B false) :=
 ExtR.apart (tS:=61) (tR:=4) (fn:=Tryz.f181) (by kernel_rfl) (by kernel_rfl) (by kernel_rfl) (by kernel_rfl) (by kernel_rfl) (by kernel_rfl) size_ext ha hbo hne hka hkb hcb
def InsP (H : AH) (s : AV) (N : List AV) (n : Nat) (r : AV) (H' : AH) : Prop :=
 ownedS r=true∧zaZ H' 9 r=some (N,n + 1)∧H.length≤H'.length∧(∀ i,i < H.length→i ∉ idS s→H'[i]? = H[i]?)∧∀ i ∈ idS r,i ∈ idS s∨H.length≤i
theorem insE_end {H : AH} {s : AV} {cs : List AV} {n ov : Nat} {x : Ext} (hs : zaZ H 9 s=some (cs,n)) (ho : ownedS s=true) (hn : n≤100000000) (hv : H[ov]? = some (some (.cells (encE x)))) :
  ∃ r H',InsP H s (cs ++ encE x) n r H'∧BCall Tryz.prog 153 [s,I n,.sl ov 0 1 9 (.ex 1)] H r H':=by
 obtain ⟨r0,a0,-⟩:=zpfZ hs (lo:=some (I n)) (hi:=none) (l:=n) (k:=n) (by simp [abnd]) rfl (Nat.le_refl _) (Nat.le_refl _)
 have hl:=zwZ x
 obtain ⟨r,H2,a1,a2,a3,a4,a5,a6⟩:=zlvZ (bytes:=16) hs ho (zgZ (v:=.sl ov 0 1 9 (.ex 1)) (q:=(encE x,1)) (by simp [zaZ,hv,hl,List.take_of_length_le])) (by omega)
 refine ⟨r,H2,⟨a2,a3,a4,a5,a6⟩,zclZ ?_⟩
 unfold zbkZ
 simp [a0,zizZ hs,a1]
theorem insE_grow {H : AH} {o off n ov i : Nat} {cells : List AV} {x : Ext} (hc : H[o]? = some (some (.cells cells))) (hl : off + n * 9≤cells.length) (hi : i < n) (hn : n≤100000000) (hv : H[ov]? = some (some (.cells (encE x)))) :
  ACalls Tryz.prog 153 [.sl o off n 9 (.ex n),I i,.sl ov 0 1 9 (.ex 1)] H fun r H' => r = .sl H.length 0 (n + 1) 9 (.ge (n + 1)) ∧
   H'=H ++ [some (.cells ((cells.drop off).take (i * 9) ++ encE x ++ (cells.drop (off + i * 9)).take ((n - i) * 9)))]:=by
 refine zclZ ?_
 unfold zbkZ
 have h1 : ¬ (i : Int)=n:=by omega
 have hxl:=zwZ x
 simp [aslS,abnd,Room.least,Room.cut,acpS,goInt,h1,show i≤n by omega,abI_add (a:=n) (b:=1) (by omega) (by omega),abI_sub (a:=(n : Int) + 1) (b:=i) (by omega) (by omega),aappZ1,hc,hl,abI_add (a:=i) (b:=1) (by omega) (by omega)]
 have e1 : i + (n + 1 - i)=n + 1:=by omega
 have h2 : off + i * 9≤cells.length:=by omega
 simp only [e1]
 simp [h2,show (i : Int) < n + 1 by omega,show (n : Int) < n + 1 by omega,show (n + 1) * 16≤140737488355328 by omega,show i≤n + 1 by omega,show i + 1≤n + 1 by omega]
 have zl : ((List.replicate (n + 1 - i) [AV.lit (Value.int IntKind.i64 0),AV.lit (Value.int IntKind.u8 0),AV.lit (Value.int IntKind.u8 0),AV.lit (Value.int IntKind.u8 0),AV.lit (Value.int IntKind.u8 0),AV.lit (Value.int IntKind.u8 0),AV.lit (Value.int IntKind.u8 0),AV.lit (Value.int IntKind.u8 0),AV.lit (Value.int IntKind.u8 0)]).flatten).length=(n + 1 - i) * 9:=zhrZ _ _
 generalize (List.replicate (n + 1 - i) [AV.lit (Value.int IntKind.i64 0),AV.lit (Value.int IntKind.u8 0),AV.lit (Value.int IntKind.u8 0),AV.lit (Value.int IntKind.u8 0),AV.lit (Value.int IntKind.u8 0),AV.lit (Value.int IntKind.u8 0),AV.lit (Value.int IntKind.u8 0),AV.lit (Value.int IntKind.u8 0),AV.lit (Value.int IntKind.u8 0)]).flatten=Z at zl
 have hA : (List.take (i * 9) (List.drop off cells)).length=i * 9:=by rw [List.length_take,List.length_drop]; omega
 generalize hAe : List.take (i * 9) (List.drop off cells)=A at hA
 have hov:=(List.getElem?_eq_some_iff.1 hv).1
 have ho:=(List.getElem?_eq_some_iff.1 hc).1
 rw [acp_sl (cs:=A ++ Z) (cs2:=encE x) (by simp) (by rw [List.getElem?_append_left hov]; exact hv) (by simp [hA]) (by omega)]
 simp [show (0 : Int)≤(i : Int) + 1 by omega,show i + 1≤n + 1 by omega]
 have m1 : min 1 (n + 1 - i)=1:=by omega
 have o1 : over (A ++ Z) (i * 9) (List.take (min 1 (n + 1 - i) * 9) (encE x))=A ++ encE x ++ Z.drop 9:=by
  rw [m1,List.take_of_length_le (by rw [hxl]; omega)]
  unfold over
  rw [List.take_append_of_le_length (by omega),List.take_of_length_le (by omega),hxl,← hA,List.drop_append,Nat.add_sub_cancel_left,List.drop_eq_nil_of_le (by omega),List.nil_append]
 rw [o1,acp_sl (cs:=A ++ encE x ++ Z.drop 9) (cs2:=cells) (by simp) (by rw [List.getElem?_append_left ho]; exact hc) (by simp [hA,hxl]; omega) (by rw [Nat.min_self]; omega)]
 have hB : (List.take ((n - i) * 9) (List.drop (off + i * 9) cells)).length=(n - i) * 9:=by rw [List.length_take,List.length_drop]; omega
 simp
 generalize List.take ((n - i) * 9) (List.drop (off + i * 9) cells)=B' at hB
 unfold over
 have l1 : (A ++ encE x).length=(i + 1) * 9:=by rw [List.length_append,hA,hxl]; omega
 rw [← List.append_assoc,List.take_append_of_le_length (by omega),List.take_of_length_le (by omega),List.drop_eq_nil_of_le (by rw [List.length_append,l1,List.length_drop,hB]; omega),List.append_nil,List.append_assoc]
theorem insE_place {H : AH} {o off n ov i c : Nat} {cells : List AV} {x : Ext} (hc : H[o]? = some (some (.cells cells))) (hl : off + n * 9≤cells.length) (hi : i < n) (hn : n≤100000000) (hcn : n + 1≤c) (hv : H[ov]? = some (some (.cells (encE x)))) (hne : ov ≠ o) :
  ACalls Tryz.prog 153 [.sl o off n 9 (.ex c),I i,.sl ov 0 1 9 (.ex 1)] H fun r H' => r = .sl o off (n + 1) 9 (.ex c) ∧
   ∃ rest,H'=H.set o (some (.cells (cells.take (off + i * 9) ++ encE x ++ (cells.drop (off + i * 9)).take ((n - i) * 9) ++ rest))):=by
 refine zclZ ?_
 unfold zbkZ
 have h1 : ¬ (i : Int)=n:=by omega
 have hxl:=zwZ x
 simp [aslS,abnd,Room.least,Room.cut,acpS,goInt,h1,show i≤n by omega,abI_add (a:=n) (b:=1) (by omega) (by omega),abI_sub (a:=(n : Int) + 1) (b:=i) (by omega) (by omega),hc,hl,abI_add (a:=i) (b:=1) (by omega) (by omega),show i≤c by omega,show n≤c by omega,show ¬ (c : Int) < n + 1 by omega,hcn,show (0 : Int)≤(n : Int) + 1 by omega,show (0 : Int)≤(i : Int) + 1 by omega,show i + 1≤n + 1 by omega,show i + 1≤c by omega]
 refine bP_of (overlaps_no hv hc hne (by omega) (by omega) (by intro h; rw [h] at hl; simp at hl; omega)) ?_
 simp
 have ho:=(List.getElem?_eq_some_iff.1 hc).1
 have mm : min (n + 1 - i) (n - i)=n - i:=by omega
 have m1 : min 1 (n + 1 - i)=1:=by omega
 simp only [show i≤n + 1 by omega,if_true,bO_some]
 rw [acp_sl (cs:=cells) (cs2:=cells) hc hc (by omega) (by rw [mm]; omega),mm]
 have hB : (List.take ((n - i) * 9) (List.drop (off + i * 9) cells)).length=(n - i) * 9:=by rw [List.length_take,List.length_drop]; omega
 generalize List.take ((n - i) * 9) (List.drop (off + i * 9) cells)=B' at hB
 simp only [bH_some]
 have l1 : (cells.take (off + (i + 1) * 9)).length=off + (i + 1) * 9:=by rw [List.length_take]; omega
 rw [acp_sl (cs:=over cells (off + (i + 1) * 9) B') (cs2:=encE x) (by simp [ho]) (by rw [List.getElem?_set_ne (Ne.symm hne)]; exact hv) (by unfold over; simp [l1]; omega) (by omega),m1,List.take_of_length_le (l:=(encE x).drop 0) (by simp [hxl])]
 simp only [bH_some,List.set_set,List.drop_zero]
 refine ⟨(cells.drop (off + (i + 1) * 9 + B'.length)), ?_⟩
 congr 3
 unfold over
 rw [hxl]
 have t1 : List.take (off + i * 9) (cells.take (off + (i + 1) * 9) ++ B' ++ cells.drop (off + (i + 1) * 9 + B'.length))=cells.take (off + i * 9):=by
  rw [List.append_assoc,List.take_append_of_le_length (by omega),List.take_take,Nat.min_eq_left (by omega)]
 have t2 : List.drop (off + i * 9 + 9) (cells.take (off + (i + 1) * 9) ++ B' ++ cells.drop (off + (i + 1) * 9 + B'.length))=B' ++ cells.drop (off + (i + 1) * 9 + B'.length):=by
  rw [List.append_assoc,show off + i * 9 + 9=(cells.take (off + (i + 1) * 9)).length by omega,List.drop_left]
 rw [t1,t2,List.append_assoc]
theorem bels_app {m : Nat} : ∀ {a b : List AV},Bels m a→Bels m b→Bels m (a ++ b)
 | [],b,_,h => h
 | x :: a,b,h1,h2 => by simp only [Bels,List.cons_append] at h1 ⊢; exact ⟨h1.1,bels_app h1.2 h2⟩
theorem bels_mem {m : Nat} : ∀ {a : List AV},Bels m a ↔ ∀ x ∈ a,Bel m x
 | [] => by simp [Bels]
 | x :: a => by simp only [Bels,List.mem_cons,forall_eq_or_imp,bels_mem (a:=a)]
theorem bels_enc (x : Ext) (m : Nat) : Bels m (encE x):=by
 rw [bels_mem]
 intro a ha
 simp only [encE,encB,List.mem_cons,List.mem_map] at ha
 rcases ha with rfl | ⟨b,_,rfl⟩ <;> simp only [Bel]
theorem insE_mid {H : AH} {o off n ov i : Nat} {cap : Room} {cells : List AV} {x : Ext} (hc : H[o]? = some (some (.cells cells))) (hl : off + n * 9≤cells.length) (hi : i < n) (hn : n≤100000000) (hv : H[ov]? = some (some (.cells (encE x)))) (hne : ov ≠ o) :
  BCall Tryz.prog 153 [.sl o off n 9 cap,I i,.sl ov 0 1 9 (.ex 1)] H (.sl H.length 0 (n + 1) 9 (.ge (n + 1)))
   (H.set o none ++ [some (.cells ((cells.drop off).take (i * 9) ++ encE x ++ (cells.drop (off + i * 9)).take ((n - i) * 9)))]):=by
 have ho:=(List.getElem?_eq_some_iff.1 hc).1
 have hxl:=zwZ x
 generalize hN : (cells.drop off).take (i * 9) ++ encE x ++ (cells.drop (off + i * 9)).take ((n - i) * 9)=N
 have hNl : N.length=(n + 1) * 9:=by
  rw [← hN,List.length_append,List.length_append,hxl,List.length_take,List.length_take,List.length_drop,List.length_drop]; omega
 have hall : ∀ c,n≤c→ACalls Tryz.prog 153 [.sl o off n 9 (.ex c),I i,.sl ov 0 1 9 (.ex 1)] H fun r H' =>
   (r = .sl H.length 0 (n + 1) 9 (.ge (n + 1))∧H'=H ++ [some (.cells N)])∨∃ c rest,n + 1≤c∧r = .sl o off (n + 1) 9 (.ex c)∧H'=H.set o (some (.cells (cells.take off ++ N ++ rest))):=by
  intro c hcn
  rcases Nat.lt_or_ge n c with h | h
  ·refine (insE_place hc hl hi hn h hv hne).mono ?_
   rintro r H' ⟨rfl,rest,rfl⟩
   refine .inr ⟨c,rest,h,rfl, ?_⟩
   congr 3
   rw [← hN,Nat.add_comm off (i * 9),Nat.add_comm (i * 9) off]
   have : cells.take (off + i * 9)=cells.take off ++ (cells.drop off).take (i * 9):=by rw [List.take_add]
   rw [this]
   simp [List.append_assoc]
  ·have : c=n:=by omega
   subst this
   refine (insE_grow hc hl hi hn hv).mono ?_
   rintro r H' ⟨rfl,rfl⟩
   exact .inl ⟨rfl,by rw [hN]⟩
 have hany : ACalls Tryz.prog 153 [.sl o off n 9 cap,I i,.sl ov 0 1 9 (.ex 1)] H fun r H' =>
   (r = .sl H.length 0 (n + 1) 9 (.ge (n + 1))∧H'=H ++ [some (.cells N)])∨∃ c rest,n + 1≤c∧r = .sl o off (n + 1) 9 (.ex c)∧H'=H.set o (some (.cells (cells.take off ++ N ++ rest))):=by
  cases cap with
  | ge k => exact ACalls.room fun c _ h => hall c h
  | ex c =>
   rcases Nat.lt_or_ge c n with h | h
   ·intro G vs hH hv
    exfalso
    simp only [VRs] at hv
    obtain ⟨v,r,rfl,h1,h2⟩:=hv
    simp only [VR] at h1
    obtain ⟨_,a,c',rfl,hlc,hs⟩:=h1
    simp only [SlAt] at hs
    omega
   ·exact hall c h
 refine ACalls.canon hany ?_
 rintro hb r1 H1 h1
 have hbN : Bels H.length N:=by
  have hbc : Bels H.length cells:=hb o _ hc
  rw [bels_mem] at hbc
  rw [← hN]
  refine bels_app (bels_app ?_ (bels_enc x _)) ?_
  ·rw [bels_mem]; exact fun a ha => hbc a (List.mem_of_mem_drop (List.mem_of_mem_take ha))
  ·rw [bels_mem]; exact fun a ha => hbc a (List.mem_of_mem_drop (List.mem_of_mem_take ha))
 rcases h1 with ⟨rfl,rfl⟩ | ⟨c,rest,hcn,rfl,rfl⟩
 ·refine ⟨_,_,_,Canon.grown hb hbN, ?_⟩
  intro G v hG hr
  refine ⟨?_,fun p ℓ h => by cases h⟩
  simp only [VR] at hr ⊢
  obtain ⟨q0,a,c,rfl,hlc,hs⟩:=hr
  refine ⟨by simp [Cfg.ren],a,c,rfl,hlc, ?_⟩
  simpa [Cfg.ren,idR,noLim] using hs
 ·refine ⟨_,_,_,Canon.placed (off:=off) (l:=c * 9) hb ho hbN (cs1:=cells.take off ++ N ++ rest) ?_ ?_ ?_, ?_⟩
  ·simp; omega
  ·have : (cells.take off).length=off:=by rw [List.length_take]; omega
   rw [List.append_assoc]
   conv => lhs; arg 2; arg 1; rw [← this]
   rw [List.drop_left,List.take_left]
  ·rw [hNl]; omega
  ·intro G v hG hr
   simp only [VR] at hr
   obtain ⟨q0,a,c',rfl,hlc,hs⟩:=hr
   simp only [SlAt] at hs
   obtain ⟨rfl,hs⟩:=hs
   have hs:=hs.resolve_left (by omega)
   obtain ⟨rfl,hs2⟩:=hs
   have e : atR H.length o off H.length=(o,off):=if_pos rfl
   have e2 : atL' H.length (c' * 9) H.length=some (c' * 9):=if_pos rfl
   refine ⟨?_, ?_⟩
   ·simp only [VR]
    refine ⟨by simp [Cfg.ren],_,c',rfl,by omega, ?_⟩
    simp only [SlAt]
    refine ⟨hcn,.inr ⟨by simp [Cfg.ren,e], ?_⟩⟩
    simp [Cfg.ren,e2]
   ·intro p ℓ h
    unfold atL' at h
    split at h
    ·rename_i hp
     injection h with h
     subst hp; subst h
     rw [e]; omega
    ·cases h
end Go.Proofs.YtlhiaihmkjlaaaaGreat.Av
end
section
namespace Go.Proofs.YtlhiaihmkjlaaaaGreat.Av
open Go Go.RowKit
theorem srt_mem : ∀ {l m : List Ext},srt l→srt m→(∀ x,x ∈ l ↔ x ∈ m)→l=m
 | [],[],_,_,_ => rfl
 | [],y :: m,_,_,h => by have:=(h y).2 (by simp); simp at this
 | x :: l,[],_,_,h => by have:=(h x).1 (by simp); simp at this
 | x :: l,y :: m,hl,hm,h => by
  have hl':=List.pairwise_cons.1 hl
  have hm':=List.pairwise_cons.1 hm
  have e : x=y:=by
   rcases List.mem_cons.1 ((h x).1 (by simp)) with e | h1
   ·exact e
   ·rcases List.mem_cons.1 ((h y).2 (by simp)) with e | h2
    ·exact e.symm
    ·have:=hm'.1 x h1; have:=hl'.1 y h2; omega
  subst e
  refine congrArg _ (srt_mem hl'.2 hm'.2 fun z => ?_)
  constructor
  ·intro hz
   rcases List.mem_cons.1 ((h z).1 (by simp [hz])) with e | h1
   ·have:=hl'.1 z hz; rw [e] at this; omega
   ·exact h1
  ·intro hz
   rcases List.mem_cons.1 ((h z).2 (by simp [hz])) with e | h1
   ·have:=hm'.1 z hz; rw [e] at this; omega
   ·exact h1
theorem ext_eq {x y : Ext} (h1 : x.no=y.no) (h2 : ∀ k,k < 8→x.b.getD k 0=y.b.getD k 0) : x=y:=by
 obtain ⟨a,b,hb⟩:=x
 obtain ⟨c,d,hd⟩:=y
 simp only at h1 h2
 subst h1
 have : b=d:=by
  refine List.ext_getElem (by omega) fun k hk1 hk2 => ?_
  have:=h2 k (by omega)
  rw [List.getD_eq_getElem?_getD,List.getD_eq_getElem?_getD,List.getElem?_eq_getElem hk1,List.getElem?_eq_getElem hk2] at this
  simpa using this
 subst this; rfl
theorem mem_get {l : List Ext} {x : Ext} (h : x ∈ l) : ∃ k : Nat,l[k]? = some x:=List.mem_iff_getElem?.1 h
theorem at_blk {l : List Ext} (hs : srt l) {x : Ext} (hx : x ∈ l) {k : Nat} (hk : k < 8) : atL l (x.no * 8 + k)=x.b.getD k 0:=by
 obtain ⟨i,hi⟩:=mem_get hx
 rw [atL_some hs hi (by omega),show ((x.no * 8 + (k : Int)) % 8).toNat=k by omega]
theorem srt_ext {l m : List Ext} (hl : srt l) (hm : srt m) (h1 : ∀ no,hasL l no ↔ hasL m no) (h2 : ∀ p,atL l p=atL m p) : l=m:=by
 have key : ∀ {l m : List Ext},srt l→srt m→(∀ no,hasL l no ↔ hasL m no)→(∀ p,atL l p=atL m p)→∀ x,x ∈ l→x ∈ m:=by
  intro l m hl hm h1 h2 x hx
  obtain ⟨y,hy,e⟩:=(h1 x.no).1 ⟨x,hx,rfl⟩
  have : x=y:=ext_eq e.symm fun k hk => by
   rw [← at_blk hl hx hk,← at_blk hm hy hk,h2,e]
  rw [this]; exact hy
 exact srt_mem hl hm fun x => ⟨key hl hm h1 h2 x,key hm hl (fun no => (h1 no).symm) (fun p => (h2 p).symm) x⟩
def newE (no : Int) : Ext:=⟨no,List.replicate 8 0,by simp⟩
def needL (l : List Ext) (no : Int) : List Ext:=if hasL l no then l else l.take (posL l no) ++ newE no :: l.drop (posL l no)
theorem posL_mem_lt {l : List Ext} {no : Int} {x : Ext} (h : x ∈ l.take (posL l no)) : x.no < no:=by
 obtain ⟨k,hk⟩:=mem_get h
 have h1:=(List.getElem?_eq_some_iff.1 hk).1
 rw [List.length_take] at h1
 rw [List.getElem?_take,if_pos (by omega)] at hk
 exact posL_lt (by omega) hk
theorem posL_mem_ge {l : List Ext} (hs : srt l) {no : Int} {x : Ext} (h : x ∈ l.drop (posL l no)) : no≤x.no:=by
 obtain ⟨k,hk⟩:=mem_get h
 rw [List.getElem?_drop] at hk
 cases h0 : l[posL l no]? with
 | none =>
  have h1:=(List.getElem?_eq_some_iff.1 hk).1
  rw [List.getElem?_eq_none_iff] at h0; omega
 | some y =>
  have h2:=posL_ge h0
  rcases Nat.eq_zero_or_pos k with h3 | h3
  ·subst h3; rw [Nat.add_zero,h0] at hk; injection hk with hk; rw [← hk]; exact h2
  ·have:=srt_get hs h0 hk (by omega); omega
theorem need_srt {l : List Ext} (hs : srt l) (no : Int) : srt (needL l no):=by
 unfold needL
 split
 ·exact hs
 ·rename_i h
  have hd : ∀ x ∈ l.drop (posL l no),no < x.no:=by
   intro x hx
   have h1:=posL_mem_ge hs hx
   have h2 : x.no ≠ no:=fun e => h ⟨x,List.mem_of_mem_drop hx,e⟩
   omega
  refine List.pairwise_append.2 ⟨List.Pairwise.sublist (List.take_sublist _ l) hs,List.pairwise_cons.2 ⟨hd,List.Pairwise.sublist (List.drop_sublist _ l) hs⟩, ?_⟩
  intro a ha b hb
  have h1:=posL_mem_lt ha
  rcases List.mem_cons.1 hb with rfl | hb
  ·exact h1
  ·have:=hd b hb; omega
theorem need_mem {l : List Ext} {no : Int} {x : Ext} : x ∈ needL l no ↔ x ∈ l∨(¬ hasL l no∧x=newE no):=by
 unfold needL
 split
 ·rename_i h; simp [h]
 ·rename_i h
  rw [List.mem_append,List.mem_cons]
  have : x ∈ l ↔ x ∈ l.take (posL l no)∨x ∈ l.drop (posL l no):=by rw [← List.mem_append,List.take_append_drop]
  rw [this]
  constructor
  ·rintro (h1 | h1 | h1)
   ·exact .inl (.inl h1)
   ·exact .inr ⟨h,h1⟩
   ·exact .inl (.inr h1)
  ·rintro ((h1 | h1) | ⟨_,h1⟩)
   ·exact .inl h1
   ·exact .inr (.inr h1)
   ·exact .inr (.inl h1)
theorem need_has {l : List Ext} {no a : Int} : hasL (needL l no) a ↔ hasL l a∨a=no:=by
 unfold hasL
 constructor
 ·rintro ⟨x,hx,e⟩
  rcases need_mem.1 hx with h | ⟨_,rfl⟩
  ·exact .inl ⟨x,h,e⟩
  ·exact .inr e.symm
 ·rintro (⟨x,hx,e⟩ | rfl)
  ·exact ⟨x,need_mem.2 (.inl hx),e⟩
  ·by_cases h : hasL l a
   ·obtain ⟨x,hx,e⟩:=h
    exact ⟨x,need_mem.2 (.inl hx),e⟩
   ·exact ⟨newE a,need_mem.2 (.inr ⟨h,rfl⟩),rfl⟩
theorem at_mem {l : List Ext} (hs : srt l) {x : Ext} (hx : x ∈ l) {p : Int} (h : x.no=p / 8) : atL l p=x.b.getD (p % 8).toNat 0:=by
 obtain ⟨k,hk⟩:=mem_get hx
 exact atL_some hs hk h
theorem need_at {l : List Ext} (hs : srt l) (no p : Int) : atL (needL l no) p=atL l p:=by
 by_cases h : hasL l (p / 8)
 ·obtain ⟨x,hx,e⟩:=h
  rw [at_mem hs hx e,at_mem (need_srt hs no) (need_mem.2 (.inl hx)) e]
 ·rw [atL_none h]
  by_cases h2 : p / 8=no
  ·rw [at_mem (need_srt hs no) (need_mem.2 (.inr ⟨h2 ▸ h,rfl⟩)) h2.symm]
   have : (p % 8).toNat < 8:=by omega
   simp only [newE]
   rw [List.getD_eq_getElem?_getD,List.getElem?_replicate,if_pos this]; rfl
  ·exact atL_none (fun h3 => (need_has.1 h3).elim h h2)
theorem need_pos {l : List Ext} (hs : srt l) (no : Int) : posL (needL l no) no=posL l no:=by
 unfold needL
 split
 ·rfl
 ·rename_i h
  have hp:=posL_le l no
  refine posL_eq (by simp; omega) ?_ ?_
  ·intro m x hm hx
   rw [List.getElem?_append_left (by rw [List.length_take]; omega),List.getElem?_take,if_pos hm] at hx
   exact posL_lt hm hx
  ·intro x hx
   rw [List.getElem?_append_right (by rw [List.length_take]; omega),List.length_take,show posL l no - min (posL l no) l.length=0 by omega] at hx
   simp at hx; rw [← hx]; simp [newE]
theorem need_get {l : List Ext} (hs : srt l) (no : Int) : ∃ x,(needL l no)[posL l no]? = some x∧x.no=no:=by
 have:=(hasL_iff (need_srt hs no) (no:=no)).1 (need_has.2 (.inr rfl))
 rwa [need_pos hs] at this
theorem need_len (l : List Ext) (no : Int) : (needL l no).length≤l.length + 1∧l.length≤(needL l no).length:=by
 have hp:=posL_le l no
 unfold needL
 split
 ·omega
 ·simp; omega
def putE (x : Ext) (off : Nat) (bs : List UInt8) : Ext:=if h : off + bs.length≤8 then ⟨x.no,x.b.take off ++ bs ++ x.b.drop (off + bs.length),by have:=x.hb; simp; omega⟩ else x
theorem putE_no (x : Ext) (off : Nat) (bs : List UInt8) : (putE x off bs).no=x.no:=by unfold putE; split <;> rfl
theorem putE_b {x : Ext} {off : Nat} {bs : List UInt8} (h : off + bs.length≤8) : (putE x off bs).b=x.b.take off ++ bs ++ x.b.drop (off + bs.length):=by unfold putE; rw [dif_pos h]
theorem putE_get {x : Ext} {off : Nat} {bs : List UInt8} (h : off + bs.length≤8) {k : Nat} (hk : k < 8) : (putE x off bs).b.getD k 0=if off≤k∧k < off + bs.length then bs.getD (k - off) 0 else x.b.getD k 0:=by
 have hb:=x.hb
 have h1 : (x.b.take off).length=off:=by rw [List.length_take]; omega
 rw [putE_b h]
 simp only [List.getD_eq_getElem?_getD]
 split
 ·rename_i c
  rw [List.getElem?_append_left (by rw [List.length_append]; omega),List.getElem?_append_right (by omega),h1]
 ·rename_i c
  by_cases c1 : k < off
  ·rw [List.append_assoc,List.getElem?_append_left (by omega),List.getElem?_take,if_pos c1]
  ·rw [List.getElem?_append_right (by rw [List.length_append]; omega),List.length_append,h1,List.getElem?_drop]
   congr 2; omega
def putL (l : List Ext) (no : Int) (off : Nat) (bs : List UInt8) : List Ext:=l.map fun x => if x.no=no then putE x off bs else x
theorem put_no (no : Int) (off : Nat) (bs : List UInt8) (x : Ext) : (if x.no=no then putE x off bs else x).no=x.no:=by split; exact putE_no ..; rfl
theorem srt_map {l : List Ext} {f : Ext→Ext} (hf : ∀ x ∈ l,(f x).no=x.no) (hs : srt l) : srt (l.map f):=by
 unfold srt at *
 rw [List.pairwise_map]
 refine hs.imp_of_mem fun ha hb h => ?_
 rw [hf _ ha,hf _ hb]; exact h
theorem map_has {l : List Ext} {f : Ext→Ext} (hf : ∀ x ∈ l,(f x).no=x.no) {no : Int} : hasL (l.map f) no ↔ hasL l no:=by
 unfold hasL
 constructor
 ·rintro ⟨y,hy,e⟩
  obtain ⟨x,hx,rfl⟩:=List.mem_map.1 hy
  exact ⟨x,hx,by rw [← e,hf x hx]⟩
 ·rintro ⟨x,hx,e⟩
  exact ⟨f x,List.mem_map.2 ⟨x,hx,rfl⟩,by rw [← e,hf x hx]⟩
theorem put_srt {l : List Ext} (hs : srt l) (no : Int) (off : Nat) (bs : List UInt8) : srt (putL l no off bs):=srt_map (fun x _ => put_no ..) hs
theorem put_has {l : List Ext} {no a : Int} {off : Nat} {bs : List UInt8} : hasL (putL l no off bs) a ↔ hasL l a:=map_has (fun x _ => put_no ..)
theorem put_at {l : List Ext} (hs : srt l) {no : Int} {off : Nat} {bs : List UInt8} (h : off + bs.length≤8) (hn : hasL l no) (p : Int) :
  atL (putL l no off bs) p=if no * 8 + off≤p∧p < no * 8 + off + bs.length then bs.getD (p - (no * 8 + off)).toNat 0 else atL l p:=by
 by_cases h0 : hasL l (p / 8)
 ·obtain ⟨x,hx,e⟩:=h0
  rw [at_mem (x:=if x.no=no then putE x off bs else x) (put_srt hs no off bs) (List.mem_map.2 ⟨x,hx,rfl⟩) (by rw [put_no]; exact e),at_mem hs hx e]
  by_cases c : x.no=no
  ·rw [if_pos c,putE_get h (by omega)]
   by_cases c2 : no * 8 + off≤p∧p < no * 8 + off + bs.length
   ·rw [if_pos c2,if_pos (by omega)]; congr 1; omega
   ·rw [if_neg c2,if_neg (by omega)]
  ·rw [if_neg c,if_neg (by omega)]
 ·rw [atL_none (by rw [put_has]; exact h0),atL_none h0,if_neg]
  intro c
  have : p / 8=no:=by omega
  exact h0 (this ▸ hn)
theorem put_set {l : List Ext} (hs : srt l) {k : Nat} {x : Ext} (hx : l[k]? = some x) (off : Nat) (bs : List UInt8) : l.set k (putE x off bs)=putL l x.no off bs:=by
 refine List.ext_getElem? fun i => ?_
 unfold putL
 rw [List.getElem?_map,List.getElem?_set]
 have hk:=(List.getElem?_eq_some_iff.1 hx).1
 by_cases h : k=i
 ·subst h
  obtain ⟨h1,h2⟩:=List.getElem?_eq_some_iff.1 hx
  simp [hk,h2]
 ·rw [if_neg h]
  cases hi : l[i]? with
  | none => rfl
  | some y =>
   have : y.no ≠ x.no:=by
    rcases Nat.lt_or_gt_of_ne h with h | h
    ·have:=srt_get hs hx hi h; omega
    ·have:=srt_get hs hi hx h; omega
   simp [this]
def needPut (l : List Ext) (p : Int) (bs : List UInt8) : List Ext:=putL (needL l (p / 8)) (p / 8) (p % 8).toNat bs
theorem np_srt {l : List Ext} (hs : srt l) (p : Int) (bs : List UInt8) : srt (needPut l p bs):=put_srt (need_srt hs _) ..
theorem np_has {l : List Ext} {p a : Int} {bs : List UInt8} : hasL (needPut l p bs) a ↔ hasL l a∨a=p / 8:=by unfold needPut; rw [put_has,need_has]
theorem np_at {l : List Ext} (hs : srt l) {p : Int} {bs : List UInt8} (h : p % 8 + bs.length≤8) (q : Int) : atL (needPut l p bs) q=if p≤q∧q < p + bs.length then bs.getD (q - p).toNat 0 else atL l q:=by
 unfold needPut
 rw [put_at (need_srt hs _) (by omega) (need_has.2 (.inr rfl)),need_at hs,show p / 8 * 8 + ((p % 8).toNat : Int)=p by omega]
def writeL (l : List Ext) (p : Int) : List UInt8→List Ext
 | [] => l
 | b :: r => writeL (needPut l p [b]) (p + 1) r
theorem wr_srt : ∀ {bs : List UInt8} {l : List Ext} (hs : srt l) (p : Int),srt (writeL l p bs)
 | [],l,hs,p => hs
 | b :: r,l,hs,p => wr_srt (np_srt hs p [b]) (p + 1)
theorem wr_has : ∀ {bs : List UInt8} {l : List Ext} {p a : Int},hasL (writeL l p bs) a ↔ hasL l a∨∃ q,p≤q∧q < p + bs.length∧a=q / 8
 | [],l,p,a => by
  unfold writeL
  simp only [List.length_nil]
  exact ⟨.inl,fun h => h.elim id fun ⟨q,h1,h2,_⟩ => by omega⟩
 | b :: r,l,p,a => by
  unfold writeL
  rw [wr_has,np_has]
  simp only [List.length_cons]
  constructor
  ·rintro ((h | h) | ⟨q,h1,h2,h3⟩)
   ·exact .inl h
   ·exact .inr ⟨p,by omega,by omega,h⟩
   ·exact .inr ⟨q,by omega,by omega,h3⟩
  ·rintro (h | ⟨q,h1,h2,h3⟩)
   ·exact .inl (.inl h)
   ·by_cases c : q=p
    ·exact .inl (.inr (c ▸ h3))
    ·exact .inr ⟨q,by omega,by omega,h3⟩
theorem wr_at : ∀ {bs : List UInt8} {l : List Ext} (hs : srt l) (p q : Int),atL (writeL l p bs) q=if p≤q∧q < p + bs.length then bs.getD (q - p).toNat 0 else atL l q
 | [],l,hs,p,q => by
  unfold writeL
  rw [if_neg (by simp only [List.length_nil]; omega)]
 | b :: r,l,hs,p,q => by
  unfold writeL
  rw [wr_at (np_srt hs p [b]),np_at hs (by simp only [List.length_cons,List.length_nil]; omega)]
  simp only [List.length_cons,List.length_nil]
  by_cases c : p + 1≤q∧q < p + 1 + r.length
  ·rw [if_pos c,if_pos (by omega),show (q - p).toNat=(q - (p + 1)).toNat + 1 by omega]; rfl
  ·rw [if_neg c]
   by_cases c2 : p=q
   ·subst c2
    rw [if_pos (by omega),if_pos (by omega)]; simp
   ·rw [if_neg (by omega),if_neg (by omega)]
theorem wr_app : ∀ {bs cs : List UInt8} {l : List Ext} {p : Int},writeL l p (bs ++ cs)=writeL (writeL l p bs) (p + bs.length) cs
 | [],cs,l,p => by simp [writeL]
 | b :: r,cs,l,p => by
  show writeL (needPut l p [b]) (p + 1) (r ++ cs)=writeL (writeL (needPut l p [b]) (p + 1) r) (p + (r.length + 1 : Nat)) cs
  rw [wr_app]; congr 1; omega
theorem wr_one {l : List Ext} (hs : srt l) {p : Int} {bs : List UInt8} (h : p % 8 + bs.length≤8) (hb : bs ≠ []) : needPut l p bs=writeL l p bs:=by
 have hlen : 0 < bs.length:=List.length_pos_iff.2 hb
 refine srt_ext (np_srt hs p bs) (wr_srt hs p) (fun a => ?_) (fun q => ?_)
 ·rw [np_has,wr_has]
  refine or_congr_right ⟨fun h1 => ⟨p,by omega,by omega,h1⟩, ?_⟩
  rintro ⟨q,h1,h2,rfl⟩; omega
 ·rw [np_at hs h,wr_at hs]
theorem wr_len : ∀ {bs : List UInt8} {l : List Ext} {p : Int},(writeL l p bs).length≤l.length + bs.length
 | [],l,p => by simp [writeL]
 | b :: r,l,p => by
  unfold writeL
  have h1:=wr_len (bs:=r) (l:=needPut l p [b]) (p:=p + 1)
  have h2 : (needPut l p [b]).length=(needL l (p / 8)).length:=by simp [needPut,putL]
  have h3:=(need_len l (p / 8)).1
  simp only [List.length_cons]; omega
theorem cleanB_iff {size : Int} : ∀ {b : List UInt8} {p : Int},cleanB size p b ↔ ∀ k : Nat,k < b.length→size≤p + k→b.getD k 0=0
 | [],p => by simp [cleanB]
 | x :: r,p => by
  unfold cleanB
  rw [cleanB_iff]
  constructor
  ·rintro ⟨h1,h2⟩ k hk hs
   cases k with
   | zero =>
    simp
    by_cases c : x=0
    ·exact c
    ·have:=h1 c; omega
   | succ k =>
    have:=h2 k (by simpa using hk) (by omega)
    simpa using this
  ·intro h
   refine ⟨fun hx => ?_,fun k hk hs => ?_⟩
   ·have:=h 0 (by simp)
    simp at this
    by_cases c : p < size
    ·exact c
    ·exact absurd (this (by omega)) hx
   ·have:=h (k + 1) (by simpa using hk) (by omega)
    simpa using this
theorem cleanE_iff {size : Int} {x : Ext} : cleanE size x ↔ ∀ k : Nat,k < 8→size≤x.no * 8 + k→x.b.getD k 0=0:=by
 have:=cleanB_iff (size:=size) (b:=x.b) (p:=x.no * 8)
 rw [x.hb] at this; exact this
theorem okL_iff {size : Int} : ∀ {l : List Ext} {p : Int},okL size p l ↔ srt l∧∀ x ∈ l,p < x.no∧x.no < 137438953472∧cleanE size x
 | [],p => by simp [okL,srt]
 | x :: r,p => by
  rw [okL_cons,okL_iff]
  constructor
  ·rintro ⟨h1,h2,h3,h4,h5⟩
   refine ⟨List.pairwise_cons.2 ⟨fun y hy => (h5 y hy).1,h4⟩,fun y hy => ?_⟩
   rcases List.mem_cons.1 hy with rfl | hy
   ·exact ⟨h1,h2,h3⟩
   ·have:=h5 y hy; exact ⟨by omega,this.2⟩
  ·rintro ⟨h1,h2⟩
   have h1':=List.pairwise_cons.1 h1
   have h3:=h2 x (by simp)
   refine ⟨h3.1,h3.2.1,h3.2.2,h1'.2,fun y hy => ?_⟩
   have:=h2 y (by simp [hy])
   exact ⟨h1'.1 y hy,this.2⟩
theorem okL_at {size : Int} {l : List Ext} : okL size (-1) l ↔ srt l∧(∀ no,hasL l no→0≤no∧no < 137438953472)∧∀ p,size≤p→atL l p=0:=by
 rw [okL_iff]
 constructor
 ·rintro ⟨hs,h⟩
  refine ⟨hs, ?_,fun p hp => ?_⟩
  ·rintro no ⟨x,hx,rfl⟩
   have:=h x hx; omega
  ·by_cases c : hasL l (p / 8)
   ·obtain ⟨x,hx,e⟩:=c
    rw [at_mem hs hx e]
    exact cleanE_iff.1 (h x hx).2.2 _ (by omega) (by omega)
   ·exact atL_none c
 ·rintro ⟨hs,h1,h2⟩
  refine ⟨hs,fun x hx => ?_⟩
  have:=h1 x.no ⟨x,hx,rfl⟩
  refine ⟨by omega,this.2,cleanE_iff.2 fun k hk hz => ?_⟩
  rw [← at_blk hs hx hk]; exact h2 _ hz
def wipeE (x : Ext) (a b : Int) : Ext:=⟨x.no,x.b.mapIdx fun k y => if a≤x.no * 8 + (k : Int)∧x.no * 8 + (k : Int) < b then 0 else y,by have:=x.hb; simpa using this⟩
theorem zgdZ {x : Ext} {a b : Int} {k : Nat} (hk : k < 8) : (wipeE x a b).b.getD k 0=if a≤x.no * 8 + (k : Int)∧x.no * 8 + (k : Int) < b then 0 else x.b.getD k 0:=by
 have hb:=x.hb
 unfold wipeE
 simp only [List.getD_eq_getElem?_getD,List.getElem?_mapIdx]
 rw [List.getElem?_eq_getElem (show k < x.b.length by omega)]
 rfl
def wipeL (l : List Ext) (a b : Int) : List Ext:=l.map fun x => wipeE x a b
theorem wipe_srt {l : List Ext} (hs : srt l) (a b : Int) : srt (wipeL l a b):=srt_map (fun _ _ => rfl) hs
theorem wipe_has {l : List Ext} {a b no : Int} : hasL (wipeL l a b) no ↔ hasL l no:=map_has (f:=fun x => wipeE x a b) (fun _ _ => rfl)
theorem wipe_at {l : List Ext} (hs : srt l) (a b p : Int) : atL (wipeL l a b) p=if a≤p∧p < b then 0 else atL l p:=by
 by_cases h : hasL l (p / 8)
 ·obtain ⟨x,hx,e⟩:=h
  rw [at_mem (x:=wipeE x a b) (wipe_srt hs a b) (List.mem_map.2 ⟨x,hx,rfl⟩) e,at_mem hs hx e,zgdZ (by omega)]
  rw [show x.no * 8 + ((p % 8).toNat : Int)=p by omega]
 ·rw [atL_none h,atL_none (by rw [wipe_has]; exact h)]; split <;> rfl
theorem filter_srt {l : List Ext} (hs : srt l) (f : Ext→Bool) : srt (l.filter f):=List.Pairwise.filter f hs
theorem filter_has {l : List Ext} {f : Int→Bool} {no : Int} : hasL (l.filter fun x => f x.no) no ↔ hasL l no∧f no=true:=by
 unfold hasL
 constructor
 ·rintro ⟨x,hx,rfl⟩
  rw [List.mem_filter] at hx
  exact ⟨⟨x,hx.1,rfl⟩,hx.2⟩
 ·rintro ⟨⟨x,hx,rfl⟩,h⟩
  exact ⟨x,List.mem_filter.2 ⟨hx,h⟩,rfl⟩
theorem filter_at {l : List Ext} (hs : srt l) {f : Int→Bool} (p : Int) : atL (l.filter fun x => f x.no) p=if f (p / 8)=true then atL l p else 0:=by
 by_cases h : hasL l (p / 8)
 ·obtain ⟨x,hx,e⟩:=h
  split
  ·rename_i c
   rw [at_mem (filter_srt hs _) (List.mem_filter.2 ⟨hx,by rw [e]; exact c⟩) e,at_mem hs hx e]
  ·rename_i c
   exact atL_none (fun h2 => c (filter_has.1 h2).2)
 ·rw [atL_none h,atL_none (fun h2 => h (filter_has.1 h2).1)]; split <;> rfl
def truncL (l : List Ext) (size : Int) : List Ext:=wipeL (l.filter fun x => decide (x.no * 8 < size)) size 1099511627776
theorem tr_srt {l : List Ext} (hs : srt l) (size : Int) : srt (truncL l size):=wipe_srt (filter_srt hs _) _ _
theorem tr_has {l : List Ext} {size no : Int} : hasL (truncL l size) no ↔ hasL l no∧no * 8 < size:=by
 unfold truncL
 rw [wipe_has,filter_has (f:=fun no => decide (no * 8 < size))]; simp
theorem tr_at {l : List Ext} (hs : srt l) {size : Int} (h : ∀ no,hasL l no→no < 137438953472) (p : Int) : atL (truncL l size) p=if p < size then atL l p else 0:=by
 unfold truncL
 rw [wipe_at (filter_srt hs _),filter_at hs (f:=fun no => decide (no * 8 < size))]
 by_cases c : p < size
 ·rw [if_neg (by omega),if_pos c,if_pos (by simp; omega)]
 ·rw [if_neg c]
  by_cases c2 : p < 1099511627776
  ·rw [if_pos ⟨by omega,c2⟩]
  ·rw [if_neg (by omega),atL_none]
   ·split <;> rfl
   ·intro h2; have:=h _ h2; omega
def gone (pos n no : Int) : Bool:=decide (pos≤no * 8) && decide (no * 8 + 8≤pos + n)
def punchL (l : List Ext) (pos n : Int) : List Ext:=wipeL (l.filter fun x => !gone pos n x.no) pos (pos + n)
theorem pu_srt {l : List Ext} (hs : srt l) (pos n : Int) : srt (punchL l pos n):=wipe_srt (filter_srt hs _) _ _
theorem pu_has {l : List Ext} {pos n no : Int} : hasL (punchL l pos n) no ↔ hasL l no∧¬ (pos≤no * 8∧no * 8 + 8≤pos + n):=by
 unfold punchL
 rw [wipe_has,filter_has (f:=fun no => !gone pos n no)]; simp [gone]; intro _; omega
theorem pu_at {l : List Ext} (hs : srt l) (pos n p : Int) : atL (punchL l pos n) p=if pos≤p∧p < pos + n then 0 else atL l p:=by
 unfold punchL
 rw [wipe_at (filter_srt hs _),filter_at hs (f:=fun no => !gone pos n no)]
 split
 ·rfl
 ·rename_i c
  split
  ·rfl
  ·rename_i c2
   simp [gone] at c2
   omega
def needs (l : List Ext) (no : Int) : Nat→List Ext
 | 0 => l
 | k + 1 => needs (needL l no) (no + 1) k
theorem ns_srt : ∀ {k : Nat} {l : List Ext} (hs : srt l) (no : Int),srt (needs l no k)
 | 0,l,hs,no => hs
 | k + 1,l,hs,no => ns_srt (k:=k) (need_srt hs no) (no + 1)
theorem ns_has : ∀ {k : Nat} {l : List Ext} {no a : Int},hasL (needs l no k) a ↔ hasL l a∨(no≤a∧a < no + k)
 | 0,l,no,a => by unfold needs; exact ⟨.inl,fun h => h.elim id fun h => by omega⟩
 | k + 1,l,no,a => by
  unfold needs
  rw [ns_has,need_has]
  constructor
  ·rintro ((h | h) | h)
   ·exact .inl h
   ·exact .inr (by omega)
   ·exact .inr (by omega)
  ·rintro (h | h)
   ·exact .inl (.inl h)
   ·by_cases c : a=no
    ·exact .inl (.inr c)
    ·exact .inr (by omega)
theorem ns_at : ∀ {k : Nat} {l : List Ext} (hs : srt l) (no p : Int),atL (needs l no k) p=atL l p
 | 0,l,hs,no,p => rfl
 | k + 1,l,hs,no,p => by
  unfold needs
  rw [ns_at (need_srt hs no),need_at hs]
theorem ns_succ : ∀ {k : Nat} {l : List Ext} {no : Int},needs l no (k + 1)=needL (needs l no k) (no + k)
 | 0,l,no => by simp [needs]
 | k + 1,l,no => by
  show needs (needL l no) (no + 1) (k + 1)=_
  rw [ns_succ (k:=k)]
  show needL (needs (needL l no) (no + 1) k) (no + 1 + k)=needL (needs (needL l no) (no + 1) k) (no + (k + 1 : Nat))
  congr 1; omega
theorem ns_len : ∀ {k : Nat} {l : List Ext} {no : Int},(needs l no k).length≤l.length + k∧l.length≤(needs l no k).length
 | 0,l,no => by simp [needs]
 | k + 1,l,no => by
  unfold needs
  have h1:=ns_len (k:=k) (l:=needL l no) (no:=no + 1)
  have h2:=need_len l no
  omega
def allocN (pos n : Int) : Nat:=((pos + n - 1) / 8 - pos / 8 + 1).toNat
def allocL (l : List Ext) (pos n : Int) : List Ext:=needs l (pos / 8) (allocN pos n)
abbrev Cont:=Int × List Ext
def writeC (c : Cont) (pos : Int) (bs : List UInt8) : Option Cont :=
 if mayC c.1 c.2∧0≤pos∧bs.length≤4096∧pos≤1099511627776 - bs.length then some (if bs=[] then c else (max c.1 (pos + bs.length),writeL c.2 pos bs)) else none
def truncC (c : Cont) (size : Int) : Option Cont:=if mayC c.1 c.2∧0≤size∧size≤1099511627776 then some (size,truncL c.2 size) else none
def allocC (c : Cont) (pos n : Int) (keep : Bool) : Option Cont :=
 if mayC c.1 c.2∧0≤pos∧1≤n∧n≤32768∧pos≤1099511627776 - n then some (if keep then c.1 else max c.1 (pos + n),allocL c.2 pos n) else none
def punchC (c : Cont) (pos n : Int) : Option Cont :=
 if mayC c.1 c.2∧0≤pos∧1≤n∧n≤1099511627776∧pos≤1099511627776 - n then some (c.1,punchL c.2 pos n) else none
theorem may_at {size : Int} {l : List Ext} : mayC size l ↔ 0≤size∧size≤1099511627776∧srt l∧(∀ no,hasL l no→0≤no∧no < 137438953472)∧∀ p,size≤p→atL l p=0:=by
 unfold mayC; rw [okL_at]
theorem may_write {c d : Cont} {pos : Int} {bs : List UInt8} (h : writeC c pos bs=some d) : mayC d.1 d.2:=by
 unfold writeC at h
 split at h
 ·rename_i g
  injection h with h
  subst h
  split
  ·exact g.1
  ·rename_i hb
   have hlen : 0 < bs.length:=List.length_pos_iff.2 hb
   obtain ⟨g1,g2,g3,g4⟩:=g
   rw [may_at] at g1 ⊢
   obtain ⟨a1,a2,a3,a4,a5⟩:=g1
   refine ⟨by simp only; omega,by simp only; omega,wr_srt a3 pos, ?_, ?_⟩
   ·intro no hno
    rcases wr_has.1 hno with h | ⟨q,h1,h2,h3⟩
    ·exact a4 no h
    ·omega
   ·intro p hp
    simp only at hp
    rw [wr_at a3,if_neg (by omega)]
    exact a5 p (by omega)
 ·cases h
theorem may_trunc {c d : Cont} {size : Int} (h : truncC c size=some d) : mayC d.1 d.2:=by
 unfold truncC at h
 split at h
 ·rename_i g
  injection h with h
  subst h
  obtain ⟨g1,g2,g3⟩:=g
  rw [may_at] at g1 ⊢
  obtain ⟨a1,a2,a3,a4,a5⟩:=g1
  refine ⟨g2,g3,tr_srt a3 size,fun no hno => a4 no (tr_has.1 hno).1,fun p hp => ?_⟩
  rw [tr_at a3 (fun no h => (a4 no h).2),if_neg (by simp only at hp; omega)]
 ·cases h
theorem may_alloc {c d : Cont} {pos n : Int} {keep : Bool} (h : allocC c pos n keep=some d) : mayC d.1 d.2:=by
 unfold allocC at h
 split at h
 ·rename_i g
  injection h with h
  subst h
  obtain ⟨g1,g2,g3,g4,g5⟩:=g
  rw [may_at] at g1 ⊢
  obtain ⟨a1,a2,a3,a4,a5⟩:=g1
  refine ⟨by simp only; split <;> omega,by simp only; split <;> omega,ns_srt a3 _,fun no hno => ?_,fun p hp => ?_⟩
  ·rcases ns_has.1 hno with h | h
   ·exact a4 no h
   ·unfold allocN at h; omega
  ·unfold allocL
   rw [ns_at a3]
   refine a5 p ?_
   simp only at hp
   split at hp <;> omega
 ·cases h
theorem may_punch {c d : Cont} {pos n : Int} (h : punchC c pos n=some d) : mayC d.1 d.2:=by
 unfold punchC at h
 split at h
 ·rename_i g
  injection h with h
  subst h
  obtain ⟨g1,g2,g3,g4,g5⟩:=g
  rw [may_at] at g1 ⊢
  obtain ⟨a1,a2,a3,a4,a5⟩:=g1
  refine ⟨a1,a2,pu_srt a3 _ _,fun no hno => a4 no (pu_has.1 hno).1,fun p hp => ?_⟩
  rw [pu_at a3]
  split
  ·rfl
  ·exact a5 p hp
 ·cases h
end Go.Proofs.YtlhiaihmkjlaaaaGreat.Av
end
section
namespace Go.Proofs.YtlhiaihmkjlaaaaGreat.Av
open Go Go.RowKit
theorem zuZ {v : AV} (h : ownedS v=true) : oneA v=true:=by
 unfold ownedS at h
 split at h
 ·rfl
 ·rfl
 ·rfl
 ·cases h
theorem zsgZ {α : Type} {enc : α→List AV} {sz : Nat} (hsz : ∀ x,(enc x).length=sz) : ∀ (l : List α) (i : Nat),(l.flatMap enc).take (i * sz)=(l.take i).flatMap enc
 | [],i => by simp
 | a :: l,0 => by simp
 | a :: l,i + 1 => by
  have ha:=hsz a
  rw [List.take_succ_cons,List.flatMap_cons,List.flatMap_cons,← zsgZ hsz l i,show (i + 1) * sz=(enc a).length + i * sz by rw [ha,Nat.succ_mul]; omega,List.take_length_add_append]
theorem zqeZ {α : Type} {enc : α→List AV} {sz : Nat} (hsz : ∀ x,(enc x).length=sz) : ∀ (l : List α) (i : Nat),(l.flatMap enc).drop (i * sz)=(l.drop i).flatMap enc
 | [],i => by simp
 | a :: l,0 => by simp
 | a :: l,i + 1 => by
  have ha:=hsz a
  rw [List.drop_succ_cons,List.flatMap_cons,← zqeZ hsz l i,show (i + 1) * sz=(enc a).length + i * sz by rw [ha,Nat.succ_mul]; omega,List.drop_length_add_append]
def Grew (H H' : AH) : Prop:=H.length≤H'.length∧∀ i,i < H.length→H'[i]? = H[i]?
theorem Grew.refl (H : AH) : Grew H H:=⟨Nat.le_refl _,fun _ _ => rfl⟩
theorem Grew.trans {A B C : AH} (h : Grew A B) (k : Grew B C) : Grew A C:=⟨Nat.le_trans h.1 k.1,fun i hi => (k.2 i (Nat.lt_of_lt_of_le hi h.1)).trans (h.2 i hi)⟩
theorem Grew.app (H X : AH) : Grew H (H ++ X):=⟨by simp,fun i hi => List.getElem?_append_left hi⟩
theorem Grew.cells {H H' : AH} (h : Grew H H') {o : Nat} {x : Option AObj} (ho : H[o]? = some x) : H'[o]? = some x:=by
 rw [h.2 o (List.getElem?_eq_some_iff.1 ho).1]; exact ho
theorem Grew.slice {H H' : AH} (h : Grew H H') {sz : Nat} {v : AV} {q : List AV × Nat} (hv : zaZ H sz v=some q) : zaZ H' sz v=some q :=
 zbZ hv fun i hi => h.2 i (ziZ hv i hi)
theorem nilS_slice {H : AH} {sz : Nat} {v : AV} {cs : List AV} {n : Nat} (h : zaZ H sz v=some (cs,n)) : (v=nilSl∧cs=[]∧n=0)∨abN .eql nilS v nilSl=some (B false):=by
 unfold zaZ at h
 split at h
 ·exact .inr rfl
 ·exact .inr rfl
 ·injection h with h; injection h with h1 h2; exact .inl ⟨rfl,h1.symm,h2.symm⟩
 ·exact .inr rfl
 ·cases h
theorem ext_Clone_c {H : AH} {v : AV} {cs : List AV} {n : Nat} (h : zaZ H 9 v=some (cs,n)) (hn : n≤1000000000) :
  ∃ r H',(ownedS r=true∧zaZ H' 9 r=some (cs,n)∧Grew H H'∧∀ i ∈ idS r,H.length≤i)∧BCall Tryz.prog 150 [v] H r H':=zlpZ (by
 unfold zdrZ
 rcases nilS_slice h with ⟨rfl,rfl,rfl⟩ | hb
 ·have e : abN .eql nilS nilSl nilSl=some (B true):=rfl
  simp only [e,bO_some,bB_bool,bI_true]
  exact ⟨rfl,h,Grew.refl H,by simp [idS]⟩
 ·simp only [hb,bO_some,bB_bool,zxZ]
  have e : absl H 9 0 (zrow [(.lit (.int .i64 0)),(.lit (.int .u8 0)),(.lit (.int .u8 0)),(.lit (.int .u8 0)),(.lit (.int .u8 0)),(.lit (.int .u8 0)),(.lit (.int .u8 0)),(.lit (.int .u8 0)),(.lit (.int .u8 0))] 0) []=some (.sl H.length 0 0 9 (.ex 0),H ++ [some (.cells [])]):=rfl
  simp only [e,bH_some]
  have g:=Grew.app H [some (.cells [])]
  obtain ⟨r,H2,a1,a2,a3,a4,a5,a6⟩:=zlvZ (sz:=9) (bytes:=16) (H:=H ++ [some (.cells [])]) (v:=.sl H.length 0 0 9 (.ex 0)) (cs:=[]) (n:=0) (by simp [zaZ]) rfl (zgZ (g.slice h)) (by omega)
  simp only [a1,bH_some]
  refine ⟨a2,by simpa using a3,⟨by simp at a4; omega,fun i hi => ?_⟩,fun i hi => ?_⟩
  ·rw [a5 i (by simp; omega) (by simp [idS]; omega)]
   exact g.2 i hi
  ·rcases a6 i hi with h | h
   ·simp [idS] at h; omega
   ·simp at h; omega)
theorem copied_c {H : AH} {size : Int} {v : AV} {cs : List AV} {n : Nat} (h : zaZ H 9 v=some (cs,n)) (h1 : oneA v=true) (hn : n≤1000000000) :
  ∃ r H',(∃ w,r = .agg [I size,w]∧ownedS w=true∧zaZ H' 9 w=some (cs,n)∧Grew H H'∧∀ i ∈ idS w,H.length≤i)∧BCall Tryz.prog 94 [.agg [I size,v]] H r H':=extent_copied_ok (by
 unfold extent_copied
 have g:=Grew.app H [some (.cells [I size,v]),some (.cells [I 0,nilSl])]
 obtain ⟨w,H2,⟨a2,a3,a4,a5⟩,a1⟩:=ext_Clone_c (g.slice h) hn
 have c0:=a4.cells (o:=H.length) (x:=some (.cells [I size,v])) (by simp)
 have c1:=a4.cells (o:=H.length + 1) (x:=some (.cells [I 0,nilSl])) (by rw [List.getElem?_append_right (by omega)]; simp)
 have l2 : H.length + 2≤H2.length:=by have:=a4.1; simpa using this
 have hw:=zuZ a2
 simp [h1]
 refine bC_of a1 ?_
 simp [zbbZ hw]
 rw [ast_ptr (n:=2) (off:=0) (x:=.agg [I size,w]) (xs:=[I size,w]) (cs:=[I 0,nilSl]) (by simp [hw]) c1 rfl (by simp)]
 simp [show H.length + 1 < H2.length by omega,c0,rdCells]
 refine ⟨a2,zbZ a3 fun i hi => List.getElem?_set_ne ?_, ?_,fun i hi => ?_⟩
 ·have:=a5 i hi; simp at this; omega
 ·refine ⟨by simp; omega,fun i hi => ?_⟩
  rw [List.getElem?_set_ne (by omega),a4.2 i (by simp; omega),g.2 i hi]
 ·have:=a5 i hi; simp at this; omega)
theorem insE_ok {H : AH} {s : AV} {cs : List AV} {n ov i : Nat} {x : Ext} (hs : zaZ H 9 s=some (cs,n)) (ho : ownedS s=true) (hi : i≤n) (hn : n≤100000000) (hv : H[ov]? = some (some (.cells (encE x)))) (hne : ov ∉ idS s) :
  ∃ r H',InsP H s (cs.take (i * 9) ++ encE x ++ cs.drop (i * 9)) n r H'∧BCall Tryz.prog 153 [s,I i,.sl ov 0 1 9 (.ex 1)] H r H':=by
 have hcl:=zbsZ hs
 rcases Nat.lt_or_ge i n with h | h
 ·obtain ⟨o,off,cap,cells,rfl,h1,h2,rfl⟩:=owned_sl hs ho (by omega)
  have hov : ov ≠ o:=by simpa [idS] using hne
  have hol:=(List.getElem?_eq_some_iff.1 h1).1
  have hxl:=zwZ x
  have e1 : ((cells.drop off).take (n * 9)).take (i * 9)=(cells.drop off).take (i * 9):=by rw [List.take_take]; congr 1; omega
  have e2 : ((cells.drop off).take (n * 9)).drop (i * 9)=(cells.drop (off + i * 9)).take ((n - i) * 9):=by rw [List.drop_take,List.drop_drop]; congr 1; omega
  refine ⟨_,_, ?_,insE_mid h1 h2 h hn hv hov⟩
  rw [e1,e2]
  refine ⟨rfl, ?_,by simp,fun j hj hn => ?_,fun j hj => .inr (by simp [idS] at hj; omega)⟩
  ·rw [zbcZ (c:=(cells.drop off).take (i * 9) ++ encE x ++ (cells.drop (off + i * 9)).take ((n - i) * 9)) (by rw [List.getElem?_append_right (by simp)]; simp) (by simp; omega)]
   rw [List.drop_zero,List.take_of_length_le (by simp; omega)]
  ·rw [List.getElem?_append_left (by simpa using hj),List.getElem?_set_ne (by simp [idS] at hn; omega)]
 ·have : i=n:=by omega
  subst this
  obtain ⟨r,H',h1,h2⟩:=insE_end hs ho hn hv
  refine ⟨r,H', ?_,h2⟩
  rw [List.take_of_length_le (by omega),List.drop_of_length_le (by omega),List.append_nil]
  exact h1
def ContP (H : AH) (oc : Nat) (size : Int) (v : AV) (l : List Ext) (H' : AH) : Prop :=
 ∃ v',H'[oc]? = some (some (.cells [I size,v']))∧zaZ H' 9 v'=some (l.flatMap encE,l.length)∧ownedS v'=true∧oc ∉ idS v'∧H.length≤H'.length∧(∀ i,i < H.length→i ≠ oc→i ∉ idS v→H'[i]? = H[i]?)∧∀ i ∈ idS v',i ∈ idS v∨H.length≤i
theorem encE_new (no : Int) : encE (newE no)=[I no,.lit (.int .u8 0),.lit (.int .u8 0),.lit (.int .u8 0),.lit (.int .u8 0),.lit (.int .u8 0),.lit (.int .u8 0),.lit (.int .u8 0),.lit (.int .u8 0)]:=rfl
theorem extent_need_c' {H : AH} {oc : Nat} {size no : Int} {v : AV} {l : List Ext} (hc : H[oc]? = some (some (.cells [I size,v]))) (hv : zaZ H 9 v=some (l.flatMap encE,l.length)) (ho : ownedS v=true) (hne : oc ∉ idS v) (hs : srt l) (hl : l.length≤100000000) :
  ∃ H',ContP H oc size v (needL l no) H'∧BCall Tryz.prog 95 [.ptr oc 0,I no] H (I (posL l no)) H':=by
 have key : ∃ r H',(r=I (posL l no)∧ContP H oc size v (needL l no) H')∧BCall Tryz.prog 95 [.ptr oc 0,I no] H r H':=extent_need_ok (by
  unfold extent_need
  have hol:=(List.getElem?_eq_some_iff.1 hc).1
  obtain ⟨R,hR,fR⟩:=FZ.sv hv (zjcZ fun x _ => znqZ x)
  have h1:=zuZ ho
  simp [hc]
  refine bP_of (PCall.lend (FZs.cons fR (FZs.cons (FZ.lit _) FZs.nil)) rfl (extent_place_p hR hs (by omega) no)) ?_
  simp
  by_cases hh : hasL l no
  ·have e : needL l no=l:=if_pos hh
   simp [hh]
   rw [zubZ]
   unfold zpsZ
   rw [e]
   exact ⟨rfl,v,hc,hv,ho,hne,Nat.le_refl _,fun _ _ _ _ => rfl,fun i hi => .inl hi⟩
  ·have e : needL l no=l.take (posL l no) ++ newE no :: l.drop (posL l no):=if_neg hh
   simp [hh]
   have g:=Grew.app H [some (.cells (encE (newE no)))]
   obtain ⟨r,H2,⟨b1,b2,b3,b4,b5⟩,a1⟩:=insE_ok (x:=newE no) (ov:=H.length) (g.slice hv) ho (posL_le l no) hl (by simp) (fun h => by have:=ziZ hv _ h; omega)
   rw [← encE_new]
   refine bC_of a1 ?_
   have c2 : H2[oc]? = some (some (.cells [I size,v])):=by
    rw [b4 oc (by simp; omega) hne]; exact g.cells hc
   have hr:=zuZ b1
   have hol2:=(List.getElem?_eq_some_iff.1 c2).1
   rw [ast_ptr (n:=1) (off:=1) (xs:=[r]) (cs:=[I size,v]) (zbbZ hr) c2 rfl (by simp)]
   simp
   rw [zubZ]
   unfold zpsZ
   have hoc : oc ∉ idS r:=fun h => (b5 oc h).elim hne (fun h => by simp at h; omega)
   refine ⟨rfl,r,by simp [hol2], ?_,b1,hoc,by simp at b3; simp; omega,fun i hi h1 h2 => ?_,fun i hi => (b5 i hi).imp id (fun h => by simp at h; omega)⟩
   ·rw [zbZ b2 (fun i hi => List.getElem?_set_ne (fun (h : oc=i) => hoc (h ▸ hi)))]
    rw [zsgZ zwZ,zqeZ zwZ,e,List.flatMap_append,List.flatMap_cons,List.append_assoc]
    have:=posL_le l no
    simp; omega
   ·rw [List.getElem?_set_ne (by omega),b4 i (by simp; omega) h2]
    exact g.2 i hi)
 obtain ⟨r,H',⟨rfl,h1⟩,h2⟩:=key
 exact ⟨H',h1,h2⟩
end Go.Proofs.YtlhiaihmkjlaaaaGreat.Av
end
