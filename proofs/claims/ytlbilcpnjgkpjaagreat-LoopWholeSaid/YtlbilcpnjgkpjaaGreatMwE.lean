/- Texts of this proof, one behind the other, packed into one file by a program of this session. No condition. -/
import Derived.Test.YtlbilcpnjgkpjaaGreatMwD
import Derived.ChangeArms
import Derived.DataElems
import Derived.DataReads
import Derived.Laws.IdiomStrings
import Derived.Lib.Bytealg
import Derived.Lib.Overlaps
import Derived.OpenShut
set_option linter.unusedVariables false
set_option linter.unusedSimpArgs false
set_option maxRecDepth 100000
section
namespace Go.Proofs.YtlbilcpnjgkpjaaGreat.Av
open Go
def pqb : FuncId→Bool:=inL [85,67,86,46,87,104,61,90,63,66,97,62,35,54,91,99,101,102,114]
def pqba : FuncId→Bool:=inL [105,107]
def image_copied_fl : Floats:=flOf []
def image_copied_kp : Nat→Option (List Bool):=kpOf []
def image_copied (a0 : AV) (H : AH) (K : AV→AH→Prop) : Prop :=
 bH (anew H a0) fun v0 H1 =>
 bH (anew H1 (.agg [(.lit (.int .i64 0)),(.lit (.slice none 0 0))])) fun v2 H3 =>
 bO (ashift 0 v0) fun v4 =>
 bO (ald false 1 H3 v4) fun v5 =>
 bO (ashift 1 v0) fun v6 =>
 bO (ald false 1 H3 v6) fun v7 =>
 bP (BPure Tryz.prog 90 [v7]) fun v8 =>
 bO (abl [(.lit (.int .i64 0)),(.lit (.slice none 0 0))] [(0,1,v5),(1,1,v8)]) fun v9 =>
 bS (ast 2 H3 v2 v9) fun H10 =>
 bO (ald true 2 H10 v2) fun v11 =>
 K v11 H10
theorem image_copied_eq (a0 : AV) (H : AH) (K : AV→AH→Prop) : sFun Tryz.prog image_copied_fl pqb none0 none0 image_copied_kp Tryz.f61 [a0] H K=image_copied a0 H K:=by kernel_rfl
theorem image_copied_ok {a0 : AV} {H : AH} {K : AV→AH→Prop} (h : image_copied a0 H K) : ∃ r H',K r H'∧BCall Tryz.prog 61 [a0] H r H' :=
 sFun_ok mixP Tryz.func61 (by kernel_rfl) (Eq.mpr (image_copied_eq a0 H K) h)
def image_Find_fl : Floats:=flOf []
def image_Find_kp : Nat→Option (List Bool):=kpOf []
def image_Find (a0 a1 : AV) (H : AH) (K : AV→AH→Prop) : Prop :=
 bH (anew H a0) fun v0 H1 =>
 bO (ald true 2 H1 v0) fun v2 =>
 bP (PCall Tryz.prog 54 [v2] H1) fun v3 =>
 bO (aun .not v3) fun v4 =>
 bB v4 fun t5 => bI t5 (
 K (.tup [(.lit (.int .i64 0)),(.lit (.bool false))]) H1)
 (bO (ald true 2 H1 v0) fun v6 =>
 bC (BCall Tryz.prog 81 [v6,a1] H1) fun v7 H8 =>
 bO (zhZ v7 0) fun v9 =>
 bO (zhZ v7 1) fun v10 =>
 bO (aun .not v10) fun v11 =>
 bB v11 fun t12 => bI t12 (
 K (.tup [(.lit (.int .i64 0)),(.lit (.bool false))]) H8)
 (bO (ashift 0 v0) fun v13 =>
 bO (ald false 1 H8 v13) fun v14 =>
 bO (aixS 2 v14 v9) fun v15 =>
 bO (ashift 1 v15) fun v16 =>
 bO (ald false 1 H8 v16) fun v17 =>
 K (.tup [v17,(.lit (.bool true))]) H8))
theorem image_Find_eq (a0 a1 : AV) (H : AH) (K : AV→AH→Prop) : sFun Tryz.prog image_Find_fl pqb none0 none0 image_Find_kp Tryz.f63 [a0,a1] H K=image_Find a0 a1 H K:=by kernel_rfl
theorem image_Find_ok {a0 a1 : AV} {H : AH} {K : AV→AH→Prop} (h : image_Find a0 a1 H K) : ∃ r H',K r H'∧BCall Tryz.prog 63 [a0,a1] H r H' :=
 sFun_ok mixP Tryz.func63 (by kernel_rfl) (Eq.mpr (image_Find_eq a0 a1 H K) h)
def image_Get_fl : Floats:=flOf []
def image_Get_kp : Nat→Option (List Bool):=kpOf []
def image_Get (a0 a1 : AV) (H : AH) (K : AV→AH→Prop) : Prop :=
 bH (anew H a0) fun v0 H1 =>
 bH (anew H1 (.agg [(.lit (.int .i64 0)),(.lit (.slice none 0 0))])) fun v2 H3 =>
 bO (ald true 2 H3 v0) fun v4 =>
 bP (PCall Tryz.prog 54 [v4] H3) fun v5 =>
 bO (aun .not v5) fun v6 =>
 bB v6 fun t7 => bI t7 (
 bO (abl [(.lit (.int .i64 0)),(.lit (.slice none 0 0))] []) fun v8 =>
 bS (ast 2 H3 v2 v8) fun H9 =>
 bO (ald true 2 H9 v2) fun v10 =>
 K (.tup [v10,(.lit (.bool false))]) H9)
 (bO (ald true 2 H3 v0) fun v11 =>
 bC (BCall Tryz.prog 82 [v11,a1] H3) fun v12 H13 =>
 bO (zhZ v12 0) fun v14 =>
 bO (zhZ v12 1) fun v15 =>
 bO (aun .not v15) fun v16 =>
 bB v16 fun t17 => bI t17 (
 bO (abl [(.lit (.int .i64 0)),(.lit (.slice none 0 0))] []) fun v18 =>
 bS (ast 2 H13 v2 v18) fun H19 =>
 bO (ald true 2 H19 v2) fun v20 =>
 K (.tup [v20,(.lit (.bool false))]) H19)
 (bO (ashift 1 v0) fun v21 =>
 bO (ald false 1 H13 v21) fun v22 =>
 bO (aixS 3 v22 v14) fun v23 =>
 bO (ashift 1 v23) fun v24 =>
 bO (ald true 2 H13 v24) fun v25 =>
 bP (PCall Tryz.prog 61 [v25] H13) fun v26 =>
 bS (ast 2 H13 v2 v26) fun H27 =>
 bO (ald true 2 H27 v2) fun v28 =>
 K (.tup [v28,(.lit (.bool true))]) H27))
theorem image_Get_eq (a0 a1 : AV) (H : AH) (K : AV→AH→Prop) : sFun Tryz.prog image_Get_fl pqb none0 none0 image_Get_kp Tryz.f66 [a0,a1] H K=image_Get a0 a1 H K:=by kernel_rfl
theorem image_Get_ok {a0 a1 : AV} {H : AH} {K : AV→AH→Prop} (h : image_Get a0 a1 H K) : ∃ r H',K r H'∧BCall Tryz.prog 66 [a0,a1] H r H' :=
 sFun_ok mixP Tryz.func66 (by kernel_rfl) (Eq.mpr (image_Get_eq a0 a1 H K) h)
def image_Used_fl : Floats:=flOf []
def image_Used_kp : Nat→Option (List Bool):=kpOf [(7,mk 24 0 [3,10,11,12])]
def zpkZ (p : List Bool) (n : Nat) : List AV→AH→Kf→Prop:=sCode Tryz.prog image_Used_fl pqb none0 none0 image_Used_kp (sub p (bodyOf Tryz.f97)) n
def image_Used_L7 (x3 x10 x11 x12 : AV) (H : AH) (K : AV→AH→Prop) : Prop:=lp (mk 24 0 [3,10,11,12]) (zpkZ [true,true,true,false,true,false,false] 8) [x3,x10,x11,x12] H (kBlk 0 (kSeq (zpkZ [true,true,true,true] 12) (kRet Tryz.prog Tryz.f97.results.toList K)))
def zmjZ (R7 : List AV→AH→Prop) (x3 x10 x11 x12 : AV) (H : AH) (K : AV→AH→Prop) : Prop :=
 bO (abI .lss x12 x11) fun v0 =>
 bB v0 fun t1 => bI t1 (
 bO (aixS 3 x10 x12) fun v2 =>
 bO (ald true 3 H v2) fun v3 =>
 bH (anew H (.agg [(.lit (.int .i64 0)),(.lit (.int .i64 0)),(.lit (.slice none 0 0))])) fun v4 H5 =>
 bS (ast 3 H5 v4 v3) fun H6 =>
 bO (ashift 1 v4) fun v7 =>
 bO (ashift 1 v7) fun v8 =>
 bO (ald false 1 H6 v8) fun v9 =>
 bO (alnS v9) fun v10 =>
 bO (abI .add x3 v10) fun v11 =>
 bO (abI .add x12 (.lit (.int .i64 1))) fun v12 =>
 R7 [v11,x10,x11,v12] H6)
 (K x3 H)
theorem image_Used_L7_eq (R7 : List AV→AH→Prop) (x3 x10 x11 x12 : AV) (H : AH) (K : AV→AH→Prop) : zpkZ [true,true,true,false,true,false,false] 8 (expand (mk 24 0 [3,10,11,12]) [x3,x10,x11,x12]) H (kLp (mk 24 0 [3,10,11,12]) R7 (kBlk 0 (kSeq (zpkZ [true,true,true,true] 12) (kRet Tryz.prog Tryz.f97.results.toList K))))=zmjZ R7 x3 x10 x11 x12 H K:=by kernel_rfl
theorem image_Used_L7_rule {K : AV→AH→Prop} (I : Nat→AV→AV→AV→AV→AH→Prop) (round : ∀ (n : Nat) (x3 x10 x11 x12 : AV) (H : AH) (R : List AV→AH→Prop),(∀ (m : Nat) (y3 y10 y11 y12 : AV) (H' : AH),m < n→I m y3 y10 y11 y12 H'→R [y3,y10,y11,y12] H')→I n x3 x10 x11 x12 H→zmjZ R x3 x10 x11 x12 H K) (n : Nat) {x3 x10 x11 x12 : AV} {H : AH} (h : I n x3 x10 x11 x12 H) : image_Used_L7 x3 x10 x11 x12 H K:=by
 refine lp_upto (zvZ _ _) (LI4 I) ?_ n h
 intro n X H h
 obtain ⟨x3,x10,x11,x12,rfl,h⟩:=h.elim
 exact Eq.mpr (image_Used_L7_eq _ x3 x10 x11 x12 H K) (round n x3 x10 x11 x12 H (fun X H' => ∃ m,m < n∧LI4 I m X H') (fun m y3 y10 y11 y12 H' hm hi => ⟨m,hm,hi⟩) h)
def image_Used (a0 : AV) (H : AH) (K : AV→AH→Prop) : Prop :=
 bH (anew H a0) fun v0 H1 =>
 bO (ald true 2 H1 v0) fun v2 =>
 bP (PCall Tryz.prog 54 [v2] H1) fun v3 =>
 bO (aun .not v3) fun v4 =>
 bB v4 fun t5 => bI t5 (
 K (.lit (.int .i64 0)) H1)
 (bO (ashift 1 v0) fun v6 =>
 bO (ald false 1 H1 v6) fun v7 =>
 bO (alnS v7) fun v8 =>
 image_Used_L7 (.lit (.int .i64 0)) v7 v8 (.lit (.int .i64 0)) H1 K)
theorem image_Used_eq (a0 : AV) (H : AH) (K : AV→AH→Prop) : sFun Tryz.prog image_Used_fl pqb none0 none0 image_Used_kp Tryz.f97 [a0] H K=image_Used a0 H K:=by kernel_rfl
theorem image_Used_ok {a0 : AV} {H : AH} {K : AV→AH→Prop} (h : image_Used a0 H K) : ∃ r H',K r H'∧BCall Tryz.prog 97 [a0] H r H' :=
 sFun_ok mixP Tryz.func97 (by kernel_rfl) (Eq.mpr (image_Used_eq a0 H K) h)
def zpzZ : Floats:=flOf []
def zpyZ : Nat→Option (List Bool):=kpOf [(6,mk 27 0 [0,17,18])]
def zjiZ (p : List Bool) (n : Nat) : List AV→AH→Kf→Prop:=sCode Tryz.prog zpzZ pqb none0 none0 zpyZ (sub p (bodyOf Tryz.f62)) n
def zliZ (x0 x17 x18 : AV) (H : AH) (K : AV→AH→Prop) : Prop:=lp (mk 27 0 [0,17,18]) (zjiZ [true,true,false,true,false,false] 7) [x0,x17,x18] H (kBlk 0 (kSeq (zjiZ [true,true,true] 13) (kRet Tryz.prog Tryz.f62.results.toList K)))
def zivZ (R6 : List AV→AH→Prop) (x0 x17 x18 : AV) (H : AH) (K : AV→AH→Prop) : Prop :=
 bO (abI .lss x18 x17) fun v0 =>
 bB v0 fun t1 => bI t1 (
 bO (aivT x0 x18) fun v2 =>
 bP (PCall Tryz.prog 91 [v2] H) fun v3 =>
 bO (aun .not v3) fun v4 =>
 bB v4 fun t5 => bI t5 (
 K (.lit (.bool false)) H)
 (bO (abI .add x18 (.lit (.int .i64 1))) fun v6 =>
 R6 [x0,x17,v6] H))
 (K (.lit (.bool true)) H)
theorem image_MayName_L6_eq (R6 : List AV→AH→Prop) (x0 x17 x18 : AV) (H : AH) (K : AV→AH→Prop) : zjiZ [true,true,false,true,false,false] 7 (expand (mk 27 0 [0,17,18]) [x0,x17,x18]) H (kLp (mk 27 0 [0,17,18]) R6 (kBlk 0 (kSeq (zjiZ [true,true,true] 13) (kRet Tryz.prog Tryz.f62.results.toList K))))=zivZ R6 x0 x17 x18 H K:=by kernel_rfl
theorem zqeZ {K : AV→AH→Prop} (I : Nat→AV→AV→AV→AH→Prop) (round : ∀ (n : Nat) (x0 x17 x18 : AV) (H : AH) (R : List AV→AH→Prop),(∀ (m : Nat) (y0 y17 y18 : AV) (H' : AH),m < n→I m y0 y17 y18 H'→R [y0,y17,y18] H')→I n x0 x17 x18 H→zivZ R x0 x17 x18 H K) (n : Nat) {x0 x17 x18 : AV} {H : AH} (h : I n x0 x17 x18 H) : zliZ x0 x17 x18 H K:=by
 refine lp_upto (zvZ _ _) (LI3 I) ?_ n h
 intro n X H h
 obtain ⟨x0,x17,x18,rfl,h⟩:=h.elim
 exact Eq.mpr (image_MayName_L6_eq _ x0 x17 x18 H K) (round n x0 x17 x18 H (fun X H' => ∃ m,m < n∧LI3 I m X H') (fun m y0 y17 y18 H' hm hi => ⟨m,hm,hi⟩) h)
def image_MayName (a0 : AV) (H : AH) (K : AV→AH→Prop) : Prop :=
 bO (abT .eql a0 (.lit (.string ⟨#[]⟩))) fun v0 =>
 bG v0 false fun w1 =>
 gO w1 (some a0) fun v2 =>
 bG v0 false fun w3 =>
 gO w3 (alnT v2) fun v4 =>
 bG v0 false fun w5 =>
 gO w5 (abI .gtr v4 (.lit (.int .i64 20))) fun v6 =>
 bO (apick v0 (.lit (.bool true)) v6) fun v7 =>
 bG v7 false fun w8 =>
 gO w8 (some a0) fun v9 =>
 bG v7 false fun w10 =>
 gO w10 (aivT v9 (.lit (.int .i64 0))) fun v11 =>
 bG v7 false fun w12 =>
 gO w12 (abI .eql v11 (.lit (.int .u8 45))) fun v13 =>
 bO (apick v7 (.lit (.bool true)) v13) fun v14 =>
 bB v14 fun t15 => bI t15 (
 K (.lit (.bool false)) H)
 (bO (alnT a0) fun v16 =>
 zliZ a0 v16 (.lit (.int .i64 0)) H K)
theorem image_MayName_eq (a0 : AV) (H : AH) (K : AV→AH→Prop) : sFun Tryz.prog zpzZ pqb none0 none0 zpyZ Tryz.f62 [a0] H K=image_MayName a0 H K:=by kernel_rfl
theorem image_MayName_ok {a0 : AV} {H : AH} {K : AV→AH→Prop} (h : image_MayName a0 H K) : ∃ r H',K r H'∧BCall Tryz.prog 62 [a0] H r H' :=
 sFun_ok mixP Tryz.func62 (by kernel_rfl) (Eq.mpr (image_MayName_eq a0 H K) h)
def image_Apply_fl : Floats:=flOf []
def image_Apply_kp : Nat→Option (List Bool):=kpOf [(13,mk 37 0 [2,3,4,31]),(12,mk 37 0 [2,3,4,12,24]),(8,mk 37 0 [2,3,4,12,17]),(5,mk 37 0 [2,4])]
def zfyZ (p : List Bool) (n : Nat) : List AV→AH→Kf→Prop:=sCode Tryz.prog image_Apply_fl pqb none0 none0 image_Apply_kp (sub p (bodyOf Tryz.f35)) n
def zekZ (x2 x4 : AV) (H : AH) (K : AV→AH→Prop) : Prop:=jn (mk 37 0 [2,4]) (zfyZ [true,true,true,true] 14) [x2,x4] H (kRet Tryz.prog Tryz.f35.results.toList K)
def image_Apply_J13 (x2 x3 x4 x31 : AV) (H : AH) (K : AV→AH→Prop) : Prop:=jn (mk 37 0 [2,3,4,31]) (zfyZ [true,true,true,false,true,false,true,true,true,true,true,true,true] 14) [x2,x3,x4,x31] H (kBlk 0 (kSeq (cutC (mk 37 0 [2,4]) (zfyZ [true,true,true,true] 14)) (kRet Tryz.prog Tryz.f35.results.toList K)))
def image_Apply_J12 (x2 x3 x4 x12 x24 : AV) (H : AH) (K : AV→AH→Prop) : Prop:=jn (mk 37 0 [2,3,4,12,24]) (zfyZ [true,true,true,false,true,false,true,true,true,true,true] 13) [x2,x3,x4,x12,x24] H (kBlk 0 (kSeq (cutC (mk 37 0 [2,4]) (zfyZ [true,true,true,true] 14)) (kRet Tryz.prog Tryz.f35.results.toList K)))
def zgaZ (x2 x3 x4 x12 x17 : AV) (H : AH) (K : AV→AH→Prop) : Prop:=jn (mk 37 0 [2,3,4,12,17]) (zfyZ [true,true,true,false,true,false,true,true,true] 12) [x2,x3,x4,x12,x17] H (kBlk 0 (kSeq (cutC (mk 37 0 [2,4]) (zfyZ [true,true,true,true] 14)) (kRet Tryz.prog Tryz.f35.results.toList K)))
def zkuZ (x2 x4 : AV) (H : AH) (K : AV→AH→Prop) : Prop :=
 bO (ald true 2 H x2) fun v0 =>
 bS (ast 2 H x4 v0) fun H1 =>
 bO (ald true 2 H1 x4) fun v2 =>
 K v2 H1
theorem zoaZ (x2 x4 : AV) (H : AH) (K : AV→AH→Prop) : zekZ x2 x4 H K=zkuZ x2 x4 H K:=(jn_eq _ _ _ _ _).trans (by kernel_rfl)
def zpaZ (x2 x3 x4 x31 : AV) (H : AH) (K : AV→AH→Prop) : Prop :=
 bB x31 fun t0 => bI t0 (
 bO (ashift 5 x3) fun v1 =>
 bO (ald false 1 H v1) fun v2 =>
 bC (BCall Tryz.prog 58 [x2,v2] H) fun v3 H4 =>
 zekZ x2 x4 H4 K)
 (zekZ x2 x4 H K)
theorem image_Apply_J13_eq (x2 x3 x4 x31 : AV) (H : AH) (K : AV→AH→Prop) : image_Apply_J13 x2 x3 x4 x31 H K=zpaZ x2 x3 x4 x31 H K:=(jn_eq _ _ _ _ _).trans (by kernel_rfl)
def zobZ (x2 x3 x4 x12 x24 : AV) (H : AH) (K : AV→AH→Prop) : Prop :=
 bB x24 fun t0 => bI t0 (
 bO (ashift 5 x3) fun v1 =>
 bO (ald false 1 H v1) fun v2 =>
 bO (ashift 6 x3) fun v3 =>
 bO (ald false 1 H v3) fun v4 =>
 bC (BCall Tryz.prog 57 [x2,v2,v4] H) fun v5 H6 =>
 zekZ x2 x4 H6 K)
 (bO (abI .eql x12 (.lit (.int .i64 7))) fun v7 =>
 image_Apply_J13 x2 x3 x4 v7 H K)
theorem image_Apply_J12_eq (x2 x3 x4 x12 x24 : AV) (H : AH) (K : AV→AH→Prop) : image_Apply_J12 x2 x3 x4 x12 x24 H K=zobZ x2 x3 x4 x12 x24 H K:=(jn_eq _ _ _ _ _).trans (by kernel_rfl)
def zpvZ (x2 x3 x4 x12 x17 : AV) (H : AH) (K : AV→AH→Prop) : Prop :=
 bB x17 fun t0 => bI t0 (
 bO (ald true 8 H x3) fun v1 =>
 bC (BCall Tryz.prog 56 [x2,v1] H) fun v2 H3 =>
 zekZ x2 x4 H3 K)
 (bO (abI .eql x12 (.lit (.int .i64 6))) fun v4 =>
 image_Apply_J12 x2 x3 x4 x12 v4 H K)
theorem image_Apply_J8_eq (x2 x3 x4 x12 x17 : AV) (H : AH) (K : AV→AH→Prop) : zgaZ x2 x3 x4 x12 x17 H K=zpvZ x2 x3 x4 x12 x17 H K:=(jn_eq _ _ _ _ _).trans (by kernel_rfl)
def image_Apply (a0 a1 : AV) (H : AH) (K : AV→AH→Prop) : Prop :=
 bH (anew H a0) fun v0 H1 =>
 bH (anew H1 a1) fun v2 H3 =>
 bH (anew H3 (.agg [(.lit (.slice none 0 0)),(.lit (.slice none 0 0))])) fun v4 H5 =>
 bO (ald true 2 H5 v0) fun v6 =>
 bC (BCall Tryz.prog 36 [v6] H5) fun v7 H8 =>
 bS (ast 2 H8 v0 v7) fun H9 =>
 bO (ald true 2 H9 v0) fun v10 =>
 bP (PCall Tryz.prog 54 [v10] H9) fun v11 =>
 bO (aun .not v11) fun v12 =>
 bB v12 fun t13 => bI t13 (
 bO (ald true 2 H9 v0) fun v14 =>
 bS (ast 2 H9 v4 v14) fun H15 =>
 bO (ald true 2 H15 v4) fun v16 =>
 K v16 H15)
 (bO (ashift 0 v2) fun v17 =>
 bO (ald false 1 H9 v17) fun v18 =>
 bO (abI .eql v18 (.lit (.int .i64 1))) fun v19 =>
 bB v19 fun t20 => bI t20 (
 bO (ald true 8 H9 v2) fun v21 =>
 bC (BCall Tryz.prog 55 [v0,v21] H9) fun v22 H23 =>
 zekZ v0 v4 H23 K)
 (bO (abI .eql v18 (.lit (.int .i64 2))) fun v24 =>
 bB v24 fun t25 => bI t25 (
 zgaZ v0 v2 v4 v18 v24 H9 K)
 (bO (abI .eql v18 (.lit (.int .i64 3))) fun v26 =>
 bB v26 fun t27 => bI t27 (
 zgaZ v0 v2 v4 v18 v26 H9 K)
 (bO (abI .eql v18 (.lit (.int .i64 4))) fun v28 =>
 bB v28 fun t29 => bI t29 (
 zgaZ v0 v2 v4 v18 v28 H9 K)
 (bO (abI .eql v18 (.lit (.int .i64 5))) fun v30 =>
 zgaZ v0 v2 v4 v18 v30 H9 K)))))
theorem image_Apply_eq (a0 a1 : AV) (H : AH) (K : AV→AH→Prop) : sFun Tryz.prog image_Apply_fl pqb none0 none0 image_Apply_kp Tryz.f35 [a0,a1] H K=image_Apply a0 a1 H K:=by kernel_rfl
theorem image_Apply_ok {a0 a1 : AV} {H : AH} {K : AV→AH→Prop} (h : image_Apply a0 a1 H K) : ∃ r H',K r H'∧BCall Tryz.prog 35 [a0,a1] H r H' :=
 sFun_ok mixP Tryz.func35 (by kernel_rfl) (Eq.mpr (image_Apply_eq a0 a1 H K) h)
def image_May_fl : Floats:=flOf []
def image_May_kp : Nat→Option (List Bool):=kpOf [(8,mk 51 0 [3,5,25,26,27])]
def image_May_c (p : List Bool) (n : Nat) : List AV→AH→Kf→Prop:=sCode Tryz.prog image_May_fl pqb none0 none0 image_May_kp (sub p (bodyOf Tryz.f54)) n
def image_May_L8 (x3 x5 x25 x26 x27 : AV) (H : AH) (K : AV→AH→Prop) : Prop:=lp (mk 51 0 [3,5,25,26,27]) (image_May_c [true,true,true,true,false,true,false,false] 9) [x3,x5,x25,x26,x27] H (kBlk 0 (kSeq (image_May_c [true,true,true,true,true] 16) (kRet Tryz.prog Tryz.f54.results.toList K)))
def zowZ (R8 : List AV→AH→Prop) (x3 x5 x25 x26 x27 : AV) (H : AH) (K : AV→AH→Prop) : Prop :=
 bO (abI .lss x27 x26) fun v0 =>
 bB v0 fun t1 => bI t1 (
 bO (aixS 3 x25 x27) fun v2 =>
 bO (ald true 3 H v2) fun v3 =>
 bH (anew H (.agg [(.lit (.int .i64 0)),(.lit (.int .i64 0)),(.lit (.slice none 0 0))])) fun v4 H5 =>
 bS (ast 3 H5 v4 v3) fun H6 =>
 bO (ashift 0 v4) fun v7 =>
 bO (ald false 1 H6 v7) fun v8 =>
 bO (abI .leq v8 x5) fun v9 =>
 bG v9 false fun w10 =>
 gO w10 (some x3) fun v11 =>
 bG v9 false fun w12 =>
 gO w12 (ashift 0 v4) fun v13 =>
 bG v9 false fun w14 =>
 gO w14 (ald false 1 H6 v13) fun v15 =>
 bG v9 false fun w16 =>
 gO w16 (alk (.int .i64) (.bool false) H6 v11 v15 false) fun v17 =>
 bG v9 false fun w18 =>
 gO w18 (aun .not v17) fun v19 =>
 bO (apick v9 (.lit (.bool true)) v19) fun v20 =>
 bG v20 false fun w21 =>
 gO w21 (ashift 1 v4) fun v22 =>
 bG v20 false fun w23 =>
 gO w23 (ald true 2 H6 v22) fun v24 =>
 bG v20 false fun w25 =>
 gP w25 (PCall Tryz.prog 67 [v24] H6) fun v26 =>
 bG v20 false fun w27 =>
 gO w27 (aun .not v26) fun v28 =>
 bO (apick v20 (.lit (.bool true)) v28) fun v29 =>
 bB v29 fun t30 => bI t30 (
 K (.lit (.bool false)) H6)
 (bO (ashift 0 v4) fun v31 =>
 bO (ald false 1 H6 v31) fun v32 =>
 bO (abI .add x27 (.lit (.int .i64 1))) fun v33 =>
 R8 [x3,v32,x25,x26,v33] H6))
 (K (.lit (.bool true)) H)
theorem image_May_L8_eq (R8 : List AV→AH→Prop) (x3 x5 x25 x26 x27 : AV) (H : AH) (K : AV→AH→Prop) : image_May_c [true,true,true,true,false,true,false,false] 9 (expand (mk 51 0 [3,5,25,26,27]) [x3,x5,x25,x26,x27]) H (kLp (mk 51 0 [3,5,25,26,27]) R8 (kBlk 0 (kSeq (image_May_c [true,true,true,true,true] 16) (kRet Tryz.prog Tryz.f54.results.toList K))))=zowZ R8 x3 x5 x25 x26 x27 H K:=by kernel_rfl
theorem image_May_L8_rule {K : AV→AH→Prop} (I : Nat→AV→AV→AV→AV→AV→AH→Prop) (round : ∀ (n : Nat) (x3 x5 x25 x26 x27 : AV) (H : AH) (R : List AV→AH→Prop),(∀ (m : Nat) (y3 y5 y25 y26 y27 : AV) (H' : AH),m < n→I m y3 y5 y25 y26 y27 H'→R [y3,y5,y25,y26,y27] H')→I n x3 x5 x25 x26 x27 H→zowZ R x3 x5 x25 x26 x27 H K) (n : Nat) {x3 x5 x25 x26 x27 : AV} {H : AH} (h : I n x3 x5 x25 x26 x27 H) : image_May_L8 x3 x5 x25 x26 x27 H K:=by
 refine lp_upto (zvZ _ _) (LI5 I) ?_ n h
 intro n X H h
 obtain ⟨x3,x5,x25,x26,x27,rfl,h⟩:=h.elim
 exact Eq.mpr (image_May_L8_eq _ x3 x5 x25 x26 x27 H K) (round n x3 x5 x25 x26 x27 H (fun X H' => ∃ m,m < n∧LI5 I m X H') (fun m y3 y5 y25 y26 y27 H' hm hi => ⟨m,hm,hi⟩) h)
def image_May (a0 : AV) (H : AH) (K : AV→AH→Prop) : Prop :=
 bH (anew H a0) fun v0 H1 =>
 bO (ashift 0 v0) fun v2 =>
 bO (ald false 1 H1 v2) fun v3 =>
 bC (BCall Tryz.prog 80 [v3] H1) fun v4 H5 =>
 bO (zhZ v4 0) fun v6 =>
 bO (zhZ v4 1) fun v7 =>
 bO (aun .not v7) fun v8 =>
 bG v8 false fun w9 =>
 gO w9 (ashift 1 v0) fun v10 =>
 bG v8 false fun w11 =>
 gO w11 (ald false 1 H5 v10) fun v12 =>
 bG v8 false fun w13 =>
 gO w13 (alnS v12) fun v14 =>
 bG v8 false fun w15 =>
 gO w15 (some v6) fun v16 =>
 bG v8 false fun w17 =>
 gO w17 (alnM H5 v16) fun v18 =>
 bG v8 false fun w19 =>
 gO w19 (abI .neq v14 v18) fun v20 =>
 bO (apick v8 (.lit (.bool true)) v20) fun v21 =>
 bB v21 fun t22 => bI t22 (
 K (.lit (.bool false)) H5)
 (bO (ashift 1 v0) fun v23 =>
 bO (ald false 1 H5 v23) fun v24 =>
 bO (alnS v24) fun v25 =>
 image_May_L8 v6 (.lit (.int .i64 0)) v24 v25 (.lit (.int .i64 0)) H5 K)
theorem image_May_eq (a0 : AV) (H : AH) (K : AV→AH→Prop) : sFun Tryz.prog image_May_fl pqb none0 none0 image_May_kp Tryz.f54 [a0] H K=image_May a0 H K:=by kernel_rfl
theorem image_May_ok {a0 : AV} {H : AH} {K : AV→AH→Prop} (h : image_May a0 H K) : ∃ r H',K r H'∧BCall Tryz.prog 54 [a0] H r H' :=
 sFun_ok mixP Tryz.func54 (by kernel_rfl) (Eq.mpr (image_May_eq a0 H K) h)
def image_Copy_fl : Floats:=flOf [(1,[(4,none)])]
def image_Copy_kp : Nat→Option (List Bool):=kpOf [(4,mk 31 0 [1,2,13,14])]
def zpgZ (p : List Bool) (n : Nat) : List AV→AH→Kf→Prop:=sCode Tryz.prog image_Copy_fl pqb none0 none0 image_Copy_kp (sub p (bodyOf Tryz.f36)) n
def image_Copy_L4 (x1 x2 x13 x14 : AV) (H : AH) (K : AV→AH→Prop) : Prop:=lp (mk 31 0 [1,2,13,14]) (zpgZ [true,true,false,true,false,false] 5) [x1,x2,x13,x14] H (kBlk 0 (kSeq (zpgZ [true,true,true] 9) (kRet Tryz.prog Tryz.f36.results.toList K)))
def zmyZ (R4 : List AV→AH→Prop) (x1 x2 x13 x14 : AV) (H : AH) (K : AV→AH→Prop) : Prop :=
 bO (abI .lss x14 x13) fun v0 =>
 bB v0 fun t1 => bI t1 (
 bO (ashift 1 x1) fun v2 =>
 bO (ald false 1 H v2) fun v3 =>
 bO (ashift 1 x1) fun v4 =>
 bO (ald false 1 H v4) fun v5 =>
 bO (aixS 3 v5 x14) fun v6 =>
 bO (ashift 1 v6) fun v7 =>
 bO (ald true 2 H v7) fun v8 =>
 bP (BPure Tryz.prog 61 [v8]) fun v9 =>
 bO (aixS 3 v3 x14) fun v10 =>
 bO (ashift 1 v10) fun v11 =>
 bS (ast 2 H v11 v9) fun H12 =>
 bO (abI .add x14 (.lit (.int .i64 1))) fun v13 =>
 R4 [x1,x2,x13,v13] H12)
 (bO (ald true 2 H x1) fun v14 =>
 bS (ast 2 H x2 v14) fun H15 =>
 bO (ald true 2 H15 x2) fun v16 =>
 K v16 H15)
theorem image_Copy_L4_eq (R4 : List AV→AH→Prop) (x1 x2 x13 x14 : AV) (H : AH) (K : AV→AH→Prop) : zpgZ [true,true,false,true,false,false] 5 (expand (mk 31 0 [1,2,13,14]) [x1,x2,x13,x14]) H (kLp (mk 31 0 [1,2,13,14]) R4 (kBlk 0 (kSeq (zpgZ [true,true,true] 9) (kRet Tryz.prog Tryz.f36.results.toList K))))=zmyZ R4 x1 x2 x13 x14 H K:=by kernel_rfl
theorem image_Copy_L4_rule {K : AV→AH→Prop} (I : Nat→AV→AV→AV→AV→AH→Prop) (round : ∀ (n : Nat) (x1 x2 x13 x14 : AV) (H : AH) (R : List AV→AH→Prop),(∀ (m : Nat) (y1 y2 y13 y14 : AV) (H' : AH),m < n→I m y1 y2 y13 y14 H'→R [y1,y2,y13,y14] H')→I n x1 x2 x13 x14 H→zmyZ R x1 x2 x13 x14 H K) (n : Nat) {x1 x2 x13 x14 : AV} {H : AH} (h : I n x1 x2 x13 x14 H) : image_Copy_L4 x1 x2 x13 x14 H K:=by
 refine lp_upto (zvZ _ _) (LI4 I) ?_ n h
 intro n X H h
 obtain ⟨x1,x2,x13,x14,rfl,h⟩:=h.elim
 exact Eq.mpr (image_Copy_L4_eq _ x1 x2 x13 x14 H K) (round n x1 x2 x13 x14 H (fun X H' => ∃ m,m < n∧LI4 I m X H') (fun m y1 y2 y13 y14 H' hm hi => ⟨m,hm,hi⟩) h)
def image_Copy (a0 : AV) (H : AH) (K : AV→AH→Prop) : Prop :=
 bH (anew H a0) fun v0 H1 =>
 bH (anew H1 (.agg [(.lit (.slice none 0 0)),(.lit (.slice none 0 0))])) fun v2 H3 =>
 bO (ashift 0 v0) fun v4 =>
 bO (ald false 1 H3 v4) fun v5 =>
 bC (BCall Tryz.prog 59 [v5] H3) fun v6 H7 =>
 bO (ashift 1 v0) fun v8 =>
 bO (ald false 1 H7 v8) fun v9 =>
 bC (BCall Tryz.prog 60 [v9] H7) fun v10 H11 =>
 bO (abl [(.lit (.slice none 0 0)),(.lit (.slice none 0 0))] [(0,1,v6),(1,1,v10)]) fun v12 =>
 bS (ast 2 H11 v0 v12) fun H13 =>
(ald false 1 H3 v8=some v9) ∧
 bO (ashift 1 v0) fun v14 =>
 bO (ald false 1 H13 v14) fun v15 =>
 bO (alnS v15) fun v16 =>
 image_Copy_L4 v0 v2 v16 (.lit (.int .i64 0)) H13 K
theorem image_Copy_eq (a0 : AV) (H : AH) (K : AV→AH→Prop) : sFun Tryz.prog image_Copy_fl pqb none0 none0 image_Copy_kp Tryz.f36 [a0] H K=image_Copy a0 H K:=by kernel_rfl
theorem image_Copy_ok {a0 : AV} {H : AH} {K : AV→AH→Prop} (h : image_Copy a0 H K) : ∃ r H',K r H'∧BCall Tryz.prog 36 [a0] H r H' :=
 sFun_ok mixP Tryz.func36 (by kernel_rfl) (Eq.mpr (image_Copy_eq a0 H K) h)
def image_named_fl : Floats:=flOf []
def image_named_kp : Nat→Option (List Bool):=kpOf []
def image_named (a0 a1 : AV) (H : AH) (K : AV→AH→Prop) : Prop :=
 bH (anew H a0) fun v0 H1 =>
 bO (ashift 0 v0) fun v2 =>
 bO (ald false 1 H1 v2) fun v3 =>
 bP (PCall Tryz.prog 99 [v3,a1,(.fn (.func 100) [] [])] H1) fun v4 =>
 bO (zhZ v4 0) fun v5 =>
 bO (zhZ v4 1) fun v6 =>
 K (.tup [v5,v6]) H1
theorem image_named_eq (a0 a1 : AV) (H : AH) (K : AV→AH→Prop) : sFun Tryz.prog image_named_fl pqb none0 none0 image_named_kp Tryz.f81 [a0,a1] H K=image_named a0 a1 H K:=by kernel_rfl
theorem image_named_ok {a0 a1 : AV} {H : AH} {K : AV→AH→Prop} (h : image_named a0 a1 H K) : ∃ r H',K r H'∧BCall Tryz.prog 81 [a0,a1] H r H' :=
 sFun_ok mixP Tryz.func81 (by kernel_rfl) (Eq.mpr (image_named_eq a0 a1 H K) h)
def image_node_fl : Floats:=flOf []
def image_node_kp : Nat→Option (List Bool):=kpOf []
def image_node (a0 a1 : AV) (H : AH) (K : AV→AH→Prop) : Prop :=
 bH (anew H a0) fun v0 H1 =>
 bO (ashift 1 v0) fun v2 =>
 bO (ald false 1 H1 v2) fun v3 =>
 bP (PCall Tryz.prog 102 [v3,a1,(.fn (.func 103) [] [])] H1) fun v4 =>
 bO (zhZ v4 0) fun v5 =>
 bO (zhZ v4 1) fun v6 =>
 K (.tup [v5,v6]) H1
theorem image_node_eq (a0 a1 : AV) (H : AH) (K : AV→AH→Prop) : sFun Tryz.prog image_node_fl pqb none0 none0 image_node_kp Tryz.f82 [a0,a1] H K=image_node a0 a1 H K:=by kernel_rfl
theorem image_node_ok {a0 a1 : AV} {H : AH} {K : AV→AH→Prop} (h : image_node a0 a1 H K) : ∃ r H',K r H'∧BCall Tryz.prog 82 [a0,a1] H r H' :=
 sFun_ok mixP Tryz.func82 (by kernel_rfl) (Eq.mpr (image_node_eq a0 a1 H K) h)
def image_may_fl : Floats:=flOf []
def image_may_kp : Nat→Option (List Bool):=kpOf []
def image_may (a0 : AV) (H : AH) (K : AV→AH→Prop) : Prop :=
 bO (abI .geq a0 (.lit (.int .u8 97))) fun v0 =>
 bG v0 true fun w1 =>
 gO w1 (some a0) fun v2 =>
 bG v0 true fun w3 =>
 gO w3 (abI .leq v2 (.lit (.int .u8 122))) fun v4 =>
 bO (apick v0 v4 (.lit (.bool false))) fun v5 =>
 bG v5 false fun w6 =>
 gO w6 (some a0) fun v7 =>
 bG v5 false fun w8 =>
 gO w8 (abI .geq v7 (.lit (.int .u8 48))) fun v9 =>
 bG v5 false fun w10 =>
 gO w10 (some v9) fun v11 =>
 bG v11 true fun w12 =>
 gO w12 (some a0) fun v13 =>
 bG v11 true fun w14 =>
 gO w14 (abI .leq v13 (.lit (.int .u8 57))) fun v15 =>
 bG v5 false fun w16 =>
 gO w16 (apick v11 v15 (.lit (.bool false))) fun v17 =>
 bO (apick v5 (.lit (.bool true)) v17) fun v18 =>
 bG v18 false fun w19 =>
 gO w19 (some a0) fun v20 =>
 bG v18 false fun w21 =>
 gO w21 (abI .eql v20 (.lit (.int .u8 46))) fun v22 =>
 bO (apick v18 (.lit (.bool true)) v22) fun v23 =>
 bG v23 false fun w24 =>
 gO w24 (some a0) fun v25 =>
 bG v23 false fun w26 =>
 gO w26 (abI .eql v25 (.lit (.int .u8 95))) fun v27 =>
 bO (apick v23 (.lit (.bool true)) v27) fun v28 =>
 bG v28 false fun w29 =>
 gO w29 (some a0) fun v30 =>
 bG v28 false fun w31 =>
 gO w31 (abI .eql v30 (.lit (.int .u8 45))) fun v32 =>
 bO (apick v28 (.lit (.bool true)) v32) fun v33 =>
 K v33 H
theorem image_may_eq (a0 : AV) (H : AH) (K : AV→AH→Prop) : sFun Tryz.prog image_may_fl pqb none0 none0 image_may_kp Tryz.f91 [a0] H K=image_may a0 H K:=by kernel_rfl
theorem image_may_ok {a0 : AV} {H : AH} {K : AV→AH→Prop} (h : image_may a0 H K) : ∃ r H',K r H'∧BCall Tryz.prog 91 [a0] H r H' :=
 sFun_ok mixP Tryz.func91 (by kernel_rfl) (Eq.mpr (image_may_eq a0 H K) h)
def image_create_fl : Floats:=flOf []
def image_create_kp : Nat→Option (List Bool):=kpOf [(100004,mk 82 0 [0,3,4,6]),(100005,mk 82 0 [0,3,6]),(5,mk 82 0 [0,3,6])]
def image_create_un : Nat→Bool:=inL [4,5]
def zkjZ (p : List Bool) (n : Nat) : List AV→AH→Kf→Prop:=sCode Tryz.prog image_create_fl pqb pqba image_create_un image_create_kp (sub p (bodyOf Tryz.f55)) n
def zmpZ (x0 x3 x6 : AV) (H : AH) (K : AV→AH→Prop) : Prop:=unR Tryz.prog 5 (opsOf (sub [true,true,true,true,true] (bodyOf Tryz.f55))) (expand (mk 82 0 [0,3,6]) [x0,x3,x6]) H (kRet Tryz.prog Tryz.f55.results.toList K)
def zmxZ (x0 x3 x6 : AV) (H : AH) (K : AV→AH→Prop) : Prop:=jn (mk 82 0 [0,3,6]) (zkjZ [true,true,true,true,true] 6) [x0,x3,x6] H (kRet Tryz.prog Tryz.f55.results.toList K)
def zjfZ (x0 x3 x4 x6 : AV) (H : AH) (K : AV→AH→Prop) : Prop:=unR Tryz.prog 4 (opsOf (sub [true,true,true,true,false] (bodyOf Tryz.f55))) (expand (mk 82 0 [0,3,4,6]) [x0,x3,x4,x6]) H (kSeq (cutC (mk 82 0 [0,3,6]) (zkjZ [true,true,true,true,true] 6)) (kRet Tryz.prog Tryz.f55.results.toList K))
def zojZ (x0 x3 x6 : AV) (H : AH) (K : AV→AH→Prop) : Prop :=
 zmpZ x0 x3 x6 H K
theorem image_create_J5_eq (x0 x3 x6 : AV) (H : AH) (K : AV→AH→Prop) : zmxZ x0 x3 x6 H K=zojZ x0 x3 x6 H K:=(jn_eq _ _ _ _ _).trans (by kernel_rfl)
def zplZ (a0 a1 : AV) (H : AH) (K : AV→AH→Prop) : Prop :=
 bH (anew H a1) fun v0 H1 =>
 bO (zdZ a0) fun v2 =>
 bO (ald true 2 H1 v2) fun v3 =>
 bO (ashift 5 v0) fun v4 =>
 bO (ald false 1 H1 v4) fun v5 =>
 bC (BCall Tryz.prog 81 [v3,v5] H1) fun v6 H7 =>
 bO (zhZ v6 0) fun v8 =>
 bO (zhZ v6 1) fun v9 =>
 bO (zdZ a0) fun v10 =>
 bO (ald true 2 H7 v10) fun v11 =>
 bO (ashift 1 v0) fun v12 =>
 bO (ald false 1 H7 v12) fun v13 =>
 bC (BCall Tryz.prog 82 [v11,v13] H7) fun v14 H15 =>
 bO (zhZ v14 0) fun v16 =>
 bO (zhZ v14 1) fun v17 =>
 bG v9 false fun w18 =>
 gO w18 (some v17) fun v19 =>
 bO (apick v9 (.lit (.bool true)) v19) fun v20 =>
 bG v20 false fun w21 =>
 gO w21 (ashift 5 v0) fun v22 =>
 bG v20 false fun w23 =>
 gO w23 (ald false 1 H15 v22) fun v24 =>
 bG v20 false fun w25 =>
 gP w25 (PCall Tryz.prog 62 [v24] H15) fun v26 =>
 bG v20 false fun w27 =>
 gO w27 (aun .not v26) fun v28 =>
 bO (apick v20 (.lit (.bool true)) v28) fun v29 =>
 bG v29 false fun w30 =>
 gO w30 (ashift 1 v0) fun v31 =>
 bG v29 false fun w32 =>
 gO w32 (ald false 1 H15 v31) fun v33 =>
 bG v29 false fun w34 =>
 gO w34 (abI .lss v33 (.lit (.int .i64 1))) fun v35 =>
 bO (apick v29 (.lit (.bool true)) v35) fun v36 =>
 bG v36 false fun w37 =>
 gO w37 (ashift 1 v0) fun v38 =>
 bG v36 false fun w39 =>
 gO w39 (ald false 1 H15 v38) fun v40 =>
 bG v36 false fun w41 =>
 gO w41 (abI .gtr v40 (.lit (.int .i64 4611686018427387904))) fun v42 =>
 bO (apick v36 (.lit (.bool true)) v42) fun v43 =>
 bG v43 false fun w44 =>
 gO w44 (some a0) fun v45 =>
 bG v43 false fun w46 =>
 gO w46 (zdZ v45) fun v47 =>
 bG v43 false fun w48 =>
 gO w48 (ashift 0 v47) fun v49 =>
 bG v43 false fun w50 =>
 gO w50 (ald false 1 H15 v49) fun v51 =>
 bG v43 false fun w52 =>
 gO w52 (alnS v51) fun v53 =>
 bG v43 false fun w54 =>
 gO w54 (abI .geq v53 (.lit (.int .i64 16))) fun v55 =>
 bO (apick v43 (.lit (.bool true)) v55) fun v56 =>
 bB v56 fun t57 => bI t57 (
 K (.tup []) H15)
 (zjfZ a0 v0 v8 v16 H15 K)
theorem image_create_eq (a0 a1 : AV) (H : AH) (K : AV→AH→Prop) : sFun Tryz.prog image_create_fl pqb pqba image_create_un image_create_kp Tryz.f55 [a0,a1] H K=zplZ a0 a1 H K:=by kernel_rfl
theorem image_create_ok {a0 a1 : AV} {H : AH} {K : AV→AH→Prop} (h : zplZ a0 a1 H K) : ACalls Tryz.prog 55 [a0,a1] H K :=
 sFun_wp mixP Tryz.func55 (by kernel_rfl) (Eq.mpr (image_create_eq a0 a1 H K) h)
def image_change_fl : Floats:=flOf []
def image_change_kp : Nat→Option (List Bool):=kpOf [(11,mk 81 0 [0,4,6,72]),(5,mk 81 0 [0,4,5,6])]
def image_change_c (p : List Bool) (n : Nat) : List AV→AH→Kf→Prop:=sCode Tryz.prog image_change_fl pqb none0 none0 image_change_kp (sub p (bodyOf Tryz.f56)) n
def zqbZ (x0 x4 x6 x72 : AV) (H : AH) (K : AV→AH→Prop) : Prop:=jn (mk 81 0 [0,4,6,72]) (image_change_c [true,true,true,true,true,true] 12) [x0,x4,x6,x72] H (kRet Tryz.prog Tryz.f56.results.toList K)
def zdkZ (x0 x4 x5 x6 : AV) (H : AH) (K : AV→AH→Prop) : Prop:=jn (mk 81 0 [0,4,5,6]) (image_change_c [true,true,true,true,true] 11) [x0,x4,x5,x6] H (kRet Tryz.prog Tryz.f56.results.toList K)
def zjaZ (x0 x4 x6 x72 : AV) (H : AH) (K : AV→AH→Prop) : Prop :=
 bB x72 fun t0 => bI t0 (
 bO (zdZ x0) fun v1 =>
 bO (ashift 1 v1) fun v2 =>
 bO (ald false 1 H v2) fun v3 =>
 bO (ald true 2 H x6) fun v4 =>
 bO (aixS 3 v3 x4) fun v5 =>
 bO (ashift 1 v5) fun v6 =>
 bS (ast 2 H v6 v4) fun H7 =>
 K (.tup []) H7)
 (K (.tup []) H)
theorem zmbZ (x0 x4 x6 x72 : AV) (H : AH) (K : AV→AH→Prop) : zqbZ x0 x4 x6 x72 H K=zjaZ x0 x4 x6 x72 H K:=(jn_eq _ _ _ _ _).trans (by kernel_rfl)
def zjvZ (x0 x4 x5 x6 : AV) (H : AH) (K : AV→AH→Prop) : Prop :=
 zqbZ x0 x4 x6 x5 H K
theorem znhZ (x0 x4 x5 x6 : AV) (H : AH) (K : AV→AH→Prop) : zdkZ x0 x4 x5 x6 H K=zjvZ x0 x4 x5 x6 H K:=(jn_eq _ _ _ _ _).trans (by kernel_rfl)
def image_change (a0 a1 : AV) (H : AH) (K : AV→AH→Prop) : Prop :=
 bH (anew H a1) fun v0 H1 =>
 bO (zdZ a0) fun v2 =>
 bO (ald true 2 H1 v2) fun v3 =>
 bO (ashift 1 v0) fun v4 =>
 bO (ald false 1 H1 v4) fun v5 =>
 bC (BCall Tryz.prog 82 [v3,v5] H1) fun v6 H7 =>
 bO (zhZ v6 0) fun v8 =>
 bO (zhZ v6 1) fun v9 =>
 bO (aun .not v9) fun v10 =>
 bB v10 fun t11 => bI t11 (
 K (.tup []) H7)
 (bO (zdZ a0) fun v12 =>
 bO (ashift 1 v12) fun v13 =>
 bO (ald false 1 H7 v13) fun v14 =>
 bO (aixS 3 v14 v8) fun v15 =>
 bO (ashift 1 v15) fun v16 =>
 bO (ald true 2 H7 v16) fun v17 =>
 bH (anew H7 (.agg [(.lit (.int .i64 0)),(.lit (.slice none 0 0))])) fun v18 H19 =>
 bS (ast 2 H19 v18 v17) fun H20 =>
 bO (ashift 0 v0) fun v21 =>
 bO (ald false 1 H20 v21) fun v22 =>
 bO (abI .eql v22 (.lit (.int .i64 2))) fun v23 =>
 bB v23 fun t24 => bI t24 (
 bO (ald true 2 H20 v18) fun v25 =>
 bO (ashift 2 v0) fun v26 =>
 bO (ald false 1 H20 v26) fun v27 =>
 bO (ashift 7 v0) fun v28 =>
 bO (ald false 1 H20 v28) fun v29 =>
 bP (PCall Tryz.prog 85 [v25,v27,v29] H20) fun v30 =>
 bO (zhZ v30 0) fun v31 =>
 bO (zhZ v30 1) fun v32 =>
 bS (ast 2 H20 v18 v31) fun H33 =>
 zdkZ a0 v8 v32 v18 H33 K)
 (bO (abI .eql v22 (.lit (.int .i64 3))) fun v34 =>
 bB v34 fun t35 => bI t35 (
 bO (ald true 2 H20 v18) fun v36 =>
 bO (ashift 3 v0) fun v37 =>
 bO (ald false 1 H20 v37) fun v38 =>
 bP (PCall Tryz.prog 46 [v36,v38] H20) fun v39 =>
 bO (zhZ v39 0) fun v40 =>
 bO (zhZ v39 1) fun v41 =>
 bS (ast 2 H20 v18 v40) fun H42 =>
 zdkZ a0 v8 v41 v18 H42 K)
 (bO (abI .eql v22 (.lit (.int .i64 4))) fun v43 =>
 bB v43 fun t44 => bI t44 (
 bO (ald true 2 H20 v18) fun v45 =>
 bO (ashift 2 v0) fun v46 =>
 bO (ald false 1 H20 v46) fun v47 =>
 bO (ashift 3 v0) fun v48 =>
 bO (ald false 1 H20 v48) fun v49 =>
 bO (ashift 4 v0) fun v50 =>
 bO (ald false 1 H20 v50) fun v51 =>
 bP (PCall Tryz.prog 86 [v45,v47,v49,v51] H20) fun v52 =>
 bO (zhZ v52 0) fun v53 =>
 bO (zhZ v52 1) fun v54 =>
 bS (ast 2 H20 v18 v53) fun H55 =>
 zdkZ a0 v8 v54 v18 H55 K)
 (bO (abI .eql v22 (.lit (.int .i64 5))) fun v56 =>
 bB v56 fun t57 => bI t57 (
 bO (ald true 2 H20 v18) fun v58 =>
 bO (ashift 2 v0) fun v59 =>
 bO (ald false 1 H20 v59) fun v60 =>
 bO (ashift 3 v0) fun v61 =>
 bO (ald false 1 H20 v61) fun v62 =>
 bP (PCall Tryz.prog 87 [v58,v60,v62] H20) fun v63 =>
 bO (zhZ v63 0) fun v64 =>
 bO (zhZ v63 1) fun v65 =>
 bS (ast 2 H20 v18 v64) fun H66 =>
 zdkZ a0 v8 v65 v18 H66 K)
 (zdkZ a0 v8 v9 v18 H20 K)))))
theorem image_change_eq (a0 a1 : AV) (H : AH) (K : AV→AH→Prop) : sFun Tryz.prog image_change_fl pqb none0 none0 image_change_kp Tryz.f56 [a0,a1] H K=image_change a0 a1 H K:=by kernel_rfl
theorem image_change_ok {a0 a1 : AV} {H : AH} {K : AV→AH→Prop} (h : image_change a0 a1 H K) : ∃ r H',K r H'∧BCall Tryz.prog 56 [a0,a1] H r H' :=
 sFun_ok mixP Tryz.func56 (by kernel_rfl) (Eq.mpr (image_change_eq a0 a1 H K) h)
def image_rename_fl : Floats:=flOf []
def image_rename_kp : Nat→Option (List Bool):=kpOf []
def image_rename (a0 a1 a2 : AV) (H : AH) (K : AV→AH→Prop) : Prop :=
 bO (zdZ a0) fun v0 =>
 bO (ald true 2 H v0) fun v1 =>
 bC (BCall Tryz.prog 81 [v1,a1] H) fun v2 H3 =>
 bO (zhZ v2 0) fun v4 =>
 bO (zhZ v2 1) fun v5 =>
 bO (aun .not v5) fun v6 =>
 bG v6 false fun w7 =>
 gO w7 (some a2) fun v8 =>
 bG v6 false fun w9 =>
 gP w9 (PCall Tryz.prog 62 [v8] H3) fun v10 =>
 bG v6 false fun w11 =>
 gO w11 (aun .not v10) fun v12 =>
 bO (apick v6 (.lit (.bool true)) v12) fun v13 =>
 bG v13 false fun w14 =>
 gO w14 (some a1) fun v15 =>
 bG v13 false fun w16 =>
 gO w16 (some a2) fun v17 =>
 bG v13 false fun w18 =>
 gO w18 (abT .eql v15 v17) fun v19 =>
 bO (apick v13 (.lit (.bool true)) v19) fun v20 =>
 bB v20 fun t21 => bI t21 (
 K (.tup []) H3)
 (bO (zdZ a0) fun v22 =>
 bO (ashift 0 v22) fun v23 =>
 bO (ald false 1 H3 v23) fun v24 =>
 bO (aixS 2 v24 v4) fun v25 =>
 bO (ashift 1 v25) fun v26 =>
 bO (ald false 1 H3 v26) fun v27 =>
 bO (zdZ a0) fun v28 =>
 bO (ashift 0 v28) fun v29 =>
 bO (ald false 1 H3 v29) fun v30 =>
 bO (abI .add v4 (.lit (.int .i64 1))) fun v31 =>
 bC (BCall Tryz.prog 88 [v30,v4,v31] H3) fun v32 H33 =>
 bO (zdZ a0) fun v34 =>
 bO (ashift 0 v34) fun v35 =>
 bS (ast 1 H33 v35 v32) fun H36 =>
 bC (BCall Tryz.prog 58 [a0,a2] H36) fun v37 H38 =>
 bO (zdZ a0) fun v39 =>
 bO (ald true 2 H38 v39) fun v40 =>
 bC (BCall Tryz.prog 81 [v40,a2] H38) fun v41 H42 =>
 bO (zhZ v41 0) fun v43 =>
 bO (zhZ v41 1) fun v44 =>
 bO (zdZ a0) fun v45 =>
 bO (ashift 0 v45) fun v46 =>
 bO (ald false 1 H42 v46) fun v47 =>
 bO (abl [(.lit (.string ⟨#[]⟩)),(.lit (.int .i64 0))] [(0,1,a2),(1,1,v27)]) fun v48 =>
 bH (absl H42 2 1 (zrow [(.lit (.string ⟨#[]⟩)),(.lit (.int .i64 0))] 1) [(0,2,v48)]) fun v49 H50 =>
 bC (BCall Tryz.prog 83 [v47,v43,v49] H50) fun v51 H52 =>
 bO (zdZ a0) fun v53 =>
 bO (ashift 0 v53) fun v54 =>
 bS (ast 1 H52 v54 v51) fun H55 =>
 K (.tup []) H55)
theorem image_rename_eq (a0 a1 a2 : AV) (H : AH) (K : AV→AH→Prop) : sFun Tryz.prog image_rename_fl pqb none0 none0 image_rename_kp Tryz.f57 [a0,a1,a2] H K=image_rename a0 a1 a2 H K:=by kernel_rfl
theorem image_rename_ok {a0 a1 a2 : AV} {H : AH} {K : AV→AH→Prop} (h : image_rename a0 a1 a2 H K) : ∃ r H',K r H'∧BCall Tryz.prog 57 [a0,a1,a2] H r H' :=
 sFun_ok mixP Tryz.func57 (by kernel_rfl) (Eq.mpr (image_rename_eq a0 a1 a2 H K) h)
def image_remove_fl : Floats:=flOf []
def image_remove_kp : Nat→Option (List Bool):=kpOf []
def image_remove (a0 a1 : AV) (H : AH) (K : AV→AH→Prop) : Prop :=
 bO (zdZ a0) fun v0 =>
 bO (ald true 2 H v0) fun v1 =>
 bC (BCall Tryz.prog 81 [v1,a1] H) fun v2 H3 =>
 bO (zhZ v2 0) fun v4 =>
 bO (zhZ v2 1) fun v5 =>
 bO (aun .not v5) fun v6 =>
 bB v6 fun t7 => bI t7 (
 K (.tup []) H3)
 (bO (zdZ a0) fun v8 =>
 bO (ald true 2 H3 v8) fun v9 =>
 bO (zdZ a0) fun v10 =>
 bO (ashift 0 v10) fun v11 =>
 bO (ald false 1 H3 v11) fun v12 =>
 bO (aixS 2 v12 v4) fun v13 =>
 bO (ashift 1 v13) fun v14 =>
 bO (ald false 1 H3 v14) fun v15 =>
 bC (BCall Tryz.prog 82 [v9,v15] H3) fun v16 H17 =>
 bO (zhZ v16 0) fun v18 =>
 bO (zhZ v16 1) fun v19 =>
 bO (zdZ a0) fun v20 =>
 bO (ashift 0 v20) fun v21 =>
 bO (ald false 1 H17 v21) fun v22 =>
 bO (abI .add v4 (.lit (.int .i64 1))) fun v23 =>
 bC (BCall Tryz.prog 88 [v22,v4,v23] H17) fun v24 H25 =>
 bO (zdZ a0) fun v26 =>
 bO (ashift 0 v26) fun v27 =>
 bS (ast 1 H25 v27 v24) fun H28 =>
 bO (zdZ a0) fun v29 =>
 bO (ashift 1 v29) fun v30 =>
 bO (ald false 1 H28 v30) fun v31 =>
 bO (abI .add v18 (.lit (.int .i64 1))) fun v32 =>
 bC (BCall Tryz.prog 89 [v31,v18,v32] H28) fun v33 H34 =>
 bO (zdZ a0) fun v35 =>
 bO (ashift 1 v35) fun v36 =>
 bS (ast 1 H34 v36 v33) fun H37 =>
 K (.tup []) H37)
theorem image_remove_eq (a0 a1 : AV) (H : AH) (K : AV→AH→Prop) : sFun Tryz.prog image_remove_fl pqb none0 none0 image_remove_kp Tryz.f58 [a0,a1] H K=image_remove a0 a1 H K:=by kernel_rfl
theorem image_remove_ok {a0 a1 : AV} {H : AH} {K : AV→AH→Prop} (h : image_remove a0 a1 H K) : ∃ r H',K r H'∧BCall Tryz.prog 58 [a0,a1] H r H' :=
 sFun_ok mixP Tryz.func58 (by kernel_rfl) (Eq.mpr (image_remove_eq a0 a1 H K) h)
def image_names_fl : Floats:=flOf []
def image_names_kp : Nat→Option (List Bool):=kpOf [(7,mk 58 0 [0,4,11,12,13])]
def zmrZ (p : List Bool) (n : Nat) : List AV→AH→Kf→Prop:=sCode Tryz.prog image_names_fl pqb none0 none0 image_names_kp (sub p (bodyOf Tryz.f80)) n
def image_names_L7 (x0 x4 x11 x12 x13 : AV) (H : AH) (K : AV→AH→Prop) : Prop:=lp (mk 58 0 [0,4,11,12,13]) (zmrZ [true,true,true,false,true,false,false] 8) [x0,x4,x11,x12,x13] H (kBlk 0 (kSeq (zmrZ [true,true,true,true] 15) (kRet Tryz.prog Tryz.f80.results.toList K)))
def zkvZ (R7 : List AV→AH→Prop) (x0 x4 x11 x12 x13 : AV) (H : AH) (K : AV→AH→Prop) : Prop :=
 bO (abI .lss x13 x12) fun v0 =>
 bB v0 fun t1 => bI t1 (
 bO (aixS 2 x11 x13) fun v2 =>
 bO (ald true 2 H v2) fun v3 =>
 bH (anew H (.agg [(.lit (.string ⟨#[]⟩)),(.lit (.int .i64 0))])) fun v4 H5 =>
 bS (ast 2 H5 v4 v3) fun H6 =>
 bO (ashift 0 v4) fun v7 =>
 bO (ald false 1 H6 v7) fun v8 =>
 bP (BPure Tryz.prog 62 [v8]) fun v9 =>
 bO (aun .not v9) fun v10 =>
 bG v10 false fun w11 =>
 gO w11 (some x13) fun v12 =>
 bG v10 false fun w13 =>
 gO w13 (abI .gtr v12 (.lit (.int .i64 0))) fun v14 =>
 bG v10 false fun w15 =>
 gO w15 (some v14) fun v16 =>
 bG v16 true fun w17 =>
 gO w17 (some x0) fun v18 =>
 bG v16 true fun w19 =>
 gO w19 (some x13) fun v20 =>
 bG v16 true fun w21 =>
 gO w21 (abI .sub v20 (.lit (.int .i64 1))) fun v22 =>
 bG v16 true fun w23 =>
 gO w23 (aixS 2 v18 v22) fun v24 =>
 bG v16 true fun w25 =>
 gO w25 (ashift 0 v24) fun v26 =>
 bG v16 true fun w27 =>
 gO w27 (ald false 1 H6 v26) fun v28 =>
 bG v16 true fun w29 =>
 gO w29 (ashift 0 v4) fun v30 =>
 bG v16 true fun w31 =>
 gO w31 (ald false 1 H6 v30) fun v32 =>
 bG v16 true fun w33 =>
 gO w33 (abT .geq v28 v32) fun v34 =>
 bG v10 false fun w35 =>
 gO w35 (apick v16 v34 (.lit (.bool false))) fun v36 =>
 bO (apick v10 (.lit (.bool true)) v36) fun v37 =>
 bG v37 false fun w38 =>
 gO w38 (ashift 1 v4) fun v39 =>
 bG v37 false fun w40 =>
 gO w40 (ald false 1 H6 v39) fun v41 =>
 bG v37 false fun w42 =>
 gO w42 (abI .lss v41 (.lit (.int .i64 1))) fun v43 =>
 bO (apick v37 (.lit (.bool true)) v43) fun v44 =>
 bG v44 false fun w45 =>
 gO w45 (ashift 1 v4) fun v46 =>
 bG v44 false fun w47 =>
 gO w47 (ald false 1 H6 v46) fun v48 =>
 bG v44 false fun w49 =>
 gO w49 (abI .gtr v48 (.lit (.int .i64 4611686018427387904))) fun v50 =>
 bO (apick v44 (.lit (.bool true)) v50) fun v51 =>
 bG v51 false fun w52 =>
 gO w52 (some x4) fun v53 =>
 bG v51 false fun w54 =>
 gO w54 (ashift 1 v4) fun v55 =>
 bG v51 false fun w56 =>
 gO w56 (ald false 1 H6 v55) fun v57 =>
 bG v51 false fun w58 =>
 gO w58 (alk (.int .i64) (.bool false) H6 v53 v57 false) fun v59 =>
 bO (apick v51 (.lit (.bool true)) v59) fun v60 =>
 bB v60 fun t61 => bI t61 (
 K (.tup [(.lit (.map none)),(.lit (.bool false))]) H6)
 (bO (ashift 1 v4) fun v62 =>
 bO (ald false 1 H6 v62) fun v63 =>
 bS (amu (.int .i64) H6 x4 v63 (.lit (.bool true))) fun H64 =>
 bO (abI .add x13 (.lit (.int .i64 1))) fun v65 =>
 R7 [x0,x4,x11,x12,v65] H64))
 (K (.tup [x4,(.lit (.bool true))]) H)
theorem image_names_L7_eq (R7 : List AV→AH→Prop) (x0 x4 x11 x12 x13 : AV) (H : AH) (K : AV→AH→Prop) : zmrZ [true,true,true,false,true,false,false] 8 (expand (mk 58 0 [0,4,11,12,13]) [x0,x4,x11,x12,x13]) H (kLp (mk 58 0 [0,4,11,12,13]) R7 (kBlk 0 (kSeq (zmrZ [true,true,true,true] 15) (kRet Tryz.prog Tryz.f80.results.toList K))))=zkvZ R7 x0 x4 x11 x12 x13 H K:=by kernel_rfl
theorem image_names_L7_rule {K : AV→AH→Prop} (I : Nat→AV→AV→AV→AV→AV→AH→Prop) (round : ∀ (n : Nat) (x0 x4 x11 x12 x13 : AV) (H : AH) (R : List AV→AH→Prop),(∀ (m : Nat) (y0 y4 y11 y12 y13 : AV) (H' : AH),m < n→I m y0 y4 y11 y12 y13 H'→R [y0,y4,y11,y12,y13] H')→I n x0 x4 x11 x12 x13 H→zkvZ R x0 x4 x11 x12 x13 H K) (n : Nat) {x0 x4 x11 x12 x13 : AV} {H : AH} (h : I n x0 x4 x11 x12 x13 H) : image_names_L7 x0 x4 x11 x12 x13 H K:=by
 refine lp_upto (zvZ _ _) (LI5 I) ?_ n h
 intro n X H h
 obtain ⟨x0,x4,x11,x12,x13,rfl,h⟩:=h.elim
 exact Eq.mpr (image_names_L7_eq _ x0 x4 x11 x12 x13 H K) (round n x0 x4 x11 x12 x13 H (fun X H' => ∃ m,m < n∧LI5 I m X H') (fun m y0 y4 y11 y12 y13 H' hm hi => ⟨m,hm,hi⟩) h)
def image_names (a0 : AV) (H : AH) (K : AV→AH→Prop) : Prop :=
 bO (alnS a0) fun v0 =>
 bO (abI .gtr v0 (.lit (.int .i64 16))) fun v1 =>
 bB v1 fun t2 => bI t2 (
 K (.tup [(.lit (.map none)),(.lit (.bool false))]) H)
 (bH (amkM H none) fun v3 H4 =>
 bO (alnS a0) fun v5 =>
 image_names_L7 a0 v3 a0 v5 (.lit (.int .i64 0)) H4 K)
theorem image_names_eq (a0 : AV) (H : AH) (K : AV→AH→Prop) : sFun Tryz.prog image_names_fl pqb none0 none0 image_names_kp Tryz.f80 [a0] H K=image_names a0 H K:=by kernel_rfl
theorem image_names_ok {a0 : AV} {H : AH} {K : AV→AH→Prop} (h : image_names a0 H K) : ∃ r H',K r H'∧BCall Tryz.prog 80 [a0] H r H' :=
 sFun_ok mixP Tryz.func80 (by kernel_rfl) (Eq.mpr (image_names_eq a0 H K) h)
def zhhZ : Floats:=flOf []
def zhiZ : Nat→Option (List Bool):=kpOf []
def zchZ (a0 : AV) (H : AH) (K : AV→AH→Prop) : Prop :=
 bO (abN .eql nilS a0 (.lit (.slice none 0 0))) fun v0 =>
 bB v0 fun t1 => bI t1 (
 K (.lit (.slice none 0 0)) H)
 (bH (absl H 2 0 (zrow [(.lit (.string ⟨#[]⟩)),(.lit (.int .i64 0))] 0) []) fun v2 H3 =>
 bH (aap 2 24 H3 v2 a0) fun v4 H5 =>
 K v4 H5)
theorem zhgZ (a0 : AV) (H : AH) (K : AV→AH→Prop) : sFun Tryz.prog zhhZ pqb none0 none0 zhiZ Tryz.f59 [a0] H K=zchZ a0 H K:=by kernel_rfl
theorem zhlZ {a0 : AV} {H : AH} {K : AV→AH→Prop} (h : zchZ a0 H K) : ∃ r H',K r H'∧BCall Tryz.prog 59 [a0] H r H' :=
 sFun_ok mixP Tryz.func59 (by kernel_rfl) (Eq.mpr (zhgZ a0 H K) h)
def zhmZ : Floats:=flOf []
def zhjZ : Nat→Option (List Bool):=kpOf []
def zcjZ (a0 : AV) (H : AH) (K : AV→AH→Prop) : Prop :=
 bO (abN .eql nilS a0 (.lit (.slice none 0 0))) fun v0 =>
 bB v0 fun t1 => bI t1 (
 K (.lit (.slice none 0 0)) H)
 (bH (absl H 3 0 (zrow [(.lit (.int .i64 0)),(.lit (.int .i64 0)),(.lit (.slice none 0 0))] 0) []) fun v2 H3 =>
 bH (aap 3 40 H3 v2 a0) fun v4 H5 =>
 K v4 H5)
theorem zhfZ (a0 : AV) (H : AH) (K : AV→AH→Prop) : sFun Tryz.prog zhmZ pqb none0 none0 zhjZ Tryz.f60 [a0] H K=zcjZ a0 H K:=by kernel_rfl
theorem zhkZ {a0 : AV} {H : AH} {K : AV→AH→Prop} (h : zcjZ a0 H K) : ∃ r H',K r H'∧BCall Tryz.prog 60 [a0] H r H' :=
 sFun_ok mixP Tryz.func60 (by kernel_rfl) (Eq.mpr (zhfZ a0 H K) h)
def zbeZ : Floats:=flOf []
def zbfZ : Nat→Option (List Bool):=kpOf [(4,mk 49 0 [0,1,2,8,9,10])]
def zgZ (p : List Bool) (n : Nat) : List AV→AH→Kf→Prop:=sCode Tryz.prog zbeZ pqb none0 none0 zbfZ (sub p (bodyOf Tryz.f99)) n
def zbgZ (x0 x1 x2 x8 x9 x10 : AV) (H : AH) (K : AV→AH→Prop) : Prop:=lp (mk 49 0 [0,1,2,8,9,10]) (zgZ [true,true,true,false,false,false] 5) [x0,x1,x2,x8,x9,x10] H (kBlk 0 (kSeq (zgZ [true,true,true,true] 9) (kRet Tryz.prog Tryz.f99.results.toList K)))
def zoZ (R4 : List AV→AH→Prop) (x0 x1 x2 x8 x9 x10 : AV) (H : AH) (K : AV→AH→Prop) : Prop :=
 bO (abI .lss x9 x10) fun v0 =>
 bB v0 fun t1 => bI t1 (
 bO (abI .add x9 x10) fun v2 =>
 bO (acI .u64 v2) fun v3 =>
 bO (abI .shr v3 (.lit (.int .u64 1))) fun v4 =>
 bO (acI .i64 v4) fun v5 =>
 bO (aixS 2 x0 v5) fun v6 =>
 bO (ald true 2 H v6) fun v7 =>
 bF true x2 fun k10 f10 c10 =>
 bT (goFunc Tryz.prog k10 || !true) <|
 bC (BCall Tryz.prog k10 (f10 ++ [v7,x1] ++ c10) H) fun v8 H9 =>
 bO (abI .lss v8 (.lit (.int .i64 0))) fun v11 =>
 bB v11 fun t12 => bI t12 (
 bO (abI .add v5 (.lit (.int .i64 1))) fun v13 =>
 R4 [x0,x1,x2,x8,v13,x10] H9)
 (R4 [x0,x1,x2,x8,x9,v5] H9))
 (bO (abI .lss x9 x8) fun v14 =>
 bG v14 true fun w15 =>
 gO w15 (some x2) fun v16 =>
 bG v14 true fun w17 =>
 gO w17 (some x0) fun v18 =>
 bG v14 true fun w19 =>
 gO w19 (some x9) fun v20 =>
 bG v14 true fun w21 =>
 gO w21 (aixS 2 v18 v20) fun v22 =>
 bG v14 true fun w23 =>
 gO w23 (ald true 2 H v22) fun v24 =>
 bG v14 true fun w25 =>
 gO w25 (some x1) fun v26 =>
 bG v14 true fun w27 =>
 bF w27 v16 fun k30 f30 c30 =>
 bT (goFunc Tryz.prog k30 || !w27) <|
 gC w27 (BCall Tryz.prog k30 (f30 ++ [v24,v26] ++ c30) H) H fun v28 H29 =>
 bG v14 true fun w31 =>
 gO w31 (abI .eql v28 (.lit (.int .i64 0))) fun v32 =>
 bO (apick v14 v32 (.lit (.bool false))) fun v33 =>
 K (.tup [x9,v33]) H29)
theorem zclZ (R4 : List AV→AH→Prop) (x0 x1 x2 x8 x9 x10 : AV) (H : AH) (K : AV→AH→Prop) : zgZ [true,true,true,false,false,false] 5 (expand (mk 49 0 [0,1,2,8,9,10]) [x0,x1,x2,x8,x9,x10]) H (kLp (mk 49 0 [0,1,2,8,9,10]) R4 (kBlk 0 (kSeq (zgZ [true,true,true,true] 9) (kRet Tryz.prog Tryz.f99.results.toList K))))=zoZ R4 x0 x1 x2 x8 x9 x10 H K:=by kernel_rfl
theorem zciZ {K : AV→AH→Prop} (I : Nat→AV→AV→AV→AV→AV→AV→AH→Prop) (round : ∀ (n : Nat) (x0 x1 x2 x8 x9 x10 : AV) (H : AH) (R : List AV→AH→Prop),(∀ (m : Nat) (y0 y1 y2 y8 y9 y10 : AV) (H' : AH),m < n→I m y0 y1 y2 y8 y9 y10 H'→R [y0,y1,y2,y8,y9,y10] H')→I n x0 x1 x2 x8 x9 x10 H→zoZ R x0 x1 x2 x8 x9 x10 H K) (n : Nat) {x0 x1 x2 x8 x9 x10 : AV} {H : AH} (h : I n x0 x1 x2 x8 x9 x10 H) : zbgZ x0 x1 x2 x8 x9 x10 H K:=by
 refine lp_upto (zvZ _ _) (LI6 I) ?_ n h
 intro n X H h
 obtain ⟨x0,x1,x2,x8,x9,x10,rfl,h⟩:=h.elim
 exact Eq.mpr (zclZ _ x0 x1 x2 x8 x9 x10 H K) (round n x0 x1 x2 x8 x9 x10 H (fun X H' => ∃ m,m < n∧LI6 I m X H') (fun m y0 y1 y2 y8 y9 y10 H' hm hi => ⟨m,hm,hi⟩) h)
def zsZ (a0 a1 a2 : AV) (H : AH) (K : AV→AH→Prop) : Prop :=
 bO (alnS a0) fun v0 =>
 zbgZ a0 a1 a2 v0 (.lit (.int .i64 0)) v0 H K
theorem zcxZ (a0 a1 a2 : AV) (H : AH) (K : AV→AH→Prop) : sFun Tryz.prog zbeZ pqb none0 none0 zbfZ Tryz.f99 [a0,a1,a2] H K=zsZ a0 a1 a2 H K:=by kernel_rfl
theorem zczZ {a0 a1 a2 : AV} {H : AH} {K : AV→AH→Prop} (h : zsZ a0 a1 a2 H K) : ∃ r H',K r H'∧BCall Tryz.prog 99 [a0,a1,a2] H r H' :=
 sFun_ok mixP Tryz.func99 (by kernel_rfl) (Eq.mpr (zcxZ a0 a1 a2 H K) h)
def image_named_1_fl : Floats:=flOf []
def image_named_1_kp : Nat→Option (List Bool):=kpOf []
def image_named_1 (a0 a1 : AV) (H : AH) (K : AV→AH→Prop) : Prop :=
 bH (anew H a0) fun v0 H1 =>
 bO (ashift 0 v0) fun v2 =>
 bO (ald false 1 H1 v2) fun v3 =>
 bP (PCall Tryz.prog 101 [v3,a1] H1) fun v4 =>
 K v4 H1
theorem image_named_1_eq (a0 a1 : AV) (H : AH) (K : AV→AH→Prop) : sFun Tryz.prog image_named_1_fl pqb none0 none0 image_named_1_kp Tryz.f100 [a0,a1] H K=image_named_1 a0 a1 H K:=by kernel_rfl
theorem image_named_1_ok {a0 a1 : AV} {H : AH} {K : AV→AH→Prop} (h : image_named_1 a0 a1 H K) : ∃ r H',K r H'∧BCall Tryz.prog 100 [a0,a1] H r H' :=
 sFun_ok mixP Tryz.func100 (by kernel_rfl) (Eq.mpr (image_named_1_eq a0 a1 H K) h)
def strings_Compare_fl : Floats:=flOf []
def strings_Compare_kp : Nat→Option (List Bool):=kpOf []
def zmwZ (a0 a1 : AV) (H : AH) (K : AV→AH→Prop) : Prop :=
 bP (PCall Tryz.prog 114 [a0,a1] H) fun v0 =>
 K v0 H
theorem strings_Compare_eq (a0 a1 : AV) (H : AH) (K : AV→AH→Prop) : sFun Tryz.prog strings_Compare_fl pqb none0 none0 strings_Compare_kp Tryz.f101 [a0,a1] H K=zmwZ a0 a1 H K:=by kernel_rfl
theorem strings_Compare_ok {a0 a1 : AV} {H : AH} {K : AV→AH→Prop} (h : zmwZ a0 a1 H K) : ∃ r H',K r H'∧BCall Tryz.prog 101 [a0,a1] H r H' :=
 sFun_ok mixP Tryz.func101 (by kernel_rfl) (Eq.mpr (strings_Compare_eq a0 a1 H K) h)
def zbnZ : Floats:=flOf []
def zboZ : Nat→Option (List Bool):=kpOf [(4,mk 49 0 [0,1,2,8,9,10])]
def zkZ (p : List Bool) (n : Nat) : List AV→AH→Kf→Prop:=sCode Tryz.prog zbnZ pqb none0 none0 zboZ (sub p (bodyOf Tryz.f102)) n
def zbpZ (x0 x1 x2 x8 x9 x10 : AV) (H : AH) (K : AV→AH→Prop) : Prop:=lp (mk 49 0 [0,1,2,8,9,10]) (zkZ [true,true,true,false,false,false] 5) [x0,x1,x2,x8,x9,x10] H (kBlk 0 (kSeq (zkZ [true,true,true,true] 9) (kRet Tryz.prog Tryz.f102.results.toList K)))
def zqZ (R4 : List AV→AH→Prop) (x0 x1 x2 x8 x9 x10 : AV) (H : AH) (K : AV→AH→Prop) : Prop :=
 bO (abI .lss x9 x10) fun v0 =>
 bB v0 fun t1 => bI t1 (
 bO (abI .add x9 x10) fun v2 =>
 bO (acI .u64 v2) fun v3 =>
 bO (abI .shr v3 (.lit (.int .u64 1))) fun v4 =>
 bO (acI .i64 v4) fun v5 =>
 bO (aixS 3 x0 v5) fun v6 =>
 bO (ald true 3 H v6) fun v7 =>
 bF true x2 fun k10 f10 c10 =>
 bT (goFunc Tryz.prog k10 || !true) <|
 bC (BCall Tryz.prog k10 (f10 ++ [v7,x1] ++ c10) H) fun v8 H9 =>
 bO (abI .lss v8 (.lit (.int .i64 0))) fun v11 =>
 bB v11 fun t12 => bI t12 (
 bO (abI .add v5 (.lit (.int .i64 1))) fun v13 =>
 R4 [x0,x1,x2,x8,v13,x10] H9)
 (R4 [x0,x1,x2,x8,x9,v5] H9))
 (bO (abI .lss x9 x8) fun v14 =>
 bG v14 true fun w15 =>
 gO w15 (some x2) fun v16 =>
 bG v14 true fun w17 =>
 gO w17 (some x0) fun v18 =>
 bG v14 true fun w19 =>
 gO w19 (some x9) fun v20 =>
 bG v14 true fun w21 =>
 gO w21 (aixS 3 v18 v20) fun v22 =>
 bG v14 true fun w23 =>
 gO w23 (ald true 3 H v22) fun v24 =>
 bG v14 true fun w25 =>
 gO w25 (some x1) fun v26 =>
 bG v14 true fun w27 =>
 bF w27 v16 fun k30 f30 c30 =>
 bT (goFunc Tryz.prog k30 || !w27) <|
 gC w27 (BCall Tryz.prog k30 (f30 ++ [v24,v26] ++ c30) H) H fun v28 H29 =>
 bG v14 true fun w31 =>
 gO w31 (abI .eql v28 (.lit (.int .i64 0))) fun v32 =>
 bO (apick v14 v32 (.lit (.bool false))) fun v33 =>
 K (.tup [x9,v33]) H29)
theorem zcyZ (R4 : List AV→AH→Prop) (x0 x1 x2 x8 x9 x10 : AV) (H : AH) (K : AV→AH→Prop) : zkZ [true,true,true,false,false,false] 5 (expand (mk 49 0 [0,1,2,8,9,10]) [x0,x1,x2,x8,x9,x10]) H (kLp (mk 49 0 [0,1,2,8,9,10]) R4 (kBlk 0 (kSeq (zkZ [true,true,true,true] 9) (kRet Tryz.prog Tryz.f102.results.toList K))))=zqZ R4 x0 x1 x2 x8 x9 x10 H K:=by kernel_rfl
theorem zcrZ {K : AV→AH→Prop} (I : Nat→AV→AV→AV→AV→AV→AV→AH→Prop) (round : ∀ (n : Nat) (x0 x1 x2 x8 x9 x10 : AV) (H : AH) (R : List AV→AH→Prop),(∀ (m : Nat) (y0 y1 y2 y8 y9 y10 : AV) (H' : AH),m < n→I m y0 y1 y2 y8 y9 y10 H'→R [y0,y1,y2,y8,y9,y10] H')→I n x0 x1 x2 x8 x9 x10 H→zqZ R x0 x1 x2 x8 x9 x10 H K) (n : Nat) {x0 x1 x2 x8 x9 x10 : AV} {H : AH} (h : I n x0 x1 x2 x8 x9 x10 H) : zbpZ x0 x1 x2 x8 x9 x10 H K:=by
 refine lp_upto (zvZ _ _) (LI6 I) ?_ n h
 intro n X H h
 obtain ⟨x0,x1,x2,x8,x9,x10,rfl,h⟩:=h.elim
 exact Eq.mpr (zcyZ _ x0 x1 x2 x8 x9 x10 H K) (round n x0 x1 x2 x8 x9 x10 H (fun X H' => ∃ m,m < n∧LI6 I m X H') (fun m y0 y1 y2 y8 y9 y10 H' hm hi => ⟨m,hm,hi⟩) h)
def zwZ (a0 a1 a2 : AV) (H : AH) (K : AV→AH→Prop) : Prop :=
 bO (alnS a0) fun v0 =>
 zbpZ a0 a1 a2 v0 (.lit (.int .i64 0)) v0 H K
theorem zdqZ (a0 a1 a2 : AV) (H : AH) (K : AV→AH→Prop) : sFun Tryz.prog zbnZ pqb none0 none0 zboZ Tryz.f102 [a0,a1,a2] H K=zwZ a0 a1 a2 H K:=by kernel_rfl
theorem zdrZ {a0 a1 a2 : AV} {H : AH} {K : AV→AH→Prop} (h : zwZ a0 a1 a2 H K) : ∃ r H',K r H'∧BCall Tryz.prog 102 [a0,a1,a2] H r H' :=
 sFun_ok mixP Tryz.func102 (by kernel_rfl) (Eq.mpr (zdqZ a0 a1 a2 H K) h)
def image_node_1_fl : Floats:=flOf []
def image_node_1_kp : Nat→Option (List Bool):=kpOf []
def image_node_1 (a0 a1 : AV) (H : AH) (K : AV→AH→Prop) : Prop :=
 bH (anew H a0) fun v0 H1 =>
 bO (ashift 0 v0) fun v2 =>
 bO (ald false 1 H1 v2) fun v3 =>
 bP (PCall Tryz.prog 104 [v3,a1] H1) fun v4 =>
 K v4 H1
theorem image_node_1_eq (a0 a1 : AV) (H : AH) (K : AV→AH→Prop) : sFun Tryz.prog image_node_1_fl pqb none0 none0 image_node_1_kp Tryz.f103 [a0,a1] H K=image_node_1 a0 a1 H K:=by kernel_rfl
theorem image_node_1_ok {a0 a1 : AV} {H : AH} {K : AV→AH→Prop} (h : image_node_1 a0 a1 H K) : ∃ r H',K r H'∧BCall Tryz.prog 103 [a0,a1] H r H' :=
 sFun_ok mixP Tryz.func103 (by kernel_rfl) (Eq.mpr (image_node_1_eq a0 a1 H K) h)
def zgfZ : Floats:=flOf []
def zgpZ : Nat→Option (List Bool):=kpOf []
def zhcZ : Nat→Bool:=inL []
def zeaZ (a0 a1 a2 : AV) (H : AH) (K : AV→AH→Prop) : Prop :=
 bO (aslS 2 a0 (some a1) none none) fun v0 =>
 bO (alnS a2) fun v1 =>
 bO (abI .eql v1 (.lit (.int .i64 0))) fun v2 =>
 bB v2 fun t3 => bI t3 (
 K a0 H)
 (bO (alnS a0) fun v4 =>
 bO (abI .eql a1 v4) fun v5 =>
 bB v5 fun t6 => bI t6 (
 bH (aap 2 24 H a0 a2) fun v7 H8 =>
 K v7 H8)
 (bO (abI .add v4 v1) fun v9 =>
 bO (acpS a0) fun v10 =>
 bO (abI .gtr v9 v10) fun v11 =>
 bB v11 fun t12 => bI t12 (
 bO (aslS 2 a0 none (some a1) none) fun v13 =>
 bO (abI .add v4 v1) fun v14 =>
 bO (abI .sub v14 a1) fun v15 =>
 bH (aappZ1 H 2 24 [(.lit (.string ⟨#[]⟩)),(.lit (.int .i64 0))] v13 v15) fun v16 H17 =>
 bO (aslS 2 v16 (some a1) none none) fun v18 =>
 bH (acp 2 H17 v18 a2) fun v19 H20 =>
 bO (abI .add a1 v1) fun v21 =>
 bO (aslS 2 v16 (some v21) none none) fun v22 =>
 bO (aslS 2 a0 (some a1) none none) fun v23 =>
 bH (acp 2 H20 v22 v23) fun v24 H25 =>
 K v16 H25)
 (bO (abI .add v4 v1) fun v26 =>
 bO (aslS 2 a0 none (some v26) none) fun v27 =>
 bO (abI .add a1 v1) fun v28 =>
 bO (aslS 2 v27 (some v28) none none) fun v29 =>
 bP (ExtR Tryz.prog 105 [a2,v29] H) fun v30 =>
 bO (aun .not v30) fun v31 =>
 bB v31 fun t32 => bI t32 (
 bO (abI .add a1 v1) fun v33 =>
 bO (aslS 2 v27 (some v33) none none) fun v34 =>
 bO (aslS 2 v27 (some a1) none none) fun v35 =>
 bH (acp 2 H v34 v35) fun v36 H37 =>
 bO (aslS 2 v27 (some a1) none none) fun v38 =>
 bH (acp 2 H37 v38 a2) fun v39 H40 =>
 K v27 H40)
 (bO (aslS 2 v27 (some v4) none none) fun v41 =>
 bH (acp 2 H v41 a2) fun v42 H43 =>
 bO (aslS 2 v27 (some a1) none none) fun v44 =>
 bC (BCall Tryz.prog 106 [v44,v1] H43) fun v45 H46 =>
 K v27 H46))))
theorem zggZ (a0 a1 a2 : AV) (H : AH) (K : AV→AH→Prop) : sFun Tryz.prog zgfZ pqb pqba zhcZ zgpZ Tryz.f83 [a0,a1,a2] H K=zeaZ a0 a1 a2 H K:=by kernel_rfl
theorem zgtZ {a0 a1 a2 : AV} {H : AH} {K : AV→AH→Prop} (h : zeaZ a0 a1 a2 H K) : ACalls Tryz.prog 83 [a0,a1,a2] H K :=
 sFun_wp mixP Tryz.func83 (by kernel_rfl) (Eq.mpr (zggZ a0 a1 a2 H K) h)
def zgzZ : Floats:=flOf []
def zgmZ : Nat→Option (List Bool):=kpOf []
def zgyZ : Nat→Bool:=inL []
def zdzZ (a0 a1 a2 : AV) (H : AH) (K : AV→AH→Prop) : Prop :=
 bO (aslS 3 a0 (some a1) none none) fun v0 =>
 bO (alnS a2) fun v1 =>
 bO (abI .eql v1 (.lit (.int .i64 0))) fun v2 =>
 bB v2 fun t3 => bI t3 (
 K a0 H)
 (bO (alnS a0) fun v4 =>
 bO (abI .eql a1 v4) fun v5 =>
 bB v5 fun t6 => bI t6 (
 bH (aap 3 40 H a0 a2) fun v7 H8 =>
 K v7 H8)
 (bO (abI .add v4 v1) fun v9 =>
 bO (acpS a0) fun v10 =>
 bO (abI .gtr v9 v10) fun v11 =>
 bB v11 fun t12 => bI t12 (
 bO (aslS 3 a0 none (some a1) none) fun v13 =>
 bO (abI .add v4 v1) fun v14 =>
 bO (abI .sub v14 a1) fun v15 =>
 bH (aappZ1 H 3 40 [(.lit (.int .i64 0)),(.lit (.int .i64 0)),(.lit (.slice none 0 0))] v13 v15) fun v16 H17 =>
 bO (aslS 3 v16 (some a1) none none) fun v18 =>
 bH (acp 3 H17 v18 a2) fun v19 H20 =>
 bO (abI .add a1 v1) fun v21 =>
 bO (aslS 3 v16 (some v21) none none) fun v22 =>
 bO (aslS 3 a0 (some a1) none none) fun v23 =>
 bH (acp 3 H20 v22 v23) fun v24 H25 =>
 K v16 H25)
 (bO (abI .add v4 v1) fun v26 =>
 bO (aslS 3 a0 none (some v26) none) fun v27 =>
 bO (abI .add a1 v1) fun v28 =>
 bO (aslS 3 v27 (some v28) none none) fun v29 =>
 bP (ExtR Tryz.prog 107 [a2,v29] H) fun v30 =>
 bO (aun .not v30) fun v31 =>
 bB v31 fun t32 => bI t32 (
 bO (abI .add a1 v1) fun v33 =>
 bO (aslS 3 v27 (some v33) none none) fun v34 =>
 bO (aslS 3 v27 (some a1) none none) fun v35 =>
 bH (acp 3 H v34 v35) fun v36 H37 =>
 bO (aslS 3 v27 (some a1) none none) fun v38 =>
 bH (acp 3 H37 v38 a2) fun v39 H40 =>
 K v27 H40)
 (bO (aslS 3 v27 (some v4) none none) fun v41 =>
 bH (acp 3 H v41 a2) fun v42 H43 =>
 bO (aslS 3 v27 (some a1) none none) fun v44 =>
 bC (BCall Tryz.prog 108 [v44,v1] H43) fun v45 H46 =>
 K v27 H46))))
theorem zgoZ (a0 a1 a2 : AV) (H : AH) (K : AV→AH→Prop) : sFun Tryz.prog zgzZ pqb pqba zgyZ zgmZ Tryz.f84 [a0,a1,a2] H K=zdzZ a0 a1 a2 H K:=by kernel_rfl
theorem zhbZ {a0 a1 a2 : AV} {H : AH} {K : AV→AH→Prop} (h : zdzZ a0 a1 a2 H K) : ACalls Tryz.prog 84 [a0,a1,a2] H K :=
 sFun_wp mixP Tryz.func84 (by kernel_rfl) (Eq.mpr (zgoZ a0 a1 a2 H K) h)
def zglZ : Floats:=flOf []
def zgkZ : Nat→Option (List Bool):=kpOf []
def zcgZ (a0 a1 a2 : AV) (H : AH) (K : AV→AH→Prop) : Prop :=
 bO (alnS a0) fun v0 =>
 bO (aslS 2 a0 (some a1) (some a2) (some v0)) fun v1 =>
 bO (abI .eql a1 a2) fun v2 =>
 bB v2 fun t3 => bI t3 (
 K a0 H)
 (bO (alnS a0) fun v4 =>
 bO (aslS 2 a0 none (some a1) none) fun v5 =>
 bO (aslS 2 a0 (some a2) none none) fun v6 =>
 bH (aap 2 24 H v5 v6) fun v7 H8 =>
 bO (alnS v7) fun v9 =>
 bO (aslS 2 v7 (some v9) (some v4) none) fun v10 =>
 bS (acl [(.lit (.string ⟨#[]⟩)),(.lit (.int .i64 0))] H8 v10) fun H11 =>
 K v7 H11)
theorem zgqZ (a0 a1 a2 : AV) (H : AH) (K : AV→AH→Prop) : sFun Tryz.prog zglZ pqb none0 none0 zgkZ Tryz.f88 [a0,a1,a2] H K=zcgZ a0 a1 a2 H K:=by kernel_rfl
theorem zgsZ {a0 a1 a2 : AV} {H : AH} {K : AV→AH→Prop} (h : zcgZ a0 a1 a2 H K) : ∃ r H',K r H'∧BCall Tryz.prog 88 [a0,a1,a2] H r H' :=
 sFun_ok mixP Tryz.func88 (by kernel_rfl) (Eq.mpr (zgqZ a0 a1 a2 H K) h)
def zheZ : Floats:=flOf []
def zghZ : Nat→Option (List Bool):=kpOf []
def zcfZ (a0 a1 a2 : AV) (H : AH) (K : AV→AH→Prop) : Prop :=
 bO (alnS a0) fun v0 =>
 bO (aslS 3 a0 (some a1) (some a2) (some v0)) fun v1 =>
 bO (abI .eql a1 a2) fun v2 =>
 bB v2 fun t3 => bI t3 (
 K a0 H)
 (bO (alnS a0) fun v4 =>
 bO (aslS 3 a0 none (some a1) none) fun v5 =>
 bO (aslS 3 a0 (some a2) none none) fun v6 =>
 bH (aap 3 40 H v5 v6) fun v7 H8 =>
 bO (alnS v7) fun v9 =>
 bO (aslS 3 v7 (some v9) (some v4) none) fun v10 =>
 bS (acl [(.lit (.int .i64 0)),(.lit (.int .i64 0)),(.lit (.slice none 0 0))] H8 v10) fun H11 =>
 K v7 H11)
theorem zgjZ (a0 a1 a2 : AV) (H : AH) (K : AV→AH→Prop) : sFun Tryz.prog zheZ pqb none0 none0 zghZ Tryz.f89 [a0,a1,a2] H K=zcfZ a0 a1 a2 H K:=by kernel_rfl
theorem zhaZ {a0 a1 a2 : AV} {H : AH} {K : AV→AH→Prop} (h : zcfZ a0 a1 a2 H K) : ∃ r H',K r H'∧BCall Tryz.prog 89 [a0,a1,a2] H r H' :=
 sFun_ok mixP Tryz.func89 (by kernel_rfl) (Eq.mpr (zgjZ a0 a1 a2 H K) h)
end Go.Proofs.YtlbilcpnjgkpjaaGreat.Av
end
section
namespace Go.Proofs.YtlbilcpnjgkpjaaGreat.Av
open Go
def pqe : FuncId→Bool:=inL [36,35,63,66,97,54,62,51,73,46,86,87,85,74,113,94,75,96,50,95,93,77,98,16]
def store_New_fl : Floats:=flOf []
def store_New_kp : Nat→Option (List Bool):=kpOf []
def store_New (a0 : AV) (H : AH) (K : AV→AH→Prop) : Prop :=
 bO (amm imx [a0,(.lit (.int .i64 0))]) fun v0 =>
 bO (amm imn [v0,(.lit (.int .i64 4096))]) fun v1 =>
 bO (abl [(.lit (.int .i64 0)),(.lit (.slice none 0 0)),(.lit (.slice none 0 0)),(.lit (.slice none 0 0)),(.lit (.slice none 0 0)),(.lit (.slice none 0 0)),(.lit (.int .i64 0)),(.lit (.int .i64 0)),(.lit (.bool false))] [(0,1,v1),(7,1,(.lit (.int .i64 (-1))))]) fun v2 =>
 bH (anew H v2) fun v3 H4 =>
 K v3 H4
theorem store_New_eq (a0 : AV) (H : AH) (K : AV→AH→Prop) : sFun Tryz.prog store_New_fl pqe none0 none0 store_New_kp Tryz.f9 [a0] H K=store_New a0 H K:=by kernel_rfl
theorem store_New_ok {a0 : AV} {H : AH} {K : AV→AH→Prop} (h : store_New a0 H K) : ∃ r H',K r H'∧BCall Tryz.prog 9 [a0] H r H' :=
 sFun_ok mixP Tryz.func9 (by kernel_rfl) (Eq.mpr (store_New_eq a0 H K) h)
def store_Store_Free_fl : Floats:=flOf []
def store_Store_Free_kp : Nat→Option (List Bool):=kpOf []
def zlhZ (a0 : AV) (H : AH) (K : AV→AH→Prop) : Prop :=
 bO (zdZ a0) fun v0 =>
 bO (ashift 0 v0) fun v1 =>
 bO (ald false 1 H v1) fun v2 =>
 bO (zdZ a0) fun v3 =>
 bO (ashift 1 v3) fun v4 =>
 bO (ald true 2 H v4) fun v5 =>
 bP (BPure Tryz.prog 97 [v5]) fun v6 =>
 bO (abI .sub v2 v6) fun v7 =>
 bO (amm imx [(.lit (.int .i64 0)),v7]) fun v8 =>
 K v8 H
theorem store_Store_Free_eq (a0 : AV) (H : AH) (K : AV→AH→Prop) : sFun Tryz.prog store_Store_Free_fl pqe none0 none0 store_Store_Free_kp Tryz.f76 [a0] H K=zlhZ a0 H K:=by kernel_rfl
theorem store_Store_Free_ok {a0 : AV} {H : AH} {K : AV→AH→Prop} (h : zlhZ a0 H K) : ∃ r H',K r H'∧BCall Tryz.prog 76 [a0] H r H' :=
 sFun_ok mixP Tryz.func76 (by kernel_rfl) (Eq.mpr (store_Store_Free_eq a0 H K) h)
def zmgZ : Floats:=flOf []
def zlsZ : Nat→Option (List Bool):=kpOf [(1,mk 31 0 [])]
def store_Store_deed_c (p : List Bool) (n : Nat) : List AV→AH→Kf→Prop:=sCode Tryz.prog zmgZ pqe none0 none0 zlsZ (sub p (bodyOf Tryz.f49)) n
def zhxZ (H : AH) (K : AV→AH→Prop) : Prop:=jn (mk 31 0 []) (store_Store_deed_c [true,true] 6) [] H (kRet Tryz.prog Tryz.f49.results.toList K)
def zfzZ (H : AH) (K : AV→AH→Prop) : Prop :=
 K (.lit (.bool true)) H
theorem zjdZ (H : AH) (K : AV→AH→Prop) : zhxZ H K=zfzZ H K:=(jn_eq _ _ _ _ _).trans (by kernel_rfl)
def zkwZ (a0 : AV) (H : AH) (K : AV→AH→Prop) : Prop :=
 bO (zdZ a0) fun v0 =>
 bO (ashift 8 v0) fun v1 =>
 bO (ald false 1 H v1) fun v2 =>
 bG v2 false fun w3 =>
 gO w3 (some a0) fun v4 =>
 bG v2 false fun w5 =>
 gO w5 (zdZ v4) fun v6 =>
 bG v2 false fun w7 =>
 gO w7 (ashift 7 v6) fun v8 =>
 bG v2 false fun w9 =>
 gO w9 (ald false 1 H v8) fun v10 =>
 bG v2 false fun w11 =>
 gO w11 (abI .eql v10 (.lit (.int .i64 0))) fun v12 =>
 bO (apick v2 (.lit (.bool true)) v12) fun v13 =>
 bB v13 fun t14 => bI t14 (
 bO (zdZ a0) fun v15 =>
 bO (ashift 8 v15) fun v16 =>
 bS (ast 1 H v16 (.lit (.bool true))) fun H17 =>
 K (.lit (.bool false)) H17)
 (bO (zdZ a0) fun v18 =>
 bO (ashift 7 v18) fun v19 =>
 bO (ald false 1 H v19) fun v20 =>
 bO (abI .gtr v20 (.lit (.int .i64 0))) fun v21 =>
 bB v21 fun t22 => bI t22 (
 bO (zdZ a0) fun v23 =>
 bO (ashift 7 v23) fun v24 =>
 bO (ald false 1 H v24) fun v25 =>
 bO (abI .sub v25 (.lit (.int .i64 1))) fun v26 =>
 bO (zdZ a0) fun v27 =>
 bO (ashift 7 v27) fun v28 =>
 bS (ast 1 H v28 v26) fun H29 =>
 zhxZ H29 K)
 (zhxZ H K))
theorem store_Store_deed_eq (a0 : AV) (H : AH) (K : AV→AH→Prop) : sFun Tryz.prog zmgZ pqe none0 none0 zlsZ Tryz.f49 [a0] H K=zkwZ a0 H K:=by kernel_rfl
theorem store_Store_deed_ok {a0 : AV} {H : AH} {K : AV→AH→Prop} (h : zkwZ a0 H K) : ∃ r H',K r H'∧BCall Tryz.prog 49 [a0] H r H' :=
 sFun_ok mixP Tryz.func49 (by kernel_rfl) (Eq.mpr (store_Store_deed_eq a0 H K) h)
def store_Store_do_fl : Floats:=flOf []
def store_Store_do_kp : Nat→Option (List Bool):=kpOf []
def zosZ (a0 a1 : AV) (H : AH) (K : AV→AH→Prop) : Prop :=
 bH (anew H a1) fun v0 H1 =>
 bC (BCall Tryz.prog 49 [a0] H1) fun v2 H3 =>
 bO (aun .not v2) fun v4 =>
 bB v4 fun t5 => bI t5 (
 K (.lit (.int .i64 8)) H3)
 (bO (zdZ a0) fun v6 =>
 bO (ashift 1 v6) fun v7 =>
 bO (ald true 2 H3 v7) fun v8 =>
 bO (ald true 8 H3 v0) fun v9 =>
 bP (BPure Tryz.prog 35 [v8,v9]) fun v10 =>
 bO (zdZ a0) fun v11 =>
 bO (ashift 1 v11) fun v12 =>
 bS (ast 2 H3 v12 v10) fun H13 =>
 bO (zdZ a0) fun v14 =>
 bO (ashift 5 v14) fun v15 =>
 bO (ald false 1 H13 v15) fun v16 =>
 bO (ald true 8 H13 v0) fun v17 =>
 bO (absf 8 1 (zrow [(.lit (.int .i64 0)),(.lit (.int .i64 0)),(.lit (.int .i64 0)),(.lit (.int .i64 0)),(.lit (.bool false)),(.lit (.string ⟨#[]⟩)),(.lit (.string ⟨#[]⟩)),(.lit (.slice none 0 0))] 1) [(0,8,v17)]) fun v18 =>
 bH (aap 8 96 H13 v16 v18) fun v19 H20 =>
 bO (zdZ a0) fun v21 =>
 bO (ashift 5 v21) fun v22 =>
 bS (ast 1 H20 v22 v19) fun H23 =>
 K (.lit (.int .i64 0)) H23)
theorem store_Store_do_eq (a0 a1 : AV) (H : AH) (K : AV→AH→Prop) : sFun Tryz.prog store_Store_do_fl pqe none0 none0 store_Store_do_kp Tryz.f38 [a0,a1] H K=zosZ a0 a1 H K:=by kernel_rfl
theorem store_Store_do_ok {a0 a1 : AV} {H : AH} {K : AV→AH→Prop} (h : zosZ a0 a1 H K) : ∃ r H',K r H'∧BCall Tryz.prog 38 [a0,a1] H r H' :=
 sFun_ok mixP Tryz.func38 (by kernel_rfl) (Eq.mpr (store_Store_do_eq a0 a1 H K) h)
def zppZ : Floats:=flOf []
def zpqZ : Nat→Option (List Bool):=kpOf []
def zdwZ (a0 a1 : AV) (H : AH) (K : AV→AH→Prop) : Prop :=
 bH (anew H (.agg [(.lit (.int .i64 0)),(.lit (.slice none 0 0))])) fun v0 H1 =>
 bO (zdZ a0) fun v2 =>
 bO (ashift 8 v2) fun v3 =>
 bO (ald false 1 H1 v3) fun v4 =>
 bB v4 fun t5 => bI t5 (
 bO (abl [(.lit (.int .i64 0)),(.lit (.slice none 0 0))] []) fun v6 =>
 bS (ast 2 H1 v0 v6) fun H7 =>
 bO (ald true 2 H7 v0) fun v8 =>
 K (.tup [v8,(.lit (.int .i64 8))]) H7)
 (bO (zdZ a0) fun v9 =>
 bO (ashift 1 v9) fun v10 =>
 bO (ald true 2 H1 v10) fun v11 =>
 bP (PCall Tryz.prog 66 [v11,a1] H1) fun v12 =>
 bO (zhZ v12 0) fun v13 =>
 bO (zhZ v12 1) fun v14 =>
 bH (anew H1 (.agg [(.lit (.int .i64 0)),(.lit (.slice none 0 0))])) fun v15 H16 =>
 bS (ast 2 H16 v15 v13) fun H17 =>
 bO (aun .not v14) fun v18 =>
 bB v18 fun t19 => bI t19 (
 bO (abl [(.lit (.int .i64 0)),(.lit (.slice none 0 0))] []) fun v20 =>
 bS (ast 2 H17 v0 v20) fun H21 =>
 bO (ald true 2 H21 v0) fun v22 =>
 K (.tup [v22,(.lit (.int .i64 3))]) H21)
 (bO (ald true 2 H17 v15) fun v23 =>
 bS (ast 2 H17 v0 v23) fun H24 =>
 bO (ald true 2 H24 v0) fun v25 =>
 K (.tup [v25,(.lit (.int .i64 0))]) H24))
theorem zpmZ (a0 a1 : AV) (H : AH) (K : AV→AH→Prop) : sFun Tryz.prog zppZ pqe none0 none0 zpqZ Tryz.f45 [a0,a1] H K=zdwZ a0 a1 H K:=by kernel_rfl
theorem zezZ {a0 a1 : AV} {H : AH} {K : AV→AH→Prop} (h : zdwZ a0 a1 H K) : ∃ r H',K r H'∧BCall Tryz.prog 45 [a0,a1] H r H' :=
 sFun_ok mixP Tryz.func45 (by kernel_rfl) (Eq.mpr (zpmZ a0 a1 H K) h)
def store_Store_find_fl : Floats:=flOf []
def store_Store_find_kp : Nat→Option (List Bool):=kpOf []
def zkxZ (a0 a1 : AV) (H : AH) (K : AV→AH→Prop) : Prop :=
 bO (zdZ a0) fun v0 =>
 bO (ashift 8 v0) fun v1 =>
 bO (ald false 1 H v1) fun v2 =>
 bB v2 fun t3 => bI t3 (
 K (.tup [(.lit (.int .i64 0)),(.lit (.int .i64 8))]) H)
 (bP (PCall Tryz.prog 62 [a1] H) fun v4 =>
 bO (aun .not v4) fun v5 =>
 bB v5 fun t6 => bI t6 (
 K (.tup [(.lit (.int .i64 0)),(.lit (.int .i64 5))]) H)
 (bO (zdZ a0) fun v7 =>
 bO (ashift 1 v7) fun v8 =>
 bO (ald true 2 H v8) fun v9 =>
 bP (PCall Tryz.prog 63 [v9,a1] H) fun v10 =>
 bO (zhZ v10 0) fun v11 =>
 bO (zhZ v10 1) fun v12 =>
 bO (aun .not v12) fun v13 =>
 bB v13 fun t14 => bI t14 (
 K (.tup [(.lit (.int .i64 0)),(.lit (.int .i64 3))]) H)
 (K (.tup [v11,(.lit (.int .i64 0))]) H)))
theorem store_Store_find_eq (a0 a1 : AV) (H : AH) (K : AV→AH→Prop) : sFun Tryz.prog store_Store_find_fl pqe none0 none0 store_Store_find_kp Tryz.f37 [a0,a1] H K=zkxZ a0 a1 H K:=by kernel_rfl
theorem store_Store_find_ok {a0 a1 : AV} {H : AH} {K : AV→AH→Prop} (h : zkxZ a0 a1 H K) : ∃ r H',K r H'∧BCall Tryz.prog 37 [a0,a1] H r H' :=
 sFun_ok mixP Tryz.func37 (by kernel_rfl) (Eq.mpr (store_Store_find_eq a0 a1 H K) h)
def store_Store_Open_fl : Floats:=flOf []
def store_Store_Open_kp : Nat→Option (List Bool):=kpOf []
def zljZ (a0 a1 a2 : AV) (H : AH) (K : AV→AH→Prop) : Prop :=
 bC (BCall Tryz.prog 37 [a0,a1] H) fun v0 H1 =>
 bO (zhZ v0 0) fun v2 =>
 bO (zhZ v0 1) fun v3 =>
 bO (abI .neq v3 (.lit (.int .i64 3))) fun v4 =>
 bG v4 false fun w5 =>
 gO w5 (some a2) fun v6 =>
 bG v4 false fun w7 =>
 gO w7 (aun .not v6) fun v8 =>
 bO (apick v4 (.lit (.bool true)) v8) fun v9 =>
 bB v9 fun t10 => bI t10 (
 K (.tup [v2,v3]) H1)
 (bO (zdZ a0) fun v11 =>
 bO (ashift 1 v11) fun v12 =>
 bO (ashift 0 v12) fun v13 =>
 bO (ald false 1 H1 v13) fun v14 =>
 bO (alnS v14) fun v15 =>
 bO (abI .geq v15 (.lit (.int .i64 16))) fun v16 =>
 bB v16 fun t17 => bI t17 (
 K (.tup [(.lit (.int .i64 0)),(.lit (.int .i64 4))]) H1)
 (bO (zdZ a0) fun v18 =>
 bO (ashift 6 v18) fun v19 =>
 bO (ald false 1 H1 v19) fun v20 =>
 bO (abI .add v20 (.lit (.int .i64 1))) fun v21 =>
 bO (abl [(.lit (.int .i64 0)),(.lit (.int .i64 0)),(.lit (.int .i64 0)),(.lit (.int .i64 0)),(.lit (.bool false)),(.lit (.string ⟨#[]⟩)),(.lit (.string ⟨#[]⟩)),(.lit (.slice none 0 0))] [(0,1,(.lit (.int .i64 1))),(5,1,a1),(1,1,v21)]) fun v22 =>
 bC (BCall Tryz.prog 38 [a0,v22] H1) fun v23 H24 =>
 bO (abI .neq v23 (.lit (.int .i64 0))) fun v25 =>
 bB v25 fun t26 => bI t26 (
 K (.tup [(.lit (.int .i64 0)),v23]) H24)
 (bO (zdZ a0) fun v27 =>
 bO (ashift 6 v27) fun v28 =>
 bO (ald false 1 H24 v28) fun v29 =>
 bO (abI .add v29 (.lit (.int .i64 1))) fun v30 =>
 bO (zdZ a0) fun v31 =>
 bO (ashift 6 v31) fun v32 =>
 bS (ast 1 H24 v32 v30) fun H33 =>
 bO (zdZ a0) fun v34 =>
 bO (ashift 6 v34) fun v35 =>
 bO (ald false 1 H33 v35) fun v36 =>
 K (.tup [v36,(.lit (.int .i64 0))]) H33)))
theorem store_Store_Open_eq (a0 a1 a2 : AV) (H : AH) (K : AV→AH→Prop) : sFun Tryz.prog store_Store_Open_fl pqe none0 none0 store_Store_Open_kp Tryz.f23 [a0,a1,a2] H K=zljZ a0 a1 a2 H K:=by kernel_rfl
theorem store_Store_Open_ok {a0 a1 a2 : AV} {H : AH} {K : AV→AH→Prop} (h : zljZ a0 a1 a2 H K) : ∃ r H',K r H'∧BCall Tryz.prog 23 [a0,a1,a2] H r H' :=
 sFun_ok mixP Tryz.func23 (by kernel_rfl) (Eq.mpr (store_Store_Open_eq a0 a1 a2 H K) h)
def store_Store_Size_fl : Floats:=flOf []
def store_Store_Size_kp : Nat→Option (List Bool):=kpOf []
def zlbZ (a0 a1 : AV) (H : AH) (K : AV→AH→Prop) : Prop :=
 bC (BCall Tryz.prog 45 [a0,a1] H) fun v0 H1 =>
 bO (zhZ v0 0) fun v2 =>
 bO (zhZ v0 1) fun v3 =>
 bH (anew H1 (.agg [(.lit (.int .i64 0)),(.lit (.slice none 0 0))])) fun v4 H5 =>
 bS (ast 2 H5 v4 v2) fun H6 =>
 bO (ashift 0 v4) fun v7 =>
 bO (ald false 1 H6 v7) fun v8 =>
 K (.tup [v8,v3]) H6
theorem store_Store_Size_eq (a0 a1 : AV) (H : AH) (K : AV→AH→Prop) : sFun Tryz.prog store_Store_Size_fl pqe none0 none0 store_Store_Size_kp Tryz.f31 [a0,a1] H K=zlbZ a0 a1 H K:=by kernel_rfl
theorem store_Store_Size_ok {a0 a1 : AV} {H : AH} {K : AV→AH→Prop} (h : zlbZ a0 a1 H K) : ∃ r H',K r H'∧BCall Tryz.prog 31 [a0,a1] H r H' :=
 sFun_ok mixP Tryz.func31 (by kernel_rfl) (Eq.mpr (store_Store_Size_eq a0 a1 H K) h)
def store_Store_Read_fl : Floats:=flOf []
def store_Store_Read_kp : Nat→Option (List Bool):=kpOf []
def zfjZ (a0 a1 a2 a3 : AV) (H : AH) (K : AV→AH→Prop) : Prop :=
 bC (BCall Tryz.prog 45 [a0,a1] H) fun v0 H1 =>
 bO (zhZ v0 0) fun v2 =>
 bO (zhZ v0 1) fun v3 =>
 bH (anew H1 (.agg [(.lit (.int .i64 0)),(.lit (.slice none 0 0))])) fun v4 H5 =>
 bS (ast 2 H5 v4 v2) fun H6 =>
 bO (abI .neq v3 (.lit (.int .i64 0))) fun v7 =>
 bB v7 fun t8 => bI t8 (
 K (.tup [(.lit (.slice none 0 0)),v3]) H6)
 (bO (abI .lss a2 (.lit (.int .i64 0))) fun v9 =>
 bG v9 false fun w10 =>
 gO w10 (some a3) fun v11 =>
 bG v9 false fun w12 =>
 gO w12 (abI .lss v11 (.lit (.int .i64 0))) fun v13 =>
 bO (apick v9 (.lit (.bool true)) v13) fun v14 =>
 bG v14 false fun w15 =>
 gO w15 (some a3) fun v16 =>
 bG v14 false fun w17 =>
 gO w17 (abI .gtr v16 (.lit (.int .i64 4096))) fun v18 =>
 bO (apick v14 (.lit (.bool true)) v18) fun v19 =>
 bB v19 fun t20 => bI t20 (
 K (.tup [(.lit (.slice none 0 0)),(.lit (.int .i64 5))]) H6)
 (bO (ald true 2 H6 v4) fun v21 =>
 bP (PCall Tryz.prog 51 [v21,a2,a3] H6) fun v22 =>
 K (.tup [v22,(.lit (.int .i64 0))]) H6))
theorem store_Store_Read_eq (a0 a1 a2 a3 : AV) (H : AH) (K : AV→AH→Prop) : sFun Tryz.prog store_Store_Read_fl pqe none0 none0 store_Store_Read_kp Tryz.f32 [a0,a1,a2,a3] H K=zfjZ a0 a1 a2 a3 H K:=by kernel_rfl
theorem ziaZ {a0 a1 a2 a3 : AV} {H : AH} {K : AV→AH→Prop} (h : zfjZ a0 a1 a2 a3 H K) : ∃ r H',K r H'∧BCall Tryz.prog 32 [a0,a1,a2,a3] H r H' :=
 sFun_ok mixP Tryz.func32 (by kernel_rfl) (Eq.mpr (store_Store_Read_eq a0 a1 a2 a3 H K) h)
def zktZ : Floats:=flOf [(12,[(3,some 11)])]
def zkrZ : Nat→Option (List Bool):=kpOf [(9,mk 79 0 [0,1,2,3,10,36,37,38])]
def zetZ (p : List Bool) (n : Nat) : List AV→AH→Kf→Prop:=sCode Tryz.prog zktZ pqe none0 none0 zkrZ (sub p (bodyOf Tryz.f48)) n
def zkkZ (x0 x1 x2 x3 x10 x36 x37 x38 : AV) (H : AH) (K : AV→AH→Prop) : Prop:=lp (mk 79 0 [0,1,2,3,10,36,37,38]) (zetZ [true,true,true,false,true,false,false] 10) [x0,x1,x2,x3,x10,x36,x37,x38] H (kBlk 1 (kSeq (zetZ [true,true,true,true] 21) (kRet Tryz.prog Tryz.f48.results.toList K)))
def zfeZ (R9 : List AV→AH→Prop) (x0 x1 x2 x3 x10 x36 x37 x38 : AV) (H : AH) (K : AV→AH→Prop) : Prop :=
 bO (abI .lss x38 x37) fun v0 =>
 bB v0 fun t1 => bI t1 (
 bO (aixS 2 x36 x38) fun v2 =>
 bO (ald true 2 H v2) fun v3 =>
 bH (anew H (.agg [(.lit (.int .i64 0)),(.lit (.int .i64 0))])) fun v4 H5 =>
 bS (ast 2 H5 v4 v3) fun H6 =>
 bO (ashift 0 v4) fun v7 =>
 bO (ald false 1 H6 v7) fun v8 =>
 bO (abI .sub v8 x2) fun v9 =>
 bO (ald true 2 H6 x10) fun v10 =>
 bO (ashift 0 v4) fun v11 =>
 bO (ald false 1 H6 v11) fun v12 =>
 bO (abI .quo v12 (.lit (.int .i64 8))) fun v13 =>
 bP (PCall Tryz.prog 75 [v10,v13] H6) fun v14 =>
 bO (aun .not v14) fun v15 =>
 bG v15 true fun w16 =>
 gO w16 (some x0) fun v17 =>
 bG v15 true fun w18 =>
 gC w18 (BCall Tryz.prog 76 [v17] H6) H6 fun v19 H20 =>
 bG v15 true fun w21 =>
 gO w21 (abI .eql v19 (.lit (.int .i64 0))) fun v22 =>
 bO (apick v15 v22 (.lit (.bool false))) fun v23 =>
 bB v23 fun t24 => bI t24 (
 K (.tup [v9,(.lit (.int .i64 4))]) H20)
 (bO (ashift 0 v4) fun v25 =>
 bO (ald false 1 H20 v25) fun v26 =>
 bO (ashift 1 v4) fun v27 =>
 bO (ald false 1 H20 v27) fun v28 =>
 bO (abI .add v9 v28) fun v29 =>
 bO (aslS 1 x3 (some v9) (some v29) none) fun v30 =>
 bC (BCall Tryz.prog 25 [v30] H20) fun v31 H32 =>
 bO (abl [(.lit (.int .i64 0)),(.lit (.int .i64 0)),(.lit (.int .i64 0)),(.lit (.int .i64 0)),(.lit (.bool false)),(.lit (.string ⟨#[]⟩)),(.lit (.string ⟨#[]⟩)),(.lit (.slice none 0 0))] [(0,1,(.lit (.int .i64 2))),(1,1,x1),(2,1,v26),(7,1,v31)]) fun v33 =>
 bC (BCall Tryz.prog 38 [x0,v33] H32) fun v34 H35 =>
(ald false 1 H32 v25=some v26) ∧
 bO (abI .neq v34 (.lit (.int .i64 0))) fun v36 =>
 bB v36 fun t37 => bI t37 (
 K (.tup [v9,v34]) H35)
 (bO (abI .add x38 (.lit (.int .i64 1))) fun v38 =>
 R9 [x0,x1,x2,x3,x10,x36,x37,v38] H35)))
 (bO (alnS x3) fun v39 =>
 K (.tup [v39,(.lit (.int .i64 0))]) H)
theorem zocZ (R9 : List AV→AH→Prop) (x0 x1 x2 x3 x10 x36 x37 x38 : AV) (H : AH) (K : AV→AH→Prop) : zetZ [true,true,true,false,true,false,false] 10 (expand (mk 79 0 [0,1,2,3,10,36,37,38]) [x0,x1,x2,x3,x10,x36,x37,x38]) H (kLp (mk 79 0 [0,1,2,3,10,36,37,38]) R9 (kBlk 1 (kSeq (zetZ [true,true,true,true] 21) (kRet Tryz.prog Tryz.f48.results.toList K))))=zfeZ R9 x0 x1 x2 x3 x10 x36 x37 x38 H K:=by kernel_rfl
theorem zmnZ {K : AV→AH→Prop} (I : Nat→AV→AV→AV→AV→AV→AV→AV→AV→AH→Prop) (round : ∀ (n : Nat) (x0 x1 x2 x3 x10 x36 x37 x38 : AV) (H : AH) (R : List AV→AH→Prop),(∀ (m : Nat) (y0 y1 y2 y3 y10 y36 y37 y38 : AV) (H' : AH),m < n→I m y0 y1 y2 y3 y10 y36 y37 y38 H'→R [y0,y1,y2,y3,y10,y36,y37,y38] H')→I n x0 x1 x2 x3 x10 x36 x37 x38 H→zfeZ R x0 x1 x2 x3 x10 x36 x37 x38 H K) (n : Nat) {x0 x1 x2 x3 x10 x36 x37 x38 : AV} {H : AH} (h : I n x0 x1 x2 x3 x10 x36 x37 x38 H) : zkkZ x0 x1 x2 x3 x10 x36 x37 x38 H K:=by
 refine lp_upto (zvZ _ _) (LI8 I) ?_ n h
 intro n X H h
 obtain ⟨x0,x1,x2,x3,x10,x36,x37,x38,rfl,h⟩:=h.elim
 exact Eq.mpr (zocZ _ x0 x1 x2 x3 x10 x36 x37 x38 H K) (round n x0 x1 x2 x3 x10 x36 x37 x38 H (fun X H' => ∃ m,m < n∧LI8 I m X H') (fun m y0 y1 y2 y3 y10 y36 y37 y38 H' hm hi => ⟨m,hm,hi⟩) h)
def zjqZ (a0 a1 a2 a3 : AV) (H : AH) (K : AV→AH→Prop) : Prop :=
 bC (BCall Tryz.prog 45 [a0,a1] H) fun v0 H1 =>
 bO (zhZ v0 0) fun v2 =>
 bO (zhZ v0 1) fun v3 =>
 bH (anew H1 (.agg [(.lit (.int .i64 0)),(.lit (.slice none 0 0))])) fun v4 H5 =>
 bS (ast 2 H5 v4 v2) fun H6 =>
 bO (abI .neq v3 (.lit (.int .i64 0))) fun v7 =>
 bB v7 fun t8 => bI t8 (
 K (.tup [(.lit (.int .i64 0)),v3]) H6)
 (bO (alnS a3) fun v9 =>
 bP (PCall Tryz.prog 73 [a2,v9] H6) fun v10 =>
 bO (aun .not v10) fun v11 =>
 bB v11 fun t12 => bI t12 (
 K (.tup [(.lit (.int .i64 0)),(.lit (.int .i64 5))]) H6)
 (bO (alnS a3) fun v13 =>
 bO (abl [(.lit (.int .i64 0)),(.lit (.int .i64 0))] [(0,1,a2),(1,1,v13)]) fun v14 =>
 bP (PCall Tryz.prog 74 [v14,(.lit (.int .i64 8))] H6) fun v15 =>
 bO (alnS v15) fun v16 =>
 zkkZ a0 a1 a2 a3 v4 v15 v16 (.lit (.int .i64 0)) H6 K))
theorem store_Store_Write_eq (a0 a1 a2 a3 : AV) (H : AH) (K : AV→AH→Prop) : sFun Tryz.prog zktZ pqe none0 none0 zkrZ Tryz.f48 [a0,a1,a2,a3] H K=zjqZ a0 a1 a2 a3 H K:=by kernel_rfl
theorem store_Store_Write_ok {a0 a1 a2 a3 : AV} {H : AH} {K : AV→AH→Prop} (h : zjqZ a0 a1 a2 a3 H K) : ∃ r H',K r H'∧BCall Tryz.prog 48 [a0,a1,a2,a3] H r H' :=
 sFun_ok mixP Tryz.func48 (by kernel_rfl) (Eq.mpr (store_Store_Write_eq a0 a1 a2 a3 H K) h)
def zpeZ : Floats:=flOf []
def zooZ : Nat→Option (List Bool):=kpOf []
def zgwZ (a0 a1 a2 : AV) (H : AH) (K : AV→AH→Prop) : Prop :=
 bC (BCall Tryz.prog 45 [a0,a1] H) fun v0 H1 =>
 bO (zhZ v0 0) fun v2 =>
 bO (zhZ v0 1) fun v3 =>
 bH (anew H1 (.agg [(.lit (.int .i64 0)),(.lit (.slice none 0 0))])) fun v4 H5 =>
 bS (ast 2 H5 v4 v2) fun H6 =>
 bO (abI .neq v3 (.lit (.int .i64 0))) fun v7 =>
 bB v7 fun t8 => bI t8 (
 K v3 H6)
 (bO (ald true 2 H6 v4) fun v9 =>
 bP (PCall Tryz.prog 46 [v9,a2] H6) fun v10 =>
 bO (zhZ v10 0) fun v11 =>
 bO (zhZ v10 1) fun v12 =>
 bH (anew H6 (.agg [(.lit (.int .i64 0)),(.lit (.slice none 0 0))])) fun v13 H14 =>
 bS (ast 2 H14 v13 v11) fun H15 =>
 bO (aun .not v12) fun v16 =>
 bB v16 fun t17 => bI t17 (
 K (.lit (.int .i64 5)) H15)
 (bO (abl [(.lit (.int .i64 0)),(.lit (.int .i64 0)),(.lit (.int .i64 0)),(.lit (.int .i64 0)),(.lit (.bool false)),(.lit (.string ⟨#[]⟩)),(.lit (.string ⟨#[]⟩)),(.lit (.slice none 0 0))] [(0,1,(.lit (.int .i64 3))),(1,1,a1),(3,1,a2)]) fun v18 =>
 bC (BCall Tryz.prog 38 [a0,v18] H15) fun v19 H20 =>
 K v19 H20))
theorem zotZ (a0 a1 a2 : AV) (H : AH) (K : AV→AH→Prop) : sFun Tryz.prog zpeZ pqe none0 none0 zooZ Tryz.f28 [a0,a1,a2] H K=zgwZ a0 a1 a2 H K:=by kernel_rfl
theorem zouZ {a0 a1 a2 : AV} {H : AH} {K : AV→AH→Prop} (h : zgwZ a0 a1 a2 H K) : ∃ r H',K r H'∧BCall Tryz.prog 28 [a0,a1,a2] H r H' :=
 sFun_ok mixP Tryz.func28 (by kernel_rfl) (Eq.mpr (zotZ a0 a1 a2 H K) h)
def zlwZ : Floats:=flOf []
def zlyZ : Nat→Option (List Bool):=kpOf [(10,mk 41 0 [0,1,5,14,15,16]),(7,mk 41 0 [0,1,5,14,15,16])]
def zdhZ (p : List Bool) (n : Nat) : List AV→AH→Kf→Prop:=sCode Tryz.prog zlwZ pqe none0 none0 zlyZ (sub p (bodyOf Tryz.f30)) n
def zgnZ (R7 : List AV→AH→Prop) (x0 x1 x5 x14 x15 x16 : AV) (H : AH) (K : AV→AH→Prop) : Prop:=jn (mk 41 0 [0,1,5,14,15,16]) (zdhZ [true,true,true,false,true,false,false,true,true,true] 13) [x0,x1,x5,x14,x15,x16] H (kLp (mk 41 0 [0,1,5,14,15,16]) R7 (kBlk 0 (kSeq (zdhZ [true,true,true,true] 13) (kRet Tryz.prog Tryz.f30.results.toList K))))
def zmaZ (x0 x1 x5 x14 x15 x16 : AV) (H : AH) (K : AV→AH→Prop) : Prop:=lp (mk 41 0 [0,1,5,14,15,16]) (zdhZ [true,true,true,false,true,false,false] 8) [x0,x1,x5,x14,x15,x16] H (kBlk 0 (kSeq (zdhZ [true,true,true,true] 13) (kRet Tryz.prog Tryz.f30.results.toList K)))
def zfdZ (R7 : List AV→AH→Prop) (x0 x1 x5 x14 x15 x16 : AV) (H : AH) (K : AV→AH→Prop) : Prop :=
 bO (abI .add x16 (.lit (.int .i64 1))) fun v0 =>
 R7 [x0,x1,x5,x14,x15,v0] H
theorem zinZ (R7 : List AV→AH→Prop) (x0 x1 x5 x14 x15 x16 : AV) (H : AH) (K : AV→AH→Prop) : zgnZ R7 x0 x1 x5 x14 x15 x16 H K=zfdZ R7 x0 x1 x5 x14 x15 x16 H K:=(jn_eq _ _ _ _ _).trans (by kernel_rfl)
def zftZ (R7 : List AV→AH→Prop) (x0 x1 x5 x14 x15 x16 : AV) (H : AH) (K : AV→AH→Prop) : Prop :=
 bO (abI .lss x16 x15) fun v0 =>
 bB v0 fun t1 => bI t1 (
 bO (aixS 8 x14 x16) fun v2 =>
 bO (ald true 8 H v2) fun v3 =>
 bH (anew H (.agg [(.lit (.int .i64 0)),(.lit (.int .i64 0)),(.lit (.int .i64 0)),(.lit (.int .i64 0)),(.lit (.bool false)),(.lit (.string ⟨#[]⟩)),(.lit (.string ⟨#[]⟩)),(.lit (.slice none 0 0))])) fun v4 H5 =>
 bS (ast 8 H5 v4 v3) fun H6 =>
 bO (ald true 8 H6 v4) fun v7 =>
 bP (PCall Tryz.prog 50 [v7,x1] H6) fun v8 =>
 bB v8 fun t9 => bI t9 (
 bO (zdZ x0) fun v10 =>
 bO (ashift 3 v10) fun v11 =>
 bO (ald true 2 H6 v11) fun v12 =>
 bO (ald true 8 H6 v4) fun v13 =>
 bP (BPure Tryz.prog 35 [v12,v13]) fun v14 =>
 bO (zdZ x0) fun v15 =>
 bO (ashift 3 v15) fun v16 =>
 bS (ast 2 H6 v16 v14) fun H17 =>
 zgnZ R7 x0 x1 x5 x14 x15 x16 H17 K)
 (bO (ald true 8 H6 v4) fun v18 =>
 bH (absl H6 8 1 (zrow [(.lit (.int .i64 0)),(.lit (.int .i64 0)),(.lit (.int .i64 0)),(.lit (.int .i64 0)),(.lit (.bool false)),(.lit (.string ⟨#[]⟩)),(.lit (.string ⟨#[]⟩)),(.lit (.slice none 0 0))] 1) [(0,8,v18)]) fun v19 H20 =>
 bH (aap 8 96 H20 x5 v19) fun v21 H22 =>
 zgnZ R7 x0 x1 v21 x14 x15 x16 H22 K))
 (bO (zdZ x0) fun v23 =>
 bO (ashift 5 v23) fun v24 =>
 bS (ast 1 H v24 x5) fun H25 =>
 K (.lit (.int .i64 0)) H25)
theorem zpoZ (R7 : List AV→AH→Prop) (x0 x1 x5 x14 x15 x16 : AV) (H : AH) (K : AV→AH→Prop) : zdhZ [true,true,true,false,true,false,false] 8 (expand (mk 41 0 [0,1,5,14,15,16]) [x0,x1,x5,x14,x15,x16]) H (kLp (mk 41 0 [0,1,5,14,15,16]) R7 (kBlk 0 (kSeq (zdhZ [true,true,true,true] 13) (kRet Tryz.prog Tryz.f30.results.toList K))))=zftZ R7 x0 x1 x5 x14 x15 x16 H K:=by kernel_rfl
theorem znoZ {K : AV→AH→Prop} (I : Nat→AV→AV→AV→AV→AV→AV→AH→Prop) (round : ∀ (n : Nat) (x0 x1 x5 x14 x15 x16 : AV) (H : AH) (R : List AV→AH→Prop),(∀ (m : Nat) (y0 y1 y5 y14 y15 y16 : AV) (H' : AH),m < n→I m y0 y1 y5 y14 y15 y16 H'→R [y0,y1,y5,y14,y15,y16] H')→I n x0 x1 x5 x14 x15 x16 H→zftZ R x0 x1 x5 x14 x15 x16 H K) (n : Nat) {x0 x1 x5 x14 x15 x16 : AV} {H : AH} (h : I n x0 x1 x5 x14 x15 x16 H) : zmaZ x0 x1 x5 x14 x15 x16 H K:=by
 refine lp_upto (zvZ _ _) (LI6 I) ?_ n h
 intro n X H h
 obtain ⟨x0,x1,x5,x14,x15,x16,rfl,h⟩:=h.elim
 exact Eq.mpr (zpoZ _ x0 x1 x5 x14 x15 x16 H K) (round n x0 x1 x5 x14 x15 x16 H (fun X H' => ∃ m,m < n∧LI6 I m X H') (fun m y0 y1 y5 y14 y15 y16 H' hm hi => ⟨m,hm,hi⟩) h)
def zlaZ (a0 a1 : AV) (H : AH) (K : AV→AH→Prop) : Prop :=
 bC (BCall Tryz.prog 49 [a0] H) fun v0 H1 =>
 bO (aun .not v0) fun v2 =>
 bB v2 fun t3 => bI t3 (
 K (.lit (.int .i64 8)) H1)
 (bO (zdZ a0) fun v4 =>
 bO (ashift 5 v4) fun v5 =>
 bO (ald false 1 H1 v5) fun v6 =>
 bO (alnS v6) fun v7 =>
 zmaZ a0 a1 (.lit (.slice none 0 0)) v6 v7 (.lit (.int .i64 0)) H1 K)
theorem store_Store_Sync_eq (a0 a1 : AV) (H : AH) (K : AV→AH→Prop) : sFun Tryz.prog zlwZ pqe none0 none0 zlyZ Tryz.f30 [a0,a1] H K=zlaZ a0 a1 H K:=by kernel_rfl
theorem store_Store_Sync_ok {a0 a1 : AV} {H : AH} {K : AV→AH→Prop} (h : zlaZ a0 a1 H K) : ∃ r H',K r H'∧BCall Tryz.prog 30 [a0,a1] H r H' :=
 sFun_ok mixP Tryz.func30 (by kernel_rfl) (Eq.mpr (store_Store_Sync_eq a0 a1 H K) h)
def store_has_fl : Floats:=flOf []
def store_has_kp : Nat→Option (List Bool):=kpOf []
def store_has (a0 a1 : AV) (H : AH) (K : AV→AH→Prop) : Prop :=
 bH (anew H a0) fun v0 H1 =>
 bH (anew H1 a1) fun v2 H3 =>
 bO (ashift 1 v0) fun v4 =>
 bO (ald false 1 H3 v4) fun v5 =>
 bP (PCall Tryz.prog 95 [v5,(.fn (.func 96) [] [v2])] H3) fun v6 =>
 K v6 H3
theorem store_has_eq (a0 a1 : AV) (H : AH) (K : AV→AH→Prop) : sFun Tryz.prog store_has_fl pqe none0 none0 store_has_kp Tryz.f75 [a0,a1] H K=store_has a0 a1 H K:=by kernel_rfl
theorem store_has_ok {a0 a1 : AV} {H : AH} {K : AV→AH→Prop} (h : store_has a0 a1 H K) : ∃ r H',K r H'∧BCall Tryz.prog 75 [a0,a1] H r H' :=
 sFun_ok mixP Tryz.func75 (by kernel_rfl) (Eq.mpr (store_has_eq a0 a1 H K) h)
def store_has_1_fl : Floats:=flOf []
def store_has_1_kp : Nat→Option (List Bool):=kpOf []
def store_has_1 (a0 a1 : AV) (H : AH) (K : AV→AH→Prop) : Prop :=
 bH (anew H a0) fun v0 H1 =>
 bO (ashift 0 v0) fun v2 =>
 bO (ald false 1 H1 v2) fun v3 =>
 bO (ald false 1 H1 a1) fun v4 =>
 bO (abI .eql v3 v4) fun v5 =>
 K v5 H1
theorem store_has_1_eq (a0 a1 : AV) (H : AH) (K : AV→AH→Prop) : sFun Tryz.prog store_has_1_fl pqe none0 none0 store_has_1_kp Tryz.f96 [a0,a1] H K=store_has_1 a0 a1 H K:=by kernel_rfl
theorem store_has_1_ok {a0 a1 : AV} {H : AH} {K : AV→AH→Prop} (h : store_has_1 a0 a1 H K) : ∃ r H',K r H'∧BCall Tryz.prog 96 [a0,a1] H r H' :=
 sFun_ok mixP Tryz.func96 (by kernel_rfl) (Eq.mpr (store_has_1_eq a0 a1 H K) h)
def store_stays_fl : Floats:=flOf []
def store_stays_kp : Nat→Option (List Bool):=kpOf [(1,mk 15 0 [1,2]),(3,mk 15 0 [1,2,7])]
def store_stays_c (p : List Bool) (n : Nat) : List AV→AH→Kf→Prop:=sCode Tryz.prog store_stays_fl pqe none0 none0 store_stays_kp (sub p (bodyOf Tryz.f50)) n
def zpdZ (x1 x2 : AV) (H : AH) (K : AV→AH→Prop) : Prop:=jn (mk 15 0 [1,2]) (store_stays_c [true,true] 7) [x1,x2] H (kRet Tryz.prog Tryz.f50.results.toList K)
def zklZ (x1 x2 x7 : AV) (H : AH) (K : AV→AH→Prop) : Prop:=jn (mk 15 0 [1,2,7]) (store_stays_c [true,false,true,false,true] 6) [x1,x2,x7] H (kBlk 0 (kSeq (cutC (mk 15 0 [1,2]) (store_stays_c [true,true] 7)) (kRet Tryz.prog Tryz.f50.results.toList K)))
def zpuZ (x1 x2 : AV) (H : AH) (K : AV→AH→Prop) : Prop :=
 bO (ashift 1 x2) fun v0 =>
 bO (ald false 1 H v0) fun v1 =>
 bP (PCall Tryz.prog 77 [x1,v1] H) fun v2 =>
 K v2 H
theorem store_stays_J1_eq (x1 x2 : AV) (H : AH) (K : AV→AH→Prop) : zpdZ x1 x2 H K=zpuZ x1 x2 H K:=(jn_eq _ _ _ _ _).trans (by kernel_rfl)
def zijZ (x1 x2 x7 : AV) (H : AH) (K : AV→AH→Prop) : Prop :=
 bB x7 fun t0 => bI t0 (
 K (.lit (.bool true)) H)
 (zpdZ x1 x2 H K)
theorem zjpZ (x1 x2 x7 : AV) (H : AH) (K : AV→AH→Prop) : zklZ x1 x2 x7 H K=zijZ x1 x2 x7 H K:=(jn_eq _ _ _ _ _).trans (by kernel_rfl)
def store_stays (a0 a1 : AV) (H : AH) (K : AV→AH→Prop) : Prop :=
 bH (anew H a0) fun v0 H1 =>
 bO (ashift 0 v0) fun v2 =>
 bO (ald false 1 H1 v2) fun v3 =>
 bO (abI .eql v3 (.lit (.int .i64 1))) fun v4 =>
 bB v4 fun t5 => bI t5 (
 zklZ a1 v0 v4 H1 K)
 (bO (abI .eql v3 (.lit (.int .i64 6))) fun v6 =>
 bB v6 fun t7 => bI t7 (
 zklZ a1 v0 v6 H1 K)
 (bO (abI .eql v3 (.lit (.int .i64 7))) fun v8 =>
 zklZ a1 v0 v8 H1 K))
theorem store_stays_eq (a0 a1 : AV) (H : AH) (K : AV→AH→Prop) : sFun Tryz.prog store_stays_fl pqe none0 none0 store_stays_kp Tryz.f50 [a0,a1] H K=store_stays a0 a1 H K:=by kernel_rfl
theorem store_stays_ok {a0 a1 : AV} {H : AH} {K : AV→AH→Prop} (h : store_stays a0 a1 H K) : ∃ r H',K r H'∧BCall Tryz.prog 50 [a0,a1] H r H' :=
 sFun_ok mixP Tryz.func50 (by kernel_rfl) (Eq.mpr (store_stays_eq a0 a1 H K) h)
def zfgZ : Floats:=flOf []
def zfaZ : Nat→Option (List Bool):=kpOf []
def zbtZ (a0 a1 : AV) (H : AH) (K : AV→AH→Prop) : Prop :=
 bP (PCall Tryz.prog 93 [a0,a1] H) fun v0 =>
 bO (abI .geq v0 (.lit (.int .i64 0))) fun v1 =>
 K v1 H
theorem zfbZ (a0 a1 : AV) (H : AH) (K : AV→AH→Prop) : sFun Tryz.prog zfgZ pqe none0 none0 zfaZ Tryz.f95 [a0,a1] H K=zbtZ a0 a1 H K:=by kernel_rfl
theorem zfcZ {a0 a1 : AV} {H : AH} {K : AV→AH→Prop} (h : zbtZ a0 a1 H K) : ∃ r H',K r H'∧BCall Tryz.prog 95 [a0,a1] H r H' :=
 sFun_ok mixP Tryz.func95 (by kernel_rfl) (Eq.mpr (zfbZ a0 a1 H K) h)
def zlnZ : Floats:=flOf []
def zloZ : Nat→Option (List Bool):=kpOf []
def zegZ (a0 a1 : AV) (H : AH) (K : AV→AH→Prop) : Prop :=
 bP (PCall Tryz.prog 98 [a0,a1] H) fun v0 =>
 bO (abI .geq v0 (.lit (.int .i64 0))) fun v1 =>
 K v1 H
theorem zlfZ (a0 a1 : AV) (H : AH) (K : AV→AH→Prop) : sFun Tryz.prog zlnZ pqe none0 none0 zloZ Tryz.f77 [a0,a1] H K=zegZ a0 a1 H K:=by kernel_rfl
theorem zkzZ {a0 a1 : AV} {H : AH} {K : AV→AH→Prop} (h : zegZ a0 a1 H K) : ∃ r H',K r H'∧BCall Tryz.prog 77 [a0,a1] H r H' :=
 sFun_ok mixP Tryz.func77 (by kernel_rfl) (Eq.mpr (zlfZ a0 a1 H K) h)
def zhpZ : Floats:=flOf []
def zhsZ : Nat→Option (List Bool):=kpOf [(3,mk 19 0 [0,1,7,8])]
def zdnZ (p : List Bool) (n : Nat) : List AV→AH→Kf→Prop:=sCode Tryz.prog zhpZ pqe none0 none0 zhsZ (sub p (bodyOf Tryz.f98)) n
def zhwZ (x0 x1 x7 x8 : AV) (H : AH) (K : AV→AH→Prop) : Prop:=lp (mk 19 0 [0,1,7,8]) (zdnZ [true,false,true,false,false] 4) [x0,x1,x7,x8] H (kBlk 0 (kSeq (zdnZ [true,true] 10) (kRet Tryz.prog Tryz.f98.results.toList K)))
def zdxZ (R3 : List AV→AH→Prop) (x0 x1 x7 x8 : AV) (H : AH) (K : AV→AH→Prop) : Prop :=
 bO (abI .lss x8 x7) fun v0 =>
 bB v0 fun t1 => bI t1 (
 bO (aixS 1 x0 x8) fun v2 =>
 bO (ald false 1 H v2) fun v3 =>
 bO (abI .eql x1 v3) fun v4 =>
 bB v4 fun t5 => bI t5 (
 K x8 H)
 (bO (abI .add x8 (.lit (.int .i64 1))) fun v6 =>
 R3 [x0,x1,x7,v6] H))
 (K (.lit (.int .i64 (-1))) H)
theorem zlkZ (R3 : List AV→AH→Prop) (x0 x1 x7 x8 : AV) (H : AH) (K : AV→AH→Prop) : zdnZ [true,false,true,false,false] 4 (expand (mk 19 0 [0,1,7,8]) [x0,x1,x7,x8]) H (kLp (mk 19 0 [0,1,7,8]) R3 (kBlk 0 (kSeq (zdnZ [true,true] 10) (kRet Tryz.prog Tryz.f98.results.toList K))))=zdxZ R3 x0 x1 x7 x8 H K:=by kernel_rfl
theorem zkaZ {K : AV→AH→Prop} (I : Nat→AV→AV→AV→AV→AH→Prop) (round : ∀ (n : Nat) (x0 x1 x7 x8 : AV) (H : AH) (R : List AV→AH→Prop),(∀ (m : Nat) (y0 y1 y7 y8 : AV) (H' : AH),m < n→I m y0 y1 y7 y8 H'→R [y0,y1,y7,y8] H')→I n x0 x1 x7 x8 H→zdxZ R x0 x1 x7 x8 H K) (n : Nat) {x0 x1 x7 x8 : AV} {H : AH} (h : I n x0 x1 x7 x8 H) : zhwZ x0 x1 x7 x8 H K:=by
 refine lp_upto (zvZ _ _) (LI4 I) ?_ n h
 intro n X H h
 obtain ⟨x0,x1,x7,x8,rfl,h⟩:=h.elim
 exact Eq.mpr (zlkZ _ x0 x1 x7 x8 H K) (round n x0 x1 x7 x8 H (fun X H' => ∃ m,m < n∧LI4 I m X H') (fun m y0 y1 y7 y8 H' hm hi => ⟨m,hm,hi⟩) h)
def zfrZ (a0 a1 : AV) (H : AH) (K : AV→AH→Prop) : Prop :=
 bO (alnS a0) fun v0 =>
 zhwZ a0 a1 v0 (.lit (.int .i64 0)) H K
theorem znpZ (a0 a1 : AV) (H : AH) (K : AV→AH→Prop) : sFun Tryz.prog zhpZ pqe none0 none0 zhsZ Tryz.f98 [a0,a1] H K=zfrZ a0 a1 H K:=by kernel_rfl
theorem znwZ {a0 a1 : AV} {H : AH} {K : AV→AH→Prop} (h : zfrZ a0 a1 H K) : ∃ r H',K r H'∧BCall Tryz.prog 98 [a0,a1] H r H' :=
 sFun_ok mixP Tryz.func98 (by kernel_rfl) (Eq.mpr (znpZ a0 a1 H K) h)
def zlqZ : Floats:=flOf []
def zlvZ : Nat→Option (List Bool):=kpOf []
def zdjZ (a0 : AV) (H : AH) (K : AV→AH→Prop) : Prop :=
 bO (abN .eql nilS a0 (.lit (.slice none 0 0))) fun v0 =>
 bB v0 fun t1 => bI t1 (
 K (.lit (.slice none 0 0)) H)
 (bH (absl H 1 0 (zrow [(.lit (.int .u8 0))] 0) []) fun v2 H3 =>
 bH (aap 1 1 H3 v2 a0) fun v4 H5 =>
 K v4 H5)
theorem zmhZ (a0 : AV) (H : AH) (K : AV→AH→Prop) : sFun Tryz.prog zlqZ pqe none0 none0 zlvZ Tryz.f25 [a0] H K=zdjZ a0 H K:=by kernel_rfl
theorem zgbZ {a0 : AV} {H : AH} {K : AV→AH→Prop} (h : zdjZ a0 H K) : ∃ r H',K r H'∧BCall Tryz.prog 25 [a0] H r H' :=
 sFun_ok mixP Tryz.func25 (by kernel_rfl) (Eq.mpr (zmhZ a0 H K) h)
def zltZ : Floats:=flOf []
def zmcZ : Nat→Option (List Bool):=kpOf []
def zenZ (a0 a1 : AV) (H : AH) (K : AV→AH→Prop) : Prop :=
 bH (anew H a0) fun v0 H1 =>
 bH (anew H1 a1) fun v2 H3 =>
 bO (ald false 1 H3 v2) fun v4 =>
 bO (abI .lss v4 (.lit (.int .i64 1))) fun v5 =>
 bB v5 fun t6 => bI t6 (
 False)
 (K (.fn (.func 72) [] [v0,v2]) H3)
theorem zlpZ (a0 a1 : AV) (H : AH) (K : AV→AH→Prop) : sFun Tryz.prog zltZ pqe none0 none0 zmcZ Tryz.f47 [a0,a1] H K=zenZ a0 a1 H K:=by kernel_rfl
theorem zlxZ {a0 a1 : AV} {H : AH} {K : AV→AH→Prop} (h : zenZ a0 a1 H K) : ∃ r H',K r H'∧BCall Tryz.prog 47 [a0,a1] H r H' :=
 sFun_ok mixP Tryz.func47 (by kernel_rfl) (Eq.mpr (zlpZ a0 a1 H K) h)
def zmiZ : Floats:=flOf []
def zmeZ : Nat→Option (List Bool):=kpOf [(7,mk 42 0 [0,1,5,6]),(4,mk 42 0 [0,1,5,6])]
def zdgZ (p : List Bool) (n : Nat) : List AV→AH→Kf→Prop:=sCode Tryz.prog zmiZ pqe none0 none0 zmeZ (sub p (bodyOf Tryz.f16)) n
def ziiZ (R4 : List AV→AH→Prop) (x0 x1 x5 x6 : AV) (H : AH) (K : AV→AH→Prop) : Prop:=jn (mk 42 0 [0,1,5,6]) (zdgZ [true,true,false,true,false,false,true,true] 10) [x0,x1,x5,x6] H (kLp (mk 42 0 [0,1,5,6]) R4 (kBlk 0 (kSeq (zdgZ [true,true,true] 10) (kRet Tryz.prog Tryz.f16.results.toList K))))
def zmfZ (x0 x1 x5 x6 : AV) (H : AH) (K : AV→AH→Prop) : Prop:=lp (mk 42 0 [0,1,5,6]) (zdgZ [true,true,false,true,false,false] 5) [x0,x1,x5,x6] H (kBlk 0 (kSeq (zdgZ [true,true,true] 10) (kRet Tryz.prog Tryz.f16.results.toList K)))
def zfxZ (R4 : List AV→AH→Prop) (x0 x1 x5 x6 : AV) (H : AH) (K : AV→AH→Prop) : Prop :=
 bO (abI .add x6 (.lit (.int .i64 1))) fun v0 =>
 R4 [x0,x1,x5,v0] H
theorem zjbZ (R4 : List AV→AH→Prop) (x0 x1 x5 x6 : AV) (H : AH) (K : AV→AH→Prop) : ziiZ R4 x0 x1 x5 x6 H K=zfxZ R4 x0 x1 x5 x6 H K:=(jn_eq _ _ _ _ _).trans (by kernel_rfl)
def zfoZ (R4 : List AV→AH→Prop) (x0 x1 x5 x6 : AV) (H : AH) (K : AV→AH→Prop) : Prop :=
 bO (abI .lss x6 x1) fun v0 =>
 bB v0 fun t1 => bI t1 (
 bO (acI .i64 x0) fun v2 =>
 bO (abI .mul v2 (.lit (.int .i64 31))) fun v3 =>
 bO (abI .mul x6 (.lit (.int .i64 7))) fun v4 =>
 bO (abI .add v3 v4) fun v5 =>
 bO (abI .quo x6 (.lit (.int .i64 8))) fun v6 =>
 bO (acI .i64 x0) fun v7 =>
 bO (abI .mul v6 v7) fun v8 =>
 bO (abI .add v5 v8) fun v9 =>
 bO (abI .rem v9 (.lit (.int .i64 251))) fun v10 =>
 bO (acI .u8 v10) fun v11 =>
 bO (aixS 1 x5 x6) fun v12 =>
 bS (ast 1 H v12 v11) fun H13 =>
 bO (abI .quo x6 (.lit (.int .i64 8))) fun v14 =>
 bO (acI .i64 x0) fun v15 =>
 bO (abI .add v14 v15) fun v16 =>
 bO (abI .rem v16 (.lit (.int .i64 3))) fun v17 =>
 bO (abI .eql v17 (.lit (.int .i64 0))) fun v18 =>
 bB v18 fun t19 => bI t19 (
 bO (aixS 1 x5 x6) fun v20 =>
 bS (ast 1 H13 v20 (.lit (.int .u8 0))) fun H21 =>
 ziiZ R4 x0 x1 x5 x6 H21 K)
 (ziiZ R4 x0 x1 x5 x6 H13 K))
 (K x5 H)
theorem zprZ (R4 : List AV→AH→Prop) (x0 x1 x5 x6 : AV) (H : AH) (K : AV→AH→Prop) : zdgZ [true,true,false,true,false,false] 5 (expand (mk 42 0 [0,1,5,6]) [x0,x1,x5,x6]) H (kLp (mk 42 0 [0,1,5,6]) R4 (kBlk 0 (kSeq (zdgZ [true,true,true] 10) (kRet Tryz.prog Tryz.f16.results.toList K))))=zfoZ R4 x0 x1 x5 x6 H K:=by kernel_rfl
theorem znmZ {K : AV→AH→Prop} (I : Nat→AV→AV→AV→AV→AH→Prop) (round : ∀ (n : Nat) (x0 x1 x5 x6 : AV) (H : AH) (R : List AV→AH→Prop),(∀ (m : Nat) (y0 y1 y5 y6 : AV) (H' : AH),m < n→I m y0 y1 y5 y6 H'→R [y0,y1,y5,y6] H')→I n x0 x1 x5 x6 H→zfoZ R x0 x1 x5 x6 H K) (n : Nat) {x0 x1 x5 x6 : AV} {H : AH} (h : I n x0 x1 x5 x6 H) : zmfZ x0 x1 x5 x6 H K:=by
 refine lp_upto (zvZ _ _) (LI4 I) ?_ n h
 intro n X H h
 obtain ⟨x0,x1,x5,x6,rfl,h⟩:=h.elim
 exact Eq.mpr (zprZ _ x0 x1 x5 x6 H K) (round n x0 x1 x5 x6 H (fun X H' => ∃ m,m < n∧LI4 I m X H') (fun m y0 y1 y5 y6 H' hm hi => ⟨m,hm,hi⟩) h)
def zllZ (a0 a1 : AV) (H : AH) (K : AV→AH→Prop) : Prop :=
 bH (amk 1 1 [(.lit (.int .u8 0))] H a1 a1) fun v0 H1 =>
 zmfZ a0 a1 v0 (.lit (.int .i64 0)) H1 K
theorem salvorkeep_Bytes_eq (a0 a1 : AV) (H : AH) (K : AV→AH→Prop) : sFun Tryz.prog zmiZ pqe none0 none0 zmeZ Tryz.f16 [a0,a1] H K=zllZ a0 a1 H K:=by kernel_rfl
theorem salvorkeep_Bytes_ok {a0 a1 : AV} {H : AH} {K : AV→AH→Prop} (h : zllZ a0 a1 H K) : ∃ r H',K r H'∧BCall Tryz.prog 16 [a0,a1] H r H' :=
 sFun_ok mixP Tryz.func16 (by kernel_rfl) (Eq.mpr (salvorkeep_Bytes_eq a0 a1 H K) h)
end Go.Proofs.YtlbilcpnjgkpjaaGreat.Av
end
section
namespace Go.Proofs.YtlbilcpnjgkpjaaGreat.Av
open Go Go.RowKit
def May (n : Int) : Prop:=0≤n∧n≤4611686018427387904
instance (n : Int) : Decidable (May n):=by unfold May; infer_instance
def encI (n : Int) : List AV:=[I n]
theorem encI_len (n : Int) : (encI n).length=1:=rfl
theorem off_May_p (n : Int) : BPure Tryz.prog 113 [I n] (B (decide (May n))):=BPure.flat fun H => off_May_ok (by
 unfold off_May
 by_cases h1 : 0≤n <;> by_cases h2 : n≤4611686018427387904 <;> simp [May,h1,h2])
structure Sp where
 pos : Int
 len : Int
 deriving DecidableEq,Inhabited
def encSp (s : Sp) : List AV:=[I s.pos,I s.len]
theorem encSp_len (s : Sp) : (encSp s).length=2:=rfl
def MaySpan (s : Sp) : Prop:=May s.pos∧May s.len∧s.len≤4611686018427387904 - s.pos
instance (s : Sp) : Decidable (MaySpan s):=by unfold MaySpan; infer_instance
theorem zjtZ (s : Sp) : BPure Tryz.prog 94 [.agg (encSp s)] (B (decide (MaySpan s))):=BPure.val rfl rfl (off_MaySpan_ok (by
 unfold off_MaySpan
 obtain ⟨p,n⟩:=s
 simp [encSp,ald_ptr']
 refine bP_pure (off_May_p _) ?_
 by_cases h1 : May p
 ·have h1':=h1
  unfold May at h1'
  simp [h1]
  refine bP_pure (off_May_p _) ?_
  by_cases h2 : May n
  ·simp [h2,abI_sub (a:=4611686018427387904) (b:=p) (by omega) (by omega),MaySpan,h1]
  ·simp [h2,MaySpan]
 ·simp [h1,MaySpan]))
def meet (a b : Sp) : Sp :=
 if MaySpan a∧MaySpan b∧max a.pos b.pos < min (a.pos + a.len) (b.pos + b.len) then ⟨max a.pos b.pos,min (a.pos + a.len) (b.pos + b.len) - max a.pos b.pos⟩ else ⟨0,0⟩
theorem off_Meet_p (a b : Sp) : BPure Tryz.prog 78 [.agg (encSp a),.agg (encSp b)] (.agg (encSp (meet a b))):=BPure.val rfl rfl (off_Meet_ok (by
 unfold off_Meet
 simp [encSp,ald_ptr',rdCells]
 refine bP_pure (zjtZ a) ?_
 by_cases h1 : MaySpan a
 ·simp [h1]
  refine bP_pure (zjtZ b) ?_
  by_cases h2 : MaySpan b
  ·have h1':=h1
   have h2':=h2
   simp only [MaySpan,May] at h1' h2'
   obtain ⟨p,n⟩:=a
   obtain ⟨q,m⟩:=b
   simp only at h1' h2'
   simp [h2,abI_add (a:=p) (b:=n) (by omega) (by omega),abI_add (a:=q) (b:=m) (by omega) (by omega)]
   by_cases h3 : max p q < min (p + n) (q + m)
   ·have h3' : ¬ min (q + m) (p + n)≤max q p:=by omega
    simp [h3',abI_sub (a:=min (q + m) (p + n)) (b:=max q p) (by omega) (by omega),ast,meet,h1,h2,h3]
    omega
   ·have h3' : min (q + m) (p + n)≤max q p:=by omega
    simp [h3',ast,meet,h3]
  ·simp [h2,ast,meet]
 ·simp [h1,ast,meet]))
theorem eqSp_a (a b c d : Int) : abin Tryz.prog .eql 136 (.agg [I a,I b]) (.agg [I c,I d])=some (B (a == c && (b == d && true))):=by kernel_rfl
theorem sp_beq (x y : Sp) : (x.pos == y.pos && (x.len == y.len && true))=decide (x=y):=by
 obtain ⟨a,b⟩:=x
 obtain ⟨c,d⟩:=y
 by_cases h1 : a=c <;> by_cases h2 : b=d <;> simp [h1,h2]
theorem eqSp (x y : Sp) : abin Tryz.prog .eql 136 (.agg (encSp x)) (.agg (encSp y))=some (B (decide (x=y))):=by rw [← sp_beq]; exact eqSp_a _ _ _ _
def Within (a b : Sp) : Prop:=MaySpan a∧MaySpan b∧(a.len=0∨meet a b=a)
instance (a b : Sp) : Decidable (Within a b):=by unfold Within; infer_instance
theorem off_Within_p (a b : Sp) : BPure Tryz.prog 112 [.agg (encSp a),.agg (encSp b)] (B (decide (Within a b))):=BPure.val rfl rfl (off_Within_ok (by
 unfold off_Within
 simp [encSp,ald_ptr',rdCells]
 refine bP_pure (zjtZ a) ?_
 by_cases h1 : MaySpan a
 ·simp [h1]
  refine bP_pure (zjtZ b) ?_
  by_cases h2 : MaySpan b
  ·by_cases h3 : a.len=0
   ·simp [h2,h3,Within,h1]
   ·simp [h2,h3,Within,h1]
    refine bP_of (off_Meet_p a b) ?_
    have:=eqSp (meet a b) a
    simp only [encSp] at this ⊢
    simp [this]
  ·simp [h2,Within]
 ·simp [h1,Within]))
def cutsS : Nat→Int→Int→Int→List Sp
 | 0,_,_,_ => []
 | f + 1,pos,len,unit => if 0 < len then ⟨pos,min len (unit - pos % unit)⟩ :: cutsS f (pos + min len (unit - pos % unit)) (len - min len (unit - pos % unit)) unit else []
def partsS (s : Sp) (unit : Int) : List Sp:=if MaySpan s∧s.len≤4096∧1≤unit then cutsS s.len.toNat s.pos s.len unit else []
theorem cutsS_step {f : Nat} {pos len unit : Int} (hf : len.toNat≤f) (hl : 0 < len) (hp : 0≤pos) (hu : 1≤unit) : cutsS f pos len unit=⟨pos,min len (unit - pos % unit)⟩ :: cutsS (len - min len (unit - pos % unit)).toNat (pos + min len (unit - pos % unit)) (len - min len (unit - pos % unit)) unit:=by
 induction f using Nat.strongRecOn generalizing pos len with
 | _ f ih =>
  have h1:=Int.emod_lt_of_pos pos (show 0 < unit by omega)
  have h2:=Int.emod_nonneg pos (show unit ≠ 0 by omega)
  cases f with
  | zero => omega
  | succ f =>
   simp only [cutsS,hl,if_true]
   congr 1
   have hm : 1≤min len (unit - pos % unit):=by omega
   generalize min len (unit - pos % unit)=m at *
   have more : ∀ (a b : Nat) (p n : Int),n.toNat≤a→n.toNat≤b→0≤p→cutsS a p n unit=cutsS b p n unit:=by
    intro a
    induction a with
    | zero =>
     intro b p n ha hb hp
     cases b with
     | zero => rfl
     | succ b => simp only [cutsS]; rw [if_neg (by omega)]
    | succ a iha =>
     intro b p n ha hb hp
     have h1:=Int.emod_lt_of_pos p (show 0 < unit by omega)
     have h2:=Int.emod_nonneg p (show unit ≠ 0 by omega)
     cases b with
     | zero => simp only [cutsS]; rw [if_neg (by omega)]
     | succ b =>
      simp only [cutsS]
      split
      ·rw [iha b _ _ (by omega) (by omega) (by omega)]
      ·rfl
   exact more _ _ _ _ (by omega) (by omega) (by omega)
theorem cutsS_stop {f : Nat} {pos len unit : Int} (hl : ¬ 0 < len) : cutsS f pos len unit=[]:=by
 cases f with
 | zero => rfl
 | succ f => simp only [cutsS,if_neg hl]
theorem noIdss_sp (l : List Sp) : noIdss (l.flatMap encSp)=true:=by
 induction l with
 | nil => rfl
 | cons a l ih => rw [List.flatMap_cons]; simp [encSp,noIdss,noIds]; simpa [encSp] using ih
theorem off_Parts_p (s : Sp) {unit : Int} (hu : unit≤9223372036854775807) : ∃ v,SV encSp 2 (partsS s unit) v∧BPure Tryz.prog 74 [.agg (encSp s),I unit] v:=by
 refine BPure.sl (sz:=2) rfl (noIdss_sp _) (off_Parts_ok ?_)
 unfold off_Parts
 obtain ⟨p,n⟩:=s
 simp [encSp,rdCells]
 refine bP_pure (zjtZ ⟨p,n⟩) ?_
 by_cases h1 : MaySpan ⟨p,n⟩
 ·simp [h1]
  by_cases h2 : 4096 < n
  ·have : partsS ⟨p,n⟩ unit=[]:=if_neg (by simp only; omega)
   simp [h2,this,zaZ]
  ·simp [h2]
   by_cases h3 : unit < 1
   ·have : partsS ⟨p,n⟩ unit=[]:=if_neg (by omega)
    simp [h3,this,zaZ]
   ·simp [h3]
    have hP : partsS ⟨p,n⟩ unit=cutsS n.toNat p n unit:=if_pos ⟨h1,by simp only; omega,by omega⟩
    simp only [MaySpan,May] at h1
    refine off_Parts_L6_rule (fun k x1 x2 x5 H => ∃ (pos len : Int) (l : List Sp),k=len.toNat∧x1=I unit∧x2 = .ptr 0 0∧H[0]? = some (some (.cells [I pos,I len]))∧ownedS x5=true∧zaZ H 2 x5=some (l.flatMap encSp,l.length)∧0 ∉ idS x5 ∧
     0≤pos∧0≤len∧pos + len≤4611686018427387904∧(l.length : Int) + len≤4096∧l ++ cutsS len.toNat pos len unit=cutsS n.toNat p n unit) ?_ n.toNat
     ⟨p,n,[],rfl,rfl,rfl,rfl,rfl,rfl,by simp [idS],by omega,by omega,by omega,by simp; omega,rfl⟩
    rintro k x1 x2 x5 H R hR ⟨pos,len,l,rfl,rfl,rfl,hH,ho,hs,hid,hp,hl,hpl,hll,hc⟩
    unfold zopZ
    have e1:=Int.emod_lt_of_pos pos (show 0 < unit by omega)
    have e2:=Int.emod_nonneg pos (show unit ≠ 0 by omega)
    by_cases hlen : 0 < len
    ·rw [cutsS_step (Nat.le_refl _) hlen hp (by omega)] at hc
     have hcomm : min (unit - pos % unit) len=min len (unit - pos % unit):=by omega
     have hm1 : 1≤min len (unit - pos % unit):=by omega
     have hm2 : min len (unit - pos % unit)≤len:=by omega
     generalize min len (unit - pos % unit)=m at hcomm hm1 hm2 hc
     have hH0:=(List.getElem?_eq_some_iff.1 hH).1
     have hs1 : zaZ (H ++ [some (.cells [I pos,I m])]) 2 x5=some (l.flatMap encSp,l.length):=zbZ hs fun i hi => List.getElem?_append_left (zcZ hs i hi)
     obtain ⟨r,H2,a1,a2,a3,a4,a5,a6⟩:=zjcZ (bytes:=16) hs1 ho (zjZ (v:=.sl H.length 0 1 2 (.ex 1)) (q:=([I pos,I m],1)) (by simp [zaZ])) (by omega)
     have hH2 : H2[0]? = some (some (.cells [I pos,I len])):=by
      rw [a5 0 (by simp) hid,List.getElem?_append_left hH0]; exact hH
     have hid2 : 0 ∉ idS r:=fun hi => (a6 0 hi).elim hid (by simp)
     have hH20:=(List.getElem?_eq_some_iff.1 hH2).1
     have keep : ∀ c,zaZ (H2.set 0 c) 2 r=some ((l ++ [(⟨pos,m⟩ : Sp)]).flatMap encSp,(l ++ [(⟨pos,m⟩ : Sp)]).length):=fun c => by
      rw [zbZ a3 (fun i hi => List.getElem?_set_ne (by rintro rfl; exact hid2 hi))]
      simp [encSp]
     simp [hH,hlen,abI_rem (a:=pos) (b:=unit) (by omega) (by omega),abI_sub (a:=unit) (b:=pos % unit) (by omega) (by omega),hcomm,a1,hH2,abI_add (a:=pos) (b:=m) (by omega) (by omega),abI_sub (a:=len) (b:=m) (by omega) (by omega),ast]
     refine hR (len - m).toNat _ _ _ _ (by omega) ?_
     exact ⟨pos + m,len - m,l ++ [(⟨pos,m⟩ : Sp)],rfl,rfl,rfl,by simp [hH20],a2,keep _,hid2,by omega,by omega,by omega,by simp; omega,by simpa using hc⟩
    ·rw [cutsS_stop hlen,List.append_nil] at hc
     simp [hH,hlen]
     rw [hP,← hc]
     exact hs
 ·have : partsS ⟨p,n⟩ unit=[]:=if_neg (fun h => h1 h.1)
  simp [h1,this,zaZ]
def down (n unit : Int) : Int:=if May n∧1≤unit then n - n % unit else 0
def up (n unit : Int) : Option Int:=if May n∧1≤unit then if n % unit=0 then some n else if n - n % unit + unit≤4611686018427387904 then some (n - n % unit + unit) else none else none
def Within' (a b : Sp) : Prop:=MaySpan a∧MaySpan b∧(a.len=0∨(b.pos≤a.pos∧a.pos + a.len≤b.pos + b.len))
instance (a b : Sp) : Decidable (Within' a b):=by unfold Within'; infer_instance
theorem within_iff (a b : Sp) : Within a b ↔ Within' a b:=by
 unfold Within Within'
 by_cases h1 : MaySpan a <;> by_cases h2 : MaySpan b <;> simp [h1,h2]
 have h1':=h1
 have h2':=h2
 simp only [MaySpan,May] at h1' h2'
 by_cases h0 : a.len=0
 ·simp [h0]
 ·simp only [h0,false_or]
  unfold meet
  obtain ⟨p,n⟩:=a
  obtain ⟨q,m⟩:=b
  simp only at h1' h2' h0 ⊢
  split
  ·rename_i h; simp only [Sp.mk.injEq]; omega
  ·rename_i h
   simp only [h1,h2,true_and] at h
   simp only [Sp.mk.injEq]
   omega
end Go.Proofs.YtlbilcpnjgkpjaaGreat.Av
end
section
namespace Go.Proofs.YtlbilcpnjgkpjaaGreat.Av
open Go Go.RowKit
def encB (l : List UInt8) : List AV:=l.map fun b => .lit (.int .u8 b.toNat)
theorem encB_app (a b : List UInt8) : encB (a ++ b)=encB a ++ encB b:=by simp [encB]
theorem zknZ (a : List UInt8) : (encB a).length=a.length:=by simp [encB]
theorem encB_take (a : List UInt8) (n : Nat) : (encB a).take n=encB (a.take n):=by simp [encB]
theorem encB_drop (a : List UInt8) (n : Nat) : (encB a).drop n=encB (a.drop n):=by simp [encB]
theorem encB_get (a : List UInt8) (n : Nat) : (encB a)[n]? = (a[n]?).map fun b => .lit (.int .u8 b.toNat):=by simp [encB]
def encU (b : UInt8) : List AV:=[.lit (.int .u8 b.toNat)]
theorem encU_len (b : UInt8) : (encU b).length=1:=rfl
theorem flat_encU (l : List UInt8) : l.flatMap encU=encB l:=by
 induction l with
 | nil => rfl
 | cons a l ih => rw [List.flatMap_cons,ih]; rfl
theorem zodZ (l : List UInt8) : noIdss (encB l)=true:=by
 induction l with
 | nil => rfl
 | cons a l ih => simpa [encB,noIdss,noIds] using ih
def bstr (l : List UInt8) : ByteArray:=⟨l.toArray⟩
theorem bstr_size (l : List UInt8) : (bstr l).size=l.length:=rfl
theorem toList_loop (s : ByteArray) : ∀ (n i : Nat) (r : List UInt8),s.size - i=n→ByteArray.toList.loop s i r=r.reverse ++ s.data.toList.drop i:=by
  intro n
  induction n with
  | zero =>
    intro i r h
    unfold ByteArray.toList.loop
    rw [if_neg (by omega), List.drop_of_length_le (by have : s.data.toList.length = s.size := by rw [Array.length_toList]; rfl
                                                      omega)]
    simp
  | succ n ih =>
    intro i r h
    unfold ByteArray.toList.loop
    have hi : i < s.size:=by omega
    rw [if_pos hi,ih (i + 1) _ (by omega)]
    have hl : i < s.data.toList.length:=by rw [Array.length_toList]; exact hi
    rw [List.drop_eq_getElem_cons hl]
    simp [ByteArray.get!,getElem!_def]
    have : s.data[i]? = some s.data[i]:=Array.getElem?_eq_getElem hi
    simp [this]
theorem toList_data (s : ByteArray) : s.toList=s.data.toList:=by
 unfold ByteArray.toList
 rw [toList_loop s s.size 0 [] (by simp)]
 simp
theorem bstr_toList (l : List UInt8) : (bstr l).toList=l:=by rw [toList_data]; simp [bstr]
theorem avInts_encB (l : List UInt8) : avInts (encB l)=some (l.map fun b => (b.toNat : Int)):=by
 induction l with
 | nil => rfl
 | cons a l ih =>
  have : encB (a :: l) = .lit (.int .u8 a.toNat) :: encB l:=rfl
  rw [this]; simp only [avInts,ih]; rfl
theorem pushAll_bytes (l : List UInt8) : pushAll (l.map fun b => (b.toNat : Int))=bstr l:=by
 unfold pushAll
 rw [foldl_push_byteCells]
 unfold bstr
 have : (ByteArray.empty.data ++ l.toArray)=l.toArray:=by
  apply Array.ext'
  simp [ByteArray.empty,ByteArray.emptyWithCapacity]
  try rfl
 rw [this]
theorem acB_spec {H : AH} {x : AV} {l : List UInt8} {n : Nat} (h : zaZ H 1 x=some (encB l,n)) : acB H x=some (S (bstr l)):=by
 unfold acB
 split
 ·simp [zaZ] at h
 ·rw [h]; simp only [avInts_encB]; rw [← pushAll_bytes]; rfl
theorem abT_eql {a b : List UInt8} : abT .eql (S (bstr a)) (S (bstr b))=some (B (decide (a=b))):=by
 simp only [abT,astr2,bstr_toList,Option.map_some]
 by_cases h : a=b <;> simp [h]
theorem bstr_nil : (⟨#[]⟩ : ByteArray)=bstr []:=rfl
theorem SV.bytes {l : List UInt8} {v : AV} (h : SV encU 1 l v) (H : AH) : zaZ H 1 v=some (encB l,l.length):=by rw [h.2 H,flat_encU]
end Go.Proofs.YtlbilcpnjgkpjaaGreat.Av
end
section
namespace Go.Proofs.YtlbilcpnjgkpjaaGreat.Av
open Go Go.RowKit
structure Ext where
 no : Int
 b : List UInt8
 hb : b.length=8
 deriving DecidableEq
def encE (x : Ext) : List AV:=I x.no :: encB x.b
theorem zcbZ (x : Ext) : (encE x).length=9:=by simp [encE,zknZ,x.hb]
theorem encB_all (l : List UInt8) : (encB l).all oneA=true:=by simp [encB]
@[simp] theorem encE_all (x : Ext) : (encE x).all oneA=true:=by
 show (oneA (I x.no) && (encB x.b).all oneA)=true
 rw [encB_all]; rfl
theorem zluZ (x : Ext) : noIdss (encE x)=true:=by
 show noIdss (I x.no :: encB x.b)=true
 simp [noIdss,noIds,zodZ]
@[simp] theorem encE_no (x : Ext) (t : List AV) : (encE x ++ t)[0]? = some (I x.no):=rfl
@[simp] theorem encE_no' (x : Ext) : (encE x)[0]? = some (I x.no):=rfl
@[simp] theorem rd_b (x : Ext) : rdCells true 8 (encE x) 1=some (.agg (encB x.b)):=by
 have:=x.hb
 simp [rdCells,encE,zknZ,this,List.take_of_length_le]
@[simp] theorem rd_e (x : Ext) (t : List AV) : rdCells true 9 (encE x ++ t) 0=some (.agg (encE x)):=by
 have:=zcbZ x
 simp [rdCells,this,List.take_append_of_le_length]
@[simp] theorem rd_e' (x : Ext) : rdCells true 9 (encE x) 0=some (.agg (encE x)):=by
 have:=zcbZ x
 simp [rdCells,this,List.take_of_length_le]
theorem aiv_b {b : List UInt8} {k : Nat} {y : UInt8} (h : b[k]? = some y) (hk : k < 8) : aivA false 1 8 1 (.agg (encB b)) (I k)=some (.lit (.int .u8 y.toNat)):=by
 have : (k : Int) < 8:=by omega
 simp [aivA,aint,this,encB_get,h]
theorem ast_e {H : AH} {z : List AV} {x : Ext} {o : Nat} (ho : o=H.length) (hz : z.length=9) : ast 9 (H ++ [some (.cells z)]) (.ptr o 0) (.agg (encE x))=some (H ++ [some (.cells (encE x))]):=by
 have:=zcbZ x
 have e : splice z 0 (encE x)=encE x:=by
  have hb : (encB x.b).length=8:=by rw [zknZ,x.hb]
  unfold encE
  cases hB : encB x.b with
  | nil => rw [hB] at hb; simp at hb
  | cons a r => rw [hB] at hb; simp at hb; simp [splice,hz,hb]
 simp [ast,ho,this,hz,e,-splice]
theorem u8z {y : UInt8} : (y.toNat=0)=(y=0):=by
 refine propext ⟨fun h => ?_,fun h => by rw [h]; rfl⟩
 apply UInt8.toNat_inj.1
 rw [h]; rfl
def cleanB (size : Int) : Int→List UInt8→Prop
 | _,[] => True
 | p,b :: r => (b ≠ 0→p < size)∧cleanB size (p + 1) r
instance cleanB.dec (size : Int) : ∀ (p : Int) (l : List UInt8),Decidable (cleanB size p l)
 | _,[] => Decidable.isTrue True.intro
 | p,b :: r => by
  have:=cleanB.dec size (p + 1) r
  unfold cleanB; infer_instance
def cleanE (size : Int) (x : Ext) : Prop:=cleanB size (x.no * 8) x.b
instance (size : Int) (x : Ext) : Decidable (cleanE size x):=by unfold cleanE; infer_instance
def okL (size : Int) : Int→List Ext→Prop
 | _,[] => True
 | p,x :: r => p < x.no∧x.no < 137438953472∧cleanE size x∧okL size x.no r
instance okL.dec (size : Int) : ∀ (p : Int) (l : List Ext),Decidable (okL size p l)
 | _,[] => Decidable.isTrue True.intro
 | p,x :: r => by
  have:=okL.dec size x.no r
  unfold okL; infer_instance
theorem okL_cons {size p : Int} {x : Ext} {r : List Ext} : okL size p (x :: r)=(p < x.no∧x.no < 137438953472∧cleanE size x∧okL size x.no r):=rfl
theorem okL_nil {size p : Int} : okL size p []=True:=rfl
def mayC (size : Int) (l : List Ext) : Prop:=0≤size∧size≤1099511627776∧okL size (-1) l
instance (size : Int) (l : List Ext) : Decidable (mayC size l):=by unfold mayC; infer_instance
theorem drop_cons {α : Type} {l : List α} {k : Nat} {y : α} (h : l[k]? = some y) : l.drop k=y :: l.drop (k + 1):=by
 obtain ⟨hk,e⟩:=List.getElem?_eq_some_iff.1 h
 rw [List.drop_eq_getElem_cons hk,e]
theorem extent_clean_p (x : Ext) (size : Int) (h0 : -1≤x.no) (h1 : x.no < 137438953472) : BPure Tryz.prog 92 [.agg (encE x),I size] (B (decide (cleanE size x))):=BPure.val (by simp [noIdss,noIds,zluZ]) rfl (extent_clean_ok (by
 unfold extent_clean
 simp
 refine extent_clean_L3_rule (fun n x1 x2 x8 x9 H' => ∃ k : Nat,k + n=8∧x1=I size∧x2 = .ptr 0 0∧x8 = .agg (encB x.b)∧x9=I k∧H'=[some (.cells (encE x))]∧(cleanE size x ↔ cleanB size (x.no * 8 + k) (x.b.drop k))) ?_ 8 ⟨0,rfl,rfl,rfl,rfl,rfl,rfl,by simp [cleanE]⟩
 rintro n x1 x2 x8 x9 H' R hR ⟨k,hk,rfl,rfl,rfl,rfl,rfl,hm⟩
 unfold zjsZ
 rcases Nat.lt_or_ge k 8 with hlt | hge
 ·have hlt' : (k : Int) < 8:=by omega
  have hx:=List.getElem?_eq_getElem (l:=x.b) (i:=k) (by rw [x.hb]; exact hlt)
  generalize x.b[k]'(by rw [x.hb]; exact hlt)=y at hx
  rw [drop_cons hx] at hm
  unfold cleanB at hm
  simp [hlt',aiv_b hx hlt,u8z]
  have hkk : (k : Int) + 1=((k + 1 : Nat) : Int):=by omega
  by_cases hy : y=0
  ·simp [hy,abI_add (a:=k) (b:=1) (by omega) (by omega)]
   refine hR (n - 1) _ _ _ _ _ (by omega) ⟨k + 1,by omega,rfl,rfl,rfl,rfl,rfl, ?_⟩
   rw [hm]
   simp [hy,Int.add_assoc]
  ·simp [hy,abI_mul (a:=x.no) (b:=8) (by omega) (by omega),abI_add (a:=x.no * 8) (b:=k) (by omega) (by omega)]
   by_cases hs : size≤x.no * 8 + k
   ·have : ¬ cleanE size x:=by rw [hm]; intro h; have:=h.1 hy; omega
    simp [hs,this]
   ·simp [hs,abI_add (a:=k) (b:=1) (by omega) (by omega)]
    refine hR (n - 1) _ _ _ _ _ (by omega) ⟨k + 1,by omega,rfl,rfl,rfl,rfl,rfl, ?_⟩
    rw [hm]
    simp [hy,Int.add_assoc]
    omega
 ·have : k=8:=by omega
  subst this
  have e : x.b.drop 8=[]:=by rw [List.drop_eq_nil_iff,x.hb]; omega
  rw [e] at hm
  simp only [cleanB,iff_true] at hm
  simp [hm]))
theorem oneA_sv {α : Type} {enc : α→List AV} {sz : Nat} {l : List α} {v : AV} (hv : SV enc sz l v) : oneA v=true:=by
 have h1:=hv.1
 have h2:=hv.2 []
 cases v with
 | lit a => cases a <;> first | rfl | (simp [zaZ] at h2)
 | _ => first | rfl | (simp [zaZ] at h2)
theorem zogZ (no : Int) (h0 : 0≤no) (h1 : no < 137438953472) : BPure Tryz.prog 79 [I no] (.agg (encSp ⟨no * 8,8⟩)):=BPure.val (by simp [noIdss,noIds]) rfl (extent_whole_ok (by
 unfold extent_whole
 simp [abI_mul (a:=no) (b:=8) (by omega) (by omega),ast,rdCells,encSp]))
theorem zjnZ {size : Int} {l : List Ext} {v : AV} (hv : SV encE 9 l v) (hl : l.length≤281474976710656) : BPure Tryz.prog 67 [.agg [I size,v]] (B (decide (mayC size l))):=BPure.val (by simp [noIdss,noIds,hv.1]) rfl (extent_May_ok (by
 unfold extent_May
 simp [oneA_sv hv]
 by_cases h1 : size < 0
 ·have : ¬ mayC size l:=fun h => by have:=h.1; omega
  simp [h1,this]
 ·by_cases h2 : 1099511627776 < size
  ·have : ¬ mayC size l:=fun h => by have:=h.2.1; omega
   simp [h1,h2,this]
  ·simp [h1,h2,hv.len]
   have hm : mayC size l ↔ okL size (-1) l:=by unfold mayC; constructor <;> intro h <;> simp_all <;> omega
   have e : decide (mayC size l)=decide (okL size (-1) l):=decide_eq_decide.2 hm
   rw [e]
   refine extent_May_L7_rule (fun n x1 x3 x15 x16 x17 H' => ∃ (k : Nat) (p : Int),k + n=l.length∧x1 = .ptr 0 0∧x3=I p∧x15=v∧x16=I l.length∧x17=I k∧(∃ X,H'=some (.cells [I size,v]) :: X)∧-1≤p∧(okL size (-1) l ↔ okL size p (l.drop k))) ?_ l.length ⟨0,-1,by simp,rfl,rfl,rfl,rfl,rfl,⟨[],rfl⟩,by omega,by simp⟩
   rintro n x1 x3 x15 x16 x17 H' R hR ⟨k,p,hk,rfl,rfl,rfl,rfl,rfl,⟨X,rfl⟩,hp,hm⟩
   unfold zmzZ
   rcases Nat.lt_or_ge k l.length with hlt | hge
   ·have hx:=List.getElem?_eq_getElem hlt
    generalize l[k]=y at hx
    rw [drop_cons hx] at hm
    rw [okL_cons] at hm
    simp [hlt,hv.idx zcbZ hx rfl,-ald_ptr']
    rw [← List.cons_append,ast_e (by simp) (by rfl)]
    simp
    by_cases c1 : y.no≤p
    ·have : ¬ okL size (-1) l:=by rw [hm]; intro h; omega
     simp [c1,this]
    ·by_cases c2 : 137438953472≤y.no
     ·have : ¬ okL size (-1) l:=by rw [hm]; intro h; omega
      simp [c1,c2,this]
     ·simp [c1,c2]
      refine bP_pure (extent_clean_p y size (by omega) (by omega)) ?_
      by_cases c3 : cleanE size y
      ·simp [c3,abI_add (a:=k) (b:=1) (by omega) (by omega)]
       refine hR (n - 1) _ _ _ _ _ _ (by omega) ⟨k + 1,y.no,by omega,rfl,rfl,rfl,rfl,rfl,⟨X ++ [some (.cells (encE y))],rfl⟩,by omega, ?_⟩
       rw [hm]
       exact ⟨fun h => h.2.2.2,fun h => ⟨by omega,by omega,c3,h⟩⟩
      ·have : ¬ okL size (-1) l:=by rw [hm]; intro h; exact c3 h.2.2.1
       simp [c3,this]
   ·have : k=l.length:=by omega
    subst this
    rw [List.drop_length] at hm
    simp only [okL_nil,iff_true] at hm
    simp [hm]))
end Go.Proofs.YtlbilcpnjgkpjaaGreat.Av
end
section
namespace Go.Proofs.YtlbilcpnjgkpjaaGreat.Av
open Go Go.RowKit
def srt (l : List Ext) : Prop:=l.Pairwise fun a b => a.no < b.no
theorem okL_all {size : Int} : ∀ {l : List Ext} {p : Int},okL size p l→∀ x ∈ l,p < x.no∧x.no < 137438953472∧cleanE size x
 | [],p,h => by simp
 | a :: r,p,h => by
  rw [okL_cons] at h
  intro x hx
  rcases List.mem_cons.1 hx with rfl | hx
  ·exact ⟨h.1,h.2.1,h.2.2.1⟩
  ·have:=okL_all h.2.2.2 x hx
   exact ⟨by omega,this.2⟩
theorem okL_srt {size : Int} : ∀ {l : List Ext} {p : Int},okL size p l→srt l
 | [],p,h => List.Pairwise.nil
 | a :: r,p,h => by
  rw [okL_cons] at h
  exact List.Pairwise.cons (fun b hb => (okL_all h.2.2.2 b hb).1) (okL_srt h.2.2.2)
theorem srt_get {l : List Ext} (h : srt l) {i j : Nat} {x y : Ext} (hi : l[i]? = some x) (hj : l[j]? = some y) (hij : i < j) : x.no < y.no:=by
 obtain ⟨h1,e1⟩:=List.getElem?_eq_some_iff.1 hi
 obtain ⟨h2,e2⟩:=List.getElem?_eq_some_iff.1 hj
 have:=List.pairwise_iff_getElem.1 h i j h1 h2 hij
 rw [e1,e2] at this; exact this
def posL (l : List Ext) (no : Int) : Nat:=(l.takeWhile fun x => decide (x.no < no)).length
def hasL (l : List Ext) (no : Int) : Prop:=∃ x ∈ l,x.no=no
instance (l : List Ext) (no : Int) : Decidable (hasL l no):=by unfold hasL; infer_instance
theorem posL_eq {no : Int} : ∀ {l : List Ext} {i : Nat},i≤l.length→(∀ m x,m < i→l[m]? = some x→x.no < no)→(∀ x,l[i]? = some x→no≤x.no)→posL l no=i
 | [],i,hi,_,_ => by simp at hi; simp [posL,hi]
 | a :: r,0,_,_,h => by
  have:=h a (by simp)
  have : ¬ a.no < no:=by omega
  simp [posL,this]
 | a :: r,i + 1,hi,h1,h2 => by
  have:=h1 0 a (by omega) (by simp)
  have ih:=posL_eq (l:=r) (i:=i) (no:=no) (by simpa using hi) (fun m x hm hx => h1 (m + 1) x (by omega) (by simpa using hx)) (fun x hx => h2 x (by simpa using hx))
  unfold posL at ih ⊢
  simp [this,ih]
theorem posL_le (l : List Ext) (no : Int) : posL l no≤l.length:=by
 unfold posL
 exact (List.takeWhile_sublist _).length_le
theorem posL_lt {no : Int} : ∀ {l : List Ext} {m : Nat} {x : Ext},m < posL l no→l[m]? = some x→x.no < no
 | a :: r,m,x,hm,hx => by
  by_cases ha : a.no < no
  ·cases m with
   | zero => simp at hx; rw [← hx]; exact ha
   | succ m =>
    refine posL_lt (l:=r) (m:=m) ?_ (by simpa using hx)
    unfold posL at hm ⊢
    simp [ha] at hm
    exact hm
  ·unfold posL at hm
   simp [ha] at hm
 | [],m,x,hm,hx => by simp at hx
theorem posL_ge {no : Int} : ∀ {l : List Ext} {x : Ext},l[posL l no]? = some x→no≤x.no
 | a :: r,x,hx => by
  by_cases ha : a.no < no
  ·refine posL_ge (l:=r) ?_
   unfold posL at hx ⊢
   simpa [ha] using hx
  ·unfold posL at hx
   simp [ha] at hx
   rw [← hx]; omega
 | [],x,hx => by simp at hx
theorem hasL_iff {l : List Ext} (h : srt l) {no : Int} : hasL l no ↔ ∃ x,l[posL l no]? = some x∧x.no=no:=by
 constructor
 ·rintro ⟨x,hx,rfl⟩
  obtain ⟨m,hm⟩:=List.mem_iff_getElem?.1 hx
  refine ⟨x, ?_,rfl⟩
  have : posL l x.no=m:=posL_eq (Nat.le_of_lt (List.getElem?_eq_some_iff.1 hm).1) (fun k y hk hy => srt_get h hy hm hk) (fun y hy => by rw [hm] at hy; injection hy with hy; rw [hy]; omega)
  rw [this]; exact hm
 ·rintro ⟨x,hx,e⟩
  exact ⟨x,List.mem_of_getElem? hx,e⟩
def cmpI (a b : Int) : Int:=if a < b then -1 else if b < a then 1 else 0
theorem cmp_isNaN_p (a : Int) : BPure Tryz.prog 115 [I a] (B false):=BPure.flat fun H => cmp_isNaN_int_ok (by
 unfold cmp_isNaN_int
 simp)
theorem cmp_Compare_p (a b : Int) : BPure Tryz.prog 104 [I a,I b] (I (cmpI a b)):=BPure.flat fun H => cmp_Compare_int_ok (by
 unfold zmtZ
 refine bP_pure (cmp_isNaN_p a) ?_
 refine bP_pure (cmp_isNaN_p b) ?_
 unfold cmpI
 by_cases h1 : a < b
 ·simp [h1]
 ·by_cases h2 : b < a
  ·simp [h1,h2]
  ·simp [h1,h2])
theorem place1_p (x : Ext) (no : Int) : BPure Tryz.prog 124 [.agg (encE x),I no] (I (cmpI x.no no)):=BPure.val (by simp [noIdss,noIds,zluZ]) rfl (extent_place_1_ok (by
 unfold znzZ
 simp
 refine bP_pure (cmp_Compare_p x.no no) ?_
 rfl))
theorem acI_u64 {n : Int} {k : IntKind} (h1 : 0≤n) (h2 : n≤9223372036854775807) : acI .u64 (.lit (.int k n))=some (.lit (.int .u64 n)):=by
 have e1 : IntKind.u64.wrap n=n:=by
  simp [IntKind.wrap,IntKind.bits,IntKind.signed]; omega
 simp [acI,e1]
theorem abI_shr1 {n : Int} : abI .shr (.lit (.int .u64 n)) (.lit (.int .u64 1))=some (.lit (.int .u64 (n / 2))):=by
 have e2 : n.fdiv 2=n / 2:=Int.fdiv_eq_ediv_of_nonneg _ (by omega)
 simp [abI,ashiftOp,IntKind.bits,e2]
theorem goF55 : goFunc Tryz.prog 124=true:=by kernel_rfl
theorem search_p {l : List Ext} {v : AV} (hv : SV encE 9 l v) (hs : srt l) (hl : l.length≤281474976710656) (no : Int) :
  BPure Tryz.prog 123 [v,I no,.fn (.func 124) [] []] (.tup [I (posL l no),B (decide (hasL l no))]):=BPure.val (by simp [noIdss,noIds,hv.1]) rfl (zdvZ (by
 unfold zzZ
 simp [hv.len]
 refine zcwZ (fun n x0 x1 x2 x8 x9 x10 H' => ∃ i j : Nat,i + n=j∧j≤l.length∧x0=v∧x1=I no∧x2 = .fn (.func 124) [] []∧x8=I l.length∧x9=I i∧x10=I j∧H'=[]∧(∀ m x,m < i→l[m]? = some x→x.no < no)∧(∀ m x,j≤m→l[m]? = some x→no≤x.no)) ?_ l.length ⟨0,l.length,by simp,by omega,rfl,rfl,rfl,rfl,rfl,rfl,rfl,by simp,fun m x hm hx => by have:=(List.getElem?_eq_some_iff.1 hx).1; omega⟩
 rintro n x0 x1 x2 x8 x9 x10 H' R hR ⟨i,j,hij,hj,rfl,rfl,rfl,rfl,rfl,rfl,rfl,h1,h2⟩
 unfold zrZ
 rcases Nat.lt_or_ge i j with hlt | hge
 ·have hx:=List.getElem?_eq_getElem (l:=l) (i:=(i + j) / 2) (by omega)
  generalize l[(i + j) / 2]'(by omega)=y at hx
  simp [hlt,abI_add (a:=i) (b:=j) (by omega) (by omega),acI_u64 (n:=(i : Int) + j) (by omega) (by omega),abI_shr1,acI_i64 (a:=((i : Int) + j) / 2) (by omega) (by omega),hv.idx zcbZ hx (i:=((i : Int) + j) / 2) (by omega),goF55]
  refine bC_of (place1_p y no []) ?_
  unfold cmpI
  by_cases c1 : y.no < no
  ·simp [c1,abI_add (a:=((i : Int) + j) / 2) (b:=1) (by omega) (by omega)]
   refine hR (j - ((i + j) / 2 + 1)) _ _ _ _ _ _ _ (by omega) ⟨(i + j) / 2 + 1,j,by omega,hj,rfl,rfl,rfl,rfl,by simp,rfl,rfl, ?_,h2⟩
   intro m x hm hmx
   by_cases hm2 : m=(i + j) / 2
   ·rw [hm2,hx] at hmx; injection hmx with e; rw [← e]; exact c1
   ·have:=srt_get hs hmx hx (by omega); omega
  ·have e : ¬ (if no < y.no then (1 : Int) else 0) < 0:=by split <;> omega
   simp [c1,e]
   refine hR ((i + j) / 2 - i) _ _ _ _ _ _ _ (by omega) ⟨i,(i + j) / 2,by omega,by omega,rfl,rfl,rfl,rfl,rfl,by simp,rfl,h1, ?_⟩
   intro m x hm hmx
   by_cases hm2 : m=(i + j) / 2
   ·rw [hm2,hx] at hmx; injection hmx with e; rw [← e]; omega
   ·have:=srt_get hs hx hmx (by omega); omega
 ·have hi : i=j:=by omega
  subst hi
  have hp : posL l no=i:=posL_eq (by omega) h1 (fun x hx => h2 i x (by omega) hx)
  rcases Nat.lt_or_ge i l.length with hil | hil
  ·have hx:=List.getElem?_eq_getElem (l:=l) (i:=i) hil
   generalize l[i]=y at hx
   have hh : hasL l no ↔ cmpI y.no no=0:=by
    rw [hasL_iff hs,hp]
    have:=h2 i y (by omega) hx
    constructor
    ·rintro ⟨z,hz,e⟩
     rw [hx] at hz; injection hz with hz; rw [hz,e]; unfold cmpI; simp
    ·intro e
     refine ⟨y,hx, ?_⟩
     unfold cmpI at e
     split at e
     ·omega
     ·split at e <;> omega
   simp [hil,hv.idx zcbZ hx rfl,goF55]
   refine bC_of (place1_p y no []) ?_
   simp [hp,hh]
  ·have hn : ¬ hasL l no:=by
    rw [hasL_iff hs,hp]
    rintro ⟨z,hz,e⟩
    have:=(List.getElem?_eq_some_iff.1 hz).1
    omega
   simp [show ¬ i < l.length by omega,hp,hn]))
theorem extent_place_p {l : List Ext} {v : AV} (hv : SV encE 9 l v) (hs : srt l) (hl : l.length≤281474976710656) (no : Int) :
  BPure Tryz.prog 118 [v,I no] (.tup [I (posL l no),B (decide (hasL l no))]):=BPure.val (by simp [noIdss,noIds,hv.1]) rfl (extent_place_ok (by
 unfold extent_place
 refine bP_pure (search_p hv hs hl no) ?_
 simp))
def sameC (a : Int) (l : List Ext) (b : Int) (m : List Ext) : Prop:=a=b∧l=m
instance (a : Int) (l : List Ext) (b : Int) (m : List Ext) : Decidable (sameC a l b m):=by unfold sameC; infer_instance
end Go.Proofs.YtlbilcpnjgkpjaaGreat.Av
end
section
namespace Go.Proofs.YtlbilcpnjgkpjaaGreat.Av
open Go Go.RowKit
structure KO {κ : Type} (c : κ→κ→Int) : Prop where
 eq : ∀ a b,c a b=0 ↔ a=b
 anti : ∀ a b,c a b < 0 ↔ 0 < c b a
 trans : ∀ a b d,c a b < 0→c b d < 0→c a d < 0
section
variable {κ α : Type} {c : κ→κ→Int} {key : α→κ}
theorem KO.irr (h : KO c) (a : κ) : ¬ c a a < 0:=by have:=(h.eq a a).2 rfl; omega
theorem KO.tri (h : KO c) {a b : κ} (h1 : ¬ c a b < 0) (h2 : ¬ c b a < 0) : a=b:=by
 refine (h.eq a b).1 ?_
 rw [h.anti] at h2
 omega
def srtK (c : κ→κ→Int) (key : α→κ) (l : List α) : Prop:=l.Pairwise fun a b => c (key a) (key b) < 0
def posK (c : κ→κ→Int) (key : α→κ) (l : List α) (k : κ) : Nat:=(l.takeWhile fun x => decide (c (key x) k < 0)).length
def hasK (key : α→κ) (l : List α) (k : κ) : Prop:=∃ x ∈ l,key x=k
instance [DecidableEq κ] (key : α→κ) (l : List α) (k : κ) : Decidable (hasK key l k):=by unfold hasK; infer_instance
instance (c : κ→κ→Int) (key : α→κ) (l : List α) : Decidable (srtK c key l):=by unfold srtK; infer_instance
theorem srtK_get {l : List α} (h : srtK c key l) {i j : Nat} {x y : α} (hi : l[i]? = some x) (hj : l[j]? = some y) (hij : i < j) : c (key x) (key y) < 0:=by
 obtain ⟨h1,e1⟩:=List.getElem?_eq_some_iff.1 hi
 obtain ⟨h2,e2⟩:=List.getElem?_eq_some_iff.1 hj
 have:=List.pairwise_iff_getElem.1 h i j h1 h2 hij
 rw [e1,e2] at this; exact this
theorem posK_eq {k : κ} : ∀ {l : List α} {i : Nat},i≤l.length→(∀ m x,m < i→l[m]? = some x→c (key x) k < 0)→(∀ x,l[i]? = some x→¬ c (key x) k < 0)→posK c key l k=i
 | [],i,hi,_,_ => by simp at hi; simp [posK,hi]
 | a :: r,0,_,_,h => by
  have:=h a (by simp)
  simp [posK,this]
 | a :: r,i + 1,hi,h1,h2 => by
  have:=h1 0 a (by omega) (by simp)
  have ih:=posK_eq (l:=r) (i:=i) (k:=k) (by simpa using hi) (fun m x hm hx => h1 (m + 1) x (by omega) (by simpa using hx)) (fun x hx => h2 x (by simpa using hx))
  unfold posK at ih ⊢
  simp [this,ih]
theorem posK_le (l : List α) (k : κ) : posK c key l k≤l.length:=by
 unfold posK
 exact (List.takeWhile_sublist _).length_le
theorem posK_lt {k : κ} : ∀ {l : List α} {m : Nat} {x : α},m < posK c key l k→l[m]? = some x→c (key x) k < 0
 | a :: r,m,x,hm,hx => by
  by_cases ha : c (key a) k < 0
  ·cases m with
   | zero => simp at hx; rw [← hx]; exact ha
   | succ m =>
    refine posK_lt (l:=r) (m:=m) ?_ (by simpa using hx)
    unfold posK at hm ⊢
    simp [ha] at hm
    exact hm
  ·unfold posK at hm
   simp [ha] at hm
 | [],m,x,hm,hx => by simp at hx
theorem posK_ge {k : κ} : ∀ {l : List α} {x : α},l[posK c key l k]? = some x→¬ c (key x) k < 0
 | a :: r,x,hx => by
  by_cases ha : c (key a) k < 0
  ·refine posK_ge (l:=r) ?_
   unfold posK at hx ⊢
   simpa [ha] using hx
  ·unfold posK at hx
   simp [ha] at hx
   rw [← hx]; exact ha
 | [],x,hx => by simp at hx
theorem posK_at (hc : KO c) {l : List α} (h : srtK c key l) {m : Nat} {x : α} (hm : l[m]? = some x) : posK c key l (key x)=m :=
 posK_eq (Nat.le_of_lt (List.getElem?_eq_some_iff.1 hm).1) (fun k y hk hy => srtK_get h hy hm hk) (fun y hy => by rw [hm] at hy; injection hy with hy; rw [hy]; exact hc.irr _)
theorem hasK_iff (hc : KO c) {l : List α} (h : srtK c key l) {k : κ} : hasK key l k ↔ ∃ x,l[posK c key l k]? = some x∧key x=k:=by
 constructor
 ·rintro ⟨x,hx,rfl⟩
  obtain ⟨m,hm⟩:=List.mem_iff_getElem?.1 hx
  exact ⟨x,by rw [posK_at hc h hm]; exact hm,rfl⟩
 ·rintro ⟨x,hx,e⟩
  exact ⟨x,List.mem_of_getElem? hx,e⟩
theorem hasK_pos (hc : KO c) {l : List α} (h : srtK c key l) {k : κ} (hk : hasK key l k) : posK c key l k < l.length:=by
 obtain ⟨x,hx,-⟩:=(hasK_iff hc h).1 hk
 exact (List.getElem?_eq_some_iff.1 hx).1
theorem srtK_uniq (hc : KO c) {l : List α} (h : srtK c key l) {x y : α} (hx : x ∈ l) (hy : y ∈ l) (e : key x=key y) : x=y:=by
 obtain ⟨m,hm⟩:=List.mem_iff_getElem?.1 hx
 obtain ⟨m',hm'⟩:=List.mem_iff_getElem?.1 hy
 have h1:=posK_at hc h hm
 have h2:=posK_at hc h hm'
 rw [e,h2] at h1
 subst h1
 rw [hm] at hm'
 injection hm'
def insK (c : κ→κ→Int) (key : α→κ) (l : List α) (x : α) : List α:=l.take (posK c key l (key x)) ++ x :: l.drop (posK c key l (key x))
def delK (c : κ→κ→Int) (key : α→κ) (l : List α) (k : κ) : List α:=l.take (posK c key l k) ++ l.drop (posK c key l k + 1)
theorem mem_insK {l : List α} {x y : α} : y ∈ insK c key l x ↔ y=x∨y ∈ l:=by
 unfold insK
 rw [List.mem_append,List.mem_cons]
 constructor
 ·rintro (h | h | h)
  ·exact .inr (List.mem_of_mem_take h)
  ·exact .inl h
  ·exact .inr (List.mem_of_mem_drop h)
 ·rintro (h | h)
  ·exact .inr (.inl h)
  ·rw [← List.take_append_drop (posK c key l (key x)) l,List.mem_append] at h
   exact h.imp id .inr
theorem srtK_ins (hc : KO c) {l : List α} (h : srtK c key l) {x : α} (hn : ¬ hasK key l (key x)) : srtK c key (insK c key l x):=by
 unfold insK srtK
 have hl : ∀ y ∈ l.take (posK c key l (key x)),c (key y) (key x) < 0:=by
  intro y hy
  obtain ⟨m,hm⟩:=List.mem_iff_getElem?.1 hy
  rw [List.getElem?_take] at hm
  split at hm
  ·rename_i h1; exact posK_lt h1 hm
  ·cases hm
 have hr : ∀ y ∈ l.drop (posK c key l (key x)),c (key x) (key y) < 0:=by
  intro y hy
  obtain ⟨m,hm⟩:=List.mem_iff_getElem?.1 hy
  rw [List.getElem?_drop] at hm
  have hg : ¬ c (key y) (key x) < 0:=by
   rcases Nat.eq_zero_or_pos m with rfl | hm0
   ·exact posK_ge hm
   ·intro h2
    have hlt : posK c key l (key x) < l.length:=by have:=(List.getElem?_eq_some_iff.1 hm).1; omega
    have h3:=List.getElem?_eq_getElem hlt
    exact posK_ge h3 (hc.trans _ _ _ (srtK_get h h3 hm (by omega)) h2)
  by_cases h1 : c (key x) (key y) < 0
  ·exact h1
  ·exact absurd ⟨y,List.mem_of_getElem? hm,(hc.tri h1 hg).symm⟩ hn
 refine List.pairwise_append.2 ⟨h.sublist (List.take_sublist _ _),List.pairwise_cons.2 ⟨hr,h.sublist (List.drop_sublist _ _)⟩, ?_⟩
 intro a ha b hb
 rcases List.mem_cons.1 hb with rfl | hb
 ·exact hl a ha
 ·exact hc.trans _ _ _ (hl a ha) (hr b hb)
theorem delK_sub {l : List α} {k : κ} : (delK c key l k).Sublist l:=by
 unfold delK
 conv => rhs; rw [← List.take_append_drop (posK c key l k) l]
 refine List.Sublist.append (List.Sublist.refl _) ?_
 rw [← List.drop_drop]
 exact List.drop_sublist _ _
theorem srtK_del {l : List α} (h : srtK c key l) {k : κ} : srtK c key (delK c key l k):=h.sublist delK_sub
theorem mem_delK (hc : KO c) {l : List α} (h : srtK c key l) {k : κ} (hk : hasK key l k) {y : α} : y ∈ delK c key l k ↔ y ∈ l∧key y ≠ k:=by
 obtain ⟨x,hx,rfl⟩:=(hasK_iff hc h).1 hk
 have hlt:=(List.getElem?_eq_some_iff.1 hx).1
 have e : l=l.take (posK c key l (key x)) ++ x :: l.drop (posK c key l (key x) + 1):=by
  conv => lhs; rw [← List.take_append_drop (posK c key l (key x)) l]
  rw [List.drop_eq_getElem_cons hlt,(List.getElem?_eq_some_iff.1 hx).2]
 have hs:=h
 unfold srtK at hs
 generalize posK c key l (key x)=p at *
 unfold delK
 rw [posK_at hc h hx]
 rw [e] at hs
 rw [List.pairwise_append,List.pairwise_cons] at hs
 constructor
 ·intro hy
  rw [List.mem_append] at hy
  rcases hy with hy | hy
  ·exact ⟨List.mem_of_mem_take hy,fun e2 => hc.irr (key x) (e2 ▸ hs.2.2 y hy x (by simp))⟩
  ·exact ⟨List.mem_of_mem_drop hy,fun e2 => hc.irr (key x) (e2 ▸ hs.2.1.1 y hy)⟩
 ·rintro ⟨hy,hne⟩
  rw [e,List.mem_append,List.mem_cons] at hy
  rw [List.mem_append]
  rcases hy with hy | rfl | hy
  ·exact .inl hy
  ·exact absurd rfl hne
  ·exact .inr hy
theorem insK_len {l : List α} {x : α} : (insK c key l x).length=l.length + 1:=by
 have:=posK_le (c:=c) (key:=key) l (key x)
 unfold insK
 rw [List.length_append,List.length_cons,List.length_take,List.length_drop]; omega
theorem delK_len {l : List α} {k : κ} (h : posK c key l k < l.length) : (delK c key l k).length + 1=l.length:=by
 unfold delK
 rw [List.length_append,List.length_take,List.length_drop]; omega
end
abbrev cmpN : List UInt8→List UInt8→Int:=Lib.compareBytes
theorem cmpN_eq : ∀ a b : List UInt8,cmpN a b=0 ↔ a=b
 | [],[] => by simp [cmpN,Lib.compareBytes]
 | [],_ :: _ => by simp [cmpN,Lib.compareBytes]
 | _ :: _,[] => by simp [cmpN,Lib.compareBytes]
 | x :: a,y :: b => by
  have ih:=cmpN_eq a b
  simp only [cmpN] at ih ⊢
  unfold Lib.compareBytes
  by_cases h1 : x < y
  ·have : x ≠ y:=fun e => by subst e; exact UInt8.lt_irrefl _ h1
   simp [h1,this]
  ·by_cases h2 : y < x
   ·have : x ≠ y:=fun e => by subst e; exact UInt8.lt_irrefl _ h2
    simp [h1,h2,this]
   ·have : x=y:=UInt8.le_antisymm (UInt8.not_lt.1 h2) (UInt8.not_lt.1 h1)
    simp [h1,h2,this,ih]
theorem cmpN_lt : ∀ a b : List UInt8,cmpN a b < 0 ↔ a < b
 | [],[] => by simp [cmpN,Lib.compareBytes]
 | [],_ :: _ => by simp [cmpN,Lib.compareBytes]
 | _ :: _,[] => by simp [cmpN,Lib.compareBytes]
 | x :: a,y :: b => by
  have ih:=cmpN_lt a b
  simp only [cmpN] at ih ⊢
  unfold Lib.compareBytes
  rw [List.cons_lt_cons_iff]
  by_cases h1 : x < y
  ·simp [h1]
  ·by_cases h2 : y < x
   ·have : x ≠ y:=fun e => by subst e; exact UInt8.lt_irrefl _ h2
    simp [h1,h2,this]
   ·have : x=y:=UInt8.le_antisymm (UInt8.not_lt.1 h2) (UInt8.not_lt.1 h1)
    simp [h1,h2,this,ih]
theorem cmpN_gt : ∀ a b : List UInt8,0 < cmpN a b ↔ b < a
 | [],[] => by simp [cmpN,Lib.compareBytes]
 | [],_ :: _ => by simp [cmpN,Lib.compareBytes]
 | _ :: _,[] => by simp [cmpN,Lib.compareBytes]
 | x :: a,y :: b => by
  have ih:=cmpN_gt a b
  simp only [cmpN] at ih ⊢
  unfold Lib.compareBytes
  rw [List.cons_lt_cons_iff]
  by_cases h1 : x < y
  ·have : ¬ y < x:=fun h => UInt8.lt_asymm h1 h
   have h3 : y ≠ x:=fun e => by subst e; exact UInt8.lt_irrefl _ h1
   simp [h1,this,h3]
  ·by_cases h2 : y < x
   ·simp [h1,h2]
   ·have : x=y:=UInt8.le_antisymm (UInt8.not_lt.1 h2) (UInt8.not_lt.1 h1)
    simp [h1,h2,this,ih]
theorem koN : KO cmpN where
 eq:=cmpN_eq
 anti a b:=by rw [cmpN_lt,cmpN_gt]
 trans a b d h1 h2:=by rw [cmpN_lt] at *; exact List.lt_trans h1 h2
theorem bytesLess_cmp : ∀ a b : List UInt8,Op.bytesLess a b=decide (cmpN a b < 0)
 | [],[] => by simp [Op.bytesLess,cmpN,Lib.compareBytes]
 | _ :: _,[] => by simp [Op.bytesLess,cmpN,Lib.compareBytes]
 | [],_ :: _ => by simp [Op.bytesLess,cmpN,Lib.compareBytes]
 | x :: a,y :: b => by
  have ih:=bytesLess_cmp a b
  simp only [cmpN] at ih ⊢
  unfold Op.bytesLess Lib.compareBytes
  rw [ih]
  by_cases h1 : x < y
  ·simp [h1]
  ·by_cases h2 : y < x
   ·have : x ≠ y:=fun e => by subst e; exact UInt8.lt_irrefl _ h2
    simp [h1,h2,this]
   ·have : x=y:=UInt8.le_antisymm (UInt8.not_lt.1 h2) (UInt8.not_lt.1 h1)
    simp [h1,h2,this]
theorem abT_geq {a b : List UInt8} : abT .geq (S (bstr a)) (S (bstr b))=some (B (decide (¬ cmpN a b < 0))):=by
 simp only [abT,astr2,bstr_toList,Option.map_some,bytesLess_cmp]
 by_cases h : cmpN a b < 0 <;> simp [h]
theorem aivT_spec {l : List UInt8} {k : Nat} {i : Int} {y : UInt8} (hi : i=k) (h : l[k]? = some y) : aivT (S (bstr l)) (I i)=some (.lit (.int .u8 y.toNat)):=by
 subst hi
 have : (bstr l)[k]? = some y:=by
  obtain ⟨h1,h2⟩:=List.getElem?_eq_some_iff.1 h
  have hs : k < (bstr l).size:=by rw [bstr_size]; exact h1
  rw [getElem?_pos (bstr l) k hs]
  congr 1
 simp [aivT,aint,this]
theorem alnT_spec {l : List UInt8} (h : l.length≤9223372036854775807) : alnT (S (bstr l))=some (I l.length):=by
 simp [alnT,bstr_size]
end Go.Proofs.YtlbilcpnjgkpjaaGreat.Av
end
section
namespace Go.Proofs.YtlbilcpnjgkpjaaGreat.Av
open Go Go.RowKit
structure Sl (α : Type) where
 l : List α
 nil : Bool
structure Rd (P : Program) (t : TypeId) (α : Type) where
 size : Nat
 enc : α→List AV
 ok : α→Prop
 cells : P.cellsOf t=size
 read : ∀ {H : Type} {e : TypeId × Value→H} {W : World} {fuel : Nat} {cs : List Value} {d : DataW H × List MemPlace},DataW.trod e P W 0 (fun _ => true) true fuel t cs=some d →
  ∃ x,ok x∧cs.length=size∧VRs (Cfg.start W) (enc x) cs∧∀ u ∈ cs,u.oneCell'=true
section
variable {P : Program}
theorem read_row {t : TypeId} {α : Type} (E : Rd P t α) {W : World} {a : Addr} {H : Type} {e : TypeId × Value→H} {fuel : Nat} : ∀ (n : Nat) (ds : List (DataW H × List MemPlace)),ds.length=n →
  (∀ i,i < n→(W.cells? 0 (a.add (i * P.cellsOf t)) (P.cellsOf t)).bind (DataW.trod e P W 0 (fun _ => true) true fuel t)=ds[i]?) →
  ∃ (xs : List α) (vs : List Value),xs.length=n∧(∀ x ∈ xs,E.ok x)∧vs.length=n * E.size∧VRs (Cfg.start W) (xs.flatMap E.enc) vs∧∀ (i : Nat) (v : Value),vs[i]? = some v→W.cell? (a.add i)=some v∧v.oneCell'=true
 | 0,ds,hl,h => ⟨[],[],rfl,by simp,by simp,.nil,by simp⟩
 | n + 1,ds,hl,h => by
  obtain ⟨xs,vs,h1,h2,h3,h4,h5⟩:=read_row E n (ds.take n) (by rw [List.length_take]; omega) (fun i hi => by
   rw [h i (by omega),List.getElem?_take,if_pos hi])
  have hn:=h n (by omega)
  rw [List.getElem?_eq_getElem (by omega)] at hn
  obtain ⟨cs,hcs,htr⟩:=Option.bind_eq_some_iff.1 hn
  obtain ⟨x,hx,hxl,hxv,hx1⟩:=E.read htr
  obtain ⟨-,hcl,hcell⟩:=World.cells?_some hcs
  refine ⟨xs ++ [x],vs ++ cs,by simp [h1], ?_, ?_, ?_, ?_⟩
  ·intro y hy
   simp only [List.mem_append,List.mem_singleton] at hy
   rcases hy with hy | rfl
   ·exact h2 y hy
   ·exact hx
  ·rw [List.length_append,h3,hxl,Nat.succ_mul]
  ·rw [List.flatMap_append]
   simpa using h4.append hxv
  ·intro i v hv
   rcases Nat.lt_or_ge i vs.length with hlt | hge
   ·rw [List.getElem?_append_left hlt] at hv
    exact h5 i v hv
   ·rw [List.getElem?_append_right hge,h3] at hv
    have hlt:=(List.getElem?_eq_some_iff.1 hv).1
    have:=hcell (i - n * E.size) (by rw [← hcl]; exact hlt)
    rw [hv,E.cells,Addr.add_add] at this
    rw [show n * E.size + (i - n * E.size)=i by omega] at this
    exact ⟨this,hx1 v (List.mem_of_getElem? hv)⟩
def Rd.slice {t e : TypeId} {α : Type} (E : Rd P e α) (hu : P.underlying t=some (.slice e)) (hc : P.cellsOf t=1) : Rd P t (Sl α) where
 size:=1
 enc s:=[if s.nil then .lit (.slice none 0 0) else .imm (s.l.flatMap E.enc) s.l.length E.size]
 ok s:=(s.nil=true→s.l=[])∧s.l.length≤maxLen∧∀ x ∈ s.l,E.ok x
 cells:=hc
 read {H e' W fuel cs d} h:=by
  rcases DataW.trod_slice hu h with ⟨rfl,-⟩ | ⟨a,len,cap,elems,rest,n,-,rfl,-,-,h1,h2,h3,h4,-,-⟩
  ·exact ⟨⟨[],true⟩,⟨fun _ => rfl,by simp,by simp⟩,rfl,.cons (by simp only [if_true,VR]) .nil,by simp [Value.oneCell']⟩
  ·obtain ⟨xs,vs,g1,g2,g3,g4,g5⟩:=read_row E len elems h3 h4
   refine ⟨⟨xs,false⟩,⟨by simp,by simp only; omega,g2⟩,rfl,.cons ?_ .nil,by simp [Value.oneCell']⟩
   simp only [Bool.false_eq_true,if_false,VR]
   refine ⟨a,cap,vs,by rw [g1],by omega,.inr ⟨fun hh => hh.elim id id,g5⟩,g4⟩
structure Rds (P : Program) (fs : List Field) (off total : Nat) (α : Type) where
 enc : α→List AV
 ok : α→Prop
 le : off≤total
 read : ∀ {H : Type} {e : TypeId × Value→H} {W : World} {fuel : Nat} {cs : List Value} {ds : List (DataW H × List MemPlace)},cs.length=total→ds.length=fs.length →
  (∀ (i : Nat) (f : Field),fs[i]? = some f→DataW.trod e P W 0 (fun _ => true) true fuel f.type ((cs.drop f.offset).take (P.cellsOf f.type))=ds[i]?) →
  ∃ x,ok x∧VRs (Cfg.start W) (enc x) (cs.drop off)∧∀ u ∈ cs.drop off,u.oneCell'=true
def Rds.nil (P : Program) (total : Nat) : Rds P [] total total Unit where
 enc _:=[]
 ok _:=True
 le:=Nat.le_refl _
 read {H e W fuel cs ds} hl _ _:=⟨(),trivial,by rw [List.drop_of_length_le (by omega)]; exact .nil,by rw [List.drop_of_length_le (by omega)]; simp⟩
def Rds.cons {f : Field} {fs : List Field} {t : TypeId} {off total : Nat} {α β : Type} (E : Rd P t α) (R : Rds P fs (off + E.size) total β) (ht : f.type=t) (ho : f.offset=off) : Rds P (f :: fs) off total (α × β) where
 enc x:=E.enc x.1 ++ R.enc x.2
 ok x:=E.ok x.1∧R.ok x.2
 le:=Nat.le_trans (Nat.le_add_right _ _) R.le
 read {H e W fuel cs ds} hl hd h:=by
  subst ht
  cases ds with
  | nil => simp at hd
  | cons d ds =>
   have h0:=h 0 f rfl
   simp only [List.getElem?_cons_zero] at h0
   obtain ⟨x,hx,hxl,hxv,hx1⟩:=E.read h0
   obtain ⟨y,hy,hyv,hy1⟩:=R.read hl (by simpa using hd) (fun i g hg => by simpa using h (i + 1) g (by simpa using hg))
   have e1 : cs.drop off=(cs.drop f.offset).take (P.cellsOf f.type) ++ cs.drop (off + E.size):=by
    rw [ho,E.cells]
    rw [← List.drop_drop,List.take_append_drop]
   rw [e1]
   refine ⟨(x,y),⟨hx,hy⟩,hxv.append hyv, ?_⟩
   intro u hu
   rcases List.mem_append.1 hu with hu | hu
   ·exact hx1 u hu
   ·exact hy1 u hu
def Rd.struct {t : TypeId} {fs : Array Field} {total : Nat} {α : Type} (R : Rds P fs.toList 0 total α) (hu : P.underlying t=some (.struct fs)) (hc : P.cellsOf t=total) : Rd P t α where
 size:=total
 enc:=R.enc
 ok:=R.ok
 cells:=hc
 read {H e W fuel cs d} h:=by
  obtain ⟨xs,n,-,-,hl,hxl,hx⟩:=DataW.trod_struct hu h
  rw [hc] at hl
  obtain ⟨x,h1,h2,h3⟩:=R.read (ds:=xs) hl (by simpa using hxl) (fun i f hf => hx i f (by simpa using hf))
  exact ⟨x,h1,hl,by simpa using h2,by simpa using h3⟩
theorem Rd.arg1 {t : TypeId} {α : Type} (E : Rd P t α) {H : Type} {e : TypeId × Value→H} {W : World} {v : Value} {d : DataW H} {ps : List MemPlace} (hv : v.cells = #[v])
  (h : DataW.Trod e P W 0 (fun _ => true) true t v d ps) : ∃ x,E.ok x∧VRs (Cfg.start W) (E.enc x) [v]:=by
 obtain ⟨fuel,h⟩:=h
 obtain ⟨x,h1,-,h2,-⟩:=E.read h
 rw [hv] at h2
 exact ⟨x,h1,h2⟩
theorem Rd.argN {t : TypeId} {α : Type} (E : Rd P t α) {H : Type} {e : TypeId × Value→H} {W : World} {cs : Array Value} {d : DataW H} {ps : List MemPlace}
  (h : DataW.Trod e P W 0 (fun _ => true) true t (.agg cs) d ps) : ∃ x,E.ok x∧VRs (Cfg.start W) [.agg (E.enc x)] [.agg cs]:=by
 obtain ⟨fuel,h⟩:=h
 obtain ⟨x,h1,-,h2,-⟩:=E.read h
 exact ⟨x,h1,.cons (by simp only [VR]; exact ⟨cs,rfl,h2⟩) .nil⟩
end
end Go.Proofs.YtlbilcpnjgkpjaaGreat.Av
end
section
namespace Go.Proofs.YtlbilcpnjgkpjaaGreat.Av
open Go Go.RowKit
def Rd.byte {P : Program} {t : TypeId} (hu : P.underlying t=some (.int .u8)) (hc : P.cellsOf t=1) : Rd P t UInt8 where
 size:=1
 enc b:=[.lit (.int .u8 b.toNat)]
 ok _:=True
 cells:=hc
 read {H e W fuel cs d} h:=by
  obtain ⟨n,rfl,-,hw⟩:=DataW.trod_int hu h
  have hb : 0≤n∧n≤255:=by simpa [Lit.wf,IntKind.min,IntKind.max,IntKind.signed,IntKind.bits] using hw
  refine ⟨UInt8.ofNat n.toNat,trivial,rfl,.cons ?_ .nil,by simp [Value.oneCell']⟩
  simp only [VR]
  congr 1
  have : n.toNat < 256:=by omega
  rw [UInt8.toNat_ofNat_of_lt' this]
  omega
end Go.Proofs.YtlbilcpnjgkpjaaGreat.Av
end
section
namespace Go.Proofs.YtlbilcpnjgkpjaaGreat.Av
open Go Go.RowKit
section
variable {P : Program} {f : FuncId} {args : List AV}
theorem BPure.of_true (h : ACalls P f [] [] fun r _ => r=B true) : BPure P f [] (B true):=fun H =>
 ACalls.pure (R':=fun r => r=B true) h (by simp only [Bels]) (fun r X hr => ⟨1,r,by rw [hr]; rfl,hr⟩) H
end
end Go.Proofs.YtlbilcpnjgkpjaaGreat.Av
end
section
namespace Go.Proofs.YtlbilcpnjgkpjaaGreat.Av
open Go Go.RowKit
def FZ (X : AH) (v R : AV) : Prop:=∃ n0,∀ n,n0≤n→frz X n v=some R
def FZs (X : AH) (vs Rs : List AV) : Prop:=∃ n0,∀ n,n0≤n→mapO (frz X n) vs=some Rs
theorem FZs.nil {X : AH} : FZs X [] []:=⟨0,fun _ _ => rfl⟩
theorem FZs.cons {X : AH} {v R : AV} {vs Rs : List AV} (h : FZ X v R) (hs : FZs X vs Rs) : FZs X (v :: vs) (R :: Rs):=by
 obtain ⟨a,ha⟩:=h
 obtain ⟨b,hb⟩:=hs
 exact ⟨a + b,fun n hn => by simp only [mapO,ha n (by omega),hb n (by omega)]⟩
theorem FZ.agg {X : AH} {vs Rs : List AV} (hs : FZs X vs Rs) : FZ X (.agg vs) (.agg Rs):=by
 obtain ⟨b,hb⟩:=hs
 refine ⟨b + 1,fun n hn => ?_⟩
 cases n with
 | zero => omega
 | succ n => simp only [frz,hb n (by omega)]; rfl
theorem FZ.tup {X : AH} {vs Rs : List AV} (hs : FZs X vs Rs) : FZ X (.tup vs) (.tup Rs):=by
 obtain ⟨b,hb⟩:=hs
 refine ⟨b + 1,fun n hn => ?_⟩
 cases n with
 | zero => omega
 | succ n => simp only [frz,hb n (by omega)]; rfl
theorem FZ.lit {X : AH} (v : Value) : FZ X (.lit v) (.lit v):=⟨1,fun n hn => by cases n with
 | zero => omega
 | succ n => rfl⟩
theorem FZ.same {X : AH} {v : AV} (h : noIds v=true) : FZ X v v:=frz_noIds X v h
theorem FZ.sv {α : Type} {enc : α→List AV} {X : AH} {sz : Nat} {l : List α} {v : AV} (h : zaZ X sz v=some (l.flatMap enc,l.length)) (hc : noIdss (l.flatMap enc)=true) : ∃ R,SV enc sz l R∧FZ X v R:=by
 obtain ⟨R,n0,h1,h2,h3⟩:=frz_slice h hc
 exact ⟨R,⟨h1,h2⟩,n0,h3⟩
section
variable {P : Program} {f : FuncId} {args : List AV}
theorem BPure.FZ {Q : AV→Prop} (hb : noIdss args=true) (h : ∃ r X,(∃ R,Av.FZ X r R∧Q R)∧BCall P f args [] r X) : ∃ R,Q R∧BPure P f args R:=by
 obtain ⟨r,X,⟨R,⟨n,hn⟩,hq⟩,h⟩:=h
 exact BPure.fz hb ⟨r,X,⟨n,R,hn n (Nat.le_refl _),hq⟩,h⟩
theorem PCall.lend {H : AH} {args' : List AV} {x : AV} (hs : FZs H args args') (hx : flatA x=true) (h : BPure P f args' x) : PCall P f args H x:=by
 obtain ⟨n,hn⟩:=hs
 exact .inr ⟨n,args',hn n (Nat.le_refl _),hx,h⟩
end
theorem noIdss_app : ∀ {a b : List AV},noIdss a=true→noIdss b=true→noIdss (a ++ b)=true
 | [],b,_,h => h
 | x :: a,b,h1,h2 => by
  simp only [noIdss,Bool.and_eq_true,List.cons_append] at h1 ⊢
  exact ⟨h1.1,noIdss_app h1.2 h2⟩
theorem zgiZ {α : Type} {enc : α→List AV} : ∀ {l : List α},(∀ x ∈ l,noIdss (enc x)=true)→noIdss (l.flatMap enc)=true
 | [],_ => rfl
 | a :: l,h => by
  rw [List.flatMap_cons]
  exact noIdss_app (h a (by simp)) (zgiZ fun x hx => h x (by simp [hx]))
theorem owned_sl {H : AH} {sz n : Nat} {v : AV} {cs : List AV} (h : zaZ H sz v=some (cs,n)) (ho : ownedS v=true) (hn : 0 < n) :
  ∃ o off cap cells,v = .sl o off n sz cap∧H[o]? = some (some (.cells cells))∧off + n * sz≤cells.length∧cs=(cells.drop off).take (n * sz):=by
 unfold zaZ at h
 split at h
 ·simp [ownedS] at ho
 ·rename_i o off len esz cap
  split at h
  ·rename_i c hoc
   split at h
   ·rename_i hb
    obtain ⟨rfl,hb⟩:=hb
    injection h with h; injection h with h1 h2
    subst h1; subst h2
    exact ⟨o,off,cap,c,rfl,hoc,hb,rfl⟩
   ·cases h
  ·cases h
 ·injection h with h; injection h with h1 h2; omega
 ·injection h with h; injection h with h1 h2; omega
 ·cases h
theorem over_len {cs xs : List AV} {k : Nat} (h : k + xs.length≤cs.length) : (over cs k xs).length=cs.length:=by
 unfold over
 simp only [List.length_append,List.length_take,List.length_drop]; omega
theorem over_get {cs xs : List AV} {k : Nat} (h : k + xs.length≤cs.length) (i : Nat) : (over cs k xs)[i]? = if k≤i∧i < k + xs.length then xs[i - k]? else cs[i]?:=by
 have h1 : (cs.take k).length=k:=by rw [List.length_take]; omega
 unfold over
 split
 ·rename_i c
  rw [List.getElem?_append_left (by rw [List.length_append]; omega),List.getElem?_append_right (by omega),h1]
 ·rename_i c
  by_cases c1 : i < k
  ·rw [List.append_assoc,List.getElem?_append_left (by omega),List.getElem?_take,if_pos c1]
  ·rw [List.getElem?_append_right (by rw [List.length_append]; omega),List.length_append,h1,List.getElem?_drop]
   congr 1; omega
theorem over_part {cs xs : List AV} {off m k : Nat} (h1 : off + m≤cs.length) (h2 : k + xs.length≤m) : ((over cs (off + k) xs).drop off).take m=over ((cs.drop off).take m) k xs:=by
 refine List.ext_getElem? fun i => ?_
 rw [List.getElem?_take,List.getElem?_drop,over_get (by omega),over_get (by rw [List.length_take,List.length_drop]; omega),List.getElem?_take,List.getElem?_drop]
 by_cases c : i < m
 ·rw [if_pos c]
  by_cases c2 : k≤i∧i < k + xs.length
  ·rw [if_pos c2,if_pos (by omega)]; congr 1; omega
  ·rw [if_neg c2,if_neg (by omega),if_pos c]
 ·rw [if_neg c,if_neg (by omega),if_neg c]
theorem over_flat {α : Type} {enc : α→List AV} {sz : Nat} (hsz : ∀ x,(enc x).length=sz) {l : List α} {k q : Nat} {x y : α} {xs : List AV} (hx : l[k]? = some x) (hy : enc y=over (enc x) q xs) (hq : q + xs.length≤sz) :
  over (l.flatMap enc) (k * sz + q) xs=(l.set k y).flatMap enc:=by
 induction l generalizing k with
 | nil => simp at hx
 | cons a l ih =>
  cases k with
  | zero =>
   simp at hx
   subst hx
   rw [List.set_cons_zero,List.flatMap_cons,List.flatMap_cons,hy]
   have ha:=hsz a
   unfold over
   rw [Nat.zero_mul,Nat.zero_add,List.take_append_of_le_length (by omega),List.drop_append_of_le_length (by omega)]
   simp [List.append_assoc]
  | succ k =>
   simp at hx
   rw [List.set_cons_succ,List.flatMap_cons,List.flatMap_cons,← ih hx]
   have ha:=hsz a
   unfold over
   have e : (k + 1) * sz + q=(enc a).length + (k * sz + q):=by rw [ha,Nat.succ_mul]; omega
   rw [e,List.take_length_add_append,show (enc a).length + (k * sz + q) + xs.length=(enc a).length + (k * sz + q + xs.length) by omega,List.drop_length_add_append]
   simp [List.append_assoc]
end Go.Proofs.YtlbilcpnjgkpjaaGreat.Av
end
section
namespace Go.Proofs.YtlbilcpnjgkpjaaGreat.Av
open Go Go.RowKit
theorem ExtR.apart {P : Program} {k : FuncId} {fn : Func} {tS tR e : TypeId} {size : Nat} (hf : P.funcs[k]? = some fn) (hname : (fn.name == "runtime.NumGoroutine") = false) (hb : fn.body.isNone = true) (hn : Extern.findNext fn = none)
  (he : Extern.find fn=some (Extern.SlicesOverlaps.overlaps #[tS,tS] #[tR])) (ht : P.underlying tS=some (.slice e)) (hz : ∀ w,(Go.sizeOf e).run P w = .ok size w)
  {H : AH} {oa offa la ea ka ob offb lb eb kb : Nat} {ca cb : List AV} (ha : H[oa]? = some (some (.cells ca))) (hbo : H[ob]? = some (some (.cells cb))) (hne : oa ≠ ob) (hka : ka ≠ 0) (hkb : kb ≠ 0) (hcb : cb ≠ []) :
  ExtR P k [.sl oa offa la ea (.ex ka),.sl ob offb lb eb (.ex kb)] H (B false):=by
 intro G vs hr hv
 simp only [VRs] at hv
 obtain ⟨v,r,rfl,h1,v2,r2,rfl,h2,rfl⟩:=hv
 simp only [VR] at h1 h2
 obtain ⟨ho1,a,c,rfl,hl1,hs1⟩:=h1
 obtain ⟨ho2,a2,c2,rfl,hl2,hs2⟩:=h2
 have hc1 : c ≠ 0:=by simp only [SlAt] at hs1; omega
 have hc2 : c2 ≠ 0:=by simp only [SlAt] at hs2; omega
 obtain ⟨rfl,-⟩:=zkmZ hs1 hc1
 obtain ⟨rfl,-⟩:=zkmZ hs2 hc2
 obtain ⟨q1,e1,u1,p1,p2,p3,p4,p5⟩:=hr.obj _ _ ha
 obtain ⟨q2,e2,u2,w1,w2,w3,w4,w5⟩:=hr.obj _ _ hbo
 have hblk : (G.μ oa).1 ≠ (G.μ ob).1:=fun h => hne (hr.inj _ _ _ _ ha hbo h)
 have hlen : 0 < cb.length:=by cases cb with
  | nil => exact absurd rfl hcb
  | cons a r => simp
 refine ⟨.bool false, ?_,by simp only [VR]⟩
 rw [run_callFunc_extern hf hname hb hn he]
 have:=Go.Lib.run_overlaps_apart (P:=P) G.w tS tR e ht size hz ⟨(G.μ oa).1,(G.μ oa).2.1 + offa,none⟩ ⟨(G.μ ob).1,(G.μ ob).2.1 + offb,none⟩ la c lb c2 hblk e1 e2 q1.size q2.size
  (by simp [World.shape?,p1]) (by simp [World.shape?,w1]) (by omega) (by simp [World.frozen?,p1]) (by simp [World.frozen?,p1])
 show (((Extern.SlicesOverlaps.overlaps #[tS,tS] #[tR]) _).run P G.w).andThen _=_
 have e : (#[Value.slice (some ⟨(G.μ oa).1,(G.μ oa).2.1 + offa,none⟩) la c,Value.slice (some ⟨(G.μ ob).1,(G.μ ob).2.1 + offb,none⟩) lb c2] : Array Value)=[Value.slice (some ⟨(G.μ oa).1,(G.μ oa).2.1 + offa,none⟩) la c,Value.slice (some ⟨(G.μ ob).1,(G.μ ob).2.1 + offb,none⟩) lb c2].toArray:=rfl
 rw [← e,this]
 rfl
end Go.Proofs.YtlbilcpnjgkpjaaGreat.Av
end
section
namespace Go.Proofs.YtlbilcpnjgkpjaaGreat.Av
open Go Go.RowKit
mutual
def AV.ren (σ : Nat→Nat × Nat) : AV→AV
 | .lit v => .lit v
 | .ptr o off => .ptr (σ o).1 ((σ o).2 + off)
 | .ip cs => .ip (rens σ cs)
 | .sl o off len esz cap => .sl (σ o).1 ((σ o).2 + off) len esz cap
 | .imm cs len esz => .imm (rens σ cs) len esz
 | .mp o => .mp (σ o).1
 | .agg cs => .agg (rens σ cs)
 | .tup cs => .tup (rens σ cs)
 | .fn f a b => .fn f (rens σ a) (rens σ b)
 | .emp => .emp
 | .junk => .junk
def rens (σ : Nat→Nat × Nat) : List AV→List AV
 | [] => []
 | a :: r => a.ren σ :: rens σ r
end
mutual
theorem ren_same {σ : Nat→Nat × Nat} {m : Nat} (h : ∀ o,o < m→σ o=(o,0)) : ∀ {a : AV},Bel m a→a.ren σ=a
 | .lit v,_ => rfl
 | .ptr o off,hb => by simp only [Bel] at hb; simp only [AV.ren,h o hb,Nat.zero_add]
 | .ip cs,hb => by simp only [Bel] at hb; simp only [AV.ren,ziyZ h hb]
 | .sl o off len esz cap,hb => by simp only [Bel] at hb; simp only [AV.ren,h o hb,Nat.zero_add]
 | .imm cs len esz,hb => by simp only [Bel] at hb; simp only [AV.ren,ziyZ h hb]
 | .mp o,hb => by simp only [Bel] at hb; simp only [AV.ren,h o hb]
 | .agg cs,hb => by simp only [Bel] at hb; simp only [AV.ren,ziyZ h hb]
 | .tup cs,hb => by simp only [Bel] at hb; simp only [AV.ren,ziyZ h hb]
 | .fn f a b,hb => by simp only [Bel] at hb; simp only [AV.ren,ziyZ h hb.1,ziyZ h hb.2]
 | .emp,_ => rfl
 | .junk,_ => rfl
theorem ziyZ {σ : Nat→Nat × Nat} {m : Nat} (h : ∀ o,o < m→σ o=(o,0)) : ∀ {asx : List AV},Bels m asx→rens σ asx=asx
 | [],_ => rfl
 | a :: r,hb => by simp only [Bels] at hb; simp only [rens,ren_same h hb.1,ziyZ h hb.2]
end
def Cfg.ren (G : Cfg) (σ : Nat→Nat × Nat) (lim : Nat→Option Nat) (n2 : Nat) : Cfg :=
 { w:=G.w,n:=n2,μ:=fun o => ((G.μ (σ o).1).1,(G.μ (σ o).1).2.1 + (σ o).2,(lim o).getD ((G.μ (σ o).1).2.2 - (σ o).2)),L:=G.L,K:=G.K }
def noLim : Nat→Option Nat:=fun _ => none
theorem SlAt.ren {m : Nat × Nat × Nat} {sh off esz : Nat} {cap : Room} {a : Addr} {c : Nat} (h : SlAt m (sh + off) esz cap a c) : SlAt (m.1,m.2.1 + sh,m.2.2 - sh) off esz cap a c:=by
 unfold SlAt at h ⊢
 cases cap with
 | ex k =>
  simp only at h ⊢
  refine ⟨h.1,h.2.imp id fun h2 => ⟨by rw [h2.1,Nat.add_assoc],by have:=h2.2; omega⟩⟩
 | ge k =>
  simp only at h ⊢
  refine ⟨h.1,h.2.imp id fun h2 => ⟨by rw [h2.1,Nat.add_assoc],by have:=h2.2; omega⟩⟩
mutual
theorem VR.ren {G : Cfg} {σ : Nat→Nat × Nat} {lim : Nat→Option Nat} {n2 m2 : Nat} (hl : ∀ o,o < m2→lim o=none) (hm : m2≤n2) : ∀ {a : AV} {v : Value},VR G (a.ren σ) v→Bel m2 a→VR (G.ren σ lim n2) a v
 | .lit _,_,h,_ => by simpa only [AV.ren,VR] using h
 | .ptr o off,v,h,hb => by
  simp only [AV.ren,VR] at h ⊢
  simp only [Bel] at hb
  exact ⟨Nat.lt_of_lt_of_le hb hm,by rw [h.2]; simp only [Cfg.ren,Nat.add_assoc]⟩
 | .ip cs,v,h,hb => by
  simp only [AV.ren,VR] at h ⊢
  simp only [Bel] at hb
  obtain ⟨ad,vs,e,hh,hr⟩:=h
  exact ⟨ad,vs,e,hh,VRs.ren hl hm hr hb⟩
 | .sl o off len esz cap,v,h,hb => by
  simp only [AV.ren,VR] at h ⊢
  simp only [Bel] at hb
  obtain ⟨_,a,c,e,hlc,hs⟩:=h
  refine ⟨Nat.lt_of_lt_of_le hb hm,a,c,e,hlc, ?_⟩
  have:=hs.ren
  simp only [Cfg.ren,hl o hb,Option.getD_none]
  exact this
 | .imm cs len esz,v,h,hb => by
  simp only [AV.ren,VR] at h ⊢
  simp only [Bel] at hb
  obtain ⟨ad,c,vs,e,hlc,hh,hr⟩:=h
  exact ⟨ad,c,vs,e,hlc,hh,VRs.ren hl hm hr hb⟩
 | .mp o,v,h,hb => by
  simp only [AV.ren,VR] at h ⊢
  simp only [Bel] at hb
  exact ⟨Nat.lt_of_lt_of_le hb hm,h.2⟩
 | .agg cs,v,h,hb => by
  simp only [AV.ren,VR] at h ⊢
  simp only [Bel] at hb
  obtain ⟨vs,e,hr⟩:=h
  exact ⟨vs,e,VRs.ren hl hm hr hb⟩
 | .tup cs,v,h,hb => by
  simp only [AV.ren,VR] at h ⊢
  simp only [Bel] at hb
  obtain ⟨vs,e,hr⟩:=h
  exact ⟨vs,e,VRs.ren hl hm hr hb⟩
 | .fn f a b,v,h,hb => by
  simp only [AV.ren,VR] at h ⊢
  simp only [Bel] at hb
  obtain ⟨va,vb,e,h1,h2⟩:=h
  exact ⟨va,vb,e,VRs.ren hl hm h1 hb.1,VRs.ren hl hm h2 hb.2⟩
 | .emp,_,h,_ => by simpa only [AV.ren,VR] using h
 | .junk,_,_,_ => by simp only [VR]
theorem VRs.ren {G : Cfg} {σ : Nat→Nat × Nat} {lim : Nat→Option Nat} {n2 m2 : Nat} (hl : ∀ o,o < m2→lim o=none) (hm : m2≤n2) : ∀ {asx : List AV} {vs : List Value},VRs G (rens σ asx) vs→Bels m2 asx→VRs (G.ren σ lim n2) asx vs
 | [],_,h,_ => by simpa only [rens,VRs] using h
 | a :: r,vs,h,hb => by
  simp only [rens,VRs] at h ⊢
  simp only [Bels] at hb
  obtain ⟨v,q,e,h1,h2⟩:=h
  exact ⟨v,q,e,VR.ren hl hm h1 hb.1,VRs.ren hl hm h2 hb.2⟩
end
structure Canon (n0 m2 : Nat) (σ : Nat→Nat × Nat) (lim : Nat→Option Nat) (H1 H2 : AH) : Prop where
 len : n0≤H2.length
 top : m2≤H2.length
 old : ∀ o,o < n0→σ o=(o,0)∧lim o=none
 low : ∀ o,o < m2→lim o=none
 cells : ∀ (o : Nat) (cs : List AV),H2[o]? = some (some (.cells cs))→∃ cs1,H1[(σ o).1]? = some (some (.cells cs1))∧(σ o).2 + cs.length≤cs1.length∧rens σ cs=(cs1.drop (σ o).2).take cs.length∧Bels m2 cs∧∀ ℓ,lim o=some ℓ→cs.length≤ℓ
 maps : ∀ (o : Nat) (es : List (Value × AV)),H2[o]? = some (some (.map es))→(σ o).2=0∧∃ es1,H1[(σ o).1]? = some (some (.map es1))∧es1.map Prod.fst=es.map Prod.fst∧es1.map Prod.snd=rens σ (es.map Prod.snd)∧Bels m2 (es.map Prod.snd)
 inj : ∀ (o o' : Nat) (x x' : AObj),H2[o]? = some (some x)→H2[o']? = some (some x')→(σ o).1=(σ o').1→o=o'
theorem Canon.hr {n0 m2 : Nat} {σ : Nat→Nat × Nat} {lim : Nat→Option Nat} {H1 H2 : AH} (c : Canon n0 m2 σ lim H1 H2) {G : Cfg} (hr : HR G H1) (hlim : ∀ o ℓ,lim o=some ℓ→(σ o).2 + ℓ≤(G.μ (σ o).1).2.2) : HR (G.ren σ lim H2.length) H2:=by
 have src : ∀ (o : Nat) (x : AObj),H2[o]? = some (some x)→∃ x1,H1[(σ o).1]? = some (some x1):=by
  intro o x hx
  cases x with
  | cells cs => obtain ⟨cs1,h1,_⟩:=c.cells o cs hx; exact ⟨_,h1⟩
  | map es => obtain ⟨_,es1,h1,_⟩:=c.maps o es hx; exact ⟨_,h1⟩
 refine ⟨rfl, ?_, ?_, ?_,hr.lt,hr.dis⟩
 ·intro o x hx
  cases x with
  | cells cs =>
   obtain ⟨cs1,h1,h2,h3,h4,h5⟩:=c.cells o cs hx
   obtain ⟨cc,e,vs,q1,q2,q3,q4,q5⟩:=hr.obj _ _ h1
   have hl:=q4.length
   have hlm : (lim o).getD ((G.μ (σ o).1).2.2 - (σ o).2) + (σ o).2≤(G.μ (σ o).1).2.2∧cs.length≤(lim o).getD ((G.μ (σ o).1).2.2 - (σ o).2):=by
    cases hlo : lim o with
    | none => simp only [Option.getD_none]; omega
    | some ℓ => have:=hlim o ℓ hlo; have:=h5 ℓ hlo; simp only [Option.getD_some]; omega
   refine ⟨cc,e,(vs.drop (σ o).2).take cs.length,q1, ?_,hlm.2, ?_, ?_⟩
   ·show (G.μ (σ o).1).2.1 + (σ o).2 + (lim o).getD ((G.μ (σ o).1).2.2 - (σ o).2)≤cc.size
    omega
   ·refine VRs.ren c.low c.top ?_ h4
    rw [h3]
    exact (q4.drop _).take _
   ·intro i v hv
    rw [List.getElem?_take] at hv
    split at hv
    ·rw [List.getElem?_drop] at hv
     have:=q5 _ _ hv
     show cc[(G.μ (σ o).1).2.1 + (σ o).2 + i]? = some v∧_
     rw [Nat.add_assoc]
     exact this
    ·cases hv
  | map es =>
   obtain ⟨h0,es1,h1,h2,h3,h4⟩:=c.maps o es hx
   obtain ⟨ents,q1,q2,q3,q4⟩:=hr.obj _ _ h1
   refine ⟨ents,q1, ?_,by rw [q3,h2], ?_⟩
   ·refine VRs.ren c.low c.top ?_ h4
    rw [← h3]; exact q2
   ·rw [q4]
    congr 1
    have:=congrArg List.length h2
    simpa using this
 ·intro o o' x x' hx hx' he
  obtain ⟨x1,h1⟩:=src o x hx
  obtain ⟨x2,h2⟩:=src o' x' hx'
  exact c.inj o o' x x' hx hx' (hr.inj _ _ _ _ h1 h2 he)
 ·intro o x hx
  obtain ⟨x1,h1⟩:=src o x hx
  exact hr.live _ _ h1
theorem Canon.evo {n0 m2 : Nat} {σ : Nat→Nat × Nat} {lim : Nat→Option Nat} {H1 H2 : AH} (c : Canon n0 m2 σ lim H1 H2) {G0 G : Cfg} (h0 : G0.n=n0) (hE : Evo G0 G) : Evo G0 (G.ren σ lim H2.length) :=
 ⟨hE.os,hE.tape,hE.output,hE.size,hE.keep,by rw [h0]; exact c.len,fun o ho => by
  obtain ⟨hσ,hl⟩:=c.old o (by omega)
  have:=hE.μ o ho
  simp only [Cfg.ren,hσ,hl,Nat.add_zero,Nat.sub_zero,Option.getD_none]
  exact this,hE.K⟩
section
variable {P : Program}
def belH (H : AH) : Prop:=∀ (o : Nat) (x : AObj),H[o]? = some (some x)→x.bel H.length
theorem HR.belH {G : Cfg} {H : AH} (hr : HR G H) : belH H:=fun o x hx => by rw [← hr.n]; exact (hr.obj o x hx).bel
theorem ACalls.canon {f : FuncId} {args : List AV} {H H2 : AH} {R : AV→AH→Prop} {r2 : AV} (h : ACalls P f args H R)
  (hc : belH H→∀ r1 H1,R r1 H1→∃ m2 σ lim,Canon H.length m2 σ lim H1 H2∧∀ G v,HR G H1→VR G r1 v→VR (G.ren σ lim H2.length) r2 v∧∀ o ℓ,lim o=some ℓ→(σ o).2 + ℓ≤(G.μ (σ o).1).2.2) : BCall P f args H r2 H2:=by
 intro G vs hH hv
 refine (h G vs hH hv).mono ?_
 rintro e w' ⟨r1,H1,G',v,rfl,rfl,hE,hx,hX,hq⟩
 obtain ⟨m2,σ,lim,c,hs⟩:=hc hH.belH r1 H1 hq
 obtain ⟨hs1,hs2⟩:=hs G' v hX hx
 exact ⟨r2,H2,G'.ren σ lim H2.length,v,rfl,rfl,c.evo hH.n hE,hs1,c.hr hX hs2,rfl,rfl⟩
theorem ACalls.room {f : FuncId} {o off len esz k : Nat} {args : List AV} {H : AH} {R : AV→AH→Prop} (h : ∀ c,k≤c→len≤c→ACalls P f (.sl o off len esz (.ex c) :: args) H R) : ACalls P f (.sl o off len esz (.ge k) :: args) H R:=by
 intro G vs hH hv
 simp only [VRs] at hv
 obtain ⟨v,r,rfl,h1,h2⟩:=hv
 simp only [VR] at h1
 obtain ⟨ho,a,c,rfl,hl,hs⟩:=h1
 simp only [SlAt] at hs
 refine h c hs.1 hl G _ hH (.cons ?_ h2)
 simp only [VR]
 refine ⟨ho,a,c,rfl,hl,rfl,hs.2.imp id fun h3 => ⟨h3.1,by have:=h3.2; omega⟩⟩
end
def idR : Nat→Nat × Nat:=fun o => (o,0)
def atR (n o off : Nat) : Nat→Nat × Nat:=fun p => if p=n then (o,off) else (p,0)
def atL' (n l : Nat) : Nat→Option Nat:=fun p => if p=n then some l else none
theorem Canon.grown {H : AH} (hb : belH H) {o : Nat} {N : List AV} (hN : Bels H.length N) : Canon H.length H.length idR noLim (H ++ [some (.cells N)]) (H.set o none ++ [some (.cells N)]):=by
 have get : ∀ (p : Nat) (x : AObj),(H.set o none ++ [some (.cells N)])[p]? = some (some x)→(H ++ [some (.cells N)])[p]? = some (some x)∧x.bel H.length:=by
  intro p x hx
  by_cases hp : p < H.length
  ·rw [List.getElem?_append_left (by simpa using hp),List.getElem?_set] at hx
   rw [List.getElem?_append_left hp]
   split at hx
   ·split at hx <;> simp at hx
   ·exact ⟨hx,hb p x hx⟩
  ·rw [List.getElem?_append_right (by simpa using hp)] at hx
   rw [List.getElem?_append_right (by omega)]
   simp only [List.length_set] at hx
   refine ⟨hx, ?_⟩
   have : p - H.length=0:=by
    have:=(List.getElem?_eq_some_iff.1 hx).1
    simp at this; omega
   rw [this] at hx
   simp at hx
   rw [← hx]; exact hN
 refine ⟨by simp,by simp,fun p hp => ⟨rfl,rfl⟩,fun p hp => rfl, ?_, ?_, ?_⟩
 ·intro p cs hx
  obtain ⟨h1,h2⟩:=get p _ hx
  refine ⟨cs,h1,by simp [idR], ?_,h2,fun ℓ h => by cases h⟩
  rw [ziyZ (σ:=idR) (m:=H.length) (fun _ _ => rfl) h2]
  simp [idR]
 ·intro p es hx
  obtain ⟨h1,h2⟩:=get p _ hx
  exact ⟨rfl,es,h1,rfl,(ziyZ (σ:=idR) (m:=H.length) (fun _ _ => rfl) h2).symm,h2⟩
 ·intro p p' x x' _ _ h
  exact h
theorem Canon.placed {H : AH} (hb : belH H) {o off l : Nat} {N cs1 : List AV} (ho : o < H.length) (hN : Bels H.length N) (hl : off + N.length≤cs1.length) (he : (cs1.drop off).take N.length=N) (hll : N.length≤l) :
  Canon H.length H.length (atR H.length o off) (atL' H.length l) (H.set o (some (.cells cs1))) (H.set o none ++ [some (.cells N)]):=by
 have sm : ∀ p,p < H.length→atR H.length o off p=(p,0):=fun p hp => by unfold atR; rw [if_neg (by omega)]
 have sl : ∀ p,p < H.length→atL' H.length l p=none:=fun p hp => by unfold atL'; rw [if_neg (by omega)]
 have get : ∀ (p : Nat) (x : AObj),(H.set o none ++ [some (.cells N)])[p]? = some (some x)→(p < H.length∧p ≠ o∧(H.set o (some (.cells cs1)))[p]? = some (some x)∧x.bel H.length)∨(p=H.length∧x = .cells N):=by
  intro p x hx
  by_cases hp : p < H.length
  ·left
   rw [List.getElem?_append_left (by simpa using hp),List.getElem?_set] at hx
   split at hx
   ·simp at hx
   ·rename_i hne
    exact ⟨hp,fun h => hne h.symm,by rw [List.getElem?_set_ne hne]; exact hx,hb p x hx⟩
  ·right
   rw [List.getElem?_append_right (by simpa using hp)] at hx
   simp only [List.length_set] at hx
   have : p - H.length=0:=by
    have:=(List.getElem?_eq_some_iff.1 hx).1
    simp at this; omega
   rw [this] at hx
   simp at hx
   exact ⟨by omega,hx.symm⟩
 refine ⟨by simp,by simp,fun p hp => ⟨sm p hp,sl p hp⟩,sl, ?_, ?_, ?_⟩
 ·intro p cs hx
  rcases get p _ hx with ⟨h0,_,h1,h2⟩ | ⟨rfl,h⟩
  ·refine ⟨cs,by rw [sm p h0]; exact h1,by rw [sm p h0]; simp, ?_,h2,fun ℓ h => by rw [sl p h0] at h; cases h⟩
   rw [ziyZ sm h2,sm p h0]
   simp
  ·injection h with h
   subst h
   have e : atR H.length o off H.length=(o,off):=if_pos rfl
   refine ⟨cs1,by rw [e]; simp [ho],by rw [e]; exact hl, ?_,hN,fun ℓ h => ?_⟩
   ·rw [ziyZ sm hN,e]; exact he.symm
   ·unfold atL' at h
    rw [if_pos rfl] at h
    injection h with h
    omega
 ·intro p es hx
  rcases get p _ hx with ⟨h0,_,h1,h2⟩ | ⟨_,h⟩
  ·exact ⟨by rw [sm p h0],es,by rw [sm p h0]; exact h1,rfl,(ziyZ sm h2).symm,h2⟩
  ·cases h
 ·intro p p' x x' hx hx' h
  have e : atR H.length o off H.length=(o,off):=if_pos rfl
  rcases get p _ hx with ⟨h0,h0',_,_⟩ | ⟨rfl,_⟩ <;> rcases get p' _ hx' with ⟨k0,k0',_,_⟩ | ⟨rfl,_⟩
  ·rw [sm p h0,sm p' k0] at h; exact h
  ·rw [sm p h0,e] at h; exact (h0' h).elim
  ·rw [sm p' k0,e] at h; exact (k0' h.symm).elim
  ·rfl
end Go.Proofs.YtlbilcpnjgkpjaaGreat.Av
end
section
namespace Go.Proofs.YtlbilcpnjgkpjaaGreat.Av
open Go Go.RowKit
section
variable {P : Program}
def insF (P : Program) (sz bytes : Nat) (zc : List AV) (ov rot : FuncId) (a0 a1 a2 : AV) (H : AH) (K : AV→AH→Prop) : Prop :=
 bO (aslS sz a0 (some a1) none none) fun v0 =>
 bO (alnS a2) fun v1 =>
 bO (abI .eql v1 (.lit (.int .i64 0))) fun v2 =>
 bB v2 fun t3 => bI t3 (
 K a0 H)
 (bO (alnS a0) fun v4 =>
 bO (abI .eql a1 v4) fun v5 =>
 bB v5 fun t6 => bI t6 (
 bH (aap sz bytes H a0 a2) fun v7 H8 =>
 K v7 H8)
 (bO (abI .add v4 v1) fun v9 =>
 bO (acpS a0) fun v10 =>
 bO (abI .gtr v9 v10) fun v11 =>
 bB v11 fun t12 => bI t12 (
 bO (aslS sz a0 none (some a1) none) fun v13 =>
 bO (abI .add v4 v1) fun v14 =>
 bO (abI .sub v14 a1) fun v15 =>
 bH (aappZ1 H sz bytes zc v13 v15) fun v16 H17 =>
 bO (aslS sz v16 (some a1) none none) fun v18 =>
 bH (acp sz H17 v18 a2) fun v19 H20 =>
 bO (abI .add a1 v1) fun v21 =>
 bO (aslS sz v16 (some v21) none none) fun v22 =>
 bO (aslS sz a0 (some a1) none none) fun v23 =>
 bH (acp sz H20 v22 v23) fun v24 H25 =>
 K v16 H25)
 (bO (abI .add v4 v1) fun v26 =>
 bO (aslS sz a0 none (some v26) none) fun v27 =>
 bO (abI .add a1 v1) fun v28 =>
 bO (aslS sz v27 (some v28) none none) fun v29 =>
 bP (ExtR P ov [a2,v29] H) fun v30 =>
 bO (aun .not v30) fun v31 =>
 bB v31 fun t32 => bI t32 (
 bO (abI .add a1 v1) fun v33 =>
 bO (aslS sz v27 (some v33) none none) fun v34 =>
 bO (aslS sz v27 (some a1) none none) fun v35 =>
 bH (acp sz H v34 v35) fun v36 H37 =>
 bO (aslS sz v27 (some a1) none none) fun v38 =>
 bH (acp sz H37 v38 a2) fun v39 H40 =>
 K v27 H40)
 (bO (aslS sz v27 (some v4) none none) fun v41 =>
 bH (acp sz H v41 a2) fun v42 H43 =>
 bO (aslS sz v27 (some a1) none none) fun v44 =>
 bC (BCall P rot [v44,v1] H43) fun v45 H46 =>
 K v27 H46))))
def capOk (s : AV) (n : Nat) : Prop:=match s with
 | .sl _ _ _ _ cap => n≤cap.least
 | _ => True
theorem acp_slG {H : AH} {sz o off len o2 off2 m : Nat} {cap cap2 : Room} {cs cs2 : List AV} (ho : H[o]? = some (some (.cells cs))) (h2 : H[o2]? = some (some (.cells cs2))) (hoff : off≤cs.length) (ht : off2 + min m len * sz≤cs2.length) :
  acp sz H (.sl o off len sz cap) (.sl o2 off2 m sz cap2)=some (I ((min m len : Nat) : Int),H.set o (some (.cells (over cs off ((cs2.drop off2).take (min m len * sz)))))):=by
 unfold acp acp0
 by_cases h : off2 + m * sz≤cs2.length
 ·have e : zddZ H sz (.sl o2 off2 m sz cap2)=some ((cs2.drop off2).take (m * sz),m):=zjZ (by simp [zaZ,h2,h])
  have hm : min (min m len * sz) (m * sz)=min m len * sz:=Nat.min_eq_left (Nat.mul_le_mul_right _ (Nat.min_le_left _ _))
  rw [e]
  simp only [ho,hoff,and_self,if_true,List.take_take,hm]
 ·have e : zddZ H sz (.sl o2 off2 m sz cap2)=none:=by simp [zddZ,zaZ,h2,h]
  rw [e]
  simp [acpT,ho,h2,hoff,ht]
theorem aap_cap {sz bytes : Nat} {H : AH} {s x r : AV} {H' : AH} {cs ds : List AV} {n m : Nat} (h1 : zaZ H sz s=some (cs,n)) (ho : ownedS s=true) (h2 : zddZ H sz x=some (ds,m)) (hc : capOk s n) (h : aap sz bytes H s x=some (r,H')) : capOk r (n + m):=by
 unfold aap at h
 rw [h2] at h
 simp only at h
 unfold zaZ at h1
 split at h1
 ·simp [ownedS] at ho
 ·rename_i o off len esz cap
  split at h1
  ·rename_i c hoc
   split at h1
   ·rename_i hb1
    obtain ⟨rfl,hfit⟩:=hb1
    injection h1 with h1
    injection h1 with h3 h4
    subst h3; subst h4
    unfold aapp1 at h
    simp only [hoc,ne_eq,not_true_eq_false,false_or,hfit,if_false] at h
    cases cap with
    | ex k =>
     simp only at h
     split at h
     ·injection h with h; injection h with h h'; subst h; simpa [capOk,Room.least]
     ·split at h
      ·injection h with h; injection h with h h'; subst h; simp [capOk,Room.least]
      ·cases h
    | ge k =>
     simp only at h
     split at h
     ·rename_i hm
      injection h with h; injection h with h h'; subst h; subst hm; simpa using hc
     ·split at h
      ·injection h with h; injection h with h h'; subst h; simpa [capOk,Room.least]
      ·split at h
       ·injection h with h; injection h with h h'; subst h; simp [capOk,Room.least]
       ·cases h
   ·cases h1
  ·cases h1
 ·injection h1 with h1
  injection h1 with h3 h4
  subst h3; subst h4
  unfold aapp1 at h
  simp only at h
  split at h
  ·injection h with h; injection h with h h'; subst h; simp [capOk]
  ·split at h
   ·injection h with h; injection h with h h'; subst h; simp [capOk,Room.least]
   ·cases h
 ·injection h1 with h1
  injection h1 with h3 h4
  subst h3; subst h4
  unfold aapp1 at h
  simp only at h
  split at h
  ·injection h with h; injection h with h h'; subst h; simp [capOk]
  ·split at h
   ·injection h with h; injection h with h h'; subst h; simp [capOk,Room.least]
   ·cases h
 ·cases h1
def InsG (sz : Nat) (H : AH) (s : AV) (N : List AV) (n : Nat) (r : AV) (H' : AH) : Prop :=
 ownedS r=true∧zaZ H' sz r=some (N,n + 1)∧H.length≤H'.length∧(∀ i,i < H.length→i ∉ idS s→H'[i]? = H[i]?)∧(∀ i ∈ idS r,i ∈ idS s∨H.length≤i)∧capOk r (n + 1)
theorem ins_end {sz bytes : Nat} {zc : List AV} {ov rot : FuncId} {H : AH} {s a2 : AV} {cs xs : List AV} {n : Nat} (hs : zaZ H sz s=some (cs,n)) (ho : ownedS s=true) (hc : capOk s n) (ha : alnS a2=some (I 1)) (hx : zddZ H sz a2=some (xs,1)) (hb : (n + 1) * bytes≤140737488355328) :
  ∃ r H',InsG sz H s (cs ++ xs) n r H'∧insF P sz bytes zc ov rot s (I n) a2 H fun r' H'' => r'=r∧H''=H':=by
 obtain ⟨r0,a0,-⟩:=aslS_spec hs (lo:=some (I n)) (hi:=none) (l:=n) (k:=n) (by simp [abnd]) rfl (Nat.le_refl _) (Nat.le_refl _)
 obtain ⟨r,H2,a1,a2',a3,a4,a5,a6⟩:=zjcZ (bytes:=bytes) hs ho hx hb
 refine ⟨r,H2,⟨a2',a3,a4,a5,a6,aap_cap hs ho hx hc a1⟩, ?_⟩
 unfold insF
 simp [a0,ha,zbxZ hs,a1]
theorem ins_grow {sz bytes : Nat} {zc : List AV} {ov rot : FuncId} (hz : zc.length=sz) {H : AH} {o off n oj i : Nat} {cells xs : List AV} (hc : H[o]? = some (some (.cells cells))) (hl : off + n * sz≤cells.length) (hi : i < n) (hn : n≤100000000) (hv : H[oj]? = some (some (.cells xs))) (hxl : xs.length=sz) (hby : (n + 1) * bytes≤140737488355328) :
  insF P sz bytes zc ov rot (.sl o off n sz (.ex n)) (I i) (.sl oj 0 1 sz (.ex 1)) H fun r H' => r = .sl H.length 0 (n + 1) sz (.ge (n + 1)) ∧
   H'=H ++ [some (.cells ((cells.drop off).take (i * sz) ++ xs ++ (cells.drop (off + i * sz)).take ((n - i) * sz)))]:=by
 unfold insF
 have h1 : ¬ (i : Int)=n:=by omega
 have hmi : i * sz≤n * sz:=Nat.mul_le_mul_right _ (by omega)
 have hmn : i * sz + (n - i) * sz=n * sz:=by rw [← Nat.add_mul]; congr 1; omega
 have hms : (i + 1) * sz=i * sz + sz:=Nat.succ_mul _ _
 have hmr : (n + 1 - i) * sz=(n - i) * sz + sz:=by rw [show n + 1 - i=(n - i) + 1 by omega,Nat.succ_mul]
 simp [aslS,abnd,Room.least,Room.cut,acpS,goInt,h1,show i≤n by omega,abI_add (a:=n) (b:=1) (by omega) (by omega),abI_sub (a:=(n : Int) + 1) (b:=i) (by omega) (by omega),aappZ1,hc,hl,abI_add (a:=i) (b:=1) (by omega) (by omega),-zrow]
 have e1 : i + (n + 1 - i)=n + 1:=by omega
 have h2 : off + i * sz≤cells.length:=by omega
 simp only [e1]
 simp [h2,show (i : Int) < n + 1 by omega,show (n : Int) < n + 1 by omega,hby,show i≤n + 1 by omega,show i + 1≤n + 1 by omega,-zrow]
 have zl : (zrow zc (n + 1 - i)).length=(n + 1 - i) * sz:=by rw [zfiZ,hz]
 generalize zrow zc (n + 1 - i)=Z at zl
 have hA : (List.take (i * sz) (List.drop off cells)).length=i * sz:=by rw [List.length_take,List.length_drop]; omega
 generalize hAe : List.take (i * sz) (List.drop off cells)=A at hA
 have hov:=(List.getElem?_eq_some_iff.1 hv).1
 have ho:=(List.getElem?_eq_some_iff.1 hc).1
 have m1 : min 1 (n + 1 - i)=1:=by omega
 rw [acp_slG (cs:=A ++ Z) (cs2:=xs) (by simp) (by rw [List.getElem?_append_left hov]; exact hv) (by simp [hA]) (by rw [m1]; omega)]
 simp [show (0 : Int)≤(i : Int) + 1 by omega,show i + 1≤n + 1 by omega]
 have o1 : over (A ++ Z) (i * sz) (List.take (min 1 (n + 1 - i) * sz) xs)=A ++ xs ++ Z.drop sz:=by
  rw [m1,List.take_of_length_le (by rw [hxl]; omega)]
  unfold over
  rw [List.take_append_of_le_length (by omega),List.take_of_length_le (by omega),hxl,← hA,List.drop_append,Nat.add_sub_cancel_left,List.drop_eq_nil_of_le (by omega),List.nil_append]
 rw [o1,acp_slG (cs:=A ++ xs ++ Z.drop sz) (cs2:=cells) (by simp) (by rw [List.getElem?_append_left ho]; exact hc) (by simp [hA,hxl]; omega) (by rw [Nat.min_self]; omega)]
 have hB : (List.take ((n - i) * sz) (List.drop (off + i * sz) cells)).length=(n - i) * sz:=by rw [List.length_take,List.length_drop]; omega
 simp
 generalize List.take ((n - i) * sz) (List.drop (off + i * sz) cells)=B' at hB
 unfold over
 have l1 : (A ++ xs).length=(i + 1) * sz:=by rw [List.length_append,hA,hxl]; omega
 rw [← List.append_assoc,List.take_append_of_le_length (by omega),List.take_of_length_le (by omega),List.drop_eq_nil_of_le (by rw [List.length_append,l1,List.length_drop,hB]; omega),List.append_nil,List.append_assoc]
theorem ins_place {sz bytes : Nat} {zc : List AV} {ov rot : FuncId} (h0 : 0 < sz) {H : AH} {o off n oj i c : Nat} {cells xs : List AV} (hc : H[o]? = some (some (.cells cells))) (hl : off + n * sz≤cells.length) (hi : i < n) (hn : n≤100000000) (hcn : n + 1≤c) (hv : H[oj]? = some (some (.cells xs))) (hxl : xs.length=sz) (hne : oj ≠ o)
  (hov : ∀ q l k,k ≠ 0→ExtR P ov [.sl oj 0 1 sz (.ex 1),.sl o q l sz (.ex k)] H (B false)) :
  insF P sz bytes zc ov rot (.sl o off n sz (.ex c)) (I i) (.sl oj 0 1 sz (.ex 1)) H fun r H' => r = .sl o off (n + 1) sz (.ex c) ∧
   ∃ rest,H'=H.set o (some (.cells (cells.take (off + i * sz) ++ xs ++ (cells.drop (off + i * sz)).take ((n - i) * sz) ++ rest))):=by
 unfold insF
 have h1 : ¬ (i : Int)=n:=by omega
 have hmi : i * sz≤n * sz:=Nat.mul_le_mul_right _ (by omega)
 have hmn : i * sz + (n - i) * sz=n * sz:=by rw [← Nat.add_mul]; congr 1; omega
 have hms : (i + 1) * sz=i * sz + sz:=Nat.succ_mul _ _
 have hms2 : (i + 1) * sz≤n * sz:=Nat.mul_le_mul_right _ (by omega)
 simp [aslS,abnd,Room.least,Room.cut,acpS,goInt,h1,show i≤n by omega,abI_add (a:=n) (b:=1) (by omega) (by omega),abI_sub (a:=(n : Int) + 1) (b:=i) (by omega) (by omega),hc,hl,abI_add (a:=i) (b:=1) (by omega) (by omega),show i≤c by omega,show n≤c by omega,show ¬ (c : Int) < n + 1 by omega,hcn,show (0 : Int)≤(n : Int) + 1 by omega,show (0 : Int)≤(i : Int) + 1 by omega,show i + 1≤n + 1 by omega,show i + 1≤c by omega]
 refine bP_of (hov _ _ _ (by omega)) ?_
 simp
 have ho:=(List.getElem?_eq_some_iff.1 hc).1
 have mm : min (n + 1 - i) (n - i)=n - i:=by omega
 have m1 : min 1 (n + 1 - i)=1:=by omega
 simp only [show i≤n + 1 by omega,if_true,bO_some]
 rw [acp_slG (cs:=cells) (cs2:=cells) hc hc (by omega) (by rw [mm]; omega),mm]
 have hB : (List.take ((n - i) * sz) (List.drop (off + i * sz) cells)).length=(n - i) * sz:=by rw [List.length_take,List.length_drop]; omega
 generalize List.take ((n - i) * sz) (List.drop (off + i * sz) cells)=B' at hB
 simp only [bH_some]
 have l1 : (cells.take (off + (i + 1) * sz)).length=off + (i + 1) * sz:=by rw [List.length_take]; omega
 rw [acp_slG (cs:=over cells (off + (i + 1) * sz) B') (cs2:=xs) (by simp [ho]) (by rw [List.getElem?_set_ne (Ne.symm hne)]; exact hv) (by unfold over; simp [l1]; omega) (by rw [m1]; omega),m1,List.take_of_length_le (l:=xs.drop 0) (by simp [hxl])]
 simp only [bH_some,List.set_set,List.drop_zero]
 refine ⟨(cells.drop (off + (i + 1) * sz + B'.length)), ?_⟩
 congr 3
 unfold over
 rw [hxl]
 have t1 : List.take (off + i * sz) (cells.take (off + (i + 1) * sz) ++ B' ++ cells.drop (off + (i + 1) * sz + B'.length))=cells.take (off + i * sz):=by
  rw [List.append_assoc,List.take_append_of_le_length (by omega),List.take_take,Nat.min_eq_left (by omega)]
 have t2 : List.drop (off + i * sz + sz) (cells.take (off + (i + 1) * sz) ++ B' ++ cells.drop (off + (i + 1) * sz + B'.length))=B' ++ cells.drop (off + (i + 1) * sz + B'.length):=by
  rw [List.append_assoc,show off + i * sz + sz=(cells.take (off + (i + 1) * sz)).length by omega,List.drop_left]
 rw [t1,t2,List.append_assoc]
theorem belsG_app {m : Nat} : ∀ {a b : List AV},Bels m a→Bels m b→Bels m (a ++ b)
 | [],b,_,h => h
 | x :: a,b,h1,h2 => by simp only [Bels,List.cons_append] at h1 ⊢; exact ⟨h1.1,belsG_app h1.2 h2⟩
theorem belsG_mem {m : Nat} : ∀ {a : List AV},Bels m a ↔ ∀ x ∈ a,Bel m x
 | [] => by simp [Bels]
 | x :: a => by simp only [Bels,List.mem_cons,forall_eq_or_imp,belsG_mem (a:=a)]
theorem ins_ok {sz bytes : Nat} {zc : List AV} {f ov rot : FuncId} (h0 : 0 < sz) (hz : zc.length=sz) (hF : ∀ a0 a1 a2 H K,insF P sz bytes zc ov rot a0 a1 a2 H K→ACalls P f [a0,a1,a2] H K) {H : AH} {s : AV} {cs xs : List AV} {n oj i : Nat} (hs : zaZ H sz s=some (cs,n)) (ho : ownedS s=true) (hcap : capOk s n) (hi : i≤n) (hn : n≤1000000) (hby : bytes≤1000000) (hv : H[oj]? = some (some (.cells xs))) (hxl : xs.length=sz) (hne : oj ∉ idS s)
  (hxb : ∀ m,Bels m xs) (hov : ∀ {o q l k : Nat} {cells : List AV},H[o]? = some (some (.cells cells))→oj ≠ o→k ≠ 0→cells ≠ []→ExtR P ov [.sl oj 0 1 sz (.ex 1),.sl o q l sz (.ex k)] H (B false)) :
  ∃ r H',InsG sz H s (cs.take (i * sz) ++ xs ++ cs.drop (i * sz)) n r H'∧BCall P f [s,I i,.sl oj 0 1 sz (.ex 1)] H r H':=by
 have hcl:=zbwZ hs
 have hbb : (n + 1) * bytes≤140737488355328:=Nat.le_trans (Nat.mul_le_mul (show n + 1≤1000001 by omega) hby) (by omega)
 rcases Nat.lt_or_ge i n with h | h
 ·obtain ⟨o,off,cap,cells,rfl,hc,hl,rfl⟩:=owned_sl hs ho (by omega)
  have hoj : oj ≠ o:=by simpa [idS] using hne
  have hol:=(List.getElem?_eq_some_iff.1 hc).1
  have hmi : i * sz≤n * sz:=Nat.mul_le_mul_right _ (by omega)
  have hmn : i * sz + (n - i) * sz=n * sz:=by rw [← Nat.add_mul]; congr 1; omega
  have hmn1 : (n + 1) * sz=n * sz + sz:=Nat.succ_mul _ _
  have hsz1 : sz≤n * sz:=by have:=Nat.mul_le_mul_right sz (show 1≤n by omega); omega
  have hcne : cells ≠ []:=fun hh => by rw [hh] at hl; simp at hl; omega
  have e1 : ((cells.drop off).take (n * sz)).take (i * sz)=(cells.drop off).take (i * sz):=by rw [List.take_take]; congr 1; omega
  have e2 : ((cells.drop off).take (n * sz)).drop (i * sz)=(cells.drop (off + i * sz)).take ((n - i) * sz):=by rw [List.drop_take,List.drop_drop]; congr 1; omega
  rw [e1,e2]
  generalize hN : (cells.drop off).take (i * sz) ++ xs ++ (cells.drop (off + i * sz)).take ((n - i) * sz)=N
  have hNl : N.length=(n + 1) * sz:=by
   rw [← hN,List.length_append,List.length_append,hxl,List.length_take,List.length_take,List.length_drop,List.length_drop]; omega
  have hall : ∀ c,n≤c→ACalls P f [.sl o off n sz (.ex c),I i,.sl oj 0 1 sz (.ex 1)] H fun r H' =>
    (r = .sl H.length 0 (n + 1) sz (.ge (n + 1))∧H'=H ++ [some (.cells N)])∨∃ c rest,n + 1≤c∧r = .sl o off (n + 1) sz (.ex c)∧H'=H.set o (some (.cells (cells.take off ++ N ++ rest))):=by
   intro c hcn
   rcases Nat.lt_or_ge n c with h' | h'
   ·refine (hF _ _ _ _ _ (ins_place h0 hc hl h (by omega) h' hv hxl hoj fun q l k hk => hov hc hoj hk hcne)).mono ?_
    rintro r H' ⟨rfl,rest,rfl⟩
    refine .inr ⟨c,rest,h',rfl, ?_⟩
    congr 3
    rw [← hN,Nat.add_comm off (i * sz),Nat.add_comm (i * sz) off]
    have : cells.take (off + i * sz)=cells.take off ++ (cells.drop off).take (i * sz):=by rw [List.take_add]
    rw [this]
    simp [List.append_assoc]
   ·have : c=n:=by omega
    subst this
    refine (hF _ _ _ _ _ (ins_grow hz hc hl h (by omega) hv hxl hbb)).mono ?_
    rintro r H' ⟨rfl,rfl⟩
    exact .inl ⟨rfl,by rw [hN]⟩
  have hany : ACalls P f [.sl o off n sz cap,I i,.sl oj 0 1 sz (.ex 1)] H fun r H' =>
    (r = .sl H.length 0 (n + 1) sz (.ge (n + 1))∧H'=H ++ [some (.cells N)])∨∃ c rest,n + 1≤c∧r = .sl o off (n + 1) sz (.ex c)∧H'=H.set o (some (.cells (cells.take off ++ N ++ rest))):=by
   cases cap with
   | ge k => exact ACalls.room fun c _ h => hall c h
   | ex c => exact hall c (by simpa [capOk,Room.least] using hcap)
  refine ⟨.sl H.length 0 (n + 1) sz (.ge (n + 1)),H.set o none ++ [some (.cells N)],⟨rfl, ?_,by simp,fun j hj hn => ?_,fun j hj => .inr (by simp [idS] at hj; omega),by simp [capOk,Room.least]⟩, ?_⟩
  ·rw [zbdZ (c:=N) (by rw [List.getElem?_append_right (by simp)]; simp) (by omega)]
   rw [List.drop_zero,List.take_of_length_le (by omega)]
  ·rw [List.getElem?_append_left (by simpa using hj),List.getElem?_set_ne (by simp [idS] at hn; omega)]
  refine ACalls.canon hany ?_
  rintro hb r1 H1 h1
  have hbN : Bels H.length N:=by
   have hbc : Bels H.length cells:=hb o _ hc
   rw [belsG_mem] at hbc
   rw [← hN]
   refine belsG_app (belsG_app ?_ (hxb _)) ?_
   ·rw [belsG_mem]; exact fun a ha => hbc a (List.mem_of_mem_drop (List.mem_of_mem_take ha))
   ·rw [belsG_mem]; exact fun a ha => hbc a (List.mem_of_mem_drop (List.mem_of_mem_take ha))
  rcases h1 with ⟨rfl,rfl⟩ | ⟨c,rest,hcn,rfl,rfl⟩
  ·refine ⟨_,_,_,Canon.grown hb hbN, ?_⟩
   intro G v hG hr
   refine ⟨?_,fun p ℓ h => by cases h⟩
   simp only [VR] at hr ⊢
   obtain ⟨q0,a,c,rfl,hlc,hs⟩:=hr
   refine ⟨by simp [Cfg.ren],a,c,rfl,hlc, ?_⟩
   simpa [Cfg.ren,idR,noLim] using hs
  ·have hcs : (n + 1) * sz≤c * sz:=Nat.mul_le_mul_right _ hcn
   refine ⟨_,_,_,Canon.placed (off:=off) (l:=c * sz) hb hol hbN (cs1:=cells.take off ++ N ++ rest) ?_ ?_ ?_, ?_⟩
   ·simp; omega
   ·have : (cells.take off).length=off:=by rw [List.length_take]; omega
    rw [List.append_assoc]
    conv => lhs; arg 2; arg 1; rw [← this]
    rw [List.drop_left,List.take_left]
   ·rw [hNl]; omega
   ·intro G v hG hr
    simp only [VR] at hr
    obtain ⟨q0,a,c',rfl,hlc,hs⟩:=hr
    simp only [SlAt] at hs
    obtain ⟨rfl,hs⟩:=hs
    have hs:=hs.resolve_left (by omega)
    obtain ⟨rfl,hs2⟩:=hs
    have e : atR H.length o off H.length=(o,off):=if_pos rfl
    have e2 : atL' H.length (c' * sz) H.length=some (c' * sz):=if_pos rfl
    refine ⟨?_, ?_⟩
    ·simp only [VR]
     refine ⟨by simp [Cfg.ren],_,c',rfl,by omega, ?_⟩
     simp only [SlAt]
     refine ⟨hcn,.inr ⟨by simp [Cfg.ren,e], ?_⟩⟩
     simp [Cfg.ren,e2]
    ·intro p ℓ h
     unfold atL' at h
     split at h
     ·rename_i hp
      injection h with h
      subst hp; subst h
      rw [e]; omega
     ·cases h
 ·have : i=n:=by omega
  subst this
  have hx : zddZ H sz (.sl oj 0 1 sz (.ex 1))=some (xs,1):=zjZ (by
   rw [show sz=1 * sz by omega] at hxl
   rw [zbdZ hv (by omega),List.drop_zero,List.take_of_length_le (by omega)])
  obtain ⟨r,H',h1,h2⟩:=ins_end (P:=P) (zc:=zc) (ov:=ov) (rot:=rot) hs ho hcap rfl hx hbb
  refine ⟨r,H', ?_,(hF _ _ _ _ _ h2)⟩
  rw [List.take_of_length_le (by omega),List.drop_of_length_le (by omega),List.append_nil]
  exact h1
end
end Go.Proofs.YtlbilcpnjgkpjaaGreat.Av
end
section
namespace Go.Proofs.YtlbilcpnjgkpjaaGreat.Av
open Go Go.RowKit
mutual
theorem noIds_belG {m : Nat} : ∀ {a : AV},noIds a=true→Bel m a
 | .lit _,_ => by simp only [Bel]
 | .ptr ..,h => by simp [noIds] at h
 | .ip cs,h => by simp only [noIds] at h; simp only [Bel]; exact zimZ h
 | .sl ..,h => by simp [noIds] at h
 | .imm cs _ _,h => by simp only [noIds] at h; simp only [Bel]; exact zimZ h
 | .mp _,h => by simp [noIds] at h
 | .agg cs,h => by simp only [noIds] at h; simp only [Bel]; exact zimZ h
 | .tup cs,h => by simp only [noIds] at h; simp only [Bel]; exact zimZ h
 | .fn _ a b,h => by simp only [noIds,Bool.and_eq_true] at h; simp only [Bel]; exact ⟨zimZ h.1,zimZ h.2⟩
 | .emp,_ => by simp only [Bel]
 | .junk,_ => by simp only [Bel]
theorem zimZ {m : Nat} : ∀ {xs : List AV},noIdss xs=true→Bels m xs
 | [],_ => by simp only [Bels]
 | a :: r,h => by simp only [noIdss,Bool.and_eq_true] at h; simp only [Bels]; exact ⟨noIds_belG h.1,zimZ h.2⟩
end
section
variable {P : Program}
def delF (sz bytes : Nat) (zc : List AV) (a0 a1 a2 : AV) (H : AH) (K : AV→AH→Prop) : Prop :=
 bO (alnS a0) fun v0 =>
 bO (aslS sz a0 (some a1) (some a2) (some v0)) fun v1 =>
 bO (abI .eql a1 a2) fun v2 =>
 bB v2 fun t3 => bI t3 (
 K a0 H)
 (bO (alnS a0) fun v4 =>
 bO (aslS sz a0 none (some a1) none) fun v5 =>
 bO (aslS sz a0 (some a2) none none) fun v6 =>
 bH (aap sz bytes H v5 v6) fun v7 H8 =>
 bO (alnS v7) fun v9 =>
 bO (aslS sz v7 (some v9) (some v4) none) fun v10 =>
 bS (acl zc H8 v10) fun H11 =>
 K v7 H11)
def DelG (sz : Nat) (H : AH) (s : AV) (N : List AV) (n : Nat) (r : AV) (H' : AH) : Prop :=
 ownedS r=true∧zaZ H' sz r=some (N,n)∧H'.length=H.length∧(∀ i,i ∉ idS s→H'[i]? = H[i]?)∧idS r=idS s∧capOk r n
theorem del_ok {sz bytes : Nat} {zc : List AV} (h0 : 0 < sz) (hz : zc.length=sz) {H : AH} {s : AV} {cs : List AV} {n i : Nat} (hs : zaZ H sz s=some (cs,n + 1)) (ho : ownedS s=true) (hcap : capOk s (n + 1)) (hi : i≤n) (hn : n≤1000000) (hby : bytes≤1000000) :
  ∃ r H',DelG sz H s (cs.take (i * sz) ++ cs.drop ((i + 1) * sz)) n r H'∧delF sz bytes zc s (I i) (I ((i : Int) + 1)) H fun r' H'' => r'=r∧H''=H':=by
 obtain ⟨o,off,cap,cells,rfl,hc,hl,rfl⟩:=owned_sl hs ho (by omega)
 have hol:=(List.getElem?_eq_some_iff.1 hc).1
 have hms : (i + 1) * sz=i * sz + sz:=Nat.succ_mul _ _
 have hns : (n + 1) * sz=n * sz + sz:=Nat.succ_mul _ _
 have hmi : i * sz≤n * sz:=Nat.mul_le_mul_right _ (by omega)
 have hmn : (i + 1) * sz + (n - i) * sz=(n + 1) * sz:=by rw [← Nat.add_mul]; congr 1; omega
 obtain ⟨cap',hcap1,hcap2⟩ : ∃ cap',Room.cut (n + 1) 0 cap=cap'∧n + 1≤cap'.least:=by
  refine ⟨_,rfl, ?_⟩
  cases cap <;> simp_all [Room.cut,Room.least,capOk] <;> omega
 have hap : ∃ H8,aap sz bytes H (.sl o off i sz cap') (.sl o (off + (i + 1) * sz) (n - i) sz (cap.cut (n + 1) (i + 1)))=some (.sl o off n sz cap',H8)∧H8.length=H.length∧(∀ j,j ≠ o→H8[j]? = H[j]?)∧H8[o]? = some (some (.cells (over cells (off + i * sz) ((cells.drop (off + (i + 1) * sz)).take ((n - i) * sz))))):=by
  have e : zddZ H sz (.sl o (off + (i + 1) * sz) (n - i) sz (cap.cut (n + 1) (i + 1)))=some ((cells.drop (off + (i + 1) * sz)).take ((n - i) * sz),n - i):=zjZ (by rw [zbdZ hc (by omega)])
  unfold aap
  rw [e]
  simp only [aapp1,hc]
  rw [if_neg (by simp; omega)]
  have hin : i + (n - i)=n:=by omega
  cases cap' with
  | ex k =>
   simp only [Room.least] at hcap2
   simp only [hin,show n≤k by omega,if_true]
   exact ⟨_,rfl,by simp,fun j hj => by rw [List.getElem?_set_ne (Ne.symm hj)],by simp [hol]⟩
  | ge k =>
   simp only [Room.least] at hcap2
   by_cases h : n - i=0
   ·have : i=n:=by omega
    subst this
    simp only [h,if_true]
    refine ⟨_,rfl,rfl,fun _ _ => rfl, ?_⟩
    rw [hc]; simp [over]
   ·simp only [h,if_false,hin,show n≤k by omega,if_true]
    exact ⟨_,rfl,by simp,fun j hj => by rw [List.getElem?_set_ne (Ne.symm hj)],by simp [hol]⟩
 obtain ⟨H8,hA,hL,hO,hC⟩:=hap
 have hDl : ((cells.drop (off + (i + 1) * sz)).take ((n - i) * sz)).length=(n - i) * sz:=by rw [List.length_take,List.length_drop]; omega
 have hcl : (over cells (off + i * sz) ((cells.drop (off + (i + 1) * sz)).take ((n - i) * sz))).length=cells.length:=over_len (by rw [hDl]; omega)
 have hol8 : o < H8.length:=by omega
 refine ⟨.sl o off n sz cap',H8.set o (some (.cells (over (over cells (off + i * sz) ((cells.drop (off + (i + 1) * sz)).take ((n - i) * sz))) (off + n * sz) (zrow zc 1)))),⟨rfl, ?_, ?_,fun j hj => ?_,rfl,by simp only [capOk]; omega⟩, ?_⟩
 rotate_left 3
 ·unfold delF
  have q1 : ((i : Int) + 1)=((i + 1 : Nat) : Int):=by omega
  have w1 : alnS (.sl o off (n + 1) sz cap)=some (I ((n + 1 : Nat) : Int)):=rfl
  have hcl' : n + 1≤cap.least:=hcap
  have w2 : ∃ v,aslS sz (.sl o off (n + 1) sz cap) (some (I i)) (some (I ((i + 1 : Nat) : Int))) (some (I ((n + 1 : Nat) : Int)))=some v:=by
   refine ⟨.sl o (off + i * sz) (i + 1 - i) sz (.ex (n + 1 - i)), ?_⟩
   simp [aslS,abnd,goInt,show (0 : Int)≤(i : Int) + 1 by omega,show (0 : Int)≤(n : Int) + 1 by omega]
   omega
  obtain ⟨v,w2⟩:=w2
  have w3 : aslS sz (.sl o off (n + 1) sz cap) none (some (I i)) none=some (.sl o off i sz cap'):=by
   rw [← hcap1]
   simp [aslS,abnd,goInt]
   omega
  have w4 : aslS sz (.sl o off (n + 1) sz cap) (some (I ((i + 1 : Nat) : Int))) none none=some (.sl o (off + (i + 1) * sz) (n - i) sz (cap.cut (n + 1) (i + 1))):=by
   have : ((i : Int) + 1)=((i + 1 : Nat) : Int):=by omega
   simp [aslS,abnd,goInt,this,-Int.natCast_add]
   omega
  have w5 : aslS sz (.sl o off n sz cap') (some (I n)) (some (I ((n + 1 : Nat) : Int))) none=some (.sl o (off + n * sz) 1 sz (cap'.cut n n)):=by
   simp [aslS,abnd,goInt,show (0 : Int)≤(n : Int) + 1 by omega]
   omega
  have w6 : abI .eql (I i) (I ((i + 1 : Nat) : Int))=some (B false):=by simp; omega
  rw [q1,w1]
  simp only [bO_some,w2,w6,bB_bool,zlZ,w3,w4,hA,bH_some,alnS,w5]
  have zl : (zrow zc 1).length=sz:=by rw [zfiZ,hz]; omega
  have w7 : acl zc H8 (.sl o (off + n * sz) 1 sz (cap'.cut n n))=some (H8.set o (some (.cells (over (over cells (off + i * sz) ((cells.drop (off + (i + 1) * sz)).take ((n - i) * sz))) (off + n * sz) (zrow zc 1))))):=by
   unfold acl
   simp only [hC]
   rw [if_pos ⟨hz,by omega,by omega⟩,if_neg (by omega),splice_eq _ _ _ (by omega)]
   rfl
  rw [w7]
  simp only [bS_some]
  exact ⟨trivial,trivial⟩
 ·rw [zbdZ (c:=over (over cells (off + i * sz) ((cells.drop (off + (i + 1) * sz)).take ((n - i) * sz))) (off + n * sz) (zrow zc 1)) (by simp [hol8]) (by rw [over_len (by rw [zfiZ,hz]; omega)]; omega)]
  congr 2
  have e1 : ((cells.drop off).take ((n + 1) * sz)).take (i * sz)=(cells.drop off).take (i * sz):=by rw [List.take_take]; congr 1; omega
  have e2 : ((cells.drop off).take ((n + 1) * sz)).drop ((i + 1) * sz)=(cells.drop (off + (i + 1) * sz)).take ((n - i) * sz):=by rw [List.drop_take,List.drop_drop]; congr 1; omega
  rw [e1,e2]
  have e3 : (n : Nat) * sz=i * sz + (n - i) * sz:=by rw [← Nat.add_mul]; congr 1; omega
  generalize (cells.drop (off + (i + 1) * sz)).take ((n - i) * sz)=D at *
  have h1 : ((over (over cells (off + i * sz) D) (off + n * sz) (zrow zc 1)).drop off).take (n * sz)=((over cells (off + i * sz) D).drop off).take (n * sz):=by
   refine List.ext_getElem? fun k => ?_
   rw [List.getElem?_take,List.getElem?_take]
   by_cases c : k < n * sz
   ·rw [if_pos c,if_pos c,List.getElem?_drop,List.getElem?_drop,over_get (by rw [zfiZ,hz]; omega),if_neg (by omega)]
   ·rw [if_neg c,if_neg c]
  rw [h1,e3]
  have:=(over_read cells off (i * sz) D (by omega)).1
  rw [hDl] at this
  exact this
 ·simp [hL]
 ·rw [List.getElem?_set_ne (by simp [idS] at hj; omega)]; exact hO j (by simpa [idS] using hj)
end
end Go.Proofs.YtlbilcpnjgkpjaaGreat.Av
end
section
namespace Go.Proofs.YtlbilcpnjgkpjaaGreat.Av
open Go Go.RowKit
theorem compareString_calls (a b : ByteArray) (H : AH) : ACalls Tryz.prog 114 [.lit (.string a),.lit (.string b)] H fun r H' => r = .lit (.int .i64 (Lib.compareBytes a.data.toList b.data.toList))∧H'=H:=by
 refine ACalls.of_body Tryz.func114 rfl ?_
 refine ACode.seq (ACode.region (AOps.op rfl rfl (AOps.nil ?_)))
 refine ACode.seq (ACode.region (AOps.op rfl rfl (AOps.op rfl rfl (AOps.extern rfl rfl (r:=.lit (.int .i64 (Lib.compareBytes a.data.toList b.data.toList))) ?_ (AOps.op rfl rfl (AOps.nil ?_))))))
 ·intro G vs hH hv
  have hv' : VRs G [.lit (.string a),.lit (.string b)] vs:=hv
  simp only [VRs,VR] at hv'
  obtain ⟨_,_,rfl,rfl,_,_,rfl,rfl,rfl⟩:=hv'
  refine ⟨.int .i64 (Lib.compareBytes a.data.toList b.data.toList), ?_,by simp only [VR]⟩
  rw [run_callFunc_extern Tryz.func120 (by kernel_rfl) (by kernel_rfl) (by kernel_rfl) (e:=Extern.BytealgCompare.compare) (by kernel_rfl),
   Lib.run_compareString (P:=Tryz.prog) a b G.w]
  rfl
 ·exact ACode.ret ⟨.inr rfl,_,rfl,rfl,rfl⟩
end Go.Proofs.YtlbilcpnjgkpjaaGreat.Av
end
