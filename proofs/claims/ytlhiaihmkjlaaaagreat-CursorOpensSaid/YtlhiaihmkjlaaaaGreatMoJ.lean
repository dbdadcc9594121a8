/- The law and its row. No condition. -/
import Derived.Test.YtlhiaihmkjlaaaaGreatMoI
set_option linter.unusedVariables false
set_option maxRecDepth 100000
section
namespace Go.Proofs.YtlhiaihmkjlaaaaGreat.Av
open Go
def pqg : FuncId→Bool:=inL [61,60,39,35,33,90,70,29,69,65,71,72,73,36,142,144,37,66,105,118,131,130,101,143,145,159,104,134,135,136,133,46,139,99,132,98,157,164,137,18,11,40,52,10]
def zugZ : Floats:=flOf []
def zuwZ : Nat→Option (List Bool):=kpOf []
def zjfZ (a0 : AV) (H : AH) (K : AV→AH→Prop) : Prop :=
bO (amm imx [a0,(.lit (.int .i64 0))]) fun v0 =>
bO (amm imn [v0,(.lit (.int .i64 4096))]) fun v1 =>
bO (abl [(.lit (.slice none 0 0)),(.lit (.slice none 0 0)),(.lit (.slice none 0 0)),(.lit (.slice none 0 0)),(.lit (.slice none 0 0)),(.lit (.int .i64 0)),(.lit (.int .i64 0)),(.lit (.int .i64 0)),(.lit (.bool false))] [(5,1,v1),(7,1,(.lit (.int .i64 (-1))))]) fun v2 =>
bH (anew H v2) fun v3 H4 =>
K v3 H4
theorem zupZ (a0 : AV) (H : AH) (K : AV→AH→Prop) : sFun Tryz.prog zugZ pqg none0 none0 zuwZ Tryz.f31 [a0] H K=zjfZ a0 H K:=by kernel_rfl
theorem zvfZ {a0 : AV} {H : AH} {K : AV→AH→Prop} (h : zjfZ a0 H K) : ∃ r H',K r H'∧BCall Tryz.prog 31 [a0] H r H' :=
 sFun_ok mixP Tryz.func31 (by kernel_rfl) (Eq.mpr (zupZ a0 H K) h)
def ztiZ : Floats:=flOf []
def ztmZ : Nat→Option (List Bool):=kpOf []
def zifZ (a0 a1 : AV) (H : AH) (K : AV→AH→Prop) : Prop :=
bO (amm imx [a1,(.lit (.int .i64 (-1)))]) fun v0 =>
bO (zcZ a0) fun v1 =>
bO (ashift 7 v1) fun v2 =>
bS (ast 1 H v2 v0) fun H3 =>
K (.tup []) H3
theorem ztgZ (a0 a1 : AV) (H : AH) (K : AV→AH→Prop) : sFun Tryz.prog ztiZ pqg none0 none0 ztmZ Tryz.f42 [a0,a1] H K=zifZ a0 a1 H K:=by kernel_rfl
theorem ztuZ {a0 a1 : AV} {H : AH} {K : AV→AH→Prop} (h : zifZ a0 a1 H K) : ∃ r H',K r H'∧BCall Tryz.prog 42 [a0,a1] H r H' :=
 sFun_ok mixP Tryz.func42 (by kernel_rfl) (Eq.mpr (ztgZ a0 a1 H K) h)
def zjzZ : Floats:=flOf []
def zjeZ : Nat→Option (List Bool):=kpOf [(3,mk 35 0 [0]),(4,mk 35 0 [0,22]),(1,mk 35 0 [0])]
def zdsZ (p : List Bool) (n : Nat) : List AV→AH→Kf→Prop:=sCode Tryz.prog zjzZ pqg none0 none0 zjeZ (sub p (bodyOf Tryz.f138)) n
def zdbZ (x0 : AV) (H : AH) (K : AV→AH→Prop) : Prop:=jn (mk 35 0 [0]) (zdsZ [true,true,true] 5) [x0] H (kRet Tryz.prog Tryz.f138.results.toList K)
def zjhZ (x0 x22 : AV) (H : AH) (K : AV→AH→Prop) : Prop:=jn (mk 35 0 [0,22]) (zdsZ [true,true,false,true] 5) [x0,x22] H (kSeq (cutC (mk 35 0 [0]) (zdsZ [true,true,true] 5)) (kRet Tryz.prog Tryz.f138.results.toList K))
def zdgZ (x0 : AV) (H : AH) (K : AV→AH→Prop) : Prop:=jn (mk 35 0 [0]) (zdsZ [true,true] 3) [x0] H (kRet Tryz.prog Tryz.f138.results.toList K)
def zhtZ (x0 : AV) (H : AH) (K : AV→AH→Prop) : Prop :=
bO (zcZ x0) fun v0 =>
bO (ashift 8 v0) fun v1 =>
bO (ald false 1 H v1) fun v2 =>
bO (aun .not v2) fun v3 =>
K v3 H
theorem zonZ (x0 : AV) (H : AH) (K : AV→AH→Prop) : zdbZ x0 H K=zhtZ x0 H K:=(jn_eq _ _ _ _ _).trans (by kernel_rfl)
def zejZ (x0 x22 : AV) (H : AH) (K : AV→AH→Prop) : Prop :=
bB x22 fun t0 => bI t0 (
bO (zcZ x0) fun v1 =>
bO (ashift 7 v1) fun v2 =>
bO (ald false 1 H v2) fun v3 =>
bO (abI .sub v3 (.lit (.int .i64 1))) fun v4 =>
bO (zcZ x0) fun v5 =>
bO (ashift 7 v5) fun v6 =>
bS (ast 1 H v6 v4) fun H7 =>
zdbZ x0 H7 K)
 (zdbZ x0 H K)
theorem zgsZ (x0 x22 : AV) (H : AH) (K : AV→AH→Prop) : zjhZ x0 x22 H K=zejZ x0 x22 H K:=(jn_eq _ _ _ _ _).trans (by kernel_rfl)
def zhnZ (x0 : AV) (H : AH) (K : AV→AH→Prop) : Prop :=
bO (zcZ x0) fun v0 =>
bO (ashift 8 v0) fun v1 =>
bO (ald false 1 H v1) fun v2 =>
bO (aun .not v2) fun v3 =>
bG v3 true fun w4 =>
gO w4 (some x0) fun v5 =>
bG v3 true fun w6 =>
gO w6 (zcZ v5) fun v7 =>
bG v3 true fun w8 =>
gO w8 (ashift 7 v7) fun v9 =>
bG v3 true fun w10 =>
gO w10 (ald false 1 H v9) fun v11 =>
bG v3 true fun w12 =>
gO w12 (abI .gtr v11 (.lit (.int .i64 0))) fun v13 =>
bO (apick v3 v13 (.lit (.bool false))) fun v14 =>
zjhZ x0 v14 H K
theorem zomZ (x0 : AV) (H : AH) (K : AV→AH→Prop) : zdgZ x0 H K=zhnZ x0 H K:=(jn_eq _ _ _ _ _).trans (by kernel_rfl)
def zgwZ (a0 : AV) (H : AH) (K : AV→AH→Prop) : Prop :=
bO (zcZ a0) fun v0 =>
bO (ashift 7 v0) fun v1 =>
bO (ald false 1 H v1) fun v2 =>
bO (abI .eql v2 (.lit (.int .i64 0))) fun v3 =>
bB v3 fun t4 => bI t4 (
bO (zcZ a0) fun v5 =>
bO (ashift 8 v5) fun v6 =>
bS (ast 1 H v6 (.lit (.bool true))) fun H7 =>
zdgZ a0 H7 K)
 (zdgZ a0 H K)
theorem zseZ (a0 : AV) (H : AH) (K : AV→AH→Prop) : sFun Tryz.prog zjzZ pqg none0 none0 zjeZ Tryz.f138 [a0] H K=zgwZ a0 H K:=by kernel_rfl
theorem zsjZ {a0 : AV} {H : AH} {K : AV→AH→Prop} (h : zgwZ a0 H K) : ∃ r H',K r H'∧BCall Tryz.prog 138 [a0] H r H' :=
 sFun_ok mixP Tryz.func138 (by kernel_rfl) (Eq.mpr (zseZ a0 H K) h)
def zuiZ : Floats:=flOf []
def zueZ : Nat→Option (List Bool):=kpOf []
def zfrZ (a0 a1 : AV) (H : AH) (K : AV→AH→Prop) : Prop :=
bH (anew H a1) fun v0 H1 =>
bC (BCall Tryz.prog 138 [a0] H1) fun v2 H3 =>
bO (aun .not v2) fun v4 =>
bB v4 fun t5 => bI t5 (
K (.lit (.int .i64 8)) H3)
 (bO (zcZ a0) fun v6 =>
bO (ashift 0 v6) fun v7 =>
bO (ald true 2 H3 v7) fun v8 =>
bO (ald true 8 H3 v0) fun v9 =>
bP (BPure Tryz.prog 139 [v8,v9]) fun v10 =>
bO (zcZ a0) fun v11 =>
bO (ashift 0 v11) fun v12 =>
bS (ast 2 H3 v12 v10) fun H13 =>
bO (ashift 7 v0) fun v14 =>
bO (ald false 1 H13 v14) fun v15 =>
bH (aap 1 1 H13 (.lit (.slice none 0 0)) v15) fun v16 H17 =>
bO (ashift 7 v0) fun v18 =>
bS (ast 1 H17 v18 v16) fun H19 =>
bO (zcZ a0) fun v20 =>
bO (ashift 4 v20) fun v21 =>
bO (ald false 1 H19 v21) fun v22 =>
bO (ald true 8 H19 v0) fun v23 =>
bO (absf 8 1 (zrow [(.lit (.int .i64 0)),(.lit (.int .i64 0)),(.lit (.int .i64 0)),(.lit (.int .i64 0)),(.lit (.bool false)),(.lit (.string ⟨#[]⟩)),(.lit (.string ⟨#[]⟩)),(.lit (.slice none 0 0))] 1) [(0,8,v23)]) fun v24 =>
bH (aap 8 96 H19 v22 v24) fun v25 H26 =>
bO (zcZ a0) fun v27 =>
bO (ashift 4 v27) fun v28 =>
bS (ast 1 H26 v28 v25) fun H29 =>
K (.lit (.int .i64 0)) H29)
theorem zuqZ (a0 a1 : AV) (H : AH) (K : AV→AH→Prop) : sFun Tryz.prog zuiZ pqg none0 none0 zueZ Tryz.f100 [a0,a1] H K=zfrZ a0 a1 H K:=by kernel_rfl
theorem zlzZ {a0 a1 : AV} {H : AH} {K : AV→AH→Prop} (h : zfrZ a0 a1 H K) : ∃ r H',K r H'∧BCall Tryz.prog 100 [a0,a1] H r H' :=
 sFun_ok mixP Tryz.func100 (by kernel_rfl) (Eq.mpr (zuqZ a0 a1 H K) h)
def zssZ : Floats:=flOf []
def zsaZ : Nat→Option (List Bool):=kpOf []
def zhfZ (a0 a1 a2 : AV) (H : AH) (K : AV→AH→Prop) : Prop :=
bO (zcZ a0) fun v0 =>
bO (ashift 8 v0) fun v1 =>
bO (ald false 1 H v1) fun v2 =>
bB v2 fun t3 => bI t3 (
K (.tup [(.lit (.int .i64 0)),(.lit (.int .i64 8))]) H)
 (bP (PCall Tryz.prog 98 [a1] H) fun v4 =>
bO (aun .not v4) fun v5 =>
bB v5 fun t6 => bI t6 (
K (.tup [(.lit (.int .i64 0)),(.lit (.int .i64 5))]) H)
 (bO (zcZ a0) fun v7 =>
bO (ashift 0 v7) fun v8 =>
bO (ald true 2 H v8) fun v9 =>
bP (PCall Tryz.prog 99 [v9,a1] H) fun v10 =>
bO (zkZ v10 0) fun v11 =>
bO (zkZ v10 1) fun v12 =>
bB v12 fun t13 => bI t13 (
K (.tup [v11,(.lit (.int .i64 0))]) H)
 (bO (aun .not a2) fun v14 =>
bB v14 fun t15 => bI t15 (
K (.tup [(.lit (.int .i64 0)),(.lit (.int .i64 3))]) H)
 (bO (zcZ a0) fun v16 =>
bO (ashift 0 v16) fun v17 =>
bO (ashift 0 v17) fun v18 =>
bO (ald false 1 H v18) fun v19 =>
bO (alnS v19) fun v20 =>
bO (abI .geq v20 (.lit (.int .i64 16))) fun v21 =>
bB v21 fun t22 => bI t22 (
K (.tup [(.lit (.int .i64 0)),(.lit (.int .i64 4))]) H)
 (bO (zcZ a0) fun v23 =>
bO (ashift 6 v23) fun v24 =>
bO (ald false 1 H v24) fun v25 =>
bO (abI .add v25 (.lit (.int .i64 1))) fun v26 =>
bO (abl [(.lit (.int .i64 0)),(.lit (.int .i64 0)),(.lit (.int .i64 0)),(.lit (.int .i64 0)),(.lit (.bool false)),(.lit (.string ⟨#[]⟩)),(.lit (.string ⟨#[]⟩)),(.lit (.slice none 0 0))] [(0,1,(.lit (.int .i64 1))),(5,1,a1),(1,1,v26)]) fun v27 =>
bC (BCall Tryz.prog 100 [a0,v27] H) fun v28 H29 =>
bO (abI .neq v28 (.lit (.int .i64 0))) fun v30 =>
bB v30 fun t31 => bI t31 (
K (.tup [(.lit (.int .i64 0)),v28]) H29)
 (bO (zcZ a0) fun v32 =>
bO (ashift 6 v32) fun v33 =>
bO (ald false 1 H29 v33) fun v34 =>
bO (abI .add v34 (.lit (.int .i64 1))) fun v35 =>
bO (zcZ a0) fun v36 =>
bO (ashift 6 v36) fun v37 =>
bS (ast 1 H29 v37 v35) fun H38 =>
bO (zcZ a0) fun v39 =>
bO (ashift 6 v39) fun v40 =>
bO (ald false 1 H38 v40) fun v41 =>
K (.tup [v41,(.lit (.int .i64 0))]) H38))))))
theorem zslZ (a0 a1 a2 : AV) (H : AH) (K : AV→AH→Prop) : sFun Tryz.prog zssZ pqg none0 none0 zsaZ Tryz.f41 [a0,a1,a2] H K=zhfZ a0 a1 a2 H K:=by kernel_rfl
theorem zrsZ {a0 a1 a2 : AV} {H : AH} {K : AV→AH→Prop} (h : zhfZ a0 a1 a2 H K) : ∃ r H',K r H'∧BCall Tryz.prog 41 [a0,a1,a2] H r H' :=
 sFun_ok mixP Tryz.func41 (by kernel_rfl) (Eq.mpr (zslZ a0 a1 a2 H K) h)
def zilZ : Floats:=flOf [(13,[(33,some 22)])]
def zinZ : Nat→Option (List Bool):=kpOf [(14,mk 83 0 [7,8,9,10,11,12]),(13,mk 83 0 [0,1,7,8,9,10]),(10,mk 83 0 [0,1,7,8])]
def zffZ (p : List Bool) (n : Nat) : List AV→AH→Kf→Prop:=sCode Tryz.prog zilZ pqg none0 none0 zinZ (sub p (bodyOf Tryz.f7)) n
def zhsZ (x7 x8 x9 x10 x11 x12 : AV) (H : AH) (K : AV→AH→Prop) : Prop:=jn (mk 83 0 [7,8,9,10,11,12]) (zffZ [true,true,true,true,true,true,true,true,true] 15) [x7,x8,x9,x10,x11,x12] H (kRet Tryz.prog Tryz.f7.results.toList K)
def zhmZ (x0 x1 x7 x8 x9 x10 : AV) (H : AH) (K : AV→AH→Prop) : Prop:=jn (mk 83 0 [0,1,7,8,9,10]) (zffZ [true,true,true,true,true,true,true,true] 14) [x0,x1,x7,x8,x9,x10] H (kRet Tryz.prog Tryz.f7.results.toList K)
def zcnZ (x0 x1 x7 x8 : AV) (H : AH) (K : AV→AH→Prop) : Prop:=jn (mk 83 0 [0,1,7,8]) (zffZ [true,true,true,true,true,true,true] 13) [x0,x1,x7,x8] H (kRet Tryz.prog Tryz.f7.results.toList K)
def zdlZ (x7 x8 x9 x10 x11 x12 : AV) (H : AH) (K : AV→AH→Prop) : Prop :=
bO (abI .eql x10 x12) fun v0 =>
bG v0 true fun w1 =>
gO w1 (some x9) fun v2 =>
bG v0 true fun w3 =>
gO w3 (abN .eql nilP v2 (.lit (.pointer none))) fun v4 =>
bG v0 true fun w5 =>
gO w5 (some x10) fun v6 =>
bG v0 true fun w7 =>
gO w7 (abI .neq v6 (.lit (.int .i64 0))) fun v8 =>
bG v0 true fun w9 =>
gO w9 (abB .eql v4 v8) fun v10 =>
bO (apick v0 v10 (.lit (.bool false))) fun v11 =>
bG v11 true fun w12 =>
gO w12 (some x9) fun v13 =>
bG v11 true fun w14 =>
gO w14 (abN .eql nilP v13 (.lit (.pointer none))) fun v15 =>
bG v11 true fun w16 =>
gO w16 (some v15) fun v17 =>
bG v17 false fun w18 =>
gO w18 (some x9) fun v19 =>
bG v17 false fun w20 =>
gC w20 (BCall Tryz.prog 44 [v19] H) H fun v21 H22 =>
bG v17 false fun w23 =>
gO w23 (some x11) fun v24 =>
bG v17 false fun w25 =>
gO w25 (abI .eql v21 v24) fun v26 =>
bG v17 false fun w27 =>
gO w27 (some v26) fun v28 =>
bG v28 true fun w29 =>
gO w29 (some x9) fun v30 =>
bG v28 true fun w31 =>
gO w31 (zcZ v30) fun v32 =>
bG v28 true fun w33 =>
gO w33 (ashift 0 v32) fun v34 =>
bG v28 true fun w35 =>
gC w35 (BCall Tryz.prog 45 [v34] H22) H22 fun v36 H37 =>
bG v28 true fun w38 =>
gO w38 (abI .eql v36 (.lit (.int .i64 0))) fun v39 =>
bG v17 false fun w40 =>
gO w40 (apick v28 v39 (.lit (.bool false))) fun v41 =>
bG v11 true fun w42 =>
gO w42 (apick v17 (.lit (.bool true)) v41) fun v43 =>
bO (apick v11 v43 (.lit (.bool false))) fun v44 =>
bG v44 true fun w45 =>
gO w45 (some x7) fun v46 =>
bG v44 true fun w47 =>
gC w47 (BCall Tryz.prog 15 [v46] H37) H37 fun v48 H49 =>
bG v44 true fun w50 =>
gO w50 (some x8) fun v51 =>
bG v44 true fun w52 =>
gO w52 (zcZ v51) fun v53 =>
bG v44 true fun w54 =>
gO w54 (ashift 0 v53) fun v55 =>
bG v44 true fun w56 =>
gO w56 (ald true 2 H49 v55) fun v57 =>
bG v44 true fun w58 =>
gP w58 (BPure Tryz.prog 46 [v48,v57]) fun v59 =>
bO (apick v44 v59 (.lit (.bool false))) fun v60 =>
bG v60 true fun w61 =>
gP w61 (BPure Tryz.prog 40 []) fun v62 =>
bO (apick v60 v62 (.lit (.bool false))) fun v63 =>
(bG v44 true fun w => bI w (ald true 2 H37 v55=some v57) True) ∧
K v63 H49
theorem zfsZ (x7 x8 x9 x10 x11 x12 : AV) (H : AH) (K : AV→AH→Prop) : zhsZ x7 x8 x9 x10 x11 x12 H K=zdlZ x7 x8 x9 x10 x11 x12 H K:=(jn_eq _ _ _ _ _).trans (by kernel_rfl)
def zdnZ (x0 x1 x7 x8 x9 x10 : AV) (H : AH) (K : AV→AH→Prop) : Prop :=
bC (BCall Tryz.prog 41 [x8,x0,x1] H) fun v0 H1 =>
bO (zkZ v0 0) fun v2 =>
bO (zkZ v0 1) fun v3 =>
zhsZ x7 x8 x9 x10 v2 v3 H1 K
theorem zfxZ (x0 x1 x7 x8 x9 x10 : AV) (H : AH) (K : AV→AH→Prop) : zhmZ x0 x1 x7 x8 x9 x10 H K=zdnZ x0 x1 x7 x8 x9 x10 H K:=(jn_eq _ _ _ _ _).trans (by kernel_rfl)
def zgeZ (x0 x1 x7 x8 : AV) (H : AH) (K : AV→AH→Prop) : Prop :=
bC (BCall Tryz.prog 43 [x7,x0,x1] H) fun v0 H1 =>
bO (zkZ v0 0) fun v2 =>
bO (zkZ v0 1) fun v3 =>
zhmZ x0 x1 x7 x8 v2 v3 H1 K
theorem zncZ (x0 x1 x7 x8 : AV) (H : AH) (K : AV→AH→Prop) : zcnZ x0 x1 x7 x8 H K=zgeZ x0 x1 x7 x8 H K:=(jn_eq _ _ _ _ _).trans (by kernel_rfl)
def zghZ (a0 a1 a2 : AV) (H : AH) (K : AV→AH→Prop) : Prop :=
bO (alnT a0) fun v0 =>
bO (abI .gtr v0 (.lit (.int .i64 60))) fun v1 =>
bB v1 fun t2 => bI t2 (
bP (PCall Tryz.prog 40 [] H) fun v3 =>
K v3 H)
 (bC (BCall Tryz.prog 30 [(.lit (.int .i64 4))] H) fun v4 H5 =>
bC (BCall Tryz.prog 31 [(.lit (.int .i64 4))] H5) fun v6 H7 =>
bO (abN .eql nilP v4 (.lit (.pointer none))) fun v8 =>
bB v8 fun t9 => bI t9 (
K (.lit (.bool false)) H7)
 (bC (BCall Tryz.prog 19 [v4,(.lit (.string ⟨#[98]⟩)),(.lit (.bool true))] H7) fun v10 H11 =>
bC (BCall Tryz.prog 41 [v6,(.lit (.string ⟨#[98]⟩)),(.lit (.bool true))] H11) fun v12 H13 =>
bB a2 fun t14 => bI t14 (
bC (BCall Tryz.prog 13 [v4,(.lit (.int .i64 0))] H13) fun v15 H16 =>
bC (BCall Tryz.prog 42 [v6,(.lit (.int .i64 0))] H16) fun v17 H18 =>
zcnZ a0 a1 v4 v6 H18 K)
 (zcnZ a0 a1 v4 v6 H13 K)))
theorem zrjZ (a0 a1 a2 : AV) (H : AH) (K : AV→AH→Prop) : sFun Tryz.prog zilZ pqg none0 none0 zinZ Tryz.f7 [a0,a1,a2] H K=zghZ a0 a1 a2 H K:=by kernel_rfl
theorem zqwZ {a0 a1 a2 : AV} {H : AH} {K : AV→AH→Prop} (h : zghZ a0 a1 a2 H K) : ∃ r H',K r H'∧BCall Tryz.prog 7 [a0,a1,a2] H r H' :=
 sFun_ok mixP Tryz.func7 (by kernel_rfl) (Eq.mpr (zrjZ a0 a1 a2 H K) h)
end Go.Proofs.YtlhiaihmkjlaaaaGreat.Av
end
