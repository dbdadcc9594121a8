/- The law and its row. No condition. -/
import Derived.Test.YtbppnhenlboefaaGreatMfD
set_option linter.unusedVariables false
set_option maxRecDepth 100000
section
namespace Go.Proofs.YtbppnhenlboefaaGreat.Av
open Go Go.Proofs.Tryz
def Mb:FuncId→Bool:=TR [188,54,142,148,145,22,170,50,172,141,171,173,94,140,42,95,20,13,52,102,75,82,176,40,135,70,134,139,149,24,166,174,138,207,57,58,59,107,109,92,168]
def pN:FuncId→Bool:=TR [210,212]
def QM (a0:AV)(H:AH)(K:KT):Prop:=
 bH (A9 H a0) λv0 H1=>
 bH (A9 H1 (.agg [(I 0),Ad])) λv2 H3=>
 bO (Ac 0 v0) λv4=>
 bO (Ar false 1 H3 v4) λv5=>
 bO (Ac 1 v0) λv6=>
 bO (Ar false 1 H3 v6) λv7=>
 bP (BPure prog 95 [v7]) λv8=>
 bO (FD [(I 0),Ad] [(0,1,v5),(1,1,v8)]) λv9=>
 bS (AR 2 H3 v2 v9) λH10=>
 bO (Ar true 2 H10 v2) λv11=>
 K v11 H10
theorem TM {a0:AV}{H:AH}{K:KT}(h:QM a0 H K):Cr 42 [a0] H K:=
 fok A6 Mb BA func42 h
def Ve (a0 a1:AV)(H:AH)(K:KT):Prop:=
 bH (A9 H a0) λv0 H1=>
 bO (Ar true 2 H1 v0) λv2=>
 bP (PCall prog 40 [v2] H1) λv3=>
 bO (EX .not v3) λv4=>
 bB v4 λt5=>bI t5 (
 K (.tup [(I 0),(B false)]) H1)
 (bO (Ar true 2 H1 v0) λv6=>
 bC (BCall prog 51 [v6,a1] H1) λv7 H8=>
 bO (Ai v7 0) λv9=>
 bO (Ai v7 1) λv10=>
 bO (EX .not v10) λv11=>
 bB v11 λt12=>bI t12 (
 K (.tup [(I 0),(B false)]) H8)
 (bO (Ac 0 v0) λv13=>
 bO (Ar false 1 H8 v13) λv14=>
 bO (Bh 2 v14 v9) λv15=>
 bO (Ac 1 v15) λv16=>
 bO (Ar false 1 H8 v16) λv17=>
 K (.tup [v17,(B true)]) H8))
theorem Wd {a0 a1:AV}{H:AH}{K:KT}(h:Ve a0 a1 H K):Cr 20 [a0,a1] H K:=
 fok A6 Mb BA func20 h
def Su (a0 a1:AV)(H:AH)(K:KT):Prop:=
 bH (A9 H a0) λv0 H1=>
 bH (A9 H1 (.agg [(I 0),Ad])) λv2 H3=>
 bO (Ar true 2 H3 v0) λv4=>
 bP (PCall prog 40 [v4] H3) λv5=>
 bO (EX .not v5) λv6=>
 bB v6 λt7=>bI t7 (
 bO (FD [(I 0),Ad] []) λv8=>
 bS (AR 2 H3 v2 v8) λH9=>
 bO (Ar true 2 H9 v2) λv10=>
 K (.tup [v10,(B false)]) H9)
 (bO (Ar true 2 H3 v0) λv11=>
 bC (BCall prog 41 [v11,a1] H3) λv12 H13=>
 bO (Ai v12 0) λv14=>
 bO (Ai v12 1) λv15=>
 bO (EX .not v15) λv16=>
 bB v16 λt17=>bI t17 (
 bO (FD [(I 0),Ad] []) λv18=>
 bS (AR 2 H13 v2 v18) λH19=>
 bO (Ar true 2 H19 v2) λv20=>
 K (.tup [v20,(B false)]) H19)
 (bO (Ac 1 v0) λv21=>
 bO (Ar false 1 H13 v21) λv22=>
 bO (Bh 3 v22 v14) λv23=>
 bO (Ac 1 v23) λv24=>
 bO (Ar true 2 H13 v24) λv25=>
 bP (PCall prog 42 [v25] H13) λv26=>
 bS (AR 2 H13 v2 v26) λH27=>
 bO (Ar true 2 H27 v2) λv28=>
 K (.tup [v28,(B true)]) H27))
theorem QG {a0 a1:AV}{H:AH}{K:KT}(h:Su a0 a1 H K):Cr 13 [a0,a1] H K:=
 fok A6 Mb BA func13 h
def Pm:Nat→Option (List Bool):=Ci [(7,mk 24 0 [3,10,11,12])]
def QK (p:List Bool)(n:Nat):List AV→AH→Kf→Prop:=AG prog A6 Mb Ap Ap Pm (sub p (AJ f52)) n
def Pl (x3 x10 x11 x12:AV)(H:AH)(K:KT):Prop:=lp (mk 24 0 [3,10,11,12]) (QK [tT,tT,tT,fF,tT,fF,fF] 8) [x3,x10,x11,x12] H (Bl 0 (Bn (QK [tT,tT,tT,tT] 12) (Bc prog f52.results.toList K)))
def Mx (R7:RT)(x3 x10 x11 x12:AV)(H:AH)(K:KT):Prop:=
 bO (Aq .lss x12 x11) λv0=>
 bB v0 λt1=>bI t1 (
 bO (Bh 3 x10 x12) λv2=>
 bO (Ar true 3 H v2) λv3=>
 bH (A9 H (.agg [(I 0),(I 0),Ad])) λv4 H5=>
 bS (AR 3 H5 v4 v3) λH6=>
 bO (Ac 1 v4) λv7=>
 bO (Ac 1 v7) λv8=>
 bO (Ar false 1 H6 v8) λv9=>
 bO (Bf v9) λv10=>
 bO (Aq .add x3 v10) λv11=>
 bO (Aq .add x12 (I 1)) λv12=>
 R7 [v11,x10,x11,v12] H6)
 (K x3 H)
theorem PG {K:KT}:Xf (λR x3 x10 x11 x12 H=>Mx R x3 x10 x11 x12 H K) (λx3 x10 x11 x12 H=>Pl x3 x10 x11 x12 H K):=MD (A4 _ _) (λ_ _ _ _ _ _=>by kernel_rfl)
def Vf (a0:AV)(H:AH)(K:KT):Prop:=
 bH (A9 H a0) λv0 H1=>
 bO (Ar true 2 H1 v0) λv2=>
 bP (PCall prog 40 [v2] H1) λv3=>
 bO (EX .not v3) λv4=>
 bB v4 λt5=>bI t5 (
 K (I 0) H1)
 (bO (Ac 1 v0) λv6=>
 bO (Ar false 1 H1 v6) λv7=>
 bO (Bf v7) λv8=>
 Pl (I 0) v7 v8 (I 0) H1 K)
theorem We {a0:AV}{H:AH}{K:KT}(h:Vf a0 H K):Cr 52 [a0] H K:=
 fok A6 Mb Pm func52 h
def Lb:Nat→Option (List Bool):=Ci [(6,mk 27 0 [0,17,18])]
def Mw (p:List Bool)(n:Nat):List AV→AH→Kf→Prop:=AG prog A6 Mb Ap Ap Lb (sub p (AJ f102)) n
def Ho (x0 x17 x18:AV)(H:AH)(K:KT):Prop:=lp (mk 27 0 [0,17,18]) (Mw [tT,tT,fF,tT,fF,fF] 7) [x0,x17,x18] H (Bl 0 (Bn (Mw [tT,tT,tT] 13) (Bc prog f102.results.toList K)))
def Jo (R6:RT)(x0 x17 x18:AV)(H:AH)(K:KT):Prop:=
 bO (Aq .lss x18 x17) λv0=>
 bB v0 λt1=>bI t1 (
 bO (TA x0 x18) λv2=>
 bP (PCall prog 166 [v2] H) λv3=>
 bO (EX .not v3) λv4=>
 bB v4 λt5=>bI t5 (
 K (B false) H)
 (bO (Aq .add x18 (I 1)) λv6=>
 R6 [x0,x17,v6] H))
 (K (B true) H)
theorem MC {K:KT}:uO (λR x0 x17 x18 H=>Jo R x0 x17 x18 H K) (λx0 x17 x18 H=>Ho x0 x17 x18 H K):=lL (A4 _ _) (λ_ _ _ _ _=>by kernel_rfl)
def Pk (a0:AV)(H:AH)(K:KT):Prop:=
 bO (SL .eql a0 (.lit (.string ⟨#[]⟩))) λv0=>
 bG v0 false λw1=>
 gO w1 (some a0) λv2=>
 bG v0 false λw3=>
 gO w3 (Ge v2) λv4=>
 bG v0 false λw5=>
 gO w5 (Aq .gtr v4 (I 20)) λv6=>
 bO (A7 v0 (B true) v6) λv7=>
 bG v7 false λw8=>
 gO w8 (some a0) λv9=>
 bG v7 false λw10=>
 gO w10 (TA v9 (I 0)) λv11=>
 bG v7 false λw12=>
 gO w12 (Aq .eql v11 (.lit (.int .u8 45))) λv13=>
 bO (A7 v7 (B true) v13) λv14=>
 bB v14 λt15=>bI t15 (
 K (B false) H)
 (bO (Ge a0) λv16=>
 Ho a0 v16 (I 0) H K)
theorem Sv {a0:AV}{H:AH}{K:KT}(h:Pk a0 H K):Cr 102 [a0] H K:=
 fok A6 Mb Lb func102 h
def N5:Nat→Option (List Bool):=Ci [(13,mk 37 0 [2,3,4,31]),(12,mk 37 0 [2,3,4,12,24]),(8,mk 37 0 [2,3,4,12,17]),(5,mk 37 0 [2,4])]
def D7 (p:List Bool)(n:Nat):List AV→AH→Kf→Prop:=AG prog A6 Mb Ap Ap N5 (sub p (AJ f82)) n
def Di (x2 x4:AV)(H:AH)(K:KT):Prop:=jn (mk 37 0 [2,4]) (D7 [tT,tT,tT,tT] 14) [x2,x4] H (Bc prog f82.results.toList K)
def Mu (x2 x3 x4 x31:AV)(H:AH)(K:KT):Prop:=jn (mk 37 0 [2,3,4,31]) (D7 [tT,tT,tT,fF,tT,fF,tT,tT,tT,tT,tT,tT,tT] 14) [x2,x3,x4,x31] H (Bl 0 (Bn (LQ (mk 37 0 [2,4]) (D7 [tT,tT,tT,tT] 14)) (Bc prog f82.results.toList K)))
def Mt (x2 x3 x4 x12 x24:AV)(H:AH)(K:KT):Prop:=jn (mk 37 0 [2,3,4,12,24]) (D7 [tT,tT,tT,fF,tT,fF,tT,tT,tT,tT,tT] 13) [x2,x3,x4,x12,x24] H (Bl 0 (Bn (LQ (mk 37 0 [2,4]) (D7 [tT,tT,tT,tT] 14)) (Bc prog f82.results.toList K)))
def DM (x2 x3 x4 x12 x17:AV)(H:AH)(K:KT):Prop:=jn (mk 37 0 [2,3,4,12,17]) (D7 [tT,tT,tT,fF,tT,fF,tT,tT,tT] 12) [x2,x3,x4,x12,x17] H (Bl 0 (Bn (LQ (mk 37 0 [2,4]) (D7 [tT,tT,tT,tT] 14)) (Bc prog f82.results.toList K)))
def Hn (x2 x4:AV)(H:AH)(K:KT):Prop:=
 bO (Ar true 2 H x2) λv0=>
 bS (AR 2 H x4 v0) λH1=>
 bO (Ar true 2 H1 x4) λv2=>
 K v2 H1
theorem Ka (x2 x4:AV)(H:AH)(K:KT):Di x2 x4 H K=Hn x2 x4 H K:=(Cx _ _ _ _ _).trans (by kernel_rfl)
def JZ (x2 x3 x4 x31:AV)(H:AH)(K:KT):Prop:=
 bB x31 λt0=>bI t0 (
 bO (Ac 5 x3) λv1=>
 bO (Ar false 1 H v1) λv2=>
 bC (BCall prog 155 [x2,v2] H) λv3 H4=>
 Di x2 x4 H4 K)
 (Di x2 x4 H K)
theorem PE (x2 x3 x4 x31:AV)(H:AH)(K:KT):Mu x2 x3 x4 x31 H K=JZ x2 x3 x4 x31 H K:=(Cx _ _ _ _ _).trans (by kernel_rfl)
def JY (x2 x3 x4 x12 x24:AV)(H:AH)(K:KT):Prop:=
 bB x24 λt0=>bI t0 (
 bO (Ac 5 x3) λv1=>
 bO (Ar false 1 H v1) λv2=>
 bO (Ac 6 x3) λv3=>
 bO (Ar false 1 H v3) λv4=>
 bC (BCall prog 154 [x2,v2,v4] H) λv5 H6=>
 Di x2 x4 H6 K)
 (bO (Aq .eql x12 (I 7)) λv7=>
 Mu x2 x3 x4 v7 H K)
theorem PD (x2 x3 x4 x12 x24:AV)(H:AH)(K:KT):Mt x2 x3 x4 x12 x24 H K=JY x2 x3 x4 x12 x24 H K:=(Cx _ _ _ _ _).trans (by kernel_rfl)
def La (x2 x3 x4 x12 x17:AV)(H:AH)(K:KT):Prop:=
 bB x17 λt0=>bI t0 (
 bO (Ar true 8 H x3) λv1=>
 bC (BCall prog 153 [x2,v1] H) λv2 H3=>
 Di x2 x4 H3 K)
 (bO (Aq .eql x12 (I 6)) λv4=>
 Mt x2 x3 x4 x12 v4 H K)
theorem QE (x2 x3 x4 x12 x17:AV)(H:AH)(K:KT):DM x2 x3 x4 x12 x17 H K=La x2 x3 x4 x12 x17 H K:=(Cx _ _ _ _ _).trans (by kernel_rfl)
def Th (a0 a1:AV)(H:AH)(K:KT):Prop:=
 bH (A9 H a0) λv0 H1=>
 bH (A9 H1 a1) λv2 H3=>
 bH (A9 H3 (.agg [Ad,Ad])) λv4 H5=>
 bO (Ar true 2 H5 v0) λv6=>
 bC (BCall prog 43 [v6] H5) λv7 H8=>
 bS (AR 2 H8 v0 v7) λH9=>
 bO (Ar true 2 H9 v0) λv10=>
 bP (PCall prog 40 [v10] H9) λv11=>
 bO (EX .not v11) λv12=>
 bB v12 λt13=>bI t13 (
 bO (Ar true 2 H9 v0) λv14=>
 bS (AR 2 H9 v4 v14) λH15=>
 bO (Ar true 2 H15 v4) λv16=>
 K v16 H15)
 (bO (Ac 0 v2) λv17=>
 bO (Ar false 1 H9 v17) λv18=>
 bO (Aq .eql v18 (I 1)) λv19=>
 bB v19 λt20=>bI t20 (
 bO (Ar true 8 H9 v2) λv21=>
 bC (BCall prog 152 [v0,v21] H9) λv22 H23=>
 Di v0 v4 H23 K)
 (bO (Aq .eql v18 (I 2)) λv24=>
 bB v24 λt25=>bI t25 (
 DM v0 v2 v4 v18 v24 H9 K)
 (bO (Aq .eql v18 (I 3)) λv26=>
 bB v26 λt27=>bI t27 (
 DM v0 v2 v4 v18 v26 H9 K)
 (bO (Aq .eql v18 (I 4)) λv28=>
 bB v28 λt29=>bI t29 (
 DM v0 v2 v4 v18 v28 H9 K)
 (bO (Aq .eql v18 (I 5)) λv30=>
 DM v0 v2 v4 v18 v30 H9 K)))))
theorem Vc {a0 a1:AV}{H:AH}{K:KT}(h:Th a0 a1 H K):Cr 82 [a0,a1] H K:=
 fok A6 Mb N5 func82 h
def QJ:Nat→Option (List Bool):=Ci [(8,mk 51 0 [3,5,25,26,27])]
def Tj (p:List Bool)(n:Nat):List AV→AH→Kf→Prop:=AG prog A6 Mb Ap Ap QJ (sub p (AJ f40)) n
def QH (x3 x5 x25 x26 x27:AV)(H:AH)(K:KT):Prop:=lp (mk 51 0 [3,5,25,26,27]) (Tj [tT,tT,tT,tT,fF,tT,fF,fF] 9) [x3,x5,x25,x26,x27] H (Bl 0 (Bn (Tj [tT,tT,tT,tT,tT] 16) (Bc prog f40.results.toList K)))
def N6 (R8:RT)(x3 x5 x25 x26 x27:AV)(H:AH)(K:KT):Prop:=
 bO (Aq .lss x27 x26) λv0=>
 bB v0 λt1=>bI t1 (
 bO (Bh 3 x25 x27) λv2=>
 bO (Ar true 3 H v2) λv3=>
 bH (A9 H (.agg [(I 0),(I 0),Ad])) λv4 H5=>
 bS (AR 3 H5 v4 v3) λH6=>
 bO (Ac 0 v4) λv7=>
 bO (Ar false 1 H6 v7) λv8=>
 bO (Aq .leq v8 x5) λv9=>
 bG v9 false λw10=>
 gO w10 (some x3) λv11=>
 bG v9 false λw12=>
 gO w12 (Ac 0 v4) λv13=>
 bG v9 false λw14=>
 gO w14 (Ar false 1 H6 v13) λv15=>
 bG v9 false λw16=>
 gO w16 (nJ (.int .i64) (.bool false) H6 v11 v15 false) λv17=>
 bG v9 false λw18=>
 gO w18 (EX .not v17) λv19=>
 bO (A7 v9 (B true) v19) λv20=>
 bG v20 false λw21=>
 gO w21 (Ac 1 v4) λv22=>
 bG v20 false λw23=>
 gO w23 (Ar true 2 H6 v22) λv24=>
 bG v20 false λw25=>
 gP w25 (PCall prog 54 [v24] H6) λv26=>
 bG v20 false λw27=>
 gO w27 (EX .not v26) λv28=>
 bO (A7 v20 (B true) v28) λv29=>
 bB v29 λt30=>bI t30 (
 K (B false) H6)
 (bO (Ac 0 v4) λv31=>
 bO (Ar false 1 H6 v31) λv32=>
 bO (Aq .add x27 (I 1)) λv33=>
 R8 [x3,v32,x25,x26,v33] H6))
 (K (B true) H)
theorem QI {K:KT}:nH (λR x3 x5 x25 x26 x27 H=>N6 R x3 x5 x25 x26 x27 H K) (λx3 x5 x25 x26 x27 H=>QH x3 x5 x25 x26 x27 H K):=XF (A4 _ _) (λ_ _ _ _ _ _ _=>by kernel_rfl)
def W9 (a0:AV)(H:AH)(K:KT):Prop:=
 bH (A9 H a0) λv0 H1=>
 bO (Ac 0 v0) λv2=>
 bO (Ar false 1 H1 v2) λv3=>
 bC (BCall prog 91 [v3] H1) λv4 H5=>
 bO (Ai v4 0) λv6=>
 bO (Ai v4 1) λv7=>
 bO (EX .not v7) λv8=>
 bG v8 false λw9=>
 gO w9 (Ac 1 v0) λv10=>
 bG v8 false λw11=>
 gO w11 (Ar false 1 H5 v10) λv12=>
 bG v8 false λw13=>
 gO w13 (Bf v12) λv14=>
 bG v8 false λw15=>
 gO w15 (some v6) λv16=>
 bG v8 false λw17=>
 gO w17 (ZP H5 v16) λv18=>
 bG v8 false λw19=>
 gO w19 (Aq .neq v14 v18) λv20=>
 bO (A7 v8 (B true) v20) λv21=>
 bB v21 λt22=>bI t22 (
 K (B false) H5)
 (bO (Ac 1 v0) λv23=>
 bO (Ar false 1 H5 v23) λv24=>
 bO (Bf v24) λv25=>
 QH v6 (I 0) v24 v25 (I 0) H5 K)
theorem X8 {a0:AV}{H:AH}{K:KT}(h:W9 a0 H K):Cr 40 [a0] H K:=
 fok A6 Mb QJ func40 h
def Pi:C0:=KX [(1,[(4,none)])]
def Pj:Nat→Option (List Bool):=Ci [(4,mk 31 0 [1,2,13,14])]
def QF (p:List Bool)(n:Nat):List AV→AH→Kf→Prop:=AG prog Pi Mb Ap Ap Pj (sub p (AJ f43)) n
def Ph (x1 x2 x13 x14:AV)(H:AH)(K:KT):Prop:=lp (mk 31 0 [1,2,13,14]) (QF [tT,tT,fF,tT,fF,fF] 5) [x1,x2,x13,x14] H (Bl 0 (Bn (QF [tT,tT,tT] 9) (Bc prog f43.results.toList K)))
def Mv (R4:RT)(x1 x2 x13 x14:AV)(H:AH)(K:KT):Prop:=
 bO (Aq .lss x14 x13) λv0=>
 bB v0 λt1=>bI t1 (
 bO (Ac 1 x1) λv2=>
 bO (Ar false 1 H v2) λv3=>
 bO (Ac 1 x1) λv4=>
 bO (Ar false 1 H v4) λv5=>
 bO (Bh 3 v5 x14) λv6=>
 bO (Ac 1 v6) λv7=>
 bO (Ar true 2 H v7) λv8=>
 bP (BPure prog 42 [v8]) λv9=>
 bO (Bh 3 v3 x14) λv10=>
 bO (Ac 1 v10) λv11=>
 bS (AR 2 H v11 v9) λH12=>
 bO (Aq .add x14 (I 1)) λv13=>
 R4 [x1,x2,x13,v13] H12)
 (bO (Ar true 2 H x1) λv14=>
 bS (AR 2 H x2 v14) λH15=>
 bO (Ar true 2 H15 x2) λv16=>
 K v16 H15)
theorem PF {K:KT}:Xf (λR x1 x2 x13 x14 H=>Mv R x1 x2 x13 x14 H K) (λx1 x2 x13 x14 H=>Ph x1 x2 x13 x14 H K):=MD (A4 _ _) (λ_ _ _ _ _ _=>by kernel_rfl)
def Vd (a0:AV)(H:AH)(K:KT):Prop:=
 bH (A9 H a0) λv0 H1=>
 bH (A9 H1 (.agg [Ad,Ad])) λv2 H3=>
 bO (Ac 0 v0) λv4=>
 bO (Ar false 1 H3 v4) λv5=>
 bC (BCall prog 96 [v5] H3) λv6 H7=>
 bO (Ac 1 v0) λv8=>
 bO (Ar false 1 H7 v8) λv9=>
 bC (BCall prog 97 [v9] H7) λv10 H11=>
 bO (FD [Ad,Ad] [(0,1,v6),(1,1,v10)]) λv12=>
 bS (AR 2 H11 v0 v12) λH13=>
(Ar false 1 H3 v8=some v9)∧
 bO (Ac 1 v0) λv14=>
 bO (Ar false 1 H13 v14) λv15=>
 bO (Bf v15) λv16=>
 Ph v0 v2 v16 (I 0) H13 K
theorem Wc {a0:AV}{H:AH}{K:KT}(h:Vd a0 H K):Cr 43 [a0] H K:=
 fok Pi Mb Pj func43 h
def Tl (a0 a1:AV)(H:AH)(K:KT):Prop:=
 bH (A9 H a0) λv0 H1=>
 bO (Ac 0 v0) λv2=>
 bO (Ar false 1 H1 v2) λv3=>
 bP (PCall prog 107 [v3,a1,(.fn (.func 108) [] [])] H1) λv4=>
 bO (Ai v4 0) λv5=>
 bO (Ai v4 1) λv6=>
 K (.tup [v5,v6]) H1
theorem Vg {a0 a1:AV}{H:AH}{K:KT}(h:Tl a0 a1 H K):Cr 51 [a0,a1] H K:=
 fok A6 Mb BA func51 h
def Vi (a0 a1:AV)(H:AH)(K:KT):Prop:=
 bH (A9 H a0) λv0 H1=>
 bO (Ac 1 v0) λv2=>
 bO (Ar false 1 H1 v2) λv3=>
 bP (PCall prog 92 [v3,a1,(.fn (.func 93) [] [])] H1) λv4=>
 bO (Ai v4 0) λv5=>
 bO (Ai v4 1) λv6=>
 K (.tup [v5,v6]) H1
theorem Wf {a0 a1:AV}{H:AH}{K:KT}(h:Vi a0 a1 H K):Cr 41 [a0,a1] H K:=
 fok A6 Mb BA func41 h
def WA (a0:AV)(H:AH)(K:KT):Prop:=
 bO (Aq .geq a0 (.lit (.int .u8 97))) λv0=>
 bG v0 true λw1=>
 gO w1 (some a0) λv2=>
 bG v0 true λw3=>
 gO w3 (Aq .leq v2 (.lit (.int .u8 122))) λv4=>
 bO (A7 v0 v4 (B false)) λv5=>
 bG v5 false λw6=>
 gO w6 (some a0) λv7=>
 bG v5 false λw8=>
 gO w8 (Aq .geq v7 (.lit (.int .u8 48))) λv9=>
 bG v5 false λw10=>
 gO w10 (some v9) λv11=>
 bG v11 true λw12=>
 gO w12 (some a0) λv13=>
 bG v11 true λw14=>
 gO w14 (Aq .leq v13 (.lit (.int .u8 57))) λv15=>
 bG v5 false λw16=>
 gO w16 (A7 v11 v15 (B false)) λv17=>
 bO (A7 v5 (B true) v17) λv18=>
 bG v18 false λw19=>
 gO w19 (some a0) λv20=>
 bG v18 false λw21=>
 gO w21 (Aq .eql v20 (.lit (.int .u8 46))) λv22=>
 bO (A7 v18 (B true) v22) λv23=>
 bG v23 false λw24=>
 gO w24 (some a0) λv25=>
 bG v23 false λw26=>
 gO w26 (Aq .eql v25 (.lit (.int .u8 95))) λv27=>
 bO (A7 v23 (B true) v27) λv28=>
 bG v28 false λw29=>
 gO w29 (some a0) λv30=>
 bG v28 false λw31=>
 gO w31 (Aq .eql v30 (.lit (.int .u8 45))) λv32=>
 bO (A7 v28 (B true) v32) λv33=>
 K v33 H
theorem X9 {a0:AV}{H:AH}{K:KT}(h:WA a0 H K):Cr 166 [a0] H K:=
 fok A6 Mb BA func166 h
def Mz:Nat→Option (List Bool):=Ci [(100004,mk 82 0 [0,3,4,6]),(100005,mk 82 0 [0,3,6]),(5,mk 82 0 [0,3,6])]
def M1:Nat→Bool:=TR [4,5]
def Gy (p:List Bool)(n:Nat):List AV→AH→Kf→Prop:=AG prog A6 Mb pN M1 Mz (sub p (AJ f152)) n
def Im (x0 x3 x6:AV)(H:AH)(K:KT):Prop:=unR prog 5 (Zo (sub [tT,tT,tT,tT,tT] (AJ f152))) (AY (mk 82 0 [0,3,6]) [x0,x3,x6]) H (Bc prog f152.results.toList K)
def Il (x0 x3 x6:AV)(H:AH)(K:KT):Prop:=jn (mk 82 0 [0,3,6]) (Gy [tT,tT,tT,tT,tT] 6) [x0,x3,x6] H (Bc prog f152.results.toList K)
def FB (x0 x3 x4 x6:AV)(H:AH)(K:KT):Prop:=unR prog 4 (Zo (sub [tT,tT,tT,tT,fF] (AJ f152))) (AY (mk 82 0 [0,3,4,6]) [x0,x3,x4,x6]) H (Bn (LQ (mk 82 0 [0,3,6]) (Gy [tT,tT,tT,tT,tT] 6)) (Bc prog f152.results.toList K))
def Kb (x0 x3 x6:AV)(H:AH)(K:KT):Prop:=
 Im x0 x3 x6 H K
theorem PH (x0 x3 x6:AV)(H:AH)(K:KT):Il x0 x3 x6 H K=Kb x0 x3 x6 H K:=(Cx _ _ _ _ _).trans (by kernel_rfl)
def ID (a0 a1:AV)(H:AH)(K:KT):Prop:=
 bH (A9 H a1) λv0 H1=>
 bO (Af a0) λv2=>
 bO (Ar true 2 H1 v2) λv3=>
 bO (Ac 5 v0) λv4=>
 bO (Ar false 1 H1 v4) λv5=>
 bC (BCall prog 51 [v3,v5] H1) λv6 H7=>
 bO (Ai v6 0) λv8=>
 bO (Ai v6 1) λv9=>
 bO (Af a0) λv10=>
 bO (Ar true 2 H7 v10) λv11=>
 bO (Ac 1 v0) λv12=>
 bO (Ar false 1 H7 v12) λv13=>
 bC (BCall prog 41 [v11,v13] H7) λv14 H15=>
 bO (Ai v14 0) λv16=>
 bO (Ai v14 1) λv17=>
 bG v9 false λw18=>
 gO w18 (some v17) λv19=>
 bO (A7 v9 (B true) v19) λv20=>
 bG v20 false λw21=>
 gO w21 (Ac 5 v0) λv22=>
 bG v20 false λw23=>
 gO w23 (Ar false 1 H15 v22) λv24=>
 bG v20 false λw25=>
 gP w25 (PCall prog 102 [v24] H15) λv26=>
 bG v20 false λw27=>
 gO w27 (EX .not v26) λv28=>
 bO (A7 v20 (B true) v28) λv29=>
 bG v29 false λw30=>
 gO w30 (Ac 1 v0) λv31=>
 bG v29 false λw32=>
 gO w32 (Ar false 1 H15 v31) λv33=>
 bG v29 false λw34=>
 gO w34 (Aq .lss v33 (I 1)) λv35=>
 bO (A7 v29 (B true) v35) λv36=>
 bG v36 false λw37=>
 gO w37 (Ac 1 v0) λv38=>
 bG v36 false λw39=>
 gO w39 (Ar false 1 H15 v38) λv40=>
 bG v36 false λw41=>
 gO w41 (Aq .gtr v40 (I 4611686018427387904)) λv42=>
 bO (A7 v36 (B true) v42) λv43=>
 bG v43 false λw44=>
 gO w44 (some a0) λv45=>
 bG v43 false λw46=>
 gO w46 (Af v45) λv47=>
 bG v43 false λw48=>
 gO w48 (Ac 0 v47) λv49=>
 bG v43 false λw50=>
 gO w50 (Ar false 1 H15 v49) λv51=>
 bG v43 false λw52=>
 gO w52 (Bf v51) λv53=>
 bG v43 false λw54=>
 gO w54 (Aq .geq v53 (I 16)) λv55=>
 bO (A7 v43 (B true) v55) λv56=>
 bB v56 λt57=>bI t57 (
 K (.tup []) H15)
 (FB a0 v0 v8 v16 H15 K)
theorem TN (a0 a1:AV)(H:AH)(K:KT):O8 prog A6 Mb pN M1 Mz f152 [a0,a1] H K=ID a0 a1 H K:=by kernel_rfl
theorem M0 {a0 a1:AV}{H:AH}{K:KT}(h:ID a0 a1 H K):ACalls prog 152 [a0,a1] H K:=
 G7 Lg func152 (by kernel_rfl) (Eq.mpr (TN a0 a1 H K) h)
def My:Nat→Option (List Bool):=Ci [(11,mk 81 0 [0,4,6,72]),(5,mk 81 0 [0,4,5,6])]
def N7 (p:List Bool)(n:Nat):List AV→AH→Kf→Prop:=AG prog A6 Mb Ap Ap My (sub p (AJ f153)) n
def Lc (x0 x4 x6 x72:AV)(H:AH)(K:KT):Prop:=jn (mk 81 0 [0,4,6,72]) (N7 [tT,tT,tT,tT,tT,tT] 12) [x0,x4,x6,x72] H (Bc prog f153.results.toList K)
def Cs (x0 x4 x5 x6:AV)(H:AH)(K:KT):Prop:=jn (mk 81 0 [0,4,5,6]) (N7 [tT,tT,tT,tT,tT] 11) [x0,x4,x5,x6] H (Bc prog f153.results.toList K)
def FG (x0 x4 x6 x72:AV)(H:AH)(K:KT):Prop:=
 bB x72 λt0=>bI t0 (
 bO (Af x0) λv1=>
 bO (Ac 1 v1) λv2=>
 bO (Ar false 1 H v2) λv3=>
 bO (Ar true 2 H x6) λv4=>
 bO (Bh 3 v3 x4) λv5=>
 bO (Ac 1 v5) λv6=>
 bS (AR 2 H v6 v4) λH7=>
 K (.tup []) H7)
 (K (.tup []) H)
theorem Iw (x0 x4 x6 x72:AV)(H:AH)(K:KT):Lc x0 x4 x6 x72 H K=FG x0 x4 x6 x72 H K:=(Cx _ _ _ _ _).trans (by kernel_rfl)
def Gx (x0 x4 x5 x6:AV)(H:AH)(K:KT):Prop:=
 Lc x0 x4 x6 x5 H K
theorem Jp (x0 x4 x5 x6:AV)(H:AH)(K:KT):Cs x0 x4 x5 x6 H K=Gx x0 x4 x5 x6 H K:=(Cx _ _ _ _ _).trans (by kernel_rfl)
def QL (a0 a1:AV)(H:AH)(K:KT):Prop:=
 bH (A9 H a1) λv0 H1=>
 bO (Af a0) λv2=>
 bO (Ar true 2 H1 v2) λv3=>
 bO (Ac 1 v0) λv4=>
 bO (Ar false 1 H1 v4) λv5=>
 bC (BCall prog 41 [v3,v5] H1) λv6 H7=>
 bO (Ai v6 0) λv8=>
 bO (Ai v6 1) λv9=>
 bO (EX .not v9) λv10=>
 bB v10 λt11=>bI t11 (
 K (.tup []) H7)
 (bO (Af a0) λv12=>
 bO (Ac 1 v12) λv13=>
 bO (Ar false 1 H7 v13) λv14=>
 bO (Bh 3 v14 v8) λv15=>
 bO (Ac 1 v15) λv16=>
 bO (Ar true 2 H7 v16) λv17=>
 bH (A9 H7 (.agg [(I 0),Ad])) λv18 H19=>
 bS (AR 2 H19 v18 v17) λH20=>
 bO (Ac 0 v0) λv21=>
 bO (Ar false 1 H20 v21) λv22=>
 bO (Aq .eql v22 (I 2)) λv23=>
 bB v23 λt24=>bI t24 (
 bO (Ar true 2 H20 v18) λv25=>
 bO (Ac 2 v0) λv26=>
 bO (Ar false 1 H20 v26) λv27=>
 bO (Ac 7 v0) λv28=>
 bO (Ar false 1 H20 v28) λv29=>
 bP (PCall prog 188 [v25,v27,v29] H20) λv30=>
 bO (Ai v30 0) λv31=>
 bO (Ai v30 1) λv32=>
 bS (AR 2 H20 v18 v31) λH33=>
 Cs a0 v8 v32 v18 H33 K)
 (bO (Aq .eql v22 (I 3)) λv34=>
 bB v34 λt35=>bI t35 (
 bO (Ar true 2 H20 v18) λv36=>
 bO (Ac 3 v0) λv37=>
 bO (Ar false 1 H20 v37) λv38=>
 bP (PCall prog 50 [v36,v38] H20) λv39=>
 bO (Ai v39 0) λv40=>
 bO (Ai v39 1) λv41=>
 bS (AR 2 H20 v18 v40) λH42=>
 Cs a0 v8 v41 v18 H42 K)
 (bO (Aq .eql v22 (I 4)) λv43=>
 bB v43 λt44=>bI t44 (
 bO (Ar true 2 H20 v18) λv45=>
 bO (Ac 2 v0) λv46=>
 bO (Ar false 1 H20 v46) λv47=>
 bO (Ac 3 v0) λv48=>
 bO (Ar false 1 H20 v48) λv49=>
 bO (Ac 4 v0) λv50=>
 bO (Ar false 1 H20 v50) λv51=>
 bP (PCall prog 170 [v45,v47,v49,v51] H20) λv52=>
 bO (Ai v52 0) λv53=>
 bO (Ai v52 1) λv54=>
 bS (AR 2 H20 v18 v53) λH55=>
 Cs a0 v8 v54 v18 H55 K)
 (bO (Aq .eql v22 (I 5)) λv56=>
 bB v56 λt57=>bI t57 (
 bO (Ar true 2 H20 v18) λv58=>
 bO (Ac 2 v0) λv59=>
 bO (Ar false 1 H20 v59) λv60=>
 bO (Ac 3 v0) λv61=>
 bO (Ar false 1 H20 v61) λv62=>
 bP (PCall prog 172 [v58,v60,v62] H20) λv63=>
 bO (Ai v63 0) λv64=>
 bO (Ai v63 1) λv65=>
 bS (AR 2 H20 v18 v64) λH66=>
 Cs a0 v8 v65 v18 H66 K)
 (Cs a0 v8 v9 v18 H20 K)))))
theorem TL {a0 a1:AV}{H:AH}{K:KT}(h:QL a0 a1 H K):Cr 153 [a0,a1] H K:=
 fok A6 Mb My func153 h
def QP (a0 a1 a2:AV)(H:AH)(K:KT):Prop:=
 bO (Af a0) λv0=>
 bO (Ar true 2 H v0) λv1=>
 bC (BCall prog 51 [v1,a1] H) λv2 H3=>
 bO (Ai v2 0) λv4=>
 bO (Ai v2 1) λv5=>
 bO (EX .not v5) λv6=>
 bG v6 false λw7=>
 gO w7 (some a2) λv8=>
 bG v6 false λw9=>
 gP w9 (PCall prog 102 [v8] H3) λv10=>
 bG v6 false λw11=>
 gO w11 (EX .not v10) λv12=>
 bO (A7 v6 (B true) v12) λv13=>
 bG v13 false λw14=>
 gO w14 (some a1) λv15=>
 bG v13 false λw16=>
 gO w16 (some a2) λv17=>
 bG v13 false λw18=>
 gO w18 (SL .eql v15 v17) λv19=>
 bO (A7 v13 (B true) v19) λv20=>
 bB v20 λt21=>bI t21 (
 K (.tup []) H3)
 (bO (Af a0) λv22=>
 bO (Ac 0 v22) λv23=>
 bO (Ar false 1 H3 v23) λv24=>
 bO (Bh 2 v24 v4) λv25=>
 bO (Ac 1 v25) λv26=>
 bO (Ar false 1 H3 v26) λv27=>
 bO (Af a0) λv28=>
 bO (Ac 0 v28) λv29=>
 bO (Ar false 1 H3 v29) λv30=>
 bO (Aq .add v4 (I 1)) λv31=>
 bC (BCall prog 189 [v30,v4,v31] H3) λv32 H33=>
 bO (Af a0) λv34=>
 bO (Ac 0 v34) λv35=>
 bS (AR 1 H33 v35 v32) λH36=>
 bC (BCall prog 155 [a0,a2] H36) λv37 H38=>
 bO (Af a0) λv39=>
 bO (Ar true 2 H38 v39) λv40=>
 bC (BCall prog 51 [v40,a2] H38) λv41 H42=>
 bO (Ai v41 0) λv43=>
 bO (Ai v41 1) λv44=>
 bO (Af a0) λv45=>
 bO (Ac 0 v45) λv46=>
 bO (Ar false 1 H42 v46) λv47=>
 bO (FD [(.lit (.string ⟨#[]⟩)),(I 0)] [(0,1,a2),(1,1,v27)]) λv48=>
 bH (Cv H42 2 1 (Bg [(.lit (.string ⟨#[]⟩)),(I 0)] 1) [(0,2,v48)]) λv49 H50=>
 bC (BCall prog 186 [v47,v43,v49] H50) λv51 H52=>
 bO (Af a0) λv53=>
 bO (Ac 0 v53) λv54=>
 bS (AR 1 H52 v54 v51) λH55=>
 K (.tup []) H55)
theorem TQ {a0 a1 a2:AV}{H:AH}{K:KT}(h:QP a0 a1 a2 H K):Cr 154 [a0,a1,a2] H K:=
 fok A6 Mb BA func154 h
def QO (a0 a1:AV)(H:AH)(K:KT):Prop:=
 bO (Af a0) λv0=>
 bO (Ar true 2 H v0) λv1=>
 bC (BCall prog 51 [v1,a1] H) λv2 H3=>
 bO (Ai v2 0) λv4=>
 bO (Ai v2 1) λv5=>
 bO (EX .not v5) λv6=>
 bB v6 λt7=>bI t7 (
 K (.tup []) H3)
 (bO (Af a0) λv8=>
 bO (Ar true 2 H3 v8) λv9=>
 bO (Af a0) λv10=>
 bO (Ac 0 v10) λv11=>
 bO (Ar false 1 H3 v11) λv12=>
 bO (Bh 2 v12 v4) λv13=>
 bO (Ac 1 v13) λv14=>
 bO (Ar false 1 H3 v14) λv15=>
 bC (BCall prog 41 [v9,v15] H3) λv16 H17=>
 bO (Ai v16 0) λv18=>
 bO (Ai v16 1) λv19=>
 bO (Af a0) λv20=>
 bO (Ac 0 v20) λv21=>
 bO (Ar false 1 H17 v21) λv22=>
 bO (Aq .add v4 (I 1)) λv23=>
 bC (BCall prog 189 [v22,v4,v23] H17) λv24 H25=>
 bO (Af a0) λv26=>
 bO (Ac 0 v26) λv27=>
 bS (AR 1 H25 v27 v24) λH28=>
 bO (Af a0) λv29=>
 bO (Ac 1 v29) λv30=>
 bO (Ar false 1 H28 v30) λv31=>
 bO (Aq .add v18 (I 1)) λv32=>
 bC (BCall prog 190 [v31,v18,v32] H28) λv33 H34=>
 bO (Af a0) λv35=>
 bO (Ac 1 v35) λv36=>
 bS (AR 1 H34 v36 v33) λH37=>
 K (.tup []) H37)
theorem TP {a0 a1:AV}{H:AH}{K:KT}(h:QO a0 a1 H K):Cr 155 [a0,a1] H K:=
 fok A6 Mb BA func155 h
def N9:Nat→Option (List Bool):=Ci [(7,mk 58 0 [0,4,11,12,13])]
def Po (p:List Bool)(n:Nat):List AV→AH→Kf→Prop:=AG prog A6 Mb Ap Ap N9 (sub p (AJ f91)) n
def N8 (x0 x4 x11 x12 x13:AV)(H:AH)(K:KT):Prop:=lp (mk 58 0 [0,4,11,12,13]) (Po [tT,tT,tT,fF,tT,fF,fF] 8) [x0,x4,x11,x12,x13] H (Bl 0 (Bn (Po [tT,tT,tT,tT] 15) (Bc prog f91.results.toList K)))
def Ld (R7:RT)(x0 x4 x11 x12 x13:AV)(H:AH)(K:KT):Prop:=
 bO (Aq .lss x13 x12) λv0=>
 bB v0 λt1=>bI t1 (
 bO (Bh 2 x11 x13) λv2=>
 bO (Ar true 2 H v2) λv3=>
 bH (A9 H (.agg [(.lit (.string ⟨#[]⟩)),(I 0)])) λv4 H5=>
 bS (AR 2 H5 v4 v3) λH6=>
 bO (Ac 0 v4) λv7=>
 bO (Ar false 1 H6 v7) λv8=>
 bP (BPure prog 102 [v8]) λv9=>
 bO (EX .not v9) λv10=>
 bG v10 false λw11=>
 gO w11 (some x13) λv12=>
 bG v10 false λw13=>
 gO w13 (Aq .gtr v12 (I 0)) λv14=>
 bG v10 false λw15=>
 gO w15 (some v14) λv16=>
 bG v16 true λw17=>
 gO w17 (some x0) λv18=>
 bG v16 true λw19=>
 gO w19 (some x13) λv20=>
 bG v16 true λw21=>
 gO w21 (Aq .sub v20 (I 1)) λv22=>
 bG v16 true λw23=>
 gO w23 (Bh 2 v18 v22) λv24=>
 bG v16 true λw25=>
 gO w25 (Ac 0 v24) λv26=>
 bG v16 true λw27=>
 gO w27 (Ar false 1 H6 v26) λv28=>
 bG v16 true λw29=>
 gO w29 (Ac 0 v4) λv30=>
 bG v16 true λw31=>
 gO w31 (Ar false 1 H6 v30) λv32=>
 bG v16 true λw33=>
 gO w33 (SL .geq v28 v32) λv34=>
 bG v10 false λw35=>
 gO w35 (A7 v16 v34 (B false)) λv36=>
 bO (A7 v10 (B true) v36) λv37=>
 bG v37 false λw38=>
 gO w38 (Ac 1 v4) λv39=>
 bG v37 false λw40=>
 gO w40 (Ar false 1 H6 v39) λv41=>
 bG v37 false λw42=>
 gO w42 (Aq .lss v41 (I 1)) λv43=>
 bO (A7 v37 (B true) v43) λv44=>
 bG v44 false λw45=>
 gO w45 (Ac 1 v4) λv46=>
 bG v44 false λw47=>
 gO w47 (Ar false 1 H6 v46) λv48=>
 bG v44 false λw49=>
 gO w49 (Aq .gtr v48 (I 4611686018427387904)) λv50=>
 bO (A7 v44 (B true) v50) λv51=>
 bG v51 false λw52=>
 gO w52 (some x4) λv53=>
 bG v51 false λw54=>
 gO w54 (Ac 1 v4) λv55=>
 bG v51 false λw56=>
 gO w56 (Ar false 1 H6 v55) λv57=>
 bG v51 false λw58=>
 gO w58 (nJ (.int .i64) (.bool false) H6 v53 v57 false) λv59=>
 bO (A7 v51 (B true) v59) λv60=>
 bB v60 λt61=>bI t61 (
 K (.tup [(.lit (.map none)),(B false)]) H6)
 (bO (Ac 1 v4) λv62=>
 bO (Ar false 1 H6 v62) λv63=>
 bS (uP (.int .i64) H6 x4 v63 (B true)) λH64=>
 bO (Aq .add x13 (I 1)) λv65=>
 R7 [x0,x4,x11,x12,v65] H64))
 (K (.tup [x4,(B true)]) H)
theorem O6 {K:KT}:nH (λR x0 x4 x11 x12 x13 H=>Ld R x0 x4 x11 x12 x13 H K) (λx0 x4 x11 x12 x13 H=>N8 x0 x4 x11 x12 x13 H K):=XF (A4 _ _) (λ_ _ _ _ _ _ _=>by kernel_rfl)
def Tm (a0:AV)(H:AH)(K:KT):Prop:=
 bO (Bf a0) λv0=>
 bO (Aq .gtr v0 (I 16)) λv1=>
 bB v1 λt2=>bI t2 (
 K (.tup [(.lit (.map none)),(B false)]) H)
 (bH (rU H none) λv3 H4=>
 bO (Bf a0) λv5=>
 N8 a0 v3 a0 v5 (I 0) H4 K)
theorem Vh {a0:AV}{H:AH}{K:KT}(h:Tm a0 H K):Cr 91 [a0] H K:=
 fok A6 Mb N9 func91 h
def DC (a0:AV)(H:AH)(K:KT):Prop:=
 bO (VM .eql O7 a0 Ad) λv0=>
 bB v0 λt1=>bI t1 (
 K Ad H)
 (bH (Cv H 2 0 (Bg [(.lit (.string ⟨#[]⟩)),(I 0)] 0) []) λv2 H3=>
 bH (MJ 2 24 H3 v2 a0) λv4 H5=>
 K v4 H5)
theorem FK {a0:AV}{H:AH}{K:KT}(h:DC a0 H K):Cr 96 [a0] H K:=
 fok A6 Mb BA func96 h
def DD (a0:AV)(H:AH)(K:KT):Prop:=
 bO (VM .eql O7 a0 Ad) λv0=>
 bB v0 λt1=>bI t1 (
 K Ad H)
 (bH (Cv H 3 0 (Bg [(I 0),(I 0),Ad] 0) []) λv2 H3=>
 bH (MJ 3 40 H3 v2 a0) λv4 H5=>
 K v4 H5)
theorem FL {a0:AV}{H:AH}{K:KT}(h:DD a0 H K):Cr 97 [a0] H K:=
 fok A6 Mb BA func97 h
def BC:Nat→Option (List Bool):=Ci [(4,mk 49 0 [0,1,2,8,9,10])]
def BG (p:List Bool)(n:Nat):List AV→AH→Kf→Prop:=AG prog A6 Mb Ap Ap BC (sub p (AJ f107)) n
def BB (x0 x1 x2 x8 x9 x10:AV)(H:AH)(K:KT):Prop:=lp (mk 49 0 [0,1,2,8,9,10]) (BG [tT,tT,tT,fF,fF,fF] 5) [x0,x1,x2,x8,x9,x10] H (Bl 0 (Bn (BG [tT,tT,tT,tT] 9) (Bc prog f107.results.toList K)))
def B2 (R4:RT)(x0 x1 x2 x8 x9 x10:AV)(H:AH)(K:KT):Prop:=
 bO (Aq .lss x9 x10) λv0=>
 bB v0 λt1=>bI t1 (
 bO (Aq .add x9 x10) λv2=>
 bO (RI .u64 v2) λv3=>
 bO (Aq .shr v3 (.lit (.int .u64 1))) λv4=>
 bO (RI .i64 v4) λv5=>
 bO (Bh 2 x0 v5) λv6=>
 bO (Ar true 2 H v6) λv7=>
 bF true x2 λk10 f10 c10=>
 bT (B1 prog k10||!true)<|
 bC (BCall prog k10 (f10++[v7,x1]++c10) H) λv8 H9=>
 bO (Aq .lss v8 (I 0)) λv11=>
 bB v11 λt12=>bI t12 (
 bO (Aq .add v5 (I 1)) λv13=>
 R4 [x0,x1,x2,x8,v13,x10] H9)
 (R4 [x0,x1,x2,x8,x9,v5] H9))
 (bO (Aq .lss x9 x8) λv14=>
 bG v14 true λw15=>
 gO w15 (some x2) λv16=>
 bG v14 true λw17=>
 gO w17 (some x0) λv18=>
 bG v14 true λw19=>
 gO w19 (some x9) λv20=>
 bG v14 true λw21=>
 gO w21 (Bh 2 v18 v20) λv22=>
 bG v14 true λw23=>
 gO w23 (Ar true 2 H v22) λv24=>
 bG v14 true λw25=>
 gO w25 (some x1) λv26=>
 bG v14 true λw27=>
 bF w27 v16 λk30 f30 c30=>
 bT (B1 prog k30||!w27)<|
 gC w27 (BCall prog k30 (f30++[v24,v26]++c30) H) H λv28 H29=>
 bG v14 true λw31=>
 gO w31 (Aq .eql v28 (I 0)) λv32=>
 bO (A7 v14 v32 (B false)) λv33=>
 K (.tup [x9,v33]) H29)
theorem C5 {K:KT}:nS (λR x0 x1 x2 x8 x9 x10 H=>B2 R x0 x1 x2 x8 x9 x10 H K) (λx0 x1 x2 x8 x9 x10 H=>BB x0 x1 x2 x8 x9 x10 H K):=gI (A4 _ _) (λ_ _ _ _ _ _ _ _=>by kernel_rfl)
def BM (a0 a1 a2:AV)(H:AH)(K:KT):Prop:=
 bO (Bf a0) λv0=>
 BB a0 a1 a2 v0 (I 0) v0 H K
theorem CZ {a0 a1 a2:AV}{H:AH}{K:KT}(h:BM a0 a1 a2 H K):Cr 107 [a0,a1,a2] H K:=
 fok A6 Mb BC func107 h
def Pn (a0 a1:AV)(H:AH)(K:KT):Prop:=
 bH (A9 H a0) λv0 H1=>
 bO (Ac 0 v0) λv2=>
 bO (Ar false 1 H1 v2) λv3=>
 bP (PCall prog 109 [v3,a1] H1) λv4=>
 K v4 H1
theorem Sw {a0 a1:AV}{H:AH}{K:KT}(h:Pn a0 a1 H K):Cr 108 [a0,a1] H K:=
 fok A6 Mb BA func108 h
def M6 (a0 a1:AV)(H:AH)(K:KT):Prop:=
 bP (PCall prog 168 [a0,a1] H) λv0=>
 K v0 H
theorem PR {a0 a1:AV}{H:AH}{K:KT}(h:M6 a0 a1 H K):Cr 109 [a0,a1] H K:=
 fok A6 Mb BA func109 h
def BO:Nat→Option (List Bool):=Ci [(4,mk 49 0 [0,1,2,8,9,10])]
def BQ (p:List Bool)(n:Nat):List AV→AH→Kf→Prop:=AG prog A6 Mb Ap Ap BO (sub p (AJ f92)) n
def BN (x0 x1 x2 x8 x9 x10:AV)(H:AH)(K:KT):Prop:=lp (mk 49 0 [0,1,2,8,9,10]) (BQ [tT,tT,tT,fF,fF,fF] 5) [x0,x1,x2,x8,x9,x10] H (Bl 0 (Bn (BQ [tT,tT,tT,tT] 9) (Bc prog f92.results.toList K)))
def BH (R4:RT)(x0 x1 x2 x8 x9 x10:AV)(H:AH)(K:KT):Prop:=
 bO (Aq .lss x9 x10) λv0=>
 bB v0 λt1=>bI t1 (
 bO (Aq .add x9 x10) λv2=>
 bO (RI .u64 v2) λv3=>
 bO (Aq .shr v3 (.lit (.int .u64 1))) λv4=>
 bO (RI .i64 v4) λv5=>
 bO (Bh 3 x0 v5) λv6=>
 bO (Ar true 3 H v6) λv7=>
 bF true x2 λk10 f10 c10=>
 bT (B1 prog k10||!true)<|
 bC (BCall prog k10 (f10++[v7,x1]++c10) H) λv8 H9=>
 bO (Aq .lss v8 (I 0)) λv11=>
 bB v11 λt12=>bI t12 (
 bO (Aq .add v5 (I 1)) λv13=>
 R4 [x0,x1,x2,x8,v13,x10] H9)
 (R4 [x0,x1,x2,x8,x9,v5] H9))
 (bO (Aq .lss x9 x8) λv14=>
 bG v14 true λw15=>
 gO w15 (some x2) λv16=>
 bG v14 true λw17=>
 gO w17 (some x0) λv18=>
 bG v14 true λw19=>
 gO w19 (some x9) λv20=>
 bG v14 true λw21=>
 gO w21 (Bh 3 v18 v20) λv22=>
 bG v14 true λw23=>
 gO w23 (Ar true 3 H v22) λv24=>
 bG v14 true λw25=>
 gO w25 (some x1) λv26=>
 bG v14 true λw27=>
 bF w27 v16 λk30 f30 c30=>
 bT (B1 prog k30||!w27)<|
 gC w27 (BCall prog k30 (f30++[v24,v26]++c30) H) H λv28 H29=>
 bG v14 true λw31=>
 gO w31 (Aq .eql v28 (I 0)) λv32=>
 bO (A7 v14 v32 (B false)) λv33=>
 K (.tup [x9,v33]) H29)
theorem CJ {K:KT}:nS (λR x0 x1 x2 x8 x9 x10 H=>BH R x0 x1 x2 x8 x9 x10 H K) (λx0 x1 x2 x8 x9 x10 H=>BN x0 x1 x2 x8 x9 x10 H K):=gI (A4 _ _) (λ_ _ _ _ _ _ _ _=>by kernel_rfl)
def Cc (a0 a1 a2:AV)(H:AH)(K:KT):Prop:=
 bO (Bf a0) λv0=>
 BN a0 a1 a2 v0 (I 0) v0 H K
theorem Do {a0 a1 a2:AV}{H:AH}{K:KT}(h:Cc a0 a1 a2 H K):Cr 92 [a0,a1,a2] H K:=
 fok A6 Mb BO func92 h
def QN (a0 a1:AV)(H:AH)(K:KT):Prop:=
 bH (A9 H a0) λv0 H1=>
 bO (Ac 0 v0) λv2=>
 bO (Ar false 1 H1 v2) λv3=>
 bP (PCall prog 94 [v3,a1] H1) λv4=>
 K v4 H1
theorem TO {a0 a1:AV}{H:AH}{K:KT}(h:QN a0 a1 H K):Cr 93 [a0,a1] H K:=
 fok A6 Mb BA func93 h
def F6:Nat→Bool:=TR []
def D5 (a0 a1 a2:AV)(H:AH)(K:KT):Prop:=
 bO (AW 2 a0 (some a1) none none) λv0=>
 bO (Bf a2) λv1=>
 bO (Aq .eql v1 (I 0)) λv2=>
 bB v2 λt3=>bI t3 (
 K a0 H)
 (bO (Bf a0) λv4=>
 bO (Aq .eql a1 v4) λv5=>
 bB v5 λt6=>bI t6 (
 bH (MJ 2 24 H a0 a2) λv7 H8=>
 K v7 H8)
 (bO (Aq .add v4 v1) λv9=>
 bO (VN a0) λv10=>
 bO (Aq .gtr v9 v10) λv11=>
 bB v11 λt12=>bI t12 (
 bO (AW 2 a0 none (some a1) none) λv13=>
 bO (Aq .add v4 v1) λv14=>
 bO (Aq .sub v14 a1) λv15=>
 bH (Kl H 2 24 [(.lit (.string ⟨#[]⟩)),(I 0)] v13 v15) λv16 H17=>
 bO (AW 2 v16 (some a1) none none) λv18=>
 bH (Oz 2 H17 v18 a2) λv19 H20=>
 bO (Aq .add a1 v1) λv21=>
 bO (AW 2 v16 (some v21) none none) λv22=>
 bO (AW 2 a0 (some a1) none none) λv23=>
 bH (Oz 2 H20 v22 v23) λv24 H25=>
 K v16 H25)
 (bO (Aq .add v4 v1) λv26=>
 bO (AW 2 a0 none (some v26) none) λv27=>
 bO (Aq .add a1 v1) λv28=>
 bO (AW 2 v27 (some v28) none none) λv29=>
 bP (ExtR prog 210 [a2,v29] H) λv30=>
 bO (EX .not v30) λv31=>
 bB v31 λt32=>bI t32 (
 bO (Aq .add a1 v1) λv33=>
 bO (AW 2 v27 (some v33) none none) λv34=>
 bO (AW 2 v27 (some a1) none none) λv35=>
 bH (Oz 2 H v34 v35) λv36 H37=>
 bO (AW 2 v27 (some a1) none none) λv38=>
 bH (Oz 2 H37 v38 a2) λv39 H40=>
 K v27 H40)
 (bO (AW 2 v27 (some v4) none none) λv41=>
 bH (Oz 2 H v41 a2) λv42 H43=>
 bO (AW 2 v27 (some a1) none none) λv44=>
 bC (BCall prog 211 [v44,v1] H43) λv45 H46=>
 K v27 H46))))
theorem F4 (a0 a1 a2:AV)(H:AH)(K:KT):O8 prog A6 Mb pN F6 BA f186 [a0,a1,a2] H K=D5 a0 a1 a2 H K:=by kernel_rfl
theorem F5 {a0 a1 a2:AV}{H:AH}{K:KT}(h:D5 a0 a1 a2 H K):ACalls prog 186 [a0,a1,a2] H K:=
 G7 Lg func186 (by kernel_rfl) (Eq.mpr (F4 a0 a1 a2 H K) h)
def F9:Nat→Bool:=TR []
def D6 (a0 a1 a2:AV)(H:AH)(K:KT):Prop:=
 bO (AW 3 a0 (some a1) none none) λv0=>
 bO (Bf a2) λv1=>
 bO (Aq .eql v1 (I 0)) λv2=>
 bB v2 λt3=>bI t3 (
 K a0 H)
 (bO (Bf a0) λv4=>
 bO (Aq .eql a1 v4) λv5=>
 bB v5 λt6=>bI t6 (
 bH (MJ 3 40 H a0 a2) λv7 H8=>
 K v7 H8)
 (bO (Aq .add v4 v1) λv9=>
 bO (VN a0) λv10=>
 bO (Aq .gtr v9 v10) λv11=>
 bB v11 λt12=>bI t12 (
 bO (AW 3 a0 none (some a1) none) λv13=>
 bO (Aq .add v4 v1) λv14=>
 bO (Aq .sub v14 a1) λv15=>
 bH (Kl H 3 40 [(I 0),(I 0),Ad] v13 v15) λv16 H17=>
 bO (AW 3 v16 (some a1) none none) λv18=>
 bH (Oz 3 H17 v18 a2) λv19 H20=>
 bO (Aq .add a1 v1) λv21=>
 bO (AW 3 v16 (some v21) none none) λv22=>
 bO (AW 3 a0 (some a1) none none) λv23=>
 bH (Oz 3 H20 v22 v23) λv24 H25=>
 K v16 H25)
 (bO (Aq .add v4 v1) λv26=>
 bO (AW 3 a0 none (some v26) none) λv27=>
 bO (Aq .add a1 v1) λv28=>
 bO (AW 3 v27 (some v28) none none) λv29=>
 bP (ExtR prog 212 [a2,v29] H) λv30=>
 bO (EX .not v30) λv31=>
 bB v31 λt32=>bI t32 (
 bO (Aq .add a1 v1) λv33=>
 bO (AW 3 v27 (some v33) none none) λv34=>
 bO (AW 3 v27 (some a1) none none) λv35=>
 bH (Oz 3 H v34 v35) λv36 H37=>
 bO (AW 3 v27 (some a1) none none) λv38=>
 bH (Oz 3 H37 v38 a2) λv39 H40=>
 K v27 H40)
 (bO (AW 3 v27 (some v4) none none) λv41=>
 bH (Oz 3 H v41 a2) λv42 H43=>
 bO (AW 3 v27 (some a1) none none) λv44=>
 bC (BCall prog 213 [v44,v1] H43) λv45 H46=>
 K v27 H46))))
theorem F7 (a0 a1 a2:AV)(H:AH)(K:KT):O8 prog A6 Mb pN F9 BA f187 [a0,a1,a2] H K=D6 a0 a1 a2 H K:=by kernel_rfl
theorem F8 {a0 a1 a2:AV}{H:AH}{K:KT}(h:D6 a0 a1 a2 H K):ACalls prog 187 [a0,a1,a2] H K:=
 G7 Lg func187 (by kernel_rfl) (Eq.mpr (F7 a0 a1 a2 H K) h)
def D0 (a0 a1 a2:AV)(H:AH)(K:KT):Prop:=
 bO (Bf a0) λv0=>
 bO (AW 2 a0 (some a1) (some a2) (some v0)) λv1=>
 bO (Aq .eql a1 a2) λv2=>
 bB v2 λt3=>bI t3 (
 K a0 H)
 (bO (Bf a0) λv4=>
 bO (AW 2 a0 none (some a1) none) λv5=>
 bO (AW 2 a0 (some a2) none none) λv6=>
 bH (MJ 2 24 H v5 v6) λv7 H8=>
 bO (Bf v7) λv9=>
 bO (AW 2 v7 (some v9) (some v4) none) λv10=>
 bS (nI [(.lit (.string ⟨#[]⟩)),(I 0)] H8 v10) λH11=>
 K v7 H11)
theorem Fw {a0 a1 a2:AV}{H:AH}{K:KT}(h:D0 a0 a1 a2 H K):Cr 189 [a0,a1,a2] H K:=
 fok A6 Mb BA func189 h
def D1 (a0 a1 a2:AV)(H:AH)(K:KT):Prop:=
 bO (Bf a0) λv0=>
 bO (AW 3 a0 (some a1) (some a2) (some v0)) λv1=>
 bO (Aq .eql a1 a2) λv2=>
 bB v2 λt3=>bI t3 (
 K a0 H)
 (bO (Bf a0) λv4=>
 bO (AW 3 a0 none (some a1) none) λv5=>
 bO (AW 3 a0 (some a2) none none) λv6=>
 bH (MJ 3 40 H v5 v6) λv7 H8=>
 bO (Bf v7) λv9=>
 bO (AW 3 v7 (some v9) (some v4) none) λv10=>
 bS (nI [(I 0),(I 0),Ad] H8 v10) λH11=>
 K v7 H11)
theorem Fx {a0 a1 a2:AV}{H:AH}{K:KT}(h:D1 a0 a1 a2 H K):Cr 190 [a0,a1,a2] H K:=
 fok A6 Mb BA func190 h
def Rk:FuncId→Bool:=TR [43,82,20,13,52,40,102,24,23,98,50,170,172,188,179,181,22,99,169,111,100,165,81,164,167,151,185,46,112,45]
def WZ (a0:AV)(H:AH)(K:KT):Prop:=
 bO (amm aF [a0,(I 0)]) λv0=>
 bO (amm XA [v0,(I 4096)]) λv1=>
 bO (FD [(I 0),Ad,Ad,Ad,Ad,Ad,(I 0),(I 0),(B false)] [(0,1,v1),(7,1,(I (-1)))]) λv2=>
 bH (A9 H v2) λv3 H4=>
 K v3 H4
theorem XV {a0:AV}{H:AH}{K:KT}(h:WZ a0 H K):Cr 10 [a0] H K:=
 fok A6 Rk BA func10 h
def M5 (a0:AV)(H:AH)(K:KT):Prop:=
 bH (A9 H (.agg [Ad,Ad])) λv0 H1=>
 bO (Af a0) λv2=>
 bO (Ac 1 v2) λv3=>
 bO (Ar true 2 H1 v3) λv4=>
 bP (PCall prog 43 [v4] H1) λv5=>
 bS (AR 2 H1 v0 v5) λH6=>
 bO (Ar true 2 H6 v0) λv7=>
 K v7 H6
theorem PP {a0:AV}{H:AH}{K:KT}(h:M5 a0 H K):Cr 14 [a0] H K:=
 fok A6 Rk BA func14 h
def L0 (a0:AV)(H:AH)(K:KT):Prop:=
 bO (Af a0) λv0=>
 bO (Ac 0 v0) λv1=>
 bO (Ar false 1 H v1) λv2=>
 bO (Af a0) λv3=>
 bO (Ac 1 v3) λv4=>
 bO (Ar true 2 H v4) λv5=>
 bP (BPure prog 52 [v5]) λv6=>
 bO (Aq .sub v2 v6) λv7=>
 bO (amm aF [(I 0),v7]) λv8=>
 K v8 H
theorem OF {a0:AV}{H:AH}{K:KT}(h:L0 a0 H K):Cr 21 [a0] H K:=
 fok A6 Rk BA func21 h
def I8:Nat→Option (List Bool):=Ci [(1,mk 31 0 [])]
def PQ (p:List Bool)(n:Nat):List AV→AH→Kf→Prop:=AG prog A6 Rk Ap Ap I8 (sub p (AJ f80)) n
def Fo (H:AH)(K:KT):Prop:=jn (mk 31 0 []) (PQ [tT,tT] 6) [] H (Bc prog f80.results.toList K)
def E6 (H:AH)(K:KT):Prop:=
 K (B true) H
theorem GI (H:AH)(K:KT):Fo H K=E6 H K:=(Cx _ _ _ _ _).trans (by kernel_rfl)
def L8 (a0:AV)(H:AH)(K:KT):Prop:=
 bO (Af a0) λv0=>
 bO (Ac 8 v0) λv1=>
 bO (Ar false 1 H v1) λv2=>
 bG v2 false λw3=>
 gO w3 (some a0) λv4=>
 bG v2 false λw5=>
 gO w5 (Af v4) λv6=>
 bG v2 false λw7=>
 gO w7 (Ac 7 v6) λv8=>
 bG v2 false λw9=>
 gO w9 (Ar false 1 H v8) λv10=>
 bG v2 false λw11=>
 gO w11 (Aq .eql v10 (I 0)) λv12=>
 bO (A7 v2 (B true) v12) λv13=>
 bB v13 λt14=>bI t14 (
 bO (Af a0) λv15=>
 bO (Ac 8 v15) λv16=>
 bS (AR 1 H v16 (B true)) λH17=>
 K (B false) H17)
 (bO (Af a0) λv18=>
 bO (Ac 7 v18) λv19=>
 bO (Ar false 1 H v19) λv20=>
 bO (Aq .gtr v20 (I 0)) λv21=>
 bB v21 λt22=>bI t22 (
 bO (Af a0) λv23=>
 bO (Ac 7 v23) λv24=>
 bO (Ar false 1 H v24) λv25=>
 bO (Aq .sub v25 (I 1)) λv26=>
 bO (Af a0) λv27=>
 bO (Ac 7 v27) λv28=>
 bS (AR 1 H v28 v26) λH29=>
 Fo H29 K)
 (Fo H K))
theorem OJ {a0:AV}{H:AH}{K:KT}(h:L8 a0 H K):Cr 80 [a0] H K:=
 fok A6 Rk I8 func80 h
def NO (a0 a1:AV)(H:AH)(K:KT):Prop:=
 bH (A9 H a1) λv0 H1=>
 bC (BCall prog 80 [a0] H1) λv2 H3=>
 bO (EX .not v2) λv4=>
 bB v4 λt5=>bI t5 (
 K (I 8) H3)
 (bO (Af a0) λv6=>
 bO (Ac 1 v6) λv7=>
 bO (Ar true 2 H3 v7) λv8=>
 bO (Ar true 8 H3 v0) λv9=>
 bP (BPure prog 82 [v8,v9]) λv10=>
 bO (Af a0) λv11=>
 bO (Ac 1 v11) λv12=>
 bS (AR 2 H3 v12 v10) λH13=>
 bO (Af a0) λv14=>
 bO (Ac 5 v14) λv15=>
 bO (Ar false 1 H13 v15) λv16=>
 bO (Ar true 8 H13 v0) λv17=>
 bO (T8 8 1 (Bg [(I 0),(I 0),(I 0),(I 0),(B false),(.lit (.string ⟨#[]⟩)),(.lit (.string ⟨#[]⟩)),Ad] 1) [(0,8,v17)]) λv18=>
 bH (MJ 8 96 H13 v16 v18) λv19 H20=>
 bO (Af a0) λv21=>
 bO (Ac 5 v21) λv22=>
 bS (AR 1 H20 v22 v19) λH23=>
 K (I 0) H23)
theorem RB {a0 a1:AV}{H:AH}{K:KT}(h:NO a0 a1 H K):Cr 48 [a0,a1] H K:=
 fok A6 Rk BA func48 h
def DJ (a0 a1:AV)(H:AH)(K:KT):Prop:=
 bH (A9 H (.agg [(I 0),Ad])) λv0 H1=>
 bO (Af a0) λv2=>
 bO (Ac 8 v2) λv3=>
 bO (Ar false 1 H1 v3) λv4=>
 bB v4 λt5=>bI t5 (
 bO (FD [(I 0),Ad] []) λv6=>
 bS (AR 2 H1 v0 v6) λH7=>
 bO (Ar true 2 H7 v0) λv8=>
 K (.tup [v8,(I 8)]) H7)
 (bO (Af a0) λv9=>
 bO (Ac 1 v9) λv10=>
 bO (Ar true 2 H1 v10) λv11=>
 bP (PCall prog 13 [v11,a1] H1) λv12=>
 bO (Ai v12 0) λv13=>
 bO (Ai v12 1) λv14=>
 bH (A9 H1 (.agg [(I 0),Ad])) λv15 H16=>
 bS (AR 2 H16 v15 v13) λH17=>
 bO (EX .not v14) λv18=>
 bB v18 λt19=>bI t19 (
 bO (FD [(I 0),Ad] []) λv20=>
 bS (AR 2 H17 v0 v20) λH21=>
 bO (Ar true 2 H21 v0) λv22=>
 K (.tup [v22,(I 3)]) H21)
 (bO (Ar true 2 H17 v15) λv23=>
 bS (AR 2 H17 v0 v23) λH24=>
 bO (Ar true 2 H24 v0) λv25=>
 K (.tup [v25,(I 0)]) H24))
theorem Er {a0 a1:AV}{H:AH}{K:KT}(h:DJ a0 a1 H K):Cr 49 [a0,a1] H K:=
 fok A6 Rk BA func49 h
def LA (a0 a1:AV)(H:AH)(K:KT):Prop:=
 bO (Af a0) λv0=>
 bO (Ac 8 v0) λv1=>
 bO (Ar false 1 H v1) λv2=>
 bB v2 λt3=>bI t3 (
 K (.tup [(I 0),(I 8)]) H)
 (bP (PCall prog 102 [a1] H) λv4=>
 bO (EX .not v4) λv5=>
 bB v5 λt6=>bI t6 (
 K (.tup [(I 0),(I 5)]) H)
 (bO (Af a0) λv7=>
 bO (Ac 1 v7) λv8=>
 bO (Ar true 2 H v8) λv9=>
 bP (PCall prog 20 [v9,a1] H) λv10=>
 bO (Ai v10 0) λv11=>
 bO (Ai v10 1) λv12=>
 bO (EX .not v12) λv13=>
 bB v13 λt14=>bI t14 (
 K (.tup [(I 0),(I 3)]) H)
 (K (.tup [v11,(I 0)]) H)))
theorem OK {a0 a1:AV}{H:AH}{K:KT}(h:LA a0 a1 H K):Cr 47 [a0,a1] H K:=
 fok A6 Rk BA func47 h
def L3 (a0 a1 a2:AV)(H:AH)(K:KT):Prop:=
 bC (BCall prog 47 [a0,a1] H) λv0 H1=>
 bO (Ai v0 0) λv2=>
 bO (Ai v0 1) λv3=>
 bO (Aq .neq v3 (I 3)) λv4=>
 bG v4 false λw5=>
 gO w5 (some a2) λv6=>
 bG v4 false λw7=>
 gO w7 (EX .not v6) λv8=>
 bO (A7 v4 (B true) v8) λv9=>
 bB v9 λt10=>bI t10 (
 K (.tup [v2,v3]) H1)
 (bO (Af a0) λv11=>
 bO (Ac 1 v11) λv12=>
 bO (Ac 0 v12) λv13=>
 bO (Ar false 1 H1 v13) λv14=>
 bO (Bf v14) λv15=>
 bO (Aq .geq v15 (I 16)) λv16=>
 bB v16 λt17=>bI t17 (
 K (.tup [(I 0),(I 4)]) H1)
 (bO (Af a0) λv18=>
 bO (Ac 6 v18) λv19=>
 bO (Ar false 1 H1 v19) λv20=>
 bO (Aq .add v20 (I 1)) λv21=>
 bO (FD [(I 0),(I 0),(I 0),(I 0),(B false),(.lit (.string ⟨#[]⟩)),(.lit (.string ⟨#[]⟩)),Ad] [(0,1,(I 1)),(5,1,a1),(1,1,v21)]) λv22=>
 bC (BCall prog 48 [a0,v22] H1) λv23 H24=>
 bO (Aq .neq v23 (I 0)) λv25=>
 bB v25 λt26=>bI t26 (
 K (.tup [(I 0),v23]) H24)
 (bO (Af a0) λv27=>
 bO (Ac 6 v27) λv28=>
 bO (Ar false 1 H24 v28) λv29=>
 bO (Aq .add v29 (I 1)) λv30=>
 bO (Af a0) λv31=>
 bO (Ac 6 v31) λv32=>
 bS (AR 1 H24 v32 v30) λH33=>
 bO (Af a0) λv34=>
 bO (Ac 6 v34) λv35=>
 bO (Ar false 1 H33 v35) λv36=>
 K (.tup [v36,(I 0)]) H33)))
theorem OG {a0 a1 a2:AV}{H:AH}{K:KT}(h:L3 a0 a1 a2 H K):Cr 18 [a0,a1,a2] H K:=
 fok A6 Rk BA func18 h
def L4 (a0 a1:AV)(H:AH)(K:KT):Prop:=
 bC (BCall prog 49 [a0,a1] H) λv0 H1=>
 bO (Ai v0 0) λv2=>
 bO (Ai v0 1) λv3=>
 bH (A9 H1 (.agg [(I 0),Ad])) λv4 H5=>
 bS (AR 2 H5 v4 v2) λH6=>
 bO (Ac 0 v4) λv7=>
 bO (Ar false 1 H6 v7) λv8=>
 K (.tup [v8,v3]) H6
theorem OH {a0 a1:AV}{H:AH}{K:KT}(h:L4 a0 a1 H K):Cr 60 [a0,a1] H K:=
 fok A6 Rk BA func60 h
def Ic:C0:=KX [(12,[(3,some 11)])]
def Ie:Nat→Option (List Bool):=Ci [(9,mk 79 0 [0,1,2,3,10,36,37,38])]
def I7 (p:List Bool)(n:Nat):List AV→AH→Kf→Prop:=AG prog Ic Rk Ap Ap Ie (sub p (AJ f44)) n
def Ib (x0 x1 x2 x3 x10 x36 x37 x38:AV)(H:AH)(K:KT):Prop:=lp (mk 79 0 [0,1,2,3,10,36,37,38]) (I7 [tT,tT,tT,fF,tT,fF,fF] 10) [x0,x1,x2,x3,x10,x36,x37,x38] H (Bl 1 (Bn (I7 [tT,tT,tT,tT] 21) (Bc prog f44.results.toList K)))
def GH (R9:RT)(x0 x1 x2 x3 x10 x36 x37 x38:AV)(H:AH)(K:KT):Prop:=
 bO (Aq .lss x38 x37) λv0=>
 bB v0 λt1=>bI t1 (
 bO (Bh 2 x36 x38) λv2=>
 bO (Ar true 2 H v2) λv3=>
 bH (A9 H (.agg [(I 0),(I 0)])) λv4 H5=>
 bS (AR 2 H5 v4 v3) λH6=>
 bO (Ac 0 v4) λv7=>
 bO (Ar false 1 H6 v7) λv8=>
 bO (Aq .sub v8 x2) λv9=>
 bO (Ar true 2 H6 x10) λv10=>
 bO (Ac 0 v4) λv11=>
 bO (Ar false 1 H6 v11) λv12=>
 bO (Aq .quo v12 (I 8)) λv13=>
 bP (PCall prog 100 [v10,v13] H6) λv14=>
 bO (EX .not v14) λv15=>
 bG v15 true λw16=>
 gO w16 (some x0) λv17=>
 bG v15 true λw18=>
 gC w18 (BCall prog 21 [v17] H6) H6 λv19 H20=>
 bG v15 true λw21=>
 gO w21 (Aq .eql v19 (I 0)) λv22=>
 bO (A7 v15 v22 (B false)) λv23=>
 bB v23 λt24=>bI t24 (
 K (.tup [v9,(I 4)]) H20)
 (bO (Ac 0 v4) λv25=>
 bO (Ar false 1 H20 v25) λv26=>
 bO (Ac 1 v4) λv27=>
 bO (Ar false 1 H20 v27) λv28=>
 bO (Aq .add v9 v28) λv29=>
 bO (AW 1 x3 (some v9) (some v29) none) λv30=>
 bC (BCall prog 101 [v30] H20) λv31 H32=>
 bO (FD [(I 0),(I 0),(I 0),(I 0),(B false),(.lit (.string ⟨#[]⟩)),(.lit (.string ⟨#[]⟩)),Ad] [(0,1,(I 2)),(1,1,x1),(2,1,v26),(7,1,v31)]) λv33=>
 bC (BCall prog 48 [x0,v33] H32) λv34 H35=>
(Ar false 1 H32 v25=some v26)∧
 bO (Aq .neq v34 (I 0)) λv36=>
 bB v36 λt37=>bI t37 (
 K (.tup [v9,v34]) H35)
 (bO (Aq .add x38 (I 1)) λv38=>
 R9 [x0,x1,x2,x3,x10,x36,x37,v38] H35)))
 (bO (Bf x3) λv39=>
 K (.tup [v39,(I 0)]) H)
theorem JD {K:KT}:yK (λR x0 x1 x2 x3 x10 x36 x37 x38 H=>GH R x0 x1 x2 x3 x10 x36 x37 x38 H K) (λx0 x1 x2 x3 x10 x36 x37 x38 H=>Ib x0 x1 x2 x3 x10 x36 x37 x38 H K):=wW (A4 _ _) (λ_ _ _ _ _ _ _ _ _ _=>by kernel_rfl)
def Kj (a0 a1 a2 a3:AV)(H:AH)(K:KT):Prop:=
 bC (BCall prog 49 [a0,a1] H) λv0 H1=>
 bO (Ai v0 0) λv2=>
 bO (Ai v0 1) λv3=>
 bH (A9 H1 (.agg [(I 0),Ad])) λv4 H5=>
 bS (AR 2 H5 v4 v2) λH6=>
 bO (Aq .neq v3 (I 0)) λv7=>
 bB v7 λt8=>bI t8 (
 K (.tup [(I 0),v3]) H6)
 (bO (Bf a3) λv9=>
 bP (PCall prog 98 [a2,v9] H6) λv10=>
 bO (EX .not v10) λv11=>
 bB v11 λt12=>bI t12 (
 K (.tup [(I 0),(I 5)]) H6)
 (bO (Bf a3) λv13=>
 bO (FD [(I 0),(I 0)] [(0,1,a2),(1,1,v13)]) λv14=>
 bP (PCall prog 99 [v14,(I 8)] H6) λv15=>
 bO (Bf v15) λv16=>
 Ib a0 a1 a2 a3 v4 v15 v16 (I 0) H6 K))
theorem NM {a0 a1 a2 a3:AV}{H:AH}{K:KT}(h:Kj a0 a1 a2 a3 H K):Cr 44 [a0,a1,a2,a3] H K:=
 fok Ic Rk Ie func44 h
def Ia (a0 a1 a2:AV)(H:AH)(K:KT):Prop:=
 bC (BCall prog 49 [a0,a1] H) λv0 H1=>
 bO (Ai v0 0) λv2=>
 bO (Ai v0 1) λv3=>
 bH (A9 H1 (.agg [(I 0),Ad])) λv4 H5=>
 bS (AR 2 H5 v4 v2) λH6=>
 bO (Aq .neq v3 (I 0)) λv7=>
 bB v7 λt8=>bI t8 (
 K v3 H6)
 (bO (Ar true 2 H6 v4) λv9=>
 bP (PCall prog 50 [v9,a2] H6) λv10=>
 bO (Ai v10 0) λv11=>
 bO (Ai v10 1) λv12=>
 bH (A9 H6 (.agg [(I 0),Ad])) λv13 H14=>
 bS (AR 2 H14 v13 v11) λH15=>
 bO (EX .not v12) λv16=>
 bB v16 λt17=>bI t17 (
 K (I 5) H15)
 (bO (FD [(I 0),(I 0),(I 0),(I 0),(B false),(.lit (.string ⟨#[]⟩)),(.lit (.string ⟨#[]⟩)),Ad] [(0,1,(I 3)),(1,1,a1),(3,1,a2)]) λv18=>
 bC (BCall prog 48 [a0,v18] H15) λv19 H20=>
 K v19 H20))
theorem L6 {a0 a1 a2:AV}{H:AH}{K:KT}(h:Ia a0 a1 a2 H K):Cr 19 [a0,a1,a2] H K:=
 fok A6 Rk BA func19 h
def I6:Nat→Option (List Bool):=Ci [(10,mk 41 0 [0,1,5,14,15,16]),(7,mk 41 0 [0,1,5,14,15,16])]
def Ep (p:List Bool)(n:Nat):List AV→AH→Kf→Prop:=AG prog A6 Rk Ap Ap I6 (sub p (AJ f37)) n
def EW (R7:RT)(x0 x1 x5 x14 x15 x16:AV)(H:AH)(K:KT):Prop:=jn (mk 41 0 [0,1,5,14,15,16]) (Ep [tT,tT,tT,fF,tT,fF,fF,tT,tT,tT] 13) [x0,x1,x5,x14,x15,x16] H (Pp (mk 41 0 [0,1,5,14,15,16]) R7 (Bl 0 (Bn (Ep [tT,tT,tT,tT] 13) (Bc prog f37.results.toList K))))
def I5 (x0 x1 x5 x14 x15 x16:AV)(H:AH)(K:KT):Prop:=lp (mk 41 0 [0,1,5,14,15,16]) (Ep [tT,tT,tT,fF,tT,fF,fF] 8) [x0,x1,x5,x14,x15,x16] H (Bl 0 (Bn (Ep [tT,tT,tT,tT] 13) (Bc prog f37.results.toList K)))
def Eo (R7:RT)(x0 x1 x5 x14 x15 x16:AV)(H:AH)(K:KT):Prop:=
 bO (Aq .add x16 (I 1)) λv0=>
 R7 [x0,x1,x5,x14,x15,v0] H
theorem Gd (R7:RT)(x0 x1 x5 x14 x15 x16:AV)(H:AH)(K:KT):EW R7 x0 x1 x5 x14 x15 x16 H K=Eo R7 x0 x1 x5 x14 x15 x16 H K:=(Cx _ _ _ _ _).trans (by kernel_rfl)
def Hf (R7:RT)(x0 x1 x5 x14 x15 x16:AV)(H:AH)(K:KT):Prop:=
 bO (Aq .lss x16 x15) λv0=>
 bB v0 λt1=>bI t1 (
 bO (Bh 8 x14 x16) λv2=>
 bO (Ar true 8 H v2) λv3=>
 bH (A9 H (.agg [(I 0),(I 0),(I 0),(I 0),(B false),(.lit (.string ⟨#[]⟩)),(.lit (.string ⟨#[]⟩)),Ad])) λv4 H5=>
 bS (AR 8 H5 v4 v3) λH6=>
 bO (Ar true 8 H6 v4) λv7=>
 bP (PCall prog 81 [v7,x1] H6) λv8=>
 bB v8 λt9=>bI t9 (
 bO (Af x0) λv10=>
 bO (Ac 3 v10) λv11=>
 bO (Ar true 2 H6 v11) λv12=>
 bO (Ar true 8 H6 v4) λv13=>
 bP (BPure prog 82 [v12,v13]) λv14=>
 bO (Af x0) λv15=>
 bO (Ac 3 v15) λv16=>
 bS (AR 2 H6 v16 v14) λH17=>
 EW R7 x0 x1 x5 x14 x15 x16 H17 K)
 (bO (Ar true 8 H6 v4) λv18=>
 bH (Cv H6 8 1 (Bg [(I 0),(I 0),(I 0),(I 0),(B false),(.lit (.string ⟨#[]⟩)),(.lit (.string ⟨#[]⟩)),Ad] 1) [(0,8,v18)]) λv19 H20=>
 bH (MJ 8 96 H20 x5 v19) λv21 H22=>
 EW R7 x0 x1 v21 x14 x15 x16 H22 K))
 (bO (Af x0) λv23=>
 bO (Ac 5 v23) λv24=>
 bS (AR 1 H v24 x5) λH25=>
 K (I 0) H25)
theorem K5 {K:KT}:nS (λR x0 x1 x5 x14 x15 x16 H=>Hf R x0 x1 x5 x14 x15 x16 H K) (λx0 x1 x5 x14 x15 x16 H=>I5 x0 x1 x5 x14 x15 x16 H K):=gI (A4 _ _) (λ_ _ _ _ _ _ _ _=>by kernel_rfl)
def L5 (a0 a1:AV)(H:AH)(K:KT):Prop:=
 bC (BCall prog 80 [a0] H) λv0 H1=>
 bO (EX .not v0) λv2=>
 bB v2 λt3=>bI t3 (
 K (I 8) H1)
 (bO (Af a0) λv4=>
 bO (Ac 5 v4) λv5=>
 bO (Ar false 1 H1 v5) λv6=>
 bO (Bf v6) λv7=>
 I5 a0 a1 Ad v6 v7 (I 0) H1 K)
theorem OI {a0 a1:AV}{H:AH}{K:KT}(h:L5 a0 a1 H K):Cr 37 [a0,a1] H K:=
 fok A6 Rk I6 func37 h
def Xa (a0 a1:AV)(H:AH)(K:KT):Prop:=
 bH (A9 H a0) λv0 H1=>
 bH (A9 H1 a1) λv2 H3=>
 bO (Ac 1 v0) λv4=>
 bO (Ar false 1 H3 v4) λv5=>
 bP (PCall prog 164 [v5,(.fn (.func 165) [] [v2])] H3) λv6=>
 K v6 H3
theorem XW {a0 a1:AV}{H:AH}{K:KT}(h:Xa a0 a1 H K):Cr 100 [a0,a1] H K:=
 fok A6 Rk BA func100 h
def Tz (a0 a1:AV)(H:AH)(K:KT):Prop:=
 bH (A9 H a0) λv0 H1=>
 bO (Ac 0 v0) λv2=>
 bO (Ar false 1 H1 v2) λv3=>
 bO (Ar false 1 H1 a1) λv4=>
 bO (Aq .eql v3 v4) λv5=>
 K v5 H1
theorem V9 {a0 a1:AV}{H:AH}{K:KT}(h:Tz a0 a1 H K):Cr 165 [a0,a1] H K:=
 fok A6 Rk BA func165 h
def NP:Nat→Option (List Bool):=Ci [(1,mk 15 0 [1,2]),(3,mk 15 0 [1,2,7])]
def K6 (p:List Bool)(n:Nat):List AV→AH→Kf→Prop:=AG prog A6 Rk Ap Ap NP (sub p (AJ f81)) n
def J3 (x1 x2:AV)(H:AH)(K:KT):Prop:=jn (mk 15 0 [1,2]) (K6 [tT,tT] 7) [x1,x2] H (Bc prog f81.results.toList K)
def GJ (x1 x2 x7:AV)(H:AH)(K:KT):Prop:=jn (mk 15 0 [1,2,7]) (K6 [tT,fF,tT,fF,tT] 6) [x1,x2,x7] H (Bl 0 (Bn (LQ (mk 15 0 [1,2]) (K6 [tT,tT] 7)) (Bc prog f81.results.toList K)))
def LB (x1 x2:AV)(H:AH)(K:KT):Prop:=
 bO (Ac 1 x2) λv0=>
 bO (Ar false 1 H v0) λv1=>
 bP (PCall prog 151 [x1,v1] H) λv2=>
 K v2 H
theorem RC (x1 x2:AV)(H:AH)(K:KT):J3 x1 x2 H K=LB x1 x2 H K:=(Cx _ _ _ _ _).trans (by kernel_rfl)
def Fe (x1 x2 x7:AV)(H:AH)(K:KT):Prop:=
 bB x7 λt0=>bI t0 (
 K (B true) H)
 (J3 x1 x2 H K)
theorem GK (x1 x2 x7:AV)(H:AH)(K:KT):GJ x1 x2 x7 H K=Fe x1 x2 x7 H K:=(Cx _ _ _ _ _).trans (by kernel_rfl)
def T4 (a0 a1:AV)(H:AH)(K:KT):Prop:=
 bH (A9 H a0) λv0 H1=>
 bO (Ac 0 v0) λv2=>
 bO (Ar false 1 H1 v2) λv3=>
 bO (Aq .eql v3 (I 1)) λv4=>
 bB v4 λt5=>bI t5 (
 GJ a1 v0 v4 H1 K)
 (bO (Aq .eql v3 (I 6)) λv6=>
 bB v6 λt7=>bI t7 (
 GJ a1 v0 v6 H1 K)
 (bO (Aq .eql v3 (I 7)) λv8=>
 GJ a1 v0 v8 H1 K))
theorem VA {a0 a1:AV}{H:AH}{K:KT}(h:T4 a0 a1 H K):Cr 81 [a0,a1] H K:=
 fok A6 Rk NP func81 h
def CO (a0 a1:AV)(H:AH)(K:KT):Prop:=
 bP (PCall prog 167 [a0,a1] H) λv0=>
 bO (Aq .geq v0 (I 0)) λv1=>
 K v1 H
theorem EC {a0 a1:AV}{H:AH}{K:KT}(h:CO a0 a1 H K):Cr 164 [a0,a1] H K:=
 fok A6 Rk BA func164 h
def Fv (a0 a1:AV)(H:AH)(K:KT):Prop:=
 bP (PCall prog 185 [a0,a1] H) λv0=>
 bO (Aq .geq v0 (I 0)) λv1=>
 K v1 H
theorem IH {a0 a1:AV}{H:AH}{K:KT}(h:Fv a0 a1 H K):Cr 151 [a0,a1] H K:=
 fok A6 Rk BA func151 h
def Fz:Nat→Option (List Bool):=Ci [(3,mk 19 0 [0,1,7,8])]
def Gc (p:List Bool)(n:Nat):List AV→AH→Kf→Prop:=AG prog A6 Rk Ap Ap Fz (sub p (AJ f185)) n
def Fy (x0 x1 x7 x8:AV)(H:AH)(K:KT):Prop:=lp (mk 19 0 [0,1,7,8]) (Gc [tT,fF,tT,fF,fF] 4) [x0,x1,x7,x8] H (Bl 0 (Bn (Gc [tT,tT] 10) (Bc prog f185.results.toList K)))
def EV (R3:RT)(x0 x1 x7 x8:AV)(H:AH)(K:KT):Prop:=
 bO (Aq .lss x8 x7) λv0=>
 bB v0 λt1=>bI t1 (
 bO (Bh 1 x0 x8) λv2=>
 bO (Ar false 1 H v2) λv3=>
 bO (Aq .eql x1 v3) λv4=>
 bB v4 λt5=>bI t5 (
 K x8 H)
 (bO (Aq .add x8 (I 1)) λv6=>
 R3 [x0,x1,x7,v6] H))
 (K (I (-1)) H)
theorem HZ {K:KT}:Xf (λR x0 x1 x7 x8 H=>EV R x0 x1 x7 x8 H K) (λx0 x1 x7 x8 H=>Fy x0 x1 x7 x8 H K):=MD (A4 _ _) (λ_ _ _ _ _ _=>by kernel_rfl)
def He (a0 a1:AV)(H:AH)(K:KT):Prop:=
 bO (Bf a0) λv0=>
 Fy a0 a1 v0 (I 0) H K
theorem K4 {a0 a1:AV}{H:AH}{K:KT}(h:He a0 a1 H K):Cr 185 [a0,a1] H K:=
 fok A6 Rk Fz func185 h
def Gb (a0:AV)(H:AH)(K:KT):Prop:=
 bO (VM .eql O7 a0 Ad) λv0=>
 bB v0 λt1=>bI t1 (
 K Ad H)
 (bH (Cv H 1 0 (Bg [u0Z] 0) []) λv2 H3=>
 bH (MJ 1 1 H3 v2 a0) λv4 H5=>
 K v4 H5)
theorem J1 {a0:AV}{H:AH}{K:KT}(h:Gb a0 H K):Cr 101 [a0] H K:=
 fok A6 Rk BA func101 h
def Ga (a0 a1:AV)(H:AH)(K:KT):Prop:=
 bH (A9 H a0) λv0 H1=>
 bH (A9 H1 a1) λv2 H3=>
 bO (Ar false 1 H3 v2) λv4=>
 bO (Aq .lss v4 (I 1)) λv5=>
 bB v5 λt6=>bI t6 (
 False)
 (K (.fn (.func 150) [] [v0,v2]) H3)
theorem J0 {a0 a1:AV}{H:AH}{K:KT}(h:Ga a0 a1 H K):Cr 79 [a0,a1] H K:=
 fok A6 Rk BA func79 h
def Lp (a0:AV)(H:AH)(K:KT):Prop:=
 bH (Cv H 1 6 (Bg [(.lit (.string ⟨#[]⟩))] 6) [(0,1,(.lit (.string ⟨#[97]⟩))),(1,1,(.lit (.string ⟨#[98]⟩))),(2,1,(.lit (.string ⟨#[99]⟩))),(3,1,(.lit (.string ⟨#[100,115,116]⟩))),(4,1,(.lit (.string ⟨#[109,97,112]⟩))),(5,1,(.lit (.string ⟨#[120,45,49]⟩)))]) λv0 H1=>
 bO (Aq .rem a0 (.lit (.int .u8 6))) λv2=>
 bO (Bh 1 v0 v2) λv3=>
 bO (Ar false 1 H1 v3) λv4=>
 K v4 H1
theorem OA {a0:AV}{H:AH}{K:KT}(h:Lp a0 H K):Cr 46 [a0] H K:=
 fok A6 Rk BA func46 h
def Ry (p:List Bool)(n:Nat):List AV→AH→Kf→Prop:=AG prog A6 Rk Ap Ap BA (sub p (AJ f112)) n
def TT (a0:AV)(H:AH)(K:KT):Prop:=
 bH (Cv H 1 18 (Bg [(.lit (.string ⟨#[]⟩))] 18) [(0,1,(.lit (.string ⟨#[97]⟩))),(1,1,(.lit (.string ⟨#[98]⟩))),(2,1,(.lit (.string ⟨#[99]⟩))),(3,1,(.lit (.string ⟨#[100,115,116]⟩))),(4,1,(.lit (.string ⟨#[109,97,112]⟩))),(5,1,(.lit (.string ⟨#[109,97,112,46,110,101,119]⟩))),(6,1,(.lit (.string ⟨#[120,45,49]⟩))),(7,1,(.lit (.string ⟨#[100,105,115,107]⟩))),(8,1,(.lit (.string ⟨#[]⟩))),(9,1,(.lit (.string ⟨#[65]⟩))),(10,1,(.lit (.string ⟨#[45,97]⟩))),(11,1,(.lit (.string ⟨#[97,47,98]⟩))),(12,1,(.lit (.string ⟨#[97,98,99,100,101,102,103,104,105,106,107,108,109,110,111,112,113,114,115,116]⟩))),(13,1,(.lit (.string ⟨#[97,98,99,100,101,102,103,104,105,106,107,108,109,110,111,112,113,114,115,116,117]⟩))),(14,1,(.lit (.string ⟨#[97,98,99,100,101,102,103,104,105,106,107,108,109,110,111,112]⟩))),(15,1,(.lit (.string ⟨#[97,98,99,100,101,102,103,104,105,106,107,108,109,110,111,112,113]⟩))),(16,1,(.lit (.string ⟨#[46]⟩))),(17,1,(.lit (.string ⟨#[48]⟩)))]) λv0 H1=>
 bO (Aq .rem a0 (.lit (.int .u8 18))) λv2=>
 bO (Bh 1 v0 v2) λv3=>
 bO (Ar false 1 H1 v3) λv4=>
 K v4 H1
attribute [irreducible] TT Ry
attribute [local irreducible] A6 BA
def Iz:Nat→Option (List Bool):=Ci [(7,mk 42 0 [0,1,5,6]),(4,mk 42 0 [0,1,5,6])]
def Em (p:List Bool)(n:Nat):List AV→AH→Kf→Prop:=AG prog A6 Rk Ap Ap Iz (sub p (AJ f45)) n
def Fl (R4:RT)(x0 x1 x5 x6:AV)(H:AH)(K:KT):Prop:=jn (mk 42 0 [0,1,5,6]) (Em [tT,tT,fF,tT,fF,fF,tT,tT] 10) [x0,x1,x5,x6] H (Pp (mk 42 0 [0,1,5,6]) R4 (Bl 0 (Bn (Em [tT,tT,tT] 10) (Bc prog f45.results.toList K))))
def Iy (x0 x1 x5 x6:AV)(H:AH)(K:KT):Prop:=lp (mk 42 0 [0,1,5,6]) (Em [tT,tT,fF,tT,fF,fF] 5) [x0,x1,x5,x6] H (Bl 0 (Bn (Em [tT,tT,tT] 10) (Bc prog f45.results.toList K)))
def E4 (R4:RT)(x0 x1 x5 x6:AV)(H:AH)(K:KT):Prop:=
 bO (Aq .add x6 (I 1)) λv0=>
 R4 [x0,x1,x5,v0] H
theorem G8 (R4:RT)(x0 x1 x5 x6:AV)(H:AH)(K:KT):Fl R4 x0 x1 x5 x6 H K=E4 R4 x0 x1 x5 x6 H K:=(Cx _ _ _ _ _).trans (by kernel_rfl)
def GS (R4:RT)(x0 x1 x5 x6:AV)(H:AH)(K:KT):Prop:=
 bO (Aq .lss x6 x1) λv0=>
 bB v0 λt1=>bI t1 (
 bO (RI .i64 x0) λv2=>
 bO (Aq .mul v2 (I 31)) λv3=>
 bO (Aq .mul x6 (I 7)) λv4=>
 bO (Aq .add v3 v4) λv5=>
 bO (Aq .quo x6 (I 8)) λv6=>
 bO (RI .i64 x0) λv7=>
 bO (Aq .mul v6 v7) λv8=>
 bO (Aq .add v5 v8) λv9=>
 bO (Aq .rem v9 (I 251)) λv10=>
 bO (RI .u8 v10) λv11=>
 bO (Bh 1 x5 x6) λv12=>
 bS (AR 1 H v12 v11) λH13=>
 bO (Aq .quo x6 (I 8)) λv14=>
 bO (RI .i64 x0) λv15=>
 bO (Aq .add v14 v15) λv16=>
 bO (Aq .rem v16 (I 3)) λv17=>
 bO (Aq .eql v17 (I 0)) λv18=>
 bB v18 λt19=>bI t19 (
 bO (Bh 1 x5 x6) λv20=>
 bS (AR 1 H13 v20 u0Z) λH21=>
 Fl R4 x0 x1 x5 x6 H21 K)
 (Fl R4 x0 x1 x5 x6 H13 K))
 (K x5 H)
theorem Kr {K:KT}:Xf (λR x0 x1 x5 x6 H=>GS R x0 x1 x5 x6 H K) (λx0 x1 x5 x6 H=>Iy x0 x1 x5 x6 H K):=MD (A4 _ _) (λ_ _ _ _ _ _=>by kernel_rfl)
def Lo (a0 a1:AV)(H:AH)(K:KT):Prop:=
 bH (qM 1 1 [u0Z] H a1 a1) λv0 H1=>
 Iy a0 a1 v0 (I 0) H1 K
theorem O9 {a0 a1:AV}{H:AH}{K:KT}(h:Lo a0 a1 H K):Cr 45 [a0,a1] H K:=
 fok A6 Rk Iz func45 h
def xY:FuncId→Bool:=TR [43,82,20,13,52,40,102,23,50,98,99,169,111,45]
def tU:FuncId→Bool:=TR [36,11]
def QU:Nat→Option (List Bool):=Ci [(200010,mk 37 0 [3,4,6,7,13,14,15,20]),(300010,mk 37 0 [3,4,6,7,10]),(4,mk 37 0 [3,4,6,7,13,14,15])]
def LV:Nat→Bool:=TR [200010]
def Dx (p:List Bool)(n:Nat):List AV→AH→Kf→Prop:=AG prog A6 xY tU LV QU (sub p (AJ f36)) n
def Ps (R4:RT)(x3 x4 x6 x7 x13 x14 x15 x20:AV)(H:AH)(K:KT):Prop:=unF prog (sub [tT,tT,fF,tT,fF,fF,tT,tT,fF,fF,tT,tT,fF] (AJ f36)) (AY (mk 37 0 [3,4,6,7,13,14,15,20]) [x3,x4,x6,x7,x13,x14,x15,x20]) H (Bl 2 (Bl 1 (Bn (Dx [tT,tT,fF,tT,fF,fF,tT,tT,tT] 15) (Pp (mk 37 0 [3,4,6,7,13,14,15]) R4 (Bl 0 (Bn (Dx [tT,tT,tT] 15) (Bc prog f36.results.toList K)))))))
def QS (x3 x4 x6 x7 x13 x14 x15:AV)(H:AH)(K:KT):Prop:=lp (mk 37 0 [3,4,6,7,13,14,15]) (Dx [tT,tT,fF,tT,fF,fF] 5) [x3,x4,x6,x7,x13,x14,x15] H (Bl 0 (Bn (Dx [tT,tT,tT] 15) (Bc prog f36.results.toList K)))
theorem PI:sub [tT,tT,fF,tT,fF,fF,tT,tT,fF,fF,tT,tT,fF] (AJ f36)=.rangeFunc (.tmp 20) #[21] (Y0 (sub [tT,tT,fF,tT,fF,fF,tT,tT,fF,fF,tT,tT,fF] (AJ f36))) (sub [tT,tT,fF,tT,fF,fF,tT,tT,fF,fF,tT,tT,fF,tT] (AJ f36)):=by kernel_rfl
def Eu (Rf:Exit→AH→Prop)(x3 x4 x6 x7 x10:AV)(H:AH)(K:KT):Prop:=
 bO (Ar false 1 H x3) λv0=>
 bO (Ar false 1 H x4) λv1=>
 bO (Ar false 1 H x7) λv2=>
 bC (BCall prog 44 [v0,v1,v2,x10] H) λv3 H4=>
 bO (Ai v3 0) λv5=>
 bO (Ai v3 1) λv6=>
 bO (Aq .neq v6 (I 0)) λv7=>
 bB v7 λt8=>bI t8 (
 bS (AR 1 H4 x6 v6) λH9=>
 Rf .ret H9)
 (bO (Ar false 1 H4 x7) λv10=>
 bO (Aq .add v10 v5) λv11=>
 bS (AR 1 H4 x7 v11) λH12=>
 Rf .normal H12)
theorem Sz (Rf:Exit→AH→Prop)(x3 x4 x6 x7 x10:AV)(H:AH)(K:KT):Dx [tT,tT,fF,tT,fF,fF,tT,tT,fF,fF,tT,tT,fF,tT] 11 (AY (mk 37 0 [3,4,6,7,10]) [x3,x4,x6,x7,x10]) H (λe _ H=>Rf e H)=Eu Rf x3 x4 x6 x7 x10 H K:=by kernel_rfl
theorem S3 (R4:RT)(x3 x4 x6 x7 x13 x14 x15 x20:AV)(H:AH)(K:KT):(Bl 2 (Bl 1 (Bn (Dx [tT,tT,fF,tT,fF,fF,tT,tT,tT] 15) (Pp (mk 37 0 [3,4,6,7,13,14,15]) R4 (Bl 0 (Bn (Dx [tT,tT,tT] 15) (Bc prog f36.results.toList K))))))) .normal (AY (mk 37 0 [3,4,6,7,13,14,15,20]) [x3,x4,x6,x7,x13,x14,x15,x20]) H=(bO (Aq .add x15 (I 1)) λv6=>
 R4 [x3,x4,x6,x7,x13,x14,v6] H):=by kernel_rfl
theorem S4 (R4:RT)(x3 x4 x6 x7 x13 x14 x15 x20:AV)(H:AH)(K:KT):(Bl 2 (Bl 1 (Bn (Dx [tT,tT,fF,tT,fF,fF,tT,tT,tT] 15) (Pp (mk 37 0 [3,4,6,7,13,14,15]) R4 (Bl 0 (Bn (Dx [tT,tT,tT] 15) (Bc prog f36.results.toList K))))))) .ret (AY (mk 37 0 [3,4,6,7,13,14,15,20]) [x3,x4,x6,x7,x13,x14,x15,x20]) H=(bO (Ar false 1 H x6) λv7=>
 K v7 H):=by kernel_rfl
def NA (R4:RT)(x3 x4 x6 x7 x13 x14 x15:AV)(H:AH)(K:KT):Prop:=
 bO (Aq .lss x15 x14) λv0=>
 bB v0 λt1=>bI t1 (
 bO (Bh 1 x13 x15) λv2=>
 bO (Ar false 1 H v2) λv3=>
 bC (BCall prog 79 [v3,(I 4096)] H) λv4 H5=>
 Ps R4 x3 x4 x6 x7 x13 x14 x15 v4 H5 K)
 (bS (AR 1 H x6 (I 0)) λH8=>
 bO (Ar false 1 H8 x6) λv9=>
 K v9 H8)
theorem QT {K:KT}:xQ (λR x3 x4 x6 x7 x13 x14 x15 H=>NA R x3 x4 x6 x7 x13 x14 x15 H K) (λx3 x4 x6 x7 x13 x14 x15 H=>QS x3 x4 x6 x7 x13 x14 x15 H K):=yR (D8 _ _) (λ_ _ _ _ _ _ _ _ _=>by kernel_rfl)
def Sy (a0 a1 a2:AV)(H:AH)(K:KT):Prop:=
 bH (A9 H a0) λv0 H1=>
 bH (A9 H1 a1) λv2 H3=>
 bH (A9 H3 (I 0)) λv4 H5=>
 bH (A9 H5 (I 0)) λv6 H7=>
 bS (AR 1 H7 v6 (I 0)) λH8=>
 bO (Bf a2) λv9=>
 QS v0 v2 v4 v6 a2 v9 (I 0) H8 K
theorem XD (a0 a1 a2:AV)(H:AH)(K:KT):O8 prog A6 xY tU LV QU f36 [a0,a1,a2] H K=Sy a0 a1 a2 H K:=by kernel_rfl
theorem XE {a0 a1 a2:AV}{H:AH}{K:KT}(h:Sy a0 a1 a2 H K):ACalls prog 36 [a0,a1,a2] H K:=
 G7 Lg func36 (by kernel_rfl) (Eq.mpr (XD a0 a1 a2 H K) h)
def Zc:Nat→Bool:=TR []
def Vl (a0 a1 a2:AV)(H:AH)(K:KT):Prop:=
 bC (BCall prog 18 [a0,a1,(B true)] H) λv0 H1=>
 bO (Ai v0 0) λv2=>
 bO (Ai v0 1) λv3=>
 bO (Aq .neq v3 (I 0)) λv4=>
 bB v4 λt5=>bI t5 (
 K v3 H1)
 (bC (BCall prog 19 [a0,v2,(I 0)] H1) λv6 H7=>
 bO (Aq .neq v6 (I 0)) λv8=>
 bB v8 λt9=>bI t9 (
 K v6 H7)
 (bA (ACalls prog 36 [a0,v2,a2] H7) λv10 H11=>
 bO (Aq .neq v10 (I 0)) λv12=>
 bB v12 λt13=>bI t13 (
 K v10 H11)
 (bH (Cv H11 1 1 (Bg [(I 0)] 1) [(0,1,v2)]) λv14 H15=>
 bC (BCall prog 37 [a0,v14] H15) λv16 H17=>
 K v16 H17)))
theorem Za (a0 a1 a2:AV)(H:AH)(K:KT):O8 prog A6 xY tU Zc BA f11 [a0,a1,a2] H K=Vl a0 a1 a2 H K:=by kernel_rfl
theorem Zb {a0 a1 a2:AV}{H:AH}{K:KT}(h:Vl a0 a1 a2 H K):ACalls prog 11 [a0,a1,a2] H K:=
 G7 Lg func11 (by kernel_rfl) (Eq.mpr (Za a0 a1 a2 H K) h)
end Go.Proofs.YtbppnhenlboefaaGreat.Av
end
