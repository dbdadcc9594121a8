/- The law and its row. No condition. -/
import Derived.Test.YtbppnhenlboefaaGreatMhD
set_option linter.unusedVariables false
set_option maxRecDepth 100000
section
namespace Go.Proofs.YtbppnhenlboefaaGreat.Av
open Go Go.Proofs.Tryz
def LE:FuncId→Bool:=ST [188,54,142,148,145,22,170,50,172,141,171,173,94,140,42,95,20,13,52,102,75,82,176,40,135,70,134,139,149,24,166,174,138,207,57,58,59,107,109,92,168]
def pF:FuncId→Bool:=ST [210,212]
def Q6 (a0:AV)(H:AH)(K:KT):Prop:=
 bH (AD H a0) λv0 H1=>
 bH (AD H1 (.agg [(I 0),Ad])) λv2 H3=>
 bO (Ac 0 v0) λv4=>
 bO (Au false 1 H3 v4) λv5=>
 bO (Ac 1 v0) λv6=>
 bO (Au false 1 H3 v6) λv7=>
 bP (BPure prog 95 [v7]) λv8=>
 bO (FK [(I 0),Ad] [(0,1,v5),(1,1,v8)]) λv9=>
 bS (AT 2 H3 v2 v9) λH10=>
 bO (Au true 2 H10 v2) λv11=>
 K v11 H10
theorem TB {a0:AV}{H:AH}{K:KT}(h:Q6 a0 H K):Cw 42 [a0] H K:=
 fok AA LE BA func42 h
def UP (a0 a1:AV)(H:AH)(K:KT):Prop:=
 bH (AD H a0) λv0 H1=>
 bO (Au true 2 H1 v0) λv2=>
 bP (PCall prog 40 [v2] H1) λv3=>
 bO (Fb .not v3) λv4=>
 bB v4 λt5=>bI t5 (
 K (.tup [(I 0),(B false)]) H1)
 (bO (Au true 2 H1 v0) λv6=>
 bC (BCall prog 51 [v6,a1] H1) λv7 H8=>
 bO (Aj v7 0) λv9=>
 bO (Aj v7 1) λv10=>
 bO (Fb .not v10) λv11=>
 bB v11 λt12=>bI t12 (
 K (.tup [(I 0),(B false)]) H8)
 (bO (Ac 0 v0) λv13=>
 bO (Au false 1 H8 v13) λv14=>
 bO (Bj 2 v14 v9) λv15=>
 bO (Ac 1 v15) λv16=>
 bO (Au false 1 H8 v16) λv17=>
 K (.tup [v17,(B true)]) H8))
theorem VM {a0 a1:AV}{H:AH}{K:KT}(h:UP a0 a1 H K):Cw 20 [a0,a1] H K:=
 fok AA LE BA func20 h
def Sc (a0 a1:AV)(H:AH)(K:KT):Prop:=
 bH (AD H a0) λv0 H1=>
 bH (AD H1 (.agg [(I 0),Ad])) λv2 H3=>
 bO (Au true 2 H3 v0) λv4=>
 bP (PCall prog 40 [v4] H3) λv5=>
 bO (Fb .not v5) λv6=>
 bB v6 λt7=>bI t7 (
 bO (FK [(I 0),Ad] []) λv8=>
 bS (AT 2 H3 v2 v8) λH9=>
 bO (Au true 2 H9 v2) λv10=>
 K (.tup [v10,(B false)]) H9)
 (bO (Au true 2 H3 v0) λv11=>
 bC (BCall prog 41 [v11,a1] H3) λv12 H13=>
 bO (Aj v12 0) λv14=>
 bO (Aj v12 1) λv15=>
 bO (Fb .not v15) λv16=>
 bB v16 λt17=>bI t17 (
 bO (FK [(I 0),Ad] []) λv18=>
 bS (AT 2 H13 v2 v18) λH19=>
 bO (Au true 2 H19 v2) λv20=>
 K (.tup [v20,(B false)]) H19)
 (bO (Ac 1 v0) λv21=>
 bO (Au false 1 H13 v21) λv22=>
 bO (Bj 3 v22 v14) λv23=>
 bO (Ac 1 v23) λv24=>
 bO (Au true 2 H13 v24) λv25=>
 bP (PCall prog 42 [v25] H13) λv26=>
 bS (AT 2 H13 v2 v26) λH27=>
 bO (Au true 2 H27 v2) λv28=>
 K (.tup [v28,(B true)]) H27))
theorem Qz {a0 a1:AV}{H:AH}{K:KT}(h:Sc a0 a1 H K):Cw 13 [a0,a1] H K:=
 fok AA LE BA func13 h
def OT:Nat→Option (List Bool):=Co [(7,mk 24 0 [3,10,11,12])]
def Q4 (p:List Bool)(n:Nat):List AV→AH→Kf→Prop:=AJ prog AA LE Aq Aq OT (sub p (AL f52)) n
def OS (x3 x10 x11 x12:AV)(H:AH)(K:KT):Prop:=lp (mk 24 0 [3,10,11,12]) (Q4 [tT,tT,tT,fF,tT,fF,fF] 8) [x3,x10,x11,x12] H (Bh 0 (Bl (Q4 [tT,tT,tT,tT] 12) (Bm prog f52.results.toList K)))
def Mc (R7:RT)(x3 x10 x11 x12:AV)(H:AH)(K:KT):Prop:=
 bO (Ap .lss x12 x11) λv0=>
 bB v0 λt1=>bI t1 (
 bO (Bj 3 x10 x12) λv2=>
 bO (Au true 3 H v2) λv3=>
 bH (AD H (.agg [(I 0),(I 0),Ad])) λv4 H5=>
 bS (AT 3 H5 v4 v3) λH6=>
 bO (Ac 1 v4) λv7=>
 bO (Ac 1 v7) λv8=>
 bO (Au false 1 H6 v8) λv9=>
 bO (Ba v9) λv10=>
 bO (Ap .add x3 v10) λv11=>
 bO (Ap .add x12 (I 1)) λv12=>
 R7 [v11,x10,x11,v12] H6)
 (K x3 H)
theorem Pz {K:KT}:WN (λR x3 x10 x11 x12 H=>Mc R x3 x10 x11 x12 H K) (λx3 x10 x11 x12 H=>OS x3 x10 x11 x12 H K):=Ms (A7 _ _) (λ_ _ _ _ _ _=>by kernel_rfl)
def UQ (a0:AV)(H:AH)(K:KT):Prop:=
 bH (AD H a0) λv0 H1=>
 bO (Au true 2 H1 v0) λv2=>
 bP (PCall prog 40 [v2] H1) λv3=>
 bO (Fb .not v3) λv4=>
 bB v4 λt5=>bI t5 (
 K (I 0) H1)
 (bO (Ac 1 v0) λv6=>
 bO (Au false 1 H1 v6) λv7=>
 bO (Ba v7) λv8=>
 OS (I 0) v7 v8 (I 0) H1 K)
theorem VN {a0:AV}{H:AH}{K:KT}(h:UQ a0 H K):Cw 52 [a0] H K:=
 fok AA LE OT func52 h
def KQ:Nat→Option (List Bool):=Co [(6,mk 27 0 [0,17,18])]
def Mb (p:List Bool)(n:Nat):List AV→AH→Kf→Prop:=AJ prog AA LE Aq Aq KQ (sub p (AL f102)) n
def Hf (x0 x17 x18:AV)(H:AH)(K:KT):Prop:=lp (mk 27 0 [0,17,18]) (Mb [tT,tT,fF,tT,fF,fF] 7) [x0,x17,x18] H (Bh 0 (Bl (Mb [tT,tT,tT] 13) (Bm prog f102.results.toList K)))
def Jp (R6:RT)(x0 x17 x18:AV)(H:AH)(K:KT):Prop:=
 bO (Ap .lss x18 x17) λv0=>
 bB v0 λt1=>bI t1 (
 bO (Tu x0 x18) λv2=>
 bP (PCall prog 166 [v2] H) λv3=>
 bO (Fb .not v3) λv4=>
 bB v4 λt5=>bI t5 (
 K (B false) H)
 (bO (Ap .add x18 (I 1)) λv6=>
 R6 [x0,x17,v6] H))
 (K (B true) H)
theorem Mr {K:KT}:uJ (λR x0 x17 x18 H=>Jp R x0 x17 x18 H K) (λx0 x17 x18 H=>Hf x0 x17 x18 H K):=kZ (A7 _ _) (λ_ _ _ _ _=>by kernel_rfl)
def OQ (a0:AV)(H:AH)(K:KT):Prop:=
 bO (Rq .eql a0 (.lit (.string ⟨#[]⟩))) λv0=>
 bG v0 false λw1=>
 gO w1 (some a0) λv2=>
 bG v0 false λw3=>
 gO w3 (Gh v2) λv4=>
 bG v0 false λw5=>
 gO w5 (Ap .gtr v4 (I 20)) λv6=>
 bO (A8 v0 (B true) v6) λv7=>
 bG v7 false λw8=>
 gO w8 (some a0) λv9=>
 bG v7 false λw10=>
 gO w10 (Tu v9 (I 0)) λv11=>
 bG v7 false λw12=>
 gO w12 (Ap .eql v11 (.lit (.int .u8 45))) λv13=>
 bO (A8 v7 (B true) v13) λv14=>
 bB v14 λt15=>bI t15 (
 K (B false) H)
 (bO (Gh a0) λv16=>
 Hf a0 v16 (I 0) H K)
theorem Sd {a0:AV}{H:AH}{K:KT}(h:OQ a0 H K):Cw 102 [a0] H K:=
 fok AA LE KQ func102 h
def Nk:Nat→Option (List Bool):=Co [(13,mk 37 0 [2,3,4,31]),(12,mk 37 0 [2,3,4,12,24]),(8,mk 37 0 [2,3,4,12,17]),(5,mk 37 0 [2,4])]
def DB (p:List Bool)(n:Nat):List AV→AH→Kf→Prop:=AJ prog AA LE Aq Aq Nk (sub p (AL f82)) n
def Dk (x2 x4:AV)(H:AH)(K:KT):Prop:=jn (mk 37 0 [2,4]) (DB [tT,tT,tT,tT] 14) [x2,x4] H (Bm prog f82.results.toList K)
def LZ (x2 x3 x4 x31:AV)(H:AH)(K:KT):Prop:=jn (mk 37 0 [2,3,4,31]) (DB [tT,tT,tT,fF,tT,fF,tT,tT,tT,tT,tT,tT,tT] 14) [x2,x3,x4,x31] H (Bh 0 (Bl (MM (mk 37 0 [2,4]) (DB [tT,tT,tT,tT] 14)) (Bm prog f82.results.toList K)))
def LY (x2 x3 x4 x12 x24:AV)(H:AH)(K:KT):Prop:=jn (mk 37 0 [2,3,4,12,24]) (DB [tT,tT,tT,fF,tT,fF,tT,tT,tT,tT,tT] 13) [x2,x3,x4,x12,x24] H (Bh 0 (Bl (MM (mk 37 0 [2,4]) (DB [tT,tT,tT,tT] 14)) (Bm prog f82.results.toList K)))
def DS (x2 x3 x4 x12 x17:AV)(H:AH)(K:KT):Prop:=jn (mk 37 0 [2,3,4,12,17]) (DB [tT,tT,tT,fF,tT,fF,tT,tT,tT] 12) [x2,x3,x4,x12,x17] H (Bh 0 (Bl (MM (mk 37 0 [2,4]) (DB [tT,tT,tT,tT] 14)) (Bm prog f82.results.toList K)))
def He (x2 x4:AV)(H:AH)(K:KT):Prop:=
 bO (Au true 2 H x2) λv0=>
 bS (AT 2 H x4 v0) λH1=>
 bO (Au true 2 H1 x4) λv2=>
 K v2 H1
theorem JZ (x2 x4:AV)(H:AH)(K:KT):Dk x2 x4 H K=He x2 x4 H K:=(DG _ _ _ _ _).trans (by kernel_rfl)
def JY (x2 x3 x4 x31:AV)(H:AH)(K:KT):Prop:=
 bB x31 λt0=>bI t0 (
 bO (Ac 5 x3) λv1=>
 bO (Au false 1 H v1) λv2=>
 bC (BCall prog 155 [x2,v2] H) λv3 H4=>
 Dk x2 x4 H4 K)
 (Dk x2 x4 H K)
theorem Px (x2 x3 x4 x31:AV)(H:AH)(K:KT):LZ x2 x3 x4 x31 H K=JY x2 x3 x4 x31 H K:=(DG _ _ _ _ _).trans (by kernel_rfl)
def JX (x2 x3 x4 x12 x24:AV)(H:AH)(K:KT):Prop:=
 bB x24 λt0=>bI t0 (
 bO (Ac 5 x3) λv1=>
 bO (Au false 1 H v1) λv2=>
 bO (Ac 6 x3) λv3=>
 bO (Au false 1 H v3) λv4=>
 bC (BCall prog 154 [x2,v2,v4] H) λv5 H6=>
 Dk x2 x4 H6 K)
 (bO (Ap .eql x12 (I 7)) λv7=>
 LZ x2 x3 x4 v7 H K)
theorem Pw (x2 x3 x4 x12 x24:AV)(H:AH)(K:KT):LY x2 x3 x4 x12 x24 H K=JX x2 x3 x4 x12 x24 H K:=(DG _ _ _ _ _).trans (by kernel_rfl)
def KP (x2 x3 x4 x12 x17:AV)(H:AH)(K:KT):Prop:=
 bB x17 λt0=>bI t0 (
 bO (Au true 8 H x3) λv1=>
 bC (BCall prog 153 [x2,v1] H) λv2 H3=>
 Dk x2 x4 H3 K)
 (bO (Ap .eql x12 (I 6)) λv4=>
 LY x2 x3 x4 x12 v4 H K)
theorem Qx (x2 x3 x4 x12 x17:AV)(H:AH)(K:KT):DS x2 x3 x4 x12 x17 H K=KP x2 x3 x4 x12 x17 H K:=(DG _ _ _ _ _).trans (by kernel_rfl)
def SP (a0 a1:AV)(H:AH)(K:KT):Prop:=
 bH (AD H a0) λv0 H1=>
 bH (AD H1 a1) λv2 H3=>
 bH (AD H3 (.agg [Ad,Ad])) λv4 H5=>
 bO (Au true 2 H5 v0) λv6=>
 bC (BCall prog 43 [v6] H5) λv7 H8=>
 bS (AT 2 H8 v0 v7) λH9=>
 bO (Au true 2 H9 v0) λv10=>
 bP (PCall prog 40 [v10] H9) λv11=>
 bO (Fb .not v11) λv12=>
 bB v12 λt13=>bI t13 (
 bO (Au true 2 H9 v0) λv14=>
 bS (AT 2 H9 v4 v14) λH15=>
 bO (Au true 2 H15 v4) λv16=>
 K v16 H15)
 (bO (Ac 0 v2) λv17=>
 bO (Au false 1 H9 v17) λv18=>
 bO (Ap .eql v18 (I 1)) λv19=>
 bB v19 λt20=>bI t20 (
 bO (Au true 8 H9 v2) λv21=>
 bC (BCall prog 152 [v0,v21] H9) λv22 H23=>
 Dk v0 v4 H23 K)
 (bO (Ap .eql v18 (I 2)) λv24=>
 bB v24 λt25=>bI t25 (
 DS v0 v2 v4 v18 v24 H9 K)
 (bO (Ap .eql v18 (I 3)) λv26=>
 bB v26 λt27=>bI t27 (
 DS v0 v2 v4 v18 v26 H9 K)
 (bO (Ap .eql v18 (I 4)) λv28=>
 bB v28 λt29=>bI t29 (
 DS v0 v2 v4 v18 v28 H9 K)
 (bO (Ap .eql v18 (I 5)) λv30=>
 DS v0 v2 v4 v18 v30 H9 K)))))
theorem UN {a0 a1:AV}{H:AH}{K:KT}(h:SP a0 a1 H K):Cw 82 [a0,a1] H K:=
 fok AA LE Nk func82 h
def Q3:Nat→Option (List Bool):=Co [(8,mk 51 0 [3,5,25,26,27])]
def SQ (p:List Bool)(n:Nat):List AV→AH→Kf→Prop:=AJ prog AA LE Aq Aq Q3 (sub p (AL f40)) n
def Q0 (x3 x5 x25 x26 x27:AV)(H:AH)(K:KT):Prop:=lp (mk 51 0 [3,5,25,26,27]) (SQ [tT,tT,tT,tT,fF,tT,fF,fF] 9) [x3,x5,x25,x26,x27] H (Bh 0 (Bl (SQ [tT,tT,tT,tT,tT] 16) (Bm prog f40.results.toList K)))
def Nl (R8:RT)(x3 x5 x25 x26 x27:AV)(H:AH)(K:KT):Prop:=
 bO (Ap .lss x27 x26) λv0=>
 bB v0 λt1=>bI t1 (
 bO (Bj 3 x25 x27) λv2=>
 bO (Au true 3 H v2) λv3=>
 bH (AD H (.agg [(I 0),(I 0),Ad])) λv4 H5=>
 bS (AT 3 H5 v4 v3) λH6=>
 bO (Ac 0 v4) λv7=>
 bO (Au false 1 H6 v7) λv8=>
 bO (Ap .leq v8 x5) λv9=>
 bG v9 false λw10=>
 gO w10 (some x3) λv11=>
 bG v9 false λw12=>
 gO w12 (Ac 0 v4) λv13=>
 bG v9 false λw14=>
 gO w14 (Au false 1 H6 v13) λv15=>
 bG v9 false λw16=>
 gO w16 (nD (.int .i64) (.bool false) H6 v11 v15 false) λv17=>
 bG v9 false λw18=>
 gO w18 (Fb .not v17) λv19=>
 bO (A8 v9 (B true) v19) λv20=>
 bG v20 false λw21=>
 gO w21 (Ac 1 v4) λv22=>
 bG v20 false λw23=>
 gO w23 (Au true 2 H6 v22) λv24=>
 bG v20 false λw25=>
 gP w25 (PCall prog 54 [v24] H6) λv26=>
 bG v20 false λw27=>
 gO w27 (Fb .not v26) λv28=>
 bO (A8 v20 (B true) v28) λv29=>
 bB v29 λt30=>bI t30 (
 K (B false) H6)
 (bO (Ac 0 v4) λv31=>
 bO (Au false 1 H6 v31) λv32=>
 bO (Ap .add x27 (I 1)) λv33=>
 R8 [x3,v32,x25,x26,v33] H6))
 (K (B true) H)
theorem Q2 {K:KT}:nA (λR x3 x5 x25 x26 x27 H=>Nl R x3 x5 x25 x26 x27 H K) (λx3 x5 x25 x26 x27 H=>Q0 x3 x5 x25 x26 x27 H K):=Xy (A7 _ _) (λ_ _ _ _ _ _ _=>by kernel_rfl)
def Wr (a0:AV)(H:AH)(K:KT):Prop:=
 bH (AD H a0) λv0 H1=>
 bO (Ac 0 v0) λv2=>
 bO (Au false 1 H1 v2) λv3=>
 bC (BCall prog 91 [v3] H1) λv4 H5=>
 bO (Aj v4 0) λv6=>
 bO (Aj v4 1) λv7=>
 bO (Fb .not v7) λv8=>
 bG v8 false λw9=>
 gO w9 (Ac 1 v0) λv10=>
 bG v8 false λw11=>
 gO w11 (Au false 1 H5 v10) λv12=>
 bG v8 false λw13=>
 gO w13 (Ba v12) λv14=>
 bG v8 false λw15=>
 gO w15 (some v6) λv16=>
 bG v8 false λw17=>
 gO w17 (ZD H5 v16) λv18=>
 bG v8 false λw19=>
 gO w19 (Ap .neq v14 v18) λv20=>
 bO (A8 v8 (B true) v20) λv21=>
 bB v21 λt22=>bI t22 (
 K (B false) H5)
 (bO (Ac 1 v0) λv23=>
 bO (Au false 1 H5 v23) λv24=>
 bO (Ba v24) λv25=>
 Q0 v6 (I 0) v24 v25 (I 0) H5 K)
theorem Xs {a0:AV}{H:AH}{K:KT}(h:Wr a0 H K):Cw 40 [a0] H K:=
 fok AA LE Q3 func40 h
def OO:C1:=KM [(1,[(4,none)])]
def OP:Nat→Option (List Bool):=Co [(4,mk 31 0 [1,2,13,14])]
def Qy (p:List Bool)(n:Nat):List AV→AH→Kf→Prop:=AJ prog OO LE Aq Aq OP (sub p (AL f43)) n
def OM (x1 x2 x13 x14:AV)(H:AH)(K:KT):Prop:=lp (mk 31 0 [1,2,13,14]) (Qy [tT,tT,fF,tT,fF,fF] 5) [x1,x2,x13,x14] H (Bh 0 (Bl (Qy [tT,tT,tT] 9) (Bm prog f43.results.toList K)))
def Ma (R4:RT)(x1 x2 x13 x14:AV)(H:AH)(K:KT):Prop:=
 bO (Ap .lss x14 x13) λv0=>
 bB v0 λt1=>bI t1 (
 bO (Ac 1 x1) λv2=>
 bO (Au false 1 H v2) λv3=>
 bO (Ac 1 x1) λv4=>
 bO (Au false 1 H v4) λv5=>
 bO (Bj 3 v5 x14) λv6=>
 bO (Ac 1 v6) λv7=>
 bO (Au true 2 H v7) λv8=>
 bP (BPure prog 42 [v8]) λv9=>
 bO (Bj 3 v3 x14) λv10=>
 bO (Ac 1 v10) λv11=>
 bS (AT 2 H v11 v9) λH12=>
 bO (Ap .add x14 (I 1)) λv13=>
 R4 [x1,x2,x13,v13] H12)
 (bO (Au true 2 H x1) λv14=>
 bS (AT 2 H x2 v14) λH15=>
 bO (Au true 2 H15 x2) λv16=>
 K v16 H15)
theorem Py {K:KT}:WN (λR x1 x2 x13 x14 H=>Ma R x1 x2 x13 x14 H K) (λx1 x2 x13 x14 H=>OM x1 x2 x13 x14 H K):=Ms (A7 _ _) (λ_ _ _ _ _ _=>by kernel_rfl)
def UO (a0:AV)(H:AH)(K:KT):Prop:=
 bH (AD H a0) λv0 H1=>
 bH (AD H1 (.agg [Ad,Ad])) λv2 H3=>
 bO (Ac 0 v0) λv4=>
 bO (Au false 1 H3 v4) λv5=>
 bC (BCall prog 96 [v5] H3) λv6 H7=>
 bO (Ac 1 v0) λv8=>
 bO (Au false 1 H7 v8) λv9=>
 bC (BCall prog 97 [v9] H7) λv10 H11=>
 bO (FK [Ad,Ad] [(0,1,v6),(1,1,v10)]) λv12=>
 bS (AT 2 H11 v0 v12) λH13=>
(Au false 1 H3 v8=some v9)∧
 bO (Ac 1 v0) λv14=>
 bO (Au false 1 H13 v14) λv15=>
 bO (Ba v15) λv16=>
 OM v0 v2 v16 (I 0) H13 K
theorem VL {a0:AV}{H:AH}{K:KT}(h:UO a0 H K):Cw 43 [a0] H K:=
 fok OO LE OP func43 h
def SR (a0 a1:AV)(H:AH)(K:KT):Prop:=
 bH (AD H a0) λv0 H1=>
 bO (Ac 0 v0) λv2=>
 bO (Au false 1 H1 v2) λv3=>
 bP (PCall prog 107 [v3,a1,(.fn (.func 108) [] [])] H1) λv4=>
 bO (Aj v4 0) λv5=>
 bO (Aj v4 1) λv6=>
 K (.tup [v5,v6]) H1
theorem UR {a0 a1:AV}{H:AH}{K:KT}(h:SR a0 a1 H K):Cw 51 [a0,a1] H K:=
 fok AA LE BA func51 h
def UT (a0 a1:AV)(H:AH)(K:KT):Prop:=
 bH (AD H a0) λv0 H1=>
 bO (Ac 1 v0) λv2=>
 bO (Au false 1 H1 v2) λv3=>
 bP (PCall prog 92 [v3,a1,(.fn (.func 93) [] [])] H1) λv4=>
 bO (Aj v4 0) λv5=>
 bO (Aj v4 1) λv6=>
 K (.tup [v5,v6]) H1
theorem VO {a0 a1:AV}{H:AH}{K:KT}(h:UT a0 a1 H K):Cw 41 [a0,a1] H K:=
 fok AA LE BA func41 h
def Ws (a0:AV)(H:AH)(K:KT):Prop:=
 bO (Ap .geq a0 (.lit (.int .u8 97))) λv0=>
 bG v0 true λw1=>
 gO w1 (some a0) λv2=>
 bG v0 true λw3=>
 gO w3 (Ap .leq v2 (.lit (.int .u8 122))) λv4=>
 bO (A8 v0 v4 (B false)) λv5=>
 bG v5 false λw6=>
 gO w6 (some a0) λv7=>
 bG v5 false λw8=>
 gO w8 (Ap .geq v7 (.lit (.int .u8 48))) λv9=>
 bG v5 false λw10=>
 gO w10 (some v9) λv11=>
 bG v11 true λw12=>
 gO w12 (some a0) λv13=>
 bG v11 true λw14=>
 gO w14 (Ap .leq v13 (.lit (.int .u8 57))) λv15=>
 bG v5 false λw16=>
 gO w16 (A8 v11 v15 (B false)) λv17=>
 bO (A8 v5 (B true) v17) λv18=>
 bG v18 false λw19=>
 gO w19 (some a0) λv20=>
 bG v18 false λw21=>
 gO w21 (Ap .eql v20 (.lit (.int .u8 46))) λv22=>
 bO (A8 v18 (B true) v22) λv23=>
 bG v23 false λw24=>
 gO w24 (some a0) λv25=>
 bG v23 false λw26=>
 gO w26 (Ap .eql v25 (.lit (.int .u8 95))) λv27=>
 bO (A8 v23 (B true) v27) λv28=>
 bG v28 false λw29=>
 gO w29 (some a0) λv30=>
 bG v28 false λw31=>
 gO w31 (Ap .eql v30 (.lit (.int .u8 45))) λv32=>
 bO (A8 v28 (B true) v32) λv33=>
 K v33 H
theorem Xt {a0:AV}{H:AH}{K:KT}(h:Ws a0 H K):Cw 166 [a0] H K:=
 fok AA LE BA func166 h
def Me:Nat→Option (List Bool):=Co [(100004,mk 82 0 [0,3,4,6]),(100005,mk 82 0 [0,3,6]),(5,mk 82 0 [0,3,6])]
def Mg:Nat→Bool:=ST [4,5]
def Gz (p:List Bool)(n:Nat):List AV→AH→Kf→Prop:=AJ prog AA LE pF Mg Me (sub p (AL f152)) n
def Ie (x0 x3 x6:AV)(H:AH)(K:KT):Prop:=unR prog 5 (Ze (sub [tT,tT,tT,tT,tT] (AL f152))) (AW (mk 82 0 [0,3,6]) [x0,x3,x6]) H (Bm prog f152.results.toList K)
def Ic (x0 x3 x6:AV)(H:AH)(K:KT):Prop:=jn (mk 82 0 [0,3,6]) (Gz [tT,tT,tT,tT,tT] 6) [x0,x3,x6] H (Bm prog f152.results.toList K)
def FH (x0 x3 x4 x6:AV)(H:AH)(K:KT):Prop:=unR prog 4 (Ze (sub [tT,tT,tT,tT,fF] (AL f152))) (AW (mk 82 0 [0,3,4,6]) [x0,x3,x4,x6]) H (Bl (MM (mk 82 0 [0,3,6]) (Gz [tT,tT,tT,tT,tT] 6)) (Bm prog f152.results.toList K))
def Ka (x0 x3 x6:AV)(H:AH)(K:KT):Prop:=
 Ie x0 x3 x6 H K
theorem P0 (x0 x3 x6:AV)(H:AH)(K:KT):Ic x0 x3 x6 H K=Ka x0 x3 x6 H K:=(DG _ _ _ _ _).trans (by kernel_rfl)
def I9 (a0 a1:AV)(H:AH)(K:KT):Prop:=
 bH (AD H a1) λv0 H1=>
 bO (Ai a0) λv2=>
 bO (Au true 2 H1 v2) λv3=>
 bO (Ac 5 v0) λv4=>
 bO (Au false 1 H1 v4) λv5=>
 bC (BCall prog 51 [v3,v5] H1) λv6 H7=>
 bO (Aj v6 0) λv8=>
 bO (Aj v6 1) λv9=>
 bO (Ai a0) λv10=>
 bO (Au true 2 H7 v10) λv11=>
 bO (Ac 1 v0) λv12=>
 bO (Au false 1 H7 v12) λv13=>
 bC (BCall prog 41 [v11,v13] H7) λv14 H15=>
 bO (Aj v14 0) λv16=>
 bO (Aj v14 1) λv17=>
 bG v9 false λw18=>
 gO w18 (some v17) λv19=>
 bO (A8 v9 (B true) v19) λv20=>
 bG v20 false λw21=>
 gO w21 (Ac 5 v0) λv22=>
 bG v20 false λw23=>
 gO w23 (Au false 1 H15 v22) λv24=>
 bG v20 false λw25=>
 gP w25 (PCall prog 102 [v24] H15) λv26=>
 bG v20 false λw27=>
 gO w27 (Fb .not v26) λv28=>
 bO (A8 v20 (B true) v28) λv29=>
 bG v29 false λw30=>
 gO w30 (Ac 1 v0) λv31=>
 bG v29 false λw32=>
 gO w32 (Au false 1 H15 v31) λv33=>
 bG v29 false λw34=>
 gO w34 (Ap .lss v33 (I 1)) λv35=>
 bO (A8 v29 (B true) v35) λv36=>
 bG v36 false λw37=>
 gO w37 (Ac 1 v0) λv38=>
 bG v36 false λw39=>
 gO w39 (Au false 1 H15 v38) λv40=>
 bG v36 false λw41=>
 gO w41 (Ap .gtr v40 (I 4611686018427387904)) λv42=>
 bO (A8 v36 (B true) v42) λv43=>
 bG v43 false λw44=>
 gO w44 (some a0) λv45=>
 bG v43 false λw46=>
 gO w46 (Ai v45) λv47=>
 bG v43 false λw48=>
 gO w48 (Ac 0 v47) λv49=>
 bG v43 false λw50=>
 gO w50 (Au false 1 H15 v49) λv51=>
 bG v43 false λw52=>
 gO w52 (Ba v51) λv53=>
 bG v43 false λw54=>
 gO w54 (Ap .geq v53 (I 16)) λv55=>
 bO (A8 v43 (B true) v55) λv56=>
 bB v56 λt57=>bI t57 (
 K (.tup []) H15)
 (FH a0 v0 v8 v16 H15 K)
theorem TC (a0 a1:AV)(H:AH)(K:KT):N1 prog AA LE pF Mg Me f152 [a0,a1] H K=I9 a0 a1 H K:=by kernel_rfl
theorem Mf {a0 a1:AV}{H:AH}{K:KT}(h:I9 a0 a1 H K):ACalls prog 152 [a0,a1] H K:=
 FJ Kn func152 (by kernel_rfl) (Eq.mpr (TC a0 a1 H K) h)
def Md:Nat→Option (List Bool):=Co [(11,mk 81 0 [0,4,6,72]),(5,mk 81 0 [0,4,5,6])]
def Nn (p:List Bool)(n:Nat):List AV→AH→Kf→Prop:=AJ prog AA LE Aq Aq Md (sub p (AL f153)) n
def KR (x0 x4 x6 x72:AV)(H:AH)(K:KT):Prop:=jn (mk 81 0 [0,4,6,72]) (Nn [tT,tT,tT,tT,tT,tT] 12) [x0,x4,x6,x72] H (Bm prog f153.results.toList K)
def Ct (x0 x4 x5 x6:AV)(H:AH)(K:KT):Prop:=jn (mk 81 0 [0,4,5,6]) (Nn [tT,tT,tT,tT,tT] 11) [x0,x4,x5,x6] H (Bm prog f153.results.toList K)
def FN (x0 x4 x6 x72:AV)(H:AH)(K:KT):Prop:=
 bB x72 λt0=>bI t0 (
 bO (Ai x0) λv1=>
 bO (Ac 1 v1) λv2=>
 bO (Au false 1 H v2) λv3=>
 bO (Au true 2 H x6) λv4=>
 bO (Bj 3 v3 x4) λv5=>
 bO (Ac 1 v5) λv6=>
 bS (AT 2 H v6 v4) λH7=>
 K (.tup []) H7)
 (K (.tup []) H)
theorem Iq (x0 x4 x6 x72:AV)(H:AH)(K:KT):KR x0 x4 x6 x72 H K=FN x0 x4 x6 x72 H K:=(DG _ _ _ _ _).trans (by kernel_rfl)
def Gy (x0 x4 x5 x6:AV)(H:AH)(K:KT):Prop:=
 KR x0 x4 x6 x5 H K
theorem Jq (x0 x4 x5 x6:AV)(H:AH)(K:KT):Ct x0 x4 x5 x6 H K=Gy x0 x4 x5 x6 H K:=(DG _ _ _ _ _).trans (by kernel_rfl)
def Q5 (a0 a1:AV)(H:AH)(K:KT):Prop:=
 bH (AD H a1) λv0 H1=>
 bO (Ai a0) λv2=>
 bO (Au true 2 H1 v2) λv3=>
 bO (Ac 1 v0) λv4=>
 bO (Au false 1 H1 v4) λv5=>
 bC (BCall prog 41 [v3,v5] H1) λv6 H7=>
 bO (Aj v6 0) λv8=>
 bO (Aj v6 1) λv9=>
 bO (Fb .not v9) λv10=>
 bB v10 λt11=>bI t11 (
 K (.tup []) H7)
 (bO (Ai a0) λv12=>
 bO (Ac 1 v12) λv13=>
 bO (Au false 1 H7 v13) λv14=>
 bO (Bj 3 v14 v8) λv15=>
 bO (Ac 1 v15) λv16=>
 bO (Au true 2 H7 v16) λv17=>
 bH (AD H7 (.agg [(I 0),Ad])) λv18 H19=>
 bS (AT 2 H19 v18 v17) λH20=>
 bO (Ac 0 v0) λv21=>
 bO (Au false 1 H20 v21) λv22=>
 bO (Ap .eql v22 (I 2)) λv23=>
 bB v23 λt24=>bI t24 (
 bO (Au true 2 H20 v18) λv25=>
 bO (Ac 2 v0) λv26=>
 bO (Au false 1 H20 v26) λv27=>
 bO (Ac 7 v0) λv28=>
 bO (Au false 1 H20 v28) λv29=>
 bP (PCall prog 188 [v25,v27,v29] H20) λv30=>
 bO (Aj v30 0) λv31=>
 bO (Aj v30 1) λv32=>
 bS (AT 2 H20 v18 v31) λH33=>
 Ct a0 v8 v32 v18 H33 K)
 (bO (Ap .eql v22 (I 3)) λv34=>
 bB v34 λt35=>bI t35 (
 bO (Au true 2 H20 v18) λv36=>
 bO (Ac 3 v0) λv37=>
 bO (Au false 1 H20 v37) λv38=>
 bP (PCall prog 50 [v36,v38] H20) λv39=>
 bO (Aj v39 0) λv40=>
 bO (Aj v39 1) λv41=>
 bS (AT 2 H20 v18 v40) λH42=>
 Ct a0 v8 v41 v18 H42 K)
 (bO (Ap .eql v22 (I 4)) λv43=>
 bB v43 λt44=>bI t44 (
 bO (Au true 2 H20 v18) λv45=>
 bO (Ac 2 v0) λv46=>
 bO (Au false 1 H20 v46) λv47=>
 bO (Ac 3 v0) λv48=>
 bO (Au false 1 H20 v48) λv49=>
 bO (Ac 4 v0) λv50=>
 bO (Au false 1 H20 v50) λv51=>
 bP (PCall prog 170 [v45,v47,v49,v51] H20) λv52=>
 bO (Aj v52 0) λv53=>
 bO (Aj v52 1) λv54=>
 bS (AT 2 H20 v18 v53) λH55=>
 Ct a0 v8 v54 v18 H55 K)
 (bO (Ap .eql v22 (I 5)) λv56=>
 bB v56 λt57=>bI t57 (
 bO (Au true 2 H20 v18) λv58=>
 bO (Ac 2 v0) λv59=>
 bO (Au false 1 H20 v59) λv60=>
 bO (Ac 3 v0) λv61=>
 bO (Au false 1 H20 v61) λv62=>
 bP (PCall prog 172 [v58,v60,v62] H20) λv63=>
 bO (Aj v63 0) λv64=>
 bO (Aj v63 1) λv65=>
 bS (AT 2 H20 v18 v64) λH66=>
 Ct a0 v8 v65 v18 H66 K)
 (Ct a0 v8 v9 v18 H20 K)))))
theorem TA {a0 a1:AV}{H:AH}{K:KT}(h:Q5 a0 a1 H K):Cw 153 [a0,a1] H K:=
 fok AA LE Md func153 h
def Q9 (a0 a1 a2:AV)(H:AH)(K:KT):Prop:=
 bO (Ai a0) λv0=>
 bO (Au true 2 H v0) λv1=>
 bC (BCall prog 51 [v1,a1] H) λv2 H3=>
 bO (Aj v2 0) λv4=>
 bO (Aj v2 1) λv5=>
 bO (Fb .not v5) λv6=>
 bG v6 false λw7=>
 gO w7 (some a2) λv8=>
 bG v6 false λw9=>
 gP w9 (PCall prog 102 [v8] H3) λv10=>
 bG v6 false λw11=>
 gO w11 (Fb .not v10) λv12=>
 bO (A8 v6 (B true) v12) λv13=>
 bG v13 false λw14=>
 gO w14 (some a1) λv15=>
 bG v13 false λw16=>
 gO w16 (some a2) λv17=>
 bG v13 false λw18=>
 gO w18 (Rq .eql v15 v17) λv19=>
 bO (A8 v13 (B true) v19) λv20=>
 bB v20 λt21=>bI t21 (
 K (.tup []) H3)
 (bO (Ai a0) λv22=>
 bO (Ac 0 v22) λv23=>
 bO (Au false 1 H3 v23) λv24=>
 bO (Bj 2 v24 v4) λv25=>
 bO (Ac 1 v25) λv26=>
 bO (Au false 1 H3 v26) λv27=>
 bO (Ai a0) λv28=>
 bO (Ac 0 v28) λv29=>
 bO (Au false 1 H3 v29) λv30=>
 bO (Ap .add v4 (I 1)) λv31=>
 bC (BCall prog 189 [v30,v4,v31] H3) λv32 H33=>
 bO (Ai a0) λv34=>
 bO (Ac 0 v34) λv35=>
 bS (AT 1 H33 v35 v32) λH36=>
 bC (BCall prog 155 [a0,a2] H36) λv37 H38=>
 bO (Ai a0) λv39=>
 bO (Au true 2 H38 v39) λv40=>
 bC (BCall prog 51 [v40,a2] H38) λv41 H42=>
 bO (Aj v41 0) λv43=>
 bO (Aj v41 1) λv44=>
 bO (Ai a0) λv45=>
 bO (Ac 0 v45) λv46=>
 bO (Au false 1 H42 v46) λv47=>
 bO (FK [(.lit (.string ⟨#[]⟩)),(I 0)] [(0,1,a2),(1,1,v27)]) λv48=>
 bH (Cr H42 2 1 (Be [(.lit (.string ⟨#[]⟩)),(I 0)] 1) [(0,2,v48)]) λv49 H50=>
 bC (BCall prog 186 [v47,v43,v49] H50) λv51 H52=>
 bO (Ai a0) λv53=>
 bO (Ac 0 v53) λv54=>
 bS (AT 1 H52 v54 v51) λH55=>
 K (.tup []) H55)
theorem TF {a0 a1 a2:AV}{H:AH}{K:KT}(h:Q9 a0 a1 a2 H K):Cw 154 [a0,a1,a2] H K:=
 fok AA LE BA func154 h
def Q8 (a0 a1:AV)(H:AH)(K:KT):Prop:=
 bO (Ai a0) λv0=>
 bO (Au true 2 H v0) λv1=>
 bC (BCall prog 51 [v1,a1] H) λv2 H3=>
 bO (Aj v2 0) λv4=>
 bO (Aj v2 1) λv5=>
 bO (Fb .not v5) λv6=>
 bB v6 λt7=>bI t7 (
 K (.tup []) H3)
 (bO (Ai a0) λv8=>
 bO (Au true 2 H3 v8) λv9=>
 bO (Ai a0) λv10=>
 bO (Ac 0 v10) λv11=>
 bO (Au false 1 H3 v11) λv12=>
 bO (Bj 2 v12 v4) λv13=>
 bO (Ac 1 v13) λv14=>
 bO (Au false 1 H3 v14) λv15=>
 bC (BCall prog 41 [v9,v15] H3) λv16 H17=>
 bO (Aj v16 0) λv18=>
 bO (Aj v16 1) λv19=>
 bO (Ai a0) λv20=>
 bO (Ac 0 v20) λv21=>
 bO (Au false 1 H17 v21) λv22=>
 bO (Ap .add v4 (I 1)) λv23=>
 bC (BCall prog 189 [v22,v4,v23] H17) λv24 H25=>
 bO (Ai a0) λv26=>
 bO (Ac 0 v26) λv27=>
 bS (AT 1 H25 v27 v24) λH28=>
 bO (Ai a0) λv29=>
 bO (Ac 1 v29) λv30=>
 bO (Au false 1 H28 v30) λv31=>
 bO (Ap .add v18 (I 1)) λv32=>
 bC (BCall prog 190 [v31,v18,v32] H28) λv33 H34=>
 bO (Ai a0) λv35=>
 bO (Ac 1 v35) λv36=>
 bS (AT 1 H34 v36 v33) λH37=>
 K (.tup []) H37)
theorem TE {a0 a1:AV}{H:AH}{K:KT}(h:Q8 a0 a1 H K):Cw 155 [a0,a1] H K:=
 fok AA LE BA func155 h
def Nq:Nat→Option (List Bool):=Co [(7,mk 58 0 [0,4,11,12,13])]
def OV (p:List Bool)(n:Nat):List AV→AH→Kf→Prop:=AJ prog AA LE Aq Aq Nq (sub p (AL f91)) n
def Np (x0 x4 x11 x12 x13:AV)(H:AH)(K:KT):Prop:=lp (mk 58 0 [0,4,11,12,13]) (OV [tT,tT,tT,fF,tT,fF,fF] 8) [x0,x4,x11,x12,x13] H (Bh 0 (Bl (OV [tT,tT,tT,tT] 15) (Bm prog f91.results.toList K)))
def KS (R7:RT)(x0 x4 x11 x12 x13:AV)(H:AH)(K:KT):Prop:=
 bO (Ap .lss x13 x12) λv0=>
 bB v0 λt1=>bI t1 (
 bO (Bj 2 x11 x13) λv2=>
 bO (Au true 2 H v2) λv3=>
 bH (AD H (.agg [(.lit (.string ⟨#[]⟩)),(I 0)])) λv4 H5=>
 bS (AT 2 H5 v4 v3) λH6=>
 bO (Ac 0 v4) λv7=>
 bO (Au false 1 H6 v7) λv8=>
 bP (BPure prog 102 [v8]) λv9=>
 bO (Fb .not v9) λv10=>
 bG v10 false λw11=>
 gO w11 (some x13) λv12=>
 bG v10 false λw13=>
 gO w13 (Ap .gtr v12 (I 0)) λv14=>
 bG v10 false λw15=>
 gO w15 (some v14) λv16=>
 bG v16 true λw17=>
 gO w17 (some x0) λv18=>
 bG v16 true λw19=>
 gO w19 (some x13) λv20=>
 bG v16 true λw21=>
 gO w21 (Ap .sub v20 (I 1)) λv22=>
 bG v16 true λw23=>
 gO w23 (Bj 2 v18 v22) λv24=>
 bG v16 true λw25=>
 gO w25 (Ac 0 v24) λv26=>
 bG v16 true λw27=>
 gO w27 (Au false 1 H6 v26) λv28=>
 bG v16 true λw29=>
 gO w29 (Ac 0 v4) λv30=>
 bG v16 true λw31=>
 gO w31 (Au false 1 H6 v30) λv32=>
 bG v16 true λw33=>
 gO w33 (Rq .geq v28 v32) λv34=>
 bG v10 false λw35=>
 gO w35 (A8 v16 v34 (B false)) λv36=>
 bO (A8 v10 (B true) v36) λv37=>
 bG v37 false λw38=>
 gO w38 (Ac 1 v4) λv39=>
 bG v37 false λw40=>
 gO w40 (Au false 1 H6 v39) λv41=>
 bG v37 false λw42=>
 gO w42 (Ap .lss v41 (I 1)) λv43=>
 bO (A8 v37 (B true) v43) λv44=>
 bG v44 false λw45=>
 gO w45 (Ac 1 v4) λv46=>
 bG v44 false λw47=>
 gO w47 (Au false 1 H6 v46) λv48=>
 bG v44 false λw49=>
 gO w49 (Ap .gtr v48 (I 4611686018427387904)) λv50=>
 bO (A8 v44 (B true) v50) λv51=>
 bG v51 false λw52=>
 gO w52 (some x4) λv53=>
 bG v51 false λw54=>
 gO w54 (Ac 1 v4) λv55=>
 bG v51 false λw56=>
 gO w56 (Au false 1 H6 v55) λv57=>
 bG v51 false λw58=>
 gO w58 (nD (.int .i64) (.bool false) H6 v53 v57 false) λv59=>
 bO (A8 v51 (B true) v59) λv60=>
 bB v60 λt61=>bI t61 (
 K (.tup [(.lit (.map none)),(B false)]) H6)
 (bO (Ac 1 v4) λv62=>
 bO (Au false 1 H6 v62) λv63=>
 bS (uK (.int .i64) H6 x4 v63 (B true)) λH64=>
 bO (Ap .add x13 (I 1)) λv65=>
 R7 [x0,x4,x11,x12,v65] H64))
 (K (.tup [x4,(B true)]) H)
theorem Om {K:KT}:nA (λR x0 x4 x11 x12 x13 H=>KS R x0 x4 x11 x12 x13 H K) (λx0 x4 x11 x12 x13 H=>Np x0 x4 x11 x12 x13 H K):=Xy (A7 _ _) (λ_ _ _ _ _ _ _=>by kernel_rfl)
def SS (a0:AV)(H:AH)(K:KT):Prop:=
 bO (Ba a0) λv0=>
 bO (Ap .gtr v0 (I 16)) λv1=>
 bB v1 λt2=>bI t2 (
 K (.tup [(.lit (.map none)),(B false)]) H)
 (bH (rP H none) λv3 H4=>
 bO (Ba a0) λv5=>
 Np a0 v3 a0 v5 (I 0) H4 K)
theorem US {a0:AV}{H:AH}{K:KT}(h:SS a0 H K):Cw 91 [a0] H K:=
 fok AA LE Nq func91 h
def DJ (a0:AV)(H:AH)(K:KT):Prop:=
 bO (V5 .eql On a0 Ad) λv0=>
 bB v0 λt1=>bI t1 (
 K Ad H)
 (bH (Cr H 2 0 (Be [(.lit (.string ⟨#[]⟩)),(I 0)] 0) []) λv2 H3=>
 bH (Mm 2 24 H3 v2 a0) λv4 H5=>
 K v4 H5)
theorem FQ {a0:AV}{H:AH}{K:KT}(h:DJ a0 H K):Cw 96 [a0] H K:=
 fok AA LE BA func96 h
def DK (a0:AV)(H:AH)(K:KT):Prop:=
 bO (V5 .eql On a0 Ad) λv0=>
 bB v0 λt1=>bI t1 (
 K Ad H)
 (bH (Cr H 3 0 (Be [(I 0),(I 0),Ad] 0) []) λv2 H3=>
 bH (Mm 3 40 H3 v2 a0) λv4 H5=>
 K v4 H5)
theorem FS {a0:AV}{H:AH}{K:KT}(h:DK a0 H K):Cw 97 [a0] H K:=
 fok AA LE BA func97 h
def BG:Nat→Option (List Bool):=Co [(4,mk 49 0 [0,1,2,8,9,10])]
def BJ (p:List Bool)(n:Nat):List AV→AH→Kf→Prop:=AJ prog AA LE Aq Aq BG (sub p (AL f107)) n
def BF (x0 x1 x2 x8 x9 x10:AV)(H:AH)(K:KT):Prop:=lp (mk 49 0 [0,1,2,8,9,10]) (BJ [tT,tT,tT,fF,fF,fF] 5) [x0,x1,x2,x8,x9,x10] H (Bh 0 (Bl (BJ [tT,tT,tT,tT] 9) (Bm prog f107.results.toList K)))
def B5 (R4:RT)(x0 x1 x2 x8 x9 x10:AV)(H:AH)(K:KT):Prop:=
 bO (Ap .lss x9 x10) λv0=>
 bB v0 λt1=>bI t1 (
 bO (Ap .add x9 x10) λv2=>
 bO (Ts .u64 v2) λv3=>
 bO (Ap .shr v3 (.lit (.int .u64 1))) λv4=>
 bO (Ts .i64 v4) λv5=>
 bO (Bj 2 x0 v5) λv6=>
 bO (Au true 2 H v6) λv7=>
 bF true x2 λk10 f10 c10=>
 bT (B4 prog k10||!true)<|
 bC (BCall prog k10 (f10++[v7,x1]++c10) H) λv8 H9=>
 bO (Ap .lss v8 (I 0)) λv11=>
 bB v11 λt12=>bI t12 (
 bO (Ap .add v5 (I 1)) λv13=>
 R4 [x0,x1,x2,x8,v13,x10] H9)
 (R4 [x0,x1,x2,x8,x9,v5] H9))
 (bO (Ap .lss x9 x8) λv14=>
 bG v14 true λw15=>
 gO w15 (some x2) λv16=>
 bG v14 true λw17=>
 gO w17 (some x0) λv18=>
 bG v14 true λw19=>
 gO w19 (some x9) λv20=>
 bG v14 true λw21=>
 gO w21 (Bj 2 v18 v20) λv22=>
 bG v14 true λw23=>
 gO w23 (Au true 2 H v22) λv24=>
 bG v14 true λw25=>
 gO w25 (some x1) λv26=>
 bG v14 true λw27=>
 bF w27 v16 λk30 f30 c30=>
 bT (B4 prog k30||!w27)<|
 gC w27 (BCall prog k30 (f30++[v24,v26]++c30) H) H λv28 H29=>
 bG v14 true λw31=>
 gO w31 (Ap .eql v28 (I 0)) λv32=>
 bO (A8 v14 v32 (B false)) λv33=>
 K (.tup [x9,v33]) H29)
theorem C8 {K:KT}:nM (λR x0 x1 x2 x8 x9 x10 H=>B5 R x0 x1 x2 x8 x9 x10 H K) (λx0 x1 x2 x8 x9 x10 H=>BF x0 x1 x2 x8 x9 x10 H K):=fX (A7 _ _) (λ_ _ _ _ _ _ _ _=>by kernel_rfl)
def BR (a0 a1 a2:AV)(H:AH)(K:KT):Prop:=
 bO (Ba a0) λv0=>
 BF a0 a1 a2 v0 (I 0) v0 H K
theorem Dc {a0 a1 a2:AV}{H:AH}{K:KT}(h:BR a0 a1 a2 H K):Cw 107 [a0,a1,a2] H K:=
 fok AA LE BG func107 h
def OU (a0 a1:AV)(H:AH)(K:KT):Prop:=
 bH (AD H a0) λv0 H1=>
 bO (Ac 0 v0) λv2=>
 bO (Au false 1 H1 v2) λv3=>
 bP (PCall prog 109 [v3,a1] H1) λv4=>
 K v4 H1
theorem Se {a0 a1:AV}{H:AH}{K:KT}(h:OU a0 a1 H K):Cw 108 [a0,a1] H K:=
 fok AA LE BA func108 h
def Ml (a0 a1:AV)(H:AH)(K:KT):Prop:=
 bP (PCall prog 168 [a0,a1] H) λv0=>
 K v0 H
theorem PA {a0 a1:AV}{H:AH}{K:KT}(h:Ml a0 a1 H K):Cw 109 [a0,a1] H K:=
 fok AA LE BA func109 h
def BT:Nat→Option (List Bool):=Co [(4,mk 49 0 [0,1,2,8,9,10])]
def BV (p:List Bool)(n:Nat):List AV→AH→Kf→Prop:=AJ prog AA LE Aq Aq BT (sub p (AL f92)) n
def BS (x0 x1 x2 x8 x9 x10:AV)(H:AH)(K:KT):Prop:=lp (mk 49 0 [0,1,2,8,9,10]) (BV [tT,tT,tT,fF,fF,fF] 5) [x0,x1,x2,x8,x9,x10] H (Bh 0 (Bl (BV [tT,tT,tT,tT] 9) (Bm prog f92.results.toList K)))
def BK (R4:RT)(x0 x1 x2 x8 x9 x10:AV)(H:AH)(K:KT):Prop:=
 bO (Ap .lss x9 x10) λv0=>
 bB v0 λt1=>bI t1 (
 bO (Ap .add x9 x10) λv2=>
 bO (Ts .u64 v2) λv3=>
 bO (Ap .shr v3 (.lit (.int .u64 1))) λv4=>
 bO (Ts .i64 v4) λv5=>
 bO (Bj 3 x0 v5) λv6=>
 bO (Au true 3 H v6) λv7=>
 bF true x2 λk10 f10 c10=>
 bT (B4 prog k10||!true)<|
 bC (BCall prog k10 (f10++[v7,x1]++c10) H) λv8 H9=>
 bO (Ap .lss v8 (I 0)) λv11=>
 bB v11 λt12=>bI t12 (
 bO (Ap .add v5 (I 1)) λv13=>
 R4 [x0,x1,x2,x8,v13,x10] H9)
 (R4 [x0,x1,x2,x8,x9,v5] H9))
 (bO (Ap .lss x9 x8) λv14=>
 bG v14 true λw15=>
 gO w15 (some x2) λv16=>
 bG v14 true λw17=>
 gO w17 (some x0) λv18=>
 bG v14 true λw19=>
 gO w19 (some x9) λv20=>
 bG v14 true λw21=>
 gO w21 (Bj 3 v18 v20) λv22=>
 bG v14 true λw23=>
 gO w23 (Au true 3 H v22) λv24=>
 bG v14 true λw25=>
 gO w25 (some x1) λv26=>
 bG v14 true λw27=>
 bF w27 v16 λk30 f30 c30=>
 bT (B4 prog k30||!w27)<|
 gC w27 (BCall prog k30 (f30++[v24,v26]++c30) H) H λv28 H29=>
 bG v14 true λw31=>
 gO w31 (Ap .eql v28 (I 0)) λv32=>
 bO (A8 v14 v32 (B false)) λv33=>
 K (.tup [x9,v33]) H29)
theorem CP {K:KT}:nM (λR x0 x1 x2 x8 x9 x10 H=>BK R x0 x1 x2 x8 x9 x10 H K) (λx0 x1 x2 x8 x9 x10 H=>BS x0 x1 x2 x8 x9 x10 H K):=fX (A7 _ _) (λ_ _ _ _ _ _ _ _=>by kernel_rfl)
def Ch (a0 a1 a2:AV)(H:AH)(K:KT):Prop:=
 bO (Ba a0) λv0=>
 BS a0 a1 a2 v0 (I 0) v0 H K
theorem Du {a0 a1 a2:AV}{H:AH}{K:KT}(h:Ch a0 a1 a2 H K):Cw 92 [a0,a1,a2] H K:=
 fok AA LE BT func92 h
def Q7 (a0 a1:AV)(H:AH)(K:KT):Prop:=
 bH (AD H a0) λv0 H1=>
 bO (Ac 0 v0) λv2=>
 bO (Au false 1 H1 v2) λv3=>
 bP (PCall prog 94 [v3,a1] H1) λv4=>
 K v4 H1
theorem TD {a0 a1:AV}{H:AH}{K:KT}(h:Q7 a0 a1 H K):Cw 93 [a0,a1] H K:=
 fok AA LE BA func93 h
def FC:Nat→Bool:=ST []
def D9 (a0 a1 a2:AV)(H:AH)(K:KT):Prop:=
 bO (AX 2 a0 (some a1) none none) λv0=>
 bO (Ba a2) λv1=>
 bO (Ap .eql v1 (I 0)) λv2=>
 bB v2 λt3=>bI t3 (
 K a0 H)
 (bO (Ba a0) λv4=>
 bO (Ap .eql a1 v4) λv5=>
 bB v5 λt6=>bI t6 (
 bH (Mm 2 24 H a0 a2) λv7 H8=>
 K v7 H8)
 (bO (Ap .add v4 v1) λv9=>
 bO (V6 a0) λv10=>
 bO (Ap .gtr v9 v10) λv11=>
 bB v11 λt12=>bI t12 (
 bO (AX 2 a0 none (some a1) none) λv13=>
 bO (Ap .add v4 v1) λv14=>
 bO (Ap .sub v14 a1) λv15=>
 bH (Kj H 2 24 [(.lit (.string ⟨#[]⟩)),(I 0)] v13 v15) λv16 H17=>
 bO (AX 2 v16 (some a1) none none) λv18=>
 bH (Oe 2 H17 v18 a2) λv19 H20=>
 bO (Ap .add a1 v1) λv21=>
 bO (AX 2 v16 (some v21) none none) λv22=>
 bO (AX 2 a0 (some a1) none none) λv23=>
 bH (Oe 2 H20 v22 v23) λv24 H25=>
 K v16 H25)
 (bO (Ap .add v4 v1) λv26=>
 bO (AX 2 a0 none (some v26) none) λv27=>
 bO (Ap .add a1 v1) λv28=>
 bO (AX 2 v27 (some v28) none none) λv29=>
 bP (ExtR prog 210 [a2,v29] H) λv30=>
 bO (Fb .not v30) λv31=>
 bB v31 λt32=>bI t32 (
 bO (Ap .add a1 v1) λv33=>
 bO (AX 2 v27 (some v33) none none) λv34=>
 bO (AX 2 v27 (some a1) none none) λv35=>
 bH (Oe 2 H v34 v35) λv36 H37=>
 bO (AX 2 v27 (some a1) none none) λv38=>
 bH (Oe 2 H37 v38 a2) λv39 H40=>
 K v27 H40)
 (bO (AX 2 v27 (some v4) none none) λv41=>
 bH (Oe 2 H v41 a2) λv42 H43=>
 bO (AX 2 v27 (some a1) none none) λv44=>
 bC (BCall prog 211 [v44,v1] H43) λv45 H46=>
 K v27 H46))))
theorem FA (a0 a1 a2:AV)(H:AH)(K:KT):N1 prog AA LE pF FC BA f186 [a0,a1,a2] H K=D9 a0 a1 a2 H K:=by kernel_rfl
theorem FB {a0 a1 a2:AV}{H:AH}{K:KT}(h:D9 a0 a1 a2 H K):ACalls prog 186 [a0,a1,a2] H K:=
 FJ Kn func186 (by kernel_rfl) (Eq.mpr (FA a0 a1 a2 H K) h)
def FF:Nat→Bool:=ST []
def DA (a0 a1 a2:AV)(H:AH)(K:KT):Prop:=
 bO (AX 3 a0 (some a1) none none) λv0=>
 bO (Ba a2) λv1=>
 bO (Ap .eql v1 (I 0)) λv2=>
 bB v2 λt3=>bI t3 (
 K a0 H)
 (bO (Ba a0) λv4=>
 bO (Ap .eql a1 v4) λv5=>
 bB v5 λt6=>bI t6 (
 bH (Mm 3 40 H a0 a2) λv7 H8=>
 K v7 H8)
 (bO (Ap .add v4 v1) λv9=>
 bO (V6 a0) λv10=>
 bO (Ap .gtr v9 v10) λv11=>
 bB v11 λt12=>bI t12 (
 bO (AX 3 a0 none (some a1) none) λv13=>
 bO (Ap .add v4 v1) λv14=>
 bO (Ap .sub v14 a1) λv15=>
 bH (Kj H 3 40 [(I 0),(I 0),Ad] v13 v15) λv16 H17=>
 bO (AX 3 v16 (some a1) none none) λv18=>
 bH (Oe 3 H17 v18 a2) λv19 H20=>
 bO (Ap .add a1 v1) λv21=>
 bO (AX 3 v16 (some v21) none none) λv22=>
 bO (AX 3 a0 (some a1) none none) λv23=>
 bH (Oe 3 H20 v22 v23) λv24 H25=>
 K v16 H25)
 (bO (Ap .add v4 v1) λv26=>
 bO (AX 3 a0 none (some v26) none) λv27=>
 bO (Ap .add a1 v1) λv28=>
 bO (AX 3 v27 (some v28) none none) λv29=>
 bP (ExtR prog 212 [a2,v29] H) λv30=>
 bO (Fb .not v30) λv31=>
 bB v31 λt32=>bI t32 (
 bO (Ap .add a1 v1) λv33=>
 bO (AX 3 v27 (some v33) none none) λv34=>
 bO (AX 3 v27 (some a1) none none) λv35=>
 bH (Oe 3 H v34 v35) λv36 H37=>
 bO (AX 3 v27 (some a1) none none) λv38=>
 bH (Oe 3 H37 v38 a2) λv39 H40=>
 K v27 H40)
 (bO (AX 3 v27 (some v4) none none) λv41=>
 bH (Oe 3 H v41 a2) λv42 H43=>
 bO (AX 3 v27 (some a1) none none) λv44=>
 bC (BCall prog 213 [v44,v1] H43) λv45 H46=>
 K v27 H46))))
theorem FD (a0 a1 a2:AV)(H:AH)(K:KT):N1 prog AA LE pF FF BA f187 [a0,a1,a2] H K=DA a0 a1 a2 H K:=by kernel_rfl
theorem FE {a0 a1 a2:AV}{H:AH}{K:KT}(h:DA a0 a1 a2 H K):ACalls prog 187 [a0,a1,a2] H K:=
 FJ Kn func187 (by kernel_rfl) (Eq.mpr (FD a0 a1 a2 H K) h)
def D6 (a0 a1 a2:AV)(H:AH)(K:KT):Prop:=
 bO (Ba a0) λv0=>
 bO (AX 2 a0 (some a1) (some a2) (some v0)) λv1=>
 bO (Ap .eql a1 a2) λv2=>
 bB v2 λt3=>bI t3 (
 K a0 H)
 (bO (Ba a0) λv4=>
 bO (AX 2 a0 none (some a1) none) λv5=>
 bO (AX 2 a0 (some a2) none none) λv6=>
 bH (Mm 2 24 H v5 v6) λv7 H8=>
 bO (Ba v7) λv9=>
 bO (AX 2 v7 (some v9) (some v4) none) λv10=>
 bS (nC [(.lit (.string ⟨#[]⟩)),(I 0)] H8 v10) λH11=>
 K v7 H11)
theorem F5 {a0 a1 a2:AV}{H:AH}{K:KT}(h:D6 a0 a1 a2 H K):Cw 189 [a0,a1,a2] H K:=
 fok AA LE BA func189 h
def D7 (a0 a1 a2:AV)(H:AH)(K:KT):Prop:=
 bO (Ba a0) λv0=>
 bO (AX 3 a0 (some a1) (some a2) (some v0)) λv1=>
 bO (Ap .eql a1 a2) λv2=>
 bB v2 λt3=>bI t3 (
 K a0 H)
 (bO (Ba a0) λv4=>
 bO (AX 3 a0 none (some a1) none) λv5=>
 bO (AX 3 a0 (some a2) none none) λv6=>
 bH (Mm 3 40 H v5 v6) λv7 H8=>
 bO (Ba v7) λv9=>
 bO (AX 3 v7 (some v9) (some v4) none) λv10=>
 bS (nC [(I 0),(I 0),Ad] H8 v10) λH11=>
 K v7 H11)
theorem F6 {a0 a1 a2:AV}{H:AH}{K:KT}(h:D7 a0 a1 a2 H K):Cw 190 [a0,a1,a2] H K:=
 fok AA LE BA func190 h
def PE:FuncId→Bool:=ST [43,82,20,13,52,40,102,24,23,98,50,170,172,188,179,181,22,99,169,111,100,165,81,164,167,151,185,46,112,45]
def WG (a0:AV)(H:AH)(K:KT):Prop:=
 bO (amm ZX [a0,(I 0)]) λv0=>
 bO (amm VP [v0,(I 4096)]) λv1=>
 bO (FK [(I 0),Ad,Ad,Ad,Ad,Ad,(I 0),(I 0),(B false)] [(0,1,v1),(7,1,(I (-1)))]) λv2=>
 bH (AD H v2) λv3 H4=>
 K v3 H4
theorem XE {a0:AV}{H:AH}{K:KT}(h:WG a0 H K):Cw 10 [a0] H K:=
 fok AA PE BA func10 h
def Mk (a0:AV)(H:AH)(K:KT):Prop:=
 bH (AD H (.agg [Ad,Ad])) λv0 H1=>
 bO (Ai a0) λv2=>
 bO (Ac 1 v2) λv3=>
 bO (Au true 2 H1 v3) λv4=>
 bP (PCall prog 43 [v4] H1) λv5=>
 bS (AT 2 H1 v0 v5) λH6=>
 bO (Au true 2 H6 v0) λv7=>
 K v7 H6
theorem P8 {a0:AV}{H:AH}{K:KT}(h:Mk a0 H K):Cw 14 [a0] H K:=
 fok AA PE BA func14 h
def Li (a0:AV)(H:AH)(K:KT):Prop:=
 bO (Ai a0) λv0=>
 bO (Ac 0 v0) λv1=>
 bO (Au false 1 H v1) λv2=>
 bO (Ai a0) λv3=>
 bO (Ac 1 v3) λv4=>
 bO (Au true 2 H v4) λv5=>
 bP (BPure prog 52 [v5]) λv6=>
 bO (Ap .sub v2 v6) λv7=>
 bO (amm ZX [(I 0),v7]) λv8=>
 K v8 H
theorem Ox {a0:AV}{H:AH}{K:KT}(h:Li a0 H K):Cw 21 [a0] H K:=
 fok AA PE BA func21 h
def I1:Nat→Option (List Bool):=Co [(1,mk 31 0 [])]
def P9 (p:List Bool)(n:Nat):List AV→AH→Kf→Prop:=AJ prog AA PE Aq Aq I1 (sub p (AL f80)) n
def Fs (H:AH)(K:KT):Prop:=jn (mk 31 0 []) (P9 [tT,tT] 6) [] H (Bm prog f80.results.toList K)
def E8 (H:AH)(K:KT):Prop:=
 K (B true) H
theorem GF (H:AH)(K:KT):Fs H K=E8 H K:=(DG _ _ _ _ _).trans (by kernel_rfl)
def Ln (a0:AV)(H:AH)(K:KT):Prop:=
 bO (Ai a0) λv0=>
 bO (Ac 8 v0) λv1=>
 bO (Au false 1 H v1) λv2=>
 bG v2 false λw3=>
 gO w3 (some a0) λv4=>
 bG v2 false λw5=>
 gO w5 (Ai v4) λv6=>
 bG v2 false λw7=>
 gO w7 (Ac 7 v6) λv8=>
 bG v2 false λw9=>
 gO w9 (Au false 1 H v8) λv10=>
 bG v2 false λw11=>
 gO w11 (Ap .eql v10 (I 0)) λv12=>
 bO (A8 v2 (B true) v12) λv13=>
 bB v13 λt14=>bI t14 (
 bO (Ai a0) λv15=>
 bO (Ac 8 v15) λv16=>
 bS (AT 1 H v16 (B true)) λH17=>
 K (B false) H17)
 (bO (Ai a0) λv18=>
 bO (Ac 7 v18) λv19=>
 bO (Au false 1 H v19) λv20=>
 bO (Ap .gtr v20 (I 0)) λv21=>
 bB v21 λt22=>bI t22 (
 bO (Ai a0) λv23=>
 bO (Ac 7 v23) λv24=>
 bO (Au false 1 H v24) λv25=>
 bO (Ap .sub v25 (I 1)) λv26=>
 bO (Ai a0) λv27=>
 bO (Ac 7 v27) λv28=>
 bS (AT 1 H v28 v26) λH29=>
 Fs H29 K)
 (Fs H K))
theorem O1 {a0:AV}{H:AH}{K:KT}(h:Ln a0 H K):Cw 80 [a0] H K:=
 fok AA PE I1 func80 h
def N5 (a0 a1:AV)(H:AH)(K:KT):Prop:=
 bH (AD H a1) λv0 H1=>
 bC (BCall prog 80 [a0] H1) λv2 H3=>
 bO (Fb .not v2) λv4=>
 bB v4 λt5=>bI t5 (
 K (I 8) H3)
 (bO (Ai a0) λv6=>
 bO (Ac 1 v6) λv7=>
 bO (Au true 2 H3 v7) λv8=>
 bO (Au true 8 H3 v0) λv9=>
 bP (BPure prog 82 [v8,v9]) λv10=>
 bO (Ai a0) λv11=>
 bO (Ac 1 v11) λv12=>
 bS (AT 2 H3 v12 v10) λH13=>
 bO (Ai a0) λv14=>
 bO (Ac 5 v14) λv15=>
 bO (Au false 1 H13 v15) λv16=>
 bO (Au true 8 H13 v0) λv17=>
 bO (Tq 8 1 (Be [(I 0),(I 0),(I 0),(I 0),(B false),(.lit (.string ⟨#[]⟩)),(.lit (.string ⟨#[]⟩)),Ad] 1) [(0,8,v17)]) λv18=>
 bH (Mm 8 96 H13 v16 v18) λv19 H20=>
 bO (Ai a0) λv21=>
 bO (Ac 5 v21) λv22=>
 bS (AT 1 H20 v22 v19) λH23=>
 K (I 0) H23)
theorem Ri {a0 a1:AV}{H:AH}{K:KT}(h:N5 a0 a1 H K):Cw 48 [a0,a1] H K:=
 fok AA PE BA func48 h
def DO (a0 a1:AV)(H:AH)(K:KT):Prop:=
 bH (AD H (.agg [(I 0),Ad])) λv0 H1=>
 bO (Ai a0) λv2=>
 bO (Ac 8 v2) λv3=>
 bO (Au false 1 H1 v3) λv4=>
 bB v4 λt5=>bI t5 (
 bO (FK [(I 0),Ad] []) λv6=>
 bS (AT 2 H1 v0 v6) λH7=>
 bO (Au true 2 H7 v0) λv8=>
 K (.tup [v8,(I 8)]) H7)
 (bO (Ai a0) λv9=>
 bO (Ac 1 v9) λv10=>
 bO (Au true 2 H1 v10) λv11=>
 bP (PCall prog 13 [v11,a1] H1) λv12=>
 bO (Aj v12 0) λv13=>
 bO (Aj v12 1) λv14=>
 bH (AD H1 (.agg [(I 0),Ad])) λv15 H16=>
 bS (AT 2 H16 v15 v13) λH17=>
 bO (Fb .not v14) λv18=>
 bB v18 λt19=>bI t19 (
 bO (FK [(I 0),Ad] []) λv20=>
 bS (AT 2 H17 v0 v20) λH21=>
 bO (Au true 2 H21 v0) λv22=>
 K (.tup [v22,(I 3)]) H21)
 (bO (Au true 2 H17 v15) λv23=>
 bS (AT 2 H17 v0 v23) λH24=>
 bO (Au true 2 H24 v0) λv25=>
 K (.tup [v25,(I 0)]) H24))
theorem Et {a0 a1:AV}{H:AH}{K:KT}(h:DO a0 a1 H K):Cw 49 [a0,a1] H K:=
 fok AA PE BA func49 h
def Lo (a0 a1:AV)(H:AH)(K:KT):Prop:=
 bO (Ai a0) λv0=>
 bO (Ac 8 v0) λv1=>
 bO (Au false 1 H v1) λv2=>
 bB v2 λt3=>bI t3 (
 K (.tup [(I 0),(I 8)]) H)
 (bP (PCall prog 102 [a1] H) λv4=>
 bO (Fb .not v4) λv5=>
 bB v5 λt6=>bI t6 (
 K (.tup [(I 0),(I 5)]) H)
 (bO (Ai a0) λv7=>
 bO (Ac 1 v7) λv8=>
 bO (Au true 2 H v8) λv9=>
 bP (PCall prog 20 [v9,a1] H) λv10=>
 bO (Aj v10 0) λv11=>
 bO (Aj v10 1) λv12=>
 bO (Fb .not v12) λv13=>
 bB v13 λt14=>bI t14 (
 K (.tup [(I 0),(I 3)]) H)
 (K (.tup [v11,(I 0)]) H)))
theorem O2 {a0 a1:AV}{H:AH}{K:KT}(h:Lo a0 a1 H K):Cw 47 [a0,a1] H K:=
 fok AA PE BA func47 h
def Lj (a0 a1 a2:AV)(H:AH)(K:KT):Prop:=
 bC (BCall prog 47 [a0,a1] H) λv0 H1=>
 bO (Aj v0 0) λv2=>
 bO (Aj v0 1) λv3=>
 bO (Ap .neq v3 (I 3)) λv4=>
 bG v4 false λw5=>
 gO w5 (some a2) λv6=>
 bG v4 false λw7=>
 gO w7 (Fb .not v6) λv8=>
 bO (A8 v4 (B true) v8) λv9=>
 bB v9 λt10=>bI t10 (
 K (.tup [v2,v3]) H1)
 (bO (Ai a0) λv11=>
 bO (Ac 1 v11) λv12=>
 bO (Ac 0 v12) λv13=>
 bO (Au false 1 H1 v13) λv14=>
 bO (Ba v14) λv15=>
 bO (Ap .geq v15 (I 16)) λv16=>
 bB v16 λt17=>bI t17 (
 K (.tup [(I 0),(I 4)]) H1)
 (bO (Ai a0) λv18=>
 bO (Ac 6 v18) λv19=>
 bO (Au false 1 H1 v19) λv20=>
 bO (Ap .add v20 (I 1)) λv21=>
 bO (FK [(I 0),(I 0),(I 0),(I 0),(B false),(.lit (.string ⟨#[]⟩)),(.lit (.string ⟨#[]⟩)),Ad] [(0,1,(I 1)),(5,1,a1),(1,1,v21)]) λv22=>
 bC (BCall prog 48 [a0,v22] H1) λv23 H24=>
 bO (Ap .neq v23 (I 0)) λv25=>
 bB v25 λt26=>bI t26 (
 K (.tup [(I 0),v23]) H24)
 (bO (Ai a0) λv27=>
 bO (Ac 6 v27) λv28=>
 bO (Au false 1 H24 v28) λv29=>
 bO (Ap .add v29 (I 1)) λv30=>
 bO (Ai a0) λv31=>
 bO (Ac 6 v31) λv32=>
 bS (AT 1 H24 v32 v30) λH33=>
 bO (Ai a0) λv34=>
 bO (Ac 6 v34) λv35=>
 bO (Au false 1 H33 v35) λv36=>
 K (.tup [v36,(I 0)]) H33)))
theorem Oy {a0 a1 a2:AV}{H:AH}{K:KT}(h:Lj a0 a1 a2 H K):Cw 18 [a0,a1,a2] H K:=
 fok AA PE BA func18 h
def Lk (a0 a1:AV)(H:AH)(K:KT):Prop:=
 bC (BCall prog 49 [a0,a1] H) λv0 H1=>
 bO (Aj v0 0) λv2=>
 bO (Aj v0 1) λv3=>
 bH (AD H1 (.agg [(I 0),Ad])) λv4 H5=>
 bS (AT 2 H5 v4 v2) λH6=>
 bO (Ac 0 v4) λv7=>
 bO (Au false 1 H6 v7) λv8=>
 K (.tup [v8,v3]) H6
theorem Oz {a0 a1:AV}{H:AH}{K:KT}(h:Lk a0 a1 H K):Cw 60 [a0,a1] H K:=
 fok AA PE BA func60 h
def Ff (a0 a1 a2 a3:AV)(H:AH)(K:KT):Prop:=
 bC (BCall prog 49 [a0,a1] H) λv0 H1=>
 bO (Aj v0 0) λv2=>
 bO (Aj v0 1) λv3=>
 bH (AD H1 (.agg [(I 0),Ad])) λv4 H5=>
 bS (AT 2 H5 v4 v2) λH6=>
 bO (Ap .neq v3 (I 0)) λv7=>
 bB v7 λt8=>bI t8 (
 K (.tup [Ad,v3]) H6)
 (bO (Ap .lss a2 (I 0)) λv9=>
 bG v9 false λw10=>
 gO w10 (some a3) λv11=>
 bG v9 false λw12=>
 gO w12 (Ap .lss v11 (I 0)) λv13=>
 bO (A8 v9 (B true) v13) λv14=>
 bG v14 false λw15=>
 gO w15 (some a3) λv16=>
 bG v14 false λw17=>
 gO w17 (Ap .gtr v16 (I 4096)) λv18=>
 bO (A8 v14 (B true) v18) λv19=>
 bB v19 λt20=>bI t20 (
 K (.tup [Ad,(I 5)]) H6)
 (bO (Au true 2 H6 v4) λv21=>
 bP (PCall prog 23 [v21,a2,a3] H6) λv22=>
 K (.tup [v22,(I 0)]) H6))
theorem Fr {a0 a1 a2 a3:AV}{H:AH}{K:KT}(h:Ff a0 a1 a2 a3 H K):Cw 61 [a0,a1,a2,a3] H K:=
 fok AA PE BA func61 h
def HV:C1:=KM [(12,[(3,some 11)])]
def HW:Nat→Option (List Bool):=Co [(9,mk 79 0 [0,1,2,3,10,36,37,38])]
def I0 (p:List Bool)(n:Nat):List AV→AH→Kf→Prop:=AJ prog HV PE Aq Aq HW (sub p (AL f44)) n
def HU (x0 x1 x2 x3 x10 x36 x37 x38:AV)(H:AH)(K:KT):Prop:=lp (mk 79 0 [0,1,2,3,10,36,37,38]) (I0 [tT,tT,tT,fF,tT,fF,fF] 10) [x0,x1,x2,x3,x10,x36,x37,x38] H (Bh 1 (Bl (I0 [tT,tT,tT,tT] 21) (Bm prog f44.results.toList K)))
def GE (R9:RT)(x0 x1 x2 x3 x10 x36 x37 x38:AV)(H:AH)(K:KT):Prop:=
 bO (Ap .lss x38 x37) λv0=>
 bB v0 λt1=>bI t1 (
 bO (Bj 2 x36 x38) λv2=>
 bO (Au true 2 H v2) λv3=>
 bH (AD H (.agg [(I 0),(I 0)])) λv4 H5=>
 bS (AT 2 H5 v4 v3) λH6=>
 bO (Ac 0 v4) λv7=>
 bO (Au false 1 H6 v7) λv8=>
 bO (Ap .sub v8 x2) λv9=>
 bO (Au true 2 H6 x10) λv10=>
 bO (Ac 0 v4) λv11=>
 bO (Au false 1 H6 v11) λv12=>
 bO (Ap .quo v12 (I 8)) λv13=>
 bP (PCall prog 100 [v10,v13] H6) λv14=>
 bO (Fb .not v14) λv15=>
 bG v15 true λw16=>
 gO w16 (some x0) λv17=>
 bG v15 true λw18=>
 gC w18 (BCall prog 21 [v17] H6) H6 λv19 H20=>
 bG v15 true λw21=>
 gO w21 (Ap .eql v19 (I 0)) λv22=>
 bO (A8 v15 v22 (B false)) λv23=>
 bB v23 λt24=>bI t24 (
 K (.tup [v9,(I 4)]) H20)
 (bO (Ac 0 v4) λv25=>
 bO (Au false 1 H20 v25) λv26=>
 bO (Ac 1 v4) λv27=>
 bO (Au false 1 H20 v27) λv28=>
 bO (Ap .add v9 v28) λv29=>
 bO (AX 1 x3 (some v9) (some v29) none) λv30=>
 bC (BCall prog 101 [v30] H20) λv31 H32=>
 bO (FK [(I 0),(I 0),(I 0),(I 0),(B false),(.lit (.string ⟨#[]⟩)),(.lit (.string ⟨#[]⟩)),Ad] [(0,1,(I 2)),(1,1,x1),(2,1,v26),(7,1,v31)]) λv33=>
 bC (BCall prog 48 [x0,v33] H32) λv34 H35=>
(Au false 1 H32 v25=some v26)∧
 bO (Ap .neq v34 (I 0)) λv36=>
 bB v36 λt37=>bI t37 (
 K (.tup [v9,v34]) H35)
 (bO (Ap .add x38 (I 1)) λv38=>
 R9 [x0,x1,x2,x3,x10,x36,x37,v38] H35)))
 (bO (Ba x3) λv39=>
 K (.tup [v39,(I 0)]) H)
theorem JC {K:KT}:yE (λR x0 x1 x2 x3 x10 x36 x37 x38 H=>GE R x0 x1 x2 x3 x10 x36 x37 x38 H K) (λx0 x1 x2 x3 x10 x36 x37 x38 H=>HU x0 x1 x2 x3 x10 x36 x37 x38 H K):=wR (A7 _ _) (λ_ _ _ _ _ _ _ _ _ _=>by kernel_rfl)
def Kh (a0 a1 a2 a3:AV)(H:AH)(K:KT):Prop:=
 bC (BCall prog 49 [a0,a1] H) λv0 H1=>
 bO (Aj v0 0) λv2=>
 bO (Aj v0 1) λv3=>
 bH (AD H1 (.agg [(I 0),Ad])) λv4 H5=>
 bS (AT 2 H5 v4 v2) λH6=>
 bO (Ap .neq v3 (I 0)) λv7=>
 bB v7 λt8=>bI t8 (
 K (.tup [(I 0),v3]) H6)
 (bO (Ba a3) λv9=>
 bP (PCall prog 98 [a2,v9] H6) λv10=>
 bO (Fb .not v10) λv11=>
 bB v11 λt12=>bI t12 (
 K (.tup [(I 0),(I 5)]) H6)
 (bO (Ba a3) λv13=>
 bO (FK [(I 0),(I 0)] [(0,1,a2),(1,1,v13)]) λv14=>
 bP (PCall prog 99 [v14,(I 8)] H6) λv15=>
 bO (Ba v15) λv16=>
 HU a0 a1 a2 a3 v4 v15 v16 (I 0) H6 K))
theorem N4 {a0 a1 a2 a3:AV}{H:AH}{K:KT}(h:Kh a0 a1 a2 a3 H K):Cw 44 [a0,a1,a2,a3] H K:=
 fok HV PE HW func44 h
def HT (a0 a1 a2:AV)(H:AH)(K:KT):Prop:=
 bC (BCall prog 49 [a0,a1] H) λv0 H1=>
 bO (Aj v0 0) λv2=>
 bO (Aj v0 1) λv3=>
 bH (AD H1 (.agg [(I 0),Ad])) λv4 H5=>
 bS (AT 2 H5 v4 v2) λH6=>
 bO (Ap .neq v3 (I 0)) λv7=>
 bB v7 λt8=>bI t8 (
 K v3 H6)
 (bO (Au true 2 H6 v4) λv9=>
 bP (PCall prog 50 [v9,a2] H6) λv10=>
 bO (Aj v10 0) λv11=>
 bO (Aj v10 1) λv12=>
 bH (AD H6 (.agg [(I 0),Ad])) λv13 H14=>
 bS (AT 2 H14 v13 v11) λH15=>
 bO (Fb .not v12) λv16=>
 bB v16 λt17=>bI t17 (
 K (I 5) H15)
 (bO (FK [(I 0),(I 0),(I 0),(I 0),(B false),(.lit (.string ⟨#[]⟩)),(.lit (.string ⟨#[]⟩)),Ad] [(0,1,(I 3)),(1,1,a1),(3,1,a2)]) λv18=>
 bC (BCall prog 48 [a0,v18] H15) λv19 H20=>
 K v19 H20))
theorem Lm {a0 a1 a2:AV}{H:AH}{K:KT}(h:HT a0 a1 a2 H K):Cw 19 [a0,a1,a2] H K:=
 fok AA PE BA func19 h
def Iz:Nat→Option (List Bool):=Co [(10,mk 41 0 [0,1,5,14,15,16]),(7,mk 41 0 [0,1,5,14,15,16])]
def Es (p:List Bool)(n:Nat):List AV→AH→Kf→Prop:=AJ prog AA PE Aq Aq Iz (sub p (AL f37)) n
def Fa (R7:RT)(x0 x1 x5 x14 x15 x16:AV)(H:AH)(K:KT):Prop:=jn (mk 41 0 [0,1,5,14,15,16]) (Es [tT,tT,tT,fF,tT,fF,fF,tT,tT,tT] 13) [x0,x1,x5,x14,x15,x16] H (Mh (mk 41 0 [0,1,5,14,15,16]) R7 (Bh 0 (Bl (Es [tT,tT,tT,tT] 13) (Bm prog f37.results.toList K))))
def Iy (x0 x1 x5 x14 x15 x16:AV)(H:AH)(K:KT):Prop:=lp (mk 41 0 [0,1,5,14,15,16]) (Es [tT,tT,tT,fF,tT,fF,fF] 8) [x0,x1,x5,x14,x15,x16] H (Bh 0 (Bl (Es [tT,tT,tT,tT] 13) (Bm prog f37.results.toList K)))
def Er (R7:RT)(x0 x1 x5 x14 x15 x16:AV)(H:AH)(K:KT):Prop:=
 bO (Ap .add x16 (I 1)) λv0=>
 R7 [x0,x1,x5,x14,x15,v0] H
theorem Gg (R7:RT)(x0 x1 x5 x14 x15 x16:AV)(H:AH)(K:KT):Fa R7 x0 x1 x5 x14 x15 x16 H K=Er R7 x0 x1 x5 x14 x15 x16 H K:=(DG _ _ _ _ _).trans (by kernel_rfl)
def GX (R7:RT)(x0 x1 x5 x14 x15 x16:AV)(H:AH)(K:KT):Prop:=
 bO (Ap .lss x16 x15) λv0=>
 bB v0 λt1=>bI t1 (
 bO (Bj 8 x14 x16) λv2=>
 bO (Au true 8 H v2) λv3=>
 bH (AD H (.agg [(I 0),(I 0),(I 0),(I 0),(B false),(.lit (.string ⟨#[]⟩)),(.lit (.string ⟨#[]⟩)),Ad])) λv4 H5=>
 bS (AT 8 H5 v4 v3) λH6=>
 bO (Au true 8 H6 v4) λv7=>
 bP (PCall prog 81 [v7,x1] H6) λv8=>
 bB v8 λt9=>bI t9 (
 bO (Ai x0) λv10=>
 bO (Ac 3 v10) λv11=>
 bO (Au true 2 H6 v11) λv12=>
 bO (Au true 8 H6 v4) λv13=>
 bP (BPure prog 82 [v12,v13]) λv14=>
 bO (Ai x0) λv15=>
 bO (Ac 3 v15) λv16=>
 bS (AT 2 H6 v16 v14) λH17=>
 Fa R7 x0 x1 x5 x14 x15 x16 H17 K)
 (bO (Au true 8 H6 v4) λv18=>
 bH (Cr H6 8 1 (Be [(I 0),(I 0),(I 0),(I 0),(B false),(.lit (.string ⟨#[]⟩)),(.lit (.string ⟨#[]⟩)),Ad] 1) [(0,8,v18)]) λv19 H20=>
 bH (Mm 8 96 H20 x5 v19) λv21 H22=>
 Fa R7 x0 x1 v21 x14 x15 x16 H22 K))
 (bO (Ai x0) λv23=>
 bO (Ac 5 v23) λv24=>
 bS (AT 1 H v24 x5) λH25=>
 K (I 0) H25)
theorem Ku {K:KT}:nM (λR x0 x1 x5 x14 x15 x16 H=>GX R x0 x1 x5 x14 x15 x16 H K) (λx0 x1 x5 x14 x15 x16 H=>Iy x0 x1 x5 x14 x15 x16 H K):=fX (A7 _ _) (λ_ _ _ _ _ _ _ _=>by kernel_rfl)
def Ll (a0 a1:AV)(H:AH)(K:KT):Prop:=
 bC (BCall prog 80 [a0] H) λv0 H1=>
 bO (Fb .not v0) λv2=>
 bB v2 λt3=>bI t3 (
 K (I 8) H1)
 (bO (Ai a0) λv4=>
 bO (Ac 5 v4) λv5=>
 bO (Au false 1 H1 v5) λv6=>
 bO (Ba v6) λv7=>
 Iy a0 a1 Ad v6 v7 (I 0) H1 K)
theorem O0 {a0 a1:AV}{H:AH}{K:KT}(h:Ll a0 a1 H K):Cw 37 [a0,a1] H K:=
 fok AA PE Iz func37 h
def WH (a0 a1:AV)(H:AH)(K:KT):Prop:=
 bH (AD H a0) λv0 H1=>
 bH (AD H1 a1) λv2 H3=>
 bO (Ac 1 v0) λv4=>
 bO (Au false 1 H3 v4) λv5=>
 bP (PCall prog 164 [v5,(.fn (.func 165) [] [v2])] H3) λv6=>
 K v6 H3
theorem XF {a0 a1:AV}{H:AH}{K:KT}(h:WH a0 a1 H K):Cw 100 [a0,a1] H K:=
 fok AA PE BA func100 h
def Tl (a0 a1:AV)(H:AH)(K:KT):Prop:=
 bH (AD H a0) λv0 H1=>
 bO (Ac 0 v0) λv2=>
 bO (Au false 1 H1 v2) λv3=>
 bO (Au false 1 H1 a1) λv4=>
 bO (Ap .eql v3 v4) λv5=>
 K v5 H1
theorem Vu {a0 a1:AV}{H:AH}{K:KT}(h:Tl a0 a1 H K):Cw 165 [a0,a1] H K:=
 fok AA PE BA func165 h
def N6:Nat→Option (List Bool):=Co [(1,mk 15 0 [1,2]),(3,mk 15 0 [1,2,7])]
def Kv (p:List Bool)(n:Nat):List AV→AH→Kf→Prop:=AJ prog AA PE Aq Aq N6 (sub p (AL f81)) n
def J3 (x1 x2:AV)(H:AH)(K:KT):Prop:=jn (mk 15 0 [1,2]) (Kv [tT,tT] 7) [x1,x2] H (Bm prog f81.results.toList K)
def GG (x1 x2 x7:AV)(H:AH)(K:KT):Prop:=jn (mk 15 0 [1,2,7]) (Kv [tT,fF,tT,fF,tT] 6) [x1,x2,x7] H (Bh 0 (Bl (MM (mk 15 0 [1,2]) (Kv [tT,tT] 7)) (Bm prog f81.results.toList K)))
def Lp (x1 x2:AV)(H:AH)(K:KT):Prop:=
 bO (Ac 1 x2) λv0=>
 bO (Au false 1 H v0) λv1=>
 bP (PCall prog 151 [x1,v1] H) λv2=>
 K v2 H
theorem Rj (x1 x2:AV)(H:AH)(K:KT):J3 x1 x2 H K=Lp x1 x2 H K:=(DG _ _ _ _ _).trans (by kernel_rfl)
def Fg (x1 x2 x7:AV)(H:AH)(K:KT):Prop:=
 bB x7 λt0=>bI t0 (
 K (B true) H)
 (J3 x1 x2 H K)
theorem GH (x1 x2 x7:AV)(H:AH)(K:KT):GG x1 x2 x7 H K=Fg x1 x2 x7 H K:=(DG _ _ _ _ _).trans (by kernel_rfl)
def Tm (a0 a1:AV)(H:AH)(K:KT):Prop:=
 bH (AD H a0) λv0 H1=>
 bO (Ac 0 v0) λv2=>
 bO (Au false 1 H1 v2) λv3=>
 bO (Ap .eql v3 (I 1)) λv4=>
 bB v4 λt5=>bI t5 (
 GG a1 v0 v4 H1 K)
 (bO (Ap .eql v3 (I 6)) λv6=>
 bB v6 λt7=>bI t7 (
 GG a1 v0 v6 H1 K)
 (bO (Ap .eql v3 (I 7)) λv8=>
 GG a1 v0 v8 H1 K))
theorem Vv {a0 a1:AV}{H:AH}{K:KT}(h:Tm a0 a1 H K):Cw 81 [a0,a1] H K:=
 fok AA PE N6 func81 h
def CQ (a0 a1:AV)(H:AH)(K:KT):Prop:=
 bP (PCall prog 167 [a0,a1] H) λv0=>
 bO (Ap .geq v0 (I 0)) λv1=>
 K v1 H
theorem EG {a0 a1:AV}{H:AH}{K:KT}(h:CQ a0 a1 H K):Cw 164 [a0,a1] H K:=
 fok AA PE BA func164 h
def F4 (a0 a1:AV)(H:AH)(K:KT):Prop:=
 bP (PCall prog 185 [a0,a1] H) λv0=>
 bO (Ap .geq v0 (I 0)) λv1=>
 K v1 H
theorem IH {a0 a1:AV}{H:AH}{K:KT}(h:F4 a0 a1 H K):Cw 151 [a0,a1] H K:=
 fok AA PE BA func151 h
def F8:Nat→Option (List Bool):=Co [(3,mk 19 0 [0,1,7,8])]
def Gf (p:List Bool)(n:Nat):List AV→AH→Kf→Prop:=AJ prog AA PE Aq Aq F8 (sub p (AL f185)) n
def F7 (x0 x1 x7 x8:AV)(H:AH)(K:KT):Prop:=lp (mk 19 0 [0,1,7,8]) (Gf [tT,fF,tT,fF,fF] 4) [x0,x1,x7,x8] H (Bh 0 (Bl (Gf [tT,tT] 10) (Bm prog f185.results.toList K)))
def EZ (R3:RT)(x0 x1 x7 x8:AV)(H:AH)(K:KT):Prop:=
 bO (Ap .lss x8 x7) λv0=>
 bB v0 λt1=>bI t1 (
 bO (Bj 1 x0 x8) λv2=>
 bO (Au false 1 H v2) λv3=>
 bO (Ap .eql x1 v3) λv4=>
 bB v4 λt5=>bI t5 (
 K x8 H)
 (bO (Ap .add x8 (I 1)) λv6=>
 R3 [x0,x1,x7,v6] H))
 (K (I (-1)) H)
theorem HQ {K:KT}:WN (λR x0 x1 x7 x8 H=>EZ R x0 x1 x7 x8 H K) (λx0 x1 x7 x8 H=>F7 x0 x1 x7 x8 H K):=Ms (A7 _ _) (λ_ _ _ _ _ _=>by kernel_rfl)
def GW (a0 a1:AV)(H:AH)(K:KT):Prop:=
 bO (Ba a0) λv0=>
 F7 a0 a1 v0 (I 0) H K
theorem Kt {a0 a1:AV}{H:AH}{K:KT}(h:GW a0 a1 H K):Cw 185 [a0,a1] H K:=
 fok AA PE F8 func185 h
def Ge (a0:AV)(H:AH)(K:KT):Prop:=
 bO (V5 .eql On a0 Ad) λv0=>
 bB v0 λt1=>bI t1 (
 K Ad H)
 (bH (Cr H 1 0 (Be [u0Z] 0) []) λv2 H3=>
 bH (Mm 1 1 H3 v2 a0) λv4 H5=>
 K v4 H5)
theorem J1 {a0:AV}{H:AH}{K:KT}(h:Ge a0 H K):Cw 101 [a0] H K:=
 fok AA PE BA func101 h
def Gd (a0 a1:AV)(H:AH)(K:KT):Prop:=
 bH (AD H a0) λv0 H1=>
 bH (AD H1 a1) λv2 H3=>
 bO (Au false 1 H3 v2) λv4=>
 bO (Ap .lss v4 (I 1)) λv5=>
 bB v5 λt6=>bI t6 (
 False)
 (K (.fn (.func 150) [] [v0,v2]) H3)
theorem J0 {a0 a1:AV}{H:AH}{K:KT}(h:Gd a0 a1 H K):Cw 79 [a0,a1] H K:=
 fok AA PE BA func79 h
def Ld (a0:AV)(H:AH)(K:KT):Prop:=
 bH (Cr H 1 6 (Be [(.lit (.string ⟨#[]⟩))] 6) [(0,1,(.lit (.string ⟨#[97]⟩))),(1,1,(.lit (.string ⟨#[98]⟩))),(2,1,(.lit (.string ⟨#[99]⟩))),(3,1,(.lit (.string ⟨#[100,115,116]⟩))),(4,1,(.lit (.string ⟨#[109,97,112]⟩))),(5,1,(.lit (.string ⟨#[120,45,49]⟩)))]) λv0 H1=>
 bO (Ap .rem a0 (.lit (.int .u8 6))) λv2=>
 bO (Bj 1 v0 v2) λv3=>
 bO (Au false 1 H1 v3) λv4=>
 K v4 H1
theorem Oq {a0:AV}{H:AH}{K:KT}(h:Ld a0 H K):Cw 46 [a0] H K:=
 fok AA PE BA func46 h
def Rg (p:List Bool)(n:Nat):List AV→AH→Kf→Prop:=AJ prog AA PE Aq Aq BA (sub p (AL f112)) n
def TH (a0:AV)(H:AH)(K:KT):Prop:=
 bH (Cr H 1 18 (Be [(.lit (.string ⟨#[]⟩))] 18) [(0,1,(.lit (.string ⟨#[97]⟩))),(1,1,(.lit (.string ⟨#[98]⟩))),(2,1,(.lit (.string ⟨#[99]⟩))),(3,1,(.lit (.string ⟨#[100,115,116]⟩))),(4,1,(.lit (.string ⟨#[109,97,112]⟩))),(5,1,(.lit (.string ⟨#[109,97,112,46,110,101,119]⟩))),(6,1,(.lit (.string ⟨#[120,45,49]⟩))),(7,1,(.lit (.string ⟨#[100,105,115,107]⟩))),(8,1,(.lit (.string ⟨#[]⟩))),(9,1,(.lit (.string ⟨#[65]⟩))),(10,1,(.lit (.string ⟨#[45,97]⟩))),(11,1,(.lit (.string ⟨#[97,47,98]⟩))),(12,1,(.lit (.string ⟨#[97,98,99,100,101,102,103,104,105,106,107,108,109,110,111,112,113,114,115,116]⟩))),(13,1,(.lit (.string ⟨#[97,98,99,100,101,102,103,104,105,106,107,108,109,110,111,112,113,114,115,116,117]⟩))),(14,1,(.lit (.string ⟨#[97,98,99,100,101,102,103,104,105,106,107,108,109,110,111,112]⟩))),(15,1,(.lit (.string ⟨#[97,98,99,100,101,102,103,104,105,106,107,108,109,110,111,112,113]⟩))),(16,1,(.lit (.string ⟨#[46]⟩))),(17,1,(.lit (.string ⟨#[48]⟩)))]) λv0 H1=>
 bO (Ap .rem a0 (.lit (.int .u8 18))) λv2=>
 bO (Bj 1 v0 v2) λv3=>
 bO (Au false 1 H1 v3) λv4=>
 K v4 H1
attribute [irreducible] TH Rg
attribute [local irreducible] AA BA
def Is:Nat→Option (List Bool):=Co [(7,mk 42 0 [0,1,5,6]),(4,mk 42 0 [0,1,5,6])]
def Eo (p:List Bool)(n:Nat):List AV→AH→Kf→Prop:=AJ prog AA PE Aq Aq Is (sub p (AL f45)) n
def Fp (R4:RT)(x0 x1 x5 x6:AV)(H:AH)(K:KT):Prop:=jn (mk 42 0 [0,1,5,6]) (Eo [tT,tT,fF,tT,fF,fF,tT,tT] 10) [x0,x1,x5,x6] H (Mh (mk 42 0 [0,1,5,6]) R4 (Bh 0 (Bl (Eo [tT,tT,tT] 10) (Bm prog f45.results.toList K))))
def Ir (x0 x1 x5 x6:AV)(H:AH)(K:KT):Prop:=lp (mk 42 0 [0,1,5,6]) (Eo [tT,tT,fF,tT,fF,fF] 5) [x0,x1,x5,x6] H (Bh 0 (Bl (Eo [tT,tT,tT] 10) (Bm prog f45.results.toList K)))
def E7 (R4:RT)(x0 x1 x5 x6:AV)(H:AH)(K:KT):Prop:=
 bO (Ap .add x6 (I 1)) λv0=>
 R4 [x0,x1,x5,v0] H
theorem G9 (R4:RT)(x0 x1 x5 x6:AV)(H:AH)(K:KT):Fp R4 x0 x1 x5 x6 H K=E7 R4 x0 x1 x5 x6 H K:=(DG _ _ _ _ _).trans (by kernel_rfl)
def GR (R4:RT)(x0 x1 x5 x6:AV)(H:AH)(K:KT):Prop:=
 bO (Ap .lss x6 x1) λv0=>
 bB v0 λt1=>bI t1 (
 bO (Ts .i64 x0) λv2=>
 bO (Ap .mul v2 (I 31)) λv3=>
 bO (Ap .mul x6 (I 7)) λv4=>
 bO (Ap .add v3 v4) λv5=>
 bO (Ap .quo x6 (I 8)) λv6=>
 bO (Ts .i64 x0) λv7=>
 bO (Ap .mul v6 v7) λv8=>
 bO (Ap .add v5 v8) λv9=>
 bO (Ap .rem v9 (I 251)) λv10=>
 bO (Ts .u8 v10) λv11=>
 bO (Bj 1 x5 x6) λv12=>
 bS (AT 1 H v12 v11) λH13=>
 bO (Ap .quo x6 (I 8)) λv14=>
 bO (Ts .i64 x0) λv15=>
 bO (Ap .add v14 v15) λv16=>
 bO (Ap .rem v16 (I 3)) λv17=>
 bO (Ap .eql v17 (I 0)) λv18=>
 bB v18 λt19=>bI t19 (
 bO (Bj 1 x5 x6) λv20=>
 bS (AT 1 H13 v20 u0Z) λH21=>
 Fp R4 x0 x1 x5 x6 H21 K)
 (Fp R4 x0 x1 x5 x6 H13 K))
 (K x5 H)
theorem Kq {K:KT}:WN (λR x0 x1 x5 x6 H=>GR R x0 x1 x5 x6 H K) (λx0 x1 x5 x6 H=>Ir x0 x1 x5 x6 H K):=Ms (A7 _ _) (λ_ _ _ _ _ _=>by kernel_rfl)
def Lc (a0 a1:AV)(H:AH)(K:KT):Prop:=
 bH (qC 1 1 [u0Z] H a1 a1) λv0 H1=>
 Ir a0 a1 v0 (I 0) H1 K
theorem Oo {a0 a1:AV}{H:AH}{K:KT}(h:Lc a0 a1 H K):Cw 45 [a0,a1] H K:=
 fok AA PE Is func45 h
def uS:FuncId→Bool:=ST [43,82,20,13,52,40,102,23,50,98,99,169,111,45]
def tL:FuncId→Bool:=ST [36,11]
def SX:Nat→Option (List Bool):=Co [(9,mk 43 0 [0,1,6,8])]
def UW (p:List Bool)(n:Nat):List AV→AH→Kf→Prop:=AJ prog AA uS Aq Aq SX (sub p (AL f26)) n
def SU (x0 x1 x6 x8:AV)(H:AH)(K:KT):Prop:=lp (mk 43 0 [0,1,6,8]) (UW [tT,tT,tT,tT,fF,fF,fF] 10) [x0,x1,x6,x8] H (Bh 1 (Bl (UW [tT,tT,tT,tT,tT] 16) (Bm prog f26.results.toList K)))
def OX (R9:RT)(x0 x1 x6 x8:AV)(H:AH)(K:KT):Prop:=
 bO (Ba x8) λv0=>
 bO (Ap .lss v0 x6) λv1=>
 bB v1 λt2=>bI t2 (
 bO (Ba x8) λv3=>
 bC (BCall prog 61 [x0,x1,v3,(I 4096)] H) λv4 H5=>
 bO (Aj v4 0) λv6=>
 bO (Aj v4 1) λv7=>
 bO (Ap .neq v7 (I 0)) λv8=>
 bB v8 λt9=>bI t9 (
 K (.tup [Ad,v7]) H5)
 (bH (Mm 1 1 H5 x8 v6) λv10 H11=>
 R9 [x0,x1,x6,v10] H11))
 (K (.tup [x8,(I 0)]) H)
theorem Sg {K:KT}:WN (λR x0 x1 x6 x8 H=>OX R x0 x1 x6 x8 H K) (λx0 x1 x6 x8 H=>SU x0 x1 x6 x8 H K):=Ms (A7 _ _) (λ_ _ _ _ _ _=>by kernel_rfl)
def YP (a0 a1:AV)(H:AH)(K:KT):Prop:=
 bC (BCall prog 60 [a0,a1] H) λv0 H1=>
 bO (Aj v0 0) λv2=>
 bO (Aj v0 1) λv3=>
 bO (Ap .neq v3 (I 0)) λv4=>
 bB v4 λt5=>bI t5 (
 K (.tup [Ad,v3]) H1)
 (bO (Ap .gtr v2 (I 65536)) λv6=>
 bB v6 λt7=>bI t7 (
 K (.tup [Ad,(I 5)]) H1)
 (SU a0 a1 v2 Ad H1 K))
theorem YQ {a0 a1:AV}{H:AH}{K:KT}(h:YP a0 a1 H K):Cw 26 [a0,a1] H K:=
 fok AA uS SX func26 h
def QE:Nat→Option (List Bool):=Co [(200010,mk 37 0 [3,4,6,7,13,14,15,20]),(300010,mk 37 0 [3,4,6,7,10]),(4,mk 37 0 [3,4,6,7,13,14,15])]
def L5:Nat→Bool:=ST [200010]
def D4 (p:List Bool)(n:Nat):List AV→AH→Kf→Prop:=AJ prog AA uS tL L5 QE (sub p (AL f36)) n
def OY (R4:RT)(x3 x4 x6 x7 x13 x14 x15 x20:AV)(H:AH)(K:KT):Prop:=unF prog (sub [tT,tT,fF,tT,fF,fF,tT,tT,fF,fF,tT,tT,fF] (AL f36)) (AW (mk 37 0 [3,4,6,7,13,14,15,20]) [x3,x4,x6,x7,x13,x14,x15,x20]) H (Bh 2 (Bh 1 (Bl (D4 [tT,tT,fF,tT,fF,fF,tT,tT,tT] 15) (Mh (mk 37 0 [3,4,6,7,13,14,15]) R4 (Bh 0 (Bl (D4 [tT,tT,tT] 15) (Bm prog f36.results.toList K)))))))
def QC (x3 x4 x6 x7 x13 x14 x15:AV)(H:AH)(K:KT):Prop:=lp (mk 37 0 [3,4,6,7,13,14,15]) (D4 [tT,tT,fF,tT,fF,fF] 5) [x3,x4,x6,x7,x13,x14,x15] H (Bh 0 (Bl (D4 [tT,tT,tT] 15) (Bm prog f36.results.toList K)))
theorem P1:sub [tT,tT,fF,tT,fF,fF,tT,tT,fF,fF,tT,tT,fF] (AL f36)=.rangeFunc (.tmp 20) #[21] (Yk (sub [tT,tT,fF,tT,fF,fF,tT,tT,fF,fF,tT,tT,fF] (AL f36))) (sub [tT,tT,fF,tT,fF,fF,tT,tT,fF,fF,tT,tT,fF,tT] (AL f36)):=by kernel_rfl
def Ew (Rf:Exit→AH→Prop)(x3 x4 x6 x7 x10:AV)(H:AH)(K:KT):Prop:=
 bO (Au false 1 H x3) λv0=>
 bO (Au false 1 H x4) λv1=>
 bO (Au false 1 H x7) λv2=>
 bC (BCall prog 44 [v0,v1,v2,x10] H) λv3 H4=>
 bO (Aj v3 0) λv5=>
 bO (Aj v3 1) λv6=>
 bO (Ap .neq v6 (I 0)) λv7=>
 bB v7 λt8=>bI t8 (
 bS (AT 1 H4 x6 v6) λH9=>
 Rf .ret H9)
 (bO (Au false 1 H4 x7) λv10=>
 bO (Ap .add v10 v5) λv11=>
 bS (AT 1 H4 x7 v11) λH12=>
 Rf .normal H12)
theorem Si (Rf:Exit→AH→Prop)(x3 x4 x6 x7 x10:AV)(H:AH)(K:KT):D4 [tT,tT,fF,tT,fF,fF,tT,tT,fF,fF,tT,tT,fF,tT] 11 (AW (mk 37 0 [3,4,6,7,10]) [x3,x4,x6,x7,x10]) H (λe _ H=>Rf e H)=Ew Rf x3 x4 x6 x7 x10 H K:=by kernel_rfl
theorem Sj (R4:RT)(x3 x4 x6 x7 x13 x14 x15 x20:AV)(H:AH)(K:KT):(Bh 2 (Bh 1 (Bl (D4 [tT,tT,fF,tT,fF,fF,tT,tT,tT] 15) (Mh (mk 37 0 [3,4,6,7,13,14,15]) R4 (Bh 0 (Bl (D4 [tT,tT,tT] 15) (Bm prog f36.results.toList K))))))) .normal (AW (mk 37 0 [3,4,6,7,13,14,15,20]) [x3,x4,x6,x7,x13,x14,x15,x20]) H=(bO (Ap .add x15 (I 1)) λv6=>
 R4 [x3,x4,x6,x7,x13,x14,v6] H):=by kernel_rfl
theorem Sk (R4:RT)(x3 x4 x6 x7 x13 x14 x15 x20:AV)(H:AH)(K:KT):(Bh 2 (Bh 1 (Bl (D4 [tT,tT,fF,tT,fF,fF,tT,tT,tT] 15) (Mh (mk 37 0 [3,4,6,7,13,14,15]) R4 (Bh 0 (Bl (D4 [tT,tT,tT] 15) (Bm prog f36.results.toList K))))))) .ret (AW (mk 37 0 [3,4,6,7,13,14,15,20]) [x3,x4,x6,x7,x13,x14,x15,x20]) H=(bO (Au false 1 H x6) λv7=>
 K v7 H):=by kernel_rfl
def Nr (R4:RT)(x3 x4 x6 x7 x13 x14 x15:AV)(H:AH)(K:KT):Prop:=
 bO (Ap .lss x15 x14) λv0=>
 bB v0 λt1=>bI t1 (
 bO (Bj 1 x13 x15) λv2=>
 bO (Au false 1 H v2) λv3=>
 bC (BCall prog 79 [v3,(I 4096)] H) λv4 H5=>
 OY R4 x3 x4 x6 x7 x13 x14 x15 v4 H5 K)
 (bS (AT 1 H x6 (I 0)) λH8=>
 bO (Au false 1 H8 x6) λv9=>
 K v9 H8)
theorem QD {K:KT}:xM (λR x3 x4 x6 x7 x13 x14 x15 H=>Nr R x3 x4 x6 x7 x13 x14 x15 H K) (λx3 x4 x6 x7 x13 x14 x15 H=>QC x3 x4 x6 x7 x13 x14 x15 H K):=yL (C3 _ _) (λ_ _ _ _ _ _ _ _ _=>by kernel_rfl)
def Sh (a0 a1 a2:AV)(H:AH)(K:KT):Prop:=
 bH (AD H a0) λv0 H1=>
 bH (AD H1 a1) λv2 H3=>
 bH (AD H3 (I 0)) λv4 H5=>
 bH (AD H5 (I 0)) λv6 H7=>
 bS (AT 1 H7 v6 (I 0)) λH8=>
 bO (Ba a2) λv9=>
 QC v0 v2 v4 v6 a2 v9 (I 0) H8 K
theorem Xw (a0 a1 a2:AV)(H:AH)(K:KT):N1 prog AA uS tL L5 QE f36 [a0,a1,a2] H K=Sh a0 a1 a2 H K:=by kernel_rfl
theorem Xx {a0 a1 a2:AV}{H:AH}{K:KT}(h:Sh a0 a1 a2 H K):ACalls prog 36 [a0,a1,a2] H K:=
 FJ Kn func36 (by kernel_rfl) (Eq.mpr (Xw a0 a1 a2 H K) h)
def YT:Nat→Bool:=ST []
def UX (a0 a1 a2:AV)(H:AH)(K:KT):Prop:=
 bC (BCall prog 18 [a0,a1,(B true)] H) λv0 H1=>
 bO (Aj v0 0) λv2=>
 bO (Aj v0 1) λv3=>
 bO (Ap .neq v3 (I 0)) λv4=>
 bB v4 λt5=>bI t5 (
 K v3 H1)
 (bC (BCall prog 19 [a0,v2,(I 0)] H1) λv6 H7=>
 bO (Ap .neq v6 (I 0)) λv8=>
 bB v8 λt9=>bI t9 (
 K v6 H7)
 (bA (ACalls prog 36 [a0,v2,a2] H7) λv10 H11=>
 bO (Ap .neq v10 (I 0)) λv12=>
 bB v12 λt13=>bI t13 (
 K v10 H11)
 (bH (Cr H11 1 1 (Be [(I 0)] 1) [(0,1,v2)]) λv14 H15=>
 bC (BCall prog 37 [a0,v14] H15) λv16 H17=>
 K v16 H17)))
theorem YR (a0 a1 a2:AV)(H:AH)(K:KT):N1 prog AA uS tL YT BA f11 [a0,a1,a2] H K=UX a0 a1 a2 H K:=by kernel_rfl
theorem YS {a0 a1 a2:AV}{H:AH}{K:KT}(h:UX a0 a1 a2 H K):ACalls prog 11 [a0,a1,a2] H K:=
 FJ Kn func11 (by kernel_rfl) (Eq.mpr (YR a0 a1 a2 H K) h)
end Go.Proofs.YtbppnhenlboefaaGreat.Av
end
