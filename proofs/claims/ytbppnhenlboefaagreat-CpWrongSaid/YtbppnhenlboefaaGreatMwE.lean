/- The law and its row. No condition. -/
import Derived.Test.YtbppnhenlboefaaGreatMwD
set_option linter.unusedVariables false
set_option maxRecDepth 100000
section
namespace Go.Proofs.YtbppnhenlboefaaGreat.Av
open Go Go.Proofs.Tryz
def I4:FuncId→Bool:=Rp [188,54,142,148,145,22,170,50,172,141,171,173,94,140,42,95,20,13,52,102,75,82,176,40,135,70,134,139,149,24,166,174,138,207,57,58,59,107,109,92,168]
def jA:FuncId→Bool:=Rp [210,212]
def OF (a0:AV)(H:AH)(K:KT):Prop:=
 bH (A5 H a0) λv0 H1=>
 bH (A5 H1 (.agg [(I 0),Ac])) λv2 H3=>
 bO (Ad 0 v0) λv4=>
 bO (Ar false 1 H3 v4) λv5=>
 bO (Ad 1 v0) λv6=>
 bO (Ar false 1 H3 v6) λv7=>
 bP (BPure prog 95 [v7]) λv8=>
 bO (FC [(I 0),Ac] [(0,1,v5),(1,1,v8)]) λv9=>
 bS (AS 2 H3 v2 v9) λH10=>
 bO (Ar true 2 H10 v2) λv11=>
 K v11 H10
theorem QY {a0:AV}{H:AH}{K:KT}(h:OF a0 H K):Cr 42 [a0] H K:=
 fok A8 I4 BD func42 h
def SE (a0 a1:AV)(H:AH)(K:KT):Prop:=
 bH (A5 H a0) λv0 H1=>
 bO (Ar true 2 H1 v0) λv2=>
 bP (PCall prog 40 [v2] H1) λv3=>
 bO (EX .not v3) λv4=>
 bB v4 λt5=>bI t5 (
 K (.tup [(I 0),(B false)]) H1)
 (bO (Ar true 2 H1 v0) λv6=>
 bC (BCall prog 51 [v6,a1] H1) λv7 H8=>
 bO (Ak v7 0) λv9=>
 bO (Ak v7 1) λv10=>
 bO (EX .not v10) λv11=>
 bB v11 λt12=>bI t12 (
 K (.tup [(I 0),(B false)]) H8)
 (bO (Ad 0 v0) λv13=>
 bO (Ar false 1 H8 v13) λv14=>
 bO (Bk 2 v14 v9) λv15=>
 bO (Ad 1 v15) λv16=>
 bO (Ar false 1 H8 v16) λv17=>
 K (.tup [v17,(B true)]) H8))
theorem TN {a0 a1:AV}{H:AH}{K:KT}(h:SE a0 a1 H K):Cr 20 [a0,a1] H K:=
 fok A8 I4 BD func20 h
def PN (a0 a1:AV)(H:AH)(K:KT):Prop:=
 bH (A5 H a0) λv0 H1=>
 bH (A5 H1 (.agg [(I 0),Ac])) λv2 H3=>
 bO (Ar true 2 H3 v0) λv4=>
 bP (PCall prog 40 [v4] H3) λv5=>
 bO (EX .not v5) λv6=>
 bB v6 λt7=>bI t7 (
 bO (FC [(I 0),Ac] []) λv8=>
 bS (AS 2 H3 v2 v8) λH9=>
 bO (Ar true 2 H9 v2) λv10=>
 K (.tup [v10,(B false)]) H9)
 (bO (Ar true 2 H3 v0) λv11=>
 bC (BCall prog 41 [v11,a1] H3) λv12 H13=>
 bO (Ak v12 0) λv14=>
 bO (Ak v12 1) λv15=>
 bO (EX .not v15) λv16=>
 bB v16 λt17=>bI t17 (
 bO (FC [(I 0),Ac] []) λv18=>
 bS (AS 2 H13 v2 v18) λH19=>
 bO (Ar true 2 H19 v2) λv20=>
 K (.tup [v20,(B false)]) H19)
 (bO (Ad 1 v0) λv21=>
 bO (Ar false 1 H13 v21) λv22=>
 bO (Bk 3 v22 v14) λv23=>
 bO (Ad 1 v23) λv24=>
 bO (Ar true 2 H13 v24) λv25=>
 bP (PCall prog 42 [v25] H13) λv26=>
 bS (AS 2 H13 v2 v26) λH27=>
 bO (Ar true 2 H27 v2) λv28=>
 K (.tup [v28,(B true)]) H27))
theorem O8 {a0 a1:AV}{H:AH}{K:KT}(h:PN a0 a1 H K):Cr 13 [a0,a1] H K:=
 fok A8 I4 BD func13 h
def Ng:Nat→Option (List Bool):=Cn [(7,mk 24 0 [3,10,11,12])]
def OD (p:List Bool)(n:Nat):List AV→AH→Kf→Prop:=AD prog A8 I4 Ap Ap Ng (sub p (AG f52)) n
def Nf (x3 x10 x11 x12:AV)(H:AH)(K:KT):Prop:=lp (mk 24 0 [3,10,11,12]) (OD [tT,tT,tT,fF,tT,fF,fF] 8) [x3,x10,x11,x12] H (BG 0 (BH (OD [tT,tT,tT,tT] 12) (Br prog f52.results.toList K)))
def KJ (R7:RT)(x3 x10 x11 x12:AV)(H:AH)(K:KT):Prop:=
 bO (Ay .lss x12 x11) λv0=>
 bB v0 λt1=>bI t1 (
 bO (Bk 3 x10 x12) λv2=>
 bO (Ar true 3 H v2) λv3=>
 bH (A5 H (.agg [(I 0),(I 0),Ac])) λv4 H5=>
 bS (AS 3 H5 v4 v3) λH6=>
 bO (Ad 1 v4) λv7=>
 bO (Ad 1 v7) λv8=>
 bO (Ar false 1 H6 v8) λv9=>
 bO (AW v9) λv10=>
 bO (Ay .add x3 v10) λv11=>
 bO (Ay .add x12 (I 1)) λv12=>
 R7 [v11,x10,x11,v12] H6)
 (K x3 H)
theorem NB {K:KT}:VN (λR x3 x10 x11 x12 H=>KJ R x3 x10 x11 x12 H K) (λx3 x10 x11 x12 H=>Nf x3 x10 x11 x12 H K):=LR (A3 _ _) (λ_ _ _ _ _ _=>by kernel_rfl)
def SG (a0:AV)(H:AH)(K:KT):Prop:=
 bH (A5 H a0) λv0 H1=>
 bO (Ar true 2 H1 v0) λv2=>
 bP (PCall prog 40 [v2] H1) λv3=>
 bO (EX .not v3) λv4=>
 bB v4 λt5=>bI t5 (
 K (I 0) H1)
 (bO (Ad 1 v0) λv6=>
 bO (Ar false 1 H1 v6) λv7=>
 bO (AW v7) λv8=>
 Nf (I 0) v7 v8 (I 0) H1 K)
theorem TP {a0:AV}{H:AH}{K:KT}(h:SG a0 H K):Cr 52 [a0] H K:=
 fok A8 I4 Ng func52 h
def JE:Nat→Option (List Bool):=Cn [(6,mk 27 0 [0,17,18])]
def KI (p:List Bool)(n:Nat):List AV→AH→Kf→Prop:=AD prog A8 I4 Ap Ap JE (sub p (AG f102)) n
def G4 (x0 x17 x18:AV)(H:AH)(K:KT):Prop:=lp (mk 27 0 [0,17,18]) (KI [tT,tT,fF,tT,fF,fF] 7) [x0,x17,x18] H (BG 0 (BH (KI [tT,tT,tT] 13) (Br prog f102.results.toList K)))
def Ij (R6:RT)(x0 x17 x18:AV)(H:AH)(K:KT):Prop:=
 bO (Ay .lss x18 x17) λv0=>
 bB v0 λt1=>bI t1 (
 bO (QN x0 x18) λv2=>
 bP (PCall prog 166 [v2] H) λv3=>
 bO (EX .not v3) λv4=>
 bB v4 λt5=>bI t5 (
 K (B false) H)
 (bO (Ay .add x18 (I 1)) λv6=>
 R6 [x0,x17,v6] H))
 (K (B true) H)
theorem KZ {K:KT}:oQ (λR x0 x17 x18 H=>Ij R x0 x17 x18 H K) (λx0 x17 x18 H=>G4 x0 x17 x18 H K):=iO (A3 _ _) (λ_ _ _ _ _=>by kernel_rfl)
def Nc (a0:AV)(H:AH)(K:KT):Prop:=
 bO (QK .eql a0 (.lit (.string ⟨#[]⟩))) λv0=>
 bG v0 false λw1=>
 gO w1 (some a0) λv2=>
 bG v0 false λw3=>
 gO w3 (FD v2) λv4=>
 bG v0 false λw5=>
 gO w5 (Ay .gtr v4 (I 20)) λv6=>
 bO (AC v0 (B true) v6) λv7=>
 bG v7 false λw8=>
 gO w8 (some a0) λv9=>
 bG v7 false λw10=>
 gO w10 (QN v9 (I 0)) λv11=>
 bG v7 false λw12=>
 gO w12 (Ay .eql v11 (.lit (.int .u8 45))) λv13=>
 bO (AC v7 (B true) v13) λv14=>
 bB v14 λt15=>bI t15 (
 K (B false) H)
 (bO (FD a0) λv16=>
 G4 a0 v16 (I 0) H K)
theorem PO {a0:AV}{H:AH}{K:KT}(h:Nc a0 H K):Cr 102 [a0] H K:=
 fok A8 I4 JE func102 h
def LL:Nat→Option (List Bool):=Cn [(13,mk 37 0 [2,3,4,31]),(12,mk 37 0 [2,3,4,12,24]),(8,mk 37 0 [2,3,4,12,17]),(5,mk 37 0 [2,4])]
def D4 (p:List Bool)(n:Nat):List AV→AH→Kf→Prop:=AD prog A8 I4 Ap Ap LL (sub p (AG f82)) n
def Db (x2 x4:AV)(H:AH)(K:KT):Prop:=jn (mk 37 0 [2,4]) (D4 [tT,tT,tT,tT] 14) [x2,x4] H (Br prog f82.results.toList K)
def KG (x2 x3 x4 x31:AV)(H:AH)(K:KT):Prop:=jn (mk 37 0 [2,3,4,31]) (D4 [tT,tT,tT,fF,tT,fF,tT,tT,tT,tT,tT,tT,tT] 14) [x2,x3,x4,x31] H (BG 0 (BH (Ke (mk 37 0 [2,4]) (D4 [tT,tT,tT,tT] 14)) (Br prog f82.results.toList K)))
def KF (x2 x3 x4 x12 x24:AV)(H:AH)(K:KT):Prop:=jn (mk 37 0 [2,3,4,12,24]) (D4 [tT,tT,tT,fF,tT,fF,tT,tT,tT,tT,tT] 13) [x2,x3,x4,x12,x24] H (BG 0 (BH (Ke (mk 37 0 [2,4]) (D4 [tT,tT,tT,tT] 14)) (Br prog f82.results.toList K)))
def DK (x2 x3 x4 x12 x17:AV)(H:AH)(K:KT):Prop:=jn (mk 37 0 [2,3,4,12,17]) (D4 [tT,tT,tT,fF,tT,fF,tT,tT,tT] 12) [x2,x3,x4,x12,x17] H (BG 0 (BH (Ke (mk 37 0 [2,4]) (D4 [tT,tT,tT,tT] 14)) (Br prog f82.results.toList K)))
def Gz (x2 x4:AV)(H:AH)(K:KT):Prop:=
 bO (Ar true 2 H x2) λv0=>
 bS (AS 2 H x4 v0) λH1=>
 bO (Ar true 2 H1 x4) λv2=>
 K v2 H1
theorem IR (x2 x4:AV)(H:AH)(K:KT):Db x2 x4 H K=Gz x2 x4 H K:=(Em _ _ _ _ _).trans (by kernel_rfl)
def IQ (x2 x3 x4 x31:AV)(H:AH)(K:KT):Prop:=
 bB x31 λt0=>bI t0 (
 bO (Ad 5 x3) λv1=>
 bO (Ar false 1 H v1) λv2=>
 bC (BCall prog 155 [x2,v2] H) λv3 H4=>
 Db x2 x4 H4 K)
 (Db x2 x4 H K)
theorem N9 (x2 x3 x4 x31:AV)(H:AH)(K:KT):KG x2 x3 x4 x31 H K=IQ x2 x3 x4 x31 H K:=(Em _ _ _ _ _).trans (by kernel_rfl)
def IP (x2 x3 x4 x12 x24:AV)(H:AH)(K:KT):Prop:=
 bB x24 λt0=>bI t0 (
 bO (Ad 5 x3) λv1=>
 bO (Ar false 1 H v1) λv2=>
 bO (Ad 6 x3) λv3=>
 bO (Ar false 1 H v3) λv4=>
 bC (BCall prog 154 [x2,v2,v4] H) λv5 H6=>
 Db x2 x4 H6 K)
 (bO (Ay .eql x12 (I 7)) λv7=>
 KG x2 x3 x4 v7 H K)
theorem N8 (x2 x3 x4 x12 x24:AV)(H:AH)(K:KT):KF x2 x3 x4 x12 x24 H K=IP x2 x3 x4 x12 x24 H K:=(Em _ _ _ _ _).trans (by kernel_rfl)
def JD (x2 x3 x4 x12 x17:AV)(H:AH)(K:KT):Prop:=
 bB x17 λt0=>bI t0 (
 bO (Ar true 8 H x3) λv1=>
 bC (BCall prog 153 [x2,v1] H) λv2 H3=>
 Db x2 x4 H3 K)
 (bO (Ay .eql x12 (I 6)) λv4=>
 KF x2 x3 x4 x12 v4 H K)
theorem O6 (x2 x3 x4 x12 x17:AV)(H:AH)(K:KT):DK x2 x3 x4 x12 x17 H K=JD x2 x3 x4 x12 x17 H K:=(Em _ _ _ _ _).trans (by kernel_rfl)
def Qy (a0 a1:AV)(H:AH)(K:KT):Prop:=
 bH (A5 H a0) λv0 H1=>
 bH (A5 H1 a1) λv2 H3=>
 bH (A5 H3 (.agg [Ac,Ac])) λv4 H5=>
 bO (Ar true 2 H5 v0) λv6=>
 bC (BCall prog 43 [v6] H5) λv7 H8=>
 bS (AS 2 H8 v0 v7) λH9=>
 bO (Ar true 2 H9 v0) λv10=>
 bP (PCall prog 40 [v10] H9) λv11=>
 bO (EX .not v11) λv12=>
 bB v12 λt13=>bI t13 (
 bO (Ar true 2 H9 v0) λv14=>
 bS (AS 2 H9 v4 v14) λH15=>
 bO (Ar true 2 H15 v4) λv16=>
 K v16 H15)
 (bO (Ad 0 v2) λv17=>
 bO (Ar false 1 H9 v17) λv18=>
 bO (Ay .eql v18 (I 1)) λv19=>
 bB v19 λt20=>bI t20 (
 bO (Ar true 8 H9 v2) λv21=>
 bC (BCall prog 152 [v0,v21] H9) λv22 H23=>
 Db v0 v4 H23 K)
 (bO (Ay .eql v18 (I 2)) λv24=>
 bB v24 λt25=>bI t25 (
 DK v0 v2 v4 v18 v24 H9 K)
 (bO (Ay .eql v18 (I 3)) λv26=>
 bB v26 λt27=>bI t27 (
 DK v0 v2 v4 v18 v26 H9 K)
 (bO (Ay .eql v18 (I 4)) λv28=>
 bB v28 λt29=>bI t29 (
 DK v0 v2 v4 v18 v28 H9 K)
 (bO (Ay .eql v18 (I 5)) λv30=>
 DK v0 v2 v4 v18 v30 H9 K)))))
theorem SC {a0 a1:AV}{H:AH}{K:KT}(h:Qy a0 a1 H K):Cr 82 [a0,a1] H K:=
 fok A8 I4 LL func82 h
def OB:Nat→Option (List Bool):=Cn [(8,mk 51 0 [3,5,25,26,27])]
def Qz (p:List Bool)(n:Nat):List AV→AH→Kf→Prop:=AD prog A8 I4 Ap Ap OB (sub p (AG f40)) n
def O9 (x3 x5 x25 x26 x27:AV)(H:AH)(K:KT):Prop:=lp (mk 51 0 [3,5,25,26,27]) (Qz [tT,tT,tT,tT,fF,tT,fF,fF] 9) [x3,x5,x25,x26,x27] H (BG 0 (BH (Qz [tT,tT,tT,tT,tT] 16) (Br prog f40.results.toList K)))
def LM (R8:RT)(x3 x5 x25 x26 x27:AV)(H:AH)(K:KT):Prop:=
 bO (Ay .lss x27 x26) λv0=>
 bB v0 λt1=>bI t1 (
 bO (Bk 3 x25 x27) λv2=>
 bO (Ar true 3 H v2) λv3=>
 bH (A5 H (.agg [(I 0),(I 0),Ac])) λv4 H5=>
 bS (AS 3 H5 v4 v3) λH6=>
 bO (Ad 0 v4) λv7=>
 bO (Ar false 1 H6 v7) λv8=>
 bO (Ay .leq v8 x5) λv9=>
 bG v9 false λw10=>
 gO w10 (some x3) λv11=>
 bG v9 false λw12=>
 gO w12 (Ad 0 v4) λv13=>
 bG v9 false λw14=>
 gO w14 (Ar false 1 H6 v13) λv15=>
 bG v9 false λw16=>
 gO w16 (fX (.int .i64) (.bool false) H6 v11 v15 false) λv17=>
 bG v9 false λw18=>
 gO w18 (EX .not v17) λv19=>
 bO (AC v9 (B true) v19) λv20=>
 bG v20 false λw21=>
 gO w21 (Ad 1 v4) λv22=>
 bG v20 false λw23=>
 gO w23 (Ar true 2 H6 v22) λv24=>
 bG v20 false λw25=>
 gP w25 (PCall prog 54 [v24] H6) λv26=>
 bG v20 false λw27=>
 gO w27 (EX .not v26) λv28=>
 bO (AC v20 (B true) v28) λv29=>
 bB v29 λt30=>bI t30 (
 K (B false) H6)
 (bO (Ad 0 v4) λv31=>
 bO (Ar false 1 H6 v31) λv32=>
 bO (Ay .add x27 (I 1)) λv33=>
 R8 [x3,v32,x25,x26,v33] H6))
 (K (B true) H)
theorem OA {K:KT}:gI (λR x3 x5 x25 x26 x27 H=>LM R x3 x5 x25 x26 x27 H K) (λx3 x5 x25 x26 x27 H=>O9 x3 x5 x25 x26 x27 H K):=WQ (A3 _ _) (λ_ _ _ _ _ _ _=>by kernel_rfl)
def Us (a0:AV)(H:AH)(K:KT):Prop:=
 bH (A5 H a0) λv0 H1=>
 bO (Ad 0 v0) λv2=>
 bO (Ar false 1 H1 v2) λv3=>
 bC (BCall prog 91 [v3] H1) λv4 H5=>
 bO (Ak v4 0) λv6=>
 bO (Ak v4 1) λv7=>
 bO (EX .not v7) λv8=>
 bG v8 false λw9=>
 gO w9 (Ad 1 v0) λv10=>
 bG v8 false λw11=>
 gO w11 (Ar false 1 H5 v10) λv12=>
 bG v8 false λw13=>
 gO w13 (AW v12) λv14=>
 bG v8 false λw15=>
 gO w15 (some v6) λv16=>
 bG v8 false λw17=>
 gO w17 (X9 H5 v16) λv18=>
 bG v8 false λw19=>
 gO w19 (Ay .neq v14 v18) λv20=>
 bO (AC v8 (B true) v20) λv21=>
 bB v21 λt22=>bI t22 (
 K (B false) H5)
 (bO (Ad 1 v0) λv23=>
 bO (Ar false 1 H5 v23) λv24=>
 bO (AW v24) λv25=>
 O9 v6 (I 0) v24 v25 (I 0) H5 K)
theorem Vu {a0:AV}{H:AH}{K:KT}(h:Us a0 H K):Cr 40 [a0] H K:=
 fok A8 I4 OB func40 h
def SF (a0 a1:AV)(H:AH)(K:KT):Prop:=
 bH (A5 H a0) λv0 H1=>
 bH (A5 H1 a1) λv2 H3=>
 bO (Ad 0 v0) λv4=>
 bO (Ar false 1 H3 v4) λv5=>
 bO (Ad 0 v2) λv6=>
 bO (Ar false 1 H3 v6) λv7=>
 bP (PCall prog 57 [v5,v7] H3) λv8=>
 bG v8 true λw9=>
 gO w9 (Ad 1 v0) λv10=>
 bG v8 true λw11=>
 gO w11 (Ar false 1 H3 v10) λv12=>
 bG v8 true λw13=>
 gO w13 (Ad 1 v2) λv14=>
 bG v8 true λw15=>
 gO w15 (Ar false 1 H3 v14) λv16=>
 bG v8 true λw17=>
 gP w17 (PCall prog 58 [v12,v16,(.fn (.func 59) [] [])] H3) λv18=>
 bO (AC v8 v18 (B false)) λv19=>
 K v19 H3
theorem TO {a0 a1:AV}{H:AH}{K:KT}(h:SF a0 a1 H K):Cr 24 [a0,a1] H K:=
 fok A8 I4 BD func24 h
def Na:Cq:=JB [(1,[(4,none)])]
def Nb:Nat→Option (List Bool):=Cn [(4,mk 31 0 [1,2,13,14])]
def O7 (p:List Bool)(n:Nat):List AV→AH→Kf→Prop:=AD prog Na I4 Ap Ap Nb (sub p (AG f43)) n
def MZ (x1 x2 x13 x14:AV)(H:AH)(K:KT):Prop:=lp (mk 31 0 [1,2,13,14]) (O7 [tT,tT,fF,tT,fF,fF] 5) [x1,x2,x13,x14] H (BG 0 (BH (O7 [tT,tT,tT] 9) (Br prog f43.results.toList K)))
def KH (R4:RT)(x1 x2 x13 x14:AV)(H:AH)(K:KT):Prop:=
 bO (Ay .lss x14 x13) λv0=>
 bB v0 λt1=>bI t1 (
 bO (Ad 1 x1) λv2=>
 bO (Ar false 1 H v2) λv3=>
 bO (Ad 1 x1) λv4=>
 bO (Ar false 1 H v4) λv5=>
 bO (Bk 3 v5 x14) λv6=>
 bO (Ad 1 v6) λv7=>
 bO (Ar true 2 H v7) λv8=>
 bP (BPure prog 42 [v8]) λv9=>
 bO (Bk 3 v3 x14) λv10=>
 bO (Ad 1 v10) λv11=>
 bS (AS 2 H v11 v9) λH12=>
 bO (Ay .add x14 (I 1)) λv13=>
 R4 [x1,x2,x13,v13] H12)
 (bO (Ar true 2 H x1) λv14=>
 bS (AS 2 H x2 v14) λH15=>
 bO (Ar true 2 H15 x2) λv16=>
 K v16 H15)
theorem NA {K:KT}:VN (λR x1 x2 x13 x14 H=>KH R x1 x2 x13 x14 H K) (λx1 x2 x13 x14 H=>MZ x1 x2 x13 x14 H K):=LR (A3 _ _) (λ_ _ _ _ _ _=>by kernel_rfl)
def SD (a0:AV)(H:AH)(K:KT):Prop:=
 bH (A5 H a0) λv0 H1=>
 bH (A5 H1 (.agg [Ac,Ac])) λv2 H3=>
 bO (Ad 0 v0) λv4=>
 bO (Ar false 1 H3 v4) λv5=>
 bC (BCall prog 96 [v5] H3) λv6 H7=>
 bO (Ad 1 v0) λv8=>
 bO (Ar false 1 H7 v8) λv9=>
 bC (BCall prog 97 [v9] H7) λv10 H11=>
 bO (FC [Ac,Ac] [(0,1,v6),(1,1,v10)]) λv12=>
 bS (AS 2 H11 v0 v12) λH13=>
(Ar false 1 H3 v8=some v9)∧
 bO (Ad 1 v0) λv14=>
 bO (Ar false 1 H13 v14) λv15=>
 bO (AW v15) λv16=>
 MZ v0 v2 v16 (I 0) H13 K
theorem TM {a0:AV}{H:AH}{K:KT}(h:SD a0 H K):Cr 43 [a0] H K:=
 fok Na I4 Nb func43 h
def Q0 (a0 a1:AV)(H:AH)(K:KT):Prop:=
 bH (A5 H a0) λv0 H1=>
 bO (Ad 0 v0) λv2=>
 bO (Ar false 1 H1 v2) λv3=>
 bP (PCall prog 107 [v3,a1,(.fn (.func 108) [] [])] H1) λv4=>
 bO (Ak v4 0) λv5=>
 bO (Ak v4 1) λv6=>
 K (.tup [v5,v6]) H1
theorem SH {a0 a1:AV}{H:AH}{K:KT}(h:Q0 a0 a1 H K):Cr 51 [a0,a1] H K:=
 fok A8 I4 BD func51 h
def SJ (a0 a1:AV)(H:AH)(K:KT):Prop:=
 bH (A5 H a0) λv0 H1=>
 bO (Ad 1 v0) λv2=>
 bO (Ar false 1 H1 v2) λv3=>
 bP (PCall prog 92 [v3,a1,(.fn (.func 93) [] [])] H1) λv4=>
 bO (Ak v4 0) λv5=>
 bO (Ak v4 1) λv6=>
 K (.tup [v5,v6]) H1
theorem TQ {a0 a1:AV}{H:AH}{K:KT}(h:SJ a0 a1 H K):Cr 41 [a0,a1] H K:=
 fok A8 I4 BD func41 h
def Ut (a0:AV)(H:AH)(K:KT):Prop:=
 bO (Ay .geq a0 (.lit (.int .u8 97))) λv0=>
 bG v0 true λw1=>
 gO w1 (some a0) λv2=>
 bG v0 true λw3=>
 gO w3 (Ay .leq v2 (.lit (.int .u8 122))) λv4=>
 bO (AC v0 v4 (B false)) λv5=>
 bG v5 false λw6=>
 gO w6 (some a0) λv7=>
 bG v5 false λw8=>
 gO w8 (Ay .geq v7 (.lit (.int .u8 48))) λv9=>
 bG v5 false λw10=>
 gO w10 (some v9) λv11=>
 bG v11 true λw12=>
 gO w12 (some a0) λv13=>
 bG v11 true λw14=>
 gO w14 (Ay .leq v13 (.lit (.int .u8 57))) λv15=>
 bG v5 false λw16=>
 gO w16 (AC v11 v15 (B false)) λv17=>
 bO (AC v5 (B true) v17) λv18=>
 bG v18 false λw19=>
 gO w19 (some a0) λv20=>
 bG v18 false λw21=>
 gO w21 (Ay .eql v20 (.lit (.int .u8 46))) λv22=>
 bO (AC v18 (B true) v22) λv23=>
 bG v23 false λw24=>
 gO w24 (some a0) λv25=>
 bG v23 false λw26=>
 gO w26 (Ay .eql v25 (.lit (.int .u8 95))) λv27=>
 bO (AC v23 (B true) v27) λv28=>
 bG v28 false λw29=>
 gO w29 (some a0) λv30=>
 bG v28 false λw31=>
 gO w31 (Ay .eql v30 (.lit (.int .u8 45))) λv32=>
 bO (AC v28 (B true) v32) λv33=>
 K v33 H
theorem Vv {a0:AV}{H:AH}{K:KT}(h:Ut a0 H K):Cr 166 [a0] H K:=
 fok A8 I4 BD func166 h
def KL:Nat→Option (List Bool):=Cn [(100004,mk 82 0 [0,3,4,6]),(100005,mk 82 0 [0,3,6]),(5,mk 82 0 [0,3,6])]
def KN:Nat→Bool:=Rp [4,5]
def FV (p:List Bool)(n:Nat):List AV→AH→Kf→Prop:=AD prog A8 I4 jA KN KL (sub p (AG f152)) n
def Hh (x0 x3 x6:AV)(H:AH)(K:KT):Prop:=unR prog 5 (SZ (sub [tT,tT,tT,tT,tT] (AG f152))) (AP (mk 82 0 [0,3,6]) [x0,x3,x6]) H (Br prog f152.results.toList K)
def Hg (x0 x3 x6:AV)(H:AH)(K:KT):Prop:=jn (mk 82 0 [0,3,6]) (FV [tT,tT,tT,tT,tT] 6) [x0,x3,x6] H (Br prog f152.results.toList K)
def Fs (x0 x3 x4 x6:AV)(H:AH)(K:KT):Prop:=unR prog 4 (SZ (sub [tT,tT,tT,tT,fF] (AG f152))) (AP (mk 82 0 [0,3,4,6]) [x0,x3,x4,x6]) H (BH (Ke (mk 82 0 [0,3,6]) (FV [tT,tT,tT,tT,tT] 6)) (Br prog f152.results.toList K))
def IS (x0 x3 x6:AV)(H:AH)(K:KT):Prop:=
 Hh x0 x3 x6 H K
theorem NC (x0 x3 x6:AV)(H:AH)(K:KT):Hg x0 x3 x6 H K=IS x0 x3 x6 H K:=(Em _ _ _ _ _).trans (by kernel_rfl)
def HD (a0 a1:AV)(H:AH)(K:KT):Prop:=
 bH (A5 H a1) λv0 H1=>
 bO (Af a0) λv2=>
 bO (Ar true 2 H1 v2) λv3=>
 bO (Ad 5 v0) λv4=>
 bO (Ar false 1 H1 v4) λv5=>
 bC (BCall prog 51 [v3,v5] H1) λv6 H7=>
 bO (Ak v6 0) λv8=>
 bO (Ak v6 1) λv9=>
 bO (Af a0) λv10=>
 bO (Ar true 2 H7 v10) λv11=>
 bO (Ad 1 v0) λv12=>
 bO (Ar false 1 H7 v12) λv13=>
 bC (BCall prog 41 [v11,v13] H7) λv14 H15=>
 bO (Ak v14 0) λv16=>
 bO (Ak v14 1) λv17=>
 bG v9 false λw18=>
 gO w18 (some v17) λv19=>
 bO (AC v9 (B true) v19) λv20=>
 bG v20 false λw21=>
 gO w21 (Ad 5 v0) λv22=>
 bG v20 false λw23=>
 gO w23 (Ar false 1 H15 v22) λv24=>
 bG v20 false λw25=>
 gP w25 (PCall prog 102 [v24] H15) λv26=>
 bG v20 false λw27=>
 gO w27 (EX .not v26) λv28=>
 bO (AC v20 (B true) v28) λv29=>
 bG v29 false λw30=>
 gO w30 (Ad 1 v0) λv31=>
 bG v29 false λw32=>
 gO w32 (Ar false 1 H15 v31) λv33=>
 bG v29 false λw34=>
 gO w34 (Ay .lss v33 (I 1)) λv35=>
 bO (AC v29 (B true) v35) λv36=>
 bG v36 false λw37=>
 gO w37 (Ad 1 v0) λv38=>
 bG v36 false λw39=>
 gO w39 (Ar false 1 H15 v38) λv40=>
 bG v36 false λw41=>
 gO w41 (Ay .gtr v40 (I 4611686018427387904)) λv42=>
 bO (AC v36 (B true) v42) λv43=>
 bG v43 false λw44=>
 gO w44 (some a0) λv45=>
 bG v43 false λw46=>
 gO w46 (Af v45) λv47=>
 bG v43 false λw48=>
 gO w48 (Ad 0 v47) λv49=>
 bG v43 false λw50=>
 gO w50 (Ar false 1 H15 v49) λv51=>
 bG v43 false λw52=>
 gO w52 (AW v51) λv53=>
 bG v43 false λw54=>
 gO w54 (Ay .geq v53 (I 16)) λv55=>
 bO (AC v43 (B true) v55) λv56=>
 bB v56 λt57=>bI t57 (
 K (.tup []) H15)
 (Fs a0 v0 v8 v16 H15 K)
theorem QZ (a0 a1:AV)(H:AH)(K:KT):NG prog A8 I4 jA KN KL f152 [a0,a1] H K=HD a0 a1 H K:=by kernel_rfl
theorem KM {a0 a1:AV}{H:AH}{K:KT}(h:HD a0 a1 H K):ACalls prog 152 [a0,a1] H K:=
 GD JJ func152 (by kernel_rfl) (Eq.mpr (QZ a0 a1 H K) h)
def KK:Nat→Option (List Bool):=Cn [(11,mk 81 0 [0,4,6,72]),(5,mk 81 0 [0,4,5,6])]
def LN (p:List Bool)(n:Nat):List AV→AH→Kf→Prop:=AD prog A8 I4 Ap Ap KK (sub p (AG f153)) n
def JF (x0 x4 x6 x72:AV)(H:AH)(K:KT):Prop:=jn (mk 81 0 [0,4,6,72]) (LN [tT,tT,tT,tT,tT,tT] 12) [x0,x4,x6,x72] H (Br prog f153.results.toList K)
def Ck (x0 x4 x5 x6:AV)(H:AH)(K:KT):Prop:=jn (mk 81 0 [0,4,5,6]) (LN [tT,tT,tT,tT,tT] 11) [x0,x4,x5,x6] H (Br prog f153.results.toList K)
def Fw (x0 x4 x6 x72:AV)(H:AH)(K:KT):Prop:=
 bB x72 λt0=>bI t0 (
 bO (Af x0) λv1=>
 bO (Ad 1 v1) λv2=>
 bO (Ar false 1 H v2) λv3=>
 bO (Ar true 2 H x6) λv4=>
 bO (Bk 3 v3 x4) λv5=>
 bO (Ad 1 v5) λv6=>
 bS (AS 2 H v6 v4) λH7=>
 K (.tup []) H7)
 (K (.tup []) H)
theorem Ht (x0 x4 x6 x72:AV)(H:AH)(K:KT):JF x0 x4 x6 x72 H K=Fw x0 x4 x6 x72 H K:=(Em _ _ _ _ _).trans (by kernel_rfl)
def FU (x0 x4 x5 x6:AV)(H:AH)(K:KT):Prop:=
 JF x0 x4 x6 x5 H K
theorem Ik (x0 x4 x5 x6:AV)(H:AH)(K:KT):Ck x0 x4 x5 x6 H K=FU x0 x4 x5 x6 H K:=(Em _ _ _ _ _).trans (by kernel_rfl)
def OE (a0 a1:AV)(H:AH)(K:KT):Prop:=
 bH (A5 H a1) λv0 H1=>
 bO (Af a0) λv2=>
 bO (Ar true 2 H1 v2) λv3=>
 bO (Ad 1 v0) λv4=>
 bO (Ar false 1 H1 v4) λv5=>
 bC (BCall prog 41 [v3,v5] H1) λv6 H7=>
 bO (Ak v6 0) λv8=>
 bO (Ak v6 1) λv9=>
 bO (EX .not v9) λv10=>
 bB v10 λt11=>bI t11 (
 K (.tup []) H7)
 (bO (Af a0) λv12=>
 bO (Ad 1 v12) λv13=>
 bO (Ar false 1 H7 v13) λv14=>
 bO (Bk 3 v14 v8) λv15=>
 bO (Ad 1 v15) λv16=>
 bO (Ar true 2 H7 v16) λv17=>
 bH (A5 H7 (.agg [(I 0),Ac])) λv18 H19=>
 bS (AS 2 H19 v18 v17) λH20=>
 bO (Ad 0 v0) λv21=>
 bO (Ar false 1 H20 v21) λv22=>
 bO (Ay .eql v22 (I 2)) λv23=>
 bB v23 λt24=>bI t24 (
 bO (Ar true 2 H20 v18) λv25=>
 bO (Ad 2 v0) λv26=>
 bO (Ar false 1 H20 v26) λv27=>
 bO (Ad 7 v0) λv28=>
 bO (Ar false 1 H20 v28) λv29=>
 bP (PCall prog 188 [v25,v27,v29] H20) λv30=>
 bO (Ak v30 0) λv31=>
 bO (Ak v30 1) λv32=>
 bS (AS 2 H20 v18 v31) λH33=>
 Ck a0 v8 v32 v18 H33 K)
 (bO (Ay .eql v22 (I 3)) λv34=>
 bB v34 λt35=>bI t35 (
 bO (Ar true 2 H20 v18) λv36=>
 bO (Ad 3 v0) λv37=>
 bO (Ar false 1 H20 v37) λv38=>
 bP (PCall prog 50 [v36,v38] H20) λv39=>
 bO (Ak v39 0) λv40=>
 bO (Ak v39 1) λv41=>
 bS (AS 2 H20 v18 v40) λH42=>
 Ck a0 v8 v41 v18 H42 K)
 (bO (Ay .eql v22 (I 4)) λv43=>
 bB v43 λt44=>bI t44 (
 bO (Ar true 2 H20 v18) λv45=>
 bO (Ad 2 v0) λv46=>
 bO (Ar false 1 H20 v46) λv47=>
 bO (Ad 3 v0) λv48=>
 bO (Ar false 1 H20 v48) λv49=>
 bO (Ad 4 v0) λv50=>
 bO (Ar false 1 H20 v50) λv51=>
 bP (PCall prog 170 [v45,v47,v49,v51] H20) λv52=>
 bO (Ak v52 0) λv53=>
 bO (Ak v52 1) λv54=>
 bS (AS 2 H20 v18 v53) λH55=>
 Ck a0 v8 v54 v18 H55 K)
 (bO (Ay .eql v22 (I 5)) λv56=>
 bB v56 λt57=>bI t57 (
 bO (Ar true 2 H20 v18) λv58=>
 bO (Ad 2 v0) λv59=>
 bO (Ar false 1 H20 v59) λv60=>
 bO (Ad 3 v0) λv61=>
 bO (Ar false 1 H20 v61) λv62=>
 bP (PCall prog 172 [v58,v60,v62] H20) λv63=>
 bO (Ak v63 0) λv64=>
 bO (Ak v63 1) λv65=>
 bS (AS 2 H20 v18 v64) λH66=>
 Ck a0 v8 v65 v18 H66 K)
 (Ck a0 v8 v9 v18 H20 K)))))
theorem QX {a0 a1:AV}{H:AH}{K:KT}(h:OE a0 a1 H K):Cr 153 [a0,a1] H K:=
 fok A8 I4 KK func153 h
def OI (a0 a1 a2:AV)(H:AH)(K:KT):Prop:=
 bO (Af a0) λv0=>
 bO (Ar true 2 H v0) λv1=>
 bC (BCall prog 51 [v1,a1] H) λv2 H3=>
 bO (Ak v2 0) λv4=>
 bO (Ak v2 1) λv5=>
 bO (EX .not v5) λv6=>
 bG v6 false λw7=>
 gO w7 (some a2) λv8=>
 bG v6 false λw9=>
 gP w9 (PCall prog 102 [v8] H3) λv10=>
 bG v6 false λw11=>
 gO w11 (EX .not v10) λv12=>
 bO (AC v6 (B true) v12) λv13=>
 bG v13 false λw14=>
 gO w14 (some a1) λv15=>
 bG v13 false λw16=>
 gO w16 (some a2) λv17=>
 bG v13 false λw18=>
 gO w18 (QK .eql v15 v17) λv19=>
 bO (AC v13 (B true) v19) λv20=>
 bB v20 λt21=>bI t21 (
 K (.tup []) H3)
 (bO (Af a0) λv22=>
 bO (Ad 0 v22) λv23=>
 bO (Ar false 1 H3 v23) λv24=>
 bO (Bk 2 v24 v4) λv25=>
 bO (Ad 1 v25) λv26=>
 bO (Ar false 1 H3 v26) λv27=>
 bO (Af a0) λv28=>
 bO (Ad 0 v28) λv29=>
 bO (Ar false 1 H3 v29) λv30=>
 bO (Ay .add v4 (I 1)) λv31=>
 bC (BCall prog 189 [v30,v4,v31] H3) λv32 H33=>
 bO (Af a0) λv34=>
 bO (Ad 0 v34) λv35=>
 bS (AS 1 H33 v35 v32) λH36=>
 bC (BCall prog 155 [a0,a2] H36) λv37 H38=>
 bO (Af a0) λv39=>
 bO (Ar true 2 H38 v39) λv40=>
 bC (BCall prog 51 [v40,a2] H38) λv41 H42=>
 bO (Ak v41 0) λv43=>
 bO (Ak v41 1) λv44=>
 bO (Af a0) λv45=>
 bO (Ad 0 v45) λv46=>
 bO (Ar false 1 H42 v46) λv47=>
 bO (FC [(.lit (.string ⟨#[]⟩)),(I 0)] [(0,1,a2),(1,1,v27)]) λv48=>
 bH (Cg H42 2 1 (AZ [(.lit (.string ⟨#[]⟩)),(I 0)] 1) [(0,2,v48)]) λv49 H50=>
 bC (BCall prog 186 [v47,v43,v49] H50) λv51 H52=>
 bO (Af a0) λv53=>
 bO (Ad 0 v53) λv54=>
 bS (AS 1 H52 v54 v51) λH55=>
 K (.tup []) H55)
theorem Rg {a0 a1 a2:AV}{H:AH}{K:KT}(h:OI a0 a1 a2 H K):Cr 154 [a0,a1,a2] H K:=
 fok A8 I4 BD func154 h
def OH (a0 a1:AV)(H:AH)(K:KT):Prop:=
 bO (Af a0) λv0=>
 bO (Ar true 2 H v0) λv1=>
 bC (BCall prog 51 [v1,a1] H) λv2 H3=>
 bO (Ak v2 0) λv4=>
 bO (Ak v2 1) λv5=>
 bO (EX .not v5) λv6=>
 bB v6 λt7=>bI t7 (
 K (.tup []) H3)
 (bO (Af a0) λv8=>
 bO (Ar true 2 H3 v8) λv9=>
 bO (Af a0) λv10=>
 bO (Ad 0 v10) λv11=>
 bO (Ar false 1 H3 v11) λv12=>
 bO (Bk 2 v12 v4) λv13=>
 bO (Ad 1 v13) λv14=>
 bO (Ar false 1 H3 v14) λv15=>
 bC (BCall prog 41 [v9,v15] H3) λv16 H17=>
 bO (Ak v16 0) λv18=>
 bO (Ak v16 1) λv19=>
 bO (Af a0) λv20=>
 bO (Ad 0 v20) λv21=>
 bO (Ar false 1 H17 v21) λv22=>
 bO (Ay .add v4 (I 1)) λv23=>
 bC (BCall prog 189 [v22,v4,v23] H17) λv24 H25=>
 bO (Af a0) λv26=>
 bO (Ad 0 v26) λv27=>
 bS (AS 1 H25 v27 v24) λH28=>
 bO (Af a0) λv29=>
 bO (Ad 1 v29) λv30=>
 bO (Ar false 1 H28 v30) λv31=>
 bO (Ay .add v18 (I 1)) λv32=>
 bC (BCall prog 190 [v31,v18,v32] H28) λv33 H34=>
 bO (Af a0) λv35=>
 bO (Ad 1 v35) λv36=>
 bS (AS 1 H34 v36 v33) λH37=>
 K (.tup []) H37)
theorem Re {a0 a1:AV}{H:AH}{K:KT}(h:OH a0 a1 H K):Cr 155 [a0,a1] H K:=
 fok A8 I4 BD func155 h
def LP:Nat→Option (List Bool):=Cn [(7,mk 58 0 [0,4,11,12,13])]
def Ni (p:List Bool)(n:Nat):List AV→AH→Kf→Prop:=AD prog A8 I4 Ap Ap LP (sub p (AG f91)) n
def LO (x0 x4 x11 x12 x13:AV)(H:AH)(K:KT):Prop:=lp (mk 58 0 [0,4,11,12,13]) (Ni [tT,tT,tT,fF,tT,fF,fF] 8) [x0,x4,x11,x12,x13] H (BG 0 (BH (Ni [tT,tT,tT,tT] 15) (Br prog f91.results.toList K)))
def JG (R7:RT)(x0 x4 x11 x12 x13:AV)(H:AH)(K:KT):Prop:=
 bO (Ay .lss x13 x12) λv0=>
 bB v0 λt1=>bI t1 (
 bO (Bk 2 x11 x13) λv2=>
 bO (Ar true 2 H v2) λv3=>
 bH (A5 H (.agg [(.lit (.string ⟨#[]⟩)),(I 0)])) λv4 H5=>
 bS (AS 2 H5 v4 v3) λH6=>
 bO (Ad 0 v4) λv7=>
 bO (Ar false 1 H6 v7) λv8=>
 bP (BPure prog 102 [v8]) λv9=>
 bO (EX .not v9) λv10=>
 bG v10 false λw11=>
 gO w11 (some x13) λv12=>
 bG v10 false λw13=>
 gO w13 (Ay .gtr v12 (I 0)) λv14=>
 bG v10 false λw15=>
 gO w15 (some v14) λv16=>
 bG v16 true λw17=>
 gO w17 (some x0) λv18=>
 bG v16 true λw19=>
 gO w19 (some x13) λv20=>
 bG v16 true λw21=>
 gO w21 (Ay .sub v20 (I 1)) λv22=>
 bG v16 true λw23=>
 gO w23 (Bk 2 v18 v22) λv24=>
 bG v16 true λw25=>
 gO w25 (Ad 0 v24) λv26=>
 bG v16 true λw27=>
 gO w27 (Ar false 1 H6 v26) λv28=>
 bG v16 true λw29=>
 gO w29 (Ad 0 v4) λv30=>
 bG v16 true λw31=>
 gO w31 (Ar false 1 H6 v30) λv32=>
 bG v16 true λw33=>
 gO w33 (QK .geq v28 v32) λv34=>
 bG v10 false λw35=>
 gO w35 (AC v16 v34 (B false)) λv36=>
 bO (AC v10 (B true) v36) λv37=>
 bG v37 false λw38=>
 gO w38 (Ad 1 v4) λv39=>
 bG v37 false λw40=>
 gO w40 (Ar false 1 H6 v39) λv41=>
 bG v37 false λw42=>
 gO w42 (Ay .lss v41 (I 1)) λv43=>
 bO (AC v37 (B true) v43) λv44=>
 bG v44 false λw45=>
 gO w45 (Ad 1 v4) λv46=>
 bG v44 false λw47=>
 gO w47 (Ar false 1 H6 v46) λv48=>
 bG v44 false λw49=>
 gO w49 (Ay .gtr v48 (I 4611686018427387904)) λv50=>
 bO (AC v44 (B true) v50) λv51=>
 bG v51 false λw52=>
 gO w52 (some x4) λv53=>
 bG v51 false λw54=>
 gO w54 (Ad 1 v4) λv55=>
 bG v51 false λw56=>
 gO w56 (Ar false 1 H6 v55) λv57=>
 bG v51 false λw58=>
 gO w58 (fX (.int .i64) (.bool false) H6 v53 v57 false) λv59=>
 bO (AC v51 (B true) v59) λv60=>
 bB v60 λt61=>bI t61 (
 K (.tup [(.lit (.map none)),(B false)]) H6)
 (bO (Ad 1 v4) λv62=>
 bO (Ar false 1 H6 v62) λv63=>
 bS (oB (.int .i64) H6 x4 v63 (B true)) λH64=>
 bO (Ay .add x13 (I 1)) λv65=>
 R7 [x0,x4,x11,x12,v65] H64))
 (K (.tup [x4,(B true)]) H)
theorem M9 {K:KT}:gI (λR x0 x4 x11 x12 x13 H=>JG R x0 x4 x11 x12 x13 H K) (λx0 x4 x11 x12 x13 H=>LO x0 x4 x11 x12 x13 H K):=WQ (A3 _ _) (λ_ _ _ _ _ _ _=>by kernel_rfl)
def Q2 (a0:AV)(H:AH)(K:KT):Prop:=
 bO (AW a0) λv0=>
 bO (Ay .gtr v0 (I 16)) λv1=>
 bB v1 λt2=>bI t2 (
 K (.tup [(.lit (.map none)),(B false)]) H)
 (bH (lL H none) λv3 H4=>
 bO (AW a0) λv5=>
 LO a0 v3 a0 v5 (I 0) H4 K)
theorem SI {a0:AV}{H:AH}{K:KT}(h:Q2 a0 H K):Cr 91 [a0] H K:=
 fok A8 I4 LP func91 h
def Dh:Nat→Option (List Bool):=Cn [(6,mk 26 0 [0,1,12,13])]
def Dl (p:List Bool)(n:Nat):List AV→AH→Kf→Prop:=AD prog A8 I4 Ap Ap Dh (sub p (AG f57)) n
def Dg (x0 x1 x12 x13:AV)(H:AH)(K:KT):Prop:=lp (mk 26 0 [0,1,12,13]) (Dl [tT,tT,fF,tT,fF,fF] 7) [x0,x1,x12,x13] H (BG 0 (BH (Dl [tT,tT,tT] 13) (Br prog f57.results.toList K)))
def CJ (R6:RT)(x0 x1 x12 x13:AV)(H:AH)(K:KT):Prop:=
 bO (Ay .lss x13 x12) λv0=>
 bB v0 λt1=>bI t1 (
 bO (Bk 2 x0 x13) λv2=>
 bO (Ar true 2 H v2) λv3=>
 bO (Bk 2 x1 x13) λv4=>
 bO (Ar true 2 H v4) λv5=>
 bO (Ha prog .neq 114 v3 v5) λv6=>
 bB v6 λt7=>bI t7 (
 K (B false) H)
 (bO (Ay .add x13 (I 1)) λv8=>
 R6 [x0,x1,x12,v8] H))
 (K (B true) H)
theorem E7 {K:KT}:VN (λR x0 x1 x12 x13 H=>CJ R x0 x1 x12 x13 H K) (λx0 x1 x12 x13 H=>Dg x0 x1 x12 x13 H K):=LR (A3 _ _) (λ_ _ _ _ _ _=>by kernel_rfl)
def DB (a0 a1:AV)(H:AH)(K:KT):Prop:=
 bO (AW a0) λv0=>
 bO (AW a1) λv1=>
 bO (Ay .neq v0 v1) λv2=>
 bB v2 λt3=>bI t3 (
 K (B false) H)
 (bO (AW a0) λv4=>
 Dg a0 a1 v4 (I 0) H K)
theorem F3 {a0 a1:AV}{H:AH}{K:KT}(h:DB a0 a1 H K):Cr 57 [a0,a1] H K:=
 fok A8 I4 Dh func57 h
def Bo:Nat→Option (List Bool):=Cn [(6,mk 32 0 [1,2,15,16,17])]
def Bs (p:List Bool)(n:Nat):List AV→AH→Kf→Prop:=AD prog A8 I4 Ap Ap Bo (sub p (AG f58)) n
def Bn (x1 x2 x15 x16 x17:AV)(H:AH)(K:KT):Prop:=lp (mk 32 0 [1,2,15,16,17]) (Bs [tT,tT,fF,tT,fF,fF] 7) [x1,x2,x15,x16,x17] H (BG 0 (BH (Bs [tT,tT,tT] 14) (Br prog f58.results.toList K)))
def Bf (R6:RT)(x1 x2 x15 x16 x17:AV)(H:AH)(K:KT):Prop:=
 bO (Ay .lss x17 x16) λv0=>
 bB v0 λt1=>bI t1 (
 bO (Bk 3 x15 x17) λv2=>
 bO (Ar true 3 H v2) λv3=>
 bH (A5 H (.agg [(I 0),(I 0),Ac])) λv4 H5=>
 bS (AS 3 H5 v4 v3) λH6=>
 bO (Bk 3 x1 x17) λv7=>
 bO (Ar true 3 H6 v7) λv8=>
 bH (A5 H6 (.agg [(I 0),(I 0),Ac])) λv9 H10=>
 bS (AS 3 H10 v9 v8) λH11=>
 bO (Ar true 3 H11 v4) λv12=>
 bO (Ar true 3 H11 v9) λv13=>
 bF true x2 λk16 f16 c16=>
 bT (Bq prog k16||!true)<|
 bC (BCall prog k16 (f16++[v12,v13]++c16) H11) λv14 H15=>
 bO (EX .not v14) λv17=>
 bB v17 λt18=>bI t18 (
 K (B false) H15)
 (bO (Ay .add x17 (I 1)) λv19=>
 R6 [x1,x2,x15,x16,v19] H15))
 (K (B true) H)
theorem Cj {K:KT}:gI (λR x1 x2 x15 x16 x17 H=>Bf R x1 x2 x15 x16 x17 H K) (λx1 x2 x15 x16 x17 H=>Bn x1 x2 x15 x16 x17 H K):=WQ (A3 _ _) (λ_ _ _ _ _ _ _=>by kernel_rfl)
def Bz (a0 a1 a2:AV)(H:AH)(K:KT):Prop:=
 bO (AW a0) λv0=>
 bO (AW a1) λv1=>
 bO (Ay .neq v0 v1) λv2=>
 bB v2 λt3=>bI t3 (
 K (B false) H)
 (bO (AW a0) λv4=>
 Bn a1 a2 a0 v4 (I 0) H K)
theorem Cz {a0 a1 a2:AV}{H:AH}{K:KT}(h:Bz a0 a1 a2 H K):Cr 58 [a0,a1,a2] H K:=
 fok A8 I4 Bo func58 h
def OC (a0 a1:AV)(H:AH)(K:KT):Prop:=
 bH (A5 H a0) λv0 H1=>
 bH (A5 H1 a1) λv2 H3=>
 bO (Ad 0 v0) λv4=>
 bO (Ar false 1 H3 v4) λv5=>
 bO (Ad 0 v2) λv6=>
 bO (Ar false 1 H3 v6) λv7=>
 bO (Ay .eql v5 v7) λv8=>
 bG v8 true λw9=>
 gO w9 (Ad 1 v0) λv10=>
 bG v8 true λw11=>
 gO w11 (Ar true 2 H3 v10) λv12=>
 bG v8 true λw13=>
 gO w13 (Ad 1 v2) λv14=>
 bG v8 true λw15=>
 gO w15 (Ar true 2 H3 v14) λv16=>
 bG v8 true λw17=>
 gP w17 (PCall prog 22 [v12,v16] H3) λv18=>
 bO (AC v8 v18 (B false)) λv19=>
 K v19 H3
theorem QW {a0 a1:AV}{H:AH}{K:KT}(h:OC a0 a1 H K):Cr 59 [a0,a1] H K:=
 fok A8 I4 BD func59 h
def D8 (a0:AV)(H:AH)(K:KT):Prop:=
 bO (UQ .eql MA a0 Ac) λv0=>
 bB v0 λt1=>bI t1 (
 K Ac H)
 (bH (Cg H 2 0 (AZ [(.lit (.string ⟨#[]⟩)),(I 0)] 0) []) λv2 H3=>
 bH (Pq 2 24 H3 v2 a0) λv4 H5=>
 K v4 H5)
theorem Fy {a0:AV}{H:AH}{K:KT}(h:D8 a0 H K):Cr 96 [a0] H K:=
 fok A8 I4 BD func96 h
def D9 (a0:AV)(H:AH)(K:KT):Prop:=
 bO (UQ .eql MA a0 Ac) λv0=>
 bB v0 λt1=>bI t1 (
 K Ac H)
 (bH (Cg H 3 0 (AZ [(I 0),(I 0),Ac] 0) []) λv2 H3=>
 bH (Pq 3 40 H3 v2 a0) λv4 H5=>
 K v4 H5)
theorem Fz {a0:AV}{H:AH}{K:KT}(h:D9 a0 H K):Cr 97 [a0] H K:=
 fok A8 I4 BD func97 h
def B8:Nat→Option (List Bool):=Cn [(4,mk 49 0 [0,1,2,8,9,10])]
def BB (p:List Bool)(n:Nat):List AV→AH→Kf→Prop:=AD prog A8 I4 Ap Ap B8 (sub p (AG f107)) n
def B7 (x0 x1 x2 x8 x9 x10:AV)(H:AH)(K:KT):Prop:=lp (mk 49 0 [0,1,2,8,9,10]) (BB [tT,tT,tT,fF,fF,fF] 5) [x0,x1,x2,x8,x9,x10] H (BG 0 (BH (BB [tT,tT,tT,tT] 9) (Br prog f107.results.toList K)))
def By (R4:RT)(x0 x1 x2 x8 x9 x10:AV)(H:AH)(K:KT):Prop:=
 bO (Ay .lss x9 x10) λv0=>
 bB v0 λt1=>bI t1 (
 bO (Ay .add x9 x10) λv2=>
 bO (Yw .u64 v2) λv3=>
 bO (Ay .shr v3 (.lit (.int .u64 1))) λv4=>
 bO (Yw .i64 v4) λv5=>
 bO (Bk 2 x0 v5) λv6=>
 bO (Ar true 2 H v6) λv7=>
 bF true x2 λk10 f10 c10=>
 bT (Bq prog k10||!true)<|
 bC (BCall prog k10 (f10++[v7,x1]++c10) H) λv8 H9=>
 bO (Ay .lss v8 (I 0)) λv11=>
 bB v11 λt12=>bI t12 (
 bO (Ay .add v5 (I 1)) λv13=>
 R4 [x0,x1,x2,x8,v13,x10] H9)
 (R4 [x0,x1,x2,x8,x9,v5] H9))
 (bO (Ay .lss x9 x8) λv14=>
 bG v14 true λw15=>
 gO w15 (some x2) λv16=>
 bG v14 true λw17=>
 gO w17 (some x0) λv18=>
 bG v14 true λw19=>
 gO w19 (some x9) λv20=>
 bG v14 true λw21=>
 gO w21 (Bk 2 v18 v20) λv22=>
 bG v14 true λw23=>
 gO w23 (Ar true 2 H v22) λv24=>
 bG v14 true λw25=>
 gO w25 (some x1) λv26=>
 bG v14 true λw27=>
 bF w27 v16 λk30 f30 c30=>
 bT (Bq prog k30||!w27)<|
 gC w27 (BCall prog k30 (f30++[v24,v26]++c30) H) H λv28 H29=>
 bG v14 true λw31=>
 gO w31 (Ay .eql v28 (I 0)) λv32=>
 bO (AC v14 v32 (B false)) λv33=>
 K (.tup [x9,v33]) H29)
theorem Cy {K:KT}:oA (λR x0 x1 x2 x8 x9 x10 H=>By R x0 x1 x2 x8 x9 x10 H K) (λx0 x1 x2 x8 x9 x10 H=>B7 x0 x1 x2 x8 x9 x10 H K):=dO (A3 _ _) (λ_ _ _ _ _ _ _ _=>by kernel_rfl)
def BL (a0 a1 a2:AV)(H:AH)(K:KT):Prop:=
 bO (AW a0) λv0=>
 B7 a0 a1 a2 v0 (I 0) v0 H K
theorem CS {a0 a1 a2:AV}{H:AH}{K:KT}(h:BL a0 a1 a2 H K):Cr 107 [a0,a1,a2] H K:=
 fok A8 I4 B8 func107 h
def Nh (a0 a1:AV)(H:AH)(K:KT):Prop:=
 bH (A5 H a0) λv0 H1=>
 bO (Ad 0 v0) λv2=>
 bO (Ar false 1 H1 v2) λv3=>
 bP (PCall prog 109 [v3,a1] H1) λv4=>
 K v4 H1
theorem PP {a0 a1:AV}{H:AH}{K:KT}(h:Nh a0 a1 H K):Cr 108 [a0,a1] H K:=
 fok A8 I4 BD func108 h
def KS (a0 a1:AV)(H:AH)(K:KT):Prop:=
 bP (PCall prog 168 [a0,a1] H) λv0=>
 K v0 H
theorem NK {a0 a1:AV}{H:AH}{K:KT}(h:KS a0 a1 H K):Cr 109 [a0,a1] H K:=
 fok A8 I4 BD func109 h
def BN:Nat→Option (List Bool):=Cn [(4,mk 49 0 [0,1,2,8,9,10])]
def BP (p:List Bool)(n:Nat):List AV→AH→Kf→Prop:=AD prog A8 I4 Ap Ap BN (sub p (AG f92)) n
def BM (x0 x1 x2 x8 x9 x10:AV)(H:AH)(K:KT):Prop:=lp (mk 49 0 [0,1,2,8,9,10]) (BP [tT,tT,tT,fF,fF,fF] 5) [x0,x1,x2,x8,x9,x10] H (BG 0 (BH (BP [tT,tT,tT,tT] 9) (Br prog f92.results.toList K)))
def BC (R4:RT)(x0 x1 x2 x8 x9 x10:AV)(H:AH)(K:KT):Prop:=
 bO (Ay .lss x9 x10) λv0=>
 bB v0 λt1=>bI t1 (
 bO (Ay .add x9 x10) λv2=>
 bO (Yw .u64 v2) λv3=>
 bO (Ay .shr v3 (.lit (.int .u64 1))) λv4=>
 bO (Yw .i64 v4) λv5=>
 bO (Bk 3 x0 v5) λv6=>
 bO (Ar true 3 H v6) λv7=>
 bF true x2 λk10 f10 c10=>
 bT (Bq prog k10||!true)<|
 bC (BCall prog k10 (f10++[v7,x1]++c10) H) λv8 H9=>
 bO (Ay .lss v8 (I 0)) λv11=>
 bB v11 λt12=>bI t12 (
 bO (Ay .add v5 (I 1)) λv13=>
 R4 [x0,x1,x2,x8,v13,x10] H9)
 (R4 [x0,x1,x2,x8,x9,v5] H9))
 (bO (Ay .lss x9 x8) λv14=>
 bG v14 true λw15=>
 gO w15 (some x2) λv16=>
 bG v14 true λw17=>
 gO w17 (some x0) λv18=>
 bG v14 true λw19=>
 gO w19 (some x9) λv20=>
 bG v14 true λw21=>
 gO w21 (Bk 3 v18 v20) λv22=>
 bG v14 true λw23=>
 gO w23 (Ar true 3 H v22) λv24=>
 bG v14 true λw25=>
 gO w25 (some x1) λv26=>
 bG v14 true λw27=>
 bF w27 v16 λk30 f30 c30=>
 bT (Bq prog k30||!w27)<|
 gC w27 (BCall prog k30 (f30++[v24,v26]++c30) H) H λv28 H29=>
 bG v14 true λw31=>
 gO w31 (Ay .eql v28 (I 0)) λv32=>
 bO (AC v14 v32 (B false)) λv33=>
 K (.tup [x9,v33]) H29)
theorem CE {K:KT}:oA (λR x0 x1 x2 x8 x9 x10 H=>BC R x0 x1 x2 x8 x9 x10 H K) (λx0 x1 x2 x8 x9 x10 H=>BM x0 x1 x2 x8 x9 x10 H K):=dO (A3 _ _) (λ_ _ _ _ _ _ _ _=>by kernel_rfl)
def BW (a0 a1 a2:AV)(H:AH)(K:KT):Prop:=
 bO (AW a0) λv0=>
 BM a0 a1 a2 v0 (I 0) v0 H K
theorem Dk {a0 a1 a2:AV}{H:AH}{K:KT}(h:BW a0 a1 a2 H K):Cr 92 [a0,a1,a2] H K:=
 fok A8 I4 BN func92 h
def OG (a0 a1:AV)(H:AH)(K:KT):Prop:=
 bH (A5 H a0) λv0 H1=>
 bO (Ad 0 v0) λv2=>
 bO (Ar false 1 H1 v2) λv3=>
 bP (PCall prog 94 [v3,a1] H1) λv4=>
 K v4 H1
theorem Rc {a0 a1:AV}{H:AH}{K:KT}(h:OG a0 a1 H K):Cr 93 [a0,a1] H K:=
 fok A8 I4 BD func93 h
def Fo:Nat→Bool:=Rp []
def D2 (a0 a1 a2:AV)(H:AH)(K:KT):Prop:=
 bO (AT 2 a0 (some a1) none none) λv0=>
 bO (AW a2) λv1=>
 bO (Ay .eql v1 (I 0)) λv2=>
 bB v2 λt3=>bI t3 (
 K a0 H)
 (bO (AW a0) λv4=>
 bO (Ay .eql a1 v4) λv5=>
 bB v5 λt6=>bI t6 (
 bH (Pq 2 24 H a0 a2) λv7 H8=>
 K v7 H8)
 (bO (Ay .add v4 v1) λv9=>
 bO (T6 a0) λv10=>
 bO (Ay .gtr v9 v10) λv11=>
 bB v11 λt12=>bI t12 (
 bO (AT 2 a0 none (some a1) none) λv13=>
 bO (Ay .add v4 v1) λv14=>
 bO (Ay .sub v14 a1) λv15=>
 bH (IZ H 2 24 [(.lit (.string ⟨#[]⟩)),(I 0)] v13 v15) λv16 H17=>
 bO (AT 2 v16 (some a1) none none) λv18=>
 bH (NM 2 H17 v18 a2) λv19 H20=>
 bO (Ay .add a1 v1) λv21=>
 bO (AT 2 v16 (some v21) none none) λv22=>
 bO (AT 2 a0 (some a1) none none) λv23=>
 bH (NM 2 H20 v22 v23) λv24 H25=>
 K v16 H25)
 (bO (Ay .add v4 v1) λv26=>
 bO (AT 2 a0 none (some v26) none) λv27=>
 bO (Ay .add a1 v1) λv28=>
 bO (AT 2 v27 (some v28) none none) λv29=>
 bP (ExtR prog 210 [a2,v29] H) λv30=>
 bO (EX .not v30) λv31=>
 bB v31 λt32=>bI t32 (
 bO (Ay .add a1 v1) λv33=>
 bO (AT 2 v27 (some v33) none none) λv34=>
 bO (AT 2 v27 (some a1) none none) λv35=>
 bH (NM 2 H v34 v35) λv36 H37=>
 bO (AT 2 v27 (some a1) none none) λv38=>
 bH (NM 2 H37 v38 a2) λv39 H40=>
 K v27 H40)
 (bO (AT 2 v27 (some v4) none none) λv41=>
 bH (NM 2 H v41 a2) λv42 H43=>
 bO (AT 2 v27 (some a1) none none) λv44=>
 bC (BCall prog 211 [v44,v1] H43) λv45 H46=>
 K v27 H46))))
theorem Fl (a0 a1 a2:AV)(H:AH)(K:KT):NG prog A8 I4 jA Fo BD f186 [a0,a1,a2] H K=D2 a0 a1 a2 H K:=by kernel_rfl
theorem Fm {a0 a1 a2:AV}{H:AH}{K:KT}(h:D2 a0 a1 a2 H K):ACalls prog 186 [a0,a1,a2] H K:=
 GD JJ func186 (by kernel_rfl) (Eq.mpr (Fl a0 a1 a2 H K) h)
def Fr:Nat→Bool:=Rp []
def D3 (a0 a1 a2:AV)(H:AH)(K:KT):Prop:=
 bO (AT 3 a0 (some a1) none none) λv0=>
 bO (AW a2) λv1=>
 bO (Ay .eql v1 (I 0)) λv2=>
 bB v2 λt3=>bI t3 (
 K a0 H)
 (bO (AW a0) λv4=>
 bO (Ay .eql a1 v4) λv5=>
 bB v5 λt6=>bI t6 (
 bH (Pq 3 40 H a0 a2) λv7 H8=>
 K v7 H8)
 (bO (Ay .add v4 v1) λv9=>
 bO (T6 a0) λv10=>
 bO (Ay .gtr v9 v10) λv11=>
 bB v11 λt12=>bI t12 (
 bO (AT 3 a0 none (some a1) none) λv13=>
 bO (Ay .add v4 v1) λv14=>
 bO (Ay .sub v14 a1) λv15=>
 bH (IZ H 3 40 [(I 0),(I 0),Ac] v13 v15) λv16 H17=>
 bO (AT 3 v16 (some a1) none none) λv18=>
 bH (NM 3 H17 v18 a2) λv19 H20=>
 bO (Ay .add a1 v1) λv21=>
 bO (AT 3 v16 (some v21) none none) λv22=>
 bO (AT 3 a0 (some a1) none none) λv23=>
 bH (NM 3 H20 v22 v23) λv24 H25=>
 K v16 H25)
 (bO (Ay .add v4 v1) λv26=>
 bO (AT 3 a0 none (some v26) none) λv27=>
 bO (Ay .add a1 v1) λv28=>
 bO (AT 3 v27 (some v28) none none) λv29=>
 bP (ExtR prog 212 [a2,v29] H) λv30=>
 bO (EX .not v30) λv31=>
 bB v31 λt32=>bI t32 (
 bO (Ay .add a1 v1) λv33=>
 bO (AT 3 v27 (some v33) none none) λv34=>
 bO (AT 3 v27 (some a1) none none) λv35=>
 bH (NM 3 H v34 v35) λv36 H37=>
 bO (AT 3 v27 (some a1) none none) λv38=>
 bH (NM 3 H37 v38 a2) λv39 H40=>
 K v27 H40)
 (bO (AT 3 v27 (some v4) none none) λv41=>
 bH (NM 3 H v41 a2) λv42 H43=>
 bO (AT 3 v27 (some a1) none none) λv44=>
 bC (BCall prog 213 [v44,v1] H43) λv45 H46=>
 K v27 H46))))
theorem Fp (a0 a1 a2:AV)(H:AH)(K:KT):NG prog A8 I4 jA Fr BD f187 [a0,a1,a2] H K=D3 a0 a1 a2 H K:=by kernel_rfl
theorem Fq {a0 a1 a2:AV}{H:AH}{K:KT}(h:D3 a0 a1 a2 H K):ACalls prog 187 [a0,a1,a2] H K:=
 GD JJ func187 (by kernel_rfl) (Eq.mpr (Fp a0 a1 a2 H K) h)
def Dx (a0 a1 a2:AV)(H:AH)(K:KT):Prop:=
 bO (AW a0) λv0=>
 bO (AT 2 a0 (some a1) (some a2) (some v0)) λv1=>
 bO (Ay .eql a1 a2) λv2=>
 bB v2 λt3=>bI t3 (
 K a0 H)
 (bO (AW a0) λv4=>
 bO (AT 2 a0 none (some a1) none) λv5=>
 bO (AT 2 a0 (some a2) none none) λv6=>
 bH (Pq 2 24 H v5 v6) λv7 H8=>
 bO (AW v7) λv9=>
 bO (AT 2 v7 (some v9) (some v4) none) λv10=>
 bS (fW [(.lit (.string ⟨#[]⟩)),(I 0)] H8 v10) λH11=>
 K v7 H11)
theorem Fg {a0 a1 a2:AV}{H:AH}{K:KT}(h:Dx a0 a1 a2 H K):Cr 189 [a0,a1,a2] H K:=
 fok A8 I4 BD func189 h
def Dy (a0 a1 a2:AV)(H:AH)(K:KT):Prop:=
 bO (AW a0) λv0=>
 bO (AT 3 a0 (some a1) (some a2) (some v0)) λv1=>
 bO (Ay .eql a1 a2) λv2=>
 bB v2 λt3=>bI t3 (
 K a0 H)
 (bO (AW a0) λv4=>
 bO (AT 3 a0 none (some a1) none) λv5=>
 bO (AT 3 a0 (some a2) none none) λv6=>
 bH (Pq 3 40 H v5 v6) λv7 H8=>
 bO (AW v7) λv9=>
 bO (AT 3 v7 (some v9) (some v4) none) λv10=>
 bS (fW [(I 0),(I 0),Ac] H8 v10) λH11=>
 K v7 H11)
theorem Fh {a0 a1 a2:AV}{H:AH}{K:KT}(h:Dy a0 a1 a2 H K):Cr 190 [a0,a1,a2] H K:=
 fok A8 I4 BD func190 h
def Q8:FuncId→Bool:=Rp [43,82,20,13,52,40,102,24,23,98,50,170,172,188,179,181,22,99,169,111,100,165,81,164,167,151,185,46,112,45]
def UJ (a0:AV)(H:AH)(K:KT):Prop:=
 bO (amm XM [a0,(I 0)]) λv0=>
 bO (amm VO [v0,(I 4096)]) λv1=>
 bO (FC [(I 0),Ac,Ac,Ac,Ac,Ac,(I 0),(I 0),(B false)] [(0,1,v1),(7,1,(I (-1)))]) λv2=>
 bH (A5 H v2) λv3 H4=>
 K v3 H4
theorem VF {a0:AV}{H:AH}{K:KT}(h:UJ a0 H K):Cr 10 [a0] H K:=
 fok A8 Q8 BD func10 h
def Hl (a0:AV)(H:AH)(K:KT):Prop:=
 bH (A5 H (.agg [Ac,Ac])) λv0 H1=>
 bO (Af a0) λv2=>
 bO (Ad 1 v2) λv3=>
 bO (Ar true 2 H1 v3) λv4=>
 bP (PCall prog 43 [v4] H1) λv5=>
 bS (AS 2 H1 v0 v5) λH6=>
 bO (Ar true 2 H6 v0) λv7=>
 K v7 H6
theorem Iv {a0:AV}{H:AH}{K:KT}(h:Hl a0 H K):Cr 14 [a0] H K:=
 fok A8 Q8 BD func14 h
def Hu (a0:AV)(H:AH)(K:KT):Prop:=
 bO (Af a0) λv0=>
 bO (Ad 5 v0) λv1=>
 bO (Ar false 1 H v1) λv2=>
 bO (AW v2) λv3=>
 K v3 H
theorem Kv {a0:AV}{H:AH}{K:KT}(h:Hu a0 H K):Cr 25 [a0] H K:=
 fok A8 Q8 BD func25 h
def JP (a0:AV)(H:AH)(K:KT):Prop:=
 bO (Af a0) λv0=>
 bO (Ad 0 v0) λv1=>
 bO (Ar false 1 H v1) λv2=>
 bO (Af a0) λv3=>
 bO (Ad 1 v3) λv4=>
 bO (Ar true 2 H v4) λv5=>
 bP (BPure prog 52 [v5]) λv6=>
 bO (Ay .sub v2 v6) λv7=>
 bO (amm XM [(I 0),v7]) λv8=>
 K v8 H
theorem MB {a0:AV}{H:AH}{K:KT}(h:JP a0 H K):Cr 21 [a0] H K:=
 fok A8 Q8 BD func21 h
def Hy:Nat→Option (List Bool):=Cn [(1,mk 31 0 [])]
def NJ (p:List Bool)(n:Nat):List AV→AH→Kf→Prop:=AD prog A8 Q8 Ap Ap Hy (sub p (AG f80)) n
def EW (H:AH)(K:KT):Prop:=jn (mk 31 0 []) (NJ [tT,tT] 6) [] H (Br prog f80.results.toList K)
def Ey (H:AH)(K:KT):Prop:=
 K (B true) H
theorem Gj (H:AH)(K:KT):EW H K=Ey H K:=(Em _ _ _ _ _).trans (by kernel_rfl)
def JU (a0:AV)(H:AH)(K:KT):Prop:=
 bO (Af a0) λv0=>
 bO (Ad 8 v0) λv1=>
 bO (Ar false 1 H v1) λv2=>
 bG v2 false λw3=>
 gO w3 (some a0) λv4=>
 bG v2 false λw5=>
 gO w5 (Af v4) λv6=>
 bG v2 false λw7=>
 gO w7 (Ad 7 v6) λv8=>
 bG v2 false λw9=>
 gO w9 (Ar false 1 H v8) λv10=>
 bG v2 false λw11=>
 gO w11 (Ay .eql v10 (I 0)) λv12=>
 bO (AC v2 (B true) v12) λv13=>
 bB v13 λt14=>bI t14 (
 bO (Af a0) λv15=>
 bO (Ad 8 v15) λv16=>
 bS (AS 1 H v16 (B true)) λH17=>
 K (B false) H17)
 (bO (Af a0) λv18=>
 bO (Ad 7 v18) λv19=>
 bO (Ar false 1 H v19) λv20=>
 bO (Ay .gtr v20 (I 0)) λv21=>
 bB v21 λt22=>bI t22 (
 bO (Af a0) λv23=>
 bO (Ad 7 v23) λv24=>
 bO (Ar false 1 H v24) λv25=>
 bO (Ay .sub v25 (I 1)) λv26=>
 bO (Af a0) λv27=>
 bO (Ad 7 v27) λv28=>
 bS (AS 1 H v28 v26) λH29=>
 EW H29 K)
 (EW H K))
theorem MF {a0:AV}{H:AH}{K:KT}(h:JU a0 H K):Cr 80 [a0] H K:=
 fok A8 Q8 Hy func80 h
def Mc (a0 a1:AV)(H:AH)(K:KT):Prop:=
 bH (A5 H a1) λv0 H1=>
 bC (BCall prog 80 [a0] H1) λv2 H3=>
 bO (EX .not v2) λv4=>
 bB v4 λt5=>bI t5 (
 K (I 8) H3)
 (bO (Af a0) λv6=>
 bO (Ad 1 v6) λv7=>
 bO (Ar true 2 H3 v7) λv8=>
 bO (Ar true 8 H3 v0) λv9=>
 bP (BPure prog 82 [v8,v9]) λv10=>
 bO (Af a0) λv11=>
 bO (Ad 1 v11) λv12=>
 bS (AS 2 H3 v12 v10) λH13=>
 bO (Af a0) λv14=>
 bO (Ad 5 v14) λv15=>
 bO (Ar false 1 H13 v15) λv16=>
 bO (Ar true 8 H13 v0) λv17=>
 bO (QL 8 1 (AZ [(I 0),(I 0),(I 0),(I 0),(B false),(.lit (.string ⟨#[]⟩)),(.lit (.string ⟨#[]⟩)),Ac] 1) [(0,8,v17)]) λv18=>
 bH (Pq 8 96 H13 v16 v18) λv19 H20=>
 bO (Af a0) λv21=>
 bO (Ad 5 v21) λv22=>
 bS (AS 1 H20 v22 v19) λH23=>
 K (I 0) H23)
theorem Pk {a0 a1:AV}{H:AH}{K:KT}(h:Mc a0 a1 H K):Cr 48 [a0,a1] H K:=
 fok A8 Q8 BD func48 h
def DH (a0 a1:AV)(H:AH)(K:KT):Prop:=
 bH (A5 H (.agg [(I 0),Ac])) λv0 H1=>
 bO (Af a0) λv2=>
 bO (Ad 8 v2) λv3=>
 bO (Ar false 1 H1 v3) λv4=>
 bB v4 λt5=>bI t5 (
 bO (FC [(I 0),Ac] []) λv6=>
 bS (AS 2 H1 v0 v6) λH7=>
 bO (Ar true 2 H7 v0) λv8=>
 K (.tup [v8,(I 8)]) H7)
 (bO (Af a0) λv9=>
 bO (Ad 1 v9) λv10=>
 bO (Ar true 2 H1 v10) λv11=>
 bP (PCall prog 13 [v11,a1] H1) λv12=>
 bO (Ak v12 0) λv13=>
 bO (Ak v12 1) λv14=>
 bH (A5 H1 (.agg [(I 0),Ac])) λv15 H16=>
 bS (AS 2 H16 v15 v13) λH17=>
 bO (EX .not v14) λv18=>
 bB v18 λt19=>bI t19 (
 bO (FC [(I 0),Ac] []) λv20=>
 bS (AS 2 H17 v0 v20) λH21=>
 bO (Ar true 2 H21 v0) λv22=>
 K (.tup [v22,(I 3)]) H21)
 (bO (Ar true 2 H17 v15) λv23=>
 bS (AS 2 H17 v0 v23) λH24=>
 bO (Ar true 2 H24 v0) λv25=>
 K (.tup [v25,(I 0)]) H24))
theorem Ej {a0 a1:AV}{H:AH}{K:KT}(h:DH a0 a1 H K):Cr 49 [a0,a1] H K:=
 fok A8 Q8 BD func49 h
def JV (a0 a1:AV)(H:AH)(K:KT):Prop:=
 bO (Af a0) λv0=>
 bO (Ad 8 v0) λv1=>
 bO (Ar false 1 H v1) λv2=>
 bB v2 λt3=>bI t3 (
 K (.tup [(I 0),(I 8)]) H)
 (bP (PCall prog 102 [a1] H) λv4=>
 bO (EX .not v4) λv5=>
 bB v5 λt6=>bI t6 (
 K (.tup [(I 0),(I 5)]) H)
 (bO (Af a0) λv7=>
 bO (Ad 1 v7) λv8=>
 bO (Ar true 2 H v8) λv9=>
 bP (PCall prog 20 [v9,a1] H) λv10=>
 bO (Ak v10 0) λv11=>
 bO (Ak v10 1) λv12=>
 bO (EX .not v12) λv13=>
 bB v13 λt14=>bI t14 (
 K (.tup [(I 0),(I 3)]) H)
 (K (.tup [v11,(I 0)]) H)))
theorem MG {a0 a1:AV}{H:AH}{K:KT}(h:JV a0 a1 H K):Cr 47 [a0,a1] H K:=
 fok A8 Q8 BD func47 h
def JQ (a0 a1 a2:AV)(H:AH)(K:KT):Prop:=
 bC (BCall prog 47 [a0,a1] H) λv0 H1=>
 bO (Ak v0 0) λv2=>
 bO (Ak v0 1) λv3=>
 bO (Ay .neq v3 (I 3)) λv4=>
 bG v4 false λw5=>
 gO w5 (some a2) λv6=>
 bG v4 false λw7=>
 gO w7 (EX .not v6) λv8=>
 bO (AC v4 (B true) v8) λv9=>
 bB v9 λt10=>bI t10 (
 K (.tup [v2,v3]) H1)
 (bO (Af a0) λv11=>
 bO (Ad 1 v11) λv12=>
 bO (Ad 0 v12) λv13=>
 bO (Ar false 1 H1 v13) λv14=>
 bO (AW v14) λv15=>
 bO (Ay .geq v15 (I 16)) λv16=>
 bB v16 λt17=>bI t17 (
 K (.tup [(I 0),(I 4)]) H1)
 (bO (Af a0) λv18=>
 bO (Ad 6 v18) λv19=>
 bO (Ar false 1 H1 v19) λv20=>
 bO (Ay .add v20 (I 1)) λv21=>
 bO (FC [(I 0),(I 0),(I 0),(I 0),(B false),(.lit (.string ⟨#[]⟩)),(.lit (.string ⟨#[]⟩)),Ac] [(0,1,(I 1)),(5,1,a1),(1,1,v21)]) λv22=>
 bC (BCall prog 48 [a0,v22] H1) λv23 H24=>
 bO (Ay .neq v23 (I 0)) λv25=>
 bB v25 λt26=>bI t26 (
 K (.tup [(I 0),v23]) H24)
 (bO (Af a0) λv27=>
 bO (Ad 6 v27) λv28=>
 bO (Ar false 1 H24 v28) λv29=>
 bO (Ay .add v29 (I 1)) λv30=>
 bO (Af a0) λv31=>
 bO (Ad 6 v31) λv32=>
 bS (AS 1 H24 v32 v30) λH33=>
 bO (Af a0) λv34=>
 bO (Ad 6 v34) λv35=>
 bO (Ar false 1 H33 v35) λv36=>
 K (.tup [v36,(I 0)]) H33)))
theorem MC {a0 a1 a2:AV}{H:AH}{K:KT}(h:JQ a0 a1 a2 H K):Cr 18 [a0,a1,a2] H K:=
 fok A8 Q8 BD func18 h
def JR (a0 a1:AV)(H:AH)(K:KT):Prop:=
 bC (BCall prog 49 [a0,a1] H) λv0 H1=>
 bO (Ak v0 0) λv2=>
 bO (Ak v0 1) λv3=>
 bH (A5 H1 (.agg [(I 0),Ac])) λv4 H5=>
 bS (AS 2 H5 v4 v2) λH6=>
 bO (Ad 0 v4) λv7=>
 bO (Ar false 1 H6 v7) λv8=>
 K (.tup [v8,v3]) H6
theorem MD {a0 a1:AV}{H:AH}{K:KT}(h:JR a0 a1 H K):Cr 60 [a0,a1] H K:=
 fok A8 Q8 BD func60 h
def GX:Cq:=JB [(12,[(3,some 11)])]
def GY:Nat→Option (List Bool):=Cn [(9,mk 79 0 [0,1,2,3,10,36,37,38])]
def Hx (p:List Bool)(n:Nat):List AV→AH→Kf→Prop:=AD prog GX Q8 Ap Ap GY (sub p (AG f44)) n
def GW (x0 x1 x2 x3 x10 x36 x37 x38:AV)(H:AH)(K:KT):Prop:=lp (mk 79 0 [0,1,2,3,10,36,37,38]) (Hx [tT,tT,tT,fF,tT,fF,fF] 10) [x0,x1,x2,x3,x10,x36,x37,x38] H (BG 1 (BH (Hx [tT,tT,tT,tT] 21) (Br prog f44.results.toList K)))
def Gi (R9:RT)(x0 x1 x2 x3 x10 x36 x37 x38:AV)(H:AH)(K:KT):Prop:=
 bO (Ay .lss x38 x37) λv0=>
 bB v0 λt1=>bI t1 (
 bO (Bk 2 x36 x38) λv2=>
 bO (Ar true 2 H v2) λv3=>
 bH (A5 H (.agg [(I 0),(I 0)])) λv4 H5=>
 bS (AS 2 H5 v4 v3) λH6=>
 bO (Ad 0 v4) λv7=>
 bO (Ar false 1 H6 v7) λv8=>
 bO (Ay .sub v8 x2) λv9=>
 bO (Ar true 2 H6 x10) λv10=>
 bO (Ad 0 v4) λv11=>
 bO (Ar false 1 H6 v11) λv12=>
 bO (Ay .quo v12 (I 8)) λv13=>
 bP (PCall prog 100 [v10,v13] H6) λv14=>
 bO (EX .not v14) λv15=>
 bG v15 true λw16=>
 gO w16 (some x0) λv17=>
 bG v15 true λw18=>
 gC w18 (BCall prog 21 [v17] H6) H6 λv19 H20=>
 bG v15 true λw21=>
 gO w21 (Ay .eql v19 (I 0)) λv22=>
 bO (AC v15 v22 (B false)) λv23=>
 bB v23 λt24=>bI t24 (
 K (.tup [v9,(I 4)]) H20)
 (bO (Ad 0 v4) λv25=>
 bO (Ar false 1 H20 v25) λv26=>
 bO (Ad 1 v4) λv27=>
 bO (Ar false 1 H20 v27) λv28=>
 bO (Ay .add v9 v28) λv29=>
 bO (AT 1 x3 (some v9) (some v29) none) λv30=>
 bC (BCall prog 101 [v30] H20) λv31 H32=>
 bO (FC [(I 0),(I 0),(I 0),(I 0),(B false),(.lit (.string ⟨#[]⟩)),(.lit (.string ⟨#[]⟩)),Ac] [(0,1,(I 2)),(1,1,x1),(2,1,v26),(7,1,v31)]) λv33=>
 bC (BCall prog 48 [x0,v33] H32) λv34 H35=>
(Ar false 1 H32 v25=some v26)∧
 bO (Ay .neq v34 (I 0)) λv36=>
 bB v36 λt37=>bI t37 (
 K (.tup [v9,v34]) H35)
 (bO (Ay .add x38 (I 1)) λv38=>
 R9 [x0,x1,x2,x3,x10,x36,x37,v38] H35)))
 (bO (AW x3) λv39=>
 K (.tup [v39,(I 0)]) H)
theorem I7 {K:KT}:RL8 (λR x0 x1 x2 x3 x10 x36 x37 x38 H=>Gi R x0 x1 x2 x3 x10 x36 x37 x38 H K) (λx0 x1 x2 x3 x10 x36 x37 x38 H=>GW x0 x1 x2 x3 x10 x36 x37 x38 H K):=sL (A3 _ _) (λ_ _ _ _ _ _ _ _ _ _=>by kernel_rfl)
def IX (a0 a1 a2 a3:AV)(H:AH)(K:KT):Prop:=
 bC (BCall prog 49 [a0,a1] H) λv0 H1=>
 bO (Ak v0 0) λv2=>
 bO (Ak v0 1) λv3=>
 bH (A5 H1 (.agg [(I 0),Ac])) λv4 H5=>
 bS (AS 2 H5 v4 v2) λH6=>
 bO (Ay .neq v3 (I 0)) λv7=>
 bB v7 λt8=>bI t8 (
 K (.tup [(I 0),v3]) H6)
 (bO (AW a3) λv9=>
 bP (PCall prog 98 [a2,v9] H6) λv10=>
 bO (EX .not v10) λv11=>
 bB v11 λt12=>bI t12 (
 K (.tup [(I 0),(I 5)]) H6)
 (bO (AW a3) λv13=>
 bO (FC [(I 0),(I 0)] [(0,1,a2),(1,1,v13)]) λv14=>
 bP (PCall prog 99 [v14,(I 8)] H6) λv15=>
 bO (AW v15) λv16=>
 GW a0 a1 a2 a3 v4 v15 v16 (I 0) H6 K))
theorem Mb {a0 a1 a2 a3:AV}{H:AH}{K:KT}(h:IX a0 a1 a2 a3 H K):Cr 44 [a0,a1,a2,a3] H K:=
 fok GX Q8 GY func44 h
def GV (a0 a1 a2:AV)(H:AH)(K:KT):Prop:=
 bC (BCall prog 49 [a0,a1] H) λv0 H1=>
 bO (Ak v0 0) λv2=>
 bO (Ak v0 1) λv3=>
 bH (A5 H1 (.agg [(I 0),Ac])) λv4 H5=>
 bS (AS 2 H5 v4 v2) λH6=>
 bO (Ay .neq v3 (I 0)) λv7=>
 bB v7 λt8=>bI t8 (
 K v3 H6)
 (bO (Ar true 2 H6 v4) λv9=>
 bP (PCall prog 50 [v9,a2] H6) λv10=>
 bO (Ak v10 0) λv11=>
 bO (Ak v10 1) λv12=>
 bH (A5 H6 (.agg [(I 0),Ac])) λv13 H14=>
 bS (AS 2 H14 v13 v11) λH15=>
 bO (EX .not v12) λv16=>
 bB v16 λt17=>bI t17 (
 K (I 5) H15)
 (bO (FC [(I 0),(I 0),(I 0),(I 0),(B false),(.lit (.string ⟨#[]⟩)),(.lit (.string ⟨#[]⟩)),Ac] [(0,1,(I 3)),(1,1,a1),(3,1,a2)]) λv18=>
 bC (BCall prog 48 [a0,v18] H15) λv19 H20=>
 K v19 H20))
theorem JT {a0 a1 a2:AV}{H:AH}{K:KT}(h:GV a0 a1 a2 H K):Cr 19 [a0,a1,a2] H K:=
 fok A8 Q8 BD func19 h
def Hw:Nat→Option (List Bool):=Cn [(10,mk 41 0 [0,1,5,14,15,16]),(7,mk 41 0 [0,1,5,14,15,16])]
def Ei (p:List Bool)(n:Nat):List AV→AH→Kf→Prop:=AD prog A8 Q8 Ap Ap Hw (sub p (AG f37)) n
def EJ (R7:RT)(x0 x1 x5 x14 x15 x16:AV)(H:AH)(K:KT):Prop:=jn (mk 41 0 [0,1,5,14,15,16]) (Ei [tT,tT,tT,fF,tT,fF,fF,tT,tT,tT] 13) [x0,x1,x5,x14,x15,x16] H (Rh (mk 41 0 [0,1,5,14,15,16]) R7 (BG 0 (BH (Ei [tT,tT,tT,tT] 13) (Br prog f37.results.toList K))))
def Hv (x0 x1 x5 x14 x15 x16:AV)(H:AH)(K:KT):Prop:=lp (mk 41 0 [0,1,5,14,15,16]) (Ei [tT,tT,tT,fF,tT,fF,fF] 8) [x0,x1,x5,x14,x15,x16] H (BG 0 (BH (Ei [tT,tT,tT,tT] 13) (Br prog f37.results.toList K)))
def Eh (R7:RT)(x0 x1 x5 x14 x15 x16:AV)(H:AH)(K:KT):Prop:=
 bO (Ay .add x16 (I 1)) λv0=>
 R7 [x0,x1,x5,x14,x15,v0] H
theorem FB (R7:RT)(x0 x1 x5 x14 x15 x16:AV)(H:AH)(K:KT):EJ R7 x0 x1 x5 x14 x15 x16 H K=Eh R7 x0 x1 x5 x14 x15 x16 H K:=(Em _ _ _ _ _).trans (by kernel_rfl)
def Gt (R7:RT)(x0 x1 x5 x14 x15 x16:AV)(H:AH)(K:KT):Prop:=
 bO (Ay .lss x16 x15) λv0=>
 bB v0 λt1=>bI t1 (
 bO (Bk 8 x14 x16) λv2=>
 bO (Ar true 8 H v2) λv3=>
 bH (A5 H (.agg [(I 0),(I 0),(I 0),(I 0),(B false),(.lit (.string ⟨#[]⟩)),(.lit (.string ⟨#[]⟩)),Ac])) λv4 H5=>
 bS (AS 8 H5 v4 v3) λH6=>
 bO (Ar true 8 H6 v4) λv7=>
 bP (PCall prog 81 [v7,x1] H6) λv8=>
 bB v8 λt9=>bI t9 (
 bO (Af x0) λv10=>
 bO (Ad 3 v10) λv11=>
 bO (Ar true 2 H6 v11) λv12=>
 bO (Ar true 8 H6 v4) λv13=>
 bP (BPure prog 82 [v12,v13]) λv14=>
 bO (Af x0) λv15=>
 bO (Ad 3 v15) λv16=>
 bS (AS 2 H6 v16 v14) λH17=>
 EJ R7 x0 x1 x5 x14 x15 x16 H17 K)
 (bO (Ar true 8 H6 v4) λv18=>
 bH (Cg H6 8 1 (AZ [(I 0),(I 0),(I 0),(I 0),(B false),(.lit (.string ⟨#[]⟩)),(.lit (.string ⟨#[]⟩)),Ac] 1) [(0,8,v18)]) λv19 H20=>
 bH (Pq 8 96 H20 x5 v19) λv21 H22=>
 EJ R7 x0 x1 v21 x14 x15 x16 H22 K))
 (bO (Af x0) λv23=>
 bO (Ad 5 v23) λv24=>
 bS (AS 1 H v24 x5) λH25=>
 K (I 0) H25)
theorem Jl {K:KT}:oA (λR x0 x1 x5 x14 x15 x16 H=>Gt R x0 x1 x5 x14 x15 x16 H K) (λx0 x1 x5 x14 x15 x16 H=>Hv x0 x1 x5 x14 x15 x16 H K):=dO (A3 _ _) (λ_ _ _ _ _ _ _ _=>by kernel_rfl)
def JS (a0 a1:AV)(H:AH)(K:KT):Prop:=
 bC (BCall prog 80 [a0] H) λv0 H1=>
 bO (EX .not v0) λv2=>
 bB v2 λt3=>bI t3 (
 K (I 8) H1)
 (bO (Af a0) λv4=>
 bO (Ad 5 v4) λv5=>
 bO (Ar false 1 H1 v5) λv6=>
 bO (AW v6) λv7=>
 Hv a0 a1 Ac v6 v7 (I 0) H1 K)
theorem ME {a0 a1:AV}{H:AH}{K:KT}(h:JS a0 a1 H K):Cr 37 [a0,a1] H K:=
 fok A8 Q8 Hw func37 h
def UK (a0 a1:AV)(H:AH)(K:KT):Prop:=
 bH (A5 H a0) λv0 H1=>
 bH (A5 H1 a1) λv2 H3=>
 bO (Ad 1 v0) λv4=>
 bO (Ar false 1 H3 v4) λv5=>
 bP (PCall prog 164 [v5,(.fn (.func 165) [] [v2])] H3) λv6=>
 K v6 H3
theorem VG {a0 a1:AV}{H:AH}{K:KT}(h:UK a0 a1 H K):Cr 100 [a0,a1] H K:=
 fok A8 Q8 BD func100 h
def QF (a0 a1:AV)(H:AH)(K:KT):Prop:=
 bH (A5 H a0) λv0 H1=>
 bO (Ad 0 v0) λv2=>
 bO (Ar false 1 H1 v2) λv3=>
 bO (Ar false 1 H1 a1) λv4=>
 bO (Ay .eql v3 v4) λv5=>
 K v5 H1
theorem Tq {a0 a1:AV}{H:AH}{K:KT}(h:QF a0 a1 H K):Cr 165 [a0,a1] H K:=
 fok A8 Q8 BD func165 h
def Md:Nat→Option (List Bool):=Cn [(1,mk 15 0 [1,2]),(3,mk 15 0 [1,2,7])]
def Jm (p:List Bool)(n:Nat):List AV→AH→Kf→Prop:=AD prog A8 Q8 Ap Ap Md (sub p (AG f81)) n
def Iw (x1 x2:AV)(H:AH)(K:KT):Prop:=jn (mk 15 0 [1,2]) (Jm [tT,tT] 7) [x1,x2] H (Br prog f81.results.toList K)
def Gk (x1 x2 x7:AV)(H:AH)(K:KT):Prop:=jn (mk 15 0 [1,2,7]) (Jm [tT,fF,tT,fF,tT] 6) [x1,x2,x7] H (BG 0 (BH (Ke (mk 15 0 [1,2]) (Jm [tT,tT] 7)) (Br prog f81.results.toList K)))
def JW (x1 x2:AV)(H:AH)(K:KT):Prop:=
 bO (Ad 1 x2) λv0=>
 bO (Ar false 1 H v0) λv1=>
 bP (PCall prog 151 [x1,v1] H) λv2=>
 K v2 H
theorem Pl (x1 x2:AV)(H:AH)(K:KT):Iw x1 x2 H K=JW x1 x2 H K:=(Em _ _ _ _ _).trans (by kernel_rfl)
def EO (x1 x2 x7:AV)(H:AH)(K:KT):Prop:=
 bB x7 λt0=>bI t0 (
 K (B true) H)
 (Iw x1 x2 H K)
theorem Gl (x1 x2 x7:AV)(H:AH)(K:KT):Gk x1 x2 x7 H K=EO x1 x2 x7 H K:=(Em _ _ _ _ _).trans (by kernel_rfl)
def QG (a0 a1:AV)(H:AH)(K:KT):Prop:=
 bH (A5 H a0) λv0 H1=>
 bO (Ad 0 v0) λv2=>
 bO (Ar false 1 H1 v2) λv3=>
 bO (Ay .eql v3 (I 1)) λv4=>
 bB v4 λt5=>bI t5 (
 Gk a1 v0 v4 H1 K)
 (bO (Ay .eql v3 (I 6)) λv6=>
 bB v6 λt7=>bI t7 (
 Gk a1 v0 v6 H1 K)
 (bO (Ay .eql v3 (I 7)) λv8=>
 Gk a1 v0 v8 H1 K))
theorem Ts {a0 a1:AV}{H:AH}{K:KT}(h:QG a0 a1 H K):Cr 81 [a0,a1] H K:=
 fok A8 Q8 Md func81 h
def CH (a0 a1:AV)(H:AH)(K:KT):Prop:=
 bP (PCall prog 167 [a0,a1] H) λv0=>
 bO (Ay .geq v0 (I 0)) λv1=>
 K v1 H
theorem E5 {a0 a1:AV}{H:AH}{K:KT}(h:CH a0 a1 H K):Cr 164 [a0,a1] H K:=
 fok A8 Q8 BD func164 h
def Ff (a0 a1:AV)(H:AH)(K:KT):Prop:=
 bP (PCall prog 185 [a0,a1] H) λv0=>
 bO (Ay .geq v0 (I 0)) λv1=>
 K v1 H
theorem HG {a0 a1:AV}{H:AH}{K:KT}(h:Ff a0 a1 H K):Cr 151 [a0,a1] H K:=
 fok A8 Q8 BD func151 h
def Fj:Nat→Option (List Bool):=Cn [(3,mk 19 0 [0,1,7,8])]
def FA (p:List Bool)(n:Nat):List AV→AH→Kf→Prop:=AD prog A8 Q8 Ap Ap Fj (sub p (AG f185)) n
def Fi (x0 x1 x7 x8:AV)(H:AH)(K:KT):Prop:=lp (mk 19 0 [0,1,7,8]) (FA [tT,fF,tT,fF,fF] 4) [x0,x1,x7,x8] H (BG 0 (BH (FA [tT,tT] 10) (Br prog f185.results.toList K)))
def EI (R3:RT)(x0 x1 x7 x8:AV)(H:AH)(K:KT):Prop:=
 bO (Ay .lss x8 x7) λv0=>
 bB v0 λt1=>bI t1 (
 bO (Bk 1 x0 x8) λv2=>
 bO (Ar false 1 H v2) λv3=>
 bO (Ay .eql x1 v3) λv4=>
 bB v4 λt5=>bI t5 (
 K x8 H)
 (bO (Ay .add x8 (I 1)) λv6=>
 R3 [x0,x1,x7,v6] H))
 (K (I (-1)) H)
theorem GU {K:KT}:VN (λR x0 x1 x7 x8 H=>EI R x0 x1 x7 x8 H K) (λx0 x1 x7 x8 H=>Fi x0 x1 x7 x8 H K):=LR (A3 _ _) (λ_ _ _ _ _ _=>by kernel_rfl)
def Gs (a0 a1:AV)(H:AH)(K:KT):Prop:=
 bO (AW a0) λv0=>
 Fi a0 a1 v0 (I 0) H K
theorem Jj {a0 a1:AV}{H:AH}{K:KT}(h:Gs a0 a1 H K):Cr 185 [a0,a1] H K:=
 fok A8 Q8 Fj func185 h
def F9 (a0:AV)(H:AH)(K:KT):Prop:=
 bO (UQ .eql MA a0 Ac) λv0=>
 bB v0 λt1=>bI t1 (
 K Ac H)
 (bH (Cg H 1 0 (AZ [u0Z] 0) []) λv2 H3=>
 bH (Pq 1 1 H3 v2 a0) λv4 H5=>
 K v4 H5)
theorem It {a0:AV}{H:AH}{K:KT}(h:F9 a0 H K):Cr 101 [a0] H K:=
 fok A8 Q8 BD func101 h
def F8 (a0 a1:AV)(H:AH)(K:KT):Prop:=
 bH (A5 H a0) λv0 H1=>
 bH (A5 H1 a1) λv2 H3=>
 bO (Ar false 1 H3 v2) λv4=>
 bO (Ay .lss v4 (I 1)) λv5=>
 bB v5 λt6=>bI t6 (
 False)
 (K (.fn (.func 150) [] [v0,v2]) H3)
theorem Is {a0 a1:AV}{H:AH}{K:KT}(h:F8 a0 a1 H K):Cr 79 [a0,a1] H K:=
 fok A8 Q8 BD func79 h
def rS:FuncId→Bool:=Rp [43,82,20,13,52,40,102,23,50,98,99,169,111,45]
def nD:FuncId→Bool:=Rp [36,11]
def OO:Nat→Option (List Bool):=Cn [(200010,mk 37 0 [3,4,6,7,13,14,15,20]),(300010,mk 37 0 [3,4,6,7,10]),(4,mk 37 0 [3,4,6,7,13,14,15])]
def Kk:Nat→Bool:=Rp [200010]
def Dt (p:List Bool)(n:Nat):List AV→AH→Kf→Prop:=AD prog A8 rS nD Kk OO (sub p (AG f36)) n
def Nk (R4:RT)(x3 x4 x6 x7 x13 x14 x15 x20:AV)(H:AH)(K:KT):Prop:=unF prog (sub [tT,tT,fF,tT,fF,fF,tT,tT,fF,fF,tT,tT,fF] (AG f36)) (AP (mk 37 0 [3,4,6,7,13,14,15,20]) [x3,x4,x6,x7,x13,x14,x15,x20]) H (BG 2 (BG 1 (BH (Dt [tT,tT,fF,tT,fF,fF,tT,tT,tT] 15) (Rh (mk 37 0 [3,4,6,7,13,14,15]) R4 (BG 0 (BH (Dt [tT,tT,tT] 15) (Br prog f36.results.toList K)))))))
def OL (x3 x4 x6 x7 x13 x14 x15:AV)(H:AH)(K:KT):Prop:=lp (mk 37 0 [3,4,6,7,13,14,15]) (Dt [tT,tT,fF,tT,fF,fF] 5) [x3,x4,x6,x7,x13,x14,x15] H (BG 0 (BH (Dt [tT,tT,tT] 15) (Br prog f36.results.toList K)))
theorem ND:sub [tT,tT,fF,tT,fF,fF,tT,tT,fF,fF,tT,tT,fF] (AG f36)=.rangeFunc (.tmp 20) #[21] (Wl (sub [tT,tT,fF,tT,fF,fF,tT,tT,fF,fF,tT,tT,fF] (AG f36))) (sub [tT,tT,fF,tT,fF,fF,tT,tT,fF,fF,tT,tT,fF,tT] (AG f36)):=by kernel_rfl
def En (Rf:Exit→AH→Prop)(x3 x4 x6 x7 x10:AV)(H:AH)(K:KT):Prop:=
 bO (Ar false 1 H x3) λv0=>
 bO (Ar false 1 H x4) λv1=>
 bO (Ar false 1 H x7) λv2=>
 bC (BCall prog 44 [v0,v1,v2,x10] H) λv3 H4=>
 bO (Ak v3 0) λv5=>
 bO (Ak v3 1) λv6=>
 bO (Ay .neq v6 (I 0)) λv7=>
 bB v7 λt8=>bI t8 (
 bS (AS 1 H4 x6 v6) λH9=>
 Rf .ret H9)
 (bO (Ar false 1 H4 x7) λv10=>
 bO (Ay .add v10 v5) λv11=>
 bS (AS 1 H4 x7 v11) λH12=>
 Rf .normal H12)
theorem PS (Rf:Exit→AH→Prop)(x3 x4 x6 x7 x10:AV)(H:AH)(K:KT):Dt [tT,tT,fF,tT,fF,fF,tT,tT,fF,fF,tT,tT,fF,tT] 11 (AP (mk 37 0 [3,4,6,7,10]) [x3,x4,x6,x7,x10]) H (λe _ H=>Rf e H)=En Rf x3 x4 x6 x7 x10 H K:=by kernel_rfl
theorem PT (R4:RT)(x3 x4 x6 x7 x13 x14 x15 x20:AV)(H:AH)(K:KT):(BG 2 (BG 1 (BH (Dt [tT,tT,fF,tT,fF,fF,tT,tT,tT] 15) (Rh (mk 37 0 [3,4,6,7,13,14,15]) R4 (BG 0 (BH (Dt [tT,tT,tT] 15) (Br prog f36.results.toList K))))))) .normal (AP (mk 37 0 [3,4,6,7,13,14,15,20]) [x3,x4,x6,x7,x13,x14,x15,x20]) H=(bO (Ay .add x15 (I 1)) λv6=>
 R4 [x3,x4,x6,x7,x13,x14,v6] H):=by kernel_rfl
theorem PU (R4:RT)(x3 x4 x6 x7 x13 x14 x15 x20:AV)(H:AH)(K:KT):(BG 2 (BG 1 (BH (Dt [tT,tT,fF,tT,fF,fF,tT,tT,tT] 15) (Rh (mk 37 0 [3,4,6,7,13,14,15]) R4 (BG 0 (BH (Dt [tT,tT,tT] 15) (Br prog f36.results.toList K))))))) .ret (AP (mk 37 0 [3,4,6,7,13,14,15,20]) [x3,x4,x6,x7,x13,x14,x15,x20]) H=(bO (Ar false 1 H x6) λv7=>
 K v7 H):=by kernel_rfl
def LQ (R4:RT)(x3 x4 x6 x7 x13 x14 x15:AV)(H:AH)(K:KT):Prop:=
 bO (Ay .lss x15 x14) λv0=>
 bB v0 λt1=>bI t1 (
 bO (Bk 1 x13 x15) λv2=>
 bO (Ar false 1 H v2) λv3=>
 bC (BCall prog 79 [v3,(I 4096)] H) λv4 H5=>
 Nk R4 x3 x4 x6 x7 x13 x14 x15 v4 H5 K)
 (bS (AS 1 H x6 (I 0)) λH8=>
 bO (Ar false 1 H8 x6) λv9=>
 K v9 H8)
theorem OM {K:KT}:rI (λR x3 x4 x6 x7 x13 x14 x15 H=>LQ R x3 x4 x6 x7 x13 x14 x15 H K) (λx3 x4 x6 x7 x13 x14 x15 H=>OL x3 x4 x6 x7 x13 x14 x15 H K):=sJ (Ef _ _) (λ_ _ _ _ _ _ _ _ _=>by kernel_rfl)
def PR (a0 a1 a2:AV)(H:AH)(K:KT):Prop:=
 bH (A5 H a0) λv0 H1=>
 bH (A5 H1 a1) λv2 H3=>
 bH (A5 H3 (I 0)) λv4 H5=>
 bH (A5 H5 (I 0)) λv6 H7=>
 bS (AS 1 H7 v6 (I 0)) λH8=>
 bO (AW a2) λv9=>
 OL v0 v2 v4 v6 a2 v9 (I 0) H8 K
theorem Vy (a0 a1 a2:AV)(H:AH)(K:KT):NG prog A8 rS nD Kk OO f36 [a0,a1,a2] H K=PR a0 a1 a2 H K:=by kernel_rfl
theorem Vz {a0 a1 a2:AV}{H:AH}{K:KT}(h:PR a0 a1 a2 H K):ACalls prog 36 [a0,a1,a2] H K:=
 GD JJ func36 (by kernel_rfl) (Eq.mpr (Vy a0 a1 a2 H K) h)
def WP:Nat→Bool:=Rp []
def SN (a0 a1 a2:AV)(H:AH)(K:KT):Prop:=
 bC (BCall prog 18 [a0,a1,(B true)] H) λv0 H1=>
 bO (Ak v0 0) λv2=>
 bO (Ak v0 1) λv3=>
 bO (Ay .neq v3 (I 0)) λv4=>
 bB v4 λt5=>bI t5 (
 K v3 H1)
 (bC (BCall prog 19 [a0,v2,(I 0)] H1) λv6 H7=>
 bO (Ay .neq v6 (I 0)) λv8=>
 bB v8 λt9=>bI t9 (
 K v6 H7)
 (bA (ACalls prog 36 [a0,v2,a2] H7) λv10 H11=>
 bO (Ay .neq v10 (I 0)) λv12=>
 bB v12 λt13=>bI t13 (
 K v10 H11)
 (bH (Cg H11 1 1 (AZ [(I 0)] 1) [(0,1,v2)]) λv14 H15=>
 bC (BCall prog 37 [a0,v14] H15) λv16 H17=>
 K v16 H17)))
theorem WN (a0 a1 a2:AV)(H:AH)(K:KT):NG prog A8 rS nD WP BD f11 [a0,a1,a2] H K=SN a0 a1 a2 H K:=by kernel_rfl
theorem WO {a0 a1 a2:AV}{H:AH}{K:KT}(h:SN a0 a1 a2 H K):ACalls prog 11 [a0,a1,a2] H K:=
 GD JJ func11 (by kernel_rfl) (Eq.mpr (WN a0 a1 a2 H K) h)
end Go.Proofs.YtbppnhenlboefaaGreat.Av
end
