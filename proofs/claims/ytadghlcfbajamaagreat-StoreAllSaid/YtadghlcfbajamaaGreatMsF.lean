/- Texts of this proof, one behind the other, packed into one file by a program of this session. No condition. -/
import Derived.Test.YtadghlcfbajamaaGreatMsE
import Derived.KernelRfl
set_option linter.unusedVariables false
set_option linter.unusedSimpArgs false
set_option maxRecDepth 100000
section
namespace Go.Proofs.YtadghlcfbajamaaGreat.Av
open Go Go.Proofs.Tryz
def HO:FuncId→Bool:=gU [35,90,118,63,122,36,104,103,105,124,125,126,136,169,84,137,41,33,31,102,20,96,114,82,61,120,60,112,164,44,154,111,165,168,98,99,100,149,151,134,183]
def uU:FuncId→Bool:=gU [192,194]
def Ve (a0:AV)(H:AH)(K:KT):Prop:=
 bH (A9 H a0) λv0 H1=>
 bH (A9 H1 (.agg [(I 0),Ac])) λv2 H3=>
 bO (Aa 0 v0) λv4=>
 bO (Am false 1 H3 v4) λv5=>
 bO (Aa 1 v0) λv6=>
 bO (Am false 1 H3 v6) λv7=>
 bP (BPure prog 137 [v7]) λv8=>
 bO (E5 [(I 0),Ac] [(0,1,v5),(1,1,v8)]) λv9=>
 bS (AJ 2 H3 v2 v9) λH10=>
 bO (Am true 2 H10 v2) λv11=>
 K v11 H10
theorem Xd {a0:AV}{H:AH}{K:KT}(h:Ve a0 H K):Co 84 [a0] H K:=
 fok A8 HO B6 func84 h
def Yp (a0 a1:AV)(H:AH)(K:KT):Prop:=
 bH (A9 H a0) λv0 H1=>
 bO (Am true 2 H1 v0) λv2=>
 bP (PCall prog 82 [v2] H1) λv3=>
 bO (E6 .not v3) λv4=>
 bB v4 λt5=>bI t5 (
 K (.tup [(I 0),(B false)]) H1)
 (bO (Am true 2 H1 v0) λv6=>
 bC (BCall prog 97 [v6,a1] H1) λv7 H8=>
 bO (Ai v7 0) λv9=>
 bO (Ai v7 1) λv10=>
 bO (E6 .not v10) λv11=>
 bB v11 λt12=>bI t12 (
 K (.tup [(I 0),(B false)]) H8)
 (bO (Aa 0 v0) λv13=>
 bO (Am false 1 H8 v13) λv14=>
 bO (Bq 2 v14 v9) λv15=>
 bO (Aa 1 v15) λv16=>
 bO (Am false 1 H8 v16) λv17=>
 K (.tup [v17,(B true)]) H8))
theorem Ze {a0 a1:AV}{H:AH}{K:KT}(h:Yp a0 a1 H K):Co 41 [a0,a1] H K:=
 fok A8 HO B6 func41 h
def VY (a0 a1:AV)(H:AH)(K:KT):Prop:=
 bH (A9 H a0) λv0 H1=>
 bH (A9 H1 (.agg [(I 0),Ac])) λv2 H3=>
 bO (Am true 2 H3 v0) λv4=>
 bP (PCall prog 82 [v4] H3) λv5=>
 bO (E6 .not v5) λv6=>
 bB v6 λt7=>bI t7 (
 bO (E5 [(I 0),Ac] []) λv8=>
 bS (AJ 2 H3 v2 v8) λH9=>
 bO (Am true 2 H9 v2) λv10=>
 K (.tup [v10,(B false)]) H9)
 (bO (Am true 2 H3 v0) λv11=>
 bC (BCall prog 83 [v11,a1] H3) λv12 H13=>
 bO (Ai v12 0) λv14=>
 bO (Ai v12 1) λv15=>
 bO (E6 .not v15) λv16=>
 bB v16 λt17=>bI t17 (
 bO (E5 [(I 0),Ac] []) λv18=>
 bS (AJ 2 H13 v2 v18) λH19=>
 bO (Am true 2 H19 v2) λv20=>
 K (.tup [v20,(B false)]) H19)
 (bO (Aa 1 v0) λv21=>
 bO (Am false 1 H13 v21) λv22=>
 bO (Bq 3 v22 v14) λv23=>
 bO (Aa 1 v23) λv24=>
 bO (Am true 2 H13 v24) λv25=>
 bP (PCall prog 84 [v25] H13) λv26=>
 bS (AJ 2 H13 v2 v26) λH27=>
 bO (Am true 2 H27 v2) λv28=>
 K (.tup [v28,(B true)]) H27))
theorem UX {a0 a1:AV}{H:AH}{K:KT}(h:VY a0 a1 H K):Co 33 [a0,a1] H K:=
 fok A8 HO B6 func33 h
def TL:Nat→Option (List Bool):=CN [(7,mk 24 0 [3,10,11,12])]
def Vc (p:List Bool)(n:Nat):List AV→AH→Kf→Prop:=AL prog A8 HO A1 A1 TL (sub p (AP f31)) n
def TK (x3 x10 x11 x12:AV)(H:AH)(K:KT):Prop:=lp (mk 24 0 [3,10,11,12]) (Vc [tT,tT,tT,fF,tT,fF,fF] 8) [x3,x10,x11,x12] H (Be 0 (Bb (Vc [tT,tT,tT,tT] 12) (Ba prog f31.results.toList K)))
def Q2 (R7:RT)(x3 x10 x11 x12:AV)(H:AH)(K:KT):Prop:=
 bO (Ar .lss x12 x11) λv0=>
 bB v0 λt1=>bI t1 (
 bO (Bq 3 x10 x12) λv2=>
 bO (Am true 3 H v2) λv3=>
 bH (A9 H (.agg [(I 0),(I 0),Ac])) λv4 H5=>
 bS (AJ 3 H5 v4 v3) λH6=>
 bO (Aa 1 v4) λv7=>
 bO (Aa 1 v7) λv8=>
 bO (Am false 1 H6 v8) λv9=>
 bO (AY v9) λv10=>
 bO (Ar .add x3 v10) λv11=>
 bO (Ar .add x12 (I 1)) λv12=>
 R7 [v11,x10,x11,v12] H6)
 (K x3 H)
theorem Ui {K:KT}:dC (λR x3 x10 x11 x12 H=>Q2 R x3 x10 x11 x12 H K) (λx3 x10 x11 x12 H=>TK x3 x10 x11 x12 H K):=Tb (A2 _ _) (λ_ _ _ _ _ _=>by kernel_rfl)
def Yr (a0:AV)(H:AH)(K:KT):Prop:=
 bH (A9 H a0) λv0 H1=>
 bO (Am true 2 H1 v0) λv2=>
 bP (PCall prog 82 [v2] H1) λv3=>
 bO (E6 .not v3) λv4=>
 bB v4 λt5=>bI t5 (
 K (I 0) H1)
 (bO (Aa 1 v0) λv6=>
 bO (Am false 1 H1 v6) λv7=>
 bO (AY v7) λv8=>
 TK (I 0) v7 v8 (I 0) H1 K)
theorem Zg {a0:AV}{H:AH}{K:KT}(h:Yr a0 H K):Co 31 [a0] H K:=
 fok A8 HO TL func31 h
def Po:Nat→Option (List Bool):=CN [(6,mk 27 0 [0,17,18])]
def Q1 (p:List Bool)(n:Nat):List AV→AH→Kf→Prop:=AL prog A8 HO A1 A1 Po (sub p (AP f102)) n
def Kr (x0 x17 x18:AV)(H:AH)(K:KT):Prop:=lp (mk 27 0 [0,17,18]) (Q1 [tT,tT,fF,tT,fF,fF] 7) [x0,x17,x18] H (Be 0 (Bb (Q1 [tT,tT,tT] 13) (Ba prog f102.results.toList K)))
def M8 (R6:RT)(x0 x17 x18:AV)(H:AH)(K:KT):Prop:=
 bO (Ar .lss x18 x17) λv0=>
 bB v0 λt1=>bI t1 (
 bO (iB x0 x18) λv2=>
 bP (PCall prog 154 [v2] H) λv3=>
 bO (E6 .not v3) λv4=>
 bB v4 λt5=>bI t5 (
 K (B false) H)
 (bO (Ar .add x18 (I 1)) λv6=>
 R6 [x0,x17,v6] H))
 (K (B true) H)
theorem QH {K:KT}:oV (λR x0 x17 x18 H=>M8 R x0 x17 x18 H K) (λx0 x17 x18 H=>Kr x0 x17 x18 H K):=Yw (A2 _ _) (λ_ _ _ _ _=>by kernel_rfl)
def TJ (a0:AV)(H:AH)(K:KT):Prop:=
 bO (Xq .eql a0 (.lit (.string ⟨#[]⟩))) λv0=>
 bG v0 false λw1=>
 gO w1 (some a0) λv2=>
 bG v0 false λw3=>
 gO w3 (WR v2) λv4=>
 bG v0 false λw5=>
 gO w5 (Ar .gtr v4 (I 20)) λv6=>
 bO (Ay v0 (B true) v6) λv7=>
 bG v7 false λw8=>
 gO w8 (some a0) λv9=>
 bG v7 false λw10=>
 gO w10 (iB v9 (I 0)) λv11=>
 bG v7 false λw12=>
 gO w12 (Ar .eql v11 (.lit (.int .u8 45))) λv13=>
 bO (Ay v7 (B true) v13) λv14=>
 bB v14 λt15=>bI t15 (
 K (B false) H)
 (bO (WR a0) λv16=>
 Kr a0 v16 (I 0) H K)
theorem VZ {a0:AV}{H:AH}{K:KT}(h:TJ a0 H K):Co 102 [a0] H K:=
 fok A8 HO Po func102 h
def RV:Nat→Option (List Bool):=CN [(13,mk 37 0 [2,3,4,31]),(12,mk 37 0 [2,3,4,12,24]),(8,mk 37 0 [2,3,4,12,17]),(5,mk 37 0 [2,4])]
def EW (p:List Bool)(n:Nat):List AV→AH→Kf→Prop:=AL prog A8 HO A1 A1 RV (sub p (AP f96)) n
def Em (x2 x4:AV)(H:AH)(K:KT):Prop:=jn (mk 37 0 [2,4]) (EW [tT,tT,tT,tT] 14) [x2,x4] H (Ba prog f96.results.toList K)
def Qz (x2 x3 x4 x31:AV)(H:AH)(K:KT):Prop:=jn (mk 37 0 [2,3,4,31]) (EW [tT,tT,tT,fF,tT,fF,tT,tT,tT,tT,tT,tT,tT] 14) [x2,x3,x4,x31] H (Be 0 (Bb (DO (mk 37 0 [2,4]) (EW [tT,tT,tT,tT] 14)) (Ba prog f96.results.toList K)))
def Qy (x2 x3 x4 x12 x24:AV)(H:AH)(K:KT):Prop:=jn (mk 37 0 [2,3,4,12,24]) (EW [tT,tT,tT,fF,tT,fF,tT,tT,tT,tT,tT] 13) [x2,x3,x4,x12,x24] H (Be 0 (Bb (DO (mk 37 0 [2,4]) (EW [tT,tT,tT,tT] 14)) (Ba prog f96.results.toList K)))
def Fm (x2 x3 x4 x12 x17:AV)(H:AH)(K:KT):Prop:=jn (mk 37 0 [2,3,4,12,17]) (EW [tT,tT,tT,fF,tT,fF,tT,tT,tT] 12) [x2,x3,x4,x12,x17] H (Be 0 (Bb (DO (mk 37 0 [2,4]) (EW [tT,tT,tT,tT] 14)) (Ba prog f96.results.toList K)))
def Kq (x2 x4:AV)(H:AH)(K:KT):Prop:=
 bO (Am true 2 H x2) λv0=>
 bS (AJ 2 H x4 v0) λH1=>
 bO (Am true 2 H1 x4) λv2=>
 K v2 H1
theorem Og (x2 x4:AV)(H:AH)(K:KT):Em x2 x4 H K=Kq x2 x4 H K:=(B3 _ _ _ _ _).trans (by kernel_rfl)
def Of (x2 x3 x4 x31:AV)(H:AH)(K:KT):Prop:=
 bB x31 λt0=>bI t0 (
 bO (Aa 5 x3) λv1=>
 bO (Am false 1 H v1) λv2=>
 bC (BCall prog 148 [x2,v2] H) λv3 H4=>
 Em x2 x4 H4 K)
 (Em x2 x4 H K)
theorem Ug (x2 x3 x4 x31:AV)(H:AH)(K:KT):Qz x2 x3 x4 x31 H K=Of x2 x3 x4 x31 H K:=(B3 _ _ _ _ _).trans (by kernel_rfl)
def Oe (x2 x3 x4 x12 x24:AV)(H:AH)(K:KT):Prop:=
 bB x24 λt0=>bI t0 (
 bO (Aa 5 x3) λv1=>
 bO (Am false 1 H v1) λv2=>
 bO (Aa 6 x3) λv3=>
 bO (Am false 1 H v3) λv4=>
 bC (BCall prog 147 [x2,v2,v4] H) λv5 H6=>
 Em x2 x4 H6 K)
 (bO (Ar .eql x12 (I 7)) λv7=>
 Qz x2 x3 x4 v7 H K)
theorem Uf (x2 x3 x4 x12 x24:AV)(H:AH)(K:KT):Qy x2 x3 x4 x12 x24 H K=Oe x2 x3 x4 x12 x24 H K:=(B3 _ _ _ _ _).trans (by kernel_rfl)
def Pn (x2 x3 x4 x12 x17:AV)(H:AH)(K:KT):Prop:=
 bB x17 λt0=>bI t0 (
 bO (Am true 8 H x3) λv1=>
 bC (BCall prog 146 [x2,v1] H) λv2 H3=>
 Em x2 x4 H3 K)
 (bO (Ar .eql x12 (I 6)) λv4=>
 Qy x2 x3 x4 x12 v4 H K)
theorem UV (x2 x3 x4 x12 x17:AV)(H:AH)(K:KT):Fm x2 x3 x4 x12 x17 H K=Pn x2 x3 x4 x12 x17 H K:=(B3 _ _ _ _ _).trans (by kernel_rfl)
def WB (a0 a1:AV)(H:AH)(K:KT):Prop:=
 bH (A9 H a0) λv0 H1=>
 bH (A9 H1 a1) λv2 H3=>
 bH (A9 H3 (.agg [Ac,Ac])) λv4 H5=>
 bO (Am true 2 H5 v0) λv6=>
 bC (BCall prog 64 [v6] H5) λv7 H8=>
 bS (AJ 2 H8 v0 v7) λH9=>
 bO (Am true 2 H9 v0) λv10=>
 bP (PCall prog 82 [v10] H9) λv11=>
 bO (E6 .not v11) λv12=>
 bB v12 λt13=>bI t13 (
 bO (Am true 2 H9 v0) λv14=>
 bS (AJ 2 H9 v4 v14) λH15=>
 bO (Am true 2 H15 v4) λv16=>
 K v16 H15)
 (bO (Aa 0 v2) λv17=>
 bO (Am false 1 H9 v17) λv18=>
 bO (Ar .eql v18 (I 1)) λv19=>
 bB v19 λt20=>bI t20 (
 bO (Am true 8 H9 v2) λv21=>
 bC (BCall prog 145 [v0,v21] H9) λv22 H23=>
 Em v0 v4 H23 K)
 (bO (Ar .eql v18 (I 2)) λv24=>
 bB v24 λt25=>bI t25 (
 Fm v0 v2 v4 v18 v24 H9 K)
 (bO (Ar .eql v18 (I 3)) λv26=>
 bB v26 λt27=>bI t27 (
 Fm v0 v2 v4 v18 v26 H9 K)
 (bO (Ar .eql v18 (I 4)) λv28=>
 bB v28 λt29=>bI t29 (
 Fm v0 v2 v4 v18 v28 H9 K)
 (bO (Ar .eql v18 (I 5)) λv30=>
 Fm v0 v2 v4 v18 v30 H9 K)))))
theorem Yn {a0 a1:AV}{H:AH}{K:KT}(h:WB a0 a1 H K):Co 96 [a0,a1] H K:=
 fok A8 HO RV func96 h
def Li:Dh:=VT [(7,[(1,some 11),(5,some 11),(6,some 11)])]
def Lj:Nat→Option (List Bool):=CN [(22,mk 171 0 [2,3,4,5,8]),(20,mk 171 0 [2,3,4,5,8]),(5,mk 171 0 [4,5]),(12,mk 171 0 [3,4,5,6])]
def Cb (p:List Bool)(n:Nat):List AV→AH→Kf→Prop:=AL prog Li HO A1 A1 Lj (sub p (AP f114)) n
def AS (x4 x5:AV)(H:AH)(K:KT):Prop:=jn (mk 171 0 [4,5]) (Cb [tT,tT,tT,tT] 29) [x4,x5] H (Ba prog f114.results.toList K)
def Gg (x3 x4 x5 x6:AV)(H:AH)(K:KT):Prop:=lp (mk 171 0 [3,4,5,6]) (Cb [tT,tT,tT,fF,tT,fF,tT,fF,tT,fF,tT,tT,fF,fF,fF] 13) [x3,x4,x5,x6] H (Be 1 (Bb (Cb [tT,tT,tT,fF,tT,fF,tT,fF,tT,fF,tT,tT,tT] 15) (Be 0 (Bb (DO (mk 171 0 [4,5]) (Cb [tT,tT,tT,tT] 29)) (Ba prog f114.results.toList K)))))
def JY (x2 x3 x4 x5 x8:AV)(H:AH)(K:KT):Prop:=jn (mk 171 0 [2,3,4,5,8]) (Cb [tT,tT,tT,fF,tT,fF,tT,tT,tT,fF,tT,tT,fF,tT,tT] 23) [x2,x3,x4,x5,x8] H (Be 0 (Bb (DO (mk 171 0 [4,5]) (Cb [tT,tT,tT,tT] 29)) (Ba prog f114.results.toList K)))
def E3 (x2 x3 x4 x5 x8:AV)(H:AH)(K:KT):Prop:=jn (mk 171 0 [2,3,4,5,8]) (Cb [tT,tT,tT,fF,tT,fF,tT,tT,tT,fF,tT,tT,fF,tT] 22) [x2,x3,x4,x5,x8] H (Be 0 (Bb (DO (mk 171 0 [4,5]) (Cb [tT,tT,tT,tT] 29)) (Ba prog f114.results.toList K)))
def FF (x4 x5:AV)(H:AH)(K:KT):Prop:=
 bO (Am true 2 H x5) λv0=>
 bS (AJ 2 H x4 v0) λH1=>
 bO (Am true 2 H1 x4) λv2=>
 K v2 H1
theorem IE (x4 x5:AV)(H:AH)(K:KT):AS x4 x5 H K=FF x4 x5 H K:=(B3 _ _ _ _ _).trans (by kernel_rfl)
def IF (R12:RT)(x3 x4 x5 x6:AV)(H:AH)(K:KT):Prop:=
 bO (Aa 1 x5) λv0=>
 bO (Am false 1 H v0) λv1=>
 bO (AY v1) λv2=>
 bO (Ar .lss x6 v2) λv3=>
 bG v3 true λw4=>
 gO w4 (Aa 1 x5) λv5=>
 bG v3 true λw6=>
 gO w6 (Am false 1 H v5) λv7=>
 bG v3 true λw8=>
 gO w8 (some x6) λv9=>
 bG v3 true λw10=>
 gO w10 (Bq 3 v7 v9) λv11=>
 bG v3 true λw12=>
 gO w12 (Aa 0 v11) λv13=>
 bG v3 true λw14=>
 gO w14 (Am false 1 H v13) λv15=>
 bG v3 true λw16=>
 gO w16 (Aa 1 x3) λv17=>
 bG v3 true λw18=>
 gO w18 (Am false 1 H v17) λv19=>
 bG v3 true λw20=>
 gO w20 (Ar .lss v15 v19) λv21=>
 bO (Ay v3 v21 (B false)) λv22=>
 bB v22 λt23=>bI t23 (
 bO (Ar .add x6 (I 1)) λv24=>
 R12 [x3,x4,x5,v24] H)
 (bO (Aa 1 x5) λv25=>
 bO (Am false 1 H v25) λv26=>
 bO (Bj 3 v26 none (some x6) none) λv27=>
 bH (HG 3 40 H Ac v27) λv28 H29=>
 bO (Aa 1 x3) λv30=>
 bO (Am false 1 H29 v30) λv31=>
 bO (E5 [(I 0),(I 0),Ac] [(0,1,v31)]) λv32=>
 bH (FC H29 3 1 (BI [(I 0),(I 0),Ac] 1) [(0,3,v32)]) λv33 H34=>
 bH (HG 3 40 H34 v28 v33) λv35 H36=>
 bO (Aa 1 x5) λv37=>
 bO (Am false 1 H36 v37) λv38=>
 bO (Bj 3 v38 (some x6) none none) λv39=>
 bH (HG 3 40 H36 v35 v39) λv40 H41=>
 bO (Aa 1 x5) λv42=>
 bS (AJ 1 H41 v42 v40) λH43=>
 AS x4 x5 H43 K)
theorem Nn {K:KT}:dC (λR x3 x4 x5 x6 H=>IF R x3 x4 x5 x6 H K) (λx3 x4 x5 x6 H=>Gg x3 x4 x5 x6 H K):=Tb (A2 _ _) (λ_ _ _ _ _ _=>by kernel_rfl)
def ID (x2 x3 x4 x5 x8:AV)(H:AH)(K:KT):Prop:=
 bO (Aa 6 x3) λv0=>
 bO (Am false 1 H v0) λv1=>
 bO (Aa 0 x2) λv2=>
 bO (Am false 1 H v2) λv3=>
 bO (Bq 2 v3 x8) λv4=>
 bO (Aa 1 v4) λv5=>
 bO (Am false 1 H v5) λv6=>
 bC (BCall prog 166 [x5,v1,v6] H) λv7 H8=>
 AS x4 x5 H8 K
theorem OF (x2 x3 x4 x5 x8:AV)(H:AH)(K:KT):JY x2 x3 x4 x5 x8 H K=ID x2 x3 x4 x5 x8 H K:=(B3 _ _ _ _ _).trans (by kernel_rfl)
def IC (x2 x3 x4 x5 x8:AV)(H:AH)(K:KT):Prop:=
 bO (Aa 5 x3) λv0=>
 bO (Am false 1 H v0) λv1=>
 bC (BCall prog 167 [x5,v1,(B false)] H) λv2 H3=>
 JY x2 x3 x4 x5 x8 H3 K
theorem OE (x2 x3 x4 x5 x8:AV)(H:AH)(K:KT):E3 x2 x3 x4 x5 x8 H K=IC x2 x3 x4 x5 x8 H K:=(B3 _ _ _ _ _).trans (by kernel_rfl)
def Ou (a0 a1:AV)(H:AH)(K:KT):Prop:=
 bH (A9 H a0) λv0 H1=>
 bH (A9 H1 a1) λv2 H3=>
 bH (A9 H3 (.agg [Ac,Ac])) λv4 H5=>
 bO (Am true 2 H5 v0) λv6=>
 bC (BCall prog 127 [v6] H5) λv7 H8=>
 bH (A9 H8 (.agg [Ac,Ac])) λv9 H10=>
 bS (AJ 2 H10 v9 v7) λH11=>
 bO (Am true 2 H11 v0) λv12=>
 bP (PCall prog 112 [v12] H11) λv13=>
 bO (E6 .not v13) λv14=>
 bB v14 λt15=>bI t15 (
 bO (Am true 2 H11 v9) λv16=>
 bS (AJ 2 H11 v4 v16) λH17=>
 bO (Am true 2 H17 v4) λv18=>
 K v18 H17)
 (bO (Aa 0 v2) λv19=>
 bO (Am false 1 H11 v19) λv20=>
 bO (Ar .eql v20 (I 1)) λv21=>
 bB v21 λt22=>bI t22 (
 bO (Aa 5 v2) λv23=>
 bO (Am false 1 H11 v23) λv24=>
 bP (PCall prog 60 [v24] H11) λv25=>
 bG v25 true λw26=>
 gO w26 (Am true 2 H11 v0) λv27=>
 bG v25 true λw28=>
 gO w28 (Aa 5 v2) λv29=>
 bG v25 true λw30=>
 gO w30 (Am false 1 H11 v29) λv31=>
 bG v25 true λw32=>
 gP w32 (PCall prog 111 [v27,v31] H11) λv33=>
 bG v25 true λw34=>
 gO w34 (Ar .lss v33 (I 0)) λv35=>
 bO (Ay v25 v35 (B false)) λv36=>
 bG v36 true λw37=>
 gO w37 (Aa 1 v2) λv38=>
 bG v36 true λw39=>
 gO w39 (Am false 1 H11 v38) λv40=>
 bG v36 true λw41=>
 gO w41 (Ar .geq v40 (I 1)) λv42=>
 bO (Ay v36 v42 (B false)) λv43=>
 bG v43 true λw44=>
 gO w44 (Aa 1 v2) λv45=>
 bG v43 true λw46=>
 gO w46 (Am false 1 H11 v45) λv47=>
 bG v43 true λw48=>
 gO w48 (Ar .leq v47 (I 4611686018427387904)) λv49=>
 bO (Ay v43 v49 (B false)) λv50=>
 bG v50 true λw51=>
 gO w51 (Am true 2 H11 v0) λv52=>
 bG v50 true λw53=>
 gO w53 (Aa 1 v2) λv54=>
 bG v50 true λw55=>
 gO w55 (Am false 1 H11 v54) λv56=>
 bG v50 true λw57=>
 gP w57 (PCall prog 165 [v52,v56] H11) λv58=>
 bG v50 true λw59=>
 gO w59 (Ar .lss v58 (I 0)) λv60=>
 bO (Ay v50 v60 (B false)) λv61=>
 bG v61 true λw62=>
 gO w62 (Aa 0 v0) λv63=>
 bG v61 true λw64=>
 gO w64 (Am false 1 H11 v63) λv65=>
 bG v61 true λw66=>
 gO w66 (AY v65) λv67=>
 bG v61 true λw68=>
 gO w68 (Ar .lss v67 (I 16)) λv69=>
 bO (Ay v61 v69 (B false)) λv70=>
 bB v70 λt71=>bI t71 (
 bO (Aa 5 v2) λv72=>
 bO (Am false 1 H11 v72) λv73=>
 bO (Aa 1 v2) λv74=>
 bO (Am false 1 H11 v74) λv75=>
 bC (BCall prog 166 [v9,v73,v75] H11) λv76 H77=>
 Gg v2 v4 v9 (I 0) H77 K)
 (AS v4 v9 H11 K))
 (bO (Ar .eql v20 (I 6)) λv78=>
 bB v78 λt79=>bI t79 (
 bO (Am true 2 H11 v0) λv80=>
 bO (Aa 5 v2) λv81=>
 bO (Am false 1 H11 v81) λv82=>
 bP (PCall prog 111 [v80,v82] H11) λv83=>
 bO (Ar .geq v83 (I 0)) λv84=>
 bG v84 true λw85=>
 gO w85 (Aa 6 v2) λv86=>
 bG v84 true λw87=>
 gO w87 (Am false 1 H11 v86) λv88=>
 bG v84 true λw89=>
 gP w89 (PCall prog 60 [v88] H11) λv90=>
 bO (Ay v84 v90 (B false)) λv91=>
 bG v91 true λw92=>
 gO w92 (Aa 6 v2) λv93=>
 bG v91 true λw94=>
 gO w94 (Am false 1 H11 v93) λv95=>
 bG v91 true λw96=>
 gO w96 (Aa 5 v2) λv97=>
 bG v91 true λw98=>
 gO w98 (Am false 1 H11 v97) λv99=>
 bG v91 true λw100=>
 gO w100 (Xq .neq v95 v99) λv101=>
 bO (Ay v91 v101 (B false)) λv102=>
 bB v102 λt103=>bI t103 (
 bO (Am true 2 H11 v9) λv104=>
 bO (Aa 6 v2) λv105=>
 bO (Am false 1 H11 v105) λv106=>
 bP (PCall prog 111 [v104,v106] H11) λv107=>
 bO (Ar .geq v107 (I 0)) λv108=>
 bB v108 λt109=>bI t109 (
 bO (Aa 6 v2) λv110=>
 bO (Am false 1 H11 v110) λv111=>
 bC (BCall prog 167 [v9,v111,(B true)] H11) λv112 H113=>
 E3 v0 v2 v4 v9 v83 H113 K)
 (E3 v0 v2 v4 v9 v83 H11 K))
 (AS v4 v9 H11 K))
 (bO (Ar .eql v20 (I 7)) λv114=>
 bB v114 λt115=>bI t115 (
 bO (Am true 2 H11 v0) λv116=>
 bO (Aa 5 v2) λv117=>
 bO (Am false 1 H11 v117) λv118=>
 bP (PCall prog 111 [v116,v118] H11) λv119=>
 bO (Ar .geq v119 (I 0)) λv120=>
 bB v120 λt121=>bI t121 (
 bO (Aa 5 v2) λv122=>
 bO (Am false 1 H11 v122) λv123=>
 bC (BCall prog 167 [v9,v123,(B true)] H11) λv124 H125=>
 AS v4 v9 H125 K)
 (AS v4 v9 H11 K))
 (bO (Am true 2 H11 v0) λv126=>
 bO (Aa 1 v2) λv127=>
 bO (Am false 1 H11 v127) λv128=>
 bP (PCall prog 165 [v126,v128] H11) λv129=>
 bO (Ar .geq v129 (I 0)) λv130=>
 bB v130 λt131=>bI t131 (
 bO (Aa 1 v0) λv132=>
 bO (Am false 1 H11 v132) λv133=>
 bO (Bq 3 v133 v129) λv134=>
 bO (Aa 1 v134) λv135=>
 bO (Am true 2 H11 v135) λv136=>
 bO (Am true 8 H11 v2) λv137=>
 bP (BPure prog 168 [v136,v137]) λv138=>
 bO (Ai v138 0) λv139=>
 bO (Ai v138 1) λv140=>
 bH (A9 H11 (.agg [(I 0),Ac])) λv141 H142=>
 bS (AJ 2 H142 v141 v139) λH143=>
(Am false 1 H142 v132=some v133)∧
(Am true 2 H142 v135=some v136)∧
(Am true 8 H142 v2=some v137)∧
 bB v140 λt144=>bI t144 (
 bO (Aa 1 v9) λv145=>
 bO (Am false 1 H143 v145) λv146=>
 bO (Am true 2 H143 v141) λv147=>
 bO (Bq 3 v146 v129) λv148=>
 bO (Aa 1 v148) λv149=>
 bS (AJ 2 H143 v149 v147) λH150=>
 AS v4 v9 H150 K)
 (AS v4 v9 H143 K))
 (AS v4 v9 H11 K)))))
theorem Ss {a0 a1:AV}{H:AH}{K:KT}(h:Ou a0 a1 H K):Co 114 [a0,a1] H K:=
 fok Li HO Lj func114 h
def Va:Nat→Option (List Bool):=CN [(8,mk 51 0 [3,5,25,26,27])]
def WC (p:List Bool)(n:Nat):List AV→AH→Kf→Prop:=AL prog A8 HO A1 A1 Va (sub p (AP f82)) n
def UY (x3 x5 x25 x26 x27:AV)(H:AH)(K:KT):Prop:=lp (mk 51 0 [3,5,25,26,27]) (WC [tT,tT,tT,tT,fF,tT,fF,fF] 9) [x3,x5,x25,x26,x27] H (Be 0 (Bb (WC [tT,tT,tT,tT,tT] 16) (Ba prog f82.results.toList K)))
def RW (R8:RT)(x3 x5 x25 x26 x27:AV)(H:AH)(K:KT):Prop:=
 bO (Ar .lss x27 x26) λv0=>
 bB v0 λt1=>bI t1 (
 bO (Bq 3 x25 x27) λv2=>
 bO (Am true 3 H v2) λv3=>
 bH (A9 H (.agg [(I 0),(I 0),Ac])) λv4 H5=>
 bS (AJ 3 H5 v4 v3) λH6=>
 bO (Aa 0 v4) λv7=>
 bO (Am false 1 H6 v7) λv8=>
 bO (Ar .leq v8 x5) λv9=>
 bG v9 false λw10=>
 gO w10 (some x3) λv11=>
 bG v9 false λw12=>
 gO w12 (Aa 0 v4) λv13=>
 bG v9 false λw14=>
 gO w14 (Am false 1 H6 v13) λv15=>
 bG v9 false λw16=>
 gO w16 (tC (.int .i64) (.bool false) H6 v11 v15 false) λv17=>
 bG v9 false λw18=>
 gO w18 (E6 .not v17) λv19=>
 bO (Ay v9 (B true) v19) λv20=>
 bG v20 false λw21=>
 gO w21 (Aa 1 v4) λv22=>
 bG v20 false λw23=>
 gO w23 (Am true 2 H6 v22) λv24=>
 bG v20 false λw25=>
 gP w25 (PCall prog 90 [v24] H6) λv26=>
 bG v20 false λw27=>
 gO w27 (E6 .not v26) λv28=>
 bO (Ay v20 (B true) v28) λv29=>
 bB v29 λt30=>bI t30 (
 K (B false) H6)
 (bO (Aa 0 v4) λv31=>
 bO (Am false 1 H6 v31) λv32=>
 bO (Ar .add x27 (I 1)) λv33=>
 R8 [x3,v32,x25,x26,v33] H6))
 (K (B true) H)
theorem UZ {K:KT}:oW (λR x3 x5 x25 x26 x27 H=>RW R x3 x5 x25 x26 x27 H K) (λx3 x5 x25 x26 x27 H=>UY x3 x5 x25 x26 x27 H K):=Yx (A2 _ _) (λ_ _ _ _ _ _ _=>by kernel_rfl)
def Z5 (a0:AV)(H:AH)(K:KT):Prop:=
 bH (A9 H a0) λv0 H1=>
 bO (Aa 0 v0) λv2=>
 bO (Am false 1 H1 v2) λv3=>
 bC (BCall prog 133 [v3] H1) λv4 H5=>
 bO (Ai v4 0) λv6=>
 bO (Ai v4 1) λv7=>
 bO (E6 .not v7) λv8=>
 bG v8 false λw9=>
 gO w9 (Aa 1 v0) λv10=>
 bG v8 false λw11=>
 gO w11 (Am false 1 H5 v10) λv12=>
 bG v8 false λw13=>
 gO w13 (AY v12) λv14=>
 bG v8 false λw15=>
 gO w15 (some v6) λv16=>
 bG v8 false λw17=>
 gO w17 (iD H5 v16) λv18=>
 bG v8 false λw19=>
 gO w19 (Ar .neq v14 v18) λv20=>
 bO (Ay v8 (B true) v20) λv21=>
 bB v21 λt22=>bI t22 (
 K (B false) H5)
 (bO (Aa 1 v0) λv23=>
 bO (Am false 1 H5 v23) λv24=>
 bO (AY v24) λv25=>
 UY v6 (I 0) v24 v25 (I 0) H5 K)
theorem bD {a0:AV}{H:AH}{K:KT}(h:Z5 a0 H K):Co 82 [a0] H K:=
 fok A8 HO Va func82 h
def P3 (a0 a1:AV)(H:AH)(K:KT):Prop:=
 bH (A9 H a0) λv0 H1=>
 bO (Am true 2 H1 v0) λv2=>
 bP (PCall prog 111 [v2,a1] H1) λv3=>
 bO (Am true 2 H1 v0) λv4=>
 bP (PCall prog 112 [v4] H1) λv5=>
 bO (E6 .not v5) λv6=>
 bG v6 false λw7=>
 gO w7 (some v3) λv8=>
 bG v6 false λw9=>
 gO w9 (Ar .lss v8 (I 0)) λv10=>
 bO (Ay v6 (B true) v10) λv11=>
 bB v11 λt12=>bI t12 (
 K (.tup [(I 0),(B false)]) H1)
 (bO (Aa 0 v0) λv13=>
 bO (Am false 1 H1 v13) λv14=>
 bO (Bq 2 v14 v3) λv15=>
 bO (Aa 1 v15) λv16=>
 bO (Am false 1 H1 v16) λv17=>
 K (.tup [v17,(B true)]) H1)
theorem Tf {a0 a1:AV}{H:AH}{K:KT}(h:P3 a0 a1 H K):Co 61 [a0,a1] H K:=
 fok A8 HO B6 func61 h
def L8 (a0 a1:AV)(H:AH)(K:KT):Prop:=
 bH (A9 H a0) λv0 H1=>
 bH (A9 H1 (.agg [(I 0),Ac])) λv2 H3=>
 bO (Am true 2 H3 v0) λv4=>
 bP (PCall prog 165 [v4,a1] H3) λv5=>
 bO (Am true 2 H3 v0) λv6=>
 bP (PCall prog 112 [v6] H3) λv7=>
 bO (E6 .not v7) λv8=>
 bG v8 false λw9=>
 gO w9 (some v5) λv10=>
 bG v8 false λw11=>
 gO w11 (Ar .lss v10 (I 0)) λv12=>
 bO (Ay v8 (B true) v12) λv13=>
 bB v13 λt14=>bI t14 (
 bO (E5 [(I 0),Ac] []) λv15=>
 bS (AJ 2 H3 v2 v15) λH16=>
 bO (Am true 2 H16 v2) λv17=>
 K (.tup [v17,(B false)]) H16)
 (bO (Aa 1 v0) λv18=>
 bO (Am false 1 H3 v18) λv19=>
 bO (Bq 3 v19 v5) λv20=>
 bO (Aa 1 v20) λv21=>
 bO (Am true 2 H3 v21) λv22=>
 bP (PCall prog 169 [v22] H3) λv23=>
 bS (AJ 2 H3 v2 v23) λH24=>
 bO (Am true 2 H24 v2) λv25=>
 K (.tup [v25,(B true)]) H24)
theorem Nq {a0 a1:AV}{H:AH}{K:KT}(h:L8 a0 a1 H K):Co 120 [a0,a1] H K:=
 fok A8 HO B6 func120 h
def Jt:Nat→Option (List Bool):=CN [(3,mk 52 0 [0,3])]
def Ka (p:List Bool)(n:Nat):List AV→AH→Kf→Prop:=AL prog A8 HO A1 A1 Jt (sub p (AP f60)) n
def Js (x0 x3:AV)(H:AH)(K:KT):Prop:=lp (mk 52 0 [0,3]) (Ka [tT,fF,tT,fF,fF] 4) [x0,x3] H (Be 0 (Bb (Ka [tT,tT] 10) (Ba prog f60.results.toList K)))
def HW (R3:RT)(x0 x3:AV)(H:AH)(K:KT):Prop:=
 bO (WR x0) λv0=>
 bO (Ar .lss x3 v0) λv1=>
 bB v1 λt2=>bI t2 (
 bO (iB x0 x3) λv3=>
 bO (Ar .lss v3 (.lit (.int .u8 97))) λv4=>
 bG v4 false λw5=>
 gO w5 (some v3) λv6=>
 bG v4 false λw7=>
 gO w7 (Ar .gtr v6 (.lit (.int .u8 122))) λv8=>
 bO (Ay v4 (B true) v8) λv9=>
 bG v9 true λw10=>
 gO w10 (some v3) λv11=>
 bG v9 true λw12=>
 gO w12 (Ar .lss v11 (.lit (.int .u8 48))) λv13=>
 bG v9 true λw14=>
 gO w14 (some v13) λv15=>
 bG v15 false λw16=>
 gO w16 (some v3) λv17=>
 bG v15 false λw18=>
 gO w18 (Ar .gtr v17 (.lit (.int .u8 57))) λv19=>
 bG v9 true λw20=>
 gO w20 (Ay v15 (B true) v19) λv21=>
 bO (Ay v9 v21 (B false)) λv22=>
 bG v22 true λw23=>
 gO w23 (some v3) λv24=>
 bG v22 true λw25=>
 gO w25 (Ar .neq v24 (.lit (.int .u8 46))) λv26=>
 bO (Ay v22 v26 (B false)) λv27=>
 bG v27 true λw28=>
 gO w28 (some v3) λv29=>
 bG v27 true λw30=>
 gO w30 (Ar .neq v29 (.lit (.int .u8 95))) λv31=>
 bO (Ay v27 v31 (B false)) λv32=>
 bG v32 true λw33=>
 gO w33 (some v3) λv34=>
 bG v32 true λw35=>
 gO w35 (Ar .neq v34 (.lit (.int .u8 45))) λv36=>
 bG v32 true λw37=>
 gO w37 (some v36) λv38=>
 bG v38 false λw39=>
 gO w39 (some x3) λv40=>
 bG v38 false λw41=>
 gO w41 (Ar .eql v40 (I 0)) λv42=>
 bG v32 true λw43=>
 gO w43 (Ay v38 (B true) v42) λv44=>
 bO (Ay v32 v44 (B false)) λv45=>
 bB v45 λt46=>bI t46 (
 K (B false) H)
 (bO (Ar .add x3 (I 1)) λv47=>
 R3 [x0,v47] H))
 (bO (WR x0) λv48=>
 bO (Ar .geq v48 (I 1)) λv49=>
 bG v49 true λw50=>
 gO w50 (some x0) λv51=>
 bG v49 true λw52=>
 gO w52 (WR v51) λv53=>
 bG v49 true λw54=>
 gO w54 (Ar .leq v53 (I 20)) λv55=>
 bO (Ay v49 v55 (B false)) λv56=>
 K v56 H)
theorem Mh {K:KT}:wE (λR x0 x3 H=>HW R x0 x3 H K) (λx0 x3 H=>Js x0 x3 H K):=nT (A2 _ _) (λ_ _ _ _=>by kernel_rfl)
def LG (a0:AV)(H:AH)(K:KT):Prop:=
 Js a0 (I 0) H K
theorem Qh {a0:AV}{H:AH}{K:KT}(h:LG a0 H K):Co 60 [a0] H K:=
 fok A8 HO Jt func60 h
def IL:Nat→Option (List Bool):=CN [(16,mk 110 0 [1,3,4,5]),(6,mk 110 0 [1,3])]
def C5 (p:List Bool)(n:Nat):List AV→AH→Kf→Prop:=AL prog A8 HO A1 A1 IL (sub p (AP f112)) n
def HV (R6:RT)(x1 x3 x4 x5:AV)(H:AH)(K:KT):Prop:=lp (mk 110 0 [1,3,4,5]) (C5 [tT,tT,fF,tT,fF,fF,tT,fF,fF,tT,tT,fF,tT,fF,fF] 17) [x1,x3,x4,x5] H (Be 2 (Bb (C5 [tT,tT,fF,tT,fF,fF,tT,fF,fF,tT,tT,tT] 22) (Be 1 (Bb (C5 [tT,tT,fF,tT,fF,fF,tT,tT] 24) (TO (mk 110 0 [1,3]) R6 (Be 0 (Bb (C5 [tT,tT,tT] 24) (Ba prog f112.results.toList K))))))))
def IJ (x1 x3:AV)(H:AH)(K:KT):Prop:=lp (mk 110 0 [1,3]) (C5 [tT,tT,fF,tT,fF,fF] 7) [x1,x3] H (Be 0 (Bb (C5 [tT,tT,tT] 24) (Ba prog f112.results.toList K)))
def Es (R6:RT)(R16:RT)(x1 x3 x4 x5:AV)(H:AH)(K:KT):Prop:=
 bO (Ar .lss x5 x3) λv0=>
 bB v0 λt1=>bI t1 (
 bO (Aa 0 x1) λv2=>
 bO (Am false 1 H v2) λv3=>
 bO (Bq 2 v3 x5) λv4=>
 bO (Aa 1 v4) λv5=>
 bO (Am false 1 H v5) λv6=>
 bO (Aa 1 x4) λv7=>
 bO (Am false 1 H v7) λv8=>
 bO (Ar .eql v6 v8) λv9=>
 bB v9 λt10=>bI t10 (
 K (B false) H)
 (bO (Ar .add x5 (I 1)) λv11=>
 R16 [x1,x3,x4,v11] H))
 (bO (Ar .gtr x3 (I 0)) λv12=>
 bG v12 true λw13=>
 gO w13 (Aa 1 x1) λv14=>
 bG v12 true λw15=>
 gO w15 (Am false 1 H v14) λv16=>
 bG v12 true λw17=>
 gO w17 (some x3) λv18=>
 bG v12 true λw19=>
 gO w19 (Ar .sub v18 (I 1)) λv20=>
 bG v12 true λw21=>
 gO w21 (Bq 3 v16 v20) λv22=>
 bG v12 true λw23=>
 gO w23 (Aa 0 v22) λv24=>
 bG v12 true λw25=>
 gO w25 (Am false 1 H v24) λv26=>
 bG v12 true λw27=>
 gO w27 (Aa 1 x1) λv28=>
 bG v12 true λw29=>
 gO w29 (Am false 1 H v28) λv30=>
 bG v12 true λw31=>
 gO w31 (some x3) λv32=>
 bG v12 true λw33=>
 gO w33 (Bq 3 v30 v32) λv34=>
 bG v12 true λw35=>
 gO w35 (Aa 0 v34) λv36=>
 bG v12 true λw37=>
 gO w37 (Am false 1 H v36) λv38=>
 bG v12 true λw39=>
 gO w39 (Ar .geq v26 v38) λv40=>
 bO (Ay v12 v40 (B false)) λv41=>
 bG v41 false λw42=>
 gO w42 (Aa 1 x1) λv43=>
 bG v41 false λw44=>
 gO w44 (Am false 1 H v43) λv45=>
 bG v41 false λw46=>
 gO w46 (some x3) λv47=>
 bG v41 false λw48=>
 gO w48 (Bq 3 v45 v47) λv49=>
 bG v41 false λw50=>
 gO w50 (Aa 1 v49) λv51=>
 bG v41 false λw52=>
 gO w52 (Am true 2 H v51) λv53=>
 bG v41 false λw54=>
 gP w54 (BPure prog 122 [v53]) λv55=>
 bG v41 false λw56=>
 gO w56 (E6 .not v55) λv57=>
 bO (Ay v41 (B true) v57) λv58=>
 bB v58 λt59=>bI t59 (
 K (B false) H)
 (bO (Ar .add x3 (I 1)) λv60=>
 R6 [x1,v60] H))
theorem F5 (R6:RT){K:KT}:dC (λR x1 x3 x4 x5 H=>Es R6 R x1 x3 x4 x5 H K) (λx1 x3 x4 x5 H=>HV R6 x1 x3 x4 x5 H K):=Tb (A2 _ _) (λ_ _ _ _ _ _=>by kernel_rfl)
def Ho (R6:RT)(x1 x3:AV)(H:AH)(K:KT):Prop:=
 bO (Aa 0 x1) λv0=>
 bO (Am false 1 H v0) λv1=>
 bO (AY v1) λv2=>
 bO (Ar .lss x3 v2) λv3=>
 bB v3 λt4=>bI t4 (
 bO (Aa 0 x1) λv5=>
 bO (Am false 1 H v5) λv6=>
 bO (Bq 2 v6 x3) λv7=>
 bO (Am true 2 H v7) λv8=>
 bH (A9 H (.agg [(.lit (.string ⟨#[]⟩)),(I 0)])) λv9 H10=>
 bS (AJ 2 H10 v9 v8) λH11=>
 bO (Aa 0 v9) λv12=>
 bO (Am false 1 H11 v12) λv13=>
 bP (BPure prog 60 [v13]) λv14=>
 bO (E6 .not v14) λv15=>
 bG v15 false λw16=>
 gO w16 (Aa 1 v9) λv17=>
 bG v15 false λw18=>
 gO w18 (Am false 1 H11 v17) λv19=>
 bG v15 false λw20=>
 gO w20 (Ar .lss v19 (I 1)) λv21=>
 bO (Ay v15 (B true) v21) λv22=>
 bG v22 false λw23=>
 gO w23 (Aa 1 v9) λv24=>
 bG v22 false λw25=>
 gO w25 (Am false 1 H11 v24) λv26=>
 bG v22 false λw27=>
 gO w27 (Ar .gtr v26 (I 4611686018427387904)) λv28=>
 bO (Ay v22 (B true) v28) λv29=>
 bG v29 false λw30=>
 gO w30 (some x3) λv31=>
 bG v29 false λw32=>
 gO w32 (Ar .gtr v31 (I 0)) λv33=>
 bG v29 false λw34=>
 gO w34 (some v33) λv35=>
 bG v35 true λw36=>
 gO w36 (Aa 0 x1) λv37=>
 bG v35 true λw38=>
 gO w38 (Am false 1 H11 v37) λv39=>
 bG v35 true λw40=>
 gO w40 (some x3) λv41=>
 bG v35 true λw42=>
 gO w42 (Ar .sub v41 (I 1)) λv43=>
 bG v35 true λw44=>
 gO w44 (Bq 2 v39 v43) λv45=>
 bG v35 true λw46=>
 gO w46 (Aa 0 v45) λv47=>
 bG v35 true λw48=>
 gO w48 (Am false 1 H11 v47) λv49=>
 bG v35 true λw50=>
 gO w50 (Aa 0 v9) λv51=>
 bG v35 true λw52=>
 gO w52 (Am false 1 H11 v51) λv53=>
 bG v35 true λw54=>
 gO w54 (Xq .geq v49 v53) λv55=>
 bG v29 false λw56=>
 gO w56 (Ay v35 v55 (B false)) λv57=>
 bO (Ay v29 (B true) v57) λv58=>
 bG v58 false λw59=>
 gO w59 (Am true 2 H11 x1) λv60=>
 bG v58 false λw61=>
 gO w61 (Aa 1 v9) λv62=>
 bG v58 false λw63=>
 gO w63 (Am false 1 H11 v62) λv64=>
 bG v58 false λw65=>
 gP w65 (BPure prog 165 [v60,v64]) λv66=>
 bG v58 false λw67=>
 gO w67 (Ar .lss v66 (I 0)) λv68=>
 bO (Ay v58 (B true) v68) λv69=>
 bB v69 λt70=>bI t70 (
 K (B false) H11)
 (HV R6 x1 x3 v9 (I 0) H11 K))
 (K (B true) H)
theorem L9 {K:KT}:wE (λR x1 x3 H=>Ho R x1 x3 H K) (λx1 x3 H=>IJ x1 x3 H K):=nT (A2 _ _) (λ_ _ _ _=>by kernel_rfl)
def Ll (a0:AV)(H:AH)(K:KT):Prop:=
 bH (A9 H a0) λv0 H1=>
 bO (Aa 0 v0) λv2=>
 bO (Am false 1 H1 v2) λv3=>
 bO (AY v3) λv4=>
 bO (Ar .gtr v4 (I 16)) λv5=>
 bG v5 false λw6=>
 gO w6 (Aa 0 v0) λv7=>
 bG v5 false λw8=>
 gO w8 (Am false 1 H1 v7) λv9=>
 bG v5 false λw10=>
 gO w10 (AY v9) λv11=>
 bG v5 false λw12=>
 gO w12 (Aa 1 v0) λv13=>
 bG v5 false λw14=>
 gO w14 (Am false 1 H1 v13) λv15=>
 bG v5 false λw16=>
 gO w16 (AY v15) λv17=>
 bG v5 false λw18=>
 gO w18 (Ar .neq v11 v17) λv19=>
 bO (Ay v5 (B true) v19) λv20=>
 bB v20 λt21=>bI t21 (
 K (B false) H1)
 (IJ v0 (I 0) H1 K)
theorem P4 {a0:AV}{H:AH}{K:KT}(h:Ll a0 H K):Co 112 [a0] H K:=
 fok A8 HO IL func112 h
def LI:Nat→Option (List Bool):=CN [(4,mk 27 0 [1,3,4])]
def Nv (p:List Bool)(n:Nat):List AV→AH→Kf→Prop:=AL prog A8 HO A1 A1 LI (sub p (AP f164)) n
def LH (x1 x3 x4:AV)(H:AH)(K:KT):Prop:=lp (mk 27 0 [1,3,4]) (Nv [tT,tT,fF,tT,fF,fF] 5) [x1,x3,x4] H (Be 0 (Bb (Nv [tT,tT,tT] 8) (Ba prog f164.results.toList K)))
def Kc (R4:RT)(x1 x3 x4:AV)(H:AH)(K:KT):Prop:=
 bO (Aa 1 x1) λv0=>
 bO (Am false 1 H v0) λv1=>
 bO (AY v1) λv2=>
 bO (Ar .lss x4 v2) λv3=>
 bG v3 true λw4=>
 gO w4 (Am true 2 H x1) λv5=>
 bG v3 true λw6=>
 gP w6 (PCall prog 112 [v5] H) λv7=>
 bO (Ay v3 v7 (B false)) λv8=>
 bB v8 λt9=>bI t9 (
 bO (Aa 1 x1) λv10=>
 bO (Am false 1 H v10) λv11=>
 bO (Bq 3 v11 x4) λv12=>
 bO (Aa 1 v12) λv13=>
 bO (Aa 1 v13) λv14=>
 bO (Am false 1 H v14) λv15=>
 bO (AY v15) λv16=>
 bO (Ar .add x3 v16) λv17=>
 bO (Ar .add x4 (I 1)) λv18=>
 R4 [x1,v17,v18] H)
 (K x3 H)
theorem OI {K:KT}:oV (λR x1 x3 x4 H=>Kc R x1 x3 x4 H K) (λx1 x3 x4 H=>LH x1 x3 x4 H K):=Yw (A2 _ _) (λ_ _ _ _ _=>by kernel_rfl)
def P6 (a0:AV)(H:AH)(K:KT):Prop:=
 bH (A9 H a0) λv0 H1=>
 LH v0 (I 0) (I 0) H1 K
theorem Tg {a0:AV}{H:AH}{K:KT}(h:P6 a0 H K):Co 164 [a0] H K:=
 fok A8 HO LI func164 h
def Yq (a0 a1:AV)(H:AH)(K:KT):Prop:=
 bH (A9 H a0) λv0 H1=>
 bH (A9 H1 a1) λv2 H3=>
 bO (Aa 0 v0) λv4=>
 bO (Am false 1 H3 v4) λv5=>
 bO (Aa 0 v2) λv6=>
 bO (Am false 1 H3 v6) λv7=>
 bP (PCall prog 98 [v5,v7] H3) λv8=>
 bG v8 true λw9=>
 gO w9 (Aa 1 v0) λv10=>
 bG v8 true λw11=>
 gO w11 (Am false 1 H3 v10) λv12=>
 bG v8 true λw13=>
 gO w13 (Aa 1 v2) λv14=>
 bG v8 true λw15=>
 gO w15 (Am false 1 H3 v14) λv16=>
 bG v8 true λw17=>
 gP w17 (PCall prog 99 [v12,v16,(.fn (.func 100) [] [])] H3) λv18=>
 bO (Ay v8 v18 (B false)) λv19=>
 K v19 H3
theorem Zf {a0 a1:AV}{H:AH}{K:KT}(h:Yq a0 a1 H K):Co 44 [a0,a1] H K:=
 fok A8 HO B6 func44 h
def TH:Dh:=VT [(1,[(4,none)])]
def TI:Nat→Option (List Bool):=CN [(4,mk 31 0 [1,2,13,14])]
def UW (p:List Bool)(n:Nat):List AV→AH→Kf→Prop:=AL prog TH HO A1 A1 TI (sub p (AP f64)) n
def TG (x1 x2 x13 x14:AV)(H:AH)(K:KT):Prop:=lp (mk 31 0 [1,2,13,14]) (UW [tT,tT,fF,tT,fF,fF] 5) [x1,x2,x13,x14] H (Be 0 (Bb (UW [tT,tT,tT] 9) (Ba prog f64.results.toList K)))
def Q0 (R4:RT)(x1 x2 x13 x14:AV)(H:AH)(K:KT):Prop:=
 bO (Ar .lss x14 x13) λv0=>
 bB v0 λt1=>bI t1 (
 bO (Aa 1 x1) λv2=>
 bO (Am false 1 H v2) λv3=>
 bO (Aa 1 x1) λv4=>
 bO (Am false 1 H v4) λv5=>
 bO (Bq 3 v5 x14) λv6=>
 bO (Aa 1 v6) λv7=>
 bO (Am true 2 H v7) λv8=>
 bP (BPure prog 84 [v8]) λv9=>
 bO (Bq 3 v3 x14) λv10=>
 bO (Aa 1 v10) λv11=>
 bS (AJ 2 H v11 v9) λH12=>
 bO (Ar .add x14 (I 1)) λv13=>
 R4 [x1,x2,x13,v13] H12)
 (bO (Am true 2 H x1) λv14=>
 bS (AJ 2 H x2 v14) λH15=>
 bO (Am true 2 H15 x2) λv16=>
 K v16 H15)
theorem Uh {K:KT}:dC (λR x1 x2 x13 x14 H=>Q0 R x1 x2 x13 x14 H K) (λx1 x2 x13 x14 H=>TG x1 x2 x13 x14 H K):=Tb (A2 _ _) (λ_ _ _ _ _ _=>by kernel_rfl)
def Yo (a0:AV)(H:AH)(K:KT):Prop:=
 bH (A9 H a0) λv0 H1=>
 bH (A9 H1 (.agg [Ac,Ac])) λv2 H3=>
 bO (Aa 0 v0) λv4=>
 bO (Am false 1 H3 v4) λv5=>
 bC (BCall prog 115 [v5] H3) λv6 H7=>
 bO (Aa 1 v0) λv8=>
 bO (Am false 1 H7 v8) λv9=>
 bC (BCall prog 116 [v9] H7) λv10 H11=>
 bO (E5 [Ac,Ac] [(0,1,v6),(1,1,v10)]) λv12=>
 bS (AJ 2 H11 v0 v12) λH13=>
(Am false 1 H3 v8=some v9)∧
 bO (Aa 1 v0) λv14=>
 bO (Am false 1 H13 v14) λv15=>
 bO (AY v15) λv16=>
 TG v0 v2 v16 (I 0) H13 K
theorem Zd {a0:AV}{H:AH}{K:KT}(h:Yo a0 H K):Co 64 [a0] H K:=
 fok TH HO TI func64 h
def WD (a0 a1:AV)(H:AH)(K:KT):Prop:=
 bH (A9 H a0) λv0 H1=>
 bO (Aa 0 v0) λv2=>
 bO (Am false 1 H1 v2) λv3=>
 bP (PCall prog 149 [v3,a1,(.fn (.func 150) [] [])] H1) λv4=>
 bO (Ai v4 0) λv5=>
 bO (Ai v4 1) λv6=>
 K (.tup [v5,v6]) H1
theorem Ys {a0 a1:AV}{H:AH}{K:KT}(h:WD a0 a1 H K):Co 97 [a0,a1] H K:=
 fok A8 HO B6 func97 h
def Yu (a0 a1:AV)(H:AH)(K:KT):Prop:=
 bH (A9 H a0) λv0 H1=>
 bO (Aa 1 v0) λv2=>
 bO (Am false 1 H1 v2) λv3=>
 bP (PCall prog 134 [v3,a1,(.fn (.func 135) [] [])] H1) λv4=>
 bO (Ai v4 0) λv5=>
 bO (Ai v4 1) λv6=>
 K (.tup [v5,v6]) H1
theorem Zh {a0 a1:AV}{H:AH}{K:KT}(h:Yu a0 a1 H K):Co 83 [a0,a1] H K:=
 fok A8 HO B6 func83 h
def Z6 (a0:AV)(H:AH)(K:KT):Prop:=
 bO (Ar .geq a0 (.lit (.int .u8 97))) λv0=>
 bG v0 true λw1=>
 gO w1 (some a0) λv2=>
 bG v0 true λw3=>
 gO w3 (Ar .leq v2 (.lit (.int .u8 122))) λv4=>
 bO (Ay v0 v4 (B false)) λv5=>
 bG v5 false λw6=>
 gO w6 (some a0) λv7=>
 bG v5 false λw8=>
 gO w8 (Ar .geq v7 (.lit (.int .u8 48))) λv9=>
 bG v5 false λw10=>
 gO w10 (some v9) λv11=>
 bG v11 true λw12=>
 gO w12 (some a0) λv13=>
 bG v11 true λw14=>
 gO w14 (Ar .leq v13 (.lit (.int .u8 57))) λv15=>
 bG v5 false λw16=>
 gO w16 (Ay v11 v15 (B false)) λv17=>
 bO (Ay v5 (B true) v17) λv18=>
 bG v18 false λw19=>
 gO w19 (some a0) λv20=>
 bG v18 false λw21=>
 gO w21 (Ar .eql v20 (.lit (.int .u8 46))) λv22=>
 bO (Ay v18 (B true) v22) λv23=>
 bG v23 false λw24=>
 gO w24 (some a0) λv25=>
 bG v23 false λw26=>
 gO w26 (Ar .eql v25 (.lit (.int .u8 95))) λv27=>
 bO (Ay v23 (B true) v27) λv28=>
 bG v28 false λw29=>
 gO w29 (some a0) λv30=>
 bG v28 false λw31=>
 gO w31 (Ar .eql v30 (.lit (.int .u8 45))) λv32=>
 bO (Ay v28 (B true) v32) λv33=>
 K v33 H
theorem bE {a0:AV}{H:AH}{K:KT}(h:Z6 a0 H K):Co 154 [a0] H K:=
 fok A8 HO B6 func154 h
def Q4:Nat→Option (List Bool):=CN [(100004,mk 82 0 [0,3,4,6]),(100005,mk 82 0 [0,3,6]),(5,mk 82 0 [0,3,6])]
def Q6:Nat→Bool:=gU [4,5]
def Jj (p:List Bool)(n:Nat):List AV→AH→Kf→Prop:=AL prog A8 HO uU Q6 Q4 (sub p (AP f145)) n
def L6 (x0 x3 x6:AV)(H:AH)(K:KT):Prop:=unR prog 5 (ZK (sub [tT,tT,tT,tT,tT] (AP f145))) (Cj (mk 82 0 [0,3,6]) [x0,x3,x6]) H (Ba prog f145.results.toList K)
def L5 (x0 x3 x6:AV)(H:AH)(K:KT):Prop:=jn (mk 82 0 [0,3,6]) (Jj [tT,tT,tT,tT,tT] 6) [x0,x3,x6] H (Ba prog f145.results.toList K)
def Iq (x0 x3 x4 x6:AV)(H:AH)(K:KT):Prop:=unR prog 4 (ZK (sub [tT,tT,tT,tT,fF] (AP f145))) (Cj (mk 82 0 [0,3,4,6]) [x0,x3,x4,x6]) H (Bb (DO (mk 82 0 [0,3,6]) (Jj [tT,tT,tT,tT,tT] 6)) (Ba prog f145.results.toList K))
def Oh (x0 x3 x6:AV)(H:AH)(K:KT):Prop:=
 L6 x0 x3 x6 H K
theorem Uj (x0 x3 x6:AV)(H:AH)(K:KT):L5 x0 x3 x6 H K=Oh x0 x3 x6 H K:=(B3 _ _ _ _ _).trans (by kernel_rfl)
def Mb (a0 a1:AV)(H:AH)(K:KT):Prop:=
 bH (A9 H a1) λv0 H1=>
 bO (Ae a0) λv2=>
 bO (Am true 2 H1 v2) λv3=>
 bO (Aa 5 v0) λv4=>
 bO (Am false 1 H1 v4) λv5=>
 bC (BCall prog 97 [v3,v5] H1) λv6 H7=>
 bO (Ai v6 0) λv8=>
 bO (Ai v6 1) λv9=>
 bO (Ae a0) λv10=>
 bO (Am true 2 H7 v10) λv11=>
 bO (Aa 1 v0) λv12=>
 bO (Am false 1 H7 v12) λv13=>
 bC (BCall prog 83 [v11,v13] H7) λv14 H15=>
 bO (Ai v14 0) λv16=>
 bO (Ai v14 1) λv17=>
 bG v9 false λw18=>
 gO w18 (some v17) λv19=>
 bO (Ay v9 (B true) v19) λv20=>
 bG v20 false λw21=>
 gO w21 (Aa 5 v0) λv22=>
 bG v20 false λw23=>
 gO w23 (Am false 1 H15 v22) λv24=>
 bG v20 false λw25=>
 gP w25 (PCall prog 102 [v24] H15) λv26=>
 bG v20 false λw27=>
 gO w27 (E6 .not v26) λv28=>
 bO (Ay v20 (B true) v28) λv29=>
 bG v29 false λw30=>
 gO w30 (Aa 1 v0) λv31=>
 bG v29 false λw32=>
 gO w32 (Am false 1 H15 v31) λv33=>
 bG v29 false λw34=>
 gO w34 (Ar .lss v33 (I 1)) λv35=>
 bO (Ay v29 (B true) v35) λv36=>
 bG v36 false λw37=>
 gO w37 (Aa 1 v0) λv38=>
 bG v36 false λw39=>
 gO w39 (Am false 1 H15 v38) λv40=>
 bG v36 false λw41=>
 gO w41 (Ar .gtr v40 (I 4611686018427387904)) λv42=>
 bO (Ay v36 (B true) v42) λv43=>
 bG v43 false λw44=>
 gO w44 (some a0) λv45=>
 bG v43 false λw46=>
 gO w46 (Ae v45) λv47=>
 bG v43 false λw48=>
 gO w48 (Aa 0 v47) λv49=>
 bG v43 false λw50=>
 gO w50 (Am false 1 H15 v49) λv51=>
 bG v43 false λw52=>
 gO w52 (AY v51) λv53=>
 bG v43 false λw54=>
 gO w54 (Ar .geq v53 (I 16)) λv55=>
 bO (Ay v43 (B true) v55) λv56=>
 bB v56 λt57=>bI t57 (
 K (.tup []) H15)
 (Iq a0 v0 v8 v16 H15 K)
theorem Xe (a0 a1:AV)(H:AH)(K:KT):Xm prog A8 HO uU Q6 Q4 f145 [a0,a1] H K=Mb a0 a1 H K:=by kernel_rfl
theorem Q5 {a0 a1:AV}{H:AH}{K:KT}(h:Mb a0 a1 H K):ACalls prog 145 [a0,a1] H K:=
 Vz Zk func145 (by kernel_rfl) (Eq.mpr (Xe a0 a1 H K) h)
def Q3:Nat→Option (List Bool):=CN [(11,mk 81 0 [0,4,6,72]),(5,mk 81 0 [0,4,5,6])]
def RX (p:List Bool)(n:Nat):List AV→AH→Kf→Prop:=AL prog A8 HO A1 A1 Q3 (sub p (AP f146)) n
def Pp (x0 x4 x6 x72:AV)(H:AH)(K:KT):Prop:=jn (mk 81 0 [0,4,6,72]) (RX [tT,tT,tT,tT,tT,tT] 12) [x0,x4,x6,x72] H (Ba prog f146.results.toList K)
def Dp (x0 x4 x5 x6:AV)(H:AH)(K:KT):Prop:=jn (mk 81 0 [0,4,5,6]) (RX [tT,tT,tT,tT,tT] 11) [x0,x4,x5,x6] H (Ba prog f146.results.toList K)
def It (x0 x4 x6 x72:AV)(H:AH)(K:KT):Prop:=
 bB x72 λt0=>bI t0 (
 bO (Ae x0) λv1=>
 bO (Aa 1 v1) λv2=>
 bO (Am false 1 H v2) λv3=>
 bO (Am true 2 H x6) λv4=>
 bO (Bq 3 v3 x4) λv5=>
 bO (Aa 1 v5) λv6=>
 bS (AJ 2 H v6 v4) λH7=>
 K (.tup []) H7)
 (K (.tup []) H)
theorem LE (x0 x4 x6 x72:AV)(H:AH)(K:KT):Pp x0 x4 x6 x72 H K=It x0 x4 x6 x72 H K:=(B3 _ _ _ _ _).trans (by kernel_rfl)
def Ji (x0 x4 x5 x6:AV)(H:AH)(K:KT):Prop:=
 Pp x0 x4 x6 x5 H K
theorem M9 (x0 x4 x5 x6:AV)(H:AH)(K:KT):Dp x0 x4 x5 x6 H K=Ji x0 x4 x5 x6 H K:=(B3 _ _ _ _ _).trans (by kernel_rfl)
def Vd (a0 a1:AV)(H:AH)(K:KT):Prop:=
 bH (A9 H a1) λv0 H1=>
 bO (Ae a0) λv2=>
 bO (Am true 2 H1 v2) λv3=>
 bO (Aa 1 v0) λv4=>
 bO (Am false 1 H1 v4) λv5=>
 bC (BCall prog 83 [v3,v5] H1) λv6 H7=>
 bO (Ai v6 0) λv8=>
 bO (Ai v6 1) λv9=>
 bO (E6 .not v9) λv10=>
 bB v10 λt11=>bI t11 (
 K (.tup []) H7)
 (bO (Ae a0) λv12=>
 bO (Aa 1 v12) λv13=>
 bO (Am false 1 H7 v13) λv14=>
 bO (Bq 3 v14 v8) λv15=>
 bO (Aa 1 v15) λv16=>
 bO (Am true 2 H7 v16) λv17=>
 bH (A9 H7 (.agg [(I 0),Ac])) λv18 H19=>
 bS (AJ 2 H19 v18 v17) λH20=>
 bO (Aa 0 v0) λv21=>
 bO (Am false 1 H20 v21) λv22=>
 bO (Ar .eql v22 (I 2)) λv23=>
 bB v23 λt24=>bI t24 (
 bO (Am true 2 H20 v18) λv25=>
 bO (Aa 2 v0) λv26=>
 bO (Am false 1 H20 v26) λv27=>
 bO (Aa 7 v0) λv28=>
 bO (Am false 1 H20 v28) λv29=>
 bP (PCall prog 35 [v25,v27,v29] H20) λv30=>
 bO (Ai v30 0) λv31=>
 bO (Ai v30 1) λv32=>
 bS (AJ 2 H20 v18 v31) λH33=>
 Dp a0 v8 v32 v18 H33 K)
 (bO (Ar .eql v22 (I 3)) λv34=>
 bB v34 λt35=>bI t35 (
 bO (Am true 2 H20 v18) λv36=>
 bO (Aa 3 v0) λv37=>
 bO (Am false 1 H20 v37) λv38=>
 bP (PCall prog 103 [v36,v38] H20) λv39=>
 bO (Ai v39 0) λv40=>
 bO (Ai v39 1) λv41=>
 bS (AJ 2 H20 v18 v40) λH42=>
 Dp a0 v8 v41 v18 H42 K)
 (bO (Ar .eql v22 (I 4)) λv43=>
 bB v43 λt44=>bI t44 (
 bO (Am true 2 H20 v18) λv45=>
 bO (Aa 2 v0) λv46=>
 bO (Am false 1 H20 v46) λv47=>
 bO (Aa 3 v0) λv48=>
 bO (Am false 1 H20 v48) λv49=>
 bO (Aa 4 v0) λv50=>
 bO (Am false 1 H20 v50) λv51=>
 bP (PCall prog 104 [v45,v47,v49,v51] H20) λv52=>
 bO (Ai v52 0) λv53=>
 bO (Ai v52 1) λv54=>
 bS (AJ 2 H20 v18 v53) λH55=>
 Dp a0 v8 v54 v18 H55 K)
 (bO (Ar .eql v22 (I 5)) λv56=>
 bB v56 λt57=>bI t57 (
 bO (Am true 2 H20 v18) λv58=>
 bO (Aa 2 v0) λv59=>
 bO (Am false 1 H20 v59) λv60=>
 bO (Aa 3 v0) λv61=>
 bO (Am false 1 H20 v61) λv62=>
 bP (PCall prog 105 [v58,v60,v62] H20) λv63=>
 bO (Ai v63 0) λv64=>
 bO (Ai v63 1) λv65=>
 bS (AJ 2 H20 v18 v64) λH66=>
 Dp a0 v8 v65 v18 H66 K)
 (Dp a0 v8 v9 v18 H20 K)))))
theorem Xc {a0 a1:AV}{H:AH}{K:KT}(h:Vd a0 a1 H K):Co 146 [a0,a1] H K:=
 fok A8 HO Q3 func146 h
def Vh (a0 a1 a2:AV)(H:AH)(K:KT):Prop:=
 bO (Ae a0) λv0=>
 bO (Am true 2 H v0) λv1=>
 bC (BCall prog 97 [v1,a1] H) λv2 H3=>
 bO (Ai v2 0) λv4=>
 bO (Ai v2 1) λv5=>
 bO (E6 .not v5) λv6=>
 bG v6 false λw7=>
 gO w7 (some a2) λv8=>
 bG v6 false λw9=>
 gP w9 (PCall prog 102 [v8] H3) λv10=>
 bG v6 false λw11=>
 gO w11 (E6 .not v10) λv12=>
 bO (Ay v6 (B true) v12) λv13=>
 bG v13 false λw14=>
 gO w14 (some a1) λv15=>
 bG v13 false λw16=>
 gO w16 (some a2) λv17=>
 bG v13 false λw18=>
 gO w18 (Xq .eql v15 v17) λv19=>
 bO (Ay v13 (B true) v19) λv20=>
 bB v20 λt21=>bI t21 (
 K (.tup []) H3)
 (bO (Ae a0) λv22=>
 bO (Aa 0 v22) λv23=>
 bO (Am false 1 H3 v23) λv24=>
 bO (Bq 2 v24 v4) λv25=>
 bO (Aa 1 v25) λv26=>
 bO (Am false 1 H3 v26) λv27=>
 bO (Ae a0) λv28=>
 bO (Aa 0 v28) λv29=>
 bO (Am false 1 H3 v29) λv30=>
 bO (Ar .add v4 (I 1)) λv31=>
 bC (BCall prog 181 [v30,v4,v31] H3) λv32 H33=>
 bO (Ae a0) λv34=>
 bO (Aa 0 v34) λv35=>
 bS (AJ 1 H33 v35 v32) λH36=>
 bC (BCall prog 148 [a0,a2] H36) λv37 H38=>
 bO (Ae a0) λv39=>
 bO (Am true 2 H38 v39) λv40=>
 bC (BCall prog 97 [v40,a2] H38) λv41 H42=>
 bO (Ai v41 0) λv43=>
 bO (Ai v41 1) λv44=>
 bO (Ae a0) λv45=>
 bO (Aa 0 v45) λv46=>
 bO (Am false 1 H42 v46) λv47=>
 bO (E5 [(.lit (.string ⟨#[]⟩)),(I 0)] [(0,1,a2),(1,1,v27)]) λv48=>
 bH (FC H42 2 1 (BI [(.lit (.string ⟨#[]⟩)),(I 0)] 1) [(0,2,v48)]) λv49 H50=>
 bC (BCall prog 179 [v47,v43,v49] H50) λv51 H52=>
 bO (Ae a0) λv53=>
 bO (Aa 0 v53) λv54=>
 bS (AJ 1 H52 v54 v51) λH55=>
 K (.tup []) H55)
theorem Xh {a0 a1 a2:AV}{H:AH}{K:KT}(h:Vh a0 a1 a2 H K):Co 147 [a0,a1,a2] H K:=
 fok A8 HO B6 func147 h
def Vg (a0 a1:AV)(H:AH)(K:KT):Prop:=
 bO (Ae a0) λv0=>
 bO (Am true 2 H v0) λv1=>
 bC (BCall prog 97 [v1,a1] H) λv2 H3=>
 bO (Ai v2 0) λv4=>
 bO (Ai v2 1) λv5=>
 bO (E6 .not v5) λv6=>
 bB v6 λt7=>bI t7 (
 K (.tup []) H3)
 (bO (Ae a0) λv8=>
 bO (Am true 2 H3 v8) λv9=>
 bO (Ae a0) λv10=>
 bO (Aa 0 v10) λv11=>
 bO (Am false 1 H3 v11) λv12=>
 bO (Bq 2 v12 v4) λv13=>
 bO (Aa 1 v13) λv14=>
 bO (Am false 1 H3 v14) λv15=>
 bC (BCall prog 83 [v9,v15] H3) λv16 H17=>
 bO (Ai v16 0) λv18=>
 bO (Ai v16 1) λv19=>
 bO (Ae a0) λv20=>
 bO (Aa 0 v20) λv21=>
 bO (Am false 1 H17 v21) λv22=>
 bO (Ar .add v4 (I 1)) λv23=>
 bC (BCall prog 181 [v22,v4,v23] H17) λv24 H25=>
 bO (Ae a0) λv26=>
 bO (Aa 0 v26) λv27=>
 bS (AJ 1 H25 v27 v24) λH28=>
 bO (Ae a0) λv29=>
 bO (Aa 1 v29) λv30=>
 bO (Am false 1 H28 v30) λv31=>
 bO (Ar .add v18 (I 1)) λv32=>
 bC (BCall prog 182 [v31,v18,v32] H28) λv33 H34=>
 bO (Ae a0) λv35=>
 bO (Aa 1 v35) λv36=>
 bS (AJ 1 H34 v36 v33) λH37=>
 K (.tup []) H37)
theorem Xg {a0 a1:AV}{H:AH}{K:KT}(h:Vg a0 a1 H K):Co 148 [a0,a1] H K:=
 fok A8 HO B6 func148 h
def HU:Nat→Option (List Bool):=CN [(4,mk 36 0 [1,2,3,4])]
def IG (p:List Bool)(n:Nat):List AV→AH→Kf→Prop:=AL prog A8 HO A1 A1 HU (sub p (AP f127)) n
def HT (x1 x2 x3 x4:AV)(H:AH)(K:KT):Prop:=lp (mk 36 0 [1,2,3,4]) (IG [tT,tT,fF,tT,fF,fF] 5) [x1,x2,x3,x4] H (Be 0 (Bb (IG [tT,tT,tT] 8) (Ba prog f127.results.toList K)))
def GH (R4:RT)(x1 x2 x3 x4:AV)(H:AH)(K:KT):Prop:=
 bO (Aa 1 x1) λv0=>
 bO (Am false 1 H v0) λv1=>
 bO (AY v1) λv2=>
 bO (Ar .lss x4 v2) λv3=>
 bB v3 λt4=>bI t4 (
 bO (Aa 1 x3) λv5=>
 bO (Am false 1 H v5) λv6=>
 bO (Aa 1 x1) λv7=>
 bO (Am false 1 H v7) λv8=>
 bO (Bq 3 v8 x4) λv9=>
 bO (Aa 0 v9) λv10=>
 bO (Am false 1 H v10) λv11=>
 bO (Aa 1 x1) λv12=>
 bO (Am false 1 H v12) λv13=>
 bO (Bq 3 v13 x4) λv14=>
 bO (Aa 1 v14) λv15=>
 bO (Am true 2 H v15) λv16=>
 bP (BPure prog 169 [v16]) λv17=>
 bO (E5 [(I 0),(I 0),Ac] [(0,1,v11),(1,2,v17)]) λv18=>
 bO (U3 3 1 (BI [(I 0),(I 0),Ac] 1) [(0,3,v18)]) λv19=>
 bH (HG 3 40 H v6 v19) λv20 H21=>
 bO (Aa 1 x3) λv22=>
 bS (AJ 1 H21 v22 v20) λH23=>
 bO (Ar .add x4 (I 1)) λv24=>
 R4 [x1,x2,x3,v24] H23)
 (bO (Am true 2 H x3) λv25=>
 bS (AJ 2 H x2 v25) λH26=>
 bO (Am true 2 H26 x2) λv27=>
 K v27 H26)
theorem Lk {K:KT}:dC (λR x1 x2 x3 x4 H=>GH R x1 x2 x3 x4 H K) (λx1 x2 x3 x4 H=>HT x1 x2 x3 x4 H K):=Tb (A2 _ _) (λ_ _ _ _ _ _=>by kernel_rfl)
def JZ (a0:AV)(H:AH)(K:KT):Prop:=
 bH (A9 H a0) λv0 H1=>
 bH (A9 H1 (.agg [Ac,Ac])) λv2 H3=>
 bO (Aa 0 v0) λv4=>
 bO (Am false 1 H3 v4) λv5=>
 bH (HG 2 24 H3 Ac v5) λv6 H7=>
 bO (E5 [Ac,Ac] [(0,1,v6)]) λv8=>
 bH (A9 H7 (.agg [Ac,Ac])) λv9 H10=>
 bS (AJ 2 H10 v9 v8) λH11=>
 HT v0 v2 v9 (I 0) H11 K
theorem OG {a0:AV}{H:AH}{K:KT}(h:JZ a0 H K):Co 127 [a0] H K:=
 fok A8 HO HU func127 h
def Ls:Nat→Option (List Bool):=CN [(3,mk 22 0 [1,2,5])]
def LM (p:List Bool)(n:Nat):List AV→AH→Kf→Prop:=AL prog A8 HO A1 A1 Ls (sub p (AP f111)) n
def Lr (x1 x2 x5:AV)(H:AH)(K:KT):Prop:=lp (mk 22 0 [1,2,5]) (LM [tT,fF,tT,fF,fF] 4) [x1,x2,x5] H (Be 0 (Bb (LM [tT,tT] 9) (Ba prog f111.results.toList K)))
def J4 (R3:RT)(x1 x2 x5:AV)(H:AH)(K:KT):Prop:=
 bO (Aa 0 x2) λv0=>
 bO (Am false 1 H v0) λv1=>
 bO (AY v1) λv2=>
 bO (Ar .lss x5 v2) λv3=>
 bB v3 λt4=>bI t4 (
 bO (Aa 0 x2) λv5=>
 bO (Am false 1 H v5) λv6=>
 bO (Bq 2 v6 x5) λv7=>
 bO (Aa 0 v7) λv8=>
 bO (Am false 1 H v8) λv9=>
 bO (Xq .eql v9 x1) λv10=>
 bB v10 λt11=>bI t11 (
 K x5 H)
 (bO (Ar .add x5 (I 1)) λv12=>
 R3 [x1,x2,v12] H))
 (K (I (-1)) H)
theorem NM {K:KT}:oV (λR x1 x2 x5 H=>J4 R x1 x2 x5 H K) (λx1 x2 x5 H=>Lr x1 x2 x5 H K):=Yw (A2 _ _) (λ_ _ _ _ _=>by kernel_rfl)
def Ov (a0 a1:AV)(H:AH)(K:KT):Prop:=
 bH (A9 H a0) λv0 H1=>
 Lr a1 v0 (I 0) H1 K
theorem Su {a0 a1:AV}{H:AH}{K:KT}(h:Ov a0 a1 H K):Co 111 [a0,a1] H K:=
 fok A8 HO Ls func111 h
def LQ:Nat→Option (List Bool):=CN [(3,mk 22 0 [1,2,5])]
def N1 (p:List Bool)(n:Nat):List AV→AH→Kf→Prop:=AL prog A8 HO A1 A1 LQ (sub p (AP f165)) n
def LP (x1 x2 x5:AV)(H:AH)(K:KT):Prop:=lp (mk 22 0 [1,2,5]) (N1 [tT,fF,tT,fF,fF] 4) [x1,x2,x5] H (Be 0 (Bb (N1 [tT,tT] 9) (Ba prog f165.results.toList K)))
def Ki (R3:RT)(x1 x2 x5:AV)(H:AH)(K:KT):Prop:=
 bO (Aa 1 x2) λv0=>
 bO (Am false 1 H v0) λv1=>
 bO (AY v1) λv2=>
 bO (Ar .lss x5 v2) λv3=>
 bB v3 λt4=>bI t4 (
 bO (Aa 1 x2) λv5=>
 bO (Am false 1 H v5) λv6=>
 bO (Bq 3 v6 x5) λv7=>
 bO (Aa 0 v7) λv8=>
 bO (Am false 1 H v8) λv9=>
 bO (Ar .eql v9 x1) λv10=>
 bB v10 λt11=>bI t11 (
 K x5 H)
 (bO (Ar .add x5 (I 1)) λv12=>
 R3 [x1,x2,v12] H))
 (K (I (-1)) H)
theorem OL {K:KT}:oV (λR x1 x2 x5 H=>Ki R x1 x2 x5 H K) (λx1 x2 x5 H=>LP x1 x2 x5 H K):=Yw (A2 _ _) (λ_ _ _ _ _=>by kernel_rfl)
def PA (a0 a1:AV)(H:AH)(K:KT):Prop:=
 bH (A9 H a0) λv0 H1=>
 LP a1 v0 (I 0) H1 K
theorem To {a0 a1:AV}{H:AH}{K:KT}(h:PA a0 a1 H K):Co 165 [a0,a1] H K:=
 fok A8 HO LQ func165 h
def Ke:Nat→Option (List Bool):=CN [(2,mk 53 0 [0,1,2,6])]
def Lq (p:List Bool)(n:Nat):List AV→AH→Kf→Prop:=AL prog A8 HO A1 A1 Ke (sub p (AP f166)) n
def Kd (x0 x1 x2 x6:AV)(H:AH)(K:KT):Prop:=lp (mk 53 0 [0,1,2,6]) (Lq [tT,fF,fF,fF] 3) [x0,x1,x2,x6] H (Be 0 (Bb (Lq [tT,tT] 5) (Ba prog f166.results.toList K)))
def IR (R2:RT)(x0 x1 x2 x6:AV)(H:AH)(K:KT):Prop:=
 bO (Ae x0) λv0=>
 bO (Aa 0 v0) λv1=>
 bO (Am false 1 H v1) λv2=>
 bO (AY v2) λv3=>
 bO (Ar .lss x6 v3) λv4=>
 bG v4 true λw5=>
 gO w5 (some x0) λv6=>
 bG v4 true λw7=>
 gO w7 (Ae v6) λv8=>
 bG v4 true λw9=>
 gO w9 (Aa 0 v8) λv10=>
 bG v4 true λw11=>
 gO w11 (Am false 1 H v10) λv12=>
 bG v4 true λw13=>
 gO w13 (some x6) λv14=>
 bG v4 true λw15=>
 gO w15 (Bq 2 v12 v14) λv16=>
 bG v4 true λw17=>
 gO w17 (Aa 0 v16) λv18=>
 bG v4 true λw19=>
 gO w19 (Am false 1 H v18) λv20=>
 bG v4 true λw21=>
 gO w21 (some x1) λv22=>
 bG v4 true λw23=>
 gO w23 (Xq .lss v20 v22) λv24=>
 bO (Ay v4 v24 (B false)) λv25=>
 bB v25 λt26=>bI t26 (
 bO (Ar .add x6 (I 1)) λv27=>
 R2 [x0,x1,x2,v27] H)
 (bO (Ae x0) λv28=>
 bO (Aa 0 v28) λv29=>
 bO (Am false 1 H v29) λv30=>
 bO (Bj 2 v30 none (some x6) none) λv31=>
 bH (HG 2 24 H Ac v31) λv32 H33=>
 bO (E5 [(.lit (.string ⟨#[]⟩)),(I 0)] [(0,1,x1),(1,1,x2)]) λv34=>
 bH (FC H33 2 1 (BI [(.lit (.string ⟨#[]⟩)),(I 0)] 1) [(0,2,v34)]) λv35 H36=>
 bH (HG 2 24 H36 v32 v35) λv37 H38=>
 bO (Ae x0) λv39=>
 bO (Aa 0 v39) λv40=>
 bO (Am false 1 H38 v40) λv41=>
 bO (Bj 2 v41 (some x6) none none) λv42=>
 bH (HG 2 24 H38 v37 v42) λv43 H44=>
 bO (Ae x0) λv45=>
 bO (Aa 0 v45) λv46=>
 bS (AJ 1 H44 v46 v43) λH47=>
 K (.tup []) H47)
theorem Nx {K:KT}:dC (λR x0 x1 x2 x6 H=>IR R x0 x1 x2 x6 H K) (λx0 x1 x2 x6 H=>Kd x0 x1 x2 x6 H K):=Tb (A2 _ _) (λ_ _ _ _ _ _=>by kernel_rfl)
def Nw (a0 a1 a2:AV)(H:AH)(K:KT):Prop:=
 Kd a0 a1 a2 (I 0) H K
theorem QU {a0 a1 a2:AV}{H:AH}{K:KT}(h:Nw a0 a1 a2 H K):Co 166 [a0,a1,a2] H K:=
 fok A8 HO Ke func166 h
def Tl:Dh:=VT [(2,[(11,none),(14,none)]),(5,[(11,none),(14,none)])]
def P8 (a0 a1 a2:AV)(H:AH)(K:KT):Prop:=
 bO (Ae a0) λv0=>
 bO (Am true 2 H v0) λv1=>
 bP (PCall prog 111 [v1,a1] H) λv2=>
 bO (Ae a0) λv3=>
 bO (Aa 0 v3) λv4=>
 bO (Am false 1 H v4) λv5=>
 bO (Bq 2 v5 v2) λv6=>
 bO (Aa 1 v6) λv7=>
 bO (Am false 1 H v7) λv8=>
 bO (Ae a0) λv9=>
 bO (Aa 0 v9) λv10=>
 bO (Am false 1 H v10) λv11=>
 bO (Bj 2 v11 none (some v2) none) λv12=>
 bH (HG 2 24 H Ac v12) λv13 H14=>
 bO (Ae a0) λv15=>
 bO (Aa 0 v15) λv16=>
 bO (Am false 1 H14 v16) λv17=>
 bO (Ar .add v2 (I 1)) λv18=>
 bO (Bj 2 v17 (some v18) none none) λv19=>
 bH (HG 2 24 H14 v13 v19) λv20 H21=>
 bO (Ae a0) λv22=>
 bO (Aa 0 v22) λv23=>
 bS (AJ 1 H21 v23 v20) λH24=>
(Am false 1 H v16=some v17)∧
(Bj 2 v17 (some v18) none none=some v19)∧
 bO (Ae a0) λv25=>
 bO (Am true 2 H24 v25) λv26=>
 bP (PCall prog 165 [v26,v8] H24) λv27=>
 bB a2 λt28=>bI t28 (
 bO (Ae a0) λv29=>
 bO (Aa 1 v29) λv30=>
 bO (Am false 1 H24 v30) λv31=>
 bO (Bj 3 v31 none (some v27) none) λv32=>
 bH (HG 3 40 H24 Ac v32) λv33 H34=>
 bO (Ae a0) λv35=>
 bO (Aa 1 v35) λv36=>
 bO (Am false 1 H34 v36) λv37=>
 bO (Ar .add v27 (I 1)) λv38=>
 bO (Bj 3 v37 (some v38) none none) λv39=>
 bH (HG 3 40 H34 v33 v39) λv40 H41=>
 bO (Ae a0) λv42=>
 bO (Aa 1 v42) λv43=>
 bS (AJ 1 H41 v43 v40) λH44=>
(Am false 1 H24 v36=some v37)∧
(Bj 3 v37 (some v38) none none=some v39)∧
 K (.tup []) H44)
 (K (.tup []) H24)
theorem Tm {a0 a1 a2:AV}{H:AH}{K:KT}(h:P8 a0 a1 a2 H K):Co 167 [a0,a1,a2] H K:=
 fok Tl HO B6 func167 h
def CS (a0 a1:AV)(H:AH)(K:KT):Prop:=
 bH (A9 H a0) λv0 H1=>
 bH (A9 H1 a1) λv2 H3=>
 bH (A9 H3 (.agg [(I 0),Ac])) λv4 H5=>
 bO (Aa 0 v2) λv6=>
 bO (Am false 1 H5 v6) λv7=>
 bO (Ar .eql v7 (I 2)) λv8=>
 bB v8 λt9=>bI t9 (
 bO (Am true 2 H5 v0) λv10=>
 bO (Aa 2 v2) λv11=>
 bO (Am false 1 H5 v11) λv12=>
 bO (Aa 7 v2) λv13=>
 bO (Am false 1 H5 v13) λv14=>
 bP (PCall prog 118 [v10,v12,v14] H5) λv15=>
 bO (Ai v15 0) λv16=>
 bO (Ai v15 1) λv17=>
 bS (AJ 2 H5 v4 v16) λH18=>
 bO (Am true 2 H18 v4) λv19=>
 K (.tup [v19,v17]) H18)
 (bO (Ar .eql v7 (I 3)) λv20=>
 bB v20 λt21=>bI t21 (
 bO (Am true 2 H5 v0) λv22=>
 bO (Aa 3 v2) λv23=>
 bO (Am false 1 H5 v23) λv24=>
 bP (PCall prog 124 [v22,v24] H5) λv25=>
 bO (Ai v25 0) λv26=>
 bO (Ai v25 1) λv27=>
 bS (AJ 2 H5 v4 v26) λH28=>
 bO (Am true 2 H28 v4) λv29=>
 K (.tup [v29,v27]) H28)
 (bO (Ar .eql v7 (I 4)) λv30=>
 bB v30 λt31=>bI t31 (
 bO (Am true 2 H5 v0) λv32=>
 bO (Aa 2 v2) λv33=>
 bO (Am false 1 H5 v33) λv34=>
 bO (Aa 3 v2) λv35=>
 bO (Am false 1 H5 v35) λv36=>
 bO (Aa 4 v2) λv37=>
 bO (Am false 1 H5 v37) λv38=>
 bP (PCall prog 125 [v32,v34,v36,v38] H5) λv39=>
 bO (Ai v39 0) λv40=>
 bO (Ai v39 1) λv41=>
 bS (AJ 2 H5 v4 v40) λH42=>
 bO (Am true 2 H42 v4) λv43=>
 K (.tup [v43,v41]) H42)
 (bO (Ar .eql v7 (I 5)) λv44=>
 bB v44 λt45=>bI t45 (
 bO (Am true 2 H5 v0) λv46=>
 bO (Aa 2 v2) λv47=>
 bO (Am false 1 H5 v47) λv48=>
 bO (Aa 3 v2) λv49=>
 bO (Am false 1 H5 v49) λv50=>
 bP (PCall prog 126 [v46,v48,v50] H5) λv51=>
 bO (Ai v51 0) λv52=>
 bO (Ai v51 1) λv53=>
 bS (AJ 2 H5 v4 v52) λH54=>
 bO (Am true 2 H54 v4) λv55=>
 K (.tup [v55,v53]) H54)
 (bO (E5 [(I 0),Ac] []) λv56=>
 bS (AJ 2 H5 v4 v56) λH57=>
 bO (Am true 2 H57 v4) λv58=>
 K (.tup [v58,(B false)]) H57))))
theorem QV {a0 a1:AV}{H:AH}{K:KT}(h:CS a0 a1 H K):Co 168 [a0,a1] H K:=
 fok A8 HO B6 func168 h
def RZ:Nat→Option (List Bool):=CN [(7,mk 58 0 [0,4,11,12,13])]
def TN (p:List Bool)(n:Nat):List AV→AH→Kf→Prop:=AL prog A8 HO A1 A1 RZ (sub p (AP f133)) n
def RY (x0 x4 x11 x12 x13:AV)(H:AH)(K:KT):Prop:=lp (mk 58 0 [0,4,11,12,13]) (TN [tT,tT,tT,fF,tT,fF,fF] 8) [x0,x4,x11,x12,x13] H (Be 0 (Bb (TN [tT,tT,tT,tT] 15) (Ba prog f133.results.toList K)))
def Pq (R7:RT)(x0 x4 x11 x12 x13:AV)(H:AH)(K:KT):Prop:=
 bO (Ar .lss x13 x12) λv0=>
 bB v0 λt1=>bI t1 (
 bO (Bq 2 x11 x13) λv2=>
 bO (Am true 2 H v2) λv3=>
 bH (A9 H (.agg [(.lit (.string ⟨#[]⟩)),(I 0)])) λv4 H5=>
 bS (AJ 2 H5 v4 v3) λH6=>
 bO (Aa 0 v4) λv7=>
 bO (Am false 1 H6 v7) λv8=>
 bP (BPure prog 102 [v8]) λv9=>
 bO (E6 .not v9) λv10=>
 bG v10 false λw11=>
 gO w11 (some x13) λv12=>
 bG v10 false λw13=>
 gO w13 (Ar .gtr v12 (I 0)) λv14=>
 bG v10 false λw15=>
 gO w15 (some v14) λv16=>
 bG v16 true λw17=>
 gO w17 (some x0) λv18=>
 bG v16 true λw19=>
 gO w19 (some x13) λv20=>
 bG v16 true λw21=>
 gO w21 (Ar .sub v20 (I 1)) λv22=>
 bG v16 true λw23=>
 gO w23 (Bq 2 v18 v22) λv24=>
 bG v16 true λw25=>
 gO w25 (Aa 0 v24) λv26=>
 bG v16 true λw27=>
 gO w27 (Am false 1 H6 v26) λv28=>
 bG v16 true λw29=>
 gO w29 (Aa 0 v4) λv30=>
 bG v16 true λw31=>
 gO w31 (Am false 1 H6 v30) λv32=>
 bG v16 true λw33=>
 gO w33 (Xq .geq v28 v32) λv34=>
 bG v10 false λw35=>
 gO w35 (Ay v16 v34 (B false)) λv36=>
 bO (Ay v10 (B true) v36) λv37=>
 bG v37 false λw38=>
 gO w38 (Aa 1 v4) λv39=>
 bG v37 false λw40=>
 gO w40 (Am false 1 H6 v39) λv41=>
 bG v37 false λw42=>
 gO w42 (Ar .lss v41 (I 1)) λv43=>
 bO (Ay v37 (B true) v43) λv44=>
 bG v44 false λw45=>
 gO w45 (Aa 1 v4) λv46=>
 bG v44 false λw47=>
 gO w47 (Am false 1 H6 v46) λv48=>
 bG v44 false λw49=>
 gO w49 (Ar .gtr v48 (I 4611686018427387904)) λv50=>
 bO (Ay v44 (B true) v50) λv51=>
 bG v51 false λw52=>
 gO w52 (some x4) λv53=>
 bG v51 false λw54=>
 gO w54 (Aa 1 v4) λv55=>
 bG v51 false λw56=>
 gO w56 (Am false 1 H6 v55) λv57=>
 bG v51 false λw58=>
 gO w58 (tC (.int .i64) (.bool false) H6 v53 v57 false) λv59=>
 bO (Ay v51 (B true) v59) λv60=>
 bB v60 λt61=>bI t61 (
 K (.tup [(.lit (.map none)),(B false)]) H6)
 (bO (Aa 1 v4) λv62=>
 bO (Am false 1 H6 v62) λv63=>
 bS (yT (.int .i64) H6 x4 v63 (B true)) λH64=>
 bO (Ar .add x13 (I 1)) λv65=>
 R7 [x0,x4,x11,x12,v65] H64))
 (K (.tup [x4,(B true)]) H)
theorem Ta {K:KT}:oW (λR x0 x4 x11 x12 x13 H=>Pq R x0 x4 x11 x12 x13 H K) (λx0 x4 x11 x12 x13 H=>RY x0 x4 x11 x12 x13 H K):=Yx (A2 _ _) (λ_ _ _ _ _ _ _=>by kernel_rfl)
def WE (a0:AV)(H:AH)(K:KT):Prop:=
 bO (AY a0) λv0=>
 bO (Ar .gtr v0 (I 16)) λv1=>
 bB v1 λt2=>bI t2 (
 K (.tup [(.lit (.map none)),(B false)]) H)
 (bH (wR H none) λv3 H4=>
 bO (AY a0) λv5=>
 RY a0 v3 a0 v5 (I 0) H4 K)
theorem Yt {a0:AV}{H:AH}{K:KT}(h:WE a0 H K):Co 133 [a0] H K:=
 fok A8 HO RZ func133 h
def Ez:Nat→Option (List Bool):=CN [(6,mk 26 0 [0,1,12,13])]
def EC (p:List Bool)(n:Nat):List AV→AH→Kf→Prop:=AL prog A8 HO A1 A1 Ez (sub p (AP f98)) n
def Ey (x0 x1 x12 x13:AV)(H:AH)(K:KT):Prop:=lp (mk 26 0 [0,1,12,13]) (EC [tT,tT,fF,tT,fF,fF] 7) [x0,x1,x12,x13] H (Be 0 (Bb (EC [tT,tT,tT] 13) (Ba prog f98.results.toList K)))
def DV (R6:RT)(x0 x1 x12 x13:AV)(H:AH)(K:KT):Prop:=
 bO (Ar .lss x13 x12) λv0=>
 bB v0 λt1=>bI t1 (
 bO (Bq 2 x0 x13) λv2=>
 bO (Am true 2 H v2) λv3=>
 bO (Bq 2 x1 x13) λv4=>
 bO (Am true 2 H v4) λv5=>
 bO (O5 prog .neq 107 v3 v5) λv6=>
 bB v6 λt7=>bI t7 (
 K (B false) H)
 (bO (Ar .add x13 (I 1)) λv8=>
 R6 [x0,x1,x12,v8] H))
 (K (B true) H)
theorem Gy {K:KT}:dC (λR x0 x1 x12 x13 H=>DV R x0 x1 x12 x13 H K) (λx0 x1 x12 x13 H=>Ey x0 x1 x12 x13 H K):=Tb (A2 _ _) (λ_ _ _ _ _ _=>by kernel_rfl)
def Fg (a0 a1:AV)(H:AH)(K:KT):Prop:=
 bO (AY a0) λv0=>
 bO (AY a1) λv1=>
 bO (Ar .neq v0 v1) λv2=>
 bB v2 λt3=>bI t3 (
 K (B false) H)
 (bO (AY a0) λv4=>
 Ey a0 a1 v4 (I 0) H K)
theorem I0 {a0 a1:AV}{H:AH}{K:KT}(h:Fg a0 a1 H K):Co 98 [a0,a1] H K:=
 fok A8 HO Ez func98 h
def BK:Nat→Option (List Bool):=CN [(6,mk 32 0 [1,2,15,16,17])]
def BR (p:List Bool)(n:Nat):List AV→AH→Kf→Prop:=AL prog A8 HO A1 A1 BK (sub p (AP f99)) n
def BJ (x1 x2 x15 x16 x17:AV)(H:AH)(K:KT):Prop:=lp (mk 32 0 [1,2,15,16,17]) (BR [tT,tT,fF,tT,fF,fF] 7) [x1,x2,x15,x16,x17] H (Be 0 (Bb (BR [tT,tT,tT] 14) (Ba prog f99.results.toList K)))
def BA (R6:RT)(x1 x2 x15 x16 x17:AV)(H:AH)(K:KT):Prop:=
 bO (Ar .lss x17 x16) λv0=>
 bB v0 λt1=>bI t1 (
 bO (Bq 3 x15 x17) λv2=>
 bO (Am true 3 H v2) λv3=>
 bH (A9 H (.agg [(I 0),(I 0),Ac])) λv4 H5=>
 bS (AJ 3 H5 v4 v3) λH6=>
 bO (Bq 3 x1 x17) λv7=>
 bO (Am true 3 H6 v7) λv8=>
 bH (A9 H6 (.agg [(I 0),(I 0),Ac])) λv9 H10=>
 bS (AJ 3 H10 v9 v8) λH11=>
 bO (Am true 3 H11 v4) λv12=>
 bO (Am true 3 H11 v9) λv13=>
 bF true x2 λk16 f16 c16=>
 bT (C3 prog k16||!true)<|
 bC (BCall prog k16 (f16++[v12,v13]++c16) H11) λv14 H15=>
 bO (E6 .not v14) λv17=>
 bB v17 λt18=>bI t18 (
 K (B false) H15)
 (bO (Ar .add x17 (I 1)) λv19=>
 R6 [x1,x2,x15,x16,v19] H15))
 (K (B true) H)
theorem Dl {K:KT}:oW (λR x1 x2 x15 x16 x17 H=>BA R x1 x2 x15 x16 x17 H K) (λx1 x2 x15 x16 x17 H=>BJ x1 x2 x15 x16 x17 H K):=Yx (A2 _ _) (λ_ _ _ _ _ _ _=>by kernel_rfl)
def BX (a0 a1 a2:AV)(H:AH)(K:KT):Prop:=
 bO (AY a0) λv0=>
 bO (AY a1) λv1=>
 bO (Ar .neq v0 v1) λv2=>
 bB v2 λt3=>bI t3 (
 K (B false) H)
 (bO (AY a0) λv4=>
 BJ a1 a2 a0 v4 (I 0) H K)
theorem D9 {a0 a1 a2:AV}{H:AH}{K:KT}(h:BX a0 a1 a2 H K):Co 99 [a0,a1,a2] H K:=
 fok A8 HO BK func99 h
def Vb (a0 a1:AV)(H:AH)(K:KT):Prop:=
 bH (A9 H a0) λv0 H1=>
 bH (A9 H1 a1) λv2 H3=>
 bO (Aa 0 v0) λv4=>
 bO (Am false 1 H3 v4) λv5=>
 bO (Aa 0 v2) λv6=>
 bO (Am false 1 H3 v6) λv7=>
 bO (Ar .eql v5 v7) λv8=>
 bG v8 true λw9=>
 gO w9 (Aa 1 v0) λv10=>
 bG v8 true λw11=>
 gO w11 (Am true 2 H3 v10) λv12=>
 bG v8 true λw13=>
 gO w13 (Aa 1 v2) λv14=>
 bG v8 true λw15=>
 gO w15 (Am true 2 H3 v14) λv16=>
 bG v8 true λw17=>
 gP w17 (PCall prog 36 [v12,v16] H3) λv18=>
 bO (Ay v8 v18 (B false)) λv19=>
 K v19 H3
theorem Xb {a0 a1:AV}{H:AH}{K:KT}(h:Vb a0 a1 H K):Co 100 [a0,a1] H K:=
 fok A8 HO B6 func100 h
def Fd (a0:AV)(H:AH)(K:KT):Prop:=
 bO (YO .eql Tc a0 Ac) λv0=>
 bB v0 λt1=>bI t1 (
 K Ac H)
 (bH (FC H 2 0 (BI [(.lit (.string ⟨#[]⟩)),(I 0)] 0) []) λv2 H3=>
 bH (HG 2 24 H3 v2 a0) λv4 H5=>
 K v4 H5)
theorem Iy {a0:AV}{H:AH}{K:KT}(h:Fd a0 H K):Co 115 [a0] H K:=
 fok A8 HO B6 func115 h
def Fe (a0:AV)(H:AH)(K:KT):Prop:=
 bO (YO .eql Tc a0 Ac) λv0=>
 bB v0 λt1=>bI t1 (
 K Ac H)
 (bH (FC H 3 0 (BI [(I 0),(I 0),Ac] 0) []) λv2 H3=>
 bH (HG 3 40 H3 v2 a0) λv4 H5=>
 K v4 H5)
theorem Iz {a0:AV}{H:AH}{K:KT}(h:Fe a0 H K):Co 116 [a0] H K:=
 fok A8 HO B6 func116 h
def Ci:Nat→Option (List Bool):=CN [(4,mk 49 0 [0,1,2,8,9,10])]
def Ck (p:List Bool)(n:Nat):List AV→AH→Kf→Prop:=AL prog A8 HO A1 A1 Ci (sub p (AP f149)) n
def Ch (x0 x1 x2 x8 x9 x10:AV)(H:AH)(K:KT):Prop:=lp (mk 49 0 [0,1,2,8,9,10]) (Ck [tT,tT,tT,fF,fF,fF] 5) [x0,x1,x2,x8,x9,x10] H (Be 0 (Bb (Ck [tT,tT,tT,tT] 9) (Ba prog f149.results.toList K)))
def BW (R4:RT)(x0 x1 x2 x8 x9 x10:AV)(H:AH)(K:KT):Prop:=
 bO (Ar .lss x9 x10) λv0=>
 bB v0 λt1=>bI t1 (
 bO (Ar .add x9 x10) λv2=>
 bO (oY .u64 v2) λv3=>
 bO (Ar .shr v3 (.lit (.int .u64 1))) λv4=>
 bO (oY .i64 v4) λv5=>
 bO (Bq 2 x0 v5) λv6=>
 bO (Am true 2 H v6) λv7=>
 bF true x2 λk10 f10 c10=>
 bT (C3 prog k10||!true)<|
 bC (BCall prog k10 (f10++[v7,x1]++c10) H) λv8 H9=>
 bO (Ar .lss v8 (I 0)) λv11=>
 bB v11 λt12=>bI t12 (
 bO (Ar .add v5 (I 1)) λv13=>
 R4 [x0,x1,x2,x8,v13,x10] H9)
 (R4 [x0,x1,x2,x8,x9,v5] H9))
 (bO (Ar .lss x9 x8) λv14=>
 bG v14 true λw15=>
 gO w15 (some x2) λv16=>
 bG v14 true λw17=>
 gO w17 (some x0) λv18=>
 bG v14 true λw19=>
 gO w19 (some x9) λv20=>
 bG v14 true λw21=>
 gO w21 (Bq 2 v18 v20) λv22=>
 bG v14 true λw23=>
 gO w23 (Am true 2 H v22) λv24=>
 bG v14 true λw25=>
 gO w25 (some x1) λv26=>
 bG v14 true λw27=>
 bF w27 v16 λk30 f30 c30=>
 bT (C3 prog k30||!w27)<|
 gC w27 (BCall prog k30 (f30++[v24,v26]++c30) H) H λv28 H29=>
 bG v14 true λw31=>
 gO w31 (Ar .eql v28 (I 0)) λv32=>
 bO (Ay v14 v32 (B false)) λv33=>
 K (.tup [x9,v33]) H29)
theorem D8 {K:KT}:oX (λR x0 x1 x2 x8 x9 x10 H=>BW R x0 x1 x2 x8 x9 x10 H K) (λx0 x1 x2 x8 x9 x10 H=>Ch x0 x1 x2 x8 x9 x10 H K):=bM (A2 _ _) (λ_ _ _ _ _ _ _ _=>by kernel_rfl)
def Cz (a0 a1 a2:AV)(H:AH)(K:KT):Prop:=
 bO (AY a0) λv0=>
 Ch a0 a1 a2 v0 (I 0) v0 H K
theorem Eg {a0 a1 a2:AV}{H:AH}{K:KT}(h:Cz a0 a1 a2 H K):Co 149 [a0,a1,a2] H K:=
 fok A8 HO Ci func149 h
def TM (a0 a1:AV)(H:AH)(K:KT):Prop:=
 bH (A9 H a0) λv0 H1=>
 bO (Aa 0 v0) λv2=>
 bO (Am false 1 H1 v2) λv3=>
 bP (PCall prog 151 [v3,a1] H1) λv4=>
 K v4 H1
theorem Wa {a0 a1:AV}{H:AH}{K:KT}(h:TM a0 a1 H K):Co 150 [a0,a1] H K:=
 fok A8 HO B6 func150 h
def QD (a0 a1:AV)(H:AH)(K:KT):Prop:=
 bP (PCall prog 183 [a0,a1] H) λv0=>
 K v0 H
theorem Uz {a0 a1:AV}{H:AH}{K:KT}(h:QD a0 a1 H K):Co 151 [a0,a1] H K:=
 fok A8 HO B6 func151 h
def C1:Nat→Option (List Bool):=CN [(4,mk 49 0 [0,1,2,8,9,10])]
def C8 (p:List Bool)(n:Nat):List AV→AH→Kf→Prop:=AL prog A8 HO A1 A1 C1 (sub p (AP f134)) n
def C0 (x0 x1 x2 x8 x9 x10:AV)(H:AH)(K:KT):Prop:=lp (mk 49 0 [0,1,2,8,9,10]) (C8 [tT,tT,tT,fF,fF,fF] 5) [x0,x1,x2,x8,x9,x10] H (Be 0 (Bb (C8 [tT,tT,tT,tT] 9) (Ba prog f134.results.toList K)))
def Cl (R4:RT)(x0 x1 x2 x8 x9 x10:AV)(H:AH)(K:KT):Prop:=
 bO (Ar .lss x9 x10) λv0=>
 bB v0 λt1=>bI t1 (
 bO (Ar .add x9 x10) λv2=>
 bO (oY .u64 v2) λv3=>
 bO (Ar .shr v3 (.lit (.int .u64 1))) λv4=>
 bO (oY .i64 v4) λv5=>
 bO (Bq 3 x0 v5) λv6=>
 bO (Am true 3 H v6) λv7=>
 bF true x2 λk10 f10 c10=>
 bT (C3 prog k10||!true)<|
 bC (BCall prog k10 (f10++[v7,x1]++c10) H) λv8 H9=>
 bO (Ar .lss v8 (I 0)) λv11=>
 bB v11 λt12=>bI t12 (
 bO (Ar .add v5 (I 1)) λv13=>
 R4 [x0,x1,x2,x8,v13,x10] H9)
 (R4 [x0,x1,x2,x8,x9,v5] H9))
 (bO (Ar .lss x9 x8) λv14=>
 bG v14 true λw15=>
 gO w15 (some x2) λv16=>
 bG v14 true λw17=>
 gO w17 (some x0) λv18=>
 bG v14 true λw19=>
 gO w19 (some x9) λv20=>
 bG v14 true λw21=>
 gO w21 (Bq 3 v18 v20) λv22=>
 bG v14 true λw23=>
 gO w23 (Am true 3 H v22) λv24=>
 bG v14 true λw25=>
 gO w25 (some x1) λv26=>
 bG v14 true λw27=>
 bF w27 v16 λk30 f30 c30=>
 bT (C3 prog k30||!w27)<|
 gC w27 (BCall prog k30 (f30++[v24,v26]++c30) H) H λv28 H29=>
 bG v14 true λw31=>
 gO w31 (Ar .eql v28 (I 0)) λv32=>
 bO (Ay v14 v32 (B false)) λv33=>
 K (.tup [x9,v33]) H29)
theorem DR {K:KT}:oX (λR x0 x1 x2 x8 x9 x10 H=>Cl R x0 x1 x2 x8 x9 x10 H K) (λx0 x1 x2 x8 x9 x10 H=>C0 x0 x1 x2 x8 x9 x10 H K):=bM (A2 _ _) (λ_ _ _ _ _ _ _ _=>by kernel_rfl)
def CM (a0 a1 a2:AV)(H:AH)(K:KT):Prop:=
 bO (AY a0) λv0=>
 C0 a0 a1 a2 v0 (I 0) v0 H K
theorem E7 {a0 a1 a2:AV}{H:AH}{K:KT}(h:CM a0 a1 a2 H K):Co 134 [a0,a1,a2] H K:=
 fok A8 HO C1 func134 h
def Vf (a0 a1:AV)(H:AH)(K:KT):Prop:=
 bH (A9 H a0) λv0 H1=>
 bO (Aa 0 v0) λv2=>
 bO (Am false 1 H1 v2) λv3=>
 bP (PCall prog 136 [v3,a1] H1) λv4=>
 K v4 H1
theorem Xf {a0 a1:AV}{H:AH}{K:KT}(h:Vf a0 a1 H K):Co 135 [a0,a1] H K:=
 fok A8 HO B6 func135 h
def Ik:Nat→Bool:=gU []
def ES (a0 a1 a2:AV)(H:AH)(K:KT):Prop:=
 bO (Bj 2 a0 (some a1) none none) λv0=>
 bO (AY a2) λv1=>
 bO (Ar .eql v1 (I 0)) λv2=>
 bB v2 λt3=>bI t3 (
 K a0 H)
 (bO (AY a0) λv4=>
 bO (Ar .eql a1 v4) λv5=>
 bB v5 λt6=>bI t6 (
 bH (HG 2 24 H a0 a2) λv7 H8=>
 K v7 H8)
 (bO (Ar .add v4 v1) λv9=>
 bO (YP a0) λv10=>
 bO (Ar .gtr v9 v10) λv11=>
 bB v11 λt12=>bI t12 (
 bO (Bj 2 a0 none (some a1) none) λv13=>
 bO (Ar .add v4 v1) λv14=>
 bO (Ar .sub v14 a1) λv15=>
 bH (O4 H 2 24 [(.lit (.string ⟨#[]⟩)),(I 0)] v13 v15) λv16 H17=>
 bO (Bj 2 v16 (some a1) none none) λv18=>
 bH (SR 2 H17 v18 a2) λv19 H20=>
 bO (Ar .add a1 v1) λv21=>
 bO (Bj 2 v16 (some v21) none none) λv22=>
 bO (Bj 2 a0 (some a1) none none) λv23=>
 bH (SR 2 H20 v22 v23) λv24 H25=>
 K v16 H25)
 (bO (Ar .add v4 v1) λv26=>
 bO (Bj 2 a0 none (some v26) none) λv27=>
 bO (Ar .add a1 v1) λv28=>
 bO (Bj 2 v27 (some v28) none none) λv29=>
 bP (ExtR prog 192 [a2,v29] H) λv30=>
 bO (E6 .not v30) λv31=>
 bB v31 λt32=>bI t32 (
 bO (Ar .add a1 v1) λv33=>
 bO (Bj 2 v27 (some v33) none none) λv34=>
 bO (Bj 2 v27 (some a1) none none) λv35=>
 bH (SR 2 H v34 v35) λv36 H37=>
 bO (Bj 2 v27 (some a1) none none) λv38=>
 bH (SR 2 H37 v38 a2) λv39 H40=>
 K v27 H40)
 (bO (Bj 2 v27 (some v4) none none) λv41=>
 bH (SR 2 H v41 a2) λv42 H43=>
 bO (Bj 2 v27 (some a1) none none) λv44=>
 bC (BCall prog 193 [v44,v1] H43) λv45 H46=>
 K v27 H46))))
theorem Ii (a0 a1 a2:AV)(H:AH)(K:KT):Xm prog A8 HO uU Ik B6 f179 [a0,a1,a2] H K=ES a0 a1 a2 H K:=by kernel_rfl
theorem Ij {a0 a1 a2:AV}{H:AH}{K:KT}(h:ES a0 a1 a2 H K):ACalls prog 179 [a0,a1,a2] H K:=
 Vz Zk func179 (by kernel_rfl) (Eq.mpr (Ii a0 a1 a2 H K) h)
def In:Nat→Bool:=gU []
def ET (a0 a1 a2:AV)(H:AH)(K:KT):Prop:=
 bO (Bj 3 a0 (some a1) none none) λv0=>
 bO (AY a2) λv1=>
 bO (Ar .eql v1 (I 0)) λv2=>
 bB v2 λt3=>bI t3 (
 K a0 H)
 (bO (AY a0) λv4=>
 bO (Ar .eql a1 v4) λv5=>
 bB v5 λt6=>bI t6 (
 bH (HG 3 40 H a0 a2) λv7 H8=>
 K v7 H8)
 (bO (Ar .add v4 v1) λv9=>
 bO (YP a0) λv10=>
 bO (Ar .gtr v9 v10) λv11=>
 bB v11 λt12=>bI t12 (
 bO (Bj 3 a0 none (some a1) none) λv13=>
 bO (Ar .add v4 v1) λv14=>
 bO (Ar .sub v14 a1) λv15=>
 bH (O4 H 3 40 [(I 0),(I 0),Ac] v13 v15) λv16 H17=>
 bO (Bj 3 v16 (some a1) none none) λv18=>
 bH (SR 3 H17 v18 a2) λv19 H20=>
 bO (Ar .add a1 v1) λv21=>
 bO (Bj 3 v16 (some v21) none none) λv22=>
 bO (Bj 3 a0 (some a1) none none) λv23=>
 bH (SR 3 H20 v22 v23) λv24 H25=>
 K v16 H25)
 (bO (Ar .add v4 v1) λv26=>
 bO (Bj 3 a0 none (some v26) none) λv27=>
 bO (Ar .add a1 v1) λv28=>
 bO (Bj 3 v27 (some v28) none none) λv29=>
 bP (ExtR prog 194 [a2,v29] H) λv30=>
 bO (E6 .not v30) λv31=>
 bB v31 λt32=>bI t32 (
 bO (Ar .add a1 v1) λv33=>
 bO (Bj 3 v27 (some v33) none none) λv34=>
 bO (Bj 3 v27 (some a1) none none) λv35=>
 bH (SR 3 H v34 v35) λv36 H37=>
 bO (Bj 3 v27 (some a1) none none) λv38=>
 bH (SR 3 H37 v38 a2) λv39 H40=>
 K v27 H40)
 (bO (Bj 3 v27 (some v4) none none) λv41=>
 bH (SR 3 H v41 a2) λv42 H43=>
 bO (Bj 3 v27 (some a1) none none) λv44=>
 bC (BCall prog 195 [v44,v1] H43) λv45 H46=>
 K v27 H46))))
theorem Il (a0 a1 a2:AV)(H:AH)(K:KT):Xm prog A8 HO uU In B6 f180 [a0,a1,a2] H K=ET a0 a1 a2 H K:=by kernel_rfl
theorem Im {a0 a1 a2:AV}{H:AH}{K:KT}(h:ET a0 a1 a2 H K):ACalls prog 180 [a0,a1,a2] H K:=
 Vz Zk func180 (by kernel_rfl) (Eq.mpr (Il a0 a1 a2 H K) h)
def EO (a0 a1 a2:AV)(H:AH)(K:KT):Prop:=
 bO (AY a0) λv0=>
 bO (Bj 2 a0 (some a1) (some a2) (some v0)) λv1=>
 bO (Ar .eql a1 a2) λv2=>
 bB v2 λt3=>bI t3 (
 K a0 H)
 (bO (AY a0) λv4=>
 bO (Bj 2 a0 none (some a1) none) λv5=>
 bO (Bj 2 a0 (some a2) none none) λv6=>
 bH (HG 2 24 H v5 v6) λv7 H8=>
 bO (AY v7) λv9=>
 bO (Bj 2 v7 (some v9) (some v4) none) λv10=>
 bS (tB [(.lit (.string ⟨#[]⟩)),(I 0)] H8 v10) λH11=>
 K v7 H11)
theorem Ie {a0 a1 a2:AV}{H:AH}{K:KT}(h:EO a0 a1 a2 H K):Co 181 [a0,a1,a2] H K:=
 fok A8 HO B6 func181 h
def EP (a0 a1 a2:AV)(H:AH)(K:KT):Prop:=
 bO (AY a0) λv0=>
 bO (Bj 3 a0 (some a1) (some a2) (some v0)) λv1=>
 bO (Ar .eql a1 a2) λv2=>
 bB v2 λt3=>bI t3 (
 K a0 H)
 (bO (AY a0) λv4=>
 bO (Bj 3 a0 none (some a1) none) λv5=>
 bO (Bj 3 a0 (some a2) none none) λv6=>
 bH (HG 3 40 H v5 v6) λv7 H8=>
 bO (AY v7) λv9=>
 bO (Bj 3 v7 (some v9) (some v4) none) λv10=>
 bS (tB [(I 0),(I 0),Ac] H8 v10) λH11=>
 K v7 H11)
theorem If {a0 a1 a2:AV}{H:AH}{K:KT}(h:EP a0 a1 a2 H K):Co 182 [a0,a1,a2] H K:=
 fok A8 HO B6 func182 h
end Go.Proofs.YtadghlcfbajamaaGreat.Av
end
section
namespace Go.Proofs.YtadghlcfbajamaaGreat.Av
open Go Go.RowKit Go.Proofs.Tryz
structure Nm where
 name:List UInt8
 ino:Int
 deriving DecidableEq
def BL (x:Nm):List AV:=[S (B0 x.name),I x.ino]
theorem BF (x:Nm):(BL x).length=2:=rfl
theorem Sh (x:Nm):Az (BL x)=true:=rfl
structure Nd where
 ino:Int
 size:Int
 l:List Ext
 deriving DecidableEq
structure NdV where
 nd:Nd
 R:AV
 h:SV A6 9 nd.l R
abbrev NdV.ino (x:NdV):Int:=x.nd.ino
def BB (x:NdV):List AV:=[I x.nd.ino,I x.nd.size,x.R]
theorem B4 (x:NdV):(BB x).length=3:=rfl
theorem KM (x:NdV):Az (BB x)=true:=by simp[BB,Az,noIds,x.h.1]
theorem TX (x:Nm)(t:List AV):(BL x++t)[0]?=some (S (B0 x.name)):=rfl
theorem XN (x:Nm)(t:List AV):(BL x++t)[1]?=some (I x.ino):=rfl
theorem iO (x:NdV)(t:List AV):(BB x++t)[0]?=some (I x.nd.ino):=rfl
theorem xJ (x:NdV)(t:List AV):(BB x++t)[2]?=some x.R:=rfl
theorem koI:KO B8 where
 eq a b:=by unfold B8;split<;>(try split)<;>omega
 anti a b:=by unfold B8;split<;>(try split)<;>(try split)<;>omega
 trans a b d:=by unfold B8;intro h1 h2;split at h1<;>split at h2<;>(try split at h1)<;>(try split at h2)<;>split<;>omega
theorem NT {a b:Int}:B8 a b<0↔a<b:=by unfold B8;split<;>(try split)<;>omega
theorem SV.oneA {α:Type}{enc:α→List AV}{sz:Nat}{l:List α}{v:AV}(h:SV enc sz l v):oneA v=true:=by
 have h2:=h.2 [];unfold Ad at h2;split at h2
 all_goals first | rfl | cases h2
def Qb (y:UInt8):Prop:=(97≤(y.toNat:Int)∧(y.toNat:Int)≤122)∨(48≤(y.toNat:Int)∧(y.toNat:Int)≤57)∨(y.toNat:Int)=46∨(y.toNat:Int)=95∨(y.toNat:Int)=45
instance (y:UInt8):Decidable (Qb y):=by unfold Qb;infer_instance
def DK (s:List UInt8):Prop:=s≠[]∧s.length≤20∧s[0]?≠some 45∧∀b∈s,Qb b
instance (s:List UInt8):Decidable (DK s):=by unfold DK;infer_instance
theorem zdemZ (y:UInt8):BPure prog 154 [.lit (.int .u8 y.toNat)] (B (decide (Qb y))):=BPure.flat λH=>bE (by
 unfold Z6;unfold Qb
 by_cases c1:(97:Int)≤y.toNat
 ·by_cases c2:(y.toNat:Int)≤122
  ·simp[c1,c2]
  ·have e1:¬(y.toNat:Int)≤57:=by omega
   have e2:¬(y.toNat:Int)=46:=by omega
   have e3:¬(y.toNat:Int)=95:=by omega
   have e4:¬(y.toNat:Int)=45:=by omega
   simp[c1,c2,e1,e2,e3,e4,show(48:Int)≤y.toNat by omega]
 ·by_cases c2:(48:Int)≤y.toNat
  ·by_cases c3:(y.toNat:Int)≤57
   ·simp[c1,c2,c3]
   ·by_cases c4:(y.toNat:Int)=95
    ·simp[c4]
    ·have e2:¬(y.toNat:Int)=46:=by omega
     have e4:¬(y.toNat:Int)=45:=by omega
     simp[c1,c2,c3,c4,e2,e4]
  ·by_cases c4:(y.toNat:Int)=46
   ·simp[c4]
   ·by_cases c5:(y.toNat:Int)=95
    ·simp[c5]
    ·by_cases c6:(y.toNat:Int)=45
     ·simp[c6]
     ·simp[c1,c2,c4,c5,c6])
theorem zdglZ {y:UInt8}{k:UInt8}{n:Int}(h:(k.toNat:Int)=n):((y.toNat:Int)=n)=(y=k):=by
 refine propext ⟨λe=>UInt8.toNat_inj.1 (by omega),λe=>by rw[e];exact h⟩
theorem OU {s:List UInt8}(hs:s.length≤9223372036854775807):BPure prog 102 [S (B0 s)] (B (decide (DK s))):=BPure.flat λH=>VZ (by
 unfold TJ;rw[XE,PV,Zw hs]
 have hl:∀t:List UInt8,t=s→0<t.length→t.length≤20→t[0]?≠some 45→Kr (S (B0 t)) (I t.length) (I 0) H λr H'=>r=B (decide (DK t))∧H'=H:=by
  intro t _ h0 h20 h45;refine QH (λn x0 x17 x18 H'=>∃k:Nat,k+n=t.length∧x0=S (B0 t)∧x17=I t.length∧x18=I k∧H'=H∧∀m y,m<k→t[m]?=some y→Qb y) ?_ t.length ⟨0,by omega,rfl,rfl,rfl,rfl,by omega⟩;rintro n x0 x17 x18 H' R hR ⟨k,hk,rfl,rfl,rfl,rfl,hb⟩;unfold M8;rcases Ah2 k t.length with h | h
  ·have hx:=DJ h
   generalize t[k]=y at hx;simp[h,VE rfl hx];refine As (zdemZ y) ?_
   by_cases hy:Qb y
   ·simp[hy,Ax (a:=k) (b:=1) (by omega) (by omega)]
    refine hR (n - 1) _ _ _ _ (by omega) ⟨k+1,by omega,rfl,rfl,by simp,rfl,?_⟩;intro m z hm hz
    by_cases c:m=k
    ·rw[c,hx]at hz;injection hz with hz;rw[← hz];exact hy
    ·exact hb m z (by omega) hz
   ·have:¬DK t:=λhm=>hy (hm.2.2.2 y (Ag9 hx))
    simp[hy,this]
  ·have:DK t:=⟨λe=>by rw[e]at h0;simp at h0,h20,h45,λb hb'=>by
    obtain⟨m,hm⟩:=Ai1.1 hb'
    have:=(B5.1 hm).1
    exact hb m b (by omega) hm⟩
   simp[show ¬k<t.length by omega,this]
 by_cases h0:s=[]
 ·subst h0
  simp[DK]
 ·have hlen:0<s.length:=List.length_pos_iff.2 h0
  by_cases h1:s.length≤20
  ·have hx:=DJ hlen
   have e20:¬(20:Int)<s.length:=by omega
   generalize s[0]=y at hx;simp[h0,Mp,e20,VE (k:=0) (i:=0) rfl hx];have e45:((y.toNat:Int)=45)=(y=45):=zdglZ rfl
   by_cases h2:(y.toNat:Int)=45
   ·have:¬DK s:=λhm=>hm.2.2.1 (by rw[hx,e45.mp h2])
    simp[h2,this]
   ·simp[h2]
    exact hl s rfl hlen h1 (by rw[hx];intro e;injection e with e;exact h2 (e45.mpr e))
  ·have e20:(20:Int)<s.length:=by omega
   have:¬DK s:=λhm=>h1 hm.2.1
   simp[h0,Mp,e20,this])
theorem mJ (a b:List UInt8):BPure prog 151 [S (B0 a),S (B0 b)] (I (Bd a b)):=BPure.flat λH=>Uz (by
 unfold QD;exact As (λH=>by have:=compareString_calls (B0 a) (B0 b) H;exact this) ⟨rfl,rfl⟩)
theorem fB (x:Nm)(s:List UInt8):BPure prog 150 [.agg (BL x),S (B0 s)] (I (Bd x.name s)):=BPure.val (by simp[Az,noIds,Sh]) rfl (Wa (by
 unfold TM;unfold BL;simp;refine As (mJ x.name s) ?_
 rfl))
theorem lI (x:NdV)(no:Int):BPure prog 135 [.agg (BB x),I no] (I (B8 x.nd.ino no)):=BPure.val (by simp[Az,noIds,KM]) rfl (Xf (by
 unfold Vf;unfold BB;have h1:=SV.oneA x.h;simp[h1];refine As (T0 x.nd.ino no) ?_
 rfl))
theorem fW (x:Nm)(t:List AV):Aq true 2 (BL x++t) 0=some (.agg (BL x)):=by
 simp[Aq,BL]
theorem fV (x:NdV)(t:List AV):Aq true 3 (BB x++t) 0=some (.agg (BB x)):=by
 simp[Aq,BB]
theorem vS:C3 prog 150=true:=by kernel_rfl
theorem yN {l:List Nm}{v:AV}(hv:SV BL 2 l v)(hs:Cn Bd Nm.name l)(hl:l.length≤281474976710656)(no:List UInt8):
  BPure prog 149 [v,S (B0 no),.fn (.func 150) [] []] (.tup [I (CX Bd Nm.name l no),B (decide (AT Nm.name l no))]):=BPure.val (by simp[Az,noIds,hv.1]) rfl (Eg (by
 unfold Cz;simp[hv.len];refine D8 (λn x0 x1 x2 x8 x9 x10 H'=>∃i j:Nat,i+n=j∧j≤l.length∧x0=v∧x1=S (B0 no)∧x2=.fn (.func 150) [] []∧x8=I l.length∧x9=I i∧x10=I j∧H'=[]∧(∀m x,m<i→l[m]?=some x→Bd (Nm.name x) no<0)∧(∀m x,j≤m→l[m]?=some x→¬Bd (Nm.name x) no<0)) ?_ l.length ⟨0,l.length,by simp,by omega,rfl,rfl,rfl,rfl,rfl,rfl,rfl,by simp,λm x hm hx=>by have:=(B5.1 hx).1;omega⟩;rintro n x0 x1 x2 x8 x9 x10 H' R hR ⟨i,j,hij,hj,rfl,rfl,rfl,rfl,rfl,rfl,rfl,h1,h2⟩;unfold BW;rcases Ah2 i j with hlt | hge
 ·have hx:=DJ (l:=l) (i:=(i+j)/2) (by omega)
  generalize l[(i + j) / 2]'(by omega)=y at hx;simp [hlt,Ax (a:=i) (b:=j) (by omega) (by omega),aF (n:=(i : Int) + j) (by omega) (by omega),X4,aE (a:=((i : Int) + j) / 2) (by omega) (by omega),hv.idx BF hx (i:=((i : Int) + j) / 2) (by omega),vS,fW];refine bC_of (fB y no []) ?_
  by_cases c1:Bd (Nm.name y) no<0
  ·simp[c1,Ax (a:=((i:Int)+j)/2) (b:=1) (by omega) (by omega)]
   refine hR (j - ((i+j)/2+1)) _ _ _ _ _ _ _ (by omega) ⟨(i+j)/2+1,j,by omega,hj,rfl,rfl,rfl,rfl,by simp,rfl,rfl,?_,h2⟩;intro m x hm hmx
   by_cases hm2:m=(i+j)/2
   ·rw[hm2,hx]at hmx;injection hmx with e;rw[← e];exact c1
   ·exact koN.trans _ _ _ (Lu hs hmx hx (by omega)) c1
  ·simp[c1]
   refine hR ((i+j)/2 - i) _ _ _ _ _ _ _ (by omega) ⟨i,(i+j)/2,by omega,by omega,rfl,rfl,rfl,rfl,rfl,by simp,rfl,h1,?_⟩;intro m x hm hmx
   by_cases hm2:m=(i+j)/2
   ·rw[hm2,hx]at hmx;injection hmx with e;rw[← e];exact c1
   ·intro c2
    exact c1 (koN.trans _ _ _ (Lu hs hx hmx (by omega)) c2)
 ·have hi:i=j:=by omega
  subst hi;have hp:CX Bd Nm.name l no=i:=Ol (by omega) h1 (λx hx=>h2 i x (by omega) hx);rcases Ah2 i l.length with hil | hil
  ·have hx:=DJ (l:=l) (i:=i) hil
   generalize l[i]=y at hx
   have hh:AT Nm.name l no↔Bd (Nm.name y) no=0:=by
    rw[M7 koN hs,hp,koN.eq]
    constructor
    ·rintro⟨z,hz,e⟩
     rw[hx]at hz;injection hz with hz;rw[hz,e]
    ·intro e
     exact⟨y,hx,e⟩
   simp[hil,hv.idx BF hx rfl,vS,fW];refine bC_of (fB y no []) ?_;simp[hp,hh]
  ·have hn:¬AT Nm.name l no:=by
    rw[M7 koN hs,hp];rintro⟨z,hz,e⟩
    have:=(B5.1 hz).1
    omega
   simp[show ¬i<l.length by omega,hp,hn]))
theorem vR:C3 prog 135=true:=by kernel_rfl
theorem yM {l:List NdV}{v:AV}(hv:SV BB 3 l v)(hs:Cn B8 NdV.ino l)(hl:l.length≤281474976710656)(no:Int):
  BPure prog 134 [v,I no,.fn (.func 135) [] []] (.tup [I (CX B8 NdV.ino l no),B (decide (AT NdV.ino l no))]):=BPure.val (by simp[Az,noIds,hv.1]) rfl (E7 (by
 unfold CM;simp[hv.len];refine DR (λn x0 x1 x2 x8 x9 x10 H'=>∃i j:Nat,i+n=j∧j≤l.length∧x0=v∧x1=I no∧x2=.fn (.func 135) [] []∧x8=I l.length∧x9=I i∧x10=I j∧H'=[]∧(∀m x,m<i→l[m]?=some x→B8 (NdV.ino x) no<0)∧(∀m x,j≤m→l[m]?=some x→¬B8 (NdV.ino x) no<0)) ?_ l.length ⟨0,l.length,by simp,by omega,rfl,rfl,rfl,rfl,rfl,rfl,rfl,by simp,λm x hm hx=>by have:=(B5.1 hx).1;omega⟩;rintro n x0 x1 x2 x8 x9 x10 H' R hR ⟨i,j,hij,hj,rfl,rfl,rfl,rfl,rfl,rfl,rfl,h1,h2⟩;unfold Cl;rcases Ah2 i j with hlt | hge
 ·have hx:=DJ (l:=l) (i:=(i+j)/2) (by omega)
  generalize l[(i + j) / 2]'(by omega)=y at hx;simp [hlt,Ax (a:=i) (b:=j) (by omega) (by omega),aF (n:=(i : Int) + j) (by omega) (by omega),X4,aE (a:=((i : Int) + j) / 2) (by omega) (by omega),hv.idx B4 hx (i:=((i : Int) + j) / 2) (by omega),vR,fV];refine bC_of (lI y no []) ?_
  by_cases c1:B8 (NdV.ino y) no<0
  ·simp[c1,Ax (a:=((i:Int)+j)/2) (b:=1) (by omega) (by omega)]
   refine hR (j - ((i+j)/2+1)) _ _ _ _ _ _ _ (by omega) ⟨(i+j)/2+1,j,by omega,hj,rfl,rfl,rfl,rfl,by simp,rfl,rfl,?_,h2⟩;intro m x hm hmx
   by_cases hm2:m=(i+j)/2
   ·rw[hm2,hx]at hmx;injection hmx with e;rw[← e];exact c1
   ·exact koI.trans _ _ _ (Lu hs hmx hx (by omega)) c1
  ·simp[c1]
   refine hR ((i+j)/2 - i) _ _ _ _ _ _ _ (by omega) ⟨i,(i+j)/2,by omega,by omega,rfl,rfl,rfl,rfl,rfl,by simp,rfl,h1,?_⟩;intro m x hm hmx
   by_cases hm2:m=(i+j)/2
   ·rw[hm2,hx]at hmx;injection hmx with e;rw[← e];exact c1
   ·intro c2
    exact c1 (koI.trans _ _ _ (Lu hs hx hmx (by omega)) c2)
 ·have hi:i=j:=by omega
  subst hi;have hp:CX B8 NdV.ino l no=i:=Ol (by omega) h1 (λx hx=>h2 i x (by omega) hx);rcases Ah2 i l.length with hil | hil
  ·have hx:=DJ (l:=l) (i:=i) hil
   generalize l[i]=y at hx
   have hh:AT NdV.ino l no↔B8 (NdV.ino y) no=0:=by
    rw[M7 koI hs,hp,koI.eq]
    constructor
    ·rintro⟨z,hz,e⟩
     rw[hx]at hz;injection hz with hz;rw[hz,e]
    ·intro e
     exact⟨y,hx,e⟩
   simp[hil,hv.idx B4 hx rfl,vR,fV];refine bC_of (lI y no []) ?_;simp[hp,hh]
  ·have hn:¬AT NdV.ino l no:=by
    rw[M7 koI hs,hp];rintro⟨z,hz,e⟩
    have:=(B5.1 hz).1
    omega
   simp[show ¬i<l.length by omega,hp,hn]))
def VN (ps:List (Int×AV)):List (Value×AV):=ps.map λp=>(.int .i64 p.1,p.2)
def eY (z:AV)(ps:List (Int×AV))(k:Int):AV:=match ps.find? (λp=>p.1==k)with
 | some p=>p.2
 | none=>z
theorem sO (a b:Int):Instr.sameNow (.int .i64) (.int .i64 a) (.int .i64 b)=some (a==b):=rfl
theorem VS (k:Int):∀(ps:List (Int×AV)) (i:Nat),Pj (.int .i64) (.int .i64 k) (VN ps) i=some ((ps.findIdx? (λp=>p.1==k)).bind λj=>(ps[j]?).map λp=>(i+j,p.2))
 | [],i=>rfl
 | p::ps,i=>by
  show(match Instr.sameNow (.int .i64) (.int .i64 k) (.int .i64 p.1)with
   | some true=>some (some (i,p.2))
   | some false=>Pj (.int .i64) (.int .i64 k) (VN ps) (i+1)
   | none=>none)=_
  rw[sO,List.findIdx?_cons]
  by_cases h:p.1=k
  ·have h':(k==p.1)=true:=by simp[h]
   have h2:(p.1==k)=true:=by simp[h]
   simp[h',h2]
  ·have h':(k==p.1)=false:=by simp;omega
   have h2:(p.1==k)=false:=by simp[h]
   simp only[h',h2];rw[VS k ps (i+1)];cases ps.findIdx? (λp=>p.1==k)with
   | none=>rfl
   | some j=>
    simp;cases ps[j]? with
    | none=>rfl
    | some q=>simp;omega
abbrev Ar6:=@List.find?_eq_none
abbrev Am2:=@List.findIdx?_eq_none_iff
theorem nS {z:AV}{ps:List (Int×AV)}{k:Int}(h:ps.findIdx? (λp=>p.1==k)=none):eY z ps k=z:=by
 have:ps.find? (λp=>p.1==k)=none:=by
  rw[Ar6];intro x hx;rw[Am2]at h
  simpa using h x hx
 unfold eY;rw[this]
abbrev Am6:=@List.findIdx?_eq_some_iff_getElem
theorem ZC {z:AV}{ps:List (Int×AV)}{k:Int}{j:Nat}(h:ps.findIdx? (λp=>p.1==k)=some j):∃p,ps[j]?=some p∧p.1=k∧eY z ps k=p.2:=by
 obtain⟨h1,h2,h3⟩:=Am6.1 h;refine⟨ps[j],DJ h1,by simpa using h2,?_⟩
 have:ps.find? (λp=>p.1==k)=some ps[j]:=by
  rw[List.find?_eq_some_iff_getElem];exact⟨h2,j,h1,rfl,λi hi=>by simpa using h3 i hi⟩
 unfold eY;rw[this]
theorem kO {H:AH}{o:Nat}{zv:Value}{ps:List (Int×AV)}{k:Int}(h:H[o]?=some (some (.map (VN ps)))):tC (.int .i64) zv H (.mp o) (.lit (.int .i64 k)) false=some (eY (.ofV zv) ps k):=by
 have hk:Zj (.int .i64) (.int .i64 k)=true:=rfl;unfold tC UI;simp only[h,hk,if_true,VS];cases hf:ps.findIdx? (λp=>p.1==k)with
 | none=>rw[nS hf];rfl
 | some j=>
  obtain⟨p,h1,h2,h3⟩:=ZC (z:=.ofV zv) hf;simp[h1,h3]
def uV (ps:List (Int×AV))(k:Int)(v:AV):List (Int×AV):=match ps.findIdx? (λp=>p.1==k)with
 | some j=>ps.set j (k,v)
 | none=>ps++[(k,v)]
theorem uB {H:AH}{o:Nat}{ps:List (Int×AV)}{k:Int}{v:AV}(h:H[o]?=some (some (.map (VN ps)))):yT (.int .i64) H (.mp o) (.lit (.int .i64 k)) v=some (H.set o (some (.map (VN (uV ps k v))))):=by
 have hk:Zj (.int .i64) (.int .i64 k)=true:=rfl;unfold yT uV;simp only[h,hk,if_true,VS];cases hf:ps.findIdx? (λp=>p.1==k)with
 | none=>simp[VN]
 | some j=>
  obtain⟨p,h1,h2,h3⟩:=ZC (z:=.junk) hf;simp[h1,VN,Ar3]
def Qo (size pos:Int):List Ext→Option Int
 | []=>none
 | x::r=>if max pos (x.no*8)<min size ((x.no+1)*8)then some (max pos (x.no*8))else Qo size pos r
def OY (size:Int)(l:List Ext)(pos:Int):Option Int:=if Dj size l∧0≤pos then Qo size pos l else none
theorem XJ {size pos:Int}{x:Ext}{r:List Ext}:Qo size pos (x::r)=if max pos (x.no*8)<min size ((x.no+1)*8)then some (max pos (x.no*8))else Qo size pos r:=rfl
theorem YW {size:Int}{l:List Ext}{v:AV}(hv:SV A6 9 l v)(hl:l.length≤281474976710656)(pos:Int):
  BPure prog 129 [.agg [I size,v],I pos] (oI (OY size l pos)):=BPure.val (by simp[Az,noIds,hv.1]) (by cases OY size l pos<;>rfl) (XQ (by
 unfold W1;simp[CE hv,Aq];refine As (EI hv hl) ?_
 by_cases h1:Dj size l
 ·by_cases h2:pos<0
  ·have:¬(Dj size l∧0≤pos):=λh=>by omega
   simp[h1,h2,OY,oI,show ¬(0:Int)≤pos by omega]
  ·have e:OY size l pos=Qo size pos l:=if_pos ⟨h1,by omega⟩
   simp[h1,h2,hv.len,e];refine ST (λn x1 x2 x17 x18 x19 H'=>∃(k:Nat),k+n=l.length∧x1=I pos∧x2=.ptr 0 0∧x17=v∧x18=I l.length∧x19=I k∧(∃X,H'=some (.cells [I size,v])::X)∧Qo size pos l=Qo size pos (l.drop k)) ?_ l.length ⟨0,by simp,rfl,rfl,rfl,rfl,rfl,⟨[],rfl⟩,by simp⟩;rintro n x1 x2 x17 x18 x19 H' R hR ⟨k,hk,rfl,rfl,rfl,rfl,rfl,⟨X,rfl⟩,hm⟩;unfold Pd;rcases Ah2 k l.length with hlt | hge
   ·have hx:=DJ hlt
    generalize l[k]=y at hx;rw[Ek hx,XJ]at hm;have hy:=KA h1.2.2 y (Ag9 hx);simp[hlt,hv.idx AB hx rfl,-C6];rw[← An6,Zy (by simp) (by rfl)];simp[D3 (a:=y.no) (b:=8) (by omega) (by omega),Ax (a:=y.no) (b:=1) (by omega) (by omega),D3 (a:=y.no+1) (b:=8) (by omega) (by omega)];have c:(max pos (y.no*8)<min size ((y.no+1)*8))↔(max (y.no*8) pos<min ((y.no+1)*8) size):=by omega
    by_cases c1:max (y.no*8) pos<min ((y.no+1)*8) size
    ·rw[if_pos (c.2 c1)]at hm
     simp[hm,c1,oI];omega
    ·rw[if_neg (λh=>c1 (c.1 h))]at hm
     simp[c1,Ax (a:=k) (b:=1) (by omega) (by omega)];exact hR (n - 1) _ _ _ _ _ _ (by omega) ⟨k+1,by omega,rfl,rfl,rfl,rfl,rfl,⟨X++[some (.cells (A6 y))],rfl⟩,hm⟩
   ·have:k=l.length:=by omega
    subst this;rw[Ap2]at hm;simp[hm,Qo,oI]
 ·simp[h1,OY,oI]))
theorem Vt {size:Int}{l:List Ext}{v:AV}(hv:SV A6 9 l v)(hl:l.length≤281474976710656)(pos:Int):
  BPure prog 130 [.agg [I size,v],I pos] (oI (OY size l pos)):=BPure.val (by simp[Az,noIds,hv.1]) (by cases OY size l pos<;>rfl) (Np (by
 unfold IH;simp[CE hv,Aq];refine As (C4 hv hl) ?_
 by_cases h1:Dj size l
 ·by_cases h2:pos<0
  ·simp[h1,h2,OY,oI,show ¬(0:Int)≤pos by omega]
  ·have e:OY size l pos=Qo size pos l:=if_pos ⟨h1,by omega⟩
   simp[h1,h2,e];refine JF (λn x1 x2 x6 H'=>∃(k:Nat),k+n=l.length∧x1=I pos∧x2=.ptr 0 0∧x6=I k∧H'=[some (.cells [I size,v])]∧Qo size pos l=Qo size pos (l.drop k)) ?_ l.length ⟨0,by simp,rfl,rfl,rfl,rfl,by simp⟩;rintro n x1 x2 x6 H' R hR ⟨k,hk,rfl,rfl,rfl,rfl,hm⟩;unfold FP;rcases Ah2 k l.length with hlt | hge
   ·have hx:=DJ hlt
    generalize l[k]=y at hx;rw[Ek hx,XJ]at hm;have hy:=KA h1.2.2 y (Ag9 hx);simp[hlt,hv.len,hv.idx AB hx rfl,D3 (a:=y.no) (b:=8) (by omega) (by omega),Ax (a:=y.no) (b:=1) (by omega) (by omega),D3 (a:=y.no+1) (b:=8) (by omega) (by omega)]
    have nxt:¬max pos (y.no*8)<min size ((y.no+1)*8)→(bO (Ar .add (I k) (I 1)) λv30=>R [I pos,.ptr 0 0,v30] [some (.cells [I size,v])]):=by
     intro hc;rw[if_neg hc]at hm;simp[Ax (a:=k) (b:=1) (by omega) (by omega)];exact hR (n - 1) _ _ _ _ (by omega) ⟨k+1,by omega,rfl,rfl,rfl,rfl,hm⟩
    by_cases c1:max pos (y.no*8)<(y.no+1)*8
    ·by_cases c2:max pos (y.no*8)<size
     ·rw[if_pos (by omega)]at hm
      simp[c1,c2,hm,oI]
     ·simp[c1,c2]
      exact nxt (by omega)
    ·simp[c1]
     exact nxt (by omega)
   ·have:k=l.length:=by omega
    subst this;rw[Ap2]at hm;simp[hm,hv.len,Qo,oI]
 ·simp[h1,OY,oI]))
def holeR (size:Int)(l:List Ext)(pos h:Int):Prop:=pos≤h∧h≤size∧(∀p,pos≤p→p<h→BP l (p/8))∧(h=size∨¬BP l (h/8))
theorem holeR.uniq {size:Int}{l:List Ext}{pos h1 h2:Int}(a:holeR size l pos h1)(b:holeR size l pos h2):h1=h2:=by
 rcases Int.lt_trichotomy h1 h2 with h | h | h
 ·rcases a.2.2.2 with e | e
  ·have:=b.2.1;omega
  ·exact(e (b.2.2.1 h1 a.1 h)).elim
 ·exact h
 ·rcases b.2.2.2 with e | e
  ·have:=a.2.1;omega
  ·exact(e (a.2.2.1 h2 b.1 h)).elim
theorem lB {size:Int}{l:List Ext}:∀(n:Nat) (pos:Int),size - pos=n→∃h,holeR size l pos h:=by
 intro n
 induction n using Nat.strongRecOn with
 | ind n ih=>
  intro pos hn
  by_cases h0:pos=size
  ·exact⟨size,by omega,by omega,λp h1 h2=>by omega,.inl rfl⟩
  ·by_cases h1:BP l (pos/8)
   ·obtain⟨h,a1,a2,a3,a4⟩:=ih (size - min size ((pos/8+1)*8)).toNat (by omega) (min size ((pos/8+1)*8)) (by omega)
    refine⟨h,by omega,a2,λp h2 h3=>?_,a4⟩
    by_cases h4:p<min size ((pos/8+1)*8)
    ·rw[show p/8=pos/8 by omega];exact h1
    ·exact a3 p (by omega) h3
   ·exact⟨pos,by omega,by omega,λp h2 h3=>by omega,.inr h1⟩
open Classical in
noncomputable def UU (size:Int)(l:List Ext)(pos:Int):Option Int:=if h:Dj size l∧0≤pos∧pos<size then some (lB (size:=size) (l:=l) (size - pos).toNat pos (by omega)).choose else none
theorem Yk {size:Int}{l:List Ext}{pos:Int}(h:¬(Dj size l∧0≤pos∧pos<size)):UU size l pos=none:=dif_neg h
theorem Yl {size:Int}{l:List Ext}{pos:Int}(h:Dj size l∧0≤pos∧pos<size):∃p,UU size l pos=some p∧holeR size l pos p:=
 ⟨_,dif_pos h,(lB (size:=size) (l:=l) (size - pos).toNat pos (by omega)).choose_spec⟩
theorem YX {size:Int}{l:List Ext}{v:AV}(hv:SV A6 9 l v)(hl:l.length≤281474976710656)(pos:Int):
  BPure prog 131 [.agg [I size,v],I pos] (oI (UU size l pos)):=BPure.val (by simp[Az,noIds,hv.1]) (by cases UU size l pos<;>rfl) (XT (by
 unfold W3;simp[CE hv,Aq];refine As (EI hv hl) ?_
 by_cases h0:Dj size l∧0≤pos∧pos<size
 ·obtain⟨q,e,hq⟩:=Yl h0
  obtain⟨h1,h2,h3⟩:=h0;have hs:=Is h1.2.2;have hsz:=h1.2.1;simp[h1,show ¬pos<0 by omega,show ¬size≤pos by omega,e,oI];refine SU (λn x2 x6 H'=>∃p:Int,(size+8 - p).toNat=n∧x2=.ptr 0 0∧x6=I p∧H'=[some (.cells [I size,v])]∧pos≤p∧p≤size+7∧∀r,pos≤r→r<p→r<size→BP l (r/8)) ?_ (size+8 - pos).toNat ⟨pos,rfl,rfl,rfl,rfl,by omega,by omega,λr a b c=>by omega⟩;rintro n x2 x6 H' R hR ⟨p,hn,rfl,rfl,rfl,hp1,hp2,hp⟩;unfold Pe
  by_cases c1:p<size
  ·simp[c1,Ky (a:=p) (b:=8) (by omega) (by omega)]
   refine As (RO hv hs hl (p/8)) ?_
   by_cases c2:BP l (p/8)
   ·simp[c2,Ax (a:=p/8) (b:=1) (by omega) (by omega),D3 (a:=p/8+1) (b:=8) (by omega) (by omega)]
    refine hR (size+8 - (p/8+1)*8).toNat _ _ _ (by omega) ⟨(p/8+1)*8,rfl,rfl,rfl,rfl,by omega,by omega,λr a b c=>?_⟩
    by_cases c3:r<p
    ·exact hp r a c3 c
    ·rw[show r/8=p/8 by omega];exact c2
   ·simp[c2]
    exact holeR.uniq ⟨hp1,by omega,λr a b=>hp r a b (by omega),.inr c2⟩ hq
  ·simp[c1]
   exact holeR.uniq ⟨by omega,by omega,λr a b=>hp r a (by omega) b,.inl rfl⟩ hq
 ·rw[Yk h0]
  by_cases h1:Dj size l
  ·by_cases h2:pos<0
   ·simp[h1,h2,oI]
   ·have h3:size≤pos:=by
     rcases Int.lt_or_le pos size with h | h
     ·exact(h0 ⟨h1,by omega,h⟩).elim
     ·exact h
    simp[h1,h2,h3,oI]
  ·simp[h1,oI]))
theorem Vu {size:Int}{l:List Ext}{v:AV}(hv:SV A6 9 l v)(hl:l.length≤281474976710656)(pos:Int):
  BPure prog 132 [.agg [I size,v],I pos] (oI (UU size l pos)):=BPure.val (by simp[Az,noIds,hv.1]) (by cases UU size l pos<;>rfl) (Nr (by
 unfold II;simp[CE hv,Aq];refine As (C4 hv hl) ?_
 by_cases h0:Dj size l∧0≤pos∧pos<size
 ·obtain⟨q,e,hq⟩:=Yl h0
  obtain⟨h1,h2,h3⟩:=h0;have hs:=Is h1.2.2;have hsz:=h1.2.1;simp[h1,show ¬pos<0 by omega,show ¬size≤pos by omega,e,oI];refine JG (λn x1 x2 H'=>∃p:Int,(1099511627784 - p).toNat=n∧x2=.ptr 0 0∧x1=I p∧H'=[some (.cells [I size,v])]∧pos≤p∧p≤1099511627776∧∀r,pos≤r→r<p→BP l (r/8)) ?_ (1099511627784 - pos).toNat ⟨pos,rfl,rfl,rfl,rfl,by omega,by omega,λr a b=>by omega⟩;rintro n x1 x2 H' R hR ⟨p,hn,rfl,rfl,rfl,hp1,hp2,hp⟩;unfold FQ;simp[Aq,Ky (a:=p) (b:=8) (by omega) (by omega)];refine As (Um hv hs hl (p/8)) ?_
  by_cases c2:BP l (p/8)
  ·obtain⟨x,hx,hxe⟩:=c2
   have hxb:=KA h1.2.2 x hx;have c2:BP l (p/8):=⟨x,hx,hxe⟩;simp[c2,Ax (a:=p/8) (b:=1) (by omega) (by omega),D3 (a:=p/8+1) (b:=8) (by omega) (by omega)];refine hR (1099511627784 - (p/8+1)*8).toNat _ _ _ (by omega) ⟨(p/8+1)*8,rfl,rfl,rfl,rfl,by omega,by omega,λr a b=>?_⟩
   by_cases c3:r<p
   ·exact hp r a c3
   ·rw[show r/8=p/8 by omega];exact c2
  ·simp[c2]
   by_cases c4:p<size
   ·rw[show min size p=p by omega]
    exact holeR.uniq ⟨hp1,by omega,λr a b=>hp r a b,.inr c2⟩ hq
   ·rw[show min size p=size by omega]
    exact holeR.uniq ⟨by omega,by omega,λr a b=>hp r a (by omega),.inl rfl⟩ hq
 ·rw[Yk h0]
  by_cases h1:Dj size l
  ·by_cases h2:pos<0
   ·simp[h1,h2,oI]
   ·have h3:size≤pos:=by
     rcases Int.lt_or_le pos size with h | h
     ·exact(h0 ⟨h1,by omega,h⟩).elim
     ·exact h
    simp[h1,h2,h3,oI]
  ·simp[h1,oI]))
def OS (l:List Ext)(p:Int):UInt8:=match l.find? λx=>decide (x.no=p/8)with
 | some x=>x.b.getD (p % 8).toNat 0
 | none=>0
theorem FL {l:List Ext}{p:Int}(h:¬BP l (p/8)):OS l p=0:=by
 have:l.find? (λx=>decide (x.no=p/8))=none:=by
  rw[Ar6];intro x hx he;exact h ⟨x,hx,by simpa using he⟩
 unfold OS;rw[this]
theorem UA {l:List Ext}(hs:srt l){p:Int}{k:Nat}{x:Ext}(hx:l[k]?=some x)(he:x.no=p/8):OS l p=x.b.getD (p % 8).toNat 0:=by
 have:l.find? (λx=>decide (x.no=p/8))=some x:=by
  rw[List.find?_eq_some_iff_getElem];obtain⟨h1,h2⟩:=B5.1 hx;refine⟨by simp[he],k,h1,h2,?_⟩;intro j hj
  have:=Oy hs (DJ (Nat.lt_trans hj h1)) hx hj
  simp;omega
 unfold OS;rw[this]
def zdekZ (size:Int)(l:List Ext)(pos n:Int):Prop:=Dj size l∧0≤pos∧0≤n∧n≤4096∧pos<size
instance (size:Int) (l:List Ext) (pos n:Int):Decidable (zdekZ size l pos n):=by unfold zdekZ;infer_instance
def DZ (l:List Ext)(pos:Int)(k:Nat):List UInt8:=(List.range k).map fun (i:Nat)=>OS l (pos+(i:Int))
theorem Ko (l:List Ext)(pos:Int)(k:Nat):(DZ l pos k).length=k:=by simp[DZ]
theorem dY (l:List Ext)(pos:Int)(k:Nat):DZ l pos (k+1)=DZ l pos k++[OS l (pos+k)]:=by simp[DZ,List.range_succ]
def KP (size:Int)(l:List Ext)(pos n:Int):List UInt8:=if zdekZ size l pos n then DZ l pos (min n (size - pos)).toNat else []
theorem sE {size:Int}{l:List Ext}{v:AV}(hv:SV A6 9 l v)(hs:srt l)(hl:l.length≤281474976710656)(pos:Int)(h0:0≤pos)(h1:pos≤9223372036854775807):
  BPure prog 123 [.agg [I size,v],I pos] (.lit (.int .u8 (OS l pos).toNat)):=BPure.val (by simp[Az,noIds,hv.1]) rfl (V2 (by
 unfold St;simp[CE hv,Aq,Ky (a:=pos) (b:=8) (by omega) (by omega)];refine As (Um hv hs hl (pos/8)) ?_
 by_cases c:BP l (pos/8)
 ·obtain⟨x,hx,he⟩:=(RU hs).1 c
  have hb:=x.hb;have hr:(pos % 8)=((pos % 8).toNat:Int):=by omega
  have hy:=DJ (l:=x.b) (i:=(pos % 8).toNat) (by omega);generalize hu : x.b[(pos % 8).toNat]'(by omega)=u at hy;obtain ⟨q,e1,e2⟩:=pW (t:=(l.drop (posL l (pos / 8) + 1)).flatMap A6) (H:=[some (.cells [I size,v])]) hy (by omega);have e0 : (A6 x ++ (l.drop (posL l (pos / 8) + 1)).flatMap A6).drop 1=B2 x.b ++ (l.drop (posL l (pos / 8) + 1)).flatMap A6:=rfl;rw [← hr] at e1;have hn : ¬ ((posL l (pos / 8) : Nat) : Int) < 0:=by omega
  simp[c,hn,hv.idx AB hx rfl,U2 (a:=pos) (b:=8) (by omega) (by omega),e0,e1,e2,UA hs hx he,Ai5,hy]
 ·simp[c,FL c]))
theorem Vv {size:Int}{l:List Ext}{v:AV}(hv:SV A6 9 l v)(hl:l.length≤281474976710656)(pos n:Int):
  ∃r,SV IW 1 (KP size l pos n) r∧BPure prog 68 [.agg [I size,v],I pos,I n] r:=by
 unfold SV;simp only[Mq]
 have:∃r,(noIds r=true∧∀H,Ad H 1 r=some (B2 (KP size l pos n),(KP size l pos n).length))∧BPure prog 68 [.agg [I size,v],I pos,I n] r:=by
  refine BPure.sl (sz:=1) (by simp[Az,noIds,hv.1]) (KL _) (Ns ?_);unfold IM;simp[CE hv,Aq];refine As (C4 hv hl) ?_
  have nix:∀H,¬zdekZ size l pos n→Ad H 1 Ac=some (B2 (KP size l pos n),(KP size l pos n).length):=by
   intro H h;have:KP size l pos n=[]:=if_neg h;rw[this];rfl
  by_cases h1:Dj size l
  ·by_cases h2:pos<0
   ·simp[h1,h2,nix _ (λh=>by have:=h.2.1;omega)]
   ·by_cases h3:n<0
    ·simp[h1,h2,h3,nix _ (λh=>by have:=h.2.2.1;omega)]
    ·by_cases h4:4096<n
     ·simp[h1,h2,h3,h4,nix _ (λh=>by have:=h.2.2.2.1;omega)]
     ·simp[h1,h2,h3,h4]
      have hs:=Is h1.2.2;have hsz:=h1.2.1;have hsz0:=h1.1
      have hm:∃m:Nat,(m=min n (size - pos)∨(size≤pos∧m=0))∧KP size l pos n=DZ l pos m:=by
       by_cases h5:pos<size
       ·exact⟨(min n (size - pos)).toNat,.inl (by omega),if_pos ⟨h1,by omega,by omega,by omega,h5⟩⟩
       ·refine⟨0,.inr ⟨by omega,rfl⟩,(if_neg (λh=>h5 h.2.2.2.2)).trans rfl⟩
      obtain⟨m,hm,hr⟩:=hm;rw[hr,Ko];refine JK (λq x1 x2 x3 x7 x8 H'=>∃k:Nat,k+q=m∧x1=I pos∧x2=I n∧x3=.ptr 0 0∧x8=I k∧H'[0]?=some (some (.cells [I size,v]))∧Bh x7=true∧Ad H' 1 x7=some (B2 (DZ l pos k),k)∧0∉Bl x7) ?_ m ⟨0,by omega,rfl,rfl,rfl,rfl,rfl,rfl,rfl,by simp[Bl]⟩;rintro q x1 x2 x3 x7 x8 H R hR ⟨k,hk,rfl,rfl,rfl,rfl,hH,ho,hsl,hid⟩;unfold FU
      by_cases hc:k<m
      ·have c1:(k:Int)<n:=by omega
       have c2:pos<size - k:=by omega
       simp[c1,hH,Bv (a:=size) (b:=k) (by omega) (by omega),c2,Aq,Ax (a:=pos) (b:=k) (by omega) (by omega)];refine As (sE hv hs hl (pos+k) (by omega) (by omega)) ?_;have hH0:=(B5.1 hH).1;have hs1:Ad (H++[some (.cells (B2 [OS l (pos+k)]))]) 1 x7=some (B2 (DZ l pos k),k):=Af hsl λi hi=>Ag8 (A7 hsl i hi)
       obtain⟨r,H2,a1,a2,a3,a4,a5,a6⟩:=CT (bytes:=1) hs1 ho (A3 (v:=.sl H.length 0 1 1 (.ex 1)) (q:=(B2 [OS l (pos+k)],1)) (by simp[Ad,B2])) (by omega);have e:B2 [OS l (pos+k)]=[.lit (.int .u8 (OS l (pos+k)).toNat)]:=rfl;rw[e]at a1 a5
       have hH2:H2[0]?=some (some (.cells [I size,v])):=by
        rw[a5 0 (by simp) hid,Ag8 hH0];exact hH
       simp[a1,Ax (a:=k) (b:=1) (by omega) (by omega)];refine hR (q - 1) _ _ _ _ _ _ (by omega) ⟨k+1,by omega,rfl,rfl,rfl,rfl,hH2,a2,?_,λhi=>(a6 0 hi).elim hid (by simp)⟩;rw[a3,dY,XL]
      ·have c1:¬((k:Int)<n∧pos<size - k):=by omega
       have hkm:k=m:=by omega
       subst hkm
       by_cases c2:(k:Int)<n
       ·have c3:¬pos<size - k:=λh=>c1 ⟨c2,h⟩
        simp[c2,hH,Bv (a:=size) (b:=k) (by omega) (by omega),c3,hsl]
       ·simp[c2,hsl]
  ·simp[h1,nix _ (λh=>h1 h.1)]
 exact this
abbrev As6:=@List.Pairwise.sublist
theorem sT {l:List Ext}(h:srt l)(k:Nat):srt (l.take k):=As6 (List.take_sublist k l) h
theorem UB {l:List Ext}(hs:srt l){k:Nat}{y:Ext}(hx:l[k]?=some y)(p:Int):OS (l.take (k+1)) p=if y.no=p/8 then y.b.getD (p % 8).toNat 0 else OS (l.take k) p:=by
 split
 ·rename_i h
  exact UA (sT hs (k+1)) (k:=k) (by rw[Ah5,if_pos (by omega)];exact hx) h
 ·rename_i h
  unfold OS;rw[Aj6,hx,List.find?_append];simp[h]
theorem G4 {l:List Ext}{pos:Int}{m i:Nat}:(DZ l pos m)[i]?=if i<m then some (OS l (pos+i))else none:=by
 unfold DZ;rw[Ai6]
 by_cases h:i<m
 ·simp[h]
 ·simp[h]
theorem oH {l:List Ext}(hs:srt l){k m:Nat}{y:Ext}(hx:l[k]?=some y){pos:Int}(h:¬max (y.no*8) pos<min (y.no*8+8) (pos+m)):DZ (l.take (k+1)) pos m=DZ (l.take k) pos m:=by
 refine Aj5 λi=>?_
 rw[G4,G4]
 split
 ·rw[UB hs hx,if_neg (by omega)]
 ·rfl
theorem oJ {l:List Ext}(hs:srt l){k m:Nat}{y:Ext}(hx:l[k]?=some y){pos:Int}{off from' mlen:Nat}(h:max (y.no*8) pos<min (y.no*8+8) (pos+m))
  (h1:(off:Int)=max (y.no*8) pos - pos) (h2:(from':Int)=max (y.no*8) pos - y.no*8) (h3:(mlen:Int)=min (y.no*8+8) (pos+m) - max (y.no*8) pos):
  (DZ (l.take k) pos m).take off++((y.b.drop from').take mlen)++(DZ (l.take k) pos m).drop (off+mlen)=DZ (l.take (k+1)) pos m:=by
 have hb:=y.hb;refine Aj5 λi=>?_
 have hl1:((DZ (l.take k) pos m).take off).length=off:=by rw[Ah1,Ko];omega
 have hl2:((y.b.drop from').take mlen).length=mlen:=by rw[Ah1,Ah8];omega
 by_cases c1:i<off
 ·rw[Ai0,Ag8 (by omega),Ah5,if_pos c1,G4,G4]
  split
  ·rw[UB hs hx,if_neg (by omega)]
  ·rfl
 ·by_cases c2:i<off+mlen
  ·rw[Ag8 (by rw[Ah9];omega),Ah0 (by omega),hl1,Ah5,if_pos (by omega),Ah6,G4,if_pos (by omega),UB hs hx,if_pos (by omega)]
   rw[show((pos+(i:Int)) % 8).toNat=from'+(i - off) by omega];rw[Ai5,DJ (by omega)];simp
  ·rw[Ah0 (by rw[Ah9];omega),Ah9,hl1,hl2,Ah6,G4,G4,show off+mlen+(i - (off+mlen))=i by omega]
   split
   ·rw[UB hs hx,if_neg (by omega)]
   ·rfl
theorem ZL (a b:List UInt8)(off:Nat):BS (B2 a) off (B2 b)=B2 (a.take off++b++a.drop (off+b.length)):=by
 unfold BS;rw[CV,Pa,S8,XL,XL]
abbrev Ao3:=@List.getElem?_replicate
theorem kD (l:List Ext)(pos:Int)(m:Nat):List.replicate m (AV.lit (.int .u8 0))=B2 (DZ (l.take 0) pos m):=by
 refine Aj5 λi=>?_
 rw[Rq,G4,Ao3]
 by_cases h:i<m
 ·rw[if_pos h,if_pos h]
  simp[OS]
 ·rw[if_neg h,if_neg h]
  rfl
theorem YZ {size:Int}{l:List Ext}{v:AV}(hv:SV A6 9 l v)(hl:l.length≤281474976710656)(pos n:Int):
  ∃r,SV IW 1 (KP size l pos n) r∧BPure prog 101 [.agg [I size,v],I pos,I n] r:=by
 unfold SV;simp only[Mq]
 have:∃r,(noIds r=true∧∀H,Ad H 1 r=some (B2 (KP size l pos n),(KP size l pos n).length))∧BPure prog 101 [.agg [I size,v],I pos,I n] r:=by
  refine BPure.sl (sz:=1) (by simp[Az,noIds,hv.1]) (KL _) (XV ?_);unfold W4;simp[CE hv,Aq];refine As (EI hv hl) ?_
  have nix:∀H,¬zdekZ size l pos n→Ad H 1 Ac=some (B2 (KP size l pos n),(KP size l pos n).length):=by
   intro H h;have:KP size l pos n=[]:=if_neg h;rw[this];rfl
  by_cases h1:Dj size l
  ·by_cases h2:pos<0
   ·simp[h1,h2,nix _ (λh=>by have:=h.2.1;omega)]
   ·by_cases h3:n<0
    ·simp[h1,h2,h3,nix _ (λh=>by have:=h.2.2.1;omega)]
    ·by_cases h4:4096<n
     ·simp[h1,h2,h3,h4,nix _ (λh=>by have:=h.2.2.2.1;omega)]
     ·by_cases h5:size≤pos
      ·simp[h1,h2,h3,h4,h5,nix _ (λh=>by have:=h.2.2.2.2;omega)]
      ·have hs:=Is h1.2.2
       have hsz:=h1.2.1;have hsz0:=h1.1;have hr:KP size l pos n=DZ l pos (min n (size - pos)).toNat:=if_pos ⟨h1,by omega,by omega,by omega,by omega⟩;rw[hr,Ko];obtain⟨m,hm⟩:∃m:Nat,(m:Int)=min n (size - pos):=⟨(min n (size - pos)).toNat,by omega⟩;have hm':min (size - pos) n=(m:Int):=by omega
       rw[show(min n (size - pos)).toNat=m by omega];simp[h1,h2,h3,h4,h5,Bv (a:=size) (b:=pos) (by omega) (by omega),hm',wQ,show(m:Int)≤281474976710656 by omega,show(m:Int)≤9223372036854775807 by omega,hv.len];have hz:=kD l pos m;refine SX (λq x1 x2 x7 x41 x42 x43 H'=>∃k:Nat,k+q=l.length∧x1=I pos∧x2=I m∧x7=.sl 1 0 m 1 (.ex m)∧x41=v∧x42=I l.length∧x43=I k∧∃X,H'=some (.cells [I size,v])::some (.cells (B2 (DZ (l.take k) pos m)))::X) ?_ l.length ⟨0,by omega,rfl,rfl,rfl,rfl,rfl,rfl,[],by rw[← hz]⟩;rintro q x1 x2 x7 x41 x42 x43 H R hR ⟨k,hk,rfl,rfl,rfl,rfl,rfl,rfl,X,rfl⟩;unfold Pf;rcases Ah2 k l.length with hlt | hge
       ·have hx:=DJ hlt
        generalize l[k]=y at hx;have hy:=KA h1.2.2 y (Ag9 hx);simp[hlt,hv.idx AB hx rfl,-C6];rw[← An6,← An6,Zy (by simp) (by rfl)];simp;refine As (M2 y.no (by omega) (by omega)) ?_
        have nxt:∀Y,(Ip R (I pos) (I m) (.sl 1 0 m 1 (.ex m)) x41 (I l.length) (I k) (some (.cells [I size,x41])::some (.cells (B2 (DZ (l.take (k+1)) pos m)))::Y) λr H'=>Ad H' 1 r=some (B2 (DZ l pos m),m)):=by
         intro Y;rw[Ub];unfold NW;simp[Ax (a:=k) (b:=1) (by omega) (by omega)];exact hR (q - 1) _ _ _ _ _ _ _ (by omega) ⟨k+1,by omega,rfl,rfl,rfl,rfl,rfl,rfl,Y,rfl⟩
        have w1:MaySpan ⟨y.no*8,8⟩:=by simp only[MaySpan,May];omega
        have w2:MaySpan ⟨pos,m⟩:=by simp only[MaySpan,May];omega
        refine As (Ul ⟨y.no*8,8⟩ ⟨pos,m⟩) ?_
        by_cases c:max (y.no*8) pos<min (y.no*8+8) (pos+m)
        ·have e:Qc ⟨y.no*8,8⟩ ⟨pos,m⟩=⟨max (y.no*8) pos,min (y.no*8+8) (pos+m) - max (y.no*8) pos⟩:=if_pos ⟨w1,w2,c⟩
         rw[e];obtain⟨off,ho⟩:∃off:Nat,(off:Int)=max (y.no*8) pos - pos:=⟨(max (y.no*8) pos - pos).toNat,by omega⟩;obtain⟨fr,hf⟩:∃fr:Nat,(fr:Int)=max (y.no*8) pos - y.no*8:=⟨(max (y.no*8) pos - y.no*8).toNat,by omega⟩;obtain⟨ml,hml⟩:∃ml:Nat,(ml:Int)=min (y.no*8+8) (pos+m) - max (y.no*8) pos:=⟨(min (y.no*8+8) (pos+m) - max (y.no*8) pos).toNat,by omega⟩;have hst:=oJ hs hx c ho hf hml;have hb:=y.hb
         have e1:Bj 1 (.sl 1 0 m 1 (.ex m)) (some (I off)) none none=some (.sl 1 off (m - off) 1 (.ex (m - off))):=by
          simp[Bj,CA,Room.least,Room.cut];omega
         have e3:∀o,Bj 1 (.sl o (1+fr) (8 - fr) 1 (.ex (8 - fr))) none (some (I ml)) none=some (.sl o (1+fr) ml 1 (.ex (8 - fr))):=by
          intro o;simp[Bj,CA,Room.least,Room.cut];omega
         have key:∀(HH Y:AH) (o:Nat),HH=some (.cells [I size,x41])::some (.cells (B2 (DZ (l.take k) pos m)))::Y→HH[o]?=some (some (.cells (A6 y)))→
           YU 8 1 HH (.ptr o 1) (some (I fr)) none=some (.sl o (1+fr) (8 - fr) 1 (.ex (8 - fr)))∧
           SR 1 HH (.sl 1 off (m - off) 1 (.ex (m - off))) (.sl o (1+fr) ml 1 (.ex (8 - fr)))=some (I ml,some (.cells [I size,x41])::some (.cells (B2 (DZ (l.take (k+1)) pos m)))::Y):=by
          intro HH Y o hHH hHo;refine⟨by simp[YU,CA,hHo,AB];omega,?_⟩
          have a1:Ad HH 1 (.sl o (1+fr) ml 1 (.ex (8 - fr)))=some (B2 ((y.b.drop fr).take ml),ml):=by
           have:(A6 y).drop (1+fr)=B2 (y.b.drop fr):=by
            rw[Aq1]
            show(B2 y.b).drop fr=_
            rw[S8]
           simp[Ad,hHo,AB,this,Pa];omega
          unfold SR mQ;rw[A3 a1,hHH];have a2:min ml (m - off)=ml:=by omega
          have a3:((y.b.drop fr).take ml).length=ml:=by simp;omega
          have hle:off≤m:=by omega
          simp[CV,Ko,a2,Pa,hle];have a4:List.take ml (List.take ml (y.b.drop fr))=(y.b.drop fr).take ml:=by rw[Am4,Nat.min_self]
          rw[a4,ZL,a3,hst]
         simp[Br,AJ,Bv (a:=max (y.no*8) pos) (b:=pos) (by omega) (by omega),← ho,e1,D3 (a:=y.no) (b:=8) (by omega) (by omega),Bv (a:=max (y.no*8) pos) (b:=y.no*8) (by omega) (by omega),← hf,← hml];obtain⟨k1,k2⟩:=key _ (X++[some (.cells (A6 y)),some (.cells [I (max (y.no*8) pos),I ml])]) (X.length+1+1) rfl (by simp);rw[k1];simp[e3];rw[k2];simp[show 0<ml by omega];exact nxt _
        ·have e:Qc ⟨y.no*8,8⟩ ⟨pos,m⟩=⟨0,0⟩:=if_neg (λh=>c h.2.2)
         rw[e];simp[Br,AJ];rw[← oH hs hx c];exact nxt _
       ·have:k=l.length:=by omega
        subst this;rw[Al0];simp[Ad,CV,Ko];rw[Ah4 (by rw[CV,Ko];omega)]
  ·simp[h1,nix _ (λh=>h1 h.1)]
 exact this
theorem aH {H:AH}{sz o off len o2 off2 m:Nat}{cap cap2:Room}{cs cs2:List AV}(ho:H[o]?=some (some (.cells cs)))(h2:H[o2]?=some (some (.cells cs2)))(hoff:off≤cs.length)(ht:off2+min m len*sz≤cs2.length):
  SR sz H (.sl o off len sz cap) (.sl o2 off2 m sz cap2)=some (I ((min m len:Nat):Int),H.set o (some (.cells (BS cs off ((cs2.drop off2).take (min m len*sz)))))):=by
 unfold SR mQ
 by_cases h:off2+m*sz≤cs2.length
 ·have e:Bm H sz (.sl o2 off2 m sz cap2)=some ((cs2.drop off2).take (m*sz),m):=A3 (by simp[Ad,h2,h])
  have hm:min (min m len*sz) (m*sz)=min m len*sz:=An2 (Ah7 _ (At0 _ _));rw[e];simp only[ho,hoff,and_self,if_true,Am4,hm]
 ·have e:Bm H sz (.sl o2 off2 m sz cap2)=none:=by simp[Bm,Ad,h2,h]
  rw[e];simp[tV,ho,h2,hoff,ht]
theorem sQ (w:World):(Go.sizeOf 134).run prog w=.ok 9 w:=BT (by kernel_rfl)
theorem fO {H:AH}{oa offa la ea ka ob offb lb eb kb:Nat}{ca cb:List AV}(ha:H[oa]?=some (some (.cells ca)))(hbo:H[ob]?=some (some (.cells cb)))(hne:oa≠ob)(hka:ka≠0)(hkb:kb≠0)(hcb:cb≠[]):
  ExtR prog 176 [.sl oa offa la ea (.ex ka),.sl ob offb lb eb (.ex kb)] H (B false):=
 ExtR.apart (tS:=69) (tR:=4) (fn:=f176) (by kernel_rfl) (by kernel_rfl) (by kernel_rfl) (by kernel_rfl) (by kernel_rfl) (by kernel_rfl) sQ ha hbo hne hka hkb hcb
def zG (H:AH)(s:AV)(N:List AV)(n:Nat)(r:AV)(H':AH):Prop:=
 Bh r=true∧Ad H' 9 r=some (N,n+1)∧H.length≤H'.length∧(∀i,i<H.length→i∉Bl s→H'[i]?=H[i]?)∧∀i∈Bl r,i∈Bl s∨H.length≤i
theorem rE {H:AH}{s:AV}{cs:List AV}{n ov:Nat}{x:Ext}(hs:Ad H 9 s=some (cs,n))(ho:Bh s=true)(hn:n≤100000000)(hv:H[ov]?=some (some (.cells (A6 x)))):
  ∃r H',zG H s (cs++A6 x) n r H'∧BCall prog 143 [s,I n,.sl ov 0 1 9 (.ex 1)] H r H':=by
 obtain⟨r0,a0,-⟩:=Gb hs (lo:=some (I n)) (hi:=none) (l:=n) (k:=n) (by simp[CA]) rfl (Ah3 _) (Ah3 _);have hl:=AB x;obtain⟨r,H2,a1,a2,a3,a4,a5,a6⟩:=CT (bytes:=16) hs ho (A3 (v:=.sl ov 0 1 9 (.ex 1)) (q:=(A6 x,1)) (by simp[Ad,hv,hl,Ah4])) (by omega);refine⟨r,H2,⟨a2,a3,a4,a5,a6⟩,Df ?_⟩;unfold BH;simp[a0,CU hs,a1]
theorem nO {H:AH}{o off n ov i:Nat}{cells:List AV}{x:Ext}(hc:H[o]?=some (some (.cells cells)))(hl:off+n*9≤cells.length)(hi:i<n)(hn:n≤100000000)(hv:H[ov]?=some (some (.cells (A6 x)))):
  ACalls prog 143 [.sl o off n 9 (.ex n),I i,.sl ov 0 1 9 (.ex 1)] H λr H'=>r=.sl H.length 0 (n+1) 9 (.ge (n+1))∧
   H'=H++[some (.cells ((cells.drop off).take (i*9)++A6 x++(cells.drop (off+i*9)).take ((n - i)*9)))]:=by
 refine Df ?_;unfold BH;have h1:¬(i:Int)=n:=by omega
 have hxl:=AB x;simp[Bj,CA,Room.least,Room.cut,YP,goInt,h1,show i≤n by omega,Ax (a:=n) (b:=1) (by omega) (by omega),Bv (a:=(n:Int)+1) (b:=i) (by omega) (by omega),O4,hc,Ax (a:=i) (b:=1) (by omega) (by omega)];have e1:i+(n+1 - i)=n+1:=by omega
 have h2:off+i*9≤cells.length:=by omega
 simp only[e1];simp[h2,show(i:Int)<n+1 by omega,show(n:Int)<n+1 by omega,show(n+1)*16≤140737488355328 by omega,show i≤n+1 by omega];have zl:((List.replicate (n+1 - i) [AV.lit (Value.int IntKind.i64 0),AV.lit (Value.int IntKind.u8 0),AV.lit (Value.int IntKind.u8 0),AV.lit (Value.int IntKind.u8 0),AV.lit (Value.int IntKind.u8 0),AV.lit (Value.int IntKind.u8 0),AV.lit (Value.int IntKind.u8 0),AV.lit (Value.int IntKind.u8 0),AV.lit (Value.int IntKind.u8 0)]).flatten).length=(n+1 - i)*9:=Ej _ _;generalize (List.replicate (n+1 - i) [AV.lit (Value.int IntKind.i64 0),AV.lit (Value.int IntKind.u8 0),AV.lit (Value.int IntKind.u8 0),AV.lit (Value.int IntKind.u8 0),AV.lit (Value.int IntKind.u8 0),AV.lit (Value.int IntKind.u8 0),AV.lit (Value.int IntKind.u8 0),AV.lit (Value.int IntKind.u8 0),AV.lit (Value.int IntKind.u8 0)]).flatten=Z at zl;have hA:(List.take (i*9) (List.drop off cells)).length=i*9:=by rw[Ah1,Ah8];omega
 generalize hAe:List.take (i*9) (List.drop off cells)=A at hA;have hov:=(B5.1 hv).1;have ho:=(B5.1 hc).1;rw[aH (cs:=A++Z) (cs2:=A6 x) (by simp) (by rw[Ag8 hov];exact hv) (by simp[hA]) (by omega)];simp[show(0:Int)≤(i:Int)+1 by omega,show i+1≤n+1 by omega];have m1:min 1 (n+1 - i)=1:=by omega
 have o1:BS (A++Z) (i*9) (List.take (min 1 (n+1 - i)*9) (A6 x))=A++A6 x++Z.drop 9:=by
  rw[m1,Ah4 (by rw[hxl];omega)];unfold BS;rw[Aj1 (by omega),Ah4 (by omega),hxl,← hA,List.drop_append,Ar8,Ap9 (by omega),Am1]
 rw[o1,aH (cs:=A++A6 x++Z.drop 9) (cs2:=cells) (by simp) (by rw[Ag8 ho];exact hc) (by simp[hA,hxl];omega) (by rw[Nat.min_self];omega)];have hB:(List.take ((n - i)*9) (List.drop (off+i*9) cells)).length=(n - i)*9:=by rw[Ah1,Ah8];omega
 simp;generalize List.take ((n - i)*9) (List.drop (off+i*9) cells)=B' at hB;unfold BS;have l1:(A++A6 x).length=(i+1)*9:=by rw[Ah9,hA,hxl];omega
 rw[← Ai0,Aj1 (by omega),Ah4 (by omega),Ap9 (by rw[Ah9,l1,Ah8,hB];omega),Ak6,Ai0]
theorem iY {H:AH}{o off n ov i c:Nat}{cells:List AV}{x:Ext}(hc:H[o]?=some (some (.cells cells)))(hl:off+n*9≤cells.length)(hi:i<n)(hn:n≤100000000)(hcn:n+1≤c)(hv:H[ov]?=some (some (.cells (A6 x))))(hne:ov≠o):
  ACalls prog 143 [.sl o off n 9 (.ex c),I i,.sl ov 0 1 9 (.ex 1)] H λr H'=>r=.sl o off (n+1) 9 (.ex c)∧
   ∃rest,H'=H.set o (some (.cells (cells.take (off+i*9)++A6 x++(cells.drop (off+i*9)).take ((n - i)*9)++rest))):=by
 refine Df ?_;unfold BH;have h1:¬(i:Int)=n:=by omega
 have hxl:=AB x;simp[Bj,CA,Room.least,Room.cut,YP,goInt,h1,show i≤n by omega,Ax (a:=n) (b:=1) (by omega) (by omega),Bv (a:=(n:Int)+1) (b:=i) (by omega) (by omega),Ax (a:=i) (b:=1) (by omega) (by omega),show i≤c by omega,show n≤c by omega,show ¬(c:Int)<n+1 by omega,hcn,show(0:Int)≤(n:Int)+1 by omega,show(0:Int)≤(i:Int)+1 by omega,show i+1≤n+1 by omega];refine bP_of (fO hv hc hne (by omega) (by omega) (by intro h;rw[h]at hl;simp at hl;omega)) ?_;simp;have ho:=(B5.1 hc).1;have mm:min (n+1 - i) (n - i)=n - i:=by omega
 have m1:min 1 (n+1 - i)=1:=by omega
 simp only[show i≤n+1 by omega,if_true,Ab];rw[aH (cs:=cells) (cs2:=cells) hc hc (by omega) (by rw[mm];omega),mm];have hB:(List.take ((n - i)*9) (List.drop (off+i*9) cells)).length=(n - i)*9:=by rw[Ah1,Ah8];omega
 generalize List.take ((n - i)*9) (List.drop (off+i*9) cells)=B' at hB;simp only[AA];have l1:(cells.take (off+(i+1)*9)).length=off+(i+1)*9:=by rw[Ah1];omega
 rw[aH (cs:=BS cells (off+(i+1)*9) B') (cs2:=A6 x) (by simp[ho]) (by rw[Cg (Ak2 hne)];exact hv) (by unfold BS;simp[l1];omega) (by omega),m1,Ah4 (l:=(A6 x).drop 0) (by simp[hxl])];simp only[AA,List.set_set,Ak9];refine⟨(cells.drop (off+(i+1)*9+B'.length)),?_⟩
 congr 3
 unfold BS;rw[hxl]
 have t1:List.take (off+i*9) (cells.take (off+(i+1)*9)++B'++cells.drop (off+(i+1)*9+B'.length))=cells.take (off+i*9):=by
  rw[Ai0,Aj1 (by omega),Am4,An2 (by omega)]
 have t2:List.drop (off+i*9+9) (cells.take (off+(i+1)*9)++B'++cells.drop (off+(i+1)*9+B'.length))=B'++cells.drop (off+(i+1)*9+B'.length):=by
  rw[Ai0,show off+i*9+9=(cells.take (off+(i+1)*9)).length by omega,At6]
 rw[t1,t2,Ai0]
theorem XD {m:Nat}:∀{a b:List AV},Dz m a→Dz m b→Dz m (a++b)
 | [],b,_,h=>h
 | x::a,b,h1,h2=>by simp only[Dz,An6]at h1⊢;exact⟨h1.1,XD h1.2 h2⟩
theorem Rm {m:Nat}:∀{a:List AV},Dz m a↔∀x∈a,Gz m x
 | []=>by simp[Dz]
 | x::a=>by simp only[Dz,Ac7,Rm (a:=a)]
theorem qG (x:Ext)(m:Nat):Dz m (A6 x):=by
 rw[Rm];intro a ha;simp only[A6,B2,Ak0,Aj7]at ha;rcases ha with rfl | ⟨b,_,rfl⟩<;>simp only[Gz]
theorem rF {H:AH}{o off n ov i:Nat}{cap:Room}{cells:List AV}{x:Ext}(hc:H[o]?=some (some (.cells cells)))(hl:off+n*9≤cells.length)(hi:i<n)(hn:n≤100000000)(hv:H[ov]?=some (some (.cells (A6 x))))(hne:ov≠o):
  BCall prog 143 [.sl o off n 9 cap,I i,.sl ov 0 1 9 (.ex 1)] H (.sl H.length 0 (n+1) 9 (.ge (n+1)))
   (H.set o none++[some (.cells ((cells.drop off).take (i*9)++A6 x++(cells.drop (off+i*9)).take ((n - i)*9)))]):=by
 have ho:=(B5.1 hc).1;have hxl:=AB x;generalize hN:(cells.drop off).take (i*9)++A6 x++(cells.drop (off+i*9)).take ((n - i)*9)=N
 have hNl:N.length=(n+1)*9:=by
  rw[← hN,Ah9,Ah9,hxl,Ah1,Ah1,Ah8,Ah8];omega
 have hall:∀c,n≤c→ACalls prog 143 [.sl o off n 9 (.ex c),I i,.sl ov 0 1 9 (.ex 1)] H λr H'=>
   (r=.sl H.length 0 (n+1) 9 (.ge (n+1))∧H'=H++[some (.cells N)])∨∃c rest,n+1≤c∧r=.sl o off (n+1) 9 (.ex c)∧H'=H.set o (some (.cells (cells.take off++N++rest))):=by
  intro c hcn;rcases Ah2 n c with h | h
  ·refine(iY hc hl hi hn h hv hne).mono ?_
   rintro r H' ⟨rfl,rest,rfl⟩;refine .inr ⟨c,rest,h,rfl,?_⟩
   congr 3
   rw[← hN,Aq1 off (i*9),Aq1 (i*9) off];have:cells.take (off+i*9)=cells.take off++(cells.drop off).take (i*9):=by rw[List.take_add]
   rw[this];simp[Ai0]
  ·have:c=n:=by omega
   subst this;refine(nO hc hl hi hn hv).mono ?_;rintro r H' ⟨rfl,rfl⟩;exact .inl ⟨rfl,by rw[hN]⟩
 have hany:ACalls prog 143 [.sl o off n 9 cap,I i,.sl ov 0 1 9 (.ex 1)] H λr H'=>
   (r=.sl H.length 0 (n+1) 9 (.ge (n+1))∧H'=H++[some (.cells N)])∨∃c rest,n+1≤c∧r=.sl o off (n+1) 9 (.ex c)∧H'=H.set o (some (.cells (cells.take off++N++rest))):=by
  cases cap with
  | ge k=>exact ACalls.room λc _ h=>hall c h
  | ex c=>
   rcases Ah2 c n with h | h
   ·intro G vs hH hv
    exfalso
    simp only[VRs]at hv;obtain⟨v,r,rfl,h1,h2⟩:=hv;simp only[VR]at h1;obtain⟨_,a,c',rfl,hlc,hs⟩:=h1;simp only[SlAt]at hs;omega
   ·exact hall c h
 refine ACalls.canon hany ?_;rintro hb r1 H1 h1
 have hbN:Dz H.length N:=by
  have hbc:Dz H.length cells:=hb o _ hc;rw[Rm]at hbc;rw[← hN];refine XD (XD ?_ (qG x _)) ?_
  ·rw[Rm];exact λa ha=>hbc a (Am8 (Al4 ha))
  ·rw[Rm];exact λa ha=>hbc a (Am8 (Al4 ha))
 rcases h1 with⟨rfl,rfl⟩ | ⟨c,rest,hcn,rfl,rfl⟩
 ·refine⟨_,_,_,Canon.grown hb hbN,?_⟩
  intro G v hG hr;refine⟨?_,λp ℓ h=>by cases h⟩;simp only[VR]at hr⊢;obtain⟨q0,a,c,rfl,hlc,hs⟩:=hr;refine⟨by simp[Cfg.ren],a,c,rfl,hlc,?_⟩
  simpa[Cfg.ren,xN,rR]using hs
 ·refine⟨_,_,_,Canon.placed (off:=off) (l:=c*9) hb ho hbN (cs1:=cells.take off++N++rest) ?_ ?_ ?_,?_⟩
  ·simp;omega
  ·have:(cells.take off).length=off:=by rw[Ah1];omega
   rw[Ai0]
   conv=>lhs;arg 2;arg 1;rw[← this]
   rw[At6,List.take_left]
  ·rw[hNl];omega
  ·intro G v hG hr
   simp only[VR]at hr;obtain⟨q0,a,c',rfl,hlc,hs⟩:=hr;simp only[SlAt]at hs;obtain⟨rfl,hs⟩:=hs;have hs:=hs.resolve_left (by omega);obtain⟨rfl,hs2⟩:=hs;have e:wU H.length o off H.length=(o,off):=if_pos rfl;have e2:dV H.length (c'*9) H.length=some (c'*9):=if_pos rfl;refine⟨?_,?_⟩
   ·simp only[VR]
    refine⟨by simp[Cfg.ren],_,c',rfl,by omega,?_⟩;simp only[SlAt];refine⟨hcn,.inr ⟨by simp[Cfg.ren,e],?_⟩⟩;simp[Cfg.ren,e2]
   ·intro p ℓ h
    unfold dV at h;split at h
    ·rename_i hp
     injection h with h;subst hp;subst h;rw[e];omega
    ·cases h
theorem mG:∀{l m:List Ext},srt l→srt m→(∀x,x∈l↔x∈m)→l=m
 | [],[],_,_,_=>rfl
 | [],y::m,_,_,h=>by have:=(h y).2 (by simp);simp at this
 | x::l,[],_,_,h=>by have:=(h x).1 (by simp);simp at this
 | x::l,y::m,hl,hm,h=>by
  have hl':=Am7.1 hl;have hm':=Am7.1 hm
  have e:x=y:=by
   rcases Ak0.1 ((h x).1 (by simp))with e | h1
   ·exact e
   ·rcases Ak0.1 ((h y).2 (by simp))with e | h2
    ·exact e.symm
    ·have:=hm'.1 x h1;have:=hl'.1 y h2;omega
  subst e;refine congrArg _ (mG hl'.2 hm'.2 λz=>?_)
  constructor
  ·intro hz
   rcases Ak0.1 ((h z).1 (by simp[hz]))with e | h1
   ·have:=hl'.1 z hz;rw[e]at this;omega
   ·exact h1
  ·intro hz
   rcases Ak0.1 ((h z).2 (by simp[hz]))with e | h1
   ·have:=hm'.1 z hz;rw[e]at this;omega
   ·exact h1
theorem TY {x y:Ext}(h1:x.no=y.no)(h2:∀k,k<8→x.b.getD k 0=y.b.getD k 0):x=y:=by
 obtain⟨a,b,hb⟩:=x;obtain⟨c,d,hd⟩:=y;simp only at h1 h2;subst h1
 have:b=d:=by
  refine List.ext_getElem (by omega) λk hk1 hk2=>?_
  have:=h2 k (by omega)
  rw[Ai5,Ai5,DJ hk1,DJ hk2]at this
  simpa using this
 subst this;rfl
theorem Xv {l:List Ext}{x:Ext}(h:x∈l):∃k:Nat,l[k]?=some x:=Ai1.1 h
theorem iI {l:List Ext}(hs:srt l){x:Ext}(hx:x∈l){k:Nat}(hk:k<8):OS l (x.no*8+k)=x.b.getD k 0:=by
 obtain⟨i,hi⟩:=Xv hx;rw[UA hs hi (by omega),show((x.no*8+(k:Int)) % 8).toNat=k by omega]
theorem vE {l m:List Ext}(hl:srt l)(hm:srt m)(h1:∀no,BP l no↔BP m no)(h2:∀p,OS l p=OS m p):l=m:=by
 have key:∀{l m:List Ext},srt l→srt m→(∀no,BP l no↔BP m no)→(∀p,OS l p=OS m p)→∀x,x∈l→x∈m:=by
  intro l m hl hm h1 h2 x hx;obtain⟨y,hy,e⟩:=(h1 x.no).1 ⟨x,hx,rfl⟩
  have:x=y:=TY e.symm λk hk=>by
   rw[← iI hl hx hk,← iI hm hy hk,h2,e]
  rw[this];exact hy
 exact mG hl hm λx=>⟨key hl hm h1 h2 x,key hm hl (λno=>(h1 no).symm) (λp=>(h2 p).symm) x⟩
def Pt (no:Int):Ext:=⟨no,List.replicate 8 0,by simp⟩
def DL (l:List Ext)(no:Int):List Ext:=if BP l no then l else l.take (posL l no)++Pt no::l.drop (posL l no)
theorem fT {l:List Ext}{no:Int}{x:Ext}(h:x∈l.take (posL l no)):x.no<no:=by
 obtain⟨k,hk⟩:=Xv h;have h1:=(B5.1 hk).1;rw[Ah1]at h1;rw[Ah5,if_pos (by omega)]at hk;exact cB (by omega) hk
theorem fS {l:List Ext}(hs:srt l){no:Int}{x:Ext}(h:x∈l.drop (posL l no)):no≤x.no:=by
 obtain⟨k,hk⟩:=Xv h;rw[Ah6]at hk;cases h0:l[posL l no]? with
 | none=>
  have h1:=(B5.1 hk).1;rw[List.getElem?_eq_none_iff]at h0;omega
 | some y=>
  have h2:=lT h0;rcases Al1 k with h3 | h3
  ·subst h3;rw[Al9,h0]at hk;injection hk with hk;rw[← hk];exact h2
  ·have:=Oy hs h0 hk (by omega);omega
theorem Jl {l:List Ext}(hs:srt l)(no:Int):srt (DL l no):=by
 unfold DL
 split
 ·exact hs
 ·rename_i h
  have hd:∀x∈l.drop (posL l no),no<x.no:=by
   intro x hx;have h1:=fS hs hx;have h2:x.no≠no:=λe=>h ⟨x,Am8 hx,e⟩
   omega
  refine Am9.2 ⟨As6 (List.take_sublist _ l) hs,Am7.2 ⟨hd,As6 (List.drop_sublist _ l) hs⟩,?_⟩;intro a ha b hb;have h1:=fT ha;rcases Ak0.1 hb with rfl | hb
  ·exact h1
  ·have:=hd b hb;omega
theorem Ps {l:List Ext}{no:Int}{x:Ext}:x∈DL l no↔x∈l∨(¬BP l no∧x=Pt no):=by
 unfold DL
 split
 ·rename_i h;simp[h]
 ·rename_i h
  rw[Ak1,Ak0];have:x∈l↔x∈l.take (posL l no)∨x∈l.drop (posL l no):=by rw[← Ak1,Al5]
  rw[this]
  constructor
  ·rintro(h1 | h1 | h1)
   ·exact .inl (.inl h1)
   ·exact .inr ⟨h,h1⟩
   ·exact .inl (.inr h1)
  ·rintro((h1 | h1) | ⟨_,h1⟩)
   ·exact .inl h1
   ·exact .inr (.inr h1)
   ·exact .inr (.inl h1)
theorem Sg {l:List Ext}{no a:Int}:BP (DL l no) a↔BP l a∨a=no:=by
 unfold BP
 constructor
 ·rintro⟨x,hx,e⟩
  rcases Ps.1 hx with h | ⟨_,rfl⟩
  ·exact .inl ⟨x,h,e⟩
  ·exact .inr e.symm
 ·rintro(⟨x,hx,e⟩ | rfl)
  ·exact⟨x,Ps.2 (.inl hx),e⟩
  ·by_cases h:BP l a
   ·obtain⟨x,hx,e⟩:=h
    exact⟨x,Ps.2 (.inl hx),e⟩
   ·exact⟨Pt a,Ps.2 (.inr ⟨h,rfl⟩),rfl⟩
theorem O8 {l:List Ext}(hs:srt l){x:Ext}(hx:x∈l){p:Int}(h:x.no=p/8):OS l p=x.b.getD (p % 8).toNat 0:=by
 obtain⟨k,hk⟩:=Xv hx;exact UA hs hk h
theorem lH {l:List Ext}(hs:srt l)(no p:Int):OS (DL l no) p=OS l p:=by
 by_cases h:BP l (p/8)
 ·obtain⟨x,hx,e⟩:=h
  rw[O8 hs hx e,O8 (Jl hs no) (Ps.2 (.inl hx)) e]
 ·rw[FL h]
  by_cases h2:p/8=no
  ·rw[O8 (Jl hs no) (Ps.2 (.inr ⟨h2▸h,rfl⟩)) h2.symm]
   have:(p % 8).toNat<8:=by omega
   simp only[Pt];rw[Ai5,Ao3,if_pos this];rfl
  ·exact FL (λh3=>(Sg.1 h3).elim h h2)
theorem rO {l:List Ext}(hs:srt l)(no:Int):posL (DL l no) no=posL l no:=by
 unfold DL
 split
 ·rfl
 ·rename_i h
  have hp:=Xx l no;refine Qe (by simp;omega) ?_ ?_
  ·intro m x hm hx
   rw[Ag8 (by rw[Ah1];omega),Ah5,if_pos hm]at hx;exact cB hm hx
  ·intro x hx
   rw[Ah0 (by rw[Ah1];omega),Ah1,show posL l no - min (posL l no) l.length=0 by omega]at hx;simp at hx;rw[← hx];simp[Pt]
theorem fG {l:List Ext}(hs:srt l)(no:Int):∃x,(DL l no)[posL l no]?=some x∧x.no=no:=by
 have:=(RU (Jl hs no) (no:=no)).1 (Sg.2 (.inr rfl))
 rwa[rO hs]at this
theorem Yz (l:List Ext)(no:Int):(DL l no).length≤l.length+1∧l.length≤(DL l no).length:=by
 have hp:=Xx l no;unfold DL
 split
 ·omega
 ·simp;omega
def Xj (x:Ext)(off:Nat)(bs:List UInt8):Ext:=if h:off+bs.length≤8 then⟨x.no,x.b.take off++bs++x.b.drop (off+bs.length),by have:=x.hb;simp;omega⟩else x
theorem lV (x:Ext)(off:Nat)(bs:List UInt8):(Xj x off bs).no=x.no:=by unfold Xj;split<;>rfl
theorem sB {x:Ext}{off:Nat}{bs:List UInt8}(h:off+bs.length≤8):(Xj x off bs).b=x.b.take off++bs++x.b.drop (off+bs.length):=by unfold Xj;rw[dif_pos h]
theorem sC {x:Ext}{off:Nat}{bs:List UInt8}(h:off+bs.length≤8){k:Nat}(hk:k<8):(Xj x off bs).b.getD k 0=if off≤k∧k<off+bs.length then bs.getD (k - off) 0 else x.b.getD k 0:=by
 have hb:=x.hb;have h1:(x.b.take off).length=off:=by rw[Ah1];omega
 rw[sB h];simp only[Ai5]
 split
 ·rename_i c
  rw[Ag8 (by rw[Ah9];omega),Ah0 (by omega),h1]
 ·rename_i c
  by_cases c1:k<off
  ·rw[Ai0,Ag8 (by omega),Ah5,if_pos c1]
  ·rw[Ah0 (by rw[Ah9];omega),Ah9,h1,Ah6]
   congr 2;omega
def Xk (l:List Ext)(no:Int)(off:Nat)(bs:List UInt8):List Ext:=l.map λx=>if x.no=no then Xj x off bs else x
theorem jN (no:Int)(off:Nat)(bs:List UInt8)(x:Ext):(if x.no=no then Xj x off bs else x).no=x.no:=by split;exact lV ..;rfl
abbrev Ao9:=@List.pairwise_map
theorem mF {l:List Ext}{f:Ext→Ext}(hf:∀x∈l,(f x).no=x.no)(hs:srt l):srt (l.map f):=by
 unfold srt at*;rw[Ao9];refine hs.imp_of_mem λha hb h=>?_
 rw[hf _ ha,hf _ hb];exact h
theorem lG {l:List Ext}{f:Ext→Ext}(hf:∀x∈l,(f x).no=x.no){no:Int}:BP (l.map f) no↔BP l no:=by
 unfold BP
 constructor
 ·rintro⟨y,hy,e⟩
  obtain⟨x,hx,rfl⟩:=Aj7.1 hy;exact⟨x,hx,by rw[← e,hf x hx]⟩
 ·rintro⟨x,hx,e⟩
  exact⟨f x,Aj7.2 ⟨x,hx,rfl⟩,by rw[← e,hf x hx]⟩
theorem lY {l:List Ext}(hs:srt l)(no:Int)(off:Nat)(bs:List UInt8):srt (Xk l no off bs):=mF (λx _=>jN ..) hs
theorem lW {l:List Ext}{no a:Int}{off:Nat}{bs:List UInt8}:BP (Xk l no off bs) a↔BP l a:=lG (λx _=>jN ..)
theorem xZ {l:List Ext}(hs:srt l){no:Int}{off:Nat}{bs:List UInt8}(h:off+bs.length≤8)(hn:BP l no)(p:Int):
  OS (Xk l no off bs) p=if no*8+off≤p∧p<no*8+off+bs.length then bs.getD (p - (no*8+off)).toNat 0 else OS l p:=by
 by_cases h0:BP l (p/8)
 ·obtain⟨x,hx,e⟩:=h0
  rw[O8 (x:=if x.no=no then Xj x off bs else x) (lY hs no off bs) (Aj7.2 ⟨x,hx,rfl⟩) (by rw[jN];exact e),O8 hs hx e]
  by_cases c:x.no=no
  ·rw[if_pos c,sC h (by omega)]
   by_cases c2:no*8+off≤p∧p<no*8+off+bs.length
   ·rw[if_pos c2,if_pos (by omega)];congr 1;omega
   ·rw[if_neg c2,if_neg (by omega)]
  ·rw[if_neg c,if_neg (by omega)]
 ·rw[FL (by rw[lW];exact h0),FL h0,if_neg]
  intro c;have:p/8=no:=by omega
  exact h0 (this▸hn)
theorem lX {l:List Ext}(hs:srt l){k:Nat}{x:Ext}(hx:l[k]?=some x)(off:Nat)(bs:List UInt8):l.set k (Xj x off bs)=Xk l x.no off bs:=by
 refine Aj5 λi=>?_
 unfold Xk;rw[Ai6,Al3];have hk:=(B5.1 hx).1
 by_cases h:k=i
 ·subst h
  obtain⟨h1,h2⟩:=B5.1 hx;simp[hk,h2]
 ·rw[if_neg h]
  cases hi:l[i]? with
  | none=>rfl
  | some y=>
   have:y.no≠x.no:=by
    rcases Nat.lt_or_gt_of_ne h with h | h
    ·have:=Oy hs hx hi h;omega
    ·have:=Oy hs hi hx h;omega
   simp[this]
def E1 (l:List Ext)(p:Int)(bs:List UInt8):List Ext:=Xk (DL l (p/8)) (p/8) (p % 8).toNat bs
theorem jF {l:List Ext}(hs:srt l)(p:Int)(bs:List UInt8):srt (E1 l p bs):=lY (Jl hs _) ..
theorem rS {l:List Ext}{p a:Int}{bs:List UInt8}:BP (E1 l p bs) a↔BP l a∨a=p/8:=by unfold E1;rw[lW,Sg]
theorem vU {l:List Ext}(hs:srt l){p:Int}{bs:List UInt8}(h:p % 8+bs.length≤8)(q:Int):OS (E1 l p bs) q=if p≤q∧q<p+bs.length then bs.getD (q - p).toNat 0 else OS l q:=by
 unfold E1;rw[xZ (Jl hs _) (by omega) (Sg.2 (.inr rfl)),lH hs,show p/8*8+((p % 8).toNat:Int)=p by omega]
def BN (l:List Ext)(p:Int):List UInt8→List Ext
 | []=>l
 | b::r=>BN (E1 l p [b]) (p+1) r
theorem YM:∀{bs:List UInt8} {l:List Ext} (hs:srt l) (p:Int),srt (BN l p bs)
 | [],l,hs,p=>hs
 | b::r,l,hs,p=>YM (jF hs p [b]) (p+1)
theorem cU:∀{bs:List UInt8} {l:List Ext} {p a:Int},BP (BN l p bs) a↔BP l a∨∃q,p≤q∧q<p+bs.length∧a=q/8
 | [],l,p,a=>by
  unfold BN;simp only[Aq6];exact⟨.inl,λh=>h.elim id fun ⟨q,h1,h2,_⟩=>by omega⟩
 | b::r,l,p,a=>by
  unfold BN;rw[cU,rS];simp only[Al7]
  constructor
  ·rintro((h | h) | ⟨q,h1,h2,h3⟩)
   ·exact .inl h
   ·exact .inr ⟨p,by omega,by omega,h⟩
   ·exact .inr ⟨q,by omega,by omega,h3⟩
  ·rintro(h | ⟨q,h1,h2,h3⟩)
   ·exact .inl (.inl h)
   ·by_cases c:q=p
    ·exact .inl (.inr (c▸h3))
    ·exact .inr ⟨q,by omega,by omega,h3⟩
theorem sX:∀{bs:List UInt8} {l:List Ext} (hs:srt l) (p q:Int),OS (BN l p bs) q=if p≤q∧q<p+bs.length then bs.getD (q - p).toNat 0 else OS l q
 | [],l,hs,p,q=>by
  unfold BN;rw[if_neg (by simp only[Aq6];omega)]
 | b::r,l,hs,p,q=>by
  unfold BN;rw[sX (jF hs p [b]),vU hs (by simp only[Aa4];omega)];simp only[Aa4]
  by_cases c:p+1≤q∧q<p+1+r.length
  ·rw[if_pos c,if_pos (by omega),show(q - p).toNat=(q - (p+1)).toNat+1 by omega];rfl
  ·rw[if_neg c]
   by_cases c2:p=q
   ·subst c2
    rw[if_pos (by omega),if_pos (by omega)];simp
   ·rw[if_neg (by omega),if_neg (by omega)]
theorem kA:∀{bs cs:List UInt8} {l:List Ext} {p:Int},BN l p (bs++cs)=BN (BN l p bs) (p+bs.length) cs
 | [],cs,l,p=>by simp[BN]
 | b::r,cs,l,p=>by
  show BN (E1 l p [b]) (p+1) (r++cs)=BN (BN (E1 l p [b]) (p+1) r) (p+(r.length+1:Nat)) cs
  rw[kA];congr 1;omega
theorem sY {l:List Ext}(hs:srt l){p:Int}{bs:List UInt8}(h:p % 8+bs.length≤8)(hb:bs≠[]):E1 l p bs=BN l p bs:=by
 have hlen:0<bs.length:=List.length_pos_iff.2 hb;refine vE (jF hs p bs) (YM hs p) (λa=>?_) (λq=>?_)
 ·rw[rS,cU]
  refine or_congr_right ⟨λh1=>⟨p,by omega,by omega,h1⟩,?_⟩;rintro⟨q,h1,h2,rfl⟩;omega
 ·rw[vU hs h,sX hs]
theorem kC:∀{bs:List UInt8} {l:List Ext} {p:Int},(BN l p bs).length≤l.length+bs.length
 | [],l,p=>by simp[BN]
 | b::r,l,p=>by
  unfold BN;have h1:=kC (bs:=r) (l:=E1 l p [b]) (p:=p+1);have h2:(E1 l p [b]).length=(DL l (p/8)).length:=by simp[E1,Xk]
  have h3:=(Yz l (p/8)).1;simp only[Al7];omega
theorem XH {size:Int}:∀{b:List UInt8} {p:Int},cleanB size p b↔∀k:Nat,k<b.length→size≤p+k→b.getD k 0=0
 | [],p=>by simp[cleanB]
 | x::r,p=>by
  unfold cleanB;rw[XH]
  constructor
  ·rintro⟨h1,h2⟩ k hk hs
   cases k with
   | zero=>
    simp
    by_cases c:x=0
    ·exact c
    ·have:=h1 c;omega
   | succ k=>
    have:=h2 k (by simpa using hk) (by omega)
    simpa using this
  ·intro h
   refine⟨λhx=>?_,λk hk hs=>?_⟩
   ·have:=h 0 (by simp)
    simp at this
    by_cases c:p<size
    ·exact c
    ·exact absurd (this (by omega)) hx
   ·have:=h (k+1) (by simpa using hk) (by omega)
    simpa using this
theorem XI {size:Int}{x:Ext}:Jc size x↔∀k:Nat,k<8→size≤x.no*8+k→x.b.getD k 0=0:=by
 have:=XH (size:=size) (b:=x.b) (p:=x.no*8)
 rw[x.hb]at this;exact this
theorem lK {size:Int}:∀{l:List Ext} {p:Int},okL size p l↔srt l∧∀x∈l,p<x.no∧x.no<137438953472∧Jc size x
 | [],p=>by simp[okL,srt]
 | x::r,p=>by
  rw[Sj,lK]
  constructor
  ·rintro⟨h1,h2,h3,h4,h5⟩
   refine⟨Am7.2 ⟨λy hy=>(h5 y hy).1,h4⟩,λy hy=>?_⟩;rcases Ak0.1 hy with rfl | hy
   ·exact⟨h1,h2,h3⟩
   ·have:=h5 y hy;exact⟨by omega,this.2⟩
  ·rintro⟨h1,h2⟩
   have h1':=Am7.1 h1;have h3:=h2 x (by simp);refine⟨h3.1,h3.2.1,h3.2.2,h1'.2,λy hy=>?_⟩
   have:=h2 y (by simp[hy])
   exact⟨h1'.1 y hy,this.2⟩
theorem xU {size:Int}{l:List Ext}:okL size (-1) l↔srt l∧(∀no,BP l no→0≤no∧no<137438953472)∧∀p,size≤p→OS l p=0:=by
 rw[lK]
 constructor
 ·rintro⟨hs,h⟩
  refine⟨hs,?_,λp hp=>?_⟩
  ·rintro no ⟨x,hx,rfl⟩
   have:=h x hx;omega
  ·by_cases c:BP l (p/8)
   ·obtain⟨x,hx,e⟩:=c
    rw[O8 hs hx e];exact XI.1 (h x hx).2.2 _ (by omega) (by omega)
   ·exact FL c
 ·rintro⟨hs,h1,h2⟩
  refine⟨hs,λx hx=>?_⟩
  have:=h1 x.no ⟨x,hx,rfl⟩
  refine⟨by omega,this.2,XI.2 λk hk hz=>?_⟩;rw[← iI hs hx hk];exact h2 _ hz
def Cm (x:Ext)(a b:Int):Ext:=⟨x.no,x.b.mapIdx λk y=>if a≤x.no*8+(k:Int)∧x.no*8+(k:Int)<b then 0 else y,by have:=x.hb;simpa using this⟩
theorem Db {x:Ext}{a b:Int}{k:Nat}(hk:k<8):(Cm x a b).b.getD k 0=if a≤x.no*8+(k:Int)∧x.no*8+(k:Int)<b then 0 else x.b.getD k 0:=by
 have hb:=x.hb;unfold Cm;simp only[Ai5,List.getElem?_mapIdx];rw[DJ (show k<x.b.length by omega)];rfl
def PR (l:List Ext)(a b:Int):List Ext:=l.map λx=>Cm x a b
theorem YK {l:List Ext}(hs:srt l)(a b:Int):srt (PR l a b):=mF (λ_ _=>rfl) hs
theorem YJ {l:List Ext}{a b no:Int}:BP (PR l a b) no↔BP l no:=lG (f:=λx=>Cm x a b) (λ_ _=>rfl)
theorem mI {l:List Ext}(hs:srt l)(a b p:Int):OS (PR l a b) p=if a≤p∧p<b then 0 else OS l p:=by
 by_cases h:BP l (p/8)
 ·obtain⟨x,hx,e⟩:=h
  rw[O8 (x:=Cm x a b) (YK hs a b) (Aj7.2 ⟨x,hx,rfl⟩) e,O8 hs hx e,Db (by omega)];rw[show x.no*8+((p % 8).toNat:Int)=p by omega]
 ·rw[FL h,FL (by rw[YJ];exact h)];split<;>rfl
theorem M3 {l:List Ext}(hs:srt l)(f:Ext→Bool):srt (l.filter f):=List.Pairwise.filter f hs
theorem Qa {l:List Ext}{f:Int→Bool}{no:Int}:BP (l.filter λx=>f x.no) no↔BP l no∧f no=true:=by
 unfold BP
 constructor
 ·rintro⟨x,hx,rfl⟩
  rw[Ao2]at hx;exact⟨⟨x,hx.1,rfl⟩,hx.2⟩
 ·rintro⟨⟨x,hx,rfl⟩,h⟩
  exact⟨x,Ao2.2 ⟨hx,h⟩,rfl⟩
theorem Z3 {l:List Ext}(hs:srt l){f:Int→Bool}(p:Int):OS (l.filter λx=>f x.no) p=if f (p/8)=true then OS l p else 0:=by
 by_cases h:BP l (p/8)
 ·obtain⟨x,hx,e⟩:=h
  split
  ·rename_i c
   rw[O8 (M3 hs _) (Ao2.2 ⟨hx,by rw[e];exact c⟩) e,O8 hs hx e]
  ·rename_i c
   exact FL (λh2=>c (Qa.1 h2).2)
 ·rw[FL h,FL (λh2=>h (Qa.1 h2).1)];split<;>rfl
def Fz (l:List Ext)(size:Int):List Ext:=PR (l.filter λx=>decide (x.no*8<size)) size 1099511627776
theorem yQ {l:List Ext}(hs:srt l)(size:Int):srt (Fz l size):=YK (M3 hs _) _ _
theorem yP {l:List Ext}{size no:Int}:BP (Fz l size) no↔BP l no∧no*8<size:=by
 unfold Fz;rw[YJ,Qa (f:=λno=>decide (no*8<size))];simp
theorem zdfcZ {l:List Ext}(hs:srt l){size:Int}(h:∀no,BP l no→no<137438953472)(p:Int):OS (Fz l size) p=if p<size then OS l p else 0:=by
 unfold Fz;rw[mI (M3 hs _),Z3 hs (f:=λno=>decide (no*8<size))]
 by_cases c:p<size
 ·rw[if_neg (by omega),if_pos c,if_pos (by simp;omega)]
 ·rw[if_neg c]
  by_cases c2:p<1099511627776
  ·rw[if_pos ⟨by omega,c2⟩]
  ·rw[if_neg (by omega),FL]
   ·split<;>rfl
   ·intro h2;have:=h _ h2;omega
def gone (pos n no:Int):Bool:=decide (pos≤no*8)&&decide (no*8+8≤pos+n)
def Fp (l:List Ext)(pos n:Int):List Ext:=PR (l.filter λx=>!gone pos n x.no) pos (pos+n)
theorem xY {l:List Ext}(hs:srt l)(pos n:Int):srt (Fp l pos n):=YK (M3 hs _) _ _
theorem xX {l:List Ext}{pos n no:Int}:BP (Fp l pos n) no↔BP l no∧¬(pos≤no*8∧no*8+8≤pos+n):=by
 unfold Fp;rw[YJ,Qa (f:=λno=>!gone pos n no)];simp[gone];intro _;omega
theorem zdeyZ {l:List Ext}(hs:srt l)(pos n p:Int):OS (Fp l pos n) p=if pos≤p∧p<pos+n then 0 else OS l p:=by
 unfold Fp;rw[mI (M3 hs _),Z3 hs (f:=λno=>!gone pos n no)]
 split
 ·rfl
 ·rename_i c
  split
  ·rfl
  ·rename_i c2
   simp[gone]at c2;omega
def Hh (l:List Ext)(no:Int):Nat→List Ext
 | 0=>l
 | k+1=>Hh (DL l no) (no+1) k
theorem bU:∀{k:Nat} {l:List Ext} (hs:srt l) (no:Int),srt (Hh l no k)
 | 0,l,hs,no=>hs
 | k+1,l,hs,no=>bU (k:=k) (Jl hs no) (no+1)
theorem rT:∀{k:Nat} {l:List Ext} {no a:Int},BP (Hh l no k) a↔BP l a∨(no≤a∧a<no+k)
 | 0,l,no,a=>by unfold Hh;exact⟨.inl,λh=>h.elim id λh=>by omega⟩
 | k+1,l,no,a=>by
  unfold Hh;rw[rT,Sg]
  constructor
  ·rintro((h | h) | h)
   ·exact .inl h
   ·exact .inr (by omega)
   ·exact .inr (by omega)
  ·rintro(h | h)
   ·exact .inl (.inl h)
   ·by_cases c:a=no
    ·exact .inl (.inr c)
    ·exact .inr (by omega)
theorem vV:∀{k:Nat} {l:List Ext} (hs:srt l) (no p:Int),OS (Hh l no k) p=OS l p
 | 0,l,hs,no,p=>rfl
 | k+1,l,hs,no,p=>by
  unfold Hh;rw[vV (Jl hs no),lH hs]
theorem bV:∀{k:Nat} {l:List Ext} {no:Int},Hh l no (k+1)=DL (Hh l no k) (no+k)
 | 0,l,no=>by simp[Hh]
 | k+1,l,no=>by
  show Hh (DL l no) (no+1) (k+1)=_
  rw[bV (k:=k)]
  show DL (Hh (DL l no) (no+1) k) (no+1+k)=DL (Hh (DL l no) (no+1) k) (no+(k+1:Nat))
  congr 1;omega
theorem bR:∀{k:Nat} {l:List Ext} {no:Int},(Hh l no k).length≤l.length+k∧l.length≤(Hh l no k).length
 | 0,l,no=>by simp[Hh]
 | k+1,l,no=>by
  unfold Hh;have h1:=bR (k:=k) (l:=DL l no) (no:=no+1);have h2:=Yz l no;omega
def allocN (pos n:Int):Nat:=((pos+n - 1)/8 - pos/8+1).toNat
def Mt (l:List Ext)(pos n:Int):List Ext:=Hh l (pos/8) (allocN pos n)
abbrev KD:=Int×List Ext
def DI (c:KD)(pos:Int)(bs:List UInt8):Option KD:=
 if Dj c.1 c.2∧0≤pos∧bs.length≤4096∧pos≤1099511627776 - bs.length then some (if bs=[]then c else(max c.1 (pos+bs.length),BN c.2 pos bs))else none
def Cx (c:KD)(size:Int):Option KD:=if Dj c.1 c.2∧0≤size∧size≤1099511627776 then some (size,Fz c.2 size)else none
def BU (c:KD)(pos n:Int)(keep:Bool):Option KD:=
 if Dj c.1 c.2∧0≤pos∧1≤n∧n≤32768∧pos≤1099511627776 - n then some (if keep then c.1 else max c.1 (pos+n),Mt c.2 pos n)else none
def CB (c:KD)(pos n:Int):Option KD:=
 if Dj c.1 c.2∧0≤pos∧1≤n∧n≤1099511627776∧pos≤1099511627776 - n then some (c.1,Fp c.2 pos n)else none
theorem bQ {size:Int}{l:List Ext}:Dj size l↔0≤size∧size≤1099511627776∧srt l∧(∀no,BP l no→0≤no∧no<137438953472)∧∀p,size≤p→OS l p=0:=by
 unfold Dj;rw[xU]
theorem nY {c d:KD}{pos:Int}{bs:List UInt8}(h:DI c pos bs=some d):Dj d.1 d.2:=by
 unfold DI at h;split at h
 ·rename_i g
  injection h with h;subst h
  split
  ·exact g.1
  ·rename_i hb
   have hlen:0<bs.length:=List.length_pos_iff.2 hb;obtain⟨g1,g2,g3,g4⟩:=g;rw[bQ]at g1⊢;obtain⟨a1,a2,a3,a4,a5⟩:=g1;refine⟨by simp only;omega,by simp only;omega,YM a3 pos,?_,?_⟩
   ·intro no hno
    rcases cU.1 hno with h | ⟨q,h1,h2,h3⟩
    ·exact a4 no h
    ·omega
   ·intro p hp
    simp only at hp;rw[sX a3,if_neg (by omega)];exact a5 p (by omega)
 ·cases h
theorem nX {c d:KD}{size:Int}(h:Cx c size=some d):Dj d.1 d.2:=by
 unfold Cx at h;split at h
 ·rename_i g
  injection h with h;subst h;obtain⟨g1,g2,g3⟩:=g;rw[bQ]at g1⊢;obtain⟨a1,a2,a3,a4,a5⟩:=g1;refine⟨g2,g3,yQ a3 size,λno hno=>a4 no (yP.1 hno).1,λp hp=>?_⟩;rw[zdfcZ a3 (λno h=>(a4 no h).2),if_neg (by simp only at hp;omega)]
 ·cases h
theorem nV {c d:KD}{pos n:Int}{keep:Bool}(h:BU c pos n keep=some d):Dj d.1 d.2:=by
 unfold BU at h;split at h
 ·rename_i g
  injection h with h;subst h;obtain⟨g1,g2,g3,g4,g5⟩:=g;rw[bQ]at g1⊢;obtain⟨a1,a2,a3,a4,a5⟩:=g1;refine⟨by simp only;split<;>omega,by simp only;split<;>omega,bU a3 _,λno hno=>?_,λp hp=>?_⟩
  ·rcases rT.1 hno with h | h
   ·exact a4 no h
   ·unfold allocN at h;omega
  ·unfold Mt
   rw[vV a3];refine a5 p ?_;simp only at hp;split at hp<;>omega
 ·cases h
theorem nW {c d:KD}{pos n:Int}(h:CB c pos n=some d):Dj d.1 d.2:=by
 unfold CB at h;split at h
 ·rename_i g
  injection h with h;subst h;obtain⟨g1,g2,g3,g4,g5⟩:=g;rw[bQ]at g1⊢;obtain⟨a1,a2,a3,a4,a5⟩:=g1;refine⟨a1,a2,xY a3 _ _,λno hno=>a4 no (xX.1 hno).1,λp hp=>?_⟩;rw[zdeyZ a3]
  split
  ·rfl
  ·exact a5 p hp
 ·cases h
theorem AI {v:AV}(h:Bh v=true):oneA v=true:=by
 unfold Bh at h;split at h
 ·rfl
 ·rfl
 ·rfl
 ·cases h
theorem GX {α:Type}{enc:α→List AV}{sz:Nat}(hsz:∀x,(enc x).length=sz):∀(l:List α) (i:Nat),(l.flatMap enc).take (i*sz)=(l.take i).flatMap enc
 | [],i=>by simp
 | a::l,0=>by simp
 | a::l,i+1=>by
  have ha:=hsz a;rw[At5,Aj3,Aj3,← GX hsz l i,show(i+1)*sz=(enc a).length+i*sz by rw[ha,Ak8];omega,List.take_length_add_append]
theorem Gd {α:Type}{enc:α→List AV}{sz:Nat}(hsz:∀x,(enc x).length=sz):∀(l:List α) (i:Nat),(l.flatMap enc).drop (i*sz)=(l.drop i).flatMap enc
 | [],i=>by simp
 | a::l,0=>by simp
 | a::l,i+1=>by
  have ha:=hsz a;rw[List.drop_succ_cons,Aj3,← Gd hsz l i,show(i+1)*sz=(enc a).length+i*sz by rw[ha,Ak8];omega,List.drop_length_add_append]
def Grew (H H':AH):Prop:=H.length≤H'.length∧∀i,i<H.length→H'[i]?=H[i]?
theorem Grew.refl (H:AH):Grew H H:=⟨Ah3 _,λ_ _=>rfl⟩
theorem Grew.trans {A B C:AH}(h:Grew A B)(k:Grew B C):Grew A C:=⟨Ai8 h.1 k.1,λi hi=>(k.2 i (Ak7 hi h.1)).trans (h.2 i hi)⟩
theorem Grew.app (H X:AH):Grew H (H++X):=⟨by simp,λi hi=>Ag8 hi⟩
theorem Grew.cells {H H':AH}(h:Grew H H'){o:Nat}{x:Option AObj}(ho:H[o]?=some x):H'[o]?=some x:=by
 rw[h.2 o (B5.1 ho).1];exact ho
theorem Grew.slice {H H':AH}(h:Grew H H'){sz:Nat}{v:AV}{q:List AV×Nat}(hv:Ad H sz v=some q):Ad H' sz v=some q:=
 Af hv λi hi=>h.2 i (A7 hv i hi)
theorem Qd {H:AH}{sz:Nat}{v:AV}{cs:List AV}{n:Nat}(h:Ad H sz v=some (cs,n)):(v=Ac∧cs=[]∧n=0)∨YO .eql Tc v Ac=some (B false):=by
 unfold Ad at h;split at h
 ·exact .inr rfl
 ·exact .inr rfl
 ·injection h with h;injection h with h1 h2;exact .inl ⟨rfl,h1.symm,h2.symm⟩
 ·exact .inr rfl
 ·cases h
theorem W0 {H:AH}{v:AV}{cs:List AV}{n:Nat}(h:Ad H 9 v=some (cs,n))(hn:n≤1000000000):
  ∃r H',(Bh r=true∧Ad H' 9 r=some (cs,n)∧Grew H H'∧∀i∈Bl r,H.length≤i)∧BCall prog 137 [v] H r H':=J5 (by
 unfold FA;rcases Qd h with⟨rfl,rfl,rfl⟩ | hb
 ·have e:YO .eql Tc Ac Ac=some (B true):=rfl
  simp only[e,Aa8,Aw];exact⟨rfl,h,Grew.refl H,by simp[Bl]⟩
 ·simp only[hb,Aa8,Ao]
  have e:FC H 9 0 (BI [(I 0),u0Z,u0Z,u0Z,u0Z,u0Z,u0Z,u0Z,u0Z] 0) []=some (.sl H.length 0 0 9 (.ex 0),H++[some (.cells [])]):=rfl;simp only[e,AA];have g:=Grew.app H [some (.cells [])];obtain⟨r,H2,a1,a2,a3,a4,a5,a6⟩:=CT (sz:=9) (bytes:=16) (H:=H++[some (.cells [])]) (v:=.sl H.length 0 0 9 (.ex 0)) (cs:=[]) (n:=0) (by simp[Ad]) rfl (A3 (g.slice h)) (by omega);simp only[a1,AA];refine⟨a2,by simpa using a3,⟨by simp at a4;omega,λi hi=>?_⟩,λi hi=>?_⟩
  ·rw[a5 i (by simp;omega) (by simp[Bl];omega)]
   exact g.2 i hi
  ·rcases a6 i hi with h | h
   ·simp[Bl]at h;omega
   ·simp at h;omega)
theorem UD {H:AH}{size:Int}{v:AV}{cs:List AV}{n:Nat}(h:Ad H 9 v=some (cs,n))(h1:oneA v=true)(hn:n≤1000000000):
  ∃r H',(∃w,r=.agg [I size,w]∧Bh w=true∧Ad H' 9 w=some (cs,n)∧Grew H H'∧∀i∈Bl w,H.length≤i)∧BCall prog 91 [.agg [I size,v]] H r H':=VQ (by
 unfold TB;have g:=Grew.app H [some (.cells [I size,v]),some (.cells [I 0,Ac])];obtain⟨w,H2,⟨a2,a3,a4,a5⟩,a1⟩:=W0 (g.slice h) hn;have c0:=a4.cells (o:=H.length) (x:=some (.cells [I size,v])) (by simp);have c1:=a4.cells (o:=H.length+1) (x:=some (.cells [I 0,Ac])) (by rw[Ah0 (by omega)];simp);have l2:H.length+2≤H2.length:=by have:=a4.1;simpa using this
 have hw:=AI a2;simp[h1];refine bC_of a1 ?_;simp[BE hw];rw[AF (n:=2) (off:=0) (x:=.agg [I size,w]) (xs:=[I size,w]) (cs:=[I 0,Ac]) (by simp[hw]) c1 rfl (by simp)];simp[show H.length+1<H2.length by omega,c0,Aq];refine⟨a2,Af a3 λi hi=>Cg ?_,?_,λi hi=>?_⟩
 ·have:=a5 i hi;simp at this;omega
 ·refine⟨by simp;omega,λi hi=>?_⟩
  rw[Cg (by omega),a4.2 i (by simp;omega),g.2 i hi]
 ·have:=a5 i hi;simp at this;omega)
theorem uL {H:AH}{s:AV}{cs:List AV}{n ov i:Nat}{x:Ext}(hs:Ad H 9 s=some (cs,n))(ho:Bh s=true)(hi:i≤n)(hn:n≤100000000)(hv:H[ov]?=some (some (.cells (A6 x))))(hne:ov∉Bl s):
  ∃r H',zG H s (cs.take (i*9)++A6 x++cs.drop (i*9)) n r H'∧BCall prog 143 [s,I i,.sl ov 0 1 9 (.ex 1)] H r H':=by
 have hcl:=BG hs;rcases Ah2 i n with h | h
 ·obtain⟨o,off,cap,cells,rfl,h1,h2,rfl⟩:=HN hs ho (by omega)
  have hov:ov≠o:=by simpa[Bl]using hne
  have hol:=(B5.1 h1).1;have hxl:=AB x;have e1:((cells.drop off).take (n*9)).take (i*9)=(cells.drop off).take (i*9):=by rw[Am4];congr 1;omega
  have e2:((cells.drop off).take (n*9)).drop (i*9)=(cells.drop (off+i*9)).take ((n - i)*9):=by rw[Ap0,An0];congr 1;omega
  refine⟨_,_,?_,rF h1 h2 h hn hv hov⟩;rw[e1,e2];refine⟨rfl,?_,by simp,λj hj hn=>?_,λj hj=>.inr (by simp[Bl]at hj;omega)⟩
  ·rw[Bo (c:=(cells.drop off).take (i*9)++A6 x++(cells.drop (off+i*9)).take ((n - i)*9)) (by rw[Ah0 (by simp)];simp) (by simp;omega)]
   rw[Ak9,Ah4 (by simp;omega)]
  ·rw[Ag8 (by simpa using hj),Cg (by simp[Bl]at hn;omega)]
 ·have:i=n:=by omega
  subst this;obtain⟨r,H',h1,h2⟩:=rE hs ho hn hv;refine⟨r,H',?_,h2⟩;rw[Ah4 (by omega),Aj8 (by omega),Ak6];exact h1
def kE (H:AH)(oc:Nat)(size:Int)(v:AV)(l:List Ext)(H':AH):Prop:=
 ∃v',H'[oc]?=some (some (.cells [I size,v']))∧Ad H' 9 v'=some (l.flatMap A6,l.length)∧Bh v'=true∧oc∉Bl v'∧H.length≤H'.length∧(∀i,i<H.length→i≠oc→i∉Bl v→H'[i]?=H[i]?)∧∀i∈Bl v',i∈Bl v∨H.length≤i
theorem XM (no:Int):A6 (Pt no)=[I no,.lit (.int .u8 0),.lit (.int .u8 0),.lit (.int .u8 0),.lit (.int .u8 0),.lit (.int .u8 0),.lit (.int .u8 0),.lit (.int .u8 0),.lit (.int .u8 0)]:=rfl
theorem RL {H:AH}{oc:Nat}{size no:Int}{v:AV}{l:List Ext}(hc:H[oc]?=some (some (.cells [I size,v])))(hv:Ad H 9 v=some (l.flatMap A6,l.length))(ho:Bh v=true)(hne:oc∉Bl v)(hs:srt l)(hl:l.length≤100000000):
  ∃H',kE H oc size v (DL l no) H'∧BCall prog 92 [.ptr oc 0,I no] H (I (posL l no)) H':=by
 have key:∃r H',(r=I (posL l no)∧kE H oc size v (DL l no) H')∧BCall prog 92 [.ptr oc 0,I no] H r H':=XZ (by
  unfold W6;have hol:=(B5.1 hc).1;obtain⟨R,hR,fR⟩:=FZ.sv hv (Eh λx _=>G9 x);have h1:=AI ho;simp[hc];refine bP_of (PCall.lend (FZs.cons fR (FZs.cons (FZ.lit _) FZs.nil)) rfl (RO hR hs (by omega) no)) ?_;simp
  by_cases hh:BP l no
  ·have e:DL l no=l:=if_pos hh
   simp[hh];rw[Ob];unfold Kp;rw[e];exact⟨rfl,v,hc,hv,ho,hne,Ah3 _,λ_ _ _ _=>rfl,λi hi=>.inl hi⟩
  ·have e:DL l no=l.take (posL l no)++Pt no::l.drop (posL l no):=if_neg hh
   simp[hh];have g:=Grew.app H [some (.cells (A6 (Pt no)))];obtain⟨r,H2,⟨b1,b2,b3,b4,b5⟩,a1⟩:=uL (x:=Pt no) (ov:=H.length) (g.slice hv) ho (Xx l no) hl (by simp) (λh=>by have:=A7 hv _ h;omega);rw[← XM];refine bC_of a1 ?_
   have c2:H2[oc]?=some (some (.cells [I size,v])):=by
    rw[b4 oc (by simp;omega) hne];exact g.cells hc
   have hr:=AI b1;have hol2:=(B5.1 c2).1;rw[AF (n:=1) (off:=1) (xs:=[r]) (cs:=[I size,v]) (BE hr) c2 rfl (by simp)];simp;rw[Ob];unfold Kp;have hoc:oc∉Bl r:=λh=>(b5 oc h).elim hne (λh=>by simp at h;omega)
   refine⟨rfl,r,by simp[hol2],?_,b1,hoc,by simp at b3;simp;omega,λi hi h1 h2=>?_,λi hi=>(b5 i hi).imp id (λh=>by simp at h;omega)⟩
   ·rw[Af b2 (λi hi=>Cg (fun (h:oc=i)=>hoc (h▸hi)))]
    rw[GX AB,Gd AB,e,Ak4,Aj3,Ai0]
    have:=Xx l no
    simp;omega
   ·rw[Cg (by omega),b4 i (by simp;omega) h2]
    exact g.2 i hi)
 obtain⟨r,H',⟨rfl,h1⟩,h2⟩:=key;exact⟨H',h1,h2⟩
end Go.Proofs.YtadghlcfbajamaaGreat.Av
end
