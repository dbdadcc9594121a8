/- The law and its row. No condition. -/
import Derived.Test.YtadghlcfbajamaaGreatMlE
set_option linter.unusedVariables false
set_option linter.unusedSimpArgs false
set_option maxRecDepth 100000
section
namespace Go.Proofs.YtadghlcfbajamaaGreat.Av
open Go Go.Proofs.Tryz
def JL:FuncId→Bool:=kG [35,90,118,63,122,36,104,103,105,124,125,126,136,169,84,137,41,33,31,102,20,96,114,82,61,120,60,112,164,44,154,111,165,168,98,99,100,149,151,134,183]
def zdgyZ:FuncId→Bool:=kG [192,194]
def Xg (a0:AV)(H:AH)(K:KT):Prop:=
 bH (AC H a0) λv0 H1=>
 bH (AC H1 (.agg [(I 0),Ad])) λv2 H3=>
 bO (Ab 0 v0) λv4=>
 bO (Ap false 1 H3 v4) λv5=>
 bO (Ab 1 v0) λv6=>
 bO (Ap false 1 H3 v6) λv7=>
 bP (BPure prog 137 [v7]) λv8=>
 bO (En [(I 0),Ad] [(0,1,v5),(1,1,v8)]) λv9=>
 bS (AP 2 H3 v2 v9) λH10=>
 bO (Ap true 2 H10 v2) λv11=>
 K v11 H10
theorem ZD {a0:AV}{H:AH}{K:KT}(h:Xg a0 H K):Ch 84 [a0] H K:=
 fok A7 JL BA func84 h
def cW (a0 a1:AV)(H:AH)(K:KT):Prop:=
 bH (AC H a0) λv0 H1=>
 bO (Ap true 2 H1 v0) λv2=>
 bP (PCall prog 82 [v2] H1) λv3=>
 bO (Em .not v3) λv4=>
 bB v4 λt5=>bI t5 (
 K (.tup [(I 0),(B false)]) H1)
 (bO (Ap true 2 H1 v0) λv6=>
 bC (BCall prog 97 [v6,a1] H1) λv7 H8=>
 bO (Ag v7 0) λv9=>
 bO (Ag v7 1) λv10=>
 bO (Em .not v10) λv11=>
 bB v11 λt12=>bI t12 (
 K (.tup [(I 0),(B false)]) H8)
 (bO (Ab 0 v0) λv13=>
 bO (Ap false 1 H8 v13) λv14=>
 bO (Bo 2 v14 v9) λv15=>
 bO (Ab 1 v15) λv16=>
 bO (Ap false 1 H8 v16) λv17=>
 K (.tup [v17,(B true)]) H8))
theorem fK {a0 a1:AV}{H:AH}{K:KT}(h:cW a0 a1 H K):Ch 41 [a0,a1] H K:=
 fok A7 JL BA func41 h
def Yu (a0 a1:AV)(H:AH)(K:KT):Prop:=
 bH (AC H a0) λv0 H1=>
 bH (AC H1 (.agg [(I 0),Ad])) λv2 H3=>
 bO (Ap true 2 H3 v0) λv4=>
 bP (PCall prog 82 [v4] H3) λv5=>
 bO (Em .not v5) λv6=>
 bB v6 λt7=>bI t7 (
 bO (En [(I 0),Ad] []) λv8=>
 bS (AP 2 H3 v2 v8) λH9=>
 bO (Ap true 2 H9 v2) λv10=>
 K (.tup [v10,(B false)]) H9)
 (bO (Ap true 2 H3 v0) λv11=>
 bC (BCall prog 83 [v11,a1] H3) λv12 H13=>
 bO (Ag v12 0) λv14=>
 bO (Ag v12 1) λv15=>
 bO (Em .not v15) λv16=>
 bB v16 λt17=>bI t17 (
 bO (En [(I 0),Ad] []) λv18=>
 bS (AP 2 H13 v2 v18) λH19=>
 bO (Ap true 2 H19 v2) λv20=>
 K (.tup [v20,(B false)]) H19)
 (bO (Ab 1 v0) λv21=>
 bO (Ap false 1 H13 v21) λv22=>
 bO (Bo 3 v22 v14) λv23=>
 bO (Ab 1 v23) λv24=>
 bO (Ap true 2 H13 v24) λv25=>
 bP (PCall prog 84 [v25] H13) λv26=>
 bS (AP 2 H13 v2 v26) λH27=>
 bO (Ap true 2 H27 v2) λv28=>
 K (.tup [v28,(B true)]) H27))
theorem Xa {a0 a1:AV}{H:AH}{K:KT}(h:Yu a0 a1 H K):Ch 33 [a0,a1] H K:=
 fok A7 JL BA func33 h
def VE:Nat→Option (List Bool):=Cd [(7,mk 24 0 [3,10,11,12])]
def Xe (p:List Bool)(n:Nat):List AV→AH→Kf→Prop:=AJ prog A7 JL Aw Aw VE (sub p (AG f31)) n
def VD (x3 x10 x11 x12:AV)(H:AH)(K:KT):Prop:=lp (mk 24 0 [3,10,11,12]) (Xe [tT,tT,tT,fF,tT,fF,fF] 8) [x3,x10,x11,x12] H (AS 0 (AN (Xe [tT,tT,tT,tT] 12) (AR prog f31.results.toList K)))
def S5 (R7:RT)(x3 x10 x11 x12:AV)(H:AH)(K:KT):Prop:=
 bO (Ar .lss x12 x11) λv0=>
 bB v0 λt1=>bI t1 (
 bO (Bo 3 x10 x12) λv2=>
 bO (Ap true 3 H v2) λv3=>
 bH (AC H (.agg [(I 0),(I 0),Ad])) λv4 H5=>
 bS (AP 3 H5 v4 v3) λH6=>
 bO (Ab 1 v4) λv7=>
 bO (Ab 1 v7) λv8=>
 bO (Ap false 1 H6 v8) λv9=>
 bO (AL v9) λv10=>
 bO (Ar .add x3 v10) λv11=>
 bO (Ar .add x12 (I 1)) λv12=>
 R7 [v11,x10,x11,v12] H6)
 (K x3 H)
theorem Wj {K:KT}:eI (λR x3 x10 x11 x12 H=>S5 R x3 x10 x11 x12 H K) (λx3 x10 x11 x12 H=>VD x3 x10 x11 x12 H K):=RQ (A3 _ _) (λ_ _ _ _ _ _=>by kernel_rfl)
def cX (a0:AV)(H:AH)(K:KT):Prop:=
 bH (AC H a0) λv0 H1=>
 bO (Ap true 2 H1 v0) λv2=>
 bP (PCall prog 82 [v2] H1) λv3=>
 bO (Em .not v3) λv4=>
 bB v4 λt5=>bI t5 (
 K (I 0) H1)
 (bO (Ab 1 v0) λv6=>
 bO (Ap false 1 H1 v6) λv7=>
 bO (AL v7) λv8=>
 VD (I 0) v7 v8 (I 0) H1 K)
theorem fM {a0:AV}{H:AH}{K:KT}(h:cX a0 H K):Ch 31 [a0] H K:=
 fok A7 JL VE func31 h
def QC:Nat→Option (List Bool):=Cd [(6,mk 27 0 [0,17,18])]
def S4 (p:List Bool)(n:Nat):List AV→AH→Kf→Prop:=AJ prog A7 JL Aw Aw QC (sub p (AG f102)) n
def Lz (x0 x17 x18:AV)(H:AH)(K:KT):Prop:=lp (mk 27 0 [0,17,18]) (S4 [tT,tT,fF,tT,fF,fF] 7) [x0,x17,x18] H (AS 0 (AN (S4 [tT,tT,tT] 13) (AR prog f102.results.toList K)))
def NK (R6:RT)(x0 x17 x18:AV)(H:AH)(K:KT):Prop:=
 bO (Ar .lss x18 x17) λv0=>
 bB v0 λt1=>bI t1 (
 bO (qD x0 x18) λv2=>
 bP (PCall prog 154 [v2] H) λv3=>
 bO (Em .not v3) λv4=>
 bB v4 λt5=>bI t5 (
 K (B false) H)
 (bO (Ar .add x18 (I 1)) λv6=>
 R6 [x0,x17,v6] H))
 (K (B true) H)
theorem SP {K:KT}:pU (λR x0 x17 x18 H=>NK R x0 x17 x18 H K) (λx0 x17 x18 H=>Lz x0 x17 x18 H K):=Xs (A3 _ _) (λ_ _ _ _ _=>by kernel_rfl)
def VC (a0:AV)(H:AH)(K:KT):Prop:=
 bO (XZ .eql a0 (.lit (.string ⟨#[]⟩))) λv0=>
 bG v0 false λw1=>
 gO w1 (some a0) λv2=>
 bG v0 false λw3=>
 gO w3 (Z5 v2) λv4=>
 bG v0 false λw5=>
 gO w5 (Ar .gtr v4 (I 20)) λv6=>
 bO (A0 v0 (B true) v6) λv7=>
 bG v7 false λw8=>
 gO w8 (some a0) λv9=>
 bG v7 false λw10=>
 gO w10 (qD v9 (I 0)) λv11=>
 bG v7 false λw12=>
 gO w12 (Ar .eql v11 (.lit (.int .u8 45))) λv13=>
 bO (A0 v7 (B true) v13) λv14=>
 bB v14 λt15=>bI t15 (
 K (B false) H)
 (bO (Z5 a0) λv16=>
 Lz a0 v16 (I 0) H K)
theorem Yv {a0:AV}{H:AH}{K:KT}(h:VC a0 H K):Ch 102 [a0] H K:=
 fok A7 JL QC func102 h
def IL:Nat→Option (List Bool):=Cd [(14,mk 77 0 [2,3,6]),(6,mk 77 0 [2,3,5])]
def DZ (p:List Bool)(n:Nat):List AV→AH→Kf→Prop:=AJ prog A7 JL Aw Aw IL (sub p (AG f20)) n
def Ik (x2 x3 x6:AV)(H:AH)(K:KT):Prop:=lp (mk 77 0 [2,3,6]) (DZ [tT,tT,tT,fF,tT,fF,fF] 15) [x2,x3,x6] H (AS 2 (AN (DZ [tT,tT,tT,tT] 20) (AR prog f20.results.toList K)))
def IJ (x2 x3 x5:AV)(H:AH)(K:KT):Prop:=lp (mk 77 0 [2,3,5]) (DZ [tT,tT,fF,tT,fF,fF] 7) [x2,x3,x5] H (AS 0 (AN (DZ [tT,tT,tT] 12) (AR prog f20.results.toList K)))
def GK (R14:RT)(x2 x3 x6:AV)(H:AH)(K:KT):Prop:=
 bO (Ab 1 x2) λv0=>
 bO (Ap false 1 H v0) λv1=>
 bO (AL v1) λv2=>
 bO (Ar .lss x6 v2) λv3=>
 bB v3 λt4=>bI t4 (
 bO (Ab 1 x2) λv5=>
 bO (Ap false 1 H v5) λv6=>
 bO (Bo 3 v6 x6) λv7=>
 bO (Ab 0 v7) λv8=>
 bO (Ap false 1 H v8) λv9=>
 bO (Ab 1 x3) λv10=>
 bO (Ap false 1 H v10) λv11=>
 bO (Bo 3 v11 x6) λv12=>
 bO (Ab 0 v12) λv13=>
 bO (Ap false 1 H v13) λv14=>
 bO (Ar .neq v9 v14) λv15=>
 bG v15 false λw16=>
 gO w16 (Ab 1 x2) λv17=>
 bG v15 false λw18=>
 gO w18 (Ap false 1 H v17) λv19=>
 bG v15 false λw20=>
 gO w20 (some x6) λv21=>
 bG v15 false λw22=>
 gO w22 (Bo 3 v19 v21) λv23=>
 bG v15 false λw24=>
 gO w24 (Ab 1 v23) λv25=>
 bG v15 false λw26=>
 gO w26 (Ap true 2 H v25) λv27=>
 bG v15 false λw28=>
 gO w28 (Ab 1 x3) λv29=>
 bG v15 false λw30=>
 gO w30 (Ap false 1 H v29) λv31=>
 bG v15 false λw32=>
 gO w32 (some x6) λv33=>
 bG v15 false λw34=>
 gO w34 (Bo 3 v31 v33) λv35=>
 bG v15 false λw36=>
 gO w36 (Ab 1 v35) λv37=>
 bG v15 false λw38=>
 gO w38 (Ap true 2 H v37) λv39=>
 bG v15 false λw40=>
 gP w40 (BPure prog 63 [v27,v39]) λv41=>
 bG v15 false λw42=>
 gO w42 (Em .not v41) λv43=>
 bO (A0 v15 (B true) v43) λv44=>
 bB v44 λt45=>bI t45 (
 K (B false) H)
 (bO (Ar .add x6 (I 1)) λv46=>
 R14 [x2,x3,v46] H))
 (K (B true) H)
theorem L8 {K:KT}:pU (λR x2 x3 x6 H=>GK R x2 x3 x6 H K) (λx2 x3 x6 H=>Ik x2 x3 x6 H K):=Xs (A3 _ _) (λ_ _ _ _ _=>by kernel_rfl)
def Hu (R6:RT)(x2 x3 x5:AV)(H:AH)(K:KT):Prop:=
 bO (Ab 0 x2) λv0=>
 bO (Ap false 1 H v0) λv1=>
 bO (AL v1) λv2=>
 bO (Ar .lss x5 v2) λv3=>
 bB v3 λt4=>bI t4 (
 bO (Ab 0 x2) λv5=>
 bO (Ap false 1 H v5) λv6=>
 bO (Bo 2 v6 x5) λv7=>
 bO (Ap true 2 H v7) λv8=>
 bO (Ab 0 x3) λv9=>
 bO (Ap false 1 H v9) λv10=>
 bO (Bo 2 v10 x5) λv11=>
 bO (Ap true 2 H v11) λv12=>
 bO (PI prog .neq 107 v8 v12) λv13=>
 bB v13 λt14=>bI t14 (
 K (B false) H)
 (bO (Ar .add x5 (I 1)) λv15=>
 R6 [x2,x3,v15] H))
 (Ik x2 x3 (I 0) H K)
theorem Mr {K:KT}:pU (λR x2 x3 x5 H=>Hu R x2 x3 x5 H K) (λx2 x3 x5 H=>IJ x2 x3 x5 H K):=Xs (A3 _ _) (λ_ _ _ _ _=>by kernel_rfl)
def Lh (a0 a1:AV)(H:AH)(K:KT):Prop:=
 bH (AC H a0) λv0 H1=>
 bH (AC H1 a1) λv2 H3=>
 bO (Ab 0 v0) λv4=>
 bO (Ap false 1 H3 v4) λv5=>
 bO (AL v5) λv6=>
 bO (Ab 0 v2) λv7=>
 bO (Ap false 1 H3 v7) λv8=>
 bO (AL v8) λv9=>
 bO (Ar .neq v6 v9) λv10=>
 bG v10 false λw11=>
 gO w11 (Ab 1 v0) λv12=>
 bG v10 false λw13=>
 gO w13 (Ap false 1 H3 v12) λv14=>
 bG v10 false λw15=>
 gO w15 (AL v14) λv16=>
 bG v10 false λw17=>
 gO w17 (Ab 1 v2) λv18=>
 bG v10 false λw19=>
 gO w19 (Ap false 1 H3 v18) λv20=>
 bG v10 false λw21=>
 gO w21 (AL v20) λv22=>
 bG v10 false λw23=>
 gO w23 (Ar .neq v16 v22) λv24=>
 bO (A0 v10 (B true) v24) λv25=>
 bB v25 λt26=>bI t26 (
 K (B false) H3)
 (IJ v0 v2 (I 0) H3 K)
theorem Qb {a0 a1:AV}{H:AH}{K:KT}(h:Lh a0 a1 H K):Ch 20 [a0,a1] H K:=
 fok A7 JL IL func20 h
def TV:Nat→Option (List Bool):=Cd [(13,mk 37 0 [2,3,4,31]),(12,mk 37 0 [2,3,4,12,24]),(8,mk 37 0 [2,3,4,12,17]),(5,mk 37 0 [2,4])]
def Fd (p:List Bool)(n:Nat):List AV→AH→Kf→Prop:=AJ prog A7 JL Aw Aw TV (sub p (AG f96)) n
def E0 (x2 x4:AV)(H:AH)(K:KT):Prop:=jn (mk 37 0 [2,4]) (Fd [tT,tT,tT,tT] 14) [x2,x4] H (AR prog f96.results.toList K)
def Sz (x2 x3 x4 x31:AV)(H:AH)(K:KT):Prop:=jn (mk 37 0 [2,3,4,31]) (Fd [tT,tT,tT,fF,tT,fF,tT,tT,tT,tT,tT,tT,tT] 14) [x2,x3,x4,x31] H (AS 0 (AN (DJ (mk 37 0 [2,4]) (Fd [tT,tT,tT,tT] 14)) (AR prog f96.results.toList K)))
def Sy (x2 x3 x4 x12 x24:AV)(H:AH)(K:KT):Prop:=jn (mk 37 0 [2,3,4,12,24]) (Fd [tT,tT,tT,fF,tT,fF,tT,tT,tT,tT,tT] 13) [x2,x3,x4,x12,x24] H (AS 0 (AN (DJ (mk 37 0 [2,4]) (Fd [tT,tT,tT,tT] 14)) (AR prog f96.results.toList K)))
def Fq (x2 x3 x4 x12 x17:AV)(H:AH)(K:KT):Prop:=jn (mk 37 0 [2,3,4,12,17]) (Fd [tT,tT,tT,fF,tT,fF,tT,tT,tT] 12) [x2,x3,x4,x12,x17] H (AS 0 (AN (DJ (mk 37 0 [2,4]) (Fd [tT,tT,tT,tT] 14)) (AR prog f96.results.toList K)))
def Ly (x2 x4:AV)(H:AH)(K:KT):Prop:=
 bO (Ap true 2 H x2) λv0=>
 bS (AP 2 H x4 v0) λH1=>
 bO (Ap true 2 H1 x4) λv2=>
 K v2 H1
theorem Pw (x2 x4:AV)(H:AH)(K:KT):E0 x2 x4 H K=Ly x2 x4 H K:=(B5 _ _ _ _ _).trans (by kernel_rfl)
def Pv (x2 x3 x4 x31:AV)(H:AH)(K:KT):Prop:=
 bB x31 λt0=>bI t0 (
 bO (Ab 5 x3) λv1=>
 bO (Ap false 1 H v1) λv2=>
 bC (BCall prog 148 [x2,v2] H) λv3 H4=>
 E0 x2 x4 H4 K)
 (E0 x2 x4 H K)
theorem Wh (x2 x3 x4 x31:AV)(H:AH)(K:KT):Sz x2 x3 x4 x31 H K=Pv x2 x3 x4 x31 H K:=(B5 _ _ _ _ _).trans (by kernel_rfl)
def Pu (x2 x3 x4 x12 x24:AV)(H:AH)(K:KT):Prop:=
 bB x24 λt0=>bI t0 (
 bO (Ab 5 x3) λv1=>
 bO (Ap false 1 H v1) λv2=>
 bO (Ab 6 x3) λv3=>
 bO (Ap false 1 H v3) λv4=>
 bC (BCall prog 147 [x2,v2,v4] H) λv5 H6=>
 E0 x2 x4 H6 K)
 (bO (Ar .eql x12 (I 7)) λv7=>
 Sz x2 x3 x4 v7 H K)
theorem Wg (x2 x3 x4 x12 x24:AV)(H:AH)(K:KT):Sy x2 x3 x4 x12 x24 H K=Pu x2 x3 x4 x12 x24 H K:=(B5 _ _ _ _ _).trans (by kernel_rfl)
def QB (x2 x3 x4 x12 x17:AV)(H:AH)(K:KT):Prop:=
 bB x17 λt0=>bI t0 (
 bO (Ap true 8 H x3) λv1=>
 bC (BCall prog 146 [x2,v1] H) λv2 H3=>
 E0 x2 x4 H3 K)
 (bO (Ar .eql x12 (I 6)) λv4=>
 Sy x2 x3 x4 x12 v4 H K)
theorem WY (x2 x3 x4 x12 x17:AV)(H:AH)(K:KT):Fq x2 x3 x4 x12 x17 H K=QB x2 x3 x4 x12 x17 H K:=(B5 _ _ _ _ _).trans (by kernel_rfl)
def Zj (a0 a1:AV)(H:AH)(K:KT):Prop:=
 bH (AC H a0) λv0 H1=>
 bH (AC H1 a1) λv2 H3=>
 bH (AC H3 (.agg [Ad,Ad])) λv4 H5=>
 bO (Ap true 2 H5 v0) λv6=>
 bC (BCall prog 64 [v6] H5) λv7 H8=>
 bS (AP 2 H8 v0 v7) λH9=>
 bO (Ap true 2 H9 v0) λv10=>
 bP (PCall prog 82 [v10] H9) λv11=>
 bO (Em .not v11) λv12=>
 bB v12 λt13=>bI t13 (
 bO (Ap true 2 H9 v0) λv14=>
 bS (AP 2 H9 v4 v14) λH15=>
 bO (Ap true 2 H15 v4) λv16=>
 K v16 H15)
 (bO (Ab 0 v2) λv17=>
 bO (Ap false 1 H9 v17) λv18=>
 bO (Ar .eql v18 (I 1)) λv19=>
 bB v19 λt20=>bI t20 (
 bO (Ap true 8 H9 v2) λv21=>
 bC (BCall prog 145 [v0,v21] H9) λv22 H23=>
 E0 v0 v4 H23 K)
 (bO (Ar .eql v18 (I 2)) λv24=>
 bB v24 λt25=>bI t25 (
 Fq v0 v2 v4 v18 v24 H9 K)
 (bO (Ar .eql v18 (I 3)) λv26=>
 bB v26 λt27=>bI t27 (
 Fq v0 v2 v4 v18 v26 H9 K)
 (bO (Ar .eql v18 (I 4)) λv28=>
 bB v28 λt29=>bI t29 (
 Fq v0 v2 v4 v18 v28 H9 K)
 (bO (Ar .eql v18 (I 5)) λv30=>
 Fq v0 v2 v4 v18 v30 H9 K)))))
theorem cU {a0 a1:AV}{H:AH}{K:KT}(h:Zj a0 a1 H K):Ch 96 [a0,a1] H K:=
 fok A7 JL TV func96 h
def Mm:CJ:=LT [(7,[(1,some 11),(5,some 11),(6,some 11)])]
def Mn:Nat→Option (List Bool):=Cd [(22,mk 171 0 [2,3,4,5,8]),(20,mk 171 0 [2,3,4,5,8]),(5,mk 171 0 [4,5]),(12,mk 171 0 [3,4,5,6])]
def Cp (p:List Bool)(n:Nat):List AV→AH→Kf→Prop:=AJ prog Mm JL Aw Aw Mn (sub p (AG f114)) n
def Bb (x4 x5:AV)(H:AH)(K:KT):Prop:=jn (mk 171 0 [4,5]) (Cp [tT,tT,tT,tT] 29) [x4,x5] H (AR prog f114.results.toList K)
def G9 (x3 x4 x5 x6:AV)(H:AH)(K:KT):Prop:=lp (mk 171 0 [3,4,5,6]) (Cp [tT,tT,tT,fF,tT,fF,tT,fF,tT,fF,tT,tT,fF,fF,fF] 13) [x3,x4,x5,x6] H (AS 1 (AN (Cp [tT,tT,tT,fF,tT,fF,tT,fF,tT,fF,tT,tT,tT] 15) (AS 0 (AN (DJ (mk 171 0 [4,5]) (Cp [tT,tT,tT,tT] 29)) (AR prog f114.results.toList K)))))
def Le (x2 x3 x4 x5 x8:AV)(H:AH)(K:KT):Prop:=jn (mk 171 0 [2,3,4,5,8]) (Cp [tT,tT,tT,fF,tT,fF,tT,tT,tT,fF,tT,tT,fF,tT,tT] 23) [x2,x3,x4,x5,x8] H (AS 0 (AN (DJ (mk 171 0 [4,5]) (Cp [tT,tT,tT,tT] 29)) (AR prog f114.results.toList K)))
def E9 (x2 x3 x4 x5 x8:AV)(H:AH)(K:KT):Prop:=jn (mk 171 0 [2,3,4,5,8]) (Cp [tT,tT,tT,fF,tT,fF,tT,tT,tT,fF,tT,tT,fF,tT] 22) [x2,x3,x4,x5,x8] H (AS 0 (AN (DJ (mk 171 0 [4,5]) (Cp [tT,tT,tT,tT] 29)) (AR prog f114.results.toList K)))
def FU (x4 x5:AV)(H:AH)(K:KT):Prop:=
 bO (Ap true 2 H x5) λv0=>
 bS (AP 2 H x4 v0) λH1=>
 bO (Ap true 2 H1 x4) λv2=>
 K v2 H1
theorem J0 (x4 x5:AV)(H:AH)(K:KT):Bb x4 x5 H K=FU x4 x5 H K:=(B5 _ _ _ _ _).trans (by kernel_rfl)
def J1 (R12:RT)(x3 x4 x5 x6:AV)(H:AH)(K:KT):Prop:=
 bO (Ab 1 x5) λv0=>
 bO (Ap false 1 H v0) λv1=>
 bO (AL v1) λv2=>
 bO (Ar .lss x6 v2) λv3=>
 bG v3 true λw4=>
 gO w4 (Ab 1 x5) λv5=>
 bG v3 true λw6=>
 gO w6 (Ap false 1 H v5) λv7=>
 bG v3 true λw8=>
 gO w8 (some x6) λv9=>
 bG v3 true λw10=>
 gO w10 (Bo 3 v7 v9) λv11=>
 bG v3 true λw12=>
 gO w12 (Ab 0 v11) λv13=>
 bG v3 true λw14=>
 gO w14 (Ap false 1 H v13) λv15=>
 bG v3 true λw16=>
 gO w16 (Ab 1 x3) λv17=>
 bG v3 true λw18=>
 gO w18 (Ap false 1 H v17) λv19=>
 bG v3 true λw20=>
 gO w20 (Ar .lss v15 v19) λv21=>
 bO (A0 v3 v21 (B false)) λv22=>
 bB v22 λt23=>bI t23 (
 bO (Ar .add x6 (I 1)) λv24=>
 R12 [x3,x4,x5,v24] H)
 (bO (Ab 1 x5) λv25=>
 bO (Ap false 1 H v25) λv26=>
 bO (Bf 3 v26 none (some x6) none) λv27=>
 bH (HM 3 40 H Ad v27) λv28 H29=>
 bO (Ab 1 x3) λv30=>
 bO (Ap false 1 H29 v30) λv31=>
 bO (En [(I 0),(I 0),Ad] [(0,1,v31)]) λv32=>
 bH (D9 H29 3 1 (B4 [(I 0),(I 0),Ad] 1) [(0,3,v32)]) λv33 H34=>
 bH (HM 3 40 H34 v28 v33) λv35 H36=>
 bO (Ab 1 x5) λv37=>
 bO (Ap false 1 H36 v37) λv38=>
 bO (Bf 3 v38 (some x6) none none) λv39=>
 bH (HM 3 40 H36 v35 v39) λv40 H41=>
 bO (Ab 1 x5) λv42=>
 bS (AP 1 H41 v42 v40) λH43=>
 Bb x4 x5 H43 K)
theorem Oy {K:KT}:eI (λR x3 x4 x5 x6 H=>J1 R x3 x4 x5 x6 H K) (λx3 x4 x5 x6 H=>G9 x3 x4 x5 x6 H K):=RQ (A3 _ _) (λ_ _ _ _ _ _=>by kernel_rfl)
def Jz (x2 x3 x4 x5 x8:AV)(H:AH)(K:KT):Prop:=
 bO (Ab 6 x3) λv0=>
 bO (Ap false 1 H v0) λv1=>
 bO (Ab 0 x2) λv2=>
 bO (Ap false 1 H v2) λv3=>
 bO (Bo 2 v3 x8) λv4=>
 bO (Ab 1 v4) λv5=>
 bO (Ap false 1 H v5) λv6=>
 bC (BCall prog 166 [x5,v1,v6] H) λv7 H8=>
 Bb x4 x5 H8 K
theorem PZ (x2 x3 x4 x5 x8:AV)(H:AH)(K:KT):Le x2 x3 x4 x5 x8 H K=Jz x2 x3 x4 x5 x8 H K:=(B5 _ _ _ _ _).trans (by kernel_rfl)
def Jy (x2 x3 x4 x5 x8:AV)(H:AH)(K:KT):Prop:=
 bO (Ab 5 x3) λv0=>
 bO (Ap false 1 H v0) λv1=>
 bC (BCall prog 167 [x5,v1,(B false)] H) λv2 H3=>
 Le x2 x3 x4 x5 x8 H3 K
theorem PY (x2 x3 x4 x5 x8:AV)(H:AH)(K:KT):E9 x2 x3 x4 x5 x8 H K=Jy x2 x3 x4 x5 x8 H K:=(B5 _ _ _ _ _).trans (by kernel_rfl)
def P8 (a0 a1:AV)(H:AH)(K:KT):Prop:=
 bH (AC H a0) λv0 H1=>
 bH (AC H1 a1) λv2 H3=>
 bH (AC H3 (.agg [Ad,Ad])) λv4 H5=>
 bO (Ap true 2 H5 v0) λv6=>
 bC (BCall prog 127 [v6] H5) λv7 H8=>
 bH (AC H8 (.agg [Ad,Ad])) λv9 H10=>
 bS (AP 2 H10 v9 v7) λH11=>
 bO (Ap true 2 H11 v0) λv12=>
 bP (PCall prog 112 [v12] H11) λv13=>
 bO (Em .not v13) λv14=>
 bB v14 λt15=>bI t15 (
 bO (Ap true 2 H11 v9) λv16=>
 bS (AP 2 H11 v4 v16) λH17=>
 bO (Ap true 2 H17 v4) λv18=>
 K v18 H17)
 (bO (Ab 0 v2) λv19=>
 bO (Ap false 1 H11 v19) λv20=>
 bO (Ar .eql v20 (I 1)) λv21=>
 bB v21 λt22=>bI t22 (
 bO (Ab 5 v2) λv23=>
 bO (Ap false 1 H11 v23) λv24=>
 bP (PCall prog 60 [v24] H11) λv25=>
 bG v25 true λw26=>
 gO w26 (Ap true 2 H11 v0) λv27=>
 bG v25 true λw28=>
 gO w28 (Ab 5 v2) λv29=>
 bG v25 true λw30=>
 gO w30 (Ap false 1 H11 v29) λv31=>
 bG v25 true λw32=>
 gP w32 (PCall prog 111 [v27,v31] H11) λv33=>
 bG v25 true λw34=>
 gO w34 (Ar .lss v33 (I 0)) λv35=>
 bO (A0 v25 v35 (B false)) λv36=>
 bG v36 true λw37=>
 gO w37 (Ab 1 v2) λv38=>
 bG v36 true λw39=>
 gO w39 (Ap false 1 H11 v38) λv40=>
 bG v36 true λw41=>
 gO w41 (Ar .geq v40 (I 1)) λv42=>
 bO (A0 v36 v42 (B false)) λv43=>
 bG v43 true λw44=>
 gO w44 (Ab 1 v2) λv45=>
 bG v43 true λw46=>
 gO w46 (Ap false 1 H11 v45) λv47=>
 bG v43 true λw48=>
 gO w48 (Ar .leq v47 (I 4611686018427387904)) λv49=>
 bO (A0 v43 v49 (B false)) λv50=>
 bG v50 true λw51=>
 gO w51 (Ap true 2 H11 v0) λv52=>
 bG v50 true λw53=>
 gO w53 (Ab 1 v2) λv54=>
 bG v50 true λw55=>
 gO w55 (Ap false 1 H11 v54) λv56=>
 bG v50 true λw57=>
 gP w57 (PCall prog 165 [v52,v56] H11) λv58=>
 bG v50 true λw59=>
 gO w59 (Ar .lss v58 (I 0)) λv60=>
 bO (A0 v50 v60 (B false)) λv61=>
 bG v61 true λw62=>
 gO w62 (Ab 0 v0) λv63=>
 bG v61 true λw64=>
 gO w64 (Ap false 1 H11 v63) λv65=>
 bG v61 true λw66=>
 gO w66 (AL v65) λv67=>
 bG v61 true λw68=>
 gO w68 (Ar .lss v67 (I 16)) λv69=>
 bO (A0 v61 v69 (B false)) λv70=>
 bB v70 λt71=>bI t71 (
 bO (Ab 5 v2) λv72=>
 bO (Ap false 1 H11 v72) λv73=>
 bO (Ab 1 v2) λv74=>
 bO (Ap false 1 H11 v74) λv75=>
 bC (BCall prog 166 [v9,v73,v75] H11) λv76 H77=>
 G9 v2 v4 v9 (I 0) H77 K)
 (Bb v4 v9 H11 K))
 (bO (Ar .eql v20 (I 6)) λv78=>
 bB v78 λt79=>bI t79 (
 bO (Ap true 2 H11 v0) λv80=>
 bO (Ab 5 v2) λv81=>
 bO (Ap false 1 H11 v81) λv82=>
 bP (PCall prog 111 [v80,v82] H11) λv83=>
 bO (Ar .geq v83 (I 0)) λv84=>
 bG v84 true λw85=>
 gO w85 (Ab 6 v2) λv86=>
 bG v84 true λw87=>
 gO w87 (Ap false 1 H11 v86) λv88=>
 bG v84 true λw89=>
 gP w89 (PCall prog 60 [v88] H11) λv90=>
 bO (A0 v84 v90 (B false)) λv91=>
 bG v91 true λw92=>
 gO w92 (Ab 6 v2) λv93=>
 bG v91 true λw94=>
 gO w94 (Ap false 1 H11 v93) λv95=>
 bG v91 true λw96=>
 gO w96 (Ab 5 v2) λv97=>
 bG v91 true λw98=>
 gO w98 (Ap false 1 H11 v97) λv99=>
 bG v91 true λw100=>
 gO w100 (XZ .neq v95 v99) λv101=>
 bO (A0 v91 v101 (B false)) λv102=>
 bB v102 λt103=>bI t103 (
 bO (Ap true 2 H11 v9) λv104=>
 bO (Ab 6 v2) λv105=>
 bO (Ap false 1 H11 v105) λv106=>
 bP (PCall prog 111 [v104,v106] H11) λv107=>
 bO (Ar .geq v107 (I 0)) λv108=>
 bB v108 λt109=>bI t109 (
 bO (Ab 6 v2) λv110=>
 bO (Ap false 1 H11 v110) λv111=>
 bC (BCall prog 167 [v9,v111,(B true)] H11) λv112 H113=>
 E9 v0 v2 v4 v9 v83 H113 K)
 (E9 v0 v2 v4 v9 v83 H11 K))
 (Bb v4 v9 H11 K))
 (bO (Ar .eql v20 (I 7)) λv114=>
 bB v114 λt115=>bI t115 (
 bO (Ap true 2 H11 v0) λv116=>
 bO (Ab 5 v2) λv117=>
 bO (Ap false 1 H11 v117) λv118=>
 bP (PCall prog 111 [v116,v118] H11) λv119=>
 bO (Ar .geq v119 (I 0)) λv120=>
 bB v120 λt121=>bI t121 (
 bO (Ab 5 v2) λv122=>
 bO (Ap false 1 H11 v122) λv123=>
 bC (BCall prog 167 [v9,v123,(B true)] H11) λv124 H125=>
 Bb v4 v9 H125 K)
 (Bb v4 v9 H11 K))
 (bO (Ap true 2 H11 v0) λv126=>
 bO (Ab 1 v2) λv127=>
 bO (Ap false 1 H11 v127) λv128=>
 bP (PCall prog 165 [v126,v128] H11) λv129=>
 bO (Ar .geq v129 (I 0)) λv130=>
 bB v130 λt131=>bI t131 (
 bO (Ab 1 v0) λv132=>
 bO (Ap false 1 H11 v132) λv133=>
 bO (Bo 3 v133 v129) λv134=>
 bO (Ab 1 v134) λv135=>
 bO (Ap true 2 H11 v135) λv136=>
 bO (Ap true 8 H11 v2) λv137=>
 bP (BPure prog 168 [v136,v137]) λv138=>
 bO (Ag v138 0) λv139=>
 bO (Ag v138 1) λv140=>
 bH (AC H11 (.agg [(I 0),Ad])) λv141 H142=>
 bS (AP 2 H142 v141 v139) λH143=>
(Ap false 1 H142 v132=some v133)∧
(Ap true 2 H142 v135=some v136)∧
(Ap true 8 H142 v2=some v137)∧
 bB v140 λt144=>bI t144 (
 bO (Ab 1 v9) λv145=>
 bO (Ap false 1 H143 v145) λv146=>
 bO (Ap true 2 H143 v141) λv147=>
 bO (Bo 3 v146 v129) λv148=>
 bO (Ab 1 v148) λv149=>
 bS (AP 2 H143 v149 v147) λH150=>
 Bb v4 v9 H150 K)
 (Bb v4 v9 H143 K))
 (Bb v4 v9 H11 K)))))
theorem Ut {a0 a1:AV}{H:AH}{K:KT}(h:P8 a0 a1 H K):Ch 114 [a0,a1] H K:=
 fok Mm JL Mn func114 h
def Xd:Nat→Option (List Bool):=Cd [(8,mk 51 0 [3,5,25,26,27])]
def Zk (p:List Bool)(n:Nat):List AV→AH→Kf→Prop:=AJ prog A7 JL Aw Aw Xd (sub p (AG f82)) n
def Xb (x3 x5 x25 x26 x27:AV)(H:AH)(K:KT):Prop:=lp (mk 51 0 [3,5,25,26,27]) (Zk [tT,tT,tT,tT,fF,tT,fF,fF] 9) [x3,x5,x25,x26,x27] H (AS 0 (AN (Zk [tT,tT,tT,tT,tT] 16) (AR prog f82.results.toList K)))
def TW (R8:RT)(x3 x5 x25 x26 x27:AV)(H:AH)(K:KT):Prop:=
 bO (Ar .lss x27 x26) λv0=>
 bB v0 λt1=>bI t1 (
 bO (Bo 3 x25 x27) λv2=>
 bO (Ap true 3 H v2) λv3=>
 bH (AC H (.agg [(I 0),(I 0),Ad])) λv4 H5=>
 bS (AP 3 H5 v4 v3) λH6=>
 bO (Ab 0 v4) λv7=>
 bO (Ap false 1 H6 v7) λv8=>
 bO (Ar .leq v8 x5) λv9=>
 bG v9 false λw10=>
 gO w10 (some x3) λv11=>
 bG v9 false λw12=>
 gO w12 (Ab 0 v4) λv13=>
 bG v9 false λw14=>
 gO w14 (Ap false 1 H6 v13) λv15=>
 bG v9 false λw16=>
 gO w16 (lW (.int .i64) (.bool false) H6 v11 v15 false) λv17=>
 bG v9 false λw18=>
 gO w18 (Em .not v17) λv19=>
 bO (A0 v9 (B true) v19) λv20=>
 bG v20 false λw21=>
 gO w21 (Ab 1 v4) λv22=>
 bG v20 false λw23=>
 gO w23 (Ap true 2 H6 v22) λv24=>
 bG v20 false λw25=>
 gP w25 (PCall prog 90 [v24] H6) λv26=>
 bG v20 false λw27=>
 gO w27 (Em .not v26) λv28=>
 bO (A0 v20 (B true) v28) λv29=>
 bB v29 λt30=>bI t30 (
 K (B false) H6)
 (bO (Ab 0 v4) λv31=>
 bO (Ap false 1 H6 v31) λv32=>
 bO (Ar .add x27 (I 1)) λv33=>
 R8 [x3,v32,x25,x26,v33] H6))
 (K (B true) H)
theorem Xc {K:KT}:pV (λR x3 x5 x25 x26 x27 H=>TW R x3 x5 x25 x26 x27 H K) (λx3 x5 x25 x26 x27 H=>Xb x3 x5 x25 x26 x27 H K):=dH (A3 _ _) (λ_ _ _ _ _ _ _=>by kernel_rfl)
def gT (a0:AV)(H:AH)(K:KT):Prop:=
 bH (AC H a0) λv0 H1=>
 bO (Ab 0 v0) λv2=>
 bO (Ap false 1 H1 v2) λv3=>
 bC (BCall prog 133 [v3] H1) λv4 H5=>
 bO (Ag v4 0) λv6=>
 bO (Ag v4 1) λv7=>
 bO (Em .not v7) λv8=>
 bG v8 false λw9=>
 gO w9 (Ab 1 v0) λv10=>
 bG v8 false λw11=>
 gO w11 (Ap false 1 H5 v10) λv12=>
 bG v8 false λw13=>
 gO w13 (AL v12) λv14=>
 bG v8 false λw15=>
 gO w15 (some v6) λv16=>
 bG v8 false λw17=>
 gO w17 (qF H5 v16) λv18=>
 bG v8 false λw19=>
 gO w19 (Ar .neq v14 v18) λv20=>
 bO (A0 v8 (B true) v20) λv21=>
 bB v21 λt22=>bI t22 (
 K (B false) H5)
 (bO (Ab 1 v0) λv23=>
 bO (Ap false 1 H5 v23) λv24=>
 bO (AL v24) λv25=>
 Xb v6 (I 0) v24 v25 (I 0) H5 K)
theorem kE {a0:AV}{H:AH}{K:KT}(h:gT a0 H K):Ch 82 [a0] H K:=
 fok A7 JL Xd func82 h
def QT (a0 a1:AV)(H:AH)(K:KT):Prop:=
 bH (AC H a0) λv0 H1=>
 bO (Ap true 2 H1 v0) λv2=>
 bP (PCall prog 111 [v2,a1] H1) λv3=>
 bO (Ap true 2 H1 v0) λv4=>
 bP (PCall prog 112 [v4] H1) λv5=>
 bO (Em .not v5) λv6=>
 bG v6 false λw7=>
 gO w7 (some v3) λv8=>
 bG v6 false λw9=>
 gO w9 (Ar .lss v8 (I 0)) λv10=>
 bO (A0 v6 (B true) v10) λv11=>
 bB v11 λt12=>bI t12 (
 K (.tup [(I 0),(B false)]) H1)
 (bO (Ab 0 v0) λv13=>
 bO (Ap false 1 H1 v13) λv14=>
 bO (Bo 2 v14 v3) λv15=>
 bO (Ab 1 v15) λv16=>
 bO (Ap false 1 H1 v16) λv17=>
 K (.tup [v17,(B true)]) H1)
theorem Vb {a0 a1:AV}{H:AH}{K:KT}(h:QT a0 a1 H K):Ch 61 [a0,a1] H K:=
 fok A7 JL BA func61 h
def MB (a0 a1:AV)(H:AH)(K:KT):Prop:=
 bH (AC H a0) λv0 H1=>
 bH (AC H1 (.agg [(I 0),Ad])) λv2 H3=>
 bO (Ap true 2 H3 v0) λv4=>
 bP (PCall prog 165 [v4,a1] H3) λv5=>
 bO (Ap true 2 H3 v0) λv6=>
 bP (PCall prog 112 [v6] H3) λv7=>
 bO (Em .not v7) λv8=>
 bG v8 false λw9=>
 gO w9 (some v5) λv10=>
 bG v8 false λw11=>
 gO w11 (Ar .lss v10 (I 0)) λv12=>
 bO (A0 v8 (B true) v12) λv13=>
 bB v13 λt14=>bI t14 (
 bO (En [(I 0),Ad] []) λv15=>
 bS (AP 2 H3 v2 v15) λH16=>
 bO (Ap true 2 H16 v2) λv17=>
 K (.tup [v17,(B false)]) H16)
 (bO (Ab 1 v0) λv18=>
 bO (Ap false 1 H3 v18) λv19=>
 bO (Bo 3 v19 v5) λv20=>
 bO (Ab 1 v20) λv21=>
 bO (Ap true 2 H3 v21) λv22=>
 bP (PCall prog 169 [v22] H3) λv23=>
 bS (AP 2 H3 v2 v23) λH24=>
 bO (Ap true 2 H24 v2) λv25=>
 K (.tup [v25,(B true)]) H24)
theorem O0 {a0 a1:AV}{H:AH}{K:KT}(h:MB a0 a1 H K):Ch 120 [a0,a1] H K:=
 fok A7 JL BA func120 h
def Kn:Nat→Option (List Bool):=Cd [(3,mk 52 0 [0,3])]
def Lg (p:List Bool)(n:Nat):List AV→AH→Kf→Prop:=AJ prog A7 JL Aw Aw Kn (sub p (AG f60)) n
def Km (x0 x3:AV)(H:AH)(K:KT):Prop:=lp (mk 52 0 [0,3]) (Lg [tT,fF,tT,fF,fF] 4) [x0,x3] H (AS 0 (AN (Lg [tT,tT] 10) (AR prog f60.results.toList K)))
def IH (R3:RT)(x0 x3:AV)(H:AH)(K:KT):Prop:=
 bO (Z5 x0) λv0=>
 bO (Ar .lss x3 v0) λv1=>
 bB v1 λt2=>bI t2 (
 bO (qD x0 x3) λv3=>
 bO (Ar .lss v3 (.lit (.int .u8 97))) λv4=>
 bG v4 false λw5=>
 gO w5 (some v3) λv6=>
 bG v4 false λw7=>
 gO w7 (Ar .gtr v6 (.lit (.int .u8 122))) λv8=>
 bO (A0 v4 (B true) v8) λv9=>
 bG v9 true λw10=>
 gO w10 (some v3) λv11=>
 bG v9 true λw12=>
 gO w12 (Ar .lss v11 (.lit (.int .u8 48))) λv13=>
 bG v9 true λw14=>
 gO w14 (some v13) λv15=>
 bG v15 false λw16=>
 gO w16 (some v3) λv17=>
 bG v15 false λw18=>
 gO w18 (Ar .gtr v17 (.lit (.int .u8 57))) λv19=>
 bG v9 true λw20=>
 gO w20 (A0 v15 (B true) v19) λv21=>
 bO (A0 v9 v21 (B false)) λv22=>
 bG v22 true λw23=>
 gO w23 (some v3) λv24=>
 bG v22 true λw25=>
 gO w25 (Ar .neq v24 (.lit (.int .u8 46))) λv26=>
 bO (A0 v22 v26 (B false)) λv27=>
 bG v27 true λw28=>
 gO w28 (some v3) λv29=>
 bG v27 true λw30=>
 gO w30 (Ar .neq v29 (.lit (.int .u8 95))) λv31=>
 bO (A0 v27 v31 (B false)) λv32=>
 bG v32 true λw33=>
 gO w33 (some v3) λv34=>
 bG v32 true λw35=>
 gO w35 (Ar .neq v34 (.lit (.int .u8 45))) λv36=>
 bG v32 true λw37=>
 gO w37 (some v36) λv38=>
 bG v38 false λw39=>
 gO w39 (some x3) λv40=>
 bG v38 false λw41=>
 gO w41 (Ar .eql v40 (I 0)) λv42=>
 bG v32 true λw43=>
 gO w43 (A0 v38 (B true) v42) λv44=>
 bO (A0 v32 v44 (B false)) λv45=>
 bB v45 λt46=>bI t46 (
 K (B false) H)
 (bO (Ar .add x3 (I 1)) λv47=>
 R3 [x0,v47] H))
 (bO (Z5 x0) λv48=>
 bO (Ar .geq v48 (I 1)) λv49=>
 bG v49 true λw50=>
 gO w50 (some x0) λv51=>
 bG v49 true λw52=>
 gO w52 (Z5 v51) λv53=>
 bG v49 true λw54=>
 gO w54 (Ar .leq v53 (I 20)) λv55=>
 bO (A0 v49 v55 (B false)) λv56=>
 K v56 H)
theorem Np {K:KT}:zdipZ (λR x0 x3 H=>IH R x0 x3 H K) (λx0 x3 H=>Km x0 x3 H K):=wM (A3 _ _) (λ_ _ _ _=>by kernel_rfl)
def MM (a0:AV)(H:AH)(K:KT):Prop:=
 Km a0 (I 0) H K
theorem Sc {a0:AV}{H:AH}{K:KT}(h:MM a0 H K):Ch 60 [a0] H K:=
 fok A7 JL Kn func60 h
def J6:Nat→Option (List Bool):=Cd [(16,mk 110 0 [1,3,4,5]),(6,mk 110 0 [1,3])]
def CE (p:List Bool)(n:Nat):List AV→AH→Kf→Prop:=AJ prog A7 JL Aw Aw J6 (sub p (AG f112)) n
def IG (R6:RT)(x1 x3 x4 x5:AV)(H:AH)(K:KT):Prop:=lp (mk 110 0 [1,3,4,5]) (CE [tT,tT,fF,tT,fF,fF,tT,fF,fF,tT,tT,fF,tT,fF,fF] 17) [x1,x3,x4,x5] H (AS 2 (AN (CE [tT,tT,fF,tT,fF,fF,tT,fF,fF,tT,tT,tT] 22) (AS 1 (AN (CE [tT,tT,fF,tT,fF,fF,tT,tT] 24) (PP (mk 110 0 [1,3]) R6 (AS 0 (AN (CE [tT,tT,tT] 24) (AR prog f112.results.toList K))))))))
def J5 (x1 x3:AV)(H:AH)(K:KT):Prop:=lp (mk 110 0 [1,3]) (CE [tT,tT,fF,tT,fF,fF] 7) [x1,x3] H (AS 0 (AN (CE [tT,tT,tT] 24) (AR prog f112.results.toList K)))
def E2 (R6:RT)(R16:RT)(x1 x3 x4 x5:AV)(H:AH)(K:KT):Prop:=
 bO (Ar .lss x5 x3) λv0=>
 bB v0 λt1=>bI t1 (
 bO (Ab 0 x1) λv2=>
 bO (Ap false 1 H v2) λv3=>
 bO (Bo 2 v3 x5) λv4=>
 bO (Ab 1 v4) λv5=>
 bO (Ap false 1 H v5) λv6=>
 bO (Ab 1 x4) λv7=>
 bO (Ap false 1 H v7) λv8=>
 bO (Ar .eql v6 v8) λv9=>
 bB v9 λt10=>bI t10 (
 K (B false) H)
 (bO (Ar .add x5 (I 1)) λv11=>
 R16 [x1,x3,x4,v11] H))
 (bO (Ar .gtr x3 (I 0)) λv12=>
 bG v12 true λw13=>
 gO w13 (Ab 1 x1) λv14=>
 bG v12 true λw15=>
 gO w15 (Ap false 1 H v14) λv16=>
 bG v12 true λw17=>
 gO w17 (some x3) λv18=>
 bG v12 true λw19=>
 gO w19 (Ar .sub v18 (I 1)) λv20=>
 bG v12 true λw21=>
 gO w21 (Bo 3 v16 v20) λv22=>
 bG v12 true λw23=>
 gO w23 (Ab 0 v22) λv24=>
 bG v12 true λw25=>
 gO w25 (Ap false 1 H v24) λv26=>
 bG v12 true λw27=>
 gO w27 (Ab 1 x1) λv28=>
 bG v12 true λw29=>
 gO w29 (Ap false 1 H v28) λv30=>
 bG v12 true λw31=>
 gO w31 (some x3) λv32=>
 bG v12 true λw33=>
 gO w33 (Bo 3 v30 v32) λv34=>
 bG v12 true λw35=>
 gO w35 (Ab 0 v34) λv36=>
 bG v12 true λw37=>
 gO w37 (Ap false 1 H v36) λv38=>
 bG v12 true λw39=>
 gO w39 (Ar .geq v26 v38) λv40=>
 bO (A0 v12 v40 (B false)) λv41=>
 bG v41 false λw42=>
 gO w42 (Ab 1 x1) λv43=>
 bG v41 false λw44=>
 gO w44 (Ap false 1 H v43) λv45=>
 bG v41 false λw46=>
 gO w46 (some x3) λv47=>
 bG v41 false λw48=>
 gO w48 (Bo 3 v45 v47) λv49=>
 bG v41 false λw50=>
 gO w50 (Ab 1 v49) λv51=>
 bG v41 false λw52=>
 gO w52 (Ap true 2 H v51) λv53=>
 bG v41 false λw54=>
 gP w54 (BPure prog 122 [v53]) λv55=>
 bG v41 false λw56=>
 gO w56 (Em .not v55) λv57=>
 bO (A0 v41 (B true) v57) λv58=>
 bB v58 λt59=>bI t59 (
 K (B false) H)
 (bO (Ar .add x3 (I 1)) λv60=>
 R6 [x1,v60] H))
theorem FK (R6:RT){K:KT}:eI (λR x1 x3 x4 x5 H=>E2 R6 R x1 x3 x4 x5 H K) (λx1 x3 x4 x5 H=>IG R6 x1 x3 x4 x5 H K):=RQ (A3 _ _) (λ_ _ _ _ _ _=>by kernel_rfl)
def Ih (R6:RT)(x1 x3:AV)(H:AH)(K:KT):Prop:=
 bO (Ab 0 x1) λv0=>
 bO (Ap false 1 H v0) λv1=>
 bO (AL v1) λv2=>
 bO (Ar .lss x3 v2) λv3=>
 bB v3 λt4=>bI t4 (
 bO (Ab 0 x1) λv5=>
 bO (Ap false 1 H v5) λv6=>
 bO (Bo 2 v6 x3) λv7=>
 bO (Ap true 2 H v7) λv8=>
 bH (AC H (.agg [(.lit (.string ⟨#[]⟩)),(I 0)])) λv9 H10=>
 bS (AP 2 H10 v9 v8) λH11=>
 bO (Ab 0 v9) λv12=>
 bO (Ap false 1 H11 v12) λv13=>
 bP (BPure prog 60 [v13]) λv14=>
 bO (Em .not v14) λv15=>
 bG v15 false λw16=>
 gO w16 (Ab 1 v9) λv17=>
 bG v15 false λw18=>
 gO w18 (Ap false 1 H11 v17) λv19=>
 bG v15 false λw20=>
 gO w20 (Ar .lss v19 (I 1)) λv21=>
 bO (A0 v15 (B true) v21) λv22=>
 bG v22 false λw23=>
 gO w23 (Ab 1 v9) λv24=>
 bG v22 false λw25=>
 gO w25 (Ap false 1 H11 v24) λv26=>
 bG v22 false λw27=>
 gO w27 (Ar .gtr v26 (I 4611686018427387904)) λv28=>
 bO (A0 v22 (B true) v28) λv29=>
 bG v29 false λw30=>
 gO w30 (some x3) λv31=>
 bG v29 false λw32=>
 gO w32 (Ar .gtr v31 (I 0)) λv33=>
 bG v29 false λw34=>
 gO w34 (some v33) λv35=>
 bG v35 true λw36=>
 gO w36 (Ab 0 x1) λv37=>
 bG v35 true λw38=>
 gO w38 (Ap false 1 H11 v37) λv39=>
 bG v35 true λw40=>
 gO w40 (some x3) λv41=>
 bG v35 true λw42=>
 gO w42 (Ar .sub v41 (I 1)) λv43=>
 bG v35 true λw44=>
 gO w44 (Bo 2 v39 v43) λv45=>
 bG v35 true λw46=>
 gO w46 (Ab 0 v45) λv47=>
 bG v35 true λw48=>
 gO w48 (Ap false 1 H11 v47) λv49=>
 bG v35 true λw50=>
 gO w50 (Ab 0 v9) λv51=>
 bG v35 true λw52=>
 gO w52 (Ap false 1 H11 v51) λv53=>
 bG v35 true λw54=>
 gO w54 (XZ .geq v49 v53) λv55=>
 bG v29 false λw56=>
 gO w56 (A0 v35 v55 (B false)) λv57=>
 bO (A0 v29 (B true) v57) λv58=>
 bG v58 false λw59=>
 gO w59 (Ap true 2 H11 x1) λv60=>
 bG v58 false λw61=>
 gO w61 (Ab 1 v9) λv62=>
 bG v58 false λw63=>
 gO w63 (Ap false 1 H11 v62) λv64=>
 bG v58 false λw65=>
 gP w65 (BPure prog 165 [v60,v64]) λv66=>
 bG v58 false λw67=>
 gO w67 (Ar .lss v66 (I 0)) λv68=>
 bO (A0 v58 (B true) v68) λv69=>
 bB v69 λt70=>bI t70 (
 K (B false) H11)
 (IG R6 x1 x3 v9 (I 0) H11 K))
 (K (B true) H)
theorem MC {K:KT}:zdipZ (λR x1 x3 H=>Ih R x1 x3 H K) (λx1 x3 H=>J5 x1 x3 H K):=wM (A3 _ _) (λ_ _ _ _=>by kernel_rfl)
def Mp (a0:AV)(H:AH)(K:KT):Prop:=
 bH (AC H a0) λv0 H1=>
 bO (Ab 0 v0) λv2=>
 bO (Ap false 1 H1 v2) λv3=>
 bO (AL v3) λv4=>
 bO (Ar .gtr v4 (I 16)) λv5=>
 bG v5 false λw6=>
 gO w6 (Ab 0 v0) λv7=>
 bG v5 false λw8=>
 gO w8 (Ap false 1 H1 v7) λv9=>
 bG v5 false λw10=>
 gO w10 (AL v9) λv11=>
 bG v5 false λw12=>
 gO w12 (Ab 1 v0) λv13=>
 bG v5 false λw14=>
 gO w14 (Ap false 1 H1 v13) λv15=>
 bG v5 false λw16=>
 gO w16 (AL v15) λv17=>
 bG v5 false λw18=>
 gO w18 (Ar .neq v11 v17) λv19=>
 bO (A0 v5 (B true) v19) λv20=>
 bB v20 λt21=>bI t21 (
 K (B false) H1)
 (J5 v0 (I 0) H1 K)
theorem QU {a0:AV}{H:AH}{K:KT}(h:Mp a0 H K):Ch 112 [a0] H K:=
 fok A7 JL J6 func112 h
def MO:Nat→Option (List Bool):=Cd [(4,mk 27 0 [1,3,4])]
def O6 (p:List Bool)(n:Nat):List AV→AH→Kf→Prop:=AJ prog A7 JL Aw Aw MO (sub p (AG f164)) n
def MN (x1 x3 x4:AV)(H:AH)(K:KT):Prop:=lp (mk 27 0 [1,3,4]) (O6 [tT,tT,fF,tT,fF,fF] 5) [x1,x3,x4] H (AS 0 (AN (O6 [tT,tT,tT] 8) (AR prog f164.results.toList K)))
def Lk (R4:RT)(x1 x3 x4:AV)(H:AH)(K:KT):Prop:=
 bO (Ab 1 x1) λv0=>
 bO (Ap false 1 H v0) λv1=>
 bO (AL v1) λv2=>
 bO (Ar .lss x4 v2) λv3=>
 bG v3 true λw4=>
 gO w4 (Ap true 2 H x1) λv5=>
 bG v3 true λw6=>
 gP w6 (PCall prog 112 [v5] H) λv7=>
 bO (A0 v3 v7 (B false)) λv8=>
 bB v8 λt9=>bI t9 (
 bO (Ab 1 x1) λv10=>
 bO (Ap false 1 H v10) λv11=>
 bO (Bo 3 v11 x4) λv12=>
 bO (Ab 1 v12) λv13=>
 bO (Ab 1 v13) λv14=>
 bO (Ap false 1 H v14) λv15=>
 bO (AL v15) λv16=>
 bO (Ar .add x3 v16) λv17=>
 bO (Ar .add x4 (I 1)) λv18=>
 R4 [x1,v17,v18] H)
 (K x3 H)
theorem Qe {K:KT}:pU (λR x1 x3 x4 H=>Lk R x1 x3 x4 H K) (λx1 x3 x4 H=>MN x1 x3 x4 H K):=Xs (A3 _ _) (λ_ _ _ _ _=>by kernel_rfl)
def QW (a0:AV)(H:AH)(K:KT):Prop:=
 bH (AC H a0) λv0 H1=>
 MN v0 (I 0) (I 0) H1 K
theorem Vc {a0:AV}{H:AH}{K:KT}(h:QW a0 H K):Ch 164 [a0] H K:=
 fok A7 JL MO func164 h
def VA:CJ:=LT [(1,[(4,none)])]
def VB:Nat→Option (List Bool):=Cd [(4,mk 31 0 [1,2,13,14])]
def WZ (p:List Bool)(n:Nat):List AV→AH→Kf→Prop:=AJ prog VA JL Aw Aw VB (sub p (AG f64)) n
def V9 (x1 x2 x13 x14:AV)(H:AH)(K:KT):Prop:=lp (mk 31 0 [1,2,13,14]) (WZ [tT,tT,fF,tT,fF,fF] 5) [x1,x2,x13,x14] H (AS 0 (AN (WZ [tT,tT,tT] 9) (AR prog f64.results.toList K)))
def S3 (R4:RT)(x1 x2 x13 x14:AV)(H:AH)(K:KT):Prop:=
 bO (Ar .lss x14 x13) λv0=>
 bB v0 λt1=>bI t1 (
 bO (Ab 1 x1) λv2=>
 bO (Ap false 1 H v2) λv3=>
 bO (Ab 1 x1) λv4=>
 bO (Ap false 1 H v4) λv5=>
 bO (Bo 3 v5 x14) λv6=>
 bO (Ab 1 v6) λv7=>
 bO (Ap true 2 H v7) λv8=>
 bP (BPure prog 84 [v8]) λv9=>
 bO (Bo 3 v3 x14) λv10=>
 bO (Ab 1 v10) λv11=>
 bS (AP 2 H v11 v9) λH12=>
 bO (Ar .add x14 (I 1)) λv13=>
 R4 [x1,x2,x13,v13] H12)
 (bO (Ap true 2 H x1) λv14=>
 bS (AP 2 H x2 v14) λH15=>
 bO (Ap true 2 H15 x2) λv16=>
 K v16 H15)
theorem Wi {K:KT}:eI (λR x1 x2 x13 x14 H=>S3 R x1 x2 x13 x14 H K) (λx1 x2 x13 x14 H=>V9 x1 x2 x13 x14 H K):=RQ (A3 _ _) (λ_ _ _ _ _ _=>by kernel_rfl)
def cV (a0:AV)(H:AH)(K:KT):Prop:=
 bH (AC H a0) λv0 H1=>
 bH (AC H1 (.agg [Ad,Ad])) λv2 H3=>
 bO (Ab 0 v0) λv4=>
 bO (Ap false 1 H3 v4) λv5=>
 bC (BCall prog 115 [v5] H3) λv6 H7=>
 bO (Ab 1 v0) λv8=>
 bO (Ap false 1 H7 v8) λv9=>
 bC (BCall prog 116 [v9] H7) λv10 H11=>
 bO (En [Ad,Ad] [(0,1,v6),(1,1,v10)]) λv12=>
 bS (AP 2 H11 v0 v12) λH13=>
(Ap false 1 H3 v8=some v9)∧
 bO (Ab 1 v0) λv14=>
 bO (Ap false 1 H13 v14) λv15=>
 bO (AL v15) λv16=>
 V9 v0 v2 v16 (I 0) H13 K
theorem fJ {a0:AV}{H:AH}{K:KT}(h:cV a0 H K):Ch 64 [a0] H K:=
 fok VA JL VB func64 h
def Zl (a0 a1:AV)(H:AH)(K:KT):Prop:=
 bH (AC H a0) λv0 H1=>
 bO (Ab 0 v0) λv2=>
 bO (Ap false 1 H1 v2) λv3=>
 bP (PCall prog 149 [v3,a1,(.fn (.func 150) [] [])] H1) λv4=>
 bO (Ag v4 0) λv5=>
 bO (Ag v4 1) λv6=>
 K (.tup [v5,v6]) H1
theorem cY {a0 a1:AV}{H:AH}{K:KT}(h:Zl a0 a1 H K):Ch 97 [a0,a1] H K:=
 fok A7 JL BA func97 h
def dA (a0 a1:AV)(H:AH)(K:KT):Prop:=
 bH (AC H a0) λv0 H1=>
 bO (Ab 1 v0) λv2=>
 bO (Ap false 1 H1 v2) λv3=>
 bP (PCall prog 134 [v3,a1,(.fn (.func 135) [] [])] H1) λv4=>
 bO (Ag v4 0) λv5=>
 bO (Ag v4 1) λv6=>
 K (.tup [v5,v6]) H1
theorem fN {a0 a1:AV}{H:AH}{K:KT}(h:dA a0 a1 H K):Ch 83 [a0,a1] H K:=
 fok A7 JL BA func83 h
def gU (a0:AV)(H:AH)(K:KT):Prop:=
 bO (Ar .geq a0 (.lit (.int .u8 97))) λv0=>
 bG v0 true λw1=>
 gO w1 (some a0) λv2=>
 bG v0 true λw3=>
 gO w3 (Ar .leq v2 (.lit (.int .u8 122))) λv4=>
 bO (A0 v0 v4 (B false)) λv5=>
 bG v5 false λw6=>
 gO w6 (some a0) λv7=>
 bG v5 false λw8=>
 gO w8 (Ar .geq v7 (.lit (.int .u8 48))) λv9=>
 bG v5 false λw10=>
 gO w10 (some v9) λv11=>
 bG v11 true λw12=>
 gO w12 (some a0) λv13=>
 bG v11 true λw14=>
 gO w14 (Ar .leq v13 (.lit (.int .u8 57))) λv15=>
 bG v5 false λw16=>
 gO w16 (A0 v11 v15 (B false)) λv17=>
 bO (A0 v5 (B true) v17) λv18=>
 bG v18 false λw19=>
 gO w19 (some a0) λv20=>
 bG v18 false λw21=>
 gO w21 (Ar .eql v20 (.lit (.int .u8 46))) λv22=>
 bO (A0 v18 (B true) v22) λv23=>
 bG v23 false λw24=>
 gO w24 (some a0) λv25=>
 bG v23 false λw26=>
 gO w26 (Ar .eql v25 (.lit (.int .u8 95))) λv27=>
 bO (A0 v23 (B true) v27) λv28=>
 bG v28 false λw29=>
 gO w29 (some a0) λv30=>
 bG v28 false λw31=>
 gO w31 (Ar .eql v30 (.lit (.int .u8 45))) λv32=>
 bO (A0 v28 (B true) v32) λv33=>
 K v33 H
theorem kF {a0:AV}{H:AH}{K:KT}(h:gU a0 H K):Ch 154 [a0] H K:=
 fok A7 JL BA func154 h
def S7:Nat→Option (List Bool):=Cd [(100004,mk 82 0 [0,3,4,6]),(100005,mk 82 0 [0,3,6]),(5,mk 82 0 [0,3,6])]
def S9:Nat→Bool:=kG [4,5]
def Kc (p:List Bool)(n:Nat):List AV→AH→Kf→Prop:=AJ prog A7 JL zdgyZ S9 S7 (sub p (AG f145)) n
def M9 (x0 x3 x6:AV)(H:AH)(K:KT):Prop:=unR prog 5 (X3 (sub [tT,tT,tT,tT,tT] (AG f145))) (Bt (mk 82 0 [0,3,6]) [x0,x3,x6]) H (AR prog f145.results.toList K)
def M8 (x0 x3 x6:AV)(H:AH)(K:KT):Prop:=jn (mk 82 0 [0,3,6]) (Kc [tT,tT,tT,tT,tT] 6) [x0,x3,x6] H (AR prog f145.results.toList K)
def Ji (x0 x3 x4 x6:AV)(H:AH)(K:KT):Prop:=unR prog 4 (X3 (sub [tT,tT,tT,tT,fF] (AG f145))) (Bt (mk 82 0 [0,3,4,6]) [x0,x3,x4,x6]) H (AN (DJ (mk 82 0 [0,3,6]) (Kc [tT,tT,tT,tT,tT] 6)) (AR prog f145.results.toList K))
def Px (x0 x3 x6:AV)(H:AH)(K:KT):Prop:=
 M9 x0 x3 x6 H K
theorem Wk (x0 x3 x6:AV)(H:AH)(K:KT):M8 x0 x3 x6 H K=Px x0 x3 x6 H K:=(B5 _ _ _ _ _).trans (by kernel_rfl)
def Nk (a0 a1:AV)(H:AH)(K:KT):Prop:=
 bH (AC H a1) λv0 H1=>
 bO (Af a0) λv2=>
 bO (Ap true 2 H1 v2) λv3=>
 bO (Ab 5 v0) λv4=>
 bO (Ap false 1 H1 v4) λv5=>
 bC (BCall prog 97 [v3,v5] H1) λv6 H7=>
 bO (Ag v6 0) λv8=>
 bO (Ag v6 1) λv9=>
 bO (Af a0) λv10=>
 bO (Ap true 2 H7 v10) λv11=>
 bO (Ab 1 v0) λv12=>
 bO (Ap false 1 H7 v12) λv13=>
 bC (BCall prog 83 [v11,v13] H7) λv14 H15=>
 bO (Ag v14 0) λv16=>
 bO (Ag v14 1) λv17=>
 bG v9 false λw18=>
 gO w18 (some v17) λv19=>
 bO (A0 v9 (B true) v19) λv20=>
 bG v20 false λw21=>
 gO w21 (Ab 5 v0) λv22=>
 bG v20 false λw23=>
 gO w23 (Ap false 1 H15 v22) λv24=>
 bG v20 false λw25=>
 gP w25 (PCall prog 102 [v24] H15) λv26=>
 bG v20 false λw27=>
 gO w27 (Em .not v26) λv28=>
 bO (A0 v20 (B true) v28) λv29=>
 bG v29 false λw30=>
 gO w30 (Ab 1 v0) λv31=>
 bG v29 false λw32=>
 gO w32 (Ap false 1 H15 v31) λv33=>
 bG v29 false λw34=>
 gO w34 (Ar .lss v33 (I 1)) λv35=>
 bO (A0 v29 (B true) v35) λv36=>
 bG v36 false λw37=>
 gO w37 (Ab 1 v0) λv38=>
 bG v36 false λw39=>
 gO w39 (Ap false 1 H15 v38) λv40=>
 bG v36 false λw41=>
 gO w41 (Ar .gtr v40 (I 4611686018427387904)) λv42=>
 bO (A0 v36 (B true) v42) λv43=>
 bG v43 false λw44=>
 gO w44 (some a0) λv45=>
 bG v43 false λw46=>
 gO w46 (Af v45) λv47=>
 bG v43 false λw48=>
 gO w48 (Ab 0 v47) λv49=>
 bG v43 false λw50=>
 gO w50 (Ap false 1 H15 v49) λv51=>
 bG v43 false λw52=>
 gO w52 (AL v51) λv53=>
 bG v43 false λw54=>
 gO w54 (Ar .geq v53 (I 16)) λv55=>
 bO (A0 v43 (B true) v55) λv56=>
 bB v56 λt57=>bI t57 (
 K (.tup []) H15)
 (Ji a0 v0 v8 v16 H15 K)
theorem ZE (a0 a1:AV)(H:AH)(K:KT):UY prog A7 JL zdgyZ S9 S7 f145 [a0,a1] H K=Nk a0 a1 H K:=by kernel_rfl
theorem S8 {a0 a1:AV}{H:AH}{K:KT}(h:Nk a0 a1 H K):ACalls prog 145 [a0,a1] H K:=
 Nn PT func145 (by kernel_rfl) (Eq.mpr (ZE a0 a1 H K) h)
def S6:Nat→Option (List Bool):=Cd [(11,mk 81 0 [0,4,6,72]),(5,mk 81 0 [0,4,5,6])]
def TX (p:List Bool)(n:Nat):List AV→AH→Kf→Prop:=AJ prog A7 JL Aw Aw S6 (sub p (AG f146)) n
def QD (x0 x4 x6 x72:AV)(H:AH)(K:KT):Prop:=jn (mk 81 0 [0,4,6,72]) (TX [tT,tT,tT,tT,tT,tT] 12) [x0,x4,x6,x72] H (AR prog f146.results.toList K)
def Dz (x0 x4 x5 x6:AV)(H:AH)(K:KT):Prop:=jn (mk 81 0 [0,4,5,6]) (TX [tT,tT,tT,tT,tT] 11) [x0,x4,x5,x6] H (AR prog f146.results.toList K)
def Jl (x0 x4 x6 x72:AV)(H:AH)(K:KT):Prop:=
 bB x72 λt0=>bI t0 (
 bO (Af x0) λv1=>
 bO (Ab 1 v1) λv2=>
 bO (Ap false 1 H v2) λv3=>
 bO (Ap true 2 H x6) λv4=>
 bO (Bo 3 v3 x4) λv5=>
 bO (Ab 1 v5) λv6=>
 bS (AP 2 H v6 v4) λH7=>
 K (.tup []) H7)
 (K (.tup []) H)
theorem MK (x0 x4 x6 x72:AV)(H:AH)(K:KT):QD x0 x4 x6 x72 H K=Jl x0 x4 x6 x72 H K:=(B5 _ _ _ _ _).trans (by kernel_rfl)
def Kb (x0 x4 x5 x6:AV)(H:AH)(K:KT):Prop:=
 QD x0 x4 x6 x5 H K
theorem NL (x0 x4 x5 x6:AV)(H:AH)(K:KT):Dz x0 x4 x5 x6 H K=Kb x0 x4 x5 x6 H K:=(B5 _ _ _ _ _).trans (by kernel_rfl)
def Xf (a0 a1:AV)(H:AH)(K:KT):Prop:=
 bH (AC H a1) λv0 H1=>
 bO (Af a0) λv2=>
 bO (Ap true 2 H1 v2) λv3=>
 bO (Ab 1 v0) λv4=>
 bO (Ap false 1 H1 v4) λv5=>
 bC (BCall prog 83 [v3,v5] H1) λv6 H7=>
 bO (Ag v6 0) λv8=>
 bO (Ag v6 1) λv9=>
 bO (Em .not v9) λv10=>
 bB v10 λt11=>bI t11 (
 K (.tup []) H7)
 (bO (Af a0) λv12=>
 bO (Ab 1 v12) λv13=>
 bO (Ap false 1 H7 v13) λv14=>
 bO (Bo 3 v14 v8) λv15=>
 bO (Ab 1 v15) λv16=>
 bO (Ap true 2 H7 v16) λv17=>
 bH (AC H7 (.agg [(I 0),Ad])) λv18 H19=>
 bS (AP 2 H19 v18 v17) λH20=>
 bO (Ab 0 v0) λv21=>
 bO (Ap false 1 H20 v21) λv22=>
 bO (Ar .eql v22 (I 2)) λv23=>
 bB v23 λt24=>bI t24 (
 bO (Ap true 2 H20 v18) λv25=>
 bO (Ab 2 v0) λv26=>
 bO (Ap false 1 H20 v26) λv27=>
 bO (Ab 7 v0) λv28=>
 bO (Ap false 1 H20 v28) λv29=>
 bP (PCall prog 35 [v25,v27,v29] H20) λv30=>
 bO (Ag v30 0) λv31=>
 bO (Ag v30 1) λv32=>
 bS (AP 2 H20 v18 v31) λH33=>
 Dz a0 v8 v32 v18 H33 K)
 (bO (Ar .eql v22 (I 3)) λv34=>
 bB v34 λt35=>bI t35 (
 bO (Ap true 2 H20 v18) λv36=>
 bO (Ab 3 v0) λv37=>
 bO (Ap false 1 H20 v37) λv38=>
 bP (PCall prog 103 [v36,v38] H20) λv39=>
 bO (Ag v39 0) λv40=>
 bO (Ag v39 1) λv41=>
 bS (AP 2 H20 v18 v40) λH42=>
 Dz a0 v8 v41 v18 H42 K)
 (bO (Ar .eql v22 (I 4)) λv43=>
 bB v43 λt44=>bI t44 (
 bO (Ap true 2 H20 v18) λv45=>
 bO (Ab 2 v0) λv46=>
 bO (Ap false 1 H20 v46) λv47=>
 bO (Ab 3 v0) λv48=>
 bO (Ap false 1 H20 v48) λv49=>
 bO (Ab 4 v0) λv50=>
 bO (Ap false 1 H20 v50) λv51=>
 bP (PCall prog 104 [v45,v47,v49,v51] H20) λv52=>
 bO (Ag v52 0) λv53=>
 bO (Ag v52 1) λv54=>
 bS (AP 2 H20 v18 v53) λH55=>
 Dz a0 v8 v54 v18 H55 K)
 (bO (Ar .eql v22 (I 5)) λv56=>
 bB v56 λt57=>bI t57 (
 bO (Ap true 2 H20 v18) λv58=>
 bO (Ab 2 v0) λv59=>
 bO (Ap false 1 H20 v59) λv60=>
 bO (Ab 3 v0) λv61=>
 bO (Ap false 1 H20 v61) λv62=>
 bP (PCall prog 105 [v58,v60,v62] H20) λv63=>
 bO (Ag v63 0) λv64=>
 bO (Ag v63 1) λv65=>
 bS (AP 2 H20 v18 v64) λH66=>
 Dz a0 v8 v65 v18 H66 K)
 (Dz a0 v8 v9 v18 H20 K)))))
theorem ZC {a0 a1:AV}{H:AH}{K:KT}(h:Xf a0 a1 H K):Ch 146 [a0,a1] H K:=
 fok A7 JL S6 func146 h
def Xj (a0 a1 a2:AV)(H:AH)(K:KT):Prop:=
 bO (Af a0) λv0=>
 bO (Ap true 2 H v0) λv1=>
 bC (BCall prog 97 [v1,a1] H) λv2 H3=>
 bO (Ag v2 0) λv4=>
 bO (Ag v2 1) λv5=>
 bO (Em .not v5) λv6=>
 bG v6 false λw7=>
 gO w7 (some a2) λv8=>
 bG v6 false λw9=>
 gP w9 (PCall prog 102 [v8] H3) λv10=>
 bG v6 false λw11=>
 gO w11 (Em .not v10) λv12=>
 bO (A0 v6 (B true) v12) λv13=>
 bG v13 false λw14=>
 gO w14 (some a1) λv15=>
 bG v13 false λw16=>
 gO w16 (some a2) λv17=>
 bG v13 false λw18=>
 gO w18 (XZ .eql v15 v17) λv19=>
 bO (A0 v13 (B true) v19) λv20=>
 bB v20 λt21=>bI t21 (
 K (.tup []) H3)
 (bO (Af a0) λv22=>
 bO (Ab 0 v22) λv23=>
 bO (Ap false 1 H3 v23) λv24=>
 bO (Bo 2 v24 v4) λv25=>
 bO (Ab 1 v25) λv26=>
 bO (Ap false 1 H3 v26) λv27=>
 bO (Af a0) λv28=>
 bO (Ab 0 v28) λv29=>
 bO (Ap false 1 H3 v29) λv30=>
 bO (Ar .add v4 (I 1)) λv31=>
 bC (BCall prog 181 [v30,v4,v31] H3) λv32 H33=>
 bO (Af a0) λv34=>
 bO (Ab 0 v34) λv35=>
 bS (AP 1 H33 v35 v32) λH36=>
 bC (BCall prog 148 [a0,a2] H36) λv37 H38=>
 bO (Af a0) λv39=>
 bO (Ap true 2 H38 v39) λv40=>
 bC (BCall prog 97 [v40,a2] H38) λv41 H42=>
 bO (Ag v41 0) λv43=>
 bO (Ag v41 1) λv44=>
 bO (Af a0) λv45=>
 bO (Ab 0 v45) λv46=>
 bO (Ap false 1 H42 v46) λv47=>
 bO (En [(.lit (.string ⟨#[]⟩)),(I 0)] [(0,1,a2),(1,1,v27)]) λv48=>
 bH (D9 H42 2 1 (B4 [(.lit (.string ⟨#[]⟩)),(I 0)] 1) [(0,2,v48)]) λv49 H50=>
 bC (BCall prog 179 [v47,v43,v49] H50) λv51 H52=>
 bO (Af a0) λv53=>
 bO (Ab 0 v53) λv54=>
 bS (AP 1 H52 v54 v51) λH55=>
 K (.tup []) H55)
theorem ZH {a0 a1 a2:AV}{H:AH}{K:KT}(h:Xj a0 a1 a2 H K):Ch 147 [a0,a1,a2] H K:=
 fok A7 JL BA func147 h
def Xi (a0 a1:AV)(H:AH)(K:KT):Prop:=
 bO (Af a0) λv0=>
 bO (Ap true 2 H v0) λv1=>
 bC (BCall prog 97 [v1,a1] H) λv2 H3=>
 bO (Ag v2 0) λv4=>
 bO (Ag v2 1) λv5=>
 bO (Em .not v5) λv6=>
 bB v6 λt7=>bI t7 (
 K (.tup []) H3)
 (bO (Af a0) λv8=>
 bO (Ap true 2 H3 v8) λv9=>
 bO (Af a0) λv10=>
 bO (Ab 0 v10) λv11=>
 bO (Ap false 1 H3 v11) λv12=>
 bO (Bo 2 v12 v4) λv13=>
 bO (Ab 1 v13) λv14=>
 bO (Ap false 1 H3 v14) λv15=>
 bC (BCall prog 83 [v9,v15] H3) λv16 H17=>
 bO (Ag v16 0) λv18=>
 bO (Ag v16 1) λv19=>
 bO (Af a0) λv20=>
 bO (Ab 0 v20) λv21=>
 bO (Ap false 1 H17 v21) λv22=>
 bO (Ar .add v4 (I 1)) λv23=>
 bC (BCall prog 181 [v22,v4,v23] H17) λv24 H25=>
 bO (Af a0) λv26=>
 bO (Ab 0 v26) λv27=>
 bS (AP 1 H25 v27 v24) λH28=>
 bO (Af a0) λv29=>
 bO (Ab 1 v29) λv30=>
 bO (Ap false 1 H28 v30) λv31=>
 bO (Ar .add v18 (I 1)) λv32=>
 bC (BCall prog 182 [v31,v18,v32] H28) λv33 H34=>
 bO (Af a0) λv35=>
 bO (Ab 1 v35) λv36=>
 bS (AP 1 H34 v36 v33) λH37=>
 K (.tup []) H37)
theorem ZG {a0 a1:AV}{H:AH}{K:KT}(h:Xi a0 a1 H K):Ch 148 [a0,a1] H K:=
 fok A7 JL BA func148 h
def IF:Nat→Option (List Bool):=Cd [(4,mk 36 0 [1,2,3,4])]
def J2 (p:List Bool)(n:Nat):List AV→AH→Kf→Prop:=AJ prog A7 JL Aw Aw IF (sub p (AG f127)) n
def IE (x1 x2 x3 x4:AV)(H:AH)(K:KT):Prop:=lp (mk 36 0 [1,2,3,4]) (J2 [tT,tT,fF,tT,fF,fF] 5) [x1,x2,x3,x4] H (AS 0 (AN (J2 [tT,tT,tT] 8) (AR prog f127.results.toList K)))
def Hl (R4:RT)(x1 x2 x3 x4:AV)(H:AH)(K:KT):Prop:=
 bO (Ab 1 x1) λv0=>
 bO (Ap false 1 H v0) λv1=>
 bO (AL v1) λv2=>
 bO (Ar .lss x4 v2) λv3=>
 bB v3 λt4=>bI t4 (
 bO (Ab 1 x3) λv5=>
 bO (Ap false 1 H v5) λv6=>
 bO (Ab 1 x1) λv7=>
 bO (Ap false 1 H v7) λv8=>
 bO (Bo 3 v8 x4) λv9=>
 bO (Ab 0 v9) λv10=>
 bO (Ap false 1 H v10) λv11=>
 bO (Ab 1 x1) λv12=>
 bO (Ap false 1 H v12) λv13=>
 bO (Bo 3 v13 x4) λv14=>
 bO (Ab 1 v14) λv15=>
 bO (Ap true 2 H v15) λv16=>
 bP (BPure prog 169 [v16]) λv17=>
 bO (En [(I 0),(I 0),Ad] [(0,1,v11),(1,2,v17)]) λv18=>
 bO (Qo 3 1 (B4 [(I 0),(I 0),Ad] 1) [(0,3,v18)]) λv19=>
 bH (HM 3 40 H v6 v19) λv20 H21=>
 bO (Ab 1 x3) λv22=>
 bS (AP 1 H21 v22 v20) λH23=>
 bO (Ar .add x4 (I 1)) λv24=>
 R4 [x1,x2,x3,v24] H23)
 (bO (Ap true 2 H x3) λv25=>
 bS (AP 2 H x2 v25) λH26=>
 bO (Ap true 2 H26 x2) λv27=>
 K v27 H26)
theorem Mo {K:KT}:eI (λR x1 x2 x3 x4 H=>Hl R x1 x2 x3 x4 H K) (λx1 x2 x3 x4 H=>IE x1 x2 x3 x4 H K):=RQ (A3 _ _) (λ_ _ _ _ _ _=>by kernel_rfl)
def Lf (a0:AV)(H:AH)(K:KT):Prop:=
 bH (AC H a0) λv0 H1=>
 bH (AC H1 (.agg [Ad,Ad])) λv2 H3=>
 bO (Ab 0 v0) λv4=>
 bO (Ap false 1 H3 v4) λv5=>
 bH (HM 2 24 H3 Ad v5) λv6 H7=>
 bO (En [Ad,Ad] [(0,1,v6)]) λv8=>
 bH (AC H7 (.agg [Ad,Ad])) λv9 H10=>
 bS (AP 2 H10 v9 v8) λH11=>
 IE v0 v2 v9 (I 0) H11 K
theorem Qa {a0:AV}{H:AH}{K:KT}(h:Lf a0 H K):Ch 127 [a0] H K:=
 fok A7 JL IF func127 h
def My:Nat→Option (List Bool):=Cd [(3,mk 22 0 [1,2,5])]
def MR (p:List Bool)(n:Nat):List AV→AH→Kf→Prop:=AJ prog A7 JL Aw Aw My (sub p (AG f111)) n
def Mx (x1 x2 x5:AV)(H:AH)(K:KT):Prop:=lp (mk 22 0 [1,2,5]) (MR [tT,fF,tT,fF,fF] 4) [x1,x2,x5] H (AS 0 (AN (MR [tT,tT] 9) (AR prog f111.results.toList K)))
def Kz (R3:RT)(x1 x2 x5:AV)(H:AH)(K:KT):Prop:=
 bO (Ab 0 x2) λv0=>
 bO (Ap false 1 H v0) λv1=>
 bO (AL v1) λv2=>
 bO (Ar .lss x5 v2) λv3=>
 bB v3 λt4=>bI t4 (
 bO (Ab 0 x2) λv5=>
 bO (Ap false 1 H v5) λv6=>
 bO (Bo 2 v6 x5) λv7=>
 bO (Ab 0 v7) λv8=>
 bO (Ap false 1 H v8) λv9=>
 bO (XZ .eql v9 x1) λv10=>
 bB v10 λt11=>bI t11 (
 K x5 H)
 (bO (Ar .add x5 (I 1)) λv12=>
 R3 [x1,x2,v12] H))
 (K (I (-1)) H)
theorem Pb {K:KT}:pU (λR x1 x2 x5 H=>Kz R x1 x2 x5 H K) (λx1 x2 x5 H=>Mx x1 x2 x5 H K):=Xs (A3 _ _) (λ_ _ _ _ _=>by kernel_rfl)
def P9 (a0 a1:AV)(H:AH)(K:KT):Prop:=
 bH (AC H a0) λv0 H1=>
 Mx a1 v0 (I 0) H1 K
theorem Uv {a0 a1:AV}{H:AH}{K:KT}(h:P9 a0 a1 H K):Ch 111 [a0,a1] H K:=
 fok A7 JL My func111 h
def MV:Nat→Option (List Bool):=Cd [(3,mk 22 0 [1,2,5])]
def OC (p:List Bool)(n:Nat):List AV→AH→Kf→Prop:=AJ prog A7 JL Aw Aw MV (sub p (AG f165)) n
def MU (x1 x2 x5:AV)(H:AH)(K:KT):Prop:=lp (mk 22 0 [1,2,5]) (OC [tT,fF,tT,fF,fF] 4) [x1,x2,x5] H (AS 0 (AN (OC [tT,tT] 9) (AR prog f165.results.toList K)))
def Lp (R3:RT)(x1 x2 x5:AV)(H:AH)(K:KT):Prop:=
 bO (Ab 1 x2) λv0=>
 bO (Ap false 1 H v0) λv1=>
 bO (AL v1) λv2=>
 bO (Ar .lss x5 v2) λv3=>
 bB v3 λt4=>bI t4 (
 bO (Ab 1 x2) λv5=>
 bO (Ap false 1 H v5) λv6=>
 bO (Bo 3 v6 x5) λv7=>
 bO (Ab 0 v7) λv8=>
 bO (Ap false 1 H v8) λv9=>
 bO (Ar .eql v9 x1) λv10=>
 bB v10 λt11=>bI t11 (
 K x5 H)
 (bO (Ar .add x5 (I 1)) λv12=>
 R3 [x1,x2,v12] H))
 (K (I (-1)) H)
theorem Qh {K:KT}:pU (λR x1 x2 x5 H=>Lp R x1 x2 x5 H K) (λx1 x2 x5 H=>MU x1 x2 x5 H K):=Xs (A3 _ _) (λ_ _ _ _ _=>by kernel_rfl)
def Rc (a0 a1:AV)(H:AH)(K:KT):Prop:=
 bH (AC H a0) λv0 H1=>
 MU a1 v0 (I 0) H1 K
theorem Vh {a0 a1:AV}{H:AH}{K:KT}(h:Rc a0 a1 H K):Ch 165 [a0,a1] H K:=
 fok A7 JL MV func165 h
def Lm:Nat→Option (List Bool):=Cd [(2,mk 53 0 [0,1,2,6])]
def Mw (p:List Bool)(n:Nat):List AV→AH→Kf→Prop:=AJ prog A7 JL Aw Aw Lm (sub p (AG f166)) n
def Ll (x0 x1 x2 x6:AV)(H:AH)(K:KT):Prop:=lp (mk 53 0 [0,1,2,6]) (Mw [tT,fF,fF,fF] 3) [x0,x1,x2,x6] H (AS 0 (AN (Mw [tT,tT] 5) (AR prog f166.results.toList K)))
def JD (R2:RT)(x0 x1 x2 x6:AV)(H:AH)(K:KT):Prop:=
 bO (Af x0) λv0=>
 bO (Ab 0 v0) λv1=>
 bO (Ap false 1 H v1) λv2=>
 bO (AL v2) λv3=>
 bO (Ar .lss x6 v3) λv4=>
 bG v4 true λw5=>
 gO w5 (some x0) λv6=>
 bG v4 true λw7=>
 gO w7 (Af v6) λv8=>
 bG v4 true λw9=>
 gO w9 (Ab 0 v8) λv10=>
 bG v4 true λw11=>
 gO w11 (Ap false 1 H v10) λv12=>
 bG v4 true λw13=>
 gO w13 (some x6) λv14=>
 bG v4 true λw15=>
 gO w15 (Bo 2 v12 v14) λv16=>
 bG v4 true λw17=>
 gO w17 (Ab 0 v16) λv18=>
 bG v4 true λw19=>
 gO w19 (Ap false 1 H v18) λv20=>
 bG v4 true λw21=>
 gO w21 (some x1) λv22=>
 bG v4 true λw23=>
 gO w23 (XZ .lss v20 v22) λv24=>
 bO (A0 v4 v24 (B false)) λv25=>
 bB v25 λt26=>bI t26 (
 bO (Ar .add x6 (I 1)) λv27=>
 R2 [x0,x1,x2,v27] H)
 (bO (Af x0) λv28=>
 bO (Ab 0 v28) λv29=>
 bO (Ap false 1 H v29) λv30=>
 bO (Bf 2 v30 none (some x6) none) λv31=>
 bH (HM 2 24 H Ad v31) λv32 H33=>
 bO (En [(.lit (.string ⟨#[]⟩)),(I 0)] [(0,1,x1),(1,1,x2)]) λv34=>
 bH (D9 H33 2 1 (B4 [(.lit (.string ⟨#[]⟩)),(I 0)] 1) [(0,2,v34)]) λv35 H36=>
 bH (HM 2 24 H36 v32 v35) λv37 H38=>
 bO (Af x0) λv39=>
 bO (Ab 0 v39) λv40=>
 bO (Ap false 1 H38 v40) λv41=>
 bO (Bf 2 v41 (some x6) none none) λv42=>
 bH (HM 2 24 H38 v37 v42) λv43 H44=>
 bO (Af x0) λv45=>
 bO (Ab 0 v45) λv46=>
 bS (AP 1 H44 v46 v43) λH47=>
 K (.tup []) H47)
theorem O8 {K:KT}:eI (λR x0 x1 x2 x6 H=>JD R x0 x1 x2 x6 H K) (λx0 x1 x2 x6 H=>Ll x0 x1 x2 x6 H K):=RQ (A3 _ _) (λ_ _ _ _ _ _=>by kernel_rfl)
def O7 (a0 a1 a2:AV)(H:AH)(K:KT):Prop:=
 Ll a0 a1 a2 (I 0) H K
theorem Te {a0 a1 a2:AV}{H:AH}{K:KT}(h:O7 a0 a1 a2 H K):Ch 166 [a0,a1,a2] H K:=
 fok A7 JL Lm func166 h
def Ve:CJ:=LT [(2,[(11,none),(14,none)]),(5,[(11,none),(14,none)])]
def QY (a0 a1 a2:AV)(H:AH)(K:KT):Prop:=
 bO (Af a0) λv0=>
 bO (Ap true 2 H v0) λv1=>
 bP (PCall prog 111 [v1,a1] H) λv2=>
 bO (Af a0) λv3=>
 bO (Ab 0 v3) λv4=>
 bO (Ap false 1 H v4) λv5=>
 bO (Bo 2 v5 v2) λv6=>
 bO (Ab 1 v6) λv7=>
 bO (Ap false 1 H v7) λv8=>
 bO (Af a0) λv9=>
 bO (Ab 0 v9) λv10=>
 bO (Ap false 1 H v10) λv11=>
 bO (Bf 2 v11 none (some v2) none) λv12=>
 bH (HM 2 24 H Ad v12) λv13 H14=>
 bO (Af a0) λv15=>
 bO (Ab 0 v15) λv16=>
 bO (Ap false 1 H14 v16) λv17=>
 bO (Ar .add v2 (I 1)) λv18=>
 bO (Bf 2 v17 (some v18) none none) λv19=>
 bH (HM 2 24 H14 v13 v19) λv20 H21=>
 bO (Af a0) λv22=>
 bO (Ab 0 v22) λv23=>
 bS (AP 1 H21 v23 v20) λH24=>
(Ap false 1 H v16=some v17)∧
(Bf 2 v17 (some v18) none none=some v19)∧
 bO (Af a0) λv25=>
 bO (Ap true 2 H24 v25) λv26=>
 bP (PCall prog 165 [v26,v8] H24) λv27=>
 bB a2 λt28=>bI t28 (
 bO (Af a0) λv29=>
 bO (Ab 1 v29) λv30=>
 bO (Ap false 1 H24 v30) λv31=>
 bO (Bf 3 v31 none (some v27) none) λv32=>
 bH (HM 3 40 H24 Ad v32) λv33 H34=>
 bO (Af a0) λv35=>
 bO (Ab 1 v35) λv36=>
 bO (Ap false 1 H34 v36) λv37=>
 bO (Ar .add v27 (I 1)) λv38=>
 bO (Bf 3 v37 (some v38) none none) λv39=>
 bH (HM 3 40 H34 v33 v39) λv40 H41=>
 bO (Af a0) λv42=>
 bO (Ab 1 v42) λv43=>
 bS (AP 1 H41 v43 v40) λH44=>
(Ap false 1 H24 v36=some v37)∧
(Bf 3 v37 (some v38) none none=some v39)∧
 K (.tup []) H44)
 (K (.tup []) H24)
theorem Vf {a0 a1 a2:AV}{H:AH}{K:KT}(h:QY a0 a1 a2 H K):Ch 167 [a0,a1,a2] H K:=
 fok Ve JL BA func167 h
def Dc (a0 a1:AV)(H:AH)(K:KT):Prop:=
 bH (AC H a0) λv0 H1=>
 bH (AC H1 a1) λv2 H3=>
 bH (AC H3 (.agg [(I 0),Ad])) λv4 H5=>
 bO (Ab 0 v2) λv6=>
 bO (Ap false 1 H5 v6) λv7=>
 bO (Ar .eql v7 (I 2)) λv8=>
 bB v8 λt9=>bI t9 (
 bO (Ap true 2 H5 v0) λv10=>
 bO (Ab 2 v2) λv11=>
 bO (Ap false 1 H5 v11) λv12=>
 bO (Ab 7 v2) λv13=>
 bO (Ap false 1 H5 v13) λv14=>
 bP (PCall prog 118 [v10,v12,v14] H5) λv15=>
 bO (Ag v15 0) λv16=>
 bO (Ag v15 1) λv17=>
 bS (AP 2 H5 v4 v16) λH18=>
 bO (Ap true 2 H18 v4) λv19=>
 K (.tup [v19,v17]) H18)
 (bO (Ar .eql v7 (I 3)) λv20=>
 bB v20 λt21=>bI t21 (
 bO (Ap true 2 H5 v0) λv22=>
 bO (Ab 3 v2) λv23=>
 bO (Ap false 1 H5 v23) λv24=>
 bP (PCall prog 124 [v22,v24] H5) λv25=>
 bO (Ag v25 0) λv26=>
 bO (Ag v25 1) λv27=>
 bS (AP 2 H5 v4 v26) λH28=>
 bO (Ap true 2 H28 v4) λv29=>
 K (.tup [v29,v27]) H28)
 (bO (Ar .eql v7 (I 4)) λv30=>
 bB v30 λt31=>bI t31 (
 bO (Ap true 2 H5 v0) λv32=>
 bO (Ab 2 v2) λv33=>
 bO (Ap false 1 H5 v33) λv34=>
 bO (Ab 3 v2) λv35=>
 bO (Ap false 1 H5 v35) λv36=>
 bO (Ab 4 v2) λv37=>
 bO (Ap false 1 H5 v37) λv38=>
 bP (PCall prog 125 [v32,v34,v36,v38] H5) λv39=>
 bO (Ag v39 0) λv40=>
 bO (Ag v39 1) λv41=>
 bS (AP 2 H5 v4 v40) λH42=>
 bO (Ap true 2 H42 v4) λv43=>
 K (.tup [v43,v41]) H42)
 (bO (Ar .eql v7 (I 5)) λv44=>
 bB v44 λt45=>bI t45 (
 bO (Ap true 2 H5 v0) λv46=>
 bO (Ab 2 v2) λv47=>
 bO (Ap false 1 H5 v47) λv48=>
 bO (Ab 3 v2) λv49=>
 bO (Ap false 1 H5 v49) λv50=>
 bP (PCall prog 126 [v46,v48,v50] H5) λv51=>
 bO (Ag v51 0) λv52=>
 bO (Ag v51 1) λv53=>
 bS (AP 2 H5 v4 v52) λH54=>
 bO (Ap true 2 H54 v4) λv55=>
 K (.tup [v55,v53]) H54)
 (bO (En [(I 0),Ad] []) λv56=>
 bS (AP 2 H5 v4 v56) λH57=>
 bO (Ap true 2 H57 v4) λv58=>
 K (.tup [v58,(B false)]) H57))))
theorem Tf {a0 a1:AV}{H:AH}{K:KT}(h:Dc a0 a1 H K):Ch 168 [a0,a1] H K:=
 fok A7 JL BA func168 h
def TZ:Nat→Option (List Bool):=Cd [(7,mk 58 0 [0,4,11,12,13])]
def VG (p:List Bool)(n:Nat):List AV→AH→Kf→Prop:=AJ prog A7 JL Aw Aw TZ (sub p (AG f133)) n
def TY (x0 x4 x11 x12 x13:AV)(H:AH)(K:KT):Prop:=lp (mk 58 0 [0,4,11,12,13]) (VG [tT,tT,tT,fF,tT,fF,fF] 8) [x0,x4,x11,x12,x13] H (AS 0 (AN (VG [tT,tT,tT,tT] 15) (AR prog f133.results.toList K)))
def QE (R7:RT)(x0 x4 x11 x12 x13:AV)(H:AH)(K:KT):Prop:=
 bO (Ar .lss x13 x12) λv0=>
 bB v0 λt1=>bI t1 (
 bO (Bo 2 x11 x13) λv2=>
 bO (Ap true 2 H v2) λv3=>
 bH (AC H (.agg [(.lit (.string ⟨#[]⟩)),(I 0)])) λv4 H5=>
 bS (AP 2 H5 v4 v3) λH6=>
 bO (Ab 0 v4) λv7=>
 bO (Ap false 1 H6 v7) λv8=>
 bP (BPure prog 102 [v8]) λv9=>
 bO (Em .not v9) λv10=>
 bG v10 false λw11=>
 gO w11 (some x13) λv12=>
 bG v10 false λw13=>
 gO w13 (Ar .gtr v12 (I 0)) λv14=>
 bG v10 false λw15=>
 gO w15 (some v14) λv16=>
 bG v16 true λw17=>
 gO w17 (some x0) λv18=>
 bG v16 true λw19=>
 gO w19 (some x13) λv20=>
 bG v16 true λw21=>
 gO w21 (Ar .sub v20 (I 1)) λv22=>
 bG v16 true λw23=>
 gO w23 (Bo 2 v18 v22) λv24=>
 bG v16 true λw25=>
 gO w25 (Ab 0 v24) λv26=>
 bG v16 true λw27=>
 gO w27 (Ap false 1 H6 v26) λv28=>
 bG v16 true λw29=>
 gO w29 (Ab 0 v4) λv30=>
 bG v16 true λw31=>
 gO w31 (Ap false 1 H6 v30) λv32=>
 bG v16 true λw33=>
 gO w33 (XZ .geq v28 v32) λv34=>
 bG v10 false λw35=>
 gO w35 (A0 v16 v34 (B false)) λv36=>
 bO (A0 v10 (B true) v36) λv37=>
 bG v37 false λw38=>
 gO w38 (Ab 1 v4) λv39=>
 bG v37 false λw40=>
 gO w40 (Ap false 1 H6 v39) λv41=>
 bG v37 false λw42=>
 gO w42 (Ar .lss v41 (I 1)) λv43=>
 bO (A0 v37 (B true) v43) λv44=>
 bG v44 false λw45=>
 gO w45 (Ab 1 v4) λv46=>
 bG v44 false λw47=>
 gO w47 (Ap false 1 H6 v46) λv48=>
 bG v44 false λw49=>
 gO w49 (Ar .gtr v48 (I 4611686018427387904)) λv50=>
 bO (A0 v44 (B true) v50) λv51=>
 bG v51 false λw52=>
 gO w52 (some x4) λv53=>
 bG v51 false λw54=>
 gO w54 (Ab 1 v4) λv55=>
 bG v51 false λw56=>
 gO w56 (Ap false 1 H6 v55) λv57=>
 bG v51 false λw58=>
 gO w58 (lW (.int .i64) (.bool false) H6 v53 v57 false) λv59=>
 bO (A0 v51 (B true) v59) λv60=>
 bB v60 λt61=>bI t61 (
 K (.tup [(.lit (.map none)),(B false)]) H6)
 (bO (Ab 1 v4) λv62=>
 bO (Ap false 1 H6 v62) λv63=>
 bS (zdfgZ (.int .i64) H6 x4 v63 (B true)) λH64=>
 bO (Ar .add x13 (I 1)) λv65=>
 R7 [x0,x4,x11,x12,v65] H64))
 (K (.tup [x4,(B true)]) H)
theorem UX {K:KT}:pV (λR x0 x4 x11 x12 x13 H=>QE R x0 x4 x11 x12 x13 H K) (λx0 x4 x11 x12 x13 H=>TY x0 x4 x11 x12 x13 H K):=dH (A3 _ _) (λ_ _ _ _ _ _ _=>by kernel_rfl)
def Zm (a0:AV)(H:AH)(K:KT):Prop:=
 bO (AL a0) λv0=>
 bO (Ar .gtr v0 (I 16)) λv1=>
 bB v1 λt2=>bI t2 (
 K (.tup [(.lit (.map none)),(B false)]) H)
 (bH (jK H none) λv3 H4=>
 bO (AL a0) λv5=>
 TY a0 v3 a0 v5 (I 0) H4 K)
theorem cZ {a0:AV}{H:AH}{K:KT}(h:Zm a0 H K):Ch 133 [a0] H K:=
 fok A7 JL TZ func133 h
def Fk (a0:AV)(H:AH)(K:KT):Prop:=
 bO (ZQ .eql RV a0 Ad) λv0=>
 bB v0 λt1=>bI t1 (
 K Ad H)
 (bH (D9 H 2 0 (B4 [(.lit (.string ⟨#[]⟩)),(I 0)] 0) []) λv2 H3=>
 bH (HM 2 24 H3 v2 a0) λv4 H5=>
 K v4 H5)
theorem Jq {a0:AV}{H:AH}{K:KT}(h:Fk a0 H K):Ch 115 [a0] H K:=
 fok A7 JL BA func115 h
def Fl (a0:AV)(H:AH)(K:KT):Prop:=
 bO (ZQ .eql RV a0 Ad) λv0=>
 bB v0 λt1=>bI t1 (
 K Ad H)
 (bH (D9 H 3 0 (B4 [(I 0),(I 0),Ad] 0) []) λv2 H3=>
 bH (HM 3 40 H3 v2 a0) λv4 H5=>
 K v4 H5)
theorem Jr {a0:AV}{H:AH}{K:KT}(h:Fl a0 H K):Ch 116 [a0] H K:=
 fok A7 JL BA func116 h
def Cv:Nat→Option (List Bool):=Cd [(4,mk 49 0 [0,1,2,8,9,10])]
def Cy (p:List Bool)(n:Nat):List AV→AH→Kf→Prop:=AJ prog A7 JL Aw Aw Cv (sub p (AG f149)) n
def Cu (x0 x1 x2 x8 x9 x10:AV)(H:AH)(K:KT):Prop:=lp (mk 49 0 [0,1,2,8,9,10]) (Cy [tT,tT,tT,fF,fF,fF] 5) [x0,x1,x2,x8,x9,x10] H (AS 0 (AN (Cy [tT,tT,tT,tT] 9) (AR prog f149.results.toList K)))
def Ck (R4:RT)(x0 x1 x2 x8 x9 x10:AV)(H:AH)(K:KT):Prop:=
 bO (Ar .lss x9 x10) λv0=>
 bB v0 λt1=>bI t1 (
 bO (Ar .add x9 x10) λv2=>
 bO (vI .u64 v2) λv3=>
 bO (Ar .shr v3 (.lit (.int .u64 1))) λv4=>
 bO (vI .i64 v4) λv5=>
 bO (Bo 2 x0 v5) λv6=>
 bO (Ap true 2 H v6) λv7=>
 bF true x2 λk10 f10 c10=>
 bT (BW prog k10||!true)<|
 bC (BCall prog k10 (f10++[v7,x1]++c10) H) λv8 H9=>
 bO (Ar .lss v8 (I 0)) λv11=>
 bB v11 λt12=>bI t12 (
 bO (Ar .add v5 (I 1)) λv13=>
 R4 [x0,x1,x2,x8,v13,x10] H9)
 (R4 [x0,x1,x2,x8,x9,v5] H9))
 (bO (Ar .lss x9 x8) λv14=>
 bG v14 true λw15=>
 gO w15 (some x2) λv16=>
 bG v14 true λw17=>
 gO w17 (some x0) λv18=>
 bG v14 true λw19=>
 gO w19 (some x9) λv20=>
 bG v14 true λw21=>
 gO w21 (Bo 2 v18 v20) λv22=>
 bG v14 true λw23=>
 gO w23 (Ap true 2 H v22) λv24=>
 bG v14 true λw25=>
 gO w25 (some x1) λv26=>
 bG v14 true λw27=>
 bF w27 v16 λk30 f30 c30=>
 bT (BW prog k30||!w27)<|
 gC w27 (BCall prog k30 (f30++[v24,v26]++c30) H) H λv28 H29=>
 bG v14 true λw31=>
 gO w31 (Ar .eql v28 (I 0)) λv32=>
 bO (A0 v14 v32 (B false)) λv33=>
 K (.tup [x9,v33]) H29)
theorem DM {K:KT}:vA (λR x0 x1 x2 x8 x9 x10 H=>Ck R x0 x1 x2 x8 x9 x10 H K) (λx0 x1 x2 x8 x9 x10 H=>Cu x0 x1 x2 x8 x9 x10 H K):=fQ (A3 _ _) (λ_ _ _ _ _ _ _ _=>by kernel_rfl)
def CA (a0 a1 a2:AV)(H:AH)(K:KT):Prop:=
 bO (AL a0) λv0=>
 Cu a0 a1 a2 v0 (I 0) v0 H K
theorem Eu {a0 a1 a2:AV}{H:AH}{K:KT}(h:CA a0 a1 a2 H K):Ch 149 [a0,a1,a2] H K:=
 fok A7 JL Cv func149 h
def VF (a0 a1:AV)(H:AH)(K:KT):Prop:=
 bH (AC H a0) λv0 H1=>
 bO (Ab 0 v0) λv2=>
 bO (Ap false 1 H1 v2) λv3=>
 bP (PCall prog 151 [v3,a1] H1) λv4=>
 K v4 H1
theorem Yw {a0 a1:AV}{H:AH}{K:KT}(h:VF a0 a1 H K):Ch 150 [a0,a1] H K:=
 fok A7 JL BA func150 h
def SH (a0 a1:AV)(H:AH)(K:KT):Prop:=
 bP (PCall prog 183 [a0,a1] H) λv0=>
 K v0 H
theorem W0 {a0 a1:AV}{H:AH}{K:KT}(h:SH a0 a1 H K):Ch 151 [a0,a1] H K:=
 fok A7 JL BA func151 h
def CC:Nat→Option (List Bool):=Cd [(4,mk 49 0 [0,1,2,8,9,10])]
def CH (p:List Bool)(n:Nat):List AV→AH→Kf→Prop:=AJ prog A7 JL Aw Aw CC (sub p (AG f134)) n
def CB (x0 x1 x2 x8 x9 x10:AV)(H:AH)(K:KT):Prop:=lp (mk 49 0 [0,1,2,8,9,10]) (CH [tT,tT,tT,fF,fF,fF] 5) [x0,x1,x2,x8,x9,x10] H (AS 0 (AN (CH [tT,tT,tT,tT] 9) (AR prog f134.results.toList K)))
def Cz (R4:RT)(x0 x1 x2 x8 x9 x10:AV)(H:AH)(K:KT):Prop:=
 bO (Ar .lss x9 x10) λv0=>
 bB v0 λt1=>bI t1 (
 bO (Ar .add x9 x10) λv2=>
 bO (vI .u64 v2) λv3=>
 bO (Ar .shr v3 (.lit (.int .u64 1))) λv4=>
 bO (vI .i64 v4) λv5=>
 bO (Bo 3 x0 v5) λv6=>
 bO (Ap true 3 H v6) λv7=>
 bF true x2 λk10 f10 c10=>
 bT (BW prog k10||!true)<|
 bC (BCall prog k10 (f10++[v7,x1]++c10) H) λv8 H9=>
 bO (Ar .lss v8 (I 0)) λv11=>
 bB v11 λt12=>bI t12 (
 bO (Ar .add v5 (I 1)) λv13=>
 R4 [x0,x1,x2,x8,v13,x10] H9)
 (R4 [x0,x1,x2,x8,x9,v5] H9))
 (bO (Ar .lss x9 x8) λv14=>
 bG v14 true λw15=>
 gO w15 (some x2) λv16=>
 bG v14 true λw17=>
 gO w17 (some x0) λv18=>
 bG v14 true λw19=>
 gO w19 (some x9) λv20=>
 bG v14 true λw21=>
 gO w21 (Bo 3 v18 v20) λv22=>
 bG v14 true λw23=>
 gO w23 (Ap true 3 H v22) λv24=>
 bG v14 true λw25=>
 gO w25 (some x1) λv26=>
 bG v14 true λw27=>
 bF w27 v16 λk30 f30 c30=>
 bT (BW prog k30||!w27)<|
 gC w27 (BCall prog k30 (f30++[v24,v26]++c30) H) H λv28 H29=>
 bG v14 true λw31=>
 gO w31 (Ar .eql v28 (I 0)) λv32=>
 bO (A0 v14 v32 (B false)) λv33=>
 K (.tup [x9,v33]) H29)
theorem Eg {K:KT}:vA (λR x0 x1 x2 x8 x9 x10 H=>Cz R x0 x1 x2 x8 x9 x10 H K) (λx0 x1 x2 x8 x9 x10 H=>CB x0 x1 x2 x8 x9 x10 H K):=fQ (A3 _ _) (λ_ _ _ _ _ _ _ _=>by kernel_rfl)
def CV (a0 a1 a2:AV)(H:AH)(K:KT):Prop:=
 bO (AL a0) λv0=>
 CB a0 a1 a2 v0 (I 0) v0 H K
theorem EB {a0 a1 a2:AV}{H:AH}{K:KT}(h:CV a0 a1 a2 H K):Ch 134 [a0,a1,a2] H K:=
 fok A7 JL CC func134 h
def Xh (a0 a1:AV)(H:AH)(K:KT):Prop:=
 bH (AC H a0) λv0 H1=>
 bO (Ab 0 v0) λv2=>
 bO (Ap false 1 H1 v2) λv3=>
 bP (PCall prog 136 [v3,a1] H1) λv4=>
 K v4 H1
theorem ZF {a0 a1:AV}{H:AH}{K:KT}(h:Xh a0 a1 H K):Ch 135 [a0,a1] H K:=
 fok A7 JL BA func135 h
def Jb:Nat→Bool:=kG []
def EW (a0 a1 a2:AV)(H:AH)(K:KT):Prop:=
 bO (Bf 2 a0 (some a1) none none) λv0=>
 bO (AL a2) λv1=>
 bO (Ar .eql v1 (I 0)) λv2=>
 bB v2 λt3=>bI t3 (
 K a0 H)
 (bO (AL a0) λv4=>
 bO (Ar .eql a1 v4) λv5=>
 bB v5 λt6=>bI t6 (
 bH (HM 2 24 H a0 a2) λv7 H8=>
 K v7 H8)
 (bO (Ar .add v4 v1) λv9=>
 bO (eM a0) λv10=>
 bO (Ar .gtr v9 v10) λv11=>
 bB v11 λt12=>bI t12 (
 bO (Bf 2 a0 none (some a1) none) λv13=>
 bO (Ar .add v4 v1) λv14=>
 bO (Ar .sub v14 a1) λv15=>
 bH (PH H 2 24 [(.lit (.string ⟨#[]⟩)),(I 0)] v13 v15) λv16 H17=>
 bO (Bf 2 v16 (some a1) none none) λv18=>
 bH (UP 2 H17 v18 a2) λv19 H20=>
 bO (Ar .add a1 v1) λv21=>
 bO (Bf 2 v16 (some v21) none none) λv22=>
 bO (Bf 2 a0 (some a1) none none) λv23=>
 bH (UP 2 H20 v22 v23) λv24 H25=>
 K v16 H25)
 (bO (Ar .add v4 v1) λv26=>
 bO (Bf 2 a0 none (some v26) none) λv27=>
 bO (Ar .add a1 v1) λv28=>
 bO (Bf 2 v27 (some v28) none none) λv29=>
 bP (ExtR prog 192 [a2,v29] H) λv30=>
 bO (Em .not v30) λv31=>
 bB v31 λt32=>bI t32 (
 bO (Ar .add a1 v1) λv33=>
 bO (Bf 2 v27 (some v33) none none) λv34=>
 bO (Bf 2 v27 (some a1) none none) λv35=>
 bH (UP 2 H v34 v35) λv36 H37=>
 bO (Bf 2 v27 (some a1) none none) λv38=>
 bH (UP 2 H37 v38 a2) λv39 H40=>
 K v27 H40)
 (bO (Bf 2 v27 (some v4) none none) λv41=>
 bH (UP 2 H v41 a2) λv42 H43=>
 bO (Bf 2 v27 (some a1) none none) λv44=>
 bC (BCall prog 193 [v44,v1] H43) λv45 H46=>
 K v27 H46))))
theorem IZ (a0 a1 a2:AV)(H:AH)(K:KT):UY prog A7 JL zdgyZ Jb BA f179 [a0,a1,a2] H K=EW a0 a1 a2 H K:=by kernel_rfl
theorem Ja {a0 a1 a2:AV}{H:AH}{K:KT}(h:EW a0 a1 a2 H K):ACalls prog 179 [a0,a1,a2] H K:=
 Nn PT func179 (by kernel_rfl) (Eq.mpr (IZ a0 a1 a2 H K) h)
def Je:Nat→Bool:=kG []
def EX (a0 a1 a2:AV)(H:AH)(K:KT):Prop:=
 bO (Bf 3 a0 (some a1) none none) λv0=>
 bO (AL a2) λv1=>
 bO (Ar .eql v1 (I 0)) λv2=>
 bB v2 λt3=>bI t3 (
 K a0 H)
 (bO (AL a0) λv4=>
 bO (Ar .eql a1 v4) λv5=>
 bB v5 λt6=>bI t6 (
 bH (HM 3 40 H a0 a2) λv7 H8=>
 K v7 H8)
 (bO (Ar .add v4 v1) λv9=>
 bO (eM a0) λv10=>
 bO (Ar .gtr v9 v10) λv11=>
 bB v11 λt12=>bI t12 (
 bO (Bf 3 a0 none (some a1) none) λv13=>
 bO (Ar .add v4 v1) λv14=>
 bO (Ar .sub v14 a1) λv15=>
 bH (PH H 3 40 [(I 0),(I 0),Ad] v13 v15) λv16 H17=>
 bO (Bf 3 v16 (some a1) none none) λv18=>
 bH (UP 3 H17 v18 a2) λv19 H20=>
 bO (Ar .add a1 v1) λv21=>
 bO (Bf 3 v16 (some v21) none none) λv22=>
 bO (Bf 3 a0 (some a1) none none) λv23=>
 bH (UP 3 H20 v22 v23) λv24 H25=>
 K v16 H25)
 (bO (Ar .add v4 v1) λv26=>
 bO (Bf 3 a0 none (some v26) none) λv27=>
 bO (Ar .add a1 v1) λv28=>
 bO (Bf 3 v27 (some v28) none none) λv29=>
 bP (ExtR prog 194 [a2,v29] H) λv30=>
 bO (Em .not v30) λv31=>
 bB v31 λt32=>bI t32 (
 bO (Ar .add a1 v1) λv33=>
 bO (Bf 3 v27 (some v33) none none) λv34=>
 bO (Bf 3 v27 (some a1) none none) λv35=>
 bH (UP 3 H v34 v35) λv36 H37=>
 bO (Bf 3 v27 (some a1) none none) λv38=>
 bH (UP 3 H37 v38 a2) λv39 H40=>
 K v27 H40)
 (bO (Bf 3 v27 (some v4) none none) λv41=>
 bH (UP 3 H v41 a2) λv42 H43=>
 bO (Bf 3 v27 (some a1) none none) λv44=>
 bC (BCall prog 195 [v44,v1] H43) λv45 H46=>
 K v27 H46))))
theorem Jc (a0 a1 a2:AV)(H:AH)(K:KT):UY prog A7 JL zdgyZ Je BA f180 [a0,a1,a2] H K=EX a0 a1 a2 H K:=by kernel_rfl
theorem Jd {a0 a1 a2:AV}{H:AH}{K:KT}(h:EX a0 a1 a2 H K):ACalls prog 180 [a0,a1,a2] H K:=
 Nn PT func180 (by kernel_rfl) (Eq.mpr (Jc a0 a1 a2 H K) h)
def EU (a0 a1 a2:AV)(H:AH)(K:KT):Prop:=
 bO (AL a0) λv0=>
 bO (Bf 2 a0 (some a1) (some a2) (some v0)) λv1=>
 bO (Ar .eql a1 a2) λv2=>
 bB v2 λt3=>bI t3 (
 K a0 H)
 (bO (AL a0) λv4=>
 bO (Bf 2 a0 none (some a1) none) λv5=>
 bO (Bf 2 a0 (some a2) none none) λv6=>
 bH (HM 2 24 H v5 v6) λv7 H8=>
 bO (AL v7) λv9=>
 bO (Bf 2 v7 (some v9) (some v4) none) λv10=>
 bS (zdffZ [(.lit (.string ⟨#[]⟩)),(I 0)] H8 v10) λH11=>
 K v7 H11)
theorem IV {a0 a1 a2:AV}{H:AH}{K:KT}(h:EU a0 a1 a2 H K):Ch 181 [a0,a1,a2] H K:=
 fok A7 JL BA func181 h
def EV (a0 a1 a2:AV)(H:AH)(K:KT):Prop:=
 bO (AL a0) λv0=>
 bO (Bf 3 a0 (some a1) (some a2) (some v0)) λv1=>
 bO (Ar .eql a1 a2) λv2=>
 bB v2 λt3=>bI t3 (
 K a0 H)
 (bO (AL a0) λv4=>
 bO (Bf 3 a0 none (some a1) none) λv5=>
 bO (Bf 3 a0 (some a2) none none) λv6=>
 bH (HM 3 40 H v5 v6) λv7 H8=>
 bO (AL v7) λv9=>
 bO (Bf 3 v7 (some v9) (some v4) none) λv10=>
 bS (zdffZ [(I 0),(I 0),Ad] H8 v10) λH11=>
 K v7 H11)
theorem IW {a0 a1 a2:AV}{H:AH}{K:KT}(h:EV a0 a1 a2 H K):Ch 182 [a0,a1,a2] H K:=
 fok A7 JL BA func182 h
def PV:FuncId→Bool:=kG [64,96,41,33,31,82,102,44,101,86,103,104,105,35,129,131,36,87,69,138,88,140,95,139,173,144,178,29,10,38]
def iO (a0:AV)(H:AH)(K:KT):Prop:=
 bO (amm XX [a0,(I 0)]) λv0=>
 bO (amm Zn [v0,(I 4096)]) λv1=>
 bO (En [(I 0),Ad,Ad,Ad,Ad,Ad,(I 0),(I 0),(B false)] [(0,1,v1),(7,1,(I (-1)))]) λv2=>
 bH (AC H v2) λv3 H4=>
 K v3 H4
theorem lN {a0:AV}{H:AH}{K:KT}(h:iO a0 H K):Ch 11 [a0] H K:=
 fok A7 PV BA func11 h
def SF (a0:AV)(H:AH)(K:KT):Prop:=
 bH (AC H (.agg [Ad,Ad])) λv0 H1=>
 bO (Af a0) λv2=>
 bO (Ab 1 v2) λv3=>
 bO (Ap true 2 H1 v3) λv4=>
 bP (PCall prog 64 [v4] H1) λv5=>
 bS (AP 2 H1 v0 v5) λH6=>
 bO (Ap true 2 H6 v0) λv7=>
 K v7 H6
theorem Wx {a0:AV}{H:AH}{K:KT}(h:SF a0 H K):Ch 21 [a0] H K:=
 fok A7 PV BA func21 h
def Ro (a0:AV)(H:AH)(K:KT):Prop:=
 bH (AC H (.agg [Ad,Ad])) λv0 H1=>
 bO (Af a0) λv2=>
 bO (Ab 3 v2) λv3=>
 bO (Ap true 2 H1 v3) λv4=>
 bP (PCall prog 64 [v4] H1) λv5=>
 bS (AP 2 H1 v0 v5) λH6=>
 bO (Ap true 2 H6 v0) λv7=>
 K v7 H6
theorem Vm {a0:AV}{H:AH}{K:KT}(h:Ro a0 H K):Ch 42 [a0] H K:=
 fok A7 PV BA func42 h
def MZ (a0:AV)(H:AH)(K:KT):Prop:=
 bO (Af a0) λv0=>
 bO (Ab 5 v0) λv1=>
 bO (Ap false 1 H v1) λv2=>
 bO (AL v2) λv3=>
 K v3 H
theorem Se {a0:AV}{H:AH}{K:KT}(h:MZ a0 H K):Ch 43 [a0] H K:=
 fok A7 PV BA func43 h
def Rl (a0:AV)(H:AH)(K:KT):Prop:=
 bO (Af a0) λv0=>
 bO (Ab 0 v0) λv1=>
 bO (Ap false 1 H v1) λv2=>
 bO (Af a0) λv3=>
 bO (Ab 1 v3) λv4=>
 bO (Ap true 2 H v4) λv5=>
 bP (BPure prog 31 [v5]) λv6=>
 bO (Ar .sub v2 v6) λv7=>
 bO (amm XX [(I 0),v7]) λv8=>
 K v8 H
theorem Vk {a0:AV}{H:AH}{K:KT}(h:Rl a0 H K):Ch 32 [a0] H K:=
 fok A7 PV BA func32 h
def SG (a0:AV)(H:AH)(K:KT):Prop:=
 bO (Af a0) λv0=>
 bO (Ab 8 v0) λv1=>
 bO (Ap false 1 H v1) λv2=>
 K v2 H
theorem Wy {a0:AV}{H:AH}{K:KT}(h:SG a0 H K):Ch 27 [a0] H K:=
 fok A7 PV BA func27 h
def SE (a0 a1:AV)(H:AH)(K:KT):Prop:=
 bO (amm XX [a1,(I (-1))]) λv0=>
 bO (Af a0) λv1=>
 bO (Ab 7 v1) λv2=>
 bS (AP 1 H v2 v0) λH3=>
 K (.tup []) H3
theorem Ww {a0 a1:AV}{H:AH}{K:KT}(h:SE a0 a1 H K):Ch 15 [a0,a1] H K:=
 fok A7 PV BA func15 h
def KA:Nat→Option (List Bool):=Cd [(5,mk 53 0 [0,1,9,10,11]),(2,mk 53 0 [0,1,9,10,11])]
def EA (p:List Bool)(n:Nat):List AV→AH→Kf→Prop:=AJ prog A7 PV Aw Aw KA (sub p (AG f40)) n
def Dw (R2:RT)(x0 x1 x9 x10 x11:AV)(H:AH)(K:KT):Prop:=jn (mk 53 0 [0,1,9,10,11]) (EA [fF,tT,fF,fF,tT,tT,tT] 8) [x0,x1,x9,x10,x11] H (PP (mk 53 0 [0,1,9,10,11]) R2 (AS 0 (AN (EA [tT] 8) (AR prog f40.results.toList K))))
def K9 (x0 x1 x9 x10 x11:AV)(H:AH)(K:KT):Prop:=lp (mk 53 0 [0,1,9,10,11]) (EA [fF,tT,fF,fF] 3) [x0,x1,x9,x10,x11] H (AS 0 (AN (EA [tT] 8) (AR prog f40.results.toList K)))
def Ff (R2:RT)(x0 x1 x9 x10 x11:AV)(H:AH)(K:KT):Prop:=
 bO (Ar .add x11 (I 1)) λv0=>
 R2 [x0,x1,x9,x10,v0] H
theorem It (R2:RT)(x0 x1 x9 x10 x11:AV)(H:AH)(K:KT):Dw R2 x0 x1 x9 x10 x11 H K=Ff R2 x0 x1 x9 x10 x11 H K:=(B5 _ _ _ _ _).trans (by kernel_rfl)
def Jf (R2:RT)(x0 x1 x9 x10 x11:AV)(H:AH)(K:KT):Prop:=
 bO (Ar .lss x11 x10) λv0=>
 bB v0 λt1=>bI t1 (
 bO (Bo 8 x9 x11) λv2=>
 bO (Ap true 8 H v2) λv3=>
 bH (AC H (.agg [(I 0),(I 0),(I 0),(I 0),(B false),(.lit (.string ⟨#[]⟩)),(.lit (.string ⟨#[]⟩)),Ad])) λv4 H5=>
 bS (AP 8 H5 v4 v3) λH6=>
 bO (AL x1) λv7=>
 bO (Ar .lss x11 v7) λv8=>
 bG v8 true λw9=>
 gO w9 (some x1) λv10=>
 bG v8 true λw11=>
 gO w11 (some x11) λv12=>
 bG v8 true λw13=>
 gO w13 (Bo 1 v10 v12) λv14=>
 bG v8 true λw15=>
 gO w15 (Ap false 1 H6 v14) λv16=>
 bO (A0 v8 v16 (B false)) λv17=>
 bB v17 λt18=>bI t18 (
 bO (Af x0) λv19=>
 bO (Ab 3 v19) λv20=>
 bO (Ap true 2 H6 v20) λv21=>
 bO (Ap true 8 H6 v4) λv22=>
 bP (BPure prog 96 [v21,v22]) λv23=>
 bO (Af x0) λv24=>
 bO (Ab 3 v24) λv25=>
 bS (AP 2 H6 v25 v23) λH26=>
 Dw R2 x0 x1 x9 x10 x11 H26 K)
 (Dw R2 x0 x1 x9 x10 x11 H6 K))
 (bO (Af x0) λv27=>
 bO (Ab 3 v27) λv28=>
 bO (Ap true 2 H v28) λv29=>
 bP (PCall prog 64 [v29] H) λv30=>
 bO (Af x0) λv31=>
 bO (Ab 1 v31) λv32=>
 bS (AP 2 H v32 v30) λH33=>
 bO (Af x0) λv34=>
 bO (Ab 5 v34) λv35=>
 bS (AP 1 H33 v35 Ad) λH36=>
 bO (Af x0) λv37=>
 bO (Ab 8 v37) λv38=>
 bS (AP 1 H36 v38 (B false)) λH39=>
 bO (Af x0) λv40=>
 bO (Ab 7 v40) λv41=>
 bS (AP 1 H39 v41 (I (-1))) λH42=>
 K (.tup []) H42)
theorem Nw {K:KT}:pV (λR x0 x1 x9 x10 x11 H=>Jf R x0 x1 x9 x10 x11 H K) (λx0 x1 x9 x10 x11 H=>K9 x0 x1 x9 x10 x11 H K):=dH (A3 _ _) (λ_ _ _ _ _ _ _=>by kernel_rfl)
def Na (a0 a1:AV)(H:AH)(K:KT):Prop:=
 bO (Af a0) λv0=>
 bO (Ab 5 v0) λv1=>
 bO (Ap false 1 H v1) λv2=>
 bO (AL v2) λv3=>
 K9 a0 a1 v2 v3 (I 0) H K
theorem Sf {a0 a1:AV}{H:AH}{K:KT}(h:Na a0 a1 H K):Ch 40 [a0,a1] H K:=
 fok A7 PV KA func40 h
def Ng:Nat→Option (List Bool):=Cd [(1,mk 31 0 [])]
def Wz (p:List Bool)(n:Nat):List AV→AH→Kf→Prop:=AJ prog A7 PV Aw Aw Ng (sub p (AG f94)) n
def I2 (H:AH)(K:KT):Prop:=jn (mk 31 0 []) (Wz [tT,tT] 6) [] H (AR prog f94.results.toList K)
def GA (H:AH)(K:KT):Prop:=
 K (B true) H
theorem KC (H:AH)(K:KT):I2 H K=GA H K:=(B5 _ _ _ _ _).trans (by kernel_rfl)
def Ru (a0:AV)(H:AH)(K:KT):Prop:=
 bO (Af a0) λv0=>
 bO (Ab 8 v0) λv1=>
 bO (Ap false 1 H v1) λv2=>
 bG v2 false λw3=>
 gO w3 (some a0) λv4=>
 bG v2 false λw5=>
 gO w5 (Af v4) λv6=>
 bG v2 false λw7=>
 gO w7 (Ab 7 v6) λv8=>
 bG v2 false λw9=>
 gO w9 (Ap false 1 H v8) λv10=>
 bG v2 false λw11=>
 gO w11 (Ar .eql v10 (I 0)) λv12=>
 bO (A0 v2 (B true) v12) λv13=>
 bB v13 λt14=>bI t14 (
 bO (Af a0) λv15=>
 bO (Ab 8 v15) λv16=>
 bS (AP 1 H v16 (B true)) λH17=>
 K (B false) H17)
 (bO (Af a0) λv18=>
 bO (Ab 7 v18) λv19=>
 bO (Ap false 1 H v19) λv20=>
 bO (Ar .gtr v20 (I 0)) λv21=>
 bB v21 λt22=>bI t22 (
 bO (Af a0) λv23=>
 bO (Ab 7 v23) λv24=>
 bO (Ap false 1 H v24) λv25=>
 bO (Ar .sub v25 (I 1)) λv26=>
 bO (Af a0) λv27=>
 bO (Ab 7 v27) λv28=>
 bS (AP 1 H v28 v26) λH29=>
 I2 H29 K)
 (I2 H K))
theorem Vq {a0:AV}{H:AH}{K:KT}(h:Ru a0 H K):Ch 94 [a0] H K:=
 fok A7 PV Ng func94 h
def U0 (a0 a1:AV)(H:AH)(K:KT):Prop:=
 bH (AC H a1) λv0 H1=>
 bC (BCall prog 94 [a0] H1) λv2 H3=>
 bO (Em .not v2) λv4=>
 bB v4 λt5=>bI t5 (
 K (I 8) H3)
 (bO (Af a0) λv6=>
 bO (Ab 1 v6) λv7=>
 bO (Ap true 2 H3 v7) λv8=>
 bO (Ap true 8 H3 v0) λv9=>
 bP (BPure prog 96 [v8,v9]) λv10=>
 bO (Af a0) λv11=>
 bO (Ab 1 v11) λv12=>
 bS (AP 2 H3 v12 v10) λH13=>
 bO (Af a0) λv14=>
 bO (Ab 5 v14) λv15=>
 bO (Ap false 1 H13 v15) λv16=>
 bO (Ap true 8 H13 v0) λv17=>
 bO (Qo 8 1 (B4 [(I 0),(I 0),(I 0),(I 0),(B false),(.lit (.string ⟨#[]⟩)),(.lit (.string ⟨#[]⟩)),Ad] 1) [(0,8,v17)]) λv18=>
 bH (HM 8 96 H13 v16 v18) λv19 H20=>
 bO (Af a0) λv21=>
 bO (Ab 5 v21) λv22=>
 bS (AP 1 H20 v22 v19) λH23=>
 K (I 0) H23)
theorem XM {a0 a1:AV}{H:AH}{K:KT}(h:U0 a0 a1 H K):Ch 59 [a0,a1] H K:=
 fok A7 PV BA func59 h
def Fo (a0 a1:AV)(H:AH)(K:KT):Prop:=
 bH (AC H (.agg [(I 0),Ad])) λv0 H1=>
 bO (Af a0) λv2=>
 bO (Ab 8 v2) λv3=>
 bO (Ap false 1 H1 v3) λv4=>
 bB v4 λt5=>bI t5 (
 bO (En [(I 0),Ad] []) λv6=>
 bS (AP 2 H1 v0 v6) λH7=>
 bO (Ap true 2 H7 v0) λv8=>
 K (.tup [v8,(I 8)]) H7)
 (bO (Af a0) λv9=>
 bO (Ab 1 v9) λv10=>
 bO (Ap true 2 H1 v10) λv11=>
 bP (PCall prog 33 [v11,a1] H1) λv12=>
 bO (Ag v12 0) λv13=>
 bO (Ag v12 1) λv14=>
 bH (AC H1 (.agg [(I 0),Ad])) λv15 H16=>
 bS (AP 2 H16 v15 v13) λH17=>
 bO (Em .not v14) λv18=>
 bB v18 λt19=>bI t19 (
 bO (En [(I 0),Ad] []) λv20=>
 bS (AP 2 H17 v0 v20) λH21=>
 bO (Ap true 2 H21 v0) λv22=>
 K (.tup [v22,(I 3)]) H21)
 (bO (Ap true 2 H17 v15) λv23=>
 bS (AP 2 H17 v0 v23) λH24=>
 bO (Ap true 2 H24 v0) λv25=>
 K (.tup [v25,(I 0)]) H24))
theorem Ga {a0 a1:AV}{H:AH}{K:KT}(h:Fo a0 a1 H K):Ch 85 [a0,a1] H K:=
 fok A7 PV BA func85 h
def Rw (a0 a1:AV)(H:AH)(K:KT):Prop:=
 bO (Af a0) λv0=>
 bO (Ab 8 v0) λv1=>
 bO (Ap false 1 H v1) λv2=>
 bB v2 λt3=>bI t3 (
 K (.tup [(I 0),(I 8)]) H)
 (bP (PCall prog 102 [a1] H) λv4=>
 bO (Em .not v4) λv5=>
 bB v5 λt6=>bI t6 (
 K (.tup [(I 0),(I 5)]) H)
 (bO (Af a0) λv7=>
 bO (Ab 1 v7) λv8=>
 bO (Ap true 2 H v8) λv9=>
 bP (PCall prog 41 [v9,a1] H) λv10=>
 bO (Ag v10 0) λv11=>
 bO (Ag v10 1) λv12=>
 bO (Em .not v12) λv13=>
 bB v13 λt14=>bI t14 (
 K (.tup [(I 0),(I 3)]) H)
 (K (.tup [v11,(I 0)]) H)))
theorem Vr {a0 a1:AV}{H:AH}{K:KT}(h:Rw a0 a1 H K):Ch 58 [a0,a1] H K:=
 fok A7 PV BA func58 h
def Rp (a0 a1 a2:AV)(H:AH)(K:KT):Prop:=
 bC (BCall prog 58 [a0,a1] H) λv0 H1=>
 bO (Ag v0 0) λv2=>
 bO (Ag v0 1) λv3=>
 bO (Ar .neq v3 (I 3)) λv4=>
 bG v4 false λw5=>
 gO w5 (some a2) λv6=>
 bG v4 false λw7=>
 gO w7 (Em .not v6) λv8=>
 bO (A0 v4 (B true) v8) λv9=>
 bB v9 λt10=>bI t10 (
 K (.tup [v2,v3]) H1)
 (bO (Af a0) λv11=>
 bO (Ab 1 v11) λv12=>
 bO (Ab 0 v12) λv13=>
 bO (Ap false 1 H1 v13) λv14=>
 bO (AL v14) λv15=>
 bO (Ar .geq v15 (I 16)) λv16=>
 bB v16 λt17=>bI t17 (
 K (.tup [(I 0),(I 4)]) H1)
 (bO (Af a0) λv18=>
 bO (Ab 6 v18) λv19=>
 bO (Ap false 1 H1 v19) λv20=>
 bO (Ar .add v20 (I 1)) λv21=>
 bO (En [(I 0),(I 0),(I 0),(I 0),(B false),(.lit (.string ⟨#[]⟩)),(.lit (.string ⟨#[]⟩)),Ad] [(0,1,(I 1)),(5,1,a1),(1,1,v21)]) λv22=>
 bC (BCall prog 59 [a0,v22] H1) λv23 H24=>
 bO (Ar .neq v23 (I 0)) λv25=>
 bB v25 λt26=>bI t26 (
 K (.tup [(I 0),v23]) H24)
 (bO (Af a0) λv27=>
 bO (Ab 6 v27) λv28=>
 bO (Ap false 1 H24 v28) λv29=>
 bO (Ar .add v29 (I 1)) λv30=>
 bO (Af a0) λv31=>
 bO (Ab 6 v31) λv32=>
 bS (AP 1 H24 v32 v30) λH33=>
 bO (Af a0) λv34=>
 bO (Ab 6 v34) λv35=>
 bO (Ap false 1 H33 v35) λv36=>
 K (.tup [v36,(I 0)]) H33)))
theorem Vn {a0 a1 a2:AV}{H:AH}{K:KT}(h:Rp a0 a1 a2 H K):Ch 13 [a0,a1,a2] H K:=
 fok A7 PV BA func13 h
def Rq (a0 a1:AV)(H:AH)(K:KT):Prop:=
 bC (BCall prog 85 [a0,a1] H) λv0 H1=>
 bO (Ag v0 0) λv2=>
 bO (Ag v0 1) λv3=>
 bH (AC H1 (.agg [(I 0),Ad])) λv4 H5=>
 bS (AP 2 H5 v4 v2) λH6=>
 bO (Ab 0 v4) λv7=>
 bO (Ap false 1 H6 v7) λv8=>
 K (.tup [v8,v3]) H6
theorem Vo {a0 a1:AV}{H:AH}{K:KT}(h:Rq a0 a1 H K):Ch 46 [a0,a1] H K:=
 fok A7 PV BA func46 h
def HV (a0 a1 a2 a3:AV)(H:AH)(K:KT):Prop:=
 bC (BCall prog 85 [a0,a1] H) λv0 H1=>
 bO (Ag v0 0) λv2=>
 bO (Ag v0 1) λv3=>
 bH (AC H1 (.agg [(I 0),Ad])) λv4 H5=>
 bS (AP 2 H5 v4 v2) λH6=>
 bO (Ar .neq v3 (I 0)) λv7=>
 bB v7 λt8=>bI t8 (
 K (.tup [Ad,v3]) H6)
 (bO (Ar .lss a2 (I 0)) λv9=>
 bG v9 false λw10=>
 gO w10 (some a3) λv11=>
 bG v9 false λw12=>
 gO w12 (Ar .lss v11 (I 0)) λv13=>
 bO (A0 v9 (B true) v13) λv14=>
 bG v14 false λw15=>
 gO w15 (some a3) λv16=>
 bG v14 false λw17=>
 gO w17 (Ar .gtr v16 (I 4096)) λv18=>
 bO (A0 v14 (B true) v18) λv19=>
 bB v19 λt20=>bI t20 (
 K (.tup [Ad,(I 5)]) H6)
 (bO (Ap true 2 H6 v4) λv21=>
 bP (PCall prog 101 [v21,a2,a3] H6) λv22=>
 K (.tup [v22,(I 0)]) H6))
theorem I1 {a0 a1 a2 a3:AV}{H:AH}{K:KT}(h:HV a0 a1 a2 a3 H K):Ch 45 [a0,a1,a2,a3] H K:=
 fok A7 PV BA func45 h
def M4:CJ:=LT [(12,[(3,some 11)])]
def M5:Nat→Option (List Bool):=Cd [(9,mk 79 0 [0,1,2,3,10,36,37,38])]
def Nf (p:List Bool)(n:Nat):List AV→AH→Kf→Prop:=AJ prog M4 PV Aw Aw M5 (sub p (AG f34)) n
def M3 (x0 x1 x2 x3 x10 x36 x37 x38:AV)(H:AH)(K:KT):Prop:=lp (mk 79 0 [0,1,2,3,10,36,37,38]) (Nf [tT,tT,tT,fF,tT,fF,fF] 10) [x0,x1,x2,x3,x10,x36,x37,x38] H (AS 1 (AN (Nf [tT,tT,tT,tT] 21) (AR prog f34.results.toList K)))
def KB (R9:RT)(x0 x1 x2 x3 x10 x36 x37 x38:AV)(H:AH)(K:KT):Prop:=
 bO (Ar .lss x38 x37) λv0=>
 bB v0 λt1=>bI t1 (
 bO (Bo 2 x36 x38) λv2=>
 bO (Ap true 2 H v2) λv3=>
 bH (AC H (.agg [(I 0),(I 0)])) λv4 H5=>
 bS (AP 2 H5 v4 v3) λH6=>
 bO (Ab 0 v4) λv7=>
 bO (Ap false 1 H6 v7) λv8=>
 bO (Ar .sub v8 x2) λv9=>
 bO (Ap true 2 H6 x10) λv10=>
 bO (Ab 0 v4) λv11=>
 bO (Ap false 1 H6 v11) λv12=>
 bO (Ar .quo v12 (I 8)) λv13=>
 bP (PCall prog 88 [v10,v13] H6) λv14=>
 bO (Em .not v14) λv15=>
 bG v15 true λw16=>
 gO w16 (some x0) λv17=>
 bG v15 true λw18=>
 gC w18 (BCall prog 32 [v17] H6) H6 λv19 H20=>
 bG v15 true λw21=>
 gO w21 (Ar .eql v19 (I 0)) λv22=>
 bO (A0 v15 v22 (B false)) λv23=>
 bB v23 λt24=>bI t24 (
 K (.tup [v9,(I 4)]) H20)
 (bO (Ab 0 v4) λv25=>
 bO (Ap false 1 H20 v25) λv26=>
 bO (Ab 1 v4) λv27=>
 bO (Ap false 1 H20 v27) λv28=>
 bO (Ar .add v9 v28) λv29=>
 bO (Bf 1 x3 (some v9) (some v29) none) λv30=>
 bC (BCall prog 89 [v30] H20) λv31 H32=>
 bO (En [(I 0),(I 0),(I 0),(I 0),(B false),(.lit (.string ⟨#[]⟩)),(.lit (.string ⟨#[]⟩)),Ad] [(0,1,(I 2)),(1,1,x1),(2,1,v26),(7,1,v31)]) λv33=>
 bC (BCall prog 59 [x0,v33] H32) λv34 H35=>
(Ap false 1 H32 v25=some v26)∧
 bO (Ar .neq v34 (I 0)) λv36=>
 bB v36 λt37=>bI t37 (
 K (.tup [v9,v34]) H35)
 (bO (Ar .add x38 (I 1)) λv38=>
 R9 [x0,x1,x2,x3,x10,x36,x37,v38] H35)))
 (bO (AL x3) λv39=>
 K (.tup [v39,(I 0)]) H)
theorem Pc {K:KT}:RL8 (λR x0 x1 x2 x3 x10 x36 x37 x38 H=>KB R x0 x1 x2 x3 x10 x36 x37 x38 H K) (λx0 x1 x2 x3 x10 x36 x37 x38 H=>M3 x0 x1 x2 x3 x10 x36 x37 x38 H K):=zdpxZ (A3 _ _) (λ_ _ _ _ _ _ _ _ _ _=>by kernel_rfl)
def PF (a0 a1 a2 a3:AV)(H:AH)(K:KT):Prop:=
 bC (BCall prog 85 [a0,a1] H) λv0 H1=>
 bO (Ag v0 0) λv2=>
 bO (Ag v0 1) λv3=>
 bH (AC H1 (.agg [(I 0),Ad])) λv4 H5=>
 bS (AP 2 H5 v4 v2) λH6=>
 bO (Ar .neq v3 (I 0)) λv7=>
 bB v7 λt8=>bI t8 (
 K (.tup [(I 0),v3]) H6)
 (bO (AL a3) λv9=>
 bP (PCall prog 86 [a2,v9] H6) λv10=>
 bO (Em .not v10) λv11=>
 bB v11 λt12=>bI t12 (
 K (.tup [(I 0),(I 5)]) H6)
 (bO (AL a3) λv13=>
 bO (En [(I 0),(I 0)] [(0,1,a2),(1,1,v13)]) λv14=>
 bP (PCall prog 87 [v14,(I 8)] H6) λv15=>
 bO (AL v15) λv16=>
 M3 a0 a1 a2 a3 v4 v15 v16 (I 0) H6 K))
theorem Uz {a0 a1 a2 a3:AV}{H:AH}{K:KT}(h:PF a0 a1 a2 a3 H K):Ch 34 [a0,a1,a2,a3] H K:=
 fok M4 PV M5 func34 h
def M2 (a0 a1 a2:AV)(H:AH)(K:KT):Prop:=
 bC (BCall prog 85 [a0,a1] H) λv0 H1=>
 bO (Ag v0 0) λv2=>
 bO (Ag v0 1) λv3=>
 bH (AC H1 (.agg [(I 0),Ad])) λv4 H5=>
 bS (AP 2 H5 v4 v2) λH6=>
 bO (Ar .neq v3 (I 0)) λv7=>
 bB v7 λt8=>bI t8 (
 K v3 H6)
 (bO (Ap true 2 H6 v4) λv9=>
 bP (PCall prog 103 [v9,a2] H6) λv10=>
 bO (Ag v10 0) λv11=>
 bO (Ag v10 1) λv12=>
 bH (AC H6 (.agg [(I 0),Ad])) λv13 H14=>
 bS (AP 2 H14 v13 v11) λH15=>
 bO (Em .not v12) λv16=>
 bB v16 λt17=>bI t17 (
 K (I 5) H15)
 (bO (En [(I 0),(I 0),(I 0),(I 0),(B false),(.lit (.string ⟨#[]⟩)),(.lit (.string ⟨#[]⟩)),Ad] [(0,1,(I 3)),(1,1,a1),(3,1,a2)]) λv18=>
 bC (BCall prog 59 [a0,v18] H15) λv19 H20=>
 K v19 H20))
theorem Rt {a0 a1 a2:AV}{H:AH}{K:KT}(h:M2 a0 a1 a2 H K):Ch 49 [a0,a1,a2] H K:=
 fok A7 PV BA func49 h
def Rh:CJ:=LT [(7,[(1,some 8),(2,some 8),(4,some 8),(5,some 8)])]
def M1 (a0 a1 a2 a3 a4:AV)(H:AH)(K:KT):Prop:=
 bC (BCall prog 85 [a0,a1] H) λv0 H1=>
 bO (Ag v0 0) λv2=>
 bO (Ag v0 1) λv3=>
 bH (AC H1 (.agg [(I 0),Ad])) λv4 H5=>
 bS (AP 2 H5 v4 v2) λH6=>
 bO (Ar .neq v3 (I 0)) λv7=>
 bB v7 λt8=>bI t8 (
 K v3 H6)
 (bO (Ap true 2 H6 v4) λv9=>
 bP (PCall prog 104 [v9,a2,a3,a4] H6) λv10=>
 bO (Ag v10 0) λv11=>
 bO (Ag v10 1) λv12=>
 bH (AC H6 (.agg [(I 0),Ad])) λv13 H14=>
 bS (AP 2 H14 v13 v11) λH15=>
 bO (Em .not v12) λv16=>
 bB v16 λt17=>bI t17 (
 K (I 5) H15)
 (bO (Ab 1 v13) λv18=>
 bO (Ap false 1 H15 v18) λv19=>
 bO (AL v19) λv20=>
 bO (Ab 1 v4) λv21=>
 bO (Ap false 1 H15 v21) λv22=>
 bO (AL v22) λv23=>
 bO (Ar .sub v20 v23) λv24=>
 bC (BCall prog 32 [a0] H15) λv25 H26=>
 bO (Ar .gtr v24 v25) λv27=>
(Ap false 1 H26 v18=some v19)∧
(AL v19=some v20)∧
(Ap false 1 H26 v21=some v22)∧
(AL v22=some v23)∧
 bB v27 λt28=>bI t28 (
 K (I 4) H26)
 (bO (En [(I 0),(I 0),(I 0),(I 0),(B false),(.lit (.string ⟨#[]⟩)),(.lit (.string ⟨#[]⟩)),Ad] [(0,1,(I 4)),(1,1,a1),(2,1,a2),(3,1,a3),(4,1,a4)]) λv29=>
 bC (BCall prog 59 [a0,v29] H26) λv30 H31=>
 K v30 H31)))
theorem Ri {a0 a1 a2 a3 a4:AV}{H:AH}{K:KT}(h:M1 a0 a1 a2 a3 a4 H K):Ch 50 [a0,a1,a2,a3,a4] H K:=
 fok Rh PV BA func50 h
def PE (a0 a1 a2 a3:AV)(H:AH)(K:KT):Prop:=
 bC (BCall prog 85 [a0,a1] H) λv0 H1=>
 bO (Ag v0 0) λv2=>
 bO (Ag v0 1) λv3=>
 bH (AC H1 (.agg [(I 0),Ad])) λv4 H5=>
 bS (AP 2 H5 v4 v2) λH6=>
 bO (Ar .neq v3 (I 0)) λv7=>
 bB v7 λt8=>bI t8 (
 K v3 H6)
 (bO (Ap true 2 H6 v4) λv9=>
 bP (PCall prog 105 [v9,a2,a3] H6) λv10=>
 bO (Ag v10 0) λv11=>
 bO (Ag v10 1) λv12=>
 bH (AC H6 (.agg [(I 0),Ad])) λv13 H14=>
 bS (AP 2 H14 v13 v11) λH15=>
 bO (Em .not v12) λv16=>
 bB v16 λt17=>bI t17 (
 K (I 5) H15)
 (bO (En [(I 0),(I 0),(I 0),(I 0),(B false),(.lit (.string ⟨#[]⟩)),(.lit (.string ⟨#[]⟩)),Ad] [(0,1,(I 5)),(1,1,a1),(2,1,a2),(3,1,a3)]) λv18=>
 bC (BCall prog 59 [a0,v18] H15) λv19 H20=>
 K v19 H20))
theorem Uy {a0 a1 a2 a3:AV}{H:AH}{K:KT}(h:PE a0 a1 a2 a3 H K):Ch 51 [a0,a1,a2,a3] H K:=
 fok A7 PV BA func51 h
def OJ (a0 a1 a2:AV)(H:AH)(K:KT):Prop:=
 bO (Af a0) λv0=>
 bO (Ab 8 v0) λv1=>
 bO (Ap false 1 H v1) λv2=>
 bO (Em .not v2) λv3=>
 bG v3 true λw4=>
 gO w4 (some a2) λv5=>
 bG v3 true λw6=>
 gP w6 (PCall prog 102 [v5] H) λv7=>
 bG v3 true λw8=>
 gO w8 (Em .not v7) λv9=>
 bO (A0 v3 v9 (B false)) λv10=>
 bB v10 λt11=>bI t11 (
 K (I 5) H)
 (bC (BCall prog 58 [a0,a1] H) λv12 H13=>
 bO (Ag v12 0) λv14=>
 bO (Ag v12 1) λv15=>
 bO (Ar .neq v15 (I 0)) λv16=>
 bG v16 false λw17=>
 gO w17 (some a1) λv18=>
 bG v16 false λw19=>
 gO w19 (some a2) λv20=>
 bG v16 false λw21=>
 gO w21 (XZ .eql v18 v20) λv22=>
 bO (A0 v16 (B true) v22) λv23=>
 bB v23 λt24=>bI t24 (
 K v15 H13)
 (bO (En [(I 0),(I 0),(I 0),(I 0),(B false),(.lit (.string ⟨#[]⟩)),(.lit (.string ⟨#[]⟩)),Ad] [(0,1,(I 6)),(5,1,a1),(6,1,a2)]) λv25=>
 bC (BCall prog 59 [a0,v25] H13) λv26 H27=>
 K v26 H27))
theorem Tm {a0 a1 a2:AV}{H:AH}{K:KT}(h:OJ a0 a1 a2 H K):Ch 48 [a0,a1,a2] H K:=
 fok A7 PV BA func48 h
def OI (a0 a1:AV)(H:AH)(K:KT):Prop:=
 bC (BCall prog 58 [a0,a1] H) λv0 H1=>
 bO (Ag v0 0) λv2=>
 bO (Ag v0 1) λv3=>
 bO (Ar .neq v3 (I 0)) λv4=>
 bB v4 λt5=>bI t5 (
 K v3 H1)
 (bO (En [(I 0),(I 0),(I 0),(I 0),(B false),(.lit (.string ⟨#[]⟩)),(.lit (.string ⟨#[]⟩)),Ad] [(0,1,(I 7)),(5,1,a1)]) λv6=>
 bC (BCall prog 59 [a0,v6] H1) λv7 H8=>
 K v7 H8)
theorem Tl {a0 a1:AV}{H:AH}{K:KT}(h:OI a0 a1 H K):Ch 47 [a0,a1] H K:=
 fok A7 PV BA func47 h
def Nc:Nat→Option (List Bool):=Cd [(10,mk 41 0 [0,1,5,14,15,16]),(7,mk 41 0 [0,1,5,14,15,16])]
def FY (p:List Bool)(n:Nat):List AV→AH→Kf→Prop:=AJ prog A7 PV Aw Aw Nc (sub p (AG f39)) n
def HJ (R7:RT)(x0 x1 x5 x14 x15 x16:AV)(H:AH)(K:KT):Prop:=jn (mk 41 0 [0,1,5,14,15,16]) (FY [tT,tT,tT,fF,tT,fF,fF,tT,tT,tT] 13) [x0,x1,x5,x14,x15,x16] H (PP (mk 41 0 [0,1,5,14,15,16]) R7 (AS 0 (AN (FY [tT,tT,tT,tT] 13) (AR prog f39.results.toList K))))
def Nb (x0 x1 x5 x14 x15 x16:AV)(H:AH)(K:KT):Prop:=lp (mk 41 0 [0,1,5,14,15,16]) (FY [tT,tT,tT,fF,tT,fF,fF] 8) [x0,x1,x5,x14,x15,x16] H (AS 0 (AN (FY [tT,tT,tT,tT] 13) (AR prog f39.results.toList K)))
def FX (R7:RT)(x0 x1 x5 x14 x15 x16:AV)(H:AH)(K:KT):Prop:=
 bO (Ar .add x16 (I 1)) λv0=>
 R7 [x0,x1,x5,x14,x15,v0] H
theorem JG (R7:RT)(x0 x1 x5 x14 x15 x16:AV)(H:AH)(K:KT):HJ R7 x0 x1 x5 x14 x15 x16 H K=FX R7 x0 x1 x5 x14 x15 x16 H K:=(B5 _ _ _ _ _).trans (by kernel_rfl)
def Lt (R7:RT)(x0 x1 x5 x14 x15 x16:AV)(H:AH)(K:KT):Prop:=
 bO (Ar .lss x16 x15) λv0=>
 bB v0 λt1=>bI t1 (
 bO (Bo 8 x14 x16) λv2=>
 bO (Ap true 8 H v2) λv3=>
 bH (AC H (.agg [(I 0),(I 0),(I 0),(I 0),(B false),(.lit (.string ⟨#[]⟩)),(.lit (.string ⟨#[]⟩)),Ad])) λv4 H5=>
 bS (AP 8 H5 v4 v3) λH6=>
 bO (Ap true 8 H6 v4) λv7=>
 bP (PCall prog 95 [v7,x1] H6) λv8=>
 bB v8 λt9=>bI t9 (
 bO (Af x0) λv10=>
 bO (Ab 3 v10) λv11=>
 bO (Ap true 2 H6 v11) λv12=>
 bO (Ap true 8 H6 v4) λv13=>
 bP (BPure prog 96 [v12,v13]) λv14=>
 bO (Af x0) λv15=>
 bO (Ab 3 v15) λv16=>
 bS (AP 2 H6 v16 v14) λH17=>
 HJ R7 x0 x1 x5 x14 x15 x16 H17 K)
 (bO (Ap true 8 H6 v4) λv18=>
 bH (D9 H6 8 1 (B4 [(I 0),(I 0),(I 0),(I 0),(B false),(.lit (.string ⟨#[]⟩)),(.lit (.string ⟨#[]⟩)),Ad] 1) [(0,8,v18)]) λv19 H20=>
 bH (HM 8 96 H20 x5 v19) λv21 H22=>
 HJ R7 x0 x1 v21 x14 x15 x16 H22 K))
 (bO (Af x0) λv23=>
 bO (Ab 5 v23) λv24=>
 bS (AP 1 H v24 x5) λH25=>
 K (I 0) H25)
theorem Ql {K:KT}:vA (λR x0 x1 x5 x14 x15 x16 H=>Lt R x0 x1 x5 x14 x15 x16 H K) (λx0 x1 x5 x14 x15 x16 H=>Nb x0 x1 x5 x14 x15 x16 H K):=fQ (A3 _ _) (λ_ _ _ _ _ _ _ _=>by kernel_rfl)
def Rr (a0 a1:AV)(H:AH)(K:KT):Prop:=
 bC (BCall prog 94 [a0] H) λv0 H1=>
 bO (Em .not v0) λv2=>
 bB v2 λt3=>bI t3 (
 K (I 8) H1)
 (bO (Af a0) λv4=>
 bO (Ab 5 v4) λv5=>
 bO (Ap false 1 H1 v5) λv6=>
 bO (AL v6) λv7=>
 Nb a0 a1 Ad v6 v7 (I 0) H1 K)
theorem Vp {a0 a1:AV}{H:AH}{K:KT}(h:Rr a0 a1 H K):Ch 39 [a0,a1] H K:=
 fok A7 PV Nc func39 h
def Js (a0 a1 a2 a3:AV)(H:AH)(K:KT):Prop:=
 bC (BCall prog 85 [a0,a1] H) λv0 H1=>
 bO (Ag v0 0) λv2=>
 bO (Ag v0 1) λv3=>
 bH (AC H1 (.agg [(I 0),Ad])) λv4 H5=>
 bS (AP 2 H5 v4 v2) λH6=>
 bO (Ar .neq v3 (I 0)) λv7=>
 bB v7 λt8=>bI t8 (
 K (.tup [(I 0),v3]) H6)
 (bO (Ap true 2 H6 v4) λv9=>
 bF true a3 λk12 f12 c12=>
 bT (BW prog k12||!true)<|
 bC (BCall prog k12 (f12++[v9,a2]++c12) H6) λv10 H11=>
 bO (Ag v10 0) λv13=>
 bO (Ag v10 1) λv14=>
 bO (Em .not v14) λv15=>
 bB v15 λt16=>bI t16 (
 K (.tup [(I 0),(I 5)]) H11)
 (K (.tup [v13,(I 0)]) H11))
theorem Lu {a0 a1 a2 a3:AV}{H:AH}{K:KT}(h:Js a0 a1 a2 a3 H K):Ch 128 [a0,a1,a2,a3] H K:=
 fok A7 PV BA func128 h
def Rj (a0 a1 a2:AV)(H:AH)(K:KT):Prop:=
 bC (BCall prog 128 [a0,a1,a2,(.fn (.func 129) [] [])] H) λv0 H1=>
 bO (Ag v0 0) λv2=>
 bO (Ag v0 1) λv3=>
 K (.tup [v2,v3]) H1
theorem Vj {a0 a1 a2:AV}{H:AH}{K:KT}(h:Rj a0 a1 a2 H K):Ch 78 [a0,a1,a2] H K:=
 fok A7 PV BA func78 h
def Rm (a0 a1 a2:AV)(H:AH)(K:KT):Prop:=
 bC (BCall prog 128 [a0,a1,a2,(.fn (.func 131) [] [])] H) λv0 H1=>
 bO (Ag v0 0) λv2=>
 bO (Ag v0 1) λv3=>
 K (.tup [v2,v3]) H1
theorem Vl {a0 a1 a2:AV}{H:AH}{K:KT}(h:Rm a0 a1 a2 H K):Ch 80 [a0,a1,a2] H K:=
 fok A7 PV BA func80 h
def iP (a0 a1:AV)(H:AH)(K:KT):Prop:=
 bH (AC H a0) λv0 H1=>
 bH (AC H1 a1) λv2 H3=>
 bO (Ab 1 v0) λv4=>
 bO (Ap false 1 H3 v4) λv5=>
 bP (PCall prog 139 [v5,(.fn (.func 140) [] [v2])] H3) λv6=>
 K v6 H3
theorem lO {a0 a1:AV}{H:AH}{K:KT}(h:iP a0 a1 H K):Ch 88 [a0,a1] H K:=
 fok A7 PV BA func88 h
def Z2 (a0 a1:AV)(H:AH)(K:KT):Prop:=
 bH (AC H a0) λv0 H1=>
 bO (Ab 0 v0) λv2=>
 bO (Ap false 1 H1 v2) λv3=>
 bO (Ap false 1 H1 a1) λv4=>
 bO (Ar .eql v3 v4) λv5=>
 K v5 H1
theorem eB {a0 a1:AV}{H:AH}{K:KT}(h:Z2 a0 a1 H K):Ch 140 [a0,a1] H K:=
 fok A7 PV BA func140 h
def U1:Nat→Option (List Bool):=Cd [(1,mk 15 0 [1,2]),(3,mk 15 0 [1,2,7])]
def Qm (p:List Bool)(n:Nat):List AV→AH→Kf→Prop:=AJ prog A7 PV Aw Aw U1 (sub p (AG f95)) n
def OK (x1 x2:AV)(H:AH)(K:KT):Prop:=jn (mk 15 0 [1,2]) (Qm [tT,tT] 7) [x1,x2] H (AR prog f95.results.toList K)
def KD (x1 x2 x7:AV)(H:AH)(K:KT):Prop:=jn (mk 15 0 [1,2,7]) (Qm [tT,fF,tT,fF,tT] 6) [x1,x2,x7] H (AS 0 (AN (DJ (mk 15 0 [1,2]) (Qm [tT,tT] 7)) (AR prog f95.results.toList K)))
def Rx (x1 x2:AV)(H:AH)(K:KT):Prop:=
 bO (Ab 1 x2) λv0=>
 bO (Ap false 1 H v0) λv1=>
 bP (PCall prog 144 [x1,v1] H) λv2=>
 K v2 H
theorem XN (x1 x2:AV)(H:AH)(K:KT):OK x1 x2 H K=Rx x1 x2 H K:=(B5 _ _ _ _ _).trans (by kernel_rfl)
def HW (x1 x2 x7:AV)(H:AH)(K:KT):Prop:=
 bB x7 λt0=>bI t0 (
 K (B true) H)
 (OK x1 x2 H K)
theorem KE (x1 x2 x7:AV)(H:AH)(K:KT):KD x1 x2 x7 H K=HW x1 x2 x7 H K:=(B5 _ _ _ _ _).trans (by kernel_rfl)
def Z3 (a0 a1:AV)(H:AH)(K:KT):Prop:=
 bH (AC H a0) λv0 H1=>
 bO (Ab 0 v0) λv2=>
 bO (Ap false 1 H1 v2) λv3=>
 bO (Ar .eql v3 (I 1)) λv4=>
 bB v4 λt5=>bI t5 (
 KD a1 v0 v4 H1 K)
 (bO (Ar .eql v3 (I 6)) λv6=>
 bB v6 λt7=>bI t7 (
 KD a1 v0 v6 H1 K)
 (bO (Ar .eql v3 (I 7)) λv8=>
 KD a1 v0 v8 H1 K))
theorem eC {a0 a1:AV}{H:AH}{K:KT}(h:Z3 a0 a1 H K):Ch 95 [a0,a1] H K:=
 fok A7 PV U1 func95 h
def Ei (a0 a1:AV)(H:AH)(K:KT):Prop:=
 bP (PCall prog 173 [a0,a1] H) λv0=>
 bO (Ar .geq v0 (I 0)) λv1=>
 K v1 H
theorem GW {a0 a1:AV}{H:AH}{K:KT}(h:Ei a0 a1 H K):Ch 139 [a0,a1] H K:=
 fok A7 PV BA func139 h
def IU (a0 a1:AV)(H:AH)(K:KT):Prop:=
 bP (PCall prog 178 [a0,a1] H) λv0=>
 bO (Ar .geq v0 (I 0)) λv1=>
 K v1 H
theorem Nv {a0 a1:AV}{H:AH}{K:KT}(h:IU a0 a1 H K):Ch 144 [a0,a1] H K:=
 fok A7 PV BA func144 h
def IY:Nat→Option (List Bool):=Cd [(3,mk 19 0 [0,1,7,8])]
def JF (p:List Bool)(n:Nat):List AV→AH→Kf→Prop:=AJ prog A7 PV Aw Aw IY (sub p (AG f178)) n
def IX (x0 x1 x7 x8:AV)(H:AH)(K:KT):Prop:=lp (mk 19 0 [0,1,7,8]) (JF [tT,fF,tT,fF,fF] 4) [x0,x1,x7,x8] H (AS 0 (AN (JF [tT,tT] 10) (AR prog f178.results.toList K)))
def HG (R3:RT)(x0 x1 x7 x8:AV)(H:AH)(K:KT):Prop:=
 bO (Ar .lss x8 x7) λv0=>
 bB v0 λt1=>bI t1 (
 bO (Bo 1 x0 x8) λv2=>
 bO (Ap false 1 H v2) λv3=>
 bO (Ar .eql x1 v3) λv4=>
 bB v4 λt5=>bI t5 (
 K x8 H)
 (bO (Ar .add x8 (I 1)) λv6=>
 R3 [x0,x1,x7,v6] H))
 (K (I (-1)) H)
theorem Mz {K:KT}:eI (λR x0 x1 x7 x8 H=>HG R x0 x1 x7 x8 H K) (λx0 x1 x7 x8 H=>IX x0 x1 x7 x8 H K):=RQ (A3 _ _) (λ_ _ _ _ _ _=>by kernel_rfl)
def Ls (a0 a1:AV)(H:AH)(K:KT):Prop:=
 bO (AL a0) λv0=>
 IX a0 a1 v0 (I 0) H K
theorem Qk {a0 a1:AV}{H:AH}{K:KT}(h:Ls a0 a1 H K):Ch 178 [a0,a1] H K:=
 fok A7 PV IY func178 h
def F9 (a0:AV)(H:AH)(K:KT):Prop:=
 bO (ZQ .eql RV a0 Ad) λv0=>
 bB v0 λt1=>bI t1 (
 K Ad H)
 (bH (D9 H 1 0 (B4 [u0Z] 0) []) λv2 H3=>
 bH (HM 1 1 H3 v2 a0) λv4 H5=>
 K v4 H5)
theorem HE {a0:AV}{H:AH}{K:KT}(h:F9 a0 H K):Ch 89 [a0] H K:=
 fok A7 PV BA func89 h
def JE (a0 a1:AV)(H:AH)(K:KT):Prop:=
 bH (AC H a0) λv0 H1=>
 bH (AC H1 a1) λv2 H3=>
 bO (Ap false 1 H3 v2) λv4=>
 bO (Ar .lss v4 (I 1)) λv5=>
 bB v5 λt6=>bI t6 (
 False)
 (K (.fn (.func 117) [] [v0,v2]) H3)
theorem OF {a0 a1:AV}{H:AH}{K:KT}(h:JE a0 a1 H K):Ch 65 [a0,a1] H K:=
 fok A7 PV BA func65 h
def XG (p:List Bool)(n:Nat):List AV→AH→Kf→Prop:=AJ prog A7 PV Aw Aw BA (sub p (AG f38)) n
def Gf (a0:AV)(H:AH)(K:KT):Prop:=
 bH (D9 H 1 18 (B4 [(.lit (.string ⟨#[]⟩))] 18) [(0,1,(.lit (.string ⟨#[97]⟩))),(1,1,(.lit (.string ⟨#[98]⟩))),(2,1,(.lit (.string ⟨#[99]⟩))),(3,1,(.lit (.string ⟨#[100,115,116]⟩))),(4,1,(.lit (.string ⟨#[109,97,112]⟩))),(5,1,(.lit (.string ⟨#[109,97,112,46,110,101,119]⟩))),(6,1,(.lit (.string ⟨#[120,45,49]⟩))),(7,1,(.lit (.string ⟨#[100,105,115,107]⟩))),(8,1,(.lit (.string ⟨#[]⟩))),(9,1,(.lit (.string ⟨#[65]⟩))),(10,1,(.lit (.string ⟨#[45,97]⟩))),(11,1,(.lit (.string ⟨#[97,47,98]⟩))),(12,1,(.lit (.string ⟨#[97,98,99,100,101,102,103,104,105,106,107,108,109,110,111,112,113,114,115,116]⟩))),(13,1,(.lit (.string ⟨#[97,98,99,100,101,102,103,104,105,106,107,108,109,110,111,112,113,114,115,116,117]⟩))),(14,1,(.lit (.string ⟨#[97,98,99,100,101,102,103,104,105,106,107,108,109,110,111,112]⟩))),(15,1,(.lit (.string ⟨#[97,98,99,100,101,102,103,104,105,106,107,108,109,110,111,112,113]⟩))),(16,1,(.lit (.string ⟨#[46]⟩))),(17,1,(.lit (.string ⟨#[48]⟩)))]) λv0 H1=>
 bO (Ar .rem a0 (.lit (.int .u8 18))) λv2=>
 bO (Bo 1 v0 v2) λv3=>
 bO (Ap false 1 H1 v3) λv4=>
 K v4 H1
theorem Wr (a0:AV)(H:AH)(K:KT):UY prog A7 PV Aw Aw BA f38 [a0] H K=Gf a0 H K:=by kernel_rfl
attribute [irreducible] Gf XG
attribute [local irreducible] A7 BA
theorem UZ {a0:AV}{H:AH}{K:KT}(h:Gf a0 H K):UY prog A7 PV Aw Aw BA f38 [a0] H K:=Eq.mpr (Wr a0 H K) h
theorem Va:jQ A7 PV f38=true:=by kernel_rfl
theorem Ws {a0:AV}{H:AH}{K:KT}(h:Gf a0 H K):Ch 38 [a0] H K:=uQ PT func38 Va (UZ h)
end Go.Proofs.YtadghlcfbajamaaGreat.Av
end
section
namespace Go.Proofs.YtadghlcfbajamaaGreat.Av
open Go Go.RowKit Go.Proofs.Tryz
def May (n:Int):Prop:=0≤n∧n≤4611686018427387904
instance (n:Int):Decidable (May n):=by unfold May;infer_instance
def Qy (n:Int):List AV:=[I n]
theorem T7 (n:Int):(Qy n).length=1:=rfl
def oI:Option Int→AV
 | some n=>.tup [I n,B true]
 | none=>.tup [I 0,B false]
def mK (l:List Int):Option Int:=if(∀n∈l,May n)∧l.sum≤4611686018427387904 then some l.sum else none
theorem iE (n:Int):BPure prog 69 [I n] (B (decide (May n))):=BPure.flat λH=>rP (by
 unfold tX
 by_cases h1:0≤n<;>by_cases h2:n≤4611686018427387904<;>simp[May,h1,h2])
theorem sA (n:Int):BPure prog 199 [I n] (B (decide (May n))):=BPure.flat λH=>XK (by
 unfold Ux
 by_cases h1:0≤n<;>by_cases h2:n≤4611686018427387904<;>simp[May,h1,h2])
structure Sp where
 pos:Int
 len:Int
 deriving DecidableEq,Inhabited
def Bz (s:Sp):List AV:=[I s.pos,I s.len]
theorem Yk (s:Sp):(Bz s).length=2:=rfl
def MaySpan (s:Sp):Prop:=May s.pos∧May s.len∧s.len≤4611686018427387904 - s.pos
instance (s:Sp):Decidable (MaySpan s):=by unfold MaySpan;infer_instance
theorem I5 (s:Sp):BPure prog 138 [.agg (Bz s)] (B (decide (MaySpan s))):=BPure.val rfl rfl (dM (by
 unfold Zu;obtain⟨p,n⟩:=s;simp[Bz,CF];refine Ay (iE _) ?_
 by_cases h1:May p
 ·have h1':=h1
  unfold May at h1';simp[h1];refine Ay (iE _) ?_
  by_cases h2:May n
  ·simp[h2,B2 (a:=4611686018427387904) (b:=p) (by omega) (by omega),MaySpan,h1]
  ·simp[h2,MaySpan]
 ·simp[h1,MaySpan]))
def RU (a b:Sp):Sp:=
 if MaySpan a∧MaySpan b∧max a.pos b.pos<min (a.pos+a.len) (b.pos+b.len)then⟨max a.pos b.pos,min (a.pos+a.len) (b.pos+b.len) - max a.pos b.pos⟩else⟨0,0⟩
theorem Wn (a b:Sp):BPure prog 152 [.agg (Bz a),.agg (Bz b)] (.agg (Bz (RU a b))):=BPure.val rfl rfl (oM (by
 unfold oK;simp[Bz,CF,Ax];refine Ay (I5 a) ?_
 by_cases h1:MaySpan a
 ·simp[h1]
  refine Ay (I5 b) ?_
  by_cases h2:MaySpan b
  ·have h1':=h1
   have h2':=h2;simp only[MaySpan,May]at h1' h2';obtain⟨p,n⟩:=a;obtain⟨q,m⟩:=b;simp only at h1' h2';simp[h2,Au (a:=p) (b:=n) (by omega) (by omega),Au (a:=q) (b:=m) (by omega) (by omega)]
   by_cases h3:max p q<min (p+n) (q+m)
   ·have h3':¬min (q+m) (p+n)≤max q p:=by omega
    simp[h3',B2 (a:=min (q+m) (p+n)) (b:=max q p) (by omega) (by omega),AP,RU,h1,h2,h3];omega
   ·have h3':min (q+m) (p+n)≤max q p:=by omega
    simp[h3',AP,RU,h3]
  ·simp[h2,AP,RU]
 ·simp[h1,AP,RU]))
theorem zdjuZ (a b c d:Int):PI prog .eql 126 (.agg [I a,I b]) (.agg [I c,I d])=some (B (a==c&&(b==d&&true))):=by kernel_rfl
theorem zdleZ (x y:Sp):(x.pos==y.pos&&(x.len==y.len&&true))=decide (x=y):=by
 obtain⟨a,b⟩:=x;obtain⟨c,d⟩:=y
 by_cases h1:a=c<;>by_cases h2:b=d<;>simp[h1,h2]
theorem zdppZ (x y:Sp):PI prog .eql 126 (.agg (Bz x)) (.agg (Bz y))=some (B (decide (x=y))):=by rw[← zdleZ];exact zdjuZ _ _ _ _
def Within (a b:Sp):Prop:=MaySpan a∧MaySpan b∧(a.len=0∨RU a b=a)
instance (a b:Sp):Decidable (Within a b):=by unfold Within;infer_instance
theorem kW (a b:Sp):BPure prog 160 [.agg (Bz a),.agg (Bz b)] (B (decide (Within a b))):=BPure.val rfl rfl (fS (by
 unfold dN;simp[Bz,CF,Ax];refine Ay (I5 a) ?_
 by_cases h1:MaySpan a
 ·simp[h1]
  refine Ay (I5 b) ?_
  by_cases h2:MaySpan b
  ·by_cases h3:a.len=0
   ·simp[h2,h3,Within,h1]
   ·simp[h2,h3,Within,h1]
    refine bP_of (Wn a b) ?_
    have:=zdppZ (RU a b) a
    simp only[Bz]at this⊢;simp[this]
  ·simp[h2,Within]
 ·simp[h1,Within]))
theorem zdexZ {l:List Int}(h:∀n∈l,May n)(k:Nat):0≤(l.take k).sum∧(l.take k).sum≤l.sum:=by
 induction l generalizing k with
 | nil=>simp
 | cons a l ih=>
  have ha:=h a (by simp)
  have:=ih (λn hn=>h n (by simp[hn]))
  cases k with
  | zero=>have:=this l.length;simp at this⊢;unfold May at ha;omega
  | succ k=>have:=this k;simp;unfold May at ha;omega
abbrev Al0:=@List.take_add_one
theorem fW {l:List Int}{k:Nat}{x:Int}(h:l[k]?=some x):(l.take (k+1)).sum=(l.take k).sum+x:=by
 rw[Al0,h];simp
theorem rZ {l:List Int}{v:AV}(hv:SV Qy 1 l v)(hl:l.length≤281474976710656):BPure prog 190 [v] (oI (mK l)):=BPure.flat λH=>XJ (by
 unfold Uw;refine Sd (λn x0 x4 x5 H'=>∃k:Nat,k+n=l.length∧x0=v∧x4=I (l.take k).sum∧x5=I k∧H'=H∧(∀m∈l.take k,May m)∧0≤(l.take k).sum∧(l.take k).sum≤4611686018427387904) ?_ l.length ⟨0,by simp,rfl,rfl,rfl,rfl,by simp,by simp,by simp⟩;rintro n x0 x4 x5 H' R hR ⟨k,hk,rfl,rfl,rfl,rfl,hm,hs0,hs1⟩;unfold MW;rcases Ai0 k l.length with hlt | hge
 ·have hx:=DD hlt
  generalize l[k]=y at hx;have hs:=fW hx;simp[hv.len,hlt,hv.idx T7 hx rfl,Qy];refine Ay (sA _) ?_
  by_cases hM:May y
  ·have hM':=hM
   unfold May at hM';simp[hM,hv.idx T7 hx rfl,Qy,B2 (a:=4611686018427387904) (b:=(l.take k).sum) (by omega) (by omega)]
   by_cases hc:4611686018427387904 - (l.take k).sum<y
   ·have:mK l=none:=if_neg (by
     rintro⟨h1,h2⟩
     have:=zdexZ h1 (k+1)
     omega)
    simp[hc,this,oI]
   ·simp[hc,Au (a:=(l.take k).sum) (b:=y) (by omega) (by omega),Au (a:=k) (b:=1) (by omega) (by omega)]
    refine hR (n - 1) _ _ _ _ (by omega) ⟨k+1,by omega,rfl,by rw[hs],rfl,rfl,?_,by omega,by omega⟩;rw[Al0,hx];intro m hmm;simp at hmm;rcases hmm with h | rfl
    ·exact hm m h
    ·exact hM
  ·have:mK l=none:=if_neg (λh=>hM (h.1 y (Ah7 hx)))
   simp[hM,oI,this]
 ·have:k=l.length:=by omega
  subst this;simp at hm hs0 hs1;have:mK l=some l.sum:=if_pos ⟨hm,hs1⟩;simp[hv.len,this,oI])
abbrev Ae4:=And.intro (And.intro @List.mem_cons.{0} @List.not_mem_nil.{0}) @or_false
theorem dT (s:Sp):BPure prog 171 [.agg (Bz s)] (B (decide (MaySpan s))):=BPure.val rfl rfl (Tj (by
 unfold OD;obtain⟨p,n⟩:=s;have hv:SV Qy 1 [p,n] (.imm [I p,I n] 2 1):=⟨rfl,λH=>rfl⟩;simp[Bz];refine zdgfZ 2 (args':=[.imm [I p,I n] 2 1]) (by simp[PR,OP]) ?_ (rZ hv (by simp)) ?_
 ·cases h:mK [p,n]<;>rfl
 ·have:MaySpan ⟨p,n⟩↔(mK [p,n]).isSome:=by
   unfold mK MaySpan;simp only[Ae4,forall_eq_or_imp,forall_eq,List.sum_cons,List.sum_nil]
   split
   ·rename_i h;simp;exact⟨h.1.1,h.1.2,by omega⟩
   ·rename_i h;simp;intro h1 h2;by_cases h3:4611686018427387904 - p<n;exact h3;exact absurd ⟨⟨h1,h2⟩,by omega⟩ h
  cases h:mK [p,n]<;>simp[oI,this,h]))
def Df:Nat→Int→Int→Int→List Sp
 | 0,_,_,_=>[]
 | f+1,pos,len,unit=>if 0<len then⟨pos,min len (unit - pos % unit)⟩::Df f (pos+min len (unit - pos % unit)) (len - min len (unit - pos % unit)) unit else []
def Ed (s:Sp)(unit:Int):List Sp:=if MaySpan s∧s.len≤4096∧1≤unit then Df s.len.toNat s.pos s.len unit else []
abbrev Ap8:=@Int.emod_lt_of_pos
abbrev Aq0:=@Int.emod_nonneg
theorem VT {f:Nat}{pos len unit:Int}(hf:len.toNat≤f)(hl:0<len)(hp:0≤pos)(hu:1≤unit):Df f pos len unit=⟨pos,min len (unit - pos % unit)⟩::Df (len - min len (unit - pos % unit)).toNat (pos+min len (unit - pos % unit)) (len - min len (unit - pos % unit)) unit:=by
 induction f using Nat.strongRecOn generalizing pos len with
 | _ f ih=>
  have h1:=Ap8 pos (show 0<unit by omega);have h2:=Aq0 pos (show unit≠0 by omega);cases f with
  | zero=>omega
  | succ f=>
   simp only[Df,hl,if_true]
   congr 1
   have hm:1≤min len (unit - pos % unit):=by omega
   generalize min len (unit - pos % unit)=m at*
   have more:∀(a b:Nat) (p n:Int),n.toNat≤a→n.toNat≤b→0≤p→Df a p n unit=Df b p n unit:=by
    intro a
    induction a with
    | zero=>
     intro b p n ha hb hp;cases b with
     | zero=>rfl
     | succ b=>simp only[Df];rw[if_neg (by omega)]
    | succ a iha=>
     intro b p n ha hb hp;have h1:=Ap8 p (show 0<unit by omega);have h2:=Aq0 p (show unit≠0 by omega);cases b with
     | zero=>simp only[Df];rw[if_neg (by omega)]
     | succ b=>
      simp only[Df]
      split
      ·rw[iha b _ _ (by omega) (by omega) (by omega)]
      ·rfl
   exact more _ _ _ _ (by omega) (by omega) (by omega)
theorem VU {f:Nat}{pos len unit:Int}(hl:¬0<len):Df f pos len unit=[]:=by
 cases f with
 | zero=>rfl
 | succ f=>simp only[Df,if_neg hl]
theorem iD (l:List Sp):A5 (l.flatMap Bz)=true:=by
 induction l with
 | nil=>rfl
 | cons a l ih=>rw[Aj9];simp[Bz,A5,noIds];simpa[Bz]using ih
theorem Zw (s:Sp){unit:Int}(hu:unit≤9223372036854775807):∃v,SV Bz 2 (Ed s unit) v∧BPure prog 87 [.agg (Bz s),I unit] v:=by
 refine BPure.sl (sz:=2) rfl (iD _) (kV ?_);unfold iF;obtain⟨p,n⟩:=s;simp[Bz,Ax];refine Ay (I5 ⟨p,n⟩) ?_
 by_cases h1:MaySpan ⟨p,n⟩
 ·simp[h1]
  by_cases h2:4096<n
  ·have:Ed ⟨p,n⟩ unit=[]:=if_neg (by simp only;omega)
   simp[h2,this,Ac]
  ·simp[h2]
   by_cases h3:unit<1
   ·have:Ed ⟨p,n⟩ unit=[]:=if_neg (by omega)
    simp[h3,this,Ac]
   ·simp[h3]
    have hP:Ed ⟨p,n⟩ unit=Df n.toNat p n unit:=if_pos ⟨h1,by simp only;omega,by omega⟩;simp only[MaySpan,May]at h1;refine Xx (λk x1 x2 x5 H=>∃(pos len:Int) (l:List Sp),k=len.toNat∧x1=I unit∧x2=.ptr 0 0∧H[0]?=some (some (.cells [I pos,I len]))∧AZ x5=true∧Ac H 2 x5=some (l.flatMap Bz,l.length)∧0∉AM x5∧
     0≤pos∧0≤len∧pos+len≤4611686018427387904∧(l.length:Int)+len≤4096∧l++Df len.toNat pos len unit=Df n.toNat p n unit) ?_ n.toNat
     ⟨p,n,[],rfl,rfl,rfl,rfl,rfl,rfl,by simp[AM],by omega,by omega,by omega,by simp;omega,rfl⟩
    rintro k x1 x2 x5 H R hR ⟨pos,len,l,rfl,rfl,rfl,hH,ho,hs,hid,hp,hl,hpl,hll,hc⟩;unfold Ui;have e1:=Ap8 pos (show 0<unit by omega);have e2:=Aq0 pos (show unit≠0 by omega)
    by_cases hlen:0<len
    ·rw[VT (Ah9 _) hlen hp (by omega)]at hc
     have hcomm:min (unit - pos % unit) len=min len (unit - pos % unit):=by omega
     have hm1:1≤min len (unit - pos % unit):=by omega
     have hm2:min len (unit - pos % unit)≤len:=by omega
     generalize min len (unit - pos % unit)=m at hcomm hm1 hm2 hc;have hH0:=(BE.1 hH).1;have hs1:Ac (H++[some (.cells [I pos,I m])]) 2 x5=some (l.flatMap Bz,l.length):=Ae hs λi hi=>Ah6 (Az hs i hi)
     obtain⟨r,H2,a1,a2,a3,a4,a5,a6⟩:=BX (bytes:=16) hs1 ho (A1 (v:=.sl H.length 0 1 2 (.ex 1)) (q:=([I pos,I m],1)) (by simp[Ac])) (by omega)
     have hH2:H2[0]?=some (some (.cells [I pos,I len])):=by
      rw[a5 0 (by simp) hid,Ah6 hH0];exact hH
     have hid2:0∉AM r:=λhi=>(a6 0 hi).elim hid (by simp)
     have hH20:=(BE.1 hH2).1
     have keep:∀c,Ac (H2.set 0 c) 2 r=some ((l++[(⟨pos,m⟩:Sp)]).flatMap Bz,(l++[(⟨pos,m⟩:Sp)]).length):=λc=>by
      rw[Ae a3 (λi hi=>Cc (by rintro rfl;exact hid2 hi))];simp[Bz]
     simp[hH,hlen,U3 (a:=pos) (b:=unit) (by omega) (by omega),B2 (a:=unit) (b:=pos % unit) (by omega) (by omega),hcomm,a1,hH2,Au (a:=pos) (b:=m) (by omega) (by omega),B2 (a:=len) (b:=m) (by omega) (by omega),AP];refine hR (len - m).toNat _ _ _ _ (by omega) ?_;exact⟨pos+m,len - m,l++[(⟨pos,m⟩:Sp)],rfl,rfl,rfl,by simp[hH20],a2,keep _,hid2,by omega,by omega,by omega,by simp;omega,by simpa using hc⟩
    ·rw[VU hlen,Al4]at hc
     simp[hH,hlen];rw[hP,← hc];exact hs
 ·have:Ed ⟨p,n⟩ unit=[]:=if_neg (λh=>h1 h.1)
  simp[h1,this,Ac]
theorem lG (s:Sp){unit:Int}(hu:unit≤9223372036854775807):∃v,SV Bz 2 (Ed s unit) v∧BPure prog 119 [.agg (Bz s),I unit] v:=by
 refine BPure.sl (sz:=2) rfl (iD _) (Vi ?_);unfold Rg;obtain⟨p,n⟩:=s;simp[Bz,Ax];refine Ay (dT ⟨p,n⟩) ?_
 by_cases h1:MaySpan ⟨p,n⟩
 ·simp[h1]
  by_cases h2:4096<n
  ·have:Ed ⟨p,n⟩ unit=[]:=if_neg (by simp only;omega)
   simp[h2,this,Ac]
  ·simp[h2]
   by_cases h3:unit<1
   ·have:Ed ⟨p,n⟩ unit=[]:=if_neg (by omega)
    simp[h3,this,Ac]
   ·simp[h3]
    have hP:Ed ⟨p,n⟩ unit=Df n.toNat p n unit:=if_pos ⟨h1,by simp only;omega,by omega⟩;simp only[MaySpan,May]at h1;refine Qi (λk x1 x2 x5 H=>∃(pos len:Int) (l:List Sp),k=len.toNat∧x1=I unit∧x2=.ptr 0 0∧H[0]?=some (some (.cells [I pos,I len]))∧AZ x5=true∧Ac H 2 x5=some (l.flatMap Bz,l.length)∧0∉AM x5∧
     0≤pos∧0≤len∧pos+len≤4611686018427387904∧(l.length:Int)+len≤4096∧l++Df len.toNat pos len unit=Df n.toNat p n unit) ?_ n.toNat
     ⟨p,n,[],rfl,rfl,rfl,rfl,rfl,rfl,by simp[AM],by omega,by omega,by omega,by simp;omega,rfl⟩
    rintro k x1 x2 x5 H R hR ⟨pos,len,l,rfl,rfl,rfl,hH,ho,hs,hid,hp,hl,hpl,hll,hc⟩;unfold Lq;have e1:=Ap8 pos (show 0<unit by omega);have e2:=Aq0 pos (show unit≠0 by omega)
    by_cases hlen:0<len
    ·rw[VT (Ah9 _) hlen hp (by omega)]at hc
     have hcomm:min (unit - pos % unit) len=min len (unit - pos % unit):=by omega
     have hm1:1≤min len (unit - pos % unit):=by omega
     have hm2:min len (unit - pos % unit)≤len:=by omega
     generalize min len (unit - pos % unit)=m at hcomm hm1 hm2 hc;have hH0:=(BE.1 hH).1;have hs1:Ac (H++[some (.cells [I pos,I m])]) 2 x5=some (l.flatMap Bz,l.length):=Ae hs λi hi=>Ah6 (Az hs i hi)
     obtain⟨r,H2,a1,a2,a3,a4,a5,a6⟩:=BX (bytes:=16) hs1 ho (A1 (v:=.sl H.length 0 1 2 (.ex 1)) (q:=([I pos,I m],1)) (by simp[Ac])) (by omega)
     have hH2:H2[0]?=some (some (.cells [I pos,I len])):=by
      rw[a5 0 (by simp) hid,Ah6 hH0];exact hH
     have hid2:0∉AM r:=λhi=>(a6 0 hi).elim hid (by simp)
     have hH20:=(BE.1 hH2).1
     have keep:∀c,Ac (H2.set 0 c) 2 r=some ((l++[(⟨pos,m⟩:Sp)]).flatMap Bz,(l++[(⟨pos,m⟩:Sp)]).length):=λc=>by
      rw[Ae a3 (λi hi=>Cc (by rintro rfl;exact hid2 hi))];simp[Bz]
     simp[hH,hlen,U3 (a:=pos) (b:=unit) (by omega) (by omega),B2 (a:=unit) (b:=pos % unit) (by omega) (by omega),hcomm,a1,hH2,Au (a:=pos) (b:=m) (by omega) (by omega),B2 (a:=len) (b:=m) (by omega) (by omega),AP,JY hH20];refine hR (len - m).toNat _ _ _ _ (by omega) ?_;exact⟨pos+m,len - m,l++[(⟨pos,m⟩:Sp)],rfl,rfl,rfl,by simp[hH20],a2,keep _,hid2,by omega,by omega,by omega,by simp;omega,by simpa using hc⟩
    ·rw[VU hlen,Al4]at hc
     simp[hH,hlen];rw[hP,← hc];exact hs
 ·have:Ed ⟨p,n⟩ unit=[]:=if_neg (λh=>h1 h.1)
  simp[h1,this,Ac]
def down (n unit:Int):Int:=if May n∧1≤unit then n - n % unit else 0
def up (n unit:Int):Option Int:=if May n∧1≤unit then if n % unit=0 then some n else if n - n % unit+unit≤4611686018427387904 then some (n - n % unit+unit)else none else none
def W4 (a b:Sp):Prop:=MaySpan a∧MaySpan b∧(a.len=0∨(b.pos≤a.pos∧a.pos+a.len≤b.pos+b.len))
instance (a b:Sp):Decidable (W4 a b):=by unfold W4;infer_instance
theorem sI (a b:Sp):Within a b↔W4 a b:=by
 unfold Within W4
 by_cases h1:MaySpan a<;>by_cases h2:MaySpan b<;>simp[h1,h2]
 have h1':=h1;have h2':=h2;simp only[MaySpan,May]at h1' h2'
 by_cases h0:a.len=0
 ·simp[h0]
 ·simp only[h0,false_or]
  unfold RU;obtain⟨p,n⟩:=a;obtain⟨q,m⟩:=b;simp only at h1' h2' h0⊢
  split
  ·rename_i h;simp only[Sp.mk.injEq];omega
  ·rename_i h
   simp only[h1,h2,true_and]at h;simp only[Sp.mk.injEq];omega
end Go.Proofs.YtadghlcfbajamaaGreat.Av
end
