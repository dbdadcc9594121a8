/- The law and its row. No condition. -/
import Derived.Test.YtadghlcfbajamaaGreatMlJ
set_option linter.unusedVariables false
set_option maxRecDepth 100000
section
namespace Go.Proofs.YtadghlcfbajamaaGreat.Av
open Go Go.Proofs.Tryz
def SR:FuncId→Bool:=kG [64,96,41,33,31,82,102,44,101,86,103,104,105,35,129,131,36,87,69,138,119,118,63,130,132,122,68,124,125,126,121,20,114,61,120,60,112,164,111,38,29,10,52,28]
def zdohZ:FuncId→Bool:=kG [53,22]
def Mq (a0:AV)(H:AH)(K:KT):Prop:=
 bO (amm XX [a0,(I 0)]) λv0=>
 bO (amm Zn [v0,(I 4096)]) λv1=>
 bO (En [Ad,Ad,Ad,Ad,Ad,(I 0),(I 0),(I 0),(B false)] [(5,1,v1),(7,1,(I (-1)))]) λv2=>
 bH (AC H v2) λv3 H4=>
 K v3 H4
theorem QV {a0:AV}{H:AH}{K:KT}(h:Mq a0 H K):Ch 12 [a0] H K:=
 fok A7 SR BA func12 h
def Kq (a0:AV)(H:AH)(K:KT):Prop:=
 bO (Af a0) λv0=>
 bO (Ab 5 v0) λv1=>
 bO (Ap false 1 H v1) λv2=>
 bO (Af a0) λv3=>
 bO (Ab 0 v3) λv4=>
 bO (Ap true 2 H v4) λv5=>
 bP (BPure prog 164 [v5]) λv6=>
 bO (Ar .sub v2 v6) λv7=>
 bO (amm XX [v7,(I 0)]) λv8=>
 K v8 H
theorem OV {a0:AV}{H:AH}{K:KT}(h:Kq a0 H K):Ch 110 [a0] H K:=
 fok A7 SR BA func110 h
def Li (a0 a1:AV)(H:AH)(K:KT):Prop:=
 bO (amm XX [a1,(I (-1))]) λv0=>
 bO (Af a0) λv1=>
 bO (Ab 7 v1) λv2=>
 bS (AP 1 H v2 v0) λH3=>
 K (.tup []) H3
theorem Qc {a0 a1:AV}{H:AH}{K:KT}(h:Li a0 a1 H K):Ch 16 [a0,a1] H K:=
 fok A7 SR BA func16 h
def Gs:Nat→Option (List Bool):=Cd [(5,mk 56 0 [0,1,4]),(2,mk 56 0 [0,1,4])]
def Dm (p:List Bool)(n:Nat):List AV→AH→Kf→Prop:=AJ prog A7 SR Aw Aw Gs (sub p (AG f76)) n
def Ee (R2:RT)(x0 x1 x4:AV)(H:AH)(K:KT):Prop:=jn (mk 56 0 [0,1,4]) (Dm [fF,tT,fF,fF,tT,tT] 7) [x0,x1,x4] H (PP (mk 56 0 [0,1,4]) R2 (AS 0 (AN (Dm [tT] 7) (AR prog f76.results.toList K))))
def Gr (x0 x1 x4:AV)(H:AH)(K:KT):Prop:=lp (mk 56 0 [0,1,4]) (Dm [fF,tT,fF,fF] 3) [x0,x1,x4] H (AS 0 (AN (Dm [tT] 7) (AR prog f76.results.toList K)))
def DG (R2:RT)(x0 x1 x4:AV)(H:AH)(K:KT):Prop:=
 bO (Ar .add x4 (I 1)) λv0=>
 R2 [x0,x1,v0] H
theorem Fi (R2:RT)(x0 x1 x4:AV)(H:AH)(K:KT):Ee R2 x0 x1 x4 H K=DG R2 x0 x1 x4 H K:=(B5 _ _ _ _ _).trans (by kernel_rfl)
def F5 (R2:RT)(x0 x1 x4:AV)(H:AH)(K:KT):Prop:=
 bO (Af x0) λv0=>
 bO (Ab 4 v0) λv1=>
 bO (Ap false 1 H v1) λv2=>
 bO (AL v2) λv3=>
 bO (Ar .lss x4 v3) λv4=>
 bG v4 true λw5=>
 gO w5 (some x4) λv6=>
 bG v4 true λw7=>
 gO w7 (some x1) λv8=>
 bG v4 true λw9=>
 gO w9 (AL v8) λv10=>
 bG v4 true λw11=>
 gO w11 (Ar .lss v6 v10) λv12=>
 bO (A0 v4 v12 (B false)) λv13=>
 bB v13 λt14=>bI t14 (
 bO (Bo 1 x1 x4) λv15=>
 bO (Ap false 1 H v15) λv16=>
 bB v16 λt17=>bI t17 (
 bO (Af x0) λv18=>
 bO (Ab 2 v18) λv19=>
 bO (Ap true 2 H v19) λv20=>
 bO (Af x0) λv21=>
 bO (Ab 4 v21) λv22=>
 bO (Ap false 1 H v22) λv23=>
 bO (Bo 8 v23 x4) λv24=>
 bO (Ap true 8 H v24) λv25=>
 bP (BPure prog 114 [v20,v25]) λv26=>
 bO (Af x0) λv27=>
 bO (Ab 2 v27) λv28=>
 bS (AP 2 H v28 v26) λH29=>
 Ee R2 x0 x1 x4 H29 K)
 (Ee R2 x0 x1 x4 H K))
 (bO (Af x0) λv30=>
 bO (Ab 2 v30) λv31=>
 bO (Ap true 2 H v31) λv32=>
 bC (BCall prog 127 [v32] H) λv33 H34=>
 bO (Af x0) λv35=>
 bO (Ab 0 v35) λv36=>
 bS (AP 2 H34 v36 v33) λH37=>
 bO (Af x0) λv38=>
 bO (Ab 4 v38) λv39=>
 bS (AP 1 H37 v39 Ad) λH40=>
 bO (Af x0) λv41=>
 bO (Ab 7 v41) λv42=>
 bS (AP 1 H40 v42 (I (-1))) λH43=>
 bO (Af x0) λv44=>
 bO (Ab 8 v44) λv45=>
 bS (AP 1 H43 v45 (B false)) λH46=>
 K (.tup []) H46)
theorem JO {K:KT}:pU (λR x0 x1 x4 H=>F5 R x0 x1 x4 H K) (λx0 x1 x4 H=>Gr x0 x1 x4 H K):=Xs (A3 _ _) (λ_ _ _ _ _=>by kernel_rfl)
def Im (a0 a1:AV)(H:AH)(K:KT):Prop:=
 Gr a0 a1 (I 0) H K
theorem ME {a0 a1:AV}{H:AH}{K:KT}(h:Im a0 a1 H K):Ch 76 [a0,a1] H K:=
 fok A7 SR Gs func76 h
def Ir:Nat→Option (List Bool):=Cd [(3,mk 35 0 [0]),(4,mk 35 0 [0,22]),(1,mk 35 0 [0])]
def DL (p:List Bool)(n:Nat):List AV→AH→Kf→Prop:=AJ prog A7 SR Aw Aw Ir (sub p (AG f113)) n
def D8 (x0:AV)(H:AH)(K:KT):Prop:=jn (mk 35 0 [0]) (DL [tT,tT,tT] 5) [x0] H (AR prog f113.results.toList K)
def Iq (x0 x22:AV)(H:AH)(K:KT):Prop:=jn (mk 35 0 [0,22]) (DL [tT,tT,fF,tT] 5) [x0,x22] H (AN (DJ (mk 35 0 [0]) (DL [tT,tT,tT] 5)) (AR prog f113.results.toList K))
def D7 (x0:AV)(H:AH)(K:KT):Prop:=jn (mk 35 0 [0]) (DL [tT,tT] 3) [x0] H (AR prog f113.results.toList K)
def GQ (x0:AV)(H:AH)(K:KT):Prop:=
 bO (Af x0) λv0=>
 bO (Ab 8 v0) λv1=>
 bO (Ap false 1 H v1) λv2=>
 bO (Em .not v2) λv3=>
 K v3 H
theorem MG (x0:AV)(H:AH)(K:KT):D8 x0 H K=GQ x0 H K:=(B5 _ _ _ _ _).trans (by kernel_rfl)
def Er (x0 x22:AV)(H:AH)(K:KT):Prop:=
 bB x22 λt0=>bI t0 (
 bO (Af x0) λv1=>
 bO (Ab 7 v1) λv2=>
 bO (Ap false 1 H v2) λv3=>
 bO (Ar .sub v3 (I 1)) λv4=>
 bO (Af x0) λv5=>
 bO (Ab 7 v5) λv6=>
 bS (AP 1 H v6 v4) λH7=>
 D8 x0 H7 K)
 (D8 x0 H K)
theorem Gu (x0 x22:AV)(H:AH)(K:KT):Iq x0 x22 H K=Er x0 x22 H K:=(B5 _ _ _ _ _).trans (by kernel_rfl)
def GP (x0:AV)(H:AH)(K:KT):Prop:=
 bO (Af x0) λv0=>
 bO (Ab 8 v0) λv1=>
 bO (Ap false 1 H v1) λv2=>
 bO (Em .not v2) λv3=>
 bG v3 true λw4=>
 gO w4 (some x0) λv5=>
 bG v3 true λw6=>
 gO w6 (Af v5) λv7=>
 bG v3 true λw8=>
 gO w8 (Ab 7 v7) λv9=>
 bG v3 true λw10=>
 gO w10 (Ap false 1 H v9) λv11=>
 bG v3 true λw12=>
 gO w12 (Ar .gtr v11 (I 0)) λv13=>
 bO (A0 v3 v13 (B false)) λv14=>
 Iq x0 v14 H K
theorem MF (x0:AV)(H:AH)(K:KT):D7 x0 H K=GP x0 H K:=(B5 _ _ _ _ _).trans (by kernel_rfl)
def Kx (a0:AV)(H:AH)(K:KT):Prop:=
 bO (Af a0) λv0=>
 bO (Ab 7 v0) λv1=>
 bO (Ap false 1 H v1) λv2=>
 bO (Ar .eql v2 (I 0)) λv3=>
 bB v3 λt4=>bI t4 (
 bO (Af a0) λv5=>
 bO (Ab 8 v5) λv6=>
 bS (AP 1 H v6 (B true)) λH7=>
 D7 a0 H7 K)
 (D7 a0 H K)
theorem Pa {a0:AV}{H:AH}{K:KT}(h:Kx a0 H K):Ch 113 [a0] H K:=
 fok A7 SR Ir func113 h
def HC (a0 a1:AV)(H:AH)(K:KT):Prop:=
 bH (AC H a1) λv0 H1=>
 bC (BCall prog 113 [a0] H1) λv2 H3=>
 bO (Em .not v2) λv4=>
 bB v4 λt5=>bI t5 (
 K (I 8) H3)
 (bO (Af a0) λv6=>
 bO (Ab 0 v6) λv7=>
 bO (Ap true 2 H3 v7) λv8=>
 bO (Ap true 8 H3 v0) λv9=>
 bP (BPure prog 114 [v8,v9]) λv10=>
 bO (Af a0) λv11=>
 bO (Ab 0 v11) λv12=>
 bS (AP 2 H3 v12 v10) λH13=>
 bO (Ab 7 v0) λv14=>
 bO (Ap false 1 H13 v14) λv15=>
 bH (HM 1 1 H13 Ad v15) λv16 H17=>
 bO (Ab 7 v0) λv18=>
 bS (AP 1 H17 v18 v16) λH19=>
 bO (Af a0) λv20=>
 bO (Ab 4 v20) λv21=>
 bO (Ap false 1 H19 v21) λv22=>
 bO (Ap true 8 H19 v0) λv23=>
 bO (Qo 8 1 (B4 [(I 0),(I 0),(I 0),(I 0),(B false),(.lit (.string ⟨#[]⟩)),(.lit (.string ⟨#[]⟩)),Ad] 1) [(0,8,v23)]) λv24=>
 bH (HM 8 96 H19 v22 v24) λv25 H26=>
 bO (Af a0) λv27=>
 bO (Ab 4 v27) λv28=>
 bS (AP 1 H26 v28 v25) λH29=>
 K (I 0) H29)
theorem JC {a0 a1:AV}{H:AH}{K:KT}(h:HC a0 a1 H K):Ch 62 [a0,a1] H K:=
 fok A7 SR BA func62 h
def Ks (a0 a1 a2:AV)(H:AH)(K:KT):Prop:=
 bO (Af a0) λv0=>
 bO (Ab 8 v0) λv1=>
 bO (Ap false 1 H v1) λv2=>
 bB v2 λt3=>bI t3 (
 K (.tup [(I 0),(I 8)]) H)
 (bP (PCall prog 60 [a1] H) λv4=>
 bO (Em .not v4) λv5=>
 bB v5 λt6=>bI t6 (
 K (.tup [(I 0),(I 5)]) H)
 (bO (Af a0) λv7=>
 bO (Ab 0 v7) λv8=>
 bO (Ap true 2 H v8) λv9=>
 bP (PCall prog 61 [v9,a1] H) λv10=>
 bO (Ag v10 0) λv11=>
 bO (Ag v10 1) λv12=>
 bB v12 λt13=>bI t13 (
 K (.tup [v11,(I 0)]) H)
 (bO (Em .not a2) λv14=>
 bB v14 λt15=>bI t15 (
 K (.tup [(I 0),(I 3)]) H)
 (bO (Af a0) λv16=>
 bO (Ab 0 v16) λv17=>
 bO (Ab 0 v17) λv18=>
 bO (Ap false 1 H v18) λv19=>
 bO (AL v19) λv20=>
 bO (Ar .geq v20 (I 16)) λv21=>
 bB v21 λt22=>bI t22 (
 K (.tup [(I 0),(I 4)]) H)
 (bO (Af a0) λv23=>
 bO (Ab 6 v23) λv24=>
 bO (Ap false 1 H v24) λv25=>
 bO (Ar .add v25 (I 1)) λv26=>
 bO (En [(I 0),(I 0),(I 0),(I 0),(B false),(.lit (.string ⟨#[]⟩)),(.lit (.string ⟨#[]⟩)),Ad] [(0,1,(I 1)),(5,1,a1),(1,1,v26)]) λv27=>
 bC (BCall prog 62 [a0,v27] H) λv28 H29=>
 bO (Ar .neq v28 (I 0)) λv30=>
 bB v30 λt31=>bI t31 (
 K (.tup [(I 0),v28]) H29)
 (bO (Af a0) λv32=>
 bO (Ab 6 v32) λv33=>
 bO (Ap false 1 H29 v33) λv34=>
 bO (Ar .add v34 (I 1)) λv35=>
 bO (Af a0) λv36=>
 bO (Ab 6 v36) λv37=>
 bS (AP 1 H29 v37 v35) λH38=>
 bO (Af a0) λv39=>
 bO (Ab 6 v39) λv40=>
 bO (Ap false 1 H38 v40) λv41=>
 K (.tup [v41,(I 0)]) H38))))))
theorem OX {a0 a1 a2:AV}{H:AH}{K:KT}(h:Ks a0 a1 a2 H K):Ch 14 [a0,a1,a2] H K:=
 fok A7 SR BA func14 h
def Es (a0 a1:AV)(H:AH)(K:KT):Prop:=
 bH (AC H (.agg [(I 0),Ad])) λv0 H1=>
 bO (Af a0) λv2=>
 bO (Ab 8 v2) λv3=>
 bO (Ap false 1 H1 v3) λv4=>
 bB v4 λt5=>bI t5 (
 bO (En [(I 0),Ad] []) λv6=>
 bS (AP 2 H1 v0 v6) λH7=>
 bO (Ap true 2 H7 v0) λv8=>
 K (.tup [v8,(I 8)]) H7)
 (bO (Af a0) λv9=>
 bO (Ab 0 v9) λv10=>
 bO (Ap true 2 H1 v10) λv11=>
 bP (PCall prog 120 [v11,a1] H1) λv12=>
 bO (Ag v12 0) λv13=>
 bO (Ag v12 1) λv14=>
 bH (AC H1 (.agg [(I 0),Ad])) λv15 H16=>
 bS (AP 2 H16 v15 v13) λH17=>
 bO (Em .not v14) λv18=>
 bB v18 λt19=>bI t19 (
 bO (En [(I 0),Ad] []) λv20=>
 bS (AP 2 H17 v0 v20) λH21=>
 bO (Ap true 2 H21 v0) λv22=>
 K (.tup [v22,(I 3)]) H21)
 (bO (Ap true 2 H17 v15) λv23=>
 bS (AP 2 H17 v0 v23) λH24=>
 bO (Ap true 2 H24 v0) λv25=>
 K (.tup [v25,(I 0)]) H24))
theorem EH {a0 a1:AV}{H:AH}{K:KT}(h:Es a0 a1 H K):Ch 67 [a0,a1] H K:=
 fok A7 SR BA func67 h
def Ku (a0 a1:AV)(H:AH)(K:KT):Prop:=
 bC (BCall prog 67 [a0,a1] H) λv0 H1=>
 bO (Ag v0 0) λv2=>
 bO (Ag v0 1) λv3=>
 bH (AC H1 (.agg [(I 0),Ad])) λv4 H5=>
 bS (AP 2 H5 v4 v2) λH6=>
 bO (Ab 0 v4) λv7=>
 bO (Ap false 1 H6 v7) λv8=>
 K (.tup [v8,v3]) H6
theorem OY {a0 a1:AV}{H:AH}{K:KT}(h:Ku a0 a1 H K):Ch 77 [a0,a1] H K:=
 fok A7 SR BA func77 h
def Ep (a0 a1 a2 a3:AV)(H:AH)(K:KT):Prop:=
 bC (BCall prog 67 [a0,a1] H) λv0 H1=>
 bO (Ag v0 0) λv2=>
 bO (Ag v0 1) λv3=>
 bH (AC H1 (.agg [(I 0),Ad])) λv4 H5=>
 bS (AP 2 H5 v4 v2) λH6=>
 bO (Ar .neq v3 (I 0)) λv7=>
 bB v7 λt8=>bI t8 (
 K (.tup [Ad,v3]) H6)
 (bO (Ar .lss a2 (I 0)) λv9=>
 bG v9 false λw10=>
 gO w10 (some a3) λv11=>
 bG v9 false λw12=>
 gO w12 (Ar .lss v11 (I 0)) λv13=>
 bO (A0 v9 (B true) v13) λv14=>
 bG v14 false λw15=>
 gO w15 (some a3) λv16=>
 bG v14 false λw17=>
 gO w17 (Ar .gtr v16 (I 4096)) λv18=>
 bO (A0 v14 (B true) v18) λv19=>
 bB v19 λt20=>bI t20 (
 K (.tup [Ad,(I 5)]) H6)
 (bO (Ap true 2 H6 v4) λv21=>
 bP (PCall prog 68 [v21,a2,a3] H6) λv22=>
 K (.tup [v22,(I 0)]) H6))
theorem EG {a0 a1 a2 a3:AV}{H:AH}{K:KT}(h:Ep a0 a1 a2 a3 H K):Ch 25 [a0,a1,a2,a3] H K:=
 fok A7 SR BA func25 h
def Kp (a0 a1 a2:AV)(H:AH)(K:KT):Prop:=
 bC (BCall prog 67 [a0,a1] H) λv0 H1=>
 bO (Ag v0 0) λv2=>
 bO (Ag v0 1) λv3=>
 bH (AC H1 (.agg [(I 0),Ad])) λv4 H5=>
 bS (AP 2 H5 v4 v2) λH6=>
 bO (Ar .neq v3 (I 0)) λv7=>
 bB v7 λt8=>bI t8 (
 K (.tup [(I 0),v3]) H6)
 (bO (Ap true 2 H6 v4) λv9=>
 bP (PCall prog 130 [v9,a2] H6) λv10=>
 bO (Ag v10 0) λv11=>
 bO (Ag v10 1) λv12=>
 bO (Em .not v12) λv13=>
 bB v13 λt14=>bI t14 (
 K (.tup [(I 0),(I 5)]) H6)
 (K (.tup [v11,(I 0)]) H6))
theorem OU {a0 a1 a2:AV}{H:AH}{K:KT}(h:Kp a0 a1 a2 H K):Ch 79 [a0,a1,a2] H K:=
 fok A7 SR BA func79 h
def Kr (a0 a1 a2:AV)(H:AH)(K:KT):Prop:=
 bC (BCall prog 67 [a0,a1] H) λv0 H1=>
 bO (Ag v0 0) λv2=>
 bO (Ag v0 1) λv3=>
 bH (AC H1 (.agg [(I 0),Ad])) λv4 H5=>
 bS (AP 2 H5 v4 v2) λH6=>
 bO (Ar .neq v3 (I 0)) λv7=>
 bB v7 λt8=>bI t8 (
 K (.tup [(I 0),v3]) H6)
 (bO (Ap true 2 H6 v4) λv9=>
 bP (PCall prog 132 [v9,a2] H6) λv10=>
 bO (Ag v10 0) λv11=>
 bO (Ag v10 1) λv12=>
 bO (Em .not v12) λv13=>
 bB v13 λt14=>bI t14 (
 K (.tup [(I 0),(I 5)]) H6)
 (K (.tup [v11,(I 0)]) H6))
theorem OW {a0 a1 a2:AV}{H:AH}{K:KT}(h:Kr a0 a1 a2 H K):Ch 81 [a0,a1,a2] H K:=
 fok A7 SR BA func81 h
def HA:Nat→Option (List Bool):=Cd [(13,mk 104 0 [0,1,3,14,15,16])]
def Ip (p:List Bool)(n:Nat):List AV→AH→Kf→Prop:=AJ prog A7 SR Aw Aw HA (sub p (AG f66)) n
def GO (x0 x1 x3 x14 x15 x16:AV)(H:AH)(K:KT):Prop:=lp (mk 104 0 [0,1,3,14,15,16]) (Ip [tT,tT,tT,tT,tT,tT,fF,tT,fF,fF] 14) [x0,x1,x3,x14,x15,x16] H (AS 0 (AN (Ip [tT,tT,tT,tT,tT,tT,tT] 25) (AR prog f66.results.toList K)))
def FN (R13:RT)(x0 x1 x3 x14 x15 x16:AV)(H:AH)(K:KT):Prop:=
 bO (AL x14) λv0=>
 bO (Ar .lss x16 v0) λv1=>
 bB v1 λt2=>bI t2 (
 bO (Af x0) λv3=>
 bO (Ab 0 v3) λv4=>
 bO (Ap true 2 H v4) λv5=>
 bP (PCall prog 120 [v5,x1] H) λv6=>
 bO (Ag v6 0) λv7=>
 bO (Ag v6 1) λv8=>
 bH (AC H (.agg [(I 0),Ad])) λv9 H10=>
 bS (AP 2 H10 v9 v7) λH11=>
 bO (Ap true 2 H11 v9) λv12=>
 bO (Bo 2 x14 x16) λv13=>
 bO (Ab 0 v13) λv14=>
 bO (Ap false 1 H11 v14) λv15=>
 bO (Ar .quo v15 (I 8)) λv16=>
 bP (BPure prog 121 [v12,v16]) λv17=>
 bO (Ar .lss v17 (I 0)) λv18=>
 bG v18 true λw19=>
 gO w19 (some x0) λv20=>
 bG v18 true λw21=>
 gC w21 (BCall prog 110 [v20] H11) H11 λv22 H23=>
 bG v18 true λw24=>
 gO w24 (Ar .eql v22 (I 0)) λv25=>
 bO (A0 v18 v25 (B false)) λv26=>
 bB v26 λt27=>bI t27 (
 K (.tup [x15,(I 4)]) H23)
 (bO (Bo 2 x14 x16) λv28=>
 bO (Ab 0 v28) λv29=>
 bO (Ap false 1 H23 v29) λv30=>
 bO (Bo 2 x14 x16) λv31=>
 bO (Ab 1 v31) λv32=>
 bO (Ap false 1 H23 v32) λv33=>
 bO (Ar .add x15 v33) λv34=>
 bO (Bf 1 x3 (some x15) (some v34) none) λv35=>
 bO (En [(I 0),(I 0),(I 0),(I 0),(B false),(.lit (.string ⟨#[]⟩)),(.lit (.string ⟨#[]⟩)),Ad] [(0,1,(I 2)),(1,1,x1),(2,1,v30),(7,1,v35)]) λv36=>
 bC (BCall prog 62 [x0,v36] H23) λv37 H38=>
 bO (Ar .neq v37 (I 0)) λv39=>
 bB v39 λt40=>bI t40 (
 K (.tup [x15,v37]) H38)
 (bO (Bo 2 x14 x16) λv41=>
 bO (Ab 1 v41) λv42=>
 bO (Ap false 1 H38 v42) λv43=>
 bO (Ar .add x15 v43) λv44=>
 bO (Ar .add x16 (I 1)) λv45=>
 R13 [x0,x1,x3,x14,v44,v45] H38)))
 (K (.tup [x15,(I 0)]) H)
theorem Kw {K:KT}:vA (λR x0 x1 x3 x14 x15 x16 H=>FN R x0 x1 x3 x14 x15 x16 H K) (λx0 x1 x3 x14 x15 x16 H=>GO x0 x1 x3 x14 x15 x16 H K):=fQ (A3 _ _) (λ_ _ _ _ _ _ _ _=>by kernel_rfl)
def JB (a0 a1 a2 a3:AV)(H:AH)(K:KT):Prop:=
 bC (BCall prog 67 [a0,a1] H) λv0 H1=>
 bO (Ag v0 0) λv2=>
 bO (Ag v0 1) λv3=>
 bH (AC H1 (.agg [(I 0),Ad])) λv4 H5=>
 bS (AP 2 H5 v4 v2) λH6=>
 bO (Ar .neq v3 (I 0)) λv7=>
 bB v7 λt8=>bI t8 (
 K (.tup [(I 0),v3]) H6)
 (bO (Ap true 2 H6 v4) λv9=>
 bP (PCall prog 118 [v9,a2,a3] H6) λv10=>
 bO (Ag v10 0) λv11=>
 bO (Ag v10 1) λv12=>
 bH (AC H6 (.agg [(I 0),Ad])) λv13 H14=>
 bS (AP 2 H14 v13 v11) λH15=>
 bO (Em .not v12) λv16=>
 bB v16 λt17=>bI t17 (
 K (.tup [(I 0),(I 5)]) H15)
 (bO (AL a3) λv18=>
 bO (En [(I 0),(I 0)] [(0,1,a2),(1,1,v18)]) λv19=>
 bP (PCall prog 119 [v19,(I 8)] H15) λv20=>
 GO a0 a1 a3 v20 (I 0) (I 0) H15 K))
theorem O5 {a0 a1 a2 a3:AV}{H:AH}{K:KT}(h:JB a0 a1 a2 a3 H K):Ch 66 [a0,a1,a2,a3] H K:=
 fok A7 SR HA func66 h
def Hz (a0 a1 a2:AV)(H:AH)(K:KT):Prop:=
 bC (BCall prog 67 [a0,a1] H) λv0 H1=>
 bO (Ag v0 0) λv2=>
 bO (Ag v0 1) λv3=>
 bH (AC H1 (.agg [(I 0),Ad])) λv4 H5=>
 bS (AP 2 H5 v4 v2) λH6=>
 bO (Ar .neq v3 (I 0)) λv7=>
 bB v7 λt8=>bI t8 (
 K v3 H6)
 (bO (Ap true 2 H6 v4) λv9=>
 bP (PCall prog 124 [v9,a2] H6) λv10=>
 bO (Ag v10 0) λv11=>
 bO (Ag v10 1) λv12=>
 bH (AC H6 (.agg [(I 0),Ad])) λv13 H14=>
 bS (AP 2 H14 v13 v11) λH15=>
 bO (Em .not v12) λv16=>
 bB v16 λt17=>bI t17 (
 K (I 5) H15)
 (bO (En [(I 0),(I 0),(I 0),(I 0),(B false),(.lit (.string ⟨#[]⟩)),(.lit (.string ⟨#[]⟩)),Ad] [(0,1,(I 3)),(1,1,a1),(3,1,a2)]) λv18=>
 bC (BCall prog 62 [a0,v18] H15) λv19 H20=>
 K v19 H20))
theorem Mv {a0 a1 a2:AV}{H:AH}{K:KT}(h:Hz a0 a1 a2 H K):Ch 70 [a0,a1,a2] H K:=
 fok A7 SR BA func70 h
def Ms:CJ:=LT [(7,[(1,some 8),(2,some 8),(4,some 8),(5,some 8)])]
def Hv (a0 a1 a2 a3 a4:AV)(H:AH)(K:KT):Prop:=
 bC (BCall prog 67 [a0,a1] H) λv0 H1=>
 bO (Ag v0 0) λv2=>
 bO (Ag v0 1) λv3=>
 bH (AC H1 (.agg [(I 0),Ad])) λv4 H5=>
 bS (AP 2 H5 v4 v2) λH6=>
 bO (Ar .neq v3 (I 0)) λv7=>
 bB v7 λt8=>bI t8 (
 K v3 H6)
 (bO (Ap true 2 H6 v4) λv9=>
 bP (PCall prog 125 [v9,a2,a3,a4] H6) λv10=>
 bO (Ag v10 0) λv11=>
 bO (Ag v10 1) λv12=>
 bH (AC H6 (.agg [(I 0),Ad])) λv13 H14=>
 bS (AP 2 H14 v13 v11) λH15=>
 bO (Em .not v12) λv16=>
 bB v16 λt17=>bI t17 (
 K (I 5) H15)
 (bO (Ab 1 v13) λv18=>
 bO (Ap false 1 H15 v18) λv19=>
 bO (AL v19) λv20=>
 bO (Ab 1 v4) λv21=>
 bO (Ap false 1 H15 v21) λv22=>
 bO (AL v22) λv23=>
 bO (Ar .sub v20 v23) λv24=>
 bC (BCall prog 110 [a0] H15) λv25 H26=>
 bO (Ar .gtr v24 v25) λv27=>
(Ap false 1 H26 v18=some v19)∧
(AL v19=some v20)∧
(Ap false 1 H26 v21=some v22)∧
(AL v22=some v23)∧
 bB v27 λt28=>bI t28 (
 K (I 4) H26)
 (bO (En [(I 0),(I 0),(I 0),(I 0),(B false),(.lit (.string ⟨#[]⟩)),(.lit (.string ⟨#[]⟩)),Ad] [(0,1,(I 4)),(1,1,a1),(2,1,a2),(3,1,a3),(4,1,a4)]) λv29=>
 bC (BCall prog 62 [a0,v29] H26) λv30 H31=>
 K v30 H31)))
theorem Mt {a0 a1 a2 a3 a4:AV}{H:AH}{K:KT}(h:Hv a0 a1 a2 a3 a4 H K):Ch 71 [a0,a1,a2,a3,a4] H K:=
 fok Ms SR BA func71 h
def JA (a0 a1 a2 a3:AV)(H:AH)(K:KT):Prop:=
 bC (BCall prog 67 [a0,a1] H) λv0 H1=>
 bO (Ag v0 0) λv2=>
 bO (Ag v0 1) λv3=>
 bH (AC H1 (.agg [(I 0),Ad])) λv4 H5=>
 bS (AP 2 H5 v4 v2) λH6=>
 bO (Ar .neq v3 (I 0)) λv7=>
 bB v7 λt8=>bI t8 (
 K v3 H6)
 (bO (Ap true 2 H6 v4) λv9=>
 bP (PCall prog 126 [v9,a2,a3] H6) λv10=>
 bO (Ag v10 0) λv11=>
 bO (Ag v10 1) λv12=>
 bH (AC H6 (.agg [(I 0),Ad])) λv13 H14=>
 bS (AP 2 H14 v13 v11) λH15=>
 bO (Em .not v12) λv16=>
 bB v16 λt17=>bI t17 (
 K (I 5) H15)
 (bO (En [(I 0),(I 0),(I 0),(I 0),(B false),(.lit (.string ⟨#[]⟩)),(.lit (.string ⟨#[]⟩)),Ad] [(0,1,(I 5)),(1,1,a1),(2,1,a2),(3,1,a3)]) λv18=>
 bC (BCall prog 62 [a0,v18] H15) λv19 H20=>
 K v19 H20))
theorem O4 {a0 a1 a2 a3:AV}{H:AH}{K:KT}(h:JA a0 a1 a2 a3 H K):Ch 72 [a0,a1,a2,a3] H K:=
 fok A7 SR BA func72 h
def IR (a0 a1 a2:AV)(H:AH)(K:KT):Prop:=
 bO (Af a0) λv0=>
 bO (Ab 8 v0) λv1=>
 bO (Ap false 1 H v1) λv2=>
 bB v2 λt3=>bI t3 (
 K (I 8) H)
 (bP (PCall prog 60 [a1] H) λv4=>
 bO (Em .not v4) λv5=>
 bG v5 false λw6=>
 gO w6 (some a2) λv7=>
 bG v5 false λw8=>
 gP w8 (PCall prog 60 [v7] H) λv9=>
 bG v5 false λw10=>
 gO w10 (Em .not v9) λv11=>
 bO (A0 v5 (B true) v11) λv12=>
 bB v12 λt13=>bI t13 (
 K (I 5) H)
 (bO (Af a0) λv14=>
 bO (Ab 0 v14) λv15=>
 bO (Ap true 2 H v15) λv16=>
 bP (PCall prog 111 [v16,a1] H) λv17=>
 bO (Ar .lss v17 (I 0)) λv18=>
 bB v18 λt19=>bI t19 (
 K (I 3) H)
 (bO (XZ .eql a1 a2) λv20=>
 bB v20 λt21=>bI t21 (
 K (I 0) H)
 (bO (En [(I 0),(I 0),(I 0),(I 0),(B false),(.lit (.string ⟨#[]⟩)),(.lit (.string ⟨#[]⟩)),Ad] [(0,1,(I 6)),(5,1,a1),(6,1,a2)]) λv22=>
 bC (BCall prog 62 [a0,v22] H) λv23 H24=>
 K v23 H24))))
theorem Nt {a0 a1 a2:AV}{H:AH}{K:KT}(h:IR a0 a1 a2 H K):Ch 73 [a0,a1,a2] H K:=
 fok A7 SR BA func73 h
def IQ (a0 a1:AV)(H:AH)(K:KT):Prop:=
 bO (Af a0) λv0=>
 bO (Ab 8 v0) λv1=>
 bO (Ap false 1 H v1) λv2=>
 bB v2 λt3=>bI t3 (
 K (I 8) H)
 (bP (PCall prog 60 [a1] H) λv4=>
 bO (Em .not v4) λv5=>
 bB v5 λt6=>bI t6 (
 K (I 5) H)
 (bO (Af a0) λv7=>
 bO (Ab 0 v7) λv8=>
 bO (Ap true 2 H v8) λv9=>
 bP (PCall prog 111 [v9,a1] H) λv10=>
 bO (Ar .lss v10 (I 0)) λv11=>
 bB v11 λt12=>bI t12 (
 K (I 3) H)
 (bO (En [(I 0),(I 0),(I 0),(I 0),(B false),(.lit (.string ⟨#[]⟩)),(.lit (.string ⟨#[]⟩)),Ad] [(0,1,(I 7)),(5,1,a1)]) λv13=>
 bC (BCall prog 62 [a0,v13] H) λv14 H15=>
 K v14 H15)))
theorem Ns {a0 a1:AV}{H:AH}{K:KT}(h:IQ a0 a1 H K):Ch 74 [a0,a1] H K:=
 fok A7 SR BA func74 h
def Io:Nat→Option (List Bool):=Cd [(10,mk 82 0 [0,1,5,6]),(15,mk 82 0 [0,1,5,6,7,8,9]),(7,mk 82 0 [0,1,5,6])]
def BC (p:List Bool)(n:Nat):List AV→AH→Kf→Prop:=AJ prog A7 SR Aw Aw Io (sub p (AG f75)) n
def E3 (R7:RT)(x0 x1 x5 x6:AV)(H:AH)(K:KT):Prop:=jn (mk 82 0 [0,1,5,6]) (BC [tT,tT,tT,fF,tT,fF,fF,tT,tT] 20) [x0,x1,x5,x6] H (PP (mk 82 0 [0,1,5,6]) R7 (AS 0 (AN (BC [tT,tT,tT,tT] 20) (AR prog f75.results.toList K))))
def E4 (R7:RT)(x0 x1 x5 x6 x7 x8 x9:AV)(H:AH)(K:KT):Prop:=lp (mk 82 0 [0,1,5,6,7,8,9]) (BC [tT,tT,tT,fF,tT,fF,fF,tT,fF,fF,tT,tT,fF,tT,fF,fF] 16) [x0,x1,x5,x6,x7,x8,x9] H (AS 2 (AN (BC [tT,tT,tT,fF,tT,fF,fF,tT,fF,fF,tT,tT,tT] 19) (AS 1 (AN (DJ (mk 82 0 [0,1,5,6]) (BC [tT,tT,tT,fF,tT,fF,fF,tT,tT] 20)) (PP (mk 82 0 [0,1,5,6]) R7 (AS 0 (AN (BC [tT,tT,tT,tT] 20) (AR prog f75.results.toList K))))))))
def In (x0 x1 x5 x6:AV)(H:AH)(K:KT):Prop:=lp (mk 82 0 [0,1,5,6]) (BC [tT,tT,tT,fF,tT,fF,fF] 8) [x0,x1,x5,x6] H (AS 0 (AN (BC [tT,tT,tT,tT] 20) (AR prog f75.results.toList K)))
def Ef (R7:RT)(x0 x1 x5 x6:AV)(H:AH)(K:KT):Prop:=
 bO (Ar .add x6 (I 1)) λv0=>
 R7 [x0,x1,x5,v0] H
theorem FM (R7:RT)(x0 x1 x5 x6:AV)(H:AH)(K:KT):E3 R7 x0 x1 x5 x6 H K=Ef R7 x0 x1 x5 x6 H K:=(B5 _ _ _ _ _).trans (by kernel_rfl)
def Gt (R7:RT)(R15:RT)(x0 x1 x5 x6 x7 x8 x9:AV)(H:AH)(K:KT):Prop:=
 bO (AL x1) λv0=>
 bO (Ar .lss x9 v0) λv1=>
 bB v1 λt2=>bI t2 (
 bG x8 false λw3=>
 gO w3 (Ab 1 x7) λv4=>
 bG x8 false λw5=>
 gO w5 (Ap false 1 H v4) λv6=>
 bG x8 false λw7=>
 gO w7 (some x1) λv8=>
 bG x8 false λw9=>
 gO w9 (some x9) λv10=>
 bG x8 false λw11=>
 gO w11 (Bo 1 v8 v10) λv12=>
 bG x8 false λw13=>
 gO w13 (Ap false 1 H v12) λv14=>
 bG x8 false λw15=>
 gO w15 (Ar .eql v6 v14) λv16=>
 bO (A0 x8 (B true) v16) λv17=>
 bO (Ar .add x9 (I 1)) λv18=>
 R15 [x0,x1,x5,x6,x7,v17,v18] H)
 (bB x8 λt19=>bI t19 (
 bO (Af x0) λv20=>
 bO (Ab 2 v20) λv21=>
 bO (Ap true 2 H v21) λv22=>
 bO (Ap true 8 H x7) λv23=>
 bP (BPure prog 114 [v22,v23]) λv24=>
 bO (Af x0) λv25=>
 bO (Ab 2 v25) λv26=>
 bS (AP 2 H v26 v24) λH27=>
 E3 R7 x0 x1 x5 x6 H27 K)
 (bO (Ap true 8 H x7) λv28=>
 bH (D9 H 8 1 (B4 [(I 0),(I 0),(I 0),(I 0),(B false),(.lit (.string ⟨#[]⟩)),(.lit (.string ⟨#[]⟩)),Ad] 1) [(0,8,v28)]) λv29 H30=>
 bH (HM 8 96 H30 x5 v29) λv31 H32=>
 E3 R7 x0 x1 v31 x6 H32 K))
theorem KR (R7:RT){K:KT}:zdiqZ (λR x0 x1 x5 x6 x7 x8 x9 H=>Gt R7 R x0 x1 x5 x6 x7 x8 x9 H K) (λx0 x1 x5 x6 x7 x8 x9 H=>E4 R7 x0 x1 x5 x6 x7 x8 x9 H K):=zdkeZ (A3 _ _) (λ_ _ _ _ _ _ _ _ _=>by kernel_rfl)
def GN (R7:RT)(x0 x1 x5 x6:AV)(H:AH)(K:KT):Prop:=
 bO (Af x0) λv0=>
 bO (Ab 4 v0) λv1=>
 bO (Ap false 1 H v1) λv2=>
 bO (AL v2) λv3=>
 bO (Ar .lss x6 v3) λv4=>
 bB v4 λt5=>bI t5 (
 bO (Af x0) λv6=>
 bO (Ab 4 v6) λv7=>
 bO (Ap false 1 H v7) λv8=>
 bO (Bo 8 v8 x6) λv9=>
 bO (Ap true 8 H v9) λv10=>
 bH (AC H (.agg [(I 0),(I 0),(I 0),(I 0),(B false),(.lit (.string ⟨#[]⟩)),(.lit (.string ⟨#[]⟩)),Ad])) λv11 H12=>
 bS (AP 8 H12 v11 v10) λH13=>
 bO (Ab 0 v11) λv14=>
 bO (Ap false 1 H13 v14) λv15=>
 bO (Ar .eql v15 (I 1)) λv16=>
 bG v16 false λw17=>
 gO w17 (Ab 0 v11) λv18=>
 bG v16 false λw19=>
 gO w19 (Ap false 1 H13 v18) λv20=>
 bG v16 false λw21=>
 gO w21 (Ar .eql v20 (I 6)) λv22=>
 bO (A0 v16 (B true) v22) λv23=>
 bG v23 false λw24=>
 gO w24 (Ab 0 v11) λv25=>
 bG v23 false λw26=>
 gO w26 (Ap false 1 H13 v25) λv27=>
 bG v23 false λw28=>
 gO w28 (Ar .eql v27 (I 7)) λv29=>
 bO (A0 v23 (B true) v29) λv30=>
 E4 R7 x0 x1 x5 x6 v11 v30 (I 0) H13 K)
 (bO (Af x0) λv31=>
 bO (Ab 4 v31) λv32=>
 bS (AP 1 H v32 x5) λH33=>
 K (I 0) H33)
theorem L9 {K:KT}:eI (λR x0 x1 x5 x6 H=>GN R x0 x1 x5 x6 H K) (λx0 x1 x5 x6 H=>In x0 x1 x5 x6 H K):=RQ (A3 _ _) (λ_ _ _ _ _ _=>by kernel_rfl)
def Kv (a0 a1:AV)(H:AH)(K:KT):Prop:=
 bO (Af a0) λv0=>
 bO (Ab 8 v0) λv1=>
 bO (Ap false 1 H v1) λv2=>
 bG v2 false λw3=>
 gO w3 (some a0) λv4=>
 bG v2 false λw5=>
 gC w5 (BCall prog 113 [v4] H) H λv6 H7=>
 bG v2 false λw8=>
 gO w8 (Em .not v6) λv9=>
 bO (A0 v2 (B true) v9) λv10=>
 bB v10 λt11=>bI t11 (
 K (I 8) H7)
 (In a0 a1 Ad (I 0) H7 K)
theorem OZ {a0 a1:AV}{H:AH}{K:KT}(h:Kv a0 a1 H K):Ch 75 [a0,a1] H K:=
 fok A7 SR Io func75 h
def IN:Nat→Option (List Bool):=Cd [(9,mk 43 0 [0,1,6,8])]
def J9 (p:List Bool)(n:Nat):List AV→AH→Kf→Prop:=AJ prog A7 SR Aw Aw IN (sub p (AG f57)) n
def IM (x0 x1 x6 x8:AV)(H:AH)(K:KT):Prop:=lp (mk 43 0 [0,1,6,8]) (J9 [tT,tT,tT,tT,fF,fF,fF] 10) [x0,x1,x6,x8] H (AS 1 (AN (J9 [tT,tT,tT,tT,tT] 16) (AR prog f57.results.toList K)))
def Hw (R9:RT)(x0 x1 x6 x8:AV)(H:AH)(K:KT):Prop:=
 bO (AL x8) λv0=>
 bO (Ar .lss v0 x6) λv1=>
 bB v1 λt2=>bI t2 (
 bO (AL x8) λv3=>
 bC (BCall prog 25 [x0,x1,v3,(I 4096)] H) λv4 H5=>
 bO (Ag v4 0) λv6=>
 bO (Ag v4 1) λv7=>
 bO (Ar .neq v7 (I 0)) λv8=>
 bB v8 λt9=>bI t9 (
 K (.tup [Ad,v7]) H5)
 (bH (HM 1 1 H5 x8 v6) λv10 H11=>
 R9 [x0,x1,x6,v10] H11))
 (K (.tup [x8,(I 0)]) H)
theorem Mu {K:KT}:eI (λR x0 x1 x6 x8 H=>Hw R x0 x1 x6 x8 H K) (λx0 x1 x6 x8 H=>IM x0 x1 x6 x8 H K):=RQ (A3 _ _) (λ_ _ _ _ _ _=>by kernel_rfl)
def Lj (a0 a1:AV)(H:AH)(K:KT):Prop:=
 bC (BCall prog 77 [a0,a1] H) λv0 H1=>
 bO (Ag v0 0) λv2=>
 bO (Ag v0 1) λv3=>
 bO (Ar .neq v3 (I 0)) λv4=>
 bB v4 λt5=>bI t5 (
 K (.tup [Ad,v3]) H1)
 (bO (Ar .gtr v2 (I 65536)) λv6=>
 bB v6 λt7=>bI t7 (
 K (.tup [Ad,(I 5)]) H1)
 (IM a0 a1 v2 Ad H1 K))
theorem Qd {a0 a1:AV}{H:AH}{K:KT}(h:Lj a0 a1 H K):Ch 57 [a0,a1] H K:=
 fok A7 SR IN func57 h
def GM:Nat→Option (List Bool):=Cd [(3,mk 42 0 [0,1,2,3,10])]
def Hy (p:List Bool)(n:Nat):List AV→AH→Kf→Prop:=AJ prog A7 SR Aw Aw GM (sub p (AG f23)) n
def GL (x0 x1 x2 x3 x10:AV)(H:AH)(K:KT):Prop:=lp (mk 42 0 [0,1,2,3,10]) (Hy [tT,tT,fF,fF,fF] 4) [x0,x1,x2,x3,x10] H (AS 0 (AN (Hy [tT,tT,tT] 10) (AR prog f23.results.toList K)))
def DS (R3:RT)(x0 x1 x2 x3 x10:AV)(H:AH)(K:KT):Prop:=
 bO (AL x3) λv0=>
 bO (Ar .lss x10 v0) λv1=>
 bB v1 λt2=>bI t2 (
 bO (Ar .add x2 x10) λv3=>
 bO (Ar .add x10 (I 4096)) λv4=>
 bO (AL x3) λv5=>
 bO (amm Zn [v4,v5]) λv6=>
 bO (Bf 1 x3 (some x10) (some v6) none) λv7=>
 bC (BCall prog 66 [x0,x1,v3,v7] H) λv8 H9=>
 bO (Ag v8 0) λv10=>
 bO (Ag v8 1) λv11=>
 bO (Ar .add x10 v10) λv12=>
 bO (Ar .neq v11 (I 0)) λv13=>
 bB v13 λt14=>bI t14 (
 K (.tup [v12,v11]) H9)
 (R3 [x0,x1,x2,x3,v12] H9))
 (K (.tup [x10,(I 0)]) H)
theorem Kt {K:KT}:pV (λR x0 x1 x2 x3 x10 H=>DS R x0 x1 x2 x3 x10 H K) (λx0 x1 x2 x3 x10 H=>GL x0 x1 x2 x3 x10 H K):=dH (A3 _ _) (λ_ _ _ _ _ _ _=>by kernel_rfl)
def IP (a0 a1 a2 a3:AV)(H:AH)(K:KT):Prop:=
 GL a0 a1 a2 a3 (I 0) H K
theorem Nr {a0 a1 a2 a3:AV}{H:AH}{K:KT}(h:IP a0 a1 a2 a3 H K):Ch 23 [a0,a1,a2,a3] H K:=
 fok A7 SR GM func23 h
def Gq:Nat→Option (List Bool):=Cd [(7,mk 54 0 [0,2,7,8,9,10]),(6,mk 54 0 [0,2,7,8,9,10]),(4,mk 54 0 [0,2,7,8,9]),(2,mk 54 0 [0,2,7,8])]
def BN (p:List Bool)(n:Nat):List AV→AH→Kf→Prop:=AJ prog A7 SR Aw Aw Gq (sub p (AG f54)) n
def Gp (x0 x2 x7 x8 x9 x10:AV)(H:AH)(K:KT):Prop:=lp (mk 54 0 [0,2,7,8,9,10]) (BN [tT,tT,tT,tT,fF,tT,fF,fF] 8) [x0,x2,x7,x8,x9,x10] H (AS 0 (AN (BN [tT,tT,tT,tT,tT] 13) (AR prog f54.results.toList K)))
def Gn (x0 x2 x7 x8 x9 x10:AV)(H:AH)(K:KT):Prop:=jn (mk 54 0 [0,2,7,8,9,10]) (BN [tT,tT,tT,tT,fF,tT] 7) [x0,x2,x7,x8,x9,x10] H (AN (BN [tT,tT,tT,tT,tT] 13) (AR prog f54.results.toList K))
def Gm (x0 x2 x7 x8 x9:AV)(H:AH)(K:KT):Prop:=jn (mk 54 0 [0,2,7,8,9]) (BN [tT,tT,tT,tT] 5) [x0,x2,x7,x8,x9] H (AR prog f54.results.toList K)
def CZ (x0 x2 x7 x8:AV)(H:AH)(K:KT):Prop:=jn (mk 54 0 [0,2,7,8]) (BN [tT,tT,tT] 4) [x0,x2,x7,x8] H (AR prog f54.results.toList K)
def F4 (R7:RT)(x0 x2 x7 x8 x9 x10:AV)(H:AH)(K:KT):Prop:=
 bO (AL x2) λv0=>
 bO (Ar .lss x10 v0) λv1=>
 bG v1 true λw2=>
 gO w2 (some x8) λv3=>
 bG v1 true λw4=>
 gO w4 (Ar .eql v3 (I 0)) λv5=>
 bO (A0 v1 v5 (B false)) λv6=>
 bB v6 λt7=>bI t7 (
 bO (Bo 1 x2 x10) λv8=>
 bO (Ap false 1 H v8) λv9=>
 bC (BCall prog 23 [x0,x7,x9,v9] H) λv10 H11=>
 bO (Ag v10 0) λv12=>
 bO (Ag v10 1) λv13=>
 bO (Ar .add x9 v12) λv14=>
 bO (Ar .add x10 (I 1)) λv15=>
 R7 [x0,x2,x7,v13,v14,v15] H11)
 (bO (Ar .neq x8 (I 0)) λv16=>
 bB v16 λt17=>bI t17 (
 K x8 H)
 (bH (D9 H 1 1 (B4 [(I 0)] 1) [(0,1,x7)]) λv18 H19=>
 bC (BCall prog 75 [x0,v18] H19) λv20 H21=>
 K v20 H21))
theorem JN {K:KT}:vA (λR x0 x2 x7 x8 x9 x10 H=>F4 R x0 x2 x7 x8 x9 x10 H K) (λx0 x2 x7 x8 x9 x10 H=>Gp x0 x2 x7 x8 x9 x10 H K):=fQ (A3 _ _) (λ_ _ _ _ _ _ _ _=>by kernel_rfl)
def F3 (x0 x2 x7 x8 x9 x10:AV)(H:AH)(K:KT):Prop:=
 Gp x0 x2 x7 x8 x9 x10 H K
theorem KQ (x0 x2 x7 x8 x9 x10:AV)(H:AH)(K:KT):Gn x0 x2 x7 x8 x9 x10 H K=F3 x0 x2 x7 x8 x9 x10 H K:=(B5 _ _ _ _ _).trans (by kernel_rfl)
def Fz (x0 x2 x7 x8 x9:AV)(H:AH)(K:KT):Prop:=
 Gn x0 x2 x7 x8 x9 (I 0) H K
theorem KN (x0 x2 x7 x8 x9:AV)(H:AH)(K:KT):Gm x0 x2 x7 x8 x9 H K=Fz x0 x2 x7 x8 x9 H K:=(B5 _ _ _ _ _).trans (by kernel_rfl)
def Fy (x0 x2 x7 x8:AV)(H:AH)(K:KT):Prop:=
 Gm x0 x2 x7 x8 (I 0) H K
theorem KM (x0 x2 x7 x8:AV)(H:AH)(K:KT):CZ x0 x2 x7 x8 H K=Fy x0 x2 x7 x8 H K:=(B5 _ _ _ _ _).trans (by kernel_rfl)
def Il (a0 a1 a2:AV)(H:AH)(K:KT):Prop:=
 bC (BCall prog 14 [a0,a1,(B true)] H) λv0 H1=>
 bO (Ag v0 0) λv2=>
 bO (Ag v0 1) λv3=>
 bO (Ar .eql v3 (I 0)) λv4=>
 bB v4 λt5=>bI t5 (
 bC (BCall prog 70 [a0,v2,(I 0)] H1) λv6 H7=>
 CZ a0 a2 v2 v6 H7 K)
 (CZ a0 a2 v2 v3 H1 K)
theorem MD {a0 a1 a2:AV}{H:AH}{K:KT}(h:Il a0 a1 a2 H K):Ch 54 [a0,a1,a2] H K:=
 fok A7 SR Gq func54 h
def Ox:Nat→Option (List Bool):=Cd [(6,mk 53 0 [0,5])]
def P7 (p:List Bool)(n:Nat):List AV→AH→Kf→Prop:=AJ prog A7 SR Aw Aw Ox (sub p (AG f28)) n
def Ow (x0 x5:AV)(H:AH)(K:KT):Prop:=lp (mk 53 0 [0,5]) (P7 [tT,tT,fF,tT,fF,fF] 7) [x0,x5] H (AS 0 (AN (P7 [tT,tT,tT] 13) (AR prog f28.results.toList K)))
def Ml (R6:RT)(x0 x5:AV)(H:AH)(K:KT):Prop:=
 bO (AL x0) λv0=>
 bO (Ar .lss x5 v0) λv1=>
 bB v1 λt2=>bI t2 (
 bO (Bo 10 x0 x5) λv3=>
 bO (Ap true 10 H v3) λv4=>
 bH (AC H (.agg [u0Z,u0Z,u0Z,(I 0),(I 0),(I 0),Ad,(B false),Ad,Ad])) λv5 H6=>
 bS (AP 10 H6 v5 v4) λH7=>
 bO (Ab 6 v5) λv8=>
 bO (Ap false 1 H7 v8) λv9=>
 bO (AL v9) λv10=>
 bO (Ar .gtr v10 (I 60)) λv11=>
 bG v11 true λw12=>
 gO w12 (Ab 6 v5) λv13=>
 bG v11 true λw14=>
 gO w14 (Ap false 1 H7 v13) λv15=>
 bG v11 true λw16=>
 gO w16 (AL v15) λv17=>
 bG v11 true λw18=>
 gO w18 (Ar .neq v17 (I 4097)) λv19=>
 bO (A0 v11 v19 (B false)) λv20=>
 bG v20 false λw21=>
 gO w21 (Ab 5 v5) λv22=>
 bG v20 false λw23=>
 gO w23 (Ap false 1 H7 v22) λv24=>
 bG v20 false λw25=>
 gO w25 (Ar .gtr v24 (I 200)) λv26=>
 bG v20 false λw27=>
 gO w27 (some v26) λv28=>
 bG v28 true λw29=>
 gO w29 (Ab 5 v5) λv30=>
 bG v28 true λw31=>
 gO w31 (Ap false 1 H7 v30) λv32=>
 bG v28 true λw33=>
 gO w33 (Ar .leq v32 (I 32768)) λv34=>
 bG v20 false λw35=>
 gO w35 (A0 v28 v34 (B false)) λv36=>
 bO (A0 v20 (B true) v36) λv37=>
 bG v37 false λw38=>
 gO w38 (Ab 8 v5) λv39=>
 bG v37 false λw40=>
 gO w40 (Ap false 1 H7 v39) λv41=>
 bG v37 false λw42=>
 gO w42 (AL v41) λv43=>
 bG v37 false λw44=>
 gO w44 (Ar .gtr v43 (I 200)) λv45=>
 bO (A0 v37 (B true) v45) λv46=>
 bG v46 false λw47=>
 gO w47 (Ab 9 v5) λv48=>
 bG v46 false λw49=>
 gO w49 (Ap false 1 H7 v48) λv50=>
 bG v46 false λw51=>
 gO w51 (AL v50) λv52=>
 bG v46 false λw53=>
 gO w53 (Ar .gtr v52 (I 30)) λv54=>
 bO (A0 v46 (B true) v54) λv55=>
 bB v55 λt56=>bI t56 (
 K (B false) H7)
 (bO (Ar .add x5 (I 1)) λv57=>
 R6 [x0,v57] H7))
 (K (B true) H)
theorem QP {K:KT}:zdipZ (λR x0 x5 H=>Ml R x0 x5 H K) (λx0 x5 H=>Ow x0 x5 H K):=wM (A3 _ _) (λ_ _ _ _=>by kernel_rfl)
def SD (a0 a1:AV)(H:AH)(K:KT):Prop:=
 bO (AL a0) λv0=>
 bO (Ar .gtr v0 a1) λv1=>
 bB v1 λt2=>bI t2 (
 K (B false) H)
 (Ow a0 (I 0) H K)
theorem Wt {a0 a1:AV}{H:AH}{K:KT}(h:SD a0 a1 H K):Ch 28 [a0,a1] H K:=
 fok A7 SR Ox func28 h
def P5:CJ:=LT [(25,[(8,none),(10,none)]),(27,[(12,none),(14,none),(16,none),(18,none)]),(29,[(10,none),(12,none),(14,none)]),(35,[(6,none)]),(39,[(7,none)])]
def P6:Nat→Option (List Bool):=Cd [(43,mk 346 0 [21,22,23,24,25,26,27,28,29,30,31,32]),(42,mk 346 0 [1,5,21,22,23,24,25,26,27,28,29,30]),(41,mk 346 0 [0,1,5,21,22,23,24,25,26,27,28]),(40,mk 346 0 [0,1,5,21,22,23,24,25,26]),(39,mk 346 0 [0,1,5,21,22,23,24]),(38,mk 346 0 [0,1,5,21,22]),(37,mk 346 0 [1,5]),(36,mk 346 0 [0,1,5,336]),(2,mk 346 0 []),(35,mk 346 0 [1,5]),(34,mk 346 0 [0,1,5,41,326]),(32,mk 346 0 [0,1,5,41,313]),(30,mk 346 0 [0,1,5,41,306]),(28,mk 346 0 [0,1,5,41,295]),(26,mk 346 0 [0,1,5,7,41,286]),(24,mk 346 0 [0,1,5,7,8,41,275]),(22,mk 346 0 [0,1,5,7,8,41,256]),(20,mk 346 0 [0,1,5,7,8,41,233]),(18,mk 346 0 [0,1,5,7,8,41,218]),(16,mk 346 0 [17,18,19,20]),(15,mk 346 0 [1,5,17,18]),(14,mk 346 0 [0,1,5,7,8,41,184]),(12,mk 346 0 [13,14,15,16]),(11,mk 346 0 [1,5,13,14]),(9,mk 346 0 [0,1,5,7,8,41,151]),(10,mk 346 0 [0,1,5,7,8,41,151]),(7,mk 346 0 [9,10,11,12]),(6,mk 346 0 [1,5,7,9,10]),(4,mk 346 0 [0,1,5,7,8,41,120])]
def Am (p:List Bool)(n:Nat):List AV→AH→Kf→Prop:=AJ prog P5 SR Aw Aw P6 (sub p (AG f30)) n
def P4 (x9 x10 x11 x12:AV)(H:AH)(K:KT):Prop:=jn (mk 346 0 [9,10,11,12]) (Am [tT,tT,fF,tT,fF,tT,fF,tT,tT] 8) [x9,x10,x11,x12] H (AS 0 (AN (DJ (mk 346 0 []) (Am [tT,tT,tT] 45)) (AR prog f30.results.toList K)))
def P3 (x1 x5 x7 x9 x10:AV)(H:AH)(K:KT):Prop:=jn (mk 346 0 [1,5,7,9,10]) (Am [tT,tT,fF,tT,fF,tT,fF,tT] 7) [x1,x5,x7,x9,x10] H (AS 0 (AN (DJ (mk 346 0 []) (Am [tT,tT,tT] 45)) (AR prog f30.results.toList K)))
def NW (x13 x14 x15 x16:AV)(H:AH)(K:KT):Prop:=jn (mk 346 0 [13,14,15,16]) (Am [tT,tT,fF,tT,fF,tT,tT,tT,fF,tT,tT] 13) [x13,x14,x15,x16] H (AS 0 (AN (DJ (mk 346 0 []) (Am [tT,tT,tT] 45)) (AR prog f30.results.toList K)))
def NV (x1 x5 x13 x14:AV)(H:AH)(K:KT):Prop:=jn (mk 346 0 [1,5,13,14]) (Am [tT,tT,fF,tT,fF,tT,tT,tT,fF,tT] 12) [x1,x5,x13,x14] H (AS 0 (AN (DJ (mk 346 0 []) (Am [tT,tT,tT] 45)) (AR prog f30.results.toList K)))
def NZ (x17 x18 x19 x20:AV)(H:AH)(K:KT):Prop:=jn (mk 346 0 [17,18,19,20]) (Am [tT,tT,fF,tT,fF,tT,tT,tT,tT,tT,fF,tT,tT] 17) [x17,x18,x19,x20] H (AS 0 (AN (DJ (mk 346 0 []) (Am [tT,tT,tT] 45)) (AR prog f30.results.toList K)))
def NY (x1 x5 x17 x18:AV)(H:AH)(K:KT):Prop:=jn (mk 346 0 [1,5,17,18]) (Am [tT,tT,fF,tT,fF,tT,tT,tT,tT,tT,fF,tT] 16) [x1,x5,x17,x18] H (AS 0 (AN (DJ (mk 346 0 []) (Am [tT,tT,tT] 45)) (AR prog f30.results.toList K)))
def Ki (H:AH)(K:KT):Prop:=jn (mk 346 0 []) (Am [tT,tT,tT] 45) [] H (AR prog f30.results.toList K)
def Oj (x1 x5:AV)(H:AH)(K:KT):Prop:=jn (mk 346 0 [1,5]) (Am [tT,tT,fF,tT,fF,tT,tT,tT,tT,tT,tT,tT,tT,tT,tT,tT,tT,tT,tT,tT,tT,tT,tT,tT,tT,tT,tT,tT,fF,tT] 36) [x1,x5] H (AS 0 (AN (DJ (mk 346 0 []) (Am [tT,tT,tT] 45)) (AR prog f30.results.toList K)))
def Om (x1 x5:AV)(H:AH)(K:KT):Prop:=jn (mk 346 0 [1,5]) (Am [tT,tT,fF,tT,fF,tT,tT,tT,tT,tT,tT,tT,tT,tT,tT,tT,tT,tT,tT,tT,tT,tT,tT,tT,tT,tT,tT,tT,tT,tT,fF,tT] 38) [x1,x5] H (AS 0 (AN (DJ (mk 346 0 []) (Am [tT,tT,tT] 45)) (AR prog f30.results.toList K)))
def Ov (x21 x22 x23 x24 x25 x26 x27 x28 x29 x30 x31 x32:AV)(H:AH)(K:KT):Prop:=jn (mk 346 0 [21,22,23,24,25,26,27,28,29,30,31,32]) (Am [tT,tT,fF,tT,fF,tT,tT,tT,tT,tT,tT,tT,tT,tT,tT,tT,tT,tT,tT,tT,tT,tT,tT,tT,tT,tT,tT,tT,tT,tT,tT,tT,tT,tT,tT,tT,tT] 44) [x21,x22,x23,x24,x25,x26,x27,x28,x29,x30,x31,x32] H (AS 0 (AN (DJ (mk 346 0 []) (Am [tT,tT,tT] 45)) (AR prog f30.results.toList K)))
def Ou (x1 x5 x21 x22 x23 x24 x25 x26 x27 x28 x29 x30:AV)(H:AH)(K:KT):Prop:=jn (mk 346 0 [1,5,21,22,23,24,25,26,27,28,29,30]) (Am [tT,tT,fF,tT,fF,tT,tT,tT,tT,tT,tT,tT,tT,tT,tT,tT,tT,tT,tT,tT,tT,tT,tT,tT,tT,tT,tT,tT,tT,tT,tT,tT,tT,tT,tT,tT] 43) [x1,x5,x21,x22,x23,x24,x25,x26,x27,x28,x29,x30] H (AS 0 (AN (DJ (mk 346 0 []) (Am [tT,tT,tT] 45)) (AR prog f30.results.toList K)))
def Ot (x0 x1 x5 x21 x22 x23 x24 x25 x26 x27 x28:AV)(H:AH)(K:KT):Prop:=jn (mk 346 0 [0,1,5,21,22,23,24,25,26,27,28]) (Am [tT,tT,fF,tT,fF,tT,tT,tT,tT,tT,tT,tT,tT,tT,tT,tT,tT,tT,tT,tT,tT,tT,tT,tT,tT,tT,tT,tT,tT,tT,tT,tT,tT,tT,tT] 42) [x0,x1,x5,x21,x22,x23,x24,x25,x26,x27,x28] H (AS 0 (AN (DJ (mk 346 0 []) (Am [tT,tT,tT] 45)) (AR prog f30.results.toList K)))
def Oq (x0 x1 x5 x21 x22 x23 x24 x25 x26:AV)(H:AH)(K:KT):Prop:=jn (mk 346 0 [0,1,5,21,22,23,24,25,26]) (Am [tT,tT,fF,tT,fF,tT,tT,tT,tT,tT,tT,tT,tT,tT,tT,tT,tT,tT,tT,tT,tT,tT,tT,tT,tT,tT,tT,tT,tT,tT,tT,tT,tT,tT] 41) [x0,x1,x5,x21,x22,x23,x24,x25,x26] H (AS 0 (AN (DJ (mk 346 0 []) (Am [tT,tT,tT] 45)) (AR prog f30.results.toList K)))
def Oo (x0 x1 x5 x21 x22 x23 x24:AV)(H:AH)(K:KT):Prop:=jn (mk 346 0 [0,1,5,21,22,23,24]) (Am [tT,tT,fF,tT,fF,tT,tT,tT,tT,tT,tT,tT,tT,tT,tT,tT,tT,tT,tT,tT,tT,tT,tT,tT,tT,tT,tT,tT,tT,tT,tT,tT,tT] 40) [x0,x1,x5,x21,x22,x23,x24] H (AS 0 (AN (DJ (mk 346 0 []) (Am [tT,tT,tT] 45)) (AR prog f30.results.toList K)))
def On (x0 x1 x5 x21 x22:AV)(H:AH)(K:KT):Prop:=jn (mk 346 0 [0,1,5,21,22]) (Am [tT,tT,fF,tT,fF,tT,tT,tT,tT,tT,tT,tT,tT,tT,tT,tT,tT,tT,tT,tT,tT,tT,tT,tT,tT,tT,tT,tT,tT,tT,tT,tT] 39) [x0,x1,x5,x21,x22] H (AS 0 (AN (DJ (mk 346 0 []) (Am [tT,tT,tT] 45)) (AR prog f30.results.toList K)))
def Ol (x0 x1 x5 x336:AV)(H:AH)(K:KT):Prop:=jn (mk 346 0 [0,1,5,336]) (Am [tT,tT,fF,tT,fF,tT,tT,tT,tT,tT,tT,tT,tT,tT,tT,tT,tT,tT,tT,tT,tT,tT,tT,tT,tT,tT,tT,tT,tT,tT] 37) [x0,x1,x5,x336] H (AS 0 (AN (DJ (mk 346 0 []) (Am [tT,tT,tT] 45)) (AR prog f30.results.toList K)))
def Oi (x0 x1 x5 x41 x326:AV)(H:AH)(K:KT):Prop:=jn (mk 346 0 [0,1,5,41,326]) (Am [tT,tT,fF,tT,fF,tT,tT,tT,tT,tT,tT,tT,tT,tT,tT,tT,tT,tT,tT,tT,tT,tT,tT,tT,tT,tT,tT,tT] 35) [x0,x1,x5,x41,x326] H (AS 0 (AN (DJ (mk 346 0 []) (Am [tT,tT,tT] 45)) (AR prog f30.results.toList K)))
def Oh (x0 x1 x5 x41 x313:AV)(H:AH)(K:KT):Prop:=jn (mk 346 0 [0,1,5,41,313]) (Am [tT,tT,fF,tT,fF,tT,tT,tT,tT,tT,tT,tT,tT,tT,tT,tT,tT,tT,tT,tT,tT,tT,tT,tT,tT,tT] 33) [x0,x1,x5,x41,x313] H (AS 0 (AN (DJ (mk 346 0 []) (Am [tT,tT,tT] 45)) (AR prog f30.results.toList K)))
def Og (x0 x1 x5 x41 x306:AV)(H:AH)(K:KT):Prop:=jn (mk 346 0 [0,1,5,41,306]) (Am [tT,tT,fF,tT,fF,tT,tT,tT,tT,tT,tT,tT,tT,tT,tT,tT,tT,tT,tT,tT,tT,tT,tT,tT] 31) [x0,x1,x5,x41,x306] H (AS 0 (AN (DJ (mk 346 0 []) (Am [tT,tT,tT] 45)) (AR prog f30.results.toList K)))
def Of (x0 x1 x5 x41 x295:AV)(H:AH)(K:KT):Prop:=jn (mk 346 0 [0,1,5,41,295]) (Am [tT,tT,fF,tT,fF,tT,tT,tT,tT,tT,tT,tT,tT,tT,tT,tT,tT,tT,tT,tT,tT,tT] 29) [x0,x1,x5,x41,x295] H (AS 0 (AN (DJ (mk 346 0 []) (Am [tT,tT,tT] 45)) (AR prog f30.results.toList K)))
def Oe (x0 x1 x5 x7 x41 x286:AV)(H:AH)(K:KT):Prop:=jn (mk 346 0 [0,1,5,7,41,286]) (Am [tT,tT,fF,tT,fF,tT,tT,tT,tT,tT,tT,tT,tT,tT,tT,tT,tT,tT,tT,tT] 27) [x0,x1,x5,x7,x41,x286] H (AS 0 (AN (DJ (mk 346 0 []) (Am [tT,tT,tT] 45)) (AR prog f30.results.toList K)))
def Od (x0 x1 x5 x7 x8 x41 x275:AV)(H:AH)(K:KT):Prop:=jn (mk 346 0 [0,1,5,7,8,41,275]) (Am [tT,tT,fF,tT,fF,tT,tT,tT,tT,tT,tT,tT,tT,tT,tT,tT,tT,tT] 25) [x0,x1,x5,x7,x8,x41,x275] H (AS 0 (AN (DJ (mk 346 0 []) (Am [tT,tT,tT] 45)) (AR prog f30.results.toList K)))
def Oc (x0 x1 x5 x7 x8 x41 x256:AV)(H:AH)(K:KT):Prop:=jn (mk 346 0 [0,1,5,7,8,41,256]) (Am [tT,tT,fF,tT,fF,tT,tT,tT,tT,tT,tT,tT,tT,tT,tT,tT] 23) [x0,x1,x5,x7,x8,x41,x256] H (AS 0 (AN (DJ (mk 346 0 []) (Am [tT,tT,tT] 45)) (AR prog f30.results.toList K)))
def Ob (x0 x1 x5 x7 x8 x41 x233:AV)(H:AH)(K:KT):Prop:=jn (mk 346 0 [0,1,5,7,8,41,233]) (Am [tT,tT,fF,tT,fF,tT,tT,tT,tT,tT,tT,tT,tT,tT] 21) [x0,x1,x5,x7,x8,x41,x233] H (AS 0 (AN (DJ (mk 346 0 []) (Am [tT,tT,tT] 45)) (AR prog f30.results.toList K)))
def Oa (x0 x1 x5 x7 x8 x41 x218:AV)(H:AH)(K:KT):Prop:=jn (mk 346 0 [0,1,5,7,8,41,218]) (Am [tT,tT,fF,tT,fF,tT,tT,tT,tT,tT,tT,tT] 19) [x0,x1,x5,x7,x8,x41,x218] H (AS 0 (AN (DJ (mk 346 0 []) (Am [tT,tT,tT] 45)) (AR prog f30.results.toList K)))
def NX (x0 x1 x5 x7 x8 x41 x184:AV)(H:AH)(K:KT):Prop:=jn (mk 346 0 [0,1,5,7,8,41,184]) (Am [tT,tT,fF,tT,fF,tT,tT,tT,tT,tT] 15) [x0,x1,x5,x7,x8,x41,x184] H (AS 0 (AN (DJ (mk 346 0 []) (Am [tT,tT,tT] 45)) (AR prog f30.results.toList K)))
def Kk (x0 x1 x5 x7 x8 x41 x151:AV)(H:AH)(K:KT):Prop:=jn (mk 346 0 [0,1,5,7,8,41,151]) (Am [tT,tT,fF,tT,fF,tT,tT,tT] 11) [x0,x1,x5,x7,x8,x41,x151] H (AS 0 (AN (DJ (mk 346 0 []) (Am [tT,tT,tT] 45)) (AR prog f30.results.toList K)))
def NU (x0 x1 x5 x7 x8 x41 x151:AV)(H:AH)(K:KT):Prop:=jn (mk 346 0 [0,1,5,7,8,41,151]) (Am [tT,tT,fF,tT,fF,tT,tT,fF,tT] 11) [x0,x1,x5,x7,x8,x41,x151] H (AN (DJ (mk 346 0 [0,1,5,7,8,41,151]) (Am [tT,tT,fF,tT,fF,tT,tT,tT] 11)) (AS 0 (AN (DJ (mk 346 0 []) (Am [tT,tT,tT] 45)) (AR prog f30.results.toList K))))
def Kj (x0 x1 x5 x7 x8 x41 x120:AV)(H:AH)(K:KT):Prop:=jn (mk 346 0 [0,1,5,7,8,41,120]) (Am [tT,tT,fF,tT,fF,tT] 6) [x0,x1,x5,x7,x8,x41,x120] H (AS 0 (AN (DJ (mk 346 0 []) (Am [tT,tT,tT] 45)) (AR prog f30.results.toList K)))
def Iz (x9 x10 x11 x12:AV)(H:AH)(K:KT):Prop:=
 bO (Ar .eql x9 x11) λv0=>
 bG v0 true λw1=>
 gO w1 (some x10) λv2=>
 bG v0 true λw3=>
 gO w3 (some x12) λv4=>
 bG v0 true λw5=>
 gO w5 (Ar .eql v2 v4) λv6=>
 bO (A0 v0 v6 (B false)) λv7=>
 K v7 H
theorem Mk (x9 x10 x11 x12:AV)(H:AH)(K:KT):P4 x9 x10 x11 x12 H K=Iz x9 x10 x11 x12 H K:=(B5 _ _ _ _ _).trans (by kernel_rfl)
def Iy (x1 x5 x7 x9 x10:AV)(H:AH)(K:KT):Prop:=
 bO (Ab 0 x5) λv0=>
 bO (Ap false 1 H v0) λv1=>
 bO (Ar .rem v1 (.lit (.int .u8 16))) λv2=>
 bO (Ar .eql v2 u0Z) λv3=>
 bC (BCall prog 14 [x1,x7,v3] H) λv4 H5=>
 bO (Ag v4 0) λv6=>
 bO (Ag v4 1) λv7=>
 P4 x9 x10 v6 v7 H5 K
theorem Mj (x1 x5 x7 x9 x10:AV)(H:AH)(K:KT):P3 x1 x5 x7 x9 x10 H K=Iy x1 x5 x7 x9 x10 H K:=(B5 _ _ _ _ _).trans (by kernel_rfl)
def Hh (x13 x14 x15 x16:AV)(H:AH)(K:KT):Prop:=
 bO (Ar .eql x13 x15) λv0=>
 bG v0 true λw1=>
 gO w1 (some x14) λv2=>
 bG v0 true λw3=>
 gO w3 (some x16) λv4=>
 bG v0 true λw5=>
 gO w5 (Ar .eql v2 v4) λv6=>
 bO (A0 v0 v6 (B false)) λv7=>
 K v7 H
theorem Lc (x13 x14 x15 x16:AV)(H:AH)(K:KT):NW x13 x14 x15 x16 H K=Hh x13 x14 x15 x16 H K:=(B5 _ _ _ _ _).trans (by kernel_rfl)
def Hg (x1 x5 x13 x14:AV)(H:AH)(K:KT):Prop:=
 bO (Ab 3 x5) λv0=>
 bO (Ap false 1 H v0) λv1=>
 bO (Ab 4 x5) λv2=>
 bO (Ap false 1 H v2) λv3=>
 bO (Ab 6 x5) λv4=>
 bO (Ap false 1 H v4) λv5=>
 bC (BCall prog 66 [x1,v1,v3,v5] H) λv6 H7=>
 bO (Ag v6 0) λv8=>
 bO (Ag v6 1) λv9=>
 NW x13 x14 v8 v9 H7 K
theorem Lb (x1 x5 x13 x14:AV)(H:AH)(K:KT):NV x1 x5 x13 x14 H K=Hg x1 x5 x13 x14 H K:=(B5 _ _ _ _ _).trans (by kernel_rfl)
def LZ (x17 x18 x19 x20:AV)(H:AH)(K:KT):Prop:=
 bO (xS H x17) λv0=>
 bO (xS H x19) λv1=>
 bO (XZ .eql v0 v1) λv2=>
 bG v2 true λw3=>
 gO w3 (some x18) λv4=>
 bG v2 true λw5=>
 gO w5 (some x20) λv6=>
 bG v2 true λw7=>
 gO w7 (Ar .eql v4 v6) λv8=>
 bO (A0 v2 v8 (B false)) λv9=>
 K v9 H
theorem ST (x17 x18 x19 x20:AV)(H:AH)(K:KT):NZ x17 x18 x19 x20 H K=LZ x17 x18 x19 x20 H K:=(B5 _ _ _ _ _).trans (by kernel_rfl)
def LY (x1 x5 x17 x18:AV)(H:AH)(K:KT):Prop:=
 bO (Ab 3 x5) λv0=>
 bO (Ap false 1 H v0) λv1=>
 bO (Ab 4 x5) λv2=>
 bO (Ap false 1 H v2) λv3=>
 bO (Ab 5 x5) λv4=>
 bO (Ap false 1 H v4) λv5=>
 bC (BCall prog 25 [x1,v1,v3,v5] H) λv6 H7=>
 bO (Ag v6 0) λv8=>
 bO (Ag v6 1) λv9=>
 NZ x17 x18 v8 v9 H7 K
theorem SS (x1 x5 x17 x18:AV)(H:AH)(K:KT):NY x1 x5 x17 x18 H K=LY x1 x5 x17 x18 H K:=(B5 _ _ _ _ _).trans (by kernel_rfl)
def Ix (H:AH)(K:KT):Prop:=
 K (B true) H
theorem Ma (H:AH)(K:KT):Ki H K=Ix H K:=(B5 _ _ _ _ _).trans (by kernel_rfl)
def Mb (x1 x5:AV)(H:AH)(K:KT):Prop:=
 bO (Ab 5 x5) λv0=>
 bO (Ap false 1 H v0) λv1=>
 bC (BCall prog 16 [x1,v1] H) λv2 H3=>
 Ki H3 K
theorem SU (x1 x5:AV)(H:AH)(K:KT):Oj x1 x5 H K=Mb x1 x5 H K:=(B5 _ _ _ _ _).trans (by kernel_rfl)
def Mc (x1 x5:AV)(H:AH)(K:KT):Prop:=
 bO (Ab 8 x5) λv0=>
 bO (Ap false 1 H v0) λv1=>
 bC (BCall prog 76 [x1,v1] H) λv2 H3=>
 Ki H3 K
theorem SX (x1 x5:AV)(H:AH)(K:KT):Om x1 x5 H K=Mc x1 x5 H K:=(B5 _ _ _ _ _).trans (by kernel_rfl)
def Mi (x21 x22 x23 x24 x25 x26 x27 x28 x29 x30 x31 x32:AV)(H:AH)(K:KT):Prop:=
 bO (Ar .eql x21 x23) λv0=>
 bG v0 true λw1=>
 gO w1 (some x22) λv2=>
 bG v0 true λw3=>
 gO w3 (some x24) λv4=>
 bG v0 true λw5=>
 gO w5 (Ar .eql v2 v4) λv6=>
 bO (A0 v0 v6 (B false)) λv7=>
 bG v7 true λw8=>
 gO w8 (some x25) λv9=>
 bG v7 true λw10=>
 gO w10 (some x27) λv11=>
 bG v7 true λw12=>
 gO w12 (Ar .eql v9 v11) λv13=>
 bO (A0 v7 v13 (B false)) λv14=>
 bG v14 true λw15=>
 gO w15 (some x26) λv16=>
 bG v14 true λw17=>
 gO w17 (some x28) λv18=>
 bG v14 true λw19=>
 gO w19 (Ar .eql v16 v18) λv20=>
 bO (A0 v14 v20 (B false)) λv21=>
 bG v21 true λw22=>
 gO w22 (some x29) λv23=>
 bG v21 true λw24=>
 gO w24 (some x31) λv25=>
 bG v21 true λw26=>
 gO w26 (Ar .eql v23 v25) λv27=>
 bO (A0 v21 v27 (B false)) λv28=>
 bG v28 true λw29=>
 gO w29 (some x30) λv30=>
 bG v28 true λw31=>
 gO w31 (some x32) λv32=>
 bG v28 true λw33=>
 gO w33 (Ar .eql v30 v32) λv34=>
 bO (A0 v28 v34 (B false)) λv35=>
 K v35 H
theorem Td (x21 x22 x23 x24 x25 x26 x27 x28 x29 x30 x31 x32:AV)(H:AH)(K:KT):Ov x21 x22 x23 x24 x25 x26 x27 x28 x29 x30 x31 x32 H K=Mi x21 x22 x23 x24 x25 x26 x27 x28 x29 x30 x31 x32 H K:=(B5 _ _ _ _ _).trans (by kernel_rfl)
def Mh (x1 x5 x21 x22 x23 x24 x25 x26 x27 x28 x29 x30:AV)(H:AH)(K:KT):Prop:=
 bO (Ab 3 x5) λv0=>
 bO (Ap false 1 H v0) λv1=>
 bO (Ab 4 x5) λv2=>
 bO (Ap false 1 H v2) λv3=>
 bC (BCall prog 81 [x1,v1,v3] H) λv4 H5=>
 bO (Ag v4 0) λv6=>
 bO (Ag v4 1) λv7=>
 Ov x21 x22 x23 x24 x25 x26 x27 x28 x29 x30 v6 v7 H5 K
theorem Tc (x1 x5 x21 x22 x23 x24 x25 x26 x27 x28 x29 x30:AV)(H:AH)(K:KT):Ou x1 x5 x21 x22 x23 x24 x25 x26 x27 x28 x29 x30 H K=Mh x1 x5 x21 x22 x23 x24 x25 x26 x27 x28 x29 x30 H K:=(B5 _ _ _ _ _).trans (by kernel_rfl)
def Mg (x0 x1 x5 x21 x22 x23 x24 x25 x26 x27 x28:AV)(H:AH)(K:KT):Prop:=
 bO (Ab 3 x5) λv0=>
 bO (Ap false 1 H v0) λv1=>
 bO (Ab 4 x5) λv2=>
 bO (Ap false 1 H v2) λv3=>
 bC (BCall prog 80 [x0,v1,v3] H) λv4 H5=>
 bO (Ag v4 0) λv6=>
 bO (Ag v4 1) λv7=>
 Ou x1 x5 x21 x22 x23 x24 x25 x26 x27 x28 v6 v7 H5 K
theorem Tb (x0 x1 x5 x21 x22 x23 x24 x25 x26 x27 x28:AV)(H:AH)(K:KT):Ot x0 x1 x5 x21 x22 x23 x24 x25 x26 x27 x28 H K=Mg x0 x1 x5 x21 x22 x23 x24 x25 x26 x27 x28 H K:=(B5 _ _ _ _ _).trans (by kernel_rfl)
def Mf (x0 x1 x5 x21 x22 x23 x24 x25 x26:AV)(H:AH)(K:KT):Prop:=
 bO (Ab 3 x5) λv0=>
 bO (Ap false 1 H v0) λv1=>
 bO (Ab 4 x5) λv2=>
 bO (Ap false 1 H v2) λv3=>
 bC (BCall prog 79 [x1,v1,v3] H) λv4 H5=>
 bO (Ag v4 0) λv6=>
 bO (Ag v4 1) λv7=>
 Ot x0 x1 x5 x21 x22 x23 x24 x25 x26 v6 v7 H5 K
theorem Ta (x0 x1 x5 x21 x22 x23 x24 x25 x26:AV)(H:AH)(K:KT):Oq x0 x1 x5 x21 x22 x23 x24 x25 x26 H K=Mf x0 x1 x5 x21 x22 x23 x24 x25 x26 H K:=(B5 _ _ _ _ _).trans (by kernel_rfl)
def Me (x0 x1 x5 x21 x22 x23 x24:AV)(H:AH)(K:KT):Prop:=
 bO (Ab 3 x5) λv0=>
 bO (Ap false 1 H v0) λv1=>
 bO (Ab 4 x5) λv2=>
 bO (Ap false 1 H v2) λv3=>
 bC (BCall prog 78 [x0,v1,v3] H) λv4 H5=>
 bO (Ag v4 0) λv6=>
 bO (Ag v4 1) λv7=>
 Oq x0 x1 x5 x21 x22 x23 x24 v6 v7 H5 K
theorem SZ (x0 x1 x5 x21 x22 x23 x24:AV)(H:AH)(K:KT):Oo x0 x1 x5 x21 x22 x23 x24 H K=Me x0 x1 x5 x21 x22 x23 x24 H K:=(B5 _ _ _ _ _).trans (by kernel_rfl)
def Md (x0 x1 x5 x21 x22:AV)(H:AH)(K:KT):Prop:=
 bO (Ab 3 x5) λv0=>
 bO (Ap false 1 H v0) λv1=>
 bC (BCall prog 77 [x1,v1] H) λv2 H3=>
 bO (Ag v2 0) λv4=>
 bO (Ag v2 1) λv5=>
 Oo x0 x1 x5 x21 x22 v4 v5 H3 K
theorem SY (x0 x1 x5 x21 x22:AV)(H:AH)(K:KT):On x0 x1 x5 x21 x22 H K=Md x0 x1 x5 x21 x22 H K:=(B5 _ _ _ _ _).trans (by kernel_rfl)
def Hi (x0 x1 x5 x336:AV)(H:AH)(K:KT):Prop:=
 bB x336 λt0=>bI t0 (
 bO (Ab 8 x5) λv1=>
 bO (Ap false 1 H v1) λv2=>
 bC (BCall prog 40 [x0,v2] H) λv3 H4=>
 Om x1 x5 H4 K)
 (bO (Ab 3 x5) λv5=>
 bO (Ap false 1 H v5) λv6=>
 bC (BCall prog 46 [x0,v6] H) λv7 H8=>
 bO (Ag v7 0) λv9=>
 bO (Ag v7 1) λv10=>
 On x0 x1 x5 v9 v10 H8 K)
theorem Ld (x0 x1 x5 x336:AV)(H:AH)(K:KT):Ol x0 x1 x5 x336 H K=Hi x0 x1 x5 x336 H K:=(B5 _ _ _ _ _).trans (by kernel_rfl)
def EQ (x0 x1 x5 x41 x326:AV)(H:AH)(K:KT):Prop:=
 bB x326 λt0=>bI t0 (
 bO (Ab 5 x5) λv1=>
 bO (Ap false 1 H v1) λv2=>
 bC (BCall prog 15 [x0,v2] H) λv3 H4=>
 Oj x1 x5 H4 K)
 (bO (Ar .eql x41 (.lit (.int .u8 14))) λv5=>
 Ol x0 x1 x5 v5 H K)
theorem G7 (x0 x1 x5 x41 x326:AV)(H:AH)(K:KT):Oi x0 x1 x5 x41 x326 H K=EQ x0 x1 x5 x41 x326 H K:=(B5 _ _ _ _ _).trans (by kernel_rfl)
def DQ (x0 x1 x5 x41 x313:AV)(H:AH)(K:KT):Prop:=
 bB x313 λt0=>bI t0 (
 bO (Ab 3 x5) λv1=>
 bO (Ap false 1 H v1) λv2=>
 bO (Qo 1 1 (B4 [(I 0)] 1) [(0,1,v2)]) λv3=>
 bC (BCall prog 39 [x0,v3] H) λv4 H5=>
 bO (Ab 3 x5) λv6=>
 bO (Ap false 1 H5 v6) λv7=>
 bO (Qo 1 1 (B4 [(I 0)] 1) [(0,1,v7)]) λv8=>
 bC (BCall prog 75 [x1,v8] H5) λv9 H10=>
 bO (Ar .eql v4 v9) λv11=>
(Ap false 1 H v6=some v7)∧
 K v11 H10)
 (bO (Ar .eql x41 (.lit (.int .u8 13))) λv12=>
 Oi x0 x1 x5 x41 v12 H K)
theorem E8 (x0 x1 x5 x41 x313:AV)(H:AH)(K:KT):Oh x0 x1 x5 x41 x313 H K=DQ x0 x1 x5 x41 x313 H K:=(B5 _ _ _ _ _).trans (by kernel_rfl)
def Di (x0 x1 x5 x41 x306:AV)(H:AH)(K:KT):Prop:=
 bB x306 λt0=>bI t0 (
 bC (BCall prog 39 [x0,Ad] H) λv1 H2=>
 bC (BCall prog 75 [x1,Ad] H2) λv3 H4=>
 bO (Ar .eql v1 v3) λv5=>
 K v5 H4)
 (bO (Ar .eql x41 (.lit (.int .u8 12))) λv6=>
 Oh x0 x1 x5 x41 v6 H K)
theorem DB (x0 x1 x5 x41 x306:AV)(H:AH)(K:KT):Og x0 x1 x5 x41 x306 H K=Di x0 x1 x5 x41 x306 H K:=(B5 _ _ _ _ _).trans (by kernel_rfl)
def C6 (x0 x1 x5 x41 x295:AV)(H:AH)(K:KT):Prop:=
 bB x295 λt0=>bI t0 (
 bO (Ab 9 x5) λv1=>
 bO (Ap false 1 H v1) λv2=>
 bC (BCall prog 39 [x0,v2] H) λv3 H4=>
 bO (Ab 9 x5) λv5=>
 bO (Ap false 1 H4 v5) λv6=>
 bC (BCall prog 75 [x1,v6] H4) λv7 H8=>
 bO (Ar .eql v3 v7) λv9=>
(Ap false 1 H v5=some v6)∧
 K v9 H8)
 (bO (Ar .eql x41 (.lit (.int .u8 11))) λv10=>
 Og x0 x1 x5 x41 v10 H K)
theorem CQ (x0 x1 x5 x41 x295:AV)(H:AH)(K:KT):Of x0 x1 x5 x41 x295 H K=C6 x0 x1 x5 x41 x295 H K:=(B5 _ _ _ _ _).trans (by kernel_rfl)
def BZ (x0 x1 x5 x7 x41 x286:AV)(H:AH)(K:KT):Prop:=
 bB x286 λt0=>bI t0 (
 bC (BCall prog 47 [x0,x7] H) λv1 H2=>
 bC (BCall prog 74 [x1,x7] H2) λv3 H4=>
 bO (Ar .eql v1 v3) λv5=>
 K v5 H4)
 (bO (Ar .eql x41 (.lit (.int .u8 10))) λv6=>
 Of x0 x1 x5 x41 v6 H K)
theorem Cr (x0 x1 x5 x7 x41 x286:AV)(H:AH)(K:KT):Oe x0 x1 x5 x7 x41 x286 H K=BZ x0 x1 x5 x7 x41 x286 H K:=(B5 _ _ _ _ _).trans (by kernel_rfl)
def BM (x0 x1 x5 x7 x8 x41 x275:AV)(H:AH)(K:KT):Prop:=
 bB x275 λt0=>bI t0 (
 bC (BCall prog 48 [x0,x7,x8] H) λv1 H2=>
 bC (BCall prog 73 [x1,x7,x8] H2) λv3 H4=>
 bO (Ar .eql v1 v3) λv5=>
 K v5 H4)
 (bO (Ar .eql x41 (.lit (.int .u8 9))) λv6=>
 Oe x0 x1 x5 x7 x41 v6 H K)
theorem BO (x0 x1 x5 x7 x8 x41 x275:AV)(H:AH)(K:KT):Od x0 x1 x5 x7 x8 x41 x275 H K=BM x0 x1 x5 x7 x8 x41 x275 H K:=(B5 _ _ _ _ _).trans (by kernel_rfl)
def BB (x0 x1 x5 x7 x8 x41 x256:AV)(H:AH)(K:KT):Prop:=
 bB x256 λt0=>bI t0 (
 bO (Ab 3 x5) λv1=>
 bO (Ap false 1 H v1) λv2=>
 bO (Ab 4 x5) λv3=>
 bO (Ap false 1 H v3) λv4=>
 bO (Ab 5 x5) λv5=>
 bO (Ap false 1 H v5) λv6=>
 bC (BCall prog 51 [x0,v2,v4,v6] H) λv7 H8=>
 bO (Ab 3 x5) λv9=>
 bO (Ap false 1 H8 v9) λv10=>
 bO (Ab 4 x5) λv11=>
 bO (Ap false 1 H8 v11) λv12=>
 bO (Ab 5 x5) λv13=>
 bO (Ap false 1 H8 v13) λv14=>
 bC (BCall prog 72 [x1,v10,v12,v14] H8) λv15 H16=>
 bO (Ar .eql v7 v15) λv17=>
(Ap false 1 H v9=some v10)∧
(Ap false 1 H v11=some v12)∧
(Ap false 1 H v13=some v14)∧
 K v17 H16)
 (bO (Ar .eql x41 (.lit (.int .u8 8))) λv18=>
 Od x0 x1 x5 x7 x8 x41 v18 H K)
theorem BF (x0 x1 x5 x7 x8 x41 x256:AV)(H:AH)(K:KT):Oc x0 x1 x5 x7 x8 x41 x256 H K=BB x0 x1 x5 x7 x8 x41 x256 H K:=(B5 _ _ _ _ _).trans (by kernel_rfl)
def B1 (x0 x1 x5 x7 x8 x41 x233:AV)(H:AH)(K:KT):Prop:=
 bB x233 λt0=>bI t0 (
 bO (Ab 3 x5) λv1=>
 bO (Ap false 1 H v1) λv2=>
 bO (Ab 4 x5) λv3=>
 bO (Ap false 1 H v3) λv4=>
 bO (Ab 5 x5) λv5=>
 bO (Ap false 1 H v5) λv6=>
 bO (Ab 7 x5) λv7=>
 bO (Ap false 1 H v7) λv8=>
 bC (BCall prog 50 [x0,v2,v4,v6,v8] H) λv9 H10=>
 bO (Ab 3 x5) λv11=>
 bO (Ap false 1 H10 v11) λv12=>
 bO (Ab 4 x5) λv13=>
 bO (Ap false 1 H10 v13) λv14=>
 bO (Ab 5 x5) λv15=>
 bO (Ap false 1 H10 v15) λv16=>
 bO (Ab 7 x5) λv17=>
 bO (Ap false 1 H10 v17) λv18=>
 bC (BCall prog 71 [x1,v12,v14,v16,v18] H10) λv19 H20=>
 bO (Ar .eql v9 v19) λv21=>
(Ap false 1 H v11=some v12)∧
(Ap false 1 H v13=some v14)∧
(Ap false 1 H v15=some v16)∧
(Ap false 1 H v17=some v18)∧
 K v21 H20)
 (bO (Ar .eql x41 (.lit (.int .u8 7))) λv22=>
 Oc x0 x1 x5 x7 x8 x41 v22 H K)
theorem B3 (x0 x1 x5 x7 x8 x41 x233:AV)(H:AH)(K:KT):Ob x0 x1 x5 x7 x8 x41 x233 H K=B1 x0 x1 x5 x7 x8 x41 x233 H K:=(B5 _ _ _ _ _).trans (by kernel_rfl)
def Bv (x0 x1 x5 x7 x8 x41 x218:AV)(H:AH)(K:KT):Prop:=
 bB x218 λt0=>bI t0 (
 bO (Ab 3 x5) λv1=>
 bO (Ap false 1 H v1) λv2=>
 bO (Ab 5 x5) λv3=>
 bO (Ap false 1 H v3) λv4=>
 bC (BCall prog 49 [x0,v2,v4] H) λv5 H6=>
 bO (Ab 3 x5) λv7=>
 bO (Ap false 1 H6 v7) λv8=>
 bO (Ab 5 x5) λv9=>
 bO (Ap false 1 H6 v9) λv10=>
 bC (BCall prog 70 [x1,v8,v10] H6) λv11 H12=>
 bO (Ar .eql v5 v11) λv13=>
(Ap false 1 H v7=some v8)∧
(Ap false 1 H v9=some v10)∧
 K v13 H12)
 (bO (Ar .eql x41 (.lit (.int .u8 6))) λv14=>
 Ob x0 x1 x5 x7 x8 x41 v14 H K)
theorem Bw (x0 x1 x5 x7 x8 x41 x218:AV)(H:AH)(K:KT):Oa x0 x1 x5 x7 x8 x41 x218 H K=Bv x0 x1 x5 x7 x8 x41 x218 H K:=(B5 _ _ _ _ _).trans (by kernel_rfl)
def Bl (x0 x1 x5 x7 x8 x41 x184:AV)(H:AH)(K:KT):Prop:=
 bB x184 λt0=>bI t0 (
 bO (Ab 3 x5) λv1=>
 bO (Ap false 1 H v1) λv2=>
 bO (Ab 4 x5) λv3=>
 bO (Ap false 1 H v3) λv4=>
 bO (Ab 5 x5) λv5=>
 bO (Ap false 1 H v5) λv6=>
 bC (BCall prog 45 [x0,v2,v4,v6] H) λv7 H8=>
 bO (Ag v7 0) λv9=>
 bO (Ag v7 1) λv10=>
 NY x1 x5 v9 v10 H8 K)
 (bO (Ar .eql x41 (.lit (.int .u8 5))) λv11=>
 Oa x0 x1 x5 x7 x8 x41 v11 H K)
theorem Bp (x0 x1 x5 x7 x8 x41 x184:AV)(H:AH)(K:KT):NX x0 x1 x5 x7 x8 x41 x184 H K=Bl x0 x1 x5 x7 x8 x41 x184 H K:=(B5 _ _ _ _ _).trans (by kernel_rfl)
def Bg (x0 x1 x5 x7 x8 x41 x151:AV)(H:AH)(K:KT):Prop:=
 bB x151 λt0=>bI t0 (
 bO (Ab 3 x5) λv1=>
 bO (Ap false 1 H v1) λv2=>
 bO (Ab 4 x5) λv3=>
 bO (Ap false 1 H v3) λv4=>
 bO (Ab 6 x5) λv5=>
 bO (Ap false 1 H v5) λv6=>
 bC (BCall prog 34 [x0,v2,v4,v6] H) λv7 H8=>
 bO (Ag v7 0) λv9=>
 bO (Ag v7 1) λv10=>
 NV x1 x5 v9 v10 H8 K)
 (bO (Ar .eql x41 (.lit (.int .u8 4))) λv11=>
 NX x0 x1 x5 x7 x8 x41 v11 H K)
theorem Bh (x0 x1 x5 x7 x8 x41 x151:AV)(H:AH)(K:KT):Kk x0 x1 x5 x7 x8 x41 x151 H K=Bg x0 x1 x5 x7 x8 x41 x151 H K:=(B5 _ _ _ _ _).trans (by kernel_rfl)
def Ba (x0 x1 x5 x7 x8 x41 x151:AV)(H:AH)(K:KT):Prop:=
 bB x151 λt0=>bI t0 (
 Kk x0 x1 x5 x7 x8 x41 x151 H K)
 (bO (Ar .eql x41 (.lit (.int .u8 3))) λv1=>
 Kk x0 x1 x5 x7 x8 x41 v1 H K)
theorem Bc (x0 x1 x5 x7 x8 x41 x151:AV)(H:AH)(K:KT):NU x0 x1 x5 x7 x8 x41 x151 H K=Ba x0 x1 x5 x7 x8 x41 x151 H K:=(B5 _ _ _ _ _).trans (by kernel_rfl)
def AW (x0 x1 x5 x7 x8 x41 x120:AV)(H:AH)(K:KT):Prop:=
 bB x120 λt0=>bI t0 (
 bO (Ab 0 x5) λv1=>
 bO (Ap false 1 H v1) λv2=>
 bO (Ar .rem v2 (.lit (.int .u8 16))) λv3=>
 bO (Ar .eql v3 u0Z) λv4=>
 bC (BCall prog 13 [x0,x7,v4] H) λv5 H6=>
 bO (Ag v5 0) λv7=>
 bO (Ag v5 1) λv8=>
 P3 x1 x5 x7 v7 v8 H6 K)
 (bO (Ar .eql x41 (.lit (.int .u8 2))) λv9=>
 NU x0 x1 x5 x7 x8 x41 v9 H K)
theorem AX (x0 x1 x5 x7 x8 x41 x120:AV)(H:AH)(K:KT):Kj x0 x1 x5 x7 x8 x41 x120 H K=AW x0 x1 x5 x7 x8 x41 x120 H K:=(B5 _ _ _ _ _).trans (by kernel_rfl)
def Us (a0 a1 a2:AV)(H:AH)(K:KT):Prop:=
 bH (AC H a2) λv0 H1=>
 bO (Ab 1 v0) λv2=>
 bO (Ap false 1 H1 v2) λv3=>
 bP (BPure prog 38 [v3]) λv4=>
 bO (Ab 2 v0) λv5=>
 bO (Ap false 1 H1 v5) λv6=>
 bP (BPure prog 38 [v6]) λv7=>
 bO (Ab 0 v0) λv8=>
 bO (Ap false 1 H1 v8) λv9=>
 bO (Ar .rem v9 (.lit (.int .u8 16))) λv10=>
 bO (Ar .eql v10 u0Z) λv11=>
 bB v11 λt12=>bI t12 (
 Kj a0 a1 v0 v4 v7 v10 v11 H1 K)
 (bO (Ar .eql v10 (.lit (.int .u8 1))) λv13=>
 Kj a0 a1 v0 v4 v7 v10 v13 H1 K)
theorem XH {a0 a1 a2:AV}{H:AH}{K:KT}(h:Us a0 a1 a2 H K):Ch 30 [a0,a1,a2] H K:=
 fok P5 SR P6 func30 h
def Uq:CJ:=LT [(1,[(5,none),(13,some 1),(22,some 9),(23,some 9),(39,some 30)])]
def P2 (a0 a1:AV)(H:AH)(K:KT):Prop:=
 bC (BCall prog 21 [a0] H) λv0 H1=>
 bO (Af a1) λv2=>
 bO (Ab 0 v2) λv3=>
 bO (Ap true 2 H1 v3) λv4=>
 bP (BPure prog 20 [v0,v4]) λv5=>
 bG v5 true λw6=>
 gO w6 (some a0) λv7=>
 bG v5 true λw8=>
 gC w8 (BCall prog 42 [v7] H1) H1 λv9 H10=>
 bG v5 true λw11=>
 gO w11 (some a1) λv12=>
 bG v5 true λw13=>
 gO w13 (Af v12) λv14=>
 bG v5 true λw15=>
 gO w15 (Ab 2 v14) λv16=>
 bG v5 true λw17=>
 gO w17 (Ap true 2 H10 v16) λv18=>
 bG v5 true λw19=>
 gP w19 (BPure prog 20 [v9,v18]) λv20=>
 bO (A0 v5 v20 (B false)) λv21=>
 bG v21 true λw22=>
 gO w22 (some a0) λv23=>
 bG v21 true λw24=>
 gC w24 (BCall prog 43 [v23] H10) H10 λv25 H26=>
 bG v21 true λw27=>
 gO w27 (some a1) λv28=>
 bG v21 true λw29=>
 gO w29 (Af v28) λv30=>
 bG v21 true λw31=>
 gO w31 (Ab 4 v30) λv32=>
 bG v21 true λw33=>
 gO w33 (Ap false 1 H26 v32) λv34=>
 bG v21 true λw35=>
 gO w35 (AL v34) λv36=>
 bG v21 true λw37=>
 gO w37 (Ar .eql v25 v36) λv38=>
 bO (A0 v21 v38 (B false)) λv39=>
 bG v39 true λw40=>
 gO w40 (some a0) λv41=>
 bG v39 true λw42=>
 gC w42 (BCall prog 32 [v41] H26) H26 λv43 H44=>
 bG v39 true λw45=>
 gO w45 (some a1) λv46=>
 bG v39 true λw47=>
 gC w47 (BCall prog 110 [v46] H44) H44 λv48 H49=>
 bG v39 true λw50=>
 gO w50 (Ar .eql v43 v48) λv51=>
 bO (A0 v39 v51 (B false)) λv52=>
 bG v52 true λw53=>
 gO w53 (some a0) λv54=>
 bG v52 true λw55=>
 gC w55 (BCall prog 27 [v54] H49) H49 λv56 H57=>
 bG v52 true λw58=>
 gO w58 (some a1) λv59=>
 bG v52 true λw60=>
 gO w60 (Af v59) λv61=>
 bG v52 true λw62=>
 gO w62 (Ab 8 v61) λv63=>
 bG v52 true λw64=>
 gO w64 (Ap false 1 H57 v63) λv65=>
 bG v52 true λw66=>
 gO w66 (zdlnZ .eql v56 v65) λv67=>
 bO (A0 v52 v67 (B false)) λv68=>
(Ap true 2 H v3=some v4)∧
(bG v5 true λw=>bI w (Ap true 2 H1 v16=some v18) True)∧
(bG v21 true λw=>bI w (Ap false 1 H10 v32=some v34) True)∧
(bG v21 true λw=>bI w (AL v34=some v36) True)∧
(bG v52 true λw=>bI w (Ap false 1 H49 v63=some v65) True)∧
 K v68 H57
theorem Ur {a0 a1:AV}{H:AH}{K:KT}(h:P2 a0 a1 H K):Ch 55 [a0,a1] H K:=
 fok Uq SR BA func55 h
def IA:CJ:=LT [(18,[(14,none),(17,none)])]
def IB:Nat→Option (List Bool):=Cd [(100018,mk 136 0 [2,3,11,12,14,15,16]),(30,mk 136 0 [2,3,11,12,14,17]),(27,mk 136 0 [2,3,11,12,14,108]),(20,mk 136 0 [2,3,11,12,14]),(10,mk 136 0 [1,2,3,4,11,12,13])]
def IC:Nat→Bool:=kG [18]
def AA (p:List Bool)(n:Nat):List AV→AH→Kf→Prop:=AJ prog IA SR zdohZ IC IB (sub p (AG f9)) n
def Ib (R20:RT)(x2 x3 x11 x12 x14 x17:AV)(H:AH)(K:KT):Prop:=lp (mk 136 0 [2,3,11,12,14,17]) (AA [tT,tT,tT,tT,tT,tT,tT,fF,tT,fF,fF,tT,fF,fF,tT,tT,tT,tT,fF,fF] 31) [x2,x3,x11,x12,x14,x17] H (AS 4 (AS 3 (AN (AA [tT,tT,tT,tT,tT,tT,tT,fF,tT,fF,fF,tT,tT] 38) (PP (mk 136 0 [2,3,11,12,14]) R20 (AS 2 (AN (AA [tT,tT,tT,tT,tT,tT,tT,tT] 38) (AR prog f9.results.toList K)))))))
def D5 (R20:RT)(x2 x3 x11 x12 x14 x108:AV)(H:AH)(K:KT):Prop:=jn (mk 136 0 [2,3,11,12,14,108]) (AA [tT,tT,tT,tT,tT,tT,tT,fF,tT,fF,fF,tT,fF,fF,tT,tT,fF,tT] 28) [x2,x3,x11,x12,x14,x108] H (AN (AA [tT,tT,tT,tT,tT,tT,tT,fF,tT,fF,fF,tT,fF,fF,tT,tT,tT] 29) (AS 3 (AN (AA [tT,tT,tT,tT,tT,tT,tT,fF,tT,fF,fF,tT,tT] 38) (PP (mk 136 0 [2,3,11,12,14]) R20 (AS 2 (AN (AA [tT,tT,tT,tT,tT,tT,tT,tT] 38) (AR prog f9.results.toList K)))))))
def D6 (R20:RT)(x2 x3 x11 x12 x14 x15 x16:AV)(H:AH)(K:KT):Prop:=unR prog 18 (X3 (sub [tT,tT,tT,tT,tT,tT,tT,fF,tT,fF,fF,tT,fF,fF,tT,tT,fF,fF] (AG f9))) (Bt (mk 136 0 [2,3,11,12,14,15,16]) [x2,x3,x11,x12,x14,x15,x16]) H (AN (DJ (mk 136 0 [2,3,11,12,14,108]) (AA [tT,tT,tT,tT,tT,tT,tT,fF,tT,fF,fF,tT,fF,fF,tT,tT,fF,tT] 28)) (AN (AA [tT,tT,tT,tT,tT,tT,tT,fF,tT,fF,fF,tT,fF,fF,tT,tT,tT] 29) (AS 3 (AN (AA [tT,tT,tT,tT,tT,tT,tT,fF,tT,fF,fF,tT,tT] 38) (PP (mk 136 0 [2,3,11,12,14]) R20 (AS 2 (AN (AA [tT,tT,tT,tT,tT,tT,tT,tT] 38) (AR prog f9.results.toList K))))))))
def Ia (x2 x3 x11 x12 x14:AV)(H:AH)(K:KT):Prop:=lp (mk 136 0 [2,3,11,12,14]) (AA [tT,tT,tT,tT,tT,tT,tT,fF,tT,fF,fF] 21) [x2,x3,x11,x12,x14] H (AS 2 (AN (AA [tT,tT,tT,tT,tT,tT,tT,tT] 38) (AR prog f9.results.toList K)))
def HZ (x1 x2 x3 x4 x11 x12 x13:AV)(H:AH)(K:KT):Prop:=lp (mk 136 0 [1,2,3,4,11,12,13]) (AA [tT,tT,tT,tT,fF,tT,fF,fF] 11) [x1,x2,x3,x4,x11,x12,x13] H (AS 0 (AN (AA [tT,tT,tT,tT,tT] 16) (AR prog f9.results.toList K)))
def GF (R20:RT)(R30:RT)(x2 x3 x11 x12 x14 x17:AV)(H:AH)(K:KT):Prop:=
 bO (Ar .lss x17 (I 5)) λv0=>
 bB v0 λt1=>bI t1 (
 bC (BCall prog 56 [x11,x17] H) λv2 H3=>
 bO (Ag v2 0) λv4=>
 bO (Ag v2 1) λv5=>
 bC (BCall prog 57 [x12,x17] H3) λv6 H7=>
 bO (Ag v6 0) λv8=>
 bO (Ag v6 1) λv9=>
 bO (xS H7 v4) λv10=>
 bO (xS H7 v8) λv11=>
 bO (XZ .neq v10 v11) λv12=>
 bG v12 false λw13=>
 gO w13 (some v5) λv14=>
 bG v12 false λw15=>
 gO w15 (some v9) λv16=>
 bG v12 false λw17=>
 gO w17 (Ar .neq v14 v16) λv18=>
 bO (A0 v12 (B true) v18) λv19=>
 bB v19 λt20=>bI t20 (
 K (B false) H7)
 (bO (Ar .add x17 (I 1)) λv21=>
 R30 [x2,x3,x11,x12,x14,v21] H7))
 (bO (Ar .add x14 (I 1)) λv22=>
 R20 [x2,x3,x11,x12,v22] H)
theorem L5 (R20:RT){K:KT}:vA (λR x2 x3 x11 x12 x14 x17 H=>GF R20 R x2 x3 x11 x12 x14 x17 H K) (λx2 x3 x11 x12 x14 x17 H=>Ib R20 x2 x3 x11 x12 x14 x17 H K):=zdpwZ (Dv _ _) (λ_ _ _ _ _ _ _ _=>by kernel_rfl)
def GC (R20:RT)(x2 x3 x11 x12 x14 x108:AV)(H:AH)(K:KT):Prop:=
 bB x108 λt0=>bI t0 (
 K (B false) H)
 (Ib R20 x2 x3 x11 x12 x14 (I 0) H K)
theorem MA (R20:RT)(x2 x3 x11 x12 x14 x108:AV)(H:AH)(K:KT):D5 R20 x2 x3 x11 x12 x14 x108 H K=GC R20 x2 x3 x11 x12 x14 x108 H K:=(B5 _ _ _ _ _).trans (by kernel_rfl)
def GE (R20:RT)(x2 x3 x11 x12 x14:AV)(H:AH)(K:KT):Prop:=
 bO (AL x2) λv0=>
 bO (Ar .lss x14 v0) λv1=>
 bB v1 λt2=>bI t2 (
 bO (Bo 1 x2 x14) λv3=>
 bO (Ap false 1 H v3) λv4=>
 bP (PCall prog 38 [v4] H) λv5=>
 bO (Bo 1 x2 x14) λv6=>
 bO (Ap false 1 H v6) λv7=>
 bO (vI .i64 v7) λv8=>
 bO (AL x3) λv9=>
 bO (Ar .add v9 (I 1)) λv10=>
 bO (Ar .rem v8 v10) λv11=>
 D6 R20 x2 x3 x11 x12 x14 v5 v11 H K)
 (bP (PCall prog 52 [] H) λv12=>
 K v12 H)
theorem L4 {K:KT}:pV (λR x2 x3 x11 x12 x14 H=>GE R x2 x3 x11 x12 x14 H K) (λx2 x3 x11 x12 x14 H=>Ia x2 x3 x11 x12 x14 H K):=zdnvZ (Dv _ _) (λ_ _ _ _ _ _ _=>by kernel_rfl)
def GD (R10:RT)(x1 x2 x3 x4 x11 x12 x13:AV)(H:AH)(K:KT):Prop:=
 bO (AL x4) λv0=>
 bO (Ar .lss x13 v0) λv1=>
 bB v1 λt2=>bI t2 (
 bO (Bo 10 x4 x13) λv3=>
 bO (Ap true 10 H v3) λv4=>
 bC (BCall prog 30 [x11,x12,v4] H) λv5 H6=>
 bO (Em .not v5) λv7=>
 bB v7 λt8=>bI t8 (
 K (B false) H6)
 (bO (Ar .add x13 (I 1)) λv9=>
 R10 [x1,x2,x3,x4,x11,x12,v9] H6))
 (bC (BCall prog 15 [x11,x1] H) λv10 H11=>
 bC (BCall prog 16 [x12,x1] H11) λv12 H13=>
 Ia x2 x3 x11 x12 (I 0) H13 K)
theorem L3 {K:KT}:zdiqZ (λR x1 x2 x3 x4 x11 x12 x13 H=>GD R x1 x2 x3 x4 x11 x12 x13 H K) (λx1 x2 x3 x4 x11 x12 x13 H=>HZ x1 x2 x3 x4 x11 x12 x13 H K):=zdnwZ (Dv _ _) (λ_ _ _ _ _ _ _ _ _=>by kernel_rfl)
def G8 (a0 a1 a2 a3 a4:AV)(H:AH)(K:KT):Prop:=
 bO (AL a2) λv0=>
 bO (Ar .gtr v0 (I 20)) λv1=>
 bG v1 false λw2=>
 gO w2 (some a3) λv3=>
 bG v1 false λw4=>
 gO w4 (AL v3) λv5=>
 bG v1 false λw6=>
 gO w6 (Ar .gtr v5 (I 150)) λv7=>
 bO (A0 v1 (B true) v7) λv8=>
 bG v8 false λw9=>
 gO w9 (some a4) λv10=>
 bG v8 false λw11=>
 gP w11 (PCall prog 28 [v10,(I 20)] H) λv12=>
 bG v8 false λw13=>
 gO w13 (Em .not v12) λv14=>
 bO (A0 v8 (B true) v14) λv15=>
 bB v15 λt16=>bI t16 (
 bP (PCall prog 52 [] H) λv17=>
 K v17 H)
 (bC (BCall prog 11 [a0] H) λv18 H19=>
 bC (BCall prog 12 [a0] H19) λv20 H21=>
 bO (ZQ .eql Y7 v18 (.lit (.pointer none))) λv22=>
 bB v22 λt23=>bI t23 (
 K (B false) H21)
 (HZ a1 a2 a3 a4 v18 v20 (I 0) H21 K))
theorem PW (a0 a1 a2 a3 a4:AV)(H:AH)(K:KT):UY prog IA SR zdohZ IC IB f9 [a0,a1,a2,a3,a4] H K=G8 a0 a1 a2 a3 a4 H K:=by kernel_rfl
theorem PX {a0 a1 a2 a3 a4:AV}{H:AH}{K:KT}(h:G8 a0 a1 a2 a3 a4 H K):ACalls prog 9 [a0,a1,a2,a3,a4] H K:=
 Nn PT func9 (by kernel_rfl) (Eq.mpr (PW a0 a1 a2 a3 a4 H K) h)
end Go.Proofs.YtadghlcfbajamaaGreat.Av
end
