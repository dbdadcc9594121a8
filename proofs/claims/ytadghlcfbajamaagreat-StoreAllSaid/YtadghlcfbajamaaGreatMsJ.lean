/- The law and its row. No condition. -/
import Derived.Test.YtadghlcfbajamaaGreatMsI
set_option linter.unusedVariables false
set_option maxRecDepth 100000
section
namespace Go.Proofs.YtadghlcfbajamaaGreat.Av
open Go Go.Proofs.Tryz
def Vr:FuncId→Bool:=gU [64,96,41,33,31,82,102,44,101,86,103,104,105,35,129,131,36,87,69,138,119,118,63,130,132,122,68,124,125,126,121,20,114,61,120,60,112,164,111,38,29,10,52,28]
def Lm (a0:AV)(H:AH)(K:KT):Prop:=
 bO (amm Wb [a0,(I 0)]) λv0=>
 bO (amm cZ [v0,(I 4096)]) λv1=>
 bO (E5 [Ac,Ac,Ac,Ac,Ac,(I 0),(I 0),(I 0),(B false)] [(5,1,v1),(7,1,(I (-1)))]) λv2=>
 bH (A9 H v2) λv3 H4=>
 K v3 H4
theorem P5 {a0:AV}{H:AH}{K:KT}(h:Lm a0 H K):Co 12 [a0] H K:=
 fok A8 Vr B6 func12 h
def Jw (a0:AV)(H:AH)(K:KT):Prop:=
 bO (Ae a0) λv0=>
 bO (Aa 5 v0) λv1=>
 bO (Am false 1 H v1) λv2=>
 bO (Ae a0) λv3=>
 bO (Aa 0 v3) λv4=>
 bO (Am true 2 H v4) λv5=>
 bP (BPure prog 164 [v5]) λv6=>
 bO (Ar .sub v2 v6) λv7=>
 bO (amm Wb [v7,(I 0)]) λv8=>
 K v8 H
theorem NG {a0:AV}{H:AH}{K:KT}(h:Jw a0 H K):Co 110 [a0] H K:=
 fok A8 Vr B6 func110 h
def Kb (a0 a1:AV)(H:AH)(K:KT):Prop:=
 bO (amm Wb [a1,(I (-1))]) λv0=>
 bO (Ae a0) λv1=>
 bO (Aa 7 v1) λv2=>
 bS (AJ 1 H v2 v0) λH3=>
 K (.tup []) H3
theorem OH {a0 a1:AV}{H:AH}{K:KT}(h:Kb a0 a1 H K):Co 16 [a0,a1] H K:=
 fok A8 Vr B6 func16 h
def FX:Nat→Option (List Bool):=CN [(5,mk 56 0 [0,1,4]),(2,mk 56 0 [0,1,4])]
def Dc (p:List Bool)(n:Nat):List AV→AH→Kf→Prop:=AL prog A8 Vr A1 A1 FX (sub p (AP f76)) n
def DP (R2:RT)(x0 x1 x4:AV)(H:AH)(K:KT):Prop:=jn (mk 56 0 [0,1,4]) (Dc [fF,tT,fF,fF,tT,tT] 7) [x0,x1,x4] H (TO (mk 56 0 [0,1,4]) R2 (Be 0 (Bb (Dc [tT] 7) (Ba prog f76.results.toList K))))
def FV (x0 x1 x4:AV)(H:AH)(K:KT):Prop:=lp (mk 56 0 [0,1,4]) (Dc [fF,tT,fF,fF] 3) [x0,x1,x4] H (Be 0 (Bb (Dc [tT] 7) (Ba prog f76.results.toList K)))
def D1 (R2:RT)(x0 x1 x4:AV)(H:AH)(K:KT):Prop:=
 bO (Ar .add x4 (I 1)) λv0=>
 R2 [x0,x1,v0] H
theorem Fb (R2:RT)(x0 x1 x4:AV)(H:AH)(K:KT):DP R2 x0 x1 x4 H K=D1 R2 x0 x1 x4 H K:=(B3 _ _ _ _ _).trans (by kernel_rfl)
def Fv (R2:RT)(x0 x1 x4:AV)(H:AH)(K:KT):Prop:=
 bO (Ae x0) λv0=>
 bO (Aa 4 v0) λv1=>
 bO (Am false 1 H v1) λv2=>
 bO (AY v2) λv3=>
 bO (Ar .lss x4 v3) λv4=>
 bG v4 true λw5=>
 gO w5 (some x4) λv6=>
 bG v4 true λw7=>
 gO w7 (some x1) λv8=>
 bG v4 true λw9=>
 gO w9 (AY v8) λv10=>
 bG v4 true λw11=>
 gO w11 (Ar .lss v6 v10) λv12=>
 bO (Ay v4 v12 (B false)) λv13=>
 bB v13 λt14=>bI t14 (
 bO (Bq 1 x1 x4) λv15=>
 bO (Am false 1 H v15) λv16=>
 bB v16 λt17=>bI t17 (
 bO (Ae x0) λv18=>
 bO (Aa 2 v18) λv19=>
 bO (Am true 2 H v19) λv20=>
 bO (Ae x0) λv21=>
 bO (Aa 4 v21) λv22=>
 bO (Am false 1 H v22) λv23=>
 bO (Bq 8 v23 x4) λv24=>
 bO (Am true 8 H v24) λv25=>
 bP (BPure prog 114 [v20,v25]) λv26=>
 bO (Ae x0) λv27=>
 bO (Aa 2 v27) λv28=>
 bS (AJ 2 H v28 v26) λH29=>
 DP R2 x0 x1 x4 H29 K)
 (DP R2 x0 x1 x4 H K))
 (bO (Ae x0) λv30=>
 bO (Aa 2 v30) λv31=>
 bO (Am true 2 H v31) λv32=>
 bC (BCall prog 127 [v32] H) λv33 H34=>
 bO (Ae x0) λv35=>
 bO (Aa 0 v35) λv36=>
 bS (AJ 2 H34 v36 v33) λH37=>
 bO (Ae x0) λv38=>
 bO (Aa 4 v38) λv39=>
 bS (AJ 1 H37 v39 Ac) λH40=>
 bO (Ae x0) λv41=>
 bO (Aa 7 v41) λv42=>
 bS (AJ 1 H40 v42 (I (-1))) λH43=>
 bO (Ae x0) λv44=>
 bO (Aa 8 v44) λv45=>
 bS (AJ 1 H43 v45 (B false)) λH46=>
 K (.tup []) H46)
theorem IZ {K:KT}:oV (λR x0 x1 x4 H=>Fv R x0 x1 x4 H K) (λx0 x1 x4 H=>FV x0 x1 x4 H K):=Yw (A2 _ _) (λ_ _ _ _ _=>by kernel_rfl)
def Hq (a0 a1:AV)(H:AH)(K:KT):Prop:=
 FV a0 a1 (I 0) H K
theorem LA {a0 a1:AV}{H:AH}{K:KT}(h:Hq a0 a1 H K):Co 76 [a0,a1] H K:=
 fok A8 Vr FX func76 h
def Hv:Nat→Option (List Bool):=CN [(3,mk 35 0 [0]),(4,mk 35 0 [0,22]),(1,mk 35 0 [0])]
def D7 (p:List Bool)(n:Nat):List AV→AH→Kf→Prop:=AL prog A8 Vr A1 A1 Hv (sub p (AP f113)) n
def Dw (x0:AV)(H:AH)(K:KT):Prop:=jn (mk 35 0 [0]) (D7 [tT,tT,tT] 5) [x0] H (Ba prog f113.results.toList K)
def Hu (x0 x22:AV)(H:AH)(K:KT):Prop:=jn (mk 35 0 [0,22]) (D7 [tT,tT,fF,tT] 5) [x0,x22] H (Bb (DO (mk 35 0 [0]) (D7 [tT,tT,tT] 5)) (Ba prog f113.results.toList K))
def Dv (x0:AV)(H:AH)(K:KT):Prop:=jn (mk 35 0 [0]) (D7 [tT,tT] 3) [x0] H (Ba prog f113.results.toList K)
def Gs (x0:AV)(H:AH)(K:KT):Prop:=
 bO (Ae x0) λv0=>
 bO (Aa 8 v0) λv1=>
 bO (Am false 1 H v1) λv2=>
 bO (E6 .not v2) λv3=>
 K v3 H
theorem LC (x0:AV)(H:AH)(K:KT):Dw x0 H K=Gs x0 H K:=(B3 _ _ _ _ _).trans (by kernel_rfl)
def Ed (x0 x22:AV)(H:AH)(K:KT):Prop:=
 bB x22 λt0=>bI t0 (
 bO (Ae x0) λv1=>
 bO (Aa 7 v1) λv2=>
 bO (Am false 1 H v2) λv3=>
 bO (Ar .sub v3 (I 1)) λv4=>
 bO (Ae x0) λv5=>
 bO (Aa 7 v5) λv6=>
 bS (AJ 1 H v6 v4) λH7=>
 Dw x0 H7 K)
 (Dw x0 H K)
theorem Ga (x0 x22:AV)(H:AH)(K:KT):Hu x0 x22 H K=Ed x0 x22 H K:=(B3 _ _ _ _ _).trans (by kernel_rfl)
def Gr (x0:AV)(H:AH)(K:KT):Prop:=
 bO (Ae x0) λv0=>
 bO (Aa 8 v0) λv1=>
 bO (Am false 1 H v1) λv2=>
 bO (E6 .not v2) λv3=>
 bG v3 true λw4=>
 gO w4 (some x0) λv5=>
 bG v3 true λw6=>
 gO w6 (Ae v5) λv7=>
 bG v3 true λw8=>
 gO w8 (Aa 7 v7) λv9=>
 bG v3 true λw10=>
 gO w10 (Am false 1 H v9) λv11=>
 bG v3 true λw12=>
 gO w12 (Ar .gtr v11 (I 0)) λv13=>
 bO (Ay v3 v13 (B false)) λv14=>
 Hu x0 v14 H K
theorem LB (x0:AV)(H:AH)(K:KT):Dv x0 H K=Gr x0 H K:=(B3 _ _ _ _ _).trans (by kernel_rfl)
def J2 (a0:AV)(H:AH)(K:KT):Prop:=
 bO (Ae a0) λv0=>
 bO (Aa 7 v0) λv1=>
 bO (Am false 1 H v1) λv2=>
 bO (Ar .eql v2 (I 0)) λv3=>
 bB v3 λt4=>bI t4 (
 bO (Ae a0) λv5=>
 bO (Aa 8 v5) λv6=>
 bS (AJ 1 H v6 (B true)) λH7=>
 Dv a0 H7 K)
 (Dv a0 H K)
theorem NL {a0:AV}{H:AH}{K:KT}(h:J2 a0 H K):Co 113 [a0] H K:=
 fok A8 Vr Hv func113 h
def GR (a0 a1:AV)(H:AH)(K:KT):Prop:=
 bH (A9 H a1) λv0 H1=>
 bC (BCall prog 113 [a0] H1) λv2 H3=>
 bO (E6 .not v2) λv4=>
 bB v4 λt5=>bI t5 (
 K (I 8) H3)
 (bO (Ae a0) λv6=>
 bO (Aa 0 v6) λv7=>
 bO (Am true 2 H3 v7) λv8=>
 bO (Am true 8 H3 v0) λv9=>
 bP (BPure prog 114 [v8,v9]) λv10=>
 bO (Ae a0) λv11=>
 bO (Aa 0 v11) λv12=>
 bS (AJ 2 H3 v12 v10) λH13=>
 bO (Aa 7 v0) λv14=>
 bO (Am false 1 H13 v14) λv15=>
 bH (HG 1 1 H13 Ac v15) λv16 H17=>
 bO (Aa 7 v0) λv18=>
 bS (AJ 1 H17 v18 v16) λH19=>
 bO (Ae a0) λv20=>
 bO (Aa 4 v20) λv21=>
 bO (Am false 1 H19 v21) λv22=>
 bO (Am true 8 H19 v0) λv23=>
 bO (U3 8 1 (BI [(I 0),(I 0),(I 0),(I 0),(B false),(.lit (.string ⟨#[]⟩)),(.lit (.string ⟨#[]⟩)),Ac] 1) [(0,8,v23)]) λv24=>
 bH (HG 8 96 H19 v22 v24) λv25 H26=>
 bO (Ae a0) λv27=>
 bO (Aa 4 v27) λv28=>
 bS (AJ 1 H26 v28 v25) λH29=>
 K (I 0) H29)
theorem IQ {a0 a1:AV}{H:AH}{K:KT}(h:GR a0 a1 H K):Co 62 [a0,a1] H K:=
 fok A8 Vr B6 func62 h
def Jy (a0 a1 a2:AV)(H:AH)(K:KT):Prop:=
 bO (Ae a0) λv0=>
 bO (Aa 8 v0) λv1=>
 bO (Am false 1 H v1) λv2=>
 bB v2 λt3=>bI t3 (
 K (.tup [(I 0),(I 8)]) H)
 (bP (PCall prog 60 [a1] H) λv4=>
 bO (E6 .not v4) λv5=>
 bB v5 λt6=>bI t6 (
 K (.tup [(I 0),(I 5)]) H)
 (bO (Ae a0) λv7=>
 bO (Aa 0 v7) λv8=>
 bO (Am true 2 H v8) λv9=>
 bP (PCall prog 61 [v9,a1] H) λv10=>
 bO (Ai v10 0) λv11=>
 bO (Ai v10 1) λv12=>
 bB v12 λt13=>bI t13 (
 K (.tup [v11,(I 0)]) H)
 (bO (E6 .not a2) λv14=>
 bB v14 λt15=>bI t15 (
 K (.tup [(I 0),(I 3)]) H)
 (bO (Ae a0) λv16=>
 bO (Aa 0 v16) λv17=>
 bO (Aa 0 v17) λv18=>
 bO (Am false 1 H v18) λv19=>
 bO (AY v19) λv20=>
 bO (Ar .geq v20 (I 16)) λv21=>
 bB v21 λt22=>bI t22 (
 K (.tup [(I 0),(I 4)]) H)
 (bO (Ae a0) λv23=>
 bO (Aa 6 v23) λv24=>
 bO (Am false 1 H v24) λv25=>
 bO (Ar .add v25 (I 1)) λv26=>
 bO (E5 [(I 0),(I 0),(I 0),(I 0),(B false),(.lit (.string ⟨#[]⟩)),(.lit (.string ⟨#[]⟩)),Ac] [(0,1,(I 1)),(5,1,a1),(1,1,v26)]) λv27=>
 bC (BCall prog 62 [a0,v27] H) λv28 H29=>
 bO (Ar .neq v28 (I 0)) λv30=>
 bB v30 λt31=>bI t31 (
 K (.tup [(I 0),v28]) H29)
 (bO (Ae a0) λv32=>
 bO (Aa 6 v32) λv33=>
 bO (Am false 1 H29 v33) λv34=>
 bO (Ar .add v34 (I 1)) λv35=>
 bO (Ae a0) λv36=>
 bO (Aa 6 v36) λv37=>
 bS (AJ 1 H29 v37 v35) λH38=>
 bO (Ae a0) λv39=>
 bO (Aa 6 v39) λv40=>
 bO (Am false 1 H38 v40) λv41=>
 K (.tup [v41,(I 0)]) H38))))))
theorem NI {a0 a1 a2:AV}{H:AH}{K:KT}(h:Jy a0 a1 a2 H K):Co 14 [a0,a1,a2] H K:=
 fok A8 Vr B6 func14 h
def Ee (a0 a1:AV)(H:AH)(K:KT):Prop:=
 bH (A9 H (.agg [(I 0),Ac])) λv0 H1=>
 bO (Ae a0) λv2=>
 bO (Aa 8 v2) λv3=>
 bO (Am false 1 H1 v3) λv4=>
 bB v4 λt5=>bI t5 (
 bO (E5 [(I 0),Ac] []) λv6=>
 bS (AJ 2 H1 v0 v6) λH7=>
 bO (Am true 2 H7 v0) λv8=>
 K (.tup [v8,(I 8)]) H7)
 (bO (Ae a0) λv9=>
 bO (Aa 0 v9) λv10=>
 bO (Am true 2 H1 v10) λv11=>
 bP (PCall prog 120 [v11,a1] H1) λv12=>
 bO (Ai v12 0) λv13=>
 bO (Ai v12 1) λv14=>
 bH (A9 H1 (.agg [(I 0),Ac])) λv15 H16=>
 bS (AJ 2 H16 v15 v13) λH17=>
 bO (E6 .not v14) λv18=>
 bB v18 λt19=>bI t19 (
 bO (E5 [(I 0),Ac] []) λv20=>
 bS (AJ 2 H17 v0 v20) λH21=>
 bO (Am true 2 H21 v0) λv22=>
 K (.tup [v22,(I 3)]) H21)
 (bO (Am true 2 H17 v15) λv23=>
 bS (AJ 2 H17 v0 v23) λH24=>
 bO (Am true 2 H24 v0) λv25=>
 K (.tup [v25,(I 0)]) H24))
theorem EF {a0 a1:AV}{H:AH}{K:KT}(h:Ee a0 a1 H K):Co 67 [a0,a1] H K:=
 fok A8 Vr B6 func67 h
def Jz (a0 a1:AV)(H:AH)(K:KT):Prop:=
 bC (BCall prog 67 [a0,a1] H) λv0 H1=>
 bO (Ai v0 0) λv2=>
 bO (Ai v0 1) λv3=>
 bH (A9 H1 (.agg [(I 0),Ac])) λv4 H5=>
 bS (AJ 2 H5 v4 v2) λH6=>
 bO (Aa 0 v4) λv7=>
 bO (Am false 1 H6 v7) λv8=>
 K (.tup [v8,v3]) H6
theorem NJ {a0 a1:AV}{H:AH}{K:KT}(h:Jz a0 a1 H K):Co 77 [a0,a1] H K:=
 fok A8 Vr B6 func77 h
def Ec (a0 a1 a2 a3:AV)(H:AH)(K:KT):Prop:=
 bC (BCall prog 67 [a0,a1] H) λv0 H1=>
 bO (Ai v0 0) λv2=>
 bO (Ai v0 1) λv3=>
 bH (A9 H1 (.agg [(I 0),Ac])) λv4 H5=>
 bS (AJ 2 H5 v4 v2) λH6=>
 bO (Ar .neq v3 (I 0)) λv7=>
 bB v7 λt8=>bI t8 (
 K (.tup [Ac,v3]) H6)
 (bO (Ar .lss a2 (I 0)) λv9=>
 bG v9 false λw10=>
 gO w10 (some a3) λv11=>
 bG v9 false λw12=>
 gO w12 (Ar .lss v11 (I 0)) λv13=>
 bO (Ay v9 (B true) v13) λv14=>
 bG v14 false λw15=>
 gO w15 (some a3) λv16=>
 bG v14 false λw17=>
 gO w17 (Ar .gtr v16 (I 4096)) λv18=>
 bO (Ay v14 (B true) v18) λv19=>
 bB v19 λt20=>bI t20 (
 K (.tup [Ac,(I 5)]) H6)
 (bO (Am true 2 H6 v4) λv21=>
 bP (PCall prog 68 [v21,a2,a3] H6) λv22=>
 K (.tup [v22,(I 0)]) H6))
theorem EE {a0 a1 a2 a3:AV}{H:AH}{K:KT}(h:Ec a0 a1 a2 a3 H K):Co 25 [a0,a1,a2,a3] H K:=
 fok A8 Vr B6 func25 h
def Jv (a0 a1 a2:AV)(H:AH)(K:KT):Prop:=
 bC (BCall prog 67 [a0,a1] H) λv0 H1=>
 bO (Ai v0 0) λv2=>
 bO (Ai v0 1) λv3=>
 bH (A9 H1 (.agg [(I 0),Ac])) λv4 H5=>
 bS (AJ 2 H5 v4 v2) λH6=>
 bO (Ar .neq v3 (I 0)) λv7=>
 bB v7 λt8=>bI t8 (
 K (.tup [(I 0),v3]) H6)
 (bO (Am true 2 H6 v4) λv9=>
 bP (PCall prog 130 [v9,a2] H6) λv10=>
 bO (Ai v10 0) λv11=>
 bO (Ai v10 1) λv12=>
 bO (E6 .not v12) λv13=>
 bB v13 λt14=>bI t14 (
 K (.tup [(I 0),(I 5)]) H6)
 (K (.tup [v11,(I 0)]) H6))
theorem NF {a0 a1 a2:AV}{H:AH}{K:KT}(h:Jv a0 a1 a2 H K):Co 79 [a0,a1,a2] H K:=
 fok A8 Vr B6 func79 h
def Jx (a0 a1 a2:AV)(H:AH)(K:KT):Prop:=
 bC (BCall prog 67 [a0,a1] H) λv0 H1=>
 bO (Ai v0 0) λv2=>
 bO (Ai v0 1) λv3=>
 bH (A9 H1 (.agg [(I 0),Ac])) λv4 H5=>
 bS (AJ 2 H5 v4 v2) λH6=>
 bO (Ar .neq v3 (I 0)) λv7=>
 bB v7 λt8=>bI t8 (
 K (.tup [(I 0),v3]) H6)
 (bO (Am true 2 H6 v4) λv9=>
 bP (PCall prog 132 [v9,a2] H6) λv10=>
 bO (Ai v10 0) λv11=>
 bO (Ai v10 1) λv12=>
 bO (E6 .not v12) λv13=>
 bB v13 λt14=>bI t14 (
 K (.tup [(I 0),(I 5)]) H6)
 (K (.tup [v11,(I 0)]) H6))
theorem NH {a0 a1 a2:AV}{H:AH}{K:KT}(h:Jx a0 a1 a2 H K):Co 81 [a0,a1,a2] H K:=
 fok A8 Vr B6 func81 h
def GQ:Nat→Option (List Bool):=CN [(13,mk 104 0 [0,1,3,14,15,16])]
def Ht (p:List Bool)(n:Nat):List AV→AH→Kf→Prop:=AL prog A8 Vr A1 A1 GQ (sub p (AP f66)) n
def Gq (x0 x1 x3 x14 x15 x16:AV)(H:AH)(K:KT):Prop:=lp (mk 104 0 [0,1,3,14,15,16]) (Ht [tT,tT,tT,tT,tT,tT,fF,tT,fF,fF] 14) [x0,x1,x3,x14,x15,x16] H (Be 0 (Bb (Ht [tT,tT,tT,tT,tT,tT,tT] 25) (Ba prog f66.results.toList K)))
def F8 (R13:RT)(x0 x1 x3 x14 x15 x16:AV)(H:AH)(K:KT):Prop:=
 bO (AY x14) λv0=>
 bO (Ar .lss x16 v0) λv1=>
 bB v1 λt2=>bI t2 (
 bO (Ae x0) λv3=>
 bO (Aa 0 v3) λv4=>
 bO (Am true 2 H v4) λv5=>
 bP (PCall prog 120 [v5,x1] H) λv6=>
 bO (Ai v6 0) λv7=>
 bO (Ai v6 1) λv8=>
 bH (A9 H (.agg [(I 0),Ac])) λv9 H10=>
 bS (AJ 2 H10 v9 v7) λH11=>
 bO (Am true 2 H11 v9) λv12=>
 bO (Bq 2 x14 x16) λv13=>
 bO (Aa 0 v13) λv14=>
 bO (Am false 1 H11 v14) λv15=>
 bO (Ar .quo v15 (I 8)) λv16=>
 bP (BPure prog 121 [v12,v16]) λv17=>
 bO (Ar .lss v17 (I 0)) λv18=>
 bG v18 true λw19=>
 gO w19 (some x0) λv20=>
 bG v18 true λw21=>
 gC w21 (BCall prog 110 [v20] H11) H11 λv22 H23=>
 bG v18 true λw24=>
 gO w24 (Ar .eql v22 (I 0)) λv25=>
 bO (Ay v18 v25 (B false)) λv26=>
 bB v26 λt27=>bI t27 (
 K (.tup [x15,(I 4)]) H23)
 (bO (Bq 2 x14 x16) λv28=>
 bO (Aa 0 v28) λv29=>
 bO (Am false 1 H23 v29) λv30=>
 bO (Bq 2 x14 x16) λv31=>
 bO (Aa 1 v31) λv32=>
 bO (Am false 1 H23 v32) λv33=>
 bO (Ar .add x15 v33) λv34=>
 bO (Bj 1 x3 (some x15) (some v34) none) λv35=>
 bO (E5 [(I 0),(I 0),(I 0),(I 0),(B false),(.lit (.string ⟨#[]⟩)),(.lit (.string ⟨#[]⟩)),Ac] [(0,1,(I 2)),(1,1,x1),(2,1,v30),(7,1,v35)]) λv36=>
 bC (BCall prog 62 [x0,v36] H23) λv37 H38=>
 bO (Ar .neq v37 (I 0)) λv39=>
 bB v39 λt40=>bI t40 (
 K (.tup [x15,v37]) H38)
 (bO (Bq 2 x14 x16) λv41=>
 bO (Aa 1 v41) λv42=>
 bO (Am false 1 H38 v42) λv43=>
 bO (Ar .add x15 v43) λv44=>
 bO (Ar .add x16 (I 1)) λv45=>
 R13 [x0,x1,x3,x14,v44,v45] H38)))
 (K (.tup [x15,(I 0)]) H)
theorem J1 {K:KT}:oX (λR x0 x1 x3 x14 x15 x16 H=>F8 R x0 x1 x3 x14 x15 x16 H K) (λx0 x1 x3 x14 x15 x16 H=>Gq x0 x1 x3 x14 x15 x16 H K):=bM (A2 _ _) (λ_ _ _ _ _ _ _ _=>by kernel_rfl)
def IP (a0 a1 a2 a3:AV)(H:AH)(K:KT):Prop:=
 bC (BCall prog 67 [a0,a1] H) λv0 H1=>
 bO (Ai v0 0) λv2=>
 bO (Ai v0 1) λv3=>
 bH (A9 H1 (.agg [(I 0),Ac])) λv4 H5=>
 bS (AJ 2 H5 v4 v2) λH6=>
 bO (Ar .neq v3 (I 0)) λv7=>
 bB v7 λt8=>bI t8 (
 K (.tup [(I 0),v3]) H6)
 (bO (Am true 2 H6 v4) λv9=>
 bP (PCall prog 118 [v9,a2,a3] H6) λv10=>
 bO (Ai v10 0) λv11=>
 bO (Ai v10 1) λv12=>
 bH (A9 H6 (.agg [(I 0),Ac])) λv13 H14=>
 bS (AJ 2 H14 v13 v11) λH15=>
 bO (E6 .not v12) λv16=>
 bB v16 λt17=>bI t17 (
 K (.tup [(I 0),(I 5)]) H15)
 (bO (AY a3) λv18=>
 bO (E5 [(I 0),(I 0)] [(0,1,a2),(1,1,v18)]) λv19=>
 bP (PCall prog 119 [v19,(I 8)] H15) λv20=>
 Gq a0 a1 a3 v20 (I 0) (I 0) H15 K))
theorem Nu {a0 a1 a2 a3:AV}{H:AH}{K:KT}(h:IP a0 a1 a2 a3 H K):Co 66 [a0,a1,a2,a3] H K:=
 fok A8 Vr GQ func66 h
def GP (a0 a1 a2:AV)(H:AH)(K:KT):Prop:=
 bC (BCall prog 67 [a0,a1] H) λv0 H1=>
 bO (Ai v0 0) λv2=>
 bO (Ai v0 1) λv3=>
 bH (A9 H1 (.agg [(I 0),Ac])) λv4 H5=>
 bS (AJ 2 H5 v4 v2) λH6=>
 bO (Ar .neq v3 (I 0)) λv7=>
 bB v7 λt8=>bI t8 (
 K v3 H6)
 (bO (Am true 2 H6 v4) λv9=>
 bP (PCall prog 124 [v9,a2] H6) λv10=>
 bO (Ai v10 0) λv11=>
 bO (Ai v10 1) λv12=>
 bH (A9 H6 (.agg [(I 0),Ac])) λv13 H14=>
 bS (AJ 2 H14 v13 v11) λH15=>
 bO (E6 .not v12) λv16=>
 bB v16 λt17=>bI t17 (
 K (I 5) H15)
 (bO (E5 [(I 0),(I 0),(I 0),(I 0),(B false),(.lit (.string ⟨#[]⟩)),(.lit (.string ⟨#[]⟩)),Ac] [(0,1,(I 3)),(1,1,a1),(3,1,a2)]) λv18=>
 bC (BCall prog 62 [a0,v18] H15) λv19 H20=>
 K v19 H20))
theorem Lp {a0 a1 a2:AV}{H:AH}{K:KT}(h:GP a0 a1 a2 H K):Co 70 [a0,a1,a2] H K:=
 fok A8 Vr B6 func70 h
def Ln:Dh:=VT [(7,[(1,some 8),(2,some 8),(4,some 8),(5,some 8)])]
def GO (a0 a1 a2 a3 a4:AV)(H:AH)(K:KT):Prop:=
 bC (BCall prog 67 [a0,a1] H) λv0 H1=>
 bO (Ai v0 0) λv2=>
 bO (Ai v0 1) λv3=>
 bH (A9 H1 (.agg [(I 0),Ac])) λv4 H5=>
 bS (AJ 2 H5 v4 v2) λH6=>
 bO (Ar .neq v3 (I 0)) λv7=>
 bB v7 λt8=>bI t8 (
 K v3 H6)
 (bO (Am true 2 H6 v4) λv9=>
 bP (PCall prog 125 [v9,a2,a3,a4] H6) λv10=>
 bO (Ai v10 0) λv11=>
 bO (Ai v10 1) λv12=>
 bH (A9 H6 (.agg [(I 0),Ac])) λv13 H14=>
 bS (AJ 2 H14 v13 v11) λH15=>
 bO (E6 .not v12) λv16=>
 bB v16 λt17=>bI t17 (
 K (I 5) H15)
 (bO (Aa 1 v13) λv18=>
 bO (Am false 1 H15 v18) λv19=>
 bO (AY v19) λv20=>
 bO (Aa 1 v4) λv21=>
 bO (Am false 1 H15 v21) λv22=>
 bO (AY v22) λv23=>
 bO (Ar .sub v20 v23) λv24=>
 bC (BCall prog 110 [a0] H15) λv25 H26=>
 bO (Ar .gtr v24 v25) λv27=>
(Am false 1 H26 v18=some v19)∧
(AY v19=some v20)∧
(Am false 1 H26 v21=some v22)∧
(AY v22=some v23)∧
 bB v27 λt28=>bI t28 (
 K (I 4) H26)
 (bO (E5 [(I 0),(I 0),(I 0),(I 0),(B false),(.lit (.string ⟨#[]⟩)),(.lit (.string ⟨#[]⟩)),Ac] [(0,1,(I 4)),(1,1,a1),(2,1,a2),(3,1,a3),(4,1,a4)]) λv29=>
 bC (BCall prog 62 [a0,v29] H26) λv30 H31=>
 K v30 H31)))
theorem Lo {a0 a1 a2 a3 a4:AV}{H:AH}{K:KT}(h:GO a0 a1 a2 a3 a4 H K):Co 71 [a0,a1,a2,a3,a4] H K:=
 fok Ln Vr B6 func71 h
def IN (a0 a1 a2 a3:AV)(H:AH)(K:KT):Prop:=
 bC (BCall prog 67 [a0,a1] H) λv0 H1=>
 bO (Ai v0 0) λv2=>
 bO (Ai v0 1) λv3=>
 bH (A9 H1 (.agg [(I 0),Ac])) λv4 H5=>
 bS (AJ 2 H5 v4 v2) λH6=>
 bO (Ar .neq v3 (I 0)) λv7=>
 bB v7 λt8=>bI t8 (
 K v3 H6)
 (bO (Am true 2 H6 v4) λv9=>
 bP (PCall prog 126 [v9,a2,a3] H6) λv10=>
 bO (Ai v10 0) λv11=>
 bO (Ai v10 1) λv12=>
 bH (A9 H6 (.agg [(I 0),Ac])) λv13 H14=>
 bS (AJ 2 H14 v13 v11) λH15=>
 bO (E6 .not v12) λv16=>
 bB v16 λt17=>bI t17 (
 K (I 5) H15)
 (bO (E5 [(I 0),(I 0),(I 0),(I 0),(B false),(.lit (.string ⟨#[]⟩)),(.lit (.string ⟨#[]⟩)),Ac] [(0,1,(I 5)),(1,1,a1),(2,1,a2),(3,1,a3)]) λv18=>
 bC (BCall prog 62 [a0,v18] H15) λv19 H20=>
 K v19 H20))
theorem Nt {a0 a1 a2 a3:AV}{H:AH}{K:KT}(h:IN a0 a1 a2 a3 H K):Co 72 [a0,a1,a2,a3] H K:=
 fok A8 Vr B6 func72 h
def HZ (a0 a1 a2:AV)(H:AH)(K:KT):Prop:=
 bO (Ae a0) λv0=>
 bO (Aa 8 v0) λv1=>
 bO (Am false 1 H v1) λv2=>
 bB v2 λt3=>bI t3 (
 K (I 8) H)
 (bP (PCall prog 60 [a1] H) λv4=>
 bO (E6 .not v4) λv5=>
 bG v5 false λw6=>
 gO w6 (some a2) λv7=>
 bG v5 false λw8=>
 gP w8 (PCall prog 60 [v7] H) λv9=>
 bG v5 false λw10=>
 gO w10 (E6 .not v9) λv11=>
 bO (Ay v5 (B true) v11) λv12=>
 bB v12 λt13=>bI t13 (
 K (I 5) H)
 (bO (Ae a0) λv14=>
 bO (Aa 0 v14) λv15=>
 bO (Am true 2 H v15) λv16=>
 bP (PCall prog 111 [v16,a1] H) λv17=>
 bO (Ar .lss v17 (I 0)) λv18=>
 bB v18 λt19=>bI t19 (
 K (I 3) H)
 (bO (Xq .eql a1 a2) λv20=>
 bB v20 λt21=>bI t21 (
 K (I 0) H)
 (bO (E5 [(I 0),(I 0),(I 0),(I 0),(B false),(.lit (.string ⟨#[]⟩)),(.lit (.string ⟨#[]⟩)),Ac] [(0,1,(I 6)),(5,1,a1),(6,1,a2)]) λv22=>
 bC (BCall prog 62 [a0,v22] H) λv23 H24=>
 K v23 H24))))
theorem Mk {a0 a1 a2:AV}{H:AH}{K:KT}(h:HZ a0 a1 a2 H K):Co 73 [a0,a1,a2] H K:=
 fok A8 Vr B6 func73 h
def HY (a0 a1:AV)(H:AH)(K:KT):Prop:=
 bO (Ae a0) λv0=>
 bO (Aa 8 v0) λv1=>
 bO (Am false 1 H v1) λv2=>
 bB v2 λt3=>bI t3 (
 K (I 8) H)
 (bP (PCall prog 60 [a1] H) λv4=>
 bO (E6 .not v4) λv5=>
 bB v5 λt6=>bI t6 (
 K (I 5) H)
 (bO (Ae a0) λv7=>
 bO (Aa 0 v7) λv8=>
 bO (Am true 2 H v8) λv9=>
 bP (PCall prog 111 [v9,a1] H) λv10=>
 bO (Ar .lss v10 (I 0)) λv11=>
 bB v11 λt12=>bI t12 (
 K (I 3) H)
 (bO (E5 [(I 0),(I 0),(I 0),(I 0),(B false),(.lit (.string ⟨#[]⟩)),(.lit (.string ⟨#[]⟩)),Ac] [(0,1,(I 7)),(5,1,a1)]) λv13=>
 bC (BCall prog 62 [a0,v13] H) λv14 H15=>
 K v14 H15)))
theorem Mj {a0 a1:AV}{H:AH}{K:KT}(h:HY a0 a1 H K):Co 74 [a0,a1] H K:=
 fok A8 Vr B6 func74 h
def Hs:Nat→Option (List Bool):=CN [(10,mk 82 0 [0,1,5,6]),(15,mk 82 0 [0,1,5,6,7,8,9]),(7,mk 82 0 [0,1,5,6])]
def Bx (p:List Bool)(n:Nat):List AV→AH→Kf→Prop:=AL prog A8 Vr A1 A1 Hs (sub p (AP f75)) n
def Et (R7:RT)(x0 x1 x5 x6:AV)(H:AH)(K:KT):Prop:=jn (mk 82 0 [0,1,5,6]) (Bx [tT,tT,tT,fF,tT,fF,fF,tT,tT] 20) [x0,x1,x5,x6] H (TO (mk 82 0 [0,1,5,6]) R7 (Be 0 (Bb (Bx [tT,tT,tT,tT] 20) (Ba prog f75.results.toList K))))
def Eu (R7:RT)(x0 x1 x5 x6 x7 x8 x9:AV)(H:AH)(K:KT):Prop:=lp (mk 82 0 [0,1,5,6,7,8,9]) (Bx [tT,tT,tT,fF,tT,fF,fF,tT,fF,fF,tT,tT,fF,tT,fF,fF] 16) [x0,x1,x5,x6,x7,x8,x9] H (Be 2 (Bb (Bx [tT,tT,tT,fF,tT,fF,fF,tT,fF,fF,tT,tT,tT] 19) (Be 1 (Bb (DO (mk 82 0 [0,1,5,6]) (Bx [tT,tT,tT,fF,tT,fF,fF,tT,tT] 20)) (TO (mk 82 0 [0,1,5,6]) R7 (Be 0 (Bb (Bx [tT,tT,tT,tT] 20) (Ba prog f75.results.toList K))))))))
def Hr (x0 x1 x5 x6:AV)(H:AH)(K:KT):Prop:=lp (mk 82 0 [0,1,5,6]) (Bx [tT,tT,tT,fF,tT,fF,fF] 8) [x0,x1,x5,x6] H (Be 0 (Bb (Bx [tT,tT,tT,tT] 20) (Ba prog f75.results.toList K)))
def DQ (R7:RT)(x0 x1 x5 x6:AV)(H:AH)(K:KT):Prop:=
 bO (Ar .add x6 (I 1)) λv0=>
 R7 [x0,x1,x5,v0] H
theorem F7 (R7:RT)(x0 x1 x5 x6:AV)(H:AH)(K:KT):Et R7 x0 x1 x5 x6 H K=DQ R7 x0 x1 x5 x6 H K:=(B3 _ _ _ _ _).trans (by kernel_rfl)
def FY (R7:RT)(R15:RT)(x0 x1 x5 x6 x7 x8 x9:AV)(H:AH)(K:KT):Prop:=
 bO (AY x1) λv0=>
 bO (Ar .lss x9 v0) λv1=>
 bB v1 λt2=>bI t2 (
 bG x8 false λw3=>
 gO w3 (Aa 1 x7) λv4=>
 bG x8 false λw5=>
 gO w5 (Am false 1 H v4) λv6=>
 bG x8 false λw7=>
 gO w7 (some x1) λv8=>
 bG x8 false λw9=>
 gO w9 (some x9) λv10=>
 bG x8 false λw11=>
 gO w11 (Bq 1 v8 v10) λv12=>
 bG x8 false λw13=>
 gO w13 (Am false 1 H v12) λv14=>
 bG x8 false λw15=>
 gO w15 (Ar .eql v6 v14) λv16=>
 bO (Ay x8 (B true) v16) λv17=>
 bO (Ar .add x9 (I 1)) λv18=>
 R15 [x0,x1,x5,x6,x7,v17,v18] H)
 (bB x8 λt19=>bI t19 (
 bO (Ae x0) λv20=>
 bO (Aa 2 v20) λv21=>
 bO (Am true 2 H v21) λv22=>
 bO (Am true 8 H x7) λv23=>
 bP (BPure prog 114 [v22,v23]) λv24=>
 bO (Ae x0) λv25=>
 bO (Aa 2 v25) λv26=>
 bS (AJ 2 H v26 v24) λH27=>
 Et R7 x0 x1 x5 x6 H27 K)
 (bO (Am true 8 H x7) λv28=>
 bH (FC H 8 1 (BI [(I 0),(I 0),(I 0),(I 0),(B false),(.lit (.string ⟨#[]⟩)),(.lit (.string ⟨#[]⟩)),Ac] 1) [(0,8,v28)]) λv29 H30=>
 bH (HG 8 96 H30 x5 v29) λv31 H32=>
 Et R7 x0 x1 v31 x6 H32 K))
theorem JL (R7:RT){K:KT}:zdfeZ (λR x0 x1 x5 x6 x7 x8 x9 H=>FY R7 R x0 x1 x5 x6 x7 x8 x9 H K) (λx0 x1 x5 x6 x7 x8 x9 H=>Eu R7 x0 x1 x5 x6 x7 x8 x9 H K):=xR (A2 _ _) (λ_ _ _ _ _ _ _ _ _=>by kernel_rfl)
def Gp (R7:RT)(x0 x1 x5 x6:AV)(H:AH)(K:KT):Prop:=
 bO (Ae x0) λv0=>
 bO (Aa 4 v0) λv1=>
 bO (Am false 1 H v1) λv2=>
 bO (AY v2) λv3=>
 bO (Ar .lss x6 v3) λv4=>
 bB v4 λt5=>bI t5 (
 bO (Ae x0) λv6=>
 bO (Aa 4 v6) λv7=>
 bO (Am false 1 H v7) λv8=>
 bO (Bq 8 v8 x6) λv9=>
 bO (Am true 8 H v9) λv10=>
 bH (A9 H (.agg [(I 0),(I 0),(I 0),(I 0),(B false),(.lit (.string ⟨#[]⟩)),(.lit (.string ⟨#[]⟩)),Ac])) λv11 H12=>
 bS (AJ 8 H12 v11 v10) λH13=>
 bO (Aa 0 v11) λv14=>
 bO (Am false 1 H13 v14) λv15=>
 bO (Ar .eql v15 (I 1)) λv16=>
 bG v16 false λw17=>
 gO w17 (Aa 0 v11) λv18=>
 bG v16 false λw19=>
 gO w19 (Am false 1 H13 v18) λv20=>
 bG v16 false λw21=>
 gO w21 (Ar .eql v20 (I 6)) λv22=>
 bO (Ay v16 (B true) v22) λv23=>
 bG v23 false λw24=>
 gO w24 (Aa 0 v11) λv25=>
 bG v23 false λw26=>
 gO w26 (Am false 1 H13 v25) λv27=>
 bG v23 false λw28=>
 gO w28 (Ar .eql v27 (I 7)) λv29=>
 bO (Ay v23 (B true) v29) λv30=>
 Eu R7 x0 x1 x5 x6 v11 v30 (I 0) H13 K)
 (bO (Ae x0) λv31=>
 bO (Aa 4 v31) λv32=>
 bS (AJ 1 H v32 x5) λH33=>
 K (I 0) H33)
theorem Kv {K:KT}:dC (λR x0 x1 x5 x6 H=>Gp R x0 x1 x5 x6 H K) (λx0 x1 x5 x6 H=>Hr x0 x1 x5 x6 H K):=Tb (A2 _ _) (λ_ _ _ _ _ _=>by kernel_rfl)
def J0 (a0 a1:AV)(H:AH)(K:KT):Prop:=
 bO (Ae a0) λv0=>
 bO (Aa 8 v0) λv1=>
 bO (Am false 1 H v1) λv2=>
 bG v2 false λw3=>
 gO w3 (some a0) λv4=>
 bG v2 false λw5=>
 gC w5 (BCall prog 113 [v4] H) H λv6 H7=>
 bG v2 false λw8=>
 gO w8 (E6 .not v6) λv9=>
 bO (Ay v2 (B true) v9) λv10=>
 bB v10 λt11=>bI t11 (
 K (I 8) H7)
 (Hr a0 a1 Ac (I 0) H7 K)
theorem NK {a0 a1:AV}{H:AH}{K:KT}(h:J0 a0 a1 H K):Co 75 [a0,a1] H K:=
 fok A8 Vr Hs func75 h
def Nh:Nat→Option (List Bool):=CN [(6,mk 53 0 [0,5])]
def Ot (p:List Bool)(n:Nat):List AV→AH→Kf→Prop:=AL prog A8 Vr A1 A1 Nh (sub p (AP f28)) n
def Ng (x0 x5:AV)(H:AH)(K:KT):Prop:=lp (mk 53 0 [0,5]) (Ot [tT,tT,fF,tT,fF,fF] 7) [x0,x5] H (Be 0 (Bb (Ot [tT,tT,tT] 13) (Ba prog f28.results.toList K)))
def Le (R6:RT)(x0 x5:AV)(H:AH)(K:KT):Prop:=
 bO (AY x0) λv0=>
 bO (Ar .lss x5 v0) λv1=>
 bB v1 λt2=>bI t2 (
 bO (Bq 10 x0 x5) λv3=>
 bO (Am true 10 H v3) λv4=>
 bH (A9 H (.agg [u0Z,u0Z,u0Z,(I 0),(I 0),(I 0),Ac,(B false),Ac,Ac])) λv5 H6=>
 bS (AJ 10 H6 v5 v4) λH7=>
 bO (Aa 6 v5) λv8=>
 bO (Am false 1 H7 v8) λv9=>
 bO (AY v9) λv10=>
 bO (Ar .gtr v10 (I 60)) λv11=>
 bG v11 true λw12=>
 gO w12 (Aa 6 v5) λv13=>
 bG v11 true λw14=>
 gO w14 (Am false 1 H7 v13) λv15=>
 bG v11 true λw16=>
 gO w16 (AY v15) λv17=>
 bG v11 true λw18=>
 gO w18 (Ar .neq v17 (I 4097)) λv19=>
 bO (Ay v11 v19 (B false)) λv20=>
 bG v20 false λw21=>
 gO w21 (Aa 5 v5) λv22=>
 bG v20 false λw23=>
 gO w23 (Am false 1 H7 v22) λv24=>
 bG v20 false λw25=>
 gO w25 (Ar .gtr v24 (I 200)) λv26=>
 bG v20 false λw27=>
 gO w27 (some v26) λv28=>
 bG v28 true λw29=>
 gO w29 (Aa 5 v5) λv30=>
 bG v28 true λw31=>
 gO w31 (Am false 1 H7 v30) λv32=>
 bG v28 true λw33=>
 gO w33 (Ar .leq v32 (I 32768)) λv34=>
 bG v20 false λw35=>
 gO w35 (Ay v28 v34 (B false)) λv36=>
 bO (Ay v20 (B true) v36) λv37=>
 bG v37 false λw38=>
 gO w38 (Aa 8 v5) λv39=>
 bG v37 false λw40=>
 gO w40 (Am false 1 H7 v39) λv41=>
 bG v37 false λw42=>
 gO w42 (AY v41) λv43=>
 bG v37 false λw44=>
 gO w44 (Ar .gtr v43 (I 200)) λv45=>
 bO (Ay v37 (B true) v45) λv46=>
 bG v46 false λw47=>
 gO w47 (Aa 9 v5) λv48=>
 bG v46 false λw49=>
 gO w49 (Am false 1 H7 v48) λv50=>
 bG v46 false λw51=>
 gO w51 (AY v50) λv52=>
 bG v46 false λw53=>
 gO w53 (Ar .gtr v52 (I 30)) λv54=>
 bO (Ay v46 (B true) v54) λv55=>
 bB v55 λt56=>bI t56 (
 K (B false) H7)
 (bO (Ar .add x5 (I 1)) λv57=>
 R6 [x0,v57] H7))
 (K (B true) H)
theorem P0 {K:KT}:wE (λR x0 x5 H=>Le R x0 x5 H K) (λx0 x5 H=>Ng x0 x5 H K):=nT (A2 _ _) (λ_ _ _ _=>by kernel_rfl)
def Q9 (a0 a1:AV)(H:AH)(K:KT):Prop:=
 bO (AY a0) λv0=>
 bO (Ar .gtr v0 a1) λv1=>
 bB v1 λt2=>bI t2 (
 K (B false) H)
 (Ng a0 (I 0) H K)
theorem Ut {a0 a1:AV}{H:AH}{K:KT}(h:Q9 a0 a1 H K):Co 28 [a0,a1] H K:=
 fok A8 Vr Nh func28 h
def Oo:Dh:=VT [(25,[(8,none),(10,none)]),(27,[(12,none),(14,none),(16,none),(18,none)]),(29,[(10,none),(12,none),(14,none)]),(35,[(6,none)]),(39,[(7,none)])]
def Oq:Nat→Option (List Bool):=CN [(43,mk 346 0 [21,22,23,24,25,26,27,28,29,30,31,32]),(42,mk 346 0 [1,5,21,22,23,24,25,26,27,28,29,30]),(41,mk 346 0 [0,1,5,21,22,23,24,25,26,27,28]),(40,mk 346 0 [0,1,5,21,22,23,24,25,26]),(39,mk 346 0 [0,1,5,21,22,23,24]),(38,mk 346 0 [0,1,5,21,22]),(37,mk 346 0 [1,5]),(36,mk 346 0 [0,1,5,336]),(2,mk 346 0 []),(35,mk 346 0 [1,5]),(34,mk 346 0 [0,1,5,41,326]),(32,mk 346 0 [0,1,5,41,313]),(30,mk 346 0 [0,1,5,41,306]),(28,mk 346 0 [0,1,5,41,295]),(26,mk 346 0 [0,1,5,7,41,286]),(24,mk 346 0 [0,1,5,7,8,41,275]),(22,mk 346 0 [0,1,5,7,8,41,256]),(20,mk 346 0 [0,1,5,7,8,41,233]),(18,mk 346 0 [0,1,5,7,8,41,218]),(16,mk 346 0 [17,18,19,20]),(15,mk 346 0 [1,5,17,18]),(14,mk 346 0 [0,1,5,7,8,41,184]),(12,mk 346 0 [13,14,15,16]),(11,mk 346 0 [1,5,13,14]),(9,mk 346 0 [0,1,5,7,8,41,151]),(10,mk 346 0 [0,1,5,7,8,41,151]),(7,mk 346 0 [9,10,11,12]),(6,mk 346 0 [1,5,7,9,10]),(4,mk 346 0 [0,1,5,7,8,41,120])]
def Aj (p:List Bool)(n:Nat):List AV→AH→Kf→Prop:=AL prog Oo Vr A1 A1 Oq (sub p (AP f30)) n
def On (x9 x10 x11 x12:AV)(H:AH)(K:KT):Prop:=jn (mk 346 0 [9,10,11,12]) (Aj [tT,tT,fF,tT,fF,tT,fF,tT,tT] 8) [x9,x10,x11,x12] H (Be 0 (Bb (DO (mk 346 0 []) (Aj [tT,tT,tT] 45)) (Ba prog f30.results.toList K)))
def Om (x1 x5 x7 x9 x10:AV)(H:AH)(K:KT):Prop:=jn (mk 346 0 [1,5,7,9,10]) (Aj [tT,tT,fF,tT,fF,tT,fF,tT] 7) [x1,x5,x7,x9,x10] H (Be 0 (Bb (DO (mk 346 0 []) (Aj [tT,tT,tT] 45)) (Ba prog f30.results.toList K)))
def MI (x13 x14 x15 x16:AV)(H:AH)(K:KT):Prop:=jn (mk 346 0 [13,14,15,16]) (Aj [tT,tT,fF,tT,fF,tT,tT,tT,fF,tT,tT] 13) [x13,x14,x15,x16] H (Be 0 (Bb (DO (mk 346 0 []) (Aj [tT,tT,tT] 45)) (Ba prog f30.results.toList K)))
def MH (x1 x5 x13 x14:AV)(H:AH)(K:KT):Prop:=jn (mk 346 0 [1,5,13,14]) (Aj [tT,tT,fF,tT,fF,tT,tT,tT,fF,tT] 12) [x1,x5,x13,x14] H (Be 0 (Bb (DO (mk 346 0 []) (Aj [tT,tT,tT] 45)) (Ba prog f30.results.toList K)))
def ML (x17 x18 x19 x20:AV)(H:AH)(K:KT):Prop:=jn (mk 346 0 [17,18,19,20]) (Aj [tT,tT,fF,tT,fF,tT,tT,tT,tT,tT,fF,tT,tT] 17) [x17,x18,x19,x20] H (Be 0 (Bb (DO (mk 346 0 []) (Aj [tT,tT,tT] 45)) (Ba prog f30.results.toList K)))
def MK (x1 x5 x17 x18:AV)(H:AH)(K:KT):Prop:=jn (mk 346 0 [1,5,17,18]) (Aj [tT,tT,fF,tT,fF,tT,tT,tT,tT,tT,fF,tT] 16) [x1,x5,x17,x18] H (Be 0 (Bb (DO (mk 346 0 []) (Aj [tT,tT,tT] 45)) (Ba prog f30.results.toList K)))
def Jo (H:AH)(K:KT):Prop:=jn (mk 346 0 []) (Aj [tT,tT,tT] 45) [] H (Ba prog f30.results.toList K)
def MV (x1 x5:AV)(H:AH)(K:KT):Prop:=jn (mk 346 0 [1,5]) (Aj [tT,tT,fF,tT,fF,tT,tT,tT,tT,tT,tT,tT,tT,tT,tT,tT,tT,tT,tT,tT,tT,tT,tT,tT,tT,tT,tT,tT,fF,tT] 36) [x1,x5] H (Be 0 (Bb (DO (mk 346 0 []) (Aj [tT,tT,tT] 45)) (Ba prog f30.results.toList K)))
def MX (x1 x5:AV)(H:AH)(K:KT):Prop:=jn (mk 346 0 [1,5]) (Aj [tT,tT,fF,tT,fF,tT,tT,tT,tT,tT,tT,tT,tT,tT,tT,tT,tT,tT,tT,tT,tT,tT,tT,tT,tT,tT,tT,tT,tT,tT,fF,tT] 38) [x1,x5] H (Be 0 (Bb (DO (mk 346 0 []) (Aj [tT,tT,tT] 45)) (Ba prog f30.results.toList K)))
def Nf (x21 x22 x23 x24 x25 x26 x27 x28 x29 x30 x31 x32:AV)(H:AH)(K:KT):Prop:=jn (mk 346 0 [21,22,23,24,25,26,27,28,29,30,31,32]) (Aj [tT,tT,fF,tT,fF,tT,tT,tT,tT,tT,tT,tT,tT,tT,tT,tT,tT,tT,tT,tT,tT,tT,tT,tT,tT,tT,tT,tT,tT,tT,tT,tT,tT,tT,tT,tT,tT] 44) [x21,x22,x23,x24,x25,x26,x27,x28,x29,x30,x31,x32] H (Be 0 (Bb (DO (mk 346 0 []) (Aj [tT,tT,tT] 45)) (Ba prog f30.results.toList K)))
def Nc (x1 x5 x21 x22 x23 x24 x25 x26 x27 x28 x29 x30:AV)(H:AH)(K:KT):Prop:=jn (mk 346 0 [1,5,21,22,23,24,25,26,27,28,29,30]) (Aj [tT,tT,fF,tT,fF,tT,tT,tT,tT,tT,tT,tT,tT,tT,tT,tT,tT,tT,tT,tT,tT,tT,tT,tT,tT,tT,tT,tT,tT,tT,tT,tT,tT,tT,tT,tT] 43) [x1,x5,x21,x22,x23,x24,x25,x26,x27,x28,x29,x30] H (Be 0 (Bb (DO (mk 346 0 []) (Aj [tT,tT,tT] 45)) (Ba prog f30.results.toList K)))
def Nb (x0 x1 x5 x21 x22 x23 x24 x25 x26 x27 x28:AV)(H:AH)(K:KT):Prop:=jn (mk 346 0 [0,1,5,21,22,23,24,25,26,27,28]) (Aj [tT,tT,fF,tT,fF,tT,tT,tT,tT,tT,tT,tT,tT,tT,tT,tT,tT,tT,tT,tT,tT,tT,tT,tT,tT,tT,tT,tT,tT,tT,tT,tT,tT,tT,tT] 42) [x0,x1,x5,x21,x22,x23,x24,x25,x26,x27,x28] H (Be 0 (Bb (DO (mk 346 0 []) (Aj [tT,tT,tT] 45)) (Ba prog f30.results.toList K)))
def Na (x0 x1 x5 x21 x22 x23 x24 x25 x26:AV)(H:AH)(K:KT):Prop:=jn (mk 346 0 [0,1,5,21,22,23,24,25,26]) (Aj [tT,tT,fF,tT,fF,tT,tT,tT,tT,tT,tT,tT,tT,tT,tT,tT,tT,tT,tT,tT,tT,tT,tT,tT,tT,tT,tT,tT,tT,tT,tT,tT,tT,tT] 41) [x0,x1,x5,x21,x22,x23,x24,x25,x26] H (Be 0 (Bb (DO (mk 346 0 []) (Aj [tT,tT,tT] 45)) (Ba prog f30.results.toList K)))
def MZ (x0 x1 x5 x21 x22 x23 x24:AV)(H:AH)(K:KT):Prop:=jn (mk 346 0 [0,1,5,21,22,23,24]) (Aj [tT,tT,fF,tT,fF,tT,tT,tT,tT,tT,tT,tT,tT,tT,tT,tT,tT,tT,tT,tT,tT,tT,tT,tT,tT,tT,tT,tT,tT,tT,tT,tT,tT] 40) [x0,x1,x5,x21,x22,x23,x24] H (Be 0 (Bb (DO (mk 346 0 []) (Aj [tT,tT,tT] 45)) (Ba prog f30.results.toList K)))
def MY (x0 x1 x5 x21 x22:AV)(H:AH)(K:KT):Prop:=jn (mk 346 0 [0,1,5,21,22]) (Aj [tT,tT,fF,tT,fF,tT,tT,tT,tT,tT,tT,tT,tT,tT,tT,tT,tT,tT,tT,tT,tT,tT,tT,tT,tT,tT,tT,tT,tT,tT,tT,tT] 39) [x0,x1,x5,x21,x22] H (Be 0 (Bb (DO (mk 346 0 []) (Aj [tT,tT,tT] 45)) (Ba prog f30.results.toList K)))
def MW (x0 x1 x5 x336:AV)(H:AH)(K:KT):Prop:=jn (mk 346 0 [0,1,5,336]) (Aj [tT,tT,fF,tT,fF,tT,tT,tT,tT,tT,tT,tT,tT,tT,tT,tT,tT,tT,tT,tT,tT,tT,tT,tT,tT,tT,tT,tT,tT,tT] 37) [x0,x1,x5,x336] H (Be 0 (Bb (DO (mk 346 0 []) (Aj [tT,tT,tT] 45)) (Ba prog f30.results.toList K)))
def MU (x0 x1 x5 x41 x326:AV)(H:AH)(K:KT):Prop:=jn (mk 346 0 [0,1,5,41,326]) (Aj [tT,tT,fF,tT,fF,tT,tT,tT,tT,tT,tT,tT,tT,tT,tT,tT,tT,tT,tT,tT,tT,tT,tT,tT,tT,tT,tT,tT] 35) [x0,x1,x5,x41,x326] H (Be 0 (Bb (DO (mk 346 0 []) (Aj [tT,tT,tT] 45)) (Ba prog f30.results.toList K)))
def MT (x0 x1 x5 x41 x313:AV)(H:AH)(K:KT):Prop:=jn (mk 346 0 [0,1,5,41,313]) (Aj [tT,tT,fF,tT,fF,tT,tT,tT,tT,tT,tT,tT,tT,tT,tT,tT,tT,tT,tT,tT,tT,tT,tT,tT,tT,tT] 33) [x0,x1,x5,x41,x313] H (Be 0 (Bb (DO (mk 346 0 []) (Aj [tT,tT,tT] 45)) (Ba prog f30.results.toList K)))
def MS (x0 x1 x5 x41 x306:AV)(H:AH)(K:KT):Prop:=jn (mk 346 0 [0,1,5,41,306]) (Aj [tT,tT,fF,tT,fF,tT,tT,tT,tT,tT,tT,tT,tT,tT,tT,tT,tT,tT,tT,tT,tT,tT,tT,tT] 31) [x0,x1,x5,x41,x306] H (Be 0 (Bb (DO (mk 346 0 []) (Aj [tT,tT,tT] 45)) (Ba prog f30.results.toList K)))
def MR (x0 x1 x5 x41 x295:AV)(H:AH)(K:KT):Prop:=jn (mk 346 0 [0,1,5,41,295]) (Aj [tT,tT,fF,tT,fF,tT,tT,tT,tT,tT,tT,tT,tT,tT,tT,tT,tT,tT,tT,tT,tT,tT] 29) [x0,x1,x5,x41,x295] H (Be 0 (Bb (DO (mk 346 0 []) (Aj [tT,tT,tT] 45)) (Ba prog f30.results.toList K)))
def MQ (x0 x1 x5 x7 x41 x286:AV)(H:AH)(K:KT):Prop:=jn (mk 346 0 [0,1,5,7,41,286]) (Aj [tT,tT,fF,tT,fF,tT,tT,tT,tT,tT,tT,tT,tT,tT,tT,tT,tT,tT,tT,tT] 27) [x0,x1,x5,x7,x41,x286] H (Be 0 (Bb (DO (mk 346 0 []) (Aj [tT,tT,tT] 45)) (Ba prog f30.results.toList K)))
def MP (x0 x1 x5 x7 x8 x41 x275:AV)(H:AH)(K:KT):Prop:=jn (mk 346 0 [0,1,5,7,8,41,275]) (Aj [tT,tT,fF,tT,fF,tT,tT,tT,tT,tT,tT,tT,tT,tT,tT,tT,tT,tT] 25) [x0,x1,x5,x7,x8,x41,x275] H (Be 0 (Bb (DO (mk 346 0 []) (Aj [tT,tT,tT] 45)) (Ba prog f30.results.toList K)))
def MO (x0 x1 x5 x7 x8 x41 x256:AV)(H:AH)(K:KT):Prop:=jn (mk 346 0 [0,1,5,7,8,41,256]) (Aj [tT,tT,fF,tT,fF,tT,tT,tT,tT,tT,tT,tT,tT,tT,tT,tT] 23) [x0,x1,x5,x7,x8,x41,x256] H (Be 0 (Bb (DO (mk 346 0 []) (Aj [tT,tT,tT] 45)) (Ba prog f30.results.toList K)))
def MN (x0 x1 x5 x7 x8 x41 x233:AV)(H:AH)(K:KT):Prop:=jn (mk 346 0 [0,1,5,7,8,41,233]) (Aj [tT,tT,fF,tT,fF,tT,tT,tT,tT,tT,tT,tT,tT,tT] 21) [x0,x1,x5,x7,x8,x41,x233] H (Be 0 (Bb (DO (mk 346 0 []) (Aj [tT,tT,tT] 45)) (Ba prog f30.results.toList K)))
def MM (x0 x1 x5 x7 x8 x41 x218:AV)(H:AH)(K:KT):Prop:=jn (mk 346 0 [0,1,5,7,8,41,218]) (Aj [tT,tT,fF,tT,fF,tT,tT,tT,tT,tT,tT,tT] 19) [x0,x1,x5,x7,x8,x41,x218] H (Be 0 (Bb (DO (mk 346 0 []) (Aj [tT,tT,tT] 45)) (Ba prog f30.results.toList K)))
def MJ (x0 x1 x5 x7 x8 x41 x184:AV)(H:AH)(K:KT):Prop:=jn (mk 346 0 [0,1,5,7,8,41,184]) (Aj [tT,tT,fF,tT,fF,tT,tT,tT,tT,tT] 15) [x0,x1,x5,x7,x8,x41,x184] H (Be 0 (Bb (DO (mk 346 0 []) (Aj [tT,tT,tT] 45)) (Ba prog f30.results.toList K)))
def Jq (x0 x1 x5 x7 x8 x41 x151:AV)(H:AH)(K:KT):Prop:=jn (mk 346 0 [0,1,5,7,8,41,151]) (Aj [tT,tT,fF,tT,fF,tT,tT,tT] 11) [x0,x1,x5,x7,x8,x41,x151] H (Be 0 (Bb (DO (mk 346 0 []) (Aj [tT,tT,tT] 45)) (Ba prog f30.results.toList K)))
def MG (x0 x1 x5 x7 x8 x41 x151:AV)(H:AH)(K:KT):Prop:=jn (mk 346 0 [0,1,5,7,8,41,151]) (Aj [tT,tT,fF,tT,fF,tT,tT,fF,tT] 11) [x0,x1,x5,x7,x8,x41,x151] H (Bb (DO (mk 346 0 [0,1,5,7,8,41,151]) (Aj [tT,tT,fF,tT,fF,tT,tT,tT] 11)) (Be 0 (Bb (DO (mk 346 0 []) (Aj [tT,tT,tT] 45)) (Ba prog f30.results.toList K))))
def Jp (x0 x1 x5 x7 x8 x41 x120:AV)(H:AH)(K:KT):Prop:=jn (mk 346 0 [0,1,5,7,8,41,120]) (Aj [tT,tT,fF,tT,fF,tT] 6) [x0,x1,x5,x7,x8,x41,x120] H (Be 0 (Bb (DO (mk 346 0 []) (Aj [tT,tT,tT] 45)) (Ba prog f30.results.toList K)))
def HB (x9 x10 x11 x12:AV)(H:AH)(K:KT):Prop:=
 bO (Ar .eql x9 x11) λv0=>
 bG v0 true λw1=>
 gO w1 (some x10) λv2=>
 bG v0 true λw3=>
 gO w3 (some x12) λv4=>
 bG v0 true λw5=>
 gO w5 (Ar .eql v2 v4) λv6=>
 bO (Ay v0 v6 (B false)) λv7=>
 K v7 H
theorem Ld (x9 x10 x11 x12:AV)(H:AH)(K:KT):On x9 x10 x11 x12 H K=HB x9 x10 x11 x12 H K:=(B3 _ _ _ _ _).trans (by kernel_rfl)
def HA (x1 x5 x7 x9 x10:AV)(H:AH)(K:KT):Prop:=
 bO (Aa 0 x5) λv0=>
 bO (Am false 1 H v0) λv1=>
 bO (Ar .rem v1 (.lit (.int .u8 16))) λv2=>
 bO (Ar .eql v2 u0Z) λv3=>
 bC (BCall prog 14 [x1,x7,v3] H) λv4 H5=>
 bO (Ai v4 0) λv6=>
 bO (Ai v4 1) λv7=>
 On x9 x10 v6 v7 H5 K
theorem Lc (x1 x5 x7 x9 x10:AV)(H:AH)(K:KT):Om x1 x5 x7 x9 x10 H K=HA x1 x5 x7 x9 x10 H K:=(B3 _ _ _ _ _).trans (by kernel_rfl)
def GC (x13 x14 x15 x16:AV)(H:AH)(K:KT):Prop:=
 bO (Ar .eql x13 x15) λv0=>
 bG v0 true λw1=>
 gO w1 (some x14) λv2=>
 bG v0 true λw3=>
 gO w3 (some x16) λv4=>
 bG v0 true λw5=>
 gO w5 (Ar .eql v2 v4) λv6=>
 bO (Ay v0 v6 (B false)) λv7=>
 K v7 H
theorem JU (x13 x14 x15 x16:AV)(H:AH)(K:KT):MI x13 x14 x15 x16 H K=GC x13 x14 x15 x16 H K:=(B3 _ _ _ _ _).trans (by kernel_rfl)
def GB (x1 x5 x13 x14:AV)(H:AH)(K:KT):Prop:=
 bO (Aa 3 x5) λv0=>
 bO (Am false 1 H v0) λv1=>
 bO (Aa 4 x5) λv2=>
 bO (Am false 1 H v2) λv3=>
 bO (Aa 6 x5) λv4=>
 bO (Am false 1 H v4) λv5=>
 bC (BCall prog 66 [x1,v1,v3,v5] H) λv6 H7=>
 bO (Ai v6 0) λv8=>
 bO (Ai v6 1) λv9=>
 MI x13 x14 v8 v9 H7 K
theorem JT (x1 x5 x13 x14:AV)(H:AH)(K:KT):MH x1 x5 x13 x14 H K=GB x1 x5 x13 x14 H K:=(B3 _ _ _ _ _).trans (by kernel_rfl)
def KR (x17 x18 x19 x20:AV)(H:AH)(K:KT):Prop:=
 bO (vL H x17) λv0=>
 bO (vL H x19) λv1=>
 bO (Xq .eql v0 v1) λv2=>
 bG v2 true λw3=>
 gO w3 (some x18) λv4=>
 bG v2 true λw5=>
 gO w5 (some x20) λv6=>
 bG v2 true λw7=>
 gO w7 (Ar .eql v4 v6) λv8=>
 bO (Ay v2 v8 (B false)) λv9=>
 K v9 H
theorem QK (x17 x18 x19 x20:AV)(H:AH)(K:KT):ML x17 x18 x19 x20 H K=KR x17 x18 x19 x20 H K:=(B3 _ _ _ _ _).trans (by kernel_rfl)
def KQ (x1 x5 x17 x18:AV)(H:AH)(K:KT):Prop:=
 bO (Aa 3 x5) λv0=>
 bO (Am false 1 H v0) λv1=>
 bO (Aa 4 x5) λv2=>
 bO (Am false 1 H v2) λv3=>
 bO (Aa 5 x5) λv4=>
 bO (Am false 1 H v4) λv5=>
 bC (BCall prog 25 [x1,v1,v3,v5] H) λv6 H7=>
 bO (Ai v6 0) λv8=>
 bO (Ai v6 1) λv9=>
 ML x17 x18 v8 v9 H7 K
theorem QJ (x1 x5 x17 x18:AV)(H:AH)(K:KT):MK x1 x5 x17 x18 H K=KQ x1 x5 x17 x18 H K:=(B3 _ _ _ _ _).trans (by kernel_rfl)
def Hz (H:AH)(K:KT):Prop:=
 K (B true) H
theorem KS (H:AH)(K:KT):Jo H K=Hz H K:=(B3 _ _ _ _ _).trans (by kernel_rfl)
def KU (x1 x5:AV)(H:AH)(K:KT):Prop:=
 bO (Aa 5 x5) λv0=>
 bO (Am false 1 H v0) λv1=>
 bC (BCall prog 16 [x1,v1] H) λv2 H3=>
 Jo H3 K
theorem QL (x1 x5:AV)(H:AH)(K:KT):MV x1 x5 H K=KU x1 x5 H K:=(B3 _ _ _ _ _).trans (by kernel_rfl)
def KV (x1 x5:AV)(H:AH)(K:KT):Prop:=
 bO (Aa 8 x5) λv0=>
 bO (Am false 1 H v0) λv1=>
 bC (BCall prog 76 [x1,v1] H) λv2 H3=>
 Jo H3 K
theorem QM (x1 x5:AV)(H:AH)(K:KT):MX x1 x5 H K=KV x1 x5 H K:=(B3 _ _ _ _ _).trans (by kernel_rfl)
def Lb (x21 x22 x23 x24 x25 x26 x27 x28 x29 x30 x31 x32:AV)(H:AH)(K:KT):Prop:=
 bO (Ar .eql x21 x23) λv0=>
 bG v0 true λw1=>
 gO w1 (some x22) λv2=>
 bG v0 true λw3=>
 gO w3 (some x24) λv4=>
 bG v0 true λw5=>
 gO w5 (Ar .eql v2 v4) λv6=>
 bO (Ay v0 v6 (B false)) λv7=>
 bG v7 true λw8=>
 gO w8 (some x25) λv9=>
 bG v7 true λw10=>
 gO w10 (some x27) λv11=>
 bG v7 true λw12=>
 gO w12 (Ar .eql v9 v11) λv13=>
 bO (Ay v7 v13 (B false)) λv14=>
 bG v14 true λw15=>
 gO w15 (some x26) λv16=>
 bG v14 true λw17=>
 gO w17 (some x28) λv18=>
 bG v14 true λw19=>
 gO w19 (Ar .eql v16 v18) λv20=>
 bO (Ay v14 v20 (B false)) λv21=>
 bG v21 true λw22=>
 gO w22 (some x29) λv23=>
 bG v21 true λw24=>
 gO w24 (some x31) λv25=>
 bG v21 true λw26=>
 gO w26 (Ar .eql v23 v25) λv27=>
 bO (Ay v21 v27 (B false)) λv28=>
 bG v28 true λw29=>
 gO w29 (some x30) λv30=>
 bG v28 true λw31=>
 gO w31 (some x32) λv32=>
 bG v28 true λw33=>
 gO w33 (Ar .eql v30 v32) λv34=>
 bO (Ay v28 v34 (B false)) λv35=>
 K v35 H
theorem QS (x21 x22 x23 x24 x25 x26 x27 x28 x29 x30 x31 x32:AV)(H:AH)(K:KT):Nf x21 x22 x23 x24 x25 x26 x27 x28 x29 x30 x31 x32 H K=Lb x21 x22 x23 x24 x25 x26 x27 x28 x29 x30 x31 x32 H K:=(B3 _ _ _ _ _).trans (by kernel_rfl)
def La (x1 x5 x21 x22 x23 x24 x25 x26 x27 x28 x29 x30:AV)(H:AH)(K:KT):Prop:=
 bO (Aa 3 x5) λv0=>
 bO (Am false 1 H v0) λv1=>
 bO (Aa 4 x5) λv2=>
 bO (Am false 1 H v2) λv3=>
 bC (BCall prog 81 [x1,v1,v3] H) λv4 H5=>
 bO (Ai v4 0) λv6=>
 bO (Ai v4 1) λv7=>
 Nf x21 x22 x23 x24 x25 x26 x27 x28 x29 x30 v6 v7 H5 K
theorem QR (x1 x5 x21 x22 x23 x24 x25 x26 x27 x28 x29 x30:AV)(H:AH)(K:KT):Nc x1 x5 x21 x22 x23 x24 x25 x26 x27 x28 x29 x30 H K=La x1 x5 x21 x22 x23 x24 x25 x26 x27 x28 x29 x30 H K:=(B3 _ _ _ _ _).trans (by kernel_rfl)
def KZ (x0 x1 x5 x21 x22 x23 x24 x25 x26 x27 x28:AV)(H:AH)(K:KT):Prop:=
 bO (Aa 3 x5) λv0=>
 bO (Am false 1 H v0) λv1=>
 bO (Aa 4 x5) λv2=>
 bO (Am false 1 H v2) λv3=>
 bC (BCall prog 80 [x0,v1,v3] H) λv4 H5=>
 bO (Ai v4 0) λv6=>
 bO (Ai v4 1) λv7=>
 Nc x1 x5 x21 x22 x23 x24 x25 x26 x27 x28 v6 v7 H5 K
theorem QQ (x0 x1 x5 x21 x22 x23 x24 x25 x26 x27 x28:AV)(H:AH)(K:KT):Nb x0 x1 x5 x21 x22 x23 x24 x25 x26 x27 x28 H K=KZ x0 x1 x5 x21 x22 x23 x24 x25 x26 x27 x28 H K:=(B3 _ _ _ _ _).trans (by kernel_rfl)
def KY (x0 x1 x5 x21 x22 x23 x24 x25 x26:AV)(H:AH)(K:KT):Prop:=
 bO (Aa 3 x5) λv0=>
 bO (Am false 1 H v0) λv1=>
 bO (Aa 4 x5) λv2=>
 bO (Am false 1 H v2) λv3=>
 bC (BCall prog 79 [x1,v1,v3] H) λv4 H5=>
 bO (Ai v4 0) λv6=>
 bO (Ai v4 1) λv7=>
 Nb x0 x1 x5 x21 x22 x23 x24 x25 x26 v6 v7 H5 K
theorem QP (x0 x1 x5 x21 x22 x23 x24 x25 x26:AV)(H:AH)(K:KT):Na x0 x1 x5 x21 x22 x23 x24 x25 x26 H K=KY x0 x1 x5 x21 x22 x23 x24 x25 x26 H K:=(B3 _ _ _ _ _).trans (by kernel_rfl)
def KX (x0 x1 x5 x21 x22 x23 x24:AV)(H:AH)(K:KT):Prop:=
 bO (Aa 3 x5) λv0=>
 bO (Am false 1 H v0) λv1=>
 bO (Aa 4 x5) λv2=>
 bO (Am false 1 H v2) λv3=>
 bC (BCall prog 78 [x0,v1,v3] H) λv4 H5=>
 bO (Ai v4 0) λv6=>
 bO (Ai v4 1) λv7=>
 Na x0 x1 x5 x21 x22 x23 x24 v6 v7 H5 K
theorem QO (x0 x1 x5 x21 x22 x23 x24:AV)(H:AH)(K:KT):MZ x0 x1 x5 x21 x22 x23 x24 H K=KX x0 x1 x5 x21 x22 x23 x24 H K:=(B3 _ _ _ _ _).trans (by kernel_rfl)
def KW (x0 x1 x5 x21 x22:AV)(H:AH)(K:KT):Prop:=
 bO (Aa 3 x5) λv0=>
 bO (Am false 1 H v0) λv1=>
 bC (BCall prog 77 [x1,v1] H) λv2 H3=>
 bO (Ai v2 0) λv4=>
 bO (Ai v2 1) λv5=>
 MZ x0 x1 x5 x21 x22 v4 v5 H3 K
theorem QN (x0 x1 x5 x21 x22:AV)(H:AH)(K:KT):MY x0 x1 x5 x21 x22 H K=KW x0 x1 x5 x21 x22 H K:=(B3 _ _ _ _ _).trans (by kernel_rfl)
def GD (x0 x1 x5 x336:AV)(H:AH)(K:KT):Prop:=
 bB x336 λt0=>bI t0 (
 bO (Aa 8 x5) λv1=>
 bO (Am false 1 H v1) λv2=>
 bC (BCall prog 40 [x0,v2] H) λv3 H4=>
 MX x1 x5 H4 K)
 (bO (Aa 3 x5) λv5=>
 bO (Am false 1 H v5) λv6=>
 bC (BCall prog 46 [x0,v6] H) λv7 H8=>
 bO (Ai v7 0) λv9=>
 bO (Ai v7 1) λv10=>
 MY x0 x1 x5 v9 v10 H8 K)
theorem JV (x0 x1 x5 x336:AV)(H:AH)(K:KT):MW x0 x1 x5 x336 H K=GD x0 x1 x5 x336 H K:=(B3 _ _ _ _ _).trans (by kernel_rfl)
def EK (x0 x1 x5 x41 x326:AV)(H:AH)(K:KT):Prop:=
 bB x326 λt0=>bI t0 (
 bO (Aa 5 x5) λv1=>
 bO (Am false 1 H v1) λv2=>
 bC (BCall prog 15 [x0,v2] H) λv3 H4=>
 MV x1 x5 H4 K)
 (bO (Ar .eql x41 (.lit (.int .u8 14))) λv5=>
 MW x0 x1 x5 v5 H K)
theorem Gf (x0 x1 x5 x41 x326:AV)(H:AH)(K:KT):MU x0 x1 x5 x41 x326 H K=EK x0 x1 x5 x41 x326 H K:=(B3 _ _ _ _ _).trans (by kernel_rfl)
def DG (x0 x1 x5 x41 x313:AV)(H:AH)(K:KT):Prop:=
 bB x313 λt0=>bI t0 (
 bO (Aa 3 x5) λv1=>
 bO (Am false 1 H v1) λv2=>
 bO (U3 1 1 (BI [(I 0)] 1) [(0,1,v2)]) λv3=>
 bC (BCall prog 39 [x0,v3] H) λv4 H5=>
 bO (Aa 3 x5) λv6=>
 bO (Am false 1 H5 v6) λv7=>
 bO (U3 1 1 (BI [(I 0)] 1) [(0,1,v7)]) λv8=>
 bC (BCall prog 75 [x1,v8] H5) λv9 H10=>
 bO (Ar .eql v4 v9) λv11=>
(Am false 1 H v6=some v7)∧
 K v11 H10)
 (bO (Ar .eql x41 (.lit (.int .u8 13))) λv12=>
 MU x0 x1 x5 x41 v12 H K)
theorem E2 (x0 x1 x5 x41 x313:AV)(H:AH)(K:KT):MT x0 x1 x5 x41 x313 H K=DG x0 x1 x5 x41 x313 H K:=(B3 _ _ _ _ _).trans (by kernel_rfl)
def CY (x0 x1 x5 x41 x306:AV)(H:AH)(K:KT):Prop:=
 bB x306 λt0=>bI t0 (
 bC (BCall prog 39 [x0,Ac] H) λv1 H2=>
 bC (BCall prog 75 [x1,Ac] H2) λv3 H4=>
 bO (Ar .eql v1 v3) λv5=>
 K v5 H4)
 (bO (Ar .eql x41 (.lit (.int .u8 12))) λv6=>
 MT x0 x1 x5 x41 v6 H K)
theorem Dy (x0 x1 x5 x41 x306:AV)(H:AH)(K:KT):MS x0 x1 x5 x41 x306 H K=CY x0 x1 x5 x41 x306 H K:=(B3 _ _ _ _ _).trans (by kernel_rfl)
def Cu (x0 x1 x5 x41 x295:AV)(H:AH)(K:KT):Prop:=
 bB x295 λt0=>bI t0 (
 bO (Aa 9 x5) λv1=>
 bO (Am false 1 H v1) λv2=>
 bC (BCall prog 39 [x0,v2] H) λv3 H4=>
 bO (Aa 9 x5) λv5=>
 bO (Am false 1 H4 v5) λv6=>
 bC (BCall prog 75 [x1,v6] H4) λv7 H8=>
 bO (Ar .eql v3 v7) λv9=>
(Am false 1 H v5=some v6)∧
 K v9 H8)
 (bO (Ar .eql x41 (.lit (.int .u8 11))) λv10=>
 MS x0 x1 x5 x41 v10 H K)
theorem CH (x0 x1 x5 x41 x295:AV)(H:AH)(K:KT):MR x0 x1 x5 x41 x295 H K=Cu x0 x1 x5 x41 x295 H K:=(B3 _ _ _ _ _).trans (by kernel_rfl)
def BQ (x0 x1 x5 x7 x41 x286:AV)(H:AH)(K:KT):Prop:=
 bB x286 λt0=>bI t0 (
 bC (BCall prog 47 [x0,x7] H) λv1 H2=>
 bC (BCall prog 74 [x1,x7] H2) λv3 H4=>
 bO (Ar .eql v1 v3) λv5=>
 K v5 H4)
 (bO (Ar .eql x41 (.lit (.int .u8 10))) λv6=>
 MR x0 x1 x5 x41 v6 H K)
theorem Cc (x0 x1 x5 x7 x41 x286:AV)(H:AH)(K:KT):MQ x0 x1 x5 x7 x41 x286 H K=BQ x0 x1 x5 x7 x41 x286 H K:=(B3 _ _ _ _ _).trans (by kernel_rfl)
def B7 (x0 x1 x5 x7 x8 x41 x275:AV)(H:AH)(K:KT):Prop:=
 bB x275 λt0=>bI t0 (
 bC (BCall prog 48 [x0,x7,x8] H) λv1 H2=>
 bC (BCall prog 73 [x1,x7,x8] H2) λv3 H4=>
 bO (Ar .eql v1 v3) λv5=>
 K v5 H4)
 (bO (Ar .eql x41 (.lit (.int .u8 9))) λv6=>
 MQ x0 x1 x5 x7 x41 v6 H K)
theorem B9 (x0 x1 x5 x7 x8 x41 x275:AV)(H:AH)(K:KT):MP x0 x1 x5 x7 x8 x41 x275 H K=B7 x0 x1 x5 x7 x8 x41 x275 H K:=(B3 _ _ _ _ _).trans (by kernel_rfl)
def Bw (x0 x1 x5 x7 x8 x41 x256:AV)(H:AH)(K:KT):Prop:=
 bB x256 λt0=>bI t0 (
 bO (Aa 3 x5) λv1=>
 bO (Am false 1 H v1) λv2=>
 bO (Aa 4 x5) λv3=>
 bO (Am false 1 H v3) λv4=>
 bO (Aa 5 x5) λv5=>
 bO (Am false 1 H v5) λv6=>
 bC (BCall prog 51 [x0,v2,v4,v6] H) λv7 H8=>
 bO (Aa 3 x5) λv9=>
 bO (Am false 1 H8 v9) λv10=>
 bO (Aa 4 x5) λv11=>
 bO (Am false 1 H8 v11) λv12=>
 bO (Aa 5 x5) λv13=>
 bO (Am false 1 H8 v13) λv14=>
 bC (BCall prog 72 [x1,v10,v12,v14] H8) λv15 H16=>
 bO (Ar .eql v7 v15) λv17=>
(Am false 1 H v9=some v10)∧
(Am false 1 H v11=some v12)∧
(Am false 1 H v13=some v14)∧
 K v17 H16)
 (bO (Ar .eql x41 (.lit (.int .u8 8))) λv18=>
 MP x0 x1 x5 x7 x8 x41 v18 H K)
theorem Bz (x0 x1 x5 x7 x8 x41 x256:AV)(H:AH)(K:KT):MO x0 x1 x5 x7 x8 x41 x256 H K=Bw x0 x1 x5 x7 x8 x41 x256 H K:=(B3 _ _ _ _ _).trans (by kernel_rfl)
def Bs (x0 x1 x5 x7 x8 x41 x233:AV)(H:AH)(K:KT):Prop:=
 bB x233 λt0=>bI t0 (
 bO (Aa 3 x5) λv1=>
 bO (Am false 1 H v1) λv2=>
 bO (Aa 4 x5) λv3=>
 bO (Am false 1 H v3) λv4=>
 bO (Aa 5 x5) λv5=>
 bO (Am false 1 H v5) λv6=>
 bO (Aa 7 x5) λv7=>
 bO (Am false 1 H v7) λv8=>
 bC (BCall prog 50 [x0,v2,v4,v6,v8] H) λv9 H10=>
 bO (Aa 3 x5) λv11=>
 bO (Am false 1 H10 v11) λv12=>
 bO (Aa 4 x5) λv13=>
 bO (Am false 1 H10 v13) λv14=>
 bO (Aa 5 x5) λv15=>
 bO (Am false 1 H10 v15) λv16=>
 bO (Aa 7 x5) λv17=>
 bO (Am false 1 H10 v17) λv18=>
 bC (BCall prog 71 [x1,v12,v14,v16,v18] H10) λv19 H20=>
 bO (Ar .eql v9 v19) λv21=>
(Am false 1 H v11=some v12)∧
(Am false 1 H v13=some v14)∧
(Am false 1 H v15=some v16)∧
(Am false 1 H v17=some v18)∧
 K v21 H20)
 (bO (Ar .eql x41 (.lit (.int .u8 7))) λv22=>
 MO x0 x1 x5 x7 x8 x41 v22 H K)
theorem Bu (x0 x1 x5 x7 x8 x41 x233:AV)(H:AH)(K:KT):MN x0 x1 x5 x7 x8 x41 x233 H K=Bs x0 x1 x5 x7 x8 x41 x233 H K:=(B3 _ _ _ _ _).trans (by kernel_rfl)
def Bn (x0 x1 x5 x7 x8 x41 x218:AV)(H:AH)(K:KT):Prop:=
 bB x218 λt0=>bI t0 (
 bO (Aa 3 x5) λv1=>
 bO (Am false 1 H v1) λv2=>
 bO (Aa 5 x5) λv3=>
 bO (Am false 1 H v3) λv4=>
 bC (BCall prog 49 [x0,v2,v4] H) λv5 H6=>
 bO (Aa 3 x5) λv7=>
 bO (Am false 1 H6 v7) λv8=>
 bO (Aa 5 x5) λv9=>
 bO (Am false 1 H6 v9) λv10=>
 bC (BCall prog 70 [x1,v8,v10] H6) λv11 H12=>
 bO (Ar .eql v5 v11) λv13=>
(Am false 1 H v7=some v8)∧
(Am false 1 H v9=some v10)∧
 K v13 H12)
 (bO (Ar .eql x41 (.lit (.int .u8 6))) λv14=>
 MN x0 x1 x5 x7 x8 x41 v14 H K)
theorem Bp (x0 x1 x5 x7 x8 x41 x218:AV)(H:AH)(K:KT):MM x0 x1 x5 x7 x8 x41 x218 H K=Bn x0 x1 x5 x7 x8 x41 x218 H K:=(B3 _ _ _ _ _).trans (by kernel_rfl)
def Bf (x0 x1 x5 x7 x8 x41 x184:AV)(H:AH)(K:KT):Prop:=
 bB x184 λt0=>bI t0 (
 bO (Aa 3 x5) λv1=>
 bO (Am false 1 H v1) λv2=>
 bO (Aa 4 x5) λv3=>
 bO (Am false 1 H v3) λv4=>
 bO (Aa 5 x5) λv5=>
 bO (Am false 1 H v5) λv6=>
 bC (BCall prog 45 [x0,v2,v4,v6] H) λv7 H8=>
 bO (Ai v7 0) λv9=>
 bO (Ai v7 1) λv10=>
 MK x1 x5 v9 v10 H8 K)
 (bO (Ar .eql x41 (.lit (.int .u8 5))) λv11=>
 MM x0 x1 x5 x7 x8 x41 v11 H K)
theorem Bi (x0 x1 x5 x7 x8 x41 x184:AV)(H:AH)(K:KT):MJ x0 x1 x5 x7 x8 x41 x184 H K=Bf x0 x1 x5 x7 x8 x41 x184 H K:=(B3 _ _ _ _ _).trans (by kernel_rfl)
def AW (x0 x1 x5 x7 x8 x41 x151:AV)(H:AH)(K:KT):Prop:=
 bB x151 λt0=>bI t0 (
 bO (Aa 3 x5) λv1=>
 bO (Am false 1 H v1) λv2=>
 bO (Aa 4 x5) λv3=>
 bO (Am false 1 H v3) λv4=>
 bO (Aa 6 x5) λv5=>
 bO (Am false 1 H v5) λv6=>
 bC (BCall prog 34 [x0,v2,v4,v6] H) λv7 H8=>
 bO (Ai v7 0) λv9=>
 bO (Ai v7 1) λv10=>
 MH x1 x5 v9 v10 H8 K)
 (bO (Ar .eql x41 (.lit (.int .u8 4))) λv11=>
 MJ x0 x1 x5 x7 x8 x41 v11 H K)
theorem AX (x0 x1 x5 x7 x8 x41 x151:AV)(H:AH)(K:KT):Jq x0 x1 x5 x7 x8 x41 x151 H K=AW x0 x1 x5 x7 x8 x41 x151 H K:=(B3 _ _ _ _ _).trans (by kernel_rfl)
def AR (x0 x1 x5 x7 x8 x41 x151:AV)(H:AH)(K:KT):Prop:=
 bB x151 λt0=>bI t0 (
 Jq x0 x1 x5 x7 x8 x41 x151 H K)
 (bO (Ar .eql x41 (.lit (.int .u8 3))) λv1=>
 Jq x0 x1 x5 x7 x8 x41 v1 H K)
theorem AU (x0 x1 x5 x7 x8 x41 x151:AV)(H:AH)(K:KT):MG x0 x1 x5 x7 x8 x41 x151 H K=AR x0 x1 x5 x7 x8 x41 x151 H K:=(B3 _ _ _ _ _).trans (by kernel_rfl)
def AM (x0 x1 x5 x7 x8 x41 x120:AV)(H:AH)(K:KT):Prop:=
 bB x120 λt0=>bI t0 (
 bO (Aa 0 x5) λv1=>
 bO (Am false 1 H v1) λv2=>
 bO (Ar .rem v2 (.lit (.int .u8 16))) λv3=>
 bO (Ar .eql v3 u0Z) λv4=>
 bC (BCall prog 13 [x0,x7,v4] H) λv5 H6=>
 bO (Ai v5 0) λv7=>
 bO (Ai v5 1) λv8=>
 Om x1 x5 x7 v7 v8 H6 K)
 (bO (Ar .eql x41 (.lit (.int .u8 2))) λv9=>
 MG x0 x1 x5 x7 x8 x41 v9 H K)
theorem AN (x0 x1 x5 x7 x8 x41 x120:AV)(H:AH)(K:KT):Jp x0 x1 x5 x7 x8 x41 x120 H K=AM x0 x1 x5 x7 x8 x41 x120 H K:=(B3 _ _ _ _ _).trans (by kernel_rfl)
def Sr (a0 a1 a2:AV)(H:AH)(K:KT):Prop:=
 bH (A9 H a2) λv0 H1=>
 bO (Aa 1 v0) λv2=>
 bO (Am false 1 H1 v2) λv3=>
 bP (BPure prog 38 [v3]) λv4=>
 bO (Aa 2 v0) λv5=>
 bO (Am false 1 H1 v5) λv6=>
 bP (BPure prog 38 [v6]) λv7=>
 bO (Aa 0 v0) λv8=>
 bO (Am false 1 H1 v8) λv9=>
 bO (Ar .rem v9 (.lit (.int .u8 16))) λv10=>
 bO (Ar .eql v10 u0Z) λv11=>
 bB v11 λt12=>bI t12 (
 Jp a0 a1 v0 v4 v7 v10 v11 H1 K)
 (bO (Ar .eql v10 (.lit (.int .u8 1))) λv13=>
 Jp a0 a1 v0 v4 v7 v10 v13 H1 K)
theorem V1 {a0 a1 a2:AV}{H:AH}{K:KT}(h:Sr a0 a1 a2 H K):Co 30 [a0,a1,a2] H K:=
 fok Oo Vr Oq func30 h
def JX:Nat→Option (List Bool):=CN [(4,mk 30 0 [1,5,6,7])]
def Lh (p:List Bool)(n:Nat):List AV→AH→Kf→Prop:=AL prog A8 Vr A1 A1 JX (sub p (AP f37)) n
def JW (x1 x5 x6 x7:AV)(H:AH)(K:KT):Prop:=lp (mk 30 0 [1,5,6,7]) (Lh [tT,tT,fF,tT,fF,fF] 5) [x1,x5,x6,x7] H (Be 0 (Bb (Lh [tT,tT,tT] 8) (Ba prog f37.results.toList K)))
def IB (R4:RT)(x1 x5 x6 x7:AV)(H:AH)(K:KT):Prop:=
 bO (AY x1) λv0=>
 bO (Ar .lss x7 v0) λv1=>
 bG v1 true λw2=>
 gO w2 (some x5) λv3=>
 bG v1 true λw4=>
 gO w4 (YO .neq Wf v3 (.lit (.pointer none))) λv5=>
 bO (Ay v1 v5 (B false)) λv6=>
 bB v6 λt7=>bI t7 (
 bO (Bq 10 x1 x7) λv8=>
 bO (Am true 10 H v8) λv9=>
 bC (BCall prog 30 [x5,x6,v9] H) λv10 H11=>
 bO (Ar .add x7 (I 1)) λv12=>
 R4 [x1,x5,x6,v12] H11)
 (K x5 H)
theorem Nl {K:KT}:dC (λR x1 x5 x6 x7 H=>IB R x1 x5 x6 x7 H K) (λx1 x5 x6 x7 H=>JW x1 x5 x6 x7 H K):=Tb (A2 _ _) (λ_ _ _ _ _ _=>by kernel_rfl)
def Nk (a0 a1:AV)(H:AH)(K:KT):Prop:=
 bC (BCall prog 11 [a0] H) λv0 H1=>
 bC (BCall prog 12 [a0] H1) λv2 H3=>
 JW a1 v0 v2 (I 0) H3 K
theorem QT {a0 a1:AV}{H:AH}{K:KT}(h:Nk a0 a1 H K):Co 37 [a0,a1] H K:=
 fok A8 Vr JX func37 h
end Go.Proofs.YtadghlcfbajamaaGreat.Av
end
