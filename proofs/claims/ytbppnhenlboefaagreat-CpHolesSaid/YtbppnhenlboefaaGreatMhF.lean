/- Texts of this proof, one behind the other, packed into one file by a program of this session. No condition. -/
import Derived.Test.YtbppnhenlboefaaGreatMhE
import Derived.OrdersIn
import Derived.RangeFuncNested
set_option linter.unusedVariables false
set_option linter.unusedSimpArgs false
set_option maxRecDepth 100000
section
namespace Go.Proofs.YtbppnhenlboefaaGreat.Av
open Go Go.Proofs.Tryz
def Hu:FuncId→Bool:=ST [43,82,20,13,52,40,102,24,23,98,50,170,172,188,179,181,22,99,169,111,143,142,148,180,182,145,73,141,171,173,144,75,176,135,70,134,139,149,174,112,45,234,214,191,218,217,229,194,216,228,87,16]
def pG:FuncId→Bool:=ST [11,36]
def We (a0:AV)(H:AH)(K:KT):Prop:=
 bO (Ap .geq a0 (.lit (.int .u8 97))) λv0=>
 bG v0 true λw1=>
 gO w1 (some a0) λv2=>
 bG v0 true λw3=>
 gO w3 (Ap .leq v2 (.lit (.int .u8 122))) λv4=>
 bO (A8 v0 v4 (B false)) λv5=>
 K v5 H
theorem Xb {a0:AV}{H:AH}{K:KT}(h:We a0 H K):Cw 214 [a0] H K:=
 fok AA Hu BA func214 h
def Uk:Nat→Option (List Bool):=Co [(3,mk 22 0 [0,5,6])]
def Wd (p:List Bool)(n:Nat):List AV→AH→Kf→Prop:=AJ prog AA Hu Aq Aq Uk (sub p (AL f218)) n
def Uj (x0 x5 x6:AV)(H:AH)(K:KT):Prop:=lp (mk 22 0 [0,5,6]) (Wd [tT,fF,tT,fF,fF] 4) [x0,x5,x6] H (Bh 0 (Bl (Wd [tT,tT] 10) (Bm prog f218.results.toList K)))
def PX (R3:RT)(x0 x5 x6:AV)(H:AH)(K:KT):Prop:=
 bO (Ap .lss x6 x5) λv0=>
 bB v0 λt1=>bI t1 (
 bO (Tu x0 x6) λv2=>
 bP (PCall prog 214 [v2] H) λv3=>
 bO (Fb .not v3) λv4=>
 bB v4 λt5=>bI t5 (
 K (B false) H)
 (bO (Ap .add x6 (I 1)) λv6=>
 R3 [x0,x5,v6] H))
 (bO (Rq .neq x0 (.lit (.string ⟨#[]⟩))) λv7=>
 bG v7 true λw8=>
 gO w8 (some x0) λv9=>
 bG v7 true λw10=>
 gO w10 (Gh v9) λv11=>
 bG v7 true λw12=>
 gO w12 (Ap .leq v11 (I 10)) λv13=>
 bO (A8 v7 v13 (B false)) λv14=>
 K v14 H)
theorem Ty {K:KT}:uJ (λR x0 x5 x6 H=>PX R x0 x5 x6 H K) (λx0 x5 x6 H=>Uj x0 x5 x6 H K):=kZ (A7 _ _) (λ_ _ _ _ _=>by kernel_rfl)
def bY (a0:AV)(H:AH)(K:KT):Prop:=
 bO (Gh a0) λv0=>
 Uj a0 v0 (I 0) H K
theorem ZG {a0:AV}{H:AH}{K:KT}(h:bY a0 H K):Cw 218 [a0] H K:=
 fok AA Hu Uk func218 h
def Tn (a0 a1:AV)(H:AH)(K:KT):Prop:=
 bP (PCall prog 229 [a0,a1] H) λv0=>
 bO (Aj v0 0) λv1=>
 bO (Aj v0 1) λv2=>
 bO (Aj v0 2) λv3=>
 K (.tup [v1,v2,v3]) H
theorem Vw {a0 a1:AV}{H:AH}{K:KT}(h:Tn a0 a1 H K):Cw 217 [a0,a1] H K:=
 fok AA Hu BA func217 h
def Ft (a0 a1:AV)(H:AH)(K:KT):Prop:=
 bP (PCall prog 234 [a0,a1] H) λv0=>
 bO (Ap .geq v0 (I 0)) λv1=>
 bB v1 λt2=>bI t2 (
 bO (RD a0 none (some v0)) λv3=>
 bO (Gh a1) λv4=>
 bO (Ap .add v0 v4) λv5=>
 bO (RD a0 (some v5) none) λv6=>
 K (.tup [v3,v6,(B true)]) H)
 (K (.tup [a0,(.lit (.string ⟨#[]⟩)),(B false)]) H)
theorem IA {a0 a1:AV}{H:AH}{K:KT}(h:Ft a0 a1 H K):Cw 229 [a0,a1] H K:=
 fok AA Hu BA func229 h
def Ki (a0 a1:AV)(H:AH)(K:KT):Prop:=
 bP (PCall prog 216 [a0,a1] H) λv0=>
 bO (Aj v0 0) λv1=>
 bO (Aj v0 1) λv2=>
 K (.tup [v1,v2]) H
theorem N7 {a0 a1:AV}{H:AH}{K:KT}(h:Ki a0 a1 H K):Cw 194 [a0,a1] H K:=
 fok AA Hu BA func194 h
def DT (a0 a1:AV)(H:AH)(K:KT):Prop:=
 bP (PCall prog 228 [a0,a1] H) λv0=>
 bO (Fb .not v0) λv1=>
 bB v1 λt2=>bI t2 (
 K (.tup [a0,(B false)]) H)
 (bO (Gh a1) λv3=>
 bO (RD a0 (some v3) none) λv4=>
 K (.tup [v4,(B true)]) H)
theorem Gi {a0 a1:AV}{H:AH}{K:KT}(h:DT a0 a1 H K):Cw 216 [a0,a1] H K:=
 fok AA Hu BA func216 h
def DU (a0 a1:AV)(H:AH)(K:KT):Prop:=
 bO (Gh a0) λv0=>
 bO (Gh a1) λv1=>
 bO (Ap .geq v0 v1) λv2=>
 bG v2 true λw3=>
 gO w3 (some a0) λv4=>
 bG v2 true λw5=>
 gO w5 (some a1) λv6=>
 bG v2 true λw7=>
 gO w7 (Gh v6) λv8=>
 bG v2 true λw9=>
 gO w9 (RD v4 none (some v8)) λv10=>
 bG v2 true λw11=>
 gO w11 (some a1) λv12=>
 bG v2 true λw13=>
 gO w13 (Rq .eql v10 v12) λv14=>
 bO (A8 v2 v14 (B false)) λv15=>
 K v15 H
theorem Gj {a0 a1:AV}{H:AH}{K:KT}(h:DU a0 a1 H K):Cw 228 [a0,a1] H K:=
 fok AA Hu BA func228 h
def O4 (a0 a1 a2:AV)(H:AH)(K:KT):Prop:=
 bO (Ai a0) λv0=>
 bO (Ac 2 v0) λv1=>
 bO (Ac 0 v1) λv2=>
 bO (Au false 1 H v2) λv3=>
 bO (FK [(.lit (.string ⟨#[]⟩)),(.lit (.string ⟨#[]⟩))] [(0,1,a1),(1,1,a2)]) λv4=>
 bH (Cr H 2 1 (Be [(.lit (.string ⟨#[]⟩)),(.lit (.string ⟨#[]⟩))] 1) [(0,2,v4)]) λv5 H6=>
 bH (Mm 2 32 H6 v3 v5) λv7 H8=>
 bO (Ai a0) λv9=>
 bO (Ac 2 v9) λv10=>
 bO (Ac 0 v10) λv11=>
 bS (AT 1 H8 v11 v7) λH12=>
 K (.tup []) H12
theorem RC {a0 a1 a2:AV}{H:AH}{K:KT}(h:O4 a0 a1 a2 H K):Cw 219 [a0,a1,a2] H K:=
 fok AA Hu BA func219 h
def M9 (a0 a1:AV)(H:AH)(K:KT):Prop:=
 bP (PCall prog 217 [a1,(.lit (.string ⟨#[61]⟩))] H) λv0=>
 bO (Aj v0 0) λv1=>
 bO (Aj v0 1) λv2=>
 bO (Aj v0 2) λv3=>
 bP (PCall prog 218 [v1] H) λv4=>
 bO (Fb .not v4) λv5=>
 bB v5 λt6=>bI t6 (
 K (B false) H)
 (bC (BCall prog 219 [a0,v1,v2] H) λv7 H8=>
 K (B true) H8)
theorem PY {a0 a1:AV}{H:AH}{K:KT}(h:M9 a0 a1 H K):Cw 195 [a0,a1] H K:=
 fok AA Hu BA func195 h
def IY:Nat→Option (List Bool):=Co [(3,mk 47 0 [0,3,8,9])]
def JG (p:List Bool)(n:Nat):List AV→AH→Kf→Prop:=AJ prog AA Hu Aq Aq IY (sub p (AL f196)) n
def IX (x0 x3 x8 x9:AV)(H:AH)(K:KT):Prop:=lp (mk 47 0 [0,3,8,9]) (JG [tT,fF,tT,fF,fF] 4) [x0,x3,x8,x9] H (Bh 0 (Bl (JG [tT,tT] 15) (Bm prog f196.results.toList K)))
def Hx (R3:RT)(x0 x3 x8 x9:AV)(H:AH)(K:KT):Prop:=
 bO (Ap .lss x9 x8) λv0=>
 bB v0 λt1=>bI t1 (
 bH (AD H (I 0)) λv2 H3=>
 bS (AT 1 H3 v2 x9) λH4=>
 bO (Ai x0) λv5=>
 bO (Ac 0 v5) λv6=>
 bO (Au false 1 H4 v6) λv7=>
 bC (BCall prog 215 [v7,(.fn (.func 220) [] [x3,v2])] H4) λv8 H9=>
 bO (Ap .lss v8 (I 0)) λv10=>
 bB v10 λt11=>bI t11 (
 K (B false) H9)
 (bO (Ai x0) λv12=>
 bO (Ac 0 v12) λv13=>
 bO (Au false 1 H9 v13) λv14=>
 bO (Bj 2 v14 v8) λv15=>
 bO (Ac 1 v15) λv16=>
 bO (Au false 1 H9 v16) λv17=>
 bB v17 λt18=>bI t18 (
 bO (Au false 1 H9 x3) λv19=>
 bO (Au false 1 H9 v2) λv20=>
 bO (Au false 1 H9 v2) λv21=>
 bO (Ap .add v21 (I 1)) λv22=>
 bO (RD v19 (some v20) (some v22)) λv23=>
 bO (Au false 1 H9 x3) λv24=>
 bO (Au false 1 H9 v2) λv25=>
 bO (Ap .add v25 (I 1)) λv26=>
 bO (RD v24 (some v26) none) λv27=>
 bC (BCall prog 221 [x0,v23,v27] H9) λv28 H29=>
 K v28 H29)
 (bO (Au false 1 H9 x3) λv30=>
 bO (Au false 1 H9 v2) λv31=>
 bO (Au false 1 H9 v2) λv32=>
 bO (Ap .add v32 (I 1)) λv33=>
 bO (RD v30 (some v31) (some v33)) λv34=>
 bC (BCall prog 219 [x0,v34,(.lit (.string ⟨#[]⟩))] H9) λv35 H36=>
 bO (Ap .add x9 (I 1)) λv37=>
 R3 [x0,x3,x8,v37] H36)))
 (K (B true) H)
theorem Kz {K:KT}:WN (λR x0 x3 x8 x9 H=>Hx R x0 x3 x8 x9 H K) (λx0 x3 x8 x9 H=>IX x0 x3 x8 x9 H K):=Ms (A7 _ _) (λ_ _ _ _ _ _=>by kernel_rfl)
def LJ (a0 a1:AV)(H:AH)(K:KT):Prop:=
 bH (AD H a1) λv0 H1=>
 bO (Au false 1 H1 v0) λv2=>
 bO (Gh v2) λv3=>
 IX a0 v0 v3 (I 0) H1 K
theorem Pj {a0 a1:AV}{H:AH}{K:KT}(h:LJ a0 a1 H K):Cw 196 [a0,a1] H K:=
 fok AA Hu IY func196 h
def CH:Nat→Option (List Bool):=Co [(3,mk 19 0 [0,1,7,8])]
def CO (p:List Bool)(n:Nat):List AV→AH→Kf→Prop:=AJ prog AA Hu Aq Aq CH (sub p (AL f215)) n
def CG (x0 x1 x7 x8:AV)(H:AH)(K:KT):Prop:=lp (mk 19 0 [0,1,7,8]) (CO [tT,fF,tT,fF,fF] 4) [x0,x1,x7,x8] H (Bh 0 (Bl (CO [tT,tT] 10) (Bm prog f215.results.toList K)))
def C0 (R3:RT)(x0 x1 x7 x8:AV)(H:AH)(K:KT):Prop:=
 bO (Ap .lss x8 x7) λv0=>
 bB v0 λt1=>bI t1 (
 bO (Bj 2 x0 x8) λv2=>
 bO (Au true 2 H v2) λv3=>
 bF true x1 λk6 f6 c6=>
 bT (B4 prog k6||!true)<|
 bC (BCall prog k6 (f6++[v3]++c6) H) λv4 H5=>
 bB v4 λt7=>bI t7 (
 K x8 H5)
 (bO (Ap .add x8 (I 1)) λv8=>
 R3 [x0,x1,x7,v8] H5))
 (K (I (-1)) H)
theorem Ec {K:KT}:WN (λR x0 x1 x7 x8 H=>C0 R x0 x1 x7 x8 H K) (λx0 x1 x7 x8 H=>CG x0 x1 x7 x8 H K):=Ms (A7 _ _) (λ_ _ _ _ _ _=>by kernel_rfl)
def Dh (a0 a1:AV)(H:AH)(K:KT):Prop:=
 bO (Ba a0) λv0=>
 CG a0 a1 v0 (I 0) H K
theorem EY {a0 a1:AV}{H:AH}{K:KT}(h:Dh a0 a1 H K):Cw 215 [a0,a1] H K:=
 fok AA Hu CH func215 h
def O3 (a0 a1:AV)(H:AH)(K:KT):Prop:=
 bP (PCall prog 194 [a1,(.lit (.string ⟨#[45,45]⟩))] H) λv0=>
 bO (Aj v0 0) λv1=>
 bO (Aj v0 1) λv2=>
 bB v2 λt3=>bI t3 (
 bC (BCall prog 195 [a0,v1] H) λv4 H5=>
 K v4 H5)
 (bP (PCall prog 194 [a1,(.lit (.string ⟨#[45]⟩))] H) λv6=>
 bO (Aj v6 0) λv7=>
 bO (Aj v6 1) λv8=>
 bG v8 true λw9=>
 gO w9 (some v7) λv10=>
 bG v8 true λw11=>
 gO w11 (Rq .neq v10 (.lit (.string ⟨#[]⟩))) λv12=>
 bO (A8 v8 v12 (B false)) λv13=>
 bB v13 λt14=>bI t14 (
 bC (BCall prog 196 [a0,v7] H) λv15 H16=>
 K v15 H16)
 (bO (Ai a0) λv17=>
 bO (Ac 2 v17) λv18=>
 bO (Ac 1 v18) λv19=>
 bO (Au false 1 H v19) λv20=>
 bH (Cr H 1 1 (Be [(.lit (.string ⟨#[]⟩))] 1) [(0,1,a1)]) λv21 H22=>
 bH (Mm 1 16 H22 v20 v21) λv23 H24=>
 bO (Ai a0) λv25=>
 bO (Ac 2 v25) λv26=>
 bO (Ac 1 v26) λv27=>
 bS (AT 1 H24 v27 v23) λH28=>
 K (B true) H28))
theorem RB {a0 a1:AV}{H:AH}{K:KT}(h:O3 a0 a1 H K):Cw 157 [a0,a1] H K:=
 fok AA Hu BA func157 h
def PW:Nat→Option (List Bool):=Co [(7,mk 54 0 [0,4,9,10]),(4,mk 54 0 [0,4,9,10])]
def JF (p:List Bool)(n:Nat):List AV→AH→Kf→Prop:=AJ prog AA Hu Aq Aq PW (sub p (AL f156)) n
def PT (R4:RT)(x0 x4 x9 x10:AV)(H:AH)(K:KT):Prop:=jn (mk 54 0 [0,4,9,10]) (JF [tT,tT,fF,tT,fF,fF,tT,tT,tT] 13) [x0,x4,x9,x10] H (Mh (mk 54 0 [0,4,9,10]) R4 (Bh 0 (Bl (JF [tT,tT,tT] 13) (Bm prog f156.results.toList K))))
def PU (x0 x4 x9 x10:AV)(H:AH)(K:KT):Prop:=lp (mk 54 0 [0,4,9,10]) (JF [tT,tT,fF,tT,fF,fF] 5) [x0,x4,x9,x10] H (Bh 0 (Bl (JF [tT,tT,tT] 13) (Bm prog f156.results.toList K)))
def M8 (R4:RT)(x0 x4 x9 x10:AV)(H:AH)(K:KT):Prop:=
 bO (Ap .lss x10 x9) λv0=>
 bB v0 λt1=>bI t1 (
 bO (Tu x0 x10) λv2=>
 bO (Ba x4) λv3=>
 bO (Ap .sub v3 (I 1)) λv4=>
 bH (AD H u0Z) λv5 H6=>
 bS (AT 1 H6 v5 v2) λH7=>
 bO (Au false 1 H7 v5) λv8=>
 bP (PCall prog 191 [v8] H7) λv9=>
 bG v9 true λw10=>
 gO w10 (some x4) λv11=>
 bG v9 true λw12=>
 gO w12 (some (.fn (.func 193) [] [v5])) λv13=>
 bG v9 true λw14=>
 gC w14 (BCall prog 192 [v11,v13] H7) H7 λv15 H16=>
 bG v9 true λw17=>
 gO w17 (Fb .not v15) λv18=>
 bO (A8 v9 v18 (B false)) λv19=>
 bB v19 λt20=>bI t20 (
 bO (Au false 1 H16 v5) λv21=>
 bO (FK [u0Z,(B false)] [(0,1,v21)]) λv22=>
 bH (Cr H16 2 1 (Be [u0Z,(B false)] 1) [(0,2,v22)]) λv23 H24=>
 bH (Mm 2 2 H24 x4 v23) λv25 H26=>
 PT R4 x0 v25 x9 x10 H26 K)
 (bO (Au false 1 H16 v5) λv27=>
 bO (Ap .eql v27 (.lit (.int .u8 58))) λv28=>
 bG v28 true λw29=>
 gO w29 (some v4) λv30=>
 bG v28 true λw31=>
 gO w31 (Ap .geq v30 (I 0)) λv32=>
 bO (A8 v28 v32 (B false)) λv33=>
 bG v33 true λw34=>
 gO w34 (some x4) λv35=>
 bG v33 true λw36=>
 gO w36 (some v4) λv37=>
 bG v33 true λw38=>
 gO w38 (Bj 2 v35 v37) λv39=>
 bG v33 true λw40=>
 gO w40 (Ac 1 v39) λv41=>
 bG v33 true λw42=>
 gO w42 (Au false 1 H16 v41) λv43=>
 bG v33 true λw44=>
 gO w44 (Fb .not v43) λv45=>
 bO (A8 v33 v45 (B false)) λv46=>
 bB v46 λt47=>bI t47 (
 bO (Bj 2 x4 v4) λv48=>
 bO (Ac 1 v48) λv49=>
 bS (AT 1 H16 v49 (B true)) λH50=>
 PT R4 x0 x4 x9 x10 H50 K)
 (K (.tup [Ad,(B false)]) H16)))
 (K (.tup [x4,(B true)]) H)
theorem PV {K:KT}:WN (λR x0 x4 x9 x10 H=>M8 R x0 x4 x9 x10 H K) (λx0 x4 x9 x10 H=>PU x0 x4 x9 x10 H K):=Ms (A7 _ _) (λ_ _ _ _ _ _=>by kernel_rfl)
def Wc (a0:AV)(H:AH)(K:KT):Prop:=
 bO (Gh a0) λv0=>
 PU a0 Ad v0 (I 0) H K
theorem Xa {a0:AV}{H:AH}{K:KT}(h:Wc a0 H K):Cw 156 [a0] H K:=
 fok AA Hu PW func156 h
def PS:Nat→Option (List Bool):=Co [(6,mk 72 0 [4,8]),(7,mk 72 0 [4,8])]
def M7 (p:List Bool)(n:Nat):List AV→AH→Kf→Prop:=AJ prog AA Hu Aq Aq PS (sub p (AL f83)) n
def I7 (x4 x8:AV)(H:AH)(K:KT):Prop:=jn (mk 72 0 [4,8]) (M7 [tT,tT,tT,tT,tT] 17) [x4,x8] H (Bm prog f83.results.toList K)
def PQ (x4 x8:AV)(H:AH)(K:KT):Prop:=lp (mk 72 0 [4,8]) (M7 [tT,tT,tT,tT,fF,fF,fF] 8) [x4,x8] H (Bh 0 (Bl (MM (mk 72 0 [4,8]) (M7 [tT,tT,tT,tT,tT] 17)) (Bm prog f83.results.toList K)))
def M5 (x4 x8:AV)(H:AH)(K:KT):Prop:=
 bO (Ai x8) λv0=>
 bO (Ac 2 v0) λv1=>
 bO (Au true 2 H v1) λv2=>
 bS (AT 2 H x4 v2) λH3=>
 bO (Au true 2 H3 x4) λv4=>
 K (.tup [v4,(B true)]) H3
theorem Tw (x4 x8:AV)(H:AH)(K:KT):I7 x4 x8 H K=M5 x4 x8 H K:=(DG _ _ _ _ _).trans (by kernel_rfl)
def M6 (R7:RT)(x4 x8:AV)(H:AH)(K:KT):Prop:=
 bO (Ai x8) λv0=>
 bO (Ac 1 v0) λv1=>
 bO (Au false 1 H v1) λv2=>
 bO (Ba v2) λv3=>
 bO (Ap .gtr v3 (I 0)) λv4=>
 bB v4 λt5=>bI t5 (
 bO (Ai x8) λv6=>
 bO (Ac 1 v6) λv7=>
 bO (Au false 1 H v7) λv8=>
 bO (Bj 1 v8 (I 0)) λv9=>
 bO (Au false 1 H v9) λv10=>
 bO (Ai x8) λv11=>
 bO (Ac 1 v11) λv12=>
 bO (Au false 1 H v12) λv13=>
 bO (AX 1 v13 (some (I 1)) none none) λv14=>
 bO (Ai x8) λv15=>
 bO (Ac 1 v15) λv16=>
 bS (AT 1 H v16 v14) λH17=>
 bO (Rq .eql v10 (.lit (.string ⟨#[45,45]⟩))) λv18=>
 bB v18 λt19=>bI t19 (
 bO (Ai x8) λv20=>
 bO (Ac 2 v20) λv21=>
 bO (Ac 1 v21) λv22=>
 bO (Au false 1 H17 v22) λv23=>
 bO (Ai x8) λv24=>
 bO (Ac 1 v24) λv25=>
 bO (Au false 1 H17 v25) λv26=>
 bH (Mm 1 16 H17 v23 v26) λv27 H28=>
 bO (Ai x8) λv29=>
 bO (Ac 2 v29) λv30=>
 bO (Ac 1 v30) λv31=>
 bS (AT 1 H28 v31 v27) λH32=>
 I7 x4 x8 H32 K)
 (bC (BCall prog 157 [x8,v10] H17) λv33 H34=>
 bO (Fb .not v33) λv35=>
 bB v35 λt36=>bI t36 (
 bO (FK [Ad,Ad] []) λv37=>
 bS (AT 2 H34 x4 v37) λH38=>
 bO (Au true 2 H38 x4) λv39=>
 K (.tup [v39,(B false)]) H38)
 (R7 [x4,x8] H34)))
 (I7 x4 x8 H K)
theorem PR {K:KT}:xL (λR x4 x8 H=>M6 R x4 x8 H K) (λx4 x8 H=>PQ x4 x8 H K):=tB (A7 _ _) (λ_ _ _ _=>by kernel_rfl)
def Wb (a0 a1:AV)(H:AH)(K:KT):Prop:=
 bH (AD H (.agg [Ad,Ad])) λv0 H1=>
 bC (BCall prog 156 [a0] H1) λv2 H3=>
 bO (Aj v2 0) λv4=>
 bO (Aj v2 1) λv5=>
 bO (Fb .not v5) λv6=>
 bG v6 false λw7=>
 gO w7 (some a1) λv8=>
 bG v6 false λw9=>
 gO w9 (Ba v8) λv10=>
 bG v6 false λw11=>
 gO w11 (Ap .gtr v10 (I 40)) λv12=>
 bO (A8 v6 (B true) v12) λv13=>
 bB v13 λt14=>bI t14 (
 bO (FK [Ad,Ad] []) λv15=>
 bS (AT 2 H3 v0 v15) λH16=>
 bO (Au true 2 H16 v0) λv17=>
 K (.tup [v17,(B false)]) H16)
 (bO (FK [Ad,Ad,Ad,Ad] [(0,1,v4),(1,1,a1)]) λv18=>
 bH (AD H3 v18) λv19 H20=>
 PQ v0 v19 H20 K)
theorem WZ {a0 a1:AV}{H:AH}{K:KT}(h:Wb a0 a1 H K):Cw 83 [a0,a1] H K:=
 fok AA Hu PS func83 h
def DZ:Nat→Option (List Bool):=Co [(3,mk 19 0 [0,1,7,8])]
def El (p:List Bool)(n:Nat):List AV→AH→Kf→Prop:=AJ prog AA Hu Aq Aq DZ (sub p (AL f198)) n
def DY (x0 x1 x7 x8:AV)(H:AH)(K:KT):Prop:=lp (mk 19 0 [0,1,7,8]) (El [tT,fF,tT,fF,fF] 4) [x0,x1,x7,x8] H (Bh 0 (Bl (El [tT,tT] 10) (Bm prog f198.results.toList K)))
def D8 (R3:RT)(x0 x1 x7 x8:AV)(H:AH)(K:KT):Prop:=
 bO (Ap .lss x8 x7) λv0=>
 bB v0 λt1=>bI t1 (
 bO (Bj 1 x0 x8) λv2=>
 bO (Au false 1 H v2) λv3=>
 bO (Rq .eql x1 v3) λv4=>
 bB v4 λt5=>bI t5 (
 K x8 H)
 (bO (Ap .add x8 (I 1)) λv6=>
 R3 [x0,x1,x7,v6] H))
 (K (I (-1)) H)
theorem F9 {K:KT}:WN (λR x0 x1 x7 x8 H=>D8 R x0 x1 x7 x8 H K) (λx0 x1 x7 x8 H=>DY x0 x1 x7 x8 H K):=Ms (A7 _ _) (λ_ _ _ _ _ _=>by kernel_rfl)
def EF (a0 a1:AV)(H:AH)(K:KT):Prop:=
 bO (Ba a0) λv0=>
 DY a0 a1 v0 (I 0) H K
theorem Hn {a0 a1:AV}{H:AH}{K:KT}(h:EF a0 a1 H K):Cw 198 [a0,a1] H K:=
 fok AA Hu DZ func198 h
def DX (a0 a1:AV)(H:AH)(K:KT):Prop:=
 bC (BCall prog 198 [a0,a1] H) λv0 H1=>
 bO (Ap .geq v0 (I 0)) λv2=>
 K v2 H1
theorem Gn {a0 a1:AV}{H:AH}{K:KT}(h:DX a0 a1 H K):Cw 160 [a0,a1] H K:=
 fok AA Hu BA func160 h
def Ui (a0 a1:AV)(H:AH)(K:KT):Prop:=
 bH (AD H a0) λv0 H1=>
 bO (Au false 1 H1 a1) λv2=>
 bO (Ac 0 v0) λv3=>
 bO (Au false 1 H1 v3) λv4=>
 bC (BCall prog 160 [v2,v4] H1) λv5 H6=>
 bO (Fb .not v5) λv7=>
 K v7 H6
theorem VB {a0 a1:AV}{H:AH}{K:KT}(h:Ui a0 a1 H K):Cw 159 [a0,a1] H K:=
 fok AA Hu BA func159 h
def CW:Nat→Option (List Bool):=Co [(3,mk 19 0 [0,1,7,8])]
def Dg (p:List Bool)(n:Nat):List AV→AH→Kf→Prop:=AJ prog AA Hu Aq Aq CW (sub p (AL f197)) n
def CV (x0 x1 x7 x8:AV)(H:AH)(K:KT):Prop:=lp (mk 19 0 [0,1,7,8]) (Dg [tT,fF,tT,fF,fF] 4) [x0,x1,x7,x8] H (Bh 0 (Bl (Dg [tT,tT] 10) (Bm prog f197.results.toList K)))
def CF (R3:RT)(x0 x1 x7 x8:AV)(H:AH)(K:KT):Prop:=
 bO (Ap .lss x8 x7) λv0=>
 bB v0 λt1=>bI t1 (
 bO (Bj 2 x0 x8) λv2=>
 bO (Au true 2 H v2) λv3=>
 bF true x1 λk6 f6 c6=>
 bT (B4 prog k6||!true)<|
 bC (BCall prog k6 (f6++[v3]++c6) H) λv4 H5=>
 bB v4 λt7=>bI t7 (
 K x8 H5)
 (bO (Ap .add x8 (I 1)) λv8=>
 R3 [x0,x1,x7,v8] H5))
 (K (I (-1)) H)
theorem E0 {K:KT}:WN (λR x0 x1 x7 x8 H=>CF R x0 x1 x7 x8 H K) (λx0 x1 x7 x8 H=>CV x0 x1 x7 x8 H K):=Ms (A7 _ _) (λ_ _ _ _ _ _=>by kernel_rfl)
def Dv (a0 a1:AV)(H:AH)(K:KT):Prop:=
 bO (Ba a0) λv0=>
 CV a0 a1 v0 (I 0) H K
theorem Fq {a0 a1:AV}{H:AH}{K:KT}(h:Dv a0 a1 H K):Cw 197 [a0,a1] H K:=
 fok AA Hu CW func197 h
def CR (a0 a1:AV)(H:AH)(K:KT):Prop:=
 bC (BCall prog 197 [a0,a1] H) λv0 H1=>
 bO (Ap .geq v0 (I 0)) λv2=>
 K v2 H1
theorem EH {a0 a1:AV}{H:AH}{K:KT}(h:CR a0 a1 H K):Cw 158 [a0,a1] H K:=
 fok AA Hu BA func158 h
def Yh (a0 a1:AV)(H:AH)(K:KT):Prop:=
 bH (AD H a1) λv0 H1=>
 bC (BCall prog 158 [a0,(.fn (.func 159) [] [v0])] H1) λv2 H3=>
 bO (Fb .not v2) λv4=>
 K v4 H3
theorem Yi {a0 a1:AV}{H:AH}{K:KT}(h:Yh a0 a1 H K):Cw 84 [a0,a1] H K:=
 fok AA Hu BA func84 h
def QX:Nat→Option (List Bool):=Co [(3,mk 18 0 [0,3])]
def Th (p:List Bool)(n:Nat):List AV→AH→Kf→Prop:=AJ prog AA Hu Aq Aq QX (sub p (AL f199)) n
def QV (x0 x3:AV)(H:AH)(K:KT):Prop:=lp (mk 18 0 [0,3]) (Th [tT,tT,fF,fF,fF] 4) [x0,x3] H (Bh 0 (Bl (Th [tT,tT,tT] 6) (Bm prog f199.results.toList K)))
def N0 (R3:RT)(x0 x3:AV)(H:AH)(K:KT):Prop:=
 bO (Ba x0) λv0=>
 bO (Ap .lss x3 v0) λv1=>
 bG v1 true λw2=>
 gO w2 (some x0) λv3=>
 bG v1 true λw4=>
 gO w4 (some x3) λv5=>
 bG v1 true λw6=>
 gO w6 (Bj 1 v3 v5) λv7=>
 bG v1 true λw8=>
 gO w8 (Au false 1 H v7) λv9=>
 bG v1 true λw10=>
 gO w10 (Ap .eql v9 u0Z) λv11=>
 bO (A8 v1 v11 (B false)) λv12=>
 bB v12 λt13=>bI t13 (
 bO (Ap .add x3 (I 1)) λv14=>
 R3 [x0,v14] H)
 (K x3 H)
theorem QW {K:KT}:xL (λR x0 x3 H=>N0 R x0 x3 H K) (λx0 x3 H=>QV x0 x3 H K):=tB (A7 _ _) (λ_ _ _ _=>by kernel_rfl)
def WD (a0:AV)(H:AH)(K:KT):Prop:=
 QV a0 (I 0) H K
theorem XA {a0:AV}{H:AH}{K:KT}(h:WD a0 H K):Cw 199 [a0] H K:=
 fok AA Hu QX func199 h
def Rc:Nat→Option (List Bool):=Co [(3,mk 17 0 [5,6,7])]
def Tj (p:List Bool)(n:Nat):List AV→AH→Kf→Prop:=AJ prog AA Hu Aq Aq Rc (sub p (AL f162)) n
def QY (x5 x6 x7:AV)(H:AH)(K:KT):Prop:=lp (mk 17 0 [5,6,7]) (Tj [tT,fF,tT,fF,fF] 4) [x5,x6,x7] H (Bh 0 (Bl (Tj [tT,tT] 10) (Bm prog f162.results.toList K)))
def Ju (R3:RT)(x5 x6 x7:AV)(H:AH)(K:KT):Prop:=
 bO (Ap .lss x7 x6) λv0=>
 bB v0 λt1=>bI t1 (
 bO (Bj 1 x5 x7) λv2=>
 bO (Au false 1 H v2) λv3=>
 bC (BCall prog 199 [v3] H) λv4 H5=>
 bO (Ba v3) λv6=>
 bO (Ap .lss v4 v6) λv7=>
 bB v7 λt8=>bI t8 (
 K (B false) H5)
 (bO (Ap .add x7 (I 1)) λv9=>
 R3 [x5,x6,v9] H5))
 (K (B true) H)
theorem QZ {K:KT}:uJ (λR x5 x6 x7 H=>Ju R x5 x6 x7 H K) (λx5 x6 x7 H=>QY x5 x6 x7 H K):=kZ (A7 _ _) (λ_ _ _ _ _=>by kernel_rfl)
def WE (a0:AV)(H:AH)(K:KT):Prop:=
 bO (Ba a0) λv0=>
 QY a0 v0 (I 0) H K
theorem XB {a0:AV}{H:AH}{K:KT}(h:WE a0 H K):Cw 162 [a0] H K:=
 fok AA Hu Rc func162 h
def SF:Nat→Option (List Bool):=Co [(8,mk 69 0 [4,6,41,42,43])]
def Uu (p:List Bool)(n:Nat):List AV→AH→Kf→Prop:=AJ prog AA Hu Aq Aq SF (sub p (AL f38)) n
def SE (x4 x6 x41 x42 x43:AV)(H:AH)(K:KT):Prop:=lp (mk 69 0 [4,6,41,42,43]) (Uu [tT,tT,tT,tT,fF,tT,fF,fF] 9) [x4,x6,x41,x42,x43] H (Bh 0 (Bl (Uu [tT,tT,tT,tT,tT] 16) (Bm prog f38.results.toList K)))
def OD (R8:RT)(x4 x6 x41 x42 x43:AV)(H:AH)(K:KT):Prop:=
 bO (Ap .lss x43 x42) λv0=>
 bB v0 λt1=>bI t1 (
 bO (Bj 2 x41 x43) λv2=>
 bO (Au true 2 H v2) λv3=>
 bH (AD H (.agg [(.lit (.string ⟨#[]⟩)),(.lit (.string ⟨#[]⟩))])) λv4 H5=>
 bS (AT 2 H5 v4 v3) λH6=>
 bO (Ac 1 v4) λv7=>
 bO (Au false 1 H6 v7) λv8=>
 bO (Rq .neq v8 (.lit (.string ⟨#[97,117,116,111]⟩))) λv9=>
 bG v9 true λw10=>
 gO w10 (some v8) λv11=>
 bG v9 true λw12=>
 gO w12 (Rq .neq v11 (.lit (.string ⟨#[97,108,119,97,121,115]⟩))) λv13=>
 bO (A8 v9 v13 (B false)) λv14=>
 bG v14 true λw15=>
 gO w15 (some v8) λv16=>
 bG v14 true λw17=>
 gO w17 (Rq .neq v16 (.lit (.string ⟨#[110,101,118,101,114]⟩))) λv18=>
 bO (A8 v14 v18 (B false)) λv19=>
 bB v19 λt20=>bI t20 (
 K (.tup [(.lit (.string ⟨#[]⟩)),(.lit (.string ⟨#[]⟩)),(.lit (.string ⟨#[]⟩)),(B false)]) H6)
 (bO (Ap .add x43 (I 1)) λv21=>
 R8 [v8,x6,x41,x42,v21] H6))
 (bO (Ac 1 x6) λv22=>
 bO (Au false 1 H v22) λv23=>
 bO (Bj 1 v23 (I 0)) λv24=>
 bO (Au false 1 H v24) λv25=>
 bO (Ac 1 x6) λv26=>
 bO (Au false 1 H v26) λv27=>
 bO (Bj 1 v27 (I 1)) λv28=>
 bO (Au false 1 H v28) λv29=>
 K (.tup [v25,v29,x4,(B true)]) H)
theorem RM {K:KT}:nA (λR x4 x6 x41 x42 x43 H=>OD R x4 x6 x41 x42 x43 H K) (λx4 x6 x41 x42 x43 H=>SE x4 x6 x41 x42 x43 H K):=Xy (A7 _ _) (λ_ _ _ _ _ _ _=>by kernel_rfl)
def Y7 (a0:AV)(H:AH)(K:KT):Prop:=
 bC (BCall prog 83 [(.lit (.string ⟨#[]⟩)),a0] H) λv0 H1=>
 bO (Aj v0 0) λv2=>
 bO (Aj v0 1) λv3=>
 bH (AD H1 (.agg [Ad,Ad])) λv4 H5=>
 bS (AT 2 H5 v4 v2) λH6=>
 bO (Fb .not v3) λv7=>
 bG v7 false λw8=>
 gO w8 (Ac 1 v4) λv9=>
 bG v7 false λw10=>
 gO w10 (Au false 1 H6 v9) λv11=>
 bG v7 false λw12=>
 gO w12 (Ba v11) λv13=>
 bG v7 false λw14=>
 gO w14 (Ap .neq v13 (I 2)) λv15=>
 bO (A8 v7 (B true) v15) λv16=>
 bG v16 false λw17=>
 gO w17 (Ac 1 v4) λv18=>
 bG v16 false λw19=>
 gO w19 (Au false 1 H6 v18) λv20=>
 bG v16 false λw21=>
 gO w21 (Bj 1 v20 (I 0)) λv22=>
 bG v16 false λw23=>
 gO w23 (Au false 1 H6 v22) λv24=>
 bG v16 false λw25=>
 gO w25 (Ac 1 v4) λv26=>
 bG v16 false λw27=>
 gO w27 (Au false 1 H6 v26) λv28=>
 bG v16 false λw29=>
 gO w29 (Bj 1 v28 (I 1)) λv30=>
 bG v16 false λw31=>
 gO w31 (Au false 1 H6 v30) λv32=>
 bG v16 false λw33=>
 gO w33 (Rq .eql v24 v32) λv34=>
 bO (A8 v16 (B true) v34) λv35=>
 bG v35 false λw36=>
 gO w36 (Ac 0 v4) λv37=>
 bG v35 false λw38=>
 gO w38 (Au false 1 H6 v37) λv39=>
 bG v35 false λw40=>
 gO w40 (Tq 1 1 (Be [(.lit (.string ⟨#[]⟩))] 1) [(0,1,(.lit (.string ⟨#[115,112,97,114,115,101]⟩)))]) λv41=>
 bG v35 false λw42=>
 gC w42 (BCall prog 84 [v39,v41] H6) H6 λv43 H44=>
 bG v35 false λw45=>
 gO w45 (Fb .not v43) λv46=>
 bO (A8 v35 (B true) v46) λv47=>
 bB v47 λt48=>bI t48 (
 K (.tup [(.lit (.string ⟨#[]⟩)),(.lit (.string ⟨#[]⟩)),(.lit (.string ⟨#[]⟩)),(B false)]) H44)
 (bO (Ac 0 v4) λv49=>
 bO (Au false 1 H44 v49) λv50=>
 bO (Ba v50) λv51=>
 SE (.lit (.string ⟨#[97,117,116,111]⟩)) v4 v50 v51 (I 0) H44 K)
theorem Y8 {a0:AV}{H:AH}{K:KT}(h:Y7 a0 H K):Cw 38 [a0] H K:=
 fok AA Hu SF func38 h
def OA:Nat→Option (List Bool):=Co [(3,mk 23 0 [1,4,9,10,11])]
def Qg (p:List Bool)(n:Nat):List AV→AH→Kf→Prop:=AJ prog AA Hu Aq Aq OA (sub p (AL f85)) n
def O9 (x1 x4 x9 x10 x11:AV)(H:AH)(K:KT):Prop:=lp (mk 23 0 [1,4,9,10,11]) (Qg [tT,fF,tT,fF,fF] 4) [x1,x4,x9,x10,x11] H (Bh 0 (Bl (Qg [tT,tT] 10) (Bm prog f85.results.toList K)))
def LM (R3:RT)(x1 x4 x9 x10 x11:AV)(H:AH)(K:KT):Prop:=
 bO (Ap .lss x11 x10) λv0=>
 bB v0 λt1=>bI t1 (
 bO (Bj 3 x9 x11) λv2=>
 bO (Au true 3 H v2) λv3=>
 bH (AD H (.agg [(I 0),(I 0),Ad])) λv4 H5=>
 bS (AT 3 H5 v4 v3) λH6=>
 bO (Ac 0 v4) λv7=>
 bO (Au false 1 H6 v7) λv8=>
 bO (Ap .eql v8 x1) λv9=>
 bB v9 λt10=>bI t10 (
 bO (Ac 1 v4) λv11=>
 bO (Au true 2 H6 v11) λv12=>
 bS (AT 2 H6 x4 v12) λH13=>
 bO (Au true 2 H13 x4) λv14=>
 K v14 H13)
 (bO (Ap .add x11 (I 1)) λv15=>
 R3 [x1,x4,x9,x10,v15] H6))
 (bO (FK [(I 0),Ad] []) λv16=>
 bS (AT 2 H x4 v16) λH17=>
 bO (Au true 2 H17 x4) λv18=>
 K v18 H17)
theorem Pm {K:KT}:nA (λR x1 x4 x9 x10 x11 H=>LM R x1 x4 x9 x10 x11 H K) (λx1 x4 x9 x10 x11 H=>O9 x1 x4 x9 x10 x11 H K):=Xy (A7 _ _) (λ_ _ _ _ _ _ _=>by kernel_rfl)
def Ut (a0 a1:AV)(H:AH)(K:KT):Prop:=
 bH (AD H (.agg [(I 0),Ad])) λv0 H1=>
 bC (BCall prog 14 [a0] H1) λv2 H3=>
 bO (Yf false 1 1 v2) λv4=>
 bO (Ba v4) λv5=>
 O9 a1 v0 v4 v5 (I 0) H3 K
theorem VD {a0 a1:AV}{H:AH}{K:KT}(h:Ut a0 a1 H K):Cw 85 [a0,a1] H K:=
 fok AA Hu OA func85 h
def SD:Nat→Option (List Bool):=Co [(3,mk 26 0 [1,6,7,8])]
def Us (p:List Bool)(n:Nat):List AV→AH→Kf→Prop:=AJ prog AA Hu Aq Aq SD (sub p (AL f86)) n
def SC (x1 x6 x7 x8:AV)(H:AH)(K:KT):Prop:=lp (mk 26 0 [1,6,7,8]) (Us [tT,fF,tT,fF,fF] 4) [x1,x6,x7,x8] H (Bh 0 (Bl (Us [tT,tT] 10) (Bm prog f86.results.toList K)))
def O8 (R3:RT)(x1 x6 x7 x8:AV)(H:AH)(K:KT):Prop:=
 bO (Ap .lss x8 x7) λv0=>
 bB v0 λt1=>bI t1 (
 bO (Bj 9 x6 x8) λv2=>
 bO (Au true 9 H v2) λv3=>
 bH (AD H (.agg [(I 0),u0Z,u0Z,u0Z,u0Z,u0Z,u0Z,u0Z,u0Z])) λv4 H5=>
 bS (AT 9 H5 v4 v3) λH6=>
 bO (Ac 0 v4) λv7=>
 bO (Au false 1 H6 v7) λv8=>
 bO (Ap .mul v8 (I 8)) λv9=>
 bO (Ac 0 x1) λv10=>
 bO (Au false 1 H6 v10) λv11=>
 bO (Ap .geq v9 v11) λv12=>
 bB v12 λt13=>bI t13 (
 bO (Ac 1 x1) λv14=>
 bO (Au false 1 H6 v14) λv15=>
 bO (AX 9 v15 none (some x8) none) λv16=>
 K v16 H6)
 (bO (Ap .add x8 (I 1)) λv17=>
 R3 [x1,x6,x7,v17] H6))
 (bO (Ac 1 x1) λv18=>
 bO (Au false 1 H v18) λv19=>
 K v19 H)
theorem RJ {K:KT}:WN (λR x1 x6 x7 x8 H=>O8 R x1 x6 x7 x8 H K) (λx1 x6 x7 x8 H=>SC x1 x6 x7 x8 H K):=Ms (A7 _ _) (λ_ _ _ _ _ _=>by kernel_rfl)
def Y3 (a0:AV)(H:AH)(K:KT):Prop:=
 bH (AD H a0) λv0 H1=>
 bO (Ac 1 v0) λv2=>
 bO (Au false 1 H1 v2) λv3=>
 bO (Ba v3) λv4=>
 SC v0 v3 v4 (I 0) H1 K
theorem Y4 {a0:AV}{H:AH}{K:KT}(h:Y3 a0 H K):Cw 86 [a0] H K:=
 fok AA Hu SD func86 h
def Y5 (a0:AV)(H:AH)(K:KT):Prop:=
 bO (Ap .add a0 (I 8)) λv0=>
 bO (Ap .sub v0 (I 1)) λv1=>
 bO (Ap .quo v1 (I 8)) λv2=>
 K v2 H
theorem Y6 {a0:AV}{H:AH}{K:KT}(h:Y5 a0 H K):Cw 87 [a0] H K:=
 fok AA Hu BA func87 h
def LO (a0 a1 a2:AV)(H:AH)(K:KT):Prop:=
 bO (Ai a0) λv0=>
 bO (Ac 0 v0) λv1=>
 bO (Au false 1 H v1) λv2=>
 bO (Ai a0) λv3=>
 bO (Ac 2 v3) λv4=>
 bO (Au false 1 H v4) λv5=>
 bO (Ap .mul a1 (I 8)) λv6=>
 bO (Ai a0) λv7=>
 bO (Ac 3 v7) λv8=>
 bO (Ac 0 v8) λv9=>
 bO (Au false 1 H v9) λv10=>
 bO (Ap .mul a1 (I 8)) λv11=>
 bO (Ap .sub v10 v11) λv12=>
 bO (amm VP [(I 8),v12]) λv13=>
 bO (AX 1 a2 none (some v13) none) λv14=>
 bC (BCall prog 44 [v2,v5,v6,v14] H) λv15 H16=>
 bO (Aj v15 0) λv17=>
 bO (Aj v15 1) λv18=>
 K v18 H16
theorem Po {a0 a1 a2:AV}{H:AH}{K:KT}(h:LO a0 a1 a2 H K):Cw 161 [a0,a1,a2] H K:=
 fok AA Hu BA func161 h
def Jd:Nat→Option (List Bool):=Co [(6,mk 30 0 [0,10,11,12]),(3,mk 30 0 [0,10,11,12])]
def EA (p:List Bool)(n:Nat):List AV→AH→Kf→Prop:=AJ prog AA Hu Aq Aq Jd (sub p (AL f90)) n
def FM (R3:RT)(x0 x10 x11 x12:AV)(H:AH)(K:KT):Prop:=jn (mk 30 0 [0,10,11,12]) (EA [tT,fF,tT,fF,fF,tT,tT,tT] 13) [x0,x10,x11,x12] H (Mh (mk 30 0 [0,10,11,12]) R3 (Bh 0 (Bl (EA [tT,tT] 13) (Bm prog f90.results.toList K))))
def Jc (x0 x10 x11 x12:AV)(H:AH)(K:KT):Prop:=lp (mk 30 0 [0,10,11,12]) (EA [tT,fF,tT,fF,fF] 4) [x0,x10,x11,x12] H (Bh 0 (Bl (EA [tT,tT] 13) (Bm prog f90.results.toList K)))
def EO (R3:RT)(x0 x10 x11 x12:AV)(H:AH)(K:KT):Prop:=
 bO (Ap .add x12 (I 1)) λv0=>
 R3 [x0,x10,x11,v0] H
theorem GN (R3:RT)(x0 x10 x11 x12:AV)(H:AH)(K:KT):FM R3 x0 x10 x11 x12 H K=EO R3 x0 x10 x11 x12 H K:=(DG _ _ _ _ _).trans (by kernel_rfl)
def Hz (R3:RT)(x0 x10 x11 x12:AV)(H:AH)(K:KT):Prop:=
 bO (Ap .lss x12 x11) λv0=>
 bB v0 λt1=>bI t1 (
 bO (Bj 9 x10 x12) λv2=>
 bO (Au true 9 H v2) λv3=>
 bH (AD H (.agg [(I 0),u0Z,u0Z,u0Z,u0Z,u0Z,u0Z,u0Z,u0Z])) λv4 H5=>
 bS (AT 9 H5 v4 v3) λH6=>
 bO (Ac 1 v4) λv7=>
 bO (Lx 8 1 H6 v7 none none) λv8=>
 bH (Cr H6 1 1 (Be [Ad] 1) [(0,1,v8)]) λv9 H10=>
 bC (BCall prog 162 [v9] H10) λv11 H12=>
 bB v11 λt13=>bI t13 (
 FM R3 x0 x10 x11 x12 H12 K)
 (bO (Ac 0 v4) λv14=>
 bO (Au false 1 H12 v14) λv15=>
 bO (Ac 1 v4) λv16=>
 bO (Lx 8 1 H12 v16 none none) λv17=>
 bC (BCall prog 161 [x0,v15,v17] H12) λv18 H19=>
 bO (Ap .neq v18 (I 0)) λv20=>
 bB v20 λt21=>bI t21 (
 K v18 H19)
 (FM R3 x0 x10 x11 x12 H19 K)))
 (K (I 0) H)
theorem KA {K:KT}:WN (λR x0 x10 x11 x12 H=>Hz R x0 x10 x11 x12 H K) (λx0 x10 x11 x12 H=>Jc x0 x10 x11 x12 H K):=Ms (A7 _ _) (λ_ _ _ _ _ _=>by kernel_rfl)
def LN (a0:AV)(H:AH)(K:KT):Prop:=
 bO (Ai a0) λv0=>
 bO (Ac 3 v0) λv1=>
 bO (Au true 2 H v1) λv2=>
 bC (BCall prog 86 [v2] H) λv3 H4=>
 bO (Ba v3) λv5=>
 Jc a0 v3 v5 (I 0) H4 K
theorem Pn {a0:AV}{H:AH}{K:KT}(h:LN a0 H K):Cw 90 [a0] H K:=
 fok AA Hu Jd func90 h
def K8:C1:=KM [(7,[(5,some 6)])]
def K9:Nat→Option (List Bool):=Co [(7,mk 46 0 [0,3,17,18]),(13,mk 46 0 [0,3,6,17,18,43]),(12,mk 46 0 [0,3,6,17,18]),(10,mk 46 0 [0,3,4,5,17,18]),(4,mk 46 0 [0,3,17,18])]
def Bn (p:List Bool)(n:Nat):List AV→AH→Kf→Prop:=AJ prog K8 Hu Aq Aq K9 (sub p (AL f89)) n
def K6 (R4:RT)(x0 x3 x17 x18:AV)(H:AH)(K:KT):Prop:=jn (mk 46 0 [0,3,17,18]) (Bn [tT,tT,fF,tT,fF,fF,tT,tT,tT] 15) [x0,x3,x17,x18] H (Mh (mk 46 0 [0,3,17,18]) R4 (Bh 0 (Bl (Bn [tT,tT,tT] 15) (Bm prog f89.results.toList K))))
def JK (R4:RT)(x0 x3 x6 x17 x18 x43:AV)(H:AH)(K:KT):Prop:=jn (mk 46 0 [0,3,6,17,18,43]) (Bn [tT,tT,fF,tT,fF,fF,tT,tT,fF,fF,tT,tT,tT,tT,tT] 14) [x0,x3,x6,x17,x18,x43] H (Bh 1 (Bl (MM (mk 46 0 [0,3,17,18]) (Bn [tT,tT,fF,tT,fF,fF,tT,tT,tT] 15)) (Mh (mk 46 0 [0,3,17,18]) R4 (Bh 0 (Bl (Bn [tT,tT,tT] 15) (Bm prog f89.results.toList K))))))
def JJ (R4:RT)(x0 x3 x6 x17 x18:AV)(H:AH)(K:KT):Prop:=jn (mk 46 0 [0,3,6,17,18]) (Bn [tT,tT,fF,tT,fF,fF,tT,tT,fF,fF,tT,tT,tT,tT] 13) [x0,x3,x6,x17,x18] H (Bh 1 (Bl (MM (mk 46 0 [0,3,17,18]) (Bn [tT,tT,fF,tT,fF,fF,tT,tT,tT] 15)) (Mh (mk 46 0 [0,3,17,18]) R4 (Bh 0 (Bl (Bn [tT,tT,tT] 15) (Bm prog f89.results.toList K))))))
def E9 (R4:RT)(x0 x3 x4 x5 x17 x18:AV)(H:AH)(K:KT):Prop:=jn (mk 46 0 [0,3,4,5,17,18]) (Bn [tT,tT,fF,tT,fF,fF,tT,tT,fF,fF,tT,tT,tT] 12) [x0,x3,x4,x5,x17,x18] H (Bh 1 (Bl (MM (mk 46 0 [0,3,17,18]) (Bn [tT,tT,fF,tT,fF,fF,tT,tT,tT] 15)) (Mh (mk 46 0 [0,3,17,18]) R4 (Bh 0 (Bl (Bn [tT,tT,tT] 15) (Bm prog f89.results.toList K))))))
def K7 (x0 x3 x17 x18:AV)(H:AH)(K:KT):Prop:=lp (mk 46 0 [0,3,17,18]) (Bn [tT,tT,fF,tT,fF,fF] 5) [x0,x3,x17,x18] H (Bh 0 (Bl (Bn [tT,tT,tT] 15) (Bm prog f89.results.toList K)))
def Ja (R4:RT)(x0 x3 x17 x18:AV)(H:AH)(K:KT):Prop:=
 bO (Ap .add x18 (I 1)) λv0=>
 R4 [x0,x3,x17,v0] H
theorem Og (R4:RT)(x0 x3 x17 x18:AV)(H:AH)(K:KT):K6 R4 x0 x3 x17 x18 H K=Ja R4 x0 x3 x17 x18 H K:=(DG _ _ _ _ _).trans (by kernel_rfl)
def Il (R4:RT)(x0 x3 x6 x17 x18 x43:AV)(H:AH)(K:KT):Prop:=
 bB x43 λt0=>bI t0 (
 K x6 H)
 (K6 R4 x0 x3 x17 x18 H K)
theorem MH (R4:RT)(x0 x3 x6 x17 x18 x43:AV)(H:AH)(K:KT):JK R4 x0 x3 x6 x17 x18 x43 H K=Il R4 x0 x3 x6 x17 x18 x43 H K:=(DG _ _ _ _ _).trans (by kernel_rfl)
def Ik (R4:RT)(x0 x3 x6 x17 x18:AV)(H:AH)(K:KT):Prop:=
 bO (Ap .neq x6 (I 0)) λv0=>
 JK R4 x0 x3 x6 x17 x18 v0 H K
theorem MG (R4:RT)(x0 x3 x6 x17 x18:AV)(H:AH)(K:KT):JJ R4 x0 x3 x6 x17 x18 H K=Ik R4 x0 x3 x6 x17 x18 H K:=(DG _ _ _ _ _).trans (by kernel_rfl)
def Ij (R4:RT)(x0 x3 x4 x5 x17 x18:AV)(H:AH)(K:KT):Prop:=
 bO (Lx 8 1 H x5 none none) λv0=>
 bC (BCall prog 161 [x0,x4,v0] H) λv1 H2=>
 JJ R4 x0 x3 v1 x17 x18 H2 K
theorem MF (R4:RT)(x0 x3 x4 x5 x17 x18:AV)(H:AH)(K:KT):E9 R4 x0 x3 x4 x5 x17 x18 H K=Ij R4 x0 x3 x4 x5 x17 x18 H K:=(DG _ _ _ _ _).trans (by kernel_rfl)
def Jb (R4:RT)(x0 x3 x17 x18:AV)(H:AH)(K:KT):Prop:=
 bO (Ap .lss x18 x17) λv0=>
 bB v0 λt1=>bI t1 (
 bH (AD H (.agg [u0Z,u0Z,u0Z,u0Z,u0Z,u0Z,u0Z,u0Z])) λv2 H3=>
 bO (Ba x3) λv4=>
 bO (Ap .gtr v4 (I 0)) λv5=>
 bG v5 true λw6=>
 gO w6 (some x3) λv7=>
 bG v5 true λw8=>
 gO w8 (Bj 9 v7 (I 0)) λv9=>
 bG v5 true λw10=>
 gO w10 (Ac 0 v9) λv11=>
 bG v5 true λw12=>
 gO w12 (Au false 1 H3 v11) λv13=>
 bG v5 true λw14=>
 gO w14 (some x18) λv15=>
 bG v5 true λw16=>
 gO w16 (Ap .eql v13 v15) λv17=>
 bO (A8 v5 v17 (B false)) λv18=>
 bB v18 λt19=>bI t19 (
 bO (Bj 9 x3 (I 0)) λv20=>
 bO (Ac 1 v20) λv21=>
 bO (Au true 8 H3 v21) λv22=>
 bO (AX 9 x3 (some (I 1)) none none) λv23=>
 bS (AT 8 H3 v2 v22) λH24=>
(AX 9 x3 (some (I 1)) none none=some v23)∧
 E9 R4 x0 v23 x18 v2 x17 x18 H24 K)
 (E9 R4 x0 x3 x18 v2 x17 x18 H3 K))
 (K (I 0) H)
theorem Mn {K:KT}:WN (λR x0 x3 x17 x18 H=>Jb R x0 x3 x17 x18 H K) (λx0 x3 x17 x18 H=>K7 x0 x3 x17 x18 H K):=Ms (A7 _ _) (λ_ _ _ _ _ _=>by kernel_rfl)
def OB (a0:AV)(H:AH)(K:KT):Prop:=
 bO (Ai a0) λv0=>
 bO (Ac 3 v0) λv1=>
 bO (Au true 2 H v1) λv2=>
 bC (BCall prog 86 [v2] H) λv3 H4=>
 bO (Ai a0) λv5=>
 bO (Ac 3 v5) λv6=>
 bO (Ac 0 v6) λv7=>
 bO (Au false 1 H4 v7) λv8=>
 bP (PCall prog 87 [v8] H4) λv9=>
 K7 a0 v3 v9 (I 0) H4 K
theorem RK {a0:AV}{H:AH}{K:KT}(h:OB a0 H K):Cw 89 [a0] H K:=
 fok K8 Hu K9 func89 h
def MI (a0 a1:AV)(H:AH)(K:KT):Prop:=
 bO (Ai a0) λv0=>
 bO (Ac 0 v0) λv1=>
 bO (Au false 1 H v1) λv2=>
 bC (BCall prog 18 [v2,a1,(B true)] H) λv3 H4=>
 bO (Aj v3 0) λv5=>
 bO (Aj v3 1) λv6=>
 bO (Ap .neq v6 (I 0)) λv7=>
 bB v7 λt8=>bI t8 (
 K v6 H4)
 (bO (Ai a0) λv9=>
 bO (Ac 2 v9) λv10=>
 bS (AT 1 H4 v10 v5) λH11=>
 bO (Ai a0) λv12=>
 bO (Ac 0 v12) λv13=>
 bO (Au false 1 H11 v13) λv14=>
 bC (BCall prog 19 [v14,v5,(I 0)] H11) λv15 H16=>
 K v15 H16)
theorem Qh {a0 a1:AV}{H:AH}{K:KT}(h:MI a0 a1 H K):Cw 88 [a0,a1] H K:=
 fok AA Hu BA func88 h
def KB:C1:=KM [(5,[(16,none)])]
def KC:Nat→Option (List Bool):=Co [(17,mk 101 0 [0]),(19,mk 101 0 [0,12,85]),(18,mk 101 0 [0,12]),(15,mk 101 0 [0,11])]
def Dz (p:List Bool)(n:Nat):List AV→AH→Kf→Prop:=AJ prog KB Hu Aq Aq KC (sub p (AL f39)) n
def JL (x0:AV)(H:AH)(K:KT):Prop:=jn (mk 101 0 [0]) (Dz [tT,tT,tT,tT,tT,tT,tT,tT,tT] 21) [x0] H (Bm prog f39.results.toList K)
def JM (x0 x12 x85:AV)(H:AH)(K:KT):Prop:=jn (mk 101 0 [0,12,85]) (Dz [tT,tT,tT,tT,tT,tT,tT,tT,fF,tT,tT] 20) [x0,x12,x85] H (Bl (MM (mk 101 0 [0]) (Dz [tT,tT,tT,tT,tT,tT,tT,tT,tT] 21)) (Bm prog f39.results.toList K))
def Gv (x0 x12:AV)(H:AH)(K:KT):Prop:=jn (mk 101 0 [0,12]) (Dz [tT,tT,tT,tT,tT,tT,tT,tT,fF,tT] 19) [x0,x12] H (Bl (MM (mk 101 0 [0]) (Dz [tT,tT,tT,tT,tT,tT,tT,tT,tT] 21)) (Bm prog f39.results.toList K))
def D2 (x0 x11:AV)(H:AH)(K:KT):Prop:=jn (mk 101 0 [0,11]) (Dz [tT,tT,tT,tT,tT,tT,tT,tT] 17) [x0,x11] H (Bm prog f39.results.toList K)
def Im (x0:AV)(H:AH)(K:KT):Prop:=
 bO (Ai x0) λv0=>
 bO (Ac 0 v0) λv1=>
 bO (Au false 1 H v1) λv2=>
 bO (Ai x0) λv3=>
 bO (Ac 2 v3) λv4=>
 bO (Au false 1 H v4) λv5=>
 bO (Ai x0) λv6=>
 bO (Ac 3 v6) λv7=>
 bO (Ac 0 v7) λv8=>
 bO (Au false 1 H v8) λv9=>
 bC (BCall prog 19 [v2,v5,v9] H) λv10 H11=>
 K v10 H11
theorem MJ (x0:AV)(H:AH)(K:KT):JL x0 H K=Im x0 H K:=(DG _ _ _ _ _).trans (by kernel_rfl)
def Io (x0 x12 x85:AV)(H:AH)(K:KT):Prop:=
 bB x85 λt0=>bI t0 (
 K x12 H)
 (JL x0 H K)
theorem ML (x0 x12 x85:AV)(H:AH)(K:KT):JM x0 x12 x85 H K=Io x0 x12 x85 H K:=(DG _ _ _ _ _).trans (by kernel_rfl)
def In (x0 x12:AV)(H:AH)(K:KT):Prop:=
 bO (Ap .neq x12 (I 0)) λv0=>
 JM x0 x12 v0 H K
theorem MK (x0 x12:AV)(H:AH)(K:KT):Gv x0 x12 H K=In x0 x12 H K:=(DG _ _ _ _ _).trans (by kernel_rfl)
def Fm (x0 x11:AV)(H:AH)(K:KT):Prop:=
 bF true x11 λk2 f2 c2=>
 bT (B4 prog k2||!true)<|
 bC (BCall prog k2 (f2++[]++c2) H) λv0 H1=>
 Gv x0 v0 H1 K
theorem HA (x0 x11:AV)(H:AH)(K:KT):D2 x0 x11 H K=Fm x0 x11 H K:=(DG _ _ _ _ _).trans (by kernel_rfl)
def OC (a0 a1 a2:AV)(H:AH)(K:KT):Prop:=
 bO (Ai a0) λv0=>
 bO (Ac 0 v0) λv1=>
 bO (Au false 1 H v1) λv2=>
 bO (Ai a0) λv3=>
 bO (Ac 1 v3) λv4=>
 bO (Au false 1 H v4) λv5=>
 bC (BCall prog 60 [v2,v5] H) λv6 H7=>
 bO (Aj v6 0) λv8=>
 bO (Aj v6 1) λv9=>
 bO (Ap .neq v9 (I 0)) λv10=>
 bB v10 λt11=>bI t11 (
 K v9 H7)
 (bO (Ai a0) λv12=>
 bO (Ac 0 v12) λv13=>
 bO (Au false 1 H7 v13) λv14=>
 bO (Ai a0) λv15=>
 bO (Ac 1 v15) λv16=>
 bO (Au false 1 H7 v16) λv17=>
 bC (BCall prog 85 [v14,v17] H7) λv18 H19=>
 bO (Ai a0) λv20=>
 bO (Ac 3 v20) λv21=>
 bS (AT 2 H19 v21 v18) λH22=>
 bO (Rq .eql a2 (.lit (.string ⟨#[97,108,119,97,121,115]⟩))) λv23=>
 bG v23 false λw24=>
 gO w24 (some a2) λv25=>
 bG v23 false λw26=>
 gO w26 (Rq .eql v25 (.lit (.string ⟨#[97,117,116,111]⟩))) λv27=>
 bG v23 false λw28=>
 gO w28 (some v27) λv29=>
 bG v29 true λw30=>
 gO w30 (some a0) λv31=>
 bG v29 true λw32=>
 gO w32 (Ai v31) λv33=>
 bG v29 true λw34=>
 gO w34 (Ac 3 v33) λv35=>
 bG v29 true λw36=>
 gO w36 (Au true 2 H22 v35) λv37=>
 bG v29 true λw38=>
 gC w38 (BCall prog 86 [v37] H22) H22 λv39 H40=>
 bG v29 true λw41=>
 gO w41 (Ba v39) λv42=>
 bG v29 true λw43=>
 gO w43 (some a0) λv44=>
 bG v29 true λw45=>
 gO w45 (Ai v44) λv46=>
 bG v29 true λw47=>
 gO w47 (Ac 3 v46) λv48=>
 bG v29 true λw49=>
 gO w49 (Ac 0 v48) λv50=>
 bG v29 true λw51=>
 gO w51 (Au false 1 H40 v50) λv52=>
 bG v29 true λw53=>
 gP w53 (BPure prog 87 [v52]) λv54=>
 bG v29 true λw55=>
 gO w55 (Ap .lss v42 v54) λv56=>
 bG v23 false λw57=>
 gO w57 (A8 v29 v56 (B false)) λv58=>
 bO (A8 v23 (B true) v58) λv59=>
(bG v29 true λw=>bI w (Au false 1 H22 v50=some v52) True)∧
 bO (Fb .not v59) λv60=>
 bG v60 true λw61=>
 gO w61 (some a0) λv62=>
 bG v60 true λw63=>
 gO w63 (Ai v62) λv64=>
 bG v60 true λw65=>
 gO w65 (Ac 3 v64) λv66=>
 bG v60 true λw67=>
 gO w67 (Ac 0 v66) λv68=>
 bG v60 true λw69=>
 gO w69 (Au false 1 H40 v68) λv70=>
 bG v60 true λw71=>
 gO w71 (Ap .gtr v70 (I 32768)) λv72=>
 bO (A8 v60 v72 (B false)) λv73=>
 bB v73 λt74=>bI t74 (
 K (I 4) H40)
 (bC (BCall prog 88 [a0,a1] H40) λv75 H76=>
 bO (Ap .neq v75 (I 0)) λv77=>
 bB v77 λt78=>bI t78 (
 K v75 H76)
 (bB v59 λt79=>bI t79 (
 D2 a0 (.fn (.func 90) [a0] []) H76 K)
 (D2 a0 (.fn (.func 89) [a0] []) H76 K))))
theorem RL {a0 a1 a2:AV}{H:AH}{K:KT}(h:OC a0 a1 a2 H K):Cw 39 [a0,a1,a2] H K:=
 fok KB Hu KC func39 h
def jZ (a0 a1:AV)(H:AH)(K:KT):Prop:=
 bH (AD H (.agg [(I 0),(.lit (.string ⟨#[]⟩)),(I 0),(I 0),(I 0),(I 0),(I 0)])) λv0 H1=>
 bC (BCall prog 38 [a1] H1) λv2 H3=>
 bO (Aj v2 0) λv4=>
 bO (Aj v2 1) λv5=>
 bO (Aj v2 2) λv6=>
 bO (Aj v2 3) λv7=>
 bO (Fb .not v7) λv8=>
 bB v8 λt9=>bI t9 (
 bO (FK [(I 0),(.lit (.string ⟨#[]⟩)),(I 0),(I 0),(I 0),(I 0),(I 0)] [(0,1,(I 2))]) λv10=>
 bS (AT 7 H3 v0 v10) λH11=>
 bO (Au true 7 H11 v0) λv12=>
 K v12 H11)
 (bC (BCall prog 18 [a0,v4,(B false)] H3) λv13 H14=>
 bO (Aj v13 0) λv15=>
 bO (Aj v13 1) λv16=>
 bO (Ap .neq v16 (I 0)) λv17=>
 bB v17 λt18=>bI t18 (
 bO (FK [(I 0),(.lit (.string ⟨#[]⟩)),(I 0),(I 0),(I 0),(I 0),(I 0)] [(0,1,v16)]) λv19=>
 bS (AT 7 H14 v0 v19) λH20=>
 bO (Au true 7 H20 v0) λv21=>
 K v21 H20)
 (bO (FK [(.lit (.pointer none)),(I 0),(I 0),(I 0),Ad] [(0,1,a0),(1,1,v15)]) λv22=>
 bH (AD H14 v22) λv23 H24=>
 bC (BCall prog 39 [v23,v5,v6] H24) λv25 H26=>
 bO (FK [(I 0),(.lit (.string ⟨#[]⟩)),(I 0),(I 0),(I 0),(I 0),(I 0)] [(0,1,v25)]) λv27=>
 bS (AT 7 H26 v0 v27) λH28=>
 bO (Au true 7 H28 v0) λv29=>
 K v29 H28))
theorem eY {a0 a1:AV}{H:AH}{K:KT}(h:jZ a0 a1 H K):Cw 12 [a0,a1] H K:=
 fok AA Hu BA func12 h
def GT:Nat→Option (List Bool):=Co [(17,mk 68 0 [0,4,5,6,7,8,9,10]),(14,mk 68 0 [0,4,5,6,7,8,9,10]),(5,mk 68 0 [0,4,5,6,7])]
def Bi (p:List Bool)(n:Nat):List AV→AH→Kf→Prop:=AJ prog AA Hu Aq Aq GT (sub p (AL f16)) n
def Da (R14:RT)(R5:RT)(x0 x4 x5 x6 x7 x8 x9 x10:AV)(H:AH)(K:KT):Prop:=jn (mk 68 0 [0,4,5,6,7,8,9,10]) (Bi [tT,tT,tT,fF,tT,fF,fF,tT,fF,fF,tT,tT,tT,fF,tT,fF,fF,tT,tT] 19) [x0,x4,x5,x6,x7,x8,x9,x10] H (Mh (mk 68 0 [0,4,5,6,7,8,9,10]) R14 (Bh 2 (Bl (Bi [tT,tT,tT,fF,tT,fF,fF,tT,fF,fF,tT,tT,tT,tT] 19) (Bh 1 (Bl (Bi [tT,tT,tT,fF,tT,fF,fF,tT,tT] 19) (Mh (mk 68 0 [0,4,5,6,7]) R5 (Bh 0 (Bl (Bi [tT,tT,tT,tT] 19) (Bm prog f16.results.toList K)))))))))
def GA (R5:RT)(x0 x4 x5 x6 x7 x8 x9 x10:AV)(H:AH)(K:KT):Prop:=lp (mk 68 0 [0,4,5,6,7,8,9,10]) (Bi [tT,tT,tT,fF,tT,fF,fF,tT,fF,fF,tT,tT,tT,fF,tT,fF,fF] 15) [x0,x4,x5,x6,x7,x8,x9,x10] H (Bh 2 (Bl (Bi [tT,tT,tT,fF,tT,fF,fF,tT,fF,fF,tT,tT,tT,tT] 19) (Bh 1 (Bl (Bi [tT,tT,tT,fF,tT,fF,fF,tT,tT] 19) (Mh (mk 68 0 [0,4,5,6,7]) R5 (Bh 0 (Bl (Bi [tT,tT,tT,tT] 19) (Bm prog f16.results.toList K))))))))
def GS (x0 x4 x5 x6 x7:AV)(H:AH)(K:KT):Prop:=lp (mk 68 0 [0,4,5,6,7]) (Bi [tT,tT,tT,fF,tT,fF,fF] 6) [x0,x4,x5,x6,x7] H (Bh 0 (Bl (Bi [tT,tT,tT,tT] 19) (Bm prog f16.results.toList K)))
def Fx (R14:RT)(R5:RT)(x0 x4 x5 x6 x7 x8 x9 x10:AV)(H:AH)(K:KT):Prop:=
 bO (Ap .add x10 (I 1)) λv0=>
 R14 [x0,x4,x5,x6,x7,x8,x9,v0] H
theorem JA (R14:RT)(R5:RT)(x0 x4 x5 x6 x7 x8 x9 x10:AV)(H:AH)(K:KT):Da R14 R5 x0 x4 x5 x6 x7 x8 x9 x10 H K=Fx R14 R5 x0 x4 x5 x6 x7 x8 x9 x10 H K:=(DG _ _ _ _ _).trans (by kernel_rfl)
def Fy (R5:RT)(R14:RT)(x0 x4 x5 x6 x7 x8 x9 x10:AV)(H:AH)(K:KT):Prop:=
 bO (Ap .lss x10 (I 8)) λv0=>
 bB v0 λt1=>bI t1 (
 bO (Ap .mul x6 (I 8)) λv2=>
 bO (Ap .add v2 x10) λv3=>
 bO (Ac 0 x5) λv4=>
 bO (Au false 1 H v4) λv5=>
 bO (Ap .lss v3 v5) λv6=>
 bB v6 λt7=>bI t7 (
 bO (Bj 1 x9 x10) λv8=>
 bO (Au false 1 H v8) λv9=>
 bO (Ac 1 x8) λv10=>
 bO (PK 8 1 v10 x10) λv11=>
 bS (AT 1 H v11 v9) λH12=>
 Da R14 R5 x0 x4 x5 x6 x7 x8 x9 x10 H12 K)
 (Da R14 R5 x0 x4 x5 x6 x7 x8 x9 x10 H K))
 (bO (Ac 1 x5) λv13=>
 bO (Au false 1 H v13) λv14=>
 bO (Au true 9 H x8) λv15=>
 bH (Cr H 9 1 (Be [(I 0),u0Z,u0Z,u0Z,u0Z,u0Z,u0Z,u0Z,u0Z] 1) [(0,9,v15)]) λv16 H17=>
 bH (Mm 9 16 H17 v14 v16) λv18 H19=>
 bO (Ac 1 x5) λv20=>
 bS (AT 1 H19 v20 v18) λH21=>
 bO (Ap .add x7 (I 1)) λv22=>
 R5 [x0,x4,x5,x6,v22] H21)
theorem ID (R5:RT){K:KT}:yE (λR x0 x4 x5 x6 x7 x8 x9 x10 H=>Fy R5 R x0 x4 x5 x6 x7 x8 x9 x10 H K) (λx0 x4 x5 x6 x7 x8 x9 x10 H=>GA R5 x0 x4 x5 x6 x7 x8 x9 x10 H K):=wR (A7 _ _) (λ_ _ _ _ _ _ _ _ _ _=>by kernel_rfl)
def FX (R5:RT)(x0 x4 x5 x6 x7:AV)(H:AH)(K:KT):Prop:=
 bO (Ba x0) λv0=>
 bO (Ap .lss x7 v0) λv1=>
 bG v1 true λw2=>
 gO w2 (some x7) λv3=>
 bG v1 true λw4=>
 gO w4 (Ap .lss v3 (I 30)) λv5=>
 bO (A8 v1 v5 (B false)) λv6=>
 bB v6 λt7=>bI t7 (
 bO (Ap .add x6 (I 1)) λv8=>
 bO (Bj 2 x0 x7) λv9=>
 bO (Ac 0 v9) λv10=>
 bO (Au false 1 H v10) λv11=>
 bO (Ap .rem v11 (.lit (.int .u8 3))) λv12=>
 bO (Ts .i64 v12) λv13=>
 bO (Ap .add v8 v13) λv14=>
 bO (FK [(I 0),u0Z,u0Z,u0Z,u0Z,u0Z,u0Z,u0Z,u0Z] [(0,1,v14)]) λv15=>
 bH (AD H (.agg [(I 0),u0Z,u0Z,u0Z,u0Z,u0Z,u0Z,u0Z,u0Z])) λv16 H17=>
 bS (AT 9 H17 v16 v15) λH18=>
 bO (Bj 2 x0 x7) λv19=>
 bO (Ac 1 v19) λv20=>
 bO (Au false 1 H18 v20) λv21=>
 bP (PCall prog 45 [v21,(I 8)] H18) λv22=>
 GA R5 x0 x4 x5 v14 x7 v16 v22 (I 0) H18 K)
 (bO (Au true 2 H x5) λv23=>
 bS (AT 2 H x4 v23) λH24=>
 bO (Au true 2 H24 x4) λv25=>
 K v25 H24)
theorem Jw {K:KT}:nA (λR x0 x4 x5 x6 x7 H=>FX R x0 x4 x5 x6 x7 H K) (λx0 x4 x5 x6 x7 H=>GS x0 x4 x5 x6 x7 H K):=Xy (A7 _ _) (λ_ _ _ _ _ _ _=>by kernel_rfl)
def Jv (a0 a1:AV)(H:AH)(K:KT):Prop:=
 bH (AD H (.agg [(I 0),Ad])) λv0 H1=>
 bO (Ap .rem a1 (.lit (.int .u16 500))) λv2=>
 bO (Ts .i64 v2) λv3=>
 bO (FK [(I 0),Ad] [(0,1,v3)]) λv4=>
 bH (AD H1 (.agg [(I 0),Ad])) λv5 H6=>
 bS (AT 2 H6 v5 v4) λH7=>
 GS a0 v0 v5 (I (-1)) (I 0) H7 K
theorem Mu {a0 a1:AV}{H:AH}{K:KT}(h:Jv a0 a1 H K):Cw 16 [a0,a1] H K:=
 fok AA Hu GT func16 h
def Le (a0 a1 a2:AV)(H:AH)(K:KT):Prop:=
 bC (BCall prog 46 [a1] H) λv0 H1=>
 bC (BCall prog 46 [a2] H1) λv2 H3=>
 bH (Cr H3 1 2 (Be [(.lit (.string ⟨#[]⟩))] 2) [(0,1,v0),(1,1,v2)]) λv4 H5=>
 bO (Ap .rem a0 (.lit (.int .u8 4))) λv6=>
 bO (Ap .eql v6 (.lit (.int .u8 1))) λv7=>
 bB v7 λt8=>bI t8 (
 bH (Cr H5 1 1 (Be [(.lit (.string ⟨#[]⟩))] 1) [(0,1,(.lit (.string ⟨#[45,45,115,112,97,114,115,101,61,97,108,119,97,121,115]⟩)))]) λv9 H10=>
 bH (Mm 1 16 H10 v9 v4) λv11 H12=>
 K v11 H12)
 (bO (Ap .eql v6 (.lit (.int .u8 2))) λv13=>
 bB v13 λt14=>bI t14 (
 bH (Cr H5 1 1 (Be [(.lit (.string ⟨#[]⟩))] 1) [(0,1,(.lit (.string ⟨#[45,45,115,112,97,114,115,101,61,110,101,118,101,114]⟩)))]) λv15 H16=>
 bH (Mm 1 16 H16 v4 v15) λv17 H18=>
 K v17 H18)
 (bO (Ap .eql v6 (.lit (.int .u8 3))) λv19=>
 bB v19 λt20=>bI t20 (
 bH (Cr H5 1 2 (Be [(.lit (.string ⟨#[]⟩))] 2) [(0,1,(.lit (.string ⟨#[45,45,115,112,97,114,115,101,61,110,101,118,101,114]⟩))),(1,1,(.lit (.string ⟨#[45,45,115,112,97,114,115,101,61,97,117,116,111]⟩)))]) λv21 H22=>
 bH (Mm 1 16 H22 v4 v21) λv23 H24=>
 K v23 H24)
 (K v4 H5)))
theorem Ot {a0 a1 a2:AV}{H:AH}{K:KT}(h:Le a0 a1 a2 H K):Cw 17 [a0,a1,a2] H K:=
 fok AA Hu BA func17 h
def Iu:Nat→Option (List Bool):=Co [(8,mk 71 0 [2,4,8,9,10,11])]
def Iv:Nat→Bool:=ST []
def Jx (p:List Bool)(n:Nat):List AV→AH→Kf→Prop:=AJ prog AA Hu pG Iv Iu (sub p (AL f15)) n
def It (x2 x4 x8 x9 x10 x11:AV)(H:AH)(K:KT):Prop:=lp (mk 71 0 [2,4,8,9,10,11]) (Jx [tT,tT,tT,tT,fF,tT,fF,fF] 9) [x2,x4,x8,x9,x10,x11] H (Bh 0 (Bl (Jx [tT,tT,tT,tT,tT] 12) (Bm prog f15.results.toList K)))
def GU (R8:RT)(x2 x4 x8 x9 x10 x11:AV)(H:AH)(K:KT):Prop:=
 bO (Ac 1 x4) λv0=>
 bO (Au false 1 H v0) λv1=>
 bO (Ba v1) λv2=>
 bO (Ap .lss x11 v2) λv3=>
 bG v3 true λw4=>
 gO w4 (some x10) λv5=>
 bG v3 true λw6=>
 gO w6 (Ap .eql v5 (I 0)) λv7=>
 bO (A8 v3 v7 (B false)) λv8=>
 bB v8 λt9=>bI t9 (
 bO (Ac 1 x4) λv10=>
 bO (Au false 1 H v10) λv11=>
 bO (Bj 9 v11 x11) λv12=>
 bO (Ac 0 v12) λv13=>
 bO (Au false 1 H v13) λv14=>
 bO (Ap .mul v14 (I 8)) λv15=>
 bO (Ac 1 x4) λv16=>
 bO (Au false 1 H v16) λv17=>
 bO (Bj 9 v17 x11) λv18=>
 bO (Ac 1 v18) λv19=>
 bO (Lx 8 1 H v19 none none) λv20=>
 bC (BCall prog 44 [x8,x9,v15,v20] H) λv21 H22=>
 bO (Aj v21 0) λv23=>
 bO (Aj v21 1) λv24=>
 bO (Ap .add x11 (I 1)) λv25=>
 R8 [x2,x4,x8,x9,v24,v25] H22)
 (bO (Ac 0 x4) λv26=>
 bO (Au false 1 H v26) λv27=>
 bC (BCall prog 19 [x8,x9,v27] H) λv28 H29=>
 bO (Ap .eql x10 (I 0)) λv30=>
 bG v30 true λw31=>
 gO w31 (some v28) λv32=>
 bG v30 true λw33=>
 gO w33 (Ap .eql v32 (I 0)) λv34=>
 bO (A8 v30 v34 (B false)) λv35=>
 bG v35 true λw36=>
 gO w36 (some x8) λv37=>
 bG v35 true λw38=>
 gO w38 (some x2) λv39=>
 bG v35 true λw40=>
 gH w40 (Cr H29 1 1 (Be [Ad] 1) [(0,1,v39)]) H29 λv41 H42=>
 bG v35 true λw43=>
 gA w43 (ACalls prog 11 [v37,(.lit (.string ⟨#[98]⟩)),v41] H42) H42 λv44 H45=>
 bG v35 true λw46=>
 gO w46 (Ap .eql v44 (I 0)) λv47=>
 bO (A8 v35 v47 (B false)) λv48=>
 K (.tup [x8,v48]) H45)
theorem Kr {K:KT}:nM (λR x2 x4 x8 x9 x10 x11 H=>GU R x2 x4 x8 x9 x10 x11 H K) (λx2 x4 x8 x9 x10 x11 H=>It x2 x4 x8 x9 x10 x11 H K):=yK (C3 _ _) (λ_ _ _ _ _ _ _ _=>by kernel_rfl)
def Hj (a0 a1 a2:AV)(H:AH)(K:KT):Prop:=
 bH (AD H a1) λv0 H1=>
 bC (BCall prog 10 [a0] H1) λv2 H3=>
 bO (V5 .eql So v2 (.lit (.pointer none))) λv4=>
 bB v4 λt5=>bI t5 (
 K (.tup [(.lit (.pointer none)),(B false)]) H3)
 (bC (BCall prog 18 [v2,(.lit (.string ⟨#[97]⟩)),(B true)] H3) λv6 H7=>
 bO (Aj v6 0) λv8=>
 bO (Aj v6 1) λv9=>
 It a2 v0 v2 v8 v9 (I 0) H7 K)
theorem Ou (a0 a1 a2:AV)(H:AH)(K:KT):N1 prog AA Hu pG Iv Iu f15 [a0,a1,a2] H K=Hj a0 a1 a2 H K:=by kernel_rfl
theorem Ov {a0 a1 a2:AV}{H:AH}{K:KT}(h:Hj a0 a1 a2 H K):ACalls prog 15 [a0,a1,a2] H K:=
 FJ Kn func15 (by kernel_rfl) (Eq.mpr (Ou a0 a1 a2 H K) h)
def M0:Nat→Bool:=ST []
def FP (H:AH)(K:KT):Prop:=
 bC (BCall prog 10 [(I 9)] H) λv0 H1=>
 bO (V5 .eql So v0 (.lit (.pointer none))) λv2=>
 bG v2 false λw3=>
 gO w3 (some v0) λv4=>
 bG v2 false λw5=>
 gH w5 (qC 1 1 [u0Z] H1 (I 20) (I 20)) H1 λv6 H7=>
 bG v2 false λw8=>
 gH w8 (Cr H7 1 1 (Be [Ad] 1) [(0,1,v6)]) H7 λv9 H10=>
 bG v2 false λw11=>
 gA w11 (ACalls prog 11 [v4,(.lit (.string ⟨#[97]⟩)),v9] H10) H10 λv12 H13=>
 bG v2 false λw14=>
 gO w14 (Ap .neq v12 (I 0)) λv15=>
 bO (A8 v2 (B true) v15) λv16=>
 bB v16 λt17=>bI t17 (
 K (B false) H13)
 (bH (Cr H13 1 3 (Be [(.lit (.string ⟨#[]⟩))] 3) [(0,1,(.lit (.string ⟨#[45,45,115,112,97,114,115,101,61,97,108,119,97,121,115]⟩))),(1,1,(.lit (.string ⟨#[97]⟩))),(2,1,(.lit (.string ⟨#[98]⟩)))]) λv18 H19=>
 bC (BCall prog 12 [v0,v18] H19) λv20 H21=>
 bH (AD H21 (.agg [(I 0),(.lit (.string ⟨#[]⟩)),(I 0),(I 0),(I 0),(I 0),(I 0)])) λv22 H23=>
 bS (AT 7 H23 v22 v20) λH24=>
 bC (BCall prog 14 [v0] H24) λv25 H26=>
 bP (PCall prog 13 [v25,(I 2)] H26) λv27=>
 bO (Aj v27 0) λv28=>
 bO (Aj v27 1) λv29=>
 bH (AD H26 (.agg [(I 0),Ad])) λv30 H31=>
 bS (AT 2 H31 v30 v28) λH32=>
 bH (Cr H32 1 1 (Be [(.lit (.string ⟨#[]⟩))] 1) [(0,1,(.lit (.string ⟨#[97]⟩)))]) λv33 H34=>
 bC (BCall prog 12 [v0,v33] H34) λv35 H36=>
 bH (AD H36 (.agg [(I 0),(.lit (.string ⟨#[]⟩)),(I 0),(I 0),(I 0),(I 0),(I 0)])) λv37 H38=>
 bS (AT 7 H38 v37 v35) λH39=>
 bO (Ac 0 v22) λv40=>
 bO (Au false 1 H39 v40) λv41=>
 bO (Ap .eql v41 (I 0)) λv42=>
 bG v42 true λw43=>
 gO w43 (some v29) λv44=>
 bO (A8 v42 v44 (B false)) λv45=>
 bG v45 true λw46=>
 gO w46 (Ac 0 v30) λv47=>
 bG v45 true λw48=>
 gO w48 (Au false 1 H39 v47) λv49=>
 bG v45 true λw50=>
 gO w50 (Ap .eql v49 (I 20)) λv51=>
 bO (A8 v45 v51 (B false)) λv52=>
 bG v52 true λw53=>
 gO w53 (Ac 1 v30) λv54=>
 bG v52 true λw55=>
 gO w55 (Au false 1 H39 v54) λv56=>
 bG v52 true λw57=>
 gO w57 (Ba v56) λv58=>
 bG v52 true λw59=>
 gO w59 (Ap .eql v58 (I 0)) λv60=>
 bO (A8 v52 v60 (B false)) λv61=>
 bG v61 true λw62=>
 gO w62 (Ac 0 v37) λv63=>
 bG v61 true λw64=>
 gO w64 (Au false 1 H39 v63) λv65=>
 bG v61 true λw66=>
 gO w66 (Ap .eql v65 (I 2)) λv67=>
 bO (A8 v61 v67 (B false)) λv68=>
 K v68 H39)
theorem My (H:AH)(K:KT):N1 prog AA Hu pG M0 BA f3 [] H K=FP H K:=by kernel_rfl
theorem Mz {H:AH}{K:KT}(h:FP H K):ACalls prog 3 [] H K:=
 FJ Kn func3 (by kernel_rfl) (Eq.mpr (My H K) h)
def Mx:Nat→Bool:=ST []
def FO (a0 a1:AV)(H:AH)(K:KT):Prop:=
 bO (Ba a0) λv0=>
 bO (Ap .gtr v0 (I 200)) λv1=>
 bB v1 λt2=>bI t2 (
 bC (BCall prog 3 [] H) λv3 H4=>
 K v3 H4)
 (bO (Ba a0) λv5=>
 bO (Ap .add v5 (I 7)) λv6=>
 bO (Ap .quo v6 (I 8)) λv7=>
 bO (Ap .rem a1 (.lit (.int .u8 40))) λv8=>
 bO (Ts .i64 v8) λv9=>
 bO (Ap .add v7 v9) λv10=>
 bC (BCall prog 10 [v10] H) λv11 H12=>
 bO (V5 .eql So v11 (.lit (.pointer none))) λv13=>
 bG v13 false λw14=>
 gO w14 (some v11) λv15=>
 bG v13 false λw16=>
 gO w16 (some a0) λv17=>
 bG v13 false λw18=>
 gH w18 (Cr H12 1 1 (Be [Ad] 1) [(0,1,v17)]) H12 λv19 H20=>
 bG v13 false λw21=>
 gA w21 (ACalls prog 11 [v15,(.lit (.string ⟨#[97]⟩)),v19] H20) H20 λv22 H23=>
 bG v13 false λw24=>
 gO w24 (Ap .neq v22 (I 0)) λv25=>
 bO (A8 v13 (B true) v25) λv26=>
 bB v26 λt27=>bI t27 (
 K (B false) H23)
 (bH (Cr H23 1 3 (Be [(.lit (.string ⟨#[]⟩))] 3) [(0,1,(.lit (.string ⟨#[45,45,115,112,97,114,115,101,61,110,101,118,101,114]⟩))),(1,1,(.lit (.string ⟨#[97]⟩))),(2,1,(.lit (.string ⟨#[98]⟩)))]) λv28 H29=>
 bC (BCall prog 12 [v11,v28] H29) λv30 H31=>
 bH (AD H31 (.agg [(I 0),(.lit (.string ⟨#[]⟩)),(I 0),(I 0),(I 0),(I 0),(I 0)])) λv32 H33=>
 bS (AT 7 H33 v32 v30) λH34=>
 bC (BCall prog 26 [v11,(I 1)] H34) λv35 H36=>
 bO (Aj v35 0) λv37=>
 bO (Aj v35 1) λv38=>
 bC (BCall prog 26 [v11,(I 2)] H36) λv39 H40=>
 bO (Aj v39 0) λv41=>
 bO (Aj v39 1) λv42=>
 bO (Ap .eql v38 (I 0)) λv43=>
 bG v43 true λw44=>
 gO w44 (some v42) λv45=>
 bG v43 true λw46=>
 gO w46 (Ap .eql v45 (I 0)) λv47=>
 bO (A8 v43 v47 (B false)) λv48=>
 bG v48 true λw49=>
 gO w49 (some v37) λv50=>
 bG v48 true λw51=>
 gO w51 (nB H40 v50) λv52=>
 bG v48 true λw53=>
 gO w53 (some a0) λv54=>
 bG v48 true λw55=>
 gO w55 (nB H40 v54) λv56=>
 bG v48 true λw57=>
 gO w57 (Rq .eql v52 v56) λv58=>
 bO (A8 v48 v58 (B false)) λv59=>
 bG v59 true λw60=>
 gO w60 (Ac 0 v32) λv61=>
 bG v59 true λw62=>
 gO w62 (Au false 1 H40 v61) λv63=>
 bG v59 true λw64=>
 gO w64 (Ap .eql v63 (I 0)) λv65=>
 bG v59 true λw66=>
 gO w66 (some v7) λv67=>
 bG v59 true λw68=>
 gO w68 (some v9) λv69=>
 bG v59 true λw70=>
 gO w70 (Ap .leq v67 v69) λv71=>
 bG v59 true λw72=>
 gO w72 (rG .eql v65 v71) λv73=>
 bO (A8 v59 v73 (B false)) λv74=>
 bG v74 true λw75=>
 gO w75 (Ac 0 v32) λv76=>
 bG v74 true λw77=>
 gO w77 (Au false 1 H40 v76) λv78=>
 bG v74 true λw79=>
 gO w79 (Ap .eql v78 (I 4)) λv80=>
 bG v74 true λw81=>
 gO w81 (some v7) λv82=>
 bG v74 true λw83=>
 gO w83 (some v9) λv84=>
 bG v74 true λw85=>
 gO w85 (Ap .gtr v82 v84) λv86=>
 bG v74 true λw87=>
 gO w87 (rG .eql v80 v86) λv88=>
 bO (A8 v74 v88 (B false)) λv89=>
 bG v89 true λw90=>
 gO w90 (some v41) λv91=>
 bG v89 true λw92=>
 gO w92 (Ba v91) λv93=>
 bG v89 true λw94=>
 gO w94 (some a0) λv95=>
 bG v89 true λw96=>
 gO w96 (Ba v95) λv97=>
 bG v89 true λw98=>
 gO w98 (some v9) λv99=>
 bG v89 true λw100=>
 gO w100 (Ap .mul (I 8) v99) λv101=>
 bG v89 true λw102=>
 gO w102 (amm VP [v97,v101]) λv103=>
 bG v89 true λw104=>
 gO w104 (Ap .eql v93 v103) λv105=>
 bO (A8 v89 v105 (B false)) λv106=>
 bG v106 true λw107=>
 gO w107 (some v41) λv108=>
 bG v106 true λw109=>
 gO w109 (nB H40 v108) λv110=>
 bG v106 true λw111=>
 gO w111 (some a0) λv112=>
 bG v106 true λw113=>
 gO w113 (some v41) λv114=>
 bG v106 true λw115=>
 gO w115 (Ba v114) λv116=>
 bG v106 true λw117=>
 gO w117 (AX 1 v112 none (some v116) none) λv118=>
 bG v106 true λw119=>
 gO w119 (nB H40 v118) λv120=>
 bG v106 true λw121=>
 gO w121 (Rq .eql v110 v120) λv122=>
 bO (A8 v106 v122 (B false)) λv123=>
 bG v123 true λw124=>
 gC w124 (BCall prog 3 [] H40) H40 λv125 H126=>
 bO (A8 v123 v125 (B false)) λv127=>
 K v127 H126))
theorem Mv (a0 a1:AV)(H:AH)(K:KT):N1 prog AA Hu pG Mx BA f8 [a0,a1] H K=FO a0 a1 H K:=by kernel_rfl
theorem Mw {a0 a1:AV}{H:AH}{K:KT}(h:FO a0 a1 H K):ACalls prog 8 [a0,a1] H K:=
 FJ Kn func8 (by kernel_rfl) (Eq.mpr (Mv a0 a1 H K) h)
def yO:FuncId→Bool:=ST [236,234]
def tM:FuncId→Bool:=ST [241,237]
def Gm:Nat→Bool:=ST []
def C2 (a0 a1:AV)(H:AH)(K:KT):Prop:=
 bP (ExtR prog 241 [a0,a1] H) λv0=>
 K v0 H
theorem Gk (a0 a1:AV)(H:AH)(K:KT):N1 prog AA yO tM Gm BA f236 [a0,a1] H K=C2 a0 a1 H K:=by kernel_rfl
theorem Gl {a0 a1:AV}{H:AH}{K:KT}(h:C2 a0 a1 H K):ACalls prog 236 [a0,a1] H K:=
 FJ Kn func236 (by kernel_rfl) (Eq.mpr (Gk a0 a1 H K) h)
def Ef:Nat→Option (List Bool):=Co [(39,mk 143 0 [8,13]),(40,mk 143 0 [8,13,139]),(38,mk 143 0 [8,13]),(37,mk 143 0 [0,1,5,6,7,8,9,10,132]),(33,mk 143 0 []),(34,mk 143 0 [8,12,114]),(32,mk 143 0 [8,12]),(31,mk 143 0 [0,1,5,6,7,8,9,10,107]),(30,mk 143 0 [0,1,5,6,7,8,9,10]),(29,mk 143 0 [0,1,5,6,7,8,9,10]),(26,mk 143 0 [0,1,5,6,7,8,9,10]),(27,mk 143 0 [0,1,5,6,7,8,9,10,93]),(20,mk 143 0 [0,1,5,6,7,8,9,10]),(17,mk 143 0 [0,1,5,6,7,8,9,10])]
def Eg:Nat→Bool:=ST []
def Ev (p:List Bool)(n:Nat):List AV→AH→Kf→Prop:=AJ prog AA yO tM Eg Ef (sub p (AL f234)) n
def Hg (x0 x1 x5 x6 x7 x8 x9 x10:AV)(H:AH)(K:KT):Prop:=lp (mk 143 0 [0,1,5,6,7,8,9,10]) (Ev [tT,tT,tT,tT,tT,tT,tT,tT,fF,fF,fF] 18) [x0,x1,x5,x6,x7,x8,x9,x10] H (Bh 1 (Bl (Ev [tT,tT,tT,tT,tT,tT,tT,tT,tT] 43) (Bm prog f234.results.toList K)))
def Dl (a0 a1:AV)(H:AH)(K:KT):Prop:=
 bO (Gh a1) λv0=>
 bO (Ap .eql v0 (I 0)) λv1=>
 bG v1 false λw2=>
 gO w2 (some a1) λv3=>
 bG v1 false λw4=>
 gO w4 (some a0) λv5=>
 bG v1 false λw6=>
 gO w6 (Rq .eql v3 v5) λv7=>
 bO (A8 v1 (B true) v7) λv8=>
 bB v8 λt9=>bI t9 (
 K (I 0) H)
 (bO (Ap .eql v0 (I 1)) λv10=>
 bB v10 λt11=>bI t11 (
 bO (Tu a1 (I 0)) λv12=>
 bP (PCall prog 236 [a0,v12] H) λv13=>
 K v13 H)
 (bO (Gh a0) λv14=>
 bO (Ap .geq v0 v14) λv15=>
 bB v15 λt16=>bI t16 (
 K (I (-1)) H)
 (bO (Au false 1 H (.lit (.pointer (some ⟨0,0,none⟩)))) λv17=>
 bO (Ap .leq v0 v17) λv18=>
 bG v18 true λw19=>
 gO w19 (some a0) λv20=>
 bG v18 true λw21=>
 gO w21 (Gh v20) λv22=>
 bG v18 true λw23=>
 gO w23 (Ap .leq v22 (I 64)) λv24=>
 bO (A8 v18 v24 (B false)) λv25=>
 bB v25 λt26=>bI t26 (
 bP (ExtR prog 237 [a0,a1] H) λv27=>
 K v27 H)
 (bO (Tu a1 (I 0)) λv28=>
 bO (Tu a1 (I 1)) λv29=>
 bO (Gh a0) λv30=>
 bO (Ap .sub v30 v0) λv31=>
 bO (Ap .add v31 (I 1)) λv32=>
 Hg a0 a1 v0 v28 v29 (I 0) v32 (I 0) H K))))
theorem HE (a0 a1:AV)(H:AH)(K:KT):N1 prog AA yO tM Eg Ef f234 [a0,a1] H K=Dl a0 a1 H K:=by kernel_rfl
theorem HF {a0 a1:AV}{H:AH}{K:KT}(h:Dl a0 a1 H K):ACalls prog 234 [a0,a1] H K:=
 FJ Kn func234 (by kernel_rfl) (Eq.mpr (HE a0 a1 H K) h)
end Go.Proofs.YtbppnhenlboefaaGreat.Av
end
namespace Go.Proofs.YtbppnhenlboefaaGreat.Av
open Go Go.RowKit Go.Proofs.Tryz
section
section
variable {α : Type} {sz : Nat} {H : AH} {v : AV} {cs : List AV} {n : Nat}
theorem By (h:Aa H sz v=some (cs,n)):Ba v=some (I n):=by
 unfold Aa at h;split at h
 ·split at h
  ·injection h with h;injection h with h1 h2;rw[← h2];rfl
  ·cases h
 ·split at h
  ·split at h
   ·injection h with h;injection h with h1 h2;rw[← h2];rfl
   ·cases h
  ·cases h
 ·injection h with h;injection h with h1 h2;rw[← h2];rfl
 ·injection h with h;injection h with h1 h2;rw[← h2];rfl
 ·cases h
theorem CC {bytes:Nat}{x:AV}{ds:List AV}{m:Nat}(h1:Aa H sz v=some (cs,n))(ho:AP v=true)(h2:Bf H sz x=some (ds,m))(hb:(n+m)*bytes≤140737488355328):
  ∃r H',Mm sz bytes H v x=some (r,H')∧AP r=true∧Aa H' sz r=some (cs++ds,n+m)∧H.length≤H'.length∧(∀i,i<H.length→i∉AU v→H'[i]?=H[i]?)∧∀i∈AU r,i∈AU v∨H.length≤i:=by
 obtain⟨r,H',h⟩:=Z7 h1 ho (WX h2) hb;exact⟨r,H',by unfold Mm;rw[h2];exact h.1,h.2⟩
abbrev Ao1:=@List.take_succ_cons
abbrev Ah0:=@List.take_take
theorem E3 (h:Aa H sz v=some (cs,n)){lo hi:Option AV}{l k:Nat}(hl:Bs lo 0=some l)(hk:Bs hi n=some k)(hlk:l≤k)(hkn:k≤n):
  ∃r,AX sz v lo hi none=some r∧Aa H sz r=some ((cs.drop (l*sz)).take ((k - l)*sz),k - l)∧(∀i∈AU r,i∈AU v)∧(AP v=true→AP r=true)∧(noIds v=true→noIds r=true):=by
 have hcl:=Cf h;have hmul:l*sz+(k - l)*sz=k*sz:=by rw[← Ag9];congr 1;omega
 have hmul2:k*sz≤n*sz:=Ad0 _ hkn;unfold Aa at h;unfold AX;split at h
 ·rename_i c len esz
  split at h
  ·rename_i hb
   obtain⟨rfl,hb⟩:=hb;injection h with h;injection h with h1 h2;subst h1;subst h2;simp only[hl,hk,hlk,hkn,and_self,if_true];refine⟨_,rfl,?_,(λi hi=>hi),(λh=>by simp[AP]at h),λh=>?_⟩
   ·simp only[Aa,true_and]
    rw[if_pos (by rw[Ac0,Ac7];omega)]
   ·simp only[noIds]at h⊢
    have key:∀(c:List AV) (a b:Nat),A6 c=true→A6 ((c.drop a).take b)=true:=by
     intro c
     induction c with
     | nil=>intro a b _;simp[A6]
     | cons x c ih=>
      intro a b hc;simp only[A6,Ae0]at hc;cases a with
      | zero=>
       cases b with
       | zero=>rfl
       | succ b=>simp only[Ad9,Ao1,A6,Ae0];exact⟨hc.1,by simpa using ih 0 b hc.2⟩
      | succ a=>simpa using ih a b hc.2
    exact key _ _ _ h
  ·cases h
 ·rename_i o off len esz cap
  split at h
  ·rename_i c hoc
   split at h
   ·rename_i hb
    obtain⟨rfl,hb⟩:=hb;injection h with h;injection h with h1 h2;subst h1;subst h2;simp only[zF,hl,hk];rw[if_pos ⟨hlk,by omega⟩];refine⟨_,rfl,?_,(λi hi=>hi),(λ_=>rfl),λh=>by simp[noIds]at h⟩;rw[A9 hoc (by omega),Ak0,Ag3,Ah0]
    congr 3
    omega
   ·cases h
  ·cases h
 ·injection h with h;injection h with h1 h2
  subst h1;subst h2;obtain rfl:k=0:=by omega
  obtain rfl:l=0:=by omega
  simp only[hl,hk];exact⟨_,rfl,by simp[Aa],(λi hi=>hi),(λ_=>rfl),λ_=>rfl⟩
 ·injection h with h;injection h with h1 h2
  subst h1;subst h2;obtain rfl:k=0:=by omega
  obtain rfl:l=0:=by omega
  simp only[hl,hk];exact⟨_,rfl,by simp[Aa],(λi hi=>hi),(λ_=>rfl),λ_=>rfl⟩
 ·cases h
def Zl (H:AH):AV→Option (List AV)
 | .ptr o off=>match H[o]? with
  | some (some (.cells cs))=>some (cs.drop off)
  | _=>none
 | .ip cs=>some cs
 | _=>none
theorem Rw {g:Bool}{k:Nat}{p:AV}(h:Zl H p=some cs)(hk:0<k)(hl:k≤cs.length):Au g k H p=Ao g k cs 0:=by
 unfold Zl at h;unfold Au;split at h
 ·rename_i o off
  simp only;split at h
  ·rename_i c hc
   injection h with h;subst h;unfold Ao;rw[Ac7]at hl;simp only[hc];cases g
   ·simp
   ·simp only[if_true]
    rw[if_pos (by omega),if_pos (by rw[Ac7];omega)];simp
  ·cases h
 ·injection h with h
  subst h;rfl
 ·cases h
theorem eO {k:Nat}{p:AV}(h:Zl H p=some cs):∃q,Ac k p=some q∧Zl H q=some (cs.drop k):=by
 unfold Zl at h;split at h
 ·rename_i o off
  split at h
  ·rename_i c hc
   injection h with h;subst h;exact⟨_,rfl,by simp[Zl,hc]⟩
  ·cases h
 ·injection h with h
  subst h;exact⟨_,rfl,rfl⟩
 ·cases h
theorem Kx (h:Aa H sz v=some (cs,n)){k:Nat}{i:Int}(hi:i=k)(hk:k<n):∃p c,Bj sz v (.lit (.int .i64 i))=some p∧Zl H p=some c∧c.take sz=(cs.drop (k*sz)).take sz∧sz≤c.length:=by
 subst hi;have hcl:=Cf h;have hmul:k*sz+sz≤n*sz:=by rw[← Af6];exact Ad0 _ hk
 unfold Aa at h;unfold Bj;simp only[J8];split at h
 ·rename_i c len esz
  split at h
  ·rename_i hb
   obtain⟨rfl,hb⟩:=hb;injection h with h;injection h with h1 h2;subst h1;subst h2;refine⟨_,_,if_pos (by omega),rfl,by simp,by simp;omega⟩
  ·cases h
 ·rename_i o off len esz cap
  split at h
  ·rename_i c hoc
   split at h
   ·rename_i hb
    obtain⟨rfl,hb⟩:=hb;injection h with h;injection h with h1 h2;subst h1;subst h2;refine⟨_,c.drop (off+k*esz),if_pos (by omega),by simp[Zl,hoc],?_,by rw[Ac7];omega⟩;rw[Ak0,Ag3,Ah0]
    congr 1
    omega
   ·cases h
  ·cases h
 ·injection h with h;injection h with h1 h2;omega
 ·injection h with h;injection h with h1 h2;omega
 ·cases h
end
mutual
theorem NO (X:AH):∀(a:AV),noIds a=true→∃n0,∀n,n0≤n→Kw X n a=some a
 | .lit v,_=>⟨1,λn hn=>by cases n with
  | zero=>omega
  | succ n=>rfl⟩
 | .ip cs,h=>by
  simp only[noIds]at h;obtain⟨n0,h0⟩:=En X cs h;refine⟨n0+1,λn hn=>?_⟩;cases n with
  | zero=>omega
  | succ n=>simp only[Kw,h0 n (by omega)];rfl
 | .imm cs len esz,h=>by
  simp only[noIds]at h;obtain⟨n0,h0⟩:=En X cs h;refine⟨n0+1,λn hn=>?_⟩;cases n with
  | zero=>omega
  | succ n=>simp only[Kw,h0 n (by omega)];rfl
 | .agg cs,h=>by
  simp only[noIds]at h;obtain⟨n0,h0⟩:=En X cs h;refine⟨n0+1,λn hn=>?_⟩;cases n with
  | zero=>omega
  | succ n=>simp only[Kw,h0 n (by omega)];rfl
 | .tup cs,h=>by
  simp only[noIds]at h;obtain⟨n0,h0⟩:=En X cs h;refine⟨n0+1,λn hn=>?_⟩;cases n with
  | zero=>omega
  | succ n=>simp only[Kw,h0 n (by omega)];rfl
 | .fn f a b,h=>by
  simp only[noIds,Ae0]at h;obtain⟨n0,h0⟩:=En X a h.1;obtain⟨n1,h1⟩:=En X b h.2;refine⟨n0+n1+1,λn hn=>?_⟩;cases n with
  | zero=>omega
  | succ n=>simp only[Kw,h0 n (by omega),h1 n (by omega)]
 | .emp,_=>⟨1,λn hn=>by cases n with
  | zero=>omega
  | succ n=>rfl⟩
 | .junk,_=>⟨1,λn hn=>by cases n with
  | zero=>omega
  | succ n=>rfl⟩
 | .ptr ..,h=>by simp[noIds]at h
 | .sl ..,h=>by simp[noIds]at h
 | .mp ..,h=>by simp[noIds]at h
theorem En (X:AH):∀(asx:List AV),A6 asx=true→∃n0,∀n,n0≤n→L7 (Kw X n) asx=some asx
 | [],_=>⟨0,λ_ _=>rfl⟩
 | a::asx,h=>by
  simp only[A6,Ae0]at h;obtain⟨n0,h0⟩:=NO X a h.1;obtain⟨n1,h1⟩:=En X asx h.2;exact⟨n0+n1,λn hn=>by simp only[L7,h0 n (by omega),h1 n (by omega)]⟩
end
theorem RW {X:AH}{sz:Nat}{r:AV}{cs:List AV}{m:Nat}(h:Aa X sz r=some (cs,m))(hc:A6 cs=true):∃R n0,noIds R=true∧(∀H,Aa H sz R=some (cs,m))∧∀n,n0≤n→Kw X n r=some R:=by
 have hcl:=Cf h;unfold Aa at h;split at h
 ·rename_i c len esz
  split at h
  ·rename_i hb
   injection h with h;injection h with h1 h2;subst h1;subst h2;obtain⟨n0,h0⟩:=NO X (.imm c len esz) (by simpa only[noIds]using hc);exact⟨_,n0,by simpa only[noIds]using hc,λH=>by simp[Aa,hb.1,hb.2],h0⟩
  ·cases h
 ·rename_i o off len esz cap
  split at h
  ·rename_i c hoc
   split at h
   ·rename_i hb
    injection h with h;injection h with h1 h2;obtain⟨n0,h0⟩:=En X cs hc;refine⟨.imm cs len esz,n0+1,by simpa only[noIds]using hc,λH=>?_,λn hn=>?_⟩
    ·rw[← h2]at hcl⊢
     simp[Aa,hb.1,hcl]
    ·cases n with
     | zero=>omega
     | succ n=>
      obtain⟨rfl,-⟩:=hb;simp only[Kw,hoc,h1,h0 n (by omega)];rfl
   ·cases h
  ·cases h
 ·injection h with h;injection h with h1 h2
  subst h1;subst h2
  exact⟨_,1,rfl,λH=>rfl,λn hn=>by cases n with
   | zero=>omega
   | succ n=>rfl⟩
 ·injection h with h;injection h with h1 h2
  subst h1;subst h2
  exact⟨_,1,rfl,λH=>rfl,λn hn=>by cases n with
   | zero=>omega
   | succ n=>rfl⟩
 ·cases h
section
variable {P : Program} {f : FuncId} {args : List AV}
theorem BPure.fz {Q:AV→Prop}(hb:A6 args=true)(h:∃r X,(∃n R,Kw X n r=some R∧Q R)∧BCall P f args [] r X):∃R,Q R∧BPure P f args R:=by
 obtain⟨r,X,⟨n,R,hf,hq⟩,h⟩:=h;exact⟨R,hq,BPure.of h hb hf⟩
theorem BPure.val {R:AV}(hb:A6 args=true)(hR:noIds R=true)(h:∃r X,r=R∧BCall P f args [] r X):BPure P f args R:=by
 obtain⟨r,X,rfl,h⟩:=h;obtain⟨n0,h0⟩:=NO X r hR;exact BPure.of h hb (h0 n0 (Ac2 _))
theorem BPure.sl {sz:Nat}{cs:List AV}{m:Nat}(hb:A6 args=true)(hc:A6 cs=true)(h:∃r X,Aa X sz r=some (cs,m)∧BCall P f args [] r X):∃R,(noIds R=true∧∀H,Aa H sz R=some (cs,m))∧BPure P f args R:=by
 obtain⟨r,X,h1,h⟩:=h;obtain⟨R,n0,h2,h3,h4⟩:=RW h1 hc;exact⟨R,⟨h2,h3⟩,BPure.of h hb (h4 n0 (Ac2 _))⟩
end
end
section
section
variable {P : Program}
structure RecAt (G:Cfg)(l:Nat)(r:Loop):Prop where
 h:G.w.heap[l]?=some (.loop r)
 nl:¬G.L l
theorem RecAt.evo {G G':Cfg}{l:Nat}{r:Loop}(h:RecAt G l r)(hE:Evo G G'):RecAt G' l r:=⟨(QA hE h.h h.nl).1,(QA hE h.h h.nl).2⟩
structure EvoX (l:Nat)(G G':Cfg):Prop where
 os:G'.w.os=G.w.os
 tape:G'.w.tape=G.w.tape
 output:G'.w.output=G.w.output
 size:G.w.heap.size≤G'.w.heap.size
 keep:∀k,k<G.w.heap.size→k≠l→¬G.L k→G'.w.heap[k]?=G.w.heap[k]?∧¬G'.L k
 n:G.n≤G'.n
 μ:∀o,o<G.n→G'.μ o=G.μ o
 K:G'.K=G.K
 has:∀ad vs,Has G ad vs→Has G' ad vs
theorem EvoX.tr {l:Nat}{G G':Cfg}(h:EvoX l G G'):Tr G G':=⟨h.n,h.μ,h.has⟩
theorem Evo.x {l:Nat}{G G':Cfg}(h:Evo G G'):EvoX l G G':=⟨h.os,h.tape,h.output,h.size,λk hk _ hL=>h.keep k hk hL,h.n,h.μ,h.K,λ_ _ hh=>hh.evo h⟩
theorem EvoX.trans {l:Nat}{A B C:Cfg}(h:EvoX l A B)(k:EvoX l B C):EvoX l A C:=
 ⟨k.os.trans h.os,k.tape.trans h.tape,k.output.trans h.output,Ad8 h.size k.size,λi hi hne hL=>by
  obtain⟨a1,a2⟩:=h.keep i hi hne hL;obtain⟨b1,b2⟩:=k.keep i (Af0 hi h.size) hne a2;exact⟨b1.trans a1,b2⟩,Ad8 h.n k.n,λo ho=>(k.μ o (Af0 ho h.n)).trans (h.μ o ho),k.K.trans h.K,λad vs hh=>k.has ad vs (h.has ad vs hh)⟩
theorem TP {r:Loop}:∀c e f,Obj.loop r≠.cells c e f:=by intro c e f h;cases h
theorem lZ (w:World)(l:Nat)(x:Obj):(w.putObj l x).heap.size=w.heap.size:=by simp[World.putObj]
theorem EvoX.put {l:Nat}{G:Cfg}{r:Loop}(h:G.w.heap[l]?=some (.loop r))(x:Obj):EvoX l G (G.put l x):=
 ⟨rfl,rfl,rfl,by simp only[Cfg.put,lZ];exact Ac2 _,λk hk hne hL=>⟨by simp only[Cfg.put];exact World.putObj_heap_other hne,hL⟩,Ac2 _,λ_ _=>rfl,rfl,(Tr.put h TP x).has⟩
theorem Evo.transX {l:Nat}{A B C:Cfg}(h:Evo A B)(hl:A.w.heap.size≤l)(k:EvoX l B C):Evo A C:=
 ⟨k.os.trans h.os,k.tape.trans h.tape,k.output.trans h.output,Ad8 h.size k.size,λi hi hL=>by
  obtain⟨a1,a2⟩:=h.keep i hi hL;obtain⟨b1,b2⟩:=k.keep i (Af0 hi h.size) (by omega) a2;exact⟨b1.trans a1,b2⟩,Ad8 h.n k.n,λo ho=>(k.μ o (Af0 ho h.n)).trans (h.μ o ho),k.K.trans h.K⟩
theorem DF.x {l:Nat}{G G':Cfg}{ρ:nN}{a a':Act}(h:DF G ρ a)(hE:EvoX l G G')(ha:a'.defers=a.defers)(hn:∀D,G.w.heap[D]?=some (.deferred (some []))→D≠l)(hr:ρ.1=some l→∃r,G'.w.heap[l]?=some (.loop r)∧¬G'.L l):DF G' ρ a':=by
 obtain⟨⟨Ds,h1,h2,h3⟩,h4,h5⟩:=h;refine⟨⟨Ds,by rw[ha,h1],h2,λD hD=>?_⟩,λl' hl'=>?_,Ad8 h5 hE.size⟩
 ·obtain⟨a1,a2,a3⟩:=h3 D hD
  obtain⟨b1,b2⟩:=hE.keep D (Array.getElem?_eq_some_iff.1 a3).1 (hn D a3) a2;exact⟨a1,b2,by rw[b1];exact a3⟩
 ·by_cases c:l'=l
  ·subst c;exact hr hl'
  ·obtain⟨r,a1,a2⟩:=h4 l' hl'
   obtain⟨b1,b2⟩:=hE.keep l' (Array.getElem?_eq_some_iff.1 a1).1 c a2;exact⟨r,by rw[b1];exact a1,b2⟩
def VZ (P:Program)(assign body:Code)(T:List AV)(p:Tmp)(x:AV)(H:AH)(J:AH→Prop)(X:Code→AH→Prop):Prop:=
 ∃T1,BCode P assign (T.set p x) H .normal T1 H∧ACode P body (λe _ H'=>match e with
  | .normal=>J H'
  | .ret=>X .ret H'
  | .exit id=>X (.exit id) H'
  | _=>False) T1 H
theorem IB {w:World}{l:Nat}{r:Loop}(h:w.heap[l]?=some (.loop r)):∀D,w.heap[D]?=some (.deferred (some []))→D≠l:=by
 rintro D hD rfl;rw[h]at hD;cases hD
theorem Zq {G:Cfg}{l:Nat}{rec:Loop}{T:List AV}{p:Tmp}{x:AV}{v:Value}{H:AH}{J:AH→Prop}{X:Code→AH→Prop}(hH:HR G H)(hR:RecAt G l rec)(hrd:rec.state=.ready)(hpd:rec.pending=none)(hps:rec.params= #[p])
  (hT:VRs G T rec.tmps.toList) (hx:VR G x v) (h:VZ P rec.assign rec.body T p x H J X):
  YieldAt (FW none) 0 P l #[v] G.w λe W'=>∃(G':Cfg) (H':AH),G'.w=W'∧EvoX l G G'∧HR G' H'∧((e=.returned (.bool true)∧RecAt G' l rec∧J H')∨(e=.returned (.bool false)∧∃c,RecAt G' l {rec with state:=.done,pending:=some c}∧X c H')):=by
 refine⟨rec.fn,_,rec.assign,rec.body,run_yield hR.h (by simp[hps]),roundIn_of_wpIn trivial ?_⟩;obtain⟨T1,hA,hB⟩:=h
 have hF:FR G (T.set p x) {tmps:=(rec.params.zip #[v]).foldl (fun tmps (t,a)=>tmps.setIfInBounds t a) rec.tmps,defers:=[]}:=by
  show VRs G _ _
  rw[hps];simp only[Array.zip,Array.zipWith,List.size_toArray,yU];have:(#[p].zip #[v]).foldl (fun tmps (x:Tmp×Value)=>tmps.setIfInBounds x.1 x.2) rec.tmps=rec.tmps.setIfInBounds p v:=by simp
  refine(?_:VRs G (T.set p x) ((#[p].zip #[v]).foldl (fun tmps (x:Tmp×Value)=>tmps.setIfInBounds x.1 x.2) rec.tmps).toList);rw[this,Ak5];exact hT.set p hx
 have w1:=hA G G _ (some l,0) (Evo.refl G) hF ⟨⟨[],rfl,Ao2,λ_ h=>(by cases h)⟩,λl' hl'=>(by injection hl' with hl';subst hl';exact⟨rec,hR.h,hR.nl⟩),Nat.zero_le _⟩ hH;refine Code.wpIn_mono ?_ w1;rintro e a1 w1' ⟨T',H',G1,rfl,hE1,hF1,hd1,hH1,hq⟩;simp only[AQ.is,Ag0]at hq;obtain⟨rfl,rfl,rfl⟩:=hq;have hR1:=hR.evo hE1;refine⟨_,run_beginRound hR1.h hrd,?_⟩;have live:∀{G:Cfg} {H:AH} {r:Loop},HR G H→RecAt G l r→∀(o:Nat) (z:AObj),H[o]?=some (some z)→(G.μ o).1≠l:=λhH hR o z ho e=>hR.nl (by have:=hH.live o z ho;rwa[e]at this)
 have hX2:EvoX l G1 (G1.put l (.loop {rec with state:=.busy})):=EvoX.put hR1.h _;have hH2:=hH1.putO (live hH1 hR1) hR1.h TP (.loop {rec with state:=.busy});have hR2:RecAt (G1.put l (.loop {rec with state:=.busy})) l {rec with state:=.busy}:=⟨World.putObj_heap_same (Array.getElem?_eq_some_iff.1 hR1.h).1,hR1.nl⟩;have w2:=hB (G1.put l (.loop {rec with state:=.busy})) (G1.put l (.loop {rec with state:=.busy})) a1 (some l,0) (Evo.refl _) (VRs.tr hX2.tr hF1) (hd1.x hX2 rfl (IB hR1.h) λ_=>⟨_,hR2.h,hR2.nl⟩) hH2;refine Code.wpIn_mono ?_ w2;rintro e a3 w3 ⟨T3,H3,G3,rfl,hE3,hF3,hd3,hH3,hq⟩;have hR3:=hR2.evo hE3;have fin:∀x,EvoX l G (G3.put l x):=λx=>(hE1.x.trans hX2).trans (hE3.x.trans (EvoX.put hR3.h x))
 have finR:∀r,RecAt (G3.put l (.loop r)) l r:=λr=>⟨World.putObj_heap_same (Array.getElem?_eq_some_iff.1 hR3.h).1,hR3.nl⟩
 have finH:∀x,HR (G3.put l x) H3:=λx=>hH3.putO (live hH3 hR3) hR3.h TP x
 cases e with
 | normal=>
  refine⟨_,_,run_endRound none hR3.h,G3.put l _,H3,rfl,fin _,finH _,.inl ⟨rfl,?_,hq⟩⟩
  have:({{rec with state:=.busy} with state:=if(none:Option Code).isNone then .ready else .done,pending:=none}:Loop)=rec:=by
   obtain⟨s,pe,f1,f2,f3,f4,f5,f6⟩:=rec;simp only at hrd hpd;subst hrd;subst hpd;rfl
  have h2:=finR ({{rec with state:=.busy} with state:=if(none:Option Code).isNone then .ready else .done,pending:=none});rw[this]at h2⊢;exact h2
 | ret=>exact⟨_,_,run_endRound (some .ret) hR3.h,G3.put l _,H3,rfl,fin _,finH _,.inr ⟨rfl,.ret,finR _,hq⟩⟩
 | exit id=>exact⟨_,_,run_endRound (some (.exit id)) hR3.h,G3.put l _,H3,rfl,fin _,finH _,.inr ⟨rfl,.exit id,finR _,hq⟩⟩
 | goto t=>exact hq.elim
 | panic ch=>exact hq.elim
 | outgrown=>exact hq.elim
def WL (P:Program)(k:FuncId)(cap:List AV)(Cap:AH→Prop)(xs:List AV):Prop:=
 ∀(G:Cfg) (l:Nat) (rec:Loop) (T:List AV) (p:Tmp) (H:AH) (vc:List Value) (J:Nat→AH→Prop) (X:Code→AH→Prop),HR G H→RecAt G l rec→rec.state=.ready→rec.pending=none→rec.params= #[p]→VRs G T rec.tmps.toList→VRs G cap vc→J 0 H→
  (∀i H',J i H'→Cap H')→(∀i x H',xs[i]?=some x→J i H'→VZ P rec.assign rec.body T p x H' (J (i+1)) X)→
  CallsIn (FW none) 0 P k (#[.func (.yield l) #[] #[]]++vc.toArray) G.w λe W'=>(∃v,e=.returned v)∧∃(G':Cfg) (H':AH),G'.w=W'∧EvoX l G G'∧HR G' H'∧((RecAt G' l rec∧J xs.length H')∨∃c,RecAt G' l {rec with state:=.done,pending:=some c}∧X c H')
theorem HR.allocO {G:Cfg}{H:AH}(hr:HR G H)(x:Obj):HR {G with w:=G.w.alloc x} H∧Evo G {G with w:=G.w.alloc x}:=by
 have hE:Evo G {G with w:=G.w.alloc x}:=⟨rfl,rfl,rfl,by simp,λk hk hL=>⟨Below.heap_alloc _ _ _ hk,hL⟩,Ac2 _,λ_ _=>rfl,rfl⟩;exact⟨⟨hr.n,λo z ho=>OR.evo hE (hr.lt_n ho) (Below.heap_alloc _ _ _ (hr.lt _ (.inl (hr.live _ _ ho)))) (hr.obj o z ho),hr.inj,hr.live,λb hb=>by have:=hr.lt b hb;simp;omega,hr.dis⟩,hE⟩
theorem Wy:∀{A B:List Nat},A.map lD=B.map lD→A=B
 | [],[],_=>rfl
 | [],b::B,h=>by simp at h
 | a::A,[],h=>by simp at h
 | a::A,b::B,h=>by
  simp only[Aa4]at h
  have h1:a=b:=by
   have:=h.1
   injection this with h2 _;injection h2
  rw[h1,Wy h.2]
theorem ACode.rangeF {g:Operand}{p:Tmp}{assign body:Code}{Q:AQ}{T:List AV}{H:AH}{k:FuncId}{cap xs:List AV}{Cap:AH→Prop}(hit:WL P k cap Cap xs)(hgo:B4 P k=true)(hg:Bu T g=.fn (.func k) [] cap)
  (J:Nat→AH→Prop) (X:Code→AH→Prop) (h0:J 0 H) (hcap:∀i H',J i H'→Cap H') (hr:∀i x H',xs[i]?=some x→J i H'→VZ P assign body T p x H' (J (i+1)) X) (hdone:∀H',J xs.length H'→Q .normal T H')
  (hout:∀c H',X c H'→(c=.ret∧Q .ret T H')∨∃id,c=.exit id∧Q (.exit id) T H'):ACode P (.rangeFunc g #[p] assign body) Q T H:=by
 intro G0 G a ρ hE hF hd hH;refine wpIn_rangeFunc ?_;intro fn _
 -- the record is laid
 obtain⟨l,mk,G1,rec,e1,hE1,hH1,hR,hrd,hpd,hps,htm,has,hbd,hsz,hd1⟩:∃(l:Nat) (mk:List Deferred) (G1:Cfg) (rec:Loop),(Instr.enterLoop fn a.tmps #[p] assign body (FW ρ.1).round).run P G.w=.ok (l,mk) G1.w∧Evo G G1∧HR G1 H∧RecAt G1 l rec∧rec.state=.ready∧rec.pending=none∧
   rec.params= #[p]∧rec.tmps=a.tmps∧rec.assign=assign∧rec.body=body∧G.w.heap.size≤l∧DF G1 ρ {a with defers:=mk++a.defers}:=by
  have nL:∀b,G.w.heap.size≤b→¬G.L b:=λb hb hL=>by have:=hH.lt b (.inl hL);omega
  cases hρ:ρ.1 with
  | none=>
   obtain⟨k1,k2⟩:=hH.allocO (.deferred (some []));obtain⟨k3,k4⟩:=k1.allocO (.loop {state:=.ready,pending:=none,fn,tmps:=a.tmps,params:=#[p],assign,body,defers:=G.w.heap.size});refine⟨G.w.heap.size+1,_,_,{state:=.ready,pending:=none,fn,tmps:=a.tmps,params:=#[p],assign,body,defers:=G.w.heap.size},run_enterLoop_outer _ _ _ _ _,k2.trans k4,k3,⟨?_,nL _ (by omega)⟩,rfl,rfl,rfl,rfl,rfl,rfl,by omega,?_⟩
   ·have:=World.alloc_heap_new (G.w.alloc (.deferred (some []))) (.loop {state:=.ready,pending:=none,fn,tmps:=a.tmps,params:=#[p],assign,body,defers:=G.w.heap.size})
    rwa[World.size_alloc]at this
   ·have hD:((G.w.alloc (.deferred (some []))).alloc (.loop {state:=.ready,pending:=none,fn,tmps:=a.tmps,params:=#[p],assign,body,defers:=G.w.heap.size})).heap[G.w.heap.size]?=some (.deferred (some [])):=
     (Below.heap_alloc _ _ _ (by simp)).trans (World.alloc_heap_new G.w _)
    obtain⟨⟨Ds,h1,h2,h3⟩,h4,h5⟩:=hd.evo (k2.trans k4) (a':=a) rfl;refine⟨⟨G.w.heap.size::Ds,by simp[h1],Ai9.2 ⟨λhm=>?_,h2⟩,λD hDm=>?_⟩,h4,h5⟩
    ·obtain⟨⟨Ds',h1',h2',h3'⟩,-,-⟩:=hd
     have:Ds'=Ds:=by
      rw[h1]at h1';exact(Wy h1').symm
     have:=(Array.getElem?_eq_some_iff.1 (h3' _ (by rw[this];exact hm)).2.2).1
     omega
    ·rcases Ad5.1 hDm with rfl | hDm
     ·exact⟨hd.lb,nL _ (Ac2 _),hD⟩
     ·exact h3 D hDm
  | some l0=>
   obtain⟨r0,hr0,hl0⟩:=hd.round l0 hρ;obtain⟨k1,k2⟩:=hH.allocO (.loop {state:=.ready,pending:=none,fn,tmps:=a.tmps,params:=#[p],assign,body,defers:=r0.defers});exact⟨G.w.heap.size,[],_,{state:=.ready,pending:=none,fn,tmps:=a.tmps,params:=#[p],assign,body,defers:=r0.defers},run_enterLoop_inner hr0 _ _ _ _ _,k2,k1,⟨World.alloc_heap_new G.w _,nL _ (Ac2 _)⟩,rfl,rfl,rfl,rfl,rfl,rfl,Ac2 _,hd.evo k2 rfl⟩
 have hfv:=hF.eval g;rw[hg]at hfv;simp only[VR]at hfv;obtain⟨va,vb,hv,hva,hvb⟩:=hfv;have:va= #[]:=by simp only[VRs]at hva;exact Array.toList_eq_nil_iff.1 hva
 subst this
 have hci:(invoke (.fn (.func k) vb) #[.func (.yield l) #[] #[]]).run P G1.w=.ok (.enter k (#[.func (.yield l) #[] #[]]++vb)) G1.w:=by
  unfold B4 at hgo;split at hgo
  ·rename_i f0 hfn'
   simp only [zQ] at hgo;obtain ⟨b,hbody⟩:=Option.isSome_iff_exists.1 hgo.1;have hne : ¬ f0.name = "runtime.NumGoroutine" := by have := hgo.2; simpa using this
   simp[invoke,callFunc,hfn',hne,hbody]
  ·cases hgo
 refine⟨l,mk,G1.w,{target:=.fn (.func k) vb,args:=#[.func (.yield l) #[] #[]]},G1.w,k,#[.func (.yield l) #[] #[]]++vb,G1.w,e1,?_,λ_ _=>trivial,hci,λhn=>(by simp[Fence.wide]at hn),?_⟩
 ·simp only[resolve,hv]
  simp[go_sem]
 ·have hT1:VRs G1 T rec.tmps.toList:=by rw[htm];exact VRs.evo hE1 hF
  have hc:=hit G1 l rec T p H vb.toList J X hH1 hR hrd hpd hps hT1 (VRs.evo hE1 hvb) h0 hcap (by rw[has,hbd];exact hr)
  have hc2:CallsIn (FW ρ.1) 0 P k (#[.func (.yield l) #[] #[]]++vb) G1.w λe W'=>(∃v,e=.returned v)∧∃(G':Cfg) (H':AH),G'.w=W'∧EvoX l G1 G'∧HR G' H'∧((RecAt G' l rec∧J xs.length H')∨∃c,RecAt G' l {rec with state:=.done,pending:=some c}∧X c H'):=by
   have h1:(vb.toList.toArray)=vb:=by simp
   rw[h1]at hc;cases ρ.1 with
   | none=>exact hc
   | some l0=>exact CallsIn.inRound l0 hc
  refine CallsIn.mono hc2 ?_;rintro e W' ⟨⟨v,rfl⟩,G2,H2,rfl,hX,hH2,hcase⟩;have fin:∀(r:Loop),RecAt G2 l r→∀x,Evo G0 (G2.put l x):=λr hr x=>(hE.trans hE1).transX (Ad8 hE.size hsz) (hX.trans (EvoX.put hr.h x))
  have ndf:∀D,G1.w.heap[D]?=some (.deferred (some []))→D≠l:=IB hR.h;have finD:∀(r:Loop),RecAt G2 l r→∀r',DF (G2.put l (.loop r')) ρ {a with defers:=mk++a.defers}:=λr hr r'=>hd1.x (hX.trans (EvoX.put hr.h _)) rfl ndf (λ_=>⟨r',World.putObj_heap_same (Array.getElem?_eq_some_iff.1 hr.h).1,hr.nl⟩)
  have finH:∀(r:Loop),RecAt G2 l r→∀x,HR (G2.put l x) H2:=λr hr x=>hH2.putO (λo z ho e=>hr.nl (by have:=hH2.live o z ho;rwa[e]at this)) hr.h TP x
  have finF:∀(r:Loop),RecAt G2 l r→∀x,FR (G2.put l x) T {a with defers:=mk++a.defers}:=λr hr x=>VRs.tr (hX.trans (EvoX.put hr.h x)).tr (VRs.evo hE1 hF)
  rcases hcase with⟨hr2,hj⟩ | ⟨c,hr2,hx⟩
  ·refine⟨none,_,?_,T,H2,G2.put l (.loop {rec with state:=.exhausted}),rfl,fin _ hr2 _,finF _ hr2 _,finD _ hr2 _,finH _ hr2 _,hdone H2 hj⟩
   have:=run_endLoop (P:=P) hr2.h (by rw[hrd];simp)
   refine this.trans ?_;rw[hpd];rfl
  ·refine⟨some c,_,run_endLoop (P:=P) hr2.h (by simp),?_⟩
   rcases hout c H2 hx with⟨rfl,hq⟩ | ⟨id,rfl,hq⟩
   ·exact wpIn_ret ⟨T,H2,G2.put l (.loop {{rec with state:=.done,pending:=some _} with state:=.exhausted}),rfl,fin _ hr2 _,finF _ hr2 _,finD _ hr2 _,finH _ hr2 _,hq⟩
   ·exact wpIn_exit ⟨T,H2,G2.put l (.loop {{rec with state:=.done,pending:=some _} with state:=.exhausted}),rfl,fin _ hr2 _,finF _ hr2 _,finD _ hr2 _,finH _ hr2 _,hq⟩
end
end
section
section
variable {P : Program}
structure XSt (l:Nat)(G0 G:Cfg)(T:List AV)(H:AH)(r:Loop)(a:Act):Prop where
 x:EvoX l G0 G
 f:FR G T a
 d:DF G (none,G0.w.heap.size) a
 h:HR G H
 ra:RecAt G l r
abbrev XQ:=Exit→List AV→AH→Loop→Prop
def iQ (l:Nat)(G0:Cfg)(Q:XQ):Exit→Act→World→Prop:=λe a w=>∃(T:List AV) (H:AH) (G:Cfg) (r:Loop),G.w=w∧XSt l G0 G T H r a∧Q e T H r
def XCode (P:Program)(l:Nat)(G0:Cfg)(c:Code)(Q:XQ)(T:List AV)(H:AH)(r:Loop):Prop:=
 ∀(G:Cfg) (a:Act),XSt l G0 G T H r a→c.wpIn (FW none) 0 P (iQ l G0 Q) a G.w
def XOps (P:Program)(l:Nat)(G0:Cfg)(ops:Array Oper)(Q:XQ)(lst:List Oper)(T:List AV)(H:AH)(r:Loop):Prop:=
 ∀(G:Cfg) (a:Act),XSt l G0 G T H r a→wpListIn (FW none) 0 P ops (iQ l G0 Q) lst a G.w
variable {l : Nat} {G0 : Cfg}
theorem Od {Q:XQ}{e:Exit}{T:List AV}{H:AH}{r:Loop}(h:Q e T H r){G:Cfg}{a:Act}(hs:XSt l G0 G T H r a):iQ l G0 Q e a G.w:=⟨T,H,G,r,rfl,hs,h⟩
theorem XCode.of {c:Code}{Q:XQ}{T:List AV}{H:AH}{r:Loop}(h:ACode P c (λe T H=>Q e T H r) T H):XCode P l G0 c Q T H r:=by
 intro G a hs;refine Code.wpIn_mono ?_ (h G G a (none,G0.w.heap.size) (Evo.refl G) hs.f hs.d hs.h);rintro e a w ⟨T',H',G',rfl,hE,hF,hd,hH,hq⟩;exact⟨T',H',G',r,rfl,⟨hs.x.trans hE.x,hF,hd,hH,hs.ra.evo hE⟩,hq⟩
def XQ.then (next:List AV→AH→Loop→Prop)(Q:XQ):XQ
 | .normal,T,H,r=>next T H r
 | e,T,H,r=>Q e T H r
theorem XCode.seq {x y:Code}{Q:XQ}{T:List AV}{H:AH}{r:Loop}(h:XCode P l G0 x (XQ.then (XCode P l G0 y Q) Q) T H r):XCode P l G0 (.seq x y) Q T H r:=by
 intro G a hs;refine wpIn_seq (Code.wpIn_mono ?_ (h G a hs));rintro e a' w' ⟨T',H',G',r',rfl,hs',hq⟩;cases e with
 | normal=>exact hq G' a' hs'
 | _=>exact⟨T',H',G',r',rfl,hs',hq⟩
theorem XCode.cond {c:Operand}{x y:Code}{Q:XQ}{T:List AV}{H:AH}{r:Loop}{b:Bool}(hc:Bu T c=.lit (.bool b))(h:XCode P l G0 (if b then x else y) Q T H r):XCode P l G0 (.cond c x y) Q T H r:=by
 intro G a hs
 have:=hs.f.eval c
 rw[hc]at this;simp only[VR]at this;exact wpIn_cond this (h G a hs)
theorem XCode.skip {Q:XQ}{T:List AV}{H:AH}{r:Loop}(h:Q .normal T H r):XCode P l G0 .skip Q T H r:=λG a hs=>wpIn_skip (Od h hs)
theorem XCode.exit {id:Nat}{Q:XQ}{T:List AV}{H:AH}{r:Loop}(h:Q (.exit id) T H r):XCode P l G0 (.exit id) Q T H r:=λG a hs=>wpIn_exit (Od h hs)
theorem XCode.ret {Q:XQ}{T:List AV}{H:AH}{r:Loop}(h:Q .ret T H r):XCode P l G0 .ret Q T H r:=λG a hs=>wpIn_ret (Od h hs)
def XQ.inBlock (id:Nat)(Q:XQ):XQ
 | .exit id',T,H,r=>if id'=id then Q .normal T H r else Q (.exit id') T H r
 | e,T,H,r=>Q e T H r
theorem XCode.block {id:Nat}{c:Code}{Q:XQ}{T:List AV}{H:AH}{r:Loop}(h:XCode P l G0 c (Q.inBlock id) T H r):XCode P l G0 (.block id c) Q T H r:=by
 intro G a hs;refine wpIn_block (Code.wpIn_mono ?_ (h G a hs));rintro e a' w' ⟨T',H',G',r',rfl,hs',hq⟩;cases e with
 | exit id'=>
  simp only[XQ.inBlock]at hq;simp only[Exit.inBlock]
  split
  ·rename_i he;rw[if_pos he]at hq;exact⟨T',H',G',r',rfl,hs',hq⟩
  ·rename_i he;rw[if_neg he]at hq;exact⟨T',H',G',r',rfl,hs',hq⟩
 | _=>exact⟨T',H',G',r',rfl,hs',hq⟩
abbrev Ah2:=@Nat.le_of_not_lt
theorem XCode.loop {c:Code}{Q:XQ}{T:List AV}{H:AH}{r:Loop}(I:Nat→List AV→AH→Loop→Prop)(n0:Nat)(h0:I n0 T H r)
  (round:∀n T H r,I n T H r→XCode P l G0 c (XQ.then (λT' H' r'=>∃n',n'<n∧I n' T' H' r') Q) T H r):XCode P l G0 (.loop c) Q T H r:=by
 intro G a hs
 let J:Nat→Act→World→Prop:=λn a w=>∃(T:List AV) (H:AH) (G':Cfg) (r:Loop),G'.w=w∧XSt l G0 G' T H r a∧I n T H r
 have least:∀a w,(∃n,J n a w)→∃n,J n a w∧∀m,J m a w→n≤m:=by
  intro a w ⟨n,hn⟩
  induction n using Nat.strongRecOn with
  | _ n ih=>
   by_cases h:∃m,m<n∧J m a w
   ·obtain⟨m,hm,hj⟩:=h;exact ih m hm hj
   ·exact⟨n,hn,λm hm=>Ah2 λhlt=>h ⟨m,hlt,hm⟩⟩
 have hμ:∃μ:Act→World→Nat,∀a w,(∃n,J n a w)→J (μ a w) a w∧∀m,J m a w→μ a w≤m:=by
  classical
  refine⟨λa w=>if h:∃n,J n a w then Classical.choose (least a w h)else 0,λa w h=>?_⟩;simp only[dif_pos h];exact Classical.choose_spec (least a w h)
 obtain⟨μ,hμ⟩:=hμ;refine wpIn_loop (λa w=>∃n,J n a w) μ ⟨n0,T,H,G,r,rfl,hs,h0⟩ ?_;intro a w hJ;obtain⟨⟨T1,H1,G1,r1,rfl,hs1,hI⟩,_⟩:=hμ a w hJ;refine Code.wpIn_mono ?_ (round _ T1 H1 r1 hI G1 a hs1);rintro e a' w' ⟨T',H',G',r',rfl,hs',hq⟩;cases e with
 | normal=>
  obtain⟨n',hlt,hI'⟩:=hq;have hJ':J n' a' G'.w:=⟨T',H',G',r',rfl,hs',hI'⟩;exact⟨⟨n',hJ'⟩,Nat.lt_of_le_of_lt ((hμ a' G'.w ⟨n',hJ'⟩).2 _ hJ') hlt⟩
 | _=>exact⟨T',H',G',r',rfl,hs',hq⟩
theorem XCode.weak {c:Code}{Q:XQ}{keep:List Bool}{T:List AV}{H:AH}{r:Loop}(hl:T.length=keep.length)(h:XCode P l G0 c Q (AW keep (Nx keep T)) H r):XCode P l G0 c Q T H r:=
 λG a hs=>h G a ⟨hs.x,DQ hl hs.f,hs.d,hs.h,hs.ra⟩
theorem XCode.region {id:Nat}{ops:Array Oper}{Q:XQ}{T:List AV}{H:AH}{r:Loop}(h:XOps P l G0 ops Q ops.toList T H r):XCode P l G0 (.region id ops false) Q T H r:=
 λG a hs=>wpIn_region_list (h G a hs)
theorem XOps.nil {ops:Array Oper}{Q:XQ}{T:List AV}{H:AH}{r:Loop}(h:Q .normal T H r):XOps P l G0 ops Q [] T H r:=λG a hs=>Od h hs
theorem mV {F:Fence}{n:Nat}{o:Oper}{a:Act}{w:World}{K:Act→World→Prop}{Q Q':Exit→Act→World→Prop}(hq:∀e a w,e≠.normal→Q e a w→Q' e a w)(hh:o.wpIn F n P a w K Q):o.wpIn F n P a w K Q':=by
 have lo:LetsOut Q→LetsOut Q':=fun ⟨a,w,h⟩=>⟨a,w,hq _ _ _ (by simp) h⟩
 unfold Oper.wpIn at*;refine⟨hh.1,?_⟩;have hh:=hh.2;generalize (o.semAt F.round a.eval).run P w=r at*;cases r with
 | ok x w'=>
  cases x<;>simp only[Oper.uponIn]at hh⊢<;>
   first
    | exact hh
    | exact⟨hh.1,CallsIn.mono hh.2 (λe w'' he=>by cases e<;>first | exact he | exact hq _ _ _ (by simp) he | exact lo he)⟩
    | exact⟨hh.1,RoundIn.mono hh.2 (λe w'' he=>by cases e<;>first | exact he | exact hq _ _ _ (by simp) he | exact lo he)⟩
 | halt x w'=>cases x<;>simp only[Oper.uponIn]at hh⊢<;>first | exact hh | exact hq _ _ _ (by simp) hh
theorem PB {F:Fence}{n:Nat}{ops:Array Oper}{Q1 Q:Exit→Act→World→Prop}{l2:List Oper}(hn:∀a w,Q1 .normal a w→wpListIn F n P ops Q l2 a w)(he:∀e a w,e≠.normal→Q1 e a w→Q e a w):
  ∀(l1:List Oper) (a:Act) (w:World),wpListIn F n P ops Q1 l1 a w→wpListIn F n P ops Q (l1++l2) a w
 | [],a,w,h=>hn a w h
 | o::l1,a,w,h=>by
  show wpListIn F n P ops Q (o::(l1++l2)) a w
  unfold wpListIn at h⊢
  split
  ·rename_i hw
   rw[if_pos hw]at h;exact mV he (Oper.wpIn_mono (λa w=>PB hn he l1 a w) h)
  ·rename_i hw
   rw[if_neg hw]at h;exact⟨h.1,PB hn he l1 _ _ h.2⟩
theorem XOps.pre {ql al:FuncId→Bool}{ops:Array Oper}{l1 l2:List Oper}{Q:XQ}{T:List AV}{H:AH}{r:Loop}{K:List AV→AH→Prop}(h:LG P ql al false ops l1 T H K)(hk:∀T' H',K T' H'→XOps P l G0 ops Q l2 T' H' r):XOps P l G0 ops Q (l1++l2) T H r:=by
 intro G a hs;have h1:AOps P ops (λe T H=>match e with | .normal=>K T H | _=>False) l1 T H:=Vp l1 T H K (λ_ _ h=>h) h;refine PB ?_ ?_ l1 a G.w (h1 G G a (none,G0.w.heap.size) (Evo.refl G) hs.f hs.d hs.h)
 ·rintro a w ⟨T',H',G',rfl,hE,hF,hd,hH,hq⟩
  exact hk T' H' hq G' a ⟨hs.x.trans hE.x,hF,hd,hH,hs.ra.evo hE⟩
 ·rintro e a w hne ⟨T',H',G',rfl,hE,hF,hd,hH,hq⟩
  cases e with
  | normal=>exact absurd rfl hne
  | _=>exact hq.elim
theorem XOps.yield {ops:Array Oper}{Q:XQ}{o:Oper}{rest:List Oper}{T T0:List AV}{H:AH}{rec:Loop}{p:Tmp}{f x:Operand}{ats:Array TypeId}{J:AH→Prop}{X:Code→AH→Prop}
  (ho:o.op=.call {callee:=.value f,args:=#[x],argTypes:=ats}) (hg:o.guard=none) (hf:Bu T f=.lit (.func (.yield l) #[] #[]))
  (hrd:rec.state=.ready) (hpd:rec.pending=none) (hps:rec.params= #[p]) (hT:∀G,EvoX l G0 G→VRs G T0 rec.tmps.toList) (hr:VZ P rec.assign rec.body T0 p (Bu T x) H J X)
  (h1:∀H',J H'→XOps P l G0 ops Q rest (Dj T o.dst (B true)) H' rec) (h2:∀c H',X c H'→XOps P l G0 ops Q rest (Dj T o.dst (B false)) H' {rec with state:=.done,pending:=some c}):XOps P l G0 ops Q (o::rest) T H rec:=by
 intro G a hs;unfold wpListIn;have hw:Region.wanted o (yielded ops a.tmps)=true:=by unfold Region.wanted;rw[hg]
 rw[if_pos hw];have hfv:=hs.f.eval f;rw[hf]at hfv;simp only[VR]at hfv;obtain⟨fn,tm,ag,bd,hy,hR⟩:=Zq hs.h hs.ra hrd hpd hps (hT G hs.x) (hs.f.eval x) hr;have hnd:∀c,o.op≠.defer c:=λc hc=>by rw[ho]at hc;cases hc
 refine⟨λ_ _=>trivial,?_⟩;rw[Oper.semAt_eq _ _ _ hnd]
 have hrun:(execOp a.eval o).run P G.w=.ok (.round l fn tm ag bd) G.w:=by
  obtain⟨dst,op,type,pos,after,guard⟩:=o;simp only at ho;subst ho;simp[execOp,resolve,hfv,Deferred.ofValue,invoke];exact hy
 rw[hrun];refine⟨λhn=>(by simp[Fence.wide]at hn),RoundIn.mono hR ?_⟩;rintro e w' ⟨G',H',rfl,hX,hH',⟨rfl,hR',hj⟩ | ⟨rfl,c,hR',hx⟩⟩
 ·exact h1 H' hj G' _ ⟨hs.x.trans hX,FR.put (VRs.tr hX.tr hs.f) o.dst (by simp only[VR]),(hs.d.x (a':=a) hX rfl (IB hs.ra.h) (λh=>by cases h)).put _ _,hH',hR'⟩
 ·exact h2 c H' hx G' _ ⟨hs.x.trans hX,FR.put (VRs.tr hX.tr hs.f) o.dst (by simp only[VR]),(hs.d.x (a':=a) hX rfl (IB hs.ra.h) (λh=>by cases h)).put _ _,hH',hR'⟩
theorem OW {fn:Func}{tmps:Array Value}{R:Ending→World→Prop}{T:List AV}{H:AH}{r:Loop}(hl:l<G0.w.heap.size)(K:∀G:Cfg,EvoX l G0 G→FR G T {tmps,defers:=[]}→HR G H→RecAt G l r→LeavesIn Fence.wide 0 P fn tmps R [] .returning G.w):
  ∀(Ds:List Nat) (G:Cfg),EvoX l G0 G→FR G T {tmps,defers:=[]}→HR G H→RecAt G l r→Ds.Nodup→(∀D∈Ds,G0.w.heap.size≤D∧¬G.L D∧G.w.heap[D]?=some (.deferred (some [])))→
   LeavesInM Fence.wide 0 P fn tmps R (Ds.map lD) .returning G.w
 | [],G,hE,hF,hH,hr,_,_=>K G hE hF hH hr
 | D::Ds,G,hE,hF,hH,hr,hn,hD=>by
  obtain⟨h1,h2,h3⟩:=hD D (.head _);obtain⟨hni,hn'⟩:=Ai9.1 hn;refine⟨by simp,.inl ⟨D,_,rfl,run_takeDeferred h3,?_⟩⟩;have hc:∀c e f,Obj.deferred (some [])≠.cells c e f:=by intro c e f h;cases h
  have ht:=Tr.put h3 hc (.deferred none);refine OW hl K Ds (G.put D (.deferred none)) ?_ (VRs.tr ht hF) (hH.putO (fun o z ho (e:(G.μ o).1=D)=>h2 (by have:=hH.live o z ho;rwa[e]at this)) h3 hc _) ⟨?_,hr.nl⟩ hn' λD' hD'=>?_
  ·refine⟨hE.os,hE.tape,hE.output,?_,λk hk hne hL=>?_,hE.n,hE.μ,hE.K,λad vs hh=>ht.has ad vs (hE.has ad vs hh)⟩
   ·simp only[Cfg.put,World.putObj];simpa using hE.size
   ·obtain⟨e1,l1⟩:=hE.keep k hk hne hL
    refine⟨?_,l1⟩;simp only[Cfg.put];rw[World.putObj_heap_other (by omega)];exact e1
  ·simp only[Cfg.put]
   rw[World.putObj_heap_other (by omega)];exact hr.h
  ·obtain⟨a1,a2,a3⟩:=hD D' (.tail _ hD')
   refine⟨a1,a2,?_⟩;simp only[Cfg.put];rw[World.putObj_heap_other (λe=>hni (by rw[← e];exact hD'))];exact a3
theorem Xu {k:FuncId}{fn:Func}{c:Code}{cap xs:List AV}{Cap:AH→Prop}(hf:P.funcs[k]?=some fn)(hb:fn.body=some c)(hres:fn.results= #[])
  (h:∀(l:Nat) (G0:Cfg) (rec:Loop) (T:List AV) (p:Tmp) (H:AH) (J:Nat→AH→Prop) (X:Code→AH→Prop),rec.state=.ready→rec.pending=none→rec.params= #[p]→(∀G,EvoX l G0 G→VRs G T rec.tmps.toList)→J 0 H→(∀i H',J i H'→Cap H')→(∀i x H',xs[i]?=some x→J i H'→VZ P rec.assign rec.body T p x H' (J (i+1)) X)→
   XCode P l G0 c (λe _ H' r=>(e=.normal∨e=.ret)∧((r=rec∧J xs.length H')∨∃c,r={rec with state:=.done,pending:=some c}∧X c H')) ((.lit (.func (.yield l) #[] #[])::cap)++List.replicate (fn.ntmps - (cap.length+1)) AG) H rec):WL P k cap Cap xs:=by
 intro G l rec T p H vc J X hH hR hrd hpd hps hT hvc h0 hcap hr;have hlen:=hvc.length;refine callsIn_of_wp_marks (F:=FW none) (n:=0) hf hb trivial ?_ rfl
 have hF:FR G ((.lit (.func (.yield l) #[] #[])::cap)++List.replicate (fn.ntmps - (cap.length+1)) AG) {tmps:=(#[Value.func (.yield l) #[] #[]]++vc.toArray)++Array.replicate (fn.ntmps - (#[Value.func (.yield l) #[] #[]]++vc.toArray).size) undef,defers:=[]}:=by
  unfold FR;simp only[Ab1,Aa0];rw[hlen,show([Value.func (.yield l) #[] #[]]:List Value).length+vc.length=vc.length+1 by simp;omega];refine VRs.append ?_ (VRs.replicate (by simp only[AG,VR]) _);exact .cons (by simp only[VR]) hvc
 have hl:l<G.w.heap.size:=(Array.getElem?_eq_some_iff.1 hR.h).1;have hx:=h l G rec T p H J X hrd hpd hps (λG' hE=>VRs.tr hE.tr hT) h0 hcap hr G _ ⟨(Evo.refl G).x,hF,⟨⟨[],rfl,Ao2,λ_ h=>(by cases h)⟩,λ_ h=>(by cases h),Ac2 _⟩,hH,hR⟩;refine Code.wpIn_mono ?_ hx;rintro e a w ⟨T',H',G',r',rfl,hs,he,hq⟩;obtain⟨⟨Ds,e1,e2,e3⟩,-,-⟩:=hs.d;simp only at e3
 have:LeavesInM Fence.wide 0 P fn a.tmps (λe W'=>(∃v,e=.returned v)∧∃(G':Cfg) (H':AH),G'.w=W'∧EvoX l G G'∧HR G' H'∧((RecAt G' l rec∧J xs.length H')∨∃c,RecAt G' l {rec with state:=.done,pending:=some c}∧X c H')) a.defers .returning G'.w:=by
  rw[e1];refine OW (G0:=G) hl (λG2 hE2 hF2 hH2 hR2=>?_) Ds G' hs.x hs.f hs.h hs.ra e2 e3;obtain⟨v,hrun,-⟩:=Vn (P:=P) hH2 hF2 (fn:=fn) (xs:=[]) (by rw[hres];rfl);refine⟨v,hrun,⟨v,rfl⟩,G2,H',rfl,hE2,hH2,?_⟩;rcases hq with⟨rfl,hj⟩ | ⟨c,rfl,hx⟩
  ·exact .inl ⟨hR2,hj⟩
  ·exact .inr ⟨c,hR2,hx⟩
 rcases he with rfl | rfl<;>exact this
theorem XCode.seqP {fl:C1}{ql al:FuncId→Bool}{un:Nat→Bool}{kp:Nat→Option (List Bool)}{x y:Code}{n:Nat}{keep:List Bool}{Q:XQ}{T:List AV}{H:AH}{r:Loop}(hm:P.follows .mixedOrders=true)(hc:CJ fl ql un x=true)
  (hQ:∀e T T' H,e≠.normal→Q e T H r→Q e T' H r) (h:AJ P fl ql al un kp x n T H (λe T H=>fP keep T λX=>(XQ.then (λT H r=>XCode P l G0 y Q T H r) Q) e (AW keep X) H r)):XCode P l G0 (.seq x y) Q T H r:=by
 refine XCode.seq (XCode.of ((DW hm x n T H _ hc h).mono ?_));intro e T' H' hk;obtain⟨hl,hk⟩:=BN.1 hk;cases e with
 | normal=>exact XCode.weak hl hk
 | _=>exact hQ _ _ _ _ (by simp) hk
theorem XCode.seqN {fl:C1}{ql al:FuncId→Bool}{un:Nat→Bool}{kp:Nat→Option (List Bool)}{x y:Code}{n:Nat}{keep:List Bool}{Q:XQ}{T:List AV}{H:AH}{r:Loop}(hm:P.follows .mixedOrders=true)(hc:CJ fl ql un x=true)
  (h:AJ P fl ql al un kp x n T H (λe T H=>fP keep T λX=>e=.normal∧XCode P l G0 y Q (AW keep X) H r)):XCode P l G0 (.seq x y) Q T H r:=by
 refine XCode.seq (XCode.of ((DW hm x n T H _ hc h).mono ?_));intro e T' H' hk;obtain⟨hl,he,h2⟩:=BN.1 hk;subst he;exact XCode.weak hl h2
theorem XOps.weak {ops:Array Oper}{Q:XQ}{keep:List Bool}{lst:List Oper}{T:List AV}{H:AH}{r:Loop}(hl:T.length=keep.length)(h:XOps P l G0 ops Q lst (AW keep (Nx keep T)) H r):XOps P l G0 ops Q lst T H r:=
 λG a hs=>h G a ⟨hs.x,DQ hl hs.f,hs.d,hs.h,hs.ra⟩
theorem XOps.preP {ql al:FuncId→Bool}{ops:Array Oper}{l1 l2:List Oper}{Q:XQ}{keep:List Bool}{T:List AV}{H:AH}{r:Loop}(h:LG P ql al false ops l1 T H (λT H=>fP keep T λX=>XOps P l G0 ops Q l2 (AW keep X) H r)):XOps P l G0 ops Q (l1++l2) T H r:=
 XOps.pre h λT' H' hk=>by
  obtain⟨hl,hk⟩:=BN.1 hk;exact XOps.weak hl hk
end
end
section
def May (n:Int):Prop:=0≤n∧n≤4611686018427387904
instance (n:Int):Decidable (May n):=by unfold May;infer_instance
theorem W3 (n:Int):BPure prog 169 [I n] (B (decide (May n))):=BPure.flat λH=>aK (by
 unfold cW
 by_cases h1:0≤n<;>by_cases h2:n≤4611686018427387904<;>simp[May,h1,h2])
structure Sp where
 pos:Int
 len:Int
 deriving DecidableEq,Inhabited
def Cd (s:Sp):List AV:=[I s.pos,I s.len]
theorem Wn (s:Sp):(Cd s).length=2:=rfl
def MaySpan (s:Sp):Prop:=May s.pos∧May s.len∧s.len≤4611686018427387904 - s.pos
instance (s:Sp):Decidable (MaySpan s):=by unfold MaySpan;infer_instance
theorem Fv (s:Sp):BPure prog 111 [.agg (Cd s)] (B (decide (MaySpan s))):=BPure.val rfl rfl (Vb (by
 unfold SZ;obtain⟨p,n⟩:=s;simp[Cd,IV];refine A4 (W3 _) ?_
 by_cases h1:May p
 ·have h1':=h1
  unfold May at h1';simp[h1];refine A4 (W3 _) ?_
  by_cases h2:May n
  ·simp[h2,BM (a:=4611686018427387904) (b:=p) (by omega) (by omega),MaySpan,h1]
  ·simp[h2,MaySpan]
 ·simp[h1,MaySpan]))
def L8 (a b:Sp):Sp:=
 if MaySpan a∧MaySpan b∧max a.pos b.pos<min (a.pos+a.len) (b.pos+b.len)then⟨max a.pos b.pos,min (a.pos+a.len) (b.pos+b.len) - max a.pos b.pos⟩else⟨0,0⟩
theorem P3 (a b:Sp):BPure prog 55 [.agg (Cd a),.agg (Cd b)] (.agg (Cd (L8 a b))):=BPure.val rfl rfl (Zb (by
 unfold Za;simp[Cd,IV,Ao];refine A4 (Fv a) ?_
 by_cases h1:MaySpan a
 ·simp[h1]
  refine A4 (Fv b) ?_
  by_cases h2:MaySpan b
  ·have h1':=h1
   have h2':=h2;simp only[MaySpan,May]at h1' h2';obtain⟨p,n⟩:=a;obtain⟨q,m⟩:=b;simp only at h1' h2';simp[h2,Aw (a:=p) (b:=n) (by omega) (by omega),Aw (a:=q) (b:=m) (by omega) (by omega)]
   by_cases h3:max p q<min (p+n) (q+m)
   ·have h3':¬min (q+m) (p+n)≤max q p:=by omega
    simp[h3',BM (a:=min (q+m) (p+n)) (b:=max q p) (by omega) (by omega),AT,L8,h1,h2,h3];omega
   ·have h3':min (q+m) (p+n)≤max q p:=by omega
    simp[h3',AT,L8,h3]
  ·simp[h2,AT,L8]
 ·simp[h1,AT,L8]))
theorem sO (a b c d:Int):Ph prog .eql 119 (.agg [I a,I b]) (.agg [I c,I d])=some (B (a==c&&(b==d&&true))):=by kernel_rfl
theorem uE (x y:Sp):(x.pos==y.pos&&(x.len==y.len&&true))=decide (x=y):=by
 obtain⟨a,b⟩:=x;obtain⟨c,d⟩:=y
 by_cases h1:a=c<;>by_cases h2:b=d<;>simp[h1,h2]
theorem yH (x y:Sp):Ph prog .eql 119 (.agg (Cd x)) (.agg (Cd y))=some (B (decide (x=y))):=by rw[← uE];exact sO _ _ _ _
def Within (a b:Sp):Prop:=MaySpan a∧MaySpan b∧(a.len=0∨L8 a b=a)
instance (a b:Sp):Decidable (Within a b):=by unfold Within;infer_instance
theorem X2 (a b:Sp):BPure prog 204 [.agg (Cd a),.agg (Cd b)] (B (decide (Within a b))):=BPure.val rfl rfl (VT (by
 unfold Vc;simp[Cd,IV,Ao];refine A4 (Fv a) ?_
 by_cases h1:MaySpan a
 ·simp[h1]
  refine A4 (Fv b) ?_
  by_cases h2:MaySpan b
  ·by_cases h3:a.len=0
   ·simp[h2,h3,Within,h1]
   ·simp[h2,h3,Within,h1]
    refine bP_of (P3 a b) ?_
    have:=yH (L8 a b) a
    simp only[Cd]at this⊢;simp[this]
  ·simp[h2,Within]
 ·simp[h1,Within]))
def BU:Nat→Int→Int→Int→List Sp
 | 0,_,_,_=>[]
 | f+1,pos,len,unit=>if 0<len then⟨pos,min len (unit - pos % unit)⟩::BU f (pos+min len (unit - pos % unit)) (len - min len (unit - pos % unit)) unit else []
def Dx (s:Sp)(unit:Int):List Sp:=if MaySpan s∧s.len≤4096∧1≤unit then BU s.len.toNat s.pos s.len unit else []
abbrev Aj2:=@Int.emod_lt_of_pos
abbrev Ak4:=@Int.emod_nonneg
theorem Uv {f:Nat}{pos len unit:Int}(hf:len.toNat≤f)(hl:0<len)(hp:0≤pos)(hu:1≤unit):BU f pos len unit=⟨pos,min len (unit - pos % unit)⟩::BU (len - min len (unit - pos % unit)).toNat (pos+min len (unit - pos % unit)) (len - min len (unit - pos % unit)) unit:=by
 induction f using Nat.strongRecOn generalizing pos len with
 | _ f ih=>
  have h1:=Aj2 pos (show 0<unit by omega);have h2:=Ak4 pos (show unit≠0 by omega);cases f with
  | zero=>omega
  | succ f=>
   simp only[BU,hl,if_true]
   congr 1
   have hm:1≤min len (unit - pos % unit):=by omega
   generalize min len (unit - pos % unit)=m at*
   have more:∀(a b:Nat) (p n:Int),n.toNat≤a→n.toNat≤b→0≤p→BU a p n unit=BU b p n unit:=by
    intro a
    induction a with
    | zero=>
     intro b p n ha hb hp;cases b with
     | zero=>rfl
     | succ b=>simp only[BU];rw[if_neg (by omega)]
    | succ a iha=>
     intro b p n ha hb hp;have h1:=Aj2 p (show 0<unit by omega);have h2:=Ak4 p (show unit≠0 by omega);cases b with
     | zero=>simp only[BU];rw[if_neg (by omega)]
     | succ b=>
      simp only[BU]
      split
      ·rw[iha b _ _ (by omega) (by omega) (by omega)]
      ·rfl
   exact more _ _ _ _ (by omega) (by omega) (by omega)
theorem Uw {f:Nat}{pos len unit:Int}(hl:¬0<len):BU f pos len unit=[]:=by
 cases f with
 | zero=>rfl
 | succ f=>simp only[BU,if_neg hl]
theorem gJ (l:List Sp):A6 (l.flatMap Cd)=true:=by
 induction l with
 | nil=>rfl
 | cons a l ih=>rw[Ae8];simp[Cd,A6,noIds];simpa[Cd]using ih
theorem Tb (s:Sp){unit:Int}(hu:unit≤9223372036854775807):∃v,SV Cd 2 (Dx s unit) v∧BPure prog 99 [.agg (Cd s),I unit] v:=by
 refine BPure.sl (sz:=2) rfl (gJ _) (X0 ?_);unfold W4;obtain⟨p,n⟩:=s;simp[Cd,Ao];refine A4 (Fv ⟨p,n⟩) ?_
 by_cases h1:MaySpan ⟨p,n⟩
 ·simp[h1]
  by_cases h2:4096<n
  ·have:Dx ⟨p,n⟩ unit=[]:=if_neg (by simp only;omega)
   simp[h2,this,Aa]
  ·simp[h2]
   by_cases h3:unit<1
   ·have:Dx ⟨p,n⟩ unit=[]:=if_neg (by omega)
    simp[h3,this,Aa]
   ·simp[h3]
    have hP:Dx ⟨p,n⟩ unit=BU n.toNat p n unit:=if_pos ⟨h1,by simp only;omega,by omega⟩;simp only[MaySpan,May]at h1;refine QN (λk x1 x2 x5 H=>∃(pos len:Int) (l:List Sp),k=len.toNat∧x1=I unit∧x2=.ptr 0 0∧H[0]?=some (some (.cells [I pos,I len]))∧AP x5=true∧Aa H 2 x5=some (l.flatMap Cd,l.length)∧0∉AU x5∧
     0≤pos∧0≤len∧pos+len≤4611686018427387904∧(l.length:Int)+len≤4096∧l++BU len.toNat pos len unit=BU n.toNat p n unit) ?_ n.toNat
     ⟨p,n,[],rfl,rfl,rfl,rfl,rfl,rfl,by simp[AU],by omega,by omega,by omega,by simp;omega,rfl⟩
    rintro k x1 x2 x5 H R hR ⟨pos,len,l,rfl,rfl,rfl,hH,ho,hs,hid,hp,hl,hpl,hll,hc⟩;unfold Nv;have e1:=Aj2 pos (show 0<unit by omega);have e2:=Ak4 pos (show unit≠0 by omega)
    by_cases hlen:0<len
    ·rw[Uv (Ac2 _) hlen hp (by omega)]at hc
     have hcomm:min (unit - pos % unit) len=min len (unit - pos % unit):=by omega
     have hm1:1≤min len (unit - pos % unit):=by omega
     have hm2:min len (unit - pos % unit)≤len:=by omega
     generalize min len (unit - pos % unit)=m at hcomm hm1 hm2 hc;have hH0:=(BD.1 hH).1;have hs1:Aa (H++[some (.cells [I pos,I m])]) 2 x5=some (l.flatMap Cd,l.length):=Ae hs λi hi=>Ab9 (A3 hs i hi)
     obtain⟨r,H2,a1,a2,a3,a4,a5,a6⟩:=CC (bytes:=16) hs1 ho (AI (v:=.sl H.length 0 1 2 (.ex 1)) (q:=([I pos,I m],1)) (by simp[Aa])) (by omega)
     have hH2:H2[0]?=some (some (.cells [I pos,I len])):=by
      rw[a5 0 (by simp) hid,Ab9 hH0];exact hH
     have hid2:0∉AU r:=λhi=>(a6 0 hi).elim hid (by simp)
     have hH20:=(BD.1 hH2).1
     have keep:∀c,Aa (H2.set 0 c) 2 r=some ((l++[(⟨pos,m⟩:Sp)]).flatMap Cd,(l++[(⟨pos,m⟩:Sp)]).length):=λc=>by
      rw[Ae a3 (λi hi=>C4 (by rintro rfl;exact hid2 hi))];simp[Cd]
     simp[hH,hlen,I5 (a:=pos) (b:=unit) (by omega) (by omega),BM (a:=unit) (b:=pos % unit) (by omega) (by omega),hcomm,a1,hH2,Aw (a:=pos) (b:=m) (by omega) (by omega),BM (a:=len) (b:=m) (by omega) (by omega),AT];refine hR (len - m).toNat _ _ _ _ (by omega) ?_;exact⟨pos+m,len - m,l++[(⟨pos,m⟩:Sp)],rfl,rfl,rfl,by simp[hH20],a2,keep _,hid2,by omega,by omega,by omega,by simp;omega,by simpa using hc⟩
    ·rw[Uw hlen,Af1]at hc
     simp[hH,hlen];rw[hP,← hc];exact hs
 ·have:Dx ⟨p,n⟩ unit=[]:=if_neg (λh=>h1 h.1)
  simp[h1,this,Aa]
def down (n unit:Int):Int:=if May n∧1≤unit then n - n % unit else 0
def PF (a b:Sp):Prop:=MaySpan a∧MaySpan b∧(a.len=0∨(b.pos≤a.pos∧a.pos+a.len≤b.pos+b.len))
instance (a b:Sp):Decidable (PF a b):=by unfold PF;infer_instance
theorem aY (a b:Sp):Within a b↔PF a b:=by
 unfold Within PF
 by_cases h1:MaySpan a<;>by_cases h2:MaySpan b<;>simp[h1,h2]
 have h1':=h1;have h2':=h2;simp only[MaySpan,May]at h1' h2'
 by_cases h0:a.len=0
 ·simp[h0]
 ·simp only[h0,false_or]
  unfold L8;obtain⟨p,n⟩:=a;obtain⟨q,m⟩:=b;simp only at h1' h2' h0⊢
  split
  ·rename_i h;simp only[Sp.mk.injEq];omega
  ·rename_i h
   simp only[h1,h2,true_and]at h;simp only[Sp.mk.injEq];omega
end
end Go.Proofs.YtbppnhenlboefaaGreat.Av
