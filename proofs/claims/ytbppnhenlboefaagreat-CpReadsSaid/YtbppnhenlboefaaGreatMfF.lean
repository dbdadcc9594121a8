/- Texts of this proof, one behind the other, packed into one file by a program of this session. No condition. -/
import Derived.Test.YtbppnhenlboefaaGreatMfE
import Derived.OrdersIn
import Derived.RangeFuncNested
set_option linter.unusedVariables false
set_option linter.unusedSimpArgs false
set_option maxRecDepth 100000
section
namespace Go.Proofs.YtbppnhenlboefaaGreat.Av
open Go Go.Proofs.Tryz
def Hr:FuncId→Bool:=TR [43,82,20,13,52,40,102,24,23,98,50,170,172,188,179,181,22,99,169,111,143,142,148,180,182,145,73,141,171,173,144,75,176,135,70,134,139,149,174,112,45,234,214,191,218,217,229,194,216,228,87,16]
def tV:FuncId→Bool:=TR [11,36]
def Wv (a0:AV)(H:AH)(K:KT):Prop:=
 bO (Aq .geq a0 (.lit (.int .u8 97))) λv0=>
 bG v0 true λw1=>
 gO w1 (some a0) λv2=>
 bG v0 true λw3=>
 gO w3 (Aq .leq v2 (.lit (.int .u8 122))) λv4=>
 bO (A7 v0 v4 (B false)) λv5=>
 K v5 H
theorem Xr {a0:AV}{H:AH}{K:KT}(h:Wv a0 H K):Cr 214 [a0] H K:=
 fok A6 Hr BA func214 h
def Uw:Nat→Option (List Bool):=Ci [(3,mk 22 0 [0,5,6])]
def Wt (p:List Bool)(n:Nat):List AV→AH→Kf→Prop:=AG prog A6 Hr Ap Ap Uw (sub p (AJ f218)) n
def Uv (x0 x5 x6:AV)(H:AH)(K:KT):Prop:=lp (mk 22 0 [0,5,6]) (Wt [tT,fF,tT,fF,fF] 4) [x0,x5,x6] H (Bl 0 (Bn (Wt [tT,tT] 10) (Bc prog f218.results.toList K)))
def Ql (R3:RT)(x0 x5 x6:AV)(H:AH)(K:KT):Prop:=
 bO (Aq .lss x6 x5) λv0=>
 bB v0 λt1=>bI t1 (
 bO (TA x0 x6) λv2=>
 bP (PCall prog 214 [v2] H) λv3=>
 bO (EX .not v3) λv4=>
 bB v4 λt5=>bI t5 (
 K (B false) H)
 (bO (Aq .add x6 (I 1)) λv6=>
 R3 [x0,x5,v6] H))
 (bO (SL .neq x0 (.lit (.string ⟨#[]⟩))) λv7=>
 bG v7 true λw8=>
 gO w8 (some x0) λv9=>
 bG v7 true λw10=>
 gO w10 (Ge v9) λv11=>
 bG v7 true λw12=>
 gO w12 (Aq .leq v11 (I 10)) λv13=>
 bO (A7 v7 v13 (B false)) λv14=>
 K v14 H)
theorem TE {K:KT}:uO (λR x0 x5 x6 H=>Ql R x0 x5 x6 H K) (λx0 x5 x6 H=>Uv x0 x5 x6 H K):=lL (A4 _ _) (λ_ _ _ _ _=>by kernel_rfl)
def cG (a0:AV)(H:AH)(K:KT):Prop:=
 bO (Ge a0) λv0=>
 Uv a0 v0 (I 0) H K
theorem ZS {a0:AV}{H:AH}{K:KT}(h:cG a0 H K):Cr 218 [a0] H K:=
 fok A6 Hr Uw func218 h
def T5 (a0 a1:AV)(H:AH)(K:KT):Prop:=
 bP (PCall prog 229 [a0,a1] H) λv0=>
 bO (Ai v0 0) λv1=>
 bO (Ai v0 1) λv2=>
 bO (Ai v0 2) λv3=>
 K (.tup [v1,v2,v3]) H
theorem VB {a0 a1:AV}{H:AH}{K:KT}(h:T5 a0 a1 H K):Cr 217 [a0,a1] H K:=
 fok A6 Hr BA func217 h
def Fp (a0 a1:AV)(H:AH)(K:KT):Prop:=
 bP (PCall prog 234 [a0,a1] H) λv0=>
 bO (Aq .geq v0 (I 0)) λv1=>
 bB v1 λt2=>bI t2 (
 bO (RQ a0 none (some v0)) λv3=>
 bO (Ge a1) λv4=>
 bO (Aq .add v0 v4) λv5=>
 bO (RQ a0 (some v5) none) λv6=>
 K (.tup [v3,v6,(B true)]) H)
 (K (.tup [a0,(.lit (.string ⟨#[]⟩)),(B false)]) H)
theorem IE {a0 a1:AV}{H:AH}{K:KT}(h:Fp a0 a1 H K):Cr 229 [a0,a1] H K:=
 fok A6 Hr BA func229 h
def Kk (a0 a1:AV)(H:AH)(K:KT):Prop:=
 bP (PCall prog 216 [a0,a1] H) λv0=>
 bO (Ai v0 0) λv1=>
 bO (Ai v0 1) λv2=>
 K (.tup [v1,v2]) H
theorem NQ {a0 a1:AV}{H:AH}{K:KT}(h:Kk a0 a1 H K):Cr 194 [a0,a1] H K:=
 fok A6 Hr BA func194 h
def DN (a0 a1:AV)(H:AH)(K:KT):Prop:=
 bP (PCall prog 228 [a0,a1] H) λv0=>
 bO (EX .not v0) λv1=>
 bB v1 λt2=>bI t2 (
 K (.tup [a0,(B false)]) H)
 (bO (Ge a1) λv3=>
 bO (RQ a0 (some v3) none) λv4=>
 K (.tup [v4,(B true)]) H)
theorem Gf {a0 a1:AV}{H:AH}{K:KT}(h:DN a0 a1 H K):Cr 216 [a0,a1] H K:=
 fok A6 Hr BA func216 h
def DO (a0 a1:AV)(H:AH)(K:KT):Prop:=
 bO (Ge a0) λv0=>
 bO (Ge a1) λv1=>
 bO (Aq .geq v0 v1) λv2=>
 bG v2 true λw3=>
 gO w3 (some a0) λv4=>
 bG v2 true λw5=>
 gO w5 (some a1) λv6=>
 bG v2 true λw7=>
 gO w7 (Ge v6) λv8=>
 bG v2 true λw9=>
 gO w9 (RQ v4 none (some v8)) λv10=>
 bG v2 true λw11=>
 gO w11 (some a1) λv12=>
 bG v2 true λw13=>
 gO w13 (SL .eql v10 v12) λv14=>
 bO (A7 v2 v14 (B false)) λv15=>
 K v15 H
theorem Gg {a0 a1:AV}{H:AH}{K:KT}(h:DO a0 a1 H K):Cr 228 [a0,a1] H K:=
 fok A6 Hr BA func228 h
def OM (a0 a1 a2:AV)(H:AH)(K:KT):Prop:=
 bO (Af a0) λv0=>
 bO (Ac 2 v0) λv1=>
 bO (Ac 0 v1) λv2=>
 bO (Ar false 1 H v2) λv3=>
 bO (FD [(.lit (.string ⟨#[]⟩)),(.lit (.string ⟨#[]⟩))] [(0,1,a1),(1,1,a2)]) λv4=>
 bH (Cv H 2 1 (Bg [(.lit (.string ⟨#[]⟩)),(.lit (.string ⟨#[]⟩))] 1) [(0,2,v4)]) λv5 H6=>
 bH (MJ 2 32 H6 v3 v5) λv7 H8=>
 bO (Af a0) λv9=>
 bO (Ac 2 v9) λv10=>
 bO (Ac 0 v10) λv11=>
 bS (AR 1 H8 v11 v7) λH12=>
 K (.tup []) H12
theorem RP {a0 a1 a2:AV}{H:AH}{K:KT}(h:OM a0 a1 a2 H K):Cr 219 [a0,a1,a2] H K:=
 fok A6 Hr BA func219 h
def MS (a0 a1:AV)(H:AH)(K:KT):Prop:=
 bP (PCall prog 217 [a1,(.lit (.string ⟨#[61]⟩))] H) λv0=>
 bO (Ai v0 0) λv1=>
 bO (Ai v0 1) λv2=>
 bO (Ai v0 2) λv3=>
 bP (PCall prog 218 [v1] H) λv4=>
 bO (EX .not v4) λv5=>
 bB v5 λt6=>bI t6 (
 K (B false) H)
 (bC (BCall prog 219 [a0,v1,v2] H) λv7 H8=>
 K (B true) H8)
theorem Qm {a0 a1:AV}{H:AH}{K:KT}(h:MS a0 a1 H K):Cr 195 [a0,a1] H K:=
 fok A6 Hr BA func195 h
def IX:Nat→Option (List Bool):=Ci [(3,mk 47 0 [0,3,8,9])]
def JH (p:List Bool)(n:Nat):List AV→AH→Kf→Prop:=AG prog A6 Hr Ap Ap IX (sub p (AJ f196)) n
def IW (x0 x3 x8 x9:AV)(H:AH)(K:KT):Prop:=lp (mk 47 0 [0,3,8,9]) (JH [tT,fF,tT,fF,fF] 4) [x0,x3,x8,x9] H (Bl 0 (Bn (JH [tT,tT] 15) (Bc prog f196.results.toList K)))
def HF (R3:RT)(x0 x3 x8 x9:AV)(H:AH)(K:KT):Prop:=
 bO (Aq .lss x9 x8) λv0=>
 bB v0 λt1=>bI t1 (
 bH (A9 H (I 0)) λv2 H3=>
 bS (AR 1 H3 v2 x9) λH4=>
 bO (Af x0) λv5=>
 bO (Ac 0 v5) λv6=>
 bO (Ar false 1 H4 v6) λv7=>
 bC (BCall prog 215 [v7,(.fn (.func 220) [] [x3,v2])] H4) λv8 H9=>
 bO (Aq .lss v8 (I 0)) λv10=>
 bB v10 λt11=>bI t11 (
 K (B false) H9)
 (bO (Af x0) λv12=>
 bO (Ac 0 v12) λv13=>
 bO (Ar false 1 H9 v13) λv14=>
 bO (Bh 2 v14 v8) λv15=>
 bO (Ac 1 v15) λv16=>
 bO (Ar false 1 H9 v16) λv17=>
 bB v17 λt18=>bI t18 (
 bO (Ar false 1 H9 x3) λv19=>
 bO (Ar false 1 H9 v2) λv20=>
 bO (Ar false 1 H9 v2) λv21=>
 bO (Aq .add v21 (I 1)) λv22=>
 bO (RQ v19 (some v20) (some v22)) λv23=>
 bO (Ar false 1 H9 x3) λv24=>
 bO (Ar false 1 H9 v2) λv25=>
 bO (Aq .add v25 (I 1)) λv26=>
 bO (RQ v24 (some v26) none) λv27=>
 bC (BCall prog 221 [x0,v23,v27] H9) λv28 H29=>
 K v28 H29)
 (bO (Ar false 1 H9 x3) λv30=>
 bO (Ar false 1 H9 v2) λv31=>
 bO (Ar false 1 H9 v2) λv32=>
 bO (Aq .add v32 (I 1)) λv33=>
 bO (RQ v30 (some v31) (some v33)) λv34=>
 bC (BCall prog 219 [x0,v34,(.lit (.string ⟨#[]⟩))] H9) λv35 H36=>
 bO (Aq .add x9 (I 1)) λv37=>
 R3 [x0,x3,x8,v37] H36)))
 (K (B true) H)
theorem KA {K:KT}:Xf (λR x0 x3 x8 x9 H=>HF R x0 x3 x8 x9 H K) (λx0 x3 x8 x9 H=>IW x0 x3 x8 x9 H K):=MD (A4 _ _) (λ_ _ _ _ _ _=>by kernel_rfl)
def Mg (a0 a1:AV)(H:AH)(K:KT):Prop:=
 bH (A9 H a1) λv0 H1=>
 bO (Ar false 1 H1 v0) λv2=>
 bO (Ge v2) λv3=>
 IW a0 v0 v3 (I 0) H1 K
theorem P0 {a0 a1:AV}{H:AH}{K:KT}(h:Mg a0 a1 H K):Cr 196 [a0,a1] H K:=
 fok A6 Hr IX func196 h
def CC:Nat→Option (List Bool):=Ci [(3,mk 19 0 [0,1,7,8])]
def CH (p:List Bool)(n:Nat):List AV→AH→Kf→Prop:=AG prog A6 Hr Ap Ap CC (sub p (AJ f215)) n
def CB (x0 x1 x7 x8:AV)(H:AH)(K:KT):Prop:=lp (mk 19 0 [0,1,7,8]) (CH [tT,fF,tT,fF,fF] 4) [x0,x1,x7,x8] H (Bl 0 (Bn (CH [tT,tT] 10) (Bc prog f215.results.toList K)))
def Cz (R3:RT)(x0 x1 x7 x8:AV)(H:AH)(K:KT):Prop:=
 bO (Aq .lss x8 x7) λv0=>
 bB v0 λt1=>bI t1 (
 bO (Bh 2 x0 x8) λv2=>
 bO (Ar true 2 H v2) λv3=>
 bF true x1 λk6 f6 c6=>
 bT (B1 prog k6||!true)<|
 bC (BCall prog k6 (f6++[v3]++c6) H) λv4 H5=>
 bB v4 λt7=>bI t7 (
 K x8 H5)
 (bO (Aq .add x8 (I 1)) λv8=>
 R3 [x0,x1,x7,v8] H5))
 (K (I (-1)) H)
theorem DW {K:KT}:Xf (λR x0 x1 x7 x8 H=>Cz R x0 x1 x7 x8 H K) (λx0 x1 x7 x8 H=>CB x0 x1 x7 x8 H K):=MD (A4 _ _) (λ_ _ _ _ _ _=>by kernel_rfl)
def De (a0 a1:AV)(H:AH)(K:KT):Prop:=
 bO (Bf a0) λv0=>
 CB a0 a1 v0 (I 0) H K
theorem EU {a0 a1:AV}{H:AH}{K:KT}(h:De a0 a1 H K):Cr 215 [a0,a1] H K:=
 fok A6 Hr CC func215 h
def OL (a0 a1:AV)(H:AH)(K:KT):Prop:=
 bP (PCall prog 194 [a1,(.lit (.string ⟨#[45,45]⟩))] H) λv0=>
 bO (Ai v0 0) λv1=>
 bO (Ai v0 1) λv2=>
 bB v2 λt3=>bI t3 (
 bC (BCall prog 195 [a0,v1] H) λv4 H5=>
 K v4 H5)
 (bP (PCall prog 194 [a1,(.lit (.string ⟨#[45]⟩))] H) λv6=>
 bO (Ai v6 0) λv7=>
 bO (Ai v6 1) λv8=>
 bG v8 true λw9=>
 gO w9 (some v7) λv10=>
 bG v8 true λw11=>
 gO w11 (SL .neq v10 (.lit (.string ⟨#[]⟩))) λv12=>
 bO (A7 v8 v12 (B false)) λv13=>
 bB v13 λt14=>bI t14 (
 bC (BCall prog 196 [a0,v7] H) λv15 H16=>
 K v15 H16)
 (bO (Af a0) λv17=>
 bO (Ac 2 v17) λv18=>
 bO (Ac 1 v18) λv19=>
 bO (Ar false 1 H v19) λv20=>
 bH (Cv H 1 1 (Bg [(.lit (.string ⟨#[]⟩))] 1) [(0,1,a1)]) λv21 H22=>
 bH (MJ 1 16 H22 v20 v21) λv23 H24=>
 bO (Af a0) λv25=>
 bO (Ac 2 v25) λv26=>
 bO (Ac 1 v26) λv27=>
 bS (AR 1 H24 v27 v23) λH28=>
 K (B true) H28))
theorem RO {a0 a1:AV}{H:AH}{K:KT}(h:OL a0 a1 H K):Cr 157 [a0,a1] H K:=
 fok A6 Hr BA func157 h
def Qk:Nat→Option (List Bool):=Ci [(7,mk 54 0 [0,4,9,10]),(4,mk 54 0 [0,4,9,10])]
def JG (p:List Bool)(n:Nat):List AV→AH→Kf→Prop:=AG prog A6 Hr Ap Ap Qk (sub p (AJ f156)) n
def Qh (R4:RT)(x0 x4 x9 x10:AV)(H:AH)(K:KT):Prop:=jn (mk 54 0 [0,4,9,10]) (JG [tT,tT,fF,tT,fF,fF,tT,tT,tT] 13) [x0,x4,x9,x10] H (Pp (mk 54 0 [0,4,9,10]) R4 (Bl 0 (Bn (JG [tT,tT,tT] 13) (Bc prog f156.results.toList K))))
def Qi (x0 x4 x9 x10:AV)(H:AH)(K:KT):Prop:=lp (mk 54 0 [0,4,9,10]) (JG [tT,tT,fF,tT,fF,fF] 5) [x0,x4,x9,x10] H (Bl 0 (Bn (JG [tT,tT,tT] 13) (Bc prog f156.results.toList K)))
def MR (R4:RT)(x0 x4 x9 x10:AV)(H:AH)(K:KT):Prop:=
 bO (Aq .lss x10 x9) λv0=>
 bB v0 λt1=>bI t1 (
 bO (TA x0 x10) λv2=>
 bO (Bf x4) λv3=>
 bO (Aq .sub v3 (I 1)) λv4=>
 bH (A9 H u0Z) λv5 H6=>
 bS (AR 1 H6 v5 v2) λH7=>
 bO (Ar false 1 H7 v5) λv8=>
 bP (PCall prog 191 [v8] H7) λv9=>
 bG v9 true λw10=>
 gO w10 (some x4) λv11=>
 bG v9 true λw12=>
 gO w12 (some (.fn (.func 193) [] [v5])) λv13=>
 bG v9 true λw14=>
 gC w14 (BCall prog 192 [v11,v13] H7) H7 λv15 H16=>
 bG v9 true λw17=>
 gO w17 (EX .not v15) λv18=>
 bO (A7 v9 v18 (B false)) λv19=>
 bB v19 λt20=>bI t20 (
 bO (Ar false 1 H16 v5) λv21=>
 bO (FD [u0Z,(B false)] [(0,1,v21)]) λv22=>
 bH (Cv H16 2 1 (Bg [u0Z,(B false)] 1) [(0,2,v22)]) λv23 H24=>
 bH (MJ 2 2 H24 x4 v23) λv25 H26=>
 Qh R4 x0 v25 x9 x10 H26 K)
 (bO (Ar false 1 H16 v5) λv27=>
 bO (Aq .eql v27 (.lit (.int .u8 58))) λv28=>
 bG v28 true λw29=>
 gO w29 (some v4) λv30=>
 bG v28 true λw31=>
 gO w31 (Aq .geq v30 (I 0)) λv32=>
 bO (A7 v28 v32 (B false)) λv33=>
 bG v33 true λw34=>
 gO w34 (some x4) λv35=>
 bG v33 true λw36=>
 gO w36 (some v4) λv37=>
 bG v33 true λw38=>
 gO w38 (Bh 2 v35 v37) λv39=>
 bG v33 true λw40=>
 gO w40 (Ac 1 v39) λv41=>
 bG v33 true λw42=>
 gO w42 (Ar false 1 H16 v41) λv43=>
 bG v33 true λw44=>
 gO w44 (EX .not v43) λv45=>
 bO (A7 v33 v45 (B false)) λv46=>
 bB v46 λt47=>bI t47 (
 bO (Bh 2 x4 v4) λv48=>
 bO (Ac 1 v48) λv49=>
 bS (AR 1 H16 v49 (B true)) λH50=>
 Qh R4 x0 x4 x9 x10 H50 K)
 (K (.tup [Ad,(B false)]) H16)))
 (K (.tup [x4,(B true)]) H)
theorem Qj {K:KT}:Xf (λR x0 x4 x9 x10 H=>MR R x0 x4 x9 x10 H K) (λx0 x4 x9 x10 H=>Qi x0 x4 x9 x10 H K):=MD (A4 _ _) (λ_ _ _ _ _ _=>by kernel_rfl)
def Ws (a0:AV)(H:AH)(K:KT):Prop:=
 bO (Ge a0) λv0=>
 Qi a0 Ad v0 (I 0) H K
theorem Xq {a0:AV}{H:AH}{K:KT}(h:Ws a0 H K):Cr 156 [a0] H K:=
 fok A6 Hr Qk func156 h
def Qg:Nat→Option (List Bool):=Ci [(6,mk 72 0 [4,8]),(7,mk 72 0 [4,8])]
def MQ (p:List Bool)(n:Nat):List AV→AH→Kf→Prop:=AG prog A6 Hr Ap Ap Qg (sub p (AJ f83)) n
def IC (x4 x8:AV)(H:AH)(K:KT):Prop:=jn (mk 72 0 [4,8]) (MQ [tT,tT,tT,tT,tT] 17) [x4,x8] H (Bc prog f83.results.toList K)
def Qe (x4 x8:AV)(H:AH)(K:KT):Prop:=lp (mk 72 0 [4,8]) (MQ [tT,tT,tT,tT,fF,fF,fF] 8) [x4,x8] H (Bl 0 (Bn (LQ (mk 72 0 [4,8]) (MQ [tT,tT,tT,tT,tT] 17)) (Bc prog f83.results.toList K)))
def MO (x4 x8:AV)(H:AH)(K:KT):Prop:=
 bO (Af x8) λv0=>
 bO (Ac 2 v0) λv1=>
 bO (Ar true 2 H v1) λv2=>
 bS (AR 2 H x4 v2) λH3=>
 bO (Ar true 2 H3 x4) λv4=>
 K (.tup [v4,(B true)]) H3
theorem TD (x4 x8:AV)(H:AH)(K:KT):IC x4 x8 H K=MO x4 x8 H K:=(Cx _ _ _ _ _).trans (by kernel_rfl)
def MP (R7:RT)(x4 x8:AV)(H:AH)(K:KT):Prop:=
 bO (Af x8) λv0=>
 bO (Ac 1 v0) λv1=>
 bO (Ar false 1 H v1) λv2=>
 bO (Bf v2) λv3=>
 bO (Aq .gtr v3 (I 0)) λv4=>
 bB v4 λt5=>bI t5 (
 bO (Af x8) λv6=>
 bO (Ac 1 v6) λv7=>
 bO (Ar false 1 H v7) λv8=>
 bO (Bh 1 v8 (I 0)) λv9=>
 bO (Ar false 1 H v9) λv10=>
 bO (Af x8) λv11=>
 bO (Ac 1 v11) λv12=>
 bO (Ar false 1 H v12) λv13=>
 bO (AW 1 v13 (some (I 1)) none none) λv14=>
 bO (Af x8) λv15=>
 bO (Ac 1 v15) λv16=>
 bS (AR 1 H v16 v14) λH17=>
 bO (SL .eql v10 (.lit (.string ⟨#[45,45]⟩))) λv18=>
 bB v18 λt19=>bI t19 (
 bO (Af x8) λv20=>
 bO (Ac 2 v20) λv21=>
 bO (Ac 1 v21) λv22=>
 bO (Ar false 1 H17 v22) λv23=>
 bO (Af x8) λv24=>
 bO (Ac 1 v24) λv25=>
 bO (Ar false 1 H17 v25) λv26=>
 bH (MJ 1 16 H17 v23 v26) λv27 H28=>
 bO (Af x8) λv29=>
 bO (Ac 2 v29) λv30=>
 bO (Ac 1 v30) λv31=>
 bS (AR 1 H28 v31 v27) λH32=>
 IC x4 x8 H32 K)
 (bC (BCall prog 157 [x8,v10] H17) λv33 H34=>
 bO (EX .not v33) λv35=>
 bB v35 λt36=>bI t36 (
 bO (FD [Ad,Ad] []) λv37=>
 bS (AR 2 H34 x4 v37) λH38=>
 bO (Ar true 2 H38 x4) λv39=>
 K (.tup [v39,(B false)]) H38)
 (R7 [x4,x8] H34)))
 (IC x4 x8 H K)
theorem Qf {K:KT}:xP (λR x4 x8 H=>MP R x4 x8 H K) (λx4 x8 H=>Qe x4 x8 H K):=tH (A4 _ _) (λ_ _ _ _=>by kernel_rfl)
def Wr (a0 a1:AV)(H:AH)(K:KT):Prop:=
 bH (A9 H (.agg [Ad,Ad])) λv0 H1=>
 bC (BCall prog 156 [a0] H1) λv2 H3=>
 bO (Ai v2 0) λv4=>
 bO (Ai v2 1) λv5=>
 bO (EX .not v5) λv6=>
 bG v6 false λw7=>
 gO w7 (some a1) λv8=>
 bG v6 false λw9=>
 gO w9 (Bf v8) λv10=>
 bG v6 false λw11=>
 gO w11 (Aq .gtr v10 (I 40)) λv12=>
 bO (A7 v6 (B true) v12) λv13=>
 bB v13 λt14=>bI t14 (
 bO (FD [Ad,Ad] []) λv15=>
 bS (AR 2 H3 v0 v15) λH16=>
 bO (Ar true 2 H16 v0) λv17=>
 K (.tup [v17,(B false)]) H16)
 (bO (FD [Ad,Ad,Ad,Ad] [(0,1,v4),(1,1,a1)]) λv18=>
 bH (A9 H3 v18) λv19 H20=>
 Qe v0 v19 H20 K)
theorem Xp {a0 a1:AV}{H:AH}{K:KT}(h:Wr a0 a1 H K):Cr 83 [a0,a1] H K:=
 fok A6 Hr Qg func83 h
def DU:Nat→Option (List Bool):=Ci [(3,mk 19 0 [0,1,7,8])]
def Ej (p:List Bool)(n:Nat):List AV→AH→Kf→Prop:=AG prog A6 Hr Ap Ap DU (sub p (AJ f198)) n
def DT (x0 x1 x7 x8:AV)(H:AH)(K:KT):Prop:=lp (mk 19 0 [0,1,7,8]) (Ej [tT,fF,tT,fF,fF] 4) [x0,x1,x7,x8] H (Bl 0 (Bn (Ej [tT,tT] 10) (Bc prog f198.results.toList K)))
def D4 (R3:RT)(x0 x1 x7 x8:AV)(H:AH)(K:KT):Prop:=
 bO (Aq .lss x8 x7) λv0=>
 bB v0 λt1=>bI t1 (
 bO (Bh 1 x0 x8) λv2=>
 bO (Ar false 1 H v2) λv3=>
 bO (SL .eql x1 v3) λv4=>
 bB v4 λt5=>bI t5 (
 K x8 H)
 (bO (Aq .add x8 (I 1)) λv6=>
 R3 [x0,x1,x7,v6] H))
 (K (I (-1)) H)
theorem F3 {K:KT}:Xf (λR x0 x1 x7 x8 H=>D4 R x0 x1 x7 x8 H K) (λx0 x1 x7 x8 H=>DT x0 x1 x7 x8 H K):=MD (A4 _ _) (λ_ _ _ _ _ _=>by kernel_rfl)
def EB (a0 a1:AV)(H:AH)(K:KT):Prop:=
 bO (Bf a0) λv0=>
 DT a0 a1 v0 (I 0) H K
theorem Hw {a0 a1:AV}{H:AH}{K:KT}(h:EB a0 a1 H K):Cr 198 [a0,a1] H K:=
 fok A6 Hr DU func198 h
def DS (a0 a1:AV)(H:AH)(K:KT):Prop:=
 bC (BCall prog 198 [a0,a1] H) λv0 H1=>
 bO (Aq .geq v0 (I 0)) λv2=>
 K v2 H1
theorem Gk {a0 a1:AV}{H:AH}{K:KT}(h:DS a0 a1 H K):Cr 160 [a0,a1] H K:=
 fok A6 Hr BA func160 h
def Uu (a0 a1:AV)(H:AH)(K:KT):Prop:=
 bH (A9 H a0) λv0 H1=>
 bO (Ar false 1 H1 a1) λv2=>
 bO (Ac 0 v0) λv3=>
 bO (Ar false 1 H1 v3) λv4=>
 bC (BCall prog 160 [v2,v4] H1) λv5 H6=>
 bO (EX .not v5) λv7=>
 K v7 H6
theorem VT {a0 a1:AV}{H:AH}{K:KT}(h:Uu a0 a1 H K):Cr 159 [a0,a1] H K:=
 fok A6 Hr BA func159 h
def CU:Nat→Option (List Bool):=Ci [(3,mk 19 0 [0,1,7,8])]
def Dd (p:List Bool)(n:Nat):List AV→AH→Kf→Prop:=AG prog A6 Hr Ap Ap CU (sub p (AJ f197)) n
def CT (x0 x1 x7 x8:AV)(H:AH)(K:KT):Prop:=lp (mk 19 0 [0,1,7,8]) (Dd [tT,fF,tT,fF,fF] 4) [x0,x1,x7,x8] H (Bl 0 (Bn (Dd [tT,tT] 10) (Bc prog f197.results.toList K)))
def CA (R3:RT)(x0 x1 x7 x8:AV)(H:AH)(K:KT):Prop:=
 bO (Aq .lss x8 x7) λv0=>
 bB v0 λt1=>bI t1 (
 bO (Bh 2 x0 x8) λv2=>
 bO (Ar true 2 H v2) λv3=>
 bF true x1 λk6 f6 c6=>
 bT (B1 prog k6||!true)<|
 bC (BCall prog k6 (f6++[v3]++c6) H) λv4 H5=>
 bB v4 λt7=>bI t7 (
 K x8 H5)
 (bO (Aq .add x8 (I 1)) λv8=>
 R3 [x0,x1,x7,v8] H5))
 (K (I (-1)) H)
theorem Ey {K:KT}:Xf (λR x0 x1 x7 x8 H=>CA R x0 x1 x7 x8 H K) (λx0 x1 x7 x8 H=>CT x0 x1 x7 x8 H K):=MD (A4 _ _) (λ_ _ _ _ _ _=>by kernel_rfl)
def Dp (a0 a1:AV)(H:AH)(K:KT):Prop:=
 bO (Bf a0) λv0=>
 CT a0 a1 v0 (I 0) H K
theorem Fm {a0 a1:AV}{H:AH}{K:KT}(h:Dp a0 a1 H K):Cr 197 [a0,a1] H K:=
 fok A6 Hr CU func197 h
def CP (a0 a1:AV)(H:AH)(K:KT):Prop:=
 bC (BCall prog 197 [a0,a1] H) λv0 H1=>
 bO (Aq .geq v0 (I 0)) λv2=>
 K v2 H1
theorem ED {a0 a1:AV}{H:AH}{K:KT}(h:CP a0 a1 H K):Cr 158 [a0,a1] H K:=
 fok A6 Hr BA func158 h
def Yx (a0 a1:AV)(H:AH)(K:KT):Prop:=
 bH (A9 H a1) λv0 H1=>
 bC (BCall prog 158 [a0,(.fn (.func 159) [] [v0])] H1) λv2 H3=>
 bO (EX .not v2) λv4=>
 K v4 H3
theorem Yy {a0 a1:AV}{H:AH}{K:KT}(h:Yx a0 a1 H K):Cr 84 [a0,a1] H K:=
 fok A6 Hr BA func84 h
def Rr:Nat→Option (List Bool):=Ci [(3,mk 18 0 [0,3])]
def Tw (p:List Bool)(n:Nat):List AV→AH→Kf→Prop:=AG prog A6 Hr Ap Ap Rr (sub p (AJ f199)) n
def Rp (x0 x3:AV)(H:AH)(K:KT):Prop:=lp (mk 18 0 [0,3]) (Tw [tT,tT,fF,fF,fF] 4) [x0,x3] H (Bl 0 (Bn (Tw [tT,tT,tT] 6) (Bc prog f199.results.toList K)))
def NI (R3:RT)(x0 x3:AV)(H:AH)(K:KT):Prop:=
 bO (Bf x0) λv0=>
 bO (Aq .lss x3 v0) λv1=>
 bG v1 true λw2=>
 gO w2 (some x0) λv3=>
 bG v1 true λw4=>
 gO w4 (some x3) λv5=>
 bG v1 true λw6=>
 gO w6 (Bh 1 v3 v5) λv7=>
 bG v1 true λw8=>
 gO w8 (Ar false 1 H v7) λv9=>
 bG v1 true λw10=>
 gO w10 (Aq .eql v9 u0Z) λv11=>
 bO (A7 v1 v11 (B false)) λv12=>
 bB v12 λt13=>bI t13 (
 bO (Aq .add x3 (I 1)) λv14=>
 R3 [x0,v14] H)
 (K x3 H)
theorem Rq {K:KT}:xP (λR x0 x3 H=>NI R x0 x3 H K) (λx0 x3 H=>Rp x0 x3 H K):=tH (A4 _ _) (λ_ _ _ _=>by kernel_rfl)
def WV (a0:AV)(H:AH)(K:KT):Prop:=
 Rp a0 (I 0) H K
theorem XR {a0:AV}{H:AH}{K:KT}(h:WV a0 H K):Cr 199 [a0] H K:=
 fok A6 Hr Rr func199 h
def Rw:Nat→Option (List Bool):=Ci [(3,mk 17 0 [5,6,7])]
def Ty (p:List Bool)(n:Nat):List AV→AH→Kf→Prop:=AG prog A6 Hr Ap Ap Rw (sub p (AJ f162)) n
def Rt (x5 x6 x7:AV)(H:AH)(K:KT):Prop:=lp (mk 17 0 [5,6,7]) (Ty [tT,fF,tT,fF,fF] 4) [x5,x6,x7] H (Bl 0 (Bn (Ty [tT,tT] 10) (Bc prog f162.results.toList K)))
def Ju (R3:RT)(x5 x6 x7:AV)(H:AH)(K:KT):Prop:=
 bO (Aq .lss x7 x6) λv0=>
 bB v0 λt1=>bI t1 (
 bO (Bh 1 x5 x7) λv2=>
 bO (Ar false 1 H v2) λv3=>
 bC (BCall prog 199 [v3] H) λv4 H5=>
 bO (Bf v3) λv6=>
 bO (Aq .lss v4 v6) λv7=>
 bB v7 λt8=>bI t8 (
 K (B false) H5)
 (bO (Aq .add x7 (I 1)) λv9=>
 R3 [x5,x6,v9] H5))
 (K (B true) H)
theorem Ru {K:KT}:uO (λR x5 x6 x7 H=>Ju R x5 x6 x7 H K) (λx5 x6 x7 H=>Rt x5 x6 x7 H K):=lL (A4 _ _) (λ_ _ _ _ _=>by kernel_rfl)
def WW (a0:AV)(H:AH)(K:KT):Prop:=
 bO (Bf a0) λv0=>
 Rt a0 v0 (I 0) H K
theorem XS {a0:AV}{H:AH}{K:KT}(h:WW a0 H K):Cr 162 [a0] H K:=
 fok A6 Hr Rw func162 h
def SX:Nat→Option (List Bool):=Ci [(8,mk 69 0 [4,6,41,42,43])]
def U8 (p:List Bool)(n:Nat):List AV→AH→Kf→Prop:=AG prog A6 Hr Ap Ap SX (sub p (AJ f38)) n
def SU (x4 x6 x41 x42 x43:AV)(H:AH)(K:KT):Prop:=lp (mk 69 0 [4,6,41,42,43]) (U8 [tT,tT,tT,tT,fF,tT,fF,fF] 9) [x4,x6,x41,x42,x43] H (Bl 0 (Bn (U8 [tT,tT,tT,tT,tT] 16) (Bc prog f38.results.toList K)))
def OX (R8:RT)(x4 x6 x41 x42 x43:AV)(H:AH)(K:KT):Prop:=
 bO (Aq .lss x43 x42) λv0=>
 bB v0 λt1=>bI t1 (
 bO (Bh 2 x41 x43) λv2=>
 bO (Ar true 2 H v2) λv3=>
 bH (A9 H (.agg [(.lit (.string ⟨#[]⟩)),(.lit (.string ⟨#[]⟩))])) λv4 H5=>
 bS (AR 2 H5 v4 v3) λH6=>
 bO (Ac 1 v4) λv7=>
 bO (Ar false 1 H6 v7) λv8=>
 bO (SL .neq v8 (.lit (.string ⟨#[97,117,116,111]⟩))) λv9=>
 bG v9 true λw10=>
 gO w10 (some v8) λv11=>
 bG v9 true λw12=>
 gO w12 (SL .neq v11 (.lit (.string ⟨#[97,108,119,97,121,115]⟩))) λv13=>
 bO (A7 v9 v13 (B false)) λv14=>
 bG v14 true λw15=>
 gO w15 (some v8) λv16=>
 bG v14 true λw17=>
 gO w17 (SL .neq v16 (.lit (.string ⟨#[110,101,118,101,114]⟩))) λv18=>
 bO (A7 v14 v18 (B false)) λv19=>
 bB v19 λt20=>bI t20 (
 K (.tup [(.lit (.string ⟨#[]⟩)),(.lit (.string ⟨#[]⟩)),(.lit (.string ⟨#[]⟩)),(B false)]) H6)
 (bO (Aq .add x43 (I 1)) λv21=>
 R8 [v8,x6,x41,x42,v21] H6))
 (bO (Ac 1 x6) λv22=>
 bO (Ar false 1 H v22) λv23=>
 bO (Bh 1 v23 (I 0)) λv24=>
 bO (Ar false 1 H v24) λv25=>
 bO (Ac 1 x6) λv26=>
 bO (Ar false 1 H v26) λv27=>
 bO (Bh 1 v27 (I 1)) λv28=>
 bO (Ar false 1 H v28) λv29=>
 K (.tup [v25,v29,x4,(B true)]) H)
theorem Sf {K:KT}:nH (λR x4 x6 x41 x42 x43 H=>OX R x4 x6 x41 x42 x43 H K) (λx4 x6 x41 x42 x43 H=>SU x4 x6 x41 x42 x43 H K):=XF (A4 _ _) (λ_ _ _ _ _ _ _=>by kernel_rfl)
def YI (a0:AV)(H:AH)(K:KT):Prop:=
 bC (BCall prog 83 [(.lit (.string ⟨#[]⟩)),a0] H) λv0 H1=>
 bO (Ai v0 0) λv2=>
 bO (Ai v0 1) λv3=>
 bH (A9 H1 (.agg [Ad,Ad])) λv4 H5=>
 bS (AR 2 H5 v4 v2) λH6=>
 bO (EX .not v3) λv7=>
 bG v7 false λw8=>
 gO w8 (Ac 1 v4) λv9=>
 bG v7 false λw10=>
 gO w10 (Ar false 1 H6 v9) λv11=>
 bG v7 false λw12=>
 gO w12 (Bf v11) λv13=>
 bG v7 false λw14=>
 gO w14 (Aq .neq v13 (I 2)) λv15=>
 bO (A7 v7 (B true) v15) λv16=>
 bG v16 false λw17=>
 gO w17 (Ac 1 v4) λv18=>
 bG v16 false λw19=>
 gO w19 (Ar false 1 H6 v18) λv20=>
 bG v16 false λw21=>
 gO w21 (Bh 1 v20 (I 0)) λv22=>
 bG v16 false λw23=>
 gO w23 (Ar false 1 H6 v22) λv24=>
 bG v16 false λw25=>
 gO w25 (Ac 1 v4) λv26=>
 bG v16 false λw27=>
 gO w27 (Ar false 1 H6 v26) λv28=>
 bG v16 false λw29=>
 gO w29 (Bh 1 v28 (I 1)) λv30=>
 bG v16 false λw31=>
 gO w31 (Ar false 1 H6 v30) λv32=>
 bG v16 false λw33=>
 gO w33 (SL .eql v24 v32) λv34=>
 bO (A7 v16 (B true) v34) λv35=>
 bG v35 false λw36=>
 gO w36 (Ac 0 v4) λv37=>
 bG v35 false λw38=>
 gO w38 (Ar false 1 H6 v37) λv39=>
 bG v35 false λw40=>
 gO w40 (T8 1 1 (Bg [(.lit (.string ⟨#[]⟩))] 1) [(0,1,(.lit (.string ⟨#[115,112,97,114,115,101]⟩)))]) λv41=>
 bG v35 false λw42=>
 gC w42 (BCall prog 84 [v39,v41] H6) H6 λv43 H44=>
 bG v35 false λw45=>
 gO w45 (EX .not v43) λv46=>
 bO (A7 v35 (B true) v46) λv47=>
 bB v47 λt48=>bI t48 (
 K (.tup [(.lit (.string ⟨#[]⟩)),(.lit (.string ⟨#[]⟩)),(.lit (.string ⟨#[]⟩)),(B false)]) H44)
 (bO (Ac 0 v4) λv49=>
 bO (Ar false 1 H44 v49) λv50=>
 bO (Bf v50) λv51=>
 SU (.lit (.string ⟨#[97,117,116,111]⟩)) v4 v50 v51 (I 0) H44 K)
theorem YJ {a0:AV}{H:AH}{K:KT}(h:YI a0 H K):Cr 38 [a0] H K:=
 fok A6 Hr SX func38 h
def OU:Nat→Option (List Bool):=Ci [(3,mk 23 0 [1,4,9,10,11])]
def Qv (p:List Bool)(n:Nat):List AV→AH→Kf→Prop:=AG prog A6 Hr Ap Ap OU (sub p (AJ f85)) n
def OT (x1 x4 x9 x10 x11:AV)(H:AH)(K:KT):Prop:=lp (mk 23 0 [1,4,9,10,11]) (Qv [tT,fF,tT,fF,fF] 4) [x1,x4,x9,x10,x11] H (Bl 0 (Bn (Qv [tT,tT] 10) (Bc prog f85.results.toList K)))
def Mi (R3:RT)(x1 x4 x9 x10 x11:AV)(H:AH)(K:KT):Prop:=
 bO (Aq .lss x11 x10) λv0=>
 bB v0 λt1=>bI t1 (
 bO (Bh 3 x9 x11) λv2=>
 bO (Ar true 3 H v2) λv3=>
 bH (A9 H (.agg [(I 0),(I 0),Ad])) λv4 H5=>
 bS (AR 3 H5 v4 v3) λH6=>
 bO (Ac 0 v4) λv7=>
 bO (Ar false 1 H6 v7) λv8=>
 bO (Aq .eql v8 x1) λv9=>
 bB v9 λt10=>bI t10 (
 bO (Ac 1 v4) λv11=>
 bO (Ar true 2 H6 v11) λv12=>
 bS (AR 2 H6 x4 v12) λH13=>
 bO (Ar true 2 H13 x4) λv14=>
 K v14 H13)
 (bO (Aq .add x11 (I 1)) λv15=>
 R3 [x1,x4,x9,x10,v15] H6))
 (bO (FD [(I 0),Ad] []) λv16=>
 bS (AR 2 H x4 v16) λH17=>
 bO (Ar true 2 H17 x4) λv18=>
 K v18 H17)
theorem P3 {K:KT}:nH (λR x1 x4 x9 x10 x11 H=>Mi R x1 x4 x9 x10 x11 H K) (λx1 x4 x9 x10 x11 H=>OT x1 x4 x9 x10 x11 H K):=XF (A4 _ _) (λ_ _ _ _ _ _ _=>by kernel_rfl)
def U7 (a0 a1:AV)(H:AH)(K:KT):Prop:=
 bH (A9 H (.agg [(I 0),Ad])) λv0 H1=>
 bC (BCall prog 14 [a0] H1) λv2 H3=>
 bO (Yv false 1 1 v2) λv4=>
 bO (Bf v4) λv5=>
 OT a1 v0 v4 v5 (I 0) H3 K
theorem VV {a0 a1:AV}{H:AH}{K:KT}(h:U7 a0 a1 H K):Cr 85 [a0,a1] H K:=
 fok A6 Hr OU func85 h
def ST:Nat→Option (List Bool):=Ci [(3,mk 26 0 [1,6,7,8])]
def U6 (p:List Bool)(n:Nat):List AV→AH→Kf→Prop:=AG prog A6 Hr Ap Ap ST (sub p (AJ f86)) n
def SS (x1 x6 x7 x8:AV)(H:AH)(K:KT):Prop:=lp (mk 26 0 [1,6,7,8]) (U6 [tT,fF,tT,fF,fF] 4) [x1,x6,x7,x8] H (Bl 0 (Bn (U6 [tT,tT] 10) (Bc prog f86.results.toList K)))
def OS (R3:RT)(x1 x6 x7 x8:AV)(H:AH)(K:KT):Prop:=
 bO (Aq .lss x8 x7) λv0=>
 bB v0 λt1=>bI t1 (
 bO (Bh 9 x6 x8) λv2=>
 bO (Ar true 9 H v2) λv3=>
 bH (A9 H (.agg [(I 0),u0Z,u0Z,u0Z,u0Z,u0Z,u0Z,u0Z,u0Z])) λv4 H5=>
 bS (AR 9 H5 v4 v3) λH6=>
 bO (Ac 0 v4) λv7=>
 bO (Ar false 1 H6 v7) λv8=>
 bO (Aq .mul v8 (I 8)) λv9=>
 bO (Ac 0 x1) λv10=>
 bO (Ar false 1 H6 v10) λv11=>
 bO (Aq .geq v9 v11) λv12=>
 bB v12 λt13=>bI t13 (
 bO (Ac 1 x1) λv14=>
 bO (Ar false 1 H6 v14) λv15=>
 bO (AW 9 v15 none (some x8) none) λv16=>
 K v16 H6)
 (bO (Aq .add x8 (I 1)) λv17=>
 R3 [x1,x6,x7,v17] H6))
 (bO (Ac 1 x1) λv18=>
 bO (Ar false 1 H v18) λv19=>
 K v19 H)
theorem Sc {K:KT}:Xf (λR x1 x6 x7 x8 H=>OS R x1 x6 x7 x8 H K) (λx1 x6 x7 x8 H=>SS x1 x6 x7 x8 H K):=MD (A4 _ _) (λ_ _ _ _ _ _=>by kernel_rfl)
def YE (a0:AV)(H:AH)(K:KT):Prop:=
 bH (A9 H a0) λv0 H1=>
 bO (Ac 1 v0) λv2=>
 bO (Ar false 1 H1 v2) λv3=>
 bO (Bf v3) λv4=>
 SS v0 v3 v4 (I 0) H1 K
theorem YF {a0:AV}{H:AH}{K:KT}(h:YE a0 H K):Cr 86 [a0] H K:=
 fok A6 Hr ST func86 h
def YG (a0:AV)(H:AH)(K:KT):Prop:=
 bO (Aq .add a0 (I 8)) λv0=>
 bO (Aq .sub v0 (I 1)) λv1=>
 bO (Aq .quo v1 (I 8)) λv2=>
 K v2 H
theorem YH {a0:AV}{H:AH}{K:KT}(h:YG a0 H K):Cr 87 [a0] H K:=
 fok A6 Hr BA func87 h
def Mk (a0 a1 a2:AV)(H:AH)(K:KT):Prop:=
 bO (Af a0) λv0=>
 bO (Ac 0 v0) λv1=>
 bO (Ar false 1 H v1) λv2=>
 bO (Af a0) λv3=>
 bO (Ac 2 v3) λv4=>
 bO (Ar false 1 H v4) λv5=>
 bO (Aq .mul a1 (I 8)) λv6=>
 bO (Af a0) λv7=>
 bO (Ac 3 v7) λv8=>
 bO (Ac 0 v8) λv9=>
 bO (Ar false 1 H v9) λv10=>
 bO (Aq .mul a1 (I 8)) λv11=>
 bO (Aq .sub v10 v11) λv12=>
 bO (amm XA [(I 8),v12]) λv13=>
 bO (AW 1 a2 none (some v13) none) λv14=>
 bC (BCall prog 44 [v2,v5,v6,v14] H) λv15 H16=>
 bO (Ai v15 0) λv17=>
 bO (Ai v15 1) λv18=>
 K v18 H16
theorem P5 {a0 a1 a2:AV}{H:AH}{K:KT}(h:Mk a0 a1 a2 H K):Cr 161 [a0,a1,a2] H K:=
 fok A6 Hr BA func161 h
def Jd:Nat→Option (List Bool):=Ci [(6,mk 30 0 [0,10,11,12]),(3,mk 30 0 [0,10,11,12])]
def E8 (p:List Bool)(n:Nat):List AV→AH→Kf→Prop:=AG prog A6 Hr Ap Ap Jd (sub p (AJ f90)) n
def FF (R3:RT)(x0 x10 x11 x12:AV)(H:AH)(K:KT):Prop:=jn (mk 30 0 [0,10,11,12]) (E8 [tT,fF,tT,fF,fF,tT,tT,tT] 13) [x0,x10,x11,x12] H (Pp (mk 30 0 [0,10,11,12]) R3 (Bl 0 (Bn (E8 [tT,tT] 13) (Bc prog f90.results.toList K))))
def Jc (x0 x10 x11 x12:AV)(H:AH)(K:KT):Prop:=lp (mk 30 0 [0,10,11,12]) (E8 [tT,fF,tT,fF,fF] 4) [x0,x10,x11,x12] H (Bl 0 (Bn (E8 [tT,tT] 13) (Bc prog f90.results.toList K)))
def EK (R3:RT)(x0 x10 x11 x12:AV)(H:AH)(K:KT):Prop:=
 bO (Aq .add x12 (I 1)) λv0=>
 R3 [x0,x10,x11,v0] H
theorem GP (R3:RT)(x0 x10 x11 x12:AV)(H:AH)(K:KT):FF R3 x0 x10 x11 x12 H K=EK R3 x0 x10 x11 x12 H K:=(Cx _ _ _ _ _).trans (by kernel_rfl)
def HJ (R3:RT)(x0 x10 x11 x12:AV)(H:AH)(K:KT):Prop:=
 bO (Aq .lss x12 x11) λv0=>
 bB v0 λt1=>bI t1 (
 bO (Bh 9 x10 x12) λv2=>
 bO (Ar true 9 H v2) λv3=>
 bH (A9 H (.agg [(I 0),u0Z,u0Z,u0Z,u0Z,u0Z,u0Z,u0Z,u0Z])) λv4 H5=>
 bS (AR 9 H5 v4 v3) λH6=>
 bO (Ac 1 v4) λv7=>
 bO (LO 8 1 H6 v7 none none) λv8=>
 bH (Cv H6 1 1 (Bg [Ad] 1) [(0,1,v8)]) λv9 H10=>
 bC (BCall prog 162 [v9] H10) λv11 H12=>
 bB v11 λt13=>bI t13 (
 FF R3 x0 x10 x11 x12 H12 K)
 (bO (Ac 0 v4) λv14=>
 bO (Ar false 1 H12 v14) λv15=>
 bO (Ac 1 v4) λv16=>
 bO (LO 8 1 H12 v16 none none) λv17=>
 bC (BCall prog 161 [x0,v15,v17] H12) λv18 H19=>
 bO (Aq .neq v18 (I 0)) λv20=>
 bB v20 λt21=>bI t21 (
 K v18 H19)
 (FF R3 x0 x10 x11 x12 H19 K)))
 (K (I 0) H)
theorem KI {K:KT}:Xf (λR x0 x10 x11 x12 H=>HJ R x0 x10 x11 x12 H K) (λx0 x10 x11 x12 H=>Jc x0 x10 x11 x12 H K):=MD (A4 _ _) (λ_ _ _ _ _ _=>by kernel_rfl)
def Mj (a0:AV)(H:AH)(K:KT):Prop:=
 bO (Af a0) λv0=>
 bO (Ac 3 v0) λv1=>
 bO (Ar true 2 H v1) λv2=>
 bC (BCall prog 86 [v2] H) λv3 H4=>
 bO (Bf v3) λv5=>
 Jc a0 v3 v5 (I 0) H4 K
theorem P4 {a0:AV}{H:AH}{K:KT}(h:Mj a0 H K):Cr 90 [a0] H K:=
 fok A6 Hr Jd func90 h
def KG:C0:=KX [(7,[(5,some 6)])]
def KH:Nat→Option (List Bool):=Ci [(7,mk 46 0 [0,3,17,18]),(13,mk 46 0 [0,3,6,17,18,43]),(12,mk 46 0 [0,3,6,17,18]),(10,mk 46 0 [0,3,4,5,17,18]),(4,mk 46 0 [0,3,17,18])]
def Bj (p:List Bool)(n:Nat):List AV→AH→Kf→Prop:=AG prog KG Hr Ap Ap KH (sub p (AJ f89)) n
def KE (R4:RT)(x0 x3 x17 x18:AV)(H:AH)(K:KT):Prop:=jn (mk 46 0 [0,3,17,18]) (Bj [tT,tT,fF,tT,fF,fF,tT,tT,tT] 15) [x0,x3,x17,x18] H (Pp (mk 46 0 [0,3,17,18]) R4 (Bl 0 (Bn (Bj [tT,tT,tT] 15) (Bc prog f89.results.toList K))))
def JK (R4:RT)(x0 x3 x6 x17 x18 x43:AV)(H:AH)(K:KT):Prop:=jn (mk 46 0 [0,3,6,17,18,43]) (Bj [tT,tT,fF,tT,fF,fF,tT,tT,fF,fF,tT,tT,tT,tT,tT] 14) [x0,x3,x6,x17,x18,x43] H (Bl 1 (Bn (LQ (mk 46 0 [0,3,17,18]) (Bj [tT,tT,fF,tT,fF,fF,tT,tT,tT] 15)) (Pp (mk 46 0 [0,3,17,18]) R4 (Bl 0 (Bn (Bj [tT,tT,tT] 15) (Bc prog f89.results.toList K))))))
def JJ (R4:RT)(x0 x3 x6 x17 x18:AV)(H:AH)(K:KT):Prop:=jn (mk 46 0 [0,3,6,17,18]) (Bj [tT,tT,fF,tT,fF,fF,tT,tT,fF,fF,tT,tT,tT,tT] 13) [x0,x3,x6,x17,x18] H (Bl 1 (Bn (LQ (mk 46 0 [0,3,17,18]) (Bj [tT,tT,fF,tT,fF,fF,tT,tT,tT] 15)) (Pp (mk 46 0 [0,3,17,18]) R4 (Bl 0 (Bn (Bj [tT,tT,tT] 15) (Bc prog f89.results.toList K))))))
def E7 (R4:RT)(x0 x3 x4 x5 x17 x18:AV)(H:AH)(K:KT):Prop:=jn (mk 46 0 [0,3,4,5,17,18]) (Bj [tT,tT,fF,tT,fF,fF,tT,tT,fF,fF,tT,tT,tT] 12) [x0,x3,x4,x5,x17,x18] H (Bl 1 (Bn (LQ (mk 46 0 [0,3,17,18]) (Bj [tT,tT,fF,tT,fF,fF,tT,tT,tT] 15)) (Pp (mk 46 0 [0,3,17,18]) R4 (Bl 0 (Bn (Bj [tT,tT,tT] 15) (Bc prog f89.results.toList K))))))
def KF (x0 x3 x17 x18:AV)(H:AH)(K:KT):Prop:=lp (mk 46 0 [0,3,17,18]) (Bj [tT,tT,fF,tT,fF,fF] 5) [x0,x3,x17,x18] H (Bl 0 (Bn (Bj [tT,tT,tT] 15) (Bc prog f89.results.toList K)))
def Ja (R4:RT)(x0 x3 x17 x18:AV)(H:AH)(K:KT):Prop:=
 bO (Aq .add x18 (I 1)) λv0=>
 R4 [x0,x3,x17,v0] H
theorem O1 (R4:RT)(x0 x3 x17 x18:AV)(H:AH)(K:KT):KE R4 x0 x3 x17 x18 H K=Ja R4 x0 x3 x17 x18 H K:=(Cx _ _ _ _ _).trans (by kernel_rfl)
def Ir (R4:RT)(x0 x3 x6 x17 x18 x43:AV)(H:AH)(K:KT):Prop:=
 bB x43 λt0=>bI t0 (
 K x6 H)
 (KE R4 x0 x3 x17 x18 H K)
theorem Nb (R4:RT)(x0 x3 x6 x17 x18 x43:AV)(H:AH)(K:KT):JK R4 x0 x3 x6 x17 x18 x43 H K=Ir R4 x0 x3 x6 x17 x18 x43 H K:=(Cx _ _ _ _ _).trans (by kernel_rfl)
def Iq (R4:RT)(x0 x3 x6 x17 x18:AV)(H:AH)(K:KT):Prop:=
 bO (Aq .neq x6 (I 0)) λv0=>
 JK R4 x0 x3 x6 x17 x18 v0 H K
theorem Na (R4:RT)(x0 x3 x6 x17 x18:AV)(H:AH)(K:KT):JJ R4 x0 x3 x6 x17 x18 H K=Iq R4 x0 x3 x6 x17 x18 H K:=(Cx _ _ _ _ _).trans (by kernel_rfl)
def Ip (R4:RT)(x0 x3 x4 x5 x17 x18:AV)(H:AH)(K:KT):Prop:=
 bO (LO 8 1 H x5 none none) λv0=>
 bC (BCall prog 161 [x0,x4,v0] H) λv1 H2=>
 JJ R4 x0 x3 v1 x17 x18 H2 K
theorem MZ (R4:RT)(x0 x3 x4 x5 x17 x18:AV)(H:AH)(K:KT):E7 R4 x0 x3 x4 x5 x17 x18 H K=Ip R4 x0 x3 x4 x5 x17 x18 H K:=(Cx _ _ _ _ _).trans (by kernel_rfl)
def Jb (R4:RT)(x0 x3 x17 x18:AV)(H:AH)(K:KT):Prop:=
 bO (Aq .lss x18 x17) λv0=>
 bB v0 λt1=>bI t1 (
 bH (A9 H (.agg [u0Z,u0Z,u0Z,u0Z,u0Z,u0Z,u0Z,u0Z])) λv2 H3=>
 bO (Bf x3) λv4=>
 bO (Aq .gtr v4 (I 0)) λv5=>
 bG v5 true λw6=>
 gO w6 (some x3) λv7=>
 bG v5 true λw8=>
 gO w8 (Bh 9 v7 (I 0)) λv9=>
 bG v5 true λw10=>
 gO w10 (Ac 0 v9) λv11=>
 bG v5 true λw12=>
 gO w12 (Ar false 1 H3 v11) λv13=>
 bG v5 true λw14=>
 gO w14 (some x18) λv15=>
 bG v5 true λw16=>
 gO w16 (Aq .eql v13 v15) λv17=>
 bO (A7 v5 v17 (B false)) λv18=>
 bB v18 λt19=>bI t19 (
 bO (Bh 9 x3 (I 0)) λv20=>
 bO (Ac 1 v20) λv21=>
 bO (Ar true 8 H3 v21) λv22=>
 bO (AW 9 x3 (some (I 1)) none none) λv23=>
 bS (AR 8 H3 v2 v22) λH24=>
(AW 9 x3 (some (I 1)) none none=some v23)∧
 E7 R4 x0 v23 x18 v2 x17 x18 H24 K)
 (E7 R4 x0 x3 x18 v2 x17 x18 H3 K))
 (K (I 0) H)
theorem M8 {K:KT}:Xf (λR x0 x3 x17 x18 H=>Jb R x0 x3 x17 x18 H K) (λx0 x3 x17 x18 H=>KF x0 x3 x17 x18 H K):=MD (A4 _ _) (λ_ _ _ _ _ _=>by kernel_rfl)
def OV (a0:AV)(H:AH)(K:KT):Prop:=
 bO (Af a0) λv0=>
 bO (Ac 3 v0) λv1=>
 bO (Ar true 2 H v1) λv2=>
 bC (BCall prog 86 [v2] H) λv3 H4=>
 bO (Af a0) λv5=>
 bO (Ac 3 v5) λv6=>
 bO (Ac 0 v6) λv7=>
 bO (Ar false 1 H4 v7) λv8=>
 bP (PCall prog 87 [v8] H4) λv9=>
 KF a0 v3 v9 (I 0) H4 K
theorem Sd {a0:AV}{H:AH}{K:KT}(h:OV a0 H K):Cr 89 [a0] H K:=
 fok KG Hr KH func89 h
def Nc (a0 a1:AV)(H:AH)(K:KT):Prop:=
 bO (Af a0) λv0=>
 bO (Ac 0 v0) λv1=>
 bO (Ar false 1 H v1) λv2=>
 bC (BCall prog 18 [v2,a1,(B true)] H) λv3 H4=>
 bO (Ai v3 0) λv5=>
 bO (Ai v3 1) λv6=>
 bO (Aq .neq v6 (I 0)) λv7=>
 bB v7 λt8=>bI t8 (
 K v6 H4)
 (bO (Af a0) λv9=>
 bO (Ac 2 v9) λv10=>
 bS (AR 1 H4 v10 v5) λH11=>
 bO (Af a0) λv12=>
 bO (Ac 0 v12) λv13=>
 bO (Ar false 1 H11 v13) λv14=>
 bC (BCall prog 19 [v14,v5,(I 0)] H11) λv15 H16=>
 K v15 H16)
theorem Qw {a0 a1:AV}{H:AH}{K:KT}(h:Nc a0 a1 H K):Cr 88 [a0,a1] H K:=
 fok A6 Hr BA func88 h
def KJ:C0:=KX [(5,[(16,none)])]
def KK:Nat→Option (List Bool):=Ci [(17,mk 101 0 [0]),(19,mk 101 0 [0,12,85]),(18,mk 101 0 [0,12]),(15,mk 101 0 [0,11])]
def Dr (p:List Bool)(n:Nat):List AV→AH→Kf→Prop:=AG prog KJ Hr Ap Ap KK (sub p (AJ f39)) n
def JL (x0:AV)(H:AH)(K:KT):Prop:=jn (mk 101 0 [0]) (Dr [tT,tT,tT,tT,tT,tT,tT,tT,tT] 21) [x0] H (Bc prog f39.results.toList K)
def JM (x0 x12 x85:AV)(H:AH)(K:KT):Prop:=jn (mk 101 0 [0,12,85]) (Dr [tT,tT,tT,tT,tT,tT,tT,tT,fF,tT,tT] 20) [x0,x12,x85] H (Bn (LQ (mk 101 0 [0]) (Dr [tT,tT,tT,tT,tT,tT,tT,tT,tT] 21)) (Bc prog f39.results.toList K))
def Gu (x0 x12:AV)(H:AH)(K:KT):Prop:=jn (mk 101 0 [0,12]) (Dr [tT,tT,tT,tT,tT,tT,tT,tT,fF,tT] 19) [x0,x12] H (Bn (LQ (mk 101 0 [0]) (Dr [tT,tT,tT,tT,tT,tT,tT,tT,tT] 21)) (Bc prog f39.results.toList K))
def Dv (x0 x11:AV)(H:AH)(K:KT):Prop:=jn (mk 101 0 [0,11]) (Dr [tT,tT,tT,tT,tT,tT,tT,tT] 17) [x0,x11] H (Bc prog f39.results.toList K)
def Is (x0:AV)(H:AH)(K:KT):Prop:=
 bO (Af x0) λv0=>
 bO (Ac 0 v0) λv1=>
 bO (Ar false 1 H v1) λv2=>
 bO (Af x0) λv3=>
 bO (Ac 2 v3) λv4=>
 bO (Ar false 1 H v4) λv5=>
 bO (Af x0) λv6=>
 bO (Ac 3 v6) λv7=>
 bO (Ac 0 v7) λv8=>
 bO (Ar false 1 H v8) λv9=>
 bC (BCall prog 19 [v2,v5,v9] H) λv10 H11=>
 K v10 H11
theorem Nf (x0:AV)(H:AH)(K:KT):JL x0 H K=Is x0 H K:=(Cx _ _ _ _ _).trans (by kernel_rfl)
def Iu (x0 x12 x85:AV)(H:AH)(K:KT):Prop:=
 bB x85 λt0=>bI t0 (
 K x12 H)
 (JL x0 H K)
theorem Nh (x0 x12 x85:AV)(H:AH)(K:KT):JM x0 x12 x85 H K=Iu x0 x12 x85 H K:=(Cx _ _ _ _ _).trans (by kernel_rfl)
def It (x0 x12:AV)(H:AH)(K:KT):Prop:=
 bO (Aq .neq x12 (I 0)) λv0=>
 JM x0 x12 v0 H K
theorem Ng (x0 x12:AV)(H:AH)(K:KT):Gu x0 x12 H K=It x0 x12 H K:=(Cx _ _ _ _ _).trans (by kernel_rfl)
def Fk (x0 x11:AV)(H:AH)(K:KT):Prop:=
 bF true x11 λk2 f2 c2=>
 bT (B1 prog k2||!true)<|
 bC (BCall prog k2 (f2++[]++c2) H) λv0 H1=>
 Gu x0 v0 H1 K
theorem HK (x0 x11:AV)(H:AH)(K:KT):Dv x0 x11 H K=Fk x0 x11 H K:=(Cx _ _ _ _ _).trans (by kernel_rfl)
def OW (a0 a1 a2:AV)(H:AH)(K:KT):Prop:=
 bO (Af a0) λv0=>
 bO (Ac 0 v0) λv1=>
 bO (Ar false 1 H v1) λv2=>
 bO (Af a0) λv3=>
 bO (Ac 1 v3) λv4=>
 bO (Ar false 1 H v4) λv5=>
 bC (BCall prog 60 [v2,v5] H) λv6 H7=>
 bO (Ai v6 0) λv8=>
 bO (Ai v6 1) λv9=>
 bO (Aq .neq v9 (I 0)) λv10=>
 bB v10 λt11=>bI t11 (
 K v9 H7)
 (bO (Af a0) λv12=>
 bO (Ac 0 v12) λv13=>
 bO (Ar false 1 H7 v13) λv14=>
 bO (Af a0) λv15=>
 bO (Ac 1 v15) λv16=>
 bO (Ar false 1 H7 v16) λv17=>
 bC (BCall prog 85 [v14,v17] H7) λv18 H19=>
 bO (Af a0) λv20=>
 bO (Ac 3 v20) λv21=>
 bS (AR 2 H19 v21 v18) λH22=>
 bO (SL .eql a2 (.lit (.string ⟨#[97,108,119,97,121,115]⟩))) λv23=>
 bG v23 false λw24=>
 gO w24 (some a2) λv25=>
 bG v23 false λw26=>
 gO w26 (SL .eql v25 (.lit (.string ⟨#[97,117,116,111]⟩))) λv27=>
 bG v23 false λw28=>
 gO w28 (some v27) λv29=>
 bG v29 true λw30=>
 gO w30 (some a0) λv31=>
 bG v29 true λw32=>
 gO w32 (Af v31) λv33=>
 bG v29 true λw34=>
 gO w34 (Ac 3 v33) λv35=>
 bG v29 true λw36=>
 gO w36 (Ar true 2 H22 v35) λv37=>
 bG v29 true λw38=>
 gC w38 (BCall prog 86 [v37] H22) H22 λv39 H40=>
 bG v29 true λw41=>
 gO w41 (Bf v39) λv42=>
 bG v29 true λw43=>
 gO w43 (some a0) λv44=>
 bG v29 true λw45=>
 gO w45 (Af v44) λv46=>
 bG v29 true λw47=>
 gO w47 (Ac 3 v46) λv48=>
 bG v29 true λw49=>
 gO w49 (Ac 0 v48) λv50=>
 bG v29 true λw51=>
 gO w51 (Ar false 1 H40 v50) λv52=>
 bG v29 true λw53=>
 gP w53 (BPure prog 87 [v52]) λv54=>
 bG v29 true λw55=>
 gO w55 (Aq .lss v42 v54) λv56=>
 bG v23 false λw57=>
 gO w57 (A7 v29 v56 (B false)) λv58=>
 bO (A7 v23 (B true) v58) λv59=>
(bG v29 true λw=>bI w (Ar false 1 H22 v50=some v52) True)∧
 bO (EX .not v59) λv60=>
 bG v60 true λw61=>
 gO w61 (some a0) λv62=>
 bG v60 true λw63=>
 gO w63 (Af v62) λv64=>
 bG v60 true λw65=>
 gO w65 (Ac 3 v64) λv66=>
 bG v60 true λw67=>
 gO w67 (Ac 0 v66) λv68=>
 bG v60 true λw69=>
 gO w69 (Ar false 1 H40 v68) λv70=>
 bG v60 true λw71=>
 gO w71 (Aq .gtr v70 (I 32768)) λv72=>
 bO (A7 v60 v72 (B false)) λv73=>
 bB v73 λt74=>bI t74 (
 K (I 4) H40)
 (bC (BCall prog 88 [a0,a1] H40) λv75 H76=>
 bO (Aq .neq v75 (I 0)) λv77=>
 bB v77 λt78=>bI t78 (
 K v75 H76)
 (bB v59 λt79=>bI t79 (
 Dv a0 (.fn (.func 90) [a0] []) H76 K)
 (Dv a0 (.fn (.func 89) [a0] []) H76 K))))
theorem Se {a0 a1 a2:AV}{H:AH}{K:KT}(h:OW a0 a1 a2 H K):Cr 39 [a0,a1,a2] H K:=
 fok KJ Hr KK func39 h
def kH (a0 a1:AV)(H:AH)(K:KT):Prop:=
 bH (A9 H (.agg [(I 0),(.lit (.string ⟨#[]⟩)),(I 0),(I 0),(I 0),(I 0),(I 0)])) λv0 H1=>
 bC (BCall prog 38 [a1] H1) λv2 H3=>
 bO (Ai v2 0) λv4=>
 bO (Ai v2 1) λv5=>
 bO (Ai v2 2) λv6=>
 bO (Ai v2 3) λv7=>
 bO (EX .not v7) λv8=>
 bB v8 λt9=>bI t9 (
 bO (FD [(I 0),(.lit (.string ⟨#[]⟩)),(I 0),(I 0),(I 0),(I 0),(I 0)] [(0,1,(I 2))]) λv10=>
 bS (AR 7 H3 v0 v10) λH11=>
 bO (Ar true 7 H11 v0) λv12=>
 K v12 H11)
 (bC (BCall prog 18 [a0,v4,(B false)] H3) λv13 H14=>
 bO (Ai v13 0) λv15=>
 bO (Ai v13 1) λv16=>
 bO (Aq .neq v16 (I 0)) λv17=>
 bB v17 λt18=>bI t18 (
 bO (FD [(I 0),(.lit (.string ⟨#[]⟩)),(I 0),(I 0),(I 0),(I 0),(I 0)] [(0,1,v16)]) λv19=>
 bS (AR 7 H14 v0 v19) λH20=>
 bO (Ar true 7 H20 v0) λv21=>
 K v21 H20)
 (bO (FD [(.lit (.pointer none)),(I 0),(I 0),(I 0),Ad] [(0,1,a0),(1,1,v15)]) λv22=>
 bH (A9 H14 v22) λv23 H24=>
 bC (BCall prog 39 [v23,v5,v6] H24) λv25 H26=>
 bO (FD [(I 0),(.lit (.string ⟨#[]⟩)),(I 0),(I 0),(I 0),(I 0),(I 0)] [(0,1,v25)]) λv27=>
 bS (AR 7 H26 v0 v27) λH28=>
 bO (Ar true 7 H28 v0) λv29=>
 K v29 H28))
theorem fH {a0 a1:AV}{H:AH}{K:KT}(h:kH a0 a1 H K):Cr 12 [a0,a1] H K:=
 fok A6 Hr BA func12 h
def GU:Nat→Option (List Bool):=Ci [(17,mk 68 0 [0,4,5,6,7,8,9,10]),(14,mk 68 0 [0,4,5,6,7,8,9,10]),(5,mk 68 0 [0,4,5,6,7])]
def Bb (p:List Bool)(n:Nat):List AV→AH→Kf→Prop:=AG prog A6 Hr Ap Ap GU (sub p (AJ f16)) n
def CX (R14:RT)(R5:RT)(x0 x4 x5 x6 x7 x8 x9 x10:AV)(H:AH)(K:KT):Prop:=jn (mk 68 0 [0,4,5,6,7,8,9,10]) (Bb [tT,tT,tT,fF,tT,fF,fF,tT,fF,fF,tT,tT,tT,fF,tT,fF,fF,tT,tT] 19) [x0,x4,x5,x6,x7,x8,x9,x10] H (Pp (mk 68 0 [0,4,5,6,7,8,9,10]) R14 (Bl 2 (Bn (Bb [tT,tT,tT,fF,tT,fF,fF,tT,fF,fF,tT,tT,tT,tT] 19) (Bl 1 (Bn (Bb [tT,tT,tT,fF,tT,fF,fF,tT,tT] 19) (Pp (mk 68 0 [0,4,5,6,7]) R5 (Bl 0 (Bn (Bb [tT,tT,tT,tT] 19) (Bc prog f16.results.toList K)))))))))
def G9 (R5:RT)(x0 x4 x5 x6 x7 x8 x9 x10:AV)(H:AH)(K:KT):Prop:=lp (mk 68 0 [0,4,5,6,7,8,9,10]) (Bb [tT,tT,tT,fF,tT,fF,fF,tT,fF,fF,tT,tT,tT,fF,tT,fF,fF] 15) [x0,x4,x5,x6,x7,x8,x9,x10] H (Bl 2 (Bn (Bb [tT,tT,tT,fF,tT,fF,fF,tT,fF,fF,tT,tT,tT,tT] 19) (Bl 1 (Bn (Bb [tT,tT,tT,fF,tT,fF,fF,tT,tT] 19) (Pp (mk 68 0 [0,4,5,6,7]) R5 (Bl 0 (Bn (Bb [tT,tT,tT,tT] 19) (Bc prog f16.results.toList K))))))))
def GT (x0 x4 x5 x6 x7:AV)(H:AH)(K:KT):Prop:=lp (mk 68 0 [0,4,5,6,7]) (Bb [tT,tT,tT,fF,tT,fF,fF] 6) [x0,x4,x5,x6,x7] H (Bl 0 (Bn (Bb [tT,tT,tT,tT] 19) (Bc prog f16.results.toList K)))
def Ft (R14:RT)(R5:RT)(x0 x4 x5 x6 x7 x8 x9 x10:AV)(H:AH)(K:KT):Prop:=
 bO (Aq .add x10 (I 1)) λv0=>
 R14 [x0,x4,x5,x6,x7,x8,x9,v0] H
theorem JB (R14:RT)(R5:RT)(x0 x4 x5 x6 x7 x8 x9 x10:AV)(H:AH)(K:KT):CX R14 R5 x0 x4 x5 x6 x7 x8 x9 x10 H K=Ft R14 R5 x0 x4 x5 x6 x7 x8 x9 x10 H K:=(Cx _ _ _ _ _).trans (by kernel_rfl)
def Fu (R5:RT)(R14:RT)(x0 x4 x5 x6 x7 x8 x9 x10:AV)(H:AH)(K:KT):Prop:=
 bO (Aq .lss x10 (I 8)) λv0=>
 bB v0 λt1=>bI t1 (
 bO (Aq .mul x6 (I 8)) λv2=>
 bO (Aq .add v2 x10) λv3=>
 bO (Ac 0 x5) λv4=>
 bO (Ar false 1 H v4) λv5=>
 bO (Aq .lss v3 v5) λv6=>
 bB v6 λt7=>bI t7 (
 bO (Bh 1 x9 x10) λv8=>
 bO (Ar false 1 H v8) λv9=>
 bO (Ac 1 x8) λv10=>
 bO (TB 8 1 v10 x10) λv11=>
 bS (AR 1 H v11 v9) λH12=>
 CX R14 R5 x0 x4 x5 x6 x7 x8 x9 x10 H12 K)
 (CX R14 R5 x0 x4 x5 x6 x7 x8 x9 x10 H K))
 (bO (Ac 1 x5) λv13=>
 bO (Ar false 1 H v13) λv14=>
 bO (Ar true 9 H x8) λv15=>
 bH (Cv H 9 1 (Bg [(I 0),u0Z,u0Z,u0Z,u0Z,u0Z,u0Z,u0Z,u0Z] 1) [(0,9,v15)]) λv16 H17=>
 bH (MJ 9 16 H17 v14 v16) λv18 H19=>
 bO (Ac 1 x5) λv20=>
 bS (AR 1 H19 v20 v18) λH21=>
 bO (Aq .add x7 (I 1)) λv22=>
 R5 [x0,x4,x5,x6,v22] H21)
theorem IG (R5:RT){K:KT}:yK (λR x0 x4 x5 x6 x7 x8 x9 x10 H=>Fu R5 R x0 x4 x5 x6 x7 x8 x9 x10 H K) (λx0 x4 x5 x6 x7 x8 x9 x10 H=>G9 R5 x0 x4 x5 x6 x7 x8 x9 x10 H K):=wW (A4 _ _) (λ_ _ _ _ _ _ _ _ _ _=>by kernel_rfl)
def FO (R5:RT)(x0 x4 x5 x6 x7:AV)(H:AH)(K:KT):Prop:=
 bO (Bf x0) λv0=>
 bO (Aq .lss x7 v0) λv1=>
 bG v1 true λw2=>
 gO w2 (some x7) λv3=>
 bG v1 true λw4=>
 gO w4 (Aq .lss v3 (I 30)) λv5=>
 bO (A7 v1 v5 (B false)) λv6=>
 bB v6 λt7=>bI t7 (
 bO (Aq .add x6 (I 1)) λv8=>
 bO (Bh 2 x0 x7) λv9=>
 bO (Ac 0 v9) λv10=>
 bO (Ar false 1 H v10) λv11=>
 bO (Aq .rem v11 (.lit (.int .u8 3))) λv12=>
 bO (RI .i64 v12) λv13=>
 bO (Aq .add v8 v13) λv14=>
 bO (FD [(I 0),u0Z,u0Z,u0Z,u0Z,u0Z,u0Z,u0Z,u0Z] [(0,1,v14)]) λv15=>
 bH (A9 H (.agg [(I 0),u0Z,u0Z,u0Z,u0Z,u0Z,u0Z,u0Z,u0Z])) λv16 H17=>
 bS (AR 9 H17 v16 v15) λH18=>
 bO (Bh 2 x0 x7) λv19=>
 bO (Ac 1 v19) λv20=>
 bO (Ar false 1 H18 v20) λv21=>
 bP (PCall prog 45 [v21,(I 8)] H18) λv22=>
 G9 R5 x0 x4 x5 v14 x7 v16 v22 (I 0) H18 K)
 (bO (Ar true 2 H x5) λv23=>
 bS (AR 2 H x4 v23) λH24=>
 bO (Ar true 2 H24 x4) λv25=>
 K v25 H24)
theorem Jw {K:KT}:nH (λR x0 x4 x5 x6 x7 H=>FO R x0 x4 x5 x6 x7 H K) (λx0 x4 x5 x6 x7 H=>GT x0 x4 x5 x6 x7 H K):=XF (A4 _ _) (λ_ _ _ _ _ _ _=>by kernel_rfl)
def Jv (a0 a1:AV)(H:AH)(K:KT):Prop:=
 bH (A9 H (.agg [(I 0),Ad])) λv0 H1=>
 bO (Aq .rem a1 (.lit (.int .u16 500))) λv2=>
 bO (RI .i64 v2) λv3=>
 bO (FD [(I 0),Ad] [(0,1,v3)]) λv4=>
 bH (A9 H1 (.agg [(I 0),Ad])) λv5 H6=>
 bS (AR 2 H6 v5 v4) λH7=>
 GT a0 v0 v5 (I (-1)) (I 0) H7 K
theorem MF {a0 a1:AV}{H:AH}{K:KT}(h:Jv a0 a1 H K):Cr 16 [a0,a1] H K:=
 fok A6 Hr GU func16 h
def Lq (a0 a1 a2:AV)(H:AH)(K:KT):Prop:=
 bC (BCall prog 46 [a1] H) λv0 H1=>
 bC (BCall prog 46 [a2] H1) λv2 H3=>
 bH (Cv H3 1 2 (Bg [(.lit (.string ⟨#[]⟩))] 2) [(0,1,v0),(1,1,v2)]) λv4 H5=>
 bO (Aq .rem a0 (.lit (.int .u8 4))) λv6=>
 bO (Aq .eql v6 (.lit (.int .u8 1))) λv7=>
 bB v7 λt8=>bI t8 (
 bH (Cv H5 1 1 (Bg [(.lit (.string ⟨#[]⟩))] 1) [(0,1,(.lit (.string ⟨#[45,45,115,112,97,114,115,101,61,97,108,119,97,121,115]⟩)))]) λv9 H10=>
 bH (MJ 1 16 H10 v9 v4) λv11 H12=>
 K v11 H12)
 (bO (Aq .eql v6 (.lit (.int .u8 2))) λv13=>
 bB v13 λt14=>bI t14 (
 bH (Cv H5 1 1 (Bg [(.lit (.string ⟨#[]⟩))] 1) [(0,1,(.lit (.string ⟨#[45,45,115,112,97,114,115,101,61,110,101,118,101,114]⟩)))]) λv15 H16=>
 bH (MJ 1 16 H16 v4 v15) λv17 H18=>
 K v17 H18)
 (bO (Aq .eql v6 (.lit (.int .u8 3))) λv19=>
 bB v19 λt20=>bI t20 (
 bH (Cv H5 1 2 (Bg [(.lit (.string ⟨#[]⟩))] 2) [(0,1,(.lit (.string ⟨#[45,45,115,112,97,114,115,101,61,110,101,118,101,114]⟩))),(1,1,(.lit (.string ⟨#[45,45,115,112,97,114,115,101,61,97,117,116,111]⟩)))]) λv21 H22=>
 bH (MJ 1 16 H22 v4 v21) λv23 H24=>
 K v23 H24)
 (K v4 H5)))
theorem OB {a0 a1 a2:AV}{H:AH}{K:KT}(h:Lq a0 a1 a2 H K):Cr 17 [a0,a1,a2] H K:=
 fok A6 Hr BA func17 h
def I1:Nat→Option (List Bool):=Ci [(8,mk 71 0 [2,4,8,9,10,11])]
def I2:Nat→Bool:=TR []
def Jx (p:List Bool)(n:Nat):List AV→AH→Kf→Prop:=AG prog A6 Hr tV I2 I1 (sub p (AJ f15)) n
def I0 (x2 x4 x8 x9 x10 x11:AV)(H:AH)(K:KT):Prop:=lp (mk 71 0 [2,4,8,9,10,11]) (Jx [tT,tT,tT,tT,fF,tT,fF,fF] 9) [x2,x4,x8,x9,x10,x11] H (Bl 0 (Bn (Jx [tT,tT,tT,tT,tT] 12) (Bc prog f15.results.toList K)))
def Hb (R8:RT)(x2 x4 x8 x9 x10 x11:AV)(H:AH)(K:KT):Prop:=
 bO (Ac 1 x4) λv0=>
 bO (Ar false 1 H v0) λv1=>
 bO (Bf v1) λv2=>
 bO (Aq .lss x11 v2) λv3=>
 bG v3 true λw4=>
 gO w4 (some x10) λv5=>
 bG v3 true λw6=>
 gO w6 (Aq .eql v5 (I 0)) λv7=>
 bO (A7 v3 v7 (B false)) λv8=>
 bB v8 λt9=>bI t9 (
 bO (Ac 1 x4) λv10=>
 bO (Ar false 1 H v10) λv11=>
 bO (Bh 9 v11 x11) λv12=>
 bO (Ac 0 v12) λv13=>
 bO (Ar false 1 H v13) λv14=>
 bO (Aq .mul v14 (I 8)) λv15=>
 bO (Ac 1 x4) λv16=>
 bO (Ar false 1 H v16) λv17=>
 bO (Bh 9 v17 x11) λv18=>
 bO (Ac 1 v18) λv19=>
 bO (LO 8 1 H v19 none none) λv20=>
 bC (BCall prog 44 [x8,x9,v15,v20] H) λv21 H22=>
 bO (Ai v21 0) λv23=>
 bO (Ai v21 1) λv24=>
 bO (Aq .add x11 (I 1)) λv25=>
 R8 [x2,x4,x8,x9,v24,v25] H22)
 (bO (Ac 0 x4) λv26=>
 bO (Ar false 1 H v26) λv27=>
 bC (BCall prog 19 [x8,x9,v27] H) λv28 H29=>
 bO (Aq .eql x10 (I 0)) λv30=>
 bG v30 true λw31=>
 gO w31 (some v28) λv32=>
 bG v30 true λw33=>
 gO w33 (Aq .eql v32 (I 0)) λv34=>
 bO (A7 v30 v34 (B false)) λv35=>
 bG v35 true λw36=>
 gO w36 (some x8) λv37=>
 bG v35 true λw38=>
 gO w38 (some x2) λv39=>
 bG v35 true λw40=>
 gH w40 (Cv H29 1 1 (Bg [Ad] 1) [(0,1,v39)]) H29 λv41 H42=>
 bG v35 true λw43=>
 gA w43 (ACalls prog 11 [v37,(.lit (.string ⟨#[98]⟩)),v41] H42) H42 λv44 H45=>
 bG v35 true λw46=>
 gO w46 (Aq .eql v44 (I 0)) λv47=>
 bO (A7 v35 v47 (B false)) λv48=>
 K (.tup [x8,v48]) H45)
theorem Kz {K:KT}:nS (λR x2 x4 x8 x9 x10 x11 H=>Hb R x2 x4 x8 x9 x10 x11 H K) (λx2 x4 x8 x9 x10 x11 H=>I0 x2 x4 x8 x9 x10 x11 H K):=yQ (D8 _ _) (λ_ _ _ _ _ _ _ _=>by kernel_rfl)
def Ht (a0 a1 a2:AV)(H:AH)(K:KT):Prop:=
 bH (A9 H a1) λv0 H1=>
 bC (BCall prog 10 [a0] H1) λv2 H3=>
 bO (VM .eql S6 v2 (.lit (.pointer none))) λv4=>
 bB v4 λt5=>bI t5 (
 K (.tup [(.lit (.pointer none)),(B false)]) H3)
 (bC (BCall prog 18 [v2,(.lit (.string ⟨#[97]⟩)),(B true)] H3) λv6 H7=>
 bO (Ai v6 0) λv8=>
 bO (Ai v6 1) λv9=>
 I0 a2 v0 v2 v8 v9 (I 0) H7 K)
theorem OC (a0 a1 a2:AV)(H:AH)(K:KT):O8 prog A6 Hr tV I2 I1 f15 [a0,a1,a2] H K=Ht a0 a1 a2 H K:=by kernel_rfl
theorem OD {a0 a1 a2:AV}{H:AH}{K:KT}(h:Ht a0 a1 a2 H K):ACalls prog 15 [a0,a1,a2] H K:=
 G7 Lg func15 (by kernel_rfl) (Eq.mpr (OC a0 a1 a2 H K) h)
def MI:Nat→Bool:=TR []
def FJ (H:AH)(K:KT):Prop:=
 bC (BCall prog 10 [(I 9)] H) λv0 H1=>
 bO (VM .eql S6 v0 (.lit (.pointer none))) λv2=>
 bG v2 false λw3=>
 gO w3 (some v0) λv4=>
 bG v2 false λw5=>
 gH w5 (qM 1 1 [u0Z] H1 (I 20) (I 20)) H1 λv6 H7=>
 bG v2 false λw8=>
 gH w8 (Cv H7 1 1 (Bg [Ad] 1) [(0,1,v6)]) H7 λv9 H10=>
 bG v2 false λw11=>
 gA w11 (ACalls prog 11 [v4,(.lit (.string ⟨#[97]⟩)),v9] H10) H10 λv12 H13=>
 bG v2 false λw14=>
 gO w14 (Aq .neq v12 (I 0)) λv15=>
 bO (A7 v2 (B true) v15) λv16=>
 bB v16 λt17=>bI t17 (
 K (B false) H13)
 (bH (Cv H13 1 3 (Bg [(.lit (.string ⟨#[]⟩))] 3) [(0,1,(.lit (.string ⟨#[45,45,115,112,97,114,115,101,61,97,108,119,97,121,115]⟩))),(1,1,(.lit (.string ⟨#[97]⟩))),(2,1,(.lit (.string ⟨#[98]⟩)))]) λv18 H19=>
 bC (BCall prog 12 [v0,v18] H19) λv20 H21=>
 bH (A9 H21 (.agg [(I 0),(.lit (.string ⟨#[]⟩)),(I 0),(I 0),(I 0),(I 0),(I 0)])) λv22 H23=>
 bS (AR 7 H23 v22 v20) λH24=>
 bC (BCall prog 14 [v0] H24) λv25 H26=>
 bP (PCall prog 13 [v25,(I 2)] H26) λv27=>
 bO (Ai v27 0) λv28=>
 bO (Ai v27 1) λv29=>
 bH (A9 H26 (.agg [(I 0),Ad])) λv30 H31=>
 bS (AR 2 H31 v30 v28) λH32=>
 bH (Cv H32 1 1 (Bg [(.lit (.string ⟨#[]⟩))] 1) [(0,1,(.lit (.string ⟨#[97]⟩)))]) λv33 H34=>
 bC (BCall prog 12 [v0,v33] H34) λv35 H36=>
 bH (A9 H36 (.agg [(I 0),(.lit (.string ⟨#[]⟩)),(I 0),(I 0),(I 0),(I 0),(I 0)])) λv37 H38=>
 bS (AR 7 H38 v37 v35) λH39=>
 bO (Ac 0 v22) λv40=>
 bO (Ar false 1 H39 v40) λv41=>
 bO (Aq .eql v41 (I 0)) λv42=>
 bG v42 true λw43=>
 gO w43 (some v29) λv44=>
 bO (A7 v42 v44 (B false)) λv45=>
 bG v45 true λw46=>
 gO w46 (Ac 0 v30) λv47=>
 bG v45 true λw48=>
 gO w48 (Ar false 1 H39 v47) λv49=>
 bG v45 true λw50=>
 gO w50 (Aq .eql v49 (I 20)) λv51=>
 bO (A7 v45 v51 (B false)) λv52=>
 bG v52 true λw53=>
 gO w53 (Ac 1 v30) λv54=>
 bG v52 true λw55=>
 gO w55 (Ar false 1 H39 v54) λv56=>
 bG v52 true λw57=>
 gO w57 (Bf v56) λv58=>
 bG v52 true λw59=>
 gO w59 (Aq .eql v58 (I 0)) λv60=>
 bO (A7 v52 v60 (B false)) λv61=>
 bG v61 true λw62=>
 gO w62 (Ac 0 v37) λv63=>
 bG v61 true λw64=>
 gO w64 (Ar false 1 H39 v63) λv65=>
 bG v61 true λw66=>
 gO w66 (Aq .eql v65 (I 2)) λv67=>
 bO (A7 v61 v67 (B false)) λv68=>
 K v68 H39)
theorem MG (H:AH)(K:KT):O8 prog A6 Hr tV MI BA f3 [] H K=FJ H K:=by kernel_rfl
theorem MH {H:AH}{K:KT}(h:FJ H K):ACalls prog 3 [] H K:=
 G7 Lg func3 (by kernel_rfl) (Eq.mpr (MG H K) h)
def HY:Nat→Option (List Bool):=Ci [(16,mk 101 0 [7,8,12,14,15]),(17,mk 101 0 [7,8,12,14,15,64]),(13,mk 101 0 [2,7,8,12,14,15]),(14,mk 101 0 [2,7,8,12,14,15,61]),(12,mk 101 0 [2,7,8,10,11,12,14,15]),(11,mk 101 0 [2,7,8,10,11,12,13,14]),(10,mk 101 0 [2,7,8,10,11,12]),(9,mk 101 0 [2,7,8,10,11]),(8,mk 101 0 [2,7,8,9,10]),(6,mk 101 0 [2,7,8])]
def AS (p:List Bool)(n:Nat):List AV→AH→Kf→Prop:=AG prog A6 Hr Ap Ap HY (sub p (AJ f5)) n
def GZ (x7 x8 x12 x14 x15:AV)(H:AH)(K:KT):Prop:=jn (mk 101 0 [7,8,12,14,15]) (AS [tT,tT,tT,tT,tT,tT,tT,tT,tT,tT,tT,tT] 19) [x7,x8,x12,x14,x15] H (Bc prog f5.results.toList K)
def Ha (x7 x8 x12 x14 x15 x64:AV)(H:AH)(K:KT):Prop:=jn (mk 101 0 [7,8,12,14,15,64]) (AS [tT,tT,tT,tT,tT,tT,tT,tT,tT,tT,tT,fF,tT] 18) [x7,x8,x12,x14,x15,x64] H (Bn (LQ (mk 101 0 [7,8,12,14,15]) (AS [tT,tT,tT,tT,tT,tT,tT,tT,tT,tT,tT,tT] 19)) (Bc prog f5.results.toList K))
def GX (x2 x7 x8 x12 x14 x15:AV)(H:AH)(K:KT):Prop:=jn (mk 101 0 [2,7,8,12,14,15]) (AS [tT,tT,tT,tT,tT,tT,tT,tT,tT,tT,tT] 16) [x2,x7,x8,x12,x14,x15] H (Bc prog f5.results.toList K)
def GY (x2 x7 x8 x12 x14 x15 x61:AV)(H:AH)(K:KT):Prop:=jn (mk 101 0 [2,7,8,12,14,15,61]) (AS [tT,tT,tT,tT,tT,tT,tT,tT,tT,tT,fF,tT] 15) [x2,x7,x8,x12,x14,x15,x61] H (Bn (LQ (mk 101 0 [2,7,8,12,14,15]) (AS [tT,tT,tT,tT,tT,tT,tT,tT,tT,tT,tT] 16)) (Bc prog f5.results.toList K))
def GW (x2 x7 x8 x10 x11 x12 x14 x15:AV)(H:AH)(K:KT):Prop:=jn (mk 101 0 [2,7,8,10,11,12,14,15]) (AS [tT,tT,tT,tT,tT,tT,tT,tT,tT,tT] 13) [x2,x7,x8,x10,x11,x12,x14,x15] H (Bc prog f5.results.toList K)
def GV (x2 x7 x8 x10 x11 x12 x13 x14:AV)(H:AH)(K:KT):Prop:=jn (mk 101 0 [2,7,8,10,11,12,13,14]) (AS [tT,tT,tT,tT,tT,tT,tT,tT,tT] 12) [x2,x7,x8,x10,x11,x12,x13,x14] H (Bc prog f5.results.toList K)
def E5 (x2 x7 x8 x10 x11 x12:AV)(H:AH)(K:KT):Prop:=jn (mk 101 0 [2,7,8,10,11,12]) (AS [tT,tT,tT,tT,tT,tT,tT,tT] 11) [x2,x7,x8,x10,x11,x12] H (Bc prog f5.results.toList K)
def HX (x2 x7 x8 x10 x11:AV)(H:AH)(K:KT):Prop:=jn (mk 101 0 [2,7,8,10,11]) (AS [tT,tT,tT,tT,tT,tT,tT] 10) [x2,x7,x8,x10,x11] H (Bc prog f5.results.toList K)
def HW (x2 x7 x8 x9 x10:AV)(H:AH)(K:KT):Prop:=jn (mk 101 0 [2,7,8,9,10]) (AS [tT,tT,tT,tT,tT,tT] 9) [x2,x7,x8,x9,x10] H (Bc prog f5.results.toList K)
def Dy (x2 x7 x8:AV)(H:AH)(K:KT):Prop:=jn (mk 101 0 [2,7,8]) (AS [tT,tT,tT,tT,tT] 8) [x2,x7,x8] H (Bc prog f5.results.toList K)
def FV (x7 x8 x12 x14 x15:AV)(H:AH)(K:KT):Prop:=
 bO (Ac 0 x12) λv0=>
 bO (Ar false 1 H v0) λv1=>
 bO (Aq .eql v1 (I 0)) λv2=>
 bG v2 true λw3=>
 gO w3 (some x14) λv4=>
 bO (A7 v2 v4 (B false)) λv5=>
 bG v5 true λw6=>
 gO w6 (Ac 0 x15) λv7=>
 bG v5 true λw8=>
 gO w8 (Ar false 1 H v7) λv9=>
 bG v5 true λw10=>
 gO w10 (some x8) λv11=>
 bG v5 true λw12=>
 gO w12 (Aq .eql v9 v11) λv13=>
 bO (A7 v5 v13 (B false)) λv14=>
 bG v14 true λw15=>
 gO w15 (Ac 1 x15) λv16=>
 bG v14 true λw17=>
 gO w17 (Ar false 1 H v16) λv18=>
 bG v14 true λw19=>
 gO w19 (Bf v18) λv20=>
 bG v14 true λw21=>
 gO w21 (Aq .eql v20 (I 0)) λv22=>
 bO (A7 v14 v22 (B false)) λv23=>
 bG v23 true λw24=>
 gO w24 (some x7) λv25=>
 bG v23 true λw26=>
 gC w26 (BCall prog 21 [v25] H) H λv27 H28=>
 bG v23 true λw29=>
 gO w29 (Aq .eql v27 (I 20)) λv30=>
 bO (A7 v23 v30 (B false)) λv31=>
 bG v31 true λw32=>
 gC w32 (BCall prog 3 [] H28) H28 λv33 H34=>
 bO (A7 v31 v33 (B false)) λv35=>
 K v35 H34
theorem Kx (x7 x8 x12 x14 x15:AV)(H:AH)(K:KT):GZ x7 x8 x12 x14 x15 H K=FV x7 x8 x12 x14 x15 H K:=(Cx _ _ _ _ _).trans (by kernel_rfl)
def FX (x7 x8 x12 x14 x15 x64:AV)(H:AH)(K:KT):Prop:=
 bB x64 λt0=>bI t0 (
 bO (Ac 0 x12) λv1=>
 bO (Ar false 1 H v1) λv2=>
 bO (Aq .eql v2 (I 4)) λv3=>
 bG v3 true λw4=>
 gO w4 (some x14) λv5=>
 bG v3 true λw6=>
 gO w6 (EX .not v5) λv7=>
 bO (A7 v3 v7 (B false)) λv8=>
 bG v8 true λw9=>
 gC w9 (BCall prog 3 [] H) H λv10 H11=>
 bO (A7 v8 v10 (B false)) λv12=>
 K v12 H11)
 (GZ x7 x8 x12 x14 x15 H K)
theorem Ky (x7 x8 x12 x14 x15 x64:AV)(H:AH)(K:KT):Ha x7 x8 x12 x14 x15 x64 H K=FX x7 x8 x12 x14 x15 x64 H K:=(Cx _ _ _ _ _).trans (by kernel_rfl)
def FT (x2 x7 x8 x12 x14 x15:AV)(H:AH)(K:KT):Prop:=
 bO (Aq .rem x2 (.lit (.int .u8 4))) λv0=>
 bO (Aq .eql v0 (.lit (.int .u8 2))) λv1=>
 Ha x7 x8 x12 x14 x15 v1 H K
theorem Kv (x2 x7 x8 x12 x14 x15:AV)(H:AH)(K:KT):GX x2 x7 x8 x12 x14 x15 H K=FT x2 x7 x8 x12 x14 x15 H K:=(Cx _ _ _ _ _).trans (by kernel_rfl)
def FU (x2 x7 x8 x12 x14 x15 x61:AV)(H:AH)(K:KT):Prop:=
 bB x61 λt0=>bI t0 (
 K (B false) H)
 (GX x2 x7 x8 x12 x14 x15 H K)
theorem Kw (x2 x7 x8 x12 x14 x15 x61:AV)(H:AH)(K:KT):GY x2 x7 x8 x12 x14 x15 x61 H K=FU x2 x7 x8 x12 x14 x15 x61 H K:=(Cx _ _ _ _ _).trans (by kernel_rfl)
def FS (x2 x7 x8 x10 x11 x12 x14 x15:AV)(H:AH)(K:KT):Prop:=
 bO (Aq .neq x10 (I 0)) λv0=>
 bG v0 false λw1=>
 gO w1 (some x11) λv2=>
 bG v0 false λw3=>
 gO w3 (Aq .neq v2 (I 0)) λv4=>
 bO (A7 v0 (B true) v4) λv5=>
 GY x2 x7 x8 x12 x14 x15 v5 H K
theorem Ku (x2 x7 x8 x10 x11 x12 x14 x15:AV)(H:AH)(K:KT):GW x2 x7 x8 x10 x11 x12 x14 x15 H K=FS x2 x7 x8 x10 x11 x12 x14 x15 H K:=(Cx _ _ _ _ _).trans (by kernel_rfl)
def FQ (x2 x7 x8 x10 x11 x12 x13 x14:AV)(H:AH)(K:KT):Prop:=
 bC (BCall prog 14 [x7] H) λv0 H1=>
 bP (PCall prog 13 [v0,x13] H1) λv2=>
 bO (Ai v2 0) λv3=>
 bO (Ai v2 1) λv4=>
 bH (A9 H1 (.agg [(I 0),Ad])) λv5 H6=>
 bS (AR 2 H6 v5 v3) λH7=>
 GW x2 x7 x8 x10 x11 x12 x14 v5 H7 K
theorem Kt (x2 x7 x8 x10 x11 x12 x13 x14:AV)(H:AH)(K:KT):GV x2 x7 x8 x10 x11 x12 x13 x14 H K=FQ x2 x7 x8 x10 x11 x12 x13 x14 H K:=(Cx _ _ _ _ _).trans (by kernel_rfl)
def FP (x2 x7 x8 x10 x11 x12:AV)(H:AH)(K:KT):Prop:=
 bC (BCall prog 14 [x7] H) λv0 H1=>
 bP (PCall prog 20 [v0,(.lit (.string ⟨#[98]⟩))] H1) λv2=>
 bO (Ai v2 0) λv3=>
 bO (Ai v2 1) λv4=>
 GV x2 x7 x8 x10 x11 x12 v3 v4 H1 K
theorem Ks (x2 x7 x8 x10 x11 x12:AV)(H:AH)(K:KT):E5 x2 x7 x8 x10 x11 x12 H K=FP x2 x7 x8 x10 x11 x12 H K:=(Cx _ _ _ _ _).trans (by kernel_rfl)
def GC (x2 x7 x8 x10 x11:AV)(H:AH)(K:KT):Prop:=
 bC (BCall prog 17 [x2,u0Z,(.lit (.int .u8 1))] H) λv0 H1=>
 bC (BCall prog 12 [x7,v0] H1) λv2 H3=>
 bH (A9 H3 (.agg [(I 0),(.lit (.string ⟨#[]⟩)),(I 0),(I 0),(I 0),(I 0),(I 0)])) λv4 H5=>
 bS (AR 7 H5 v4 v2) λH6=>
 E5 x2 x7 x8 x10 x11 v4 H6 K
theorem Lt (x2 x7 x8 x10 x11:AV)(H:AH)(K:KT):HX x2 x7 x8 x10 x11 H K=GC x2 x7 x8 x10 x11 H K:=(Cx _ _ _ _ _).trans (by kernel_rfl)
def GB (x2 x7 x8 x9 x10:AV)(H:AH)(K:KT):Prop:=
 bC (BCall prog 19 [x7,x9,x8] H) λv0 H1=>
 HX x2 x7 x8 x10 v0 H1 K
theorem Ls (x2 x7 x8 x9 x10:AV)(H:AH)(K:KT):HW x2 x7 x8 x9 x10 H K=GB x2 x7 x8 x9 x10 H K:=(Cx _ _ _ _ _).trans (by kernel_rfl)
def GA (x2 x7 x8:AV)(H:AH)(K:KT):Prop:=
 bC (BCall prog 18 [x7,(.lit (.string ⟨#[97]⟩)),(B true)] H) λv0 H1=>
 bO (Ai v0 0) λv2=>
 bO (Ai v0 1) λv3=>
 HW x2 x7 x8 v2 v3 H1 K
theorem Lr (x2 x7 x8:AV)(H:AH)(K:KT):Dy x2 x7 x8 H K=GA x2 x7 x8 H K:=(Cx _ _ _ _ _).trans (by kernel_rfl)
def Ke (a0 a1 a2:AV)(H:AH)(K:KT):Prop:=
 bC (BCall prog 10 [(I 20)] H) λv0 H1=>
 bO (VM .eql S6 v0 (.lit (.pointer none))) λv2=>
 bB v2 λt3=>bI t3 (
 K (B false) H1)
 (bO (RI .i64 a0) λv4=>
 bO (Aq .rem a1 (.lit (.int .u8 9))) λv5=>
 bO (RI .u64 v5) λv6=>
 bO (Aq .shl v4 v6) λv7=>
 bO (Aq .add v7 (I 32768)) λv8=>
 bO (Aq .add v8 (I 1)) λv9=>
 bO (Aq .gtr v9 (I 1099511627776)) λv10=>
 bB v10 λt11=>bI t11 (
 Dy a2 v0 (I 1099511627776) H1 K)
 (Dy a2 v0 v9 H1 K))
theorem NJ {a0 a1 a2:AV}{H:AH}{K:KT}(h:Ke a0 a1 a2 H K):Cr 5 [a0,a1,a2] H K:=
 fok A6 Hr HY func5 h
def yU:FuncId→Bool:=TR [236,234]
def tW:FuncId→Bool:=TR [241,237]
def Gj:Nat→Bool:=TR []
def C1 (a0 a1:AV)(H:AH)(K:KT):Prop:=
 bP (ExtR prog 241 [a0,a1] H) λv0=>
 K v0 H
theorem Gh (a0 a1:AV)(H:AH)(K:KT):O8 prog A6 yU tW Gj BA f236 [a0,a1] H K=C1 a0 a1 H K:=by kernel_rfl
theorem Gi {a0 a1:AV}{H:AH}{K:KT}(h:C1 a0 a1 H K):ACalls prog 236 [a0,a1] H K:=
 G7 Lg func236 (by kernel_rfl) (Eq.mpr (Gh a0 a1 H K) h)
def Eb:Nat→Option (List Bool):=Ci [(39,mk 143 0 [8,13]),(40,mk 143 0 [8,13,139]),(38,mk 143 0 [8,13]),(37,mk 143 0 [0,1,5,6,7,8,9,10,132]),(33,mk 143 0 []),(34,mk 143 0 [8,12,114]),(32,mk 143 0 [8,12]),(31,mk 143 0 [0,1,5,6,7,8,9,10,107]),(30,mk 143 0 [0,1,5,6,7,8,9,10]),(29,mk 143 0 [0,1,5,6,7,8,9,10]),(26,mk 143 0 [0,1,5,6,7,8,9,10]),(27,mk 143 0 [0,1,5,6,7,8,9,10,93]),(20,mk 143 0 [0,1,5,6,7,8,9,10]),(17,mk 143 0 [0,1,5,6,7,8,9,10])]
def Ec:Nat→Bool:=TR []
def Et (p:List Bool)(n:Nat):List AV→AH→Kf→Prop:=AG prog A6 yU tW Ec Eb (sub p (AJ f234)) n
def Hp (x0 x1 x5 x6 x7 x8 x9 x10:AV)(H:AH)(K:KT):Prop:=lp (mk 143 0 [0,1,5,6,7,8,9,10]) (Et [tT,tT,tT,tT,tT,tT,tT,tT,fF,fF,fF] 18) [x0,x1,x5,x6,x7,x8,x9,x10] H (Bl 1 (Bn (Et [tT,tT,tT,tT,tT,tT,tT,tT,tT] 43) (Bc prog f234.results.toList K)))
def Dj (a0 a1:AV)(H:AH)(K:KT):Prop:=
 bO (Ge a1) λv0=>
 bO (Aq .eql v0 (I 0)) λv1=>
 bG v1 false λw2=>
 gO w2 (some a1) λv3=>
 bG v1 false λw4=>
 gO w4 (some a0) λv5=>
 bG v1 false λw6=>
 gO w6 (SL .eql v3 v5) λv7=>
 bO (A7 v1 (B true) v7) λv8=>
 bB v8 λt9=>bI t9 (
 K (I 0) H)
 (bO (Aq .eql v0 (I 1)) λv10=>
 bB v10 λt11=>bI t11 (
 bO (TA a1 (I 0)) λv12=>
 bP (PCall prog 236 [a0,v12] H) λv13=>
 K v13 H)
 (bO (Ge a0) λv14=>
 bO (Aq .geq v0 v14) λv15=>
 bB v15 λt16=>bI t16 (
 K (I (-1)) H)
 (bO (Ar false 1 H (.lit (.pointer (some ⟨0,0,none⟩)))) λv17=>
 bO (Aq .leq v0 v17) λv18=>
 bG v18 true λw19=>
 gO w19 (some a0) λv20=>
 bG v18 true λw21=>
 gO w21 (Ge v20) λv22=>
 bG v18 true λw23=>
 gO w23 (Aq .leq v22 (I 64)) λv24=>
 bO (A7 v18 v24 (B false)) λv25=>
 bB v25 λt26=>bI t26 (
 bP (ExtR prog 237 [a0,a1] H) λv27=>
 K v27 H)
 (bO (TA a1 (I 0)) λv28=>
 bO (TA a1 (I 1)) λv29=>
 bO (Ge a0) λv30=>
 bO (Aq .sub v30 v0) λv31=>
 bO (Aq .add v31 (I 1)) λv32=>
 Hp a0 a1 v0 v28 v29 (I 0) v32 (I 0) H K))))
theorem HN (a0 a1:AV)(H:AH)(K:KT):O8 prog A6 yU tW Ec Eb f234 [a0,a1] H K=Dj a0 a1 H K:=by kernel_rfl
theorem HO {a0 a1:AV}{H:AH}{K:KT}(h:Dj a0 a1 H K):ACalls prog 234 [a0,a1] H K:=
 G7 Lg func234 (by kernel_rfl) (Eq.mpr (HN a0 a1 H K) h)
end Go.Proofs.YtbppnhenlboefaaGreat.Av
end
namespace Go.Proofs.YtbppnhenlboefaaGreat.Av
open Go Go.RowKit Go.Proofs.Tryz
section
section
variable {α : Type} {sz : Nat} {H : AH} {v : AV} {cs : List AV} {n : Nat}
theorem BF (h:Aa H sz v=some (cs,n)):Bf v=some (I n):=by
 unfold Aa at h;split at h
 ·split at h
  ·injection h with h;injection h with h1 h2;rw[← h2];rfl
  ·cases h
 ·split at h
  ·split at h
   ·injection h with h;injection h with h1 h2;rw[← h2];rfl
   ·cases h
  ·cases h
 ·injection h with h;injection h with h1 h2;rw[← h2];rfl
 ·injection h with h;injection h with h1 h2;rw[← h2];rfl
 ·cases h
theorem CL {bytes:Nat}{x:AV}{ds:List AV}{m:Nat}(h1:Aa H sz v=some (cs,n))(ho:AP v=true)(h2:AZ H sz x=some (ds,m))(hb:(n+m)*bytes≤140737488355328):
  ∃r H',MJ sz bytes H v x=some (r,H')∧AP r=true∧Aa H' sz r=some (cs++ds,n+m)∧H.length≤H'.length∧(∀i,i<H.length→i∉AT v→H'[i]?=H[i]?)∧∀i∈AT r,i∈AT v∨H.length≤i:=by
 obtain⟨r,H',h⟩:=ZJ h1 ho (Xn h2) hb;exact⟨r,H',by unfold MJ;rw[h2];exact h.1,h.2⟩
abbrev Ao2:=@List.take_succ_cons
abbrev Ah3:=@List.take_take
theorem EZ (h:Aa H sz v=some (cs,n)){lo hi:Option AV}{l k:Nat}(hl:Bu lo 0=some l)(hk:Bu hi n=some k)(hlk:l≤k)(hkn:k≤n):
  ∃r,AW sz v lo hi none=some r∧Aa H sz r=some ((cs.drop (l*sz)).take ((k - l)*sz),k - l)∧(∀i∈AT r,i∈AT v)∧(AP v=true→AP r=true)∧(noIds v=true→noIds r=true):=by
 have hcl:=Ca h;have hmul:l*sz+(k - l)*sz=k*sz:=by rw[← Ah2];congr 1;omega
 have hmul2:k*sz≤n*sz:=Ad3 _ hkn;unfold Aa at h;unfold AW;split at h
 ·rename_i c len esz
  split at h
  ·rename_i hb
   obtain⟨rfl,hb⟩:=hb;injection h with h;injection h with h1 h2;subst h1;subst h2;simp only[hl,hk,hlk,hkn,and_self,if_true];refine⟨_,rfl,?_,(λi hi=>hi),(λh=>by simp[AP]at h),λh=>?_⟩
   ·simp only[Aa,true_and]
    rw[if_pos (by rw[Ac4,Ad1];omega)]
   ·simp only[noIds]at h⊢
    have key:∀(c:List AV) (a b:Nat),A3 c=true→A3 ((c.drop a).take b)=true:=by
     intro c
     induction c with
     | nil=>intro a b _;simp[A3]
     | cons x c ih=>
      intro a b hc;simp only[A3,Ae4]at hc;cases a with
      | zero=>
       cases b with
       | zero=>rfl
       | succ b=>simp only[Ae3,Ao2,A3,Ae4];exact⟨hc.1,by simpa using ih 0 b hc.2⟩
      | succ a=>simpa using ih a b hc.2
    exact key _ _ _ h
  ·cases h
 ·rename_i o off len esz cap
  split at h
  ·rename_i c hoc
   split at h
   ·rename_i hb
    obtain⟨rfl,hb⟩:=hb;injection h with h;injection h with h1 h2;subst h1;subst h2;simp only[zO,hl,hk];rw[if_pos ⟨hlk,by omega⟩];refine⟨_,rfl,?_,(λi hi=>hi),(λ_=>rfl),λh=>by simp[noIds]at h⟩;rw[AA hoc (by omega),Aj9,Ah1,Ah3]
    congr 3
    omega
   ·cases h
  ·cases h
 ·injection h with h;injection h with h1 h2
  subst h1;subst h2;obtain rfl:k=0:=by omega
  obtain rfl:l=0:=by omega
  simp only[hl,hk];exact⟨_,rfl,by simp[Aa],(λi hi=>hi),(λ_=>rfl),λ_=>rfl⟩
 ·injection h with h;injection h with h1 h2
  subst h1;subst h2;obtain rfl:k=0:=by omega
  obtain rfl:l=0:=by omega
  simp only[hl,hk];exact⟨_,rfl,by simp[Aa],(λi hi=>hi),(λ_=>rfl),λ_=>rfl⟩
 ·cases h
def Zw (H:AH):AV→Option (List AV)
 | .ptr o off=>match H[o]? with
  | some (some (.cells cs))=>some (cs.drop off)
  | _=>none
 | .ip cs=>some cs
 | _=>none
theorem RL {g:Bool}{k:Nat}{p:AV}(h:Zw H p=some cs)(hk:0<k)(hl:k≤cs.length):Ar g k H p=Am g k cs 0:=by
 unfold Zw at h;unfold Ar;split at h
 ·rename_i o off
  simp only;split at h
  ·rename_i c hc
   injection h with h;subst h;unfold Am;rw[Ad1]at hl;simp only[hc];cases g
   ·simp
   ·simp only[if_true]
    rw[if_pos (by omega),if_pos (by rw[Ad1];omega)];simp
  ·cases h
 ·injection h with h
  subst h;rfl
 ·cases h
theorem eX {k:Nat}{p:AV}(h:Zw H p=some cs):∃q,Ac k p=some q∧Zw H q=some (cs.drop k):=by
 unfold Zw at h;split at h
 ·rename_i o off
  split at h
  ·rename_i c hc
   injection h with h;subst h;exact⟨_,rfl,by simp[Zw,hc]⟩
  ·cases h
 ·injection h with h
  subst h;exact⟨_,rfl,rfl⟩
 ·cases h
theorem K8 (h:Aa H sz v=some (cs,n)){k:Nat}{i:Int}(hi:i=k)(hk:k<n):∃p c,Bh sz v (.lit (.int .i64 i))=some p∧Zw H p=some c∧c.take sz=(cs.drop (k*sz)).take sz∧sz≤c.length:=by
 subst hi;have hcl:=Ca h;have hmul:k*sz+sz≤n*sz:=by rw[← Af9];exact Ad3 _ hk
 unfold Aa at h;unfold Bh;simp only[J8];split at h
 ·rename_i c len esz
  split at h
  ·rename_i hb
   obtain⟨rfl,hb⟩:=hb;injection h with h;injection h with h1 h2;subst h1;subst h2;refine⟨_,_,if_pos (by omega),rfl,by simp,by simp;omega⟩
  ·cases h
 ·rename_i o off len esz cap
  split at h
  ·rename_i c hoc
   split at h
   ·rename_i hb
    obtain⟨rfl,hb⟩:=hb;injection h with h;injection h with h1 h2;subst h1;subst h2;refine⟨_,c.drop (off+k*esz),if_pos (by omega),by simp[Zw,hoc],?_,by rw[Ad1];omega⟩;rw[Aj9,Ah1,Ah3]
    congr 1
    omega
   ·cases h
  ·cases h
 ·injection h with h;injection h with h1 h2;omega
 ·injection h with h;injection h with h1 h2;omega
 ·cases h
end
mutual
theorem Oc (X:AH):∀(a:AV),noIds a=true→∃n0,∀n,n0≤n→K7 X n a=some a
 | .lit v,_=>⟨1,λn hn=>by cases n with
  | zero=>omega
  | succ n=>rfl⟩
 | .ip cs,h=>by
  simp only[noIds]at h;obtain⟨n0,h0⟩:=El X cs h;refine⟨n0+1,λn hn=>?_⟩;cases n with
  | zero=>omega
  | succ n=>simp only[K7,h0 n (by omega)];rfl
 | .imm cs len esz,h=>by
  simp only[noIds]at h;obtain⟨n0,h0⟩:=El X cs h;refine⟨n0+1,λn hn=>?_⟩;cases n with
  | zero=>omega
  | succ n=>simp only[K7,h0 n (by omega)];rfl
 | .agg cs,h=>by
  simp only[noIds]at h;obtain⟨n0,h0⟩:=El X cs h;refine⟨n0+1,λn hn=>?_⟩;cases n with
  | zero=>omega
  | succ n=>simp only[K7,h0 n (by omega)];rfl
 | .tup cs,h=>by
  simp only[noIds]at h;obtain⟨n0,h0⟩:=El X cs h;refine⟨n0+1,λn hn=>?_⟩;cases n with
  | zero=>omega
  | succ n=>simp only[K7,h0 n (by omega)];rfl
 | .fn f a b,h=>by
  simp only[noIds,Ae4]at h;obtain⟨n0,h0⟩:=El X a h.1;obtain⟨n1,h1⟩:=El X b h.2;refine⟨n0+n1+1,λn hn=>?_⟩;cases n with
  | zero=>omega
  | succ n=>simp only[K7,h0 n (by omega),h1 n (by omega)]
 | .emp,_=>⟨1,λn hn=>by cases n with
  | zero=>omega
  | succ n=>rfl⟩
 | .junk,_=>⟨1,λn hn=>by cases n with
  | zero=>omega
  | succ n=>rfl⟩
 | .ptr ..,h=>by simp[noIds]at h
 | .sl ..,h=>by simp[noIds]at h
 | .mp ..,h=>by simp[noIds]at h
theorem El (X:AH):∀(asx:List AV),A3 asx=true→∃n0,∀n,n0≤n→LX (K7 X n) asx=some asx
 | [],_=>⟨0,λ_ _=>rfl⟩
 | a::asx,h=>by
  simp only[A3,Ae4]at h;obtain⟨n0,h0⟩:=Oc X a h.1;obtain⟨n1,h1⟩:=El X asx h.2;exact⟨n0+n1,λn hn=>by simp only[LX,h0 n (by omega),h1 n (by omega)]⟩
end
theorem Sq {X:AH}{sz:Nat}{r:AV}{cs:List AV}{m:Nat}(h:Aa X sz r=some (cs,m))(hc:A3 cs=true):∃R n0,noIds R=true∧(∀H,Aa H sz R=some (cs,m))∧∀n,n0≤n→K7 X n r=some R:=by
 have hcl:=Ca h;unfold Aa at h;split at h
 ·rename_i c len esz
  split at h
  ·rename_i hb
   injection h with h;injection h with h1 h2;subst h1;subst h2;obtain⟨n0,h0⟩:=Oc X (.imm c len esz) (by simpa only[noIds]using hc);exact⟨_,n0,by simpa only[noIds]using hc,λH=>by simp[Aa,hb.1,hb.2],h0⟩
  ·cases h
 ·rename_i o off len esz cap
  split at h
  ·rename_i c hoc
   split at h
   ·rename_i hb
    injection h with h;injection h with h1 h2;obtain⟨n0,h0⟩:=El X cs hc;refine⟨.imm cs len esz,n0+1,by simpa only[noIds]using hc,λH=>?_,λn hn=>?_⟩
    ·rw[← h2]at hcl⊢
     simp[Aa,hb.1,hcl]
    ·cases n with
     | zero=>omega
     | succ n=>
      obtain⟨rfl,-⟩:=hb;simp only[K7,hoc,h1,h0 n (by omega)];rfl
   ·cases h
  ·cases h
 ·injection h with h;injection h with h1 h2
  subst h1;subst h2
  exact⟨_,1,rfl,λH=>rfl,λn hn=>by cases n with
   | zero=>omega
   | succ n=>rfl⟩
 ·injection h with h;injection h with h1 h2
  subst h1;subst h2
  exact⟨_,1,rfl,λH=>rfl,λn hn=>by cases n with
   | zero=>omega
   | succ n=>rfl⟩
 ·cases h
section
variable {P : Program} {f : FuncId} {args : List AV}
theorem BPure.fz {Q:AV→Prop}(hb:A3 args=true)(h:∃r X,(∃n R,K7 X n r=some R∧Q R)∧BCall P f args [] r X):∃R,Q R∧BPure P f args R:=by
 obtain⟨r,X,⟨n,R,hf,hq⟩,h⟩:=h;exact⟨R,hq,BPure.of h hb hf⟩
theorem BPure.val {R:AV}(hb:A3 args=true)(hR:noIds R=true)(h:∃r X,r=R∧BCall P f args [] r X):BPure P f args R:=by
 obtain⟨r,X,rfl,h⟩:=h;obtain⟨n0,h0⟩:=Oc X r hR;exact BPure.of h hb (h0 n0 (Ac6 _))
theorem BPure.sl {sz:Nat}{cs:List AV}{m:Nat}(hb:A3 args=true)(hc:A3 cs=true)(h:∃r X,Aa X sz r=some (cs,m)∧BCall P f args [] r X):∃R,(noIds R=true∧∀H,Aa H sz R=some (cs,m))∧BPure P f args R:=by
 obtain⟨r,X,h1,h⟩:=h;obtain⟨R,n0,h2,h3,h4⟩:=Sq h1 hc;exact⟨R,⟨h2,h3⟩,BPure.of h hb (h4 n0 (Ac6 _))⟩
end
end
section
section
variable {P : Program}
structure RecAt (G:Cfg)(l:Nat)(r:Loop):Prop where
 h:G.w.heap[l]?=some (.loop r)
 nl:¬G.L l
theorem RecAt.evo {G G':Cfg}{l:Nat}{r:Loop}(h:RecAt G l r)(hE:Evo G G'):RecAt G' l r:=⟨(QQ hE h.h h.nl).1,(QQ hE h.h h.nl).2⟩
structure EvoX (l:Nat)(G G':Cfg):Prop where
 os:G'.w.os=G.w.os
 tape:G'.w.tape=G.w.tape
 output:G'.w.output=G.w.output
 size:G.w.heap.size≤G'.w.heap.size
 keep:∀k,k<G.w.heap.size→k≠l→¬G.L k→G'.w.heap[k]?=G.w.heap[k]?∧¬G'.L k
 n:G.n≤G'.n
 μ:∀o,o<G.n→G'.μ o=G.μ o
 K:G'.K=G.K
 has:∀ad vs,Has G ad vs→Has G' ad vs
theorem EvoX.tr {l:Nat}{G G':Cfg}(h:EvoX l G G'):Tr G G':=⟨h.n,h.μ,h.has⟩
theorem Evo.x {l:Nat}{G G':Cfg}(h:Evo G G'):EvoX l G G':=⟨h.os,h.tape,h.output,h.size,λk hk _ hL=>h.keep k hk hL,h.n,h.μ,h.K,λ_ _ hh=>hh.evo h⟩
theorem EvoX.trans {l:Nat}{A B C:Cfg}(h:EvoX l A B)(k:EvoX l B C):EvoX l A C:=
 ⟨k.os.trans h.os,k.tape.trans h.tape,k.output.trans h.output,Ae1 h.size k.size,λi hi hne hL=>by
  obtain⟨a1,a2⟩:=h.keep i hi hne hL;obtain⟨b1,b2⟩:=k.keep i (Af0 hi h.size) hne a2;exact⟨b1.trans a1,b2⟩,Ae1 h.n k.n,λo ho=>(k.μ o (Af0 ho h.n)).trans (h.μ o ho),k.K.trans h.K,λad vs hh=>k.has ad vs (h.has ad vs hh)⟩
theorem Ua {r:Loop}:∀c e f,Obj.loop r≠.cells c e f:=by intro c e f h;cases h
theorem mH (w:World)(l:Nat)(x:Obj):(w.putObj l x).heap.size=w.heap.size:=by simp[World.putObj]
theorem EvoX.put {l:Nat}{G:Cfg}{r:Loop}(h:G.w.heap[l]?=some (.loop r))(x:Obj):EvoX l G (G.put l x):=
 ⟨rfl,rfl,rfl,by simp only[Cfg.put,mH];exact Ac6 _,λk hk hne hL=>⟨by simp only[Cfg.put];exact World.putObj_heap_other hne,hL⟩,Ac6 _,λ_ _=>rfl,rfl,(Tr.put h Ua x).has⟩
theorem Evo.transX {l:Nat}{A B C:Cfg}(h:Evo A B)(hl:A.w.heap.size≤l)(k:EvoX l B C):Evo A C:=
 ⟨k.os.trans h.os,k.tape.trans h.tape,k.output.trans h.output,Ae1 h.size k.size,λi hi hL=>by
  obtain⟨a1,a2⟩:=h.keep i hi hL;obtain⟨b1,b2⟩:=k.keep i (Af0 hi h.size) (by omega) a2;exact⟨b1.trans a1,b2⟩,Ae1 h.n k.n,λo ho=>(k.μ o (Af0 ho h.n)).trans (h.μ o ho),k.K.trans h.K⟩
theorem DF.x {l:Nat}{G G':Cfg}{ρ:nT}{a a':Act}(h:DF G ρ a)(hE:EvoX l G G')(ha:a'.defers=a.defers)(hn:∀D,G.w.heap[D]?=some (.deferred (some []))→D≠l)(hr:ρ.1=some l→∃r,G'.w.heap[l]?=some (.loop r)∧¬G'.L l):DF G' ρ a':=by
 obtain⟨⟨Ds,h1,h2,h3⟩,h4,h5⟩:=h;refine⟨⟨Ds,by rw[ha,h1],h2,λD hD=>?_⟩,λl' hl'=>?_,Ae1 h5 hE.size⟩
 ·obtain⟨a1,a2,a3⟩:=h3 D hD
  obtain⟨b1,b2⟩:=hE.keep D (Array.getElem?_eq_some_iff.1 a3).1 (hn D a3) a2;exact⟨a1,b2,by rw[b1];exact a3⟩
 ·by_cases c:l'=l
  ·subst c;exact hr hl'
  ·obtain⟨r,a1,a2⟩:=h4 l' hl'
   obtain⟨b1,b2⟩:=hE.keep l' (Array.getElem?_eq_some_iff.1 a1).1 c a2;exact⟨r,by rw[b1];exact a1,b2⟩
def Wo (P:Program)(assign body:Code)(T:List AV)(p:Tmp)(x:AV)(H:AH)(J:AH→Prop)(X:Code→AH→Prop):Prop:=
 ∃T1,BCode P assign (T.set p x) H .normal T1 H∧ACode P body (λe _ H'=>match e with
  | .normal=>J H'
  | .ret=>X .ret H'
  | .exit id=>X (.exit id) H'
  | _=>False) T1 H
theorem IF {w:World}{l:Nat}{r:Loop}(h:w.heap[l]?=some (.loop r)):∀D,w.heap[D]?=some (.deferred (some []))→D≠l:=by
 rintro D hD rfl;rw[h]at hD;cases hD
theorem Z1 {G:Cfg}{l:Nat}{rec:Loop}{T:List AV}{p:Tmp}{x:AV}{v:Value}{H:AH}{J:AH→Prop}{X:Code→AH→Prop}(hH:HR G H)(hR:RecAt G l rec)(hrd:rec.state=.ready)(hpd:rec.pending=none)(hps:rec.params= #[p])
  (hT:VRs G T rec.tmps.toList) (hx:VR G x v) (h:Wo P rec.assign rec.body T p x H J X):
  YieldAt (FW none) 0 P l #[v] G.w λe W'=>∃(G':Cfg) (H':AH),G'.w=W'∧EvoX l G G'∧HR G' H'∧((e=.returned (.bool true)∧RecAt G' l rec∧J H')∨(e=.returned (.bool false)∧∃c,RecAt G' l {rec with state:=.done,pending:=some c}∧X c H')):=by
 refine⟨rec.fn,_,rec.assign,rec.body,run_yield hR.h (by simp[hps]),roundIn_of_wpIn trivial ?_⟩;obtain⟨T1,hA,hB⟩:=h
 have hF:FR G (T.set p x) {tmps:=(rec.params.zip #[v]).foldl (fun tmps (t,a)=>tmps.setIfInBounds t a) rec.tmps,defers:=[]}:=by
  show VRs G _ _
  rw[hps];simp only[Array.zip,Array.zipWith,List.size_toArray,zB];have:(#[p].zip #[v]).foldl (fun tmps (x:Tmp×Value)=>tmps.setIfInBounds x.1 x.2) rec.tmps=rec.tmps.setIfInBounds p v:=by simp
  refine(?_:VRs G (T.set p x) ((#[p].zip #[v]).foldl (fun tmps (x:Tmp×Value)=>tmps.setIfInBounds x.1 x.2) rec.tmps).toList);rw[this,Ak6];exact hT.set p hx
 have w1:=hA G G _ (some l,0) (Evo.refl G) hF ⟨⟨[],rfl,Ao3,λ_ h=>(by cases h)⟩,λl' hl'=>(by injection hl' with hl';subst hl';exact⟨rec,hR.h,hR.nl⟩),Nat.zero_le _⟩ hH;refine Code.wpIn_mono ?_ w1;rintro e a1 w1' ⟨T',H',G1,rfl,hE1,hF1,hd1,hH1,hq⟩;simp only[AQ.is,Ag4]at hq;obtain⟨rfl,rfl,rfl⟩:=hq;have hR1:=hR.evo hE1;refine⟨_,run_beginRound hR1.h hrd,?_⟩;have live:∀{G:Cfg} {H:AH} {r:Loop},HR G H→RecAt G l r→∀(o:Nat) (z:AObj),H[o]?=some (some z)→(G.μ o).1≠l:=λhH hR o z ho e=>hR.nl (by have:=hH.live o z ho;rwa[e]at this)
 have hX2:EvoX l G1 (G1.put l (.loop {rec with state:=.busy})):=EvoX.put hR1.h _;have hH2:=hH1.putO (live hH1 hR1) hR1.h Ua (.loop {rec with state:=.busy});have hR2:RecAt (G1.put l (.loop {rec with state:=.busy})) l {rec with state:=.busy}:=⟨World.putObj_heap_same (Array.getElem?_eq_some_iff.1 hR1.h).1,hR1.nl⟩;have w2:=hB (G1.put l (.loop {rec with state:=.busy})) (G1.put l (.loop {rec with state:=.busy})) a1 (some l,0) (Evo.refl _) (VRs.tr hX2.tr hF1) (hd1.x hX2 rfl (IF hR1.h) λ_=>⟨_,hR2.h,hR2.nl⟩) hH2;refine Code.wpIn_mono ?_ w2;rintro e a3 w3 ⟨T3,H3,G3,rfl,hE3,hF3,hd3,hH3,hq⟩;have hR3:=hR2.evo hE3;have fin:∀x,EvoX l G (G3.put l x):=λx=>(hE1.x.trans hX2).trans (hE3.x.trans (EvoX.put hR3.h x))
 have finR:∀r,RecAt (G3.put l (.loop r)) l r:=λr=>⟨World.putObj_heap_same (Array.getElem?_eq_some_iff.1 hR3.h).1,hR3.nl⟩
 have finH:∀x,HR (G3.put l x) H3:=λx=>hH3.putO (live hH3 hR3) hR3.h Ua x
 cases e with
 | normal=>
  refine⟨_,_,run_endRound none hR3.h,G3.put l _,H3,rfl,fin _,finH _,.inl ⟨rfl,?_,hq⟩⟩
  have:({{rec with state:=.busy} with state:=if(none:Option Code).isNone then .ready else .done,pending:=none}:Loop)=rec:=by
   obtain⟨s,pe,f1,f2,f3,f4,f5,f6⟩:=rec;simp only at hrd hpd;subst hrd;subst hpd;rfl
  have h2:=finR ({{rec with state:=.busy} with state:=if(none:Option Code).isNone then .ready else .done,pending:=none});rw[this]at h2⊢;exact h2
 | ret=>exact⟨_,_,run_endRound (some .ret) hR3.h,G3.put l _,H3,rfl,fin _,finH _,.inr ⟨rfl,.ret,finR _,hq⟩⟩
 | exit id=>exact⟨_,_,run_endRound (some (.exit id)) hR3.h,G3.put l _,H3,rfl,fin _,finH _,.inr ⟨rfl,.exit id,finR _,hq⟩⟩
 | goto t=>exact hq.elim
 | panic ch=>exact hq.elim
 | outgrown=>exact hq.elim
def Xe (P:Program)(k:FuncId)(cap:List AV)(Cap:AH→Prop)(xs:List AV):Prop:=
 ∀(G:Cfg) (l:Nat) (rec:Loop) (T:List AV) (p:Tmp) (H:AH) (vc:List Value) (J:Nat→AH→Prop) (X:Code→AH→Prop),HR G H→RecAt G l rec→rec.state=.ready→rec.pending=none→rec.params= #[p]→VRs G T rec.tmps.toList→VRs G cap vc→J 0 H→
  (∀i H',J i H'→Cap H')→(∀i x H',xs[i]?=some x→J i H'→Wo P rec.assign rec.body T p x H' (J (i+1)) X)→
  CallsIn (FW none) 0 P k (#[.func (.yield l) #[] #[]]++vc.toArray) G.w λe W'=>(∃v,e=.returned v)∧∃(G':Cfg) (H':AH),G'.w=W'∧EvoX l G G'∧HR G' H'∧((RecAt G' l rec∧J xs.length H')∨∃c,RecAt G' l {rec with state:=.done,pending:=some c}∧X c H')
theorem HR.allocO {G:Cfg}{H:AH}(hr:HR G H)(x:Obj):HR {G with w:=G.w.alloc x} H∧Evo G {G with w:=G.w.alloc x}:=by
 have hE:Evo G {G with w:=G.w.alloc x}:=⟨rfl,rfl,rfl,by simp,λk hk hL=>⟨Below.heap_alloc _ _ _ hk,hL⟩,Ac6 _,λ_ _=>rfl,rfl⟩;exact⟨⟨hr.n,λo z ho=>OR.evo hE (hr.lt_n ho) (Below.heap_alloc _ _ _ (hr.lt _ (.inl (hr.live _ _ ho)))) (hr.obj o z ho),hr.inj,hr.live,λb hb=>by have:=hr.lt b hb;simp;omega,hr.dis⟩,hE⟩
theorem WG:∀{A B:List Nat},A.map lN=B.map lN→A=B
 | [],[],_=>rfl
 | [],b::B,h=>by simp at h
 | a::A,[],h=>by simp at h
 | a::A,b::B,h=>by
  simp only[Aa7]at h
  have h1:a=b:=by
   have:=h.1
   injection this with h2 _;injection h2
  rw[h1,WG h.2]
theorem ACode.rangeF {g:Operand}{p:Tmp}{assign body:Code}{Q:AQ}{T:List AV}{H:AH}{k:FuncId}{cap xs:List AV}{Cap:AH→Prop}(hit:Xe P k cap Cap xs)(hgo:B1 P k=true)(hg:Br T g=.fn (.func k) [] cap)
  (J:Nat→AH→Prop) (X:Code→AH→Prop) (h0:J 0 H) (hcap:∀i H',J i H'→Cap H') (hr:∀i x H',xs[i]?=some x→J i H'→Wo P assign body T p x H' (J (i+1)) X) (hdone:∀H',J xs.length H'→Q .normal T H')
  (hout:∀c H',X c H'→(c=.ret∧Q .ret T H')∨∃id,c=.exit id∧Q (.exit id) T H'):ACode P (.rangeFunc g #[p] assign body) Q T H:=by
 intro G0 G a ρ hE hF hd hH;refine wpIn_rangeFunc ?_;intro fn _
 -- the record is laid
 obtain⟨l,mk,G1,rec,e1,hE1,hH1,hR,hrd,hpd,hps,htm,has,hbd,hsz,hd1⟩:∃(l:Nat) (mk:List Deferred) (G1:Cfg) (rec:Loop),(Instr.enterLoop fn a.tmps #[p] assign body (FW ρ.1).round).run P G.w=.ok (l,mk) G1.w∧Evo G G1∧HR G1 H∧RecAt G1 l rec∧rec.state=.ready∧rec.pending=none∧
   rec.params= #[p]∧rec.tmps=a.tmps∧rec.assign=assign∧rec.body=body∧G.w.heap.size≤l∧DF G1 ρ {a with defers:=mk++a.defers}:=by
  have nL:∀b,G.w.heap.size≤b→¬G.L b:=λb hb hL=>by have:=hH.lt b (.inl hL);omega
  cases hρ:ρ.1 with
  | none=>
   obtain⟨k1,k2⟩:=hH.allocO (.deferred (some []));obtain⟨k3,k4⟩:=k1.allocO (.loop {state:=.ready,pending:=none,fn,tmps:=a.tmps,params:=#[p],assign,body,defers:=G.w.heap.size});refine⟨G.w.heap.size+1,_,_,{state:=.ready,pending:=none,fn,tmps:=a.tmps,params:=#[p],assign,body,defers:=G.w.heap.size},run_enterLoop_outer _ _ _ _ _,k2.trans k4,k3,⟨?_,nL _ (by omega)⟩,rfl,rfl,rfl,rfl,rfl,rfl,by omega,?_⟩
   ·have:=World.alloc_heap_new (G.w.alloc (.deferred (some []))) (.loop {state:=.ready,pending:=none,fn,tmps:=a.tmps,params:=#[p],assign,body,defers:=G.w.heap.size})
    rwa[World.size_alloc]at this
   ·have hD:((G.w.alloc (.deferred (some []))).alloc (.loop {state:=.ready,pending:=none,fn,tmps:=a.tmps,params:=#[p],assign,body,defers:=G.w.heap.size})).heap[G.w.heap.size]?=some (.deferred (some [])):=
     (Below.heap_alloc _ _ _ (by simp)).trans (World.alloc_heap_new G.w _)
    obtain⟨⟨Ds,h1,h2,h3⟩,h4,h5⟩:=hd.evo (k2.trans k4) (a':=a) rfl;refine⟨⟨G.w.heap.size::Ds,by simp[h1],Ak4.2 ⟨λhm=>?_,h2⟩,λD hDm=>?_⟩,h4,h5⟩
    ·obtain⟨⟨Ds',h1',h2',h3'⟩,-,-⟩:=hd
     have:Ds'=Ds:=by
      rw[h1]at h1';exact(WG h1').symm
     have:=(Array.getElem?_eq_some_iff.1 (h3' _ (by rw[this];exact hm)).2.2).1
     omega
    ·rcases Ad8.1 hDm with rfl | hDm
     ·exact⟨hd.lb,nL _ (Ac6 _),hD⟩
     ·exact h3 D hDm
  | some l0=>
   obtain⟨r0,hr0,hl0⟩:=hd.round l0 hρ;obtain⟨k1,k2⟩:=hH.allocO (.loop {state:=.ready,pending:=none,fn,tmps:=a.tmps,params:=#[p],assign,body,defers:=r0.defers});exact⟨G.w.heap.size,[],_,{state:=.ready,pending:=none,fn,tmps:=a.tmps,params:=#[p],assign,body,defers:=r0.defers},run_enterLoop_inner hr0 _ _ _ _ _,k2,k1,⟨World.alloc_heap_new G.w _,nL _ (Ac6 _)⟩,rfl,rfl,rfl,rfl,rfl,rfl,Ac6 _,hd.evo k2 rfl⟩
 have hfv:=hF.eval g;rw[hg]at hfv;simp only[VR]at hfv;obtain⟨va,vb,hv,hva,hvb⟩:=hfv;have:va= #[]:=by simp only[VRs]at hva;exact Array.toList_eq_nil_iff.1 hva
 subst this
 have hci:(invoke (.fn (.func k) vb) #[.func (.yield l) #[] #[]]).run P G1.w=.ok (.enter k (#[.func (.yield l) #[] #[]]++vb)) G1.w:=by
  unfold B1 at hgo;split at hgo
  ·rename_i f0 hfn'
   simp only [zV] at hgo;obtain ⟨b,hbody⟩:=Option.isSome_iff_exists.1 hgo.1;have hne : ¬ f0.name = "runtime.NumGoroutine" := by have := hgo.2; simpa using this
   simp[invoke,callFunc,hfn',hne,hbody]
  ·cases hgo
 refine⟨l,mk,G1.w,{target:=.fn (.func k) vb,args:=#[.func (.yield l) #[] #[]]},G1.w,k,#[.func (.yield l) #[] #[]]++vb,G1.w,e1,?_,λ_ _=>trivial,hci,λhn=>(by simp[Fence.wide]at hn),?_⟩
 ·simp only[resolve,hv]
  simp[go_sem]
 ·have hT1:VRs G1 T rec.tmps.toList:=by rw[htm];exact VRs.evo hE1 hF
  have hc:=hit G1 l rec T p H vb.toList J X hH1 hR hrd hpd hps hT1 (VRs.evo hE1 hvb) h0 hcap (by rw[has,hbd];exact hr)
  have hc2:CallsIn (FW ρ.1) 0 P k (#[.func (.yield l) #[] #[]]++vb) G1.w λe W'=>(∃v,e=.returned v)∧∃(G':Cfg) (H':AH),G'.w=W'∧EvoX l G1 G'∧HR G' H'∧((RecAt G' l rec∧J xs.length H')∨∃c,RecAt G' l {rec with state:=.done,pending:=some c}∧X c H'):=by
   have h1:(vb.toList.toArray)=vb:=by simp
   rw[h1]at hc;cases ρ.1 with
   | none=>exact hc
   | some l0=>exact CallsIn.inRound l0 hc
  refine CallsIn.mono hc2 ?_;rintro e W' ⟨⟨v,rfl⟩,G2,H2,rfl,hX,hH2,hcase⟩;have fin:∀(r:Loop),RecAt G2 l r→∀x,Evo G0 (G2.put l x):=λr hr x=>(hE.trans hE1).transX (Ae1 hE.size hsz) (hX.trans (EvoX.put hr.h x))
  have ndf:∀D,G1.w.heap[D]?=some (.deferred (some []))→D≠l:=IF hR.h;have finD:∀(r:Loop),RecAt G2 l r→∀r',DF (G2.put l (.loop r')) ρ {a with defers:=mk++a.defers}:=λr hr r'=>hd1.x (hX.trans (EvoX.put hr.h _)) rfl ndf (λ_=>⟨r',World.putObj_heap_same (Array.getElem?_eq_some_iff.1 hr.h).1,hr.nl⟩)
  have finH:∀(r:Loop),RecAt G2 l r→∀x,HR (G2.put l x) H2:=λr hr x=>hH2.putO (λo z ho e=>hr.nl (by have:=hH2.live o z ho;rwa[e]at this)) hr.h Ua x
  have finF:∀(r:Loop),RecAt G2 l r→∀x,FR (G2.put l x) T {a with defers:=mk++a.defers}:=λr hr x=>VRs.tr (hX.trans (EvoX.put hr.h x)).tr (VRs.evo hE1 hF)
  rcases hcase with⟨hr2,hj⟩ | ⟨c,hr2,hx⟩
  ·refine⟨none,_,?_,T,H2,G2.put l (.loop {rec with state:=.exhausted}),rfl,fin _ hr2 _,finF _ hr2 _,finD _ hr2 _,finH _ hr2 _,hdone H2 hj⟩
   have:=run_endLoop (P:=P) hr2.h (by rw[hrd];simp)
   refine this.trans ?_;rw[hpd];rfl
  ·refine⟨some c,_,run_endLoop (P:=P) hr2.h (by simp),?_⟩
   rcases hout c H2 hx with⟨rfl,hq⟩ | ⟨id,rfl,hq⟩
   ·exact wpIn_ret ⟨T,H2,G2.put l (.loop {{rec with state:=.done,pending:=some _} with state:=.exhausted}),rfl,fin _ hr2 _,finF _ hr2 _,finD _ hr2 _,finH _ hr2 _,hq⟩
   ·exact wpIn_exit ⟨T,H2,G2.put l (.loop {{rec with state:=.done,pending:=some _} with state:=.exhausted}),rfl,fin _ hr2 _,finF _ hr2 _,finD _ hr2 _,finH _ hr2 _,hq⟩
end
end
section
section
variable {P : Program}
structure XSt (l:Nat)(G0 G:Cfg)(T:List AV)(H:AH)(r:Loop)(a:Act):Prop where
 x:EvoX l G0 G
 f:FR G T a
 d:DF G (none,G0.w.heap.size) a
 h:HR G H
 ra:RecAt G l r
abbrev XQ:=Exit→List AV→AH→Loop→Prop
def iX (l:Nat)(G0:Cfg)(Q:XQ):Exit→Act→World→Prop:=λe a w=>∃(T:List AV) (H:AH) (G:Cfg) (r:Loop),G.w=w∧XSt l G0 G T H r a∧Q e T H r
def XCode (P:Program)(l:Nat)(G0:Cfg)(c:Code)(Q:XQ)(T:List AV)(H:AH)(r:Loop):Prop:=
 ∀(G:Cfg) (a:Act),XSt l G0 G T H r a→c.wpIn (FW none) 0 P (iX l G0 Q) a G.w
def XOps (P:Program)(l:Nat)(G0:Cfg)(ops:Array Oper)(Q:XQ)(lst:List Oper)(T:List AV)(H:AH)(r:Loop):Prop:=
 ∀(G:Cfg) (a:Act),XSt l G0 G T H r a→wpListIn (FW none) 0 P ops (iX l G0 Q) lst a G.w
variable {l : Nat} {G0 : Cfg}
theorem Oy {Q:XQ}{e:Exit}{T:List AV}{H:AH}{r:Loop}(h:Q e T H r){G:Cfg}{a:Act}(hs:XSt l G0 G T H r a):iX l G0 Q e a G.w:=⟨T,H,G,r,rfl,hs,h⟩
theorem XCode.of {c:Code}{Q:XQ}{T:List AV}{H:AH}{r:Loop}(h:ACode P c (λe T H=>Q e T H r) T H):XCode P l G0 c Q T H r:=by
 intro G a hs;refine Code.wpIn_mono ?_ (h G G a (none,G0.w.heap.size) (Evo.refl G) hs.f hs.d hs.h);rintro e a w ⟨T',H',G',rfl,hE,hF,hd,hH,hq⟩;exact⟨T',H',G',r,rfl,⟨hs.x.trans hE.x,hF,hd,hH,hs.ra.evo hE⟩,hq⟩
def XQ.then (next:List AV→AH→Loop→Prop)(Q:XQ):XQ
 | .normal,T,H,r=>next T H r
 | e,T,H,r=>Q e T H r
theorem XCode.seq {x y:Code}{Q:XQ}{T:List AV}{H:AH}{r:Loop}(h:XCode P l G0 x (XQ.then (XCode P l G0 y Q) Q) T H r):XCode P l G0 (.seq x y) Q T H r:=by
 intro G a hs;refine wpIn_seq (Code.wpIn_mono ?_ (h G a hs));rintro e a' w' ⟨T',H',G',r',rfl,hs',hq⟩;cases e with
 | normal=>exact hq G' a' hs'
 | _=>exact⟨T',H',G',r',rfl,hs',hq⟩
theorem XCode.cond {c:Operand}{x y:Code}{Q:XQ}{T:List AV}{H:AH}{r:Loop}{b:Bool}(hc:Br T c=.lit (.bool b))(h:XCode P l G0 (if b then x else y) Q T H r):XCode P l G0 (.cond c x y) Q T H r:=by
 intro G a hs
 have:=hs.f.eval c
 rw[hc]at this;simp only[VR]at this;exact wpIn_cond this (h G a hs)
theorem XCode.skip {Q:XQ}{T:List AV}{H:AH}{r:Loop}(h:Q .normal T H r):XCode P l G0 .skip Q T H r:=λG a hs=>wpIn_skip (Oy h hs)
theorem XCode.exit {id:Nat}{Q:XQ}{T:List AV}{H:AH}{r:Loop}(h:Q (.exit id) T H r):XCode P l G0 (.exit id) Q T H r:=λG a hs=>wpIn_exit (Oy h hs)
theorem XCode.ret {Q:XQ}{T:List AV}{H:AH}{r:Loop}(h:Q .ret T H r):XCode P l G0 .ret Q T H r:=λG a hs=>wpIn_ret (Oy h hs)
def XQ.inBlock (id:Nat)(Q:XQ):XQ
 | .exit id',T,H,r=>if id'=id then Q .normal T H r else Q (.exit id') T H r
 | e,T,H,r=>Q e T H r
theorem XCode.block {id:Nat}{c:Code}{Q:XQ}{T:List AV}{H:AH}{r:Loop}(h:XCode P l G0 c (Q.inBlock id) T H r):XCode P l G0 (.block id c) Q T H r:=by
 intro G a hs;refine wpIn_block (Code.wpIn_mono ?_ (h G a hs));rintro e a' w' ⟨T',H',G',r',rfl,hs',hq⟩;cases e with
 | exit id'=>
  simp only[XQ.inBlock]at hq;simp only[Exit.inBlock]
  split
  ·rename_i he;rw[if_pos he]at hq;exact⟨T',H',G',r',rfl,hs',hq⟩
  ·rename_i he;rw[if_neg he]at hq;exact⟨T',H',G',r',rfl,hs',hq⟩
 | _=>exact⟨T',H',G',r',rfl,hs',hq⟩
abbrev Ah4:=@Nat.le_of_not_lt
theorem XCode.loop {c:Code}{Q:XQ}{T:List AV}{H:AH}{r:Loop}(I:Nat→List AV→AH→Loop→Prop)(n0:Nat)(h0:I n0 T H r)
  (round:∀n T H r,I n T H r→XCode P l G0 c (XQ.then (λT' H' r'=>∃n',n'<n∧I n' T' H' r') Q) T H r):XCode P l G0 (.loop c) Q T H r:=by
 intro G a hs
 let J:Nat→Act→World→Prop:=λn a w=>∃(T:List AV) (H:AH) (G':Cfg) (r:Loop),G'.w=w∧XSt l G0 G' T H r a∧I n T H r
 have least:∀a w,(∃n,J n a w)→∃n,J n a w∧∀m,J m a w→n≤m:=by
  intro a w ⟨n,hn⟩
  induction n using Nat.strongRecOn with
  | _ n ih=>
   by_cases h:∃m,m<n∧J m a w
   ·obtain⟨m,hm,hj⟩:=h;exact ih m hm hj
   ·exact⟨n,hn,λm hm=>Ah4 λhlt=>h ⟨m,hlt,hm⟩⟩
 have hμ:∃μ:Act→World→Nat,∀a w,(∃n,J n a w)→J (μ a w) a w∧∀m,J m a w→μ a w≤m:=by
  classical
  refine⟨λa w=>if h:∃n,J n a w then Classical.choose (least a w h)else 0,λa w h=>?_⟩;simp only[dif_pos h];exact Classical.choose_spec (least a w h)
 obtain⟨μ,hμ⟩:=hμ;refine wpIn_loop (λa w=>∃n,J n a w) μ ⟨n0,T,H,G,r,rfl,hs,h0⟩ ?_;intro a w hJ;obtain⟨⟨T1,H1,G1,r1,rfl,hs1,hI⟩,_⟩:=hμ a w hJ;refine Code.wpIn_mono ?_ (round _ T1 H1 r1 hI G1 a hs1);rintro e a' w' ⟨T',H',G',r',rfl,hs',hq⟩;cases e with
 | normal=>
  obtain⟨n',hlt,hI'⟩:=hq;have hJ':J n' a' G'.w:=⟨T',H',G',r',rfl,hs',hI'⟩;exact⟨⟨n',hJ'⟩,Nat.lt_of_le_of_lt ((hμ a' G'.w ⟨n',hJ'⟩).2 _ hJ') hlt⟩
 | _=>exact⟨T',H',G',r',rfl,hs',hq⟩
theorem XCode.weak {c:Code}{Q:XQ}{keep:List Bool}{T:List AV}{H:AH}{r:Loop}(hl:T.length=keep.length)(h:XCode P l G0 c Q (AY keep (NG keep T)) H r):XCode P l G0 c Q T H r:=
 λG a hs=>h G a ⟨hs.x,DL hl hs.f,hs.d,hs.h,hs.ra⟩
theorem XCode.region {id:Nat}{ops:Array Oper}{Q:XQ}{T:List AV}{H:AH}{r:Loop}(h:XOps P l G0 ops Q ops.toList T H r):XCode P l G0 (.region id ops false) Q T H r:=
 λG a hs=>wpIn_region_list (h G a hs)
theorem XOps.nil {ops:Array Oper}{Q:XQ}{T:List AV}{H:AH}{r:Loop}(h:Q .normal T H r):XOps P l G0 ops Q [] T H r:=λG a hs=>Oy h hs
theorem nC {F:Fence}{n:Nat}{o:Oper}{a:Act}{w:World}{K:Act→World→Prop}{Q Q':Exit→Act→World→Prop}(hq:∀e a w,e≠.normal→Q e a w→Q' e a w)(hh:o.wpIn F n P a w K Q):o.wpIn F n P a w K Q':=by
 have lo:LetsOut Q→LetsOut Q':=fun ⟨a,w,h⟩=>⟨a,w,hq _ _ _ (by simp) h⟩
 unfold Oper.wpIn at*;refine⟨hh.1,?_⟩;have hh:=hh.2;generalize (o.semAt F.round a.eval).run P w=r at*;cases r with
 | ok x w'=>
  cases x<;>simp only[Oper.uponIn]at hh⊢<;>
   first
    | exact hh
    | exact⟨hh.1,CallsIn.mono hh.2 (λe w'' he=>by cases e<;>first | exact he | exact hq _ _ _ (by simp) he | exact lo he)⟩
    | exact⟨hh.1,RoundIn.mono hh.2 (λe w'' he=>by cases e<;>first | exact he | exact hq _ _ _ (by simp) he | exact lo he)⟩
 | halt x w'=>cases x<;>simp only[Oper.uponIn]at hh⊢<;>first | exact hh | exact hq _ _ _ (by simp) hh
theorem PS {F:Fence}{n:Nat}{ops:Array Oper}{Q1 Q:Exit→Act→World→Prop}{l2:List Oper}(hn:∀a w,Q1 .normal a w→wpListIn F n P ops Q l2 a w)(he:∀e a w,e≠.normal→Q1 e a w→Q e a w):
  ∀(l1:List Oper) (a:Act) (w:World),wpListIn F n P ops Q1 l1 a w→wpListIn F n P ops Q (l1++l2) a w
 | [],a,w,h=>hn a w h
 | o::l1,a,w,h=>by
  show wpListIn F n P ops Q (o::(l1++l2)) a w
  unfold wpListIn at h⊢
  split
  ·rename_i hw
   rw[if_pos hw]at h;exact nC he (Oper.wpIn_mono (λa w=>PS hn he l1 a w) h)
  ·rename_i hw
   rw[if_neg hw]at h;exact⟨h.1,PS hn he l1 _ _ h.2⟩
theorem XOps.pre {ql al:FuncId→Bool}{ops:Array Oper}{l1 l2:List Oper}{Q:XQ}{T:List AV}{H:AH}{r:Loop}{K:List AV→AH→Prop}(h:Md P ql al false ops l1 T H K)(hk:∀T' H',K T' H'→XOps P l G0 ops Q l2 T' H' r):XOps P l G0 ops Q (l1++l2) T H r:=by
 intro G a hs;have h1:AOps P ops (λe T H=>match e with | .normal=>K T H | _=>False) l1 T H:=V4 l1 T H K (λ_ _ h=>h) h;refine PS ?_ ?_ l1 a G.w (h1 G G a (none,G0.w.heap.size) (Evo.refl G) hs.f hs.d hs.h)
 ·rintro a w ⟨T',H',G',rfl,hE,hF,hd,hH,hq⟩
  exact hk T' H' hq G' a ⟨hs.x.trans hE.x,hF,hd,hH,hs.ra.evo hE⟩
 ·rintro e a w hne ⟨T',H',G',rfl,hE,hF,hd,hH,hq⟩
  cases e with
  | normal=>exact absurd rfl hne
  | _=>exact hq.elim
theorem XOps.yield {ops:Array Oper}{Q:XQ}{o:Oper}{rest:List Oper}{T T0:List AV}{H:AH}{rec:Loop}{p:Tmp}{f x:Operand}{ats:Array TypeId}{J:AH→Prop}{X:Code→AH→Prop}
  (ho:o.op=.call {callee:=.value f,args:=#[x],argTypes:=ats}) (hg:o.guard=none) (hf:Br T f=.lit (.func (.yield l) #[] #[]))
  (hrd:rec.state=.ready) (hpd:rec.pending=none) (hps:rec.params= #[p]) (hT:∀G,EvoX l G0 G→VRs G T0 rec.tmps.toList) (hr:Wo P rec.assign rec.body T0 p (Br T x) H J X)
  (h1:∀H',J H'→XOps P l G0 ops Q rest (Dh T o.dst (B true)) H' rec) (h2:∀c H',X c H'→XOps P l G0 ops Q rest (Dh T o.dst (B false)) H' {rec with state:=.done,pending:=some c}):XOps P l G0 ops Q (o::rest) T H rec:=by
 intro G a hs;unfold wpListIn;have hw:Region.wanted o (yielded ops a.tmps)=true:=by unfold Region.wanted;rw[hg]
 rw[if_pos hw];have hfv:=hs.f.eval f;rw[hf]at hfv;simp only[VR]at hfv;obtain⟨fn,tm,ag,bd,hy,hR⟩:=Z1 hs.h hs.ra hrd hpd hps (hT G hs.x) (hs.f.eval x) hr;have hnd:∀c,o.op≠.defer c:=λc hc=>by rw[ho]at hc;cases hc
 refine⟨λ_ _=>trivial,?_⟩;rw[Oper.semAt_eq _ _ _ hnd]
 have hrun:(execOp a.eval o).run P G.w=.ok (.round l fn tm ag bd) G.w:=by
  obtain⟨dst,op,type,pos,after,guard⟩:=o;simp only at ho;subst ho;simp[execOp,resolve,hfv,Deferred.ofValue,invoke];exact hy
 rw[hrun];refine⟨λhn=>(by simp[Fence.wide]at hn),RoundIn.mono hR ?_⟩;rintro e w' ⟨G',H',rfl,hX,hH',⟨rfl,hR',hj⟩ | ⟨rfl,c,hR',hx⟩⟩
 ·exact h1 H' hj G' _ ⟨hs.x.trans hX,FR.put (VRs.tr hX.tr hs.f) o.dst (by simp only[VR]),(hs.d.x (a':=a) hX rfl (IF hs.ra.h) (λh=>by cases h)).put _ _,hH',hR'⟩
 ·exact h2 c H' hx G' _ ⟨hs.x.trans hX,FR.put (VRs.tr hX.tr hs.f) o.dst (by simp only[VR]),(hs.d.x (a':=a) hX rfl (IF hs.ra.h) (λh=>by cases h)).put _ _,hH',hR'⟩
theorem Pq {fn:Func}{tmps:Array Value}{R:Ending→World→Prop}{T:List AV}{H:AH}{r:Loop}(hl:l<G0.w.heap.size)(K:∀G:Cfg,EvoX l G0 G→FR G T {tmps,defers:=[]}→HR G H→RecAt G l r→LeavesIn Fence.wide 0 P fn tmps R [] .returning G.w):
  ∀(Ds:List Nat) (G:Cfg),EvoX l G0 G→FR G T {tmps,defers:=[]}→HR G H→RecAt G l r→Ds.Nodup→(∀D∈Ds,G0.w.heap.size≤D∧¬G.L D∧G.w.heap[D]?=some (.deferred (some [])))→
   LeavesInM Fence.wide 0 P fn tmps R (Ds.map lN) .returning G.w
 | [],G,hE,hF,hH,hr,_,_=>K G hE hF hH hr
 | D::Ds,G,hE,hF,hH,hr,hn,hD=>by
  obtain⟨h1,h2,h3⟩:=hD D (.head _);obtain⟨hni,hn'⟩:=Ak4.1 hn;refine⟨by simp,.inl ⟨D,_,rfl,run_takeDeferred h3,?_⟩⟩;have hc:∀c e f,Obj.deferred (some [])≠.cells c e f:=by intro c e f h;cases h
  have ht:=Tr.put h3 hc (.deferred none);refine Pq hl K Ds (G.put D (.deferred none)) ?_ (VRs.tr ht hF) (hH.putO (fun o z ho (e:(G.μ o).1=D)=>h2 (by have:=hH.live o z ho;rwa[e]at this)) h3 hc _) ⟨?_,hr.nl⟩ hn' λD' hD'=>?_
  ·refine⟨hE.os,hE.tape,hE.output,?_,λk hk hne hL=>?_,hE.n,hE.μ,hE.K,λad vs hh=>ht.has ad vs (hE.has ad vs hh)⟩
   ·simp only[Cfg.put,World.putObj];simpa using hE.size
   ·obtain⟨e1,l1⟩:=hE.keep k hk hne hL
    refine⟨?_,l1⟩;simp only[Cfg.put];rw[World.putObj_heap_other (by omega)];exact e1
  ·simp only[Cfg.put]
   rw[World.putObj_heap_other (by omega)];exact hr.h
  ·obtain⟨a1,a2,a3⟩:=hD D' (.tail _ hD')
   refine⟨a1,a2,?_⟩;simp only[Cfg.put];rw[World.putObj_heap_other (λe=>hni (by rw[← e];exact hD'))];exact a3
theorem XB {k:FuncId}{fn:Func}{c:Code}{cap xs:List AV}{Cap:AH→Prop}(hf:P.funcs[k]?=some fn)(hb:fn.body=some c)(hres:fn.results= #[])
  (h:∀(l:Nat) (G0:Cfg) (rec:Loop) (T:List AV) (p:Tmp) (H:AH) (J:Nat→AH→Prop) (X:Code→AH→Prop),rec.state=.ready→rec.pending=none→rec.params= #[p]→(∀G,EvoX l G0 G→VRs G T rec.tmps.toList)→J 0 H→(∀i H',J i H'→Cap H')→(∀i x H',xs[i]?=some x→J i H'→Wo P rec.assign rec.body T p x H' (J (i+1)) X)→
   XCode P l G0 c (λe _ H' r=>(e=.normal∨e=.ret)∧((r=rec∧J xs.length H')∨∃c,r={rec with state:=.done,pending:=some c}∧X c H')) ((.lit (.func (.yield l) #[] #[])::cap)++List.replicate (fn.ntmps - (cap.length+1)) AE) H rec):Xe P k cap Cap xs:=by
 intro G l rec T p H vc J X hH hR hrd hpd hps hT hvc h0 hcap hr;have hlen:=hvc.length;refine callsIn_of_wp_marks (F:=FW none) (n:=0) hf hb trivial ?_ rfl
 have hF:FR G ((.lit (.func (.yield l) #[] #[])::cap)++List.replicate (fn.ntmps - (cap.length+1)) AE) {tmps:=(#[Value.func (.yield l) #[] #[]]++vc.toArray)++Array.replicate (fn.ntmps - (#[Value.func (.yield l) #[] #[]]++vc.toArray).size) undef,defers:=[]}:=by
  unfold FR;simp only[Ab7,Aa1];rw[hlen,show([Value.func (.yield l) #[] #[]]:List Value).length+vc.length=vc.length+1 by simp;omega];refine VRs.append ?_ (VRs.replicate (by simp only[AE,VR]) _);exact .cons (by simp only[VR]) hvc
 have hl:l<G.w.heap.size:=(Array.getElem?_eq_some_iff.1 hR.h).1;have hx:=h l G rec T p H J X hrd hpd hps (λG' hE=>VRs.tr hE.tr hT) h0 hcap hr G _ ⟨(Evo.refl G).x,hF,⟨⟨[],rfl,Ao3,λ_ h=>(by cases h)⟩,λ_ h=>(by cases h),Ac6 _⟩,hH,hR⟩;refine Code.wpIn_mono ?_ hx;rintro e a w ⟨T',H',G',r',rfl,hs,he,hq⟩;obtain⟨⟨Ds,e1,e2,e3⟩,-,-⟩:=hs.d;simp only at e3
 have:LeavesInM Fence.wide 0 P fn a.tmps (λe W'=>(∃v,e=.returned v)∧∃(G':Cfg) (H':AH),G'.w=W'∧EvoX l G G'∧HR G' H'∧((RecAt G' l rec∧J xs.length H')∨∃c,RecAt G' l {rec with state:=.done,pending:=some c}∧X c H')) a.defers .returning G'.w:=by
  rw[e1];refine Pq (G0:=G) hl (λG2 hE2 hF2 hH2 hR2=>?_) Ds G' hs.x hs.f hs.h hs.ra e2 e3;obtain⟨v,hrun,-⟩:=V0 (P:=P) hH2 hF2 (fn:=fn) (xs:=[]) (by rw[hres];rfl);refine⟨v,hrun,⟨v,rfl⟩,G2,H',rfl,hE2,hH2,?_⟩;rcases hq with⟨rfl,hj⟩ | ⟨c,rfl,hx⟩
  ·exact .inl ⟨hR2,hj⟩
  ·exact .inr ⟨c,hR2,hx⟩
 rcases he with rfl | rfl<;>exact this
theorem XCode.seqP {fl:C0}{ql al:FuncId→Bool}{un:Nat→Bool}{kp:Nat→Option (List Bool)}{x y:Code}{n:Nat}{keep:List Bool}{Q:XQ}{T:List AV}{H:AH}{r:Loop}(hm:P.follows .mixedOrders=true)(hc:CE fl ql un x=true)
  (hQ:∀e T T' H,e≠.normal→Q e T H r→Q e T' H r) (h:AG P fl ql al un kp x n T H (λe T H=>fP keep T λX=>(XQ.then (λT H r=>XCode P l G0 y Q T H r) Q) e (AY keep X) H r)):XCode P l G0 (.seq x y) Q T H r:=by
 refine XCode.seq (XCode.of ((DR hm x n T H _ hc h).mono ?_));intro e T' H' hk;obtain⟨hl,hk⟩:=BI.1 hk;cases e with
 | normal=>exact XCode.weak hl hk
 | _=>exact hQ _ _ _ _ (by simp) hk
theorem XCode.seqN {fl:C0}{ql al:FuncId→Bool}{un:Nat→Bool}{kp:Nat→Option (List Bool)}{x y:Code}{n:Nat}{keep:List Bool}{Q:XQ}{T:List AV}{H:AH}{r:Loop}(hm:P.follows .mixedOrders=true)(hc:CE fl ql un x=true)
  (h:AG P fl ql al un kp x n T H (λe T H=>fP keep T λX=>e=.normal∧XCode P l G0 y Q (AY keep X) H r)):XCode P l G0 (.seq x y) Q T H r:=by
 refine XCode.seq (XCode.of ((DR hm x n T H _ hc h).mono ?_));intro e T' H' hk;obtain⟨hl,he,h2⟩:=BI.1 hk;subst he;exact XCode.weak hl h2
theorem XOps.weak {ops:Array Oper}{Q:XQ}{keep:List Bool}{lst:List Oper}{T:List AV}{H:AH}{r:Loop}(hl:T.length=keep.length)(h:XOps P l G0 ops Q lst (AY keep (NG keep T)) H r):XOps P l G0 ops Q lst T H r:=
 λG a hs=>h G a ⟨hs.x,DL hl hs.f,hs.d,hs.h,hs.ra⟩
theorem XOps.preP {ql al:FuncId→Bool}{ops:Array Oper}{l1 l2:List Oper}{Q:XQ}{keep:List Bool}{T:List AV}{H:AH}{r:Loop}(h:Md P ql al false ops l1 T H (λT H=>fP keep T λX=>XOps P l G0 ops Q l2 (AY keep X) H r)):XOps P l G0 ops Q (l1++l2) T H r:=
 XOps.pre h λT' H' hk=>by
  obtain⟨hl,hk⟩:=BI.1 hk;exact XOps.weak hl hk
end
end
section
def May (n:Int):Prop:=0≤n∧n≤4611686018427387904
instance (n:Int):Decidable (May n):=by unfold May;infer_instance
theorem WL (n:Int):BPure prog 169 [I n] (B (decide (May n))):=BPure.flat λH=>aS (by
 unfold dF
 by_cases h1:0≤n<;>by_cases h2:n≤4611686018427387904<;>simp[May,h1,h2])
structure Sp where
 pos:Int
 len:Int
 deriving DecidableEq,Inhabited
def BY (s:Sp):List AV:=[I s.pos,I s.len]
theorem W5 (s:Sp):(BY s).length=2:=rfl
def MaySpan (s:Sp):Prop:=May s.pos∧May s.len∧s.len≤4611686018427387904 - s.pos
instance (s:Sp):Decidable (MaySpan s):=by unfold MaySpan;infer_instance
theorem Fr (s:Sp):BPure prog 111 [.agg (BY s)] (B (decide (MaySpan s))):=BPure.val rfl rfl (Vp (by
 unfold To;obtain⟨p,n⟩:=s;simp[BY,IU];refine A1 (WL _) ?_
 by_cases h1:May p
 ·have h1':=h1
  unfold May at h1';simp[h1];refine A1 (WL _) ?_
  by_cases h2:May n
  ·simp[h2,BP (a:=4611686018427387904) (b:=p) (by omega) (by omega),MaySpan,h1]
  ·simp[h2,MaySpan]
 ·simp[h1,MaySpan]))
def LY (a b:Sp):Sp:=
 if MaySpan a∧MaySpan b∧max a.pos b.pos<min (a.pos+a.len) (b.pos+b.len)then⟨max a.pos b.pos,min (a.pos+a.len) (b.pos+b.len) - max a.pos b.pos⟩else⟨0,0⟩
theorem PK (a b:Sp):BPure prog 55 [.agg (BY a),.agg (BY b)] (.agg (BY (LY a b))):=BPure.val rfl rfl (Zl (by
 unfold Zk;simp[BY,IU,Am];refine A1 (Fr a) ?_
 by_cases h1:MaySpan a
 ·simp[h1]
  refine A1 (Fr b) ?_
  by_cases h2:MaySpan b
  ·have h1':=h1
   have h2':=h2;simp only[MaySpan,May]at h1' h2';obtain⟨p,n⟩:=a;obtain⟨q,m⟩:=b;simp only at h1' h2';simp[h2,Ax (a:=p) (b:=n) (by omega) (by omega),Ax (a:=q) (b:=m) (by omega) (by omega)]
   by_cases h3:max p q<min (p+n) (q+m)
   ·have h3':¬min (q+m) (p+n)≤max q p:=by omega
    simp[h3',BP (a:=min (q+m) (p+n)) (b:=max q p) (by omega) (by omega),AR,LY,h1,h2,h3];omega
   ·have h3':min (q+m) (p+n)≤max q p:=by omega
    simp[h3',AR,LY,h3]
  ·simp[h2,AR,LY]
 ·simp[h1,AR,LY]))
theorem sU (a b c d:Int):M7 prog .eql 119 (.agg [I a,I b]) (.agg [I c,I d])=some (B (a==c&&(b==d&&true))):=by kernel_rfl
theorem uJ (x y:Sp):(x.pos==y.pos&&(x.len==y.len&&true))=decide (x=y):=by
 obtain⟨a,b⟩:=x;obtain⟨c,d⟩:=y
 by_cases h1:a=c<;>by_cases h2:b=d<;>simp[h1,h2]
theorem yN (x y:Sp):M7 prog .eql 119 (.agg (BY x)) (.agg (BY y))=some (B (decide (x=y))):=by rw[← uJ];exact sU _ _ _ _
def Within (a b:Sp):Prop:=MaySpan a∧MaySpan b∧(a.len=0∨LY a b=a)
instance (a b:Sp):Decidable (Within a b):=by unfold Within;infer_instance
theorem XI (a b:Sp):BPure prog 204 [.agg (BY a),.agg (BY b)] (B (decide (Within a b))):=BPure.val rfl rfl (Wi (by
 unfold Vq;simp[BY,IU,Am];refine A1 (Fr a) ?_
 by_cases h1:MaySpan a
 ·simp[h1]
  refine A1 (Fr b) ?_
  by_cases h2:MaySpan b
  ·by_cases h3:a.len=0
   ·simp[h2,h3,Within,h1]
   ·simp[h2,h3,Within,h1]
    refine bP_of (PK a b) ?_
    have:=yN (LY a b) a
    simp only[BY]at this⊢;simp[this]
  ·simp[h2,Within]
 ·simp[h1,Within]))
def Co:Nat→Int→Int→Int→List Sp
 | 0,_,_,_=>[]
 | f+1,pos,len,unit=>if 0<len then⟨pos,min len (unit - pos % unit)⟩::Co f (pos+min len (unit - pos % unit)) (len - min len (unit - pos % unit)) unit else []
def DQ (s:Sp)(unit:Int):List Sp:=if MaySpan s∧s.len≤4096∧1≤unit then Co s.len.toNat s.pos s.len unit else []
abbrev Ak2:=@Int.emod_lt_of_pos
abbrev Al8:=@Int.emod_nonneg
theorem U9 {f:Nat}{pos len unit:Int}(hf:len.toNat≤f)(hl:0<len)(hp:0≤pos)(hu:1≤unit):Co f pos len unit=⟨pos,min len (unit - pos % unit)⟩::Co (len - min len (unit - pos % unit)).toNat (pos+min len (unit - pos % unit)) (len - min len (unit - pos % unit)) unit:=by
 induction f using Nat.strongRecOn generalizing pos len with
 | _ f ih=>
  have h1:=Ak2 pos (show 0<unit by omega);have h2:=Al8 pos (show unit≠0 by omega);cases f with
  | zero=>omega
  | succ f=>
   simp only[Co,hl,if_true]
   congr 1
   have hm:1≤min len (unit - pos % unit):=by omega
   generalize min len (unit - pos % unit)=m at*
   have more:∀(a b:Nat) (p n:Int),n.toNat≤a→n.toNat≤b→0≤p→Co a p n unit=Co b p n unit:=by
    intro a
    induction a with
    | zero=>
     intro b p n ha hb hp;cases b with
     | zero=>rfl
     | succ b=>simp only[Co];rw[if_neg (by omega)]
    | succ a iha=>
     intro b p n ha hb hp;have h1:=Ak2 p (show 0<unit by omega);have h2:=Al8 p (show unit≠0 by omega);cases b with
     | zero=>simp only[Co];rw[if_neg (by omega)]
     | succ b=>
      simp only[Co]
      split
      ·rw[iha b _ _ (by omega) (by omega) (by omega)]
      ·rfl
   exact more _ _ _ _ (by omega) (by omega) (by omega)
theorem UA {f:Nat}{pos len unit:Int}(hl:¬0<len):Co f pos len unit=[]:=by
 cases f with
 | zero=>rfl
 | succ f=>simp only[Co,if_neg hl]
theorem gT (l:List Sp):A3 (l.flatMap BY)=true:=by
 induction l with
 | nil=>rfl
 | cons a l ih=>rw[Ae9];simp[BY,A3,noIds];simpa[BY]using ih
theorem Tq (s:Sp){unit:Int}(hu:unit≤9223372036854775807):∃v,SV BY 2 (DQ s unit) v∧BPure prog 99 [.agg (BY s),I unit] v:=by
 refine BPure.sl (sz:=2) rfl (gT _) (XH ?_);unfold WM;obtain⟨p,n⟩:=s;simp[BY,Am];refine A1 (Fr ⟨p,n⟩) ?_
 by_cases h1:MaySpan ⟨p,n⟩
 ·simp[h1]
  by_cases h2:4096<n
  ·have:DQ ⟨p,n⟩ unit=[]:=if_neg (by simp only;omega)
   simp[h2,this,Aa]
  ·simp[h2]
   by_cases h3:unit<1
   ·have:DQ ⟨p,n⟩ unit=[]:=if_neg (by omega)
    simp[h3,this,Aa]
   ·simp[h3]
    have hP:DQ ⟨p,n⟩ unit=Co n.toNat p n unit:=if_pos ⟨h1,by simp only;omega,by omega⟩;simp only[MaySpan,May]at h1;refine Rg (λk x1 x2 x5 H=>∃(pos len:Int) (l:List Sp),k=len.toNat∧x1=I unit∧x2=.ptr 0 0∧H[0]?=some (some (.cells [I pos,I len]))∧AP x5=true∧Aa H 2 x5=some (l.flatMap BY,l.length)∧0∉AT x5∧
     0≤pos∧0≤len∧pos+len≤4611686018427387904∧(l.length:Int)+len≤4096∧l++Co len.toNat pos len unit=Co n.toNat p n unit) ?_ n.toNat
     ⟨p,n,[],rfl,rfl,rfl,rfl,rfl,rfl,by simp[AT],by omega,by omega,by omega,by simp;omega,rfl⟩
    rintro k x1 x2 x5 H R hR ⟨pos,len,l,rfl,rfl,rfl,hH,ho,hs,hid,hp,hl,hpl,hll,hc⟩;unfold NE;have e1:=Ak2 pos (show 0<unit by omega);have e2:=Al8 pos (show unit≠0 by omega)
    by_cases hlen:0<len
    ·rw[U9 (Ac6 _) hlen hp (by omega)]at hc
     have hcomm:min (unit - pos % unit) len=min len (unit - pos % unit):=by omega
     have hm1:1≤min len (unit - pos % unit):=by omega
     have hm2:min len (unit - pos % unit)≤len:=by omega
     generalize min len (unit - pos % unit)=m at hcomm hm1 hm2 hc;have hH0:=(B8.1 hH).1;have hs1:Aa (H++[some (.cells [I pos,I m])]) 2 x5=some (l.flatMap BY,l.length):=Ae hs λi hi=>Ac3 (A2 hs i hi)
     obtain⟨r,H2,a1,a2,a3,a4,a5,a6⟩:=CL (bytes:=16) hs1 ho (AI (v:=.sl H.length 0 1 2 (.ex 1)) (q:=([I pos,I m],1)) (by simp[Aa])) (by omega)
     have hH2:H2[0]?=some (some (.cells [I pos,I len])):=by
      rw[a5 0 (by simp) hid,Ac3 hH0];exact hH
     have hid2:0∉AT r:=λhi=>(a6 0 hi).elim hid (by simp)
     have hH20:=(B8.1 hH2).1
     have keep:∀c,Aa (H2.set 0 c) 2 r=some ((l++[(⟨pos,m⟩:Sp)]).flatMap BY,(l++[(⟨pos,m⟩:Sp)]).length):=λc=>by
      rw[Ae a3 (λi hi=>C2 (by rintro rfl;exact hid2 hi))];simp[BY]
     simp[hH,hlen,IA (a:=pos) (b:=unit) (by omega) (by omega),BP (a:=unit) (b:=pos % unit) (by omega) (by omega),hcomm,a1,hH2,Ax (a:=pos) (b:=m) (by omega) (by omega),BP (a:=len) (b:=m) (by omega) (by omega),AR];refine hR (len - m).toNat _ _ _ _ (by omega) ?_;exact⟨pos+m,len - m,l++[(⟨pos,m⟩:Sp)],rfl,rfl,rfl,by simp[hH20],a2,keep _,hid2,by omega,by omega,by omega,by simp;omega,by simpa using hc⟩
    ·rw[UA hlen,Af5]at hc
     simp[hH,hlen];rw[hP,← hc];exact hs
 ·have:DQ ⟨p,n⟩ unit=[]:=if_neg (λh=>h1 h.1)
  simp[h1,this,Aa]
def down (n unit:Int):Int:=if May n∧1≤unit then n - n % unit else 0
def PV (a b:Sp):Prop:=MaySpan a∧MaySpan b∧(a.len=0∨(b.pos≤a.pos∧a.pos+a.len≤b.pos+b.len))
instance (a b:Sp):Decidable (PV a b):=by unfold PV;infer_instance
theorem bQ (a b:Sp):Within a b↔PV a b:=by
 unfold Within PV
 by_cases h1:MaySpan a<;>by_cases h2:MaySpan b<;>simp[h1,h2]
 have h1':=h1;have h2':=h2;simp only[MaySpan,May]at h1' h2'
 by_cases h0:a.len=0
 ·simp[h0]
 ·simp only[h0,false_or]
  unfold LY;obtain⟨p,n⟩:=a;obtain⟨q,m⟩:=b;simp only at h1' h2' h0⊢
  split
  ·rename_i h;simp only[Sp.mk.injEq];omega
  ·rename_i h
   simp only[h1,h2,true_and]at h;simp only[Sp.mk.injEq];omega
end
end Go.Proofs.YtbppnhenlboefaaGreat.Av
