/- The law and its row. No condition. -/
import Derived.Test.YtlhiaihmkjlaaaaGreatMrI
set_option linter.unusedVariables false
set_option maxRecDepth 100000
section
namespace Go.Proofs.YtlhiaihmkjlaaaaGreat.Av
open Go
def pqg : FuncId→Bool:=inL [61,60,39,35,33,90,70,29,69,65,71,72,73,36,142,144,37,66,105,118,131,130,101,143,145,159,104,134,135,136,133,46,139,99,132,98,157,164,137,18,11,40,52,10]
def zqqZ (a0 : AV) (H : AH) (K : KT) : Prop :=
bO (amm imx [a0,(I 0)]) λv0=>
bO (amm imn [v0,(I 4096)]) λv1=>
bO (abl [nilSl,nilSl,nilSl,nilSl,nilSl,(I 0),(I 0),(I 0),(B false)] [(5,1,v1),(7,1,(I (-1)))]) λv2=>
bH (anew H v2) λv3 H4=>
K v3 H4
theorem zyfZ {a0 : AV} {H : AH} {K : KT} (h : zqqZ a0 H K) : OKP 31 [a0] H K :=
 fok nofl pqg nokp Tryz.func31 (by kernel_rfl) (by kernel_rfl) h
def zohZ (a0 : AV) (H : AH) (K : KT) : Prop :=
bO (zgZ a0) λv0=>
bO (zhZ 5 v0) λv1=>
bO (ald false 1 H v1) λv2=>
bO (zgZ a0) λv3=>
bO (zhZ 0 v3) λv4=>
bO (ald true 2 H v4) λv5=>
bP (BPure Tryz.prog 164 [v5]) λv6=>
bO (abI .sub v2 v6) λv7=>
bO (amm imx [v7,(I 0)]) λv8=>
K v8 H
theorem zufZ {a0 : AV} {H : AH} {K : KT} (h : zohZ a0 H K) : OKP 110 [a0] H K :=
 fok nofl pqg nokp Tryz.func110 (by kernel_rfl) (by kernel_rfl) h
def zpoZ (a0 a1 : AV) (H : AH) (K : KT) : Prop :=
bO (amm imx [a1,(I (-1))]) λv0=>
bO (zgZ a0) λv1=>
bO (zhZ 7 v1) λv2=>
bS (ast 1 H v2 v0) λH3=>
K (.tup []) H3
theorem zwtZ {a0 a1 : AV} {H : AH} {K : KT} (h : zpoZ a0 a1 H K) : OKP 42 [a0,a1] H K :=
 fok nofl pqg nokp Tryz.func42 (by kernel_rfl) (by kernel_rfl) h
def zhrZ : Nat→Option (List Bool):=kpOf [(5,mk 56 0 [0,1,4]),(2,mk 56 0 [0,1,4])]
def zdnZ (p : List Bool) (n : Nat) : List AV→AH→Kf→Prop:=sCode Tryz.prog nofl pqg none0 none0 zhrZ (sub p (zhyZ Tryz.f84)) n
def zeqZ (R2 : RT) (x0 x1 x4 : AV) (H : AH) (K : KT) : Prop:=jn (mk 56 0 [0,1,4]) (zdnZ [fF,tT,fF,fF,tT,tT] 7) [x0,x1,x4] H (kLp (mk 56 0 [0,1,4]) R2 (kBlk 0 (kSeq (zdnZ [tT] 7) (kRet Tryz.prog Tryz.f84.results.toList K))))
def zhnZ (x0 x1 x4 : AV) (H : AH) (K : KT) : Prop:=lp (mk 56 0 [0,1,4]) (zdnZ [fF,tT,fF,fF] 3) [x0,x1,x4] H (kBlk 0 (kSeq (zdnZ [tT] 7) (kRet Tryz.prog Tryz.f84.results.toList K)))
def zdzZ (R2 : RT) (x0 x1 x4 : AV) (H : AH) (K : KT) : Prop :=
bO (abI .add x4 (I 1)) λv0=>
R2 [x0,x1,v0] H
theorem zggZ (R2 : RT) (x0 x1 x4 : AV) (H : AH) (K : KT) : zeqZ R2 x0 x1 x4 H K=zdzZ R2 x0 x1 x4 H K:=(jn_eq _ _ _ _ _).trans (by kernel_rfl)
def zguZ (R2 : RT) (x0 x1 x4 : AV) (H : AH) (K : KT) : Prop :=
bO (zgZ x0) λv0=>
bO (zhZ 4 v0) λv1=>
bO (ald false 1 H v1) λv2=>
bO (alnS v2) λv3=>
bO (abI .lss x4 v3) λv4=>
bG v4 true λw5=>
gO w5 (some x4) λv6=>
bG v4 true λw7=>
gO w7 (some x1) λv8=>
bG v4 true λw9=>
gO w9 (alnS v8) λv10=>
bG v4 true λw11=>
gO w11 (abI .lss v6 v10) λv12=>
bO (apick v4 v12 (B false)) λv13=>
bB v13 λt14=>bI t14 (
bO (aixS 1 x1 x4) λv15=>
bO (ald false 1 H v15) λv16=>
bB v16 λt17=>bI t17 (
bO (zgZ x0) λv18=>
bO (zhZ 2 v18) λv19=>
bO (ald true 2 H v19) λv20=>
bO (zgZ x0) λv21=>
bO (zhZ 4 v21) λv22=>
bO (ald false 1 H v22) λv23=>
bO (aixS 8 v23 x4) λv24=>
bO (ald true 8 H v24) λv25=>
bP (BPure Tryz.prog 139 [v20,v25]) λv26=>
bO (zgZ x0) λv27=>
bO (zhZ 2 v27) λv28=>
bS (ast 2 H v28 v26) λH29=>
zeqZ R2 x0 x1 x4 H29 K)
 (zeqZ R2 x0 x1 x4 H K))
 (bO (zgZ x0) λv30=>
bO (zhZ 2 v30) λv31=>
bO (ald true 2 H v31) λv32=>
bC (BCall Tryz.prog 140 [v32] H) λv33 H34=>
bO (zgZ x0) λv35=>
bO (zhZ 0 v35) λv36=>
bS (ast 2 H34 v36 v33) λH37=>
bO (zgZ x0) λv38=>
bO (zhZ 4 v38) λv39=>
bS (ast 1 H37 v39 nilSl) λH40=>
bO (zgZ x0) λv41=>
bO (zhZ 7 v41) λv42=>
bS (ast 1 H40 v42 (I (-1))) λH43=>
bO (zgZ x0) λv44=>
bO (zhZ 8 v44) λv45=>
bS (ast 1 H43 v45 (B false)) λH46=>
K (.tup []) H46)
theorem zmaZ {K : KT} : RL3 (λR x0 x1 x4 H=>zguZ R x0 x1 x4 H K) (λx0 x1 x4 H=>zhnZ x0 x1 x4 H K):=lpr3 (zvZ _ _) (λ_ _ _ _ _=>by kernel_rfl)
def zkzZ (a0 a1 : AV) (H : AH) (K : KT) : Prop :=
zhnZ a0 a1 (I 0) H K
theorem zqnZ {a0 a1 : AV} {H : AH} {K : KT} (h : zkzZ a0 a1 H K) : OKP 84 [a0,a1] H K :=
 fok nofl pqg zhrZ Tryz.func84 (by kernel_rfl) (by kernel_rfl) h
def zkyZ : Nat→Option (List Bool):=kpOf [(3,mk 35 0 [0]),(4,mk 35 0 [0,22]),(1,mk 35 0 [0])]
def zeiZ (p : List Bool) (n : Nat) : List AV→AH→Kf→Prop:=sCode Tryz.prog nofl pqg none0 none0 zkyZ (sub p (zhyZ Tryz.f138)) n
def zeaZ (x0 : AV) (H : AH) (K : KT) : Prop:=jn (mk 35 0 [0]) (zeiZ [tT,tT,tT] 5) [x0] H (kRet Tryz.prog Tryz.f138.results.toList K)
def zklZ (x0 x22 : AV) (H : AH) (K : KT) : Prop:=jn (mk 35 0 [0,22]) (zeiZ [tT,tT,fF,tT] 5) [x0,x22] H (kSeq (cutC (mk 35 0 [0]) (zeiZ [tT,tT,tT] 5)) (kRet Tryz.prog Tryz.f138.results.toList K))
def zdyZ (x0 : AV) (H : AH) (K : KT) : Prop:=jn (mk 35 0 [0]) (zeiZ [tT,tT] 3) [x0] H (kRet Tryz.prog Tryz.f138.results.toList K)
def ziqZ (x0 : AV) (H : AH) (K : KT) : Prop :=
bO (zgZ x0) λv0=>
bO (zhZ 8 v0) λv1=>
bO (ald false 1 H v1) λv2=>
bO (aun .not v2) λv3=>
K v3 H
theorem zqjZ (x0 : AV) (H : AH) (K : KT) : zeaZ x0 H K=ziqZ x0 H K:=(jn_eq _ _ _ _ _).trans (by kernel_rfl)
def zexZ (x0 x22 : AV) (H : AH) (K : KT) : Prop :=
bB x22 λt0=>bI t0 (
bO (zgZ x0) λv1=>
bO (zhZ 7 v1) λv2=>
bO (ald false 1 H v2) λv3=>
bO (abI .sub v3 (I 1)) λv4=>
bO (zgZ x0) λv5=>
bO (zhZ 7 v5) λv6=>
bS (ast 1 H v6 v4) λH7=>
zeaZ x0 H7 K)
 (zeaZ x0 H K)
theorem zhoZ (x0 x22 : AV) (H : AH) (K : KT) : zklZ x0 x22 H K=zexZ x0 x22 H K:=(jn_eq _ _ _ _ _).trans (by kernel_rfl)
def ziiZ (x0 : AV) (H : AH) (K : KT) : Prop :=
bO (zgZ x0) λv0=>
bO (zhZ 8 v0) λv1=>
bO (ald false 1 H v1) λv2=>
bO (aun .not v2) λv3=>
bG v3 true λw4=>
gO w4 (some x0) λv5=>
bG v3 true λw6=>
gO w6 (zgZ v5) λv7=>
bG v3 true λw8=>
gO w8 (zhZ 7 v7) λv9=>
bG v3 true λw10=>
gO w10 (ald false 1 H v9) λv11=>
bG v3 true λw12=>
gO w12 (abI .gtr v11 (I 0)) λv13=>
bO (apick v3 v13 (B false)) λv14=>
zklZ x0 v14 H K
theorem zqhZ (x0 : AV) (H : AH) (K : KT) : zdyZ x0 H K=ziiZ x0 H K:=(jn_eq _ _ _ _ _).trans (by kernel_rfl)
def zofZ (a0 : AV) (H : AH) (K : KT) : Prop :=
bO (zgZ a0) λv0=>
bO (zhZ 7 v0) λv1=>
bO (ald false 1 H v1) λv2=>
bO (abI .eql v2 (I 0)) λv3=>
bB v3 λt4=>bI t4 (
bO (zgZ a0) λv5=>
bO (zhZ 8 v5) λv6=>
bS (ast 1 H v6 (B true)) λH7=>
zdyZ a0 H7 K)
 (zdyZ a0 H K)
theorem zulZ {a0 : AV} {H : AH} {K : KT} (h : zofZ a0 H K) : OKP 138 [a0] H K :=
 fok nofl pqg zkyZ Tryz.func138 (by kernel_rfl) (by kernel_rfl) h
def zkgZ (a0 a1 : AV) (H : AH) (K : KT) : Prop :=
bH (anew H a1) λv0 H1=>
bC (BCall Tryz.prog 138 [a0] H1) λv2 H3=>
bO (aun .not v2) λv4=>
bB v4 λt5=>bI t5 (
K (I 8) H3)
 (bO (zgZ a0) λv6=>
bO (zhZ 0 v6) λv7=>
bO (ald true 2 H3 v7) λv8=>
bO (ald true 8 H3 v0) λv9=>
bP (BPure Tryz.prog 139 [v8,v9]) λv10=>
bO (zgZ a0) λv11=>
bO (zhZ 0 v11) λv12=>
bS (ast 2 H3 v12 v10) λH13=>
bO (zhZ 7 v0) λv14=>
bO (ald false 1 H13 v14) λv15=>
bH (aap 1 1 H13 nilSl v15) λv16 H17=>
bO (zhZ 7 v0) λv18=>
bS (ast 1 H17 v18 v16) λH19=>
bO (zgZ a0) λv20=>
bO (zhZ 4 v20) λv21=>
bO (ald false 1 H19 v21) λv22=>
bO (ald true 8 H19 v0) λv23=>
bO (absf 8 1 (zrow [(I 0),(I 0),(I 0),(I 0),(B false),(.lit (.string ⟨#[]⟩)),(.lit (.string ⟨#[]⟩)),nilSl] 1) [(0,8,v23)]) λv24=>
bH (aap 8 96 H19 v22 v24) λv25 H26=>
bO (zgZ a0) λv27=>
bO (zhZ 4 v27) λv28=>
bS (ast 1 H26 v28 v25) λH29=>
K (I 0) H29)
theorem zneZ {a0 a1 : AV} {H : AH} {K : KT} (h : zkgZ a0 a1 H K) : OKP 100 [a0,a1] H K :=
 fok nofl pqg nokp Tryz.func100 (by kernel_rfl) (by kernel_rfl) h
def zogZ (a0 a1 a2 : AV) (H : AH) (K : KT) : Prop :=
bO (zgZ a0) λv0=>
bO (zhZ 8 v0) λv1=>
bO (ald false 1 H v1) λv2=>
bB v2 λt3=>bI t3 (
K (.tup [(I 0),(I 8)]) H)
 (bP (PCall Tryz.prog 98 [a1] H) λv4=>
bO (aun .not v4) λv5=>
bB v5 λt6=>bI t6 (
K (.tup [(I 0),(I 5)]) H)
 (bO (zgZ a0) λv7=>
bO (zhZ 0 v7) λv8=>
bO (ald true 2 H v8) λv9=>
bP (PCall Tryz.prog 99 [v9,a1] H) λv10=>
bO (zjZ v10 0) λv11=>
bO (zjZ v10 1) λv12=>
bB v12 λt13=>bI t13 (
K (.tup [v11,(I 0)]) H)
 (bO (aun .not a2) λv14=>
bB v14 λt15=>bI t15 (
K (.tup [(I 0),(I 3)]) H)
 (bO (zgZ a0) λv16=>
bO (zhZ 0 v16) λv17=>
bO (zhZ 0 v17) λv18=>
bO (ald false 1 H v18) λv19=>
bO (alnS v19) λv20=>
bO (abI .geq v20 (I 16)) λv21=>
bB v21 λt22=>bI t22 (
K (.tup [(I 0),(I 4)]) H)
 (bO (zgZ a0) λv23=>
bO (zhZ 6 v23) λv24=>
bO (ald false 1 H v24) λv25=>
bO (abI .add v25 (I 1)) λv26=>
bO (abl [(I 0),(I 0),(I 0),(I 0),(B false),(.lit (.string ⟨#[]⟩)),(.lit (.string ⟨#[]⟩)),nilSl] [(0,1,(I 1)),(5,1,a1),(1,1,v26)]) λv27=>
bC (BCall Tryz.prog 100 [a0,v27] H) λv28 H29=>
bO (abI .neq v28 (I 0)) λv30=>
bB v30 λt31=>bI t31 (
K (.tup [(I 0),v28]) H29)
 (bO (zgZ a0) λv32=>
bO (zhZ 6 v32) λv33=>
bO (ald false 1 H29 v33) λv34=>
bO (abI .add v34 (I 1)) λv35=>
bO (zgZ a0) λv36=>
bO (zhZ 6 v36) λv37=>
bS (ast 1 H29 v37 v35) λH38=>
bO (zgZ a0) λv39=>
bO (zhZ 6 v39) λv40=>
bO (ald false 1 H38 v40) λv41=>
K (.tup [v41,(I 0)]) H38))))))
theorem ztuZ {a0 a1 a2 : AV} {H : AH} {K : KT} (h : zogZ a0 a1 a2 H K) : OKP 41 [a0,a1,a2] H K :=
 fok nofl pqg nokp Tryz.func41 (by kernel_rfl) (by kernel_rfl) h
def zfcZ (a0 a1 : AV) (H : AH) (K : KT) : Prop :=
bH (anew H (.agg [(I 0),nilSl])) λv0 H1=>
bO (zgZ a0) λv2=>
bO (zhZ 8 v2) λv3=>
bO (ald false 1 H1 v3) λv4=>
bB v4 λt5=>bI t5 (
bO (abl [(I 0),nilSl] []) λv6=>
bS (ast 2 H1 v0 v6) λH7=>
bO (ald true 2 H7 v0) λv8=>
K (.tup [v8,(I 8)]) H7)
 (bO (zgZ a0) λv9=>
bO (zhZ 0 v9) λv10=>
bO (ald true 2 H1 v10) λv11=>
bP (PCall Tryz.prog 132 [v11,a1] H1) λv12=>
bO (zjZ v12 0) λv13=>
bO (zjZ v12 1) λv14=>
bH (anew H1 (.agg [(I 0),nilSl])) λv15 H16=>
bS (ast 2 H16 v15 v13) λH17=>
bO (aun .not v14) λv18=>
bB v18 λt19=>bI t19 (
bO (abl [(I 0),nilSl] []) λv20=>
bS (ast 2 H17 v0 v20) λH21=>
bO (ald true 2 H21 v0) λv22=>
K (.tup [v22,(I 3)]) H21)
 (bO (ald true 2 H17 v15) λv23=>
bS (ast 2 H17 v0 v23) λH24=>
bO (ald true 2 H24 v0) λv25=>
K (.tup [v25,(I 0)]) H24))
theorem zgdZ {a0 a1 : AV} {H : AH} {K : KT} (h : zfcZ a0 a1 H K) : OKP 103 [a0,a1] H K :=
 fok nofl pqg nokp Tryz.func103 (by kernel_rfl) (by kernel_rfl) h
def zojZ (a0 a1 : AV) (H : AH) (K : KT) : Prop :=
bC (BCall Tryz.prog 103 [a0,a1] H) λv0 H1=>
bO (zjZ v0 0) λv2=>
bO (zjZ v0 1) λv3=>
bH (anew H1 (.agg [(I 0),nilSl])) λv4 H5=>
bS (ast 2 H5 v4 v2) λH6=>
bO (zhZ 0 v4) λv7=>
bO (ald false 1 H6 v7) λv8=>
K (.tup [v8,v3]) H6
theorem zumZ {a0 a1 : AV} {H : AH} {K : KT} (h : zojZ a0 a1 H K) : OKP 85 [a0,a1] H K :=
 fok nofl pqg nokp Tryz.func85 (by kernel_rfl) (by kernel_rfl) h
def zfbZ (a0 a1 a2 a3 : AV) (H : AH) (K : KT) : Prop :=
bC (BCall Tryz.prog 103 [a0,a1] H) λv0 H1=>
bO (zjZ v0 0) λv2=>
bO (zjZ v0 1) λv3=>
bH (anew H1 (.agg [(I 0),nilSl])) λv4 H5=>
bS (ast 2 H5 v4 v2) λH6=>
bO (abI .neq v3 (I 0)) λv7=>
bB v7 λt8=>bI t8 (
K (.tup [nilSl,v3]) H6)
 (bO (abI .lss a2 (I 0)) λv9=>
bG v9 false λw10=>
gO w10 (some a3) λv11=>
bG v9 false λw12=>
gO w12 (abI .lss v11 (I 0)) λv13=>
bO (apick v9 (B true) v13) λv14=>
bG v14 false λw15=>
gO w15 (some a3) λv16=>
bG v14 false λw17=>
gO w17 (abI .gtr v16 (I 4096)) λv18=>
bO (apick v14 (B true) v18) λv19=>
bB v19 λt20=>bI t20 (
K (.tup [nilSl,(I 5)]) H6)
 (bO (ald true 2 H6 v4) λv21=>
bP (PCall Tryz.prog 104 [v21,a2,a3] H6) λv22=>
K (.tup [v22,(I 0)]) H6))
theorem zgcZ {a0 a1 a2 a3 : AV} {H : AH} {K : KT} (h : zfbZ a0 a1 a2 a3 H K) : OKP 50 [a0,a1,a2,a3] H K :=
 fok nofl pqg nokp Tryz.func50 (by kernel_rfl) (by kernel_rfl) h
def zomZ (a0 a1 a2 : AV) (H : AH) (K : KT) : Prop :=
bC (BCall Tryz.prog 103 [a0,a1] H) λv0 H1=>
bO (zjZ v0 0) λv2=>
bO (zjZ v0 1) λv3=>
bH (anew H1 (.agg [(I 0),nilSl])) λv4 H5=>
bS (ast 2 H5 v4 v2) λH6=>
bO (abI .neq v3 (I 0)) λv7=>
bB v7 λt8=>bI t8 (
K (.tup [(I 0),v3]) H6)
 (bO (ald true 2 H6 v4) λv9=>
bP (PCall Tryz.prog 143 [v9,a2] H6) λv10=>
bO (zjZ v10 0) λv11=>
bO (zjZ v10 1) λv12=>
bO (aun .not v12) λv13=>
bB v13 λt14=>bI t14 (
K (.tup [(I 0),(I 5)]) H6)
 (K (.tup [v11,(I 0)]) H6))
theorem zubZ {a0 a1 a2 : AV} {H : AH} {K : KT} (h : zomZ a0 a1 a2 H K) : OKP 87 [a0,a1,a2] H K :=
 fok nofl pqg nokp Tryz.func87 (by kernel_rfl) (by kernel_rfl) h
def zoqZ (a0 a1 a2 : AV) (H : AH) (K : KT) : Prop :=
bC (BCall Tryz.prog 103 [a0,a1] H) λv0 H1=>
bO (zjZ v0 0) λv2=>
bO (zjZ v0 1) λv3=>
bH (anew H1 (.agg [(I 0),nilSl])) λv4 H5=>
bS (ast 2 H5 v4 v2) λH6=>
bO (abI .neq v3 (I 0)) λv7=>
bB v7 λt8=>bI t8 (
K (.tup [(I 0),v3]) H6)
 (bO (ald true 2 H6 v4) λv9=>
bP (PCall Tryz.prog 145 [v9,a2] H6) λv10=>
bO (zjZ v10 0) λv11=>
bO (zjZ v10 1) λv12=>
bO (aun .not v12) λv13=>
bB v13 λt14=>bI t14 (
K (.tup [(I 0),(I 5)]) H6)
 (K (.tup [v11,(I 0)]) H6))
theorem zukZ {a0 a1 a2 : AV} {H : AH} {K : KT} (h : zoqZ a0 a1 a2 H K) : OKP 89 [a0,a1,a2] H K :=
 fok nofl pqg nokp Tryz.func89 (by kernel_rfl) (by kernel_rfl) h
def zjcZ : Nat→Option (List Bool):=kpOf [(13,mk 104 0 [0,1,3,14,15,16])]
def zjyZ (p : List Bool) (n : Nat) : List AV→AH→Kf→Prop:=sCode Tryz.prog nofl pqg none0 none0 zjcZ (sub p (zhyZ Tryz.f77)) n
def zigZ (x0 x1 x3 x14 x15 x16 : AV) (H : AH) (K : KT) : Prop:=lp (mk 104 0 [0,1,3,14,15,16]) (zjyZ [tT,tT,tT,tT,tT,tT,fF,tT,fF,fF] 14) [x0,x1,x3,x14,x15,x16] H (kBlk 0 (kSeq (zjyZ [tT,tT,tT,tT,tT,tT,tT] 25) (kRet Tryz.prog Tryz.f77.results.toList K)))
def zheZ (R13 : RT) (x0 x1 x3 x14 x15 x16 : AV) (H : AH) (K : KT) : Prop :=
bO (alnS x14) λv0=>
bO (abI .lss x16 v0) λv1=>
bB v1 λt2=>bI t2 (
bO (zgZ x0) λv3=>
bO (zhZ 0 v3) λv4=>
bO (ald true 2 H v4) λv5=>
bP (PCall Tryz.prog 132 [v5,x1] H) λv6=>
bO (zjZ v6 0) λv7=>
bO (zjZ v6 1) λv8=>
bH (anew H (.agg [(I 0),nilSl])) λv9 H10=>
bS (ast 2 H10 v9 v7) λH11=>
bO (ald true 2 H11 v9) λv12=>
bO (aixS 2 x14 x16) λv13=>
bO (zhZ 0 v13) λv14=>
bO (ald false 1 H11 v14) λv15=>
bO (abI .quo v15 (I 8)) λv16=>
bP (BPure Tryz.prog 133 [v12,v16]) λv17=>
bO (abI .lss v17 (I 0)) λv18=>
bG v18 true λw19=>
gO w19 (some x0) λv20=>
bG v18 true λw21=>
gC w21 (BCall Tryz.prog 110 [v20] H11) H11 λv22 H23=>
bG v18 true λw24=>
gO w24 (abI .eql v22 (I 0)) λv25=>
bO (apick v18 v25 (B false)) λv26=>
bB v26 λt27=>bI t27 (
K (.tup [x15,(I 4)]) H23)
 (bO (aixS 2 x14 x16) λv28=>
bO (zhZ 0 v28) λv29=>
bO (ald false 1 H23 v29) λv30=>
bO (aixS 2 x14 x16) λv31=>
bO (zhZ 1 v31) λv32=>
bO (ald false 1 H23 v32) λv33=>
bO (abI .add x15 v33) λv34=>
bO (aslS 1 x3 (some x15) (some v34) none) λv35=>
bO (abl [(I 0),(I 0),(I 0),(I 0),(B false),(.lit (.string ⟨#[]⟩)),(.lit (.string ⟨#[]⟩)),nilSl] [(0,1,(I 2)),(1,1,x1),(2,1,v30),(7,1,v35)]) λv36=>
bC (BCall Tryz.prog 100 [x0,v36] H23) λv37 H38=>
bO (abI .neq v37 (I 0)) λv39=>
bB v39 λt40=>bI t40 (
K (.tup [x15,v37]) H38)
 (bO (aixS 2 x14 x16) λv41=>
bO (zhZ 1 v41) λv42=>
bO (ald false 1 H38 v42) λv43=>
bO (abI .add x15 v43) λv44=>
bO (abI .add x16 (I 1)) λv45=>
R13 [x0,x1,x3,x14,v44,v45] H38)))
 (K (.tup [x15,(I 0)]) H)
theorem zmwZ {K : KT} : RL6 (λR x0 x1 x3 x14 x15 x16 H=>zheZ R x0 x1 x3 x14 x15 x16 H K) (λx0 x1 x3 x14 x15 x16 H=>zigZ x0 x1 x3 x14 x15 x16 H K):=lpr6 (zvZ _ _) (λ_ _ _ _ _ _ _ _=>by kernel_rfl)
def zmuZ (a0 a1 a2 a3 : AV) (H : AH) (K : KT) : Prop :=
bC (BCall Tryz.prog 103 [a0,a1] H) λv0 H1=>
bO (zjZ v0 0) λv2=>
bO (zjZ v0 1) λv3=>
bH (anew H1 (.agg [(I 0),nilSl])) λv4 H5=>
bS (ast 2 H5 v4 v2) λH6=>
bO (abI .neq v3 (I 0)) λv7=>
bB v7 λt8=>bI t8 (
K (.tup [(I 0),v3]) H6)
 (bO (ald true 2 H6 v4) λv9=>
bP (PCall Tryz.prog 130 [v9,a2,a3] H6) λv10=>
bO (zjZ v10 0) λv11=>
bO (zjZ v10 1) λv12=>
bH (anew H6 (.agg [(I 0),nilSl])) λv13 H14=>
bS (ast 2 H14 v13 v11) λH15=>
bO (aun .not v12) λv16=>
bB v16 λt17=>bI t17 (
K (.tup [(I 0),(I 5)]) H15)
 (bO (alnS a3) λv18=>
bO (abl [(I 0),(I 0)] [(0,1,a2),(1,1,v18)]) λv19=>
bP (PCall Tryz.prog 131 [v19,(I 8)] H15) λv20=>
zigZ a0 a1 a3 v20 (I 0) (I 0) H15 K))
theorem ztiZ {a0 a1 a2 a3 : AV} {H : AH} {K : KT} (h : zmuZ a0 a1 a2 a3 H K) : OKP 77 [a0,a1,a2,a3] H K :=
 fok nofl pqg zjcZ Tryz.func77 (by kernel_rfl) (by kernel_rfl) h
def zjbZ (a0 a1 a2 : AV) (H : AH) (K : KT) : Prop :=
bC (BCall Tryz.prog 103 [a0,a1] H) λv0 H1=>
bO (zjZ v0 0) λv2=>
bO (zjZ v0 1) λv3=>
bH (anew H1 (.agg [(I 0),nilSl])) λv4 H5=>
bS (ast 2 H5 v4 v2) λH6=>
bO (abI .neq v3 (I 0)) λv7=>
bB v7 λt8=>bI t8 (
K v3 H6)
 (bO (ald true 2 H6 v4) λv9=>
bP (PCall Tryz.prog 134 [v9,a2] H6) λv10=>
bO (zjZ v10 0) λv11=>
bO (zjZ v10 1) λv12=>
bH (anew H6 (.agg [(I 0),nilSl])) λv13 H14=>
bS (ast 2 H14 v13 v11) λH15=>
bO (aun .not v12) λv16=>
bB v16 λt17=>bI t17 (
K (I 5) H15)
 (bO (abl [(I 0),(I 0),(I 0),(I 0),(B false),(.lit (.string ⟨#[]⟩)),(.lit (.string ⟨#[]⟩)),nilSl] [(0,1,(I 3)),(1,1,a1),(3,1,a2)]) λv18=>
bC (BCall Tryz.prog 100 [a0,v18] H15) λv19 H20=>
K v19 H20))
theorem zqfZ {a0 a1 a2 : AV} {H : AH} {K : KT} (h : zjbZ a0 a1 a2 H K) : OKP 78 [a0,a1,a2] H K :=
 fok nofl pqg nokp Tryz.func78 (by kernel_rfl) (by kernel_rfl) h
def zpnZ : zbcqZ:=flOf [(7,[(1,some 8),(2,some 8),(4,some 8),(5,some 8)])]
def zjhZ (a0 a1 a2 a3 a4 : AV) (H : AH) (K : KT) : Prop :=
bC (BCall Tryz.prog 103 [a0,a1] H) λv0 H1=>
bO (zjZ v0 0) λv2=>
bO (zjZ v0 1) λv3=>
bH (anew H1 (.agg [(I 0),nilSl])) λv4 H5=>
bS (ast 2 H5 v4 v2) λH6=>
bO (abI .neq v3 (I 0)) λv7=>
bB v7 λt8=>bI t8 (
K v3 H6)
 (bO (ald true 2 H6 v4) λv9=>
bP (PCall Tryz.prog 135 [v9,a2,a3,a4] H6) λv10=>
bO (zjZ v10 0) λv11=>
bO (zjZ v10 1) λv12=>
bH (anew H6 (.agg [(I 0),nilSl])) λv13 H14=>
bS (ast 2 H14 v13 v11) λH15=>
bO (aun .not v12) λv16=>
bB v16 λt17=>bI t17 (
K (I 5) H15)
 (bO (zhZ 1 v13) λv18=>
bO (ald false 1 H15 v18) λv19=>
bO (alnS v19) λv20=>
bO (zhZ 1 v4) λv21=>
bO (ald false 1 H15 v21) λv22=>
bO (alnS v22) λv23=>
bO (abI .sub v20 v23) λv24=>
bC (BCall Tryz.prog 110 [a0] H15) λv25 H26=>
bO (abI .gtr v24 v25) λv27=>
(ald false 1 H26 v18=some v19) ∧
(alnS v19=some v20) ∧
(ald false 1 H26 v21=some v22) ∧
(alnS v22=some v23) ∧
bB v27 λt28=>bI t28 (
K (I 4) H26)
 (bO (abl [(I 0),(I 0),(I 0),(I 0),(B false),(.lit (.string ⟨#[]⟩)),(.lit (.string ⟨#[]⟩)),nilSl] [(0,1,(I 4)),(1,1,a1),(2,1,a2),(3,1,a3),(4,1,a4)]) λv29=>
bC (BCall Tryz.prog 100 [a0,v29] H26) λv30 H31=>
K v30 H31)))
theorem zpzZ {a0 a1 a2 a3 a4 : AV} {H : AH} {K : KT} (h : zjhZ a0 a1 a2 a3 a4 H K) : OKP 79 [a0,a1,a2,a3,a4] H K :=
 fok zpnZ pqg nokp Tryz.func79 (by kernel_rfl) (by kernel_rfl) h
def zmpZ (a0 a1 a2 a3 : AV) (H : AH) (K : KT) : Prop :=
bC (BCall Tryz.prog 103 [a0,a1] H) λv0 H1=>
bO (zjZ v0 0) λv2=>
bO (zjZ v0 1) λv3=>
bH (anew H1 (.agg [(I 0),nilSl])) λv4 H5=>
bS (ast 2 H5 v4 v2) λH6=>
bO (abI .neq v3 (I 0)) λv7=>
bB v7 λt8=>bI t8 (
K v3 H6)
 (bO (ald true 2 H6 v4) λv9=>
bP (PCall Tryz.prog 136 [v9,a2,a3] H6) λv10=>
bO (zjZ v10 0) λv11=>
bO (zjZ v10 1) λv12=>
bH (anew H6 (.agg [(I 0),nilSl])) λv13 H14=>
bS (ast 2 H14 v13 v11) λH15=>
bO (aun .not v12) λv16=>
bB v16 λt17=>bI t17 (
K (I 5) H15)
 (bO (abl [(I 0),(I 0),(I 0),(I 0),(B false),(.lit (.string ⟨#[]⟩)),(.lit (.string ⟨#[]⟩)),nilSl] [(0,1,(I 5)),(1,1,a1),(2,1,a2),(3,1,a3)]) λv18=>
bC (BCall Tryz.prog 100 [a0,v18] H15) λv19 H20=>
K v19 H20))
theorem ztcZ {a0 a1 a2 a3 : AV} {H : AH} {K : KT} (h : zmpZ a0 a1 a2 a3 H K) : OKP 80 [a0,a1,a2,a3] H K :=
 fok nofl pqg nokp Tryz.func80 (by kernel_rfl) (by kernel_rfl) h
def zllZ (a0 a1 a2 : AV) (H : AH) (K : KT) : Prop :=
bO (zgZ a0) λv0=>
bO (zhZ 8 v0) λv1=>
bO (ald false 1 H v1) λv2=>
bB v2 λt3=>bI t3 (
K (I 8) H)
 (bP (PCall Tryz.prog 98 [a1] H) λv4=>
bO (aun .not v4) λv5=>
bG v5 false λw6=>
gO w6 (some a2) λv7=>
bG v5 false λw8=>
gP w8 (PCall Tryz.prog 98 [v7] H) λv9=>
bG v5 false λw10=>
gO w10 (aun .not v9) λv11=>
bO (apick v5 (B true) v11) λv12=>
bB v12 λt13=>bI t13 (
K (I 5) H)
 (bO (zgZ a0) λv14=>
bO (zhZ 0 v14) λv15=>
bO (ald true 2 H v15) λv16=>
bP (PCall Tryz.prog 137 [v16,a1] H) λv17=>
bO (abI .lss v17 (I 0)) λv18=>
bB v18 λt19=>bI t19 (
K (I 3) H)
 (bO (abT .eql a1 a2) λv20=>
bB v20 λt21=>bI t21 (
K (I 0) H)
 (bO (abl [(I 0),(I 0),(I 0),(I 0),(B false),(.lit (.string ⟨#[]⟩)),(.lit (.string ⟨#[]⟩)),nilSl] [(0,1,(I 6)),(5,1,a1),(6,1,a2)]) λv22=>
bC (BCall Tryz.prog 100 [a0,v22] H) λv23 H24=>
K v23 H24))))
theorem zrwZ {a0 a1 a2 : AV} {H : AH} {K : KT} (h : zllZ a0 a1 a2 H K) : OKP 81 [a0,a1,a2] H K :=
 fok nofl pqg nokp Tryz.func81 (by kernel_rfl) (by kernel_rfl) h
def zloZ (a0 a1 : AV) (H : AH) (K : KT) : Prop :=
bO (zgZ a0) λv0=>
bO (zhZ 8 v0) λv1=>
bO (ald false 1 H v1) λv2=>
bB v2 λt3=>bI t3 (
K (I 8) H)
 (bP (PCall Tryz.prog 98 [a1] H) λv4=>
bO (aun .not v4) λv5=>
bB v5 λt6=>bI t6 (
K (I 5) H)
 (bO (zgZ a0) λv7=>
bO (zhZ 0 v7) λv8=>
bO (ald true 2 H v8) λv9=>
bP (PCall Tryz.prog 137 [v9,a1] H) λv10=>
bO (abI .lss v10 (I 0)) λv11=>
bB v11 λt12=>bI t12 (
K (I 3) H)
 (bO (abl [(I 0),(I 0),(I 0),(I 0),(B false),(.lit (.string ⟨#[]⟩)),(.lit (.string ⟨#[]⟩)),nilSl] [(0,1,(I 7)),(5,1,a1)]) λv13=>
bC (BCall Tryz.prog 100 [a0,v13] H) λv14 H15=>
K v14 H15)))
theorem zsaZ {a0 a1 : AV} {H : AH} {K : KT} (h : zloZ a0 a1 H K) : OKP 82 [a0,a1] H K :=
 fok nofl pqg nokp Tryz.func82 (by kernel_rfl) (by kernel_rfl) h
def zkrZ : Nat→Option (List Bool):=kpOf [(10,mk 82 0 [0,1,5,6]),(15,mk 82 0 [0,1,5,6,7,8,9]),(7,mk 82 0 [0,1,5,6])]
def zbqZ (p : List Bool) (n : Nat) : List AV→AH→Kf→Prop:=sCode Tryz.prog nofl pqg none0 none0 zkrZ (sub p (zhyZ Tryz.f83)) n
def zfdZ (R7 : RT) (x0 x1 x5 x6 : AV) (H : AH) (K : KT) : Prop:=jn (mk 82 0 [0,1,5,6]) (zbqZ [tT,tT,tT,fF,tT,fF,fF,tT,tT] 20) [x0,x1,x5,x6] H (kLp (mk 82 0 [0,1,5,6]) R7 (kBlk 0 (kSeq (zbqZ [tT,tT,tT,tT] 20) (kRet Tryz.prog Tryz.f83.results.toList K))))
def zfoZ (R7 : RT) (x0 x1 x5 x6 x7 x8 x9 : AV) (H : AH) (K : KT) : Prop:=lp (mk 82 0 [0,1,5,6,7,8,9]) (zbqZ [tT,tT,tT,fF,tT,fF,fF,tT,fF,fF,tT,tT,fF,tT,fF,fF] 16) [x0,x1,x5,x6,x7,x8,x9] H (kBlk 2 (kSeq (zbqZ [tT,tT,tT,fF,tT,fF,fF,tT,fF,fF,tT,tT,tT] 19) (kBlk 1 (kSeq (cutC (mk 82 0 [0,1,5,6]) (zbqZ [tT,tT,tT,fF,tT,fF,fF,tT,tT] 20)) (kLp (mk 82 0 [0,1,5,6]) R7 (kBlk 0 (kSeq (zbqZ [tT,tT,tT,tT] 20) (kRet Tryz.prog Tryz.f83.results.toList K))))))))
def zkoZ (x0 x1 x5 x6 : AV) (H : AH) (K : KT) : Prop:=lp (mk 82 0 [0,1,5,6]) (zbqZ [tT,tT,tT,fF,tT,fF,fF] 8) [x0,x1,x5,x6] H (kBlk 0 (kSeq (zbqZ [tT,tT,tT,tT] 20) (kRet Tryz.prog Tryz.f83.results.toList K)))
def zepZ (R7 : RT) (x0 x1 x5 x6 : AV) (H : AH) (K : KT) : Prop :=
bO (abI .add x6 (I 1)) λv0=>
R7 [x0,x1,x5,v0] H
theorem zhhZ (R7 : RT) (x0 x1 x5 x6 : AV) (H : AH) (K : KT) : zfdZ R7 x0 x1 x5 x6 H K=zepZ R7 x0 x1 x5 x6 H K:=(jn_eq _ _ _ _ _).trans (by kernel_rfl)
def zhkZ (R7 : RT) (R15 : RT) (x0 x1 x5 x6 x7 x8 x9 : AV) (H : AH) (K : KT) : Prop :=
bO (alnS x1) λv0=>
bO (abI .lss x9 v0) λv1=>
bB v1 λt2=>bI t2 (
bG x8 false λw3=>
gO w3 (zhZ 1 x7) λv4=>
bG x8 false λw5=>
gO w5 (ald false 1 H v4) λv6=>
bG x8 false λw7=>
gO w7 (some x1) λv8=>
bG x8 false λw9=>
gO w9 (some x9) λv10=>
bG x8 false λw11=>
gO w11 (aixS 1 v8 v10) λv12=>
bG x8 false λw13=>
gO w13 (ald false 1 H v12) λv14=>
bG x8 false λw15=>
gO w15 (abI .eql v6 v14) λv16=>
bO (apick x8 (B true) v16) λv17=>
bO (abI .add x9 (I 1)) λv18=>
R15 [x0,x1,x5,x6,x7,v17,v18] H)
 (bB x8 λt19=>bI t19 (
bO (zgZ x0) λv20=>
bO (zhZ 2 v20) λv21=>
bO (ald true 2 H v21) λv22=>
bO (ald true 8 H x7) λv23=>
bP (BPure Tryz.prog 139 [v22,v23]) λv24=>
bO (zgZ x0) λv25=>
bO (zhZ 2 v25) λv26=>
bS (ast 2 H v26 v24) λH27=>
zfdZ R7 x0 x1 x5 x6 H27 K)
 (bO (ald true 8 H x7) λv28=>
bH (absl H 8 1 (zrow [(I 0),(I 0),(I 0),(I 0),(B false),(.lit (.string ⟨#[]⟩)),(.lit (.string ⟨#[]⟩)),nilSl] 1) [(0,8,v28)]) λv29 H30=>
bH (aap 8 96 H30 x5 v29) λv31 H32=>
zfdZ R7 x0 x1 v31 x6 H32 K))
theorem zobZ (R7 : RT) {K : KT} : RL7 (λR x0 x1 x5 x6 x7 x8 x9 H=>zhkZ R7 R x0 x1 x5 x6 x7 x8 x9 H K) (λx0 x1 x5 x6 x7 x8 x9 H=>zfoZ R7 x0 x1 x5 x6 x7 x8 x9 H K):=lpr7 (zvZ _ _) (λ_ _ _ _ _ _ _ _ _=>by kernel_rfl)
def zicZ (R7 : RT) (x0 x1 x5 x6 : AV) (H : AH) (K : KT) : Prop :=
bO (zgZ x0) λv0=>
bO (zhZ 4 v0) λv1=>
bO (ald false 1 H v1) λv2=>
bO (alnS v2) λv3=>
bO (abI .lss x6 v3) λv4=>
bB v4 λt5=>bI t5 (
bO (zgZ x0) λv6=>
bO (zhZ 4 v6) λv7=>
bO (ald false 1 H v7) λv8=>
bO (aixS 8 v8 x6) λv9=>
bO (ald true 8 H v9) λv10=>
bH (anew H (.agg [(I 0),(I 0),(I 0),(I 0),(B false),(.lit (.string ⟨#[]⟩)),(.lit (.string ⟨#[]⟩)),nilSl])) λv11 H12=>
bS (ast 8 H12 v11 v10) λH13=>
bO (zhZ 0 v11) λv14=>
bO (ald false 1 H13 v14) λv15=>
bO (abI .eql v15 (I 1)) λv16=>
bG v16 false λw17=>
gO w17 (zhZ 0 v11) λv18=>
bG v16 false λw19=>
gO w19 (ald false 1 H13 v18) λv20=>
bG v16 false λw21=>
gO w21 (abI .eql v20 (I 6)) λv22=>
bO (apick v16 (B true) v22) λv23=>
bG v23 false λw24=>
gO w24 (zhZ 0 v11) λv25=>
bG v23 false λw26=>
gO w26 (ald false 1 H13 v25) λv27=>
bG v23 false λw28=>
gO w28 (abI .eql v27 (I 7)) λv29=>
bO (apick v23 (B true) v29) λv30=>
zfoZ R7 x0 x1 x5 x6 v11 v30 (I 0) H13 K)
 (bO (zgZ x0) λv31=>
bO (zhZ 4 v31) λv32=>
bS (ast 1 H v32 x5) λH33=>
K (I 0) H33)
theorem zotZ {K : KT} : RL4 (λR x0 x1 x5 x6 H=>zicZ R x0 x1 x5 x6 H K) (λx0 x1 x5 x6 H=>zkoZ x0 x1 x5 x6 H K):=lpr4 (zvZ _ _) (λ_ _ _ _ _ _=>by kernel_rfl)
def zoiZ (a0 a1 : AV) (H : AH) (K : KT) : Prop :=
bO (zgZ a0) λv0=>
bO (zhZ 8 v0) λv1=>
bO (ald false 1 H v1) λv2=>
bG v2 false λw3=>
gO w3 (some a0) λv4=>
bG v2 false λw5=>
gC w5 (BCall Tryz.prog 138 [v4] H) H λv6 H7=>
bG v2 false λw8=>
gO w8 (aun .not v6) λv9=>
bO (apick v2 (B true) v9) λv10=>
bB v10 λt11=>bI t11 (
K (I 8) H7)
 (zkoZ a0 a1 nilSl (I 0) H7 K)
theorem zuiZ {a0 a1 : AV} {H : AH} {K : KT} (h : zoiZ a0 a1 H K) : OKP 83 [a0,a1] H K :=
 fok nofl pqg zkrZ Tryz.func83 (by kernel_rfl) (by kernel_rfl) h
def zwhZ : Nat→Option (List Bool):=kpOf [(6,mk 53 0 [0,5])]
def zyaZ (p : List Bool) (n : Nat) : List AV→AH→Kf→Prop:=sCode Tryz.prog nofl pqg none0 none0 zwhZ (sub p (zhyZ Tryz.f10)) n
def zvuZ (x0 x5 : AV) (H : AH) (K : KT) : Prop:=lp (mk 53 0 [0,5]) (zyaZ [tT,tT,fF,tT,fF,fF] 7) [x0,x5] H (kBlk 0 (kSeq (zyaZ [tT,tT,tT] 13) (kRet Tryz.prog Tryz.f10.results.toList K)))
def zqpZ (R6 : RT) (x0 x5 : AV) (H : AH) (K : KT) : Prop :=
bO (alnS x0) λv0=>
bO (abI .lss x5 v0) λv1=>
bB v1 λt2=>bI t2 (
bO (aixS 10 x0 x5) λv3=>
bO (ald true 10 H v3) λv4=>
bH (anew H (.agg [(.lit (.int .u8 0)),(.lit (.int .u8 0)),(.lit (.int .u8 0)),(I 0),(I 0),(I 0),nilSl,(B false),nilSl,nilSl])) λv5 H6=>
bS (ast 10 H6 v5 v4) λH7=>
bO (zhZ 6 v5) λv8=>
bO (ald false 1 H7 v8) λv9=>
bO (alnS v9) λv10=>
bO (abI .gtr v10 (I 60)) λv11=>
bG v11 true λw12=>
gO w12 (zhZ 6 v5) λv13=>
bG v11 true λw14=>
gO w14 (ald false 1 H7 v13) λv15=>
bG v11 true λw16=>
gO w16 (alnS v15) λv17=>
bG v11 true λw18=>
gO w18 (abI .neq v17 (I 4097)) λv19=>
bO (apick v11 v19 (B false)) λv20=>
bG v20 false λw21=>
gO w21 (zhZ 5 v5) λv22=>
bG v20 false λw23=>
gO w23 (ald false 1 H7 v22) λv24=>
bG v20 false λw25=>
gO w25 (abI .gtr v24 (I 200)) λv26=>
bG v20 false λw27=>
gO w27 (some v26) λv28=>
bG v28 true λw29=>
gO w29 (zhZ 5 v5) λv30=>
bG v28 true λw31=>
gO w31 (ald false 1 H7 v30) λv32=>
bG v28 true λw33=>
gO w33 (abI .leq v32 (I 32768)) λv34=>
bG v20 false λw35=>
gO w35 (apick v28 v34 (B false)) λv36=>
bO (apick v20 (B true) v36) λv37=>
bG v37 false λw38=>
gO w38 (zhZ 8 v5) λv39=>
bG v37 false λw40=>
gO w40 (ald false 1 H7 v39) λv41=>
bG v37 false λw42=>
gO w42 (alnS v41) λv43=>
bG v37 false λw44=>
gO w44 (abI .gtr v43 (I 200)) λv45=>
bO (apick v37 (B true) v45) λv46=>
bG v46 false λw47=>
gO w47 (zhZ 9 v5) λv48=>
bG v46 false λw49=>
gO w49 (ald false 1 H7 v48) λv50=>
bG v46 false λw51=>
gO w51 (alnS v50) λv52=>
bG v46 false λw53=>
gO w53 (abI .gtr v52 (I 30)) λv54=>
bO (apick v46 (B true) v54) λv55=>
bB v55 λt56=>bI t56 (
K (B false) H7)
 (bO (abI .add x5 (I 1)) λv57=>
R6 [x0,v57] H7))
 (K (B true) H)
theorem zykZ {K : KT} : RL2 (λR x0 x5 H=>zqpZ R x0 x5 H K) (λx0 x5 H=>zvuZ x0 x5 H K):=lpr2 (zvZ _ _) (λ_ _ _ _=>by kernel_rfl)
def zbbiZ (a0 a1 : AV) (H : AH) (K : KT) : Prop :=
bO (alnS a0) λv0=>
bO (abI .gtr v0 a1) λv1=>
bB v1 λt2=>bI t2 (
K (B false) H)
 (zvuZ a0 (I 0) H K)
theorem salvorlaw13_Few_ok {a0 a1 : AV} {H : AH} {K : KT} (h : zbbiZ a0 a1 H K) : OKP 10 [a0,a1] H K :=
 fok nofl pqg zwhZ Tryz.func10 (by kernel_rfl) (by kernel_rfl) h
def zxjZ : zbcqZ:=flOf [(25,[(8,none),(10,none)]),(27,[(12,none),(14,none),(16,none),(18,none)]),(29,[(10,none),(12,none),(14,none)]),(35,[(6,none)]),(39,[(7,none)])]
def zxnZ : Nat→Option (List Bool):=kpOf [(43,mk 346 0 [21,22,23,24,25,26,27,28,29,30,31,32]),(42,mk 346 0 [1,5,21,22,23,24,25,26,27,28,29,30]),(41,mk 346 0 [0,1,5,21,22,23,24,25,26,27,28]),(40,mk 346 0 [0,1,5,21,22,23,24,25,26]),(39,mk 346 0 [0,1,5,21,22,23,24]),(38,mk 346 0 [0,1,5,21,22]),(37,mk 346 0 [1,5]),(36,mk 346 0 [0,1,5,336]),(2,mk 346 0 []),(35,mk 346 0 [1,5]),(34,mk 346 0 [0,1,5,41,326]),(32,mk 346 0 [0,1,5,41,313]),(30,mk 346 0 [0,1,5,41,306]),(28,mk 346 0 [0,1,5,41,295]),(26,mk 346 0 [0,1,5,7,41,286]),(24,mk 346 0 [0,1,5,7,8,41,275]),(22,mk 346 0 [0,1,5,7,8,41,256]),(20,mk 346 0 [0,1,5,7,8,41,233]),(18,mk 346 0 [0,1,5,7,8,41,218]),(16,mk 346 0 [17,18,19,20]),(15,mk 346 0 [1,5,17,18]),(14,mk 346 0 [0,1,5,7,8,41,184]),(12,mk 346 0 [13,14,15,16]),(11,mk 346 0 [1,5,13,14]),(9,mk 346 0 [0,1,5,7,8,41,151]),(10,mk 346 0 [0,1,5,7,8,41,151]),(7,mk 346 0 [9,10,11,12]),(6,mk 346 0 [1,5,7,9,10]),(4,mk 346 0 [0,1,5,7,8,41,120])]
def zfZ (p : List Bool) (n : Nat) : List AV→AH→Kf→Prop:=sCode Tryz.prog zxjZ pqg none0 none0 zxnZ (sub p (zhyZ Tryz.f32)) n
def zwzZ (x9 x10 x11 x12 : AV) (H : AH) (K : KT) : Prop:=jn (mk 346 0 [9,10,11,12]) (zfZ [tT,tT,fF,tT,fF,tT,fF,tT,tT] 8) [x9,x10,x11,x12] H (kBlk 0 (kSeq (cutC (mk 346 0 []) (zfZ [tT,tT,tT] 45)) (kRet Tryz.prog Tryz.f32.results.toList K)))
def zyeZ (x1 x5 x7 x9 x10 : AV) (H : AH) (K : KT) : Prop:=jn (mk 346 0 [1,5,7,9,10]) (zfZ [tT,tT,fF,tT,fF,tT,fF,tT] 7) [x1,x5,x7,x9,x10] H (kBlk 0 (kSeq (cutC (mk 346 0 []) (zfZ [tT,tT,tT] 45)) (kRet Tryz.prog Tryz.f32.results.toList K)))
def zvcZ (x13 x14 x15 x16 : AV) (H : AH) (K : KT) : Prop:=jn (mk 346 0 [13,14,15,16]) (zfZ [tT,tT,fF,tT,fF,tT,tT,tT,fF,tT,tT] 13) [x13,x14,x15,x16] H (kBlk 0 (kSeq (cutC (mk 346 0 []) (zfZ [tT,tT,tT] 45)) (kRet Tryz.prog Tryz.f32.results.toList K)))
def zvhZ (x1 x5 x13 x14 : AV) (H : AH) (K : KT) : Prop:=jn (mk 346 0 [1,5,13,14]) (zfZ [tT,tT,fF,tT,fF,tT,tT,tT,fF,tT] 12) [x1,x5,x13,x14] H (kBlk 0 (kSeq (cutC (mk 346 0 []) (zfZ [tT,tT,tT] 45)) (kRet Tryz.prog Tryz.f32.results.toList K)))
def zurZ (x17 x18 x19 x20 : AV) (H : AH) (K : KT) : Prop:=jn (mk 346 0 [17,18,19,20]) (zfZ [tT,tT,fF,tT,fF,tT,tT,tT,tT,tT,fF,tT,tT] 17) [x17,x18,x19,x20] H (kBlk 0 (kSeq (cutC (mk 346 0 []) (zfZ [tT,tT,tT] 45)) (kRet Tryz.prog Tryz.f32.results.toList K)))
def zuoZ (x1 x5 x17 x18 : AV) (H : AH) (K : KT) : Prop:=jn (mk 346 0 [1,5,17,18]) (zfZ [tT,tT,fF,tT,fF,tT,tT,tT,tT,tT,fF,tT] 16) [x1,x5,x17,x18] H (kBlk 0 (kSeq (cutC (mk 346 0 []) (zfZ [tT,tT,tT] 45)) (kRet Tryz.prog Tryz.f32.results.toList K)))
def zpuZ (H : AH) (K : KT) : Prop:=jn (mk 346 0 []) (zfZ [tT,tT,tT] 45) [] H (kRet Tryz.prog Tryz.f32.results.toList K)
def zweZ (x1 x5 : AV) (H : AH) (K : KT) : Prop:=jn (mk 346 0 [1,5]) (zfZ [tT,tT,fF,tT,fF,tT,tT,tT,tT,tT,tT,tT,tT,tT,tT,tT,tT,tT,tT,tT,tT,tT,tT,tT,tT,tT,tT,tT,fF,tT] 36) [x1,x5] H (kBlk 0 (kSeq (cutC (mk 346 0 []) (zfZ [tT,tT,tT] 45)) (kRet Tryz.prog Tryz.f32.results.toList K)))
def zvpZ (x1 x5 : AV) (H : AH) (K : KT) : Prop:=jn (mk 346 0 [1,5]) (zfZ [tT,tT,fF,tT,fF,tT,tT,tT,tT,tT,tT,tT,tT,tT,tT,tT,tT,tT,tT,tT,tT,tT,tT,tT,tT,tT,tT,tT,tT,tT,fF,tT] 38) [x1,x5] H (kBlk 0 (kSeq (cutC (mk 346 0 []) (zfZ [tT,tT,tT] 45)) (kRet Tryz.prog Tryz.f32.results.toList K)))
def zwcZ (x21 x22 x23 x24 x25 x26 x27 x28 x29 x30 x31 x32 : AV) (H : AH) (K : KT) : Prop:=jn (mk 346 0 [21,22,23,24,25,26,27,28,29,30,31,32]) (zfZ [tT,tT,fF,tT,fF,tT,tT,tT,tT,tT,tT,tT,tT,tT,tT,tT,tT,tT,tT,tT,tT,tT,tT,tT,tT,tT,tT,tT,tT,tT,tT,tT,tT,tT,tT,tT,tT] 44) [x21,x22,x23,x24,x25,x26,x27,x28,x29,x30,x31,x32] H (kBlk 0 (kSeq (cutC (mk 346 0 []) (zfZ [tT,tT,tT] 45)) (kRet Tryz.prog Tryz.f32.results.toList K)))
def zuxZ (x1 x5 x21 x22 x23 x24 x25 x26 x27 x28 x29 x30 : AV) (H : AH) (K : KT) : Prop:=jn (mk 346 0 [1,5,21,22,23,24,25,26,27,28,29,30]) (zfZ [tT,tT,fF,tT,fF,tT,tT,tT,tT,tT,tT,tT,tT,tT,tT,tT,tT,tT,tT,tT,tT,tT,tT,tT,tT,tT,tT,tT,tT,tT,tT,tT,tT,tT,tT,tT] 43) [x1,x5,x21,x22,x23,x24,x25,x26,x27,x28,x29,x30] H (kBlk 0 (kSeq (cutC (mk 346 0 []) (zfZ [tT,tT,tT] 45)) (kRet Tryz.prog Tryz.f32.results.toList K)))
def zuuZ (x0 x1 x5 x21 x22 x23 x24 x25 x26 x27 x28 : AV) (H : AH) (K : KT) : Prop:=jn (mk 346 0 [0,1,5,21,22,23,24,25,26,27,28]) (zfZ [tT,tT,fF,tT,fF,tT,tT,tT,tT,tT,tT,tT,tT,tT,tT,tT,tT,tT,tT,tT,tT,tT,tT,tT,tT,tT,tT,tT,tT,tT,tT,tT,tT,tT,tT] 42) [x0,x1,x5,x21,x22,x23,x24,x25,x26,x27,x28] H (kBlk 0 (kSeq (cutC (mk 346 0 []) (zfZ [tT,tT,tT] 45)) (kRet Tryz.prog Tryz.f32.results.toList K)))
def zuqZ (x0 x1 x5 x21 x22 x23 x24 x25 x26 : AV) (H : AH) (K : KT) : Prop:=jn (mk 346 0 [0,1,5,21,22,23,24,25,26]) (zfZ [tT,tT,fF,tT,fF,tT,tT,tT,tT,tT,tT,tT,tT,tT,tT,tT,tT,tT,tT,tT,tT,tT,tT,tT,tT,tT,tT,tT,tT,tT,tT,tT,tT,tT] 41) [x0,x1,x5,x21,x22,x23,x24,x25,x26] H (kBlk 0 (kSeq (cutC (mk 346 0 []) (zfZ [tT,tT,tT] 45)) (kRet Tryz.prog Tryz.f32.results.toList K)))
def zwiZ (x0 x1 x5 x21 x22 x23 x24 : AV) (H : AH) (K : KT) : Prop:=jn (mk 346 0 [0,1,5,21,22,23,24]) (zfZ [tT,tT,fF,tT,fF,tT,tT,tT,tT,tT,tT,tT,tT,tT,tT,tT,tT,tT,tT,tT,tT,tT,tT,tT,tT,tT,tT,tT,tT,tT,tT,tT,tT] 40) [x0,x1,x5,x21,x22,x23,x24] H (kBlk 0 (kSeq (cutC (mk 346 0 []) (zfZ [tT,tT,tT] 45)) (kRet Tryz.prog Tryz.f32.results.toList K)))
def zusZ (x0 x1 x5 x21 x22 : AV) (H : AH) (K : KT) : Prop:=jn (mk 346 0 [0,1,5,21,22]) (zfZ [tT,tT,fF,tT,fF,tT,tT,tT,tT,tT,tT,tT,tT,tT,tT,tT,tT,tT,tT,tT,tT,tT,tT,tT,tT,tT,tT,tT,tT,tT,tT,tT] 39) [x0,x1,x5,x21,x22] H (kBlk 0 (kSeq (cutC (mk 346 0 []) (zfZ [tT,tT,tT] 45)) (kRet Tryz.prog Tryz.f32.results.toList K)))
def zvfZ (x0 x1 x5 x336 : AV) (H : AH) (K : KT) : Prop:=jn (mk 346 0 [0,1,5,336]) (zfZ [tT,tT,fF,tT,fF,tT,tT,tT,tT,tT,tT,tT,tT,tT,tT,tT,tT,tT,tT,tT,tT,tT,tT,tT,tT,tT,tT,tT,tT,tT] 37) [x0,x1,x5,x336] H (kBlk 0 (kSeq (cutC (mk 346 0 []) (zfZ [tT,tT,tT] 45)) (kRet Tryz.prog Tryz.f32.results.toList K)))
def zvxZ (x0 x1 x5 x41 x326 : AV) (H : AH) (K : KT) : Prop:=jn (mk 346 0 [0,1,5,41,326]) (zfZ [tT,tT,fF,tT,fF,tT,tT,tT,tT,tT,tT,tT,tT,tT,tT,tT,tT,tT,tT,tT,tT,tT,tT,tT,tT,tT,tT,tT] 35) [x0,x1,x5,x41,x326] H (kBlk 0 (kSeq (cutC (mk 346 0 []) (zfZ [tT,tT,tT] 45)) (kRet Tryz.prog Tryz.f32.results.toList K)))
def zwdZ (x0 x1 x5 x41 x313 : AV) (H : AH) (K : KT) : Prop:=jn (mk 346 0 [0,1,5,41,313]) (zfZ [tT,tT,fF,tT,fF,tT,tT,tT,tT,tT,tT,tT,tT,tT,tT,tT,tT,tT,tT,tT,tT,tT,tT,tT,tT,tT] 33) [x0,x1,x5,x41,x313] H (kBlk 0 (kSeq (cutC (mk 346 0 []) (zfZ [tT,tT,tT] 45)) (kRet Tryz.prog Tryz.f32.results.toList K)))
def zvoZ (x0 x1 x5 x41 x306 : AV) (H : AH) (K : KT) : Prop:=jn (mk 346 0 [0,1,5,41,306]) (zfZ [tT,tT,fF,tT,fF,tT,tT,tT,tT,tT,tT,tT,tT,tT,tT,tT,tT,tT,tT,tT,tT,tT,tT,tT] 31) [x0,x1,x5,x41,x306] H (kBlk 0 (kSeq (cutC (mk 346 0 []) (zfZ [tT,tT,tT] 45)) (kRet Tryz.prog Tryz.f32.results.toList K)))
def zviZ (x0 x1 x5 x41 x295 : AV) (H : AH) (K : KT) : Prop:=jn (mk 346 0 [0,1,5,41,295]) (zfZ [tT,tT,fF,tT,fF,tT,tT,tT,tT,tT,tT,tT,tT,tT,tT,tT,tT,tT,tT,tT,tT,tT] 29) [x0,x1,x5,x41,x295] H (kBlk 0 (kSeq (cutC (mk 346 0 []) (zfZ [tT,tT,tT] 45)) (kRet Tryz.prog Tryz.f32.results.toList K)))
def zupZ (x0 x1 x5 x7 x41 x286 : AV) (H : AH) (K : KT) : Prop:=jn (mk 346 0 [0,1,5,7,41,286]) (zfZ [tT,tT,fF,tT,fF,tT,tT,tT,tT,tT,tT,tT,tT,tT,tT,tT,tT,tT,tT,tT] 27) [x0,x1,x5,x7,x41,x286] H (kBlk 0 (kSeq (cutC (mk 346 0 []) (zfZ [tT,tT,tT] 45)) (kRet Tryz.prog Tryz.f32.results.toList K)))
def zvgZ (x0 x1 x5 x7 x8 x41 x275 : AV) (H : AH) (K : KT) : Prop:=jn (mk 346 0 [0,1,5,7,8,41,275]) (zfZ [tT,tT,fF,tT,fF,tT,tT,tT,tT,tT,tT,tT,tT,tT,tT,tT,tT,tT] 25) [x0,x1,x5,x7,x8,x41,x275] H (kBlk 0 (kSeq (cutC (mk 346 0 []) (zfZ [tT,tT,tT] 45)) (kRet Tryz.prog Tryz.f32.results.toList K)))
def zuwZ (x0 x1 x5 x7 x8 x41 x256 : AV) (H : AH) (K : KT) : Prop:=jn (mk 346 0 [0,1,5,7,8,41,256]) (zfZ [tT,tT,fF,tT,fF,tT,tT,tT,tT,tT,tT,tT,tT,tT,tT,tT] 23) [x0,x1,x5,x7,x8,x41,x256] H (kBlk 0 (kSeq (cutC (mk 346 0 []) (zfZ [tT,tT,tT] 45)) (kRet Tryz.prog Tryz.f32.results.toList K)))
def zvqZ (x0 x1 x5 x7 x8 x41 x233 : AV) (H : AH) (K : KT) : Prop:=jn (mk 346 0 [0,1,5,7,8,41,233]) (zfZ [tT,tT,fF,tT,fF,tT,tT,tT,tT,tT,tT,tT,tT,tT] 21) [x0,x1,x5,x7,x8,x41,x233] H (kBlk 0 (kSeq (cutC (mk 346 0 []) (zfZ [tT,tT,tT] 45)) (kRet Tryz.prog Tryz.f32.results.toList K)))
def zuzZ (x0 x1 x5 x7 x8 x41 x218 : AV) (H : AH) (K : KT) : Prop:=jn (mk 346 0 [0,1,5,7,8,41,218]) (zfZ [tT,tT,fF,tT,fF,tT,tT,tT,tT,tT,tT,tT] 19) [x0,x1,x5,x7,x8,x41,x218] H (kBlk 0 (kSeq (cutC (mk 346 0 []) (zfZ [tT,tT,tT] 45)) (kRet Tryz.prog Tryz.f32.results.toList K)))
def zutZ (x0 x1 x5 x7 x8 x41 x184 : AV) (H : AH) (K : KT) : Prop:=jn (mk 346 0 [0,1,5,7,8,41,184]) (zfZ [tT,tT,fF,tT,fF,tT,tT,tT,tT,tT] 15) [x0,x1,x5,x7,x8,x41,x184] H (kBlk 0 (kSeq (cutC (mk 346 0 []) (zfZ [tT,tT,tT] 45)) (kRet Tryz.prog Tryz.f32.results.toList K)))
def zpjZ (x0 x1 x5 x7 x8 x41 x151 : AV) (H : AH) (K : KT) : Prop:=jn (mk 346 0 [0,1,5,7,8,41,151]) (zfZ [tT,tT,fF,tT,fF,tT,tT,tT] 11) [x0,x1,x5,x7,x8,x41,x151] H (kBlk 0 (kSeq (cutC (mk 346 0 []) (zfZ [tT,tT,tT] 45)) (kRet Tryz.prog Tryz.f32.results.toList K)))
def zvsZ (x0 x1 x5 x7 x8 x41 x151 : AV) (H : AH) (K : KT) : Prop:=jn (mk 346 0 [0,1,5,7,8,41,151]) (zfZ [tT,tT,fF,tT,fF,tT,tT,fF,tT] 11) [x0,x1,x5,x7,x8,x41,x151] H (kSeq (cutC (mk 346 0 [0,1,5,7,8,41,151]) (zfZ [tT,tT,fF,tT,fF,tT,tT,tT] 11)) (kBlk 0 (kSeq (cutC (mk 346 0 []) (zfZ [tT,tT,tT] 45)) (kRet Tryz.prog Tryz.f32.results.toList K))))
def zpkZ (x0 x1 x5 x7 x8 x41 x120 : AV) (H : AH) (K : KT) : Prop:=jn (mk 346 0 [0,1,5,7,8,41,120]) (zfZ [tT,tT,fF,tT,fF,tT] 6) [x0,x1,x5,x7,x8,x41,x120] H (kBlk 0 (kSeq (cutC (mk 346 0 []) (zfZ [tT,tT,tT] 45)) (kRet Tryz.prog Tryz.f32.results.toList K)))
def zmeZ (x9 x10 x11 x12 : AV) (H : AH) (K : KT) : Prop :=
bO (abI .eql x9 x11) λv0=>
bG v0 true λw1=>
gO w1 (some x10) λv2=>
bG v0 true λw3=>
gO w3 (some x12) λv4=>
bG v0 true λw5=>
gO w5 (abI .eql v2 v4) λv6=>
bO (apick v0 v6 (B false)) λv7=>
K v7 H
theorem zrdZ (x9 x10 x11 x12 : AV) (H : AH) (K : KT) : zwzZ x9 x10 x11 x12 H K=zmeZ x9 x10 x11 x12 H K:=(jn_eq _ _ _ _ _).trans (by kernel_rfl)
def zmhZ (x1 x5 x7 x9 x10 : AV) (H : AH) (K : KT) : Prop :=
bO (zhZ 0 x5) λv0=>
bO (ald false 1 H v0) λv1=>
bO (abI .rem v1 (.lit (.int .u8 16))) λv2=>
bO (abI .eql v2 (.lit (.int .u8 0))) λv3=>
bC (BCall Tryz.prog 41 [x1,x7,v3] H) λv4 H5=>
bO (zjZ v4 0) λv6=>
bO (zjZ v4 1) λv7=>
zwzZ x9 x10 v6 v7 H5 K
theorem zroZ (x1 x5 x7 x9 x10 : AV) (H : AH) (K : KT) : zyeZ x1 x5 x7 x9 x10 H K=zmhZ x1 x5 x7 x9 x10 H K:=(jn_eq _ _ _ _ _).trans (by kernel_rfl)
def zkaZ (x13 x14 x15 x16 : AV) (H : AH) (K : KT) : Prop :=
bO (abI .eql x13 x15) λv0=>
bG v0 true λw1=>
gO w1 (some x14) λv2=>
bG v0 true λw3=>
gO w3 (some x16) λv4=>
bG v0 true λw5=>
gO w5 (abI .eql v2 v4) λv6=>
bO (apick v0 v6 (B false)) λv7=>
K v7 H
theorem zpbZ (x13 x14 x15 x16 : AV) (H : AH) (K : KT) : zvcZ x13 x14 x15 x16 H K=zkaZ x13 x14 x15 x16 H K:=(jn_eq _ _ _ _ _).trans (by kernel_rfl)
def zlcZ (x1 x5 x13 x14 : AV) (H : AH) (K : KT) : Prop :=
bO (zhZ 3 x5) λv0=>
bO (ald false 1 H v0) λv1=>
bO (zhZ 4 x5) λv2=>
bO (ald false 1 H v2) λv3=>
bO (zhZ 6 x5) λv4=>
bO (ald false 1 H v4) λv5=>
bC (BCall Tryz.prog 77 [x1,v1,v3,v5] H) λv6 H7=>
bO (zjZ v6 0) λv8=>
bO (zjZ v6 1) λv9=>
zvcZ x13 x14 v8 v9 H7 K
theorem zpfZ (x1 x5 x13 x14 : AV) (H : AH) (K : KT) : zvhZ x1 x5 x13 x14 H K=zlcZ x1 x5 x13 x14 H K:=(jn_eq _ _ _ _ _).trans (by kernel_rfl)
def zqrZ (x17 x18 x19 x20 : AV) (H : AH) (K : KT) : Prop :=
bO (acB H x17) λv0=>
bO (acB H x19) λv1=>
bO (abT .eql v0 v1) λv2=>
bG v2 true λw3=>
gO w3 (some x18) λv4=>
bG v2 true λw5=>
gO w5 (some x20) λv6=>
bG v2 true λw7=>
gO w7 (abI .eql v4 v6) λv8=>
bO (apick v2 v8 (B false)) λv9=>
K v9 H
theorem zbbbZ (x17 x18 x19 x20 : AV) (H : AH) (K : KT) : zurZ x17 x18 x19 x20 H K=zqrZ x17 x18 x19 x20 H K:=(jn_eq _ _ _ _ _).trans (by kernel_rfl)
def zrhZ (x1 x5 x17 x18 : AV) (H : AH) (K : KT) : Prop :=
bO (zhZ 3 x5) λv0=>
bO (ald false 1 H v0) λv1=>
bO (zhZ 4 x5) λv2=>
bO (ald false 1 H v2) λv3=>
bO (zhZ 5 x5) λv4=>
bO (ald false 1 H v4) λv5=>
bC (BCall Tryz.prog 50 [x1,v1,v3,v5] H) λv6 H7=>
bO (zjZ v6 0) λv8=>
bO (zjZ v6 1) λv9=>
zurZ x17 x18 v8 v9 H7 K
theorem zbavZ (x1 x5 x17 x18 : AV) (H : AH) (K : KT) : zuoZ x1 x5 x17 x18 H K=zrhZ x1 x5 x17 x18 H K:=(jn_eq _ _ _ _ _).trans (by kernel_rfl)
def zmkZ (H : AH) (K : KT) : Prop :=
K (B true) H
theorem zqzZ (H : AH) (K : KT) : zpuZ H K=zmkZ H K:=(jn_eq _ _ _ _ _).trans (by kernel_rfl)
def zqvZ (x1 x5 : AV) (H : AH) (K : KT) : Prop :=
bO (zhZ 5 x5) λv0=>
bO (ald false 1 H v0) λv1=>
bC (BCall Tryz.prog 42 [x1,v1] H) λv2 H3=>
zpuZ H3 K
theorem zbawZ (x1 x5 : AV) (H : AH) (K : KT) : zweZ x1 x5 H K=zqvZ x1 x5 H K:=(jn_eq _ _ _ _ _).trans (by kernel_rfl)
def zrnZ (x1 x5 : AV) (H : AH) (K : KT) : Prop :=
bO (zhZ 8 x5) λv0=>
bO (ald false 1 H v0) λv1=>
bC (BCall Tryz.prog 84 [x1,v1] H) λv2 H3=>
zpuZ H3 K
theorem zbajZ (x1 x5 : AV) (H : AH) (K : KT) : zvpZ x1 x5 H K=zrnZ x1 x5 H K:=(jn_eq _ _ _ _ _).trans (by kernel_rfl)
def zrjZ (x21 x22 x23 x24 x25 x26 x27 x28 x29 x30 x31 x32 : AV) (H : AH) (K : KT) : Prop :=
bO (abI .eql x21 x23) λv0=>
bG v0 true λw1=>
gO w1 (some x22) λv2=>
bG v0 true λw3=>
gO w3 (some x24) λv4=>
bG v0 true λw5=>
gO w5 (abI .eql v2 v4) λv6=>
bO (apick v0 v6 (B false)) λv7=>
bG v7 true λw8=>
gO w8 (some x25) λv9=>
bG v7 true λw10=>
gO w10 (some x27) λv11=>
bG v7 true λw12=>
gO w12 (abI .eql v9 v11) λv13=>
bO (apick v7 v13 (B false)) λv14=>
bG v14 true λw15=>
gO w15 (some x26) λv16=>
bG v14 true λw17=>
gO w17 (some x28) λv18=>
bG v14 true λw19=>
gO w19 (abI .eql v16 v18) λv20=>
bO (apick v14 v20 (B false)) λv21=>
bG v21 true λw22=>
gO w22 (some x29) λv23=>
bG v21 true λw24=>
gO w24 (some x31) λv25=>
bG v21 true λw26=>
gO w26 (abI .eql v23 v25) λv27=>
bO (apick v21 v27 (B false)) λv28=>
bG v28 true λw29=>
gO w29 (some x30) λv30=>
bG v28 true λw31=>
gO w31 (some x32) λv32=>
bG v28 true λw33=>
gO w33 (abI .eql v30 v32) λv34=>
bO (apick v28 v34 (B false)) λv35=>
K v35 H
theorem zbaiZ (x21 x22 x23 x24 x25 x26 x27 x28 x29 x30 x31 x32 : AV) (H : AH) (K : KT) : zwcZ x21 x22 x23 x24 x25 x26 x27 x28 x29 x30 x31 x32 H K=zrjZ x21 x22 x23 x24 x25 x26 x27 x28 x29 x30 x31 x32 H K:=(jn_eq _ _ _ _ _).trans (by kernel_rfl)
def zrpZ (x1 x5 x21 x22 x23 x24 x25 x26 x27 x28 x29 x30 : AV) (H : AH) (K : KT) : Prop :=
bO (zhZ 3 x5) λv0=>
bO (ald false 1 H v0) λv1=>
bO (zhZ 4 x5) λv2=>
bO (ald false 1 H v2) λv3=>
bC (BCall Tryz.prog 89 [x1,v1,v3] H) λv4 H5=>
bO (zjZ v4 0) λv6=>
bO (zjZ v4 1) λv7=>
zwcZ x21 x22 x23 x24 x25 x26 x27 x28 x29 x30 v6 v7 H5 K
theorem zbaqZ (x1 x5 x21 x22 x23 x24 x25 x26 x27 x28 x29 x30 : AV) (H : AH) (K : KT) : zuxZ x1 x5 x21 x22 x23 x24 x25 x26 x27 x28 x29 x30 H K=zrpZ x1 x5 x21 x22 x23 x24 x25 x26 x27 x28 x29 x30 H K:=(jn_eq _ _ _ _ _).trans (by kernel_rfl)
def zreZ (x0 x1 x5 x21 x22 x23 x24 x25 x26 x27 x28 : AV) (H : AH) (K : KT) : Prop :=
bO (zhZ 3 x5) λv0=>
bO (ald false 1 H v0) λv1=>
bO (zhZ 4 x5) λv2=>
bO (ald false 1 H v2) λv3=>
bC (BCall Tryz.prog 88 [x0,v1,v3] H) λv4 H5=>
bO (zjZ v4 0) λv6=>
bO (zjZ v4 1) λv7=>
zuxZ x1 x5 x21 x22 x23 x24 x25 x26 x27 x28 v6 v7 H5 K
theorem zbafZ (x0 x1 x5 x21 x22 x23 x24 x25 x26 x27 x28 : AV) (H : AH) (K : KT) : zuuZ x0 x1 x5 x21 x22 x23 x24 x25 x26 x27 x28 H K=zreZ x0 x1 x5 x21 x22 x23 x24 x25 x26 x27 x28 H K:=(jn_eq _ _ _ _ _).trans (by kernel_rfl)
def zqxZ (x0 x1 x5 x21 x22 x23 x24 x25 x26 : AV) (H : AH) (K : KT) : Prop :=
bO (zhZ 3 x5) λv0=>
bO (ald false 1 H v0) λv1=>
bO (zhZ 4 x5) λv2=>
bO (ald false 1 H v2) λv3=>
bC (BCall Tryz.prog 87 [x1,v1,v3] H) λv4 H5=>
bO (zjZ v4 0) λv6=>
bO (zjZ v4 1) λv7=>
zuuZ x0 x1 x5 x21 x22 x23 x24 x25 x26 v6 v7 H5 K
theorem zbauZ (x0 x1 x5 x21 x22 x23 x24 x25 x26 : AV) (H : AH) (K : KT) : zuqZ x0 x1 x5 x21 x22 x23 x24 x25 x26 H K=zqxZ x0 x1 x5 x21 x22 x23 x24 x25 x26 H K:=(jn_eq _ _ _ _ _).trans (by kernel_rfl)
def zrsZ (x0 x1 x5 x21 x22 x23 x24 : AV) (H : AH) (K : KT) : Prop :=
bO (zhZ 3 x5) λv0=>
bO (ald false 1 H v0) λv1=>
bO (zhZ 4 x5) λv2=>
bO (ald false 1 H v2) λv3=>
bC (BCall Tryz.prog 86 [x0,v1,v3] H) λv4 H5=>
bO (zjZ v4 0) λv6=>
bO (zjZ v4 1) λv7=>
zuqZ x0 x1 x5 x21 x22 x23 x24 v6 v7 H5 K
theorem zbalZ (x0 x1 x5 x21 x22 x23 x24 : AV) (H : AH) (K : KT) : zwiZ x0 x1 x5 x21 x22 x23 x24 H K=zrsZ x0 x1 x5 x21 x22 x23 x24 H K:=(jn_eq _ _ _ _ _).trans (by kernel_rfl)
def zrmZ (x0 x1 x5 x21 x22 : AV) (H : AH) (K : KT) : Prop :=
bO (zhZ 3 x5) λv0=>
bO (ald false 1 H v0) λv1=>
bC (BCall Tryz.prog 85 [x1,v1] H) λv2 H3=>
bO (zjZ v2 0) λv4=>
bO (zjZ v2 1) λv5=>
zwiZ x0 x1 x5 x21 x22 v4 v5 H3 K
theorem zbatZ (x0 x1 x5 x21 x22 : AV) (H : AH) (K : KT) : zusZ x0 x1 x5 x21 x22 H K=zrmZ x0 x1 x5 x21 x22 H K:=(jn_eq _ _ _ _ _).trans (by kernel_rfl)
def zjzZ (x0 x1 x5 x336 : AV) (H : AH) (K : KT) : Prop :=
bB x336 λt0=>bI t0 (
bO (zhZ 8 x5) λv1=>
bO (ald false 1 H v1) λv2=>
bC (BCall Tryz.prog 38 [x0,v2] H) λv3 H4=>
zvpZ x1 x5 H4 K)
 (bO (zhZ 3 x5) λv5=>
bO (ald false 1 H v5) λv6=>
bC (BCall Tryz.prog 22 [x0,v6] H) λv7 H8=>
bO (zjZ v7 0) λv9=>
bO (zjZ v7 1) λv10=>
zusZ x0 x1 x5 v9 v10 H8 K)
theorem zptZ (x0 x1 x5 x336 : AV) (H : AH) (K : KT) : zvfZ x0 x1 x5 x336 H K=zjzZ x0 x1 x5 x336 H K:=(jn_eq _ _ _ _ _).trans (by kernel_rfl)
def zgoZ (x0 x1 x5 x41 x326 : AV) (H : AH) (K : KT) : Prop :=
bB x326 λt0=>bI t0 (
bO (zhZ 5 x5) λv1=>
bO (ald false 1 H v1) λv2=>
bC (BCall Tryz.prog 13 [x0,v2] H) λv3 H4=>
zweZ x1 x5 H4 K)
 (bO (abI .eql x41 (.lit (.int .u8 14))) λv5=>
zvfZ x0 x1 x5 v5 H K)
theorem zizZ (x0 x1 x5 x41 x326 : AV) (H : AH) (K : KT) : zvxZ x0 x1 x5 x41 x326 H K=zgoZ x0 x1 x5 x41 x326 H K:=(jn_eq _ _ _ _ _).trans (by kernel_rfl)
def zeuZ (x0 x1 x5 x41 x313 : AV) (H : AH) (K : KT) : Prop :=
bB x313 λt0=>bI t0 (
bO (zhZ 3 x5) λv1=>
bO (ald false 1 H v1) λv2=>
bO (absf 1 1 (zrow [(I 0)] 1) [(0,1,v2)]) λv3=>
bC (BCall Tryz.prog 14 [x0,v3] H) λv4 H5=>
bO (zhZ 3 x5) λv6=>
bO (ald false 1 H5 v6) λv7=>
bO (absf 1 1 (zrow [(I 0)] 1) [(0,1,v7)]) λv8=>
bC (BCall Tryz.prog 83 [x1,v8] H5) λv9 H10=>
bO (abI .eql v4 v9) λv11=>
(ald false 1 H v6=some v7) ∧
K v11 H10)
 (bO (abI .eql x41 (.lit (.int .u8 13))) λv12=>
zvxZ x0 x1 x5 x41 v12 H K)
theorem zfzZ (x0 x1 x5 x41 x313 : AV) (H : AH) (K : KT) : zwdZ x0 x1 x5 x41 x313 H K=zeuZ x0 x1 x5 x41 x313 H K:=(jn_eq _ _ _ _ _).trans (by kernel_rfl)
def zdrZ (x0 x1 x5 x41 x306 : AV) (H : AH) (K : KT) : Prop :=
bB x306 λt0=>bI t0 (
bC (BCall Tryz.prog 14 [x0,nilSl] H) λv1 H2=>
bC (BCall Tryz.prog 83 [x1,nilSl] H2) λv3 H4=>
bO (abI .eql v1 v3) λv5=>
K v5 H4)
 (bO (abI .eql x41 (.lit (.int .u8 12))) λv6=>
zwdZ x0 x1 x5 x41 v6 H K)
theorem zeeZ (x0 x1 x5 x41 x306 : AV) (H : AH) (K : KT) : zvoZ x0 x1 x5 x41 x306 H K=zdrZ x0 x1 x5 x41 x306 H K:=(jn_eq _ _ _ _ _).trans (by kernel_rfl)
def zdbZ (x0 x1 x5 x41 x295 : AV) (H : AH) (K : KT) : Prop :=
bB x295 λt0=>bI t0 (
bO (zhZ 9 x5) λv1=>
bO (ald false 1 H v1) λv2=>
bC (BCall Tryz.prog 14 [x0,v2] H) λv3 H4=>
bO (zhZ 9 x5) λv5=>
bO (ald false 1 H4 v5) λv6=>
bC (BCall Tryz.prog 83 [x1,v6] H4) λv7 H8=>
bO (abI .eql v3 v7) λv9=>
(ald false 1 H v5=some v6) ∧
K v9 H8)
 (bO (abI .eql x41 (.lit (.int .u8 11))) λv10=>
zvoZ x0 x1 x5 x41 v10 H K)
theorem zdlZ (x0 x1 x5 x41 x295 : AV) (H : AH) (K : KT) : zviZ x0 x1 x5 x41 x295 H K=zdbZ x0 x1 x5 x41 x295 H K:=(jn_eq _ _ _ _ _).trans (by kernel_rfl)
def zchZ (x0 x1 x5 x7 x41 x286 : AV) (H : AH) (K : KT) : Prop :=
bB x286 λt0=>bI t0 (
bC (BCall Tryz.prog 23 [x0,x7] H) λv1 H2=>
bC (BCall Tryz.prog 82 [x1,x7] H2) λv3 H4=>
bO (abI .eql v1 v3) λv5=>
K v5 H4)
 (bO (abI .eql x41 (.lit (.int .u8 10))) λv6=>
zviZ x0 x1 x5 x41 v6 H K)
theorem zcuZ (x0 x1 x5 x7 x41 x286 : AV) (H : AH) (K : KT) : zupZ x0 x1 x5 x7 x41 x286 H K=zchZ x0 x1 x5 x7 x41 x286 H K:=(jn_eq _ _ _ _ _).trans (by kernel_rfl)
def zbxZ (x0 x1 x5 x7 x8 x41 x275 : AV) (H : AH) (K : KT) : Prop :=
bB x275 λt0=>bI t0 (
bC (BCall Tryz.prog 24 [x0,x7,x8] H) λv1 H2=>
bC (BCall Tryz.prog 81 [x1,x7,x8] H2) λv3 H4=>
bO (abI .eql v1 v3) λv5=>
K v5 H4)
 (bO (abI .eql x41 (.lit (.int .u8 9))) λv6=>
zupZ x0 x1 x5 x7 x41 v6 H K)
theorem zcbZ (x0 x1 x5 x7 x8 x41 x275 : AV) (H : AH) (K : KT) : zvgZ x0 x1 x5 x7 x8 x41 x275 H K=zbxZ x0 x1 x5 x7 x8 x41 x275 H K:=(jn_eq _ _ _ _ _).trans (by kernel_rfl)
def zbtZ (x0 x1 x5 x7 x8 x41 x256 : AV) (H : AH) (K : KT) : Prop :=
bB x256 λt0=>bI t0 (
bO (zhZ 3 x5) λv1=>
bO (ald false 1 H v1) λv2=>
bO (zhZ 4 x5) λv3=>
bO (ald false 1 H v3) λv4=>
bO (zhZ 5 x5) λv5=>
bO (ald false 1 H v5) λv6=>
bC (BCall Tryz.prog 27 [x0,v2,v4,v6] H) λv7 H8=>
bO (zhZ 3 x5) λv9=>
bO (ald false 1 H8 v9) λv10=>
bO (zhZ 4 x5) λv11=>
bO (ald false 1 H8 v11) λv12=>
bO (zhZ 5 x5) λv13=>
bO (ald false 1 H8 v13) λv14=>
bC (BCall Tryz.prog 80 [x1,v10,v12,v14] H8) λv15 H16=>
bO (abI .eql v7 v15) λv17=>
(ald false 1 H v9=some v10) ∧
(ald false 1 H v11=some v12) ∧
(ald false 1 H v13=some v14) ∧
K v17 H16)
 (bO (abI .eql x41 (.lit (.int .u8 8))) λv18=>
zvgZ x0 x1 x5 x7 x8 x41 v18 H K)
theorem zbvZ (x0 x1 x5 x7 x8 x41 x256 : AV) (H : AH) (K : KT) : zuwZ x0 x1 x5 x7 x8 x41 x256 H K=zbtZ x0 x1 x5 x7 x8 x41 x256 H K:=(jn_eq _ _ _ _ _).trans (by kernel_rfl)
def zbnZ (x0 x1 x5 x7 x8 x41 x233 : AV) (H : AH) (K : KT) : Prop :=
bB x233 λt0=>bI t0 (
bO (zhZ 3 x5) λv1=>
bO (ald false 1 H v1) λv2=>
bO (zhZ 4 x5) λv3=>
bO (ald false 1 H v3) λv4=>
bO (zhZ 5 x5) λv5=>
bO (ald false 1 H v5) λv6=>
bO (zhZ 7 x5) λv7=>
bO (ald false 1 H v7) λv8=>
bC (BCall Tryz.prog 26 [x0,v2,v4,v6,v8] H) λv9 H10=>
bO (zhZ 3 x5) λv11=>
bO (ald false 1 H10 v11) λv12=>
bO (zhZ 4 x5) λv13=>
bO (ald false 1 H10 v13) λv14=>
bO (zhZ 5 x5) λv15=>
bO (ald false 1 H10 v15) λv16=>
bO (zhZ 7 x5) λv17=>
bO (ald false 1 H10 v17) λv18=>
bC (BCall Tryz.prog 79 [x1,v12,v14,v16,v18] H10) λv19 H20=>
bO (abI .eql v9 v19) λv21=>
(ald false 1 H v11=some v12) ∧
(ald false 1 H v13=some v14) ∧
(ald false 1 H v15=some v16) ∧
(ald false 1 H v17=some v18) ∧
K v21 H20)
 (bO (abI .eql x41 (.lit (.int .u8 7))) λv22=>
zuwZ x0 x1 x5 x7 x8 x41 v22 H K)
theorem zboZ (x0 x1 x5 x7 x8 x41 x233 : AV) (H : AH) (K : KT) : zvqZ x0 x1 x5 x7 x8 x41 x233 H K=zbnZ x0 x1 x5 x7 x8 x41 x233 H K:=(jn_eq _ _ _ _ _).trans (by kernel_rfl)
def zbkZ (x0 x1 x5 x7 x8 x41 x218 : AV) (H : AH) (K : KT) : Prop :=
bB x218 λt0=>bI t0 (
bO (zhZ 3 x5) λv1=>
bO (ald false 1 H v1) λv2=>
bO (zhZ 5 x5) λv3=>
bO (ald false 1 H v3) λv4=>
bC (BCall Tryz.prog 25 [x0,v2,v4] H) λv5 H6=>
bO (zhZ 3 x5) λv7=>
bO (ald false 1 H6 v7) λv8=>
bO (zhZ 5 x5) λv9=>
bO (ald false 1 H6 v9) λv10=>
bC (BCall Tryz.prog 78 [x1,v8,v10] H6) λv11 H12=>
bO (abI .eql v5 v11) λv13=>
(ald false 1 H v7=some v8) ∧
(ald false 1 H v9=some v10) ∧
K v13 H12)
 (bO (abI .eql x41 (.lit (.int .u8 6))) λv14=>
zvqZ x0 x1 x5 x7 x8 x41 v14 H K)
theorem zblZ (x0 x1 x5 x7 x8 x41 x218 : AV) (H : AH) (K : KT) : zuzZ x0 x1 x5 x7 x8 x41 x218 H K=zbkZ x0 x1 x5 x7 x8 x41 x218 H K:=(jn_eq _ _ _ _ _).trans (by kernel_rfl)
def zbgZ (x0 x1 x5 x7 x8 x41 x184 : AV) (H : AH) (K : KT) : Prop :=
bB x184 λt0=>bI t0 (
bO (zhZ 3 x5) λv1=>
bO (ald false 1 H v1) λv2=>
bO (zhZ 4 x5) λv3=>
bO (ald false 1 H v3) λv4=>
bO (zhZ 5 x5) λv5=>
bO (ald false 1 H v5) λv6=>
bC (BCall Tryz.prog 21 [x0,v2,v4,v6] H) λv7 H8=>
bO (zjZ v7 0) λv9=>
bO (zjZ v7 1) λv10=>
zuoZ x1 x5 v9 v10 H8 K)
 (bO (abI .eql x41 (.lit (.int .u8 5))) λv11=>
zuzZ x0 x1 x5 x7 x8 x41 v11 H K)
theorem zbhZ (x0 x1 x5 x7 x8 x41 x184 : AV) (H : AH) (K : KT) : zutZ x0 x1 x5 x7 x8 x41 x184 H K=zbgZ x0 x1 x5 x7 x8 x41 x184 H K:=(jn_eq _ _ _ _ _).trans (by kernel_rfl)
def zbfZ (x0 x1 x5 x7 x8 x41 x151 : AV) (H : AH) (K : KT) : Prop :=
bB x151 λt0=>bI t0 (
bO (zhZ 3 x5) λv1=>
bO (ald false 1 H v1) λv2=>
bO (zhZ 4 x5) λv3=>
bO (ald false 1 H v3) λv4=>
bO (zhZ 6 x5) λv5=>
bO (ald false 1 H v5) λv6=>
bC (BCall Tryz.prog 20 [x0,v2,v4,v6] H) λv7 H8=>
bO (zjZ v7 0) λv9=>
bO (zjZ v7 1) λv10=>
zvhZ x1 x5 v9 v10 H8 K)
 (bO (abI .eql x41 (.lit (.int .u8 4))) λv11=>
zutZ x0 x1 x5 x7 x8 x41 v11 H K)
theorem zbeZ (x0 x1 x5 x7 x8 x41 x151 : AV) (H : AH) (K : KT) : zpjZ x0 x1 x5 x7 x8 x41 x151 H K=zbfZ x0 x1 x5 x7 x8 x41 x151 H K:=(jn_eq _ _ _ _ _).trans (by kernel_rfl)
def zbaZ (x0 x1 x5 x7 x8 x41 x151 : AV) (H : AH) (K : KT) : Prop :=
bB x151 λt0=>bI t0 (
zpjZ x0 x1 x5 x7 x8 x41 x151 H K)
 (bO (abI .eql x41 (.lit (.int .u8 3))) λv1=>
zpjZ x0 x1 x5 x7 x8 x41 v1 H K)
theorem zzZ (x0 x1 x5 x7 x8 x41 x151 : AV) (H : AH) (K : KT) : zvsZ x0 x1 x5 x7 x8 x41 x151 H K=zbaZ x0 x1 x5 x7 x8 x41 x151 H K:=(jn_eq _ _ _ _ _).trans (by kernel_rfl)
def zxZ (x0 x1 x5 x7 x8 x41 x120 : AV) (H : AH) (K : KT) : Prop :=
bB x120 λt0=>bI t0 (
bO (zhZ 0 x5) λv1=>
bO (ald false 1 H v1) λv2=>
bO (abI .rem v2 (.lit (.int .u8 16))) λv3=>
bO (abI .eql v3 (.lit (.int .u8 0))) λv4=>
bC (BCall Tryz.prog 19 [x0,x7,v4] H) λv5 H6=>
bO (zjZ v5 0) λv7=>
bO (zjZ v5 1) λv8=>
zyeZ x1 x5 x7 v7 v8 H6 K)
 (bO (abI .eql x41 (.lit (.int .u8 2))) λv9=>
zvsZ x0 x1 x5 x7 x8 x41 v9 H K)
theorem zwZ (x0 x1 x5 x7 x8 x41 x120 : AV) (H : AH) (K : KT) : zpkZ x0 x1 x5 x7 x8 x41 x120 H K=zxZ x0 x1 x5 x7 x8 x41 x120 H K:=(jn_eq _ _ _ _ _).trans (by kernel_rfl)
def zbepZ (a0 a1 a2 : AV) (H : AH) (K : KT) : Prop :=
bH (anew H a2) λv0 H1=>
bO (zhZ 1 v0) λv2=>
bO (ald false 1 H1 v2) λv3=>
bP (BPure Tryz.prog 18 [v3]) λv4=>
bO (zhZ 2 v0) λv5=>
bO (ald false 1 H1 v5) λv6=>
bP (BPure Tryz.prog 18 [v6]) λv7=>
bO (zhZ 0 v0) λv8=>
bO (ald false 1 H1 v8) λv9=>
bO (abI .rem v9 (.lit (.int .u8 16))) λv10=>
bO (abI .eql v10 (.lit (.int .u8 0))) λv11=>
bB v11 λt12=>bI t12 (
zpkZ a0 a1 v0 v4 v7 v10 v11 H1 K)
 (bO (abI .eql v10 (.lit (.int .u8 1))) λv13=>
zpkZ a0 a1 v0 v4 v7 v10 v13 H1 K)
theorem salvorlaw13_Do_ok {a0 a1 a2 : AV} {H : AH} {K : KT} (h : zbepZ a0 a1 a2 H K) : OKP 32 [a0,a1,a2] H K :=
 fok zxjZ pqg zxnZ Tryz.func32 (by kernel_rfl) (by kernel_rfl) h
def zlqZ : zbcqZ:=flOf [(21,[(0,some 13),(4,some 13),(6,some 13),(7,some 13),(8,some 13)])]
def zlwZ : Nat→Option (List Bool):=kpOf [(14,mk 171 0 [1,2,3,9,10,11,12]),(17,mk 171 0 [1,2,3,9,10,11,12,76]),(15,mk 171 0 [1,2,3,9,10,11,12]),(11,mk 171 0 [1,2,3,9,10,11,12])]
def zbjZ (p : List Bool) (n : Nat) : List AV→AH→Kf→Prop:=sCode Tryz.prog zlqZ pqg none0 none0 zlwZ (sub p (zhyZ Tryz.f4)) n
def zkhZ (R11 : RT) (x1 x2 x3 x9 x10 x11 x12 : AV) (H : AH) (K : KT) : Prop:=jn (mk 171 0 [1,2,3,9,10,11,12]) (zbjZ [tT,tT,tT,tT,tT,fF,tT,fF,fF,tT,tT] 19) [x1,x2,x3,x9,x10,x11,x12] H (kLp (mk 171 0 [1,2,3,9,10,11,12]) R11 (kBlk 0 (kSeq (zbjZ [tT,tT,tT,tT,tT,tT] 19) (kRet Tryz.prog Tryz.f4.results.toList K))))
def zkmZ (R11 : RT) (x1 x2 x3 x9 x10 x11 x12 x76 : AV) (H : AH) (K : KT) : Prop:=jn (mk 171 0 [1,2,3,9,10,11,12,76]) (zbjZ [tT,tT,tT,tT,tT,fF,tT,fF,fF,tT,fF,fF,tT,tT] 18) [x1,x2,x3,x9,x10,x11,x12,x76] H (kBlk 1 (kSeq (cutC (mk 171 0 [1,2,3,9,10,11,12]) (zbjZ [tT,tT,tT,tT,tT,fF,tT,fF,fF,tT,tT] 19)) (kLp (mk 171 0 [1,2,3,9,10,11,12]) R11 (kBlk 0 (kSeq (zbjZ [tT,tT,tT,tT,tT,tT] 19) (kRet Tryz.prog Tryz.f4.results.toList K))))))
def zebZ (R11 : RT) (x1 x2 x3 x9 x10 x11 x12 : AV) (H : AH) (K : KT) : Prop:=jn (mk 171 0 [1,2,3,9,10,11,12]) (zbjZ [tT,tT,tT,tT,tT,fF,tT,fF,fF,tT,fF,fF,tT] 17) [x1,x2,x3,x9,x10,x11,x12] H (kBlk 1 (kSeq (cutC (mk 171 0 [1,2,3,9,10,11,12]) (zbjZ [tT,tT,tT,tT,tT,fF,tT,fF,fF,tT,tT] 19)) (kLp (mk 171 0 [1,2,3,9,10,11,12]) R11 (kBlk 0 (kSeq (zbjZ [tT,tT,tT,tT,tT,tT] 19) (kRet Tryz.prog Tryz.f4.results.toList K))))))
def zkkZ (x1 x2 x3 x9 x10 x11 x12 : AV) (H : AH) (K : KT) : Prop:=lp (mk 171 0 [1,2,3,9,10,11,12]) (zbjZ [tT,tT,tT,tT,tT,fF,tT,fF,fF] 12) [x1,x2,x3,x9,x10,x11,x12] H (kBlk 0 (kSeq (zbjZ [tT,tT,tT,tT,tT,tT] 19) (kRet Tryz.prog Tryz.f4.results.toList K)))
def zidZ (R11 : RT) (x1 x2 x3 x9 x10 x11 x12 : AV) (H : AH) (K : KT) : Prop :=
bO (abI .add x12 (I 1)) λv0=>
R11 [x1,x2,x3,x9,x10,x11,v0] H
theorem zqmZ (R11 : RT) (x1 x2 x3 x9 x10 x11 x12 : AV) (H : AH) (K : KT) : zkhZ R11 x1 x2 x3 x9 x10 x11 x12 H K=zidZ R11 x1 x2 x3 x9 x10 x11 x12 H K:=(jn_eq _ _ _ _ _).trans (by kernel_rfl)
def zinZ (R11 : RT) (x1 x2 x3 x9 x10 x11 x12 x76 : AV) (H : AH) (K : KT) : Prop :=
bB x76 λt0=>bI t0 (
K (B false) H)
 (zkhZ R11 x1 x2 x3 x9 x10 x11 x12 H K)
theorem zqlZ (R11 : RT) (x1 x2 x3 x9 x10 x11 x12 x76 : AV) (H : AH) (K : KT) : zkmZ R11 x1 x2 x3 x9 x10 x11 x12 x76 H K=zinZ R11 x1 x2 x3 x9 x10 x11 x12 x76 H K:=(jn_eq _ _ _ _ _).trans (by kernel_rfl)
def zikZ (R11 : RT) (x1 x2 x3 x9 x10 x11 x12 : AV) (H : AH) (K : KT) : Prop :=
bC (BCall Tryz.prog 15 [x10] H) λv0 H1=>
bP (PCall Tryz.prog 33 [v0] H1) λv2=>
bO (abI .gtr v2 x9) λv3=>
bG v3 false λw4=>
gO w4 (some x10) λv5=>
bG v3 false λw6=>
gC w6 (BCall Tryz.prog 34 [v5] H1) H1 λv7 H8=>
bG v3 false λw9=>
gO w9 (some x9) λv10=>
bG v3 false λw11=>
gO w11 (some x10) λv12=>
bG v3 false λw13=>
gC w13 (BCall Tryz.prog 15 [v12] H8) H8 λv14 H15=>
bG v3 false λw16=>
gP w16 (PCall Tryz.prog 33 [v14] H15) λv17=>
bG v3 false λw18=>
gO w18 (abI .sub v10 v17) λv19=>
bG v3 false λw20=>
gO w20 (abI .neq v7 v19) λv21=>
bO (apick v3 (B true) v21) λv22=>
zkmZ R11 x1 x2 x3 x9 x10 x11 x12 v22 H15 K
theorem zqiZ (R11 : RT) (x1 x2 x3 x9 x10 x11 x12 : AV) (H : AH) (K : KT) : zebZ R11 x1 x2 x3 x9 x10 x11 x12 H K=zikZ R11 x1 x2 x3 x9 x10 x11 x12 H K:=(jn_eq _ _ _ _ _).trans (by kernel_rfl)
def zilZ (R11 : RT) (x1 x2 x3 x9 x10 x11 x12 : AV) (H : AH) (K : KT) : Prop :=
bO (alnS x1) λv0=>
bO (abI .lss x12 v0) λv1=>
bB v1 λt2=>bI t2 (
bO (aixS 10 x1 x12) λv3=>
bO (zhZ 0 v3) λv4=>
bO (ald false 1 H v4) λv5=>
bO (abI .rem v5 (.lit (.int .u8 16))) λv6=>
bO (abI .lss v6 (.lit (.int .u8 13))) λv7=>
bB v7 λt8=>bI t8 (
bO (aixS 10 x1 x12) λv9=>
bO (ald true 10 H v9) λv10=>
bC (BCall Tryz.prog 32 [x10,x11,v10] H) λv11 H12=>
zebZ R11 x1 x2 x3 x9 x10 x11 x12 H12 K)
 (zebZ R11 x1 x2 x3 x9 x10 x11 x12 H K))
 (bC (BCall Tryz.prog 19 [x10,(.lit (.string ⟨#[100,115,116]⟩)),(B true)] H) λv13 H14=>
bO (zjZ v13 0) λv15=>
bO (zjZ v13 1) λv16=>
bO (abI .neq v16 (I 0)) λv17=>
bB v17 λt18=>bI t18 (
bO (abI .eql v16 (I 4)) λv19=>
bG v19 true λw20=>
gP w20 (PCall Tryz.prog 11 [] H14) λv21=>
bO (apick v19 v21 (B false)) λv22=>
K v22 H14)
 (bC (BCall Tryz.prog 15 [x10] H14) λv23 H24=>
bP (PCall Tryz.prog 35 [v23,v15] H24) λv25=>
bO (zjZ v25 0) λv26=>
bO (zjZ v25 1) λv27=>
bH (anew H24 (.agg [(I 0),nilSl])) λv28 H29=>
bS (ast 2 H29 v28 v26) λH30=>
bO (abI .rem x2 (.lit (.int .u16 300))) λv31=>
bO (acI .i64 v31) λv32=>
bC (BCall Tryz.prog 20 [x10,v15,v32,x3] H30) λv33 H34=>
bO (zjZ v33 0) λv35=>
bO (zjZ v33 1) λv36=>
bC (BCall Tryz.prog 15 [x10] H34) λv37 H38=>
bP (PCall Tryz.prog 35 [v37,v15] H38) λv39=>
bO (zjZ v39 0) λv40=>
bO (zjZ v39 1) λv41=>
bH (anew H38 (.agg [(I 0),nilSl])) λv42 H43=>
bS (ast 2 H43 v42 v40) λH44=>
bO (ald true 2 H44 v28) λv45=>
bO (amm imx [v35,(I 0)]) λv46=>
bO (alnS x3) λv47=>
bO (amm imn [v46,v47]) λv48=>
bO (aslS 1 x3 none (some v48) none) λv49=>
bP (BPure Tryz.prog 36 [v45,v32,v49]) λv50=>
bO (zjZ v50 0) λv51=>
bO (zjZ v50 1) λv52=>
bH (anew H44 (.agg [(I 0),nilSl])) λv53 H54=>
bS (ast 2 H54 v53 v51) λH55=>
(ald true 2 H54 v28=some v45) ∧
(amm imx [v35,(I 0)]=some v46) ∧
(alnS x3=some v47) ∧
(amm imn [v46,v47]=some v48) ∧
(aslS 1 x3 none (some v48) none=some v49) ∧
bO (abI .lss v35 (I 0)) λv56=>
bG v56 false λw57=>
gO w57 (some v35) λv58=>
bG v56 false λw59=>
gO w59 (some x3) λv60=>
bG v56 false λw61=>
gO w61 (alnS v60) λv62=>
bG v56 false λw63=>
gO w63 (abI .gtr v58 v62) λv64=>
bO (apick v56 (B true) v64) λv65=>
bG v65 false λw66=>
gO w66 (some v52) λv67=>
bG v65 false λw68=>
gO w68 (aun .not v67) λv69=>
bO (apick v65 (B true) v69) λv70=>
bG v70 false λw71=>
gO w71 (ald true 2 H55 v42) λv72=>
bG v70 false λw73=>
gO w73 (ald true 2 H55 v53) λv74=>
bG v70 false λw75=>
gP w75 (PCall Tryz.prog 37 [v72,v74] H55) λv76=>
bG v70 false λw77=>
gO w77 (aun .not v76) λv78=>
bO (apick v70 (B true) v78) λv79=>
bB v79 λt80=>bI t80 (
K (B false) H55)
 (bO (abI .eql v36 (I 0)) λv81=>
bG v81 true λw82=>
gO w82 (some v35) λv83=>
bG v81 true λw84=>
gO w84 (some x3) λv85=>
bG v81 true λw86=>
gO w86 (alnS v85) λv87=>
bG v81 true λw88=>
gO w88 (abI .eql v83 v87) λv89=>
bO (apick v81 v89 (B false)) λv90=>
bG v90 false λw91=>
gO w91 (some v36) λv92=>
bG v90 false λw93=>
gO w93 (abI .eql v92 (I 4)) λv94=>
bG v90 false λw95=>
gO w95 (some v94) λv96=>
bG v96 true λw97=>
gO w97 (some v35) λv98=>
bG v96 true λw99=>
gO w99 (some x3) λv100=>
bG v96 true λw101=>
gO w101 (alnS v100) λv102=>
bG v96 true λw103=>
gO w103 (abI .lss v98 v102) λv104=>
bG v90 false λw105=>
gO w105 (apick v96 v104 (B false)) λv106=>
bG v90 false λw107=>
gO w107 (some v106) λv108=>
bG v108 true λw109=>
gO w109 (some x10) λv110=>
bG v108 true λw111=>
gC w111 (BCall Tryz.prog 34 [v110] H55) H55 λv112 H113=>
bG v108 true λw114=>
gO w114 (abI .eql v112 (I 0)) λv115=>
bG v90 false λw116=>
gO w116 (apick v108 v115 (B false)) λv117=>
bO (apick v90 (B true) v117) λv118=>
bG v118 true λw119=>
gP w119 (PCall Tryz.prog 11 [] H113) λv120=>
bO (apick v118 v120 (B false)) λv121=>
K v121 H113)))
theorem zovZ {K : KT} : RL7 (λR x1 x2 x3 x9 x10 x11 x12 H=>zilZ R x1 x2 x3 x9 x10 x11 x12 H K) (λx1 x2 x3 x9 x10 x11 x12 H=>zkkZ x1 x2 x3 x9 x10 x11 x12 H K):=lpr7 (zvZ _ _) (λ_ _ _ _ _ _ _ _ _=>by kernel_rfl)
def zpeZ (a0 a1 a2 a3 : AV) (H : AH) (K : KT) : Prop :=
bP (PCall Tryz.prog 10 [a1,(I 40)] H) λv0=>
bO (aun .not v0) λv1=>
bG v1 false λw2=>
gO w2 (some a3) λv3=>
bG v1 false λw4=>
gO w4 (alnS v3) λv5=>
bG v1 false λw6=>
gO w6 (abI .gtr v5 (I 200)) λv7=>
bO (apick v1 (B true) v7) λv8=>
bB v8 λt9=>bI t9 (
bP (PCall Tryz.prog 11 [] H) λv10=>
K v10 H)
 (bO (abI .rem a0 (.lit (.int .u8 30))) λv11=>
bO (acI .i64 v11) λv12=>
bC (BCall Tryz.prog 30 [v12] H) λv13 H14=>
bC (BCall Tryz.prog 31 [v12] H14) λv15 H16=>
bO (abN .eql nilP v13 (.lit (.pointer none))) λv17=>
bB v17 λt18=>bI t18 (
K (B false) H16)
 (zkkZ a1 a2 a3 v12 v13 v15 (I 0) H16 K))
theorem zwvZ {a0 a1 a2 a3 : AV} {H : AH} {K : KT} (h : zpeZ a0 a1 a2 a3 H K) : OKP 4 [a0,a1,a2,a3] H K :=
 fok zlqZ pqg zlwZ Tryz.func4 (by kernel_rfl) (by kernel_rfl) h
end Go.Proofs.YtlhiaihmkjlaaaaGreat.Av
end
