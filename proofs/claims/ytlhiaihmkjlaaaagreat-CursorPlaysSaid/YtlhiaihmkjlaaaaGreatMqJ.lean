/- The law and its row. No condition. -/
import Derived.Test.YtlhiaihmkjlaaaaGreatMqI
set_option linter.unusedVariables false
set_option maxRecDepth 100000
section
namespace Go.Proofs.YtlhiaihmkjlaaaaGreat.Av
open Go
def pqg : FuncId→Bool:=inL [61,60,39,35,33,90,70,29,69,65,71,72,73,36,142,144,37,66,105,118,131,130,101,143,145,159,104,134,135,136,133,46,139,99,132,98,157,164,137,18,11,40,52,10]
def pqga : FuncId→Bool:=inL [53,47]
def zpnZ (a0 : AV) (H : AH) (K : KT) : Prop :=
bO (amm imx [a0,(I 0)]) λv0=>
bO (amm imn [v0,(I 4096)]) λv1=>
bO (abl [nilSl,nilSl,nilSl,nilSl,nilSl,(I 0),(I 0),(I 0),(B false)] [(5,1,v1),(7,1,(I (-1)))]) λv2=>
bH (anew H v2) λv3 H4=>
K v3 H4
theorem zveZ {a0 : AV} {H : AH} {K : KT} (h : zpnZ a0 H K) : OKP 31 [a0] H K :=
 fok nofl pqg nokp Tryz.func31 (by kernel_rfl) (by kernel_rfl) h
def znaZ (a0 : AV) (H : AH) (K : KT) : Prop :=
bO (zeZ a0) λv0=>
bO (zfZ 5 v0) λv1=>
bO (ald false 1 H v1) λv2=>
bO (zeZ a0) λv3=>
bO (zfZ 0 v3) λv4=>
bO (ald true 2 H v4) λv5=>
bP (BPure Tryz.prog 164 [v5]) λv6=>
bO (abI .sub v2 v6) λv7=>
bO (amm imx [v7,(I 0)]) λv8=>
K v8 H
theorem zsmZ {a0 : AV} {H : AH} {K : KT} (h : znaZ a0 H K) : OKP 110 [a0] H K :=
 fok nofl pqg nokp Tryz.func110 (by kernel_rfl) (by kernel_rfl) h
def zozZ (a0 a1 : AV) (H : AH) (K : KT) : Prop :=
bO (amm imx [a1,(I (-1))]) λv0=>
bO (zeZ a0) λv1=>
bO (zfZ 7 v1) λv2=>
bS (ast 1 H v2 v0) λH3=>
K (.tup []) H3
theorem ztvZ {a0 a1 : AV} {H : AH} {K : KT} (h : zozZ a0 a1 H K) : OKP 42 [a0,a1] H K :=
 fok nofl pqg nokp Tryz.func42 (by kernel_rfl) (by kernel_rfl) h
def zjsZ : Nat→Option (List Bool):=kpOf [(3,mk 35 0 [0]),(4,mk 35 0 [0,22]),(1,mk 35 0 [0])]
def zdnZ (p : List Bool) (n : Nat) : List AV→AH→Kf→Prop:=sCode Tryz.prog nofl pqg none0 none0 zjsZ (sub p (zinZ Tryz.f138)) n
def zdgZ (x0 : AV) (H : AH) (K : KT) : Prop:=jn (mk 35 0 [0]) (zdnZ [tT,tT,tT] 5) [x0] H (kRet Tryz.prog Tryz.f138.results.toList K)
def zjzZ (x0 x22 : AV) (H : AH) (K : KT) : Prop:=jn (mk 35 0 [0,22]) (zdnZ [tT,tT,fF,tT] 5) [x0,x22] H (kSeq (cutC (mk 35 0 [0]) (zdnZ [tT,tT,tT] 5)) (kRet Tryz.prog Tryz.f138.results.toList K))
def zdcZ (x0 : AV) (H : AH) (K : KT) : Prop:=jn (mk 35 0 [0]) (zdnZ [tT,tT] 3) [x0] H (kRet Tryz.prog Tryz.f138.results.toList K)
def zikZ (x0 : AV) (H : AH) (K : KT) : Prop :=
bO (zeZ x0) λv0=>
bO (zfZ 8 v0) λv1=>
bO (ald false 1 H v1) λv2=>
bO (aun .not v2) λv3=>
K v3 H
theorem zpgZ (x0 : AV) (H : AH) (K : KT) : zdgZ x0 H K=zikZ x0 H K:=(jn_eq _ _ _ _ _).trans (by kernel_rfl)
def zdzZ (x0 x22 : AV) (H : AH) (K : KT) : Prop :=
bB x22 λt0=>bI t0 (
bO (zeZ x0) λv1=>
bO (zfZ 7 v1) λv2=>
bO (ald false 1 H v2) λv3=>
bO (abI .sub v3 (I 1)) λv4=>
bO (zeZ x0) λv5=>
bO (zfZ 7 v5) λv6=>
bS (ast 1 H v6 v4) λH7=>
zdgZ x0 H7 K)
 (zdgZ x0 H K)
theorem zgyZ (x0 x22 : AV) (H : AH) (K : KT) : zjzZ x0 x22 H K=zdzZ x0 x22 H K:=(jn_eq _ _ _ _ _).trans (by kernel_rfl)
def zhsZ (x0 : AV) (H : AH) (K : KT) : Prop :=
bO (zeZ x0) λv0=>
bO (zfZ 8 v0) λv1=>
bO (ald false 1 H v1) λv2=>
bO (aun .not v2) λv3=>
bG v3 true λw4=>
gO w4 (some x0) λv5=>
bG v3 true λw6=>
gO w6 (zeZ v5) λv7=>
bG v3 true λw8=>
gO w8 (zfZ 7 v7) λv9=>
bG v3 true λw10=>
gO w10 (ald false 1 H v9) λv11=>
bG v3 true λw12=>
gO w12 (abI .gtr v11 (I 0)) λv13=>
bO (apick v3 v13 (B false)) λv14=>
zjzZ x0 v14 H K
theorem zpiZ (x0 : AV) (H : AH) (K : KT) : zdcZ x0 H K=zhsZ x0 H K:=(jn_eq _ _ _ _ _).trans (by kernel_rfl)
def znbZ (a0 : AV) (H : AH) (K : KT) : Prop :=
bO (zeZ a0) λv0=>
bO (zfZ 7 v0) λv1=>
bO (ald false 1 H v1) λv2=>
bO (abI .eql v2 (I 0)) λv3=>
bB v3 λt4=>bI t4 (
bO (zeZ a0) λv5=>
bO (zfZ 8 v5) λv6=>
bS (ast 1 H v6 (B true)) λH7=>
zdcZ a0 H7 K)
 (zdcZ a0 H K)
theorem zsgZ {a0 : AV} {H : AH} {K : KT} (h : znbZ a0 H K) : OKP 138 [a0] H K :=
 fok nofl pqg zjsZ Tryz.func138 (by kernel_rfl) (by kernel_rfl) h
def zjlZ (a0 a1 : AV) (H : AH) (K : KT) : Prop :=
bH (anew H a1) λv0 H1=>
bC (BCall Tryz.prog 138 [a0] H1) λv2 H3=>
bO (aun .not v2) λv4=>
bB v4 λt5=>bI t5 (
K (I 8) H3)
 (bO (zeZ a0) λv6=>
bO (zfZ 0 v6) λv7=>
bO (ald true 2 H3 v7) λv8=>
bO (ald true 8 H3 v0) λv9=>
bP (BPure Tryz.prog 139 [v8,v9]) λv10=>
bO (zeZ a0) λv11=>
bO (zfZ 0 v11) λv12=>
bS (ast 2 H3 v12 v10) λH13=>
bO (zfZ 7 v0) λv14=>
bO (ald false 1 H13 v14) λv15=>
bH (aap 1 1 H13 nilSl v15) λv16 H17=>
bO (zfZ 7 v0) λv18=>
bS (ast 1 H17 v18 v16) λH19=>
bO (zeZ a0) λv20=>
bO (zfZ 4 v20) λv21=>
bO (ald false 1 H19 v21) λv22=>
bO (ald true 8 H19 v0) λv23=>
bO (absf 8 1 (zrow [(I 0),(I 0),(I 0),(I 0),(B false),(.lit (.string ⟨#[]⟩)),(.lit (.string ⟨#[]⟩)),nilSl] 1) [(0,8,v23)]) λv24=>
bH (aap 8 96 H19 v22 v24) λv25 H26=>
bO (zeZ a0) λv27=>
bO (zfZ 4 v27) λv28=>
bS (ast 1 H26 v28 v25) λH29=>
K (I 0) H29)
theorem zlxZ {a0 a1 : AV} {H : AH} {K : KT} (h : zjlZ a0 a1 H K) : OKP 100 [a0,a1] H K :=
 fok nofl pqg nokp Tryz.func100 (by kernel_rfl) (by kernel_rfl) h
def zmvZ (a0 a1 a2 : AV) (H : AH) (K : KT) : Prop :=
bO (zeZ a0) λv0=>
bO (zfZ 8 v0) λv1=>
bO (ald false 1 H v1) λv2=>
bB v2 λt3=>bI t3 (
K (.tup [(I 0),(I 8)]) H)
 (bP (PCall Tryz.prog 98 [a1] H) λv4=>
bO (aun .not v4) λv5=>
bB v5 λt6=>bI t6 (
K (.tup [(I 0),(I 5)]) H)
 (bO (zeZ a0) λv7=>
bO (zfZ 0 v7) λv8=>
bO (ald true 2 H v8) λv9=>
bP (PCall Tryz.prog 99 [v9,a1] H) λv10=>
bO (zjZ v10 0) λv11=>
bO (zjZ v10 1) λv12=>
bB v12 λt13=>bI t13 (
K (.tup [v11,(I 0)]) H)
 (bO (aun .not a2) λv14=>
bB v14 λt15=>bI t15 (
K (.tup [(I 0),(I 3)]) H)
 (bO (zeZ a0) λv16=>
bO (zfZ 0 v16) λv17=>
bO (zfZ 0 v17) λv18=>
bO (ald false 1 H v18) λv19=>
bO (alnS v19) λv20=>
bO (abI .geq v20 (I 16)) λv21=>
bB v21 λt22=>bI t22 (
K (.tup [(I 0),(I 4)]) H)
 (bO (zeZ a0) λv23=>
bO (zfZ 6 v23) λv24=>
bO (ald false 1 H v24) λv25=>
bO (abI .add v25 (I 1)) λv26=>
bO (abl [(I 0),(I 0),(I 0),(I 0),(B false),(.lit (.string ⟨#[]⟩)),(.lit (.string ⟨#[]⟩)),nilSl] [(0,1,(I 1)),(5,1,a1),(1,1,v26)]) λv27=>
bC (BCall Tryz.prog 100 [a0,v27] H) λv28 H29=>
bO (abI .neq v28 (I 0)) λv30=>
bB v30 λt31=>bI t31 (
K (.tup [(I 0),v28]) H29)
 (bO (zeZ a0) λv32=>
bO (zfZ 6 v32) λv33=>
bO (ald false 1 H29 v33) λv34=>
bO (abI .add v34 (I 1)) λv35=>
bO (zeZ a0) λv36=>
bO (zfZ 6 v36) λv37=>
bS (ast 1 H29 v37 v35) λH38=>
bO (zeZ a0) λv39=>
bO (zfZ 6 v39) λv40=>
bO (ald false 1 H38 v40) λv41=>
K (.tup [v41,(I 0)]) H38))))))
theorem zskZ {a0 a1 a2 : AV} {H : AH} {K : KT} (h : zmvZ a0 a1 a2 H K) : OKP 41 [a0,a1,a2] H K :=
 fok nofl pqg nokp Tryz.func41 (by kernel_rfl) (by kernel_rfl) h
def zegZ (a0 a1 : AV) (H : AH) (K : KT) : Prop :=
bH (anew H (.agg [(I 0),nilSl])) λv0 H1=>
bO (zeZ a0) λv2=>
bO (zfZ 8 v2) λv3=>
bO (ald false 1 H1 v3) λv4=>
bB v4 λt5=>bI t5 (
bO (abl [(I 0),nilSl] []) λv6=>
bS (ast 2 H1 v0 v6) λH7=>
bO (ald true 2 H7 v0) λv8=>
K (.tup [v8,(I 8)]) H7)
 (bO (zeZ a0) λv9=>
bO (zfZ 0 v9) λv10=>
bO (ald true 2 H1 v10) λv11=>
bP (PCall Tryz.prog 132 [v11,a1] H1) λv12=>
bO (zjZ v12 0) λv13=>
bO (zjZ v12 1) λv14=>
bH (anew H1 (.agg [(I 0),nilSl])) λv15 H16=>
bS (ast 2 H16 v15 v13) λH17=>
bO (aun .not v14) λv18=>
bB v18 λt19=>bI t19 (
bO (abl [(I 0),nilSl] []) λv20=>
bS (ast 2 H17 v0 v20) λH21=>
bO (ald true 2 H21 v0) λv22=>
K (.tup [v22,(I 3)]) H21)
 (bO (ald true 2 H17 v15) λv23=>
bS (ast 2 H17 v0 v23) λH24=>
bO (ald true 2 H24 v0) λv25=>
K (.tup [v25,(I 0)]) H24))
theorem zfaZ {a0 a1 : AV} {H : AH} {K : KT} (h : zegZ a0 a1 H K) : OKP 103 [a0,a1] H K :=
 fok nofl pqg nokp Tryz.func103 (by kernel_rfl) (by kernel_rfl) h
def zefZ (a0 a1 a2 a3 : AV) (H : AH) (K : KT) : Prop :=
bC (BCall Tryz.prog 103 [a0,a1] H) λv0 H1=>
bO (zjZ v0 0) λv2=>
bO (zjZ v0 1) λv3=>
bH (anew H1 (.agg [(I 0),nilSl])) λv4 H5=>
bS (ast 2 H5 v4 v2) λH6=>
bO (abI .neq v3 (I 0)) λv7=>
bB v7 λt8=>bI t8 (
K (.tup [nilSl,v3]) H6)
 (bO (abI .lss a2 (I 0)) λv9=>
bG v9 false λw10=>
gO w10 (some a3) λv11=>
bG v9 false λw12=>
gO w12 (abI .lss v11 (I 0)) λv13=>
bO (apick v9 (B true) v13) λv14=>
bG v14 false λw15=>
gO w15 (some a3) λv16=>
bG v14 false λw17=>
gO w17 (abI .gtr v16 (I 4096)) λv18=>
bO (apick v14 (B true) v18) λv19=>
bB v19 λt20=>bI t20 (
K (.tup [nilSl,(I 5)]) H6)
 (bO (ald true 2 H6 v4) λv21=>
bP (PCall Tryz.prog 104 [v21,a2,a3] H6) λv22=>
K (.tup [v22,(I 0)]) H6))
theorem zezZ {a0 a1 a2 a3 : AV} {H : AH} {K : KT} (h : zefZ a0 a1 a2 a3 H K) : OKP 50 [a0,a1,a2,a3] H K :=
 fok nofl pqg nokp Tryz.func50 (by kernel_rfl) (by kernel_rfl) h
def zizZ : Nat→Option (List Bool):=kpOf [(13,mk 104 0 [0,1,3,14,15,16])]
def zjwZ (p : List Bool) (n : Nat) : List AV→AH→Kf→Prop:=sCode Tryz.prog nofl pqg none0 none0 zizZ (sub p (zinZ Tryz.f77)) n
def zhyZ (x0 x1 x3 x14 x15 x16 : AV) (H : AH) (K : KT) : Prop:=lp (mk 104 0 [0,1,3,14,15,16]) (zjwZ [tT,tT,tT,tT,tT,tT,fF,tT,fF,fF] 14) [x0,x1,x3,x14,x15,x16] H (kBlk 0 (kSeq (zjwZ [tT,tT,tT,tT,tT,tT,tT] 25) (kRet Tryz.prog Tryz.f77.results.toList K)))
def zfzZ (R13 : RT) (x0 x1 x3 x14 x15 x16 : AV) (H : AH) (K : KT) : Prop :=
bO (alnS x14) λv0=>
bO (abI .lss x16 v0) λv1=>
bB v1 λt2=>bI t2 (
bO (zeZ x0) λv3=>
bO (zfZ 0 v3) λv4=>
bO (ald true 2 H v4) λv5=>
bP (PCall Tryz.prog 132 [v5,x1] H) λv6=>
bO (zjZ v6 0) λv7=>
bO (zjZ v6 1) λv8=>
bH (anew H (.agg [(I 0),nilSl])) λv9 H10=>
bS (ast 2 H10 v9 v7) λH11=>
bO (ald true 2 H11 v9) λv12=>
bO (aixS 2 x14 x16) λv13=>
bO (zfZ 0 v13) λv14=>
bO (ald false 1 H11 v14) λv15=>
bO (abI .quo v15 (I 8)) λv16=>
bP (BPure Tryz.prog 133 [v12,v16]) λv17=>
bO (abI .lss v17 (I 0)) λv18=>
bG v18 true λw19=>
gO w19 (some x0) λv20=>
bG v18 true λw21=>
gC w21 (BCall Tryz.prog 110 [v20] H11) H11 λv22 H23=>
bG v18 true λw24=>
gO w24 (abI .eql v22 (I 0)) λv25=>
bO (apick v18 v25 (B false)) λv26=>
bB v26 λt27=>bI t27 (
K (.tup [x15,(I 4)]) H23)
 (bO (aixS 2 x14 x16) λv28=>
bO (zfZ 0 v28) λv29=>
bO (ald false 1 H23 v29) λv30=>
bO (aixS 2 x14 x16) λv31=>
bO (zfZ 1 v31) λv32=>
bO (ald false 1 H23 v32) λv33=>
bO (abI .add x15 v33) λv34=>
bO (aslS 1 x3 (some x15) (some v34) none) λv35=>
bO (abl [(I 0),(I 0),(I 0),(I 0),(B false),(.lit (.string ⟨#[]⟩)),(.lit (.string ⟨#[]⟩)),nilSl] [(0,1,(I 2)),(1,1,x1),(2,1,v30),(7,1,v35)]) λv36=>
bC (BCall Tryz.prog 100 [x0,v36] H23) λv37 H38=>
bO (abI .neq v37 (I 0)) λv39=>
bB v39 λt40=>bI t40 (
K (.tup [x15,v37]) H38)
 (bO (aixS 2 x14 x16) λv41=>
bO (zfZ 1 v41) λv42=>
bO (ald false 1 H38 v42) λv43=>
bO (abI .add x15 v43) λv44=>
bO (abI .add x16 (I 1)) λv45=>
R13 [x0,x1,x3,x14,v44,v45] H38)))
 (K (.tup [x15,(I 0)]) H)
theorem zlpZ {K : KT} : RL6 (λR x0 x1 x3 x14 x15 x16 H=>zfzZ R x0 x1 x3 x14 x15 x16 H K) (λx0 x1 x3 x14 x15 x16 H=>zhyZ x0 x1 x3 x14 x15 x16 H K):=lpr6 (zvZ _ _) (λ_ _ _ _ _ _ _ _=>by kernel_rfl)
def zmeZ (a0 a1 a2 a3 : AV) (H : AH) (K : KT) : Prop :=
bC (BCall Tryz.prog 103 [a0,a1] H) λv0 H1=>
bO (zjZ v0 0) λv2=>
bO (zjZ v0 1) λv3=>
bH (anew H1 (.agg [(I 0),nilSl])) λv4 H5=>
bS (ast 2 H5 v4 v2) λH6=>
bO (abI .neq v3 (I 0)) λv7=>
bB v7 λt8=>bI t8 (
K (.tup [(I 0),v3]) H6)
 (bO (ald true 2 H6 v4) λv9=>
bP (PCall Tryz.prog 130 [v9,a2,a3] H6) λv10=>
bO (zjZ v10 0) λv11=>
bO (zjZ v10 1) λv12=>
bH (anew H6 (.agg [(I 0),nilSl])) λv13 H14=>
bS (ast 2 H14 v13 v11) λH15=>
bO (aun .not v12) λv16=>
bB v16 λt17=>bI t17 (
K (.tup [(I 0),(I 5)]) H15)
 (bO (alnS a3) λv18=>
bO (abl [(I 0),(I 0)] [(0,1,a2),(1,1,v18)]) λv19=>
bP (PCall Tryz.prog 131 [v19,(I 8)] H15) λv20=>
zhyZ a0 a1 a3 v20 (I 0) (I 0) H15 K))
theorem zrkZ {a0 a1 a2 a3 : AV} {H : AH} {K : KT} (h : zmeZ a0 a1 a2 a3 H K) : OKP 77 [a0,a1,a2,a3] H K :=
 fok nofl pqg zizZ Tryz.func77 (by kernel_rfl) (by kernel_rfl) h
def zixZ (a0 a1 a2 : AV) (H : AH) (K : KT) : Prop :=
bC (BCall Tryz.prog 103 [a0,a1] H) λv0 H1=>
bO (zjZ v0 0) λv2=>
bO (zjZ v0 1) λv3=>
bH (anew H1 (.agg [(I 0),nilSl])) λv4 H5=>
bS (ast 2 H5 v4 v2) λH6=>
bO (abI .neq v3 (I 0)) λv7=>
bB v7 λt8=>bI t8 (
K v3 H6)
 (bO (ald true 2 H6 v4) λv9=>
bP (PCall Tryz.prog 134 [v9,a2] H6) λv10=>
bO (zjZ v10 0) λv11=>
bO (zjZ v10 1) λv12=>
bH (anew H6 (.agg [(I 0),nilSl])) λv13 H14=>
bS (ast 2 H14 v13 v11) λH15=>
bO (aun .not v12) λv16=>
bB v16 λt17=>bI t17 (
K (I 5) H15)
 (bO (abl [(I 0),(I 0),(I 0),(I 0),(B false),(.lit (.string ⟨#[]⟩)),(.lit (.string ⟨#[]⟩)),nilSl] [(0,1,(I 3)),(1,1,a1),(3,1,a2)]) λv18=>
bC (BCall Tryz.prog 100 [a0,v18] H15) λv19 H20=>
K v19 H20))
theorem zoiZ {a0 a1 a2 : AV} {H : AH} {K : KT} (h : zixZ a0 a1 a2 H K) : OKP 78 [a0,a1,a2] H K :=
 fok nofl pqg nokp Tryz.func78 (by kernel_rfl) (by kernel_rfl) h
def zhnZ : Nat→Option (List Bool):=kpOf [(3,mk 42 0 [0,1,2,3,10])]
def zjaZ (p : List Bool) (n : Nat) : List AV→AH→Kf→Prop:=sCode Tryz.prog nofl pqg none0 none0 zhnZ (sub p (zinZ Tryz.f48)) n
def zhkZ (x0 x1 x2 x3 x10 : AV) (H : AH) (K : KT) : Prop:=lp (mk 42 0 [0,1,2,3,10]) (zjaZ [tT,tT,fF,fF,fF] 4) [x0,x1,x2,x3,x10] H (kBlk 0 (kSeq (zjaZ [tT,tT,tT] 10) (kRet Tryz.prog Tryz.f48.results.toList K)))
def zdiZ (R3 : RT) (x0 x1 x2 x3 x10 : AV) (H : AH) (K : KT) : Prop :=
bO (alnS x3) λv0=>
bO (abI .lss x10 v0) λv1=>
bB v1 λt2=>bI t2 (
bO (abI .add x2 x10) λv3=>
bO (abI .add x10 (I 4096)) λv4=>
bO (alnS x3) λv5=>
bO (amm imn [v4,v5]) λv6=>
bO (aslS 1 x3 (some x10) (some v6) none) λv7=>
bC (BCall Tryz.prog 77 [x0,x1,v3,v7] H) λv8 H9=>
bO (zjZ v8 0) λv10=>
bO (zjZ v8 1) λv11=>
bO (abI .add x10 v10) λv12=>
bO (abI .neq v11 (I 0)) λv13=>
bB v13 λt14=>bI t14 (
K (.tup [v12,v11]) H9)
 (R3 [x0,x1,x2,x3,v12] H9))
 (K (.tup [x10,(I 0)]) H)
theorem zlzZ {K : KT} : RL5 (λR x0 x1 x2 x3 x10 H=>zdiZ R x0 x1 x2 x3 x10 H K) (λx0 x1 x2 x3 x10 H=>zhkZ x0 x1 x2 x3 x10 H K):=lpr5 (zvZ _ _) (λ_ _ _ _ _ _ _=>by kernel_rfl)
def zkoZ (a0 a1 a2 a3 : AV) (H : AH) (K : KT) : Prop :=
zhkZ a0 a1 a2 a3 (I 0) H K
theorem zqiZ {a0 a1 a2 a3 : AV} {H : AH} {K : KT} (h : zkoZ a0 a1 a2 a3 H K) : OKP 48 [a0,a1,a2,a3] H K :=
 fok nofl pqg zhnZ Tryz.func48 (by kernel_rfl) (by kernel_rfl) h
def ziwZ : zyxZ:=flOf [(44,[(5,none),(13,some 1)])]
def ziuZ : Nat→Option (List Bool):=kpOf [(49,mk 224 0 [2,7,8,9,11,13,14,15,115]),(46,mk 224 0 [2,7,8,9,11,13,14,15,25]),(47,mk 224 0 [2,7,8,9,11,13,14,15,25,114]),(45,mk 224 0 [2,7,8,9,11,13,14,15,25]),(43,mk 224 0 [2,7,8,9,11,13,14,198]),(42,mk 224 0 [2,7,8,9,11,13,14,21,22,23,24]),(41,mk 224 0 [2,7,8,9,11,13,14,21,22,23,24]),(40,mk 224 0 [2,7,8,9,11,13,14,15,21,22]),(39,mk 224 0 [2,7,8,9,11,13,14,15,167]),(21,mk 224 0 [2,7,8,9,11,13,14]),(50,mk 224 0 [2,7,8,9,11,13,14,204]),(26,mk 224 0 [2,7,8,9,11,13,14]),(37,mk 224 0 [2,7,8,9,11,13,14,166]),(36,mk 224 0 [2,7,8,9,11,13,14,16,17,18,19]),(32,mk 224 0 [2,7,8,9,11,13,14,16,17,18,19]),(35,mk 224 0 [2,7,8,9,11,13,14,16,17,18,19,20]),(34,mk 224 0 [2,7,8,9,11,13,14,15,16,17,18]),(33,mk 224 0 [2,7,8,9,11,13,14,15,16,17,18,19,141]),(31,mk 224 0 [2,7,8,9,11,13,14,15,16,17,18,19]),(30,mk 224 0 [2,7,8,9,11,13,14,15,16,17]),(28,mk 224 0 [2,7,8,9,11,13,14,15,98,118]),(18,mk 224 0 [2,7,8,9,11,13,14])]
def ziqZ : Nat→Bool:=inL []
def zaZ (p : List Bool) (n : Nat) : List AV→AH→Kf→Prop:=sCode Tryz.prog ziwZ pqg pqga ziqZ ziuZ (sub p (zinZ Tryz.f8)) n
def zhmZ (R18 : RT) (x2 x7 x8 x9 x11 x13 x14 : AV) (H : AH) (K : KT) : Prop:=jn (mk 224 0 [2,7,8,9,11,13,14]) (zaZ [tT,tT,tT,tT,tT,tT,tT,tT,tT,tT,fF,tT,fF,fF,tT,tT] 52) [x2,x7,x8,x9,x11,x13,x14] H (kLp (mk 224 0 [2,7,8,9,11,13,14]) R18 (kBlk 0 (kSeq (zaZ [tT,tT,tT,tT,tT,tT,tT,tT,tT,tT,tT] 52) (kRet Tryz.prog Tryz.f8.results.toList K))))
def zhoZ (R18 : RT) (x2 x7 x8 x9 x11 x13 x14 x204 : AV) (H : AH) (K : KT) : Prop:=jn (mk 224 0 [2,7,8,9,11,13,14,204]) (zaZ [tT,tT,tT,tT,tT,tT,tT,tT,tT,tT,fF,tT,fF,fF,tT,fF,fF,tT,tT,tT,tT] 51) [x2,x7,x8,x9,x11,x13,x14,x204] H (kBlk 1 (kSeq (cutC (mk 224 0 [2,7,8,9,11,13,14]) (zaZ [tT,tT,tT,tT,tT,tT,tT,tT,tT,tT,fF,tT,fF,fF,tT,tT] 52)) (kLp (mk 224 0 [2,7,8,9,11,13,14]) R18 (kBlk 0 (kSeq (zaZ [tT,tT,tT,tT,tT,tT,tT,tT,tT,tT,tT] 52) (kRet Tryz.prog Tryz.f8.results.toList K))))))
def zbfZ (R18 : RT) (x2 x7 x8 x9 x11 x13 x14 : AV) (H : AH) (K : KT) : Prop:=jn (mk 224 0 [2,7,8,9,11,13,14]) (zaZ [tT,tT,tT,tT,tT,tT,tT,tT,tT,tT,fF,tT,fF,fF,tT,fF,fF,tT,tT,tT] 50) [x2,x7,x8,x9,x11,x13,x14] H (kBlk 1 (kSeq (cutC (mk 224 0 [2,7,8,9,11,13,14]) (zaZ [tT,tT,tT,tT,tT,tT,tT,tT,tT,tT,fF,tT,fF,fF,tT,tT] 52)) (kLp (mk 224 0 [2,7,8,9,11,13,14]) R18 (kBlk 0 (kSeq (zaZ [tT,tT,tT,tT,tT,tT,tT,tT,tT,tT,tT] 52) (kRet Tryz.prog Tryz.f8.results.toList K))))))
def zhtZ (R18 : RT) (x2 x7 x8 x9 x11 x13 x14 x166 : AV) (H : AH) (K : KT) : Prop:=jn (mk 224 0 [2,7,8,9,11,13,14,166]) (zaZ [tT,tT,tT,tT,tT,tT,tT,tT,tT,tT,fF,tT,fF,fF,tT,fF,fF,tT,tT,fF,tT,fF,tT,fF,tT,tT,tT,tT,tT] 38) [x2,x7,x8,x9,x11,x13,x14,x166] H (kBlk 2 (kSeq (cutC (mk 224 0 [2,7,8,9,11,13,14]) (zaZ [tT,tT,tT,tT,tT,tT,tT,tT,tT,tT,fF,tT,fF,fF,tT,fF,fF,tT,tT,tT] 50)) (kBlk 1 (kSeq (cutC (mk 224 0 [2,7,8,9,11,13,14]) (zaZ [tT,tT,tT,tT,tT,tT,tT,tT,tT,tT,fF,tT,fF,fF,tT,tT] 52)) (kLp (mk 224 0 [2,7,8,9,11,13,14]) R18 (kBlk 0 (kSeq (zaZ [tT,tT,tT,tT,tT,tT,tT,tT,tT,tT,tT] 52) (kRet Tryz.prog Tryz.f8.results.toList K))))))))
def ziiZ (R18 : RT) (x2 x7 x8 x9 x11 x13 x14 x16 x17 x18 x19 : AV) (H : AH) (K : KT) : Prop:=jn (mk 224 0 [2,7,8,9,11,13,14,16,17,18,19]) (zaZ [tT,tT,tT,tT,tT,tT,tT,tT,tT,tT,fF,tT,fF,fF,tT,fF,fF,tT,tT,fF,tT,fF,tT,fF,tT,tT,tT,tT] 37) [x2,x7,x8,x9,x11,x13,x14,x16,x17,x18,x19] H (kBlk 2 (kSeq (cutC (mk 224 0 [2,7,8,9,11,13,14]) (zaZ [tT,tT,tT,tT,tT,tT,tT,tT,tT,tT,fF,tT,fF,fF,tT,fF,fF,tT,tT,tT] 50)) (kBlk 1 (kSeq (cutC (mk 224 0 [2,7,8,9,11,13,14]) (zaZ [tT,tT,tT,tT,tT,tT,tT,tT,tT,tT,fF,tT,fF,fF,tT,tT] 52)) (kLp (mk 224 0 [2,7,8,9,11,13,14]) R18 (kBlk 0 (kSeq (zaZ [tT,tT,tT,tT,tT,tT,tT,tT,tT,tT,tT] 52) (kRet Tryz.prog Tryz.f8.results.toList K))))))))
def zctZ (R18 : RT) (x2 x7 x8 x9 x11 x13 x14 x16 x17 x18 x19 : AV) (H : AH) (K : KT) : Prop:=jn (mk 224 0 [2,7,8,9,11,13,14,16,17,18,19]) (zaZ [tT,tT,tT,tT,tT,tT,tT,tT,tT,tT,fF,tT,fF,fF,tT,fF,fF,tT,tT,fF,tT,fF,tT,fF,tT,tT,tT] 36) [x2,x7,x8,x9,x11,x13,x14,x16,x17,x18,x19] H (kBlk 2 (kSeq (cutC (mk 224 0 [2,7,8,9,11,13,14]) (zaZ [tT,tT,tT,tT,tT,tT,tT,tT,tT,tT,fF,tT,fF,fF,tT,fF,fF,tT,tT,tT] 50)) (kBlk 1 (kSeq (cutC (mk 224 0 [2,7,8,9,11,13,14]) (zaZ [tT,tT,tT,tT,tT,tT,tT,tT,tT,tT,fF,tT,fF,fF,tT,tT] 52)) (kLp (mk 224 0 [2,7,8,9,11,13,14]) R18 (kBlk 0 (kSeq (zaZ [tT,tT,tT,tT,tT,tT,tT,tT,tT,tT,tT] 52) (kRet Tryz.prog Tryz.f8.results.toList K))))))))
def zhzZ (R18 : RT) (x2 x7 x8 x9 x11 x13 x14 x16 x17 x18 x19 x20 : AV) (H : AH) (K : KT) : Prop:=jn (mk 224 0 [2,7,8,9,11,13,14,16,17,18,19,20]) (zaZ [tT,tT,tT,tT,tT,tT,tT,tT,tT,tT,fF,tT,fF,fF,tT,fF,fF,tT,tT,fF,tT,fF,tT,fF,tT,tT,fF,tT,fF,tT,tT] 36) [x2,x7,x8,x9,x11,x13,x14,x16,x17,x18,x19,x20] H (kSeq (cutC (mk 224 0 [2,7,8,9,11,13,14,16,17,18,19]) (zaZ [tT,tT,tT,tT,tT,tT,tT,tT,tT,tT,fF,tT,fF,fF,tT,fF,fF,tT,tT,fF,tT,fF,tT,fF,tT,tT,tT] 36)) (kBlk 2 (kSeq (cutC (mk 224 0 [2,7,8,9,11,13,14]) (zaZ [tT,tT,tT,tT,tT,tT,tT,tT,tT,tT,fF,tT,fF,fF,tT,fF,fF,tT,tT,tT] 50)) (kBlk 1 (kSeq (cutC (mk 224 0 [2,7,8,9,11,13,14]) (zaZ [tT,tT,tT,tT,tT,tT,tT,tT,tT,tT,fF,tT,fF,fF,tT,tT] 52)) (kLp (mk 224 0 [2,7,8,9,11,13,14]) R18 (kBlk 0 (kSeq (zaZ [tT,tT,tT,tT,tT,tT,tT,tT,tT,tT,tT] 52) (kRet Tryz.prog Tryz.f8.results.toList K)))))))))
def zhlZ (R18 : RT) (x2 x7 x8 x9 x11 x13 x14 x15 x16 x17 x18 : AV) (H : AH) (K : KT) : Prop:=jn (mk 224 0 [2,7,8,9,11,13,14,15,16,17,18]) (zaZ [tT,tT,tT,tT,tT,tT,tT,tT,tT,tT,fF,tT,fF,fF,tT,fF,fF,tT,tT,fF,tT,fF,tT,fF,tT,tT,fF,tT,fF,tT] 35) [x2,x7,x8,x9,x11,x13,x14,x15,x16,x17,x18] H (kSeq (cutC (mk 224 0 [2,7,8,9,11,13,14,16,17,18,19]) (zaZ [tT,tT,tT,tT,tT,tT,tT,tT,tT,tT,fF,tT,fF,fF,tT,fF,fF,tT,tT,fF,tT,fF,tT,fF,tT,tT,tT] 36)) (kBlk 2 (kSeq (cutC (mk 224 0 [2,7,8,9,11,13,14]) (zaZ [tT,tT,tT,tT,tT,tT,tT,tT,tT,tT,fF,tT,fF,fF,tT,fF,fF,tT,tT,tT] 50)) (kBlk 1 (kSeq (cutC (mk 224 0 [2,7,8,9,11,13,14]) (zaZ [tT,tT,tT,tT,tT,tT,tT,tT,tT,tT,fF,tT,fF,fF,tT,tT] 52)) (kLp (mk 224 0 [2,7,8,9,11,13,14]) R18 (kBlk 0 (kSeq (zaZ [tT,tT,tT,tT,tT,tT,tT,tT,tT,tT,tT] 52) (kRet Tryz.prog Tryz.f8.results.toList K)))))))))
def zheZ (R18 : RT) (x2 x7 x8 x9 x11 x13 x14 x15 x16 x17 x18 x19 x141 : AV) (H : AH) (K : KT) : Prop:=jn (mk 224 0 [2,7,8,9,11,13,14,15,16,17,18,19,141]) (zaZ [tT,tT,tT,tT,tT,tT,tT,tT,tT,tT,fF,tT,fF,fF,tT,fF,fF,tT,tT,fF,tT,fF,tT,fF,tT,tT,fF,tT] 34) [x2,x7,x8,x9,x11,x13,x14,x15,x16,x17,x18,x19,x141] H (kSeq (cutC (mk 224 0 [2,7,8,9,11,13,14,16,17,18,19]) (zaZ [tT,tT,tT,tT,tT,tT,tT,tT,tT,tT,fF,tT,fF,fF,tT,fF,fF,tT,tT,fF,tT,fF,tT,fF,tT,tT,tT] 36)) (kBlk 2 (kSeq (cutC (mk 224 0 [2,7,8,9,11,13,14]) (zaZ [tT,tT,tT,tT,tT,tT,tT,tT,tT,tT,fF,tT,fF,fF,tT,fF,fF,tT,tT,tT] 50)) (kBlk 1 (kSeq (cutC (mk 224 0 [2,7,8,9,11,13,14]) (zaZ [tT,tT,tT,tT,tT,tT,tT,tT,tT,tT,fF,tT,fF,fF,tT,tT] 52)) (kLp (mk 224 0 [2,7,8,9,11,13,14]) R18 (kBlk 0 (kSeq (zaZ [tT,tT,tT,tT,tT,tT,tT,tT,tT,tT,tT] 52) (kRet Tryz.prog Tryz.f8.results.toList K)))))))))
def zieZ (R18 : RT) (x2 x7 x8 x9 x11 x13 x14 x15 x16 x17 x18 x19 : AV) (H : AH) (K : KT) : Prop:=jn (mk 224 0 [2,7,8,9,11,13,14,15,16,17,18,19]) (zaZ [tT,tT,tT,tT,tT,tT,tT,tT,tT,tT,fF,tT,fF,fF,tT,fF,fF,tT,tT,fF,tT,fF,tT,fF,tT,tT] 32) [x2,x7,x8,x9,x11,x13,x14,x15,x16,x17,x18,x19] H (kBlk 2 (kSeq (cutC (mk 224 0 [2,7,8,9,11,13,14]) (zaZ [tT,tT,tT,tT,tT,tT,tT,tT,tT,tT,fF,tT,fF,fF,tT,fF,fF,tT,tT,tT] 50)) (kBlk 1 (kSeq (cutC (mk 224 0 [2,7,8,9,11,13,14]) (zaZ [tT,tT,tT,tT,tT,tT,tT,tT,tT,tT,fF,tT,fF,fF,tT,tT] 52)) (kLp (mk 224 0 [2,7,8,9,11,13,14]) R18 (kBlk 0 (kSeq (zaZ [tT,tT,tT,tT,tT,tT,tT,tT,tT,tT,tT] 52) (kRet Tryz.prog Tryz.f8.results.toList K))))))))
def zhiZ (R18 : RT) (x2 x7 x8 x9 x11 x13 x14 x15 x16 x17 : AV) (H : AH) (K : KT) : Prop:=jn (mk 224 0 [2,7,8,9,11,13,14,15,16,17]) (zaZ [tT,tT,tT,tT,tT,tT,tT,tT,tT,tT,fF,tT,fF,fF,tT,fF,fF,tT,tT,fF,tT,fF,tT,fF,tT] 31) [x2,x7,x8,x9,x11,x13,x14,x15,x16,x17] H (kBlk 2 (kSeq (cutC (mk 224 0 [2,7,8,9,11,13,14]) (zaZ [tT,tT,tT,tT,tT,tT,tT,tT,tT,tT,fF,tT,fF,fF,tT,fF,fF,tT,tT,tT] 50)) (kBlk 1 (kSeq (cutC (mk 224 0 [2,7,8,9,11,13,14]) (zaZ [tT,tT,tT,tT,tT,tT,tT,tT,tT,tT,fF,tT,fF,fF,tT,tT] 52)) (kLp (mk 224 0 [2,7,8,9,11,13,14]) R18 (kBlk 0 (kSeq (zaZ [tT,tT,tT,tT,tT,tT,tT,tT,tT,tT,tT] 52) (kRet Tryz.prog Tryz.f8.results.toList K))))))))
def zijZ (R18 : RT) (x2 x7 x8 x9 x11 x13 x14 x198 : AV) (H : AH) (K : KT) : Prop:=jn (mk 224 0 [2,7,8,9,11,13,14,198]) (zaZ [tT,tT,tT,tT,tT,tT,tT,tT,tT,tT,fF,tT,fF,fF,tT,fF,fF,tT,tT,fF,tT,fF,tT,tT,tT,fF,tT,tT,tT,tT] 44) [x2,x7,x8,x9,x11,x13,x14,x198] H (kBlk 2 (kSeq (cutC (mk 224 0 [2,7,8,9,11,13,14]) (zaZ [tT,tT,tT,tT,tT,tT,tT,tT,tT,tT,fF,tT,fF,fF,tT,fF,fF,tT,tT,tT] 50)) (kBlk 1 (kSeq (cutC (mk 224 0 [2,7,8,9,11,13,14]) (zaZ [tT,tT,tT,tT,tT,tT,tT,tT,tT,tT,fF,tT,fF,fF,tT,tT] 52)) (kLp (mk 224 0 [2,7,8,9,11,13,14]) R18 (kBlk 0 (kSeq (zaZ [tT,tT,tT,tT,tT,tT,tT,tT,tT,tT,tT] 52) (kRet Tryz.prog Tryz.f8.results.toList K))))))))
def zicZ (R18 : RT) (x2 x7 x8 x9 x11 x13 x14 x21 x22 x23 x24 : AV) (H : AH) (K : KT) : Prop:=jn (mk 224 0 [2,7,8,9,11,13,14,21,22,23,24]) (zaZ [tT,tT,tT,tT,tT,tT,tT,tT,tT,tT,fF,tT,fF,fF,tT,fF,fF,tT,tT,fF,tT,fF,tT,tT,tT,fF,tT,tT,tT] 43) [x2,x7,x8,x9,x11,x13,x14,x21,x22,x23,x24] H (kBlk 2 (kSeq (cutC (mk 224 0 [2,7,8,9,11,13,14]) (zaZ [tT,tT,tT,tT,tT,tT,tT,tT,tT,tT,fF,tT,fF,fF,tT,fF,fF,tT,tT,tT] 50)) (kBlk 1 (kSeq (cutC (mk 224 0 [2,7,8,9,11,13,14]) (zaZ [tT,tT,tT,tT,tT,tT,tT,tT,tT,tT,fF,tT,fF,fF,tT,tT] 52)) (kLp (mk 224 0 [2,7,8,9,11,13,14]) R18 (kBlk 0 (kSeq (zaZ [tT,tT,tT,tT,tT,tT,tT,tT,tT,tT,tT] 52) (kRet Tryz.prog Tryz.f8.results.toList K))))))))
def zhgZ (R18 : RT) (x2 x7 x8 x9 x11 x13 x14 x21 x22 x23 x24 : AV) (H : AH) (K : KT) : Prop:=jn (mk 224 0 [2,7,8,9,11,13,14,21,22,23,24]) (zaZ [tT,tT,tT,tT,tT,tT,tT,tT,tT,tT,fF,tT,fF,fF,tT,fF,fF,tT,tT,fF,tT,fF,tT,tT,tT,fF,tT,tT] 42) [x2,x7,x8,x9,x11,x13,x14,x21,x22,x23,x24] H (kBlk 2 (kSeq (cutC (mk 224 0 [2,7,8,9,11,13,14]) (zaZ [tT,tT,tT,tT,tT,tT,tT,tT,tT,tT,fF,tT,fF,fF,tT,fF,fF,tT,tT,tT] 50)) (kBlk 1 (kSeq (cutC (mk 224 0 [2,7,8,9,11,13,14]) (zaZ [tT,tT,tT,tT,tT,tT,tT,tT,tT,tT,fF,tT,fF,fF,tT,tT] 52)) (kLp (mk 224 0 [2,7,8,9,11,13,14]) R18 (kBlk 0 (kSeq (zaZ [tT,tT,tT,tT,tT,tT,tT,tT,tT,tT,tT] 52) (kRet Tryz.prog Tryz.f8.results.toList K))))))))
def zhvZ (R18 : RT) (x2 x7 x8 x9 x11 x13 x14 x15 x21 x22 : AV) (H : AH) (K : KT) : Prop:=jn (mk 224 0 [2,7,8,9,11,13,14,15,21,22]) (zaZ [tT,tT,tT,tT,tT,tT,tT,tT,tT,tT,fF,tT,fF,fF,tT,fF,fF,tT,tT,fF,tT,fF,tT,tT,tT,fF,tT] 41) [x2,x7,x8,x9,x11,x13,x14,x15,x21,x22] H (kBlk 2 (kSeq (cutC (mk 224 0 [2,7,8,9,11,13,14]) (zaZ [tT,tT,tT,tT,tT,tT,tT,tT,tT,tT,fF,tT,fF,fF,tT,fF,fF,tT,tT,tT] 50)) (kBlk 1 (kSeq (cutC (mk 224 0 [2,7,8,9,11,13,14]) (zaZ [tT,tT,tT,tT,tT,tT,tT,tT,tT,tT,fF,tT,fF,fF,tT,tT] 52)) (kLp (mk 224 0 [2,7,8,9,11,13,14]) R18 (kBlk 0 (kSeq (zaZ [tT,tT,tT,tT,tT,tT,tT,tT,tT,tT,tT] 52) (kRet Tryz.prog Tryz.f8.results.toList K))))))))
def zidZ (R18 : RT) (x2 x7 x8 x9 x11 x13 x14 x15 x115 : AV) (H : AH) (K : KT) : Prop:=jn (mk 224 0 [2,7,8,9,11,13,14,15,115]) (zaZ [tT,tT,tT,tT,tT,tT,tT,tT,tT,tT,fF,tT,fF,fF,tT,fF,fF,tT,tT,fF,tT,fF,tT,tT,tT,tT,tT,tT,tT] 50) [x2,x7,x8,x9,x11,x13,x14,x15,x115] H (kBlk 2 (kSeq (cutC (mk 224 0 [2,7,8,9,11,13,14]) (zaZ [tT,tT,tT,tT,tT,tT,tT,tT,tT,tT,fF,tT,fF,fF,tT,fF,fF,tT,tT,tT] 50)) (kBlk 1 (kSeq (cutC (mk 224 0 [2,7,8,9,11,13,14]) (zaZ [tT,tT,tT,tT,tT,tT,tT,tT,tT,tT,fF,tT,fF,fF,tT,tT] 52)) (kLp (mk 224 0 [2,7,8,9,11,13,14]) R18 (kBlk 0 (kSeq (zaZ [tT,tT,tT,tT,tT,tT,tT,tT,tT,tT,tT] 52) (kRet Tryz.prog Tryz.f8.results.toList K))))))))
def zigZ (R18 : RT) (x2 x7 x8 x9 x11 x13 x14 x15 x25 : AV) (H : AH) (K : KT) : Prop:=jn (mk 224 0 [2,7,8,9,11,13,14,15,25]) (zaZ [tT,tT,tT,tT,tT,tT,tT,tT,tT,tT,fF,tT,fF,fF,tT,fF,fF,tT,tT,fF,tT,fF,tT,tT,tT,tT,tT,tT] 49) [x2,x7,x8,x9,x11,x13,x14,x15,x25] H (kBlk 2 (kSeq (cutC (mk 224 0 [2,7,8,9,11,13,14]) (zaZ [tT,tT,tT,tT,tT,tT,tT,tT,tT,tT,fF,tT,fF,fF,tT,fF,fF,tT,tT,tT] 50)) (kBlk 1 (kSeq (cutC (mk 224 0 [2,7,8,9,11,13,14]) (zaZ [tT,tT,tT,tT,tT,tT,tT,tT,tT,tT,fF,tT,fF,fF,tT,tT] 52)) (kLp (mk 224 0 [2,7,8,9,11,13,14]) R18 (kBlk 0 (kSeq (zaZ [tT,tT,tT,tT,tT,tT,tT,tT,tT,tT,tT] 52) (kRet Tryz.prog Tryz.f8.results.toList K))))))))
def zhwZ (R18 : RT) (x2 x7 x8 x9 x11 x13 x14 x15 x25 x114 : AV) (H : AH) (K : KT) : Prop:=jn (mk 224 0 [2,7,8,9,11,13,14,15,25,114]) (zaZ [tT,tT,tT,tT,tT,tT,tT,tT,tT,tT,fF,tT,fF,fF,tT,fF,fF,tT,tT,fF,tT,fF,tT,tT,tT,tT,tT,fF,tT] 48) [x2,x7,x8,x9,x11,x13,x14,x15,x25,x114] H (kSeq (cutC (mk 224 0 [2,7,8,9,11,13,14,15,25]) (zaZ [tT,tT,tT,tT,tT,tT,tT,tT,tT,tT,fF,tT,fF,fF,tT,fF,fF,tT,tT,fF,tT,fF,tT,tT,tT,tT,tT,tT] 49)) (kBlk 2 (kSeq (cutC (mk 224 0 [2,7,8,9,11,13,14]) (zaZ [tT,tT,tT,tT,tT,tT,tT,tT,tT,tT,fF,tT,fF,fF,tT,fF,fF,tT,tT,tT] 50)) (kBlk 1 (kSeq (cutC (mk 224 0 [2,7,8,9,11,13,14]) (zaZ [tT,tT,tT,tT,tT,tT,tT,tT,tT,tT,fF,tT,fF,fF,tT,tT] 52)) (kLp (mk 224 0 [2,7,8,9,11,13,14]) R18 (kBlk 0 (kSeq (zaZ [tT,tT,tT,tT,tT,tT,tT,tT,tT,tT,tT] 52) (kRet Tryz.prog Tryz.f8.results.toList K)))))))))
def zebZ (R18 : RT) (x2 x7 x8 x9 x11 x13 x14 x15 x25 : AV) (H : AH) (K : KT) : Prop:=jn (mk 224 0 [2,7,8,9,11,13,14,15,25]) (zaZ [tT,tT,tT,tT,tT,tT,tT,tT,tT,tT,fF,tT,fF,fF,tT,fF,fF,tT,tT,fF,tT,fF,tT,tT,tT,tT,tT] 46) [x2,x7,x8,x9,x11,x13,x14,x15,x25] H (kBlk 2 (kSeq (cutC (mk 224 0 [2,7,8,9,11,13,14]) (zaZ [tT,tT,tT,tT,tT,tT,tT,tT,tT,tT,fF,tT,fF,fF,tT,fF,fF,tT,tT,tT] 50)) (kBlk 1 (kSeq (cutC (mk 224 0 [2,7,8,9,11,13,14]) (zaZ [tT,tT,tT,tT,tT,tT,tT,tT,tT,tT,fF,tT,fF,fF,tT,tT] 52)) (kLp (mk 224 0 [2,7,8,9,11,13,14]) R18 (kBlk 0 (kSeq (zaZ [tT,tT,tT,tT,tT,tT,tT,tT,tT,tT,tT] 52) (kRet Tryz.prog Tryz.f8.results.toList K))))))))
def zhpZ (R18 : RT) (x2 x7 x8 x9 x11 x13 x14 x15 x167 : AV) (H : AH) (K : KT) : Prop:=jn (mk 224 0 [2,7,8,9,11,13,14,15,167]) (zaZ [tT,tT,tT,tT,tT,tT,tT,tT,tT,tT,fF,tT,fF,fF,tT,fF,fF,tT,tT,fF,tT,fF,tT,tT,tT] 40) [x2,x7,x8,x9,x11,x13,x14,x15,x167] H (kBlk 2 (kSeq (cutC (mk 224 0 [2,7,8,9,11,13,14]) (zaZ [tT,tT,tT,tT,tT,tT,tT,tT,tT,tT,fF,tT,fF,fF,tT,fF,fF,tT,tT,tT] 50)) (kBlk 1 (kSeq (cutC (mk 224 0 [2,7,8,9,11,13,14]) (zaZ [tT,tT,tT,tT,tT,tT,tT,tT,tT,tT,fF,tT,fF,fF,tT,tT] 52)) (kLp (mk 224 0 [2,7,8,9,11,13,14]) R18 (kBlk 0 (kSeq (zaZ [tT,tT,tT,tT,tT,tT,tT,tT,tT,tT,tT] 52) (kRet Tryz.prog Tryz.f8.results.toList K))))))))
def zbgZ (R18 : RT) (x2 x7 x8 x9 x11 x13 x14 x15 x98 x118 : AV) (H : AH) (K : KT) : Prop:=jn (mk 224 0 [2,7,8,9,11,13,14,15,98,118]) (zaZ [tT,tT,tT,tT,tT,tT,tT,tT,tT,tT,fF,tT,fF,fF,tT,fF,fF,tT,tT,fF,tT,fF,tT] 30) [x2,x7,x8,x9,x11,x13,x14,x15,x98,x118] H (kBlk 2 (kSeq (cutC (mk 224 0 [2,7,8,9,11,13,14]) (zaZ [tT,tT,tT,tT,tT,tT,tT,tT,tT,tT,fF,tT,fF,fF,tT,fF,fF,tT,tT,tT] 50)) (kBlk 1 (kSeq (cutC (mk 224 0 [2,7,8,9,11,13,14]) (zaZ [tT,tT,tT,tT,tT,tT,tT,tT,tT,tT,fF,tT,fF,fF,tT,tT] 52)) (kLp (mk 224 0 [2,7,8,9,11,13,14]) R18 (kBlk 0 (kSeq (zaZ [tT,tT,tT,tT,tT,tT,tT,tT,tT,tT,tT] 52) (kRet Tryz.prog Tryz.f8.results.toList K))))))))
def zhfZ (x2 x7 x8 x9 x11 x13 x14 : AV) (H : AH) (K : KT) : Prop:=lp (mk 224 0 [2,7,8,9,11,13,14]) (zaZ [tT,tT,tT,tT,tT,tT,tT,tT,tT,tT,fF,tT,fF,fF] 19) [x2,x7,x8,x9,x11,x13,x14] H (kBlk 0 (kSeq (zaZ [tT,tT,tT,tT,tT,tT,tT,tT,tT,tT,tT] 52) (kRet Tryz.prog Tryz.f8.results.toList K)))
def zgfZ (R18 : RT) (x2 x7 x8 x9 x11 x13 x14 : AV) (H : AH) (K : KT) : Prop :=
bO (abI .add x14 (I 1)) λv0=>
R18 [x2,x7,x8,x9,x11,x13,v0] H
theorem znfZ (R18 : RT) (x2 x7 x8 x9 x11 x13 x14 : AV) (H : AH) (K : KT) : zhmZ R18 x2 x7 x8 x9 x11 x13 x14 H K=zgfZ R18 x2 x7 x8 x9 x11 x13 x14 H K:=(jn_eq _ _ _ _ _).trans (by kernel_rfl)
def zfwZ (R18 : RT) (x2 x7 x8 x9 x11 x13 x14 x204 : AV) (H : AH) (K : KT) : Prop :=
bB x204 λt0=>bI t0 (
K (B false) H)
 (zhmZ R18 x2 x7 x8 x9 x11 x13 x14 H K)
theorem zobZ (R18 : RT) (x2 x7 x8 x9 x11 x13 x14 x204 : AV) (H : AH) (K : KT) : zhoZ R18 x2 x7 x8 x9 x11 x13 x14 x204 H K=zfwZ R18 x2 x7 x8 x9 x11 x13 x14 x204 H K:=(jn_eq _ _ _ _ _).trans (by kernel_rfl)
def zgiZ (R18 : RT) (x2 x7 x8 x9 x11 x13 x14 : AV) (H : AH) (K : KT) : Prop :=
bO (zeZ x9) λv0=>
bO (zfZ 0 v0) λv1=>
bC (BCall Tryz.prog 45 [v1] H) λv2 H3=>
bO (abI .neq v2 x13) λv4=>
zhoZ R18 x2 x7 x8 x9 x11 x13 x14 v4 H3 K
theorem znpZ (R18 : RT) (x2 x7 x8 x9 x11 x13 x14 : AV) (H : AH) (K : KT) : zbfZ R18 x2 x7 x8 x9 x11 x13 x14 H K=zgiZ R18 x2 x7 x8 x9 x11 x13 x14 H K:=(jn_eq _ _ _ _ _).trans (by kernel_rfl)
def zfrZ (R18 : RT) (x2 x7 x8 x9 x11 x13 x14 x166 : AV) (H : AH) (K : KT) : Prop :=
bB x166 λt0=>bI t0 (
K (B false) H)
 (zbfZ R18 x2 x7 x8 x9 x11 x13 x14 H K)
theorem znoZ (R18 : RT) (x2 x7 x8 x9 x11 x13 x14 x166 : AV) (H : AH) (K : KT) : zhtZ R18 x2 x7 x8 x9 x11 x13 x14 x166 H K=zfrZ R18 x2 x7 x8 x9 x11 x13 x14 x166 H K:=(jn_eq _ _ _ _ _).trans (by kernel_rfl)
def zgbZ (R18 : RT) (x2 x7 x8 x9 x11 x13 x14 x16 x17 x18 x19 : AV) (H : AH) (K : KT) : Prop :=
bO (abI .neq x16 x18) λv0=>
bG v0 false λw1=>
gO w1 (some x17) λv2=>
bG v0 false λw3=>
gO w3 (some x19) λv4=>
bG v0 false λw5=>
gO w5 (abI .neq v2 v4) λv6=>
bO (apick v0 (B true) v6) λv7=>
zhtZ R18 x2 x7 x8 x9 x11 x13 x14 v7 H K
theorem zntZ (R18 : RT) (x2 x7 x8 x9 x11 x13 x14 x16 x17 x18 x19 : AV) (H : AH) (K : KT) : ziiZ R18 x2 x7 x8 x9 x11 x13 x14 x16 x17 x18 x19 H K=zgbZ R18 x2 x7 x8 x9 x11 x13 x14 x16 x17 x18 x19 H K:=(jn_eq _ _ _ _ _).trans (by kernel_rfl)
def zfxZ (R18 : RT) (x2 x7 x8 x9 x11 x13 x14 x16 x17 x18 x19 : AV) (H : AH) (K : KT) : Prop :=
bO (abI .add x13 x18) λv0=>
ziiZ R18 x2 x7 x8 x9 x11 v0 x14 x16 x17 x18 x19 H K
theorem znyZ (R18 : RT) (x2 x7 x8 x9 x11 x13 x14 x16 x17 x18 x19 : AV) (H : AH) (K : KT) : zctZ R18 x2 x7 x8 x9 x11 x13 x14 x16 x17 x18 x19 H K=zfxZ R18 x2 x7 x8 x9 x11 x13 x14 x16 x17 x18 x19 H K:=(jn_eq _ _ _ _ _).trans (by kernel_rfl)
def zfqZ (R18 : RT) (x2 x7 x8 x9 x11 x13 x14 x16 x17 x18 x19 x20 : AV) (H : AH) (K : KT) : Prop :=
bO (abI .add x18 x20) λv0=>
zctZ R18 x2 x7 x8 x9 x11 x13 x14 x16 x17 v0 x19 H K
theorem zndZ (R18 : RT) (x2 x7 x8 x9 x11 x13 x14 x16 x17 x18 x19 x20 : AV) (H : AH) (K : KT) : zhzZ R18 x2 x7 x8 x9 x11 x13 x14 x16 x17 x18 x19 x20 H K=zfqZ R18 x2 x7 x8 x9 x11 x13 x14 x16 x17 x18 x19 x20 H K:=(jn_eq _ _ _ _ _).trans (by kernel_rfl)
def zftZ (R18 : RT) (x2 x7 x8 x9 x11 x13 x14 x15 x16 x17 x18 : AV) (H : AH) (K : KT) : Prop :=
bO (abI .add x13 x18) λv0=>
bO (zfZ 2 x15) λv1=>
bO (ald false 1 H v1) λv2=>
bC (BCall Tryz.prog 48 [x8,x11,v0,v2] H) λv3 H4=>
bO (zjZ v3 0) λv5=>
bO (zjZ v3 1) λv6=>
zhzZ R18 x2 x7 x8 x9 x11 x13 x14 x16 x17 x18 v6 v5 H4 K
theorem zoaZ (R18 : RT) (x2 x7 x8 x9 x11 x13 x14 x15 x16 x17 x18 : AV) (H : AH) (K : KT) : zhlZ R18 x2 x7 x8 x9 x11 x13 x14 x15 x16 x17 x18 H K=zftZ R18 x2 x7 x8 x9 x11 x13 x14 x15 x16 x17 x18 H K:=(jn_eq _ _ _ _ _).trans (by kernel_rfl)
def zggZ (R18 : RT) (x2 x7 x8 x9 x11 x13 x14 x15 x16 x17 x18 x19 x141 : AV) (H : AH) (K : KT) : Prop :=
bB x141 λt0=>bI t0 (
zhlZ R18 x2 x7 x8 x9 x11 x13 x14 x15 x16 x17 x18 H K)
 (zctZ R18 x2 x7 x8 x9 x11 x13 x14 x16 x17 x18 x19 H K)
theorem zneZ (R18 : RT) (x2 x7 x8 x9 x11 x13 x14 x15 x16 x17 x18 x19 x141 : AV) (H : AH) (K : KT) : zheZ R18 x2 x7 x8 x9 x11 x13 x14 x15 x16 x17 x18 x19 x141 H K=zggZ R18 x2 x7 x8 x9 x11 x13 x14 x15 x16 x17 x18 x19 x141 H K:=(jn_eq _ _ _ _ _).trans (by kernel_rfl)
def zghZ (R18 : RT) (x2 x7 x8 x9 x11 x13 x14 x15 x16 x17 x18 x19 : AV) (H : AH) (K : KT) : Prop :=
bO (abI .eql x19 (I 0)) λv0=>
zheZ R18 x2 x7 x8 x9 x11 x13 x14 x15 x16 x17 x18 x19 v0 H K
theorem znsZ (R18 : RT) (x2 x7 x8 x9 x11 x13 x14 x15 x16 x17 x18 x19 : AV) (H : AH) (K : KT) : zieZ R18 x2 x7 x8 x9 x11 x13 x14 x15 x16 x17 x18 x19 H K=zghZ R18 x2 x7 x8 x9 x11 x13 x14 x15 x16 x17 x18 x19 H K:=(jn_eq _ _ _ _ _).trans (by kernel_rfl)
def zgnZ (R18 : RT) (x2 x7 x8 x9 x11 x13 x14 x15 x16 x17 : AV) (H : AH) (K : KT) : Prop :=
bO (zfZ 1 x15) λv0=>
bO (ald false 1 H v0) λv1=>
bC (BCall Tryz.prog 48 [x8,x11,x13,v1] H) λv2 H3=>
bO (zjZ v2 0) λv4=>
bO (zjZ v2 1) λv5=>
zieZ R18 x2 x7 x8 x9 x11 x13 x14 x15 x16 x17 v4 v5 H3 K
theorem znqZ (R18 : RT) (x2 x7 x8 x9 x11 x13 x14 x15 x16 x17 : AV) (H : AH) (K : KT) : zhiZ R18 x2 x7 x8 x9 x11 x13 x14 x15 x16 x17 H K=zgnZ R18 x2 x7 x8 x9 x11 x13 x14 x15 x16 x17 H K:=(jn_eq _ _ _ _ _).trans (by kernel_rfl)
def zgcZ (R18 : RT) (x2 x7 x8 x9 x11 x13 x14 x198 : AV) (H : AH) (K : KT) : Prop :=
bB x198 λt0=>bI t0 (
K (B false) H)
 (zbfZ R18 x2 x7 x8 x9 x11 x13 x14 H K)
theorem znuZ (R18 : RT) (x2 x7 x8 x9 x11 x13 x14 x198 : AV) (H : AH) (K : KT) : zijZ R18 x2 x7 x8 x9 x11 x13 x14 x198 H K=zgcZ R18 x2 x7 x8 x9 x11 x13 x14 x198 H K:=(jn_eq _ _ _ _ _).trans (by kernel_rfl)
def zgaZ (R18 : RT) (x2 x7 x8 x9 x11 x13 x14 x21 x22 x23 x24 : AV) (H : AH) (K : KT) : Prop :=
bO (acB H x21) λv0=>
bO (acB H x23) λv1=>
bO (abT .neq v0 v1) λv2=>
bG v2 false λw3=>
gO w3 (some x22) λv4=>
bG v2 false λw5=>
gO w5 (some x24) λv6=>
bG v2 false λw7=>
gO w7 (abI .neq v4 v6) λv8=>
bO (apick v2 (B true) v8) λv9=>
zijZ R18 x2 x7 x8 x9 x11 x13 x14 v9 H K
theorem znwZ (R18 : RT) (x2 x7 x8 x9 x11 x13 x14 x21 x22 x23 x24 : AV) (H : AH) (K : KT) : zicZ R18 x2 x7 x8 x9 x11 x13 x14 x21 x22 x23 x24 H K=zgaZ R18 x2 x7 x8 x9 x11 x13 x14 x21 x22 x23 x24 H K:=(jn_eq _ _ _ _ _).trans (by kernel_rfl)
def zfvZ (R18 : RT) (x2 x7 x8 x9 x11 x13 x14 x21 x22 x23 x24 : AV) (H : AH) (K : KT) : Prop :=
bO (alnS x23) λv0=>
bO (abI .add x13 v0) λv1=>
zicZ R18 x2 x7 x8 x9 x11 v1 x14 x21 x22 x23 x24 H K
theorem znmZ (R18 : RT) (x2 x7 x8 x9 x11 x13 x14 x21 x22 x23 x24 : AV) (H : AH) (K : KT) : zhgZ R18 x2 x7 x8 x9 x11 x13 x14 x21 x22 x23 x24 H K=zfvZ R18 x2 x7 x8 x9 x11 x13 x14 x21 x22 x23 x24 H K:=(jn_eq _ _ _ _ _).trans (by kernel_rfl)
def zgdZ (R18 : RT) (x2 x7 x8 x9 x11 x13 x14 x15 x21 x22 : AV) (H : AH) (K : KT) : Prop :=
bO (zfZ 3 x15) λv0=>
bO (ald false 1 H v0) λv1=>
bC (BCall Tryz.prog 50 [x8,x11,x13,v1] H) λv2 H3=>
bO (zjZ v2 0) λv4=>
bO (zjZ v2 1) λv5=>
zhgZ R18 x2 x7 x8 x9 x11 x13 x14 x21 x22 v4 v5 H3 K
theorem znnZ (R18 : RT) (x2 x7 x8 x9 x11 x13 x14 x15 x21 x22 : AV) (H : AH) (K : KT) : zhvZ R18 x2 x7 x8 x9 x11 x13 x14 x15 x21 x22 H K=zgdZ R18 x2 x7 x8 x9 x11 x13 x14 x15 x21 x22 H K:=(jn_eq _ _ _ _ _).trans (by kernel_rfl)
def zglZ (R18 : RT) (x2 x7 x8 x9 x11 x13 x14 x15 x115 : AV) (H : AH) (K : KT) : Prop :=
bB x115 λt0=>bI t0 (
bO (zfZ 3 x15) λv1=>
bO (ald false 1 H v1) λv2=>
zbfZ R18 x2 x7 x8 x9 x11 v2 x14 H K)
 (zbfZ R18 x2 x7 x8 x9 x11 x13 x14 H K)
theorem znzZ (R18 : RT) (x2 x7 x8 x9 x11 x13 x14 x15 x115 : AV) (H : AH) (K : KT) : zidZ R18 x2 x7 x8 x9 x11 x13 x14 x15 x115 H K=zglZ R18 x2 x7 x8 x9 x11 x13 x14 x15 x115 H K:=(jn_eq _ _ _ _ _).trans (by kernel_rfl)
def zgmZ (R18 : RT) (x2 x7 x8 x9 x11 x13 x14 x15 x25 : AV) (H : AH) (K : KT) : Prop :=
zidZ R18 x2 x7 x8 x9 x11 x13 x14 x15 x25 H K
theorem znrZ (R18 : RT) (x2 x7 x8 x9 x11 x13 x14 x15 x25 : AV) (H : AH) (K : KT) : zigZ R18 x2 x7 x8 x9 x11 x13 x14 x15 x25 H K=zgmZ R18 x2 x7 x8 x9 x11 x13 x14 x15 x25 H K:=(jn_eq _ _ _ _ _).trans (by kernel_rfl)
def zgpZ (R18 : RT) (x2 x7 x8 x9 x11 x13 x14 x15 x25 x114 : AV) (H : AH) (K : KT) : Prop :=
bB x114 λt0=>bI t0 (
K (B false) H)
 (zigZ R18 x2 x7 x8 x9 x11 x13 x14 x15 x25 H K)
theorem znlZ (R18 : RT) (x2 x7 x8 x9 x11 x13 x14 x15 x25 x114 : AV) (H : AH) (K : KT) : zhwZ R18 x2 x7 x8 x9 x11 x13 x14 x15 x25 x114 H K=zgpZ R18 x2 x7 x8 x9 x11 x13 x14 x15 x25 x114 H K:=(jn_eq _ _ _ _ _).trans (by kernel_rfl)
def zgoZ (R18 : RT) (x2 x7 x8 x9 x11 x13 x14 x15 x25 : AV) (H : AH) (K : KT) : Prop :=
bO (zeZ x9) λv0=>
bO (zfZ 0 v0) λv1=>
bO (zfZ 3 x15) λv2=>
bO (ald false 1 H v2) λv3=>
bC (BCall Tryz.prog 51 [v1,v3] H) λv4 H5=>
bO (abB .neq v4 x25) λv6=>
zhwZ R18 x2 x7 x8 x9 x11 x13 x14 x15 x25 v6 H5 K
theorem zncZ (R18 : RT) (x2 x7 x8 x9 x11 x13 x14 x15 x25 : AV) (H : AH) (K : KT) : zebZ R18 x2 x7 x8 x9 x11 x13 x14 x15 x25 H K=zgoZ R18 x2 x7 x8 x9 x11 x13 x14 x15 x25 H K:=(jn_eq _ _ _ _ _).trans (by kernel_rfl)
def zdmZ (R18 : RT) (x2 x7 x8 x9 x11 x13 x14 x15 x167 : AV) (H : AH) (K : KT) : Prop :=
bB x167 λt0=>bI t0 (
bO (zfZ 3 x15) λv1=>
bO (ald false 1 H v1) λv2=>
bC (BCall Tryz.prog 49 [x9,v2] H) λv3 H4=>
bO (zjZ v3 0) λv5=>
bO (zjZ v3 1) λv6=>
zhvZ R18 x2 x7 x8 x9 x11 x13 x14 x15 v5 v6 H4 K)
 (bO (zfZ 3 x15) λv7=>
bO (ald false 1 H v7) λv8=>
bO (abI .geq v8 (I 0)) λv9=>
bG v9 true λw10=>
gO w10 (zfZ 3 x15) λv11=>
bG v9 true λw12=>
gO w12 (ald false 1 H v11) λv13=>
bG v9 true λw14=>
gO w14 (abI .leq v13 (I 4611686018427387904)) λv15=>
bO (apick v9 v15 (B false)) λv16=>
zebZ R18 x2 x7 x8 x9 x11 x13 x14 x15 v16 H K)
theorem zfhZ (R18 : RT) (x2 x7 x8 x9 x11 x13 x14 x15 x167 : AV) (H : AH) (K : KT) : zhpZ R18 x2 x7 x8 x9 x11 x13 x14 x15 x167 H K=zdmZ R18 x2 x7 x8 x9 x11 x13 x14 x15 x167 H K:=(jn_eq _ _ _ _ _).trans (by kernel_rfl)
def zciZ (R18 : RT) (x2 x7 x8 x9 x11 x13 x14 x15 x98 x118 : AV) (H : AH) (K : KT) : Prop :=
bB x118 λt0=>bI t0 (
bO (zfZ 1 x15) λv1=>
bO (ald false 1 H v1) λv2=>
bO (zfZ 2 x15) λv3=>
bO (ald false 1 H v3) λv4=>
bH (absl H 1 2 (zrow [nilSl] 2) [(0,1,v2),(1,1,v4)]) λv5 H6=>
bA (ACalls Tryz.prog 47 [x9,v5] H6) λv7 H8=>
bO (zjZ v7 0) λv9=>
bO (zjZ v7 1) λv10=>
zhiZ R18 x2 x7 x8 x9 x11 x13 x14 x15 v9 v10 H8 K)
 (bO (abI .eql x98 (.lit (.int .u8 2))) λv11=>
zhpZ R18 x2 x7 x8 x9 x11 x13 x14 x15 v11 H K)
theorem zdeZ (R18 : RT) (x2 x7 x8 x9 x11 x13 x14 x15 x98 x118 : AV) (H : AH) (K : KT) : zbgZ R18 x2 x7 x8 x9 x11 x13 x14 x15 x98 x118 H K=zciZ R18 x2 x7 x8 x9 x11 x13 x14 x15 x98 x118 H K:=(jn_eq _ _ _ _ _).trans (by kernel_rfl)
def zgrZ (R18 : RT) (x2 x7 x8 x9 x11 x13 x14 : AV) (H : AH) (K : KT) : Prop :=
bO (alnS x2) λv0=>
bO (abI .lss x14 v0) λv1=>
bB v1 λt2=>bI t2 (
bO (aixS 4 x2 x14) λv3=>
bO (ald true 4 H v3) λv4=>
bH (anew H (.agg [(.lit (.int .u8 0)),nilSl,nilSl,(I 0)])) λv5 H6=>
bS (ast 4 H6 v5 v4) λH7=>
bO (zfZ 1 v5) λv8=>
bO (ald false 1 H7 v8) λv9=>
bO (alnS v9) λv10=>
bO (abI .gtr v10 (I 60)) λv11=>
bG v11 false λw12=>
gO w12 (zfZ 2 v5) λv13=>
bG v11 false λw14=>
gO w14 (ald false 1 H7 v13) λv15=>
bG v11 false λw16=>
gO w16 (alnS v15) λv17=>
bG v11 false λw18=>
gO w18 (abI .gtr v17 (I 60)) λv19=>
bO (apick v11 (B true) v19) λv20=>
bG v20 false λw21=>
gO w21 (zfZ 3 v5) λv22=>
bG v20 false λw23=>
gO w23 (ald false 1 H7 v22) λv24=>
bG v20 false λw25=>
gO w25 (abI .gtr v24 (I 300)) λv26=>
bG v20 false λw27=>
gO w27 (some v26) λv28=>
bG v28 true λw29=>
gO w29 (zfZ 3 v5) λv30=>
bG v28 true λw31=>
gO w31 (ald false 1 H7 v30) λv32=>
bG v28 true λw33=>
gO w33 (abI .leq v32 (I 4096)) λv34=>
bG v20 false λw35=>
gO w35 (apick v28 v34 (B false)) λv36=>
bO (apick v20 (B true) v36) λv37=>
bB v37 λt38=>bI t38 (
bP (PCall Tryz.prog 40 [] H7) λv39=>
K v39 H7)
 (bO (zfZ 0 v5) λv40=>
bO (ald false 1 H7 v40) λv41=>
bO (abI .rem v41 (.lit (.int .u8 4))) λv42=>
bO (abI .eql v42 (.lit (.int .u8 0))) λv43=>
bB v43 λt44=>bI t44 (
zbgZ R18 x2 x7 x8 x9 x11 x13 x14 v5 v42 v43 H7 K)
 (bO (abI .eql v42 (.lit (.int .u8 1))) λv45=>
zbgZ R18 x2 x7 x8 x9 x11 x13 x14 v5 v42 v45 H7 K)))
 (bC (BCall Tryz.prog 15 [x7] H) λv46 H47=>
bO (zeZ x8) λv48=>
bO (zfZ 0 v48) λv49=>
bO (ald true 2 H47 v49) λv50=>
bP (BPure Tryz.prog 46 [v46,v50]) λv51=>
bG v51 true λw52=>
gO w52 (some x7) λv53=>
bG v51 true λw54=>
gC w54 (BCall Tryz.prog 28 [v53] H47) H47 λv55 H56=>
bG v51 true λw57=>
gO w57 (some x8) λv58=>
bG v51 true λw59=>
gO w59 (zeZ v58) λv60=>
bG v51 true λw61=>
gO w61 (zfZ 8 v60) λv62=>
bG v51 true λw63=>
gO w63 (ald false 1 H56 v62) λv64=>
bG v51 true λw65=>
gO w65 (abB .eql v55 v64) λv66=>
bO (apick v51 v66 (B false)) λv67=>
bG v67 true λw68=>
gP w68 (BPure Tryz.prog 40 []) λv69=>
bO (apick v67 v69 (B false)) λv70=>
(ald true 2 H v49=some v50) ∧
(bG v51 true λw=>bI w (ald false 1 H47 v62=some v64) True) ∧
K v70 H56)
theorem zltZ {K : KT} : RL7 (λR x2 x7 x8 x9 x11 x13 x14 H=>zgrZ R x2 x7 x8 x9 x11 x13 x14 H K) (λx2 x7 x8 x9 x11 x13 x14 H=>zhfZ x2 x7 x8 x9 x11 x13 x14 H K):=lpm7 (zleZ _ _) (λ_ _ _ _ _ _ _ _ _=>by kernel_rfl)
def zgqZ (a0 a1 a2 : AV) (H : AH) (K : KT) : Prop :=
bO (alnS a2) λv0=>
bO (abI .gtr v0 (I 40)) λv1=>
bB v1 λt2=>bI t2 (
bP (PCall Tryz.prog 40 [] H) λv3=>
K v3 H)
 (bC (BCall Tryz.prog 30 [a0] H) λv4 H5=>
bC (BCall Tryz.prog 31 [a0] H5) λv6 H7=>
bO (abN .eql nilP v4 (.lit (.pointer none))) λv8=>
bB v8 λt9=>bI t9 (
K (B false) H7)
 (bC (BCall Tryz.prog 43 [v4,(.lit (.string ⟨#[97]⟩)),(B true)] H7) λv10 H11=>
bO (zjZ v10 0) λv12=>
bO (zjZ v10 1) λv13=>
bC (BCall Tryz.prog 41 [v6,(.lit (.string ⟨#[97]⟩)),(B true)] H11) λv14 H15=>
bO (zjZ v14 0) λv16=>
bO (zjZ v14 1) λv17=>
bO (abN .eql nilP v12 (.lit (.pointer none))) λv18=>
bG v18 false λw19=>
gO w19 (some v13) λv20=>
bG v18 false λw21=>
gO w21 (some v17) λv22=>
bG v18 false λw23=>
gO w23 (abI .neq v20 v22) λv24=>
bO (apick v18 (B true) v24) λv25=>
bG v25 false λw26=>
gO w26 (some v12) λv27=>
bG v25 false λw28=>
gC w28 (BCall Tryz.prog 44 [v27] H15) H15 λv29 H30=>
bG v25 false λw31=>
gO w31 (some v16) λv32=>
bG v25 false λw33=>
gO w33 (abI .neq v29 v32) λv34=>
bO (apick v25 (B true) v34) λv35=>
bB v35 λt36=>bI t36 (
K (B false) H30)
 (bC (BCall Tryz.prog 13 [v4,a1] H30) λv37 H38=>
bC (BCall Tryz.prog 42 [v6,a1] H38) λv39 H40=>
zhfZ a2 v4 v6 v12 v16 (I 0) (I 0) H40 K)))
theorem zqtZ (a0 a1 a2 : AV) (H : AH) (K : KT) : sFun Tryz.prog ziwZ pqg pqga ziqZ ziuZ Tryz.f8 [a0,a1,a2] H K=zgqZ a0 a1 a2 H K:=by kernel_rfl
theorem zquZ {a0 a1 a2 : AV} {H : AH} {K : KT} (h : zgqZ a0 a1 a2 H K) : ACalls Tryz.prog 8 [a0,a1,a2] H K :=
 sFun_wp mixP Tryz.func8 (by kernel_rfl) (Eq.mpr (zqtZ a0 a1 a2 H K) h)
end Go.Proofs.YtlhiaihmkjlaaaaGreat.Av
end
