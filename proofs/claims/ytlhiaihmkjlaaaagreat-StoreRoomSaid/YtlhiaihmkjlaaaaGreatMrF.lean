/- Texts of this proof, one behind the other, packed into one file by a program of this session. No condition. -/
import Derived.Test.YtlhiaihmkjlaaaaGreatMrE
import Derived.KernelRfl
set_option linter.unusedVariables false
set_option linter.unusedSimpArgs false
set_option maxRecDepth 100000
section
namespace Go.Proofs.YtlhiaihmkjlaaaaGreat.Av
open Go
def pqb : FuncId→Bool:=inL [36,93,130,101,159,37,72,71,73,134,135,136,149,171,92,150,39,35,33,70,46,60,139,90,99,132,98,157,164,29,123,137,174,177,74,75,76,154,156,147,183]
def pqba : FuncId→Bool:=inL [190,192]
def image_copied (a0 : AV) (H : AH) (K : KT) : Prop :=
bH (anew H a0) λv0 H1=>
bH (anew H1 (.agg [(I 0),nilSl])) λv2 H3=>
bO (zhZ 0 v0) λv4=>
bO (ald false 1 H3 v4) λv5=>
bO (zhZ 1 v0) λv6=>
bO (ald false 1 H3 v6) λv7=>
bP (BPure Tryz.prog 150 [v7]) λv8=>
bO (abl [(I 0),nilSl] [(0,1,v5),(1,1,v8)]) λv9=>
bS (ast 2 H3 v2 v9) λH10=>
bO (ald true 2 H10 v2) λv11=>
K v11 H10
theorem image_copied_ok {a0 : AV} {H : AH} {K : KT} (h : image_copied a0 H K) : OKP 92 [a0] H K :=
 fok nofl pqb nokp Tryz.func92 (by kernel_rfl) (by kernel_rfl) h
def image_Find (a0 a1 : AV) (H : AH) (K : KT) : Prop :=
bH (anew H a0) λv0 H1=>
bO (ald true 2 H1 v0) λv2=>
bP (PCall Tryz.prog 90 [v2] H1) λv3=>
bO (aun .not v3) λv4=>
bB v4 λt5=>bI t5 (
K (.tup [(I 0),(B false)]) H1)
 (bO (ald true 2 H1 v0) λv6=>
bC (BCall Tryz.prog 97 [v6,a1] H1) λv7 H8=>
bO (zjZ v7 0) λv9=>
bO (zjZ v7 1) λv10=>
bO (aun .not v10) λv11=>
bB v11 λt12=>bI t12 (
K (.tup [(I 0),(B false)]) H8)
 (bO (zhZ 0 v0) λv13=>
bO (ald false 1 H8 v13) λv14=>
bO (aixS 2 v14 v9) λv15=>
bO (zhZ 1 v15) λv16=>
bO (ald false 1 H8 v16) λv17=>
K (.tup [v17,(B true)]) H8))
theorem image_Find_ok {a0 a1 : AV} {H : AH} {K : KT} (h : image_Find a0 a1 H K) : OKP 39 [a0,a1] H K :=
 fok nofl pqb nokp Tryz.func39 (by kernel_rfl) (by kernel_rfl) h
def image_Get (a0 a1 : AV) (H : AH) (K : KT) : Prop :=
bH (anew H a0) λv0 H1=>
bH (anew H1 (.agg [(I 0),nilSl])) λv2 H3=>
bO (ald true 2 H3 v0) λv4=>
bP (PCall Tryz.prog 90 [v4] H3) λv5=>
bO (aun .not v5) λv6=>
bB v6 λt7=>bI t7 (
bO (abl [(I 0),nilSl] []) λv8=>
bS (ast 2 H3 v2 v8) λH9=>
bO (ald true 2 H9 v2) λv10=>
K (.tup [v10,(B false)]) H9)
 (bO (ald true 2 H3 v0) λv11=>
bC (BCall Tryz.prog 91 [v11,a1] H3) λv12 H13=>
bO (zjZ v12 0) λv14=>
bO (zjZ v12 1) λv15=>
bO (aun .not v15) λv16=>
bB v16 λt17=>bI t17 (
bO (abl [(I 0),nilSl] []) λv18=>
bS (ast 2 H13 v2 v18) λH19=>
bO (ald true 2 H19 v2) λv20=>
K (.tup [v20,(B false)]) H19)
 (bO (zhZ 1 v0) λv21=>
bO (ald false 1 H13 v21) λv22=>
bO (aixS 3 v22 v14) λv23=>
bO (zhZ 1 v23) λv24=>
bO (ald true 2 H13 v24) λv25=>
bP (PCall Tryz.prog 92 [v25] H13) λv26=>
bS (ast 2 H13 v2 v26) λH27=>
bO (ald true 2 H27 v2) λv28=>
K (.tup [v28,(B true)]) H27))
theorem image_Get_ok {a0 a1 : AV} {H : AH} {K : KT} (h : image_Get a0 a1 H K) : OKP 35 [a0,a1] H K :=
 fok nofl pqb nokp Tryz.func35 (by kernel_rfl) (by kernel_rfl) h
def image_Used_kp : Nat→Option (List Bool):=kpOf [(7,mk 24 0 [3,10,11,12])]
def image_Used_c (p : List Bool) (n : Nat) : List AV→AH→Kf→Prop:=sCode Tryz.prog nofl pqb none0 none0 image_Used_kp (sub p (zhyZ Tryz.f33)) n
def image_Used_L7 (x3 x10 x11 x12 : AV) (H : AH) (K : KT) : Prop:=lp (mk 24 0 [3,10,11,12]) (image_Used_c [tT,tT,tT,fF,tT,fF,fF] 8) [x3,x10,x11,x12] H (kBlk 0 (kSeq (image_Used_c [tT,tT,tT,tT] 12) (kRet Tryz.prog Tryz.f33.results.toList K)))
def zbbxZ (R7 : RT) (x3 x10 x11 x12 : AV) (H : AH) (K : KT) : Prop :=
bO (abI .lss x12 x11) λv0=>
bB v0 λt1=>bI t1 (
bO (aixS 3 x10 x12) λv2=>
bO (ald true 3 H v2) λv3=>
bH (anew H (.agg [(I 0),(I 0),nilSl])) λv4 H5=>
bS (ast 3 H5 v4 v3) λH6=>
bO (zhZ 1 v4) λv7=>
bO (zhZ 1 v7) λv8=>
bO (ald false 1 H6 v8) λv9=>
bO (alnS v9) λv10=>
bO (abI .add x3 v10) λv11=>
bO (abI .add x12 (I 1)) λv12=>
R7 [v11,x10,x11,v12] H6)
 (K x3 H)
theorem image_Used_L7_rule {K : KT} : RL4 (λR x3 x10 x11 x12 H=>zbbxZ R x3 x10 x11 x12 H K) (λx3 x10 x11 x12 H=>image_Used_L7 x3 x10 x11 x12 H K):=lpr4 (zvZ _ _) (λ_ _ _ _ _ _=>by kernel_rfl)
def image_Used (a0 : AV) (H : AH) (K : KT) : Prop :=
bH (anew H a0) λv0 H1=>
bO (ald true 2 H1 v0) λv2=>
bP (PCall Tryz.prog 90 [v2] H1) λv3=>
bO (aun .not v3) λv4=>
bB v4 λt5=>bI t5 (
K (I 0) H1)
 (bO (zhZ 1 v0) λv6=>
bO (ald false 1 H1 v6) λv7=>
bO (alnS v7) λv8=>
image_Used_L7 (I 0) v7 v8 (I 0) H1 K)
theorem image_Used_ok {a0 : AV} {H : AH} {K : KT} (h : image_Used a0 H K) : OKP 33 [a0] H K :=
 fok nofl pqb image_Used_kp Tryz.func33 (by kernel_rfl) (by kernel_rfl) h
def zzzZ : Nat→Option (List Bool):=kpOf [(6,mk 27 0 [0,17,18])]
def zbbuZ (p : List Bool) (n : Nat) : List AV→AH→Kf→Prop:=sCode Tryz.prog nofl pqb none0 none0 zzzZ (sub p (zhyZ Tryz.f70)) n
def zrxZ (x0 x17 x18 : AV) (H : AH) (K : KT) : Prop:=lp (mk 27 0 [0,17,18]) (zbbuZ [tT,tT,fF,tT,fF,fF] 7) [x0,x17,x18] H (kBlk 0 (kSeq (zbbuZ [tT,tT,tT] 13) (kRet Tryz.prog Tryz.f70.results.toList K)))
def zveZ (R6 : RT) (x0 x17 x18 : AV) (H : AH) (K : KT) : Prop :=
bO (abI .lss x18 x17) λv0=>
bB v0 λt1=>bI t1 (
bO (aivT x0 x18) λv2=>
bP (PCall Tryz.prog 123 [v2] H) λv3=>
bO (aun .not v3) λv4=>
bB v4 λt5=>bI t5 (
K (B false) H)
 (bO (abI .add x18 (I 1)) λv6=>
R6 [x0,x17,v6] H))
 (K (B true) H)
theorem zbakZ {K : KT} : RL3 (λR x0 x17 x18 H=>zveZ R x0 x17 x18 H K) (λx0 x17 x18 H=>zrxZ x0 x17 x18 H K):=lpr3 (zvZ _ _) (λ_ _ _ _ _=>by kernel_rfl)
def image_MayName (a0 : AV) (H : AH) (K : KT) : Prop :=
bO (abT .eql a0 (.lit (.string ⟨#[]⟩))) λv0=>
bG v0 false λw1=>
gO w1 (some a0) λv2=>
bG v0 false λw3=>
gO w3 (alnT v2) λv4=>
bG v0 false λw5=>
gO w5 (abI .gtr v4 (I 20)) λv6=>
bO (apick v0 (B true) v6) λv7=>
bG v7 false λw8=>
gO w8 (some a0) λv9=>
bG v7 false λw10=>
gO w10 (aivT v9 (I 0)) λv11=>
bG v7 false λw12=>
gO w12 (abI .eql v11 (.lit (.int .u8 45))) λv13=>
bO (apick v7 (B true) v13) λv14=>
bB v14 λt15=>bI t15 (
K (B false) H)
 (bO (alnT a0) λv16=>
zrxZ a0 v16 (I 0) H K)
theorem image_MayName_ok {a0 : AV} {H : AH} {K : KT} (h : image_MayName a0 H K) : OKP 70 [a0] H K :=
 fok nofl pqb zzzZ Tryz.func70 (by kernel_rfl) (by kernel_rfl) h
def zbemZ : Nat→Option (List Bool):=kpOf [(13,mk 37 0 [2,3,4,31]),(12,mk 37 0 [2,3,4,12,24]),(8,mk 37 0 [2,3,4,12,17]),(5,mk 37 0 [2,4])]
def zivZ (p : List Bool) (n : Nat) : List AV→AH→Kf→Prop:=sCode Tryz.prog nofl pqb none0 none0 zbemZ (sub p (zhyZ Tryz.f60)) n
def zhbZ (x2 x4 : AV) (H : AH) (K : KT) : Prop:=jn (mk 37 0 [2,4]) (zivZ [tT,tT,tT,tT] 14) [x2,x4] H (kRet Tryz.prog Tryz.f60.results.toList K)
def zbbqZ (x2 x3 x4 x31 : AV) (H : AH) (K : KT) : Prop:=jn (mk 37 0 [2,3,4,31]) (zivZ [tT,tT,tT,fF,tT,fF,tT,tT,tT,tT,tT,tT,tT] 14) [x2,x3,x4,x31] H (kBlk 0 (kSeq (cutC (mk 37 0 [2,4]) (zivZ [tT,tT,tT,tT] 14)) (kRet Tryz.prog Tryz.f60.results.toList K)))
def zbbnZ (x2 x3 x4 x12 x24 : AV) (H : AH) (K : KT) : Prop:=jn (mk 37 0 [2,3,4,12,24]) (zivZ [tT,tT,tT,fF,tT,fF,tT,tT,tT,tT,tT] 13) [x2,x3,x4,x12,x24] H (kBlk 0 (kSeq (cutC (mk 37 0 [2,4]) (zivZ [tT,tT,tT,tT] 14)) (kRet Tryz.prog Tryz.f60.results.toList K)))
def zjoZ (x2 x3 x4 x12 x17 : AV) (H : AH) (K : KT) : Prop:=jn (mk 37 0 [2,3,4,12,17]) (zivZ [tT,tT,tT,fF,tT,fF,tT,tT,tT] 12) [x2,x3,x4,x12,x17] H (kBlk 0 (kSeq (cutC (mk 37 0 [2,4]) (zivZ [tT,tT,tT,tT] 14)) (kRet Tryz.prog Tryz.f60.results.toList K)))
def zsdZ (x2 x4 : AV) (H : AH) (K : KT) : Prop :=
bO (ald true 2 H x2) λv0=>
bS (ast 2 H x4 v0) λH1=>
bO (ald true 2 H1 x4) λv2=>
K v2 H1
theorem zxzZ (x2 x4 : AV) (H : AH) (K : KT) : zhbZ x2 x4 H K=zsdZ x2 x4 H K:=(jn_eq _ _ _ _ _).trans (by kernel_rfl)
def zxuZ (x2 x3 x4 x31 : AV) (H : AH) (K : KT) : Prop :=
bB x31 λt0=>bI t0 (
bO (zhZ 5 x3) λv1=>
bO (ald false 1 H v1) λv2=>
bC (BCall Tryz.prog 115 [x2,v2] H) λv3 H4=>
zhbZ x2 x4 H4 K)
 (zhbZ x2 x4 H K)
theorem image_Apply_J13_eq (x2 x3 x4 x31 : AV) (H : AH) (K : KT) : zbbqZ x2 x3 x4 x31 H K=zxuZ x2 x3 x4 x31 H K:=(jn_eq _ _ _ _ _).trans (by kernel_rfl)
def zybZ (x2 x3 x4 x12 x24 : AV) (H : AH) (K : KT) : Prop :=
bB x24 λt0=>bI t0 (
bO (zhZ 5 x3) λv1=>
bO (ald false 1 H v1) λv2=>
bO (zhZ 6 x3) λv3=>
bO (ald false 1 H v3) λv4=>
bC (BCall Tryz.prog 114 [x2,v2,v4] H) λv5 H6=>
zhbZ x2 x4 H6 K)
 (bO (abI .eql x12 (I 7)) λv7=>
zbbqZ x2 x3 x4 v7 H K)
theorem image_Apply_J12_eq (x2 x3 x4 x12 x24 : AV) (H : AH) (K : KT) : zbbnZ x2 x3 x4 x12 x24 H K=zybZ x2 x3 x4 x12 x24 H K:=(jn_eq _ _ _ _ _).trans (by kernel_rfl)
def zznZ (x2 x3 x4 x12 x17 : AV) (H : AH) (K : KT) : Prop :=
bB x17 λt0=>bI t0 (
bO (ald true 8 H x3) λv1=>
bC (BCall Tryz.prog 113 [x2,v1] H) λv2 H3=>
zhbZ x2 x4 H3 K)
 (bO (abI .eql x12 (I 6)) λv4=>
zbbnZ x2 x3 x4 x12 v4 H K)
theorem image_Apply_J8_eq (x2 x3 x4 x12 x17 : AV) (H : AH) (K : KT) : zjoZ x2 x3 x4 x12 x17 H K=zznZ x2 x3 x4 x12 x17 H K:=(jn_eq _ _ _ _ _).trans (by kernel_rfl)
def image_Apply (a0 a1 : AV) (H : AH) (K : KT) : Prop :=
bH (anew H a0) λv0 H1=>
bH (anew H1 a1) λv2 H3=>
bH (anew H3 (.agg [nilSl,nilSl])) λv4 H5=>
bO (ald true 2 H5 v0) λv6=>
bC (BCall Tryz.prog 61 [v6] H5) λv7 H8=>
bS (ast 2 H8 v0 v7) λH9=>
bO (ald true 2 H9 v0) λv10=>
bP (PCall Tryz.prog 90 [v10] H9) λv11=>
bO (aun .not v11) λv12=>
bB v12 λt13=>bI t13 (
bO (ald true 2 H9 v0) λv14=>
bS (ast 2 H9 v4 v14) λH15=>
bO (ald true 2 H15 v4) λv16=>
K v16 H15)
 (bO (zhZ 0 v2) λv17=>
bO (ald false 1 H9 v17) λv18=>
bO (abI .eql v18 (I 1)) λv19=>
bB v19 λt20=>bI t20 (
bO (ald true 8 H9 v2) λv21=>
bC (BCall Tryz.prog 112 [v0,v21] H9) λv22 H23=>
zhbZ v0 v4 H23 K)
 (bO (abI .eql v18 (I 2)) λv24=>
bB v24 λt25=>bI t25 (
zjoZ v0 v2 v4 v18 v24 H9 K)
 (bO (abI .eql v18 (I 3)) λv26=>
bB v26 λt27=>bI t27 (
zjoZ v0 v2 v4 v18 v26 H9 K)
 (bO (abI .eql v18 (I 4)) λv28=>
bB v28 λt29=>bI t29 (
zjoZ v0 v2 v4 v18 v28 H9 K)
 (bO (abI .eql v18 (I 5)) λv30=>
zjoZ v0 v2 v4 v18 v30 H9 K)))))
theorem image_Apply_ok {a0 a1 : AV} {H : AH} {K : KT} (h : image_Apply a0 a1 H K) : OKP 60 [a0,a1] H K :=
 fok nofl pqb zbemZ Tryz.func60 (by kernel_rfl) (by kernel_rfl) h
def zqtZ : zbcqZ:=flOf [(7,[(1,some 11),(5,some 11),(6,some 11)])]
def zrkZ : Nat→Option (List Bool):=kpOf [(22,mk 171 0 [2,3,4,5,8]),(20,mk 171 0 [2,3,4,5,8]),(5,mk 171 0 [4,5]),(12,mk 171 0 [3,4,5,6])]
def zcyZ (p : List Bool) (n : Nat) : List AV→AH→Kf→Prop:=sCode Tryz.prog zqtZ pqb none0 none0 zrkZ (sub p (zhyZ Tryz.f139)) n
def zbbZ (x4 x5 : AV) (H : AH) (K : KT) : Prop:=jn (mk 171 0 [4,5]) (zcyZ [tT,tT,tT,tT] 29) [x4,x5] H (kRet Tryz.prog Tryz.f139.results.toList K)
def zixZ (x3 x4 x5 x6 : AV) (H : AH) (K : KT) : Prop:=lp (mk 171 0 [3,4,5,6]) (zcyZ [tT,tT,tT,fF,tT,fF,tT,fF,tT,fF,tT,tT,fF,fF,fF] 13) [x3,x4,x5,x6] H (kBlk 1 (kSeq (zcyZ [tT,tT,tT,fF,tT,fF,tT,fF,tT,fF,tT,tT,tT] 15) (kBlk 0 (kSeq (cutC (mk 171 0 [4,5]) (zcyZ [tT,tT,tT,tT] 29)) (kRet Tryz.prog Tryz.f139.results.toList K)))))
def zprZ (x2 x3 x4 x5 x8 : AV) (H : AH) (K : KT) : Prop:=jn (mk 171 0 [2,3,4,5,8]) (zcyZ [tT,tT,tT,fF,tT,fF,tT,tT,tT,fF,tT,tT,fF,tT,tT] 23) [x2,x3,x4,x5,x8] H (kBlk 0 (kSeq (cutC (mk 171 0 [4,5]) (zcyZ [tT,tT,tT,tT] 29)) (kRet Tryz.prog Tryz.f139.results.toList K)))
def zgaZ (x2 x3 x4 x5 x8 : AV) (H : AH) (K : KT) : Prop:=jn (mk 171 0 [2,3,4,5,8]) (zcyZ [tT,tT,tT,fF,tT,fF,tT,tT,tT,fF,tT,tT,fF,tT] 22) [x2,x3,x4,x5,x8] H (kBlk 0 (kSeq (cutC (mk 171 0 [4,5]) (zcyZ [tT,tT,tT,tT] 29)) (kRet Tryz.prog Tryz.f139.results.toList K)))
def zhzZ (x4 x5 : AV) (H : AH) (K : KT) : Prop :=
bO (ald true 2 H x5) λv0=>
bS (ast 2 H x4 v0) λH1=>
bO (ald true 2 H1 x4) λv2=>
K v2 H1
theorem zmqZ (x4 x5 : AV) (H : AH) (K : KT) : zbbZ x4 x5 H K=zhzZ x4 x5 H K:=(jn_eq _ _ _ _ _).trans (by kernel_rfl)
def znqZ (R12 : RT) (x3 x4 x5 x6 : AV) (H : AH) (K : KT) : Prop :=
bO (zhZ 1 x5) λv0=>
bO (ald false 1 H v0) λv1=>
bO (alnS v1) λv2=>
bO (abI .lss x6 v2) λv3=>
bG v3 true λw4=>
gO w4 (zhZ 1 x5) λv5=>
bG v3 true λw6=>
gO w6 (ald false 1 H v5) λv7=>
bG v3 true λw8=>
gO w8 (some x6) λv9=>
bG v3 true λw10=>
gO w10 (aixS 3 v7 v9) λv11=>
bG v3 true λw12=>
gO w12 (zhZ 0 v11) λv13=>
bG v3 true λw14=>
gO w14 (ald false 1 H v13) λv15=>
bG v3 true λw16=>
gO w16 (zhZ 1 x3) λv17=>
bG v3 true λw18=>
gO w18 (ald false 1 H v17) λv19=>
bG v3 true λw20=>
gO w20 (abI .lss v15 v19) λv21=>
bO (apick v3 v21 (B false)) λv22=>
bB v22 λt23=>bI t23 (
bO (abI .add x6 (I 1)) λv24=>
R12 [x3,x4,x5,v24] H)
 (bO (zhZ 1 x5) λv25=>
bO (ald false 1 H v25) λv26=>
bO (aslS 3 v26 none (some x6) none) λv27=>
bH (aap 3 40 H nilSl v27) λv28 H29=>
bO (zhZ 1 x3) λv30=>
bO (ald false 1 H29 v30) λv31=>
bO (abl [(I 0),(I 0),nilSl] [(0,1,v31)]) λv32=>
bH (absl H29 3 1 (zrow [(I 0),(I 0),nilSl] 1) [(0,3,v32)]) λv33 H34=>
bH (aap 3 40 H34 v28 v33) λv35 H36=>
bO (zhZ 1 x5) λv37=>
bO (ald false 1 H36 v37) λv38=>
bO (aslS 3 v38 (some x6) none none) λv39=>
bH (aap 3 40 H36 v35 v39) λv40 H41=>
bO (zhZ 1 x5) λv42=>
bS (ast 1 H41 v42 v40) λH43=>
zbbZ x4 x5 H43 K)
theorem zsoZ {K : KT} : RL4 (λR x3 x4 x5 x6 H=>znqZ R x3 x4 x5 x6 H K) (λx3 x4 x5 x6 H=>zixZ x3 x4 x5 x6 H K):=lpr4 (zvZ _ _) (λ_ _ _ _ _ _=>by kernel_rfl)
def zndZ (x2 x3 x4 x5 x8 : AV) (H : AH) (K : KT) : Prop :=
bO (zhZ 6 x3) λv0=>
bO (ald false 1 H v0) λv1=>
bO (zhZ 0 x2) λv2=>
bO (ald false 1 H v2) λv3=>
bO (aixS 2 v3 x8) λv4=>
bO (zhZ 1 v4) λv5=>
bO (ald false 1 H v5) λv6=>
bC (BCall Tryz.prog 175 [x5,v1,v6] H) λv7 H8=>
zbbZ x4 x5 H8 K
theorem zwsZ (x2 x3 x4 x5 x8 : AV) (H : AH) (K : KT) : zprZ x2 x3 x4 x5 x8 H K=zndZ x2 x3 x4 x5 x8 H K:=(jn_eq _ _ _ _ _).trans (by kernel_rfl)
def zmyZ (x2 x3 x4 x5 x8 : AV) (H : AH) (K : KT) : Prop :=
bO (zhZ 5 x3) λv0=>
bO (ald false 1 H v0) λv1=>
bC (BCall Tryz.prog 176 [x5,v1,(B false)] H) λv2 H3=>
zprZ x2 x3 x4 x5 x8 H3 K
theorem zwpZ (x2 x3 x4 x5 x8 : AV) (H : AH) (K : KT) : zgaZ x2 x3 x4 x5 x8 H K=zmyZ x2 x3 x4 x5 x8 H K:=(jn_eq _ _ _ _ _).trans (by kernel_rfl)
def zxlZ (a0 a1 : AV) (H : AH) (K : KT) : Prop :=
bH (anew H a0) λv0 H1=>
bH (anew H1 a1) λv2 H3=>
bH (anew H3 (.agg [nilSl,nilSl])) λv4 H5=>
bO (ald true 2 H5 v0) λv6=>
bC (BCall Tryz.prog 140 [v6] H5) λv7 H8=>
bH (anew H8 (.agg [nilSl,nilSl])) λv9 H10=>
bS (ast 2 H10 v9 v7) λH11=>
bO (ald true 2 H11 v0) λv12=>
bP (PCall Tryz.prog 157 [v12] H11) λv13=>
bO (aun .not v13) λv14=>
bB v14 λt15=>bI t15 (
bO (ald true 2 H11 v9) λv16=>
bS (ast 2 H11 v4 v16) λH17=>
bO (ald true 2 H17 v4) λv18=>
K v18 H17)
 (bO (zhZ 0 v2) λv19=>
bO (ald false 1 H11 v19) λv20=>
bO (abI .eql v20 (I 1)) λv21=>
bB v21 λt22=>bI t22 (
bO (zhZ 5 v2) λv23=>
bO (ald false 1 H11 v23) λv24=>
bP (PCall Tryz.prog 98 [v24] H11) λv25=>
bG v25 true λw26=>
gO w26 (ald true 2 H11 v0) λv27=>
bG v25 true λw28=>
gO w28 (zhZ 5 v2) λv29=>
bG v25 true λw30=>
gO w30 (ald false 1 H11 v29) λv31=>
bG v25 true λw32=>
gP w32 (PCall Tryz.prog 137 [v27,v31] H11) λv33=>
bG v25 true λw34=>
gO w34 (abI .lss v33 (I 0)) λv35=>
bO (apick v25 v35 (B false)) λv36=>
bG v36 true λw37=>
gO w37 (zhZ 1 v2) λv38=>
bG v36 true λw39=>
gO w39 (ald false 1 H11 v38) λv40=>
bG v36 true λw41=>
gO w41 (abI .geq v40 (I 1)) λv42=>
bO (apick v36 v42 (B false)) λv43=>
bG v43 true λw44=>
gO w44 (zhZ 1 v2) λv45=>
bG v43 true λw46=>
gO w46 (ald false 1 H11 v45) λv47=>
bG v43 true λw48=>
gO w48 (abI .leq v47 (I 4611686018427387904)) λv49=>
bO (apick v43 v49 (B false)) λv50=>
bG v50 true λw51=>
gO w51 (ald true 2 H11 v0) λv52=>
bG v50 true λw53=>
gO w53 (zhZ 1 v2) λv54=>
bG v50 true λw55=>
gO w55 (ald false 1 H11 v54) λv56=>
bG v50 true λw57=>
gP w57 (PCall Tryz.prog 174 [v52,v56] H11) λv58=>
bG v50 true λw59=>
gO w59 (abI .lss v58 (I 0)) λv60=>
bO (apick v50 v60 (B false)) λv61=>
bG v61 true λw62=>
gO w62 (zhZ 0 v0) λv63=>
bG v61 true λw64=>
gO w64 (ald false 1 H11 v63) λv65=>
bG v61 true λw66=>
gO w66 (alnS v65) λv67=>
bG v61 true λw68=>
gO w68 (abI .lss v67 (I 16)) λv69=>
bO (apick v61 v69 (B false)) λv70=>
bB v70 λt71=>bI t71 (
bO (zhZ 5 v2) λv72=>
bO (ald false 1 H11 v72) λv73=>
bO (zhZ 1 v2) λv74=>
bO (ald false 1 H11 v74) λv75=>
bC (BCall Tryz.prog 175 [v9,v73,v75] H11) λv76 H77=>
zixZ v2 v4 v9 (I 0) H77 K)
 (zbbZ v4 v9 H11 K))
 (bO (abI .eql v20 (I 6)) λv78=>
bB v78 λt79=>bI t79 (
bO (ald true 2 H11 v0) λv80=>
bO (zhZ 5 v2) λv81=>
bO (ald false 1 H11 v81) λv82=>
bP (PCall Tryz.prog 137 [v80,v82] H11) λv83=>
bO (abI .geq v83 (I 0)) λv84=>
bG v84 true λw85=>
gO w85 (zhZ 6 v2) λv86=>
bG v84 true λw87=>
gO w87 (ald false 1 H11 v86) λv88=>
bG v84 true λw89=>
gP w89 (PCall Tryz.prog 98 [v88] H11) λv90=>
bO (apick v84 v90 (B false)) λv91=>
bG v91 true λw92=>
gO w92 (zhZ 6 v2) λv93=>
bG v91 true λw94=>
gO w94 (ald false 1 H11 v93) λv95=>
bG v91 true λw96=>
gO w96 (zhZ 5 v2) λv97=>
bG v91 true λw98=>
gO w98 (ald false 1 H11 v97) λv99=>
bG v91 true λw100=>
gO w100 (abT .neq v95 v99) λv101=>
bO (apick v91 v101 (B false)) λv102=>
bB v102 λt103=>bI t103 (
bO (ald true 2 H11 v9) λv104=>
bO (zhZ 6 v2) λv105=>
bO (ald false 1 H11 v105) λv106=>
bP (PCall Tryz.prog 137 [v104,v106] H11) λv107=>
bO (abI .geq v107 (I 0)) λv108=>
bB v108 λt109=>bI t109 (
bO (zhZ 6 v2) λv110=>
bO (ald false 1 H11 v110) λv111=>
bC (BCall Tryz.prog 176 [v9,v111,(B true)] H11) λv112 H113=>
zgaZ v0 v2 v4 v9 v83 H113 K)
 (zgaZ v0 v2 v4 v9 v83 H11 K))
 (zbbZ v4 v9 H11 K))
 (bO (abI .eql v20 (I 7)) λv114=>
bB v114 λt115=>bI t115 (
bO (ald true 2 H11 v0) λv116=>
bO (zhZ 5 v2) λv117=>
bO (ald false 1 H11 v117) λv118=>
bP (PCall Tryz.prog 137 [v116,v118] H11) λv119=>
bO (abI .geq v119 (I 0)) λv120=>
bB v120 λt121=>bI t121 (
bO (zhZ 5 v2) λv122=>
bO (ald false 1 H11 v122) λv123=>
bC (BCall Tryz.prog 176 [v9,v123,(B true)] H11) λv124 H125=>
zbbZ v4 v9 H125 K)
 (zbbZ v4 v9 H11 K))
 (bO (ald true 2 H11 v0) λv126=>
bO (zhZ 1 v2) λv127=>
bO (ald false 1 H11 v127) λv128=>
bP (PCall Tryz.prog 174 [v126,v128] H11) λv129=>
bO (abI .geq v129 (I 0)) λv130=>
bB v130 λt131=>bI t131 (
bO (zhZ 1 v0) λv132=>
bO (ald false 1 H11 v132) λv133=>
bO (aixS 3 v133 v129) λv134=>
bO (zhZ 1 v134) λv135=>
bO (ald true 2 H11 v135) λv136=>
bO (ald true 8 H11 v2) λv137=>
bP (BPure Tryz.prog 177 [v136,v137]) λv138=>
bO (zjZ v138 0) λv139=>
bO (zjZ v138 1) λv140=>
bH (anew H11 (.agg [(I 0),nilSl])) λv141 H142=>
bS (ast 2 H142 v141 v139) λH143=>
(ald false 1 H142 v132=some v133) ∧
(ald true 2 H142 v135=some v136) ∧
(ald true 8 H142 v2=some v137) ∧
bB v140 λt144=>bI t144 (
bO (zhZ 1 v9) λv145=>
bO (ald false 1 H143 v145) λv146=>
bO (ald true 2 H143 v141) λv147=>
bO (aixS 3 v146 v129) λv148=>
bO (zhZ 1 v148) λv149=>
bS (ast 2 H143 v149 v147) λH150=>
zbbZ v4 v9 H150 K)
 (zbbZ v4 v9 H143 K))
 (zbbZ v4 v9 H11 K)))))
theorem zbckZ {a0 a1 : AV} {H : AH} {K : KT} (h : zxlZ a0 a1 H K) : OKP 139 [a0,a1] H K :=
 fok zqtZ pqb zrkZ Tryz.func139 (by kernel_rfl) (by kernel_rfl) h
def image_May_kp : Nat→Option (List Bool):=kpOf [(8,mk 51 0 [3,5,25,26,27])]
def image_May_c (p : List Bool) (n : Nat) : List AV→AH→Kf→Prop:=sCode Tryz.prog nofl pqb none0 none0 image_May_kp (sub p (zhyZ Tryz.f90)) n
def image_May_L8 (x3 x5 x25 x26 x27 : AV) (H : AH) (K : KT) : Prop:=lp (mk 51 0 [3,5,25,26,27]) (image_May_c [tT,tT,tT,tT,fF,tT,fF,fF] 9) [x3,x5,x25,x26,x27] H (kBlk 0 (kSeq (image_May_c [tT,tT,tT,tT,tT] 16) (kRet Tryz.prog Tryz.f90.results.toList K)))
def zbeaZ (R8 : RT) (x3 x5 x25 x26 x27 : AV) (H : AH) (K : KT) : Prop :=
bO (abI .lss x27 x26) λv0=>
bB v0 λt1=>bI t1 (
bO (aixS 3 x25 x27) λv2=>
bO (ald true 3 H v2) λv3=>
bH (anew H (.agg [(I 0),(I 0),nilSl])) λv4 H5=>
bS (ast 3 H5 v4 v3) λH6=>
bO (zhZ 0 v4) λv7=>
bO (ald false 1 H6 v7) λv8=>
bO (abI .leq v8 x5) λv9=>
bG v9 false λw10=>
gO w10 (some x3) λv11=>
bG v9 false λw12=>
gO w12 (zhZ 0 v4) λv13=>
bG v9 false λw14=>
gO w14 (ald false 1 H6 v13) λv15=>
bG v9 false λw16=>
gO w16 (alk (.int .i64) (.bool false) H6 v11 v15 false) λv17=>
bG v9 false λw18=>
gO w18 (aun .not v17) λv19=>
bO (apick v9 (B true) v19) λv20=>
bG v20 false λw21=>
gO w21 (zhZ 1 v4) λv22=>
bG v20 false λw23=>
gO w23 (ald true 2 H6 v22) λv24=>
bG v20 false λw25=>
gP w25 (PCall Tryz.prog 93 [v24] H6) λv26=>
bG v20 false λw27=>
gO w27 (aun .not v26) λv28=>
bO (apick v20 (B true) v28) λv29=>
bB v29 λt30=>bI t30 (
K (B false) H6)
 (bO (zhZ 0 v4) λv31=>
bO (ald false 1 H6 v31) λv32=>
bO (abI .add x27 (I 1)) λv33=>
R8 [x3,v32,x25,x26,v33] H6))
 (K (B true) H)
theorem image_May_L8_rule {K : KT} : RL5 (λR x3 x5 x25 x26 x27 H=>zbeaZ R x3 x5 x25 x26 x27 H K) (λx3 x5 x25 x26 x27 H=>image_May_L8 x3 x5 x25 x26 x27 H K):=lpr5 (zvZ _ _) (λ_ _ _ _ _ _ _=>by kernel_rfl)
def image_May (a0 : AV) (H : AH) (K : KT) : Prop :=
bH (anew H a0) λv0 H1=>
bO (zhZ 0 v0) λv2=>
bO (ald false 1 H1 v2) λv3=>
bC (BCall Tryz.prog 146 [v3] H1) λv4 H5=>
bO (zjZ v4 0) λv6=>
bO (zjZ v4 1) λv7=>
bO (aun .not v7) λv8=>
bG v8 false λw9=>
gO w9 (zhZ 1 v0) λv10=>
bG v8 false λw11=>
gO w11 (ald false 1 H5 v10) λv12=>
bG v8 false λw13=>
gO w13 (alnS v12) λv14=>
bG v8 false λw15=>
gO w15 (some v6) λv16=>
bG v8 false λw17=>
gO w17 (alnM H5 v16) λv18=>
bG v8 false λw19=>
gO w19 (abI .neq v14 v18) λv20=>
bO (apick v8 (B true) v20) λv21=>
bB v21 λt22=>bI t22 (
K (B false) H5)
 (bO (zhZ 1 v0) λv23=>
bO (ald false 1 H5 v23) λv24=>
bO (alnS v24) λv25=>
image_May_L8 v6 (I 0) v24 v25 (I 0) H5 K)
theorem image_May_ok {a0 : AV} {H : AH} {K : KT} (h : image_May a0 H K) : OKP 90 [a0] H K :=
 fok nofl pqb image_May_kp Tryz.func90 (by kernel_rfl) (by kernel_rfl) h
def zzvZ (a0 a1 : AV) (H : AH) (K : KT) : Prop :=
bH (anew H a0) λv0 H1=>
bO (ald true 2 H1 v0) λv2=>
bP (PCall Tryz.prog 137 [v2,a1] H1) λv3=>
bO (ald true 2 H1 v0) λv4=>
bP (PCall Tryz.prog 157 [v4] H1) λv5=>
bO (aun .not v5) λv6=>
bG v6 false λw7=>
gO w7 (some v3) λv8=>
bG v6 false λw9=>
gO w9 (abI .lss v8 (I 0)) λv10=>
bO (apick v6 (B true) v10) λv11=>
bB v11 λt12=>bI t12 (
K (.tup [(I 0),(B false)]) H1)
 (bO (zhZ 0 v0) λv13=>
bO (ald false 1 H1 v13) λv14=>
bO (aixS 2 v14 v3) λv15=>
bO (zhZ 1 v15) λv16=>
bO (ald false 1 H1 v16) λv17=>
K (.tup [v17,(B true)]) H1)
theorem zbdnZ {a0 a1 : AV} {H : AH} {K : KT} (h : zzvZ a0 a1 H K) : OKP 99 [a0,a1] H K :=
 fok nofl pqb nokp Tryz.func99 (by kernel_rfl) (by kernel_rfl) h
def zuaZ (a0 a1 : AV) (H : AH) (K : KT) : Prop :=
bH (anew H a0) λv0 H1=>
bH (anew H1 (.agg [(I 0),nilSl])) λv2 H3=>
bO (ald true 2 H3 v0) λv4=>
bP (PCall Tryz.prog 174 [v4,a1] H3) λv5=>
bO (ald true 2 H3 v0) λv6=>
bP (PCall Tryz.prog 157 [v6] H3) λv7=>
bO (aun .not v7) λv8=>
bG v8 false λw9=>
gO w9 (some v5) λv10=>
bG v8 false λw11=>
gO w11 (abI .lss v10 (I 0)) λv12=>
bO (apick v8 (B true) v12) λv13=>
bB v13 λt14=>bI t14 (
bO (abl [(I 0),nilSl] []) λv15=>
bS (ast 2 H3 v2 v15) λH16=>
bO (ald true 2 H16 v2) λv17=>
K (.tup [v17,(B false)]) H16)
 (bO (zhZ 1 v0) λv18=>
bO (ald false 1 H3 v18) λv19=>
bO (aixS 3 v19 v5) λv20=>
bO (zhZ 1 v20) λv21=>
bO (ald true 2 H3 v21) λv22=>
bP (PCall Tryz.prog 171 [v22] H3) λv23=>
bS (ast 2 H3 v2 v23) λH24=>
bO (ald true 2 H24 v2) λv25=>
K (.tup [v25,(B true)]) H24)
theorem zvmZ {a0 a1 : AV} {H : AH} {K : KT} (h : zuaZ a0 a1 H K) : OKP 132 [a0,a1] H K :=
 fok nofl pqb nokp Tryz.func132 (by kernel_rfl) (by kernel_rfl) h
def zonZ : Nat→Option (List Bool):=kpOf [(3,mk 52 0 [0,3])]
def zoyZ (p : List Bool) (n : Nat) : List AV→AH→Kf→Prop:=sCode Tryz.prog nofl pqb none0 none0 zonZ (sub p (zhyZ Tryz.f98)) n
def zodZ (x0 x3 : AV) (H : AH) (K : KT) : Prop:=lp (mk 52 0 [0,3]) (zoyZ [tT,fF,tT,fF,fF] 4) [x0,x3] H (kBlk 0 (kSeq (zoyZ [tT,tT] 10) (kRet Tryz.prog Tryz.f98.results.toList K)))
def zlmZ (R3 : RT) (x0 x3 : AV) (H : AH) (K : KT) : Prop :=
bO (alnT x0) λv0=>
bO (abI .lss x3 v0) λv1=>
bB v1 λt2=>bI t2 (
bO (aivT x0 x3) λv3=>
bO (abI .lss v3 (.lit (.int .u8 97))) λv4=>
bG v4 false λw5=>
gO w5 (some v3) λv6=>
bG v4 false λw7=>
gO w7 (abI .gtr v6 (.lit (.int .u8 122))) λv8=>
bO (apick v4 (B true) v8) λv9=>
bG v9 true λw10=>
gO w10 (some v3) λv11=>
bG v9 true λw12=>
gO w12 (abI .lss v11 (.lit (.int .u8 48))) λv13=>
bG v9 true λw14=>
gO w14 (some v13) λv15=>
bG v15 false λw16=>
gO w16 (some v3) λv17=>
bG v15 false λw18=>
gO w18 (abI .gtr v17 (.lit (.int .u8 57))) λv19=>
bG v9 true λw20=>
gO w20 (apick v15 (B true) v19) λv21=>
bO (apick v9 v21 (B false)) λv22=>
bG v22 true λw23=>
gO w23 (some v3) λv24=>
bG v22 true λw25=>
gO w25 (abI .neq v24 (.lit (.int .u8 46))) λv26=>
bO (apick v22 v26 (B false)) λv27=>
bG v27 true λw28=>
gO w28 (some v3) λv29=>
bG v27 true λw30=>
gO w30 (abI .neq v29 (.lit (.int .u8 95))) λv31=>
bO (apick v27 v31 (B false)) λv32=>
bG v32 true λw33=>
gO w33 (some v3) λv34=>
bG v32 true λw35=>
gO w35 (abI .neq v34 (.lit (.int .u8 45))) λv36=>
bG v32 true λw37=>
gO w37 (some v36) λv38=>
bG v38 false λw39=>
gO w39 (some x3) λv40=>
bG v38 false λw41=>
gO w41 (abI .eql v40 (I 0)) λv42=>
bG v32 true λw43=>
gO w43 (apick v38 (B true) v42) λv44=>
bO (apick v32 v44 (B false)) λv45=>
bB v45 λt46=>bI t46 (
K (B false) H)
 (bO (abI .add x3 (I 1)) λv47=>
R3 [x0,v47] H))
 (bO (alnT x0) λv48=>
bO (abI .geq v48 (I 1)) λv49=>
bG v49 true λw50=>
gO w50 (some x0) λv51=>
bG v49 true λw52=>
gO w52 (alnT v51) λv53=>
bG v49 true λw54=>
gO w54 (abI .leq v53 (I 20)) λv55=>
bO (apick v49 v55 (B false)) λv56=>
K v56 H)
theorem zsiZ {K : KT} : RL2 (λR x0 x3 H=>zlmZ R x0 x3 H K) (λx0 x3 H=>zodZ x0 x3 H K):=lpr2 (zvZ _ _) (λ_ _ _ _=>by kernel_rfl)
def ztnZ (a0 : AV) (H : AH) (K : KT) : Prop :=
zodZ a0 (I 0) H K
theorem zywZ {a0 : AV} {H : AH} {K : KT} (h : ztnZ a0 H K) : OKP 98 [a0] H K :=
 fok nofl pqb zonZ Tryz.func98 (by kernel_rfl) (by kernel_rfl) h
def znlZ : Nat→Option (List Bool):=kpOf [(16,mk 110 0 [1,3,4,5]),(6,mk 110 0 [1,3])]
def zddZ (p : List Bool) (n : Nat) : List AV→AH→Kf→Prop:=sCode Tryz.prog nofl pqb none0 none0 znlZ (sub p (zhyZ Tryz.f157)) n
def zlsZ (R6 : RT) (x1 x3 x4 x5 : AV) (H : AH) (K : KT) : Prop:=lp (mk 110 0 [1,3,4,5]) (zddZ [tT,tT,fF,tT,fF,fF,tT,fF,fF,tT,tT,fF,tT,fF,fF] 17) [x1,x3,x4,x5] H (kBlk 2 (kSeq (zddZ [tT,tT,fF,tT,fF,fF,tT,fF,fF,tT,tT,tT] 22) (kBlk 1 (kSeq (zddZ [tT,tT,fF,tT,fF,fF,tT,tT] 24) (kLp (mk 110 0 [1,3]) R6 (kBlk 0 (kSeq (zddZ [tT,tT,tT] 24) (kRet Tryz.prog Tryz.f157.results.toList K))))))))
def znmZ (x1 x3 : AV) (H : AH) (K : KT) : Prop:=lp (mk 110 0 [1,3]) (zddZ [tT,tT,fF,tT,fF,fF] 7) [x1,x3] H (kBlk 0 (kSeq (zddZ [tT,tT,tT] 24) (kRet Tryz.prog Tryz.f157.results.toList K)))
def zfnZ (R6 : RT) (R16 : RT) (x1 x3 x4 x5 : AV) (H : AH) (K : KT) : Prop :=
bO (abI .lss x5 x3) λv0=>
bB v0 λt1=>bI t1 (
bO (zhZ 0 x1) λv2=>
bO (ald false 1 H v2) λv3=>
bO (aixS 2 v3 x5) λv4=>
bO (zhZ 1 v4) λv5=>
bO (ald false 1 H v5) λv6=>
bO (zhZ 1 x4) λv7=>
bO (ald false 1 H v7) λv8=>
bO (abI .eql v6 v8) λv9=>
bB v9 λt10=>bI t10 (
K (B false) H)
 (bO (abI .add x5 (I 1)) λv11=>
R16 [x1,x3,x4,v11] H))
 (bO (abI .gtr x3 (I 0)) λv12=>
bG v12 true λw13=>
gO w13 (zhZ 1 x1) λv14=>
bG v12 true λw15=>
gO w15 (ald false 1 H v14) λv16=>
bG v12 true λw17=>
gO w17 (some x3) λv18=>
bG v12 true λw19=>
gO w19 (abI .sub v18 (I 1)) λv20=>
bG v12 true λw21=>
gO w21 (aixS 3 v16 v20) λv22=>
bG v12 true λw23=>
gO w23 (zhZ 0 v22) λv24=>
bG v12 true λw25=>
gO w25 (ald false 1 H v24) λv26=>
bG v12 true λw27=>
gO w27 (zhZ 1 x1) λv28=>
bG v12 true λw29=>
gO w29 (ald false 1 H v28) λv30=>
bG v12 true λw31=>
gO w31 (some x3) λv32=>
bG v12 true λw33=>
gO w33 (aixS 3 v30 v32) λv34=>
bG v12 true λw35=>
gO w35 (zhZ 0 v34) λv36=>
bG v12 true λw37=>
gO w37 (ald false 1 H v36) λv38=>
bG v12 true λw39=>
gO w39 (abI .geq v26 v38) λv40=>
bO (apick v12 v40 (B false)) λv41=>
bG v41 false λw42=>
gO w42 (zhZ 1 x1) λv43=>
bG v41 false λw44=>
gO w44 (ald false 1 H v43) λv45=>
bG v41 false λw46=>
gO w46 (some x3) λv47=>
bG v41 false λw48=>
gO w48 (aixS 3 v45 v47) λv49=>
bG v41 false λw50=>
gO w50 (zhZ 1 v49) λv51=>
bG v41 false λw52=>
gO w52 (ald true 2 H v51) λv53=>
bG v41 false λw54=>
gP w54 (BPure Tryz.prog 159 [v53]) λv55=>
bG v41 false λw56=>
gO w56 (aun .not v55) λv57=>
bO (apick v41 (B true) v57) λv58=>
bB v58 λt59=>bI t59 (
K (B false) H)
 (bO (abI .add x3 (I 1)) λv60=>
R6 [x1,v60] H))
theorem zhfZ (R6 : RT) {K : KT} : RL4 (λR x1 x3 x4 x5 H=>zfnZ R6 R x1 x3 x4 x5 H K) (λx1 x3 x4 x5 H=>zlsZ R6 x1 x3 x4 x5 H K):=lpr4 (zvZ _ _) (λ_ _ _ _ _ _=>by kernel_rfl)
def zkjZ (R6 : RT) (x1 x3 : AV) (H : AH) (K : KT) : Prop :=
bO (zhZ 0 x1) λv0=>
bO (ald false 1 H v0) λv1=>
bO (alnS v1) λv2=>
bO (abI .lss x3 v2) λv3=>
bB v3 λt4=>bI t4 (
bO (zhZ 0 x1) λv5=>
bO (ald false 1 H v5) λv6=>
bO (aixS 2 v6 x3) λv7=>
bO (ald true 2 H v7) λv8=>
bH (anew H (.agg [(.lit (.string ⟨#[]⟩)),(I 0)])) λv9 H10=>
bS (ast 2 H10 v9 v8) λH11=>
bO (zhZ 0 v9) λv12=>
bO (ald false 1 H11 v12) λv13=>
bP (BPure Tryz.prog 98 [v13]) λv14=>
bO (aun .not v14) λv15=>
bG v15 false λw16=>
gO w16 (zhZ 1 v9) λv17=>
bG v15 false λw18=>
gO w18 (ald false 1 H11 v17) λv19=>
bG v15 false λw20=>
gO w20 (abI .lss v19 (I 1)) λv21=>
bO (apick v15 (B true) v21) λv22=>
bG v22 false λw23=>
gO w23 (zhZ 1 v9) λv24=>
bG v22 false λw25=>
gO w25 (ald false 1 H11 v24) λv26=>
bG v22 false λw27=>
gO w27 (abI .gtr v26 (I 4611686018427387904)) λv28=>
bO (apick v22 (B true) v28) λv29=>
bG v29 false λw30=>
gO w30 (some x3) λv31=>
bG v29 false λw32=>
gO w32 (abI .gtr v31 (I 0)) λv33=>
bG v29 false λw34=>
gO w34 (some v33) λv35=>
bG v35 true λw36=>
gO w36 (zhZ 0 x1) λv37=>
bG v35 true λw38=>
gO w38 (ald false 1 H11 v37) λv39=>
bG v35 true λw40=>
gO w40 (some x3) λv41=>
bG v35 true λw42=>
gO w42 (abI .sub v41 (I 1)) λv43=>
bG v35 true λw44=>
gO w44 (aixS 2 v39 v43) λv45=>
bG v35 true λw46=>
gO w46 (zhZ 0 v45) λv47=>
bG v35 true λw48=>
gO w48 (ald false 1 H11 v47) λv49=>
bG v35 true λw50=>
gO w50 (zhZ 0 v9) λv51=>
bG v35 true λw52=>
gO w52 (ald false 1 H11 v51) λv53=>
bG v35 true λw54=>
gO w54 (abT .geq v49 v53) λv55=>
bG v29 false λw56=>
gO w56 (apick v35 v55 (B false)) λv57=>
bO (apick v29 (B true) v57) λv58=>
bG v58 false λw59=>
gO w59 (ald true 2 H11 x1) λv60=>
bG v58 false λw61=>
gO w61 (zhZ 1 v9) λv62=>
bG v58 false λw63=>
gO w63 (ald false 1 H11 v62) λv64=>
bG v58 false λw65=>
gP w65 (BPure Tryz.prog 174 [v60,v64]) λv66=>
bG v58 false λw67=>
gO w67 (abI .lss v66 (I 0)) λv68=>
bO (apick v58 (B true) v68) λv69=>
bB v69 λt70=>bI t70 (
K (B false) H11)
 (zlsZ R6 x1 x3 v9 (I 0) H11 K))
 (K (B true) H)
theorem zqkZ {K : KT} : RL2 (λR x1 x3 H=>zkjZ R x1 x3 H K) (λx1 x3 H=>znmZ x1 x3 H K):=lpr2 (zvZ _ _) (λ_ _ _ _=>by kernel_rfl)
def zquZ (a0 : AV) (H : AH) (K : KT) : Prop :=
bH (anew H a0) λv0 H1=>
bO (zhZ 0 v0) λv2=>
bO (ald false 1 H1 v2) λv3=>
bO (alnS v3) λv4=>
bO (abI .gtr v4 (I 16)) λv5=>
bG v5 false λw6=>
gO w6 (zhZ 0 v0) λv7=>
bG v5 false λw8=>
gO w8 (ald false 1 H1 v7) λv9=>
bG v5 false λw10=>
gO w10 (alnS v9) λv11=>
bG v5 false λw12=>
gO w12 (zhZ 1 v0) λv13=>
bG v5 false λw14=>
gO w14 (ald false 1 H1 v13) λv15=>
bG v5 false λw16=>
gO w16 (alnS v15) λv17=>
bG v5 false λw18=>
gO w18 (abI .neq v11 v17) λv19=>
bO (apick v5 (B true) v19) λv20=>
bB v20 λt21=>bI t21 (
K (B false) H1)
 (znmZ v0 (I 0) H1 K)
theorem zxmZ {a0 : AV} {H : AH} {K : KT} (h : zquZ a0 H K) : OKP 157 [a0] H K :=
 fok nofl pqb znlZ Tryz.func157 (by kernel_rfl) (by kernel_rfl) h
def zssZ : Nat→Option (List Bool):=kpOf [(4,mk 27 0 [1,3,4])]
def zvkZ (p : List Bool) (n : Nat) : List AV→AH→Kf→Prop:=sCode Tryz.prog nofl pqb none0 none0 zssZ (sub p (zhyZ Tryz.f164)) n
def zsqZ (x1 x3 x4 : AV) (H : AH) (K : KT) : Prop:=lp (mk 27 0 [1,3,4]) (zvkZ [tT,tT,fF,tT,fF,fF] 5) [x1,x3,x4] H (kBlk 0 (kSeq (zvkZ [tT,tT,tT] 8) (kRet Tryz.prog Tryz.f164.results.toList K)))
def zpvZ (R4 : RT) (x1 x3 x4 : AV) (H : AH) (K : KT) : Prop :=
bO (zhZ 1 x1) λv0=>
bO (ald false 1 H v0) λv1=>
bO (alnS v1) λv2=>
bO (abI .lss x4 v2) λv3=>
bG v3 true λw4=>
gO w4 (ald true 2 H x1) λv5=>
bG v3 true λw6=>
gP w6 (PCall Tryz.prog 157 [v5] H) λv7=>
bO (apick v3 v7 (B false)) λv8=>
bB v8 λt9=>bI t9 (
bO (zhZ 1 x1) λv10=>
bO (ald false 1 H v10) λv11=>
bO (aixS 3 v11 x4) λv12=>
bO (zhZ 1 v12) λv13=>
bO (zhZ 1 v13) λv14=>
bO (ald false 1 H v14) λv15=>
bO (alnS v15) λv16=>
bO (abI .add x3 v16) λv17=>
bO (abI .add x4 (I 1)) λv18=>
R4 [x1,v17,v18] H)
 (K x3 H)
theorem zwnZ {K : KT} : RL3 (λR x1 x3 x4 H=>zpvZ R x1 x3 x4 H K) (λx1 x3 x4 H=>zsqZ x1 x3 x4 H K):=lpr3 (zvZ _ _) (λ_ _ _ _ _=>by kernel_rfl)
def zzaZ (a0 : AV) (H : AH) (K : KT) : Prop :=
bH (anew H a0) λv0 H1=>
zsqZ v0 (I 0) (I 0) H1 K
theorem zbdsZ {a0 : AV} {H : AH} {K : KT} (h : zzaZ a0 H K) : OKP 164 [a0] H K :=
 fok nofl pqb zssZ Tryz.func164 (by kernel_rfl) (by kernel_rfl) h
def image_Copy_fl : zbcqZ:=flOf [(1,[(4,none)])]
def image_Copy_kp : Nat→Option (List Bool):=kpOf [(4,mk 31 0 [1,2,13,14])]
def image_Copy_c (p : List Bool) (n : Nat) : List AV→AH→Kf→Prop:=sCode Tryz.prog image_Copy_fl pqb none0 none0 image_Copy_kp (sub p (zhyZ Tryz.f61)) n
def image_Copy_L4 (x1 x2 x13 x14 : AV) (H : AH) (K : KT) : Prop:=lp (mk 31 0 [1,2,13,14]) (image_Copy_c [tT,tT,fF,tT,fF,fF] 5) [x1,x2,x13,x14] H (kBlk 0 (kSeq (image_Copy_c [tT,tT,tT] 9) (kRet Tryz.prog Tryz.f61.results.toList K)))
def zbbfZ (R4 : RT) (x1 x2 x13 x14 : AV) (H : AH) (K : KT) : Prop :=
bO (abI .lss x14 x13) λv0=>
bB v0 λt1=>bI t1 (
bO (zhZ 1 x1) λv2=>
bO (ald false 1 H v2) λv3=>
bO (zhZ 1 x1) λv4=>
bO (ald false 1 H v4) λv5=>
bO (aixS 3 v5 x14) λv6=>
bO (zhZ 1 v6) λv7=>
bO (ald true 2 H v7) λv8=>
bP (BPure Tryz.prog 92 [v8]) λv9=>
bO (aixS 3 v3 x14) λv10=>
bO (zhZ 1 v10) λv11=>
bS (ast 2 H v11 v9) λH12=>
bO (abI .add x14 (I 1)) λv13=>
R4 [x1,x2,x13,v13] H12)
 (bO (ald true 2 H x1) λv14=>
bS (ast 2 H x2 v14) λH15=>
bO (ald true 2 H15 x2) λv16=>
K v16 H15)
theorem image_Copy_L4_rule {K : KT} : RL4 (λR x1 x2 x13 x14 H=>zbbfZ R x1 x2 x13 x14 H K) (λx1 x2 x13 x14 H=>image_Copy_L4 x1 x2 x13 x14 H K):=lpr4 (zvZ _ _) (λ_ _ _ _ _ _=>by kernel_rfl)
def image_Copy (a0 : AV) (H : AH) (K : KT) : Prop :=
bH (anew H a0) λv0 H1=>
bH (anew H1 (.agg [nilSl,nilSl])) λv2 H3=>
bO (zhZ 0 v0) λv4=>
bO (ald false 1 H3 v4) λv5=>
bC (BCall Tryz.prog 116 [v5] H3) λv6 H7=>
bO (zhZ 1 v0) λv8=>
bO (ald false 1 H7 v8) λv9=>
bC (BCall Tryz.prog 117 [v9] H7) λv10 H11=>
bO (abl [nilSl,nilSl] [(0,1,v6),(1,1,v10)]) λv12=>
bS (ast 2 H11 v0 v12) λH13=>
(ald false 1 H3 v8=some v9) ∧
bO (zhZ 1 v0) λv14=>
bO (ald false 1 H13 v14) λv15=>
bO (alnS v15) λv16=>
image_Copy_L4 v0 v2 v16 (I 0) H13 K
theorem image_Copy_ok {a0 : AV} {H : AH} {K : KT} (h : image_Copy a0 H K) : OKP 61 [a0] H K :=
 fok image_Copy_fl pqb image_Copy_kp Tryz.func61 (by kernel_rfl) (by kernel_rfl) h
def image_named (a0 a1 : AV) (H : AH) (K : KT) : Prop :=
bH (anew H a0) λv0 H1=>
bO (zhZ 0 v0) λv2=>
bO (ald false 1 H1 v2) λv3=>
bP (PCall Tryz.prog 154 [v3,a1,(.fn (.func 155) [] [])] H1) λv4=>
bO (zjZ v4 0) λv5=>
bO (zjZ v4 1) λv6=>
K (.tup [v5,v6]) H1
theorem image_named_ok {a0 a1 : AV} {H : AH} {K : KT} (h : image_named a0 a1 H K) : OKP 97 [a0,a1] H K :=
 fok nofl pqb nokp Tryz.func97 (by kernel_rfl) (by kernel_rfl) h
def image_node (a0 a1 : AV) (H : AH) (K : KT) : Prop :=
bH (anew H a0) λv0 H1=>
bO (zhZ 1 v0) λv2=>
bO (ald false 1 H1 v2) λv3=>
bP (PCall Tryz.prog 147 [v3,a1,(.fn (.func 148) [] [])] H1) λv4=>
bO (zjZ v4 0) λv5=>
bO (zjZ v4 1) λv6=>
K (.tup [v5,v6]) H1
theorem image_node_ok {a0 a1 : AV} {H : AH} {K : KT} (h : image_node a0 a1 H K) : OKP 91 [a0,a1] H K :=
 fok nofl pqb nokp Tryz.func91 (by kernel_rfl) (by kernel_rfl) h
def image_may (a0 : AV) (H : AH) (K : KT) : Prop :=
bO (abI .geq a0 (.lit (.int .u8 97))) λv0=>
bG v0 true λw1=>
gO w1 (some a0) λv2=>
bG v0 true λw3=>
gO w3 (abI .leq v2 (.lit (.int .u8 122))) λv4=>
bO (apick v0 v4 (B false)) λv5=>
bG v5 false λw6=>
gO w6 (some a0) λv7=>
bG v5 false λw8=>
gO w8 (abI .geq v7 (.lit (.int .u8 48))) λv9=>
bG v5 false λw10=>
gO w10 (some v9) λv11=>
bG v11 true λw12=>
gO w12 (some a0) λv13=>
bG v11 true λw14=>
gO w14 (abI .leq v13 (.lit (.int .u8 57))) λv15=>
bG v5 false λw16=>
gO w16 (apick v11 v15 (B false)) λv17=>
bO (apick v5 (B true) v17) λv18=>
bG v18 false λw19=>
gO w19 (some a0) λv20=>
bG v18 false λw21=>
gO w21 (abI .eql v20 (.lit (.int .u8 46))) λv22=>
bO (apick v18 (B true) v22) λv23=>
bG v23 false λw24=>
gO w24 (some a0) λv25=>
bG v23 false λw26=>
gO w26 (abI .eql v25 (.lit (.int .u8 95))) λv27=>
bO (apick v23 (B true) v27) λv28=>
bG v28 false λw29=>
gO w29 (some a0) λv30=>
bG v28 false λw31=>
gO w31 (abI .eql v30 (.lit (.int .u8 45))) λv32=>
bO (apick v28 (B true) v32) λv33=>
K v33 H
theorem image_may_ok {a0 : AV} {H : AH} {K : KT} (h : image_may a0 H K) : OKP 123 [a0] H K :=
 fok nofl pqb nokp Tryz.func123 (by kernel_rfl) (by kernel_rfl) h
def zbcdZ : Nat→Option (List Bool):=kpOf [(100004,mk 82 0 [0,3,4,6]),(100005,mk 82 0 [0,3,6]),(5,mk 82 0 [0,3,6])]
def zbcgZ : Nat→Bool:=inL [4,5]
def zriZ (p : List Bool) (n : Nat) : List AV→AH→Kf→Prop:=sCode Tryz.prog nofl pqb pqba zbcgZ zbcdZ (sub p (zhyZ Tryz.f112)) n
def zunZ (x0 x3 x6 : AV) (H : AH) (K : KT) : Prop:=unR Tryz.prog 5 (opsOf (sub [tT,tT,tT,tT,tT] (zhyZ Tryz.f112))) (zzyZ (mk 82 0 [0,3,6]) [x0,x3,x6]) H (kRet Tryz.prog Tryz.f112.results.toList K)
def zucZ (x0 x3 x6 : AV) (H : AH) (K : KT) : Prop:=jn (mk 82 0 [0,3,6]) (zriZ [tT,tT,tT,tT,tT] 6) [x0,x3,x6] H (kRet Tryz.prog Tryz.f112.results.toList K)
def zowZ (x0 x3 x4 x6 : AV) (H : AH) (K : KT) : Prop:=unR Tryz.prog 4 (opsOf (sub [tT,tT,tT,tT,fF] (zhyZ Tryz.f112))) (zzyZ (mk 82 0 [0,3,4,6]) [x0,x3,x4,x6]) H (kSeq (cutC (mk 82 0 [0,3,6]) (zriZ [tT,tT,tT,tT,tT] 6)) (kRet Tryz.prog Tryz.f112.results.toList K))
def zxcZ (x0 x3 x6 : AV) (H : AH) (K : KT) : Prop :=
zunZ x0 x3 x6 H K
theorem image_create_J5_eq (x0 x3 x6 : AV) (H : AH) (K : KT) : zucZ x0 x3 x6 H K=zxcZ x0 x3 x6 H K:=(jn_eq _ _ _ _ _).trans (by kernel_rfl)
def zysZ (a0 a1 : AV) (H : AH) (K : KT) : Prop :=
bH (anew H a1) λv0 H1=>
bO (zgZ a0) λv2=>
bO (ald true 2 H1 v2) λv3=>
bO (zhZ 5 v0) λv4=>
bO (ald false 1 H1 v4) λv5=>
bC (BCall Tryz.prog 97 [v3,v5] H1) λv6 H7=>
bO (zjZ v6 0) λv8=>
bO (zjZ v6 1) λv9=>
bO (zgZ a0) λv10=>
bO (ald true 2 H7 v10) λv11=>
bO (zhZ 1 v0) λv12=>
bO (ald false 1 H7 v12) λv13=>
bC (BCall Tryz.prog 91 [v11,v13] H7) λv14 H15=>
bO (zjZ v14 0) λv16=>
bO (zjZ v14 1) λv17=>
bG v9 false λw18=>
gO w18 (some v17) λv19=>
bO (apick v9 (B true) v19) λv20=>
bG v20 false λw21=>
gO w21 (zhZ 5 v0) λv22=>
bG v20 false λw23=>
gO w23 (ald false 1 H15 v22) λv24=>
bG v20 false λw25=>
gP w25 (PCall Tryz.prog 70 [v24] H15) λv26=>
bG v20 false λw27=>
gO w27 (aun .not v26) λv28=>
bO (apick v20 (B true) v28) λv29=>
bG v29 false λw30=>
gO w30 (zhZ 1 v0) λv31=>
bG v29 false λw32=>
gO w32 (ald false 1 H15 v31) λv33=>
bG v29 false λw34=>
gO w34 (abI .lss v33 (I 1)) λv35=>
bO (apick v29 (B true) v35) λv36=>
bG v36 false λw37=>
gO w37 (zhZ 1 v0) λv38=>
bG v36 false λw39=>
gO w39 (ald false 1 H15 v38) λv40=>
bG v36 false λw41=>
gO w41 (abI .gtr v40 (I 4611686018427387904)) λv42=>
bO (apick v36 (B true) v42) λv43=>
bG v43 false λw44=>
gO w44 (some a0) λv45=>
bG v43 false λw46=>
gO w46 (zgZ v45) λv47=>
bG v43 false λw48=>
gO w48 (zhZ 0 v47) λv49=>
bG v43 false λw50=>
gO w50 (ald false 1 H15 v49) λv51=>
bG v43 false λw52=>
gO w52 (alnS v51) λv53=>
bG v43 false λw54=>
gO w54 (abI .geq v53 (I 16)) λv55=>
bO (apick v43 (B true) v55) λv56=>
bB v56 λt57=>bI t57 (
K (.tup []) H15)
 (zowZ a0 v0 v8 v16 H15 K)
theorem image_create_eq (a0 a1 : AV) (H : AH) (K : KT) : sFun Tryz.prog nofl pqb pqba zbcgZ zbcdZ Tryz.f112 [a0,a1] H K=zysZ a0 a1 H K:=by kernel_rfl
theorem zbbdZ {a0 a1 : AV} {H : AH} {K : KT} (h : zysZ a0 a1 H K) : ACalls Tryz.prog 112 [a0,a1] H K :=
 sFun_wp mixP Tryz.func112 (by kernel_rfl) (Eq.mpr (image_create_eq a0 a1 H K) h)
def zbclZ : Nat→Option (List Bool):=kpOf [(11,mk 81 0 [0,4,6,72]),(5,mk 81 0 [0,4,5,6])]
def zbeqZ (p : List Bool) (n : Nat) : List AV→AH→Kf→Prop:=sCode Tryz.prog nofl pqb none0 none0 zbclZ (sub p (zhyZ Tryz.f113)) n
def zzlZ (x0 x4 x6 x72 : AV) (H : AH) (K : KT) : Prop:=jn (mk 81 0 [0,4,6,72]) (zbeqZ [tT,tT,tT,tT,tT,tT] 12) [x0,x4,x6,x72] H (kRet Tryz.prog Tryz.f113.results.toList K)
def zetZ (x0 x4 x5 x6 : AV) (H : AH) (K : KT) : Prop:=jn (mk 81 0 [0,4,5,6]) (zbeqZ [tT,tT,tT,tT,tT] 11) [x0,x4,x5,x6] H (kRet Tryz.prog Tryz.f113.results.toList K)
def znxZ (x0 x4 x6 x72 : AV) (H : AH) (K : KT) : Prop :=
bB x72 λt0=>bI t0 (
bO (zgZ x0) λv1=>
bO (zhZ 1 v1) λv2=>
bO (ald false 1 H v2) λv3=>
bO (ald true 2 H x6) λv4=>
bO (aixS 3 v3 x4) λv5=>
bO (zhZ 1 v5) λv6=>
bS (ast 2 H v6 v4) λH7=>
K (.tup []) H7)
 (K (.tup []) H)
theorem zszZ (x0 x4 x6 x72 : AV) (H : AH) (K : KT) : zzlZ x0 x4 x6 x72 H K=znxZ x0 x4 x6 x72 H K:=(jn_eq _ _ _ _ _).trans (by kernel_rfl)
def zqgZ (x0 x4 x5 x6 : AV) (H : AH) (K : KT) : Prop :=
zzlZ x0 x4 x6 x5 H K
theorem zwjZ (x0 x4 x5 x6 : AV) (H : AH) (K : KT) : zetZ x0 x4 x5 x6 H K=zqgZ x0 x4 x5 x6 H K:=(jn_eq _ _ _ _ _).trans (by kernel_rfl)
def image_change (a0 a1 : AV) (H : AH) (K : KT) : Prop :=
bH (anew H a1) λv0 H1=>
bO (zgZ a0) λv2=>
bO (ald true 2 H1 v2) λv3=>
bO (zhZ 1 v0) λv4=>
bO (ald false 1 H1 v4) λv5=>
bC (BCall Tryz.prog 91 [v3,v5] H1) λv6 H7=>
bO (zjZ v6 0) λv8=>
bO (zjZ v6 1) λv9=>
bO (aun .not v9) λv10=>
bB v10 λt11=>bI t11 (
K (.tup []) H7)
 (bO (zgZ a0) λv12=>
bO (zhZ 1 v12) λv13=>
bO (ald false 1 H7 v13) λv14=>
bO (aixS 3 v14 v8) λv15=>
bO (zhZ 1 v15) λv16=>
bO (ald true 2 H7 v16) λv17=>
bH (anew H7 (.agg [(I 0),nilSl])) λv18 H19=>
bS (ast 2 H19 v18 v17) λH20=>
bO (zhZ 0 v0) λv21=>
bO (ald false 1 H20 v21) λv22=>
bO (abI .eql v22 (I 2)) λv23=>
bB v23 λt24=>bI t24 (
bO (ald true 2 H20 v18) λv25=>
bO (zhZ 2 v0) λv26=>
bO (ald false 1 H20 v26) λv27=>
bO (zhZ 7 v0) λv28=>
bO (ald false 1 H20 v28) λv29=>
bP (PCall Tryz.prog 36 [v25,v27,v29] H20) λv30=>
bO (zjZ v30 0) λv31=>
bO (zjZ v30 1) λv32=>
bS (ast 2 H20 v18 v31) λH33=>
zetZ a0 v8 v32 v18 H33 K)
 (bO (abI .eql v22 (I 3)) λv34=>
bB v34 λt35=>bI t35 (
bO (ald true 2 H20 v18) λv36=>
bO (zhZ 3 v0) λv37=>
bO (ald false 1 H20 v37) λv38=>
bP (PCall Tryz.prog 71 [v36,v38] H20) λv39=>
bO (zjZ v39 0) λv40=>
bO (zjZ v39 1) λv41=>
bS (ast 2 H20 v18 v40) λH42=>
zetZ a0 v8 v41 v18 H42 K)
 (bO (abI .eql v22 (I 4)) λv43=>
bB v43 λt44=>bI t44 (
bO (ald true 2 H20 v18) λv45=>
bO (zhZ 2 v0) λv46=>
bO (ald false 1 H20 v46) λv47=>
bO (zhZ 3 v0) λv48=>
bO (ald false 1 H20 v48) λv49=>
bO (zhZ 4 v0) λv50=>
bO (ald false 1 H20 v50) λv51=>
bP (PCall Tryz.prog 72 [v45,v47,v49,v51] H20) λv52=>
bO (zjZ v52 0) λv53=>
bO (zjZ v52 1) λv54=>
bS (ast 2 H20 v18 v53) λH55=>
zetZ a0 v8 v54 v18 H55 K)
 (bO (abI .eql v22 (I 5)) λv56=>
bB v56 λt57=>bI t57 (
bO (ald true 2 H20 v18) λv58=>
bO (zhZ 2 v0) λv59=>
bO (ald false 1 H20 v59) λv60=>
bO (zhZ 3 v0) λv61=>
bO (ald false 1 H20 v61) λv62=>
bP (PCall Tryz.prog 73 [v58,v60,v62] H20) λv63=>
bO (zjZ v63 0) λv64=>
bO (zjZ v63 1) λv65=>
bS (ast 2 H20 v18 v64) λH66=>
zetZ a0 v8 v65 v18 H66 K)
 (zetZ a0 v8 v9 v18 H20 K)))))
theorem image_change_ok {a0 a1 : AV} {H : AH} {K : KT} (h : image_change a0 a1 H K) : OKP 113 [a0,a1] H K :=
 fok nofl pqb zbclZ Tryz.func113 (by kernel_rfl) (by kernel_rfl) h
def image_rename (a0 a1 a2 : AV) (H : AH) (K : KT) : Prop :=
bO (zgZ a0) λv0=>
bO (ald true 2 H v0) λv1=>
bC (BCall Tryz.prog 97 [v1,a1] H) λv2 H3=>
bO (zjZ v2 0) λv4=>
bO (zjZ v2 1) λv5=>
bO (aun .not v5) λv6=>
bG v6 false λw7=>
gO w7 (some a2) λv8=>
bG v6 false λw9=>
gP w9 (PCall Tryz.prog 70 [v8] H3) λv10=>
bG v6 false λw11=>
gO w11 (aun .not v10) λv12=>
bO (apick v6 (B true) v12) λv13=>
bG v13 false λw14=>
gO w14 (some a1) λv15=>
bG v13 false λw16=>
gO w16 (some a2) λv17=>
bG v13 false λw18=>
gO w18 (abT .eql v15 v17) λv19=>
bO (apick v13 (B true) v19) λv20=>
bB v20 λt21=>bI t21 (
K (.tup []) H3)
 (bO (zgZ a0) λv22=>
bO (zhZ 0 v22) λv23=>
bO (ald false 1 H3 v23) λv24=>
bO (aixS 2 v24 v4) λv25=>
bO (zhZ 1 v25) λv26=>
bO (ald false 1 H3 v26) λv27=>
bO (zgZ a0) λv28=>
bO (zhZ 0 v28) λv29=>
bO (ald false 1 H3 v29) λv30=>
bO (abI .add v4 (I 1)) λv31=>
bC (BCall Tryz.prog 168 [v30,v4,v31] H3) λv32 H33=>
bO (zgZ a0) λv34=>
bO (zhZ 0 v34) λv35=>
bS (ast 1 H33 v35 v32) λH36=>
bC (BCall Tryz.prog 115 [a0,a2] H36) λv37 H38=>
bO (zgZ a0) λv39=>
bO (ald true 2 H38 v39) λv40=>
bC (BCall Tryz.prog 97 [v40,a2] H38) λv41 H42=>
bO (zjZ v41 0) λv43=>
bO (zjZ v41 1) λv44=>
bO (zgZ a0) λv45=>
bO (zhZ 0 v45) λv46=>
bO (ald false 1 H42 v46) λv47=>
bO (abl [(.lit (.string ⟨#[]⟩)),(I 0)] [(0,1,a2),(1,1,v27)]) λv48=>
bH (absl H42 2 1 (zrow [(.lit (.string ⟨#[]⟩)),(I 0)] 1) [(0,2,v48)]) λv49 H50=>
bC (BCall Tryz.prog 166 [v47,v43,v49] H50) λv51 H52=>
bO (zgZ a0) λv53=>
bO (zhZ 0 v53) λv54=>
bS (ast 1 H52 v54 v51) λH55=>
K (.tup []) H55)
theorem image_rename_ok {a0 a1 a2 : AV} {H : AH} {K : KT} (h : image_rename a0 a1 a2 H K) : OKP 114 [a0,a1,a2] H K :=
 fok nofl pqb nokp Tryz.func114 (by kernel_rfl) (by kernel_rfl) h
def image_remove (a0 a1 : AV) (H : AH) (K : KT) : Prop :=
bO (zgZ a0) λv0=>
bO (ald true 2 H v0) λv1=>
bC (BCall Tryz.prog 97 [v1,a1] H) λv2 H3=>
bO (zjZ v2 0) λv4=>
bO (zjZ v2 1) λv5=>
bO (aun .not v5) λv6=>
bB v6 λt7=>bI t7 (
K (.tup []) H3)
 (bO (zgZ a0) λv8=>
bO (ald true 2 H3 v8) λv9=>
bO (zgZ a0) λv10=>
bO (zhZ 0 v10) λv11=>
bO (ald false 1 H3 v11) λv12=>
bO (aixS 2 v12 v4) λv13=>
bO (zhZ 1 v13) λv14=>
bO (ald false 1 H3 v14) λv15=>
bC (BCall Tryz.prog 91 [v9,v15] H3) λv16 H17=>
bO (zjZ v16 0) λv18=>
bO (zjZ v16 1) λv19=>
bO (zgZ a0) λv20=>
bO (zhZ 0 v20) λv21=>
bO (ald false 1 H17 v21) λv22=>
bO (abI .add v4 (I 1)) λv23=>
bC (BCall Tryz.prog 168 [v22,v4,v23] H17) λv24 H25=>
bO (zgZ a0) λv26=>
bO (zhZ 0 v26) λv27=>
bS (ast 1 H25 v27 v24) λH28=>
bO (zgZ a0) λv29=>
bO (zhZ 1 v29) λv30=>
bO (ald false 1 H28 v30) λv31=>
bO (abI .add v18 (I 1)) λv32=>
bC (BCall Tryz.prog 169 [v31,v18,v32] H28) λv33 H34=>
bO (zgZ a0) λv35=>
bO (zhZ 1 v35) λv36=>
bS (ast 1 H34 v36 v33) λH37=>
K (.tup []) H37)
theorem image_remove_ok {a0 a1 : AV} {H : AH} {K : KT} (h : image_remove a0 a1 H K) : OKP 115 [a0,a1] H K :=
 fok nofl pqb nokp Tryz.func115 (by kernel_rfl) (by kernel_rfl) h
def zlrZ : Nat→Option (List Bool):=kpOf [(4,mk 36 0 [1,2,3,4])]
def zngZ (p : List Bool) (n : Nat) : List AV→AH→Kf→Prop:=sCode Tryz.prog nofl pqb none0 none0 zlrZ (sub p (zhyZ Tryz.f140)) n
def zlkZ (x1 x2 x3 x4 : AV) (H : AH) (K : KT) : Prop:=lp (mk 36 0 [1,2,3,4]) (zngZ [tT,tT,fF,tT,fF,fF] 5) [x1,x2,x3,x4] H (kBlk 0 (kSeq (zngZ [tT,tT,tT] 8) (kRet Tryz.prog Tryz.f140.results.toList K)))
def zjiZ (R4 : RT) (x1 x2 x3 x4 : AV) (H : AH) (K : KT) : Prop :=
bO (zhZ 1 x1) λv0=>
bO (ald false 1 H v0) λv1=>
bO (alnS v1) λv2=>
bO (abI .lss x4 v2) λv3=>
bB v3 λt4=>bI t4 (
bO (zhZ 1 x3) λv5=>
bO (ald false 1 H v5) λv6=>
bO (zhZ 1 x1) λv7=>
bO (ald false 1 H v7) λv8=>
bO (aixS 3 v8 x4) λv9=>
bO (zhZ 0 v9) λv10=>
bO (ald false 1 H v10) λv11=>
bO (zhZ 1 x1) λv12=>
bO (ald false 1 H v12) λv13=>
bO (aixS 3 v13 x4) λv14=>
bO (zhZ 1 v14) λv15=>
bO (ald true 2 H v15) λv16=>
bP (BPure Tryz.prog 171 [v16]) λv17=>
bO (abl [(I 0),(I 0),nilSl] [(0,1,v11),(1,2,v17)]) λv18=>
bO (absf 3 1 (zrow [(I 0),(I 0),nilSl] 1) [(0,3,v18)]) λv19=>
bH (aap 3 40 H v6 v19) λv20 H21=>
bO (zhZ 1 x3) λv22=>
bS (ast 1 H21 v22 v20) λH23=>
bO (abI .add x4 (I 1)) λv24=>
R4 [x1,x2,x3,v24] H23)
 (bO (ald true 2 H x3) λv25=>
bS (ast 2 H x2 v25) λH26=>
bO (ald true 2 H26 x2) λv27=>
K v27 H26)
theorem zpyZ {K : KT} : RL4 (λR x1 x2 x3 x4 H=>zjiZ R x1 x2 x3 x4 H K) (λx1 x2 x3 x4 H=>zlkZ x1 x2 x3 x4 H K):=lpr4 (zvZ _ _) (λ_ _ _ _ _ _=>by kernel_rfl)
def zplZ (a0 : AV) (H : AH) (K : KT) : Prop :=
bH (anew H a0) λv0 H1=>
bH (anew H1 (.agg [nilSl,nilSl])) λv2 H3=>
bO (zhZ 0 v0) λv4=>
bO (ald false 1 H3 v4) λv5=>
bH (aap 2 24 H3 nilSl v5) λv6 H7=>
bO (abl [nilSl,nilSl] [(0,1,v6)]) λv8=>
bH (anew H7 (.agg [nilSl,nilSl])) λv9 H10=>
bS (ast 2 H10 v9 v8) λH11=>
zlkZ v0 v2 v9 (I 0) H11 K
theorem zwwZ {a0 : AV} {H : AH} {K : KT} (h : zplZ a0 H K) : OKP 140 [a0] H K :=
 fok nofl pqb zlrZ Tryz.func140 (by kernel_rfl) (by kernel_rfl) h
def zrcZ : Nat→Option (List Bool):=kpOf [(3,mk 22 0 [1,2,5])]
def ztpZ (p : List Bool) (n : Nat) : List AV→AH→Kf→Prop:=sCode Tryz.prog nofl pqb none0 none0 zrcZ (sub p (zhyZ Tryz.f137)) n
def zruZ (x1 x2 x5 : AV) (H : AH) (K : KT) : Prop:=lp (mk 22 0 [1,2,5]) (ztpZ [tT,fF,tT,fF,fF] 4) [x1,x2,x5] H (kBlk 0 (kSeq (ztpZ [tT,tT] 9) (kRet Tryz.prog Tryz.f137.results.toList K)))
def zoeZ (R3 : RT) (x1 x2 x5 : AV) (H : AH) (K : KT) : Prop :=
bO (zhZ 0 x2) λv0=>
bO (ald false 1 H v0) λv1=>
bO (alnS v1) λv2=>
bO (abI .lss x5 v2) λv3=>
bB v3 λt4=>bI t4 (
bO (zhZ 0 x2) λv5=>
bO (ald false 1 H v5) λv6=>
bO (aixS 2 v6 x5) λv7=>
bO (zhZ 0 v7) λv8=>
bO (ald false 1 H v8) λv9=>
bO (abT .eql v9 x1) λv10=>
bB v10 λt11=>bI t11 (
K x5 H)
 (bO (abI .add x5 (I 1)) λv12=>
R3 [x1,x2,v12] H))
 (K (I (-1)) H)
theorem zueZ {K : KT} : RL3 (λR x1 x2 x5 H=>zoeZ R x1 x2 x5 H K) (λx1 x2 x5 H=>zruZ x1 x2 x5 H K):=lpr3 (zvZ _ _) (λ_ _ _ _ _=>by kernel_rfl)
def zydZ (a0 a1 : AV) (H : AH) (K : KT) : Prop :=
bH (anew H a0) λv0 H1=>
zruZ a1 v0 (I 0) H1 K
theorem zbbvZ {a0 a1 : AV} {H : AH} {K : KT} (h : zydZ a0 a1 H K) : OKP 137 [a0,a1] H K :=
 fok nofl pqb zrcZ Tryz.func137 (by kernel_rfl) (by kernel_rfl) h
def ztbZ : Nat→Option (List Bool):=kpOf [(3,mk 22 0 [1,2,5])]
def zvbZ (p : List Bool) (n : Nat) : List AV→AH→Kf→Prop:=sCode Tryz.prog nofl pqb none0 none0 ztbZ (sub p (zhyZ Tryz.f174)) n
def zslZ (x1 x2 x5 : AV) (H : AH) (K : KT) : Prop:=lp (mk 22 0 [1,2,5]) (zvbZ [tT,fF,tT,fF,fF] 4) [x1,x2,x5] H (kBlk 0 (kSeq (zvbZ [tT,tT] 9) (kRet Tryz.prog Tryz.f174.results.toList K)))
def zpiZ (R3 : RT) (x1 x2 x5 : AV) (H : AH) (K : KT) : Prop :=
bO (zhZ 1 x2) λv0=>
bO (ald false 1 H v0) λv1=>
bO (alnS v1) λv2=>
bO (abI .lss x5 v2) λv3=>
bB v3 λt4=>bI t4 (
bO (zhZ 1 x2) λv5=>
bO (ald false 1 H v5) λv6=>
bO (aixS 3 v6 x5) λv7=>
bO (zhZ 0 v7) λv8=>
bO (ald false 1 H v8) λv9=>
bO (abI .eql v9 x1) λv10=>
bB v10 λt11=>bI t11 (
K x5 H)
 (bO (abI .add x5 (I 1)) λv12=>
R3 [x1,x2,v12] H))
 (K (I (-1)) H)
theorem zwoZ {K : KT} : RL3 (λR x1 x2 x5 H=>zpiZ R x1 x2 x5 H K) (λx1 x2 x5 H=>zslZ x1 x2 x5 H K):=lpr3 (zvZ _ _) (λ_ _ _ _ _=>by kernel_rfl)
def zzgZ (a0 a1 : AV) (H : AH) (K : KT) : Prop :=
bH (anew H a0) λv0 H1=>
zslZ a1 v0 (I 0) H1 K
theorem zbdeZ {a0 a1 : AV} {H : AH} {K : KT} (h : zzgZ a0 a1 H K) : OKP 174 [a0,a1] H K :=
 fok nofl pqb ztbZ Tryz.func174 (by kernel_rfl) (by kernel_rfl) h
def zqaZ : Nat→Option (List Bool):=kpOf [(2,mk 53 0 [0,1,2,6])]
def zqoZ (p : List Bool) (n : Nat) : List AV→AH→Kf→Prop:=sCode Tryz.prog nofl pqb none0 none0 zqaZ (sub p (zhyZ Tryz.f175)) n
def zpxZ (x0 x1 x2 x6 : AV) (H : AH) (K : KT) : Prop:=lp (mk 53 0 [0,1,2,6]) (zqoZ [tT,fF,fF,fF] 3) [x0,x1,x2,x6] H (kBlk 0 (kSeq (zqoZ [tT,tT] 5) (kRet Tryz.prog Tryz.f175.results.toList K)))
def znaZ (R2 : RT) (x0 x1 x2 x6 : AV) (H : AH) (K : KT) : Prop :=
bO (zgZ x0) λv0=>
bO (zhZ 0 v0) λv1=>
bO (ald false 1 H v1) λv2=>
bO (alnS v2) λv3=>
bO (abI .lss x6 v3) λv4=>
bG v4 true λw5=>
gO w5 (some x0) λv6=>
bG v4 true λw7=>
gO w7 (zgZ v6) λv8=>
bG v4 true λw9=>
gO w9 (zhZ 0 v8) λv10=>
bG v4 true λw11=>
gO w11 (ald false 1 H v10) λv12=>
bG v4 true λw13=>
gO w13 (some x6) λv14=>
bG v4 true λw15=>
gO w15 (aixS 2 v12 v14) λv16=>
bG v4 true λw17=>
gO w17 (zhZ 0 v16) λv18=>
bG v4 true λw19=>
gO w19 (ald false 1 H v18) λv20=>
bG v4 true λw21=>
gO w21 (some x1) λv22=>
bG v4 true λw23=>
gO w23 (abT .lss v20 v22) λv24=>
bO (apick v4 v24 (B false)) λv25=>
bB v25 λt26=>bI t26 (
bO (abI .add x6 (I 1)) λv27=>
R2 [x0,x1,x2,v27] H)
 (bO (zgZ x0) λv28=>
bO (zhZ 0 v28) λv29=>
bO (ald false 1 H v29) λv30=>
bO (aslS 2 v30 none (some x6) none) λv31=>
bH (aap 2 24 H nilSl v31) λv32 H33=>
bO (abl [(.lit (.string ⟨#[]⟩)),(I 0)] [(0,1,x1),(1,1,x2)]) λv34=>
bH (absl H33 2 1 (zrow [(.lit (.string ⟨#[]⟩)),(I 0)] 1) [(0,2,v34)]) λv35 H36=>
bH (aap 2 24 H36 v32 v35) λv37 H38=>
bO (zgZ x0) λv39=>
bO (zhZ 0 v39) λv40=>
bO (ald false 1 H38 v40) λv41=>
bO (aslS 2 v41 (some x6) none none) λv42=>
bH (aap 2 24 H38 v37 v42) λv43 H44=>
bO (zgZ x0) λv45=>
bO (zhZ 0 v45) λv46=>
bS (ast 1 H44 v46 v43) λH47=>
K (.tup []) H47)
theorem ztlZ {K : KT} : RL4 (λR x0 x1 x2 x6 H=>znaZ R x0 x1 x2 x6 H K) (λx0 x1 x2 x6 H=>zpxZ x0 x1 x2 x6 H K):=lpr4 (zvZ _ _) (λ_ _ _ _ _ _=>by kernel_rfl)
def zvaZ (a0 a1 a2 : AV) (H : AH) (K : KT) : Prop :=
zpxZ a0 a1 a2 (I 0) H K
theorem zbapZ {a0 a1 a2 : AV} {H : AH} {K : KT} (h : zvaZ a0 a1 a2 H K) : OKP 175 [a0,a1,a2] H K :=
 fok nofl pqb zqaZ Tryz.func175 (by kernel_rfl) (by kernel_rfl) h
def zbdrZ : zbcqZ:=flOf [(2,[(11,none),(14,none)]),(5,[(11,none),(14,none)])]
def zzbZ (a0 a1 a2 : AV) (H : AH) (K : KT) : Prop :=
bO (zgZ a0) λv0=>
bO (ald true 2 H v0) λv1=>
bP (PCall Tryz.prog 137 [v1,a1] H) λv2=>
bO (zgZ a0) λv3=>
bO (zhZ 0 v3) λv4=>
bO (ald false 1 H v4) λv5=>
bO (aixS 2 v5 v2) λv6=>
bO (zhZ 1 v6) λv7=>
bO (ald false 1 H v7) λv8=>
bO (zgZ a0) λv9=>
bO (zhZ 0 v9) λv10=>
bO (ald false 1 H v10) λv11=>
bO (aslS 2 v11 none (some v2) none) λv12=>
bH (aap 2 24 H nilSl v12) λv13 H14=>
bO (zgZ a0) λv15=>
bO (zhZ 0 v15) λv16=>
bO (ald false 1 H14 v16) λv17=>
bO (abI .add v2 (I 1)) λv18=>
bO (aslS 2 v17 (some v18) none none) λv19=>
bH (aap 2 24 H14 v13 v19) λv20 H21=>
bO (zgZ a0) λv22=>
bO (zhZ 0 v22) λv23=>
bS (ast 1 H21 v23 v20) λH24=>
(ald false 1 H v16=some v17) ∧
(aslS 2 v17 (some v18) none none=some v19) ∧
bO (zgZ a0) λv25=>
bO (ald true 2 H24 v25) λv26=>
bP (PCall Tryz.prog 174 [v26,v8] H24) λv27=>
bB a2 λt28=>bI t28 (
bO (zgZ a0) λv29=>
bO (zhZ 1 v29) λv30=>
bO (ald false 1 H24 v30) λv31=>
bO (aslS 3 v31 none (some v27) none) λv32=>
bH (aap 3 40 H24 nilSl v32) λv33 H34=>
bO (zgZ a0) λv35=>
bO (zhZ 1 v35) λv36=>
bO (ald false 1 H34 v36) λv37=>
bO (abI .add v27 (I 1)) λv38=>
bO (aslS 3 v37 (some v38) none none) λv39=>
bH (aap 3 40 H34 v33 v39) λv40 H41=>
bO (zgZ a0) λv42=>
bO (zhZ 1 v42) λv43=>
bS (ast 1 H41 v43 v40) λH44=>
(ald false 1 H24 v36=some v37) ∧
(aslS 3 v37 (some v38) none none=some v39) ∧
K (.tup []) H44)
 (K (.tup []) H24)
theorem zbddZ {a0 a1 a2 : AV} {H : AH} {K : KT} (h : zzbZ a0 a1 a2 H K) : OKP 176 [a0,a1,a2] H K :=
 fok zbdrZ pqb nokp Tryz.func176 (by kernel_rfl) (by kernel_rfl) h
def zdsZ (a0 a1 : AV) (H : AH) (K : KT) : Prop :=
bH (anew H a0) λv0 H1=>
bH (anew H1 a1) λv2 H3=>
bH (anew H3 (.agg [(I 0),nilSl])) λv4 H5=>
bO (zhZ 0 v2) λv6=>
bO (ald false 1 H5 v6) λv7=>
bO (abI .eql v7 (I 2)) λv8=>
bB v8 λt9=>bI t9 (
bO (ald true 2 H5 v0) λv10=>
bO (zhZ 2 v2) λv11=>
bO (ald false 1 H5 v11) λv12=>
bO (zhZ 7 v2) λv13=>
bO (ald false 1 H5 v13) λv14=>
bP (PCall Tryz.prog 130 [v10,v12,v14] H5) λv15=>
bO (zjZ v15 0) λv16=>
bO (zjZ v15 1) λv17=>
bS (ast 2 H5 v4 v16) λH18=>
bO (ald true 2 H18 v4) λv19=>
K (.tup [v19,v17]) H18)
 (bO (abI .eql v7 (I 3)) λv20=>
bB v20 λt21=>bI t21 (
bO (ald true 2 H5 v0) λv22=>
bO (zhZ 3 v2) λv23=>
bO (ald false 1 H5 v23) λv24=>
bP (PCall Tryz.prog 134 [v22,v24] H5) λv25=>
bO (zjZ v25 0) λv26=>
bO (zjZ v25 1) λv27=>
bS (ast 2 H5 v4 v26) λH28=>
bO (ald true 2 H28 v4) λv29=>
K (.tup [v29,v27]) H28)
 (bO (abI .eql v7 (I 4)) λv30=>
bB v30 λt31=>bI t31 (
bO (ald true 2 H5 v0) λv32=>
bO (zhZ 2 v2) λv33=>
bO (ald false 1 H5 v33) λv34=>
bO (zhZ 3 v2) λv35=>
bO (ald false 1 H5 v35) λv36=>
bO (zhZ 4 v2) λv37=>
bO (ald false 1 H5 v37) λv38=>
bP (PCall Tryz.prog 135 [v32,v34,v36,v38] H5) λv39=>
bO (zjZ v39 0) λv40=>
bO (zjZ v39 1) λv41=>
bS (ast 2 H5 v4 v40) λH42=>
bO (ald true 2 H42 v4) λv43=>
K (.tup [v43,v41]) H42)
 (bO (abI .eql v7 (I 5)) λv44=>
bB v44 λt45=>bI t45 (
bO (ald true 2 H5 v0) λv46=>
bO (zhZ 2 v2) λv47=>
bO (ald false 1 H5 v47) λv48=>
bO (zhZ 3 v2) λv49=>
bO (ald false 1 H5 v49) λv50=>
bP (PCall Tryz.prog 136 [v46,v48,v50] H5) λv51=>
bO (zjZ v51 0) λv52=>
bO (zjZ v51 1) λv53=>
bS (ast 2 H5 v4 v52) λH54=>
bO (ald true 2 H54 v4) λv55=>
K (.tup [v55,v53]) H54)
 (bO (abl [(I 0),nilSl] []) λv56=>
bS (ast 2 H5 v4 v56) λH57=>
bO (ald true 2 H57 v4) λv58=>
K (.tup [v58,(B false)]) H57))))
theorem zbamZ {a0 a1 : AV} {H : AH} {K : KT} (h : zdsZ a0 a1 H K) : OKP 177 [a0,a1] H K :=
 fok nofl pqb nokp Tryz.func177 (by kernel_rfl) (by kernel_rfl) h
def zbekZ : Nat→Option (List Bool):=kpOf [(7,mk 58 0 [0,4,11,12,13])]
def image_names_c (p : List Bool) (n : Nat) : List AV→AH→Kf→Prop:=sCode Tryz.prog nofl pqb none0 none0 zbekZ (sub p (zhyZ Tryz.f146)) n
def zbeoZ (x0 x4 x11 x12 x13 : AV) (H : AH) (K : KT) : Prop:=lp (mk 58 0 [0,4,11,12,13]) (image_names_c [tT,tT,tT,fF,tT,fF,fF] 8) [x0,x4,x11,x12,x13] H (kBlk 0 (kSeq (image_names_c [tT,tT,tT,tT] 15) (kRet Tryz.prog Tryz.f146.results.toList K)))
def zztZ (R7 : RT) (x0 x4 x11 x12 x13 : AV) (H : AH) (K : KT) : Prop :=
bO (abI .lss x13 x12) λv0=>
bB v0 λt1=>bI t1 (
bO (aixS 2 x11 x13) λv2=>
bO (ald true 2 H v2) λv3=>
bH (anew H (.agg [(.lit (.string ⟨#[]⟩)),(I 0)])) λv4 H5=>
bS (ast 2 H5 v4 v3) λH6=>
bO (zhZ 0 v4) λv7=>
bO (ald false 1 H6 v7) λv8=>
bP (BPure Tryz.prog 70 [v8]) λv9=>
bO (aun .not v9) λv10=>
bG v10 false λw11=>
gO w11 (some x13) λv12=>
bG v10 false λw13=>
gO w13 (abI .gtr v12 (I 0)) λv14=>
bG v10 false λw15=>
gO w15 (some v14) λv16=>
bG v16 true λw17=>
gO w17 (some x0) λv18=>
bG v16 true λw19=>
gO w19 (some x13) λv20=>
bG v16 true λw21=>
gO w21 (abI .sub v20 (I 1)) λv22=>
bG v16 true λw23=>
gO w23 (aixS 2 v18 v22) λv24=>
bG v16 true λw25=>
gO w25 (zhZ 0 v24) λv26=>
bG v16 true λw27=>
gO w27 (ald false 1 H6 v26) λv28=>
bG v16 true λw29=>
gO w29 (zhZ 0 v4) λv30=>
bG v16 true λw31=>
gO w31 (ald false 1 H6 v30) λv32=>
bG v16 true λw33=>
gO w33 (abT .geq v28 v32) λv34=>
bG v10 false λw35=>
gO w35 (apick v16 v34 (B false)) λv36=>
bO (apick v10 (B true) v36) λv37=>
bG v37 false λw38=>
gO w38 (zhZ 1 v4) λv39=>
bG v37 false λw40=>
gO w40 (ald false 1 H6 v39) λv41=>
bG v37 false λw42=>
gO w42 (abI .lss v41 (I 1)) λv43=>
bO (apick v37 (B true) v43) λv44=>
bG v44 false λw45=>
gO w45 (zhZ 1 v4) λv46=>
bG v44 false λw47=>
gO w47 (ald false 1 H6 v46) λv48=>
bG v44 false λw49=>
gO w49 (abI .gtr v48 (I 4611686018427387904)) λv50=>
bO (apick v44 (B true) v50) λv51=>
bG v51 false λw52=>
gO w52 (some x4) λv53=>
bG v51 false λw54=>
gO w54 (zhZ 1 v4) λv55=>
bG v51 false λw56=>
gO w56 (ald false 1 H6 v55) λv57=>
bG v51 false λw58=>
gO w58 (alk (.int .i64) (.bool false) H6 v53 v57 false) λv59=>
bO (apick v51 (B true) v59) λv60=>
bB v60 λt61=>bI t61 (
K (.tup [(.lit (.map none)),(B false)]) H6)
 (bO (zhZ 1 v4) λv62=>
bO (ald false 1 H6 v62) λv63=>
bS (amu (.int .i64) H6 x4 v63 (B true)) λH64=>
bO (abI .add x13 (I 1)) λv65=>
R7 [x0,x4,x11,x12,v65] H64))
 (K (.tup [x4,(B true)]) H)
theorem zbdjZ {K : KT} : RL5 (λR x0 x4 x11 x12 x13 H=>zztZ R x0 x4 x11 x12 x13 H K) (λx0 x4 x11 x12 x13 H=>zbeoZ x0 x4 x11 x12 x13 H K):=lpr5 (zvZ _ _) (λ_ _ _ _ _ _ _=>by kernel_rfl)
def image_names (a0 : AV) (H : AH) (K : KT) : Prop :=
bO (alnS a0) λv0=>
bO (abI .gtr v0 (I 16)) λv1=>
bB v1 λt2=>bI t2 (
K (.tup [(.lit (.map none)),(B false)]) H)
 (bH (amkM H none) λv3 H4=>
bO (alnS a0) λv5=>
zbeoZ a0 v3 a0 v5 (I 0) H4 K)
theorem image_names_ok {a0 : AV} {H : AH} {K : KT} (h : image_names a0 H K) : OKP 146 [a0] H K :=
 fok nofl pqb zbekZ Tryz.func146 (by kernel_rfl) (by kernel_rfl) h
def zgjZ (a0 : AV) (H : AH) (K : KT) : Prop :=
bO (abN .eql nilS a0 nilSl) λv0=>
bB v0 λt1=>bI t1 (
K nilSl H)
 (bH (absl H 2 0 (zrow [(.lit (.string ⟨#[]⟩)),(I 0)] 0) []) λv2 H3=>
bH (aap 2 24 H3 v2 a0) λv4 H5=>
K v4 H5)
theorem zlhZ {a0 : AV} {H : AH} {K : KT} (h : zgjZ a0 H K) : OKP 116 [a0] H K :=
 fok nofl pqb nokp Tryz.func116 (by kernel_rfl) (by kernel_rfl) h
def zgiZ (a0 : AV) (H : AH) (K : KT) : Prop :=
bO (abN .eql nilS a0 nilSl) λv0=>
bB v0 λt1=>bI t1 (
K nilSl H)
 (bH (absl H 3 0 (zrow [(I 0),(I 0),nilSl] 0) []) λv2 H3=>
bH (aap 3 40 H3 v2 a0) λv4 H5=>
K v4 H5)
theorem zliZ {a0 : AV} {H : AH} {K : KT} (h : zgiZ a0 H K) : OKP 117 [a0] H K :=
 fok nofl pqb nokp Tryz.func117 (by kernel_rfl) (by kernel_rfl) h
def zcdZ : Nat→Option (List Bool):=kpOf [(4,mk 49 0 [0,1,2,8,9,10])]
def zcgZ (p : List Bool) (n : Nat) : List AV→AH→Kf→Prop:=sCode Tryz.prog nofl pqb none0 none0 zcdZ (sub p (zhyZ Tryz.f154)) n
def zccZ (x0 x1 x2 x8 x9 x10 : AV) (H : AH) (K : KT) : Prop:=lp (mk 49 0 [0,1,2,8,9,10]) (zcgZ [tT,tT,tT,fF,fF,fF] 5) [x0,x1,x2,x8,x9,x10] H (kBlk 0 (kSeq (zcgZ [tT,tT,tT,tT] 9) (kRet Tryz.prog Tryz.f154.results.toList K)))
def zbzZ (R4 : RT) (x0 x1 x2 x8 x9 x10 : AV) (H : AH) (K : KT) : Prop :=
bO (abI .lss x9 x10) λv0=>
bB v0 λt1=>bI t1 (
bO (abI .add x9 x10) λv2=>
bO (acI .u64 v2) λv3=>
bO (abI .shr v3 (.lit (.int .u64 1))) λv4=>
bO (acI .i64 v4) λv5=>
bO (aixS 2 x0 v5) λv6=>
bO (ald true 2 H v6) λv7=>
bF true x2 λk10 f10 c10=>
bT (zbchZ Tryz.prog k10 || !true) <|
bC (BCall Tryz.prog k10 (f10 ++ [v7,x1] ++ c10) H) λv8 H9=>
bO (abI .lss v8 (I 0)) λv11=>
bB v11 λt12=>bI t12 (
bO (abI .add v5 (I 1)) λv13=>
R4 [x0,x1,x2,x8,v13,x10] H9)
 (R4 [x0,x1,x2,x8,x9,v5] H9))
 (bO (abI .lss x9 x8) λv14=>
bG v14 true λw15=>
gO w15 (some x2) λv16=>
bG v14 true λw17=>
gO w17 (some x0) λv18=>
bG v14 true λw19=>
gO w19 (some x9) λv20=>
bG v14 true λw21=>
gO w21 (aixS 2 v18 v20) λv22=>
bG v14 true λw23=>
gO w23 (ald true 2 H v22) λv24=>
bG v14 true λw25=>
gO w25 (some x1) λv26=>
bG v14 true λw27=>
bF w27 v16 λk30 f30 c30=>
bT (zbchZ Tryz.prog k30 || !w27) <|
gC w27 (BCall Tryz.prog k30 (f30 ++ [v24,v26] ++ c30) H) H λv28 H29=>
bG v14 true λw31=>
gO w31 (abI .eql v28 (I 0)) λv32=>
bO (apick v14 v32 (B false)) λv33=>
K (.tup [x9,v33]) H29)
theorem zdtZ {K : KT} : RL6 (λR x0 x1 x2 x8 x9 x10 H=>zbzZ R x0 x1 x2 x8 x9 x10 H K) (λx0 x1 x2 x8 x9 x10 H=>zccZ x0 x1 x2 x8 x9 x10 H K):=lpr6 (zvZ _ _) (λ_ _ _ _ _ _ _ _=>by kernel_rfl)
def zcnZ (a0 a1 a2 : AV) (H : AH) (K : KT) : Prop :=
bO (alnS a0) λv0=>
zccZ a0 a1 a2 v0 (I 0) v0 H K
theorem zekZ {a0 a1 a2 : AV} {H : AH} {K : KT} (h : zcnZ a0 a1 a2 H K) : OKP 154 [a0,a1,a2] H K :=
 fok nofl pqb zcdZ Tryz.func154 (by kernel_rfl) (by kernel_rfl) h
def image_named_1 (a0 a1 : AV) (H : AH) (K : KT) : Prop :=
bH (anew H a0) λv0 H1=>
bO (zhZ 0 v0) λv2=>
bO (ald false 1 H1 v2) λv3=>
bP (PCall Tryz.prog 156 [v3,a1] H1) λv4=>
K v4 H1
theorem image_named_1_ok {a0 a1 : AV} {H : AH} {K : KT} (h : image_named_1 a0 a1 H K) : OKP 155 [a0,a1] H K :=
 fok nofl pqb nokp Tryz.func155 (by kernel_rfl) (by kernel_rfl) h
def zbbhZ (a0 a1 : AV) (H : AH) (K : KT) : Prop :=
bP (PCall Tryz.prog 183 [a0,a1] H) λv0=>
K v0 H
theorem strings_Compare_ok {a0 a1 : AV} {H : AH} {K : KT} (h : zbbhZ a0 a1 H K) : OKP 156 [a0,a1] H K :=
 fok nofl pqb nokp Tryz.func156 (by kernel_rfl) (by kernel_rfl) h
def zclZ : Nat→Option (List Bool):=kpOf [(4,mk 49 0 [0,1,2,8,9,10])]
def zctZ (p : List Bool) (n : Nat) : List AV→AH→Kf→Prop:=sCode Tryz.prog nofl pqb none0 none0 zclZ (sub p (zhyZ Tryz.f147)) n
def zcmZ (x0 x1 x2 x8 x9 x10 : AV) (H : AH) (K : KT) : Prop:=lp (mk 49 0 [0,1,2,8,9,10]) (zctZ [tT,tT,tT,fF,fF,fF] 5) [x0,x1,x2,x8,x9,x10] H (kBlk 0 (kSeq (zctZ [tT,tT,tT,tT] 9) (kRet Tryz.prog Tryz.f147.results.toList K)))
def zcfZ (R4 : RT) (x0 x1 x2 x8 x9 x10 : AV) (H : AH) (K : KT) : Prop :=
bO (abI .lss x9 x10) λv0=>
bB v0 λt1=>bI t1 (
bO (abI .add x9 x10) λv2=>
bO (acI .u64 v2) λv3=>
bO (abI .shr v3 (.lit (.int .u64 1))) λv4=>
bO (acI .i64 v4) λv5=>
bO (aixS 3 x0 v5) λv6=>
bO (ald true 3 H v6) λv7=>
bF true x2 λk10 f10 c10=>
bT (zbchZ Tryz.prog k10 || !true) <|
bC (BCall Tryz.prog k10 (f10 ++ [v7,x1] ++ c10) H) λv8 H9=>
bO (abI .lss v8 (I 0)) λv11=>
bB v11 λt12=>bI t12 (
bO (abI .add v5 (I 1)) λv13=>
R4 [x0,x1,x2,x8,v13,x10] H9)
 (R4 [x0,x1,x2,x8,x9,v5] H9))
 (bO (abI .lss x9 x8) λv14=>
bG v14 true λw15=>
gO w15 (some x2) λv16=>
bG v14 true λw17=>
gO w17 (some x0) λv18=>
bG v14 true λw19=>
gO w19 (some x9) λv20=>
bG v14 true λw21=>
gO w21 (aixS 3 v18 v20) λv22=>
bG v14 true λw23=>
gO w23 (ald true 3 H v22) λv24=>
bG v14 true λw25=>
gO w25 (some x1) λv26=>
bG v14 true λw27=>
bF w27 v16 λk30 f30 c30=>
bT (zbchZ Tryz.prog k30 || !w27) <|
gC w27 (BCall Tryz.prog k30 (f30 ++ [v24,v26] ++ c30) H) H λv28 H29=>
bG v14 true λw31=>
gO w31 (abI .eql v28 (I 0)) λv32=>
bO (apick v14 v32 (B false)) λv33=>
K (.tup [x9,v33]) H29)
theorem zedZ {K : KT} : RL6 (λR x0 x1 x2 x8 x9 x10 H=>zcfZ R x0 x1 x2 x8 x9 x10 H K) (λx0 x1 x2 x8 x9 x10 H=>zcmZ x0 x1 x2 x8 x9 x10 H K):=lpr6 (zvZ _ _) (λ_ _ _ _ _ _ _ _=>by kernel_rfl)
def zdaZ (a0 a1 a2 : AV) (H : AH) (K : KT) : Prop :=
bO (alnS a0) λv0=>
zcmZ a0 a1 a2 v0 (I 0) v0 H K
theorem zewZ {a0 a1 a2 : AV} {H : AH} {K : KT} (h : zdaZ a0 a1 a2 H K) : OKP 147 [a0,a1,a2] H K :=
 fok nofl pqb zclZ Tryz.func147 (by kernel_rfl) (by kernel_rfl) h
def image_node_1 (a0 a1 : AV) (H : AH) (K : KT) : Prop :=
bH (anew H a0) λv0 H1=>
bO (zhZ 0 v0) λv2=>
bO (ald false 1 H1 v2) λv3=>
bP (PCall Tryz.prog 149 [v3,a1] H1) λv4=>
K v4 H1
theorem image_node_1_ok {a0 a1 : AV} {H : AH} {K : KT} (h : image_node_1 a0 a1 H K) : OKP 148 [a0,a1] H K :=
 fok nofl pqb nokp Tryz.func148 (by kernel_rfl) (by kernel_rfl) h
def zjxZ : Nat→Bool:=inL []
def zfyZ (a0 a1 a2 : AV) (H : AH) (K : KT) : Prop :=
bO (aslS 2 a0 (some a1) none none) λv0=>
bO (alnS a2) λv1=>
bO (abI .eql v1 (I 0)) λv2=>
bB v2 λt3=>bI t3 (
K a0 H)
 (bO (alnS a0) λv4=>
bO (abI .eql a1 v4) λv5=>
bB v5 λt6=>bI t6 (
bH (aap 2 24 H a0 a2) λv7 H8=>
K v7 H8)
 (bO (abI .add v4 v1) λv9=>
bO (acpS a0) λv10=>
bO (abI .gtr v9 v10) λv11=>
bB v11 λt12=>bI t12 (
bO (aslS 2 a0 none (some a1) none) λv13=>
bO (abI .add v4 v1) λv14=>
bO (abI .sub v14 a1) λv15=>
bH (aappZ1 H 2 24 [(.lit (.string ⟨#[]⟩)),(I 0)] v13 v15) λv16 H17=>
bO (aslS 2 v16 (some a1) none none) λv18=>
bH (acp 2 H17 v18 a2) λv19 H20=>
bO (abI .add a1 v1) λv21=>
bO (aslS 2 v16 (some v21) none none) λv22=>
bO (aslS 2 a0 (some a1) none none) λv23=>
bH (acp 2 H20 v22 v23) λv24 H25=>
K v16 H25)
 (bO (abI .add v4 v1) λv26=>
bO (aslS 2 a0 none (some v26) none) λv27=>
bO (abI .add a1 v1) λv28=>
bO (aslS 2 v27 (some v28) none none) λv29=>
bP (ExtR Tryz.prog 190 [a2,v29] H) λv30=>
bO (aun .not v30) λv31=>
bB v31 λt32=>bI t32 (
bO (abI .add a1 v1) λv33=>
bO (aslS 2 v27 (some v33) none none) λv34=>
bO (aslS 2 v27 (some a1) none none) λv35=>
bH (acp 2 H v34 v35) λv36 H37=>
bO (aslS 2 v27 (some a1) none none) λv38=>
bH (acp 2 H37 v38 a2) λv39 H40=>
K v27 H40)
 (bO (aslS 2 v27 (some v4) none none) λv41=>
bH (acp 2 H v41 a2) λv42 H43=>
bO (aslS 2 v27 (some a1) none none) λv44=>
bC (BCall Tryz.prog 191 [v44,v1] H43) λv45 H46=>
K v27 H46))))
theorem zkxZ (a0 a1 a2 : AV) (H : AH) (K : KT) : sFun Tryz.prog nofl pqb pqba zjxZ nokp Tryz.f166 [a0,a1,a2] H K=zfyZ a0 a1 a2 H K:=by kernel_rfl
theorem zkwZ {a0 a1 a2 : AV} {H : AH} {K : KT} (h : zfyZ a0 a1 a2 H K) : ACalls Tryz.prog 166 [a0,a1,a2] H K :=
 sFun_wp mixP Tryz.func166 (by kernel_rfl) (Eq.mpr (zkxZ a0 a1 a2 H K) h)
def zkfZ : Nat→Bool:=inL []
def zfrZ (a0 a1 a2 : AV) (H : AH) (K : KT) : Prop :=
bO (aslS 3 a0 (some a1) none none) λv0=>
bO (alnS a2) λv1=>
bO (abI .eql v1 (I 0)) λv2=>
bB v2 λt3=>bI t3 (
K a0 H)
 (bO (alnS a0) λv4=>
bO (abI .eql a1 v4) λv5=>
bB v5 λt6=>bI t6 (
bH (aap 3 40 H a0 a2) λv7 H8=>
K v7 H8)
 (bO (abI .add v4 v1) λv9=>
bO (acpS a0) λv10=>
bO (abI .gtr v9 v10) λv11=>
bB v11 λt12=>bI t12 (
bO (aslS 3 a0 none (some a1) none) λv13=>
bO (abI .add v4 v1) λv14=>
bO (abI .sub v14 a1) λv15=>
bH (aappZ1 H 3 40 [(I 0),(I 0),nilSl] v13 v15) λv16 H17=>
bO (aslS 3 v16 (some a1) none none) λv18=>
bH (acp 3 H17 v18 a2) λv19 H20=>
bO (abI .add a1 v1) λv21=>
bO (aslS 3 v16 (some v21) none none) λv22=>
bO (aslS 3 a0 (some a1) none none) λv23=>
bH (acp 3 H20 v22 v23) λv24 H25=>
K v16 H25)
 (bO (abI .add v4 v1) λv26=>
bO (aslS 3 a0 none (some v26) none) λv27=>
bO (abI .add a1 v1) λv28=>
bO (aslS 3 v27 (some v28) none none) λv29=>
bP (ExtR Tryz.prog 192 [a2,v29] H) λv30=>
bO (aun .not v30) λv31=>
bB v31 λt32=>bI t32 (
bO (abI .add a1 v1) λv33=>
bO (aslS 3 v27 (some v33) none none) λv34=>
bO (aslS 3 v27 (some a1) none none) λv35=>
bH (acp 3 H v34 v35) λv36 H37=>
bO (aslS 3 v27 (some a1) none none) λv38=>
bH (acp 3 H37 v38 a2) λv39 H40=>
K v27 H40)
 (bO (aslS 3 v27 (some v4) none none) λv41=>
bH (acp 3 H v41 a2) λv42 H43=>
bO (aslS 3 v27 (some a1) none none) λv44=>
bC (BCall Tryz.prog 193 [v44,v1] H43) λv45 H46=>
K v27 H46))))
theorem zkvZ (a0 a1 a2 : AV) (H : AH) (K : KT) : sFun Tryz.prog nofl pqb pqba zkfZ nokp Tryz.f167 [a0,a1,a2] H K=zfrZ a0 a1 a2 H K:=by kernel_rfl
theorem zktZ {a0 a1 a2 : AV} {H : AH} {K : KT} (h : zfrZ a0 a1 a2 H K) : ACalls Tryz.prog 167 [a0,a1,a2] H K :=
 sFun_wp mixP Tryz.func167 (by kernel_rfl) (Eq.mpr (zkvZ a0 a1 a2 H K) h)
def zfuZ (a0 a1 a2 : AV) (H : AH) (K : KT) : Prop :=
bO (alnS a0) λv0=>
bO (aslS 2 a0 (some a1) (some a2) (some v0)) λv1=>
bO (abI .eql a1 a2) λv2=>
bB v2 λt3=>bI t3 (
K a0 H)
 (bO (alnS a0) λv4=>
bO (aslS 2 a0 none (some a1) none) λv5=>
bO (aslS 2 a0 (some a2) none none) λv6=>
bH (aap 2 24 H v5 v6) λv7 H8=>
bO (alnS v7) λv9=>
bO (aslS 2 v7 (some v9) (some v4) none) λv10=>
bS (acl [(.lit (.string ⟨#[]⟩)),(I 0)] H8 v10) λH11=>
K v7 H11)
theorem zldZ {a0 a1 a2 : AV} {H : AH} {K : KT} (h : zfuZ a0 a1 a2 H K) : OKP 168 [a0,a1,a2] H K :=
 fok nofl pqb nokp Tryz.func168 (by kernel_rfl) (by kernel_rfl) h
def zfvZ (a0 a1 a2 : AV) (H : AH) (K : KT) : Prop :=
bO (alnS a0) λv0=>
bO (aslS 3 a0 (some a1) (some a2) (some v0)) λv1=>
bO (abI .eql a1 a2) λv2=>
bB v2 λt3=>bI t3 (
K a0 H)
 (bO (alnS a0) λv4=>
bO (aslS 3 a0 none (some a1) none) λv5=>
bO (aslS 3 a0 (some a2) none none) λv6=>
bH (aap 3 40 H v5 v6) λv7 H8=>
bO (alnS v7) λv9=>
bO (aslS 3 v7 (some v9) (some v4) none) λv10=>
bS (acl [(I 0),(I 0),nilSl] H8 v10) λH11=>
K v7 H11)
theorem zjvZ {a0 a1 a2 : AV} {H : AH} {K : KT} (h : zfvZ a0 a1 a2 H K) : OKP 169 [a0,a1,a2] H K :=
 fok nofl pqb nokp Tryz.func169 (by kernel_rfl) (by kernel_rfl) h
end Go.Proofs.YtlhiaihmkjlaaaaGreat.Av
end
section
namespace Go.Proofs.YtlhiaihmkjlaaaaGreat.Av
open Go Go.RowKit
structure Nm where
 name : List UInt8
 ino : Int
 deriving DecidableEq
def encN (x : Nm) : List AV:=[S (bstr x.name),I x.ino]
theorem zgfZ (x : Nm) : (encN x).length=2:=rfl
theorem noIdss_encN (x : Nm) : zdcZ (encN x)=true:=rfl
structure Nd where
 ino : Int
 size : Int
 l : List Ext
 deriving DecidableEq
structure NdV where
 nd : Nd
 R : AV
 h : SV encE 9 nd.l R
abbrev NdV.ino (x : NdV) : Int:=x.nd.ino
def encD (x : NdV) : List AV:=[I x.nd.ino,I x.nd.size,x.R]
theorem zffZ (x : NdV) : (encD x).length=3:=rfl
theorem zbcaZ (x : NdV) : zdcZ (encD x)=true:=by simp [encD,zdcZ,noIds,x.h.1]
theorem encN_0 (x : Nm) (t : List AV) : (encN x ++ t)[0]? = some (S (bstr x.name)):=rfl
theorem encN_1 (x : Nm) (t : List AV) : (encN x ++ t)[1]? = some (I x.ino):=rfl
theorem encD_0 (x : NdV) (t : List AV) : (encD x ++ t)[0]? = some (I x.nd.ino):=rfl
theorem encD_2 (x : NdV) (t : List AV) : (encD x ++ t)[2]? = some x.R:=rfl
theorem encD_c (x : NdV) (t : List AV) : ztZ true 2 (encD x ++ t) 1=some (.agg [I x.nd.size,x.R]):=by simp [ztZ,encD]
theorem koI : KO cmpI where
 eq a b:=by unfold cmpI; split <;> (try split) <;> omega
 anti a b:=by unfold cmpI; split <;> (try split) <;> (try split) <;> omega
 trans a b d:=by unfold cmpI; intro h1 h2; split at h1 <;> split at h2 <;> (try split at h1) <;> (try split at h2) <;> split <;> omega
theorem cmpI_lt {a b : Int} : cmpI a b < 0 ↔ a < b:=by unfold cmpI; split <;> (try split) <;> omega
theorem SV.oneA {α : Type} {enc : α→List AV} {sz : Nat} {l : List α} {v : AV} (h : SV enc sz l v) : oneA v=true:=by
 have h2:=h.2 [];unfold zaZ at h2;split at h2
 all_goals first | rfl | cases h2
def mayB (y : UInt8) : Prop:=(97≤(y.toNat : Int)∧(y.toNat : Int)≤122)∨(48≤(y.toNat : Int)∧(y.toNat : Int)≤57)∨(y.toNat : Int)=46∨(y.toNat : Int)=95∨(y.toNat : Int)=45
instance (y : UInt8) : Decidable (mayB y):=by unfold mayB; infer_instance
def mayN (s : List UInt8) : Prop:=s ≠ []∧s.length≤20∧s[0]? ≠ some 45∧∀ b ∈ s,mayB b
instance (s : List UInt8) : Decidable (mayN s):=by unfold mayN; infer_instance
theorem may_p (y : UInt8) : BPure Tryz.prog 123 [.lit (.int .u8 y.toNat)] (B (decide (mayB y))):=BPure.flat λH=>image_may_ok (by
 unfold image_may;unfold mayB
 by_cases c1 : (97 : Int)≤y.toNat
 ·by_cases c2 : (y.toNat : Int)≤122
  ·simp [c1,c2]
  ·have e1 : ¬ (y.toNat : Int)≤57:=by omega
   have e2 : ¬ (y.toNat : Int)=46:=by omega
   have e3 : ¬ (y.toNat : Int)=95:=by omega
   have e4 : ¬ (y.toNat : Int)=45:=by omega
   simp [c1,c2,e1,e2,e3,e4,show (48 : Int)≤y.toNat by omega]
 ·by_cases c2 : (48 : Int)≤y.toNat
  ·by_cases c3 : (y.toNat : Int)≤57
   ·simp [c1,c2,c3]
   ·by_cases c4 : (y.toNat : Int)=95
    ·simp [c1,c2,c3,c4]
    ·have e2 : ¬ (y.toNat : Int)=46:=by omega
     have e4 : ¬ (y.toNat : Int)=45:=by omega
     simp [c1,c2,c3,c4,e2,e4]
  ·by_cases c4 : (y.toNat : Int)=46
   ·simp [c1,c2,c4]
   ·by_cases c5 : (y.toNat : Int)=95
    ·simp [c1,c2,c4,c5]
    ·by_cases c6 : (y.toNat : Int)=45
     ·simp [c1,c2,c4,c5,c6]
     ·simp [c1,c2,c4,c5,c6])
theorem u8c {y : UInt8} {k : UInt8} {n : Int} (h : (k.toNat : Int)=n) : ((y.toNat : Int)=n)=(y=k):=by
 refine propext ⟨λe=>UInt8.toNat_inj.1 (by omega),λe=>by rw [e]; exact h⟩
theorem zbgdZ {s : List UInt8} (hs : s.length≤9223372036854775807) : BPure Tryz.prog 70 [S (bstr s)] (B (decide (mayN s))):=BPure.flat λH=>image_MayName_ok (by
 unfold image_MayName;rw [bstr_nil,abT_eql,alnT_spec hs]
 have hl : ∀ t : List UInt8,t=s→0 < t.length→t.length≤20→t[0]? ≠ some 45→zrxZ (S (bstr t)) (I t.length) (I 0) H λr H'=>r=B (decide (mayN t))∧H'=H:=by
  intro t _ h0 h20 h45;refine zbakZ (λn x0 x17 x18 H'=>∃ k : Nat,k + n=t.length∧x0=S (bstr t)∧x17=I t.length∧x18=I k∧H'=H∧∀ m y,m < k→t[m]? = some y→mayB y) ?_ t.length ⟨0,by omega,rfl,rfl,rfl,rfl,by omega⟩;rintro n x0 x17 x18 H' R hR ⟨k,hk,rfl,rfl,rfl,rfl,hb⟩;unfold zveZ;rcases Nat.lt_or_ge k t.length with h | h
  ·have hx:=gEG h
   generalize t[k]=y at hx;simp [h,aivT_spec rfl hx];refine zyZ (may_p y) ?_
   by_cases hy : mayB y
   ·simp [hy,zbdZ (a:=k) (b:=1) (by omega) (by omega)]
    refine hR (n - 1) _ _ _ _ (by omega) ⟨k + 1,by omega,rfl,rfl,by simp,rfl, ?_⟩;intro m z hm hz
    by_cases c : m=k
    ·rw [c,hx] at hz; injection hz with hz; rw [← hz]; exact hy
    ·exact hb m z (by omega) hz
   ·have : ¬ mayN t:=λhm=>hy (hm.2.2.2 y (List.mem_of_getElem? hx))
    simp [hy,this]
  ·have : mayN t:=⟨λe=>by rw [e] at h0; simp at h0,h20,h45,λb hb'=>by
    obtain ⟨m,hm⟩:=List.mem_iff_getElem?.1 hb'
    have:=(gSI.1 hm).1
    exact hb m b (by omega) hm⟩
   simp [show ¬ k < t.length by omega,this]
 by_cases h0 : s=[]
 ·subst h0
  simp [mayN]
 ·have hlen : 0 < s.length:=List.length_pos_iff.2 h0
  by_cases h1 : s.length≤20
  ·have hx:=gEG hlen
   have e20 : ¬ (20 : Int) < s.length:=by omega
   generalize s[0]=y at hx;simp [h0,zbbaZ,e20,aivT_spec (k:=0) (i:=0) rfl hx];have e45 : ((y.toNat : Int)=45)=(y=45):=u8c rfl
   by_cases h2 : (y.toNat : Int)=45
   ·have : ¬ mayN s:=λhm=>hm.2.2.1 (by rw [hx,e45.mp h2])
    simp [h2,this]
   ·simp [h2]
    exact hl s rfl hlen h1 (by rw [hx]; intro e; injection e with e; exact h2 (e45.mpr e))
  ·have e20 : (20 : Int) < s.length:=by omega
   have : ¬ mayN s:=λhm=>h1 hm.2.1
   simp [h0,zbbaZ,e20,this])
theorem Compare_p (a b : List UInt8) : BPure Tryz.prog 156 [S (bstr a),S (bstr b)] (I (cmpN a b)):=BPure.flat λH=>strings_Compare_ok (by
 unfold zbbhZ;exact zyZ (λH=>by have:=compareString_calls (bstr a) (bstr b) H; exact this) ⟨rfl,rfl⟩)
theorem named1_p (x : Nm) (s : List UInt8) : BPure Tryz.prog 155 [.agg (encN x),S (bstr s)] (I (cmpN x.name s)):=BPure.val (by simp [zdcZ,noIds,noIdss_encN]) rfl (image_named_1_ok (by
 unfold image_named_1;unfold encN;simp;refine zyZ (Compare_p x.name s) ?_
 rfl))
theorem node1_p (x : NdV) (no : Int) : BPure Tryz.prog 148 [.agg (encD x),I no] (I (cmpI x.nd.ino no)):=BPure.val (by simp [zdcZ,noIds,zbcaZ]) rfl (image_node_1_ok (by
 unfold image_node_1;unfold encD;have h1:=SV.oneA x.h;simp [h1];refine zyZ (cmp_Compare_p x.nd.ino no) ?_
 rfl))
theorem rdh_N (x : Nm) (t : List AV) : ztZ true 2 (encN x ++ t) 0=some (.agg (encN x)):=by
 simp [ztZ,encN]
theorem rdh_D (x : NdV) (t : List AV) : ztZ true 3 (encD x ++ t) 0=some (.agg (encD x)):=by
 simp [ztZ,encD]
theorem goF_N : zbchZ Tryz.prog 155=true:=by kernel_rfl
theorem srch_N {l : List Nm} {v : AV} (hv : SV encN 2 l v) (hs : srtK cmpN Nm.name l) (hl : l.length≤281474976710656) (no : List UInt8) :
  BPure Tryz.prog 154 [v,S (bstr no),.fn (.func 155) [] []] (.tup [I (posK cmpN Nm.name l no),B (decide (hasK Nm.name l no))]):=BPure.val (by simp [zdcZ,noIds,hv.1]) rfl (zekZ (by
 unfold zcnZ;simp [hv.len];refine zdtZ (λn x0 x1 x2 x8 x9 x10 H'=>∃ i j : Nat,i + n=j∧j≤l.length∧x0=v∧x1=S (bstr no)∧x2 = .fn (.func 155) [] []∧x8=I l.length∧x9=I i∧x10=I j∧H'=[]∧(∀ m x,m < i→l[m]? = some x→cmpN (Nm.name x) no < 0)∧(∀ m x,j≤m→l[m]? = some x→¬ cmpN (Nm.name x) no < 0)) ?_ l.length ⟨0,l.length,by simp,by omega,rfl,rfl,rfl,rfl,rfl,rfl,rfl,by simp,λm x hm hx=>by have:=(gSI.1 hx).1; omega⟩;rintro n x0 x1 x2 x8 x9 x10 H' R hR ⟨i,j,hij,hj,rfl,rfl,rfl,rfl,rfl,rfl,rfl,h1,h2⟩;unfold zbzZ;rcases Nat.lt_or_ge i j with hlt | hge
 ·have hx:=gEG (l:=l) (i:=(i + j) / 2) (by omega)
  generalize l[(i + j) / 2]'(by omega)=y at hx;simp [hlt,zbdZ (a:=i) (b:=j) (by omega) (by omega),acI_u64 (n:=(i : Int) + j) (by omega) (by omega),abI_shr1,acI_i64 (a:=((i : Int) + j) / 2) (by omega) (by omega),hv.idx zgfZ hx (i:=((i : Int) + j) / 2) (by omega),goF_N,rdh_N];refine bC_of (named1_p y no []) ?_
  by_cases c1 : cmpN (Nm.name y) no < 0
  ·simp [c1,zbdZ (a:=((i : Int) + j) / 2) (b:=1) (by omega) (by omega)]
   refine hR (j - ((i + j) / 2 + 1)) _ _ _ _ _ _ _ (by omega) ⟨(i + j) / 2 + 1,j,by omega,hj,rfl,rfl,rfl,rfl,by simp,rfl,rfl, ?_,h2⟩;intro m x hm hmx
   by_cases hm2 : m=(i + j) / 2
   ·rw [hm2,hx] at hmx; injection hmx with e; rw [← e]; exact c1
   ·exact koN.trans _ _ _ (zbfcZ hs hmx hx (by omega)) c1
  ·simp [c1]
   refine hR ((i + j) / 2 - i) _ _ _ _ _ _ _ (by omega) ⟨i,(i + j) / 2,by omega,by omega,rfl,rfl,rfl,rfl,rfl,by simp,rfl,h1, ?_⟩;intro m x hm hmx
   by_cases hm2 : m=(i + j) / 2
   ·rw [hm2,hx] at hmx; injection hmx with e; rw [← e]; exact c1
   ·intro c2
    exact c1 (koN.trans _ _ _ (zbfcZ hs hx hmx (by omega)) c2)
 ·have hi : i=j:=by omega
  subst hi;have hp : posK cmpN Nm.name l no=i:=posK_eq (by omega) h1 (λx hx=>h2 i x (by omega) hx);rcases Nat.lt_or_ge i l.length with hil | hil
  ·have hx:=gEG (l:=l) (i:=i) hil
   generalize l[i]=y at hx
   have hh : hasK Nm.name l no ↔ cmpN (Nm.name y) no=0:=by
    rw [zbfsZ koN hs,hp,koN.eq]
    constructor
    ·rintro ⟨z,hz,e⟩
     rw [hx] at hz; injection hz with hz; rw [hz,e]
    ·intro e
     exact ⟨y,hx,e⟩
   simp [hil,hv.idx zgfZ hx rfl,goF_N,rdh_N];refine bC_of (named1_p y no []) ?_;simp [hp,hh]
  ·have hn : ¬ hasK Nm.name l no:=by
    rw [zbfsZ koN hs,hp];rintro ⟨z,hz,e⟩
    have:=(gSI.1 hz).1
    omega
   simp [show ¬ i < l.length by omega,hp,hn]))
theorem goF_D : zbchZ Tryz.prog 148=true:=by kernel_rfl
theorem srch_D {l : List NdV} {v : AV} (hv : SV encD 3 l v) (hs : srtK cmpI NdV.ino l) (hl : l.length≤281474976710656) (no : Int) :
  BPure Tryz.prog 147 [v,I no,.fn (.func 148) [] []] (.tup [I (posK cmpI NdV.ino l no),B (decide (hasK NdV.ino l no))]):=BPure.val (by simp [zdcZ,noIds,hv.1]) rfl (zewZ (by
 unfold zdaZ;simp [hv.len];refine zedZ (λn x0 x1 x2 x8 x9 x10 H'=>∃ i j : Nat,i + n=j∧j≤l.length∧x0=v∧x1=I no∧x2 = .fn (.func 148) [] []∧x8=I l.length∧x9=I i∧x10=I j∧H'=[]∧(∀ m x,m < i→l[m]? = some x→cmpI (NdV.ino x) no < 0)∧(∀ m x,j≤m→l[m]? = some x→¬ cmpI (NdV.ino x) no < 0)) ?_ l.length ⟨0,l.length,by simp,by omega,rfl,rfl,rfl,rfl,rfl,rfl,rfl,by simp,λm x hm hx=>by have:=(gSI.1 hx).1; omega⟩;rintro n x0 x1 x2 x8 x9 x10 H' R hR ⟨i,j,hij,hj,rfl,rfl,rfl,rfl,rfl,rfl,rfl,h1,h2⟩;unfold zcfZ;rcases Nat.lt_or_ge i j with hlt | hge
 ·have hx:=gEG (l:=l) (i:=(i + j) / 2) (by omega)
  generalize l[(i + j) / 2]'(by omega)=y at hx;simp [hlt,zbdZ (a:=i) (b:=j) (by omega) (by omega),acI_u64 (n:=(i : Int) + j) (by omega) (by omega),abI_shr1,acI_i64 (a:=((i : Int) + j) / 2) (by omega) (by omega),hv.idx zffZ hx (i:=((i : Int) + j) / 2) (by omega),goF_D,rdh_D];refine bC_of (node1_p y no []) ?_
  by_cases c1 : cmpI (NdV.ino y) no < 0
  ·simp [c1,zbdZ (a:=((i : Int) + j) / 2) (b:=1) (by omega) (by omega)]
   refine hR (j - ((i + j) / 2 + 1)) _ _ _ _ _ _ _ (by omega) ⟨(i + j) / 2 + 1,j,by omega,hj,rfl,rfl,rfl,rfl,by simp,rfl,rfl, ?_,h2⟩;intro m x hm hmx
   by_cases hm2 : m=(i + j) / 2
   ·rw [hm2,hx] at hmx; injection hmx with e; rw [← e]; exact c1
   ·exact koI.trans _ _ _ (zbfcZ hs hmx hx (by omega)) c1
  ·simp [c1]
   refine hR ((i + j) / 2 - i) _ _ _ _ _ _ _ (by omega) ⟨i,(i + j) / 2,by omega,by omega,rfl,rfl,rfl,rfl,rfl,by simp,rfl,h1, ?_⟩;intro m x hm hmx
   by_cases hm2 : m=(i + j) / 2
   ·rw [hm2,hx] at hmx; injection hmx with e; rw [← e]; exact c1
   ·intro c2
    exact c1 (koI.trans _ _ _ (zbfcZ hs hx hmx (by omega)) c2)
 ·have hi : i=j:=by omega
  subst hi;have hp : posK cmpI NdV.ino l no=i:=posK_eq (by omega) h1 (λx hx=>h2 i x (by omega) hx);rcases Nat.lt_or_ge i l.length with hil | hil
  ·have hx:=gEG (l:=l) (i:=i) hil
   generalize l[i]=y at hx
   have hh : hasK NdV.ino l no ↔ cmpI (NdV.ino y) no=0:=by
    rw [zbfsZ koI hs,hp,koI.eq]
    constructor
    ·rintro ⟨z,hz,e⟩
     rw [hx] at hz; injection hz with hz; rw [hz,e]
    ·intro e
     exact ⟨y,hx,e⟩
   simp [hil,hv.idx zffZ hx rfl,goF_D,rdh_D];refine bC_of (node1_p y no []) ?_;simp [hp,hh]
  ·have hn : ¬ hasK NdV.ino l no:=by
    rw [zbfsZ koI hs,hp];rintro ⟨z,hz,e⟩
    have:=(gSI.1 hz).1
    omega
   simp [show ¬ i < l.length by omega,hp,hn]))
def encM (ps : List (Int × AV)) : List (Value × AV):=ps.map λp=>(.int .i64 p.1,p.2)
def look (z : AV) (ps : List (Int × AV)) (k : Int) : AV:=match ps.find? (λp=>p.1 == k) with
 | some p => p.2
 | none => z
theorem same_int (a b : Int) : Instr.sameNow (.int .i64) (.int .i64 a) (.int .i64 b)=some (a == b):=rfl
theorem findA_int (k : Int) : ∀ (ps : List (Int × AV)) (i : Nat),findA (.int .i64) (.int .i64 k) (encM ps) i=some ((ps.findIdx? (λp=>p.1 == k)).bind λj=>(ps[j]?).map λp=>(i + j,p.2))
 | [],i => rfl
 | p :: ps,i => by
  show (match Instr.sameNow (.int .i64) (.int .i64 k) (.int .i64 p.1) with
   | some true => some (some (i,p.2))
   | some false => findA (.int .i64) (.int .i64 k) (encM ps) (i + 1)
   | none => none)=_
  rw [same_int,List.findIdx?_cons]
  by_cases h : p.1=k
  ·have h' : (k == p.1)=true:=by simp [h]
   have h2 : (p.1 == k)=true:=by simp [h]
   simp [h',h2]
  ·have h' : (k == p.1)=false:=by simp; omega
   have h2 : (p.1 == k)=false:=by simp [h]
   simp only [h',h2];rw [findA_int k ps (i + 1)];cases ps.findIdx? (λp=>p.1 == k) with
   | none => rfl
   | some j =>
    simp;cases ps[j]? with
    | none => rfl
    | some q => simp; omega
theorem look_none {z : AV} {ps : List (Int × AV)} {k : Int} (h : ps.findIdx? (λp=>p.1 == k)=none) : look z ps k=z:=by
 have : ps.find? (λp=>p.1 == k)=none:=by
  rw [List.find?_eq_none];intro x hx;rw [List.findIdx?_eq_none_iff] at h
  simpa using h x hx
 unfold look; rw [this]
theorem look_some {z : AV} {ps : List (Int × AV)} {k : Int} {j : Nat} (h : ps.findIdx? (λp=>p.1 == k)=some j) : ∃ p,ps[j]? = some p∧p.1=k∧look z ps k=p.2:=by
 obtain ⟨h1,h2,h3⟩:=List.findIdx?_eq_some_iff_getElem.1 h;refine ⟨ps[j],gEG h1,by simpa using h2, ?_⟩
 have : ps.find? (λp=>p.1 == k)=some ps[j]:=by
  rw [List.find?_eq_some_iff_getElem];exact ⟨h2,j,h1,rfl,λi hi=>by simpa using h3 i hi⟩
 unfold look; rw [this]
theorem alk_int {H : AH} {o : Nat} {zv : Value} {ps : List (Int × AV)} {k : Int} (h : H[o]? = some (some (.map (encM ps)))) : alk (.int .i64) zv H (.mp o) (.lit (.int .i64 k)) false=some (look (.ofV zv) ps k):=by
 have hk : keyB (.int .i64) (.int .i64 k)=true:=rfl;unfold alk entriesA;simp only [h,hk,if_true,findA_int];cases hf : ps.findIdx? (λp=>p.1 == k) with
 | none => rw [look_none hf]; rfl
 | some j =>
  obtain ⟨p,h1,h2,h3⟩:=look_some (z:=.ofV zv) hf;simp [h1,h3]
def putM (ps : List (Int × AV)) (k : Int) (v : AV) : List (Int × AV):=match ps.findIdx? (λp=>p.1 == k) with
 | some j => ps.set j (k,v)
 | none => ps ++ [(k,v)]
theorem amu_int {H : AH} {o : Nat} {ps : List (Int × AV)} {k : Int} {v : AV} (h : H[o]? = some (some (.map (encM ps)))) : amu (.int .i64) H (.mp o) (.lit (.int .i64 k)) v=some (H.set o (some (.map (encM (putM ps k v))))):=by
 have hk : keyB (.int .i64) (.int .i64 k)=true:=rfl;unfold amu putM;simp only [h,hk,if_true,findA_int];cases hf : ps.findIdx? (λp=>p.1 == k) with
 | none => simp [encM]
 | some j =>
  obtain ⟨p,h1,h2,h3⟩:=look_some (z:=.junk) hf;simp [h1,encM,List.map_set]
def dataL (size pos : Int) : List Ext→Option Int
 | [] => none
 | x :: r => if max pos (x.no * 8) < min size ((x.no + 1) * 8) then some (max pos (x.no * 8)) else dataL size pos r
def dataC (size : Int) (l : List Ext) (pos : Int) : Option Int:=if mayC size l∧0≤pos then dataL size pos l else none
theorem dataL_cons {size pos : Int} {x : Ext} {r : List Ext} : dataL size pos (x :: r)=if max pos (x.no * 8) < min size ((x.no + 1) * 8) then some (max pos (x.no * 8)) else dataL size pos r:=rfl
theorem extent_Data_p {size : Int} {l : List Ext} {v : AV} (hv : SV encE 9 l v) (hl : l.length≤281474976710656) (pos : Int) :
  BPure Tryz.prog 142 [.agg [I size,v],I pos] (oI (dataC size l pos)):=BPure.val (by simp [zdcZ,noIds,hv.1]) (by cases dataC size l pos <;> rfl) (extent_Data_ok (by
 unfold extent_Data;simp [znnZ hv,ztZ];refine zyZ (zjjZ hv hl) ?_
 by_cases h1 : mayC size l
 ·by_cases h2 : pos < 0
  ·have : ¬ (mayC size l∧0≤pos):=λh=>by omega
   simp [h1,h2,dataC,oI,show ¬ (0 : Int)≤pos by omega]
  ·have e : dataC size l pos=dataL size pos l:=if_pos ⟨h1,by omega⟩
   simp [h1,h2,hv.len,e];refine zbcxZ (λn x1 x2 x17 x18 x19 H'=>∃ (k : Nat),k + n=l.length∧x1=I pos∧x2 = .ptr 0 0∧x17=v∧x18=I l.length∧x19=I k∧(∃ X,H'=some (.cells [I size,v]) :: X)∧dataL size pos l=dataL size pos (l.drop k)) ?_ l.length ⟨0,by simp,rfl,rfl,rfl,rfl,rfl,⟨[],rfl⟩,by simp⟩;rintro n x1 x2 x17 x18 x19 H' R hR ⟨k,hk,rfl,rfl,rfl,rfl,rfl,⟨X,rfl⟩,hm⟩;unfold zzfZ;rcases Nat.lt_or_ge k l.length with hlt | hge
   ·have hx:=gEG hlt
    generalize l[k]=y at hx;rw [zmiZ hx,dataL_cons] at hm;have hy:=zbgkZ h1.2.2 y (List.mem_of_getElem? hx);simp [hlt,hv.idx zbmZ hx rfl,-zhpZ];rw [← List.cons_append,ast_e (by simp) (by rfl)];simp [zshZ (a:=y.no) (b:=8) (by omega) (by omega),zbdZ (a:=y.no) (b:=1) (by omega) (by omega),zshZ (a:=y.no + 1) (b:=8) (by omega) (by omega)];have c : (max pos (y.no * 8) < min size ((y.no + 1) * 8)) ↔ (max (y.no * 8) pos < min ((y.no + 1) * 8) size):=by omega
    by_cases c1 : max (y.no * 8) pos < min ((y.no + 1) * 8) size
    ·rw [if_pos (c.2 c1)] at hm
     simp [hm,c1,oI];omega
    ·rw [if_neg (λh=>c1 (c.1 h))] at hm
     simp [c1,zbdZ (a:=k) (b:=1) (by omega) (by omega)];exact hR (n - 1) _ _ _ _ _ _ (by omega) ⟨k + 1,by omega,rfl,rfl,rfl,rfl,rfl,⟨X ++ [some (.cells (encE y))],rfl⟩,hm⟩
   ·have : k=l.length:=by omega
    subst this;rw [List.drop_length] at hm;simp [hm,dataL,oI]
 ·simp [h1,dataC,oI]))
theorem ref_DataContent_p {size : Int} {l : List Ext} {v : AV} (hv : SV encE 9 l v) (hl : l.length≤281474976710656) (pos : Int) :
  BPure Tryz.prog 143 [.agg [I size,v],I pos] (oI (dataC size l pos)):=BPure.val (by simp [zdcZ,noIds,hv.1]) (by cases dataC size l pos <;> rfl) (zteZ (by
 unfold zmtZ;simp [znnZ hv,ztZ];refine zyZ (zdoZ hv hl) ?_
 by_cases h1 : mayC size l
 ·by_cases h2 : pos < 0
  ·simp [h1,h2,dataC,oI,show ¬ (0 : Int)≤pos by omega]
  ·have e : dataC size l pos=dataL size pos l:=if_pos ⟨h1,by omega⟩
   simp [h1,h2,hv.len,e];refine znzZ (λn x1 x2 x6 H'=>∃ (k : Nat),k + n=l.length∧x1=I pos∧x2 = .ptr 0 0∧x6=I k∧H'=[some (.cells [I size,v])]∧dataL size pos l=dataL size pos (l.drop k)) ?_ l.length ⟨0,by simp,rfl,rfl,rfl,rfl,by simp⟩;rintro n x1 x2 x6 H' R hR ⟨k,hk,rfl,rfl,rfl,rfl,hm⟩;unfold zhtZ;rcases Nat.lt_or_ge k l.length with hlt | hge
   ·have hx:=gEG hlt
    generalize l[k]=y at hx;rw [zmiZ hx,dataL_cons] at hm;have hy:=zbgkZ h1.2.2 y (List.mem_of_getElem? hx);simp [hlt,hv.len,hv.idx zbmZ hx rfl,zshZ (a:=y.no) (b:=8) (by omega) (by omega),zbdZ (a:=y.no) (b:=1) (by omega) (by omega),zshZ (a:=y.no + 1) (b:=8) (by omega) (by omega)]
    have nxt : ¬ max pos (y.no * 8) < min size ((y.no + 1) * 8)→(bO (abI .add (I k) (I 1)) λv30=>R [I pos,.ptr 0 0,v30] [some (.cells [I size,v])]):=by
     intro hc;rw [if_neg hc] at hm;simp [zbdZ (a:=k) (b:=1) (by omega) (by omega)];exact hR (n - 1) _ _ _ _ (by omega) ⟨k + 1,by omega,rfl,rfl,rfl,rfl,hm⟩
    by_cases c1 : max pos (y.no * 8) < (y.no + 1) * 8
    ·by_cases c2 : max pos (y.no * 8) < size
     ·rw [if_pos (by omega)] at hm
      simp [c1,c2,hm,oI]
     ·simp [c1,c2]
      exact nxt (by omega)
    ·simp [c1]
     exact nxt (by omega)
   ·have : k=l.length:=by omega
    subst this;rw [List.drop_length] at hm;simp [hm,hv.len,dataL,oI]
 ·simp [h1,dataC,oI]))
def holeR (size : Int) (l : List Ext) (pos h : Int) : Prop:=pos≤h∧h≤size∧(∀ p,pos≤p→p < h→hasL l (p / 8))∧(h=size∨¬ hasL l (h / 8))
theorem holeR.uniq {size : Int} {l : List Ext} {pos h1 h2 : Int} (a : holeR size l pos h1) (b : holeR size l pos h2) : h1=h2:=by
 rcases Int.lt_trichotomy h1 h2 with h | h | h
 ·rcases a.2.2.2 with e | e
  ·have:=b.2.1; omega
  ·exact (e (b.2.2.1 h1 a.1 h)).elim
 ·exact h
 ·rcases b.2.2.2 with e | e
  ·have:=a.2.1; omega
  ·exact (e (a.2.2.1 h2 b.1 h)).elim
theorem hole_ex {size : Int} {l : List Ext} : ∀ (n : Nat) (pos : Int),size - pos=n→∃ h,holeR size l pos h:=by
 intro n
 induction n using Nat.strongRecOn with
 | ind n ih =>
  intro pos hn
  by_cases h0 : pos=size
  ·exact ⟨size,by omega,by omega,λp h1 h2=>by omega,.inl rfl⟩
  ·by_cases h1 : hasL l (pos / 8)
   ·obtain ⟨h,a1,a2,a3,a4⟩:=ih (size - min size ((pos / 8 + 1) * 8)).toNat (by omega) (min size ((pos / 8 + 1) * 8)) (by omega)
    refine ⟨h,by omega,a2,λp h2 h3=>?_,a4⟩
    by_cases h4 : p < min size ((pos / 8 + 1) * 8)
    ·rw [show p / 8=pos / 8 by omega]; exact h1
    ·exact a3 p (by omega) h3
   ·exact ⟨pos,by omega,by omega,λp h2 h3=>by omega,.inr h1⟩
open Classical in
noncomputable def holeC (size : Int) (l : List Ext) (pos : Int) : Option Int:=if h : mayC size l∧0≤pos∧pos < size then some (hole_ex (size:=size) (l:=l) (size - pos).toNat pos (by omega)).choose else none
theorem holeC_none {size : Int} {l : List Ext} {pos : Int} (h : ¬ (mayC size l∧0≤pos∧pos < size)) : holeC size l pos=none:=dif_neg h
theorem holeC_some {size : Int} {l : List Ext} {pos : Int} (h : mayC size l∧0≤pos∧pos < size) : ∃ p,holeC size l pos=some p∧holeR size l pos p :=
 ⟨_,dif_pos h,(hole_ex (size:=size) (l:=l) (size - pos).toNat pos (by omega)).choose_spec⟩
theorem extent_Hole_p {size : Int} {l : List Ext} {v : AV} (hv : SV encE 9 l v) (hl : l.length≤281474976710656) (pos : Int) :
  BPure Tryz.prog 144 [.agg [I size,v],I pos] (oI (holeC size l pos)):=BPure.val (by simp [zdcZ,noIds,hv.1]) (by cases holeC size l pos <;> rfl) (extent_Hole_ok (by
 unfold extent_Hole;simp [znnZ hv,ztZ];refine zyZ (zjjZ hv hl) ?_
 by_cases h0 : mayC size l∧0≤pos∧pos < size
 ·obtain ⟨q,e,hq⟩:=holeC_some h0
  obtain ⟨h1,h2,h3⟩:=h0;have hs:=zbfgZ h1.2.2;have hsz:=h1.2.1;simp [h1,show ¬ pos < 0 by omega,show ¬ size≤pos by omega,e,oI];refine zbcsZ (λn x2 x6 H'=>∃ p : Int,(size + 8 - p).toNat=n∧x2 = .ptr 0 0∧x6=I p∧H'=[some (.cells [I size,v])]∧pos≤p∧p≤size + 7∧∀ r,pos≤r→r < p→r < size→hasL l (r / 8)) ?_ (size + 8 - pos).toNat ⟨pos,rfl,rfl,rfl,rfl,by omega,by omega,λr a b c=>by omega⟩;rintro n x2 x6 H' R hR ⟨p,hn,rfl,rfl,rfl,hp1,hp2,hp⟩;unfold zzoZ
  by_cases c1 : p < size
  ·simp [c1,zbgjZ (a:=p) (b:=8) (by omega) (by omega)]
   refine zyZ (zbfeZ hv hs hl (p / 8)) ?_
   by_cases c2 : hasL l (p / 8)
   ·simp [c2,zbdZ (a:=p / 8) (b:=1) (by omega) (by omega),zshZ (a:=p / 8 + 1) (b:=8) (by omega) (by omega)]
    refine hR (size + 8 - (p / 8 + 1) * 8).toNat _ _ _ (by omega) ⟨(p / 8 + 1) * 8,rfl,rfl,rfl,rfl,by omega,by omega,λr a b c=>?_⟩
    by_cases c3 : r < p
    ·exact hp r a c3 c
    ·rw [show r / 8=p / 8 by omega]; exact c2
   ·simp [c2]
    exact holeR.uniq ⟨hp1,by omega,λr a b=>hp r a b (by omega),.inr c2⟩ hq
  ·simp [c1]
   exact holeR.uniq ⟨by omega,by omega,λr a b=>hp r a (by omega) b,.inl rfl⟩ hq
 ·rw [holeC_none h0]
  by_cases h1 : mayC size l
  ·by_cases h2 : pos < 0
   ·simp [h1,h2,oI]
   ·have h3 : size≤pos:=by
     rcases Int.lt_or_le pos size with h | h
     ·exact (h0 ⟨h1,by omega,h⟩).elim
     ·exact h
    simp [h1,h2,h3,oI]
  ·simp [h1,oI]))
theorem ref_HoleContent_p {size : Int} {l : List Ext} {v : AV} (hv : SV encE 9 l v) (hl : l.length≤281474976710656) (pos : Int) :
  BPure Tryz.prog 145 [.agg [I size,v],I pos] (oI (holeC size l pos)):=BPure.val (by simp [zdcZ,noIds,hv.1]) (by cases holeC size l pos <;> rfl) (ztjZ (by
 unfold zmxZ;simp [znnZ hv,ztZ];refine zyZ (zdoZ hv hl) ?_
 by_cases h0 : mayC size l∧0≤pos∧pos < size
 ·obtain ⟨q,e,hq⟩:=holeC_some h0
  obtain ⟨h1,h2,h3⟩:=h0;have hs:=zbfgZ h1.2.2;have hsz:=h1.2.1;simp [h1,show ¬ pos < 0 by omega,show ¬ size≤pos by omega,e,oI];refine znwZ (λn x1 x2 H'=>∃ p : Int,(1099511627784 - p).toNat=n∧x2 = .ptr 0 0∧x1=I p∧H'=[some (.cells [I size,v])]∧pos≤p∧p≤1099511627776∧∀ r,pos≤r→r < p→hasL l (r / 8)) ?_ (1099511627784 - pos).toNat ⟨pos,rfl,rfl,rfl,rfl,by omega,by omega,λr a b=>by omega⟩;rintro n x1 x2 H' R hR ⟨p,hn,rfl,rfl,rfl,hp1,hp2,hp⟩;unfold zhsZ;simp [ztZ,zbgjZ (a:=p) (b:=8) (by omega) (by omega)];refine zyZ (ref_find_p hv hs hl (p / 8)) ?_
  by_cases c2 : hasL l (p / 8)
  ·obtain ⟨x,hx,hxe⟩:=c2
   have hxb:=zbgkZ h1.2.2 x hx;have c2 : hasL l (p / 8):=⟨x,hx,hxe⟩;simp [c2,zbdZ (a:=p / 8) (b:=1) (by omega) (by omega),zshZ (a:=p / 8 + 1) (b:=8) (by omega) (by omega)];refine hR (1099511627784 - (p / 8 + 1) * 8).toNat _ _ _ (by omega) ⟨(p / 8 + 1) * 8,rfl,rfl,rfl,rfl,by omega,by omega,λr a b=>?_⟩
   by_cases c3 : r < p
   ·exact hp r a c3
   ·rw [show r / 8=p / 8 by omega]; exact c2
  ·simp [c2]
   by_cases c4 : p < size
   ·rw [show min size p=p by omega]
    exact holeR.uniq ⟨hp1,by omega,λr a b=>hp r a b,.inr c2⟩ hq
   ·rw [show min size p=size by omega]
    exact holeR.uniq ⟨by omega,by omega,λr a b=>hp r a (by omega),.inl rfl⟩ hq
 ·rw [holeC_none h0]
  by_cases h1 : mayC size l
  ·by_cases h2 : pos < 0
   ·simp [h1,h2,oI]
   ·have h3 : size≤pos:=by
     rcases Int.lt_or_le pos size with h | h
     ·exact (h0 ⟨h1,by omega,h⟩).elim
     ·exact h
    simp [h1,h2,h3,oI]
  ·simp [h1,oI]))
def atL (l : List Ext) (p : Int) : UInt8:=match l.find? λx=>decide (x.no=p / 8) with
 | some x => x.b.getD (p % 8).toNat 0
 | none => 0
theorem zvrZ {l : List Ext} {p : Int} (h : ¬ hasL l (p / 8)) : atL l p=0:=by
 have : l.find? (λx=>decide (x.no=p / 8))=none:=by
  rw [List.find?_eq_none];intro x hx he;exact h ⟨x,hx,by simpa using he⟩
 unfold atL; rw [this]
theorem atL_some {l : List Ext} (hs : srt l) {p : Int} {k : Nat} {x : Ext} (hx : l[k]? = some x) (he : x.no=p / 8) : atL l p=x.b.getD (p % 8).toNat 0:=by
 have : l.find? (λx=>decide (x.no=p / 8))=some x:=by
  rw [List.find?_eq_some_iff_getElem];obtain ⟨h1,h2⟩:=gSI.1 hx;refine ⟨by simp [he],k,h1,h2, ?_⟩;intro j hj
  have:=srt_get hs (gEG (Nat.lt_trans hj h1)) hx hj
  simp; omega
 unfold atL; rw [this]
def inC (size : Int) (l : List Ext) (pos n : Int) : Prop:=mayC size l∧0≤pos∧0≤n∧n≤4096∧pos < size
instance (size : Int) (l : List Ext) (pos n : Int) : Decidable (inC size l pos n):=by unfold inC; infer_instance
def zbfkZ (l : List Ext) (pos : Int) (k : Nat) : List UInt8:=(List.range k).map fun (i : Nat) => atL l (pos + (i : Int))
theorem zytZ (l : List Ext) (pos : Int) (k : Nat) : (zbfkZ l pos k).length=k:=by simp [zbfkZ]
theorem bytesL_succ (l : List Ext) (pos : Int) (k : Nat) : zbfkZ l pos (k + 1)=zbfkZ l pos k ++ [atL l (pos + k)]:=by simp [zbfkZ,List.range_succ]
def readC (size : Int) (l : List Ext) (pos n : Int) : List UInt8:=if inC size l pos n then zbfkZ l pos (min n (size - pos)).toNat else []
theorem ref_At_p {size : Int} {l : List Ext} {v : AV} (hv : SV encE 9 l v) (hs : srt l) (hl : l.length≤281474976710656) (pos : Int) (h0 : 0≤pos) (h1 : pos≤9223372036854775807) :
  BPure Tryz.prog 160 [.agg [I size,v],I pos] (.lit (.int .u8 (atL l pos).toNat)):=BPure.val (by simp [zdcZ,noIds,hv.1]) rfl (salvorref11_At_ok (by
 unfold zbenZ;simp [znnZ hv,ztZ,zbgjZ (a:=pos) (b:=8) (by omega) (by omega)];refine zyZ (ref_find_p hv hs hl (pos / 8)) ?_
 by_cases c : hasL l (pos / 8)
 ·obtain ⟨x,hx,he⟩:=(hasL_iff hs).1 c
  have hb:=x.hb;have hr : (pos % 8)=((pos % 8).toNat : Int):=by omega
  have hy:=gEG (l:=x.b) (i:=(pos % 8).toNat) (by omega);generalize hu : x.b[(pos % 8).toNat]'(by omega)=u at hy;obtain ⟨q,e1,e2⟩:=aixA_b (t:=(l.drop (posL l (pos / 8) + 1)).flatMap encE) (H:=[some (.cells [I size,v])]) hy (by omega);have e0 : (encE x ++ (l.drop (posL l (pos / 8) + 1)).flatMap encE).drop 1=encB x.b ++ (l.drop (posL l (pos / 8) + 1)).flatMap encE:=rfl;rw [← hr] at e1;have hn : ¬ ((posL l (pos / 8) : Nat) : Int) < 0:=by omega
  simp [c,hn,hv.idx zbmZ hx rfl,abI_rem (a:=pos) (b:=8) (by omega) (by omega),e0,e1,e2,atL_some hs hx he,List.getD_eq_getElem?_getD,hy]
 ·simp [c,zvrZ c]))
theorem ref_ReadContent_p {size : Int} {l : List Ext} {v : AV} (hv : SV encE 9 l v) (hl : l.length≤281474976710656) (pos n : Int) :
  ∃ r,SV encU 1 (readC size l pos n) r∧BPure Tryz.prog 104 [.agg [I size,v],I pos,I n] r:=by
 unfold SV;simp only [zbctZ]
 have : ∃ r,(noIds r=true∧∀ H,zaZ H 1 r=some (encB (readC size l pos n),(readC size l pos n).length))∧BPure Tryz.prog 104 [.agg [I size,v],I pos,I n] r:=by
  refine BPure.sl (sz:=1) (by simp [zdcZ,noIds,hv.1]) (zynZ _) (ztgZ ?_);unfold znbZ;simp [znnZ hv,ztZ];refine zyZ (zdoZ hv hl) ?_
  have nix : ∀ H,¬ inC size l pos n→zaZ H 1 nilSl=some (encB (readC size l pos n),(readC size l pos n).length):=by
   intro H h;have : readC size l pos n=[]:=if_neg h;rw [this]; rfl
  by_cases h1 : mayC size l
  ·by_cases h2 : pos < 0
   ·simp [h1,h2,nix _ (λh=>by have:=h.2.1; omega)]
   ·by_cases h3 : n < 0
    ·simp [h1,h2,h3,nix _ (λh=>by have:=h.2.2.1; omega)]
    ·by_cases h4 : 4096 < n
     ·simp [h1,h2,h3,h4,nix _ (λh=>by have:=h.2.2.2.1; omega)]
     ·simp [h1,h2,h3,h4]
      have hs:=zbfgZ h1.2.2;have hsz:=h1.2.1;have hsz0:=h1.1
      have hm : ∃ m : Nat,(m=min n (size - pos)∨(size≤pos∧m=0))∧readC size l pos n=zbfkZ l pos m:=by
       by_cases h5 : pos < size
       ·exact ⟨(min n (size - pos)).toNat,.inl (by omega),if_pos ⟨h1,by omega,by omega,by omega,h5⟩⟩
       ·refine ⟨0,.inr ⟨by omega,rfl⟩,(if_neg (λh=>h5 h.2.2.2.2)).trans rfl⟩
      obtain ⟨m,hm,hr⟩:=hm;rw [hr,zytZ];refine zoaZ (λq x1 x2 x3 x7 x8 H'=>∃ k : Nat,k + q=m∧x1=I pos∧x2=I n∧x3 = .ptr 0 0∧x8=I k∧H'[0]? = some (some (.cells [I size,v]))∧zjsZ x7=true∧zaZ H' 1 x7=some (encB (zbfkZ l pos k),k)∧0 ∉ idS x7) ?_ m ⟨0,by omega,rfl,rfl,rfl,rfl,rfl,rfl,rfl,by simp [idS]⟩;rintro q x1 x2 x3 x7 x8 H R hR ⟨k,hk,rfl,rfl,rfl,rfl,hH,ho,hsl,hid⟩;unfold zhlZ
      by_cases hc : k < m
      ·have c1 : (k : Int) < n:=by omega
       have c2 : pos < size - k:=by omega
       simp [c1,hH,zfpZ (a:=size) (b:=k) (by omega) (by omega),c2,ztZ,zbdZ (a:=pos) (b:=k) (by omega) (by omega)];refine zyZ (ref_At_p hv hs hl (pos + k) (by omega) (by omega)) ?_;have hH0:=(gSI.1 hH).1;have hs1 : zaZ (H ++ [some (.cells (encB [atL l (pos + k)]))]) 1 x7=some (encB (zbfkZ l pos k),k):=zcZ hsl λi hi=>List.getElem?_append_left (zrZ hsl i hi)
       obtain ⟨r,H2,a1,a2,a3,a4,a5,a6⟩:=zjmZ (bytes:=1) hs1 ho (znZ (v:=.sl H.length 0 1 1 (.ex 1)) (q:=(encB [atL l (pos + k)],1)) (by simp [zaZ,encB])) (by omega);have e : encB [atL l (pos + k)]=[.lit (.int .u8 (atL l (pos + k)).toNat)]:=rfl;rw [e] at a1 a5
       have hH2 : H2[0]? = some (some (.cells [I size,v])):=by
        rw [a5 0 (by simp) hid,List.getElem?_append_left hH0]; exact hH
       simp [a1,zbdZ (a:=k) (b:=1) (by omega) (by omega)];refine hR (q - 1) _ _ _ _ _ _ (by omega) ⟨k + 1,by omega,rfl,rfl,rfl,rfl,hH2,a2, ?_,λhi=>(a6 0 hi).elim hid (by simp)⟩;rw [a3,bytesL_succ,encB_app]
      ·have c1 : ¬ ((k : Int) < n∧pos < size - k):=by omega
       have hkm : k=m:=by omega
       subst hkm
       by_cases c2 : (k : Int) < n
       ·have c3 : ¬ pos < size - k:=λh=>c1 ⟨c2,h⟩
        simp [c2,hH,zfpZ (a:=size) (b:=k) (by omega) (by omega),c3,hsl]
       ·simp [c2,hsl]
  ·simp [h1,nix _ (λh=>h1 h.1)]
 exact this
theorem srt_take {l : List Ext} (h : srt l) (k : Nat) : srt (l.take k):=List.Pairwise.sublist (List.take_sublist k l) h
theorem atL_succ {l : List Ext} (hs : srt l) {k : Nat} {y : Ext} (hx : l[k]? = some y) (p : Int) : atL (l.take (k + 1)) p=if y.no=p / 8 then y.b.getD (p % 8).toNat 0 else atL (l.take k) p:=by
 split
 ·rename_i h
  exact atL_some (srt_take hs (k + 1)) (k:=k) (by rw [List.getElem?_take,if_pos (by omega)]; exact hx) h
 ·rename_i h
  unfold atL;rw [List.take_add_one,hx,List.find?_append];simp [h]
theorem zrfZ {l : List Ext} {pos : Int} {m i : Nat} : (zbfkZ l pos m)[i]? = if i < m then some (atL l (pos + i)) else none:=by
 unfold zbfkZ;rw [List.getElem?_map]
 by_cases h : i < m
 ·simp [h]
 ·simp [h]
theorem read_skip {l : List Ext} (hs : srt l) {k m : Nat} {y : Ext} (hx : l[k]? = some y) {pos : Int} (h : ¬ max (y.no * 8) pos < min (y.no * 8 + 8) (pos + m)) : zbfkZ (l.take (k + 1)) pos m=zbfkZ (l.take k) pos m:=by
 refine List.ext_getElem? λi=>?_
 rw [zrfZ,zrfZ]
 split
 ·rw [atL_succ hs hx,if_neg (by omega)]
 ·rfl
theorem read_step {l : List Ext} (hs : srt l) {k m : Nat} {y : Ext} (hx : l[k]? = some y) {pos : Int} {off from' mlen : Nat} (h : max (y.no * 8) pos < min (y.no * 8 + 8) (pos + m))
  (h1 : (off : Int)=max (y.no * 8) pos - pos) (h2 : (from' : Int)=max (y.no * 8) pos - y.no * 8) (h3 : (mlen : Int)=min (y.no * 8 + 8) (pos + m) - max (y.no * 8) pos) :
  (zbfkZ (l.take k) pos m).take off ++ ((y.b.drop from').take mlen) ++ (zbfkZ (l.take k) pos m).drop (off + mlen)=zbfkZ (l.take (k + 1)) pos m:=by
 have hb:=y.hb;refine List.ext_getElem? λi=>?_
 have hl1 : ((zbfkZ (l.take k) pos m).take off).length=off:=by rw [List.length_take,zytZ]; omega
 have hl2 : ((y.b.drop from').take mlen).length=mlen:=by rw [List.length_take,List.length_drop]; omega
 by_cases c1 : i < off
 ·rw [List.append_assoc,List.getElem?_append_left (by omega),List.getElem?_take,if_pos c1,zrfZ,zrfZ]
  split
  ·rw [atL_succ hs hx,if_neg (by omega)]
  ·rfl
 ·by_cases c2 : i < off + mlen
  ·rw [List.getElem?_append_left (by rw [List.length_append]; omega),List.getElem?_append_right (by omega),hl1,List.getElem?_take,if_pos (by omega),List.getElem?_drop,zrfZ,if_pos (by omega),atL_succ hs hx,if_pos (by omega)]
   rw [show ((pos + (i : Int)) % 8).toNat=from' + (i - off) by omega];rw [List.getD_eq_getElem?_getD,gEG (by omega)];simp
  ·rw [List.getElem?_append_right (by rw [List.length_append]; omega),List.length_append,hl1,hl2,List.getElem?_drop,zrfZ,zrfZ,show off + mlen + (i - (off + mlen))=i by omega]
   split
   ·rw [atL_succ hs hx,if_neg (by omega)]
   ·rfl
theorem over_encB (a b : List UInt8) (off : Nat) : over (encB a) off (encB b)=encB (a.take off ++ b ++ a.drop (off + b.length)):=by
 unfold over;rw [zjeZ,zbgcZ,encB_drop,encB_app,encB_app]
theorem zrow_bytes (l : List Ext) (pos : Int) (m : Nat) : List.replicate m (AV.lit (.int .u8 0))=encB (zbfkZ (l.take 0) pos m):=by
 refine List.ext_getElem? λi=>?_
 rw [encB_get,zrfZ,List.getElem?_replicate]
 by_cases h : i < m
 ·rw [if_pos h,if_pos h]
  simp [atL]
 ·rw [if_neg h,if_neg h]
  rfl
theorem extent_Read_p {size : Int} {l : List Ext} {v : AV} (hv : SV encE 9 l v) (hl : l.length≤281474976710656) (pos n : Int) :
  ∃ r,SV encU 1 (readC size l pos n) r∧BPure Tryz.prog 69 [.agg [I size,v],I pos,I n] r:=by
 unfold SV;simp only [zbctZ]
 have : ∃ r,(noIds r=true∧∀ H,zaZ H 1 r=some (encB (readC size l pos n),(readC size l pos n).length))∧BPure Tryz.prog 69 [.agg [I size,v],I pos,I n] r:=by
  refine BPure.sl (sz:=1) (by simp [zdcZ,noIds,hv.1]) (zynZ _) (extent_Read_ok ?_);unfold extent_Read;simp [znnZ hv,ztZ];refine zyZ (zjjZ hv hl) ?_
  have nix : ∀ H,¬ inC size l pos n→zaZ H 1 nilSl=some (encB (readC size l pos n),(readC size l pos n).length):=by
   intro H h;have : readC size l pos n=[]:=if_neg h;rw [this]; rfl
  by_cases h1 : mayC size l
  ·by_cases h2 : pos < 0
   ·simp [h1,h2,nix _ (λh=>by have:=h.2.1; omega)]
   ·by_cases h3 : n < 0
    ·simp [h1,h2,h3,nix _ (λh=>by have:=h.2.2.1; omega)]
    ·by_cases h4 : 4096 < n
     ·simp [h1,h2,h3,h4,nix _ (λh=>by have:=h.2.2.2.1; omega)]
     ·by_cases h5 : size≤pos
      ·simp [h1,h2,h3,h4,h5,nix _ (λh=>by have:=h.2.2.2.2; omega)]
      ·have hs:=zbfgZ h1.2.2
       have hsz:=h1.2.1;have hsz0:=h1.1;have hr : readC size l pos n=zbfkZ l pos (min n (size - pos)).toNat:=if_pos ⟨h1,by omega,by omega,by omega,by omega⟩;rw [hr,zytZ];obtain ⟨m,hm⟩ : ∃ m : Nat,(m : Int)=min n (size - pos):=⟨(min n (size - pos)).toNat,by omega⟩;have hm' : min (size - pos) n=(m : Int):=by omega
       rw [show (min n (size - pos)).toNat=m by omega];simp [h1,h2,h3,h4,h5,zfpZ (a:=size) (b:=pos) (by omega) (by omega),hm',amk,show (m : Int)≤281474976710656 by omega,show (m : Int)≤9223372036854775807 by omega,hv.len];have hz:=zrow_bytes l pos m;refine zbdoZ (λq x1 x2 x7 x41 x42 x43 H'=>∃ k : Nat,k + q=l.length∧x1=I pos∧x2=I m∧x7 = .sl 1 0 m 1 (.ex m)∧x41=v∧x42=I l.length∧x43=I k∧∃ X,H'=some (.cells [I size,v]) :: some (.cells (encB (zbfkZ (l.take k) pos m))) :: X) ?_ l.length ⟨0,by omega,rfl,rfl,rfl,rfl,rfl,rfl,[],by rw [← hz]⟩;rintro q x1 x2 x7 x41 x42 x43 H R hR ⟨k,hk,rfl,rfl,rfl,rfl,rfl,rfl,X,rfl⟩;unfold zziZ;rcases Nat.lt_or_ge k l.length with hlt | hge
       ·have hx:=gEG hlt
        generalize l[k]=y at hx;have hy:=zbgkZ h1.2.2 y (List.mem_of_getElem? hx);simp [hlt,hv.idx zbmZ hx rfl,-zhpZ];rw [← List.cons_append,← List.cons_append,ast_e (by simp) (by rfl)];simp;refine zyZ (zxwZ y.no (by omega) (by omega)) ?_
        have nxt : ∀ Y,(zouZ R (I pos) (I m) (.sl 1 0 m 1 (.ex m)) x41 (I l.length) (I k) (some (.cells [I size,x41]) :: some (.cells (encB (zbfkZ (l.take (k + 1)) pos m))) :: Y) λr H'=>zaZ H' 1 r=some (encB (zbfkZ l pos m),m)):=by
         intro Y;rw [extent_Read_J11_eq];unfold zyoZ;simp [zbdZ (a:=k) (b:=1) (by omega) (by omega)];exact hR (q - 1) _ _ _ _ _ _ _ (by omega) ⟨k + 1,by omega,rfl,rfl,rfl,rfl,rfl,rfl,Y,rfl⟩
        have w1 : MaySpan ⟨y.no * 8,8⟩:=by simp only [MaySpan,May]; omega
        have w2 : MaySpan ⟨pos,m⟩:=by simp only [MaySpan,May]; omega
        refine zyZ (off_Meet_p ⟨y.no * 8,8⟩ ⟨pos,m⟩) ?_
        by_cases c : max (y.no * 8) pos < min (y.no * 8 + 8) (pos + m)
        ·have e : meet ⟨y.no * 8,8⟩ ⟨pos,m⟩=⟨max (y.no * 8) pos,min (y.no * 8 + 8) (pos + m) - max (y.no * 8) pos⟩:=if_pos ⟨w1,w2,c⟩
         rw [e];obtain ⟨off,ho⟩ : ∃ off : Nat,(off : Int)=max (y.no * 8) pos - pos:=⟨(max (y.no * 8) pos - pos).toNat,by omega⟩;obtain ⟨fr,hf⟩ : ∃ fr : Nat,(fr : Int)=max (y.no * 8) pos - y.no * 8:=⟨(max (y.no * 8) pos - y.no * 8).toNat,by omega⟩;obtain ⟨ml,hml⟩ : ∃ ml : Nat,(ml : Int)=min (y.no * 8 + 8) (pos + m) - max (y.no * 8) pos:=⟨(min (y.no * 8 + 8) (pos + m) - max (y.no * 8) pos).toNat,by omega⟩;have hst:=read_step hs hx c ho hf hml;have hb:=y.hb
         have e1 : aslS 1 (.sl 1 0 m 1 (.ex m)) (some (I off)) none none=some (.sl 1 off (m - off) 1 (.ex (m - off))):=by
          simp [aslS,abnd,Room.least,Room.cut]; omega
         have e3 : ∀ o,aslS 1 (.sl o (1 + fr) (8 - fr) 1 (.ex (8 - fr))) none (some (I ml)) none=some (.sl o (1 + fr) ml 1 (.ex (8 - fr))):=by
          intro o;simp [aslS,abnd,Room.least,Room.cut]; omega
         have key : ∀ (HH Y : AH) (o : Nat),HH=some (.cells [I size,x41]) :: some (.cells (encB (zbfkZ (l.take k) pos m))) :: Y→HH[o]? = some (some (.cells (encE y))) →
           aslA 8 1 HH (.ptr o 1) (some (I fr)) none=some (.sl o (1 + fr) (8 - fr) 1 (.ex (8 - fr))) ∧
           acp 1 HH (.sl 1 off (m - off) 1 (.ex (m - off))) (.sl o (1 + fr) ml 1 (.ex (8 - fr)))=some (I ml,some (.cells [I size,x41]) :: some (.cells (encB (zbfkZ (l.take (k + 1)) pos m))) :: Y):=by
          intro HH Y o hHH hHo;refine ⟨by simp [aslA,abnd,hHo,zbmZ]; omega, ?_⟩
          have a1 : zaZ HH 1 (.sl o (1 + fr) ml 1 (.ex (8 - fr)))=some (encB ((y.b.drop fr).take ml),ml):=by
           have : (encE y).drop (1 + fr)=encB (y.b.drop fr):=by
            rw [Nat.add_comm]
            show (encB y.b).drop fr=_
            rw [encB_drop]
           simp [zaZ,hHo,zbmZ,this,zbgcZ];omega
          unfold acp acp0;rw [znZ a1,hHH];have a2 : min ml (m - off)=ml:=by omega
          have a3 : ((y.b.drop fr).take ml).length=ml:=by simp; omega
          have hle : off≤m:=by omega
          simp [zjeZ,zytZ,a2,zbgcZ,hle];have a4 : List.take ml (List.take ml (y.b.drop fr))=(y.b.drop fr).take ml:=by rw [List.take_take,Nat.min_self]
          rw [a4,over_encB,a3,hst]
         simp [encSp,ast,c,zfpZ (a:=max (y.no * 8) pos) (b:=pos) (by omega) (by omega),← ho,e1,zshZ (a:=y.no) (b:=8) (by omega) (by omega),zfpZ (a:=max (y.no * 8) pos) (b:=y.no * 8) (by omega) (by omega),← hf,← hml];obtain ⟨k1,k2⟩:=key _ (X ++ [some (.cells (encE y)),some (.cells [I (max (y.no * 8) pos),I ml])]) (X.length + 1 + 1) rfl (by simp);rw [k1];simp [e3];rw [k2];simp [show 0 < ml by omega];exact nxt _
        ·have e : meet ⟨y.no * 8,8⟩ ⟨pos,m⟩=⟨0,0⟩:=if_neg (λh=>c h.2.2)
         rw [e];simp [encSp,ast];rw [← read_skip hs hx c];exact nxt _
       ·have : k=l.length:=by omega
        subst this;rw [List.take_length];simp [zaZ,zjeZ,zytZ];rw [List.take_of_length_le (by rw [zjeZ,zytZ]; omega)]
  ·simp [h1,nix _ (λh=>h1 h.1)]
 exact this
theorem acp_sl {H : AH} {sz o off len o2 off2 m : Nat} {cap cap2 : Room} {cs cs2 : List AV} (ho : H[o]? = some (some (.cells cs))) (h2 : H[o2]? = some (some (.cells cs2))) (hoff : off≤cs.length) (ht : off2 + min m len * sz≤cs2.length) :
  acp sz H (.sl o off len sz cap) (.sl o2 off2 m sz cap2)=some (I ((min m len : Nat) : Int),H.set o (some (.cells (over cs off ((cs2.drop off2).take (min m len * sz)))))):=by
 unfold acp acp0
 by_cases h : off2 + m * sz≤cs2.length
 ·have e : zdeZ H sz (.sl o2 off2 m sz cap2)=some ((cs2.drop off2).take (m * sz),m):=znZ (by simp [zaZ,h2,h])
  have hm : min (min m len * sz) (m * sz)=min m len * sz:=Nat.min_eq_left (Nat.mul_le_mul_right _ (Nat.min_le_left _ _));rw [e];simp only [ho,hoff,and_self,if_true,List.take_take,hm]
 ·have e : zdeZ H sz (.sl o2 off2 m sz cap2)=none:=by simp [zdeZ,zaZ,h2,h]
  rw [e];simp [acpT,ho,h2,hoff,ht]
theorem size_ext (w : World) : (Go.sizeOf 139).run Tryz.prog w = .ok 9 w:=zdxZ (by kernel_rfl)
theorem overlaps_no {H : AH} {oa offa la ea ka ob offb lb eb kb : Nat} {ca cb : List AV} (ha : H[oa]? = some (some (.cells ca))) (hbo : H[ob]? = some (some (.cells cb))) (hne : oa ≠ ob) (hka : ka ≠ 0) (hkb : kb ≠ 0) (hcb : cb ≠ []) :
  ExtR Tryz.prog 181 [.sl oa offa la ea (.ex ka),.sl ob offb lb eb (.ex kb)] H (B false) :=
 ExtR.apart (tS:=61) (tR:=4) (fn:=Tryz.f181) (by kernel_rfl) (by kernel_rfl) (by kernel_rfl) (by kernel_rfl) (by kernel_rfl) (by kernel_rfl) size_ext ha hbo hne hka hkb hcb
def InsP (H : AH) (s : AV) (N : List AV) (n : Nat) (r : AV) (H' : AH) : Prop :=
 zjsZ r=true∧zaZ H' 9 r=some (N,n + 1)∧H.length≤H'.length∧(∀ i,i < H.length→i ∉ idS s→H'[i]? = H[i]?)∧∀ i ∈ idS r,i ∈ idS s∨H.length≤i
theorem insE_end {H : AH} {s : AV} {cs : List AV} {n ov : Nat} {x : Ext} (hs : zaZ H 9 s=some (cs,n)) (ho : zjsZ s=true) (hn : n≤100000000) (hv : H[ov]? = some (some (.cells (encE x)))) :
  ∃ r H',InsP H s (cs ++ encE x) n r H'∧BCall Tryz.prog 153 [s,I n,.sl ov 0 1 9 (.ex 1)] H r H':=by
 obtain ⟨r0,a0,-⟩:=zrvZ hs (lo:=some (I n)) (hi:=none) (l:=n) (k:=n) (by simp [abnd]) rfl (Nat.le_refl _) (Nat.le_refl _);have hl:=zbmZ x;obtain ⟨r,H2,a1,a2,a3,a4,a5,a6⟩:=zjmZ (bytes:=16) hs ho (znZ (v:=.sl ov 0 1 9 (.ex 1)) (q:=(encE x,1)) (by simp [zaZ,hv,hl,List.take_of_length_le])) (by omega);refine ⟨r,H2,⟨a2,a3,a4,a5,a6⟩,zdmZ ?_⟩;unfold zbyZ;simp [a0,zhxZ hs,a1]
theorem insE_grow {H : AH} {o off n ov i : Nat} {cells : List AV} {x : Ext} (hc : H[o]? = some (some (.cells cells))) (hl : off + n * 9≤cells.length) (hi : i < n) (hn : n≤100000000) (hv : H[ov]? = some (some (.cells (encE x)))) :
  ACalls Tryz.prog 153 [.sl o off n 9 (.ex n),I i,.sl ov 0 1 9 (.ex 1)] H λr H'=>r = .sl H.length 0 (n + 1) 9 (.ge (n + 1)) ∧
   H'=H ++ [some (.cells ((cells.drop off).take (i * 9) ++ encE x ++ (cells.drop (off + i * 9)).take ((n - i) * 9)))]:=by
 refine zdmZ ?_;unfold zbyZ;have h1 : ¬ (i : Int)=n:=by omega
 have hxl:=zbmZ x;simp [aslS,abnd,Room.least,Room.cut,acpS,goInt,h1,show i≤n by omega,zbdZ (a:=n) (b:=1) (by omega) (by omega),zfpZ (a:=(n : Int) + 1) (b:=i) (by omega) (by omega),aappZ1,hc,hl,zbdZ (a:=i) (b:=1) (by omega) (by omega)];have e1 : i + (n + 1 - i)=n + 1:=by omega
 have h2 : off + i * 9≤cells.length:=by omega
 simp only [e1];simp [h2,show (i : Int) < n + 1 by omega,show (n : Int) < n + 1 by omega,show (n + 1) * 16≤140737488355328 by omega,show i≤n + 1 by omega,show i + 1≤n + 1 by omega];have zl : ((List.replicate (n + 1 - i) [AV.lit (Value.int IntKind.i64 0),AV.lit (Value.int IntKind.u8 0),AV.lit (Value.int IntKind.u8 0),AV.lit (Value.int IntKind.u8 0),AV.lit (Value.int IntKind.u8 0),AV.lit (Value.int IntKind.u8 0),AV.lit (Value.int IntKind.u8 0),AV.lit (Value.int IntKind.u8 0),AV.lit (Value.int IntKind.u8 0)]).flatten).length=(n + 1 - i) * 9:=zieZ _ _;generalize (List.replicate (n + 1 - i) [AV.lit (Value.int IntKind.i64 0),AV.lit (Value.int IntKind.u8 0),AV.lit (Value.int IntKind.u8 0),AV.lit (Value.int IntKind.u8 0),AV.lit (Value.int IntKind.u8 0),AV.lit (Value.int IntKind.u8 0),AV.lit (Value.int IntKind.u8 0),AV.lit (Value.int IntKind.u8 0),AV.lit (Value.int IntKind.u8 0)]).flatten=Z at zl;have hA : (List.take (i * 9) (List.drop off cells)).length=i * 9:=by rw [List.length_take,List.length_drop]; omega
 generalize hAe : List.take (i * 9) (List.drop off cells)=A at hA;have hov:=(gSI.1 hv).1;have ho:=(gSI.1 hc).1;rw [acp_sl (cs:=A ++ Z) (cs2:=encE x) (by simp) (by rw [List.getElem?_append_left hov]; exact hv) (by simp [hA]) (by omega)];simp [show (0 : Int)≤(i : Int) + 1 by omega,show i + 1≤n + 1 by omega];have m1 : min 1 (n + 1 - i)=1:=by omega
 have o1 : over (A ++ Z) (i * 9) (List.take (min 1 (n + 1 - i) * 9) (encE x))=A ++ encE x ++ Z.drop 9:=by
  rw [m1,List.take_of_length_le (by rw [hxl]; omega)];unfold over;rw [List.take_append_of_le_length (by omega),List.take_of_length_le (by omega),hxl,← hA,List.drop_append,Nat.add_sub_cancel_left,List.drop_eq_nil_of_le (by omega),List.nil_append]
 rw [o1,acp_sl (cs:=A ++ encE x ++ Z.drop 9) (cs2:=cells) (by simp) (by rw [List.getElem?_append_left ho]; exact hc) (by simp [hA,hxl]; omega) (by rw [Nat.min_self]; omega)];have hB : (List.take ((n - i) * 9) (List.drop (off + i * 9) cells)).length=(n - i) * 9:=by rw [List.length_take,List.length_drop]; omega
 simp;generalize List.take ((n - i) * 9) (List.drop (off + i * 9) cells)=B' at hB;unfold over;have l1 : (A ++ encE x).length=(i + 1) * 9:=by rw [List.length_append,hA,hxl]; omega
 rw [← List.append_assoc,List.take_append_of_le_length (by omega),List.take_of_length_le (by omega),List.drop_eq_nil_of_le (by rw [List.length_append,l1,List.length_drop,hB]; omega),List.append_nil,List.append_assoc]
theorem insE_place {H : AH} {o off n ov i c : Nat} {cells : List AV} {x : Ext} (hc : H[o]? = some (some (.cells cells))) (hl : off + n * 9≤cells.length) (hi : i < n) (hn : n≤100000000) (hcn : n + 1≤c) (hv : H[ov]? = some (some (.cells (encE x)))) (hne : ov ≠ o) :
  ACalls Tryz.prog 153 [.sl o off n 9 (.ex c),I i,.sl ov 0 1 9 (.ex 1)] H λr H'=>r = .sl o off (n + 1) 9 (.ex c) ∧
   ∃ rest,H'=H.set o (some (.cells (cells.take (off + i * 9) ++ encE x ++ (cells.drop (off + i * 9)).take ((n - i) * 9) ++ rest))):=by
 refine zdmZ ?_;unfold zbyZ;have h1 : ¬ (i : Int)=n:=by omega
 have hxl:=zbmZ x;simp [aslS,abnd,Room.least,Room.cut,acpS,goInt,h1,show i≤n by omega,zbdZ (a:=n) (b:=1) (by omega) (by omega),zfpZ (a:=(n : Int) + 1) (b:=i) (by omega) (by omega),hc,hl,zbdZ (a:=i) (b:=1) (by omega) (by omega),show i≤c by omega,show n≤c by omega,show ¬ (c : Int) < n + 1 by omega,hcn,show (0 : Int)≤(n : Int) + 1 by omega,show (0 : Int)≤(i : Int) + 1 by omega,show i + 1≤n + 1 by omega,show i + 1≤c by omega];refine bP_of (overlaps_no hv hc hne (by omega) (by omega) (by intro h; rw [h] at hl; simp at hl; omega)) ?_;simp;have ho:=(gSI.1 hc).1;have mm : min (n + 1 - i) (n - i)=n - i:=by omega
 have m1 : min 1 (n + 1 - i)=1:=by omega
 simp only [show i≤n + 1 by omega,if_true,zbZ];rw [acp_sl (cs:=cells) (cs2:=cells) hc hc (by omega) (by rw [mm]; omega),mm];have hB : (List.take ((n - i) * 9) (List.drop (off + i * 9) cells)).length=(n - i) * 9:=by rw [List.length_take,List.length_drop]; omega
 generalize List.take ((n - i) * 9) (List.drop (off + i * 9) cells)=B' at hB;simp only [zbpZ];have l1 : (cells.take (off + (i + 1) * 9)).length=off + (i + 1) * 9:=by rw [List.length_take]; omega
 rw [acp_sl (cs:=over cells (off + (i + 1) * 9) B') (cs2:=encE x) (by simp [ho]) (by rw [gSN (Ne.symm hne)]; exact hv) (by unfold over; simp [l1]; omega) (by omega),m1,List.take_of_length_le (l:=(encE x).drop 0) (by simp [hxl])];simp only [zbpZ,List.set_set,List.drop_zero];refine ⟨(cells.drop (off + (i + 1) * 9 + B'.length)), ?_⟩
 congr 3
 unfold over;rw [hxl]
 have t1 : List.take (off + i * 9) (cells.take (off + (i + 1) * 9) ++ B' ++ cells.drop (off + (i + 1) * 9 + B'.length))=cells.take (off + i * 9):=by
  rw [List.append_assoc,List.take_append_of_le_length (by omega),List.take_take,Nat.min_eq_left (by omega)]
 have t2 : List.drop (off + i * 9 + 9) (cells.take (off + (i + 1) * 9) ++ B' ++ cells.drop (off + (i + 1) * 9 + B'.length))=B' ++ cells.drop (off + (i + 1) * 9 + B'.length):=by
  rw [List.append_assoc,show off + i * 9 + 9=(cells.take (off + (i + 1) * 9)).length by omega,List.drop_left]
 rw [t1,t2,List.append_assoc]
theorem bels_app {m : Nat} : ∀ {a b : List AV},Bels m a→Bels m b→Bels m (a ++ b)
 | [],b,_,h => h
 | x :: a,b,h1,h2 => by simp only [Bels,List.cons_append] at h1 ⊢; exact ⟨h1.1,bels_app h1.2 h2⟩
theorem bels_mem {m : Nat} : ∀ {a : List AV},Bels m a ↔ ∀ x ∈ a,Bel m x
 | [] => by simp [Bels]
 | x :: a => by simp only [Bels,List.mem_cons,forall_eq_or_imp,bels_mem (a:=a)]
theorem bels_enc (x : Ext) (m : Nat) : Bels m (encE x):=by
 rw [bels_mem];intro a ha;simp only [encE,encB,List.mem_cons,List.mem_map] at ha;rcases ha with rfl | ⟨b,_,rfl⟩ <;> simp only [Bel]
theorem insE_mid {H : AH} {o off n ov i : Nat} {cap : Room} {cells : List AV} {x : Ext} (hc : H[o]? = some (some (.cells cells))) (hl : off + n * 9≤cells.length) (hi : i < n) (hn : n≤100000000) (hv : H[ov]? = some (some (.cells (encE x)))) (hne : ov ≠ o) :
  BCall Tryz.prog 153 [.sl o off n 9 cap,I i,.sl ov 0 1 9 (.ex 1)] H (.sl H.length 0 (n + 1) 9 (.ge (n + 1)))
   (H.set o none ++ [some (.cells ((cells.drop off).take (i * 9) ++ encE x ++ (cells.drop (off + i * 9)).take ((n - i) * 9)))]):=by
 have ho:=(gSI.1 hc).1;have hxl:=zbmZ x;generalize hN : (cells.drop off).take (i * 9) ++ encE x ++ (cells.drop (off + i * 9)).take ((n - i) * 9)=N
 have hNl : N.length=(n + 1) * 9:=by
  rw [← hN,List.length_append,List.length_append,hxl,List.length_take,List.length_take,List.length_drop,List.length_drop]; omega
 have hall : ∀ c,n≤c→ACalls Tryz.prog 153 [.sl o off n 9 (.ex c),I i,.sl ov 0 1 9 (.ex 1)] H λr H'=>
   (r = .sl H.length 0 (n + 1) 9 (.ge (n + 1))∧H'=H ++ [some (.cells N)])∨∃ c rest,n + 1≤c∧r = .sl o off (n + 1) 9 (.ex c)∧H'=H.set o (some (.cells (cells.take off ++ N ++ rest))):=by
  intro c hcn;rcases Nat.lt_or_ge n c with h | h
  ·refine (insE_place hc hl hi hn h hv hne).mono ?_
   rintro r H' ⟨rfl,rest,rfl⟩;refine .inr ⟨c,rest,h,rfl, ?_⟩
   congr 3
   rw [← hN,Nat.add_comm off (i * 9),Nat.add_comm (i * 9) off];have : cells.take (off + i * 9)=cells.take off ++ (cells.drop off).take (i * 9):=by rw [List.take_add]
   rw [this];simp [List.append_assoc]
  ·have : c=n:=by omega
   subst this;refine (insE_grow hc hl hi hn hv).mono ?_;rintro r H' ⟨rfl,rfl⟩;exact .inl ⟨rfl,by rw [hN]⟩
 have hany : ACalls Tryz.prog 153 [.sl o off n 9 cap,I i,.sl ov 0 1 9 (.ex 1)] H λr H'=>
   (r = .sl H.length 0 (n + 1) 9 (.ge (n + 1))∧H'=H ++ [some (.cells N)])∨∃ c rest,n + 1≤c∧r = .sl o off (n + 1) 9 (.ex c)∧H'=H.set o (some (.cells (cells.take off ++ N ++ rest))):=by
  cases cap with
  | ge k => exact ACalls.room λc _ h=>hall c h
  | ex c =>
   rcases Nat.lt_or_ge c n with h | h
   ·intro G vs hH hv
    exfalso
    simp only [VRs] at hv;obtain ⟨v,r,rfl,h1,h2⟩:=hv;simp only [VR] at h1;obtain ⟨_,a,c',rfl,hlc,hs⟩:=h1;simp only [SlAt] at hs;omega
   ·exact hall c h
 refine ACalls.canon hany ?_;rintro hb r1 H1 h1
 have hbN : Bels H.length N:=by
  have hbc : Bels H.length cells:=hb o _ hc;rw [bels_mem] at hbc;rw [← hN];refine bels_app (bels_app ?_ (bels_enc x _)) ?_
  ·rw [bels_mem]; exact λa ha=>hbc a (List.mem_of_mem_drop (List.mem_of_mem_take ha))
  ·rw [bels_mem]; exact λa ha=>hbc a (List.mem_of_mem_drop (List.mem_of_mem_take ha))
 rcases h1 with ⟨rfl,rfl⟩ | ⟨c,rest,hcn,rfl,rfl⟩
 ·refine ⟨_,_,_,Canon.grown hb hbN, ?_⟩
  intro G v hG hr;refine ⟨?_,λp ℓ h=>by cases h⟩;simp only [VR] at hr ⊢;obtain ⟨q0,a,c,rfl,hlc,hs⟩:=hr;refine ⟨by simp [Cfg.ren],a,c,rfl,hlc, ?_⟩
  simpa [Cfg.ren,idR,noLim] using hs
 ·refine ⟨_,_,_,Canon.placed (off:=off) (l:=c * 9) hb ho hbN (cs1:=cells.take off ++ N ++ rest) ?_ ?_ ?_, ?_⟩
  ·simp; omega
  ·have : (cells.take off).length=off:=by rw [List.length_take]; omega
   rw [List.append_assoc]
   conv => lhs; arg 2; arg 1; rw [← this]
   rw [List.drop_left,List.take_left]
  ·rw [hNl]; omega
  ·intro G v hG hr
   simp only [VR] at hr;obtain ⟨q0,a,c',rfl,hlc,hs⟩:=hr;simp only [SlAt] at hs;obtain ⟨rfl,hs⟩:=hs;have hs:=hs.resolve_left (by omega);obtain ⟨rfl,hs2⟩:=hs;have e : atR H.length o off H.length=(o,off):=if_pos rfl;have e2 : atL' H.length (c' * 9) H.length=some (c' * 9):=if_pos rfl;refine ⟨?_, ?_⟩
   ·simp only [VR]
    refine ⟨by simp [Cfg.ren],_,c',rfl,by omega, ?_⟩;simp only [SlAt];refine ⟨hcn,.inr ⟨by simp [Cfg.ren,e], ?_⟩⟩;simp [Cfg.ren,e2]
   ·intro p ℓ h
    unfold atL' at h;split at h
    ·rename_i hp
     injection h with h;subst hp; subst h;rw [e]; omega
    ·cases h
theorem srt_mem : ∀ {l m : List Ext},srt l→srt m→(∀ x,x ∈ l ↔ x ∈ m)→l=m
 | [],[],_,_,_ => rfl
 | [],y :: m,_,_,h => by have:=(h y).2 (by simp); simp at this
 | x :: l,[],_,_,h => by have:=(h x).1 (by simp); simp at this
 | x :: l,y :: m,hl,hm,h => by
  have hl':=List.pairwise_cons.1 hl;have hm':=List.pairwise_cons.1 hm
  have e : x=y:=by
   rcases List.mem_cons.1 ((h x).1 (by simp)) with e | h1
   ·exact e
   ·rcases List.mem_cons.1 ((h y).2 (by simp)) with e | h2
    ·exact e.symm
    ·have:=hm'.1 x h1; have:=hl'.1 y h2; omega
  subst e;refine congrArg _ (srt_mem hl'.2 hm'.2 λz=>?_)
  constructor
  ·intro hz
   rcases List.mem_cons.1 ((h z).1 (by simp [hz])) with e | h1
   ·have:=hl'.1 z hz; rw [e] at this; omega
   ·exact h1
  ·intro hz
   rcases List.mem_cons.1 ((h z).2 (by simp [hz])) with e | h1
   ·have:=hm'.1 z hz; rw [e] at this; omega
   ·exact h1
theorem ext_eq {x y : Ext} (h1 : x.no=y.no) (h2 : ∀ k,k < 8→x.b.getD k 0=y.b.getD k 0) : x=y:=by
 obtain ⟨a,b,hb⟩:=x;obtain ⟨c,d,hd⟩:=y;simp only at h1 h2;subst h1
 have : b=d:=by
  refine List.ext_getElem (by omega) λk hk1 hk2=>?_
  have:=h2 k (by omega)
  rw [List.getD_eq_getElem?_getD,List.getD_eq_getElem?_getD,gEG hk1,gEG hk2] at this
  simpa using this
 subst this; rfl
theorem mem_get {l : List Ext} {x : Ext} (h : x ∈ l) : ∃ k : Nat,l[k]? = some x:=List.mem_iff_getElem?.1 h
theorem at_blk {l : List Ext} (hs : srt l) {x : Ext} (hx : x ∈ l) {k : Nat} (hk : k < 8) : atL l (x.no * 8 + k)=x.b.getD k 0:=by
 obtain ⟨i,hi⟩:=mem_get hx;rw [atL_some hs hi (by omega),show ((x.no * 8 + (k : Int)) % 8).toNat=k by omega]
theorem srt_ext {l m : List Ext} (hl : srt l) (hm : srt m) (h1 : ∀ no,hasL l no ↔ hasL m no) (h2 : ∀ p,atL l p=atL m p) : l=m:=by
 have key : ∀ {l m : List Ext},srt l→srt m→(∀ no,hasL l no ↔ hasL m no)→(∀ p,atL l p=atL m p)→∀ x,x ∈ l→x ∈ m:=by
  intro l m hl hm h1 h2 x hx;obtain ⟨y,hy,e⟩:=(h1 x.no).1 ⟨x,hx,rfl⟩
  have : x=y:=ext_eq e.symm λk hk=>by
   rw [← at_blk hl hx hk,← at_blk hm hy hk,h2,e]
  rw [this]; exact hy
 exact srt_mem hl hm λx=>⟨key hl hm h1 h2 x,key hm hl (λno=>(h1 no).symm) (λp=>(h2 p).symm) x⟩
def newE (no : Int) : Ext:=⟨no,List.replicate 8 0,by simp⟩
def needL (l : List Ext) (no : Int) : List Ext:=if hasL l no then l else l.take (posL l no) ++ newE no :: l.drop (posL l no)
theorem posL_mem_lt {l : List Ext} {no : Int} {x : Ext} (h : x ∈ l.take (posL l no)) : x.no < no:=by
 obtain ⟨k,hk⟩:=mem_get h;have h1:=(gSI.1 hk).1;rw [List.length_take] at h1;rw [List.getElem?_take,if_pos (by omega)] at hk;exact posL_lt (by omega) hk
theorem posL_mem_ge {l : List Ext} (hs : srt l) {no : Int} {x : Ext} (h : x ∈ l.drop (posL l no)) : no≤x.no:=by
 obtain ⟨k,hk⟩:=mem_get h;rw [List.getElem?_drop] at hk;cases h0 : l[posL l no]? with
 | none =>
  have h1:=(gSI.1 hk).1;rw [List.getElem?_eq_none_iff] at h0; omega
 | some y =>
  have h2:=posL_ge h0;rcases Nat.eq_zero_or_pos k with h3 | h3
  ·subst h3; rw [Nat.add_zero,h0] at hk; injection hk with hk; rw [← hk]; exact h2
  ·have:=srt_get hs h0 hk (by omega); omega
theorem zbbjZ {l : List Ext} (hs : srt l) (no : Int) : srt (needL l no):=by
 unfold needL
 split
 ·exact hs
 ·rename_i h
  have hd : ∀ x ∈ l.drop (posL l no),no < x.no:=by
   intro x hx;have h1:=posL_mem_ge hs hx;have h2 : x.no ≠ no:=λe=>h ⟨x,List.mem_of_mem_drop hx,e⟩
   omega
  refine List.pairwise_append.2 ⟨List.Pairwise.sublist (List.take_sublist _ l) hs,List.pairwise_cons.2 ⟨hd,List.Pairwise.sublist (List.drop_sublist _ l) hs⟩, ?_⟩;intro a ha b hb;have h1:=posL_mem_lt ha;rcases List.mem_cons.1 hb with rfl | hb
  ·exact h1
  ·have:=hd b hb; omega
theorem need_mem {l : List Ext} {no : Int} {x : Ext} : x ∈ needL l no ↔ x ∈ l∨(¬ hasL l no∧x=newE no):=by
 unfold needL
 split
 ·rename_i h; simp [h]
 ·rename_i h
  rw [List.mem_append,List.mem_cons];have : x ∈ l ↔ x ∈ l.take (posL l no)∨x ∈ l.drop (posL l no):=by rw [← List.mem_append,List.take_append_drop]
  rw [this]
  constructor
  ·rintro (h1 | h1 | h1)
   ·exact .inl (.inl h1)
   ·exact .inr ⟨h,h1⟩
   ·exact .inl (.inr h1)
  ·rintro ((h1 | h1) | ⟨_,h1⟩)
   ·exact .inl h1
   ·exact .inr (.inr h1)
   ·exact .inr (.inl h1)
theorem need_has {l : List Ext} {no a : Int} : hasL (needL l no) a ↔ hasL l a∨a=no:=by
 unfold hasL
 constructor
 ·rintro ⟨x,hx,e⟩
  rcases need_mem.1 hx with h | ⟨_,rfl⟩
  ·exact .inl ⟨x,h,e⟩
  ·exact .inr e.symm
 ·rintro (⟨x,hx,e⟩ | rfl)
  ·exact ⟨x,need_mem.2 (.inl hx),e⟩
  ·by_cases h : hasL l a
   ·obtain ⟨x,hx,e⟩:=h
    exact ⟨x,need_mem.2 (.inl hx),e⟩
   ·exact ⟨newE a,need_mem.2 (.inr ⟨h,rfl⟩),rfl⟩
theorem at_mem {l : List Ext} (hs : srt l) {x : Ext} (hx : x ∈ l) {p : Int} (h : x.no=p / 8) : atL l p=x.b.getD (p % 8).toNat 0:=by
 obtain ⟨k,hk⟩:=mem_get hx;exact atL_some hs hk h
theorem need_at {l : List Ext} (hs : srt l) (no p : Int) : atL (needL l no) p=atL l p:=by
 by_cases h : hasL l (p / 8)
 ·obtain ⟨x,hx,e⟩:=h
  rw [at_mem hs hx e,at_mem (zbbjZ hs no) (need_mem.2 (.inl hx)) e]
 ·rw [zvrZ h]
  by_cases h2 : p / 8=no
  ·rw [at_mem (zbbjZ hs no) (need_mem.2 (.inr ⟨h2 ▸ h,rfl⟩)) h2.symm]
   have : (p % 8).toNat < 8:=by omega
   simp only [newE];rw [List.getD_eq_getElem?_getD,List.getElem?_replicate,if_pos this]; rfl
  ·exact zvrZ (λh3=>(need_has.1 h3).elim h h2)
theorem need_pos {l : List Ext} (hs : srt l) (no : Int) : posL (needL l no) no=posL l no:=by
 unfold needL
 split
 ·rfl
 ·rename_i h
  have hp:=posL_le l no;refine posL_eq (by simp; omega) ?_ ?_
  ·intro m x hm hx
   rw [List.getElem?_append_left (by rw [List.length_take]; omega),List.getElem?_take,if_pos hm] at hx;exact posL_lt hm hx
  ·intro x hx
   rw [List.getElem?_append_right (by rw [List.length_take]; omega),List.length_take,show posL l no - min (posL l no) l.length=0 by omega] at hx;simp at hx; rw [← hx]; simp [newE]
theorem need_get {l : List Ext} (hs : srt l) (no : Int) : ∃ x,(needL l no)[posL l no]? = some x∧x.no=no:=by
 have:=(hasL_iff (zbbjZ hs no) (no:=no)).1 (need_has.2 (.inr rfl))
 rwa [need_pos hs] at this
theorem need_len (l : List Ext) (no : Int) : (needL l no).length≤l.length + 1∧l.length≤(needL l no).length:=by
 have hp:=posL_le l no;unfold needL
 split
 ·omega
 ·simp; omega
def putE (x : Ext) (off : Nat) (bs : List UInt8) : Ext:=if h : off + bs.length≤8 then ⟨x.no,x.b.take off ++ bs ++ x.b.drop (off + bs.length),by have:=x.hb; simp; omega⟩ else x
theorem putE_no (x : Ext) (off : Nat) (bs : List UInt8) : (putE x off bs).no=x.no:=by unfold putE; split <;> rfl
theorem putE_b {x : Ext} {off : Nat} {bs : List UInt8} (h : off + bs.length≤8) : (putE x off bs).b=x.b.take off ++ bs ++ x.b.drop (off + bs.length):=by unfold putE; rw [dif_pos h]
theorem putE_get {x : Ext} {off : Nat} {bs : List UInt8} (h : off + bs.length≤8) {k : Nat} (hk : k < 8) : (putE x off bs).b.getD k 0=if off≤k∧k < off + bs.length then bs.getD (k - off) 0 else x.b.getD k 0:=by
 have hb:=x.hb;have h1 : (x.b.take off).length=off:=by rw [List.length_take]; omega
 rw [putE_b h];simp only [List.getD_eq_getElem?_getD]
 split
 ·rename_i c
  rw [List.getElem?_append_left (by rw [List.length_append]; omega),List.getElem?_append_right (by omega),h1]
 ·rename_i c
  by_cases c1 : k < off
  ·rw [List.append_assoc,List.getElem?_append_left (by omega),List.getElem?_take,if_pos c1]
  ·rw [List.getElem?_append_right (by rw [List.length_append]; omega),List.length_append,h1,List.getElem?_drop]
   congr 2; omega
def putL (l : List Ext) (no : Int) (off : Nat) (bs : List UInt8) : List Ext:=l.map λx=>if x.no=no then putE x off bs else x
theorem put_no (no : Int) (off : Nat) (bs : List UInt8) (x : Ext) : (if x.no=no then putE x off bs else x).no=x.no:=by split; exact putE_no ..; rfl
theorem srt_map {l : List Ext} {f : Ext→Ext} (hf : ∀ x ∈ l,(f x).no=x.no) (hs : srt l) : srt (l.map f):=by
 unfold srt at *;rw [List.pairwise_map];refine hs.imp_of_mem λha hb h=>?_
 rw [hf _ ha,hf _ hb]; exact h
theorem map_has {l : List Ext} {f : Ext→Ext} (hf : ∀ x ∈ l,(f x).no=x.no) {no : Int} : hasL (l.map f) no ↔ hasL l no:=by
 unfold hasL
 constructor
 ·rintro ⟨y,hy,e⟩
  obtain ⟨x,hx,rfl⟩:=List.mem_map.1 hy;exact ⟨x,hx,by rw [← e,hf x hx]⟩
 ·rintro ⟨x,hx,e⟩
  exact ⟨f x,List.mem_map.2 ⟨x,hx,rfl⟩,by rw [← e,hf x hx]⟩
theorem put_srt {l : List Ext} (hs : srt l) (no : Int) (off : Nat) (bs : List UInt8) : srt (putL l no off bs):=srt_map (λx _=>put_no ..) hs
theorem put_has {l : List Ext} {no a : Int} {off : Nat} {bs : List UInt8} : hasL (putL l no off bs) a ↔ hasL l a:=map_has (λx _=>put_no ..)
theorem put_at {l : List Ext} (hs : srt l) {no : Int} {off : Nat} {bs : List UInt8} (h : off + bs.length≤8) (hn : hasL l no) (p : Int) :
  atL (putL l no off bs) p=if no * 8 + off≤p∧p < no * 8 + off + bs.length then bs.getD (p - (no * 8 + off)).toNat 0 else atL l p:=by
 by_cases h0 : hasL l (p / 8)
 ·obtain ⟨x,hx,e⟩:=h0
  rw [at_mem (x:=if x.no=no then putE x off bs else x) (put_srt hs no off bs) (List.mem_map.2 ⟨x,hx,rfl⟩) (by rw [put_no]; exact e),at_mem hs hx e]
  by_cases c : x.no=no
  ·rw [if_pos c,putE_get h (by omega)]
   by_cases c2 : no * 8 + off≤p∧p < no * 8 + off + bs.length
   ·rw [if_pos c2,if_pos (by omega)]; congr 1; omega
   ·rw [if_neg c2,if_neg (by omega)]
  ·rw [if_neg c,if_neg (by omega)]
 ·rw [zvrZ (by rw [put_has]; exact h0),zvrZ h0,if_neg]
  intro c;have : p / 8=no:=by omega
  exact h0 (this ▸ hn)
theorem put_set {l : List Ext} (hs : srt l) {k : Nat} {x : Ext} (hx : l[k]? = some x) (off : Nat) (bs : List UInt8) : l.set k (putE x off bs)=putL l x.no off bs:=by
 refine List.ext_getElem? λi=>?_
 unfold putL;rw [List.getElem?_map,List.getElem?_set];have hk:=(gSI.1 hx).1
 by_cases h : k=i
 ·subst h
  obtain ⟨h1,h2⟩:=gSI.1 hx;simp [hk,h2]
 ·rw [if_neg h]
  cases hi : l[i]? with
  | none => rfl
  | some y =>
   have : y.no ≠ x.no:=by
    rcases Nat.lt_or_gt_of_ne h with h | h
    ·have:=srt_get hs hx hi h; omega
    ·have:=srt_get hs hi hx h; omega
   simp [this]
def zspZ (l : List Ext) (p : Int) (bs : List UInt8) : List Ext:=putL (needL l (p / 8)) (p / 8) (p % 8).toNat bs
theorem np_srt {l : List Ext} (hs : srt l) (p : Int) (bs : List UInt8) : srt (zspZ l p bs):=put_srt (zbbjZ hs _) ..
theorem np_has {l : List Ext} {p a : Int} {bs : List UInt8} : hasL (zspZ l p bs) a ↔ hasL l a∨a=p / 8:=by unfold zspZ; rw [put_has,need_has]
theorem np_at {l : List Ext} (hs : srt l) {p : Int} {bs : List UInt8} (h : p % 8 + bs.length≤8) (q : Int) : atL (zspZ l p bs) q=if p≤q∧q < p + bs.length then bs.getD (q - p).toNat 0 else atL l q:=by
 unfold zspZ;rw [put_at (zbbjZ hs _) (by omega) (need_has.2 (.inr rfl)),need_at hs,show p / 8 * 8 + ((p % 8).toNat : Int)=p by omega]
def ztdZ (l : List Ext) (p : Int) : List UInt8→List Ext
 | [] => l
 | b :: r => ztdZ (zspZ l p [b]) (p + 1) r
theorem wr_srt : ∀ {bs : List UInt8} {l : List Ext} (hs : srt l) (p : Int),srt (ztdZ l p bs)
 | [],l,hs,p => hs
 | b :: r,l,hs,p => wr_srt (np_srt hs p [b]) (p + 1)
theorem wr_has : ∀ {bs : List UInt8} {l : List Ext} {p a : Int},hasL (ztdZ l p bs) a ↔ hasL l a∨∃ q,p≤q∧q < p + bs.length∧a=q / 8
 | [],l,p,a => by
  unfold ztdZ;simp only [List.length_nil];exact ⟨.inl,λh=>h.elim id fun ⟨q,h1,h2,_⟩ => by omega⟩
 | b :: r,l,p,a => by
  unfold ztdZ;rw [wr_has,np_has];simp only [List.length_cons]
  constructor
  ·rintro ((h | h) | ⟨q,h1,h2,h3⟩)
   ·exact .inl h
   ·exact .inr ⟨p,by omega,by omega,h⟩
   ·exact .inr ⟨q,by omega,by omega,h3⟩
  ·rintro (h | ⟨q,h1,h2,h3⟩)
   ·exact .inl (.inl h)
   ·by_cases c : q=p
    ·exact .inl (.inr (c ▸ h3))
    ·exact .inr ⟨q,by omega,by omega,h3⟩
theorem wr_at : ∀ {bs : List UInt8} {l : List Ext} (hs : srt l) (p q : Int),atL (ztdZ l p bs) q=if p≤q∧q < p + bs.length then bs.getD (q - p).toNat 0 else atL l q
 | [],l,hs,p,q => by
  unfold ztdZ;rw [if_neg (by simp only [List.length_nil]; omega)]
 | b :: r,l,hs,p,q => by
  unfold ztdZ;rw [wr_at (np_srt hs p [b]),np_at hs (by simp only [List.length_cons,List.length_nil]; omega)];simp only [List.length_cons,List.length_nil]
  by_cases c : p + 1≤q∧q < p + 1 + r.length
  ·rw [if_pos c,if_pos (by omega),show (q - p).toNat=(q - (p + 1)).toNat + 1 by omega]; rfl
  ·rw [if_neg c]
   by_cases c2 : p=q
   ·subst c2
    rw [if_pos (by omega),if_pos (by omega)]; simp
   ·rw [if_neg (by omega),if_neg (by omega)]
theorem wr_app : ∀ {bs cs : List UInt8} {l : List Ext} {p : Int},ztdZ l p (bs ++ cs)=ztdZ (ztdZ l p bs) (p + bs.length) cs
 | [],cs,l,p => by simp [ztdZ]
 | b :: r,cs,l,p => by
  show ztdZ (zspZ l p [b]) (p + 1) (r ++ cs)=ztdZ (ztdZ (zspZ l p [b]) (p + 1) r) (p + (r.length + 1 : Nat)) cs
  rw [wr_app]; congr 1; omega
theorem wr_one {l : List Ext} (hs : srt l) {p : Int} {bs : List UInt8} (h : p % 8 + bs.length≤8) (hb : bs ≠ []) : zspZ l p bs=ztdZ l p bs:=by
 have hlen : 0 < bs.length:=List.length_pos_iff.2 hb;refine srt_ext (np_srt hs p bs) (wr_srt hs p) (λa=>?_) (λq=>?_)
 ·rw [np_has,wr_has]
  refine or_congr_right ⟨λh1=>⟨p,by omega,by omega,h1⟩, ?_⟩;rintro ⟨q,h1,h2,rfl⟩; omega
 ·rw [np_at hs h,wr_at hs]
theorem wr_len : ∀ {bs : List UInt8} {l : List Ext} {p : Int},(ztdZ l p bs).length≤l.length + bs.length
 | [],l,p => by simp [ztdZ]
 | b :: r,l,p => by
  unfold ztdZ;have h1:=wr_len (bs:=r) (l:=zspZ l p [b]) (p:=p + 1);have h2 : (zspZ l p [b]).length=(needL l (p / 8)).length:=by simp [zspZ,putL]
  have h3:=(need_len l (p / 8)).1;simp only [List.length_cons]; omega
theorem cleanB_iff {size : Int} : ∀ {b : List UInt8} {p : Int},cleanB size p b ↔ ∀ k : Nat,k < b.length→size≤p + k→b.getD k 0=0
 | [],p => by simp [cleanB]
 | x :: r,p => by
  unfold cleanB;rw [cleanB_iff]
  constructor
  ·rintro ⟨h1,h2⟩ k hk hs
   cases k with
   | zero =>
    simp
    by_cases c : x=0
    ·exact c
    ·have:=h1 c; omega
   | succ k =>
    have:=h2 k (by simpa using hk) (by omega)
    simpa using this
  ·intro h
   refine ⟨λhx=>?_,λk hk hs=>?_⟩
   ·have:=h 0 (by simp)
    simp at this
    by_cases c : p < size
    ·exact c
    ·exact absurd (this (by omega)) hx
   ·have:=h (k + 1) (by simpa using hk) (by omega)
    simpa using this
theorem cleanE_iff {size : Int} {x : Ext} : zbgtZ size x ↔ ∀ k : Nat,k < 8→size≤x.no * 8 + k→x.b.getD k 0=0:=by
 have:=cleanB_iff (size:=size) (b:=x.b) (p:=x.no * 8)
 rw [x.hb] at this; exact this
theorem okL_iff {size : Int} : ∀ {l : List Ext} {p : Int},okL size p l ↔ srt l∧∀ x ∈ l,p < x.no∧x.no < 137438953472∧zbgtZ size x
 | [],p => by simp [okL,srt]
 | x :: r,p => by
  rw [okL_cons,okL_iff]
  constructor
  ·rintro ⟨h1,h2,h3,h4,h5⟩
   refine ⟨List.pairwise_cons.2 ⟨λy hy=>(h5 y hy).1,h4⟩,λy hy=>?_⟩;rcases List.mem_cons.1 hy with rfl | hy
   ·exact ⟨h1,h2,h3⟩
   ·have:=h5 y hy; exact ⟨by omega,this.2⟩
  ·rintro ⟨h1,h2⟩
   have h1':=List.pairwise_cons.1 h1;have h3:=h2 x (by simp);refine ⟨h3.1,h3.2.1,h3.2.2,h1'.2,λy hy=>?_⟩
   have:=h2 y (by simp [hy])
   exact ⟨h1'.1 y hy,this.2⟩
theorem okL_at {size : Int} {l : List Ext} : okL size (-1) l ↔ srt l∧(∀ no,hasL l no→0≤no∧no < 137438953472)∧∀ p,size≤p→atL l p=0:=by
 rw [okL_iff]
 constructor
 ·rintro ⟨hs,h⟩
  refine ⟨hs, ?_,λp hp=>?_⟩
  ·rintro no ⟨x,hx,rfl⟩
   have:=h x hx; omega
  ·by_cases c : hasL l (p / 8)
   ·obtain ⟨x,hx,e⟩:=c
    rw [at_mem hs hx e];exact cleanE_iff.1 (h x hx).2.2 _ (by omega) (by omega)
   ·exact zvrZ c
 ·rintro ⟨hs,h1,h2⟩
  refine ⟨hs,λx hx=>?_⟩
  have:=h1 x.no ⟨x,hx,rfl⟩
  refine ⟨by omega,this.2,cleanE_iff.2 λk hk hz=>?_⟩;rw [← at_blk hs hx hk]; exact h2 _ hz
def wipeE (x : Ext) (a b : Int) : Ext:=⟨x.no,x.b.mapIdx λk y=>if a≤x.no * 8 + (k : Int)∧x.no * 8 + (k : Int) < b then 0 else y,by have:=x.hb; simpa using this⟩
theorem zhgZ {x : Ext} {a b : Int} {k : Nat} (hk : k < 8) : (wipeE x a b).b.getD k 0=if a≤x.no * 8 + (k : Int)∧x.no * 8 + (k : Int) < b then 0 else x.b.getD k 0:=by
 have hb:=x.hb;unfold wipeE;simp only [List.getD_eq_getElem?_getD,List.getElem?_mapIdx];rw [gEG (show k < x.b.length by omega)];rfl
def wipeL (l : List Ext) (a b : Int) : List Ext:=l.map λx=>wipeE x a b
theorem wipe_srt {l : List Ext} (hs : srt l) (a b : Int) : srt (wipeL l a b):=srt_map (λ_ _=>rfl) hs
theorem wipe_has {l : List Ext} {a b no : Int} : hasL (wipeL l a b) no ↔ hasL l no:=map_has (f:=λx=>wipeE x a b) (λ_ _=>rfl)
theorem wipe_at {l : List Ext} (hs : srt l) (a b p : Int) : atL (wipeL l a b) p=if a≤p∧p < b then 0 else atL l p:=by
 by_cases h : hasL l (p / 8)
 ·obtain ⟨x,hx,e⟩:=h
  rw [at_mem (x:=wipeE x a b) (wipe_srt hs a b) (List.mem_map.2 ⟨x,hx,rfl⟩) e,at_mem hs hx e,zhgZ (by omega)];rw [show x.no * 8 + ((p % 8).toNat : Int)=p by omega]
 ·rw [zvrZ h,zvrZ (by rw [wipe_has]; exact h)]; split <;> rfl
theorem zbbtZ {l : List Ext} (hs : srt l) (f : Ext→Bool) : srt (l.filter f):=List.Pairwise.filter f hs
theorem zbfpZ {l : List Ext} {f : Int→Bool} {no : Int} : hasL (l.filter λx=>f x.no) no ↔ hasL l no∧f no=true:=by
 unfold hasL
 constructor
 ·rintro ⟨x,hx,rfl⟩
  rw [List.mem_filter] at hx;exact ⟨⟨x,hx.1,rfl⟩,hx.2⟩
 ·rintro ⟨⟨x,hx,rfl⟩,h⟩
  exact ⟨x,List.mem_filter.2 ⟨hx,h⟩,rfl⟩
theorem filter_at {l : List Ext} (hs : srt l) {f : Int→Bool} (p : Int) : atL (l.filter λx=>f x.no) p=if f (p / 8)=true then atL l p else 0:=by
 by_cases h : hasL l (p / 8)
 ·obtain ⟨x,hx,e⟩:=h
  split
  ·rename_i c
   rw [at_mem (zbbtZ hs _) (List.mem_filter.2 ⟨hx,by rw [e]; exact c⟩) e,at_mem hs hx e]
  ·rename_i c
   exact zvrZ (λh2=>c (zbfpZ.1 h2).2)
 ·rw [zvrZ h,zvrZ (λh2=>h (zbfpZ.1 h2).1)]; split <;> rfl
def zbgfZ (l : List Ext) (size : Int) : List Ext:=wipeL (l.filter λx=>decide (x.no * 8 < size)) size 1099511627776
theorem tr_srt {l : List Ext} (hs : srt l) (size : Int) : srt (zbgfZ l size):=wipe_srt (zbbtZ hs _) _ _
theorem tr_has {l : List Ext} {size no : Int} : hasL (zbgfZ l size) no ↔ hasL l no∧no * 8 < size:=by
 unfold zbgfZ;rw [wipe_has,zbfpZ (f:=λno=>decide (no * 8 < size))]; simp
theorem tr_at {l : List Ext} (hs : srt l) {size : Int} (h : ∀ no,hasL l no→no < 137438953472) (p : Int) : atL (zbgfZ l size) p=if p < size then atL l p else 0:=by
 unfold zbgfZ;rw [wipe_at (zbbtZ hs _),filter_at hs (f:=λno=>decide (no * 8 < size))]
 by_cases c : p < size
 ·rw [if_neg (by omega),if_pos c,if_pos (by simp; omega)]
 ·rw [if_neg c]
  by_cases c2 : p < 1099511627776
  ·rw [if_pos ⟨by omega,c2⟩]
  ·rw [if_neg (by omega),zvrZ]
   ·split <;> rfl
   ·intro h2; have:=h _ h2; omega
def gone (pos n no : Int) : Bool:=decide (pos≤no * 8) && decide (no * 8 + 8≤pos + n)
def zbglZ (l : List Ext) (pos n : Int) : List Ext:=wipeL (l.filter λx=>!gone pos n x.no) pos (pos + n)
theorem pu_srt {l : List Ext} (hs : srt l) (pos n : Int) : srt (zbglZ l pos n):=wipe_srt (zbbtZ hs _) _ _
theorem pu_has {l : List Ext} {pos n no : Int} : hasL (zbglZ l pos n) no ↔ hasL l no∧¬ (pos≤no * 8∧no * 8 + 8≤pos + n):=by
 unfold zbglZ;rw [wipe_has,zbfpZ (f:=λno=>!gone pos n no)]; simp [gone]; intro _; omega
theorem pu_at {l : List Ext} (hs : srt l) (pos n p : Int) : atL (zbglZ l pos n) p=if pos≤p∧p < pos + n then 0 else atL l p:=by
 unfold zbglZ;rw [wipe_at (zbbtZ hs _),filter_at hs (f:=λno=>!gone pos n no)]
 split
 ·rfl
 ·rename_i c
  split
  ·rfl
  ·rename_i c2
   simp [gone] at c2;omega
def needs (l : List Ext) (no : Int) : Nat→List Ext
 | 0 => l
 | k + 1 => needs (needL l no) (no + 1) k
theorem ns_srt : ∀ {k : Nat} {l : List Ext} (hs : srt l) (no : Int),srt (needs l no k)
 | 0,l,hs,no => hs
 | k + 1,l,hs,no => ns_srt (k:=k) (zbbjZ hs no) (no + 1)
theorem ns_has : ∀ {k : Nat} {l : List Ext} {no a : Int},hasL (needs l no k) a ↔ hasL l a∨(no≤a∧a < no + k)
 | 0,l,no,a => by unfold needs; exact ⟨.inl,λh=>h.elim id λh=>by omega⟩
 | k + 1,l,no,a => by
  unfold needs;rw [ns_has,need_has]
  constructor
  ·rintro ((h | h) | h)
   ·exact .inl h
   ·exact .inr (by omega)
   ·exact .inr (by omega)
  ·rintro (h | h)
   ·exact .inl (.inl h)
   ·by_cases c : a=no
    ·exact .inl (.inr c)
    ·exact .inr (by omega)
theorem ns_at : ∀ {k : Nat} {l : List Ext} (hs : srt l) (no p : Int),atL (needs l no k) p=atL l p
 | 0,l,hs,no,p => rfl
 | k + 1,l,hs,no,p => by
  unfold needs;rw [ns_at (zbbjZ hs no),need_at hs]
theorem ns_succ : ∀ {k : Nat} {l : List Ext} {no : Int},needs l no (k + 1)=needL (needs l no k) (no + k)
 | 0,l,no => by simp [needs]
 | k + 1,l,no => by
  show needs (needL l no) (no + 1) (k + 1)=_
  rw [ns_succ (k:=k)]
  show needL (needs (needL l no) (no + 1) k) (no + 1 + k)=needL (needs (needL l no) (no + 1) k) (no + (k + 1 : Nat))
  congr 1; omega
theorem ns_len : ∀ {k : Nat} {l : List Ext} {no : Int},(needs l no k).length≤l.length + k∧l.length≤(needs l no k).length
 | 0,l,no => by simp [needs]
 | k + 1,l,no => by
  unfold needs;have h1:=ns_len (k:=k) (l:=needL l no) (no:=no + 1);have h2:=need_len l no;omega
def allocN (pos n : Int) : Nat:=((pos + n - 1) / 8 - pos / 8 + 1).toNat
def allocL (l : List Ext) (pos n : Int) : List Ext:=needs l (pos / 8) (allocN pos n)
abbrev Cont:=Int × List Ext
def ztsZ (c : Cont) (pos : Int) (bs : List UInt8) : Option Cont :=
 if mayC c.1 c.2∧0≤pos∧bs.length≤4096∧pos≤1099511627776 - bs.length then some (if bs=[] then c else (max c.1 (pos + bs.length),ztdZ c.2 pos bs)) else none
def zvnZ (c : Cont) (size : Int) : Option Cont:=if mayC c.1 c.2∧0≤size∧size≤1099511627776 then some (size,zbgfZ c.2 size) else none
def ztqZ (c : Cont) (pos n : Int) (keep : Bool) : Option Cont :=
 if mayC c.1 c.2∧0≤pos∧1≤n∧n≤32768∧pos≤1099511627776 - n then some (if keep then c.1 else max c.1 (pos + n),allocL c.2 pos n) else none
def zwxZ (c : Cont) (pos n : Int) : Option Cont :=
 if mayC c.1 c.2∧0≤pos∧1≤n∧n≤1099511627776∧pos≤1099511627776 - n then some (c.1,zbglZ c.2 pos n) else none
theorem may_at {size : Int} {l : List Ext} : mayC size l ↔ 0≤size∧size≤1099511627776∧srt l∧(∀ no,hasL l no→0≤no∧no < 137438953472)∧∀ p,size≤p→atL l p=0:=by
 unfold mayC; rw [okL_at]
theorem may_write {c d : Cont} {pos : Int} {bs : List UInt8} (h : ztsZ c pos bs=some d) : mayC d.1 d.2:=by
 unfold ztsZ at h;split at h
 ·rename_i g
  injection h with h;subst h
  split
  ·exact g.1
  ·rename_i hb
   have hlen : 0 < bs.length:=List.length_pos_iff.2 hb;obtain ⟨g1,g2,g3,g4⟩:=g;rw [may_at] at g1 ⊢;obtain ⟨a1,a2,a3,a4,a5⟩:=g1;refine ⟨by simp only; omega,by simp only; omega,wr_srt a3 pos, ?_, ?_⟩
   ·intro no hno
    rcases wr_has.1 hno with h | ⟨q,h1,h2,h3⟩
    ·exact a4 no h
    ·omega
   ·intro p hp
    simp only at hp;rw [wr_at a3,if_neg (by omega)];exact a5 p (by omega)
 ·cases h
theorem may_trunc {c d : Cont} {size : Int} (h : zvnZ c size=some d) : mayC d.1 d.2:=by
 unfold zvnZ at h;split at h
 ·rename_i g
  injection h with h;subst h;obtain ⟨g1,g2,g3⟩:=g;rw [may_at] at g1 ⊢;obtain ⟨a1,a2,a3,a4,a5⟩:=g1;refine ⟨g2,g3,tr_srt a3 size,λno hno=>a4 no (tr_has.1 hno).1,λp hp=>?_⟩;rw [tr_at a3 (λno h=>(a4 no h).2),if_neg (by simp only at hp; omega)]
 ·cases h
theorem may_alloc {c d : Cont} {pos n : Int} {keep : Bool} (h : ztqZ c pos n keep=some d) : mayC d.1 d.2:=by
 unfold ztqZ at h;split at h
 ·rename_i g
  injection h with h;subst h;obtain ⟨g1,g2,g3,g4,g5⟩:=g;rw [may_at] at g1 ⊢;obtain ⟨a1,a2,a3,a4,a5⟩:=g1;refine ⟨by simp only; split <;> omega,by simp only; split <;> omega,ns_srt a3 _,λno hno=>?_,λp hp=>?_⟩
  ·rcases ns_has.1 hno with h | h
   ·exact a4 no h
   ·unfold allocN at h; omega
  ·unfold allocL
   rw [ns_at a3];refine a5 p ?_;simp only at hp;split at hp <;> omega
 ·cases h
theorem may_punch {c d : Cont} {pos n : Int} (h : zwxZ c pos n=some d) : mayC d.1 d.2:=by
 unfold zwxZ at h;split at h
 ·rename_i g
  injection h with h;subst h;obtain ⟨g1,g2,g3,g4,g5⟩:=g;rw [may_at] at g1 ⊢;obtain ⟨a1,a2,a3,a4,a5⟩:=g1;refine ⟨a1,a2,pu_srt a3 _ _,λno hno=>a4 no (pu_has.1 hno).1,λp hp=>?_⟩;rw [pu_at a3]
  split
  ·rfl
  ·exact a5 p hp
 ·cases h
theorem zbiZ {v : AV} (h : zjsZ v=true) : oneA v=true:=by
 unfold zjsZ at h;split at h
 ·rfl
 ·rfl
 ·rfl
 ·cases h
theorem zttZ {α : Type} {enc : α→List AV} {sz : Nat} (hsz : ∀ x,(enc x).length=sz) : ∀ (l : List α) (i : Nat),(l.flatMap enc).take (i * sz)=(l.take i).flatMap enc
 | [],i => by simp
 | a :: l,0 => by simp
 | a :: l,i + 1 => by
  have ha:=hsz a;rw [List.take_succ_cons,List.flatMap_cons,List.flatMap_cons,← zttZ hsz l i,show (i + 1) * sz=(enc a).length + i * sz by rw [ha,Nat.succ_mul]; omega,List.take_length_add_append]
theorem zseZ {α : Type} {enc : α→List AV} {sz : Nat} (hsz : ∀ x,(enc x).length=sz) : ∀ (l : List α) (i : Nat),(l.flatMap enc).drop (i * sz)=(l.drop i).flatMap enc
 | [],i => by simp
 | a :: l,0 => by simp
 | a :: l,i + 1 => by
  have ha:=hsz a;rw [List.drop_succ_cons,List.flatMap_cons,← zseZ hsz l i,show (i + 1) * sz=(enc a).length + i * sz by rw [ha,Nat.succ_mul]; omega,List.drop_length_add_append]
def Grew (H H' : AH) : Prop:=H.length≤H'.length∧∀ i,i < H.length→H'[i]? = H[i]?
theorem Grew.refl (H : AH) : Grew H H:=⟨Nat.le_refl _,λ_ _=>rfl⟩
theorem Grew.trans {A B C : AH} (h : Grew A B) (k : Grew B C) : Grew A C:=⟨Nat.le_trans h.1 k.1,λi hi=>(k.2 i (Nat.lt_of_lt_of_le hi h.1)).trans (h.2 i hi)⟩
theorem Grew.app (H X : AH) : Grew H (H ++ X):=⟨by simp,λi hi=>List.getElem?_append_left hi⟩
theorem Grew.cells {H H' : AH} (h : Grew H H') {o : Nat} {x : Option AObj} (ho : H[o]? = some x) : H'[o]? = some x:=by
 rw [h.2 o (gSI.1 ho).1]; exact ho
theorem Grew.slice {H H' : AH} (h : Grew H H') {sz : Nat} {v : AV} {q : List AV × Nat} (hv : zaZ H sz v=some q) : zaZ H' sz v=some q :=
 zcZ hv λi hi=>h.2 i (zrZ hv i hi)
theorem zbflZ {H : AH} {sz : Nat} {v : AV} {cs : List AV} {n : Nat} (h : zaZ H sz v=some (cs,n)) : (v=nilSl∧cs=[]∧n=0)∨abN .eql nilS v nilSl=some (B false):=by
 unfold zaZ at h;split at h
 ·exact .inr rfl
 ·exact .inr rfl
 ·injection h with h; injection h with h1 h2; exact .inl ⟨rfl,h1.symm,h2.symm⟩
 ·exact .inr rfl
 ·cases h
theorem ext_Clone_c {H : AH} {v : AV} {cs : List AV} {n : Nat} (h : zaZ H 9 v=some (cs,n)) (hn : n≤1000000000) :
  ∃ r H',(zjsZ r=true∧zaZ H' 9 r=some (cs,n)∧Grew H H'∧∀ i ∈ idS r,H.length≤i)∧BCall Tryz.prog 150 [v] H r H':=zmsZ (by
 unfold zhdZ;rcases zbflZ h with ⟨rfl,rfl,rfl⟩ | hb
 ·have e : abN .eql nilS nilSl nilSl=some (B true):=rfl
  simp only [e,zbZ,zpZ,zbcZ];exact ⟨rfl,h,Grew.refl H,by simp [idS]⟩
 ·simp only [hb,zbZ,zpZ,zmZ]
  have e : absl H 9 0 (zrow [(I 0),(.lit (.int .u8 0)),(.lit (.int .u8 0)),(.lit (.int .u8 0)),(.lit (.int .u8 0)),(.lit (.int .u8 0)),(.lit (.int .u8 0)),(.lit (.int .u8 0)),(.lit (.int .u8 0))] 0) []=some (.sl H.length 0 0 9 (.ex 0),H ++ [some (.cells [])]):=rfl;simp only [e,zbpZ];have g:=Grew.app H [some (.cells [])];obtain ⟨r,H2,a1,a2,a3,a4,a5,a6⟩:=zjmZ (sz:=9) (bytes:=16) (H:=H ++ [some (.cells [])]) (v:=.sl H.length 0 0 9 (.ex 0)) (cs:=[]) (n:=0) (by simp [zaZ]) rfl (znZ (g.slice h)) (by omega);simp only [a1,zbpZ];refine ⟨a2,by simpa using a3,⟨by simp at a4; omega,λi hi=>?_⟩,λi hi=>?_⟩
  ·rw [a5 i (by simp; omega) (by simp [idS]; omega)]
   exact g.2 i hi
  ·rcases a6 i hi with h | h
   ·simp [idS] at h; omega
   ·simp at h; omega)
theorem copied_c {H : AH} {size : Int} {v : AV} {cs : List AV} {n : Nat} (h : zaZ H 9 v=some (cs,n)) (h1 : oneA v=true) (hn : n≤1000000000) :
  ∃ r H',(∃ w,r = .agg [I size,w]∧zjsZ w=true∧zaZ H' 9 w=some (cs,n)∧Grew H H'∧∀ i ∈ idS w,H.length≤i)∧BCall Tryz.prog 94 [.agg [I size,v]] H r H':=extent_copied_ok (by
 unfold extent_copied;have g:=Grew.app H [some (.cells [I size,v]),some (.cells [I 0,nilSl])];obtain ⟨w,H2,⟨a2,a3,a4,a5⟩,a1⟩:=ext_Clone_c (g.slice h) hn;have c0:=a4.cells (o:=H.length) (x:=some (.cells [I size,v])) (by simp);have c1:=a4.cells (o:=H.length + 1) (x:=some (.cells [I 0,nilSl])) (by rw [List.getElem?_append_right (by omega)]; simp);have l2 : H.length + 2≤H2.length:=by have:=a4.1; simpa using this
 have hw:=zbiZ a2;simp [h1];refine bC_of a1 ?_;simp [zbsZ hw];rw [zcoZ (n:=2) (off:=0) (x:=.agg [I size,w]) (xs:=[I size,w]) (cs:=[I 0,nilSl]) (by simp [hw]) c1 rfl (by simp)];simp [show H.length + 1 < H2.length by omega,c0,ztZ];refine ⟨a2,zcZ a3 λi hi=>gSN ?_, ?_,λi hi=>?_⟩
 ·have:=a5 i hi; simp at this; omega
 ·refine ⟨by simp; omega,λi hi=>?_⟩
  rw [gSN (by omega),a4.2 i (by simp; omega),g.2 i hi]
 ·have:=a5 i hi; simp at this; omega)
theorem insE_ok {H : AH} {s : AV} {cs : List AV} {n ov i : Nat} {x : Ext} (hs : zaZ H 9 s=some (cs,n)) (ho : zjsZ s=true) (hi : i≤n) (hn : n≤100000000) (hv : H[ov]? = some (some (.cells (encE x)))) (hne : ov ∉ idS s) :
  ∃ r H',InsP H s (cs.take (i * 9) ++ encE x ++ cs.drop (i * 9)) n r H'∧BCall Tryz.prog 153 [s,I i,.sl ov 0 1 9 (.ex 1)] H r H':=by
 have hcl:=zcvZ hs;rcases Nat.lt_or_ge i n with h | h
 ·obtain ⟨o,off,cap,cells,rfl,h1,h2,rfl⟩:=zbabZ hs ho (by omega)
  have hov : ov ≠ o:=by simpa [idS] using hne
  have hol:=(gSI.1 h1).1;have hxl:=zbmZ x;have e1 : ((cells.drop off).take (n * 9)).take (i * 9)=(cells.drop off).take (i * 9):=by rw [List.take_take]; congr 1; omega
  have e2 : ((cells.drop off).take (n * 9)).drop (i * 9)=(cells.drop (off + i * 9)).take ((n - i) * 9):=by rw [List.drop_take,List.drop_drop]; congr 1; omega
  refine ⟨_,_, ?_,insE_mid h1 h2 h hn hv hov⟩;rw [e1,e2];refine ⟨rfl, ?_,by simp,λj hj hn=>?_,λj hj=>.inr (by simp [idS] at hj; omega)⟩
  ·rw [zbuZ (c:=(cells.drop off).take (i * 9) ++ encE x ++ (cells.drop (off + i * 9)).take ((n - i) * 9)) (by rw [List.getElem?_append_right (by simp)]; simp) (by simp; omega)]
   rw [List.drop_zero,List.take_of_length_le (by simp; omega)]
  ·rw [List.getElem?_append_left (by simpa using hj),gSN (by simp [idS] at hn; omega)]
 ·have : i=n:=by omega
  subst this;obtain ⟨r,H',h1,h2⟩:=insE_end hs ho hn hv;refine ⟨r,H', ?_,h2⟩;rw [List.take_of_length_le (by omega),List.drop_of_length_le (by omega),List.append_nil];exact h1
def ContP (H : AH) (oc : Nat) (size : Int) (v : AV) (l : List Ext) (H' : AH) : Prop :=
 ∃ v',H'[oc]? = some (some (.cells [I size,v']))∧zaZ H' 9 v'=some (l.flatMap encE,l.length)∧zjsZ v'=true∧oc ∉ idS v'∧H.length≤H'.length∧(∀ i,i < H.length→i ≠ oc→i ∉ idS v→H'[i]? = H[i]?)∧∀ i ∈ idS v',i ∈ idS v∨H.length≤i
theorem encE_new (no : Int) : encE (newE no)=[I no,.lit (.int .u8 0),.lit (.int .u8 0),.lit (.int .u8 0),.lit (.int .u8 0),.lit (.int .u8 0),.lit (.int .u8 0),.lit (.int .u8 0),.lit (.int .u8 0)]:=rfl
theorem zbedZ {H : AH} {oc : Nat} {size no : Int} {v : AV} {l : List Ext} (hc : H[oc]? = some (some (.cells [I size,v]))) (hv : zaZ H 9 v=some (l.flatMap encE,l.length)) (ho : zjsZ v=true) (hne : oc ∉ idS v) (hs : srt l) (hl : l.length≤100000000) :
  ∃ H',ContP H oc size v (needL l no) H'∧BCall Tryz.prog 95 [.ptr oc 0,I no] H (I (posL l no)) H':=by
 have key : ∃ r H',(r=I (posL l no)∧ContP H oc size v (needL l no) H')∧BCall Tryz.prog 95 [.ptr oc 0,I no] H r H':=extent_need_ok (by
  unfold extent_need;have hol:=(gSI.1 hc).1;obtain ⟨R,hR,fR⟩:=FZ.sv hv (zipZ λx _=>zpaZ x);have h1:=zbiZ ho;simp [hc];refine bP_of (PCall.lend (FZs.cons fR (FZs.cons (FZ.lit _) FZs.nil)) rfl (zbfeZ hR hs (by omega) no)) ?_;simp
  by_cases hh : hasL l no
  ·have e : needL l no=l:=if_pos hh
   simp [hh];rw [zxyZ];unfold zsgZ;rw [e];exact ⟨rfl,v,hc,hv,ho,hne,Nat.le_refl _,λ_ _ _ _=>rfl,λi hi=>.inl hi⟩
  ·have e : needL l no=l.take (posL l no) ++ newE no :: l.drop (posL l no):=if_neg hh
   simp [hh];have g:=Grew.app H [some (.cells (encE (newE no)))];obtain ⟨r,H2,⟨b1,b2,b3,b4,b5⟩,a1⟩:=insE_ok (x:=newE no) (ov:=H.length) (g.slice hv) ho (posL_le l no) hl (by simp) (λh=>by have:=zrZ hv _ h; omega);rw [← encE_new];refine bC_of a1 ?_
   have c2 : H2[oc]? = some (some (.cells [I size,v])):=by
    rw [b4 oc (by simp; omega) hne]; exact g.cells hc
   have hr:=zbiZ b1;have hol2:=(gSI.1 c2).1;rw [zcoZ (n:=1) (off:=1) (xs:=[r]) (cs:=[I size,v]) (zbsZ hr) c2 rfl (by simp)];simp;rw [zxyZ];unfold zsgZ;have hoc : oc ∉ idS r:=λh=>(b5 oc h).elim hne (λh=>by simp at h; omega)
   refine ⟨rfl,r,by simp [hol2], ?_,b1,hoc,by simp at b3; simp; omega,λi hi h1 h2=>?_,λi hi=>(b5 i hi).imp id (λh=>by simp at h; omega)⟩
   ·rw [zcZ b2 (λi hi=>gSN (fun (h : oc=i) => hoc (h ▸ hi)))]
    rw [zttZ zbmZ,zseZ zbmZ,e,List.flatMap_append,List.flatMap_cons,List.append_assoc]
    have:=posL_le l no
    simp; omega
   ·rw [gSN (by omega),b4 i (by simp; omega) h2]
    exact g.2 i hi)
 obtain ⟨r,H',⟨rfl,h1⟩,h2⟩:=key;exact ⟨H',h1,h2⟩
end Go.Proofs.YtlhiaihmkjlaaaaGreat.Av
end
