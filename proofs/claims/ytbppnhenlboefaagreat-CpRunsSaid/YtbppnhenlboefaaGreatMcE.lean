/- The law and its row. No condition. -/
import Derived.Test.YtbppnhenlboefaaGreatMcD
set_option linter.unusedVariables false
set_option maxRecDepth 100000
section
namespace Go.Proofs.YtbppnhenlboefaaGreat.Av
open Go Go.Proofs.Tryz
def CQ:FuncId→Bool:=S5 [188,54,142,148,145,22,170,50,172,141,171,173,94,140,42,95,20,13,52,102,75,82,176,40,135,70,134,139,149,24,166,174,138,207,57,58,59,107,109,92,168]
def fJ:FuncId→Bool:=S5 [210,212]
def NC (a0:AV)(H:AH)(K:KT):Prop:=
 bH (A8 H a0) λv0 H1=>
 bH (A8 H1 (.agg [(I 0),Ad])) λv2 H3=>
 bO (Ac 0 v0) λv4=>
 bO (Ar false 1 H3 v4) λv5=>
 bO (Ac 1 v0) λv6=>
 bO (Ar false 1 H3 v6) λv7=>
 bP (BPure prog 95 [v7]) λv8=>
 bO (EW [(I 0),Ad] [(0,1,v5),(1,1,v8)]) λv9=>
 bS (AU 2 H3 v2 v9) λH10=>
 bO (Ar true 2 H10 v2) λv11=>
 K v11 H10
theorem PV {a0:AV}{H:AH}{K:KT}(h:NC a0 H K):Cv 42 [a0] H K:=
 fok A7 CQ BE func42 h
def Rp (a0 a1:AV)(H:AH)(K:KT):Prop:=
 bH (A8 H a0) λv0 H1=>
 bO (Ar true 2 H1 v0) λv2=>
 bP (PCall prog 40 [v2] H1) λv3=>
 bO (E4 .not v3) λv4=>
 bB v4 λt5=>bI t5 (
 K (.tup [(I 0),(B false)]) H1)
 (bO (Ar true 2 H1 v0) λv6=>
 bC (BCall prog 51 [v6,a1] H1) λv7 H8=>
 bO (Aj v7 0) λv9=>
 bO (Aj v7 1) λv10=>
 bO (E4 .not v10) λv11=>
 bB v11 λt12=>bI t12 (
 K (.tup [(I 0),(B false)]) H8)
 (bO (Ac 0 v0) λv13=>
 bO (Ar false 1 H8 v13) λv14=>
 bO (Bv 2 v14 v9) λv15=>
 bO (Ac 1 v15) λv16=>
 bO (Ar false 1 H8 v16) λv17=>
 K (.tup [v17,(B true)]) H8))
theorem Sz {a0 a1:AV}{H:AH}{K:KT}(h:Rp a0 a1 H K):Cv 20 [a0,a1] H K:=
 fok A7 CQ BE func20 h
def OM (a0 a1:AV)(H:AH)(K:KT):Prop:=
 bH (A8 H a0) λv0 H1=>
 bH (A8 H1 (.agg [(I 0),Ad])) λv2 H3=>
 bO (Ar true 2 H3 v0) λv4=>
 bP (PCall prog 40 [v4] H3) λv5=>
 bO (E4 .not v5) λv6=>
 bB v6 λt7=>bI t7 (
 bO (EW [(I 0),Ad] []) λv8=>
 bS (AU 2 H3 v2 v8) λH9=>
 bO (Ar true 2 H9 v2) λv10=>
 K (.tup [v10,(B false)]) H9)
 (bO (Ar true 2 H3 v0) λv11=>
 bC (BCall prog 41 [v11,a1] H3) λv12 H13=>
 bO (Aj v12 0) λv14=>
 bO (Aj v12 1) λv15=>
 bO (E4 .not v15) λv16=>
 bB v16 λt17=>bI t17 (
 bO (EW [(I 0),Ad] []) λv18=>
 bS (AU 2 H13 v2 v18) λH19=>
 bO (Ar true 2 H19 v2) λv20=>
 K (.tup [v20,(B false)]) H19)
 (bO (Ac 1 v0) λv21=>
 bO (Ar false 1 H13 v21) λv22=>
 bO (Bv 3 v22 v14) λv23=>
 bO (Ac 1 v23) λv24=>
 bO (Ar true 2 H13 v24) λv25=>
 bP (PCall prog 42 [v25] H13) λv26=>
 bS (AU 2 H13 v2 v26) λH27=>
 bO (Ar true 2 H27 v2) λv28=>
 K (.tup [v28,(B true)]) H27))
theorem N6 {a0 a1:AV}{H:AH}{K:KT}(h:OM a0 a1 H K):Cv 13 [a0,a1] H K:=
 fok A7 CQ BE func13 h
def Mh:Nat→Option (List Bool):=Cu [(7,mk 24 0 [3,10,11,12])]
def NA (p:List Bool)(n:Nat):List AV→AH→Kf→Prop:=AC prog A7 CQ Ak Ak Mh (sub p (AI f52)) n
def Mg (x3 x10 x11 x12:AV)(H:AH)(K:KT):Prop:=lp (mk 24 0 [3,10,11,12]) (NA [tT,tT,tT,fF,tT,fF,fF] 8) [x3,x10,x11,x12] H (BD 0 (BK (NA [tT,tT,tT,tT] 12) (Bw prog f52.results.toList K)))
def JK (R7:RT)(x3 x10 x11 x12:AV)(H:AH)(K:KT):Prop:=
 bO (Ax .lss x12 x11) λv0=>
 bB v0 λt1=>bI t1 (
 bO (Bv 3 x10 x12) λv2=>
 bO (Ar true 3 H v2) λv3=>
 bH (A8 H (.agg [(I 0),(I 0),Ad])) λv4 H5=>
 bS (AU 3 H5 v4 v3) λH6=>
 bO (Ac 1 v4) λv7=>
 bO (Ac 1 v7) λv8=>
 bO (Ar false 1 H6 v8) λv9=>
 bO (Be v9) λv10=>
 bO (Ax .add x3 v10) λv11=>
 bO (Ax .add x12 (I 1)) λv12=>
 R7 [v11,x10,x11,v12] H6)
 (K x3 H)
theorem M8 {K:KT}:Wg (λR x3 x10 x11 x12 H=>JK R x3 x10 x11 x12 H K) (λx3 x10 x11 x12 H=>Mg x3 x10 x11 x12 H K):=MB (A5 _ _) (λ_ _ _ _ _ _=>by kernel_rfl)
def Rq (a0:AV)(H:AH)(K:KT):Prop:=
 bH (A8 H a0) λv0 H1=>
 bO (Ar true 2 H1 v0) λv2=>
 bP (PCall prog 40 [v2] H1) λv3=>
 bO (E4 .not v3) λv4=>
 bB v4 λt5=>bI t5 (
 K (I 0) H1)
 (bO (Ac 1 v0) λv6=>
 bO (Ar false 1 H1 v6) λv7=>
 bO (Be v7) λv8=>
 Mg (I 0) v7 v8 (I 0) H1 K)
theorem S3 {a0:AV}{H:AH}{K:KT}(h:Rq a0 H K):Cv 52 [a0] H K:=
 fok A7 CQ Mh func52 h
def IM:Nat→Option (List Bool):=Cu [(6,mk 27 0 [0,17,18])]
def JJ (p:List Bool)(n:Nat):List AV→AH→Kf→Prop:=AC prog A7 CQ Ak Ak IM (sub p (AI f102)) n
def FL (x0 x17 x18:AV)(H:AH)(K:KT):Prop:=lp (mk 27 0 [0,17,18]) (JJ [tT,tT,fF,tT,fF,fF] 7) [x0,x17,x18] H (BD 0 (BK (JJ [tT,tT,tT] 13) (Bw prog f102.results.toList K)))
def Hr (R6:RT)(x0 x17 x18:AV)(H:AH)(K:KT):Prop:=
 bO (Ax .lss x18 x17) λv0=>
 bB v0 λt1=>bI t1 (
 bO (PL x0 x18) λv2=>
 bP (PCall prog 166 [v2] H) λv3=>
 bO (E4 .not v3) λv4=>
 bB v4 λt5=>bI t5 (
 K (B false) H)
 (bO (Ax .add x18 (I 1)) λv6=>
 R6 [x0,x17,v6] H))
 (K (B true) H)
theorem JY {K:KT}:mX (λR x0 x17 x18 H=>Hr R x0 x17 x18 H K) (λx0 x17 x18 H=>FL x0 x17 x18 H K):=fA (A5 _ _) (λ_ _ _ _ _=>by kernel_rfl)
def Mf (a0:AV)(H:AH)(K:KT):Prop:=
 bO (PI .eql a0 (.lit (.string ⟨#[]⟩))) λv0=>
 bG v0 false λw1=>
 gO w1 (some a0) λv2=>
 bG v0 false λw3=>
 gO w3 (Ff v2) λv4=>
 bG v0 false λw5=>
 gO w5 (Ax .gtr v4 (I 20)) λv6=>
 bO (AG v0 (B true) v6) λv7=>
 bG v7 false λw8=>
 gO w8 (some a0) λv9=>
 bG v7 false λw10=>
 gO w10 (PL v9 (I 0)) λv11=>
 bG v7 false λw12=>
 gO w12 (Ax .eql v11 (.lit (.int .u8 45))) λv13=>
 bO (AG v7 (B true) v13) λv14=>
 bB v14 λt15=>bI t15 (
 K (B false) H)
 (bO (Ff a0) λv16=>
 FL a0 v16 (I 0) H K)
theorem ON {a0:AV}{H:AH}{K:KT}(h:Mf a0 H K):Cv 102 [a0] H K:=
 fok A7 CQ IM func102 h
def KN:Nat→Option (List Bool):=Cu [(13,mk 37 0 [2,3,4,31]),(12,mk 37 0 [2,3,4,12,24]),(8,mk 37 0 [2,3,4,12,17]),(5,mk 37 0 [2,4])]
def Di (p:List Bool)(n:Nat):List AV→AH→Kf→Prop:=AC prog A7 CQ Ak Ak KN (sub p (AI f82)) n
def CL (x2 x4:AV)(H:AH)(K:KT):Prop:=jn (mk 37 0 [2,4]) (Di [tT,tT,tT,tT] 14) [x2,x4] H (Bw prog f82.results.toList K)
def JH (x2 x3 x4 x31:AV)(H:AH)(K:KT):Prop:=jn (mk 37 0 [2,3,4,31]) (Di [tT,tT,tT,fF,tT,fF,tT,tT,tT,tT,tT,tT,tT] 14) [x2,x3,x4,x31] H (BD 0 (BK (Kz (mk 37 0 [2,4]) (Di [tT,tT,tT,tT] 14)) (Bw prog f82.results.toList K)))
def JG (x2 x3 x4 x12 x24:AV)(H:AH)(K:KT):Prop:=jn (mk 37 0 [2,3,4,12,24]) (Di [tT,tT,tT,fF,tT,fF,tT,tT,tT,tT,tT] 13) [x2,x3,x4,x12,x24] H (BD 0 (BK (Kz (mk 37 0 [2,4]) (Di [tT,tT,tT,tT] 14)) (Bw prog f82.results.toList K)))
def Du (x2 x3 x4 x12 x17:AV)(H:AH)(K:KT):Prop:=jn (mk 37 0 [2,3,4,12,17]) (Di [tT,tT,tT,fF,tT,fF,tT,tT,tT] 12) [x2,x3,x4,x12,x17] H (BD 0 (BK (Kz (mk 37 0 [2,4]) (Di [tT,tT,tT,tT] 14)) (Bw prog f82.results.toList K)))
def FK (x2 x4:AV)(H:AH)(K:KT):Prop:=
 bO (Ar true 2 H x2) λv0=>
 bS (AU 2 H x4 v0) λH1=>
 bO (Ar true 2 H1 x4) λv2=>
 K v2 H1
theorem Ia (x2 x4:AV)(H:AH)(K:KT):CL x2 x4 H K=FK x2 x4 H K:=(Ea _ _ _ _ _).trans (by kernel_rfl)
def HZ (x2 x3 x4 x31:AV)(H:AH)(K:KT):Prop:=
 bB x31 λt0=>bI t0 (
 bO (Ac 5 x3) λv1=>
 bO (Ar false 1 H v1) λv2=>
 bC (BCall prog 155 [x2,v2] H) λv3 H4=>
 CL x2 x4 H4 K)
 (CL x2 x4 H K)
theorem M6 (x2 x3 x4 x31:AV)(H:AH)(K:KT):JH x2 x3 x4 x31 H K=HZ x2 x3 x4 x31 H K:=(Ea _ _ _ _ _).trans (by kernel_rfl)
def HY (x2 x3 x4 x12 x24:AV)(H:AH)(K:KT):Prop:=
 bB x24 λt0=>bI t0 (
 bO (Ac 5 x3) λv1=>
 bO (Ar false 1 H v1) λv2=>
 bO (Ac 6 x3) λv3=>
 bO (Ar false 1 H v3) λv4=>
 bC (BCall prog 154 [x2,v2,v4] H) λv5 H6=>
 CL x2 x4 H6 K)
 (bO (Ax .eql x12 (I 7)) λv7=>
 JH x2 x3 x4 v7 H K)
theorem M5 (x2 x3 x4 x12 x24:AV)(H:AH)(K:KT):JG x2 x3 x4 x12 x24 H K=HY x2 x3 x4 x12 x24 H K:=(Ea _ _ _ _ _).trans (by kernel_rfl)
def IL (x2 x3 x4 x12 x17:AV)(H:AH)(K:KT):Prop:=
 bB x17 λt0=>bI t0 (
 bO (Ar true 8 H x3) λv1=>
 bC (BCall prog 153 [x2,v1] H) λv2 H3=>
 CL x2 x4 H3 K)
 (bO (Ax .eql x12 (I 6)) λv4=>
 JG x2 x3 x4 x12 v4 H K)
theorem N4 (x2 x3 x4 x12 x17:AV)(H:AH)(K:KT):Du x2 x3 x4 x12 x17 H K=IL x2 x3 x4 x12 x17 H K:=(Ea _ _ _ _ _).trans (by kernel_rfl)
def Pz (a0 a1:AV)(H:AH)(K:KT):Prop:=
 bH (A8 H a0) λv0 H1=>
 bH (A8 H1 a1) λv2 H3=>
 bH (A8 H3 (.agg [Ad,Ad])) λv4 H5=>
 bO (Ar true 2 H5 v0) λv6=>
 bC (BCall prog 43 [v6] H5) λv7 H8=>
 bS (AU 2 H8 v0 v7) λH9=>
 bO (Ar true 2 H9 v0) λv10=>
 bP (PCall prog 40 [v10] H9) λv11=>
 bO (E4 .not v11) λv12=>
 bB v12 λt13=>bI t13 (
 bO (Ar true 2 H9 v0) λv14=>
 bS (AU 2 H9 v4 v14) λH15=>
 bO (Ar true 2 H15 v4) λv16=>
 K v16 H15)
 (bO (Ac 0 v2) λv17=>
 bO (Ar false 1 H9 v17) λv18=>
 bO (Ax .eql v18 (I 1)) λv19=>
 bB v19 λt20=>bI t20 (
 bO (Ar true 8 H9 v2) λv21=>
 bC (BCall prog 152 [v0,v21] H9) λv22 H23=>
 CL v0 v4 H23 K)
 (bO (Ax .eql v18 (I 2)) λv24=>
 bB v24 λt25=>bI t25 (
 Du v0 v2 v4 v18 v24 H9 K)
 (bO (Ax .eql v18 (I 3)) λv26=>
 bB v26 λt27=>bI t27 (
 Du v0 v2 v4 v18 v26 H9 K)
 (bO (Ax .eql v18 (I 4)) λv28=>
 bB v28 λt29=>bI t29 (
 Du v0 v2 v4 v18 v28 H9 K)
 (bO (Ax .eql v18 (I 5)) λv30=>
 Du v0 v2 v4 v18 v30 H9 K)))))
theorem Rm {a0 a1:AV}{H:AH}{K:KT}(h:Pz a0 a1 H K):Cv 82 [a0,a1] H K:=
 fok A7 CQ KN func82 h
def N9:Nat→Option (List Bool):=Cu [(8,mk 51 0 [3,5,25,26,27])]
def P0 (p:List Bool)(n:Nat):List AV→AH→Kf→Prop:=AC prog A7 CQ Ak Ak N9 (sub p (AI f40)) n
def N7 (x3 x5 x25 x26 x27:AV)(H:AH)(K:KT):Prop:=lp (mk 51 0 [3,5,25,26,27]) (P0 [tT,tT,tT,tT,fF,tT,fF,fF] 9) [x3,x5,x25,x26,x27] H (BD 0 (BK (P0 [tT,tT,tT,tT,tT] 16) (Bw prog f40.results.toList K)))
def KP (R8:RT)(x3 x5 x25 x26 x27:AV)(H:AH)(K:KT):Prop:=
 bO (Ax .lss x27 x26) λv0=>
 bB v0 λt1=>bI t1 (
 bO (Bv 3 x25 x27) λv2=>
 bO (Ar true 3 H v2) λv3=>
 bH (A8 H (.agg [(I 0),(I 0),Ad])) λv4 H5=>
 bS (AU 3 H5 v4 v3) λH6=>
 bO (Ac 0 v4) λv7=>
 bO (Ar false 1 H6 v7) λv8=>
 bO (Ax .leq v8 x5) λv9=>
 bG v9 false λw10=>
 gO w10 (some x3) λv11=>
 bG v9 false λw12=>
 gO w12 (Ac 0 v4) λv13=>
 bG v9 false λw14=>
 gO w14 (Ar false 1 H6 v13) λv15=>
 bG v9 false λw16=>
 gO w16 (cH (.int .i64) (.bool false) H6 v11 v15 false) λv17=>
 bG v9 false λw18=>
 gO w18 (E4 .not v17) λv19=>
 bO (AG v9 (B true) v19) λv20=>
 bG v20 false λw21=>
 gO w21 (Ac 1 v4) λv22=>
 bG v20 false λw23=>
 gO w23 (Ar true 2 H6 v22) λv24=>
 bG v20 false λw25=>
 gP w25 (PCall prog 54 [v24] H6) λv26=>
 bG v20 false λw27=>
 gO w27 (E4 .not v26) λv28=>
 bO (AG v20 (B true) v28) λv29=>
 bB v29 λt30=>bI t30 (
 K (B false) H6)
 (bO (Ac 0 v4) λv31=>
 bO (Ar false 1 H6 v31) λv32=>
 bO (Ax .add x27 (I 1)) λv33=>
 R8 [x3,v32,x25,x26,v33] H6))
 (K (B true) H)
theorem N8 {K:KT}:gL (λR x3 x5 x25 x26 x27 H=>KP R x3 x5 x25 x26 x27 H K) (λx3 x5 x25 x26 x27 H=>N7 x3 x5 x25 x26 x27 H K):=W8 (A5 _ _) (λ_ _ _ _ _ _ _=>by kernel_rfl)
def SX (a0:AV)(H:AH)(K:KT):Prop:=
 bH (A8 H a0) λv0 H1=>
 bO (Ac 0 v0) λv2=>
 bO (Ar false 1 H1 v2) λv3=>
 bC (BCall prog 91 [v3] H1) λv4 H5=>
 bO (Aj v4 0) λv6=>
 bO (Aj v4 1) λv7=>
 bO (E4 .not v7) λv8=>
 bG v8 false λw9=>
 gO w9 (Ac 1 v0) λv10=>
 bG v8 false λw11=>
 gO w11 (Ar false 1 H5 v10) λv12=>
 bG v8 false λw13=>
 gO w13 (Be v12) λv14=>
 bG v8 false λw15=>
 gO w15 (some v6) λv16=>
 bG v8 false λw17=>
 gO w17 (Wq H5 v16) λv18=>
 bG v8 false λw19=>
 gO w19 (Ax .neq v14 v18) λv20=>
 bO (AG v8 (B true) v20) λv21=>
 bB v21 λt22=>bI t22 (
 K (B false) H5)
 (bO (Ac 1 v0) λv23=>
 bO (Ar false 1 H5 v23) λv24=>
 bO (Be v24) λv25=>
 N7 v6 (I 0) v24 v25 (I 0) H5 K)
theorem Uj {a0:AV}{H:AH}{K:KT}(h:SX a0 H K):Cv 40 [a0] H K:=
 fok A7 CQ N9 func40 h
def Md:Cm:=Jp [(1,[(4,none)])]
def Me:Nat→Option (List Bool):=Cu [(4,mk 31 0 [1,2,13,14])]
def N5 (p:List Bool)(n:Nat):List AV→AH→Kf→Prop:=AC prog Md CQ Ak Ak Me (sub p (AI f43)) n
def Mc (x1 x2 x13 x14:AV)(H:AH)(K:KT):Prop:=lp (mk 31 0 [1,2,13,14]) (N5 [tT,tT,fF,tT,fF,fF] 5) [x1,x2,x13,x14] H (BD 0 (BK (N5 [tT,tT,tT] 9) (Bw prog f43.results.toList K)))
def JI (R4:RT)(x1 x2 x13 x14:AV)(H:AH)(K:KT):Prop:=
 bO (Ax .lss x14 x13) λv0=>
 bB v0 λt1=>bI t1 (
 bO (Ac 1 x1) λv2=>
 bO (Ar false 1 H v2) λv3=>
 bO (Ac 1 x1) λv4=>
 bO (Ar false 1 H v4) λv5=>
 bO (Bv 3 v5 x14) λv6=>
 bO (Ac 1 v6) λv7=>
 bO (Ar true 2 H v7) λv8=>
 bP (BPure prog 42 [v8]) λv9=>
 bO (Bv 3 v3 x14) λv10=>
 bO (Ac 1 v10) λv11=>
 bS (AU 2 H v11 v9) λH12=>
 bO (Ax .add x14 (I 1)) λv13=>
 R4 [x1,x2,x13,v13] H12)
 (bO (Ar true 2 H x1) λv14=>
 bS (AU 2 H x2 v14) λH15=>
 bO (Ar true 2 H15 x2) λv16=>
 K v16 H15)
theorem M7 {K:KT}:Wg (λR x1 x2 x13 x14 H=>JI R x1 x2 x13 x14 H K) (λx1 x2 x13 x14 H=>Mc x1 x2 x13 x14 H K):=MB (A5 _ _) (λ_ _ _ _ _ _=>by kernel_rfl)
def Ro (a0:AV)(H:AH)(K:KT):Prop:=
 bH (A8 H a0) λv0 H1=>
 bH (A8 H1 (.agg [Ad,Ad])) λv2 H3=>
 bO (Ac 0 v0) λv4=>
 bO (Ar false 1 H3 v4) λv5=>
 bC (BCall prog 96 [v5] H3) λv6 H7=>
 bO (Ac 1 v0) λv8=>
 bO (Ar false 1 H7 v8) λv9=>
 bC (BCall prog 97 [v9] H7) λv10 H11=>
 bO (EW [Ad,Ad] [(0,1,v6),(1,1,v10)]) λv12=>
 bS (AU 2 H11 v0 v12) λH13=>
(Ar false 1 H3 v8=some v9)∧
 bO (Ac 1 v0) λv14=>
 bO (Ar false 1 H13 v14) λv15=>
 bO (Be v15) λv16=>
 Mc v0 v2 v16 (I 0) H13 K
theorem Sy {a0:AV}{H:AH}{K:KT}(h:Ro a0 H K):Cv 43 [a0] H K:=
 fok Md CQ Me func43 h
def P1 (a0 a1:AV)(H:AH)(K:KT):Prop:=
 bH (A8 H a0) λv0 H1=>
 bO (Ac 0 v0) λv2=>
 bO (Ar false 1 H1 v2) λv3=>
 bP (PCall prog 107 [v3,a1,(.fn (.func 108) [] [])] H1) λv4=>
 bO (Aj v4 0) λv5=>
 bO (Aj v4 1) λv6=>
 K (.tup [v5,v6]) H1
theorem Rr {a0 a1:AV}{H:AH}{K:KT}(h:P1 a0 a1 H K):Cv 51 [a0,a1] H K:=
 fok A7 CQ BE func51 h
def Ru (a0 a1:AV)(H:AH)(K:KT):Prop:=
 bH (A8 H a0) λv0 H1=>
 bO (Ac 1 v0) λv2=>
 bO (Ar false 1 H1 v2) λv3=>
 bP (PCall prog 92 [v3,a1,(.fn (.func 93) [] [])] H1) λv4=>
 bO (Aj v4 0) λv5=>
 bO (Aj v4 1) λv6=>
 K (.tup [v5,v6]) H1
theorem S4 {a0 a1:AV}{H:AH}{K:KT}(h:Ru a0 a1 H K):Cv 41 [a0,a1] H K:=
 fok A7 CQ BE func41 h
def SY (a0:AV)(H:AH)(K:KT):Prop:=
 bO (Ax .geq a0 (.lit (.int .u8 97))) λv0=>
 bG v0 true λw1=>
 gO w1 (some a0) λv2=>
 bG v0 true λw3=>
 gO w3 (Ax .leq v2 (.lit (.int .u8 122))) λv4=>
 bO (AG v0 v4 (B false)) λv5=>
 bG v5 false λw6=>
 gO w6 (some a0) λv7=>
 bG v5 false λw8=>
 gO w8 (Ax .geq v7 (.lit (.int .u8 48))) λv9=>
 bG v5 false λw10=>
 gO w10 (some v9) λv11=>
 bG v11 true λw12=>
 gO w12 (some a0) λv13=>
 bG v11 true λw14=>
 gO w14 (Ax .leq v13 (.lit (.int .u8 57))) λv15=>
 bG v5 false λw16=>
 gO w16 (AG v11 v15 (B false)) λv17=>
 bO (AG v5 (B true) v17) λv18=>
 bG v18 false λw19=>
 gO w19 (some a0) λv20=>
 bG v18 false λw21=>
 gO w21 (Ax .eql v20 (.lit (.int .u8 46))) λv22=>
 bO (AG v18 (B true) v22) λv23=>
 bG v23 false λw24=>
 gO w24 (some a0) λv25=>
 bG v23 false λw26=>
 gO w26 (Ax .eql v25 (.lit (.int .u8 95))) λv27=>
 bO (AG v23 (B true) v27) λv28=>
 bG v28 false λw29=>
 gO w29 (some a0) λv30=>
 bG v28 false λw31=>
 gO w31 (Ax .eql v30 (.lit (.int .u8 45))) λv32=>
 bO (AG v28 (B true) v32) λv33=>
 K v33 H
theorem Uk {a0:AV}{H:AH}{K:KT}(h:SY a0 H K):Cv 166 [a0] H K:=
 fok A7 CQ BE func166 h
def JM:Nat→Option (List Bool):=Cu [(100004,mk 82 0 [0,3,4,6]),(100005,mk 82 0 [0,3,6]),(5,mk 82 0 [0,3,6])]
def JO:Nat→Bool:=S5 [4,5]
def Fw (p:List Bool)(n:Nat):List AV→AH→Kf→Prop:=AC prog A7 CQ fJ JO JM (sub p (AI f152)) n
def Gy (x0 x3 x6:AV)(H:AH)(K:KT):Prop:=unR prog 5 (VI (sub [tT,tT,tT,tT,tT] (AI f152))) (AR (mk 82 0 [0,3,6]) [x0,x3,x6]) H (Bw prog f152.results.toList K)
def Gx (x0 x3 x6:AV)(H:AH)(K:KT):Prop:=jn (mk 82 0 [0,3,6]) (Fw [tT,tT,tT,tT,tT] 6) [x0,x3,x6] H (Bw prog f152.results.toList K)
def EO (x0 x3 x4 x6:AV)(H:AH)(K:KT):Prop:=unR prog 4 (VI (sub [tT,tT,tT,tT,fF] (AI f152))) (AR (mk 82 0 [0,3,4,6]) [x0,x3,x4,x6]) H (BK (Kz (mk 82 0 [0,3,6]) (Fw [tT,tT,tT,tT,tT] 6)) (Bw prog f152.results.toList K))
def Ib (x0 x3 x6:AV)(H:AH)(K:KT):Prop:=
 Gy x0 x3 x6 H K
theorem M9 (x0 x3 x6:AV)(H:AH)(K:KT):Gx x0 x3 x6 H K=Ib x0 x3 x6 H K:=(Ea _ _ _ _ _).trans (by kernel_rfl)
def GK (a0 a1:AV)(H:AH)(K:KT):Prop:=
 bH (A8 H a1) λv0 H1=>
 bO (Af a0) λv2=>
 bO (Ar true 2 H1 v2) λv3=>
 bO (Ac 5 v0) λv4=>
 bO (Ar false 1 H1 v4) λv5=>
 bC (BCall prog 51 [v3,v5] H1) λv6 H7=>
 bO (Aj v6 0) λv8=>
 bO (Aj v6 1) λv9=>
 bO (Af a0) λv10=>
 bO (Ar true 2 H7 v10) λv11=>
 bO (Ac 1 v0) λv12=>
 bO (Ar false 1 H7 v12) λv13=>
 bC (BCall prog 41 [v11,v13] H7) λv14 H15=>
 bO (Aj v14 0) λv16=>
 bO (Aj v14 1) λv17=>
 bG v9 false λw18=>
 gO w18 (some v17) λv19=>
 bO (AG v9 (B true) v19) λv20=>
 bG v20 false λw21=>
 gO w21 (Ac 5 v0) λv22=>
 bG v20 false λw23=>
 gO w23 (Ar false 1 H15 v22) λv24=>
 bG v20 false λw25=>
 gP w25 (PCall prog 102 [v24] H15) λv26=>
 bG v20 false λw27=>
 gO w27 (E4 .not v26) λv28=>
 bO (AG v20 (B true) v28) λv29=>
 bG v29 false λw30=>
 gO w30 (Ac 1 v0) λv31=>
 bG v29 false λw32=>
 gO w32 (Ar false 1 H15 v31) λv33=>
 bG v29 false λw34=>
 gO w34 (Ax .lss v33 (I 1)) λv35=>
 bO (AG v29 (B true) v35) λv36=>
 bG v36 false λw37=>
 gO w37 (Ac 1 v0) λv38=>
 bG v36 false λw39=>
 gO w39 (Ar false 1 H15 v38) λv40=>
 bG v36 false λw41=>
 gO w41 (Ax .gtr v40 (I 4611686018427387904)) λv42=>
 bO (AG v36 (B true) v42) λv43=>
 bG v43 false λw44=>
 gO w44 (some a0) λv45=>
 bG v43 false λw46=>
 gO w46 (Af v45) λv47=>
 bG v43 false λw48=>
 gO w48 (Ac 0 v47) λv49=>
 bG v43 false λw50=>
 gO w50 (Ar false 1 H15 v49) λv51=>
 bG v43 false λw52=>
 gO w52 (Be v51) λv53=>
 bG v43 false λw54=>
 gO w54 (Ax .geq v53 (I 16)) λv55=>
 bO (AG v43 (B true) v55) λv56=>
 bB v56 λt57=>bI t57 (
 K (.tup []) H15)
 (EO a0 v0 v8 v16 H15 K)
theorem PW (a0 a1:AV)(H:AH)(K:KT):Of prog A7 CQ fJ JO JM f152 [a0,a1] H K=GK a0 a1 H K:=by kernel_rfl
theorem JN {a0 a1:AV}{H:AH}{K:KT}(h:GK a0 a1 H K):ACalls prog 152 [a0,a1] H K:=
 GO JZ func152 (by kernel_rfl) (Eq.mpr (PW a0 a1 H K) h)
def JL:Nat→Option (List Bool):=Cu [(11,mk 81 0 [0,4,6,72]),(5,mk 81 0 [0,4,5,6])]
def KQ (p:List Bool)(n:Nat):List AV→AH→Kf→Prop:=AC prog A7 CQ Ak Ak JL (sub p (AI f153)) n
def IN (x0 x4 x6 x72:AV)(H:AH)(K:KT):Prop:=jn (mk 81 0 [0,4,6,72]) (KQ [tT,tT,tT,tT,tT,tT] 12) [x0,x4,x6,x72] H (Bw prog f153.results.toList K)
def BX (x0 x4 x5 x6:AV)(H:AH)(K:KT):Prop:=jn (mk 81 0 [0,4,5,6]) (KQ [tT,tT,tT,tT,tT] 11) [x0,x4,x5,x6] H (Bw prog f153.results.toList K)
def ES (x0 x4 x6 x72:AV)(H:AH)(K:KT):Prop:=
 bB x72 λt0=>bI t0 (
 bO (Af x0) λv1=>
 bO (Ac 1 v1) λv2=>
 bO (Ar false 1 H v2) λv3=>
 bO (Ar true 2 H x6) λv4=>
 bO (Bv 3 v3 x4) λv5=>
 bO (Ac 1 v5) λv6=>
 bS (AU 2 H v6 v4) λH7=>
 K (.tup []) H7)
 (K (.tup []) H)
theorem GB (x0 x4 x6 x72:AV)(H:AH)(K:KT):IN x0 x4 x6 x72 H K=ES x0 x4 x6 x72 H K:=(Ea _ _ _ _ _).trans (by kernel_rfl)
def Fv (x0 x4 x5 x6:AV)(H:AH)(K:KT):Prop:=
 IN x0 x4 x6 x5 H K
theorem Hs (x0 x4 x5 x6:AV)(H:AH)(K:KT):BX x0 x4 x5 x6 H K=Fv x0 x4 x5 x6 H K:=(Ea _ _ _ _ _).trans (by kernel_rfl)
def NB (a0 a1:AV)(H:AH)(K:KT):Prop:=
 bH (A8 H a1) λv0 H1=>
 bO (Af a0) λv2=>
 bO (Ar true 2 H1 v2) λv3=>
 bO (Ac 1 v0) λv4=>
 bO (Ar false 1 H1 v4) λv5=>
 bC (BCall prog 41 [v3,v5] H1) λv6 H7=>
 bO (Aj v6 0) λv8=>
 bO (Aj v6 1) λv9=>
 bO (E4 .not v9) λv10=>
 bB v10 λt11=>bI t11 (
 K (.tup []) H7)
 (bO (Af a0) λv12=>
 bO (Ac 1 v12) λv13=>
 bO (Ar false 1 H7 v13) λv14=>
 bO (Bv 3 v14 v8) λv15=>
 bO (Ac 1 v15) λv16=>
 bO (Ar true 2 H7 v16) λv17=>
 bH (A8 H7 (.agg [(I 0),Ad])) λv18 H19=>
 bS (AU 2 H19 v18 v17) λH20=>
 bO (Ac 0 v0) λv21=>
 bO (Ar false 1 H20 v21) λv22=>
 bO (Ax .eql v22 (I 2)) λv23=>
 bB v23 λt24=>bI t24 (
 bO (Ar true 2 H20 v18) λv25=>
 bO (Ac 2 v0) λv26=>
 bO (Ar false 1 H20 v26) λv27=>
 bO (Ac 7 v0) λv28=>
 bO (Ar false 1 H20 v28) λv29=>
 bP (PCall prog 188 [v25,v27,v29] H20) λv30=>
 bO (Aj v30 0) λv31=>
 bO (Aj v30 1) λv32=>
 bS (AU 2 H20 v18 v31) λH33=>
 BX a0 v8 v32 v18 H33 K)
 (bO (Ax .eql v22 (I 3)) λv34=>
 bB v34 λt35=>bI t35 (
 bO (Ar true 2 H20 v18) λv36=>
 bO (Ac 3 v0) λv37=>
 bO (Ar false 1 H20 v37) λv38=>
 bP (PCall prog 50 [v36,v38] H20) λv39=>
 bO (Aj v39 0) λv40=>
 bO (Aj v39 1) λv41=>
 bS (AU 2 H20 v18 v40) λH42=>
 BX a0 v8 v41 v18 H42 K)
 (bO (Ax .eql v22 (I 4)) λv43=>
 bB v43 λt44=>bI t44 (
 bO (Ar true 2 H20 v18) λv45=>
 bO (Ac 2 v0) λv46=>
 bO (Ar false 1 H20 v46) λv47=>
 bO (Ac 3 v0) λv48=>
 bO (Ar false 1 H20 v48) λv49=>
 bO (Ac 4 v0) λv50=>
 bO (Ar false 1 H20 v50) λv51=>
 bP (PCall prog 170 [v45,v47,v49,v51] H20) λv52=>
 bO (Aj v52 0) λv53=>
 bO (Aj v52 1) λv54=>
 bS (AU 2 H20 v18 v53) λH55=>
 BX a0 v8 v54 v18 H55 K)
 (bO (Ax .eql v22 (I 5)) λv56=>
 bB v56 λt57=>bI t57 (
 bO (Ar true 2 H20 v18) λv58=>
 bO (Ac 2 v0) λv59=>
 bO (Ar false 1 H20 v59) λv60=>
 bO (Ac 3 v0) λv61=>
 bO (Ar false 1 H20 v61) λv62=>
 bP (PCall prog 172 [v58,v60,v62] H20) λv63=>
 bO (Aj v63 0) λv64=>
 bO (Aj v63 1) λv65=>
 bS (AU 2 H20 v18 v64) λH66=>
 BX a0 v8 v65 v18 H66 K)
 (BX a0 v8 v9 v18 H20 K)))))
theorem PU {a0 a1:AV}{H:AH}{K:KT}(h:NB a0 a1 H K):Cv 153 [a0,a1] H K:=
 fok A7 CQ JL func153 h
def NF (a0 a1 a2:AV)(H:AH)(K:KT):Prop:=
 bO (Af a0) λv0=>
 bO (Ar true 2 H v0) λv1=>
 bC (BCall prog 51 [v1,a1] H) λv2 H3=>
 bO (Aj v2 0) λv4=>
 bO (Aj v2 1) λv5=>
 bO (E4 .not v5) λv6=>
 bG v6 false λw7=>
 gO w7 (some a2) λv8=>
 bG v6 false λw9=>
 gP w9 (PCall prog 102 [v8] H3) λv10=>
 bG v6 false λw11=>
 gO w11 (E4 .not v10) λv12=>
 bO (AG v6 (B true) v12) λv13=>
 bG v13 false λw14=>
 gO w14 (some a1) λv15=>
 bG v13 false λw16=>
 gO w16 (some a2) λv17=>
 bG v13 false λw18=>
 gO w18 (PI .eql v15 v17) λv19=>
 bO (AG v13 (B true) v19) λv20=>
 bB v20 λt21=>bI t21 (
 K (.tup []) H3)
 (bO (Af a0) λv22=>
 bO (Ac 0 v22) λv23=>
 bO (Ar false 1 H3 v23) λv24=>
 bO (Bv 2 v24 v4) λv25=>
 bO (Ac 1 v25) λv26=>
 bO (Ar false 1 H3 v26) λv27=>
 bO (Af a0) λv28=>
 bO (Ac 0 v28) λv29=>
 bO (Ar false 1 H3 v29) λv30=>
 bO (Ax .add v4 (I 1)) λv31=>
 bC (BCall prog 189 [v30,v4,v31] H3) λv32 H33=>
 bO (Af a0) λv34=>
 bO (Ac 0 v34) λv35=>
 bS (AU 1 H33 v35 v32) λH36=>
 bC (BCall prog 155 [a0,a2] H36) λv37 H38=>
 bO (Af a0) λv39=>
 bO (Ar true 2 H38 v39) λv40=>
 bC (BCall prog 51 [v40,a2] H38) λv41 H42=>
 bO (Aj v41 0) λv43=>
 bO (Aj v41 1) λv44=>
 bO (Af a0) λv45=>
 bO (Ac 0 v45) λv46=>
 bO (Ar false 1 H42 v46) λv47=>
 bO (EW [(.lit (.string ⟨#[]⟩)),(I 0)] [(0,1,a2),(1,1,v27)]) λv48=>
 bH (Dh H42 2 1 (Bo [(.lit (.string ⟨#[]⟩)),(I 0)] 1) [(0,2,v48)]) λv49 H50=>
 bC (BCall prog 186 [v47,v43,v49] H50) λv51 H52=>
 bO (Af a0) λv53=>
 bO (Ac 0 v53) λv54=>
 bS (AU 1 H52 v54 v51) λH55=>
 K (.tup []) H55)
theorem PZ {a0 a1 a2:AV}{H:AH}{K:KT}(h:NF a0 a1 a2 H K):Cv 154 [a0,a1,a2] H K:=
 fok A7 CQ BE func154 h
def NE (a0 a1:AV)(H:AH)(K:KT):Prop:=
 bO (Af a0) λv0=>
 bO (Ar true 2 H v0) λv1=>
 bC (BCall prog 51 [v1,a1] H) λv2 H3=>
 bO (Aj v2 0) λv4=>
 bO (Aj v2 1) λv5=>
 bO (E4 .not v5) λv6=>
 bB v6 λt7=>bI t7 (
 K (.tup []) H3)
 (bO (Af a0) λv8=>
 bO (Ar true 2 H3 v8) λv9=>
 bO (Af a0) λv10=>
 bO (Ac 0 v10) λv11=>
 bO (Ar false 1 H3 v11) λv12=>
 bO (Bv 2 v12 v4) λv13=>
 bO (Ac 1 v13) λv14=>
 bO (Ar false 1 H3 v14) λv15=>
 bC (BCall prog 41 [v9,v15] H3) λv16 H17=>
 bO (Aj v16 0) λv18=>
 bO (Aj v16 1) λv19=>
 bO (Af a0) λv20=>
 bO (Ac 0 v20) λv21=>
 bO (Ar false 1 H17 v21) λv22=>
 bO (Ax .add v4 (I 1)) λv23=>
 bC (BCall prog 189 [v22,v4,v23] H17) λv24 H25=>
 bO (Af a0) λv26=>
 bO (Ac 0 v26) λv27=>
 bS (AU 1 H25 v27 v24) λH28=>
 bO (Af a0) λv29=>
 bO (Ac 1 v29) λv30=>
 bO (Ar false 1 H28 v30) λv31=>
 bO (Ax .add v18 (I 1)) λv32=>
 bC (BCall prog 190 [v31,v18,v32] H28) λv33 H34=>
 bO (Af a0) λv35=>
 bO (Ac 1 v35) λv36=>
 bS (AU 1 H34 v36 v33) λH37=>
 K (.tup []) H37)
theorem PY {a0 a1:AV}{H:AH}{K:KT}(h:NE a0 a1 H K):Cv 155 [a0,a1] H K:=
 fok A7 CQ BE func155 h
def KS:Nat→Option (List Bool):=Cu [(7,mk 58 0 [0,4,11,12,13])]
def Mj (p:List Bool)(n:Nat):List AV→AH→Kf→Prop:=AC prog A7 CQ Ak Ak KS (sub p (AI f91)) n
def KR (x0 x4 x11 x12 x13:AV)(H:AH)(K:KT):Prop:=lp (mk 58 0 [0,4,11,12,13]) (Mj [tT,tT,tT,fF,tT,fF,fF] 8) [x0,x4,x11,x12,x13] H (BD 0 (BK (Mj [tT,tT,tT,tT] 15) (Bw prog f91.results.toList K)))
def IP (R7:RT)(x0 x4 x11 x12 x13:AV)(H:AH)(K:KT):Prop:=
 bO (Ax .lss x13 x12) λv0=>
 bB v0 λt1=>bI t1 (
 bO (Bv 2 x11 x13) λv2=>
 bO (Ar true 2 H v2) λv3=>
 bH (A8 H (.agg [(.lit (.string ⟨#[]⟩)),(I 0)])) λv4 H5=>
 bS (AU 2 H5 v4 v3) λH6=>
 bO (Ac 0 v4) λv7=>
 bO (Ar false 1 H6 v7) λv8=>
 bP (BPure prog 102 [v8]) λv9=>
 bO (E4 .not v9) λv10=>
 bG v10 false λw11=>
 gO w11 (some x13) λv12=>
 bG v10 false λw13=>
 gO w13 (Ax .gtr v12 (I 0)) λv14=>
 bG v10 false λw15=>
 gO w15 (some v14) λv16=>
 bG v16 true λw17=>
 gO w17 (some x0) λv18=>
 bG v16 true λw19=>
 gO w19 (some x13) λv20=>
 bG v16 true λw21=>
 gO w21 (Ax .sub v20 (I 1)) λv22=>
 bG v16 true λw23=>
 gO w23 (Bv 2 v18 v22) λv24=>
 bG v16 true λw25=>
 gO w25 (Ac 0 v24) λv26=>
 bG v16 true λw27=>
 gO w27 (Ar false 1 H6 v26) λv28=>
 bG v16 true λw29=>
 gO w29 (Ac 0 v4) λv30=>
 bG v16 true λw31=>
 gO w31 (Ar false 1 H6 v30) λv32=>
 bG v16 true λw33=>
 gO w33 (PI .geq v28 v32) λv34=>
 bG v10 false λw35=>
 gO w35 (AG v16 v34 (B false)) λv36=>
 bO (AG v10 (B true) v36) λv37=>
 bG v37 false λw38=>
 gO w38 (Ac 1 v4) λv39=>
 bG v37 false λw40=>
 gO w40 (Ar false 1 H6 v39) λv41=>
 bG v37 false λw42=>
 gO w42 (Ax .lss v41 (I 1)) λv43=>
 bO (AG v37 (B true) v43) λv44=>
 bG v44 false λw45=>
 gO w45 (Ac 1 v4) λv46=>
 bG v44 false λw47=>
 gO w47 (Ar false 1 H6 v46) λv48=>
 bG v44 false λw49=>
 gO w49 (Ax .gtr v48 (I 4611686018427387904)) λv50=>
 bO (AG v44 (B true) v50) λv51=>
 bG v51 false λw52=>
 gO w52 (some x4) λv53=>
 bG v51 false λw54=>
 gO w54 (Ac 1 v4) λv55=>
 bG v51 false λw56=>
 gO w56 (Ar false 1 H6 v55) λv57=>
 bG v51 false λw58=>
 gO w58 (cH (.int .i64) (.bool false) H6 v53 v57 false) λv59=>
 bO (AG v51 (B true) v59) λv60=>
 bB v60 λt61=>bI t61 (
 K (.tup [(.lit (.map none)),(B false)]) H6)
 (bO (Ac 1 v4) λv62=>
 bO (Ar false 1 H6 v62) λv63=>
 bS (mG (.int .i64) H6 x4 v63 (B true)) λH64=>
 bO (Ax .add x13 (I 1)) λv65=>
 R7 [x0,x4,x11,x12,v65] H64))
 (K (.tup [x4,(B true)]) H)
theorem LB {K:KT}:gL (λR x0 x4 x11 x12 x13 H=>IP R x0 x4 x11 x12 x13 H K) (λx0 x4 x11 x12 x13 H=>KR x0 x4 x11 x12 x13 H K):=W8 (A5 _ _) (λ_ _ _ _ _ _ _=>by kernel_rfl)
def P2 (a0:AV)(H:AH)(K:KT):Prop:=
 bO (Be a0) λv0=>
 bO (Ax .gtr v0 (I 16)) λv1=>
 bB v1 λt2=>bI t2 (
 K (.tup [(.lit (.map none)),(B false)]) H)
 (bH (iZ H none) λv3 H4=>
 bO (Be a0) λv5=>
 KR a0 v3 a0 v5 (I 0) H4 K)
theorem Rt {a0:AV}{H:AH}{K:KT}(h:P2 a0 H K):Cv 91 [a0] H K:=
 fok A7 CQ KS func91 h
def Dk (a0:AV)(H:AH)(K:KT):Prop:=
 bO (UH .eql LC a0 Ad) λv0=>
 bB v0 λt1=>bI t1 (
 K Ad H)
 (bH (Dh H 2 0 (Bo [(.lit (.string ⟨#[]⟩)),(I 0)] 0) []) λv2 H3=>
 bH (Oo 2 24 H3 v2 a0) λv4 H5=>
 K v4 H5)
theorem EU {a0:AV}{H:AH}{K:KT}(h:Dk a0 H K):Cv 96 [a0] H K:=
 fok A7 CQ BE func96 h
def Dl (a0:AV)(H:AH)(K:KT):Prop:=
 bO (UH .eql LC a0 Ad) λv0=>
 bB v0 λt1=>bI t1 (
 K Ad H)
 (bH (Dh H 3 0 (Bo [(I 0),(I 0),Ad] 0) []) λv2 H3=>
 bH (Oo 3 40 H3 v2 a0) λv4 H5=>
 K v4 H5)
theorem EV {a0:AV}{H:AH}{K:KT}(h:Dl a0 H K):Cv 97 [a0] H K:=
 fok A7 CQ BE func97 h
def By:Nat→Option (List Bool):=Cu [(4,mk 49 0 [0,1,2,8,9,10])]
def B1 (p:List Bool)(n:Nat):List AV→AH→Kf→Prop:=AC prog A7 CQ Ak Ak By (sub p (AI f107)) n
def Bx (x0 x1 x2 x8 x9 x10:AV)(H:AH)(K:KT):Prop:=lp (mk 49 0 [0,1,2,8,9,10]) (B1 [tT,tT,tT,fF,fF,fF] 5) [x0,x1,x2,x8,x9,x10] H (BD 0 (BK (B1 [tT,tT,tT,tT] 9) (Bw prog f107.results.toList K)))
def Bp (R4:RT)(x0 x1 x2 x8 x9 x10:AV)(H:AH)(K:KT):Prop:=
 bO (Ax .lss x9 x10) λv0=>
 bB v0 λt1=>bI t1 (
 bO (Ax .add x9 x10) λv2=>
 bO (YQ .u64 v2) λv3=>
 bO (Ax .shr v3 (.lit (.int .u64 1))) λv4=>
 bO (YQ .i64 v4) λv5=>
 bO (Bv 2 x0 v5) λv6=>
 bO (Ar true 2 H v6) λv7=>
 bF true x2 λk10 f10 c10=>
 bT (Bs prog k10||!true)<|
 bC (BCall prog k10 (f10++[v7,x1]++c10) H) λv8 H9=>
 bO (Ax .lss v8 (I 0)) λv11=>
 bB v11 λt12=>bI t12 (
 bO (Ax .add v5 (I 1)) λv13=>
 R4 [x0,x1,x2,x8,v13,x10] H9)
 (R4 [x0,x1,x2,x8,x9,v5] H9))
 (bO (Ax .lss x9 x8) λv14=>
 bG v14 true λw15=>
 gO w15 (some x2) λv16=>
 bG v14 true λw17=>
 gO w17 (some x0) λv18=>
 bG v14 true λw19=>
 gO w19 (some x9) λv20=>
 bG v14 true λw21=>
 gO w21 (Bv 2 v18 v20) λv22=>
 bG v14 true λw23=>
 gO w23 (Ar true 2 H v22) λv24=>
 bG v14 true λw25=>
 gO w25 (some x1) λv26=>
 bG v14 true λw27=>
 bF w27 v16 λk30 f30 c30=>
 bT (Bs prog k30||!w27)<|
 gC w27 (BCall prog k30 (f30++[v24,v26]++c30) H) H λv28 H29=>
 bG v14 true λw31=>
 gO w31 (Ax .eql v28 (I 0)) λv32=>
 bO (AG v14 v32 (B false)) λv33=>
 K (.tup [x9,v33]) H29)
theorem Ck {K:KT}:mF (λR x0 x1 x2 x8 x9 x10 H=>Bp R x0 x1 x2 x8 x9 x10 H K) (λx0 x1 x2 x8 x9 x10 H=>Bx x0 x1 x2 x8 x9 x10 H K):=aD (A5 _ _) (λ_ _ _ _ _ _ _ _=>by kernel_rfl)
def B9 (a0 a1 a2:AV)(H:AH)(K:KT):Prop:=
 bO (Be a0) λv0=>
 Bx a0 a1 a2 v0 (I 0) v0 H K
theorem CD {a0 a1 a2:AV}{H:AH}{K:KT}(h:B9 a0 a1 a2 H K):Cv 107 [a0,a1,a2] H K:=
 fok A7 CQ By func107 h
def Mi (a0 a1:AV)(H:AH)(K:KT):Prop:=
 bH (A8 H a0) λv0 H1=>
 bO (Ac 0 v0) λv2=>
 bO (Ar false 1 H1 v2) λv3=>
 bP (PCall prog 109 [v3,a1] H1) λv4=>
 K v4 H1
theorem OO {a0 a1:AV}{H:AH}{K:KT}(h:Mi a0 a1 H K):Cv 108 [a0,a1] H K:=
 fok A7 CQ BE func108 h
def JS (a0 a1:AV)(H:AH)(K:KT):Prop:=
 bP (PCall prog 168 [a0,a1] H) λv0=>
 K v0 H
theorem MI {a0 a1:AV}{H:AH}{K:KT}(h:JS a0 a1 H K):Cv 109 [a0,a1] H K:=
 fok A7 CQ BE func109 h
def BB:Nat→Option (List Bool):=Cu [(4,mk 49 0 [0,1,2,8,9,10])]
def BF (p:List Bool)(n:Nat):List AV→AH→Kf→Prop:=AC prog A7 CQ Ak Ak BB (sub p (AI f92)) n
def BA (x0 x1 x2 x8 x9 x10:AV)(H:AH)(K:KT):Prop:=lp (mk 49 0 [0,1,2,8,9,10]) (BF [tT,tT,tT,fF,fF,fF] 5) [x0,x1,x2,x8,x9,x10] H (BD 0 (BK (BF [tT,tT,tT,tT] 9) (Bw prog f92.results.toList K)))
def B2 (R4:RT)(x0 x1 x2 x8 x9 x10:AV)(H:AH)(K:KT):Prop:=
 bO (Ax .lss x9 x10) λv0=>
 bB v0 λt1=>bI t1 (
 bO (Ax .add x9 x10) λv2=>
 bO (YQ .u64 v2) λv3=>
 bO (Ax .shr v3 (.lit (.int .u64 1))) λv4=>
 bO (YQ .i64 v4) λv5=>
 bO (Bv 3 x0 v5) λv6=>
 bO (Ar true 3 H v6) λv7=>
 bF true x2 λk10 f10 c10=>
 bT (Bs prog k10||!true)<|
 bC (BCall prog k10 (f10++[v7,x1]++c10) H) λv8 H9=>
 bO (Ax .lss v8 (I 0)) λv11=>
 bB v11 λt12=>bI t12 (
 bO (Ax .add v5 (I 1)) λv13=>
 R4 [x0,x1,x2,x8,v13,x10] H9)
 (R4 [x0,x1,x2,x8,x9,v5] H9))
 (bO (Ax .lss x9 x8) λv14=>
 bG v14 true λw15=>
 gO w15 (some x2) λv16=>
 bG v14 true λw17=>
 gO w17 (some x0) λv18=>
 bG v14 true λw19=>
 gO w19 (some x9) λv20=>
 bG v14 true λw21=>
 gO w21 (Bv 3 v18 v20) λv22=>
 bG v14 true λw23=>
 gO w23 (Ar true 3 H v22) λv24=>
 bG v14 true λw25=>
 gO w25 (some x1) λv26=>
 bG v14 true λw27=>
 bF w27 v16 λk30 f30 c30=>
 bT (Bs prog k30||!w27)<|
 gC w27 (BCall prog k30 (f30++[v24,v26]++c30) H) H λv28 H29=>
 bG v14 true λw31=>
 gO w31 (Ax .eql v28 (I 0)) λv32=>
 bO (AG v14 v32 (B false)) λv33=>
 K (.tup [x9,v33]) H29)
theorem C1 {K:KT}:mF (λR x0 x1 x2 x8 x9 x10 H=>B2 R x0 x1 x2 x8 x9 x10 H K) (λx0 x1 x2 x8 x9 x10 H=>BA x0 x1 x2 x8 x9 x10 H K):=aD (A5 _ _) (λ_ _ _ _ _ _ _ _=>by kernel_rfl)
def BN (a0 a1 a2:AV)(H:AH)(K:KT):Prop:=
 bO (Be a0) λv0=>
 BA a0 a1 a2 v0 (I 0) v0 H K
theorem CR {a0 a1 a2:AV}{H:AH}{K:KT}(h:BN a0 a1 a2 H K):Cv 92 [a0,a1,a2] H K:=
 fok A7 CQ BB func92 h
def ND (a0 a1:AV)(H:AH)(K:KT):Prop:=
 bH (A8 H a0) λv0 H1=>
 bO (Ac 0 v0) λv2=>
 bO (Ar false 1 H1 v2) λv3=>
 bP (PCall prog 94 [v3,a1] H1) λv4=>
 K v4 H1
theorem PX {a0 a1:AV}{H:AH}{K:KT}(h:ND a0 a1 H K):Cv 93 [a0,a1] H K:=
 fok A7 CQ BE func93 h
def EJ:Nat→Bool:=S5 []
def Df (a0 a1 a2:AV)(H:AH)(K:KT):Prop:=
 bO (AT 2 a0 (some a1) none none) λv0=>
 bO (Be a2) λv1=>
 bO (Ax .eql v1 (I 0)) λv2=>
 bB v2 λt3=>bI t3 (
 K a0 H)
 (bO (Be a0) λv4=>
 bO (Ax .eql a1 v4) λv5=>
 bB v5 λt6=>bI t6 (
 bH (Oo 2 24 H a0 a2) λv7 H8=>
 K v7 H8)
 (bO (Ax .add v4 v1) λv9=>
 bO (Sg a0) λv10=>
 bO (Ax .gtr v9 v10) λv11=>
 bB v11 λt12=>bI t12 (
 bO (AT 2 a0 none (some a1) none) λv13=>
 bO (Ax .add v4 v1) λv14=>
 bO (Ax .sub v14 a1) λv15=>
 bH (Ii H 2 24 [(.lit (.string ⟨#[]⟩)),(I 0)] v13 v15) λv16 H17=>
 bO (AT 2 v16 (some a1) none none) λv18=>
 bH (MK 2 H17 v18 a2) λv19 H20=>
 bO (Ax .add a1 v1) λv21=>
 bO (AT 2 v16 (some v21) none none) λv22=>
 bO (AT 2 a0 (some a1) none none) λv23=>
 bH (MK 2 H20 v22 v23) λv24 H25=>
 K v16 H25)
 (bO (Ax .add v4 v1) λv26=>
 bO (AT 2 a0 none (some v26) none) λv27=>
 bO (Ax .add a1 v1) λv28=>
 bO (AT 2 v27 (some v28) none none) λv29=>
 bP (ExtR prog 210 [a2,v29] H) λv30=>
 bO (E4 .not v30) λv31=>
 bB v31 λt32=>bI t32 (
 bO (Ax .add a1 v1) λv33=>
 bO (AT 2 v27 (some v33) none none) λv34=>
 bO (AT 2 v27 (some a1) none none) λv35=>
 bH (MK 2 H v34 v35) λv36 H37=>
 bO (AT 2 v27 (some a1) none none) λv38=>
 bH (MK 2 H37 v38 a2) λv39 H40=>
 K v27 H40)
 (bO (AT 2 v27 (some v4) none none) λv41=>
 bH (MK 2 H v41 a2) λv42 H43=>
 bO (AT 2 v27 (some a1) none none) λv44=>
 bC (BCall prog 211 [v44,v1] H43) λv45 H46=>
 K v27 H46))))
theorem EH (a0 a1 a2:AV)(H:AH)(K:KT):Of prog A7 CQ fJ EJ BE f186 [a0,a1,a2] H K=Df a0 a1 a2 H K:=by kernel_rfl
theorem EI {a0 a1 a2:AV}{H:AH}{K:KT}(h:Df a0 a1 a2 H K):ACalls prog 186 [a0,a1,a2] H K:=
 GO JZ func186 (by kernel_rfl) (Eq.mpr (EH a0 a1 a2 H K) h)
def EM:Nat→Bool:=S5 []
def Dg (a0 a1 a2:AV)(H:AH)(K:KT):Prop:=
 bO (AT 3 a0 (some a1) none none) λv0=>
 bO (Be a2) λv1=>
 bO (Ax .eql v1 (I 0)) λv2=>
 bB v2 λt3=>bI t3 (
 K a0 H)
 (bO (Be a0) λv4=>
 bO (Ax .eql a1 v4) λv5=>
 bB v5 λt6=>bI t6 (
 bH (Oo 3 40 H a0 a2) λv7 H8=>
 K v7 H8)
 (bO (Ax .add v4 v1) λv9=>
 bO (Sg a0) λv10=>
 bO (Ax .gtr v9 v10) λv11=>
 bB v11 λt12=>bI t12 (
 bO (AT 3 a0 none (some a1) none) λv13=>
 bO (Ax .add v4 v1) λv14=>
 bO (Ax .sub v14 a1) λv15=>
 bH (Ii H 3 40 [(I 0),(I 0),Ad] v13 v15) λv16 H17=>
 bO (AT 3 v16 (some a1) none none) λv18=>
 bH (MK 3 H17 v18 a2) λv19 H20=>
 bO (Ax .add a1 v1) λv21=>
 bO (AT 3 v16 (some v21) none none) λv22=>
 bO (AT 3 a0 (some a1) none none) λv23=>
 bH (MK 3 H20 v22 v23) λv24 H25=>
 K v16 H25)
 (bO (Ax .add v4 v1) λv26=>
 bO (AT 3 a0 none (some v26) none) λv27=>
 bO (Ax .add a1 v1) λv28=>
 bO (AT 3 v27 (some v28) none none) λv29=>
 bP (ExtR prog 212 [a2,v29] H) λv30=>
 bO (E4 .not v30) λv31=>
 bB v31 λt32=>bI t32 (
 bO (Ax .add a1 v1) λv33=>
 bO (AT 3 v27 (some v33) none none) λv34=>
 bO (AT 3 v27 (some a1) none none) λv35=>
 bH (MK 3 H v34 v35) λv36 H37=>
 bO (AT 3 v27 (some a1) none none) λv38=>
 bH (MK 3 H37 v38 a2) λv39 H40=>
 K v27 H40)
 (bO (AT 3 v27 (some v4) none none) λv41=>
 bH (MK 3 H v41 a2) λv42 H43=>
 bO (AT 3 v27 (some a1) none none) λv44=>
 bC (BCall prog 213 [v44,v1] H43) λv45 H46=>
 K v27 H46))))
theorem EK (a0 a1 a2:AV)(H:AH)(K:KT):Of prog A7 CQ fJ EM BE f187 [a0,a1,a2] H K=Dg a0 a1 a2 H K:=by kernel_rfl
theorem EL {a0 a1 a2:AV}{H:AH}{K:KT}(h:Dg a0 a1 a2 H K):ACalls prog 187 [a0,a1,a2] H K:=
 GO JZ func187 (by kernel_rfl) (Eq.mpr (EK a0 a1 a2 H K) h)
def Dc (a0 a1 a2:AV)(H:AH)(K:KT):Prop:=
 bO (Be a0) λv0=>
 bO (AT 2 a0 (some a1) (some a2) (some v0)) λv1=>
 bO (Ax .eql a1 a2) λv2=>
 bB v2 λt3=>bI t3 (
 K a0 H)
 (bO (Be a0) λv4=>
 bO (AT 2 a0 none (some a1) none) λv5=>
 bO (AT 2 a0 (some a2) none none) λv6=>
 bH (Oo 2 24 H v5 v6) λv7 H8=>
 bO (Be v7) λv9=>
 bO (AT 2 v7 (some v9) (some v4) none) λv10=>
 bS (cG [(.lit (.string ⟨#[]⟩)),(I 0)] H8 v10) λH11=>
 K v7 H11)
theorem EC {a0 a1 a2:AV}{H:AH}{K:KT}(h:Dc a0 a1 a2 H K):Cv 189 [a0,a1,a2] H K:=
 fok A7 CQ BE func189 h
def Dd (a0 a1 a2:AV)(H:AH)(K:KT):Prop:=
 bO (Be a0) λv0=>
 bO (AT 3 a0 (some a1) (some a2) (some v0)) λv1=>
 bO (Ax .eql a1 a2) λv2=>
 bB v2 λt3=>bI t3 (
 K a0 H)
 (bO (Be a0) λv4=>
 bO (AT 3 a0 none (some a1) none) λv5=>
 bO (AT 3 a0 (some a2) none none) λv6=>
 bH (Oo 3 40 H v5 v6) λv7 H8=>
 bO (Be v7) λv9=>
 bO (AT 3 v7 (some v9) (some v4) none) λv10=>
 bS (cG [(I 0),(I 0),Ad] H8 v10) λH11=>
 K v7 H11)
theorem ED {a0 a1 a2:AV}{H:AH}{K:KT}(h:Dd a0 a1 a2 H K):Cv 190 [a0,a1,a2] H K:=
 fok A7 CQ BE func190 h
def Qb:FuncId→Bool:=S5 [43,82,20,13,52,40,102,24,23,98,50,170,172,188,179,181,22,99,169,111,100,165,81,164,167,151,185,46,112,45]
def T7 (a0:AV)(H:AH)(K:KT):Prop:=
 bO (amm W3 [a0,(I 0)]) λv0=>
 bO (amm U9 [v0,(I 4096)]) λv1=>
 bO (EW [(I 0),Ad,Ad,Ad,Ad,Ad,(I 0),(I 0),(B false)] [(0,1,v1),(7,1,(I (-1)))]) λv2=>
 bH (A8 H v2) λv3 H4=>
 K v3 H4
theorem U2 {a0:AV}{H:AH}{K:KT}(h:T7 a0 H K):Cv 10 [a0] H K:=
 fok A7 Qb BE func10 h
def JR (a0:AV)(H:AH)(K:KT):Prop:=
 bH (A8 H (.agg [Ad,Ad])) λv0 H1=>
 bO (Af a0) λv2=>
 bO (Ac 1 v2) λv3=>
 bO (Ar true 2 H1 v3) λv4=>
 bP (PCall prog 43 [v4] H1) λv5=>
 bS (AU 2 H1 v0 v5) λH6=>
 bO (Ar true 2 H6 v0) λv7=>
 K v7 H6
theorem MG {a0:AV}{H:AH}{K:KT}(h:JR a0 H K):Cv 14 [a0] H K:=
 fok A7 Qb BE func14 h
def IY (a0:AV)(H:AH)(K:KT):Prop:=
 bO (Af a0) λv0=>
 bO (Ac 0 v0) λv1=>
 bO (Ar false 1 H v1) λv2=>
 bO (Af a0) λv3=>
 bO (Ac 1 v3) λv4=>
 bO (Ar true 2 H v4) λv5=>
 bP (BPure prog 52 [v5]) λv6=>
 bO (Ax .sub v2 v6) λv7=>
 bO (amm W3 [(I 0),v7]) λv8=>
 K v8 H
theorem LD {a0:AV}{H:AH}{K:KT}(h:IY a0 H K):Cv 21 [a0] H K:=
 fok A7 Qb BE func21 h
def GF:Nat→Option (List Bool):=Cu [(1,mk 31 0 [])]
def MH (p:List Bool)(n:Nat):List AV→AH→Kf→Prop:=AC prog A7 Qb Ak Ak GF (sub p (AI f80)) n
def E3 (H:AH)(K:KT):Prop:=jn (mk 31 0 []) (MH [tT,tT] 6) [] H (Bw prog f80.results.toList K)
def DW (H:AH)(K:KT):Prop:=
 K (B true) H
theorem F6 (H:AH)(K:KT):E3 H K=DW H K:=(Ea _ _ _ _ _).trans (by kernel_rfl)
def Jd (a0:AV)(H:AH)(K:KT):Prop:=
 bO (Af a0) λv0=>
 bO (Ac 8 v0) λv1=>
 bO (Ar false 1 H v1) λv2=>
 bG v2 false λw3=>
 gO w3 (some a0) λv4=>
 bG v2 false λw5=>
 gO w5 (Af v4) λv6=>
 bG v2 false λw7=>
 gO w7 (Ac 7 v6) λv8=>
 bG v2 false λw9=>
 gO w9 (Ar false 1 H v8) λv10=>
 bG v2 false λw11=>
 gO w11 (Ax .eql v10 (I 0)) λv12=>
 bO (AG v2 (B true) v12) λv13=>
 bB v13 λt14=>bI t14 (
 bO (Af a0) λv15=>
 bO (Ac 8 v15) λv16=>
 bS (AU 1 H v16 (B true)) λH17=>
 K (B false) H17)
 (bO (Af a0) λv18=>
 bO (Ac 7 v18) λv19=>
 bO (Ar false 1 H v19) λv20=>
 bO (Ax .gtr v20 (I 0)) λv21=>
 bB v21 λt22=>bI t22 (
 bO (Af a0) λv23=>
 bO (Ac 7 v23) λv24=>
 bO (Ar false 1 H v24) λv25=>
 bO (Ax .sub v25 (I 1)) λv26=>
 bO (Af a0) λv27=>
 bO (Ac 7 v27) λv28=>
 bS (AU 1 H v28 v26) λH29=>
 E3 H29 K)
 (E3 H K))
theorem LH {a0:AV}{H:AH}{K:KT}(h:Jd a0 H K):Cv 80 [a0] H K:=
 fok A7 Qb GF func80 h
def Lg (a0 a1:AV)(H:AH)(K:KT):Prop:=
 bH (A8 H a1) λv0 H1=>
 bC (BCall prog 80 [a0] H1) λv2 H3=>
 bO (E4 .not v2) λv4=>
 bB v4 λt5=>bI t5 (
 K (I 8) H3)
 (bO (Af a0) λv6=>
 bO (Ac 1 v6) λv7=>
 bO (Ar true 2 H3 v7) λv8=>
 bO (Ar true 8 H3 v0) λv9=>
 bP (BPure prog 82 [v8,v9]) λv10=>
 bO (Af a0) λv11=>
 bO (Ac 1 v11) λv12=>
 bS (AU 2 H3 v12 v10) λH13=>
 bO (Af a0) λv14=>
 bO (Ac 5 v14) λv15=>
 bO (Ar false 1 H13 v15) λv16=>
 bO (Ar true 8 H13 v0) λv17=>
 bO (PJ 8 1 (Bo [(I 0),(I 0),(I 0),(I 0),(B false),(.lit (.string ⟨#[]⟩)),(.lit (.string ⟨#[]⟩)),Ad] 1) [(0,8,v17)]) λv18=>
 bH (Oo 8 96 H13 v16 v18) λv19 H20=>
 bO (Af a0) λv21=>
 bO (Ac 5 v21) λv22=>
 bS (AU 1 H20 v22 v19) λH23=>
 K (I 0) H23)
theorem Og {a0 a1:AV}{H:AH}{K:KT}(h:Lg a0 a1 H K):Cv 48 [a0,a1] H K:=
 fok A7 Qb BE func48 h
def Do (a0 a1:AV)(H:AH)(K:KT):Prop:=
 bH (A8 H (.agg [(I 0),Ad])) λv0 H1=>
 bO (Af a0) λv2=>
 bO (Ac 8 v2) λv3=>
 bO (Ar false 1 H1 v3) λv4=>
 bB v4 λt5=>bI t5 (
 bO (EW [(I 0),Ad] []) λv6=>
 bS (AU 2 H1 v0 v6) λH7=>
 bO (Ar true 2 H7 v0) λv8=>
 K (.tup [v8,(I 8)]) H7)
 (bO (Af a0) λv9=>
 bO (Ac 1 v9) λv10=>
 bO (Ar true 2 H1 v10) λv11=>
 bP (PCall prog 13 [v11,a1] H1) λv12=>
 bO (Aj v12 0) λv13=>
 bO (Aj v12 1) λv14=>
 bH (A8 H1 (.agg [(I 0),Ad])) λv15 H16=>
 bS (AU 2 H16 v15 v13) λH17=>
 bO (E4 .not v14) λv18=>
 bB v18 λt19=>bI t19 (
 bO (EW [(I 0),Ad] []) λv20=>
 bS (AU 2 H17 v0 v20) λH21=>
 bO (Ar true 2 H21 v0) λv22=>
 K (.tup [v22,(I 3)]) H21)
 (bO (Ar true 2 H17 v15) λv23=>
 bS (AU 2 H17 v0 v23) λH24=>
 bO (Ar true 2 H24 v0) λv25=>
 K (.tup [v25,(I 0)]) H24))
theorem DJ {a0 a1:AV}{H:AH}{K:KT}(h:Do a0 a1 H K):Cv 49 [a0,a1] H K:=
 fok A7 Qb BE func49 h
def Je (a0 a1:AV)(H:AH)(K:KT):Prop:=
 bO (Af a0) λv0=>
 bO (Ac 8 v0) λv1=>
 bO (Ar false 1 H v1) λv2=>
 bB v2 λt3=>bI t3 (
 K (.tup [(I 0),(I 8)]) H)
 (bP (PCall prog 102 [a1] H) λv4=>
 bO (E4 .not v4) λv5=>
 bB v5 λt6=>bI t6 (
 K (.tup [(I 0),(I 5)]) H)
 (bO (Af a0) λv7=>
 bO (Ac 1 v7) λv8=>
 bO (Ar true 2 H v8) λv9=>
 bP (PCall prog 20 [v9,a1] H) λv10=>
 bO (Aj v10 0) λv11=>
 bO (Aj v10 1) λv12=>
 bO (E4 .not v12) λv13=>
 bB v13 λt14=>bI t14 (
 K (.tup [(I 0),(I 3)]) H)
 (K (.tup [v11,(I 0)]) H)))
theorem LI {a0 a1:AV}{H:AH}{K:KT}(h:Je a0 a1 H K):Cv 47 [a0,a1] H K:=
 fok A7 Qb BE func47 h
def IZ (a0 a1 a2:AV)(H:AH)(K:KT):Prop:=
 bC (BCall prog 47 [a0,a1] H) λv0 H1=>
 bO (Aj v0 0) λv2=>
 bO (Aj v0 1) λv3=>
 bO (Ax .neq v3 (I 3)) λv4=>
 bG v4 false λw5=>
 gO w5 (some a2) λv6=>
 bG v4 false λw7=>
 gO w7 (E4 .not v6) λv8=>
 bO (AG v4 (B true) v8) λv9=>
 bB v9 λt10=>bI t10 (
 K (.tup [v2,v3]) H1)
 (bO (Af a0) λv11=>
 bO (Ac 1 v11) λv12=>
 bO (Ac 0 v12) λv13=>
 bO (Ar false 1 H1 v13) λv14=>
 bO (Be v14) λv15=>
 bO (Ax .geq v15 (I 16)) λv16=>
 bB v16 λt17=>bI t17 (
 K (.tup [(I 0),(I 4)]) H1)
 (bO (Af a0) λv18=>
 bO (Ac 6 v18) λv19=>
 bO (Ar false 1 H1 v19) λv20=>
 bO (Ax .add v20 (I 1)) λv21=>
 bO (EW [(I 0),(I 0),(I 0),(I 0),(B false),(.lit (.string ⟨#[]⟩)),(.lit (.string ⟨#[]⟩)),Ad] [(0,1,(I 1)),(5,1,a1),(1,1,v21)]) λv22=>
 bC (BCall prog 48 [a0,v22] H1) λv23 H24=>
 bO (Ax .neq v23 (I 0)) λv25=>
 bB v25 λt26=>bI t26 (
 K (.tup [(I 0),v23]) H24)
 (bO (Af a0) λv27=>
 bO (Ac 6 v27) λv28=>
 bO (Ar false 1 H24 v28) λv29=>
 bO (Ax .add v29 (I 1)) λv30=>
 bO (Af a0) λv31=>
 bO (Ac 6 v31) λv32=>
 bS (AU 1 H24 v32 v30) λH33=>
 bO (Af a0) λv34=>
 bO (Ac 6 v34) λv35=>
 bO (Ar false 1 H33 v35) λv36=>
 K (.tup [v36,(I 0)]) H33)))
theorem LE {a0 a1 a2:AV}{H:AH}{K:KT}(h:IZ a0 a1 a2 H K):Cv 18 [a0,a1,a2] H K:=
 fok A7 Qb BE func18 h
def Ja (a0 a1:AV)(H:AH)(K:KT):Prop:=
 bC (BCall prog 49 [a0,a1] H) λv0 H1=>
 bO (Aj v0 0) λv2=>
 bO (Aj v0 1) λv3=>
 bH (A8 H1 (.agg [(I 0),Ad])) λv4 H5=>
 bS (AU 2 H5 v4 v2) λH6=>
 bO (Ac 0 v4) λv7=>
 bO (Ar false 1 H6 v7) λv8=>
 K (.tup [v8,v3]) H6
theorem LF {a0 a1:AV}{H:AH}{K:KT}(h:Ja a0 a1 H K):Cv 60 [a0,a1] H K:=
 fok A7 Qb BE func60 h
def Gq:Cm:=Jp [(12,[(3,some 11)])]
def Gr:Nat→Option (List Bool):=Cu [(9,mk 79 0 [0,1,2,3,10,36,37,38])]
def GE (p:List Bool)(n:Nat):List AV→AH→Kf→Prop:=AC prog Gq Qb Ak Ak Gr (sub p (AI f44)) n
def Gp (x0 x1 x2 x3 x10 x36 x37 x38:AV)(H:AH)(K:KT):Prop:=lp (mk 79 0 [0,1,2,3,10,36,37,38]) (GE [tT,tT,tT,fF,tT,fF,fF] 10) [x0,x1,x2,x3,x10,x36,x37,x38] H (BD 1 (BK (GE [tT,tT,tT,tT] 21) (Bw prog f44.results.toList K)))
def F5 (R9:RT)(x0 x1 x2 x3 x10 x36 x37 x38:AV)(H:AH)(K:KT):Prop:=
 bO (Ax .lss x38 x37) λv0=>
 bB v0 λt1=>bI t1 (
 bO (Bv 2 x36 x38) λv2=>
 bO (Ar true 2 H v2) λv3=>
 bH (A8 H (.agg [(I 0),(I 0)])) λv4 H5=>
 bS (AU 2 H5 v4 v3) λH6=>
 bO (Ac 0 v4) λv7=>
 bO (Ar false 1 H6 v7) λv8=>
 bO (Ax .sub v8 x2) λv9=>
 bO (Ar true 2 H6 x10) λv10=>
 bO (Ac 0 v4) λv11=>
 bO (Ar false 1 H6 v11) λv12=>
 bO (Ax .quo v12 (I 8)) λv13=>
 bP (PCall prog 100 [v10,v13] H6) λv14=>
 bO (E4 .not v14) λv15=>
 bG v15 true λw16=>
 gO w16 (some x0) λv17=>
 bG v15 true λw18=>
 gC w18 (BCall prog 21 [v17] H6) H6 λv19 H20=>
 bG v15 true λw21=>
 gO w21 (Ax .eql v19 (I 0)) λv22=>
 bO (AG v15 v22 (B false)) λv23=>
 bB v23 λt24=>bI t24 (
 K (.tup [v9,(I 4)]) H20)
 (bO (Ac 0 v4) λv25=>
 bO (Ar false 1 H20 v25) λv26=>
 bO (Ac 1 v4) λv27=>
 bO (Ar false 1 H20 v27) λv28=>
 bO (Ax .add v9 v28) λv29=>
 bO (AT 1 x3 (some v9) (some v29) none) λv30=>
 bC (BCall prog 101 [v30] H20) λv31 H32=>
 bO (EW [(I 0),(I 0),(I 0),(I 0),(B false),(.lit (.string ⟨#[]⟩)),(.lit (.string ⟨#[]⟩)),Ad] [(0,1,(I 2)),(1,1,x1),(2,1,v26),(7,1,v31)]) λv33=>
 bC (BCall prog 48 [x0,v33] H32) λv34 H35=>
(Ar false 1 H32 v25=some v26)∧
 bO (Ax .neq v34 (I 0)) λv36=>
 bB v36 λt37=>bI t37 (
 K (.tup [v9,v34]) H35)
 (bO (Ax .add x38 (I 1)) λv38=>
 R9 [x0,x1,x2,x3,x10,x36,x37,v38] H35)))
 (bO (Be x3) λv39=>
 K (.tup [v39,(I 0)]) H)
theorem HG {K:KT}:RL8 (λR x0 x1 x2 x3 x10 x36 x37 x38 H=>F5 R x0 x1 x2 x3 x10 x36 x37 x38 H K) (λx0 x1 x2 x3 x10 x36 x37 x38 H=>Gp x0 x1 x2 x3 x10 x36 x37 x38 H K):=qQ (A5 _ _) (λ_ _ _ _ _ _ _ _ _ _=>by kernel_rfl)
def Ig (a0 a1 a2 a3:AV)(H:AH)(K:KT):Prop:=
 bC (BCall prog 49 [a0,a1] H) λv0 H1=>
 bO (Aj v0 0) λv2=>
 bO (Aj v0 1) λv3=>
 bH (A8 H1 (.agg [(I 0),Ad])) λv4 H5=>
 bS (AU 2 H5 v4 v2) λH6=>
 bO (Ax .neq v3 (I 0)) λv7=>
 bB v7 λt8=>bI t8 (
 K (.tup [(I 0),v3]) H6)
 (bO (Be a3) λv9=>
 bP (PCall prog 98 [a2,v9] H6) λv10=>
 bO (E4 .not v10) λv11=>
 bB v11 λt12=>bI t12 (
 K (.tup [(I 0),(I 5)]) H6)
 (bO (Be a3) λv13=>
 bO (EW [(I 0),(I 0)] [(0,1,a2),(1,1,v13)]) λv14=>
 bP (PCall prog 99 [v14,(I 8)] H6) λv15=>
 bO (Be v15) λv16=>
 Gp a0 a1 a2 a3 v4 v15 v16 (I 0) H6 K))
theorem Lf {a0 a1 a2 a3:AV}{H:AH}{K:KT}(h:Ig a0 a1 a2 a3 H K):Cv 44 [a0,a1,a2,a3] H K:=
 fok Gq Qb Gr func44 h
def Gn (a0 a1 a2:AV)(H:AH)(K:KT):Prop:=
 bC (BCall prog 49 [a0,a1] H) λv0 H1=>
 bO (Aj v0 0) λv2=>
 bO (Aj v0 1) λv3=>
 bH (A8 H1 (.agg [(I 0),Ad])) λv4 H5=>
 bS (AU 2 H5 v4 v2) λH6=>
 bO (Ax .neq v3 (I 0)) λv7=>
 bB v7 λt8=>bI t8 (
 K v3 H6)
 (bO (Ar true 2 H6 v4) λv9=>
 bP (PCall prog 50 [v9,a2] H6) λv10=>
 bO (Aj v10 0) λv11=>
 bO (Aj v10 1) λv12=>
 bH (A8 H6 (.agg [(I 0),Ad])) λv13 H14=>
 bS (AU 2 H14 v13 v11) λH15=>
 bO (E4 .not v12) λv16=>
 bB v16 λt17=>bI t17 (
 K (I 5) H15)
 (bO (EW [(I 0),(I 0),(I 0),(I 0),(B false),(.lit (.string ⟨#[]⟩)),(.lit (.string ⟨#[]⟩)),Ad] [(0,1,(I 3)),(1,1,a1),(3,1,a2)]) λv18=>
 bC (BCall prog 48 [a0,v18] H15) λv19 H20=>
 K v19 H20))
theorem Jc {a0 a1 a2:AV}{H:AH}{K:KT}(h:Gn a0 a1 a2 H K):Cv 19 [a0,a1,a2] H K:=
 fok A7 Qb BE func19 h
def GD:Nat→Option (List Bool):=Cu [(10,mk 41 0 [0,1,5,14,15,16]),(7,mk 41 0 [0,1,5,14,15,16])]
def DI (p:List Bool)(n:Nat):List AV→AH→Kf→Prop:=AC prog A7 Qb Ak Ak GD (sub p (AI f37)) n
def Er (R7:RT)(x0 x1 x5 x14 x15 x16:AV)(H:AH)(K:KT):Prop:=jn (mk 41 0 [0,1,5,14,15,16]) (DI [tT,tT,tT,fF,tT,fF,fF,tT,tT,tT] 13) [x0,x1,x5,x14,x15,x16] H (Qa (mk 41 0 [0,1,5,14,15,16]) R7 (BD 0 (BK (DI [tT,tT,tT,tT] 13) (Bw prog f37.results.toList K))))
def GC (x0 x1 x5 x14 x15 x16:AV)(H:AH)(K:KT):Prop:=lp (mk 41 0 [0,1,5,14,15,16]) (DI [tT,tT,tT,fF,tT,fF,fF] 8) [x0,x1,x5,x14,x15,x16] H (BD 0 (BK (DI [tT,tT,tT,tT] 13) (Bw prog f37.results.toList K)))
def DH (R7:RT)(x0 x1 x5 x14 x15 x16:AV)(H:AH)(K:KT):Prop:=
 bO (Ax .add x16 (I 1)) λv0=>
 R7 [x0,x1,x5,x14,x15,v0] H
theorem Fe (R7:RT)(x0 x1 x5 x14 x15 x16:AV)(H:AH)(K:KT):Er R7 x0 x1 x5 x14 x15 x16 H K=DH R7 x0 x1 x5 x14 x15 x16 H K:=(Ea _ _ _ _ _).trans (by kernel_rfl)
def FF (R7:RT)(x0 x1 x5 x14 x15 x16:AV)(H:AH)(K:KT):Prop:=
 bO (Ax .lss x16 x15) λv0=>
 bB v0 λt1=>bI t1 (
 bO (Bv 8 x14 x16) λv2=>
 bO (Ar true 8 H v2) λv3=>
 bH (A8 H (.agg [(I 0),(I 0),(I 0),(I 0),(B false),(.lit (.string ⟨#[]⟩)),(.lit (.string ⟨#[]⟩)),Ad])) λv4 H5=>
 bS (AU 8 H5 v4 v3) λH6=>
 bO (Ar true 8 H6 v4) λv7=>
 bP (PCall prog 81 [v7,x1] H6) λv8=>
 bB v8 λt9=>bI t9 (
 bO (Af x0) λv10=>
 bO (Ac 3 v10) λv11=>
 bO (Ar true 2 H6 v11) λv12=>
 bO (Ar true 8 H6 v4) λv13=>
 bP (BPure prog 82 [v12,v13]) λv14=>
 bO (Af x0) λv15=>
 bO (Ac 3 v15) λv16=>
 bS (AU 2 H6 v16 v14) λH17=>
 Er R7 x0 x1 x5 x14 x15 x16 H17 K)
 (bO (Ar true 8 H6 v4) λv18=>
 bH (Dh H6 8 1 (Bo [(I 0),(I 0),(I 0),(I 0),(B false),(.lit (.string ⟨#[]⟩)),(.lit (.string ⟨#[]⟩)),Ad] 1) [(0,8,v18)]) λv19 H20=>
 bH (Oo 8 96 H20 x5 v19) λv21 H22=>
 Er R7 x0 x1 v21 x14 x15 x16 H22 K))
 (bO (Af x0) λv23=>
 bO (Ac 5 v23) λv24=>
 bS (AU 1 H v24 x5) λH25=>
 K (I 0) H25)
theorem Is {K:KT}:mF (λR x0 x1 x5 x14 x15 x16 H=>FF R x0 x1 x5 x14 x15 x16 H K) (λx0 x1 x5 x14 x15 x16 H=>GC x0 x1 x5 x14 x15 x16 H K):=aD (A5 _ _) (λ_ _ _ _ _ _ _ _=>by kernel_rfl)
def Jb (a0 a1:AV)(H:AH)(K:KT):Prop:=
 bC (BCall prog 80 [a0] H) λv0 H1=>
 bO (E4 .not v0) λv2=>
 bB v2 λt3=>bI t3 (
 K (I 8) H1)
 (bO (Af a0) λv4=>
 bO (Ac 5 v4) λv5=>
 bO (Ar false 1 H1 v5) λv6=>
 bO (Be v6) λv7=>
 GC a0 a1 Ad v6 v7 (I 0) H1 K)
theorem LG {a0 a1:AV}{H:AH}{K:KT}(h:Jb a0 a1 H K):Cv 37 [a0,a1] H K:=
 fok A7 Qb GD func37 h
def T8 (a0 a1:AV)(H:AH)(K:KT):Prop:=
 bH (A8 H a0) λv0 H1=>
 bH (A8 H1 a1) λv2 H3=>
 bO (Ac 1 v0) λv4=>
 bO (Ar false 1 H3 v4) λv5=>
 bP (PCall prog 164 [v5,(.fn (.func 165) [] [v2])] H3) λv6=>
 K v6 H3
theorem U3 {a0 a1:AV}{H:AH}{K:KT}(h:T8 a0 a1 H K):Cv 100 [a0,a1] H K:=
 fok A7 Qb BE func100 h
def PE (a0 a1:AV)(H:AH)(K:KT):Prop:=
 bH (A8 H a0) λv0 H1=>
 bO (Ac 0 v0) λv2=>
 bO (Ar false 1 H1 v2) λv3=>
 bO (Ar false 1 H1 a1) λv4=>
 bO (Ax .eql v3 v4) λv5=>
 K v5 H1
theorem RV {a0 a1:AV}{H:AH}{K:KT}(h:PE a0 a1 H K):Cv 165 [a0,a1] H K:=
 fok A7 Qb BE func165 h
def Lh:Nat→Option (List Bool):=Cu [(1,mk 15 0 [1,2]),(3,mk 15 0 [1,2,7])]
def It (p:List Bool)(n:Nat):List AV→AH→Kf→Prop:=AC prog A7 Qb Ak Ak Lh (sub p (AI f81)) n
def HA (x1 x2:AV)(H:AH)(K:KT):Prop:=jn (mk 15 0 [1,2]) (It [tT,tT] 7) [x1,x2] H (Bw prog f81.results.toList K)
def F7 (x1 x2 x7:AV)(H:AH)(K:KT):Prop:=jn (mk 15 0 [1,2,7]) (It [tT,fF,tT,fF,tT] 6) [x1,x2,x7] H (BD 0 (BK (Kz (mk 15 0 [1,2]) (It [tT,tT] 7)) (Bw prog f81.results.toList K)))
def Jf (x1 x2:AV)(H:AH)(K:KT):Prop:=
 bO (Ac 1 x2) λv0=>
 bO (Ar false 1 H v0) λv1=>
 bP (PCall prog 151 [x1,v1] H) λv2=>
 K v2 H
theorem Oh (x1 x2:AV)(H:AH)(K:KT):HA x1 x2 H K=Jf x1 x2 H K:=(Ea _ _ _ _ _).trans (by kernel_rfl)
def Ex (x1 x2 x7:AV)(H:AH)(K:KT):Prop:=
 bB x7 λt0=>bI t0 (
 K (B true) H)
 (HA x1 x2 H K)
theorem F8 (x1 x2 x7:AV)(H:AH)(K:KT):F7 x1 x2 x7 H K=Ex x1 x2 x7 H K:=(Ea _ _ _ _ _).trans (by kernel_rfl)
def PF (a0 a1:AV)(H:AH)(K:KT):Prop:=
 bH (A8 H a0) λv0 H1=>
 bO (Ac 0 v0) λv2=>
 bO (Ar false 1 H1 v2) λv3=>
 bO (Ax .eql v3 (I 1)) λv4=>
 bB v4 λt5=>bI t5 (
 F7 a1 v0 v4 H1 K)
 (bO (Ax .eql v3 (I 6)) λv6=>
 bB v6 λt7=>bI t7 (
 F7 a1 v0 v6 H1 K)
 (bO (Ax .eql v3 (I 7)) λv8=>
 F7 a1 v0 v8 H1 K))
theorem RW {a0 a1:AV}{H:AH}{K:KT}(h:PF a0 a1 H K):Cv 81 [a0,a1] H K:=
 fok A7 Qb Lh func81 h
def C3 (a0 a1:AV)(H:AH)(K:KT):Prop:=
 bP (PCall prog 167 [a0,a1] H) λv0=>
 bO (Ax .geq v0 (I 0)) λv1=>
 K v1 H
theorem Ec {a0 a1:AV}{H:AH}{K:KT}(h:C3 a0 a1 H K):Cv 164 [a0,a1] H K:=
 fok A7 Qb BE func164 h
def EB (a0 a1:AV)(H:AH)(K:KT):Prop:=
 bP (PCall prog 185 [a0,a1] H) λv0=>
 bO (Ax .geq v0 (I 0)) λv1=>
 K v1 H
theorem GP {a0 a1:AV}{H:AH}{K:KT}(h:EB a0 a1 H K):Cv 151 [a0,a1] H K:=
 fok A7 Qb BE func151 h
def EF:Nat→Option (List Bool):=Cu [(3,mk 19 0 [0,1,7,8])]
def Fd (p:List Bool)(n:Nat):List AV→AH→Kf→Prop:=AC prog A7 Qb Ak Ak EF (sub p (AI f185)) n
def EE (x0 x1 x7 x8:AV)(H:AH)(K:KT):Prop:=lp (mk 19 0 [0,1,7,8]) (Fd [tT,fF,tT,fF,fF] 4) [x0,x1,x7,x8] H (BD 0 (BK (Fd [tT,tT] 10) (Bw prog f185.results.toList K)))
def Ep (R3:RT)(x0 x1 x7 x8:AV)(H:AH)(K:KT):Prop:=
 bO (Ax .lss x8 x7) λv0=>
 bB v0 λt1=>bI t1 (
 bO (Bv 1 x0 x8) λv2=>
 bO (Ar false 1 H v2) λv3=>
 bO (Ax .eql x1 v3) λv4=>
 bB v4 λt5=>bI t5 (
 K x8 H)
 (bO (Ax .add x8 (I 1)) λv6=>
 R3 [x0,x1,x7,v6] H))
 (K (I (-1)) H)
theorem Gm {K:KT}:Wg (λR x0 x1 x7 x8 H=>Ep R x0 x1 x7 x8 H K) (λx0 x1 x7 x8 H=>EE x0 x1 x7 x8 H K):=MB (A5 _ _) (λ_ _ _ _ _ _=>by kernel_rfl)
def FE (a0 a1:AV)(H:AH)(K:KT):Prop:=
 bO (Be a0) λv0=>
 EE a0 a1 v0 (I 0) H K
theorem Ir {a0 a1:AV}{H:AH}{K:KT}(h:FE a0 a1 H K):Cv 185 [a0,a1] H K:=
 fok A7 Qb EF func185 h
def Fc (a0:AV)(H:AH)(K:KT):Prop:=
 bO (UH .eql LC a0 Ad) λv0=>
 bB v0 λt1=>bI t1 (
 K Ad H)
 (bH (Dh H 1 0 (Bo [u0Z] 0) []) λv2 H3=>
 bH (Oo 1 1 H3 v2 a0) λv4 H5=>
 K v4 H5)
theorem Hy {a0:AV}{H:AH}{K:KT}(h:Fc a0 H K):Cv 101 [a0] H K:=
 fok A7 Qb BE func101 h
def Fb (a0 a1:AV)(H:AH)(K:KT):Prop:=
 bH (A8 H a0) λv0 H1=>
 bH (A8 H1 a1) λv2 H3=>
 bO (Ar false 1 H3 v2) λv4=>
 bO (Ax .lss v4 (I 1)) λv5=>
 bB v5 λt6=>bI t6 (
 False)
 (K (.fn (.func 150) [] [v0,v2]) H3)
theorem Hx {a0 a1:AV}{H:AH}{K:KT}(h:Fb a0 a1 H K):Cv 79 [a0,a1] H K:=
 fok A7 Qb BE func79 h
def pZ:FuncId→Bool:=S5 [43,82,20,13,52,40,102,23,50,98,99,169,111,45]
def lK:FuncId→Bool:=S5 [36,11]
def NK:Nat→Option (List Bool):=Cu [(200010,mk 37 0 [3,4,6,7,13,14,15,20]),(300010,mk 37 0 [3,4,6,7,10]),(4,mk 37 0 [3,4,6,7,13,14,15])]
def Js:Nat→Bool:=S5 [200010]
def CY (p:List Bool)(n:Nat):List AV→AH→Kf→Prop:=AC prog A7 pZ lK Js NK (sub p (AI f36)) n
def Ml (R4:RT)(x3 x4 x6 x7 x13 x14 x15 x20:AV)(H:AH)(K:KT):Prop:=unF prog (sub [tT,tT,fF,tT,fF,fF,tT,tT,fF,fF,tT,tT,fF] (AI f36)) (AR (mk 37 0 [3,4,6,7,13,14,15,20]) [x3,x4,x6,x7,x13,x14,x15,x20]) H (BD 2 (BD 1 (BK (CY [tT,tT,fF,tT,fF,fF,tT,tT,tT] 15) (Qa (mk 37 0 [3,4,6,7,13,14,15]) R4 (BD 0 (BK (CY [tT,tT,tT] 15) (Bw prog f36.results.toList K)))))))
def NI (x3 x4 x6 x7 x13 x14 x15:AV)(H:AH)(K:KT):Prop:=lp (mk 37 0 [3,4,6,7,13,14,15]) (CY [tT,tT,fF,tT,fF,fF] 5) [x3,x4,x6,x7,x13,x14,x15] H (BD 0 (BK (CY [tT,tT,tT] 15) (Bw prog f36.results.toList K)))
theorem MA:sub [tT,tT,fF,tT,fF,fF,tT,tT,fF,fF,tT,tT,fF] (AI f36)=.rangeFunc (.tmp 20) #[21] (UX (sub [tT,tT,fF,tT,fF,fF,tT,tT,fF,fF,tT,tT,fF] (AI f36))) (sub [tT,tT,fF,tT,fF,fF,tT,tT,fF,fF,tT,tT,fF,tT] (AI f36)):=by kernel_rfl
def DN (Rf:Exit→AH→Prop)(x3 x4 x6 x7 x10:AV)(H:AH)(K:KT):Prop:=
 bO (Ar false 1 H x3) λv0=>
 bO (Ar false 1 H x4) λv1=>
 bO (Ar false 1 H x7) λv2=>
 bC (BCall prog 44 [v0,v1,v2,x10] H) λv3 H4=>
 bO (Aj v3 0) λv5=>
 bO (Aj v3 1) λv6=>
 bO (Ax .neq v6 (I 0)) λv7=>
 bB v7 λt8=>bI t8 (
 bS (AU 1 H4 x6 v6) λH9=>
 Rf .ret H9)
 (bO (Ar false 1 H4 x7) λv10=>
 bO (Ax .add v10 v5) λv11=>
 bS (AU 1 H4 x7 v11) λH12=>
 Rf .normal H12)
theorem OT (Rf:Exit→AH→Prop)(x3 x4 x6 x7 x10:AV)(H:AH)(K:KT):CY [tT,tT,fF,tT,fF,fF,tT,tT,fF,fF,tT,tT,fF,tT] 11 (AR (mk 37 0 [3,4,6,7,10]) [x3,x4,x6,x7,x10]) H (λe _ H=>Rf e H)=DN Rf x3 x4 x6 x7 x10 H K:=by kernel_rfl
theorem OU (R4:RT)(x3 x4 x6 x7 x13 x14 x15 x20:AV)(H:AH)(K:KT):(BD 2 (BD 1 (BK (CY [tT,tT,fF,tT,fF,fF,tT,tT,tT] 15) (Qa (mk 37 0 [3,4,6,7,13,14,15]) R4 (BD 0 (BK (CY [tT,tT,tT] 15) (Bw prog f36.results.toList K))))))) .normal (AR (mk 37 0 [3,4,6,7,13,14,15,20]) [x3,x4,x6,x7,x13,x14,x15,x20]) H=(bO (Ax .add x15 (I 1)) λv6=>
 R4 [x3,x4,x6,x7,x13,x14,v6] H):=by kernel_rfl
theorem OV (R4:RT)(x3 x4 x6 x7 x13 x14 x15 x20:AV)(H:AH)(K:KT):(BD 2 (BD 1 (BK (CY [tT,tT,fF,tT,fF,fF,tT,tT,tT] 15) (Qa (mk 37 0 [3,4,6,7,13,14,15]) R4 (BD 0 (BK (CY [tT,tT,tT] 15) (Bw prog f36.results.toList K))))))) .ret (AR (mk 37 0 [3,4,6,7,13,14,15,20]) [x3,x4,x6,x7,x13,x14,x15,x20]) H=(bO (Ar false 1 H x6) λv7=>
 K v7 H):=by kernel_rfl
def KU (R4:RT)(x3 x4 x6 x7 x13 x14 x15:AV)(H:AH)(K:KT):Prop:=
 bO (Ax .lss x15 x14) λv0=>
 bB v0 λt1=>bI t1 (
 bO (Bv 1 x13 x15) λv2=>
 bO (Ar false 1 H v2) λv3=>
 bC (BCall prog 79 [v3,(I 4096)] H) λv4 H5=>
 Ml R4 x3 x4 x6 x7 x13 x14 x15 v4 H5 K)
 (bS (AU 1 H x6 (I 0)) λH8=>
 bO (Ar false 1 H8 x6) λv9=>
 K v9 H8)
theorem NJ {K:KT}:pP (λR x3 x4 x6 x7 x13 x14 x15 H=>KU R x3 x4 x6 x7 x13 x14 x15 H K) (λx3 x4 x6 x7 x13 x14 x15 H=>NI x3 x4 x6 x7 x13 x14 x15 H K):=qO (DE _ _) (λ_ _ _ _ _ _ _ _ _=>by kernel_rfl)
def OS (a0 a1 a2:AV)(H:AH)(K:KT):Prop:=
 bH (A8 H a0) λv0 H1=>
 bH (A8 H1 a1) λv2 H3=>
 bH (A8 H3 (I 0)) λv4 H5=>
 bH (A8 H5 (I 0)) λv6 H7=>
 bS (AU 1 H7 v6 (I 0)) λH8=>
 bO (Be a2) λv9=>
 NI v0 v2 v4 v6 a2 v9 (I 0) H8 K
theorem Un (a0 a1 a2:AV)(H:AH)(K:KT):Of prog A7 pZ lK Js NK f36 [a0,a1,a2] H K=OS a0 a1 a2 H K:=by kernel_rfl
theorem Uo {a0 a1 a2:AV}{H:AH}{K:KT}(h:OS a0 a1 a2 H K):ACalls prog 36 [a0,a1,a2] H K:=
 GO JZ func36 (by kernel_rfl) (Eq.mpr (Un a0 a1 a2 H K) h)
def V8:Nat→Bool:=S5 []
def Ry (a0 a1 a2:AV)(H:AH)(K:KT):Prop:=
 bC (BCall prog 18 [a0,a1,(B true)] H) λv0 H1=>
 bO (Aj v0 0) λv2=>
 bO (Aj v0 1) λv3=>
 bO (Ax .neq v3 (I 0)) λv4=>
 bB v4 λt5=>bI t5 (
 K v3 H1)
 (bC (BCall prog 19 [a0,v2,(I 0)] H1) λv6 H7=>
 bO (Ax .neq v6 (I 0)) λv8=>
 bB v8 λt9=>bI t9 (
 K v6 H7)
 (bA (ACalls prog 36 [a0,v2,a2] H7) λv10 H11=>
 bO (Ax .neq v10 (I 0)) λv12=>
 bB v12 λt13=>bI t13 (
 K v10 H11)
 (bH (Dh H11 1 1 (Bo [(I 0)] 1) [(0,1,v2)]) λv14 H15=>
 bC (BCall prog 37 [a0,v14] H15) λv16 H17=>
 K v16 H17)))
theorem V6 (a0 a1 a2:AV)(H:AH)(K:KT):Of prog A7 pZ lK V8 BE f11 [a0,a1,a2] H K=Ry a0 a1 a2 H K:=by kernel_rfl
theorem V7 {a0 a1 a2:AV}{H:AH}{K:KT}(h:Ry a0 a1 a2 H K):ACalls prog 11 [a0,a1,a2] H K:=
 GO JZ func11 (by kernel_rfl) (Eq.mpr (V6 a0 a1 a2 H K) h)
end Go.Proofs.YtbppnhenlboefaaGreat.Av
end
