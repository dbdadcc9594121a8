/- Texts of this proof, one behind the other, packed into one file by a program of this session. No condition. -/
import Derived.Test.YtijoffokpjbnjaaMiD
import Derived.KernelRfl
import Derived.Lib.Bytealg
set_option linter.unusedVariables false
set_option linter.unusedSimpArgs false
set_option maxRecDepth 100000
namespace Go.Proofs.Ytijoffokpjbnjaa.Av
open Go Go.RowKit Go.Proofs.Try
section
section
variable {P : Program}
end
end
section
section
variable {P : Program}
end
end
section
theorem compareString_calls (a b:ByteArray)(H:AH):ACalls prog 51 [.lit (.string a),.lit (.string b)] H λr H'=>r=.lit (.int .i64 (Lib.compareBytes a.data.toList b.data.toList))∧H'=H:=by
 refine ACalls.of_body func51 rfl ?_;refine ACode.seq (ACode.region (AOps.op rfl rfl (AOps.nil ?_)));refine ACode.seq (ACode.region (AOps.op rfl rfl (AOps.op rfl rfl (AOps.extern rfl rfl (r:=.lit (.int .i64 (Lib.compareBytes a.data.toList b.data.toList))) ?_ (AOps.op rfl rfl (AOps.nil ?_))))))
 ·intro G vs hH hv
  have hv':VRs G [.lit (.string a),.lit (.string b)] vs:=hv;simp only[VRs,VR]at hv';obtain⟨_,_,rfl,rfl,_,_,rfl,rfl,rfl⟩:=hv';refine⟨.int .i64 (Lib.compareBytes a.data.toList b.data.toList),?_,by simp only[VR]⟩
  rw[run_callFunc_extern func61 (by kernel_rfl) (by kernel_rfl) (by kernel_rfl) (e:=Extern.BytealgCompare.compare) (by kernel_rfl),
   Lib.run_compareString (P:=prog) a b G.w]
  rfl
 ·exact ACode.ret ⟨.inr rfl,_,rfl,rfl,rfl⟩
def Lv:B9:=λf args H=>if f=51 then match args with
  | [.lit (.string a),.lit (.string b)]=>some (.lit (.int .i64 (Lib.compareBytes a.data.toList b.data.toList)),H)
  | _=>none
 else none
theorem M4:Cn prog Lv:=by
 intro f args H r H' h;unfold Lv at h;split at h
 ·rename_i hf
  subst hf;split at h
  ·injection h with h
   injection h with h1 h2;subst h1;subst h2;exact compareString_calls _ _ _
  ·cases h
 ·cases h
end
end Go.Proofs.Ytijoffokpjbnjaa.Av
section
namespace Go.Proofs.Ytijoffokpjbnjaa.Av
open Go Go.Proofs.Try
def EB:FuncId→Bool:=O9 [55,28,14,29,33,57,56,58,41,25,23,42,6,8,15,10,18,35,12,7,9,11,13,16,17,26,21,24,30,31,32,36,38,39,51]
def GX (a0:AV)(H:AH)(K:KT):Prop:=
 bH (AO H a0) λv0 H1=>
 bH (AO H1 (.agg [(I 0),AI])) λv2 H3=>
 bO (Aa 0 v0) λv4=>
 bO (Ak false 1 H3 v4) λv5=>
 bO (Aa 1 v0) λv6=>
 bO (Ak false 1 H3 v6) λv7=>
 bP (BPure prog 42 [v7]) λv8=>
 bO (O1 [(I 0),AI] [(0,1,v5),(1,1,v8)]) λv9=>
 bS (Ex 2 H3 v2 v9) λH10=>
 bO (Ak true 2 H10 v2) λv11=>
 K v11 H10
theorem In {a0:AV}{H:AH}{K:KT}(h:GX a0 H K):EN 23 [a0] H K:=
 fok AJ EB Fq func23 h
def IQ (a0 a1:AV)(H:AH)(K:KT):Prop:=
 bH (AO H a0) λv0 H1=>
 bO (Ak true 2 H1 v0) λv2=>
 bP (PCall prog 12 [v2] H1) λv3=>
 bO (Iu .not v3) λv4=>
 bB v4 λt5=>bI t5 (
 K (.tup [(I 0),(B false)]) H1)
 (bO (Ak true 2 H1 v0) λv6=>
 bC (BJ prog 20 [v6,a1] H1) λv7 H8=>
 bO (A5 v7 0) λv9=>
 bO (A5 v7 1) λv10=>
 bO (Iu .not v10) λv11=>
 bB v11 λt12=>bI t12 (
 K (.tup [(I 0),(B false)]) H8)
 (bO (Aa 0 v0) λv13=>
 bO (Ak false 1 H8 v13) λv14=>
 bO (Bz 2 v14 v9) λv15=>
 bO (Aa 1 v15) λv16=>
 bO (Ak false 1 H8 v16) λv17=>
 K (.tup [v17,(B true)]) H8))
theorem Jn {a0 a1:AV}{H:AH}{K:KT}(h:IQ a0 a1 H K):EN 6 [a0,a1] H K:=
 fok AJ EB Fq func6 h
def HE (a0 a1:AV)(H:AH)(K:KT):Prop:=
 bH (AO H a0) λv0 H1=>
 bH (AO H1 (.agg [(I 0),AI])) λv2 H3=>
 bO (Ak true 2 H3 v0) λv4=>
 bP (PCall prog 12 [v4] H3) λv5=>
 bO (Iu .not v5) λv6=>
 bB v6 λt7=>bI t7 (
 bO (O1 [(I 0),AI] []) λv8=>
 bS (Ex 2 H3 v2 v8) λH9=>
 bO (Ak true 2 H9 v2) λv10=>
 K (.tup [v10,(B false)]) H9)
 (bO (Ak true 2 H3 v0) λv11=>
 bC (BJ prog 22 [v11,a1] H3) λv12 H13=>
 bO (A5 v12 0) λv14=>
 bO (A5 v12 1) λv15=>
 bO (Iu .not v15) λv16=>
 bB v16 λt17=>bI t17 (
 bO (O1 [(I 0),AI] []) λv18=>
 bS (Ex 2 H13 v2 v18) λH19=>
 bO (Ak true 2 H19 v2) λv20=>
 K (.tup [v20,(B false)]) H19)
 (bO (Aa 1 v0) λv21=>
 bO (Ak false 1 H13 v21) λv22=>
 bO (Bz 3 v22 v14) λv23=>
 bO (Aa 1 v23) λv24=>
 bO (Ak true 2 H13 v24) λv25=>
 bP (PCall prog 23 [v25] H13) λv26=>
 bS (Ex 2 H13 v2 v26) λH27=>
 bO (Ak true 2 H27 v2) λv28=>
 K (.tup [v28,(B true)]) H27))
theorem GR {a0 a1:AV}{H:AH}{K:KT}(h:HE a0 a1 H K):EN 8 [a0,a1] H K:=
 fok AJ EB Fq func8 h
def Gs:Nat→Option (List Bool):=DL [(7,mk 24 0 [3,10,11,12])]
def GW (p:List Bool)(n:Nat):List AV→AH→Kf→Prop:=Ax prog AJ EB Ai Ai Gs (sub p (AY f15)) n
def Gr (x3 x10 x11 x12:AV)(H:AH)(K:KT):Prop:=lp (mk 24 0 [3,10,11,12]) (GW [tT,tT,tT,fF,tT,fF,fF] 8) [x3,x10,x11,x12] H (Cp 0 (Cw (GW [tT,tT,tT,tT] 12) (C7 prog f15.results.toList K)))
def Fi (R7:RT)(x3 x10 x11 x12:AV)(H:AH)(K:KT):Prop:=
 bO (Aq .lss x12 x11) λv0=>
 bB v0 λt1=>bI t1 (
 bO (Bz 3 x10 x12) λv2=>
 bO (Ak true 3 H v2) λv3=>
 bH (AO H (.agg [(I 0),(I 0),AI])) λv4 H5=>
 bS (Ex 3 H5 v4 v3) λH6=>
 bO (Aa 1 v4) λv7=>
 bO (Aa 1 v7) λv8=>
 bO (Ak false 1 H6 v8) λv9=>
 bO (Bm v9) λv10=>
 bO (Aq .add x3 v10) λv11=>
 bO (Aq .add x12 (I 1)) λv12=>
 R7 [v11,x10,x11,v12] H6)
 (K x3 H)
theorem G6 {K:KT}:OG (λR x3 x10 x11 x12 H=>Fi R x3 x10 x11 x12 H K) (λx3 x10 x11 x12 H=>Gr x3 x10 x11 x12 H K):=MB (Ag _ _) (λ_ _ _ _ _ _=>by kernel_rfl)
def IS (a0:AV)(H:AH)(K:KT):Prop:=
 bH (AO H a0) λv0 H1=>
 bO (Ak true 2 H1 v0) λv2=>
 bP (PCall prog 12 [v2] H1) λv3=>
 bO (Iu .not v3) λv4=>
 bB v4 λt5=>bI t5 (
 K (I 0) H1)
 (bO (Aa 1 v0) λv6=>
 bO (Ak false 1 H1 v6) λv7=>
 bO (Bm v7) λv8=>
 Gr (I 0) v7 v8 (I 0) H1 K)
theorem Jp {a0:AV}{H:AH}{K:KT}(h:IS a0 H K):EN 15 [a0] H K:=
 fok AJ EB Gs func15 h
def E6:Nat→Option (List Bool):=DL [(6,mk 27 0 [0,17,18])]
def Fh (p:List Bool)(n:Nat):List AV→AH→Kf→Prop:=Ax prog AJ EB Ai Ai E6 (sub p (AY f10)) n
def CS (x0 x17 x18:AV)(H:AH)(K:KT):Prop:=lp (mk 27 0 [0,17,18]) (Fh [tT,tT,fF,tT,fF,fF] 7) [x0,x17,x18] H (Cp 0 (Cw (Fh [tT,tT,tT] 13) (C7 prog f10.results.toList K)))
def DK (R6:RT)(x0 x17 x18:AV)(H:AH)(K:KT):Prop:=
 bO (Aq .lss x18 x17) λv0=>
 bB v0 λt1=>bI t1 (
 bO (Lo x0 x18) λv2=>
 bP (PCall prog 26 [v2] H) λv3=>
 bO (Iu .not v3) λv4=>
 bB v4 λt5=>bI t5 (
 K (B false) H)
 (bO (Aq .add x18 (I 1)) λv6=>
 R6 [x0,x17,v6] H))
 (K (B true) H)
theorem Fp {K:KT}:NJ (λR x0 x17 x18 H=>DK R x0 x17 x18 H K) (λx0 x17 x18 H=>CS x0 x17 x18 H K):=KL (Ag _ _) (λ_ _ _ _ _=>by kernel_rfl)
def Gq (a0:AV)(H:AH)(K:KT):Prop:=
 bO (MT .eql a0 (.lit (.string ⟨#[]⟩))) λv0=>
 bG v0 false λw1=>
 gO w1 (some a0) λv2=>
 bG v0 false λw3=>
 gO w3 (Hr v2) λv4=>
 bG v0 false λw5=>
 gO w5 (Aq .gtr v4 (I 20)) λv6=>
 bO (Aj v0 (B true) v6) λv7=>
 bG v7 false λw8=>
 gO w8 (some a0) λv9=>
 bG v7 false λw10=>
 gO w10 (Lo v9 (I 0)) λv11=>
 bG v7 false λw12=>
 gO w12 (Aq .eql v11 (.lit (.int .u8 45))) λv13=>
 bO (Aj v7 (B true) v13) λv14=>
 bB v14 λt15=>bI t15 (
 K (B false) H)
 (bO (Hr a0) λv16=>
 CS a0 v16 (I 0) H K)
theorem HF {a0:AV}{H:AH}{K:KT}(h:Gq a0 H K):EN 10 [a0] H K:=
 fok AJ EB E6 func10 h
def Cu:Nat→Option (List Bool):=DL [(14,mk 77 0 [2,3,6]),(6,mk 77 0 [2,3,5])]
def Bc (p:List Bool)(n:Nat):List AV→AH→Kf→Prop:=Ax prog AJ EB Ai Ai Cu (sub p (AY f18)) n
def Cm (x2 x3 x6:AV)(H:AH)(K:KT):Prop:=lp (mk 77 0 [2,3,6]) (Bc [tT,tT,tT,fF,tT,fF,fF] 15) [x2,x3,x6] H (Cp 2 (Cw (Bc [tT,tT,tT,tT] 20) (C7 prog f18.results.toList K)))
def Ct (x2 x3 x5:AV)(H:AH)(K:KT):Prop:=lp (mk 77 0 [2,3,5]) (Bc [tT,tT,fF,tT,fF,fF] 7) [x2,x3,x5] H (Cp 0 (Cw (Bc [tT,tT,tT] 12) (C7 prog f18.results.toList K)))
def BT (R14:RT)(x2 x3 x6:AV)(H:AH)(K:KT):Prop:=
 bO (Aa 1 x2) λv0=>
 bO (Ak false 1 H v0) λv1=>
 bO (Bm v1) λv2=>
 bO (Aq .lss x6 v2) λv3=>
 bB v3 λt4=>bI t4 (
 bO (Aa 1 x2) λv5=>
 bO (Ak false 1 H v5) λv6=>
 bO (Bz 3 v6 x6) λv7=>
 bO (Aa 0 v7) λv8=>
 bO (Ak false 1 H v8) λv9=>
 bO (Aa 1 x3) λv10=>
 bO (Ak false 1 H v10) λv11=>
 bO (Bz 3 v11 x6) λv12=>
 bO (Aa 0 v12) λv13=>
 bO (Ak false 1 H v13) λv14=>
 bO (Aq .neq v9 v14) λv15=>
 bG v15 false λw16=>
 gO w16 (Aa 1 x2) λv17=>
 bG v15 false λw18=>
 gO w18 (Ak false 1 H v17) λv19=>
 bG v15 false λw20=>
 gO w20 (some x6) λv21=>
 bG v15 false λw22=>
 gO w22 (Bz 3 v19 v21) λv23=>
 bG v15 false λw24=>
 gO w24 (Aa 1 v23) λv25=>
 bG v15 false λw26=>
 gO w26 (Ak true 2 H v25) λv27=>
 bG v15 false λw28=>
 gO w28 (Aa 1 x3) λv29=>
 bG v15 false λw30=>
 gO w30 (Ak false 1 H v29) λv31=>
 bG v15 false λw32=>
 gO w32 (some x6) λv33=>
 bG v15 false λw34=>
 gO w34 (Bz 3 v31 v33) λv35=>
 bG v15 false λw36=>
 gO w36 (Aa 1 v35) λv37=>
 bG v15 false λw38=>
 gO w38 (Ak true 2 H v37) λv39=>
 bG v15 false λw40=>
 gP w40 (BPure prog 14 [v27,v39]) λv41=>
 bG v15 false λw42=>
 gO w42 (Iu .not v41) λv43=>
 bO (Aj v15 (B true) v43) λv44=>
 bB v44 λt45=>bI t45 (
 K (B false) H)
 (bO (Aq .add x6 (I 1)) λv46=>
 R14 [x2,x3,v46] H))
 (K (B true) H)
theorem CX {K:KT}:NJ (λR x2 x3 x6 H=>BT R x2 x3 x6 H K) (λx2 x3 x6 H=>Cm x2 x3 x6 H K):=KL (Ag _ _) (λ_ _ _ _ _=>by kernel_rfl)
def Cc (R6:RT)(x2 x3 x5:AV)(H:AH)(K:KT):Prop:=
 bO (Aa 0 x2) λv0=>
 bO (Ak false 1 H v0) λv1=>
 bO (Bm v1) λv2=>
 bO (Aq .lss x5 v2) λv3=>
 bB v3 λt4=>bI t4 (
 bO (Aa 0 x2) λv5=>
 bO (Ak false 1 H v5) λv6=>
 bO (Bz 2 v6 x5) λv7=>
 bO (Ak true 2 H v7) λv8=>
 bO (Aa 0 x3) λv9=>
 bO (Ak false 1 H v9) λv10=>
 bO (Bz 2 v10 x5) λv11=>
 bO (Ak true 2 H v11) λv12=>
 bO (Ey prog .neq 47 v8 v12) λv13=>
 bB v13 λt14=>bI t14 (
 K (B false) H)
 (bO (Aq .add x5 (I 1)) λv15=>
 R6 [x2,x3,v15] H))
 (Cm x2 x3 (I 0) H K)
theorem Dk {K:KT}:NJ (λR x2 x3 x5 H=>Cc R x2 x3 x5 H K) (λx2 x3 x5 H=>Ct x2 x3 x5 H K):=KL (Ag _ _) (λ_ _ _ _ _=>by kernel_rfl)
def CN (a0 a1:AV)(H:AH)(K:KT):Prop:=
 bH (AO H a0) λv0 H1=>
 bH (AO H1 a1) λv2 H3=>
 bO (Aa 0 v0) λv4=>
 bO (Ak false 1 H3 v4) λv5=>
 bO (Bm v5) λv6=>
 bO (Aa 0 v2) λv7=>
 bO (Ak false 1 H3 v7) λv8=>
 bO (Bm v8) λv9=>
 bO (Aq .neq v6 v9) λv10=>
 bG v10 false λw11=>
 gO w11 (Aa 1 v0) λv12=>
 bG v10 false λw13=>
 gO w13 (Ak false 1 H3 v12) λv14=>
 bG v10 false λw15=>
 gO w15 (Bm v14) λv16=>
 bG v10 false λw17=>
 gO w17 (Aa 1 v2) λv18=>
 bG v10 false λw19=>
 gO w19 (Ak false 1 H3 v18) λv20=>
 bG v10 false λw21=>
 gO w21 (Bm v20) λv22=>
 bG v10 false λw23=>
 gO w23 (Aq .neq v16 v22) λv24=>
 bO (Aj v10 (B true) v24) λv25=>
 bB v25 λt26=>bI t26 (
 K (B false) H3)
 (Ct v0 v2 (I 0) H3 K)
theorem Eu {a0 a1:AV}{H:AH}{K:KT}(h:CN a0 a1 H K):EN 18 [a0,a1] H K:=
 fok AJ EB Cu func18 h
def GU:Nat→Option (List Bool):=DL [(8,mk 51 0 [3,5,25,26,27])]
def Ib (p:List Bool)(n:Nat):List AV→AH→Kf→Prop:=Ax prog AJ EB Ai Ai GU (sub p (AY f12)) n
def GS (x3 x5 x25 x26 x27:AV)(H:AH)(K:KT):Prop:=lp (mk 51 0 [3,5,25,26,27]) (Ib [tT,tT,tT,tT,fF,tT,fF,fF] 9) [x3,x5,x25,x26,x27] H (Cp 0 (Cw (Ib [tT,tT,tT,tT,tT] 16) (C7 prog f12.results.toList K)))
def F4 (R8:RT)(x3 x5 x25 x26 x27:AV)(H:AH)(K:KT):Prop:=
 bO (Aq .lss x27 x26) λv0=>
 bB v0 λt1=>bI t1 (
 bO (Bz 3 x25 x27) λv2=>
 bO (Ak true 3 H v2) λv3=>
 bH (AO H (.agg [(I 0),(I 0),AI])) λv4 H5=>
 bS (Ex 3 H5 v4 v3) λH6=>
 bO (Aa 0 v4) λv7=>
 bO (Ak false 1 H6 v7) λv8=>
 bO (Aq .leq v8 x5) λv9=>
 bG v9 false λw10=>
 gO w10 (some x3) λv11=>
 bG v9 false λw12=>
 gO w12 (Aa 0 v4) λv13=>
 bG v9 false λw14=>
 gO w14 (Ak false 1 H6 v13) λv15=>
 bG v9 false λw16=>
 gO w16 (NG (.int .i64) (.bool false) H6 v11 v15 false) λv17=>
 bG v9 false λw18=>
 gO w18 (Iu .not v17) λv19=>
 bO (Aj v9 (B true) v19) λv20=>
 bG v20 false λw21=>
 gO w21 (Aa 1 v4) λv22=>
 bG v20 false λw23=>
 gO w23 (Ak true 2 H6 v22) λv24=>
 bG v20 false λw25=>
 gP w25 (PCall prog 28 [v24] H6) λv26=>
 bG v20 false λw27=>
 gO w27 (Iu .not v26) λv28=>
 bO (Aj v20 (B true) v28) λv29=>
 bB v29 λt30=>bI t30 (
 K (B false) H6)
 (bO (Aa 0 v4) λv31=>
 bO (Ak false 1 H6 v31) λv32=>
 bO (Aq .add x27 (I 1)) λv33=>
 R8 [x3,v32,x25,x26,v33] H6))
 (K (B true) H)
theorem GT {K:KT}:PB (λR x3 x5 x25 x26 x27 H=>F4 R x3 x5 x25 x26 x27 H K) (λx3 x5 x25 x26 x27 H=>GS x3 x5 x25 x26 x27 H K):=Oh (Ag _ _) (λ_ _ _ _ _ _ _=>by kernel_rfl)
def J5 (a0:AV)(H:AH)(K:KT):Prop:=
 bH (AO H a0) λv0 H1=>
 bO (Aa 0 v0) λv2=>
 bO (Ak false 1 H1 v2) λv3=>
 bC (BJ prog 27 [v3] H1) λv4 H5=>
 bO (A5 v4 0) λv6=>
 bO (A5 v4 1) λv7=>
 bO (Iu .not v7) λv8=>
 bG v8 false λw9=>
 gO w9 (Aa 1 v0) λv10=>
 bG v8 false λw11=>
 gO w11 (Ak false 1 H5 v10) λv12=>
 bG v8 false λw13=>
 gO w13 (Bm v12) λv14=>
 bG v8 false λw15=>
 gO w15 (some v6) λv16=>
 bG v8 false λw17=>
 gO w17 (Lq H5 v16) λv18=>
 bG v8 false λw19=>
 gO w19 (Aq .neq v14 v18) λv20=>
 bO (Aj v8 (B true) v20) λv21=>
 bB v21 λt22=>bI t22 (
 K (B false) H5)
 (bO (Aa 1 v0) λv23=>
 bO (Ak false 1 H5 v23) λv24=>
 bO (Bm v24) λv25=>
 GS v6 (I 0) v24 v25 (I 0) H5 K)
theorem JZ {a0:AV}{H:AH}{K:KT}(h:J5 a0 H K):EN 12 [a0] H K:=
 fok AJ EB GU func12 h
def EG (a0 a1:AV)(H:AH)(K:KT):Prop:=
 bH (AO H a0) λv0 H1=>
 bO (Ak true 2 H1 v0) λv2=>
 bP (PCall prog 21 [v2,a1] H1) λv3=>
 bO (Ak true 2 H1 v0) λv4=>
 bP (PCall prog 13 [v4] H1) λv5=>
 bO (Iu .not v5) λv6=>
 bG v6 false λw7=>
 gO w7 (some v3) λv8=>
 bG v6 false λw9=>
 gO w9 (Aq .lss v8 (I 0)) λv10=>
 bO (Aj v6 (B true) v10) λv11=>
 bB v11 λt12=>bI t12 (
 K (.tup [(I 0),(B false)]) H1)
 (bO (Aa 0 v0) λv13=>
 bO (Ak false 1 H1 v13) λv14=>
 bO (Bz 2 v14 v3) λv15=>
 bO (Aa 1 v15) λv16=>
 bO (Ak false 1 H1 v16) λv17=>
 K (.tup [v17,(B true)]) H1)
theorem Ge {a0 a1:AV}{H:AH}{K:KT}(h:EG a0 a1 H K):EN 7 [a0,a1] H K:=
 fok AJ EB Fq func7 h
def Du (a0 a1:AV)(H:AH)(K:KT):Prop:=
 bH (AO H a0) λv0 H1=>
 bH (AO H1 (.agg [(I 0),AI])) λv2 H3=>
 bO (Ak true 2 H3 v0) λv4=>
 bP (PCall prog 24 [v4,a1] H3) λv5=>
 bO (Ak true 2 H3 v0) λv6=>
 bP (PCall prog 13 [v6] H3) λv7=>
 bO (Iu .not v7) λv8=>
 bG v8 false λw9=>
 gO w9 (some v5) λv10=>
 bG v8 false λw11=>
 gO w11 (Aq .lss v10 (I 0)) λv12=>
 bO (Aj v8 (B true) v12) λv13=>
 bB v13 λt14=>bI t14 (
 bO (O1 [(I 0),AI] []) λv15=>
 bS (Ex 2 H3 v2 v15) λH16=>
 bO (Ak true 2 H16 v2) λv17=>
 K (.tup [v17,(B false)]) H16)
 (bO (Aa 1 v0) λv18=>
 bO (Ak false 1 H3 v18) λv19=>
 bO (Bz 3 v19 v5) λv20=>
 bO (Aa 1 v20) λv21=>
 bO (Ak true 2 H3 v21) λv22=>
 bP (PCall prog 25 [v22] H3) λv23=>
 bS (Ex 2 H3 v2 v23) λH24=>
 bO (Ak true 2 H24 v2) λv25=>
 K (.tup [v25,(B true)]) H24)
theorem DQ {a0 a1:AV}{H:AH}{K:KT}(h:Du a0 a1 H K):EN 9 [a0,a1] H K:=
 fok AJ EB Fq func9 h
def CC:Nat→Option (List Bool):=DL [(3,mk 52 0 [0,3])]
def CM (p:List Bool)(n:Nat):List AV→AH→Kf→Prop:=Ax prog AJ EB Ai Ai CC (sub p (AY f11)) n
def CB (x0 x3:AV)(H:AH)(K:KT):Prop:=lp (mk 52 0 [0,3]) (CM [tT,fF,tT,fF,fF] 4) [x0,x3] H (Cp 0 (Cw (CM [tT,tT] 10) (C7 prog f11.results.toList K)))
def Cs (R3:RT)(x0 x3:AV)(H:AH)(K:KT):Prop:=
 bO (Hr x0) λv0=>
 bO (Aq .lss x3 v0) λv1=>
 bB v1 λt2=>bI t2 (
 bO (Lo x0 x3) λv3=>
 bO (Aq .lss v3 (.lit (.int .u8 97))) λv4=>
 bG v4 false λw5=>
 gO w5 (some v3) λv6=>
 bG v4 false λw7=>
 gO w7 (Aq .gtr v6 (.lit (.int .u8 122))) λv8=>
 bO (Aj v4 (B true) v8) λv9=>
 bG v9 true λw10=>
 gO w10 (some v3) λv11=>
 bG v9 true λw12=>
 gO w12 (Aq .lss v11 (.lit (.int .u8 48))) λv13=>
 bG v9 true λw14=>
 gO w14 (some v13) λv15=>
 bG v15 false λw16=>
 gO w16 (some v3) λv17=>
 bG v15 false λw18=>
 gO w18 (Aq .gtr v17 (.lit (.int .u8 57))) λv19=>
 bG v9 true λw20=>
 gO w20 (Aj v15 (B true) v19) λv21=>
 bO (Aj v9 v21 (B false)) λv22=>
 bG v22 true λw23=>
 gO w23 (some v3) λv24=>
 bG v22 true λw25=>
 gO w25 (Aq .neq v24 (.lit (.int .u8 46))) λv26=>
 bO (Aj v22 v26 (B false)) λv27=>
 bG v27 true λw28=>
 gO w28 (some v3) λv29=>
 bG v27 true λw30=>
 gO w30 (Aq .neq v29 (.lit (.int .u8 95))) λv31=>
 bO (Aj v27 v31 (B false)) λv32=>
 bG v32 true λw33=>
 gO w33 (some v3) λv34=>
 bG v32 true λw35=>
 gO w35 (Aq .neq v34 (.lit (.int .u8 45))) λv36=>
 bG v32 true λw37=>
 gO w37 (some v36) λv38=>
 bG v38 false λw39=>
 gO w39 (some x3) λv40=>
 bG v38 false λw41=>
 gO w41 (Aq .eql v40 (I 0)) λv42=>
 bG v32 true λw43=>
 gO w43 (Aj v38 (B true) v42) λv44=>
 bO (Aj v32 v44 (B false)) λv45=>
 bB v45 λt46=>bI t46 (
 K (B false) H)
 (bO (Aq .add x3 (I 1)) λv47=>
 R3 [x0,v47] H))
 (bO (Hr x0) λv48=>
 bO (Aq .geq v48 (I 1)) λv49=>
 bG v49 true λw50=>
 gO w50 (some x0) λv51=>
 bG v49 true λw52=>
 gO w52 (Hr v51) λv53=>
 bG v49 true λw54=>
 gO w54 (Aq .leq v53 (I 20)) λv55=>
 bO (Aj v49 v55 (B false)) λv56=>
 K v56 H)
theorem DB {K:KT}:Q0 (λR x0 x3 H=>Cs R x0 x3 H K) (λx0 x3 H=>CB x0 x3 H K):=Pm (Ag _ _) (λ_ _ _ _=>by kernel_rfl)
def Dy (a0:AV)(H:AH)(K:KT):Prop:=
 CB a0 (I 0) H K
theorem EZ {a0:AV}{H:AH}{K:KT}(h:Dy a0 H K):EN 11 [a0] H K:=
 fok AJ EB CC func11 h
def C2:Nat→Option (List Bool):=DL [(16,mk 110 0 [1,3,4,5]),(6,mk 110 0 [1,3])]
def AA (p:List Bool)(n:Nat):List AV→AH→Kf→Prop:=Ax prog AJ EB Ai Ai C2 (sub p (AY f13)) n
def Cr (R6:RT)(x1 x3 x4 x5:AV)(H:AH)(K:KT):Prop:=lp (mk 110 0 [1,3,4,5]) (AA [tT,tT,fF,tT,fF,fF,tT,fF,fF,tT,tT,fF,tT,fF,fF] 17) [x1,x3,x4,x5] H (Cp 2 (Cw (AA [tT,tT,fF,tT,fF,fF,tT,fF,fF,tT,tT,tT] 22) (Cp 1 (Cw (AA [tT,tT,fF,tT,fF,fF,tT,tT] 24) (NI (mk 110 0 [1,3]) R6 (Cp 0 (Cw (AA [tT,tT,tT] 24) (C7 prog f13.results.toList K))))))))
def C1 (x1 x3:AV)(H:AH)(K:KT):Prop:=lp (mk 110 0 [1,3]) (AA [tT,tT,fF,tT,fF,fF] 7) [x1,x3] H (Cp 0 (Cw (AA [tT,tT,tT] 24) (C7 prog f13.results.toList K)))
def Bt (R6:RT)(R16:RT)(x1 x3 x4 x5:AV)(H:AH)(K:KT):Prop:=
 bO (Aq .lss x5 x3) λv0=>
 bB v0 λt1=>bI t1 (
 bO (Aa 0 x1) λv2=>
 bO (Ak false 1 H v2) λv3=>
 bO (Bz 2 v3 x5) λv4=>
 bO (Aa 1 v4) λv5=>
 bO (Ak false 1 H v5) λv6=>
 bO (Aa 1 x4) λv7=>
 bO (Ak false 1 H v7) λv8=>
 bO (Aq .eql v6 v8) λv9=>
 bB v9 λt10=>bI t10 (
 K (B false) H)
 (bO (Aq .add x5 (I 1)) λv11=>
 R16 [x1,x3,x4,v11] H))
 (bO (Aq .gtr x3 (I 0)) λv12=>
 bG v12 true λw13=>
 gO w13 (Aa 1 x1) λv14=>
 bG v12 true λw15=>
 gO w15 (Ak false 1 H v14) λv16=>
 bG v12 true λw17=>
 gO w17 (some x3) λv18=>
 bG v12 true λw19=>
 gO w19 (Aq .sub v18 (I 1)) λv20=>
 bG v12 true λw21=>
 gO w21 (Bz 3 v16 v20) λv22=>
 bG v12 true λw23=>
 gO w23 (Aa 0 v22) λv24=>
 bG v12 true λw25=>
 gO w25 (Ak false 1 H v24) λv26=>
 bG v12 true λw27=>
 gO w27 (Aa 1 x1) λv28=>
 bG v12 true λw29=>
 gO w29 (Ak false 1 H v28) λv30=>
 bG v12 true λw31=>
 gO w31 (some x3) λv32=>
 bG v12 true λw33=>
 gO w33 (Bz 3 v30 v32) λv34=>
 bG v12 true λw35=>
 gO w35 (Aa 0 v34) λv36=>
 bG v12 true λw37=>
 gO w37 (Ak false 1 H v36) λv38=>
 bG v12 true λw39=>
 gO w39 (Aq .geq v26 v38) λv40=>
 bO (Aj v12 v40 (B false)) λv41=>
 bG v41 false λw42=>
 gO w42 (Aa 1 x1) λv43=>
 bG v41 false λw44=>
 gO w44 (Ak false 1 H v43) λv45=>
 bG v41 false λw46=>
 gO w46 (some x3) λv47=>
 bG v41 false λw48=>
 gO w48 (Bz 3 v45 v47) λv49=>
 bG v41 false λw50=>
 gO w50 (Aa 1 v49) λv51=>
 bG v41 false λw52=>
 gO w52 (Ak true 2 H v51) λv53=>
 bG v41 false λw54=>
 gP w54 (BPure prog 29 [v53]) λv55=>
 bG v41 false λw56=>
 gO w56 (Iu .not v55) λv57=>
 bO (Aj v41 (B true) v57) λv58=>
 bB v58 λt59=>bI t59 (
 K (B false) H)
 (bO (Aq .add x3 (I 1)) λv60=>
 R6 [x1,v60] H))
theorem BE (R6:RT){K:KT}:OG (λR x1 x3 x4 x5 H=>Bt R6 R x1 x3 x4 x5 H K) (λx1 x3 x4 x5 H=>Cr R6 x1 x3 x4 x5 H K):=MB (Ag _ _) (λ_ _ _ _ _ _=>by kernel_rfl)
def Ck (R6:RT)(x1 x3:AV)(H:AH)(K:KT):Prop:=
 bO (Aa 0 x1) λv0=>
 bO (Ak false 1 H v0) λv1=>
 bO (Bm v1) λv2=>
 bO (Aq .lss x3 v2) λv3=>
 bB v3 λt4=>bI t4 (
 bO (Aa 0 x1) λv5=>
 bO (Ak false 1 H v5) λv6=>
 bO (Bz 2 v6 x3) λv7=>
 bO (Ak true 2 H v7) λv8=>
 bH (AO H (.agg [(.lit (.string ⟨#[]⟩)),(I 0)])) λv9 H10=>
 bS (Ex 2 H10 v9 v8) λH11=>
 bO (Aa 0 v9) λv12=>
 bO (Ak false 1 H11 v12) λv13=>
 bP (BPure prog 11 [v13]) λv14=>
 bO (Iu .not v14) λv15=>
 bG v15 false λw16=>
 gO w16 (Aa 1 v9) λv17=>
 bG v15 false λw18=>
 gO w18 (Ak false 1 H11 v17) λv19=>
 bG v15 false λw20=>
 gO w20 (Aq .lss v19 (I 1)) λv21=>
 bO (Aj v15 (B true) v21) λv22=>
 bG v22 false λw23=>
 gO w23 (Aa 1 v9) λv24=>
 bG v22 false λw25=>
 gO w25 (Ak false 1 H11 v24) λv26=>
 bG v22 false λw27=>
 gO w27 (Aq .gtr v26 (I 4611686018427387904)) λv28=>
 bO (Aj v22 (B true) v28) λv29=>
 bG v29 false λw30=>
 gO w30 (some x3) λv31=>
 bG v29 false λw32=>
 gO w32 (Aq .gtr v31 (I 0)) λv33=>
 bG v29 false λw34=>
 gO w34 (some v33) λv35=>
 bG v35 true λw36=>
 gO w36 (Aa 0 x1) λv37=>
 bG v35 true λw38=>
 gO w38 (Ak false 1 H11 v37) λv39=>
 bG v35 true λw40=>
 gO w40 (some x3) λv41=>
 bG v35 true λw42=>
 gO w42 (Aq .sub v41 (I 1)) λv43=>
 bG v35 true λw44=>
 gO w44 (Bz 2 v39 v43) λv45=>
 bG v35 true λw46=>
 gO w46 (Aa 0 v45) λv47=>
 bG v35 true λw48=>
 gO w48 (Ak false 1 H11 v47) λv49=>
 bG v35 true λw50=>
 gO w50 (Aa 0 v9) λv51=>
 bG v35 true λw52=>
 gO w52 (Ak false 1 H11 v51) λv53=>
 bG v35 true λw54=>
 gO w54 (MT .geq v49 v53) λv55=>
 bG v29 false λw56=>
 gO w56 (Aj v35 v55 (B false)) λv57=>
 bO (Aj v29 (B true) v57) λv58=>
 bG v58 false λw59=>
 gO w59 (Ak true 2 H11 x1) λv60=>
 bG v58 false λw61=>
 gO w61 (Aa 1 v9) λv62=>
 bG v58 false λw63=>
 gO w63 (Ak false 1 H11 v62) λv64=>
 bG v58 false λw65=>
 gP w65 (BPure prog 24 [v60,v64]) λv66=>
 bG v58 false λw67=>
 gO w67 (Aq .lss v66 (I 0)) λv68=>
 bO (Aj v58 (B true) v68) λv69=>
 bB v69 λt70=>bI t70 (
 K (B false) H11)
 (Cr R6 x1 x3 v9 (I 0) H11 K))
 (K (B true) H)
theorem Dv {K:KT}:Q0 (λR x1 x3 H=>Ck R x1 x3 H K) (λx1 x3 H=>C1 x1 x3 H K):=Pm (Ag _ _) (λ_ _ _ _=>by kernel_rfl)
def Dj (a0:AV)(H:AH)(K:KT):Prop:=
 bH (AO H a0) λv0 H1=>
 bO (Aa 0 v0) λv2=>
 bO (Ak false 1 H1 v2) λv3=>
 bO (Bm v3) λv4=>
 bO (Aq .gtr v4 (I 16)) λv5=>
 bG v5 false λw6=>
 gO w6 (Aa 0 v0) λv7=>
 bG v5 false λw8=>
 gO w8 (Ak false 1 H1 v7) λv9=>
 bG v5 false λw10=>
 gO w10 (Bm v9) λv11=>
 bG v5 false λw12=>
 gO w12 (Aa 1 v0) λv13=>
 bG v5 false λw14=>
 gO w14 (Ak false 1 H1 v13) λv15=>
 bG v5 false λw16=>
 gO w16 (Bm v15) λv17=>
 bG v5 false λw18=>
 gO w18 (Aq .neq v11 v17) λv19=>
 bO (Aj v5 (B true) v19) λv20=>
 bB v20 λt21=>bI t21 (
 K (B false) H1)
 (C1 v0 (I 0) H1 K)
theorem EH {a0:AV}{H:AH}{K:KT}(h:Dj a0 H K):EN 13 [a0] H K:=
 fok AJ EB C2 func13 h
def D0:Nat→Option (List Bool):=DL [(4,mk 27 0 [1,3,4])]
def DS (p:List Bool)(n:Nat):List AV→AH→Kf→Prop:=Ax prog AJ EB Ai Ai D0 (sub p (AY f16)) n
def Dz (x1 x3 x4:AV)(H:AH)(K:KT):Prop:=lp (mk 27 0 [1,3,4]) (DS [tT,tT,fF,tT,fF,fF] 5) [x1,x3,x4] H (Cp 0 (Cw (DS [tT,tT,tT] 8) (C7 prog f16.results.toList K)))
def CO (R4:RT)(x1 x3 x4:AV)(H:AH)(K:KT):Prop:=
 bO (Aa 1 x1) λv0=>
 bO (Ak false 1 H v0) λv1=>
 bO (Bm v1) λv2=>
 bO (Aq .lss x4 v2) λv3=>
 bG v3 true λw4=>
 gO w4 (Ak true 2 H x1) λv5=>
 bG v3 true λw6=>
 gP w6 (PCall prog 13 [v5] H) λv7=>
 bO (Aj v3 v7 (B false)) λv8=>
 bB v8 λt9=>bI t9 (
 bO (Aa 1 x1) λv10=>
 bO (Ak false 1 H v10) λv11=>
 bO (Bz 3 v11 x4) λv12=>
 bO (Aa 1 v12) λv13=>
 bO (Aa 1 v13) λv14=>
 bO (Ak false 1 H v14) λv15=>
 bO (Bm v15) λv16=>
 bO (Aq .add x3 v16) λv17=>
 bO (Aq .add x4 (I 1)) λv18=>
 R4 [x1,v17,v18] H)
 (K x3 H)
theorem Ev {K:KT}:NJ (λR x1 x3 x4 H=>CO R x1 x3 x4 H K) (λx1 x3 x4 H=>Dz x1 x3 x4 H K):=KL (Ag _ _) (λ_ _ _ _ _=>by kernel_rfl)
def EI (a0:AV)(H:AH)(K:KT):Prop:=
 bH (AO H a0) λv0 H1=>
 Dz v0 (I 0) (I 0) H1 K
theorem Gf {a0:AV}{H:AH}{K:KT}(h:EI a0 H K):EN 16 [a0] H K:=
 fok AJ EB D0 func16 h
def IR (a0 a1:AV)(H:AH)(K:KT):Prop:=
 bH (AO H a0) λv0 H1=>
 bH (AO H1 a1) λv2 H3=>
 bO (Aa 0 v0) λv4=>
 bO (Ak false 1 H3 v4) λv5=>
 bO (Aa 0 v2) λv6=>
 bO (Ak false 1 H3 v6) λv7=>
 bP (PCall prog 30 [v5,v7] H3) λv8=>
 bG v8 true λw9=>
 gO w9 (Aa 1 v0) λv10=>
 bG v8 true λw11=>
 gO w11 (Ak false 1 H3 v10) λv12=>
 bG v8 true λw13=>
 gO w13 (Aa 1 v2) λv14=>
 bG v8 true λw15=>
 gO w15 (Ak false 1 H3 v14) λv16=>
 bG v8 true λw17=>
 gP w17 (PCall prog 31 [v12,v16,(.fn (.func 32) [] [])] H3) λv18=>
 bO (Aj v8 v18 (B false)) λv19=>
 K v19 H3
theorem Jo {a0 a1:AV}{H:AH}{K:KT}(h:IR a0 a1 H K):EN 17 [a0,a1] H K:=
 fok AJ EB Fq func17 h
def Ic (a0 a1:AV)(H:AH)(K:KT):Prop:=
 bH (AO H a0) λv0 H1=>
 bO (Aa 0 v0) λv2=>
 bO (Ak false 1 H1 v2) λv3=>
 bP (PCall prog 36 [v3,a1,(.fn (.func 37) [] [])] H1) λv4=>
 bO (A5 v4 0) λv5=>
 bO (A5 v4 1) λv6=>
 K (.tup [v5,v6]) H1
theorem IT {a0 a1:AV}{H:AH}{K:KT}(h:Ic a0 a1 H K):EN 20 [a0,a1] H K:=
 fok AJ EB Fq func20 h
def IV (a0 a1:AV)(H:AH)(K:KT):Prop:=
 bH (AO H a0) λv0 H1=>
 bO (Aa 1 v0) λv2=>
 bO (Ak false 1 H1 v2) λv3=>
 bP (PCall prog 39 [v3,a1,(.fn (.func 40) [] [])] H1) λv4=>
 bO (A5 v4 0) λv5=>
 bO (A5 v4 1) λv6=>
 K (.tup [v5,v6]) H1
theorem Jq {a0 a1:AV}{H:AH}{K:KT}(h:IV a0 a1 H K):EN 22 [a0,a1] H K:=
 fok AJ EB Fq func22 h
def J6 (a0:AV)(H:AH)(K:KT):Prop:=
 bO (Aq .geq a0 (.lit (.int .u8 97))) λv0=>
 bG v0 true λw1=>
 gO w1 (some a0) λv2=>
 bG v0 true λw3=>
 gO w3 (Aq .leq v2 (.lit (.int .u8 122))) λv4=>
 bO (Aj v0 v4 (B false)) λv5=>
 bG v5 false λw6=>
 gO w6 (some a0) λv7=>
 bG v5 false λw8=>
 gO w8 (Aq .geq v7 (.lit (.int .u8 48))) λv9=>
 bG v5 false λw10=>
 gO w10 (some v9) λv11=>
 bG v11 true λw12=>
 gO w12 (some a0) λv13=>
 bG v11 true λw14=>
 gO w14 (Aq .leq v13 (.lit (.int .u8 57))) λv15=>
 bG v5 false λw16=>
 gO w16 (Aj v11 v15 (B false)) λv17=>
 bO (Aj v5 (B true) v17) λv18=>
 bG v18 false λw19=>
 gO w19 (some a0) λv20=>
 bG v18 false λw21=>
 gO w21 (Aq .eql v20 (.lit (.int .u8 46))) λv22=>
 bO (Aj v18 (B true) v22) λv23=>
 bG v23 false λw24=>
 gO w24 (some a0) λv25=>
 bG v23 false λw26=>
 gO w26 (Aq .eql v25 (.lit (.int .u8 95))) λv27=>
 bO (Aj v23 (B true) v27) λv28=>
 bG v28 false λw29=>
 gO w29 (some a0) λv30=>
 bG v28 false λw31=>
 gO w31 (Aq .eql v30 (.lit (.int .u8 45))) λv32=>
 bO (Aj v28 (B true) v32) λv33=>
 K v33 H
theorem Ka {a0:AV}{H:AH}{K:KT}(h:J6 a0 H K):EN 26 [a0] H K:=
 fok AJ EB Fq func26 h
def Dm:Nat→Option (List Bool):=DL [(3,mk 22 0 [1,2,5])]
def D1 (p:List Bool)(n:Nat):List AV→AH→Kf→Prop:=Ax prog AJ EB Ai Ai Dm (sub p (AY f21)) n
def Dl (x1 x2 x5:AV)(H:AH)(K:KT):Prop:=lp (mk 22 0 [1,2,5]) (D1 [tT,fF,tT,fF,fF] 4) [x1,x2,x5] H (Cp 0 (Cw (D1 [tT,tT] 9) (C7 prog f21.results.toList K)))
def CD (R3:RT)(x1 x2 x5:AV)(H:AH)(K:KT):Prop:=
 bO (Aa 0 x2) λv0=>
 bO (Ak false 1 H v0) λv1=>
 bO (Bm v1) λv2=>
 bO (Aq .lss x5 v2) λv3=>
 bB v3 λt4=>bI t4 (
 bO (Aa 0 x2) λv5=>
 bO (Ak false 1 H v5) λv6=>
 bO (Bz 2 v6 x5) λv7=>
 bO (Aa 0 v7) λv8=>
 bO (Ak false 1 H v8) λv9=>
 bO (MT .eql v9 x1) λv10=>
 bB v10 λt11=>bI t11 (
 K x5 H)
 (bO (Aq .add x5 (I 1)) λv12=>
 R3 [x1,x2,v12] H))
 (K (I (-1)) H)
theorem Ed {K:KT}:NJ (λR x1 x2 x5 H=>CD R x1 x2 x5 H K) (λx1 x2 x5 H=>Dl x1 x2 x5 H K):=KL (Ag _ _) (λ_ _ _ _ _=>by kernel_rfl)
def Em (a0 a1:AV)(H:AH)(K:KT):Prop:=
 bH (AO H a0) λv0 H1=>
 Dl a1 v0 (I 0) H1 K
theorem FB {a0 a1:AV}{H:AH}{K:KT}(h:Em a0 a1 H K):EN 21 [a0,a1] H K:=
 fok AJ EB Dm func21 h
def D3:Nat→Option (List Bool):=DL [(3,mk 22 0 [1,2,5])]
def DU (p:List Bool)(n:Nat):List AV→AH→Kf→Prop:=Ax prog AJ EB Ai Ai D3 (sub p (AY f24)) n
def D2 (x1 x2 x5:AV)(H:AH)(K:KT):Prop:=lp (mk 22 0 [1,2,5]) (DU [tT,fF,tT,fF,fF] 4) [x1,x2,x5] H (Cp 0 (Cw (DU [tT,tT] 9) (C7 prog f24.results.toList K)))
def CP (R3:RT)(x1 x2 x5:AV)(H:AH)(K:KT):Prop:=
 bO (Aa 1 x2) λv0=>
 bO (Ak false 1 H v0) λv1=>
 bO (Bm v1) λv2=>
 bO (Aq .lss x5 v2) λv3=>
 bB v3 λt4=>bI t4 (
 bO (Aa 1 x2) λv5=>
 bO (Ak false 1 H v5) λv6=>
 bO (Bz 3 v6 x5) λv7=>
 bO (Aa 0 v7) λv8=>
 bO (Ak false 1 H v8) λv9=>
 bO (Aq .eql v9 x1) λv10=>
 bB v10 λt11=>bI t11 (
 K x5 H)
 (bO (Aq .add x5 (I 1)) λv12=>
 R3 [x1,x2,v12] H))
 (K (I (-1)) H)
theorem Ew {K:KT}:NJ (λR x1 x2 x5 H=>CP R x1 x2 x5 H K) (λx1 x2 x5 H=>D2 x1 x2 x5 H K):=KL (Ag _ _) (λ_ _ _ _ _=>by kernel_rfl)
def EJ (a0 a1:AV)(H:AH)(K:KT):Prop:=
 bH (AO H a0) λv0 H1=>
 D2 a1 v0 (I 0) H1 K
theorem Gg {a0 a1:AV}{H:AH}{K:KT}(h:EJ a0 a1 H K):EN 24 [a0,a1] H K:=
 fok AJ EB D3 func24 h
def F6:Nat→Option (List Bool):=DL [(7,mk 58 0 [0,4,11,12,13])]
def Gu (p:List Bool)(n:Nat):List AV→AH→Kf→Prop:=Ax prog AJ EB Ai Ai F6 (sub p (AY f27)) n
def F5 (x0 x4 x11 x12 x13:AV)(H:AH)(K:KT):Prop:=lp (mk 58 0 [0,4,11,12,13]) (Gu [tT,tT,tT,fF,tT,fF,fF] 8) [x0,x4,x11,x12,x13] H (Cp 0 (Cw (Gu [tT,tT,tT,tT] 15) (C7 prog f27.results.toList K)))
def E7 (R7:RT)(x0 x4 x11 x12 x13:AV)(H:AH)(K:KT):Prop:=
 bO (Aq .lss x13 x12) λv0=>
 bB v0 λt1=>bI t1 (
 bO (Bz 2 x11 x13) λv2=>
 bO (Ak true 2 H v2) λv3=>
 bH (AO H (.agg [(.lit (.string ⟨#[]⟩)),(I 0)])) λv4 H5=>
 bS (Ex 2 H5 v4 v3) λH6=>
 bO (Aa 0 v4) λv7=>
 bO (Ak false 1 H6 v7) λv8=>
 bP (BPure prog 10 [v8]) λv9=>
 bO (Iu .not v9) λv10=>
 bG v10 false λw11=>
 gO w11 (some x13) λv12=>
 bG v10 false λw13=>
 gO w13 (Aq .gtr v12 (I 0)) λv14=>
 bG v10 false λw15=>
 gO w15 (some v14) λv16=>
 bG v16 true λw17=>
 gO w17 (some x0) λv18=>
 bG v16 true λw19=>
 gO w19 (some x13) λv20=>
 bG v16 true λw21=>
 gO w21 (Aq .sub v20 (I 1)) λv22=>
 bG v16 true λw23=>
 gO w23 (Bz 2 v18 v22) λv24=>
 bG v16 true λw25=>
 gO w25 (Aa 0 v24) λv26=>
 bG v16 true λw27=>
 gO w27 (Ak false 1 H6 v26) λv28=>
 bG v16 true λw29=>
 gO w29 (Aa 0 v4) λv30=>
 bG v16 true λw31=>
 gO w31 (Ak false 1 H6 v30) λv32=>
 bG v16 true λw33=>
 gO w33 (MT .geq v28 v32) λv34=>
 bG v10 false λw35=>
 gO w35 (Aj v16 v34 (B false)) λv36=>
 bO (Aj v10 (B true) v36) λv37=>
 bG v37 false λw38=>
 gO w38 (Aa 1 v4) λv39=>
 bG v37 false λw40=>
 gO w40 (Ak false 1 H6 v39) λv41=>
 bG v37 false λw42=>
 gO w42 (Aq .lss v41 (I 1)) λv43=>
 bO (Aj v37 (B true) v43) λv44=>
 bG v44 false λw45=>
 gO w45 (Aa 1 v4) λv46=>
 bG v44 false λw47=>
 gO w47 (Ak false 1 H6 v46) λv48=>
 bG v44 false λw49=>
 gO w49 (Aq .gtr v48 (I 4611686018427387904)) λv50=>
 bO (Aj v44 (B true) v50) λv51=>
 bG v51 false λw52=>
 gO w52 (some x4) λv53=>
 bG v51 false λw54=>
 gO w54 (Aa 1 v4) λv55=>
 bG v51 false λw56=>
 gO w56 (Ak false 1 H6 v55) λv57=>
 bG v51 false λw58=>
 gO w58 (NG (.int .i64) (.bool false) H6 v53 v57 false) λv59=>
 bO (Aj v51 (B true) v59) λv60=>
 bB v60 λt61=>bI t61 (
 K (.tup [(.lit (.map none)),(B false)]) H6)
 (bO (Aa 1 v4) λv62=>
 bO (Ak false 1 H6 v62) λv63=>
 bS (Py (.int .i64) H6 x4 v63 (B true)) λH64=>
 bO (Aq .add x13 (I 1)) λv65=>
 R7 [x0,x4,x11,x12,v65] H64))
 (K (.tup [x4,(B true)]) H)
theorem Gc {K:KT}:PB (λR x0 x4 x11 x12 x13 H=>E7 R x0 x4 x11 x12 x13 H K) (λx0 x4 x11 x12 x13 H=>F5 x0 x4 x11 x12 x13 H K):=Oh (Ag _ _) (λ_ _ _ _ _ _ _=>by kernel_rfl)
def Ie (a0:AV)(H:AH)(K:KT):Prop:=
 bO (Bm a0) λv0=>
 bO (Aq .gtr v0 (I 16)) λv1=>
 bB v1 λt2=>bI t2 (
 K (.tup [(.lit (.map none)),(B false)]) H)
 (bH (OU H none) λv3 H4=>
 bO (Bm a0) λv5=>
 F5 a0 v3 a0 v5 (I 0) H4 K)
theorem IU {a0:AV}{H:AH}{K:KT}(h:Ie a0 H K):EN 27 [a0] H K:=
 fok AJ EB F6 func27 h
def Bw:Nat→Option (List Bool):=DL [(6,mk 26 0 [0,1,12,13])]
def By (p:List Bool)(n:Nat):List AV→AH→Kf→Prop:=Ax prog AJ EB Ai Ai Bw (sub p (AY f30)) n
def Bv (x0 x1 x12 x13:AV)(H:AH)(K:KT):Prop:=lp (mk 26 0 [0,1,12,13]) (By [tT,tT,fF,tT,fF,fF] 7) [x0,x1,x12,x13] H (Cp 0 (Cw (By [tT,tT,tT] 13) (C7 prog f30.results.toList K)))
def Bl (R6:RT)(x0 x1 x12 x13:AV)(H:AH)(K:KT):Prop:=
 bO (Aq .lss x13 x12) λv0=>
 bB v0 λt1=>bI t1 (
 bO (Bz 2 x0 x13) λv2=>
 bO (Ak true 2 H v2) λv3=>
 bO (Bz 2 x1 x13) λv4=>
 bO (Ak true 2 H v4) λv5=>
 bO (Ey prog .neq 47 v3 v5) λv6=>
 bB v6 λt7=>bI t7 (
 K (B false) H)
 (bO (Aq .add x13 (I 1)) λv8=>
 R6 [x0,x1,x12,v8] H))
 (K (B true) H)
theorem BU {K:KT}:OG (λR x0 x1 x12 x13 H=>Bl R x0 x1 x12 x13 H K) (λx0 x1 x12 x13 H=>Bv x0 x1 x12 x13 H K):=MB (Ag _ _) (λ_ _ _ _ _ _=>by kernel_rfl)
def B7 (a0 a1:AV)(H:AH)(K:KT):Prop:=
 bO (Bm a0) λv0=>
 bO (Bm a1) λv1=>
 bO (Aq .neq v0 v1) λv2=>
 bB v2 λt3=>bI t3 (
 K (B false) H)
 (bO (Bm a0) λv4=>
 Bv a0 a1 v4 (I 0) H K)
theorem Cx {a0 a1:AV}{H:AH}{K:KT}(h:B7 a0 a1 H K):EN 30 [a0,a1] H K:=
 fok AJ EB Bw func30 h
def As:Nat→Option (List Bool):=DL [(6,mk 32 0 [1,2,15,16,17])]
def Aw (p:List Bool)(n:Nat):List AV→AH→Kf→Prop:=Ax prog AJ EB Ai Ai As (sub p (AY f31)) n
def Ar (x1 x2 x15 x16 x17:AV)(H:AH)(K:KT):Prop:=lp (mk 32 0 [1,2,15,16,17]) (Aw [tT,tT,fF,tT,fF,fF] 7) [x1,x2,x15,x16,x17] H (Cp 0 (Cw (Aw [tT,tT,tT] 14) (C7 prog f31.results.toList K)))
def Ao (R6:RT)(x1 x2 x15 x16 x17:AV)(H:AH)(K:KT):Prop:=
 bO (Aq .lss x17 x16) λv0=>
 bB v0 λt1=>bI t1 (
 bO (Bz 3 x15 x17) λv2=>
 bO (Ak true 3 H v2) λv3=>
 bH (AO H (.agg [(I 0),(I 0),AI])) λv4 H5=>
 bS (Ex 3 H5 v4 v3) λH6=>
 bO (Bz 3 x1 x17) λv7=>
 bO (Ak true 3 H6 v7) λv8=>
 bH (AO H6 (.agg [(I 0),(I 0),AI])) λv9 H10=>
 bS (Ex 3 H10 v9 v8) λH11=>
 bO (Ak true 3 H11 v4) λv12=>
 bO (Ak true 3 H11 v9) λv13=>
 bF true x2 λk16 f16 c16=>
 bT (B0 prog k16||!true)<|
 bC (BJ prog k16 (f16++[v12,v13]++c16) H11) λv14 H15=>
 bO (Iu .not v14) λv17=>
 bB v17 λt18=>bI t18 (
 K (B false) H15)
 (bO (Aq .add x17 (I 1)) λv19=>
 R6 [x1,x2,x15,x16,v19] H15))
 (K (B true) H)
theorem AL {K:KT}:PB (λR x1 x2 x15 x16 x17 H=>Ao R x1 x2 x15 x16 x17 H K) (λx1 x2 x15 x16 x17 H=>Ar x1 x2 x15 x16 x17 H K):=Oh (Ag _ _) (λ_ _ _ _ _ _ _=>by kernel_rfl)
def Az (a0 a1 a2:AV)(H:AH)(K:KT):Prop:=
 bO (Bm a0) λv0=>
 bO (Bm a1) λv1=>
 bO (Aq .neq v0 v1) λv2=>
 bB v2 λt3=>bI t3 (
 K (B false) H)
 (bO (Bm a0) λv4=>
 Ar a1 a2 a0 v4 (I 0) H K)
theorem AX {a0 a1 a2:AV}{H:AH}{K:KT}(h:Az a0 a1 a2 H K):EN 31 [a0,a1,a2] H K:=
 fok AJ EB As func31 h
def GV (a0 a1:AV)(H:AH)(K:KT):Prop:=
 bH (AO H a0) λv0 H1=>
 bH (AO H1 a1) λv2 H3=>
 bO (Aa 0 v0) λv4=>
 bO (Ak false 1 H3 v4) λv5=>
 bO (Aa 0 v2) λv6=>
 bO (Ak false 1 H3 v6) λv7=>
 bO (Aq .eql v5 v7) λv8=>
 bG v8 true λw9=>
 gO w9 (Aa 1 v0) λv10=>
 bG v8 true λw11=>
 gO w11 (Ak true 2 H3 v10) λv12=>
 bG v8 true λw13=>
 gO w13 (Aa 1 v2) λv14=>
 bG v8 true λw15=>
 gO w15 (Ak true 2 H3 v14) λv16=>
 bG v8 true λw17=>
 gP w17 (PCall prog 33 [v12,v16] H3) λv18=>
 bO (Aj v8 v18 (B false)) λv19=>
 K v19 H3
theorem Im {a0 a1:AV}{H:AH}{K:KT}(h:GV a0 a1 H K):EN 32 [a0,a1] H K:=
 fok AJ EB Fq func32 h
def A2:Nat→Option (List Bool):=DL [(4,mk 49 0 [0,1,2,8,9,10])]
def A3 (p:List Bool)(n:Nat):List AV→AH→Kf→Prop:=Ax prog AJ EB Ai Ai A2 (sub p (AY f36)) n
def A1 (x0 x1 x2 x8 x9 x10:AV)(H:AH)(K:KT):Prop:=lp (mk 49 0 [0,1,2,8,9,10]) (A3 [tT,tT,tT,fF,fF,fF] 5) [x0,x1,x2,x8,x9,x10] H (Cp 0 (Cw (A3 [tT,tT,tT,tT] 9) (C7 prog f36.results.toList K)))
def Ay (R4:RT)(x0 x1 x2 x8 x9 x10:AV)(H:AH)(K:KT):Prop:=
 bO (Aq .lss x9 x10) λv0=>
 bB v0 λt1=>bI t1 (
 bO (Aq .add x9 x10) λv2=>
 bO (NF .u64 v2) λv3=>
 bO (Aq .shr v3 (.lit (.int .u64 1))) λv4=>
 bO (NF .i64 v4) λv5=>
 bO (Bz 2 x0 v5) λv6=>
 bO (Ak true 2 H v6) λv7=>
 bF true x2 λk10 f10 c10=>
 bT (B0 prog k10||!true)<|
 bC (BJ prog k10 (f10++[v7,x1]++c10) H) λv8 H9=>
 bO (Aq .lss v8 (I 0)) λv11=>
 bB v11 λt12=>bI t12 (
 bO (Aq .add v5 (I 1)) λv13=>
 R4 [x0,x1,x2,x8,v13,x10] H9)
 (R4 [x0,x1,x2,x8,x9,v5] H9))
 (bO (Aq .lss x9 x8) λv14=>
 bG v14 true λw15=>
 gO w15 (some x2) λv16=>
 bG v14 true λw17=>
 gO w17 (some x0) λv18=>
 bG v14 true λw19=>
 gO w19 (some x9) λv20=>
 bG v14 true λw21=>
 gO w21 (Bz 2 v18 v20) λv22=>
 bG v14 true λw23=>
 gO w23 (Ak true 2 H v22) λv24=>
 bG v14 true λw25=>
 gO w25 (some x1) λv26=>
 bG v14 true λw27=>
 bF w27 v16 λk30 f30 c30=>
 bT (B0 prog k30||!w27)<|
 gC w27 (BJ prog k30 (f30++[v24,v26]++c30) H) H λv28 H29=>
 bG v14 true λw31=>
 gO w31 (Aq .eql v28 (I 0)) λv32=>
 bO (Aj v14 v32 (B false)) λv33=>
 K (.tup [x9,v33]) H29)
theorem AW {K:KT}:QU (λR x0 x1 x2 x8 x9 x10 H=>Ay R x0 x1 x2 x8 x9 x10 H K) (λx0 x1 x2 x8 x9 x10 H=>A1 x0 x1 x2 x8 x9 x10 H K):=Qn (Ag _ _) (λ_ _ _ _ _ _ _ _=>by kernel_rfl)
def A7 (a0 a1 a2:AV)(H:AH)(K:KT):Prop:=
 bO (Bm a0) λv0=>
 A1 a0 a1 a2 v0 (I 0) v0 H K
theorem Bo {a0 a1 a2:AV}{H:AH}{K:KT}(h:A7 a0 a1 a2 H K):EN 36 [a0,a1,a2] H K:=
 fok AJ EB A2 func36 h
def Gt (a0 a1:AV)(H:AH)(K:KT):Prop:=
 bH (AO H a0) λv0 H1=>
 bO (Aa 0 v0) λv2=>
 bO (Ak false 1 H1 v2) λv3=>
 bP (PCall prog 38 [v3,a1] H1) λv4=>
 K v4 H1
theorem HG {a0 a1:AV}{H:AH}{K:KT}(h:Gt a0 a1 H K):EN 37 [a0,a1] H K:=
 fok AJ EB Fq func37 h
def Fo (a0 a1:AV)(H:AH)(K:KT):Prop:=
 bP (PCall prog 51 [a0,a1] H) λv0=>
 K v0 H
theorem G9 {a0 a1:AV}{H:AH}{K:KT}(h:Fo a0 a1 H K):EN 38 [a0,a1] H K:=
 fok AJ EB Fq func38 h
def A9:Nat→Option (List Bool):=DL [(4,mk 49 0 [0,1,2,8,9,10])]
def AB (p:List Bool)(n:Nat):List AV→AH→Kf→Prop:=Ax prog AJ EB Ai Ai A9 (sub p (AY f39)) n
def A8 (x0 x1 x2 x8 x9 x10:AV)(H:AH)(K:KT):Prop:=lp (mk 49 0 [0,1,2,8,9,10]) (AB [tT,tT,tT,fF,fF,fF] 5) [x0,x1,x2,x8,x9,x10] H (Cp 0 (Cw (AB [tT,tT,tT,tT] 9) (C7 prog f39.results.toList K)))
def A4 (R4:RT)(x0 x1 x2 x8 x9 x10:AV)(H:AH)(K:KT):Prop:=
 bO (Aq .lss x9 x10) λv0=>
 bB v0 λt1=>bI t1 (
 bO (Aq .add x9 x10) λv2=>
 bO (NF .u64 v2) λv3=>
 bO (Aq .shr v3 (.lit (.int .u64 1))) λv4=>
 bO (NF .i64 v4) λv5=>
 bO (Bz 3 x0 v5) λv6=>
 bO (Ak true 3 H v6) λv7=>
 bF true x2 λk10 f10 c10=>
 bT (B0 prog k10||!true)<|
 bC (BJ prog k10 (f10++[v7,x1]++c10) H) λv8 H9=>
 bO (Aq .lss v8 (I 0)) λv11=>
 bB v11 λt12=>bI t12 (
 bO (Aq .add v5 (I 1)) λv13=>
 R4 [x0,x1,x2,x8,v13,x10] H9)
 (R4 [x0,x1,x2,x8,x9,v5] H9))
 (bO (Aq .lss x9 x8) λv14=>
 bG v14 true λw15=>
 gO w15 (some x2) λv16=>
 bG v14 true λw17=>
 gO w17 (some x0) λv18=>
 bG v14 true λw19=>
 gO w19 (some x9) λv20=>
 bG v14 true λw21=>
 gO w21 (Bz 3 v18 v20) λv22=>
 bG v14 true λw23=>
 gO w23 (Ak true 3 H v22) λv24=>
 bG v14 true λw25=>
 gO w25 (some x1) λv26=>
 bG v14 true λw27=>
 bF w27 v16 λk30 f30 c30=>
 bT (B0 prog k30||!w27)<|
 gC w27 (BJ prog k30 (f30++[v24,v26]++c30) H) H λv28 H29=>
 bG v14 true λw31=>
 gO w31 (Aq .eql v28 (I 0)) λv32=>
 bO (Aj v14 v32 (B false)) λv33=>
 K (.tup [x9,v33]) H29)
theorem Bg {K:KT}:QU (λR x0 x1 x2 x8 x9 x10 H=>A4 R x0 x1 x2 x8 x9 x10 H K) (λx0 x1 x2 x8 x9 x10 H=>A8 x0 x1 x2 x8 x9 x10 H K):=Qn (Ag _ _) (λ_ _ _ _ _ _ _ _=>by kernel_rfl)
def AF (a0 a1 a2:AV)(H:AH)(K:KT):Prop:=
 bO (Bm a0) λv0=>
 A8 a0 a1 a2 v0 (I 0) v0 H K
theorem Bx {a0 a1 a2:AV}{H:AH}{K:KT}(h:AF a0 a1 a2 H K):EN 39 [a0,a1,a2] H K:=
 fok AJ EB A9 func39 h
def GY (a0 a1:AV)(H:AH)(K:KT):Prop:=
 bH (AO H a0) λv0 H1=>
 bO (Aa 0 v0) λv2=>
 bO (Ak false 1 H1 v2) λv3=>
 bP (PCall prog 41 [v3,a1] H1) λv4=>
 K v4 H1
theorem Io {a0 a1:AV}{H:AH}{K:KT}(h:GY a0 a1 H K):EN 40 [a0,a1] H K:=
 fok AJ EB Fq func40 h
end Go.Proofs.Ytijoffokpjbnjaa.Av
end
namespace Go.Proofs.Ytijoffokpjbnjaa.Av
open Go Go.RowKit Go.Proofs.Try
section
structure Nm where
 name:List UInt8
 ino:Int
 deriving DecidableEq
def Co (x:Nm):List AV:=[S (Bh x.name),I x.ino]
theorem Bj (x:Nm):(Co x).length=2:=rfl
theorem Ig (x:Nm):Ac (Co x)=true:=rfl
structure Nd where
 ino:Int
 size:Int
 l:List Ext
 deriving DecidableEq
structure NdV where
 nd:Nd
 R:AV
 h:SV Bi 9 nd.l R
abbrev NdV.ino (x:NdV):Int:=x.nd.ino
def BA (x:NdV):List AV:=[I x.nd.ino,I x.nd.size,x.R]
theorem AZ (x:NdV):(BA x).length=3:=rfl
theorem F8 (x:NdV):Ac (BA x)=true:=by simp[BA,Ac,noIds,x.h.1]
theorem G4 (x:Nm)(t:List AV):(Co x++t)[0]?=some (S (Bh x.name)):=rfl
theorem JV (x:Nm)(t:List AV):(Co x++t)[1]?=some (I x.ino):=rfl
theorem Lw (x:NdV)(t:List AV):(BA x++t)[0]?=some (I x.nd.ino):=rfl
theorem Lx (x:NdV)(t:List AV):(BA x++t)[2]?=some x.R:=rfl
theorem ID (x:NdV)(t:List AV):Ae true 2 (BA x++t) 1=some (.agg [I x.nd.size,x.R]):=by simp[Ae,BA]
theorem koI:KO Dg where
 eq a b:=by unfold Dg;split<;>(try split)<;>omega
 anti a b:=by unfold Dg;split<;>(try split)<;>(try split)<;>omega
 trans a b d:=by unfold Dg;intro h1 h2;split at h1<;>split at h2<;>(try split at h1)<;>(try split at h2)<;>split<;>omega
theorem GH {a b:Int}:Dg a b<0↔a<b:=by unfold Dg;split<;>(try split)<;>omega
theorem SV.oneA {α:Type}{enc:α→List AV}{sz:Nat}{l:List α}{v:AV}(h:SV enc sz l v):oneA v=true:=by
 have h2:=h.2 [];unfold Ab at h2;split at h2
 all_goals first | rfl | cases h2
def EW (y:UInt8):Prop:=(97≤(y.toNat:Int)∧(y.toNat:Int)≤122)∨(48≤(y.toNat:Int)∧(y.toNat:Int)≤57)∨(y.toNat:Int)=46∨(y.toNat:Int)=95∨(y.toNat:Int)=45
instance (y:UInt8):Decidable (EW y):=by unfold EW;infer_instance
def CT (s:List UInt8):Prop:=s≠[]∧s.length≤20∧s[0]?≠some 45∧∀b∈s,EW b
instance (s:List UInt8):Decidable (CT s):=by unfold CT;infer_instance
theorem Qp (y:UInt8):BPure prog 26 [.lit (.int .u8 y.toNat)] (B (decide (EW y))):=BPure.flat λH=>Ka (by
 unfold J6;unfold EW
 by_cases c1:(97:Int)≤y.toNat
 ·by_cases c2:(y.toNat:Int)≤122
  ·simp[c1,c2]
  ·have e1:¬(y.toNat:Int)≤57:=by omega
   have e2:¬(y.toNat:Int)=46:=by omega
   have e3:¬(y.toNat:Int)=95:=by omega
   have e4:¬(y.toNat:Int)=45:=by omega
   simp[c1,c2,e1,e2,e3,e4,show(48:Int)≤y.toNat by omega]
 ·by_cases c2:(48:Int)≤y.toNat
  ·by_cases c3:(y.toNat:Int)≤57
   ·simp[c1,c2,c3]
   ·by_cases c4:(y.toNat:Int)=95
    ·simp[c1,c2,c3,c4]
    ·have e2:¬(y.toNat:Int)=46:=by omega
     have e4:¬(y.toNat:Int)=45:=by omega
     simp[c1,c2,c3,c4,e2,e4]
  ·by_cases c4:(y.toNat:Int)=46
   ·simp[c1,c2,c4]
   ·by_cases c5:(y.toNat:Int)=95
    ·simp[c1,c2,c4,c5]
    ·by_cases c6:(y.toNat:Int)=45
     ·simp[c1,c2,c4,c5,c6]
     ·simp[c1,c2,c4,c5,c6])
theorem Re {y:UInt8}{k:UInt8}{n:Int}(h:(k.toNat:Int)=n):((y.toNat:Int)=n)=(y=k):=by
 refine propext ⟨λe=>UInt8.toNat_inj.1 (by omega),λe=>by rw[e];exact h⟩
theorem Jx {s:List UInt8}(hs:s.length≤9223372036854775807):BPure prog 10 [S (Bh s)] (B (decide (CT s))):=BPure.flat λH=>HF (by
 unfold Gq;rw[IA,LN,Hs hs]
 have hl:∀t:List UInt8,t=s→0<t.length→t.length≤20→t[0]?≠some 45→CS (S (Bh t)) (I t.length) (I 0) H λr H'=>r=B (decide (CT t))∧H'=H:=by
  intro t _ h0 h20 h45;refine Fp (λn x0 x17 x18 H'=>∃k:Nat,k+n=t.length∧x0=S (Bh t)∧x17=I t.length∧x18=I k∧H'=H∧∀m y,m<k→t[m]?=some y→EW y) ?_ t.length ⟨0,by omega,rfl,rfl,rfl,rfl,by omega⟩;rintro n x0 x17 x18 H' R hR ⟨k,hk,rfl,rfl,rfl,rfl,hb⟩;unfold DK;rcases Ry k t.length with h | h
  ·have hx:=Cq h
   generalize t[k]=y at hx;simp[h,Hp rfl hx];refine Al (Qp y) ?_
   by_cases hy:EW y
   ·simp[hy,Am (a:=k) (b:=1) (by omega) (by omega)]
    refine hR (n - 1) _ _ _ _ (by omega) ⟨k+1,by omega,rfl,rfl,by simp,rfl,?_⟩;intro m z hm hz
    by_cases c:m=k
    ·rw[c,hx]at hz;injection hz with hz;rw[← hz];exact hy
    ·exact hb m z (by omega) hz
   ·have:¬CT t:=λhm=>hy (hm.2.2.2 y (Rw hx))
    simp[hy,this]
  ·have:CT t:=⟨λe=>by rw[e]at h0;simp at h0,h20,h45,λb hb'=>by
    obtain⟨m,hm⟩:=RE.1 hb'
    have:=(Et.1 hm).1
    exact hb m b (by omega) hm⟩
   simp[show ¬k<t.length by omega,this]
 by_cases h0:s=[]
 ·subst h0
  simp[CT]
 ·have hlen:0<s.length:=List.length_pos_iff.2 h0
  by_cases h1:s.length≤20
  ·have hx:=Cq hlen
   have e20:¬(20:Int)<s.length:=by omega
   generalize s[0]=y at hx;simp[h0,CR,e20,Hp (k:=0) (i:=0) rfl hx];have e45:((y.toNat:Int)=45)=(y=45):=Re rfl
   by_cases h2:(y.toNat:Int)=45
   ·have:¬CT s:=λhm=>hm.2.2.1 (by rw[hx,e45.mp h2])
    simp[h2,this]
   ·simp[h2]
    exact hl s rfl hlen h1 (by rw[hx];intro e;injection e with e;exact h2 (e45.mpr e))
  ·have e20:(20:Int)<s.length:=by omega
   have:¬CT s:=λhm=>h1 hm.2.1
   simp[h0,CR,e20,this])
theorem Mn (a b:List UInt8):BPure prog 38 [S (Bh a),S (Bh b)] (I (Bq a b)):=BPure.flat λH=>G9 (by
 unfold Fo;exact Al (λH=>by have:=compareString_calls (Bh a) (Bh b) H;exact this) ⟨rfl,rfl⟩)
theorem KN (x:Nm)(s:List UInt8):BPure prog 37 [.agg (Co x),S (Bh s)] (I (Bq x.name s)):=BPure.val (by simp[Ac,noIds,Ig]) rfl (HG (by
 unfold Gt;unfold Co;simp;refine Al (Mn x.name s) ?_
 rfl))
theorem Mf (x:NdV)(no:Int):BPure prog 40 [.agg (BA x),I no] (I (Dg x.nd.ino no)):=BPure.val (by simp[Ac,noIds,F8]) rfl (Io (by
 unfold GY;unfold BA;have h1:=SV.oneA x.h;simp[h1];refine Al (Jj x.nd.ino no) ?_
 rfl))
theorem JE (x:Nm)(t:List AV):Ae true 2 (Co x++t) 0=some (.agg (Co x)):=by
 simp[Ae,Co]
theorem KV (x:NdV)(t:List AV):Ae true 3 (BA x++t) 0=some (.agg (BA x)):=by
 simp[Ae,BA]
theorem O6:B0 prog 37=true:=by kernel_rfl
theorem Pw {l:List Nm}{v:AV}(hv:SV Co 2 l v)(hs:Dw Bq Nm.name l)(hl:l.length≤281474976710656)(no:List UInt8):
  BPure prog 36 [v,S (Bh no),.fn (.func 37) [] []] (.tup [I (E9 Bq Nm.name l no),B (decide (Ba Nm.name l no))]):=BPure.val (by simp[Ac,noIds,hv.1]) rfl (Bo (by
 unfold A7;simp[hv.len];refine AW (λn x0 x1 x2 x8 x9 x10 H'=>∃i j:Nat,i+n=j∧j≤l.length∧x0=v∧x1=S (Bh no)∧x2=.fn (.func 37) [] []∧x8=I l.length∧x9=I i∧x10=I j∧H'=[]∧(∀m x,m<i→l[m]?=some x→Bq (Nm.name x) no<0)∧(∀m x,j≤m→l[m]?=some x→¬Bq (Nm.name x) no<0)) ?_ l.length ⟨0,l.length,by simp,by omega,rfl,rfl,rfl,rfl,rfl,rfl,rfl,by simp,λm x hm hx=>by have:=(Et.1 hx).1;omega⟩;rintro n x0 x1 x2 x8 x9 x10 H' R hR ⟨i,j,hij,hj,rfl,rfl,rfl,rfl,rfl,rfl,rfl,h1,h2⟩;unfold Ay;rcases Ry i j with hlt | hge
 ·have hx:=Cq (l:=l) (i:=(i+j)/2) (by omega)
  generalize l[(i + j) / 2]'(by omega)=y at hx;simp [hlt,Am (a:=i) (b:=j) (by omega) (by omega),LP (n:=(i : Int) + j) (by omega) (by omega),Kt,LO (a:=((i : Int) + j) / 2) (by omega) (by omega),hv.idx Bj hx (i:=((i : Int) + j) / 2) (by omega),O6,JE];refine bC_of (KN y no []) ?_
  by_cases c1:Bq (Nm.name y) no<0
  ·simp[c1,Am (a:=((i:Int)+j)/2) (b:=1) (by omega) (by omega)]
   refine hR (j - ((i+j)/2+1)) _ _ _ _ _ _ _ (by omega) ⟨(i+j)/2+1,j,by omega,hj,rfl,rfl,rfl,rfl,by simp,rfl,rfl,?_,h2⟩;intro m x hm hmx
   by_cases hm2:m=(i+j)/2
   ·rw[hm2,hx]at hmx;injection hmx with e;rw[← e];exact c1
   ·exact koN.trans _ _ _ (DX hs hmx hx (by omega)) c1
  ·simp[c1]
   refine hR ((i+j)/2 - i) _ _ _ _ _ _ _ (by omega) ⟨i,(i+j)/2,by omega,by omega,rfl,rfl,rfl,rfl,rfl,by simp,rfl,h1,?_⟩;intro m x hm hmx
   by_cases hm2:m=(i+j)/2
   ·rw[hm2,hx]at hmx;injection hmx with e;rw[← e];exact c1
   ·intro c2
    exact c1 (koN.trans _ _ _ (DX hs hx hmx (by omega)) c2)
 ·have hi:i=j:=by omega
  subst hi;have hp:E9 Bq Nm.name l no=i:=Iz (by omega) h1 (λx hx=>h2 i x (by omega) hx);rcases Ry i l.length with hil | hil
  ·have hx:=Cq (l:=l) (i:=i) hil
   generalize l[i]=y at hx
   have hh:Ba Nm.name l no↔Bq (Nm.name y) no=0:=by
    rw[F3 koN hs,hp,koN.eq]
    constructor
    ·rintro⟨z,hz,e⟩
     rw[hx]at hz;injection hz with hz;rw[hz,e]
    ·intro e
     exact⟨y,hx,e⟩
   simp[hil,hv.idx Bj hx rfl,O6,JE];refine bC_of (KN y no []) ?_;simp[hp,hh]
  ·have hn:¬Ba Nm.name l no:=by
    rw[F3 koN hs,hp];rintro⟨z,hz,e⟩
    have:=(Et.1 hz).1
    omega
   simp[show ¬i<l.length by omega,hp,hn]))
theorem O5:B0 prog 40=true:=by kernel_rfl
theorem Pv {l:List NdV}{v:AV}(hv:SV BA 3 l v)(hs:Dw Dg NdV.ino l)(hl:l.length≤281474976710656)(no:Int):
  BPure prog 39 [v,I no,.fn (.func 40) [] []] (.tup [I (E9 Dg NdV.ino l no),B (decide (Ba NdV.ino l no))]):=BPure.val (by simp[Ac,noIds,hv.1]) rfl (Bx (by
 unfold AF;simp[hv.len];refine Bg (λn x0 x1 x2 x8 x9 x10 H'=>∃i j:Nat,i+n=j∧j≤l.length∧x0=v∧x1=I no∧x2=.fn (.func 40) [] []∧x8=I l.length∧x9=I i∧x10=I j∧H'=[]∧(∀m x,m<i→l[m]?=some x→Dg (NdV.ino x) no<0)∧(∀m x,j≤m→l[m]?=some x→¬Dg (NdV.ino x) no<0)) ?_ l.length ⟨0,l.length,by simp,by omega,rfl,rfl,rfl,rfl,rfl,rfl,rfl,by simp,λm x hm hx=>by have:=(Et.1 hx).1;omega⟩;rintro n x0 x1 x2 x8 x9 x10 H' R hR ⟨i,j,hij,hj,rfl,rfl,rfl,rfl,rfl,rfl,rfl,h1,h2⟩;unfold A4;rcases Ry i j with hlt | hge
 ·have hx:=Cq (l:=l) (i:=(i+j)/2) (by omega)
  generalize l[(i + j) / 2]'(by omega)=y at hx;simp [hlt,Am (a:=i) (b:=j) (by omega) (by omega),LP (n:=(i : Int) + j) (by omega) (by omega),Kt,LO (a:=((i : Int) + j) / 2) (by omega) (by omega),hv.idx AZ hx (i:=((i : Int) + j) / 2) (by omega),O5,KV];refine bC_of (Mf y no []) ?_
  by_cases c1:Dg (NdV.ino y) no<0
  ·simp[c1,Am (a:=((i:Int)+j)/2) (b:=1) (by omega) (by omega)]
   refine hR (j - ((i+j)/2+1)) _ _ _ _ _ _ _ (by omega) ⟨(i+j)/2+1,j,by omega,hj,rfl,rfl,rfl,rfl,by simp,rfl,rfl,?_,h2⟩;intro m x hm hmx
   by_cases hm2:m=(i+j)/2
   ·rw[hm2,hx]at hmx;injection hmx with e;rw[← e];exact c1
   ·exact koI.trans _ _ _ (DX hs hmx hx (by omega)) c1
  ·simp[c1]
   refine hR ((i+j)/2 - i) _ _ _ _ _ _ _ (by omega) ⟨i,(i+j)/2,by omega,by omega,rfl,rfl,rfl,rfl,rfl,by simp,rfl,h1,?_⟩;intro m x hm hmx
   by_cases hm2:m=(i+j)/2
   ·rw[hm2,hx]at hmx;injection hmx with e;rw[← e];exact c1
   ·intro c2
    exact c1 (koI.trans _ _ _ (DX hs hx hmx (by omega)) c2)
 ·have hi:i=j:=by omega
  subst hi;have hp:E9 Dg NdV.ino l no=i:=Iz (by omega) h1 (λx hx=>h2 i x (by omega) hx);rcases Ry i l.length with hil | hil
  ·have hx:=Cq (l:=l) (i:=i) hil
   generalize l[i]=y at hx
   have hh:Ba NdV.ino l no↔Dg (NdV.ino y) no=0:=by
    rw[F3 koI hs,hp,koI.eq]
    constructor
    ·rintro⟨z,hz,e⟩
     rw[hx]at hz;injection hz with hz;rw[hz,e]
    ·intro e
     exact⟨y,hx,e⟩
   simp[hil,hv.idx AZ hx rfl,O5,KV];refine bC_of (Mf y no []) ?_;simp[hp,hh]
  ·have hn:¬Ba NdV.ino l no:=by
    rw[F3 koI hs,hp];rintro⟨z,hz,e⟩
    have:=(Et.1 hz).1
    omega
   simp[show ¬i<l.length by omega,hp,hn]))
def Hz (ps:List (Int×AV)):List (Value×AV):=ps.map λp=>(.int .i64 p.1,p.2)
def KK (z:AV)(ps:List (Int×AV))(k:Int):AV:=match ps.find? (λp=>p.1==k)with
 | some p=>p.2
 | none=>z
theorem N8 (a b:Int):Instr.sameNow (.int .i64) (.int .i64 a) (.int .i64 b)=some (a==b):=rfl
theorem H7 (k:Int):∀(ps:List (Int×AV)) (i:Nat),E2 (.int .i64) (.int .i64 k) (Hz ps) i=some ((ps.findIdx? (λp=>p.1==k)).bind λj=>(ps[j]?).map λp=>(i+j,p.2))
 | [],i=>rfl
 | p::ps,i=>by
  show(match Instr.sameNow (.int .i64) (.int .i64 k) (.int .i64 p.1)with
   | some true=>some (some (i,p.2))
   | some false=>E2 (.int .i64) (.int .i64 k) (Hz ps) (i+1)
   | none=>none)=_
  rw[N8,List.findIdx?_cons]
  by_cases h:p.1=k
  ·have h':(k==p.1)=true:=by simp[h]
   have h2:(p.1==k)=true:=by simp[h]
   simp[h',h2]
  ·have h':(k==p.1)=false:=by simp;omega
   have h2:(p.1==k)=false:=by simp[h]
   simp only[h',h2];rw[H7 k ps (i+1)];cases ps.findIdx? (λp=>p.1==k)with
   | none=>rfl
   | some j=>
    simp;cases ps[j]? with
    | none=>rfl
    | some q=>simp;omega
abbrev Sr:=@List.findIdx?_eq_none_iff
theorem MA {z:AV}{ps:List (Int×AV)}{k:Int}(h:ps.findIdx? (λp=>p.1==k)=none):KK z ps k=z:=by
 have:ps.find? (λp=>p.1==k)=none:=by
  rw[List.find?_eq_none];intro x hx;rw[Sr]at h
  simpa using h x hx
 unfold KK;rw[this]
abbrev Ss:=@List.findIdx?_eq_some_iff_getElem
theorem JB {z:AV}{ps:List (Int×AV)}{k:Int}{j:Nat}(h:ps.findIdx? (λp=>p.1==k)=some j):∃p,ps[j]?=some p∧p.1=k∧KK z ps k=p.2:=by
 obtain⟨h1,h2,h3⟩:=Ss.1 h;refine⟨ps[j],Cq h1,by simpa using h2,?_⟩
 have:ps.find? (λp=>p.1==k)=some ps[j]:=by
  rw[List.find?_eq_some_iff_getElem];exact⟨h2,j,h1,rfl,λi hi=>by simpa using h3 i hi⟩
 unfold KK;rw[this]
theorem LS {H:AH}{o:Nat}{zv:Value}{ps:List (Int×AV)}{k:Int}(h:H[o]?=some (some (.map (Hz ps)))):NG (.int .i64) zv H (.mp o) (.lit (.int .i64 k)) false=some (KK (.ofV zv) ps k):=by
 have hk:Js (.int .i64) (.int .i64 k)=true:=rfl;unfold NG GK;simp only[h,hk,if_true,H7];cases hf:ps.findIdx? (λp=>p.1==k)with
 | none=>rw[MA hf];rfl
 | some j=>
  obtain⟨p,h1,h2,h3⟩:=JB (z:=.ofV zv) hf;simp[h1,h3]
def Oo (ps:List (Int×AV))(k:Int)(v:AV):List (Int×AV):=match ps.findIdx? (λp=>p.1==k)with
 | some j=>ps.set j (k,v)
 | none=>ps++[(k,v)]
theorem NW {H:AH}{o:Nat}{ps:List (Int×AV)}{k:Int}{v:AV}(h:H[o]?=some (some (.map (Hz ps)))):Py (.int .i64) H (.mp o) (.lit (.int .i64 k)) v=some (H.set o (some (.map (Hz (Oo ps k v))))):=by
 have hk:Js (.int .i64) (.int .i64 k)=true:=rfl;unfold Py Oo;simp only[h,hk,if_true,H7];cases hf:ps.findIdx? (λp=>p.1==k)with
 | none=>simp[Hz]
 | some j=>
  obtain⟨p,h1,h2,h3⟩:=JB (z:=.junk) hf;simp[h1,Hz,List.map_set]
def inC (size:Int)(l:List Ext)(pos n:Int):Prop:=Dp size l∧0≤pos∧0≤n∧n≤4096∧pos<size
instance (size:Int) (l:List Ext) (pos n:Int):Decidable (inC size l pos n):=by unfold inC;infer_instance
theorem LB {v:AV}(h:EX v=true):oneA v=true:=by
 unfold EX at h;split at h
 ·rfl
 ·rfl
 ·rfl
 ·cases h
def Grew (H H':AH):Prop:=H.length≤H'.length∧∀i,i<H.length→H'[i]?=H[i]?
theorem Grew.refl (H:AH):Grew H H:=⟨Rx _,λ_ _=>rfl⟩
theorem Grew.trans {A B C:AH}(h:Grew A B)(k:Grew B C):Grew A C:=⟨St h.1 k.1,λi hi=>(k.2 i (RZ hi h.1)).trans (h.2 i hi)⟩
theorem Grew.app (H X:AH):Grew H (H++X):=⟨by simp,λi hi=>Rz hi⟩
theorem Grew.cells {H H':AH}(h:Grew H H'){o:Nat}{x:Option AObj}(ho:H[o]?=some x):H'[o]?=some x:=by
 rw[h.2 o (Et.1 ho).1];exact ho
theorem Grew.slice {H H':AH}(h:Grew H H'){sz:Nat}{v:AV}{q:List AV×Nat}(hv:Ab H sz v=some q):Ab H' sz v=some q:=
 Fm hv λi hi=>h.2 i (Jv hv i hi)
theorem LA {H:AH}{sz:Nat}{v:AV}{cs:List AV}{n:Nat}(h:Ab H sz v=some (cs,n)):(v=AI∧cs=[]∧n=0)∨NP .eql Jt v AI=some (B false):=by
 unfold Ab at h;split at h
 ·exact .inr rfl
 ·exact .inr rfl
 ·injection h with h;injection h with h1 h2;exact .inl ⟨rfl,h1.symm,h2.symm⟩
 ·exact .inr rfl
 ·cases h
theorem KA {H:AH}{v:AV}{cs:List AV}{n:Nat}(h:Ab H 9 v=some (cs,n))(hn:n≤1000000000):
  ∃r H',(EX r=true∧Ab H' 9 r=some (cs,n)∧Grew H H'∧∀i∈HC r,H.length≤i)∧BJ prog 42 [v] H r H':=CE (by
 unfold BF;rcases LA h with⟨rfl,rfl,rfl⟩ | hb
 ·have e:NP .eql Jt AI AI=some (B true):=rfl
  simp only[e,B8,ES,Ix];exact⟨rfl,h,Grew.refl H,by simp[HC]⟩
 ·simp only[hb,B8,ES,I9]
  have e:MU H 9 0 (Ee [(I 0),u0Z,u0Z,u0Z,u0Z,u0Z,u0Z,u0Z,u0Z] 0) []=some (.sl H.length 0 0 9 (.ex 0),H++[some (.cells [])]):=rfl;simp only[e,GF];have g:=Grew.app H [some (.cells [])];obtain⟨r,H2,a1,a2,a3,a4,a5,a6⟩:=Kq (sz:=9) (bytes:=16) (H:=H++[some (.cells [])]) (v:=.sl H.length 0 0 9 (.ex 0)) (cs:=[]) (n:=0) (by simp[Ab]) rfl (Fx (g.slice h)) (by omega);simp only[a1,GF];refine⟨a2,by simpa using a3,⟨by simp at a4;omega,λi hi=>?_⟩,λi hi=>?_⟩
  ·rw[a5 i (by simp;omega) (by simp[HC];omega)]
   exact g.2 i hi
  ·rcases a6 i hi with h | h
   ·simp[HC]at h;omega
   ·simp at h;omega)
section
variable {κ α : Type} {c : κ→κ→Int} {key : α→κ}
abbrev SH:=@List.pairwise_append
abbrev S5:=@List.getLast?_eq_getElem?
theorem FX (hc:KO c){l:List α}{x:α}:Dw c key (l++[x])↔Dw c key l∧∀y,l.getLast?=some y→c (key y) (key x)<0:=by
 unfold Dw;rw[SH]
 constructor
 ·rintro⟨h1,-,h3⟩
  exact⟨h1,λy hy=>h3 y (List.mem_of_getLast? hy) x (by simp)⟩
 ·rintro⟨h1,h2⟩
  refine⟨h1,List.pairwise_singleton _ _,λa ha b hb=>?_⟩;rw[Sk]at hb;subst hb;obtain⟨m,hm⟩:=RE.1 ha;have hl:=(Et.1 hm).1;have hy:l.getLast?=some (l[l.length - 1]):=by rw[S5,Cq (by omega)]
  have h3:=h2 _ hy;rcases Ry m (l.length - 1)with h | h
  ·exact hc.trans _ _ _ (DX h1 hm (Cq (by omega)) h) h3
  ·have:m=l.length - 1:=by omega
   subst this;rw[Cq (by omega)]at hm;injection hm with hm;rw[← hm];exact h3
end
def MF (l:List Nm):Prop:=(∀x∈l,CT x.name∧1≤x.ino∧x.ino≤4611686018427387904)∧Dw Bq Nm.name l∧(l.map Nm.ino).Nodup
instance (l:List Nm):Decidable (MF l):=by unfold MF;infer_instance
def Hd (l:List Nm):Prop:=l.length≤16∧MF l
instance (l:List Nm):Decidable (Hd l):=by unfold Hd;infer_instance
abbrev RL:=@List.mem_map_of_mem
theorem E8 {l:List Nm}{x:Nm}:MF (l++[x])↔MF l∧(CT x.name∧(∀y,l.getLast?=some y→Bq y.name x.name<0)∧1≤x.ino∧x.ino≤4611686018427387904∧¬Ba Nm.ino l x.ino):=by
 unfold MF;rw[FX koN,RR,List.nodup_append];simp only[Rn,Sg,List.map_nil,List.nodup_cons,List.not_mem_nil,not_false_eq_true,List.nodup_nil,and_self,true_and]
 constructor
 ·rintro⟨h1,⟨h2,h3⟩,h4,h5⟩
  refine⟨⟨λy hy=>h1 y (.inl hy),h2,h4⟩,(h1 x (.inr rfl)).1,h3,(h1 x (.inr rfl)).2.1,(h1 x (.inr rfl)).2.2,?_⟩;rintro⟨y,hy,e⟩;exact h5 y.ino (RL hy) x.ino rfl e
 ·rintro⟨⟨h1,h2,h4⟩,h5,h6,h7,h8,h9⟩
  refine⟨?_,⟨h2,h6⟩,h4,?_⟩
  ·rintro y (hy | rfl)
   ·exact h1 y hy
   ·exact⟨h5,h7,h8⟩
  ·rintro a ha b rfl e
   obtain⟨y,hy,e2⟩:=List.mem_map.1 ha;exact h9 ⟨y,hy,by rw[e2,e]⟩
theorem Mh {a b:List Nm}(h:MF (a++b)):MF a:=by
 unfold MF at h⊢;refine⟨λx hx=>h.1 x (by simp[hx]),(SH.1 h.2.1).1,?_⟩
 have:=h.2.2
 rw[RR,List.nodup_append]at this;exact this.1
def HH (l:List Nm):List (Int×AV):=l.map λx=>(x.ino,B true)
theorem JA (l:List Nm)(k:Int):KK (B false) (HH l) k=B (decide (Ba Nm.ino l k)):=by
 induction l with
 | nil=>simp[KK,HH,Ba]
 | cons a l ih=>
  unfold KK HH at ih⊢;rw[Sg]
  by_cases h:a.ino=k
  ·rw[List.find?_cons_of_pos (by simp[h])]
   have:Ba Nm.ino (a::l) k:=⟨a,by simp,h⟩;simp[this]
  ·rw[List.find?_cons_of_neg (by simp[h]),ih]
   have:Ba Nm.ino (a::l) k↔Ba Nm.ino l k:=by
    unfold Ba;simp[h]
   simp[this]
theorem MJ {l:List Nm}{x:Nm}(h:¬Ba Nm.ino l x.ino):Oo (HH l) x.ino (B true)=HH (l++[x]):=by
 unfold Oo
 have:(HH l).findIdx? (λp=>p.1==x.ino)=none:=by
  rw[Sr];intro p hp;obtain⟨y,hy,rfl⟩:=List.mem_map.1 hp;simp only[beq_eq_false_iff_ne,ne_eq];exact λe=>h ⟨y,hy,e⟩
 rw[this];simp[HH]
def PA (H:AH)(l:List Nm)(r:AV)(H':AH):Prop:=Grew H H'∧
 (Hd l→∃o,r=.tup [.mp o,B true]∧H'[o]?=some (some (.map (Hz (HH l)))))∧(¬Hd l→r=.tup [.lit (.map none),B false])
theorem Ol {H:AH}{l:List Nm}{v:AV}(hv:SV Co 2 l v)(hl:l.length≤281474976710656)(hs:∀x∈l,x.name.length≤9223372036854775807):∃r H',PA H l r H'∧BJ prog 27 [v] H r H':=IU (by
 unfold Ie
 by_cases h16:l.length≤16
 ·have e16:¬(16:Int)<l.length:=by omega
  simp[hv.len,e16];refine Gc (λn x0 x4 x11 x12 x13 H'=>∃k:Nat,k+n=l.length∧x0=v∧x4=.mp H.length∧x11=v∧x12=I l.length∧x13=I k∧Grew H H'∧H'[H.length]?=some (some (.map (Hz (HH (l.take k)))))∧MF (l.take k)) ?_ l.length ⟨0,by omega,rfl,rfl,rfl,rfl,rfl,Grew.app _ _,by simp;rfl,by simp[MF,Dw]⟩;rintro n x0 x4 x11 x12 x13 H' R hR ⟨k,hk,rfl,rfl,rfl,rfl,rfl,hg,hm,hok⟩;unfold E7;rcases Ry k l.length with h | h
  ·have hx:=Cq h
   generalize l[k]=x at hx;have htk:l.take (k+1)=l.take k++[x]:=by rw[Se,hx];rfl
   have hgt:∀y,(l.take k).getLast?=some y↔0<k∧l[k - 1]?=some y:=by
    intro y;rw[S5,RD,SF (by omega),RB]
    by_cases c:0<k
    ·rw[if_pos (by omega)];exact⟨λh=>⟨c,h⟩,λh=>h.2⟩
    ·rw[if_neg (by omega)];exact⟨λh=>(by cases h),λh=>absurd h.1 c⟩
   have hstep:Hd l→CT x.name∧(∀y,0<k∧l[k - 1]?=some y→Bq y.name x.name<0)∧1≤x.ino∧x.ino≤4611686018427387904∧¬Ba Nm.ino (l.take k) x.ino:=by
    rintro⟨-,ho⟩;rw[← Sh (k+1) l,htk]at ho
    have:=(E8.1 (Mh ho)).2
    simpa only[hgt]using this
   have hsx:=hs x (Rw hx);have g1:=Grew.app H' [some (.cells (Co x))];have c1:(H'++[some (AObj.cells [S (Bh x.name),I x.ino])])[H.length]?=some (some (.map (Hz (HH (l.take k))))):=g1.cells hm
   have ea:Ex 2 (H'++[some (.cells [S (Bh []),I 0])]) (.ptr H'.length 0) (.agg (Co x))=some (H'++[some (.cells (Co x))]):=by
    simp[Ex,Co,AM]
   simp[h,hv.idx Bj hx rfl,JE,IA,ea];simp[Co];refine bP_of (Jx (s:=x.name) (by omega)) ?_;have hno:¬(CT x.name∧(∀y,0<k∧l[k - 1]?=some y→Bq y.name x.name<0)∧1≤x.ino∧x.ino≤4611686018427387904∧¬Ba Nm.ino (l.take k) x.ino)→PA H l (.tup [.lit (.map none),B false]) (H'++[some (.cells (Co x))]):=λhn=>⟨hg.trans g1,λhh=>absurd (hstep hh) hn,λ_=>rfl⟩
   have key:(∀y,0<k∧l[k - 1]?=some y→Bq y.name x.name<0)→CT x.name→True:=λ_ _=>trivial
   by_cases a1:CT x.name
   ·have hal:NG (.int .i64) (.bool false) (H'++[some (AObj.cells [S (Bh x.name),I x.ino])]) (.mp H.length) (I x.ino) false=some (B (decide (Ba Nm.ino (l.take k) x.ino))):=by
     rw[LS c1];exact congrArg some (JA _ _)
    have ham:¬Ba Nm.ino (l.take k) x.ino→Py (.int .i64) (H'++[some (AObj.cells [S (Bh x.name),I x.ino])]) (.mp H.length) (I x.ino) (B true)=some ((H'++[some (AObj.cells [S (Bh x.name),I x.ino])]).set H.length (some (.map (Hz (HH (l.take k++[x])))))):=λhn=>by
     rw[NW c1,MJ hn]
    have hol:H.length<H'.length:=(Et.1 hm).1;rcases RP k with h0 | hk0
    ·have e0:¬0<k:=by omega
     have a5:∀y,(l.take k).getLast?=some y→Bq y.name x.name<0:=λy hy=>by have:=(hgt y).1 hy;omega
     by_cases a2:x.ino<1
     ·simp[a1,e0,a2]
      exact hno λhh=>by omega
     ·by_cases a3:4611686018427387904<x.ino
      ·simp[a1,e0,a2,a3]
       exact hno λhh=>by omega
      ·by_cases a4:Ba Nm.ino (l.take k) x.ino
       ·simp[a1,e0,a2,a3,hal,a4]
        exact hno λhh=>hh.2.2.2.2 a4
       ·simp[a1,e0,a2,a3,hal,a4,ham a4,Am (a:=(k:Nat)) (b:=1) (by omega) (by omega)]
        refine hR (n - 1) _ _ _ _ _ _ (by omega) ⟨k+1,by omega,rfl,rfl,rfl,rfl,by simp,⟨St (hg.trans g1).1 (Nat.le_of_eq List.length_set.symm),λi hi=>(L2 (by omega)).trans ((hg.trans g1).2 i hi)⟩,by rw[htk,MP (by simp;omega)],by rw[htk,E8];exact⟨hok,a1,a5,by omega,by omega,a4⟩⟩
    ·have e0:0<k:=hk0
     have hy:=Cq (l:=l) (i:=k - 1) (by omega);generalize l[k - 1]=y at hy;have es:Aq .sub (I k) (I 1)=some (I ((k - 1:Nat):Int)):=by rw[It (by omega) (by omega)];congr 3;omega
     have ei:=hv.idx Bj hy (i:=((k - 1:Nat):Int)) rfl
     by_cases a6:Bq y.name x.name<0
     ·have a5:∀y,(l.take k).getLast?=some y→Bq y.name x.name<0:=λz hz=>by have:=((hgt z).1 hz).2;rw[hy]at this;injection this with this;rw[← this];exact a6
      by_cases a2:x.ino<1
      ·simp[a1,e0,es,ei,G4,FE,a6,a2]
       exact hno λhh=>by omega
      ·by_cases a3:4611686018427387904<x.ino
       ·simp[a1,e0,es,ei,G4,FE,a6,a2,a3]
        exact hno λhh=>by omega
       ·by_cases a4:Ba Nm.ino (l.take k) x.ino
        ·simp[a1,e0,es,ei,G4,FE,a6,a2,a3,hal,a4]
         exact hno λhh=>hh.2.2.2.2 a4
        ·simp[a1,e0,es,ei,G4,FE,a6,a2,a3,hal,a4,ham a4,Am (a:=(k:Nat)) (b:=1) (by omega) (by omega)]
         refine hR (n - 1) _ _ _ _ _ _ (by omega) ⟨k+1,by omega,rfl,rfl,rfl,rfl,by simp,⟨St (hg.trans g1).1 (Nat.le_of_eq List.length_set.symm),λi hi=>(L2 (by omega)).trans ((hg.trans g1).2 i hi)⟩,by rw[htk,MP (by simp;omega)],by rw[htk,E8];exact⟨hok,a1,a5,by omega,by omega,a4⟩⟩
     ·simp[a1,e0,es,ei,G4,FE,a6]
      exact hno λhh=>a6 (hh.2.1 y ⟨hk0,hy⟩)
   ·simp[a1]
    exact hno λhh=>a1 hh.1
  ·have:l.take k=l:=RH (by omega)
   rw[this]at hm hok;simp[show ¬k<l.length by omega];exact⟨hg,λ_=>⟨_,rfl,hm⟩,λhn=>absurd ⟨h16,hok⟩ hn⟩
 ·have e16:(16:Int)<l.length:=by omega
  have:¬Hd l:=λh=>h16 h.1
  simp[hv.len,e16];exact⟨Grew.refl _,λh=>absurd h this,λ_=>rfl⟩)
end
section
def Nx (ns:List Nm)(ds:List Nd):Prop:=Dw Dg Nd.ino ds∧∀d∈ds,Ba Nm.ino ns d.ino∧Dp d.size d.l
instance (ns:List Nm) (ds:List Nd):Decidable (Nx ns ds):=by unfold Nx;infer_instance
def BB (ns:List Nm)(ds:List Nd):Prop:=Hd ns∧ds.length=ns.length∧Nx ns ds
instance (ns:List Nm) (ds:List Nd):Decidable (BB ns ds):=by unfold BB;infer_instance
def Sm (ns:List Nm)(ds:List Nd):Prop:=ns.length≤100000∧ds.length≤100000∧(∀x∈ns,x.name.length≤9223372036854775807)∧∀d∈ds,d.l.length≤1000000
def ImV (ns:List Nm)(ds:List Nd)(v:AV):Prop:=∃a b dv,v=.agg [a,b]∧SV Co 2 ns a∧SV BA 3 dv b∧dv.map NdV.nd=ds
theorem ImV.noIds {ns:List Nm}{ds:List Nd}{v:AV}(h:ImV ns ds v):Ac [v]=true:=by
 obtain⟨a,b,dv,rfl,h1,h2,rfl⟩:=h;simp[Ac,Av.noIds,h1.1,h2.1]
theorem KQ {ns:List Nm}{ds:List Nd}{d:Nd}:Nx ns (ds++[d])↔Nx ns ds∧(∀y,ds.getLast?=some y→y.ino<d.ino)∧Ba Nm.ino ns d.ino∧Dp d.size d.l:=by
 unfold Nx;rw[FX koI];simp only[GH,Rn]
 constructor
 ·rintro⟨⟨h1,h2⟩,h3⟩
  exact⟨⟨h1,λy hy=>h3 y (.inl hy)⟩,h2,h3 d (.inr rfl)⟩
 ·rintro⟨⟨h1,h3⟩,h2,h4⟩
  refine⟨⟨h1,h2⟩,?_⟩;rintro y (hy | rfl)
  ·exact h3 y hy
  ·exact h4
theorem On {ns:List Nm}{a b:List Nd}(h:Nx ns (a++b)):Nx ns a:=
 ⟨(SH.1 h.1).1,λd hd=>h.2 d (by simp[hd])⟩
theorem C5 {α:Type}{l:List α}{k:Nat}(hk:k≤l.length)(y:α):(l.take k).getLast?=some y↔0<k∧l[k - 1]?=some y:=by
 rw[S5,RD,SF hk,RB]
 by_cases c:0<k
 ·rw[if_pos (by omega)];exact⟨λh=>⟨c,h⟩,λh=>h.2⟩
 ·rw[if_neg (by omega)];exact⟨λh=>(by cases h),λh=>absurd h.1 c⟩
theorem Bd {α:Type}{l:List α}{k:Nat}{x:α}(hx:l[k]?=some x):l.take (k+1)=l.take k++[x]:=by rw[Se,hx];rfl
abbrev S8:=@List.getLast?_map
theorem Ko {ns:List Nm}{ds:List Nd}{v:AV}(hv:ImV ns ds v)(hb:Sm ns ds):BPure prog 12 [v] (B (decide (BB ns ds))):=BPure.val hv.noIds rfl (JZ (by
 obtain⟨a,b,dv,rfl,ha,hbv,rfl⟩:=hv;have b1:=hb.1;have b2:=hb.2.1;rw[RU]at b2;unfold J5;have oa:=SV.oneA ha;have ob:=SV.oneA hbv;simp[oa,ob];obtain⟨r,H5,⟨hg,hy,hn⟩,hc⟩:=Ol (H:=[some (.cells [a,b])]) ha (by omega) (λx hx=>by have:=hb.2.2.1 x hx;omega);refine bC_of hc ?_;have c0:H5[0]?=some (some (.cells [a,b])):=hg.cells rfl
 by_cases hm:Hd ns
 ·obtain⟨o,rfl,hmap⟩:=hy hm
  have hal:Lq H5 (.mp o)=some (I ns.length):=by
   simp[Lq,hmap,Hz,HH,goInt]
  simp[c0,hbv.len,hal]
  by_cases hlen:dv.length=ns.length
  ·have hlI:¬((dv.length:Int)≠ns.length):=by omega
   simp[hlen,c0,hbv.len];refine GT (λn x3 x5 x25 x26 x27 H'=>∃k:Nat,k+n=dv.length∧x3=.mp o∧(∃last:Int,x5=I last∧0≤last∧(∀y,(dv.take k).getLast?=some y→y.ino≤last)∧(last=0∨∃y,(dv.take k).getLast?=some y∧y.ino=last))∧x25=b∧x26=I ns.length∧x27=I k∧Grew H5 H'∧Nx ns ((dv.take k).map NdV.nd)) ?_ dv.length ⟨0,by omega,rfl,⟨0,rfl,by omega,by simp,.inl rfl⟩,rfl,rfl,rfl,Grew.refl _,by simp[Nx,Dw]⟩;rintro n x3 x5 x25 x26 x27 H' R hR ⟨k,hk,rfl,⟨last,rfl,hl0,hl1,hl2⟩,rfl,rfl,rfl,hg2,hok⟩;unfold F4;rcases Ry k ns.length with h | h
   ·have hx:=Cq (l:=dv) (i:=k) (by omega)
    generalize dv[k]=d at hx
    have ea:Ex 3 (H'++[some (.cells [I 0,I 0,AI])]) (.ptr H'.length 0) (.agg (BA d))=some (H'++[some (.cells (BA d))]):=by
     have:=SV.oneA d.h
     simp[Ex,BA,AM,this]
    have g1:=Grew.app H' [some (.cells (BA d))];have c1:(H'++[some (AObj.cells [I d.nd.ino,I d.nd.size,d.R])])[o]?=some (some (.map (Hz (HH ns)))):=g1.cells (hg2.cells hmap)
    have hal2:NG (.int .i64) (.bool false) (H'++[some (AObj.cells [I d.nd.ino,I d.nd.size,d.R])]) (.mp o) (I d.nd.ino) false=some (B (decide (Ba Nm.ino ns d.nd.ino))):=by
     rw[LS c1];exact congrArg some (JA _ _)
    have hdl:d.nd.l.length≤281474976710656:=by
     have:=hb.2.2.2 d.nd (RL (Rw hx));omega
    have htk:=Bd hx
    have hstep:BB ns (dv.map NdV.nd)→last<d.nd.ino∧Ba Nm.ino ns d.nd.ino∧Dp d.nd.size d.nd.l:=by
     rintro⟨-,-,ho⟩;rw[← Sh (k+1) dv,htk,RR,RR]at ho;have h3:=(KQ.1 (On ho)).2;refine⟨?_,h3.2⟩;rcases hl2 with rfl | ⟨y,hy,rfl⟩
     ·obtain⟨x,hx,e⟩:=h3.2.1
      have:=(hm.2.1 x hx).2.1
      omega
     ·exact h3.1 y.nd (by rw[S8,hy];rfl)
    simp[h,hbv.idx AZ hx rfl,KV,ea];simp[BA]
    by_cases a1:d.nd.ino≤last
    ·have:¬BB ns (dv.map NdV.nd):=λhh=>by have:=(hstep hh).1;omega
     simp[a1,this]
    ·by_cases a2:Ba Nm.ino ns d.nd.ino
     ·simp[a1,hal2,a2,Ae]
      refine Al (JW d.h hdl) ?_
      by_cases a3:Dp d.nd.size d.nd.l
      ·simp[a3,Am (a:=k) (b:=1) (by omega) (by omega)]
       refine hR (n - 1) _ _ _ _ _ _ (by omega) ⟨k+1,by omega,rfl,⟨d.nd.ino,rfl,by omega,?_,.inr ⟨d,by rw[htk];simp,rfl⟩⟩,rfl,rfl,by simp,hg2.trans g1,?_⟩
       ·intro y hy
        rw[htk]at hy;simp at hy;rw[← hy];exact Int.le_refl _
       ·rw[htk,RR]
        refine KQ.2 ⟨hok,λy hy=>?_,a2,a3⟩;rw[S8]at hy;obtain⟨z,hz,rfl⟩:=Option.map_eq_some_iff.1 hy;have h9:z.nd.ino≤last:=hl1 z hz
        show z.nd.ino<d.nd.ino
        omega
      ·have:¬BB ns (dv.map NdV.nd):=λhh=>a3 (hstep hh).2.2
       simp[a3,this]
     ·have:¬BB ns (dv.map NdV.nd):=λhh=>a2 (hstep hh).2.1
      simp[a1,hal2,a2,this]
   ·have e:dv.take k=dv:=RH (by omega)
    rw[e]at hok;have:BB ns (dv.map NdV.nd):=⟨hm,by simp[hlen],hok⟩;simp[show ¬k<ns.length by omega,this]
  ·have:¬BB ns (dv.map NdV.nd):=λh=>hlen (by simpa using h.2.1)
   have hlI:((dv.length:Int)≠ns.length):=by omega
   simp[hlI,this]
 ·have:¬BB ns (dv.map NdV.nd):=λh=>hm h.1
  rw[hn hm];simp[this]))
theorem Gv {s:List UInt8}(hs:s.length≤9223372036854775807):BPure prog 11 [S (Bh s)] (B (decide (CT s))):=BPure.flat λH=>EZ (by
 unfold Dy;refine DB (λn x0 x3 H'=>∃k:Nat,k+n=s.length∧x0=S (Bh s)∧x3=I k∧H'=H∧(∀m y,m<k→s[m]?=some y→EW y)∧(0<k→s[0]?≠some 45)) ?_ s.length ⟨0,by omega,rfl,rfl,rfl,by omega,by omega⟩;rintro n x0 x3 H' R hR ⟨k,hk,rfl,rfl,rfl,hb,h45⟩;unfold Cs;rw[Hs (by omega)];rcases Ry k s.length with h | h
 ·have hx:=Cq h
  generalize s[k]=y at hx;have hno:¬(EW y∧(k=0→¬(y.toNat:Int)=45))→¬CT s:=λhn hm=>hn ⟨hm.2.2.2 y (Rw hx),λe0 e=>hm.2.2.1 (by rw[← e0,hx];congr 1;exact(Re (k:=45) rfl).mp e)⟩
  have next:EW y→(k=0→¬(y.toNat:Int)=45)→R [S (Bh s),I ((k:Int)+1)] H':=λh1 h2=>hR (n - 1) _ _ _ (by omega) ⟨k+1,by omega,rfl,by simp,rfl,λm z hm hz=>by
   by_cases c:m=k
   ·rw[c,hx]at hz;injection hz with hz;rw[← hz];exact h1
   ·exact hb m z (by omega) hz,λ_=>by
   rcases RP k with rfl | h0
   ·rw[hx];intro e;injection e with e;exact h2 rfl ((Re (k:=45) rfl).mpr e)
   ·exact h45 h0⟩
  have e1:=Am (a:=k) (b:=1) (by omega) (by omega);simp[h,Hp rfl hx]
  by_cases c1:(y.toNat:Int)<97
  ·by_cases c2:(y.toNat:Int)<48
   ·by_cases c3:(y.toNat:Int)=46
    ·simp[c1,c2,c3,e1]
     exact next (by unfold EW;omega) (by omega)
    ·by_cases c4:(y.toNat:Int)=45
     ·rcases RP k with h0 | h0
      ·have:¬CT s:=hno λhh=>hh.2 h0 c4
       simp[c1,c2,c3,c4,h0,this]
      ·simp[c1,c2,c3,c4,e1,show ¬k=0 by omega]
       exact next (by unfold EW;omega) (by omega)
     ·have e95:¬(y.toNat:Int)=95:=by omega
      have:¬CT s:=hno λhh=>by unfold EW at hh;omega
      simp[c1,c2,c3,c4,e95,this]
   ·by_cases c3:(57:Int)<y.toNat
    ·by_cases c4:(y.toNat:Int)=95
     ·simp[c1,c2,c3,c4,e1]
      exact next (by unfold EW;omega) (by omega)
     ·have e46:¬(y.toNat:Int)=46:=by omega
      have e45:¬(y.toNat:Int)=45:=by omega
      have:¬CT s:=hno λhh=>by unfold EW at hh;omega
      simp[c1,c2,c3,c4,e46,e45,this]
    ·simp[c1,c2,c3,e1]
     exact next (by unfold EW;omega) (by omega)
  ·by_cases c2:(122:Int)<y.toNat
   ·have e48:¬(y.toNat:Int)<48:=by omega
    have e57:(57:Int)<y.toNat:=by omega
    have e46:¬(y.toNat:Int)=46:=by omega
    have e95:¬(y.toNat:Int)=95:=by omega
    have e45:¬(y.toNat:Int)=45:=by omega
    have:¬CT s:=hno λhh=>by unfold EW at hh;omega
    simp[c1,c2,e48,e57,e46,e95,e45,this]
   ·simp[c1,c2,e1]
    exact next (by unfold EW;omega) (by omega)
 ·have hall:∀b∈s,EW b:=λb hb'=>by
   obtain⟨m,hm⟩:=RE.1 hb'
   have:=(Et.1 hm).1
   exact hb m b (by omega) hm
  have e0:¬k<s.length:=by omega
  rcases RP s.length with h0 | h0
  ·have:¬CT s:=λhm=>hm.1 (List.length_eq_zero_iff.1 h0)
   have e1:¬(1:Int)≤s.length:=by omega
   have e2:¬1≤s.length:=by omega
   simp only[NO,B8,ES,Int.ofNat_lt,e0,QA,I9];simp[CR,h0,this]
  ·by_cases h20:s.length≤20
   ·have:CT s:=⟨λe=>by rw[e]at h0;simp at h0,h20,h45 (by omega),hall⟩
    have e1:(1:Int)≤s.length:=by omega
    have e2:(s.length:Int)≤20:=by omega
    simp[e0,e1,e2,CR,this]
   ·have:¬CT s:=λhm=>h20 hm.2.1
    have e1:(1:Int)≤s.length:=by omega
    have e2:¬(s.length:Int)≤20:=by omega
    simp[e0,e1,e2,CR,this]
    try omega)
end
end Go.Proofs.Ytijoffokpjbnjaa.Av
