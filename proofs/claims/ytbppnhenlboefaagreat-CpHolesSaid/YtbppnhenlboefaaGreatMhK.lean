/- The law and its row. No condition. -/
import Derived.Test.YtbppnhenlboefaaGreatMhJ
set_option linter.unusedVariables false
set_option maxRecDepth 100000
section
namespace Go.Proofs.YtbppnhenlboefaaGreat.Av
open Go Go.Proofs.Tryz
def pqk:FuncId→Bool:=ST [43,82,20,13,52,40,102,24,23,98,50,170,172,188,179,181,22,99,169,111,143,142,148,180,182,145,73,141,171,173,144,75,176,135,70,134,139,149,174,112,45,234,3,16,46]
def xC:FuncId→Bool:=ST [11,36,15]
def FY:C1:=KM []
def Ga:Nat→Option (List Bool):=Co [(32,mk 117 0 [12,17,18,19]),(25,mk 117 0 [12,17]),(15,mk 117 0 [2,9,11,12,14,15,16]),(12,mk 117 0 [2,9,11,12,14,15,16])]
def Gb:Nat→Bool:=ST []
def A5 (p:List Bool)(n:Nat):List AV→AH→Kf→Prop:=AJ prog FY pqk xC Gb Ga (sub p (AL f4)) n
def DC (R12:List AV→AH→Prop)(x2 x9 x11 x12 x14 x15 x16:AV)(H:AH)(K:AV→AH→Prop):Prop:=jn (mk 117 0 [2,9,11,12,14,15,16]) (A5 [true,true,true,true,true,true,true,true,false,true,false,false,true,true] 17) [x2,x9,x11,x12,x14,x15,x16] H (Mh (mk 117 0 [2,9,11,12,14,15,16]) R12 (Bh 0 (Bl (A5 [true,true,true,true,true,true,true,true,true] 17) (Bm prog f4.results.toList K))))
def F3 (R25:List AV→AH→Prop)(x12 x17 x18 x19:AV)(H:AH)(K:AV→AH→Prop):Prop:=lp (mk 117 0 [12,17,18,19]) (A5 [true,true,true,true,true,true,true,true,true,true,true,false,true,false,false,true,false,false,true,false,true,false,false] 33) [x12,x17,x18,x19] H (Bh 4 (Bl (A5 [true,true,true,true,true,true,true,true,true,true,true,false,true,false,false,true,false,false,true,true] 36) (Bh 3 (Bl (A5 [true,true,true,true,true,true,true,true,true,true,true,false,true,false,false,true,true] 38) (Mh (mk 117 0 [12,17]) R25 (Bh 2 (Bl (A5 [true,true,true,true,true,true,true,true,true,true,true,true] 38) (Bm prog f4.results.toList K))))))))
def C7 (x12 x17:AV)(H:AH)(K:AV→AH→Prop):Prop:=lp (mk 117 0 [12,17]) (A5 [true,true,true,true,true,true,true,true,true,true,true,false,true,false,false] 26) [x12,x17] H (Bh 2 (Bl (A5 [true,true,true,true,true,true,true,true,true,true,true,true] 38) (Bm prog f4.results.toList K)))
def Fz (x2 x9 x11 x12 x14 x15 x16:AV)(H:AH)(K:AV→AH→Prop):Prop:=lp (mk 117 0 [2,9,11,12,14,15,16]) (A5 [true,true,true,true,true,true,true,true,false,true,false,false] 13) [x2,x9,x11,x12,x14,x15,x16] H (Bh 0 (Bl (A5 [true,true,true,true,true,true,true,true,true] 17) (Bm prog f4.results.toList K)))
def Dm (R12:List AV→AH→Prop)(x2 x9 x11 x12 x14 x15 x16:AV)(H:AH)(K:AV→AH→Prop):Prop:=
 bO (Ap .add x16 (I 1)) λv0=>
 R12 [x2,x9,x11,x12,x14,x15,v0] H
theorem ED (R12:List AV→AH→Prop)(x2 x9 x11 x12 x14 x15 x16:AV)(H:AH)(K:AV→AH→Prop):DC R12 x2 x9 x11 x12 x14 x15 x16 H K=Dm R12 x2 x9 x11 x12 x14 x15 x16 H K:=(DG _ _ _ _ _).trans (by kernel_rfl)
def Dp (R25:List AV→AH→Prop)(R32:List AV→AH→Prop)(x12 x17 x18 x19:AV)(H:AH)(K:AV→AH→Prop):Prop:=
 bO (Ap .lss x19 (I 8)) λv0=>
 bB v0 λt1=>bI t1 (
 bG x18 false λw2=>
 gO w2 (Ac 1 x12) λv3=>
 bG x18 false λw4=>
 gO w4 (Au false 1 H v3) λv5=>
 bG x18 false λw6=>
 gO w6 (some x17) λv7=>
 bG x18 false λw8=>
 gO w8 (some x19) λv9=>
 bG x18 false λw10=>
 gO w10 (Bj 9 v5 v7) λv11=>
 bG x18 false λw12=>
 gO w12 (Ac 1 v11) λv13=>
 bG x18 false λw14=>
 gO w14 (PK 8 1 v13 v9) λv15=>
 bG x18 false λw16=>
 gO w16 (Au false 1 H v15) λv17=>
 bG x18 false λw18=>
 gO w18 (Ap .neq v17 u0Z) λv19=>
 bO (A8 x18 (B true) v19) λv20=>
 bO (Ap .add x19 (I 1)) λv21=>
 R32 [x12,x17,v20,v21] H)
 (bO (Fb .not x18) λv22=>
 bB v22 λt23=>bI t23 (
 K (B false) H)
 (bO (Ap .add x17 (I 1)) λv24=>
 R25 [x12,v24] H))
theorem IG (R25:List AV→AH→Prop)(R32:List AV→AH→Prop)(x12 x17 x18 x19:AV)(H:AH)(K:AV→AH→Prop):A5 [true,true,true,true,true,true,true,true,true,true,true,false,true,false,false,true,false,false,true,false,true,false,false] 33 (AW (mk 117 0 [12,17,18,19]) [x12,x17,x18,x19]) H (Mh (mk 117 0 [12,17,18,19]) R32 (Bh 4 (Bl (A5 [true,true,true,true,true,true,true,true,true,true,true,false,true,false,false,true,false,false,true,true] 36) (Bh 3 (Bl (A5 [true,true,true,true,true,true,true,true,true,true,true,false,true,false,false,true,true] 38) (Mh (mk 117 0 [12,17]) R25 (Bh 2 (Bl (A5 [true,true,true,true,true,true,true,true,true,true,true,true] 38) (Bm prog f4.results.toList K)))))))))=Dp R25 R32 x12 x17 x18 x19 H K:=by kernel_rfl
theorem HP (R25:List AV→AH→Prop){K:AV→AH→Prop}(I:Nat→AV→AV→AV→AV→AH→Prop)(round:∀(n:Nat) (x12 x17 x18 x19:AV) (H:AH) (R:List AV→AH→Prop),(∀(m:Nat) (y12 y17 y18 y19:AV) (H':AH),m<n→I m y12 y17 y18 y19 H'→R [y12,y17,y18,y19] H')→I n x12 x17 x18 x19 H→Dp R25 R x12 x17 x18 x19 H K)(n:Nat){x12 x17 x18 x19:AV}{H:AH}(h:I n x12 x17 x18 x19 H):F3 R25 x12 x17 x18 x19 H K:=by
 refine QF (C3 _ _) (LI4 I) ?_ n h;intro n X H h;obtain⟨x12,x17,x18,x19,rfl,h⟩:=h.elim;exact Eq.mpr (IG R25 _ x12 x17 x18 x19 H K) (round n x12 x17 x18 x19 H (λX H'=>∃m,m<n∧LI4 I m X H') (λm y12 y17 y18 y19 H' hm hi=>⟨m,hm,hi⟩) h)
def Do (R25:List AV→AH→Prop)(x12 x17:AV)(H:AH)(K:AV→AH→Prop):Prop:=
 bO (Ac 1 x12) λv0=>
 bO (Au false 1 H v0) λv1=>
 bO (Ba v1) λv2=>
 bO (Ap .lss x17 v2) λv3=>
 bB v3 λt4=>bI t4 (
 F3 R25 x12 x17 (B false) (I 0) H K)
 (bP (PCall prog 3 [] H) λv5=>
 K v5 H)
theorem IF (R25:List AV→AH→Prop)(x12 x17:AV)(H:AH)(K:AV→AH→Prop):A5 [true,true,true,true,true,true,true,true,true,true,true,false,true,false,false] 26 (AW (mk 117 0 [12,17]) [x12,x17]) H (Mh (mk 117 0 [12,17]) R25 (Bh 2 (Bl (A5 [true,true,true,true,true,true,true,true,true,true,true,true] 38) (Bm prog f4.results.toList K))))=Do R25 x12 x17 H K:=by kernel_rfl
theorem HO {K:AV→AH→Prop}(I:Nat→AV→AV→AH→Prop)(round:∀(n:Nat) (x12 x17:AV) (H:AH) (R:List AV→AH→Prop),(∀(m:Nat) (y12 y17:AV) (H':AH),m<n→I m y12 y17 H'→R [y12,y17] H')→I n x12 x17 H→Do R x12 x17 H K)(n:Nat){x12 x17:AV}{H:AH}(h:I n x12 x17 H):C7 x12 x17 H K:=by
 refine QF (C3 _ _) (LI2 I) ?_ n h;intro n X H h;obtain⟨x12,x17,rfl,h⟩:=h.elim;exact Eq.mpr (IF _ x12 x17 H K) (round n x12 x17 H (λX H'=>∃m,m<n∧LI2 I m X H') (λm y12 y17 H' hm hi=>⟨m,hm,hi⟩) h)
def Dn (R12:List AV→AH→Prop)(x2 x9 x11 x12 x14 x15 x16:AV)(H:AH)(K:AV→AH→Prop):Prop:=
 bO (Ac 1 x9) λv0=>
 bO (Au false 1 H v0) λv1=>
 bO (Ba v1) λv2=>
 bO (Ap .lss x16 v2) λv3=>
 bB v3 λt4=>bI t4 (
 bO (Ac 1 x9) λv5=>
 bO (Au false 1 H v5) λv6=>
 bO (Bj 9 v6 x16) λv7=>
 bO (Ac 0 v7) λv8=>
 bO (Au false 1 H v8) λv9=>
 bO (Ap .lss v9 x14) λv10=>
 bB v10 λt11=>bI t11 (
 bO (Ap .add x15 (I 1)) λv12=>
 DC R12 x2 x9 x11 x12 x14 v12 x16 H K)
 (DC R12 x2 x9 x11 x12 x14 x15 x16 H K))
 (bO (Ac 0 x11) λv13=>
 bO (Au false 1 H v13) λv14=>
 bO (Ap .neq v14 (I 0)) λv15=>
 bB v15 λt16=>bI t16 (
 K (B false) H)
 (bO (Ap .rem x2 (.lit (.int .u8 4))) λv17=>
 bO (Ap .eql v17 (.lit (.int .u8 2))) λv18=>
 bG v18 false λw19=>
 gO w19 (some x2) λv20=>
 bG v18 false λw21=>
 gO w21 (Ap .rem v20 (.lit (.int .u8 4))) λv22=>
 bG v18 false λw23=>
 gO w23 (Ap .neq v22 (.lit (.int .u8 1))) λv24=>
 bG v18 false λw25=>
 gO w25 (some v24) λv26=>
 bG v26 true λw27=>
 gO w27 (some x15) λv28=>
 bG v26 true λw29=>
 gO w29 (some x14) λv30=>
 bG v26 true λw31=>
 gO w31 (Ap .eql v28 v30) λv32=>
 bG v18 false λw33=>
 gO w33 (A8 v26 v32 (B false)) λv34=>
 bO (A8 v18 (B true) v34) λv35=>
 bB v35 λt36=>bI t36 (
 bO (Ac 1 x12) λv37=>
 bO (Au false 1 H v37) λv38=>
 bO (Ba v38) λv39=>
 bO (Ap .eql v39 x14) λv40=>
 bG v40 true λw41=>
 gP w41 (PCall prog 3 [] H) λv42=>
 bO (A8 v40 v42 (B false)) λv43=>
 K v43 H)
 (C7 x12 (I 0) H K)))
theorem IE (R12:List AV→AH→Prop)(x2 x9 x11 x12 x14 x15 x16:AV)(H:AH)(K:AV→AH→Prop):A5 [true,true,true,true,true,true,true,true,false,true,false,false] 13 (AW (mk 117 0 [2,9,11,12,14,15,16]) [x2,x9,x11,x12,x14,x15,x16]) H (Mh (mk 117 0 [2,9,11,12,14,15,16]) R12 (Bh 0 (Bl (A5 [true,true,true,true,true,true,true,true,true] 17) (Bm prog f4.results.toList K))))=Dn R12 x2 x9 x11 x12 x14 x15 x16 H K:=by kernel_rfl
theorem HN {K:AV→AH→Prop}(I:Nat→AV→AV→AV→AV→AV→AV→AV→AH→Prop)(round:∀(n:Nat) (x2 x9 x11 x12 x14 x15 x16:AV) (H:AH) (R:List AV→AH→Prop),(∀(m:Nat) (y2 y9 y11 y12 y14 y15 y16:AV) (H':AH),m<n→I m y2 y9 y11 y12 y14 y15 y16 H'→R [y2,y9,y11,y12,y14,y15,y16] H')→I n x2 x9 x11 x12 x14 x15 x16 H→Dn R x2 x9 x11 x12 x14 x15 x16 H K)(n:Nat){x2 x9 x11 x12 x14 x15 x16:AV}{H:AH}(h:I n x2 x9 x11 x12 x14 x15 x16 H):Fz x2 x9 x11 x12 x14 x15 x16 H K:=by
 refine QF (C3 _ _) (LI7 I) ?_ n h;intro n X H h;obtain⟨x2,x9,x11,x12,x14,x15,x16,rfl,h⟩:=h.elim;exact Eq.mpr (IE _ x2 x9 x11 x12 x14 x15 x16 H K) (round n x2 x9 x11 x12 x14 x15 x16 H (λX H'=>∃m,m<n∧LI7 I m X H') (λm y2 y9 y11 y12 y14 y15 y16 H' hm hi=>⟨m,hm,hi⟩) h)
def EU (a0 a1 a2:AV)(H:AH)(K:AV→AH→Prop):Prop:=
 bP (PCall prog 16 [a0,a1] H) λv0=>
 bA (ACalls prog 15 [(I 600),v0,Ad] H) λv1 H2=>
 bO (Aj v1 0) λv3=>
 bO (Aj v1 1) λv4=>
 bO (Fb .not v4) λv5=>
 bB v5 λt6=>bI t6 (
 K (B false) H2)
 (bC (BCall prog 14 [v3] H2) λv7 H8=>
 bP (PCall prog 13 [v7,(I 1)] H8) λv9=>
 bO (Aj v9 0) λv10=>
 bO (Aj v9 1) λv11=>
 bH (AD H8 (.agg [(I 0),Ad])) λv12 H13=>
 bS (AT 2 H13 v12 v10) λH14=>
 bC (BCall prog 17 [a2,u0Z,(.lit (.int .u8 1))] H14) λv15 H16=>
 bC (BCall prog 12 [v3,v15] H16) λv17 H18=>
 bH (AD H18 (.agg [(I 0),(.lit (.string ⟨#[]⟩)),(I 0),(I 0),(I 0),(I 0),(I 0)])) λv19 H20=>
 bS (AT 7 H20 v19 v17) λH21=>
 bC (BCall prog 14 [v3] H21) λv22 H23=>
 bP (PCall prog 13 [v22,(I 2)] H23) λv24=>
 bO (Aj v24 0) λv25=>
 bO (Aj v24 1) λv26=>
 bH (AD H23 (.agg [(I 0),Ad])) λv27 H28=>
 bS (AT 2 H28 v27 v25) λH29=>
 bO (Ac 0 v12) λv30=>
 bO (Au false 1 H29 v30) λv31=>
 bO (Ap .add v31 (I 8)) λv32=>
 bO (Ap .sub v32 (I 1)) λv33=>
 bO (Ap .quo v33 (I 8)) λv34=>
 Fz a2 v12 v19 v27 v34 (I 0) (I 0) H29 K)
theorem Lf (a0 a1 a2:AV)(H:AH)(K:AV→AH→Prop):N1 prog FY pqk xC Gb Ga f4 [a0,a1,a2] H K=EU a0 a1 a2 H K:=by kernel_rfl
theorem Lg {a0 a1 a2:AV}{H:AH}{K:AV→AH→Prop}(h:EU a0 a1 a2 H K):ACalls prog 4 [a0,a1,a2] H K:=
 FJ Kn func4 (by kernel_rfl) (Eq.mpr (Lf a0 a1 a2 H K) h)
end Go.Proofs.YtbppnhenlboefaaGreat.Av
end
section
end
