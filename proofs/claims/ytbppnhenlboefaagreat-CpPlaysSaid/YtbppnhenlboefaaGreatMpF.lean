/- Texts of this proof, one behind the other, packed into one file by a program of this session. No condition. -/
import Derived.Test.YtbppnhenlboefaaGreatMpE
import Derived.OrdersIn
import Derived.RangeFuncNested
set_option linter.unusedVariables false
set_option linter.unusedSimpArgs false
set_option maxRecDepth 100000
section
namespace Go.Proofs.YtbppnhenlboefaaGreat.Av
open Go Go.Proofs.Tryz
def PF:FuncId->Bool:=hU [43,82,20,13,52,40,102,24,23,98,50,170,172,188,179,181,22,99,169,111,143,142,148,180,182,145,73,141,171,173,144,75,176,135,70,134,139,149,174,112,45,234,214,191,218,217,229,194,216,228,87,16]
def Aoc:FuncId->Bool:=hU [11,36]
def sU:T12:=λa0 H K=>bO (Ar .geq a0 (.lit (.int .u8 97))) λa=>bG a true λe=>gO e (some a0) λb=>bG a true λf=>gO f (Ar .leq b (.lit (.int .u8 122))) λc=>bO (A0 a c (B false)) λd=>K d H
theorem vO {a0 H K}(h:sU a0 H K):BQ 214 [a0] H K:=fok A8 PF B7 func214 h
def nW:Nat->Option (List Bool):=BI [(3,mk 22 0 [0,5,6])]
def sT (p:List Bool)(n:Nat):List AV->AH->Kf->Prop:=AR prog A8 PF Aw Aw nW (sub p (AK f218)) n
def nV:T11:=λa b c H K=>lp (mk 22 0 [0,5,6]) (sT (pbZ 37) 4) [a,b,c] H (AP 0 (AO (sT (pbZ 7) 10) (AN prog f218.results.toList K)))
def dE:T18:=λe b d c H K=>bO (Ar .lss c d) λh=>bB h λf=>bI f (bO (N5 b c) λl=>bP (Ba1 214 [l] H) λm=>bO (D5 .not m) λn=>bB n λg=>bI g (K (B false) H) (bO (Ar .add c (I 1)) λo=>e [b,d,o] H)) (bO (OX .neq b (.lit (.string ⟨#[]⟩))) λa=>bG a true λs=>gO s (some b) λp=>bG a true λq=>gO q (Ev p) λi=>bG a true λr=>gO r (Ar .leq i (I 10)) λj=>bO (A0 a j (B false)) λk=>K k H)
theorem lY {K:KT}:rC (λR a b c H=>dE R a b c H K) (λa b c H=>nV a b c H K):=T6 (A3 _ _) (λ_ _ _ _ _=>by kernel_rfl)
def Agq:T12:=λa0 H K=>bO (Ev a0) λa=>nV a0 a (I 0) H K
theorem Aod {a0 H K}(h:Agq a0 H K):BQ 218 [a0] H K:=fok A8 PF nW func218 h
def lU:T10:=λa0 a1 H K=>bP (Ba1 229 [a0,a1] H) λa=>bO (Ak a 0) λb=>bO (Ak a 1) λc=>bO (Ak a 2) λd=>K (.tup [b,c,d]) H
theorem qU {a0 a1 H K}(h:lU a0 a1 H K):BQ 217 [a0,a1] H K:=fok A8 PF B7 func217 h
def Jq:T10:=λa0 a1 H K=>bP (Ba1 234 [a0,a1] H) λa=>bO (Ar .geq a (I 0)) λc=>bB c λb=>bI b (bO (OI a0 none (some a)) λd=>bO (Ev a1) λe=>bO (Ar .add a e) λf=>bO (OI a0 (some f) none) λg=>K (.tup [d,g,(B true)]) H) (K (.tup [a0,(.lit (.string ⟨#[]⟩)),(B false)]) H)
theorem PD {a0 a1 H K}(h:Jq a0 a1 H K):BQ 229 [a0,a1] H K:=fok A8 PF B7 func229 h
def Tu:T10:=λa0 a1 H K=>bP (Ba1 216 [a0,a1] H) λa=>bO (Ak a 0) λb=>bO (Ak a 1) λc=>K (.tup [b,c]) H
theorem Y8 {a0 a1 H K}(h:Tu a0 a1 H K):BQ 194 [a0,a1] H K:=fok A8 PF B7 func194 h
def FP:T10:=λa0 a1 H K=>bP (Ba1 228 [a0,a1] H) λb=>bO (D5 .not b) λc=>bB c λa=>bI a (K (.tup [a0,(B false)]) H) (bO (Ev a1) λd=>bO (OI a0 (some d) none) λe=>K (.tup [e,(B true)]) H)
theorem Lg {a0 a1 H K}(h:FP a0 a1 H K):BQ 216 [a0,a1] H K:=fok A8 PF B7 func216 h
def FQ:T10:=λa0 a1 H K=>bO (Ev a0) λb=>bO (Ev a1) λc=>bO (Ar .geq b c) λa=>bG a true λm=>gO m (some a0) λh=>bG a true λn=>gO n (some a1) λi=>bG a true λo=>gO o (Ev i) λj=>bG a true λp=>gO p (OI h none (some j)) λd=>bG a true λk=>gO k (some a1) λe=>bG a true λl=>gO l (OX .eql d e) λf=>bO (A0 a f (B false)) λg=>K g H
theorem Lh {a0 a1 H K}(h:FQ a0 a1 H K):BQ 228 [a0,a1] H K:=fok A8 PF B7 func228 h
def Z7:T11:=λa0 a1 a2 H K=>bO (Aj a0) λd=>bO (Ab 2 d) λe=>bO (Ab 0 e) λh=>bO (Aq false 1 H h) λi=>bO (Dy [(.lit (.string ⟨#[]⟩)),(.lit (.string ⟨#[]⟩))] [(0,1,a1),(1,1,a2)]) λj=>bH (Co H 2 1 (Bx [(.lit (.string ⟨#[]⟩)),(.lit (.string ⟨#[]⟩))] 1) [(0,2,j)]) λk b=>bH (Gt 2 32 b i k) λl c=>bO (Aj a0) λm=>bO (Ab 2 m) λf=>bO (Ab 0 f) λg=>bS (AU 1 c g l) λa=>K (.tup []) a
theorem iH {a0 a1 a2 H K}(h:Z7 a0 a1 a2 H K):BQ 219 [a0,a1,a2] H K:=fok A8 PF B7 func219 h
def Xm:T10:=λa0 a1 H K=>bP (Ba1 217 [a1,(.lit (.string ⟨#[61]⟩))] H) λa=>bO (Ak a 0) λb=>bO (Ak a 1) λe=>bO (Ak a 2) λh=>bP (Ba1 218 [b] H) λf=>bO (D5 .not f) λg=>bB g λd=>bI d (K (B false) H) (bC (Ba0 219 [a0,b,e] H) λi c=>K (B true) c)
theorem dF {a0 a1 H K}(h:Xm a0 a1 H K):BQ 195 [a0,a1] H K:=fok A8 PF B7 func195 h
def Qa:Nat->Option (List Bool):=BI [(3,mk 47 0 [0,3,8,9])]
def S3 (p:List Bool)(n:Nat):List AV->AH->Kf->Prop:=AR prog A8 PF Aw Aw Qa (sub p (AK f196)) n
def PZ:T13:=λa b c d H K=>lp (mk 47 0 [0,3,8,9]) (S3 (pbZ 37) 4) [a,b,c,d] H (AP 0 (AO (S3 (pbZ 7) 15) (AN prog f196.results.toList K)))
def N6:T15:=λl c d h e H K=>bO (Ar .lss e h) λp=>bB p λm=>bI m (bH (AE H (I 0)) λb j=>bS (AU 1 j b e) λf=>bO (Aj c) λR=>bO (Ab 0 R) λS=>bO (Aq false 1 f S) λT=>bC (Ba0 215 [T,(.fn (.func 220) [] [d,b])] f) λg a=>bO (Ar .lss g (I 0)) λq=>bB q λn=>bI n (K (B false) a) (bO (Aj c) λr=>bO (Ab 0 r) λs=>bO (Aq false 1 a s) λt=>bO (AY 2 t g) λu=>bO (Ab 1 u) λv=>bO (Aq false 1 a v) λw=>bB w λo=>bI o (bO (Aq false 1 a d) λx=>bO (Aq false 1 a b) λy=>bO (Aq false 1 a b) λz=>bO (Ar .add z (I 1)) λA=>bO (OI x (some y) (some A)) λC=>bO (Aq false 1 a d) λD=>bO (Aq false 1 a b) λE=>bO (Ar .add E (I 1)) λF=>bO (OI D (some F) none) λG=>bC (Ba0 221 [c,C,G] a) λJ i=>K J i) (bO (Aq false 1 a d) λL=>bO (Aq false 1 a b) λM=>bO (Aq false 1 a b) λN=>bO (Ar .add N (I 1)) λO=>bO (OI L (some M) (some O)) λP=>bC (Ba0 219 [c,P,(.lit (.string ⟨#[]⟩))] a) λU k=>bO (Ar .add e (I 1)) λQ=>l [c,d,h,Q] k))) (K (B true) H)
theorem Ud {K:KT}:rD (λR a b c d H=>N6 R a b c d H K) (λa b c d H=>PZ a b c d H K):=T7 (A3 _ _) (λ_ _ _ _ _ _=>by kernel_rfl)
def VT:T10:=λa0 a1 H K=>bH (AE H a1) λb a=>bO (Aq false 1 a b) λc=>bO (Ev c) λd=>PZ a0 b d (I 0) a K
theorem aH {a0 a1 H K}(h:VT a0 a1 H K):BQ 196 [a0,a1] H K:=fok A8 PF Qa func196 h
def Ei:Nat->Option (List Bool):=BI [(3,mk 19 0 [0,1,7,8])]
def Eu (p:List Bool)(n:Nat):List AV->AH->Kf->Prop:=AR prog A8 PF Aw Aw Ei (sub p (AK f215)) n
def Eh:T13:=λa b c d H K=>lp (mk 19 0 [0,1,7,8]) (Eu (pbZ 37) 4) [a,b,c,d] H (AP 0 (AO (Eu (pbZ 7) 10) (AN prog f215.results.toList K)))
def DR:T15:=λg d e f a H K=>bO (Ar .lss a f) λl=>bB l λj=>bI j (bO (AY 2 d a) λm=>bO (Aq true 2 H m) λn=>bF true e λc i h=>bT (Ch prog c||!true)<|bC (Ba0 c (i++[n]++h) H) λo b=>bB o λk=>bI k (K a b) (bO (Ar .add a (I 1)) λp=>g [d,e,f,p] b)) (K (I (-1)) H)
theorem Gs {K:KT}:rD (λR a b c d H=>DR R a b c d H K) (λa b c d H=>Eh a b c d H K):=T7 (A3 _ _) (λ_ _ _ _ _ _=>by kernel_rfl)
def EI:T10:=λa0 a1 H K=>bO (AW a0) λa=>Eh a0 a1 a (I 0) H K
theorem I2 {a0 a1 H K}(h:EI a0 a1 H K):BQ 215 [a0,a1] H K:=fok A8 PF Ei func215 h
def Z6:T10:=λa0 a1 H K=>bP (Ba1 194 [a1,(.lit (.string ⟨#[45,45]⟩))] H) λb=>bO (Ak b 0) λl=>bO (Ak b 1) λt=>bB t λk=>bI k (bC (Ba0 195 [a0,l] H) λA i=>K A i) (bP (Ba1 194 [a1,(.lit (.string ⟨#[45]⟩))] H) λc=>bO (Ak c 0) λd=>bO (Ak c 1) λa=>bG a true λD=>gO D (some d) λm=>bG a true λC=>gO C (OX .neq m (.lit (.string ⟨#[]⟩))) λn=>bO (A0 a n (B false)) λo=>bB o λj=>bI j (bC (Ba0 196 [a0,d] H) λp e=>K p e) (bO (Aj a0) λq=>bO (Ab 2 q) λr=>bO (Ab 1 r) λs=>bO (Aq false 1 H s) λu=>bH (Co H 1 1 (Bx [(.lit (.string ⟨#[]⟩))] 1) [(0,1,a1)]) λv f=>bH (Gt 1 16 f u v) λw g=>bO (Aj a0) λx=>bO (Ab 2 x) λy=>bO (Ab 1 y) λz=>bS (AU 1 g z w) λh=>K (B true) h))
theorem iG {a0 a1 H K}(h:Z6 a0 a1 H K):BQ 157 [a0,a1] H K:=fok A8 PF B7 func157 h
def dD:Nat->Option (List Bool):=BI [(7,mk 54 0 [0,4,9,10]),(4,mk 54 0 [0,4,9,10])]
def Sz (p:List Bool)(n:Nat):List AV->AH->Kf->Prop:=AR prog A8 PF Aw Aw dD (sub p (AK f156)) n
def dA:T15:=λa b d e c H K=>jn (mk 54 0 [0,4,9,10]) (Sz (pbZ 971) 13) [b,d,e,c] H (M1 (mk 54 0 [0,4,9,10]) a (AP 0 (AO (Sz (pbZ 15) 13) (AN prog f156.results.toList K))))
def dB:T13:=λa c d b H K=>lp (mk 54 0 [0,4,9,10]) (Sz (pbZ 75) 5) [a,c,d,b] H (AP 0 (AO (Sz (pbZ 15) 13) (AN prog f156.results.toList K)))
def Xl:T15:=λl j b k g H K=>bO (Ar .lss g k) λt=>bB t λq=>bI q (bO (N5 j g) λz=>bO (AW b) λG=>bO (Ar .sub G (I 1)) λi=>bH (AE H u0Z) λd p=>bS (AU 1 p d z) λf=>bO (Aq false 1 f d) λV=>bP (Ba1 191 [V] f) λe=>bG e true λW=>gO W (some b) λu=>bG e true λX=>gO X (some (.fn (.func 193) [] [d])) λv=>bG e true λY=>gC Y (Ba0 192 [u,v] f) f λw c=>bG e true λZ=>gO Z (D5 .not w) λx=>bO (A0 e x (B false)) λy=>bB y λr=>bI r (bO (Aq false 1 c d) λA=>bO (Dy [u0Z,(B false)] [(0,1,A)]) λC=>bH (Co c 2 1 (Bx [u0Z,(B false)] 1) [(0,2,C)]) λD m=>bH (Gt 2 2 m b D) λE n=>dA l j E k g n K) (bO (Aq false 1 c d) λF=>bO (Ar .eql F (.lit (.int .u8 58))) λh=>bG h true λaa=>gO aa (some i) λJ=>bG h true λab=>gO ab (Ar .geq J (I 0)) λL=>bO (A0 h L (B false)) λa=>bG a true λad=>gO ad (some b) λM=>bG a true λae=>gO ae (some i) λN=>bG a true λaf=>gO af (AY 2 M N) λO=>bG a true λag=>gO ag (Ab 1 O) λP=>bG a true λah=>gO ah (Aq false 1 c P) λQ=>bG a true λai=>gO ai (D5 .not Q) λR=>bO (A0 a R (B false)) λS=>bB S λs=>bI s (bO (AY 2 b i) λT=>bO (Ab 1 T) λU=>bS (AU 1 c U (B true)) λo=>dA l j b k g o K) (K (.tup [Ad,(B false)]) c))) (K (.tup [b,(B true)]) H)
theorem dC {K:KT}:rD (λR a c d b H=>Xl R a c d b H K) (λa c d b H=>dB a c d b H K):=T7 (A3 _ _) (λ_ _ _ _ _ _=>by kernel_rfl)
def sS:T12:=λa0 H K=>bO (Ev a0) λa=>dB a0 Ad a (I 0) H K
theorem vN {a0 H K}(h:sS a0 H K):BQ 156 [a0] H K:=fok A8 PF dD func156 h
def cZ:Nat->Option (List Bool):=BI [(6,mk 72 0 [4,8]),(7,mk 72 0 [4,8])]
def Xk (p:List Bool)(n:Nat):List AV->AH->Kf->Prop:=AR prog A8 PF Aw Aw cZ (sub p (AK f83)) n
def PB:T10:=λa b H K=>jn (mk 72 0 [4,8]) (Xk (pbZ 63) 17) [a,b] H (AN prog f83.results.toList K)
def cX:T10:=λa b H K=>lp (mk 72 0 [4,8]) (Xk (pbZ 143) 8) [a,b] H (AP 0 (AO (De (mk 72 0 [4,8]) (Xk (pbZ 63) 17)) (AN prog f83.results.toList K)))
def Xi:T10:=λb g H K=>bO (Aj g) λc=>bO (Ab 2 c) λd=>bO (Aq true 2 H d) λe=>bS (AU 2 H b e) λa=>bO (Aq true 2 a b) λf=>K (.tup [f,(B true)]) a
theorem lX (a b:AV)(H:AH)(K:KT):PB a b H K=Xi a b H K:=(Bi _ _ _ _ _).trans (by kernel_rfl)
def Xj:T22:=λi b a H K=>bO (Aj a) λm=>bO (Ab 1 m) λn=>bO (Aq false 1 H n) λv=>bO (AW v) λG=>bO (Ar .gtr G (I 0)) λQ=>bB Q λl=>bI l (bO (Aj a) λR=>bO (Ab 1 R) λS=>bO (Aq false 1 H S) λT=>bO (AY 1 T (I 0)) λU=>bO (Aq false 1 H U) λf=>bO (Aj a) λo=>bO (Ab 1 o) λp=>bO (Aq false 1 H p) λq=>bO (Bq 1 q (some (I 1)) none none) λr=>bO (Aj a) λs=>bO (Ab 1 s) λt=>bS (AU 1 H t r) λc=>bO (OX .eql f (.lit (.string ⟨#[45,45]⟩))) λu=>bB u λj=>bI j (bO (Aj a) λw=>bO (Ab 2 w) λx=>bO (Ab 1 x) λy=>bO (Aq false 1 c y) λz=>bO (Aj a) λA=>bO (Ab 1 A) λC=>bO (Aq false 1 c C) λD=>bH (Gt 1 16 c z D) λE g=>bO (Aj a) λF=>bO (Ab 2 F) λJ=>bO (Ab 1 J) λL=>bS (AU 1 g L E) λh=>PB b a h K) (bC (Ba0 157 [a,f] c) λM d=>bO (D5 .not M) λN=>bB N λk=>bI k (bO (Dy [Ad,Ad] []) λO=>bS (AU 2 d b O) λe=>bO (Aq true 2 e b) λP=>K (.tup [P,(B false)]) e) (i [b,a] d))) (PB b a H K)
theorem cY {K:KT}:Aaa (λR a b H=>Xj R a b H K) (λa b H=>cX a b H K):=jN (A3 _ _) (λ_ _ _ _=>by kernel_rfl)
def sQ:T10:=λa0 a1 H K=>bH (AE H (.agg [Ad,Ad])) λb f=>bC (Ba0 156 [a0] f) λe d=>bO (Ak e 0) λp=>bO (Ak e 1) λq=>bO (D5 .not q) λa=>bG a false λt=>gO t (some a1) λr=>bG a false λu=>gO u (AW r) λi=>bG a false λs=>gO s (Ar .gtr i (I 40)) λj=>bO (A0 a (B true) j) λk=>bB k λh=>bI h (bO (Dy [Ad,Ad] []) λl=>bS (AU 2 d b l) λc=>bO (Aq true 2 c b) λm=>K (.tup [m,(B false)]) c) (bO (Dy [Ad,Ad,Ad,Ad] [(0,1,p),(1,1,a1)]) λn=>bH (AE d n) λo g=>cX b o g K)
theorem vM {a0 a1 H K}(h:sQ a0 a1 H K):BQ 83 [a0,a1] H K:=fok A8 PF cZ func83 h
def Gq:Nat->Option (List Bool):=BI [(3,mk 19 0 [0,1,7,8])]
def GD (p:List Bool)(n:Nat):List AV->AH->Kf->Prop:=AR prog A8 PF Aw Aw Gq (sub p (AK f198)) n
def Gp:T13:=λa b c d H K=>lp (mk 19 0 [0,1,7,8]) (GD (pbZ 37) 4) [a,b,c,d] H (AP 0 (AO (GD (pbZ 7) 10) (AN prog f198.results.toList K)))
def F6:T15:=λe b c d a H K=>bO (Ar .lss a d) λh=>bB h λf=>bI f (bO (AY 1 b a) λi=>bO (Aq false 1 H i) λj=>bO (OX .eql c j) λk=>bB k λg=>bI g (K a H) (bO (Ar .add a (I 1)) λl=>e [b,c,d,l] H)) (K (I (-1)) H)
theorem JH {K:KT}:rD (λR a b c d H=>F6 R a b c d H K) (λa b c d H=>Gp a b c d H K):=T7 (A3 _ _) (λ_ _ _ _ _ _=>by kernel_rfl)
def HP:T10:=λa0 a1 H K=>bO (AW a0) λa=>Gp a0 a1 a (I 0) H K
theorem Nv {a0 a1 H K}(h:HP a0 a1 H K):BQ 198 [a0,a1] H K:=fok A8 PF Gq func198 h
def Gn:T10:=λa0 a1 H K=>bC (Ba0 198 [a0,a1] H) λb a=>bO (Ar .geq b (I 0)) λc=>K c a
theorem Lp {a0 a1 H K}(h:Gn a0 a1 H K):BQ 160 [a0,a1] H K:=fok A8 PF B7 func160 h
def nU:T10:=λa0 a1 H K=>bH (AE H a0) λc a=>bO (Aq false 1 a a1) λd=>bO (Ab 0 c) λe=>bO (Aq false 1 a e) λf=>bC (Ba0 160 [d,f] a) λg b=>bO (D5 .not g) λh=>K h b
theorem rK {a0 a1 H K}(h:nU a0 a1 H K):BQ 159 [a0,a1] H K:=fok A8 PF B7 func159 h
def E8:Nat->Option (List Bool):=BI [(3,mk 19 0 [0,1,7,8])]
def EH (p:List Bool)(n:Nat):List AV->AH->Kf->Prop:=AR prog A8 PF Aw Aw E8 (sub p (AK f197)) n
def E7:T13:=λa b c d H K=>lp (mk 19 0 [0,1,7,8]) (EH (pbZ 37) 4) [a,b,c,d] H (AP 0 (AO (EH (pbZ 7) 10) (AN prog f197.results.toList K)))
def Eg:T15:=λg d e f a H K=>bO (Ar .lss a f) λl=>bB l λj=>bI j (bO (AY 2 d a) λm=>bO (Aq true 2 H m) λn=>bF true e λc i h=>bT (Ch prog c||!true)<|bC (Ba0 c (i++[n]++h) H) λo b=>bB o λk=>bI k (K a b) (bO (Ar .add a (I 1)) λp=>g [d,e,f,p] b)) (K (I (-1)) H)
theorem Hh {K:KT}:rD (λR a b c d H=>Eg R a b c d H K) (λa b c d H=>E7 a b c d H K):=T7 (A3 _ _) (λ_ _ _ _ _ _=>by kernel_rfl)
def Fi:T10:=λa0 a1 H K=>bO (AW a0) λa=>E7 a0 a1 a (I 0) H K
theorem Jm {a0 a1 H K}(h:Fi a0 a1 H K):BQ 197 [a0,a1] H K:=fok A8 PF E8 func197 h
def E3:T10:=λa0 a1 H K=>bC (Ba0 197 [a0,a1] H) λb a=>bO (Ar .geq b (I 0)) λc=>K c a
theorem HT {a0 a1 H K}(h:E3 a0 a1 H K):BQ 158 [a0,a1] H K:=fok A8 PF B7 func158 h
def yL:T10:=λa0 a1 H K=>bH (AE H a1) λc a=>bC (Ba0 158 [a0,(.fn (.func 159) [] [c])] a) λd b=>bO (D5 .not d) λe=>K e b
theorem yM {a0 a1 H K}(h:yL a0 a1 H K):BQ 84 [a0,a1] H K:=fok A8 PF B7 func84 h
def fX:Nat->Option (List Bool):=BI [(3,mk 18 0 [0,3])]
def lQ (p:List Bool)(n:Nat):List AV->AH->Kf->Prop:=AR prog A8 PF Aw Aw fX (sub p (AK f199)) n
def fV:T10:=λa b H K=>lp (mk 18 0 [0,3]) (lQ (pbZ 35) 4) [a,b] H (AP 0 (AO (lQ (pbZ 15) 6) (AN prog f199.results.toList K)))
def Yq:T22:=λd c b H K=>bO (AW c) λf=>bO (Ar .lss b f) λa=>bG a true λo=>gO o (some c) λj=>bG a true λp=>gO p (some b) λk=>bG a true λq=>gO q (AY 1 j k) λl=>bG a true λr=>gO r (Aq false 1 H l) λm=>bG a true λn=>gO n (Ar .eql m u0Z) λg=>bO (A0 a g (B false)) λh=>bB h λe=>bI e (bO (Ar .add b (I 1)) λi=>d [c,i] H) (K b H)
theorem fW {K:KT}:Aaa (λR a b H=>Yq R a b H K) (λa b H=>fV a b H K):=jN (A3 _ _) (λ_ _ _ _=>by kernel_rfl)
def uL:T12:=λa0 H K=>fV a0 (I 0) H K
theorem xC {a0 H K}(h:uL a0 H K):BQ 199 [a0] H K:=fok A8 PF fX func199 h
def gD:Nat->Option (List Bool):=BI [(3,mk 17 0 [5,6,7])]
def lR (p:List Bool)(n:Nat):List AV->AH->Kf->Prop:=AR prog A8 PF Aw Aw gD (sub p (AK f162)) n
def fY:T11:=λa b c H K=>lp (mk 17 0 [5,6,7]) (lR (pbZ 37) 4) [a,b,c] H (AP 0 (AO (lR (pbZ 7) 10) (AN prog f162.results.toList K)))
def Q3:T18:=λf d e a H K=>bO (Ar .lss a e) λi=>bB i λg=>bI g (bO (AY 1 d a) λj=>bO (Aq false 1 H j) λc=>bC (Ba0 199 [c] H) λk b=>bO (AW c) λl=>bO (Ar .lss k l) λm=>bB m λh=>bI h (K (B false) b) (bO (Ar .add a (I 1)) λn=>f [d,e,n] b)) (K (B true) H)
theorem fZ {K:KT}:rC (λR a b c H=>Q3 R a b c H K) (λa b c H=>fY a b c H K):=T6 (A3 _ _) (λ_ _ _ _ _=>by kernel_rfl)
def uM:T12:=λa0 H K=>bO (AW a0) λa=>fY a0 a (I 0) H K
theorem xD {a0 H K}(h:uM a0 H K):BQ 162 [a0] H K:=fok A8 PF gD func162 h
def kO:Nat->Option (List Bool):=BI [(8,mk 69 0 [4,6,41,42,43])]
def oH (p:List Bool)(n:Nat):List AV->AH->Kf->Prop:=AR prog A8 PF Aw Aw kO (sub p (AK f38)) n
def kN:T14:=λa e b c d H K=>lp (mk 69 0 [4,6,41,42,43]) (oH (pbZ 303) 9) [a,e,b,c,d] H (AP 0 (AO (oH (pbZ 63) 16) (AN prog f38.results.toList K)))
def ZF:T17:=λk N f h i e H K=>bO (Ar .lss e i) λn=>bB n λl=>bI l (bO (AY 2 h e) λt=>bO (Aq true 2 H t) λE=>bH (AE H (.agg [(.lit (.string ⟨#[]⟩)),(.lit (.string ⟨#[]⟩))])) λg j=>bS (AU 2 j g E) λb=>bO (Ab 1 g) λF=>bO (Aq false 1 b F) λa=>bO (OX .neq a (.lit (.string ⟨#[97,117,116,111]⟩))) λd=>bG d true λG=>gO G (some a) λo=>bG d true λJ=>gO J (OX .neq o (.lit (.string ⟨#[97,108,119,97,121,115]⟩))) λp=>bO (A0 d p (B false)) λc=>bG c true λL=>gO L (some a) λq=>bG c true λM=>gO M (OX .neq q (.lit (.string ⟨#[110,101,118,101,114]⟩))) λr=>bO (A0 c r (B false)) λs=>bB s λm=>bI m (K (.tup [(.lit (.string ⟨#[]⟩)),(.lit (.string ⟨#[]⟩)),(.lit (.string ⟨#[]⟩)),(B false)]) b) (bO (Ar .add e (I 1)) λu=>k [a,f,h,i,u] b)) (bO (Ab 1 f) λv=>bO (Aq false 1 H v) λw=>bO (AY 1 w (I 0)) λx=>bO (Aq false 1 H x) λy=>bO (Ab 1 f) λz=>bO (Aq false 1 H z) λA=>bO (AY 1 A (I 1)) λC=>bO (Aq false 1 H C) λD=>K (.tup [y,D,N,(B true)]) H)
theorem iR {K:KT}:xP (λR a e b c d H=>ZF R a e b c d H K) (λa e b c d H=>kN a e b c d H K):=bM (A3 _ _) (λ_ _ _ _ _ _ _=>by kernel_rfl)
def zH:T12:=λa0 H K=>bC (Ba0 83 [(.lit (.string ⟨#[]⟩)),a0] H) λg i=>bO (Ak g 0) λp=>bO (Ak g 1) λv=>bH (AE i (.agg [Ad,Ad])) λc j=>bS (AU 2 j c p) λb=>bO (D5 .not v) λe=>bG e false λw8=>gO w8 (Ab 1 c) λL=>bG e false λM=>gO M (Aq false 1 b L) λl=>bG e false λN=>gO N (AW l) λm=>bG e false λO=>gO O (Ar .neq m (I 2)) λn=>bO (A0 e (B true) n) λa=>bG a false λP=>gO P (Ab 1 c) λo=>bG a false λQ=>gO Q (Aq false 1 b o) λq=>bG a false λR=>gO R (AY 1 q (I 0)) λr=>bG a false λS=>gO S (Aq false 1 b r) λs=>bG a false λT=>gO T (Ab 1 c) λt=>bG a false λU=>gO U (Aq false 1 b t) λu=>bG a false λV=>gO V (AY 1 u (I 1)) λw=>bG a false λW=>gO W (Aq false 1 b w) λx=>bG a false λX=>gO X (OX .eql s x) λy=>bO (A0 a (B true) y) λd=>bG d false λY=>gO Y (Ab 0 c) λz=>bG d false λZ=>gO Z (Aq false 1 b z) λA=>bG d false λaa=>gO aa (W6 1 1 (Bx [(.lit (.string ⟨#[]⟩))] 1) [(0,1,(.lit (.string ⟨#[115,112,97,114,115,101]⟩)))]) λC=>bG d false λab=>gC ab (Ba0 84 [A,C] b) b λD f=>bG d false λad=>gO ad (D5 .not D) λE=>bO (A0 d (B true) E) λF=>bB F λk=>bI k (K (.tup [(.lit (.string ⟨#[]⟩)),(.lit (.string ⟨#[]⟩)),(.lit (.string ⟨#[]⟩)),(B false)]) f) (bO (Ab 0 c) λG=>bO (Aq false 1 f G) λh=>bO (AW h) λJ=>kN (.lit (.string ⟨#[97,117,116,111]⟩)) c h J (I 0) f K)
theorem zI {a0 H K}(h:zH a0 H K):BQ 38 [a0] H K:=fok A8 PF kO func38 h
def ZC:Nat->Option (List Bool):=BI [(3,mk 23 0 [1,4,9,10,11])]
def dM (p:List Bool)(n:Nat):List AV->AH->Kf->Prop:=AR prog A8 PF Aw Aw ZC (sub p (AK f85)) n
def ZB:T14:=λa d e b c H K=>lp (mk 23 0 [1,4,9,10,11]) (dM (pbZ 37) 4) [a,d,e,b,c] H (AP 0 (AO (dM (pbZ 7) 10) (AN prog f85.results.toList K)))
def VV:T17:=λk g a i h d H K=>bO (Ar .lss d h) λn=>bB n λl=>bI l (bO (AY 3 i d) λu=>bO (Aq true 3 H u) λv=>bH (AE H (.agg [(I 0),(I 0),Ad])) λc j=>bS (AU 3 j c v) λb=>bO (Ab 0 c) λw=>bO (Aq false 1 b w) λx=>bO (Ar .eql x g) λy=>bB y λm=>bI m (bO (Ab 1 c) λo=>bO (Aq true 2 b o) λp=>bS (AU 2 b a p) λe=>bO (Aq true 2 e a) λq=>K q e) (bO (Ar .add d (I 1)) λr=>k [g,a,i,h,r] b)) (bO (Dy [(I 0),Ad] []) λs=>bS (AU 2 H a s) λf=>bO (Aq true 2 f a) λt=>K t f)
theorem aK {K:KT}:xP (λR a d e b c H=>VV R a d e b c H K) (λa d e b c H=>ZB a d e b c H K):=bM (A3 _ _) (λ_ _ _ _ _ _ _=>by kernel_rfl)
def oG:T10:=λa0 a1 H K=>bH (AE H (.agg [(I 0),Ad])) λd b=>bC (Ba0 14 [a0] b) λe c=>bO (yJ false 1 1 e) λa=>bO (AW a) λf=>ZB a1 d a f (I 0) c K
theorem rO {a0 a1 H K}(h:oG a0 a1 H K):BQ 85 [a0,a1] H K:=fok A8 PF ZC func85 h
def kM:Nat->Option (List Bool):=BI [(3,mk 26 0 [1,6,7,8])]
def oF (p:List Bool)(n:Nat):List AV->AH->Kf->Prop:=AR prog A8 PF Aw Aw kM (sub p (AK f86)) n
def kL:T13:=λa b c d H K=>lp (mk 26 0 [1,6,7,8]) (oF (pbZ 37) 4) [a,b,c,d] H (AP 0 (AO (oF (pbZ 7) 10) (AN prog f86.results.toList K)))
def ZA:T15:=λh b e f c H K=>bO (Ar .lss c f) λk=>bB k λi=>bI i (bO (AY 9 e c) λu=>bO (Aq true 9 H u) λv=>bH (AE H (.agg [(I 0),u0Z,u0Z,u0Z,u0Z,u0Z,u0Z,u0Z,u0Z])) λd g=>bS (AU 9 g d v) λa=>bO (Ab 0 d) λw=>bO (Aq false 1 a w) λx=>bO (Ar .mul x (I 8)) λy=>bO (Ab 0 b) λl=>bO (Aq false 1 a l) λm=>bO (Ar .geq y m) λn=>bB n λj=>bI j (bO (Ab 1 b) λo=>bO (Aq false 1 a o) λp=>bO (Bq 9 p none (some c) none) λq=>K q a) (bO (Ar .add c (I 1)) λr=>h [b,e,f,r] a)) (bO (Ab 1 b) λs=>bO (Aq false 1 H s) λt=>K t H)
theorem iO {K:KT}:rD (λR a b c d H=>ZA R a b c d H K) (λa b c d H=>kL a b c d H K):=T7 (A3 _ _) (λ_ _ _ _ _ _=>by kernel_rfl)
def zC:T12:=λa0 H K=>bH (AE H a0) λb a=>bO (Ab 1 b) λd=>bO (Aq false 1 a d) λc=>bO (AW c) λe=>kL b c e (I 0) a K
theorem zE {a0 H K}(h:zC a0 H K):BQ 86 [a0] H K:=fok A8 PF kM func86 h
def zF:T12:=λa0 H K=>bO (Ar .add a0 (I 8)) λa=>bO (Ar .sub a (I 1)) λb=>bO (Ar .quo b (I 8)) λc=>K c H
theorem zG {a0 H K}(h:zF a0 H K):BQ 87 [a0] H K:=fok A8 PF B7 func87 h
def VX:T11:=λa0 a1 a2 H K=>bO (Aj a0) λc=>bO (Ab 0 c) λd=>bO (Aq false 1 H d) λk=>bO (Aj a0) λl=>bO (Ab 2 l) λm=>bO (Aq false 1 H m) λn=>bO (Ar .mul a1 (I 8)) λo=>bO (Aj a0) λp=>bO (Ab 3 p) λq=>bO (Ab 0 q) λr=>bO (Aq false 1 H r) λe=>bO (Ar .mul a1 (I 8)) λf=>bO (Ar .sub e f) λg=>bO (amm gZ [(I 8),g]) λh=>bO (Bq 1 a2 none (some h) none) λi=>bC (Ba0 44 [k,n,o,i] H) λa b=>bO (Ak a 0) λs=>bO (Ak a 1) λj=>K j b
theorem aO {a0 a1 a2 H K}(h:VX a0 a1 a2 H K):BQ 161 [a0,a1,a2] H K:=fok A8 PF B7 func161 h
def Qg:Nat->Option (List Bool):=BI [(6,mk 30 0 [0,10,11,12]),(3,mk 30 0 [0,10,11,12])]
def Ht (p:List Bool)(n:Nat):List AV->AH->Kf->Prop:=AR prog A8 PF Aw Aw Qg (sub p (AK f90)) n
def JY:T15:=λa b c d e H K=>jn (mk 30 0 [0,10,11,12]) (Ht (pbZ 485) 13) [b,c,d,e] H (M1 (mk 30 0 [0,10,11,12]) a (AP 0 (AO (Ht (pbZ 7) 13) (AN prog f90.results.toList K))))
def Qf:T13:=λa b c d H K=>lp (mk 30 0 [0,10,11,12]) (Ht (pbZ 37) 4) [a,b,c,d] H (AP 0 (AO (Ht (pbZ 7) 13) (AN prog f90.results.toList K)))
def HY:T15:=λa c d e f H K=>bO (Ar .add f (I 1)) λb=>a [c,d,e,b] H
theorem Mz (a:RT)(b c d e:AV)(H:AH)(K:KT):JY a b c d e H K=HY a b c d e H K:=(Bi _ _ _ _ _).trans (by kernel_rfl)
def N7:T15:=λi d e f c H K=>bO (Ar .lss c f) λp=>bB p λm=>bI m (bO (AY 9 e c) λv=>bO (Aq true 9 H v) λx=>bH (AE H (.agg [(I 0),u0Z,u0Z,u0Z,u0Z,u0Z,u0Z,u0Z,u0Z])) λb l=>bS (AU 9 l b x) λh=>bO (Ab 1 b) λy=>bO (Ty 8 1 h y none none) λz=>bH (Co h 1 1 (Bx [Ad] 1) [(0,1,z)]) λA k=>bC (Ba0 162 [A] k) λq a=>bB q λn=>bI n (JY i d e f c a K) (bO (Ab 0 b) λr=>bO (Aq false 1 a r) λs=>bO (Ab 1 b) λt=>bO (Ty 8 1 a t none none) λu=>bC (Ba0 161 [d,s,u] a) λj g=>bO (Ar .neq j (I 0)) λw=>bB w λo=>bI o (K j g) (JY i d e f c g K))) (K (I 0) H)
theorem Uk {K:KT}:rD (λR a b c d H=>N7 R a b c d H K) (λa b c d H=>Qf a b c d H K):=T7 (A3 _ _) (λ_ _ _ _ _ _=>by kernel_rfl)
def VW:T12:=λa0 H K=>bO (Aj a0) λc=>bO (Ab 3 c) λd=>bO (Aq true 2 H d) λe=>bC (Ba0 86 [e] H) λa b=>bO (AW a) λf=>Qf a0 a f (I 0) b K
theorem aN {a0 H K}(h:VW a0 H K):BQ 90 [a0] H K:=fok A8 PF Qg func90 h
def Ui:Dd:=NB [(7,[(5,some 6)])]
def Uj:Nat->Option (List Bool):=BI [(7,mk 46 0 [0,3,17,18]),(13,mk 46 0 [0,3,6,17,18,43]),(12,mk 46 0 [0,3,6,17,18]),(10,mk 46 0 [0,3,4,5,17,18]),(4,mk 46 0 [0,3,17,18])]
def BU (p:List Bool)(n:Nat):List AV->AH->Kf->Prop:=AR prog Ui PF Aw Aw Uj (sub p (AK f89)) n
def Ug:T15:=λa b e c d H K=>jn (mk 46 0 [0,3,17,18]) (BU (pbZ 971) 15) [b,e,c,d] H (M1 (mk 46 0 [0,3,17,18]) a (AP 0 (AO (BU (pbZ 15) 15) (AN prog f89.results.toList K))))
def S6:T19:=λa b e g c d f H K=>jn (mk 46 0 [0,3,6,17,18,43]) (BU (pbZ 64715) 14) [b,e,g,c,d,f] H (AP 1 (AO (De (mk 46 0 [0,3,17,18]) (BU (pbZ 971) 15)) (M1 (mk 46 0 [0,3,17,18]) a (AP 0 (AO (BU (pbZ 15) 15) (AN prog f89.results.toList K))))))
def S5:T17:=λa b e f c d H K=>jn (mk 46 0 [0,3,6,17,18]) (BU (pbZ 31947) 13) [b,e,f,c,d] H (AP 1 (AO (De (mk 46 0 [0,3,17,18]) (BU (pbZ 971) 15)) (M1 (mk 46 0 [0,3,17,18]) a (AP 0 (AO (BU (pbZ 15) 15) (AN prog f89.results.toList K))))))
def Hs:T19:=λa b e f g c d H K=>jn (mk 46 0 [0,3,4,5,17,18]) (BU (pbZ 15563) 12) [b,e,f,g,c,d] H (AP 1 (AO (De (mk 46 0 [0,3,17,18]) (BU (pbZ 971) 15)) (M1 (mk 46 0 [0,3,17,18]) a (AP 0 (AO (BU (pbZ 15) 15) (AN prog f89.results.toList K))))))
def Uh:T13:=λa d b c H K=>lp (mk 46 0 [0,3,17,18]) (BU (pbZ 75) 5) [a,d,b,c] H (AP 0 (AO (BU (pbZ 15) 15) (AN prog f89.results.toList K)))
def Qd:T15:=λa c f d e H K=>bO (Ar .add e (I 1)) λb=>a [c,f,d,b] H
theorem YY (a:RT)(b e c d:AV)(H:AH)(K:KT):Ug a b e c d H K=Qd a b e c d H K:=(Bi _ _ _ _ _).trans (by kernel_rfl)
def Pa:T19:=λa c f h d e g H K=>bB g λb=>bI b (K h H) (Ug a c f d e H K)
theorem Xv (a:RT)(b e g c d f:AV)(H:AH)(K:KT):S6 a b e g c d f H K=Pa a b e g c d f H K:=(Bi _ _ _ _ _).trans (by kernel_rfl)
def OZ:T17:=λb d g a e f H K=>bO (Ar .neq a (I 0)) λc=>S6 b d g a e f c H K
theorem Xu (a:RT)(b e f c d:AV)(H:AH)(K:KT):S5 a b e f c d H K=OZ a b e f c d H K:=(Bi _ _ _ _ _).trans (by kernel_rfl)
def OY:T19:=λc a h i j f g H K=>bO (Ty 8 1 H j none none) λd=>bC (Ba0 161 [a,i,d] H) λe b=>S5 c a h e f g b K
theorem Xt (a:RT)(b e f g c d:AV)(H:AH)(K:KT):Hs a b e f g c d H K=OY a b e f g c d H K:=(Bi _ _ _ _ _).trans (by kernel_rfl)
def Qe:T15:=λg i c f b H K=>bO (Ar .lss b f) λm=>bB m λk=>bI k (bH (AE H (.agg [u0Z,u0Z,u0Z,u0Z,u0Z,u0Z,u0Z,u0Z])) λe d=>bO (AW c) λv=>bO (Ar .gtr v (I 0)) λa=>bG a true λD=>gO D (some c) λw=>bG a true λE=>gO E (AY 9 w (I 0)) λx=>bG a true λy=>gO y (Ab 0 x) λn=>bG a true λz=>gO z (Aq false 1 d n) λo=>bG a true λA=>gO A (some b) λp=>bG a true λC=>gO C (Ar .eql o p) λq=>bO (A0 a q (B false)) λr=>bB r λl=>bI l (bO (AY 9 c (I 0)) λs=>bO (Ab 1 s) λt=>bO (Aq true 8 d t) λu=>bO (Bq 9 c (some (I 1)) none none) λh=>bS (AU 8 d e u) λj=>(Bq 9 c (some (I 1)) none none=some h)/\ Hs g i h b e f b j K) (Hs g i c b e f b d K)) (K (I 0) H)
theorem W8 {K:KT}:rD (λR a d b c H=>Qe R a d b c H K) (λa d b c H=>Uh a d b c H K):=T7 (A3 _ _) (λ_ _ _ _ _ _=>by kernel_rfl)
def ZD:T12:=λa0 H K=>bO (Aj a0) λb=>bO (Ab 3 b) λc=>bO (Aq true 2 H c) λd=>bC (Ba0 86 [d] H) λe a=>bO (Aj a0) λf=>bO (Ab 3 f) λg=>bO (Ab 0 g) λh=>bO (Aq false 1 a h) λi=>bP (Ba1 87 [i] a) λj=>Uh a0 e j (I 0) a K
theorem iP {a0 H K}(h:ZD a0 H K):BQ 89 [a0] H K:=fok Ui PF Uj func89 h
def Xw:T10:=λa0 a1 H K=>bO (Aj a0) λh=>bO (Ab 0 h) λi=>bO (Aq false 1 H i) λo=>bC (Ba0 18 [o,a1,(B true)] H) λc b=>bO (Ak c 0) λd=>bO (Ak c 1) λe=>bO (Ar .neq e (I 0)) λp=>bB p λg=>bI g (K e b) (bO (Aj a0) λq=>bO (Ab 2 q) λj=>bS (AU 1 b j d) λa=>bO (Aj a0) λk=>bO (Ab 0 k) λl=>bO (Aq false 1 a l) λm=>bC (Ba0 19 [m,d,(I 0)] a) λn f=>K n f)
theorem dN {a0 a1 H K}(h:Xw a0 a1 H K):BQ 88 [a0,a1] H K:=fok A8 PF B7 func88 h
def Ul:Dd:=NB [(5,[(16,none)])]
def Um:Nat->Option (List Bool):=BI [(17,mk 101 0 [0]),(19,mk 101 0 [0,12,85]),(18,mk 101 0 [0,12]),(15,mk 101 0 [0,11])]
def Fm (p:List Bool)(n:Nat):List AV->AH->Kf->Prop:=AR prog Ul PF Aw Aw Um (sub p (AK f39)) n
def S7:T12:=λa H K=>jn (mk 101 0 [0]) (Fm (pbZ 1023) 21) [a] H (AN prog f39.results.toList K)
def S8:T11:=λa b c H K=>jn (mk 101 0 [0,12,85]) (Fm (pbZ 3839) 20) [a,b,c] H (AO (De (mk 101 0 [0]) (Fm (pbZ 1023) 21)) (AN prog f39.results.toList K))
def Lu:T10:=λa b H K=>jn (mk 101 0 [0,12]) (Fm (pbZ 1791) 19) [a,b] H (AO (De (mk 101 0 [0]) (Fm (pbZ 1023) 21)) (AN prog f39.results.toList K))
def Fs:T10:=λa b H K=>jn (mk 101 0 [0,11]) (Fm (pbZ 511) 17) [a,b] H (AN prog f39.results.toList K)
def Pb:T12:=λa H K=>bO (Aj a) λc=>bO (Ab 0 c) λd=>bO (Aq false 1 H d) λf=>bO (Aj a) λg=>bO (Ab 2 g) λh=>bO (Aq false 1 H h) λi=>bO (Aj a) λj=>bO (Ab 3 j) λk=>bO (Ab 0 k) λl=>bO (Aq false 1 H l) λm=>bC (Ba0 19 [f,i,m] H) λe b=>K e b
theorem Xx (a:AV)(H:AH)(K:KT):S7 a H K=Pb a H K:=(Bi _ _ _ _ _).trans (by kernel_rfl)
def Pd:T11:=λb c d H K=>bB d λa=>bI a (K c H) (S7 b H K)
theorem Xz (a b c:AV)(H:AH)(K:KT):S8 a b c H K=Pd a b c H K:=(Bi _ _ _ _ _).trans (by kernel_rfl)
def Pc:T10:=λc a H K=>bO (Ar .neq a (I 0)) λb=>S8 c a b H K
theorem Xy (a b:AV)(H:AH)(K:KT):Lu a b H K=Pc a b H K:=(Bi _ _ _ _ _).trans (by kernel_rfl)
def Jf:T10:=λf g H K=>bF true g λa d c=>bT (Ch prog a||!true)<|bC (Ba0 a (d++[]++c) H) λe b=>Lu f e b K
theorem N8 (a b:AV)(H:AH)(K:KT):Fs a b H K=Jf a b H K:=(Bi _ _ _ _ _).trans (by kernel_rfl)
def ZE:T11:=λa0 a1 a2 H K=>bO (Aj a0) λs=>bO (Ab 0 s) λt=>bO (Aq false 1 H t) λE=>bO (Aj a0) λM=>bO (Ab 1 M) λS=>bO (Aq false 1 H S) λX=>bC (Ba0 60 [E,X] H) λk f=>bO (Ak k 0) λv8=>bO (Ak k 1) λm=>bO (Ar .neq m (I 0)) λu=>bB u λo=>bI o (K m f) (bO (Aj a0) λv=>bO (Ab 0 v) λx=>bO (Aq false 1 f x) λy=>bO (Aj a0) λz=>bO (Ab 1 z) λA=>bO (Aq false 1 f A) λC=>bC (Ba0 85 [y,C] f) λD n=>bO (Aj a0) λF=>bO (Ab 3 F) λG=>bS (AU 2 n G D) λd=>bO (OX .eql a2 (.lit (.string ⟨#[97,108,119,97,121,115]⟩))) λc=>bG c false λak=>gO ak (some a2) λJ=>bG c false λal=>gO al (OX .eql J (.lit (.string ⟨#[97,117,116,111]⟩))) λL=>bG c false λam=>gO am (some L) λa=>bG a true λan=>gO an (some a0) λN=>bG a true λao=>gO ao (Aj N) λO=>bG a true λap=>gO ap (Ab 3 O) λP=>bG a true λaq=>gO aq (Aq true 2 d P) λQ=>bG a true λar=>gC ar (Ba0 86 [Q] d) d λR e=>bG a true λau=>gO au (AW R) λT=>bG a true λav=>gO av (some a0) λU=>bG a true λaw=>gO aw (Aj U) λV=>bG a true λax=>gO ax (Ab 3 V) λW=>bG a true λay=>gO ay (Ab 0 W) λh=>bG a true λaz=>gO az (Aq false 1 e h) λi=>bG a true λa3=>gP a3 (Ba2 87 [i]) λY=>bG a true λa4=>gO a4 (Ar .lss T Y) λZ=>bG c false λa5=>gO a5 (A0 a Z (B false)) λaa=>bO (A0 c (B true) aa) λj=>(bG a true λw=>bI w (Aq false 1 d h=some i) True)/\ bO (D5 .not j) λb=>bG b true λa6=>gO a6 (some a0) λab=>bG b true λa7=>gO a7 (Aj ab) λad=>bG b true λa8=>gO a8 (Ab 3 ad) λae=>bG b true λa9=>gO a9 (Ab 0 ae) λaf=>bG b true λba=>gO ba (Aq false 1 e af) λag=>bG b true λbb=>gO bb (Ar .gtr ag (I 32768)) λah=>bO (A0 b ah (B false)) λai=>bB ai λp=>bI p (K (I 4) e) (bC (Ba0 88 [a0,a1] e) λl g=>bO (Ar .neq l (I 0)) λaj=>bB aj λq=>bI q (K l g) (bB j λr=>bI r (Fs a0 (.fn (.func 90) [a0] []) g K) (Fs a0 (.fn (.func 89) [a0] []) g K))))
theorem iQ {a0 a1 a2 H K}(h:ZE a0 a1 a2 H K):BQ 39 [a0,a1,a2] H K:=fok Ul PF Um func39 h
def Agr:T10:=λa0 a1 H K=>bH (AE H (.agg [(I 0),(.lit (.string ⟨#[]⟩)),(I 0),(I 0),(I 0),(I 0),(I 0)])) λa j=>bC (Ba0 38 [a1] j) λb g=>bO (Ak b 0) λz=>bO (Ak b 1) λA=>bO (Ak b 2) λC=>bO (Ak b 3) λD=>bO (D5 .not D) λE=>bB E λn=>bI n (bO (Dy [(I 0),(.lit (.string ⟨#[]⟩)),(I 0),(I 0),(I 0),(I 0),(I 0)] [(0,1,(I 2))]) λo=>bS (AU 7 g a o) λc=>bO (Aq true 7 c a) λp=>K p c) (bC (Ba0 18 [a0,z,(B false)] g) λh d=>bO (Ak h 0) λq=>bO (Ak h 1) λi=>bO (Ar .neq i (I 0)) λr=>bB r λm=>bI m (bO (Dy [(I 0),(.lit (.string ⟨#[]⟩)),(I 0),(I 0),(I 0),(I 0),(I 0)] [(0,1,i)]) λs=>bS (AU 7 d a s) λe=>bO (Aq true 7 e a) λt=>K t e) (bO (Dy [(.lit (.pointer none)),(I 0),(I 0),(I 0),Ad] [(0,1,a0),(1,1,q)]) λu=>bH (AE d u) λv k=>bC (Ba0 39 [v,A,C] k) λw l=>bO (Dy [(I 0),(.lit (.string ⟨#[]⟩)),(I 0),(I 0),(I 0),(I 0),(I 0)] [(0,1,w)]) λx=>bS (AU 7 l a x) λf=>bO (Aq true 7 f a) λy=>K y f))
theorem Aoe {a0 a1 H K}(h:Agr a0 a1 H K):BQ 12 [a0,a1] H K:=fok A8 PF B7 func12 h
def UI:T11:=λa0 a1 a2 H K=>bC (Ba0 46 [a1] H) λo d=>bC (Ba0 46 [a2] d) λu k=>bH (Co k 1 2 (Bx [(.lit (.string ⟨#[]⟩))] 2) [(0,1,o),(1,1,u)]) λb a=>bO (Ar .rem a0 (.lit (.int .u8 4))) λc=>bO (Ar .eql c (.lit (.int .u8 1))) λx=>bB x λn=>bI n (bH (Co a 1 1 (Bx [(.lit (.string ⟨#[]⟩))] 1) [(0,1,(.lit (.string ⟨#[45,45,115,112,97,114,115,101,61,97,108,119,97,121,115]⟩)))]) λy e=>bH (Gt 1 16 e y b) λp f=>K p f) (bO (Ar .eql c (.lit (.int .u8 2))) λq=>bB q λl=>bI l (bH (Co a 1 1 (Bx [(.lit (.string ⟨#[]⟩))] 1) [(0,1,(.lit (.string ⟨#[45,45,115,112,97,114,115,101,61,110,101,118,101,114]⟩)))]) λr g=>bH (Gt 1 16 g b r) λs h=>K s h) (bO (Ar .eql c (.lit (.int .u8 3))) λt=>bB t λm=>bI m (bH (Co a 1 2 (Bx [(.lit (.string ⟨#[]⟩))] 2) [(0,1,(.lit (.string ⟨#[45,45,115,112,97,114,115,101,61,110,101,118,101,114]⟩))),(1,1,(.lit (.string ⟨#[45,45,115,112,97,114,115,101,61,97,117,116,111]⟩)))]) λv i=>bH (Gt 1 16 i b v) λw j=>K w j) (K b a)))
theorem Zm {a0 a1 a2 H K}(h:UI a0 a1 a2 H K):BQ 17 [a0,a1,a2] H K:=fok A8 PF B7 func17 h
def WS:Nat->Bool:=hU []
def Kc:T26:=λH K=>bC (Ba0 10 [(I 9)] H) λc h=>bO (vA .eql pZ c (.lit (.pointer none))) λa=>bG a false λw3=>gO w3 (some c) λO=>bG a false λw5=>gH w5 (Abp 1 1 [u0Z] h (I 20) (I 20)) h λY l=>bG a false λw8=>gH w8 (Co l 1 1 (Bx [Ad] 1) [(0,1,Y)]) l λv9 i=>bG a false λaf=>gA af (Ba3 11 [O,(.lit (.string ⟨#[97]⟩)),v9] i) i λA j=>bG a false λag=>gO ag (Ar .neq A (I 0)) λC=>bO (A0 a (B true) C) λD=>bB D λz=>bI z (K (B false) j) (bH (Co j 1 3 (Bx [(.lit (.string ⟨#[]⟩))] 3) [(0,1,(.lit (.string ⟨#[45,45,115,112,97,114,115,101,61,97,108,119,97,121,115]⟩))),(1,1,(.lit (.string ⟨#[97]⟩))),(2,1,(.lit (.string ⟨#[98]⟩)))]) λE q=>bC (Ba0 12 [c,E] q) λF r=>bH (AE r (.agg [(I 0),(.lit (.string ⟨#[]⟩)),(I 0),(I 0),(I 0),(I 0),(I 0)])) λm s=>bS (AU 7 s m F) λt=>bC (Ba0 14 [c] t) λG k=>bP (Ba1 13 [G,(I 2)] k) λn=>bO (Ak n 0) λJ=>bO (Ak n 1) λL=>bH (AE k (.agg [(I 0),Ad])) λg u=>bS (AU 2 u g J) λv=>bH (Co v 1 1 (Bx [(.lit (.string ⟨#[]⟩))] 1) [(0,1,(.lit (.string ⟨#[97]⟩)))]) λM w=>bC (Ba0 12 [c,M] w) λN x=>bH (AE x (.agg [(I 0),(.lit (.string ⟨#[]⟩)),(I 0),(I 0),(I 0),(I 0),(I 0)])) λo y=>bS (AU 7 y o N) λb=>bO (Ab 0 m) λP=>bO (Aq false 1 b P) λQ=>bO (Ar .eql Q (I 0)) λp=>bG p true λah=>gO ah (some L) λR=>bO (A0 p R (B false)) λe=>bG e true λai=>gO ai (Ab 0 g) λS=>bG e true λaj=>gO aj (Aq false 1 b S) λT=>bG e true λak=>gO ak (Ar .eql T (I 20)) λU=>bO (A0 e U (B false)) λd=>bG d true λal=>gO al (Ab 1 g) λV=>bG d true λam=>gO am (Aq false 1 b V) λW=>bG d true λan=>gO an (AW W) λX=>bG d true λao=>gO ao (Ar .eql X (I 0)) λZ=>bO (A0 d Z (B false)) λf=>bG f true λap=>gO ap (Ab 0 o) λaa=>bG f true λaq=>gO aq (Aq false 1 b aa) λab=>bG f true λar=>gO ar (Ar .eql ab (I 2)) λad=>bO (A0 f ad (B false)) λae=>K ae b)
theorem WQ (H:AH)(K:KT):WE prog A8 PF Aoc WS B7 f3 [] H K=Kc H K:=by kernel_rfl
theorem WR {H:AH}{K:KT}(h:Kc H K):Ba3 3 [] H K:=
 L6 TA func3 (by kernel_rfl) (Eq.mpr (WQ H K) h)
def Ae2:FuncId->Bool:=hU [236,234]
def Aea:FuncId->Bool:=hU [241,237]
def Lk:Nat->Bool:=hU []
def DT:T10:=λa0 a1 H K=>bP (ExtR prog 241 [a0,a1] H) λa=>K a H
theorem Li (a0 a1:AV)(H:AH)(K:KT):WE prog A8 Ae2 Aea Lk B7 f236 [a0,a1] H K=DT a0 a1 H K:=by kernel_rfl
theorem Lj {a0 a1:AV}{H:AH}{K:KT}(h:DT a0 a1 H K):Ba3 236 [a0,a1] H K:=
 L6 TA func236 (by kernel_rfl) (Eq.mpr (Li a0 a1 H K) h)
def Gw:Nat->Option (List Bool):=BI [(39,mk 143 0 [8,13]),(40,mk 143 0 [8,13,139]),(38,mk 143 0 [8,13]),(37,mk 143 0 [0,1,5,6,7,8,9,10,132]),(33,mk 143 0 []),(34,mk 143 0 [8,12,114]),(32,mk 143 0 [8,12]),(31,mk 143 0 [0,1,5,6,7,8,9,10,107]),(30,mk 143 0 [0,1,5,6,7,8,9,10]),(29,mk 143 0 [0,1,5,6,7,8,9,10]),(26,mk 143 0 [0,1,5,6,7,8,9,10]),(27,mk 143 0 [0,1,5,6,7,8,9,10,93]),(20,mk 143 0 [0,1,5,6,7,8,9,10]),(17,mk 143 0 [0,1,5,6,7,8,9,10])]
def Gx:Nat->Bool:=hU []
def GO (p:List Bool)(n:Nat):List AV->AH->Kf->Prop:=AR prog A8 Ae2 Aea Gx Gw (sub p (AK f234)) n
def Nk:T23:=λa b d e f g h c H K=>lp (mk 143 0 [0,1,5,6,7,8,9,10]) (GO (pbZ 2303) 18) [a,b,d,e,f,g,h,c] H (AP 1 (AO (GO (pbZ 1023) 43) (AN prog f234.results.toList K)))
def EN:T10:=λa0 a1 H K=>bO (Ev a1) λa=>bO (Ar .eql a (I 0)) λb=>bG b false λD=>gO D (some a1) λu=>bG b false λG=>gO G (some a0) λy=>bG b false λJ=>gO J (OX .eql u y) λz=>bO (A0 b (B true) z) λA=>bB A λg=>bI g (K (I 0) H) (bO (Ar .eql a (I 1)) λh=>bB h λd=>bI d (bO (N5 a1 (I 0)) λi=>bP (Ba1 236 [a0,i] H) λj=>K j H) (bO (Ev a0) λk=>bO (Ar .geq a k) λl=>bB l λe=>bI e (K (I (-1)) H) (bO (Aq false 1 H (.lit (.pointer (some ⟨0,0,none⟩)))) λm=>bO (Ar .leq a m) λc=>bG c true λC=>gO C (some a0) λn=>bG c true λE=>gO E (Ev n) λo=>bG c true λF=>gO F (Ar .leq o (I 64)) λp=>bO (A0 c p (B false)) λq=>bB q λf=>bI f (bP (ExtR prog 237 [a0,a1] H) λr=>K r H) (bO (N5 a1 (I 0)) λs=>bO (N5 a1 (I 1)) λt=>bO (Ev a0) λv=>bO (Ar .sub v a) λw=>bO (Ar .add w (I 1)) λx=>Nk a0 a1 a s t (I 0) x (I 0) H K))))
theorem NE (a0 a1:AV)(H:AH)(K:KT):WE prog A8 Ae2 Aea Gx Gw f234 [a0,a1] H K=EN a0 a1 H K:=by kernel_rfl
theorem NF {a0 a1:AV}{H:AH}{K:KT}(h:EN a0 a1 H K):Ba3 234 [a0,a1] H K:=
 L6 TA func234 (by kernel_rfl) (Eq.mpr (NE a0 a1 H K) h)
end Go.Proofs.YtbppnhenlboefaaGreat.Av
end
namespace Go.Proofs.YtbppnhenlboefaaGreat.Av
open Go Go.RowKit Go.Proofs.Tryz
section
section
variable {α : Type} {sz : Nat} {H : AH} {v : AV} {cs : List AV} {n : Nat}
theorem Bt (h:Ac H sz v=some (cs,n)):AW v=some (I n):=by
 unfold Ac at h;split at h
 ·split at h
  ·injection h with h;injection h with b a;rw[<- a];rfl
  ·cases h
 ·split at h
  ·split at h
   ·injection h with h;injection h with b a;rw[<- a];rfl
   ·cases h
  ·cases h
 ·injection h with h;injection h with b a;rw[<- a];rfl
 ·injection h with h;injection h with b a;rw[<- a];rfl
 ·cases h
theorem Cn {bytes:Nat}{x:AV}{ds:List AV}{m:Nat}(b:Ac H sz v=some (cs,n))(d:Bm v=true)(a:B1 H sz x=some (ds,m))(c:(n+m)*bytes<=140737488355328):
  ∃r H',Gt sz bytes H v x=some (r,H')/\Bm r=true/\Ac H' sz r=some (cs++ds,n+m)/\H.length<=H'.length/\(∀i,i<H.length->i∉Ba v->H'[i]?=H[i]?)/\∀i∈Ba r,i∈Ba v\/H.length<=i:=by
 obtain⟨r,H',h⟩:=Ann b d (vK a) c;exact⟨r,H',by unfold Gt;rw[a];exact h.1,h.2⟩
abbrev Ai2:=And.intro @and_self @if_true.{1}
abbrev Av9:=@List.take_succ_cons
abbrev Ap3:=@List.take_take
theorem DS (h:Ac H sz v=some (cs,n)){lo hi:Option AV}{l k:Nat}(hl:BL lo 0=some l)(j:BL hi n=some k)(p:l<=k)(m:k<=n):
  ∃r,Bq sz v lo hi none=some r/\Ac H sz r=some ((cs.drop (l*sz)).take ((k - l)*sz),k - l)/\(∀i∈Ba r,i∈Ba v)/\(Bm v=true->Bm r=true)/\(noIds v=true->noIds r=true):=by
 have u:=BW h;have w:l*sz+(k - l)*sz=k*sz:=by rw[<- Ap2];congr 1;omega
 have y:k*sz<=n*sz:=Ak5 _ m;unfold Ac at h;unfold Bq;split at h
 ·rename_i c len q;split at h
  ·rename_i f;obtain⟨rfl,f⟩:=f;injection h with h;injection h with d e;subst d;subst e;simp only[hl,j,p,m,Ai2];refine⟨_,rfl,?_,(λi hi=>hi),(λh=>by simp[Bm]at h),λh=>?_⟩
   ·simp only[Ac,true_and];rw[if_pos (by rw[Aj4,Aj9];omega)]
   ·simp only[noIds]at h|-;have key:∀(c:List AV) (a b:Nat),AF c=true->AF ((c.drop a).take b)=true:=by
     intro c
     induction c with
     | nil=>intro a b _;simp[AF]
     | cons x c ih=>
      intro a b g;simp only[AF,Am0]at g;cases a with
      | zero=>
       cases b with
       | zero=>rfl
       | succ b=>simp only[Al8,Av9,AF,Am0];exact⟨g.1,by simpa using ih 0 b g.2⟩
      | succ a=>simpa using ih a b g.2
    exact key _ _ _ h
  ·cases h
 ·rename_i o z len q t;split at h
  ·rename_i c s;split at h
   ·rename_i f;obtain⟨rfl,f⟩:=f;injection h with h;injection h with d e;subst d;subst e;simp only[Ab8,hl,j];rw[if_pos ⟨p,by omega⟩];refine⟨_,rfl,?_,(λi hi=>hi),(λ_=>rfl),λh=>by simp[noIds]at h⟩;rw[AS s (by omega),Ar1,Ap8,Ap3];congr 3;omega
   ·cases h
  ·cases h
 ·injection h with h;injection h with d e;subst d;subst e;obtain rfl:k=0:=by omega
  obtain rfl:l=0:=by omega
  simp only[hl,j];exact⟨_,rfl,by simp[Ac],(λi hi=>hi),(λ_=>rfl),λ_=>rfl⟩
 ·injection h with h;injection h with d e;subst d;subst e;obtain rfl:k=0:=by omega
  obtain rfl:l=0:=by omega
  simp only[hl,j];exact⟨_,rfl,by simp[Ac],(λi hi=>hi),(λ_=>rfl),λ_=>rfl⟩
 ·cases h
def wX (H:AH):AV->Option (List AV)
 | .ptr o off=>match H[o]? with
  | some (some (.cells cs))=>some (cs.drop off)
  | _=>none
 | .ip cs=>some cs
 | _=>none
theorem PW {g:Bool}{k:Nat}{p:AV}(h:wX H p=some cs)(b:0<k)(hl:k<=cs.length):Aq g k H p=A1 g k cs 0:=by
 unfold wX at h;unfold Aq;split at h
 ·rename_i o d;simp only;split at h
  ·rename_i c a;injection h with h;subst h;unfold A1;rw[Aj9]at hl;simp only[a];cases g
   ·simp
   ·simp only[if_true];rw[if_pos (by omega),if_pos (by rw[Aj9];omega)];simp
  ·cases h
 ·injection h with h;subst h;rfl
 ·cases h
theorem iI {k:Nat}{p:AV}(h:wX H p=some cs):∃q,Ab k p=some q/\wX H q=some (cs.drop k):=by
 unfold wX at h;split at h
 ·rename_i o b;split at h
  ·rename_i c a;injection h with h;subst h;exact⟨_,rfl,by simp[wX,a]⟩
  ·cases h
 ·injection h with h;subst h;exact⟨_,rfl,rfl⟩
 ·cases h
theorem I8 (h:Ac H sz v=some (cs,n)){k:Nat}{i:Int}(hi:i=k)(f:k<n):∃p c,AY sz v (.lit (.int .i64 i))=some p/\wX H p=some c/\c.take sz=(cs.drop (k*sz)).take sz/\sz<=c.length:=by
 subst hi;have m:=BW h;have q:k*sz+sz<=n*sz:=by rw[<- An4];exact Ak5 _ f
 unfold Ac at h;unfold AY;simp only[OG];split at h
 ·rename_i c len e;split at h
  ·rename_i d;obtain⟨rfl,d⟩:=d;injection h with h;injection h with a b;subst a;subst b;refine⟨_,_,if_pos (by omega),rfl,by simp,by simp;omega⟩
  ·cases h
 ·rename_i o j len e l;split at h
  ·rename_i c g;split at h
   ·rename_i d;obtain⟨rfl,d⟩:=d;injection h with h;injection h with a b;subst a;subst b;refine⟨_,c.drop (j+k*e),if_pos (by omega),by simp[wX,g],?_,by rw[Aj9];omega⟩;rw[Ar1,Ap8,Ap3];congr 1;omega
   ·cases h
  ·cases h
 ·injection h with h;injection h with a b;omega
 ·injection h with h;injection h with a b;omega
 ·cases h
end
mutual
theorem YI (X:AH):∀(a:AV),noIds a=true->∃n0,∀n,n0<=n->Se X n a=some a
 | .lit v,_=>⟨1,λn hn=>by cases n with
  | zero=>omega
  | succ n=>rfl⟩
 | .ip cs,h=>by
  simp only[noIds]at h;obtain⟨n0,h0⟩:=FA X cs h;refine⟨n0+1,λn hn=>?_⟩;cases n with
  | zero=>omega
  | succ n=>simp only[Se,h0 n (by omega)];rfl
 | .imm cs len esz,h=>by
  simp only[noIds]at h;obtain⟨n0,h0⟩:=FA X cs h;refine⟨n0+1,λn hn=>?_⟩;cases n with
  | zero=>omega
  | succ n=>simp only[Se,h0 n (by omega)];rfl
 | .agg cs,h=>by
  simp only[noIds]at h;obtain⟨n0,h0⟩:=FA X cs h;refine⟨n0+1,λn hn=>?_⟩;cases n with
  | zero=>omega
  | succ n=>simp only[Se,h0 n (by omega)];rfl
 | .tup cs,h=>by
  simp only[noIds]at h;obtain⟨n0,h0⟩:=FA X cs h;refine⟨n0+1,λn hn=>?_⟩;cases n with
  | zero=>omega
  | succ n=>simp only[Se,h0 n (by omega)];rfl
 | .fn f a b,h=>by
  simp only[noIds,Am0]at h;obtain⟨n0,h0⟩:=FA X a h.1;obtain⟨n1,h1⟩:=FA X b h.2;refine⟨n0+n1+1,λn hn=>?_⟩;cases n with
  | zero=>omega
  | succ n=>simp only[Se,h0 n (by omega),h1 n (by omega)]
 | .emp,_=>⟨1,λn hn=>by cases n with
  | zero=>omega
  | succ n=>rfl⟩
 | .junk,_=>⟨1,λn hn=>by cases n with
  | zero=>omega
  | succ n=>rfl⟩
 | .ptr ..,h=>by simp[noIds]at h
 | .sl ..,h=>by simp[noIds]at h
 | .mp ..,h=>by simp[noIds]at h
theorem FA (X:AH):∀(asx:List AV),AF asx=true->∃n0,∀n,n0<=n->T8 (Se X n) asx=some asx
 | [],_=>⟨0,λ_ _=>rfl⟩
 | a::asx,h=>by
  simp only[AF,Am0]at h;obtain⟨n0,h0⟩:=YI X a h.1;obtain⟨n1,h1⟩:=FA X asx h.2;exact⟨n0+n1,λn hn=>by simp only[T8,h0 n (by omega),h1 n (by omega)]⟩
end
theorem iY {X:AH}{sz:Nat}{r:AV}{cs:List AV}{m:Nat}(h:Ac X sz r=some (cs,m))(e:AF cs=true):∃R n0,noIds R=true/\(∀H,Ac H sz R=some (cs,m))/\∀n,n0<=n->Se X n r=some R:=by
 have i:=BW h;unfold Ac at h;split at h
 ·rename_i c len f;split at h
  ·rename_i d;injection h with h;injection h with a b;subst a;subst b;obtain⟨n0,g⟩:=YI X (.imm c len f) (by simpa only[noIds]using e);exact⟨_,n0,by simpa only[noIds]using e,λH=>by simp[Ac,d.1,d.2],g⟩
  ·cases h
 ·rename_i o p len f l;split at h
  ·rename_i c k;split at h
   ·rename_i d;injection h with h;injection h with a b;obtain⟨n0,g⟩:=FA X cs e;refine⟨.imm cs len f,n0+1,by simpa only[noIds]using e,λH=>?_,λn j=>?_⟩
    ·rw[<- b]at i|-;simp[Ac,d.1,i]
    ·cases n with
     | zero=>omega
     | succ n=>
      obtain⟨rfl,-⟩:=d;simp only[Se,k,a,g n (by omega)];rfl
   ·cases h
  ·cases h
 ·injection h with h;injection h with a b;subst a;subst b
  exact⟨_,1,rfl,λH=>rfl,λn j=>by cases n with
   | zero=>omega
   | succ n=>rfl⟩
 ·injection h with h;injection h with a b;subst a;subst b
  exact⟨_,1,rfl,λH=>rfl,λn j=>by cases n with
   | zero=>omega
   | succ n=>rfl⟩
 ·cases h
section
variable {P : Program} {f : FuncId} {args : List AV}
theorem BPure.fz {Q:AV->Prop}(a:AF args=true)(h:∃r X,(∃n R,Se X n r=some R/\Q R)/\BCall P f args [] r X):∃R,Q R/\BPure P f args R:=by
 obtain⟨r,X,⟨n,R,b,c⟩,h⟩:=h;exact⟨R,c,BPure.of h a b⟩
theorem BPure.val {R:AV}(c:AF args=true)(b:noIds R=true)(h:∃r X,r=R/\BCall P f args [] r X):BPure P f args R:=by
 obtain⟨r,X,rfl,h⟩:=h;obtain⟨n0,a⟩:=YI X r b;exact BPure.of h c (a n0 (Aj7 _))
theorem BPure.sl {sz:Nat}{cs:List AV}{m:Nat}(e:AF args=true)(g:AF cs=true)(h:∃r X,Ac X sz r=some (cs,m)/\BCall P f args [] r X):∃R,(noIds R=true/\∀H,Ac H sz R=some (cs,m))/\BPure P f args R:=by
 obtain⟨r,X,a,h⟩:=h;obtain⟨R,n0,b,c,d⟩:=iY a g;exact⟨R,⟨b,c⟩,BPure.of h e (d n0 (Aj7 _))⟩
end
end
section
section
variable {P : Program}
structure RecAt (G:Cfg)(l:Nat)(r:Loop):Prop where
 h:G.w.heap[l]?=some (.loop r)
 nl:¬G.L l
theorem RecAt.evo {G G':Cfg}{l:Nat}{r:Loop}(h:RecAt G l r)(a:Evo G G'):RecAt G' l r:=⟨(eU a h.h h.nl).1,(eU a h.h h.nl).2⟩
structure EvoX (l:Nat)(G G':Cfg):Prop where
 os:G'.w.os=G.w.os
 tape:G'.w.tape=G.w.tape
 output:G'.w.output=G.w.output
 size:G.w.heap.size<=G'.w.heap.size
 keep:∀k,k<G.w.heap.size->k≠l->¬G.L k->G'.w.heap[k]?=G.w.heap[k]?/\¬G'.L k
 n:G.n<=G'.n
 μ:∀o,o<G.n->G'.μ o=G.μ o
 K:G'.K=G.K
 has:∀ad vs,Has G ad vs->Has G' ad vs
theorem EvoX.tr {l:Nat}{G G':Cfg}(h:EvoX l G G'):Tr G G':=⟨h.n,h.μ,h.has⟩
theorem Evo.x {l:Nat}{G G':Cfg}(h:Evo G G'):EvoX l G G':=⟨h.os,h.tape,h.output,h.size,λk c _ a=>h.keep k c a,h.n,h.μ,h.K,λ_ _ b=>b.evo h⟩
theorem EvoX.trans {l:Nat}{A B C:Cfg}(h:EvoX l A B)(k:EvoX l B C):EvoX l A C:=
 ⟨k.os.trans h.os,k.tape.trans h.tape,k.output.trans h.output,Al1 h.size k.size,λi b c m=>by obtain⟨f,a2⟩:=h.keep i b c m;obtain⟨g,j⟩:=k.keep i (Am7 b h.size) c a2;exact⟨g.trans f,j⟩,Al1 h.n k.n,λo d=>(k.μ o (Am7 d h.n)).trans (h.μ o d),k.K.trans h.K,λa e p=>k.has a e (h.has a e p)⟩
theorem nC {r:Loop}:∀c e f,Obj.loop r≠.cells c e f:=by intro c e f h;cases h
theorem Aof (w:World)(l:Nat)(x:Obj):(w.putObj l x).heap.size=w.heap.size:=by simp[World.putObj]
theorem EvoX.put {l:Nat}{G:Cfg}{r:Loop}(h:G.w.heap[l]?=some (.loop r))(x:Obj):EvoX l G (G.put l x):=
 ⟨rfl,rfl,rfl,by simp only[Cfg.put,Aof];exact Aj7 _,λk c b a=>⟨by simp only[Cfg.put];exact World.putObj_heap_other b,a⟩,Aj7 _,λ_ _=>rfl,rfl,(Tr.put h nC x).has⟩
theorem Evo.transX {l:Nat}{A B C:Cfg}(h:Evo A B)(hl:A.w.heap.size<=l)(k:EvoX l B C):Evo A C:=
 ⟨k.os.trans h.os,k.tape.trans h.tape,k.output.trans h.output,Al1 h.size k.size,λi a f=>by obtain⟨c,a2⟩:=h.keep i a f;obtain⟨d,e⟩:=k.keep i (Am7 a h.size) (by omega) a2;exact⟨d.trans c,e⟩,Al1 h.n k.n,λo b=>(k.μ o (Am7 b h.n)).trans (h.μ o b),k.K.trans h.K⟩
theorem DF.x {l:Nat}{G G':Cfg}{ρ:Aao}{a a':Act}(h:DF G ρ a)(g:EvoX l G G')(t:a'.defers=a.defers)(u:∀D,G.w.heap[D]?=some (.deferred (some []))->D≠l)(hr:ρ.1=some l->∃r,G'.w.heap[l]?=some (.loop r)/\¬G'.L l):DF G' ρ a':=by
 obtain⟨⟨k,m,n,o⟩,p,q⟩:=h;refine⟨⟨k,by rw[t,m],n,λD s=>?_⟩,λi j=>?_,Al1 q g.size⟩
 ·obtain⟨b,a2,d⟩:=o D s;obtain⟨e,f⟩:=g.keep D (Array.getElem?_eq_some_iff.1 d).1 (u D d) a2;exact⟨b,f,by rw[e];exact d⟩
 ·by_cases c:i=l
  ·subst c;exact hr j
  ·obtain⟨r,b,a2⟩:=p i j;obtain⟨e,f⟩:=g.keep i (Array.getElem?_eq_some_iff.1 b).1 c a2;exact⟨r,by rw[e];exact b,f⟩
def sM (P:Program)(b c:Code)(T:List AV)(p:Tmp)(x:AV)(H:AH)(J:AH->Prop)(X:Code->AH->Prop):Prop:=
 ∃a,BCode P b (T.set p x) H .normal a H/\ACode P c (λe _ H'=>match e with
  | .normal=>J H'
  | .ret=>X .ret H'
  | .exit id=>X (.exit id) H'
  | _=>False) a H
theorem PE {w:World}{l:Nat}{r:Loop}(h:w.heap[l]?=some (.loop r)):∀D,w.heap[D]?=some (.deferred (some []))->D≠l:=by
 rintro D a rfl;rw[h]at a;cases a
theorem Aog {G:Cfg}{l:Nat}{b:Loop}{T:List AV}{p:Tmp}{x:AV}{v:Value}{H:AH}{J:AH->Prop}{X:Code->AH->Prop}(A:HR G H)(j:RecAt G l b)(E:b.state=.ready)(N:b.pending=none)(O:b.params= #[p])
  (hT:VRs G T b.tmps.toList) (hx:VR G x v) (h:sM P b.assign b.body T p x H J X):
  YieldAt (FW none) 0 P l #[v] G.w λe R=>∃(G':Cfg) (H':AH),G'.w=R/\EvoX l G G'/\HR G' H'/\((e=.returned (.bool true)/\RecAt G' l b/\J H')\/(e=.returned (.bool false)/\∃c,RecAt G' l {b with state:=.done,pending:=some c}/\X c H')):=by
 refine⟨b.fn,_,b.assign,b.body,run_yield j.h (by simp[O]),roundIn_of_wpIn trivial ?_⟩;obtain⟨T1,U,V⟩:=h;have W:FR G (T.set p x) {tmps:=(b.params.zip #[v]).foldl (fun k (t,a)=>k.setIfInBounds t a) b.tmps,defers:=[]}:=by
  show VRs G _ _;rw[O];simp only[Array.zip,Array.zipWith];have:(#[p].zip #[v]).foldl (fun k (x:Tmp×Value)=>k.setIfInBounds x.1 x.2) b.tmps=b.tmps.setIfInBounds p v:=by simp
  refine(?_:VRs G (T.set p x) ((#[p].zip #[v]).foldl (fun k (x:Tmp×Value)=>k.setIfInBounds x.1 x.2) b.tmps).toList);rw[this,Ar9];exact hT.set p hx
 have w1:=U G G _ (some l,0) (Evo.refl G) W ⟨⟨[],rfl,Aw0,λ_ h=>(by cases h)⟩,λl' D=>(by injection D with D;subst D;exact⟨b,j.h,j.nl⟩),Nat.zero_le _⟩ A;refine Code.wpIn_mono ?_ w1;rintro e S ae ⟨T',H',m,rfl,I,Y,aa,L,d⟩;simp only[AQ.is,Ao1]at d;obtain⟨rfl,rfl,rfl⟩:=d;have g:=j.evo I;refine⟨_,run_beginRound g.h E,?_⟩;have Q:∀{G:Cfg} {H:AH} {r:Loop},HR G H->RecAt G l r->∀(o:Nat) (z:AObj),H[o]?=some (some z)->(G.μ o).1≠l:=λA j o z ho e=>j.nl (by have:=A.live o z ho;rwa[e]at this);have C:EvoX l m (m.put l (.loop {b with state:=.busy})):=EvoX.put g.h _;have Z:=L.putO (Q L g) g.h nC (.loop {b with state:=.busy});have B:RecAt (m.put l (.loop {b with state:=.busy})) l {b with state:=.busy}:=⟨World.putObj_heap_same (Array.getElem?_eq_some_iff.1 g.h).1,g.nl⟩;have w2:=V (m.put l (.loop {b with state:=.busy})) (m.put l (.loop {b with state:=.busy})) S (some l,0) (Evo.refl _) (VRs.tr C.tr Y) (aa.x C rfl (PE g.h) λ_=>⟨_,B.h,B.nl⟩) Z;refine Code.wpIn_mono ?_ w2;rintro e a3 w3 ⟨T3,n,i,rfl,K,ab,ad,M,d⟩;have f:=B.evo K;have q:∀x,EvoX l G (i.put l x):=λx=>(I.x.trans C).trans (K.x.trans (EvoX.put f.h x));have y:∀r,RecAt (i.put l (.loop r)) l r:=λr=>⟨World.putObj_heap_same (Array.getElem?_eq_some_iff.1 f.h).1,f.nl⟩;have u:∀x,HR (i.put l x) n:=λx=>M.putO (Q M f) f.h nC x;cases e with
 | normal=>
  refine⟨_,_,run_endRound none f.h,i.put l _,n,rfl,q _,u _,.inl ⟨rfl,?_,d⟩⟩;have:({{b with state:=.busy} with state:=if(none:Option Code).isNone then .ready else .done,pending:=none}:Loop)=b:=by obtain⟨s,pe,f1,f2,f3,f4,f5,f6⟩:=b;simp only at E N;subst E;subst N;rfl
  have F:=y ({{b with state:=.busy} with state:=if(none:Option Code).isNone then .ready else .done,pending:=none});rw[this]at F|-;exact F
 | ret=>exact⟨_,_,run_endRound (some .ret) f.h,i.put l _,n,rfl,q _,u _,.inr ⟨rfl,.ret,y _,d⟩⟩
 | exit id=>exact⟨_,_,run_endRound (some (.exit id)) f.h,i.put l _,n,rfl,q _,u _,.inr ⟨rfl,.exit id,y _,d⟩⟩
 | goto t=>exact d.elim
 | panic ch=>exact d.elim
 | outgrown=>exact d.elim
def uW (P:Program)(k:FuncId)(h:List AV)(f:AH->Prop)(xs:List AV):Prop:=∀(G:Cfg) (l:Nat) (a:Loop) (T:List AV) (p:Tmp) (H:AH) (d:List Value) (J:Nat->AH->Prop) (X:Code->AH->Prop),HR G H->RecAt G l a->a.state=.ready->a.pending=none->a.params= #[p]->VRs G T a.tmps.toList->VRs G h d->J 0 H-> (∀i H',J i H'->f H')->(∀i x H',xs[i]?=some x->J i H'->sM P a.assign a.body T p x H' (J (i+1)) X)-> CallsIn (FW none) 0 P k (#[.func (.yield l) #[] #[]]++d.toArray) G.w λe g=>(∃v,e=.returned v)/\∃(b:Cfg) (H':AH),b.w=g/\EvoX l G b/\HR b H'/\((RecAt b l a/\J xs.length H')\/∃c,RecAt b l {a with state:=.done,pending:=some c}/\X c H')
theorem HR.allocO {G:Cfg}{H:AH}(hr:HR G H)(x:Obj):HR {G with w:=G.w.alloc x} H/\Evo G {G with w:=G.w.alloc x}:=by
 have c:Evo G {G with w:=G.w.alloc x}:=⟨rfl,rfl,rfl,by simp,λk f d=>⟨Below.heap_alloc _ _ _ f,d⟩,Aj7 _,λ_ _=>rfl,rfl⟩;exact⟨⟨hr.n,λo z a=>OR.evo c (hr.lt_n a) (Below.heap_alloc _ _ _ (hr.lt _ (.inl (hr.live _ _ a)))) (hr.obj o z a),hr.inj,hr.live,λb e=>by have:=hr.lt b e;simp;omega,hr.dis⟩,c⟩
theorem tW:∀{A B:List Nat},A.map Abx=B.map Abx->A=B
 | [],[],_=>rfl
 | [],b::B,h=>by simp at h
 | a::A,[],h=>by simp at h
 | a::A,b::B,h=>by
  simp only[Ag5]at h;have c:a=b:=by have:=h.1;injection this with d _;injection d
  rw[c,tW h.2]
theorem ACode.rangeF {g:Operand}{p:Tmp}{assign body:Code}{Q:AQ}{T:List AV}{H:AH}{k:FuncId}{cap xs:List AV}{Cap:AH->Prop}(hit:uW P k cap Cap xs)(hgo:Ch P k=true)(hg:Cf T g=.fn (.func k) [] cap)
  (J:Nat->AH->Prop) (X:Code->AH->Prop) (h0:J 0 H) (hcap:∀i H',J i H'->Cap H') (hr:∀i x H',xs[i]?=some x->J i H'->sM P assign body T p x H' (J (i+1)) X) (hdone:∀H',J xs.length H'->Q .normal T H')
  (hout:∀c H',X c H'->(c=.ret/\Q .ret T H')\/∃id,c=.exit id/\Q (.exit id) T H'):ACode P (.rangeFunc g #[p] assign body) Q T H:=by
 intro G0 G a ρ hE hF hd hH;refine wpIn_rangeFunc ?_;intro fn _
 obtain⟨l,mk,G1,rec,e1,hE1,hH1,hR,hrd,hpd,hps,htm,has,hbd,hsz,hd1⟩:∃(l:Nat) (mk:List Deferred) (G1:Cfg) (rec:Loop),(Instr.enterLoop fn a.tmps #[p] assign body (FW ρ.1).round).run P G.w=.ok (l,mk) G1.w/\Evo G G1/\HR G1 H/\RecAt G1 l rec/\rec.state=.ready/\rec.pending=none/\
   rec.params= #[p]/\rec.tmps=a.tmps/\rec.assign=assign/\rec.body=body/\G.w.heap.size<=l/\DF G1 ρ {a with defers:=mk++a.defers}:=by
  have nL:∀b,G.w.heap.size<=b->¬G.L b:=λb hb hL=>by have:=hH.lt b (.inl hL);omega
  cases hρ:ρ.1 with
  | none=>
   obtain⟨k1,k2⟩:=hH.allocO (.deferred (some []));obtain⟨k3,k4⟩:=k1.allocO (.loop {state:=.ready,pending:=none,fn,tmps:=a.tmps,params:=#[p],assign,body,defers:=G.w.heap.size});refine⟨G.w.heap.size+1,_,_,{state:=.ready,pending:=none,fn,tmps:=a.tmps,params:=#[p],assign,body,defers:=G.w.heap.size},run_enterLoop_outer _ _ _ _ _,k2.trans k4,k3,⟨?_,nL _ (by omega)⟩,rfl,rfl,rfl,rfl,rfl,rfl,by omega,?_⟩
   ·have:=World.alloc_heap_new (G.w.alloc (.deferred (some []))) (.loop {state:=.ready,pending:=none,fn,tmps:=a.tmps,params:=#[p],assign,body,defers:=G.w.heap.size})
    rwa[World.size_alloc]at this
   ·have hD:((G.w.alloc (.deferred (some []))).alloc (.loop {state:=.ready,pending:=none,fn,tmps:=a.tmps,params:=#[p],assign,body,defers:=G.w.heap.size})).heap[G.w.heap.size]?=some (.deferred (some [])):=
     (Below.heap_alloc _ _ _ (by simp)).trans (World.alloc_heap_new G.w _)
    obtain⟨⟨Ds,h1,h2,h3⟩,h4,h5⟩:=hd.evo (k2.trans k4) (a':=a) rfl;refine⟨⟨G.w.heap.size::Ds,by simp[h1],Ar7.2 ⟨λhm=>?_,h2⟩,λD hDm=>?_⟩,h4,h5⟩
    ·obtain⟨⟨Ds',h1',h2',h3'⟩,-,-⟩:=hd;have:Ds'=Ds:=by rw[h1]at h1';exact(tW h1').symm
     have:=(Array.getElem?_eq_some_iff.1 (h3' _ (by rw[this];exact hm)).2.2).1;omega
    ·rcases Al3.1 hDm with rfl | hDm
     ·exact⟨hd.lb,nL _ (Aj7 _),hD⟩
     ·exact h3 D hDm
  | some l0=>
   obtain⟨r0,hr0,hl0⟩:=hd.round l0 hρ;obtain⟨k1,k2⟩:=hH.allocO (.loop {state:=.ready,pending:=none,fn,tmps:=a.tmps,params:=#[p],assign,body,defers:=r0.defers});exact⟨G.w.heap.size,[],_,{state:=.ready,pending:=none,fn,tmps:=a.tmps,params:=#[p],assign,body,defers:=r0.defers},run_enterLoop_inner hr0 _ _ _ _ _,k2,k1,⟨World.alloc_heap_new G.w _,nL _ (Aj7 _)⟩,rfl,rfl,rfl,rfl,rfl,rfl,Aj7 _,hd.evo k2 rfl⟩
 have hfv:=hF.eval g;rw[hg]at hfv;simp only[VR]at hfv;obtain⟨va,vb,hv,hva,hvb⟩:=hfv;have:va= #[]:=by simp only[VRs]at hva;exact Array.toList_eq_nil_iff.1 hva
 subst this;have hci:(invoke (.fn (.func k) vb) #[.func (.yield l) #[] #[]]).run P G1.w=.ok (.enter k (#[.func (.yield l) #[] #[]]++vb)) G1.w:=by
  unfold Ch at hgo;split at hgo
  ·rename_i f0 hfn';simp only [Ad6] at hgo;obtain ⟨b,hbody⟩:=Option.isSome_iff_exists.1 hgo.1;have hne : ¬ f0.name = "runtime.NumGoroutine" := by have := hgo.2; simpa using this
   simp[invoke,callFunc,hfn',hne,hbody]
  ·cases hgo
 refine⟨l,mk,G1.w,{target:=.fn (.func k) vb,args:=#[.func (.yield l) #[] #[]]},G1.w,k,#[.func (.yield l) #[] #[]]++vb,G1.w,e1,?_,λ_ _=>trivial,hci,λhn=>(by simp[Fence.wide]at hn),?_⟩
 ·simp only[resolve,hv];simp[go_sem]
 ·have hT1:VRs G1 T rec.tmps.toList:=by rw[htm];exact VRs.evo hE1 hF
  have hc:=hit G1 l rec T p H vb.toList J X hH1 hR hrd hpd hps hT1 (VRs.evo hE1 hvb) h0 hcap (by rw[has,hbd];exact hr);have hc2:CallsIn (FW ρ.1) 0 P k (#[.func (.yield l) #[] #[]]++vb) G1.w λe W'=>(∃v,e=.returned v)/\∃(G':Cfg) (H':AH),G'.w=W'/\EvoX l G1 G'/\HR G' H'/\((RecAt G' l rec/\J xs.length H')\/∃c,RecAt G' l {rec with state:=.done,pending:=some c}/\X c H'):=by
   have h1:(vb.toList.toArray)=vb:=by simp
   rw[h1]at hc;cases ρ.1 with
   | none=>exact hc
   | some l0=>exact CallsIn.inRound l0 hc
  refine CallsIn.mono hc2 ?_;rintro e W' ⟨⟨v,rfl⟩,G2,H2,rfl,hX,hH2,hcase⟩;have fin:∀(r:Loop),RecAt G2 l r->∀x,Evo G0 (G2.put l x):=λr hr x=>(hE.trans hE1).transX (Al1 hE.size hsz) (hX.trans (EvoX.put hr.h x));have ndf:∀D,G1.w.heap[D]?=some (.deferred (some []))->D≠l:=PE hR.h;have finD:∀(r:Loop),RecAt G2 l r->∀r',DF (G2.put l (.loop r')) ρ {a with defers:=mk++a.defers}:=λr hr r'=>hd1.x (hX.trans (EvoX.put hr.h _)) rfl ndf (λ_=>⟨r',World.putObj_heap_same (Array.getElem?_eq_some_iff.1 hr.h).1,hr.nl⟩);have finH:∀(r:Loop),RecAt G2 l r->∀x,HR (G2.put l x) H2:=λr hr x=>hH2.putO (λo z ho e=>hr.nl (by have:=hH2.live o z ho;rwa[e]at this)) hr.h nC x;have finF:∀(r:Loop),RecAt G2 l r->∀x,FR (G2.put l x) T {a with defers:=mk++a.defers}:=λr hr x=>VRs.tr (hX.trans (EvoX.put hr.h x)).tr (VRs.evo hE1 hF);rcases hcase with⟨hr2,hj⟩ | ⟨c,hr2,hx⟩
  ·refine⟨none,_,?_,T,H2,G2.put l (.loop {rec with state:=.exhausted}),rfl,fin _ hr2 _,finF _ hr2 _,finD _ hr2 _,finH _ hr2 _,hdone H2 hj⟩;have:=run_endLoop (P:=P) hr2.h (by rw[hrd];simp);refine this.trans ?_;rw[hpd];rfl
  ·refine⟨some c,_,run_endLoop (P:=P) hr2.h (by simp),?_⟩;rcases hout c H2 hx with⟨rfl,hq⟩ | ⟨id,rfl,hq⟩
   ·exact wpIn_ret ⟨T,H2,G2.put l (.loop {{rec with state:=.done,pending:=some _} with state:=.exhausted}),rfl,fin _ hr2 _,finF _ hr2 _,finD _ hr2 _,finH _ hr2 _,hq⟩
   ·exact wpIn_exit ⟨T,H2,G2.put l (.loop {{rec with state:=.done,pending:=some _} with state:=.exhausted}),rfl,fin _ hr2 _,finF _ hr2 _,finD _ hr2 _,finH _ hr2 _,hq⟩
end
end
section
section
variable {P : Program}
structure XSt (l:Nat)(G0 G:Cfg)(T:List AV)(H:AH)(r:Loop)(a:Act):Prop where
 x:EvoX l G0 G
 f:FR G T a
 d:DF G (none,G0.w.heap.size) a
 h:HR G H
 ra:RecAt G l r
abbrev XQ:=Exit->List AV->AH->Loop->Prop
def Aeb (l:Nat)(G0:Cfg)(Q:XQ):Exit->Act->World->Prop:=λe a w=>∃(T:List AV) (H:AH) (G:Cfg) (r:Loop),G.w=w/\XSt l G0 G T H r a/\Q e T H r
def XCode (P:Program)(l:Nat)(G0:Cfg)(c:Code)(Q:XQ)(T:List AV)(H:AH)(r:Loop):Prop:=∀(G:Cfg) (a:Act),XSt l G0 G T H r a->c.wpIn (FW none) 0 P (Aeb l G0 Q) a G.w
def XOps (P:Program)(l:Nat)(G0:Cfg)(ops:Array Oper)(Q:XQ)(b:List Oper)(T:List AV)(H:AH)(r:Loop):Prop:=∀(G:Cfg) (a:Act),XSt l G0 G T H r a->wpListIn (FW none) 0 P ops (Aeb l G0 Q) b a G.w
variable {l : Nat} {G0 : Cfg}
theorem YW {Q:XQ}{e:Exit}{T:List AV}{H:AH}{r:Loop}(h:Q e T H r){G:Cfg}{a:Act}(hs:XSt l G0 G T H r a):Aeb l G0 Q e a G.w:=⟨T,H,G,r,rfl,hs,h⟩
theorem XCode.of {c:Code}{Q:XQ}{T:List AV}{H:AH}{r:Loop}(h:ACode P c (λe T H=>Q e T H r) T H):XCode P l G0 c Q T H r:=by
 intro G a hs;refine Code.wpIn_mono ?_ (h G G a (none,G0.w.heap.size) (Evo.refl G) hs.f hs.d hs.h);rintro e a w ⟨i,H',g,rfl,b,j,m,k,n⟩;exact⟨i,H',g,r,rfl,⟨hs.x.trans b.x,j,m,k,hs.ra.evo b⟩,n⟩
def XQ.then (next:List AV->AH->Loop->Prop)(Q:XQ):XQ
 | .normal,T,H,r=>next T H r
 | e,T,H,r=>Q e T H r
theorem XCode.seq {x y:Code}{Q:XQ}{T:List AV}{H:AH}{r:Loop}(h:XCode P l G0 x (XQ.then (XCode P l G0 y Q) Q) T H r):XCode P l G0 (.seq x y) Q T H r:=by
 intro G a hs;refine wpIn_seq (Code.wpIn_mono ?_ (h G a hs));rintro e g j ⟨f,H',b,i,rfl,d,c⟩;cases e with
 | normal=>exact c b g d
 | _=>exact⟨f,H',b,i,rfl,d,c⟩
theorem XCode.cond {c:Operand}{x y:Code}{Q:XQ}{T:List AV}{H:AH}{r:Loop}{b:Bool}(d:Cf T c=.lit (.bool b))(h:XCode P l G0 (if b then x else y) Q T H r):XCode P l G0 (.cond c x y) Q T H r:=by
 intro G a hs;have:=hs.f.eval c;rw[d]at this;simp only[VR]at this;exact wpIn_cond this (h G a hs)
theorem XCode.skip {Q:XQ}{T:List AV}{H:AH}{r:Loop}(h:Q .normal T H r):XCode P l G0 .skip Q T H r:=λG a hs=>wpIn_skip (YW h hs)
theorem XCode.exit {id:Nat}{Q:XQ}{T:List AV}{H:AH}{r:Loop}(h:Q (.exit id) T H r):XCode P l G0 (.exit id) Q T H r:=λG a hs=>wpIn_exit (YW h hs)
theorem XCode.ret {Q:XQ}{T:List AV}{H:AH}{r:Loop}(h:Q .ret T H r):XCode P l G0 .ret Q T H r:=λG a hs=>wpIn_ret (YW h hs)
def XQ.inBlock (id:Nat)(Q:XQ):XQ
 | .exit id',T,H,r=>if id'=id then Q .normal T H r else Q (.exit id') T H r
 | e,T,H,r=>Q e T H r
theorem XCode.block {id:Nat}{c:Code}{Q:XQ}{T:List AV}{H:AH}{r:Loop}(h:XCode P l G0 c (Q.inBlock id) T H r):XCode P l G0 (.block id c) Q T H r:=by
 intro G a hs;refine wpIn_block (Code.wpIn_mono ?_ (h G a hs));rintro e k m ⟨f,H',d,j,rfl,i,b⟩;cases e with
 | exit id'=>
  simp only[XQ.inBlock]at b;simp only[Exit.inBlock];split
  ·rename_i g;rw[if_pos g]at b;exact⟨f,H',d,j,rfl,i,b⟩
  ·rename_i g;rw[if_neg g]at b;exact⟨f,H',d,j,rfl,i,b⟩
 | _=>exact⟨f,H',d,j,rfl,i,b⟩
abbrev Am8:=@Nat.le_of_not_lt
theorem XCode.loop {c:Code}{Q:XQ}{T:List AV}{H:AH}{r:Loop}(I:Nat->List AV->AH->Loop->Prop)(t:Nat)(y:I t T H r)
  (F:∀n T H r,I n T H r->XCode P l G0 c (XQ.then (λf H' i=>∃d,d<n/\I d f H' i) Q) T H r):XCode P l G0 (.loop c) Q T H r:=by
 intro G a hs;let J:Nat->Act->World->Prop:=λn a w=>∃(T:List AV) (H:AH) (b:Cfg) (r:Loop),b.w=w/\XSt l G0 b T H r a/\I n T H r;have least:∀a w,(∃n,J n a w)->∃n,J n a w/\∀m,J m a w->n<=m:=by
  intro a w ⟨n,hn⟩
  induction n using Nat.strongRecOn with
  | _ n ih=>
   by_cases h:∃m,m<n/\J m a w
   ·obtain⟨m,o,C⟩:=h;exact ih m o C
   ·exact⟨n,hn,λm o=>Am8 λk=>h ⟨m,k,o⟩⟩
 have g:∃μ:Act->World->Nat,∀a w,(∃n,J n a w)->J (μ a w) a w/\∀m,J m a w->μ a w<=m:=by
  classical
  refine⟨λa w=>if h:∃n,J n a w then Classical.choose (least a w h)else 0,λa w h=>?_⟩;simp only[dif_pos h];exact Classical.choose_spec (least a w h)
 obtain⟨μ,g⟩:=g;refine wpIn_loop (λa w=>∃n,J n a w) μ ⟨t,T,H,G,r,rfl,hs,y⟩ ?_;intro a w B;obtain⟨⟨x,v,u,E,rfl,D,z⟩,_⟩:=g a w B;refine Code.wpIn_mono ?_ (F _ x v E z u a D);rintro e p K ⟨f,H',b,i,rfl,s,q⟩;cases e with
 | normal=>
  obtain⟨d,k,A⟩:=q;have j:J d p b.w:=⟨f,H',b,i,rfl,s,A⟩;exact⟨⟨d,j⟩,Nat.lt_of_le_of_lt ((g p b.w ⟨d,j⟩).2 _ j) k⟩
 | _=>exact⟨f,H',b,i,rfl,s,q⟩
theorem XCode.weak {c:Code}{Q:XQ}{keep:List Bool}{T:List AV}{H:AH}{r:Loop}(hl:T.length=keep.length)(h:XCode P l G0 c Q (BC keep (Yl keep T)) H r):XCode P l G0 c Q T H r:=
 λG a hs=>h G a ⟨hs.x,FM hl hs.f,hs.d,hs.h,hs.ra⟩
theorem XCode.region {id:Nat}{ops:Array Oper}{Q:XQ}{T:List AV}{H:AH}{r:Loop}(h:XOps P l G0 ops Q ops.toList T H r):XCode P l G0 (.region id ops false) Q T H r:=
 λG a hs=>wpIn_region_list (h G a hs)
theorem XOps.nil {ops:Array Oper}{Q:XQ}{T:List AV}{H:AH}{r:Loop}(h:Q .normal T H r):XOps P l G0 ops Q [] T H r:=λG a hs=>YW h hs
theorem Aoh {F:Fence}{n:Nat}{o:Oper}{a:Act}{w:World}{K:Act->World->Prop}{Q f:Exit->Act->World->Prop}(d:∀e a w,e≠.normal->Q e a w->f e a w)(b:o.wpIn F n P a w K Q):o.wpIn F n P a w K f:=by
 have g:LetsOut Q->LetsOut f:=fun ⟨a,w,h⟩=>⟨a,w,d _ _ _ (by simp) h⟩;unfold Oper.wpIn at*;refine⟨b.1,?_⟩;have b:=b.2;generalize (o.semAt F.round a.eval).run P w=r at*;cases r with
 | ok x w'=>
  cases x<;>simp only[Oper.uponIn]at b|-<;>
   first
    | exact b
    | exact⟨b.1,CallsIn.mono b.2 (λe i c=>by cases e<;>first | exact c | exact d _ _ _ (by simp) c | exact g c)⟩
    | exact⟨b.1,RoundIn.mono b.2 (λe i c=>by cases e<;>first | exact c | exact d _ _ _ (by simp) c | exact g c)⟩
 | halt x w'=>cases x<;>simp only[Oper.uponIn]at b|-<;>first | exact b | exact d _ _ _ (by simp) b
theorem cO {F:Fence}{n:Nat}{ops:Array Oper}{c Q:Exit->Act->World->Prop}{i:List Oper}(f:∀a w,c .normal a w->wpListIn F n P ops Q i a w)(d:∀e a w,e≠.normal->c e a w->Q e a w):
  ∀(b:List Oper) (a:Act) (w:World),wpListIn F n P ops c b a w->wpListIn F n P ops Q (b++i) a w
 | [],a,w,h=>f a w h
 | o::b,a,w,h=>by
  show wpListIn F n P ops Q (o::(b++i)) a w;unfold wpListIn at h|-;split
  ·rename_i g;rw[if_pos g]at h;exact Aoh d (Oper.wpIn_mono (λa w=>cO f d b a w) h)
  ·rename_i g;rw[if_neg g]at h;exact⟨h.1,cO f d b _ _ h.2⟩
theorem XOps.pre {ql al:FuncId->Bool}{ops:Array Oper}{c o:List Oper}{Q:XQ}{T:List AV}{H:AH}{r:Loop}{K:List AV->AH->Prop}(h:VH P ql al false ops c T H K)(q:∀b H',K b H'->XOps P l G0 ops Q o b H' r):XOps P l G0 ops Q (c++o) T H r:=by
 intro G a hs;have p:AOps P ops (λe T H=>match e with | .normal=>K T H | _=>False) c T H:=qO c T H K (λ_ _ h=>h) h;refine cO ?_ ?_ c a G.w (p G G a (none,G0.w.heap.size) (Evo.refl G) hs.f hs.d hs.h)
 ·rintro a w ⟨b,H',j,rfl,g,k,n,m,i⟩;exact q b H' i j a ⟨hs.x.trans g.x,k,n,m,hs.ra.evo g⟩
 ·rintro e a w s ⟨b,H',j,rfl,g,k,n,m,i⟩;cases e with
  | normal=>exact absurd rfl s
  | _=>exact i.elim
theorem XOps.yield {ops:Array Oper}{Q:XQ}{o:Oper}{m:List Oper}{T q:List AV}{H:AH}{b:Loop}{p:Tmp}{f x:Operand}{v:Array TypeId}{J:AH->Prop}{X:Code->AH->Prop}
  (k:o.op=.call {callee:=.value f,args:=#[x],argTypes:=v}) (F:o.guard=none) (E:Cf T f=.lit (.func (.yield l) #[] #[]))
  (O:b.state=.ready) (M:b.pending=none) (N:b.params= #[p]) (D:∀G,EvoX l G0 G->VRs G q b.tmps.toList) (hr:sM P b.assign b.body q p (Cf T x) H J X)
  (z:∀H',J H'->XOps P l G0 ops Q m (EL T o.dst (B true)) H' b) (A:∀c H',X c H'->XOps P l G0 ops Q m (EL T o.dst (B false)) H' {b with state:=.done,pending:=some c}):XOps P l G0 ops Q (o::m) T H b:=by
 intro G a hs;unfold wpListIn;have S:Region.wanted o (yielded ops a.tmps)=true:=by unfold Region.wanted;rw[F]
 rw[if_pos S];have j:=hs.f.eval f;rw[E]at j;simp only[VR]at j;obtain⟨fn,W,u,y,V,C⟩:=Aog hs.h hs.ra O M N (D G hs.x) (hs.f.eval x) hr;have L:∀c,o.op≠.defer c:=λc s=>by rw[k]at s;cases s
 refine⟨λ_ _=>trivial,?_⟩;rw[Oper.semAt_eq _ _ _ L];have R:(execOp a.eval o).run P G.w=.ok (.round l fn W u y) G.w:=by obtain⟨Z,op,ad,ab,Y,aa⟩:=o;simp only at k;subst k;simp[execOp,resolve,j,Deferred.ofValue,invoke];exact V
 rw[R];refine⟨λK=>(by simp[Fence.wide]at K),RoundIn.mono C ?_⟩;rintro e w' ⟨n,H',rfl,g,r,⟨rfl,i,I⟩ | ⟨rfl,c,i,U⟩⟩
 ·exact z H' I n _ ⟨hs.x.trans g,FR.put (VRs.tr g.tr hs.f) o.dst (by simp only[VR]),(hs.d.x (a':=a) g rfl (PE hs.ra.h) (λh=>by cases h)).put _ _,r,i⟩
 ·exact A c H' U n _ ⟨hs.x.trans g,FR.put (VRs.tr g.tr hs.f) o.dst (by simp only[VR]),(hs.d.x (a':=a) g rfl (PE hs.ra.h) (λh=>by cases h)).put _ _,r,i⟩
theorem ZZ {fn:Func}{tmps:Array Value}{R:Ending->World->Prop}{T:List AV}{H:AH}{r:Loop}(hl:l<G0.w.heap.size)(K:∀G:Cfg,EvoX l G0 G->FR G T {tmps,defers:=[]}->HR G H->RecAt G l r->LeavesIn Fence.wide 0 P fn tmps R [] .returning G.w):
  ∀(a:List Nat) (G:Cfg),EvoX l G0 G->FR G T {tmps,defers:=[]}->HR G H->RecAt G l r->a.Nodup->(∀D∈a,G0.w.heap.size<=D/\¬G.L D/\G.w.heap[D]?=some (.deferred (some [])))->
   LeavesInM Fence.wide 0 P fn tmps R (a.map Abx) .returning G.w
 | [],G,hE,hF,hH,hr,_,_=>K G hE hF hH hr
 | D::a,G,hE,hF,hH,hr,hn,hD=>by
  obtain⟨I,u,b⟩:=hD D (.head _);obtain⟨C,A⟩:=Ar7.1 hn;refine⟨by simp,.inl ⟨D,_,rfl,run_takeDeferred b,?_⟩⟩;have i:∀c e f,Obj.deferred (some [])≠.cells c e f:=by intro c e f h;cases h
  have j:=Tr.put b i (.deferred none);refine ZZ hl K a (G.put D (.deferred none)) ?_ (VRs.tr j hF) (hH.putO (fun o z E (e:(G.μ o).1=D)=>u (by have:=hH.live o z E;rwa[e]at this)) b i _) ⟨?_,hr.nl⟩ A λp g=>?_
  ·refine⟨hE.os,hE.tape,hE.output,?_,λk y B v=>?_,hE.n,hE.μ,hE.K,λd m x=>j.has d m (hE.has d m x)⟩
   ·simp only[Cfg.put,World.putObj];simpa using hE.size
   ·obtain⟨t,F⟩:=hE.keep k y B v;refine⟨?_,F⟩;simp only[Cfg.put];rw[World.putObj_heap_other (by omega)];exact t
  ·simp only[Cfg.put];rw[World.putObj_heap_other (by omega)];exact hr.h
  ·obtain⟨q,a2,s⟩:=hD p (.tail _ g);refine⟨q,a2,?_⟩;simp only[Cfg.put];rw[World.putObj_heap_other (λe=>C (by rw[<- e];exact g))];exact s
theorem wF {k:FuncId}{fn:Func}{c:Code}{j xs:List AV}{q:AH->Prop}(V:P.funcs[k]?=some fn)(R:fn.body=some c)(ae:fn.results= #[])
  (h:∀(l:Nat) (G0:Cfg) (b:Loop) (T:List AV) (p:Tmp) (H:AH) (J:Nat->AH->Prop) (X:Code->AH->Prop),b.state=.ready->b.pending=none->b.params= #[p]->(∀G,EvoX l G0 G->VRs G T b.tmps.toList)->J 0 H->(∀i H',J i H'->q H')->(∀i x H',xs[i]?=some x->J i H'->sM P b.assign b.body T p x H' (J (i+1)) X)->
   XCode P l G0 c (λe _ H' r=>(e=.normal\/e=.ret)/\((r=b/\J xs.length H')\/∃c,r={b with state:=.done,pending:=some c}/\X c H')) ((.lit (.func (.yield l) #[] #[])::j)++List.replicate (fn.ntmps - (j.length+1)) Be) H b):uW P k j q xs:=by
 intro G l b T p H m J X O u ad aa ab Q z I S hr;have Z:=z.length;refine callsIn_of_wp_marks (F:=FW none) (n:=0) V R trivial ?_ rfl;have M:FR G ((.lit (.func (.yield l) #[] #[])::j)++List.replicate (fn.ntmps - (j.length+1)) Be) {tmps:=(#[Value.func (.yield l) #[] #[]]++m.toArray)++Array.replicate (fn.ntmps - (#[Value.func (.yield l) #[] #[]]++m.toArray).size) undef,defers:=[]}:=by unfold FR;simp only[Ai1,Af6];rw[Z,show([Value.func (.yield l) #[] #[]]:List Value).length+m.length=m.length+1 by simp;omega];refine VRs.append ?_ (VRs.replicate (by simp only[Be,VR]) _);exact .cons (by simp only[VR]) z
 have Y:l<G.w.heap.size:=(Array.getElem?_eq_some_iff.1 u.h).1;have o:=h l G b T p H J X ad aa ab (λg K=>VRs.tr K.tr Q) I S hr G _ ⟨(Evo.refl G).x,M,⟨⟨[],rfl,Aw0,λ_ h=>(by cases h)⟩,λ_ h=>(by cases h),Aj7 _⟩,O,u⟩;refine Code.wpIn_mono ?_ o;rintro e a w ⟨T',H',g,r',rfl,hs,U,hq⟩;obtain⟨⟨A,D,E,s⟩,-,-⟩:=hs.d;simp only at s;have:LeavesInM Fence.wide 0 P fn a.tmps (λe C=>(∃v,e=.returned v)/\∃(g:Cfg) (H':AH),g.w=C/\EvoX l G g/\HR g H'/\((RecAt g l b/\J xs.length H')\/∃c,RecAt g l {b with state:=.done,pending:=some c}/\X c H')) a.defers .returning g.w:=by
  rw[D];refine ZZ (G0:=G) Y (λB L N t y=>?_) A g hs.x hs.f hs.h hs.ra E s;obtain⟨v,af,-⟩:=qL (P:=P) t N (fn:=fn) (xs:=[]) (by rw[ae];rfl);refine⟨v,af,⟨v,rfl⟩,B,H',rfl,L,t,?_⟩;rcases hq with⟨rfl,W⟩ | ⟨c,rfl,o⟩
  ·exact .inl ⟨y,W⟩
  ·exact .inr ⟨c,y,o⟩
 rcases U with rfl | rfl<;>exact this
theorem XCode.seqP {fl:Dd}{ql al:FuncId->Bool}{un:Nat->Bool}{kp:Nat->Option (List Bool)}{x y:Code}{n:Nat}{keep:List Bool}{Q:XQ}{T:List AV}{H:AH}{r:Loop}(g:P.follows .mixedOrders=true)(d:El fl ql un x=true)
  (c:∀e T b H,e≠.normal->Q e T H r->Q e b H r) (h:AR P fl ql al un kp x n T H (λe T H=>fP keep T λX=>(XQ.then (λT H r=>XCode P l G0 y Q T H r) Q) e (BC keep X) H r)):XCode P l G0 (.seq x y) Q T H r:=by
 refine XCode.seq (XCode.of ((FT g x n T H _ d h).mono ?_));intro e b H' a;obtain⟨f,a⟩:=CJ.1 a;cases e with
 | normal=>exact XCode.weak f a
 | _=>exact c _ _ _ _ (by simp) a
theorem XCode.seqN {fl:Dd}{ql al:FuncId->Bool}{un:Nat->Bool}{kp:Nat->Option (List Bool)}{x y:Code}{n:Nat}{keep:List Bool}{Q:XQ}{T:List AV}{H:AH}{r:Loop}(g:P.follows .mixedOrders=true)(b:El fl ql un x=true)
  (h:AR P fl ql al un kp x n T H (λe T H=>fP keep T λX=>e=.normal/\XCode P l G0 y Q (BC keep X) H r)):XCode P l G0 (.seq x y) Q T H r:=by
 refine XCode.seq (XCode.of ((FT g x n T H _ b h).mono ?_));intro e i H' d;obtain⟨f,c,a⟩:=CJ.1 d;subst c;exact XCode.weak f a
theorem XOps.weak {ops:Array Oper}{Q:XQ}{keep:List Bool}{b:List Oper}{T:List AV}{H:AH}{r:Loop}(hl:T.length=keep.length)(h:XOps P l G0 ops Q b (BC keep (Yl keep T)) H r):XOps P l G0 ops Q b T H r:=
 λG a hs=>h G a ⟨hs.x,FM hl hs.f,hs.d,hs.h,hs.ra⟩
theorem XOps.preP {ql al:FuncId->Bool}{ops:Array Oper}{b c:List Oper}{Q:XQ}{keep:List Bool}{T:List AV}{H:AH}{r:Loop}(h:VH P ql al false ops b T H (λT H=>fP keep T λX=>XOps P l G0 ops Q c (BC keep X) H r)):XOps P l G0 ops Q (b++c) T H r:=
 XOps.pre h λe H' a=>by obtain⟨d,a⟩:=CJ.1 a;exact XOps.weak d a
end
end
section
def May (n:Int):Prop:=0<=n/\n<=4611686018427387904
instance (n:Int):Decidable (May n):=by unfold May;infer_instance
def Ace (n:Int):List AV:=[I n]
theorem zR (n:Int):(Ace n).length=1:=rfl
def oI:Option Int->AV
 | some n=>.tup [I n,B true]
 | none=>.tup [I 0,B false]
def yE (l:List Int):Option Int:=if(∀n∈l,May n)/\l.sum<=4611686018427387904 then some l.sum else none
theorem uC (n:Int):Ba2 169 [I n] (B (decide (May n))):=BPure.flat λH=>Any (by
 unfold Agp;by_cases a:0<=n<;>by_cases b:n<=4611686018427387904<;>simp[May,a,b])
theorem Aoi (n:Int):Ba2 225 [I n] (B (decide (May n))):=BPure.flat λH=>gK (by
 unfold Y1;by_cases a:0<=n<;>by_cases b:n<=4611686018427387904<;>simp[May,a,b])
structure Sp where
 pos:Int
 len:Int
 deriving DecidableEq,Inhabited
def B9 (s:Sp):List AV:=[I s.pos,I s.len]
theorem iT (s:Sp):(B9 s).length=2:=rfl
def MaySpan (s:Sp):Prop:=May s.pos/\May s.len/\s.len<=4611686018427387904 - s.pos
instance (s:Sp):Decidable (MaySpan s):=by unfold MaySpan;infer_instance
theorem Js (s:Sp):Ba2 111 [.agg (B9 s)] (B (decide (MaySpan s))):=BPure.val rfl rfl (qD (by
 unfold lJ;obtain⟨p,n⟩:=s;simp[B9,CY];refine Az (uC _) ?_;by_cases c:May p
 ·have e:=c;unfold May at e;simp[c];refine Az (uC _) ?_;by_cases d:May n
  ·simp[d,B4 (a:=4611686018427387904) (b:=p) (by omega) (by omega),MaySpan,c]
  ·simp[d,MaySpan]
 ·simp[c,MaySpan]))
def VB (a b:Sp):Sp:=
 if MaySpan a/\MaySpan b/\max a.pos b.pos<min (a.pos+a.len) (b.pos+b.len)then⟨max a.pos b.pos,min (a.pos+a.len) (b.pos+b.len) - max a.pos b.pos⟩else⟨0,0⟩
theorem bR (a b:Sp):Ba2 55 [.agg (B9 a),.agg (B9 b)] (.agg (B9 (VB a b))):=BPure.val rfl rfl (Anx (by
 unfold Ago;simp[B9,CY,A1];refine Az (Js a) ?_;by_cases c:MaySpan a
 ·simp[c];refine Az (Js b) ?_;by_cases d:MaySpan b
  ·have f:=c;have g:=d;simp only[MaySpan,May]at f g;obtain⟨p,n⟩:=a;obtain⟨q,m⟩:=b;simp only at f g;simp[d,Au (a:=p) (b:=n) (by omega) (by omega),Au (a:=q) (b:=m) (by omega) (by omega)];by_cases h:max p q<min (p+n) (q+m)
   ·have e:¬min (q+m) (p+n)<=max q p:=by omega
    simp[e,B4 (a:=min (q+m) (p+n)) (b:=max q p) (by omega) (by omega),AU,VB,c,d,h];omega
   ·have e:min (q+m) (p+n)<=max q p:=by omega
    simp[e,AU,VB,h]
  ·simp[d,AU,VB]
 ·simp[c,AU,VB]))
theorem Aoj (a b c d:Int):P9 prog .eql 119 (.agg [I a,I b]) (.agg [I c,I d])=some (B (a==c&&(b==d&&true))):=by kernel_rfl
theorem Aok (x y:Sp):(x.pos==y.pos&&(x.len==y.len&&true))=decide (x=y):=by
 obtain⟨a,b⟩:=x;obtain⟨c,d⟩:=y;by_cases e:a=c<;>by_cases f:b=d<;>simp[e,f]
theorem Aol (x y:Sp):P9 prog .eql 119 (.agg (B9 x)) (.agg (B9 y))=some (B (decide (x=y))):=by rw[<- Aok];exact Aoj _ _ _ _
def Within (a b:Sp):Prop:=MaySpan a/\MaySpan b/\(a.len=0\/VB a b=a)
instance (a b:Sp):Decidable (Within a b):=by unfold Within;infer_instance
theorem wO (a b:Sp):Ba2 204 [.agg (B9 a),.agg (B9 b)] (B (decide (Within a b))):=BPure.val rfl rfl (sF (by
 unfold qE;simp[B9,CY,A1];refine Az (Js a) ?_;by_cases c:MaySpan a
 ·simp[c];refine Az (Js b) ?_;by_cases d:MaySpan b
  ·by_cases e:a.len=0
   ·simp[d,e,Within,c]
   ·simp[d,e,Within,c];refine bP_of (bR a b) ?_;have:=Aol (VB a b) a;simp only[B9]at this|-;simp[this]
  ·simp[d,Within]
 ·simp[c,Within]))
theorem Aom {l:List Int}(h:∀n∈l,May n)(k:Nat):0<=(l.take k).sum/\(l.take k).sum<=l.sum:=by
 induction l generalizing k with
 | nil=>simp
 | cons a l ih=>
  have b:=h a (by simp);have:=ih (λn c=>h n (by simp[c]));cases k with
  | zero=>have:=this l.length;simp at this|-;unfold May at b;omega
  | succ k=>have:=this k;simp;unfold May at b;omega
abbrev An5:=@List.take_add_one
theorem sI {l:List Int}{k:Nat}{x:Int}(h:l[k]?=some x):(l.take (k+1)).sum=(l.take k).sum+x:=by
 rw[An5,h];simp
theorem Aon {l:List Int}{v:AV}(e:SV Ace 1 l v)(hl:l.length<=281474976710656):Ba2 209 [v] (oI (yE l)):=BPure.flat λH=>gJ (by
 unfold Y0;refine VM (λn p q r H'=>∃k:Nat,k+n=l.length/\p=v/\q=I (l.take k).sum/\r=I k/\H'=H/\(∀m∈l.take k,May m)/\0<=(l.take k).sum/\(l.take k).sum<=4611686018427387904) ?_ l.length ⟨0,by simp,rfl,rfl,rfl,rfl,by simp,by simp,by simp⟩;rintro n p q r H' R u ⟨k,A,rfl,rfl,rfl,rfl,f,w,o⟩;unfold Pu;rcases Aj5 k l.length with i | z
 ·have c:=Dq i;generalize l[k]=y at c;have hs:=sI c;simp[e.len,i,e.idx zR c rfl,Ace];refine Az (Aoi _) ?_;by_cases d:May y
  ·have t:=d;unfold May at t;simp[d,e.idx zR c rfl,Ace,B4 (a:=4611686018427387904) (b:=(l.take k).sum) (by omega) (by omega)];by_cases g:4611686018427387904 - (l.take k).sum<y
   ·have:yE l=none:=if_neg (by rintro⟨s,x⟩;have:=Aom s (k+1);omega);simp[g,this,oI]
   ·simp[g,Au (a:=(l.take k).sum) (b:=y) (by omega) (by omega),Au (a:=k) (b:=1) (by omega) (by omega)];refine u (n - 1) _ _ _ _ (by omega) ⟨k+1,by omega,rfl,by rw[hs],rfl,rfl,?_,by omega,by omega⟩;rw[An5,c];intro m j;simp at j;rcases j with h | rfl
    ·exact f m h
    ·exact d
  ·have:yE l=none:=if_neg (λh=>d (h.1 y (Aj2 c)));simp[d,oI,this]
 ·have:k=l.length:=by omega
  subst this;simp at f w o;have:yE l=some l.sum:=if_pos ⟨f,o⟩;simp[e.len,this,oI])
abbrev Ae7:=And.intro (And.intro @List.mem_cons.{0} @List.not_mem_nil.{0}) @or_false
theorem qK (s:Sp):Ba2 184 [.agg (B9 s)] (B (decide (MaySpan s))):=BPure.val rfl rfl (WX (by
 unfold RB;obtain⟨p,n⟩:=s;have d:SV Ace 1 [p,n] (.imm [I p,I n] 2 1):=⟨rfl,λH=>rfl⟩;simp[B9];refine Ano 2 (args':=[.imm [I p,I n] 2 1]) (by simp[T8,Se]) ?_ (Aon d (by simp)) ?_
 ·cases h:yE [p,n]<;>rfl
 ·have:MaySpan ⟨p,n⟩↔(yE [p,n]).isSome:=by
   unfold yE MaySpan;simp only[Ae7,forall_eq_or_imp,forall_eq,List.sum_cons,List.sum_nil];split
   ·rename_i h;simp;exact⟨h.1.1,h.1.2,by omega⟩
   ·rename_i h;simp;intro a b;by_cases c:4611686018427387904 - p<n;exact c;exact absurd ⟨⟨a,b⟩,by omega⟩ h
  cases h:yE [p,n]<;>simp[oI,this,h]))
def DD:Nat->Int->Int->Int->List Sp
 | 0,_,_,_=>[]
 | f+1,pos,len,unit=>if 0<len then⟨pos,min len (unit - pos % unit)⟩::DD f (pos+min len (unit - pos % unit)) (len - min len (unit - pos % unit)) unit else []
def Ey (s:Sp)(unit:Int):List Sp:=if MaySpan s/\s.len<=4096/\1<=unit then DD s.len.toNat s.pos s.len unit else []
abbrev As7:=@Int.emod_lt_of_pos
abbrev As8:=@Int.emod_nonneg
theorem aP {f:Nat}{pos len unit:Int}(i:len.toNat<=f)(hl:0<len)(c:0<=pos)(k:1<=unit):DD f pos len unit=⟨pos,min len (unit - pos % unit)⟩::DD (len - min len (unit - pos % unit)).toNat (pos+min len (unit - pos % unit)) (len - min len (unit - pos % unit)) unit:=by
 induction f using Nat.strongRecOn generalizing pos len with
 | _ f ih=>
  have d:=As7 pos (show 0<unit by omega);have e:=As8 pos (show unit≠0 by omega);cases f with
  | zero=>omega
  | succ f=>
   simp only[DD,hl,if_true];congr 1;have j:1<=min len (unit - pos % unit):=by omega
   generalize min len (unit - pos % unit)=m at*;have more:∀(a b:Nat) (p n:Int),n.toNat<=a->n.toNat<=b->0<=p->DD a p n unit=DD b p n unit:=by
    intro a
    induction a with
    | zero=>
     intro b p n g h c;cases b with
     | zero=>rfl
     | succ b=>simp only[DD];rw[if_neg (by omega)]
    | succ a iha=>
     intro b p n g h c;have d:=As7 p (show 0<unit by omega);have e:=As8 p (show unit≠0 by omega);cases b with
     | zero=>simp only[DD];rw[if_neg (by omega)]
     | succ b=>
      simp only[DD];split
      ·rw[iha b _ _ (by omega) (by omega) (by omega)]
      ·rfl
   exact more _ _ _ _ (by omega) (by omega) (by omega)
theorem aQ {f:Nat}{pos len unit:Int}(hl:¬0<len):DD f pos len unit=[]:=by
 cases f with
 | zero=>rfl
 | succ f=>simp only[DD,if_neg hl]
theorem uB (l:List Sp):AF (l.flatMap B9)=true:=by
 induction l with
 | nil=>rfl
 | cons a l ih=>rw[Al5];simp[B9,AF,noIds];simpa[B9]using ih
theorem lL (s:Sp){unit:Int}(hu:unit<=9223372036854775807):∃v,SV B9 2 (Ey s unit) v/\Ba2 99 [.agg (B9 s),I unit] v:=by
 refine BPure.sl (sz:=2) rfl (uB _) (wN ?_);unfold uD;obtain⟨p,n⟩:=s;simp[B9,A1];refine Az (Js ⟨p,n⟩) ?_;by_cases e:MaySpan ⟨p,n⟩
 ·simp[e];by_cases w:4096<n
  ·have:Ey ⟨p,n⟩ unit=[]:=if_neg (by simp only;omega);simp[w,this,Ac]
  ·simp[w];by_cases x:unit<1
   ·have:Ey ⟨p,n⟩ unit=[]:=if_neg (by omega);simp[x,this,Ac]
   ·simp[x]
    have M:Ey ⟨p,n⟩ unit=DD n.toNat p n unit:=if_pos ⟨e,by simp only;omega,by omega⟩;simp only[MaySpan,May]at e;refine fE (λk C D j H=>∃(d len:Int) (l:List Sp),k=len.toNat/\C=I unit/\D=.ptr 0 0/\H[0]?=some (some (.cells [I d,I len]))/\Bm j=true/\Ac H 2 j=some (l.flatMap B9,l.length)/\0∉Ba j/\
     0<=d/\0<=len/\d+len<=4611686018427387904/\(l.length:Int)+len<=4096/\l++DD len.toNat d len unit=DD n.toNat p n unit) ?_ n.toNat
     ⟨p,n,[],rfl,rfl,rfl,rfl,rfl,rfl,by simp[Ba],by omega,by omega,by omega,by simp;omega,rfl⟩
    rintro k C D j H R N ⟨d,len,l,rfl,rfl,rfl,o,Q,hs,A,S,X,Z,Y,f⟩;unfold Yg;have V:=As7 d (show 0<unit by omega);have W:=As8 d (show unit≠0 by omega);by_cases t:0<len
    ·rw[aP (Aj7 _) t S (by omega)]at f;have z:min (unit - d % unit) len=min len (unit - d % unit):=by omega
     have O:1<=min len (unit - d % unit):=by omega
     have P:min len (unit - d % unit)<=len:=by omega
     generalize min len (unit - d % unit)=m at z O P f;have K:=(BG.1 o).1;have T:Ac (H++[some (.cells [I d,I m])]) 2 j=some (l.flatMap B9,l.length):=Ai hs λi g=>Aj6 (A5 hs i g);obtain⟨r,u,E,a2,F,U,G,J⟩:=Cn (bytes:=16) T Q (AA (v:=.sl H.length 0 1 2 (.ex 1)) (q:=([I d,I m],1)) (by simp[Ac])) (by omega);have y:u[0]?=some (some (.cells [I d,I len])):=by rw[G 0 (by simp) A,Aj6 K];exact o
     have B:0∉Ba r:=λg=>(J 0 g).elim A (by simp);have L:=(BG.1 y).1;have keep:∀c,Ac (u.set 0 c) 2 r=some ((l++[(⟨d,m⟩:Sp)]).flatMap B9,(l++[(⟨d,m⟩:Sp)]).length):=λc=>by rw[Ai F (λi g=>Cc (by rintro rfl;exact B g))];simp[B9]
     simp[o,t,YB (a:=d) (b:=unit) (by omega) (by omega),B4 (a:=unit) (b:=d % unit) (by omega) (by omega),z,E,y,Au (a:=d) (b:=m) (by omega) (by omega),B4 (a:=len) (b:=m) (by omega) (by omega),AU];refine N (len - m).toNat _ _ _ _ (by omega) ?_;exact⟨d+m,len - m,l++[(⟨d,m⟩:Sp)],rfl,rfl,rfl,by simp[L],a2,keep _,B,by omega,by omega,by omega,by simp;omega,by simpa using f⟩
    ·rw[aQ t,Am9]at f;simp[o,t];rw[M,<- f];exact hs
 ·have:Ey ⟨p,n⟩ unit=[]:=if_neg (λh=>e h.1);simp[e,this,Ac]
theorem wY (s:Sp){unit:Int}(hu:unit<=9223372036854775807):∃v,SV B9 2 (Ey s unit) v/\Ba2 143 [.agg (B9 s),I unit] v:=by
 refine BPure.sl (sz:=2) rfl (uB _) (Zu ?_);unfold UT;obtain⟨p,n⟩:=s;simp[B9,A1];refine Az (qK ⟨p,n⟩) ?_;by_cases e:MaySpan ⟨p,n⟩
 ·simp[e];by_cases w:4096<n
  ·have:Ey ⟨p,n⟩ unit=[]:=if_neg (by simp only;omega);simp[w,this,Ac]
  ·simp[w];by_cases x:unit<1
   ·have:Ey ⟨p,n⟩ unit=[]:=if_neg (by omega);simp[x,this,Ac]
   ·simp[x]
    have M:Ey ⟨p,n⟩ unit=DD n.toNat p n unit:=if_pos ⟨e,by simp only;omega,by omega⟩;simp only[MaySpan,May]at e;refine TK (λk D E j H=>∃(d len:Int) (l:List Sp),k=len.toNat/\D=I unit/\E=.ptr 0 0/\H[0]?=some (some (.cells [I d,I len]))/\Bm j=true/\Ac H 2 j=some (l.flatMap B9,l.length)/\0∉Ba j/\
     0<=d/\0<=len/\d+len<=4611686018427387904/\(l.length:Int)+len<=4096/\l++DD len.toNat d len unit=DD n.toNat p n unit) ?_ n.toNat
     ⟨p,n,[],rfl,rfl,rfl,rfl,rfl,rfl,by simp[Ba],by omega,by omega,by omega,by simp;omega,rfl⟩
    rintro k D E j H R N ⟨d,len,l,rfl,rfl,rfl,o,Q,hs,B,S,X,Z,Y,f⟩;unfold MJ;have V:=As7 d (show 0<unit by omega);have W:=As8 d (show unit≠0 by omega);by_cases t:0<len
    ·rw[aP (Aj7 _) t S (by omega)]at f;have A:min (unit - d % unit) len=min len (unit - d % unit):=by omega
     have O:1<=min len (unit - d % unit):=by omega
     have P:min len (unit - d % unit)<=len:=by omega
     generalize min len (unit - d % unit)=m at A O P f;have L:=(BG.1 o).1;have T:Ac (H++[some (.cells [I d,I m])]) 2 j=some (l.flatMap B9,l.length):=Ai hs λi g=>Aj6 (A5 hs i g);obtain⟨r,u,F,a2,G,U,J,K⟩:=Cn (bytes:=16) T Q (AA (v:=.sl H.length 0 1 2 (.ex 1)) (q:=([I d,I m],1)) (by simp[Ac])) (by omega);have y:u[0]?=some (some (.cells [I d,I len])):=by rw[J 0 (by simp) B,Aj6 L];exact o
     have C:0∉Ba r:=λg=>(K 0 g).elim B (by simp);have z:=(BG.1 y).1;have keep:∀c,Ac (u.set 0 c) 2 r=some ((l++[(⟨d,m⟩:Sp)]).flatMap B9,(l++[(⟨d,m⟩:Sp)]).length):=λc=>by rw[Ai G (λi g=>Cc (by rintro rfl;exact C g))];simp[B9]
     simp[o,t,YB (a:=d) (b:=unit) (by omega) (by omega),B4 (a:=unit) (b:=d % unit) (by omega) (by omega),A,F,y,Au (a:=d) (b:=m) (by omega) (by omega),B4 (a:=len) (b:=m) (by omega) (by omega),AU,HU z];refine N (len - m).toNat _ _ _ _ (by omega) ?_;exact⟨d+m,len - m,l++[(⟨d,m⟩:Sp)],rfl,rfl,rfl,by simp[z],a2,keep _,C,by omega,by omega,by omega,by simp;omega,by simpa using f⟩
    ·rw[aQ t,Am9]at f;simp[o,t];rw[M,<- f];exact hs
 ·have:Ey ⟨p,n⟩ unit=[]:=if_neg (λh=>e h.1);simp[e,this,Ac]
def down (n unit:Int):Int:=if May n/\1<=unit then n - n % unit else 0
def cR (a b:Sp):Prop:=MaySpan a/\MaySpan b/\(a.len=0\/(b.pos<=a.pos/\a.pos+a.len<=b.pos+b.len))
instance (a b:Sp):Decidable (cR a b):=by unfold cR;infer_instance
theorem Aoo (a b:Sp):Within a b↔cR a b:=by
 unfold Within cR;by_cases d:MaySpan a<;>by_cases e:MaySpan b<;>simp[d,e];have f:=d;have g:=e;simp only[MaySpan,May]at f g;by_cases c:a.len=0
 ·simp[c]
 ·simp only[c,false_or];unfold VB;obtain⟨p,n⟩:=a;obtain⟨q,m⟩:=b;simp only at f g c|-;split
  ·rename_i h;simp only[Sp.mk.injEq];omega
  ·rename_i h;simp only[d,e,true_and]at h;simp only[Sp.mk.injEq];omega
end
end Go.Proofs.YtbppnhenlboefaaGreat.Av
