/- The law and its row. No condition. -/
import Derived.Test.YtadghlcfbajamaaGreatMlD
set_option linter.unusedVariables false
set_option maxRecDepth 100000
section
namespace Go.Proofs.YtadghlcfbajamaaGreat.Av
open Go Go.Proofs.Tryz
abbrev tT:=true
abbrev fF:=false
abbrev KT:=AV→AH→Prop
abbrev u0Z:AV:=.lit (.int .u8 0)
abbrev RT:=List AV→AH→Prop
def A7:CJ:=LT []
def BA:Nat→Option (List Bool):=Cd []
abbrev Ch (f:FuncId)(args:List AV)(H:AH)(K:KT):Prop:=∃r H',K r H'∧BCall prog f args H r H'
def zdipZ (b:RT→AV→AV→AH→Prop)(L:AV→AV→AH→Prop):Prop:=∀(I:Nat→AV→AV→AH→Prop) (round:∀(n:Nat) (x0 x1:AV) (H:AH) (R:RT),(∀(m:Nat) (y0 y1:AV) (H':AH),m<n→I m y0 y1 H'→R [y0,y1] H')→I n x0 x1 H→b R x0 x1 H) (n:Nat) {x0 x1:AV} {H:AH} (h:I n x0 x1 H),L x0 x1 H
theorem wM {keep:List Bool}{body:List AV→AH→Kf→Prop}{K0:Kf}{b:RT→AV→AV→AH→Prop}(hb:One body)(he:∀(R:RT) (x0 x1:AV) (H:AH),body (Bt keep [x0,x1]) H (PP keep R K0)=b R x0 x1 H):zdipZ b (λx0 x1 H=>lp keep body [x0,x1] H K0):=by
 intro I round n x0 x1 H h;refine Py hb (LI2 I) ?_ n h;intro n X H h;obtain⟨x0,x1,rfl,h⟩:=h.elim;exact Eq.mpr (he _ x0 x1 H) (round n x0 x1 H (λX H'=>∃m,m<n∧LI2 I m X H') (λm y0 y1 H' hm hi=>⟨m,hm,hi⟩) h)
def pU (b:RT→AV→AV→AV→AH→Prop)(L:AV→AV→AV→AH→Prop):Prop:=∀(I:Nat→AV→AV→AV→AH→Prop) (round:∀(n:Nat) (x0 x1 x2:AV) (H:AH) (R:RT),(∀(m:Nat) (y0 y1 y2:AV) (H':AH),m<n→I m y0 y1 y2 H'→R [y0,y1,y2] H')→I n x0 x1 x2 H→b R x0 x1 x2 H) (n:Nat) {x0 x1 x2:AV} {H:AH} (h:I n x0 x1 x2 H),L x0 x1 x2 H
theorem Xs {keep:List Bool}{body:List AV→AH→Kf→Prop}{K0:Kf}{b:RT→AV→AV→AV→AH→Prop}(hb:One body)(he:∀(R:RT) (x0 x1 x2:AV) (H:AH),body (Bt keep [x0,x1,x2]) H (PP keep R K0)=b R x0 x1 x2 H):pU b (λx0 x1 x2 H=>lp keep body [x0,x1,x2] H K0):=by
 intro I round n x0 x1 x2 H h;refine Py hb (LI3 I) ?_ n h;intro n X H h;obtain⟨x0,x1,x2,rfl,h⟩:=h.elim;exact Eq.mpr (he _ x0 x1 x2 H) (round n x0 x1 x2 H (λX H'=>∃m,m<n∧LI3 I m X H') (λm y0 y1 y2 H' hm hi=>⟨m,hm,hi⟩) h)
def eI (b:RT→AV→AV→AV→AV→AH→Prop)(L:AV→AV→AV→AV→AH→Prop):Prop:=∀(I:Nat→AV→AV→AV→AV→AH→Prop) (round:∀(n:Nat) (x0 x1 x2 x3:AV) (H:AH) (R:RT),(∀(m:Nat) (y0 y1 y2 y3:AV) (H':AH),m<n→I m y0 y1 y2 y3 H'→R [y0,y1,y2,y3] H')→I n x0 x1 x2 x3 H→b R x0 x1 x2 x3 H) (n:Nat) {x0 x1 x2 x3:AV} {H:AH} (h:I n x0 x1 x2 x3 H),L x0 x1 x2 x3 H
theorem RQ {keep:List Bool}{body:List AV→AH→Kf→Prop}{K0:Kf}{b:RT→AV→AV→AV→AV→AH→Prop}(hb:One body)(he:∀(R:RT) (x0 x1 x2 x3:AV) (H:AH),body (Bt keep [x0,x1,x2,x3]) H (PP keep R K0)=b R x0 x1 x2 x3 H):eI b (λx0 x1 x2 x3 H=>lp keep body [x0,x1,x2,x3] H K0):=by
 intro I round n x0 x1 x2 x3 H h;refine Py hb (LI4 I) ?_ n h;intro n X H h;obtain⟨x0,x1,x2,x3,rfl,h⟩:=h.elim;exact Eq.mpr (he _ x0 x1 x2 x3 H) (round n x0 x1 x2 x3 H (λX H'=>∃m,m<n∧LI4 I m X H') (λm y0 y1 y2 y3 H' hm hi=>⟨m,hm,hi⟩) h)
theorem zdpvZ {keep:List Bool}{body:List AV→AH→Kf→Prop}{K0:Kf}{b:RT→AV→AV→AV→AV→AH→Prop}(hb:MonoF body)(he:∀(R:RT) (x0 x1 x2 x3:AV) (H:AH),body (Bt keep [x0,x1,x2,x3]) H (PP keep R K0)=b R x0 x1 x2 x3 H):eI b (λx0 x1 x2 x3 H=>lp keep body [x0,x1,x2,x3] H K0):=by
 intro I round n x0 x1 x2 x3 H h;refine ZY hb (LI4 I) ?_ n h;intro n X H h;obtain⟨x0,x1,x2,x3,rfl,h⟩:=h.elim;exact Eq.mpr (he _ x0 x1 x2 x3 H) (round n x0 x1 x2 x3 H (λX H'=>∃m,m<n∧LI4 I m X H') (λm y0 y1 y2 y3 H' hm hi=>⟨m,hm,hi⟩) h)
def pV (b:RT→AV→AV→AV→AV→AV→AH→Prop)(L:AV→AV→AV→AV→AV→AH→Prop):Prop:=∀(I:Nat→AV→AV→AV→AV→AV→AH→Prop) (round:∀(n:Nat) (x0 x1 x2 x3 x4:AV) (H:AH) (R:RT),(∀(m:Nat) (y0 y1 y2 y3 y4:AV) (H':AH),m<n→I m y0 y1 y2 y3 y4 H'→R [y0,y1,y2,y3,y4] H')→I n x0 x1 x2 x3 x4 H→b R x0 x1 x2 x3 x4 H) (n:Nat) {x0 x1 x2 x3 x4:AV} {H:AH} (h:I n x0 x1 x2 x3 x4 H),L x0 x1 x2 x3 x4 H
theorem dH {keep:List Bool}{body:List AV→AH→Kf→Prop}{K0:Kf}{b:RT→AV→AV→AV→AV→AV→AH→Prop}(hb:One body)(he:∀(R:RT) (x0 x1 x2 x3 x4:AV) (H:AH),body (Bt keep [x0,x1,x2,x3,x4]) H (PP keep R K0)=b R x0 x1 x2 x3 x4 H):pV b (λx0 x1 x2 x3 x4 H=>lp keep body [x0,x1,x2,x3,x4] H K0):=by
 intro I round n x0 x1 x2 x3 x4 H h;refine Py hb (LI5 I) ?_ n h;intro n X H h;obtain⟨x0,x1,x2,x3,x4,rfl,h⟩:=h.elim;exact Eq.mpr (he _ x0 x1 x2 x3 x4 H) (round n x0 x1 x2 x3 x4 H (λX H'=>∃m,m<n∧LI5 I m X H') (λm y0 y1 y2 y3 y4 H' hm hi=>⟨m,hm,hi⟩) h)
theorem zdnvZ {keep:List Bool}{body:List AV→AH→Kf→Prop}{K0:Kf}{b:RT→AV→AV→AV→AV→AV→AH→Prop}(hb:MonoF body)(he:∀(R:RT) (x0 x1 x2 x3 x4:AV) (H:AH),body (Bt keep [x0,x1,x2,x3,x4]) H (PP keep R K0)=b R x0 x1 x2 x3 x4 H):pV b (λx0 x1 x2 x3 x4 H=>lp keep body [x0,x1,x2,x3,x4] H K0):=by
 intro I round n x0 x1 x2 x3 x4 H h;refine ZY hb (LI5 I) ?_ n h;intro n X H h;obtain⟨x0,x1,x2,x3,x4,rfl,h⟩:=h.elim;exact Eq.mpr (he _ x0 x1 x2 x3 x4 H) (round n x0 x1 x2 x3 x4 H (λX H'=>∃m,m<n∧LI5 I m X H') (λm y0 y1 y2 y3 y4 H' hm hi=>⟨m,hm,hi⟩) h)
def vA (b:RT→AV→AV→AV→AV→AV→AV→AH→Prop)(L:AV→AV→AV→AV→AV→AV→AH→Prop):Prop:=∀(I:Nat→AV→AV→AV→AV→AV→AV→AH→Prop) (round:∀(n:Nat) (x0 x1 x2 x3 x4 x5:AV) (H:AH) (R:RT),(∀(m:Nat) (y0 y1 y2 y3 y4 y5:AV) (H':AH),m<n→I m y0 y1 y2 y3 y4 y5 H'→R [y0,y1,y2,y3,y4,y5] H')→I n x0 x1 x2 x3 x4 x5 H→b R x0 x1 x2 x3 x4 x5 H) (n:Nat) {x0 x1 x2 x3 x4 x5:AV} {H:AH} (h:I n x0 x1 x2 x3 x4 x5 H),L x0 x1 x2 x3 x4 x5 H
theorem fQ {keep:List Bool}{body:List AV→AH→Kf→Prop}{K0:Kf}{b:RT→AV→AV→AV→AV→AV→AV→AH→Prop}(hb:One body)(he:∀(R:RT) (x0 x1 x2 x3 x4 x5:AV) (H:AH),body (Bt keep [x0,x1,x2,x3,x4,x5]) H (PP keep R K0)=b R x0 x1 x2 x3 x4 x5 H):vA b (λx0 x1 x2 x3 x4 x5 H=>lp keep body [x0,x1,x2,x3,x4,x5] H K0):=by
 intro I round n x0 x1 x2 x3 x4 x5 H h;refine Py hb (LI6 I) ?_ n h;intro n X H h;obtain⟨x0,x1,x2,x3,x4,x5,rfl,h⟩:=h.elim;exact Eq.mpr (he _ x0 x1 x2 x3 x4 x5 H) (round n x0 x1 x2 x3 x4 x5 H (λX H'=>∃m,m<n∧LI6 I m X H') (λm y0 y1 y2 y3 y4 y5 H' hm hi=>⟨m,hm,hi⟩) h)
theorem zdpwZ {keep:List Bool}{body:List AV→AH→Kf→Prop}{K0:Kf}{b:RT→AV→AV→AV→AV→AV→AV→AH→Prop}(hb:MonoF body)(he:∀(R:RT) (x0 x1 x2 x3 x4 x5:AV) (H:AH),body (Bt keep [x0,x1,x2,x3,x4,x5]) H (PP keep R K0)=b R x0 x1 x2 x3 x4 x5 H):vA b (λx0 x1 x2 x3 x4 x5 H=>lp keep body [x0,x1,x2,x3,x4,x5] H K0):=by
 intro I round n x0 x1 x2 x3 x4 x5 H h;refine ZY hb (LI6 I) ?_ n h;intro n X H h;obtain⟨x0,x1,x2,x3,x4,x5,rfl,h⟩:=h.elim;exact Eq.mpr (he _ x0 x1 x2 x3 x4 x5 H) (round n x0 x1 x2 x3 x4 x5 H (λX H'=>∃m,m<n∧LI6 I m X H') (λm y0 y1 y2 y3 y4 y5 H' hm hi=>⟨m,hm,hi⟩) h)
def zdiqZ (b:RT→AV→AV→AV→AV→AV→AV→AV→AH→Prop)(L:AV→AV→AV→AV→AV→AV→AV→AH→Prop):Prop:=∀(I:Nat→AV→AV→AV→AV→AV→AV→AV→AH→Prop) (round:∀(n:Nat) (x0 x1 x2 x3 x4 x5 x6:AV) (H:AH) (R:RT),(∀(m:Nat) (y0 y1 y2 y3 y4 y5 y6:AV) (H':AH),m<n→I m y0 y1 y2 y3 y4 y5 y6 H'→R [y0,y1,y2,y3,y4,y5,y6] H')→I n x0 x1 x2 x3 x4 x5 x6 H→b R x0 x1 x2 x3 x4 x5 x6 H) (n:Nat) {x0 x1 x2 x3 x4 x5 x6:AV} {H:AH} (h:I n x0 x1 x2 x3 x4 x5 x6 H),L x0 x1 x2 x3 x4 x5 x6 H
theorem zdkeZ {keep:List Bool}{body:List AV→AH→Kf→Prop}{K0:Kf}{b:RT→AV→AV→AV→AV→AV→AV→AV→AH→Prop}(hb:One body)(he:∀(R:RT) (x0 x1 x2 x3 x4 x5 x6:AV) (H:AH),body (Bt keep [x0,x1,x2,x3,x4,x5,x6]) H (PP keep R K0)=b R x0 x1 x2 x3 x4 x5 x6 H):zdiqZ b (λx0 x1 x2 x3 x4 x5 x6 H=>lp keep body [x0,x1,x2,x3,x4,x5,x6] H K0):=by
 intro I round n x0 x1 x2 x3 x4 x5 x6 H h;refine Py hb (LI7 I) ?_ n h;intro n X H h;obtain⟨x0,x1,x2,x3,x4,x5,x6,rfl,h⟩:=h.elim;exact Eq.mpr (he _ x0 x1 x2 x3 x4 x5 x6 H) (round n x0 x1 x2 x3 x4 x5 x6 H (λX H'=>∃m,m<n∧LI7 I m X H') (λm y0 y1 y2 y3 y4 y5 y6 H' hm hi=>⟨m,hm,hi⟩) h)
theorem zdnwZ {keep:List Bool}{body:List AV→AH→Kf→Prop}{K0:Kf}{b:RT→AV→AV→AV→AV→AV→AV→AV→AH→Prop}(hb:MonoF body)(he:∀(R:RT) (x0 x1 x2 x3 x4 x5 x6:AV) (H:AH),body (Bt keep [x0,x1,x2,x3,x4,x5,x6]) H (PP keep R K0)=b R x0 x1 x2 x3 x4 x5 x6 H):zdiqZ b (λx0 x1 x2 x3 x4 x5 x6 H=>lp keep body [x0,x1,x2,x3,x4,x5,x6] H K0):=by
 intro I round n x0 x1 x2 x3 x4 x5 x6 H h;refine ZY hb (LI7 I) ?_ n h;intro n X H h;obtain⟨x0,x1,x2,x3,x4,x5,x6,rfl,h⟩:=h.elim;exact Eq.mpr (he _ x0 x1 x2 x3 x4 x5 x6 H) (round n x0 x1 x2 x3 x4 x5 x6 H (λX H'=>∃m,m<n∧LI7 I m X H') (λm y0 y1 y2 y3 y4 y5 y6 H' hm hi=>⟨m,hm,hi⟩) h)
def RL8 (b:RT→AV→AV→AV→AV→AV→AV→AV→AV→AH→Prop)(L:AV→AV→AV→AV→AV→AV→AV→AV→AH→Prop):Prop:=∀(I:Nat→AV→AV→AV→AV→AV→AV→AV→AV→AH→Prop) (round:∀(n:Nat) (x0 x1 x2 x3 x4 x5 x6 x7:AV) (H:AH) (R:RT),(∀(m:Nat) (y0 y1 y2 y3 y4 y5 y6 y7:AV) (H':AH),m<n→I m y0 y1 y2 y3 y4 y5 y6 y7 H'→R [y0,y1,y2,y3,y4,y5,y6,y7] H')→I n x0 x1 x2 x3 x4 x5 x6 x7 H→b R x0 x1 x2 x3 x4 x5 x6 x7 H) (n:Nat) {x0 x1 x2 x3 x4 x5 x6 x7:AV} {H:AH} (h:I n x0 x1 x2 x3 x4 x5 x6 x7 H),L x0 x1 x2 x3 x4 x5 x6 x7 H
theorem zdpxZ {keep:List Bool}{body:List AV→AH→Kf→Prop}{K0:Kf}{b:RT→AV→AV→AV→AV→AV→AV→AV→AV→AH→Prop}(hb:One body)(he:∀(R:RT) (x0 x1 x2 x3 x4 x5 x6 x7:AV) (H:AH),body (Bt keep [x0,x1,x2,x3,x4,x5,x6,x7]) H (PP keep R K0)=b R x0 x1 x2 x3 x4 x5 x6 x7 H):RL8 b (λx0 x1 x2 x3 x4 x5 x6 x7 H=>lp keep body [x0,x1,x2,x3,x4,x5,x6,x7] H K0):=by
 intro I round n x0 x1 x2 x3 x4 x5 x6 x7 H h;refine Py hb (LI8 I) ?_ n h;intro n X H h;obtain⟨x0,x1,x2,x3,x4,x5,x6,x7,rfl,h⟩:=h.elim;exact Eq.mpr (he _ x0 x1 x2 x3 x4 x5 x6 x7 H) (round n x0 x1 x2 x3 x4 x5 x6 x7 H (λX H'=>∃m,m<n∧LI8 I m X H') (λm y0 y1 y2 y3 y4 y5 y6 y7 H' hm hi=>⟨m,hm,hi⟩) h)
def RL9 (b:RT→AV→AV→AV→AV→AV→AV→AV→AV→AV→AH→Prop)(L:AV→AV→AV→AV→AV→AV→AV→AV→AV→AH→Prop):Prop:=∀(I:Nat→AV→AV→AV→AV→AV→AV→AV→AV→AV→AH→Prop) (round:∀(n:Nat) (x0 x1 x2 x3 x4 x5 x6 x7 x8:AV) (H:AH) (R:RT),(∀(m:Nat) (y0 y1 y2 y3 y4 y5 y6 y7 y8:AV) (H':AH),m<n→I m y0 y1 y2 y3 y4 y5 y6 y7 y8 H'→R [y0,y1,y2,y3,y4,y5,y6,y7,y8] H')→I n x0 x1 x2 x3 x4 x5 x6 x7 x8 H→b R x0 x1 x2 x3 x4 x5 x6 x7 x8 H) (n:Nat) {x0 x1 x2 x3 x4 x5 x6 x7 x8:AV} {H:AH} (h:I n x0 x1 x2 x3 x4 x5 x6 x7 x8 H),L x0 x1 x2 x3 x4 x5 x6 x7 x8 H
theorem zdpyZ {keep:List Bool}{body:List AV→AH→Kf→Prop}{K0:Kf}{b:RT→AV→AV→AV→AV→AV→AV→AV→AV→AV→AH→Prop}(hb:One body)(he:∀(R:RT) (x0 x1 x2 x3 x4 x5 x6 x7 x8:AV) (H:AH),body (Bt keep [x0,x1,x2,x3,x4,x5,x6,x7,x8]) H (PP keep R K0)=b R x0 x1 x2 x3 x4 x5 x6 x7 x8 H):RL9 b (λx0 x1 x2 x3 x4 x5 x6 x7 x8 H=>lp keep body [x0,x1,x2,x3,x4,x5,x6,x7,x8] H K0):=by
 intro I round n x0 x1 x2 x3 x4 x5 x6 x7 x8 H h;refine Py hb (LI9 I) ?_ n h;intro n X H h;obtain⟨x0,x1,x2,x3,x4,x5,x6,x7,x8,rfl,h⟩:=h.elim;exact Eq.mpr (he _ x0 x1 x2 x3 x4 x5 x6 x7 x8 H) (round n x0 x1 x2 x3 x4 x5 x6 x7 x8 H (λX H'=>∃m,m<n∧LI9 I m X H') (λm y0 y1 y2 y3 y4 y5 y6 y7 y8 H' hm hi=>⟨m,hm,hi⟩) h)
def G4:FuncId→Bool:=kG [35,129,131,101,90,118,63,130,132,122,36,68,104,103,105,124,125,126,86,87,142,152,153,141,121,93,123,158,160,138,174,136,173,69,172,119,171,190,199]
def zdqdZ:FuncId→Bool:=kG [176]
theorem PT:prog.follows .mixedOrders=true:=by kernel_rfl
theorem fok (fl:CJ)(ql:FuncId→Bool)(kp:Nat→Option (List Bool)){f:FuncId}{fn:Func}{args:List AV}{H:AH}{K:KT}{X:Prop}(hf:prog.funcs[f]?=some fn)(h:X)(hc:jQ fl ql fn=true:=by kernel_rfl)(he:UY prog fl ql Aw Aw kp fn args H K=X:=by kernel_rfl):Ch f args H K:=uQ PT hf hc (Eq.mpr he h)
def Su:Nat→Option (List Bool):=Cd [(10,mk 75 0 [1,2,3,6,33,34,35])]
def TK (p:List Bool)(n:Nat):List AV→AH→Kf→Prop:=AJ prog A7 G4 Aw Aw Su (sub p (AG f35)) n
def Q6 (x1 x2 x3 x6 x33 x34 x35:AV)(H:AH)(K:KT):Prop:=lp (mk 75 0 [1,2,3,6,33,34,35]) (TK [tT,tT,tT,tT,fF,tT,fF,fF] 11) [x1,x2,x3,x6,x33,x34,x35] H (AS 0 (AN (TK [tT,tT,tT,tT,tT] 17) (AR prog f35.results.toList K)))
def NC (R10:RT)(x1 x2 x3 x6 x33 x34 x35:AV)(H:AH)(K:KT):Prop:=
 bO (Ar .lss x35 x34) λv0=>
 bB v0 λt1=>bI t1 (
 bO (Bo 2 x33 x35) λv2=>
 bO (Ap true 2 H v2) λv3=>
 bH (AC H (.agg [(I 0),(I 0)])) λv4 H5=>
 bS (AP 2 H5 v4 v3) λH6=>
 bO (Ab 0 v4) λv7=>
 bO (Ap false 1 H6 v7) λv8=>
 bO (Ar .quo v8 (I 8)) λv9=>
 bC (BCall prog 92 [x3,v9] H6) λv10 H11=>
 bO (Ab 1 x3) λv12=>
 bO (Ap false 1 H11 v12) λv13=>
 bO (Bo 9 v13 v10) λv14=>
 bO (Ab 1 v14) λv15=>
 bO (Ab 0 v4) λv16=>
 bO (Ap false 1 H11 v16) λv17=>
 bO (Ar .mul v9 (I 8)) λv18=>
 bO (Ar .sub v17 v18) λv19=>
 bO (eR 8 1 H11 v15 (some v19) none) λv20=>
 bO (Ab 0 v4) λv21=>
 bO (Ap false 1 H11 v21) λv22=>
 bO (Ar .sub v22 x1) λv23=>
 bO (Bf 1 x2 (some v23) none none) λv24=>
 bO (Ab 1 v4) λv25=>
 bO (Ap false 1 H11 v25) λv26=>
 bO (Bf 1 v24 none (some v26) none) λv27=>
 bH (UP 1 H11 v20 v27) λv28 H29=>
 bO (Ar .add x35 (I 1)) λv30=>
 R10 [x1,x2,x3,x6,x33,x34,v30] H29)
 (bO (Ab 0 x3) λv31=>
 bO (Ap false 1 H v31) λv32=>
 bO (AL x2) λv33=>
 bO (Ar .add x1 v33) λv34=>
 bO (amm XX [v32,v34]) λv35=>
 bO (Ab 0 x3) λv36=>
 bS (AP 1 H v36 v35) λH37=>
 bO (Ap true 2 H37 x3) λv38=>
 bS (AP 2 H37 x6 v38) λH39=>
 bO (Ap true 2 H39 x6) λv40=>
 K (.tup [v40,(B true)]) H39)
theorem SO {K:KT}:zdiqZ (λR x1 x2 x3 x6 x33 x34 x35 H=>NC R x1 x2 x3 x6 x33 x34 x35 H K) (λx1 x2 x3 x6 x33 x34 x35 H=>Q6 x1 x2 x3 x6 x33 x34 x35 H K):=zdkeZ (A3 _ _) (λ_ _ _ _ _ _ _ _ _=>by kernel_rfl)
def WQ (a0 a1 a2:AV)(H:AH)(K:KT):Prop:=
 bH (AC H a0) λv0 H1=>
 bH (AC H1 (.agg [(I 0),Ad])) λv2 H3=>
 bO (Ap true 2 H3 v0) λv4=>
 bP (PCall prog 90 [v4] H3) λv5=>
 bO (Em .not v5) λv6=>
 bG v6 false λw7=>
 gO w7 (some a1) λv8=>
 bG v6 false λw9=>
 gO w9 (some a2) λv10=>
 bG v6 false λw11=>
 gO w11 (AL v10) λv12=>
 bG v6 false λw13=>
 gP w13 (PCall prog 86 [v8,v12] H3) λv14=>
 bG v6 false λw15=>
 gO w15 (Em .not v14) λv16=>
 bO (A0 v6 (B true) v16) λv17=>
 bB v17 λt18=>bI t18 (
 bO (En [(I 0),Ad] []) λv19=>
 bS (AP 2 H3 v2 v19) λH20=>
 bO (Ap true 2 H20 v2) λv21=>
 K (.tup [v21,(B false)]) H20)
 (bO (Ap true 2 H3 v0) λv22=>
 bC (BCall prog 91 [v22] H3) λv23 H24=>
 bS (AP 2 H24 v0 v23) λH25=>
 bO (AL a2) λv26=>
 bO (Ar .eql v26 (I 0)) λv27=>
 bB v27 λt28=>bI t28 (
 bO (Ap true 2 H25 v0) λv29=>
 bS (AP 2 H25 v2 v29) λH30=>
 bO (Ap true 2 H30 v2) λv31=>
 K (.tup [v31,(B true)]) H30)
 (bO (AL a2) λv32=>
 bO (En [(I 0),(I 0)] [(0,1,a1),(1,1,v32)]) λv33=>
 bP (PCall prog 87 [v33,(I 8)] H25) λv34=>
 bO (AL v34) λv35=>
 Q6 a1 a2 v0 v2 v34 v35 (I 0) H25 K))
theorem Z8 {a0 a1 a2:AV}{H:AH}{K:KT}(h:WQ a0 a1 a2 H K):Ch 35 [a0,a1,a2] H K:=
 fok A7 G4 Su func35 h
def TA:Nat→Option (List Bool):=Cd [(6,mk 39 0 [1,2,17,18,19])]
def Vz (p:List Bool)(n:Nat):List AV→AH→Kf→Prop:=AJ prog A7 G4 Aw Aw TA (sub p (AG f129)) n
def T9 (x1 x2 x17 x18 x19:AV)(H:AH)(K:KT):Prop:=lp (mk 39 0 [1,2,17,18,19]) (Vz [tT,tT,fF,tT,fF,fF] 7) [x1,x2,x17,x18,x19] H (AS 0 (AN (Vz [tT,tT,tT] 14) (AR prog f129.results.toList K)))
def Q2 (R6:RT)(x1 x2 x17 x18 x19:AV)(H:AH)(K:KT):Prop:=
 bO (Ar .lss x19 x18) λv0=>
 bB v0 λt1=>bI t1 (
 bO (Bo 9 x17 x19) λv2=>
 bO (Ap true 9 H v2) λv3=>
 bH (AC H (.agg [(I 0),u0Z,u0Z,u0Z,u0Z,u0Z,u0Z,u0Z,u0Z])) λv4 H5=>
 bS (AP 9 H5 v4 v3) λH6=>
 bO (Ab 0 v4) λv7=>
 bO (Ap false 1 H6 v7) λv8=>
 bO (Ar .mul v8 (I 8)) λv9=>
 bO (amm XX [x1,v9]) λv10=>
 bO (Ab 0 x2) λv11=>
 bO (Ap false 1 H6 v11) λv12=>
 bO (Ab 0 v4) λv13=>
 bO (Ap false 1 H6 v13) λv14=>
 bO (Ar .add v14 (I 1)) λv15=>
 bO (Ar .mul v15 (I 8)) λv16=>
 bO (amm Zn [v12,v16]) λv17=>
 bO (Ar .lss v10 v17) λv18=>
 bB v18 λt19=>bI t19 (
 K (.tup [v10,(B true)]) H6)
 (bO (Ar .add x19 (I 1)) λv20=>
 R6 [x1,x2,x17,x18,v20] H6))
 (K (.tup [(I 0),(B false)]) H)
theorem US {K:KT}:pV (λR x1 x2 x17 x18 x19 H=>Q2 R x1 x2 x17 x18 x19 H K) (λx1 x2 x17 x18 x19 H=>T9 x1 x2 x17 x18 x19 H K):=dH (A3 _ _) (λ_ _ _ _ _ _ _=>by kernel_rfl)
def YZ (a0 a1:AV)(H:AH)(K:KT):Prop:=
 bH (AC H a0) λv0 H1=>
 bO (Ap true 2 H1 v0) λv2=>
 bP (PCall prog 90 [v2] H1) λv3=>
 bO (Em .not v3) λv4=>
 bG v4 false λw5=>
 gO w5 (some a1) λv6=>
 bG v4 false λw7=>
 gO w7 (Ar .lss v6 (I 0)) λv8=>
 bO (A0 v4 (B true) v8) λv9=>
 bB v9 λt10=>bI t10 (
 K (.tup [(I 0),(B false)]) H1)
 (bO (Ab 1 v0) λv11=>
 bO (Ap false 1 H1 v11) λv12=>
 bO (AL v12) λv13=>
 T9 a1 v0 v12 v13 (I 0) H1 K)
theorem bW {a0 a1:AV}{H:AH}{K:KT}(h:YZ a0 a1 H K):Ch 129 [a0,a1] H K:=
 fok A7 G4 TA func129 h
def TC:Nat→Option (List Bool):=Cd [(6,mk 44 0 [2,6])]
def V1 (p:List Bool)(n:Nat):List AV→AH→Kf→Prop:=AJ prog A7 G4 Aw Aw TC (sub p (AG f131)) n
def TB (x2 x6:AV)(H:AH)(K:KT):Prop:=lp (mk 44 0 [2,6]) (V1 [tT,tT,fF,tT,fF,fF] 7) [x2,x6] H (AS 0 (AN (V1 [tT,tT,tT] 13) (AR prog f131.results.toList K)))
def Q3 (R6:RT)(x2 x6:AV)(H:AH)(K:KT):Prop:=
 bO (Ab 0 x2) λv0=>
 bO (Ap false 1 H v0) λv1=>
 bO (Ar .lss x6 v1) λv2=>
 bB v2 λt3=>bI t3 (
 bO (Ab 1 x2) λv4=>
 bO (Ap false 1 H v4) λv5=>
 bO (Ar .quo x6 (I 8)) λv6=>
 bP (PCall prog 142 [v5,v6] H) λv7=>
 bO (Ag v7 0) λv8=>
 bO (Ag v7 1) λv9=>
 bO (Em .not v9) λv10=>
 bB v10 λt11=>bI t11 (
 K (.tup [x6,(B true)]) H)
 (bO (Ar .quo x6 (I 8)) λv12=>
 bO (Ar .add v12 (I 1)) λv13=>
 bO (Ar .mul v13 (I 8)) λv14=>
 R6 [x2,v14] H))
 (bO (Ab 0 x2) λv15=>
 bO (Ap false 1 H v15) λv16=>
 K (.tup [v16,(B true)]) H)
theorem UT {K:KT}:zdipZ (λR x2 x6 H=>Q3 R x2 x6 H K) (λx2 x6 H=>TB x2 x6 H K):=wM (A3 _ _) (λ_ _ _ _=>by kernel_rfl)
def Zb (a0 a1:AV)(H:AH)(K:KT):Prop:=
 bH (AC H a0) λv0 H1=>
 bO (Ap true 2 H1 v0) λv2=>
 bP (PCall prog 90 [v2] H1) λv3=>
 bO (Em .not v3) λv4=>
 bG v4 false λw5=>
 gO w5 (some a1) λv6=>
 bG v4 false λw7=>
 gO w7 (Ar .lss v6 (I 0)) λv8=>
 bO (A0 v4 (B true) v8) λv9=>
 bG v9 false λw10=>
 gO w10 (some a1) λv11=>
 bG v9 false λw12=>
 gO w12 (Ab 0 v0) λv13=>
 bG v9 false λw14=>
 gO w14 (Ap false 1 H1 v13) λv15=>
 bG v9 false λw16=>
 gO w16 (Ar .geq v11 v15) λv17=>
 bO (A0 v9 (B true) v17) λv18=>
 bB v18 λt19=>bI t19 (
 K (.tup [(I 0),(B false)]) H1)
 (TB v0 a1 H1 K)
theorem bY {a0 a1:AV}{H:AH}{K:KT}(h:Zb a0 a1 H K):Ch 131 [a0,a1] H K:=
 fok A7 G4 TC func131 h
def TI:Nat→Option (List Bool):=Cd [(11,mk 77 0 [1,2,7,41,42,43]),(8,mk 77 0 [1,2,7,41,42,43])]
def LE (p:List Bool)(n:Nat):List AV→AH→Kf→Prop:=AJ prog A7 G4 Aw Aw TI (sub p (AG f101)) n
def Jh (R8:RT)(x1 x2 x7 x41 x42 x43:AV)(H:AH)(K:KT):Prop:=jn (mk 77 0 [1,2,7,41,42,43]) (LE [tT,tT,tT,tT,fF,tT,fF,fF,tT,tT,tT] 15) [x1,x2,x7,x41,x42,x43] H (PP (mk 77 0 [1,2,7,41,42,43]) R8 (AS 0 (AN (LE [tT,tT,tT,tT,tT] 15) (AR prog f101.results.toList K))))
def TH (x1 x2 x7 x41 x42 x43:AV)(H:AH)(K:KT):Prop:=lp (mk 77 0 [1,2,7,41,42,43]) (LE [tT,tT,tT,tT,fF,tT,fF,fF] 9) [x1,x2,x7,x41,x42,x43] H (AS 0 (AN (LE [tT,tT,tT,tT,tT] 15) (AR prog f101.results.toList K)))
def Pk (R8:RT)(x1 x2 x7 x41 x42 x43:AV)(H:AH)(K:KT):Prop:=
 bO (Ar .add x43 (I 1)) λv0=>
 R8 [x1,x2,x7,x41,x42,v0] H
theorem Wc (R8:RT)(x1 x2 x7 x41 x42 x43:AV)(H:AH)(K:KT):Jh R8 x1 x2 x7 x41 x42 x43 H K=Pk R8 x1 x2 x7 x41 x42 x43 H K:=(B5 _ _ _ _ _).trans (by kernel_rfl)
def Q4 (R8:RT)(x1 x2 x7 x41 x42 x43:AV)(H:AH)(K:KT):Prop:=
 bO (Ar .lss x43 x42) λv0=>
 bB v0 λt1=>bI t1 (
 bO (Bo 9 x41 x43) λv2=>
 bO (Ap true 9 H v2) λv3=>
 bH (AC H (.agg [(I 0),u0Z,u0Z,u0Z,u0Z,u0Z,u0Z,u0Z,u0Z])) λv4 H5=>
 bS (AP 9 H5 v4 v3) λH6=>
 bO (Ab 0 v4) λv7=>
 bO (Ap false 1 H6 v7) λv8=>
 bP (PCall prog 153 [v8] H6) λv9=>
 bO (En [(I 0),(I 0)] [(0,1,x1),(1,1,x2)]) λv10=>
 bP (PCall prog 152 [v9,v10] H6) λv11=>
 bH (AC H6 (.agg [(I 0),(I 0)])) λv12 H13=>
 bS (AP 2 H13 v12 v11) λH14=>
 bO (Ab 1 v12) λv15=>
 bO (Ap false 1 H14 v15) λv16=>
 bO (Ar .gtr v16 (I 0)) λv17=>
 bB v17 λt18=>bI t18 (
 bO (Ab 0 v12) λv19=>
 bO (Ap false 1 H14 v19) λv20=>
 bO (Ar .sub v20 x1) λv21=>
 bO (Bf 1 x7 (some v21) none none) λv22=>
 bO (Ab 1 v4) λv23=>
 bO (Ab 0 v12) λv24=>
 bO (Ap false 1 H14 v24) λv25=>
 bO (Ab 0 v4) λv26=>
 bO (Ap false 1 H14 v26) λv27=>
 bO (Ar .mul v27 (I 8)) λv28=>
 bO (Ar .sub v25 v28) λv29=>
 bO (eR 8 1 H14 v23 (some v29) none) λv30=>
 bO (Ab 1 v12) λv31=>
 bO (Ap false 1 H14 v31) λv32=>
 bO (Bf 1 v30 none (some v32) none) λv33=>
 bH (UP 1 H14 v22 v33) λv34 H35=>
 Jh R8 x1 x2 x7 x41 x42 x43 H35 K)
 (Jh R8 x1 x2 x7 x41 x42 x43 H14 K))
 (K x7 H)
theorem UU {K:KT}:vA (λR x1 x2 x7 x41 x42 x43 H=>Q4 R x1 x2 x7 x41 x42 x43 H K) (λx1 x2 x7 x41 x42 x43 H=>TH x1 x2 x7 x41 x42 x43 H K):=fQ (A3 _ _) (λ_ _ _ _ _ _ _ _=>by kernel_rfl)
def Zc (a0 a1 a2:AV)(H:AH)(K:KT):Prop:=
 bH (AC H a0) λv0 H1=>
 bO (Ap true 2 H1 v0) λv2=>
 bP (PCall prog 90 [v2] H1) λv3=>
 bO (Em .not v3) λv4=>
 bG v4 false λw5=>
 gO w5 (some a1) λv6=>
 bG v4 false λw7=>
 gO w7 (Ar .lss v6 (I 0)) λv8=>
 bO (A0 v4 (B true) v8) λv9=>
 bG v9 false λw10=>
 gO w10 (some a2) λv11=>
 bG v9 false λw12=>
 gO w12 (Ar .lss v11 (I 0)) λv13=>
 bO (A0 v9 (B true) v13) λv14=>
 bG v14 false λw15=>
 gO w15 (some a2) λv16=>
 bG v14 false λw17=>
 gO w17 (Ar .gtr v16 (I 4096)) λv18=>
 bO (A0 v14 (B true) v18) λv19=>
 bG v19 false λw20=>
 gO w20 (some a1) λv21=>
 bG v19 false λw22=>
 gO w22 (Ab 0 v0) λv23=>
 bG v19 false λw24=>
 gO w24 (Ap false 1 H1 v23) λv25=>
 bG v19 false λw26=>
 gO w26 (Ar .geq v21 v25) λv27=>
 bO (A0 v19 (B true) v27) λv28=>
 bB v28 λt29=>bI t29 (
 K Ad H1)
 (bO (Ab 0 v0) λv30=>
 bO (Ap false 1 H1 v30) λv31=>
 bO (Ar .sub v31 a1) λv32=>
 bO (amm Zn [a2,v32]) λv33=>
 bH (zdopZ 1 1 [u0Z] H1 v33 v33) λv34 H35=>
 bO (Ab 1 v0) λv36=>
 bO (Ap false 1 H35 v36) λv37=>
 bO (AL v37) λv38=>
 TH a1 v33 v34 v37 v38 (I 0) H35 K)
theorem cA {a0 a1 a2:AV}{H:AH}{K:KT}(h:Zc a0 a1 a2 H K):Ch 101 [a0,a1,a2] H K:=
 fok A7 G4 TI func101 h
def V3:Nat→Option (List Bool):=Cd [(7,mk 40 0 [1,3,15,16,17])]
def WN (p:List Bool)(n:Nat):List AV→AH→Kf→Prop:=AJ prog A7 G4 Aw Aw V3 (sub p (AG f90)) n
def V2 (x1 x3 x15 x16 x17:AV)(H:AH)(K:KT):Prop:=lp (mk 40 0 [1,3,15,16,17]) (WN [tT,tT,tT,fF,tT,fF,fF] 8) [x1,x3,x15,x16,x17] H (AS 0 (AN (WN [tT,tT,tT,tT] 15) (AR prog f90.results.toList K)))
def Sq (R7:RT)(x1 x3 x15 x16 x17:AV)(H:AH)(K:KT):Prop:=
 bO (Ar .lss x17 x16) λv0=>
 bB v0 λt1=>bI t1 (
 bO (Bo 9 x15 x17) λv2=>
 bO (Ap true 9 H v2) λv3=>
 bH (AC H (.agg [(I 0),u0Z,u0Z,u0Z,u0Z,u0Z,u0Z,u0Z,u0Z])) λv4 H5=>
 bS (AP 9 H5 v4 v3) λH6=>
 bO (Ab 0 v4) λv7=>
 bO (Ap false 1 H6 v7) λv8=>
 bO (Ar .leq v8 x3) λv9=>
 bG v9 false λw10=>
 gO w10 (Ab 0 v4) λv11=>
 bG v9 false λw12=>
 gO w12 (Ap false 1 H6 v11) λv13=>
 bG v9 false λw14=>
 gO w14 (Ar .geq v13 (I 137438953472)) λv15=>
 bO (A0 v9 (B true) v15) λv16=>
 bG v16 false λw17=>
 gO w17 (Ap true 9 H6 v4) λv18=>
 bG v16 false λw19=>
 gO w19 (Ab 0 x1) λv20=>
 bG v16 false λw21=>
 gO w21 (Ap false 1 H6 v20) λv22=>
 bG v16 false λw23=>
 gP w23 (PCall prog 141 [v18,v22] H6) λv24=>
 bG v16 false λw25=>
 gO w25 (Em .not v24) λv26=>
 bO (A0 v16 (B true) v26) λv27=>
 bB v27 λt28=>bI t28 (
 K (B false) H6)
 (bO (Ab 0 v4) λv29=>
 bO (Ap false 1 H6 v29) λv30=>
 bO (Ar .add x17 (I 1)) λv31=>
 R7 [x1,v30,x15,x16,v31] H6))
 (K (B true) H)
theorem Wb {K:KT}:pV (λR x1 x3 x15 x16 x17 H=>Sq R x1 x3 x15 x16 x17 H K) (λx1 x3 x15 x16 x17 H=>V2 x1 x3 x15 x16 x17 H K):=dH (A3 _ _) (λ_ _ _ _ _ _ _=>by kernel_rfl)
def bZ (a0:AV)(H:AH)(K:KT):Prop:=
 bH (AC H a0) λv0 H1=>
 bO (Ab 0 v0) λv2=>
 bO (Ap false 1 H1 v2) λv3=>
 bO (Ar .lss v3 (I 0)) λv4=>
 bG v4 false λw5=>
 gO w5 (Ab 0 v0) λv6=>
 bG v4 false λw7=>
 gO w7 (Ap false 1 H1 v6) λv8=>
 bG v4 false λw9=>
 gO w9 (Ar .gtr v8 (I 1099511627776)) λv10=>
 bO (A0 v4 (B true) v10) λv11=>
 bB v11 λt12=>bI t12 (
 K (B false) H1)
 (bO (Ab 1 v0) λv13=>
 bO (Ap false 1 H1 v13) λv14=>
 bO (AL v14) λv15=>
 V2 v0 (I (-1)) v14 v15 (I 0) H1 K)
theorem fD {a0:AV}{H:AH}{K:KT}(h:bZ a0 H K):Ch 90 [a0] H K:=
 fok A7 G4 V3 func90 h
def GT:Nat→Option (List Bool):=Cd [(12,mk 69 0 [3,6]),(7,mk 69 0 [1,2,3,6,8])]
def E5 (p:List Bool)(n:Nat):List AV→AH→Kf→Prop:=AJ prog A7 G4 Aw Aw GT (sub p (AG f118)) n
def Da (x3 x6:AV)(H:AH)(K:KT):Prop:=jn (mk 69 0 [3,6]) (E5 [tT,tT,tT,tT,tT] 14) [x3,x6] H (AR prog f118.results.toList K)
def GS (x1 x2 x3 x6 x8:AV)(H:AH)(K:KT):Prop:=lp (mk 69 0 [1,2,3,6,8]) (E5 [tT,tT,tT,fF,tT,fF,fF] 8) [x1,x2,x3,x6,x8] H (AS 0 (AN (E5 [tT,tT,tT,tT] 12) (AR prog f118.results.toList K)))
def F8 (x3 x6:AV)(H:AH)(K:KT):Prop:=
 bO (Ap true 2 H x3) λv0=>
 bS (AP 2 H x6 v0) λH1=>
 bO (Ap true 2 H1 x6) λv2=>
 K (.tup [v2,(B true)]) H1
theorem KS (x3 x6:AV)(H:AH)(K:KT):Da x3 x6 H K=F8 x3 x6 H K:=(B5 _ _ _ _ _).trans (by kernel_rfl)
def FO (R7:RT)(x1 x2 x3 x6 x8:AV)(H:AH)(K:KT):Prop:=
 bO (AL x2) λv0=>
 bO (Ar .lss x8 v0) λv1=>
 bB v1 λt2=>bI t2 (
 bO (Ar .add x1 x8) λv3=>
 bO (Ar .quo v3 (I 8)) λv4=>
 bC (BCall prog 170 [x3,v4] H) λv5 H6=>
 bO (Ab 1 x3) λv7=>
 bO (Ap false 1 H6 v7) λv8=>
 bO (Ar .add x1 x8) λv9=>
 bO (Ar .rem v9 (I 8)) λv10=>
 bO (Bo 1 x2 x8) λv11=>
 bO (Ap false 1 H6 v11) λv12=>
 bO (Bo 9 v8 v5) λv13=>
 bO (Ab 1 v13) λv14=>
 bO (SJ 8 1 v14 v10) λv15=>
 bS (AP 1 H6 v15 v12) λH16=>
 bO (Ar .add x8 (I 1)) λv17=>
 R7 [x1,x2,x3,x6,v17] H16)
 (bO (AL x2) λv18=>
 bO (Ar .gtr v18 (I 0)) λv19=>
 bB v19 λt20=>bI t20 (
 bO (Ab 0 x3) λv21=>
 bO (Ap false 1 H v21) λv22=>
 bO (AL x2) λv23=>
 bO (Ar .add x1 v23) λv24=>
 bO (amm XX [v22,v24]) λv25=>
 bO (Ab 0 x3) λv26=>
 bS (AP 1 H v26 v25) λH27=>
 Da x3 x6 H27 K)
 (Da x3 x6 H K))
theorem Ky {K:KT}:pV (λR x1 x2 x3 x6 x8 H=>FO R x1 x2 x3 x6 x8 H K) (λx1 x2 x3 x6 x8 H=>GS x1 x2 x3 x6 x8 H K):=dH (A3 _ _) (λ_ _ _ _ _ _ _=>by kernel_rfl)
def IT (a0 a1 a2:AV)(H:AH)(K:KT):Prop:=
 bH (AC H a0) λv0 H1=>
 bH (AC H1 (.agg [(I 0),Ad])) λv2 H3=>
 bO (Ap true 2 H3 v0) λv4=>
 bP (PCall prog 122 [v4] H3) λv5=>
 bO (Em .not v5) λv6=>
 bG v6 false λw7=>
 gO w7 (some a1) λv8=>
 bG v6 false λw9=>
 gO w9 (Ar .lss v8 (I 0)) λv10=>
 bO (A0 v6 (B true) v10) λv11=>
 bG v11 false λw12=>
 gO w12 (some a2) λv13=>
 bG v11 false λw14=>
 gO w14 (AL v13) λv15=>
 bG v11 false λw16=>
 gO w16 (Ar .gtr v15 (I 4096)) λv17=>
 bO (A0 v11 (B true) v17) λv18=>
 bG v18 false λw19=>
 gO w19 (some a1) λv20=>
 bG v18 false λw21=>
 gO w21 (some a2) λv22=>
 bG v18 false λw23=>
 gO w23 (AL v22) λv24=>
 bG v18 false λw25=>
 gO w25 (Ar .sub (I 1099511627776) v24) λv26=>
 bG v18 false λw27=>
 gO w27 (Ar .gtr v20 v26) λv28=>
 bO (A0 v18 (B true) v28) λv29=>
 bB v29 λt30=>bI t30 (
 bO (En [(I 0),Ad] []) λv31=>
 bS (AP 2 H3 v2 v31) λH32=>
 bO (Ap true 2 H32 v2) λv33=>
 K (.tup [v33,(B false)]) H32)
 (bO (Ap true 2 H3 v0) λv34=>
 bC (BCall prog 169 [v34] H3) λv35 H36=>
 bS (AP 2 H36 v0 v35) λH37=>
 GS a1 a2 v0 v2 (I 0) H37 K)
theorem Nu {a0 a1 a2:AV}{H:AH}{K:KT}(h:IT a0 a1 a2 H K):Ch 118 [a0,a1,a2] H K:=
 fok A7 G4 GT func118 h
def Ht:Nat→Option (List Bool):=Cd [(6,mk 38 0 [2,3,5])]
def Ij (p:List Bool)(n:Nat):List AV→AH→Kf→Prop:=AJ prog A7 G4 Aw Aw Ht (sub p (AG f63)) n
def Hs (x2 x3 x5:AV)(H:AH)(K:KT):Prop:=lp (mk 38 0 [2,3,5]) (Ij [tT,tT,fF,tT,fF,fF] 7) [x2,x3,x5] H (AS 0 (AN (Ij [tT,tT,tT] 12) (AR prog f63.results.toList K)))
def Gl (R6:RT)(x2 x3 x5:AV)(H:AH)(K:KT):Prop:=
 bO (Ab 1 x2) λv0=>
 bO (Ap false 1 H v0) λv1=>
 bO (AL v1) λv2=>
 bO (Ar .lss x5 v2) λv3=>
 bB v3 λt4=>bI t4 (
 bO (Ab 1 x2) λv5=>
 bO (Ap false 1 H v5) λv6=>
 bO (Bo 9 v6 x5) λv7=>
 bO (Ap true 9 H v7) λv8=>
 bO (Ab 1 x3) λv9=>
 bO (Ap false 1 H v9) λv10=>
 bO (Bo 9 v10 x5) λv11=>
 bO (Ap true 9 H v11) λv12=>
 bO (PI prog .neq 134 v8 v12) λv13=>
 bB v13 λt14=>bI t14 (
 K (B false) H)
 (bO (Ar .add x5 (I 1)) λv15=>
 R6 [x2,x3,v15] H))
 (K (B true) H)
theorem KL {K:KT}:pU (λR x2 x3 x5 H=>Gl R x2 x3 x5 H K) (λx2 x3 x5 H=>Hs x2 x3 x5 H K):=Xs (A3 _ _) (λ_ _ _ _ _=>by kernel_rfl)
def J8 (a0 a1:AV)(H:AH)(K:KT):Prop:=
 bH (AC H a0) λv0 H1=>
 bH (AC H1 a1) λv2 H3=>
 bO (Ab 0 v0) λv4=>
 bO (Ap false 1 H3 v4) λv5=>
 bO (Ab 0 v2) λv6=>
 bO (Ap false 1 H3 v6) λv7=>
 bO (Ar .neq v5 v7) λv8=>
 bG v8 false λw9=>
 gO w9 (Ab 1 v0) λv10=>
 bG v8 false λw11=>
 gO w11 (Ap false 1 H3 v10) λv12=>
 bG v8 false λw13=>
 gO w13 (AL v12) λv14=>
 bG v8 false λw15=>
 gO w15 (Ab 1 v2) λv16=>
 bG v8 false λw17=>
 gO w17 (Ap false 1 H3 v16) λv18=>
 bG v8 false λw19=>
 gO w19 (AL v18) λv20=>
 bG v8 false λw21=>
 gO w21 (Ar .neq v14 v20) λv22=>
 bO (A0 v8 (B true) v22) λv23=>
 bB v23 λt24=>bI t24 (
 K (B false) H3)
 (Hs v0 v2 (I 0) H3 K)
theorem O3 {a0 a1:AV}{H:AH}{K:KT}(h:J8 a0 a1 H K):Ch 63 [a0,a1] H K:=
 fok A7 G4 Ht func63 h
def Hn:Nat→Option (List Bool):=Cd [(6,mk 48 0 [1,2,6])]
def Ic (p:List Bool)(n:Nat):List AV→AH→Kf→Prop:=AJ prog A7 G4 Aw Aw Hn (sub p (AG f130)) n
def Hm (x1 x2 x6:AV)(H:AH)(K:KT):Prop:=lp (mk 48 0 [1,2,6]) (Ic [tT,tT,fF,tT,fF,fF] 7) [x1,x2,x6] H (AS 0 (AN (Ic [tT,tT,tT] 13) (AR prog f130.results.toList K)))
def Gg (R6:RT)(x1 x2 x6:AV)(H:AH)(K:KT):Prop:=
 bO (Ab 1 x2) λv0=>
 bO (Ap false 1 H v0) λv1=>
 bO (AL v1) λv2=>
 bO (Ar .lss x6 v2) λv3=>
 bB v3 λt4=>bI t4 (
 bO (Ab 1 x2) λv5=>
 bO (Ap false 1 H v5) λv6=>
 bO (Bo 9 v6 x6) λv7=>
 bO (Ab 0 v7) λv8=>
 bO (Ap false 1 H v8) λv9=>
 bO (Ar .mul v9 (I 8)) λv10=>
 bO (amm XX [v10,x1]) λv11=>
 bO (Ab 1 x2) λv12=>
 bO (Ap false 1 H v12) λv13=>
 bO (Bo 9 v13 x6) λv14=>
 bO (Ab 0 v14) λv15=>
 bO (Ap false 1 H v15) λv16=>
 bO (Ar .add v16 (I 1)) λv17=>
 bO (Ar .mul v17 (I 8)) λv18=>
 bO (Ar .lss v11 v18) λv19=>
 bG v19 true λw20=>
 gO w20 (some v11) λv21=>
 bG v19 true λw22=>
 gO w22 (Ab 0 x2) λv23=>
 bG v19 true λw24=>
 gO w24 (Ap false 1 H v23) λv25=>
 bG v19 true λw26=>
 gO w26 (Ar .lss v21 v25) λv27=>
 bO (A0 v19 v27 (B false)) λv28=>
 bB v28 λt29=>bI t29 (
 K (.tup [v11,(B true)]) H)
 (bO (Ar .add x6 (I 1)) λv30=>
 R6 [x1,x2,v30] H))
 (K (.tup [(I 0),(B false)]) H)
theorem KF {K:KT}:pU (λR x1 x2 x6 H=>Gg R x1 x2 x6 H K) (λx1 x2 x6 H=>Hm x1 x2 x6 H K):=Xs (A3 _ _) (λ_ _ _ _ _=>by kernel_rfl)
def J3 (a0 a1:AV)(H:AH)(K:KT):Prop:=
 bH (AC H a0) λv0 H1=>
 bO (Ap true 2 H1 v0) λv2=>
 bP (PCall prog 122 [v2] H1) λv3=>
 bO (Em .not v3) λv4=>
 bG v4 false λw5=>
 gO w5 (some a1) λv6=>
 bG v4 false λw7=>
 gO w7 (Ar .lss v6 (I 0)) λv8=>
 bO (A0 v4 (B true) v8) λv9=>
 bB v9 λt10=>bI t10 (
 K (.tup [(I 0),(B false)]) H1)
 (Hm a1 v0 (I 0) H1 K)
theorem Oz {a0 a1:AV}{H:AH}{K:KT}(h:J3 a0 a1 H K):Ch 130 [a0,a1] H K:=
 fok A7 G4 Hn func130 h
def Hp:Nat→Option (List Bool):=Cd [(5,mk 32 0 [1,2])]
def Ie (p:List Bool)(n:Nat):List AV→AH→Kf→Prop:=AJ prog A7 G4 Aw Aw Hp (sub p (AG f132)) n
def Ho (x1 x2:AV)(H:AH)(K:KT):Prop:=lp (mk 32 0 [1,2]) (Ie [tT,tT,fF,fF,fF] 6) [x1,x2] H (AS 0 (AN (Ie [tT,tT,tT] 8) (AR prog f132.results.toList K)))
def Gh (R5:RT)(x1 x2:AV)(H:AH)(K:KT):Prop:=
 bO (Ap true 2 H x2) λv0=>
 bO (Ar .quo x1 (I 8)) λv1=>
 bP (PCall prog 121 [v0,v1] H) λv2=>
 bO (Ar .geq v2 (I 0)) λv3=>
 bB v3 λt4=>bI t4 (
 bO (Ar .quo x1 (I 8)) λv5=>
 bO (Ar .add v5 (I 1)) λv6=>
 bO (Ar .mul v6 (I 8)) λv7=>
 R5 [v7,x2] H)
 (bO (Ab 0 x2) λv8=>
 bO (Ap false 1 H v8) λv9=>
 bO (amm Zn [x1,v9]) λv10=>
 K (.tup [v10,(B true)]) H)
theorem KG {K:KT}:zdipZ (λR x1 x2 H=>Gh R x1 x2 H K) (λx1 x2 H=>Ho x1 x2 H K):=wM (A3 _ _) (λ_ _ _ _=>by kernel_rfl)
def J4 (a0 a1:AV)(H:AH)(K:KT):Prop:=
 bH (AC H a0) λv0 H1=>
 bO (Ap true 2 H1 v0) λv2=>
 bP (PCall prog 122 [v2] H1) λv3=>
 bO (Em .not v3) λv4=>
 bG v4 false λw5=>
 gO w5 (some a1) λv6=>
 bG v4 false λw7=>
 gO w7 (Ar .lss v6 (I 0)) λv8=>
 bO (A0 v4 (B true) v8) λv9=>
 bG v9 false λw10=>
 gO w10 (some a1) λv11=>
 bG v9 false λw12=>
 gO w12 (Ab 0 v0) λv13=>
 bG v9 false λw14=>
 gO w14 (Ap false 1 H1 v13) λv15=>
 bG v9 false λw16=>
 gO w16 (Ar .geq v11 v15) λv17=>
 bO (A0 v9 (B true) v17) λv18=>
 bB v18 λt19=>bI t19 (
 K (.tup [(I 0),(B false)]) H1)
 (Ho a1 v0 H1 K)
theorem O1 {a0 a1:AV}{H:AH}{K:KT}(h:J4 a0 a1 H K):Ch 132 [a0,a1] H K:=
 fok A7 G4 Hp func132 h
def Ig:Nat→Option (List Bool):=Cd [(15,mk 70 0 [1,3,4,5]),(6,mk 70 0 [1,3])]
def CT (p:List Bool)(n:Nat):List AV→AH→Kf→Prop:=AJ prog A7 G4 Aw Aw Ig (sub p (AG f122)) n
def E1 (R6:RT)(x1 x3 x4 x5:AV)(H:AH)(K:KT):Prop:=lp (mk 70 0 [1,3,4,5]) (CT [tT,tT,fF,tT,fF,fF,tT,fF,fF,tT,tT,tT,fF,fF] 16) [x1,x3,x4,x5] H (AS 2 (AS 1 (AN (CT [tT,tT,fF,tT,fF,fF,tT,tT] 21) (PP (mk 70 0 [1,3]) R6 (AS 0 (AN (CT [tT,tT,tT] 21) (AR prog f122.results.toList K)))))))
def If (x1 x3:AV)(H:AH)(K:KT):Prop:=lp (mk 70 0 [1,3]) (CT [tT,tT,fF,tT,fF,fF] 7) [x1,x3] H (AS 0 (AN (CT [tT,tT,tT] 21) (AR prog f122.results.toList K)))
def Gi (R6:RT)(R15:RT)(x1 x3 x4 x5:AV)(H:AH)(K:KT):Prop:=
 bO (Ar .lss x5 (I 8)) λv0=>
 bB v0 λt1=>bI t1 (
 bO (Ar .mul x4 (I 8)) λv2=>
 bO (Ar .add v2 x5) λv3=>
 bO (Ab 0 x1) λv4=>
 bO (Ap false 1 H v4) λv5=>
 bO (Ar .geq v3 v5) λv6=>
 bG v6 true λw7=>
 gO w7 (Ab 1 x1) λv8=>
 bG v6 true λw9=>
 gO w9 (Ap false 1 H v8) λv10=>
 bG v6 true λw11=>
 gO w11 (some x3) λv12=>
 bG v6 true λw13=>
 gO w13 (some x5) λv14=>
 bG v6 true λw15=>
 gO w15 (Bo 9 v10 v12) λv16=>
 bG v6 true λw17=>
 gO w17 (Ab 1 v16) λv18=>
 bG v6 true λw19=>
 gO w19 (SJ 8 1 v18 v14) λv20=>
 bG v6 true λw21=>
 gO w21 (Ap false 1 H v20) λv22=>
 bG v6 true λw23=>
 gO w23 (Ar .neq v22 u0Z) λv24=>
 bO (A0 v6 v24 (B false)) λv25=>
 bB v25 λt26=>bI t26 (
 K (B false) H)
 (bO (Ar .add x5 (I 1)) λv27=>
 R15 [x1,x3,x4,v27] H))
 (bO (Ar .add x3 (I 1)) λv28=>
 R6 [x1,v28] H)
theorem KH (R6:RT){K:KT}:eI (λR x1 x3 x4 x5 H=>Gi R6 R x1 x3 x4 x5 H K) (λx1 x3 x4 x5 H=>E1 R6 x1 x3 x4 x5 H K):=RQ (A3 _ _) (λ_ _ _ _ _ _=>by kernel_rfl)
def GH (R6:RT)(x1 x3:AV)(H:AH)(K:KT):Prop:=
 bO (Ab 1 x1) λv0=>
 bO (Ap false 1 H v0) λv1=>
 bO (AL v1) λv2=>
 bO (Ar .lss x3 v2) λv3=>
 bB v3 λt4=>bI t4 (
 bO (Ab 1 x1) λv5=>
 bO (Ap false 1 H v5) λv6=>
 bO (Bo 9 v6 x3) λv7=>
 bO (Ab 0 v7) λv8=>
 bO (Ap false 1 H v8) λv9=>
 bO (Ar .lss v9 (I 0)) λv10=>
 bG v10 false λw11=>
 gO w11 (some v9) λv12=>
 bG v10 false λw13=>
 gO w13 (Ar .geq v12 (I 137438953472)) λv14=>
 bO (A0 v10 (B true) v14) λv15=>
 bG v15 false λw16=>
 gO w16 (some x3) λv17=>
 bG v15 false λw18=>
 gO w18 (Ar .gtr v17 (I 0)) λv19=>
 bG v15 false λw20=>
 gO w20 (some v19) λv21=>
 bG v21 true λw22=>
 gO w22 (Ab 1 x1) λv23=>
 bG v21 true λw24=>
 gO w24 (Ap false 1 H v23) λv25=>
 bG v21 true λw26=>
 gO w26 (some x3) λv27=>
 bG v21 true λw28=>
 gO w28 (Ar .sub v27 (I 1)) λv29=>
 bG v21 true λw30=>
 gO w30 (Bo 9 v25 v29) λv31=>
 bG v21 true λw32=>
 gO w32 (Ab 0 v31) λv33=>
 bG v21 true λw34=>
 gO w34 (Ap false 1 H v33) λv35=>
 bG v21 true λw36=>
 gO w36 (some v9) λv37=>
 bG v21 true λw38=>
 gO w38 (Ar .geq v35 v37) λv39=>
 bG v15 false λw40=>
 gO w40 (A0 v21 v39 (B false)) λv41=>
 bO (A0 v15 (B true) v41) λv42=>
 bB v42 λt43=>bI t43 (
 K (B false) H)
 (E1 R6 x1 x3 v9 (I 0) H K))
 (K (B true) H)
theorem L7 {K:KT}:zdipZ (λR x1 x3 H=>GH R x1 x3 H K) (λx1 x3 H=>If x1 x3 H K):=wM (A3 _ _) (λ_ _ _ _=>by kernel_rfl)
def Kl (a0:AV)(H:AH)(K:KT):Prop:=
 bH (AC H a0) λv0 H1=>
 bO (Ab 0 v0) λv2=>
 bO (Ap false 1 H1 v2) λv3=>
 bO (Ar .lss v3 (I 0)) λv4=>
 bG v4 false λw5=>
 gO w5 (Ab 0 v0) λv6=>
 bG v4 false λw7=>
 gO w7 (Ap false 1 H1 v6) λv8=>
 bG v4 false λw9=>
 gO w9 (Ar .gtr v8 (I 1099511627776)) λv10=>
 bO (A0 v4 (B true) v10) λv11=>
 bB v11 λt12=>bI t12 (
 K (B false) H1)
 (If v0 (I 0) H1 K)
theorem OT {a0:AV}{H:AH}{K:KT}(h:Kl a0 H K):Ch 122 [a0] H K:=
 fok A7 G4 Ig func122 h
def Hr:Nat→Option (List Bool):=Cd [(7,mk 47 0 [1,2,3,7,8])]
def Ii (p:List Bool)(n:Nat):List AV→AH→Kf→Prop:=AJ prog A7 G4 Aw Aw Hr (sub p (AG f68)) n
def Hq (x1 x2 x3 x7 x8:AV)(H:AH)(K:KT):Prop:=lp (mk 47 0 [1,2,3,7,8]) (Ii [tT,tT,tT,fF,tT,fF,fF] 8) [x1,x2,x3,x7,x8] H (AS 0 (AN (Ii [tT,tT,tT,tT] 11) (AR prog f68.results.toList K)))
def Gk (R7:RT)(x1 x2 x3 x7 x8:AV)(H:AH)(K:KT):Prop:=
 bO (Ar .lss x8 x2) λv0=>
 bG v0 true λw1=>
 gO w1 (some x1) λv2=>
 bG v0 true λw3=>
 gO w3 (Ab 0 x3) λv4=>
 bG v0 true λw5=>
 gO w5 (Ap false 1 H v4) λv6=>
 bG v0 true λw7=>
 gO w7 (some x8) λv8=>
 bG v0 true λw9=>
 gO w9 (Ar .sub v6 v8) λv10=>
 bG v0 true λw11=>
 gO w11 (Ar .lss v2 v10) λv12=>
 bO (A0 v0 v12 (B false)) λv13=>
 bB v13 λt14=>bI t14 (
 bO (Ap true 2 H x3) λv15=>
 bO (Ar .add x1 x8) λv16=>
 bP (PCall prog 123 [v15,v16] H) λv17=>
 bH (D9 H 1 1 (B4 [u0Z] 1) [(0,1,v17)]) λv18 H19=>
 bH (HM 1 1 H19 x7 v18) λv20 H21=>
 bO (Ar .add x8 (I 1)) λv22=>
 R7 [x1,x2,x3,v20,v22] H21)
 (K x7 H)
theorem KK {K:KT}:pV (λR x1 x2 x3 x7 x8 H=>Gk R x1 x2 x3 x7 x8 H K) (λx1 x2 x3 x7 x8 H=>Hq x1 x2 x3 x7 x8 H K):=dH (A3 _ _) (λ_ _ _ _ _ _ _=>by kernel_rfl)
def J7 (a0 a1 a2:AV)(H:AH)(K:KT):Prop:=
 bH (AC H a0) λv0 H1=>
 bO (Ap true 2 H1 v0) λv2=>
 bP (PCall prog 122 [v2] H1) λv3=>
 bO (Em .not v3) λv4=>
 bG v4 false λw5=>
 gO w5 (some a1) λv6=>
 bG v4 false λw7=>
 gO w7 (Ar .lss v6 (I 0)) λv8=>
 bO (A0 v4 (B true) v8) λv9=>
 bG v9 false λw10=>
 gO w10 (some a2) λv11=>
 bG v9 false λw12=>
 gO w12 (Ar .lss v11 (I 0)) λv13=>
 bO (A0 v9 (B true) v13) λv14=>
 bG v14 false λw15=>
 gO w15 (some a2) λv16=>
 bG v14 false λw17=>
 gO w17 (Ar .gtr v16 (I 4096)) λv18=>
 bO (A0 v14 (B true) v18) λv19=>
 bB v19 λt20=>bI t20 (
 K Ad H1)
 (Hq a1 a2 v0 Ad (I 0) H1 K)
theorem O2 {a0 a1 a2:AV}{H:AH}{K:KT}(h:J7 a0 a1 a2 H K):Ch 68 [a0,a1,a2] H K:=
 fok A7 G4 Hr func68 h
def N9:Nat→Option (List Bool):=Cd [(11,mk 50 0 [4,8]),(7,mk 50 0 [1,2,3,4,8,10])]
def JW (p:List Bool)(n:Nat):List AV→AH→Kf→Prop:=AJ prog A7 G4 Aw Aw N9 (sub p (AG f104)) n
def Fm (x4 x8:AV)(H:AH)(K:KT):Prop:=jn (mk 50 0 [4,8]) (JW [tT,tT,tT,tT,tT] 13) [x4,x8] H (AR prog f104.results.toList K)
def N8 (x1 x2 x3 x4 x8 x10:AV)(H:AH)(K:KT):Prop:=lp (mk 50 0 [1,2,3,4,8,10]) (JW [tT,tT,tT,fF,tT,fF,fF] 8) [x1,x2,x3,x4,x8,x10] H (AS 0 (AN (JW [tT,tT,tT,tT] 11) (AR prog f104.results.toList K)))
def KX (x4 x8:AV)(H:AH)(K:KT):Prop:=
 bO (Ap true 2 H x4) λv0=>
 bS (AP 2 H x8 v0) λH1=>
 bO (Ap true 2 H1 x8) λv2=>
 K (.tup [v2,(B true)]) H1
theorem RL (x4 x8:AV)(H:AH)(K:KT):Fm x4 x8 H K=KX x4 x8 H K:=(B5 _ _ _ _ _).trans (by kernel_rfl)
def LQ (R7:RT)(x1 x2 x3 x4 x8 x10:AV)(H:AH)(K:KT):Prop:=
 bO (Ar .add x1 x2) λv0=>
 bO (Ar .sub v0 (I 1)) λv1=>
 bO (Ar .quo v1 (I 8)) λv2=>
 bO (Ar .leq x10 v2) λv3=>
 bB v3 λt4=>bI t4 (
 bC (BCall prog 92 [x4,x10] H) λv5 H6=>
 bO (Ar .add x10 (I 1)) λv7=>
 R7 [x1,x2,x3,x4,x8,v7] H6)
 (bO (Em .not x3) λv8=>
 bB v8 λt9=>bI t9 (
 bO (Ab 0 x4) λv10=>
 bO (Ap false 1 H v10) λv11=>
 bO (Ar .add x1 x2) λv12=>
 bO (amm XX [v11,v12]) λv13=>
 bO (Ab 0 x4) λv14=>
 bS (AP 1 H v14 v13) λH15=>
 Fm x4 x8 H15 K)
 (Fm x4 x8 H K))
theorem Q0 {K:KT}:vA (λR x1 x2 x3 x4 x8 x10 H=>LQ R x1 x2 x3 x4 x8 x10 H K) (λx1 x2 x3 x4 x8 x10 H=>N8 x1 x2 x3 x4 x8 x10 H K):=fQ (A3 _ _) (λ_ _ _ _ _ _ _ _=>by kernel_rfl)
def So (a0 a1 a2 a3:AV)(H:AH)(K:KT):Prop:=
 bH (AC H a0) λv0 H1=>
 bH (AC H1 (.agg [(I 0),Ad])) λv2 H3=>
 bO (Ap true 2 H3 v0) λv4=>
 bP (PCall prog 90 [v4] H3) λv5=>
 bO (Em .not v5) λv6=>
 bG v6 false λw7=>
 gO w7 (some a1) λv8=>
 bG v6 false λw9=>
 gO w9 (some a2) λv10=>
 bG v6 false λw11=>
 gP w11 (PCall prog 158 [v8,v10] H3) λv12=>
 bG v6 false λw13=>
 gO w13 (Em .not v12) λv14=>
 bO (A0 v6 (B true) v14) λv15=>
 bG v15 false λw16=>
 gO w16 (some a2) λv17=>
 bG v15 false λw18=>
 gO w18 (Ar .gtr v17 (I 32768)) λv19=>
 bO (A0 v15 (B true) v19) λv20=>
 bB v20 λt21=>bI t21 (
 bO (En [(I 0),Ad] []) λv22=>
 bS (AP 2 H3 v2 v22) λH23=>
 bO (Ap true 2 H23 v2) λv24=>
 K (.tup [v24,(B false)]) H23)
 (bO (Ap true 2 H3 v0) λv25=>
 bC (BCall prog 91 [v25] H3) λv26 H27=>
 bS (AP 2 H27 v0 v26) λH28=>
 bO (Ar .quo a1 (I 8)) λv29=>
 N8 a1 a2 a3 v0 v2 v29 H28 K)
theorem Wa {a0 a1 a2 a3:AV}{H:AH}{K:KT}(h:So a0 a1 a2 a3 H K):Ch 104 [a0,a1,a2,a3] H K:=
 fok A7 G4 N9 func104 h
def NB:Nat→Option (List Bool):=Cd [(9,mk 45 0 [2,3,4,30,31])]
def Pm (p:List Bool)(n:Nat):List AV→AH→Kf→Prop:=AJ prog A7 G4 Aw Aw NB (sub p (AG f103)) n
def NA (x2 x3 x4 x30 x31:AV)(H:AH)(K:KT):Prop:=lp (mk 45 0 [2,3,4,30,31]) (Pm [tT,tT,tT,tT,tT,fF,tT,fF,fF] 10) [x2,x3,x4,x30,x31] H (AS 0 (AN (Pm [tT,tT,tT,tT,tT,tT] 14) (AR prog f103.results.toList K)))
def LR (R9:RT)(x2 x3 x4 x30 x31:AV)(H:AH)(K:KT):Prop:=
 bO (Ar .lss x31 x30) λv0=>
 bB v0 λt1=>bI t1 (
 bO (Ab 1 x2) λv2=>
 bO (Ap false 1 H v2) λv3=>
 bO (Bo 9 v3 x31) λv4=>
 bO (Ap false 1 H x3) λv5=>
 bO (Ap false 1 H x3) λv6=>
 bO (Ar .sub (I 1099511627776) v6) λv7=>
 bO (En [(I 0),(I 0)] [(0,1,v5),(1,1,v7)]) λv8=>
 bC (BCall prog 157 [v4,v8] H) λv9 H10=>
 bO (Ar .add x31 (I 1)) λv11=>
 R9 [x2,x3,x4,x30,v11] H10)
 (bO (Ap true 2 H x2) λv12=>
 bS (AP 2 H x4 v12) λH13=>
 bO (Ap true 2 H13 x4) λv14=>
 K (.tup [v14,(B true)]) H13)
theorem Q5 {K:KT}:pV (λR x2 x3 x4 x30 x31 H=>LR R x2 x3 x4 x30 x31 H K) (λx2 x3 x4 x30 x31 H=>NA x2 x3 x4 x30 x31 H K):=dH (A3 _ _) (λ_ _ _ _ _ _ _=>by kernel_rfl)
def St (a0 a1:AV)(H:AH)(K:KT):Prop:=
 bH (AC H a0) λv0 H1=>
 bH (AC H1 a1) λv2 H3=>
 bH (AC H3 (.agg [(I 0),Ad])) λv4 H5=>
 bO (Ap true 2 H5 v0) λv6=>
 bP (PCall prog 90 [v6] H5) λv7=>
 bO (Em .not v7) λv8=>
 bG v8 false λw9=>
 gO w9 (Ap false 1 H5 v2) λv10=>
 bG v8 false λw11=>
 gO w11 (Ar .lss v10 (I 0)) λv12=>
 bO (A0 v8 (B true) v12) λv13=>
 bG v13 false λw14=>
 gO w14 (Ap false 1 H5 v2) λv15=>
 bG v13 false λw16=>
 gO w16 (Ar .gtr v15 (I 1099511627776)) λv17=>
 bO (A0 v13 (B true) v17) λv18=>
 bB v18 λt19=>bI t19 (
 bO (En [(I 0),Ad] []) λv20=>
 bS (AP 2 H5 v4 v20) λH21=>
 bO (Ap true 2 H21 v4) λv22=>
 K (.tup [v22,(B false)]) H21)
 (bO (Ap true 2 H5 v0) λv23=>
 bC (BCall prog 91 [v23] H5) λv24 H25=>
 bS (AP 2 H25 v0 v24) λH26=>
 bO (Ap false 1 H26 v2) λv27=>
 bO (Ab 0 v0) λv28=>
 bS (AP 1 H26 v28 v27) λH29=>
 bO (Ab 1 v0) λv30=>
 bO (Ap false 1 H29 v30) λv31=>
 bC (BCall prog 155 [v31,(.fn (.func 156) [] [v2])] H29) λv32 H33=>
 bO (Ab 1 v0) λv34=>
 bS (AP 1 H33 v34 v32) λH35=>
 bO (Ab 1 v0) λv36=>
 bO (Ap false 1 H35 v36) λv37=>
 bO (AL v37) λv38=>
 NA v0 v2 v4 v38 (I 0) H35 K)
theorem Wd {a0 a1:AV}{H:AH}{K:KT}(h:St a0 a1 H K):Ch 103 [a0,a1] H K:=
 fok A7 G4 NB func103 h
def Ss:Nat→Option (List Bool):=Cd [(9,mk 44 0 [3,6,8,32,33])]
def TF (p:List Bool)(n:Nat):List AV→AH→Kf→Prop:=AJ prog A7 G4 Aw Aw Ss (sub p (AG f105)) n
def Sr (x3 x6 x8 x32 x33:AV)(H:AH)(K:KT):Prop:=lp (mk 44 0 [3,6,8,32,33]) (TF [tT,tT,tT,tT,tT,fF,tT,fF,fF] 10) [x3,x6,x8,x32,x33] H (AS 0 (AN (TF [tT,tT,tT,tT,tT,tT] 14) (AR prog f105.results.toList K)))
def Pj (R9:RT)(x3 x6 x8 x32 x33:AV)(H:AH)(K:KT):Prop:=
 bO (Ar .lss x33 x32) λv0=>
 bB v0 λt1=>bI t1 (
 bO (Ab 1 x3) λv2=>
 bO (Ap false 1 H v2) λv3=>
 bO (Bo 9 v3 x33) λv4=>
 bO (Ap true 2 H x8) λv5=>
 bC (BCall prog 157 [v4,v5] H) λv6 H7=>
 bO (Ar .add x33 (I 1)) λv8=>
 R9 [x3,x6,x8,x32,v8] H7)
 (bO (Ap true 2 H x3) λv9=>
 bS (AP 2 H x6 v9) λH10=>
 bO (Ap true 2 H10 x6) λv11=>
 K (.tup [v11,(B true)]) H10)
theorem TE {K:KT}:pV (λR x3 x6 x8 x32 x33 H=>Pj R x3 x6 x8 x32 x33 H K) (λx3 x6 x8 x32 x33 H=>Sr x3 x6 x8 x32 x33 H K):=dH (A3 _ _) (λ_ _ _ _ _ _ _=>by kernel_rfl)
def WO (a0 a1 a2:AV)(H:AH)(K:KT):Prop:=
 bH (AC H a0) λv0 H1=>
 bH (AC H1 (.agg [(I 0),Ad])) λv2 H3=>
 bO (Ap true 2 H3 v0) λv4=>
 bP (PCall prog 90 [v4] H3) λv5=>
 bO (Em .not v5) λv6=>
 bG v6 false λw7=>
 gO w7 (some a1) λv8=>
 bG v6 false λw9=>
 gO w9 (some a2) λv10=>
 bG v6 false λw11=>
 gP w11 (PCall prog 158 [v8,v10] H3) λv12=>
 bG v6 false λw13=>
 gO w13 (Em .not v12) λv14=>
 bO (A0 v6 (B true) v14) λv15=>
 bB v15 λt16=>bI t16 (
 bO (En [(I 0),Ad] []) λv17=>
 bS (AP 2 H3 v2 v17) λH18=>
 bO (Ap true 2 H18 v2) λv19=>
 K (.tup [v19,(B false)]) H18)
 (bO (Ap true 2 H3 v0) λv20=>
 bC (BCall prog 91 [v20] H3) λv21 H22=>
 bS (AP 2 H22 v0 v21) λH23=>
 bO (En [(I 0),(I 0)] [(0,1,a1),(1,1,a2)]) λv24=>
 bH (AC H23 (.agg [(I 0),(I 0)])) λv25 H26=>
 bS (AP 2 H26 v25 v24) λH27=>
 bO (Ab 1 v0) λv28=>
 bO (Ap false 1 H27 v28) λv29=>
 bC (BCall prog 155 [v29,(.fn (.func 159) [] [v25])] H27) λv30 H31=>
 bO (Ab 1 v0) λv32=>
 bS (AP 1 H31 v32 v30) λH33=>
 bO (Ab 1 v0) λv34=>
 bO (Ap false 1 H33 v34) λv35=>
 bO (AL v35) λv36=>
 Sr v0 v2 v25 v36 (I 0) H33 K)
theorem Z7 {a0 a1 a2:AV}{H:AH}{K:KT}(h:WO a0 a1 a2 H K):Ch 105 [a0,a1,a2] H K:=
 fok A7 G4 Ss func105 h
def F7:Nat→Option (List Bool):=Cd [(19,mk 62 0 [1,2,4,6,7,8,9]),(16,mk 62 0 [1,2,4,6,7,8,9]),(10,mk 62 0 [1,2,4,6,7]),(7,mk 62 0 [1,2,4,6,7])]
def AI (p:List Bool)(n:Nat):List AV→AH→Kf→Prop:=AJ prog A7 G4 Aw Aw F7 (sub p (AG f124)) n
def C3 (R7:RT)(x1 x2 x4 x6 x7:AV)(H:AH)(K:KT):Prop:=jn (mk 62 0 [1,2,4,6,7]) (AI [tT,tT,tT,fF,tT,fF,fF,tT,tT] 21) [x1,x2,x4,x6,x7] H (PP (mk 62 0 [1,2,4,6,7]) R7 (AS 0 (AN (AI [tT,tT,tT,tT] 21) (AR prog f124.results.toList K))))
def C4 (R16:RT)(R7:RT)(x1 x2 x4 x6 x7 x8 x9:AV)(H:AH)(K:KT):Prop:=jn (mk 62 0 [1,2,4,6,7,8,9]) (AI [tT,tT,tT,fF,tT,fF,fF,tT,fF,fF,tT,tT,fF,tT,fF,fF,tT,tT] 21) [x1,x2,x4,x6,x7,x8,x9] H (PP (mk 62 0 [1,2,4,6,7,8,9]) R16 (AS 2 (AN (AI [tT,tT,tT,fF,tT,fF,fF,tT,fF,fF,tT,tT,tT] 21) (AS 1 (AN (DJ (mk 62 0 [1,2,4,6,7]) (AI [tT,tT,tT,fF,tT,fF,fF,tT,tT] 21)) (PP (mk 62 0 [1,2,4,6,7]) R7 (AS 0 (AN (AI [tT,tT,tT,tT] 21) (AR prog f124.results.toList K)))))))))
def Fj (R7:RT)(x1 x2 x4 x6 x7 x8 x9:AV)(H:AH)(K:KT):Prop:=lp (mk 62 0 [1,2,4,6,7,8,9]) (AI [tT,tT,tT,fF,tT,fF,fF,tT,fF,fF,tT,tT,fF,tT,fF,fF] 17) [x1,x2,x4,x6,x7,x8,x9] H (AS 2 (AN (AI [tT,tT,tT,fF,tT,fF,fF,tT,fF,fF,tT,tT,tT] 21) (AS 1 (AN (DJ (mk 62 0 [1,2,4,6,7]) (AI [tT,tT,tT,fF,tT,fF,fF,tT,tT] 21)) (PP (mk 62 0 [1,2,4,6,7]) R7 (AS 0 (AN (AI [tT,tT,tT,tT] 21) (AR prog f124.results.toList K))))))))
def F6 (x1 x2 x4 x6 x7:AV)(H:AH)(K:KT):Prop:=lp (mk 62 0 [1,2,4,6,7]) (AI [tT,tT,tT,fF,tT,fF,fF] 8) [x1,x2,x4,x6,x7] H (AS 0 (AN (AI [tT,tT,tT,tT] 21) (AR prog f124.results.toList K)))
def ED (R7:RT)(x1 x2 x4 x6 x7:AV)(H:AH)(K:KT):Prop:=
 bO (Ar .add x7 (I 1)) λv0=>
 R7 [x1,x2,x4,x6,v0] H
theorem Jo (R7:RT)(x1 x2 x4 x6 x7:AV)(H:AH)(K:KT):C3 R7 x1 x2 x4 x6 x7 H K=ED R7 x1 x2 x4 x6 x7 H K:=(B5 _ _ _ _ _).trans (by kernel_rfl)
def EE (R16:RT)(R7:RT)(x1 x2 x4 x6 x7 x8 x9:AV)(H:AH)(K:KT):Prop:=
 bO (Ar .add x9 (I 1)) λv0=>
 R16 [x1,x2,x4,x6,x7,x8,v0] H
theorem Jp (R16:RT)(R7:RT)(x1 x2 x4 x6 x7 x8 x9:AV)(H:AH)(K:KT):C4 R16 R7 x1 x2 x4 x6 x7 x8 x9 H K=EE R16 R7 x1 x2 x4 x6 x7 x8 x9 H K:=(B5 _ _ _ _ _).trans (by kernel_rfl)
def EF (R7:RT)(R16:RT)(x1 x2 x4 x6 x7 x8 x9:AV)(H:AH)(K:KT):Prop:=
 bO (Ar .lss x9 (I 8)) λv0=>
 bB v0 λt1=>bI t1 (
 bO (Ab 0 x8) λv2=>
 bO (Ap false 1 H v2) λv3=>
 bO (Ar .mul v3 (I 8)) λv4=>
 bO (Ar .add v4 x9) λv5=>
 bO (Ar .geq v5 x1) λv6=>
 bB v6 λt7=>bI t7 (
 bO (Ab 1 x8) λv8=>
 bO (SJ 8 1 v8 x9) λv9=>
 bS (AP 1 H v9 u0Z) λH10=>
 C4 R16 R7 x1 x2 x4 x6 x7 x8 x9 H10 K)
 (C4 R16 R7 x1 x2 x4 x6 x7 x8 x9 H K))
 (bO (Ab 1 x6) λv11=>
 bO (Ap false 1 H v11) λv12=>
 bO (Ap true 9 H x8) λv13=>
 bH (D9 H 9 1 (B4 [(I 0),u0Z,u0Z,u0Z,u0Z,u0Z,u0Z,u0Z,u0Z] 1) [(0,9,v13)]) λv14 H15=>
 bH (HM 9 16 H15 v12 v14) λv16 H17=>
 bO (Ab 1 x6) λv18=>
 bS (AP 1 H17 v18 v16) λH19=>
 C3 R7 x1 x2 x4 x6 x7 H19 K)
theorem I0 (R7:RT){K:KT}:zdiqZ (λR x1 x2 x4 x6 x7 x8 x9 H=>EF R7 R x1 x2 x4 x6 x7 x8 x9 H K) (λx1 x2 x4 x6 x7 x8 x9 H=>Fj R7 x1 x2 x4 x6 x7 x8 x9 H K):=zdkeZ (A3 _ _) (λ_ _ _ _ _ _ _ _ _=>by kernel_rfl)
def ES (R7:RT)(x1 x2 x4 x6 x7:AV)(H:AH)(K:KT):Prop:=
 bO (Ab 1 x2) λv0=>
 bO (Ap false 1 H v0) λv1=>
 bO (AL v1) λv2=>
 bO (Ar .lss x7 v2) λv3=>
 bB v3 λt4=>bI t4 (
 bO (Ab 1 x2) λv5=>
 bO (Ap false 1 H v5) λv6=>
 bO (Bo 9 v6 x7) λv7=>
 bO (Ap true 9 H v7) λv8=>
 bH (AC H (.agg [(I 0),u0Z,u0Z,u0Z,u0Z,u0Z,u0Z,u0Z,u0Z])) λv9 H10=>
 bS (AP 9 H10 v9 v8) λH11=>
 bO (Ab 0 v9) λv12=>
 bO (Ap false 1 H11 v12) λv13=>
 bO (Ar .mul v13 (I 8)) λv14=>
 bO (Ar .geq v14 x1) λv15=>
 bB v15 λt16=>bI t16 (
 C3 R7 x1 x2 x4 x6 x7 H11 K)
 (Fj R7 x1 x2 x4 x6 x7 v9 (I 0) H11 K))
 (bO (Ap true 2 H x6) λv17=>
 bS (AP 2 H x4 v17) λH18=>
 bO (Ap true 2 H18 x4) λv19=>
 K (.tup [v19,(B true)]) H18)
theorem IS {K:KT}:pV (λR x1 x2 x4 x6 x7 H=>ES R x1 x2 x4 x6 x7 H K) (λx1 x2 x4 x6 x7 H=>F6 x1 x2 x4 x6 x7 H K):=dH (A3 _ _) (λ_ _ _ _ _ _ _=>by kernel_rfl)
def GR (a0 a1:AV)(H:AH)(K:KT):Prop:=
 bH (AC H a0) λv0 H1=>
 bH (AC H1 (.agg [(I 0),Ad])) λv2 H3=>
 bO (Ap true 2 H3 v0) λv4=>
 bP (PCall prog 122 [v4] H3) λv5=>
 bO (Em .not v5) λv6=>
 bG v6 false λw7=>
 gO w7 (some a1) λv8=>
 bG v6 false λw9=>
 gO w9 (Ar .lss v8 (I 0)) λv10=>
 bO (A0 v6 (B true) v10) λv11=>
 bG v11 false λw12=>
 gO w12 (some a1) λv13=>
 bG v11 false λw14=>
 gO w14 (Ar .gtr v13 (I 1099511627776)) λv15=>
 bO (A0 v11 (B true) v15) λv16=>
 bB v16 λt17=>bI t17 (
 bO (En [(I 0),Ad] []) λv18=>
 bS (AP 2 H3 v2 v18) λH19=>
 bO (Ap true 2 H19 v2) λv20=>
 K (.tup [v20,(B false)]) H19)
 (bO (En [(I 0),Ad] [(0,1,a1)]) λv21=>
 bH (AC H3 (.agg [(I 0),Ad])) λv22 H23=>
 bS (AP 2 H23 v22 v21) λH24=>
 F6 a1 v0 v2 v22 (I 0) H24 K)
theorem LA {a0 a1:AV}{H:AH}{K:KT}(h:GR a0 a1 H K):Ch 124 [a0,a1] H K:=
 fok A7 G4 F7 func124 h
def Fu:Nat→Option (List Bool):=Cd [(11,mk 57 0 [4,8]),(7,mk 57 0 [1,2,3,4,8,10])]
def DR (p:List Bool)(n:Nat):List AV→AH→Kf→Prop:=AJ prog A7 G4 Aw Aw Fu (sub p (AG f125)) n
def C2 (x4 x8:AV)(H:AH)(K:KT):Prop:=jn (mk 57 0 [4,8]) (DR [tT,tT,tT,tT,tT] 13) [x4,x8] H (AR prog f125.results.toList K)
def Ft (x1 x2 x3 x4 x8 x10:AV)(H:AH)(K:KT):Prop:=lp (mk 57 0 [1,2,3,4,8,10]) (DR [tT,tT,tT,fF,tT,fF,fF] 8) [x1,x2,x3,x4,x8,x10] H (AS 0 (AN (DR [tT,tT,tT,tT] 11) (AR prog f125.results.toList K)))
def EC (x4 x8:AV)(H:AH)(K:KT):Prop:=
 bO (Ap true 2 H x4) λv0=>
 bS (AP 2 H x8 v0) λH1=>
 bO (Ap true 2 H1 x8) λv2=>
 K (.tup [v2,(B true)]) H1
theorem Jn (x4 x8:AV)(H:AH)(K:KT):C2 x4 x8 H K=EC x4 x8 H K:=(B5 _ _ _ _ _).trans (by kernel_rfl)
def ER (R7:RT)(x1 x2 x3 x4 x8 x10:AV)(H:AH)(K:KT):Prop:=
 bO (Ar .mul x10 (I 8)) λv0=>
 bO (Ar .add x1 x2) λv1=>
 bO (Ar .lss v0 v1) λv2=>
 bB v2 λt3=>bI t3 (
 bC (BCall prog 170 [x4,x10] H) λv4 H5=>
 bO (Ar .add x10 (I 1)) λv6=>
 R7 [x1,x2,x3,x4,x8,v6] H5)
 (bO (Em .not x3) λv7=>
 bB v7 λt8=>bI t8 (
 bO (Ab 0 x4) λv9=>
 bO (Ap false 1 H v9) λv10=>
 bO (Ar .add x1 x2) λv11=>
 bO (amm XX [v10,v11]) λv12=>
 bO (Ab 0 x4) λv13=>
 bS (AP 1 H v13 v12) λH14=>
 C2 x4 x8 H14 K)
 (C2 x4 x8 H K))
theorem ID {K:KT}:vA (λR x1 x2 x3 x4 x8 x10 H=>ER R x1 x2 x3 x4 x8 x10 H K) (λx1 x2 x3 x4 x8 x10 H=>Ft x1 x2 x3 x4 x8 x10 H K):=fQ (A3 _ _) (λ_ _ _ _ _ _ _ _=>by kernel_rfl)
def GG (a0 a1 a2 a3:AV)(H:AH)(K:KT):Prop:=
 bH (AC H a0) λv0 H1=>
 bH (AC H1 (.agg [(I 0),Ad])) λv2 H3=>
 bO (Ap true 2 H3 v0) λv4=>
 bP (PCall prog 122 [v4] H3) λv5=>
 bO (Em .not v5) λv6=>
 bG v6 false λw7=>
 gO w7 (some a1) λv8=>
 bG v6 false λw9=>
 gO w9 (Ar .lss v8 (I 0)) λv10=>
 bO (A0 v6 (B true) v10) λv11=>
 bG v11 false λw12=>
 gO w12 (some a2) λv13=>
 bG v11 false λw14=>
 gO w14 (Ar .lss v13 (I 1)) λv15=>
 bO (A0 v11 (B true) v15) λv16=>
 bG v16 false λw17=>
 gO w17 (some a2) λv18=>
 bG v16 false λw19=>
 gO w19 (Ar .gtr v18 (I 32768)) λv20=>
 bO (A0 v16 (B true) v20) λv21=>
 bG v21 false λw22=>
 gO w22 (some a1) λv23=>
 bG v21 false λw24=>
 gO w24 (some a2) λv25=>
 bG v21 false λw26=>
 gO w26 (Ar .sub (I 1099511627776) v25) λv27=>
 bG v21 false λw28=>
 gO w28 (Ar .gtr v23 v27) λv29=>
 bO (A0 v21 (B true) v29) λv30=>
 bB v30 λt31=>bI t31 (
 bO (En [(I 0),Ad] []) λv32=>
 bS (AP 2 H3 v2 v32) λH33=>
 bO (Ap true 2 H33 v2) λv34=>
 K (.tup [v34,(B false)]) H33)
 (bO (Ap true 2 H3 v0) λv35=>
 bC (BCall prog 169 [v35] H3) λv36 H37=>
 bS (AP 2 H37 v0 v36) λH38=>
 bO (Ar .quo a1 (I 8)) λv39=>
 Ft a1 a2 a3 v0 v2 v39 H38 K)
theorem L6 {a0 a1 a2 a3:AV}{H:AH}{K:KT}(h:GG a0 a1 a2 a3 H K):Ch 125 [a0,a1,a2,a3] H K:=
 fok A7 G4 Fu func125 h
def GJ:Nat→Option (List Bool):=Cd [(10,mk 84 0 [1,2,3,6,8,9]),(18,mk 84 0 [1,2,3,6,8,9,10,11,12]),(15,mk 84 0 [1,2,3,6,8,9,10,11,12]),(7,mk 84 0 [1,2,3,6,8,9])]
def AT (p:List Bool)(n:Nat):List AV→AH→Kf→Prop:=AJ prog A7 G4 Aw Aw GJ (sub p (AG f126)) n
def CY (R15:RT)(R7:RT)(x1 x2 x3 x6 x8 x9 x10 x11 x12:AV)(H:AH)(K:KT):Prop:=jn (mk 84 0 [1,2,3,6,8,9,10,11,12]) (AT [tT,tT,tT,fF,tT,fF,fF,tT,fF,fF,tT,tT,fF,tT,fF,fF,tT,tT] 22) [x1,x2,x3,x6,x8,x9,x10,x11,x12] H (PP (mk 84 0 [1,2,3,6,8,9,10,11,12]) R15 (AS 2 (AN (AT [tT,tT,tT,fF,tT,fF,fF,tT,fF,fF,tT,tT,tT] 22) (AS 1 (AN (DJ (mk 84 0 [1,2,3,6,8,9]) (AT [tT,tT,tT,fF,tT,fF,fF,tT,tT] 23)) (PP (mk 84 0 [1,2,3,6,8,9]) R7 (AS 0 (AN (AT [tT,tT,tT,tT] 23) (AR prog f126.results.toList K)))))))))
def CX (R7:RT)(x1 x2 x3 x6 x8 x9:AV)(H:AH)(K:KT):Prop:=jn (mk 84 0 [1,2,3,6,8,9]) (AT [tT,tT,tT,fF,tT,fF,fF,tT,tT] 23) [x1,x2,x3,x6,x8,x9] H (PP (mk 84 0 [1,2,3,6,8,9]) R7 (AS 0 (AN (AT [tT,tT,tT,tT] 23) (AR prog f126.results.toList K))))
def Gj (R7:RT)(x1 x2 x3 x6 x8 x9 x10 x11 x12:AV)(H:AH)(K:KT):Prop:=lp (mk 84 0 [1,2,3,6,8,9,10,11,12]) (AT [tT,tT,tT,fF,tT,fF,fF,tT,fF,fF,tT,tT,fF,tT,fF,fF] 16) [x1,x2,x3,x6,x8,x9,x10,x11,x12] H (AS 2 (AN (AT [tT,tT,tT,fF,tT,fF,fF,tT,fF,fF,tT,tT,tT] 22) (AS 1 (AN (DJ (mk 84 0 [1,2,3,6,8,9]) (AT [tT,tT,tT,fF,tT,fF,fF,tT,tT] 23)) (PP (mk 84 0 [1,2,3,6,8,9]) R7 (AS 0 (AN (AT [tT,tT,tT,tT] 23) (AR prog f126.results.toList K))))))))
def GI (x1 x2 x3 x6 x8 x9:AV)(H:AH)(K:KT):Prop:=lp (mk 84 0 [1,2,3,6,8,9]) (AT [tT,tT,tT,fF,tT,fF,fF] 8) [x1,x2,x3,x6,x8,x9] H (AS 0 (AN (AT [tT,tT,tT,tT] 23) (AR prog f126.results.toList K)))
def Fw (R15:RT)(R7:RT)(x1 x2 x3 x6 x8 x9 x10 x11 x12:AV)(H:AH)(K:KT):Prop:=
 bO (Ar .add x12 (I 1)) λv0=>
 R15 [x1,x2,x3,x6,x8,x9,x10,x11,v0] H
theorem KJ (R15:RT)(R7:RT)(x1 x2 x3 x6 x8 x9 x10 x11 x12:AV)(H:AH)(K:KT):CY R15 R7 x1 x2 x3 x6 x8 x9 x10 x11 x12 H K=Fw R15 R7 x1 x2 x3 x6 x8 x9 x10 x11 x12 H K:=(B5 _ _ _ _ _).trans (by kernel_rfl)
def Fv (R7:RT)(x1 x2 x3 x6 x8 x9:AV)(H:AH)(K:KT):Prop:=
 bO (Ar .add x9 (I 1)) λv0=>
 R7 [x1,x2,x3,x6,x8,v0] H
theorem KI (R7:RT)(x1 x2 x3 x6 x8 x9:AV)(H:AH)(K:KT):CX R7 x1 x2 x3 x6 x8 x9 H K=Fv R7 x1 x2 x3 x6 x8 x9 H K:=(B5 _ _ _ _ _).trans (by kernel_rfl)
def Fx (R7:RT)(R15:RT)(x1 x2 x3 x6 x8 x9 x10 x11 x12:AV)(H:AH)(K:KT):Prop:=
 bO (Ar .lss x12 (I 8)) λv0=>
 bB v0 λt1=>bI t1 (
 bO (Ab 0 x10) λv2=>
 bO (Ap false 1 H v2) λv3=>
 bO (Ar .mul v3 (I 8)) λv4=>
 bO (Ar .add v4 x12) λv5=>
 bO (Ar .geq v5 x1) λv6=>
 bG v6 true λw7=>
 gO w7 (some v5) λv8=>
 bG v6 true λw9=>
 gO w9 (some x1) λv10=>
 bG v6 true λw11=>
 gO w11 (some x2) λv12=>
 bG v6 true λw13=>
 gO w13 (Ar .add v10 v12) λv14=>
 bG v6 true λw15=>
 gO w15 (Ar .lss v8 v14) λv16=>
 bO (A0 v6 v16 (B false)) λv17=>
 bB v17 λt18=>bI t18 (
 bO (Ab 1 x10) λv19=>
 bO (SJ 8 1 v19 x12) λv20=>
 bS (AP 1 H v20 u0Z) λH21=>
 bO (Ar .add x11 (I 1)) λv22=>
 CY R15 R7 x1 x2 x3 x6 x8 x9 x10 v22 x12 H21 K)
 (CY R15 R7 x1 x2 x3 x6 x8 x9 x10 x11 x12 H K))
 (bO (Ar .lss x11 (I 8)) λv23=>
 bB v23 λt24=>bI t24 (
 bO (Ab 1 x8) λv25=>
 bO (Ap false 1 H v25) λv26=>
 bO (Ap true 9 H x10) λv27=>
 bH (D9 H 9 1 (B4 [(I 0),u0Z,u0Z,u0Z,u0Z,u0Z,u0Z,u0Z,u0Z] 1) [(0,9,v27)]) λv28 H29=>
 bH (HM 9 16 H29 v26 v28) λv30 H31=>
 bO (Ab 1 x8) λv32=>
 bS (AP 1 H31 v32 v30) λH33=>
 CX R7 x1 x2 x3 x6 x8 x9 H33 K)
 (CX R7 x1 x2 x3 x6 x8 x9 H K))
theorem JM (R7:RT){K:KT}:RL9 (λR x1 x2 x3 x6 x8 x9 x10 x11 x12 H=>Fx R7 R x1 x2 x3 x6 x8 x9 x10 x11 x12 H K) (λx1 x2 x3 x6 x8 x9 x10 x11 x12 H=>Gj R7 x1 x2 x3 x6 x8 x9 x10 x11 x12 H K):=zdpyZ (A3 _ _) (λ_ _ _ _ _ _ _ _ _ _ _=>by kernel_rfl)
def FL (R7:RT)(x1 x2 x3 x6 x8 x9:AV)(H:AH)(K:KT):Prop:=
 bO (Ab 1 x3) λv0=>
 bO (Ap false 1 H v0) λv1=>
 bO (AL v1) λv2=>
 bO (Ar .lss x9 v2) λv3=>
 bB v3 λt4=>bI t4 (
 bO (Ab 1 x3) λv5=>
 bO (Ap false 1 H v5) λv6=>
 bO (Bo 9 v6 x9) λv7=>
 bO (Ap true 9 H v7) λv8=>
 bH (AC H (.agg [(I 0),u0Z,u0Z,u0Z,u0Z,u0Z,u0Z,u0Z,u0Z])) λv9 H10=>
 bS (AP 9 H10 v9 v8) λH11=>
 Gj R7 x1 x2 x3 x6 x8 x9 v9 (I 0) (I 0) H11 K)
 (bO (Ap true 2 H x8) λv12=>
 bS (AP 2 H x6 v12) λH13=>
 bO (Ap true 2 H13 x6) λv14=>
 K (.tup [v14,(B true)]) H13)
theorem Ko {K:KT}:vA (λR x1 x2 x3 x6 x8 x9 H=>FL R x1 x2 x3 x6 x8 x9 H K) (λx1 x2 x3 x6 x8 x9 H=>GI x1 x2 x3 x6 x8 x9 H K):=fQ (A3 _ _) (λ_ _ _ _ _ _ _ _=>by kernel_rfl)
def II (a0 a1 a2:AV)(H:AH)(K:KT):Prop:=
 bH (AC H a0) λv0 H1=>
 bH (AC H1 (.agg [(I 0),Ad])) λv2 H3=>
 bO (Ap true 2 H3 v0) λv4=>
 bP (PCall prog 122 [v4] H3) λv5=>
 bO (Em .not v5) λv6=>
 bG v6 false λw7=>
 gO w7 (some a1) λv8=>
 bG v6 false λw9=>
 gO w9 (Ar .lss v8 (I 0)) λv10=>
 bO (A0 v6 (B true) v10) λv11=>
 bG v11 false λw12=>
 gO w12 (some a2) λv13=>
 bG v11 false λw14=>
 gO w14 (Ar .lss v13 (I 1)) λv15=>
 bO (A0 v11 (B true) v15) λv16=>
 bG v16 false λw17=>
 gO w17 (some a2) λv18=>
 bG v16 false λw19=>
 gO w19 (Ar .gtr v18 (I 1099511627776)) λv20=>
 bO (A0 v16 (B true) v20) λv21=>
 bG v21 false λw22=>
 gO w22 (some a1) λv23=>
 bG v21 false λw24=>
 gO w24 (some a2) λv25=>
 bG v21 false λw26=>
 gO w26 (Ar .sub (I 1099511627776) v25) λv27=>
 bG v21 false λw28=>
 gO w28 (Ar .gtr v23 v27) λv29=>
 bO (A0 v21 (B true) v29) λv30=>
 bB v30 λt31=>bI t31 (
 bO (En [(I 0),Ad] []) λv32=>
 bS (AP 2 H3 v2 v32) λH33=>
 bO (Ap true 2 H33 v2) λv34=>
 K (.tup [v34,(B false)]) H33)
 (bO (Ab 0 v0) λv35=>
 bO (Ap false 1 H3 v35) λv36=>
 bO (En [(I 0),Ad] [(0,1,v36)]) λv37=>
 bH (AC H3 (.agg [(I 0),Ad])) λv38 H39=>
 bS (AP 2 H39 v38 v37) λH40=>
 GI a1 a2 v0 v2 v38 (I 0) H40 K)
theorem Nq {a0 a1 a2:AV}{H:AH}{K:KT}(h:II a0 a1 a2 H K):Ch 126 [a0,a1,a2] H K:=
 fok A7 G4 GJ func126 h
def Za (a0 a1:AV)(H:AH)(K:KT):Prop:=
 bO (Ar .geq a0 (I 0)) λv0=>
 bG v0 true λw1=>
 gO w1 (some a1) λv2=>
 bG v0 true λw3=>
 gO w3 (Ar .leq v2 (I 4096)) λv4=>
 bO (A0 v0 v4 (B false)) λv5=>
 bG v5 true λw6=>
 gO w6 (some a0) λv7=>
 bG v5 true λw8=>
 gO w8 (some a1) λv9=>
 bG v5 true λw10=>
 gO w10 (Ar .sub (I 1099511627776) v9) λv11=>
 bG v5 true λw12=>
 gO w12 (Ar .leq v7 v11) λv13=>
 bO (A0 v5 v13 (B false)) λv14=>
 K v14 H
theorem bX {a0 a1:AV}{H:AH}{K:KT}(h:Za a0 a1 H K):Ch 86 [a0,a1] H K:=
 fok A7 G4 BA func86 h
def Ym:CJ:=LT [(1,[(1,some 4)])]
def V4 (a0:AV)(H:AH)(K:KT):Prop:=
 bH (AC H a0) λv0 H1=>
 bH (AC H1 (.agg [(I 0),Ad])) λv2 H3=>
 bO (Ab 0 v0) λv4=>
 bO (Ap false 1 H3 v4) λv5=>
 bO (Ab 1 v0) λv6=>
 bO (Ap false 1 H3 v6) λv7=>
 bC (BCall prog 137 [v7] H3) λv8 H9=>
 bO (En [(I 0),Ad] [(0,1,v5),(1,1,v8)]) λv10=>
 bS (AP 2 H9 v2 v10) λH11=>
(Ap false 1 H9 v4=some v5)∧
 bO (Ap true 2 H11 v2) λv12=>
 K v12 H11
theorem Yn {a0:AV}{H:AH}{K:KT}(h:V4 a0 H K):Ch 91 [a0] H K:=
 fok Ym G4 BA func91 h
def Xy:Nat→Option (List Bool):=Cd [(6,mk 48 0 [1,2,5])]
def Zv (p:List Bool)(n:Nat):List AV→AH→Kf→Prop:=AJ prog A7 G4 Aw Aw Xy (sub p (AG f87)) n
def Xw (x1 x2 x5:AV)(H:AH)(K:KT):Prop:=lp (mk 48 0 [1,2,5]) (Zv [tT,tT,tT,fF,fF,fF] 7) [x1,x2,x5] H (AS 0 (AN (Zv [tT,tT,tT,tT] 11) (AR prog f87.results.toList K)))
def Ui (R6:RT)(x1 x2 x5:AV)(H:AH)(K:KT):Prop:=
 bO (Ab 1 x2) λv0=>
 bO (Ap false 1 H v0) λv1=>
 bO (Ar .gtr v1 (I 0)) λv2=>
 bB v2 λt3=>bI t3 (
 bO (Ab 1 x2) λv4=>
 bO (Ap false 1 H v4) λv5=>
 bO (Ab 0 x2) λv6=>
 bO (Ap false 1 H v6) λv7=>
 bO (Ar .rem v7 x1) λv8=>
 bO (Ar .sub x1 v8) λv9=>
 bO (amm Zn [v5,v9]) λv10=>
 bO (Ab 0 x2) λv11=>
 bO (Ap false 1 H v11) λv12=>
 bO (En [(I 0),(I 0)] [(0,1,v12),(1,1,v10)]) λv13=>
 bH (D9 H 2 1 (B4 [(I 0),(I 0)] 1) [(0,2,v13)]) λv14 H15=>
 bH (HM 2 16 H15 x5 v14) λv16 H17=>
 bO (Ab 0 x2) λv18=>
 bO (Ap false 1 H17 v18) λv19=>
 bO (Ar .add v19 v10) λv20=>
 bO (Ab 1 x2) λv21=>
 bO (Ap false 1 H17 v21) λv22=>
 bO (Ar .sub v22 v10) λv23=>
 bO (En [(I 0),(I 0)] [(0,1,v20),(1,1,v23)]) λv24=>
 bS (AP 2 H17 x2 v24) λH25=>
 R6 [x1,x2,v16] H25)
 (K x5 H)
theorem Xx {K:KT}:pU (λR x1 x2 x5 H=>Ui R x1 x2 x5 H K) (λx1 x2 x5 H=>Xw x1 x2 x5 H K):=Xs (A3 _ _) (λ_ _ _ _ _=>by kernel_rfl)
def iF (a0 a1:AV)(H:AH)(K:KT):Prop:=
 bH (AC H a0) λv0 H1=>
 bO (Ap true 2 H1 v0) λv2=>
 bP (PCall prog 138 [v2] H1) λv3=>
 bO (Em .not v3) λv4=>
 bG v4 false λw5=>
 gO w5 (Ab 1 v0) λv6=>
 bG v4 false λw7=>
 gO w7 (Ap false 1 H1 v6) λv8=>
 bG v4 false λw9=>
 gO w9 (Ar .gtr v8 (I 4096)) λv10=>
 bO (A0 v4 (B true) v10) λv11=>
 bG v11 false λw12=>
 gO w12 (some a1) λv13=>
 bG v11 false λw14=>
 gO w14 (Ar .lss v13 (I 1)) λv15=>
 bO (A0 v11 (B true) v15) λv16=>
 bB v16 λt17=>bI t17 (
 K Ad H1)
 (Xw a1 v0 Ad H1 K)
theorem kV {a0 a1:AV}{H:AH}{K:KT}(h:iF a0 a1 H K):Ch 87 [a0,a1] H K:=
 fok A7 G4 Xy func87 h
def TO:Nat→Option (List Bool):=Cd [(2,mk 31 0 [5])]
def fH (p:List Bool)(n:Nat):List AV→AH→Kf→Prop:=AJ prog A7 G4 Aw Aw TO (sub p (AG f92)) n
def ND (x5:AV)(H:AH)(K:KT):Prop:=jn (mk 31 0 [5]) (fH [tT,tT,tT] 4) [x5] H (AR prog f92.results.toList K)
def Lx (x5:AV)(H:AH)(K:KT):Prop:=
 K x5 H
theorem Pp (x5:AV)(H:AH)(K:KT):ND x5 H K=Lx x5 H K:=(B5 _ _ _ _ _).trans (by kernel_rfl)
def Zd (a0 a1:AV)(H:AH)(K:KT):Prop:=
 bO (Af a0) λv0=>
 bO (Ab 1 v0) λv1=>
 bO (Ap false 1 H v1) λv2=>
 bP (PCall prog 142 [v2,a1] H) λv3=>
 bO (Ag v3 0) λv4=>
 bO (Ag v3 1) λv5=>
 bO (Em .not v5) λv6=>
 bB v6 λt7=>bI t7 (
 bO (Af a0) λv8=>
 bO (Ab 1 v8) λv9=>
 bO (Ap false 1 H v9) λv10=>
 bO (En [(I 0),u0Z,u0Z,u0Z,u0Z,u0Z,u0Z,u0Z,u0Z] [(0,1,a1)]) λv11=>
 bH (D9 H 9 1 (B4 [(I 0),u0Z,u0Z,u0Z,u0Z,u0Z,u0Z,u0Z,u0Z] 1) [(0,9,v11)]) λv12 H13=>
 bC (BCall prog 143 [v10,v4,v12] H13) λv14 H15=>
 bO (Af a0) λv16=>
 bO (Ab 1 v16) λv17=>
 bS (AP 1 H15 v17 v14) λH18=>
 ND v4 H18 K)
 (ND v4 H K)
theorem cD {a0 a1:AV}{H:AH}{K:KT}(h:Zd a0 a1 H K):Ch 92 [a0,a1] H K:=
 fok A7 G4 TO func92 h
def WS (a0 a1:AV)(H:AH)(K:KT):Prop:=
 bP (PCall prog 174 [a0,a1,(.fn (.func 175) [] [])] H) λv0=>
 bO (Ag v0 0) λv1=>
 bO (Ag v0 1) λv2=>
 K (.tup [v1,v2]) H
theorem ZA {a0 a1:AV}{H:AH}{K:KT}(h:WS a0 a1 H K):Ch 142 [a0,a1] H K:=
 fok A7 G4 BA func142 h
def oK (a0 a1:AV)(H:AH)(K:KT):Prop:=
 bH (AC H a0) λv0 H1=>
 bH (AC H1 a1) λv2 H3=>
 bH (AC H3 (.agg [(I 0),(I 0)])) λv4 H5=>
 bO (Ap true 2 H5 v0) λv6=>
 bP (PCall prog 138 [v6] H5) λv7=>
 bO (Em .not v7) λv8=>
 bG v8 false λw9=>
 gO w9 (Ap true 2 H5 v2) λv10=>
 bG v8 false λw11=>
 gP w11 (PCall prog 138 [v10] H5) λv12=>
 bG v8 false λw13=>
 gO w13 (Em .not v12) λv14=>
 bO (A0 v8 (B true) v14) λv15=>
 bB v15 λt16=>bI t16 (
 bO (En [(I 0),(I 0)] []) λv17=>
 bS (AP 2 H5 v4 v17) λH18=>
 bO (Ap true 2 H18 v4) λv19=>
 K v19 H18)
 (bO (Ab 0 v0) λv20=>
 bO (Ap false 1 H5 v20) λv21=>
 bO (Ab 0 v2) λv22=>
 bO (Ap false 1 H5 v22) λv23=>
 bO (amm XX [v21,v23]) λv24=>
 bO (Ab 0 v0) λv25=>
 bO (Ap false 1 H5 v25) λv26=>
 bO (Ab 1 v0) λv27=>
 bO (Ap false 1 H5 v27) λv28=>
 bO (Ar .add v26 v28) λv29=>
 bO (Ab 0 v2) λv30=>
 bO (Ap false 1 H5 v30) λv31=>
 bO (Ab 1 v2) λv32=>
 bO (Ap false 1 H5 v32) λv33=>
 bO (Ar .add v31 v33) λv34=>
 bO (amm Zn [v29,v34]) λv35=>
 bO (Ar .geq v24 v35) λv36=>
 bB v36 λt37=>bI t37 (
 bO (En [(I 0),(I 0)] []) λv38=>
 bS (AP 2 H5 v4 v38) λH39=>
 bO (Ap true 2 H39 v4) λv40=>
 K v40 H39)
 (bO (Ar .sub v35 v24) λv41=>
 bO (En [(I 0),(I 0)] [(0,1,v24),(1,1,v41)]) λv42=>
 bS (AP 2 H5 v4 v42) λH43=>
 bO (Ap true 2 H43 v4) λv44=>
 K v44 H43))
theorem oM {a0 a1:AV}{H:AH}{K:KT}(h:oK a0 a1 H K):Ch 152 [a0,a1] H K:=
 fok A7 G4 BA func152 h
def WU (a0:AV)(H:AH)(K:KT):Prop:=
 bH (AC H (.agg [(I 0),(I 0)])) λv0 H1=>
 bO (Ar .mul a0 (I 8)) λv2=>
 bO (En [(I 0),(I 0)] [(0,1,v2),(1,1,(I 8))]) λv3=>
 bS (AP 2 H1 v0 v3) λH4=>
 bO (Ap true 2 H4 v0) λv5=>
 K v5 H4
theorem ZB {a0:AV}{H:AH}{K:KT}(h:WU a0 H K):Ch 153 [a0] H K:=
 fok A7 G4 BA func153 h
def Sw:Nat→Option (List Bool):=Cd [(3,mk 25 0 [1,2,8,9])]
def TM (p:List Bool)(n:Nat):List AV→AH→Kf→Prop:=AJ prog A7 G4 Aw Aw Sw (sub p (AG f141)) n
def Sv (x1 x2 x8 x9:AV)(H:AH)(K:KT):Prop:=lp (mk 25 0 [1,2,8,9]) (TM [tT,fF,tT,fF,fF] 4) [x1,x2,x8,x9] H (AS 0 (AN (TM [tT,tT] 10) (AR prog f141.results.toList K)))
def Po (R3:RT)(x1 x2 x8 x9:AV)(H:AH)(K:KT):Prop:=
 bO (Ar .lss x9 (I 8)) λv0=>
 bB v0 λt1=>bI t1 (
 bO (yM false 1 8 1 x8 x9) λv2=>
 bO (Ar .neq v2 u0Z) λv3=>
 bG v3 true λw4=>
 gO w4 (Ab 0 x2) λv5=>
 bG v3 true λw6=>
 gO w6 (Ap false 1 H v5) λv7=>
 bG v3 true λw8=>
 gO w8 (Ar .mul v7 (I 8)) λv9=>
 bG v3 true λw10=>
 gO w10 (some x9) λv11=>
 bG v3 true λw12=>
 gO w12 (Ar .add v9 v11) λv13=>
 bG v3 true λw14=>
 gO w14 (some x1) λv15=>
 bG v3 true λw16=>
 gO w16 (Ar .geq v13 v15) λv17=>
 bO (A0 v3 v17 (B false)) λv18=>
 bB v18 λt19=>bI t19 (
 K (B false) H)
 (bO (Ar .add x9 (I 1)) λv20=>
 R3 [x1,x2,x8,v20] H))
 (K (B true) H)
theorem TL {K:KT}:eI (λR x1 x2 x8 x9 H=>Po R x1 x2 x8 x9 H K) (λx1 x2 x8 x9 H=>Sv x1 x2 x8 x9 H K):=RQ (A3 _ _) (λ_ _ _ _ _ _=>by kernel_rfl)
def WR (a0 a1:AV)(H:AH)(K:KT):Prop:=
 bH (AC H a0) λv0 H1=>
 bO (Ab 1 v0) λv2=>
 bO (Ap true 8 H1 v2) λv3=>
 Sv a1 v0 v3 (I 0) H1 K
theorem Z9 {a0 a1:AV}{H:AH}{K:KT}(h:WR a0 a1 H K):Ch 141 [a0,a1] H K:=
 fok A7 G4 Sw func141 h
def Tg:CJ:=LT [(1,[(1,some 4)])]
def O9 (a0:AV)(H:AH)(K:KT):Prop:=
 bH (AC H a0) λv0 H1=>
 bH (AC H1 (.agg [(I 0),Ad])) λv2 H3=>
 bO (Ab 0 v0) λv4=>
 bO (Ap false 1 H3 v4) λv5=>
 bO (Ab 1 v0) λv6=>
 bO (Ap false 1 H3 v6) λv7=>
 bH (HM 9 16 H3 Ad v7) λv8 H9=>
 bO (En [(I 0),Ad] [(0,1,v5),(1,1,v8)]) λv10=>
 bS (AP 2 H9 v2 v10) λH11=>
(Ap false 1 H9 v4=some v5)∧
 bO (Ap true 2 H11 v2) λv12=>
 K v12 H11
theorem Th {a0:AV}{H:AH}{K:KT}(h:O9 a0 H K):Ch 169 [a0] H K:=
 fok Tg G4 BA func169 h
def MT:Nat→Option (List Bool):=Cd [(3,mk 72 0 [0,1,5])]
def OB (p:List Bool)(n:Nat):List AV→AH→Kf→Prop:=AJ prog A7 G4 Aw Aw MT (sub p (AG f170)) n
def MS (x0 x1 x5:AV)(H:AH)(K:KT):Prop:=lp (mk 72 0 [0,1,5]) (OB [tT,tT,fF,fF,fF] 4) [x0,x1,x5] H (AS 0 (AN (OB [tT,tT,tT] 6) (AR prog f170.results.toList K)))
def Lo (R3:RT)(x0 x1 x5:AV)(H:AH)(K:KT):Prop:=
 bO (Af x0) λv0=>
 bO (Ab 1 v0) λv1=>
 bO (Ap false 1 H v1) λv2=>
 bO (AL v2) λv3=>
 bO (Ar .lss x5 v3) λv4=>
 bG v4 true λw5=>
 gO w5 (some x0) λv6=>
 bG v4 true λw7=>
 gO w7 (Af v6) λv8=>
 bG v4 true λw9=>
 gO w9 (Ab 1 v8) λv10=>
 bG v4 true λw11=>
 gO w11 (Ap false 1 H v10) λv12=>
 bG v4 true λw13=>
 gO w13 (some x5) λv14=>
 bG v4 true λw15=>
 gO w15 (Bo 9 v12 v14) λv16=>
 bG v4 true λw17=>
 gO w17 (Ab 0 v16) λv18=>
 bG v4 true λw19=>
 gO w19 (Ap false 1 H v18) λv20=>
 bG v4 true λw21=>
 gO w21 (some x1) λv22=>
 bG v4 true λw23=>
 gO w23 (Ar .lss v20 v22) λv24=>
 bO (A0 v4 v24 (B false)) λv25=>
 bB v25 λt26=>bI t26 (
 bO (Ar .add x5 (I 1)) λv27=>
 R3 [x0,x1,v27] H)
 (bO (Af x0) λv28=>
 bO (Ab 1 v28) λv29=>
 bO (Ap false 1 H v29) λv30=>
 bO (AL v30) λv31=>
 bO (Ar .lss x5 v31) λv32=>
 bG v32 true λw33=>
 gO w33 (some x0) λv34=>
 bG v32 true λw35=>
 gO w35 (Af v34) λv36=>
 bG v32 true λw37=>
 gO w37 (Ab 1 v36) λv38=>
 bG v32 true λw39=>
 gO w39 (Ap false 1 H v38) λv40=>
 bG v32 true λw41=>
 gO w41 (some x5) λv42=>
 bG v32 true λw43=>
 gO w43 (Bo 9 v40 v42) λv44=>
 bG v32 true λw45=>
 gO w45 (Ab 0 v44) λv46=>
 bG v32 true λw47=>
 gO w47 (Ap false 1 H v46) λv48=>
 bG v32 true λw49=>
 gO w49 (some x1) λv50=>
 bG v32 true λw51=>
 gO w51 (Ar .eql v48 v50) λv52=>
 bO (A0 v32 v52 (B false)) λv53=>
 bB v53 λt54=>bI t54 (
 K x5 H)
 (bO (Af x0) λv55=>
 bO (Ab 1 v55) λv56=>
 bO (Ap false 1 H v56) λv57=>
 bO (Bf 9 v57 none (some x5) none) λv58=>
 bH (HM 9 16 H Ad v58) λv59 H60=>
 bO (En [(I 0),u0Z,u0Z,u0Z,u0Z,u0Z,u0Z,u0Z,u0Z] [(0,1,x1)]) λv61=>
 bH (D9 H60 9 1 (B4 [(I 0),u0Z,u0Z,u0Z,u0Z,u0Z,u0Z,u0Z,u0Z] 1) [(0,9,v61)]) λv62 H63=>
 bH (HM 9 16 H63 v59 v62) λv64 H65=>
 bO (Af x0) λv66=>
 bO (Ab 1 v66) λv67=>
 bO (Ap false 1 H65 v67) λv68=>
 bO (Bf 9 v68 (some x5) none none) λv69=>
 bH (HM 9 16 H65 v64 v69) λv70 H71=>
 bO (Af x0) λv72=>
 bO (Ab 1 v72) λv73=>
 bS (AP 1 H71 v73 v70) λH74=>
 K x5 H74))
theorem Qg {K:KT}:pU (λR x0 x1 x5 H=>Lo R x0 x1 x5 H K) (λx0 x1 x5 H=>MS x0 x1 x5 H K):=Xs (A3 _ _) (λ_ _ _ _ _=>by kernel_rfl)
def QZ (a0 a1:AV)(H:AH)(K:KT):Prop:=
 MS a0 a1 (I 0) H K
theorem Vg {a0 a1:AV}{H:AH}{K:KT}(h:QZ a0 a1 H K):Ch 170 [a0,a1] H K:=
 fok A7 G4 MT func170 h
def MQ:Nat→Option (List Bool):=Cd [(3,mk 22 0 [1,2,5])]
def OA (p:List Bool)(n:Nat):List AV→AH→Kf→Prop:=AJ prog A7 G4 Aw Aw MQ (sub p (AG f121)) n
def MP (x1 x2 x5:AV)(H:AH)(K:KT):Prop:=lp (mk 22 0 [1,2,5]) (OA [tT,fF,tT,fF,fF] 4) [x1,x2,x5] H (AS 0 (AN (OA [tT,tT] 9) (AR prog f121.results.toList K)))
def Ln (R3:RT)(x1 x2 x5:AV)(H:AH)(K:KT):Prop:=
 bO (Ab 1 x2) λv0=>
 bO (Ap false 1 H v0) λv1=>
 bO (AL v1) λv2=>
 bO (Ar .lss x5 v2) λv3=>
 bB v3 λt4=>bI t4 (
 bO (Ab 1 x2) λv5=>
 bO (Ap false 1 H v5) λv6=>
 bO (Bo 9 v6 x5) λv7=>
 bO (Ab 0 v7) λv8=>
 bO (Ap false 1 H v8) λv9=>
 bO (Ar .eql v9 x1) λv10=>
 bB v10 λt11=>bI t11 (
 K x5 H)
 (bO (Ar .add x5 (I 1)) λv12=>
 R3 [x1,x2,v12] H))
 (K (I (-1)) H)
theorem Qf {K:KT}:pU (λR x1 x2 x5 H=>Ln R x1 x2 x5 H K) (λx1 x2 x5 H=>MP x1 x2 x5 H K):=Xs (A3 _ _) (λ_ _ _ _ _=>by kernel_rfl)
def QX (a0 a1:AV)(H:AH)(K:KT):Prop:=
 bH (AC H a0) λv0 H1=>
 MP a1 v0 (I 0) H1 K
theorem Vd {a0 a1:AV}{H:AH}{K:KT}(h:QX a0 a1 H K):Ch 121 [a0,a1] H K:=
 fok A7 G4 MQ func121 h
def Uu (a0 a1:AV)(H:AH)(K:KT):Prop:=
 bH (AC H a0) λv0 H1=>
 bO (Ap true 2 H1 v0) λv2=>
 bO (Ar .quo a1 (I 8)) λv3=>
 bP (PCall prog 121 [v2,v3] H1) λv4=>
 bO (Ar .lss v4 (I 0)) λv5=>
 bB v5 λt6=>bI t6 (
 K u0Z H1)
 (bO (Ab 1 v0) λv7=>
 bO (Ap false 1 H1 v7) λv8=>
 bO (Ar .rem a1 (I 8)) λv9=>
 bO (Bo 9 v8 v4) λv10=>
 bO (Ab 1 v10) λv11=>
 bO (SJ 8 1 v11 v9) λv12=>
 bO (Ap false 1 H1 v12) λv13=>
 K v13 H1)
theorem XI {a0 a1:AV}{H:AH}{K:KT}(h:Uu a0 a1 H K):Ch 123 [a0,a1] H K:=
 fok A7 G4 BA func123 h
def Ze (a0 a1:AV)(H:AH)(K:KT):Prop:=
 bO (Ar .geq a0 (I 0)) λv0=>
 bG v0 true λw1=>
 gO w1 (some a1) λv2=>
 bG v0 true λw3=>
 gO w3 (Ar .geq v2 (I 1)) λv4=>
 bO (A0 v0 v4 (B false)) λv5=>
 bG v5 true λw6=>
 gO w6 (some a1) λv7=>
 bG v5 true λw8=>
 gO w8 (Ar .leq v7 (I 1099511627776)) λv9=>
 bO (A0 v5 v9 (B false)) λv10=>
 bG v10 true λw11=>
 gO w11 (some a0) λv12=>
 bG v10 true λw13=>
 gO w13 (some a1) λv14=>
 bG v10 true λw15=>
 gO w15 (Ar .sub (I 1099511627776) v14) λv16=>
 bG v10 true λw17=>
 gO w17 (Ar .leq v12 v16) λv18=>
 bO (A0 v10 v18 (B false)) λv19=>
 K v19 H
theorem cE {a0 a1:AV}{H:AH}{K:KT}(h:Ze a0 a1 H K):Ch 158 [a0,a1] H K:=
 fok A7 G4 BA func158 h
def Eb:Nat→Option (List Bool):=Cd [(10,mk 42 0 [0,1,5,6]),(7,mk 42 0 [0,1,5,6])]
def BR (p:List Bool)(n:Nat):List AV→AH→Kf→Prop:=AJ prog A7 G4 Aw Aw Eb (sub p (AG f155)) n
def C7 (R7:RT)(x0 x1 x5 x6:AV)(H:AH)(K:KT):Prop:=jn (mk 42 0 [0,1,5,6]) (BR [tT,tT,tT,fF,tT,fF,fF,tT,tT] 14) [x0,x1,x5,x6] H (PP (mk 42 0 [0,1,5,6]) R7 (AS 0 (AN (BR [tT,tT,tT,tT] 14) (AR prog f155.results.toList K))))
def Ea (x0 x1 x5 x6:AV)(H:AH)(K:KT):Prop:=lp (mk 42 0 [0,1,5,6]) (BR [tT,tT,tT,fF,tT,fF,fF] 8) [x0,x1,x5,x6] H (AS 0 (AN (BR [tT,tT,tT,tT] 14) (AR prog f155.results.toList K)))
def Cs (R7:RT)(x0 x1 x5 x6:AV)(H:AH)(K:KT):Prop:=
 bO (Ar .add x6 (I 1)) λv0=>
 R7 [x0,x1,x5,v0] H
theorem D1 (R7:RT)(x0 x1 x5 x6:AV)(H:AH)(K:KT):C7 R7 x0 x1 x5 x6 H K=Cs R7 x0 x1 x5 x6 H K:=(B5 _ _ _ _ _).trans (by kernel_rfl)
def DI (R7:RT)(x0 x1 x5 x6:AV)(H:AH)(K:KT):Prop:=
 bO (AL x0) λv0=>
 bO (Ar .lss x6 v0) λv1=>
 bB v1 λt2=>bI t2 (
 bO (Bo 9 x0 x6) λv3=>
 bO (Ap true 9 H v3) λv4=>
 bH (AC H (.agg [(I 0),u0Z,u0Z,u0Z,u0Z,u0Z,u0Z,u0Z,u0Z])) λv5 H6=>
 bS (AP 9 H6 v5 v4) λH7=>
 bO (Ap true 9 H7 v5) λv8=>
 bF true x1 λk11 f11 c11=>
 bT (BW prog k11||!true)<|
 bC (BCall prog k11 (f11++[v8]++c11) H7) λv9 H10=>
 bO (Em .not v9) λv12=>
 bB v12 λt13=>bI t13 (
 bO (Ap true 9 H10 v5) λv14=>
 bO (Bo 9 x0 x5) λv15=>
 bS (AP 9 H10 v15 v14) λH16=>
 bO (Ar .add x5 (I 1)) λv17=>
 C7 R7 x0 x1 v17 x6 H16 K)
 (C7 R7 x0 x1 x5 x6 H10 K))
 (bO (Bf 9 x0 (some x5) none none) λv18=>
 bS (zdffZ [(I 0),u0Z,u0Z,u0Z,u0Z,u0Z,u0Z,u0Z,u0Z] H v18) λH19=>
 bO (Bf 9 x0 none (some x5) none) λv20=>
 K v20 H19)
theorem FV {K:KT}:eI (λR x0 x1 x5 x6 H=>DI R x0 x1 x5 x6 H K) (λx0 x1 x5 x6 H=>Ea x0 x1 x5 x6 H K):=RQ (A3 _ _) (λ_ _ _ _ _ _=>by kernel_rfl)
def E6 (a0 a1:AV)(H:AH)(K:KT):Prop:=
 bP (PCall prog 173 [a0,a1] H) λv0=>
 bO (Ar .eql v0 (I (-1))) λv1=>
 bB v1 λt2=>bI t2 (
 K a0 H)
 (bO (Ar .add v0 (I 1)) λv3=>
 Ea a0 a1 v0 v3 H K)
theorem HQ {a0 a1:AV}{H:AH}{K:KT}(h:E6 a0 a1 H K):Ch 155 [a0,a1] H K:=
 fok A7 G4 Eb func155 h
def Pl (a0 a1:AV)(H:AH)(K:KT):Prop:=
 bH (AC H a0) λv0 H1=>
 bO (Ab 0 v0) λv2=>
 bO (Ap false 1 H1 v2) λv3=>
 bO (Ar .mul v3 (I 8)) λv4=>
 bO (Ap false 1 H1 a1) λv5=>
 bO (Ar .geq v4 v5) λv6=>
 K v6 H1
theorem TJ {a0 a1:AV}{H:AH}{K:KT}(h:Pl a0 a1 H K):Ch 156 [a0,a1] H K:=
 fok A7 G4 BA func156 h
def TS:CJ:=LT [(1,[(3,some 7),(5,some 7)])]
def TT:Nat→Option (List Bool):=Cd [(3,mk 33 0 [0,4,14,15])]
def fI (p:List Bool)(n:Nat):List AV→AH→Kf→Prop:=AJ prog TS G4 Aw Aw TT (sub p (AG f157)) n
def TR (x0 x4 x14 x15:AV)(H:AH)(K:KT):Prop:=lp (mk 33 0 [0,4,14,15]) (fI [tT,tT,tT,fF,fF] 4) [x0,x4,x14,x15] H (AS 0 (AR prog f157.results.toList K))
def Q7 (R3:RT)(x0 x4 x14 x15:AV)(H:AH)(K:KT):Prop:=
 bO (Ar .lss x15 x14) λv0=>
 bB v0 λt1=>bI t1 (
 bO (Ab 0 x4) λv2=>
 bO (Ap false 1 H v2) λv3=>
 bO (Af x0) λv4=>
 bO (Ab 0 v4) λv5=>
 bO (Ap false 1 H v5) λv6=>
 bO (Ar .mul v6 (I 8)) λv7=>
 bO (Ar .sub v3 v7) λv8=>
 bO (Ar .add v8 x15) λv9=>
 bO (Af x0) λv10=>
 bO (Ab 1 v10) λv11=>
 bO (SJ 8 1 v11 v9) λv12=>
 bS (AP 1 H v12 u0Z) λH13=>
 bO (Ar .add x15 (I 1)) λv14=>
 R3 [x0,x4,x14,v14] H13)
 (K (.tup []) H)
theorem UV {K:KT}:eI (λR x0 x4 x14 x15 H=>Q7 R x0 x4 x14 x15 H K) (λx0 x4 x14 x15 H=>TR x0 x4 x14 x15 H K):=RQ (A3 _ _) (λ_ _ _ _ _ _=>by kernel_rfl)
def Zf (a0 a1:AV)(H:AH)(K:KT):Prop:=
 bH (AC H a1) λv0 H1=>
 bO (Af a0) λv2=>
 bO (Ab 0 v2) λv3=>
 bO (Ap false 1 H1 v3) λv4=>
 bP (BPure prog 153 [v4]) λv5=>
 bO (Ap true 2 H1 v0) λv6=>
 bP (BPure prog 152 [v5,v6]) λv7=>
 bH (AC H1 (.agg [(I 0),(I 0)])) λv8 H9=>
 bS (AP 2 H9 v8 v7) λH10=>
(Ap false 1 H9 v3=some v4)∧
(Ap true 2 H9 v0=some v6)∧
 bO (Ab 1 v8) λv11=>
 bO (Ap false 1 H10 v11) λv12=>
 TR a0 v8 v12 (I 0) H10 K
theorem cF {a0 a1:AV}{H:AH}{K:KT}(h:Zf a0 a1 H K):Ch 157 [a0,a1] H K:=
 fok TS G4 TT func157 h
def TD (a0 a1:AV)(H:AH)(K:KT):Prop:=
 bH (AC H a0) λv0 H1=>
 bO (Ab 0 v0) λv2=>
 bO (Ap false 1 H1 v2) λv3=>
 bP (BPure prog 153 [v3]) λv4=>
 bO (Ap true 2 H1 a1) λv5=>
 bP (BPure prog 160 [v4,v5]) λv6=>
 K v6 H1
theorem WP {a0 a1:AV}{H:AH}{K:KT}(h:TD a0 a1 H K):Ch 159 [a0,a1] H K:=
 fok A7 G4 BA func159 h
def dN (a0 a1:AV)(H:AH)(K:KT):Prop:=
 bH (AC H a0) λv0 H1=>
 bH (AC H1 a1) λv2 H3=>
 bO (Ap true 2 H3 v0) λv4=>
 bP (PCall prog 138 [v4] H3) λv5=>
 bO (Em .not v5) λv6=>
 bG v6 false λw7=>
 gO w7 (Ap true 2 H3 v2) λv8=>
 bG v6 false λw9=>
 gP w9 (PCall prog 138 [v8] H3) λv10=>
 bG v6 false λw11=>
 gO w11 (Em .not v10) λv12=>
 bO (A0 v6 (B true) v12) λv13=>
 bB v13 λt14=>bI t14 (
 K (B false) H3)
 (bO (Ab 1 v0) λv15=>
 bO (Ap false 1 H3 v15) λv16=>
 bO (Ar .eql v16 (I 0)) λv17=>
 bG v17 false λw18=>
 gO w18 (Ap true 2 H3 v0) λv19=>
 bG v17 false λw20=>
 gO w20 (Ap true 2 H3 v2) λv21=>
 bG v17 false λw22=>
 gP w22 (BPure prog 152 [v19,v21]) λv23=>
 bG v17 false λw24=>
 gO w24 (Ap true 2 H3 v0) λv25=>
 bG v17 false λw26=>
 gO w26 (PI prog .eql 126 v23 v25) λv27=>
 bO (A0 v17 (B true) v27) λv28=>
 K v28 H3)
theorem fS {a0 a1:AV}{H:AH}{K:KT}(h:dN a0 a1 H K):Ch 160 [a0,a1] H K:=
 fok A7 G4 BA func160 h
def FP (a0:AV)(H:AH)(K:KT):Prop:=
 bO (ZQ .eql RV a0 Ad) λv0=>
 bB v0 λt1=>bI t1 (
 K Ad H)
 (bH (D9 H 9 0 (B4 [(I 0),u0Z,u0Z,u0Z,u0Z,u0Z,u0Z,u0Z,u0Z] 0) []) λv2 H3=>
 bH (HM 9 16 H3 v2 a0) λv4 H5=>
 K v4 H5)
theorem K7 {a0:AV}{H:AH}{K:KT}(h:FP a0 H K):Ch 137 [a0] H K:=
 fok A7 G4 BA func137 h
def Zu (a0:AV)(H:AH)(K:KT):Prop:=
 bH (AC H a0) λv0 H1=>
 bO (Ab 0 v0) λv2=>
 bO (Ap false 1 H1 v2) λv3=>
 bP (PCall prog 69 [v3] H1) λv4=>
 bG v4 true λw5=>
 gO w5 (Ab 1 v0) λv6=>
 bG v4 true λw7=>
 gO w7 (Ap false 1 H1 v6) λv8=>
 bG v4 true λw9=>
 gP w9 (PCall prog 69 [v8] H1) λv10=>
 bO (A0 v4 v10 (B false)) λv11=>
 bG v11 true λw12=>
 gO w12 (Ab 1 v0) λv13=>
 bG v11 true λw14=>
 gO w14 (Ap false 1 H1 v13) λv15=>
 bG v11 true λw16=>
 gO w16 (Ab 0 v0) λv17=>
 bG v11 true λw18=>
 gO w18 (Ap false 1 H1 v17) λv19=>
 bG v11 true λw20=>
 gO w20 (Ar .sub (I 4611686018427387904) v19) λv21=>
 bG v11 true λw22=>
 gO w22 (Ar .leq v15 v21) λv23=>
 bO (A0 v11 v23 (B false)) λv24=>
 K v24 H1
theorem dM {a0:AV}{H:AH}{K:KT}(h:Zu a0 H K):Ch 138 [a0] H K:=
 fok A7 G4 BA func138 h
def JR:Nat→Bool:=kG []
def BU (a0 a1 a2:AV)(H:AH)(K:KT):Prop:=
 bO (Bf 9 a0 (some a1) none none) λv0=>
 bO (AL a2) λv1=>
 bO (Ar .eql v1 (I 0)) λv2=>
 bB v2 λt3=>bI t3 (
 K a0 H)
 (bO (AL a0) λv4=>
 bO (Ar .eql a1 v4) λv5=>
 bB v5 λt6=>bI t6 (
 bH (HM 9 16 H a0 a2) λv7 H8=>
 K v7 H8)
 (bO (Ar .add v4 v1) λv9=>
 bO (eM a0) λv10=>
 bO (Ar .gtr v9 v10) λv11=>
 bB v11 λt12=>bI t12 (
 bO (Bf 9 a0 none (some a1) none) λv13=>
 bO (Ar .add v4 v1) λv14=>
 bO (Ar .sub v14 a1) λv15=>
 bH (PH H 9 16 [(I 0),u0Z,u0Z,u0Z,u0Z,u0Z,u0Z,u0Z,u0Z] v13 v15) λv16 H17=>
 bO (Bf 9 v16 (some a1) none none) λv18=>
 bH (UP 9 H17 v18 a2) λv19 H20=>
 bO (Ar .add a1 v1) λv21=>
 bO (Bf 9 v16 (some v21) none none) λv22=>
 bO (Bf 9 a0 (some a1) none none) λv23=>
 bH (UP 9 H20 v22 v23) λv24 H25=>
 K v16 H25)
 (bO (Ar .add v4 v1) λv26=>
 bO (Bf 9 a0 none (some v26) none) λv27=>
 bO (Ar .add a1 v1) λv28=>
 bO (Bf 9 v27 (some v28) none none) λv29=>
 bP (ExtR prog 176 [a2,v29] H) λv30=>
 bO (Em .not v30) λv31=>
 bB v31 λt32=>bI t32 (
 bO (Ar .add a1 v1) λv33=>
 bO (Bf 9 v27 (some v33) none none) λv34=>
 bO (Bf 9 v27 (some a1) none none) λv35=>
 bH (UP 9 H v34 v35) λv36 H37=>
 bO (Bf 9 v27 (some a1) none none) λv38=>
 bH (UP 9 H37 v38 a2) λv39 H40=>
 K v27 H40)
 (bO (Bf 9 v27 (some v4) none none) λv41=>
 bH (UP 9 H v41 a2) λv42 H43=>
 bO (Bf 9 v27 (some a1) none none) λv44=>
 bC (BCall prog 177 [v44,v1] H43) λv45 H46=>
 K v27 H46))))
theorem JQ (a0 a1 a2:AV)(H:AH)(K:KT):UY prog A7 G4 zdqdZ JR BA f143 [a0,a1,a2] H K=BU a0 a1 a2 H K:=by kernel_rfl
theorem Dp {a0 a1 a2:AV}{H:AH}{K:KT}(h:BU a0 a1 a2 H K):ACalls prog 143 [a0,a1,a2] H K:=
 Nn PT func143 (by kernel_rfl) (Eq.mpr (JQ a0 a1 a2 H K) h)
def CP:Nat→Option (List Bool):=Cd [(4,mk 49 0 [0,1,2,8,9,10])]
def CU (p:List Bool)(n:Nat):List AV→AH→Kf→Prop:=AJ prog A7 G4 Aw Aw CP (sub p (AG f174)) n
def CO (x0 x1 x2 x8 x9 x10:AV)(H:AH)(K:KT):Prop:=lp (mk 49 0 [0,1,2,8,9,10]) (CU [tT,tT,tT,fF,fF,fF] 5) [x0,x1,x2,x8,x9,x10] H (AS 0 (AN (CU [tT,tT,tT,tT] 9) (AR prog f174.results.toList K)))
def C9 (R4:RT)(x0 x1 x2 x8 x9 x10:AV)(H:AH)(K:KT):Prop:=
 bO (Ar .lss x9 x10) λv0=>
 bB v0 λt1=>bI t1 (
 bO (Ar .add x9 x10) λv2=>
 bO (vI .u64 v2) λv3=>
 bO (Ar .shr v3 (.lit (.int .u64 1))) λv4=>
 bO (vI .i64 v4) λv5=>
 bO (Bo 9 x0 v5) λv6=>
 bO (Ap true 9 H v6) λv7=>
 bF true x2 λk10 f10 c10=>
 bT (BW prog k10||!true)<|
 bC (BCall prog k10 (f10++[v7,x1]++c10) H) λv8 H9=>
 bO (Ar .lss v8 (I 0)) λv11=>
 bB v11 λt12=>bI t12 (
 bO (Ar .add v5 (I 1)) λv13=>
 R4 [x0,x1,x2,x8,v13,x10] H9)
 (R4 [x0,x1,x2,x8,x9,v5] H9))
 (bO (Ar .lss x9 x8) λv14=>
 bG v14 true λw15=>
 gO w15 (some x2) λv16=>
 bG v14 true λw17=>
 gO w17 (some x0) λv18=>
 bG v14 true λw19=>
 gO w19 (some x9) λv20=>
 bG v14 true λw21=>
 gO w21 (Bo 9 v18 v20) λv22=>
 bG v14 true λw23=>
 gO w23 (Ap true 9 H v22) λv24=>
 bG v14 true λw25=>
 gO w25 (some x1) λv26=>
 bG v14 true λw27=>
 bF w27 v16 λk30 f30 c30=>
 bT (BW prog k30||!w27)<|
 gC w27 (BCall prog k30 (f30++[v24,v26]++c30) H) H λv28 H29=>
 bG v14 true λw31=>
 gO w31 (Ar .eql v28 (I 0)) λv32=>
 bO (A0 v14 v32 (B false)) λv33=>
 K (.tup [x9,v33]) H29)
theorem Et {K:KT}:vA (λR x0 x1 x2 x8 x9 x10 H=>C9 R x0 x1 x2 x8 x9 x10 H K) (λx0 x1 x2 x8 x9 x10 H=>CO x0 x1 x2 x8 x9 x10 H K):=fQ (A3 _ _) (λ_ _ _ _ _ _ _ _=>by kernel_rfl)
def Dj (a0 a1 a2:AV)(H:AH)(K:KT):Prop:=
 bO (AL a0) λv0=>
 CO a0 a1 a2 v0 (I 0) v0 H K
theorem ET {a0 a1 a2:AV}{H:AH}{K:KT}(h:Dj a0 a1 a2 H K):Ch 174 [a0,a1,a2] H K:=
 fok A7 G4 CP func174 h
def TP (a0 a1:AV)(H:AH)(K:KT):Prop:=
 bH (AC H a0) λv0 H1=>
 bO (Ab 0 v0) λv2=>
 bO (Ap false 1 H1 v2) λv3=>
 bP (PCall prog 136 [v3,a1] H1) λv4=>
 K v4 H1
theorem WT {a0 a1:AV}{H:AH}{K:KT}(h:TP a0 a1 H K):Ch 175 [a0,a1] H K:=
 fok A7 G4 BA func175 h
def Sh (a0 a1:AV)(H:AH)(K:KT):Prop:=
 bP (PCall prog 172 [a0] H) λv0=>
 bP (PCall prog 172 [a1] H) λv1=>
 bB v0 λt2=>bI t2 (
 bB v1 λt3=>bI t3 (
 K (I 0) H)
 (K (I (-1)) H))
 (bB v1 λt4=>bI t4 (
 K (I 1) H)
 (bO (Ar .lss a0 a1) λv5=>
 bB v5 λt6=>bI t6 (
 K (I (-1)) H)
 (bO (Ar .gtr a0 a1) λv7=>
 bB v7 λt8=>bI t8 (
 K (I 1) H)
 (K (I 0) H))))
theorem VS {a0 a1:AV}{H:AH}{K:KT}(h:Sh a0 a1 H K):Ch 136 [a0,a1] H K:=
 fok A7 G4 BA func136 h
def Ek:Nat→Option (List Bool):=Cd [(3,mk 19 0 [0,1,7,8])]
def Ew (p:List Bool)(n:Nat):List AV→AH→Kf→Prop:=AJ prog A7 G4 Aw Aw Ek (sub p (AG f173)) n
def Ej (x0 x1 x7 x8:AV)(H:AH)(K:KT):Prop:=lp (mk 19 0 [0,1,7,8]) (Ew [tT,fF,tT,fF,fF] 4) [x0,x1,x7,x8] H (AS 0 (AN (Ew [tT,tT] 10) (AR prog f173.results.toList K)))
def C8 (R3:RT)(x0 x1 x7 x8:AV)(H:AH)(K:KT):Prop:=
 bO (Ar .lss x8 x7) λv0=>
 bB v0 λt1=>bI t1 (
 bO (Bo 9 x0 x8) λv2=>
 bO (Ap true 9 H v2) λv3=>
 bF true x1 λk6 f6 c6=>
 bT (BW prog k6||!true)<|
 bC (BCall prog k6 (f6++[v3]++c6) H) λv4 H5=>
 bB v4 λt7=>bI t7 (
 K x8 H5)
 (bO (Ar .add x8 (I 1)) λv8=>
 R3 [x0,x1,x7,v8] H5))
 (K (I (-1)) H)
theorem D2 {K:KT}:eI (λR x0 x1 x7 x8 H=>C8 R x0 x1 x7 x8 H K) (λx0 x1 x7 x8 H=>Ej x0 x1 x7 x8 H K):=RQ (A3 _ _) (λ_ _ _ _ _ _=>by kernel_rfl)
def Dn (a0 a1:AV)(H:AH)(K:KT):Prop:=
 bO (AL a0) λv0=>
 Ej a0 a1 v0 (I 0) H K
theorem El {a0 a1:AV}{H:AH}{K:KT}(h:Dn a0 a1 H K):Ch 173 [a0,a1] H K:=
 fok A7 G4 Ek func173 h
def tX (a0:AV)(H:AH)(K:KT):Prop:=
 bO (Ar .geq a0 (I 0)) λv0=>
 bG v0 true λw1=>
 gO w1 (some a0) λv2=>
 bG v0 true λw3=>
 gO w3 (Ar .leq v2 (I 4611686018427387904)) λv4=>
 bO (A0 v0 v4 (B false)) λv5=>
 K v5 H
theorem rP {a0:AV}{H:AH}{K:KT}(h:tX a0 H K):Ch 69 [a0] H K:=
 fok A7 G4 BA func69 h
def Vt (a0:AV)(H:AH)(K:KT):Prop:=
 bO (Ar .neq a0 a0) λv0=>
 K v0 H
theorem Yh {a0:AV}{H:AH}{K:KT}(h:Vt a0 H K):Ch 172 [a0] H K:=
 fok A7 G4 BA func172 h
def MY:Nat→Option (List Bool):=Cd [(6,mk 50 0 [1,2,5])]
def OE (p:List Bool)(n:Nat):List AV→AH→Kf→Prop:=AJ prog A7 G4 Aw Aw MY (sub p (AG f119)) n
def MX (x1 x2 x5:AV)(H:AH)(K:KT):Prop:=lp (mk 50 0 [1,2,5]) (OE [tT,tT,tT,fF,fF,fF] 7) [x1,x2,x5] H (AS 0 (AN (OE [tT,tT,tT,tT] 11) (AR prog f119.results.toList K)))
def Lq (R6:RT)(x1 x2 x5:AV)(H:AH)(K:KT):Prop:=
 bO (Ab 1 x2) λv0=>
 bO (Ap false 1 H v0) λv1=>
 bO (Ar .gtr v1 (I 0)) λv2=>
 bB v2 λt3=>bI t3 (
 bO (Ab 1 x2) λv4=>
 bO (Ap false 1 H v4) λv5=>
 bO (Ab 0 x2) λv6=>
 bO (Ap false 1 H v6) λv7=>
 bO (Ar .rem v7 x1) λv8=>
 bO (Ar .sub x1 v8) λv9=>
 bO (amm Zn [v5,v9]) λv10=>
 bO (Ab 0 x2) λv11=>
 bO (Ap false 1 H v11) λv12=>
 bO (En [(I 0),(I 0)] [(0,1,v12),(1,1,v10)]) λv13=>
 bH (D9 H 2 1 (B4 [(I 0),(I 0)] 1) [(0,2,v13)]) λv14 H15=>
 bH (HM 2 16 H15 x5 v14) λv16 H17=>
 bO (Ab 0 x2) λv18=>
 bO (Ap false 1 H17 v18) λv19=>
 bO (Ar .add v19 v10) λv20=>
 bO (Ab 1 x2) λv21=>
 bO (Ap false 1 H17 v21) λv22=>
 bO (Ar .sub v22 v10) λv23=>
 bO (Ab 0 x2) λv24=>
 bS (AP 1 H17 v24 v20) λH25=>
 bO (Ab 1 x2) λv26=>
 bS (AP 1 H25 v26 v23) λH27=>
 R6 [x1,x2,v16] H27)
 (K x5 H)
theorem Qi {K:KT}:pU (λR x1 x2 x5 H=>Lq R x1 x2 x5 H K) (λx1 x2 x5 H=>MX x1 x2 x5 H K):=Xs (A3 _ _) (λ_ _ _ _ _=>by kernel_rfl)
def Rg (a0 a1:AV)(H:AH)(K:KT):Prop:=
 bH (AC H a0) λv0 H1=>
 bO (Ap true 2 H1 v0) λv2=>
 bP (PCall prog 171 [v2] H1) λv3=>
 bO (Em .not v3) λv4=>
 bG v4 false λw5=>
 gO w5 (Ab 1 v0) λv6=>
 bG v4 false λw7=>
 gO w7 (Ap false 1 H1 v6) λv8=>
 bG v4 false λw9=>
 gO w9 (Ar .gtr v8 (I 4096)) λv10=>
 bO (A0 v4 (B true) v10) λv11=>
 bG v11 false λw12=>
 gO w12 (some a1) λv13=>
 bG v11 false λw14=>
 gO w14 (Ar .lss v13 (I 1)) λv15=>
 bO (A0 v11 (B true) v15) λv16=>
 bB v16 λt17=>bI t17 (
 K Ad H1)
 (MX a1 v0 Ad H1 K)
theorem Vi {a0 a1:AV}{H:AH}{K:KT}(h:Rg a0 a1 H K):Ch 119 [a0,a1] H K:=
 fok A7 G4 MY func119 h
def OD (a0:AV)(H:AH)(K:KT):Prop:=
 bH (AC H a0) λv0 H1=>
 bO (Ab 0 v0) λv2=>
 bO (Ap false 1 H1 v2) λv3=>
 bO (Ab 1 v0) λv4=>
 bO (Ap false 1 H1 v4) λv5=>
 bH (D9 H1 1 2 (B4 [(I 0)] 2) [(0,1,v3),(1,1,v5)]) λv6 H7=>
 bP (PCall prog 190 [v6] H7) λv8=>
 bO (Ag v8 0) λv9=>
 bO (Ag v8 1) λv10=>
 K v10 H7
theorem Tj {a0:AV}{H:AH}{K:KT}(h:OD a0 H K):Ch 171 [a0] H K:=
 fok A7 G4 BA func171 h
def PB:Nat→Option (List Bool):=Cd [(4,mk 34 0 [0,4,5])]
def Re (p:List Bool)(n:Nat):List AV→AH→Kf→Prop:=AJ prog A7 G4 Aw Aw PB (sub p (AG f190)) n
def PA (x0 x4 x5:AV)(H:AH)(K:KT):Prop:=lp (mk 34 0 [0,4,5]) (Re [tT,tT,fF,tT,fF,fF] 5) [x0,x4,x5] H (AS 0 (AN (Re [tT,tT,tT] 11) (AR prog f190.results.toList K)))
def MW (R4:RT)(x0 x4 x5:AV)(H:AH)(K:KT):Prop:=
 bO (AL x0) λv0=>
 bO (Ar .lss x5 v0) λv1=>
 bB v1 λt2=>bI t2 (
 bO (Bo 1 x0 x5) λv3=>
 bO (Ap false 1 H v3) λv4=>
 bP (PCall prog 199 [v4] H) λv5=>
 bO (Em .not v5) λv6=>
 bG v6 false λw7=>
 gO w7 (some x0) λv8=>
 bG v6 false λw9=>
 gO w9 (some x5) λv10=>
 bG v6 false λw11=>
 gO w11 (Bo 1 v8 v10) λv12=>
 bG v6 false λw13=>
 gO w13 (Ap false 1 H v12) λv14=>
 bG v6 false λw15=>
 gO w15 (some x4) λv16=>
 bG v6 false λw17=>
 gO w17 (Ar .sub (I 4611686018427387904) v16) λv18=>
 bG v6 false λw19=>
 gO w19 (Ar .gtr v14 v18) λv20=>
 bO (A0 v6 (B true) v20) λv21=>
 bB v21 λt22=>bI t22 (
 K (.tup [(I 0),(B false)]) H)
 (bO (Bo 1 x0 x5) λv23=>
 bO (Ap false 1 H v23) λv24=>
 bO (Ar .add x4 v24) λv25=>
 bO (Ar .add x5 (I 1)) λv26=>
 R4 [x0,v25,v26] H))
 (K (.tup [x4,(B true)]) H)
theorem Sd {K:KT}:pU (λR x0 x4 x5 H=>MW R x0 x4 x5 H K) (λx0 x4 x5 H=>PA x0 x4 x5 H K):=Xs (A3 _ _) (λ_ _ _ _ _=>by kernel_rfl)
def Uw (a0:AV)(H:AH)(K:KT):Prop:=
 PA a0 (I 0) (I 0) H K
theorem XJ {a0:AV}{H:AH}{K:KT}(h:Uw a0 H K):Ch 190 [a0] H K:=
 fok A7 G4 PB func190 h
def Ux (a0:AV)(H:AH)(K:KT):Prop:=
 bO (Ar .geq a0 (I 0)) λv0=>
 bG v0 true λw1=>
 gO w1 (some a0) λv2=>
 bG v0 true λw3=>
 gO w3 (Ar .leq v2 (I 4611686018427387904)) λv4=>
 bO (A0 v0 v4 (B false)) λv5=>
 K v5 H
theorem XK {a0:AV}{H:AH}{K:KT}(h:Ux a0 H K):Ch 199 [a0] H K:=
 fok A7 G4 BA func199 h
end Go.Proofs.YtadghlcfbajamaaGreat.Av
end
