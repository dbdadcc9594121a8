/- Texts of this proof, one behind the other, packed into one file by a program of this session. No condition. -/
import Derived.Test.YtbppnhenlboefaaGreatMhC
import Derived.KernelRfl
import Derived.OpenShut
import Derived.ProofKit
import Derived.SizedLaws
import Derived.Test.YtbppnhenlboefaaGreatRows
import Derived.WalkKit
set_option linter.unusedVariables false
set_option linter.unusedSimpArgs false
set_option maxRecDepth 100000
namespace Go.Proofs.YtbppnhenlboefaaGreat.Av
open Go Go.RowKit
section
def AP:AV→Bool
 | .lit (.slice none _ _)=>true
 | .emp=>true
 | .sl _ _ _ _ _=>true
 | _=>false
def AU:AV→List Nat
 | .sl o _ _ _ _=>[o]
 | _=>[]
theorem Cf {H:AH}{sz:Nat}{v:AV}{cs:List AV}{n:Nat}(h:Aa H sz v=some (cs,n)):cs.length=n*sz:=by
 unfold Aa at h;split at h
 ·split at h
  ·rename_i hb
   injection h with h;injection h with h1 h2;subst h1;subst h2;exact hb.2
  ·cases h
 ·split at h
  ·split at h
   ·rename_i hb
    injection h with h;injection h with h1 h2;subst h1;subst h2;rw[Ac0,Ac7];omega
   ·cases h
  ·cases h
 ·injection h with h;injection h with h1 h2;subst h1;subst h2;simp
 ·injection h with h;injection h with h1 h2;subst h1;subst h2;simp
 ·cases h
theorem WX {H:AH}{sz:Nat}{v:AV}{cs:List AV}{n:Nat}(h:Bf H sz v=some (cs,n)):cs.length=n*sz:=by
 unfold Bf at h;split at h
 ·split at h
  ·rename_i hs
   injection h with h;injection h with h1 h2;subst h1;subst h2;subst hs;simp
  ·cases h
 ·exact Cf h
theorem AI {H:AH}{sz:Nat}{v:AV}{q:List AV×Nat}(h:Aa H sz v=some q):Bf H sz v=some q:=by
 unfold Bf
 split
 ·cases h
 ·exact h
abbrev Ak0:=@List.drop_take
abbrev Ac1:=@List.take_of_length_le
theorem W6 (cs:List AV)(off l:Nat)(ds:List AV)(h:off+l≤cs.length):((B2 cs (off+l) ds).drop off).take (l+ds.length)=(cs.drop off).take l++ds∧off+(l+ds.length)≤(B2 cs (off+l) ds).length:=by
 unfold B2
 constructor
 ·rw[Ad3,List.drop_append_of_le_length (by rw[Ac0];omega),List.take_append]
  have e1:((cs.take (off+l)).drop off)=(cs.drop off).take l:=by rw[Ak0];congr 1;omega
  rw[e1];have e2:((cs.drop off).take l).length=l:=by rw[Ac0,Ac7];omega
  rw[e2,Ac1 (by omega)]
  congr 1
  rw[show l+ds.length - l=ds.length by omega,List.take_left]
 ·simp only[yX];omega
theorem A9 {H:AH}{sz o off n:Nat}{cap:Room}{c:List AV}(ho:H[o]?=some (some (.cells c)))(hf:off+n*sz≤c.length):Aa H sz (.sl o off n sz cap)=some ((c.drop off).take (n*sz),n):=by
 simp[Aa,ho,hf]
theorem Ae {H H':AH}{sz:Nat}{v:AV}{q:List AV×Nat}(h:Aa H sz v=some q)(hk:∀i∈AU v,H'[i]?=H[i]?):Aa H' sz v=some q:=by
 cases v with
 | sl o off len esz cap=>
  have:=hk o (by simp[AU])
  simp only[Aa]at h⊢;rw[this];exact h
 | lit u=>
  unfold Aa at h⊢;split at h<;>simp_all
 | imm cs len esz=>simpa only[Aa]using h
 | emp=>simpa only[Aa]using h
 | _=>simp[Aa]at h
abbrev Ag2:=@List.mem_singleton
theorem A3 {H:AH}{sz:Nat}{v:AV}{q:List AV×Nat}(h:Aa H sz v=some q):∀i∈AU v,i<H.length:=by
 intro i hi;cases v with
 | sl o off len esz cap=>
  simp only[AU,Ag2]at hi;subst hi;simp only[Aa]at h;split at h
  ·rename_i ho
   exact(BD.1 ho).1
  ·cases h
 | _=>simp[AU]at hi
section
variable {P : Program}
abbrev yR:=And.intro @ne_eq.{1} @not_true_eq_false
abbrev zF:=And.intro @if_false.{1} @yR
abbrev Ad9:=@List.drop_zero
theorem Z7 {sz bytes:Nat}{H:AH}{s:AV}{cs ds:List AV}{n m:Nat}(h1:Aa H sz s=some (cs,n))(ho:AP s=true)(hdl:ds.length=m*sz)(hb:(n+m)*bytes≤140737488355328):
  ∃r H',LI H sz bytes s ds m=some (r,H')∧AP r=true∧Aa H' sz r=some (cs++ds,n+m)∧H.length≤H'.length∧(∀i,i<H.length→i∉AU s→H'[i]?=H[i]?)∧∀i∈AU r,i∈AU s∨H.length≤i:=by
 have hcl:=Cf h1
 have newc:Aa (H++[some (.cells ds)]) sz (.sl H.length 0 m sz (.ge m))=some (ds,m):=by
  rw[A9 (c:=ds) (by simp) (by omega)];simp only[Ad9];rw[Ac1 (by omega)]
 have keep:∀(X:AH) (i:Nat),i<H.length→(H++X)[i]?=H[i]?:=λX i hi=>Ab9 hi
 have hnil:n=0→cs=[]:=λh0=>Af9 (by rw[hcl,h0];simp)
 unfold Aa at h1;split at h1
 ·simp[AP]at ho
 ·
  rename_i o off len esz cap;split at h1
  ·rename_i c hoc
   split at h1
   ·rename_i hb1
    obtain⟨rfl,hfit⟩:=hb1;injection h1 with h1;injection h1 with h3 h4;subst h3;subst h4;have hol:=(BD.1 hoc).1;have hadd:(len+m)*esz=len*esz+m*esz:=Ag9 _ _ _;obtain⟨ov1,ov2⟩:=W6 c off (len*esz) ds hfit
    have inplace:∀cap',Aa (H.set o (some (.cells (B2 c (off+len*esz) ds)))) esz (.sl o off (len+m) esz cap')=some ((c.drop off).take (len*esz)++ds,len+m):=by
     intro cap';rw[A9 (c:=B2 c (off+len*esz) ds) (by rw[JW hol]) (by rw[hadd,← hdl];exact ov2)];rw[hadd,← hdl,ov1]
    have fresh:∀(H2:AH) cap',H2.length=H.length→Aa (H2++[some (.cells ((c.drop off).take (len*esz)++ds))]) esz (.sl H.length 0 (len+m) esz cap')=some ((c.drop off).take (len*esz)++ds,len+m):=by
     intro H2 cap' hl;rw[A9 (c:=(c.drop off).take (len*esz)++ds) (by rw[← hl];simp) (by rw[Ac6,hcl,hdl];omega)];simp only[Ad9];rw[Ac1 (by rw[Ac6,hcl,hdl];omega)]
    have hkeep:∀(y:Option AObj) (X:AH) (i:Nat),i<H.length→i∉AU (.sl o off len esz cap)→(H.set o y++X)[i]?=H[i]?:=by
     intro y X i hi hn;rw[Ab9 (by simpa using hi),C4 (by simp[AU]at hn;omega)]
    unfold LI;simp only[hoc,zF,false_or,hfit];cases cap with
    | ex k=>
     simp only
     by_cases hk:len+m≤k
     ·rw[if_pos hk]
      exact⟨_,_,rfl,rfl,inplace _,by simp,λi hi hn=>by simpa using hkeep _ [] i hi hn,λi hi=>.inl (by simpa[AU]using hi)⟩
     ·rw[if_neg hk,if_pos hb]
      exact⟨_,_,rfl,rfl,fresh H _ rfl,by simp,λi hi _=>keep _ i hi,λi hi=>.inr (by simp[AU]at hi;omega)⟩
    | ge k=>
     simp only
     by_cases hm:m=0
     ·subst hm
      have hd0:ds=[]:=Af9 (by rw[hdl];simp);subst hd0;rw[if_pos rfl];exact⟨_,_,rfl,rfl,by rw[A9 hoc hfit];simp,Ac2 _,λ_ _ _=>rfl,λi hi=>.inl hi⟩
     ·rw[if_neg hm]
      by_cases hk:len+m≤k
      ·rw[if_pos hk]
       exact⟨_,_,rfl,rfl,inplace _,by simp,λi hi hn=>by simpa using hkeep _ [] i hi hn,λi hi=>.inl (by simpa[AU]using hi)⟩
      ·rw[if_neg hk,if_pos hb]
       exact⟨_,_,rfl,rfl,fresh (H.set o none) _ (by simp),by simp,λi hi hn=>hkeep none _ i hi hn,λi hi=>.inr (by simp[AU]at hi;omega)⟩
   ·cases h1
  ·cases h1
 ·
  injection h1 with h1;injection h1 with h3 h4;subst h3;subst h4;unfold LI;simp only
  by_cases hm:m=0
  ·subst hm
   have hd0:ds=[]:=Af9 (by rw[hdl];simp);subst hd0;rw[if_pos rfl];exact⟨_,_,rfl,rfl,rfl,Ac2 _,λ_ _ _=>rfl,λi hi=>.inl hi⟩
  ·rw[if_neg hm,if_pos (by simpa using hb)]
   exact⟨_,_,rfl,rfl,by simpa using newc,by simp,λi hi _=>keep _ i hi,λi hi=>.inr (by simp[AU]at hi;omega)⟩
 ·
  injection h1 with h1;injection h1 with h3 h4;subst h3;subst h4;unfold LI;simp only
  by_cases hm:m=0
  ·subst hm
   have hd0:ds=[]:=Af9 (by rw[hdl];simp);subst hd0;rw[if_pos rfl];exact⟨_,_,rfl,rfl,rfl,Ac2 _,λ_ _ _=>rfl,λi hi=>.inl hi⟩
  ·rw[if_neg hm,if_pos (by simpa using hb)]
   exact⟨_,_,rfl,rfl,by simpa using newc,by simp,λi hi _=>keep _ i hi,λi hi=>.inr (by simp[AU]at hi;omega)⟩
 ·cases h1
end
end
section
abbrev I (n:Int):AV:=.lit (.int .i64 n)
abbrev B (b:Bool):AV:=.lit (.bool b)
abbrev S (s:ByteArray):AV:=.lit (.string s)
abbrev Ad:AV:=.lit (.slice none 0 0)
@[congr] theorem vR {x x':Option AV} {K:AV→Prop} (h:x=x'):bO x K=bO x' K:=by rw[h]
@[congr] theorem vP {x x':Option (AV×AH)} {K:AV→AH→Prop} (h:x=x'):bH x K=bH x' K:=by rw[h]
@[congr] theorem vT {x x':Option AH} {K:AH→Prop} (h:x=x'):bS x K=bS x' K:=by rw[h]
@[congr] theorem vK {v v':AV} {K:Bool→Prop} (h:v=v'):bB v K=bB v' K:=by rw[h]
@[congr] theorem vQ {b b':Bool} {A B:Prop} (h:b=b'):bI b A B=bI b' A B:=by rw[h]
@[congr] theorem vO {v v':AV} {w:Bool} {K:Bool→Prop} (h:v=v'):bG v w K=bG v' w K:=by rw[h]
@[congr] theorem vM {w w':Bool} {v v':AV} {K:FuncId→List AV→List AV→Prop} (hw:w=w') (h:v=v'):bF w v K=bF w' v' K:=by rw[hw,h]
@[congr] theorem vU {b b':Bool} {A:Prop} (h:b=b'):bT b A=bT b' A:=by rw[h]
@[congr] theorem vL {R:AV→AH→Prop} {K:AV→AH→Prop}:bC R K=bC R K:=rfl
@[congr] theorem vS {R:AV→Prop} {K:AV→Prop}:bP R K=bP R K:=rfl
@[congr] theorem wK {w w':Bool} {x:Option AV} {K:AV→Prop} (h:w=w'):gO w x K=gO w' x K:=by rw[h]
@[congr] theorem wI {w w':Bool} {x:Option (AV×AH)} {H:AH} {K:AV→AH→Prop} (h:w=w'):gH w x H K=gH w' x H K:=by rw[h]
@[congr] theorem wM {w w':Bool} {x:Option AH} {H:AH} {K:AH→Prop} (h:w=w'):gS w x H K=gS w' x H K:=by rw[h]
@[congr] theorem wH {w w':Bool} {R:AV→AH→Prop} {H:AH} {K:AV→AH→Prop} (h:w=w'):gC w R H K=gC w' R H K:=by rw[h]
@[congr] theorem wL {w w':Bool} {R:AV→Prop} {K:AV→Prop} (h:w=w'):gP w R K=gP w' R K:=by rw[h]
@[simp] theorem Ab {v:AV} {K:AV→Prop}:bO (some v) K=K v:=by unfold bO;exact Eq.refl _
@[simp] theorem Az {v:AV} {H:AH} {K:AV→AH→Prop}:bH (some (v,H)) K=K v H:=by unfold bH;exact Eq.refl _
@[simp] theorem AE {H:AH} {K:AH→Prop}:bS (some H) K=K H:=by unfold bS;exact Eq.refl _
@[simp] theorem Af {b:Bool} {K:Bool→Prop}:bB (.lit (.bool b)) K=K b:=by unfold bB;exact Eq.refl _
@[simp] theorem Al {A B:Prop}:bI true A B=A:=by unfold bI;exact Eq.refl _
@[simp] theorem Ag {A B:Prop}:bI false A B=B:=by unfold bI;exact Eq.refl _
@[simp] theorem AK {b w:Bool} {K:Bool→Prop}:bG (.lit (.bool b)) w K=K (b==w):=by unfold bG;exact Eq.refl _
@[simp] theorem Yp {w:Bool} {K:Bool→Prop}:bG AG w K=K false:=by unfold bG;exact Eq.refl _
@[simp] theorem TM {A:Prop}:bT true A=A:=by unfold bT;exact Eq.refl _
@[simp] theorem cB {w:Bool} {k:FuncId} {a b:List AV} {K:FuncId→List AV→List AV→Prop}:bF w (.fn (.func k) a b) K=K k a b:=by unfold bF;exact Eq.refl _
@[simp] theorem vN {K:FuncId→List AV→List AV→Prop}:bF false AG K=K 0 [] []:=by unfold bF AG;exact Eq.refl _
@[simp] theorem AF {x:Option AV} {K:AV→Prop}:gO true x K=bO x K:=by unfold gO;exact Eq.refl _
@[simp] theorem BE {x:Option AV} {K:AV→Prop}:gO false x K=K AG:=by unfold gO;exact Eq.refl _
@[simp] theorem Bq {x:Option (AV×AH)} {H:AH} {K:AV→AH→Prop}:gH true x H K=bH x K:=by unfold gH;exact Eq.refl _
@[simp] theorem wJ {x:Option (AV×AH)} {H:AH} {K:AV→AH→Prop}:gH false x H K=K AG H:=by unfold gH;exact Eq.refl _
@[simp] theorem B7 {x:Option AH} {H:AH} {K:AH→Prop}:gS true x H K=bS x K:=by unfold gS;exact Eq.refl _
@[simp] theorem wN {x:Option AH} {H:AH} {K:AH→Prop}:gS false x H K=K H:=by unfold gS;exact Eq.refl _
@[simp] theorem TN {R:AV→AH→Prop} {H:AH} {K:AV→AH→Prop}:gC true R H K=bC R K:=by unfold gC;exact Eq.refl _
@[simp] theorem KN {R:AV→AH→Prop} {H:AH} {K:AV→AH→Prop}:gC false R H K=K AG H:=by unfold gC;exact Eq.refl _
@[simp] theorem cN {R:AV→Prop} {K:AV→Prop}:gP true R K=bP R K:=by unfold gP;exact Eq.refl _
@[simp] theorem YK {R:AV→Prop} {K:AV→Prop}:gP false R K=K AG:=by unfold gP;exact Eq.refl _
theorem bP_of {R:AV→Prop}{K:AV→Prop}{r:AV}(h:R r)(hk:K r):bP R K:=⟨r,h,hk⟩
theorem A4 {P:Program}{f:FuncId}{args:List AV}{H:AH}{K:AV→Prop}{r:AV}(h:BPure P f args r)(hk:K r):bP (PCall P f args H) K:=⟨r,.inl h,hk⟩
theorem bC_of {R:AV→AH→Prop}{K:AV→AH→Prop}{r:AV}{H:AH}(h:R r H)(hk:K r H):bC R K:=⟨r,H,h,hk⟩
theorem V3 {x:Int}(h1: -9223372036854775808≤x)(h2:x≤9223372036854775807):IntKind.i64.wrap x=x:=by
 simp[IntKind.wrap,IntKind.bits,IntKind.signed];omega
section
variable {k : IntKind} {a b : Int}
theorem Aw (h1: -9223372036854775808≤a+b)(h2:a+b≤9223372036854775807):Ap .add (I a) (I b)=some (I (a+b)):=by simp[Ap,GK,V3 h1 h2]
theorem BM (h1: -9223372036854775808≤a - b)(h2:a - b≤9223372036854775807):Ap .sub (I a) (I b)=some (I (a - b)):=by simp[Ap,GK,V3 h1 h2]
theorem DM (h1: -9223372036854775808≤a*b)(h2:a*b≤9223372036854775807):Ap .mul (I a) (I b)=some (I (a*b)):=by simp[Ap,GK,V3 h1 h2]
theorem I4 (h1:0≤a)(h2:a≤9223372036854775807)(h3:0<b):Ap .quo (I a) (I b)=some (I (a/b)):=by
 have e:a.tdiv b=a/b:=Int.tdiv_eq_ediv_of_nonneg h1;have h4:0≤a/b:=Int.ediv_nonneg h1 (by omega);have h5:a/b≤a:=Int.ediv_le_self _ h1;simp[Ap,GK,e,V3 (x:=a/b) (by omega) (by omega)];omega
theorem I5 (h1:0≤a)(h3:0<b):Ap .rem (.lit (.int k a)) (.lit (.int k b))=some (.lit (.int k (a % b))):=by
 have e:a.tmod b=a % b:=Int.tmod_eq_emod_of_nonneg h1;simp[Ap,GK,e];omega
@[simp] theorem CX:Ap .eql (.lit (.int k a)) (.lit (.int k b))=some (B (decide (a=b))):=by simp[Ap,GK];rfl
@[simp] theorem BL:Ap .neq (.lit (.int k a)) (.lit (.int k b))=some (B (decide (a≠b))):=by
 simp[Ap,GK]
 by_cases h:a=b<;>simp[h]
@[simp] theorem AN:Ap .lss (.lit (.int k a)) (.lit (.int k b))=some (B (decide (a<b))):=by simp[Ap,GK]
@[simp] theorem WP:Ap .leq (.lit (.int k a)) (.lit (.int k b))=some (B (decide (a≤b))):=by simp[Ap,GK]
@[simp] theorem Hp:Ap .gtr (.lit (.int k a)) (.lit (.int k b))=some (B (decide (b<a))):=by simp[Ap,GK]
@[simp] theorem I3:Ap .geq (.lit (.int k a)) (.lit (.int k b))=some (B (decide (b≤a))):=by simp[Ap,GK]
@[simp] theorem nP {x y:Bool}:rG .eql (.lit (.bool x)) (.lit (.bool y))=some (B (decide (x=y))):=by cases x<;>cases y<;>rfl
@[simp] theorem xO {x y:Bool}:rG .neq (.lit (.bool x)) (.lit (.bool y))=some (B (decide (x≠y))):=by cases x<;>cases y<;>rfl
@[simp] theorem Bp {x:Bool}:Fb .not (.lit (.bool x))=some (B !x):=rfl
@[simp] theorem As {t:Bool} {x y:AV}:A8 (.lit (.bool t)) x y=some (if t then x else y):=rfl
@[simp] theorem ZW:VP a b=min b a:=by unfold VP;omega
@[simp] theorem kO:ZX a b=max b a:=by unfold ZX;omega
@[simp] theorem NE {f:Int→Int→Int}:amm f [.lit (.int k a),.lit (.int k b)]=some (.lit (.int k (f a b))):=rfl
theorem Lt {k':IntKind}(h1: -9223372036854775808≤a)(h2:a≤9223372036854775807):Ts .i64 (.lit (.int k' a))=some (I a):=by simp[Ts,V3 h1 h2]
end
@[simp] theorem A2 {vs:List AV} {i:Nat}:Aj (.tup vs) i=vs[i]?:=rfl
@[simp] theorem Ay {o off:Nat}:Ai (.ptr o off)=some (.ptr o off):=rfl
@[simp] theorem nZ {cs:List AV}:Ai (.ip cs)=some (.ip cs):=rfl
@[simp] theorem Am {k o off:Nat}:Ac k (.ptr o off)=some (.ptr o (off+k)):=rfl
@[simp] theorem NF {k:Nat} {cs:List AV}:Ac k (.ip cs)=some (.ip (cs.drop k)):=rfl
@[simp] theorem Lv {g:Bool} {n:Nat} {H:AH} {cs:List AV}:Au g n H (.ip cs)=Ao g n cs 0:=rfl
theorem Ak {g:Bool}{n o off:Nat}{H:AH}{cs:List AV}(h:H[o]?=some (some (.cells cs))):Au g n H (.ptr o off)=Ao g n cs off:=by simp[Au,h]
@[simp] theorem Ah {n:Nat} {cs:List AV} {off:Nat}:Ao false n cs off=cs[off]?:=by simp[Ao]
theorem FV {n:Nat}{cs:List AV}{off:Nat}(h:off+n≤cs.length):Ao true n cs off=some (.agg ((cs.drop off).take n)):=by simp[Ao,h]
@[simp] theorem vF {g:Bool} {n off:Nat} {cs:List AV}:Yf g n off (.agg cs)=Ao g n cs off:=rfl
@[simp] theorem jC {H:AH} {cs:List AV}:AD H (.agg cs)=if cs.all oneA then some (.ptr H.length 0,H++[some (.cells cs)])else none:=by
 unfold AD BH;simp only
 split<;>simp
theorem jD {H:AH}{v:Value}(h:oneA (.lit v)=true):AD H (.lit v)=some (.ptr H.length 0,H++[some (.cells [.lit v])]):=by
 unfold AD BH;simp only[h,if_true];rfl
theorem AC {n o off:Nat}{H:AH}{x:AV}{xs cs:List AV}(hx:BH x=some xs)(h:H[o]?=some (some (.cells cs)))(hl:xs.length=n)(hb:off+n≤cs.length):AT n H (.ptr o off) x=some (H.set o (some (.cells (AR cs off xs)))):=by
 simp[AT,hx,h,hl,hb]
@[simp] theorem lP {k:IntKind} {n:Int}:oneA (.lit (.int k n))=true:=rfl
@[simp] theorem uP {b:Bool}:oneA (.lit (.bool b))=true:=rfl
@[simp] theorem wW {s:ByteArray}:oneA (.lit (.string s))=true:=rfl
@[simp] theorem lQ {n c:Nat}:oneA (.lit (.slice none n c))=true:=rfl
@[simp] theorem uQ:oneA (.lit (.map none))=true:=rfl
@[simp] theorem uR:oneA (.lit (.pointer none))=true:=rfl
@[simp] theorem xS {o off len esz:Nat} {cap:Room}:oneA (.sl o off len esz cap)=true:=rfl
@[simp] theorem wU {cs:List AV} {len esz:Nat}:oneA (.imm cs len esz)=true:=rfl
@[simp] theorem wV {o off:Nat}:oneA (.ptr o off)=true:=rfl
@[simp] theorem wT:oneA .emp=true:=rfl
@[simp] theorem xR {o:Nat}:oneA (.mp o)=true:=rfl
@[simp] theorem rX {k:IntKind} {n:Int}:BH (.lit (.int k n))=some [.lit (.int k n)]:=rfl
@[simp] theorem qD {b:Bool}:BH (.lit (.bool b))=some [.lit (.bool b)]:=rfl
@[simp] theorem sA {s:ByteArray}:BH (.lit (.string s))=some [.lit (.string s)]:=rfl
@[simp] theorem rY {n c:Nat}:BH (.lit (.slice none n c))=some [.lit (.slice none n c)]:=rfl
@[simp] theorem qE:BH (.lit (.map none))=some [.lit (.map none)]:=rfl
@[simp] theorem qF:BH (.lit (.pointer none))=some [.lit (.pointer none)]:=rfl
@[simp] theorem uM {o off len esz:Nat} {cap:Room}:BH (.sl o off len esz cap)=some [.sl o off len esz cap]:=rfl
@[simp] theorem rW {cs:List AV} {len esz:Nat}:BH (.imm cs len esz)=some [.imm cs len esz]:=rfl
@[simp] theorem rZ {o off:Nat}:BH (.ptr o off)=some [.ptr o off]:=rfl
@[simp] theorem rV:BH .emp=some [.emp]:=rfl
@[simp] theorem uL {o:Nat}:BH (.mp o)=some [.mp o]:=rfl
@[simp] theorem Pk {cs:List AV}:BH (.agg cs)=if cs.all oneA then some cs else none:=rfl
theorem AS {v:AV}(h:oneA v=true):BH v=some [v]:=by
 cases v<;>first
  | rfl
  | (rename_i u;cases u<;>first | rfl | simp[oneA]at h)
  | simp[oneA]at h
@[simp] theorem fM {cells:List AV}:OK cells []=some cells:=rfl
@[simp] theorem ZT {cells:List AV} {off size:Nat} {v:AV} {r:List (Nat×Nat×AV)}:OK cells ((off,size,v)::r)=match BH v with
  | some xs=>if xs.length=size∧off+size≤cells.length then OK (AR cells off xs) r else none
  | none=>none:=rfl
attribute [simp] FK Cr Tq Be AR LI0 LI1 LI2 LI3 LI4 LI5 LI6 LI7 LI8 LI9 xV xW xX xY xZ yA yB yC yD
@[simp] theorem IV {g:Bool} {n o off:Nat} {H:AH}:Au g n H (.ptr o off)=match H[o]? with
  | some (some (.cells cs))=>Ao g n cs off
  | _=>none:=rfl
@[simp] theorem vC {cs:List AV} {len esz:Nat}:Ba (.imm cs len esz)=some (I len):=rfl
@[simp] theorem vD:Ba (.lit (.slice none 0 0))=some (I 0):=rfl
@[simp] theorem nV {o off len esz:Nat} {cap:Room}:Ba (.sl o off len esz cap)=some (I len):=rfl
@[simp] theorem vE {s:ByteArray}:Gh (.lit (.string s))=some (I s.size):=rfl
section
variable {P : Program} {f : FuncId} {args : List AV} {R : AV}
theorem BPure.flat (h:∀H,∃r H',(r=R∧H'=H)∧BCall P f args H r H'):BPure P f args R:=λH=>by
 obtain⟨r,H',⟨rfl,rfl⟩,h⟩:=h H;exact h
end
def SV {α:Type}(enc:α→List AV)(sz:Nat)(l:List α)(v:AV):Prop:=noIds v=true∧∀H,Aa H sz v=some (l.flatMap enc,l.length)
section
variable {α : Type} {enc : α→List AV} {sz : Nat} {l : List α} {v : AV}
theorem SV.nil:SV enc sz [] Ad:=⟨rfl,λ_=>rfl⟩
theorem SV.len (h:SV enc sz l v):Ba v=some (I l.length):=by
 have h2:=h.2 [];unfold Aa at h2;split at h2
 ·split at h2
  ·injection h2 with h2;injection h2 with e1 e2;rw[← e2];rfl
  ·cases h2
 ·simp at h2
 ·injection h2 with h2;injection h2 with e1 e2;rw[← e2];rfl
 ·injection h2 with h2;injection h2 with e1 e2;rw[← e2];rfl
 ·cases h2
abbrev Ae8:=@List.flatMap_cons
abbrev Ak9:=@Nat.add_comm
abbrev Ag3:=@List.drop_drop
theorem Dd (hsz:∀x,(enc x).length=sz):∀{l:List α} {k:Nat} {x:α},l[k]?=some x→(l.flatMap enc).drop (k*sz)=enc x++(l.drop (k+1)).flatMap enc
 | [],k,x,h=>by simp at h
 | a::l,0,x,h=>by simp at h;subst h;simp
 | a::l,k+1,x,h=>by
  have:=Dd hsz (l:=l) (k:=k) (by simpa using h)
  rw[Ae8,Af6,Ak9,← Ag3,List.drop_left' (hsz a)]
  simpa using this
theorem JV (hsz:∀x,(enc x).length=sz)(l:List α):(l.flatMap enc).length=l.length*sz:=by
 induction l with
 | nil=>simp
 | cons a l ih=>simp[Ae8,hsz,ih,Af6];omega
abbrev Ah7:=@List.cons_append
theorem SV.imm (hsz:∀x,(enc x).length=sz)(hn:∀x∈l,A6 (enc x)=true):SV enc sz l (.imm (l.flatMap enc) l.length sz):=by
 refine⟨?_,λH=>?_⟩
 ·simp only[noIds]
  induction l with
  | nil=>rfl
  | cons a l ih=>
   rw[Ae8];have h1:=hn a (by simp);have h2:=ih λx hx=>hn x (by simp[hx])
   generalize enc a=c at h1
   induction c with
   | nil=>exact h2
   | cons b c ihc=>simp only[A6,Ae0,Ah7]at h1⊢;exact⟨h1.1,ihc h1.2⟩
 ·simp[Aa,JV hsz]
theorem SV.idx (h:SV enc sz l v)(hsz:∀x,(enc x).length=sz){k:Nat}{x:α}{i:Int}(hk:l[k]?=some x)(hi:i=k):Bj sz v (.lit (.int .i64 i))=some (.ip (enc x++(l.drop (k+1)).flatMap enc)):=by
 subst hi;have hlt:=(BD.1 hk).1;have h1:=h.1;have h2:=h.2 [];unfold Aa at h2;split at h2
 ·rename_i cs len esz
  split at h2
  ·injection h2 with h2;injection h2 with e1 e2
   subst e1;subst e2;simp only[Bj,J8];rw[if_pos ⟨by omega,by omega⟩];simp[Dd hsz hk]
  ·cases h2
 ·simp[noIds]at h1
 ·injection h2 with h2;injection h2 with e1 e2;rw[← e2]at hlt;omega
 ·injection h2 with h2;injection h2 with e1 e2;rw[← e2]at hlt;omega
 ·cases h2
end
end
section
def MonoF (body:List AV→AH→Kf→Prop):Prop:=∀T H (K1 K2:Kf),(∀e T H,K1 e T H→K2 e T H)→body T H K1→body T H K2
theorem YM {keep:List Bool}{A B:List AV→AH→Prop}{K:Kf}(h:∀X H,A X H→B X H):∀e T H,Mh keep A K e T H→Mh keep B K e T H:=by
 intro e T H hk;cases e with
 | normal=>
  obtain⟨hl,h1⟩:=BN.1 hk;exact BN.2 ⟨hl,h _ _ h1⟩
 | _=>exact hk
theorem mF {keep:List Bool}{body:List AV→AH→Kf→Prop}{K:Kf}(hb:MonoF body):∀(m:Nat) X H,gX keep body K m X H→gX keep body K (m+1) X H
 | 0,X,H,h=>h.elim
 | m+1,X,H,h=>hb _ _ _ _ (YM λX H=>mF hb m X H) h
theorem tZ {keep:List Bool}{body:List AV→AH→Kf→Prop}{K:Kf}(hb:MonoF body){m n:Nat}(h:m≤n){X:List AV}{H:AH}(hr:gX keep body K m X H):gX keep body K n X H:=by
 induction h with
 | refl=>exact hr
 | step _ ih=>exact mF hb _ _ _ ih
theorem QF {keep:List Bool}{body:List AV→AH→Kf→Prop}{K:Kf}(hb:MonoF body)(J:Nat→List AV→AH→Prop)
  (round:∀n X H,J n X H→body (AW keep X) H (Mh keep (λX' H'=>∃m,m<n∧J m X' H') K)):∀(n:Nat) {X:List AV} {H:AH},J n X H→lp keep body X H K:=by
 have key:∀n X H,J n X H→gX keep body K (n+1) X H:=by
  intro n
  induction n using Nat.strongRecOn with
  | _ n ih=>
   intro X H hJ;refine hb _ _ _ _ (YM ?_) (round n X H hJ);rintro X' H' ⟨m,hm,hJ'⟩;exact tZ hb (by omega) (ih m hm X' H' hJ')
 exact λn X H hJ=>⟨n+1,key n X H hJ⟩
section
variable {P : Program} {ql al : FuncId→Bool} {dr w : Bool} {ρ : Operand→AV} {H : AH}
theorem Zs {o:Oper}{K1 K2:AV→AH→Prop}(h:Mt P ql al dr ρ H o w K1)(hk:∀r H,K1 r H→K2 r H):Mt P ql al dr ρ H o w K2:=by
 cases ha:BB al o.op with
 | false=>
  rw[aU ha]at h⊢;obtain⟨r,H',hk1,-,h2⟩:=LF h;exact h2 _ (hk _ _ hk1)
 | true=>
  obtain⟨dst,op,type,pos,after,guard⟩:=o;simp only at ha;unfold BB at ha;split at ha
  ·rename_i k args ats
   have ha':BB al (.call {callee:=.value (.func k),args:=args,argTypes:=ats})=true:=ha;unfold Mt bF at h⊢;simp only[ha']at h⊢;generalize hx:ρ (.func k)=x at h⊢;split at h
   ·rename_i f a b
    cases dr with
    | true=>exact h
    | false=>
     simp only at h⊢;cases hg:B4 P f with
     | true=>
      rw[hg]at h;cases w with
      | true=>
       obtain⟨R,hR,hall⟩:=h;exact⟨R,hR,λr H' hr=>hk r H' (hall r H' hr)⟩
      | false=>exact hk _ _ h
     | false=>
      rw[hg]at h;cases w with
      | true=>
       obtain⟨r,hr,h⟩:=h;exact⟨r,hr,hk _ _ h⟩
      | false=>exact hk _ _ h
   ·cases w with
    | true=>exact h.elim
    | false=>
     cases dr with
     | true=>exact h.elim
     | false=>
      simp only at h⊢;cases hg:B4 P 0 with
      | true=>rw[hg]at h;exact hk _ _ h
      | false=>rw[hg]at h;exact hk _ _ h
  ·cases ha
theorem Sw {ops:Array Oper}:∀(l:List Oper) (T:List AV) (H:AH) {K1 K2:List AV→AH→Prop},(∀T H,K1 T H→K2 T H)→LG P ql al dr ops l T H K1→LG P ql al dr ops l T H K2
 | [],T,H,K1,K2,hk,h=>hk _ _ h
 | o::l,T,H,K1,K2,hk,h=>by
  unfold LG at h⊢;obtain⟨w,hw,h,hw2⟩:=Ej h;refine hw2 _ (Zs h λr H' hr=>?_);rw[Gx]at hr⊢;exact Sw l _ _ hk hr
theorem Vo {ops:Array Oper}{H0:AH}{fl:List (Nat×Option Nat)}:∀(l:List Oper) (T:List AV) (H:AH) (lg:List (List AV×AH×AV)) {K1 K2:List AV→AH→Prop},(∀T H,K1 T H→K2 T H)→Mj P ql al ops H0 fl l T H lg K1→Mj P ql al ops H0 fl l T H lg K2
 | [],T,H,lg,K1,K2,hk,h=>by
  obtain⟨h1,h2⟩:=aT h;exact mL (K:=K1 T H) h (hk _ _ h2)
 | o::l,T,H,lg,K1,K2,hk,h=>by
  unfold Mj at h⊢;obtain⟨w,hw,h,hw2⟩:=Ej h;refine hw2 _ (Zs h λr H' hr=>?_);rw[Gx]at hr⊢;exact Vo l _ _ _ hk hr
theorem MonoF.cut {keep:List Bool}{body:List AV→AH→Kf→Prop}(h:MonoF body):MonoF (MM keep body):=by
 intro T H K1 K2 hk hc;obtain⟨hl,hc⟩:=BN.1 hc;exact BN.2 ⟨hl,⟨h _ _ _ _ hk hc.h⟩⟩
theorem MonoF.seq {a b:List AV→AH→Kf→Prop}(ha:MonoF a)(hb:MonoF b):MonoF λT H K=>a T H (Bl b K):=by
 intro T H K1 K2 hk h;refine ha _ _ _ _ ?_ h;intro e T' H' h';cases e with
 | normal=>exact hb _ _ _ _ hk h'
 | _=>exact hk _ _ _ h'
theorem qP {keep:List Bool}{body:List AV→AH→Kf→Prop}(hb:MonoF body){K1 K2:Kf}(hk:∀e T H,K1 e T H→K2 e T H):∀(m:Nat) (X:List AV) (H:AH),gX keep body K1 m X H→gX keep body K2 m X H
 | 0,X,H,h=>h.elim
 | m+1,X,H,h=>by
  refine hb _ _ _ _ ?_ h;intro e T H h';cases e with
  | normal=>
   obtain⟨hl,h1⟩:=BN.1 h';exact BN.2 ⟨hl,qP hb hk m _ _ h1⟩
  | _=>exact hk _ _ _ h'
theorem C3 {fl:C1}{un:Nat→Bool}{kp:Nat→Option (List Bool)}:∀(c:Code) (n:Nat),MonoF (AJ P fl ql al un kp c n)
 | .skip,n,T,H,K1,K2,hk,h=>hk _ _ _ h
 | .label _,n,T,H,K1,K2,hk,h=>hk _ _ _ h
 | .ret,n,T,H,K1,K2,hk,h=>hk _ _ _ h
 | .exit _,n,T,H,K1,K2,hk,h=>hk _ _ _ h
 | .region id ops dr,n,T,H,K1,K2,hk,h=>by
  unfold AJ at h⊢;cases dr with
  | false=>exact Sw _ _ _ (hk .normal) h
  | true=>
   simp only at h⊢;split at h
   ·split at h
    ·obtain⟨hl,h⟩:=BN.1 h
     exact BN.2 ⟨hl,⟨h.h.mono hk⟩⟩
    ·exact h.elim
   ·split at h
    ·exact Sw _ _ _ (hk .normal) h
    ·exact Vo _ _ _ _ (hk .normal) h
 | .seq a b,n,T,H,K1,K2,hk,h=>by
  unfold AJ at h⊢;split at h
  ·exact MonoF.seq (C3 a _) (C3 b _) T H K1 K2 hk h
  ·exact MonoF.seq (C3 a _) (C3 b _).cut T H K1 K2 hk h
 | .cond c a b,n,T,H,K1,K2,hk,h=>by
  unfold AJ bB at h⊢;split at h
  ·rename_i t ht
   cases t with
   | true=>exact C3 a _ T H K1 K2 hk h
   | false=>exact C3 b _ T H K1 K2 hk h
  ·exact h.elim
 | .block id b,n,T,H,K1,K2,hk,h=>by
  unfold AJ at h⊢;refine C3 b _ T H _ _ ?_ h;intro e T' H' h';cases e with
  | exit j=>
   simp only[Bh]at h'⊢;split at h'<;>exact hk _ _ _ h'
  | _=>exact hk _ _ _ h'
 | .loop b,n,T,H,K1,K2,hk,h=>by
  unfold AJ at h⊢;split at h
  ·obtain⟨hl,⟨m,h⟩⟩:=BN.1 h
   exact BN.2 ⟨hl,⟨m,qP (C3 b _) hk m _ _ h⟩⟩
  ·exact h.elim
 | .rangeFunc g ps a b,n,T,H,K1,K2,hk,h=>by
  unfold AJ at h⊢;split at h
  ·split at h
   ·obtain⟨hl,h⟩:=BN.1 h
    exact BN.2 ⟨hl,⟨h.h.mono hk⟩⟩
   ·exact h.elim
  ·exact h.elim
 | .scope _,_,_,_,_,_,_,h=>h.elim
 | .goto _,_,_,_,_,_,_,h=>h.elim
 | .refuse _,_,_,_,_,_,_,h=>h.elim
end
end
section
section
variable {P : Program}
def X9 (P:Program)(call:IS)(ops:Array Oper):List Oper→List AV→AH→Option (List AV×AH)
 | [],T,H=>some (T,H)
 | o::l,T,H=>match B6 ops T o with
  | none=>none
  | some false=>X9 P call ops l (Dj T o.dst AG) H
  | some true=>match CD P (Bu T) H o with
   | some (r,H')=>X9 P call ops l (Dj T o.dst r) H'
   | none=>match Ee (Bu T) o with
    | some (f,args)=>if B4 P f then match call f args H with
      | some (r,H')=>X9 P call ops l (Dj T o.dst r) H'
      | none=>none
     else none
    | none=>none
def ZQ (P:Program)(pl:FuncId→Bool)(pure:Pg)(call:IS):Nat→Code→List AV→AH→Option (Exit×List AV×AH)
 | 0,_,_,_=>none
 | n+1,c,T,H=>match c with
  | .skip=>some (.normal,T,H)
  | .label _=>some (.normal,T,H)
  | .ret=>some (.ret,T,H)
  | .exit id=>some (.exit id,T,H)
  | .region _ ops false=>(X9 P call ops ops.toList T H).map λp=>(.normal,p.1,p.2)
  | .region _ ops true=>(pK P pl pure call ops.toList T H).map λp=>(.normal,p.1,p.2)
  | .seq a b=>match ZQ P pl pure call n a T H with
   | some (.normal,T',H')=>ZQ P pl pure call n b T' H'
   | r=>r
  | .cond x a b=>match Bu T x with
   | .lit (.bool t)=>ZQ P pl pure call n (if t then a else b) T H
   | _=>none
  | .block id b=>match ZQ P pl pure call n b T H with
   | some (.exit id',T',H')=>if id'=id then some (.normal,T',H')else some (.exit id',T',H')
   | r=>r
  | .loop b=>match ZQ P pl pure call n b T H with
   | some (.normal,T',H')=>ZQ P pl pure call n (.loop b) T' H'
   | r=>r
  | _=>none
def tP (P:Program)(pl:FuncId→Bool)(call:IS):Pg:=λf args=>
 if pl f&&B4 P f&&A6 args then match call f args []with
  | some (r,X)=>Kw X 64 r
  | none=>none
 else none
def dN (P:Program)(pl:FuncId→Bool)(call:IS)(fuel:Nat)(f:FuncId)(args:List AV)(H:AH):Option (AV×AH):=
 match P.funcs[f]? with
 | some fn=>match fn.body with
  | some c=>match ZQ P pl (tP P pl call) call fuel c (args++List.replicate (fn.ntmps - args.length) AG) H with
   | some (e,T,H')=>if YL e then(Ry P H' T fn.results.toList).map λxs=>(W0 xs,H')else none
   | none=>none
  | none=>none
 | none=>none
def run (P:Program)(ext:IS)(pl ql:FuncId→Bool)(fuel:Nat):Nat→IS
 | 0=>λ_ _ _=>none
 | n+1=>λf args H=>match ext f args H with
  | some r=>some r
  | none=>if pl f&&A6 args then match dN P ql (run P ext pl ql fuel n) fuel f args []with
    | some (r,X)=>(Kw X 64 r).map (·,H)
    | none=>none
   else dN P ql (run P ext pl ql fuel n) fuel f args H
def Cfg.start (W:World):Cfg:={w:=W,n:=0,μ:=λ_=>(0,0,0),L:=λ_=>False,K:=λ_=>False}
theorem HR.start (W:World):HR (Cfg.start W) []:=⟨rfl,λo x h=>by simp at h,λo o' x x' h=>by simp at h,λo x h=>by simp at h,λb h=>h.elim (λh=>h.elim) (λh=>h.elim),λb h=>h.elim⟩
theorem Evo.below {G':Cfg}{W:World}(h:Evo (Cfg.start W) G'):Below W.heap.size W G'.w:=⟨h.os,h.tape,h.output,h.size,λk hk=>(h.keep k hk (λh=>h)).1⟩
theorem law_calls {f:FuncId}{args:List AV}(h:ACalls P f args [] λr _=>r=.lit (.bool true))(W:World){vs:List Value}(hv:VRs (Cfg.start W) args vs):
  Calls P f vs.toArray W λe W'=>e=.returned (.bool true)∧Below W.heap.size W W':=
 (h (Cfg.start W) vs (HR.start W) hv).mono fun e w' ⟨r,H',G',v,he,hw,hE,hx,_,hr⟩=>by
  subst hr;simp only[VR]at hx;subst hx;rw[← hw];exact⟨he,hE.below⟩
end
end
end Go.Proofs.YtbppnhenlboefaaGreat.Av
section
namespace Go.Proofs.YtbppnhenlboefaaGreat.Av
open Go Go.Proofs.Tryz
theorem own:ownKnob prog.godebug=none:=by kernel_rfl
theorem laidOut:laidOutB prog=true:=by kernel_rfl
abbrev tT:=true
abbrev fF:=false
abbrev KT:=AV→AH→Prop
abbrev u0Z:AV:=.lit (.int .u8 0)
abbrev RT:=List AV→AH→Prop
def AA:C1:=KM []
def BA:Nat→Option (List Bool):=Co []
abbrev Cw (f:FuncId)(args:List AV)(H:AH)(K:KT):Prop:=∃r H',K r H'∧BCall prog f args H r H'
def xL (b:RT→AV→AV→AH→Prop)(L:AV→AV→AH→Prop):Prop:=∀(I:Nat→AV→AV→AH→Prop) (round:∀(n:Nat) (x0 x1:AV) (H:AH) (R:RT),(∀(m:Nat) (y0 y1:AV) (H':AH),m<n→I m y0 y1 H'→R [y0,y1] H')→I n x0 x1 H→b R x0 x1 H) (n:Nat) {x0 x1:AV} {H:AH} (h:I n x0 x1 H),L x0 x1 H
theorem tB {keep:List Bool}{body:List AV→AH→Kf→Prop}{K0:Kf}{b:RT→AV→AV→AH→Prop}(hb:One body)(he:∀(R:RT) (x0 x1:AV) (H:AH),body (AW keep [x0,x1]) H (Mh keep R K0)=b R x0 x1 H):xL b (λx0 x1 H=>lp keep body [x0,x1] H K0):=by
 intro I round n x0 x1 H h;refine L6 hb (LI2 I) ?_ n h;intro n X H h;obtain⟨x0,x1,rfl,h⟩:=h.elim;exact Eq.mpr (he _ x0 x1 H) (round n x0 x1 H (λX H'=>∃m,m<n∧LI2 I m X H') (λm y0 y1 H' hm hi=>⟨m,hm,hi⟩) h)
def uJ (b:RT→AV→AV→AV→AH→Prop)(L:AV→AV→AV→AH→Prop):Prop:=∀(I:Nat→AV→AV→AV→AH→Prop) (round:∀(n:Nat) (x0 x1 x2:AV) (H:AH) (R:RT),(∀(m:Nat) (y0 y1 y2:AV) (H':AH),m<n→I m y0 y1 y2 H'→R [y0,y1,y2] H')→I n x0 x1 x2 H→b R x0 x1 x2 H) (n:Nat) {x0 x1 x2:AV} {H:AH} (h:I n x0 x1 x2 H),L x0 x1 x2 H
theorem kZ {keep:List Bool}{body:List AV→AH→Kf→Prop}{K0:Kf}{b:RT→AV→AV→AV→AH→Prop}(hb:One body)(he:∀(R:RT) (x0 x1 x2:AV) (H:AH),body (AW keep [x0,x1,x2]) H (Mh keep R K0)=b R x0 x1 x2 H):uJ b (λx0 x1 x2 H=>lp keep body [x0,x1,x2] H K0):=by
 intro I round n x0 x1 x2 H h;refine L6 hb (LI3 I) ?_ n h;intro n X H h;obtain⟨x0,x1,x2,rfl,h⟩:=h.elim;exact Eq.mpr (he _ x0 x1 x2 H) (round n x0 x1 x2 H (λX H'=>∃m,m<n∧LI3 I m X H') (λm y0 y1 y2 H' hm hi=>⟨m,hm,hi⟩) h)
def WN (b:RT→AV→AV→AV→AV→AH→Prop)(L:AV→AV→AV→AV→AH→Prop):Prop:=∀(I:Nat→AV→AV→AV→AV→AH→Prop) (round:∀(n:Nat) (x0 x1 x2 x3:AV) (H:AH) (R:RT),(∀(m:Nat) (y0 y1 y2 y3:AV) (H':AH),m<n→I m y0 y1 y2 y3 H'→R [y0,y1,y2,y3] H')→I n x0 x1 x2 x3 H→b R x0 x1 x2 x3 H) (n:Nat) {x0 x1 x2 x3:AV} {H:AH} (h:I n x0 x1 x2 x3 H),L x0 x1 x2 x3 H
theorem Ms {keep:List Bool}{body:List AV→AH→Kf→Prop}{K0:Kf}{b:RT→AV→AV→AV→AV→AH→Prop}(hb:One body)(he:∀(R:RT) (x0 x1 x2 x3:AV) (H:AH),body (AW keep [x0,x1,x2,x3]) H (Mh keep R K0)=b R x0 x1 x2 x3 H):WN b (λx0 x1 x2 x3 H=>lp keep body [x0,x1,x2,x3] H K0):=by
 intro I round n x0 x1 x2 x3 H h;refine L6 hb (LI4 I) ?_ n h;intro n X H h;obtain⟨x0,x1,x2,x3,rfl,h⟩:=h.elim;exact Eq.mpr (he _ x0 x1 x2 x3 H) (round n x0 x1 x2 x3 H (λX H'=>∃m,m<n∧LI4 I m X H') (λm y0 y1 y2 y3 H' hm hi=>⟨m,hm,hi⟩) h)
def nA (b:RT→AV→AV→AV→AV→AV→AH→Prop)(L:AV→AV→AV→AV→AV→AH→Prop):Prop:=∀(I:Nat→AV→AV→AV→AV→AV→AH→Prop) (round:∀(n:Nat) (x0 x1 x2 x3 x4:AV) (H:AH) (R:RT),(∀(m:Nat) (y0 y1 y2 y3 y4:AV) (H':AH),m<n→I m y0 y1 y2 y3 y4 H'→R [y0,y1,y2,y3,y4] H')→I n x0 x1 x2 x3 x4 H→b R x0 x1 x2 x3 x4 H) (n:Nat) {x0 x1 x2 x3 x4:AV} {H:AH} (h:I n x0 x1 x2 x3 x4 H),L x0 x1 x2 x3 x4 H
theorem Xy {keep:List Bool}{body:List AV→AH→Kf→Prop}{K0:Kf}{b:RT→AV→AV→AV→AV→AV→AH→Prop}(hb:One body)(he:∀(R:RT) (x0 x1 x2 x3 x4:AV) (H:AH),body (AW keep [x0,x1,x2,x3,x4]) H (Mh keep R K0)=b R x0 x1 x2 x3 x4 H):nA b (λx0 x1 x2 x3 x4 H=>lp keep body [x0,x1,x2,x3,x4] H K0):=by
 intro I round n x0 x1 x2 x3 x4 H h;refine L6 hb (LI5 I) ?_ n h;intro n X H h;obtain⟨x0,x1,x2,x3,x4,rfl,h⟩:=h.elim;exact Eq.mpr (he _ x0 x1 x2 x3 x4 H) (round n x0 x1 x2 x3 x4 H (λX H'=>∃m,m<n∧LI5 I m X H') (λm y0 y1 y2 y3 y4 H' hm hi=>⟨m,hm,hi⟩) h)
def nM (b:RT→AV→AV→AV→AV→AV→AV→AH→Prop)(L:AV→AV→AV→AV→AV→AV→AH→Prop):Prop:=∀(I:Nat→AV→AV→AV→AV→AV→AV→AH→Prop) (round:∀(n:Nat) (x0 x1 x2 x3 x4 x5:AV) (H:AH) (R:RT),(∀(m:Nat) (y0 y1 y2 y3 y4 y5:AV) (H':AH),m<n→I m y0 y1 y2 y3 y4 y5 H'→R [y0,y1,y2,y3,y4,y5] H')→I n x0 x1 x2 x3 x4 x5 H→b R x0 x1 x2 x3 x4 x5 H) (n:Nat) {x0 x1 x2 x3 x4 x5:AV} {H:AH} (h:I n x0 x1 x2 x3 x4 x5 H),L x0 x1 x2 x3 x4 x5 H
theorem fX {keep:List Bool}{body:List AV→AH→Kf→Prop}{K0:Kf}{b:RT→AV→AV→AV→AV→AV→AV→AH→Prop}(hb:One body)(he:∀(R:RT) (x0 x1 x2 x3 x4 x5:AV) (H:AH),body (AW keep [x0,x1,x2,x3,x4,x5]) H (Mh keep R K0)=b R x0 x1 x2 x3 x4 x5 H):nM b (λx0 x1 x2 x3 x4 x5 H=>lp keep body [x0,x1,x2,x3,x4,x5] H K0):=by
 intro I round n x0 x1 x2 x3 x4 x5 H h;refine L6 hb (LI6 I) ?_ n h;intro n X H h;obtain⟨x0,x1,x2,x3,x4,x5,rfl,h⟩:=h.elim;exact Eq.mpr (he _ x0 x1 x2 x3 x4 x5 H) (round n x0 x1 x2 x3 x4 x5 H (λX H'=>∃m,m<n∧LI6 I m X H') (λm y0 y1 y2 y3 y4 y5 H' hm hi=>⟨m,hm,hi⟩) h)
theorem yK {keep:List Bool}{body:List AV→AH→Kf→Prop}{K0:Kf}{b:RT→AV→AV→AV→AV→AV→AV→AH→Prop}(hb:MonoF body)(he:∀(R:RT) (x0 x1 x2 x3 x4 x5:AV) (H:AH),body (AW keep [x0,x1,x2,x3,x4,x5]) H (Mh keep R K0)=b R x0 x1 x2 x3 x4 x5 H):nM b (λx0 x1 x2 x3 x4 x5 H=>lp keep body [x0,x1,x2,x3,x4,x5] H K0):=by
 intro I round n x0 x1 x2 x3 x4 x5 H h;refine QF hb (LI6 I) ?_ n h;intro n X H h;obtain⟨x0,x1,x2,x3,x4,x5,rfl,h⟩:=h.elim;exact Eq.mpr (he _ x0 x1 x2 x3 x4 x5 H) (round n x0 x1 x2 x3 x4 x5 H (λX H'=>∃m,m<n∧LI6 I m X H') (λm y0 y1 y2 y3 y4 y5 H' hm hi=>⟨m,hm,hi⟩) h)
def xM (b:RT→AV→AV→AV→AV→AV→AV→AV→AH→Prop)(L:AV→AV→AV→AV→AV→AV→AV→AH→Prop):Prop:=∀(I:Nat→AV→AV→AV→AV→AV→AV→AV→AH→Prop) (round:∀(n:Nat) (x0 x1 x2 x3 x4 x5 x6:AV) (H:AH) (R:RT),(∀(m:Nat) (y0 y1 y2 y3 y4 y5 y6:AV) (H':AH),m<n→I m y0 y1 y2 y3 y4 y5 y6 H'→R [y0,y1,y2,y3,y4,y5,y6] H')→I n x0 x1 x2 x3 x4 x5 x6 H→b R x0 x1 x2 x3 x4 x5 x6 H) (n:Nat) {x0 x1 x2 x3 x4 x5 x6:AV} {H:AH} (h:I n x0 x1 x2 x3 x4 x5 x6 H),L x0 x1 x2 x3 x4 x5 x6 H
theorem yM {keep:List Bool}{body:List AV→AH→Kf→Prop}{K0:Kf}{b:RT→AV→AV→AV→AV→AV→AV→AV→AH→Prop}(hb:One body)(he:∀(R:RT) (x0 x1 x2 x3 x4 x5 x6:AV) (H:AH),body (AW keep [x0,x1,x2,x3,x4,x5,x6]) H (Mh keep R K0)=b R x0 x1 x2 x3 x4 x5 x6 H):xM b (λx0 x1 x2 x3 x4 x5 x6 H=>lp keep body [x0,x1,x2,x3,x4,x5,x6] H K0):=by
 intro I round n x0 x1 x2 x3 x4 x5 x6 H h;refine L6 hb (LI7 I) ?_ n h;intro n X H h;obtain⟨x0,x1,x2,x3,x4,x5,x6,rfl,h⟩:=h.elim;exact Eq.mpr (he _ x0 x1 x2 x3 x4 x5 x6 H) (round n x0 x1 x2 x3 x4 x5 x6 H (λX H'=>∃m,m<n∧LI7 I m X H') (λm y0 y1 y2 y3 y4 y5 y6 H' hm hi=>⟨m,hm,hi⟩) h)
theorem yL {keep:List Bool}{body:List AV→AH→Kf→Prop}{K0:Kf}{b:RT→AV→AV→AV→AV→AV→AV→AV→AH→Prop}(hb:MonoF body)(he:∀(R:RT) (x0 x1 x2 x3 x4 x5 x6:AV) (H:AH),body (AW keep [x0,x1,x2,x3,x4,x5,x6]) H (Mh keep R K0)=b R x0 x1 x2 x3 x4 x5 x6 H):xM b (λx0 x1 x2 x3 x4 x5 x6 H=>lp keep body [x0,x1,x2,x3,x4,x5,x6] H K0):=by
 intro I round n x0 x1 x2 x3 x4 x5 x6 H h;refine QF hb (LI7 I) ?_ n h;intro n X H h;obtain⟨x0,x1,x2,x3,x4,x5,x6,rfl,h⟩:=h.elim;exact Eq.mpr (he _ x0 x1 x2 x3 x4 x5 x6 H) (round n x0 x1 x2 x3 x4 x5 x6 H (λX H'=>∃m,m<n∧LI7 I m X H') (λm y0 y1 y2 y3 y4 y5 y6 H' hm hi=>⟨m,hm,hi⟩) h)
def yE (b:RT→AV→AV→AV→AV→AV→AV→AV→AV→AH→Prop)(L:AV→AV→AV→AV→AV→AV→AV→AV→AH→Prop):Prop:=∀(I:Nat→AV→AV→AV→AV→AV→AV→AV→AV→AH→Prop) (round:∀(n:Nat) (x0 x1 x2 x3 x4 x5 x6 x7:AV) (H:AH) (R:RT),(∀(m:Nat) (y0 y1 y2 y3 y4 y5 y6 y7:AV) (H':AH),m<n→I m y0 y1 y2 y3 y4 y5 y6 y7 H'→R [y0,y1,y2,y3,y4,y5,y6,y7] H')→I n x0 x1 x2 x3 x4 x5 x6 x7 H→b R x0 x1 x2 x3 x4 x5 x6 x7 H) (n:Nat) {x0 x1 x2 x3 x4 x5 x6 x7:AV} {H:AH} (h:I n x0 x1 x2 x3 x4 x5 x6 x7 H),L x0 x1 x2 x3 x4 x5 x6 x7 H
theorem wR {keep:List Bool}{body:List AV→AH→Kf→Prop}{K0:Kf}{b:RT→AV→AV→AV→AV→AV→AV→AV→AV→AH→Prop}(hb:One body)(he:∀(R:RT) (x0 x1 x2 x3 x4 x5 x6 x7:AV) (H:AH),body (AW keep [x0,x1,x2,x3,x4,x5,x6,x7]) H (Mh keep R K0)=b R x0 x1 x2 x3 x4 x5 x6 x7 H):yE b (λx0 x1 x2 x3 x4 x5 x6 x7 H=>lp keep body [x0,x1,x2,x3,x4,x5,x6,x7] H K0):=by
 intro I round n x0 x1 x2 x3 x4 x5 x6 x7 H h;refine L6 hb (LI8 I) ?_ n h;intro n X H h;obtain⟨x0,x1,x2,x3,x4,x5,x6,x7,rfl,h⟩:=h.elim;exact Eq.mpr (he _ x0 x1 x2 x3 x4 x5 x6 x7 H) (round n x0 x1 x2 x3 x4 x5 x6 x7 H (λX H'=>∃m,m<n∧LI8 I m X H') (λm y0 y1 y2 y3 y4 y5 y6 y7 H' hm hi=>⟨m,hm,hi⟩) h)
def IC:FuncId→Bool:=ST [188,179,181,23,54,142,148,180,182,145,22,73,170,50,172,141,171,173,98,99,208,55,56,110,144,53,146,201,204,111,223,94,167,169,163,143,184,209,225,74,147]
def yP:FuncId→Bool:=ST [230]
theorem Kn:prog.follows .mixedOrders=true:=by kernel_rfl
theorem fok (fl:C1)(ql:FuncId→Bool)(kp:Nat→Option (List Bool)){f:FuncId}{fn:Func}{args:List AV}{H:AH}{K:KT}{X:Prop}(hf:prog.funcs[f]?=some fn)(h:X)(hc:ZK fl ql fn=true:=by kernel_rfl)(he:N1 prog fl ql Aq Aq kp fn args H K=X:=by kernel_rfl):Cw f args H K:=pM Kn hf hc (Eq.mpr he h)
def LU:Nat→Option (List Bool):=Co [(10,mk 75 0 [1,2,3,6,33,34,35])]
def MX (p:List Bool)(n:Nat):List AV→AH→Kf→Prop:=AJ prog AA IC Aq Aq LU (sub p (AL f188)) n
def KI (x1 x2 x3 x6 x33 x34 x35:AV)(H:AH)(K:KT):Prop:=lp (mk 75 0 [1,2,3,6,33,34,35]) (MX [tT,tT,tT,tT,fF,tT,fF,fF] 11) [x1,x2,x3,x6,x33,x34,x35] H (Bh 0 (Bl (MX [tT,tT,tT,tT,tT] 17) (Bm prog f188.results.toList K)))
def Jj (R10:RT)(x1 x2 x3 x6 x33 x34 x35:AV)(H:AH)(K:KT):Prop:=
 bO (Ap .lss x35 x34) λv0=>
 bB v0 λt1=>bI t1 (
 bO (Bj 2 x33 x35) λv2=>
 bO (Au true 2 H v2) λv3=>
 bH (AD H (.agg [(I 0),(I 0)])) λv4 H5=>
 bS (AT 2 H5 v4 v3) λH6=>
 bO (Ac 0 v4) λv7=>
 bO (Au false 1 H6 v7) λv8=>
 bO (Ap .quo v8 (I 8)) λv9=>
 bC (BCall prog 202 [x3,v9] H6) λv10 H11=>
 bO (Ac 1 x3) λv12=>
 bO (Au false 1 H11 v12) λv13=>
 bO (Bj 9 v13 v10) λv14=>
 bO (Ac 1 v14) λv15=>
 bO (Ac 0 v4) λv16=>
 bO (Au false 1 H11 v16) λv17=>
 bO (Ap .mul v9 (I 8)) λv18=>
 bO (Ap .sub v17 v18) λv19=>
 bO (Lx 8 1 H11 v15 (some v19) none) λv20=>
 bO (Ac 0 v4) λv21=>
 bO (Au false 1 H11 v21) λv22=>
 bO (Ap .sub v22 x1) λv23=>
 bO (AX 1 x2 (some v23) none none) λv24=>
 bO (Ac 1 v4) λv25=>
 bO (Au false 1 H11 v25) λv26=>
 bO (AX 1 v24 none (some v26) none) λv27=>
 bH (Oe 1 H11 v20 v27) λv28 H29=>
 bO (Ap .add x35 (I 1)) λv30=>
 R10 [x1,x2,x3,x6,x33,x34,v30] H29)
 (bO (Ac 0 x3) λv31=>
 bO (Au false 1 H v31) λv32=>
 bO (Ba x2) λv33=>
 bO (Ap .add x1 v33) λv34=>
 bO (amm ZX [v32,v34]) λv35=>
 bO (Ac 0 x3) λv36=>
 bS (AT 1 H v36 v35) λH37=>
 bO (Au true 2 H37 x3) λv38=>
 bS (AT 2 H37 x6 v38) λH39=>
 bO (Au true 2 H39 x6) λv40=>
 K (.tup [v40,(B true)]) H39)
theorem Mq {K:KT}:xM (λR x1 x2 x3 x6 x33 x34 x35 H=>Jj R x1 x2 x3 x6 x33 x34 x35 H K) (λx1 x2 x3 x6 x33 x34 x35 H=>KI x1 x2 x3 x6 x33 x34 x35 H K):=yM (A7 _ _) (λ_ _ _ _ _ _ _ _ _=>by kernel_rfl)
def Qq (a0 a1 a2:AV)(H:AH)(K:KT):Prop:=
 bH (AD H a0) λv0 H1=>
 bH (AD H1 (.agg [(I 0),Ad])) λv2 H3=>
 bO (Au true 2 H3 v0) λv4=>
 bP (PCall prog 54 [v4] H3) λv5=>
 bO (Fb .not v5) λv6=>
 bG v6 false λw7=>
 gO w7 (some a1) λv8=>
 bG v6 false λw9=>
 gO w9 (some a2) λv10=>
 bG v6 false λw11=>
 gO w11 (Ba v10) λv12=>
 bG v6 false λw13=>
 gP w13 (PCall prog 98 [v8,v12] H3) λv14=>
 bG v6 false λw15=>
 gO w15 (Fb .not v14) λv16=>
 bO (A8 v6 (B true) v16) λv17=>
 bB v17 λt18=>bI t18 (
 bO (FK [(I 0),Ad] []) λv19=>
 bS (AT 2 H3 v2 v19) λH20=>
 bO (Au true 2 H20 v2) λv21=>
 K (.tup [v21,(B false)]) H20)
 (bO (Au true 2 H3 v0) λv22=>
 bC (BCall prog 103 [v22] H3) λv23 H24=>
 bS (AT 2 H24 v0 v23) λH25=>
 bO (Ba a2) λv26=>
 bO (Ap .eql v26 (I 0)) λv27=>
 bB v27 λt28=>bI t28 (
 bO (Au true 2 H25 v0) λv29=>
 bS (AT 2 H25 v2 v29) λH30=>
 bO (Au true 2 H30 v2) λv31=>
 K (.tup [v31,(B true)]) H30)
 (bO (Ba a2) λv32=>
 bO (FK [(I 0),(I 0)] [(0,1,a1),(1,1,v32)]) λv33=>
 bP (PCall prog 99 [v33,(I 8)] H25) λv34=>
 bO (Ba v34) λv35=>
 KI a1 a2 v0 v2 v34 v35 (I 0) H25 K))
theorem T5 {a0 a1 a2:AV}{H:AH}{K:KT}(h:Qq a0 a1 a2 H K):Cw 188 [a0,a1,a2] H K:=
 fok AA IC LU func188 h
def MV:Nat→Option (List Bool):=Co [(11,mk 77 0 [1,2,7,41,42,43]),(8,mk 77 0 [1,2,7,41,42,43])]
def Hq (p:List Bool)(n:Nat):List AV→AH→Kf→Prop:=AJ prog AA IC Aq Aq MV (sub p (AL f23)) n
def FG (R8:RT)(x1 x2 x7 x41 x42 x43:AV)(H:AH)(K:KT):Prop:=jn (mk 77 0 [1,2,7,41,42,43]) (Hq [tT,tT,tT,tT,fF,tT,fF,fF,tT,tT,tT] 15) [x1,x2,x7,x41,x42,x43] H (Mh (mk 77 0 [1,2,7,41,42,43]) R8 (Bh 0 (Bl (Hq [tT,tT,tT,tT,tT] 15) (Bm prog f23.results.toList K))))
def MU (x1 x2 x7 x41 x42 x43:AV)(H:AH)(K:KT):Prop:=lp (mk 77 0 [1,2,7,41,42,43]) (Hq [tT,tT,tT,tT,fF,tT,fF,fF] 9) [x1,x2,x7,x41,x42,x43] H (Bh 0 (Bl (Hq [tT,tT,tT,tT,tT] 15) (Bm prog f23.results.toList K)))
def JO (R8:RT)(x1 x2 x7 x41 x42 x43:AV)(H:AH)(K:KT):Prop:=
 bO (Ap .add x43 (I 1)) λv0=>
 R8 [x1,x2,x7,x41,x42,v0] H
theorem Ps (R8:RT)(x1 x2 x7 x41 x42 x43:AV)(H:AH)(K:KT):FG R8 x1 x2 x7 x41 x42 x43 H K=JO R8 x1 x2 x7 x41 x42 x43 H K:=(DG _ _ _ _ _).trans (by kernel_rfl)
def KG (R8:RT)(x1 x2 x7 x41 x42 x43:AV)(H:AH)(K:KT):Prop:=
 bO (Ap .lss x43 x42) λv0=>
 bB v0 λt1=>bI t1 (
 bO (Bj 9 x41 x43) λv2=>
 bO (Au true 9 H v2) λv3=>
 bH (AD H (.agg [(I 0),u0Z,u0Z,u0Z,u0Z,u0Z,u0Z,u0Z,u0Z])) λv4 H5=>
 bS (AT 9 H5 v4 v3) λH6=>
 bO (Ac 0 v4) λv7=>
 bO (Au false 1 H6 v7) λv8=>
 bP (PCall prog 56 [v8] H6) λv9=>
 bO (FK [(I 0),(I 0)] [(0,1,x1),(1,1,x2)]) λv10=>
 bP (PCall prog 55 [v9,v10] H6) λv11=>
 bH (AD H6 (.agg [(I 0),(I 0)])) λv12 H13=>
 bS (AT 2 H13 v12 v11) λH14=>
 bO (Ac 1 v12) λv15=>
 bO (Au false 1 H14 v15) λv16=>
 bO (Ap .gtr v16 (I 0)) λv17=>
 bB v17 λt18=>bI t18 (
 bO (Ac 0 v12) λv19=>
 bO (Au false 1 H14 v19) λv20=>
 bO (Ap .sub v20 x1) λv21=>
 bO (AX 1 x7 (some v21) none none) λv22=>
 bO (Ac 1 v4) λv23=>
 bO (Ac 0 v12) λv24=>
 bO (Au false 1 H14 v24) λv25=>
 bO (Ac 0 v4) λv26=>
 bO (Au false 1 H14 v26) λv27=>
 bO (Ap .mul v27 (I 8)) λv28=>
 bO (Ap .sub v25 v28) λv29=>
 bO (Lx 8 1 H14 v23 (some v29) none) λv30=>
 bO (Ac 1 v12) λv31=>
 bO (Au false 1 H14 v31) λv32=>
 bO (AX 1 v30 none (some v32) none) λv33=>
 bH (Oe 1 H14 v22 v33) λv34 H35=>
 FG R8 x1 x2 x7 x41 x42 x43 H35 K)
 (FG R8 x1 x2 x7 x41 x42 x43 H14 K))
 (K x7 H)
theorem Oi {K:KT}:nM (λR x1 x2 x7 x41 x42 x43 H=>KG R x1 x2 x7 x41 x42 x43 H K) (λx1 x2 x7 x41 x42 x43 H=>MU x1 x2 x7 x41 x42 x43 H K):=fX (A7 _ _) (λ_ _ _ _ _ _ _ _=>by kernel_rfl)
def SJ (a0 a1 a2:AV)(H:AH)(K:KT):Prop:=
 bH (AD H a0) λv0 H1=>
 bO (Au true 2 H1 v0) λv2=>
 bP (PCall prog 54 [v2] H1) λv3=>
 bO (Fb .not v3) λv4=>
 bG v4 false λw5=>
 gO w5 (some a1) λv6=>
 bG v4 false λw7=>
 gO w7 (Ap .lss v6 (I 0)) λv8=>
 bO (A8 v4 (B true) v8) λv9=>
 bG v9 false λw10=>
 gO w10 (some a2) λv11=>
 bG v9 false λw12=>
 gO w12 (Ap .lss v11 (I 0)) λv13=>
 bO (A8 v9 (B true) v13) λv14=>
 bG v14 false λw15=>
 gO w15 (some a2) λv16=>
 bG v14 false λw17=>
 gO w17 (Ap .gtr v16 (I 4096)) λv18=>
 bO (A8 v14 (B true) v18) λv19=>
 bG v19 false λw20=>
 gO w20 (some a1) λv21=>
 bG v19 false λw22=>
 gO w22 (Ac 0 v0) λv23=>
 bG v19 false λw24=>
 gO w24 (Au false 1 H1 v23) λv25=>
 bG v19 false λw26=>
 gO w26 (Ap .geq v21 v25) λv27=>
 bO (A8 v19 (B true) v27) λv28=>
 bB v28 λt29=>bI t29 (
 K Ad H1)
 (bO (Ac 0 v0) λv30=>
 bO (Au false 1 H1 v30) λv31=>
 bO (Ap .sub v31 a1) λv32=>
 bO (amm VP [a2,v32]) λv33=>
 bH (qC 1 1 [u0Z] H1 v33 v33) λv34 H35=>
 bO (Ac 1 v0) λv36=>
 bO (Au false 1 H35 v36) λv37=>
 bO (Ba v37) λv38=>
 MU a1 v33 v34 v37 v38 (I 0) H35 K)
theorem U8 {a0 a1 a2:AV}{H:AH}{K:KT}(h:SJ a0 a1 a2 H K):Cw 23 [a0,a1,a2] H K:=
 fok AA IC MV func23 h
def OH:Nat→Option (List Bool):=Co [(7,mk 40 0 [1,3,15,16,17])]
def Qn (p:List Bool)(n:Nat):List AV→AH→Kf→Prop:=AJ prog AA IC Aq Aq OH (sub p (AL f54)) n
def OG (x1 x3 x15 x16 x17:AV)(H:AH)(K:KT):Prop:=lp (mk 40 0 [1,3,15,16,17]) (Qn [tT,tT,tT,fF,tT,fF,fF] 8) [x1,x3,x15,x16,x17] H (Bh 0 (Bl (Qn [tT,tT,tT,tT] 15) (Bm prog f54.results.toList K)))
def LQ (R7:RT)(x1 x3 x15 x16 x17:AV)(H:AH)(K:KT):Prop:=
 bO (Ap .lss x17 x16) λv0=>
 bB v0 λt1=>bI t1 (
 bO (Bj 9 x15 x17) λv2=>
 bO (Au true 9 H v2) λv3=>
 bH (AD H (.agg [(I 0),u0Z,u0Z,u0Z,u0Z,u0Z,u0Z,u0Z,u0Z])) λv4 H5=>
 bS (AT 9 H5 v4 v3) λH6=>
 bO (Ac 0 v4) λv7=>
 bO (Au false 1 H6 v7) λv8=>
 bO (Ap .leq v8 x3) λv9=>
 bG v9 false λw10=>
 gO w10 (Ac 0 v4) λv11=>
 bG v9 false λw12=>
 gO w12 (Au false 1 H6 v11) λv13=>
 bG v9 false λw14=>
 gO w14 (Ap .geq v13 (I 137438953472)) λv15=>
 bO (A8 v9 (B true) v15) λv16=>
 bG v16 false λw17=>
 gO w17 (Au true 9 H6 v4) λv18=>
 bG v16 false λw19=>
 gO w19 (Ac 0 x1) λv20=>
 bG v16 false λw21=>
 gO w21 (Au false 1 H6 v20) λv22=>
 bG v16 false λw23=>
 gP w23 (PCall prog 110 [v18,v22] H6) λv24=>
 bG v16 false λw25=>
 gO w25 (Fb .not v24) λv26=>
 bO (A8 v16 (B true) v26) λv27=>
 bB v27 λt28=>bI t28 (
 K (B false) H6)
 (bO (Ac 0 v4) λv29=>
 bO (Au false 1 H6 v29) λv30=>
 bO (Ap .add x17 (I 1)) λv31=>
 R7 [x1,v30,x15,x16,v31] H6))
 (K (B true) H)
theorem Pq {K:KT}:nA (λR x1 x3 x15 x16 x17 H=>LQ R x1 x3 x15 x16 x17 H K) (λx1 x3 x15 x16 x17 H=>OG x1 x3 x15 x16 x17 H K):=Xy (A7 _ _) (λ_ _ _ _ _ _ _=>by kernel_rfl)
def U6 (a0:AV)(H:AH)(K:KT):Prop:=
 bH (AD H a0) λv0 H1=>
 bO (Ac 0 v0) λv2=>
 bO (Au false 1 H1 v2) λv3=>
 bO (Ap .lss v3 (I 0)) λv4=>
 bG v4 false λw5=>
 gO w5 (Ac 0 v0) λv6=>
 bG v4 false λw7=>
 gO w7 (Au false 1 H1 v6) λv8=>
 bG v4 false λw9=>
 gO w9 (Ap .gtr v8 (I 1099511627776)) λv10=>
 bO (A8 v4 (B true) v10) λv11=>
 bB v11 λt12=>bI t12 (
 K (B false) H1)
 (bO (Ac 1 v0) λv13=>
 bO (Au false 1 H1 v13) λv14=>
 bO (Ba v14) λv15=>
 OG v0 (I (-1)) v14 v15 (I 0) H1 K)
theorem VE {a0:AV}{H:AH}{K:KT}(h:U6 a0 H K):Cw 54 [a0] H K:=
 fok AA IC OH func54 h
def Fk:Nat→Option (List Bool):=Co [(15,mk 70 0 [1,3,4,5]),(6,mk 70 0 [1,3])]
def Ce (p:List Bool)(n:Nat):List AV→AH→Kf→Prop:=AJ prog AA IC Aq Aq Fk (sub p (AL f145)) n
def Dq (R6:RT)(x1 x3 x4 x5:AV)(H:AH)(K:KT):Prop:=lp (mk 70 0 [1,3,4,5]) (Ce [tT,tT,fF,tT,fF,fF,tT,fF,fF,tT,tT,tT,fF,fF] 16) [x1,x3,x4,x5] H (Bh 2 (Bh 1 (Bl (Ce [tT,tT,fF,tT,fF,fF,tT,tT] 21) (Mh (mk 70 0 [1,3]) R6 (Bh 0 (Bl (Ce [tT,tT,tT] 21) (Bm prog f145.results.toList K)))))))
def Fj (x1 x3:AV)(H:AH)(K:KT):Prop:=lp (mk 70 0 [1,3]) (Ce [tT,tT,fF,tT,fF,fF] 7) [x1,x3] H (Bh 0 (Bl (Ce [tT,tT,tT] 21) (Bm prog f145.results.toList K)))
def Ey (R6:RT)(R15:RT)(x1 x3 x4 x5:AV)(H:AH)(K:KT):Prop:=
 bO (Ap .lss x5 (I 8)) λv0=>
 bB v0 λt1=>bI t1 (
 bO (Ap .mul x4 (I 8)) λv2=>
 bO (Ap .add v2 x5) λv3=>
 bO (Ac 0 x1) λv4=>
 bO (Au false 1 H v4) λv5=>
 bO (Ap .geq v3 v5) λv6=>
 bG v6 true λw7=>
 gO w7 (Ac 1 x1) λv8=>
 bG v6 true λw9=>
 gO w9 (Au false 1 H v8) λv10=>
 bG v6 true λw11=>
 gO w11 (some x3) λv12=>
 bG v6 true λw13=>
 gO w13 (some x5) λv14=>
 bG v6 true λw15=>
 gO w15 (Bj 9 v10 v12) λv16=>
 bG v6 true λw17=>
 gO w17 (Ac 1 v16) λv18=>
 bG v6 true λw19=>
 gO w19 (PK 8 1 v18 v14) λv20=>
 bG v6 true λw21=>
 gO w21 (Au false 1 H v20) λv22=>
 bG v6 true λw23=>
 gO w23 (Ap .neq v22 u0Z) λv24=>
 bO (A8 v6 v24 (B false)) λv25=>
 bB v25 λt26=>bI t26 (
 K (B false) H)
 (bO (Ap .add x5 (I 1)) λv27=>
 R15 [x1,x3,x4,v27] H))
 (bO (Ap .add x3 (I 1)) λv28=>
 R6 [x1,v28] H)
theorem GI (R6:RT){K:KT}:WN (λR x1 x3 x4 x5 H=>Ey R6 R x1 x3 x4 x5 H K) (λx1 x3 x4 x5 H=>Dq R6 x1 x3 x4 x5 H K):=Ms (A7 _ _) (λ_ _ _ _ _ _=>by kernel_rfl)
def EE (R6:RT)(x1 x3:AV)(H:AH)(K:KT):Prop:=
 bO (Ac 1 x1) λv0=>
 bO (Au false 1 H v0) λv1=>
 bO (Ba v1) λv2=>
 bO (Ap .lss x3 v2) λv3=>
 bB v3 λt4=>bI t4 (
 bO (Ac 1 x1) λv5=>
 bO (Au false 1 H v5) λv6=>
 bO (Bj 9 v6 x3) λv7=>
 bO (Ac 0 v7) λv8=>
 bO (Au false 1 H v8) λv9=>
 bO (Ap .lss v9 (I 0)) λv10=>
 bG v10 false λw11=>
 gO w11 (some v9) λv12=>
 bG v10 false λw13=>
 gO w13 (Ap .geq v12 (I 137438953472)) λv14=>
 bO (A8 v10 (B true) v14) λv15=>
 bG v15 false λw16=>
 gO w16 (some x3) λv17=>
 bG v15 false λw18=>
 gO w18 (Ap .gtr v17 (I 0)) λv19=>
 bG v15 false λw20=>
 gO w20 (some v19) λv21=>
 bG v21 true λw22=>
 gO w22 (Ac 1 x1) λv23=>
 bG v21 true λw24=>
 gO w24 (Au false 1 H v23) λv25=>
 bG v21 true λw26=>
 gO w26 (some x3) λv27=>
 bG v21 true λw28=>
 gO w28 (Ap .sub v27 (I 1)) λv29=>
 bG v21 true λw30=>
 gO w30 (Bj 9 v25 v29) λv31=>
 bG v21 true λw32=>
 gO w32 (Ac 0 v31) λv33=>
 bG v21 true λw34=>
 gO w34 (Au false 1 H v33) λv35=>
 bG v21 true λw36=>
 gO w36 (some v9) λv37=>
 bG v21 true λw38=>
 gO w38 (Ap .geq v35 v37) λv39=>
 bG v15 false λw40=>
 gO w40 (A8 v21 v39 (B false)) λv41=>
 bO (A8 v15 (B true) v41) λv42=>
 bB v42 λt43=>bI t43 (
 K (B false) H)
 (Dq R6 x1 x3 v9 (I 0) H K))
 (K (B true) H)
theorem Hl {K:KT}:xL (λR x1 x3 H=>EE R x1 x3 H K) (λx1 x3 H=>Fj x1 x3 H K):=tB (A7 _ _) (λ_ _ _ _=>by kernel_rfl)
def GB (a0:AV)(H:AH)(K:KT):Prop:=
 bH (AD H a0) λv0 H1=>
 bO (Ac 0 v0) λv2=>
 bO (Au false 1 H1 v2) λv3=>
 bO (Ap .lss v3 (I 0)) λv4=>
 bG v4 false λw5=>
 gO w5 (Ac 0 v0) λv6=>
 bG v4 false λw7=>
 gO w7 (Au false 1 H1 v6) λv8=>
 bG v4 false λw9=>
 gO w9 (Ap .gtr v8 (I 1099511627776)) λv10=>
 bO (A8 v4 (B true) v10) λv11=>
 bB v11 λt12=>bI t12 (
 K (B false) H1)
 (Fj v0 (I 0) H1 K)
theorem JB {a0:AV}{H:AH}{K:KT}(h:GB a0 H K):Cw 145 [a0] H K:=
 fok AA IC Fk func145 h
def EW:Nat→Option (List Bool):=Co [(7,mk 47 0 [1,2,3,7,8])]
def Fl (p:List Bool)(n:Nat):List AV→AH→Kf→Prop:=AJ prog AA IC Aq Aq EW (sub p (AL f73)) n
def EV (x1 x2 x3 x7 x8:AV)(H:AH)(K:KT):Prop:=lp (mk 47 0 [1,2,3,7,8]) (Fl [tT,tT,tT,fF,tT,fF,fF] 8) [x1,x2,x3,x7,x8] H (Bh 0 (Bl (Fl [tT,tT,tT,tT] 11) (Bm prog f73.results.toList K)))
def Ez (R7:RT)(x1 x2 x3 x7 x8:AV)(H:AH)(K:KT):Prop:=
 bO (Ap .lss x8 x2) λv0=>
 bG v0 true λw1=>
 gO w1 (some x1) λv2=>
 bG v0 true λw3=>
 gO w3 (Ac 0 x3) λv4=>
 bG v0 true λw5=>
 gO w5 (Au false 1 H v4) λv6=>
 bG v0 true λw7=>
 gO w7 (some x8) λv8=>
 bG v0 true λw9=>
 gO w9 (Ap .sub v6 v8) λv10=>
 bG v0 true λw11=>
 gO w11 (Ap .lss v2 v10) λv12=>
 bO (A8 v0 v12 (B false)) λv13=>
 bB v13 λt14=>bI t14 (
 bO (Au true 2 H x3) λv15=>
 bO (Ap .add x1 x8) λv16=>
 bP (PCall prog 146 [v15,v16] H) λv17=>
 bH (Cr H 1 1 (Be [u0Z] 1) [(0,1,v17)]) λv18 H19=>
 bH (Mm 1 1 H19 x7 v18) λv20 H21=>
 bO (Ap .add x8 (I 1)) λv22=>
 R7 [x1,x2,x3,v20,v22] H21)
 (K x7 H)
theorem GJ {K:KT}:nA (λR x1 x2 x3 x7 x8 H=>Ez R x1 x2 x3 x7 x8 H K) (λx1 x2 x3 x7 x8 H=>EV x1 x2 x3 x7 x8 H K):=Xy (A7 _ _) (λ_ _ _ _ _ _ _=>by kernel_rfl)
def Gc (a0 a1 a2:AV)(H:AH)(K:KT):Prop:=
 bH (AD H a0) λv0 H1=>
 bO (Au true 2 H1 v0) λv2=>
 bP (PCall prog 145 [v2] H1) λv3=>
 bO (Fb .not v3) λv4=>
 bG v4 false λw5=>
 gO w5 (some a1) λv6=>
 bG v4 false λw7=>
 gO w7 (Ap .lss v6 (I 0)) λv8=>
 bO (A8 v4 (B true) v8) λv9=>
 bG v9 false λw10=>
 gO w10 (some a2) λv11=>
 bG v9 false λw12=>
 gO w12 (Ap .lss v11 (I 0)) λv13=>
 bO (A8 v9 (B true) v13) λv14=>
 bG v14 false λw15=>
 gO w15 (some a2) λv16=>
 bG v14 false λw17=>
 gO w17 (Ap .gtr v16 (I 4096)) λv18=>
 bO (A8 v14 (B true) v18) λv19=>
 bB v19 λt20=>bI t20 (
 K Ad H1)
 (EV a1 a2 v0 Ad (I 0) H1 K)
theorem Jy {a0 a1 a2:AV}{H:AH}{K:KT}(h:Gc a0 a1 a2 H K):Cw 73 [a0,a1,a2] H K:=
 fok AA IC EW func73 h
def Jg:Nat→Option (List Bool):=Co [(11,mk 50 0 [4,8]),(7,mk 50 0 [1,2,3,4,8,10])]
def Gw (p:List Bool)(n:Nat):List AV→AH→Kf→Prop:=AJ prog AA IC Aq Aq Jg (sub p (AL f170)) n
def DN (x4 x8:AV)(H:AH)(K:KT):Prop:=jn (mk 50 0 [4,8]) (Gw [tT,tT,tT,tT,tT] 13) [x4,x8] H (Bm prog f170.results.toList K)
def Jf (x1 x2 x3 x4 x8 x10:AV)(H:AH)(K:KT):Prop:=lp (mk 50 0 [1,2,3,4,8,10]) (Gw [tT,tT,tT,fF,tT,fF,fF] 8) [x1,x2,x3,x4,x8,x10] H (Bh 0 (Bl (Gw [tT,tT,tT,tT] 11) (Bm prog f170.results.toList K)))
def GO (x4 x8:AV)(H:AH)(K:KT):Prop:=
 bO (Au true 2 H x4) λv0=>
 bS (AT 2 H x8 v0) λH1=>
 bO (Au true 2 H1 x8) λv2=>
 K (.tup [v2,(B true)]) H1
theorem L0 (x4 x8:AV)(H:AH)(K:KT):DN x4 x8 H K=GO x4 x8 H K:=(DG _ _ _ _ _).trans (by kernel_rfl)
def HC (R7:RT)(x1 x2 x3 x4 x8 x10:AV)(H:AH)(K:KT):Prop:=
 bO (Ap .add x1 x2) λv0=>
 bO (Ap .sub v0 (I 1)) λv1=>
 bO (Ap .quo v1 (I 8)) λv2=>
 bO (Ap .leq x10 v2) λv3=>
 bB v3 λt4=>bI t4 (
 bC (BCall prog 202 [x4,x10] H) λv5 H6=>
 bO (Ap .add x10 (I 1)) λv7=>
 R7 [x1,x2,x3,x4,x8,v7] H6)
 (bO (Fb .not x3) λv8=>
 bB v8 λt9=>bI t9 (
 bO (Ac 0 x4) λv10=>
 bO (Au false 1 H v10) λv11=>
 bO (Ap .add x1 x2) λv12=>
 bO (amm ZX [v11,v12]) λv13=>
 bO (Ac 0 x4) λv14=>
 bS (AT 1 H v14 v13) λH15=>
 DN x4 x8 H15 K)
 (DN x4 x8 H K))
theorem KF {K:KT}:nM (λR x1 x2 x3 x4 x8 x10 H=>HC R x1 x2 x3 x4 x8 x10 H K) (λx1 x2 x3 x4 x8 x10 H=>Jf x1 x2 x3 x4 x8 x10 H K):=fX (A7 _ _) (λ_ _ _ _ _ _ _ _=>by kernel_rfl)
def LP (a0 a1 a2 a3:AV)(H:AH)(K:KT):Prop:=
 bH (AD H a0) λv0 H1=>
 bH (AD H1 (.agg [(I 0),Ad])) λv2 H3=>
 bO (Au true 2 H3 v0) λv4=>
 bP (PCall prog 54 [v4] H3) λv5=>
 bO (Fb .not v5) λv6=>
 bG v6 false λw7=>
 gO w7 (some a1) λv8=>
 bG v6 false λw9=>
 gO w9 (some a2) λv10=>
 bG v6 false λw11=>
 gP w11 (PCall prog 201 [v8,v10] H3) λv12=>
 bG v6 false λw13=>
 gO w13 (Fb .not v12) λv14=>
 bO (A8 v6 (B true) v14) λv15=>
 bG v15 false λw16=>
 gO w16 (some a2) λv17=>
 bG v15 false λw18=>
 gO w18 (Ap .gtr v17 (I 32768)) λv19=>
 bO (A8 v15 (B true) v19) λv20=>
 bB v20 λt21=>bI t21 (
 bO (FK [(I 0),Ad] []) λv22=>
 bS (AT 2 H3 v2 v22) λH23=>
 bO (Au true 2 H23 v2) λv24=>
 K (.tup [v24,(B false)]) H23)
 (bO (Au true 2 H3 v0) λv25=>
 bC (BCall prog 103 [v25] H3) λv26 H27=>
 bS (AT 2 H27 v0 v26) λH28=>
 bO (Ap .quo a1 (I 8)) λv29=>
 Jf a1 a2 a3 v0 v2 v29 H28 K)
theorem Pp {a0 a1 a2 a3:AV}{H:AH}{K:KT}(h:LP a0 a1 a2 a3 H K):Cw 170 [a0,a1,a2,a3] H K:=
 fok AA IC Jg func170 h
def Ji:Nat→Option (List Bool):=Co [(9,mk 45 0 [2,3,4,30,31])]
def JQ (p:List Bool)(n:Nat):List AV→AH→Kf→Prop:=AJ prog AA IC Aq Aq Ji (sub p (AL f50)) n
def Jh (x2 x3 x4 x30 x31:AV)(H:AH)(K:KT):Prop:=lp (mk 45 0 [2,3,4,30,31]) (JQ [tT,tT,tT,tT,tT,fF,tT,fF,fF] 10) [x2,x3,x4,x30,x31] H (Bh 0 (Bl (JQ [tT,tT,tT,tT,tT,tT] 14) (Bm prog f50.results.toList K)))
def HD (R9:RT)(x2 x3 x4 x30 x31:AV)(H:AH)(K:KT):Prop:=
 bO (Ap .lss x31 x30) λv0=>
 bB v0 λt1=>bI t1 (
 bO (Ac 1 x2) λv2=>
 bO (Au false 1 H v2) λv3=>
 bO (Bj 9 v3 x31) λv4=>
 bO (Au false 1 H x3) λv5=>
 bO (Au false 1 H x3) λv6=>
 bO (Ap .sub (I 1099511627776) v6) λv7=>
 bO (FK [(I 0),(I 0)] [(0,1,v5),(1,1,v7)]) λv8=>
 bC (BCall prog 106 [v4,v8] H) λv9 H10=>
 bO (Ap .add x31 (I 1)) λv11=>
 R9 [x2,x3,x4,x30,v11] H10)
 (bO (Au true 2 H x2) λv12=>
 bS (AT 2 H x4 v12) λH13=>
 bO (Au true 2 H13 x4) λv14=>
 K (.tup [v14,(B true)]) H13)
theorem KH {K:KT}:nA (λR x2 x3 x4 x30 x31 H=>HD R x2 x3 x4 x30 x31 H K) (λx2 x3 x4 x30 x31 H=>Jh x2 x3 x4 x30 x31 H K):=Xy (A7 _ _) (λ_ _ _ _ _ _ _=>by kernel_rfl)
def LT (a0 a1:AV)(H:AH)(K:KT):Prop:=
 bH (AD H a0) λv0 H1=>
 bH (AD H1 a1) λv2 H3=>
 bH (AD H3 (.agg [(I 0),Ad])) λv4 H5=>
 bO (Au true 2 H5 v0) λv6=>
 bP (PCall prog 54 [v6] H5) λv7=>
 bO (Fb .not v7) λv8=>
 bG v8 false λw9=>
 gO w9 (Au false 1 H5 v2) λv10=>
 bG v8 false λw11=>
 gO w11 (Ap .lss v10 (I 0)) λv12=>
 bO (A8 v8 (B true) v12) λv13=>
 bG v13 false λw14=>
 gO w14 (Au false 1 H5 v2) λv15=>
 bG v13 false λw16=>
 gO w16 (Ap .gtr v15 (I 1099511627776)) λv17=>
 bO (A8 v13 (B true) v17) λv18=>
 bB v18 λt19=>bI t19 (
 bO (FK [(I 0),Ad] []) λv20=>
 bS (AT 2 H5 v4 v20) λH21=>
 bO (Au true 2 H21 v4) λv22=>
 K (.tup [v22,(B false)]) H21)
 (bO (Au true 2 H5 v0) λv23=>
 bC (BCall prog 103 [v23] H5) λv24 H25=>
 bS (AT 2 H25 v0 v24) λH26=>
 bO (Au false 1 H26 v2) λv27=>
 bO (Ac 0 v0) λv28=>
 bS (AT 1 H26 v28 v27) λH29=>
 bO (Ac 1 v0) λv30=>
 bO (Au false 1 H29 v30) λv31=>
 bC (BCall prog 104 [v31,(.fn (.func 105) [] [v2])] H29) λv32 H33=>
 bO (Ac 1 v0) λv34=>
 bS (AT 1 H33 v34 v32) λH35=>
 bO (Ac 1 v0) λv36=>
 bO (Au false 1 H35 v36) λv37=>
 bO (Ba v37) λv38=>
 Jh v0 v2 v4 v38 (I 0) H35 K)
theorem Pt {a0 a1:AV}{H:AH}{K:KT}(h:LT a0 a1 H K):Cw 50 [a0,a1] H K:=
 fok AA IC Ji func50 h
def LS:Nat→Option (List Bool):=Co [(9,mk 44 0 [3,6,8,32,33])]
def MT (p:List Bool)(n:Nat):List AV→AH→Kf→Prop:=AJ prog AA IC Aq Aq LS (sub p (AL f172)) n
def LR (x3 x6 x8 x32 x33:AV)(H:AH)(K:KT):Prop:=lp (mk 44 0 [3,6,8,32,33]) (MT [tT,tT,tT,tT,tT,fF,tT,fF,fF] 10) [x3,x6,x8,x32,x33] H (Bh 0 (Bl (MT [tT,tT,tT,tT,tT,tT] 14) (Bm prog f172.results.toList K)))
def JN (R9:RT)(x3 x6 x8 x32 x33:AV)(H:AH)(K:KT):Prop:=
 bO (Ap .lss x33 x32) λv0=>
 bB v0 λt1=>bI t1 (
 bO (Ac 1 x3) λv2=>
 bO (Au false 1 H v2) λv3=>
 bO (Bj 9 v3 x33) λv4=>
 bO (Au true 2 H x8) λv5=>
 bC (BCall prog 106 [v4,v5] H) λv6 H7=>
 bO (Ap .add x33 (I 1)) λv8=>
 R9 [x3,x6,x8,x32,v8] H7)
 (bO (Au true 2 H x3) λv9=>
 bS (AT 2 H x6 v9) λH10=>
 bO (Au true 2 H10 x6) λv11=>
 K (.tup [v11,(B true)]) H10)
theorem MS {K:KT}:nA (λR x3 x6 x8 x32 x33 H=>JN R x3 x6 x8 x32 x33 H K) (λx3 x6 x8 x32 x33 H=>LR x3 x6 x8 x32 x33 H K):=Xy (A7 _ _) (λ_ _ _ _ _ _ _=>by kernel_rfl)
def Qo (a0 a1 a2:AV)(H:AH)(K:KT):Prop:=
 bH (AD H a0) λv0 H1=>
 bH (AD H1 (.agg [(I 0),Ad])) λv2 H3=>
 bO (Au true 2 H3 v0) λv4=>
 bP (PCall prog 54 [v4] H3) λv5=>
 bO (Fb .not v5) λv6=>
 bG v6 false λw7=>
 gO w7 (some a1) λv8=>
 bG v6 false λw9=>
 gO w9 (some a2) λv10=>
 bG v6 false λw11=>
 gP w11 (PCall prog 201 [v8,v10] H3) λv12=>
 bG v6 false λw13=>
 gO w13 (Fb .not v12) λv14=>
 bO (A8 v6 (B true) v14) λv15=>
 bB v15 λt16=>bI t16 (
 bO (FK [(I 0),Ad] []) λv17=>
 bS (AT 2 H3 v2 v17) λH18=>
 bO (Au true 2 H18 v2) λv19=>
 K (.tup [v19,(B false)]) H18)
 (bO (Au true 2 H3 v0) λv20=>
 bC (BCall prog 103 [v20] H3) λv21 H22=>
 bS (AT 2 H22 v0 v21) λH23=>
 bO (FK [(I 0),(I 0)] [(0,1,a1),(1,1,a2)]) λv24=>
 bH (AD H23 (.agg [(I 0),(I 0)])) λv25 H26=>
 bS (AT 2 H26 v25 v24) λH27=>
 bO (Ac 1 v0) λv28=>
 bO (Au false 1 H27 v28) λv29=>
 bC (BCall prog 104 [v29,(.fn (.func 203) [] [v25])] H27) λv30 H31=>
 bO (Ac 1 v0) λv32=>
 bS (AT 1 H31 v32 v30) λH33=>
 bO (Ac 1 v0) λv34=>
 bO (Au false 1 H33 v34) λv35=>
 bO (Ba v35) λv36=>
 LR v0 v2 v25 v36 (I 0) H33 K)
theorem T4 {a0 a1 a2:AV}{H:AH}{K:KT}(h:Qo a0 a1 a2 H K):Cw 172 [a0,a1,a2] H K:=
 fok AA IC LS func172 h
def SI (a0 a1:AV)(H:AH)(K:KT):Prop:=
 bO (Ap .geq a0 (I 0)) λv0=>
 bG v0 true λw1=>
 gO w1 (some a1) λv2=>
 bG v0 true λw3=>
 gO w3 (Ap .leq v2 (I 4096)) λv4=>
 bO (A8 v0 v4 (B false)) λv5=>
 bG v5 true λw6=>
 gO w6 (some a0) λv7=>
 bG v5 true λw8=>
 gO w8 (some a1) λv9=>
 bG v5 true λw10=>
 gO w10 (Ap .sub (I 1099511627776) v9) λv11=>
 bG v5 true λw12=>
 gO w12 (Ap .leq v7 v11) λv13=>
 bO (A8 v5 v13 (B false)) λv14=>
 K v14 H
theorem U5 {a0 a1:AV}{H:AH}{K:KT}(h:SI a0 a1 H K):Cw 98 [a0,a1] H K:=
 fok AA IC BA func98 h
def RP:C1:=KM [(1,[(1,some 4)])]
def OI (a0:AV)(H:AH)(K:KT):Prop:=
 bH (AD H a0) λv0 H1=>
 bH (AD H1 (.agg [(I 0),Ad])) λv2 H3=>
 bO (Ac 0 v0) λv4=>
 bO (Au false 1 H3 v4) λv5=>
 bO (Ac 1 v0) λv6=>
 bO (Au false 1 H3 v6) λv7=>
 bC (BCall prog 95 [v7] H3) λv8 H9=>
 bO (FK [(I 0),Ad] [(0,1,v5),(1,1,v8)]) λv10=>
 bS (AT 2 H9 v2 v10) λH11=>
(Au false 1 H9 v4=some v5)∧
 bO (Au true 2 H11 v2) λv12=>
 K v12 H11
theorem RQ {a0:AV}{H:AH}{K:KT}(h:OI a0 H K):Cw 103 [a0] H K:=
 fok RP IC BA func103 h
def QO:Nat→Option (List Bool):=Co [(6,mk 48 0 [1,2,5])]
def Ta (p:List Bool)(n:Nat):List AV→AH→Kf→Prop:=AJ prog AA IC Aq Aq QO (sub p (AL f99)) n
def QM (x1 x2 x5:AV)(H:AH)(K:KT):Prop:=lp (mk 48 0 [1,2,5]) (Ta [tT,tT,tT,fF,fF,fF] 7) [x1,x2,x5] H (Bh 0 (Bl (Ta [tT,tT,tT,tT] 11) (Bm prog f99.results.toList K)))
def Nv (R6:RT)(x1 x2 x5:AV)(H:AH)(K:KT):Prop:=
 bO (Ac 1 x2) λv0=>
 bO (Au false 1 H v0) λv1=>
 bO (Ap .gtr v1 (I 0)) λv2=>
 bB v2 λt3=>bI t3 (
 bO (Ac 1 x2) λv4=>
 bO (Au false 1 H v4) λv5=>
 bO (Ac 0 x2) λv6=>
 bO (Au false 1 H v6) λv7=>
 bO (Ap .rem v7 x1) λv8=>
 bO (Ap .sub x1 v8) λv9=>
 bO (amm VP [v5,v9]) λv10=>
 bO (Ac 0 x2) λv11=>
 bO (Au false 1 H v11) λv12=>
 bO (FK [(I 0),(I 0)] [(0,1,v12),(1,1,v10)]) λv13=>
 bH (Cr H 2 1 (Be [(I 0),(I 0)] 1) [(0,2,v13)]) λv14 H15=>
 bH (Mm 2 16 H15 x5 v14) λv16 H17=>
 bO (Ac 0 x2) λv18=>
 bO (Au false 1 H17 v18) λv19=>
 bO (Ap .add v19 v10) λv20=>
 bO (Ac 1 x2) λv21=>
 bO (Au false 1 H17 v21) λv22=>
 bO (Ap .sub v22 v10) λv23=>
 bO (FK [(I 0),(I 0)] [(0,1,v20),(1,1,v23)]) λv24=>
 bS (AT 2 H17 x2 v24) λH25=>
 R6 [x1,x2,v16] H25)
 (K x5 H)
theorem QN {K:KT}:uJ (λR x1 x2 x5 H=>Nv R x1 x2 x5 H K) (λx1 x2 x5 H=>QM x1 x2 x5 H K):=kZ (A7 _ _) (λ_ _ _ _ _=>by kernel_rfl)
def W4 (a0 a1:AV)(H:AH)(K:KT):Prop:=
 bH (AD H a0) λv0 H1=>
 bO (Au true 2 H1 v0) λv2=>
 bP (PCall prog 111 [v2] H1) λv3=>
 bO (Fb .not v3) λv4=>
 bG v4 false λw5=>
 gO w5 (Ac 1 v0) λv6=>
 bG v4 false λw7=>
 gO w7 (Au false 1 H1 v6) λv8=>
 bG v4 false λw9=>
 gO w9 (Ap .gtr v8 (I 4096)) λv10=>
 bO (A8 v4 (B true) v10) λv11=>
 bG v11 false λw12=>
 gO w12 (some a1) λv13=>
 bG v11 false λw14=>
 gO w14 (Ap .lss v13 (I 1)) λv15=>
 bO (A8 v11 (B true) v15) λv16=>
 bB v16 λt17=>bI t17 (
 K Ad H1)
 (QM a1 v0 Ad H1 K)
theorem X0 {a0 a1:AV}{H:AH}{K:KT}(h:W4 a0 a1 H K):Cw 99 [a0,a1] H K:=
 fok AA IC QO func99 h
def Nb:Nat→Option (List Bool):=Co [(2,mk 31 0 [5])]
def VG (p:List Bool)(n:Nat):List AV→AH→Kf→Prop:=AJ prog AA IC Aq Aq Nb (sub p (AL f202)) n
def Jk (x5:AV)(H:AH)(K:KT):Prop:=jn (mk 31 0 [5]) (VG [tT,tT,tT] 4) [x5] H (Bm prog f202.results.toList K)
def Ha (x5:AV)(H:AH)(K:KT):Prop:=
 K x5 H
theorem JT (x5:AV)(H:AH)(K:KT):Jk x5 H K=Ha x5 H K:=(DG _ _ _ _ _).trans (by kernel_rfl)
def SL (a0 a1:AV)(H:AH)(K:KT):Prop:=
 bO (Ai a0) λv0=>
 bO (Ac 1 v0) λv1=>
 bO (Au false 1 H v1) λv2=>
 bP (PCall prog 208 [v2,a1] H) λv3=>
 bO (Aj v3 0) λv4=>
 bO (Aj v3 1) λv5=>
 bO (Fb .not v5) λv6=>
 bB v6 λt7=>bI t7 (
 bO (Ai a0) λv8=>
 bO (Ac 1 v8) λv9=>
 bO (Au false 1 H v9) λv10=>
 bO (FK [(I 0),u0Z,u0Z,u0Z,u0Z,u0Z,u0Z,u0Z,u0Z] [(0,1,a1)]) λv11=>
 bH (Cr H 9 1 (Be [(I 0),u0Z,u0Z,u0Z,u0Z,u0Z,u0Z,u0Z,u0Z] 1) [(0,9,v11)]) λv12 H13=>
 bC (BCall prog 222 [v10,v4,v12] H13) λv14 H15=>
 bO (Ai a0) λv16=>
 bO (Ac 1 v16) λv17=>
 bS (AT 1 H15 v17 v14) λH18=>
 Jk v4 H18 K)
 (Jk v4 H K)
theorem UB {a0 a1:AV}{H:AH}{K:KT}(h:SL a0 a1 H K):Cw 202 [a0,a1] H K:=
 fok AA IC Nb func202 h
def Qs (a0 a1:AV)(H:AH)(K:KT):Prop:=
 bP (PCall prog 223 [a0,a1,(.fn (.func 224) [] [])] H) λv0=>
 bO (Aj v0 0) λv1=>
 bO (Aj v0 1) λv2=>
 K (.tup [v1,v2]) H
theorem T7 {a0 a1:AV}{H:AH}{K:KT}(h:Qs a0 a1 H K):Cw 208 [a0,a1] H K:=
 fok AA IC BA func208 h
def Za (a0 a1:AV)(H:AH)(K:KT):Prop:=
 bH (AD H a0) λv0 H1=>
 bH (AD H1 a1) λv2 H3=>
 bH (AD H3 (.agg [(I 0),(I 0)])) λv4 H5=>
 bO (Au true 2 H5 v0) λv6=>
 bP (PCall prog 111 [v6] H5) λv7=>
 bO (Fb .not v7) λv8=>
 bG v8 false λw9=>
 gO w9 (Au true 2 H5 v2) λv10=>
 bG v8 false λw11=>
 gP w11 (PCall prog 111 [v10] H5) λv12=>
 bG v8 false λw13=>
 gO w13 (Fb .not v12) λv14=>
 bO (A8 v8 (B true) v14) λv15=>
 bB v15 λt16=>bI t16 (
 bO (FK [(I 0),(I 0)] []) λv17=>
 bS (AT 2 H5 v4 v17) λH18=>
 bO (Au true 2 H18 v4) λv19=>
 K v19 H18)
 (bO (Ac 0 v0) λv20=>
 bO (Au false 1 H5 v20) λv21=>
 bO (Ac 0 v2) λv22=>
 bO (Au false 1 H5 v22) λv23=>
 bO (amm ZX [v21,v23]) λv24=>
 bO (Ac 0 v0) λv25=>
 bO (Au false 1 H5 v25) λv26=>
 bO (Ac 1 v0) λv27=>
 bO (Au false 1 H5 v27) λv28=>
 bO (Ap .add v26 v28) λv29=>
 bO (Ac 0 v2) λv30=>
 bO (Au false 1 H5 v30) λv31=>
 bO (Ac 1 v2) λv32=>
 bO (Au false 1 H5 v32) λv33=>
 bO (Ap .add v31 v33) λv34=>
 bO (amm VP [v29,v34]) λv35=>
 bO (Ap .geq v24 v35) λv36=>
 bB v36 λt37=>bI t37 (
 bO (FK [(I 0),(I 0)] []) λv38=>
 bS (AT 2 H5 v4 v38) λH39=>
 bO (Au true 2 H39 v4) λv40=>
 K v40 H39)
 (bO (Ap .sub v35 v24) λv41=>
 bO (FK [(I 0),(I 0)] [(0,1,v24),(1,1,v41)]) λv42=>
 bS (AT 2 H5 v4 v42) λH43=>
 bO (Au true 2 H43 v4) λv44=>
 K v44 H43))
theorem Zb {a0 a1:AV}{H:AH}{K:KT}(h:Za a0 a1 H K):Cw 55 [a0,a1] H K:=
 fok AA IC BA func55 h
def Qu (a0:AV)(H:AH)(K:KT):Prop:=
 bH (AD H (.agg [(I 0),(I 0)])) λv0 H1=>
 bO (Ap .mul a0 (I 8)) λv2=>
 bO (FK [(I 0),(I 0)] [(0,1,v2),(1,1,(I 8))]) λv3=>
 bS (AT 2 H1 v0 v3) λH4=>
 bO (Au true 2 H4 v0) λv5=>
 K v5 H4
theorem T8 {a0:AV}{H:AH}{K:KT}(h:Qu a0 H K):Cw 56 [a0] H K:=
 fok AA IC BA func56 h
def LW:Nat→Option (List Bool):=Co [(3,mk 25 0 [1,2,8,9])]
def MZ (p:List Bool)(n:Nat):List AV→AH→Kf→Prop:=AJ prog AA IC Aq Aq LW (sub p (AL f110)) n
def LV (x1 x2 x8 x9:AV)(H:AH)(K:KT):Prop:=lp (mk 25 0 [1,2,8,9]) (MZ [tT,fF,tT,fF,fF] 4) [x1,x2,x8,x9] H (Bh 0 (Bl (MZ [tT,tT] 10) (Bm prog f110.results.toList K)))
def JS (R3:RT)(x1 x2 x8 x9:AV)(H:AH)(K:KT):Prop:=
 bO (Ap .lss x9 (I 8)) λv0=>
 bB v0 λt1=>bI t1 (
 bO (iZ false 1 8 1 x8 x9) λv2=>
 bO (Ap .neq v2 u0Z) λv3=>
 bG v3 true λw4=>
 gO w4 (Ac 0 x2) λv5=>
 bG v3 true λw6=>
 gO w6 (Au false 1 H v5) λv7=>
 bG v3 true λw8=>
 gO w8 (Ap .mul v7 (I 8)) λv9=>
 bG v3 true λw10=>
 gO w10 (some x9) λv11=>
 bG v3 true λw12=>
 gO w12 (Ap .add v9 v11) λv13=>
 bG v3 true λw14=>
 gO w14 (some x1) λv15=>
 bG v3 true λw16=>
 gO w16 (Ap .geq v13 v15) λv17=>
 bO (A8 v3 v17 (B false)) λv18=>
 bB v18 λt19=>bI t19 (
 K (B false) H)
 (bO (Ap .add x9 (I 1)) λv20=>
 R3 [x1,x2,x8,v20] H))
 (K (B true) H)
theorem MY {K:KT}:WN (λR x1 x2 x8 x9 H=>JS R x1 x2 x8 x9 H K) (λx1 x2 x8 x9 H=>LV x1 x2 x8 x9 H K):=Ms (A7 _ _) (λ_ _ _ _ _ _=>by kernel_rfl)
def Qr (a0 a1:AV)(H:AH)(K:KT):Prop:=
 bH (AD H a0) λv0 H1=>
 bO (Ac 1 v0) λv2=>
 bO (Au true 8 H1 v2) λv3=>
 LV a1 v0 v3 (I 0) H1 K
theorem T6 {a0 a1:AV}{H:AH}{K:KT}(h:Qr a0 a1 H K):Cw 110 [a0,a1] H K:=
 fok AA IC LW func110 h
def Ix:Nat→Option (List Bool):=Co [(3,mk 22 0 [1,2,5])]
def Jz (p:List Bool)(n:Nat):List AV→AH→Kf→Prop:=AJ prog AA IC Aq Aq Ix (sub p (AL f144)) n
def Iw (x1 x2 x5:AV)(H:AH)(K:KT):Prop:=lp (mk 22 0 [1,2,5]) (Jz [tT,fF,tT,fF,fF] 4) [x1,x2,x5] H (Bh 0 (Bl (Jz [tT,tT] 9) (Bm prog f144.results.toList K)))
def GV (R3:RT)(x1 x2 x5:AV)(H:AH)(K:KT):Prop:=
 bO (Ac 1 x2) λv0=>
 bO (Au false 1 H v0) λv1=>
 bO (Ba v1) λv2=>
 bO (Ap .lss x5 v2) λv3=>
 bB v3 λt4=>bI t4 (
 bO (Ac 1 x2) λv5=>
 bO (Au false 1 H v5) λv6=>
 bO (Bj 9 v6 x5) λv7=>
 bO (Ac 0 v7) λv8=>
 bO (Au false 1 H v8) λv9=>
 bO (Ap .eql v9 x1) λv10=>
 bB v10 λt11=>bI t11 (
 K x5 H)
 (bO (Ap .add x5 (I 1)) λv12=>
 R3 [x1,x2,v12] H))
 (K (I (-1)) H)
theorem Ks {K:KT}:uJ (λR x1 x2 x5 H=>GV R x1 x2 x5 H K) (λx1 x2 x5 H=>Iw x1 x2 x5 H K):=kZ (A7 _ _) (λ_ _ _ _ _=>by kernel_rfl)
def Lh (a0 a1:AV)(H:AH)(K:KT):Prop:=
 bH (AD H a0) λv0 H1=>
 Iw a1 v0 (I 0) H1 K
theorem Ow {a0 a1:AV}{H:AH}{K:KT}(h:Lh a0 a1 H K):Cw 144 [a0,a1] H K:=
 fok AA IC Ix func144 h
def N2 (a0 a1:AV)(H:AH)(K:KT):Prop:=
 bH (AD H a0) λv0 H1=>
 bO (Au true 2 H1 v0) λv2=>
 bO (Ap .quo a1 (I 8)) λv3=>
 bP (PCall prog 144 [v2,v3] H1) λv4=>
 bO (Ap .lss v4 (I 0)) λv5=>
 bB v5 λt6=>bI t6 (
 K u0Z H1)
 (bO (Ac 1 v0) λv7=>
 bO (Au false 1 H1 v7) λv8=>
 bO (Ap .rem a1 (I 8)) λv9=>
 bO (Bj 9 v8 v4) λv10=>
 bO (Ac 1 v10) λv11=>
 bO (PK 8 1 v11 v9) λv12=>
 bO (Au false 1 H1 v12) λv13=>
 K v13 H1)
theorem Rh {a0 a1:AV}{H:AH}{K:KT}(h:N2 a0 a1 H K):Cw 146 [a0,a1] H K:=
 fok AA IC BA func146 h
def SM (a0 a1:AV)(H:AH)(K:KT):Prop:=
 bO (Ap .geq a0 (I 0)) λv0=>
 bG v0 true λw1=>
 gO w1 (some a1) λv2=>
 bG v0 true λw3=>
 gO w3 (Ap .geq v2 (I 1)) λv4=>
 bO (A8 v0 v4 (B false)) λv5=>
 bG v5 true λw6=>
 gO w6 (some a1) λv7=>
 bG v5 true λw8=>
 gO w8 (Ap .leq v7 (I 1099511627776)) λv9=>
 bO (A8 v5 v9 (B false)) λv10=>
 bG v10 true λw11=>
 gO w11 (some a0) λv12=>
 bG v10 true λw13=>
 gO w13 (some a1) λv14=>
 bG v10 true λw15=>
 gO w15 (Ap .sub (I 1099511627776) v14) λv16=>
 bG v10 true λw17=>
 gO w17 (Ap .leq v12 v16) λv18=>
 bO (A8 v10 v18 (B false)) λv19=>
 K v19 H
theorem UD {a0 a1:AV}{H:AH}{K:KT}(h:SM a0 a1 H K):Cw 201 [a0,a1] H K:=
 fok AA IC BA func201 h
def CN:Nat→Option (List Bool):=Co [(10,mk 42 0 [0,1,5,6]),(7,mk 42 0 [0,1,5,6])]
def Br (p:List Bool)(n:Nat):List AV→AH→Kf→Prop:=AJ prog AA IC Aq Aq CN (sub p (AL f104)) n
def BO (R7:RT)(x0 x1 x5 x6:AV)(H:AH)(K:KT):Prop:=jn (mk 42 0 [0,1,5,6]) (Br [tT,tT,tT,fF,tT,fF,fF,tT,tT] 14) [x0,x1,x5,x6] H (Mh (mk 42 0 [0,1,5,6]) R7 (Bh 0 (Bl (Br [tT,tT,tT,tT] 14) (Bm prog f104.results.toList K))))
def CM (x0 x1 x5 x6:AV)(H:AH)(K:KT):Prop:=lp (mk 42 0 [0,1,5,6]) (Br [tT,tT,tT,fF,tT,fF,fF] 8) [x0,x1,x5,x6] H (Bh 0 (Bl (Br [tT,tT,tT,tT] 14) (Bm prog f104.results.toList K)))
def BC (R7:RT)(x0 x1 x5 x6:AV)(H:AH)(K:KT):Prop:=
 bO (Ap .add x6 (I 1)) λv0=>
 R7 [x0,x1,x5,v0] H
theorem Cu (R7:RT)(x0 x1 x5 x6:AV)(H:AH)(K:KT):BO R7 x0 x1 x5 x6 H K=BC R7 x0 x1 x5 x6 H K:=(DG _ _ _ _ _).trans (by kernel_rfl)
def C5 (R7:RT)(x0 x1 x5 x6:AV)(H:AH)(K:KT):Prop:=
 bO (Ba x0) λv0=>
 bO (Ap .lss x6 v0) λv1=>
 bB v1 λt2=>bI t2 (
 bO (Bj 9 x0 x6) λv3=>
 bO (Au true 9 H v3) λv4=>
 bH (AD H (.agg [(I 0),u0Z,u0Z,u0Z,u0Z,u0Z,u0Z,u0Z,u0Z])) λv5 H6=>
 bS (AT 9 H6 v5 v4) λH7=>
 bO (Au true 9 H7 v5) λv8=>
 bF true x1 λk11 f11 c11=>
 bT (B4 prog k11||!true)<|
 bC (BCall prog k11 (f11++[v8]++c11) H7) λv9 H10=>
 bO (Fb .not v9) λv12=>
 bB v12 λt13=>bI t13 (
 bO (Au true 9 H10 v5) λv14=>
 bO (Bj 9 x0 x5) λv15=>
 bS (AT 9 H10 v15 v14) λH16=>
 bO (Ap .add x5 (I 1)) λv17=>
 BO R7 x0 x1 v17 x6 H16 K)
 (BO R7 x0 x1 x5 x6 H10 K))
 (bO (AX 9 x0 (some x5) none none) λv18=>
 bS (nC [(I 0),u0Z,u0Z,u0Z,u0Z,u0Z,u0Z,u0Z,u0Z] H v18) λH19=>
 bO (AX 9 x0 none (some x5) none) λv20=>
 K v20 H19)
theorem Ep {K:KT}:WN (λR x0 x1 x5 x6 H=>C5 R x0 x1 x5 x6 H K) (λx0 x1 x5 x6 H=>CM x0 x1 x5 x6 H K):=Ms (A7 _ _) (λ_ _ _ _ _ _=>by kernel_rfl)
def Dr (a0 a1:AV)(H:AH)(K:KT):Prop:=
 bP (PCall prog 167 [a0,a1] H) λv0=>
 bO (Ap .eql v0 (I (-1))) λv1=>
 bB v1 λt2=>bI t2 (
 K a0 H)
 (bO (Ap .add v0 (I 1)) λv3=>
 CM a0 a1 v0 v3 H K)
theorem Fe {a0 a1:AV}{H:AH}{K:KT}(h:Dr a0 a1 H K):Cw 104 [a0,a1] H K:=
 fok AA IC CN func104 h
def JP (a0 a1:AV)(H:AH)(K:KT):Prop:=
 bH (AD H a0) λv0 H1=>
 bO (Ac 0 v0) λv2=>
 bO (Au false 1 H1 v2) λv3=>
 bO (Ap .mul v3 (I 8)) λv4=>
 bO (Au false 1 H1 a1) λv5=>
 bO (Ap .geq v4 v5) λv6=>
 K v6 H1
theorem MW {a0 a1:AV}{H:AH}{K:KT}(h:JP a0 a1 H K):Cw 105 [a0,a1] H K:=
 fok AA IC BA func105 h
def Ng:C1:=KM [(1,[(3,some 7),(5,some 7)])]
def Nh:Nat→Option (List Bool):=Co [(3,mk 33 0 [0,4,14,15])]
def VH (p:List Bool)(n:Nat):List AV→AH→Kf→Prop:=AJ prog Ng IC Aq Aq Nh (sub p (AL f106)) n
def Nf (x0 x4 x14 x15:AV)(H:AH)(K:KT):Prop:=lp (mk 33 0 [0,4,14,15]) (VH [tT,tT,tT,fF,fF] 4) [x0,x4,x14,x15] H (Bh 0 (Bm prog f106.results.toList K))
def KJ (R3:RT)(x0 x4 x14 x15:AV)(H:AH)(K:KT):Prop:=
 bO (Ap .lss x15 x14) λv0=>
 bB v0 λt1=>bI t1 (
 bO (Ac 0 x4) λv2=>
 bO (Au false 1 H v2) λv3=>
 bO (Ai x0) λv4=>
 bO (Ac 0 v4) λv5=>
 bO (Au false 1 H v5) λv6=>
 bO (Ap .mul v6 (I 8)) λv7=>
 bO (Ap .sub v3 v7) λv8=>
 bO (Ap .add v8 x15) λv9=>
 bO (Ai x0) λv10=>
 bO (Ac 1 v10) λv11=>
 bO (PK 8 1 v11 v9) λv12=>
 bS (AT 1 H v12 u0Z) λH13=>
 bO (Ap .add x15 (I 1)) λv14=>
 R3 [x0,x4,x14,v14] H13)
 (K (.tup []) H)
theorem Oj {K:KT}:WN (λR x0 x4 x14 x15 H=>KJ R x0 x4 x14 x15 H K) (λx0 x4 x14 x15 H=>Nf x0 x4 x14 x15 H K):=Ms (A7 _ _) (λ_ _ _ _ _ _=>by kernel_rfl)
def SN (a0 a1:AV)(H:AH)(K:KT):Prop:=
 bH (AD H a1) λv0 H1=>
 bO (Ai a0) λv2=>
 bO (Ac 0 v2) λv3=>
 bO (Au false 1 H1 v3) λv4=>
 bP (BPure prog 56 [v4]) λv5=>
 bO (Au true 2 H1 v0) λv6=>
 bP (BPure prog 55 [v5,v6]) λv7=>
 bH (AD H1 (.agg [(I 0),(I 0)])) λv8 H9=>
 bS (AT 2 H9 v8 v7) λH10=>
(Au false 1 H9 v3=some v4)∧
(Au true 2 H9 v0=some v6)∧
 bO (Ac 1 v8) λv11=>
 bO (Au false 1 H10 v11) λv12=>
 Nf a0 v8 v12 (I 0) H10 K
theorem UE {a0 a1:AV}{H:AH}{K:KT}(h:SN a0 a1 H K):Cw 106 [a0,a1] H K:=
 fok Ng IC Nh func106 h
def MR (a0 a1:AV)(H:AH)(K:KT):Prop:=
 bH (AD H a0) λv0 H1=>
 bO (Ac 0 v0) λv2=>
 bO (Au false 1 H1 v2) λv3=>
 bP (BPure prog 56 [v3]) λv4=>
 bO (Au true 2 H1 a1) λv5=>
 bP (BPure prog 204 [v4,v5]) λv6=>
 K v6 H1
theorem Qp {a0 a1:AV}{H:AH}{K:KT}(h:MR a0 a1 H K):Cw 203 [a0,a1] H K:=
 fok AA IC BA func203 h
def Vc (a0 a1:AV)(H:AH)(K:KT):Prop:=
 bH (AD H a0) λv0 H1=>
 bH (AD H1 a1) λv2 H3=>
 bO (Au true 2 H3 v0) λv4=>
 bP (PCall prog 111 [v4] H3) λv5=>
 bO (Fb .not v5) λv6=>
 bG v6 false λw7=>
 gO w7 (Au true 2 H3 v2) λv8=>
 bG v6 false λw9=>
 gP w9 (PCall prog 111 [v8] H3) λv10=>
 bG v6 false λw11=>
 gO w11 (Fb .not v10) λv12=>
 bO (A8 v6 (B true) v12) λv13=>
 bB v13 λt14=>bI t14 (
 K (B false) H3)
 (bO (Ac 1 v0) λv15=>
 bO (Au false 1 H3 v15) λv16=>
 bO (Ap .eql v16 (I 0)) λv17=>
 bG v17 false λw18=>
 gO w18 (Au true 2 H3 v0) λv19=>
 bG v17 false λw20=>
 gO w20 (Au true 2 H3 v2) λv21=>
 bG v17 false λw22=>
 gP w22 (BPure prog 55 [v19,v21]) λv23=>
 bG v17 false λw24=>
 gO w24 (Au true 2 H3 v0) λv25=>
 bG v17 false λw26=>
 gO w26 (Ph prog .eql 119 v23 v25) λv27=>
 bO (A8 v17 (B true) v27) λv28=>
 K v28 H3)
theorem VT {a0 a1:AV}{H:AH}{K:KT}(h:Vc a0 a1 H K):Cw 204 [a0,a1] H K:=
 fok AA IC BA func204 h
def Ek (a0:AV)(H:AH)(K:KT):Prop:=
 bO (V5 .eql On a0 Ad) λv0=>
 bB v0 λt1=>bI t1 (
 K Ad H)
 (bH (Cr H 9 0 (Be [(I 0),u0Z,u0Z,u0Z,u0Z,u0Z,u0Z,u0Z,u0Z] 0) []) λv2 H3=>
 bH (Mm 9 16 H3 v2 a0) λv4 H5=>
 K v4 H5)
theorem GC {a0:AV}{H:AH}{K:KT}(h:Ek a0 H K):Cw 95 [a0] H K:=
 fok AA IC BA func95 h
def SZ (a0:AV)(H:AH)(K:KT):Prop:=
 bH (AD H a0) λv0 H1=>
 bO (Ac 0 v0) λv2=>
 bO (Au false 1 H1 v2) λv3=>
 bP (PCall prog 169 [v3] H1) λv4=>
 bG v4 true λw5=>
 gO w5 (Ac 1 v0) λv6=>
 bG v4 true λw7=>
 gO w7 (Au false 1 H1 v6) λv8=>
 bG v4 true λw9=>
 gP w9 (PCall prog 169 [v8] H1) λv10=>
 bO (A8 v4 v10 (B false)) λv11=>
 bG v11 true λw12=>
 gO w12 (Ac 1 v0) λv13=>
 bG v11 true λw14=>
 gO w14 (Au false 1 H1 v13) λv15=>
 bG v11 true λw16=>
 gO w16 (Ac 0 v0) λv17=>
 bG v11 true λw18=>
 gO w18 (Au false 1 H1 v17) λv19=>
 bG v11 true λw20=>
 gO w20 (Ap .sub (I 4611686018427387904) v19) λv21=>
 bG v11 true λw22=>
 gO w22 (Ap .leq v15 v21) λv23=>
 bO (A8 v11 v23 (B false)) λv24=>
 K v24 H1
theorem Vb {a0:AV}{H:AH}{K:KT}(h:SZ a0 H K):Cw 111 [a0] H K:=
 fok AA IC BA func111 h
def Gq:Nat→Bool:=ST []
def Bw (a0 a1 a2:AV)(H:AH)(K:KT):Prop:=
 bO (AX 9 a0 (some a1) none none) λv0=>
 bO (Ba a2) λv1=>
 bO (Ap .eql v1 (I 0)) λv2=>
 bB v2 λt3=>bI t3 (
 K a0 H)
 (bO (Ba a0) λv4=>
 bO (Ap .eql a1 v4) λv5=>
 bB v5 λt6=>bI t6 (
 bH (Mm 9 16 H a0 a2) λv7 H8=>
 K v7 H8)
 (bO (Ap .add v4 v1) λv9=>
 bO (V6 a0) λv10=>
 bO (Ap .gtr v9 v10) λv11=>
 bB v11 λt12=>bI t12 (
 bO (AX 9 a0 none (some a1) none) λv13=>
 bO (Ap .add v4 v1) λv14=>
 bO (Ap .sub v14 a1) λv15=>
 bH (Kj H 9 16 [(I 0),u0Z,u0Z,u0Z,u0Z,u0Z,u0Z,u0Z,u0Z] v13 v15) λv16 H17=>
 bO (AX 9 v16 (some a1) none none) λv18=>
 bH (Oe 9 H17 v18 a2) λv19 H20=>
 bO (Ap .add a1 v1) λv21=>
 bO (AX 9 v16 (some v21) none none) λv22=>
 bO (AX 9 a0 (some a1) none none) λv23=>
 bH (Oe 9 H20 v22 v23) λv24 H25=>
 K v16 H25)
 (bO (Ap .add v4 v1) λv26=>
 bO (AX 9 a0 none (some v26) none) λv27=>
 bO (Ap .add a1 v1) λv28=>
 bO (AX 9 v27 (some v28) none none) λv29=>
 bP (ExtR prog 230 [a2,v29] H) λv30=>
 bO (Fb .not v30) λv31=>
 bB v31 λt32=>bI t32 (
 bO (Ap .add a1 v1) λv33=>
 bO (AX 9 v27 (some v33) none none) λv34=>
 bO (AX 9 v27 (some a1) none none) λv35=>
 bH (Oe 9 H v34 v35) λv36 H37=>
 bO (AX 9 v27 (some a1) none none) λv38=>
 bH (Oe 9 H37 v38 a2) λv39 H40=>
 K v27 H40)
 (bO (AX 9 v27 (some v4) none none) λv41=>
 bH (Oe 9 H v41 a2) λv42 H43=>
 bO (AX 9 v27 (some a1) none none) λv44=>
 bC (BCall prog 231 [v44,v1] H43) λv45 H46=>
 K v27 H46))))
theorem Gp (a0 a1 a2:AV)(H:AH)(K:KT):N1 prog AA IC yP Gq BA f222 [a0,a1,a2] H K=Bw a0 a1 a2 H K:=by kernel_rfl
theorem Cq {a0 a1 a2:AV}{H:AH}{K:KT}(h:Bw a0 a1 a2 H K):ACalls prog 222 [a0,a1,a2] H K:=
 FJ Kn func222 (by kernel_rfl) (Eq.mpr (Gp a0 a1 a2 H K) h)
def Ca:Nat→Option (List Bool):=Co [(4,mk 49 0 [0,1,2,8,9,10])]
def Cg (p:List Bool)(n:Nat):List AV→AH→Kf→Prop:=AJ prog AA IC Aq Aq Ca (sub p (AL f223)) n
def BZ (x0 x1 x2 x8 x9 x10:AV)(H:AH)(K:KT):Prop:=lp (mk 49 0 [0,1,2,8,9,10]) (Cg [tT,tT,tT,fF,fF,fF] 5) [x0,x1,x2,x8,x9,x10] H (Bh 0 (Bl (Cg [tT,tT,tT,tT] 9) (Bm prog f223.results.toList K)))
def BQ (R4:RT)(x0 x1 x2 x8 x9 x10:AV)(H:AH)(K:KT):Prop:=
 bO (Ap .lss x9 x10) λv0=>
 bB v0 λt1=>bI t1 (
 bO (Ap .add x9 x10) λv2=>
 bO (Ts .u64 v2) λv3=>
 bO (Ap .shr v3 (.lit (.int .u64 1))) λv4=>
 bO (Ts .i64 v4) λv5=>
 bO (Bj 9 x0 v5) λv6=>
 bO (Au true 9 H v6) λv7=>
 bF true x2 λk10 f10 c10=>
 bT (B4 prog k10||!true)<|
 bC (BCall prog k10 (f10++[v7,x1]++c10) H) λv8 H9=>
 bO (Ap .lss v8 (I 0)) λv11=>
 bB v11 λt12=>bI t12 (
 bO (Ap .add v5 (I 1)) λv13=>
 R4 [x0,x1,x2,x8,v13,x10] H9)
 (R4 [x0,x1,x2,x8,x9,v5] H9))
 (bO (Ap .lss x9 x8) λv14=>
 bG v14 true λw15=>
 gO w15 (some x2) λv16=>
 bG v14 true λw17=>
 gO w17 (some x0) λv18=>
 bG v14 true λw19=>
 gO w19 (some x9) λv20=>
 bG v14 true λw21=>
 gO w21 (Bj 9 v18 v20) λv22=>
 bG v14 true λw23=>
 gO w23 (Au true 9 H v22) λv24=>
 bG v14 true λw25=>
 gO w25 (some x1) λv26=>
 bG v14 true λw27=>
 bF w27 v16 λk30 f30 c30=>
 bT (B4 prog k30||!w27)<|
 gC w27 (BCall prog k30 (f30++[v24,v26]++c30) H) H λv28 H29=>
 bG v14 true λw31=>
 gO w31 (Ap .eql v28 (I 0)) λv32=>
 bO (A8 v14 v32 (B false)) λv33=>
 K (.tup [x9,v33]) H29)
theorem Db {K:KT}:nM (λR x0 x1 x2 x8 x9 x10 H=>BQ R x0 x1 x2 x8 x9 x10 H K) (λx0 x1 x2 x8 x9 x10 H=>BZ x0 x1 x2 x8 x9 x10 H K):=fX (A7 _ _) (λ_ _ _ _ _ _ _ _=>by kernel_rfl)
def Cn (a0 a1 a2:AV)(H:AH)(K:KT):Prop:=
 bO (Ba a0) λv0=>
 BZ a0 a1 a2 v0 (I 0) v0 H K
theorem D5 {a0 a1 a2:AV}{H:AH}{K:KT}(h:Cn a0 a1 a2 H K):Cw 223 [a0,a1,a2] H K:=
 fok AA IC Ca func223 h
def Nc (a0 a1:AV)(H:AH)(K:KT):Prop:=
 bH (AD H a0) λv0 H1=>
 bO (Ac 0 v0) λv2=>
 bO (Au false 1 H1 v2) λv3=>
 bP (PCall prog 94 [v3,a1] H1) λv4=>
 K v4 H1
theorem Qt {a0 a1:AV}{H:AH}{K:KT}(h:Nc a0 a1 H K):Cw 224 [a0,a1] H K:=
 fok AA IC BA func224 h
def LL (a0 a1:AV)(H:AH)(K:KT):Prop:=
 bP (PCall prog 163 [a0] H) λv0=>
 bP (PCall prog 163 [a1] H) λv1=>
 bB v0 λt2=>bI t2 (
 bB v1 λt3=>bI t3 (
 K (I 0) H)
 (K (I (-1)) H))
 (bB v1 λt4=>bI t4 (
 K (I 1) H)
 (bO (Ap .lss a0 a1) λv5=>
 bB v5 λt6=>bI t6 (
 K (I (-1)) H)
 (bO (Ap .gtr a0 a1) λv7=>
 bB v7 λt8=>bI t8 (
 K (I 1) H)
 (K (I 0) H))))
theorem Pl {a0 a1:AV}{H:AH}{K:KT}(h:LL a0 a1 H K):Cw 94 [a0,a1] H K:=
 fok AA IC BA func94 h
def CT:Nat→Option (List Bool):=Co [(3,mk 19 0 [0,1,7,8])]
def Df (p:List Bool)(n:Nat):List AV→AH→Kf→Prop:=AJ prog AA IC Aq Aq CT (sub p (AL f167)) n
def CS (x0 x1 x7 x8:AV)(H:AH)(K:KT):Prop:=lp (mk 19 0 [0,1,7,8]) (Df [tT,fF,tT,fF,fF] 4) [x0,x1,x7,x8] H (Bh 0 (Bl (Df [tT,tT] 10) (Bm prog f167.results.toList K)))
def BP (R3:RT)(x0 x1 x7 x8:AV)(H:AH)(K:KT):Prop:=
 bO (Ap .lss x8 x7) λv0=>
 bB v0 λt1=>bI t1 (
 bO (Bj 9 x0 x8) λv2=>
 bO (Au true 9 H v2) λv3=>
 bF true x1 λk6 f6 c6=>
 bT (B4 prog k6||!true)<|
 bC (BCall prog k6 (f6++[v3]++c6) H) λv4 H5=>
 bB v4 λt7=>bI t7 (
 K x8 H5)
 (bO (Ap .add x8 (I 1)) λv8=>
 R3 [x0,x1,x7,v8] H5))
 (K (I (-1)) H)
theorem Cv {K:KT}:WN (λR x0 x1 x7 x8 H=>BP R x0 x1 x7 x8 H K) (λx0 x1 x7 x8 H=>CS x0 x1 x7 x8 H K):=Ms (A7 _ _) (λ_ _ _ _ _ _=>by kernel_rfl)
def Cp (a0 a1:AV)(H:AH)(K:KT):Prop:=
 bO (Ba a0) λv0=>
 CS a0 a1 v0 (I 0) H K
theorem CU {a0 a1:AV}{H:AH}{K:KT}(h:Cp a0 a1 H K):Cw 167 [a0,a1] H K:=
 fok AA IC CT func167 h
def cW (a0:AV)(H:AH)(K:KT):Prop:=
 bO (Ap .geq a0 (I 0)) λv0=>
 bG v0 true λw1=>
 gO w1 (some a0) λv2=>
 bG v0 true λw3=>
 gO w3 (Ap .leq v2 (I 4611686018427387904)) λv4=>
 bO (A8 v0 v4 (B false)) λv5=>
 K v5 H
theorem aK {a0:AV}{H:AH}{K:KT}(h:cW a0 H K):Cw 169 [a0] H K:=
 fok AA IC BA func169 h
def O7 (a0:AV)(H:AH)(K:KT):Prop:=
 bO (Ap .neq a0 a0) λv0=>
 K v0 H
theorem RH {a0:AV}{H:AH}{K:KT}(h:O7 a0 H K):Cw 163 [a0] H K:=
 fok AA IC BA func163 h
end Go.Proofs.YtbppnhenlboefaaGreat.Av
end
