/- Texts of this proof, one behind the other, packed into one file by a program of this session. No condition. -/
import Derived.Test.YtbppnhenlboefaaGreatMfC
import Derived.KernelRfl
import Derived.OpenShut
import Derived.ProofKit
import Derived.SizedLaws
import Derived.Test.YtbppnhenlboefaaGreatRows
import Derived.WalkKit
set_option linter.unusedVariables false
set_option linter.unusedSimpArgs false
set_option maxRecDepth 100000
namespace Go.Proofs.YtbppnhenlboefaaGreat.Av
open Go Go.RowKit
section
def AP:AV→Bool
 | .lit (.slice none _ _)=>true
 | .emp=>true
 | .sl _ _ _ _ _=>true
 | _=>false
def AT:AV→List Nat
 | .sl o _ _ _ _=>[o]
 | _=>[]
theorem Ca {H:AH}{sz:Nat}{v:AV}{cs:List AV}{n:Nat}(h:Aa H sz v=some (cs,n)):cs.length=n*sz:=by
 unfold Aa at h;split at h
 ·split at h
  ·rename_i hb
   injection h with h;injection h with h1 h2;subst h1;subst h2;exact hb.2
  ·cases h
 ·split at h
  ·split at h
   ·rename_i hb
    injection h with h;injection h with h1 h2;subst h1;subst h2;rw[Ac4,Ad1];omega
   ·cases h
  ·cases h
 ·injection h with h;injection h with h1 h2;subst h1;subst h2;simp
 ·injection h with h;injection h with h1 h2;subst h1;subst h2;simp
 ·cases h
theorem Xn {H:AH}{sz:Nat}{v:AV}{cs:List AV}{n:Nat}(h:AZ H sz v=some (cs,n)):cs.length=n*sz:=by
 unfold AZ at h;split at h
 ·split at h
  ·rename_i hs
   injection h with h;injection h with h1 h2;subst h1;subst h2;subst hs;simp
  ·cases h
 ·exact Ca h
theorem AI {H:AH}{sz:Nat}{v:AV}{q:List AV×Nat}(h:Aa H sz v=some q):AZ H sz v=some q:=by
 unfold AZ
 split
 ·cases h
 ·exact h
abbrev Aj9:=@List.drop_take
abbrev Ac5:=@List.take_of_length_le
theorem WO (cs:List AV)(off l:Nat)(ds:List AV)(h:off+l≤cs.length):((Bz cs (off+l) ds).drop off).take (l+ds.length)=(cs.drop off).take l++ds∧off+(l+ds.length)≤(Bz cs (off+l) ds).length:=by
 unfold Bz
 constructor
 ·rw[Ad6,List.drop_append_of_le_length (by rw[Ac4];omega),List.take_append]
  have e1:((cs.take (off+l)).drop off)=(cs.drop off).take l:=by rw[Aj9];congr 1;omega
  rw[e1];have e2:((cs.drop off).take l).length=l:=by rw[Ac4,Ad1];omega
  rw[e2,Ac5 (by omega)]
  congr 1
  rw[show l+ds.length - l=ds.length by omega,List.take_left]
 ·simp only[zF];omega
theorem AA {H:AH}{sz o off n:Nat}{cap:Room}{c:List AV}(ho:H[o]?=some (some (.cells c)))(hf:off+n*sz≤c.length):Aa H sz (.sl o off n sz cap)=some ((c.drop off).take (n*sz),n):=by
 simp[Aa,ho,hf]
theorem Ae {H H':AH}{sz:Nat}{v:AV}{q:List AV×Nat}(h:Aa H sz v=some q)(hk:∀i∈AT v,H'[i]?=H[i]?):Aa H' sz v=some q:=by
 cases v with
 | sl o off len esz cap=>
  have:=hk o (by simp[AT])
  simp only[Aa]at h⊢;rw[this];exact h
 | lit u=>
  unfold Aa at h⊢;split at h<;>simp_all
 | imm cs len esz=>simpa only[Aa]using h
 | emp=>simpa only[Aa]using h
 | _=>simp[Aa]at h
abbrev Ah0:=@List.mem_singleton
theorem A2 {H:AH}{sz:Nat}{v:AV}{q:List AV×Nat}(h:Aa H sz v=some q):∀i∈AT v,i<H.length:=by
 intro i hi;cases v with
 | sl o off len esz cap=>
  simp only[AT,Ah0]at hi;subst hi;simp only[Aa]at h;split at h
  ·rename_i ho
   exact(B8.1 ho).1
  ·cases h
 | _=>simp[AT]at hi
section
variable {P : Program}
abbrev yY:=And.intro @ne_eq.{1} @not_true_eq_false
abbrev zO:=And.intro @if_false.{1} @yY
abbrev Ae3:=@List.drop_zero
theorem ZJ {sz bytes:Nat}{H:AH}{s:AV}{cs ds:List AV}{n m:Nat}(h1:Aa H sz s=some (cs,n))(ho:AP s=true)(hdl:ds.length=m*sz)(hb:(n+m)*bytes≤140737488355328):
  ∃r H',Mf H sz bytes s ds m=some (r,H')∧AP r=true∧Aa H' sz r=some (cs++ds,n+m)∧H.length≤H'.length∧(∀i,i<H.length→i∉AT s→H'[i]?=H[i]?)∧∀i∈AT r,i∈AT s∨H.length≤i:=by
 have hcl:=Ca h1
 have newc:Aa (H++[some (.cells ds)]) sz (.sl H.length 0 m sz (.ge m))=some (ds,m):=by
  rw[AA (c:=ds) (by simp) (by omega)];simp only[Ae3];rw[Ac5 (by omega)]
 have keep:∀(X:AH) (i:Nat),i<H.length→(H++X)[i]?=H[i]?:=λX i hi=>Ac3 hi
 have hnil:n=0→cs=[]:=λh0=>Ag3 (by rw[hcl,h0];simp)
 unfold Aa at h1;split at h1
 ·simp[AP]at ho
 ·
  rename_i o off len esz cap;split at h1
  ·rename_i c hoc
   split at h1
   ·rename_i hb1
    obtain⟨rfl,hfit⟩:=hb1;injection h1 with h1;injection h1 with h3 h4;subst h3;subst h4;have hol:=(B8.1 hoc).1;have hadd:(len+m)*esz=len*esz+m*esz:=Ah2 _ _ _;obtain⟨ov1,ov2⟩:=WO c off (len*esz) ds hfit
    have inplace:∀cap',Aa (H.set o (some (.cells (Bz c (off+len*esz) ds)))) esz (.sl o off (len+m) esz cap')=some ((c.drop off).take (len*esz)++ds,len+m):=by
     intro cap';rw[AA (c:=Bz c (off+len*esz) ds) (by rw[JX hol]) (by rw[hadd,← hdl];exact ov2)];rw[hadd,← hdl,ov1]
    have fresh:∀(H2:AH) cap',H2.length=H.length→Aa (H2++[some (.cells ((c.drop off).take (len*esz)++ds))]) esz (.sl H.length 0 (len+m) esz cap')=some ((c.drop off).take (len*esz)++ds,len+m):=by
     intro H2 cap' hl;rw[AA (c:=(c.drop off).take (len*esz)++ds) (by rw[← hl];simp) (by rw[Ad0,hcl,hdl];omega)];simp only[Ae3];rw[Ac5 (by rw[Ad0,hcl,hdl];omega)]
    have hkeep:∀(y:Option AObj) (X:AH) (i:Nat),i<H.length→i∉AT (.sl o off len esz cap)→(H.set o y++X)[i]?=H[i]?:=by
     intro y X i hi hn;rw[Ac3 (by simpa using hi),C2 (by simp[AT]at hn;omega)]
    unfold Mf;simp only[hoc,zO,false_or,hfit];cases cap with
    | ex k=>
     simp only
     by_cases hk:len+m≤k
     ·rw[if_pos hk]
      exact⟨_,_,rfl,rfl,inplace _,by simp,λi hi hn=>by simpa using hkeep _ [] i hi hn,λi hi=>.inl (by simpa[AT]using hi)⟩
     ·rw[if_neg hk,if_pos hb]
      exact⟨_,_,rfl,rfl,fresh H _ rfl,by simp,λi hi _=>keep _ i hi,λi hi=>.inr (by simp[AT]at hi;omega)⟩
    | ge k=>
     simp only
     by_cases hm:m=0
     ·subst hm
      have hd0:ds=[]:=Ag3 (by rw[hdl];simp);subst hd0;rw[if_pos rfl];exact⟨_,_,rfl,rfl,by rw[AA hoc hfit];simp,Ac6 _,λ_ _ _=>rfl,λi hi=>.inl hi⟩
     ·rw[if_neg hm]
      by_cases hk:len+m≤k
      ·rw[if_pos hk]
       exact⟨_,_,rfl,rfl,inplace _,by simp,λi hi hn=>by simpa using hkeep _ [] i hi hn,λi hi=>.inl (by simpa[AT]using hi)⟩
      ·rw[if_neg hk,if_pos hb]
       exact⟨_,_,rfl,rfl,fresh (H.set o none) _ (by simp),by simp,λi hi hn=>hkeep none _ i hi hn,λi hi=>.inr (by simp[AT]at hi;omega)⟩
   ·cases h1
  ·cases h1
 ·
  injection h1 with h1;injection h1 with h3 h4;subst h3;subst h4;unfold Mf;simp only
  by_cases hm:m=0
  ·subst hm
   have hd0:ds=[]:=Ag3 (by rw[hdl];simp);subst hd0;rw[if_pos rfl];exact⟨_,_,rfl,rfl,rfl,Ac6 _,λ_ _ _=>rfl,λi hi=>.inl hi⟩
  ·rw[if_neg hm,if_pos (by simpa using hb)]
   exact⟨_,_,rfl,rfl,by simpa using newc,by simp,λi hi _=>keep _ i hi,λi hi=>.inr (by simp[AT]at hi;omega)⟩
 ·
  injection h1 with h1;injection h1 with h3 h4;subst h3;subst h4;unfold Mf;simp only
  by_cases hm:m=0
  ·subst hm
   have hd0:ds=[]:=Ag3 (by rw[hdl];simp);subst hd0;rw[if_pos rfl];exact⟨_,_,rfl,rfl,rfl,Ac6 _,λ_ _ _=>rfl,λi hi=>.inl hi⟩
  ·rw[if_neg hm,if_pos (by simpa using hb)]
   exact⟨_,_,rfl,rfl,by simpa using newc,by simp,λi hi _=>keep _ i hi,λi hi=>.inr (by simp[AT]at hi;omega)⟩
 ·cases h1
end
end
section
abbrev I (n:Int):AV:=.lit (.int .i64 n)
abbrev B (b:Bool):AV:=.lit (.bool b)
abbrev S (s:ByteArray):AV:=.lit (.string s)
abbrev Ad:AV:=.lit (.slice none 0 0)
@[congr] theorem vW {x x':Option AV} {K:AV→Prop} (h:x=x'):bO x K=bO x' K:=by rw[h]
@[congr] theorem vU {x x':Option (AV×AH)} {K:AV→AH→Prop} (h:x=x'):bH x K=bH x' K:=by rw[h]
@[congr] theorem vY {x x':Option AH} {K:AH→Prop} (h:x=x'):bS x K=bS x' K:=by rw[h]
@[congr] theorem vP {v v':AV} {K:Bool→Prop} (h:v=v'):bB v K=bB v' K:=by rw[h]
@[congr] theorem vV {b b':Bool} {A B:Prop} (h:b=b'):bI b A B=bI b' A B:=by rw[h]
@[congr] theorem vT {v v':AV} {w:Bool} {K:Bool→Prop} (h:v=v'):bG v w K=bG v' w K:=by rw[h]
@[congr] theorem vR {w w':Bool} {v v':AV} {K:FuncId→List AV→List AV→Prop} (hw:w=w') (h:v=v'):bF w v K=bF w' v' K:=by rw[hw,h]
@[congr] theorem vZ {b b':Bool} {A:Prop} (h:b=b'):bT b A=bT b' A:=by rw[h]
@[congr] theorem vQ {R:AV→AH→Prop} {K:AV→AH→Prop}:bC R K=bC R K:=rfl
@[congr] theorem vX {R:AV→Prop} {K:AV→Prop}:bP R K=bP R K:=rfl
@[congr] theorem wP {w w':Bool} {x:Option AV} {K:AV→Prop} (h:w=w'):gO w x K=gO w' x K:=by rw[h]
@[congr] theorem wN {w w':Bool} {x:Option (AV×AH)} {H:AH} {K:AV→AH→Prop} (h:w=w'):gH w x H K=gH w' x H K:=by rw[h]
@[congr] theorem wR {w w':Bool} {x:Option AH} {H:AH} {K:AH→Prop} (h:w=w'):gS w x H K=gS w' x H K:=by rw[h]
@[congr] theorem wM {w w':Bool} {R:AV→AH→Prop} {H:AH} {K:AV→AH→Prop} (h:w=w'):gC w R H K=gC w' R H K:=by rw[h]
@[congr] theorem wQ {w w':Bool} {R:AV→Prop} {K:AV→Prop} (h:w=w'):gP w R K=gP w' R K:=by rw[h]
@[simp] theorem Ab {v:AV} {K:AV→Prop}:bO (some v) K=K v:=by unfold bO;exact Eq.refl _
@[simp] theorem A0 {v:AV} {H:AH} {K:AV→AH→Prop}:bH (some (v,H)) K=K v H:=by unfold bH;exact Eq.refl _
@[simp] theorem AC {H:AH} {K:AH→Prop}:bS (some H) K=K H:=by unfold bS;exact Eq.refl _
@[simp] theorem Ag {b:Bool} {K:Bool→Prop}:bB (.lit (.bool b)) K=K b:=by unfold bB;exact Eq.refl _
@[simp] theorem Ao {A B:Prop}:bI true A B=A:=by unfold bI;exact Eq.refl _
@[simp] theorem Aj {A B:Prop}:bI false A B=B:=by unfold bI;exact Eq.refl _
@[simp] theorem AK {b w:Bool} {K:Bool→Prop}:bG (.lit (.bool b)) w K=K (b==w):=by unfold bG;exact Eq.refl _
@[simp] theorem jQ {w:Bool} {K:Bool→Prop}:bG AE w K=K false:=by unfold bG;exact Eq.refl _
@[simp] theorem TZ {A:Prop}:bT true A=A:=by unfold bT;exact Eq.refl _
@[simp] theorem cJ {w:Bool} {k:FuncId} {a b:List AV} {K:FuncId→List AV→List AV→Prop}:bF w (.fn (.func k) a b) K=K k a b:=by unfold bF;exact Eq.refl _
@[simp] theorem vS {K:FuncId→List AV→List AV→Prop}:bF false AE K=K 0 [] []:=by unfold bF AE;exact Eq.refl _
@[simp] theorem AD {x:Option AV} {K:AV→Prop}:gO true x K=bO x K:=by unfold gO;exact Eq.refl _
@[simp] theorem Cq {x:Option AV} {K:AV→Prop}:gO false x K=K AE:=by unfold gO;exact Eq.refl _
@[simp] theorem Bv {x:Option (AV×AH)} {H:AH} {K:AV→AH→Prop}:gH true x H K=bH x K:=by unfold gH;exact Eq.refl _
@[simp] theorem wO {x:Option (AV×AH)} {H:AH} {K:AV→AH→Prop}:gH false x H K=K AE H:=by unfold gH;exact Eq.refl _
@[simp] theorem B4 {x:Option AH} {H:AH} {K:AH→Prop}:gS true x H K=bS x K:=by unfold gS;exact Eq.refl _
@[simp] theorem wS {x:Option AH} {H:AH} {K:AH→Prop}:gS false x H K=K H:=by unfold gS;exact Eq.refl _
@[simp] theorem Od {R:AV→AH→Prop} {H:AH} {K:AV→AH→Prop}:gC true R H K=bC R K:=by unfold gC;exact Eq.refl _
@[simp] theorem KZ {R:AV→AH→Prop} {H:AH} {K:AV→AH→Prop}:gC false R H K=K AE H:=by unfold gC;exact Eq.refl _
@[simp] theorem QB {R:AV→Prop} {K:AV→Prop}:gP true R K=bP R K:=by unfold gP;exact Eq.refl _
@[simp] theorem YV {R:AV→Prop} {K:AV→Prop}:gP false R K=K AE:=by unfold gP;exact Eq.refl _
theorem bP_of {R:AV→Prop}{K:AV→Prop}{r:AV}(h:R r)(hk:K r):bP R K:=⟨r,h,hk⟩
theorem A1 {P:Program}{f:FuncId}{args:List AV}{H:AH}{K:AV→Prop}{r:AV}(h:BPure P f args r)(hk:K r):bP (PCall P f args H) K:=⟨r,.inl h,hk⟩
theorem bC_of {R:AV→AH→Prop}{K:AV→AH→Prop}{r:AV}{H:AH}(h:R r H)(hk:K r H):bC R K:=⟨r,H,h,hk⟩
theorem VI {x:Int}(h1: -9223372036854775808≤x)(h2:x≤9223372036854775807):IntKind.i64.wrap x=x:=by
 simp[IntKind.wrap,IntKind.bits,IntKind.signed];omega
section
variable {k : IntKind} {a b : Int}
theorem Ax (h1: -9223372036854775808≤a+b)(h2:a+b≤9223372036854775807):Aq .add (I a) (I b)=some (I (a+b)):=by simp[Aq,Gq,VI h1 h2]
theorem BP (h1: -9223372036854775808≤a - b)(h2:a - b≤9223372036854775807):Aq .sub (I a) (I b)=some (I (a - b)):=by simp[Aq,Gq,VI h1 h2]
theorem Ek (h1: -9223372036854775808≤a*b)(h2:a*b≤9223372036854775807):Aq .mul (I a) (I b)=some (I (a*b)):=by simp[Aq,Gq,VI h1 h2]
theorem LI (h1:0≤a)(h2:a≤9223372036854775807)(h3:0<b):Aq .quo (I a) (I b)=some (I (a/b)):=by
 have e:a.tdiv b=a/b:=Int.tdiv_eq_ediv_of_nonneg h1;have h4:0≤a/b:=Int.ediv_nonneg h1 (by omega);have h5:a/b≤a:=Int.ediv_le_self _ h1;simp[Aq,Gq,e,VI (x:=a/b) (by omega) (by omega)];omega
theorem IA (h1:0≤a)(h3:0<b):Aq .rem (.lit (.int k a)) (.lit (.int k b))=some (.lit (.int k (a % b))):=by
 have e:a.tmod b=a % b:=Int.tmod_eq_emod_of_nonneg h1;simp[Aq,Gq,e];omega
@[simp] theorem Cn:Aq .eql (.lit (.int k a)) (.lit (.int k b))=some (B (decide (a=b))):=by simp[Aq,Gq];rfl
@[simp] theorem CD:Aq .neq (.lit (.int k a)) (.lit (.int k b))=some (B (decide (a≠b))):=by
 simp[Aq,Gq]
 by_cases h:a=b<;>simp[h]
@[simp] theorem Bi:Aq .lss (.lit (.int k a)) (.lit (.int k b))=some (B (decide (a<b))):=by simp[Aq,Gq]
@[simp] theorem bZ:Aq .leq (.lit (.int k a)) (.lit (.int k b))=some (B (decide (a≤b))):=by simp[Aq,Gq]
@[simp] theorem LH:Aq .gtr (.lit (.int k a)) (.lit (.int k b))=some (B (decide (b<a))):=by simp[Aq,Gq]
@[simp] theorem I9:Aq .geq (.lit (.int k a)) (.lit (.int k b))=some (B (decide (b≤a))):=by simp[Aq,Gq]
@[simp] theorem xS {x y:Bool}:vE .eql (.lit (.bool x)) (.lit (.bool y))=some (B (decide (x=y))):=by cases x<;>cases y<;>rfl
@[simp] theorem xT {x y:Bool}:vE .neq (.lit (.bool x)) (.lit (.bool y))=some (B (decide (x≠y))):=by cases x<;>cases y<;>rfl
@[simp] theorem Bo {x:Bool}:EX .not (.lit (.bool x))=some (B !x):=rfl
@[simp] theorem Aw {t:Bool} {x y:AV}:A7 (.lit (.bool t)) x y=some (if t then x else y):=rfl
@[simp] theorem kX:XA a b=min b a:=by unfold XA;omega
@[simp] theorem kY:aF a b=max b a:=by unfold aF;omega
@[simp] theorem Qd {f:Int→Int→Int}:amm f [.lit (.int k a),.lit (.int k b)]=some (.lit (.int k (f a b))):=rfl
theorem LJ {k':IntKind}(h1: -9223372036854775808≤a)(h2:a≤9223372036854775807):RI .i64 (.lit (.int k' a))=some (I a):=by simp[RI,VI h1 h2]
end
@[simp] theorem A5 {vs:List AV} {i:Nat}:Ai (.tup vs) i=vs[i]?:=rfl
@[simp] theorem Au {o off:Nat}:Af (.ptr o off)=some (.ptr o off):=rfl
@[simp] theorem oF {cs:List AV}:Af (.ip cs)=some (.ip cs):=rfl
@[simp] theorem Al {k o off:Nat}:Ac k (.ptr o off)=some (.ptr o (off+k)):=rfl
@[simp] theorem Ww {k:Nat} {cs:List AV}:Ac k (.ip cs)=some (.ip (cs.drop k)):=rfl
@[simp] theorem Py {g:Bool} {n:Nat} {H:AH} {cs:List AV}:Ar g n H (.ip cs)=Am g n cs 0:=rfl
theorem Ak {g:Bool}{n o off:Nat}{H:AH}{cs:List AV}(h:H[o]?=some (some (.cells cs))):Ar g n H (.ptr o off)=Am g n cs off:=by simp[Ar,h]
@[simp] theorem Ah {n:Nat} {cs:List AV} {off:Nat}:Am false n cs off=cs[off]?:=by simp[Am]
theorem FN {n:Nat}{cs:List AV}{off:Nat}(h:off+n≤cs.length):Am true n cs off=some (.agg ((cs.drop off).take n)):=by simp[Am,h]
@[simp] theorem vK {g:Bool} {n off:Nat} {cs:List AV}:Yv g n off (.agg cs)=Am g n cs off:=rfl
@[simp] theorem jJ {H:AH} {cs:List AV}:A9 H (.agg cs)=if cs.all oneA then some (.ptr H.length 0,H++[some (.cells cs)])else none:=by
 unfold A9 BE;simp only
 split<;>simp
theorem jK {H:AH}{v:Value}(h:oneA (.lit v)=true):A9 H (.lit v)=some (.ptr H.length 0,H++[some (.cells [.lit v])]):=by
 unfold A9 BE;simp only[h,if_true];rfl
theorem A8 {n o off:Nat}{H:AH}{x:AV}{xs cs:List AV}(hx:BE x=some xs)(h:H[o]?=some (some (.cells cs)))(hl:xs.length=n)(hb:off+n≤cs.length):AR n H (.ptr o off) x=some (H.set o (some (.cells (AN cs off xs)))):=by
 simp[AR,hx,h,hl,hb]
@[simp] theorem lX {k:IntKind} {n:Int}:oneA (.lit (.int k n))=true:=rfl
@[simp] theorem uT {b:Bool}:oneA (.lit (.bool b))=true:=rfl
@[simp] theorem xC {s:ByteArray}:oneA (.lit (.string s))=true:=rfl
@[simp] theorem lY {n c:Nat}:oneA (.lit (.slice none n c))=true:=rfl
@[simp] theorem uU:oneA (.lit (.map none))=true:=rfl
@[simp] theorem uV:oneA (.lit (.pointer none))=true:=rfl
@[simp] theorem xX {o off len esz:Nat} {cap:Room}:oneA (.sl o off len esz cap)=true:=rfl
@[simp] theorem xA {cs:List AV} {len esz:Nat}:oneA (.imm cs len esz)=true:=rfl
@[simp] theorem xB {o off:Nat}:oneA (.ptr o off)=true:=rfl
@[simp] theorem wZ:oneA .emp=true:=rfl
@[simp] theorem xW {o:Nat}:oneA (.mp o)=true:=rfl
@[simp] theorem sB {k:IntKind} {n:Int}:BE (.lit (.int k n))=some [.lit (.int k n)]:=rfl
@[simp] theorem qN {b:Bool}:BE (.lit (.bool b))=some [.lit (.bool b)]:=rfl
@[simp] theorem sE {s:ByteArray}:BE (.lit (.string s))=some [.lit (.string s)]:=rfl
@[simp] theorem sC {n c:Nat}:BE (.lit (.slice none n c))=some [.lit (.slice none n c)]:=rfl
@[simp] theorem qO:BE (.lit (.map none))=some [.lit (.map none)]:=rfl
@[simp] theorem qP:BE (.lit (.pointer none))=some [.lit (.pointer none)]:=rfl
@[simp] theorem uR {o off len esz:Nat} {cap:Room}:BE (.sl o off len esz cap)=some [.sl o off len esz cap]:=rfl
@[simp] theorem sA {cs:List AV} {len esz:Nat}:BE (.imm cs len esz)=some [.imm cs len esz]:=rfl
@[simp] theorem sD {o off:Nat}:BE (.ptr o off)=some [.ptr o off]:=rfl
@[simp] theorem rZ:BE .emp=some [.emp]:=rfl
@[simp] theorem uQ {o:Nat}:BE (.mp o)=some [.mp o]:=rfl
@[simp] theorem P1 {cs:List AV}:BE (.agg cs)=if cs.all oneA then some cs else none:=rfl
theorem AO {v:AV}(h:oneA v=true):BE v=some [v]:=by
 cases v<;>first
  | rfl
  | (rename_i u;cases u<;>first | rfl | simp[oneA]at h)
  | simp[oneA]at h
@[simp] theorem fV {cells:List AV}:Pf cells []=some cells:=rfl
@[simp] theorem aD {cells:List AV} {off size:Nat} {v:AV} {r:List (Nat×Nat×AV)}:Pf cells ((off,size,v)::r)=match BE v with
  | some xs=>if xs.length=size∧off+size≤cells.length then Pf (AN cells off xs) r else none
  | none=>none:=rfl
attribute [simp] FD Cv T8 Bg AN LI0 LI1 LI2 LI3 LI4 LI5 LI6 LI7 LI8 LI9 yB yC yD yE yF yG yH yI yJ
@[simp] theorem IU {g:Bool} {n o off:Nat} {H:AH}:Ar g n H (.ptr o off)=match H[o]? with
  | some (some (.cells cs))=>Am g n cs off
  | _=>none:=rfl
@[simp] theorem vH {cs:List AV} {len esz:Nat}:Bf (.imm cs len esz)=some (I len):=rfl
@[simp] theorem vI:Bf (.lit (.slice none 0 0))=some (I 0):=rfl
@[simp] theorem oB {o off len esz:Nat} {cap:Room}:Bf (.sl o off len esz cap)=some (I len):=rfl
@[simp] theorem vJ {s:ByteArray}:Ge (.lit (.string s))=some (I s.size):=rfl
section
variable {P : Program} {f : FuncId} {args : List AV} {R : AV}
theorem BPure.flat (h:∀H,∃r H',(r=R∧H'=H)∧BCall P f args H r H'):BPure P f args R:=λH=>by
 obtain⟨r,H',⟨rfl,rfl⟩,h⟩:=h H;exact h
end
def SV {α:Type}(enc:α→List AV)(sz:Nat)(l:List α)(v:AV):Prop:=noIds v=true∧∀H,Aa H sz v=some (l.flatMap enc,l.length)
section
variable {α : Type} {enc : α→List AV} {sz : Nat} {l : List α} {v : AV}
theorem SV.nil:SV enc sz [] Ad:=⟨rfl,λ_=>rfl⟩
theorem SV.len (h:SV enc sz l v):Bf v=some (I l.length):=by
 have h2:=h.2 [];unfold Aa at h2;split at h2
 ·split at h2
  ·injection h2 with h2;injection h2 with e1 e2;rw[← e2];rfl
  ·cases h2
 ·simp at h2
 ·injection h2 with h2;injection h2 with e1 e2;rw[← e2];rfl
 ·injection h2 with h2;injection h2 with e1 e2;rw[← e2];rfl
 ·cases h2
abbrev Ae9:=@List.flatMap_cons
abbrev Al1:=@Nat.add_comm
abbrev Ah1:=@List.drop_drop
theorem Da (hsz:∀x,(enc x).length=sz):∀{l:List α} {k:Nat} {x:α},l[k]?=some x→(l.flatMap enc).drop (k*sz)=enc x++(l.drop (k+1)).flatMap enc
 | [],k,x,h=>by simp at h
 | a::l,0,x,h=>by simp at h;subst h;simp
 | a::l,k+1,x,h=>by
  have:=Da hsz (l:=l) (k:=k) (by simpa using h)
  rw[Ae9,Af9,Al1,← Ah1,List.drop_left' (hsz a)]
  simpa using this
theorem JW (hsz:∀x,(enc x).length=sz)(l:List α):(l.flatMap enc).length=l.length*sz:=by
 induction l with
 | nil=>simp
 | cons a l ih=>simp[Ae9,hsz,ih,Af9];omega
abbrev Ah9:=@List.cons_append
theorem SV.imm (hsz:∀x,(enc x).length=sz)(hn:∀x∈l,A3 (enc x)=true):SV enc sz l (.imm (l.flatMap enc) l.length sz):=by
 refine⟨?_,λH=>?_⟩
 ·simp only[noIds]
  induction l with
  | nil=>rfl
  | cons a l ih=>
   rw[Ae9];have h1:=hn a (by simp);have h2:=ih λx hx=>hn x (by simp[hx])
   generalize enc a=c at h1
   induction c with
   | nil=>exact h2
   | cons b c ihc=>simp only[A3,Ae4,Ah9]at h1⊢;exact⟨h1.1,ihc h1.2⟩
 ·simp[Aa,JW hsz]
theorem SV.idx (h:SV enc sz l v)(hsz:∀x,(enc x).length=sz){k:Nat}{x:α}{i:Int}(hk:l[k]?=some x)(hi:i=k):Bh sz v (.lit (.int .i64 i))=some (.ip (enc x++(l.drop (k+1)).flatMap enc)):=by
 subst hi;have hlt:=(B8.1 hk).1;have h1:=h.1;have h2:=h.2 [];unfold Aa at h2;split at h2
 ·rename_i cs len esz
  split at h2
  ·injection h2 with h2;injection h2 with e1 e2
   subst e1;subst e2;simp only[Bh,J8];rw[if_pos ⟨by omega,by omega⟩];simp[Da hsz hk]
  ·cases h2
 ·simp[noIds]at h1
 ·injection h2 with h2;injection h2 with e1 e2;rw[← e2]at hlt;omega
 ·injection h2 with h2;injection h2 with e1 e2;rw[← e2]at hlt;omega
 ·cases h2
end
end
section
def MonoF (body:List AV→AH→Kf→Prop):Prop:=∀T H (K1 K2:Kf),(∀e T H,K1 e T H→K2 e T H)→body T H K1→body T H K2
theorem YX {keep:List Bool}{A B:List AV→AH→Prop}{K:Kf}(h:∀X H,A X H→B X H):∀e T H,Pp keep A K e T H→Pp keep B K e T H:=by
 intro e T H hk;cases e with
 | normal=>
  obtain⟨hl,h1⟩:=BI.1 hk;exact BI.2 ⟨hl,h _ _ h1⟩
 | _=>exact hk
theorem mN {keep:List Bool}{body:List AV→AH→Kf→Prop}{K:Kf}(hb:MonoF body):∀(m:Nat) X H,iC keep body K m X H→iC keep body K (m+1) X H
 | 0,X,H,h=>h.elim
 | m+1,X,H,h=>hb _ _ _ _ (YX λX H=>mN hb m X H) h
theorem uE {keep:List Bool}{body:List AV→AH→Kf→Prop}{K:Kf}(hb:MonoF body){m n:Nat}(h:m≤n){X:List AV}{H:AH}(hr:iC keep body K m X H):iC keep body K n X H:=by
 induction h with
 | refl=>exact hr
 | step _ ih=>exact mN hb _ _ _ ih
theorem cZ {keep:List Bool}{body:List AV→AH→Kf→Prop}{K:Kf}(hb:MonoF body)(J:Nat→List AV→AH→Prop)
  (round:∀n X H,J n X H→body (AY keep X) H (Pp keep (λX' H'=>∃m,m<n∧J m X' H') K)):∀(n:Nat) {X:List AV} {H:AH},J n X H→lp keep body X H K:=by
 have key:∀n X H,J n X H→iC keep body K (n+1) X H:=by
  intro n
  induction n using Nat.strongRecOn with
  | _ n ih=>
   intro X H hJ;refine hb _ _ _ _ (YX ?_) (round n X H hJ);rintro X' H' ⟨m,hm,hJ'⟩;exact uE hb (by omega) (ih m hm X' H' hJ')
 exact λn X H hJ=>⟨n+1,key n X H hJ⟩
section
variable {P : Program} {ql al : FuncId→Bool} {dr w : Bool} {ρ : Operand→AV} {H : AH}
theorem Z3 {o:Oper}{K1 K2:AV→AH→Prop}(h:ME P ql al dr ρ H o w K1)(hk:∀r H,K1 r H→K2 r H):ME P ql al dr ρ H o w K2:=by
 cases ha:B6 al o.op with
 | false=>
  rw[bJ ha]at h⊢;obtain⟨r,H',hk1,-,h2⟩:=Mc h;exact h2 _ (hk _ _ hk1)
 | true=>
  obtain⟨dst,op,type,pos,after,guard⟩:=o;simp only at ha;unfold B6 at ha;split at ha
  ·rename_i k args ats
   have ha':B6 al (.call {callee:=.value (.func k),args:=args,argTypes:=ats})=true:=ha;unfold ME bF at h⊢;simp only[ha']at h⊢;generalize hx:ρ (.func k)=x at h⊢;split at h
   ·rename_i f a b
    cases dr with
    | true=>exact h
    | false=>
     simp only at h⊢;cases hg:B1 P f with
     | true=>
      rw[hg]at h;cases w with
      | true=>
       obtain⟨R,hR,hall⟩:=h;exact⟨R,hR,λr H' hr=>hk r H' (hall r H' hr)⟩
      | false=>exact hk _ _ h
     | false=>
      rw[hg]at h;cases w with
      | true=>
       obtain⟨r,hr,h⟩:=h;exact⟨r,hr,hk _ _ h⟩
      | false=>exact hk _ _ h
   ·cases w with
    | true=>exact h.elim
    | false=>
     cases dr with
     | true=>exact h.elim
     | false=>
      simp only at h⊢;cases hg:B1 P 0 with
      | true=>rw[hg]at h;exact hk _ _ h
      | false=>rw[hg]at h;exact hk _ _ h
  ·cases ha
theorem SD {ops:Array Oper}:∀(l:List Oper) (T:List AV) (H:AH) {K1 K2:List AV→AH→Prop},(∀T H,K1 T H→K2 T H)→Md P ql al dr ops l T H K1→Md P ql al dr ops l T H K2
 | [],T,H,K1,K2,hk,h=>hk _ _ h
 | o::l,T,H,K1,K2,hk,h=>by
  unfold Md at h⊢;obtain⟨w,hw,h,hw2⟩:=Eg h;refine hw2 _ (Z3 h λr H' hr=>?_);rw[Gw]at hr⊢;exact SD l _ _ hk hr
theorem V3 {ops:Array Oper}{H0:AH}{fl:List (Nat×Option Nat)}:∀(l:List Oper) (T:List AV) (H:AH) (lg:List (List AV×AH×AV)) {K1 K2:List AV→AH→Prop},(∀T H,K1 T H→K2 T H)→M4 P ql al ops H0 fl l T H lg K1→M4 P ql al ops H0 fl l T H lg K2
 | [],T,H,lg,K1,K2,hk,h=>by
  obtain⟨h1,h2⟩:=bE h;exact mS (K:=K1 T H) h (hk _ _ h2)
 | o::l,T,H,lg,K1,K2,hk,h=>by
  unfold M4 at h⊢;obtain⟨w,hw,h,hw2⟩:=Eg h;refine hw2 _ (Z3 h λr H' hr=>?_);rw[Gw]at hr⊢;exact V3 l _ _ _ hk hr
theorem MonoF.cut {keep:List Bool}{body:List AV→AH→Kf→Prop}(h:MonoF body):MonoF (LQ keep body):=by
 intro T H K1 K2 hk hc;obtain⟨hl,hc⟩:=BI.1 hc;exact BI.2 ⟨hl,⟨h _ _ _ _ hk hc.h⟩⟩
theorem MonoF.seq {a b:List AV→AH→Kf→Prop}(ha:MonoF a)(hb:MonoF b):MonoF λT H K=>a T H (Bn b K):=by
 intro T H K1 K2 hk h;refine ha _ _ _ _ ?_ h;intro e T' H' h';cases e with
 | normal=>exact hb _ _ _ _ hk h'
 | _=>exact hk _ _ _ h'
theorem qZ {keep:List Bool}{body:List AV→AH→Kf→Prop}(hb:MonoF body){K1 K2:Kf}(hk:∀e T H,K1 e T H→K2 e T H):∀(m:Nat) (X:List AV) (H:AH),iC keep body K1 m X H→iC keep body K2 m X H
 | 0,X,H,h=>h.elim
 | m+1,X,H,h=>by
  refine hb _ _ _ _ ?_ h;intro e T H h';cases e with
  | normal=>
   obtain⟨hl,h1⟩:=BI.1 h';exact BI.2 ⟨hl,qZ hb hk m _ _ h1⟩
  | _=>exact hk _ _ _ h'
theorem D8 {fl:C0}{un:Nat→Bool}{kp:Nat→Option (List Bool)}:∀(c:Code) (n:Nat),MonoF (AG P fl ql al un kp c n)
 | .skip,n,T,H,K1,K2,hk,h=>hk _ _ _ h
 | .label _,n,T,H,K1,K2,hk,h=>hk _ _ _ h
 | .ret,n,T,H,K1,K2,hk,h=>hk _ _ _ h
 | .exit _,n,T,H,K1,K2,hk,h=>hk _ _ _ h
 | .region id ops dr,n,T,H,K1,K2,hk,h=>by
  unfold AG at h⊢;cases dr with
  | false=>exact SD _ _ _ (hk .normal) h
  | true=>
   simp only at h⊢;split at h
   ·split at h
    ·obtain⟨hl,h⟩:=BI.1 h
     exact BI.2 ⟨hl,⟨h.h.mono hk⟩⟩
    ·exact h.elim
   ·split at h
    ·exact SD _ _ _ (hk .normal) h
    ·exact V3 _ _ _ _ (hk .normal) h
 | .seq a b,n,T,H,K1,K2,hk,h=>by
  unfold AG at h⊢;split at h
  ·exact MonoF.seq (D8 a _) (D8 b _) T H K1 K2 hk h
  ·exact MonoF.seq (D8 a _) (D8 b _).cut T H K1 K2 hk h
 | .cond c a b,n,T,H,K1,K2,hk,h=>by
  unfold AG bB at h⊢;split at h
  ·rename_i t ht
   cases t with
   | true=>exact D8 a _ T H K1 K2 hk h
   | false=>exact D8 b _ T H K1 K2 hk h
  ·exact h.elim
 | .block id b,n,T,H,K1,K2,hk,h=>by
  unfold AG at h⊢;refine D8 b _ T H _ _ ?_ h;intro e T' H' h';cases e with
  | exit j=>
   simp only[Bl]at h'⊢;split at h'<;>exact hk _ _ _ h'
  | _=>exact hk _ _ _ h'
 | .loop b,n,T,H,K1,K2,hk,h=>by
  unfold AG at h⊢;split at h
  ·obtain⟨hl,⟨m,h⟩⟩:=BI.1 h
   exact BI.2 ⟨hl,⟨m,qZ (D8 b _) hk m _ _ h⟩⟩
  ·exact h.elim
 | .rangeFunc g ps a b,n,T,H,K1,K2,hk,h=>by
  unfold AG at h⊢;split at h
  ·split at h
   ·obtain⟨hl,h⟩:=BI.1 h
    exact BI.2 ⟨hl,⟨h.h.mono hk⟩⟩
   ·exact h.elim
  ·exact h.elim
 | .scope _,_,_,_,_,_,_,h=>h.elim
 | .goto _,_,_,_,_,_,_,h=>h.elim
 | .refuse _,_,_,_,_,_,_,h=>h.elim
end
end
section
section
variable {P : Program}
def XP (P:Program)(call:IR)(ops:Array Oper):List Oper→List AV→AH→Option (List AV×AH)
 | [],T,H=>some (T,H)
 | o::l,T,H=>match B3 ops T o with
  | none=>none
  | some false=>XP P call ops l (Dh T o.dst AE) H
  | some true=>match C8 P (Br T) H o with
   | some (r,H')=>XP P call ops l (Dh T o.dst r) H'
   | none=>match DY (Br T) o with
    | some (f,args)=>if B1 P f then match call f args H with
      | some (r,H')=>XP P call ops l (Dh T o.dst r) H'
      | none=>none
     else none
    | none=>none
def aA (P:Program)(pl:FuncId→Bool)(pure:Px)(call:IR):Nat→Code→List AV→AH→Option (Exit×List AV×AH)
 | 0,_,_,_=>none
 | n+1,c,T,H=>match c with
  | .skip=>some (.normal,T,H)
  | .label _=>some (.normal,T,H)
  | .ret=>some (.ret,T,H)
  | .exit id=>some (.exit id,T,H)
  | .region _ ops false=>(XP P call ops ops.toList T H).map λp=>(.normal,p.1,p.2)
  | .region _ ops true=>(pS P pl pure call ops.toList T H).map λp=>(.normal,p.1,p.2)
  | .seq a b=>match aA P pl pure call n a T H with
   | some (.normal,T',H')=>aA P pl pure call n b T' H'
   | r=>r
  | .cond x a b=>match Br T x with
   | .lit (.bool t)=>aA P pl pure call n (if t then a else b) T H
   | _=>none
  | .block id b=>match aA P pl pure call n b T H with
   | some (.exit id',T',H')=>if id'=id then some (.normal,T',H')else some (.exit id',T',H')
   | r=>r
  | .loop b=>match aA P pl pure call n b T H with
   | some (.normal,T',H')=>aA P pl pure call n (.loop b) T' H'
   | r=>r
  | _=>none
def tZ (P:Program)(pl:FuncId→Bool)(call:IR):Px:=λf args=>
 if pl f&&B1 P f&&A3 args then match call f args []with
  | some (r,X)=>K7 X 64 r
  | none=>none
 else none
def dV (P:Program)(pl:FuncId→Bool)(call:IR)(fuel:Nat)(f:FuncId)(args:List AV)(H:AH):Option (AV×AH):=
 match P.funcs[f]? with
 | some fn=>match fn.body with
  | some c=>match aA P pl (tZ P pl call) call fuel c (args++List.replicate (fn.ntmps - args.length) AE) H with
   | some (e,T,H')=>if YW e then(RN P H' T fn.results.toList).map λxs=>(WI xs,H')else none
   | none=>none
  | none=>none
 | none=>none
def run (P:Program)(ext:IR)(pl ql:FuncId→Bool)(fuel:Nat):Nat→IR
 | 0=>λ_ _ _=>none
 | n+1=>λf args H=>match ext f args H with
  | some r=>some r
  | none=>if pl f&&A3 args then match dV P ql (run P ext pl ql fuel n) fuel f args []with
    | some (r,X)=>(K7 X 64 r).map (·,H)
    | none=>none
   else dV P ql (run P ext pl ql fuel n) fuel f args H
def Cfg.start (W:World):Cfg:={w:=W,n:=0,μ:=λ_=>(0,0,0),L:=λ_=>False,K:=λ_=>False}
theorem HR.start (W:World):HR (Cfg.start W) []:=⟨rfl,λo x h=>by simp at h,λo o' x x' h=>by simp at h,λo x h=>by simp at h,λb h=>h.elim (λh=>h.elim) (λh=>h.elim),λb h=>h.elim⟩
theorem Evo.below {G':Cfg}{W:World}(h:Evo (Cfg.start W) G'):Below W.heap.size W G'.w:=⟨h.os,h.tape,h.output,h.size,λk hk=>(h.keep k hk (λh=>h)).1⟩
theorem law_calls {f:FuncId}{args:List AV}(h:ACalls P f args [] λr _=>r=.lit (.bool true))(W:World){vs:List Value}(hv:VRs (Cfg.start W) args vs):
  Calls P f vs.toArray W λe W'=>e=.returned (.bool true)∧Below W.heap.size W W':=
 (h (Cfg.start W) vs (HR.start W) hv).mono fun e w' ⟨r,H',G',v,he,hw,hE,hx,_,hr⟩=>by
  subst hr;simp only[VR]at hx;subst hx;rw[← hw];exact⟨he,hE.below⟩
end
end
end Go.Proofs.YtbppnhenlboefaaGreat.Av
section
namespace Go.Proofs.YtbppnhenlboefaaGreat.Av
open Go Go.Proofs.Tryz
theorem own:ownKnob prog.godebug=none:=by kernel_rfl
theorem laidOut:laidOutB prog=true:=by kernel_rfl
abbrev tT:=true
abbrev fF:=false
abbrev KT:=AV→AH→Prop
abbrev u0Z:AV:=.lit (.int .u8 0)
abbrev RT:=List AV→AH→Prop
def A6:C0:=KX []
def BA:Nat→Option (List Bool):=Ci []
abbrev Cr (f:FuncId)(args:List AV)(H:AH)(K:KT):Prop:=∃r H',K r H'∧BCall prog f args H r H'
def xP (b:RT→AV→AV→AH→Prop)(L:AV→AV→AH→Prop):Prop:=∀(I:Nat→AV→AV→AH→Prop) (round:∀(n:Nat) (x0 x1:AV) (H:AH) (R:RT),(∀(m:Nat) (y0 y1:AV) (H':AH),m<n→I m y0 y1 H'→R [y0,y1] H')→I n x0 x1 H→b R x0 x1 H) (n:Nat) {x0 x1:AV} {H:AH} (h:I n x0 x1 H),L x0 x1 H
theorem tH {keep:List Bool}{body:List AV→AH→Kf→Prop}{K0:Kf}{b:RT→AV→AV→AH→Prop}(hb:One body)(he:∀(R:RT) (x0 x1:AV) (H:AH),body (AY keep [x0,x1]) H (Pp keep R K0)=b R x0 x1 H):xP b (λx0 x1 H=>lp keep body [x0,x1] H K0):=by
 intro I round n x0 x1 H h;refine LW hb (LI2 I) ?_ n h;intro n X H h;obtain⟨x0,x1,rfl,h⟩:=h.elim;exact Eq.mpr (he _ x0 x1 H) (round n x0 x1 H (λX H'=>∃m,m<n∧LI2 I m X H') (λm y0 y1 H' hm hi=>⟨m,hm,hi⟩) h)
def uO (b:RT→AV→AV→AV→AH→Prop)(L:AV→AV→AV→AH→Prop):Prop:=∀(I:Nat→AV→AV→AV→AH→Prop) (round:∀(n:Nat) (x0 x1 x2:AV) (H:AH) (R:RT),(∀(m:Nat) (y0 y1 y2:AV) (H':AH),m<n→I m y0 y1 y2 H'→R [y0,y1,y2] H')→I n x0 x1 x2 H→b R x0 x1 x2 H) (n:Nat) {x0 x1 x2:AV} {H:AH} (h:I n x0 x1 x2 H),L x0 x1 x2 H
theorem lL {keep:List Bool}{body:List AV→AH→Kf→Prop}{K0:Kf}{b:RT→AV→AV→AV→AH→Prop}(hb:One body)(he:∀(R:RT) (x0 x1 x2:AV) (H:AH),body (AY keep [x0,x1,x2]) H (Pp keep R K0)=b R x0 x1 x2 H):uO b (λx0 x1 x2 H=>lp keep body [x0,x1,x2] H K0):=by
 intro I round n x0 x1 x2 H h;refine LW hb (LI3 I) ?_ n h;intro n X H h;obtain⟨x0,x1,x2,rfl,h⟩:=h.elim;exact Eq.mpr (he _ x0 x1 x2 H) (round n x0 x1 x2 H (λX H'=>∃m,m<n∧LI3 I m X H') (λm y0 y1 y2 H' hm hi=>⟨m,hm,hi⟩) h)
def Xf (b:RT→AV→AV→AV→AV→AH→Prop)(L:AV→AV→AV→AV→AH→Prop):Prop:=∀(I:Nat→AV→AV→AV→AV→AH→Prop) (round:∀(n:Nat) (x0 x1 x2 x3:AV) (H:AH) (R:RT),(∀(m:Nat) (y0 y1 y2 y3:AV) (H':AH),m<n→I m y0 y1 y2 y3 H'→R [y0,y1,y2,y3] H')→I n x0 x1 x2 x3 H→b R x0 x1 x2 x3 H) (n:Nat) {x0 x1 x2 x3:AV} {H:AH} (h:I n x0 x1 x2 x3 H),L x0 x1 x2 x3 H
theorem MD {keep:List Bool}{body:List AV→AH→Kf→Prop}{K0:Kf}{b:RT→AV→AV→AV→AV→AH→Prop}(hb:One body)(he:∀(R:RT) (x0 x1 x2 x3:AV) (H:AH),body (AY keep [x0,x1,x2,x3]) H (Pp keep R K0)=b R x0 x1 x2 x3 H):Xf b (λx0 x1 x2 x3 H=>lp keep body [x0,x1,x2,x3] H K0):=by
 intro I round n x0 x1 x2 x3 H h;refine LW hb (LI4 I) ?_ n h;intro n X H h;obtain⟨x0,x1,x2,x3,rfl,h⟩:=h.elim;exact Eq.mpr (he _ x0 x1 x2 x3 H) (round n x0 x1 x2 x3 H (λX H'=>∃m,m<n∧LI4 I m X H') (λm y0 y1 y2 y3 H' hm hi=>⟨m,hm,hi⟩) h)
def nH (b:RT→AV→AV→AV→AV→AV→AH→Prop)(L:AV→AV→AV→AV→AV→AH→Prop):Prop:=∀(I:Nat→AV→AV→AV→AV→AV→AH→Prop) (round:∀(n:Nat) (x0 x1 x2 x3 x4:AV) (H:AH) (R:RT),(∀(m:Nat) (y0 y1 y2 y3 y4:AV) (H':AH),m<n→I m y0 y1 y2 y3 y4 H'→R [y0,y1,y2,y3,y4] H')→I n x0 x1 x2 x3 x4 H→b R x0 x1 x2 x3 x4 H) (n:Nat) {x0 x1 x2 x3 x4:AV} {H:AH} (h:I n x0 x1 x2 x3 x4 H),L x0 x1 x2 x3 x4 H
theorem XF {keep:List Bool}{body:List AV→AH→Kf→Prop}{K0:Kf}{b:RT→AV→AV→AV→AV→AV→AH→Prop}(hb:One body)(he:∀(R:RT) (x0 x1 x2 x3 x4:AV) (H:AH),body (AY keep [x0,x1,x2,x3,x4]) H (Pp keep R K0)=b R x0 x1 x2 x3 x4 H):nH b (λx0 x1 x2 x3 x4 H=>lp keep body [x0,x1,x2,x3,x4] H K0):=by
 intro I round n x0 x1 x2 x3 x4 H h;refine LW hb (LI5 I) ?_ n h;intro n X H h;obtain⟨x0,x1,x2,x3,x4,rfl,h⟩:=h.elim;exact Eq.mpr (he _ x0 x1 x2 x3 x4 H) (round n x0 x1 x2 x3 x4 H (λX H'=>∃m,m<n∧LI5 I m X H') (λm y0 y1 y2 y3 y4 H' hm hi=>⟨m,hm,hi⟩) h)
def nS (b:RT→AV→AV→AV→AV→AV→AV→AH→Prop)(L:AV→AV→AV→AV→AV→AV→AH→Prop):Prop:=∀(I:Nat→AV→AV→AV→AV→AV→AV→AH→Prop) (round:∀(n:Nat) (x0 x1 x2 x3 x4 x5:AV) (H:AH) (R:RT),(∀(m:Nat) (y0 y1 y2 y3 y4 y5:AV) (H':AH),m<n→I m y0 y1 y2 y3 y4 y5 H'→R [y0,y1,y2,y3,y4,y5] H')→I n x0 x1 x2 x3 x4 x5 H→b R x0 x1 x2 x3 x4 x5 H) (n:Nat) {x0 x1 x2 x3 x4 x5:AV} {H:AH} (h:I n x0 x1 x2 x3 x4 x5 H),L x0 x1 x2 x3 x4 x5 H
theorem gI {keep:List Bool}{body:List AV→AH→Kf→Prop}{K0:Kf}{b:RT→AV→AV→AV→AV→AV→AV→AH→Prop}(hb:One body)(he:∀(R:RT) (x0 x1 x2 x3 x4 x5:AV) (H:AH),body (AY keep [x0,x1,x2,x3,x4,x5]) H (Pp keep R K0)=b R x0 x1 x2 x3 x4 x5 H):nS b (λx0 x1 x2 x3 x4 x5 H=>lp keep body [x0,x1,x2,x3,x4,x5] H K0):=by
 intro I round n x0 x1 x2 x3 x4 x5 H h;refine LW hb (LI6 I) ?_ n h;intro n X H h;obtain⟨x0,x1,x2,x3,x4,x5,rfl,h⟩:=h.elim;exact Eq.mpr (he _ x0 x1 x2 x3 x4 x5 H) (round n x0 x1 x2 x3 x4 x5 H (λX H'=>∃m,m<n∧LI6 I m X H') (λm y0 y1 y2 y3 y4 y5 H' hm hi=>⟨m,hm,hi⟩) h)
theorem yQ {keep:List Bool}{body:List AV→AH→Kf→Prop}{K0:Kf}{b:RT→AV→AV→AV→AV→AV→AV→AH→Prop}(hb:MonoF body)(he:∀(R:RT) (x0 x1 x2 x3 x4 x5:AV) (H:AH),body (AY keep [x0,x1,x2,x3,x4,x5]) H (Pp keep R K0)=b R x0 x1 x2 x3 x4 x5 H):nS b (λx0 x1 x2 x3 x4 x5 H=>lp keep body [x0,x1,x2,x3,x4,x5] H K0):=by
 intro I round n x0 x1 x2 x3 x4 x5 H h;refine cZ hb (LI6 I) ?_ n h;intro n X H h;obtain⟨x0,x1,x2,x3,x4,x5,rfl,h⟩:=h.elim;exact Eq.mpr (he _ x0 x1 x2 x3 x4 x5 H) (round n x0 x1 x2 x3 x4 x5 H (λX H'=>∃m,m<n∧LI6 I m X H') (λm y0 y1 y2 y3 y4 y5 H' hm hi=>⟨m,hm,hi⟩) h)
def xQ (b:RT→AV→AV→AV→AV→AV→AV→AV→AH→Prop)(L:AV→AV→AV→AV→AV→AV→AV→AH→Prop):Prop:=∀(I:Nat→AV→AV→AV→AV→AV→AV→AV→AH→Prop) (round:∀(n:Nat) (x0 x1 x2 x3 x4 x5 x6:AV) (H:AH) (R:RT),(∀(m:Nat) (y0 y1 y2 y3 y4 y5 y6:AV) (H':AH),m<n→I m y0 y1 y2 y3 y4 y5 y6 H'→R [y0,y1,y2,y3,y4,y5,y6] H')→I n x0 x1 x2 x3 x4 x5 x6 H→b R x0 x1 x2 x3 x4 x5 x6 H) (n:Nat) {x0 x1 x2 x3 x4 x5 x6:AV} {H:AH} (h:I n x0 x1 x2 x3 x4 x5 x6 H),L x0 x1 x2 x3 x4 x5 x6 H
theorem yS {keep:List Bool}{body:List AV→AH→Kf→Prop}{K0:Kf}{b:RT→AV→AV→AV→AV→AV→AV→AV→AH→Prop}(hb:One body)(he:∀(R:RT) (x0 x1 x2 x3 x4 x5 x6:AV) (H:AH),body (AY keep [x0,x1,x2,x3,x4,x5,x6]) H (Pp keep R K0)=b R x0 x1 x2 x3 x4 x5 x6 H):xQ b (λx0 x1 x2 x3 x4 x5 x6 H=>lp keep body [x0,x1,x2,x3,x4,x5,x6] H K0):=by
 intro I round n x0 x1 x2 x3 x4 x5 x6 H h;refine LW hb (LI7 I) ?_ n h;intro n X H h;obtain⟨x0,x1,x2,x3,x4,x5,x6,rfl,h⟩:=h.elim;exact Eq.mpr (he _ x0 x1 x2 x3 x4 x5 x6 H) (round n x0 x1 x2 x3 x4 x5 x6 H (λX H'=>∃m,m<n∧LI7 I m X H') (λm y0 y1 y2 y3 y4 y5 y6 H' hm hi=>⟨m,hm,hi⟩) h)
theorem yR {keep:List Bool}{body:List AV→AH→Kf→Prop}{K0:Kf}{b:RT→AV→AV→AV→AV→AV→AV→AV→AH→Prop}(hb:MonoF body)(he:∀(R:RT) (x0 x1 x2 x3 x4 x5 x6:AV) (H:AH),body (AY keep [x0,x1,x2,x3,x4,x5,x6]) H (Pp keep R K0)=b R x0 x1 x2 x3 x4 x5 x6 H):xQ b (λx0 x1 x2 x3 x4 x5 x6 H=>lp keep body [x0,x1,x2,x3,x4,x5,x6] H K0):=by
 intro I round n x0 x1 x2 x3 x4 x5 x6 H h;refine cZ hb (LI7 I) ?_ n h;intro n X H h;obtain⟨x0,x1,x2,x3,x4,x5,x6,rfl,h⟩:=h.elim;exact Eq.mpr (he _ x0 x1 x2 x3 x4 x5 x6 H) (round n x0 x1 x2 x3 x4 x5 x6 H (λX H'=>∃m,m<n∧LI7 I m X H') (λm y0 y1 y2 y3 y4 y5 y6 H' hm hi=>⟨m,hm,hi⟩) h)
def yK (b:RT→AV→AV→AV→AV→AV→AV→AV→AV→AH→Prop)(L:AV→AV→AV→AV→AV→AV→AV→AV→AH→Prop):Prop:=∀(I:Nat→AV→AV→AV→AV→AV→AV→AV→AV→AH→Prop) (round:∀(n:Nat) (x0 x1 x2 x3 x4 x5 x6 x7:AV) (H:AH) (R:RT),(∀(m:Nat) (y0 y1 y2 y3 y4 y5 y6 y7:AV) (H':AH),m<n→I m y0 y1 y2 y3 y4 y5 y6 y7 H'→R [y0,y1,y2,y3,y4,y5,y6,y7] H')→I n x0 x1 x2 x3 x4 x5 x6 x7 H→b R x0 x1 x2 x3 x4 x5 x6 x7 H) (n:Nat) {x0 x1 x2 x3 x4 x5 x6 x7:AV} {H:AH} (h:I n x0 x1 x2 x3 x4 x5 x6 x7 H),L x0 x1 x2 x3 x4 x5 x6 x7 H
theorem wW {keep:List Bool}{body:List AV→AH→Kf→Prop}{K0:Kf}{b:RT→AV→AV→AV→AV→AV→AV→AV→AV→AH→Prop}(hb:One body)(he:∀(R:RT) (x0 x1 x2 x3 x4 x5 x6 x7:AV) (H:AH),body (AY keep [x0,x1,x2,x3,x4,x5,x6,x7]) H (Pp keep R K0)=b R x0 x1 x2 x3 x4 x5 x6 x7 H):yK b (λx0 x1 x2 x3 x4 x5 x6 x7 H=>lp keep body [x0,x1,x2,x3,x4,x5,x6,x7] H K0):=by
 intro I round n x0 x1 x2 x3 x4 x5 x6 x7 H h;refine LW hb (LI8 I) ?_ n h;intro n X H h;obtain⟨x0,x1,x2,x3,x4,x5,x6,x7,rfl,h⟩:=h.elim;exact Eq.mpr (he _ x0 x1 x2 x3 x4 x5 x6 x7 H) (round n x0 x1 x2 x3 x4 x5 x6 x7 H (λX H'=>∃m,m<n∧LI8 I m X H') (λm y0 y1 y2 y3 y4 y5 y6 y7 H' hm hi=>⟨m,hm,hi⟩) h)
def If:FuncId→Bool:=TR [188,179,181,23,54,142,148,180,182,145,22,73,170,50,172,141,171,173,98,99,208,55,56,110,144,53,146,201,204,111,223,94,167,169,163,143,184,209,225,74,147]
def yW:FuncId→Bool:=TR [230]
theorem Lg:prog.follows .mixedOrders=true:=by kernel_rfl
theorem fok (fl:C0)(ql:FuncId→Bool)(kp:Nat→Option (List Bool)){f:FuncId}{fn:Func}{args:List AV}{H:AH}{K:KT}{X:Prop}(hf:prog.funcs[f]?=some fn)(h:X)(hc:ZV fl ql fn=true:=by kernel_rfl)(he:O8 prog fl ql Ap Ap kp fn args H K=X:=by kernel_rfl):Cr f args H K:=pU Lg hf hc (Eq.mpr he h)
def Mq:Nat→Option (List Bool):=Ci [(10,mk 75 0 [1,2,3,6,33,34,35])]
def Nu (p:List Bool)(n:Nat):List AV→AH→Kf→Prop:=AG prog A6 If Ap Ap Mq (sub p (AJ f188)) n
def KS (x1 x2 x3 x6 x33 x34 x35:AV)(H:AH)(K:KT):Prop:=lp (mk 75 0 [1,2,3,6,33,34,35]) (Nu [tT,tT,tT,tT,fF,tT,fF,fF] 11) [x1,x2,x3,x6,x33,x34,x35] H (Bl 0 (Bn (Nu [tT,tT,tT,tT,tT] 17) (Bc prog f188.results.toList K)))
def Ji (R10:RT)(x1 x2 x3 x6 x33 x34 x35:AV)(H:AH)(K:KT):Prop:=
 bO (Aq .lss x35 x34) λv0=>
 bB v0 λt1=>bI t1 (
 bO (Bh 2 x33 x35) λv2=>
 bO (Ar true 2 H v2) λv3=>
 bH (A9 H (.agg [(I 0),(I 0)])) λv4 H5=>
 bS (AR 2 H5 v4 v3) λH6=>
 bO (Ac 0 v4) λv7=>
 bO (Ar false 1 H6 v7) λv8=>
 bO (Aq .quo v8 (I 8)) λv9=>
 bC (BCall prog 202 [x3,v9] H6) λv10 H11=>
 bO (Ac 1 x3) λv12=>
 bO (Ar false 1 H11 v12) λv13=>
 bO (Bh 9 v13 v10) λv14=>
 bO (Ac 1 v14) λv15=>
 bO (Ac 0 v4) λv16=>
 bO (Ar false 1 H11 v16) λv17=>
 bO (Aq .mul v9 (I 8)) λv18=>
 bO (Aq .sub v17 v18) λv19=>
 bO (LO 8 1 H11 v15 (some v19) none) λv20=>
 bO (Ac 0 v4) λv21=>
 bO (Ar false 1 H11 v21) λv22=>
 bO (Aq .sub v22 x1) λv23=>
 bO (AW 1 x2 (some v23) none none) λv24=>
 bO (Ac 1 v4) λv25=>
 bO (Ar false 1 H11 v25) λv26=>
 bO (AW 1 v24 none (some v26) none) λv27=>
 bH (Oz 1 H11 v20 v27) λv28 H29=>
 bO (Aq .add x35 (I 1)) λv30=>
 R10 [x1,x2,x3,x6,x33,x34,v30] H29)
 (bO (Ac 0 x3) λv31=>
 bO (Ar false 1 H v31) λv32=>
 bO (Bf x2) λv33=>
 bO (Aq .add x1 v33) λv34=>
 bO (amm aF [v32,v34]) λv35=>
 bO (Ac 0 x3) λv36=>
 bS (AR 1 H v36 v35) λH37=>
 bO (Ar true 2 H37 x3) λv38=>
 bS (AR 2 H37 x6 v38) λH39=>
 bO (Ar true 2 H39 x6) λv40=>
 K (.tup [v40,(B true)]) H39)
theorem MB {K:KT}:xQ (λR x1 x2 x3 x6 x33 x34 x35 H=>Ji R x1 x2 x3 x6 x33 x34 x35 H K) (λx1 x2 x3 x6 x33 x34 x35 H=>KS x1 x2 x3 x6 x33 x34 x35 H K):=yS (A4 _ _) (λ_ _ _ _ _ _ _ _ _=>by kernel_rfl)
def Q6 (a0 a1 a2:AV)(H:AH)(K:KT):Prop:=
 bH (A9 H a0) λv0 H1=>
 bH (A9 H1 (.agg [(I 0),Ad])) λv2 H3=>
 bO (Ar true 2 H3 v0) λv4=>
 bP (PCall prog 54 [v4] H3) λv5=>
 bO (EX .not v5) λv6=>
 bG v6 false λw7=>
 gO w7 (some a1) λv8=>
 bG v6 false λw9=>
 gO w9 (some a2) λv10=>
 bG v6 false λw11=>
 gO w11 (Bf v10) λv12=>
 bG v6 false λw13=>
 gP w13 (PCall prog 98 [v8,v12] H3) λv14=>
 bG v6 false λw15=>
 gO w15 (EX .not v14) λv16=>
 bO (A7 v6 (B true) v16) λv17=>
 bB v17 λt18=>bI t18 (
 bO (FD [(I 0),Ad] []) λv19=>
 bS (AR 2 H3 v2 v19) λH20=>
 bO (Ar true 2 H20 v2) λv21=>
 K (.tup [v21,(B false)]) H20)
 (bO (Ar true 2 H3 v0) λv22=>
 bC (BCall prog 103 [v22] H3) λv23 H24=>
 bS (AR 2 H24 v0 v23) λH25=>
 bO (Bf a2) λv26=>
 bO (Aq .eql v26 (I 0)) λv27=>
 bB v27 λt28=>bI t28 (
 bO (Ar true 2 H25 v0) λv29=>
 bS (AR 2 H25 v2 v29) λH30=>
 bO (Ar true 2 H30 v2) λv31=>
 K (.tup [v31,(B true)]) H30)
 (bO (Bf a2) λv32=>
 bO (FD [(I 0),(I 0)] [(0,1,a1),(1,1,v32)]) λv33=>
 bP (PCall prog 99 [v33,(I 8)] H25) λv34=>
 bO (Bf v34) λv35=>
 KS a1 a2 v0 v2 v34 v35 (I 0) H25 K))
theorem TH {a0 a1 a2:AV}{H:AH}{K:KT}(h:Q6 a0 a1 a2 H K):Cr 188 [a0,a1,a2] H K:=
 fok A6 If Mq func188 h
def Ns:Nat→Option (List Bool):=Ci [(11,mk 77 0 [1,2,7,41,42,43]),(8,mk 77 0 [1,2,7,41,42,43])]
def Hy (p:List Bool)(n:Nat):List AV→AH→Kf→Prop:=AG prog A6 If Ap Ap Ns (sub p (AJ f23)) n
def FA (R8:RT)(x1 x2 x7 x41 x42 x43:AV)(H:AH)(K:KT):Prop:=jn (mk 77 0 [1,2,7,41,42,43]) (Hy [tT,tT,tT,tT,fF,tT,fF,fF,tT,tT,tT] 15) [x1,x2,x7,x41,x42,x43] H (Pp (mk 77 0 [1,2,7,41,42,43]) R8 (Bl 0 (Bn (Hy [tT,tT,tT,tT,tT] 15) (Bc prog f23.results.toList K))))
def Nr (x1 x2 x7 x41 x42 x43:AV)(H:AH)(K:KT):Prop:=lp (mk 77 0 [1,2,7,41,42,43]) (Hy [tT,tT,tT,tT,fF,tT,fF,fF] 9) [x1,x2,x7,x41,x42,x43] H (Bl 0 (Bn (Hy [tT,tT,tT,tT,tT] 15) (Bc prog f23.results.toList K)))
def JO (R8:RT)(x1 x2 x7 x41 x42 x43:AV)(H:AH)(K:KT):Prop:=
 bO (Aq .add x43 (I 1)) λv0=>
 R8 [x1,x2,x7,x41,x42,v0] H
theorem P8 (R8:RT)(x1 x2 x7 x41 x42 x43:AV)(H:AH)(K:KT):FA R8 x1 x2 x7 x41 x42 x43 H K=JO R8 x1 x2 x7 x41 x42 x43 H K:=(Cx _ _ _ _ _).trans (by kernel_rfl)
def KQ (R8:RT)(x1 x2 x7 x41 x42 x43:AV)(H:AH)(K:KT):Prop:=
 bO (Aq .lss x43 x42) λv0=>
 bB v0 λt1=>bI t1 (
 bO (Bh 9 x41 x43) λv2=>
 bO (Ar true 9 H v2) λv3=>
 bH (A9 H (.agg [(I 0),u0Z,u0Z,u0Z,u0Z,u0Z,u0Z,u0Z,u0Z])) λv4 H5=>
 bS (AR 9 H5 v4 v3) λH6=>
 bO (Ac 0 v4) λv7=>
 bO (Ar false 1 H6 v7) λv8=>
 bP (PCall prog 56 [v8] H6) λv9=>
 bO (FD [(I 0),(I 0)] [(0,1,x1),(1,1,x2)]) λv10=>
 bP (PCall prog 55 [v9,v10] H6) λv11=>
 bH (A9 H6 (.agg [(I 0),(I 0)])) λv12 H13=>
 bS (AR 2 H13 v12 v11) λH14=>
 bO (Ac 1 v12) λv15=>
 bO (Ar false 1 H14 v15) λv16=>
 bO (Aq .gtr v16 (I 0)) λv17=>
 bB v17 λt18=>bI t18 (
 bO (Ac 0 v12) λv19=>
 bO (Ar false 1 H14 v19) λv20=>
 bO (Aq .sub v20 x1) λv21=>
 bO (AW 1 x7 (some v21) none none) λv22=>
 bO (Ac 1 v4) λv23=>
 bO (Ac 0 v12) λv24=>
 bO (Ar false 1 H14 v24) λv25=>
 bO (Ac 0 v4) λv26=>
 bO (Ar false 1 H14 v26) λv27=>
 bO (Aq .mul v27 (I 8)) λv28=>
 bO (Aq .sub v25 v28) λv29=>
 bO (LO 8 1 H14 v23 (some v29) none) λv30=>
 bO (Ac 1 v12) λv31=>
 bO (Ar false 1 H14 v31) λv32=>
 bO (AW 1 v30 none (some v32) none) λv33=>
 bH (Oz 1 H14 v22 v33) λv34 H35=>
 FA R8 x1 x2 x7 x41 x42 x43 H35 K)
 (FA R8 x1 x2 x7 x41 x42 x43 H14 K))
 (K x7 H)
theorem O3 {K:KT}:nS (λR x1 x2 x7 x41 x42 x43 H=>KQ R x1 x2 x7 x41 x42 x43 H K) (λx1 x2 x7 x41 x42 x43 H=>Nr x1 x2 x7 x41 x42 x43 H K):=gI (A4 _ _) (λ_ _ _ _ _ _ _ _=>by kernel_rfl)
def Tb (a0 a1 a2:AV)(H:AH)(K:KT):Prop:=
 bH (A9 H a0) λv0 H1=>
 bO (Ar true 2 H1 v0) λv2=>
 bP (PCall prog 54 [v2] H1) λv3=>
 bO (EX .not v3) λv4=>
 bG v4 false λw5=>
 gO w5 (some a1) λv6=>
 bG v4 false λw7=>
 gO w7 (Aq .lss v6 (I 0)) λv8=>
 bO (A7 v4 (B true) v8) λv9=>
 bG v9 false λw10=>
 gO w10 (some a2) λv11=>
 bG v9 false λw12=>
 gO w12 (Aq .lss v11 (I 0)) λv13=>
 bO (A7 v9 (B true) v13) λv14=>
 bG v14 false λw15=>
 gO w15 (some a2) λv16=>
 bG v14 false λw17=>
 gO w17 (Aq .gtr v16 (I 4096)) λv18=>
 bO (A7 v14 (B true) v18) λv19=>
 bG v19 false λw20=>
 gO w20 (some a1) λv21=>
 bG v19 false λw22=>
 gO w22 (Ac 0 v0) λv23=>
 bG v19 false λw24=>
 gO w24 (Ar false 1 H1 v23) λv25=>
 bG v19 false λw26=>
 gO w26 (Aq .geq v21 v25) λv27=>
 bO (A7 v19 (B true) v27) λv28=>
 bB v28 λt29=>bI t29 (
 K Ad H1)
 (bO (Ac 0 v0) λv30=>
 bO (Ar false 1 H1 v30) λv31=>
 bO (Aq .sub v31 a1) λv32=>
 bO (amm XA [a2,v32]) λv33=>
 bH (qM 1 1 [u0Z] H1 v33 v33) λv34 H35=>
 bO (Ac 1 v0) λv36=>
 bO (Ar false 1 H35 v36) λv37=>
 bO (Bf v37) λv38=>
 Nr a1 v33 v34 v37 v38 (I 0) H35 K)
theorem UN {a0 a1 a2:AV}{H:AH}{K:KT}(h:Tb a0 a1 a2 H K):Cr 23 [a0,a1,a2] H K:=
 fok A6 If Ns func23 h
def Pb:Nat→Option (List Bool):=Ci [(7,mk 40 0 [1,3,15,16,17])]
def Q3 (p:List Bool)(n:Nat):List AV→AH→Kf→Prop:=AG prog A6 If Ap Ap Pb (sub p (AJ f54)) n
def Pa (x1 x3 x15 x16 x17:AV)(H:AH)(K:KT):Prop:=lp (mk 40 0 [1,3,15,16,17]) (Q3 [tT,tT,tT,fF,tT,fF,fF] 8) [x1,x3,x15,x16,x17] H (Bl 0 (Bn (Q3 [tT,tT,tT,tT] 15) (Bc prog f54.results.toList K)))
def Mm (R7:RT)(x1 x3 x15 x16 x17:AV)(H:AH)(K:KT):Prop:=
 bO (Aq .lss x17 x16) λv0=>
 bB v0 λt1=>bI t1 (
 bO (Bh 9 x15 x17) λv2=>
 bO (Ar true 9 H v2) λv3=>
 bH (A9 H (.agg [(I 0),u0Z,u0Z,u0Z,u0Z,u0Z,u0Z,u0Z,u0Z])) λv4 H5=>
 bS (AR 9 H5 v4 v3) λH6=>
 bO (Ac 0 v4) λv7=>
 bO (Ar false 1 H6 v7) λv8=>
 bO (Aq .leq v8 x3) λv9=>
 bG v9 false λw10=>
 gO w10 (Ac 0 v4) λv11=>
 bG v9 false λw12=>
 gO w12 (Ar false 1 H6 v11) λv13=>
 bG v9 false λw14=>
 gO w14 (Aq .geq v13 (I 137438953472)) λv15=>
 bO (A7 v9 (B true) v15) λv16=>
 bG v16 false λw17=>
 gO w17 (Ar true 9 H6 v4) λv18=>
 bG v16 false λw19=>
 gO w19 (Ac 0 x1) λv20=>
 bG v16 false λw21=>
 gO w21 (Ar false 1 H6 v20) λv22=>
 bG v16 false λw23=>
 gP w23 (PCall prog 110 [v18,v22] H6) λv24=>
 bG v16 false λw25=>
 gO w25 (EX .not v24) λv26=>
 bO (A7 v16 (B true) v26) λv27=>
 bB v27 λt28=>bI t28 (
 K (B false) H6)
 (bO (Ac 0 v4) λv29=>
 bO (Ar false 1 H6 v29) λv30=>
 bO (Aq .add x17 (I 1)) λv31=>
 R7 [x1,v30,x15,x16,v31] H6))
 (K (B true) H)
theorem P7 {K:KT}:nH (λR x1 x3 x15 x16 x17 H=>Mm R x1 x3 x15 x16 x17 H K) (λx1 x3 x15 x16 x17 H=>Pa x1 x3 x15 x16 x17 H K):=XF (A4 _ _) (λ_ _ _ _ _ _ _=>by kernel_rfl)
def UL (a0:AV)(H:AH)(K:KT):Prop:=
 bH (A9 H a0) λv0 H1=>
 bO (Ac 0 v0) λv2=>
 bO (Ar false 1 H1 v2) λv3=>
 bO (Aq .lss v3 (I 0)) λv4=>
 bG v4 false λw5=>
 gO w5 (Ac 0 v0) λv6=>
 bG v4 false λw7=>
 gO w7 (Ar false 1 H1 v6) λv8=>
 bG v4 false λw9=>
 gO w9 (Aq .gtr v8 (I 1099511627776)) λv10=>
 bO (A7 v4 (B true) v10) λv11=>
 bB v11 λt12=>bI t12 (
 K (B false) H1)
 (bO (Ac 1 v0) λv13=>
 bO (Ar false 1 H1 v13) λv14=>
 bO (Bf v14) λv15=>
 Pa v0 (I (-1)) v14 v15 (I 0) H1 K)
theorem VW {a0:AV}{H:AH}{K:KT}(h:UL a0 H K):Cr 54 [a0] H K:=
 fok A6 If Pb func54 h
def Fi:Nat→Option (List Bool):=Ci [(15,mk 70 0 [1,3,4,5]),(6,mk 70 0 [1,3])]
def BZ (p:List Bool)(n:Nat):List AV→AH→Kf→Prop:=AG prog A6 If Ap Ap Fi (sub p (AJ f145)) n
def Dk (R6:RT)(x1 x3 x4 x5:AV)(H:AH)(K:KT):Prop:=lp (mk 70 0 [1,3,4,5]) (BZ [tT,tT,fF,tT,fF,fF,tT,fF,fF,tT,tT,tT,fF,fF] 16) [x1,x3,x4,x5] H (Bl 2 (Bl 1 (Bn (BZ [tT,tT,fF,tT,fF,fF,tT,tT] 21) (Pp (mk 70 0 [1,3]) R6 (Bl 0 (Bn (BZ [tT,tT,tT] 21) (Bc prog f145.results.toList K)))))))
def Fh (x1 x3:AV)(H:AH)(K:KT):Prop:=lp (mk 70 0 [1,3]) (BZ [tT,tT,fF,tT,fF,fF] 7) [x1,x3] H (Bl 0 (Bn (BZ [tT,tT,tT] 21) (Bc prog f145.results.toList K)))
def Ew (R6:RT)(R15:RT)(x1 x3 x4 x5:AV)(H:AH)(K:KT):Prop:=
 bO (Aq .lss x5 (I 8)) λv0=>
 bB v0 λt1=>bI t1 (
 bO (Aq .mul x4 (I 8)) λv2=>
 bO (Aq .add v2 x5) λv3=>
 bO (Ac 0 x1) λv4=>
 bO (Ar false 1 H v4) λv5=>
 bO (Aq .geq v3 v5) λv6=>
 bG v6 true λw7=>
 gO w7 (Ac 1 x1) λv8=>
 bG v6 true λw9=>
 gO w9 (Ar false 1 H v8) λv10=>
 bG v6 true λw11=>
 gO w11 (some x3) λv12=>
 bG v6 true λw13=>
 gO w13 (some x5) λv14=>
 bG v6 true λw15=>
 gO w15 (Bh 9 v10 v12) λv16=>
 bG v6 true λw17=>
 gO w17 (Ac 1 v16) λv18=>
 bG v6 true λw19=>
 gO w19 (TB 8 1 v18 v14) λv20=>
 bG v6 true λw21=>
 gO w21 (Ar false 1 H v20) λv22=>
 bG v6 true λw23=>
 gO w23 (Aq .neq v22 u0Z) λv24=>
 bO (A7 v6 v24 (B false)) λv25=>
 bB v25 λt26=>bI t26 (
 K (B false) H)
 (bO (Aq .add x5 (I 1)) λv27=>
 R15 [x1,x3,x4,v27] H))
 (bO (Aq .add x3 (I 1)) λv28=>
 R6 [x1,v28] H)
theorem GL (R6:RT){K:KT}:Xf (λR x1 x3 x4 x5 H=>Ew R6 R x1 x3 x4 x5 H K) (λx1 x3 x4 x5 H=>Dk R6 x1 x3 x4 x5 H K):=MD (A4 _ _) (λ_ _ _ _ _ _=>by kernel_rfl)
def EA (R6:RT)(x1 x3:AV)(H:AH)(K:KT):Prop:=
 bO (Ac 1 x1) λv0=>
 bO (Ar false 1 H v0) λv1=>
 bO (Bf v1) λv2=>
 bO (Aq .lss x3 v2) λv3=>
 bB v3 λt4=>bI t4 (
 bO (Ac 1 x1) λv5=>
 bO (Ar false 1 H v5) λv6=>
 bO (Bh 9 v6 x3) λv7=>
 bO (Ac 0 v7) λv8=>
 bO (Ar false 1 H v8) λv9=>
 bO (Aq .lss v9 (I 0)) λv10=>
 bG v10 false λw11=>
 gO w11 (some v9) λv12=>
 bG v10 false λw13=>
 gO w13 (Aq .geq v12 (I 137438953472)) λv14=>
 bO (A7 v10 (B true) v14) λv15=>
 bG v15 false λw16=>
 gO w16 (some x3) λv17=>
 bG v15 false λw18=>
 gO w18 (Aq .gtr v17 (I 0)) λv19=>
 bG v15 false λw20=>
 gO w20 (some v19) λv21=>
 bG v21 true λw22=>
 gO w22 (Ac 1 x1) λv23=>
 bG v21 true λw24=>
 gO w24 (Ar false 1 H v23) λv25=>
 bG v21 true λw26=>
 gO w26 (some x3) λv27=>
 bG v21 true λw28=>
 gO w28 (Aq .sub v27 (I 1)) λv29=>
 bG v21 true λw30=>
 gO w30 (Bh 9 v25 v29) λv31=>
 bG v21 true λw32=>
 gO w32 (Ac 0 v31) λv33=>
 bG v21 true λw34=>
 gO w34 (Ar false 1 H v33) λv35=>
 bG v21 true λw36=>
 gO w36 (some v9) λv37=>
 bG v21 true λw38=>
 gO w38 (Aq .geq v35 v37) λv39=>
 bG v15 false λw40=>
 gO w40 (A7 v21 v39 (B false)) λv41=>
 bO (A7 v15 (B true) v41) λv42=>
 bB v42 λt43=>bI t43 (
 K (B false) H)
 (Dk R6 x1 x3 v9 (I 0) H K))
 (K (B true) H)
theorem Hu {K:KT}:xP (λR x1 x3 H=>EA R x1 x3 H K) (λx1 x3 H=>Fh x1 x3 H K):=tH (A4 _ _) (λ_ _ _ _=>by kernel_rfl)
def GD (a0:AV)(H:AH)(K:KT):Prop:=
 bH (A9 H a0) λv0 H1=>
 bO (Ac 0 v0) λv2=>
 bO (Ar false 1 H1 v2) λv3=>
 bO (Aq .lss v3 (I 0)) λv4=>
 bG v4 false λw5=>
 gO w5 (Ac 0 v0) λv6=>
 bG v4 false λw7=>
 gO w7 (Ar false 1 H1 v6) λv8=>
 bG v4 false λw9=>
 gO w9 (Aq .gtr v8 (I 1099511627776)) λv10=>
 bO (A7 v4 (B true) v10) λv11=>
 bB v11 λt12=>bI t12 (
 K (B false) H1)
 (Fh v0 (I 0) H1 K)
theorem JC {a0:AV}{H:AH}{K:KT}(h:GD a0 H K):Cr 145 [a0] H K:=
 fok A6 If Fi func145 h
def Tc (a0 a1:AV)(H:AH)(K:KT):Prop:=
 bH (A9 H a0) λv0 H1=>
 bH (A9 H1 a1) λv2 H3=>
 bO (Ac 0 v0) λv4=>
 bO (Ar false 1 H3 v4) λv5=>
 bO (Ac 0 v2) λv6=>
 bO (Ar false 1 H3 v6) λv7=>
 bO (Aq .eql v5 v7) λv8=>
 bG v8 true λw9=>
 gO w9 (Ac 1 v0) λv10=>
 bG v8 true λw11=>
 gO w11 (Ar false 1 H3 v10) λv12=>
 bG v8 true λw13=>
 gO w13 (Ac 1 v2) λv14=>
 bG v8 true λw15=>
 gO w15 (Ar false 1 H3 v14) λv16=>
 bG v8 true λw17=>
 gP w17 (PCall prog 53 [v12,v16] H3) λv18=>
 bO (A7 v8 v18 (B false)) λv19=>
 K v19 H3
theorem UO {a0 a1:AV}{H:AH}{K:KT}(h:Tc a0 a1 H K):Cr 22 [a0,a1] H K:=
 fok A6 If BA func22 h
def ES:Nat→Option (List Bool):=Ci [(7,mk 47 0 [1,2,3,7,8])]
def Fj (p:List Bool)(n:Nat):List AV→AH→Kf→Prop:=AG prog A6 If Ap Ap ES (sub p (AJ f73)) n
def ER (x1 x2 x3 x7 x8:AV)(H:AH)(K:KT):Prop:=lp (mk 47 0 [1,2,3,7,8]) (Fj [tT,tT,tT,fF,tT,fF,fF] 8) [x1,x2,x3,x7,x8] H (Bl 0 (Bn (Fj [tT,tT,tT,tT] 11) (Bc prog f73.results.toList K)))
def Ex (R7:RT)(x1 x2 x3 x7 x8:AV)(H:AH)(K:KT):Prop:=
 bO (Aq .lss x8 x2) λv0=>
 bG v0 true λw1=>
 gO w1 (some x1) λv2=>
 bG v0 true λw3=>
 gO w3 (Ac 0 x3) λv4=>
 bG v0 true λw5=>
 gO w5 (Ar false 1 H v4) λv6=>
 bG v0 true λw7=>
 gO w7 (some x8) λv8=>
 bG v0 true λw9=>
 gO w9 (Aq .sub v6 v8) λv10=>
 bG v0 true λw11=>
 gO w11 (Aq .lss v2 v10) λv12=>
 bO (A7 v0 v12 (B false)) λv13=>
 bB v13 λt14=>bI t14 (
 bO (Ar true 2 H x3) λv15=>
 bO (Aq .add x1 x8) λv16=>
 bP (PCall prog 146 [v15,v16] H) λv17=>
 bH (Cv H 1 1 (Bg [u0Z] 1) [(0,1,v17)]) λv18 H19=>
 bH (MJ 1 1 H19 x7 v18) λv20 H21=>
 bO (Aq .add x8 (I 1)) λv22=>
 R7 [x1,x2,x3,v20,v22] H21)
 (K x7 H)
theorem GM {K:KT}:nH (λR x1 x2 x3 x7 x8 H=>Ex R x1 x2 x3 x7 x8 H K) (λx1 x2 x3 x7 x8 H=>ER x1 x2 x3 x7 x8 H K):=XF (A4 _ _) (λ_ _ _ _ _ _ _=>by kernel_rfl)
def FY (a0 a1 a2:AV)(H:AH)(K:KT):Prop:=
 bH (A9 H a0) λv0 H1=>
 bO (Ar true 2 H1 v0) λv2=>
 bP (PCall prog 145 [v2] H1) λv3=>
 bO (EX .not v3) λv4=>
 bG v4 false λw5=>
 gO w5 (some a1) λv6=>
 bG v4 false λw7=>
 gO w7 (Aq .lss v6 (I 0)) λv8=>
 bO (A7 v4 (B true) v8) λv9=>
 bG v9 false λw10=>
 gO w10 (some a2) λv11=>
 bG v9 false λw12=>
 gO w12 (Aq .lss v11 (I 0)) λv13=>
 bO (A7 v9 (B true) v13) λv14=>
 bG v14 false λw15=>
 gO w15 (some a2) λv16=>
 bG v14 false λw17=>
 gO w17 (Aq .gtr v16 (I 4096)) λv18=>
 bO (A7 v14 (B true) v18) λv19=>
 bB v19 λt20=>bI t20 (
 K Ad H1)
 (ER a1 a2 v0 Ad (I 0) H1 K)
theorem Jy {a0 a1 a2:AV}{H:AH}{K:KT}(h:FY a0 a1 a2 H K):Cr 73 [a0,a1,a2] H K:=
 fok A6 If ES func73 h
def Jf:Nat→Option (List Bool):=Ci [(11,mk 50 0 [4,8]),(7,mk 50 0 [1,2,3,4,8,10])]
def Gv (p:List Bool)(n:Nat):List AV→AH→Kf→Prop:=AG prog A6 If Ap Ap Jf (sub p (AJ f170)) n
def DH (x4 x8:AV)(H:AH)(K:KT):Prop:=jn (mk 50 0 [4,8]) (Gv [tT,tT,tT,tT,tT] 13) [x4,x8] H (Bc prog f170.results.toList K)
def Je (x1 x2 x3 x4 x8 x10:AV)(H:AH)(K:KT):Prop:=lp (mk 50 0 [1,2,3,4,8,10]) (Gv [tT,tT,tT,fF,tT,fF,fF] 8) [x1,x2,x3,x4,x8,x10] H (Bl 0 (Bn (Gv [tT,tT,tT,tT] 11) (Bc prog f170.results.toList K)))
def GQ (x4 x8:AV)(H:AH)(K:KT):Prop:=
 bO (Ar true 2 H x4) λv0=>
 bS (AR 2 H x8 v0) λH1=>
 bO (Ar true 2 H1 x8) λv2=>
 K (.tup [v2,(B true)]) H1
theorem LS (x4 x8:AV)(H:AH)(K:KT):DH x4 x8 H K=GQ x4 x8 H K:=(Cx _ _ _ _ _).trans (by kernel_rfl)
def HL (R7:RT)(x1 x2 x3 x4 x8 x10:AV)(H:AH)(K:KT):Prop:=
 bO (Aq .add x1 x2) λv0=>
 bO (Aq .sub v0 (I 1)) λv1=>
 bO (Aq .quo v1 (I 8)) λv2=>
 bO (Aq .leq x10 v2) λv3=>
 bB v3 λt4=>bI t4 (
 bC (BCall prog 202 [x4,x10] H) λv5 H6=>
 bO (Aq .add x10 (I 1)) λv7=>
 R7 [x1,x2,x3,x4,x8,v7] H6)
 (bO (EX .not x3) λv8=>
 bB v8 λt9=>bI t9 (
 bO (Ac 0 x4) λv10=>
 bO (Ar false 1 H v10) λv11=>
 bO (Aq .add x1 x2) λv12=>
 bO (amm aF [v11,v12]) λv13=>
 bO (Ac 0 x4) λv14=>
 bS (AR 1 H v14 v13) λH15=>
 DH x4 x8 H15 K)
 (DH x4 x8 H K))
theorem KP {K:KT}:nS (λR x1 x2 x3 x4 x8 x10 H=>HL R x1 x2 x3 x4 x8 x10 H K) (λx1 x2 x3 x4 x8 x10 H=>Je x1 x2 x3 x4 x8 x10 H K):=gI (A4 _ _) (λ_ _ _ _ _ _ _ _=>by kernel_rfl)
def Ml (a0 a1 a2 a3:AV)(H:AH)(K:KT):Prop:=
 bH (A9 H a0) λv0 H1=>
 bH (A9 H1 (.agg [(I 0),Ad])) λv2 H3=>
 bO (Ar true 2 H3 v0) λv4=>
 bP (PCall prog 54 [v4] H3) λv5=>
 bO (EX .not v5) λv6=>
 bG v6 false λw7=>
 gO w7 (some a1) λv8=>
 bG v6 false λw9=>
 gO w9 (some a2) λv10=>
 bG v6 false λw11=>
 gP w11 (PCall prog 201 [v8,v10] H3) λv12=>
 bG v6 false λw13=>
 gO w13 (EX .not v12) λv14=>
 bO (A7 v6 (B true) v14) λv15=>
 bG v15 false λw16=>
 gO w16 (some a2) λv17=>
 bG v15 false λw18=>
 gO w18 (Aq .gtr v17 (I 32768)) λv19=>
 bO (A7 v15 (B true) v19) λv20=>
 bB v20 λt21=>bI t21 (
 bO (FD [(I 0),Ad] []) λv22=>
 bS (AR 2 H3 v2 v22) λH23=>
 bO (Ar true 2 H23 v2) λv24=>
 K (.tup [v24,(B false)]) H23)
 (bO (Ar true 2 H3 v0) λv25=>
 bC (BCall prog 103 [v25] H3) λv26 H27=>
 bS (AR 2 H27 v0 v26) λH28=>
 bO (Aq .quo a1 (I 8)) λv29=>
 Je a1 a2 a3 v0 v2 v29 H28 K)
theorem P6 {a0 a1 a2 a3:AV}{H:AH}{K:KT}(h:Ml a0 a1 a2 a3 H K):Cr 170 [a0,a1,a2,a3] H K:=
 fok A6 If Jf func170 h
def Jh:Nat→Option (List Bool):=Ci [(9,mk 45 0 [2,3,4,30,31])]
def JQ (p:List Bool)(n:Nat):List AV→AH→Kf→Prop:=AG prog A6 If Ap Ap Jh (sub p (AJ f50)) n
def Jg (x2 x3 x4 x30 x31:AV)(H:AH)(K:KT):Prop:=lp (mk 45 0 [2,3,4,30,31]) (JQ [tT,tT,tT,tT,tT,fF,tT,fF,fF] 10) [x2,x3,x4,x30,x31] H (Bl 0 (Bn (JQ [tT,tT,tT,tT,tT,tT] 14) (Bc prog f50.results.toList K)))
def HM (R9:RT)(x2 x3 x4 x30 x31:AV)(H:AH)(K:KT):Prop:=
 bO (Aq .lss x31 x30) λv0=>
 bB v0 λt1=>bI t1 (
 bO (Ac 1 x2) λv2=>
 bO (Ar false 1 H v2) λv3=>
 bO (Bh 9 v3 x31) λv4=>
 bO (Ar false 1 H x3) λv5=>
 bO (Ar false 1 H x3) λv6=>
 bO (Aq .sub (I 1099511627776) v6) λv7=>
 bO (FD [(I 0),(I 0)] [(0,1,v5),(1,1,v7)]) λv8=>
 bC (BCall prog 106 [v4,v8] H) λv9 H10=>
 bO (Aq .add x31 (I 1)) λv11=>
 R9 [x2,x3,x4,x30,v11] H10)
 (bO (Ar true 2 H x2) λv12=>
 bS (AR 2 H x4 v12) λH13=>
 bO (Ar true 2 H13 x4) λv14=>
 K (.tup [v14,(B true)]) H13)
theorem KR {K:KT}:nH (λR x2 x3 x4 x30 x31 H=>HM R x2 x3 x4 x30 x31 H K) (λx2 x3 x4 x30 x31 H=>Jg x2 x3 x4 x30 x31 H K):=XF (A4 _ _) (λ_ _ _ _ _ _ _=>by kernel_rfl)
def Mp (a0 a1:AV)(H:AH)(K:KT):Prop:=
 bH (A9 H a0) λv0 H1=>
 bH (A9 H1 a1) λv2 H3=>
 bH (A9 H3 (.agg [(I 0),Ad])) λv4 H5=>
 bO (Ar true 2 H5 v0) λv6=>
 bP (PCall prog 54 [v6] H5) λv7=>
 bO (EX .not v7) λv8=>
 bG v8 false λw9=>
 gO w9 (Ar false 1 H5 v2) λv10=>
 bG v8 false λw11=>
 gO w11 (Aq .lss v10 (I 0)) λv12=>
 bO (A7 v8 (B true) v12) λv13=>
 bG v13 false λw14=>
 gO w14 (Ar false 1 H5 v2) λv15=>
 bG v13 false λw16=>
 gO w16 (Aq .gtr v15 (I 1099511627776)) λv17=>
 bO (A7 v13 (B true) v17) λv18=>
 bB v18 λt19=>bI t19 (
 bO (FD [(I 0),Ad] []) λv20=>
 bS (AR 2 H5 v4 v20) λH21=>
 bO (Ar true 2 H21 v4) λv22=>
 K (.tup [v22,(B false)]) H21)
 (bO (Ar true 2 H5 v0) λv23=>
 bC (BCall prog 103 [v23] H5) λv24 H25=>
 bS (AR 2 H25 v0 v24) λH26=>
 bO (Ar false 1 H26 v2) λv27=>
 bO (Ac 0 v0) λv28=>
 bS (AR 1 H26 v28 v27) λH29=>
 bO (Ac 1 v0) λv30=>
 bO (Ar false 1 H29 v30) λv31=>
 bC (BCall prog 104 [v31,(.fn (.func 105) [] [v2])] H29) λv32 H33=>
 bO (Ac 1 v0) λv34=>
 bS (AR 1 H33 v34 v32) λH35=>
 bO (Ac 1 v0) λv36=>
 bO (Ar false 1 H35 v36) λv37=>
 bO (Bf v37) λv38=>
 Jg v0 v2 v4 v38 (I 0) H35 K)
theorem P9 {a0 a1:AV}{H:AH}{K:KT}(h:Mp a0 a1 H K):Cr 50 [a0,a1] H K:=
 fok A6 If Jh func50 h
def Mo:Nat→Option (List Bool):=Ci [(9,mk 44 0 [3,6,8,32,33])]
def Nq (p:List Bool)(n:Nat):List AV→AH→Kf→Prop:=AG prog A6 If Ap Ap Mo (sub p (AJ f172)) n
def Mn (x3 x6 x8 x32 x33:AV)(H:AH)(K:KT):Prop:=lp (mk 44 0 [3,6,8,32,33]) (Nq [tT,tT,tT,tT,tT,fF,tT,fF,fF] 10) [x3,x6,x8,x32,x33] H (Bl 0 (Bn (Nq [tT,tT,tT,tT,tT,tT] 14) (Bc prog f172.results.toList K)))
def JN (R9:RT)(x3 x6 x8 x32 x33:AV)(H:AH)(K:KT):Prop:=
 bO (Aq .lss x33 x32) λv0=>
 bB v0 λt1=>bI t1 (
 bO (Ac 1 x3) λv2=>
 bO (Ar false 1 H v2) λv3=>
 bO (Bh 9 v3 x33) λv4=>
 bO (Ar true 2 H x8) λv5=>
 bC (BCall prog 106 [v4,v5] H) λv6 H7=>
 bO (Aq .add x33 (I 1)) λv8=>
 R9 [x3,x6,x8,x32,v8] H7)
 (bO (Ar true 2 H x3) λv9=>
 bS (AR 2 H x6 v9) λH10=>
 bO (Ar true 2 H10 x6) λv11=>
 K (.tup [v11,(B true)]) H10)
theorem Np {K:KT}:nH (λR x3 x6 x8 x32 x33 H=>JN R x3 x6 x8 x32 x33 H K) (λx3 x6 x8 x32 x33 H=>Mn x3 x6 x8 x32 x33 H K):=XF (A4 _ _) (λ_ _ _ _ _ _ _=>by kernel_rfl)
def Q4 (a0 a1 a2:AV)(H:AH)(K:KT):Prop:=
 bH (A9 H a0) λv0 H1=>
 bH (A9 H1 (.agg [(I 0),Ad])) λv2 H3=>
 bO (Ar true 2 H3 v0) λv4=>
 bP (PCall prog 54 [v4] H3) λv5=>
 bO (EX .not v5) λv6=>
 bG v6 false λw7=>
 gO w7 (some a1) λv8=>
 bG v6 false λw9=>
 gO w9 (some a2) λv10=>
 bG v6 false λw11=>
 gP w11 (PCall prog 201 [v8,v10] H3) λv12=>
 bG v6 false λw13=>
 gO w13 (EX .not v12) λv14=>
 bO (A7 v6 (B true) v14) λv15=>
 bB v15 λt16=>bI t16 (
 bO (FD [(I 0),Ad] []) λv17=>
 bS (AR 2 H3 v2 v17) λH18=>
 bO (Ar true 2 H18 v2) λv19=>
 K (.tup [v19,(B false)]) H18)
 (bO (Ar true 2 H3 v0) λv20=>
 bC (BCall prog 103 [v20] H3) λv21 H22=>
 bS (AR 2 H22 v0 v21) λH23=>
 bO (FD [(I 0),(I 0)] [(0,1,a1),(1,1,a2)]) λv24=>
 bH (A9 H23 (.agg [(I 0),(I 0)])) λv25 H26=>
 bS (AR 2 H26 v25 v24) λH27=>
 bO (Ac 1 v0) λv28=>
 bO (Ar false 1 H27 v28) λv29=>
 bC (BCall prog 104 [v29,(.fn (.func 203) [] [v25])] H27) λv30 H31=>
 bO (Ac 1 v0) λv32=>
 bS (AR 1 H31 v32 v30) λH33=>
 bO (Ac 1 v0) λv34=>
 bO (Ar false 1 H33 v34) λv35=>
 bO (Bf v35) λv36=>
 Mn v0 v2 v25 v36 (I 0) H33 K)
theorem TG {a0 a1 a2:AV}{H:AH}{K:KT}(h:Q4 a0 a1 a2 H K):Cr 172 [a0,a1,a2] H K:=
 fok A6 If Mo func172 h
def Ta (a0 a1:AV)(H:AH)(K:KT):Prop:=
 bO (Aq .geq a0 (I 0)) λv0=>
 bG v0 true λw1=>
 gO w1 (some a1) λv2=>
 bG v0 true λw3=>
 gO w3 (Aq .leq v2 (I 4096)) λv4=>
 bO (A7 v0 v4 (B false)) λv5=>
 bG v5 true λw6=>
 gO w6 (some a0) λv7=>
 bG v5 true λw8=>
 gO w8 (some a1) λv9=>
 bG v5 true λw10=>
 gO w10 (Aq .sub (I 1099511627776) v9) λv11=>
 bG v5 true λw12=>
 gO w12 (Aq .leq v7 v11) λv13=>
 bO (A7 v5 v13 (B false)) λv14=>
 K v14 H
theorem UK {a0 a1:AV}{H:AH}{K:KT}(h:Ta a0 a1 H K):Cr 98 [a0,a1] H K:=
 fok A6 If BA func98 h
def Si:C0:=KX [(1,[(1,some 4)])]
def Pd (a0:AV)(H:AH)(K:KT):Prop:=
 bH (A9 H a0) λv0 H1=>
 bH (A9 H1 (.agg [(I 0),Ad])) λv2 H3=>
 bO (Ac 0 v0) λv4=>
 bO (Ar false 1 H3 v4) λv5=>
 bO (Ac 1 v0) λv6=>
 bO (Ar false 1 H3 v6) λv7=>
 bC (BCall prog 95 [v7] H3) λv8 H9=>
 bO (FD [(I 0),Ad] [(0,1,v5),(1,1,v8)]) λv10=>
 bS (AR 2 H9 v2 v10) λH11=>
(Ar false 1 H9 v4=some v5)∧
 bO (Ar true 2 H11 v2) λv12=>
 K v12 H11
theorem Sj {a0:AV}{H:AH}{K:KT}(h:Pd a0 H K):Cr 103 [a0] H K:=
 fok Si If BA func103 h
def Rh:Nat→Option (List Bool):=Ci [(6,mk 48 0 [1,2,5])]
def Tp (p:List Bool)(n:Nat):List AV→AH→Kf→Prop:=AG prog A6 If Ap Ap Rh (sub p (AJ f99)) n
def Re (x1 x2 x5:AV)(H:AH)(K:KT):Prop:=lp (mk 48 0 [1,2,5]) (Tp [tT,tT,tT,fF,fF,fF] 7) [x1,x2,x5] H (Bl 0 (Bn (Tp [tT,tT,tT,tT] 11) (Bc prog f99.results.toList K)))
def NE (R6:RT)(x1 x2 x5:AV)(H:AH)(K:KT):Prop:=
 bO (Ac 1 x2) λv0=>
 bO (Ar false 1 H v0) λv1=>
 bO (Aq .gtr v1 (I 0)) λv2=>
 bB v2 λt3=>bI t3 (
 bO (Ac 1 x2) λv4=>
 bO (Ar false 1 H v4) λv5=>
 bO (Ac 0 x2) λv6=>
 bO (Ar false 1 H v6) λv7=>
 bO (Aq .rem v7 x1) λv8=>
 bO (Aq .sub x1 v8) λv9=>
 bO (amm XA [v5,v9]) λv10=>
 bO (Ac 0 x2) λv11=>
 bO (Ar false 1 H v11) λv12=>
 bO (FD [(I 0),(I 0)] [(0,1,v12),(1,1,v10)]) λv13=>
 bH (Cv H 2 1 (Bg [(I 0),(I 0)] 1) [(0,2,v13)]) λv14 H15=>
 bH (MJ 2 16 H15 x5 v14) λv16 H17=>
 bO (Ac 0 x2) λv18=>
 bO (Ar false 1 H17 v18) λv19=>
 bO (Aq .add v19 v10) λv20=>
 bO (Ac 1 x2) λv21=>
 bO (Ar false 1 H17 v21) λv22=>
 bO (Aq .sub v22 v10) λv23=>
 bO (FD [(I 0),(I 0)] [(0,1,v20),(1,1,v23)]) λv24=>
 bS (AR 2 H17 x2 v24) λH25=>
 R6 [x1,x2,v16] H25)
 (K x5 H)
theorem Rg {K:KT}:uO (λR x1 x2 x5 H=>NE R x1 x2 x5 H K) (λx1 x2 x5 H=>Re x1 x2 x5 H K):=lL (A4 _ _) (λ_ _ _ _ _=>by kernel_rfl)
def WM (a0 a1:AV)(H:AH)(K:KT):Prop:=
 bH (A9 H a0) λv0 H1=>
 bO (Ar true 2 H1 v0) λv2=>
 bP (PCall prog 111 [v2] H1) λv3=>
 bO (EX .not v3) λv4=>
 bG v4 false λw5=>
 gO w5 (Ac 1 v0) λv6=>
 bG v4 false λw7=>
 gO w7 (Ar false 1 H1 v6) λv8=>
 bG v4 false λw9=>
 gO w9 (Aq .gtr v8 (I 4096)) λv10=>
 bO (A7 v4 (B true) v10) λv11=>
 bG v11 false λw12=>
 gO w12 (some a1) λv13=>
 bG v11 false λw14=>
 gO w14 (Aq .lss v13 (I 1)) λv15=>
 bO (A7 v11 (B true) v15) λv16=>
 bB v16 λt17=>bI t17 (
 K Ad H1)
 (Re a1 v0 Ad H1 K)
theorem XH {a0 a1:AV}{H:AH}{K:KT}(h:WM a0 a1 H K):Cr 99 [a0,a1] H K:=
 fok A6 If Rh func99 h
def Ny:Nat→Option (List Bool):=Ci [(2,mk 31 0 [5])]
def VY (p:List Bool)(n:Nat):List AV→AH→Kf→Prop:=AG prog A6 If Ap Ap Ny (sub p (AJ f202)) n
def Jj (x5:AV)(H:AH)(K:KT):Prop:=jn (mk 31 0 [5]) (VY [tT,tT,tT] 4) [x5] H (Bc prog f202.results.toList K)
def Hj (x5:AV)(H:AH)(K:KT):Prop:=
 K x5 H
theorem JT (x5:AV)(H:AH)(K:KT):Jj x5 H K=Hj x5 H K:=(Cx _ _ _ _ _).trans (by kernel_rfl)
def Td (a0 a1:AV)(H:AH)(K:KT):Prop:=
 bO (Af a0) λv0=>
 bO (Ac 1 v0) λv1=>
 bO (Ar false 1 H v1) λv2=>
 bP (PCall prog 208 [v2,a1] H) λv3=>
 bO (Ai v3 0) λv4=>
 bO (Ai v3 1) λv5=>
 bO (EX .not v5) λv6=>
 bB v6 λt7=>bI t7 (
 bO (Af a0) λv8=>
 bO (Ac 1 v8) λv9=>
 bO (Ar false 1 H v9) λv10=>
 bO (FD [(I 0),u0Z,u0Z,u0Z,u0Z,u0Z,u0Z,u0Z,u0Z] [(0,1,a1)]) λv11=>
 bH (Cv H 9 1 (Bg [(I 0),u0Z,u0Z,u0Z,u0Z,u0Z,u0Z,u0Z,u0Z] 1) [(0,9,v11)]) λv12 H13=>
 bC (BCall prog 222 [v10,v4,v12] H13) λv14 H15=>
 bO (Af a0) λv16=>
 bO (Ac 1 v16) λv17=>
 bS (AR 1 H15 v17 v14) λH18=>
 Jj v4 H18 K)
 (Jj v4 H K)
theorem UR {a0 a1:AV}{H:AH}{K:KT}(h:Td a0 a1 H K):Cr 202 [a0,a1] H K:=
 fok A6 If Ny func202 h
def Q8 (a0 a1:AV)(H:AH)(K:KT):Prop:=
 bP (PCall prog 223 [a0,a1,(.fn (.func 224) [] [])] H) λv0=>
 bO (Ai v0 0) λv1=>
 bO (Ai v0 1) λv2=>
 K (.tup [v1,v2]) H
theorem TJ {a0 a1:AV}{H:AH}{K:KT}(h:Q8 a0 a1 H K):Cr 208 [a0,a1] H K:=
 fok A6 If BA func208 h
def Zk (a0 a1:AV)(H:AH)(K:KT):Prop:=
 bH (A9 H a0) λv0 H1=>
 bH (A9 H1 a1) λv2 H3=>
 bH (A9 H3 (.agg [(I 0),(I 0)])) λv4 H5=>
 bO (Ar true 2 H5 v0) λv6=>
 bP (PCall prog 111 [v6] H5) λv7=>
 bO (EX .not v7) λv8=>
 bG v8 false λw9=>
 gO w9 (Ar true 2 H5 v2) λv10=>
 bG v8 false λw11=>
 gP w11 (PCall prog 111 [v10] H5) λv12=>
 bG v8 false λw13=>
 gO w13 (EX .not v12) λv14=>
 bO (A7 v8 (B true) v14) λv15=>
 bB v15 λt16=>bI t16 (
 bO (FD [(I 0),(I 0)] []) λv17=>
 bS (AR 2 H5 v4 v17) λH18=>
 bO (Ar true 2 H18 v4) λv19=>
 K v19 H18)
 (bO (Ac 0 v0) λv20=>
 bO (Ar false 1 H5 v20) λv21=>
 bO (Ac 0 v2) λv22=>
 bO (Ar false 1 H5 v22) λv23=>
 bO (amm aF [v21,v23]) λv24=>
 bO (Ac 0 v0) λv25=>
 bO (Ar false 1 H5 v25) λv26=>
 bO (Ac 1 v0) λv27=>
 bO (Ar false 1 H5 v27) λv28=>
 bO (Aq .add v26 v28) λv29=>
 bO (Ac 0 v2) λv30=>
 bO (Ar false 1 H5 v30) λv31=>
 bO (Ac 1 v2) λv32=>
 bO (Ar false 1 H5 v32) λv33=>
 bO (Aq .add v31 v33) λv34=>
 bO (amm XA [v29,v34]) λv35=>
 bO (Aq .geq v24 v35) λv36=>
 bB v36 λt37=>bI t37 (
 bO (FD [(I 0),(I 0)] []) λv38=>
 bS (AR 2 H5 v4 v38) λH39=>
 bO (Ar true 2 H39 v4) λv40=>
 K v40 H39)
 (bO (Aq .sub v35 v24) λv41=>
 bO (FD [(I 0),(I 0)] [(0,1,v24),(1,1,v41)]) λv42=>
 bS (AR 2 H5 v4 v42) λH43=>
 bO (Ar true 2 H43 v4) λv44=>
 K v44 H43))
theorem Zl {a0 a1:AV}{H:AH}{K:KT}(h:Zk a0 a1 H K):Cr 55 [a0,a1] H K:=
 fok A6 If BA func55 h
def QA (a0:AV)(H:AH)(K:KT):Prop:=
 bH (A9 H (.agg [(I 0),(I 0)])) λv0 H1=>
 bO (Aq .mul a0 (I 8)) λv2=>
 bO (FD [(I 0),(I 0)] [(0,1,v2),(1,1,(I 8))]) λv3=>
 bS (AR 2 H1 v0 v3) λH4=>
 bO (Ar true 2 H4 v0) λv5=>
 K v5 H4
theorem TK {a0:AV}{H:AH}{K:KT}(h:QA a0 H K):Cr 56 [a0] H K:=
 fok A6 If BA func56 h
def Ms:Nat→Option (List Bool):=Ci [(3,mk 25 0 [1,2,8,9])]
def Nw (p:List Bool)(n:Nat):List AV→AH→Kf→Prop:=AG prog A6 If Ap Ap Ms (sub p (AJ f110)) n
def Mr (x1 x2 x8 x9:AV)(H:AH)(K:KT):Prop:=lp (mk 25 0 [1,2,8,9]) (Nw [tT,fF,tT,fF,fF] 4) [x1,x2,x8,x9] H (Bl 0 (Bn (Nw [tT,tT] 10) (Bc prog f110.results.toList K)))
def JS (R3:RT)(x1 x2 x8 x9:AV)(H:AH)(K:KT):Prop:=
 bO (Aq .lss x9 (I 8)) λv0=>
 bB v0 λt1=>bI t1 (
 bO (jG false 1 8 1 x8 x9) λv2=>
 bO (Aq .neq v2 u0Z) λv3=>
 bG v3 true λw4=>
 gO w4 (Ac 0 x2) λv5=>
 bG v3 true λw6=>
 gO w6 (Ar false 1 H v5) λv7=>
 bG v3 true λw8=>
 gO w8 (Aq .mul v7 (I 8)) λv9=>
 bG v3 true λw10=>
 gO w10 (some x9) λv11=>
 bG v3 true λw12=>
 gO w12 (Aq .add v9 v11) λv13=>
 bG v3 true λw14=>
 gO w14 (some x1) λv15=>
 bG v3 true λw16=>
 gO w16 (Aq .geq v13 v15) λv17=>
 bO (A7 v3 v17 (B false)) λv18=>
 bB v18 λt19=>bI t19 (
 K (B false) H)
 (bO (Aq .add x9 (I 1)) λv20=>
 R3 [x1,x2,x8,v20] H))
 (K (B true) H)
theorem Nv {K:KT}:Xf (λR x1 x2 x8 x9 H=>JS R x1 x2 x8 x9 H K) (λx1 x2 x8 x9 H=>Mr x1 x2 x8 x9 H K):=MD (A4 _ _) (λ_ _ _ _ _ _=>by kernel_rfl)
def Q7 (a0 a1:AV)(H:AH)(K:KT):Prop:=
 bH (A9 H a0) λv0 H1=>
 bO (Ac 1 v0) λv2=>
 bO (Ar true 8 H1 v2) λv3=>
 Mr a1 v0 v3 (I 0) H1 K
theorem TI {a0 a1:AV}{H:AH}{K:KT}(h:Q7 a0 a1 H K):Cr 110 [a0,a1] H K:=
 fok A6 If Ms func110 h
def I4:Nat→Option (List Bool):=Ci [(3,mk 22 0 [1,2,5])]
def Jz (p:List Bool)(n:Nat):List AV→AH→Kf→Prop:=AG prog A6 If Ap Ap I4 (sub p (AJ f144)) n
def I3 (x1 x2 x5:AV)(H:AH)(K:KT):Prop:=lp (mk 22 0 [1,2,5]) (Jz [tT,fF,tT,fF,fF] 4) [x1,x2,x5] H (Bl 0 (Bn (Jz [tT,tT] 9) (Bc prog f144.results.toList K)))
def Hd (R3:RT)(x1 x2 x5:AV)(H:AH)(K:KT):Prop:=
 bO (Ac 1 x2) λv0=>
 bO (Ar false 1 H v0) λv1=>
 bO (Bf v1) λv2=>
 bO (Aq .lss x5 v2) λv3=>
 bB v3 λt4=>bI t4 (
 bO (Ac 1 x2) λv5=>
 bO (Ar false 1 H v5) λv6=>
 bO (Bh 9 v6 x5) λv7=>
 bO (Ac 0 v7) λv8=>
 bO (Ar false 1 H v8) λv9=>
 bO (Aq .eql v9 x1) λv10=>
 bB v10 λt11=>bI t11 (
 K x5 H)
 (bO (Aq .add x5 (I 1)) λv12=>
 R3 [x1,x2,v12] H))
 (K (I (-1)) H)
theorem K3 {K:KT}:uO (λR x1 x2 x5 H=>Hd R x1 x2 x5 H K) (λx1 x2 x5 H=>I3 x1 x2 x5 H K):=lL (A4 _ _) (λ_ _ _ _ _=>by kernel_rfl)
def Lz (a0 a1:AV)(H:AH)(K:KT):Prop:=
 bH (A9 H a0) λv0 H1=>
 I3 a1 v0 (I 0) H1 K
theorem OE {a0 a1:AV}{H:AH}{K:KT}(h:Lz a0 a1 H K):Cr 144 [a0,a1] H K:=
 fok A6 If I4 func144 h
def D3:Nat→Option (List Bool):=Ci [(6,mk 26 0 [0,1,12,13])]
def DE (p:List Bool)(n:Nat):List AV→AH→Kf→Prop:=AG prog A6 If Ap Ap D3 (sub p (AJ f53)) n
def D2 (x0 x1 x12 x13:AV)(H:AH)(K:KT):Prop:=lp (mk 26 0 [0,1,12,13]) (DE [tT,tT,fF,tT,fF,fF] 7) [x0,x1,x12,x13] H (Bl 0 (Bn (DE [tT,tT,tT] 13) (Bc prog f53.results.toList K)))
def Dm (R6:RT)(x0 x1 x12 x13:AV)(H:AH)(K:KT):Prop:=
 bO (Aq .lss x13 x12) λv0=>
 bB v0 λt1=>bI t1 (
 bO (Bh 9 x0 x13) λv2=>
 bO (Ar true 9 H v2) λv3=>
 bO (Bh 9 x1 x13) λv4=>
 bO (Ar true 9 H v4) λv5=>
 bO (M7 prog .neq 52 v3 v5) λv6=>
 bB v6 λt7=>bI t7 (
 K (B false) H)
 (bO (Aq .add x13 (I 1)) λv8=>
 R6 [x0,x1,x12,v8] H))
 (K (B true) H)
theorem Fd {K:KT}:Xf (λR x0 x1 x12 x13 H=>Dm R x0 x1 x12 x13 H K) (λx0 x1 x12 x13 H=>D2 x0 x1 x12 x13 H K):=MD (A4 _ _) (λ_ _ _ _ _ _=>by kernel_rfl)
def Ei (a0 a1:AV)(H:AH)(K:KT):Prop:=
 bO (Bf a0) λv0=>
 bO (Bf a1) λv1=>
 bO (Aq .neq v0 v1) λv2=>
 bB v2 λt3=>bI t3 (
 K (B false) H)
 (bO (Bf a0) λv4=>
 D2 a0 a1 v4 (I 0) H K)
theorem GF {a0 a1:AV}{H:AH}{K:KT}(h:Ei a0 a1 H K):Cr 53 [a0,a1] H K:=
 fok A6 If D3 func53 h
def NK (a0 a1:AV)(H:AH)(K:KT):Prop:=
 bH (A9 H a0) λv0 H1=>
 bO (Ar true 2 H1 v0) λv2=>
 bO (Aq .quo a1 (I 8)) λv3=>
 bP (PCall prog 144 [v2,v3] H1) λv4=>
 bO (Aq .lss v4 (I 0)) λv5=>
 bB v5 λt6=>bI t6 (
 K u0Z H1)
 (bO (Ac 1 v0) λv7=>
 bO (Ar false 1 H1 v7) λv8=>
 bO (Aq .rem a1 (I 8)) λv9=>
 bO (Bh 9 v8 v4) λv10=>
 bO (Ac 1 v10) λv11=>
 bO (TB 8 1 v11 v9) λv12=>
 bO (Ar false 1 H1 v12) λv13=>
 K v13 H1)
theorem Rz {a0 a1:AV}{H:AH}{K:KT}(h:NK a0 a1 H K):Cr 146 [a0,a1] H K:=
 fok A6 If BA func146 h
def Te (a0 a1:AV)(H:AH)(K:KT):Prop:=
 bO (Aq .geq a0 (I 0)) λv0=>
 bG v0 true λw1=>
 gO w1 (some a1) λv2=>
 bG v0 true λw3=>
 gO w3 (Aq .geq v2 (I 1)) λv4=>
 bO (A7 v0 v4 (B false)) λv5=>
 bG v5 true λw6=>
 gO w6 (some a1) λv7=>
 bG v5 true λw8=>
 gO w8 (Aq .leq v7 (I 1099511627776)) λv9=>
 bO (A7 v5 v9 (B false)) λv10=>
 bG v10 true λw11=>
 gO w11 (some a0) λv12=>
 bG v10 true λw13=>
 gO w13 (some a1) λv14=>
 bG v10 true λw15=>
 gO w15 (Aq .sub (I 1099511627776) v14) λv16=>
 bG v10 true λw17=>
 gO w17 (Aq .leq v12 v16) λv18=>
 bO (A7 v10 v18 (B false)) λv19=>
 K v19 H
theorem UT {a0 a1:AV}{H:AH}{K:KT}(h:Te a0 a1 H K):Cr 201 [a0,a1] H K:=
 fok A6 If BA func201 h
def CG:Nat→Option (List Bool):=Ci [(10,mk 42 0 [0,1,5,6]),(7,mk 42 0 [0,1,5,6])]
def Bp (p:List Bool)(n:Nat):List AV→AH→Kf→Prop:=AG prog A6 If Ap Ap CG (sub p (AJ f104)) n
def BJ (R7:RT)(x0 x1 x5 x6:AV)(H:AH)(K:KT):Prop:=jn (mk 42 0 [0,1,5,6]) (Bp [tT,tT,tT,fF,tT,fF,fF,tT,tT] 14) [x0,x1,x5,x6] H (Pp (mk 42 0 [0,1,5,6]) R7 (Bl 0 (Bn (Bp [tT,tT,tT,tT] 14) (Bc prog f104.results.toList K))))
def CF (x0 x1 x5 x6:AV)(H:AH)(K:KT):Prop:=lp (mk 42 0 [0,1,5,6]) (Bp [tT,tT,tT,fF,tT,fF,fF] 8) [x0,x1,x5,x6] H (Bl 0 (Bn (Bp [tT,tT,tT,tT] 14) (Bc prog f104.results.toList K)))
def B7 (R7:RT)(x0 x1 x5 x6:AV)(H:AH)(K:KT):Prop:=
 bO (Aq .add x6 (I 1)) λv0=>
 R7 [x0,x1,x5,v0] H
theorem Ct (R7:RT)(x0 x1 x5 x6:AV)(H:AH)(K:KT):BJ R7 x0 x1 x5 x6 H K=B7 R7 x0 x1 x5 x6 H K:=(Cx _ _ _ _ _).trans (by kernel_rfl)
def C3 (R7:RT)(x0 x1 x5 x6:AV)(H:AH)(K:KT):Prop:=
 bO (Bf x0) λv0=>
 bO (Aq .lss x6 v0) λv1=>
 bB v1 λt2=>bI t2 (
 bO (Bh 9 x0 x6) λv3=>
 bO (Ar true 9 H v3) λv4=>
 bH (A9 H (.agg [(I 0),u0Z,u0Z,u0Z,u0Z,u0Z,u0Z,u0Z,u0Z])) λv5 H6=>
 bS (AR 9 H6 v5 v4) λH7=>
 bO (Ar true 9 H7 v5) λv8=>
 bF true x1 λk11 f11 c11=>
 bT (B1 prog k11||!true)<|
 bC (BCall prog k11 (f11++[v8]++c11) H7) λv9 H10=>
 bO (EX .not v9) λv12=>
 bB v12 λt13=>bI t13 (
 bO (Ar true 9 H10 v5) λv14=>
 bO (Bh 9 x0 x5) λv15=>
 bS (AR 9 H10 v15 v14) λH16=>
 bO (Aq .add x5 (I 1)) λv17=>
 BJ R7 x0 x1 v17 x6 H16 K)
 (BJ R7 x0 x1 x5 x6 H10 K))
 (bO (AW 9 x0 (some x5) none none) λv18=>
 bS (nI [(I 0),u0Z,u0Z,u0Z,u0Z,u0Z,u0Z,u0Z,u0Z] H v18) λH19=>
 bO (AW 9 x0 none (some x5) none) λv20=>
 K v20 H19)
theorem En {K:KT}:Xf (λR x0 x1 x5 x6 H=>C3 R x0 x1 x5 x6 H K) (λx0 x1 x5 x6 H=>CF x0 x1 x5 x6 H K):=MD (A4 _ _) (λ_ _ _ _ _ _=>by kernel_rfl)
def Dl (a0 a1:AV)(H:AH)(K:KT):Prop:=
 bP (PCall prog 167 [a0,a1] H) λv0=>
 bO (Aq .eql v0 (I (-1))) λv1=>
 bB v1 λt2=>bI t2 (
 K a0 H)
 (bO (Aq .add v0 (I 1)) λv3=>
 CF a0 a1 v0 v3 H K)
theorem Fc {a0 a1:AV}{H:AH}{K:KT}(h:Dl a0 a1 H K):Cr 104 [a0,a1] H K:=
 fok A6 If CG func104 h
def JP (a0 a1:AV)(H:AH)(K:KT):Prop:=
 bH (A9 H a0) λv0 H1=>
 bO (Ac 0 v0) λv2=>
 bO (Ar false 1 H1 v2) λv3=>
 bO (Aq .mul v3 (I 8)) λv4=>
 bO (Ar false 1 H1 a1) λv5=>
 bO (Aq .geq v4 v5) λv6=>
 K v6 H1
theorem Nt {a0 a1:AV}{H:AH}{K:KT}(h:JP a0 a1 H K):Cr 105 [a0,a1] H K:=
 fok A6 If BA func105 h
def N1:C0:=KX [(1,[(3,some 7),(5,some 7)])]
def N2:Nat→Option (List Bool):=Ci [(3,mk 33 0 [0,4,14,15])]
def VZ (p:List Bool)(n:Nat):List AV→AH→Kf→Prop:=AG prog N1 If Ap Ap N2 (sub p (AJ f106)) n
def N0 (x0 x4 x14 x15:AV)(H:AH)(K:KT):Prop:=lp (mk 33 0 [0,4,14,15]) (VZ [tT,tT,tT,fF,fF] 4) [x0,x4,x14,x15] H (Bl 0 (Bc prog f106.results.toList K))
def KU (R3:RT)(x0 x4 x14 x15:AV)(H:AH)(K:KT):Prop:=
 bO (Aq .lss x15 x14) λv0=>
 bB v0 λt1=>bI t1 (
 bO (Ac 0 x4) λv2=>
 bO (Ar false 1 H v2) λv3=>
 bO (Af x0) λv4=>
 bO (Ac 0 v4) λv5=>
 bO (Ar false 1 H v5) λv6=>
 bO (Aq .mul v6 (I 8)) λv7=>
 bO (Aq .sub v3 v7) λv8=>
 bO (Aq .add v8 x15) λv9=>
 bO (Af x0) λv10=>
 bO (Ac 1 v10) λv11=>
 bO (TB 8 1 v11 v9) λv12=>
 bS (AR 1 H v12 u0Z) λH13=>
 bO (Aq .add x15 (I 1)) λv14=>
 R3 [x0,x4,x14,v14] H13)
 (K (.tup []) H)
theorem O4 {K:KT}:Xf (λR x0 x4 x14 x15 H=>KU R x0 x4 x14 x15 H K) (λx0 x4 x14 x15 H=>N0 x0 x4 x14 x15 H K):=MD (A4 _ _) (λ_ _ _ _ _ _=>by kernel_rfl)
def Tf (a0 a1:AV)(H:AH)(K:KT):Prop:=
 bH (A9 H a1) λv0 H1=>
 bO (Af a0) λv2=>
 bO (Ac 0 v2) λv3=>
 bO (Ar false 1 H1 v3) λv4=>
 bP (BPure prog 56 [v4]) λv5=>
 bO (Ar true 2 H1 v0) λv6=>
 bP (BPure prog 55 [v5,v6]) λv7=>
 bH (A9 H1 (.agg [(I 0),(I 0)])) λv8 H9=>
 bS (AR 2 H9 v8 v7) λH10=>
(Ar false 1 H9 v3=some v4)∧
(Ar true 2 H9 v0=some v6)∧
 bO (Ac 1 v8) λv11=>
 bO (Ar false 1 H10 v11) λv12=>
 N0 a0 v8 v12 (I 0) H10 K
theorem UU {a0 a1:AV}{H:AH}{K:KT}(h:Tf a0 a1 H K):Cr 106 [a0,a1] H K:=
 fok N1 If N2 func106 h
def Nn (a0 a1:AV)(H:AH)(K:KT):Prop:=
 bH (A9 H a0) λv0 H1=>
 bO (Ac 0 v0) λv2=>
 bO (Ar false 1 H1 v2) λv3=>
 bP (BPure prog 56 [v3]) λv4=>
 bO (Ar true 2 H1 a1) λv5=>
 bP (BPure prog 204 [v4,v5]) λv6=>
 K v6 H1
theorem Q5 {a0 a1:AV}{H:AH}{K:KT}(h:Nn a0 a1 H K):Cr 203 [a0,a1] H K:=
 fok A6 If BA func203 h
def Vq (a0 a1:AV)(H:AH)(K:KT):Prop:=
 bH (A9 H a0) λv0 H1=>
 bH (A9 H1 a1) λv2 H3=>
 bO (Ar true 2 H3 v0) λv4=>
 bP (PCall prog 111 [v4] H3) λv5=>
 bO (EX .not v5) λv6=>
 bG v6 false λw7=>
 gO w7 (Ar true 2 H3 v2) λv8=>
 bG v6 false λw9=>
 gP w9 (PCall prog 111 [v8] H3) λv10=>
 bG v6 false λw11=>
 gO w11 (EX .not v10) λv12=>
 bO (A7 v6 (B true) v12) λv13=>
 bB v13 λt14=>bI t14 (
 K (B false) H3)
 (bO (Ac 1 v0) λv15=>
 bO (Ar false 1 H3 v15) λv16=>
 bO (Aq .eql v16 (I 0)) λv17=>
 bG v17 false λw18=>
 gO w18 (Ar true 2 H3 v0) λv19=>
 bG v17 false λw20=>
 gO w20 (Ar true 2 H3 v2) λv21=>
 bG v17 false λw22=>
 gP w22 (BPure prog 55 [v19,v21]) λv23=>
 bG v17 false λw24=>
 gO w24 (Ar true 2 H3 v0) λv25=>
 bG v17 false λw26=>
 gO w26 (M7 prog .eql 119 v23 v25) λv27=>
 bO (A7 v17 (B true) v27) λv28=>
 K v28 H3)
theorem Wi {a0 a1:AV}{H:AH}{K:KT}(h:Vq a0 a1 H K):Cr 204 [a0,a1] H K:=
 fok A6 If BA func204 h
def Eh (a0:AV)(H:AH)(K:KT):Prop:=
 bO (VM .eql O7 a0 Ad) λv0=>
 bB v0 λt1=>bI t1 (
 K Ad H)
 (bH (Cv H 9 0 (Bg [(I 0),u0Z,u0Z,u0Z,u0Z,u0Z,u0Z,u0Z,u0Z] 0) []) λv2 H3=>
 bH (MJ 9 16 H3 v2 a0) λv4 H5=>
 K v4 H5)
theorem GE {a0:AV}{H:AH}{K:KT}(h:Eh a0 H K):Cr 95 [a0] H K:=
 fok A6 If BA func95 h
def To (a0:AV)(H:AH)(K:KT):Prop:=
 bH (A9 H a0) λv0 H1=>
 bO (Ac 0 v0) λv2=>
 bO (Ar false 1 H1 v2) λv3=>
 bP (PCall prog 169 [v3] H1) λv4=>
 bG v4 true λw5=>
 gO w5 (Ac 1 v0) λv6=>
 bG v4 true λw7=>
 gO w7 (Ar false 1 H1 v6) λv8=>
 bG v4 true λw9=>
 gP w9 (PCall prog 169 [v8] H1) λv10=>
 bO (A7 v4 v10 (B false)) λv11=>
 bG v11 true λw12=>
 gO w12 (Ac 1 v0) λv13=>
 bG v11 true λw14=>
 gO w14 (Ar false 1 H1 v13) λv15=>
 bG v11 true λw16=>
 gO w16 (Ac 0 v0) λv17=>
 bG v11 true λw18=>
 gO w18 (Ar false 1 H1 v17) λv19=>
 bG v11 true λw20=>
 gO w20 (Aq .sub (I 4611686018427387904) v19) λv21=>
 bG v11 true λw22=>
 gO w22 (Aq .leq v15 v21) λv23=>
 bO (A7 v11 v23 (B false)) λv24=>
 K v24 H1
theorem Vp {a0:AV}{H:AH}{K:KT}(h:To a0 H K):Cr 111 [a0] H K:=
 fok A6 If BA func111 h
def Gm:Nat→Bool:=TR []
def Bs (a0 a1 a2:AV)(H:AH)(K:KT):Prop:=
 bO (AW 9 a0 (some a1) none none) λv0=>
 bO (Bf a2) λv1=>
 bO (Aq .eql v1 (I 0)) λv2=>
 bB v2 λt3=>bI t3 (
 K a0 H)
 (bO (Bf a0) λv4=>
 bO (Aq .eql a1 v4) λv5=>
 bB v5 λt6=>bI t6 (
 bH (MJ 9 16 H a0 a2) λv7 H8=>
 K v7 H8)
 (bO (Aq .add v4 v1) λv9=>
 bO (VN a0) λv10=>
 bO (Aq .gtr v9 v10) λv11=>
 bB v11 λt12=>bI t12 (
 bO (AW 9 a0 none (some a1) none) λv13=>
 bO (Aq .add v4 v1) λv14=>
 bO (Aq .sub v14 a1) λv15=>
 bH (Kl H 9 16 [(I 0),u0Z,u0Z,u0Z,u0Z,u0Z,u0Z,u0Z,u0Z] v13 v15) λv16 H17=>
 bO (AW 9 v16 (some a1) none none) λv18=>
 bH (Oz 9 H17 v18 a2) λv19 H20=>
 bO (Aq .add a1 v1) λv21=>
 bO (AW 9 v16 (some v21) none none) λv22=>
 bO (AW 9 a0 (some a1) none none) λv23=>
 bH (Oz 9 H20 v22 v23) λv24 H25=>
 K v16 H25)
 (bO (Aq .add v4 v1) λv26=>
 bO (AW 9 a0 none (some v26) none) λv27=>
 bO (Aq .add a1 v1) λv28=>
 bO (AW 9 v27 (some v28) none none) λv29=>
 bP (ExtR prog 230 [a2,v29] H) λv30=>
 bO (EX .not v30) λv31=>
 bB v31 λt32=>bI t32 (
 bO (Aq .add a1 v1) λv33=>
 bO (AW 9 v27 (some v33) none none) λv34=>
 bO (AW 9 v27 (some a1) none none) λv35=>
 bH (Oz 9 H v34 v35) λv36 H37=>
 bO (AW 9 v27 (some a1) none none) λv38=>
 bH (Oz 9 H37 v38 a2) λv39 H40=>
 K v27 H40)
 (bO (AW 9 v27 (some v4) none none) λv41=>
 bH (Oz 9 H v41 a2) λv42 H43=>
 bO (AW 9 v27 (some a1) none none) λv44=>
 bC (BCall prog 231 [v44,v1] H43) λv45 H46=>
 K v27 H46))))
theorem Gl (a0 a1 a2:AV)(H:AH)(K:KT):O8 prog A6 If yW Gm BA f222 [a0,a1,a2] H K=Bs a0 a1 a2 H K:=by kernel_rfl
theorem Cm {a0 a1 a2:AV}{H:AH}{K:KT}(h:Bs a0 a1 a2 H K):ACalls prog 222 [a0,a1,a2] H K:=
 G7 Lg func222 (by kernel_rfl) (Eq.mpr (Gl a0 a1 a2 H K) h)
def BV:Nat→Option (List Bool):=Ci [(4,mk 49 0 [0,1,2,8,9,10])]
def Cb (p:List Bool)(n:Nat):List AV→AH→Kf→Prop:=AG prog A6 If Ap Ap BV (sub p (AJ f223)) n
def BU (x0 x1 x2 x8 x9 x10:AV)(H:AH)(K:KT):Prop:=lp (mk 49 0 [0,1,2,8,9,10]) (Cb [tT,tT,tT,fF,fF,fF] 5) [x0,x1,x2,x8,x9,x10] H (Bl 0 (Bn (Cb [tT,tT,tT,tT] 9) (Bc prog f223.results.toList K)))
def BL (R4:RT)(x0 x1 x2 x8 x9 x10:AV)(H:AH)(K:KT):Prop:=
 bO (Aq .lss x9 x10) λv0=>
 bB v0 λt1=>bI t1 (
 bO (Aq .add x9 x10) λv2=>
 bO (RI .u64 v2) λv3=>
 bO (Aq .shr v3 (.lit (.int .u64 1))) λv4=>
 bO (RI .i64 v4) λv5=>
 bO (Bh 9 x0 v5) λv6=>
 bO (Ar true 9 H v6) λv7=>
 bF true x2 λk10 f10 c10=>
 bT (B1 prog k10||!true)<|
 bC (BCall prog k10 (f10++[v7,x1]++c10) H) λv8 H9=>
 bO (Aq .lss v8 (I 0)) λv11=>
 bB v11 λt12=>bI t12 (
 bO (Aq .add v5 (I 1)) λv13=>
 R4 [x0,x1,x2,x8,v13,x10] H9)
 (R4 [x0,x1,x2,x8,x9,v5] H9))
 (bO (Aq .lss x9 x8) λv14=>
 bG v14 true λw15=>
 gO w15 (some x2) λv16=>
 bG v14 true λw17=>
 gO w17 (some x0) λv18=>
 bG v14 true λw19=>
 gO w19 (some x9) λv20=>
 bG v14 true λw21=>
 gO w21 (Bh 9 v18 v20) λv22=>
 bG v14 true λw23=>
 gO w23 (Ar true 9 H v22) λv24=>
 bG v14 true λw25=>
 gO w25 (some x1) λv26=>
 bG v14 true λw27=>
 bF w27 v16 λk30 f30 c30=>
 bT (B1 prog k30||!w27)<|
 gC w27 (BCall prog k30 (f30++[v24,v26]++c30) H) H λv28 H29=>
 bG v14 true λw31=>
 gO w31 (Aq .eql v28 (I 0)) λv32=>
 bO (A7 v14 v32 (B false)) λv33=>
 K (.tup [x9,v33]) H29)
theorem CY {K:KT}:nS (λR x0 x1 x2 x8 x9 x10 H=>BL R x0 x1 x2 x8 x9 x10 H K) (λx0 x1 x2 x8 x9 x10 H=>BU x0 x1 x2 x8 x9 x10 H K):=gI (A4 _ _) (λ_ _ _ _ _ _ _ _=>by kernel_rfl)
def Cj (a0 a1 a2:AV)(H:AH)(K:KT):Prop:=
 bO (Bf a0) λv0=>
 BU a0 a1 a2 v0 (I 0) v0 H K
theorem Dz {a0 a1 a2:AV}{H:AH}{K:KT}(h:Cj a0 a1 a2 H K):Cr 223 [a0,a1,a2] H K:=
 fok A6 If BV func223 h
def Nz (a0 a1:AV)(H:AH)(K:KT):Prop:=
 bH (A9 H a0) λv0 H1=>
 bO (Ac 0 v0) λv2=>
 bO (Ar false 1 H1 v2) λv3=>
 bP (PCall prog 94 [v3,a1] H1) λv4=>
 K v4 H1
theorem Q9 {a0 a1:AV}{H:AH}{K:KT}(h:Nz a0 a1 H K):Cr 224 [a0,a1] H K:=
 fok A6 If BA func224 h
def Mh (a0 a1:AV)(H:AH)(K:KT):Prop:=
 bP (PCall prog 163 [a0] H) λv0=>
 bP (PCall prog 163 [a1] H) λv1=>
 bB v0 λt2=>bI t2 (
 bB v1 λt3=>bI t3 (
 K (I 0) H)
 (K (I (-1)) H))
 (bB v1 λt4=>bI t4 (
 K (I 1) H)
 (bO (Aq .lss a0 a1) λv5=>
 bB v5 λt6=>bI t6 (
 K (I (-1)) H)
 (bO (Aq .gtr a0 a1) λv7=>
 bB v7 λt8=>bI t8 (
 K (I 1) H)
 (K (I 0) H))))
theorem P2 {a0 a1:AV}{H:AH}{K:KT}(h:Mh a0 a1 H K):Cr 94 [a0,a1] H K:=
 fok A6 If BA func94 h
def CR:Nat→Option (List Bool):=Ci [(3,mk 19 0 [0,1,7,8])]
def Dc (p:List Bool)(n:Nat):List AV→AH→Kf→Prop:=AG prog A6 If Ap Ap CR (sub p (AJ f167)) n
def CQ (x0 x1 x7 x8:AV)(H:AH)(K:KT):Prop:=lp (mk 19 0 [0,1,7,8]) (Dc [tT,fF,tT,fF,fF] 4) [x0,x1,x7,x8] H (Bl 0 (Bn (Dc [tT,tT] 10) (Bc prog f167.results.toList K)))
def BK (R3:RT)(x0 x1 x7 x8:AV)(H:AH)(K:KT):Prop:=
 bO (Aq .lss x8 x7) λv0=>
 bB v0 λt1=>bI t1 (
 bO (Bh 9 x0 x8) λv2=>
 bO (Ar true 9 H v2) λv3=>
 bF true x1 λk6 f6 c6=>
 bT (B1 prog k6||!true)<|
 bC (BCall prog k6 (f6++[v3]++c6) H) λv4 H5=>
 bB v4 λt7=>bI t7 (
 K x8 H5)
 (bO (Aq .add x8 (I 1)) λv8=>
 R3 [x0,x1,x7,v8] H5))
 (K (I (-1)) H)
theorem Cu {K:KT}:Xf (λR x0 x1 x7 x8 H=>BK R x0 x1 x7 x8 H K) (λx0 x1 x7 x8 H=>CQ x0 x1 x7 x8 H K):=MD (A4 _ _) (λ_ _ _ _ _ _=>by kernel_rfl)
def Cl (a0 a1:AV)(H:AH)(K:KT):Prop:=
 bO (Bf a0) λv0=>
 CQ a0 a1 v0 (I 0) H K
theorem CS {a0 a1:AV}{H:AH}{K:KT}(h:Cl a0 a1 H K):Cr 167 [a0,a1] H K:=
 fok A6 If CR func167 h
def dF (a0:AV)(H:AH)(K:KT):Prop:=
 bO (Aq .geq a0 (I 0)) λv0=>
 bG v0 true λw1=>
 gO w1 (some a0) λv2=>
 bG v0 true λw3=>
 gO w3 (Aq .leq v2 (I 4611686018427387904)) λv4=>
 bO (A7 v0 v4 (B false)) λv5=>
 K v5 H
theorem aS {a0:AV}{H:AH}{K:KT}(h:dF a0 H K):Cr 169 [a0] H K:=
 fok A6 If BA func169 h
def OQ (a0:AV)(H:AH)(K:KT):Prop:=
 bO (Aq .neq a0 a0) λv0=>
 K v0 H
theorem RX {a0:AV}{H:AH}{K:KT}(h:OQ a0 H K):Cr 163 [a0] H K:=
 fok A6 If BA func163 h
end Go.Proofs.YtbppnhenlboefaaGreat.Av
end
