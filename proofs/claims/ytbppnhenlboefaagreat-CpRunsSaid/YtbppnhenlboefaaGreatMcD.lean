/- Texts of this proof, one behind the other, packed into one file by a program of this session. No condition. -/
import Derived.Test.YtbppnhenlboefaaGreatMcC
import Derived.KernelRfl
import Derived.OpenShut
import Derived.ProofKit
import Derived.SizedLaws
import Derived.Test.YtbppnhenlboefaaGreatRows
import Derived.WalkKit
set_option linter.unusedVariables false
set_option linter.unusedSimpArgs false
set_option maxRecDepth 100000
namespace Go.Proofs.YtbppnhenlboefaaGreat.Av
open Go Go.RowKit
section
def AM:AV→Bool
 | .lit (.slice none _ _)=>true
 | .emp=>true
 | .sl _ _ _ _ _=>true
 | _=>false
def AP:AV→List Nat
 | .sl o _ _ _ _=>[o]
 | _=>[]
theorem BL {H:AH}{sz:Nat}{v:AV}{cs:List AV}{n:Nat}(h:Aa H sz v=some (cs,n)):cs.length=n*sz:=by
 unfold Aa at h;split at h
 ·split at h
  ·rename_i hb
   injection h with h;injection h with h1 h2;subst h1;subst h2;exact hb.2
  ·cases h
 ·split at h
  ·split at h
   ·rename_i hb
    injection h with h;injection h with h1 h2;subst h1;subst h2;rw[sX,tC];omega
   ·cases h
  ·cases h
 ·injection h with h;injection h with h1 h2;subst h1;subst h2;simp
 ·injection h with h;injection h with h1 h2;subst h1;subst h2;simp
 ·cases h
theorem TP {H:AH}{sz:Nat}{v:AV}{cs:List AV}{n:Nat}(h:AX H sz v=some (cs,n)):cs.length=n*sz:=by
 unfold AX at h;split at h
 ·split at h
  ·rename_i hs
   injection h with h;injection h with h1 h2;subst h1;subst h2;subst hs;simp
  ·cases h
 ·exact BL h
theorem AJ {H:AH}{sz:Nat}{v:AV}{q:List AV×Nat}(h:Aa H sz v=some q):AX H sz v=some q:=by
 unfold AX
 split
 ·cases h
 ·exact h
abbrev vQ:=@List.drop_take
abbrev sZ:=@List.take_of_length_le
theorem Tp (cs:List AV)(off l:Nat)(ds:List AV)(h:off+l≤cs.length):((over cs (off+l) ds).drop off).take (l+ds.length)=(cs.drop off).take l++ds∧off+(l+ds.length)≤(over cs (off+l) ds).length:=by
 unfold over
 constructor
 ·rw[tI,List.drop_append_of_le_length (by rw[sX];omega),List.take_append]
  have e1:((cs.take (off+l)).drop off)=(cs.drop off).take l:=by rw[vQ];congr 1;omega
  rw[e1];have e2:((cs.drop off).take l).length=l:=by rw[sX,tC];omega
  rw[e2,sZ (by omega)]
  congr 1
  rw[show l+ds.length - l=ds.length by omega,List.take_left]
 ·simp only[rB];omega
theorem AA {H:AH}{sz o off n:Nat}{cap:Room}{c:List AV}(ho:H[o]?=some (some (.cells c)))(hf:off+n*sz≤c.length):Aa H sz (.sl o off n sz cap)=some ((c.drop off).take (n*sz),n):=by
 simp[Aa,ho,hf]
theorem Ae {H H':AH}{sz:Nat}{v:AV}{q:List AV×Nat}(h:Aa H sz v=some q)(hk:∀i∈AP v,H'[i]?=H[i]?):Aa H' sz v=some q:=by
 cases v with
 | sl o off len esz cap=>
  have:=hk o (by simp[AP])
  simp only[Aa]at h⊢;rw[this];exact h
 | lit u=>
  unfold Aa at h⊢;split at h<;>simp_all
 | imm cs len esz=>simpa only[Aa]using h
 | emp=>simpa only[Aa]using h
 | _=>simp[Aa]at h
abbrev vJ:=@List.mem_singleton
theorem Au {H:AH}{sz:Nat}{v:AV}{q:List AV×Nat}(h:Aa H sz v=some q):∀i∈AP v,i<H.length:=by
 intro i hi;cases v with
 | sl o off len esz cap=>
  simp only[AP,vJ]at hi;subst hi;simp only[Aa]at h;split at h
  ·rename_i ho
   exact(B5.1 ho).1
  ·cases h
 | _=>simp[AP]at hi
section
variable {P : Program}
abbrev qW:=And.intro @ne_eq.{1} @not_true_eq_false
abbrev rM:=And.intro @if_false.{1} @qW
abbrev uA:=@List.drop_zero
theorem Wk {sz bytes:Nat}{H:AH}{s:AV}{cs ds:List AV}{n m:Nat}(h1:Aa H sz s=some (cs,n))(ho:AM s=true)(hdl:ds.length=m*sz)(hb:(n+m)*bytes≤140737488355328):
  ∃r H',J0 H sz bytes s ds m=some (r,H')∧AM r=true∧Aa H' sz r=some (cs++ds,n+m)∧H.length≤H'.length∧(∀i,i<H.length→i∉AP s→H'[i]?=H[i]?)∧∀i∈AP r,i∈AP s∨H.length≤i:=by
 have hcl:=BL h1
 have newc:Aa (H++[some (.cells ds)]) sz (.sl H.length 0 m sz (.ge m))=some (ds,m):=by
  rw[AA (c:=ds) (by simp) (by omega)];simp only[uA];rw[sZ (by omega)]
 have keep:∀(X:AH) (i:Nat),i<H.length→(H++X)[i]?=H[i]?:=λX i hi=>sW hi
 have hnil:n=0→cs=[]:=λh0=>uK (by rw[hcl,h0];simp)
 unfold Aa at h1;split at h1
 ·simp[AM]at ho
 ·
  rename_i o off len esz cap;split at h1
  ·rename_i c hoc
   split at h1
   ·rename_i hb1
    obtain⟨rfl,hfit⟩:=hb1;injection h1 with h1;injection h1 with h3 h4;subst h3;subst h4;have hol:=(B5.1 hoc).1;have hadd:(len+m)*esz=len*esz+m*esz:=uR _ _ _;obtain⟨ov1,ov2⟩:=Tp c off (len*esz) ds hfit
    have inplace:∀cap',Aa (H.set o (some (.cells (over c (off+len*esz) ds)))) esz (.sl o off (len+m) esz cap')=some ((c.drop off).take (len*esz)++ds,len+m):=by
     intro cap';rw[AA (c:=over c (off+len*esz) ds) (by rw[IJ hol]) (by rw[hadd,← hdl];exact ov2)];rw[hadd,← hdl,ov1]
    have fresh:∀(H2:AH) cap',H2.length=H.length→Aa (H2++[some (.cells ((c.drop off).take (len*esz)++ds))]) esz (.sl H.length 0 (len+m) esz cap')=some ((c.drop off).take (len*esz)++ds,len+m):=by
     intro H2 cap' hl;rw[AA (c:=(c.drop off).take (len*esz)++ds) (by rw[← hl];simp) (by rw[tH,hcl,hdl];omega)];simp only[uA];rw[sZ (by rw[tH,hcl,hdl];omega)]
    have hkeep:∀(y:Option AObj) (X:AH) (i:Nat),i<H.length→i∉AP (.sl o off len esz cap)→(H.set o y++X)[i]?=H[i]?:=by
     intro y X i hi hn;rw[sW (by simpa using hi),Co (by simp[AP]at hn;omega)]
    unfold J0;simp only[hoc,rM,false_or,hfit];cases cap with
    | ex k=>
     simp only
     by_cases hk:len+m≤k
     ·rw[if_pos hk]
      exact⟨_,_,rfl,rfl,inplace _,by simp,λi hi hn=>by simpa using hkeep _ [] i hi hn,λi hi=>.inl (by simpa[AP]using hi)⟩
     ·rw[if_neg hk,if_pos hb]
      exact⟨_,_,rfl,rfl,fresh H _ rfl,by simp,λi hi _=>keep _ i hi,λi hi=>.inr (by simp[AP]at hi;omega)⟩
    | ge k=>
     simp only
     by_cases hm:m=0
     ·subst hm
      have hd0:ds=[]:=uK (by rw[hdl];simp);subst hd0;rw[if_pos rfl];exact⟨_,_,rfl,rfl,by rw[AA hoc hfit];simp,sY _,λ_ _ _=>rfl,λi hi=>.inl hi⟩
     ·rw[if_neg hm]
      by_cases hk:len+m≤k
      ·rw[if_pos hk]
       exact⟨_,_,rfl,rfl,inplace _,by simp,λi hi hn=>by simpa using hkeep _ [] i hi hn,λi hi=>.inl (by simpa[AP]using hi)⟩
      ·rw[if_neg hk,if_pos hb]
       exact⟨_,_,rfl,rfl,fresh (H.set o none) _ (by simp),by simp,λi hi hn=>hkeep none _ i hi hn,λi hi=>.inr (by simp[AP]at hi;omega)⟩
   ·cases h1
  ·cases h1
 ·
  injection h1 with h1;injection h1 with h3 h4;subst h3;subst h4;unfold J0;simp only
  by_cases hm:m=0
  ·subst hm
   have hd0:ds=[]:=uK (by rw[hdl];simp);subst hd0;rw[if_pos rfl];exact⟨_,_,rfl,rfl,rfl,sY _,λ_ _ _=>rfl,λi hi=>.inl hi⟩
  ·rw[if_neg hm,if_pos (by simpa using hb)]
   exact⟨_,_,rfl,rfl,by simpa using newc,by simp,λi hi _=>keep _ i hi,λi hi=>.inr (by simp[AP]at hi;omega)⟩
 ·
  injection h1 with h1;injection h1 with h3 h4;subst h3;subst h4;unfold J0;simp only
  by_cases hm:m=0
  ·subst hm
   have hd0:ds=[]:=uK (by rw[hdl];simp);subst hd0;rw[if_pos rfl];exact⟨_,_,rfl,rfl,rfl,sY _,λ_ _ _=>rfl,λi hi=>.inl hi⟩
  ·rw[if_neg hm,if_pos (by simpa using hb)]
   exact⟨_,_,rfl,rfl,by simpa using newc,by simp,λi hi _=>keep _ i hi,λi hi=>.inr (by simp[AP]at hi;omega)⟩
 ·cases h1
end
end
section
abbrev I (n:Int):AV:=.lit (.int .i64 n)
abbrev B (b:Bool):AV:=.lit (.bool b)
abbrev S (s:ByteArray):AV:=.lit (.string s)
abbrev Ad:AV:=.lit (.slice none 0 0)
@[congr] theorem nQ {x x':Option AV} {K:AV→Prop} (h:x=x'):bO x K=bO x' K:=by rw[h]
@[congr] theorem nO {x x':Option (AV×AH)} {K:AV→AH→Prop} (h:x=x'):bH x K=bH x' K:=by rw[h]
@[congr] theorem nS {x x':Option AH} {K:AH→Prop} (h:x=x'):bS x K=bS x' K:=by rw[h]
@[congr] theorem nI {v v':AV} {K:Bool→Prop} (h:v=v'):bB v K=bB v' K:=by rw[h]
@[congr] theorem nP {b b':Bool} {A B:Prop} (h:b=b'):bI b A B=bI b' A B:=by rw[h]
@[congr] theorem nN {v v':AV} {w:Bool} {K:Bool→Prop} (h:v=v'):bG v w K=bG v' w K:=by rw[h]
@[congr] theorem nK {w w':Bool} {v v':AV} {K:FuncId→List AV→List AV→Prop} (hw:w=w') (h:v=v'):bF w v K=bF w' v' K:=by rw[hw,h]
@[congr] theorem nT {b b':Bool} {A:Prop} (h:b=b'):bT b A=bT b' A:=by rw[h]
@[congr] theorem nJ {R:AV→AH→Prop} {K:AV→AH→Prop}:bC R K=bC R K:=rfl
@[congr] theorem nR {R:AV→Prop} {K:AV→Prop}:bP R K=bP R K:=rfl
@[congr] theorem oM {w w':Bool} {x:Option AV} {K:AV→Prop} (h:w=w'):gO w x K=gO w' x K:=by rw[h]
@[congr] theorem oJ {w w':Bool} {x:Option (AV×AH)} {H:AH} {K:AV→AH→Prop} (h:w=w'):gH w x H K=gH w' x H K:=by rw[h]
@[congr] theorem oO {w w':Bool} {x:Option AH} {H:AH} {K:AH→Prop} (h:w=w'):gS w x H K=gS w' x H K:=by rw[h]
@[congr] theorem oI {w w':Bool} {R:AV→AH→Prop} {H:AH} {K:AV→AH→Prop} (h:w=w'):gC w R H K=gC w' R H K:=by rw[h]
@[congr] theorem oN {w w':Bool} {R:AV→Prop} {K:AV→Prop} (h:w=w'):gP w R K=gP w' R K:=by rw[h]
@[simp] theorem Ab {v:AV} {K:AV→Prop}:bO (some v) K=K v:=by unfold bO;exact Eq.refl _
@[simp] theorem A1 {v:AV} {H:AH} {K:AV→AH→Prop}:bH (some (v,H)) K=K v H:=by unfold bH;exact Eq.refl _
@[simp] theorem AE {H:AH} {K:AH→Prop}:bS (some H) K=K H:=by unfold bS;exact Eq.refl _
@[simp] theorem Ag {b:Bool} {K:Bool→Prop}:bB (.lit (.bool b)) K=K b:=by unfold bB;exact Eq.refl _
@[simp] theorem Ap {A B:Prop}:bI true A B=A:=by unfold bI;exact Eq.refl _
@[simp] theorem Ah {A B:Prop}:bI false A B=B:=by unfold bI;exact Eq.refl _
@[simp] theorem AZ {b w:Bool} {K:Bool→Prop}:bG (.lit (.bool b)) w K=K (b==w):=by unfold bG;exact Eq.refl _
@[simp] theorem Zq {w:Bool} {K:Bool→Prop}:bG A0 w K=K false:=by unfold bG;exact Eq.refl _
@[simp] theorem Qg {A:Prop}:bT true A=A:=by unfold bT;exact Eq.refl _
@[simp] theorem Xl {w:Bool} {k:FuncId} {a b:List AV} {K:FuncId→List AV→List AV→Prop}:bF w (.fn (.func k) a b) K=K k a b:=by unfold bF;exact Eq.refl _
@[simp] theorem nM {K:FuncId→List AV→List AV→Prop}:bF false A0 K=K 0 [] []:=by unfold bF A0;exact Eq.refl _
@[simp] theorem AD {x:Option AV} {K:AV→Prop}:gO true x K=bO x K:=by unfold gO;exact Eq.refl _
@[simp] theorem Cn {x:Option AV} {K:AV→Prop}:gO false x K=K A0:=by unfold gO;exact Eq.refl _
@[simp] theorem Bl {x:Option (AV×AH)} {H:AH} {K:AV→AH→Prop}:gH true x H K=bH x K:=by unfold gH;exact Eq.refl _
@[simp] theorem oK {x:Option (AV×AH)} {H:AH} {K:AV→AH→Prop}:gH false x H K=K A0 H:=by unfold gH;exact Eq.refl _
@[simp] theorem Br {x:Option AH} {H:AH} {K:AH→Prop}:gS true x H K=bS x K:=by unfold gS;exact Eq.refl _
@[simp] theorem oP {x:Option AH} {H:AH} {K:AH→Prop}:gS false x H K=K H:=by unfold gS;exact Eq.refl _
@[simp] theorem Ug {R:AV→AH→Prop} {H:AH} {K:AV→AH→Prop}:gC true R H K=bC R K:=by unfold gC;exact Eq.refl _
@[simp] theorem II {R:AV→AH→Prop} {H:AH} {K:AV→AH→Prop}:gC false R H K=K A0 H:=by unfold gC;exact Eq.refl _
@[simp] theorem eP {R:AV→Prop} {K:AV→Prop}:gP true R K=bP R K:=by unfold gP;exact Eq.refl _
@[simp] theorem V0 {R:AV→Prop} {K:AV→Prop}:gP false R K=K A0:=by unfold gP;exact Eq.refl _
theorem bP_of {R:AV→Prop}{K:AV→Prop}{r:AV}(h:R r)(hk:K r):bP R K:=⟨r,h,hk⟩
theorem A3 {P:Program}{f:FuncId}{args:List AV}{H:AH}{K:AV→Prop}{r:AV}(h:BPure P f args r)(hk:K r):bP (PCall P f args H) K:=⟨r,.inl h,hk⟩
theorem bC_of {R:AV→AH→Prop}{K:AV→AH→Prop}{r:AV}{H:AH}(h:R r H)(hk:K r H):bC R K:=⟨r,H,h,hk⟩
theorem Sd {x:Int}(h1: -9223372036854775808≤x)(h2:x≤9223372036854775807):IntKind.i64.wrap x=x:=by
 simp[IntKind.wrap,IntKind.bits,IntKind.signed];omega
section
variable {k : IntKind} {a b : Int}
theorem Az (h1: -9223372036854775808≤a+b)(h2:a+b≤9223372036854775807):Ax .add (I a) (I b)=some (I (a+b)):=by simp[Ax,Ga,Sd h1 h2]
theorem Ci (h1: -9223372036854775808≤a - b)(h2:a - b≤9223372036854775807):Ax .sub (I a) (I b)=some (I (a - b)):=by simp[Ax,Ga,Sd h1 h2]
theorem HH (h1: -9223372036854775808≤a*b)(h2:a*b≤9223372036854775807):Ax .mul (I a) (I b)=some (I (a*b)):=by simp[Ax,Ga,Sd h1 h2]
theorem MQ (h1:0≤a)(h2:a≤9223372036854775807)(h3:0<b):Ax .quo (I a) (I b)=some (I (a/b)):=by
 have e:a.tdiv b=a/b:=Int.tdiv_eq_ediv_of_nonneg h1;have h4:0≤a/b:=Int.ediv_nonneg h1 (by omega);have h5:a/b≤a:=Int.ediv_le_self _ h1;simp[Ax,Ga,e,Sd (x:=a/b) (by omega) (by omega)];omega
theorem cQ (h1:0≤a)(h3:0<b):Ax .rem (.lit (.int k a)) (.lit (.int k b))=some (.lit (.int k (a % b))):=by
 have e:a.tmod b=a % b:=Int.tmod_eq_emod_of_nonneg h1;simp[Ax,Ga,e];omega
@[simp] theorem FQ:Ax .eql (.lit (.int k a)) (.lit (.int k b))=some (B (decide (a=b))):=by simp[Ax,Ga];rfl
@[simp] theorem CA:Ax .neq (.lit (.int k a)) (.lit (.int k b))=some (B (decide (a≠b))):=by
 simp[Ax,Ga]
 by_cases h:a=b<;>simp[h]
@[simp] theorem Bq:Ax .lss (.lit (.int k a)) (.lit (.int k b))=some (B (decide (a<b))):=by simp[Ax,Ga]
@[simp] theorem Xb:Ax .leq (.lit (.int k a)) (.lit (.int k b))=some (B (decide (a≤b))):=by simp[Ax,Ga]
@[simp] theorem MP:Ax .gtr (.lit (.int k a)) (.lit (.int k b))=some (B (decide (b<a))):=by simp[Ax,Ga]
@[simp] theorem GG:Ax .geq (.lit (.int k a)) (.lit (.int k b))=some (B (decide (b≤a))):=by simp[Ax,Ga]
@[simp] theorem pR {x y:Bool}:nA .eql (.lit (.bool x)) (.lit (.bool y))=some (B (decide (x=y))):=by cases x<;>cases y<;>rfl
@[simp] theorem pS {x y:Bool}:nA .neq (.lit (.bool x)) (.lit (.bool y))=some (B (decide (x≠y))):=by cases x<;>cases y<;>rfl
@[simp] theorem Bi {x:Bool}:E4 .not (.lit (.bool x))=some (B !x):=rfl
@[simp] theorem A4 {t:Bool} {x y:AV}:AG (.lit (.bool t)) x y=some (if t then x else y):=rfl
@[simp] theorem ZS:U9 a b=min b a:=by unfold U9;omega
@[simp] theorem ZT:W3 a b=max b a:=by unfold W3;omega
@[simp] theorem MX {f:Int→Int→Int}:amm f [.lit (.int k a),.lit (.int k b)]=some (.lit (.int k (f a b))):=rfl
theorem TI {k':IntKind}(h1: -9223372036854775808≤a)(h2:a≤9223372036854775807):YQ .i64 (.lit (.int k' a))=some (I a):=by simp[YQ,Sd h1 h2]
end
@[simp] theorem AB {vs:List AV} {i:Nat}:Aj (.tup vs) i=vs[i]?:=rfl
@[simp] theorem Aq {o off:Nat}:Af (.ptr o off)=some (.ptr o off):=rfl
@[simp] theorem dB {cs:List AV}:Af (.ip cs)=some (.ip cs):=rfl
@[simp] theorem Ao {k o off:Nat}:Ac k (.ptr o off)=some (.ptr o (off+k)):=rfl
@[simp] theorem mH {k:Nat} {cs:List AV}:Ac k (.ip cs)=some (.ip (cs.drop k)):=rfl
@[simp] theorem TM {g:Bool} {n:Nat} {H:AH} {cs:List AV}:Ar g n H (.ip cs)=Am g n cs 0:=rfl
theorem Al {g:Bool}{n o off:Nat}{H:AH}{cs:List AV}(h:H[o]?=some (some (.cells cs))):Ar g n H (.ptr o off)=Am g n cs off:=by simp[Ar,h]
@[simp] theorem Ai {n:Nat} {cs:List AV} {off:Nat}:Am false n cs off=cs[off]?:=by simp[Am]
theorem Fa {n:Nat}{cs:List AV}{off:Nat}(h:off+n≤cs.length):Am true n cs off=some (.agg ((cs.drop off).take n)):=by simp[Am,h]
@[simp] theorem nH {g:Bool} {n off:Nat} {cs:List AV}:UR g n off (.agg cs)=Am g n cs off:=rfl
@[simp] theorem nG {H:AH} {cs:List AV}:A8 H (.agg cs)=if cs.all oneA then some (.ptr H.length 0,H++[some (.cells cs)])else none:=by
 unfold A8 B3;simp only
 split<;>simp
theorem Zl {H:AH}{v:Value}(h:oneA (.lit v)=true):A8 H (.lit v)=some (.ptr H.length 0,H++[some (.cells [.lit v])]):=by
 unfold A8 B3;simp only[h,if_true];rfl
theorem A6 {n o off:Nat}{H:AH}{x:AV}{xs cs:List AV}(hx:B3 x=some xs)(h:H[o]?=some (some (.cells cs)))(hl:xs.length=n)(hb:off+n≤cs.length):AU n H (.ptr o off) x=some (H.set o (some (.cells (AS cs off xs)))):=by
 simp[AU,hx,h,hl,hb]
@[simp] theorem oY {k:IntKind} {n:Int}:oneA (.lit (.int k n))=true:=rfl
@[simp] theorem mM {b:Bool}:oneA (.lit (.bool b))=true:=rfl
@[simp] theorem pB {s:ByteArray}:oneA (.lit (.string s))=true:=rfl
@[simp] theorem oZ {n c:Nat}:oneA (.lit (.slice none n c))=true:=rfl
@[simp] theorem mN:oneA (.lit (.map none))=true:=rfl
@[simp] theorem mO:oneA (.lit (.pointer none))=true:=rfl
@[simp] theorem pY {o off len esz:Nat} {cap:Room}:oneA (.sl o off len esz cap)=true:=rfl
@[simp] theorem oX {cs:List AV} {len esz:Nat}:oneA (.imm cs len esz)=true:=rfl
@[simp] theorem pA {o off:Nat}:oneA (.ptr o off)=true:=rfl
@[simp] theorem oW:oneA .emp=true:=rfl
@[simp] theorem pX {o:Nat}:oneA (.mp o)=true:=rfl
@[simp] theorem jF {k:IntKind} {n:Int}:B3 (.lit (.int k n))=some [.lit (.int k n)]:=rfl
@[simp] theorem gR {b:Bool}:B3 (.lit (.bool b))=some [.lit (.bool b)]:=rfl
@[simp] theorem jI {s:ByteArray}:B3 (.lit (.string s))=some [.lit (.string s)]:=rfl
@[simp] theorem jG {n c:Nat}:B3 (.lit (.slice none n c))=some [.lit (.slice none n c)]:=rfl
@[simp] theorem gT:B3 (.lit (.map none))=some [.lit (.map none)]:=rfl
@[simp] theorem gU:B3 (.lit (.pointer none))=some [.lit (.pointer none)]:=rfl
@[simp] theorem mJ {o off len esz:Nat} {cap:Room}:B3 (.sl o off len esz cap)=some [.sl o off len esz cap]:=rfl
@[simp] theorem jE {cs:List AV} {len esz:Nat}:B3 (.imm cs len esz)=some [.imm cs len esz]:=rfl
@[simp] theorem jH {o off:Nat}:B3 (.ptr o off)=some [.ptr o off]:=rfl
@[simp] theorem jD:B3 .emp=some [.emp]:=rfl
@[simp] theorem mI {o:Nat}:B3 (.mp o)=some [.mp o]:=rfl
@[simp] theorem QA {cs:List AV}:B3 (.agg cs)=if cs.all oneA then some cs else none:=rfl
theorem AL {v:AV}(h:oneA v=true):B3 v=some [v]:=by
 cases v<;>first
  | rfl
  | (rename_i u;cases u<;>first | rfl | simp[oneA]at h)
  | simp[oneA]at h
@[simp] theorem mL {cells:List AV}:N2 cells []=some cells:=rfl
@[simp] theorem kP {cells:List AV} {off size:Nat} {v:AV} {r:List (Nat×Nat×AV)}:N2 cells ((off,size,v)::r)=match B3 v with
  | some xs=>if xs.length=size∧off+size≤cells.length then N2 (AS cells off xs) r else none
  | none=>none:=rfl
attribute [simp] EW Dh PJ Bo AS LI0 LI1 LI2 LI3 LI4 LI5 LI6 LI7 LI8 LI9 qB qC qD qE qF qG qH qI qJ
@[simp] theorem Ix {g:Bool} {n o off:Nat} {H:AH}:Ar g n H (.ptr o off)=match H[o]? with
  | some (some (.cells cs))=>Am g n cs off
  | _=>none:=rfl
@[simp] theorem nD {cs:List AV} {len esz:Nat}:Be (.imm cs len esz)=some (I len):=rfl
@[simp] theorem nE:Be (.lit (.slice none 0 0))=some (I 0):=rfl
@[simp] theorem cX {o off len esz:Nat} {cap:Room}:Be (.sl o off len esz cap)=some (I len):=rfl
@[simp] theorem nF {s:ByteArray}:Ff (.lit (.string s))=some (I s.size):=rfl
section
variable {P : Program} {f : FuncId} {args : List AV} {R : AV}
theorem BPure.flat (h:∀H,∃r H',(r=R∧H'=H)∧BCall P f args H r H'):BPure P f args R:=λH=>by
 obtain⟨r,H',⟨rfl,rfl⟩,h⟩:=h H;exact h
end
def SV {α:Type}(enc:α→List AV)(sz:Nat)(l:List α)(v:AV):Prop:=noIds v=true∧∀H,Aa H sz v=some (l.flatMap enc,l.length)
section
variable {α : Type} {enc : α→List AV} {sz : Nat} {l : List α} {v : AV}
theorem SV.nil:SV enc sz [] Ad:=⟨rfl,λ_=>rfl⟩
theorem SV.len (h:SV enc sz l v):Be v=some (I l.length):=by
 have h2:=h.2 [];unfold Aa at h2;split at h2
 ·split at h2
  ·injection h2 with h2;injection h2 with e1 e2;rw[← e2];rfl
  ·cases h2
 ·simp at h2
 ·injection h2 with h2;injection h2 with e1 e2;rw[← e2];rfl
 ·injection h2 with h2;injection h2 with e1 e2;rw[← e2];rfl
 ·cases h2
abbrev tY:=@List.flatMap_cons
abbrev wR:=@Nat.add_comm
abbrev uY:=@List.drop_drop
theorem CE (hsz:∀x,(enc x).length=sz):∀{l:List α} {k:Nat} {x:α},l[k]?=some x→(l.flatMap enc).drop (k*sz)=enc x++(l.drop (k+1)).flatMap enc
 | [],k,x,h=>by simp at h
 | a::l,0,x,h=>by simp at h;subst h;simp
 | a::l,k+1,x,h=>by
  have:=CE hsz (l:=l) (k:=k) (by simpa using h)
  rw[tY,uG,wR,← uY,List.drop_left' (hsz a)]
  simpa using this
theorem HX (hsz:∀x,(enc x).length=sz)(l:List α):(l.flatMap enc).length=l.length*sz:=by
 induction l with
 | nil=>simp
 | cons a l ih=>simp[tY,hsz,ih,uG];omega
abbrev vY:=@List.cons_append
theorem SV.imm (hsz:∀x,(enc x).length=sz)(hn:∀x∈l,Ay (enc x)=true):SV enc sz l (.imm (l.flatMap enc) l.length sz):=by
 refine⟨?_,λH=>?_⟩
 ·simp only[noIds]
  induction l with
  | nil=>rfl
  | cons a l ih=>
   rw[tY];have h1:=hn a (by simp);have h2:=ih λx hx=>hn x (by simp[hx])
   generalize enc a=c at h1
   induction c with
   | nil=>exact h2
   | cons b c ihc=>simp only[Ay,tO,vY]at h1⊢;exact⟨h1.1,ihc h1.2⟩
 ·simp[Aa,HX hsz]
theorem SV.idx (h:SV enc sz l v)(hsz:∀x,(enc x).length=sz){k:Nat}{x:α}{i:Int}(hk:l[k]?=some x)(hi:i=k):Bv sz v (.lit (.int .i64 i))=some (.ip (enc x++(l.drop (k+1)).flatMap enc)):=by
 subst hi;have hlt:=(B5.1 hk).1;have h1:=h.1;have h2:=h.2 [];unfold Aa at h2;split at h2
 ·rename_i cs len esz
  split at h2
  ·injection h2 with h2;injection h2 with e1 e2
   subst e1;subst e2;simp only[Bv,JT];rw[if_pos ⟨by omega,by omega⟩];simp[CE hsz hk]
  ·cases h2
 ·simp[noIds]at h1
 ·injection h2 with h2;injection h2 with e1 e2;rw[← e2]at hlt;omega
 ·injection h2 with h2;injection h2 with e1 e2;rw[← e2]at hlt;omega
 ·cases h2
end
end
section
def MonoF (body:List AV→AH→Kf→Prop):Prop:=∀T H (K1 K2:Kf),(∀e T H,K1 e T H→K2 e T H)→body T H K1→body T H K2
theorem V3 {keep:List Bool}{A B:List AV→AH→Prop}{K:Kf}(h:∀X H,A X H→B X H):∀e T H,Qa keep A K e T H→Qa keep B K e T H:=by
 intro e T H hk;cases e with
 | normal=>
  obtain⟨hl,h1⟩:=B4.1 hk;exact B4.2 ⟨hl,h _ _ h1⟩
 | _=>exact hk
theorem bJ {keep:List Bool}{body:List AV→AH→Kf→Prop}{K:Kf}(hb:MonoF body):∀(m:Nat) X H,YG keep body K m X H→YG keep body K (m+1) X H
 | 0,X,H,h=>h.elim
 | m+1,X,H,h=>hb _ _ _ _ (V3 λX H=>bJ hb m X H) h
theorem lT {keep:List Bool}{body:List AV→AH→Kf→Prop}{K:Kf}(hb:MonoF body){m n:Nat}(h:m≤n){X:List AV}{H:AH}(hr:YG keep body K m X H):YG keep body K n X H:=by
 induction h with
 | refl=>exact hr
 | step _ ih=>exact bJ hb _ _ _ ih
theorem eZ {keep:List Bool}{body:List AV→AH→Kf→Prop}{K:Kf}(hb:MonoF body)(J:Nat→List AV→AH→Prop)
  (round:∀n X H,J n X H→body (AR keep X) H (Qa keep (λX' H'=>∃m,m<n∧J m X' H') K)):∀(n:Nat) {X:List AV} {H:AH},J n X H→lp keep body X H K:=by
 have key:∀n X H,J n X H→YG keep body K (n+1) X H:=by
  intro n
  induction n using Nat.strongRecOn with
  | _ n ih=>
   intro X H hJ;refine hb _ _ _ _ (V3 ?_) (round n X H hJ);rintro X' H' ⟨m,hm,hJ'⟩;exact lT hb (by omega) (ih m hm X' H' hJ')
 exact λn X H hJ=>⟨n+1,key n X H hJ⟩
section
variable {P : Program} {ql al : FuncId→Bool} {dr w : Bool} {ρ : Operand→AV} {H : AH}
theorem VW {o:Oper}{K1 K2:AV→AH→Prop}(h:EQ P ql al dr ρ H o w K1)(hk:∀r H,K1 r H→K2 r H):EQ P ql al dr ρ H o w K2:=by
 cases ha:Bt al o.op with
 | false=>
  rw[WS ha]at h⊢;obtain⟨r,H',hk1,-,h2⟩:=Jw h;exact h2 _ (hk _ _ hk1)
 | true=>
  obtain⟨dst,op,type,pos,after,guard⟩:=o;simp only at ha;unfold Bt at ha;split at ha
  ·rename_i k args ats
   have ha':Bt al (.call {callee:=.value (.func k),args:=args,argTypes:=ats})=true:=ha;unfold EQ bF at h⊢;simp only[ha']at h⊢;generalize hx:ρ (.func k)=x at h⊢;split at h
   ·rename_i f a b
    cases dr with
    | true=>exact h
    | false=>
     simp only at h⊢;cases hg:Bs P f with
     | true=>
      rw[hg]at h;cases w with
      | true=>
       obtain⟨R,hR,hall⟩:=h;exact⟨R,hR,λr H' hr=>hk r H' (hall r H' hr)⟩
      | false=>exact hk _ _ h
     | false=>
      rw[hg]at h;cases w with
      | true=>
       obtain⟨r,hr,h⟩:=h;exact⟨r,hr,hk _ _ h⟩
      | false=>exact hk _ _ h
   ·cases w with
    | true=>exact h.elim
    | false=>
     cases dr with
     | true=>exact h.elim
     | false=>
      simp only at h⊢;cases hg:Bs P 0 with
      | true=>rw[hg]at h;exact hk _ _ h
      | false=>rw[hg]at h;exact hk _ _ h
  ·cases ha
theorem Pc {ops:Array Oper}:∀(l:List Oper) (T:List AV) (H:AH) {K1 K2:List AV→AH→Prop},(∀T H,K1 T H→K2 T H)→Jx P ql al dr ops l T H K1→Jx P ql al dr ops l T H K2
 | [],T,H,K1,K2,hk,h=>hk _ _ h
 | o::l,T,H,K1,K2,hk,h=>by
  unfold Jx at h⊢;obtain⟨w,hw,h,hw2⟩:=DA h;refine hw2 _ (VW h λr H' hr=>?_);rw[Fu]at hr⊢;exact Pc l _ _ hk hr
theorem RO {ops:Array Oper}{H0:AH}{fl:List (Nat×Option Nat)}:∀(l:List Oper) (T:List AV) (H:AH) (lg:List (List AV×AH×AV)) {K1 K2:List AV→AH→Prop},(∀T H,K1 T H→K2 T H)→JQ P ql al ops H0 fl l T H lg K1→JQ P ql al ops H0 fl l T H lg K2
 | [],T,H,lg,K1,K2,hk,h=>by
  obtain⟨h1,h2⟩:=WR h;exact bQ (K:=K1 T H) h (hk _ _ h2)
 | o::l,T,H,lg,K1,K2,hk,h=>by
  unfold JQ at h⊢;obtain⟨w,hw,h,hw2⟩:=DA h;refine hw2 _ (VW h λr H' hr=>?_);rw[Fu]at hr⊢;exact RO l _ _ _ hk hr
theorem MonoF.cut {keep:List Bool}{body:List AV→AH→Kf→Prop}(h:MonoF body):MonoF (Kz keep body):=by
 intro T H K1 K2 hk hc;obtain⟨hl,hc⟩:=B4.1 hc;exact B4.2 ⟨hl,⟨h _ _ _ _ hk hc.h⟩⟩
theorem MonoF.seq {a b:List AV→AH→Kf→Prop}(ha:MonoF a)(hb:MonoF b):MonoF λT H K=>a T H (BK b K):=by
 intro T H K1 K2 hk h;refine ha _ _ _ _ ?_ h;intro e T' H' h';cases e with
 | normal=>exact hb _ _ _ _ hk h'
 | _=>exact hk _ _ _ h'
theorem iC {keep:List Bool}{body:List AV→AH→Kf→Prop}(hb:MonoF body){K1 K2:Kf}(hk:∀e T H,K1 e T H→K2 e T H):∀(m:Nat) (X:List AV) (H:AH),YG keep body K1 m X H→YG keep body K2 m X H
 | 0,X,H,h=>h.elim
 | m+1,X,H,h=>by
  refine hb _ _ _ _ ?_ h;intro e T H h';cases e with
  | normal=>
   obtain⟨hl,h1⟩:=B4.1 h';exact B4.2 ⟨hl,iC hb hk m _ _ h1⟩
  | _=>exact hk _ _ _ h'
theorem DE {fl:Cm}{un:Nat→Bool}{kp:Nat→Option (List Bool)}:∀(c:Code) (n:Nat),MonoF (AC P fl ql al un kp c n)
 | .skip,n,T,H,K1,K2,hk,h=>hk _ _ _ h
 | .label _,n,T,H,K1,K2,hk,h=>hk _ _ _ h
 | .ret,n,T,H,K1,K2,hk,h=>hk _ _ _ h
 | .exit _,n,T,H,K1,K2,hk,h=>hk _ _ _ h
 | .region id ops dr,n,T,H,K1,K2,hk,h=>by
  unfold AC at h⊢;cases dr with
  | false=>exact Pc _ _ _ (hk .normal) h
  | true=>
   simp only at h⊢;split at h
   ·split at h
    ·obtain⟨hl,h⟩:=B4.1 h
     exact B4.2 ⟨hl,⟨h.h.mono hk⟩⟩
    ·exact h.elim
   ·split at h
    ·exact Pc _ _ _ (hk .normal) h
    ·exact RO _ _ _ _ (hk .normal) h
 | .seq a b,n,T,H,K1,K2,hk,h=>by
  unfold AC at h⊢;split at h
  ·exact MonoF.seq (DE a _) (DE b _) T H K1 K2 hk h
  ·exact MonoF.seq (DE a _) (DE b _).cut T H K1 K2 hk h
 | .cond c a b,n,T,H,K1,K2,hk,h=>by
  unfold AC bB at h⊢;split at h
  ·rename_i t ht
   cases t with
   | true=>exact DE a _ T H K1 K2 hk h
   | false=>exact DE b _ T H K1 K2 hk h
  ·exact h.elim
 | .block id b,n,T,H,K1,K2,hk,h=>by
  unfold AC at h⊢;refine DE b _ T H _ _ ?_ h;intro e T' H' h';cases e with
  | exit j=>
   simp only[BD]at h'⊢;split at h'<;>exact hk _ _ _ h'
  | _=>exact hk _ _ _ h'
 | .loop b,n,T,H,K1,K2,hk,h=>by
  unfold AC at h⊢;split at h
  ·obtain⟨hl,⟨m,h⟩⟩:=B4.1 h
   exact B4.2 ⟨hl,⟨m,iC (DE b _) hk m _ _ h⟩⟩
  ·exact h.elim
 | .rangeFunc g ps a b,n,T,H,K1,K2,hk,h=>by
  unfold AC at h⊢;split at h
  ·split at h
   ·obtain⟨hl,h⟩:=B4.1 h
    exact B4.2 ⟨hl,⟨h.h.mono hk⟩⟩
   ·exact h.elim
  ·exact h.elim
 | .scope _,_,_,_,_,_,_,h=>h.elim
 | .goto _,_,_,_,_,_,_,h=>h.elim
 | .refuse _,_,_,_,_,_,_,h=>h.elim
end
end
section
section
variable {P : Program}
def Ux (P:Program)(call:GU)(ops:Array Oper):List Oper→List AV→AH→Option (List AV×AH)
 | [],T,H=>some (T,H)
 | o::l,T,H=>match BC ops T o with
  | none=>none
  | some false=>Ux P call ops l (CO T o.dst A0) H
  | some true=>match Cl P (AF T) H o with
   | some (r,H')=>Ux P call ops l (CO T o.dst r) H'
   | none=>match D4 (AF T) o with
    | some (f,args)=>if Bs P f then match call f args H with
      | some (r,H')=>Ux P call ops l (CO T o.dst r) H'
      | none=>none
     else none
    | none=>none
def Wz (P:Program)(pl:FuncId→Bool)(pure:Mr)(call:GU):Nat→Code→List AV→AH→Option (Exit×List AV×AH)
 | 0,_,_,_=>none
 | n+1,c,T,H=>match c with
  | .skip=>some (.normal,T,H)
  | .label _=>some (.normal,T,H)
  | .ret=>some (.ret,T,H)
  | .exit id=>some (.exit id,T,H)
  | .region _ ops false=>(Ux P call ops ops.toList T H).map λp=>(.normal,p.1,p.2)
  | .region _ ops true=>(fO P pl pure call ops.toList T H).map λp=>(.normal,p.1,p.2)
  | .seq a b=>match Wz P pl pure call n a T H with
   | some (.normal,T',H')=>Wz P pl pure call n b T' H'
   | r=>r
  | .cond x a b=>match AF T x with
   | .lit (.bool t)=>Wz P pl pure call n (if t then a else b) T H
   | _=>none
  | .block id b=>match Wz P pl pure call n b T H with
   | some (.exit id',T',H')=>if id'=id then some (.normal,T',H')else some (.exit id',T',H')
   | r=>r
  | .loop b=>match Wz P pl pure call n b T H with
   | some (.normal,T',H')=>Wz P pl pure call n (.loop b) T' H'
   | r=>r
  | _=>none
def lO (P:Program)(pl:FuncId→Bool)(call:GU):Mr:=λf args=>
 if pl f&&Bs P f&&Ay args then match call f args []with
  | some (r,X)=>Iv X 64 r
  | none=>none
 else none
def XF (P:Program)(pl:FuncId→Bool)(call:GU)(fuel:Nat)(f:FuncId)(args:List AV)(H:AH):Option (AV×AH):=
 match P.funcs[f]? with
 | some fn=>match fn.body with
  | some c=>match Wz P pl (lO P pl call) call fuel c (args++List.replicate (fn.ntmps - args.length) A0) H with
   | some (e,T,H')=>if V2 e then(Ox P H' T fn.results.toList).map λxs=>(Tg xs,H')else none
   | none=>none
  | none=>none
 | none=>none
def run (P:Program)(ext:GU)(pl ql:FuncId→Bool)(fuel:Nat):Nat→GU
 | 0=>λ_ _ _=>none
 | n+1=>λf args H=>match ext f args H with
  | some r=>some r
  | none=>if pl f&&Ay args then match XF P ql (run P ext pl ql fuel n) fuel f args []with
    | some (r,X)=>(Iv X 64 r).map (·,H)
    | none=>none
   else XF P ql (run P ext pl ql fuel n) fuel f args H
def Cfg.start (W:World):Cfg:={w:=W,n:=0,μ:=λ_=>(0,0,0),L:=λ_=>False,K:=λ_=>False}
theorem HR.start (W:World):HR (Cfg.start W) []:=⟨rfl,λo x h=>by simp at h,λo o' x x' h=>by simp at h,λo x h=>by simp at h,λb h=>h.elim (λh=>h.elim) (λh=>h.elim),λb h=>h.elim⟩
theorem Evo.below {G':Cfg}{W:World}(h:Evo (Cfg.start W) G'):Below W.heap.size W G'.w:=⟨h.os,h.tape,h.output,h.size,λk hk=>(h.keep k hk (λh=>h)).1⟩
theorem law_calls {f:FuncId}{args:List AV}(h:ACalls P f args [] λr _=>r=.lit (.bool true))(W:World){vs:List Value}(hv:VRs (Cfg.start W) args vs):
  Calls P f vs.toArray W λe W'=>e=.returned (.bool true)∧Below W.heap.size W W':=
 (h (Cfg.start W) vs (HR.start W) hv).mono fun e w' ⟨r,H',G',v,he,hw,hE,hx,_,hr⟩=>by
  subst hr;simp only[VR]at hx;subst hx;rw[← hw];exact⟨he,hE.below⟩
end
end
end Go.Proofs.YtbppnhenlboefaaGreat.Av
section
namespace Go.Proofs.YtbppnhenlboefaaGreat.Av
open Go Go.Proofs.Tryz
theorem own:ownKnob prog.godebug=none:=by kernel_rfl
abbrev tT:=true
abbrev fF:=false
abbrev KT:=AV→AH→Prop
abbrev u0Z:AV:=.lit (.int .u8 0)
abbrev RT:=List AV→AH→Prop
def A7:Cm:=Jp []
def BE:Nat→Option (List Bool):=Cu []
abbrev Cv (f:FuncId)(args:List AV)(H:AH)(K:KT):Prop:=∃r H',K r H'∧BCall prog f args H r H'
def qK (b:RT→AV→AV→AH→Prop)(L:AV→AV→AH→Prop):Prop:=∀(I:Nat→AV→AV→AH→Prop) (round:∀(n:Nat) (x0 x1:AV) (H:AH) (R:RT),(∀(m:Nat) (y0 y1:AV) (H':AH),m<n→I m y0 y1 H'→R [y0,y1] H')→I n x0 x1 H→b R x0 x1 H) (n:Nat) {x0 x1:AV} {H:AH} (h:I n x0 x1 H),L x0 x1 H
theorem oU {keep:List Bool}{body:List AV→AH→Kf→Prop}{K0:Kf}{b:RT→AV→AV→AH→Prop}(hb:One body)(he:∀(R:RT) (x0 x1:AV) (H:AH),body (AR keep [x0,x1]) H (Qa keep R K0)=b R x0 x1 H):qK b (λx0 x1 H=>lp keep body [x0,x1] H K0):=by
 intro I round n x0 x1 H h;refine Jt hb (LI2 I) ?_ n h;intro n X H h;obtain⟨x0,x1,rfl,h⟩:=h.elim;exact Eq.mpr (he _ x0 x1 H) (round n x0 x1 H (λX H'=>∃m,m<n∧LI2 I m X H') (λm y0 y1 H' hm hi=>⟨m,hm,hi⟩) h)
def mX (b:RT→AV→AV→AV→AH→Prop)(L:AV→AV→AV→AH→Prop):Prop:=∀(I:Nat→AV→AV→AV→AH→Prop) (round:∀(n:Nat) (x0 x1 x2:AV) (H:AH) (R:RT),(∀(m:Nat) (y0 y1 y2:AV) (H':AH),m<n→I m y0 y1 y2 H'→R [y0,y1,y2] H')→I n x0 x1 x2 H→b R x0 x1 x2 H) (n:Nat) {x0 x1 x2:AV} {H:AH} (h:I n x0 x1 x2 H),L x0 x1 x2 H
theorem fA {keep:List Bool}{body:List AV→AH→Kf→Prop}{K0:Kf}{b:RT→AV→AV→AV→AH→Prop}(hb:One body)(he:∀(R:RT) (x0 x1 x2:AV) (H:AH),body (AR keep [x0,x1,x2]) H (Qa keep R K0)=b R x0 x1 x2 H):mX b (λx0 x1 x2 H=>lp keep body [x0,x1,x2] H K0):=by
 intro I round n x0 x1 x2 H h;refine Jt hb (LI3 I) ?_ n h;intro n X H h;obtain⟨x0,x1,x2,rfl,h⟩:=h.elim;exact Eq.mpr (he _ x0 x1 x2 H) (round n x0 x1 x2 H (λX H'=>∃m,m<n∧LI3 I m X H') (λm y0 y1 y2 H' hm hi=>⟨m,hm,hi⟩) h)
def Wg (b:RT→AV→AV→AV→AV→AH→Prop)(L:AV→AV→AV→AV→AH→Prop):Prop:=∀(I:Nat→AV→AV→AV→AV→AH→Prop) (round:∀(n:Nat) (x0 x1 x2 x3:AV) (H:AH) (R:RT),(∀(m:Nat) (y0 y1 y2 y3:AV) (H':AH),m<n→I m y0 y1 y2 y3 H'→R [y0,y1,y2,y3] H')→I n x0 x1 x2 x3 H→b R x0 x1 x2 x3 H) (n:Nat) {x0 x1 x2 x3:AV} {H:AH} (h:I n x0 x1 x2 x3 H),L x0 x1 x2 x3 H
theorem MB {keep:List Bool}{body:List AV→AH→Kf→Prop}{K0:Kf}{b:RT→AV→AV→AV→AV→AH→Prop}(hb:One body)(he:∀(R:RT) (x0 x1 x2 x3:AV) (H:AH),body (AR keep [x0,x1,x2,x3]) H (Qa keep R K0)=b R x0 x1 x2 x3 H):Wg b (λx0 x1 x2 x3 H=>lp keep body [x0,x1,x2,x3] H K0):=by
 intro I round n x0 x1 x2 x3 H h;refine Jt hb (LI4 I) ?_ n h;intro n X H h;obtain⟨x0,x1,x2,x3,rfl,h⟩:=h.elim;exact Eq.mpr (he _ x0 x1 x2 x3 H) (round n x0 x1 x2 x3 H (λX H'=>∃m,m<n∧LI4 I m X H') (λm y0 y1 y2 y3 H' hm hi=>⟨m,hm,hi⟩) h)
def gL (b:RT→AV→AV→AV→AV→AV→AH→Prop)(L:AV→AV→AV→AV→AV→AH→Prop):Prop:=∀(I:Nat→AV→AV→AV→AV→AV→AH→Prop) (round:∀(n:Nat) (x0 x1 x2 x3 x4:AV) (H:AH) (R:RT),(∀(m:Nat) (y0 y1 y2 y3 y4:AV) (H':AH),m<n→I m y0 y1 y2 y3 y4 H'→R [y0,y1,y2,y3,y4] H')→I n x0 x1 x2 x3 x4 H→b R x0 x1 x2 x3 x4 H) (n:Nat) {x0 x1 x2 x3 x4:AV} {H:AH} (h:I n x0 x1 x2 x3 x4 H),L x0 x1 x2 x3 x4 H
theorem W8 {keep:List Bool}{body:List AV→AH→Kf→Prop}{K0:Kf}{b:RT→AV→AV→AV→AV→AV→AH→Prop}(hb:One body)(he:∀(R:RT) (x0 x1 x2 x3 x4:AV) (H:AH),body (AR keep [x0,x1,x2,x3,x4]) H (Qa keep R K0)=b R x0 x1 x2 x3 x4 H):gL b (λx0 x1 x2 x3 x4 H=>lp keep body [x0,x1,x2,x3,x4] H K0):=by
 intro I round n x0 x1 x2 x3 x4 H h;refine Jt hb (LI5 I) ?_ n h;intro n X H h;obtain⟨x0,x1,x2,x3,x4,rfl,h⟩:=h.elim;exact Eq.mpr (he _ x0 x1 x2 x3 x4 H) (round n x0 x1 x2 x3 x4 H (λX H'=>∃m,m<n∧LI5 I m X H') (λm y0 y1 y2 y3 y4 H' hm hi=>⟨m,hm,hi⟩) h)
def mF (b:RT→AV→AV→AV→AV→AV→AV→AH→Prop)(L:AV→AV→AV→AV→AV→AV→AH→Prop):Prop:=∀(I:Nat→AV→AV→AV→AV→AV→AV→AH→Prop) (round:∀(n:Nat) (x0 x1 x2 x3 x4 x5:AV) (H:AH) (R:RT),(∀(m:Nat) (y0 y1 y2 y3 y4 y5:AV) (H':AH),m<n→I m y0 y1 y2 y3 y4 y5 H'→R [y0,y1,y2,y3,y4,y5] H')→I n x0 x1 x2 x3 x4 x5 H→b R x0 x1 x2 x3 x4 x5 H) (n:Nat) {x0 x1 x2 x3 x4 x5:AV} {H:AH} (h:I n x0 x1 x2 x3 x4 x5 H),L x0 x1 x2 x3 x4 x5 H
theorem aD {keep:List Bool}{body:List AV→AH→Kf→Prop}{K0:Kf}{b:RT→AV→AV→AV→AV→AV→AV→AH→Prop}(hb:One body)(he:∀(R:RT) (x0 x1 x2 x3 x4 x5:AV) (H:AH),body (AR keep [x0,x1,x2,x3,x4,x5]) H (Qa keep R K0)=b R x0 x1 x2 x3 x4 x5 H):mF b (λx0 x1 x2 x3 x4 x5 H=>lp keep body [x0,x1,x2,x3,x4,x5] H K0):=by
 intro I round n x0 x1 x2 x3 x4 x5 H h;refine Jt hb (LI6 I) ?_ n h;intro n X H h;obtain⟨x0,x1,x2,x3,x4,x5,rfl,h⟩:=h.elim;exact Eq.mpr (he _ x0 x1 x2 x3 x4 x5 H) (round n x0 x1 x2 x3 x4 x5 H (λX H'=>∃m,m<n∧LI6 I m X H') (λm y0 y1 y2 y3 y4 y5 H' hm hi=>⟨m,hm,hi⟩) h)
def pP (b:RT→AV→AV→AV→AV→AV→AV→AV→AH→Prop)(L:AV→AV→AV→AV→AV→AV→AV→AH→Prop):Prop:=∀(I:Nat→AV→AV→AV→AV→AV→AV→AV→AH→Prop) (round:∀(n:Nat) (x0 x1 x2 x3 x4 x5 x6:AV) (H:AH) (R:RT),(∀(m:Nat) (y0 y1 y2 y3 y4 y5 y6:AV) (H':AH),m<n→I m y0 y1 y2 y3 y4 y5 y6 H'→R [y0,y1,y2,y3,y4,y5,y6] H')→I n x0 x1 x2 x3 x4 x5 x6 H→b R x0 x1 x2 x3 x4 x5 x6 H) (n:Nat) {x0 x1 x2 x3 x4 x5 x6:AV} {H:AH} (h:I n x0 x1 x2 x3 x4 x5 x6 H),L x0 x1 x2 x3 x4 x5 x6 H
theorem qP {keep:List Bool}{body:List AV→AH→Kf→Prop}{K0:Kf}{b:RT→AV→AV→AV→AV→AV→AV→AV→AH→Prop}(hb:One body)(he:∀(R:RT) (x0 x1 x2 x3 x4 x5 x6:AV) (H:AH),body (AR keep [x0,x1,x2,x3,x4,x5,x6]) H (Qa keep R K0)=b R x0 x1 x2 x3 x4 x5 x6 H):pP b (λx0 x1 x2 x3 x4 x5 x6 H=>lp keep body [x0,x1,x2,x3,x4,x5,x6] H K0):=by
 intro I round n x0 x1 x2 x3 x4 x5 x6 H h;refine Jt hb (LI7 I) ?_ n h;intro n X H h;obtain⟨x0,x1,x2,x3,x4,x5,x6,rfl,h⟩:=h.elim;exact Eq.mpr (he _ x0 x1 x2 x3 x4 x5 x6 H) (round n x0 x1 x2 x3 x4 x5 x6 H (λX H'=>∃m,m<n∧LI7 I m X H') (λm y0 y1 y2 y3 y4 y5 y6 H' hm hi=>⟨m,hm,hi⟩) h)
theorem qO {keep:List Bool}{body:List AV→AH→Kf→Prop}{K0:Kf}{b:RT→AV→AV→AV→AV→AV→AV→AV→AH→Prop}(hb:MonoF body)(he:∀(R:RT) (x0 x1 x2 x3 x4 x5 x6:AV) (H:AH),body (AR keep [x0,x1,x2,x3,x4,x5,x6]) H (Qa keep R K0)=b R x0 x1 x2 x3 x4 x5 x6 H):pP b (λx0 x1 x2 x3 x4 x5 x6 H=>lp keep body [x0,x1,x2,x3,x4,x5,x6] H K0):=by
 intro I round n x0 x1 x2 x3 x4 x5 x6 H h;refine eZ hb (LI7 I) ?_ n h;intro n X H h;obtain⟨x0,x1,x2,x3,x4,x5,x6,rfl,h⟩:=h.elim;exact Eq.mpr (he _ x0 x1 x2 x3 x4 x5 x6 H) (round n x0 x1 x2 x3 x4 x5 x6 H (λX H'=>∃m,m<n∧LI7 I m X H') (λm y0 y1 y2 y3 y4 y5 y6 H' hm hi=>⟨m,hm,hi⟩) h)
def RL8 (b:RT→AV→AV→AV→AV→AV→AV→AV→AV→AH→Prop)(L:AV→AV→AV→AV→AV→AV→AV→AV→AH→Prop):Prop:=∀(I:Nat→AV→AV→AV→AV→AV→AV→AV→AV→AH→Prop) (round:∀(n:Nat) (x0 x1 x2 x3 x4 x5 x6 x7:AV) (H:AH) (R:RT),(∀(m:Nat) (y0 y1 y2 y3 y4 y5 y6 y7:AV) (H':AH),m<n→I m y0 y1 y2 y3 y4 y5 y6 y7 H'→R [y0,y1,y2,y3,y4,y5,y6,y7] H')→I n x0 x1 x2 x3 x4 x5 x6 x7 H→b R x0 x1 x2 x3 x4 x5 x6 x7 H) (n:Nat) {x0 x1 x2 x3 x4 x5 x6 x7:AV} {H:AH} (h:I n x0 x1 x2 x3 x4 x5 x6 x7 H),L x0 x1 x2 x3 x4 x5 x6 x7 H
theorem qQ {keep:List Bool}{body:List AV→AH→Kf→Prop}{K0:Kf}{b:RT→AV→AV→AV→AV→AV→AV→AV→AV→AH→Prop}(hb:One body)(he:∀(R:RT) (x0 x1 x2 x3 x4 x5 x6 x7:AV) (H:AH),body (AR keep [x0,x1,x2,x3,x4,x5,x6,x7]) H (Qa keep R K0)=b R x0 x1 x2 x3 x4 x5 x6 x7 H):RL8 b (λx0 x1 x2 x3 x4 x5 x6 x7 H=>lp keep body [x0,x1,x2,x3,x4,x5,x6,x7] H K0):=by
 intro I round n x0 x1 x2 x3 x4 x5 x6 x7 H h;refine Jt hb (LI8 I) ?_ n h;intro n X H h;obtain⟨x0,x1,x2,x3,x4,x5,x6,x7,rfl,h⟩:=h.elim;exact Eq.mpr (he _ x0 x1 x2 x3 x4 x5 x6 x7 H) (round n x0 x1 x2 x3 x4 x5 x6 x7 H (λX H'=>∃m,m<n∧LI8 I m X H') (λm y0 y1 y2 y3 y4 y5 y6 y7 H' hm hi=>⟨m,hm,hi⟩) h)
def Ji:FuncId→Bool:=S5 [188,179,181,23,54,142,148,180,182,145,22,73,170,50,172,141,171,173,98,99,208,55,56,110,144,53,146,201,204,111,223,94,167,169,163,143,184,209,225,74,147]
def qU:FuncId→Bool:=S5 [230]
theorem JZ:prog.follows .mixedOrders=true:=by kernel_rfl
theorem fok (fl:Cm)(ql:FuncId→Bool)(kp:Nat→Option (List Bool)){f:FuncId}{fn:Func}{args:List AV}{H:AH}{K:KT}{X:Prop}(hf:prog.funcs[f]?=some fn)(h:X)(hc:Wv fl ql fn=true:=by kernel_rfl)(he:Of prog fl ql Ak Ak kp fn args H K=X:=by kernel_rfl):Cv f args H K:=fS JZ hf hc (Eq.mpr he h)
def JD:Nat→Option (List Bool):=Cu [(10,mk 75 0 [1,2,3,6,33,34,35])]
def KB (p:List Bool)(n:Nat):List AV→AH→Kf→Prop:=AC prog A7 Ji Ak Ak JD (sub p (AI f188)) n
def IE (x1 x2 x3 x6 x33 x34 x35:AV)(H:AH)(K:KT):Prop:=lp (mk 75 0 [1,2,3,6,33,34,35]) (KB [tT,tT,tT,tT,fF,tT,fF,fF] 11) [x1,x2,x3,x6,x33,x34,x35] H (BD 0 (BK (KB [tT,tT,tT,tT,tT] 17) (Bw prog f188.results.toList K)))
def Hl (R10:RT)(x1 x2 x3 x6 x33 x34 x35:AV)(H:AH)(K:KT):Prop:=
 bO (Ax .lss x35 x34) λv0=>
 bB v0 λt1=>bI t1 (
 bO (Bv 2 x33 x35) λv2=>
 bO (Ar true 2 H v2) λv3=>
 bH (A8 H (.agg [(I 0),(I 0)])) λv4 H5=>
 bS (AU 2 H5 v4 v3) λH6=>
 bO (Ac 0 v4) λv7=>
 bO (Ar false 1 H6 v7) λv8=>
 bO (Ax .quo v8 (I 8)) λv9=>
 bC (BCall prog 202 [x3,v9] H6) λv10 H11=>
 bO (Ac 1 x3) λv12=>
 bO (Ar false 1 H11 v12) λv13=>
 bO (Bv 9 v13 v10) λv14=>
 bO (Ac 1 v14) λv15=>
 bO (Ac 0 v4) λv16=>
 bO (Ar false 1 H11 v16) λv17=>
 bO (Ax .mul v9 (I 8)) λv18=>
 bO (Ax .sub v17 v18) λv19=>
 bO (Nj 8 1 H11 v15 (some v19) none) λv20=>
 bO (Ac 0 v4) λv21=>
 bO (Ar false 1 H11 v21) λv22=>
 bO (Ax .sub v22 x1) λv23=>
 bO (AT 1 x2 (some v23) none none) λv24=>
 bO (Ac 1 v4) λv25=>
 bO (Ar false 1 H11 v25) λv26=>
 bO (AT 1 v24 none (some v26) none) λv27=>
 bH (MK 1 H11 v20 v27) λv28 H29=>
 bO (Ax .add x35 (I 1)) λv30=>
 R10 [x1,x2,x3,x6,x33,x34,v30] H29)
 (bO (Ac 0 x3) λv31=>
 bO (Ar false 1 H v31) λv32=>
 bO (Be x2) λv33=>
 bO (Ax .add x1 v33) λv34=>
 bO (amm W3 [v32,v34]) λv35=>
 bO (Ac 0 x3) λv36=>
 bS (AU 1 H v36 v35) λH37=>
 bO (Ar true 2 H37 x3) λv38=>
 bS (AU 2 H37 x6 v38) λH39=>
 bO (Ar true 2 H39 x6) λv40=>
 K (.tup [v40,(B true)]) H39)
theorem JX {K:KT}:pP (λR x1 x2 x3 x6 x33 x34 x35 H=>Hl R x1 x2 x3 x6 x33 x34 x35 H K) (λx1 x2 x3 x6 x33 x34 x35 H=>IE x1 x2 x3 x6 x33 x34 x35 H K):=qP (A5 _ _) (λ_ _ _ _ _ _ _ _ _=>by kernel_rfl)
def Nx (a0 a1 a2:AV)(H:AH)(K:KT):Prop:=
 bH (A8 H a0) λv0 H1=>
 bH (A8 H1 (.agg [(I 0),Ad])) λv2 H3=>
 bO (Ar true 2 H3 v0) λv4=>
 bP (PCall prog 54 [v4] H3) λv5=>
 bO (E4 .not v5) λv6=>
 bG v6 false λw7=>
 gO w7 (some a1) λv8=>
 bG v6 false λw9=>
 gO w9 (some a2) λv10=>
 bG v6 false λw11=>
 gO w11 (Be v10) λv12=>
 bG v6 false λw13=>
 gP w13 (PCall prog 98 [v8,v12] H3) λv14=>
 bG v6 false λw15=>
 gO w15 (E4 .not v14) λv16=>
 bO (AG v6 (B true) v16) λv17=>
 bB v17 λt18=>bI t18 (
 bO (EW [(I 0),Ad] []) λv19=>
 bS (AU 2 H3 v2 v19) λH20=>
 bO (Ar true 2 H20 v2) λv21=>
 K (.tup [v21,(B false)]) H20)
 (bO (Ar true 2 H3 v0) λv22=>
 bC (BCall prog 103 [v22] H3) λv23 H24=>
 bS (AU 2 H24 v0 v23) λH25=>
 bO (Be a2) λv26=>
 bO (Ax .eql v26 (I 0)) λv27=>
 bB v27 λt28=>bI t28 (
 bO (Ar true 2 H25 v0) λv29=>
 bS (AU 2 H25 v2 v29) λH30=>
 bO (Ar true 2 H30 v2) λv31=>
 K (.tup [v31,(B true)]) H30)
 (bO (Be a2) λv32=>
 bO (EW [(I 0),(I 0)] [(0,1,a1),(1,1,v32)]) λv33=>
 bP (PCall prog 99 [v33,(I 8)] H25) λv34=>
 bO (Be v34) λv35=>
 IE a1 a2 v0 v2 v34 v35 (I 0) H25 K))
theorem PQ {a0 a1 a2:AV}{H:AH}{K:KT}(h:Nx a0 a1 a2 H K):Cv 188 [a0,a1,a2] H K:=
 fok A7 Ji JD func188 h
def LY:Nat→Option (List Bool):=Cu [(7,mk 40 0 [1,3,15,16,17])]
def Nu (p:List Bool)(n:Nat):List AV→AH→Kf→Prop:=AC prog A7 Ji Ak Ak LY (sub p (AI f54)) n
def LX (x1 x3 x15 x16 x17:AV)(H:AH)(K:KT):Prop:=lp (mk 40 0 [1,3,15,16,17]) (Nu [tT,tT,tT,fF,tT,fF,fF] 8) [x1,x3,x15,x16,x17] H (BD 0 (BK (Nu [tT,tT,tT,tT] 15) (Bw prog f54.results.toList K)))
def J9 (R7:RT)(x1 x3 x15 x16 x17:AV)(H:AH)(K:KT):Prop:=
 bO (Ax .lss x17 x16) λv0=>
 bB v0 λt1=>bI t1 (
 bO (Bv 9 x15 x17) λv2=>
 bO (Ar true 9 H v2) λv3=>
 bH (A8 H (.agg [(I 0),u0Z,u0Z,u0Z,u0Z,u0Z,u0Z,u0Z,u0Z])) λv4 H5=>
 bS (AU 9 H5 v4 v3) λH6=>
 bO (Ac 0 v4) λv7=>
 bO (Ar false 1 H6 v7) λv8=>
 bO (Ax .leq v8 x3) λv9=>
 bG v9 false λw10=>
 gO w10 (Ac 0 v4) λv11=>
 bG v9 false λw12=>
 gO w12 (Ar false 1 H6 v11) λv13=>
 bG v9 false λw14=>
 gO w14 (Ax .geq v13 (I 137438953472)) λv15=>
 bO (AG v9 (B true) v15) λv16=>
 bG v16 false λw17=>
 gO w17 (Ar true 9 H6 v4) λv18=>
 bG v16 false λw19=>
 gO w19 (Ac 0 x1) λv20=>
 bG v16 false λw21=>
 gO w21 (Ar false 1 H6 v20) λv22=>
 bG v16 false λw23=>
 gP w23 (PCall prog 110 [v18,v22] H6) λv24=>
 bG v16 false λw25=>
 gO w25 (E4 .not v24) λv26=>
 bO (AG v16 (B true) v26) λv27=>
 bB v27 λt28=>bI t28 (
 K (B false) H6)
 (bO (Ac 0 v4) λv29=>
 bO (Ar false 1 H6 v29) λv30=>
 bO (Ax .add x17 (I 1)) λv31=>
 R7 [x1,v30,x15,x16,v31] H6))
 (K (B true) H)
theorem M1 {K:KT}:gL (λR x1 x3 x15 x16 x17 H=>J9 R x1 x3 x15 x16 x17 H K) (λx1 x3 x15 x16 x17 H=>LX x1 x3 x15 x16 x17 H K):=W8 (A5 _ _) (λ_ _ _ _ _ _ _=>by kernel_rfl)
def QR (a0:AV)(H:AH)(K:KT):Prop:=
 bH (A8 H a0) λv0 H1=>
 bO (Ac 0 v0) λv2=>
 bO (Ar false 1 H1 v2) λv3=>
 bO (Ax .lss v3 (I 0)) λv4=>
 bG v4 false λw5=>
 gO w5 (Ac 0 v0) λv6=>
 bG v4 false λw7=>
 gO w7 (Ar false 1 H1 v6) λv8=>
 bG v4 false λw9=>
 gO w9 (Ax .gtr v8 (I 1099511627776)) λv10=>
 bO (AG v4 (B true) v10) λv11=>
 bB v11 λt12=>bI t12 (
 K (B false) H1)
 (bO (Ac 1 v0) λv13=>
 bO (Ar false 1 H1 v13) λv14=>
 bO (Be v14) λv15=>
 LX v0 (I (-1)) v14 v15 (I 0) H1 K)
theorem Ss {a0:AV}{H:AH}{K:KT}(h:QR a0 H K):Cv 54 [a0] H K:=
 fok A7 Ji LY func54 h
def Hh:Nat→Option (List Bool):=Cu [(11,mk 50 0 [4,8]),(7,mk 50 0 [1,2,3,4,8,10])]
def Fs (p:List Bool)(n:Nat):List AV→AH→Kf→Prop:=AC prog A7 Ji Ak Ak Hh (sub p (AI f170)) n
def Dn (x4 x8:AV)(H:AH)(K:KT):Prop:=jn (mk 50 0 [4,8]) (Fs [tT,tT,tT,tT,tT] 13) [x4,x8] H (Bw prog f170.results.toList K)
def Hg (x1 x2 x3 x4 x8 x10:AV)(H:AH)(K:KT):Prop:=lp (mk 50 0 [1,2,3,4,8,10]) (Fs [tT,tT,tT,fF,tT,fF,fF] 8) [x1,x2,x3,x4,x8,x10] H (BD 0 (BK (Fs [tT,tT,tT,tT] 11) (Bw prog f170.results.toList K)))
def FC (x4 x8:AV)(H:AH)(K:KT):Prop:=
 bO (Ar true 2 H x4) λv0=>
 bS (AU 2 H x8 v0) λH1=>
 bO (Ar true 2 H1 x8) λv2=>
 K (.tup [v2,(B true)]) H1
theorem Jn (x4 x8:AV)(H:AH)(K:KT):Dn x4 x8 H K=FC x4 x8 H K:=(Ea _ _ _ _ _).trans (by kernel_rfl)
def Ge (R7:RT)(x1 x2 x3 x4 x8 x10:AV)(H:AH)(K:KT):Prop:=
 bO (Ax .add x1 x2) λv0=>
 bO (Ax .sub v0 (I 1)) λv1=>
 bO (Ax .quo v1 (I 8)) λv2=>
 bO (Ax .leq x10 v2) λv3=>
 bB v3 λt4=>bI t4 (
 bC (BCall prog 202 [x4,x10] H) λv5 H6=>
 bO (Ax .add x10 (I 1)) λv7=>
 R7 [x1,x2,x3,x4,x8,v7] H6)
 (bO (E4 .not x3) λv8=>
 bB v8 λt9=>bI t9 (
 bO (Ac 0 x4) λv10=>
 bO (Ar false 1 H v10) λv11=>
 bO (Ax .add x1 x2) λv12=>
 bO (amm W3 [v11,v12]) λv13=>
 bO (Ac 0 x4) λv14=>
 bS (AU 1 H v14 v13) λH15=>
 Dn x4 x8 H15 K)
 (Dn x4 x8 H K))
theorem IC {K:KT}:mF (λR x1 x2 x3 x4 x8 x10 H=>Ge R x1 x2 x3 x4 x8 x10 H K) (λx1 x2 x3 x4 x8 x10 H=>Hg x1 x2 x3 x4 x8 x10 H K):=aD (A5 _ _) (λ_ _ _ _ _ _ _ _=>by kernel_rfl)
def J8 (a0 a1 a2 a3:AV)(H:AH)(K:KT):Prop:=
 bH (A8 H a0) λv0 H1=>
 bH (A8 H1 (.agg [(I 0),Ad])) λv2 H3=>
 bO (Ar true 2 H3 v0) λv4=>
 bP (PCall prog 54 [v4] H3) λv5=>
 bO (E4 .not v5) λv6=>
 bG v6 false λw7=>
 gO w7 (some a1) λv8=>
 bG v6 false λw9=>
 gO w9 (some a2) λv10=>
 bG v6 false λw11=>
 gP w11 (PCall prog 201 [v8,v10] H3) λv12=>
 bG v6 false λw13=>
 gO w13 (E4 .not v12) λv14=>
 bO (AG v6 (B true) v14) λv15=>
 bG v15 false λw16=>
 gO w16 (some a2) λv17=>
 bG v15 false λw18=>
 gO w18 (Ax .gtr v17 (I 32768)) λv19=>
 bO (AG v15 (B true) v19) λv20=>
 bB v20 λt21=>bI t21 (
 bO (EW [(I 0),Ad] []) λv22=>
 bS (AU 2 H3 v2 v22) λH23=>
 bO (Ar true 2 H23 v2) λv24=>
 K (.tup [v24,(B false)]) H23)
 (bO (Ar true 2 H3 v0) λv25=>
 bC (BCall prog 103 [v25] H3) λv26 H27=>
 bS (AU 2 H27 v0 v26) λH28=>
 bO (Ax .quo a1 (I 8)) λv29=>
 Hg a1 a2 a3 v0 v2 v29 H28 K)
theorem M0 {a0 a1 a2 a3:AV}{H:AH}{K:KT}(h:J8 a0 a1 a2 a3 H K):Cv 170 [a0,a1,a2,a3] H K:=
 fok A7 Ji Hh func170 h
def Hj:Nat→Option (List Bool):=Cu [(9,mk 45 0 [2,3,4,30,31])]
def HQ (p:List Bool)(n:Nat):List AV→AH→Kf→Prop:=AC prog A7 Ji Ak Ak Hj (sub p (AI f50)) n
def Hi (x2 x3 x4 x30 x31:AV)(H:AH)(K:KT):Prop:=lp (mk 45 0 [2,3,4,30,31]) (HQ [tT,tT,tT,tT,tT,fF,tT,fF,fF] 10) [x2,x3,x4,x30,x31] H (BD 0 (BK (HQ [tT,tT,tT,tT,tT,tT] 14) (Bw prog f50.results.toList K)))
def Gf (R9:RT)(x2 x3 x4 x30 x31:AV)(H:AH)(K:KT):Prop:=
 bO (Ax .lss x31 x30) λv0=>
 bB v0 λt1=>bI t1 (
 bO (Ac 1 x2) λv2=>
 bO (Ar false 1 H v2) λv3=>
 bO (Bv 9 v3 x31) λv4=>
 bO (Ar false 1 H x3) λv5=>
 bO (Ar false 1 H x3) λv6=>
 bO (Ax .sub (I 1099511627776) v6) λv7=>
 bO (EW [(I 0),(I 0)] [(0,1,v5),(1,1,v7)]) λv8=>
 bC (BCall prog 106 [v4,v8] H) λv9 H10=>
 bO (Ax .add x31 (I 1)) λv11=>
 R9 [x2,x3,x4,x30,v11] H10)
 (bO (Ar true 2 H x2) λv12=>
 bS (AU 2 H x4 v12) λH13=>
 bO (Ar true 2 H13 x4) λv14=>
 K (.tup [v14,(B true)]) H13)
theorem ID {K:KT}:gL (λR x2 x3 x4 x30 x31 H=>Gf R x2 x3 x4 x30 x31 H K) (λx2 x3 x4 x30 x31 H=>Hi x2 x3 x4 x30 x31 H K):=W8 (A5 _ _) (λ_ _ _ _ _ _ _=>by kernel_rfl)
def JC (a0 a1:AV)(H:AH)(K:KT):Prop:=
 bH (A8 H a0) λv0 H1=>
 bH (A8 H1 a1) λv2 H3=>
 bH (A8 H3 (.agg [(I 0),Ad])) λv4 H5=>
 bO (Ar true 2 H5 v0) λv6=>
 bP (PCall prog 54 [v6] H5) λv7=>
 bO (E4 .not v7) λv8=>
 bG v8 false λw9=>
 gO w9 (Ar false 1 H5 v2) λv10=>
 bG v8 false λw11=>
 gO w11 (Ax .lss v10 (I 0)) λv12=>
 bO (AG v8 (B true) v12) λv13=>
 bG v13 false λw14=>
 gO w14 (Ar false 1 H5 v2) λv15=>
 bG v13 false λw16=>
 gO w16 (Ax .gtr v15 (I 1099511627776)) λv17=>
 bO (AG v13 (B true) v17) λv18=>
 bB v18 λt19=>bI t19 (
 bO (EW [(I 0),Ad] []) λv20=>
 bS (AU 2 H5 v4 v20) λH21=>
 bO (Ar true 2 H21 v4) λv22=>
 K (.tup [v22,(B false)]) H21)
 (bO (Ar true 2 H5 v0) λv23=>
 bC (BCall prog 103 [v23] H5) λv24 H25=>
 bS (AU 2 H25 v0 v24) λH26=>
 bO (Ar false 1 H26 v2) λv27=>
 bO (Ac 0 v0) λv28=>
 bS (AU 1 H26 v28 v27) λH29=>
 bO (Ac 1 v0) λv30=>
 bO (Ar false 1 H29 v30) λv31=>
 bC (BCall prog 104 [v31,(.fn (.func 105) [] [v2])] H29) λv32 H33=>
 bO (Ac 1 v0) λv34=>
 bS (AU 1 H33 v34 v32) λH35=>
 bO (Ac 1 v0) λv36=>
 bO (Ar false 1 H35 v36) λv37=>
 bO (Be v37) λv38=>
 Hi v0 v2 v4 v38 (I 0) H35 K)
theorem M2 {a0 a1:AV}{H:AH}{K:KT}(h:JC a0 a1 H K):Cv 50 [a0,a1] H K:=
 fok A7 Ji Hj func50 h
def JB:Nat→Option (List Bool):=Cu [(9,mk 44 0 [3,6,8,32,33])]
def K9 (p:List Bool)(n:Nat):List AV→AH→Kf→Prop:=AC prog A7 Ji Ak Ak JB (sub p (AI f172)) n
def JA (x3 x6 x8 x32 x33:AV)(H:AH)(K:KT):Prop:=lp (mk 44 0 [3,6,8,32,33]) (K9 [tT,tT,tT,tT,tT,fF,tT,fF,fF] 10) [x3,x6,x8,x32,x33] H (BD 0 (BK (K9 [tT,tT,tT,tT,tT,tT] 14) (Bw prog f172.results.toList K)))
def HO (R9:RT)(x3 x6 x8 x32 x33:AV)(H:AH)(K:KT):Prop:=
 bO (Ax .lss x33 x32) λv0=>
 bB v0 λt1=>bI t1 (
 bO (Ac 1 x3) λv2=>
 bO (Ar false 1 H v2) λv3=>
 bO (Bv 9 v3 x33) λv4=>
 bO (Ar true 2 H x8) λv5=>
 bC (BCall prog 106 [v4,v5] H) λv6 H7=>
 bO (Ax .add x33 (I 1)) λv8=>
 R9 [x3,x6,x8,x32,v8] H7)
 (bO (Ar true 2 H x3) λv9=>
 bS (AU 2 H x6 v9) λH10=>
 bO (Ar true 2 H10 x6) λv11=>
 K (.tup [v11,(B true)]) H10)
theorem K8 {K:KT}:gL (λR x3 x6 x8 x32 x33 H=>HO R x3 x6 x8 x32 x33 H K) (λx3 x6 x8 x32 x33 H=>JA x3 x6 x8 x32 x33 H K):=W8 (A5 _ _) (λ_ _ _ _ _ _ _=>by kernel_rfl)
def Nv (a0 a1 a2:AV)(H:AH)(K:KT):Prop:=
 bH (A8 H a0) λv0 H1=>
 bH (A8 H1 (.agg [(I 0),Ad])) λv2 H3=>
 bO (Ar true 2 H3 v0) λv4=>
 bP (PCall prog 54 [v4] H3) λv5=>
 bO (E4 .not v5) λv6=>
 bG v6 false λw7=>
 gO w7 (some a1) λv8=>
 bG v6 false λw9=>
 gO w9 (some a2) λv10=>
 bG v6 false λw11=>
 gP w11 (PCall prog 201 [v8,v10] H3) λv12=>
 bG v6 false λw13=>
 gO w13 (E4 .not v12) λv14=>
 bO (AG v6 (B true) v14) λv15=>
 bB v15 λt16=>bI t16 (
 bO (EW [(I 0),Ad] []) λv17=>
 bS (AU 2 H3 v2 v17) λH18=>
 bO (Ar true 2 H18 v2) λv19=>
 K (.tup [v19,(B false)]) H18)
 (bO (Ar true 2 H3 v0) λv20=>
 bC (BCall prog 103 [v20] H3) λv21 H22=>
 bS (AU 2 H22 v0 v21) λH23=>
 bO (EW [(I 0),(I 0)] [(0,1,a1),(1,1,a2)]) λv24=>
 bH (A8 H23 (.agg [(I 0),(I 0)])) λv25 H26=>
 bS (AU 2 H26 v25 v24) λH27=>
 bO (Ac 1 v0) λv28=>
 bO (Ar false 1 H27 v28) λv29=>
 bC (BCall prog 104 [v29,(.fn (.func 203) [] [v25])] H27) λv30 H31=>
 bO (Ac 1 v0) λv32=>
 bS (AU 1 H31 v32 v30) λH33=>
 bO (Ac 1 v0) λv34=>
 bO (Ar false 1 H33 v34) λv35=>
 bO (Be v35) λv36=>
 JA v0 v2 v25 v36 (I 0) H33 K)
theorem PP {a0 a1 a2:AV}{H:AH}{K:KT}(h:Nv a0 a1 a2 H K):Cv 172 [a0,a1,a2] H K:=
 fok A7 Ji JB func172 h
def Pu (a0 a1:AV)(H:AH)(K:KT):Prop:=
 bO (Ax .geq a0 (I 0)) λv0=>
 bG v0 true λw1=>
 gO w1 (some a1) λv2=>
 bG v0 true λw3=>
 gO w3 (Ax .leq v2 (I 4096)) λv4=>
 bO (AG v0 v4 (B false)) λv5=>
 bG v5 true λw6=>
 gO w6 (some a0) λv7=>
 bG v5 true λw8=>
 gO w8 (some a1) λv9=>
 bG v5 true λw10=>
 gO w10 (Ax .sub (I 1099511627776) v9) λv11=>
 bG v5 true λw12=>
 gO w12 (Ax .leq v7 v11) λv13=>
 bO (AG v5 v13 (B false)) λv14=>
 K v14 H
theorem QQ {a0 a1:AV}{H:AH}{K:KT}(h:Pu a0 a1 H K):Cv 98 [a0,a1] H K:=
 fok A7 Ji BE func98 h
def OD:Cm:=Jp [(1,[(1,some 4)])]
def LZ (a0:AV)(H:AH)(K:KT):Prop:=
 bH (A8 H a0) λv0 H1=>
 bH (A8 H1 (.agg [(I 0),Ad])) λv2 H3=>
 bO (Ac 0 v0) λv4=>
 bO (Ar false 1 H3 v4) λv5=>
 bO (Ac 1 v0) λv6=>
 bO (Ar false 1 H3 v6) λv7=>
 bC (BCall prog 95 [v7] H3) λv8 H9=>
 bO (EW [(I 0),Ad] [(0,1,v5),(1,1,v8)]) λv10=>
 bS (AU 2 H9 v2 v10) λH11=>
(Ar false 1 H9 v4=some v5)∧
 bO (Ar true 2 H11 v2) λv12=>
 K v12 H11
theorem OE {a0:AV}{H:AH}{K:KT}(h:LZ a0 H K):Cv 103 [a0] H K:=
 fok OD Ji BE func103 h
def NT:Nat→Option (List Bool):=Cu [(6,mk 48 0 [1,2,5])]
def P6 (p:List Bool)(n:Nat):List AV→AH→Kf→Prop:=AC prog A7 Ji Ak Ak NT (sub p (AI f99)) n
def NR (x1 x2 x5:AV)(H:AH)(K:KT):Prop:=lp (mk 48 0 [1,2,5]) (P6 [tT,tT,tT,fF,fF,fF] 7) [x1,x2,x5] H (BD 0 (BK (P6 [tT,tT,tT,tT] 11) (Bw prog f99.results.toList K)))
def KZ (R6:RT)(x1 x2 x5:AV)(H:AH)(K:KT):Prop:=
 bO (Ac 1 x2) λv0=>
 bO (Ar false 1 H v0) λv1=>
 bO (Ax .gtr v1 (I 0)) λv2=>
 bB v2 λt3=>bI t3 (
 bO (Ac 1 x2) λv4=>
 bO (Ar false 1 H v4) λv5=>
 bO (Ac 0 x2) λv6=>
 bO (Ar false 1 H v6) λv7=>
 bO (Ax .rem v7 x1) λv8=>
 bO (Ax .sub x1 v8) λv9=>
 bO (amm U9 [v5,v9]) λv10=>
 bO (Ac 0 x2) λv11=>
 bO (Ar false 1 H v11) λv12=>
 bO (EW [(I 0),(I 0)] [(0,1,v12),(1,1,v10)]) λv13=>
 bH (Dh H 2 1 (Bo [(I 0),(I 0)] 1) [(0,2,v13)]) λv14 H15=>
 bH (Oo 2 16 H15 x5 v14) λv16 H17=>
 bO (Ac 0 x2) λv18=>
 bO (Ar false 1 H17 v18) λv19=>
 bO (Ax .add v19 v10) λv20=>
 bO (Ac 1 x2) λv21=>
 bO (Ar false 1 H17 v21) λv22=>
 bO (Ax .sub v22 v10) λv23=>
 bO (EW [(I 0),(I 0)] [(0,1,v20),(1,1,v23)]) λv24=>
 bS (AU 2 H17 x2 v24) λH25=>
 R6 [x1,x2,v16] H25)
 (K x5 H)
theorem NS {K:KT}:mX (λR x1 x2 x5 H=>KZ R x1 x2 x5 H K) (λx1 x2 x5 H=>NR x1 x2 x5 H K):=fA (A5 _ _) (λ_ _ _ _ _=>by kernel_rfl)
def Tn (a0 a1:AV)(H:AH)(K:KT):Prop:=
 bH (A8 H a0) λv0 H1=>
 bO (Ar true 2 H1 v0) λv2=>
 bP (PCall prog 111 [v2] H1) λv3=>
 bO (E4 .not v3) λv4=>
 bG v4 false λw5=>
 gO w5 (Ac 1 v0) λv6=>
 bG v4 false λw7=>
 gO w7 (Ar false 1 H1 v6) λv8=>
 bG v4 false λw9=>
 gO w9 (Ax .gtr v8 (I 4096)) λv10=>
 bO (AG v4 (B true) v10) λv11=>
 bG v11 false λw12=>
 gO w12 (some a1) λv13=>
 bG v11 false λw14=>
 gO w14 (Ax .lss v13 (I 1)) λv15=>
 bO (AG v11 (B true) v15) λv16=>
 bB v16 λt17=>bI t17 (
 K Ad H1)
 (NR a1 v0 Ad H1 K)
theorem Ur {a0 a1:AV}{H:AH}{K:KT}(h:Tn a0 a1 H K):Cv 99 [a0,a1] H K:=
 fok A7 Ji NT func99 h
def KF:Nat→Option (List Bool):=Cu [(2,mk 31 0 [5])]
def St (p:List Bool)(n:Nat):List AV→AH→Kf→Prop:=AC prog A7 Ji Ak Ak KF (sub p (AI f202)) n
def Hm (x5:AV)(H:AH)(K:KT):Prop:=jn (mk 31 0 [5]) (St [tT,tT,tT] 4) [x5] H (Bw prog f202.results.toList K)
def FH (x5:AV)(H:AH)(K:KT):Prop:=
 K x5 H
theorem HV (x5:AV)(H:AH)(K:KT):Hm x5 H K=FH x5 H K:=(Ea _ _ _ _ _).trans (by kernel_rfl)
def Pv (a0 a1:AV)(H:AH)(K:KT):Prop:=
 bO (Af a0) λv0=>
 bO (Ac 1 v0) λv1=>
 bO (Ar false 1 H v1) λv2=>
 bP (PCall prog 208 [v2,a1] H) λv3=>
 bO (Aj v3 0) λv4=>
 bO (Aj v3 1) λv5=>
 bO (E4 .not v5) λv6=>
 bB v6 λt7=>bI t7 (
 bO (Af a0) λv8=>
 bO (Ac 1 v8) λv9=>
 bO (Ar false 1 H v9) λv10=>
 bO (EW [(I 0),u0Z,u0Z,u0Z,u0Z,u0Z,u0Z,u0Z,u0Z] [(0,1,a1)]) λv11=>
 bH (Dh H 9 1 (Bo [(I 0),u0Z,u0Z,u0Z,u0Z,u0Z,u0Z,u0Z,u0Z] 1) [(0,9,v11)]) λv12 H13=>
 bC (BCall prog 222 [v10,v4,v12] H13) λv14 H15=>
 bO (Af a0) λv16=>
 bO (Ac 1 v16) λv17=>
 bS (AU 1 H15 v17 v14) λH18=>
 Hm v4 H18 K)
 (Hm v4 H K)
theorem QV {a0 a1:AV}{H:AH}{K:KT}(h:Pv a0 a1 H K):Cv 202 [a0,a1] H K:=
 fok A7 Ji KF func202 h
def Nz (a0 a1:AV)(H:AH)(K:KT):Prop:=
 bP (PCall prog 223 [a0,a1,(.fn (.func 224) [] [])] H) λv0=>
 bO (Aj v0 0) λv1=>
 bO (Aj v0 1) λv2=>
 K (.tup [v1,v2]) H
theorem PS {a0 a1:AV}{H:AH}{K:KT}(h:Nz a0 a1 H K):Cv 208 [a0,a1] H K:=
 fok A7 Ji BE func208 h
def VE (a0 a1:AV)(H:AH)(K:KT):Prop:=
 bH (A8 H a0) λv0 H1=>
 bH (A8 H1 a1) λv2 H3=>
 bH (A8 H3 (.agg [(I 0),(I 0)])) λv4 H5=>
 bO (Ar true 2 H5 v0) λv6=>
 bP (PCall prog 111 [v6] H5) λv7=>
 bO (E4 .not v7) λv8=>
 bG v8 false λw9=>
 gO w9 (Ar true 2 H5 v2) λv10=>
 bG v8 false λw11=>
 gP w11 (PCall prog 111 [v10] H5) λv12=>
 bG v8 false λw13=>
 gO w13 (E4 .not v12) λv14=>
 bO (AG v8 (B true) v14) λv15=>
 bB v15 λt16=>bI t16 (
 bO (EW [(I 0),(I 0)] []) λv17=>
 bS (AU 2 H5 v4 v17) λH18=>
 bO (Ar true 2 H18 v4) λv19=>
 K v19 H18)
 (bO (Ac 0 v0) λv20=>
 bO (Ar false 1 H5 v20) λv21=>
 bO (Ac 0 v2) λv22=>
 bO (Ar false 1 H5 v22) λv23=>
 bO (amm W3 [v21,v23]) λv24=>
 bO (Ac 0 v0) λv25=>
 bO (Ar false 1 H5 v25) λv26=>
 bO (Ac 1 v0) λv27=>
 bO (Ar false 1 H5 v27) λv28=>
 bO (Ax .add v26 v28) λv29=>
 bO (Ac 0 v2) λv30=>
 bO (Ar false 1 H5 v30) λv31=>
 bO (Ac 1 v2) λv32=>
 bO (Ar false 1 H5 v32) λv33=>
 bO (Ax .add v31 v33) λv34=>
 bO (amm U9 [v29,v34]) λv35=>
 bO (Ax .geq v24 v35) λv36=>
 bB v36 λt37=>bI t37 (
 bO (EW [(I 0),(I 0)] []) λv38=>
 bS (AU 2 H5 v4 v38) λH39=>
 bO (Ar true 2 H39 v4) λv40=>
 K v40 H39)
 (bO (Ax .sub v35 v24) λv41=>
 bO (EW [(I 0),(I 0)] [(0,1,v24),(1,1,v41)]) λv42=>
 bS (AU 2 H5 v4 v42) λH43=>
 bO (Ar true 2 H43 v4) λv44=>
 K v44 H43))
theorem VF {a0 a1:AV}{H:AH}{K:KT}(h:VE a0 a1 H K):Cv 55 [a0,a1] H K:=
 fok A7 Ji BE func55 h
def N1 (a0:AV)(H:AH)(K:KT):Prop:=
 bH (A8 H (.agg [(I 0),(I 0)])) λv0 H1=>
 bO (Ax .mul a0 (I 8)) λv2=>
 bO (EW [(I 0),(I 0)] [(0,1,v2),(1,1,(I 8))]) λv3=>
 bS (AU 2 H1 v0 v3) λH4=>
 bO (Ar true 2 H4 v0) λv5=>
 K v5 H4
theorem PT {a0:AV}{H:AH}{K:KT}(h:N1 a0 H K):Cv 56 [a0] H K:=
 fok A7 Ji BE func56 h
def JF:Nat→Option (List Bool):=Cu [(3,mk 25 0 [1,2,8,9])]
def KD (p:List Bool)(n:Nat):List AV→AH→Kf→Prop:=AC prog A7 Ji Ak Ak JF (sub p (AI f110)) n
def JE (x1 x2 x8 x9:AV)(H:AH)(K:KT):Prop:=lp (mk 25 0 [1,2,8,9]) (KD [tT,fF,tT,fF,fF] 4) [x1,x2,x8,x9] H (BD 0 (BK (KD [tT,tT] 10) (Bw prog f110.results.toList K)))
def HU (R3:RT)(x1 x2 x8 x9:AV)(H:AH)(K:KT):Prop:=
 bO (Ax .lss x9 (I 8)) λv0=>
 bB v0 λt1=>bI t1 (
 bO (Zi false 1 8 1 x8 x9) λv2=>
 bO (Ax .neq v2 u0Z) λv3=>
 bG v3 true λw4=>
 gO w4 (Ac 0 x2) λv5=>
 bG v3 true λw6=>
 gO w6 (Ar false 1 H v5) λv7=>
 bG v3 true λw8=>
 gO w8 (Ax .mul v7 (I 8)) λv9=>
 bG v3 true λw10=>
 gO w10 (some x9) λv11=>
 bG v3 true λw12=>
 gO w12 (Ax .add v9 v11) λv13=>
 bG v3 true λw14=>
 gO w14 (some x1) λv15=>
 bG v3 true λw16=>
 gO w16 (Ax .geq v13 v15) λv17=>
 bO (AG v3 v17 (B false)) λv18=>
 bB v18 λt19=>bI t19 (
 K (B false) H)
 (bO (Ax .add x9 (I 1)) λv20=>
 R3 [x1,x2,x8,v20] H))
 (K (B true) H)
theorem KC {K:KT}:Wg (λR x1 x2 x8 x9 H=>HU R x1 x2 x8 x9 H K) (λx1 x2 x8 x9 H=>JE x1 x2 x8 x9 H K):=MB (A5 _ _) (λ_ _ _ _ _ _=>by kernel_rfl)
def Ny (a0 a1:AV)(H:AH)(K:KT):Prop:=
 bH (A8 H a0) λv0 H1=>
 bO (Ac 1 v0) λv2=>
 bO (Ar true 8 H1 v2) λv3=>
 JE a1 v0 v3 (I 0) H1 K
theorem PR {a0 a1:AV}{H:AH}{K:KT}(h:Ny a0 a1 H K):Cv 110 [a0,a1] H K:=
 fok A7 Ji JF func110 h
def Pw (a0 a1:AV)(H:AH)(K:KT):Prop:=
 bO (Ax .geq a0 (I 0)) λv0=>
 bG v0 true λw1=>
 gO w1 (some a1) λv2=>
 bG v0 true λw3=>
 gO w3 (Ax .geq v2 (I 1)) λv4=>
 bO (AG v0 v4 (B false)) λv5=>
 bG v5 true λw6=>
 gO w6 (some a1) λv7=>
 bG v5 true λw8=>
 gO w8 (Ax .leq v7 (I 1099511627776)) λv9=>
 bO (AG v5 v9 (B false)) λv10=>
 bG v10 true λw11=>
 gO w11 (some a0) λv12=>
 bG v10 true λw13=>
 gO w13 (some a1) λv14=>
 bG v10 true λw15=>
 gO w15 (Ax .sub (I 1099511627776) v14) λv16=>
 bG v10 true λw17=>
 gO w17 (Ax .leq v12 v16) λv18=>
 bO (AG v10 v18 (B false)) λv19=>
 K v19 H
theorem QX {a0 a1:AV}{H:AH}{K:KT}(h:Pw a0 a1 H K):Cv 201 [a0,a1] H K:=
 fok A7 Ji BE func201 h
def Cz:Nat→Option (List Bool):=Cu [(10,mk 42 0 [0,1,5,6]),(7,mk 42 0 [0,1,5,6])]
def Bf (p:List Bool)(n:Nat):List AV→AH→Kf→Prop:=AC prog A7 Ji Ak Ak Cz (sub p (AI f104)) n
def B6 (R7:RT)(x0 x1 x5 x6:AV)(H:AH)(K:KT):Prop:=jn (mk 42 0 [0,1,5,6]) (Bf [tT,tT,tT,fF,tT,fF,fF,tT,tT] 14) [x0,x1,x5,x6] H (Qa (mk 42 0 [0,1,5,6]) R7 (BD 0 (BK (Bf [tT,tT,tT,tT] 14) (Bw prog f104.results.toList K))))
def Cy (x0 x1 x5 x6:AV)(H:AH)(K:KT):Prop:=lp (mk 42 0 [0,1,5,6]) (Bf [tT,tT,tT,fF,tT,fF,fF] 8) [x0,x1,x5,x6] H (BD 0 (BK (Bf [tT,tT,tT,tT] 14) (Bw prog f104.results.toList K)))
def Bu (R7:RT)(x0 x1 x5 x6:AV)(H:AH)(K:KT):Prop:=
 bO (Ax .add x6 (I 1)) λv0=>
 R7 [x0,x1,x5,v0] H
theorem BY (R7:RT)(x0 x1 x5 x6:AV)(H:AH)(K:KT):B6 R7 x0 x1 x5 x6 H K=Bu R7 x0 x1 x5 x6 H K:=(Ea _ _ _ _ _).trans (by kernel_rfl)
def Ch (R7:RT)(x0 x1 x5 x6:AV)(H:AH)(K:KT):Prop:=
 bO (Be x0) λv0=>
 bO (Ax .lss x6 v0) λv1=>
 bB v1 λt2=>bI t2 (
 bO (Bv 9 x0 x6) λv3=>
 bO (Ar true 9 H v3) λv4=>
 bH (A8 H (.agg [(I 0),u0Z,u0Z,u0Z,u0Z,u0Z,u0Z,u0Z,u0Z])) λv5 H6=>
 bS (AU 9 H6 v5 v4) λH7=>
 bO (Ar true 9 H7 v5) λv8=>
 bF true x1 λk11 f11 c11=>
 bT (Bs prog k11||!true)<|
 bC (BCall prog k11 (f11++[v8]++c11) H7) λv9 H10=>
 bO (E4 .not v9) λv12=>
 bB v12 λt13=>bI t13 (
 bO (Ar true 9 H10 v5) λv14=>
 bO (Bv 9 x0 x5) λv15=>
 bS (AU 9 H10 v15 v14) λH16=>
 bO (Ax .add x5 (I 1)) λv17=>
 B6 R7 x0 x1 v17 x6 H16 K)
 (B6 R7 x0 x1 x5 x6 H10 K))
 (bO (AT 9 x0 (some x5) none none) λv18=>
 bS (cG [(I 0),u0Z,u0Z,u0Z,u0Z,u0Z,u0Z,u0Z,u0Z] H v18) λH19=>
 bO (AT 9 x0 none (some x5) none) λv20=>
 K v20 H19)
theorem DG {K:KT}:Wg (λR x0 x1 x5 x6 H=>Ch R x0 x1 x5 x6 H K) (λx0 x1 x5 x6 H=>Cy x0 x1 x5 x6 H K):=MB (A5 _ _) (λ_ _ _ _ _ _=>by kernel_rfl)
def CN (a0 a1:AV)(H:AH)(K:KT):Prop:=
 bP (PCall prog 167 [a0,a1] H) λv0=>
 bO (Ax .eql v0 (I (-1))) λv1=>
 bB v1 λt2=>bI t2 (
 K a0 H)
 (bO (Ax .add v0 (I 1)) λv3=>
 Cy a0 a1 v0 v3 H K)
theorem Ew {a0 a1:AV}{H:AH}{K:KT}(h:CN a0 a1 H K):Cv 104 [a0,a1] H K:=
 fok A7 Ji Cz func104 h
def HP (a0 a1:AV)(H:AH)(K:KT):Prop:=
 bH (A8 H a0) λv0 H1=>
 bO (Ac 0 v0) λv2=>
 bO (Ar false 1 H1 v2) λv3=>
 bO (Ax .mul v3 (I 8)) λv4=>
 bO (Ar false 1 H1 a1) λv5=>
 bO (Ax .geq v4 v5) λv6=>
 K v6 H1
theorem KA {a0 a1:AV}{H:AH}{K:KT}(h:HP a0 a1 H K):Cv 105 [a0,a1] H K:=
 fok A7 Ji BE func105 h
def KJ:Cm:=Jp [(1,[(3,some 7),(5,some 7)])]
def KK:Nat→Option (List Bool):=Cu [(3,mk 33 0 [0,4,14,15])]
def Su (p:List Bool)(n:Nat):List AV→AH→Kf→Prop:=AC prog KJ Ji Ak Ak KK (sub p (AI f106)) n
def KI (x0 x4 x14 x15:AV)(H:AH)(K:KT):Prop:=lp (mk 33 0 [0,4,14,15]) (Su [tT,tT,tT,fF,fF] 4) [x0,x4,x14,x15] H (BD 0 (Bw prog f106.results.toList K))
def IF (R3:RT)(x0 x4 x14 x15:AV)(H:AH)(K:KT):Prop:=
 bO (Ax .lss x15 x14) λv0=>
 bB v0 λt1=>bI t1 (
 bO (Ac 0 x4) λv2=>
 bO (Ar false 1 H v2) λv3=>
 bO (Af x0) λv4=>
 bO (Ac 0 v4) λv5=>
 bO (Ar false 1 H v5) λv6=>
 bO (Ax .mul v6 (I 8)) λv7=>
 bO (Ax .sub v3 v7) λv8=>
 bO (Ax .add v8 x15) λv9=>
 bO (Af x0) λv10=>
 bO (Ac 1 v10) λv11=>
 bO (Zj 8 1 v11 v9) λv12=>
 bS (AU 1 H v12 u0Z) λH13=>
 bO (Ax .add x15 (I 1)) λv14=>
 R3 [x0,x4,x14,v14] H13)
 (K (.tup []) H)
theorem LA {K:KT}:Wg (λR x0 x4 x14 x15 H=>IF R x0 x4 x14 x15 H K) (λx0 x4 x14 x15 H=>KI x0 x4 x14 x15 H K):=MB (A5 _ _) (λ_ _ _ _ _ _=>by kernel_rfl)
def Px (a0 a1:AV)(H:AH)(K:KT):Prop:=
 bH (A8 H a1) λv0 H1=>
 bO (Af a0) λv2=>
 bO (Ac 0 v2) λv3=>
 bO (Ar false 1 H1 v3) λv4=>
 bP (BPure prog 56 [v4]) λv5=>
 bO (Ar true 2 H1 v0) λv6=>
 bP (BPure prog 55 [v5,v6]) λv7=>
 bH (A8 H1 (.agg [(I 0),(I 0)])) λv8 H9=>
 bS (AU 2 H9 v8 v7) λH10=>
(Ar false 1 H9 v3=some v4)∧
(Ar true 2 H9 v0=some v6)∧
 bO (Ac 1 v8) λv11=>
 bO (Ar false 1 H10 v11) λv12=>
 KI a0 v8 v12 (I 0) H10 K
theorem QY {a0 a1:AV}{H:AH}{K:KT}(h:Px a0 a1 H K):Cv 106 [a0,a1] H K:=
 fok KJ Ji KK func106 h
def K7 (a0 a1:AV)(H:AH)(K:KT):Prop:=
 bH (A8 H a0) λv0 H1=>
 bO (Ac 0 v0) λv2=>
 bO (Ar false 1 H1 v2) λv3=>
 bP (BPure prog 56 [v3]) λv4=>
 bO (Ar true 2 H1 a1) λv5=>
 bP (BPure prog 204 [v4,v5]) λv6=>
 K v6 H1
theorem Nw {a0 a1:AV}{H:AH}{K:KT}(h:K7 a0 a1 H K):Cv 203 [a0,a1] H K:=
 fok A7 Ji BE func203 h
def RE (a0 a1:AV)(H:AH)(K:KT):Prop:=
 bH (A8 H a0) λv0 H1=>
 bH (A8 H1 a1) λv2 H3=>
 bO (Ar true 2 H3 v0) λv4=>
 bP (PCall prog 111 [v4] H3) λv5=>
 bO (E4 .not v5) λv6=>
 bG v6 false λw7=>
 gO w7 (Ar true 2 H3 v2) λv8=>
 bG v6 false λw9=>
 gP w9 (PCall prog 111 [v8] H3) λv10=>
 bG v6 false λw11=>
 gO w11 (E4 .not v10) λv12=>
 bO (AG v6 (B true) v12) λv13=>
 bB v13 λt14=>bI t14 (
 K (B false) H3)
 (bO (Ac 1 v0) λv15=>
 bO (Ar false 1 H3 v15) λv16=>
 bO (Ax .eql v16 (I 0)) λv17=>
 bG v17 false λw18=>
 gO w18 (Ar true 2 H3 v0) λv19=>
 bG v17 false λw20=>
 gO w20 (Ar true 2 H3 v2) λv21=>
 bG v17 false λw22=>
 gP w22 (BPure prog 55 [v19,v21]) λv23=>
 bG v17 false λw24=>
 gO w24 (Ar true 2 H3 v0) λv25=>
 bG v17 false λw26=>
 gO w26 (Ms prog .eql 119 v23 v25) λv27=>
 bO (AG v17 (B true) v27) λv28=>
 K v28 H3)
theorem S7 {a0 a1:AV}{H:AH}{K:KT}(h:RE a0 a1 H K):Cv 204 [a0,a1] H K:=
 fok A7 Ji BE func204 h
def DB (a0:AV)(H:AH)(K:KT):Prop:=
 bO (UH .eql LC a0 Ad) λv0=>
 bB v0 λt1=>bI t1 (
 K Ad H)
 (bH (Dh H 9 0 (Bo [(I 0),u0Z,u0Z,u0Z,u0Z,u0Z,u0Z,u0Z,u0Z] 0) []) λv2 H3=>
 bH (Oo 9 16 H3 v2 a0) λv4 H5=>
 K v4 H5)
theorem F3 {a0:AV}{H:AH}{K:KT}(h:DB a0 H K):Cv 95 [a0] H K:=
 fok A7 Ji BE func95 h
def P5 (a0:AV)(H:AH)(K:KT):Prop:=
 bH (A8 H a0) λv0 H1=>
 bO (Ac 0 v0) λv2=>
 bO (Ar false 1 H1 v2) λv3=>
 bP (PCall prog 169 [v3] H1) λv4=>
 bG v4 true λw5=>
 gO w5 (Ac 1 v0) λv6=>
 bG v4 true λw7=>
 gO w7 (Ar false 1 H1 v6) λv8=>
 bG v4 true λw9=>
 gP w9 (PCall prog 169 [v8] H1) λv10=>
 bO (AG v4 v10 (B false)) λv11=>
 bG v11 true λw12=>
 gO w12 (Ac 1 v0) λv13=>
 bG v11 true λw14=>
 gO w14 (Ar false 1 H1 v13) λv15=>
 bG v11 true λw16=>
 gO w16 (Ac 0 v0) λv17=>
 bG v11 true λw18=>
 gO w18 (Ar false 1 H1 v17) λv19=>
 bG v11 true λw20=>
 gO w20 (Ax .sub (I 4611686018427387904) v19) λv21=>
 bG v11 true λw22=>
 gO w22 (Ax .leq v15 v21) λv23=>
 bO (AG v11 v23 (B false)) λv24=>
 K v24 H1
theorem RC {a0:AV}{H:AH}{K:KT}(h:P5 a0 H K):Cv 111 [a0] H K:=
 fok A7 Ji BE func111 h
def Fp:Nat→Bool:=S5 []
def Bh (a0 a1 a2:AV)(H:AH)(K:KT):Prop:=
 bO (AT 9 a0 (some a1) none none) λv0=>
 bO (Be a2) λv1=>
 bO (Ax .eql v1 (I 0)) λv2=>
 bB v2 λt3=>bI t3 (
 K a0 H)
 (bO (Be a0) λv4=>
 bO (Ax .eql a1 v4) λv5=>
 bB v5 λt6=>bI t6 (
 bH (Oo 9 16 H a0 a2) λv7 H8=>
 K v7 H8)
 (bO (Ax .add v4 v1) λv9=>
 bO (Sg a0) λv10=>
 bO (Ax .gtr v9 v10) λv11=>
 bB v11 λt12=>bI t12 (
 bO (AT 9 a0 none (some a1) none) λv13=>
 bO (Ax .add v4 v1) λv14=>
 bO (Ax .sub v14 a1) λv15=>
 bH (Ii H 9 16 [(I 0),u0Z,u0Z,u0Z,u0Z,u0Z,u0Z,u0Z,u0Z] v13 v15) λv16 H17=>
 bO (AT 9 v16 (some a1) none none) λv18=>
 bH (MK 9 H17 v18 a2) λv19 H20=>
 bO (Ax .add a1 v1) λv21=>
 bO (AT 9 v16 (some v21) none none) λv22=>
 bO (AT 9 a0 (some a1) none none) λv23=>
 bH (MK 9 H20 v22 v23) λv24 H25=>
 K v16 H25)
 (bO (Ax .add v4 v1) λv26=>
 bO (AT 9 a0 none (some v26) none) λv27=>
 bO (Ax .add a1 v1) λv28=>
 bO (AT 9 v27 (some v28) none none) λv29=>
 bP (ExtR prog 230 [a2,v29] H) λv30=>
 bO (E4 .not v30) λv31=>
 bB v31 λt32=>bI t32 (
 bO (Ax .add a1 v1) λv33=>
 bO (AT 9 v27 (some v33) none none) λv34=>
 bO (AT 9 v27 (some a1) none none) λv35=>
 bH (MK 9 H v34 v35) λv36 H37=>
 bO (AT 9 v27 (some a1) none none) λv38=>
 bH (MK 9 H37 v38 a2) λv39 H40=>
 K v27 H40)
 (bO (AT 9 v27 (some v4) none none) λv41=>
 bH (MK 9 H v41 a2) λv42 H43=>
 bO (AT 9 v27 (some a1) none none) λv44=>
 bC (BCall prog 231 [v44,v1] H43) λv45 H46=>
 K v27 H46))))
theorem Fo (a0 a1 a2:AV)(H:AH)(K:KT):Of prog A7 Ji qU Fp BE f222 [a0,a1,a2] H K=Bh a0 a1 a2 H K:=by kernel_rfl
theorem BU {a0 a1 a2:AV}{H:AH}{K:KT}(h:Bh a0 a1 a2 H K):ACalls prog 222 [a0,a1,a2] H K:=
 GO JZ func222 (by kernel_rfl) (Eq.mpr (Fo a0 a1 a2 H K) h)
def BJ:Nat→Option (List Bool):=Cu [(4,mk 49 0 [0,1,2,8,9,10])]
def BM (p:List Bool)(n:Nat):List AV→AH→Kf→Prop:=AC prog A7 Ji Ak Ak BJ (sub p (AI f223)) n
def BI (x0 x1 x2 x8 x9 x10:AV)(H:AH)(K:KT):Prop:=lp (mk 49 0 [0,1,2,8,9,10]) (BM [tT,tT,tT,fF,fF,fF] 5) [x0,x1,x2,x8,x9,x10] H (BD 0 (BK (BM [tT,tT,tT,tT] 9) (Bw prog f223.results.toList K)))
def B8 (R4:RT)(x0 x1 x2 x8 x9 x10:AV)(H:AH)(K:KT):Prop:=
 bO (Ax .lss x9 x10) λv0=>
 bB v0 λt1=>bI t1 (
 bO (Ax .add x9 x10) λv2=>
 bO (YQ .u64 v2) λv3=>
 bO (Ax .shr v3 (.lit (.int .u64 1))) λv4=>
 bO (YQ .i64 v4) λv5=>
 bO (Bv 9 x0 v5) λv6=>
 bO (Ar true 9 H v6) λv7=>
 bF true x2 λk10 f10 c10=>
 bT (Bs prog k10||!true)<|
 bC (BCall prog k10 (f10++[v7,x1]++c10) H) λv8 H9=>
 bO (Ax .lss v8 (I 0)) λv11=>
 bB v11 λt12=>bI t12 (
 bO (Ax .add v5 (I 1)) λv13=>
 R4 [x0,x1,x2,x8,v13,x10] H9)
 (R4 [x0,x1,x2,x8,x9,v5] H9))
 (bO (Ax .lss x9 x8) λv14=>
 bG v14 true λw15=>
 gO w15 (some x2) λv16=>
 bG v14 true λw17=>
 gO w17 (some x0) λv18=>
 bG v14 true λw19=>
 gO w19 (some x9) λv20=>
 bG v14 true λw21=>
 gO w21 (Bv 9 v18 v20) λv22=>
 bG v14 true λw23=>
 gO w23 (Ar true 9 H v22) λv24=>
 bG v14 true λw25=>
 gO w25 (some x1) λv26=>
 bG v14 true λw27=>
 bF w27 v16 λk30 f30 c30=>
 bT (Bs prog k30||!w27)<|
 gC w27 (BCall prog k30 (f30++[v24,v26]++c30) H) H λv28 H29=>
 bG v14 true λw31=>
 gO w31 (Ax .eql v28 (I 0)) λv32=>
 bO (AG v14 v32 (B false)) λv33=>
 K (.tup [x9,v33]) H29)
theorem CC {K:KT}:mF (λR x0 x1 x2 x8 x9 x10 H=>B8 R x0 x1 x2 x8 x9 x10 H K) (λx0 x1 x2 x8 x9 x10 H=>BI x0 x1 x2 x8 x9 x10 H K):=aD (A5 _ _) (λ_ _ _ _ _ _ _ _=>by kernel_rfl)
def BR (a0 a1 a2:AV)(H:AH)(K:KT):Prop:=
 bO (Be a0) λv0=>
 BI a0 a1 a2 v0 (I 0) v0 H K
theorem Db {a0 a1 a2:AV}{H:AH}{K:KT}(h:BR a0 a1 a2 H K):Cv 223 [a0,a1,a2] H K:=
 fok A7 Ji BJ func223 h
def KG (a0 a1:AV)(H:AH)(K:KT):Prop:=
 bH (A8 H a0) λv0 H1=>
 bO (Ac 0 v0) λv2=>
 bO (Ar false 1 H1 v2) λv3=>
 bP (PCall prog 94 [v3,a1] H1) λv4=>
 K v4 H1
theorem N0 {a0 a1:AV}{H:AH}{K:KT}(h:KG a0 a1 H K):Cv 224 [a0,a1] H K:=
 fok A7 Ji BE func224 h
def J3 (a0 a1:AV)(H:AH)(K:KT):Prop:=
 bP (PCall prog 163 [a0] H) λv0=>
 bP (PCall prog 163 [a1] H) λv1=>
 bB v0 λt2=>bI t2 (
 bB v1 λt3=>bI t3 (
 K (I 0) H)
 (K (I (-1)) H))
 (bB v1 λt4=>bI t4 (
 K (I 1) H)
 (bO (Ax .lss a0 a1) λv5=>
 bB v5 λt6=>bI t6 (
 K (I (-1)) H)
 (bO (Ax .gtr a0 a1) λv7=>
 bB v7 λt8=>bI t8 (
 K (I 1) H)
 (K (I 0) H))))
theorem Mv {a0 a1:AV}{H:AH}{K:KT}(h:J3 a0 a1 H K):Cv 94 [a0,a1] H K:=
 fok A7 Ji BE func94 h
def C6:Nat→Option (List Bool):=Cu [(3,mk 19 0 [0,1,7,8])]
def CF (p:List Bool)(n:Nat):List AV→AH→Kf→Prop:=AC prog A7 Ji Ak Ak C6 (sub p (AI f167)) n
def C5 (x0 x1 x7 x8:AV)(H:AH)(K:KT):Prop:=lp (mk 19 0 [0,1,7,8]) (CF [tT,fF,tT,fF,fF] 4) [x0,x1,x7,x8] H (BD 0 (BK (CF [tT,tT] 10) (Bw prog f167.results.toList K)))
def B7 (R3:RT)(x0 x1 x7 x8:AV)(H:AH)(K:KT):Prop:=
 bO (Ax .lss x8 x7) λv0=>
 bB v0 λt1=>bI t1 (
 bO (Bv 9 x0 x8) λv2=>
 bO (Ar true 9 H v2) λv3=>
 bF true x1 λk6 f6 c6=>
 bT (Bs prog k6||!true)<|
 bC (BCall prog k6 (f6++[v3]++c6) H) λv4 H5=>
 bB v4 λt7=>bI t7 (
 K x8 H5)
 (bO (Ax .add x8 (I 1)) λv8=>
 R3 [x0,x1,x7,v8] H5))
 (K (I (-1)) H)
theorem BZ {K:KT}:Wg (λR x0 x1 x7 x8 H=>B7 R x0 x1 x7 x8 H K) (λx0 x1 x7 x8 H=>C5 x0 x1 x7 x8 H K):=MB (A5 _ _) (λ_ _ _ _ _ _=>by kernel_rfl)
def BT (a0 a1:AV)(H:AH)(K:KT):Prop:=
 bO (Be a0) λv0=>
 C5 a0 a1 v0 (I 0) H K
theorem C7 {a0 a1:AV}{H:AH}{K:KT}(h:BT a0 a1 H K):Cv 167 [a0,a1] H K:=
 fok A7 Ji C6 func167 h
def X3 (a0:AV)(H:AH)(K:KT):Prop:=
 bO (Ax .geq a0 (I 0)) λv0=>
 bG v0 true λw1=>
 gO w1 (some a0) λv2=>
 bG v0 true λw3=>
 gO w3 (Ax .leq v2 (I 4611686018427387904)) λv4=>
 bO (AG v0 v4 (B false)) λv5=>
 K v5 H
theorem WJ {a0:AV}{H:AH}{K:KT}(h:X3 a0 H K):Cv 169 [a0] H K:=
 fok A7 Ji BE func169 h
def LO (a0:AV)(H:AH)(K:KT):Prop:=
 bO (Ax .neq a0 a0) λv0=>
 K v0 H
theorem O5 {a0:AV}{H:AH}{K:KT}(h:LO a0 H K):Cv 163 [a0] H K:=
 fok A7 Ji BE func163 h
end Go.Proofs.YtbppnhenlboefaaGreat.Av
end
