/- Texts of this proof, one behind the other, packed into one file by a program of this session. No condition. -/
import Derived.Test.YtbppnhenlboefaaGreatMwC
import Derived.KernelRfl
import Derived.OpenShut
import Derived.ProofKit
import Derived.SizedLaws
import Derived.Test.YtbppnhenlboefaaGreatRows
import Derived.WalkKit
set_option linter.unusedVariables false
set_option linter.unusedSimpArgs false
set_option maxRecDepth 100000
namespace Go.Proofs.YtbppnhenlboefaaGreat.Av
open Go Go.RowKit
section
def AM:AV→Bool
 | .lit (.slice none _ _)=>true
 | .emp=>true
 | .sl _ _ _ _ _=>true
 | _=>false
def AR:AV→List Nat
 | .sl o _ _ _ _=>[o]
 | _=>[]
theorem BU {H:AH}{sz:Nat}{v:AV}{cs:List AV}{n:Nat}(h:Aa H sz v=some (cs,n)):cs.length=n*sz:=by
 unfold Aa at h;split at h
 ·split at h
  ·rename_i hb
   injection h with h;injection h with h1 h2;subst h1;subst h2;exact hb.2
  ·cases h
 ·split at h
  ·split at h
   ·rename_i hb
    injection h with h;injection h with h1 h2;subst h1;subst h2;rw[uZ,vG];omega
   ·cases h
  ·cases h
 ·injection h with h;injection h with h1 h2;subst h1;subst h2;simp
 ·injection h with h;injection h with h1 h2;subst h1;subst h2;simp
 ·cases h
theorem UZ {H:AH}{sz:Nat}{v:AV}{cs:List AV}{n:Nat}(h:Bb H sz v=some (cs,n)):cs.length=n*sz:=by
 unfold Bb at h;split at h
 ·split at h
  ·rename_i hs
   injection h with h;injection h with h1 h2;subst h1;subst h2;subst hs;simp
  ·cases h
 ·exact BU h
theorem AI {H:AH}{sz:Nat}{v:AV}{q:List AV×Nat}(h:Aa H sz v=some q):Bb H sz v=some q:=by
 unfold Bb
 split
 ·cases h
 ·exact h
abbrev xU:=@List.drop_take
abbrev vA:=@List.take_of_length_le
theorem U6 (cs:List AV)(off l:Nat)(ds:List AV)(h:off+l≤cs.length):((Bx cs (off+l) ds).drop off).take (l+ds.length)=(cs.drop off).take l++ds∧off+(l+ds.length)≤(Bx cs (off+l) ds).length:=by
 unfold Bx
 constructor
 ·rw[vK,List.drop_append_of_le_length (by rw[uZ];omega),List.take_append]
  have e1:((cs.take (off+l)).drop off)=(cs.drop off).take l:=by rw[xU];congr 1;omega
  rw[e1];have e2:((cs.drop off).take l).length=l:=by rw[uZ,vG];omega
  rw[e2,vA (by omega)]
  congr 1
  rw[show l+ds.length - l=ds.length by omega,List.take_left]
 ·simp only[sZ];omega
theorem A9 {H:AH}{sz o off n:Nat}{cap:Room}{c:List AV}(ho:H[o]?=some (some (.cells c)))(hf:off+n*sz≤c.length):Aa H sz (.sl o off n sz cap)=some ((c.drop off).take (n*sz),n):=by
 simp[Aa,ho,hf]
theorem Ae {H H':AH}{sz:Nat}{v:AV}{q:List AV×Nat}(h:Aa H sz v=some q)(hk:∀i∈AR v,H'[i]?=H[i]?):Aa H' sz v=some q:=by
 cases v with
 | sl o off len esz cap=>
  have:=hk o (by simp[AR])
  simp only[Aa]at h⊢;rw[this];exact h
 | lit u=>
  unfold Aa at h⊢;split at h<;>simp_all
 | imm cs len esz=>simpa only[Aa]using h
 | emp=>simpa only[Aa]using h
 | _=>simp[Aa]at h
abbrev xA:=@List.mem_singleton
theorem Ax {H:AH}{sz:Nat}{v:AV}{q:List AV×Nat}(h:Aa H sz v=some q):∀i∈AR v,i<H.length:=by
 intro i hi;cases v with
 | sl o off len esz cap=>
  simp only[AR,xA]at hi;subst hi;simp only[Aa]at h;split at h
  ·rename_i ho
   exact(BE.1 ho).1
  ·cases h
 | _=>simp[AR]at hi
section
variable {P : Program}
abbrev sU:=And.intro @ne_eq.{1} @not_true_eq_false
abbrev tL:=And.intro @if_false.{1} @sU
abbrev vZ:=@List.drop_zero
theorem X3 {sz bytes:Nat}{H:AH}{s:AV}{cs ds:List AV}{n m:Nat}(h1:Aa H sz s=some (cs,n))(ho:AM s=true)(hdl:ds.length=m*sz)(hb:(n+m)*bytes≤140737488355328):
  ∃r H',Kx H sz bytes s ds m=some (r,H')∧AM r=true∧Aa H' sz r=some (cs++ds,n+m)∧H.length≤H'.length∧(∀i,i<H.length→i∉AR s→H'[i]?=H[i]?)∧∀i∈AR r,i∈AR s∨H.length≤i:=by
 have hcl:=BU h1
 have newc:Aa (H++[some (.cells ds)]) sz (.sl H.length 0 m sz (.ge m))=some (ds,m):=by
  rw[A9 (c:=ds) (by simp) (by omega)];simp only[vZ];rw[vA (by omega)]
 have keep:∀(X:AH) (i:Nat),i<H.length→(H++X)[i]?=H[i]?:=λX i hi=>uY hi
 have hnil:n=0→cs=[]:=λh0=>wK (by rw[hcl,h0];simp)
 unfold Aa at h1;split at h1
 ·simp[AM]at ho
 ·
  rename_i o off len esz cap;split at h1
  ·rename_i c hoc
   split at h1
   ·rename_i hb1
    obtain⟨rfl,hfit⟩:=hb1;injection h1 with h1;injection h1 with h3 h4;subst h3;subst h4;have hol:=(BE.1 hoc).1;have hadd:(len+m)*esz=len*esz+m*esz:=wR _ _ _;obtain⟨ov1,ov2⟩:=U6 c off (len*esz) ds hfit
    have inplace:∀cap',Aa (H.set o (some (.cells (Bx c (off+len*esz) ds)))) esz (.sl o off (len+m) esz cap')=some ((c.drop off).take (len*esz)++ds,len+m):=by
     intro cap';rw[A9 (c:=Bx c (off+len*esz) ds) (by rw[Jo hol]) (by rw[hadd,← hdl];exact ov2)];rw[hadd,← hdl,ov1]
    have fresh:∀(H2:AH) cap',H2.length=H.length→Aa (H2++[some (.cells ((c.drop off).take (len*esz)++ds))]) esz (.sl H.length 0 (len+m) esz cap')=some ((c.drop off).take (len*esz)++ds,len+m):=by
     intro H2 cap' hl;rw[A9 (c:=(c.drop off).take (len*esz)++ds) (by rw[← hl];simp) (by rw[vE,hcl,hdl];omega)];simp only[vZ];rw[vA (by rw[vE,hcl,hdl];omega)]
    have hkeep:∀(y:Option AObj) (X:AH) (i:Nat),i<H.length→i∉AR (.sl o off len esz cap)→(H.set o y++X)[i]?=H[i]?:=by
     intro y X i hi hn;rw[uY (by simpa using hi),C3 (by simp[AR]at hn;omega)]
    unfold Kx;simp only[hoc,tL,false_or,hfit];cases cap with
    | ex k=>
     simp only
     by_cases hk:len+m≤k
     ·rw[if_pos hk]
      exact⟨_,_,rfl,rfl,inplace _,by simp,λi hi hn=>by simpa using hkeep _ [] i hi hn,λi hi=>.inl (by simpa[AR]using hi)⟩
     ·rw[if_neg hk,if_pos hb]
      exact⟨_,_,rfl,rfl,fresh H _ rfl,by simp,λi hi _=>keep _ i hi,λi hi=>.inr (by simp[AR]at hi;omega)⟩
    | ge k=>
     simp only
     by_cases hm:m=0
     ·subst hm
      have hd0:ds=[]:=wK (by rw[hdl];simp);subst hd0;rw[if_pos rfl];exact⟨_,_,rfl,rfl,by rw[A9 hoc hfit];simp,vB _,λ_ _ _=>rfl,λi hi=>.inl hi⟩
     ·rw[if_neg hm]
      by_cases hk:len+m≤k
      ·rw[if_pos hk]
       exact⟨_,_,rfl,rfl,inplace _,by simp,λi hi hn=>by simpa using hkeep _ [] i hi hn,λi hi=>.inl (by simpa[AR]using hi)⟩
      ·rw[if_neg hk,if_pos hb]
       exact⟨_,_,rfl,rfl,fresh (H.set o none) _ (by simp),by simp,λi hi hn=>hkeep none _ i hi hn,λi hi=>.inr (by simp[AR]at hi;omega)⟩
   ·cases h1
  ·cases h1
 ·
  injection h1 with h1;injection h1 with h3 h4;subst h3;subst h4;unfold Kx;simp only
  by_cases hm:m=0
  ·subst hm
   have hd0:ds=[]:=wK (by rw[hdl];simp);subst hd0;rw[if_pos rfl];exact⟨_,_,rfl,rfl,rfl,vB _,λ_ _ _=>rfl,λi hi=>.inl hi⟩
  ·rw[if_neg hm,if_pos (by simpa using hb)]
   exact⟨_,_,rfl,rfl,by simpa using newc,by simp,λi hi _=>keep _ i hi,λi hi=>.inr (by simp[AR]at hi;omega)⟩
 ·
  injection h1 with h1;injection h1 with h3 h4;subst h3;subst h4;unfold Kx;simp only
  by_cases hm:m=0
  ·subst hm
   have hd0:ds=[]:=wK (by rw[hdl];simp);subst hd0;rw[if_pos rfl];exact⟨_,_,rfl,rfl,rfl,vB _,λ_ _ _=>rfl,λi hi=>.inl hi⟩
  ·rw[if_neg hm,if_pos (by simpa using hb)]
   exact⟨_,_,rfl,rfl,by simpa using newc,by simp,λi hi _=>keep _ i hi,λi hi=>.inr (by simp[AR]at hi;omega)⟩
 ·cases h1
end
end
section
abbrev I (n:Int):AV:=.lit (.int .i64 n)
abbrev B (b:Bool):AV:=.lit (.bool b)
abbrev S (s:ByteArray):AV:=.lit (.string s)
abbrev Ac:AV:=.lit (.slice none 0 0)
@[congr] theorem pJ {x x':Option AV} {K:AV→Prop} (h:x=x'):bO x K=bO x' K:=by rw[h]
@[congr] theorem pH {x x':Option (AV×AH)} {K:AV→AH→Prop} (h:x=x'):bH x K=bH x' K:=by rw[h]
@[congr] theorem pL {x x':Option AH} {K:AH→Prop} (h:x=x'):bS x K=bS x' K:=by rw[h]
@[congr] theorem pC {v v':AV} {K:Bool→Prop} (h:v=v'):bB v K=bB v' K:=by rw[h]
@[congr] theorem pI {b b':Bool} {A B:Prop} (h:b=b'):bI b A B=bI b' A B:=by rw[h]
@[congr] theorem pG {v v':AV} {w:Bool} {K:Bool→Prop} (h:v=v'):bG v w K=bG v' w K:=by rw[h]
@[congr] theorem pE {w w':Bool} {v v':AV} {K:FuncId→List AV→List AV→Prop} (hw:w=w') (h:v=v'):bF w v K=bF w' v' K:=by rw[hw,h]
@[congr] theorem pM {b b':Bool} {A:Prop} (h:b=b'):bT b A=bT b' A:=by rw[h]
@[congr] theorem pD {R:AV→AH→Prop} {K:AV→AH→Prop}:bC R K=bC R K:=rfl
@[congr] theorem pK {R:AV→Prop} {K:AV→Prop}:bP R K=bP R K:=rfl
@[congr] theorem qE {w w':Bool} {x:Option AV} {K:AV→Prop} (h:w=w'):gO w x K=gO w' x K:=by rw[h]
@[congr] theorem qC {w w':Bool} {x:Option (AV×AH)} {H:AH} {K:AV→AH→Prop} (h:w=w'):gH w x H K=gH w' x H K:=by rw[h]
@[congr] theorem qG {w w':Bool} {x:Option AH} {H:AH} {K:AH→Prop} (h:w=w'):gS w x H K=gS w' x H K:=by rw[h]
@[congr] theorem qB {w w':Bool} {R:AV→AH→Prop} {H:AH} {K:AV→AH→Prop} (h:w=w'):gC w R H K=gC w' R H K:=by rw[h]
@[congr] theorem qF {w w':Bool} {R:AV→Prop} {K:AV→Prop} (h:w=w'):gP w R K=gP w' R K:=by rw[h]
@[simp] theorem Ab {v:AV} {K:AV→Prop}:bO (some v) K=K v:=by unfold bO;exact Eq.refl _
@[simp] theorem Az {v:AV} {H:AH} {K:AV→AH→Prop}:bH (some (v,H)) K=K v H:=by unfold bH;exact Eq.refl _
@[simp] theorem AB {H:AH} {K:AH→Prop}:bS (some H) K=K H:=by unfold bS;exact Eq.refl _
@[simp] theorem Ag {b:Bool} {K:Bool→Prop}:bB (.lit (.bool b)) K=K b:=by unfold bB;exact Eq.refl _
@[simp] theorem Aq {A B:Prop}:bI true A B=A:=by unfold bI;exact Eq.refl _
@[simp] theorem Ai {A B:Prop}:bI false A B=B:=by unfold bI;exact Eq.refl _
@[simp] theorem Ba {b w:Bool} {K:Bool→Prop}:bG (.lit (.bool b)) w K=K (b==w):=by unfold bG;exact Eq.refl _
@[simp] theorem bZ {w:Bool} {K:Bool→Prop}:bG A6 w K=K false:=by unfold bG;exact Eq.refl _
@[simp] theorem Ro {A:Prop}:bT true A=A:=by unfold bT;exact Eq.refl _
@[simp] theorem Y6 {w:Bool} {k:FuncId} {a b:List AV} {K:FuncId→List AV→List AV→Prop}:bF w (.fn (.func k) a b) K=K k a b:=by unfold bF;exact Eq.refl _
@[simp] theorem pF {K:FuncId→List AV→List AV→Prop}:bF false A6 K=K 0 [] []:=by unfold bF A6;exact Eq.refl _
@[simp] theorem AF {x:Option AV} {K:AV→Prop}:gO true x K=bO x K:=by unfold gO;exact Eq.refl _
@[simp] theorem C2 {x:Option AV} {K:AV→Prop}:gO false x K=K A6:=by unfold gO;exact Eq.refl _
@[simp] theorem Bm {x:Option (AV×AH)} {H:AH} {K:AV→AH→Prop}:gH true x H K=bH x K:=by unfold gH;exact Eq.refl _
@[simp] theorem qD {x:Option (AV×AH)} {H:AH} {K:AV→AH→Prop}:gH false x H K=K A6 H:=by unfold gH;exact Eq.refl _
@[simp] theorem B3 {x:Option AH} {H:AH} {K:AH→Prop}:gS true x H K=bS x K:=by unfold gS;exact Eq.refl _
@[simp] theorem qH {x:Option AH} {H:AH} {K:AH→Prop}:gS false x H K=K H:=by unfold gS;exact Eq.refl _
@[simp] theorem Vr {R:AV→AH→Prop} {H:AH} {K:AV→AH→Prop}:gC true R H K=bC R K:=by unfold gC;exact Eq.refl _
@[simp] theorem JC {R:AV→AH→Prop} {H:AH} {K:AV→AH→Prop}:gC false R H K=K A6 H:=by unfold gC;exact Eq.refl _
@[simp] theorem iE {R:AV→Prop} {K:AV→Prop}:gP true R K=bP R K:=by unfold gP;exact Eq.refl _
@[simp] theorem WI {R:AV→Prop} {K:AV→Prop}:gP false R K=K A6:=by unfold gP;exact Eq.refl _
theorem bP_of {R:AV→Prop}{K:AV→Prop}{r:AV}(h:R r)(hk:K r):bP R K:=⟨r,h,hk⟩
theorem A1 {P:Program}{f:FuncId}{args:List AV}{H:AH}{K:AV→Prop}{r:AV}(h:BPure P f args r)(hk:K r):bP (PCall P f args H) K:=⟨r,.inl h,hk⟩
theorem bC_of {R:AV→AH→Prop}{K:AV→AH→Prop}{r:AV}{H:AH}(h:R r H)(hk:K r H):bC R K:=⟨r,H,h,hk⟩
theorem Ty {x:Int}(h1: -9223372036854775808≤x)(h2:x≤9223372036854775807):IntKind.i64.wrap x=x:=by
 simp[IntKind.wrap,IntKind.bits,IntKind.signed];omega
section
variable {k : IntKind} {a b : Int}
theorem A0 (h1: -9223372036854775808≤a+b)(h2:a+b≤9223372036854775807):Ay .add (I a) (I b)=some (I (a+b)):=by simp[Ay,GG,Ty h1 h2]
theorem Cv (h1: -9223372036854775808≤a - b)(h2:a - b≤9223372036854775807):Ay .sub (I a) (I b)=some (I (a - b)):=by simp[Ay,GG,Ty h1 h2]
theorem I8 (h1: -9223372036854775808≤a*b)(h2:a*b≤9223372036854775807):Ay .mul (I a) (I b)=some (I (a*b)):=by simp[Ay,GG,Ty h1 h2]
theorem NQ (h1:0≤a)(h2:a≤9223372036854775807)(h3:0<b):Ay .quo (I a) (I b)=some (I (a/b)):=by
 have e:a.tdiv b=a/b:=Int.tdiv_eq_ediv_of_nonneg h1;have h4:0≤a/b:=Int.ediv_nonneg h1 (by omega);have h5:a/b≤a:=Int.ediv_le_self _ h1;simp[Ay,GG,e,Ty (x:=a/b) (by omega) (by omega)];omega
theorem Yv (h1:0≤a)(h3:0<b):Ay .rem (.lit (.int k a)) (.lit (.int k b))=some (.lit (.int k (a % b))):=by
 have e:a.tmod b=a % b:=Int.tmod_eq_emod_of_nonneg h1;simp[Ay,GG,e];omega
@[simp] theorem FN:Ay .eql (.lit (.int k a)) (.lit (.int k b))=some (B (decide (a=b))):=by simp[Ay,GG];rfl
@[simp] theorem C7:Ay .neq (.lit (.int k a)) (.lit (.int k b))=some (B (decide (a≠b))):=by
 simp[Ay,GG]
 by_cases h:a=b<;>simp[h]
@[simp] theorem B1:Ay .lss (.lit (.int k a)) (.lit (.int k b))=some (B (decide (a<b))):=by simp[Ay,GG]
@[simp] theorem Yu:Ay .leq (.lit (.int k a)) (.lit (.int k b))=some (B (decide (a≤b))):=by simp[Ay,GG]
@[simp] theorem Mi:Ay .gtr (.lit (.int k a)) (.lit (.int k b))=some (B (decide (b<a))):=by simp[Ay,GG]
@[simp] theorem Hz:Ay .geq (.lit (.int k a)) (.lit (.int k b))=some (B (decide (b≤a))):=by simp[Ay,GG]
@[simp] theorem rK {x y:Bool}:oU .eql (.lit (.bool x)) (.lit (.bool y))=some (B (decide (x=y))):=by cases x<;>cases y<;>rfl
@[simp] theorem rL {x y:Bool}:oU .neq (.lit (.bool x)) (.lit (.bool y))=some (B (decide (x≠y))):=by cases x<;>cases y<;>rfl
@[simp] theorem Bl {x:Bool}:EX .not (.lit (.bool x))=some (B !x):=rfl
@[simp] theorem A4 {t:Bool} {x y:AV}:AC (.lit (.bool t)) x y=some (if t then x else y):=rfl
@[simp] theorem dD:VO a b=min b a:=by unfold VO;omega
@[simp] theorem dE:XM a b=max b a:=by unfold XM;omega
@[simp] theorem NX {f:Int→Int→Int}:amm f [.lit (.int k a),.lit (.int k b)]=some (.lit (.int k (f a b))):=rfl
theorem Rl {k':IntKind}(h1: -9223372036854775808≤a)(h2:a≤9223372036854775807):Yw .i64 (.lit (.int k' a))=some (I a):=by simp[Yw,Ty h1 h2]
end
@[simp] theorem AE {vs:List AV} {i:Nat}:Ak (.tup vs) i=vs[i]?:=rfl
@[simp] theorem Ao {o off:Nat}:Af (.ptr o off)=some (.ptr o off):=rfl
@[simp] theorem gX {cs:List AV}:Af (.ip cs)=some (.ip cs):=rfl
@[simp] theorem Am {k o off:Nat}:Ad k (.ptr o off)=some (.ptr o (off+k)):=rfl
@[simp] theorem oC {k:Nat} {cs:List AV}:Ad k (.ip cs)=some (.ip (cs.drop k)):=rfl
@[simp] theorem UW {g:Bool} {n:Nat} {H:AH} {cs:List AV}:Ar g n H (.ip cs)=Al g n cs 0:=rfl
theorem Aj {g:Bool}{n o off:Nat}{H:AH}{cs:List AV}(h:H[o]?=some (some (.cells cs))):Ar g n H (.ptr o off)=Al g n cs off:=by simp[Ar,h]
@[simp] theorem Ah {n:Nat} {cs:List AV} {off:Nat}:Al false n cs off=cs[off]?:=by simp[Al]
theorem F7 {n:Nat}{cs:List AV}{off:Nat}(h:off+n≤cs.length):Al true n cs off=some (.agg ((cs.drop off).take n)):=by simp[Al,h]
@[simp] theorem pB {g:Bool} {n off:Nat} {cs:List AV}:Wg g n off (.agg cs)=Al g n cs off:=rfl
@[simp] theorem pA {H:AH} {cs:List AV}:A5 H (.agg cs)=if cs.all oneA then some (.ptr H.length 0,H++[some (.cells cs)])else none:=by
 unfold A5 BA;simp only
 split<;>simp
theorem bU {H:AH}{v:Value}(h:oneA (.lit v)=true):A5 H (.lit v)=some (.ptr H.length 0,H++[some (.cells [.lit v])]):=by
 unfold A5 BA;simp only[h,if_true];rfl
theorem A7 {n o off:Nat}{H:AH}{x:AV}{xs cs:List AV}(hx:BA x=some xs)(h:H[o]?=some (some (.cells cs)))(hl:xs.length=n)(hb:off+n≤cs.length):AS n H (.ptr o off) x=some (H.set o (some (.cells (AK cs off xs)))):=by
 simp[AS,hx,h,hl,hb]
@[simp] theorem qQ {k:IntKind} {n:Int}:oneA (.lit (.int k n))=true:=rfl
@[simp] theorem oH {b:Bool}:oneA (.lit (.bool b))=true:=rfl
@[simp] theorem qT {s:ByteArray}:oneA (.lit (.string s))=true:=rfl
@[simp] theorem qR {n c:Nat}:oneA (.lit (.slice none n c))=true:=rfl
@[simp] theorem oI:oneA (.lit (.map none))=true:=rfl
@[simp] theorem oJ:oneA (.lit (.pointer none))=true:=rfl
@[simp] theorem rR {o off len esz:Nat} {cap:Room}:oneA (.sl o off len esz cap)=true:=rfl
@[simp] theorem qP {cs:List AV} {len esz:Nat}:oneA (.imm cs len esz)=true:=rfl
@[simp] theorem qS {o off:Nat}:oneA (.ptr o off)=true:=rfl
@[simp] theorem qO:oneA .emp=true:=rfl
@[simp] theorem rQ {o:Nat}:oneA (.mp o)=true:=rfl
@[simp] theorem lR {k:IntKind} {n:Int}:BA (.lit (.int k n))=some [.lit (.int k n)]:=rfl
@[simp] theorem jZ {b:Bool}:BA (.lit (.bool b))=some [.lit (.bool b)]:=rfl
@[simp] theorem lU {s:ByteArray}:BA (.lit (.string s))=some [.lit (.string s)]:=rfl
@[simp] theorem lS {n c:Nat}:BA (.lit (.slice none n c))=some [.lit (.slice none n c)]:=rfl
@[simp] theorem kA:BA (.lit (.map none))=some [.lit (.map none)]:=rfl
@[simp] theorem kB:BA (.lit (.pointer none))=some [.lit (.pointer none)]:=rfl
@[simp] theorem oE {o off len esz:Nat} {cap:Room}:BA (.sl o off len esz cap)=some [.sl o off len esz cap]:=rfl
@[simp] theorem lQ {cs:List AV} {len esz:Nat}:BA (.imm cs len esz)=some [.imm cs len esz]:=rfl
@[simp] theorem lT {o off:Nat}:BA (.ptr o off)=some [.ptr o off]:=rfl
@[simp] theorem lP:BA .emp=some [.emp]:=rfl
@[simp] theorem oD {o:Nat}:BA (.mp o)=some [.mp o]:=rfl
@[simp] theorem RU {cs:List AV}:BA (.agg cs)=if cs.all oneA then some cs else none:=rfl
theorem AL {v:AV}(h:oneA v=true):BA v=some [v]:=by
 cases v<;>first
  | rfl
  | (rename_i u;cases u<;>first | rfl | simp[oneA]at h)
  | simp[oneA]at h
@[simp] theorem oG {cells:List AV}:O3 cells []=some cells:=rfl
@[simp] theorem mI {cells:List AV} {off size:Nat} {v:AV} {r:List (Nat×Nat×AV)}:O3 cells ((off,size,v)::r)=match BA v with
  | some xs=>if xs.length=size∧off+size≤cells.length then O3 (AK cells off xs) r else none
  | none=>none:=rfl
attribute [simp] FC Cg QL AZ AK LI0 LI1 LI2 LI3 LI4 LI5 LI6 LI7 LI8 LI9 rV rW rX rY rZ sA sB sC sD
@[simp] theorem Jq {g:Bool} {n o off:Nat} {H:AH}:Ar g n H (.ptr o off)=match H[o]? with
  | some (some (.cells cs))=>Al g n cs off
  | _=>none:=rfl
@[simp] theorem oX {cs:List AV} {len esz:Nat}:AW (.imm cs len esz)=some (I len):=rfl
@[simp] theorem oY:AW (.lit (.slice none 0 0))=some (I 0):=rfl
@[simp] theorem gT {o off len esz:Nat} {cap:Room}:AW (.sl o off len esz cap)=some (I len):=rfl
@[simp] theorem oZ {s:ByteArray}:FD (.lit (.string s))=some (I s.size):=rfl
section
variable {P : Program} {f : FuncId} {args : List AV} {R : AV}
theorem BPure.flat (h:∀H,∃r H',(r=R∧H'=H)∧BCall P f args H r H'):BPure P f args R:=λH=>by
 obtain⟨r,H',⟨rfl,rfl⟩,h⟩:=h H;exact h
end
def SV {α:Type}(enc:α→List AV)(sz:Nat)(l:List α)(v:AV):Prop:=noIds v=true∧∀H,Aa H sz v=some (l.flatMap enc,l.length)
section
variable {α : Type} {enc : α→List AV} {sz : Nat} {l : List α} {v : AV}
theorem SV.nil:SV enc sz [] Ac:=⟨rfl,λ_=>rfl⟩
theorem SV.len (h:SV enc sz l v):AW v=some (I l.length):=by
 have h2:=h.2 [];unfold Aa at h2;split at h2
 ·split at h2
  ·injection h2 with h2;injection h2 with e1 e2;rw[← e2];rfl
  ·cases h2
 ·simp at h2
 ·injection h2 with h2;injection h2 with e1 e2;rw[← e2];rfl
 ·injection h2 with h2;injection h2 with e1 e2;rw[← e2];rfl
 ·cases h2
abbrev vW:=@List.flatMap_cons
abbrev yU:=@Nat.add_comm
abbrev wX:=@List.drop_drop
theorem CU (hsz:∀x,(enc x).length=sz):∀{l:List α} {k:Nat} {x:α},l[k]?=some x→(l.flatMap enc).drop (k*sz)=enc x++(l.drop (k+1)).flatMap enc
 | [],k,x,h=>by simp at h
 | a::l,0,x,h=>by simp at h;subst h;simp
 | a::l,k+1,x,h=>by
  have:=CU hsz (l:=l) (k:=k) (by simpa using h)
  rw[vW,wG,yU,← wX,List.drop_left' (hsz a)]
  simpa using this
theorem IN (hsz:∀x,(enc x).length=sz)(l:List α):(l.flatMap enc).length=l.length*sz:=by
 induction l with
 | nil=>simp
 | cons a l ih=>simp[vW,hsz,ih,wG];omega
abbrev yD:=@List.cons_append
theorem SV.imm (hsz:∀x,(enc x).length=sz)(hn:∀x∈l,Au (enc x)=true):SV enc sz l (.imm (l.flatMap enc) l.length sz):=by
 refine⟨?_,λH=>?_⟩
 ·simp only[noIds]
  induction l with
  | nil=>rfl
  | cons a l ih=>
   rw[vW];have h1:=hn a (by simp);have h2:=ih λx hx=>hn x (by simp[hx])
   generalize enc a=c at h1
   induction c with
   | nil=>exact h2
   | cons b c ihc=>simp only[Au,vS,yD]at h1⊢;exact⟨h1.1,ihc h1.2⟩
 ·simp[Aa,IN hsz]
theorem SV.idx (h:SV enc sz l v)(hsz:∀x,(enc x).length=sz){k:Nat}{x:α}{i:Int}(hk:l[k]?=some x)(hi:i=k):Bk sz v (.lit (.int .i64 i))=some (.ip (enc x++(l.drop (k+1)).flatMap enc)):=by
 subst hi;have hlt:=(BE.1 hk).1;have h1:=h.1;have h2:=h.2 [];unfold Aa at h2;split at h2
 ·rename_i cs len esz
  split at h2
  ·injection h2 with h2;injection h2 with e1 e2
   subst e1;subst e2;simp only[Bk,KU];rw[if_pos ⟨by omega,by omega⟩];simp[CU hsz hk]
  ·cases h2
 ·simp[noIds]at h1
 ·injection h2 with h2;injection h2 with e1 e2;rw[← e2]at hlt;omega
 ·injection h2 with h2;injection h2 with e1 e2;rw[← e2]at hlt;omega
 ·cases h2
end
end
section
def MonoF (body:List AV→AH→Kf→Prop):Prop:=∀T H (K1 K2:Kf),(∀e T H,K1 e T H→K2 e T H)→body T H K1→body T H K2
theorem WK {keep:List Bool}{A B:List AV→AH→Prop}{K:Kf}(h:∀X H,A X H→B X H):∀e T H,Rh keep A K e T H→Rh keep B K e T H:=by
 intro e T H hk;cases e with
 | normal=>
  obtain⟨hl,h1⟩:=BF.1 hk;exact BF.2 ⟨hl,h _ _ h1⟩
 | _=>exact hk
theorem eT {keep:List Bool}{body:List AV→AH→Kf→Prop}{K:Kf}(hb:MonoF body):∀(m:Nat) X H,ZZ keep body K m X H→ZZ keep body K (m+1) X H
 | 0,X,H,h=>h.elim
 | m+1,X,H,h=>hb _ _ _ _ (WK λX H=>eT hb m X H) h
theorem nN {keep:List Bool}{body:List AV→AH→Kf→Prop}{K:Kf}(hb:MonoF body){m n:Nat}(h:m≤n){X:List AV}{H:AH}(hr:ZZ keep body K m X H):ZZ keep body K n X H:=by
 induction h with
 | refl=>exact hr
 | step _ ih=>exact eT hb _ _ _ ih
theorem iN {keep:List Bool}{body:List AV→AH→Kf→Prop}{K:Kf}(hb:MonoF body)(J:Nat→List AV→AH→Prop)
  (round:∀n X H,J n X H→body (AP keep X) H (Rh keep (λX' H'=>∃m,m<n∧J m X' H') K)):∀(n:Nat) {X:List AV} {H:AH},J n X H→lp keep body X H K:=by
 have key:∀n X H,J n X H→ZZ keep body K (n+1) X H:=by
  intro n
  induction n using Nat.strongRecOn with
  | _ n ih=>
   intro X H hJ;refine hb _ _ _ _ (WK ?_) (round n X H hJ);rintro X' H' ⟨m,hm,hJ'⟩;exact nN hb (by omega) (ih m hm X' H' hJ')
 exact λn X H hJ=>⟨n+1,key n X H hJ⟩
section
variable {P : Program} {ql al : FuncId→Bool} {dr w : Bool} {ρ : Operand→AV} {H : AH}
theorem Xn {o:Oper}{K1 K2:AV→AH→Prop}(h:Lb P ql al dr ρ H o w K1)(hk:∀r H,K1 r H→K2 r H):Lb P ql al dr ρ H o w K2:=by
 cases ha:B5 al o.op with
 | false=>
  rw[Yk ha]at h⊢;obtain⟨r,H',hk1,-,h2⟩:=Kq h;exact h2 _ (hk _ _ hk1)
 | true=>
  obtain⟨dst,op,type,pos,after,guard⟩:=o;simp only at ha;unfold B5 at ha;split at ha
  ·rename_i k args ats
   have ha':B5 al (.call {callee:=.value (.func k),args:=args,argTypes:=ats})=true:=ha;unfold Lb bF at h⊢;simp only[ha']at h⊢;generalize hx:ρ (.func k)=x at h⊢;split at h
   ·rename_i f a b
    cases dr with
    | true=>exact h
    | false=>
     simp only at h⊢;cases hg:Bq P f with
     | true=>
      rw[hg]at h;cases w with
      | true=>
       obtain⟨R,hR,hall⟩:=h;exact⟨R,hR,λr H' hr=>hk r H' (hall r H' hr)⟩
      | false=>exact hk _ _ h
     | false=>
      rw[hg]at h;cases w with
      | true=>
       obtain⟨r,hr,h⟩:=h;exact⟨r,hr,hk _ _ h⟩
      | false=>exact hk _ _ h
   ·cases w with
    | true=>exact h.elim
    | false=>
     cases dr with
     | true=>exact h.elim
     | false=>
      simp only at h⊢;cases hg:Bq P 0 with
      | true=>rw[hg]at h;exact hk _ _ h
      | false=>rw[hg]at h;exact hk _ _ h
  ·cases ha
theorem Qa {ops:Array Oper}:∀(l:List Oper) (T:List AV) (H:AH) {K1 K2:List AV→AH→Prop},(∀T H,K1 T H→K2 T H)→Kr P ql al dr ops l T H K1→Kr P ql al dr ops l T H K2
 | [],T,H,K1,K2,hk,h=>hk _ _ h
 | o::l,T,H,K1,K2,hk,h=>by
  unfold Kr at h⊢;obtain⟨w,hw,h,hw2⟩:=Ea h;refine hw2 _ (Xn h λr H' hr=>?_);rw[FT]at hr⊢;exact Qa l _ _ hk hr
theorem Th {ops:Array Oper}{H0:AH}{fl:List (Nat×Option Nat)}:∀(l:List Oper) (T:List AV) (H:AH) (lg:List (List AV×AH×AV)) {K1 K2:List AV→AH→Prop},(∀T H,K1 T H→K2 T H)→KR P ql al ops H0 fl l T H lg K1→KR P ql al ops H0 fl l T H lg K2
 | [],T,H,lg,K1,K2,hk,h=>by
  obtain⟨h1,h2⟩:=Yj h;exact fB (K:=K1 T H) h (hk _ _ h2)
 | o::l,T,H,lg,K1,K2,hk,h=>by
  unfold KR at h⊢;obtain⟨w,hw,h,hw2⟩:=Ea h;refine hw2 _ (Xn h λr H' hr=>?_);rw[FT]at hr⊢;exact Th l _ _ _ hk hr
theorem MonoF.cut {keep:List Bool}{body:List AV→AH→Kf→Prop}(h:MonoF body):MonoF (Ke keep body):=by
 intro T H K1 K2 hk hc;obtain⟨hl,hc⟩:=BF.1 hc;exact BF.2 ⟨hl,⟨h _ _ _ _ hk hc.h⟩⟩
theorem MonoF.seq {a b:List AV→AH→Kf→Prop}(ha:MonoF a)(hb:MonoF b):MonoF λT H K=>a T H (BH b K):=by
 intro T H K1 K2 hk h;refine ha _ _ _ _ ?_ h;intro e T' H' h';cases e with
 | normal=>exact hb _ _ _ _ hk h'
 | _=>exact hk _ _ _ h'
theorem kM {keep:List Bool}{body:List AV→AH→Kf→Prop}(hb:MonoF body){K1 K2:Kf}(hk:∀e T H,K1 e T H→K2 e T H):∀(m:Nat) (X:List AV) (H:AH),ZZ keep body K1 m X H→ZZ keep body K2 m X H
 | 0,X,H,h=>h.elim
 | m+1,X,H,h=>by
  refine hb _ _ _ _ ?_ h;intro e T H h';cases e with
  | normal=>
   obtain⟨hl,h1⟩:=BF.1 h';exact BF.2 ⟨hl,kM hb hk m _ _ h1⟩
  | _=>exact hk _ _ _ h'
theorem Ef {fl:Cq}{un:Nat→Bool}{kp:Nat→Option (List Bool)}:∀(c:Code) (n:Nat),MonoF (AD P fl ql al un kp c n)
 | .skip,n,T,H,K1,K2,hk,h=>hk _ _ _ h
 | .label _,n,T,H,K1,K2,hk,h=>hk _ _ _ h
 | .ret,n,T,H,K1,K2,hk,h=>hk _ _ _ h
 | .exit _,n,T,H,K1,K2,hk,h=>hk _ _ _ h
 | .region id ops dr,n,T,H,K1,K2,hk,h=>by
  unfold AD at h⊢;cases dr with
  | false=>exact Qa _ _ _ (hk .normal) h
  | true=>
   simp only at h⊢;split at h
   ·split at h
    ·obtain⟨hl,h⟩:=BF.1 h
     exact BF.2 ⟨hl,⟨h.h.mono hk⟩⟩
    ·exact h.elim
   ·split at h
    ·exact Qa _ _ _ (hk .normal) h
    ·exact Th _ _ _ _ (hk .normal) h
 | .seq a b,n,T,H,K1,K2,hk,h=>by
  unfold AD at h⊢;split at h
  ·exact MonoF.seq (Ef a _) (Ef b _) T H K1 K2 hk h
  ·exact MonoF.seq (Ef a _) (Ef b _).cut T H K1 K2 hk h
 | .cond c a b,n,T,H,K1,K2,hk,h=>by
  unfold AD bB at h⊢;split at h
  ·rename_i t ht
   cases t with
   | true=>exact Ef a _ T H K1 K2 hk h
   | false=>exact Ef b _ T H K1 K2 hk h
  ·exact h.elim
 | .block id b,n,T,H,K1,K2,hk,h=>by
  unfold AD at h⊢;refine Ef b _ T H _ _ ?_ h;intro e T' H' h';cases e with
  | exit j=>
   simp only[BG]at h'⊢;split at h'<;>exact hk _ _ _ h'
  | _=>exact hk _ _ _ h'
 | .loop b,n,T,H,K1,K2,hk,h=>by
  unfold AD at h⊢;split at h
  ·obtain⟨hl,⟨m,h⟩⟩:=BF.1 h
   exact BF.2 ⟨hl,⟨m,kM (Ef b _) hk m _ _ h⟩⟩
  ·exact h.elim
 | .rangeFunc g ps a b,n,T,H,K1,K2,hk,h=>by
  unfold AD at h⊢;split at h
  ·split at h
   ·obtain⟨hl,h⟩:=BF.1 h
    exact BF.2 ⟨hl,⟨h.h.mono hk⟩⟩
   ·exact h.elim
  ·exact h.elim
 | .scope _,_,_,_,_,_,_,h=>h.elim
 | .goto _,_,_,_,_,_,_,h=>h.elim
 | .refuse _,_,_,_,_,_,_,h=>h.elim
end
end
section
section
variable {P : Program}
def VA (P:Program)(call:HM)(ops:Array Oper):List Oper→List AV→AH→Option (List AV×AH)
 | [],T,H=>some (T,H)
 | o::l,T,H=>match B2 ops T o with
  | none=>none
  | some false=>VA P call ops l (Da T o.dst A6) H
  | some true=>match C1 P (Bi T) H o with
   | some (r,H')=>VA P call ops l (Da T o.dst r) H'
   | none=>match DV (Bi T) o with
    | some (f,args)=>if Bq P f then match call f args H with
      | some (r,H')=>VA P call ops l (Da T o.dst r) H'
      | none=>none
     else none
    | none=>none
def XI (P:Program)(pl:FuncId→Bool)(pure:Nt)(call:HM):Nat→Code→List AV→AH→Option (Exit×List AV×AH)
 | 0,_,_,_=>none
 | n+1,c,T,H=>match c with
  | .skip=>some (.normal,T,H)
  | .label _=>some (.normal,T,H)
  | .ret=>some (.ret,T,H)
  | .exit id=>some (.exit id,T,H)
  | .region _ ops false=>(VA P call ops ops.toList T H).map λp=>(.normal,p.1,p.2)
  | .region _ ops true=>(jD P pl pure call ops.toList T H).map λp=>(.normal,p.1,p.2)
  | .seq a b=>match XI P pl pure call n a T H with
   | some (.normal,T',H')=>XI P pl pure call n b T' H'
   | r=>r
  | .cond x a b=>match Bi T x with
   | .lit (.bool t)=>XI P pl pure call n (if t then a else b) T H
   | _=>none
  | .block id b=>match XI P pl pure call n b T H with
   | some (.exit id',T',H')=>if id'=id then some (.normal,T',H')else some (.exit id',T',H')
   | r=>r
  | .loop b=>match XI P pl pure call n b T H with
   | some (.normal,T',H')=>XI P pl pure call n (.loop b) T' H'
   | r=>r
  | _=>none
def nH (P:Program)(pl:FuncId→Bool)(call:HM):Nt:=λf args=>
 if pl f&&Bq P f&&Au args then match call f args []with
  | some (r,X)=>Jn X 64 r
  | none=>none
 else none
def Za (P:Program)(pl:FuncId→Bool)(call:HM)(fuel:Nat)(f:FuncId)(args:List AV)(H:AH):Option (AV×AH):=
 match P.funcs[f]? with
 | some fn=>match fn.body with
  | some c=>match XI P pl (nH P pl call) call fuel c (args++List.replicate (fn.ntmps - args.length) A6) H with
   | some (e,T,H')=>if WJ e then(Px P H' T fn.results.toList).map λxs=>(U1 xs,H')else none
   | none=>none
  | none=>none
 | none=>none
def run (P:Program)(ext:HM)(pl ql:FuncId→Bool)(fuel:Nat):Nat→HM
 | 0=>λ_ _ _=>none
 | n+1=>λf args H=>match ext f args H with
  | some r=>some r
  | none=>if pl f&&Au args then match Za P ql (run P ext pl ql fuel n) fuel f args []with
    | some (r,X)=>(Jn X 64 r).map (·,H)
    | none=>none
   else Za P ql (run P ext pl ql fuel n) fuel f args H
def Cfg.start (W:World):Cfg:={w:=W,n:=0,μ:=λ_=>(0,0,0),L:=λ_=>False,K:=λ_=>False}
theorem HR.start (W:World):HR (Cfg.start W) []:=⟨rfl,λo x h=>by simp at h,λo o' x x' h=>by simp at h,λo x h=>by simp at h,λb h=>h.elim (λh=>h.elim) (λh=>h.elim),λb h=>h.elim⟩
theorem Evo.below {G':Cfg}{W:World}(h:Evo (Cfg.start W) G'):Below W.heap.size W G'.w:=⟨h.os,h.tape,h.output,h.size,λk hk=>(h.keep k hk (λh=>h)).1⟩
theorem law_calls {f:FuncId}{args:List AV}(h:ACalls P f args [] λr _=>r=.lit (.bool true))(W:World){vs:List Value}(hv:VRs (Cfg.start W) args vs):
  Calls P f vs.toArray W λe W'=>e=.returned (.bool true)∧Below W.heap.size W W':=
 (h (Cfg.start W) vs (HR.start W) hv).mono fun e w' ⟨r,H',G',v,he,hw,hE,hx,_,hr⟩=>by
  subst hr;simp only[VR]at hx;subst hx;rw[← hw];exact⟨he,hE.below⟩
end
end
end Go.Proofs.YtbppnhenlboefaaGreat.Av
section
namespace Go.Proofs.YtbppnhenlboefaaGreat.Av
open Go Go.Proofs.Tryz
theorem own:ownKnob prog.godebug=none:=by kernel_rfl
theorem laidOut:laidOutB prog=true:=by kernel_rfl
abbrev tT:=true
abbrev fF:=false
abbrev KT:=AV→AH→Prop
abbrev u0Z:AV:=.lit (.int .u8 0)
abbrev RT:=List AV→AH→Prop
def A8:Cq:=JB []
def BD:Nat→Option (List Bool):=Cn []
abbrev Cr (f:FuncId)(args:List AV)(H:AH)(K:KT):Prop:=∃r H',K r H'∧BCall prog f args H r H'
def sE (b:RT→AV→AV→AH→Prop)(L:AV→AV→AH→Prop):Prop:=∀(I:Nat→AV→AV→AH→Prop) (round:∀(n:Nat) (x0 x1:AV) (H:AH) (R:RT),(∀(m:Nat) (y0 y1:AV) (H':AH),m<n→I m y0 y1 H'→R [y0,y1] H')→I n x0 x1 H→b R x0 x1 H) (n:Nat) {x0 x1:AV} {H:AH} (h:I n x0 x1 H),L x0 x1 H
theorem qL {keep:List Bool}{body:List AV→AH→Kf→Prop}{K0:Kf}{b:RT→AV→AV→AH→Prop}(hb:One body)(he:∀(R:RT) (x0 x1:AV) (H:AH),body (AP keep [x0,x1]) H (Rh keep R K0)=b R x0 x1 H):sE b (λx0 x1 H=>lp keep body [x0,x1] H K0):=by
 intro I round n x0 x1 H h;refine Kl hb (LI2 I) ?_ n h;intro n X H h;obtain⟨x0,x1,rfl,h⟩:=h.elim;exact Eq.mpr (he _ x0 x1 H) (round n x0 x1 H (λX H'=>∃m,m<n∧LI2 I m X H') (λm y0 y1 H' hm hi=>⟨m,hm,hi⟩) h)
def oQ (b:RT→AV→AV→AV→AH→Prop)(L:AV→AV→AV→AH→Prop):Prop:=∀(I:Nat→AV→AV→AV→AH→Prop) (round:∀(n:Nat) (x0 x1 x2:AV) (H:AH) (R:RT),(∀(m:Nat) (y0 y1 y2:AV) (H':AH),m<n→I m y0 y1 y2 H'→R [y0,y1,y2] H')→I n x0 x1 x2 H→b R x0 x1 x2 H) (n:Nat) {x0 x1 x2:AV} {H:AH} (h:I n x0 x1 x2 H),L x0 x1 x2 H
theorem iO {keep:List Bool}{body:List AV→AH→Kf→Prop}{K0:Kf}{b:RT→AV→AV→AV→AH→Prop}(hb:One body)(he:∀(R:RT) (x0 x1 x2:AV) (H:AH),body (AP keep [x0,x1,x2]) H (Rh keep R K0)=b R x0 x1 x2 H):oQ b (λx0 x1 x2 H=>lp keep body [x0,x1,x2] H K0):=by
 intro I round n x0 x1 x2 H h;refine Kl hb (LI3 I) ?_ n h;intro n X H h;obtain⟨x0,x1,x2,rfl,h⟩:=h.elim;exact Eq.mpr (he _ x0 x1 x2 H) (round n x0 x1 x2 H (λX H'=>∃m,m<n∧LI3 I m X H') (λm y0 y1 y2 H' hm hi=>⟨m,hm,hi⟩) h)
def VN (b:RT→AV→AV→AV→AV→AH→Prop)(L:AV→AV→AV→AV→AH→Prop):Prop:=∀(I:Nat→AV→AV→AV→AV→AH→Prop) (round:∀(n:Nat) (x0 x1 x2 x3:AV) (H:AH) (R:RT),(∀(m:Nat) (y0 y1 y2 y3:AV) (H':AH),m<n→I m y0 y1 y2 y3 H'→R [y0,y1,y2,y3] H')→I n x0 x1 x2 x3 H→b R x0 x1 x2 x3 H) (n:Nat) {x0 x1 x2 x3:AV} {H:AH} (h:I n x0 x1 x2 x3 H),L x0 x1 x2 x3 H
theorem LR {keep:List Bool}{body:List AV→AH→Kf→Prop}{K0:Kf}{b:RT→AV→AV→AV→AV→AH→Prop}(hb:One body)(he:∀(R:RT) (x0 x1 x2 x3:AV) (H:AH),body (AP keep [x0,x1,x2,x3]) H (Rh keep R K0)=b R x0 x1 x2 x3 H):VN b (λx0 x1 x2 x3 H=>lp keep body [x0,x1,x2,x3] H K0):=by
 intro I round n x0 x1 x2 x3 H h;refine Kl hb (LI4 I) ?_ n h;intro n X H h;obtain⟨x0,x1,x2,x3,rfl,h⟩:=h.elim;exact Eq.mpr (he _ x0 x1 x2 x3 H) (round n x0 x1 x2 x3 H (λX H'=>∃m,m<n∧LI4 I m X H') (λm y0 y1 y2 y3 H' hm hi=>⟨m,hm,hi⟩) h)
def gI (b:RT→AV→AV→AV→AV→AV→AH→Prop)(L:AV→AV→AV→AV→AV→AH→Prop):Prop:=∀(I:Nat→AV→AV→AV→AV→AV→AH→Prop) (round:∀(n:Nat) (x0 x1 x2 x3 x4:AV) (H:AH) (R:RT),(∀(m:Nat) (y0 y1 y2 y3 y4:AV) (H':AH),m<n→I m y0 y1 y2 y3 y4 H'→R [y0,y1,y2,y3,y4] H')→I n x0 x1 x2 x3 x4 H→b R x0 x1 x2 x3 x4 H) (n:Nat) {x0 x1 x2 x3 x4:AV} {H:AH} (h:I n x0 x1 x2 x3 x4 H),L x0 x1 x2 x3 x4 H
theorem WQ {keep:List Bool}{body:List AV→AH→Kf→Prop}{K0:Kf}{b:RT→AV→AV→AV→AV→AV→AH→Prop}(hb:One body)(he:∀(R:RT) (x0 x1 x2 x3 x4:AV) (H:AH),body (AP keep [x0,x1,x2,x3,x4]) H (Rh keep R K0)=b R x0 x1 x2 x3 x4 H):gI b (λx0 x1 x2 x3 x4 H=>lp keep body [x0,x1,x2,x3,x4] H K0):=by
 intro I round n x0 x1 x2 x3 x4 H h;refine Kl hb (LI5 I) ?_ n h;intro n X H h;obtain⟨x0,x1,x2,x3,x4,rfl,h⟩:=h.elim;exact Eq.mpr (he _ x0 x1 x2 x3 x4 H) (round n x0 x1 x2 x3 x4 H (λX H'=>∃m,m<n∧LI5 I m X H') (λm y0 y1 y2 y3 y4 H' hm hi=>⟨m,hm,hi⟩) h)
def oA (b:RT→AV→AV→AV→AV→AV→AV→AH→Prop)(L:AV→AV→AV→AV→AV→AV→AH→Prop):Prop:=∀(I:Nat→AV→AV→AV→AV→AV→AV→AH→Prop) (round:∀(n:Nat) (x0 x1 x2 x3 x4 x5:AV) (H:AH) (R:RT),(∀(m:Nat) (y0 y1 y2 y3 y4 y5:AV) (H':AH),m<n→I m y0 y1 y2 y3 y4 y5 H'→R [y0,y1,y2,y3,y4,y5] H')→I n x0 x1 x2 x3 x4 x5 H→b R x0 x1 x2 x3 x4 x5 H) (n:Nat) {x0 x1 x2 x3 x4 x5:AV} {H:AH} (h:I n x0 x1 x2 x3 x4 x5 H),L x0 x1 x2 x3 x4 x5 H
theorem dO {keep:List Bool}{body:List AV→AH→Kf→Prop}{K0:Kf}{b:RT→AV→AV→AV→AV→AV→AV→AH→Prop}(hb:One body)(he:∀(R:RT) (x0 x1 x2 x3 x4 x5:AV) (H:AH),body (AP keep [x0,x1,x2,x3,x4,x5]) H (Rh keep R K0)=b R x0 x1 x2 x3 x4 x5 H):oA b (λx0 x1 x2 x3 x4 x5 H=>lp keep body [x0,x1,x2,x3,x4,x5] H K0):=by
 intro I round n x0 x1 x2 x3 x4 x5 H h;refine Kl hb (LI6 I) ?_ n h;intro n X H h;obtain⟨x0,x1,x2,x3,x4,x5,rfl,h⟩:=h.elim;exact Eq.mpr (he _ x0 x1 x2 x3 x4 x5 H) (round n x0 x1 x2 x3 x4 x5 H (λX H'=>∃m,m<n∧LI6 I m X H') (λm y0 y1 y2 y3 y4 y5 H' hm hi=>⟨m,hm,hi⟩) h)
def rI (b:RT→AV→AV→AV→AV→AV→AV→AV→AH→Prop)(L:AV→AV→AV→AV→AV→AV→AV→AH→Prop):Prop:=∀(I:Nat→AV→AV→AV→AV→AV→AV→AV→AH→Prop) (round:∀(n:Nat) (x0 x1 x2 x3 x4 x5 x6:AV) (H:AH) (R:RT),(∀(m:Nat) (y0 y1 y2 y3 y4 y5 y6:AV) (H':AH),m<n→I m y0 y1 y2 y3 y4 y5 y6 H'→R [y0,y1,y2,y3,y4,y5,y6] H')→I n x0 x1 x2 x3 x4 x5 x6 H→b R x0 x1 x2 x3 x4 x5 x6 H) (n:Nat) {x0 x1 x2 x3 x4 x5 x6:AV} {H:AH} (h:I n x0 x1 x2 x3 x4 x5 x6 H),L x0 x1 x2 x3 x4 x5 x6 H
theorem sK {keep:List Bool}{body:List AV→AH→Kf→Prop}{K0:Kf}{b:RT→AV→AV→AV→AV→AV→AV→AV→AH→Prop}(hb:One body)(he:∀(R:RT) (x0 x1 x2 x3 x4 x5 x6:AV) (H:AH),body (AP keep [x0,x1,x2,x3,x4,x5,x6]) H (Rh keep R K0)=b R x0 x1 x2 x3 x4 x5 x6 H):rI b (λx0 x1 x2 x3 x4 x5 x6 H=>lp keep body [x0,x1,x2,x3,x4,x5,x6] H K0):=by
 intro I round n x0 x1 x2 x3 x4 x5 x6 H h;refine Kl hb (LI7 I) ?_ n h;intro n X H h;obtain⟨x0,x1,x2,x3,x4,x5,x6,rfl,h⟩:=h.elim;exact Eq.mpr (he _ x0 x1 x2 x3 x4 x5 x6 H) (round n x0 x1 x2 x3 x4 x5 x6 H (λX H'=>∃m,m<n∧LI7 I m X H') (λm y0 y1 y2 y3 y4 y5 y6 H' hm hi=>⟨m,hm,hi⟩) h)
theorem sJ {keep:List Bool}{body:List AV→AH→Kf→Prop}{K0:Kf}{b:RT→AV→AV→AV→AV→AV→AV→AV→AH→Prop}(hb:MonoF body)(he:∀(R:RT) (x0 x1 x2 x3 x4 x5 x6:AV) (H:AH),body (AP keep [x0,x1,x2,x3,x4,x5,x6]) H (Rh keep R K0)=b R x0 x1 x2 x3 x4 x5 x6 H):rI b (λx0 x1 x2 x3 x4 x5 x6 H=>lp keep body [x0,x1,x2,x3,x4,x5,x6] H K0):=by
 intro I round n x0 x1 x2 x3 x4 x5 x6 H h;refine iN hb (LI7 I) ?_ n h;intro n X H h;obtain⟨x0,x1,x2,x3,x4,x5,x6,rfl,h⟩:=h.elim;exact Eq.mpr (he _ x0 x1 x2 x3 x4 x5 x6 H) (round n x0 x1 x2 x3 x4 x5 x6 H (λX H'=>∃m,m<n∧LI7 I m X H') (λm y0 y1 y2 y3 y4 y5 y6 H' hm hi=>⟨m,hm,hi⟩) h)
def RL8 (b:RT→AV→AV→AV→AV→AV→AV→AV→AV→AH→Prop)(L:AV→AV→AV→AV→AV→AV→AV→AV→AH→Prop):Prop:=∀(I:Nat→AV→AV→AV→AV→AV→AV→AV→AV→AH→Prop) (round:∀(n:Nat) (x0 x1 x2 x3 x4 x5 x6 x7:AV) (H:AH) (R:RT),(∀(m:Nat) (y0 y1 y2 y3 y4 y5 y6 y7:AV) (H':AH),m<n→I m y0 y1 y2 y3 y4 y5 y6 y7 H'→R [y0,y1,y2,y3,y4,y5,y6,y7] H')→I n x0 x1 x2 x3 x4 x5 x6 x7 H→b R x0 x1 x2 x3 x4 x5 x6 x7 H) (n:Nat) {x0 x1 x2 x3 x4 x5 x6 x7:AV} {H:AH} (h:I n x0 x1 x2 x3 x4 x5 x6 x7 H),L x0 x1 x2 x3 x4 x5 x6 x7 H
theorem sL {keep:List Bool}{body:List AV→AH→Kf→Prop}{K0:Kf}{b:RT→AV→AV→AV→AV→AV→AV→AV→AV→AH→Prop}(hb:One body)(he:∀(R:RT) (x0 x1 x2 x3 x4 x5 x6 x7:AV) (H:AH),body (AP keep [x0,x1,x2,x3,x4,x5,x6,x7]) H (Rh keep R K0)=b R x0 x1 x2 x3 x4 x5 x6 x7 H):RL8 b (λx0 x1 x2 x3 x4 x5 x6 x7 H=>lp keep body [x0,x1,x2,x3,x4,x5,x6,x7] H K0):=by
 intro I round n x0 x1 x2 x3 x4 x5 x6 x7 H h;refine Kl hb (LI8 I) ?_ n h;intro n X H h;obtain⟨x0,x1,x2,x3,x4,x5,x6,x7,rfl,h⟩:=h.elim;exact Eq.mpr (he _ x0 x1 x2 x3 x4 x5 x6 x7 H) (round n x0 x1 x2 x3 x4 x5 x6 x7 H (λX H'=>∃m,m<n∧LI8 I m X H') (λm y0 y1 y2 y3 y4 y5 y6 y7 H' hm hi=>⟨m,hm,hi⟩) h)
def IU:FuncId→Bool:=Rp [188,179,181,23,54,142,148,180,182,145,22,73,170,50,172,141,171,173,98,99,208,55,56,110,144,53,146,201,204,111,223,94,167,169,163,143,184,209,225,74,147]
def sQ:FuncId→Bool:=Rp [230]
theorem JJ:prog.follows .mixedOrders=true:=by kernel_rfl
theorem fok (fl:Cq)(ql:FuncId→Bool)(kp:Nat→Option (List Bool)){f:FuncId}{fn:Func}{args:List AV}{H:AH}{K:KT}{X:Prop}(hf:prog.funcs[f]?=some fn)(h:X)(hc:XE fl ql fn=true:=by kernel_rfl)(he:NG prog fl ql Ap Ap kp fn args H K=X:=by kernel_rfl):Cr f args H K:=jF JJ hf hc (Eq.mpr he h)
def KC:Nat→Option (List Bool):=Cn [(10,mk 75 0 [1,2,3,6,33,34,35])]
def L8 (p:List Bool)(n:Nat):List AV→AH→Kf→Prop:=AD prog A8 IU Ap Ap KC (sub p (AG f188)) n
def J7 (x1 x2 x3 x6 x33 x34 x35:AV)(H:AH)(K:KT):Prop:=lp (mk 75 0 [1,2,3,6,33,34,35]) (L8 [tT,tT,tT,tT,fF,tT,fF,fF] 11) [x1,x2,x3,x6,x33,x34,x35] H (BG 0 (BH (L8 [tT,tT,tT,tT,tT] 17) (Br prog f188.results.toList K)))
def Ie (R10:RT)(x1 x2 x3 x6 x33 x34 x35:AV)(H:AH)(K:KT):Prop:=
 bO (Ay .lss x35 x34) λv0=>
 bB v0 λt1=>bI t1 (
 bO (Bk 2 x33 x35) λv2=>
 bO (Ar true 2 H v2) λv3=>
 bH (A5 H (.agg [(I 0),(I 0)])) λv4 H5=>
 bS (AS 2 H5 v4 v3) λH6=>
 bO (Ad 0 v4) λv7=>
 bO (Ar false 1 H6 v7) λv8=>
 bO (Ay .quo v8 (I 8)) λv9=>
 bC (BCall prog 202 [x3,v9] H6) λv10 H11=>
 bO (Ad 1 x3) λv12=>
 bO (Ar false 1 H11 v12) λv13=>
 bO (Bk 9 v13 v10) λv14=>
 bO (Ad 1 v14) λv15=>
 bO (Ad 0 v4) λv16=>
 bO (Ar false 1 H11 v16) λv17=>
 bO (Ay .mul v9 (I 8)) λv18=>
 bO (Ay .sub v17 v18) λv19=>
 bO (Oh 8 1 H11 v15 (some v19) none) λv20=>
 bO (Ad 0 v4) λv21=>
 bO (Ar false 1 H11 v21) λv22=>
 bO (Ay .sub v22 x1) λv23=>
 bO (AT 1 x2 (some v23) none none) λv24=>
 bO (Ad 1 v4) λv25=>
 bO (Ar false 1 H11 v25) λv26=>
 bO (AT 1 v24 none (some v26) none) λv27=>
 bH (NM 1 H11 v20 v27) λv28 H29=>
 bO (Ay .add x35 (I 1)) λv30=>
 R10 [x1,x2,x3,x6,x33,x34,v30] H29)
 (bO (Ad 0 x3) λv31=>
 bO (Ar false 1 H v31) λv32=>
 bO (AW x2) λv33=>
 bO (Ay .add x1 v33) λv34=>
 bO (amm XM [v32,v34]) λv35=>
 bO (Ad 0 x3) λv36=>
 bS (AS 1 H v36 v35) λH37=>
 bO (Ar true 2 H37 x3) λv38=>
 bS (AS 2 H37 x6 v38) λH39=>
 bO (Ar true 2 H39 x6) λv40=>
 K (.tup [v40,(B true)]) H39)
theorem KY {K:KT}:rI (λR x1 x2 x3 x6 x33 x34 x35 H=>Ie R x1 x2 x3 x6 x33 x34 x35 H K) (λx1 x2 x3 x6 x33 x34 x35 H=>J7 x1 x2 x3 x6 x33 x34 x35 H K):=sK (A3 _ _) (λ_ _ _ _ _ _ _ _ _=>by kernel_rfl)
def Oy (a0 a1 a2:AV)(H:AH)(K:KT):Prop:=
 bH (A5 H a0) λv0 H1=>
 bH (A5 H1 (.agg [(I 0),Ac])) λv2 H3=>
 bO (Ar true 2 H3 v0) λv4=>
 bP (PCall prog 54 [v4] H3) λv5=>
 bO (EX .not v5) λv6=>
 bG v6 false λw7=>
 gO w7 (some a1) λv8=>
 bG v6 false λw9=>
 gO w9 (some a2) λv10=>
 bG v6 false λw11=>
 gO w11 (AW v10) λv12=>
 bG v6 false λw13=>
 gP w13 (PCall prog 98 [v8,v12] H3) λv14=>
 bG v6 false λw15=>
 gO w15 (EX .not v14) λv16=>
 bO (AC v6 (B true) v16) λv17=>
 bB v17 λt18=>bI t18 (
 bO (FC [(I 0),Ac] []) λv19=>
 bS (AS 2 H3 v2 v19) λH20=>
 bO (Ar true 2 H20 v2) λv21=>
 K (.tup [v21,(B false)]) H20)
 (bO (Ar true 2 H3 v0) λv22=>
 bC (BCall prog 103 [v22] H3) λv23 H24=>
 bS (AS 2 H24 v0 v23) λH25=>
 bO (AW a2) λv26=>
 bO (Ay .eql v26 (I 0)) λv27=>
 bB v27 λt28=>bI t28 (
 bO (Ar true 2 H25 v0) λv29=>
 bS (AS 2 H25 v2 v29) λH30=>
 bO (Ar true 2 H30 v2) λv31=>
 K (.tup [v31,(B true)]) H30)
 (bO (AW a2) λv32=>
 bO (FC [(I 0),(I 0)] [(0,1,a1),(1,1,v32)]) λv33=>
 bP (PCall prog 99 [v33,(I 8)] H25) λv34=>
 bO (AW v34) λv35=>
 J7 a1 a2 v0 v2 v34 v35 (I 0) H25 K))
theorem QS {a0 a1 a2:AV}{H:AH}{K:KT}(h:Oy a0 a1 a2 H K):Cr 188 [a0,a1,a2] H K:=
 fok A8 IU KC func188 h
def MV:Nat→Option (List Bool):=Cn [(7,mk 40 0 [1,3,15,16,17])]
def Ov (p:List Bool)(n:Nat):List AV→AH→Kf→Prop:=AD prog A8 IU Ap Ap MV (sub p (AG f54)) n
def MU (x1 x3 x15 x16 x17:AV)(H:AH)(K:KT):Prop:=lp (mk 40 0 [1,3,15,16,17]) (Ov [tT,tT,tT,fF,tT,fF,fF] 8) [x1,x3,x15,x16,x17] H (BG 0 (BH (Ov [tT,tT,tT,tT] 15) (Br prog f54.results.toList K)))
def K8 (R7:RT)(x1 x3 x15 x16 x17:AV)(H:AH)(K:KT):Prop:=
 bO (Ay .lss x17 x16) λv0=>
 bB v0 λt1=>bI t1 (
 bO (Bk 9 x15 x17) λv2=>
 bO (Ar true 9 H v2) λv3=>
 bH (A5 H (.agg [(I 0),u0Z,u0Z,u0Z,u0Z,u0Z,u0Z,u0Z,u0Z])) λv4 H5=>
 bS (AS 9 H5 v4 v3) λH6=>
 bO (Ad 0 v4) λv7=>
 bO (Ar false 1 H6 v7) λv8=>
 bO (Ay .leq v8 x3) λv9=>
 bG v9 false λw10=>
 gO w10 (Ad 0 v4) λv11=>
 bG v9 false λw12=>
 gO w12 (Ar false 1 H6 v11) λv13=>
 bG v9 false λw14=>
 gO w14 (Ay .geq v13 (I 137438953472)) λv15=>
 bO (AC v9 (B true) v15) λv16=>
 bG v16 false λw17=>
 gO w17 (Ar true 9 H6 v4) λv18=>
 bG v16 false λw19=>
 gO w19 (Ad 0 x1) λv20=>
 bG v16 false λw21=>
 gO w21 (Ar false 1 H6 v20) λv22=>
 bG v16 false λw23=>
 gP w23 (PCall prog 110 [v18,v22] H6) λv24=>
 bG v16 false λw25=>
 gO w25 (EX .not v24) λv26=>
 bO (AC v16 (B true) v26) λv27=>
 bB v27 λt28=>bI t28 (
 K (B false) H6)
 (bO (Ad 0 v4) λv29=>
 bO (Ar false 1 H6 v29) λv30=>
 bO (Ay .add x17 (I 1)) λv31=>
 R7 [x1,v30,x15,x16,v31] H6))
 (K (B true) H)
theorem N4 {K:KT}:gI (λR x1 x3 x15 x16 x17 H=>K8 R x1 x3 x15 x16 x17 H K) (λx1 x3 x15 x16 x17 H=>MU x1 x3 x15 x16 x17 H K):=WQ (A3 _ _) (λ_ _ _ _ _ _ _=>by kernel_rfl)
def So (a0:AV)(H:AH)(K:KT):Prop:=
 bH (A5 H a0) λv0 H1=>
 bO (Ad 0 v0) λv2=>
 bO (Ar false 1 H1 v2) λv3=>
 bO (Ay .lss v3 (I 0)) λv4=>
 bG v4 false λw5=>
 gO w5 (Ad 0 v0) λv6=>
 bG v4 false λw7=>
 gO w7 (Ar false 1 H1 v6) λv8=>
 bG v4 false λw9=>
 gO w9 (Ay .gtr v8 (I 1099511627776)) λv10=>
 bO (AC v4 (B true) v10) λv11=>
 bB v11 λt12=>bI t12 (
 K (B false) H1)
 (bO (Ad 1 v0) λv13=>
 bO (Ar false 1 H1 v13) λv14=>
 bO (AW v14) λv15=>
 MU v0 (I (-1)) v14 v15 (I 0) H1 K)
theorem TG {a0:AV}{H:AH}{K:KT}(h:So a0 H K):Cr 54 [a0] H K:=
 fok A8 IU MV func54 h
def Qt (a0 a1:AV)(H:AH)(K:KT):Prop:=
 bH (A5 H a0) λv0 H1=>
 bH (A5 H1 a1) λv2 H3=>
 bO (Ad 0 v0) λv4=>
 bO (Ar false 1 H3 v4) λv5=>
 bO (Ad 0 v2) λv6=>
 bO (Ar false 1 H3 v6) λv7=>
 bO (Ay .eql v5 v7) λv8=>
 bG v8 true λw9=>
 gO w9 (Ad 1 v0) λv10=>
 bG v8 true λw11=>
 gO w11 (Ar false 1 H3 v10) λv12=>
 bG v8 true λw13=>
 gO w13 (Ad 1 v2) λv14=>
 bG v8 true λw15=>
 gO w15 (Ar false 1 H3 v14) λv16=>
 bG v8 true λw17=>
 gP w17 (PCall prog 53 [v12,v16] H3) λv18=>
 bO (AC v8 v18 (B false)) λv19=>
 K v19 H3
theorem Sr {a0 a1:AV}{H:AH}{K:KT}(h:Qt a0 a1 H K):Cr 22 [a0,a1] H K:=
 fok A8 IU BD func22 h
def Ia:Nat→Option (List Bool):=Cn [(11,mk 50 0 [4,8]),(7,mk 50 0 [1,2,3,4,8,10])]
def FQ (p:List Bool)(n:Nat):List AV→AH→Kf→Prop:=AD prog A8 IU Ap Ap Ia (sub p (AG f170)) n
def DE (x4 x8:AV)(H:AH)(K:KT):Prop:=jn (mk 50 0 [4,8]) (FQ [tT,tT,tT,tT,tT] 13) [x4,x8] H (Br prog f170.results.toList K)
def HZ (x1 x2 x3 x4 x8 x10:AV)(H:AH)(K:KT):Prop:=lp (mk 50 0 [1,2,3,4,8,10]) (FQ [tT,tT,tT,fF,tT,fF,fF] 8) [x1,x2,x3,x4,x8,x10] H (BG 0 (BH (FQ [tT,tT,tT,tT] 11) (Br prog f170.results.toList K)))
def Gp (x4 x8:AV)(H:AH)(K:KT):Prop:=
 bO (Ar true 2 H x4) λv0=>
 bS (AS 2 H x8 v0) λH1=>
 bO (Ar true 2 H1 x8) λv2=>
 K (.tup [v2,(B true)]) H1
theorem Kg (x4 x8:AV)(H:AH)(K:KT):DE x4 x8 H K=Gp x4 x8 H K:=(Em _ _ _ _ _).trans (by kernel_rfl)
def GL (R7:RT)(x1 x2 x3 x4 x8 x10:AV)(H:AH)(K:KT):Prop:=
 bO (Ay .add x1 x2) λv0=>
 bO (Ay .sub v0 (I 1)) λv1=>
 bO (Ay .quo v1 (I 8)) λv2=>
 bO (Ay .leq x10 v2) λv3=>
 bB v3 λt4=>bI t4 (
 bC (BCall prog 202 [x4,x10] H) λv5 H6=>
 bO (Ay .add x10 (I 1)) λv7=>
 R7 [x1,x2,x3,x4,x8,v7] H6)
 (bO (EX .not x3) λv8=>
 bB v8 λt9=>bI t9 (
 bO (Ad 0 x4) λv10=>
 bO (Ar false 1 H v10) λv11=>
 bO (Ay .add x1 x2) λv12=>
 bO (amm XM [v11,v12]) λv13=>
 bO (Ad 0 x4) λv14=>
 bS (AS 1 H v14 v13) λH15=>
 DE x4 x8 H15 K)
 (DE x4 x8 H K))
theorem J5 {K:KT}:oA (λR x1 x2 x3 x4 x8 x10 H=>GL R x1 x2 x3 x4 x8 x10 H K) (λx1 x2 x3 x4 x8 x10 H=>HZ x1 x2 x3 x4 x8 x10 H K):=dO (A3 _ _) (λ_ _ _ _ _ _ _ _=>by kernel_rfl)
def K7 (a0 a1 a2 a3:AV)(H:AH)(K:KT):Prop:=
 bH (A5 H a0) λv0 H1=>
 bH (A5 H1 (.agg [(I 0),Ac])) λv2 H3=>
 bO (Ar true 2 H3 v0) λv4=>
 bP (PCall prog 54 [v4] H3) λv5=>
 bO (EX .not v5) λv6=>
 bG v6 false λw7=>
 gO w7 (some a1) λv8=>
 bG v6 false λw9=>
 gO w9 (some a2) λv10=>
 bG v6 false λw11=>
 gP w11 (PCall prog 201 [v8,v10] H3) λv12=>
 bG v6 false λw13=>
 gO w13 (EX .not v12) λv14=>
 bO (AC v6 (B true) v14) λv15=>
 bG v15 false λw16=>
 gO w16 (some a2) λv17=>
 bG v15 false λw18=>
 gO w18 (Ay .gtr v17 (I 32768)) λv19=>
 bO (AC v15 (B true) v19) λv20=>
 bB v20 λt21=>bI t21 (
 bO (FC [(I 0),Ac] []) λv22=>
 bS (AS 2 H3 v2 v22) λH23=>
 bO (Ar true 2 H23 v2) λv24=>
 K (.tup [v24,(B false)]) H23)
 (bO (Ar true 2 H3 v0) λv25=>
 bC (BCall prog 103 [v25] H3) λv26 H27=>
 bS (AS 2 H27 v0 v26) λH28=>
 bO (Ay .quo a1 (I 8)) λv29=>
 HZ a1 a2 a3 v0 v2 v29 H28 K)
theorem N3 {a0 a1 a2 a3:AV}{H:AH}{K:KT}(h:K7 a0 a1 a2 a3 H K):Cr 170 [a0,a1,a2,a3] H K:=
 fok A8 IU Ia func170 h
def Ic:Nat→Option (List Bool):=Cn [(9,mk 45 0 [2,3,4,30,31])]
def IH (p:List Bool)(n:Nat):List AV→AH→Kf→Prop:=AD prog A8 IU Ap Ap Ic (sub p (AG f50)) n
def Ib (x2 x3 x4 x30 x31:AV)(H:AH)(K:KT):Prop:=lp (mk 45 0 [2,3,4,30,31]) (IH [tT,tT,tT,tT,tT,fF,tT,fF,fF] 10) [x2,x3,x4,x30,x31] H (BG 0 (BH (IH [tT,tT,tT,tT,tT,tT] 14) (Br prog f50.results.toList K)))
def GM (R9:RT)(x2 x3 x4 x30 x31:AV)(H:AH)(K:KT):Prop:=
 bO (Ay .lss x31 x30) λv0=>
 bB v0 λt1=>bI t1 (
 bO (Ad 1 x2) λv2=>
 bO (Ar false 1 H v2) λv3=>
 bO (Bk 9 v3 x31) λv4=>
 bO (Ar false 1 H x3) λv5=>
 bO (Ar false 1 H x3) λv6=>
 bO (Ay .sub (I 1099511627776) v6) λv7=>
 bO (FC [(I 0),(I 0)] [(0,1,v5),(1,1,v7)]) λv8=>
 bC (BCall prog 106 [v4,v8] H) λv9 H10=>
 bO (Ay .add x31 (I 1)) λv11=>
 R9 [x2,x3,x4,x30,v11] H10)
 (bO (Ar true 2 H x2) λv12=>
 bS (AS 2 H x4 v12) λH13=>
 bO (Ar true 2 H13 x4) λv14=>
 K (.tup [v14,(B true)]) H13)
theorem J6 {K:KT}:gI (λR x2 x3 x4 x30 x31 H=>GM R x2 x3 x4 x30 x31 H K) (λx2 x3 x4 x30 x31 H=>Ib x2 x3 x4 x30 x31 H K):=WQ (A3 _ _) (λ_ _ _ _ _ _ _=>by kernel_rfl)
def KB (a0 a1:AV)(H:AH)(K:KT):Prop:=
 bH (A5 H a0) λv0 H1=>
 bH (A5 H1 a1) λv2 H3=>
 bH (A5 H3 (.agg [(I 0),Ac])) λv4 H5=>
 bO (Ar true 2 H5 v0) λv6=>
 bP (PCall prog 54 [v6] H5) λv7=>
 bO (EX .not v7) λv8=>
 bG v8 false λw9=>
 gO w9 (Ar false 1 H5 v2) λv10=>
 bG v8 false λw11=>
 gO w11 (Ay .lss v10 (I 0)) λv12=>
 bO (AC v8 (B true) v12) λv13=>
 bG v13 false λw14=>
 gO w14 (Ar false 1 H5 v2) λv15=>
 bG v13 false λw16=>
 gO w16 (Ay .gtr v15 (I 1099511627776)) λv17=>
 bO (AC v13 (B true) v17) λv18=>
 bB v18 λt19=>bI t19 (
 bO (FC [(I 0),Ac] []) λv20=>
 bS (AS 2 H5 v4 v20) λH21=>
 bO (Ar true 2 H21 v4) λv22=>
 K (.tup [v22,(B false)]) H21)
 (bO (Ar true 2 H5 v0) λv23=>
 bC (BCall prog 103 [v23] H5) λv24 H25=>
 bS (AS 2 H25 v0 v24) λH26=>
 bO (Ar false 1 H26 v2) λv27=>
 bO (Ad 0 v0) λv28=>
 bS (AS 1 H26 v28 v27) λH29=>
 bO (Ad 1 v0) λv30=>
 bO (Ar false 1 H29 v30) λv31=>
 bC (BCall prog 104 [v31,(.fn (.func 105) [] [v2])] H29) λv32 H33=>
 bO (Ad 1 v0) λv34=>
 bS (AS 1 H33 v34 v32) λH35=>
 bO (Ad 1 v0) λv36=>
 bO (Ar false 1 H35 v36) λv37=>
 bO (AW v37) λv38=>
 Ib v0 v2 v4 v38 (I 0) H35 K)
theorem N5 {a0 a1:AV}{H:AH}{K:KT}(h:KB a0 a1 H K):Cr 50 [a0,a1] H K:=
 fok A8 IU Ic func50 h
def KA:Nat→Option (List Bool):=Cn [(9,mk 44 0 [3,6,8,32,33])]
def L6 (p:List Bool)(n:Nat):List AV→AH→Kf→Prop:=AD prog A8 IU Ap Ap KA (sub p (AG f172)) n
def K9 (x3 x6 x8 x32 x33:AV)(H:AH)(K:KT):Prop:=lp (mk 44 0 [3,6,8,32,33]) (L6 [tT,tT,tT,tT,tT,fF,tT,fF,fF] 10) [x3,x6,x8,x32,x33] H (BG 0 (BH (L6 [tT,tT,tT,tT,tT,tT] 14) (Br prog f172.results.toList K)))
def IF (R9:RT)(x3 x6 x8 x32 x33:AV)(H:AH)(K:KT):Prop:=
 bO (Ay .lss x33 x32) λv0=>
 bB v0 λt1=>bI t1 (
 bO (Ad 1 x3) λv2=>
 bO (Ar false 1 H v2) λv3=>
 bO (Bk 9 v3 x33) λv4=>
 bO (Ar true 2 H x8) λv5=>
 bC (BCall prog 106 [v4,v5] H) λv6 H7=>
 bO (Ay .add x33 (I 1)) λv8=>
 R9 [x3,x6,x8,x32,v8] H7)
 (bO (Ar true 2 H x3) λv9=>
 bS (AS 2 H x6 v9) λH10=>
 bO (Ar true 2 H10 x6) λv11=>
 K (.tup [v11,(B true)]) H10)
theorem L5 {K:KT}:gI (λR x3 x6 x8 x32 x33 H=>IF R x3 x6 x8 x32 x33 H K) (λx3 x6 x8 x32 x33 H=>K9 x3 x6 x8 x32 x33 H K):=WQ (A3 _ _) (λ_ _ _ _ _ _ _=>by kernel_rfl)
def Ow (a0 a1 a2:AV)(H:AH)(K:KT):Prop:=
 bH (A5 H a0) λv0 H1=>
 bH (A5 H1 (.agg [(I 0),Ac])) λv2 H3=>
 bO (Ar true 2 H3 v0) λv4=>
 bP (PCall prog 54 [v4] H3) λv5=>
 bO (EX .not v5) λv6=>
 bG v6 false λw7=>
 gO w7 (some a1) λv8=>
 bG v6 false λw9=>
 gO w9 (some a2) λv10=>
 bG v6 false λw11=>
 gP w11 (PCall prog 201 [v8,v10] H3) λv12=>
 bG v6 false λw13=>
 gO w13 (EX .not v12) λv14=>
 bO (AC v6 (B true) v14) λv15=>
 bB v15 λt16=>bI t16 (
 bO (FC [(I 0),Ac] []) λv17=>
 bS (AS 2 H3 v2 v17) λH18=>
 bO (Ar true 2 H18 v2) λv19=>
 K (.tup [v19,(B false)]) H18)
 (bO (Ar true 2 H3 v0) λv20=>
 bC (BCall prog 103 [v20] H3) λv21 H22=>
 bS (AS 2 H22 v0 v21) λH23=>
 bO (FC [(I 0),(I 0)] [(0,1,a1),(1,1,a2)]) λv24=>
 bH (A5 H23 (.agg [(I 0),(I 0)])) λv25 H26=>
 bS (AS 2 H26 v25 v24) λH27=>
 bO (Ad 1 v0) λv28=>
 bO (Ar false 1 H27 v28) λv29=>
 bC (BCall prog 104 [v29,(.fn (.func 203) [] [v25])] H27) λv30 H31=>
 bO (Ad 1 v0) λv32=>
 bS (AS 1 H31 v32 v30) λH33=>
 bO (Ad 1 v0) λv34=>
 bO (Ar false 1 H33 v34) λv35=>
 bO (AW v35) λv36=>
 K9 v0 v2 v25 v36 (I 0) H33 K)
theorem QR {a0 a1 a2:AV}{H:AH}{K:KT}(h:Ow a0 a1 a2 H K):Cr 172 [a0,a1,a2] H K:=
 fok A8 IU KA func172 h
def Qs (a0 a1:AV)(H:AH)(K:KT):Prop:=
 bO (Ay .geq a0 (I 0)) λv0=>
 bG v0 true λw1=>
 gO w1 (some a1) λv2=>
 bG v0 true λw3=>
 gO w3 (Ay .leq v2 (I 4096)) λv4=>
 bO (AC v0 v4 (B false)) λv5=>
 bG v5 true λw6=>
 gO w6 (some a0) λv7=>
 bG v5 true λw8=>
 gO w8 (some a1) λv9=>
 bG v5 true λw10=>
 gO w10 (Ay .sub (I 1099511627776) v9) λv11=>
 bG v5 true λw12=>
 gO w12 (Ay .leq v7 v11) λv13=>
 bO (AC v5 v13 (B false)) λv14=>
 K v14 H
theorem Sn {a0 a1:AV}{H:AH}{K:KT}(h:Qs a0 a1 H K):Cr 98 [a0,a1] H K:=
 fok A8 IU BD func98 h
def PE:Cq:=JB [(1,[(1,some 4)])]
def MW (a0:AV)(H:AH)(K:KT):Prop:=
 bH (A5 H a0) λv0 H1=>
 bH (A5 H1 (.agg [(I 0),Ac])) λv2 H3=>
 bO (Ad 0 v0) λv4=>
 bO (Ar false 1 H3 v4) λv5=>
 bO (Ad 1 v0) λv6=>
 bO (Ar false 1 H3 v6) λv7=>
 bC (BCall prog 95 [v7] H3) λv8 H9=>
 bO (FC [(I 0),Ac] [(0,1,v5),(1,1,v8)]) λv10=>
 bS (AS 2 H9 v2 v10) λH11=>
(Ar false 1 H9 v4=some v5)∧
 bO (Ar true 2 H11 v2) λv12=>
 K v12 H11
theorem PF {a0:AV}{H:AH}{K:KT}(h:MW a0 H K):Cr 103 [a0] H K:=
 fok PE IU BD func103 h
def OY:Nat→Option (List Bool):=Cn [(6,mk 48 0 [1,2,5])]
def Q6 (p:List Bool)(n:Nat):List AV→AH→Kf→Prop:=AD prog A8 IU Ap Ap OY (sub p (AG f99)) n
def OW (x1 x2 x5:AV)(H:AH)(K:KT):Prop:=lp (mk 48 0 [1,2,5]) (Q6 [tT,tT,tT,fF,fF,fF] 7) [x1,x2,x5] H (BG 0 (BH (Q6 [tT,tT,tT,tT] 11) (Br prog f99.results.toList K)))
def LW (R6:RT)(x1 x2 x5:AV)(H:AH)(K:KT):Prop:=
 bO (Ad 1 x2) λv0=>
 bO (Ar false 1 H v0) λv1=>
 bO (Ay .gtr v1 (I 0)) λv2=>
 bB v2 λt3=>bI t3 (
 bO (Ad 1 x2) λv4=>
 bO (Ar false 1 H v4) λv5=>
 bO (Ad 0 x2) λv6=>
 bO (Ar false 1 H v6) λv7=>
 bO (Ay .rem v7 x1) λv8=>
 bO (Ay .sub x1 v8) λv9=>
 bO (amm VO [v5,v9]) λv10=>
 bO (Ad 0 x2) λv11=>
 bO (Ar false 1 H v11) λv12=>
 bO (FC [(I 0),(I 0)] [(0,1,v12),(1,1,v10)]) λv13=>
 bH (Cg H 2 1 (AZ [(I 0),(I 0)] 1) [(0,2,v13)]) λv14 H15=>
 bH (Pq 2 16 H15 x5 v14) λv16 H17=>
 bO (Ad 0 x2) λv18=>
 bO (Ar false 1 H17 v18) λv19=>
 bO (Ay .add v19 v10) λv20=>
 bO (Ad 1 x2) λv21=>
 bO (Ar false 1 H17 v21) λv22=>
 bO (Ay .sub v22 v10) λv23=>
 bO (FC [(I 0),(I 0)] [(0,1,v20),(1,1,v23)]) λv24=>
 bS (AS 2 H17 x2 v24) λH25=>
 R6 [x1,x2,v16] H25)
 (K x5 H)
theorem OX {K:KT}:oQ (λR x1 x2 x5 H=>LW R x1 x2 x5 H K) (λx1 x2 x5 H=>OW x1 x2 x5 H K):=iO (A3 _ _) (λ_ _ _ _ _=>by kernel_rfl)
def U5 (a0 a1:AV)(H:AH)(K:KT):Prop:=
 bH (A5 H a0) λv0 H1=>
 bO (Ar true 2 H1 v0) λv2=>
 bP (PCall prog 111 [v2] H1) λv3=>
 bO (EX .not v3) λv4=>
 bG v4 false λw5=>
 gO w5 (Ad 1 v0) λv6=>
 bG v4 false λw7=>
 gO w7 (Ar false 1 H1 v6) λv8=>
 bG v4 false λw9=>
 gO w9 (Ay .gtr v8 (I 4096)) λv10=>
 bO (AC v4 (B true) v10) λv11=>
 bG v11 false λw12=>
 gO w12 (some a1) λv13=>
 bG v11 false λw14=>
 gO w14 (Ay .lss v13 (I 1)) λv15=>
 bO (AC v11 (B true) v15) λv16=>
 bB v16 λt17=>bI t17 (
 K Ac H1)
 (OW a1 v0 Ac H1 K)
theorem V2 {a0 a1:AV}{H:AH}{K:KT}(h:U5 a0 a1 H K):Cr 99 [a0,a1] H K:=
 fok A8 IU OY func99 h
def LC:Nat→Option (List Bool):=Cn [(2,mk 31 0 [5])]
def TI (p:List Bool)(n:Nat):List AV→AH→Kf→Prop:=AD prog A8 IU Ap Ap LC (sub p (AG f202)) n
def If (x5:AV)(H:AH)(K:KT):Prop:=jn (mk 31 0 [5]) (TI [tT,tT,tT] 4) [x5] H (Br prog f202.results.toList K)
def Gw (x5:AV)(H:AH)(K:KT):Prop:=
 K x5 H
theorem IL (x5:AV)(H:AH)(K:KT):If x5 H K=Gw x5 H K:=(Em _ _ _ _ _).trans (by kernel_rfl)
def Qu (a0 a1:AV)(H:AH)(K:KT):Prop:=
 bO (Af a0) λv0=>
 bO (Ad 1 v0) λv1=>
 bO (Ar false 1 H v1) λv2=>
 bP (PCall prog 208 [v2,a1] H) λv3=>
 bO (Ak v3 0) λv4=>
 bO (Ak v3 1) λv5=>
 bO (EX .not v5) λv6=>
 bB v6 λt7=>bI t7 (
 bO (Af a0) λv8=>
 bO (Ad 1 v8) λv9=>
 bO (Ar false 1 H v9) λv10=>
 bO (FC [(I 0),u0Z,u0Z,u0Z,u0Z,u0Z,u0Z,u0Z,u0Z] [(0,1,a1)]) λv11=>
 bH (Cg H 9 1 (AZ [(I 0),u0Z,u0Z,u0Z,u0Z,u0Z,u0Z,u0Z,u0Z] 1) [(0,9,v11)]) λv12 H13=>
 bC (BCall prog 222 [v10,v4,v12] H13) λv14 H15=>
 bO (Af a0) λv16=>
 bO (Ad 1 v16) λv17=>
 bS (AS 1 H15 v17 v14) λH18=>
 If v4 H18 K)
 (If v4 H K)
theorem Su {a0 a1:AV}{H:AH}{K:KT}(h:Qu a0 a1 H K):Cr 202 [a0,a1] H K:=
 fok A8 IU LC func202 h
def O0 (a0 a1:AV)(H:AH)(K:KT):Prop:=
 bP (PCall prog 223 [a0,a1,(.fn (.func 224) [] [])] H) λv0=>
 bO (Ak v0 0) λv1=>
 bO (Ak v0 1) λv2=>
 K (.tup [v1,v2]) H
theorem QU {a0 a1:AV}{H:AH}{K:KT}(h:O0 a0 a1 H K):Cr 208 [a0,a1] H K:=
 fok A8 IU BD func208 h
def WW (a0 a1:AV)(H:AH)(K:KT):Prop:=
 bH (A5 H a0) λv0 H1=>
 bH (A5 H1 a1) λv2 H3=>
 bH (A5 H3 (.agg [(I 0),(I 0)])) λv4 H5=>
 bO (Ar true 2 H5 v0) λv6=>
 bP (PCall prog 111 [v6] H5) λv7=>
 bO (EX .not v7) λv8=>
 bG v8 false λw9=>
 gO w9 (Ar true 2 H5 v2) λv10=>
 bG v8 false λw11=>
 gP w11 (PCall prog 111 [v10] H5) λv12=>
 bG v8 false λw13=>
 gO w13 (EX .not v12) λv14=>
 bO (AC v8 (B true) v14) λv15=>
 bB v15 λt16=>bI t16 (
 bO (FC [(I 0),(I 0)] []) λv17=>
 bS (AS 2 H5 v4 v17) λH18=>
 bO (Ar true 2 H18 v4) λv19=>
 K v19 H18)
 (bO (Ad 0 v0) λv20=>
 bO (Ar false 1 H5 v20) λv21=>
 bO (Ad 0 v2) λv22=>
 bO (Ar false 1 H5 v22) λv23=>
 bO (amm XM [v21,v23]) λv24=>
 bO (Ad 0 v0) λv25=>
 bO (Ar false 1 H5 v25) λv26=>
 bO (Ad 1 v0) λv27=>
 bO (Ar false 1 H5 v27) λv28=>
 bO (Ay .add v26 v28) λv29=>
 bO (Ad 0 v2) λv30=>
 bO (Ar false 1 H5 v30) λv31=>
 bO (Ad 1 v2) λv32=>
 bO (Ar false 1 H5 v32) λv33=>
 bO (Ay .add v31 v33) λv34=>
 bO (amm VO [v29,v34]) λv35=>
 bO (Ay .geq v24 v35) λv36=>
 bB v36 λt37=>bI t37 (
 bO (FC [(I 0),(I 0)] []) λv38=>
 bS (AS 2 H5 v4 v38) λH39=>
 bO (Ar true 2 H39 v4) λv40=>
 K v40 H39)
 (bO (Ay .sub v35 v24) λv41=>
 bO (FC [(I 0),(I 0)] [(0,1,v24),(1,1,v41)]) λv42=>
 bS (AS 2 H5 v4 v42) λH43=>
 bO (Ar true 2 H43 v4) λv44=>
 K v44 H43))
theorem WX {a0 a1:AV}{H:AH}{K:KT}(h:WW a0 a1 H K):Cr 55 [a0,a1] H K:=
 fok A8 IU BD func55 h
def O2 (a0:AV)(H:AH)(K:KT):Prop:=
 bH (A5 H (.agg [(I 0),(I 0)])) λv0 H1=>
 bO (Ay .mul a0 (I 8)) λv2=>
 bO (FC [(I 0),(I 0)] [(0,1,v2),(1,1,(I 8))]) λv3=>
 bS (AS 2 H1 v0 v3) λH4=>
 bO (Ar true 2 H4 v0) λv5=>
 K v5 H4
theorem QV {a0:AV}{H:AH}{K:KT}(h:O2 a0 H K):Cr 56 [a0] H K:=
 fok A8 IU BD func56 h
def KE:Nat→Option (List Bool):=Cn [(3,mk 25 0 [1,2,8,9])]
def LA (p:List Bool)(n:Nat):List AV→AH→Kf→Prop:=AD prog A8 IU Ap Ap KE (sub p (AG f110)) n
def KD (x1 x2 x8 x9:AV)(H:AH)(K:KT):Prop:=lp (mk 25 0 [1,2,8,9]) (LA [tT,fF,tT,fF,fF] 4) [x1,x2,x8,x9] H (BG 0 (BH (LA [tT,tT] 10) (Br prog f110.results.toList K)))
def IJ (R3:RT)(x1 x2 x8 x9:AV)(H:AH)(K:KT):Prop:=
 bO (Ay .lss x9 (I 8)) λv0=>
 bB v0 λt1=>bI t1 (
 bO (bN false 1 8 1 x8 x9) λv2=>
 bO (Ay .neq v2 u0Z) λv3=>
 bG v3 true λw4=>
 gO w4 (Ad 0 x2) λv5=>
 bG v3 true λw6=>
 gO w6 (Ar false 1 H v5) λv7=>
 bG v3 true λw8=>
 gO w8 (Ay .mul v7 (I 8)) λv9=>
 bG v3 true λw10=>
 gO w10 (some x9) λv11=>
 bG v3 true λw12=>
 gO w12 (Ay .add v9 v11) λv13=>
 bG v3 true λw14=>
 gO w14 (some x1) λv15=>
 bG v3 true λw16=>
 gO w16 (Ay .geq v13 v15) λv17=>
 bO (AC v3 v17 (B false)) λv18=>
 bB v18 λt19=>bI t19 (
 K (B false) H)
 (bO (Ay .add x9 (I 1)) λv20=>
 R3 [x1,x2,x8,v20] H))
 (K (B true) H)
theorem L9 {K:KT}:VN (λR x1 x2 x8 x9 H=>IJ R x1 x2 x8 x9 H K) (λx1 x2 x8 x9 H=>KD x1 x2 x8 x9 H K):=LR (A3 _ _) (λ_ _ _ _ _ _=>by kernel_rfl)
def Oz (a0 a1:AV)(H:AH)(K:KT):Prop:=
 bH (A5 H a0) λv0 H1=>
 bO (Ad 1 v0) λv2=>
 bO (Ar true 8 H1 v2) λv3=>
 KD a1 v0 v3 (I 0) H1 K
theorem QT {a0 a1:AV}{H:AH}{K:KT}(h:Oz a0 a1 H K):Cr 110 [a0,a1] H K:=
 fok A8 IU KE func110 h
def D0:Nat→Option (List Bool):=Cn [(6,mk 26 0 [0,1,12,13])]
def DA (p:List Bool)(n:Nat):List AV→AH→Kf→Prop:=AD prog A8 IU Ap Ap D0 (sub p (AG f53)) n
def Dz (x0 x1 x12 x13:AV)(H:AH)(K:KT):Prop:=lp (mk 26 0 [0,1,12,13]) (DA [tT,tT,fF,tT,fF,fF] 7) [x0,x1,x12,x13] H (BG 0 (BH (DA [tT,tT,tT] 13) (Br prog f53.results.toList K)))
def Df (R6:RT)(x0 x1 x12 x13:AV)(H:AH)(K:KT):Prop:=
 bO (Ay .lss x13 x12) λv0=>
 bB v0 λt1=>bI t1 (
 bO (Bk 9 x0 x13) λv2=>
 bO (Ar true 9 H v2) λv3=>
 bO (Bk 9 x1 x13) λv4=>
 bO (Ar true 9 H v4) λv5=>
 bO (Ha prog .neq 52 v3 v5) λv6=>
 bB v6 λt7=>bI t7 (
 K (B false) H)
 (bO (Ay .add x13 (I 1)) λv8=>
 R6 [x0,x1,x12,v8] H))
 (K (B true) H)
theorem EN {K:KT}:VN (λR x0 x1 x12 x13 H=>Df R x0 x1 x12 x13 H K) (λx0 x1 x12 x13 H=>Dz x0 x1 x12 x13 H K):=LR (A3 _ _) (λ_ _ _ _ _ _=>by kernel_rfl)
def Ec (a0 a1:AV)(H:AH)(K:KT):Prop:=
 bO (AW a0) λv0=>
 bO (AW a1) λv1=>
 bO (Ay .neq v0 v1) λv2=>
 bB v2 λt3=>bI t3 (
 K (B false) H)
 (bO (AW a0) λv4=>
 Dz a0 a1 v4 (I 0) H K)
theorem Gg {a0 a1:AV}{H:AH}{K:KT}(h:Ec a0 a1 H K):Cr 53 [a0,a1] H K:=
 fok A8 IU D0 func53 h
def Qv (a0 a1:AV)(H:AH)(K:KT):Prop:=
 bO (Ay .geq a0 (I 0)) λv0=>
 bG v0 true λw1=>
 gO w1 (some a1) λv2=>
 bG v0 true λw3=>
 gO w3 (Ay .geq v2 (I 1)) λv4=>
 bO (AC v0 v4 (B false)) λv5=>
 bG v5 true λw6=>
 gO w6 (some a1) λv7=>
 bG v5 true λw8=>
 gO w8 (Ay .leq v7 (I 1099511627776)) λv9=>
 bO (AC v5 v9 (B false)) λv10=>
 bG v10 true λw11=>
 gO w11 (some a0) λv12=>
 bG v10 true λw13=>
 gO w13 (some a1) λv14=>
 bG v10 true λw15=>
 gO w15 (Ay .sub (I 1099511627776) v14) λv16=>
 bG v10 true λw17=>
 gO w17 (Ay .leq v12 v16) λv18=>
 bO (AC v10 v18 (B false)) λv19=>
 K v19 H
theorem Sw {a0 a1:AV}{H:AH}{K:KT}(h:Qv a0 a1 H K):Cr 201 [a0,a1] H K:=
 fok A8 IU BD func201 h
def CC:Nat→Option (List Bool):=Cn [(10,mk 42 0 [0,1,5,6]),(7,mk 42 0 [0,1,5,6])]
def Bg (p:List Bool)(n:Nat):List AV→AH→Kf→Prop:=AD prog A8 IU Ap Ap CC (sub p (AG f104)) n
def BI (R7:RT)(x0 x1 x5 x6:AV)(H:AH)(K:KT):Prop:=jn (mk 42 0 [0,1,5,6]) (Bg [tT,tT,tT,fF,tT,fF,fF,tT,tT] 14) [x0,x1,x5,x6] H (Rh (mk 42 0 [0,1,5,6]) R7 (BG 0 (BH (Bg [tT,tT,tT,tT] 14) (Br prog f104.results.toList K))))
def CB (x0 x1 x5 x6:AV)(H:AH)(K:KT):Prop:=lp (mk 42 0 [0,1,5,6]) (Bg [tT,tT,tT,fF,tT,fF,fF] 8) [x0,x1,x5,x6] H (BG 0 (BH (Bg [tT,tT,tT,tT] 14) (Br prog f104.results.toList K)))
def B6 (R7:RT)(x0 x1 x5 x6:AV)(H:AH)(K:KT):Prop:=
 bO (Ay .add x6 (I 1)) λv0=>
 R7 [x0,x1,x5,v0] H
theorem Cl (R7:RT)(x0 x1 x5 x6:AV)(H:AH)(K:KT):BI R7 x0 x1 x5 x6 H K=B6 R7 x0 x1 x5 x6 H K:=(Em _ _ _ _ _).trans (by kernel_rfl)
def Cu (R7:RT)(x0 x1 x5 x6:AV)(H:AH)(K:KT):Prop:=
 bO (AW x0) λv0=>
 bO (Ay .lss x6 v0) λv1=>
 bB v1 λt2=>bI t2 (
 bO (Bk 9 x0 x6) λv3=>
 bO (Ar true 9 H v3) λv4=>
 bH (A5 H (.agg [(I 0),u0Z,u0Z,u0Z,u0Z,u0Z,u0Z,u0Z,u0Z])) λv5 H6=>
 bS (AS 9 H6 v5 v4) λH7=>
 bO (Ar true 9 H7 v5) λv8=>
 bF true x1 λk11 f11 c11=>
 bT (Bq prog k11||!true)<|
 bC (BCall prog k11 (f11++[v8]++c11) H7) λv9 H10=>
 bO (EX .not v9) λv12=>
 bB v12 λt13=>bI t13 (
 bO (Ar true 9 H10 v5) λv14=>
 bO (Bk 9 x0 x5) λv15=>
 bS (AS 9 H10 v15 v14) λH16=>
 bO (Ay .add x5 (I 1)) λv17=>
 BI R7 x0 x1 v17 x6 H16 K)
 (BI R7 x0 x1 x5 x6 H10 K))
 (bO (AT 9 x0 (some x5) none none) λv18=>
 bS (fW [(I 0),u0Z,u0Z,u0Z,u0Z,u0Z,u0Z,u0Z,u0Z] H v18) λH19=>
 bO (AT 9 x0 none (some x5) none) λv20=>
 K v20 H19)
theorem Eg {K:KT}:VN (λR x0 x1 x5 x6 H=>Cu R x0 x1 x5 x6 H K) (λx0 x1 x5 x6 H=>CB x0 x1 x5 x6 H K):=LR (A3 _ _) (λ_ _ _ _ _ _=>by kernel_rfl)
def De (a0 a1:AV)(H:AH)(K:KT):Prop:=
 bP (PCall prog 167 [a0,a1] H) λv0=>
 bO (Ay .eql v0 (I (-1))) λv1=>
 bB v1 λt2=>bI t2 (
 K a0 H)
 (bO (Ay .add v0 (I 1)) λv3=>
 CB a0 a1 v0 v3 H K)
theorem EM {a0 a1:AV}{H:AH}{K:KT}(h:De a0 a1 H K):Cr 104 [a0,a1] H K:=
 fok A8 IU CC func104 h
def IG (a0 a1:AV)(H:AH)(K:KT):Prop:=
 bH (A5 H a0) λv0 H1=>
 bO (Ad 0 v0) λv2=>
 bO (Ar false 1 H1 v2) λv3=>
 bO (Ay .mul v3 (I 8)) λv4=>
 bO (Ar false 1 H1 a1) λv5=>
 bO (Ay .geq v4 v5) λv6=>
 K v6 H1
theorem L7 {a0 a1:AV}{H:AH}{K:KT}(h:IG a0 a1 H K):Cr 105 [a0,a1] H K:=
 fok A8 IU BD func105 h
def LG:Cq:=JB [(1,[(3,some 7),(5,some 7)])]
def LH:Nat→Option (List Bool):=Cn [(3,mk 33 0 [0,4,14,15])]
def TJ (p:List Bool)(n:Nat):List AV→AH→Kf→Prop:=AD prog LG IU Ap Ap LH (sub p (AG f106)) n
def LF (x0 x4 x14 x15:AV)(H:AH)(K:KT):Prop:=lp (mk 33 0 [0,4,14,15]) (TJ [tT,tT,tT,fF,fF] 4) [x0,x4,x14,x15] H (BG 0 (Br prog f106.results.toList K))
def J8 (R3:RT)(x0 x4 x14 x15:AV)(H:AH)(K:KT):Prop:=
 bO (Ay .lss x15 x14) λv0=>
 bB v0 λt1=>bI t1 (
 bO (Ad 0 x4) λv2=>
 bO (Ar false 1 H v2) λv3=>
 bO (Af x0) λv4=>
 bO (Ad 0 v4) λv5=>
 bO (Ar false 1 H v5) λv6=>
 bO (Ay .mul v6 (I 8)) λv7=>
 bO (Ay .sub v3 v7) λv8=>
 bO (Ay .add v8 x15) λv9=>
 bO (Af x0) λv10=>
 bO (Ad 1 v10) λv11=>
 bO (bQ 8 1 v11 v9) λv12=>
 bS (AS 1 H v12 u0Z) λH13=>
 bO (Ay .add x15 (I 1)) λv14=>
 R3 [x0,x4,x14,v14] H13)
 (K (.tup []) H)
theorem M8 {K:KT}:VN (λR x0 x4 x14 x15 H=>J8 R x0 x4 x14 x15 H K) (λx0 x4 x14 x15 H=>LF x0 x4 x14 x15 H K):=LR (A3 _ _) (λ_ _ _ _ _ _=>by kernel_rfl)
def Qw (a0 a1:AV)(H:AH)(K:KT):Prop:=
 bH (A5 H a1) λv0 H1=>
 bO (Af a0) λv2=>
 bO (Ad 0 v2) λv3=>
 bO (Ar false 1 H1 v3) λv4=>
 bP (BPure prog 56 [v4]) λv5=>
 bO (Ar true 2 H1 v0) λv6=>
 bP (BPure prog 55 [v5,v6]) λv7=>
 bH (A5 H1 (.agg [(I 0),(I 0)])) λv8 H9=>
 bS (AS 2 H9 v8 v7) λH10=>
(Ar false 1 H9 v3=some v4)∧
(Ar true 2 H9 v0=some v6)∧
 bO (Ad 1 v8) λv11=>
 bO (Ar false 1 H10 v11) λv12=>
 LF a0 v8 v12 (I 0) H10 K
theorem Sx {a0 a1:AV}{H:AH}{K:KT}(h:Qw a0 a1 H K):Cr 106 [a0,a1] H K:=
 fok LG IU LH func106 h
def L4 (a0 a1:AV)(H:AH)(K:KT):Prop:=
 bH (A5 H a0) λv0 H1=>
 bO (Ad 0 v0) λv2=>
 bO (Ar false 1 H1 v2) λv3=>
 bP (BPure prog 56 [v3]) λv4=>
 bO (Ar true 2 H1 a1) λv5=>
 bP (BPure prog 204 [v4,v5]) λv6=>
 K v6 H1
theorem Ox {a0 a1:AV}{H:AH}{K:KT}(h:L4 a0 a1 H K):Cr 203 [a0,a1] H K:=
 fok A8 IU BD func203 h
def SU (a0 a1:AV)(H:AH)(K:KT):Prop:=
 bH (A5 H a0) λv0 H1=>
 bH (A5 H1 a1) λv2 H3=>
 bO (Ar true 2 H3 v0) λv4=>
 bP (PCall prog 111 [v4] H3) λv5=>
 bO (EX .not v5) λv6=>
 bG v6 false λw7=>
 gO w7 (Ar true 2 H3 v2) λv8=>
 bG v6 false λw9=>
 gP w9 (PCall prog 111 [v8] H3) λv10=>
 bG v6 false λw11=>
 gO w11 (EX .not v10) λv12=>
 bO (AC v6 (B true) v12) λv13=>
 bB v13 λt14=>bI t14 (
 K (B false) H3)
 (bO (Ad 1 v0) λv15=>
 bO (Ar false 1 H3 v15) λv16=>
 bO (Ay .eql v16 (I 0)) λv17=>
 bG v17 false λw18=>
 gO w18 (Ar true 2 H3 v0) λv19=>
 bG v17 false λw20=>
 gO w20 (Ar true 2 H3 v2) λv21=>
 bG v17 false λw22=>
 gP w22 (BPure prog 55 [v19,v21]) λv23=>
 bG v17 false λw24=>
 gO w24 (Ar true 2 H3 v0) λv25=>
 bG v17 false λw26=>
 gO w26 (Ha prog .eql 119 v23 v25) λv27=>
 bO (AC v17 (B true) v27) λv28=>
 K v28 H3)
theorem TT {a0 a1:AV}{H:AH}{K:KT}(h:SU a0 a1 H K):Cr 204 [a0,a1] H K:=
 fok A8 IU BD func204 h
def Eb (a0:AV)(H:AH)(K:KT):Prop:=
 bO (UQ .eql MA a0 Ac) λv0=>
 bB v0 λt1=>bI t1 (
 K Ac H)
 (bH (Cg H 9 0 (AZ [(I 0),u0Z,u0Z,u0Z,u0Z,u0Z,u0Z,u0Z,u0Z] 0) []) λv2 H3=>
 bH (Pq 9 16 H3 v2 a0) λv4 H5=>
 K v4 H5)
theorem Gf {a0:AV}{H:AH}{K:KT}(h:Eb a0 H K):Cr 95 [a0] H K:=
 fok A8 IU BD func95 h
def Q5 (a0:AV)(H:AH)(K:KT):Prop:=
 bH (A5 H a0) λv0 H1=>
 bO (Ad 0 v0) λv2=>
 bO (Ar false 1 H1 v2) λv3=>
 bP (PCall prog 169 [v3] H1) λv4=>
 bG v4 true λw5=>
 gO w5 (Ad 1 v0) λv6=>
 bG v4 true λw7=>
 gO w7 (Ar false 1 H1 v6) λv8=>
 bG v4 true λw9=>
 gP w9 (PCall prog 169 [v8] H1) λv10=>
 bO (AC v4 v10 (B false)) λv11=>
 bG v11 true λw12=>
 gO w12 (Ad 1 v0) λv13=>
 bG v11 true λw14=>
 gO w14 (Ar false 1 H1 v13) λv15=>
 bG v11 true λw16=>
 gO w16 (Ad 0 v0) λv17=>
 bG v11 true λw18=>
 gO w18 (Ar false 1 H1 v17) λv19=>
 bG v11 true λw20=>
 gO w20 (Ay .sub (I 4611686018427387904) v19) λv21=>
 bG v11 true λw22=>
 gO w22 (Ay .leq v15 v21) λv23=>
 bO (AC v11 v23 (B false)) λv24=>
 K v24 H1
theorem SS {a0:AV}{H:AH}{K:KT}(h:Q5 a0 H K):Cr 111 [a0] H K:=
 fok A8 IU BD func111 h
def FL:Nat→Bool:=Rp []
def Bj (a0 a1 a2:AV)(H:AH)(K:KT):Prop:=
 bO (AT 9 a0 (some a1) none none) λv0=>
 bO (AW a2) λv1=>
 bO (Ay .eql v1 (I 0)) λv2=>
 bB v2 λt3=>bI t3 (
 K a0 H)
 (bO (AW a0) λv4=>
 bO (Ay .eql a1 v4) λv5=>
 bB v5 λt6=>bI t6 (
 bH (Pq 9 16 H a0 a2) λv7 H8=>
 K v7 H8)
 (bO (Ay .add v4 v1) λv9=>
 bO (T6 a0) λv10=>
 bO (Ay .gtr v9 v10) λv11=>
 bB v11 λt12=>bI t12 (
 bO (AT 9 a0 none (some a1) none) λv13=>
 bO (Ay .add v4 v1) λv14=>
 bO (Ay .sub v14 a1) λv15=>
 bH (IZ H 9 16 [(I 0),u0Z,u0Z,u0Z,u0Z,u0Z,u0Z,u0Z,u0Z] v13 v15) λv16 H17=>
 bO (AT 9 v16 (some a1) none none) λv18=>
 bH (NM 9 H17 v18 a2) λv19 H20=>
 bO (Ay .add a1 v1) λv21=>
 bO (AT 9 v16 (some v21) none none) λv22=>
 bO (AT 9 a0 (some a1) none none) λv23=>
 bH (NM 9 H20 v22 v23) λv24 H25=>
 K v16 H25)
 (bO (Ay .add v4 v1) λv26=>
 bO (AT 9 a0 none (some v26) none) λv27=>
 bO (Ay .add a1 v1) λv28=>
 bO (AT 9 v27 (some v28) none none) λv29=>
 bP (ExtR prog 230 [a2,v29] H) λv30=>
 bO (EX .not v30) λv31=>
 bB v31 λt32=>bI t32 (
 bO (Ay .add a1 v1) λv33=>
 bO (AT 9 v27 (some v33) none none) λv34=>
 bO (AT 9 v27 (some a1) none none) λv35=>
 bH (NM 9 H v34 v35) λv36 H37=>
 bO (AT 9 v27 (some a1) none none) λv38=>
 bH (NM 9 H37 v38 a2) λv39 H40=>
 K v27 H40)
 (bO (AT 9 v27 (some v4) none none) λv41=>
 bH (NM 9 H v41 a2) λv42 H43=>
 bO (AT 9 v27 (some a1) none none) λv44=>
 bC (BCall prog 231 [v44,v1] H43) λv45 H46=>
 K v27 H46))))
theorem FK (a0 a1 a2:AV)(H:AH)(K:KT):NG prog A8 IU sQ FL BD f222 [a0,a1,a2] H K=Bj a0 a1 a2 H K:=by kernel_rfl
theorem Cf {a0 a1 a2:AV}{H:AH}{K:KT}(h:Bj a0 a1 a2 H K):ACalls prog 222 [a0,a1,a2] H K:=
 GD JJ func222 (by kernel_rfl) (Eq.mpr (FK a0 a1 a2 H K) h)
def BS:Nat→Option (List Bool):=Cn [(4,mk 49 0 [0,1,2,8,9,10])]
def BV (p:List Bool)(n:Nat):List AV→AH→Kf→Prop:=AD prog A8 IU Ap Ap BS (sub p (AG f223)) n
def BR (x0 x1 x2 x8 x9 x10:AV)(H:AH)(K:KT):Prop:=lp (mk 49 0 [0,1,2,8,9,10]) (BV [tT,tT,tT,fF,fF,fF] 5) [x0,x1,x2,x8,x9,x10] H (BG 0 (BH (BV [tT,tT,tT,tT] 9) (Br prog f223.results.toList K)))
def BK (R4:RT)(x0 x1 x2 x8 x9 x10:AV)(H:AH)(K:KT):Prop:=
 bO (Ay .lss x9 x10) λv0=>
 bB v0 λt1=>bI t1 (
 bO (Ay .add x9 x10) λv2=>
 bO (Yw .u64 v2) λv3=>
 bO (Ay .shr v3 (.lit (.int .u64 1))) λv4=>
 bO (Yw .i64 v4) λv5=>
 bO (Bk 9 x0 v5) λv6=>
 bO (Ar true 9 H v6) λv7=>
 bF true x2 λk10 f10 c10=>
 bT (Bq prog k10||!true)<|
 bC (BCall prog k10 (f10++[v7,x1]++c10) H) λv8 H9=>
 bO (Ay .lss v8 (I 0)) λv11=>
 bB v11 λt12=>bI t12 (
 bO (Ay .add v5 (I 1)) λv13=>
 R4 [x0,x1,x2,x8,v13,x10] H9)
 (R4 [x0,x1,x2,x8,x9,v5] H9))
 (bO (Ay .lss x9 x8) λv14=>
 bG v14 true λw15=>
 gO w15 (some x2) λv16=>
 bG v14 true λw17=>
 gO w17 (some x0) λv18=>
 bG v14 true λw19=>
 gO w19 (some x9) λv20=>
 bG v14 true λw21=>
 gO w21 (Bk 9 v18 v20) λv22=>
 bG v14 true λw23=>
 gO w23 (Ar true 9 H v22) λv24=>
 bG v14 true λw25=>
 gO w25 (some x1) λv26=>
 bG v14 true λw27=>
 bF w27 v16 λk30 f30 c30=>
 bT (Bq prog k30||!w27)<|
 gC w27 (BCall prog k30 (f30++[v24,v26]++c30) H) H λv28 H29=>
 bG v14 true λw31=>
 gO w31 (Ay .eql v28 (I 0)) λv32=>
 bO (AC v14 v32 (B false)) λv33=>
 K (.tup [x9,v33]) H29)
theorem CR {K:KT}:oA (λR x0 x1 x2 x8 x9 x10 H=>BK R x0 x1 x2 x8 x9 x10 H K) (λx0 x1 x2 x8 x9 x10 H=>BR x0 x1 x2 x8 x9 x10 H K):=dO (A3 _ _) (λ_ _ _ _ _ _ _ _=>by kernel_rfl)
def Cd (a0 a1 a2:AV)(H:AH)(K:KT):Prop:=
 bO (AW a0) λv0=>
 BR a0 a1 a2 v0 (I 0) v0 H K
theorem Dw {a0 a1 a2:AV}{H:AH}{K:KT}(h:Cd a0 a1 a2 H K):Cr 223 [a0,a1,a2] H K:=
 fok A8 IU BS func223 h
def LD (a0 a1:AV)(H:AH)(K:KT):Prop:=
 bH (A5 H a0) λv0 H1=>
 bO (Ad 0 v0) λv2=>
 bO (Ar false 1 H1 v2) λv3=>
 bP (PCall prog 94 [v3,a1] H1) λv4=>
 K v4 H1
theorem O1 {a0 a1:AV}{H:AH}{K:KT}(h:LD a0 a1 H K):Cr 224 [a0,a1] H K:=
 fok A8 IU BD func224 h
def K3 (a0 a1:AV)(H:AH)(K:KT):Prop:=
 bP (PCall prog 163 [a0] H) λv0=>
 bP (PCall prog 163 [a1] H) λv1=>
 bB v0 λt2=>bI t2 (
 bB v1 λt3=>bI t3 (
 K (I 0) H)
 (K (I (-1)) H))
 (bB v1 λt4=>bI t4 (
 K (I 1) H)
 (bO (Ay .lss a0 a1) λv5=>
 bB v5 λt6=>bI t6 (
 K (I (-1)) H)
 (bO (Ay .gtr a0 a1) λv7=>
 bB v7 λt8=>bI t8 (
 K (I 1) H)
 (K (I 0) H))))
theorem Ny {a0 a1:AV}{H:AH}{K:KT}(h:K3 a0 a1 H K):Cr 94 [a0,a1] H K:=
 fok A8 IU BD func94 h
def CM:Nat→Option (List Bool):=Cn [(3,mk 19 0 [0,1,7,8])]
def CV (p:List Bool)(n:Nat):List AV→AH→Kf→Prop:=AD prog A8 IU Ap Ap CM (sub p (AG f167)) n
def CL (x0 x1 x7 x8:AV)(H:AH)(K:KT):Prop:=lp (mk 19 0 [0,1,7,8]) (CV [tT,fF,tT,fF,fF] 4) [x0,x1,x7,x8] H (BG 0 (BH (CV [tT,tT] 10) (Br prog f167.results.toList K)))
def BJ (R3:RT)(x0 x1 x7 x8:AV)(H:AH)(K:KT):Prop:=
 bO (Ay .lss x8 x7) λv0=>
 bB v0 λt1=>bI t1 (
 bO (Bk 9 x0 x8) λv2=>
 bO (Ar true 9 H v2) λv3=>
 bF true x1 λk6 f6 c6=>
 bT (Bq prog k6||!true)<|
 bC (BCall prog k6 (f6++[v3]++c6) H) λv4 H5=>
 bB v4 λt7=>bI t7 (
 K x8 H5)
 (bO (Ay .add x8 (I 1)) λv8=>
 R3 [x0,x1,x7,v8] H5))
 (K (I (-1)) H)
theorem Cm {K:KT}:VN (λR x0 x1 x7 x8 H=>BJ R x0 x1 x7 x8 H K) (λx0 x1 x7 x8 H=>CL x0 x1 x7 x8 H K):=LR (A3 _ _) (λ_ _ _ _ _ _=>by kernel_rfl)
def Ce (a0 a1:AV)(H:AH)(K:KT):Prop:=
 bO (AW a0) λv0=>
 CL a0 a1 v0 (I 0) H K
theorem CN {a0 a1:AV}{H:AH}{K:KT}(h:Ce a0 a1 H K):Cr 167 [a0,a1] H K:=
 fok A8 IU CM func167 h
def YN (a0:AV)(H:AH)(K:KT):Prop:=
 bO (Ay .geq a0 (I 0)) λv0=>
 bG v0 true λw1=>
 gO w1 (some a0) λv2=>
 bG v0 true λw3=>
 gO w3 (Ay .leq v2 (I 4611686018427387904)) λv4=>
 bO (AC v0 v4 (B false)) λv5=>
 K v5 H
theorem Yb {a0:AV}{H:AH}{K:KT}(h:YN a0 H K):Cr 169 [a0] H K:=
 fok A8 IU BD func169 h
def ML (a0:AV)(H:AH)(K:KT):Prop:=
 bO (Ay .neq a0 a0) λv0=>
 K v0 H
theorem P6 {a0:AV}{H:AH}{K:KT}(h:ML a0 H K):Cr 163 [a0] H K:=
 fok A8 IU BD func163 h
end Go.Proofs.YtbppnhenlboefaaGreat.Av
end
