/- Texts of this proof, one behind the other, packed into one file by a program of this session. No condition. -/
import Derived.Test.YtadghlcfbajamaaGreatMsC
import Derived.KernelRfl
import Derived.OpenShut
import Derived.ProofKit
import Derived.SizedLaws
import Derived.Test.YtadghlcfbajamaaGreatRows
import Derived.WalkKit
set_option linter.unusedVariables false
set_option linter.unusedSimpArgs false
set_option maxRecDepth 100000
namespace Go.Proofs.YtadghlcfbajamaaGreat.Av
open Go Go.RowKit
section
def Bh:AV→Bool
 | .lit (.slice none _ _)=>true
 | .emp=>true
 | .sl _ _ _ _ _=>true
 | _=>false
def Bl:AV→List Nat
 | .sl o _ _ _ _=>[o]
 | _=>[]
theorem BG {H:AH}{sz:Nat}{v:AV}{cs:List AV}{n:Nat}(h:Ad H sz v=some (cs,n)):cs.length=n*sz:=by
 unfold Ad at h;split at h
 ·split at h
  ·rename_i hb
   injection h with h;injection h with h1 h2;subst h1;subst h2;exact hb.2
  ·cases h
 ·split at h
  ·split at h
   ·rename_i hb
    injection h with h;injection h with h1 h2;subst h1;subst h2;rw[Ah1,Ah8];omega
   ·cases h
  ·cases h
 ·injection h with h;injection h with h1 h2;subst h1;subst h2;simp
 ·injection h with h;injection h with h1 h2;subst h1;subst h2;simp
 ·cases h
theorem aL {H:AH}{sz:Nat}{v:AV}{cs:List AV}{n:Nat}(h:Bm H sz v=some (cs,n)):cs.length=n*sz:=by
 unfold Bm at h;split at h
 ·split at h
  ·rename_i hs
   injection h with h;injection h with h1 h2;subst h1;subst h2;subst hs;simp
  ·cases h
 ·exact BG h
theorem A3 {H:AH}{sz:Nat}{v:AV}{q:List AV×Nat}(h:Ad H sz v=some q):Bm H sz v=some q:=by
 unfold Bm
 split
 ·cases h
 ·exact h
abbrev Ap0:=@List.drop_take
abbrev Ah4:=@List.take_of_length_le
theorem ZM (cs:List AV)(off l:Nat)(ds:List AV)(h:off+l≤cs.length):((BS cs (off+l) ds).drop off).take (l+ds.length)=(cs.drop off).take l++ds∧off+(l+ds.length)≤(BS cs (off+l) ds).length:=by
 unfold BS
 constructor
 ·rw[Ai0,List.drop_append_of_le_length (by rw[Ah1];omega),List.take_append]
  have e1:((cs.take (off+l)).drop off)=(cs.drop off).take l:=by rw[Ap0];congr 1;omega
  rw[e1];have e2:((cs.drop off).take l).length=l:=by rw[Ah1,Ah8];omega
  rw[e2,Ah4 (by omega)]
  congr 1
  rw[show l+ds.length - l=ds.length by omega,List.take_left]
 ·simp only[Aa7];omega
theorem Bo {H:AH}{sz o off n:Nat}{cap:Room}{c:List AV}(ho:H[o]?=some (some (.cells c)))(hf:off+n*sz≤c.length):Ad H sz (.sl o off n sz cap)=some ((c.drop off).take (n*sz),n):=by
 simp[Ad,ho,hf]
theorem Af {H H':AH}{sz:Nat}{v:AV}{q:List AV×Nat}(h:Ad H sz v=some q)(hk:∀i∈Bl v,H'[i]?=H[i]?):Ad H' sz v=some q:=by
 cases v with
 | sl o off len esz cap=>
  have:=hk o (by simp[Bl])
  simp only[Ad]at h⊢;rw[this];exact h
 | lit u=>
  unfold Ad at h⊢;split at h<;>simp_all
 | imm cs len esz=>simpa only[Ad]using h
 | emp=>simpa only[Ad]using h
 | _=>simp[Ad]at h
abbrev An5:=@List.mem_singleton
theorem A7 {H:AH}{sz:Nat}{v:AV}{q:List AV×Nat}(h:Ad H sz v=some q):∀i∈Bl v,i<H.length:=by
 intro i hi;cases v with
 | sl o off len esz cap=>
  simp only[Bl,An5]at hi;subst hi;simp only[Ad]at h;split at h
  ·rename_i ho
   exact(B5.1 ho).1
  ·cases h
 | _=>simp[Bl]at hi
section
variable {P : Program}
abbrev Aa0:=And.intro @ne_eq.{1} @not_true_eq_false
abbrev Ak9:=@List.drop_zero
theorem hQ {sz bytes:Nat}{H:AH}{s:AV}{cs ds:List AV}{n m:Nat}(h1:Ad H sz s=some (cs,n))(ho:Bh s=true)(hdl:ds.length=m*sz)(hb:(n+m)*bytes≤140737488355328):
  ∃r H',NP H sz bytes s ds m=some (r,H')∧Bh r=true∧Ad H' sz r=some (cs++ds,n+m)∧H.length≤H'.length∧(∀i,i<H.length→i∉Bl s→H'[i]?=H[i]?)∧∀i∈Bl r,i∈Bl s∨H.length≤i:=by
 have hcl:=BG h1
 have newc:Ad (H++[some (.cells ds)]) sz (.sl H.length 0 m sz (.ge m))=some (ds,m):=by
  rw[Bo (c:=ds) (by simp) (by omega)];simp only[Ak9];rw[Ah4 (by omega)]
 have keep:∀(X:AH) (i:Nat),i<H.length→(H++X)[i]?=H[i]?:=λX i hi=>Ag8 hi
 have hnil:n=0→cs=[]:=λh0=>Al2 (by rw[hcl,h0];simp)
 unfold Ad at h1;split at h1
 ·simp[Bh]at ho
 ·
  rename_i o off len esz cap;split at h1
  ·rename_i c hoc
   split at h1
   ·rename_i hb1
    obtain⟨rfl,hfit⟩:=hb1;injection h1 with h1;injection h1 with h3 h4;subst h3;subst h4;have hol:=(B5.1 hoc).1;have hadd:(len+m)*esz=len*esz+m*esz:=Am0 _ _ _;obtain⟨ov1,ov2⟩:=ZM c off (len*esz) ds hfit
    have inplace:∀cap',Ad (H.set o (some (.cells (BS c (off+len*esz) ds)))) esz (.sl o off (len+m) esz cap')=some ((c.drop off).take (len*esz)++ds,len+m):=by
     intro cap';rw[Bo (c:=BS c (off+len*esz) ds) (by rw[KI hol]) (by rw[hadd,← hdl];exact ov2)];rw[hadd,← hdl,ov1]
    have fresh:∀(H2:AH) cap',H2.length=H.length→Ad (H2++[some (.cells ((c.drop off).take (len*esz)++ds))]) esz (.sl H.length 0 (len+m) esz cap')=some ((c.drop off).take (len*esz)++ds,len+m):=by
     intro H2 cap' hl;rw[Bo (c:=(c.drop off).take (len*esz)++ds) (by rw[← hl];simp) (by rw[Ah9,hcl,hdl];omega)];simp only[Ak9];rw[Ah4 (by rw[Ah9,hcl,hdl];omega)]
    have hkeep:∀(y:Option AObj) (X:AH) (i:Nat),i<H.length→i∉Bl (.sl o off len esz cap)→(H.set o y++X)[i]?=H[i]?:=by
     intro y X i hi hn;rw[Ag8 (by simpa using hi),Cg (by simp[Bl]at hn;omega)]
    unfold NP;simp only[hoc,Aa0,false_or,hfit,if_false];cases cap with
    | ex k=>
     simp only
     by_cases hk:len+m≤k
     ·rw[if_pos hk]
      exact⟨_,_,rfl,rfl,inplace _,by simp,λi hi hn=>by simpa using hkeep _ [] i hi hn,λi hi=>.inl (by simpa[Bl]using hi)⟩
     ·rw[if_neg hk,if_pos hb]
      exact⟨_,_,rfl,rfl,fresh H _ rfl,by simp,λi hi _=>keep _ i hi,λi hi=>.inr (by simp[Bl]at hi;omega)⟩
    | ge k=>
     simp only
     by_cases hm:m=0
     ·subst hm
      have hd0:ds=[]:=Al2 (by rw[hdl];simp);subst hd0;rw[if_pos rfl];exact⟨_,_,rfl,rfl,by rw[Bo hoc hfit];simp,Ah3 _,λ_ _ _=>rfl,λi hi=>.inl hi⟩
     ·rw[if_neg hm]
      by_cases hk:len+m≤k
      ·rw[if_pos hk]
       exact⟨_,_,rfl,rfl,inplace _,by simp,λi hi hn=>by simpa using hkeep _ [] i hi hn,λi hi=>.inl (by simpa[Bl]using hi)⟩
      ·rw[if_neg hk,if_pos hb]
       exact⟨_,_,rfl,rfl,fresh (H.set o none) _ (by simp),by simp,λi hi hn=>hkeep none _ i hi hn,λi hi=>.inr (by simp[Bl]at hi;omega)⟩
   ·cases h1
  ·cases h1
 ·
  injection h1 with h1;injection h1 with h3 h4;subst h3;subst h4;unfold NP;simp only
  by_cases hm:m=0
  ·subst hm
   have hd0:ds=[]:=Al2 (by rw[hdl];simp);subst hd0;rw[if_pos rfl];exact⟨_,_,rfl,rfl,rfl,Ah3 _,λ_ _ _=>rfl,λi hi=>.inl hi⟩
  ·rw[if_neg hm,if_pos (by simpa using hb)]
   exact⟨_,_,rfl,rfl,by simpa using newc,by simp,λi hi _=>keep _ i hi,λi hi=>.inr (by simp[Bl]at hi;omega)⟩
 ·
  injection h1 with h1;injection h1 with h3 h4;subst h3;subst h4;unfold NP;simp only
  by_cases hm:m=0
  ·subst hm
   have hd0:ds=[]:=Al2 (by rw[hdl];simp);subst hd0;rw[if_pos rfl];exact⟨_,_,rfl,rfl,rfl,Ah3 _,λ_ _ _=>rfl,λi hi=>.inl hi⟩
  ·rw[if_neg hm,if_pos (by simpa using hb)]
   exact⟨_,_,rfl,rfl,by simpa using newc,by simp,λi hi _=>keep _ i hi,λi hi=>.inr (by simp[Bl]at hi;omega)⟩
 ·cases h1
end
end
section
abbrev I (n:Int):AV:=.lit (.int .i64 n)
abbrev B (b:Bool):AV:=.lit (.bool b)
abbrev S (s:ByteArray):AV:=.lit (.string s)
abbrev Ac:AV:=.lit (.slice none 0 0)
@[congr] theorem zddrZ {x x':Option AV} {K:AV→Prop} (h:x=x'):bO x K=bO x' K:=by rw[h]
@[congr] theorem zddpZ {x x':Option (AV×AH)} {K:AV→AH→Prop} (h:x=x'):bH x K=bH x' K:=by rw[h]
@[congr] theorem zddtZ {x x':Option AH} {K:AH→Prop} (h:x=x'):bS x K=bS x' K:=by rw[h]
@[congr] theorem zW {v v':AV} {K:Bool→Prop} (h:v=v'):bB v K=bB v' K:=by rw[h]
@[congr] theorem zddqZ {b b':Bool} {A B:Prop} (h:b=b'):bI b A B=bI b' A B:=by rw[h]
@[congr] theorem zddoZ {v v':AV} {w:Bool} {K:Bool→Prop} (h:v=v'):bG v w K=bG v' w K:=by rw[h]
@[congr] theorem zY {w w':Bool} {v v':AV} {K:FuncId→List AV→List AV→Prop} (hw:w=w') (h:v=v'):bF w v K=bF w' v' K:=by rw[hw,h]
@[congr] theorem zdduZ {b b':Bool} {A:Prop} (h:b=b'):bT b A=bT b' A:=by rw[h]
@[congr] theorem zX {R:AV→AH→Prop} {K:AV→AH→Prop}:bC R K=bC R K:=rfl
@[congr] theorem zddsZ {R:AV→Prop} {K:AV→Prop}:bP R K=bP R K:=rfl
@[congr] theorem zdefZ {w w':Bool} {x:Option AV} {K:AV→Prop} (h:w=w'):gO w x K=gO w' x K:=by rw[h]
@[congr] theorem zdedZ {w w':Bool} {x:Option (AV×AH)} {H:AH} {K:AV→AH→Prop} (h:w=w'):gH w x H K=gH w' x H K:=by rw[h]
@[congr] theorem zdehZ {w w':Bool} {x:Option AH} {H:AH} {K:AH→Prop} (h:w=w'):gS w x H K=gS w' x H K:=by rw[h]
@[congr] theorem zdecZ {w w':Bool} {R:AV→AH→Prop} {H:AH} {K:AV→AH→Prop} (h:w=w'):gC w R H K=gC w' R H K:=by rw[h]
@[congr] theorem zdegZ {w w':Bool} {R:AV→Prop} {K:AV→Prop} (h:w=w'):gP w R K=gP w' R K:=by rw[h]
@[simp] theorem Ab {v:AV} {K:AV→Prop}:bO (some v) K=K v:=by unfold bO;exact Eq.refl _
@[simp] theorem AA {v:AV} {H:AH} {K:AV→AH→Prop}:bH (some (v,H)) K=K v H:=by unfold bH;exact Eq.refl _
@[simp] theorem AC {H:AH} {K:AH→Prop}:bS (some H) K=K H:=by unfold bS;exact Eq.refl _
@[simp] theorem Al {b:Bool} {K:Bool→Prop}:bB (.lit (.bool b)) K=K b:=by unfold bB;exact Eq.refl _
@[simp] theorem Aw {A B:Prop}:bI true A B=A:=by unfold bI;exact Eq.refl _
@[simp] theorem Ao {A B:Prop}:bI false A B=B:=by unfold bI;exact Eq.refl _
@[simp] theorem Bc {b w:Bool} {K:Bool→Prop}:bG (.lit (.bool b)) w K=K (b==w):=by unfold bG;exact Eq.refl _
@[simp] theorem qF {w:Bool} {K:Bool→Prop}:bG AO w K=K false:=by unfold bG;exact Eq.refl _
@[simp] theorem aO {A:Prop}:bT true A=A:=by unfold bT;exact Eq.refl _
@[simp] theorem qE {w:Bool} {k:FuncId} {a b:List AV} {K:FuncId→List AV→List AV→Prop}:bF w (.fn (.func k) a b) K=K k a b:=by unfold bF;exact Eq.refl _
@[simp] theorem zZ {K:FuncId→List AV→List AV→Prop}:bF false AO K=K 0 [] []:=by unfold bF AO;exact Eq.refl _
@[simp] theorem AD {x:Option AV} {K:AV→Prop}:gO true x K=bO x K:=by unfold gO;exact Eq.refl _
@[simp] theorem Cf {x:Option AV} {K:AV→Prop}:gO false x K=K AO:=by unfold gO;exact Eq.refl _
@[simp] theorem BZ {x:Option (AV×AH)} {H:AH} {K:AV→AH→Prop}:gH true x H K=bH x K:=by unfold gH;exact Eq.refl _
@[simp] theorem zdeeZ {x:Option (AV×AH)} {H:AH} {K:AV→AH→Prop}:gH false x H K=K AO H:=by unfold gH;exact Eq.refl _
@[simp] theorem Ca {x:Option AH} {H:AH} {K:AH→Prop}:gS true x H K=bS x K:=by unfold gS;exact Eq.refl _
@[simp] theorem zdeiZ {x:Option AH} {H:AH} {K:AH→Prop}:gS false x H K=K H:=by unfold gS;exact Eq.refl _
@[simp] theorem aX {R:AV→AH→Prop} {H:AH} {K:AV→AH→Prop}:gC true R H K=bC R K:=by unfold gC;exact Eq.refl _
@[simp] theorem Yi {R:AV→AH→Prop} {H:AH} {K:AV→AH→Prop}:gC false R H K=K AO H:=by unfold gC;exact Eq.refl _
@[simp] theorem lA {R:AV→Prop} {K:AV→Prop}:gP true R K=bP R K:=by unfold gP;exact Eq.refl _
@[simp] theorem eR {R:AV→Prop} {K:AV→Prop}:gP false R K=K AO:=by unfold gP;exact Eq.refl _
theorem bP_of {R:AV→Prop}{K:AV→Prop}{r:AV}(h:R r)(hk:K r):bP R K:=⟨r,h,hk⟩
theorem As {P:Program}{f:FuncId}{args:List AV}{H:AH}{K:AV→Prop}{r:AV}(h:BPure P f args r)(hk:K r):bP (PCall P f args H) K:=⟨r,.inl h,hk⟩
theorem uE {P:Program}{f:FuncId}{args args':List AV}{H:AH}{K:AV→Prop}{r:AV}(n:Nat)(hf:OB (NC H n) args=some args')(hr:M4 r=true)(h:BPure P f args' r)(hk:K r):bP (PCall P f args H) K:=⟨r,.inr ⟨n,args',hf,hr,h⟩,hk⟩
theorem bC_of {R:AV→AH→Prop}{K:AV→AH→Prop}{r:AV}{H:AH}(h:R r H)(hk:K r H):bC R K:=⟨r,H,h,hk⟩
theorem YN {x:Int}(h1: -9223372036854775808≤x)(h2:x≤9223372036854775807):IntKind.i64.wrap x=x:=by
 simp[IntKind.wrap,IntKind.bits,IntKind.signed];omega
section
variable {k : IntKind} {a b : Int}
theorem Ax (h1: -9223372036854775808≤a+b)(h2:a+b≤9223372036854775807):Ar .add (I a) (I b)=some (I (a+b)):=by simp[Ar,JN,YN h1 h2]
theorem Bv (h1: -9223372036854775808≤a - b)(h2:a - b≤9223372036854775807):Ar .sub (I a) (I b)=some (I (a - b)):=by simp[Ar,JN,YN h1 h2]
theorem D3 (h1: -9223372036854775808≤a*b)(h2:a*b≤9223372036854775807):Ar .mul (I a) (I b)=some (I (a*b)):=by simp[Ar,JN,YN h1 h2]
theorem Ky (h1:0≤a)(h2:a≤9223372036854775807)(h3:0<b):Ar .quo (I a) (I b)=some (I (a/b)):=by
 have e:a.tdiv b=a/b:=Int.tdiv_eq_ediv_of_nonneg h1;have h4:0≤a/b:=Int.ediv_nonneg h1 (by omega);have h5:a/b≤a:=Int.ediv_le_self _ h1;simp[Ar,JN,e,YN (x:=a/b) (by omega) (by omega)];omega
theorem U2 (h1:0≤a)(h3:0<b):Ar .rem (.lit (.int k a)) (.lit (.int k b))=some (.lit (.int k (a % b))):=by
 have e:a.tmod b=a % b:=Int.tmod_eq_emod_of_nonneg h1;simp[Ar,JN,e];omega
@[simp] theorem Cp:Ar .eql (.lit (.int k a)) (.lit (.int k b))=some (B (decide (a=b))):=by simp[Ar,JN];rfl
@[simp] theorem C2:Ar .neq (.lit (.int k a)) (.lit (.int k b))=some (B (decide (a≠b))):=by
 simp[Ar,JN]
 by_cases h:a=b<;>simp[h]
@[simp] theorem B1:Ar .lss (.lit (.int k a)) (.lit (.int k b))=some (B (decide (a<b))):=by simp[Ar,JN]
@[simp] theorem kK:Ar .leq (.lit (.int k a)) (.lit (.int k b))=some (B (decide (a≤b))):=by simp[Ar,JN]
@[simp] theorem EH:Ar .gtr (.lit (.int k a)) (.lit (.int k b))=some (B (decide (b<a))):=by simp[Ar,JN]
@[simp] theorem Xp:Ar .geq (.lit (.int k a)) (.lit (.int k b))=some (B (decide (b≤a))):=by simp[Ar,JN]
@[simp] theorem zdfgZ {x y:Bool}:zO .eql (.lit (.bool x)) (.lit (.bool y))=some (B (decide (x=y))):=by cases x<;>cases y<;>rfl
@[simp] theorem zdfhZ {x y:Bool}:zO .neq (.lit (.bool x)) (.lit (.bool y))=some (B (decide (x≠y))):=by cases x<;>cases y<;>rfl
@[simp] theorem Bg {x:Bool}:E6 .not (.lit (.bool x))=some (B !x):=rfl
@[simp] theorem A4 {t:Bool} {x y:AV}:Ay (.lit (.bool t)) x y=some (if t then x else y):=rfl
@[simp] theorem rD:cZ a b=min b a:=by unfold cZ;omega
@[simp] theorem Wc:Wb a b=max b a:=by unfold Wb;omega
@[simp] theorem NQ {f:Int→Int→Int}:amm f [.lit (.int k a),.lit (.int k b)]=some (.lit (.int k (f a b))):=rfl
theorem aE {k':IntKind}(h1: -9223372036854775808≤a)(h2:a≤9223372036854775807):oY .i64 (.lit (.int k' a))=some (I a):=by simp[oY,YN h1 h2]
end
@[simp] theorem Ap {vs:List AV} {i:Nat}:Ai (.tup vs) i=vs[i]?:=rfl
@[simp] theorem A0 {o off:Nat}:Ae (.ptr o off)=some (.ptr o off):=rfl
@[simp] theorem uC {cs:List AV}:Ae (.ip cs)=some (.ip cs):=rfl
@[simp] theorem Ak {k o off:Nat}:Aa k (.ptr o off)=some (.ptr o (off+k)):=rfl
@[simp] theorem yU {k:Nat} {cs:List AV}:Aa k (.ip cs)=some (.ip (cs.drop k)):=rfl
@[simp] theorem aI {g:Bool} {n:Nat} {H:AH} {cs:List AV}:Am g n H (.ip cs)=Aq g n cs 0:=rfl
theorem Ah {g:Bool}{n o off:Nat}{H:AH}{cs:List AV}(h:H[o]?=some (some (.cells cs))):Am g n H (.ptr o off)=Aq g n cs off:=by simp[Am,h]
@[simp] theorem Ag {n:Nat} {cs:List AV} {off:Nat}:Aq false n cs off=cs[off]?:=by simp[Aq]
theorem WK {n:Nat}{cs:List AV}{off:Nat}(h:off+n≤cs.length):Aq true n cs off=some (.agg ((cs.drop off).take n)):=by simp[Aq,h]
@[simp] theorem zV {g:Bool} {n off:Nat} {cs:List AV}:mW g n off (.agg cs)=Aq g n cs off:=rfl
@[simp] theorem OW {H:AH} {cs:List AV}:A9 H (.agg cs)=if cs.all oneA then some (.ptr H.length 0,H++[some (.cells cs)])else none:=by
 unfold A9 DA;simp only
 split<;>simp
theorem AF {n o off:Nat}{H:AH}{x:AV}{xs cs:List AV}(hx:DA x=some xs)(h:H[o]?=some (some (.cells cs)))(hl:xs.length=n)(hb:off+n≤cs.length):AJ n H (.ptr o off) x=some (H.set o (some (.cells (AZ cs off xs)))):=by
 simp[AJ,hx,h,hl,hb]
@[simp] theorem zderZ {k:IntKind} {n:Int}:oneA (.lit (.int k n))=true:=rfl
@[simp] theorem yY {b:Bool}:oneA (.lit (.bool b))=true:=rfl
@[simp] theorem zdeuZ {s:ByteArray}:oneA (.lit (.string s))=true:=rfl
@[simp] theorem zdesZ {n c:Nat}:oneA (.lit (.slice none n c))=true:=rfl
@[simp] theorem yZ:oneA (.lit (.map none))=true:=rfl
@[simp] theorem zA:oneA (.lit (.pointer none))=true:=rfl
@[simp] theorem zdfmZ {o off len esz:Nat} {cap:Room}:oneA (.sl o off len esz cap)=true:=rfl
@[simp] theorem zdeqZ {cs:List AV} {len esz:Nat}:oneA (.imm cs len esz)=true:=rfl
@[simp] theorem zdetZ {o off:Nat}:oneA (.ptr o off)=true:=rfl
@[simp] theorem zdepZ:oneA .emp=true:=rfl
@[simp] theorem zdflZ {o:Nat}:oneA (.mp o)=true:=rfl
@[simp] theorem wY {k:IntKind} {n:Int}:DA (.lit (.int k n))=some [.lit (.int k n)]:=rfl
@[simp] theorem vN {b:Bool}:DA (.lit (.bool b))=some [.lit (.bool b)]:=rfl
@[simp] theorem xB {s:ByteArray}:DA (.lit (.string s))=some [.lit (.string s)]:=rfl
@[simp] theorem wZ {n c:Nat}:DA (.lit (.slice none n c))=some [.lit (.slice none n c)]:=rfl
@[simp] theorem vO:DA (.lit (.map none))=some [.lit (.map none)]:=rfl
@[simp] theorem vP:DA (.lit (.pointer none))=some [.lit (.pointer none)]:=rfl
@[simp] theorem yW {o off len esz:Nat} {cap:Room}:DA (.sl o off len esz cap)=some [.sl o off len esz cap]:=rfl
@[simp] theorem wX {cs:List AV} {len esz:Nat}:DA (.imm cs len esz)=some [.imm cs len esz]:=rfl
@[simp] theorem xA {o off:Nat}:DA (.ptr o off)=some [.ptr o off]:=rfl
@[simp] theorem wW:DA .emp=some [.emp]:=rfl
@[simp] theorem yV {o:Nat}:DA (.mp o)=some [.mp o]:=rfl
@[simp] theorem Mv {cs:List AV}:DA (.agg cs)=if cs.all oneA then some cs else none:=rfl
theorem BE {v:AV}(h:oneA v=true):DA v=some [v]:=by
 cases v<;>first
  | rfl
  | (rename_i u;cases u<;>first | rfl | simp[oneA]at h)
  | simp[oneA]at h
@[simp] theorem yX {cells:List AV}:TD cells []=some cells:=rfl
@[simp] theorem iR {cells:List AV} {off size:Nat} {v:AV} {r:List (Nat×Nat×AV)}:TD cells ((off,size,v)::r)=match DA v with
  | some xs=>if xs.length=size∧off+size≤cells.length then TD (AZ cells off xs) r else none
  | none=>none:=rfl
attribute [simp] E5 FC U3 BI AZ LI0 LI1 LI2 LI3 LI4 LI5 LI6 LI7 LI8 LI9 zdfpZ zdfqZ zdfrZ zdfsZ zdftZ zdfuZ zdfvZ zdfwZ zdfxZ
@[simp] theorem C6 {g:Bool} {n o off:Nat} {H:AH}:Am g n H (.ptr o off)=match H[o]? with
  | some (some (.cells cs))=>Aq g n cs off
  | _=>none:=rfl
@[simp] theorem zQ {cs:List AV} {len esz:Nat}:AY (.imm cs len esz)=some (I len):=rfl
@[simp] theorem zR:AY (.lit (.slice none 0 0))=some (I 0):=rfl
@[simp] theorem tY {o off len esz:Nat} {cap:Room}:AY (.sl o off len esz cap)=some (I len):=rfl
@[simp] theorem zS {s:ByteArray}:WR (.lit (.string s))=some (I s.size):=rfl
section
variable {P : Program} {f : FuncId} {args : List AV} {R : AV}
theorem BPure.flat (h:∀H,∃r H',(r=R∧H'=H)∧BCall P f args H r H'):BPure P f args R:=λH=>by
 obtain⟨r,H',⟨rfl,rfl⟩,h⟩:=h H;exact h
end
def SV {α:Type}(enc:α→List AV)(sz:Nat)(l:List α)(v:AV):Prop:=noIds v=true∧∀H,Ad H sz v=some (l.flatMap enc,l.length)
section
variable {α : Type} {enc : α→List AV} {sz : Nat} {l : List α} {v : AV}
theorem SV.nil:SV enc sz [] Ac:=⟨rfl,λ_=>rfl⟩
theorem SV.len (h:SV enc sz l v):AY v=some (I l.length):=by
 have h2:=h.2 [];unfold Ad at h2;split at h2
 ·split at h2
  ·injection h2 with h2;injection h2 with e1 e2;rw[← e2];rfl
  ·cases h2
 ·simp at h2
 ·injection h2 with h2;injection h2 with e1 e2;rw[← e2];rfl
 ·injection h2 with h2;injection h2 with e1 e2;rw[← e2];rfl
 ·cases h2
abbrev Aj3:=@List.flatMap_cons
abbrev Aq1:=@Nat.add_comm
abbrev An0:=@List.drop_drop
theorem Gc (hsz:∀x,(enc x).length=sz):∀{l:List α} {k:Nat} {x:α},l[k]?=some x→(l.flatMap enc).drop (k*sz)=enc x++(l.drop (k+1)).flatMap enc
 | [],k,x,h=>by simp at h
 | a::l,0,x,h=>by simp at h;subst h;simp
 | a::l,k+1,x,h=>by
  have:=Gc hsz (l:=l) (k:=k) (by simpa using h)
  rw[Aj3,Ak8,Aq1,← An0,List.drop_left' (hsz a)]
  simpa using this
theorem RS (hsz:∀x,(enc x).length=sz)(l:List α):(l.flatMap enc).length=l.length*sz:=by
 induction l with
 | nil=>simp
 | cons a l ih=>simp[Aj3,hsz,ih,Ak8];omega
abbrev An6:=@List.cons_append
theorem SV.imm (hsz:∀x,(enc x).length=sz)(hn:∀x∈l,Az (enc x)=true):SV enc sz l (.imm (l.flatMap enc) l.length sz):=by
 refine⟨?_,λH=>?_⟩
 ·simp only[noIds]
  induction l with
  | nil=>rfl
  | cons a l ih=>
   rw[Aj3];have h1:=hn a (by simp);have h2:=ih λx hx=>hn x (by simp[hx])
   generalize enc a=c at h1
   induction c with
   | nil=>exact h2
   | cons b c ihc=>simp only[Az,Ai4,An6]at h1⊢;exact⟨h1.1,ihc h1.2⟩
 ·simp[Ad,RS hsz]
theorem SV.idx (h:SV enc sz l v)(hsz:∀x,(enc x).length=sz){k:Nat}{x:α}{i:Int}(hk:l[k]?=some x)(hi:i=k):Bq sz v (.lit (.int .i64 i))=some (.ip (enc x++(l.drop (k+1)).flatMap enc)):=by
 subst hi;have hlt:=(B5.1 hk).1;have h1:=h.1;have h2:=h.2 [];unfold Ad at h2;split at h2
 ·rename_i cs len esz
  split at h2
  ·injection h2 with h2;injection h2 with e1 e2
   subst e1;subst e2;simp only[Bq,L3];rw[if_pos ⟨by omega,by omega⟩];simp[Gc hsz hk]
  ·cases h2
 ·simp[noIds]at h1
 ·injection h2 with h2;injection h2 with e1 e2;rw[← e2]at hlt;omega
 ·injection h2 with h2;injection h2 with e1 e2;rw[← e2]at hlt;omega
 ·cases h2
end
end
section
section
variable {α : Type} {sz : Nat} {H : AH} {v : AV} {cs : List AV} {n : Nat}
theorem CU (h:Ad H sz v=some (cs,n)):AY v=some (I n):=by
 unfold Ad at h;split at h
 ·split at h
  ·injection h with h;injection h with h1 h2;rw[← h2];rfl
  ·cases h
 ·split at h
  ·split at h
   ·injection h with h;injection h with h1 h2;rw[← h2];rfl
   ·cases h
  ·cases h
 ·injection h with h;injection h with h1 h2;rw[← h2];rfl
 ·injection h with h;injection h with h1 h2;rw[← h2];rfl
 ·cases h
theorem CT {bytes:Nat}{x:AV}{ds:List AV}{m:Nat}(h1:Ad H sz v=some (cs,n))(ho:Bh v=true)(h2:Bm H sz x=some (ds,m))(hb:(n+m)*bytes≤140737488355328):
  ∃r H',HG sz bytes H v x=some (r,H')∧Bh r=true∧Ad H' sz r=some (cs++ds,n+m)∧H.length≤H'.length∧(∀i,i<H.length→i∉Bl v→H'[i]?=H[i]?)∧∀i∈Bl r,i∈Bl v∨H.length≤i:=by
 obtain⟨r,H',h⟩:=hQ h1 ho (aL h2) hb;exact⟨r,H',by unfold HG;rw[h2];exact h.1,h.2⟩
abbrev At5:=@List.take_succ_cons
abbrev Am4:=@List.take_take
theorem Gb (h:Ad H sz v=some (cs,n)){lo hi:Option AV}{l k:Nat}(hl:CA lo 0=some l)(hk:CA hi n=some k)(hlk:l≤k)(hkn:k≤n):
  ∃r,Bj sz v lo hi none=some r∧Ad H sz r=some ((cs.drop (l*sz)).take ((k - l)*sz),k - l)∧(∀i∈Bl r,i∈Bl v)∧(Bh v=true→Bh r=true)∧(noIds v=true→noIds r=true):=by
 have hcl:=BG h;have hmul:l*sz+(k - l)*sz=k*sz:=by rw[← Am0];congr 1;omega
 have hmul2:k*sz≤n*sz:=Ah7 _ hkn;unfold Ad at h;unfold Bj;split at h
 ·rename_i c len esz
  split at h
  ·rename_i hb
   obtain⟨rfl,hb⟩:=hb;injection h with h;injection h with h1 h2;subst h1;subst h2;simp only[hl,hk,hlk,hkn,and_self,if_true];refine⟨_,rfl,?_,(λi hi=>hi),(λh=>by simp[Bh]at h),λh=>?_⟩
   ·simp only[Ad,true_and]
    rw[if_pos (by rw[Ah1,Ah8];omega)]
   ·simp only[noIds]at h⊢
    have key:∀(c:List AV) (a b:Nat),Az c=true→Az ((c.drop a).take b)=true:=by
     intro c
     induction c with
     | nil=>intro a b _;simp[Az]
     | cons x c ih=>
      intro a b hc;simp only[Az,Ai4]at hc;cases a with
      | zero=>
       cases b with
       | zero=>rfl
       | succ b=>simp only[Ak9,At5,Az,Ai4];exact⟨hc.1,by simpa using ih 0 b hc.2⟩
      | succ a=>simpa using ih a b hc.2
    exact key _ _ _ h
  ·cases h
 ·rename_i o off len esz cap
  split at h
  ·rename_i c hoc
   split at h
   ·rename_i hb
    obtain⟨rfl,hb⟩:=hb;injection h with h;injection h with h1 h2;subst h1;subst h2;simp only[Aa0,if_false,hl,hk];rw[if_pos ⟨hlk,by omega⟩];refine⟨_,rfl,?_,(λi hi=>hi),(λ_=>rfl),λh=>by simp[noIds]at h⟩;rw[Bo hoc (by omega),Ap0,An0,Am4]
    congr 3
    omega
   ·cases h
  ·cases h
 ·injection h with h;injection h with h1 h2
  subst h1;subst h2;obtain rfl:k=0:=by omega
  obtain rfl:l=0:=by omega
  simp only[hl,hk];exact⟨_,rfl,by simp[Ad],(λi hi=>hi),(λ_=>rfl),λ_=>rfl⟩
 ·injection h with h;injection h with h1 h2
  subst h1;subst h2;obtain rfl:k=0:=by omega
  obtain rfl:l=0:=by omega
  simp only[hl,hk];exact⟨_,rfl,by simp[Ad],(λi hi=>hi),(λ_=>rfl),λ_=>rfl⟩
 ·cases h
def cC (H:AH):AV→Option (List AV)
 | .ptr o off=>match H[o]? with
  | some (some (.cells cs))=>some (cs.drop off)
  | _=>none
 | .ip cs=>some cs
 | _=>none
theorem XC {g:Bool}{k:Nat}{p:AV}(h:cC H p=some cs)(hk:0<k)(hl:k≤cs.length):Am g k H p=Aq g k cs 0:=by
 unfold cC at h;unfold Am;split at h
 ·rename_i o off
  simp only;split at h
  ·rename_i c hc
   injection h with h;subst h;unfold Aq;rw[Ah8]at hl;simp only[hc];cases g
   ·simp
   ·simp only[if_true]
    rw[if_pos (by omega),if_pos (by rw[Ah8];omega)];simp
  ·cases h
 ·injection h with h
  subst h;rfl
 ·cases h
theorem mY {k:Nat}{p:AV}(h:cC H p=some cs):∃q,Aa k p=some q∧cC H q=some (cs.drop k):=by
 unfold cC at h;split at h
 ·rename_i o off
  split at h
  ·rename_i c hc
   injection h with h;subst h;exact⟨_,rfl,by simp[cC,hc]⟩
  ·cases h
 ·injection h with h
  subst h;exact⟨_,rfl,rfl⟩
 ·cases h
theorem S4 (h:Ad H sz v=some (cs,n)){k:Nat}{i:Int}(hi:i=k)(hk:k<n):∃p c,Bq sz v (.lit (.int .i64 i))=some p∧cC H p=some c∧c.take sz=(cs.drop (k*sz)).take sz∧sz≤c.length:=by
 subst hi;have hcl:=BG h;have hmul:k*sz+sz≤n*sz:=by rw[← Ak8];exact Ah7 _ hk
 unfold Ad at h;unfold Bq;simp only[L3];split at h
 ·rename_i c len esz
  split at h
  ·rename_i hb
   obtain⟨rfl,hb⟩:=hb;injection h with h;injection h with h1 h2;subst h1;subst h2;refine⟨_,_,if_pos (by omega),rfl,by simp,by simp;omega⟩
  ·cases h
 ·rename_i o off len esz cap
  split at h
  ·rename_i c hoc
   split at h
   ·rename_i hb
    obtain⟨rfl,hb⟩:=hb;injection h with h;injection h with h1 h2;subst h1;subst h2;refine⟨_,c.drop (off+k*esz),if_pos (by omega),by simp[cC,hoc],?_,by rw[Ah8];omega⟩;rw[Ap0,An0,Am4]
    congr 1
    omega
   ·cases h
  ·cases h
 ·injection h with h;injection h with h1 h2;omega
 ·injection h with h;injection h with h1 h2;omega
 ·cases h
end
mutual
theorem S9 (X:AH):∀(a:AV),noIds a=true→∃n0,∀n,n0≤n→NC X n a=some a
 | .lit v,_=>⟨1,λn hn=>by cases n with
  | zero=>omega
  | succ n=>rfl⟩
 | .ip cs,h=>by
  simp only[noIds]at h;obtain⟨n0,h0⟩:=EV X cs h;refine⟨n0+1,λn hn=>?_⟩;cases n with
  | zero=>omega
  | succ n=>simp only[NC,h0 n (by omega)];rfl
 | .imm cs len esz,h=>by
  simp only[noIds]at h;obtain⟨n0,h0⟩:=EV X cs h;refine⟨n0+1,λn hn=>?_⟩;cases n with
  | zero=>omega
  | succ n=>simp only[NC,h0 n (by omega)];rfl
 | .agg cs,h=>by
  simp only[noIds]at h;obtain⟨n0,h0⟩:=EV X cs h;refine⟨n0+1,λn hn=>?_⟩;cases n with
  | zero=>omega
  | succ n=>simp only[NC,h0 n (by omega)];rfl
 | .tup cs,h=>by
  simp only[noIds]at h;obtain⟨n0,h0⟩:=EV X cs h;refine⟨n0+1,λn hn=>?_⟩;cases n with
  | zero=>omega
  | succ n=>simp only[NC,h0 n (by omega)];rfl
 | .fn f a b,h=>by
  simp only[noIds,Ai4]at h;obtain⟨n0,h0⟩:=EV X a h.1;obtain⟨n1,h1⟩:=EV X b h.2;refine⟨n0+n1+1,λn hn=>?_⟩;cases n with
  | zero=>omega
  | succ n=>simp only[NC,h0 n (by omega),h1 n (by omega)]
 | .emp,_=>⟨1,λn hn=>by cases n with
  | zero=>omega
  | succ n=>rfl⟩
 | .junk,_=>⟨1,λn hn=>by cases n with
  | zero=>omega
  | succ n=>rfl⟩
 | .ptr ..,h=>by simp[noIds]at h
 | .sl ..,h=>by simp[noIds]at h
 | .mp ..,h=>by simp[noIds]at h
theorem EV (X:AH):∀(asx:List AV),Az asx=true→∃n0,∀n,n0≤n→OB (NC X n) asx=some asx
 | [],_=>⟨0,λ_ _=>rfl⟩
 | a::asx,h=>by
  simp only[Az,Ai4]at h;obtain⟨n0,h0⟩:=S9 X a h.1;obtain⟨n1,h1⟩:=EV X asx h.2;exact⟨n0+n1,λn hn=>by simp only[OB,h0 n (by omega),h1 n (by omega)]⟩
end
theorem VV {X:AH}{sz:Nat}{r:AV}{cs:List AV}{m:Nat}(h:Ad X sz r=some (cs,m))(hc:Az cs=true):∃R n0,noIds R=true∧(∀H,Ad H sz R=some (cs,m))∧∀n,n0≤n→NC X n r=some R:=by
 have hcl:=BG h;unfold Ad at h;split at h
 ·rename_i c len esz
  split at h
  ·rename_i hb
   injection h with h;injection h with h1 h2;subst h1;subst h2;obtain⟨n0,h0⟩:=S9 X (.imm c len esz) (by simpa only[noIds]using hc);exact⟨_,n0,by simpa only[noIds]using hc,λH=>by simp[Ad,hb.1,hb.2],h0⟩
  ·cases h
 ·rename_i o off len esz cap
  split at h
  ·rename_i c hoc
   split at h
   ·rename_i hb
    injection h with h;injection h with h1 h2;obtain⟨n0,h0⟩:=EV X cs hc;refine⟨.imm cs len esz,n0+1,by simpa only[noIds]using hc,λH=>?_,λn hn=>?_⟩
    ·rw[← h2]at hcl⊢
     simp[Ad,hb.1,hcl]
    ·cases n with
     | zero=>omega
     | succ n=>
      obtain⟨rfl,-⟩:=hb;simp only[NC,hoc,h1,h0 n (by omega)];rfl
   ·cases h
  ·cases h
 ·injection h with h;injection h with h1 h2
  subst h1;subst h2
  exact⟨_,1,rfl,λH=>rfl,λn hn=>by cases n with
   | zero=>omega
   | succ n=>rfl⟩
 ·injection h with h;injection h with h1 h2
  subst h1;subst h2
  exact⟨_,1,rfl,λH=>rfl,λn hn=>by cases n with
   | zero=>omega
   | succ n=>rfl⟩
 ·cases h
section
variable {P : Program} {f : FuncId} {args : List AV}
theorem BPure.fz {Q:AV→Prop}(hb:Az args=true)(h:∃r X,(∃n R,NC X n r=some R∧Q R)∧BCall P f args [] r X):∃R,Q R∧BPure P f args R:=by
 obtain⟨r,X,⟨n,R,hf,hq⟩,h⟩:=h;exact⟨R,hq,BPure.of h hb hf⟩
theorem BPure.val {R:AV}(hb:Az args=true)(hR:noIds R=true)(h:∃r X,r=R∧BCall P f args [] r X):BPure P f args R:=by
 obtain⟨r,X,rfl,h⟩:=h;obtain⟨n0,h0⟩:=S9 X r hR;exact BPure.of h hb (h0 n0 (Ah3 _))
theorem BPure.sl {sz:Nat}{cs:List AV}{m:Nat}(hb:Az args=true)(hc:Az cs=true)(h:∃r X,Ad X sz r=some (cs,m)∧BCall P f args [] r X):∃R,(noIds R=true∧∀H,Ad H sz R=some (cs,m))∧BPure P f args R:=by
 obtain⟨r,X,h1,h⟩:=h;obtain⟨R,n0,h2,h3,h4⟩:=VV h1 hc;exact⟨R,⟨h2,h3⟩,BPure.of h hb (h4 n0 (Ah3 _))⟩
end
end
section
def MonoF (body:List AV→AH→Kf→Prop):Prop:=∀T H (K1 K2:Kf),(∀e T H,K1 e T H→K2 e T H)→body T H K1→body T H K2
theorem eU {keep:List Bool}{A B:List AV→AH→Prop}{K:Kf}(h:∀X H,A X H→B X H):∀e T H,TO keep A K e T H→TO keep B K e T H:=by
 intro e T H hk;cases e with
 | normal=>
  obtain⟨hl,h1⟩:=Dd.1 hk;exact Dd.2 ⟨hl,h _ _ h1⟩
 | _=>exact hk
theorem sJ {keep:List Bool}{body:List AV→AH→Kf→Prop}{K:Kf}(hb:MonoF body):∀(m:Nat) X H,oO keep body K m X H→oO keep body K (m+1) X H
 | 0,X,H,h=>h.elim
 | m+1,X,H,h=>hb _ _ _ _ (eU λX H=>sJ hb m X H) h
theorem yD {keep:List Bool}{body:List AV→AH→Kf→Prop}{K:Kf}(hb:MonoF body){m n:Nat}(h:m≤n){X:List AV}{H:AH}(hr:oO keep body K m X H):oO keep body K n X H:=by
 induction h with
 | refl=>exact hr
 | step _ ih=>exact sJ hb _ _ _ ih
theorem uN {keep:List Bool}{body:List AV→AH→Kf→Prop}{K:Kf}(hb:MonoF body)(J:Nat→List AV→AH→Prop)
  (round:∀n X H,J n X H→body (Cj keep X) H (TO keep (λX' H'=>∃m,m<n∧J m X' H') K)):∀(n:Nat) {X:List AV} {H:AH},J n X H→lp keep body X H K:=by
 have key:∀n X H,J n X H→oO keep body K (n+1) X H:=by
  intro n
  induction n using Nat.strongRecOn with
  | _ n ih=>
   intro X H hJ;refine hb _ _ _ _ (eU ?_) (round n X H hJ);rintro X' H' ⟨m,hm,hJ'⟩;exact yD hb (by omega) (ih m hm X' H' hJ')
 exact λn X H hJ=>⟨n+1,key n X H hJ⟩
section
variable {P : Program} {ql al : FuncId→Bool} {dr w : Bool} {ρ : Operand→AV} {H : AH}
theorem gE {o:Oper}{K1 K2:AV→AH→Prop}(h:QI P ql al dr ρ H o w K1)(hk:∀r H,K1 r H→K2 r H):QI P ql al dr ρ H o w K2:=by
 cases ha:BV al o.op with
 | false=>
  rw[jW ha]at h⊢;obtain⟨r,H',hk1,-,h2⟩:=Qg h;exact h2 _ (hk _ _ hk1)
 | true=>
  obtain⟨dst,op,type,pos,after,guard⟩:=o;simp only at ha;unfold BV at ha;split at ha
  ·rename_i k args ats
   have ha':BV al (.call {callee:=.value (.func k),args:=args,argTypes:=ats})=true:=ha;unfold QI bF at h⊢;simp only[ha']at h⊢;generalize hx:ρ (.func k)=x at h⊢;split at h
   ·rename_i f a b
    cases dr with
    | true=>exact h
    | false=>
     simp only at h⊢;cases hg:C3 P f with
     | true=>
      rw[hg]at h;cases w with
      | true=>
       obtain⟨R,hR,hall⟩:=h;exact⟨R,hR,λr H' hr=>hk r H' (hall r H' hr)⟩
      | false=>exact hk _ _ h
     | false=>
      rw[hg]at h;cases w with
      | true=>
       obtain⟨r,hr,h⟩:=h;exact⟨r,hr,hk _ _ h⟩
      | false=>exact hk _ _ h
   ·cases w with
    | true=>exact h.elim
    | false=>
     cases dr with
     | true=>exact h.elim
     | false=>
      simp only at h⊢;cases hg:C3 P 0 with
      | true=>rw[hg]at h;exact hk _ _ h
      | false=>rw[hg]at h;exact hk _ _ h
  ·cases ha
theorem Wn {ops:Array Oper}:∀(l:List Oper) (T:List AV) (H:AH) {K1 K2:List AV→AH→Prop},(∀T H,K1 T H→K2 T H)→Uq P ql al dr ops l T H K1→Uq P ql al dr ops l T H K2
 | [],T,H,K1,K2,hk,h=>hk _ _ h
 | o::l,T,H,K1,K2,hk,h=>by
  unfold Uq at h⊢;obtain⟨w,hw,h,hw2⟩:=F4 h;refine hw2 _ (gE h λr H' hr=>?_);rw[Je]at hr⊢;exact Wn l _ _ hk hr
theorem YA {ops:Array Oper}{H0:AH}{fl:List (Nat×Option Nat)}:∀(l:List Oper) (T:List AV) (H:AH) (lg:List (List AV×AH×AV)) {K1 K2:List AV→AH→Prop},(∀T H,K1 T H→K2 T H)→Q8 P ql al ops H0 fl l T H lg K1→Q8 P ql al ops H0 fl l T H lg K2
 | [],T,H,lg,K1,K2,hk,h=>by
  obtain⟨h1,h2⟩:=jV h;exact sL (K:=K1 T H) h (hk _ _ h2)
 | o::l,T,H,lg,K1,K2,hk,h=>by
  unfold Q8 at h⊢;obtain⟨w,hw,h,hw2⟩:=F4 h;refine hw2 _ (gE h λr H' hr=>?_);rw[Je]at hr⊢;exact YA l _ _ _ hk hr
theorem MonoF.cut {keep:List Bool}{body:List AV→AH→Kf→Prop}(h:MonoF body):MonoF (DO keep body):=by
 intro T H K1 K2 hk hc;obtain⟨hl,hc⟩:=Dd.1 hc;exact Dd.2 ⟨hl,⟨h _ _ _ _ hk hc.h⟩⟩
theorem MonoF.seq {a b:List AV→AH→Kf→Prop}(ha:MonoF a)(hb:MonoF b):MonoF λT H K=>a T H (Bb b K):=by
 intro T H K1 K2 hk h;refine ha _ _ _ _ ?_ h;intro e T' H' h';cases e with
 | normal=>exact hb _ _ _ _ hk h'
 | _=>exact hk _ _ _ h'
theorem vX {keep:List Bool}{body:List AV→AH→Kf→Prop}(hb:MonoF body){K1 K2:Kf}(hk:∀e T H,K1 e T H→K2 e T H):∀(m:Nat) (X:List AV) (H:AH),oO keep body K1 m X H→oO keep body K2 m X H
 | 0,X,H,h=>h.elim
 | m+1,X,H,h=>by
  refine hb _ _ _ _ ?_ h;intro e T H h';cases e with
  | normal=>
   obtain⟨hl,h1⟩:=Dd.1 h';exact Dd.2 ⟨hl,vX hb hk m _ _ h1⟩
  | _=>exact hk _ _ _ h'
theorem FE {fl:Dh}{un:Nat→Bool}{kp:Nat→Option (List Bool)}:∀(c:Code) (n:Nat),MonoF (AL P fl ql al un kp c n)
 | .skip,n,T,H,K1,K2,hk,h=>hk _ _ _ h
 | .label _,n,T,H,K1,K2,hk,h=>hk _ _ _ h
 | .ret,n,T,H,K1,K2,hk,h=>hk _ _ _ h
 | .exit _,n,T,H,K1,K2,hk,h=>hk _ _ _ h
 | .region id ops dr,n,T,H,K1,K2,hk,h=>by
  unfold AL at h⊢;cases dr with
  | false=>exact Wn _ _ _ (hk .normal) h
  | true=>
   simp only at h⊢;split at h
   ·split at h
    ·obtain⟨hl,h⟩:=Dd.1 h
     exact Dd.2 ⟨hl,⟨h.h.mono hk⟩⟩
    ·exact h.elim
   ·split at h
    ·exact Wn _ _ _ (hk .normal) h
    ·exact YA _ _ _ _ (hk .normal) h
 | .seq a b,n,T,H,K1,K2,hk,h=>by
  unfold AL at h⊢;split at h
  ·exact MonoF.seq (FE a _) (FE b _) T H K1 K2 hk h
  ·exact MonoF.seq (FE a _) (FE b _).cut T H K1 K2 hk h
 | .cond c a b,n,T,H,K1,K2,hk,h=>by
  unfold AL bB at h⊢;split at h
  ·rename_i t ht
   cases t with
   | true=>exact FE a _ T H K1 K2 hk h
   | false=>exact FE b _ T H K1 K2 hk h
  ·exact h.elim
 | .block id b,n,T,H,K1,K2,hk,h=>by
  unfold AL at h⊢;refine FE b _ T H _ _ ?_ h;intro e T' H' h';cases e with
  | exit j=>
   simp only[Be]at h'⊢;split at h'<;>exact hk _ _ _ h'
  | _=>exact hk _ _ _ h'
 | .loop b,n,T,H,K1,K2,hk,h=>by
  unfold AL at h⊢;split at h
  ·obtain⟨hl,⟨m,h⟩⟩:=Dd.1 h
   exact Dd.2 ⟨hl,⟨m,vX (FE b _) hk m _ _ h⟩⟩
  ·exact h.elim
 | .rangeFunc g ps a b,n,T,H,K1,K2,hk,h=>by
  unfold AL at h⊢;split at h
  ·split at h
   ·obtain⟨hl,h⟩:=Dd.1 h
    exact Dd.2 ⟨hl,⟨h.h.mono hk⟩⟩
   ·exact h.elim
  ·exact h.elim
 | .scope _,_,_,_,_,_,_,h=>h.elim
 | .goto _,_,_,_,_,_,_,h=>h.elim
 | .refuse _,_,_,_,_,_,_,h=>h.elim
end
end
section
section
variable {P : Program}
def Up (P:Program)(call:Fk)(ops:Array Oper):List Oper→List AV→AH→Option (List AV×AH)
 | [],T,H=>some (T,H)
 | o::l,T,H=>match BY ops T o with
  | none=>none
  | some false=>Up P call ops l (El T o.dst AO) H
  | some true=>match D4 P (BO T) H o with
   | some (r,H')=>Up P call ops l (El T o.dst r) H'
   | none=>match F1 (BO T) o with
    | some (f,args)=>if C3 P f then match call f args H with
      | some (r,H')=>Up P call ops l (El T o.dst r) H'
      | none=>none
     else none
    | none=>none
theorem SH {call:Fk}(hc:Hy P call){ops:Array Oper}:∀(l:List Oper) (T T':List AV) (H H':AH),Up P call ops l T H=some (T',H')→∀{Q:AQ},Q .normal T' H'→AOps P ops Q l T H
 | [],T,T',H,H',h,Q,hq=>by
  simp only[Up]at h;injection h with h;injection h with h1 h2;subst h1;subst h2;exact AOps.nil hq
 | o::l,T,T',H,H',h,Q,hq=>by
  unfold Up at h;split at h
  ·cases h
  ·rename_i hw
   exact AOps.unwanted hw (SH hc l _ _ _ _ h hq)
  ·rename_i hw
   split at h
   ·rename_i r H1 hop
    exact AOps.op hw hop (SH hc l _ _ _ _ h hq)
   ·split at h
    ·rename_i f args hcall
     split at h
     ·rename_i hgo
      split at h
      ·rename_i r H1 hcf
       refine AOps.call hw hcall hgo ((hc f args H r H1 hcf).mono ?_);rintro r' H'' ⟨rfl,rfl⟩;exact SH hc l _ _ _ _ h hq
      ·cases h
     ·cases h
    ·cases h
def UK (P:Program)(pl:FuncId→Bool)(pure:O2)(call:Fk):Nat→Code→List AV→AH→Option (Exit×List AV×AH)
 | 0,_,_,_=>none
 | n+1,c,T,H=>match c with
  | .skip=>some (.normal,T,H)
  | .label _=>some (.normal,T,H)
  | .ret=>some (.ret,T,H)
  | .exit id=>some (.exit id,T,H)
  | .region _ ops false=>(Up P call ops ops.toList T H).map λp=>(.normal,p.1,p.2)
  | .region _ ops true=>(cH P pl pure call ops.toList T H).map λp=>(.normal,p.1,p.2)
  | .seq a b=>match UK P pl pure call n a T H with
   | some (.normal,T',H')=>UK P pl pure call n b T' H'
   | r=>r
  | .cond x a b=>match BO T x with
   | .lit (.bool t)=>UK P pl pure call n (if t then a else b) T H
   | _=>none
  | .block id b=>match UK P pl pure call n b T H with
   | some (.exit id',T',H')=>if id'=id then some (.normal,T',H')else some (.exit id',T',H')
   | r=>r
  | .loop b=>match UK P pl pure call n b T H with
   | some (.normal,T',H')=>UK P pl pure call n (.loop b) T' H'
   | r=>r
  | _=>none
theorem uG {pl:FuncId→Bool}{pure:O2}(hp:O3 P pure){call:Fk}(hc:Hy P call):∀(n:Nat) (c:Code) (T:List AV) (H:AH) (r:Exit×List AV×AH),UK P pl pure call n c T H=some r→ACode P c (AQ.is r) T H:=by
 intro n
 induction n using Nat.strongRecOn with
 | _ n ih=>
 intro c T H r h;cases n with
 | zero=>simp[UK]at h
 | succ n=>
 unfold UK at h;split at h
 ·injection h with h;exact ACode.skip (by rw[← h];rfl)
 ·injection h with h;exact ACode.label (by rw[← h];rfl)
 ·injection h with h;exact ACode.ret (by rw[← h];rfl)
 ·injection h with h;exact ACode.exit (by rw[← h];rfl)
 ·obtain⟨⟨T',H'⟩,h1,rfl⟩:=Option.map_eq_some_iff.1 h
  exact ACode.region (SH hc _ _ _ _ _ h1 rfl)
 ·obtain⟨⟨T',H'⟩,h1,rfl⟩:=Option.map_eq_some_iff.1 h
  rename_i ops
  have:=Y9 hp hc (id:=0) h1 (Q:=AQ.is (.normal,T',H')) rfl
  have:=Y9 hp hc (id:=by assumption) h1 (Q:=AQ.is (.normal,T',H')) rfl
  simpa using this
 ·rename_i a b
  refine ACode.seq ?_;split at h
  ·rename_i T' H' h1
   refine(ih n (by omega) a T H _ h1).mono ?_;rintro e T1 H1 he;simp only[AQ.is,Ak5]at he;obtain⟨rfl,rfl,rfl⟩:=he;exact ih n (by omega) b _ _ r h
  ·rename_i hne
   refine(ih n (by omega) a T H r h).mono ?_;rintro e T1 H1 he;cases e with
   | normal=>
    simp only[AQ.is]at he;subst he;exact absurd h (hne T1 H1)
   | _=>exact he
 ·rename_i x a b
  split at h
  ·rename_i t ht
   exact ACode.cond ht (ih n (by omega) _ _ _ _ h)
  ·cases h
 ·rename_i id b
  refine ACode.block ?_;split at h
  ·rename_i id' T' H' h1
   refine(ih n (by omega) b T H _ h1).mono ?_;rintro e T1 H1 he;simp only[AQ.is,Ak5]at he;obtain⟨rfl,rfl,rfl⟩:=he;simp only[AQ.inBlock];split at h<;>(injection h with h;rename_i hid)
   ·rw[if_pos hid];exact h
   ·rw[if_neg hid];exact h
  ·rename_i hne
   refine(ih n (by omega) b T H r h).mono ?_;rintro e T1 H1 he;cases e with
   | exit id'=>
    simp only[AQ.is]at he;subst he;exact absurd h (hne id' T1 H1)
   | _=>exact he
 ·rename_i b
  refine ACode.loop (λm T1 H1=>m≤n+1∧UK P pl pure call m (.loop b) T1 H1=some r) (n+1) ⟨Ah3 _,?_⟩ ?_
  ·unfold UK;exact h
  ·rintro m T1 H1 ⟨hm,h1⟩
   cases m with
   | zero=>simp[UK]at h1
   | succ m=>
    unfold UK at h1;simp only at h1;split at h1
    ·rename_i T2 H2 h2
     refine(ih m (by omega) b T1 H1 _ h2).mono ?_;rintro e T3 H3 he;simp only[AQ.is,Ak5]at he;obtain⟨rfl,rfl,rfl⟩:=he;exact⟨m,by omega,by omega,h1⟩
    ·rename_i hne
     refine(ih m (by omega) b T1 H1 r h1).mono ?_;rintro e T3 H3 he;cases e with
     | normal=>
      simp only[AQ.is]at he;subst he;exact absurd h1 (hne T3 H3)
     | _=>exact he
 ·cases h
def jM (P:Program)(pl:FuncId→Bool)(call:Fk):O2:=λf args=>
 if pl f&&C3 P f&&Az args then match call f args []with
  | some (r,X)=>NC X 64 r
  | none=>none
 else none
theorem oF {pl:FuncId→Bool}{call:Fk}(hc:Hy P call):O3 P (jM P pl call):=by
 intro f args r h;unfold jM at h;split at h
 ·rename_i hb
  simp only[Ai4]at hb;split at h
  ·rename_i r0 X hr
   refine⟨hb.1.2,λH=>?_⟩;exact ACalls.pure (R':=λr'=>r'=r) (hc f args [] r0 X hr) (En hb.2) (λr1 X1 h1=>⟨64,r,by rw[h1.1,h1.2];exact h,rfl⟩) H
  ·cases h
 ·cases h
def Xy (P:Program)(pl:FuncId→Bool)(call:Fk)(fuel:Nat)(f:FuncId)(args:List AV)(H:AH):Option (AV×AH):=
 match P.funcs[f]? with
 | some fn=>match fn.body with
  | some c=>match UK P pl (jM P pl call) call fuel c (args++List.replicate (fn.ntmps - args.length) AO) H with
   | some (e,T,H')=>if Z8 e then(VG P H' T fn.results.toList).map λxs=>(ZE xs,H')else none
   | none=>none
  | none=>none
 | none=>none
theorem Y8 {pl:FuncId→Bool}{call:Fk}(hc:Hy P call){fuel:Nat}:Hy P (Xy P pl call fuel):=by
 intro f args H r H' h;unfold Xy at h;split at h
 ·rename_i fn hf
  split at h
  ·rename_i c hb
   split at h
   ·rename_i e T H1 he
    split at h
    ·rename_i ho
     obtain⟨xs,hxs,heq⟩:=Option.map_eq_some_iff.1 h;injection heq with h1 h2;subst h1;subst h2;refine ACalls.of_body hf hb ((uG (oF hc) hc fuel c _ H _ he).mono ?_);rintro e' T' H' hq;simp only[AQ.is,Ak5]at hq;obtain⟨rfl,rfl,rfl⟩:=hq;refine⟨?_,xs,hxs,rfl,rfl⟩
     revert ho
     cases e'<;>simp[Z8]
    ·cases h
   ·cases h
  ·cases h
 ·cases h
def run (P:Program)(ext:Fk)(pl ql:FuncId→Bool)(fuel:Nat):Nat→Fk
 | 0=>λ_ _ _=>none
 | n+1=>λf args H=>match ext f args H with
  | some r=>some r
  | none=>if pl f&&Az args then match Xy P ql (run P ext pl ql fuel n) fuel f args []with
    | some (r,X)=>(NC X 64 r).map (·,H)
    | none=>none
   else Xy P ql (run P ext pl ql fuel n) fuel f args H
theorem jU {ext:Fk}(hx:Hy P ext){fuel:Nat}{pl ql:FuncId→Bool}:∀n,Hy P (run P ext pl ql fuel n)
 | 0=>λf args H r H' h=>by cases h
 | n+1=>λf args H r H' h=>by
  unfold run at h;split at h
  ·rename_i q hq
   injection h with h;subst h;exact hx f args H r H' hq
  ·split at h
   ·rename_i hb
    simp only[Ai4]at hb;split at h
    ·rename_i r0 X hr
     obtain⟨r1,h1,h2⟩:=Option.map_eq_some_iff.1 h;injection h2 with h2 h3;subst h2;subst h3;exact ACalls.pure (R':=λr'=>r'=r1) (Y8 (jU hx n) f args [] r0 X hr) (En hb.2) (λr2 X2 h2=>⟨64,r1,by rw[h2.1,h2.2];exact h1,rfl⟩) H
    ·cases h
   ·exact Y8 (jU hx n) f args H r H' h
def Cfg.start (W:World):Cfg:={w:=W,n:=0,μ:=λ_=>(0,0,0),L:=λ_=>False,K:=λ_=>False}
theorem HR.start (W:World):HR (Cfg.start W) []:=⟨rfl,λo x h=>by simp at h,λo o' x x' h=>by simp at h,λo x h=>by simp at h,λb h=>h.elim (λh=>h.elim) (λh=>h.elim),λb h=>h.elim⟩
theorem Evo.below {G':Cfg}{W:World}(h:Evo (Cfg.start W) G'):Below W.heap.size W G'.w:=⟨h.os,h.tape,h.output,h.size,λk hk=>(h.keep k hk (λh=>h)).1⟩
theorem law_calls {f:FuncId}{args:List AV}(h:ACalls P f args [] λr _=>r=.lit (.bool true))(W:World){vs:List Value}(hv:VRs (Cfg.start W) args vs):
  Calls P f vs.toArray W λe W'=>e=.returned (.bool true)∧Below W.heap.size W W':=
 (h (Cfg.start W) vs (HR.start W) hv).mono fun e w' ⟨r,H',G',v,he,hw,hE,hx,_,hr⟩=>by
  subst hr;simp only[VR]at hx;subst hx;rw[← hw];exact⟨he,hE.below⟩
end
end
end Go.Proofs.YtadghlcfbajamaaGreat.Av
section
namespace Go.Proofs.YtadghlcfbajamaaGreat.Av
open Go Go.Proofs.Tryz
theorem own:ownKnob prog.godebug=none:=by kernel_rfl
theorem laidOut:laidOutB prog=true:=by kernel_rfl
def isTrue:Option (AV×AH)→Bool
 | some (.lit (.bool b),_)=>b
 | _=>false
theorem sK {P:Program}{ext:Fk}(hx:Hy P ext){pl ql:FuncId→Bool}{fuel n:Nat}{f:FuncId}{args:List AV}(h:isTrue (run P ext pl ql fuel n f args [])=true):ACalls P f args [] λr _=>r=.lit (.bool true):=by
 cases hr:run P ext pl ql fuel n f args []with
 | none=>rw[hr]at h;cases h
 | some q=>
  obtain⟨r,H⟩:=q;rw[hr]at h;refine(jU hx n f args [] r H hr).mono ?_;rintro r' H' ⟨rfl,rfl⟩;unfold isTrue at h;split at h
  ·rename_i he
   injection he with he;injection he with h1 h2;rw[h1,h]
  ·cases h
abbrev tT:=true
abbrev fF:=false
abbrev KT:=AV→AH→Prop
abbrev u0Z:AV:=.lit (.int .u8 0)
abbrev RT:=List AV→AH→Prop
def A8:Dh:=VT []
def B6:Nat→Option (List Bool):=CN []
abbrev Co (f:FuncId)(args:List AV)(H:AH)(K:KT):Prop:=∃r H',K r H'∧BCall prog f args H r H'
def wE (b:RT→AV→AV→AH→Prop)(L:AV→AV→AH→Prop):Prop:=∀(I:Nat→AV→AV→AH→Prop) (round:∀(n:Nat) (x0 x1:AV) (H:AH) (R:RT),(∀(m:Nat) (y0 y1:AV) (H':AH),m<n→I m y0 y1 H'→R [y0,y1] H')→I n x0 x1 H→b R x0 x1 H) (n:Nat) {x0 x1:AV} {H:AH} (h:I n x0 x1 H),L x0 x1 H
theorem nT {keep:List Bool}{body:List AV→AH→Kf→Prop}{K0:Kf}{b:RT→AV→AV→AH→Prop}(hb:One body)(he:∀(R:RT) (x0 x1:AV) (H:AH),body (Cj keep [x0,x1]) H (TO keep R K0)=b R x0 x1 H):wE b (λx0 x1 H=>lp keep body [x0,x1] H K0):=by
 intro I round n x0 x1 H h;refine Oi hb (LI2 I) ?_ n h;intro n X H h;obtain⟨x0,x1,rfl,h⟩:=h.elim;exact Eq.mpr (he _ x0 x1 H) (round n x0 x1 H (λX H'=>∃m,m<n∧LI2 I m X H') (λm y0 y1 H' hm hi=>⟨m,hm,hi⟩) h)
def oV (b:RT→AV→AV→AV→AH→Prop)(L:AV→AV→AV→AH→Prop):Prop:=∀(I:Nat→AV→AV→AV→AH→Prop) (round:∀(n:Nat) (x0 x1 x2:AV) (H:AH) (R:RT),(∀(m:Nat) (y0 y1 y2:AV) (H':AH),m<n→I m y0 y1 y2 H'→R [y0,y1,y2] H')→I n x0 x1 x2 H→b R x0 x1 x2 H) (n:Nat) {x0 x1 x2:AV} {H:AH} (h:I n x0 x1 x2 H),L x0 x1 x2 H
theorem Yw {keep:List Bool}{body:List AV→AH→Kf→Prop}{K0:Kf}{b:RT→AV→AV→AV→AH→Prop}(hb:One body)(he:∀(R:RT) (x0 x1 x2:AV) (H:AH),body (Cj keep [x0,x1,x2]) H (TO keep R K0)=b R x0 x1 x2 H):oV b (λx0 x1 x2 H=>lp keep body [x0,x1,x2] H K0):=by
 intro I round n x0 x1 x2 H h;refine Oi hb (LI3 I) ?_ n h;intro n X H h;obtain⟨x0,x1,x2,rfl,h⟩:=h.elim;exact Eq.mpr (he _ x0 x1 x2 H) (round n x0 x1 x2 H (λX H'=>∃m,m<n∧LI3 I m X H') (λm y0 y1 y2 H' hm hi=>⟨m,hm,hi⟩) h)
def dC (b:RT→AV→AV→AV→AV→AH→Prop)(L:AV→AV→AV→AV→AH→Prop):Prop:=∀(I:Nat→AV→AV→AV→AV→AH→Prop) (round:∀(n:Nat) (x0 x1 x2 x3:AV) (H:AH) (R:RT),(∀(m:Nat) (y0 y1 y2 y3:AV) (H':AH),m<n→I m y0 y1 y2 y3 H'→R [y0,y1,y2,y3] H')→I n x0 x1 x2 x3 H→b R x0 x1 x2 x3 H) (n:Nat) {x0 x1 x2 x3:AV} {H:AH} (h:I n x0 x1 x2 x3 H),L x0 x1 x2 x3 H
theorem Tb {keep:List Bool}{body:List AV→AH→Kf→Prop}{K0:Kf}{b:RT→AV→AV→AV→AV→AH→Prop}(hb:One body)(he:∀(R:RT) (x0 x1 x2 x3:AV) (H:AH),body (Cj keep [x0,x1,x2,x3]) H (TO keep R K0)=b R x0 x1 x2 x3 H):dC b (λx0 x1 x2 x3 H=>lp keep body [x0,x1,x2,x3] H K0):=by
 intro I round n x0 x1 x2 x3 H h;refine Oi hb (LI4 I) ?_ n h;intro n X H h;obtain⟨x0,x1,x2,x3,rfl,h⟩:=h.elim;exact Eq.mpr (he _ x0 x1 x2 x3 H) (round n x0 x1 x2 x3 H (λX H'=>∃m,m<n∧LI4 I m X H') (λm y0 y1 y2 y3 H' hm hi=>⟨m,hm,hi⟩) h)
def oW (b:RT→AV→AV→AV→AV→AV→AH→Prop)(L:AV→AV→AV→AV→AV→AH→Prop):Prop:=∀(I:Nat→AV→AV→AV→AV→AV→AH→Prop) (round:∀(n:Nat) (x0 x1 x2 x3 x4:AV) (H:AH) (R:RT),(∀(m:Nat) (y0 y1 y2 y3 y4:AV) (H':AH),m<n→I m y0 y1 y2 y3 y4 H'→R [y0,y1,y2,y3,y4] H')→I n x0 x1 x2 x3 x4 H→b R x0 x1 x2 x3 x4 H) (n:Nat) {x0 x1 x2 x3 x4:AV} {H:AH} (h:I n x0 x1 x2 x3 x4 H),L x0 x1 x2 x3 x4 H
theorem Yx {keep:List Bool}{body:List AV→AH→Kf→Prop}{K0:Kf}{b:RT→AV→AV→AV→AV→AV→AH→Prop}(hb:One body)(he:∀(R:RT) (x0 x1 x2 x3 x4:AV) (H:AH),body (Cj keep [x0,x1,x2,x3,x4]) H (TO keep R K0)=b R x0 x1 x2 x3 x4 H):oW b (λx0 x1 x2 x3 x4 H=>lp keep body [x0,x1,x2,x3,x4] H K0):=by
 intro I round n x0 x1 x2 x3 x4 H h;refine Oi hb (LI5 I) ?_ n h;intro n X H h;obtain⟨x0,x1,x2,x3,x4,rfl,h⟩:=h.elim;exact Eq.mpr (he _ x0 x1 x2 x3 x4 H) (round n x0 x1 x2 x3 x4 H (λX H'=>∃m,m<n∧LI5 I m X H') (λm y0 y1 y2 y3 y4 H' hm hi=>⟨m,hm,hi⟩) h)
def oX (b:RT→AV→AV→AV→AV→AV→AV→AH→Prop)(L:AV→AV→AV→AV→AV→AV→AH→Prop):Prop:=∀(I:Nat→AV→AV→AV→AV→AV→AV→AH→Prop) (round:∀(n:Nat) (x0 x1 x2 x3 x4 x5:AV) (H:AH) (R:RT),(∀(m:Nat) (y0 y1 y2 y3 y4 y5:AV) (H':AH),m<n→I m y0 y1 y2 y3 y4 y5 H'→R [y0,y1,y2,y3,y4,y5] H')→I n x0 x1 x2 x3 x4 x5 H→b R x0 x1 x2 x3 x4 x5 H) (n:Nat) {x0 x1 x2 x3 x4 x5:AV} {H:AH} (h:I n x0 x1 x2 x3 x4 x5 H),L x0 x1 x2 x3 x4 x5 H
theorem bM {keep:List Bool}{body:List AV→AH→Kf→Prop}{K0:Kf}{b:RT→AV→AV→AV→AV→AV→AV→AH→Prop}(hb:One body)(he:∀(R:RT) (x0 x1 x2 x3 x4 x5:AV) (H:AH),body (Cj keep [x0,x1,x2,x3,x4,x5]) H (TO keep R K0)=b R x0 x1 x2 x3 x4 x5 H):oX b (λx0 x1 x2 x3 x4 x5 H=>lp keep body [x0,x1,x2,x3,x4,x5] H K0):=by
 intro I round n x0 x1 x2 x3 x4 x5 H h;refine Oi hb (LI6 I) ?_ n h;intro n X H h;obtain⟨x0,x1,x2,x3,x4,x5,rfl,h⟩:=h.elim;exact Eq.mpr (he _ x0 x1 x2 x3 x4 x5 H) (round n x0 x1 x2 x3 x4 x5 H (λX H'=>∃m,m<n∧LI6 I m X H') (λm y0 y1 y2 y3 y4 y5 H' hm hi=>⟨m,hm,hi⟩) h)
theorem zdgfZ {keep:List Bool}{body:List AV→AH→Kf→Prop}{K0:Kf}{b:RT→AV→AV→AV→AV→AV→AV→AH→Prop}(hb:MonoF body)(he:∀(R:RT) (x0 x1 x2 x3 x4 x5:AV) (H:AH),body (Cj keep [x0,x1,x2,x3,x4,x5]) H (TO keep R K0)=b R x0 x1 x2 x3 x4 x5 H):oX b (λx0 x1 x2 x3 x4 x5 H=>lp keep body [x0,x1,x2,x3,x4,x5] H K0):=by
 intro I round n x0 x1 x2 x3 x4 x5 H h;refine uN hb (LI6 I) ?_ n h;intro n X H h;obtain⟨x0,x1,x2,x3,x4,x5,rfl,h⟩:=h.elim;exact Eq.mpr (he _ x0 x1 x2 x3 x4 x5 H) (round n x0 x1 x2 x3 x4 x5 H (λX H'=>∃m,m<n∧LI6 I m X H') (λm y0 y1 y2 y3 y4 y5 H' hm hi=>⟨m,hm,hi⟩) h)
def zdfeZ (b:RT→AV→AV→AV→AV→AV→AV→AV→AH→Prop)(L:AV→AV→AV→AV→AV→AV→AV→AH→Prop):Prop:=∀(I:Nat→AV→AV→AV→AV→AV→AV→AV→AH→Prop) (round:∀(n:Nat) (x0 x1 x2 x3 x4 x5 x6:AV) (H:AH) (R:RT),(∀(m:Nat) (y0 y1 y2 y3 y4 y5 y6:AV) (H':AH),m<n→I m y0 y1 y2 y3 y4 y5 y6 H'→R [y0,y1,y2,y3,y4,y5,y6] H')→I n x0 x1 x2 x3 x4 x5 x6 H→b R x0 x1 x2 x3 x4 x5 x6 H) (n:Nat) {x0 x1 x2 x3 x4 x5 x6:AV} {H:AH} (h:I n x0 x1 x2 x3 x4 x5 x6 H),L x0 x1 x2 x3 x4 x5 x6 H
theorem xR {keep:List Bool}{body:List AV→AH→Kf→Prop}{K0:Kf}{b:RT→AV→AV→AV→AV→AV→AV→AV→AH→Prop}(hb:One body)(he:∀(R:RT) (x0 x1 x2 x3 x4 x5 x6:AV) (H:AH),body (Cj keep [x0,x1,x2,x3,x4,x5,x6]) H (TO keep R K0)=b R x0 x1 x2 x3 x4 x5 x6 H):zdfeZ b (λx0 x1 x2 x3 x4 x5 x6 H=>lp keep body [x0,x1,x2,x3,x4,x5,x6] H K0):=by
 intro I round n x0 x1 x2 x3 x4 x5 x6 H h;refine Oi hb (LI7 I) ?_ n h;intro n X H h;obtain⟨x0,x1,x2,x3,x4,x5,x6,rfl,h⟩:=h.elim;exact Eq.mpr (he _ x0 x1 x2 x3 x4 x5 x6 H) (round n x0 x1 x2 x3 x4 x5 x6 H (λX H'=>∃m,m<n∧LI7 I m X H') (λm y0 y1 y2 y3 y4 y5 y6 H' hm hi=>⟨m,hm,hi⟩) h)
def RL8 (b:RT→AV→AV→AV→AV→AV→AV→AV→AV→AH→Prop)(L:AV→AV→AV→AV→AV→AV→AV→AV→AH→Prop):Prop:=∀(I:Nat→AV→AV→AV→AV→AV→AV→AV→AV→AH→Prop) (round:∀(n:Nat) (x0 x1 x2 x3 x4 x5 x6 x7:AV) (H:AH) (R:RT),(∀(m:Nat) (y0 y1 y2 y3 y4 y5 y6 y7:AV) (H':AH),m<n→I m y0 y1 y2 y3 y4 y5 y6 y7 H'→R [y0,y1,y2,y3,y4,y5,y6,y7] H')→I n x0 x1 x2 x3 x4 x5 x6 x7 H→b R x0 x1 x2 x3 x4 x5 x6 x7 H) (n:Nat) {x0 x1 x2 x3 x4 x5 x6 x7:AV} {H:AH} (h:I n x0 x1 x2 x3 x4 x5 x6 x7 H),L x0 x1 x2 x3 x4 x5 x6 x7 H
theorem zdggZ {keep:List Bool}{body:List AV→AH→Kf→Prop}{K0:Kf}{b:RT→AV→AV→AV→AV→AV→AV→AV→AV→AH→Prop}(hb:One body)(he:∀(R:RT) (x0 x1 x2 x3 x4 x5 x6 x7:AV) (H:AH),body (Cj keep [x0,x1,x2,x3,x4,x5,x6,x7]) H (TO keep R K0)=b R x0 x1 x2 x3 x4 x5 x6 x7 H):RL8 b (λx0 x1 x2 x3 x4 x5 x6 x7 H=>lp keep body [x0,x1,x2,x3,x4,x5,x6,x7] H K0):=by
 intro I round n x0 x1 x2 x3 x4 x5 x6 x7 H h;refine Oi hb (LI8 I) ?_ n h;intro n X H h;obtain⟨x0,x1,x2,x3,x4,x5,x6,x7,rfl,h⟩:=h.elim;exact Eq.mpr (he _ x0 x1 x2 x3 x4 x5 x6 x7 H) (round n x0 x1 x2 x3 x4 x5 x6 x7 H (λX H'=>∃m,m<n∧LI8 I m X H') (λm y0 y1 y2 y3 y4 y5 y6 y7 H' hm hi=>⟨m,hm,hi⟩) h)
def RL9 (b:RT→AV→AV→AV→AV→AV→AV→AV→AV→AV→AH→Prop)(L:AV→AV→AV→AV→AV→AV→AV→AV→AV→AH→Prop):Prop:=∀(I:Nat→AV→AV→AV→AV→AV→AV→AV→AV→AV→AH→Prop) (round:∀(n:Nat) (x0 x1 x2 x3 x4 x5 x6 x7 x8:AV) (H:AH) (R:RT),(∀(m:Nat) (y0 y1 y2 y3 y4 y5 y6 y7 y8:AV) (H':AH),m<n→I m y0 y1 y2 y3 y4 y5 y6 y7 y8 H'→R [y0,y1,y2,y3,y4,y5,y6,y7,y8] H')→I n x0 x1 x2 x3 x4 x5 x6 x7 x8 H→b R x0 x1 x2 x3 x4 x5 x6 x7 x8 H) (n:Nat) {x0 x1 x2 x3 x4 x5 x6 x7 x8:AV} {H:AH} (h:I n x0 x1 x2 x3 x4 x5 x6 x7 x8 H),L x0 x1 x2 x3 x4 x5 x6 x7 x8 H
theorem zdghZ {keep:List Bool}{body:List AV→AH→Kf→Prop}{K0:Kf}{b:RT→AV→AV→AV→AV→AV→AV→AV→AV→AV→AH→Prop}(hb:One body)(he:∀(R:RT) (x0 x1 x2 x3 x4 x5 x6 x7 x8:AV) (H:AH),body (Cj keep [x0,x1,x2,x3,x4,x5,x6,x7,x8]) H (TO keep R K0)=b R x0 x1 x2 x3 x4 x5 x6 x7 x8 H):RL9 b (λx0 x1 x2 x3 x4 x5 x6 x7 x8 H=>lp keep body [x0,x1,x2,x3,x4,x5,x6,x7,x8] H K0):=by
 intro I round n x0 x1 x2 x3 x4 x5 x6 x7 x8 H h;refine Oi hb (LI9 I) ?_ n h;intro n X H h;obtain⟨x0,x1,x2,x3,x4,x5,x6,x7,x8,rfl,h⟩:=h.elim;exact Eq.mpr (he _ x0 x1 x2 x3 x4 x5 x6 x7 x8 H) (round n x0 x1 x2 x3 x4 x5 x6 x7 x8 H (λX H'=>∃m,m<n∧LI9 I m X H') (λm y0 y1 y2 y3 y4 y5 y6 y7 y8 H' hm hi=>⟨m,hm,hi⟩) h)
def FK:FuncId→Bool:=gU [35,129,131,101,90,118,63,130,132,122,36,68,104,103,105,124,125,126,86,87,142,152,153,141,121,93,123,158,160,138,174,136,173,69,172,119,171,190,199]
def zdgkZ:FuncId→Bool:=gU [176]
theorem Zk:prog.follows .mixedOrders=true:=by kernel_rfl
theorem fok (fl:Dh)(ql:FuncId→Bool)(kp:Nat→Option (List Bool)){f:FuncId}{fn:Func}{args:List AV}{H:AH}{K:KT}{X:Prop}(hf:prog.funcs[f]?=some fn)(h:X)(hc:aP fl ql fn=true:=by kernel_rfl)(he:Xm prog fl ql A1 A1 kp fn args H K=X:=by kernel_rfl):Co f args H K:=mB Zk hf hc (Eq.mpr he h)
def Qu:Nat→Option (List Bool):=CN [(10,mk 75 0 [1,2,3,6,33,34,35])]
def RI (p:List Bool)(n:Nat):List AV→AH→Kf→Prop:=AL prog A8 FK A1 A1 Qu (sub p (AP f35)) n
def Ph (x1 x2 x3 x6 x33 x34 x35:AV)(H:AH)(K:KT):Prop:=lp (mk 75 0 [1,2,3,6,33,34,35]) (RI [tT,tT,tT,tT,fF,tT,fF,fF] 11) [x1,x2,x3,x6,x33,x34,x35] H (Be 0 (Bb (RI [tT,tT,tT,tT,tT] 17) (Ba prog f35.results.toList K)))
def M0 (R10:RT)(x1 x2 x3 x6 x33 x34 x35:AV)(H:AH)(K:KT):Prop:=
 bO (Ar .lss x35 x34) λv0=>
 bB v0 λt1=>bI t1 (
 bO (Bq 2 x33 x35) λv2=>
 bO (Am true 2 H v2) λv3=>
 bH (A9 H (.agg [(I 0),(I 0)])) λv4 H5=>
 bS (AJ 2 H5 v4 v3) λH6=>
 bO (Aa 0 v4) λv7=>
 bO (Am false 1 H6 v7) λv8=>
 bO (Ar .quo v8 (I 8)) λv9=>
 bC (BCall prog 92 [x3,v9] H6) λv10 H11=>
 bO (Aa 1 x3) λv12=>
 bO (Am false 1 H11 v12) λv13=>
 bO (Bq 9 v13 v10) λv14=>
 bO (Aa 1 v14) λv15=>
 bO (Aa 0 v4) λv16=>
 bO (Am false 1 H11 v16) λv17=>
 bO (Ar .mul v9 (I 8)) λv18=>
 bO (Ar .sub v17 v18) λv19=>
 bO (YU 8 1 H11 v15 (some v19) none) λv20=>
 bO (Aa 0 v4) λv21=>
 bO (Am false 1 H11 v21) λv22=>
 bO (Ar .sub v22 x1) λv23=>
 bO (Bj 1 x2 (some v23) none none) λv24=>
 bO (Aa 1 v4) λv25=>
 bO (Am false 1 H11 v25) λv26=>
 bO (Bj 1 v24 none (some v26) none) λv27=>
 bH (SR 1 H11 v20 v27) λv28 H29=>
 bO (Ar .add x35 (I 1)) λv30=>
 R10 [x1,x2,x3,x6,x33,x34,v30] H29)
 (bO (Aa 0 x3) λv31=>
 bO (Am false 1 H v31) λv32=>
 bO (AY x2) λv33=>
 bO (Ar .add x1 v33) λv34=>
 bO (amm Wb [v32,v34]) λv35=>
 bO (Aa 0 x3) λv36=>
 bS (AJ 1 H v36 v35) λH37=>
 bO (Am true 2 H37 x3) λv38=>
 bS (AJ 2 H37 x6 v38) λH39=>
 bO (Am true 2 H39 x6) λv40=>
 K (.tup [v40,(B true)]) H39)
theorem QG {K:KT}:zdfeZ (λR x1 x2 x3 x6 x33 x34 x35 H=>M0 R x1 x2 x3 x6 x33 x34 x35 H K) (λx1 x2 x3 x6 x33 x34 x35 H=>Ph x1 x2 x3 x6 x33 x34 x35 H K):=xR (A2 _ _) (λ_ _ _ _ _ _ _ _ _=>by kernel_rfl)
def UO (a0 a1 a2:AV)(H:AH)(K:KT):Prop:=
 bH (A9 H a0) λv0 H1=>
 bH (A9 H1 (.agg [(I 0),Ac])) λv2 H3=>
 bO (Am true 2 H3 v0) λv4=>
 bP (PCall prog 90 [v4] H3) λv5=>
 bO (E6 .not v5) λv6=>
 bG v6 false λw7=>
 gO w7 (some a1) λv8=>
 bG v6 false λw9=>
 gO w9 (some a2) λv10=>
 bG v6 false λw11=>
 gO w11 (AY v10) λv12=>
 bG v6 false λw13=>
 gP w13 (PCall prog 86 [v8,v12] H3) λv14=>
 bG v6 false λw15=>
 gO w15 (E6 .not v14) λv16=>
 bO (Ay v6 (B true) v16) λv17=>
 bB v17 λt18=>bI t18 (
 bO (E5 [(I 0),Ac] []) λv19=>
 bS (AJ 2 H3 v2 v19) λH20=>
 bO (Am true 2 H20 v2) λv21=>
 K (.tup [v21,(B false)]) H20)
 (bO (Am true 2 H3 v0) λv22=>
 bC (BCall prog 91 [v22] H3) λv23 H24=>
 bS (AJ 2 H24 v0 v23) λH25=>
 bO (AY a2) λv26=>
 bO (Ar .eql v26 (I 0)) λv27=>
 bB v27 λt28=>bI t28 (
 bO (Am true 2 H25 v0) λv29=>
 bS (AJ 2 H25 v2 v29) λH30=>
 bO (Am true 2 H30 v2) λv31=>
 K (.tup [v31,(B true)]) H30)
 (bO (AY a2) λv32=>
 bO (E5 [(I 0),(I 0)] [(0,1,a1),(1,1,v32)]) λv33=>
 bP (PCall prog 87 [v33,(I 8)] H25) λv34=>
 bO (AY v34) λv35=>
 Ph a1 a2 v0 v2 v34 v35 (I 0) H25 K))
theorem WW {a0 a1 a2:AV}{H:AH}{K:KT}(h:UO a0 a1 a2 H K):Co 35 [a0,a1,a2] H K:=
 fok A8 FK Qu func35 h
def Ru:Nat→Option (List Bool):=CN [(6,mk 39 0 [1,2,17,18,19])]
def T6 (p:List Bool)(n:Nat):List AV→AH→Kf→Prop:=AL prog A8 FK A1 A1 Ru (sub p (AP f129)) n
def Rt (x1 x2 x17 x18 x19:AV)(H:AH)(K:KT):Prop:=lp (mk 39 0 [1,2,17,18,19]) (T6 [tT,tT,fF,tT,fF,fF] 7) [x1,x2,x17,x18,x19] H (Be 0 (Bb (T6 [tT,tT,tT] 14) (Ba prog f129.results.toList K)))
def Pd (R6:RT)(x1 x2 x17 x18 x19:AV)(H:AH)(K:KT):Prop:=
 bO (Ar .lss x19 x18) λv0=>
 bB v0 λt1=>bI t1 (
 bO (Bq 9 x17 x19) λv2=>
 bO (Am true 9 H v2) λv3=>
 bH (A9 H (.agg [(I 0),u0Z,u0Z,u0Z,u0Z,u0Z,u0Z,u0Z,u0Z])) λv4 H5=>
 bS (AJ 9 H5 v4 v3) λH6=>
 bO (Aa 0 v4) λv7=>
 bO (Am false 1 H6 v7) λv8=>
 bO (Ar .mul v8 (I 8)) λv9=>
 bO (amm Wb [x1,v9]) λv10=>
 bO (Aa 0 x2) λv11=>
 bO (Am false 1 H6 v11) λv12=>
 bO (Aa 0 v4) λv13=>
 bO (Am false 1 H6 v13) λv14=>
 bO (Ar .add v14 (I 1)) λv15=>
 bO (Ar .mul v15 (I 8)) λv16=>
 bO (amm cZ [v12,v16]) λv17=>
 bO (Ar .lss v10 v17) λv18=>
 bB v18 λt19=>bI t19 (
 K (.tup [v10,(B true)]) H6)
 (bO (Ar .add x19 (I 1)) λv20=>
 R6 [x1,x2,x17,x18,v20] H6))
 (K (.tup [(I 0),(B false)]) H)
theorem ST {K:KT}:oW (λR x1 x2 x17 x18 x19 H=>Pd R x1 x2 x17 x18 x19 H K) (λx1 x2 x17 x18 x19 H=>Rt x1 x2 x17 x18 x19 H K):=Yx (A2 _ _) (λ_ _ _ _ _ _ _=>by kernel_rfl)
def W1 (a0 a1:AV)(H:AH)(K:KT):Prop:=
 bH (A9 H a0) λv0 H1=>
 bO (Am true 2 H1 v0) λv2=>
 bP (PCall prog 90 [v2] H1) λv3=>
 bO (E6 .not v3) λv4=>
 bG v4 false λw5=>
 gO w5 (some a1) λv6=>
 bG v4 false λw7=>
 gO w7 (Ar .lss v6 (I 0)) λv8=>
 bO (Ay v4 (B true) v8) λv9=>
 bB v9 λt10=>bI t10 (
 K (.tup [(I 0),(B false)]) H1)
 (bO (Aa 1 v0) λv11=>
 bO (Am false 1 H1 v11) λv12=>
 bO (AY v12) λv13=>
 Rt a1 v0 v12 v13 (I 0) H1 K)
theorem XQ {a0 a1:AV}{H:AH}{K:KT}(h:W1 a0 a1 H K):Co 129 [a0,a1] H K:=
 fok A8 FK Ru func129 h
def Rx:Nat→Option (List Bool):=CN [(6,mk 44 0 [2,6])]
def T8 (p:List Bool)(n:Nat):List AV→AH→Kf→Prop:=AL prog A8 FK A1 A1 Rx (sub p (AP f131)) n
def Rw (x2 x6:AV)(H:AH)(K:KT):Prop:=lp (mk 44 0 [2,6]) (T8 [tT,tT,fF,tT,fF,fF] 7) [x2,x6] H (Be 0 (Bb (T8 [tT,tT,tT] 13) (Ba prog f131.results.toList K)))
def Pe (R6:RT)(x2 x6:AV)(H:AH)(K:KT):Prop:=
 bO (Aa 0 x2) λv0=>
 bO (Am false 1 H v0) λv1=>
 bO (Ar .lss x6 v1) λv2=>
 bB v2 λt3=>bI t3 (
 bO (Aa 1 x2) λv4=>
 bO (Am false 1 H v4) λv5=>
 bO (Ar .quo x6 (I 8)) λv6=>
 bP (PCall prog 142 [v5,v6] H) λv7=>
 bO (Ai v7 0) λv8=>
 bO (Ai v7 1) λv9=>
 bO (E6 .not v9) λv10=>
 bB v10 λt11=>bI t11 (
 K (.tup [x6,(B true)]) H)
 (bO (Ar .quo x6 (I 8)) λv12=>
 bO (Ar .add v12 (I 1)) λv13=>
 bO (Ar .mul v13 (I 8)) λv14=>
 R6 [x2,v14] H))
 (bO (Aa 0 x2) λv15=>
 bO (Am false 1 H v15) λv16=>
 K (.tup [v16,(B true)]) H)
theorem SU {K:KT}:wE (λR x2 x6 H=>Pe R x2 x6 H K) (λx2 x6 H=>Rw x2 x6 H K):=nT (A2 _ _) (λ_ _ _ _=>by kernel_rfl)
def W3 (a0 a1:AV)(H:AH)(K:KT):Prop:=
 bH (A9 H a0) λv0 H1=>
 bO (Am true 2 H1 v0) λv2=>
 bP (PCall prog 90 [v2] H1) λv3=>
 bO (E6 .not v3) λv4=>
 bG v4 false λw5=>
 gO w5 (some a1) λv6=>
 bG v4 false λw7=>
 gO w7 (Ar .lss v6 (I 0)) λv8=>
 bO (Ay v4 (B true) v8) λv9=>
 bG v9 false λw10=>
 gO w10 (some a1) λv11=>
 bG v9 false λw12=>
 gO w12 (Aa 0 v0) λv13=>
 bG v9 false λw14=>
 gO w14 (Am false 1 H1 v13) λv15=>
 bG v9 false λw16=>
 gO w16 (Ar .geq v11 v15) λv17=>
 bO (Ay v9 (B true) v17) λv18=>
 bB v18 λt19=>bI t19 (
 K (.tup [(I 0),(B false)]) H1)
 (Rw v0 a1 H1 K)
theorem XT {a0 a1:AV}{H:AH}{K:KT}(h:W3 a0 a1 H K):Co 131 [a0,a1] H K:=
 fok A8 FK Rx func131 h
def RF:Nat→Option (List Bool):=CN [(11,mk 77 0 [1,2,7,41,42,43]),(8,mk 77 0 [1,2,7,41,42,43])]
def Kz (p:List Bool)(n:Nat):List AV→AH→Kf→Prop:=AL prog A8 FK A1 A1 RF (sub p (AP f101)) n
def Ip (R8:RT)(x1 x2 x7 x41 x42 x43:AV)(H:AH)(K:KT):Prop:=jn (mk 77 0 [1,2,7,41,42,43]) (Kz [tT,tT,tT,tT,fF,tT,fF,fF,tT,tT,tT] 15) [x1,x2,x7,x41,x42,x43] H (TO (mk 77 0 [1,2,7,41,42,43]) R8 (Be 0 (Bb (Kz [tT,tT,tT,tT,tT] 15) (Ba prog f101.results.toList K))))
def RE (x1 x2 x7 x41 x42 x43:AV)(H:AH)(K:KT):Prop:=lp (mk 77 0 [1,2,7,41,42,43]) (Kz [tT,tT,tT,tT,fF,tT,fF,fF] 9) [x1,x2,x7,x41,x42,x43] H (Be 0 (Bb (Kz [tT,tT,tT,tT,tT] 15) (Ba prog f101.results.toList K)))
def NW (R8:RT)(x1 x2 x7 x41 x42 x43:AV)(H:AH)(K:KT):Prop:=
 bO (Ar .add x43 (I 1)) λv0=>
 R8 [x1,x2,x7,x41,x42,v0] H
theorem Ub (R8:RT)(x1 x2 x7 x41 x42 x43:AV)(H:AH)(K:KT):Ip R8 x1 x2 x7 x41 x42 x43 H K=NW R8 x1 x2 x7 x41 x42 x43 H K:=(B3 _ _ _ _ _).trans (by kernel_rfl)
def Pf (R8:RT)(x1 x2 x7 x41 x42 x43:AV)(H:AH)(K:KT):Prop:=
 bO (Ar .lss x43 x42) λv0=>
 bB v0 λt1=>bI t1 (
 bO (Bq 9 x41 x43) λv2=>
 bO (Am true 9 H v2) λv3=>
 bH (A9 H (.agg [(I 0),u0Z,u0Z,u0Z,u0Z,u0Z,u0Z,u0Z,u0Z])) λv4 H5=>
 bS (AJ 9 H5 v4 v3) λH6=>
 bO (Aa 0 v4) λv7=>
 bO (Am false 1 H6 v7) λv8=>
 bP (PCall prog 153 [v8] H6) λv9=>
 bO (E5 [(I 0),(I 0)] [(0,1,x1),(1,1,x2)]) λv10=>
 bP (PCall prog 152 [v9,v10] H6) λv11=>
 bH (A9 H6 (.agg [(I 0),(I 0)])) λv12 H13=>
 bS (AJ 2 H13 v12 v11) λH14=>
 bO (Aa 1 v12) λv15=>
 bO (Am false 1 H14 v15) λv16=>
 bO (Ar .gtr v16 (I 0)) λv17=>
 bB v17 λt18=>bI t18 (
 bO (Aa 0 v12) λv19=>
 bO (Am false 1 H14 v19) λv20=>
 bO (Ar .sub v20 x1) λv21=>
 bO (Bj 1 x7 (some v21) none none) λv22=>
 bO (Aa 1 v4) λv23=>
 bO (Aa 0 v12) λv24=>
 bO (Am false 1 H14 v24) λv25=>
 bO (Aa 0 v4) λv26=>
 bO (Am false 1 H14 v26) λv27=>
 bO (Ar .mul v27 (I 8)) λv28=>
 bO (Ar .sub v25 v28) λv29=>
 bO (YU 8 1 H14 v23 (some v29) none) λv30=>
 bO (Aa 1 v12) λv31=>
 bO (Am false 1 H14 v31) λv32=>
 bO (Bj 1 v30 none (some v32) none) λv33=>
 bH (SR 1 H14 v22 v33) λv34 H35=>
 Ip R8 x1 x2 x7 x41 x42 x43 H35 K)
 (Ip R8 x1 x2 x7 x41 x42 x43 H14 K))
 (K x7 H)
theorem SX {K:KT}:oX (λR x1 x2 x7 x41 x42 x43 H=>Pf R x1 x2 x7 x41 x42 x43 H K) (λx1 x2 x7 x41 x42 x43 H=>RE x1 x2 x7 x41 x42 x43 H K):=bM (A2 _ _) (λ_ _ _ _ _ _ _ _=>by kernel_rfl)
def W4 (a0 a1 a2:AV)(H:AH)(K:KT):Prop:=
 bH (A9 H a0) λv0 H1=>
 bO (Am true 2 H1 v0) λv2=>
 bP (PCall prog 90 [v2] H1) λv3=>
 bO (E6 .not v3) λv4=>
 bG v4 false λw5=>
 gO w5 (some a1) λv6=>
 bG v4 false λw7=>
 gO w7 (Ar .lss v6 (I 0)) λv8=>
 bO (Ay v4 (B true) v8) λv9=>
 bG v9 false λw10=>
 gO w10 (some a2) λv11=>
 bG v9 false λw12=>
 gO w12 (Ar .lss v11 (I 0)) λv13=>
 bO (Ay v9 (B true) v13) λv14=>
 bG v14 false λw15=>
 gO w15 (some a2) λv16=>
 bG v14 false λw17=>
 gO w17 (Ar .gtr v16 (I 4096)) λv18=>
 bO (Ay v14 (B true) v18) λv19=>
 bG v19 false λw20=>
 gO w20 (some a1) λv21=>
 bG v19 false λw22=>
 gO w22 (Aa 0 v0) λv23=>
 bG v19 false λw24=>
 gO w24 (Am false 1 H1 v23) λv25=>
 bG v19 false λw26=>
 gO w26 (Ar .geq v21 v25) λv27=>
 bO (Ay v19 (B true) v27) λv28=>
 bB v28 λt29=>bI t29 (
 K Ac H1)
 (bO (Aa 0 v0) λv30=>
 bO (Am false 1 H1 v30) λv31=>
 bO (Ar .sub v31 a1) λv32=>
 bO (amm cZ [a2,v32]) λv33=>
 bH (wQ 1 1 [u0Z] H1 v33 v33) λv34 H35=>
 bO (Aa 1 v0) λv36=>
 bO (Am false 1 H35 v36) λv37=>
 bO (AY v37) λv38=>
 RE a1 v33 v34 v37 v38 (I 0) H35 K)
theorem XV {a0 a1 a2:AV}{H:AH}{K:KT}(h:W4 a0 a1 a2 H K):Co 101 [a0,a1,a2] H K:=
 fok A8 FK RF func101 h
def TA:Nat→Option (List Bool):=CN [(7,mk 40 0 [1,3,15,16,17])]
def UL (p:List Bool)(n:Nat):List AV→AH→Kf→Prop:=AL prog A8 FK A1 A1 TA (sub p (AP f90)) n
def T9 (x1 x3 x15 x16 x17:AV)(H:AH)(K:KT):Prop:=lp (mk 40 0 [1,3,15,16,17]) (UL [tT,tT,tT,fF,tT,fF,fF] 8) [x1,x3,x15,x16,x17] H (Be 0 (Bb (UL [tT,tT,tT,tT] 15) (Ba prog f90.results.toList K)))
def Qq (R7:RT)(x1 x3 x15 x16 x17:AV)(H:AH)(K:KT):Prop:=
 bO (Ar .lss x17 x16) λv0=>
 bB v0 λt1=>bI t1 (
 bO (Bq 9 x15 x17) λv2=>
 bO (Am true 9 H v2) λv3=>
 bH (A9 H (.agg [(I 0),u0Z,u0Z,u0Z,u0Z,u0Z,u0Z,u0Z,u0Z])) λv4 H5=>
 bS (AJ 9 H5 v4 v3) λH6=>
 bO (Aa 0 v4) λv7=>
 bO (Am false 1 H6 v7) λv8=>
 bO (Ar .leq v8 x3) λv9=>
 bG v9 false λw10=>
 gO w10 (Aa 0 v4) λv11=>
 bG v9 false λw12=>
 gO w12 (Am false 1 H6 v11) λv13=>
 bG v9 false λw14=>
 gO w14 (Ar .geq v13 (I 137438953472)) λv15=>
 bO (Ay v9 (B true) v15) λv16=>
 bG v16 false λw17=>
 gO w17 (Am true 9 H6 v4) λv18=>
 bG v16 false λw19=>
 gO w19 (Aa 0 x1) λv20=>
 bG v16 false λw21=>
 gO w21 (Am false 1 H6 v20) λv22=>
 bG v16 false λw23=>
 gP w23 (PCall prog 141 [v18,v22] H6) λv24=>
 bG v16 false λw25=>
 gO w25 (E6 .not v24) λv26=>
 bO (Ay v16 (B true) v26) λv27=>
 bB v27 λt28=>bI t28 (
 K (B false) H6)
 (bO (Aa 0 v4) λv29=>
 bO (Am false 1 H6 v29) λv30=>
 bO (Ar .add x17 (I 1)) λv31=>
 R7 [x1,v30,x15,x16,v31] H6))
 (K (B true) H)
theorem Ua {K:KT}:oW (λR x1 x3 x15 x16 x17 H=>Qq R x1 x3 x15 x16 x17 H K) (λx1 x3 x15 x16 x17 H=>T9 x1 x3 x15 x16 x17 H K):=Yx (A2 _ _) (λ_ _ _ _ _ _ _=>by kernel_rfl)
def XU (a0:AV)(H:AH)(K:KT):Prop:=
 bH (A9 H a0) λv0 H1=>
 bO (Aa 0 v0) λv2=>
 bO (Am false 1 H1 v2) λv3=>
 bO (Ar .lss v3 (I 0)) λv4=>
 bG v4 false λw5=>
 gO w5 (Aa 0 v0) λv6=>
 bG v4 false λw7=>
 gO w7 (Am false 1 H1 v6) λv8=>
 bG v4 false λw9=>
 gO w9 (Ar .gtr v8 (I 1099511627776)) λv10=>
 bO (Ay v4 (B true) v10) λv11=>
 bB v11 λt12=>bI t12 (
 K (B false) H1)
 (bO (Aa 1 v0) λv13=>
 bO (Am false 1 H1 v13) λv14=>
 bO (AY v14) λv15=>
 T9 v0 (I (-1)) v14 v15 (I 0) H1 K)
theorem YY {a0:AV}{H:AH}{K:KT}(h:XU a0 H K):Co 90 [a0] H K:=
 fok A8 FK TA func90 h
def Gv:Nat→Option (List Bool):=CN [(12,mk 69 0 [3,6]),(7,mk 69 0 [1,2,3,6,8])]
def Ev (p:List Bool)(n:Nat):List AV→AH→Kf→Prop:=AL prog A8 FK A1 A1 Gv (sub p (AP f118)) n
def CR (x3 x6:AV)(H:AH)(K:KT):Prop:=jn (mk 69 0 [3,6]) (Ev [tT,tT,tT,tT,tT] 14) [x3,x6] H (Ba prog f118.results.toList K)
def Gu (x1 x2 x3 x6 x8:AV)(H:AH)(K:KT):Prop:=lp (mk 69 0 [1,2,3,6,8]) (Ev [tT,tT,tT,fF,tT,fF,fF] 8) [x1,x2,x3,x6,x8] H (Be 0 (Bb (Ev [tT,tT,tT,tT] 12) (Ba prog f118.results.toList K)))
def Fy (x3 x6:AV)(H:AH)(K:KT):Prop:=
 bO (Am true 2 H x3) λv0=>
 bS (AJ 2 H x6 v0) λH1=>
 bO (Am true 2 H1 x6) λv2=>
 K (.tup [v2,(B true)]) H1
theorem JM (x3 x6:AV)(H:AH)(K:KT):CR x3 x6 H K=Fy x3 x6 H K:=(B3 _ _ _ _ _).trans (by kernel_rfl)
def F9 (R7:RT)(x1 x2 x3 x6 x8:AV)(H:AH)(K:KT):Prop:=
 bO (AY x2) λv0=>
 bO (Ar .lss x8 v0) λv1=>
 bB v1 λt2=>bI t2 (
 bO (Ar .add x1 x8) λv3=>
 bO (Ar .quo v3 (I 8)) λv4=>
 bC (BCall prog 170 [x3,v4] H) λv5 H6=>
 bO (Aa 1 x3) λv7=>
 bO (Am false 1 H6 v7) λv8=>
 bO (Ar .add x1 x8) λv9=>
 bO (Ar .rem v9 (I 8)) λv10=>
 bO (Bq 1 x2 x8) λv11=>
 bO (Am false 1 H6 v11) λv12=>
 bO (Bq 9 v8 v5) λv13=>
 bO (Aa 1 v13) λv14=>
 bO (QE 8 1 v14 v10) λv15=>
 bS (AJ 1 H6 v15 v12) λH16=>
 bO (Ar .add x8 (I 1)) λv17=>
 R7 [x1,x2,x3,x6,v17] H16)
 (bO (AY x2) λv18=>
 bO (Ar .gtr v18 (I 0)) λv19=>
 bB v19 λt20=>bI t20 (
 bO (Aa 0 x3) λv21=>
 bO (Am false 1 H v21) λv22=>
 bO (AY x2) λv23=>
 bO (Ar .add x1 v23) λv24=>
 bO (amm Wb [v22,v24]) λv25=>
 bO (Aa 0 x3) λv26=>
 bS (AJ 1 H v26 v25) λH27=>
 CR x3 x6 H27 K)
 (CR x3 x6 H K))
theorem J3 {K:KT}:oW (λR x1 x2 x3 x6 x8 H=>F9 R x1 x2 x3 x6 x8 H K) (λx1 x2 x3 x6 x8 H=>Gu x1 x2 x3 x6 x8 H K):=Yx (A2 _ _) (λ_ _ _ _ _ _ _=>by kernel_rfl)
def Ib (a0 a1 a2:AV)(H:AH)(K:KT):Prop:=
 bH (A9 H a0) λv0 H1=>
 bH (A9 H1 (.agg [(I 0),Ac])) λv2 H3=>
 bO (Am true 2 H3 v0) λv4=>
 bP (PCall prog 122 [v4] H3) λv5=>
 bO (E6 .not v5) λv6=>
 bG v6 false λw7=>
 gO w7 (some a1) λv8=>
 bG v6 false λw9=>
 gO w9 (Ar .lss v8 (I 0)) λv10=>
 bO (Ay v6 (B true) v10) λv11=>
 bG v11 false λw12=>
 gO w12 (some a2) λv13=>
 bG v11 false λw14=>
 gO w14 (AY v13) λv15=>
 bG v11 false λw16=>
 gO w16 (Ar .gtr v15 (I 4096)) λv17=>
 bO (Ay v11 (B true) v17) λv18=>
 bG v18 false λw19=>
 gO w19 (some a1) λv20=>
 bG v18 false λw21=>
 gO w21 (some a2) λv22=>
 bG v18 false λw23=>
 gO w23 (AY v22) λv24=>
 bG v18 false λw25=>
 gO w25 (Ar .sub (I 1099511627776) v24) λv26=>
 bG v18 false λw27=>
 gO w27 (Ar .gtr v20 v26) λv28=>
 bO (Ay v18 (B true) v28) λv29=>
 bB v29 λt30=>bI t30 (
 bO (E5 [(I 0),Ac] []) λv31=>
 bS (AJ 2 H3 v2 v31) λH32=>
 bO (Am true 2 H32 v2) λv33=>
 K (.tup [v33,(B false)]) H32)
 (bO (Am true 2 H3 v0) λv34=>
 bC (BCall prog 169 [v34] H3) λv35 H36=>
 bS (AJ 2 H36 v0 v35) λH37=>
 Gu a1 a2 v0 v2 (I 0) H37 K)
theorem Ml {a0 a1 a2:AV}{H:AH}{K:KT}(h:Ib a0 a1 a2 H K):Co 118 [a0,a1,a2] H K:=
 fok A8 FK Gv func118 h
def GJ:Nat→Option (List Bool):=CN [(6,mk 48 0 [1,2,6])]
def Hj (p:List Bool)(n:Nat):List AV→AH→Kf→Prop:=AL prog A8 FK A1 A1 GJ (sub p (AP f130)) n
def GI (x1 x2 x6:AV)(H:AH)(K:KT):Prop:=lp (mk 48 0 [1,2,6]) (Hj [tT,tT,fF,tT,fF,fF] 7) [x1,x2,x6] H (Be 0 (Bb (Hj [tT,tT,tT] 13) (Ba prog f130.results.toList K)))
def FP (R6:RT)(x1 x2 x6:AV)(H:AH)(K:KT):Prop:=
 bO (Aa 1 x2) λv0=>
 bO (Am false 1 H v0) λv1=>
 bO (AY v1) λv2=>
 bO (Ar .lss x6 v2) λv3=>
 bB v3 λt4=>bI t4 (
 bO (Aa 1 x2) λv5=>
 bO (Am false 1 H v5) λv6=>
 bO (Bq 9 v6 x6) λv7=>
 bO (Aa 0 v7) λv8=>
 bO (Am false 1 H v8) λv9=>
 bO (Ar .mul v9 (I 8)) λv10=>
 bO (amm Wb [v10,x1]) λv11=>
 bO (Aa 1 x2) λv12=>
 bO (Am false 1 H v12) λv13=>
 bO (Bq 9 v13 x6) λv14=>
 bO (Aa 0 v14) λv15=>
 bO (Am false 1 H v15) λv16=>
 bO (Ar .add v16 (I 1)) λv17=>
 bO (Ar .mul v17 (I 8)) λv18=>
 bO (Ar .lss v11 v18) λv19=>
 bG v19 true λw20=>
 gO w20 (some v11) λv21=>
 bG v19 true λw22=>
 gO w22 (Aa 0 x2) λv23=>
 bG v19 true λw24=>
 gO w24 (Am false 1 H v23) λv25=>
 bG v19 true λw26=>
 gO w26 (Ar .lss v21 v25) λv27=>
 bO (Ay v19 v27 (B false)) λv28=>
 bB v28 λt29=>bI t29 (
 K (.tup [v11,(B true)]) H)
 (bO (Ar .add x6 (I 1)) λv30=>
 R6 [x1,x2,v30] H))
 (K (.tup [(I 0),(B false)]) H)
theorem JF {K:KT}:oV (λR x1 x2 x6 H=>FP R x1 x2 x6 H K) (λx1 x2 x6 H=>GI x1 x2 x6 H K):=Yw (A2 _ _) (λ_ _ _ _ _=>by kernel_rfl)
def IH (a0 a1:AV)(H:AH)(K:KT):Prop:=
 bH (A9 H a0) λv0 H1=>
 bO (Am true 2 H1 v0) λv2=>
 bP (PCall prog 122 [v2] H1) λv3=>
 bO (E6 .not v3) λv4=>
 bG v4 false λw5=>
 gO w5 (some a1) λv6=>
 bG v4 false λw7=>
 gO w7 (Ar .lss v6 (I 0)) λv8=>
 bO (Ay v4 (B true) v8) λv9=>
 bB v9 λt10=>bI t10 (
 K (.tup [(I 0),(B false)]) H1)
 (GI a1 v0 (I 0) H1 K)
theorem Np {a0 a1:AV}{H:AH}{K:KT}(h:IH a0 a1 H K):Co 130 [a0,a1] H K:=
 fok A8 FK GJ func130 h
def GL:Nat→Option (List Bool):=CN [(5,mk 32 0 [1,2])]
def Hl (p:List Bool)(n:Nat):List AV→AH→Kf→Prop:=AL prog A8 FK A1 A1 GL (sub p (AP f132)) n
def GK (x1 x2:AV)(H:AH)(K:KT):Prop:=lp (mk 32 0 [1,2]) (Hl [tT,tT,fF,fF,fF] 6) [x1,x2] H (Be 0 (Bb (Hl [tT,tT,tT] 8) (Ba prog f132.results.toList K)))
def FQ (R5:RT)(x1 x2:AV)(H:AH)(K:KT):Prop:=
 bO (Am true 2 H x2) λv0=>
 bO (Ar .quo x1 (I 8)) λv1=>
 bP (PCall prog 121 [v0,v1] H) λv2=>
 bO (Ar .geq v2 (I 0)) λv3=>
 bB v3 λt4=>bI t4 (
 bO (Ar .quo x1 (I 8)) λv5=>
 bO (Ar .add v5 (I 1)) λv6=>
 bO (Ar .mul v6 (I 8)) λv7=>
 R5 [v7,x2] H)
 (bO (Aa 0 x2) λv8=>
 bO (Am false 1 H v8) λv9=>
 bO (amm cZ [x1,v9]) λv10=>
 K (.tup [v10,(B true)]) H)
theorem JG {K:KT}:wE (λR x1 x2 H=>FQ R x1 x2 H K) (λx1 x2 H=>GK x1 x2 H K):=nT (A2 _ _) (λ_ _ _ _=>by kernel_rfl)
def II (a0 a1:AV)(H:AH)(K:KT):Prop:=
 bH (A9 H a0) λv0 H1=>
 bO (Am true 2 H1 v0) λv2=>
 bP (PCall prog 122 [v2] H1) λv3=>
 bO (E6 .not v3) λv4=>
 bG v4 false λw5=>
 gO w5 (some a1) λv6=>
 bG v4 false λw7=>
 gO w7 (Ar .lss v6 (I 0)) λv8=>
 bO (Ay v4 (B true) v8) λv9=>
 bG v9 false λw10=>
 gO w10 (some a1) λv11=>
 bG v9 false λw12=>
 gO w12 (Aa 0 v0) λv13=>
 bG v9 false λw14=>
 gO w14 (Am false 1 H1 v13) λv15=>
 bG v9 false λw16=>
 gO w16 (Ar .geq v11 v15) λv17=>
 bO (Ay v9 (B true) v17) λv18=>
 bB v18 λt19=>bI t19 (
 K (.tup [(I 0),(B false)]) H1)
 (GK a1 v0 H1 K)
theorem Nr {a0 a1:AV}{H:AH}{K:KT}(h:II a0 a1 H K):Co 132 [a0,a1] H K:=
 fok A8 FK GL func132 h
def Hn:Nat→Option (List Bool):=CN [(15,mk 70 0 [1,3,4,5]),(6,mk 70 0 [1,3])]
def CJ (p:List Bool)(n:Nat):List AV→AH→Kf→Prop:=AL prog A8 FK A1 A1 Hn (sub p (AP f122)) n
def Er (R6:RT)(x1 x3 x4 x5:AV)(H:AH)(K:KT):Prop:=lp (mk 70 0 [1,3,4,5]) (CJ [tT,tT,fF,tT,fF,fF,tT,fF,fF,tT,tT,tT,fF,fF] 16) [x1,x3,x4,x5] H (Be 2 (Be 1 (Bb (CJ [tT,tT,fF,tT,fF,fF,tT,tT] 21) (TO (mk 70 0 [1,3]) R6 (Be 0 (Bb (CJ [tT,tT,tT] 21) (Ba prog f122.results.toList K)))))))
def Hm (x1 x3:AV)(H:AH)(K:KT):Prop:=lp (mk 70 0 [1,3]) (CJ [tT,tT,fF,tT,fF,fF] 7) [x1,x3] H (Be 0 (Bb (CJ [tT,tT,tT] 21) (Ba prog f122.results.toList K)))
def FS (R6:RT)(R15:RT)(x1 x3 x4 x5:AV)(H:AH)(K:KT):Prop:=
 bO (Ar .lss x5 (I 8)) λv0=>
 bB v0 λt1=>bI t1 (
 bO (Ar .mul x4 (I 8)) λv2=>
 bO (Ar .add v2 x5) λv3=>
 bO (Aa 0 x1) λv4=>
 bO (Am false 1 H v4) λv5=>
 bO (Ar .geq v3 v5) λv6=>
 bG v6 true λw7=>
 gO w7 (Aa 1 x1) λv8=>
 bG v6 true λw9=>
 gO w9 (Am false 1 H v8) λv10=>
 bG v6 true λw11=>
 gO w11 (some x3) λv12=>
 bG v6 true λw13=>
 gO w13 (some x5) λv14=>
 bG v6 true λw15=>
 gO w15 (Bq 9 v10 v12) λv16=>
 bG v6 true λw17=>
 gO w17 (Aa 1 v16) λv18=>
 bG v6 true λw19=>
 gO w19 (QE 8 1 v18 v14) λv20=>
 bG v6 true λw21=>
 gO w21 (Am false 1 H v20) λv22=>
 bG v6 true λw23=>
 gO w23 (Ar .neq v22 u0Z) λv24=>
 bO (Ay v6 v24 (B false)) λv25=>
 bB v25 λt26=>bI t26 (
 K (B false) H)
 (bO (Ar .add x5 (I 1)) λv27=>
 R15 [x1,x3,x4,v27] H))
 (bO (Ar .add x3 (I 1)) λv28=>
 R6 [x1,v28] H)
theorem JH (R6:RT){K:KT}:dC (λR x1 x3 x4 x5 H=>FS R6 R x1 x3 x4 x5 H K) (λx1 x3 x4 x5 H=>Er R6 x1 x3 x4 x5 H K):=Tb (A2 _ _) (λ_ _ _ _ _ _=>by kernel_rfl)
def Gl (R6:RT)(x1 x3:AV)(H:AH)(K:KT):Prop:=
 bO (Aa 1 x1) λv0=>
 bO (Am false 1 H v0) λv1=>
 bO (AY v1) λv2=>
 bO (Ar .lss x3 v2) λv3=>
 bB v3 λt4=>bI t4 (
 bO (Aa 1 x1) λv5=>
 bO (Am false 1 H v5) λv6=>
 bO (Bq 9 v6 x3) λv7=>
 bO (Aa 0 v7) λv8=>
 bO (Am false 1 H v8) λv9=>
 bO (Ar .lss v9 (I 0)) λv10=>
 bG v10 false λw11=>
 gO w11 (some v9) λv12=>
 bG v10 false λw13=>
 gO w13 (Ar .geq v12 (I 137438953472)) λv14=>
 bO (Ay v10 (B true) v14) λv15=>
 bG v15 false λw16=>
 gO w16 (some x3) λv17=>
 bG v15 false λw18=>
 gO w18 (Ar .gtr v17 (I 0)) λv19=>
 bG v15 false λw20=>
 gO w20 (some v19) λv21=>
 bG v21 true λw22=>
 gO w22 (Aa 1 x1) λv23=>
 bG v21 true λw24=>
 gO w24 (Am false 1 H v23) λv25=>
 bG v21 true λw26=>
 gO w26 (some x3) λv27=>
 bG v21 true λw28=>
 gO w28 (Ar .sub v27 (I 1)) λv29=>
 bG v21 true λw30=>
 gO w30 (Bq 9 v25 v29) λv31=>
 bG v21 true λw32=>
 gO w32 (Aa 0 v31) λv33=>
 bG v21 true λw34=>
 gO w34 (Am false 1 H v33) λv35=>
 bG v21 true λw36=>
 gO w36 (some v9) λv37=>
 bG v21 true λw38=>
 gO w38 (Ar .geq v35 v37) λv39=>
 bG v15 false λw40=>
 gO w40 (Ay v21 v39 (B false)) λv41=>
 bO (Ay v15 (B true) v41) λv42=>
 bB v42 λt43=>bI t43 (
 K (B false) H)
 (Er R6 x1 x3 v9 (I 0) H K))
 (K (B true) H)
theorem Ku {K:KT}:wE (λR x1 x3 H=>Gl R x1 x3 H K) (λx1 x3 H=>Hm x1 x3 H K):=nT (A2 _ _) (λ_ _ _ _=>by kernel_rfl)
def Jr (a0:AV)(H:AH)(K:KT):Prop:=
 bH (A9 H a0) λv0 H1=>
 bO (Aa 0 v0) λv2=>
 bO (Am false 1 H1 v2) λv3=>
 bO (Ar .lss v3 (I 0)) λv4=>
 bG v4 false λw5=>
 gO w5 (Aa 0 v0) λv6=>
 bG v4 false λw7=>
 gO w7 (Am false 1 H1 v6) λv8=>
 bG v4 false λw9=>
 gO w9 (Ar .gtr v8 (I 1099511627776)) λv10=>
 bO (Ay v4 (B true) v10) λv11=>
 bB v11 λt12=>bI t12 (
 K (B false) H1)
 (Hm v0 (I 0) H1 K)
theorem NE {a0:AV}{H:AH}{K:KT}(h:Jr a0 H K):Co 122 [a0] H K:=
 fok A8 FK Hn func122 h
def W5 (a0 a1:AV)(H:AH)(K:KT):Prop:=
 bH (A9 H a0) λv0 H1=>
 bH (A9 H1 a1) λv2 H3=>
 bO (Aa 0 v0) λv4=>
 bO (Am false 1 H3 v4) λv5=>
 bO (Aa 0 v2) λv6=>
 bO (Am false 1 H3 v6) λv7=>
 bO (Ar .eql v5 v7) λv8=>
 bG v8 true λw9=>
 gO w9 (Aa 1 v0) λv10=>
 bG v8 true λw11=>
 gO w11 (Am false 1 H3 v10) λv12=>
 bG v8 true λw13=>
 gO w13 (Aa 1 v2) λv14=>
 bG v8 true λw15=>
 gO w15 (Am false 1 H3 v14) λv16=>
 bG v8 true λw17=>
 gP w17 (PCall prog 93 [v12,v16] H3) λv18=>
 bO (Ay v8 v18 (B false)) λv19=>
 K v19 H3
theorem XW {a0 a1:AV}{H:AH}{K:KT}(h:W5 a0 a1 H K):Co 36 [a0,a1] H K:=
 fok A8 FK B6 func36 h
def GN:Nat→Option (List Bool):=CN [(7,mk 47 0 [1,2,3,7,8])]
def Hp (p:List Bool)(n:Nat):List AV→AH→Kf→Prop:=AL prog A8 FK A1 A1 GN (sub p (AP f68)) n
def GM (x1 x2 x3 x7 x8:AV)(H:AH)(K:KT):Prop:=lp (mk 47 0 [1,2,3,7,8]) (Hp [tT,tT,tT,fF,tT,fF,fF] 8) [x1,x2,x3,x7,x8] H (Be 0 (Bb (Hp [tT,tT,tT,tT] 11) (Ba prog f68.results.toList K)))
def FU (R7:RT)(x1 x2 x3 x7 x8:AV)(H:AH)(K:KT):Prop:=
 bO (Ar .lss x8 x2) λv0=>
 bG v0 true λw1=>
 gO w1 (some x1) λv2=>
 bG v0 true λw3=>
 gO w3 (Aa 0 x3) λv4=>
 bG v0 true λw5=>
 gO w5 (Am false 1 H v4) λv6=>
 bG v0 true λw7=>
 gO w7 (some x8) λv8=>
 bG v0 true λw9=>
 gO w9 (Ar .sub v6 v8) λv10=>
 bG v0 true λw11=>
 gO w11 (Ar .lss v2 v10) λv12=>
 bO (Ay v0 v12 (B false)) λv13=>
 bB v13 λt14=>bI t14 (
 bO (Am true 2 H x3) λv15=>
 bO (Ar .add x1 x8) λv16=>
 bP (PCall prog 123 [v15,v16] H) λv17=>
 bH (FC H 1 1 (BI [u0Z] 1) [(0,1,v17)]) λv18 H19=>
 bH (HG 1 1 H19 x7 v18) λv20 H21=>
 bO (Ar .add x8 (I 1)) λv22=>
 R7 [x1,x2,x3,v20,v22] H21)
 (K x7 H)
theorem JK {K:KT}:oW (λR x1 x2 x3 x7 x8 H=>FU R x1 x2 x3 x7 x8 H K) (λx1 x2 x3 x7 x8 H=>GM x1 x2 x3 x7 x8 H K):=Yx (A2 _ _) (λ_ _ _ _ _ _ _=>by kernel_rfl)
def IM (a0 a1 a2:AV)(H:AH)(K:KT):Prop:=
 bH (A9 H a0) λv0 H1=>
 bO (Am true 2 H1 v0) λv2=>
 bP (PCall prog 122 [v2] H1) λv3=>
 bO (E6 .not v3) λv4=>
 bG v4 false λw5=>
 gO w5 (some a1) λv6=>
 bG v4 false λw7=>
 gO w7 (Ar .lss v6 (I 0)) λv8=>
 bO (Ay v4 (B true) v8) λv9=>
 bG v9 false λw10=>
 gO w10 (some a2) λv11=>
 bG v9 false λw12=>
 gO w12 (Ar .lss v11 (I 0)) λv13=>
 bO (Ay v9 (B true) v13) λv14=>
 bG v14 false λw15=>
 gO w15 (some a2) λv16=>
 bG v14 false λw17=>
 gO w17 (Ar .gtr v16 (I 4096)) λv18=>
 bO (Ay v14 (B true) v18) λv19=>
 bB v19 λt20=>bI t20 (
 K Ac H1)
 (GM a1 a2 v0 Ac (I 0) H1 K)
theorem Ns {a0 a1 a2:AV}{H:AH}{K:KT}(h:IM a0 a1 a2 H K):Co 68 [a0,a1,a2] H K:=
 fok A8 FK GN func68 h
def Mx:Nat→Option (List Bool):=CN [(11,mk 50 0 [4,8]),(7,mk 50 0 [1,2,3,4,8,10])]
def Jd (p:List Bool)(n:Nat):List AV→AH→Kf→Prop:=AL prog A8 FK A1 A1 Mx (sub p (AP f104)) n
def Fi (x4 x8:AV)(H:AH)(K:KT):Prop:=jn (mk 50 0 [4,8]) (Jd [tT,tT,tT,tT,tT] 13) [x4,x8] H (Ba prog f104.results.toList K)
def Mw (x1 x2 x3 x4 x8 x10:AV)(H:AH)(K:KT):Prop:=lp (mk 50 0 [1,2,3,4,8,10]) (Jd [tT,tT,tT,fF,tT,fF,fF] 8) [x1,x2,x3,x4,x8,x10] H (Be 0 (Bb (Jd [tT,tT,tT,tT] 11) (Ba prog f104.results.toList K)))
def JQ (x4 x8:AV)(H:AH)(K:KT):Prop:=
 bO (Am true 2 H x4) λv0=>
 bS (AJ 2 H x8 v0) λH1=>
 bO (Am true 2 H1 x8) λv2=>
 K (.tup [v2,(B true)]) H1
theorem PZ (x4 x8:AV)(H:AH)(K:KT):Fi x4 x8 H K=JQ x4 x8 H K:=(B3 _ _ _ _ _).trans (by kernel_rfl)
def KG (R7:RT)(x1 x2 x3 x4 x8 x10:AV)(H:AH)(K:KT):Prop:=
 bO (Ar .add x1 x2) λv0=>
 bO (Ar .sub v0 (I 1)) λv1=>
 bO (Ar .quo v1 (I 8)) λv2=>
 bO (Ar .leq x10 v2) λv3=>
 bB v3 λt4=>bI t4 (
 bC (BCall prog 92 [x4,x10] H) λv5 H6=>
 bO (Ar .add x10 (I 1)) λv7=>
 R7 [x1,x2,x3,x4,x8,v7] H6)
 (bO (E6 .not x3) λv8=>
 bB v8 λt9=>bI t9 (
 bO (Aa 0 x4) λv10=>
 bO (Am false 1 H v10) λv11=>
 bO (Ar .add x1 x2) λv12=>
 bO (amm Wb [v11,v12]) λv13=>
 bO (Aa 0 x4) λv14=>
 bS (AJ 1 H v14 v13) λH15=>
 Fi x4 x8 H15 K)
 (Fi x4 x8 H K))
theorem Pc {K:KT}:oX (λR x1 x2 x3 x4 x8 x10 H=>KG R x1 x2 x3 x4 x8 x10 H K) (λx1 x2 x3 x4 x8 x10 H=>Mw x1 x2 x3 x4 x8 x10 H K):=bM (A2 _ _) (λ_ _ _ _ _ _ _ _=>by kernel_rfl)
def Qp (a0 a1 a2 a3:AV)(H:AH)(K:KT):Prop:=
 bH (A9 H a0) λv0 H1=>
 bH (A9 H1 (.agg [(I 0),Ac])) λv2 H3=>
 bO (Am true 2 H3 v0) λv4=>
 bP (PCall prog 90 [v4] H3) λv5=>
 bO (E6 .not v5) λv6=>
 bG v6 false λw7=>
 gO w7 (some a1) λv8=>
 bG v6 false λw9=>
 gO w9 (some a2) λv10=>
 bG v6 false λw11=>
 gP w11 (PCall prog 158 [v8,v10] H3) λv12=>
 bG v6 false λw13=>
 gO w13 (E6 .not v12) λv14=>
 bO (Ay v6 (B true) v14) λv15=>
 bG v15 false λw16=>
 gO w16 (some a2) λv17=>
 bG v15 false λw18=>
 gO w18 (Ar .gtr v17 (I 32768)) λv19=>
 bO (Ay v15 (B true) v19) λv20=>
 bB v20 λt21=>bI t21 (
 bO (E5 [(I 0),Ac] []) λv22=>
 bS (AJ 2 H3 v2 v22) λH23=>
 bO (Am true 2 H23 v2) λv24=>
 K (.tup [v24,(B false)]) H23)
 (bO (Am true 2 H3 v0) λv25=>
 bC (BCall prog 91 [v25] H3) λv26 H27=>
 bS (AJ 2 H27 v0 v26) λH28=>
 bO (Ar .quo a1 (I 8)) λv29=>
 Mw a1 a2 a3 v0 v2 v29 H28 K)
theorem TZ {a0 a1 a2 a3:AV}{H:AH}{K:KT}(h:Qp a0 a1 a2 a3 H K):Co 104 [a0,a1,a2,a3] H K:=
 fok A8 FK Mx func104 h
def Mz:Nat→Option (List Bool):=CN [(9,mk 45 0 [2,3,4,30,31])]
def NY (p:List Bool)(n:Nat):List AV→AH→Kf→Prop:=AL prog A8 FK A1 A1 Mz (sub p (AP f103)) n
def My (x2 x3 x4 x30 x31:AV)(H:AH)(K:KT):Prop:=lp (mk 45 0 [2,3,4,30,31]) (NY [tT,tT,tT,tT,tT,fF,tT,fF,fF] 10) [x2,x3,x4,x30,x31] H (Be 0 (Bb (NY [tT,tT,tT,tT,tT,tT] 14) (Ba prog f103.results.toList K)))
def KH (R9:RT)(x2 x3 x4 x30 x31:AV)(H:AH)(K:KT):Prop:=
 bO (Ar .lss x31 x30) λv0=>
 bB v0 λt1=>bI t1 (
 bO (Aa 1 x2) λv2=>
 bO (Am false 1 H v2) λv3=>
 bO (Bq 9 v3 x31) λv4=>
 bO (Am false 1 H x3) λv5=>
 bO (Am false 1 H x3) λv6=>
 bO (Ar .sub (I 1099511627776) v6) λv7=>
 bO (E5 [(I 0),(I 0)] [(0,1,v5),(1,1,v7)]) λv8=>
 bC (BCall prog 157 [v4,v8] H) λv9 H10=>
 bO (Ar .add x31 (I 1)) λv11=>
 R9 [x2,x3,x4,x30,v11] H10)
 (bO (Am true 2 H x2) λv12=>
 bS (AJ 2 H x4 v12) λH13=>
 bO (Am true 2 H13 x4) λv14=>
 K (.tup [v14,(B true)]) H13)
theorem Pg {K:KT}:oW (λR x2 x3 x4 x30 x31 H=>KH R x2 x3 x4 x30 x31 H K) (λx2 x3 x4 x30 x31 H=>My x2 x3 x4 x30 x31 H K):=Yx (A2 _ _) (λ_ _ _ _ _ _ _=>by kernel_rfl)
def Qt (a0 a1:AV)(H:AH)(K:KT):Prop:=
 bH (A9 H a0) λv0 H1=>
 bH (A9 H1 a1) λv2 H3=>
 bH (A9 H3 (.agg [(I 0),Ac])) λv4 H5=>
 bO (Am true 2 H5 v0) λv6=>
 bP (PCall prog 90 [v6] H5) λv7=>
 bO (E6 .not v7) λv8=>
 bG v8 false λw9=>
 gO w9 (Am false 1 H5 v2) λv10=>
 bG v8 false λw11=>
 gO w11 (Ar .lss v10 (I 0)) λv12=>
 bO (Ay v8 (B true) v12) λv13=>
 bG v13 false λw14=>
 gO w14 (Am false 1 H5 v2) λv15=>
 bG v13 false λw16=>
 gO w16 (Ar .gtr v15 (I 1099511627776)) λv17=>
 bO (Ay v13 (B true) v17) λv18=>
 bB v18 λt19=>bI t19 (
 bO (E5 [(I 0),Ac] []) λv20=>
 bS (AJ 2 H5 v4 v20) λH21=>
 bO (Am true 2 H21 v4) λv22=>
 K (.tup [v22,(B false)]) H21)
 (bO (Am true 2 H5 v0) λv23=>
 bC (BCall prog 91 [v23] H5) λv24 H25=>
 bS (AJ 2 H25 v0 v24) λH26=>
 bO (Am false 1 H26 v2) λv27=>
 bO (Aa 0 v0) λv28=>
 bS (AJ 1 H26 v28 v27) λH29=>
 bO (Aa 1 v0) λv30=>
 bO (Am false 1 H29 v30) λv31=>
 bC (BCall prog 155 [v31,(.fn (.func 156) [] [v2])] H29) λv32 H33=>
 bO (Aa 1 v0) λv34=>
 bS (AJ 1 H33 v34 v32) λH35=>
 bO (Aa 1 v0) λv36=>
 bO (Am false 1 H35 v36) λv37=>
 bO (AY v37) λv38=>
 My v0 v2 v4 v38 (I 0) H35 K)
theorem Uc {a0 a1:AV}{H:AH}{K:KT}(h:Qt a0 a1 H K):Co 103 [a0,a1] H K:=
 fok A8 FK Mz func103 h
def Qs:Nat→Option (List Bool):=CN [(9,mk 44 0 [3,6,8,32,33])]
def RB (p:List Bool)(n:Nat):List AV→AH→Kf→Prop:=AL prog A8 FK A1 A1 Qs (sub p (AP f105)) n
def Qr (x3 x6 x8 x32 x33:AV)(H:AH)(K:KT):Prop:=lp (mk 44 0 [3,6,8,32,33]) (RB [tT,tT,tT,tT,tT,fF,tT,fF,fF] 10) [x3,x6,x8,x32,x33] H (Be 0 (Bb (RB [tT,tT,tT,tT,tT,tT] 14) (Ba prog f105.results.toList K)))
def NV (R9:RT)(x3 x6 x8 x32 x33:AV)(H:AH)(K:KT):Prop:=
 bO (Ar .lss x33 x32) λv0=>
 bB v0 λt1=>bI t1 (
 bO (Aa 1 x3) λv2=>
 bO (Am false 1 H v2) λv3=>
 bO (Bq 9 v3 x33) λv4=>
 bO (Am true 2 H x8) λv5=>
 bC (BCall prog 157 [v4,v5] H) λv6 H7=>
 bO (Ar .add x33 (I 1)) λv8=>
 R9 [x3,x6,x8,x32,v8] H7)
 (bO (Am true 2 H x3) λv9=>
 bS (AJ 2 H x6 v9) λH10=>
 bO (Am true 2 H10 x6) λv11=>
 K (.tup [v11,(B true)]) H10)
theorem Rz {K:KT}:oW (λR x3 x6 x8 x32 x33 H=>NV R x3 x6 x8 x32 x33 H K) (λx3 x6 x8 x32 x33 H=>Qr x3 x6 x8 x32 x33 H K):=Yx (A2 _ _) (λ_ _ _ _ _ _ _=>by kernel_rfl)
def UM (a0 a1 a2:AV)(H:AH)(K:KT):Prop:=
 bH (A9 H a0) λv0 H1=>
 bH (A9 H1 (.agg [(I 0),Ac])) λv2 H3=>
 bO (Am true 2 H3 v0) λv4=>
 bP (PCall prog 90 [v4] H3) λv5=>
 bO (E6 .not v5) λv6=>
 bG v6 false λw7=>
 gO w7 (some a1) λv8=>
 bG v6 false λw9=>
 gO w9 (some a2) λv10=>
 bG v6 false λw11=>
 gP w11 (PCall prog 158 [v8,v10] H3) λv12=>
 bG v6 false λw13=>
 gO w13 (E6 .not v12) λv14=>
 bO (Ay v6 (B true) v14) λv15=>
 bB v15 λt16=>bI t16 (
 bO (E5 [(I 0),Ac] []) λv17=>
 bS (AJ 2 H3 v2 v17) λH18=>
 bO (Am true 2 H18 v2) λv19=>
 K (.tup [v19,(B false)]) H18)
 (bO (Am true 2 H3 v0) λv20=>
 bC (BCall prog 91 [v20] H3) λv21 H22=>
 bS (AJ 2 H22 v0 v21) λH23=>
 bO (E5 [(I 0),(I 0)] [(0,1,a1),(1,1,a2)]) λv24=>
 bH (A9 H23 (.agg [(I 0),(I 0)])) λv25 H26=>
 bS (AJ 2 H26 v25 v24) λH27=>
 bO (Aa 1 v0) λv28=>
 bO (Am false 1 H27 v28) λv29=>
 bC (BCall prog 155 [v29,(.fn (.func 159) [] [v25])] H27) λv30 H31=>
 bO (Aa 1 v0) λv32=>
 bS (AJ 1 H31 v32 v30) λH33=>
 bO (Aa 1 v0) λv34=>
 bO (Am false 1 H33 v34) λv35=>
 bO (AY v35) λv36=>
 Qr v0 v2 v25 v36 (I 0) H33 K)
theorem WV {a0 a1 a2:AV}{H:AH}{K:KT}(h:UM a0 a1 a2 H K):Co 105 [a0,a1,a2] H K:=
 fok A8 FK Qs func105 h
def Fx:Nat→Option (List Bool):=CN [(19,mk 62 0 [1,2,4,6,7,8,9]),(16,mk 62 0 [1,2,4,6,7,8,9]),(10,mk 62 0 [1,2,4,6,7]),(7,mk 62 0 [1,2,4,6,7])]
def AE (p:List Bool)(n:Nat):List AV→AH→Kf→Prop:=AL prog A8 FK A1 A1 Fx (sub p (AP f124)) n
def Cr (R7:RT)(x1 x2 x4 x6 x7:AV)(H:AH)(K:KT):Prop:=jn (mk 62 0 [1,2,4,6,7]) (AE [tT,tT,tT,fF,tT,fF,fF,tT,tT] 21) [x1,x2,x4,x6,x7] H (TO (mk 62 0 [1,2,4,6,7]) R7 (Be 0 (Bb (AE [tT,tT,tT,tT] 21) (Ba prog f124.results.toList K))))
def Cs (R16:RT)(R7:RT)(x1 x2 x4 x6 x7 x8 x9:AV)(H:AH)(K:KT):Prop:=jn (mk 62 0 [1,2,4,6,7,8,9]) (AE [tT,tT,tT,fF,tT,fF,fF,tT,fF,fF,tT,tT,fF,tT,fF,fF,tT,tT] 21) [x1,x2,x4,x6,x7,x8,x9] H (TO (mk 62 0 [1,2,4,6,7,8,9]) R16 (Be 2 (Bb (AE [tT,tT,tT,fF,tT,fF,fF,tT,fF,fF,tT,tT,tT] 21) (Be 1 (Bb (DO (mk 62 0 [1,2,4,6,7]) (AE [tT,tT,tT,fF,tT,fF,fF,tT,tT] 21)) (TO (mk 62 0 [1,2,4,6,7]) R7 (Be 0 (Bb (AE [tT,tT,tT,tT] 21) (Ba prog f124.results.toList K)))))))))
def Fc (R7:RT)(x1 x2 x4 x6 x7 x8 x9:AV)(H:AH)(K:KT):Prop:=lp (mk 62 0 [1,2,4,6,7,8,9]) (AE [tT,tT,tT,fF,tT,fF,fF,tT,fF,fF,tT,tT,fF,tT,fF,fF] 17) [x1,x2,x4,x6,x7,x8,x9] H (Be 2 (Bb (AE [tT,tT,tT,fF,tT,fF,fF,tT,fF,fF,tT,tT,tT] 21) (Be 1 (Bb (DO (mk 62 0 [1,2,4,6,7]) (AE [tT,tT,tT,fF,tT,fF,fF,tT,tT] 21)) (TO (mk 62 0 [1,2,4,6,7]) R7 (Be 0 (Bb (AE [tT,tT,tT,tT] 21) (Ba prog f124.results.toList K))))))))
def Fw (x1 x2 x4 x6 x7:AV)(H:AH)(K:KT):Prop:=lp (mk 62 0 [1,2,4,6,7]) (AE [tT,tT,tT,fF,tT,fF,fF] 8) [x1,x2,x4,x6,x7] H (Be 0 (Bb (AE [tT,tT,tT,tT] 21) (Ba prog f124.results.toList K)))
def E9 (R7:RT)(x1 x2 x4 x6 x7:AV)(H:AH)(K:KT):Prop:=
 bO (Ar .add x7 (I 1)) λv0=>
 R7 [x1,x2,x4,x6,v0] H
theorem Iw (R7:RT)(x1 x2 x4 x6 x7:AV)(H:AH)(K:KT):Cr R7 x1 x2 x4 x6 x7 H K=E9 R7 x1 x2 x4 x6 x7 H K:=(B3 _ _ _ _ _).trans (by kernel_rfl)
def EA (R16:RT)(R7:RT)(x1 x2 x4 x6 x7 x8 x9:AV)(H:AH)(K:KT):Prop:=
 bO (Ar .add x9 (I 1)) λv0=>
 R16 [x1,x2,x4,x6,x7,x8,v0] H
theorem Ix (R16:RT)(R7:RT)(x1 x2 x4 x6 x7 x8 x9:AV)(H:AH)(K:KT):Cs R16 R7 x1 x2 x4 x6 x7 x8 x9 H K=EA R16 R7 x1 x2 x4 x6 x7 x8 x9 H K:=(B3 _ _ _ _ _).trans (by kernel_rfl)
def EB (R7:RT)(R16:RT)(x1 x2 x4 x6 x7 x8 x9:AV)(H:AH)(K:KT):Prop:=
 bO (Ar .lss x9 (I 8)) λv0=>
 bB v0 λt1=>bI t1 (
 bO (Aa 0 x8) λv2=>
 bO (Am false 1 H v2) λv3=>
 bO (Ar .mul v3 (I 8)) λv4=>
 bO (Ar .add v4 x9) λv5=>
 bO (Ar .geq v5 x1) λv6=>
 bB v6 λt7=>bI t7 (
 bO (Aa 1 x8) λv8=>
 bO (QE 8 1 v8 x9) λv9=>
 bS (AJ 1 H v9 u0Z) λH10=>
 Cs R16 R7 x1 x2 x4 x6 x7 x8 x9 H10 K)
 (Cs R16 R7 x1 x2 x4 x6 x7 x8 x9 H K))
 (bO (Aa 1 x6) λv11=>
 bO (Am false 1 H v11) λv12=>
 bO (Am true 9 H x8) λv13=>
 bH (FC H 9 1 (BI [(I 0),u0Z,u0Z,u0Z,u0Z,u0Z,u0Z,u0Z,u0Z] 1) [(0,9,v13)]) λv14 H15=>
 bH (HG 9 16 H15 v12 v14) λv16 H17=>
 bO (Aa 1 x6) λv18=>
 bS (AJ 1 H17 v18 v16) λH19=>
 Cr R7 x1 x2 x4 x6 x7 H19 K)
theorem HC (R7:RT){K:KT}:zdfeZ (λR x1 x2 x4 x6 x7 x8 x9 H=>EB R7 R x1 x2 x4 x6 x7 x8 x9 H K) (λx1 x2 x4 x6 x7 x8 x9 H=>Fc R7 x1 x2 x4 x6 x7 x8 x9 H K):=xR (A2 _ _) (λ_ _ _ _ _ _ _ _ _=>by kernel_rfl)
def EM (R7:RT)(x1 x2 x4 x6 x7:AV)(H:AH)(K:KT):Prop:=
 bO (Aa 1 x2) λv0=>
 bO (Am false 1 H v0) λv1=>
 bO (AY v1) λv2=>
 bO (Ar .lss x7 v2) λv3=>
 bB v3 λt4=>bI t4 (
 bO (Aa 1 x2) λv5=>
 bO (Am false 1 H v5) λv6=>
 bO (Bq 9 v6 x7) λv7=>
 bO (Am true 9 H v7) λv8=>
 bH (A9 H (.agg [(I 0),u0Z,u0Z,u0Z,u0Z,u0Z,u0Z,u0Z,u0Z])) λv9 H10=>
 bS (AJ 9 H10 v9 v8) λH11=>
 bO (Aa 0 v9) λv12=>
 bO (Am false 1 H11 v12) λv13=>
 bO (Ar .mul v13 (I 8)) λv14=>
 bO (Ar .geq v14 x1) λv15=>
 bB v15 λt16=>bI t16 (
 Cr R7 x1 x2 x4 x6 x7 H11 K)
 (Fc R7 x1 x2 x4 x6 x7 v9 (I 0) H11 K))
 (bO (Am true 2 H x6) λv17=>
 bS (AJ 2 H x4 v17) λH18=>
 bO (Am true 2 H18 x4) λv19=>
 K (.tup [v19,(B true)]) H18)
theorem Ia {K:KT}:oW (λR x1 x2 x4 x6 x7 H=>EM R x1 x2 x4 x6 x7 H K) (λx1 x2 x4 x6 x7 H=>Fw x1 x2 x4 x6 x7 H K):=Yx (A2 _ _) (λ_ _ _ _ _ _ _=>by kernel_rfl)
def Gt (a0 a1:AV)(H:AH)(K:KT):Prop:=
 bH (A9 H a0) λv0 H1=>
 bH (A9 H1 (.agg [(I 0),Ac])) λv2 H3=>
 bO (Am true 2 H3 v0) λv4=>
 bP (PCall prog 122 [v4] H3) λv5=>
 bO (E6 .not v5) λv6=>
 bG v6 false λw7=>
 gO w7 (some a1) λv8=>
 bG v6 false λw9=>
 gO w9 (Ar .lss v8 (I 0)) λv10=>
 bO (Ay v6 (B true) v10) λv11=>
 bG v11 false λw12=>
 gO w12 (some a1) λv13=>
 bG v11 false λw14=>
 gO w14 (Ar .gtr v13 (I 1099511627776)) λv15=>
 bO (Ay v11 (B true) v15) λv16=>
 bB v16 λt17=>bI t17 (
 bO (E5 [(I 0),Ac] []) λv18=>
 bS (AJ 2 H3 v2 v18) λH19=>
 bO (Am true 2 H19 v2) λv20=>
 K (.tup [v20,(B false)]) H19)
 (bO (E5 [(I 0),Ac] [(0,1,a1)]) λv21=>
 bH (A9 H3 (.agg [(I 0),Ac])) λv22 H23=>
 bS (AJ 2 H23 v22 v21) λH24=>
 Fw a1 v0 v2 v22 (I 0) H24 K)
theorem Kw {a0 a1:AV}{H:AH}{K:KT}(h:Gt a0 a1 H K):Co 124 [a0,a1] H K:=
 fok A8 FK Fx func124 h
def Fr:Nat→Option (List Bool):=CN [(11,mk 57 0 [4,8]),(7,mk 57 0 [1,2,3,4,8,10])]
def DH (p:List Bool)(n:Nat):List AV→AH→Kf→Prop:=AL prog A8 FK A1 A1 Fr (sub p (AP f125)) n
def Cq (x4 x8:AV)(H:AH)(K:KT):Prop:=jn (mk 57 0 [4,8]) (DH [tT,tT,tT,tT,tT] 13) [x4,x8] H (Ba prog f125.results.toList K)
def Fq (x1 x2 x3 x4 x8 x10:AV)(H:AH)(K:KT):Prop:=lp (mk 57 0 [1,2,3,4,8,10]) (DH [tT,tT,tT,fF,tT,fF,fF] 8) [x1,x2,x3,x4,x8,x10] H (Be 0 (Bb (DH [tT,tT,tT,tT] 11) (Ba prog f125.results.toList K)))
def E8 (x4 x8:AV)(H:AH)(K:KT):Prop:=
 bO (Am true 2 H x4) λv0=>
 bS (AJ 2 H x8 v0) λH1=>
 bO (Am true 2 H1 x8) λv2=>
 K (.tup [v2,(B true)]) H1
theorem Iv (x4 x8:AV)(H:AH)(K:KT):Cq x4 x8 H K=E8 x4 x8 H K:=(B3 _ _ _ _ _).trans (by kernel_rfl)
def EL (R7:RT)(x1 x2 x3 x4 x8 x10:AV)(H:AH)(K:KT):Prop:=
 bO (Ar .mul x10 (I 8)) λv0=>
 bO (Ar .add x1 x2) λv1=>
 bO (Ar .lss v0 v1) λv2=>
 bB v2 λt3=>bI t3 (
 bC (BCall prog 170 [x4,x10] H) λv4 H5=>
 bO (Ar .add x10 (I 1)) λv6=>
 R7 [x1,x2,x3,x4,x8,v6] H5)
 (bO (E6 .not x3) λv7=>
 bB v7 λt8=>bI t8 (
 bO (Aa 0 x4) λv9=>
 bO (Am false 1 H v9) λv10=>
 bO (Ar .add x1 x2) λv11=>
 bO (amm Wb [v10,v11]) λv12=>
 bO (Aa 0 x4) λv13=>
 bS (AJ 1 H v13 v12) λH14=>
 Cq x4 x8 H14 K)
 (Cq x4 x8 H K))
theorem HQ {K:KT}:oX (λR x1 x2 x3 x4 x8 x10 H=>EL R x1 x2 x3 x4 x8 x10 H K) (λx1 x2 x3 x4 x8 x10 H=>Fq x1 x2 x3 x4 x8 x10 H K):=bM (A2 _ _) (λ_ _ _ _ _ _ _ _=>by kernel_rfl)
def Gk (a0 a1 a2 a3:AV)(H:AH)(K:KT):Prop:=
 bH (A9 H a0) λv0 H1=>
 bH (A9 H1 (.agg [(I 0),Ac])) λv2 H3=>
 bO (Am true 2 H3 v0) λv4=>
 bP (PCall prog 122 [v4] H3) λv5=>
 bO (E6 .not v5) λv6=>
 bG v6 false λw7=>
 gO w7 (some a1) λv8=>
 bG v6 false λw9=>
 gO w9 (Ar .lss v8 (I 0)) λv10=>
 bO (Ay v6 (B true) v10) λv11=>
 bG v11 false λw12=>
 gO w12 (some a2) λv13=>
 bG v11 false λw14=>
 gO w14 (Ar .lss v13 (I 1)) λv15=>
 bO (Ay v11 (B true) v15) λv16=>
 bG v16 false λw17=>
 gO w17 (some a2) λv18=>
 bG v16 false λw19=>
 gO w19 (Ar .gtr v18 (I 32768)) λv20=>
 bO (Ay v16 (B true) v20) λv21=>
 bG v21 false λw22=>
 gO w22 (some a1) λv23=>
 bG v21 false λw24=>
 gO w24 (some a2) λv25=>
 bG v21 false λw26=>
 gO w26 (Ar .sub (I 1099511627776) v25) λv27=>
 bG v21 false λw28=>
 gO w28 (Ar .gtr v23 v27) λv29=>
 bO (Ay v21 (B true) v29) λv30=>
 bB v30 λt31=>bI t31 (
 bO (E5 [(I 0),Ac] []) λv32=>
 bS (AJ 2 H3 v2 v32) λH33=>
 bO (Am true 2 H33 v2) λv34=>
 K (.tup [v34,(B false)]) H33)
 (bO (Am true 2 H3 v0) λv35=>
 bC (BCall prog 169 [v35] H3) λv36 H37=>
 bS (AJ 2 H37 v0 v36) λH38=>
 bO (Ar .quo a1 (I 8)) λv39=>
 Fq a1 a2 a3 v0 v2 v39 H38 K)
theorem Kt {a0 a1 a2 a3:AV}{H:AH}{K:KT}(h:Gk a0 a1 a2 a3 H K):Co 125 [a0,a1,a2,a3] H K:=
 fok A8 FK Fr func125 h
def Gn:Nat→Option (List Bool):=CN [(10,mk 84 0 [1,2,3,6,8,9]),(18,mk 84 0 [1,2,3,6,8,9,10,11,12]),(15,mk 84 0 [1,2,3,6,8,9,10,11,12]),(7,mk 84 0 [1,2,3,6,8,9])]
def AK (p:List Bool)(n:Nat):List AV→AH→Kf→Prop:=AL prog A8 FK A1 A1 Gn (sub p (AP f126)) n
def CQ (R15:RT)(R7:RT)(x1 x2 x3 x6 x8 x9 x10 x11 x12:AV)(H:AH)(K:KT):Prop:=jn (mk 84 0 [1,2,3,6,8,9,10,11,12]) (AK [tT,tT,tT,fF,tT,fF,fF,tT,fF,fF,tT,tT,fF,tT,fF,fF,tT,tT] 22) [x1,x2,x3,x6,x8,x9,x10,x11,x12] H (TO (mk 84 0 [1,2,3,6,8,9,10,11,12]) R15 (Be 2 (Bb (AK [tT,tT,tT,fF,tT,fF,fF,tT,fF,fF,tT,tT,tT] 22) (Be 1 (Bb (DO (mk 84 0 [1,2,3,6,8,9]) (AK [tT,tT,tT,fF,tT,fF,fF,tT,tT] 23)) (TO (mk 84 0 [1,2,3,6,8,9]) R7 (Be 0 (Bb (AK [tT,tT,tT,tT] 23) (Ba prog f126.results.toList K)))))))))
def CP (R7:RT)(x1 x2 x3 x6 x8 x9:AV)(H:AH)(K:KT):Prop:=jn (mk 84 0 [1,2,3,6,8,9]) (AK [tT,tT,tT,fF,tT,fF,fF,tT,tT] 23) [x1,x2,x3,x6,x8,x9] H (TO (mk 84 0 [1,2,3,6,8,9]) R7 (Be 0 (Bb (AK [tT,tT,tT,tT] 23) (Ba prog f126.results.toList K))))
def FT (R7:RT)(x1 x2 x3 x6 x8 x9 x10 x11 x12:AV)(H:AH)(K:KT):Prop:=lp (mk 84 0 [1,2,3,6,8,9,10,11,12]) (AK [tT,tT,tT,fF,tT,fF,fF,tT,fF,fF,tT,tT,fF,tT,fF,fF] 16) [x1,x2,x3,x6,x8,x9,x10,x11,x12] H (Be 2 (Bb (AK [tT,tT,tT,fF,tT,fF,fF,tT,fF,fF,tT,tT,tT] 22) (Be 1 (Bb (DO (mk 84 0 [1,2,3,6,8,9]) (AK [tT,tT,tT,fF,tT,fF,fF,tT,tT] 23)) (TO (mk 84 0 [1,2,3,6,8,9]) R7 (Be 0 (Bb (AK [tT,tT,tT,tT] 23) (Ba prog f126.results.toList K))))))))
def Gm (x1 x2 x3 x6 x8 x9:AV)(H:AH)(K:KT):Prop:=lp (mk 84 0 [1,2,3,6,8,9]) (AK [tT,tT,tT,fF,tT,fF,fF] 8) [x1,x2,x3,x6,x8,x9] H (Be 0 (Bb (AK [tT,tT,tT,tT] 23) (Ba prog f126.results.toList K)))
def Ft (R15:RT)(R7:RT)(x1 x2 x3 x6 x8 x9 x10 x11 x12:AV)(H:AH)(K:KT):Prop:=
 bO (Ar .add x12 (I 1)) λv0=>
 R15 [x1,x2,x3,x6,x8,x9,x10,x11,v0] H
theorem JJ (R15:RT)(R7:RT)(x1 x2 x3 x6 x8 x9 x10 x11 x12:AV)(H:AH)(K:KT):CQ R15 R7 x1 x2 x3 x6 x8 x9 x10 x11 x12 H K=Ft R15 R7 x1 x2 x3 x6 x8 x9 x10 x11 x12 H K:=(B3 _ _ _ _ _).trans (by kernel_rfl)
def Fs (R7:RT)(x1 x2 x3 x6 x8 x9:AV)(H:AH)(K:KT):Prop:=
 bO (Ar .add x9 (I 1)) λv0=>
 R7 [x1,x2,x3,x6,x8,v0] H
theorem JI (R7:RT)(x1 x2 x3 x6 x8 x9:AV)(H:AH)(K:KT):CP R7 x1 x2 x3 x6 x8 x9 H K=Fs R7 x1 x2 x3 x6 x8 x9 H K:=(B3 _ _ _ _ _).trans (by kernel_rfl)
def Fu (R7:RT)(R15:RT)(x1 x2 x3 x6 x8 x9 x10 x11 x12:AV)(H:AH)(K:KT):Prop:=
 bO (Ar .lss x12 (I 8)) λv0=>
 bB v0 λt1=>bI t1 (
 bO (Aa 0 x10) λv2=>
 bO (Am false 1 H v2) λv3=>
 bO (Ar .mul v3 (I 8)) λv4=>
 bO (Ar .add v4 x12) λv5=>
 bO (Ar .geq v5 x1) λv6=>
 bG v6 true λw7=>
 gO w7 (some v5) λv8=>
 bG v6 true λw9=>
 gO w9 (some x1) λv10=>
 bG v6 true λw11=>
 gO w11 (some x2) λv12=>
 bG v6 true λw13=>
 gO w13 (Ar .add v10 v12) λv14=>
 bG v6 true λw15=>
 gO w15 (Ar .lss v8 v14) λv16=>
 bO (Ay v6 v16 (B false)) λv17=>
 bB v17 λt18=>bI t18 (
 bO (Aa 1 x10) λv19=>
 bO (QE 8 1 v19 x12) λv20=>
 bS (AJ 1 H v20 u0Z) λH21=>
 bO (Ar .add x11 (I 1)) λv22=>
 CQ R15 R7 x1 x2 x3 x6 x8 x9 x10 v22 x12 H21 K)
 (CQ R15 R7 x1 x2 x3 x6 x8 x9 x10 x11 x12 H K))
 (bO (Ar .lss x11 (I 8)) λv23=>
 bB v23 λt24=>bI t24 (
 bO (Aa 1 x8) λv25=>
 bO (Am false 1 H v25) λv26=>
 bO (Am true 9 H x10) λv27=>
 bH (FC H 9 1 (BI [(I 0),u0Z,u0Z,u0Z,u0Z,u0Z,u0Z,u0Z,u0Z] 1) [(0,9,v27)]) λv28 H29=>
 bH (HG 9 16 H29 v26 v28) λv30 H31=>
 bO (Aa 1 x8) λv32=>
 bS (AJ 1 H31 v32 v30) λH33=>
 CP R7 x1 x2 x3 x6 x8 x9 H33 K)
 (CP R7 x1 x2 x3 x6 x8 x9 H K))
theorem IY (R7:RT){K:KT}:RL9 (λR x1 x2 x3 x6 x8 x9 x10 x11 x12 H=>Fu R7 R x1 x2 x3 x6 x8 x9 x10 x11 x12 H K) (λx1 x2 x3 x6 x8 x9 x10 x11 x12 H=>FT R7 x1 x2 x3 x6 x8 x9 x10 x11 x12 H K):=zdghZ (A2 _ _) (λ_ _ _ _ _ _ _ _ _ _ _=>by kernel_rfl)
def F6 (R7:RT)(x1 x2 x3 x6 x8 x9:AV)(H:AH)(K:KT):Prop:=
 bO (Aa 1 x3) λv0=>
 bO (Am false 1 H v0) λv1=>
 bO (AY v1) λv2=>
 bO (Ar .lss x9 v2) λv3=>
 bB v3 λt4=>bI t4 (
 bO (Aa 1 x3) λv5=>
 bO (Am false 1 H v5) λv6=>
 bO (Bq 9 v6 x9) λv7=>
 bO (Am true 9 H v7) λv8=>
 bH (A9 H (.agg [(I 0),u0Z,u0Z,u0Z,u0Z,u0Z,u0Z,u0Z,u0Z])) λv9 H10=>
 bS (AJ 9 H10 v9 v8) λH11=>
 FT R7 x1 x2 x3 x6 x8 x9 v9 (I 0) (I 0) H11 K)
 (bO (Am true 2 H x8) λv12=>
 bS (AJ 2 H x6 v12) λH13=>
 bO (Am true 2 H13 x6) λv14=>
 K (.tup [v14,(B true)]) H13)
theorem Ju {K:KT}:oX (λR x1 x2 x3 x6 x8 x9 H=>F6 R x1 x2 x3 x6 x8 x9 H K) (λx1 x2 x3 x6 x8 x9 H=>Gm x1 x2 x3 x6 x8 x9 H K):=bM (A2 _ _) (λ_ _ _ _ _ _ _ _=>by kernel_rfl)
def HX (a0 a1 a2:AV)(H:AH)(K:KT):Prop:=
 bH (A9 H a0) λv0 H1=>
 bH (A9 H1 (.agg [(I 0),Ac])) λv2 H3=>
 bO (Am true 2 H3 v0) λv4=>
 bP (PCall prog 122 [v4] H3) λv5=>
 bO (E6 .not v5) λv6=>
 bG v6 false λw7=>
 gO w7 (some a1) λv8=>
 bG v6 false λw9=>
 gO w9 (Ar .lss v8 (I 0)) λv10=>
 bO (Ay v6 (B true) v10) λv11=>
 bG v11 false λw12=>
 gO w12 (some a2) λv13=>
 bG v11 false λw14=>
 gO w14 (Ar .lss v13 (I 1)) λv15=>
 bO (Ay v11 (B true) v15) λv16=>
 bG v16 false λw17=>
 gO w17 (some a2) λv18=>
 bG v16 false λw19=>
 gO w19 (Ar .gtr v18 (I 1099511627776)) λv20=>
 bO (Ay v16 (B true) v20) λv21=>
 bG v21 false λw22=>
 gO w22 (some a1) λv23=>
 bG v21 false λw24=>
 gO w24 (some a2) λv25=>
 bG v21 false λw26=>
 gO w26 (Ar .sub (I 1099511627776) v25) λv27=>
 bG v21 false λw28=>
 gO w28 (Ar .gtr v23 v27) λv29=>
 bO (Ay v21 (B true) v29) λv30=>
 bB v30 λt31=>bI t31 (
 bO (E5 [(I 0),Ac] []) λv32=>
 bS (AJ 2 H3 v2 v32) λH33=>
 bO (Am true 2 H33 v2) λv34=>
 K (.tup [v34,(B false)]) H33)
 (bO (Aa 0 v0) λv35=>
 bO (Am false 1 H3 v35) λv36=>
 bO (E5 [(I 0),Ac] [(0,1,v36)]) λv37=>
 bH (A9 H3 (.agg [(I 0),Ac])) λv38 H39=>
 bS (AJ 2 H39 v38 v37) λH40=>
 Gm a1 a2 v0 v2 v38 (I 0) H40 K)
theorem Mi {a0 a1 a2:AV}{H:AH}{K:KT}(h:HX a0 a1 a2 H K):Co 126 [a0,a1,a2] H K:=
 fok A8 FK Gn func126 h
def W2 (a0 a1:AV)(H:AH)(K:KT):Prop:=
 bO (Ar .geq a0 (I 0)) λv0=>
 bG v0 true λw1=>
 gO w1 (some a1) λv2=>
 bG v0 true λw3=>
 gO w3 (Ar .leq v2 (I 4096)) λv4=>
 bO (Ay v0 v4 (B false)) λv5=>
 bG v5 true λw6=>
 gO w6 (some a0) λv7=>
 bG v5 true λw8=>
 gO w8 (some a1) λv9=>
 bG v5 true λw10=>
 gO w10 (Ar .sub (I 1099511627776) v9) λv11=>
 bG v5 true λw12=>
 gO w12 (Ar .leq v7 v11) λv13=>
 bO (Ay v5 v13 (B false)) λv14=>
 K v14 H
theorem XS {a0 a1:AV}{H:AH}{K:KT}(h:W2 a0 a1 H K):Co 86 [a0,a1] H K:=
 fok A8 FK B6 func86 h
def VP:Dh:=VT [(1,[(1,some 4)])]
def TB (a0:AV)(H:AH)(K:KT):Prop:=
 bH (A9 H a0) λv0 H1=>
 bH (A9 H1 (.agg [(I 0),Ac])) λv2 H3=>
 bO (Aa 0 v0) λv4=>
 bO (Am false 1 H3 v4) λv5=>
 bO (Aa 1 v0) λv6=>
 bO (Am false 1 H3 v6) λv7=>
 bC (BCall prog 137 [v7] H3) λv8 H9=>
 bO (E5 [(I 0),Ac] [(0,1,v5),(1,1,v8)]) λv10=>
 bS (AJ 2 H9 v2 v10) λH11=>
(Am false 1 H9 v4=some v5)∧
 bO (Am true 2 H11 v2) λv12=>
 K v12 H11
theorem VQ {a0:AV}{H:AH}{K:KT}(h:TB a0 H K):Co 91 [a0] H K:=
 fok VP FK B6 func91 h
def Vo:Nat→Option (List Bool):=CN [(6,mk 48 0 [1,2,5])]
def WH (p:List Bool)(n:Nat):List AV→AH→Kf→Prop:=AL prog A8 FK A1 A1 Vo (sub p (AP f87)) n
def Vm (x1 x2 x5:AV)(H:AH)(K:KT):Prop:=lp (mk 48 0 [1,2,5]) (WH [tT,tT,tT,fF,fF,fF] 7) [x1,x2,x5] H (Be 0 (Bb (WH [tT,tT,tT,tT] 11) (Ba prog f87.results.toList K)))
def Si (R6:RT)(x1 x2 x5:AV)(H:AH)(K:KT):Prop:=
 bO (Aa 1 x2) λv0=>
 bO (Am false 1 H v0) λv1=>
 bO (Ar .gtr v1 (I 0)) λv2=>
 bB v2 λt3=>bI t3 (
 bO (Aa 1 x2) λv4=>
 bO (Am false 1 H v4) λv5=>
 bO (Aa 0 x2) λv6=>
 bO (Am false 1 H v6) λv7=>
 bO (Ar .rem v7 x1) λv8=>
 bO (Ar .sub x1 v8) λv9=>
 bO (amm cZ [v5,v9]) λv10=>
 bO (Aa 0 x2) λv11=>
 bO (Am false 1 H v11) λv12=>
 bO (E5 [(I 0),(I 0)] [(0,1,v12),(1,1,v10)]) λv13=>
 bH (FC H 2 1 (BI [(I 0),(I 0)] 1) [(0,2,v13)]) λv14 H15=>
 bH (HG 2 16 H15 x5 v14) λv16 H17=>
 bO (Aa 0 x2) λv18=>
 bO (Am false 1 H17 v18) λv19=>
 bO (Ar .add v19 v10) λv20=>
 bO (Aa 1 x2) λv21=>
 bO (Am false 1 H17 v21) λv22=>
 bO (Ar .sub v22 v10) λv23=>
 bO (E5 [(I 0),(I 0)] [(0,1,v20),(1,1,v23)]) λv24=>
 bS (AJ 2 H17 x2 v24) λH25=>
 R6 [x1,x2,v16] H25)
 (K x5 H)
theorem Vn {K:KT}:oV (λR x1 x2 x5 H=>Si R x1 x2 x5 H K) (λx1 x2 x5 H=>Vm x1 x2 x5 H K):=Yw (A2 _ _) (λ_ _ _ _ _=>by kernel_rfl)
def ZJ (a0 a1:AV)(H:AH)(K:KT):Prop:=
 bH (A9 H a0) λv0 H1=>
 bO (Am true 2 H1 v0) λv2=>
 bP (PCall prog 138 [v2] H1) λv3=>
 bO (E6 .not v3) λv4=>
 bG v4 false λw5=>
 gO w5 (Aa 1 v0) λv6=>
 bG v4 false λw7=>
 gO w7 (Am false 1 H1 v6) λv8=>
 bG v4 false λw9=>
 gO w9 (Ar .gtr v8 (I 4096)) λv10=>
 bO (Ay v4 (B true) v10) λv11=>
 bG v11 false λw12=>
 gO w12 (some a1) λv13=>
 bG v11 false λw14=>
 gO w14 (Ar .lss v13 (I 1)) λv15=>
 bO (Ay v11 (B true) v15) λv16=>
 bB v16 λt17=>bI t17 (
 K Ac H1)
 (Vm a1 v0 Ac H1 K)
theorem bW {a0 a1:AV}{H:AH}{K:KT}(h:ZJ a0 a1 H K):Co 87 [a0,a1] H K:=
 fok A8 FK Vo func87 h
def RM:Nat→Option (List Bool):=CN [(2,mk 31 0 [5])]
def Zb (p:List Bool)(n:Nat):List AV→AH→Kf→Prop:=AL prog A8 FK A1 A1 RM (sub p (AP f92)) n
def M1 (x5:AV)(H:AH)(K:KT):Prop:=jn (mk 31 0 [5]) (Zb [tT,tT,tT] 4) [x5] H (Ba prog f92.results.toList K)
def Kp (x5:AV)(H:AH)(K:KT):Prop:=
 K x5 H
theorem Ob (x5:AV)(H:AH)(K:KT):M1 x5 H K=Kp x5 H K:=(B3 _ _ _ _ _).trans (by kernel_rfl)
def W6 (a0 a1:AV)(H:AH)(K:KT):Prop:=
 bO (Ae a0) λv0=>
 bO (Aa 1 v0) λv1=>
 bO (Am false 1 H v1) λv2=>
 bP (PCall prog 142 [v2,a1] H) λv3=>
 bO (Ai v3 0) λv4=>
 bO (Ai v3 1) λv5=>
 bO (E6 .not v5) λv6=>
 bB v6 λt7=>bI t7 (
 bO (Ae a0) λv8=>
 bO (Aa 1 v8) λv9=>
 bO (Am false 1 H v9) λv10=>
 bO (E5 [(I 0),u0Z,u0Z,u0Z,u0Z,u0Z,u0Z,u0Z,u0Z] [(0,1,a1)]) λv11=>
 bH (FC H 9 1 (BI [(I 0),u0Z,u0Z,u0Z,u0Z,u0Z,u0Z,u0Z,u0Z] 1) [(0,9,v11)]) λv12 H13=>
 bC (BCall prog 143 [v10,v4,v12] H13) λv14 H15=>
 bO (Ae a0) λv16=>
 bO (Aa 1 v16) λv17=>
 bS (AJ 1 H15 v17 v14) λH18=>
 M1 v4 H18 K)
 (M1 v4 H K)
theorem XZ {a0 a1:AV}{H:AH}{K:KT}(h:W6 a0 a1 H K):Co 92 [a0,a1] H K:=
 fok A8 FK RM func92 h
def UQ (a0 a1:AV)(H:AH)(K:KT):Prop:=
 bP (PCall prog 174 [a0,a1,(.fn (.func 175) [] [])] H) λv0=>
 bO (Ai v0 0) λv1=>
 bO (Ai v0 1) λv2=>
 K (.tup [v1,v2]) H
theorem WY {a0 a1:AV}{H:AH}{K:KT}(h:UQ a0 a1 H K):Co 142 [a0,a1] H K:=
 fok A8 FK B6 func142 h
def fJ (a0 a1:AV)(H:AH)(K:KT):Prop:=
 bH (A9 H a0) λv0 H1=>
 bH (A9 H1 a1) λv2 H3=>
 bH (A9 H3 (.agg [(I 0),(I 0)])) λv4 H5=>
 bO (Am true 2 H5 v0) λv6=>
 bP (PCall prog 138 [v6] H5) λv7=>
 bO (E6 .not v7) λv8=>
 bG v8 false λw9=>
 gO w9 (Am true 2 H5 v2) λv10=>
 bG v8 false λw11=>
 gP w11 (PCall prog 138 [v10] H5) λv12=>
 bG v8 false λw13=>
 gO w13 (E6 .not v12) λv14=>
 bO (Ay v8 (B true) v14) λv15=>
 bB v15 λt16=>bI t16 (
 bO (E5 [(I 0),(I 0)] []) λv17=>
 bS (AJ 2 H5 v4 v17) λH18=>
 bO (Am true 2 H18 v4) λv19=>
 K v19 H18)
 (bO (Aa 0 v0) λv20=>
 bO (Am false 1 H5 v20) λv21=>
 bO (Aa 0 v2) λv22=>
 bO (Am false 1 H5 v22) λv23=>
 bO (amm Wb [v21,v23]) λv24=>
 bO (Aa 0 v0) λv25=>
 bO (Am false 1 H5 v25) λv26=>
 bO (Aa 1 v0) λv27=>
 bO (Am false 1 H5 v27) λv28=>
 bO (Ar .add v26 v28) λv29=>
 bO (Aa 0 v2) λv30=>
 bO (Am false 1 H5 v30) λv31=>
 bO (Aa 1 v2) λv32=>
 bO (Am false 1 H5 v32) λv33=>
 bO (Ar .add v31 v33) λv34=>
 bO (amm cZ [v29,v34]) λv35=>
 bO (Ar .geq v24 v35) λv36=>
 bB v36 λt37=>bI t37 (
 bO (E5 [(I 0),(I 0)] []) λv38=>
 bS (AJ 2 H5 v4 v38) λH39=>
 bO (Am true 2 H39 v4) λv40=>
 K v40 H39)
 (bO (Ar .sub v35 v24) λv41=>
 bO (E5 [(I 0),(I 0)] [(0,1,v24),(1,1,v41)]) λv42=>
 bS (AJ 2 H5 v4 v42) λH43=>
 bO (Am true 2 H43 v4) λv44=>
 K v44 H43))
theorem fK {a0 a1:AV}{H:AH}{K:KT}(h:fJ a0 a1 H K):Co 152 [a0,a1] H K:=
 fok A8 FK B6 func152 h
def US (a0:AV)(H:AH)(K:KT):Prop:=
 bH (A9 H (.agg [(I 0),(I 0)])) λv0 H1=>
 bO (Ar .mul a0 (I 8)) λv2=>
 bO (E5 [(I 0),(I 0)] [(0,1,v2),(1,1,(I 8))]) λv3=>
 bS (AJ 2 H1 v0 v3) λH4=>
 bO (Am true 2 H4 v0) λv5=>
 K v5 H4
theorem WZ {a0:AV}{H:AH}{K:KT}(h:US a0 H K):Co 153 [a0] H K:=
 fok A8 FK B6 func153 h
def Qw:Nat→Option (List Bool):=CN [(3,mk 25 0 [1,2,8,9])]
def RK (p:List Bool)(n:Nat):List AV→AH→Kf→Prop:=AL prog A8 FK A1 A1 Qw (sub p (AP f141)) n
def Qv (x1 x2 x8 x9:AV)(H:AH)(K:KT):Prop:=lp (mk 25 0 [1,2,8,9]) (RK [tT,fF,tT,fF,fF] 4) [x1,x2,x8,x9] H (Be 0 (Bb (RK [tT,tT] 10) (Ba prog f141.results.toList K)))
def Oa (R3:RT)(x1 x2 x8 x9:AV)(H:AH)(K:KT):Prop:=
 bO (Ar .lss x9 (I 8)) λv0=>
 bB v0 λt1=>bI t1 (
 bO (pV false 1 8 1 x8 x9) λv2=>
 bO (Ar .neq v2 u0Z) λv3=>
 bG v3 true λw4=>
 gO w4 (Aa 0 x2) λv5=>
 bG v3 true λw6=>
 gO w6 (Am false 1 H v5) λv7=>
 bG v3 true λw8=>
 gO w8 (Ar .mul v7 (I 8)) λv9=>
 bG v3 true λw10=>
 gO w10 (some x9) λv11=>
 bG v3 true λw12=>
 gO w12 (Ar .add v9 v11) λv13=>
 bG v3 true λw14=>
 gO w14 (some x1) λv15=>
 bG v3 true λw16=>
 gO w16 (Ar .geq v13 v15) λv17=>
 bO (Ay v3 v17 (B false)) λv18=>
 bB v18 λt19=>bI t19 (
 K (B false) H)
 (bO (Ar .add x9 (I 1)) λv20=>
 R3 [x1,x2,x8,v20] H))
 (K (B true) H)
theorem RJ {K:KT}:dC (λR x1 x2 x8 x9 H=>Oa R x1 x2 x8 x9 H K) (λx1 x2 x8 x9 H=>Qv x1 x2 x8 x9 H K):=Tb (A2 _ _) (λ_ _ _ _ _ _=>by kernel_rfl)
def UP (a0 a1:AV)(H:AH)(K:KT):Prop:=
 bH (A9 H a0) λv0 H1=>
 bO (Aa 1 v0) λv2=>
 bO (Am true 8 H1 v2) λv3=>
 Qv a1 v0 v3 (I 0) H1 K
theorem WX {a0 a1:AV}{H:AH}{K:KT}(h:UP a0 a1 H K):Co 141 [a0,a1] H K:=
 fok A8 FK Qw func141 h
def QW:Dh:=VT [(1,[(1,some 4)])]
def Ny (a0:AV)(H:AH)(K:KT):Prop:=
 bH (A9 H a0) λv0 H1=>
 bH (A9 H1 (.agg [(I 0),Ac])) λv2 H3=>
 bO (Aa 0 v0) λv4=>
 bO (Am false 1 H3 v4) λv5=>
 bO (Aa 1 v0) λv6=>
 bO (Am false 1 H3 v6) λv7=>
 bH (HG 9 16 H3 Ac v7) λv8 H9=>
 bO (E5 [(I 0),Ac] [(0,1,v5),(1,1,v8)]) λv10=>
 bS (AJ 2 H9 v2 v10) λH11=>
(Am false 1 H9 v4=some v5)∧
 bO (Am true 2 H11 v2) λv12=>
 K v12 H11
theorem QX {a0:AV}{H:AH}{K:KT}(h:Ny a0 H K):Co 169 [a0] H K:=
 fok QW FK B6 func169 h
def LO:Nat→Option (List Bool):=CN [(3,mk 72 0 [0,1,5])]
def N0 (p:List Bool)(n:Nat):List AV→AH→Kf→Prop:=AL prog A8 FK A1 A1 LO (sub p (AP f170)) n
def LN (x0 x1 x5:AV)(H:AH)(K:KT):Prop:=lp (mk 72 0 [0,1,5]) (N0 [tT,tT,fF,fF,fF] 4) [x0,x1,x5] H (Be 0 (Bb (N0 [tT,tT,tT] 6) (Ba prog f170.results.toList K)))
def Kh (R3:RT)(x0 x1 x5:AV)(H:AH)(K:KT):Prop:=
 bO (Ae x0) λv0=>
 bO (Aa 1 v0) λv1=>
 bO (Am false 1 H v1) λv2=>
 bO (AY v2) λv3=>
 bO (Ar .lss x5 v3) λv4=>
 bG v4 true λw5=>
 gO w5 (some x0) λv6=>
 bG v4 true λw7=>
 gO w7 (Ae v6) λv8=>
 bG v4 true λw9=>
 gO w9 (Aa 1 v8) λv10=>
 bG v4 true λw11=>
 gO w11 (Am false 1 H v10) λv12=>
 bG v4 true λw13=>
 gO w13 (some x5) λv14=>
 bG v4 true λw15=>
 gO w15 (Bq 9 v12 v14) λv16=>
 bG v4 true λw17=>
 gO w17 (Aa 0 v16) λv18=>
 bG v4 true λw19=>
 gO w19 (Am false 1 H v18) λv20=>
 bG v4 true λw21=>
 gO w21 (some x1) λv22=>
 bG v4 true λw23=>
 gO w23 (Ar .lss v20 v22) λv24=>
 bO (Ay v4 v24 (B false)) λv25=>
 bB v25 λt26=>bI t26 (
 bO (Ar .add x5 (I 1)) λv27=>
 R3 [x0,x1,v27] H)
 (bO (Ae x0) λv28=>
 bO (Aa 1 v28) λv29=>
 bO (Am false 1 H v29) λv30=>
 bO (AY v30) λv31=>
 bO (Ar .lss x5 v31) λv32=>
 bG v32 true λw33=>
 gO w33 (some x0) λv34=>
 bG v32 true λw35=>
 gO w35 (Ae v34) λv36=>
 bG v32 true λw37=>
 gO w37 (Aa 1 v36) λv38=>
 bG v32 true λw39=>
 gO w39 (Am false 1 H v38) λv40=>
 bG v32 true λw41=>
 gO w41 (some x5) λv42=>
 bG v32 true λw43=>
 gO w43 (Bq 9 v40 v42) λv44=>
 bG v32 true λw45=>
 gO w45 (Aa 0 v44) λv46=>
 bG v32 true λw47=>
 gO w47 (Am false 1 H v46) λv48=>
 bG v32 true λw49=>
 gO w49 (some x1) λv50=>
 bG v32 true λw51=>
 gO w51 (Ar .eql v48 v50) λv52=>
 bO (Ay v32 v52 (B false)) λv53=>
 bB v53 λt54=>bI t54 (
 K x5 H)
 (bO (Ae x0) λv55=>
 bO (Aa 1 v55) λv56=>
 bO (Am false 1 H v56) λv57=>
 bO (Bj 9 v57 none (some x5) none) λv58=>
 bH (HG 9 16 H Ac v58) λv59 H60=>
 bO (E5 [(I 0),u0Z,u0Z,u0Z,u0Z,u0Z,u0Z,u0Z,u0Z] [(0,1,x1)]) λv61=>
 bH (FC H60 9 1 (BI [(I 0),u0Z,u0Z,u0Z,u0Z,u0Z,u0Z,u0Z,u0Z] 1) [(0,9,v61)]) λv62 H63=>
 bH (HG 9 16 H63 v59 v62) λv64 H65=>
 bO (Ae x0) λv66=>
 bO (Aa 1 v66) λv67=>
 bO (Am false 1 H65 v67) λv68=>
 bO (Bj 9 v68 (some x5) none none) λv69=>
 bH (HG 9 16 H65 v64 v69) λv70 H71=>
 bO (Ae x0) λv72=>
 bO (Aa 1 v72) λv73=>
 bS (AJ 1 H71 v73 v70) λH74=>
 K x5 H74))
theorem OK {K:KT}:oV (λR x0 x1 x5 H=>Kh R x0 x1 x5 H K) (λx0 x1 x5 H=>LN x0 x1 x5 H K):=Yw (A2 _ _) (λ_ _ _ _ _=>by kernel_rfl)
def P9 (a0 a1:AV)(H:AH)(K:KT):Prop:=
 LN a0 a1 (I 0) H K
theorem Tn {a0 a1:AV}{H:AH}{K:KT}(h:P9 a0 a1 H K):Co 170 [a0,a1] H K:=
 fok A8 FK LO func170 h
def LL:Nat→Option (List Bool):=CN [(3,mk 22 0 [1,2,5])]
def Nz (p:List Bool)(n:Nat):List AV→AH→Kf→Prop:=AL prog A8 FK A1 A1 LL (sub p (AP f121)) n
def LJ (x1 x2 x5:AV)(H:AH)(K:KT):Prop:=lp (mk 22 0 [1,2,5]) (Nz [tT,fF,tT,fF,fF] 4) [x1,x2,x5] H (Be 0 (Bb (Nz [tT,tT] 9) (Ba prog f121.results.toList K)))
def Kg (R3:RT)(x1 x2 x5:AV)(H:AH)(K:KT):Prop:=
 bO (Aa 1 x2) λv0=>
 bO (Am false 1 H v0) λv1=>
 bO (AY v1) λv2=>
 bO (Ar .lss x5 v2) λv3=>
 bB v3 λt4=>bI t4 (
 bO (Aa 1 x2) λv5=>
 bO (Am false 1 H v5) λv6=>
 bO (Bq 9 v6 x5) λv7=>
 bO (Aa 0 v7) λv8=>
 bO (Am false 1 H v8) λv9=>
 bO (Ar .eql v9 x1) λv10=>
 bB v10 λt11=>bI t11 (
 K x5 H)
 (bO (Ar .add x5 (I 1)) λv12=>
 R3 [x1,x2,v12] H))
 (K (I (-1)) H)
theorem OJ {K:KT}:oV (λR x1 x2 x5 H=>Kg R x1 x2 x5 H K) (λx1 x2 x5 H=>LJ x1 x2 x5 H K):=Yw (A2 _ _) (λ_ _ _ _ _=>by kernel_rfl)
def P7 (a0 a1:AV)(H:AH)(K:KT):Prop:=
 bH (A9 H a0) λv0 H1=>
 LJ a1 v0 (I 0) H1 K
theorem Th {a0 a1:AV}{H:AH}{K:KT}(h:P7 a0 a1 H K):Co 121 [a0,a1] H K:=
 fok A8 FK LL func121 h
def ER:Nat→Option (List Bool):=CN [(6,mk 26 0 [0,1,12,13])]
def Ff (p:List Bool)(n:Nat):List AV→AH→Kf→Prop:=AL prog A8 FK A1 A1 ER (sub p (AP f93)) n
def EQ (x0 x1 x12 x13:AV)(H:AH)(K:KT):Prop:=lp (mk 26 0 [0,1,12,13]) (Ff [tT,tT,fF,tT,fF,fF] 7) [x0,x1,x12,x13] H (Be 0 (Bb (Ff [tT,tT,tT] 13) (Ba prog f93.results.toList K)))
def Ex (R6:RT)(x0 x1 x12 x13:AV)(H:AH)(K:KT):Prop:=
 bO (Ar .lss x13 x12) λv0=>
 bB v0 λt1=>bI t1 (
 bO (Bq 9 x0 x13) λv2=>
 bO (Am true 9 H v2) λv3=>
 bO (Bq 9 x1 x13) λv4=>
 bO (Am true 9 H v4) λv5=>
 bO (O5 prog .neq 134 v3 v5) λv6=>
 bB v6 λt7=>bI t7 (
 K (B false) H)
 (bO (Ar .add x13 (I 1)) λv8=>
 R6 [x0,x1,x12,v8] H))
 (K (B true) H)
theorem Ha {K:KT}:dC (λR x0 x1 x12 x13 H=>Ex R x0 x1 x12 x13 H K) (λx0 x1 x12 x13 H=>EQ x0 x1 x12 x13 H K):=Tb (A2 _ _) (λ_ _ _ _ _ _=>by kernel_rfl)
def FB (a0 a1:AV)(H:AH)(K:KT):Prop:=
 bO (AY a0) λv0=>
 bO (AY a1) λv1=>
 bO (Ar .neq v0 v1) λv2=>
 bB v2 λt3=>bI t3 (
 K (B false) H)
 (bO (AY a0) λv4=>
 EQ a0 a1 v4 (I 0) H K)
theorem J6 {a0 a1:AV}{H:AH}{K:KT}(h:FB a0 a1 H K):Co 93 [a0,a1] H K:=
 fok A8 FK ER func93 h
def St (a0 a1:AV)(H:AH)(K:KT):Prop:=
 bH (A9 H a0) λv0 H1=>
 bO (Am true 2 H1 v0) λv2=>
 bO (Ar .quo a1 (I 8)) λv3=>
 bP (PCall prog 121 [v2,v3] H1) λv4=>
 bO (Ar .lss v4 (I 0)) λv5=>
 bB v5 λt6=>bI t6 (
 K u0Z H1)
 (bO (Aa 1 v0) λv7=>
 bO (Am false 1 H1 v7) λv8=>
 bO (Ar .rem a1 (I 8)) λv9=>
 bO (Bq 9 v8 v4) λv10=>
 bO (Aa 1 v10) λv11=>
 bO (QE 8 1 v11 v9) λv12=>
 bO (Am false 1 H1 v12) λv13=>
 K v13 H1)
theorem V2 {a0 a1:AV}{H:AH}{K:KT}(h:St a0 a1 H K):Co 123 [a0,a1] H K:=
 fok A8 FK B6 func123 h
def W7 (a0 a1:AV)(H:AH)(K:KT):Prop:=
 bO (Ar .geq a0 (I 0)) λv0=>
 bG v0 true λw1=>
 gO w1 (some a1) λv2=>
 bG v0 true λw3=>
 gO w3 (Ar .geq v2 (I 1)) λv4=>
 bO (Ay v0 v4 (B false)) λv5=>
 bG v5 true λw6=>
 gO w6 (some a1) λv7=>
 bG v5 true λw8=>
 gO w8 (Ar .leq v7 (I 1099511627776)) λv9=>
 bO (Ay v5 v9 (B false)) λv10=>
 bG v10 true λw11=>
 gO w11 (some a0) λv12=>
 bG v10 true λw13=>
 gO w13 (some a1) λv14=>
 bG v10 true λw15=>
 gO w15 (Ar .sub (I 1099511627776) v14) λv16=>
 bG v10 true λw17=>
 gO w17 (Ar .leq v12 v16) λv18=>
 bO (Ay v10 v18 (B false)) λv19=>
 K v19 H
theorem Ya {a0 a1:AV}{H:AH}{K:KT}(h:W7 a0 a1 H K):Co 158 [a0,a1] H K:=
 fok A8 FK B6 func158 h
def DN:Nat→Option (List Bool):=CN [(10,mk 42 0 [0,1,5,6]),(7,mk 42 0 [0,1,5,6])]
def BC (p:List Bool)(n:Nat):List AV→AH→Kf→Prop:=AL prog A8 FK A1 A1 DN (sub p (AP f155)) n
def Cv (R7:RT)(x0 x1 x5 x6:AV)(H:AH)(K:KT):Prop:=jn (mk 42 0 [0,1,5,6]) (BC [tT,tT,tT,fF,tT,fF,fF,tT,tT] 14) [x0,x1,x5,x6] H (TO (mk 42 0 [0,1,5,6]) R7 (Be 0 (Bb (BC [tT,tT,tT,tT] 14) (Ba prog f155.results.toList K))))
def DM (x0 x1 x5 x6:AV)(H:AH)(K:KT):Prop:=lp (mk 42 0 [0,1,5,6]) (BC [tT,tT,tT,fF,tT,fF,fF] 8) [x0,x1,x5,x6] H (Be 0 (Bb (BC [tT,tT,tT,tT] 14) (Ba prog f155.results.toList K)))
def Cd (R7:RT)(x0 x1 x5 x6:AV)(H:AH)(K:KT):Prop:=
 bO (Ar .add x6 (I 1)) λv0=>
 R7 [x0,x1,x5,v0] H
theorem Dr (R7:RT)(x0 x1 x5 x6:AV)(H:AH)(K:KT):Cv R7 x0 x1 x5 x6 H K=Cd R7 x0 x1 x5 x6 H K:=(B3 _ _ _ _ _).trans (by kernel_rfl)
def D2 (R7:RT)(x0 x1 x5 x6:AV)(H:AH)(K:KT):Prop:=
 bO (AY x0) λv0=>
 bO (Ar .lss x6 v0) λv1=>
 bB v1 λt2=>bI t2 (
 bO (Bq 9 x0 x6) λv3=>
 bO (Am true 9 H v3) λv4=>
 bH (A9 H (.agg [(I 0),u0Z,u0Z,u0Z,u0Z,u0Z,u0Z,u0Z,u0Z])) λv5 H6=>
 bS (AJ 9 H6 v5 v4) λH7=>
 bO (Am true 9 H7 v5) λv8=>
 bF true x1 λk11 f11 c11=>
 bT (C3 prog k11||!true)<|
 bC (BCall prog k11 (f11++[v8]++c11) H7) λv9 H10=>
 bO (E6 .not v9) λv12=>
 bB v12 λt13=>bI t13 (
 bO (Am true 9 H10 v5) λv14=>
 bO (Bq 9 x0 x5) λv15=>
 bS (AJ 9 H10 v15 v14) λH16=>
 bO (Ar .add x5 (I 1)) λv17=>
 Cv R7 x0 x1 v17 x6 H16 K)
 (Cv R7 x0 x1 x5 x6 H10 K))
 (bO (Bj 9 x0 (some x5) none none) λv18=>
 bS (tB [(I 0),u0Z,u0Z,u0Z,u0Z,u0Z,u0Z,u0Z,u0Z] H v18) λH19=>
 bO (Bj 9 x0 none (some x5) none) λv20=>
 K v20 H19)
theorem FG {K:KT}:dC (λR x0 x1 x5 x6 H=>D2 R x0 x1 x5 x6 H K) (λx0 x1 x5 x6 H=>DM x0 x1 x5 x6 H K):=Tb (A2 _ _) (λ_ _ _ _ _ _=>by kernel_rfl)
def Ew (a0 a1:AV)(H:AH)(K:KT):Prop:=
 bP (PCall prog 173 [a0,a1] H) λv0=>
 bO (Ar .eql v0 (I (-1))) λv1=>
 bB v1 λt2=>bI t2 (
 K a0 H)
 (bO (Ar .add v0 (I 1)) λv3=>
 DM a0 a1 v0 v3 H K)
theorem GZ {a0 a1:AV}{H:AH}{K:KT}(h:Ew a0 a1 H K):Co 155 [a0,a1] H K:=
 fok A8 FK DN func155 h
def NX (a0 a1:AV)(H:AH)(K:KT):Prop:=
 bH (A9 H a0) λv0 H1=>
 bO (Aa 0 v0) λv2=>
 bO (Am false 1 H1 v2) λv3=>
 bO (Ar .mul v3 (I 8)) λv4=>
 bO (Am false 1 H1 a1) λv5=>
 bO (Ar .geq v4 v5) λv6=>
 K v6 H1
theorem RH {a0 a1:AV}{H:AH}{K:KT}(h:NX a0 a1 H K):Co 156 [a0,a1] H K:=
 fok A8 FK B6 func156 h
def RQ:Dh:=VT [(1,[(3,some 7),(5,some 7)])]
def RR:Nat→Option (List Bool):=CN [(3,mk 33 0 [0,4,14,15])]
def Zc (p:List Bool)(n:Nat):List AV→AH→Kf→Prop:=AL prog RQ FK A1 A1 RR (sub p (AP f157)) n
def RP (x0 x4 x14 x15:AV)(H:AH)(K:KT):Prop:=lp (mk 33 0 [0,4,14,15]) (Zc [tT,tT,tT,fF,fF] 4) [x0,x4,x14,x15] H (Be 0 (Ba prog f157.results.toList K))
def Pi (R3:RT)(x0 x4 x14 x15:AV)(H:AH)(K:KT):Prop:=
 bO (Ar .lss x15 x14) λv0=>
 bB v0 λt1=>bI t1 (
 bO (Aa 0 x4) λv2=>
 bO (Am false 1 H v2) λv3=>
 bO (Ae x0) λv4=>
 bO (Aa 0 v4) λv5=>
 bO (Am false 1 H v5) λv6=>
 bO (Ar .mul v6 (I 8)) λv7=>
 bO (Ar .sub v3 v7) λv8=>
 bO (Ar .add v8 x15) λv9=>
 bO (Ae x0) λv10=>
 bO (Aa 1 v10) λv11=>
 bO (QE 8 1 v11 v9) λv12=>
 bS (AJ 1 H v12 u0Z) λH13=>
 bO (Ar .add x15 (I 1)) λv14=>
 R3 [x0,x4,x14,v14] H13)
 (K (.tup []) H)
theorem SY {K:KT}:dC (λR x0 x4 x14 x15 H=>Pi R x0 x4 x14 x15 H K) (λx0 x4 x14 x15 H=>RP x0 x4 x14 x15 H K):=Tb (A2 _ _) (λ_ _ _ _ _ _=>by kernel_rfl)
def W8 (a0 a1:AV)(H:AH)(K:KT):Prop:=
 bH (A9 H a1) λv0 H1=>
 bO (Ae a0) λv2=>
 bO (Aa 0 v2) λv3=>
 bO (Am false 1 H1 v3) λv4=>
 bP (BPure prog 153 [v4]) λv5=>
 bO (Am true 2 H1 v0) λv6=>
 bP (BPure prog 152 [v5,v6]) λv7=>
 bH (A9 H1 (.agg [(I 0),(I 0)])) λv8 H9=>
 bS (AJ 2 H9 v8 v7) λH10=>
(Am false 1 H9 v3=some v4)∧
(Am true 2 H9 v0=some v6)∧
 bO (Aa 1 v8) λv11=>
 bO (Am false 1 H10 v11) λv12=>
 RP a0 v8 v12 (I 0) H10 K
theorem Yb {a0 a1:AV}{H:AH}{K:KT}(h:W8 a0 a1 H K):Co 157 [a0,a1] H K:=
 fok RQ FK RR func157 h
def Ry (a0 a1:AV)(H:AH)(K:KT):Prop:=
 bH (A9 H a0) λv0 H1=>
 bO (Aa 0 v0) λv2=>
 bO (Am false 1 H1 v2) λv3=>
 bP (BPure prog 153 [v3]) λv4=>
 bO (Am true 2 H1 a1) λv5=>
 bP (BPure prog 160 [v4,v5]) λv6=>
 K v6 H1
theorem UN {a0 a1:AV}{H:AH}{K:KT}(h:Ry a0 a1 H K):Co 159 [a0,a1] H K:=
 fok A8 FK B6 func159 h
def Y3 (a0 a1:AV)(H:AH)(K:KT):Prop:=
 bH (A9 H a0) λv0 H1=>
 bH (A9 H1 a1) λv2 H3=>
 bO (Am true 2 H3 v0) λv4=>
 bP (PCall prog 138 [v4] H3) λv5=>
 bO (E6 .not v5) λv6=>
 bG v6 false λw7=>
 gO w7 (Am true 2 H3 v2) λv8=>
 bG v6 false λw9=>
 gP w9 (PCall prog 138 [v8] H3) λv10=>
 bG v6 false λw11=>
 gO w11 (E6 .not v10) λv12=>
 bO (Ay v6 (B true) v12) λv13=>
 bB v13 λt14=>bI t14 (
 K (B false) H3)
 (bO (Aa 1 v0) λv15=>
 bO (Am false 1 H3 v15) λv16=>
 bO (Ar .eql v16 (I 0)) λv17=>
 bG v17 false λw18=>
 gO w18 (Am true 2 H3 v0) λv19=>
 bG v17 false λw20=>
 gO w20 (Am true 2 H3 v2) λv21=>
 bG v17 false λw22=>
 gP w22 (BPure prog 152 [v19,v21]) λv23=>
 bG v17 false λw24=>
 gO w24 (Am true 2 H3 v0) λv25=>
 bG v17 false λw26=>
 gO w26 (O5 prog .eql 126 v23 v25) λv27=>
 bO (Ay v17 (B true) v27) λv28=>
 K v28 H3)
theorem Zl {a0 a1:AV}{H:AH}{K:KT}(h:Y3 a0 a1 H K):Co 160 [a0,a1] H K:=
 fok A8 FK B6 func160 h
def FA (a0:AV)(H:AH)(K:KT):Prop:=
 bO (YO .eql Tc a0 Ac) λv0=>
 bB v0 λt1=>bI t1 (
 K Ac H)
 (bH (FC H 9 0 (BI [(I 0),u0Z,u0Z,u0Z,u0Z,u0Z,u0Z,u0Z,u0Z] 0) []) λv2 H3=>
 bH (HG 9 16 H3 v2 a0) λv4 H5=>
 K v4 H5)
theorem J5 {a0:AV}{H:AH}{K:KT}(h:FA a0 H K):Co 137 [a0] H K:=
 fok A8 FK B6 func137 h
def WG (a0:AV)(H:AH)(K:KT):Prop:=
 bH (A9 H a0) λv0 H1=>
 bO (Aa 0 v0) λv2=>
 bO (Am false 1 H1 v2) λv3=>
 bP (PCall prog 69 [v3] H1) λv4=>
 bG v4 true λw5=>
 gO w5 (Aa 1 v0) λv6=>
 bG v4 true λw7=>
 gO w7 (Am false 1 H1 v6) λv8=>
 bG v4 true λw9=>
 gP w9 (PCall prog 69 [v8] H1) λv10=>
 bO (Ay v4 v10 (B false)) λv11=>
 bG v11 true λw12=>
 gO w12 (Aa 1 v0) λv13=>
 bG v11 true λw14=>
 gO w14 (Am false 1 H1 v13) λv15=>
 bG v11 true λw16=>
 gO w16 (Aa 0 v0) λv17=>
 bG v11 true λw18=>
 gO w18 (Am false 1 H1 v17) λv19=>
 bG v11 true λw20=>
 gO w20 (Ar .sub (I 4611686018427387904) v19) λv21=>
 bG v11 true λw22=>
 gO w22 (Ar .leq v15 v21) λv23=>
 bO (Ay v11 v23 (B false)) λv24=>
 K v24 H1
theorem Y2 {a0:AV}{H:AH}{K:KT}(h:WG a0 H K):Co 138 [a0] H K:=
 fok A8 FK B6 func138 h
def Jb:Nat→Bool:=gU []
def BH (a0 a1 a2:AV)(H:AH)(K:KT):Prop:=
 bO (Bj 9 a0 (some a1) none none) λv0=>
 bO (AY a2) λv1=>
 bO (Ar .eql v1 (I 0)) λv2=>
 bB v2 λt3=>bI t3 (
 K a0 H)
 (bO (AY a0) λv4=>
 bO (Ar .eql a1 v4) λv5=>
 bB v5 λt6=>bI t6 (
 bH (HG 9 16 H a0 a2) λv7 H8=>
 K v7 H8)
 (bO (Ar .add v4 v1) λv9=>
 bO (YP a0) λv10=>
 bO (Ar .gtr v9 v10) λv11=>
 bB v11 λt12=>bI t12 (
 bO (Bj 9 a0 none (some a1) none) λv13=>
 bO (Ar .add v4 v1) λv14=>
 bO (Ar .sub v14 a1) λv15=>
 bH (O4 H 9 16 [(I 0),u0Z,u0Z,u0Z,u0Z,u0Z,u0Z,u0Z,u0Z] v13 v15) λv16 H17=>
 bO (Bj 9 v16 (some a1) none none) λv18=>
 bH (SR 9 H17 v18 a2) λv19 H20=>
 bO (Ar .add a1 v1) λv21=>
 bO (Bj 9 v16 (some v21) none none) λv22=>
 bO (Bj 9 a0 (some a1) none none) λv23=>
 bH (SR 9 H20 v22 v23) λv24 H25=>
 K v16 H25)
 (bO (Ar .add v4 v1) λv26=>
 bO (Bj 9 a0 none (some v26) none) λv27=>
 bO (Ar .add a1 v1) λv28=>
 bO (Bj 9 v27 (some v28) none none) λv29=>
 bP (ExtR prog 176 [a2,v29] H) λv30=>
 bO (E6 .not v30) λv31=>
 bB v31 λt32=>bI t32 (
 bO (Ar .add a1 v1) λv33=>
 bO (Bj 9 v27 (some v33) none none) λv34=>
 bO (Bj 9 v27 (some a1) none none) λv35=>
 bH (SR 9 H v34 v35) λv36 H37=>
 bO (Bj 9 v27 (some a1) none none) λv38=>
 bH (SR 9 H37 v38 a2) λv39 H40=>
 K v27 H40)
 (bO (Bj 9 v27 (some v4) none none) λv41=>
 bH (SR 9 H v41 a2) λv42 H43=>
 bO (Bj 9 v27 (some a1) none none) λv44=>
 bC (BCall prog 177 [v44,v1] H43) λv45 H46=>
 K v27 H46))))
theorem Ja (a0 a1 a2:AV)(H:AH)(K:KT):Xm prog A8 FK zdgkZ Jb B6 f143 [a0,a1,a2] H K=BH a0 a1 a2 H K:=by kernel_rfl
theorem Df {a0 a1 a2:AV}{H:AH}{K:KT}(h:BH a0 a1 a2 H K):ACalls prog 143 [a0,a1,a2] H K:=
 Vz Zk func143 (by kernel_rfl) (Eq.mpr (Ja a0 a1 a2 H K) h)
def CG:Nat→Option (List Bool):=CN [(4,mk 49 0 [0,1,2,8,9,10])]
def CL (p:List Bool)(n:Nat):List AV→AH→Kf→Prop:=AL prog A8 FK A1 A1 CG (sub p (AP f174)) n
def CF (x0 x1 x2 x8 x9 x10:AV)(H:AH)(K:KT):Prop:=lp (mk 49 0 [0,1,2,8,9,10]) (CL [tT,tT,tT,fF,fF,fF] 5) [x0,x1,x2,x8,x9,x10] H (Be 0 (Bb (CL [tT,tT,tT,tT] 9) (Ba prog f174.results.toList K)))
def Cy (R4:RT)(x0 x1 x2 x8 x9 x10:AV)(H:AH)(K:KT):Prop:=
 bO (Ar .lss x9 x10) λv0=>
 bB v0 λt1=>bI t1 (
 bO (Ar .add x9 x10) λv2=>
 bO (oY .u64 v2) λv3=>
 bO (Ar .shr v3 (.lit (.int .u64 1))) λv4=>
 bO (oY .i64 v4) λv5=>
 bO (Bq 9 x0 v5) λv6=>
 bO (Am true 9 H v6) λv7=>
 bF true x2 λk10 f10 c10=>
 bT (C3 prog k10||!true)<|
 bC (BCall prog k10 (f10++[v7,x1]++c10) H) λv8 H9=>
 bO (Ar .lss v8 (I 0)) λv11=>
 bB v11 λt12=>bI t12 (
 bO (Ar .add v5 (I 1)) λv13=>
 R4 [x0,x1,x2,x8,v13,x10] H9)
 (R4 [x0,x1,x2,x8,x9,v5] H9))
 (bO (Ar .lss x9 x8) λv14=>
 bG v14 true λw15=>
 gO w15 (some x2) λv16=>
 bG v14 true λw17=>
 gO w17 (some x0) λv18=>
 bG v14 true λw19=>
 gO w19 (some x9) λv20=>
 bG v14 true λw21=>
 gO w21 (Bq 9 v18 v20) λv22=>
 bG v14 true λw23=>
 gO w23 (Am true 9 H v22) λv24=>
 bG v14 true λw25=>
 gO w25 (some x1) λv26=>
 bG v14 true λw27=>
 bF w27 v16 λk30 f30 c30=>
 bT (C3 prog k30||!w27)<|
 gC w27 (BCall prog k30 (f30++[v24,v26]++c30) H) H λv28 H29=>
 bG v14 true λw31=>
 gO w31 (Ar .eql v28 (I 0)) λv32=>
 bO (Ay v14 v32 (B false)) λv33=>
 K (.tup [x9,v33]) H29)
theorem Ef {K:KT}:oX (λR x0 x1 x2 x8 x9 x10 H=>Cy R x0 x1 x2 x8 x9 x10 H K) (λx0 x1 x2 x8 x9 x10 H=>CF x0 x1 x2 x8 x9 x10 H K):=bM (A2 _ _) (λ_ _ _ _ _ _ _ _=>by kernel_rfl)
def CZ (a0 a1 a2:AV)(H:AH)(K:KT):Prop:=
 bO (AY a0) λv0=>
 CF a0 a1 a2 v0 (I 0) v0 H K
theorem EN {a0 a1 a2:AV}{H:AH}{K:KT}(h:CZ a0 a1 a2 H K):Co 174 [a0,a1,a2] H K:=
 fok A8 FK CG func174 h
def RN (a0 a1:AV)(H:AH)(K:KT):Prop:=
 bH (A9 H a0) λv0 H1=>
 bO (Aa 0 v0) λv2=>
 bO (Am false 1 H1 v2) λv3=>
 bP (PCall prog 136 [v3,a1] H1) λv4=>
 K v4 H1
theorem UR {a0 a1:AV}{H:AH}{K:KT}(h:RN a0 a1 H K):Co 175 [a0,a1] H K:=
 fok A8 FK B6 func175 h
def Qn (a0 a1:AV)(H:AH)(K:KT):Prop:=
 bP (PCall prog 172 [a0] H) λv0=>
 bP (PCall prog 172 [a1] H) λv1=>
 bB v0 λt2=>bI t2 (
 bB v1 λt3=>bI t3 (
 K (I 0) H)
 (K (I (-1)) H))
 (bB v1 λt4=>bI t4 (
 K (I 1) H)
 (bO (Ar .lss a0 a1) λv5=>
 bB v5 λt6=>bI t6 (
 K (I (-1)) H)
 (bO (Ar .gtr a0 a1) λv7=>
 bB v7 λt8=>bI t8 (
 K (I 1) H)
 (K (I 0) H))))
theorem TU {a0 a1:AV}{H:AH}{K:KT}(h:Qn a0 a1 H K):Co 136 [a0,a1] H K:=
 fok A8 FK B6 func136 h
def DX:Nat→Option (List Bool):=CN [(3,mk 19 0 [0,1,7,8])]
def Ei (p:List Bool)(n:Nat):List AV→AH→Kf→Prop:=AL prog A8 FK A1 A1 DX (sub p (AP f173)) n
def DW (x0 x1 x7 x8:AV)(H:AH)(K:KT):Prop:=lp (mk 19 0 [0,1,7,8]) (Ei [tT,fF,tT,fF,fF] 4) [x0,x1,x7,x8] H (Be 0 (Bb (Ei [tT,tT] 10) (Ba prog f173.results.toList K)))
def Cw (R3:RT)(x0 x1 x7 x8:AV)(H:AH)(K:KT):Prop:=
 bO (Ar .lss x8 x7) λv0=>
 bB v0 λt1=>bI t1 (
 bO (Bq 9 x0 x8) λv2=>
 bO (Am true 9 H v2) λv3=>
 bF true x1 λk6 f6 c6=>
 bT (C3 prog k6||!true)<|
 bC (BCall prog k6 (f6++[v3]++c6) H) λv4 H5=>
 bB v4 λt7=>bI t7 (
 K x8 H5)
 (bO (Ar .add x8 (I 1)) λv8=>
 R3 [x0,x1,x7,v8] H5))
 (K (I (-1)) H)
theorem Dt {K:KT}:dC (λR x0 x1 x7 x8 H=>Cw R x0 x1 x7 x8 H K) (λx0 x1 x7 x8 H=>DW x0 x1 x7 x8 H K):=Tb (A2 _ _) (λ_ _ _ _ _ _=>by kernel_rfl)
def De (a0 a1:AV)(H:AH)(K:KT):Prop:=
 bO (AY a0) λv0=>
 DW a0 a1 v0 (I 0) H K
theorem DY {a0 a1:AV}{H:AH}{K:KT}(h:De a0 a1 H K):Co 173 [a0,a1] H K:=
 fok A8 FK DX func173 h
def lJ (a0:AV)(H:AH)(K:KT):Prop:=
 bO (Ar .geq a0 (I 0)) λv0=>
 bG v0 true λw1=>
 gO w1 (some a0) λv2=>
 bG v0 true λw3=>
 gO w3 (Ar .leq v2 (I 4611686018427387904)) λv4=>
 bO (Ay v0 v4 (B false)) λv5=>
 K v5 H
theorem jG {a0:AV}{H:AH}{K:KT}(h:lJ a0 H K):Co 69 [a0] H K:=
 fok A8 FK B6 func69 h
def T4 (a0:AV)(H:AH)(K:KT):Prop:=
 bO (Ar .neq a0 a0) λv0=>
 K v0 H
theorem VM {a0:AV}{H:AH}{K:KT}(h:T4 a0 H K):Co 172 [a0] H K:=
 fok A8 FK B6 func172 h
def LT:Nat→Option (List Bool):=CN [(6,mk 50 0 [1,2,5])]
def N3 (p:List Bool)(n:Nat):List AV→AH→Kf→Prop:=AL prog A8 FK A1 A1 LT (sub p (AP f119)) n
def LS (x1 x2 x5:AV)(H:AH)(K:KT):Prop:=lp (mk 50 0 [1,2,5]) (N3 [tT,tT,tT,fF,fF,fF] 7) [x1,x2,x5] H (Be 0 (Bb (N3 [tT,tT,tT,tT] 11) (Ba prog f119.results.toList K)))
def Kj (R6:RT)(x1 x2 x5:AV)(H:AH)(K:KT):Prop:=
 bO (Aa 1 x2) λv0=>
 bO (Am false 1 H v0) λv1=>
 bO (Ar .gtr v1 (I 0)) λv2=>
 bB v2 λt3=>bI t3 (
 bO (Aa 1 x2) λv4=>
 bO (Am false 1 H v4) λv5=>
 bO (Aa 0 x2) λv6=>
 bO (Am false 1 H v6) λv7=>
 bO (Ar .rem v7 x1) λv8=>
 bO (Ar .sub x1 v8) λv9=>
 bO (amm cZ [v5,v9]) λv10=>
 bO (Aa 0 x2) λv11=>
 bO (Am false 1 H v11) λv12=>
 bO (E5 [(I 0),(I 0)] [(0,1,v12),(1,1,v10)]) λv13=>
 bH (FC H 2 1 (BI [(I 0),(I 0)] 1) [(0,2,v13)]) λv14 H15=>
 bH (HG 2 16 H15 x5 v14) λv16 H17=>
 bO (Aa 0 x2) λv18=>
 bO (Am false 1 H17 v18) λv19=>
 bO (Ar .add v19 v10) λv20=>
 bO (Aa 1 x2) λv21=>
 bO (Am false 1 H17 v21) λv22=>
 bO (Ar .sub v22 v10) λv23=>
 bO (Aa 0 x2) λv24=>
 bS (AJ 1 H17 v24 v20) λH25=>
 bO (Aa 1 x2) λv26=>
 bS (AJ 1 H25 v26 v23) λH27=>
 R6 [x1,x2,v16] H27)
 (K x5 H)
theorem OM {K:KT}:oV (λR x1 x2 x5 H=>Kj R x1 x2 x5 H K) (λx1 x2 x5 H=>LS x1 x2 x5 H K):=Yw (A2 _ _) (λ_ _ _ _ _=>by kernel_rfl)
def PC (a0 a1:AV)(H:AH)(K:KT):Prop:=
 bH (A9 H a0) λv0 H1=>
 bO (Am true 2 H1 v0) λv2=>
 bP (PCall prog 171 [v2] H1) λv3=>
 bO (E6 .not v3) λv4=>
 bG v4 false λw5=>
 gO w5 (Aa 1 v0) λv6=>
 bG v4 false λw7=>
 gO w7 (Am false 1 H1 v6) λv8=>
 bG v4 false λw9=>
 gO w9 (Ar .gtr v8 (I 4096)) λv10=>
 bO (Ay v4 (B true) v10) λv11=>
 bG v11 false λw12=>
 gO w12 (some a1) λv13=>
 bG v11 false λw14=>
 gO w14 (Ar .lss v13 (I 1)) λv15=>
 bO (Ay v11 (B true) v15) λv16=>
 bB v16 λt17=>bI t17 (
 K Ac H1)
 (LS a1 v0 Ac H1 K)
theorem Tp {a0 a1:AV}{H:AH}{K:KT}(h:PC a0 a1 H K):Co 119 [a0,a1] H K:=
 fok A8 FK LT func119 h
def N2 (a0:AV)(H:AH)(K:KT):Prop:=
 bH (A9 H a0) λv0 H1=>
 bO (Aa 0 v0) λv2=>
 bO (Am false 1 H1 v2) λv3=>
 bO (Aa 1 v0) λv4=>
 bO (Am false 1 H1 v4) λv5=>
 bH (FC H1 1 2 (BI [(I 0)] 2) [(0,1,v3),(1,1,v5)]) λv6 H7=>
 bP (PCall prog 190 [v6] H7) λv8=>
 bO (Ai v8 0) λv9=>
 bO (Ai v8 1) λv10=>
 K v10 H7
theorem QY {a0:AV}{H:AH}{K:KT}(h:N2 a0 H K):Co 171 [a0] H K:=
 fok A8 FK B6 func171 h
def Ox:Nat→Option (List Bool):=CN [(4,mk 34 0 [0,4,5])]
def PB (p:List Bool)(n:Nat):List AV→AH→Kf→Prop:=AL prog A8 FK A1 A1 Ox (sub p (AP f190)) n
def Ow (x0 x4 x5:AV)(H:AH)(K:KT):Prop:=lp (mk 34 0 [0,4,5]) (PB [tT,tT,fF,tT,fF,fF] 5) [x0,x4,x5] H (Be 0 (Bb (PB [tT,tT,tT] 11) (Ba prog f190.results.toList K)))
def LR (R4:RT)(x0 x4 x5:AV)(H:AH)(K:KT):Prop:=
 bO (AY x0) λv0=>
 bO (Ar .lss x5 v0) λv1=>
 bB v1 λt2=>bI t2 (
 bO (Bq 1 x0 x5) λv3=>
 bO (Am false 1 H v3) λv4=>
 bP (PCall prog 199 [v4] H) λv5=>
 bO (E6 .not v5) λv6=>
 bG v6 false λw7=>
 gO w7 (some x0) λv8=>
 bG v6 false λw9=>
 gO w9 (some x5) λv10=>
 bG v6 false λw11=>
 gO w11 (Bq 1 v8 v10) λv12=>
 bG v6 false λw13=>
 gO w13 (Am false 1 H v12) λv14=>
 bG v6 false λw15=>
 gO w15 (some x4) λv16=>
 bG v6 false λw17=>
 gO w17 (Ar .sub (I 4611686018427387904) v16) λv18=>
 bG v6 false λw19=>
 gO w19 (Ar .gtr v14 v18) λv20=>
 bO (Ay v6 (B true) v20) λv21=>
 bB v21 λt22=>bI t22 (
 K (.tup [(I 0),(B false)]) H)
 (bO (Bq 1 x0 x5) λv23=>
 bO (Am false 1 H v23) λv24=>
 bO (Ar .add x4 v24) λv25=>
 bO (Ar .add x5 (I 1)) λv26=>
 R4 [x0,v25,v26] H))
 (K (.tup [x4,(B true)]) H)
theorem Qi {K:KT}:oV (λR x0 x4 x5 H=>LR R x0 x4 x5 H K) (λx0 x4 x5 H=>Ow x0 x4 x5 H K):=Yw (A2 _ _) (λ_ _ _ _ _=>by kernel_rfl)
def Sv (a0:AV)(H:AH)(K:KT):Prop:=
 Ow a0 (I 0) (I 0) H K
theorem V3 {a0:AV}{H:AH}{K:KT}(h:Sv a0 H K):Co 190 [a0] H K:=
 fok A8 FK Ox func190 h
def Sw (a0:AV)(H:AH)(K:KT):Prop:=
 bO (Ar .geq a0 (I 0)) λv0=>
 bG v0 true λw1=>
 gO w1 (some a0) λv2=>
 bG v0 true λw3=>
 gO w3 (Ar .leq v2 (I 4611686018427387904)) λv4=>
 bO (Ay v0 v4 (B false)) λv5=>
 K v5 H
theorem V4 {a0:AV}{H:AH}{K:KT}(h:Sw a0 H K):Co 199 [a0] H K:=
 fok A8 FK B6 func199 h
end Go.Proofs.YtadghlcfbajamaaGreat.Av
end
