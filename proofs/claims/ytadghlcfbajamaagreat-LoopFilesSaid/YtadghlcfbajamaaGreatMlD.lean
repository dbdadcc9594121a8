/- Texts of this proof, one behind the other, packed into one file by a program of this session. No condition. -/
import Derived.Test.YtadghlcfbajamaaGreatMlC
import Derived.KernelRfl
import Derived.OpenShut
import Derived.OrdersIn
import Derived.ProofKit
import Derived.RangeFuncNested
import Derived.SizedLaws
import Derived.Test.YtadghlcfbajamaaGreatRows
import Derived.WalkKit
set_option linter.unusedVariables false
set_option linter.unusedSimpArgs false
namespace Go.Proofs.YtadghlcfbajamaaGreat.Av
open Go Go.RowKit
section
def AZ:AV→Bool
 | .lit (.slice none _ _)=>true
 | .emp=>true
 | .sl _ _ _ _ _=>true
 | _=>false
def AM:AV→List Nat
 | .sl o _ _ _ _=>[o]
 | _=>[]
theorem B7 {H:AH}{sz:Nat}{v:AV}{cs:List AV}{n:Nat}(h:Ac H sz v=some (cs,n)):cs.length=n*sz:=by
 unfold Ac at h;split at h
 ·split at h
  ·rename_i hb
   injection h with h;injection h with h1 h2;subst h1;subst h2;exact hb.2
  ·cases h
 ·split at h
  ·split at h
   ·rename_i hb
    injection h with h;injection h with h1 h2;subst h1;subst h2;rw[Ah8,Ai5];omega
   ·cases h
  ·cases h
 ·injection h with h;injection h with h1 h2;subst h1;subst h2;simp
 ·injection h with h;injection h with h1 h2;subst h1;subst h2;simp
 ·cases h
theorem jM {H:AH}{sz:Nat}{v:AV}{cs:List AV}{n:Nat}(h:Bu H sz v=some (cs,n)):cs.length=n*sz:=by
 unfold Bu at h;split at h
 ·split at h
  ·rename_i hs
   injection h with h;injection h with h1 h2;subst h1;subst h2;subst hs;simp
  ·cases h
 ·exact B7 h
theorem A1 {H:AH}{sz:Nat}{v:AV}{q:List AV×Nat}(h:Ac H sz v=some q):Bu H sz v=some q:=by
 unfold Bu
 split
 ·cases h
 ·exact h
abbrev Ap4:=@List.drop_take
abbrev Ai2:=@List.take_of_length_le
theorem iH (cs:List AV)(off l:Nat)(ds:List AV)(h:off+l≤cs.length):((Ce cs (off+l) ds).drop off).take (l+ds.length)=(cs.drop off).take l++ds∧off+(l+ds.length)≤(Ce cs (off+l) ds).length:=by
 unfold Ce
 constructor
 ·rw[Ai8,List.drop_append_of_le_length (by rw[Ah8];omega),List.take_append]
  have e1:((cs.take (off+l)).drop off)=(cs.drop off).take l:=by rw[Ap4];congr 1;omega
  rw[e1];have e2:((cs.drop off).take l).length=l:=by rw[Ah8,Ai5];omega
  rw[e2,Ai2 (by omega)]
  congr 1
  rw[show l+ds.length - l=ds.length by omega,List.take_left]
 ·simp only[Aa8];omega
theorem Br {H:AH}{sz o off n:Nat}{cap:Room}{c:List AV}(ho:H[o]?=some (some (.cells c)))(hf:off+n*sz≤c.length):Ac H sz (.sl o off n sz cap)=some ((c.drop off).take (n*sz),n):=by
 simp[Ac,ho,hf]
theorem Ae {H H':AH}{sz:Nat}{v:AV}{q:List AV×Nat}(h:Ac H sz v=some q)(hk:∀i∈AM v,H'[i]?=H[i]?):Ac H' sz v=some q:=by
 cases v with
 | sl o off len esz cap=>
  have:=hk o (by simp[AM])
  simp only[Ac]at h⊢;rw[this];exact h
 | lit u=>
  unfold Ac at h⊢;split at h<;>simp_all
 | imm cs len esz=>simpa only[Ac]using h
 | emp=>simpa only[Ac]using h
 | _=>simp[Ac]at h
abbrev Ao4:=@List.mem_singleton
theorem Az {H:AH}{sz:Nat}{v:AV}{q:List AV×Nat}(h:Ac H sz v=some q):∀i∈AM v,i<H.length:=by
 intro i hi;cases v with
 | sl o off len esz cap=>
  simp only[AM,Ao4]at hi;subst hi;simp only[Ac]at h;split at h
  ·rename_i ho
   exact(BE.1 ho).1
  ·cases h
 | _=>simp[AM]at hi
section
variable {P : Program}
abbrev Pr:=And.intro @ne_eq.{1} @not_true_eq_false
abbrev Af3:=And.intro @Pr @if_false.{1}
abbrev Ak9:=@List.drop_zero
theorem pZ {sz bytes:Nat}{H:AH}{s:AV}{cs ds:List AV}{n m:Nat}(h1:Ac H sz s=some (cs,n))(ho:AZ s=true)(hdl:ds.length=m*sz)(hb:(n+m)*bytes≤140737488355328):
  ∃r H',Pe H sz bytes s ds m=some (r,H')∧AZ r=true∧Ac H' sz r=some (cs++ds,n+m)∧H.length≤H'.length∧(∀i,i<H.length→i∉AM s→H'[i]?=H[i]?)∧∀i∈AM r,i∈AM s∨H.length≤i:=by
 have hcl:=B7 h1
 have newc:Ac (H++[some (.cells ds)]) sz (.sl H.length 0 m sz (.ge m))=some (ds,m):=by
  rw[Br (c:=ds) (by simp) (by omega)];simp only[Ak9];rw[Ai2 (by omega)]
 have keep:∀(X:AH) (i:Nat),i<H.length→(H++X)[i]?=H[i]?:=λX i hi=>Ah6 hi
 have hnil:n=0→cs=[]:=λh0=>Am3 (by rw[hcl,h0];simp)
 unfold Ac at h1;split at h1
 ·simp[AZ]at ho
 ·
  rename_i o off len esz cap;split at h1
  ·rename_i c hoc
   split at h1
   ·rename_i hb1
    obtain⟨rfl,hfit⟩:=hb1;injection h1 with h1;injection h1 with h3 h4;subst h3;subst h4;have hol:=(BE.1 hoc).1;have hadd:(len+m)*esz=len*esz+m*esz:=An2 _ _ _;obtain⟨ov1,ov2⟩:=iH c off (len*esz) ds hfit
    have inplace:∀cap',Ac (H.set o (some (.cells (Ce c (off+len*esz) ds)))) esz (.sl o off (len+m) esz cap')=some ((c.drop off).take (len*esz)++ds,len+m):=by
     intro cap';rw[Br (c:=Ce c (off+len*esz) ds) (by rw[JY hol]) (by rw[hadd,← hdl];exact ov2)];rw[hadd,← hdl,ov1]
    have fresh:∀(H2:AH) cap',H2.length=H.length→Ac (H2++[some (.cells ((c.drop off).take (len*esz)++ds))]) esz (.sl H.length 0 (len+m) esz cap')=some ((c.drop off).take (len*esz)++ds,len+m):=by
     intro H2 cap' hl;rw[Br (c:=(c.drop off).take (len*esz)++ds) (by rw[← hl];simp) (by rw[Ai3,hcl,hdl];omega)];simp only[Ak9];rw[Ai2 (by rw[Ai3,hcl,hdl];omega)]
    have hkeep:∀(y:Option AObj) (X:AH) (i:Nat),i<H.length→i∉AM (.sl o off len esz cap)→(H.set o y++X)[i]?=H[i]?:=by
     intro y X i hi hn;rw[Ah6 (by simpa using hi),Cc (by simp[AM]at hn;omega)]
    unfold Pe;simp only[hoc,Af3,false_or,hfit];cases cap with
    | ex k=>
     simp only
     by_cases hk:len+m≤k
     ·rw[if_pos hk]
      exact⟨_,_,rfl,rfl,inplace _,by simp,λi hi hn=>by simpa using hkeep _ [] i hi hn,λi hi=>.inl (by simpa[AM]using hi)⟩
     ·rw[if_neg hk,if_pos hb]
      exact⟨_,_,rfl,rfl,fresh H _ rfl,by simp,λi hi _=>keep _ i hi,λi hi=>.inr (by simp[AM]at hi;omega)⟩
    | ge k=>
     simp only
     by_cases hm:m=0
     ·subst hm
      have hd0:ds=[]:=Am3 (by rw[hdl];simp);subst hd0;rw[if_pos rfl];exact⟨_,_,rfl,rfl,by rw[Br hoc hfit];simp,Ah9 _,λ_ _ _=>rfl,λi hi=>.inl hi⟩
     ·rw[if_neg hm]
      by_cases hk:len+m≤k
      ·rw[if_pos hk]
       exact⟨_,_,rfl,rfl,inplace _,by simp,λi hi hn=>by simpa using hkeep _ [] i hi hn,λi hi=>.inl (by simpa[AM]using hi)⟩
      ·rw[if_neg hk,if_pos hb]
       exact⟨_,_,rfl,rfl,fresh (H.set o none) _ (by simp),by simp,λi hi hn=>hkeep none _ i hi hn,λi hi=>.inr (by simp[AM]at hi;omega)⟩
   ·cases h1
  ·cases h1
 ·
  injection h1 with h1;injection h1 with h3 h4;subst h3;subst h4;unfold Pe;simp only
  by_cases hm:m=0
  ·subst hm
   have hd0:ds=[]:=Am3 (by rw[hdl];simp);subst hd0;rw[if_pos rfl];exact⟨_,_,rfl,rfl,rfl,Ah9 _,λ_ _ _=>rfl,λi hi=>.inl hi⟩
  ·rw[if_neg hm,if_pos (by simpa using hb)]
   exact⟨_,_,rfl,rfl,by simpa using newc,by simp,λi hi _=>keep _ i hi,λi hi=>.inr (by simp[AM]at hi;omega)⟩
 ·
  injection h1 with h1;injection h1 with h3 h4;subst h3;subst h4;unfold Pe;simp only
  by_cases hm:m=0
  ·subst hm
   have hd0:ds=[]:=Am3 (by rw[hdl];simp);subst hd0;rw[if_pos rfl];exact⟨_,_,rfl,rfl,rfl,Ah9 _,λ_ _ _=>rfl,λi hi=>.inl hi⟩
  ·rw[if_neg hm,if_pos (by simpa using hb)]
   exact⟨_,_,rfl,rfl,by simpa using newc,by simp,λi hi _=>keep _ i hi,λi hi=>.inr (by simp[AM]at hi;omega)⟩
 ·cases h1
end
end
section
abbrev I (n:Int):AV:=.lit (.int .i64 n)
abbrev B (b:Bool):AV:=.lit (.bool b)
abbrev S (s:ByteArray):AV:=.lit (.string s)
abbrev Ad:AV:=.lit (.slice none 0 0)
@[congr] theorem zdmuZ {x x':Option AV} {K:AV→Prop} (h:x=x'):bO x K=bO x' K:=by rw[h]
@[congr] theorem zdmsZ {x x':Option (AV×AH)} {K:AV→AH→Prop} (h:x=x'):bH x K=bH x' K:=by rw[h]
@[congr] theorem zdmwZ {x x':Option AH} {K:AH→Prop} (h:x=x'):bS x K=bS x' K:=by rw[h]
@[congr] theorem zdmnZ {v v':AV} {K:Bool→Prop} (h:v=v'):bB v K=bB v' K:=by rw[h]
@[congr] theorem zdmtZ {b b':Bool} {A B:Prop} (h:b=b'):bI b A B=bI b' A B:=by rw[h]
@[congr] theorem zdmrZ {v v':AV} {w:Bool} {K:Bool→Prop} (h:v=v'):bG v w K=bG v' w K:=by rw[h]
@[congr] theorem zdmpZ {w w':Bool} {v v':AV} {K:FuncId→List AV→List AV→Prop} (hw:w=w') (h:v=v'):bF w v K=bF w' v' K:=by rw[hw,h]
@[congr] theorem zdmxZ {b b':Bool} {A:Prop} (h:b=b'):bT b A=bT b' A:=by rw[h]
@[congr] theorem zdmoZ {R:AV→AH→Prop} {K:AV→AH→Prop}:bC R K=bC R K:=rfl
@[congr] theorem zdmvZ {R:AV→Prop} {K:AV→Prop}:bP R K=bP R K:=rfl
@[congr] theorem zdnnZ {w w':Bool} {x:Option AV} {K:AV→Prop} (h:w=w'):gO w x K=gO w' x K:=by rw[h]
@[congr] theorem zdnlZ {w w':Bool} {x:Option (AV×AH)} {H:AH} {K:AV→AH→Prop} (h:w=w'):gH w x H K=gH w' x H K:=by rw[h]
@[congr] theorem zdnpZ {w w':Bool} {x:Option AH} {H:AH} {K:AH→Prop} (h:w=w'):gS w x H K=gS w' x H K:=by rw[h]
@[congr] theorem zdnkZ {w w':Bool} {R:AV→AH→Prop} {H:AH} {K:AV→AH→Prop} (h:w=w'):gC w R H K=gC w' R H K:=by rw[h]
@[congr] theorem zdnoZ {w w':Bool} {R:AV→Prop} {K:AV→Prop} (h:w=w'):gP w R K=gP w' R K:=by rw[h]
@[simp] theorem Aa {v:AV} {K:AV→Prop}:bO (some v) K=K v:=by unfold bO;exact Eq.refl _
@[simp] theorem A6 {v:AV} {H:AH} {K:AV→AH→Prop}:bH (some (v,H)) K=K v H:=by unfold bH;exact Eq.refl _
@[simp] theorem AF {H:AH} {K:AH→Prop}:bS (some H) K=K H:=by unfold bS;exact Eq.refl _
@[simp] theorem Aj {b:Bool} {K:Bool→Prop}:bB (.lit (.bool b)) K=K b:=by unfold bB;exact Eq.refl _
@[simp] theorem As {A B:Prop}:bI true A B=A:=by unfold bI;exact Eq.refl _
@[simp] theorem Ak {A B:Prop}:bI false A B=B:=by unfold bI;exact Eq.refl _
@[simp] theorem AU {b w:Bool} {K:Bool→Prop}:bG (.lit (.bool b)) w K=K (b==w):=by unfold bG;exact Eq.refl _
@[simp] theorem yZ {w:Bool} {K:Bool→Prop}:bG AO w K=K false:=by unfold bG;exact Eq.refl _
@[simp] theorem jP {A:Prop}:bT true A=A:=by unfold bT;exact Eq.refl _
@[simp] theorem yY {w:Bool} {k:FuncId} {a b:List AV} {K:FuncId→List AV→List AV→Prop}:bF w (.fn (.func k) a b) K=K k a b:=by unfold bF;exact Eq.refl _
@[simp] theorem zdmqZ {K:FuncId→List AV→List AV→Prop}:bF false AO K=K 0 [] []:=by unfold bF AO;exact Eq.refl _
@[simp] theorem A8 {x:Option AV} {K:AV→Prop}:gO true x K=bO x K:=by unfold gO;exact Eq.refl _
@[simp] theorem BY {x:Option AV} {K:AV→Prop}:gO false x K=K AO:=by unfold gO;exact Eq.refl _
@[simp] theorem BQ {x:Option (AV×AH)} {H:AH} {K:AV→AH→Prop}:gH true x H K=bH x K:=by unfold gH;exact Eq.refl _
@[simp] theorem zdnmZ {x:Option (AV×AH)} {H:AH} {K:AV→AH→Prop}:gH false x H K=K AO H:=by unfold gH;exact Eq.refl _
@[simp] theorem Cm {x:Option AH} {H:AH} {K:AH→Prop}:gS true x H K=bS x K:=by unfold gS;exact Eq.refl _
@[simp] theorem zdnqZ {x:Option AH} {H:AH} {K:AH→Prop}:gS false x H K=K H:=by unfold gS;exact Eq.refl _
@[simp] theorem Ps {R:AV→AH→Prop} {H:AH} {K:AV→AH→Prop}:gC true R H K=bC R K:=by unfold gC;exact Eq.refl _
@[simp] theorem cN {R:AV→AH→Prop} {H:AH} {K:AV→AH→Prop}:gC false R H K=K AO H:=by unfold gC;exact Eq.refl _
@[simp] theorem ZW {R:AV→Prop} {K:AV→Prop}:gP true R K=bP R K:=by unfold gP;exact Eq.refl _
@[simp] theorem WV {R:AV→Prop} {K:AV→Prop}:gP false R K=K AO:=by unfold gP;exact Eq.refl _
theorem bP_of {R:AV→Prop}{K:AV→Prop}{r:AV}(h:R r)(hk:K r):bP R K:=⟨r,h,hk⟩
theorem Ay {P:Program}{f:FuncId}{args:List AV}{H:AH}{K:AV→Prop}{r:AV}(h:BPure P f args r)(hk:K r):bP (PCall P f args H) K:=⟨r,.inl h,hk⟩
theorem zdgfZ {P:Program}{f:FuncId}{args args':List AV}{H:AH}{K:AV→Prop}{r:AV}(n:Nat)(hf:PR (OP H n) args=some args')(hr:NG r=true)(h:BPure P f args' r)(hk:K r):bP (PCall P f args H) K:=⟨r,.inr ⟨n,args',hf,hr,h⟩,hk⟩
theorem bC_of {R:AV→AH→Prop}{K:AV→AH→Prop}{r:AV}{H:AH}(h:R r H)(hk:K r H):bC R K:=⟨r,H,h,hk⟩
theorem eH {x:Int}(h1: -9223372036854775808≤x)(h2:x≤9223372036854775807):IntKind.i64.wrap x=x:=by
 simp[IntKind.wrap,IntKind.bits,IntKind.signed];omega
section
variable {k : IntKind} {a b : Int}
theorem Au (h1: -9223372036854775808≤a+b)(h2:a+b≤9223372036854775807):Ar .add (I a) (I b)=some (I (a+b)):=by simp[Ar,KV,eH h1 h2]
theorem B2 (h1: -9223372036854775808≤a - b)(h2:a - b≤9223372036854775807):Ar .sub (I a) (I b)=some (I (a - b)):=by simp[Ar,KV,eH h1 h2]
theorem D4 (h1: -9223372036854775808≤a*b)(h2:a*b≤9223372036854775807):Ar .mul (I a) (I b)=some (I (a*b)):=by simp[Ar,KV,eH h1 h2]
theorem JS (h1:0≤a)(h2:a≤9223372036854775807)(h3:0<b):Ar .quo (I a) (I b)=some (I (a/b)):=by
 have e:a.tdiv b=a/b:=Int.tdiv_eq_ediv_of_nonneg h1;have h4:0≤a/b:=Int.ediv_nonneg h1 (by omega);have h5:a/b≤a:=Int.ediv_le_self _ h1;simp[Ar,KV,e,eH (x:=a/b) (by omega) (by omega)];omega
theorem U3 (h1:0≤a)(h3:0<b):Ar .rem (.lit (.int k a)) (.lit (.int k b))=some (.lit (.int k (a % b))):=by
 have e:a.tmod b=a % b:=Int.tmod_eq_emod_of_nonneg h1;simp[Ar,KV,e];omega
@[simp] theorem BJ:Ar .eql (.lit (.int k a)) (.lit (.int k b))=some (B (decide (a=b))):=by simp[Ar,KV];rfl
@[simp] theorem B6:Ar .neq (.lit (.int k a)) (.lit (.int k b))=some (B (decide (a≠b))):=by
 simp[Ar,KV]
 by_cases h:a=b<;>simp[h]
@[simp] theorem Bn:Ar .lss (.lit (.int k a)) (.lit (.int k b))=some (B (decide (a<b))):=by simp[Ar,KV]
@[simp] theorem sS:Ar .leq (.lit (.int k a)) (.lit (.int k b))=some (B (decide (a≤b))):=by simp[Ar,KV]
@[simp] theorem Du:Ar .gtr (.lit (.int k a)) (.lit (.int k b))=some (B (decide (b<a))):=by simp[Ar,KV]
@[simp] theorem ZP:Ar .geq (.lit (.int k a)) (.lit (.int k b))=some (B (decide (b≤a))):=by simp[Ar,KV]
@[simp] theorem zdfuZ {x y:Bool}:zdlnZ .eql (.lit (.bool x)) (.lit (.bool y))=some (B (decide (x=y))):=by cases x<;>cases y<;>rfl
@[simp] theorem zdooZ {x y:Bool}:zdlnZ .neq (.lit (.bool x)) (.lit (.bool y))=some (B (decide (x≠y))):=by cases x<;>cases y<;>rfl
@[simp] theorem Bj {x:Bool}:Em .not (.lit (.bool x))=some (B !x):=rfl
@[simp] theorem A2 {t:Bool} {x y:AV}:A0 (.lit (.bool t)) x y=some (if t then x else y):=rfl
@[simp] theorem rC:Zn a b=min b a:=by unfold Zn;omega
@[simp] theorem Yx:XX a b=max b a:=by unfold XX;omega
@[simp] theorem LD {f:Int→Int→Int}:amm f [.lit (.int k a),.lit (.int k b)]=some (.lit (.int k (f a b))):=rfl
theorem ZR {k':IntKind}(h1: -9223372036854775808≤a)(h2:a≤9223372036854775807):vI .i64 (.lit (.int k' a))=some (I a):=by simp[vI,eH h1 h2]
end
@[simp] theorem Ao {vs:List AV} {i:Nat}:Ag (.tup vs) i=vs[i]?:=rfl
@[simp] theorem A4 {o off:Nat}:Af (.ptr o off)=some (.ptr o off):=rfl
@[simp] theorem zdgdZ {cs:List AV}:Af (.ip cs)=some (.ip cs):=rfl
@[simp] theorem Al {k o off:Nat}:Ab k (.ptr o off)=some (.ptr o (off+k)):=rfl
@[simp] theorem zdloZ {k:Nat} {cs:List AV}:Ab k (.ip cs)=some (.ip (cs.drop k)):=rfl
@[simp] theorem jG {g:Bool} {n:Nat} {H:AH} {cs:List AV}:Ap g n H (.ip cs)=Ax g n cs 0:=rfl
theorem Ai {g:Bool}{n o off:Nat}{H:AH}{cs:List AV}(h:H[o]?=some (some (.cells cs))):Ap g n H (.ptr o off)=Ax g n cs off:=by simp[Ap,h]
@[simp] theorem Ah {n:Nat} {cs:List AV} {off:Nat}:Ax false n cs off=cs[off]?:=by simp[Ax]
theorem Um {n:Nat}{cs:List AV}{off:Nat}(h:off+n≤cs.length):Ax true n cs off=some (.agg ((cs.drop off).take n)):=by simp[Ax,h]
@[simp] theorem zdmmZ {g:Bool} {n off:Nat} {cs:List AV}:vR g n off (.agg cs)=Ax g n cs off:=rfl
@[simp] theorem Qr {H:AH} {cs:List AV}:AC H (.agg cs)=if cs.all oneA then some (.ptr H.length 0,H++[some (.cells cs)])else none:=by
 unfold AC DP;simp only
 split<;>simp
theorem AK {n o off:Nat}{H:AH}{x:AV}{xs cs:List AV}(hx:DP x=some xs)(h:H[o]?=some (some (.cells cs)))(hl:xs.length=n)(hb:off+n≤cs.length):AP n H (.ptr o off) x=some (H.set o (some (.cells (Bm cs off xs)))):=by
 simp[AP,hx,h,hl,hb]
@[simp] theorem zdobZ {k:IntKind} {n:Int}:oneA (.lit (.int k n))=true:=rfl
@[simp] theorem zdluZ {b:Bool}:oneA (.lit (.bool b))=true:=rfl
@[simp] theorem zdoeZ {s:ByteArray}:oneA (.lit (.string s))=true:=rfl
@[simp] theorem zdocZ {n c:Nat}:oneA (.lit (.slice none n c))=true:=rfl
@[simp] theorem zdlvZ:oneA (.lit (.map none))=true:=rfl
@[simp] theorem zdlwZ:oneA (.lit (.pointer none))=true:=rfl
@[simp] theorem zdovZ {o off len esz:Nat} {cap:Room}:oneA (.sl o off len esz cap)=true:=rfl
@[simp] theorem zdoaZ {cs:List AV} {len esz:Nat}:oneA (.imm cs len esz)=true:=rfl
@[simp] theorem zdodZ {o off:Nat}:oneA (.ptr o off)=true:=rfl
@[simp] theorem zdnzZ:oneA .emp=true:=rfl
@[simp] theorem zdouZ {o:Nat}:oneA (.mp o)=true:=rfl
@[simp] theorem zdjfZ {k:IntKind} {n:Int}:DP (.lit (.int k n))=some [.lit (.int k n)]:=rfl
@[simp] theorem zdhuZ {b:Bool}:DP (.lit (.bool b))=some [.lit (.bool b)]:=rfl
@[simp] theorem zdjiZ {s:ByteArray}:DP (.lit (.string s))=some [.lit (.string s)]:=rfl
@[simp] theorem zdjgZ {n c:Nat}:DP (.lit (.slice none n c))=some [.lit (.slice none n c)]:=rfl
@[simp] theorem zdhvZ:DP (.lit (.map none))=some [.lit (.map none)]:=rfl
@[simp] theorem zdhwZ:DP (.lit (.pointer none))=some [.lit (.pointer none)]:=rfl
@[simp] theorem zdlqZ {o off len esz:Nat} {cap:Room}:DP (.sl o off len esz cap)=some [.sl o off len esz cap]:=rfl
@[simp] theorem zdjeZ {cs:List AV} {len esz:Nat}:DP (.imm cs len esz)=some [.imm cs len esz]:=rfl
@[simp] theorem zdjhZ {o off:Nat}:DP (.ptr o off)=some [.ptr o off]:=rfl
@[simp] theorem zdjdZ:DP .emp=some [.emp]:=rfl
@[simp] theorem zdlpZ {o:Nat}:DP (.mp o)=some [.mp o]:=rfl
@[simp] theorem N6 {cs:List AV}:DP (.agg cs)=if cs.all oneA then some cs else none:=rfl
theorem Bs {v:AV}(h:oneA v=true):DP v=some [v]:=by
 cases v<;>first
  | rfl
  | (rename_i u;cases u<;>first | rfl | simp[oneA]at h)
  | simp[oneA]at h
@[simp] theorem zdlsZ {cells:List AV}:V6 cells []=some cells:=rfl
@[simp] theorem qX {cells:List AV} {off size:Nat} {v:AV} {r:List (Nat×Nat×AV)}:V6 cells ((off,size,v)::r)=match DP v with
  | some xs=>if xs.length=size∧off+size≤cells.length then V6 (Bm cells off xs) r else none
  | none=>none:=rfl
attribute [simp] En D9 Qo B4 Bm LI0 LI1 LI2 LI3 LI4 LI5 LI6 LI7 LI8 LI9 zdpbZ zdpcZ zdpdZ zdpeZ zdpfZ zdpgZ zdphZ zdpiZ zdpjZ
@[simp] theorem CF {g:Bool} {n o off:Nat} {H:AH}:Ap g n H (.ptr o off)=match H[o]? with
  | some (some (.cells cs))=>Ax g n cs off
  | _=>none:=rfl
@[simp] theorem zdmiZ {cs:List AV} {len esz:Nat}:AL (.imm cs len esz)=some (I len):=rfl
@[simp] theorem zdmjZ:AL (.lit (.slice none 0 0))=some (I 0):=rfl
@[simp] theorem zdgaZ {o off len esz:Nat} {cap:Room}:AL (.sl o off len esz cap)=some (I len):=rfl
@[simp] theorem zdmkZ {s:ByteArray}:Z5 (.lit (.string s))=some (I s.size):=rfl
section
variable {P : Program} {f : FuncId} {args : List AV} {R : AV}
theorem BPure.flat (h:∀H,∃r H',(r=R∧H'=H)∧BCall P f args H r H'):BPure P f args R:=λH=>by
 obtain⟨r,H',⟨rfl,rfl⟩,h⟩:=h H;exact h
end
def SV {α:Type}(enc:α→List AV)(sz:Nat)(l:List α)(v:AV):Prop:=noIds v=true∧∀H,Ac H sz v=some (l.flatMap enc,l.length)
section
variable {α : Type} {enc : α→List AV} {sz : Nat} {l : List α} {v : AV}
theorem SV.nil:SV enc sz [] Ad:=⟨rfl,λ_=>rfl⟩
theorem SV.len (h:SV enc sz l v):AL v=some (I l.length):=by
 have h2:=h.2 [];unfold Ac at h2;split at h2
 ·split at h2
  ·injection h2 with h2;injection h2 with e1 e2;rw[← e2];rfl
  ·cases h2
 ·simp at h2
 ·injection h2 with h2;injection h2 with e1 e2;rw[← e2];rfl
 ·injection h2 with h2;injection h2 with e1 e2;rw[← e2];rfl
 ·cases h2
abbrev Aj9:=@List.flatMap_cons
abbrev Ar5:=@Nat.add_comm
abbrev An3:=@List.drop_drop
theorem Ev (hsz:∀x,(enc x).length=sz):∀{l:List α} {k:Nat} {x:α},l[k]?=some x→(l.flatMap enc).drop (k*sz)=enc x++(l.drop (k+1)).flatMap enc
 | [],k,x,h=>by simp at h
 | a::l,0,x,h=>by simp at h;subst h;simp
 | a::l,k+1,x,h=>by
  have:=Ev hsz (l:=l) (k:=k) (by simpa using h)
  rw[Aj9,Al5,Ar5,← An3,List.drop_left' (hsz a)]
  simpa using this
theorem LU (hsz:∀x,(enc x).length=sz)(l:List α):(l.flatMap enc).length=l.length*sz:=by
 induction l with
 | nil=>simp
 | cons a l ih=>simp[Aj9,hsz,ih,Al5];omega
abbrev An9:=@List.cons_append
theorem SV.imm (hsz:∀x,(enc x).length=sz)(hn:∀x∈l,A5 (enc x)=true):SV enc sz l (.imm (l.flatMap enc) l.length sz):=by
 refine⟨?_,λH=>?_⟩
 ·simp only[noIds]
  induction l with
  | nil=>rfl
  | cons a l ih=>
   rw[Aj9];have h1:=hn a (by simp);have h2:=ih λx hx=>hn x (by simp[hx])
   generalize enc a=c at h1
   induction c with
   | nil=>exact h2
   | cons b c ihc=>simp only[A5,Ak0,An9]at h1⊢;exact⟨h1.1,ihc h1.2⟩
 ·simp[Ac,LU hsz]
theorem SV.idx (h:SV enc sz l v)(hsz:∀x,(enc x).length=sz){k:Nat}{x:α}{i:Int}(hk:l[k]?=some x)(hi:i=k):Bo sz v (.lit (.int .i64 i))=some (.ip (enc x++(l.drop (k+1)).flatMap enc)):=by
 subst hi;have hlt:=(BE.1 hk).1;have h1:=h.1;have h2:=h.2 [];unfold Ac at h2;split at h2
 ·rename_i cs len esz
  split at h2
  ·injection h2 with h2;injection h2 with e1 e2
   subst e1;subst e2;simp only[Bo,Ni];rw[if_pos ⟨by omega,by omega⟩];simp[Ev hsz hk]
  ·cases h2
 ·simp[noIds]at h1
 ·injection h2 with h2;injection h2 with e1 e2;rw[← e2]at hlt;omega
 ·injection h2 with h2;injection h2 with e1 e2;rw[← e2]at hlt;omega
 ·cases h2
end
end
section
section
variable {α : Type} {sz : Nat} {H : AH} {v : AV} {cs : List AV} {n : Nat}
theorem By (h:Ac H sz v=some (cs,n)):AL v=some (I n):=by
 unfold Ac at h;split at h
 ·split at h
  ·injection h with h;injection h with h1 h2;rw[← h2];rfl
  ·cases h
 ·split at h
  ·split at h
   ·injection h with h;injection h with h1 h2;rw[← h2];rfl
   ·cases h
  ·cases h
 ·injection h with h;injection h with h1 h2;rw[← h2];rfl
 ·injection h with h;injection h with h1 h2;rw[← h2];rfl
 ·cases h
theorem BX {bytes:Nat}{x:AV}{ds:List AV}{m:Nat}(h1:Ac H sz v=some (cs,n))(ho:AZ v=true)(h2:Bu H sz x=some (ds,m))(hb:(n+m)*bytes≤140737488355328):
  ∃r H',HM sz bytes H v x=some (r,H')∧AZ r=true∧Ac H' sz r=some (cs++ds,n+m)∧H.length≤H'.length∧(∀i,i<H.length→i∉AM v→H'[i]?=H[i]?)∧∀i∈AM r,i∈AM v∨H.length≤i:=by
 obtain⟨r,H',h⟩:=pZ h1 ho (jM h2) hb;exact⟨r,H',by unfold HM;rw[h2];exact h.1,h.2⟩
abbrev Ar8:=@List.take_succ_cons
abbrev An4:=@List.take_take
theorem EI (h:Ac H sz v=some (cs,n)){lo hi:Option AV}{l k:Nat}(hl:Ci lo 0=some l)(hk:Ci hi n=some k)(hlk:l≤k)(hkn:k≤n):
  ∃r,Bf sz v lo hi none=some r∧Ac H sz r=some ((cs.drop (l*sz)).take ((k - l)*sz),k - l)∧(∀i∈AM r,i∈AM v)∧(AZ v=true→AZ r=true)∧(noIds v=true→noIds r=true):=by
 have hcl:=B7 h;have hmul:l*sz+(k - l)*sz=k*sz:=by rw[← An2];congr 1;omega
 have hmul2:k*sz≤n*sz:=Ai7 _ hkn;unfold Ac at h;unfold Bf;split at h
 ·rename_i c len esz
  split at h
  ·rename_i hb
   obtain⟨rfl,hb⟩:=hb;injection h with h;injection h with h1 h2;subst h1;subst h2;simp only[hl,hk,hlk,hkn,and_self,if_true];refine⟨_,rfl,?_,(λi hi=>hi),(λh=>by simp[AZ]at h),λh=>?_⟩
   ·simp only[Ac,true_and]
    rw[if_pos (by rw[Ah8,Ai5];omega)]
   ·simp only[noIds]at h⊢
    have key:∀(c:List AV) (a b:Nat),A5 c=true→A5 ((c.drop a).take b)=true:=by
     intro c
     induction c with
     | nil=>intro a b _;simp[A5]
     | cons x c ih=>
      intro a b hc;simp only[A5,Ak0]at hc;cases a with
      | zero=>
       cases b with
       | zero=>rfl
       | succ b=>simp only[Ak9,Ar8,A5,Ak0];exact⟨hc.1,by simpa using ih 0 b hc.2⟩
      | succ a=>simpa using ih a b hc.2
    exact key _ _ _ h
  ·cases h
 ·rename_i o off len esz cap
  split at h
  ·rename_i c hoc
   split at h
   ·rename_i hb
    obtain⟨rfl,hb⟩:=hb;injection h with h;injection h with h1 h2;subst h1;subst h2;simp only[Af3,hl,hk];rw[if_pos ⟨hlk,by omega⟩];refine⟨_,rfl,?_,(λi hi=>hi),(λ_=>rfl),λh=>by simp[noIds]at h⟩;rw[Br hoc (by omega),Ap4,An3,An4]
    congr 3
    omega
   ·cases h
  ·cases h
 ·injection h with h;injection h with h1 h2
  subst h1;subst h2;obtain rfl:k=0:=by omega
  obtain rfl:l=0:=by omega
  simp only[hl,hk];exact⟨_,rfl,by simp[Ac],(λi hi=>hi),(λ_=>rfl),λ_=>rfl⟩
 ·injection h with h;injection h with h1 h2
  subst h1;subst h2;obtain rfl:k=0:=by omega
  obtain rfl:l=0:=by omega
  simp only[hl,hk];exact⟨_,rfl,by simp[Ac],(λi hi=>hi),(λ_=>rfl),λ_=>rfl⟩
 ·cases h
def lF (H:AH):AV→Option (List AV)
 | .ptr o off=>match H[o]? with
  | some (some (.cells cs))=>some (cs.drop off)
  | _=>none
 | .ip cs=>some cs
 | _=>none
theorem VQ {g:Bool}{k:Nat}{p:AV}(h:lF H p=some cs)(hk:0<k)(hl:k≤cs.length):Ap g k H p=Ax g k cs 0:=by
 unfold lF at h;unfold Ap;split at h
 ·rename_i o off
  simp only;split at h
  ·rename_i c hc
   injection h with h;subst h;unfold Ax;rw[Ai5]at hl;simp only[hc];cases g
   ·simp
   ·simp only[if_true]
    rw[if_pos (by omega),if_pos (by rw[Ai5];omega)];simp
  ·cases h
 ·injection h with h
  subst h;rfl
 ·cases h
theorem vT {k:Nat}{p:AV}(h:lF H p=some cs):∃q,Ab k p=some q∧lF H q=some (cs.drop k):=by
 unfold lF at h;split at h
 ·rename_i o off
  split at h
  ·rename_i c hc
   injection h with h;subst h;exact⟨_,rfl,by simp[lF,hc]⟩
  ·cases h
 ·injection h with h
  subst h;exact⟨_,rfl,rfl⟩
 ·cases h
theorem Nx (h:Ac H sz v=some (cs,n)){k:Nat}{i:Int}(hi:i=k)(hk:k<n):∃p c,Bo sz v (.lit (.int .i64 i))=some p∧lF H p=some c∧c.take sz=(cs.drop (k*sz)).take sz∧sz≤c.length:=by
 subst hi;have hcl:=B7 h;have hmul:k*sz+sz≤n*sz:=by rw[← Al5];exact Ai7 _ hk
 unfold Ac at h;unfold Bo;simp only[Ni];split at h
 ·rename_i c len esz
  split at h
  ·rename_i hb
   obtain⟨rfl,hb⟩:=hb;injection h with h;injection h with h1 h2;subst h1;subst h2;refine⟨_,_,if_pos (by omega),rfl,by simp,by simp;omega⟩
  ·cases h
 ·rename_i o off len esz cap
  split at h
  ·rename_i c hoc
   split at h
   ·rename_i hb
    obtain⟨rfl,hb⟩:=hb;injection h with h;injection h with h1 h2;subst h1;subst h2;refine⟨_,c.drop (off+k*esz),if_pos (by omega),by simp[lF,hoc],?_,by rw[Ai5];omega⟩;rw[Ap4,An3,An4]
    congr 1
    omega
   ·cases h
  ·cases h
 ·injection h with h;injection h with h1 h2;omega
 ·injection h with h;injection h with h1 h2;omega
 ·cases h
end
mutual
theorem U8 (X:AH):∀(a:AV),noIds a=true→∃n0,∀n,n0≤n→OP X n a=some a
 | .lit v,_=>⟨1,λn hn=>by cases n with
  | zero=>omega
  | succ n=>rfl⟩
 | .ip cs,h=>by
  simp only[noIds]at h;obtain⟨n0,h0⟩:=Fb X cs h;refine⟨n0+1,λn hn=>?_⟩;cases n with
  | zero=>omega
  | succ n=>simp only[OP,h0 n (by omega)];rfl
 | .imm cs len esz,h=>by
  simp only[noIds]at h;obtain⟨n0,h0⟩:=Fb X cs h;refine⟨n0+1,λn hn=>?_⟩;cases n with
  | zero=>omega
  | succ n=>simp only[OP,h0 n (by omega)];rfl
 | .agg cs,h=>by
  simp only[noIds]at h;obtain⟨n0,h0⟩:=Fb X cs h;refine⟨n0+1,λn hn=>?_⟩;cases n with
  | zero=>omega
  | succ n=>simp only[OP,h0 n (by omega)];rfl
 | .tup cs,h=>by
  simp only[noIds]at h;obtain⟨n0,h0⟩:=Fb X cs h;refine⟨n0+1,λn hn=>?_⟩;cases n with
  | zero=>omega
  | succ n=>simp only[OP,h0 n (by omega)];rfl
 | .fn f a b,h=>by
  simp only[noIds,Ak0]at h;obtain⟨n0,h0⟩:=Fb X a h.1;obtain⟨n1,h1⟩:=Fb X b h.2;refine⟨n0+n1+1,λn hn=>?_⟩;cases n with
  | zero=>omega
  | succ n=>simp only[OP,h0 n (by omega),h1 n (by omega)]
 | .emp,_=>⟨1,λn hn=>by cases n with
  | zero=>omega
  | succ n=>rfl⟩
 | .junk,_=>⟨1,λn hn=>by cases n with
  | zero=>omega
  | succ n=>rfl⟩
 | .ptr ..,h=>by simp[noIds]at h
 | .sl ..,h=>by simp[noIds]at h
 | .mp ..,h=>by simp[noIds]at h
theorem Fb (X:AH):∀(asx:List AV),A5 asx=true→∃n0,∀n,n0≤n→PR (OP X n) asx=some asx
 | [],_=>⟨0,λ_ _=>rfl⟩
 | a::asx,h=>by
  simp only[A5,Ak0]at h;obtain⟨n0,h0⟩:=U8 X a h.1;obtain⟨n1,h1⟩:=Fb X asx h.2;exact⟨n0+n1,λn hn=>by simp only[PR,h0 n (by omega),h1 n (by omega)]⟩
end
theorem Yq {X:AH}{sz:Nat}{r:AV}{cs:List AV}{m:Nat}(h:Ac X sz r=some (cs,m))(hc:A5 cs=true):∃R n0,noIds R=true∧(∀H,Ac H sz R=some (cs,m))∧∀n,n0≤n→OP X n r=some R:=by
 have hcl:=B7 h;unfold Ac at h;split at h
 ·rename_i c len esz
  split at h
  ·rename_i hb
   injection h with h;injection h with h1 h2;subst h1;subst h2;obtain⟨n0,h0⟩:=U8 X (.imm c len esz) (by simpa only[noIds]using hc);exact⟨_,n0,by simpa only[noIds]using hc,λH=>by simp[Ac,hb.1,hb.2],h0⟩
  ·cases h
 ·rename_i o off len esz cap
  split at h
  ·rename_i c hoc
   split at h
   ·rename_i hb
    injection h with h;injection h with h1 h2;obtain⟨n0,h0⟩:=Fb X cs hc;refine⟨.imm cs len esz,n0+1,by simpa only[noIds]using hc,λH=>?_,λn hn=>?_⟩
    ·rw[← h2]at hcl⊢
     simp[Ac,hb.1,hcl]
    ·cases n with
     | zero=>omega
     | succ n=>
      obtain⟨rfl,-⟩:=hb;simp only[OP,hoc,h1,h0 n (by omega)];rfl
   ·cases h
  ·cases h
 ·injection h with h;injection h with h1 h2
  subst h1;subst h2
  exact⟨_,1,rfl,λH=>rfl,λn hn=>by cases n with
   | zero=>omega
   | succ n=>rfl⟩
 ·injection h with h;injection h with h1 h2
  subst h1;subst h2
  exact⟨_,1,rfl,λH=>rfl,λn hn=>by cases n with
   | zero=>omega
   | succ n=>rfl⟩
 ·cases h
section
variable {P : Program} {f : FuncId} {args : List AV}
theorem BPure.fz {Q:AV→Prop}(hb:A5 args=true)(h:∃r X,(∃n R,OP X n r=some R∧Q R)∧BCall P f args [] r X):∃R,Q R∧BPure P f args R:=by
 obtain⟨r,X,⟨n,R,hf,hq⟩,h⟩:=h;exact⟨R,hq,BPure.of h hb hf⟩
theorem BPure.val {R:AV}(hb:A5 args=true)(hR:noIds R=true)(h:∃r X,r=R∧BCall P f args [] r X):BPure P f args R:=by
 obtain⟨r,X,rfl,h⟩:=h;obtain⟨n0,h0⟩:=U8 X r hR;exact BPure.of h hb (h0 n0 (Ah9 _))
theorem BPure.sl {sz:Nat}{cs:List AV}{m:Nat}(hb:A5 args=true)(hc:A5 cs=true)(h:∃r X,Ac X sz r=some (cs,m)∧BCall P f args [] r X):∃R,(noIds R=true∧∀H,Ac H sz R=some (cs,m))∧BPure P f args R:=by
 obtain⟨r,X,h1,h⟩:=h;obtain⟨R,n0,h2,h3,h4⟩:=Yq h1 hc;exact⟨R,⟨h2,h3⟩,BPure.of h hb (h4 n0 (Ah9 _))⟩
end
end
section
section
variable {P : Program}
structure RecAt (G:Cfg)(l:Nat)(r:Loop):Prop where
 h:G.w.heap[l]?=some (.loop r)
 nl:¬G.L l
theorem RecAt.evo {G G':Cfg}{l:Nat}{r:Loop}(h:RecAt G l r)(hE:Evo G G'):RecAt G' l r:=⟨(Xk hE h.h h.nl).1,(Xk hE h.h h.nl).2⟩
structure EvoX (l:Nat)(G G':Cfg):Prop where
 os:G'.w.os=G.w.os
 tape:G'.w.tape=G.w.tape
 output:G'.w.output=G.w.output
 size:G.w.heap.size≤G'.w.heap.size
 keep:∀k,k<G.w.heap.size→k≠l→¬G.L k→G'.w.heap[k]?=G.w.heap[k]?∧¬G'.L k
 n:G.n≤G'.n
 μ:∀o,o<G.n→G'.μ o=G.μ o
 K:G'.K=G.K
 has:∀ad vs,Has G ad vs→Has G' ad vs
theorem EvoX.tr {l:Nat}{G G':Cfg}(h:EvoX l G G'):Tr G G':=⟨h.n,h.μ,h.has⟩
theorem Evo.x {l:Nat}{G G':Cfg}(h:Evo G G'):EvoX l G G':=⟨h.os,h.tape,h.output,h.size,λk hk _ hL=>h.keep k hk hL,h.n,h.μ,h.K,λ_ _ hh=>hh.evo h⟩
theorem EvoX.trans {l:Nat}{A B C:Cfg}(h:EvoX l A B)(k:EvoX l B C):EvoX l A C:=
 ⟨k.os.trans h.os,k.tape.trans h.tape,k.output.trans h.output,Aj0 h.size k.size,λi hi hne hL=>by
  obtain⟨a1,a2⟩:=h.keep i hi hne hL;obtain⟨b1,b2⟩:=k.keep i (Ak8 hi h.size) hne a2;exact⟨b1.trans a1,b2⟩,Aj0 h.n k.n,λo ho=>(k.μ o (Ak8 ho h.n)).trans (h.μ o ho),k.K.trans h.K,λad vs hh=>k.has ad vs (h.has ad vs hh)⟩
theorem ZX {r:Loop}:∀c e f,Obj.loop r≠.cells c e f:=by intro c e f h;cases h
theorem zdegZ (w:World)(l:Nat)(x:Obj):(w.putObj l x).heap.size=w.heap.size:=by simp[World.putObj]
theorem EvoX.put {l:Nat}{G:Cfg}{r:Loop}(h:G.w.heap[l]?=some (.loop r))(x:Obj):EvoX l G (G.put l x):=
 ⟨rfl,rfl,rfl,by simp only[Cfg.put,zdegZ];exact Ah9 _,λk hk hne hL=>⟨by simp only[Cfg.put];exact World.putObj_heap_other hne,hL⟩,Ah9 _,λ_ _=>rfl,rfl,(Tr.put h ZX x).has⟩
theorem Evo.transX {l:Nat}{A B C:Cfg}(h:Evo A B)(hl:A.w.heap.size≤l)(k:EvoX l B C):Evo A C:=
 ⟨k.os.trans h.os,k.tape.trans h.tape,k.output.trans h.output,Aj0 h.size k.size,λi hi hL=>by
  obtain⟨a1,a2⟩:=h.keep i hi hL;obtain⟨b1,b2⟩:=k.keep i (Ak8 hi h.size) (by omega) a2;exact⟨b1.trans a1,b2⟩,Aj0 h.n k.n,λo ho=>(k.μ o (Ak8 ho h.n)).trans (h.μ o ho),k.K.trans h.K⟩
theorem DF.x {l:Nat}{G G':Cfg}{ρ:zdftZ}{a a':Act}(h:DF G ρ a)(hE:EvoX l G G')(ha:a'.defers=a.defers)(hn:∀D,G.w.heap[D]?=some (.deferred (some []))→D≠l)(hr:ρ.1=some l→∃r,G'.w.heap[l]?=some (.loop r)∧¬G'.L l):DF G' ρ a':=by
 obtain⟨⟨Ds,h1,h2,h3⟩,h4,h5⟩:=h;refine⟨⟨Ds,by rw[ha,h1],h2,λD hD=>?_⟩,λl' hl'=>?_,Aj0 h5 hE.size⟩
 ·obtain⟨a1,a2,a3⟩:=h3 D hD
  obtain⟨b1,b2⟩:=hE.keep D (Array.getElem?_eq_some_iff.1 a3).1 (hn D a3) a2;exact⟨a1,b2,by rw[b1];exact a3⟩
 ·by_cases c:l'=l
  ·subst c;exact hr hl'
  ·obtain⟨r,a1,a2⟩:=h4 l' hl'
   obtain⟨b1,b2⟩:=hE.keep l' (Array.getElem?_eq_some_iff.1 a1).1 c a2;exact⟨r,by rw[b1];exact a1,b2⟩
def fY (P:Program)(assign body:Code)(T:List AV)(p:Tmp)(x:AV)(H:AH)(J:AH→Prop)(X:Code→AH→Prop):Prop:=
 ∃T1,BCode P assign (T.set p x) H .normal T1 H∧ACode P body (λe _ H'=>match e with
  | .normal=>J H'
  | .ret=>X .ret H'
  | .exit id=>X (.exit id) H'
  | _=>False) T1 H
theorem Nl {w:World}{l:Nat}{r:Loop}(h:w.heap[l]?=some (.loop r)):∀D,w.heap[D]?=some (.deferred (some []))→D≠l:=by
 rintro D hD rfl;rw[h]at hD;cases hD
theorem pB {G:Cfg}{l:Nat}{rec:Loop}{T:List AV}{p:Tmp}{x:AV}{v:Value}{H:AH}{J:AH→Prop}{X:Code→AH→Prop}(hH:HR G H)(hR:RecAt G l rec)(hrd:rec.state=.ready)(hpd:rec.pending=none)(hps:rec.params= #[p])
  (hT:VRs G T rec.tmps.toList) (hx:VR G x v) (h:fY P rec.assign rec.body T p x H J X):
  YieldAt (FW none) 0 P l #[v] G.w λe W'=>∃(G':Cfg) (H':AH),G'.w=W'∧EvoX l G G'∧HR G' H'∧((e=.returned (.bool true)∧RecAt G' l rec∧J H')∨(e=.returned (.bool false)∧∃c,RecAt G' l {rec with state:=.done,pending:=some c}∧X c H')):=by
 refine⟨rec.fn,_,rec.assign,rec.body,run_yield hR.h (by simp[hps]),roundIn_of_wpIn trivial ?_⟩;obtain⟨T1,hA,hB⟩:=h
 have hF:FR G (T.set p x) {tmps:=(rec.params.zip #[v]).foldl (fun tmps (t,a)=>tmps.setIfInBounds t a) rec.tmps,defers:=[]}:=by
  show VRs G _ _
  rw[hps];simp only[Array.zip,Array.zipWith];have:(#[p].zip #[v]).foldl (fun tmps (x:Tmp×Value)=>tmps.setIfInBounds x.1 x.2) rec.tmps=rec.tmps.setIfInBounds p v:=by simp
  refine(?_:VRs G (T.set p x) ((#[p].zip #[v]).foldl (fun tmps (x:Tmp×Value)=>tmps.setIfInBounds x.1 x.2) rec.tmps).toList);rw[this,Aq1];exact hT.set p hx
 have w1:=hA G G _ (some l,0) (Evo.refl G) hF ⟨⟨[],rfl,Au3,λ_ h=>(by cases h)⟩,λl' hl'=>(by injection hl' with hl';subst hl';exact⟨rec,hR.h,hR.nl⟩),Nat.zero_le _⟩ hH;refine Code.wpIn_mono ?_ w1;rintro e a1 w1' ⟨T',H',G1,rfl,hE1,hF1,hd1,hH1,hq⟩;simp only[AQ.is,Am2]at hq;obtain⟨rfl,rfl,rfl⟩:=hq;have hR1:=hR.evo hE1;refine⟨_,run_beginRound hR1.h hrd,?_⟩;have live:∀{G:Cfg} {H:AH} {r:Loop},HR G H→RecAt G l r→∀(o:Nat) (z:AObj),H[o]?=some (some z)→(G.μ o).1≠l:=λhH hR o z ho e=>hR.nl (by have:=hH.live o z ho;rwa[e]at this)
 have hX2:EvoX l G1 (G1.put l (.loop {rec with state:=.busy})):=EvoX.put hR1.h _;have hH2:=hH1.putO (live hH1 hR1) hR1.h ZX (.loop {rec with state:=.busy});have hR2:RecAt (G1.put l (.loop {rec with state:=.busy})) l {rec with state:=.busy}:=⟨World.putObj_heap_same (Array.getElem?_eq_some_iff.1 hR1.h).1,hR1.nl⟩;have w2:=hB (G1.put l (.loop {rec with state:=.busy})) (G1.put l (.loop {rec with state:=.busy})) a1 (some l,0) (Evo.refl _) (VRs.tr hX2.tr hF1) (hd1.x hX2 rfl (Nl hR1.h) λ_=>⟨_,hR2.h,hR2.nl⟩) hH2;refine Code.wpIn_mono ?_ w2;rintro e a3 w3 ⟨T3,H3,G3,rfl,hE3,hF3,hd3,hH3,hq⟩;have hR3:=hR2.evo hE3;have fin:∀x,EvoX l G (G3.put l x):=λx=>(hE1.x.trans hX2).trans (hE3.x.trans (EvoX.put hR3.h x))
 have finR:∀r,RecAt (G3.put l (.loop r)) l r:=λr=>⟨World.putObj_heap_same (Array.getElem?_eq_some_iff.1 hR3.h).1,hR3.nl⟩
 have finH:∀x,HR (G3.put l x) H3:=λx=>hH3.putO (live hH3 hR3) hR3.h ZX x
 cases e with
 | normal=>
  refine⟨_,_,run_endRound none hR3.h,G3.put l _,H3,rfl,fin _,finH _,.inl ⟨rfl,?_,hq⟩⟩
  have:({{rec with state:=.busy} with state:=if(none:Option Code).isNone then .ready else .done,pending:=none}:Loop)=rec:=by
   obtain⟨s,pe,f1,f2,f3,f4,f5,f6⟩:=rec;simp only at hrd hpd;subst hrd;subst hpd;rfl
  have h2:=finR ({{rec with state:=.busy} with state:=if(none:Option Code).isNone then .ready else .done,pending:=none});rw[this]at h2⊢;exact h2
 | ret=>exact⟨_,_,run_endRound (some .ret) hR3.h,G3.put l _,H3,rfl,fin _,finH _,.inr ⟨rfl,.ret,finR _,hq⟩⟩
 | exit id=>exact⟨_,_,run_endRound (some (.exit id)) hR3.h,G3.put l _,H3,rfl,fin _,finH _,.inr ⟨rfl,.exit id,finR _,hq⟩⟩
 | goto t=>exact hq.elim
 | panic ch=>exact hq.elim
 | outgrown=>exact hq.elim
def iV (P:Program)(k:FuncId)(cap:List AV)(Cap:AH→Prop)(xs:List AV):Prop:=
 ∀(G:Cfg) (l:Nat) (rec:Loop) (T:List AV) (p:Tmp) (H:AH) (vc:List Value) (J:Nat→AH→Prop) (X:Code→AH→Prop),HR G H→RecAt G l rec→rec.state=.ready→rec.pending=none→rec.params= #[p]→VRs G T rec.tmps.toList→VRs G cap vc→J 0 H→
  (∀i H',J i H'→Cap H')→(∀i x H',xs[i]?=some x→J i H'→fY P rec.assign rec.body T p x H' (J (i+1)) X)→
  CallsIn (FW none) 0 P k (#[.func (.yield l) #[] #[]]++vc.toArray) G.w λe W'=>(∃v,e=.returned v)∧∃(G':Cfg) (H':AH),G'.w=W'∧EvoX l G G'∧HR G' H'∧((RecAt G' l rec∧J xs.length H')∨∃c,RecAt G' l {rec with state:=.done,pending:=some c}∧X c H')
theorem HR.allocO {G:Cfg}{H:AH}(hr:HR G H)(x:Obj):HR {G with w:=G.w.alloc x} H∧Evo G {G with w:=G.w.alloc x}:=by
 have hE:Evo G {G with w:=G.w.alloc x}:=⟨rfl,rfl,rfl,by simp,λk hk hL=>⟨Below.heap_alloc _ _ _ hk,hL⟩,Ah9 _,λ_ _=>rfl,rfl⟩;exact⟨⟨hr.n,λo z ho=>OR.evo hE (hr.lt_n ho) (Below.heap_alloc _ _ _ (hr.lt _ (.inl (hr.live _ _ ho)))) (hr.obj o z ho),hr.inj,hr.live,λb hb=>by have:=hr.lt b hb;simp;omega,hr.dis⟩,hE⟩
theorem hU:∀{A B:List Nat},A.map zddkZ=B.map zddkZ→A=B
 | [],[],_=>rfl
 | [],b::B,h=>by simp at h
 | a::A,[],h=>by simp at h
 | a::A,b::B,h=>by
  simp only[Af6]at h
  have h1:a=b:=by
   have:=h.1
   injection this with h2 _;injection h2
  rw[h1,hU h.2]
theorem ACode.rangeF {g:Operand}{p:Tmp}{assign body:Code}{Q:AQ}{T:List AV}{H:AH}{k:FuncId}{cap xs:List AV}{Cap:AH→Prop}(hit:iV P k cap Cap xs)(hgo:BW P k=true)(hg:B8 T g=.fn (.func k) [] cap)
  (J:Nat→AH→Prop) (X:Code→AH→Prop) (h0:J 0 H) (hcap:∀i H',J i H'→Cap H') (hr:∀i x H',xs[i]?=some x→J i H'→fY P assign body T p x H' (J (i+1)) X) (hdone:∀H',J xs.length H'→Q .normal T H')
  (hout:∀c H',X c H'→(c=.ret∧Q .ret T H')∨∃id,c=.exit id∧Q (.exit id) T H'):ACode P (.rangeFunc g #[p] assign body) Q T H:=by
 intro G0 G a ρ hE hF hd hH;refine wpIn_rangeFunc ?_;intro fn _
 -- the record is laid
 obtain⟨l,mk,G1,rec,e1,hE1,hH1,hR,hrd,hpd,hps,htm,has,hbd,hsz,hd1⟩:∃(l:Nat) (mk:List Deferred) (G1:Cfg) (rec:Loop),(Instr.enterLoop fn a.tmps #[p] assign body (FW ρ.1).round).run P G.w=.ok (l,mk) G1.w∧Evo G G1∧HR G1 H∧RecAt G1 l rec∧rec.state=.ready∧rec.pending=none∧
   rec.params= #[p]∧rec.tmps=a.tmps∧rec.assign=assign∧rec.body=body∧G.w.heap.size≤l∧DF G1 ρ {a with defers:=mk++a.defers}:=by
  have nL:∀b,G.w.heap.size≤b→¬G.L b:=λb hb hL=>by have:=hH.lt b (.inl hL);omega
  cases hρ:ρ.1 with
  | none=>
   obtain⟨k1,k2⟩:=hH.allocO (.deferred (some []));obtain⟨k3,k4⟩:=k1.allocO (.loop {state:=.ready,pending:=none,fn,tmps:=a.tmps,params:=#[p],assign,body,defers:=G.w.heap.size});refine⟨G.w.heap.size+1,_,_,{state:=.ready,pending:=none,fn,tmps:=a.tmps,params:=#[p],assign,body,defers:=G.w.heap.size},run_enterLoop_outer _ _ _ _ _,k2.trans k4,k3,⟨?_,nL _ (by omega)⟩,rfl,rfl,rfl,rfl,rfl,rfl,by omega,?_⟩
   ·have:=World.alloc_heap_new (G.w.alloc (.deferred (some []))) (.loop {state:=.ready,pending:=none,fn,tmps:=a.tmps,params:=#[p],assign,body,defers:=G.w.heap.size})
    rwa[World.size_alloc]at this
   ·have hD:((G.w.alloc (.deferred (some []))).alloc (.loop {state:=.ready,pending:=none,fn,tmps:=a.tmps,params:=#[p],assign,body,defers:=G.w.heap.size})).heap[G.w.heap.size]?=some (.deferred (some [])):=
     (Below.heap_alloc _ _ _ (by simp)).trans (World.alloc_heap_new G.w _)
    obtain⟨⟨Ds,h1,h2,h3⟩,h4,h5⟩:=hd.evo (k2.trans k4) (a':=a) rfl;refine⟨⟨G.w.heap.size::Ds,by simp[h1],Ao7.2 ⟨λhm=>?_,h2⟩,λD hDm=>?_⟩,h4,h5⟩
    ·obtain⟨⟨Ds',h1',h2',h3'⟩,-,-⟩:=hd
     have:Ds'=Ds:=by
      rw[h1]at h1';exact(hU h1').symm
     have:=(Array.getElem?_eq_some_iff.1 (h3' _ (by rw[this];exact hm)).2.2).1
     omega
    ·rcases Ak6.1 hDm with rfl | hDm
     ·exact⟨hd.lb,nL _ (Ah9 _),hD⟩
     ·exact h3 D hDm
  | some l0=>
   obtain⟨r0,hr0,hl0⟩:=hd.round l0 hρ;obtain⟨k1,k2⟩:=hH.allocO (.loop {state:=.ready,pending:=none,fn,tmps:=a.tmps,params:=#[p],assign,body,defers:=r0.defers});exact⟨G.w.heap.size,[],_,{state:=.ready,pending:=none,fn,tmps:=a.tmps,params:=#[p],assign,body,defers:=r0.defers},run_enterLoop_inner hr0 _ _ _ _ _,k2,k1,⟨World.alloc_heap_new G.w _,nL _ (Ah9 _)⟩,rfl,rfl,rfl,rfl,rfl,rfl,Ah9 _,hd.evo k2 rfl⟩
 have hfv:=hF.eval g;rw[hg]at hfv;simp only[VR]at hfv;obtain⟨va,vb,hv,hva,hvb⟩:=hfv;have:va= #[]:=by simp only[VRs]at hva;exact Array.toList_eq_nil_iff.1 hva
 subst this
 have hci:(invoke (.fn (.func k) vb) #[.func (.yield l) #[] #[]]).run P G1.w=.ok (.enter k (#[.func (.yield l) #[] #[]]++vb)) G1.w:=by
  unfold BW at hgo;split at hgo
  ·rename_i f0 hfn'
   simp only [Ac7] at hgo;obtain ⟨b,hbody⟩:=Option.isSome_iff_exists.1 hgo.1;have hne : ¬ f0.name = "runtime.NumGoroutine" := by have := hgo.2; simpa using this
   simp[invoke,callFunc,hfn',hne,hbody]
  ·cases hgo
 refine⟨l,mk,G1.w,{target:=.fn (.func k) vb,args:=#[.func (.yield l) #[] #[]]},G1.w,k,#[.func (.yield l) #[] #[]]++vb,G1.w,e1,?_,λ_ _=>trivial,hci,λhn=>(by simp[Fence.wide]at hn),?_⟩
 ·simp only[resolve,hv]
  simp[go_sem]
 ·have hT1:VRs G1 T rec.tmps.toList:=by rw[htm];exact VRs.evo hE1 hF
  have hc:=hit G1 l rec T p H vb.toList J X hH1 hR hrd hpd hps hT1 (VRs.evo hE1 hvb) h0 hcap (by rw[has,hbd];exact hr)
  have hc2:CallsIn (FW ρ.1) 0 P k (#[.func (.yield l) #[] #[]]++vb) G1.w λe W'=>(∃v,e=.returned v)∧∃(G':Cfg) (H':AH),G'.w=W'∧EvoX l G1 G'∧HR G' H'∧((RecAt G' l rec∧J xs.length H')∨∃c,RecAt G' l {rec with state:=.done,pending:=some c}∧X c H'):=by
   have h1:(vb.toList.toArray)=vb:=by simp
   rw[h1]at hc;cases ρ.1 with
   | none=>exact hc
   | some l0=>exact CallsIn.inRound l0 hc
  refine CallsIn.mono hc2 ?_;rintro e W' ⟨⟨v,rfl⟩,G2,H2,rfl,hX,hH2,hcase⟩;have fin:∀(r:Loop),RecAt G2 l r→∀x,Evo G0 (G2.put l x):=λr hr x=>(hE.trans hE1).transX (Aj0 hE.size hsz) (hX.trans (EvoX.put hr.h x))
  have ndf:∀D,G1.w.heap[D]?=some (.deferred (some []))→D≠l:=Nl hR.h;have finD:∀(r:Loop),RecAt G2 l r→∀r',DF (G2.put l (.loop r')) ρ {a with defers:=mk++a.defers}:=λr hr r'=>hd1.x (hX.trans (EvoX.put hr.h _)) rfl ndf (λ_=>⟨r',World.putObj_heap_same (Array.getElem?_eq_some_iff.1 hr.h).1,hr.nl⟩)
  have finH:∀(r:Loop),RecAt G2 l r→∀x,HR (G2.put l x) H2:=λr hr x=>hH2.putO (λo z ho e=>hr.nl (by have:=hH2.live o z ho;rwa[e]at this)) hr.h ZX x
  have finF:∀(r:Loop),RecAt G2 l r→∀x,FR (G2.put l x) T {a with defers:=mk++a.defers}:=λr hr x=>VRs.tr (hX.trans (EvoX.put hr.h x)).tr (VRs.evo hE1 hF)
  rcases hcase with⟨hr2,hj⟩ | ⟨c,hr2,hx⟩
  ·refine⟨none,_,?_,T,H2,G2.put l (.loop {rec with state:=.exhausted}),rfl,fin _ hr2 _,finF _ hr2 _,finD _ hr2 _,finH _ hr2 _,hdone H2 hj⟩
   have:=run_endLoop (P:=P) hr2.h (by rw[hrd];simp)
   refine this.trans ?_;rw[hpd];rfl
  ·refine⟨some c,_,run_endLoop (P:=P) hr2.h (by simp),?_⟩
   rcases hout c H2 hx with⟨rfl,hq⟩ | ⟨id,rfl,hq⟩
   ·exact wpIn_ret ⟨T,H2,G2.put l (.loop {{rec with state:=.done,pending:=some _} with state:=.exhausted}),rfl,fin _ hr2 _,finF _ hr2 _,finD _ hr2 _,finH _ hr2 _,hq⟩
   ·exact wpIn_exit ⟨T,H2,G2.put l (.loop {{rec with state:=.done,pending:=some _} with state:=.exhausted}),rfl,fin _ hr2 _,finF _ hr2 _,finD _ hr2 _,finH _ hr2 _,hq⟩
end
end
section
section
variable {P : Program}
structure XSt (l:Nat)(G0 G:Cfg)(T:List AV)(H:AH)(r:Loop)(a:Act):Prop where
 x:EvoX l G0 G
 f:FR G T a
 d:DF G (none,G0.w.heap.size) a
 h:HR G H
 ra:RecAt G l r
abbrev XQ:=Exit→List AV→AH→Loop→Prop
def yC (l:Nat)(G0:Cfg)(Q:XQ):Exit→Act→World→Prop:=λe a w=>∃(T:List AV) (H:AH) (G:Cfg) (r:Loop),G.w=w∧XSt l G0 G T H r a∧Q e T H r
def XCode (P:Program)(l:Nat)(G0:Cfg)(c:Code)(Q:XQ)(T:List AV)(H:AH)(r:Loop):Prop:=
 ∀(G:Cfg) (a:Act),XSt l G0 G T H r a→c.wpIn (FW none) 0 P (yC l G0 Q) a G.w
def XOps (P:Program)(l:Nat)(G0:Cfg)(ops:Array Oper)(Q:XQ)(lst:List Oper)(T:List AV)(H:AH)(r:Loop):Prop:=
 ∀(G:Cfg) (a:Act),XSt l G0 G T H r a→wpListIn (FW none) 0 P ops (yC l G0 Q) lst a G.w
variable {l : Nat} {G0 : Cfg}
theorem UO {Q:XQ}{e:Exit}{T:List AV}{H:AH}{r:Loop}(h:Q e T H r){G:Cfg}{a:Act}(hs:XSt l G0 G T H r a):yC l G0 Q e a G.w:=⟨T,H,G,r,rfl,hs,h⟩
theorem XCode.of {c:Code}{Q:XQ}{T:List AV}{H:AH}{r:Loop}(h:ACode P c (λe T H=>Q e T H r) T H):XCode P l G0 c Q T H r:=by
 intro G a hs;refine Code.wpIn_mono ?_ (h G G a (none,G0.w.heap.size) (Evo.refl G) hs.f hs.d hs.h);rintro e a w ⟨T',H',G',rfl,hE,hF,hd,hH,hq⟩;exact⟨T',H',G',r,rfl,⟨hs.x.trans hE.x,hF,hd,hH,hs.ra.evo hE⟩,hq⟩
def XQ.then (next:List AV→AH→Loop→Prop)(Q:XQ):XQ
 | .normal,T,H,r=>next T H r
 | e,T,H,r=>Q e T H r
theorem XCode.seq {x y:Code}{Q:XQ}{T:List AV}{H:AH}{r:Loop}(h:XCode P l G0 x (XQ.then (XCode P l G0 y Q) Q) T H r):XCode P l G0 (.seq x y) Q T H r:=by
 intro G a hs;refine wpIn_seq (Code.wpIn_mono ?_ (h G a hs));rintro e a' w' ⟨T',H',G',r',rfl,hs',hq⟩;cases e with
 | normal=>exact hq G' a' hs'
 | _=>exact⟨T',H',G',r',rfl,hs',hq⟩
theorem XCode.cond {c:Operand}{x y:Code}{Q:XQ}{T:List AV}{H:AH}{r:Loop}{b:Bool}(hc:B8 T c=.lit (.bool b))(h:XCode P l G0 (if b then x else y) Q T H r):XCode P l G0 (.cond c x y) Q T H r:=by
 intro G a hs
 have:=hs.f.eval c
 rw[hc]at this;simp only[VR]at this;exact wpIn_cond this (h G a hs)
theorem XCode.skip {Q:XQ}{T:List AV}{H:AH}{r:Loop}(h:Q .normal T H r):XCode P l G0 .skip Q T H r:=λG a hs=>wpIn_skip (UO h hs)
theorem XCode.exit {id:Nat}{Q:XQ}{T:List AV}{H:AH}{r:Loop}(h:Q (.exit id) T H r):XCode P l G0 (.exit id) Q T H r:=λG a hs=>wpIn_exit (UO h hs)
theorem XCode.ret {Q:XQ}{T:List AV}{H:AH}{r:Loop}(h:Q .ret T H r):XCode P l G0 .ret Q T H r:=λG a hs=>wpIn_ret (UO h hs)
def XQ.inBlock (id:Nat)(Q:XQ):XQ
 | .exit id',T,H,r=>if id'=id then Q .normal T H r else Q (.exit id') T H r
 | e,T,H,r=>Q e T H r
theorem XCode.block {id:Nat}{c:Code}{Q:XQ}{T:List AV}{H:AH}{r:Loop}(h:XCode P l G0 c (Q.inBlock id) T H r):XCode P l G0 (.block id c) Q T H r:=by
 intro G a hs;refine wpIn_block (Code.wpIn_mono ?_ (h G a hs));rintro e a' w' ⟨T',H',G',r',rfl,hs',hq⟩;cases e with
 | exit id'=>
  simp only[XQ.inBlock]at hq;simp only[Exit.inBlock]
  split
  ·rename_i he;rw[if_pos he]at hq;exact⟨T',H',G',r',rfl,hs',hq⟩
  ·rename_i he;rw[if_neg he]at hq;exact⟨T',H',G',r',rfl,hs',hq⟩
 | _=>exact⟨T',H',G',r',rfl,hs',hq⟩
abbrev Al1:=@Nat.le_of_not_lt
theorem XCode.loop {c:Code}{Q:XQ}{T:List AV}{H:AH}{r:Loop}(I:Nat→List AV→AH→Loop→Prop)(n0:Nat)(h0:I n0 T H r)
  (round:∀n T H r,I n T H r→XCode P l G0 c (XQ.then (λT' H' r'=>∃n',n'<n∧I n' T' H' r') Q) T H r):XCode P l G0 (.loop c) Q T H r:=by
 intro G a hs
 let J:Nat→Act→World→Prop:=λn a w=>∃(T:List AV) (H:AH) (G':Cfg) (r:Loop),G'.w=w∧XSt l G0 G' T H r a∧I n T H r
 have least:∀a w,(∃n,J n a w)→∃n,J n a w∧∀m,J m a w→n≤m:=by
  intro a w ⟨n,hn⟩
  induction n using Nat.strongRecOn with
  | _ n ih=>
   by_cases h:∃m,m<n∧J m a w
   ·obtain⟨m,hm,hj⟩:=h;exact ih m hm hj
   ·exact⟨n,hn,λm hm=>Al1 λhlt=>h ⟨m,hlt,hm⟩⟩
 have hμ:∃μ:Act→World→Nat,∀a w,(∃n,J n a w)→J (μ a w) a w∧∀m,J m a w→μ a w≤m:=by
  classical
  refine⟨λa w=>if h:∃n,J n a w then Classical.choose (least a w h)else 0,λa w h=>?_⟩;simp only[dif_pos h];exact Classical.choose_spec (least a w h)
 obtain⟨μ,hμ⟩:=hμ;refine wpIn_loop (λa w=>∃n,J n a w) μ ⟨n0,T,H,G,r,rfl,hs,h0⟩ ?_;intro a w hJ;obtain⟨⟨T1,H1,G1,r1,rfl,hs1,hI⟩,_⟩:=hμ a w hJ;refine Code.wpIn_mono ?_ (round _ T1 H1 r1 hI G1 a hs1);rintro e a' w' ⟨T',H',G',r',rfl,hs',hq⟩;cases e with
 | normal=>
  obtain⟨n',hlt,hI'⟩:=hq;have hJ':J n' a' G'.w:=⟨T',H',G',r',rfl,hs',hI'⟩;exact⟨⟨n',hJ'⟩,Nat.lt_of_le_of_lt ((hμ a' G'.w ⟨n',hJ'⟩).2 _ hJ') hlt⟩
 | _=>exact⟨T',H',G',r',rfl,hs',hq⟩
theorem XCode.weak {c:Code}{Q:XQ}{keep:List Bool}{T:List AV}{H:AH}{r:Loop}(hl:T.length=keep.length)(h:XCode P l G0 c Q (Bt keep (Ul keep T)) H r):XCode P l G0 c Q T H r:=
 λG a hs=>h G a ⟨hs.x,Fp hl hs.f,hs.d,hs.h,hs.ra⟩
theorem XCode.region {id:Nat}{ops:Array Oper}{Q:XQ}{T:List AV}{H:AH}{r:Loop}(h:XOps P l G0 ops Q ops.toList T H r):XCode P l G0 (.region id ops false) Q T H r:=
 λG a hs=>wpIn_region_list (h G a hs)
theorem XOps.nil {ops:Array Oper}{Q:XQ}{T:List AV}{H:AH}{r:Loop}(h:Q .normal T H r):XOps P l G0 ops Q [] T H r:=λG a hs=>UO h hs
theorem zdfaZ {F:Fence}{n:Nat}{o:Oper}{a:Act}{w:World}{K:Act→World→Prop}{Q Q':Exit→Act→World→Prop}(hq:∀e a w,e≠.normal→Q e a w→Q' e a w)(hh:o.wpIn F n P a w K Q):o.wpIn F n P a w K Q':=by
 have lo:LetsOut Q→LetsOut Q':=fun ⟨a,w,h⟩=>⟨a,w,hq _ _ _ (by simp) h⟩
 unfold Oper.wpIn at*;refine⟨hh.1,?_⟩;have hh:=hh.2;generalize (o.semAt F.round a.eval).run P w=r at*;cases r with
 | ok x w'=>
  cases x<;>simp only[Oper.uponIn]at hh⊢<;>
   first
    | exact hh
    | exact⟨hh.1,CallsIn.mono hh.2 (λe w'' he=>by cases e<;>first | exact he | exact hq _ _ _ (by simp) he | exact lo he)⟩
    | exact⟨hh.1,RoundIn.mono hh.2 (λe w'' he=>by cases e<;>first | exact he | exact hq _ _ _ (by simp) he | exact lo he)⟩
 | halt x w'=>cases x<;>simp only[Oper.uponIn]at hh⊢<;>first | exact hh | exact hq _ _ _ (by simp) hh
theorem W1 {F:Fence}{n:Nat}{ops:Array Oper}{Q1 Q:Exit→Act→World→Prop}{l2:List Oper}(hn:∀a w,Q1 .normal a w→wpListIn F n P ops Q l2 a w)(he:∀e a w,e≠.normal→Q1 e a w→Q e a w):
  ∀(l1:List Oper) (a:Act) (w:World),wpListIn F n P ops Q1 l1 a w→wpListIn F n P ops Q (l1++l2) a w
 | [],a,w,h=>hn a w h
 | o::l1,a,w,h=>by
  show wpListIn F n P ops Q (o::(l1++l2)) a w
  unfold wpListIn at h⊢
  split
  ·rename_i hw
   rw[if_pos hw]at h;exact zdfaZ he (Oper.wpIn_mono (λa w=>W1 hn he l1 a w) h)
  ·rename_i hw
   rw[if_neg hw]at h;exact⟨h.1,W1 hn he l1 _ _ h.2⟩
theorem XOps.pre {ql al:FuncId→Bool}{ops:Array Oper}{l1 l2:List Oper}{Q:XQ}{T:List AV}{H:AH}{r:Loop}{K:List AV→AH→Prop}(h:RZ P ql al false ops l1 T H K)(hk:∀T' H',K T' H'→XOps P l G0 ops Q l2 T' H' r):XOps P l G0 ops Q (l1++l2) T H r:=by
 intro G a hs;have h1:AOps P ops (λe T H=>match e with | .normal=>K T H | _=>False) l1 T H:=dW l1 T H K (λ_ _ h=>h) h;refine W1 ?_ ?_ l1 a G.w (h1 G G a (none,G0.w.heap.size) (Evo.refl G) hs.f hs.d hs.h)
 ·rintro a w ⟨T',H',G',rfl,hE,hF,hd,hH,hq⟩
  exact hk T' H' hq G' a ⟨hs.x.trans hE.x,hF,hd,hH,hs.ra.evo hE⟩
 ·rintro e a w hne ⟨T',H',G',rfl,hE,hF,hd,hH,hq⟩
  cases e with
  | normal=>exact absurd rfl hne
  | _=>exact hq.elim
theorem XOps.yield {ops:Array Oper}{Q:XQ}{o:Oper}{rest:List Oper}{T T0:List AV}{H:AH}{rec:Loop}{p:Tmp}{f x:Operand}{ats:Array TypeId}{J:AH→Prop}{X:Code→AH→Prop}
  (ho:o.op=.call {callee:=.value f,args:=#[x],argTypes:=ats}) (hg:o.guard=none) (hf:B8 T f=.lit (.func (.yield l) #[] #[]))
  (hrd:rec.state=.ready) (hpd:rec.pending=none) (hps:rec.params= #[p]) (hT:∀G,EvoX l G0 G→VRs G T0 rec.tmps.toList) (hr:fY P rec.assign rec.body T0 p (B8 T x) H J X)
  (h1:∀H',J H'→XOps P l G0 ops Q rest (Ez T o.dst (B true)) H' rec) (h2:∀c H',X c H'→XOps P l G0 ops Q rest (Ez T o.dst (B false)) H' {rec with state:=.done,pending:=some c}):XOps P l G0 ops Q (o::rest) T H rec:=by
 intro G a hs;unfold wpListIn;have hw:Region.wanted o (yielded ops a.tmps)=true:=by unfold Region.wanted;rw[hg]
 rw[if_pos hw];have hfv:=hs.f.eval f;rw[hf]at hfv;simp only[VR]at hfv;obtain⟨fn,tm,ag,bd,hy,hR⟩:=pB hs.h hs.ra hrd hpd hps (hT G hs.x) (hs.f.eval x) hr;have hnd:∀c,o.op≠.defer c:=λc hc=>by rw[ho]at hc;cases hc
 refine⟨λ_ _=>trivial,?_⟩;rw[Oper.semAt_eq _ _ _ hnd]
 have hrun:(execOp a.eval o).run P G.w=.ok (.round l fn tm ag bd) G.w:=by
  obtain⟨dst,op,type,pos,after,guard⟩:=o;simp only at ho;subst ho;simp[execOp,resolve,hfv,Deferred.ofValue,invoke];exact hy
 rw[hrun];refine⟨λhn=>(by simp[Fence.wide]at hn),RoundIn.mono hR ?_⟩;rintro e w' ⟨G',H',rfl,hX,hH',⟨rfl,hR',hj⟩ | ⟨rfl,c,hR',hx⟩⟩
 ·exact h1 H' hj G' _ ⟨hs.x.trans hX,FR.put (VRs.tr hX.tr hs.f) o.dst (by simp only[VR]),(hs.d.x (a':=a) hX rfl (Nl hs.ra.h) (λh=>by cases h)).put _ _,hH',hR'⟩
 ·exact h2 c H' hx G' _ ⟨hs.x.trans hX,FR.put (VRs.tr hX.tr hs.f) o.dst (by simp only[VR]),(hs.d.x (a':=a) hX rfl (Nl hs.ra.h) (λh=>by cases h)).put _ _,hH',hR'⟩
theorem VH {fn:Func}{tmps:Array Value}{R:Ending→World→Prop}{T:List AV}{H:AH}{r:Loop}(hl:l<G0.w.heap.size)(K:∀G:Cfg,EvoX l G0 G→FR G T {tmps,defers:=[]}→HR G H→RecAt G l r→LeavesIn Fence.wide 0 P fn tmps R [] .returning G.w):
  ∀(Ds:List Nat) (G:Cfg),EvoX l G0 G→FR G T {tmps,defers:=[]}→HR G H→RecAt G l r→Ds.Nodup→(∀D∈Ds,G0.w.heap.size≤D∧¬G.L D∧G.w.heap[D]?=some (.deferred (some [])))→
   LeavesInM Fence.wide 0 P fn tmps R (Ds.map zddkZ) .returning G.w
 | [],G,hE,hF,hH,hr,_,_=>K G hE hF hH hr
 | D::Ds,G,hE,hF,hH,hr,hn,hD=>by
  obtain⟨h1,h2,h3⟩:=hD D (.head _);obtain⟨hni,hn'⟩:=Ao7.1 hn;refine⟨by simp,.inl ⟨D,_,rfl,run_takeDeferred h3,?_⟩⟩;have hc:∀c e f,Obj.deferred (some [])≠.cells c e f:=by intro c e f h;cases h
  have ht:=Tr.put h3 hc (.deferred none);refine VH hl K Ds (G.put D (.deferred none)) ?_ (VRs.tr ht hF) (hH.putO (fun o z ho (e:(G.μ o).1=D)=>h2 (by have:=hH.live o z ho;rwa[e]at this)) h3 hc _) ⟨?_,hr.nl⟩ hn' λD' hD'=>?_
  ·refine⟨hE.os,hE.tape,hE.output,?_,λk hk hne hL=>?_,hE.n,hE.μ,hE.K,λad vs hh=>ht.has ad vs (hE.has ad vs hh)⟩
   ·simp only[Cfg.put,World.putObj];simpa using hE.size
   ·obtain⟨e1,l1⟩:=hE.keep k hk hne hL
    refine⟨?_,l1⟩;simp only[Cfg.put];rw[World.putObj_heap_other (by omega)];exact e1
  ·simp only[Cfg.put]
   rw[World.putObj_heap_other (by omega)];exact hr.h
  ·obtain⟨a1,a2,a3⟩:=hD D' (.tail _ hD')
   refine⟨a1,a2,?_⟩;simp only[Cfg.put];rw[World.putObj_heap_other (λe=>hni (by rw[← e];exact hD'))];exact a3
theorem kH {k:FuncId}{fn:Func}{c:Code}{cap xs:List AV}{Cap:AH→Prop}(hf:P.funcs[k]?=some fn)(hb:fn.body=some c)(hres:fn.results= #[])
  (h:∀(l:Nat) (G0:Cfg) (rec:Loop) (T:List AV) (p:Tmp) (H:AH) (J:Nat→AH→Prop) (X:Code→AH→Prop),rec.state=.ready→rec.pending=none→rec.params= #[p]→(∀G,EvoX l G0 G→VRs G T rec.tmps.toList)→J 0 H→(∀i H',J i H'→Cap H')→(∀i x H',xs[i]?=some x→J i H'→fY P rec.assign rec.body T p x H' (J (i+1)) X)→
   XCode P l G0 c (λe _ H' r=>(e=.normal∨e=.ret)∧((r=rec∧J xs.length H')∨∃c,r={rec with state:=.done,pending:=some c}∧X c H')) ((.lit (.func (.yield l) #[] #[])::cap)++List.replicate (fn.ntmps - (cap.length+1)) AO) H rec):iV P k cap Cap xs:=by
 intro G l rec T p H vc J X hH hR hrd hpd hps hT hvc h0 hcap hr;have hlen:=hvc.length;refine callsIn_of_wp_marks (F:=FW none) (n:=0) hf hb trivial ?_ rfl
 have hF:FR G ((.lit (.func (.yield l) #[] #[])::cap)++List.replicate (fn.ntmps - (cap.length+1)) AO) {tmps:=(#[Value.func (.yield l) #[] #[]]++vc.toArray)++Array.replicate (fn.ntmps - (#[Value.func (.yield l) #[] #[]]++vc.toArray).size) undef,defers:=[]}:=by
  unfold FR;simp only[Ag8,Ae3];rw[hlen,show([Value.func (.yield l) #[] #[]]:List Value).length+vc.length=vc.length+1 by simp;omega];refine VRs.append ?_ (VRs.replicate (by simp only[AO,VR]) _);exact .cons (by simp only[VR]) hvc
 have hl:l<G.w.heap.size:=(Array.getElem?_eq_some_iff.1 hR.h).1;have hx:=h l G rec T p H J X hrd hpd hps (λG' hE=>VRs.tr hE.tr hT) h0 hcap hr G _ ⟨(Evo.refl G).x,hF,⟨⟨[],rfl,Au3,λ_ h=>(by cases h)⟩,λ_ h=>(by cases h),Ah9 _⟩,hH,hR⟩;refine Code.wpIn_mono ?_ hx;rintro e a w ⟨T',H',G',r',rfl,hs,he,hq⟩;obtain⟨⟨Ds,e1,e2,e3⟩,-,-⟩:=hs.d;simp only at e3
 have:LeavesInM Fence.wide 0 P fn a.tmps (λe W'=>(∃v,e=.returned v)∧∃(G':Cfg) (H':AH),G'.w=W'∧EvoX l G G'∧HR G' H'∧((RecAt G' l rec∧J xs.length H')∨∃c,RecAt G' l {rec with state:=.done,pending:=some c}∧X c H')) a.defers .returning G'.w:=by
  rw[e1];refine VH (G0:=G) hl (λG2 hE2 hF2 hH2 hR2=>?_) Ds G' hs.x hs.f hs.h hs.ra e2 e3;obtain⟨v,hrun,-⟩:=dU (P:=P) hH2 hF2 (fn:=fn) (xs:=[]) (by rw[hres];rfl);refine⟨v,hrun,⟨v,rfl⟩,G2,H',rfl,hE2,hH2,?_⟩;rcases hq with⟨rfl,hj⟩ | ⟨c,rfl,hx⟩
  ·exact .inl ⟨hR2,hj⟩
  ·exact .inr ⟨c,hR2,hx⟩
 rcases he with rfl | rfl<;>exact this
theorem XCode.seqP {fl:CJ}{ql al:FuncId→Bool}{un:Nat→Bool}{kp:Nat→Option (List Bool)}{x y:Code}{n:Nat}{keep:List Bool}{Q:XQ}{T:List AV}{H:AH}{r:Loop}(hm:P.follows .mixedOrders=true)(hc:DW fl ql un x=true)
  (hQ:∀e T T' H,e≠.normal→Q e T H r→Q e T' H r) (h:AJ P fl ql al un kp x n T H (λe T H=>fP keep T λX=>(XQ.then (λT H r=>XCode P l G0 y Q T H r) Q) e (Bt keep X) H r)):XCode P l G0 (.seq x y) Q T H r:=by
 refine XCode.seq (XCode.of ((Fs hm x n T H _ hc h).mono ?_));intro e T' H' hk;obtain⟨hl,hk⟩:=C5.1 hk;cases e with
 | normal=>exact XCode.weak hl hk
 | _=>exact hQ _ _ _ _ (by simp) hk
theorem XCode.seqN {fl:CJ}{ql al:FuncId→Bool}{un:Nat→Bool}{kp:Nat→Option (List Bool)}{x y:Code}{n:Nat}{keep:List Bool}{Q:XQ}{T:List AV}{H:AH}{r:Loop}(hm:P.follows .mixedOrders=true)(hc:DW fl ql un x=true)
  (h:AJ P fl ql al un kp x n T H (λe T H=>fP keep T λX=>e=.normal∧XCode P l G0 y Q (Bt keep X) H r)):XCode P l G0 (.seq x y) Q T H r:=by
 refine XCode.seq (XCode.of ((Fs hm x n T H _ hc h).mono ?_));intro e T' H' hk;obtain⟨hl,he,h2⟩:=C5.1 hk;subst he;exact XCode.weak hl h2
theorem XOps.weak {ops:Array Oper}{Q:XQ}{keep:List Bool}{lst:List Oper}{T:List AV}{H:AH}{r:Loop}(hl:T.length=keep.length)(h:XOps P l G0 ops Q lst (Bt keep (Ul keep T)) H r):XOps P l G0 ops Q lst T H r:=
 λG a hs=>h G a ⟨hs.x,Fp hl hs.f,hs.d,hs.h,hs.ra⟩
theorem XOps.preP {ql al:FuncId→Bool}{ops:Array Oper}{l1 l2:List Oper}{Q:XQ}{keep:List Bool}{T:List AV}{H:AH}{r:Loop}(h:RZ P ql al false ops l1 T H (λT H=>fP keep T λX=>XOps P l G0 ops Q l2 (Bt keep X) H r)):XOps P l G0 ops Q (l1++l2) T H r:=
 XOps.pre h λT' H' hk=>by
  obtain⟨hl,hk⟩:=C5.1 hk;exact XOps.weak hl hk
end
end
section
def MonoF (body:List AV→AH→Kf→Prop):Prop:=∀T H (K1 K2:Kf),(∀e T H,K1 e T H→K2 e T H)→body T H K1→body T H K2
theorem nY {keep:List Bool}{A B:List AV→AH→Prop}{K:Kf}(h:∀X H,A X H→B X H):∀e T H,PP keep A K e T H→PP keep B K e T H:=by
 intro e T H hk;cases e with
 | normal=>
  obtain⟨hl,h1⟩:=C5.1 hk;exact C5.2 ⟨hl,h _ _ h1⟩
 | _=>exact hk
theorem zdelZ {keep:List Bool}{body:List AV→AH→Kf→Prop}{K:Kf}(hb:MonoF body):∀(m:Nat) X H,xJ keep body K m X H→xJ keep body K (m+1) X H
 | 0,X,H,h=>h.elim
 | m+1,X,H,h=>hb _ _ _ _ (nY λX H=>zdelZ hb m X H) h
theorem zdkxZ {keep:List Bool}{body:List AV→AH→Kf→Prop}{K:Kf}(hb:MonoF body){m n:Nat}(h:m≤n){X:List AV}{H:AH}(hr:xJ keep body K m X H):xJ keep body K n X H:=by
 induction h with
 | refl=>exact hr
 | step _ ih=>exact zdelZ hb _ _ _ ih
theorem ZY {keep:List Bool}{body:List AV→AH→Kf→Prop}{K:Kf}(hb:MonoF body)(J:Nat→List AV→AH→Prop)
  (round:∀n X H,J n X H→body (Bt keep X) H (PP keep (λX' H'=>∃m,m<n∧J m X' H') K)):∀(n:Nat) {X:List AV} {H:AH},J n X H→lp keep body X H K:=by
 have key:∀n X H,J n X H→xJ keep body K (n+1) X H:=by
  intro n
  induction n using Nat.strongRecOn with
  | _ n ih=>
   intro X H hJ;refine hb _ _ _ _ (nY ?_) (round n X H hJ);rintro X' H' ⟨m,hm,hJ'⟩;exact zdkxZ hb (by omega) (ih m hm X' H' hJ')
 exact λn X H hJ=>⟨n+1,key n X H hJ⟩
section
variable {P : Program} {ql al : FuncId→Bool} {dr w : Bool} {ρ : Operand→AV} {H : AH}
theorem pD {o:Oper}{K1 K2:AV→AH→Prop}(h:NT P ql al dr ρ H o w K1)(hk:∀r H,K1 r H→K2 r H):NT P ql al dr ρ H o w K2:=by
 cases ha:Cq al o.op with
 | false=>
  rw[sE ha]at h⊢;obtain⟨r,H',hk1,-,h2⟩:=P1 h;exact h2 _ (hk _ _ hk1)
 | true=>
  obtain⟨dst,op,type,pos,after,guard⟩:=o;simp only at ha;unfold Cq at ha;split at ha
  ·rename_i k args ats
   have ha':Cq al (.call {callee:=.value (.func k),args:=args,argTypes:=ats})=true:=ha;unfold NT bF at h⊢;simp only[ha']at h⊢;generalize hx:ρ (.func k)=x at h⊢;split at h
   ·rename_i f a b
    cases dr with
    | true=>exact h
    | false=>
     simp only at h⊢;cases hg:BW P f with
     | true=>
      rw[hg]at h;cases w with
      | true=>
       obtain⟨R,hR,hall⟩:=h;exact⟨R,hR,λr H' hr=>hk r H' (hall r H' hr)⟩
      | false=>exact hk _ _ h
     | false=>
      rw[hg]at h;cases w with
      | true=>
       obtain⟨r,hr,h⟩:=h;exact⟨r,hr,hk _ _ h⟩
      | false=>exact hk _ _ h
   ·cases w with
    | true=>exact h.elim
    | false=>
     cases dr with
     | true=>exact h.elim
     | false=>
      simp only at h⊢;cases hg:BW P 0 with
      | true=>rw[hg]at h;exact hk _ _ h
      | false=>rw[hg]at h;exact hk _ _ h
  ·cases ha
theorem YE {ops:Array Oper}:∀(l:List Oper) (T:List AV) (H:AH) {K1 K2:List AV→AH→Prop},(∀T H,K1 T H→K2 T H)→RZ P ql al dr ops l T H K1→RZ P ql al dr ops l T H K2
 | [],T,H,K1,K2,hk,h=>hk _ _ h
 | o::l,T,H,K1,K2,hk,h=>by
  unfold RZ at h⊢;obtain⟨w,hw,h,hw2⟩:=FJ h;refine hw2 _ (pD h λr H' hr=>?_);rw[JX]at hr⊢;exact YE l _ _ hk hr
theorem dV {ops:Array Oper}{H0:AH}{fl:List (Nat×Option Nat)}:∀(l:List Oper) (T:List AV) (H:AH) (lg:List (List AV×AH×AV)) {K1 K2:List AV→AH→Prop},(∀T H,K1 T H→K2 T H)→SC P ql al ops H0 fl l T H lg K1→SC P ql al ops H0 fl l T H lg K2
 | [],T,H,lg,K1,K2,hk,h=>by
  obtain⟨h1,h2⟩:=sD h;exact zdenZ (K:=K1 T H) h (hk _ _ h2)
 | o::l,T,H,lg,K1,K2,hk,h=>by
  unfold SC at h⊢;obtain⟨w,hw,h,hw2⟩:=FJ h;refine hw2 _ (pD h λr H' hr=>?_);rw[JX]at hr⊢;exact dV l _ _ _ hk hr
theorem MonoF.cut {keep:List Bool}{body:List AV→AH→Kf→Prop}(h:MonoF body):MonoF (DJ keep body):=by
 intro T H K1 K2 hk hc;obtain⟨hl,hc⟩:=C5.1 hc;exact C5.2 ⟨hl,⟨h _ _ _ _ hk hc.h⟩⟩
theorem MonoF.seq {a b:List AV→AH→Kf→Prop}(ha:MonoF a)(hb:MonoF b):MonoF λT H K=>a T H (AN b K):=by
 intro T H K1 K2 hk h;refine ha _ _ _ _ ?_ h;intro e T' H' h';cases e with
 | normal=>exact hb _ _ _ _ hk h'
 | _=>exact hk _ _ _ h'
theorem zdifZ {keep:List Bool}{body:List AV→AH→Kf→Prop}(hb:MonoF body){K1 K2:Kf}(hk:∀e T H,K1 e T H→K2 e T H):∀(m:Nat) (X:List AV) (H:AH),xJ keep body K1 m X H→xJ keep body K2 m X H
 | 0,X,H,h=>h.elim
 | m+1,X,H,h=>by
  refine hb _ _ _ _ ?_ h;intro e T H h';cases e with
  | normal=>
   obtain⟨hl,h1⟩:=C5.1 h';exact C5.2 ⟨hl,zdifZ hb hk m _ _ h1⟩
  | _=>exact hk _ _ _ h'
theorem Dv {fl:CJ}{un:Nat→Bool}{kp:Nat→Option (List Bool)}:∀(c:Code) (n:Nat),MonoF (AJ P fl ql al un kp c n)
 | .skip,n,T,H,K1,K2,hk,h=>hk _ _ _ h
 | .label _,n,T,H,K1,K2,hk,h=>hk _ _ _ h
 | .ret,n,T,H,K1,K2,hk,h=>hk _ _ _ h
 | .exit _,n,T,H,K1,K2,hk,h=>hk _ _ _ h
 | .region id ops dr,n,T,H,K1,K2,hk,h=>by
  unfold AJ at h⊢;cases dr with
  | false=>exact YE _ _ _ (hk .normal) h
  | true=>
   simp only at h⊢;split at h
   ·split at h
    ·obtain⟨hl,h⟩:=C5.1 h
     exact C5.2 ⟨hl,⟨h.h.mono hk⟩⟩
    ·exact h.elim
   ·split at h
    ·exact YE _ _ _ (hk .normal) h
    ·exact dV _ _ _ _ (hk .normal) h
 | .seq a b,n,T,H,K1,K2,hk,h=>by
  unfold AJ at h⊢;split at h
  ·exact MonoF.seq (Dv a _) (Dv b _) T H K1 K2 hk h
  ·exact MonoF.seq (Dv a _) (Dv b _).cut T H K1 K2 hk h
 | .cond c a b,n,T,H,K1,K2,hk,h=>by
  unfold AJ bB at h⊢;split at h
  ·rename_i t ht
   cases t with
   | true=>exact Dv a _ T H K1 K2 hk h
   | false=>exact Dv b _ T H K1 K2 hk h
  ·exact h.elim
 | .block id b,n,T,H,K1,K2,hk,h=>by
  unfold AJ at h⊢;refine Dv b _ T H _ _ ?_ h;intro e T' H' h';cases e with
  | exit j=>
   simp only[AS]at h'⊢;split at h'<;>exact hk _ _ _ h'
  | _=>exact hk _ _ _ h'
 | .loop b,n,T,H,K1,K2,hk,h=>by
  unfold AJ at h⊢;split at h
  ·obtain⟨hl,⟨m,h⟩⟩:=C5.1 h
   exact C5.2 ⟨hl,⟨m,zdifZ (Dv b _) hk m _ _ h⟩⟩
  ·exact h.elim
 | .rangeFunc g ps a b,n,T,H,K1,K2,hk,h=>by
  unfold AJ at h⊢;split at h
  ·split at h
   ·obtain⟨hl,h⟩:=C5.1 h
    exact C5.2 ⟨hl,⟨h.h.mono hk⟩⟩
   ·exact h.elim
  ·exact h.elim
 | .scope _,_,_,_,_,_,_,h=>h.elim
 | .goto _,_,_,_,_,_,_,h=>h.elim
 | .refuse _,_,_,_,_,_,_,h=>h.elim
end
end
section
section
variable {P : Program}
def lJ (P:Program)(call:N1)(ops:Array Oper):List Oper→List AV→AH→Option (List AV×AH)
 | [],T,H=>some (T,H)
 | o::l,T,H=>match Ca ops T o with
  | none=>none
  | some false=>lJ P call ops l (Ez T o.dst AO) H
  | some true=>match DO P (B8 T) H o with
   | some (r,H')=>lJ P call ops l (Ez T o.dst r) H'
   | none=>match Fh (B8 T) o with
    | some (f,args)=>if BW P f then match call f args H with
      | some (r,H')=>lJ P call ops l (Ez T o.dst r) H'
      | none=>none
     else none
    | none=>none
def qT (P:Program)(pl:FuncId→Bool)(pure:VP)(call:N1):Nat→Code→List AV→AH→Option (Exit×List AV×AH)
 | 0,_,_,_=>none
 | n+1,c,T,H=>match c with
  | .skip=>some (.normal,T,H)
  | .label _=>some (.normal,T,H)
  | .ret=>some (.ret,T,H)
  | .exit id=>some (.exit id,T,H)
  | .region _ ops false=>(lJ P call ops ops.toList T H).map λp=>(.normal,p.1,p.2)
  | .region _ ops true=>(zdhcZ P pl pure call ops.toList T H).map λp=>(.normal,p.1,p.2)
  | .seq a b=>match qT P pl pure call n a T H with
   | some (.normal,T',H')=>qT P pl pure call n b T' H'
   | r=>r
  | .cond x a b=>match B8 T x with
   | .lit (.bool t)=>qT P pl pure call n (if t then a else b) T H
   | _=>none
  | .block id b=>match qT P pl pure call n b T H with
   | some (.exit id',T',H')=>if id'=id then some (.normal,T',H')else some (.exit id',T',H')
   | r=>r
  | .loop b=>match qT P pl pure call n b T H with
   | some (.normal,T',H')=>qT P pl pure call n (.loop b) T' H'
   | r=>r
  | _=>none
def zdksZ (P:Program)(pl:FuncId→Bool)(call:N1):VP:=λf args=>
 if pl f&&BW P f&&A5 args then match call f args []with
  | some (r,X)=>OP X 64 r
  | none=>none
 else none
def uP (P:Program)(pl:FuncId→Bool)(call:N1)(fuel:Nat)(f:FuncId)(args:List AV)(H:AH):Option (AV×AH):=
 match P.funcs[f]? with
 | some fn=>match fn.body with
  | some c=>match qT P pl (zdksZ P pl call) call fuel c (args++List.replicate (fn.ntmps - args.length) AO) H with
   | some (e,T,H')=>if nX e then(Yd P H' T fn.results.toList).map λxs=>(iB xs,H')else none
   | none=>none
  | none=>none
 | none=>none
def run (P:Program)(ext:N1)(pl ql:FuncId→Bool)(fuel:Nat):Nat→N1
 | 0=>λ_ _ _=>none
 | n+1=>λf args H=>match ext f args H with
  | some r=>some r
  | none=>if pl f&&A5 args then match uP P ql (run P ext pl ql fuel n) fuel f args []with
    | some (r,X)=>(OP X 64 r).map (·,H)
    | none=>none
   else uP P ql (run P ext pl ql fuel n) fuel f args H
def Cfg.start (W:World):Cfg:={w:=W,n:=0,μ:=λ_=>(0,0,0),L:=λ_=>False,K:=λ_=>False}
theorem HR.start (W:World):HR (Cfg.start W) []:=⟨rfl,λo x h=>by simp at h,λo o' x x' h=>by simp at h,λo x h=>by simp at h,λb h=>h.elim (λh=>h.elim) (λh=>h.elim),λb h=>h.elim⟩
theorem Evo.below {G':Cfg}{W:World}(h:Evo (Cfg.start W) G'):Below W.heap.size W G'.w:=⟨h.os,h.tape,h.output,h.size,λk hk=>(h.keep k hk (λh=>h)).1⟩
theorem law_calls {f:FuncId}{args:List AV}(h:ACalls P f args [] λr _=>r=.lit (.bool true))(W:World){vs:List Value}(hv:VRs (Cfg.start W) args vs):
  Calls P f vs.toArray W λe W'=>e=.returned (.bool true)∧Below W.heap.size W W':=
 (h (Cfg.start W) vs (HR.start W) hv).mono fun e w' ⟨r,H',G',v,he,hw,hE,hx,_,hr⟩=>by
  subst hr;simp only[VR]at hx;subst hx;rw[← hw];exact⟨he,hE.below⟩
end
end
end Go.Proofs.YtadghlcfbajamaaGreat.Av
section
namespace Go.Proofs.YtadghlcfbajamaaGreat.Av
open Go Go.Proofs.Tryz
theorem own:ownKnob prog.godebug=none:=by kernel_rfl
theorem laidOut:laidOutB prog=true:=by kernel_rfl
end Go.Proofs.YtadghlcfbajamaaGreat.Av
end
