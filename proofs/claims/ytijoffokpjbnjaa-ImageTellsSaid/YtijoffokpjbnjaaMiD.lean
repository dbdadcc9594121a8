/- Texts of this proof, one behind the other, packed into one file by a program of this session. No condition. -/
import Derived.Test.YtijoffokpjbnjaaMiC
import Derived.ChangeArms
import Derived.DataElems
import Derived.DataReads
import Derived.KernelRfl
import Derived.Laws.IdiomStrings
import Derived.Lib.Bytealg
import Derived.Lib.Overlaps
import Derived.OpenShut
import Derived.ProofKit
import Derived.SizedLaws
import Derived.Test.YtijoffokpjbnjaaRows
import Derived.WalkKit
set_option linter.unusedVariables false
set_option linter.unusedSimpArgs false
set_option maxRecDepth 100000
namespace Go.Proofs.Ytijoffokpjbnjaa.Av
open Go Go.RowKit
section
def EX:AV→Bool
 | .lit (.slice none _ _)=>true
 | .emp=>true
 | .sl _ _ _ _ _=>true
 | _=>false
def HC:AV→List Nat
 | .sl o _ _ _ _=>[o]
 | _=>[]
theorem DW {H:AH}{sz:Nat}{v:AV}{cs:List AV}{n:Nat}(h:Ab H sz v=some (cs,n)):cs.length=n*sz:=by
 unfold Ab at h;split at h
 ·split at h
  ·rename_i hb
   injection h with h;injection h with h1 h2;subst h1;subst h2;exact hb.2
  ·cases h
 ·split at h
  ·split at h
   ·rename_i hb
    injection h with h;injection h with h1 h2;subst h1;subst h2;rw[RD,Sa];omega
   ·cases h
  ·cases h
 ·injection h with h;injection h with h1 h2;subst h1;subst h2;simp
 ·injection h with h;injection h with h1 h2;subst h1;subst h2;simp
 ·cases h
theorem JO {H:AH}{sz:Nat}{v:AV}{cs:List AV}{n:Nat}(h:AP H sz v=some (cs,n)):cs.length=n*sz:=by
 unfold AP at h;split at h
 ·split at h
  ·rename_i hs
   injection h with h;injection h with h1 h2;subst h1;subst h2;subst hs;simp
  ·cases h
 ·exact DW h
theorem Fx {H:AH}{sz:Nat}{v:AV}{q:List AV×Nat}(h:Ab H sz v=some q):AP H sz v=some q:=by
 unfold AP
 split
 ·cases h
 ·exact h
abbrev RH:=@List.take_of_length_le
theorem MG (cs:List AV)(off l:Nat)(ds:List AV)(h:off+l≤cs.length):((Gd cs (off+l) ds).drop off).take (l+ds.length)=(cs.drop off).take l++ds∧off+(l+ds.length)≤(Gd cs (off+l) ds).length:=by
 unfold Gd
 constructor
 ·rw[Si,List.drop_append_of_le_length (by rw[RD];omega),List.take_append]
  have e1:((cs.take (off+l)).drop off)=(cs.drop off).take l:=by rw[List.drop_take];congr 1;omega
  rw[e1];have e2:((cs.drop off).take l).length=l:=by rw[RD,Sa];omega
  rw[e2,RH (by omega)]
  congr 1
  rw[show l+ds.length - l=ds.length by omega,List.take_left]
 ·simp only[Pr];omega
theorem De {H:AH}{sz o off n:Nat}{cap:Room}{c:List AV}(ho:H[o]?=some (some (.cells c)))(hf:off+n*sz≤c.length):Ab H sz (.sl o off n sz cap)=some ((c.drop off).take (n*sz),n):=by
 simp[Ab,ho,hf]
theorem Fm {H H':AH}{sz:Nat}{v:AV}{q:List AV×Nat}(h:Ab H sz v=some q)(hk:∀i∈HC v,H'[i]?=H[i]?):Ab H' sz v=some q:=by
 cases v with
 | sl o off len esz cap=>
  have:=hk o (by simp[HC])
  simp only[Ab]at h⊢;rw[this];exact h
 | lit u=>
  unfold Ab at h⊢;split at h<;>simp_all
 | imm cs len esz=>simpa only[Ab]using h
 | emp=>simpa only[Ab]using h
 | _=>simp[Ab]at h
abbrev Sk:=@List.mem_singleton
theorem Jv {H:AH}{sz:Nat}{v:AV}{q:List AV×Nat}(h:Ab H sz v=some q):∀i∈HC v,i<H.length:=by
 intro i hi;cases v with
 | sl o off len esz cap=>
  simp only[HC,Sk]at hi;subst hi;simp only[Ab]at h;split at h
  ·rename_i ho
   exact(Et.1 ho).1
  ·cases h
 | _=>simp[HC]at hi
section
variable {P : Program}
theorem Lk {sz bytes:Nat}{H:AH}{s:AV}{cs ds:List AV}{n m:Nat}(h1:Ab H sz s=some (cs,n))(ho:EX s=true)(hdl:ds.length=m*sz)(hb:(n+m)*bytes≤140737488355328):
  ∃r H',HP H sz bytes s ds m=some (r,H')∧EX r=true∧Ab H' sz r=some (cs++ds,n+m)∧H.length≤H'.length∧(∀i,i<H.length→i∉HC s→H'[i]?=H[i]?)∧∀i∈HC r,i∈HC s∨H.length≤i:=by
 have hcl:=DW h1
 have newc:Ab (H++[some (.cells ds)]) sz (.sl H.length 0 m sz (.ge m))=some (ds,m):=by
  rw[De (c:=ds) (by simp) (by omega)];simp only[List.drop_zero];rw[RH (by omega)]
 have keep:∀(X:AH) (i:Nat),i<H.length→(H++X)[i]?=H[i]?:=λX i hi=>Rz hi
 have hnil:n=0→cs=[]:=λh0=>RI (by rw[hcl,h0];simp)
 unfold Ab at h1;split at h1
 ·simp[EX]at ho
 ·
  rename_i o off len esz cap;split at h1
  ·rename_i c hoc
   split at h1
   ·rename_i hb1
    obtain⟨rfl,hfit⟩:=hb1;injection h1 with h1;injection h1 with h3 h4;subst h3;subst h4;have hol:=(Et.1 hoc).1;have hadd:(len+m)*esz=len*esz+m*esz:=Sj _ _ _;obtain⟨ov1,ov2⟩:=MG c off (len*esz) ds hfit
    have inplace:∀cap',Ab (H.set o (some (.cells (Gd c (off+len*esz) ds)))) esz (.sl o off (len+m) esz cap')=some ((c.drop off).take (len*esz)++ds,len+m):=by
     intro cap';rw[De (c:=Gd c (off+len*esz) ds) (by rw[MP hol]) (by rw[hadd,← hdl];exact ov2)];rw[hadd,← hdl,ov1]
    have fresh:∀(H2:AH) cap',H2.length=H.length→Ab (H2++[some (.cells ((c.drop off).take (len*esz)++ds))]) esz (.sl H.length 0 (len+m) esz cap')=some ((c.drop off).take (len*esz)++ds,len+m):=by
     intro H2 cap' hl;rw[De (c:=(c.drop off).take (len*esz)++ds) (by rw[← hl];simp) (by rw[RV,hcl,hdl];omega)];simp only[List.drop_zero];rw[RH (by rw[RV,hcl,hdl];omega)]
    have hkeep:∀(y:Option AObj) (X:AH) (i:Nat),i<H.length→i∉HC (.sl o off len esz cap)→(H.set o y++X)[i]?=H[i]?:=by
     intro y X i hi hn;rw[Rz (by simpa using hi),L2 (by simp[HC]at hn;omega)]
    unfold HP;simp only[hoc,ne_eq,not_true_eq_false,false_or,hfit,if_false];cases cap with
    | ex k=>
     simp only
     by_cases hk:len+m≤k
     ·rw[if_pos hk]
      exact⟨_,_,rfl,rfl,inplace _,by simp,λi hi hn=>by simpa using hkeep _ [] i hi hn,λi hi=>.inl (by simpa[HC]using hi)⟩
     ·rw[if_neg hk,if_pos hb]
      exact⟨_,_,rfl,rfl,fresh H _ rfl,by simp,λi hi _=>keep _ i hi,λi hi=>.inr (by simp[HC]at hi;omega)⟩
    | ge k=>
     simp only
     by_cases hm:m=0
     ·subst hm
      have hd0:ds=[]:=RI (by rw[hdl];simp);subst hd0;rw[if_pos rfl];exact⟨_,_,rfl,rfl,by rw[De hoc hfit];simp,Rx _,λ_ _ _=>rfl,λi hi=>.inl hi⟩
     ·rw[if_neg hm]
      by_cases hk:len+m≤k
      ·rw[if_pos hk]
       exact⟨_,_,rfl,rfl,inplace _,by simp,λi hi hn=>by simpa using hkeep _ [] i hi hn,λi hi=>.inl (by simpa[HC]using hi)⟩
      ·rw[if_neg hk,if_pos hb]
       exact⟨_,_,rfl,rfl,fresh (H.set o none) _ (by simp),by simp,λi hi hn=>hkeep none _ i hi hn,λi hi=>.inr (by simp[HC]at hi;omega)⟩
   ·cases h1
  ·cases h1
 ·
  injection h1 with h1;injection h1 with h3 h4;subst h3;subst h4;unfold HP;simp only
  by_cases hm:m=0
  ·subst hm
   have hd0:ds=[]:=RI (by rw[hdl];simp);subst hd0;rw[if_pos rfl];exact⟨_,_,rfl,rfl,rfl,Rx _,λ_ _ _=>rfl,λi hi=>.inl hi⟩
  ·rw[if_neg hm,if_pos (by simpa using hb)]
   exact⟨_,_,rfl,rfl,by simpa using newc,by simp,λi hi _=>keep _ i hi,λi hi=>.inr (by simp[HC]at hi;omega)⟩
 ·
  injection h1 with h1;injection h1 with h3 h4;subst h3;subst h4;unfold HP;simp only
  by_cases hm:m=0
  ·subst hm
   have hd0:ds=[]:=RI (by rw[hdl];simp);subst hd0;rw[if_pos rfl];exact⟨_,_,rfl,rfl,rfl,Rx _,λ_ _ _=>rfl,λi hi=>.inl hi⟩
  ·rw[if_neg hm,if_pos (by simpa using hb)]
   exact⟨_,_,rfl,rfl,by simpa using newc,by simp,λi hi _=>keep _ i hi,λi hi=>.inr (by simp[HC]at hi;omega)⟩
 ·cases h1
end
end
section
abbrev I (n:Int):AV:=.lit (.int .i64 n)
abbrev B (b:Bool):AV:=.lit (.bool b)
abbrev S (s:ByteArray):AV:=.lit (.string s)
abbrev AI:AV:=.lit (.slice none 0 0)
@[congr] theorem PW {x x':Option AV} {K:AV→Prop} (h:x=x'):bO x K=bO x' K:=by rw[h]
@[congr] theorem PU {x x':Option (AV×AH)} {K:AV→AH→Prop} (h:x=x'):bH x K=bH x' K:=by rw[h]
@[congr] theorem PY {x x':Option AH} {K:AH→Prop} (h:x=x'):bS x K=bS x' K:=by rw[h]
@[congr] theorem PO {v v':AV} {K:Bool→Prop} (h:v=v'):bB v K=bB v' K:=by rw[h]
@[congr] theorem PV {b b':Bool} {A B:Prop} (h:b=b'):bI b A B=bI b' A B:=by rw[h]
@[congr] theorem PS {v v':AV} {w:Bool} {K:Bool→Prop} (h:v=v'):bG v w K=bG v' w K:=by rw[h]
@[congr] theorem PQ {w w':Bool} {v v':AV} {K:FuncId→List AV→List AV→Prop} (hw:w=w') (h:v=v'):bF w v K=bF w' v' K:=by rw[hw,h]
@[congr] theorem PZ {b b':Bool} {A:Prop} (h:b=b'):bT b A=bT b' A:=by rw[h]
@[congr] theorem PP {R:AV→AH→Prop} {K:AV→AH→Prop}:bC R K=bC R K:=rfl
@[congr] theorem PX {R:AV→Prop} {K:AV→Prop}:bP R K=bP R K:=rfl
@[congr] theorem Qh {w w':Bool} {x:Option AV} {K:AV→Prop} (h:w=w'):gO w x K=gO w' x K:=by rw[h]
@[congr] theorem Qf {w w':Bool} {x:Option (AV×AH)} {H:AH} {K:AV→AH→Prop} (h:w=w'):gH w x H K=gH w' x H K:=by rw[h]
@[congr] theorem Qj {w w':Bool} {x:Option AH} {H:AH} {K:AH→Prop} (h:w=w'):gS w x H K=gS w' x H K:=by rw[h]
@[congr] theorem Qd {w w':Bool} {R:AV→AH→Prop} {H:AH} {K:AV→AH→Prop} (h:w=w'):gC w R H K=gC w' R H K:=by rw[h]
@[congr] theorem Qi {w w':Bool} {R:AV→Prop} {K:AV→Prop} (h:w=w'):gP w R K=gP w' R K:=by rw[h]
@[simp] theorem B8 {v:AV} {K:AV→Prop}:bO (some v) K=K v:=by unfold bO;exact Eq.refl _
@[simp] theorem GF {v:AV} {H:AH} {K:AV→AH→Prop}:bH (some (v,H)) K=K v H:=by unfold bH;exact Eq.refl _
@[simp] theorem LX {H:AH} {K:AH→Prop}:bS (some H) K=K H:=by unfold bS;exact Eq.refl _
@[simp] theorem ES {b:Bool} {K:Bool→Prop}:bB (.lit (.bool b)) K=K b:=by unfold bB;exact Eq.refl _
@[simp] theorem Ix {A B:Prop}:bI true A B=A:=by unfold bI;exact Eq.refl _
@[simp] theorem I9 {A B:Prop}:bI false A B=B:=by unfold bI;exact Eq.refl _
@[simp] theorem Iw {b w:Bool} {K:Bool→Prop}:bG (.lit (.bool b)) w K=K (b==w):=by unfold bG;exact Eq.refl _
@[simp] theorem PT {w:Bool} {K:Bool→Prop}:bG Ad w K=K false:=by unfold bG;exact Eq.refl _
@[simp] theorem Q9 {A:Prop}:bT true A=A:=by unfold bT;exact Eq.refl _
@[simp] theorem bF_fn {w:Bool} {k:FuncId} {a b:List AV} {K:FuncId→List AV→List AV→Prop}:bF w (.fn (.func k) a b) K=K k a b:=by unfold bF;exact Eq.refl _
@[simp] theorem PR {K:FuncId→List AV→List AV→Prop}:bF false Ad K=K 0 [] []:=by unfold bF Ad;exact Eq.refl _
@[simp] theorem Mc {x:Option AV} {K:AV→Prop}:gO true x K=bO x K:=by unfold gO;exact Eq.refl _
@[simp] theorem KE {x:Option AV} {K:AV→Prop}:gO false x K=K Ad:=by unfold gO;exact Eq.refl _
@[simp] theorem QE {x:Option (AV×AH)} {H:AH} {K:AV→AH→Prop}:gH true x H K=bH x K:=by unfold gH;exact Eq.refl _
@[simp] theorem Qg {x:Option (AV×AH)} {H:AH} {K:AV→AH→Prop}:gH false x H K=K Ad H:=by unfold gH;exact Eq.refl _
@[simp] theorem QF {x:Option AH} {H:AH} {K:AH→Prop}:gS true x H K=bS x K:=by unfold gS;exact Eq.refl _
@[simp] theorem Qk {x:Option AH} {H:AH} {K:AH→Prop}:gS false x H K=K H:=by unfold gS;exact Eq.refl _
@[simp] theorem QD {R:AV→AH→Prop} {H:AH} {K:AV→AH→Prop}:gC true R H K=bC R K:=by unfold gC;exact Eq.refl _
@[simp] theorem Qe {R:AV→AH→Prop} {H:AH} {K:AV→AH→Prop}:gC false R H K=K Ad H:=by unfold gC;exact Eq.refl _
@[simp] theorem Of {R:AV→Prop} {K:AV→Prop}:gP true R K=bP R K:=by unfold gP;exact Eq.refl _
@[simp] theorem KF {R:AV→Prop} {K:AV→Prop}:gP false R K=K Ad:=by unfold gP;exact Eq.refl _
theorem bP_of {R:AV→Prop}{K:AV→Prop}{r:AV}(h:R r)(hk:K r):bP R K:=⟨r,h,hk⟩
theorem Al {P:Program}{f:FuncId}{args:List AV}{H:AH}{K:AV→Prop}{r:AV}(h:BPure P f args r)(hk:K r):bP (PCall P f args H) K:=⟨r,.inl h,hk⟩
theorem bC_of {R:AV→AH→Prop}{K:AV→AH→Prop}{r:AV}{H:AH}(h:R r H)(hk:K r H):bC R K:=⟨r,H,h,hk⟩
theorem Kn {x:Int}(h1: -9223372036854775808≤x)(h2:x≤9223372036854775807):IntKind.i64.wrap x=x:=by
 simp[IntKind.wrap,IntKind.bits,IntKind.signed];omega
section
variable {k : IntKind} {a b : Int}
theorem Am (h1: -9223372036854775808≤a+b)(h2:a+b≤9223372036854775807):Aq .add (I a) (I b)=some (I (a+b)):=by simp[Aq,DG,Kn h1 h2]
theorem It (h1: -9223372036854775808≤a - b)(h2:a - b≤9223372036854775807):Aq .sub (I a) (I b)=some (I (a - b)):=by simp[Aq,DG,Kn h1 h2]
theorem LM (h1: -9223372036854775808≤a*b)(h2:a*b≤9223372036854775807):Aq .mul (I a) (I b)=some (I (a*b)):=by simp[Aq,DG,Kn h1 h2]
@[simp] theorem NM:Aq .eql (.lit (.int k a)) (.lit (.int k b))=some (B (decide (a=b))):=by simp[Aq,DG];rfl
@[simp] theorem Q5:Aq .neq (.lit (.int k a)) (.lit (.int k b))=some (B (decide (a≠b))):=by
 simp[Aq,DG]
 by_cases h:a=b<;>simp[h]
@[simp] theorem NO:Aq .lss (.lit (.int k a)) (.lit (.int k b))=some (B (decide (a<b))):=by simp[Aq,DG]
@[simp] theorem Q4:Aq .leq (.lit (.int k a)) (.lit (.int k b))=some (B (decide (a≤b))):=by simp[Aq,DG]
@[simp] theorem NN:Aq .gtr (.lit (.int k a)) (.lit (.int k b))=some (B (decide (b<a))):=by simp[Aq,DG]
@[simp] theorem Q3:Aq .geq (.lit (.int k a)) (.lit (.int k b))=some (B (decide (b≤a))):=by simp[Aq,DG]
@[simp] theorem NL {x y:Bool}:NE .eql (.lit (.bool x)) (.lit (.bool y))=some (B (decide (x=y))):=by cases x<;>cases y<;>rfl
@[simp] theorem Q2 {x y:Bool}:NE .neq (.lit (.bool x)) (.lit (.bool y))=some (B (decide (x≠y))):=by cases x<;>cases y<;>rfl
@[simp] theorem Iv {x:Bool}:Iu .not (.lit (.bool x))=some (B !x):=rfl
@[simp] theorem Gz {t:Bool} {x y:AV}:Aj (.lit (.bool t)) x y=some (if t then x else y):=rfl
@[simp] theorem QZ:O7 a b=min b a:=by unfold O7;omega
@[simp] theorem Ra:O8 a b=max b a:=by unfold O8;omega
@[simp] theorem Q8 {f:Int→Int→Int}:amm f [.lit (.int k a),.lit (.int k b)]=some (.lit (.int k (f a b))):=rfl
theorem LO {k':IntKind}(h1: -9223372036854775808≤a)(h2:a≤9223372036854775807):NF .i64 (.lit (.int k' a))=some (I a):=by simp[NF,Kn h1 h2]
end
@[simp] theorem D5 {vs:List AV} {i:Nat}:A5 (.tup vs) i=vs[i]?:=rfl
@[simp] theorem NH {o off:Nat}:DC (.ptr o off)=some (.ptr o off):=rfl
@[simp] theorem NX {cs:List AV}:DC (.ip cs)=some (.ip cs):=rfl
@[simp] theorem OV {k o off:Nat}:Aa k (.ptr o off)=some (.ptr o (off+k)):=rfl
@[simp] theorem Pz {k:Nat} {cs:List AV}:Aa k (.ip cs)=some (.ip (cs.drop k)):=rfl
@[simp] theorem QW {g:Bool} {n:Nat} {H:AH} {cs:List AV}:Ak g n H (.ip cs)=Ae g n cs 0:=rfl
@[simp] theorem OC {n:Nat} {cs:List AV} {off:Nat}:Ae false n cs off=cs[off]?:=by simp[Ae]
@[simp] theorem PM {g:Bool} {n off:Nat} {cs:List AV}:Mx g n off (.agg cs)=Ae g n cs off:=rfl
@[simp] theorem PL {H:AH} {cs:List AV}:AO H (.agg cs)=if cs.all oneA then some (.ptr H.length 0,H++[some (.cells cs)])else none:=by
 unfold AO Be;simp only
 split<;>simp
theorem JQ {n o off:Nat}{H:AH}{x:AV}{xs cs:List AV}(hx:Be x=some xs)(h:H[o]?=some (some (.cells cs)))(hl:xs.length=n)(hb:off+n≤cs.length):Ex n H (.ptr o off) x=some (H.set o (some (.cells (AM cs off xs)))):=by
 simp[Ex,hx,h,hl,hb]
@[simp] theorem Qt {k:IntKind} {n:Int}:oneA (.lit (.int k n))=true:=rfl
@[simp] theorem P4 {b:Bool}:oneA (.lit (.bool b))=true:=rfl
@[simp] theorem Qw {s:ByteArray}:oneA (.lit (.string s))=true:=rfl
@[simp] theorem Qu {n c:Nat}:oneA (.lit (.slice none n c))=true:=rfl
@[simp] theorem P5:oneA (.lit (.map none))=true:=rfl
@[simp] theorem P6:oneA (.lit (.pointer none))=true:=rfl
@[simp] theorem QI {o off len esz:Nat} {cap:Room}:oneA (.sl o off len esz cap)=true:=rfl
@[simp] theorem Qs {cs:List AV} {len esz:Nat}:oneA (.imm cs len esz)=true:=rfl
@[simp] theorem Qv {o off:Nat}:oneA (.ptr o off)=true:=rfl
@[simp] theorem Qr:oneA .emp=true:=rfl
@[simp] theorem QH {o:Nat}:oneA (.mp o)=true:=rfl
@[simp] theorem Pc {k:IntKind} {n:Int}:Be (.lit (.int k n))=some [.lit (.int k n)]:=rfl
@[simp] theorem O2 {b:Bool}:Be (.lit (.bool b))=some [.lit (.bool b)]:=rfl
@[simp] theorem Pf {s:ByteArray}:Be (.lit (.string s))=some [.lit (.string s)]:=rfl
@[simp] theorem Pd {n c:Nat}:Be (.lit (.slice none n c))=some [.lit (.slice none n c)]:=rfl
@[simp] theorem O3:Be (.lit (.map none))=some [.lit (.map none)]:=rfl
@[simp] theorem O4:Be (.lit (.pointer none))=some [.lit (.pointer none)]:=rfl
@[simp] theorem P1 {o off len esz:Nat} {cap:Room}:Be (.sl o off len esz cap)=some [.sl o off len esz cap]:=rfl
@[simp] theorem Pb {cs:List AV} {len esz:Nat}:Be (.imm cs len esz)=some [.imm cs len esz]:=rfl
@[simp] theorem Pe {o off:Nat}:Be (.ptr o off)=some [.ptr o off]:=rfl
@[simp] theorem Pa:Be .emp=some [.emp]:=rfl
@[simp] theorem P0 {o:Nat}:Be (.mp o)=some [.mp o]:=rfl
@[simp] theorem OZ {cs:List AV}:Be (.agg cs)=if cs.all oneA then some cs else none:=rfl
theorem ET {v:AV}(h:oneA v=true):Be v=some [v]:=by
 cases v<;>first
  | rfl
  | (rename_i u;cases u<;>first | rfl | simp[oneA]at h)
  | simp[oneA]at h
@[simp] theorem P2 {cells:List AV}:GP cells []=some cells:=rfl
@[simp] theorem Ph {cells:List AV} {off size:Nat} {v:AV} {r:List (Nat×Nat×AV)}:GP cells ((off,size,v)::r)=match Be v with
  | some xs=>if xs.length=size∧off+size≤cells.length then GP (AM cells off xs) r else none
  | none=>none:=rfl
attribute [simp] O1 MU ON Ee AM LI0 LI1 LI2 LI3 LI4 LI5 LI6 LI7 LI8 LI9 QL QM QN QO QP QQ QR QS QT
@[simp] theorem Nf {g:Bool} {n o off:Nat} {H:AH}:Ak g n H (.ptr o off)=match H[o]? with
  | some (some (.cells cs))=>Ae g n cs off
  | _=>none:=rfl
@[simp] theorem PI {cs:List AV} {len esz:Nat}:Bm (.imm cs len esz)=some (I len):=rfl
@[simp] theorem PJ:Bm (.lit (.slice none 0 0))=some (I 0):=rfl
@[simp] theorem Q7 {o off len esz:Nat} {cap:Room}:Bm (.sl o off len esz cap)=some (I len):=rfl
@[simp] theorem PK {s:ByteArray}:Hr (.lit (.string s))=some (I s.size):=rfl
section
variable {P : Program} {f : FuncId} {args : List AV} {R : AV}
theorem BPure.flat (h:∀H,∃r H',(r=R∧H'=H)∧BJ P f args H r H'):BPure P f args R:=λH=>by
 obtain⟨r,H',⟨rfl,rfl⟩,h⟩:=h H;exact h
end
def SV {α:Type}(enc:α→List AV)(sz:Nat)(l:List α)(v:AV):Prop:=noIds v=true∧∀H,Ab H sz v=some (l.flatMap enc,l.length)
section
variable {α : Type} {enc : α→List AV} {sz : Nat} {l : List α} {v : AV}
theorem SV.nil:SV enc sz [] AI:=⟨rfl,λ_=>rfl⟩
theorem SV.len (h:SV enc sz l v):Bm v=some (I l.length):=by
 have h2:=h.2 [];unfold Ab at h2;split at h2
 ·split at h2
  ·injection h2 with h2;injection h2 with e1 e2;rw[← e2];rfl
  ·cases h2
 ·simp at h2
 ·injection h2 with h2;injection h2 with e1 e2;rw[← e2];rfl
 ·injection h2 with h2;injection h2 with e1 e2;rw[← e2];rfl
 ·cases h2
abbrev RW:=@List.flatMap_cons
theorem Gp (hsz:∀x,(enc x).length=sz):∀{l:List α} {k:Nat} {x:α},l[k]?=some x→(l.flatMap enc).drop (k*sz)=enc x++(l.drop (k+1)).flatMap enc
 | [],k,x,h=>by simp at h
 | a::l,0,x,h=>by simp at h;subst h;simp
 | a::l,k+1,x,h=>by
  have:=Gp hsz (l:=l) (k:=k) (by simpa using h)
  rw[RW,Su,Nat.add_comm,← List.drop_drop,List.drop_left' (hsz a)]
  simpa using this
theorem KD (hsz:∀x,(enc x).length=sz)(l:List α):(l.flatMap enc).length=l.length*sz:=by
 induction l with
 | nil=>simp
 | cons a l ih=>simp[RW,hsz,ih,Su];omega
theorem SV.imm (hsz:∀x,(enc x).length=sz)(hn:∀x∈l,Ac (enc x)=true):SV enc sz l (.imm (l.flatMap enc) l.length sz):=by
 refine⟨?_,λH=>?_⟩
 ·simp only[noIds]
  induction l with
  | nil=>rfl
  | cons a l ih=>
   rw[RW];have h1:=hn a (by simp);have h2:=ih λx hx=>hn x (by simp[hx])
   generalize enc a=c at h1
   induction c with
   | nil=>exact h2
   | cons b c ihc=>simp only[Ac,R9,List.cons_append]at h1⊢;exact⟨h1.1,ihc h1.2⟩
 ·simp[Ab,KD hsz]
theorem SV.idx (h:SV enc sz l v)(hsz:∀x,(enc x).length=sz){k:Nat}{x:α}{i:Int}(hk:l[k]?=some x)(hi:i=k):Bz sz v (.lit (.int .i64 i))=some (.ip (enc x++(l.drop (k+1)).flatMap enc)):=by
 subst hi;have hlt:=(Et.1 hk).1;have h1:=h.1;have h2:=h.2 [];unfold Ab at h2;split at h2
 ·rename_i cs len esz
  split at h2
  ·injection h2 with h2;injection h2 with e1 e2
   subst e1;subst e2;simp only[Bz,Ho];rw[if_pos ⟨by omega,by omega⟩];simp[Gp hsz hk]
  ·cases h2
 ·simp[noIds]at h1
 ·injection h2 with h2;injection h2 with e1 e2;rw[← e2]at hlt;omega
 ·injection h2 with h2;injection h2 with e1 e2;rw[← e2]at hlt;omega
 ·cases h2
end
end
section
section
variable {α : Type} {sz : Nat} {H : AH} {v : AV} {cs : List AV} {n : Nat}
theorem Kq {bytes:Nat}{x:AV}{ds:List AV}{m:Nat}(h1:Ab H sz v=some (cs,n))(ho:EX v=true)(h2:AP H sz x=some (ds,m))(hb:(n+m)*bytes≤140737488355328):
  ∃r H',OJ sz bytes H v x=some (r,H')∧EX r=true∧Ab H' sz r=some (cs++ds,n+m)∧H.length≤H'.length∧(∀i,i<H.length→i∉HC v→H'[i]?=H[i]?)∧∀i∈HC r,i∈HC v∨H.length≤i:=by
 obtain⟨r,H',h⟩:=Lk h1 ho (JO h2) hb;exact⟨r,H',by unfold OJ;rw[h2];exact h.1,h.2⟩
end
mutual
theorem HB (X:AH):∀(a:AV),noIds a=true→∃n0,∀n,n0≤n→Fg X n a=some a
 | .lit v,_=>⟨1,λn hn=>by cases n with
  | zero=>omega
  | succ n=>rfl⟩
 | .ip cs,h=>by
  simp only[noIds]at h;obtain⟨n0,h0⟩:=BX X cs h;refine⟨n0+1,λn hn=>?_⟩;cases n with
  | zero=>omega
  | succ n=>simp only[Fg,h0 n (by omega)];rfl
 | .imm cs len esz,h=>by
  simp only[noIds]at h;obtain⟨n0,h0⟩:=BX X cs h;refine⟨n0+1,λn hn=>?_⟩;cases n with
  | zero=>omega
  | succ n=>simp only[Fg,h0 n (by omega)];rfl
 | .agg cs,h=>by
  simp only[noIds]at h;obtain⟨n0,h0⟩:=BX X cs h;refine⟨n0+1,λn hn=>?_⟩;cases n with
  | zero=>omega
  | succ n=>simp only[Fg,h0 n (by omega)];rfl
 | .tup cs,h=>by
  simp only[noIds]at h;obtain⟨n0,h0⟩:=BX X cs h;refine⟨n0+1,λn hn=>?_⟩;cases n with
  | zero=>omega
  | succ n=>simp only[Fg,h0 n (by omega)];rfl
 | .fn f a b,h=>by
  simp only[noIds,R9]at h;obtain⟨n0,h0⟩:=BX X a h.1;obtain⟨n1,h1⟩:=BX X b h.2;refine⟨n0+n1+1,λn hn=>?_⟩;cases n with
  | zero=>omega
  | succ n=>simp only[Fg,h0 n (by omega),h1 n (by omega)]
 | .emp,_=>⟨1,λn hn=>by cases n with
  | zero=>omega
  | succ n=>rfl⟩
 | .junk,_=>⟨1,λn hn=>by cases n with
  | zero=>omega
  | succ n=>rfl⟩
 | .ptr ..,h=>by simp[noIds]at h
 | .sl ..,h=>by simp[noIds]at h
 | .mp ..,h=>by simp[noIds]at h
theorem BX (X:AH):∀(asx:List AV),Ac asx=true→∃n0,∀n,n0≤n→EV (Fg X n) asx=some asx
 | [],_=>⟨0,λ_ _=>rfl⟩
 | a::asx,h=>by
  simp only[Ac,R9]at h;obtain⟨n0,h0⟩:=HB X a h.1;obtain⟨n1,h1⟩:=BX X asx h.2;exact⟨n0+n1,λn hn=>by simp only[EV,h0 n (by omega),h1 n (by omega)]⟩
end
theorem J3 {X:AH}{sz:Nat}{r:AV}{cs:List AV}{m:Nat}(h:Ab X sz r=some (cs,m))(hc:Ac cs=true):∃R n0,noIds R=true∧(∀H,Ab H sz R=some (cs,m))∧∀n,n0≤n→Fg X n r=some R:=by
 have hcl:=DW h;unfold Ab at h;split at h
 ·rename_i c len esz
  split at h
  ·rename_i hb
   injection h with h;injection h with h1 h2;subst h1;subst h2;obtain⟨n0,h0⟩:=HB X (.imm c len esz) (by simpa only[noIds]using hc);exact⟨_,n0,by simpa only[noIds]using hc,λH=>by simp[Ab,hb.1,hb.2],h0⟩
  ·cases h
 ·rename_i o off len esz cap
  split at h
  ·rename_i c hoc
   split at h
   ·rename_i hb
    injection h with h;injection h with h1 h2;obtain⟨n0,h0⟩:=BX X cs hc;refine⟨.imm cs len esz,n0+1,by simpa only[noIds]using hc,λH=>?_,λn hn=>?_⟩
    ·rw[← h2]at hcl⊢
     simp[Ab,hb.1,hcl]
    ·cases n with
     | zero=>omega
     | succ n=>
      obtain⟨rfl,-⟩:=hb;simp only[Fg,hoc,h1,h0 n (by omega)];rfl
   ·cases h
  ·cases h
 ·injection h with h;injection h with h1 h2
  subst h1;subst h2
  exact⟨_,1,rfl,λH=>rfl,λn hn=>by cases n with
   | zero=>omega
   | succ n=>rfl⟩
 ·injection h with h;injection h with h1 h2
  subst h1;subst h2
  exact⟨_,1,rfl,λH=>rfl,λn hn=>by cases n with
   | zero=>omega
   | succ n=>rfl⟩
 ·cases h
section
variable {P : Program} {f : FuncId} {args : List AV}
theorem BPure.fz {Q:AV→Prop}(hb:Ac args=true)(h:∃r X,(∃n R,Fg X n r=some R∧Q R)∧BJ P f args [] r X):∃R,Q R∧BPure P f args R:=by
 obtain⟨r,X,⟨n,R,hf,hq⟩,h⟩:=h;exact⟨R,hq,BPure.of h hb hf⟩
theorem BPure.val {R:AV}(hb:Ac args=true)(hR:noIds R=true)(h:∃r X,r=R∧BJ P f args [] r X):BPure P f args R:=by
 obtain⟨r,X,rfl,h⟩:=h;obtain⟨n0,h0⟩:=HB X r hR;exact BPure.of h hb (h0 n0 (Rx _))
theorem BPure.sl {sz:Nat}{cs:List AV}{m:Nat}(hb:Ac args=true)(hc:Ac cs=true)(h:∃r X,Ab X sz r=some (cs,m)∧BJ P f args [] r X):∃R,(noIds R=true∧∀H,Ab H sz R=some (cs,m))∧BPure P f args R:=by
 obtain⟨r,X,h1,h⟩:=h;obtain⟨R,n0,h2,h3,h4⟩:=J3 h1 hc;exact⟨R,⟨h2,h3⟩,BPure.of h hb (h4 n0 (Rx _))⟩
end
end
section
section
variable {P : Program} {ql al : FuncId→Bool} {dr w : Bool} {ρ : Operand→AV} {H : AH}
end
end
section
section
variable {P : Program}
def G7 (P:Program)(call:B9)(ops:Array Oper):List Oper→List AV→AH→Option (List AV×AH)
 | [],T,H=>some (T,H)
 | o::l,T,H=>match A0 ops T o with
  | none=>none
  | some false=>G7 P call ops l (Bp T o.dst Ad) H
  | some true=>match AT P (Au T) H o with
   | some (r,H')=>G7 P call ops l (Bp T o.dst r) H'
   | none=>match BD (Au T) o with
    | some (f,args)=>if B0 P f then match call f args H with
      | some (r,H')=>G7 P call ops l (Bp T o.dst r) H'
      | none=>none
     else none
    | none=>none
theorem FP {call:B9}(hc:Cn P call){ops:Array Oper}:∀(l:List Oper) (T T':List AV) (H H':AH),G7 P call ops l T H=some (T',H')→∀{Q:AQ},Q .normal T' H'→AOps P ops Q l T H
 | [],T,T',H,H',h,Q,hq=>by
  simp only[G7]at h;injection h with h;injection h with h1 h2;subst h1;subst h2;exact AOps.nil hq
 | o::l,T,T',H,H',h,Q,hq=>by
  unfold G7 at h;split at h
  ·cases h
  ·rename_i hw
   exact AOps.unwanted hw (FP hc l _ _ _ _ h hq)
  ·rename_i hw
   split at h
   ·rename_i r H1 hop
    exact AOps.op hw hop (FP hc l _ _ _ _ h hq)
   ·split at h
    ·rename_i f args hcall
     split at h
     ·rename_i hgo
      split at h
      ·rename_i r H1 hcf
       refine AOps.call hw hcall hgo ((hc f args H r H1 hcf).mono ?_);rintro r' H'' ⟨rfl,rfl⟩;exact FP hc l _ _ _ _ h hq
      ·cases h
     ·cases h
    ·cases h
def GM (P:Program)(pl:FuncId→Bool)(pure:Eo)(call:B9):Nat→Code→List AV→AH→Option (Exit×List AV×AH)
 | 0,_,_,_=>none
 | n+1,c,T,H=>match c with
  | .skip=>some (.normal,T,H)
  | .label _=>some (.normal,T,H)
  | .ret=>some (.ret,T,H)
  | .exit id=>some (.exit id,T,H)
  | .region _ ops false=>(G7 P call ops ops.toList T H).map λp=>(.normal,p.1,p.2)
  | .region _ ops true=>(Ki P pl pure call ops.toList T H).map λp=>(.normal,p.1,p.2)
  | .seq a b=>match GM P pl pure call n a T H with
   | some (.normal,T',H')=>GM P pl pure call n b T' H'
   | r=>r
  | .cond x a b=>match Au T x with
   | .lit (.bool t)=>GM P pl pure call n (if t then a else b) T H
   | _=>none
  | .block id b=>match GM P pl pure call n b T H with
   | some (.exit id',T',H')=>if id'=id then some (.normal,T',H')else some (.exit id',T',H')
   | r=>r
  | .loop b=>match GM P pl pure call n b T H with
   | some (.normal,T',H')=>GM P pl pure call n (.loop b) T' H'
   | r=>r
  | _=>none
theorem Od {pl:FuncId→Bool}{pure:Eo}(hp:Ep P pure){call:B9}(hc:Cn P call):∀(n:Nat) (c:Code) (T:List AV) (H:AH) (r:Exit×List AV×AH),GM P pl pure call n c T H=some r→ACode P c (AQ.is r) T H:=by
 intro n
 induction n using Nat.strongRecOn with
 | _ n ih=>
 intro c T H r h;cases n with
 | zero=>simp[GM]at h
 | succ n=>
 unfold GM at h;split at h
 ·injection h with h;exact ACode.skip (by rw[← h];rfl)
 ·injection h with h;exact ACode.label (by rw[← h];rfl)
 ·injection h with h;exact ACode.ret (by rw[← h];rfl)
 ·injection h with h;exact ACode.exit (by rw[← h];rfl)
 ·obtain⟨⟨T',H'⟩,h1,rfl⟩:=Option.map_eq_some_iff.1 h
  exact ACode.region (FP hc _ _ _ _ _ h1 rfl)
 ·obtain⟨⟨T',H'⟩,h1,rfl⟩:=Option.map_eq_some_iff.1 h
  rename_i ops
  have:=IZ hp hc (id:=0) h1 (Q:=AQ.is (.normal,T',H')) rfl
  have:=IZ hp hc (id:=by assumption) h1 (Q:=AQ.is (.normal,T',H')) rfl
  simpa using this
 ·rename_i a b
  refine ACode.seq ?_;split at h
  ·rename_i T' H' h1
   refine(ih n (by omega) a T H _ h1).mono ?_;rintro e T1 H1 he;simp only[AQ.is,RK]at he;obtain⟨rfl,rfl,rfl⟩:=he;exact ih n (by omega) b _ _ r h
  ·rename_i hne
   refine(ih n (by omega) a T H r h).mono ?_;rintro e T1 H1 he;cases e with
   | normal=>
    simp only[AQ.is]at he;subst he;exact absurd h (hne T1 H1)
   | _=>exact he
 ·rename_i x a b
  split at h
  ·rename_i t ht
   exact ACode.cond ht (ih n (by omega) _ _ _ _ h)
  ·cases h
 ·rename_i id b
  refine ACode.block ?_;split at h
  ·rename_i id' T' H' h1
   refine(ih n (by omega) b T H _ h1).mono ?_;rintro e T1 H1 he;simp only[AQ.is,RK]at he;obtain⟨rfl,rfl,rfl⟩:=he;simp only[AQ.inBlock];split at h<;>(injection h with h;rename_i hid)
   ·rw[if_pos hid];exact h
   ·rw[if_neg hid];exact h
  ·rename_i hne
   refine(ih n (by omega) b T H r h).mono ?_;rintro e T1 H1 he;cases e with
   | exit id'=>
    simp only[AQ.is]at he;subst he;exact absurd h (hne id' T1 H1)
   | _=>exact he
 ·rename_i b
  refine ACode.loop (λm T1 H1=>m≤n+1∧GM P pl pure call m (.loop b) T1 H1=some r) (n+1) ⟨Rx _,?_⟩ ?_
  ·unfold GM;exact h
  ·rintro m T1 H1 ⟨hm,h1⟩
   cases m with
   | zero=>simp[GM]at h1
   | succ m=>
    unfold GM at h1;simp only at h1;split at h1
    ·rename_i T2 H2 h2
     refine(ih m (by omega) b T1 H1 _ h2).mono ?_;rintro e T3 H3 he;simp only[AQ.is,RK]at he;obtain⟨rfl,rfl,rfl⟩:=he;exact⟨m,by omega,by omega,h1⟩
    ·rename_i hne
     refine(ih m (by omega) b T1 H1 r h1).mono ?_;rintro e T3 H3 he;cases e with
     | normal=>
      simp only[AQ.is]at he;subst he;exact absurd h1 (hne T3 H3)
     | _=>exact he
 ·cases h
def LD (P:Program)(pl:FuncId→Bool)(call:B9):Eo:=λf args=>
 if pl f&&B0 P f&&Ac args then match call f args []with
  | some (r,X)=>Fg X 64 r
  | none=>none
 else none
theorem MI {pl:FuncId→Bool}{call:B9}(hc:Cn P call):Ep P (LD P pl call):=by
 intro f args r h;unfold LD at h;split at h
 ·rename_i hb
  simp only[R9]at hb;split at h
  ·rename_i r0 X hr
   refine⟨hb.1.2,λH=>?_⟩;exact ACalls.pure (R':=λr'=>r'=r) (hc f args [] r0 X hr) (B4 hb.2) (λr1 X1 h1=>⟨64,r,by rw[h1.1,h1.2];exact h,rfl⟩) H
  ·cases h
 ·cases h
def I0 (P:Program)(pl:FuncId→Bool)(call:B9)(fuel:Nat)(f:FuncId)(args:List AV)(H:AH):Option (AV×AH):=
 match P.funcs[f]? with
 | some fn=>match fn.body with
  | some c=>match GM P pl (LD P pl call) call fuel c (args++List.replicate (fn.ntmps - args.length) Ad) H with
   | some (e,T,H')=>if J8 e then(Ht P H' T fn.results.toList).map λxs=>(JD xs,H')else none
   | none=>none
  | none=>none
 | none=>none
theorem IY {pl:FuncId→Bool}{call:B9}(hc:Cn P call){fuel:Nat}:Cn P (I0 P pl call fuel):=by
 intro f args H r H' h;unfold I0 at h;split at h
 ·rename_i fn hf
  split at h
  ·rename_i c hb
   split at h
   ·rename_i e T H1 he
    split at h
    ·rename_i ho
     obtain⟨xs,hxs,heq⟩:=Option.map_eq_some_iff.1 h;injection heq with h1 h2;subst h1;subst h2;refine ACalls.of_body hf hb ((Od (MI hc) hc fuel c _ H _ he).mono ?_);rintro e' T' H' hq;simp only[AQ.is,RK]at hq;obtain⟨rfl,rfl,rfl⟩:=hq;refine⟨?_,xs,hxs,rfl,rfl⟩
     revert ho
     cases e'<;>simp[J8]
    ·cases h
   ·cases h
  ·cases h
 ·cases h
def run (P:Program)(ext:B9)(pl ql:FuncId→Bool)(fuel:Nat):Nat→B9
 | 0=>λ_ _ _=>none
 | n+1=>λf args H=>match ext f args H with
  | some r=>some r
  | none=>if pl f&&Ac args then match I0 P ql (run P ext pl ql fuel n) fuel f args []with
    | some (r,X)=>(Fg X 64 r).map (·,H)
    | none=>none
   else I0 P ql (run P ext pl ql fuel n) fuel f args H
theorem LI {ext:B9}(hx:Cn P ext){fuel:Nat}{pl ql:FuncId→Bool}:∀n,Cn P (run P ext pl ql fuel n)
 | 0=>λf args H r H' h=>by cases h
 | n+1=>λf args H r H' h=>by
  unfold run at h;split at h
  ·rename_i q hq
   injection h with h;subst h;exact hx f args H r H' hq
  ·split at h
   ·rename_i hb
    simp only[R9]at hb;split at h
    ·rename_i r0 X hr
     obtain⟨r1,h1,h2⟩:=Option.map_eq_some_iff.1 h;injection h2 with h2 h3;subst h2;subst h3;exact ACalls.pure (R':=λr'=>r'=r1) (IY (LI hx n) f args [] r0 X hr) (B4 hb.2) (λr2 X2 h2=>⟨64,r1,by rw[h2.1,h2.2];exact h1,rfl⟩) H
    ·cases h
   ·exact IY (LI hx n) f args H r H' h
def Cfg.start (W:World):Cfg:={w:=W,n:=0,μ:=λ_=>(0,0,0),L:=λ_=>False,K:=λ_=>False}
theorem HR.start (W:World):HR (Cfg.start W) []:=⟨rfl,λo x h=>by simp at h,λo o' x x' h=>by simp at h,λo x h=>by simp at h,λb h=>h.elim (λh=>h.elim) (λh=>h.elim),λb h=>h.elim⟩
theorem Evo.below {G':Cfg}{W:World}(h:Evo (Cfg.start W) G'):Below W.heap.size W G'.w:=⟨h.os,h.tape,h.output,h.size,λk hk=>(h.keep k hk (λh=>h)).1⟩
theorem law_calls {f:FuncId}{args:List AV}(h:ACalls P f args [] λr _=>r=.lit (.bool true))(W:World){vs:List Value}(hv:VRs (Cfg.start W) args vs):
  Calls P f vs.toArray W λe W'=>e=.returned (.bool true)∧Below W.heap.size W W':=
 (h (Cfg.start W) vs (HR.start W) hv).mono fun e w' ⟨r,H',G',v,he,hw,hE,hx,_,hr⟩=>by
  subst hr;simp only[VR]at hx;subst hx;rw[← hw];exact⟨he,hE.below⟩
end
end
end Go.Proofs.Ytijoffokpjbnjaa.Av
section
namespace Go.Proofs.Ytijoffokpjbnjaa.Av
open Go Go.Proofs.Try
theorem own:ownKnob prog.godebug=none:=by kernel_rfl
theorem laidOut:laidOutB prog=true:=by kernel_rfl
def isTrue:Option (AV×AH)→Bool
 | some (.lit (.bool b),_)=>b
 | _=>false
theorem N3 {P:Program}{ext:B9}(hx:Cn P ext){pl ql:FuncId→Bool}{fuel n:Nat}{f:FuncId}{args:List AV}(h:isTrue (run P ext pl ql fuel n f args [])=true):ACalls P f args [] λr _=>r=.lit (.bool true):=by
 cases hr:run P ext pl ql fuel n f args []with
 | none=>rw[hr]at h;cases h
 | some q=>
  obtain⟨r,H⟩:=q;rw[hr]at h;refine(LI hx n f args [] r H hr).mono ?_;rintro r' H' ⟨rfl,rfl⟩;unfold isTrue at h;split at h
  ·rename_i he
   injection he with he;injection he with h1 h2;rw[h1,h]
  ·cases h
abbrev tT:=true
abbrev fF:=false
abbrev KT:=AV→AH→Prop
abbrev u0Z:AV:=.lit (.int .u8 0)
abbrev RT:=List AV→AH→Prop
def AJ:BO:=Pi []
def Fq:Nat→Option (List Bool):=DL []
abbrev EN (f:FuncId)(args:List AV)(H:AH)(K:KT):Prop:=∃r H',K r H'∧BJ prog f args H r H'
def Q0 (b:RT→AV→AV→AH→Prop)(L:AV→AV→AH→Prop):Prop:=∀(I:Nat→AV→AV→AH→Prop) (round:∀(n:Nat) (x0 x1:AV) (H:AH) (R:RT),(∀(m:Nat) (y0 y1:AV) (H':AH),m<n→I m y0 y1 H'→R [y0,y1] H')→I n x0 x1 H→b R x0 x1 H) (n:Nat) {x0 x1:AV} {H:AH} (h:I n x0 x1 H),L x0 x1 H
theorem Pm {keep:List Bool}{body:List AV→AH→Kf→Prop}{K0:Kf}{b:RT→AV→AV→AH→Prop}(hb:One body)(he:∀(R:RT) (x0 x1:AV) (H:AH),body (AS keep [x0,x1]) H (NI keep R K0)=b R x0 x1 H):Q0 b (λx0 x1 H=>lp keep body [x0,x1] H K0):=by
 intro I round n x0 x1 H h;refine Ha hb (LI2 I) ?_ n h;intro n X H h;obtain⟨x0,x1,rfl,h⟩:=h.elim;exact Eq.mpr (he _ x0 x1 H) (round n x0 x1 H (λX H'=>∃m,m<n∧LI2 I m X H') (λm y0 y1 H' hm hi=>⟨m,hm,hi⟩) h)
def NJ (b:RT→AV→AV→AV→AH→Prop)(L:AV→AV→AV→AH→Prop):Prop:=∀(I:Nat→AV→AV→AV→AH→Prop) (round:∀(n:Nat) (x0 x1 x2:AV) (H:AH) (R:RT),(∀(m:Nat) (y0 y1 y2:AV) (H':AH),m<n→I m y0 y1 y2 H'→R [y0,y1,y2] H')→I n x0 x1 x2 H→b R x0 x1 x2 H) (n:Nat) {x0 x1 x2:AV} {H:AH} (h:I n x0 x1 x2 H),L x0 x1 x2 H
theorem KL {keep:List Bool}{body:List AV→AH→Kf→Prop}{K0:Kf}{b:RT→AV→AV→AV→AH→Prop}(hb:One body)(he:∀(R:RT) (x0 x1 x2:AV) (H:AH),body (AS keep [x0,x1,x2]) H (NI keep R K0)=b R x0 x1 x2 H):NJ b (λx0 x1 x2 H=>lp keep body [x0,x1,x2] H K0):=by
 intro I round n x0 x1 x2 H h;refine Ha hb (LI3 I) ?_ n h;intro n X H h;obtain⟨x0,x1,x2,rfl,h⟩:=h.elim;exact Eq.mpr (he _ x0 x1 x2 H) (round n x0 x1 x2 H (λX H'=>∃m,m<n∧LI3 I m X H') (λm y0 y1 y2 H' hm hi=>⟨m,hm,hi⟩) h)
def OG (b:RT→AV→AV→AV→AV→AH→Prop)(L:AV→AV→AV→AV→AH→Prop):Prop:=∀(I:Nat→AV→AV→AV→AV→AH→Prop) (round:∀(n:Nat) (x0 x1 x2 x3:AV) (H:AH) (R:RT),(∀(m:Nat) (y0 y1 y2 y3:AV) (H':AH),m<n→I m y0 y1 y2 y3 H'→R [y0,y1,y2,y3] H')→I n x0 x1 x2 x3 H→b R x0 x1 x2 x3 H) (n:Nat) {x0 x1 x2 x3:AV} {H:AH} (h:I n x0 x1 x2 x3 H),L x0 x1 x2 x3 H
theorem MB {keep:List Bool}{body:List AV→AH→Kf→Prop}{K0:Kf}{b:RT→AV→AV→AV→AV→AH→Prop}(hb:One body)(he:∀(R:RT) (x0 x1 x2 x3:AV) (H:AH),body (AS keep [x0,x1,x2,x3]) H (NI keep R K0)=b R x0 x1 x2 x3 H):OG b (λx0 x1 x2 x3 H=>lp keep body [x0,x1,x2,x3] H K0):=by
 intro I round n x0 x1 x2 x3 H h;refine Ha hb (LI4 I) ?_ n h;intro n X H h;obtain⟨x0,x1,x2,x3,rfl,h⟩:=h.elim;exact Eq.mpr (he _ x0 x1 x2 x3 H) (round n x0 x1 x2 x3 H (λX H'=>∃m,m<n∧LI4 I m X H') (λm y0 y1 y2 y3 H' hm hi=>⟨m,hm,hi⟩) h)
def PB (b:RT→AV→AV→AV→AV→AV→AH→Prop)(L:AV→AV→AV→AV→AV→AH→Prop):Prop:=∀(I:Nat→AV→AV→AV→AV→AV→AH→Prop) (round:∀(n:Nat) (x0 x1 x2 x3 x4:AV) (H:AH) (R:RT),(∀(m:Nat) (y0 y1 y2 y3 y4:AV) (H':AH),m<n→I m y0 y1 y2 y3 y4 H'→R [y0,y1,y2,y3,y4] H')→I n x0 x1 x2 x3 x4 H→b R x0 x1 x2 x3 x4 H) (n:Nat) {x0 x1 x2 x3 x4:AV} {H:AH} (h:I n x0 x1 x2 x3 x4 H),L x0 x1 x2 x3 x4 H
theorem Oh {keep:List Bool}{body:List AV→AH→Kf→Prop}{K0:Kf}{b:RT→AV→AV→AV→AV→AV→AH→Prop}(hb:One body)(he:∀(R:RT) (x0 x1 x2 x3 x4:AV) (H:AH),body (AS keep [x0,x1,x2,x3,x4]) H (NI keep R K0)=b R x0 x1 x2 x3 x4 H):PB b (λx0 x1 x2 x3 x4 H=>lp keep body [x0,x1,x2,x3,x4] H K0):=by
 intro I round n x0 x1 x2 x3 x4 H h;refine Ha hb (LI5 I) ?_ n h;intro n X H h;obtain⟨x0,x1,x2,x3,x4,rfl,h⟩:=h.elim;exact Eq.mpr (he _ x0 x1 x2 x3 x4 H) (round n x0 x1 x2 x3 x4 H (λX H'=>∃m,m<n∧LI5 I m X H') (λm y0 y1 y2 y3 y4 H' hm hi=>⟨m,hm,hi⟩) h)
def QU (b:RT→AV→AV→AV→AV→AV→AV→AH→Prop)(L:AV→AV→AV→AV→AV→AV→AH→Prop):Prop:=∀(I:Nat→AV→AV→AV→AV→AV→AV→AH→Prop) (round:∀(n:Nat) (x0 x1 x2 x3 x4 x5:AV) (H:AH) (R:RT),(∀(m:Nat) (y0 y1 y2 y3 y4 y5:AV) (H':AH),m<n→I m y0 y1 y2 y3 y4 y5 H'→R [y0,y1,y2,y3,y4,y5] H')→I n x0 x1 x2 x3 x4 x5 H→b R x0 x1 x2 x3 x4 x5 H) (n:Nat) {x0 x1 x2 x3 x4 x5:AV} {H:AH} (h:I n x0 x1 x2 x3 x4 x5 H),L x0 x1 x2 x3 x4 x5 H
theorem Qn {keep:List Bool}{body:List AV→AH→Kf→Prop}{K0:Kf}{b:RT→AV→AV→AV→AV→AV→AV→AH→Prop}(hb:One body)(he:∀(R:RT) (x0 x1 x2 x3 x4 x5:AV) (H:AH),body (AS keep [x0,x1,x2,x3,x4,x5]) H (NI keep R K0)=b R x0 x1 x2 x3 x4 x5 H):QU b (λx0 x1 x2 x3 x4 x5 H=>lp keep body [x0,x1,x2,x3,x4,x5] H K0):=by
 intro I round n x0 x1 x2 x3 x4 x5 H h;refine Ha hb (LI6 I) ?_ n h;intro n X H h;obtain⟨x0,x1,x2,x3,x4,x5,rfl,h⟩:=h.elim;exact Eq.mpr (he _ x0 x1 x2 x3 x4 x5 H) (round n x0 x1 x2 x3 x4 x5 H (λX H'=>∃m,m<n∧LI6 I m X H') (λm y0 y1 y2 y3 y4 y5 H' hm hi=>⟨m,hm,hi⟩) h)
def Lj:FuncId→Bool:=O9 [55,28,14,29,33,57,56,58,66,68,80,83,76,43,44,73,75,79,87,41,82,86,52]
theorem Pn:prog.follows .mixedOrders=true:=by kernel_rfl
theorem fok (fl:BO)(ql:FuncId→Bool)(kp:Nat→Option (List Bool)){f:FuncId}{fn:Func}{args:List AV}{H:AH}{K:KT}{X:Prop}(hf:prog.funcs[f]?=some fn)(h:X)(hc:Lt fl ql fn=true:=by kernel_rfl)(he:MM prog fl ql Ai Ai kp fn args H K=X:=by kernel_rfl):EN f args H K:=Ot Pn hf hc (Eq.mpr he h)
def Gl:Nat→Option (List Bool):=DL [(7,mk 40 0 [1,3,15,16,17])]
def GN (p:List Bool)(n:Nat):List AV→AH→Kf→Prop:=Ax prog AJ Lj Ai Ai Gl (sub p (AY f28)) n
def Gk (x1 x3 x15 x16 x17:AV)(H:AH)(K:KT):Prop:=lp (mk 40 0 [1,3,15,16,17]) (GN [tT,tT,tT,fF,tT,fF,fF] 8) [x1,x3,x15,x16,x17] H (Cp 0 (Cw (GN [tT,tT,tT,tT] 15) (C7 prog f28.results.toList K)))
def Fd (R7:RT)(x1 x3 x15 x16 x17:AV)(H:AH)(K:KT):Prop:=
 bO (Aq .lss x17 x16) λv0=>
 bB v0 λt1=>bI t1 (
 bO (Bz 9 x15 x17) λv2=>
 bO (Ak true 9 H v2) λv3=>
 bH (AO H (.agg [(I 0),u0Z,u0Z,u0Z,u0Z,u0Z,u0Z,u0Z,u0Z])) λv4 H5=>
 bS (Ex 9 H5 v4 v3) λH6=>
 bO (Aa 0 v4) λv7=>
 bO (Ak false 1 H6 v7) λv8=>
 bO (Aq .leq v8 x3) λv9=>
 bG v9 false λw10=>
 gO w10 (Aa 0 v4) λv11=>
 bG v9 false λw12=>
 gO w12 (Ak false 1 H6 v11) λv13=>
 bG v9 false λw14=>
 gO w14 (Aq .geq v13 (I 137438953472)) λv15=>
 bO (Aj v9 (B true) v15) λv16=>
 bG v16 false λw17=>
 gO w17 (Ak true 9 H6 v4) λv18=>
 bG v16 false λw19=>
 gO w19 (Aa 0 x1) λv20=>
 bG v16 false λw21=>
 gO w21 (Ak false 1 H6 v20) λv22=>
 bG v16 false λw23=>
 gP w23 (PCall prog 43 [v18,v22] H6) λv24=>
 bG v16 false λw25=>
 gO w25 (Iu .not v24) λv26=>
 bO (Aj v16 (B true) v26) λv27=>
 bB v27 λt28=>bI t28 (
 K (B false) H6)
 (bO (Aa 0 v4) λv29=>
 bO (Ak false 1 H6 v29) λv30=>
 bO (Aq .add x17 (I 1)) λv31=>
 R7 [x1,v30,x15,x16,v31] H6))
 (K (B true) H)
theorem G5 {K:KT}:PB (λR x1 x3 x15 x16 x17 H=>Fd R x1 x3 x15 x16 x17 H K) (λx1 x3 x15 x16 x17 H=>Gk x1 x3 x15 x16 x17 H K):=Oh (Ag _ _) (λ_ _ _ _ _ _ _=>by kernel_rfl)
def IF (a0:AV)(H:AH)(K:KT):Prop:=
 bH (AO H a0) λv0 H1=>
 bO (Aa 0 v0) λv2=>
 bO (Ak false 1 H1 v2) λv3=>
 bO (Aq .lss v3 (I 0)) λv4=>
 bG v4 false λw5=>
 gO w5 (Aa 0 v0) λv6=>
 bG v4 false λw7=>
 gO w7 (Ak false 1 H1 v6) λv8=>
 bG v4 false λw9=>
 gO w9 (Aq .gtr v8 (I 1099511627776)) λv10=>
 bO (Aj v4 (B true) v10) λv11=>
 bB v11 λt12=>bI t12 (
 K (B false) H1)
 (bO (Aa 1 v0) λv13=>
 bO (Ak false 1 H1 v13) λv14=>
 bO (Bm v14) λv15=>
 Gk v0 (I (-1)) v14 v15 (I 0) H1 K)
theorem Jk {a0:AV}{H:AH}{K:KT}(h:IF a0 H K):EN 28 [a0] H K:=
 fok AJ Lj Gl func28 h
def Cb:Nat→Option (List Bool):=DL [(6,mk 38 0 [2,3,5])]
def Cl (p:List Bool)(n:Nat):List AV→AH→Kf→Prop:=Ax prog AJ Lj Ai Ai Cb (sub p (AY f14)) n
def Ca (x2 x3 x5:AV)(H:AH)(K:KT):Prop:=lp (mk 38 0 [2,3,5]) (Cl [tT,tT,fF,tT,fF,fF] 7) [x2,x3,x5] H (Cp 0 (Cw (Cl [tT,tT,tT] 12) (C7 prog f14.results.toList K)))
def BN (R6:RT)(x2 x3 x5:AV)(H:AH)(K:KT):Prop:=
 bO (Aa 1 x2) λv0=>
 bO (Ak false 1 H v0) λv1=>
 bO (Bm v1) λv2=>
 bO (Aq .lss x5 v2) λv3=>
 bB v3 λt4=>bI t4 (
 bO (Aa 1 x2) λv5=>
 bO (Ak false 1 H v5) λv6=>
 bO (Bz 9 v6 x5) λv7=>
 bO (Ak true 9 H v7) λv8=>
 bO (Aa 1 x3) λv9=>
 bO (Ak false 1 H v9) λv10=>
 bO (Bz 9 v10 x5) λv11=>
 bO (Ak true 9 H v11) λv12=>
 bO (Ey prog .neq 59 v8 v12) λv13=>
 bB v13 λt14=>bI t14 (
 K (B false) H)
 (bO (Aq .add x5 (I 1)) λv15=>
 R6 [x2,x3,v15] H))
 (K (B true) H)
theorem CI {K:KT}:NJ (λR x2 x3 x5 H=>BN R x2 x3 x5 H K) (λx2 x3 x5 H=>Ca x2 x3 x5 H K):=KL (Ag _ _) (λ_ _ _ _ _=>by kernel_rfl)
def C3 (a0 a1:AV)(H:AH)(K:KT):Prop:=
 bH (AO H a0) λv0 H1=>
 bH (AO H1 a1) λv2 H3=>
 bO (Aa 0 v0) λv4=>
 bO (Ak false 1 H3 v4) λv5=>
 bO (Aa 0 v2) λv6=>
 bO (Ak false 1 H3 v6) λv7=>
 bO (Aq .neq v5 v7) λv8=>
 bG v8 false λw9=>
 gO w9 (Aa 1 v0) λv10=>
 bG v8 false λw11=>
 gO w11 (Ak false 1 H3 v10) λv12=>
 bG v8 false λw13=>
 gO w13 (Bm v12) λv14=>
 bG v8 false λw15=>
 gO w15 (Aa 1 v2) λv16=>
 bG v8 false λw17=>
 gO w17 (Ak false 1 H3 v16) λv18=>
 bG v8 false λw19=>
 gO w19 (Bm v18) λv20=>
 bG v8 false λw21=>
 gO w21 (Aq .neq v14 v20) λv22=>
 bO (Aj v8 (B true) v22) λv23=>
 bB v23 λt24=>bI t24 (
 K (B false) H3)
 (Ca v0 v2 (I 0) H3 K)
theorem DR {a0 a1:AV}{H:AH}{K:KT}(h:C3 a0 a1 H K):EN 14 [a0,a1] H K:=
 fok AJ Lj Cb func14 h
def Cj:Nat→Option (List Bool):=DL [(15,mk 70 0 [1,3,4,5]),(6,mk 70 0 [1,3])]
def AE (p:List Bool)(n:Nat):List AV→AH→Kf→Prop:=Ax prog AJ Lj Ai Ai Cj (sub p (AY f29)) n
def Bs (R6:RT)(x1 x3 x4 x5:AV)(H:AH)(K:KT):Prop:=lp (mk 70 0 [1,3,4,5]) (AE [tT,tT,fF,tT,fF,fF,tT,fF,fF,tT,tT,tT,fF,fF] 16) [x1,x3,x4,x5] H (Cp 2 (Cp 1 (Cw (AE [tT,tT,fF,tT,fF,fF,tT,tT] 21) (NI (mk 70 0 [1,3]) R6 (Cp 0 (Cw (AE [tT,tT,tT] 21) (C7 prog f29.results.toList K)))))))
def Ci (x1 x3:AV)(H:AH)(K:KT):Prop:=lp (mk 70 0 [1,3]) (AE [tT,tT,fF,tT,fF,fF] 7) [x1,x3] H (Cp 0 (Cw (AE [tT,tT,tT] 21) (C7 prog f29.results.toList K)))
def BM (R6:RT)(R15:RT)(x1 x3 x4 x5:AV)(H:AH)(K:KT):Prop:=
 bO (Aq .lss x5 (I 8)) λv0=>
 bB v0 λt1=>bI t1 (
 bO (Aq .mul x4 (I 8)) λv2=>
 bO (Aq .add v2 x5) λv3=>
 bO (Aa 0 x1) λv4=>
 bO (Ak false 1 H v4) λv5=>
 bO (Aq .geq v3 v5) λv6=>
 bG v6 true λw7=>
 gO w7 (Aa 1 x1) λv8=>
 bG v6 true λw9=>
 gO w9 (Ak false 1 H v8) λv10=>
 bG v6 true λw11=>
 gO w11 (some x3) λv12=>
 bG v6 true λw13=>
 gO w13 (some x5) λv14=>
 bG v6 true λw15=>
 gO w15 (Bz 9 v10 v12) λv16=>
 bG v6 true λw17=>
 gO w17 (Aa 1 v16) λv18=>
 bG v6 true λw19=>
 gO w19 (Nc 8 1 v18 v14) λv20=>
 bG v6 true λw21=>
 gO w21 (Ak false 1 H v20) λv22=>
 bG v6 true λw23=>
 gO w23 (Aq .neq v22 u0Z) λv24=>
 bO (Aj v6 v24 (B false)) λv25=>
 bB v25 λt26=>bI t26 (
 K (B false) H)
 (bO (Aq .add x5 (I 1)) λv27=>
 R15 [x1,x3,x4,v27] H))
 (bO (Aq .add x3 (I 1)) λv28=>
 R6 [x1,v28] H)
theorem CH (R6:RT){K:KT}:OG (λR x1 x3 x4 x5 H=>BM R6 R x1 x3 x4 x5 H K) (λx1 x3 x4 x5 H=>Bs R6 x1 x3 x4 x5 H K):=MB (Ag _ _) (λ_ _ _ _ _ _=>by kernel_rfl)
def BS (R6:RT)(x1 x3:AV)(H:AH)(K:KT):Prop:=
 bO (Aa 1 x1) λv0=>
 bO (Ak false 1 H v0) λv1=>
 bO (Bm v1) λv2=>
 bO (Aq .lss x3 v2) λv3=>
 bB v3 λt4=>bI t4 (
 bO (Aa 1 x1) λv5=>
 bO (Ak false 1 H v5) λv6=>
 bO (Bz 9 v6 x3) λv7=>
 bO (Aa 0 v7) λv8=>
 bO (Ak false 1 H v8) λv9=>
 bO (Aq .lss v9 (I 0)) λv10=>
 bG v10 false λw11=>
 gO w11 (some v9) λv12=>
 bG v10 false λw13=>
 gO w13 (Aq .geq v12 (I 137438953472)) λv14=>
 bO (Aj v10 (B true) v14) λv15=>
 bG v15 false λw16=>
 gO w16 (some x3) λv17=>
 bG v15 false λw18=>
 gO w18 (Aq .gtr v17 (I 0)) λv19=>
 bG v15 false λw20=>
 gO w20 (some v19) λv21=>
 bG v21 true λw22=>
 gO w22 (Aa 1 x1) λv23=>
 bG v21 true λw24=>
 gO w24 (Ak false 1 H v23) λv25=>
 bG v21 true λw26=>
 gO w26 (some x3) λv27=>
 bG v21 true λw28=>
 gO w28 (Aq .sub v27 (I 1)) λv29=>
 bG v21 true λw30=>
 gO w30 (Bz 9 v25 v29) λv31=>
 bG v21 true λw32=>
 gO w32 (Aa 0 v31) λv33=>
 bG v21 true λw34=>
 gO w34 (Ak false 1 H v33) λv35=>
 bG v21 true λw36=>
 gO w36 (some v9) λv37=>
 bG v21 true λw38=>
 gO w38 (Aq .geq v35 v37) λv39=>
 bG v15 false λw40=>
 gO w40 (Aj v21 v39 (B false)) λv41=>
 bO (Aj v15 (B true) v41) λv42=>
 bB v42 λt43=>bI t43 (
 K (B false) H)
 (Bs R6 x1 x3 v9 (I 0) H K))
 (K (B true) H)
theorem CW {K:KT}:Q0 (λR x1 x3 H=>BS R x1 x3 H K) (λx1 x3 H=>Ci x1 x3 H K):=Pm (Ag _ _) (λ_ _ _ _=>by kernel_rfl)
def CA (a0:AV)(H:AH)(K:KT):Prop:=
 bH (AO H a0) λv0 H1=>
 bO (Aa 0 v0) λv2=>
 bO (Ak false 1 H1 v2) λv3=>
 bO (Aq .lss v3 (I 0)) λv4=>
 bG v4 false λw5=>
 gO w5 (Aa 0 v0) λv6=>
 bG v4 false λw7=>
 gO w7 (Ak false 1 H1 v6) λv8=>
 bG v4 false λw9=>
 gO w9 (Aq .gtr v8 (I 1099511627776)) λv10=>
 bO (Aj v4 (B true) v10) λv11=>
 bB v11 λt12=>bI t12 (
 K (B false) H1)
 (Ci v0 (I 0) H1 K)
theorem Ec {a0:AV}{H:AH}{K:KT}(h:CA a0 H K):EN 29 [a0] H K:=
 fok AJ Lj Cj func29 h
def HZ (a0 a1:AV)(H:AH)(K:KT):Prop:=
 bH (AO H a0) λv0 H1=>
 bH (AO H1 a1) λv2 H3=>
 bO (Aa 0 v0) λv4=>
 bO (Ak false 1 H3 v4) λv5=>
 bO (Aa 0 v2) λv6=>
 bO (Ak false 1 H3 v6) λv7=>
 bO (Aq .eql v5 v7) λv8=>
 bG v8 true λw9=>
 gO w9 (Aa 1 v0) λv10=>
 bG v8 true λw11=>
 gO w11 (Ak false 1 H3 v10) λv12=>
 bG v8 true λw13=>
 gO w13 (Aa 1 v2) λv14=>
 bG v8 true λw15=>
 gO w15 (Ak false 1 H3 v14) λv16=>
 bG v8 true λw17=>
 gP w17 (PCall prog 44 [v12,v16] H3) λv18=>
 bO (Aj v8 v18 (B false)) λv19=>
 K v19 H3
theorem IG {a0 a1:AV}{H:AH}{K:KT}(h:HZ a0 a1 H K):EN 33 [a0,a1] H K:=
 fok AJ Lj Fq func33 h
def Ff:Nat→Option (List Bool):=DL [(3,mk 25 0 [1,2,8,9])]
def F2 (p:List Bool)(n:Nat):List AV→AH→Kf→Prop:=Ax prog AJ Lj Ai Ai Ff (sub p (AY f43)) n
def Fe (x1 x2 x8 x9:AV)(H:AH)(K:KT):Prop:=lp (mk 25 0 [1,2,8,9]) (F2 [tT,fF,tT,fF,fF] 4) [x1,x2,x8,x9] H (Cp 0 (Cw (F2 [tT,tT] 10) (C7 prog f43.results.toList K)))
def Eh (R3:RT)(x1 x2 x8 x9:AV)(H:AH)(K:KT):Prop:=
 bO (Aq .lss x9 (I 8)) λv0=>
 bB v0 λt1=>bI t1 (
 bO (Nb false 1 8 1 x8 x9) λv2=>
 bO (Aq .neq v2 u0Z) λv3=>
 bG v3 true λw4=>
 gO w4 (Aa 0 x2) λv5=>
 bG v3 true λw6=>
 gO w6 (Ak false 1 H v5) λv7=>
 bG v3 true λw8=>
 gO w8 (Aq .mul v7 (I 8)) λv9=>
 bG v3 true λw10=>
 gO w10 (some x9) λv11=>
 bG v3 true λw12=>
 gO w12 (Aq .add v9 v11) λv13=>
 bG v3 true λw14=>
 gO w14 (some x1) λv15=>
 bG v3 true λw16=>
 gO w16 (Aq .geq v13 v15) λv17=>
 bO (Aj v3 v17 (B false)) λv18=>
 bB v18 λt19=>bI t19 (
 K (B false) H)
 (bO (Aq .add x9 (I 1)) λv20=>
 R3 [x1,x2,x8,v20] H))
 (K (B true) H)
theorem F1 {K:KT}:OG (λR x1 x2 x8 x9 H=>Eh R x1 x2 x8 x9 H K) (λx1 x2 x8 x9 H=>Fe x1 x2 x8 x9 H K):=MB (Ag _ _) (λ_ _ _ _ _ _=>by kernel_rfl)
def GO (a0 a1:AV)(H:AH)(K:KT):Prop:=
 bH (AO H a0) λv0 H1=>
 bO (Aa 1 v0) λv2=>
 bO (Ak true 8 H1 v2) λv3=>
 Fe a1 v0 v3 (I 0) H1 K
theorem Il {a0 a1:AV}{H:AH}{K:KT}(h:GO a0 a1 H K):EN 43 [a0,a1] H K:=
 fok AJ Lj Ff func43 h
def Fr:BO:=Pi [(1,[(1,some 4)])]
def DT (a0:AV)(H:AH)(K:KT):Prop:=
 bH (AO H a0) λv0 H1=>
 bH (AO H1 (.agg [(I 0),AI])) λv2 H3=>
 bO (Aa 0 v0) λv4=>
 bO (Ak false 1 H3 v4) λv5=>
 bO (Aa 1 v0) λv6=>
 bO (Ak false 1 H3 v6) λv7=>
 bH (OJ 9 16 H3 AI v7) λv8 H9=>
 bO (O1 [(I 0),AI] [(0,1,v5),(1,1,v8)]) λv10=>
 bS (Ex 2 H9 v2 v10) λH11=>
(Ak false 1 H9 v4=some v5)∧
 bO (Ak true 2 H11 v2) λv12=>
 K v12 H11
theorem Fs {a0:AV}{H:AH}{K:KT}(h:DT a0 H K):EN 25 [a0] H K:=
 fok Fr Lj Fq func25 h
def B3:Nat→Option (List Bool):=DL [(6,mk 26 0 [0,1,12,13])]
def B6 (p:List Bool)(n:Nat):List AV→AH→Kf→Prop:=Ax prog AJ Lj Ai Ai B3 (sub p (AY f44)) n
def B2 (x0 x1 x12 x13:AV)(H:AH)(K:KT):Prop:=lp (mk 26 0 [0,1,12,13]) (B6 [tT,tT,fF,tT,fF,fF] 7) [x0,x1,x12,x13] H (Cp 0 (Cw (B6 [tT,tT,tT] 13) (C7 prog f44.results.toList K)))
def Bu (R6:RT)(x0 x1 x12 x13:AV)(H:AH)(K:KT):Prop:=
 bO (Aq .lss x13 x12) λv0=>
 bB v0 λt1=>bI t1 (
 bO (Bz 9 x0 x13) λv2=>
 bO (Ak true 9 H v2) λv3=>
 bO (Bz 9 x1 x13) λv4=>
 bO (Ak true 9 H v4) λv5=>
 bO (Ey prog .neq 59 v3 v5) λv6=>
 bB v6 λt7=>bI t7 (
 K (B false) H)
 (bO (Aq .add x13 (I 1)) λv8=>
 R6 [x0,x1,x12,v8] H))
 (K (B true) H)
theorem Cf {K:KT}:OG (λR x0 x1 x12 x13 H=>Bu R x0 x1 x12 x13 H K) (λx0 x1 x12 x13 H=>B2 x0 x1 x12 x13 H K):=MB (Ag _ _) (λ_ _ _ _ _ _=>by kernel_rfl)
def BG (a0 a1:AV)(H:AH)(K:KT):Prop:=
 bO (Bm a0) λv0=>
 bO (Bm a1) λv1=>
 bO (Aq .neq v0 v1) λv2=>
 bB v2 λt3=>bI t3 (
 K (B false) H)
 (bO (Bm a0) λv4=>
 B2 a0 a1 v4 (I 0) H K)
theorem CF {a0 a1:AV}{H:AH}{K:KT}(h:BG a0 a1 H K):EN 44 [a0,a1] H K:=
 fok AJ Lj B3 func44 h
def BF (a0:AV)(H:AH)(K:KT):Prop:=
 bO (NP .eql Jt a0 AI) λv0=>
 bB v0 λt1=>bI t1 (
 K AI H)
 (bH (MU H 9 0 (Ee [(I 0),u0Z,u0Z,u0Z,u0Z,u0Z,u0Z,u0Z,u0Z] 0) []) λv2 H3=>
 bH (OJ 9 16 H3 v2 a0) λv4 H5=>
 K v4 H5)
theorem CE {a0:AV}{H:AH}{K:KT}(h:BF a0 H K):EN 42 [a0] H K:=
 fok AJ Lj Fq func42 h
def Fc (a0 a1:AV)(H:AH)(K:KT):Prop:=
 bP (PCall prog 52 [a0] H) λv0=>
 bP (PCall prog 52 [a1] H) λv1=>
 bB v0 λt2=>bI t2 (
 bB v1 λt3=>bI t3 (
 K (I 0) H)
 (K (I (-1)) H))
 (bB v1 λt4=>bI t4 (
 K (I 1) H)
 (bO (Aq .lss a0 a1) λv5=>
 bB v5 λt6=>bI t6 (
 K (I (-1)) H)
 (bO (Aq .gtr a0 a1) λv7=>
 bB v7 λt8=>bI t8 (
 K (I 1) H)
 (K (I 0) H))))
theorem G3 {a0 a1:AV}{H:AH}{K:KT}(h:Fc a0 a1 H K):EN 41 [a0,a1] H K:=
 fok AJ Lj Fq func41 h
def Gj (a0:AV)(H:AH)(K:KT):Prop:=
 bO (Aq .neq a0 a0) λv0=>
 K v0 H
theorem Hy {a0:AV}{H:AH}{K:KT}(h:Gj a0 H K):EN 52 [a0] H K:=
 fok AJ Lj Fq func52 h
end Go.Proofs.Ytijoffokpjbnjaa.Av
end
namespace Go.Proofs.Ytijoffokpjbnjaa.Av
open Go Go.RowKit Go.Proofs.Try
section
def May (n:Int):Prop:=0≤n∧n≤4611686018427387904
instance (n:Int):Decidable (May n):=by unfold May;infer_instance
structure Sp where
 pos:Int
 len:Int
 deriving DecidableEq,Inhabited
def MaySpan (s:Sp):Prop:=May s.pos∧May s.len∧s.len≤4611686018427387904 - s.pos
instance (s:Sp):Decidable (MaySpan s):=by unfold MaySpan;infer_instance
def Rc (a b:Sp):Sp:=
 if MaySpan a∧MaySpan b∧max a.pos b.pos<min (a.pos+a.len) (b.pos+b.len)then⟨max a.pos b.pos,min (a.pos+a.len) (b.pos+b.len) - max a.pos b.pos⟩else⟨0,0⟩
def Within (a b:Sp):Prop:=MaySpan a∧MaySpan b∧(a.len=0∨Rc a b=a)
instance (a b:Sp):Decidable (Within a b):=by unfold Within;infer_instance
def down (n unit:Int):Int:=if May n∧1≤unit then n - n % unit else 0
def LL (a b:Sp):Prop:=MaySpan a∧MaySpan b∧(a.len=0∨(b.pos≤a.pos∧a.pos+a.len≤b.pos+b.len))
instance (a b:Sp):Decidable (LL a b):=by unfold LL;infer_instance
def Es (l:List UInt8):List AV:=l.map λb=>.lit (.int .u8 b.toNat)
theorem GJ (a:List UInt8):(Es a).length=a.length:=by simp[Es]
theorem K9 (a:List UInt8)(n:Nat):(Es a)[n]?=(a[n]?).map λb=>.lit (.int .u8 b.toNat):=by simp[Es]
theorem KP (l:List UInt8):Ac (Es l)=true:=by
 induction l with
 | nil=>rfl
 | cons a l ih=>simpa[Es,Ac,noIds]using ih
def Bh (l:List UInt8):ByteArray:=⟨l.toArray⟩
theorem CR (l:List UInt8):(Bh l).size=l.length:=rfl
theorem Le (s:ByteArray):∀(n i:Nat) (r:List UInt8),s.size - i=n→ByteArray.toList.loop s i r=r.reverse++s.data.toList.drop i:=by
  intro n
  induction n with
  | zero=>
    intro i r h;unfold ByteArray.toList.loop
    rw [if_neg (by omega), List.drop_of_length_le (by have : s.data.toList.length = s.size := by rw [Array.length_toList]; rfl
                                                      omega)]
    simp
  | succ n ih=>
    intro i r h;unfold ByteArray.toList.loop;have hi:i<s.size:=by omega
    rw[if_pos hi,ih (i+1) _ (by omega)];have hl:i<s.data.toList.length:=by rw[RG];exact hi
    rw[List.drop_eq_getElem_cons hl];simp[ByteArray.get!,getElem!_def];have:s.data[i]?=some s.data[i]:=RX hi;simp[this]
theorem Ld (s:ByteArray):s.toList=s.data.toList:=by
 unfold ByteArray.toList;rw[Le s s.size 0 [] (by simp)];simp
theorem Eg (l:List UInt8):(Bh l).toList=l:=by rw[Ld];simp[Bh]
theorem LN {a b:List UInt8}:MT .eql (S (Bh a)) (S (Bh b))=some (B (decide (a=b))):=by
 simp only[MT,J0,Eg,Sv]
 by_cases h:a=b<;>simp[h]
theorem IA:(⟨#[]⟩:ByteArray)=Bh []:=rfl
structure Ext where
 no:Int
 b:List UInt8
 hb:b.length=8
 deriving DecidableEq
def Bi (x:Ext):List AV:=I x.no::Es x.b
theorem BK (x:Ext):(Bi x).length=9:=by simp[Bi,GJ,x.hb]
theorem Nq (l:List UInt8):(Es l).all oneA=true:=by simp[Es]
@[simp] theorem Qa (x:Ext):(Bi x).all oneA=true:=by
 show(oneA (I x.no)&&(Es x.b).all oneA)=true
 rw[Nq];rfl
theorem Ej (x:Ext):Ac (Bi x)=true:=by
 show Ac (I x.no::Es x.b)=true
 simp[Ac,noIds,KP]
@[simp] theorem QC (x:Ext) (t:List AV):(Bi x++t)[0]?=some (I x.no):=rfl
@[simp] theorem Qb (x:Ext):(Bi x)[0]?=some (I x.no):=rfl
@[simp] theorem rd_b (x:Ext):Ae true 8 (Bi x) 1=some (.agg (Es x.b)):=by
 have:=x.hb
 simp[Ae,Bi,GJ,this,RH]
@[simp] theorem rd_e (x:Ext) (t:List AV):Ae true 9 (Bi x++t) 0=some (.agg (Bi x)):=by
 have:=BK x
 simp[Ae,this,List.take_append_of_le_length]
@[simp] theorem rd_e' (x:Ext):Ae true 9 (Bi x) 0=some (.agg (Bi x)):=by
 have:=BK x
 simp[Ae,this,RH]
theorem PH {b:List UInt8}{k:Nat}{y:UInt8}(h:b[k]?=some y)(hk:k<8):Nb false 1 8 1 (.agg (Es b)) (I k)=some (.lit (.int .u8 y.toNat)):=by
 have:(k:Int)<8:=by omega
 simp[Nb,Ho,this,K9,h]
theorem PN {H:AH}{z:List AV}{x:Ext}{o:Nat}(ho:o=H.length)(hz:z.length=9):Ex 9 (H++[some (.cells z)]) (.ptr o 0) (.agg (Bi x))=some (H++[some (.cells (Bi x))]):=by
 have:=BK x
 have e:AM z 0 (Bi x)=Bi x:=by
  have hb:(Es x.b).length=8:=by rw[GJ,x.hb]
  unfold Bi;cases hB:Es x.b with
  | nil=>rw[hB]at hb;simp at hb
  | cons a r=>rw[hB]at hb;simp at hb;simp[AM,hz,hb]
 simp[Ex,ho,this,hz,e,-AM]
theorem u8z {y:UInt8}:(y.toNat=0)=(y=0):=by
 refine propext ⟨λh=>?_,λh=>by rw[h];rfl⟩;apply UInt8.toNat_inj.1;rw[h];rfl
def cleanB (size:Int):Int→List UInt8→Prop
 | _,[]=>True
 | p,b::r=>(b≠0→p<size)∧cleanB size (p+1) r
instance cleanB.dec (size:Int):∀(p:Int) (l:List UInt8),Decidable (cleanB size p l)
 | _,[]=>Decidable.isTrue True.intro
 | p,b::r=>by
  have:=cleanB.dec size (p+1) r
  unfold cleanB;infer_instance
def DI (size:Int)(x:Ext):Prop:=cleanB size (x.no*8) x.b
instance (size:Int) (x:Ext):Decidable (DI size x):=by unfold DI;infer_instance
def okL (size:Int):Int→List Ext→Prop
 | _,[]=>True
 | p,x::r=>p<x.no∧x.no<137438953472∧DI size x∧okL size x.no r
instance okL.dec (size:Int):∀(p:Int) (l:List Ext),Decidable (okL size p l)
 | _,[]=>Decidable.isTrue True.intro
 | p,x::r=>by
  have:=okL.dec size x.no r
  unfold okL;infer_instance
theorem KR {size p:Int}{x:Ext}{r:List Ext}:okL size p (x::r)=(p<x.no∧x.no<137438953472∧DI size x∧okL size x.no r):=rfl
theorem Mg {size p:Int}:okL size p []=True:=rfl
def Dp (size:Int)(l:List Ext):Prop:=0≤size∧size≤1099511627776∧okL size (-1) l
instance (size:Int) (l:List Ext):Decidable (Dp size l):=by unfold Dp;infer_instance
theorem FH {α:Type}{l:List α}{k:Nat}{y:α}(h:l[k]?=some y):l.drop k=y::l.drop (k+1):=by
 obtain⟨hk,e⟩:=Et.1 h;rw[List.drop_eq_getElem_cons hk,e]
theorem IH (x:Ext)(size:Int)(h0: -1≤x.no)(h1:x.no<137438953472):BPure prog 43 [.agg (Bi x),I size] (B (decide (DI size x))):=BPure.val (by simp[Ac,noIds,Ej]) rfl (Il (by
 unfold GO;simp;refine F1 (λn x1 x2 x8 x9 H'=>∃k:Nat,k+n=8∧x1=I size∧x2=.ptr 0 0∧x8=.agg (Es x.b)∧x9=I k∧H'=[some (.cells (Bi x))]∧(DI size x↔cleanB size (x.no*8+k) (x.b.drop k))) ?_ 8 ⟨0,rfl,rfl,rfl,rfl,rfl,rfl,by simp[DI]⟩;rintro n x1 x2 x8 x9 H' R hR ⟨k,hk,rfl,rfl,rfl,rfl,rfl,hm⟩;unfold Eh;rcases Ry k 8 with hlt | hge
 ·have hlt':(k:Int)<8:=by omega
  have hx:=Cq (l:=x.b) (i:=k) (by rw [x.hb]; exact hlt);generalize x.b[k]'(by rw [x.hb]; exact hlt)=y at hx;rw [FH hx] at hm;unfold cleanB at hm;simp [hlt',PH hx hlt,u8z];have hkk : (k : Int) + 1=((k + 1 : Nat) : Int):=by omega
  by_cases hy:y=0
  ·simp[hy,Am (a:=k) (b:=1) (by omega) (by omega)]
   refine hR (n - 1) _ _ _ _ _ (by omega) ⟨k+1,by omega,rfl,rfl,rfl,rfl,rfl,?_⟩;rw[hm];simp[hy,Int.add_assoc]
  ·simp[hy,LM (a:=x.no) (b:=8) (by omega) (by omega),Am (a:=x.no*8) (b:=k) (by omega) (by omega)]
   by_cases hs:size≤x.no*8+k
   ·have:¬DI size x:=by rw[hm];intro h;have:=h.1 hy;omega
    simp[hs,this]
   ·simp[hs,Am (a:=k) (b:=1) (by omega) (by omega)]
    refine hR (n - 1) _ _ _ _ _ (by omega) ⟨k+1,by omega,rfl,rfl,rfl,rfl,rfl,?_⟩;rw[hm];simp[hy,Int.add_assoc];omega
 ·have:k=8:=by omega
  subst this;have e:x.b.drop 8=[]:=by rw[List.drop_eq_nil_iff,x.hb];omega
  rw[e]at hm;simp only[cleanB,iff_true]at hm;simp[hm]))
theorem FN {α:Type}{enc:α→List AV}{sz:Nat}{l:List α}{v:AV}(hv:SV enc sz l v):oneA v=true:=by
 have h1:=hv.1;have h2:=hv.2 [];cases v with
 | lit a=>cases a<;>first | rfl | (simp[Ab]at h2)
 | _=>first | rfl | (simp[Ab]at h2)
theorem JW {size:Int}{l:List Ext}{v:AV}(hv:SV Bi 9 l v)(hl:l.length≤281474976710656):BPure prog 28 [.agg [I size,v]] (B (decide (Dp size l))):=BPure.val (by simp[Ac,noIds,hv.1]) rfl (Jk (by
 unfold IF;simp[FN hv]
 by_cases h1:size<0
 ·have:¬Dp size l:=λh=>by have:=h.1;omega
  simp[h1,this]
 ·by_cases h2:1099511627776<size
  ·have:¬Dp size l:=λh=>by have:=h.2.1;omega
   simp[h1,h2,this]
  ·simp[h1,h2,hv.len]
   have hm:Dp size l↔okL size (-1) l:=by unfold Dp;constructor<;>intro h<;>simp_all<;>omega
   have e:decide (Dp size l)=decide (okL size (-1) l):=decide_eq_decide.2 hm;rw[e];refine G5 (λn x1 x3 x15 x16 x17 H'=>∃(k:Nat) (p:Int),k+n=l.length∧x1=.ptr 0 0∧x3=I p∧x15=v∧x16=I l.length∧x17=I k∧(∃X,H'=some (.cells [I size,v])::X)∧-1≤p∧(okL size (-1) l↔okL size p (l.drop k))) ?_ l.length ⟨0,-1,by simp,rfl,rfl,rfl,rfl,rfl,⟨[],rfl⟩,by omega,by simp⟩;rintro n x1 x3 x15 x16 x17 H' R hR ⟨k,p,hk,rfl,rfl,rfl,rfl,rfl,⟨X,rfl⟩,hp,hm⟩;unfold Fd;rcases Ry k l.length with hlt | hge
   ·have hx:=Cq hlt
    generalize l[k]=y at hx;rw[FH hx]at hm;rw[KR]at hm;simp[hlt,hv.idx BK hx rfl,-Nf];rw[← List.cons_append,PN (by simp) (by rfl)];simp
    by_cases c1:y.no≤p
    ·have:¬okL size (-1) l:=by rw[hm];intro h;omega
     simp[c1,this]
    ·by_cases c2:137438953472≤y.no
     ·have:¬okL size (-1) l:=by rw[hm];intro h;omega
      simp[c1,c2,this]
     ·simp[c1,c2]
      refine Al (IH y size (by omega) (by omega)) ?_
      by_cases c3:DI size y
      ·simp[c3,Am (a:=k) (b:=1) (by omega) (by omega)]
       refine hR (n - 1) _ _ _ _ _ _ (by omega) ⟨k+1,y.no,by omega,rfl,rfl,rfl,rfl,rfl,⟨X++[some (.cells (Bi y))],rfl⟩,by omega,?_⟩;rw[hm];exact⟨λh=>h.2.2.2,λh=>⟨by omega,by omega,c3,h⟩⟩
      ·have:¬okL size (-1) l:=by rw[hm];intro h;exact c3 h.2.2.1
       simp[c3,this]
   ·have:k=l.length:=by omega
    subst this;rw[List.drop_length]at hm;simp only[Mg,iff_true]at hm;simp[hm]))
theorem OT {b:List UInt8}{t:List AV}{k:Nat}{y:UInt8}{H:AH}(h:b[k]?=some y)(hk:k<8):∃q,Nc 8 1 (.ip (Es b++t)) (I k)=some q∧Ak false 1 H q=some (.lit (.int .u8 y.toNat)):=by
 have hk':(k:Int)<8:=by omega
 have hl:k<b.length:=(Et.1 h).1;refine⟨.ip ((Es b++t).drop k),by simp[Nc,Ho,hk'],?_⟩;have hl':k<(Es b).length:=by rw[GJ];exact hl
 simp[Rz hl',K9,h]
theorem EC {size:Int}{l:List Ext}{v:AV}(hv:SV Bi 9 l v)(hl:l.length≤281474976710656):BPure prog 29 [.agg [I size,v]] (B (decide (Dp size l))):=BPure.val (by simp[Ac,noIds,hv.1]) rfl (Ec (by
 unfold CA;simp[FN hv]
 by_cases h1:size<0
 ·have:¬Dp size l:=λh=>by have:=h.1;omega
  simp[h1,this]
 ·by_cases h2:1099511627776<size
  ·have:¬Dp size l:=λh=>by have:=h.2.1;omega
   simp[h1,h2,this]
  ·simp[h1,h2]
   have hm:Dp size l↔okL size (-1) l:=by unfold Dp;constructor<;>intro h<;>simp_all<;>omega
   have e:decide (Dp size l)=decide (okL size (-1) l):=decide_eq_decide.2 hm;rw[e];refine CW (λn x1 x3 H'=>∃(k:Nat) (p:Int),k+n=l.length∧x1=.ptr 0 0∧x3=I k∧H'=[some (.cells [I size,v])]∧-1≤p∧(k=0→p= -1)∧(∀z,0<k→l[k - 1]?=some z→p=z.no)∧(okL size (-1) l↔okL size p (l.drop k))) ?_ l.length ⟨0,-1,by simp,rfl,rfl,rfl,by omega,by simp,by simp,by simp⟩;rintro n x1 x3 H' R hR ⟨k,p,hk,rfl,rfl,rfl,hp,hp0,hp1,hm⟩;unfold BS;rcases Ry k l.length with hlt | hge
   ·have hx:=Cq hlt
    generalize l[k]=y at hx;rw[FH hx]at hm;rw[KR]at hm;simp[hlt,hv.len,hv.idx BK hx rfl]
    have fin:¬p<y.no∨¬y.no<137438953472→¬okL size (-1) l:=by
     rw[hm];intro h h';omega
    have go: -1≤y.no→y.no<137438953472→p<y.no→Bs R (.ptr 0 0) (I k) (I y.no) (I 0) [some (.cells [I size,v])] (λr H'=>r=B (decide (okL size (-1) l))):=by
     intro g1 g2 g3;refine CH R (λm x1 x3 x4 x5 H'=>∃(j:Nat),j+m=8∧x1=.ptr 0 0∧x3=I k∧x4=I y.no∧x5=I j∧H'=[some (.cells [I size,v])]∧(DI size y↔cleanB size (y.no*8+j) (y.b.drop j))) ?_ 8 ⟨0,rfl,rfl,rfl,rfl,rfl,rfl,by simp[DI]⟩;rintro m x1 x3 x4 x5 H' R2 hR2 ⟨j,hj,rfl,rfl,rfl,rfl,rfl,hc⟩;unfold BM;rcases Ry j 8 with hlj | hgj
     ·have hlj':(j:Int)<8:=by omega
      have hy:=Cq (l:=y.b) (i:=j) (by rw [y.hb]; exact hlj);generalize y.b[j]'(by rw [y.hb]; exact hlj)=u at hy;rw [FH hy] at hc;simp only [cleanB] at hc;simp [hlj',LM (a:=y.no) (b:=8) (by omega) (by omega),Am (a:=y.no * 8) (b:=j) (by omega) (by omega)]
      have nxt:(u≠0→y.no*8+j<size)→(bO (Aq .add (I j) (I 1)) λv20=>R2 [.ptr 0 0,I k,I y.no,v20] [some (.cells [I size,v])]):=by
       intro hu;simp[Am (a:=j) (b:=1) (by omega) (by omega)];refine hR2 (m - 1) _ _ _ _ _ (by omega) ⟨j+1,by omega,rfl,rfl,rfl,rfl,rfl,?_⟩;rw[hc];have:y.no*8+(j:Int)+1=y.no*8+((j+1:Nat):Int):=by omega
       rw[this];exact⟨λh=>h.2,λh=>⟨hu,h⟩⟩
      by_cases hs:size≤y.no*8+j
      ·obtain⟨q,e1,e2⟩:=OT (t:=(l.drop (k+1)).flatMap Bi) (H:=[some (.cells [I size,v])]) hy hlj
       have e0:(Bi y++(l.drop (k+1)).flatMap Bi).drop 1=Es y.b++(l.drop (k+1)).flatMap Bi:=rfl;simp[hs,hv.idx BK hx rfl,e0,e1,e2,u8z]
       by_cases hu:u=0
       ·simp[hu]
        exact nxt (λh=>absurd hu h)
       ·have:¬okL size (-1) l:=by rw[hm];intro h;have:=(hc.1 h.2.2.1).1 hu;omega
        simp[hu,this]
      ·simp[hs]
       exact nxt (λh=>by omega)
     ·have:j=8:=by omega
      subst this;have e:y.b.drop 8=[]:=by rw[List.drop_eq_nil_iff,y.hb];omega
      rw[e]at hc;simp only[cleanB,iff_true]at hc;simp[Am (a:=k) (b:=1) (by omega) (by omega)];refine hR (n - 1) _ _ _ (by omega) ⟨k+1,y.no,by omega,rfl,rfl,rfl,by omega,by omega,?_,?_⟩
      ·intro z _ hz;simp[hx]at hz;rw[hz]
      ·rw[hm]
       exact⟨λh=>h.2.2.2,λh=>⟨by omega,by omega,hc,h⟩⟩
    by_cases c1:y.no<0
    ·simp[c1,fin (.inl (by omega))]
    ·by_cases c2:137438953472≤y.no
     ·simp[c1,c2,fin (.inr (by omega))]
     ·simp[c1,c2]
      rcases RP k with k0 | k0
      ·subst k0
       simp
       have:=hp0 rfl
       exact go (by omega) (by omega) (by omega)
      ·have hxp:=Cq (l:=l) (i:=k - 1) (by omega)
       generalize l[k - 1]'(by omega)=z at hxp;have hpz:=hp1 z k0 hxp;simp [k0,It (a:=k) (b:=1) (by omega) (by omega),hv.idx BK hxp (i:=(k : Int) - 1) (by omega)]
       by_cases c3:y.no≤z.no
       ·simp[c3,fin (.inl (by omega))]
       ·simp[c3]
        exact go (by omega) (by omega) (by omega)
   ·have:k=l.length:=by omega
    subst this;rw[List.drop_length]at hm;simp only[Mg,iff_true]at hm;simp[hm,hv.len]))
def Ql (l:List Ext)(no:Int):Prop:=∃x∈l,x.no=no
instance (l:List Ext) (no:Int):Decidable (Ql l no):=by unfold Ql;infer_instance
def Dg (a b:Int):Int:=if a<b then -1 else if b<a then 1 else 0
theorem HX (a:Int):BPure prog 52 [I a] (B false):=BPure.flat λH=>Hy (by
 unfold Gj
 simp)
theorem Jj (a b:Int):BPure prog 41 [I a,I b] (I (Dg a b)):=BPure.flat λH=>G3 (by
 unfold Fc;refine Al (HX a) ?_;refine Al (HX b) ?_;unfold Dg
 by_cases h1:a<b
 ·simp[h1]
 ·by_cases h2:b<a
  ·simp[h1,h2]
  ·simp[h1,h2])
theorem LP {n:Int}{k:IntKind}(h1:0≤n)(h2:n≤9223372036854775807):NF .u64 (.lit (.int k n))=some (.lit (.int .u64 n)):=by
 have e1:IntKind.u64.wrap n=n:=by
  simp[IntKind.wrap,IntKind.bits,IntKind.signed];omega
 simp[NF,e1]
theorem Kt {n:Int}:Aq .shr (.lit (.int .u64 n)) (.lit (.int .u64 1))=some (.lit (.int .u64 (n/2))):=by
 have e2:n.fdiv 2=n/2:=Int.fdiv_eq_ediv_of_nonneg _ (by omega);simp[Aq,Fy,IntKind.bits,e2]
theorem Om (a c b0 b1 b2 b3 b4 b5 b6 b7 d0 d1 d2 d3 d4 d5 d6 d7:Int):Ey prog .neq 59 (.agg [I a,.lit (.int .u8 b0),.lit (.int .u8 b1),.lit (.int .u8 b2),.lit (.int .u8 b3),.lit (.int .u8 b4),.lit (.int .u8 b5),.lit (.int .u8 b6),.lit (.int .u8 b7)]) (.agg [I c,.lit (.int .u8 d0),.lit (.int .u8 d1),.lit (.int .u8 d2),.lit (.int .u8 d3),.lit (.int .u8 d4),.lit (.int .u8 d5),.lit (.int .u8 d6),.lit (.int .u8 d7)])=some (B !(a==c&&((b0==d0&&(b1==d1&&(b2==d2&&(b3==d3&&(b4==d4&&(b5==d5&&(b6==d6&&(b7==d7&&true))))))))&&true))):=by kernel_rfl
theorem u8i {a b:UInt8}:((a.toNat:Int)==(b.toNat:Int))=decide (a=b):=by
 by_cases h:a=b
 ·subst h;simp
 ·have:¬(a.toNat:Int)=b.toNat:=λe=>h (UInt8.toNat_inj.1 (by omega))
  simp[h,this]
theorem OA (x y:Ext):Ey prog .neq 59 (.agg (Bi x)) (.agg (Bi y))=some (B (decide (x≠y))):=by
 obtain⟨a,b,hb⟩:=x;obtain⟨c,d,hd⟩:=y
 match b,d,hb,hd with
 | [b0,b1,b2,b3,b4,b5,b6,b7],[d0,d1,d2,d3,d4,d5,d6,d7],hb,hd=>
  refine(Om a c b0.toNat b1.toNat b2.toNat b3.toNat b4.toNat b5.toNat b6.toNat b7.toNat d0.toNat d1.toNat d2.toNat d3.toNat d4.toNat d5.toNat d6.toNat d7.toNat).trans ?_;have e:(a==c)=decide (a=c):=by by_cases h:a=c<;>simp[h]
  simp only[u8i,e];simp
abbrev Se:=@List.take_add_one
abbrev RO:=@List.take_length
theorem IE {l m:List Ext}{v w:AV}(hv:SV Bi 9 l v)(hw:SV Bi 9 m w)(hl:l.length≤281474976710656):
  BPure prog 44 [v,w] (B (decide (l=m))):=BPure.val (by simp[Ac,noIds,hv.1,hw.1]) rfl (CF (by
 unfold BG;simp[hv.len,hw.len]
 by_cases h0:l.length=m.length
 ·simp[h0]
  refine Cf (λn x0 x1 x12 x13 H'=>∃k:Nat,k+n=l.length∧x0=v∧x1=w∧x12=I l.length∧x13=I k∧H'=[]∧l.take k=m.take k) ?_ l.length ⟨0,by simp,rfl,rfl,by rw[h0],rfl,rfl,rfl⟩;rintro n x0 x1 x12 x13 H' R hR ⟨k,hk,rfl,rfl,rfl,rfl,rfl,ht⟩;unfold Bu;rcases Ry k l.length with hlt | hge
  ·have hx:=Cq hlt
   have hy:=Cq (l:=m) (i:=k) (by omega);generalize l[k]=x at hx;generalize m[k]'(by omega)=y at hy;simp [hlt,hv.idx BK hx rfl,hw.idx BK hy rfl,OA]
   by_cases hxy:x=y
   ·simp[hxy,Am (a:=k) (b:=1) (by omega) (by omega)]
    refine hR (n - 1) _ _ _ _ _ (by omega) ⟨k+1,by omega,rfl,rfl,rfl,rfl,rfl,?_⟩;rw[Se,Se,hx,hy,ht,hxy]
   ·have:l≠m:=by
     rintro rfl;rw[hx]at hy;injection hy with hy;exact hxy hy
    simp[hxy,this]
  ·have:k=l.length:=by omega
   subst this
   have e:l=m:=by
    rw[RO,h0,RO]at ht;exact ht
   simp[e]
 ·have:l≠m:=λh=>h0 (by rw[h])
  have h0':¬(l.length:Int)=m.length:=by omega
  simp[h0,h0',this]))
def D4 (a:Int)(l:List Ext)(b:Int)(m:List Ext):Prop:=a=b∧l=m
instance (a:Int) (l:List Ext) (b:Int) (m:List Ext):Decidable (D4 a l b m):=by unfold D4;infer_instance
theorem Jl {a b:Int}{l m:List Ext}{v w:AV}(hv:SV Bi 9 l v)(hw:SV Bi 9 m w)(hl:l.length≤281474976710656):
  BPure prog 33 [.agg [I a,v],.agg [I b,w]] (B (decide (D4 a l b m))):=BPure.val (by simp[Ac,noIds,hv.1,hw.1]) rfl (IG (by
 unfold HZ;simp[FN hv,FN hw]
 by_cases h:a=b
 ·simp[h]
  refine Al (IE hv hw hl) ?_;simp[D4]
 ·simp[h,D4]))
theorem Ek {a b:Int}{l m:List Ext}{v w:AV}(hv:SV Bi 9 l v)(hw:SV Bi 9 m w)(hl:l.length≤281474976710656):
  BPure prog 14 [.agg [I a,v],.agg [I b,w]] (B (decide (D4 a l b m))):=BPure.val (by simp[Ac,noIds,hv.1,hw.1]) rfl (DR (by
 unfold C3;simp[FN hv,FN hw]
 by_cases h:a=b
 ·by_cases h0:l.length=m.length
  ·simp[h,hv.len,hw.len,h0]
   refine CI (λn x2 x3 x5 H'=>∃k:Nat,k+n=l.length∧x2=.ptr 0 0∧x3=.ptr 1 0∧x5=I k∧H'=[some (.cells [I b,v]),some (.cells [I b,w])]∧l.take k=m.take k) ?_ l.length ⟨0,by simp,rfl,rfl,rfl,rfl,rfl⟩;rintro n x2 x3 x5 H' R hR ⟨k,hk,rfl,rfl,rfl,rfl,ht⟩;unfold BN;rcases Ry k l.length with hlt | hge
   ·have hx:=Cq hlt
    have hy:=Cq (l:=m) (i:=k) (by omega);generalize l[k]=x at hx;generalize m[k]'(by omega)=y at hy;simp [hlt,hv.len,hv.idx BK hx rfl,hw.idx BK hy rfl,OA]
    by_cases hxy:x=y
    ·simp[hxy,Am (a:=k) (b:=1) (by omega) (by omega)]
     refine hR (n - 1) _ _ _ _ (by omega) ⟨k+1,by omega,rfl,rfl,rfl,rfl,?_⟩;rw[Se,Se,hx,hy,ht,hxy]
    ·have:l≠m:=by
      rintro rfl;rw[hx]at hy;injection hy with hy;exact hxy hy
     simp[hxy,this,D4]
   ·have:k=l.length:=by omega
    subst this
    have e:l=m:=by
     rw[RO,h0,RO]at ht;exact ht
    simp[hv.len,e,D4]
  ·have:l≠m:=λh=>h0 (by rw[h])
   have h0':¬(l.length:Int)=m.length:=by omega
   simp[h,hv.len,hw.len,h0,h0',this,D4]
 ·simp[h,D4]))
structure KO {κ:Type}(c:κ→κ→Int):Prop where
 eq:∀a b,c a b=0↔a=b
 anti:∀a b,c a b<0↔0<c b a
 trans:∀a b d,c a b<0→c b d<0→c a d<0
section
variable {κ α : Type} {c : κ→κ→Int} {key : α→κ}
theorem KO.irr (h:KO c)(a:κ):¬c a a<0:=by have:=(h.eq a a).2 rfl;omega
def Dw (c:κ→κ→Int)(key:α→κ)(l:List α):Prop:=l.Pairwise λa b=>c (key a) (key b)<0
def E9 (c:κ→κ→Int)(key:α→κ)(l:List α)(k:κ):Nat:=(l.takeWhile λx=>decide (c (key x) k<0)).length
def Ba (key:α→κ)(l:List α)(k:κ):Prop:=∃x∈l,key x=k
instance [DecidableEq κ] (key:α→κ) (l:List α) (k:κ):Decidable (Ba key l k):=by unfold Ba;infer_instance
instance (c:κ→κ→Int) (key:α→κ) (l:List α):Decidable (Dw c key l):=by unfold Dw;infer_instance
theorem DX {l:List α}(h:Dw c key l){i j:Nat}{x y:α}(hi:l[i]?=some x)(hj:l[j]?=some y)(hij:i<j):c (key x) (key y)<0:=by
 obtain⟨h1,e1⟩:=Et.1 hi;obtain⟨h2,e2⟩:=Et.1 hj
 have:=List.pairwise_iff_getElem.1 h i j h1 h2 hij
 rw[e1,e2]at this;exact this
theorem Iz {k:κ}:∀{l:List α} {i:Nat},i≤l.length→(∀m x,m<i→l[m]?=some x→c (key x) k<0)→(∀x,l[i]?=some x→¬c (key x) k<0)→E9 c key l k=i
 | [],i,hi,_,_=>by simp at hi;simp[E9,hi]
 | a::r,0,_,_,h=>by
  have:=h a (by simp)
  simp[E9,this]
 | a::r,i+1,hi,h1,h2=>by
  have:=h1 0 a (by omega) (by simp)
  have ih:=Iz (l:=r) (i:=i) (k:=k) (by simpa using hi) (λm x hm hx=>h1 (m+1) x (by omega) (by simpa using hx)) (λx hx=>h2 x (by simpa using hx));unfold E9 at ih⊢;simp[this,ih]
theorem Iy (hc:KO c){l:List α}(h:Dw c key l){m:Nat}{x:α}(hm:l[m]?=some x):E9 c key l (key x)=m:=
 Iz (Nat.le_of_lt (Et.1 hm).1) (λk y hk hy=>DX h hy hm hk) (λy hy=>by rw[hm]at hy;injection hy with hy;rw[hy];exact hc.irr _)
theorem F3 (hc:KO c){l:List α}(h:Dw c key l){k:κ}:Ba key l k↔∃x,l[E9 c key l k]?=some x∧key x=k:=by
 constructor
 ·rintro⟨x,hx,rfl⟩
  obtain⟨m,hm⟩:=RE.1 hx;exact⟨x,by rw[Iy hc h hm];exact hm,rfl⟩
 ·rintro⟨x,hx,e⟩
  exact⟨x,Rw hx,e⟩
theorem MN (hc:KO c){l:List α}(h:Dw c key l){x y:α}(hx:x∈l)(hy:y∈l)(e:key x=key y):x=y:=by
 obtain⟨m,hm⟩:=RE.1 hx;obtain⟨m',hm'⟩:=RE.1 hy;have h1:=Iy hc h hm;have h2:=Iy hc h hm';rw[e,h2]at h1;subst h1;rw[hm]at hm';injection hm'
end
abbrev Bq:List UInt8→List UInt8→Int:=Lib.compareBytes
abbrev S4:=@UInt8.lt_irrefl
abbrev S7:=@UInt8.le_antisymm
theorem LZ:∀a b:List UInt8,Bq a b=0↔a=b
 | [],[]=>by simp[Bq,Lib.compareBytes]
 | [],_::_=>by simp[Bq,Lib.compareBytes]
 | _::_,[]=>by simp[Bq,Lib.compareBytes]
 | x::a,y::b=>by
  have ih:=LZ a b;simp only[Bq]at ih⊢;unfold Lib.compareBytes
  by_cases h1:x<y
  ·have:x≠y:=λe=>by subst e;exact S4 _ h1
   simp[h1,this]
  ·by_cases h2:y<x
   ·have:x≠y:=λe=>by subst e;exact S4 _ h2
    simp[h1,h2,this]
   ·have:x=y:=S7 (UInt8.not_lt.1 h2) (UInt8.not_lt.1 h1)
    simp[h1,h2,this,ih]
theorem JS:∀a b:List UInt8,Bq a b<0↔a<b
 | [],[]=>by simp[Bq,Lib.compareBytes]
 | [],_::_=>by simp[Bq,Lib.compareBytes]
 | _::_,[]=>by simp[Bq,Lib.compareBytes]
 | x::a,y::b=>by
  have ih:=JS a b;simp only[Bq]at ih⊢;unfold Lib.compareBytes;rw[List.cons_lt_cons_iff]
  by_cases h1:x<y
  ·simp[h1]
  ·by_cases h2:y<x
   ·have:x≠y:=λe=>by subst e;exact S4 _ h2
    simp[h1,h2,this]
   ·have:x=y:=S7 (UInt8.not_lt.1 h2) (UInt8.not_lt.1 h1)
    simp[h1,h2,this,ih]
theorem Ma:∀a b:List UInt8,0<Bq a b↔b<a
 | [],[]=>by simp[Bq,Lib.compareBytes]
 | [],_::_=>by simp[Bq,Lib.compareBytes]
 | _::_,[]=>by simp[Bq,Lib.compareBytes]
 | x::a,y::b=>by
  have ih:=Ma a b;simp only[Bq]at ih⊢;unfold Lib.compareBytes;rw[List.cons_lt_cons_iff]
  by_cases h1:x<y
  ·have:¬y<x:=λh=>UInt8.lt_asymm h1 h
   have h3:y≠x:=λe=>by subst e;exact S4 _ h1
   simp[h1,this,h3]
  ·by_cases h2:y<x
   ·simp[h1,h2]
   ·have:x=y:=S7 (UInt8.not_lt.1 h2) (UInt8.not_lt.1 h1)
    simp[h1,h2,this,ih]
theorem koN:KO Bq where
 eq:=LZ
 anti a b:=by rw[JS,Ma]
 trans a b d h1 h2:=by rw[JS]at*;exact List.lt_trans h1 h2
theorem Gi:∀a b:List UInt8,Op.bytesLess a b=decide (Bq a b<0)
 | [],[]=>by simp[Op.bytesLess,Bq,Lib.compareBytes]
 | _::_,[]=>by simp[Op.bytesLess,Bq,Lib.compareBytes]
 | [],_::_=>by simp[Op.bytesLess,Bq,Lib.compareBytes]
 | x::a,y::b=>by
  have ih:=Gi a b;simp only[Bq]at ih⊢;unfold Op.bytesLess Lib.compareBytes;rw[ih]
  by_cases h1:x<y
  ·simp[h1]
  ·by_cases h2:y<x
   ·have:x≠y:=λe=>by subst e;exact S4 _ h2
    simp[h1,h2,this]
   ·have:x=y:=S7 (UInt8.not_lt.1 h2) (UInt8.not_lt.1 h1)
    simp[h1,h2,this]
theorem FE {a b:List UInt8}:MT .geq (S (Bh a)) (S (Bh b))=some (B (decide (¬Bq a b<0))):=by
 simp only[MT,J0,Eg,Sv,Gi]
 by_cases h:Bq a b<0<;>simp[h]
theorem Hp {l:List UInt8}{k:Nat}{i:Int}{y:UInt8}(hi:i=k)(h:l[k]?=some y):Lo (S (Bh l)) (I i)=some (.lit (.int .u8 y.toNat)):=by
 subst hi
 have:(Bh l)[k]?=some y:=by
  obtain⟨h1,h2⟩:=Et.1 h;have hs:k<(Bh l).size:=by rw[CR];exact h1
  rw[getElem?_pos (Bh l) k hs]
  congr 1
 simp[Lo,Ho,this]
theorem Hs {l:List UInt8}(h:l.length≤9223372036854775807):Hr (S (Bh l))=some (I l.length):=by
 simp[Hr,CR]
end
section
structure Sl (α:Type) where
 l:List α
 nil:Bool
structure Rd (P:Program)(t:TypeId)(α:Type) where
 size:Nat
 enc:α→List AV
 ok:α→Prop
 cells:P.cellsOf t=size
 read:∀{H:Type} {e:TypeId×Value→H} {W:World} {fuel:Nat} {cs:List Value} {d:DataW H×List MemPlace},DataW.trod e P W 0 (λ_=>true) true fuel t cs=some d→
  ∃x,ok x∧cs.length=size∧VRs (Cfg.start W) (enc x) cs∧∀u∈cs,u.oneCell'=true
section
variable {P : Program}
def Rd.int {t:TypeId}(k:IntKind)(hu:P.underlying t=some (.int k))(hc:P.cellsOf t=1):Rd P t Int where
 size:=1
 enc n:=[.lit (.int k n)]
 ok n:=k.min≤n∧n≤k.max
 cells:=hc
 read {H e W fuel cs d} h:=by
  obtain⟨n,rfl,-,hw⟩:=DataW.trod_int hu h;refine⟨n,by simpa[Lit.wf]using hw,rfl,.cons (by simp only[VR]) .nil,by simp[Value.oneCell']⟩
def Rd.string {t:TypeId}(hu:P.underlying t=some .string)(hc:P.cellsOf t=1):Rd P t ByteArray where
 size:=1
 enc s:=[.lit (.string s)]
 ok s:=s.size≤maxLen
 cells:=hc
 read {H e W fuel cs d} h:=by
  obtain⟨s,rfl,-,hs⟩:=DataW.trod_string hu h;exact⟨s,hs,rfl,.cons (by simp only[VR]) .nil,by simp[Value.oneCell']⟩
abbrev Rn:=And.intro @List.mem_append.{0} @List.mem_singleton.{0}
theorem KX {t:TypeId}{α:Type}(E:Rd P t α){W:World}{a:Addr}{H:Type}{e:TypeId×Value→H}{fuel:Nat}:∀(n:Nat) (ds:List (DataW H×List MemPlace)),ds.length=n→
  (∀i,i<n→(W.cells? 0 (a.add (i*P.cellsOf t)) (P.cellsOf t)).bind (DataW.trod e P W 0 (λ_=>true) true fuel t)=ds[i]?)→
  ∃(xs:List α) (vs:List Value),xs.length=n∧(∀x∈xs,E.ok x)∧vs.length=n*E.size∧VRs (Cfg.start W) (xs.flatMap E.enc) vs∧∀(i:Nat) (v:Value),vs[i]?=some v→W.cell? (a.add i)=some v∧v.oneCell'=true
 | 0,ds,hl,h=>⟨[],[],rfl,by simp,by simp,.nil,by simp⟩
 | n+1,ds,hl,h=>by
  obtain⟨xs,vs,h1,h2,h3,h4,h5⟩:=KX E n (ds.take n) (by rw[RD];omega) (λi hi=>by
   rw[h i (by omega),RB,if_pos hi])
  have hn:=h n (by omega);rw[Cq (by omega)]at hn;obtain⟨cs,hcs,htr⟩:=Option.bind_eq_some_iff.1 hn;obtain⟨x,hx,hxl,hxv,hx1⟩:=E.read htr;obtain⟨-,hcl,hcell⟩:=World.cells?_some hcs;refine⟨xs++[x],vs++cs,by simp[h1],?_,?_,?_,?_⟩
  ·intro y hy
   simp only[Rn]at hy;rcases hy with hy | rfl
   ·exact h2 y hy
   ·exact hx
  ·rw[RV,h3,hxl,Su]
  ·rw[List.flatMap_append]
   simpa using h4.append hxv
  ·intro i v hv
   rcases Ry i vs.length with hlt | hge
   ·rw[Rz hlt]at hv
    exact h5 i v hv
   ·rw[RC hge,h3]at hv
    have hlt:=(Et.1 hv).1
    have:=hcell (i - n*E.size) (by rw[← hcl];exact hlt)
    rw[hv,E.cells,Addr.add_add]at this;rw[show n*E.size+(i - n*E.size)=i by omega]at this;exact⟨this,hx1 v (Rw hv)⟩
def Rd.slice {t e:TypeId}{α:Type}(E:Rd P e α)(hu:P.underlying t=some (.slice e))(hc:P.cellsOf t=1):Rd P t (Sl α) where
 size:=1
 enc s:=[if s.nil then .lit (.slice none 0 0)else .imm (s.l.flatMap E.enc) s.l.length E.size]
 ok s:=(s.nil=true→s.l=[])∧s.l.length≤maxLen∧∀x∈s.l,E.ok x
 cells:=hc
 read {H e' W fuel cs d} h:=by
  rcases DataW.trod_slice hu h with⟨rfl,-⟩ | ⟨a,len,cap,elems,rest,n,-,rfl,-,-,h1,h2,h3,h4,-,-⟩
  ·exact⟨⟨[],true⟩,⟨λ_=>rfl,by simp,by simp⟩,rfl,.cons (by simp only[if_true,VR]) .nil,by simp[Value.oneCell']⟩
  ·obtain⟨xs,vs,g1,g2,g3,g4,g5⟩:=KX E len elems h3 h4
   refine⟨⟨xs,false⟩,⟨by simp,by simp only;omega,g2⟩,rfl,.cons ?_ .nil,by simp[Value.oneCell']⟩;simp only[An,VR];refine⟨a,cap,vs,by rw[g1],by omega,.inr ⟨λhh=>hh.elim id id,g5⟩,g4⟩
structure Rds (P:Program)(fs:List Field)(off total:Nat)(α:Type) where
 enc:α→List AV
 ok:α→Prop
 le:off≤total
 read:∀{H:Type} {e:TypeId×Value→H} {W:World} {fuel:Nat} {cs:List Value} {ds:List (DataW H×List MemPlace)},cs.length=total→ds.length=fs.length→
  (∀(i:Nat) (f:Field),fs[i]?=some f→DataW.trod e P W 0 (λ_=>true) true fuel f.type ((cs.drop f.offset).take (P.cellsOf f.type))=ds[i]?)→
  ∃x,ok x∧VRs (Cfg.start W) (enc x) (cs.drop off)∧∀u∈cs.drop off,u.oneCell'=true
abbrev S9:=@List.drop_of_length_le
def Rds.nil (P:Program)(total:Nat):Rds P [] total total Unit where
 enc _:=[]
 ok _:=True
 le:=Rx _
 read {H e W fuel cs ds} hl _ _:=⟨(),trivial,by rw[S9 (by omega)];exact .nil,by rw[S9 (by omega)];simp⟩
abbrev Sh:=@List.take_append_drop
def Rds.cons {f:Field}{fs:List Field}{t:TypeId}{off total:Nat}{α β:Type}(E:Rd P t α)(R:Rds P fs (off+E.size) total β)(ht:f.type=t)(ho:f.offset=off):Rds P (f::fs) off total (α×β) where
 enc x:=E.enc x.1++R.enc x.2
 ok x:=E.ok x.1∧R.ok x.2
 le:=St (Nat.le_add_right _ _) R.le
 read {H e W fuel cs ds} hl hd h:=by
  subst ht;cases ds with
  | nil=>simp at hd
  | cons d ds=>
   have h0:=h 0 f rfl;simp only[Li]at h0;obtain⟨x,hx,hxl,hxv,hx1⟩:=E.read h0;obtain⟨y,hy,hyv,hy1⟩:=R.read hl (by simpa using hd) (λi g hg=>by simpa using h (i+1) g (by simpa using hg))
   have e1:cs.drop off=(cs.drop f.offset).take (P.cellsOf f.type)++cs.drop (off+E.size):=by
    rw[ho,E.cells];rw[← List.drop_drop,Sh]
   rw[e1];refine⟨(x,y),⟨hx,hy⟩,hxv.append hyv,?_⟩;intro u hu;rcases RN.1 hu with hu | hu
   ·exact hx1 u hu
   ·exact hy1 u hu
def Rd.struct {t:TypeId}{fs:Array Field}{total:Nat}{α:Type}(R:Rds P fs.toList 0 total α)(hu:P.underlying t=some (.struct fs))(hc:P.cellsOf t=total):Rd P t α where
 size:=total
 enc:=R.enc
 ok:=R.ok
 cells:=hc
 read {H e W fuel cs d} h:=by
  obtain⟨xs,n,-,-,hl,hxl,hx⟩:=DataW.trod_struct hu h;rw[hc]at hl;obtain⟨x,h1,h2,h3⟩:=R.read (ds:=xs) hl (by simpa using hxl) (λi f hf=>hx i f (by simpa using hf));exact⟨x,h1,hl,by simpa using h2,by simpa using h3⟩
theorem KW {t:TypeId}{α:Type}(E:Rd P t α){W:World}{H:Type}{e:TypeId×Value→H}{fuel:Nat}:∀(n:Nat) (cs:List Value) (ds:List (DataW H×List MemPlace)),ds.length=n→cs.length=n*E.size→
  (∀i,i<n→DataW.trod e P W 0 (λ_=>true) true fuel t ((cs.drop (i*P.cellsOf t)).take (P.cellsOf t))=ds[i]?)→
  ∃(xs:List α),xs.length=n∧(∀x∈xs,E.ok x)∧VRs (Cfg.start W) (xs.flatMap E.enc) cs∧∀u∈cs,u.oneCell'=true
 | 0,cs,ds,hl,hc,h=>by
  have:cs=[]:=RI (by simpa using hc);subst this;exact⟨[],rfl,by simp,.nil,by simp⟩
 | n+1,cs,d::ds,hl,hc,h=>by
  have h0:=h 0 (by omega);simp only[Nat.zero_mul,List.drop_zero,Li]at h0;obtain⟨x,hx,hxl,hxv,hx1⟩:=E.read h0
  obtain⟨xs,h1,h2,h3,h4⟩:=KW E n (cs.drop E.size) ds (by simpa using hl) (by rw[Sa,hc,Su];omega) (λi hi=>by
   have:=h (i+1) (by omega)
   rw[P3]at this;rw[← this,List.drop_drop,E.cells]
   congr 3
   rw[Su];omega)
  refine⟨x::xs,by simp[h1],?_,?_,?_⟩
  ·intro y hy
   rcases SM.1 hy with rfl | hy
   ·exact hx
   ·exact h2 y hy
  ·rw[RW,← Sh E.size cs]
   rw[E.cells]at hxv;exact hxv.append h3
  ·intro u hu
   rw[← Sh E.size cs]at hu;rcases RN.1 hu with hu | hu
   ·exact hx1 u (by rw[E.cells];exact hu)
   ·exact h4 u hu
def Rd.array {t e:TypeId}{α:Type}(n:Nat)(E:Rd P e α)(hu:P.underlying t=some (.array n e))(hc:P.cellsOf t=n*E.size):Rd P t (List α) where
 size:=n*E.size
 enc xs:=xs.flatMap E.enc
 ok xs:=xs.length=n∧∀x∈xs,E.ok x
 cells:=hc
 read {H e' W fuel cs d} h:=by
  obtain⟨xs,m,-,-,hl,hxl,hx⟩:=DataW.trod_array hu h;rw[hc]at hl;obtain⟨ys,h1,h2,h3,h4⟩:=KW E n cs xs hxl hl hx;exact⟨ys,⟨h1,h2⟩,hl,h3,h4⟩
theorem Rd.arg1 {t:TypeId}{α:Type}(E:Rd P t α){H:Type}{e:TypeId×Value→H}{W:World}{v:Value}{d:DataW H}{ps:List MemPlace}(hv:v.cells= #[v])
  (h:DataW.Trod e P W 0 (λ_=>true) true t v d ps):∃x,E.ok x∧VRs (Cfg.start W) (E.enc x) [v]:=by
 obtain⟨fuel,h⟩:=h;obtain⟨x,h1,-,h2,-⟩:=E.read h;rw[hv]at h2;exact⟨x,h1,h2⟩
theorem Rd.argN {t:TypeId}{α:Type}(E:Rd P t α){H:Type}{e:TypeId×Value→H}{W:World}{cs:Array Value}{d:DataW H}{ps:List MemPlace}
  (h:DataW.Trod e P W 0 (λ_=>true) true t (.agg cs) d ps):∃x,E.ok x∧VRs (Cfg.start W) [.agg (E.enc x)] [.agg cs]:=by
 obtain⟨fuel,h⟩:=h;obtain⟨x,h1,-,h2,-⟩:=E.read h;exact⟨x,h1,.cons (by simp only[VR];exact⟨cs,rfl,h2⟩) .nil⟩
end
end
section
def Rd.byte {P:Program}{t:TypeId}(hu:P.underlying t=some (.int .u8))(hc:P.cellsOf t=1):Rd P t UInt8 where
 size:=1
 enc b:=[.lit (.int .u8 b.toNat)]
 ok _:=True
 cells:=hc
 read {H e W fuel cs d} h:=by
  obtain⟨n,rfl,-,hw⟩:=DataW.trod_int hu h;have hb:0≤n∧n≤255:=by simpa[Lit.wf,IntKind.min,IntKind.max,IntKind.signed,IntKind.bits]using hw
  refine⟨UInt8.ofNat n.toNat,trivial,rfl,.cons ?_ .nil,by simp[Value.oneCell']⟩;simp only[VR]
  congr 1
  have:n.toNat<256:=by omega
  rw[UInt8.toNat_ofNat_of_lt' this];omega
section
variable {P : Program} {f : FuncId} {args : List AV}
theorem BPure.of_true (h:ACalls P f [] [] λr _=>r=B true):BPure P f [] (B true):=λH=>
 ACalls.pure (R':=λr=>r=B true) h (by simp only[GA]) (λr X hr=>⟨1,r,by rw[hr];rfl,hr⟩) H
end
end
section
def FZ (X:AH)(v R:AV):Prop:=∃n0,∀n,n0≤n→Fg X n v=some R
def FZs (X:AH)(vs Rs:List AV):Prop:=∃n0,∀n,n0≤n→EV (Fg X n) vs=some Rs
theorem FZs.nil {X:AH}:FZs X [] []:=⟨0,λ_ _=>rfl⟩
theorem FZs.cons {X:AH}{v R:AV}{vs Rs:List AV}(h:FZ X v R)(hs:FZs X vs Rs):FZs X (v::vs) (R::Rs):=by
 obtain⟨a,ha⟩:=h;obtain⟨b,hb⟩:=hs;exact⟨a+b,λn hn=>by simp only[EV,ha n (by omega),hb n (by omega)]⟩
theorem FZ.agg {X:AH}{vs Rs:List AV}(hs:FZs X vs Rs):FZ X (.agg vs) (.agg Rs):=by
 obtain⟨b,hb⟩:=hs;refine⟨b+1,λn hn=>?_⟩;cases n with
 | zero=>omega
 | succ n=>simp only[Fg,hb n (by omega)];rfl
theorem FZ.lit {X:AH}(v:Value):FZ X (.lit v) (.lit v):=⟨1,λn hn=>by cases n with
 | zero=>omega
 | succ n=>rfl⟩
theorem FZ.sv {α:Type}{enc:α→List AV}{X:AH}{sz:Nat}{l:List α}{v:AV}(h:Ab X sz v=some (l.flatMap enc,l.length))(hc:Ac (l.flatMap enc)=true):∃R,SV enc sz l R∧FZ X v R:=by
 obtain⟨R,n0,h1,h2,h3⟩:=J3 h hc;exact⟨R,⟨h1,h2⟩,n0,h3⟩
section
variable {P : Program} {f : FuncId} {args : List AV}
theorem BPure.FZ {Q:AV→Prop}(hb:Ac args=true)(h:∃r X,(∃R,Av.FZ X r R∧Q R)∧BJ P f args [] r X):∃R,Q R∧BPure P f args R:=by
 obtain⟨r,X,⟨R,⟨n,hn⟩,hq⟩,h⟩:=h;exact BPure.fz hb ⟨r,X,⟨n,R,hn n (Rx _),hq⟩,h⟩
end
theorem IX:∀{a b:List AV},Ac a=true→Ac b=true→Ac (a++b)=true
 | [],b,_,h=>h
 | x::a,b,h1,h2=>by
  simp only[Ac,R9,List.cons_append]at h1⊢;exact⟨h1.1,IX h1.2 h2⟩
theorem F9 {α:Type}{enc:α→List AV}:∀{l:List α},(∀x∈l,Ac (enc x)=true)→Ac (l.flatMap enc)=true
 | [],_=>rfl
 | a::l,h=>by
  rw[RW];exact IX (h a (by simp)) (F9 λx hx=>h x (by simp[hx]))
end
section
section
variable {P : Program}
end
end
end Go.Proofs.Ytijoffokpjbnjaa.Av
