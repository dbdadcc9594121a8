/- Texts of this proof, one behind the other, packed into one file by a program of this session. No condition. -/
import Derived.Test.YtbppnhenlboefaaGreatMpC
import Derived.KernelRfl
import Derived.OpenShut
import Derived.ProofKit
import Derived.SizedLaws
import Derived.Test.YtbppnhenlboefaaGreatRows
import Derived.WalkKit
set_option linter.unusedVariables false
set_option linter.unusedSimpArgs false
set_option maxRecDepth 100000
namespace Go.Proofs.YtbppnhenlboefaaGreat.Av
open Go Go.RowKit
section
def Bm:AV->Bool
 | .lit (.slice none _ _)=>true
 | .emp=>true
 | .sl _ _ _ _ _=>true
 | _=>false
def Ba:AV->List Nat
 | .sl o _ _ _ _=>[o]
 | _=>[]
theorem BW {H:AH}{sz:Nat}{v:AV}{cs:List AV}{n:Nat}(h:Ac H sz v=some (cs,n)):cs.length=n*sz:=by
 unfold Ac at h;split at h
 ·split at h
  ·rename_i c;injection h with h;injection h with a b;subst a;subst b;exact c.2
  ·cases h
 ·split at h
  ·split at h
   ·rename_i c;injection h with h;injection h with a b;subst a;subst b;rw[Aj4,Aj9];omega
   ·cases h
  ·cases h
 ·injection h with h;injection h with a b;subst a;subst b;simp
 ·injection h with h;injection h with a b;subst a;subst b;simp
 ·cases h
theorem vK {H:AH}{sz:Nat}{v:AV}{cs:List AV}{n:Nat}(h:B1 H sz v=some (cs,n)):cs.length=n*sz:=by
 unfold B1 at h;split at h
 ·split at h
  ·rename_i hs;injection h with h;injection h with a b;subst a;subst b;subst hs;simp
  ·cases h
 ·exact BW h
theorem AA {H:AH}{sz:Nat}{v:AV}{q:List AV×Nat}(h:Ac H sz v=some q):B1 H sz v=some q:=by
 unfold B1;split
 ·cases h
 ·exact h
abbrev Ar1:=@List.drop_take
abbrev Aj3:=@List.take_of_length_le
theorem uF (cs:List AV)(off l:Nat)(ds:List AV)(h:off+l<=cs.length):((Cq cs (off+l) ds).drop off).take (l+ds.length)=(cs.drop off).take l++ds/\off+(l+ds.length)<=(Cq cs (off+l) ds).length:=by
 unfold Cq;constructor
 ·rw[Ak7,List.drop_append_of_le_length (by rw[Aj4];omega),List.take_append];have a:((cs.take (off+l)).drop off)=(cs.drop off).take l:=by rw[Ar1];congr 1;omega
  rw[a];have b:((cs.drop off).take l).length=l:=by rw[Aj4,Aj9];omega
  rw[b,Aj3 (by omega)];congr 1;rw[show l+ds.length - l=ds.length by omega,List.take_left]
 ·simp only[Ab3];omega
theorem AS {H:AH}{sz o off n:Nat}{a:Room}{c:List AV}(d:H[o]?=some (some (.cells c)))(b:off+n*sz<=c.length):Ac H sz (.sl o off n sz a)=some ((c.drop off).take (n*sz),n):=by
 simp[Ac,d,b]
theorem Ai {H H':AH}{sz:Nat}{v:AV}{q:List AV×Nat}(h:Ac H sz v=some q)(a:∀i∈Ba v,H'[i]?=H[i]?):Ac H' sz v=some q:=by
 cases v with
 | sl o off len esz cap=>
  have:=a o (by simp[Ba]);simp only[Ac]at h|-;rw[this];exact h
 | lit u=>
  unfold Ac at h|-;split at h<;>simp_all
 | imm cs len esz=>simpa only[Ac]using h
 | emp=>simpa only[Ac]using h
 | _=>simp[Ac]at h
abbrev An1:=@List.mem_singleton
theorem A5 {H:AH}{sz:Nat}{v:AV}{q:List AV×Nat}(h:Ac H sz v=some q):∀i∈Ba v,i<H.length:=by
 intro i a;cases v with
 | sl o off len esz cap=>
  simp only[Ba,An1]at a;subst a;simp only[Ac]at h;split at h
  ·rename_i b;exact(BG.1 b).1
  ·cases h
 | _=>simp[Ba]at a
section
variable {P : Program}
abbrev Pr:=And.intro @ne_eq.{1} @not_true_eq_false
abbrev Ab8:=And.intro @Pr @if_false.{1}
abbrev Al8:=@List.drop_zero
theorem Ann {sz bytes:Nat}{H:AH}{s:AV}{cs ds:List AV}{n m:Nat}(b:Ac H sz s=some (cs,n))(J:Bm s=true)(g:ds.length=m*sz)(u:(n+m)*bytes<=140737488355328):
  ∃r H',Sy H sz bytes s ds m=some (r,H')/\Bm r=true/\Ac H' sz r=some (cs++ds,n+m)/\H.length<=H'.length/\(∀i,i<H.length->i∉Ba s->H'[i]?=H[i]?)/\∀i∈Ba r,i∈Ba s\/H.length<=i:=by
 have w:=BW b;have E:Ac (H++[some (.cells ds)]) sz (.sl H.length 0 m sz (.ge m))=some (ds,m):=by rw[AS (c:=ds) (by simp) (by omega)];simp only[Al8];rw[Aj3 (by omega)]
 have keep:∀(X:AH) (i:Nat),i<H.length->(H++X)[i]?=H[i]?:=λX i a=>Aj6 a;have N:n=0->cs=[]:=λF=>An7 (by rw[w,F];simp);unfold Ac at b;split at b
 ·simp[Bm]at J
 ·
  rename_i o e len d B;split at b
  ·rename_i c A;split at b
   ·rename_i G;obtain⟨rfl,x⟩:=G;injection b with b;injection b with l p;subst l;subst p;have K:=(BG.1 A).1;have C:(len+m)*d=len*d+m*d:=Ap2 _ _ _;obtain⟨L,M⟩:=uF c e (len*d) ds x;have D:∀j,Ac (H.set o (some (.cells (Cq c (e+len*d) ds)))) d (.sl o e (len+m) d j)=some ((c.drop e).take (len*d)++ds,len+m):=by intro j;rw[AS (c:=Cq c (e+len*d) ds) (by rw[HU K]) (by rw[C,<- g];exact M)];rw[C,<- g,L]
    have fresh:∀(v:AH) j,v.length=H.length->Ac (v++[some (.cells ((c.drop e).take (len*d)++ds))]) d (.sl H.length 0 (len+m) d j)=some ((c.drop e).take (len*d)++ds,len+m):=by intro v j I;rw[AS (c:=(c.drop e).take (len*d)++ds) (by rw[<- I];simp) (by rw[Ak1,w,g];omega)];simp only[Al8];rw[Aj3 (by rw[Ak1,w,g];omega)]
    have z:∀(y:Option AObj) (X:AH) (i:Nat),i<H.length->i∉Ba (.sl o e len d B)->(H.set o y++X)[i]?=H[i]?:=by intro y X i a h;rw[Aj6 (by simpa using a),Cc (by simp[Ba]at h;omega)]
    unfold Sy;simp only[A,Ab8,false_or,x];cases B with
    | ex k=>
     simp only;by_cases t:len+m<=k
     ·rw[if_pos t];exact⟨_,_,rfl,rfl,D _,by simp,λi a h=>by simpa using z _ [] i a h,λi a=>.inl (by simpa[Ba]using a)⟩
     ·rw[if_neg t,if_pos u];exact⟨_,_,rfl,rfl,fresh H _ rfl,by simp,λi a _=>keep _ i a,λi a=>.inr (by simp[Ba]at a;omega)⟩
    | ge k=>
     simp only;by_cases f:m=0
     ·subst f;have q:ds=[]:=An7 (by rw[g];simp);subst q;rw[if_pos rfl];exact⟨_,_,rfl,rfl,by rw[AS A x];simp,Aj7 _,λ_ _ _=>rfl,λi a=>.inl a⟩
     ·rw[if_neg f];by_cases t:len+m<=k
      ·rw[if_pos t];exact⟨_,_,rfl,rfl,D _,by simp,λi a h=>by simpa using z _ [] i a h,λi a=>.inl (by simpa[Ba]using a)⟩
      ·rw[if_neg t,if_pos u];exact⟨_,_,rfl,rfl,fresh (H.set o none) _ (by simp),by simp,λi a h=>z none _ i a h,λi a=>.inr (by simp[Ba]at a;omega)⟩
   ·cases b
  ·cases b
 ·
  injection b with b;injection b with l p;subst l;subst p;unfold Sy;simp only;by_cases f:m=0
  ·subst f;have q:ds=[]:=An7 (by rw[g];simp);subst q;rw[if_pos rfl];exact⟨_,_,rfl,rfl,rfl,Aj7 _,λ_ _ _=>rfl,λi a=>.inl a⟩
  ·rw[if_neg f,if_pos (by simpa using u)];exact⟨_,_,rfl,rfl,by simpa using E,by simp,λi a _=>keep _ i a,λi a=>.inr (by simp[Ba]at a;omega)⟩
 ·
  injection b with b;injection b with l p;subst l;subst p;unfold Sy;simp only;by_cases f:m=0
  ·subst f;have q:ds=[]:=An7 (by rw[g];simp);subst q;rw[if_pos rfl];exact⟨_,_,rfl,rfl,rfl,Aj7 _,λ_ _ _=>rfl,λi a=>.inl a⟩
  ·rw[if_neg f,if_pos (by simpa using u)];exact⟨_,_,rfl,rfl,by simpa using E,by simp,λi a _=>keep _ i a,λi a=>.inr (by simp[Ba]at a;omega)⟩
 ·cases b
end
end
section
abbrev I (n:Int):AV:=.lit (.int .i64 n)
abbrev B (b:Bool):AV:=.lit (.bool b)
abbrev S (s:ByteArray):AV:=.lit (.string s)
abbrev Ad:AV:=.lit (.slice none 0 0)
@[congr] theorem Ayl {x x':Option AV} {K:AV->Prop} (h:x=x'):bO x K=bO x' K:=by rw[h]
@[congr] theorem Aym {x x':Option (AV×AH)} {K:AV->AH->Prop} (h:x=x'):bH x K=bH x' K:=by rw[h]
@[congr] theorem Ayn {x x':Option AH} {K:AH->Prop} (h:x=x'):bS x K=bS x' K:=by rw[h]
@[congr] theorem Ayo {v v':AV} {K:Bool->Prop} (h:v=v'):bB v K=bB v' K:=by rw[h]
@[congr] theorem Ayp {b b':Bool} {A B:Prop} (h:b=b'):bI b A B=bI b' A B:=by rw[h]
@[congr] theorem Ayq {v v':AV} {w:Bool} {K:Bool->Prop} (h:v=v'):bG v w K=bG v' w K:=by rw[h]
@[congr] theorem Ayr {w w':Bool} {v v':AV} {K:FuncId->List AV->List AV->Prop} (hw:w=w') (h:v=v'):bF w v K=bF w' v' K:=by rw[hw,h]
@[congr] theorem Ays {b b':Bool} {A:Prop} (h:b=b'):bT b A=bT b' A:=by rw[h]
@[congr] theorem Ayt {R:AV->AH->Prop} {K:AV->AH->Prop}:bC R K=bC R K:=rfl
@[congr] theorem Ayu {R:AV->Prop} {K:AV->Prop}:bP R K=bP R K:=rfl
@[congr] theorem Ayv {w w':Bool} {x:Option AV} {K:AV->Prop} (h:w=w'):gO w x K=gO w' x K:=by rw[h]
@[congr] theorem Ayw {w w':Bool} {x:Option (AV×AH)} {H:AH} {K:AV->AH->Prop} (h:w=w'):gH w x H K=gH w' x H K:=by rw[h]
@[congr] theorem Ayx {w w':Bool} {x:Option AH} {H:AH} {K:AH->Prop} (h:w=w'):gS w x H K=gS w' x H K:=by rw[h]
@[congr] theorem Ayy {w w':Bool} {R:AV->AH->Prop} {H:AH} {K:AV->AH->Prop} (h:w=w'):gC w R H K=gC w' R H K:=by rw[h]
@[congr] theorem Ayz {w w':Bool} {R:AV->Prop} {K:AV->Prop} (h:w=w'):gP w R K=gP w' R K:=by rw[h]
@[simp] theorem Aa {v:AV} {K:AV->Prop}:bO (some v) K=K v:=by unfold bO;exact Eq.refl _
@[simp] theorem A6 {v:AV} {H:AH} {K:AV->AH->Prop}:bH (some (v,H)) K=K v H:=by unfold bH;exact Eq.refl _
@[simp] theorem A9 {H:AH} {K:AH->Prop}:bS (some H) K=K H:=by unfold bS;exact Eq.refl _
@[simp] theorem Af {b:Bool} {K:Bool->Prop}:bB (.lit (.bool b)) K=K b:=by unfold bB;exact Eq.refl _
@[simp] theorem Am {A B:Prop}:bI true A B=A:=by unfold bI;exact Eq.refl _
@[simp] theorem Ag {A B:Prop}:bI false A B=B:=by unfold bI;exact Eq.refl _
@[simp] theorem A7 {b w:Bool} {K:Bool->Prop}:bG (.lit (.bool b)) w K=K (b==w):=by unfold bG;exact Eq.refl _
@[simp] theorem Qb {w:Bool} {K:Bool->Prop}:bG Be w K=K false:=by unfold bG;exact Eq.refl _
@[simp] theorem YE {A:Prop}:bT true A=A:=by unfold bT;exact Eq.refl _
@[simp] theorem sX {w:Bool} {k:FuncId} {a b:List AV} {K:FuncId->List AV->List AV->Prop}:bF w (.fn (.func k) a b) K=K k a b:=by unfold bF;exact Eq.refl _
@[simp] theorem Az0 {K:FuncId->List AV->List AV->Prop}:bF false Be K=K 0 [] []:=by unfold bF Be;exact Eq.refl _
@[simp] theorem A4 {x:Option AV} {K:AV->Prop}:gO true x K=bO x K:=by unfold gO;exact Eq.refl _
@[simp] theorem AT {x:Option AV} {K:AV->Prop}:gO false x K=K Be:=by unfold gO;exact Eq.refl _
@[simp] theorem Cu {x:Option (AV×AH)} {H:AH} {K:AV->AH->Prop}:gH true x H K=bH x K:=by unfold gH;exact Eq.refl _
@[simp] theorem Az1 {x:Option (AV×AH)} {H:AH} {K:AV->AH->Prop}:gH false x H K=K Be H:=by unfold gH;exact Eq.refl _
@[simp] theorem C1 {x:Option AH} {H:AH} {K:AH->Prop}:gS true x H K=bS x K:=by unfold gS;exact Eq.refl _
@[simp] theorem Az2 {x:Option AH} {H:AH} {K:AH->Prop}:gS false x H K=K H:=by unfold gS;exact Eq.refl _
@[simp] theorem Hu {R:AV->AH->Prop} {H:AH} {K:AV->AH->Prop}:gC true R H K=bC R K:=by unfold gC;exact Eq.refl _
@[simp] theorem FN {R:AV->AH->Prop} {H:AH} {K:AV->AH->Prop}:gC false R H K=K Be H:=by unfold gC;exact Eq.refl _
@[simp] theorem V7 {R:AV->Prop} {K:AV->Prop}:gP true R K=bP R K:=by unfold gP;exact Eq.refl _
@[simp] theorem ND {R:AV->Prop} {K:AV->Prop}:gP false R K=K Be:=by unfold gP;exact Eq.refl _
theorem bP_of {R:AV->Prop}{K:AV->Prop}{r:AV}(h:R r)(a:K r):bP R K:=⟨r,h,a⟩
theorem Az {P:Program}{f:FuncId}{args:List AV}{H:AH}{K:AV->Prop}{r:AV}(h:BPure P f args r)(a:K r):bP (PCall P f args H) K:=⟨r,.inl h,a⟩
theorem Ano {P:Program}{f:FuncId}{args args':List AV}{H:AH}{K:AV->Prop}{r:AV}(n:Nat)(a:T8 (Se H n) args=some args')(hr:Qq r=true)(h:BPure P f args' r)(b:K r):bP (PCall P f args H) K:=⟨r,.inr ⟨n,args',a,hr,h⟩,b⟩
theorem bC_of {R:AV->AH->Prop}{K:AV->AH->Prop}{r:AV}{H:AH}(h:R r H)(a:K r H):bC R K:=⟨r,H,h,a⟩
theorem rB {x:Int}(a: -9223372036854775808<=x)(b:x<=9223372036854775807):IntKind.i64.wrap x=x:=by
 simp[IntKind.wrap,IntKind.bits,IntKind.signed];omega
section
variable {k : IntKind} {a b : Int}
theorem Au (c: -9223372036854775808<=a+b)(d:a+b<=9223372036854775807):Ar .add (I a) (I b)=some (I (a+b)):=by simp[Ar,Ls,rB c d]
theorem B4 (c: -9223372036854775808<=a - b)(d:a - b<=9223372036854775807):Ar .sub (I a) (I b)=some (I (a - b)):=by simp[Ar,Ls,rB c d]
theorem Dp (c: -9223372036854775808<=a*b)(d:a*b<=9223372036854775807):Ar .mul (I a) (I b)=some (I (a*b)):=by simp[Ar,Ls,rB c d]
theorem JQ (c:0<=a)(d:a<=9223372036854775807)(f:0<b):Ar .quo (I a) (I b)=some (I (a/b)):=by
 have e:a.tdiv b=a/b:=Int.tdiv_eq_ediv_of_nonneg c;have g:0<=a/b:=Int.ediv_nonneg c (by omega);have h:a/b<=a:=Int.ediv_le_self _ c;simp[Ar,Ls,e,rB (x:=a/b) (by omega) (by omega)];omega
abbrev At7:=@Int.tmod_eq_emod_of_nonneg
theorem YB (c:0<=a)(d:0<b):Ar .rem (.lit (.int k a)) (.lit (.int k b))=some (.lit (.int k (a % b))):=by
 have e:a.tmod b=a % b:=At7 c;simp[Ar,Ls,e];omega
@[simp] theorem Bu:Ar .eql (.lit (.int k a)) (.lit (.int k b))=some (B (decide (a=b))):=by simp[Ar,Ls];rfl
@[simp] theorem Bz:Ar .neq (.lit (.int k a)) (.lit (.int k b))=some (B (decide (a≠b))):=by
 simp[Ar,Ls];by_cases h:a=b<;>simp[h]
@[simp] theorem AM:Ar .lss (.lit (.int k a)) (.lit (.int k b))=some (B (decide (a<b))):=by simp[Ar,Ls]
@[simp] theorem Vx:Ar .leq (.lit (.int k a)) (.lit (.int k b))=some (B (decide (a<=b))):=by simp[Ar,Ls]
@[simp] theorem C8:Ar .gtr (.lit (.int k a)) (.lit (.int k b))=some (B (decide (b<a))):=by simp[Ar,Ls]
@[simp] theorem JP:Ar .geq (.lit (.int k a)) (.lit (.int k b))=some (B (decide (b<=a))):=by simp[Ar,Ls]
@[simp] theorem Anp {x y:Bool}:Abo .eql (.lit (.bool x)) (.lit (.bool y))=some (B (decide (x=y))):=by cases x<;>cases y<;>rfl
@[simp] theorem Az3 {x y:Bool}:Abo .neq (.lit (.bool x)) (.lit (.bool y))=some (B (decide (x≠y))):=by cases x<;>cases y<;>rfl
@[simp] theorem AJ {x:Bool}:D5 .not (.lit (.bool x))=some (B !x):=rfl
@[simp] theorem Ao {t:Bool} {x y:AV}:A0 (.lit (.bool t)) x y=some (if t then x else y):=rfl
@[simp] theorem pS:gZ a b=min b a:=by unfold gZ;omega
@[simp] theorem jG:jF a b=max b a:=by unfold jF;omega
@[simp] theorem JT {f:Int->Int->Int}:amm f [.lit (.int k a),.lit (.int k b)]=some (.lit (.int k (f a b))):=rfl
theorem vD {d:IntKind}(b: -9223372036854775808<=a)(c:a<=9223372036854775807):Aah .i64 (.lit (.int d a))=some (I a):=by simp[Aah,rB b c]
end
@[simp] theorem Ap {vs:List AV} {i:Nat}:Ak (.tup vs) i=vs[i]?:=rfl
@[simp] theorem A2 {o off:Nat}:Aj (.ptr o off)=some (.ptr o off):=rfl
@[simp] theorem Az4 {cs:List AV}:Aj (.ip cs)=some (.ip cs):=rfl
@[simp] theorem Al {k o off:Nat}:Ab k (.ptr o off)=some (.ptr o (off+k)):=rfl
@[simp] theorem Az5 {k:Nat} {cs:List AV}:Ab k (.ip cs)=some (.ip (cs.drop k)):=rfl
@[simp] theorem vH {g:Bool} {n:Nat} {H:AH} {cs:List AV}:Aq g n H (.ip cs)=A1 g n cs 0:=rfl
theorem Ah {g:Bool}{n o off:Nat}{H:AH}{cs:List AV}(h:H[o]?=some (some (.cells cs))):Aq g n H (.ptr o off)=A1 g n cs off:=by simp[Aq,h]
@[simp] theorem Ae {n:Nat} {cs:List AV} {off:Nat}:A1 false n cs off=cs[off]?:=by simp[A1]
theorem Kq {n:Nat}{cs:List AV}{off:Nat}(h:off+n<=cs.length):A1 true n cs off=some (.agg ((cs.drop off).take n)):=by simp[A1,h]
@[simp] theorem Az6 {g:Bool} {n off:Nat} {cs:List AV}:yJ g n off (.agg cs)=A1 g n cs off:=rfl
@[simp] theorem Uc {H:AH} {cs:List AV}:AE H (.agg cs)=if cs.all oneA then some (.ptr H.length 0,H++[some (.cells cs)])else none:=by
 unfold AE Cy;simp only;split<;>simp
theorem AG {n o off:Nat}{H:AH}{x:AV}{xs cs:List AV}(b:Cy x=some xs)(h:H[o]?=some (some (.cells cs)))(hl:xs.length=n)(a:off+n<=cs.length):AU n H (.ptr o off) x=some (H.set o (some (.cells (Bb cs off xs)))):=by
 simp[AU,b,h,hl,a]
@[simp] theorem Az7 {k:IntKind} {n:Int}:oneA (.lit (.int k n))=true:=rfl
@[simp] theorem Az8 {b:Bool}:oneA (.lit (.bool b))=true:=rfl
@[simp] theorem Az9 {s:ByteArray}:oneA (.lit (.string s))=true:=rfl
@[simp] theorem Aza {n c:Nat}:oneA (.lit (.slice none n c))=true:=rfl
@[simp] theorem Azb:oneA (.lit (.map none))=true:=rfl
@[simp] theorem Azc:oneA (.lit (.pointer none))=true:=rfl
@[simp] theorem Azd {o off len esz:Nat} {cap:Room}:oneA (.sl o off len esz cap)=true:=rfl
@[simp] theorem Aze {cs:List AV} {len esz:Nat}:oneA (.imm cs len esz)=true:=rfl
@[simp] theorem Azf {o off:Nat}:oneA (.ptr o off)=true:=rfl
@[simp] theorem Azg:oneA .emp=true:=rfl
@[simp] theorem Azh {o:Nat}:oneA (.mp o)=true:=rfl
@[simp] theorem Azi {k:IntKind} {n:Int}:Cy (.lit (.int k n))=some [.lit (.int k n)]:=rfl
@[simp] theorem Azj {b:Bool}:Cy (.lit (.bool b))=some [.lit (.bool b)]:=rfl
@[simp] theorem Azk {s:ByteArray}:Cy (.lit (.string s))=some [.lit (.string s)]:=rfl
@[simp] theorem Azl {n c:Nat}:Cy (.lit (.slice none n c))=some [.lit (.slice none n c)]:=rfl
@[simp] theorem Azm:Cy (.lit (.map none))=some [.lit (.map none)]:=rfl
@[simp] theorem Azn:Cy (.lit (.pointer none))=some [.lit (.pointer none)]:=rfl
@[simp] theorem Azo {o off len esz:Nat} {cap:Room}:Cy (.sl o off len esz cap)=some [.sl o off len esz cap]:=rfl
@[simp] theorem Azp {cs:List AV} {len esz:Nat}:Cy (.imm cs len esz)=some [.imm cs len esz]:=rfl
@[simp] theorem Azq {o off:Nat}:Cy (.ptr o off)=some [.ptr o off]:=rfl
@[simp] theorem Azr:Cy .emp=some [.emp]:=rfl
@[simp] theorem Azs {o:Nat}:Cy (.mp o)=some [.mp o]:=rfl
@[simp] theorem Qc {cs:List AV}:Cy (.agg cs)=if cs.all oneA then some cs else none:=rfl
theorem Bn {v:AV}(h:oneA v=true):Cy v=some [v]:=by
 cases v<;>first
  | rfl
  | (rename_i u;cases u<;>first | rfl | simp[oneA]at h)
  | simp[oneA]at h
@[simp] theorem Azt {cells:List AV}:ZP cells []=some cells:=rfl
@[simp] theorem Anq {cells:List AV} {off size:Nat} {v:AV} {r:List (Nat×Nat×AV)}:ZP cells ((off,size,v)::r)=match Cy v with
  | some xs=>if xs.length=size/\off+size<=cells.length then ZP (Bb cells off xs) r else none
  | none=>none:=rfl
attribute [simp] Dy Co W6 Bx Bb LI0 LI1 LI2 LI3 LI4 LI5 LI6 LI7 LI8 LI9 Ane Anf Ang Anh Ani Anj Ank Anl Anm
@[simp] theorem CY {g:Bool} {n o off:Nat} {H:AH}:Aq g n H (.ptr o off)=match H[o]? with
  | some (some (.cells cs))=>A1 g n cs off
  | _=>none:=rfl
@[simp] theorem Azu {cs:List AV} {len esz:Nat}:AW (.imm cs len esz)=some (I len):=rfl
@[simp] theorem Azv:AW (.lit (.slice none 0 0))=some (I 0):=rfl
@[simp] theorem Anr {o off len esz:Nat} {cap:Room}:AW (.sl o off len esz cap)=some (I len):=rfl
@[simp] theorem Azw {s:ByteArray}:Ev (.lit (.string s))=some (I s.size):=rfl
section
variable {P : Program} {f : FuncId} {args : List AV} {R : AV}
theorem BPure.flat (h:∀H,∃r H',(r=R/\H'=H)/\BCall P f args H r H'):BPure P f args R:=λH=>by
 obtain⟨r,H',⟨rfl,rfl⟩,h⟩:=h H;exact h
end
def SV {α:Type}(enc:α->List AV)(sz:Nat)(l:List α)(v:AV):Prop:=noIds v=true/\∀H,Ac H sz v=some (l.flatMap enc,l.length)
section
variable {α : Type} {enc : α->List AV} {sz : Nat} {l : List α} {v : AV}
theorem SV.nil:SV enc sz [] Ad:=⟨rfl,λ_=>rfl⟩
theorem SV.len (h:SV enc sz l v):AW v=some (I l.length):=by
 have a:=h.2 [];unfold Ac at a;split at a
 ·split at a
  ·injection a with a;injection a with c b;rw[<- b];rfl
  ·cases a
 ·simp at a
 ·injection a with a;injection a with c b;rw[<- b];rfl
 ·injection a with a;injection a with c b;rw[<- b];rfl
 ·cases a
abbrev Al5:=@List.flatMap_cons
abbrev At2:=@Nat.add_comm
abbrev Ap8:=@List.drop_drop
theorem DA (b:∀x,(enc x).length=sz):∀{l:List α} {k:Nat} {x:α},l[k]?=some x->(l.flatMap enc).drop (k*sz)=enc x++(l.drop (k+1)).flatMap enc
 | [],k,x,h=>by simp at h
 | a::l,0,x,h=>by simp at h;subst h;simp
 | a::l,k+1,x,h=>by have:=DA b (l:=l) (k:=k) (by simpa using h);rw[Al5,An4,At2,<- Ap8,List.drop_left' (b a)];simpa using this
theorem NC (b:∀x,(enc x).length=sz)(l:List α):(l.flatMap enc).length=l.length*sz:=by
 induction l with
 | nil=>simp
 | cons a l ih=>simp[Al5,b,ih,An4];omega
abbrev Ap4:=@List.cons_append
theorem SV.imm (g:∀x,(enc x).length=sz)(e:∀x∈l,AF (enc x)=true):SV enc sz l (.imm (l.flatMap enc) l.length sz):=by
 refine⟨?_,λH=>?_⟩
 ·simp only[noIds]
  induction l with
  | nil=>rfl
  | cons a l ih=>
   rw[Al5];have d:=e a (by simp);have f:=ih λx h=>e x (by simp[h]);generalize enc a=c at d
   induction c with
   | nil=>exact f
   | cons b c ihc=>simp only[AF,Am0,Ap4]at d|-;exact⟨d.1,ihc d.2⟩
 ·simp[Ac,NC g]
theorem SV.idx (h:SV enc sz l v)(g:∀x,(enc x).length=sz){k:Nat}{x:α}{i:Int}(d:l[k]?=some x)(hi:i=k):AY sz v (.lit (.int .i64 i))=some (.ip (enc x++(l.drop (k+1)).flatMap enc)):=by
 subst hi;have e:=(BG.1 d).1;have f:=h.1;have a:=h.2 [];unfold Ac at a;split at a
 ·rename_i cs len j;split at a
  ·injection a with a;injection a with c b;subst c;subst b;simp only[AY,OG];rw[if_pos ⟨by omega,by omega⟩];simp[DA g d]
  ·cases a
 ·simp[noIds]at f
 ·injection a with a;injection a with c b;rw[<- b]at e;omega
 ·injection a with a;injection a with c b;rw[<- b]at e;omega
 ·cases a
end
end
section
def MonoF (c:List AV->AH->Kf->Prop):Prop:=∀T H (a b:Kf),(∀e T H,a e T H->b e T H)->c T H a->c T H b
theorem Agh {keep:List Bool}{A B:List AV->AH->Prop}{K:Kf}(h:∀X H,A X H->B X H):∀e T H,M1 keep A K e T H->M1 keep B K e T H:=by
 intro e T H a;cases e with
 | normal=>
  obtain⟨c,b⟩:=CJ.1 a;exact CJ.2 ⟨c,h _ _ b⟩
 | _=>exact a
theorem Agi {keep:List Bool}{a:List AV->AH->Kf->Prop}{K:Kf}(b:MonoF a):∀(m:Nat) X H,Aad keep a K m X H->Aad keep a K (m+1) X H
 | 0,X,H,h=>h.elim
 | m+1,X,H,h=>b _ _ _ _ (Agh λX H=>Agi b m X H) h
theorem Ans {keep:List Bool}{a:List AV->AH->Kf->Prop}{K:Kf}(b:MonoF a){m n:Nat}(h:m<=n){X:List AV}{H:AH}(hr:Aad keep a K m X H):Aad keep a K n X H:=by
 induction h with
 | refl=>exact hr
 | step _ ih=>exact Agi b _ _ _ ih
theorem Agj {keep:List Bool}{a:List AV->AH->Kf->Prop}{K:Kf}(d:MonoF a)(J:Nat->List AV->AH->Prop)
  (g:∀n X H,J n X H->a (BC keep X) H (M1 keep (λb H'=>∃m,m<n/\J m b H') K)):∀(n:Nat) {X:List AV} {H:AH},J n X H->lp keep a X H K:=by
 have key:∀n X H,J n X H->Aad keep a K (n+1) X H:=by
  intro n
  induction n using Nat.strongRecOn with
  | _ n ih=>
   intro X H c;refine d _ _ _ _ (Agh ?_) (g n X H c);rintro b H' ⟨m,f,e⟩;exact Ans d (by omega) (ih m f b H' e)
 exact λn X H c=>⟨n+1,key n X H c⟩
section
variable {P : Program} {ql al : FuncId->Bool} {dr w : Bool} {ρ : Operand->AV} {H : AH}
theorem Agk {o:Oper}{g i:AV->AH->Prop}(h:WF P ql al dr ρ H o w g)(c:∀r H,g r H->i r H):WF P ql al dr ρ H o w i:=by
 cases d:C4 al o.op with
 | false=>
  rw[Adx d]at h|-;obtain⟨r,H',q,-,l⟩:=VG h;exact l _ (c _ _ q)
 | true=>
  obtain⟨u,op,A,z,s,v⟩:=o;simp only at d;unfold C4 at d;split at d
  ·rename_i k args j;have n:C4 al (.call {callee:=.value (.func k),args:=args,argTypes:=j})=true:=d;unfold WF bF at h|-;simp only[n]at h|-;generalize y:ρ (.func k)=x at h|-;split at h
   ·rename_i f a b;cases dr with
    | true=>exact h
    | false=>
     simp only at h|-;cases e:Ch P f with
     | true=>
      rw[e]at h;cases w with
      | true=>
       obtain⟨R,m,p⟩:=h;exact⟨R,m,λr H' hr=>c r H' (p r H' hr)⟩
      | false=>exact c _ _ h
     | false=>
      rw[e]at h;cases w with
      | true=>
       obtain⟨r,hr,h⟩:=h;exact⟨r,hr,c _ _ h⟩
      | false=>exact c _ _ h
   ·cases w with
    | true=>exact h.elim
    | false=>
     cases dr with
     | true=>exact h.elim
     | false=>
      simp only at h|-;cases e:Ch P 0 with
      | true=>rw[e]at h;exact c _ _ h
      | false=>rw[e]at h;exact c _ _ h
  ·cases d
theorem jY {ops:Array Oper}:∀(l:List Oper) (T:List AV) (H:AH) {a b:List AV->AH->Prop},(∀T H,a T H->b T H)->VH P ql al dr ops l T H a->VH P ql al dr ops l T H b
 | [],T,H,a,b,hk,h=>hk _ _ h
 | o::l,T,H,a,b,hk,h=>by unfold VH at h|-;obtain⟨w,d,h,c⟩:=G6 h;refine c _ (Agk h λr H' hr=>?_);rw[Lw]at hr|-;exact jY l _ _ hk hr
theorem qN {ops:Array Oper}{d:AH}{fl:List (Nat×Option Nat)}:∀(l:List Oper) (T:List AV) (H:AH) (c:List (List AV×AH×AV)) {a b:List AV->AH->Prop},(∀T H,a T H->b T H)->Wt P ql al ops d fl l T H c a->Wt P ql al ops d fl l T H c b
 | [],T,H,c,a,b,hk,h=>by obtain⟨g,e⟩:=Adz h;exact Ae0 (K:=a T H) h (hk _ _ e)
 | o::l,T,H,c,a,b,hk,h=>by unfold Wt at h|-;obtain⟨w,i,h,f⟩:=G6 h;refine f _ (Agk h λr H' hr=>?_);rw[Lw]at hr|-;exact qN l _ _ _ hk hr
theorem MonoF.cut {keep:List Bool}{b:List AV->AH->Kf->Prop}(h:MonoF b):MonoF (De keep b):=by
 intro T H e f c a;obtain⟨d,a⟩:=CJ.1 a;exact CJ.2 ⟨d,⟨h _ _ _ _ c a.h⟩⟩
theorem MonoF.seq {a b:List AV->AH->Kf->Prop}(f:MonoF a)(g:MonoF b):MonoF λT H K=>a T H (AO b K):=by
 intro T H i j d h;refine f _ _ _ _ ?_ h;intro e k H' c;cases e with
 | normal=>exact g _ _ _ _ d c
 | _=>exact d _ _ _ c
theorem Agl {keep:List Bool}{a:List AV->AH->Kf->Prop}(f:MonoF a){b c:Kf}(g:∀e T H,b e T H->c e T H):∀(m:Nat) (X:List AV) (H:AH),Aad keep a b m X H->Aad keep a c m X H
 | 0,X,H,h=>h.elim
 | m+1,X,H,h=>by
  refine f _ _ _ _ ?_ h;intro e T H d;cases e with
  | normal=>
   obtain⟨j,i⟩:=CJ.1 d;exact CJ.2 ⟨j,Agl f g m _ _ i⟩
  | _=>exact g _ _ _ d
theorem EO {fl:Dd}{un:Nat->Bool}{kp:Nat->Option (List Bool)}:∀(c:Code) (n:Nat),MonoF (AR P fl ql al un kp c n)
 | .skip,n,T,H,K1,K2,hk,h=>hk _ _ _ h
 | .label _,n,T,H,K1,K2,hk,h=>hk _ _ _ h
 | .ret,n,T,H,K1,K2,hk,h=>hk _ _ _ h
 | .exit _,n,T,H,K1,K2,hk,h=>hk _ _ _ h
 | .region id ops dr,n,T,H,K1,K2,hk,h=>by
  unfold AR at h|-;cases dr with
  | false=>exact jY _ _ _ (hk .normal) h
  | true=>
   simp only at h|-;split at h
   ·split at h
    ·obtain⟨d,h⟩:=CJ.1 h;exact CJ.2 ⟨d,⟨h.h.mono hk⟩⟩
    ·exact h.elim
   ·split at h
    ·exact jY _ _ _ (hk .normal) h
    ·exact qN _ _ _ _ (hk .normal) h
 | .seq a b,n,T,H,K1,K2,hk,h=>by
  unfold AR at h|-;split at h
  ·exact MonoF.seq (EO a _) (EO b _) T H K1 K2 hk h
  ·exact MonoF.seq (EO a _) (EO b _).cut T H K1 K2 hk h
 | .cond c a b,n,T,H,K1,K2,hk,h=>by
  unfold AR bB at h|-;split at h
  ·rename_i t k;cases t with
   | true=>exact EO a _ T H K1 K2 hk h
   | false=>exact EO b _ T H K1 K2 hk h
  ·exact h.elim
 | .block id b,n,T,H,K1,K2,hk,h=>by
  unfold AR at h|-;refine EO b _ T H _ _ ?_ h;intro e i H' f;cases e with
  | exit j=>
   simp only[AP]at f|-;split at f<;>exact hk _ _ _ f
  | _=>exact hk _ _ _ f
 | .loop b,n,T,H,K1,K2,hk,h=>by
  unfold AR at h|-;split at h
  ·obtain⟨d,⟨m,h⟩⟩:=CJ.1 h;exact CJ.2 ⟨d,⟨m,Agl (EO b _) hk m _ _ h⟩⟩
  ·exact h.elim
 | .rangeFunc g ps a b,n,T,H,K1,K2,hk,h=>by
  unfold AR at h|-;split at h
  ·split at h
   ·obtain⟨d,h⟩:=CJ.1 h;exact CJ.2 ⟨d,⟨h.h.mono hk⟩⟩
   ·exact h.elim
  ·exact h.elim
 | .scope _,_,_,_,_,_,_,h=>h.elim
 | .goto _,_,_,_,_,_,_,h=>h.elim
 | .refuse _,_,_,_,_,_,_,h=>h.elim
end
end
section
section
variable {P : Program}
def xB (P:Program)(call:PT)(ops:Array Oper):List Oper->List AV->AH->Option (List AV×AH)
 | [],T,H=>some (T,H)
 | o::l,T,H=>match C0 ops T o with
  | none=>none
  | some false=>xB P call ops l (EL T o.dst Be) H
  | some true=>match Ea P (Cf T) H o with
   | some (r,H')=>xB P call ops l (EL T o.dst r) H'
   | none=>match Gv (Cf T) o with
    | some (f,args)=>if Ch P f then match call f args H with
      | some (r,H')=>xB P call ops l (EL T o.dst r) H'
      | none=>none
     else none
    | none=>none
def Aaz (P:Program)(d:FuncId->Bool)(pure:aG)(call:PT):Nat->Code->List AV->AH->Option (Exit×List AV×AH)
 | 0,_,_,_=>none
 | n+1,c,T,H=>match c with
  | .skip=>some (.normal,T,H)
  | .label _=>some (.normal,T,H)
  | .ret=>some (.ret,T,H)
  | .exit id=>some (.exit id,T,H)
  | .region _ ops false=>(xB P call ops ops.toList T H).map λp=>(.normal,p.1,p.2)
  | .region _ ops true=>(Amk P d pure call ops.toList T H).map λp=>(.normal,p.1,p.2)
  | .seq a b=>match Aaz P d pure call n a T H with
   | some (.normal,T',H')=>Aaz P d pure call n b T' H'
   | r=>r
  | .cond x a b=>match Cf T x with
   | .lit (.bool t)=>Aaz P d pure call n (if t then a else b) T H
   | _=>none
  | .block id b=>match Aaz P d pure call n b T H with
   | some (.exit id',T',H')=>if id'=id then some (.normal,T',H')else some (.exit id',T',H')
   | r=>r
  | .loop b=>match Aaz P d pure call n b T H with
   | some (.normal,T',H')=>Aaz P d pure call n (.loop b) T' H'
   | r=>r
  | _=>none
def Ant (P:Program)(a:FuncId->Bool)(call:PT):aG:=λf args=>
 if a f&&Ch P f&&AF args then match call f args []with
  | some (r,X)=>Se X 64 r
  | none=>none
 else none
def Agm (P:Program)(a:FuncId->Bool)(call:PT)(b:Nat)(f:FuncId)(args:List AV)(H:AH):Option (AV×AH):=
 match P.funcs[f]? with
 | some fn=>match fn.body with
  | some c=>match Aaz P a (Ant P a call) call b c (args++List.replicate (fn.ntmps - args.length) Be) H with
   | some (e,T,H')=>if zY e then(iF P H' T fn.results.toList).map λd=>(tY d,H')else none
   | none=>none
  | none=>none
 | none=>none
def run (P:Program)(ext:PT)(b ql:FuncId->Bool)(a:Nat):Nat->PT
 | 0=>λ_ _ _=>none
 | n+1=>λf args H=>match ext f args H with
  | some r=>some r
  | none=>if b f&&AF args then match Agm P ql (run P ext b ql a n) a f args []with
    | some (r,X)=>(Se X 64 r).map (·,H)
    | none=>none
   else Agm P ql (run P ext b ql a n) a f args H
def Cfg.start (W:World):Cfg:={w:=W,n:=0,μ:=λ_=>(0,0,0),L:=λ_=>False,K:=λ_=>False}
theorem HR.start (W:World):HR (Cfg.start W) []:=⟨rfl,λo x h=>by simp at h,λo a x c h=>by simp at h,λo x h=>by simp at h,λb h=>h.elim (λh=>h.elim) (λh=>h.elim),λb h=>h.elim⟩
theorem Evo.below {G':Cfg}{W:World}(h:Evo (Cfg.start W) G'):Below W.heap.size W G'.w:=⟨h.os,h.tape,h.output,h.size,λk a=>(h.keep k a (λh=>h)).1⟩
theorem law_calls {f:FuncId}{args:List AV}(h:ACalls P f args [] λr _=>r=.lit (.bool true))(W:World){vs:List Value}(b:VRs (Cfg.start W) args vs):
  Calls P f vs.toArray W λe a=>e=.returned (.bool true)/\Below W.heap.size W a:=
 (h (Cfg.start W) vs (HR.start W) b).mono fun e w' ⟨r,H',G',v,he,hw,hE,hx,_,hr⟩=>by subst hr;simp only[VR]at hx;subst hx;rw[<- hw];exact⟨he,hE.below⟩
end
end
end Go.Proofs.YtbppnhenlboefaaGreat.Av
section
namespace Go.Proofs.YtbppnhenlboefaaGreat.Av
open Go Go.Proofs.Tryz
theorem own:ownKnob prog.godebug=none:=by kernel_rfl
theorem laidOut:laidOutB prog=true:=by kernel_rfl
abbrev tT:=true
abbrev fF:=false
abbrev KT:=AV->AH->Prop
abbrev u0Z:AV:=.lit (.int .u8 0)
abbrev RT:=List AV->AH->Prop
abbrev T10:Type:=AV->AV->AH->KT->Prop
abbrev T11:Type:=AV->AV->AV->AH->KT->Prop
abbrev T12:Type:=AV->AH->KT->Prop
abbrev T13:Type:=AV->AV->AV->AV->AH->KT->Prop
abbrev T14:Type:=AV->AV->AV->AV->AV->AH->KT->Prop
abbrev T15:Type:=RT->AV->AV->AV->AV->AH->KT->Prop
abbrev T16:Type:=AV->AV->AV->AV->AV->AV->AV->AH->KT->Prop
abbrev T17:Type:=RT->AV->AV->AV->AV->AV->AH->KT->Prop
abbrev T18:Type:=RT->AV->AV->AV->AH->KT->Prop
abbrev T19:Type:=RT->AV->AV->AV->AV->AV->AV->AH->KT->Prop
abbrev T20:Type:=AV->AV->AV->AV->AV->AV->AH->KT->Prop
abbrev T21:Type:=RT->AV->AV->AV->AV->AV->AV->AV->AV->AH->KT->Prop
abbrev T22:Type:=RT->AV->AV->AH->KT->Prop
abbrev T23:Type:=AV->AV->AV->AV->AV->AV->AV->AV->AH->KT->Prop
abbrev T24:Type:=RT->AV->AV->AV->AV->AV->AV->AV->AH->KT->Prop
abbrev T25:Type:=RT->RT->AV->AV->AV->AV->AV->AV->AV->AH->KT->Prop
abbrev T26:Type:=AH->KT->Prop
abbrev T27:Type:=AV->AV->AV->AV->AV->AV->AV->AV->AV->AV->AV->AV->AH->KT->Prop
abbrev T28:Type:=RT->RT->AV->AV->AV->AV->AV->AV->AV->AV->AV->AH->KT->Prop
abbrev T29:Type:=RT->AV->AV->AV->AV->AV->AV->AV->AV->AV->AH->KT->Prop
abbrev T30:Type:=RT->RT->AV->AV->AV->AV->AH->KT->Prop
abbrev T31:Type:=Nat->AH->AV->(List AV)->Nat->AV->AH->Prop
abbrev T32:Type:=AV->AV->AV->AV->AV->AV->AV->AV->AV->AV->AV->AH->KT->Prop
abbrev T33:Type:=AV->AV->AV->AV->AV->AV->AV->AV->AV->AH->KT->Prop
abbrev Ba0:=BCall prog
abbrev Ba1:=PCall prog
abbrev Ba2:=BPure prog
abbrev Ba3:=ACalls prog
def pfZ:Nat->Nat->List Bool
 |0,_=>[]
 |f+1,n=>bif n.ble 1 then [] else (n%2).beq 1::pfZ f (n/2)
abbrev pbZ (n:Nat):List Bool:=pfZ 70 n
def A8:Dd:=NB []
def B7:Nat->Option (List Bool):=BI []
abbrev BQ (f:FuncId)(args:List AV)(H:AH)(K:KT):Prop:=∃r H',K r H'/\Ba0 f args H r H'
def Aaa (b:RT->AV->AV->AH->Prop)(L:AV->AV->AH->Prop):Prop:=∀(I:Nat->AV->AV->AH->Prop) (f:∀(n:Nat) (a c:AV) (H:AH) (R:RT),(∀(m:Nat) (d e:AV) (H':AH),m<n->I m d e H'->R [d,e] H')->I n a c H->b R a c H) (n:Nat) {a c:AV} {H:AH} (h:I n a c H),L a c H
theorem jN {keep:List Bool}{d:List AV->AH->Kf->Prop}{e:Kf}{b:RT->AV->AV->AH->Prop}(f:One d)(g:∀(R:RT) (a c:AV) (H:AH),d (BC keep [a,c]) H (M1 keep R e)=b R a c H):Aaa b (λa c H=>lp keep d [a,c] H e):=by
 intro I k n a c H h;refine SO f (LI2 I) ?_ n h;intro n X H h;obtain⟨a,c,rfl,h⟩:=h.elim;exact Eq.mpr (g _ a c H) (k n a c H (λX H'=>∃m,m<n/\LI2 I m X H') (λm l o H' j i=>⟨m,j,i⟩) h)
def rC (b:RT->AV->AV->AV->AH->Prop)(L:AV->AV->AV->AH->Prop):Prop:=∀(I:Nat->AV->AV->AV->AH->Prop) (i:∀(n:Nat) (a c d:AV) (H:AH) (R:RT),(∀(m:Nat) (e f g:AV) (H':AH),m<n->I m e f g H'->R [e,f,g] H')->I n a c d H->b R a c d H) (n:Nat) {a c d:AV} {H:AH} (h:I n a c d H),L a c d H
theorem T6 {keep:List Bool}{e:List AV->AH->Kf->Prop}{f:Kf}{b:RT->AV->AV->AV->AH->Prop}(g:One e)(i:∀(R:RT) (a c d:AV) (H:AH),e (BC keep [a,c,d]) H (M1 keep R f)=b R a c d H):rC b (λa c d H=>lp keep e [a,c,d] H f):=by
 intro I l n a c d H h;refine SO g (LI3 I) ?_ n h;intro n X H h;obtain⟨a,c,d,rfl,h⟩:=h.elim;exact Eq.mpr (i _ a c d H) (l n a c d H (λX H'=>∃m,m<n/\LI3 I m X H') (λm o p q H' k j=>⟨m,k,j⟩) h)
def rD (b:RT->AV->AV->AV->AV->AH->Prop)(L:AV->AV->AV->AV->AH->Prop):Prop:=∀(I:Nat->AV->AV->AV->AV->AH->Prop) (k:∀(n:Nat) (a c d e:AV) (H:AH) (R:RT),(∀(m:Nat) (f g i j:AV) (H':AH),m<n->I m f g i j H'->R [f,g,i,j] H')->I n a c d e H->b R a c d e H) (n:Nat) {a c d e:AV} {H:AH} (h:I n a c d e H),L a c d e H
theorem T7 {keep:List Bool}{f:List AV->AH->Kf->Prop}{g:Kf}{b:RT->AV->AV->AV->AV->AH->Prop}(i:One f)(j:∀(R:RT) (a c d e:AV) (H:AH),f (BC keep [a,c,d,e]) H (M1 keep R g)=b R a c d e H):rD b (λa c d e H=>lp keep f [a,c,d,e] H g):=by
 intro I o n a c d e H h;refine SO i (LI4 I) ?_ n h;intro n X H h;obtain⟨a,c,d,e,rfl,h⟩:=h.elim;exact Eq.mpr (j _ a c d e H) (o n a c d e H (λX H'=>∃m,m<n/\LI4 I m X H') (λm p q r s H' l k=>⟨m,l,k⟩) h)
def xP (b:RT->AV->AV->AV->AV->AV->AH->Prop)(L:AV->AV->AV->AV->AV->AH->Prop):Prop:=∀(I:Nat->AV->AV->AV->AV->AV->AH->Prop) (o:∀(n:Nat) (a c d e f:AV) (H:AH) (R:RT),(∀(m:Nat) (g i j k l:AV) (H':AH),m<n->I m g i j k l H'->R [g,i,j,k,l] H')->I n a c d e f H->b R a c d e f H) (n:Nat) {a c d e f:AV} {H:AH} (h:I n a c d e f H),L a c d e f H
theorem bM {keep:List Bool}{g:List AV->AH->Kf->Prop}{i:Kf}{b:RT->AV->AV->AV->AV->AV->AH->Prop}(j:One g)(k:∀(R:RT) (a c d e f:AV) (H:AH),g (BC keep [a,c,d,e,f]) H (M1 keep R i)=b R a c d e f H):xP b (λa c d e f H=>lp keep g [a,c,d,e,f] H i):=by
 intro I p n a c d e f H h;refine SO j (LI5 I) ?_ n h;intro n X H h;obtain⟨a,c,d,e,f,rfl,h⟩:=h.elim;exact Eq.mpr (k _ a c d e f H) (p n a c d e f H (λX H'=>∃m,m<n/\LI5 I m X H') (λm q r s t u H' o l=>⟨m,o,l⟩) h)
theorem Anu {keep:List Bool}{g:List AV->AH->Kf->Prop}{i:Kf}{b:RT->AV->AV->AV->AV->AV->AH->Prop}(j:MonoF g)(k:∀(R:RT) (a c d e f:AV) (H:AH),g (BC keep [a,c,d,e,f]) H (M1 keep R i)=b R a c d e f H):xP b (λa c d e f H=>lp keep g [a,c,d,e,f] H i):=by
 intro I p n a c d e f H h;refine Agj j (LI5 I) ?_ n h;intro n X H h;obtain⟨a,c,d,e,f,rfl,h⟩:=h.elim;exact Eq.mpr (k _ a c d e f H) (p n a c d e f H (λX H'=>∃m,m<n/\LI5 I m X H') (λm q r s t u H' o l=>⟨m,o,l⟩) h)
def Aai (b:RT->AV->AV->AV->AV->AV->AV->AH->Prop)(L:AV->AV->AV->AV->AV->AV->AH->Prop):Prop:=∀(I:Nat->AV->AV->AV->AV->AV->AV->AH->Prop) (q:∀(n:Nat) (a c d e f g:AV) (H:AH) (R:RT),(∀(m:Nat) (i j k l o p:AV) (H':AH),m<n->I m i j k l o p H'->R [i,j,k,l,o,p] H')->I n a c d e f g H->b R a c d e f g H) (n:Nat) {a c d e f g:AV} {H:AH} (h:I n a c d e f g H),L a c d e f g H
theorem sE {keep:List Bool}{i:List AV->AH->Kf->Prop}{j:Kf}{b:RT->AV->AV->AV->AV->AV->AV->AH->Prop}(k:One i)(l:∀(R:RT) (a c d e f g:AV) (H:AH),i (BC keep [a,c,d,e,f,g]) H (M1 keep R j)=b R a c d e f g H):Aai b (λa c d e f g H=>lp keep i [a,c,d,e,f,g] H j):=by
 intro I q n a c d e f g H h;refine SO k (LI6 I) ?_ n h;intro n X H h;obtain⟨a,c,d,e,f,g,rfl,h⟩:=h.elim;exact Eq.mpr (l _ a c d e f g H) (q n a c d e f g H (λX H'=>∃m,m<n/\LI6 I m X H') (λm r s t u v w H' p o=>⟨m,p,o⟩) h)
def Aaq (b:RT->AV->AV->AV->AV->AV->AV->AV->AH->Prop)(L:AV->AV->AV->AV->AV->AV->AV->AH->Prop):Prop:=∀(I:Nat->AV->AV->AV->AV->AV->AV->AV->AH->Prop) (s:∀(n:Nat) (a c d e f g i:AV) (H:AH) (R:RT),(∀(m:Nat) (j k l o p q r:AV) (H':AH),m<n->I m j k l o p q r H'->R [j,k,l,o,p,q,r] H')->I n a c d e f g i H->b R a c d e f g i H) (n:Nat) {a c d e f g i:AV} {H:AH} (h:I n a c d e f g i H),L a c d e f g i H
theorem Acq {keep:List Bool}{j:List AV->AH->Kf->Prop}{k:Kf}{b:RT->AV->AV->AV->AV->AV->AV->AV->AH->Prop}(l:One j)(o:∀(R:RT) (a c d e f g i:AV) (H:AH),j (BC keep [a,c,d,e,f,g,i]) H (M1 keep R k)=b R a c d e f g i H):Aaq b (λa c d e f g i H=>lp keep j [a,c,d,e,f,g,i] H k):=by
 intro I r n a c d e f g i H h;refine SO l (LI7 I) ?_ n h;intro n X H h;obtain⟨a,c,d,e,f,g,i,rfl,h⟩:=h.elim;exact Eq.mpr (o _ a c d e f g i H) (r n a c d e f g i H (λX H'=>∃m,m<n/\LI7 I m X H') (λm s t u v w x y H' q p=>⟨m,q,p⟩) h)
theorem Agn {keep:List Bool}{j:List AV->AH->Kf->Prop}{k:Kf}{b:RT->AV->AV->AV->AV->AV->AV->AV->AH->Prop}(l:MonoF j)(o:∀(R:RT) (a c d e f g i:AV) (H:AH),j (BC keep [a,c,d,e,f,g,i]) H (M1 keep R k)=b R a c d e f g i H):Aaq b (λa c d e f g i H=>lp keep j [a,c,d,e,f,g,i] H k):=by
 intro I r n a c d e f g i H h;refine Agj l (LI7 I) ?_ n h;intro n X H h;obtain⟨a,c,d,e,f,g,i,rfl,h⟩:=h.elim;exact Eq.mpr (o _ a c d e f g i H) (r n a c d e f g i H (λX H'=>∃m,m<n/\LI7 I m X H') (λm s t u v w x y H' q p=>⟨m,q,p⟩) h)
def Acd (b:RT->AV->AV->AV->AV->AV->AV->AV->AV->AH->Prop)(L:AV->AV->AV->AV->AV->AV->AV->AV->AH->Prop):Prop:=∀(I:Nat->AV->AV->AV->AV->AV->AV->AV->AV->AH->Prop) (u:∀(n:Nat) (a c d e f g i j:AV) (H:AH) (R:RT),(∀(m:Nat) (k l o p q r s t:AV) (H':AH),m<n->I m k l o p q r s t H'->R [k,l,o,p,q,r,s,t] H')->I n a c d e f g i j H->b R a c d e f g i j H) (n:Nat) {a c d e f g i j:AV} {H:AH} (h:I n a c d e f g i j H),L a c d e f g i j H
theorem Acr {keep:List Bool}{k:List AV->AH->Kf->Prop}{l:Kf}{b:RT->AV->AV->AV->AV->AV->AV->AV->AV->AH->Prop}(o:One k)(p:∀(R:RT) (a c d e f g i j:AV) (H:AH),k (BC keep [a,c,d,e,f,g,i,j]) H (M1 keep R l)=b R a c d e f g i j H):Acd b (λa c d e f g i j H=>lp keep k [a,c,d,e,f,g,i,j] H l):=by
 intro I s n a c d e f g i j H h;refine SO o (LI8 I) ?_ n h;intro n X H h;obtain⟨a,c,d,e,f,g,i,j,rfl,h⟩:=h.elim;exact Eq.mpr (p _ a c d e f g i j H) (s n a c d e f g i j H (λX H'=>∃m,m<n/\LI8 I m X H') (λm t u v w x y z A H' r q=>⟨m,r,q⟩) h)
def RL9 (b:RT->AV->AV->AV->AV->AV->AV->AV->AV->AV->AH->Prop)(L:AV->AV->AV->AV->AV->AV->AV->AV->AV->AH->Prop):Prop:=∀(I:Nat->AV->AV->AV->AV->AV->AV->AV->AV->AV->AH->Prop) (w:∀(n:Nat) (a c d e f g i j k:AV) (H:AH) (R:RT),(∀(m:Nat) (l o p q r s t u v:AV) (H':AH),m<n->I m l o p q r s t u v H'->R [l,o,p,q,r,s,t,u,v] H')->I n a c d e f g i j k H->b R a c d e f g i j k H) (n:Nat) {a c d e f g i j k:AV} {H:AH} (h:I n a c d e f g i j k H),L a c d e f g i j k H
theorem Anv {keep:List Bool}{l:List AV->AH->Kf->Prop}{o:Kf}{b:RT->AV->AV->AV->AV->AV->AV->AV->AV->AV->AH->Prop}(p:One l)(q:∀(R:RT) (a c d e f g i j k:AV) (H:AH),l (BC keep [a,c,d,e,f,g,i,j,k]) H (M1 keep R o)=b R a c d e f g i j k H):RL9 b (λa c d e f g i j k H=>lp keep l [a,c,d,e,f,g,i,j,k] H o):=by
 intro I t n a c d e f g i j k H h;refine SO p (LI9 I) ?_ n h;intro n X H h;obtain⟨a,c,d,e,f,g,i,j,k,rfl,h⟩:=h.elim;exact Eq.mpr (q _ a c d e f g i j k H) (t n a c d e f g i j k H (λX H'=>∃m,m<n/\LI9 I m X H') (λm u v w x y z A B C H' s r=>⟨m,s,r⟩) h)
def GF:FuncId->Bool:=hU [188,179,181,23,54,142,148,180,182,145,22,73,170,50,172,141,171,173,98,99,208,55,56,110,144,53,146,201,204,111,223,94,167,169,163,143,184,209,225,74,147]
def Anw:FuncId->Bool:=hU [230]
theorem TA:prog.follows .mixedOrders=true:=by kernel_rfl
theorem fok (fl:Dd)(ql:FuncId->Bool)(kp:Nat->Option (List Bool)){f:FuncId}{fn:Func}{args:List AV}{H:AH}{K:KT}{X:Prop}(c:prog.funcs[f]?=some fn)(h:X)(a:vR fl ql fn=true:=by kernel_rfl)(b:WE prog fl ql Aw Aw kp fn args H K=X:=by kernel_rfl):BQ f args H K:=Agf TA c a (Eq.mpr b h)
def We:Nat->Option (List Bool):=BI [(10,mk 75 0 [1,2,3,6,33,34,35])]
def XH (p:List Bool)(n:Nat):List AV->AH->Kf->Prop:=AR prog A8 GF Aw Aw We (sub p (AK f188)) n
def Uv:T16:=λa b c g d e f H K=>lp (mk 75 0 [1,2,3,6,33,34,35]) (XH (pbZ 303) 11) [a,b,c,g,d,e,f] H (AP 0 (AO (XH (pbZ 63) 17) (AN prog f188.results.toList K)))
def Ql:T24:=λp d e b g l m f H K=>bO (Ar .lss f m) λr=>bB r λq=>bI q (bO (AY 2 l f) λC=>bO (Aq true 2 H C) λO=>bH (AE H (.agg [(I 0),(I 0)])) λc o=>bS (AU 2 o c O) λj=>bO (Ab 0 c) λY=>bO (Aq false 1 j Y) λZ=>bO (Ar .quo Z (I 8)) λk=>bC (Ba0 202 [b,k] j) λs a=>bO (Ab 1 b) λt=>bO (Aq false 1 a t) λu=>bO (AY 9 u s) λv=>bO (Ab 1 v) λw=>bO (Ab 0 c) λx=>bO (Aq false 1 a x) λy=>bO (Ar .mul k (I 8)) λz=>bO (Ar .sub y z) λA=>bO (Ty 8 1 a w (some A) none) λD=>bO (Ab 0 c) λE=>bO (Aq false 1 a E) λF=>bO (Ar .sub F d) λG=>bO (Bq 1 e (some G) none none) λJ=>bO (Ab 1 c) λL=>bO (Aq false 1 a L) λM=>bO (Bq 1 J none (some M) none) λN=>bH (YX 1 a D N) λaa n=>bO (Ar .add f (I 1)) λP=>p [d,e,b,g,l,m,P] n) (bO (Ab 0 b) λQ=>bO (Aq false 1 H Q) λR=>bO (AW e) λS=>bO (Ar .add d S) λT=>bO (amm jF [R,T]) λU=>bO (Ab 0 b) λV=>bS (AU 1 H V U) λh=>bO (Aq true 2 h b) λW=>bS (AU 2 h g W) λi=>bO (Aq true 2 i g) λX=>K (.tup [X,(B true)]) i)
theorem WA {K:KT}:Aaq (λR a b c g d e f H=>Ql R a b c g d e f H K) (λa b c g d e f H=>Uv a b c g d e f H K):=Acq (A3 _ _) (λ_ _ _ _ _ _ _ _ _=>by kernel_rfl)
def dW:T11:=λa0 a1 a2 H K=>bH (AE H a0) λc i=>bH (AE i (.agg [(I 0),Ad])) λd a=>bO (Aq true 2 a c) λD=>bP (Ba1 54 [D] a) λE=>bO (D5 .not E) λb=>bG b false λM=>gO M (some a1) λF=>bG b false λN=>gO N (some a2) λm=>bG b false λG=>gO G (AW m) λn=>bG b false λJ=>gP J (Ba1 98 [F,n] a) λo=>bG b false λL=>gO L (D5 .not o) λp=>bO (A0 b (B true) p) λq=>bB q λk=>bI k (bO (Dy [(I 0),Ad] []) λr=>bS (AU 2 a d r) λf=>bO (Aq true 2 f d) λs=>K (.tup [s,(B false)]) f) (bO (Aq true 2 a c) λt=>bC (Ba0 103 [t] a) λu j=>bS (AU 2 j c u) λe=>bO (AW a2) λv=>bO (Ar .eql v (I 0)) λw=>bB w λl=>bI l (bO (Aq true 2 e c) λx=>bS (AU 2 e d x) λg=>bO (Aq true 2 g d) λy=>K (.tup [y,(B true)]) g) (bO (AW a2) λz=>bO (Dy [(I 0),(I 0)] [(0,1,a1),(1,1,z)]) λA=>bP (Ba1 99 [A,(I 8)] e) λh=>bO (AW h) λC=>Uv a1 a2 c d h C (I 0) e K))
theorem mC {a0 a1 a2 H K}(h:dW a0 a1 a2 H K):BQ 188 [a0,a1,a2] H K:=fok A8 GF We func188 h
def X7:Nat->Option (List Bool):=BI [(6,mk 39 0 [1,2,17,18,19])]
def ZI (p:List Bool)(n:Nat):List AV->AH->Kf->Prop:=AR prog A8 GF Aw Aw X7 (sub p (AK f179)) n
def X6:T14:=λa e b c d H K=>lp (mk 39 0 [1,2,17,18,19]) (ZI (pbZ 75) 7) [a,e,b,c,d] H (AP 0 (AO (ZI (pbZ 15) 14) (AN prog f179.results.toList K)))
def Ur:T17:=λj e h f g c H K=>bO (Ar .lss c g) λm=>bB m λk=>bI k (bO (AY 9 f c) λv=>bO (Aq true 9 H v) λx=>bH (AE H (.agg [(I 0),u0Z,u0Z,u0Z,u0Z,u0Z,u0Z,u0Z,u0Z])) λb i=>bS (AU 9 i b x) λa=>bO (Ab 0 b) λy=>bO (Aq false 1 a y) λz=>bO (Ar .mul z (I 8)) λA=>bO (amm jF [e,A]) λd=>bO (Ab 0 h) λn=>bO (Aq false 1 a n) λo=>bO (Ab 0 b) λp=>bO (Aq false 1 a p) λq=>bO (Ar .add q (I 1)) λr=>bO (Ar .mul r (I 8)) λs=>bO (amm gZ [o,s]) λt=>bO (Ar .lss d t) λu=>bB u λl=>bI l (K (.tup [d,(B true)]) a) (bO (Ar .add c (I 1)) λw=>j [e,h,f,g,w] a)) (K (.tup [(I 0),(B false)]) H)
theorem Zb {K:KT}:xP (λR a e b c d H=>Ur R a e b c d H K) (λa e b c d H=>X6 a e b c d H K):=bM (A3 _ _) (λ_ _ _ _ _ _ _=>by kernel_rfl)
def kS:T10:=λa0 a1 H K=>bH (AE H a0) λb a=>bO (Aq true 2 a b) λh=>bP (Ba1 54 [h] a) λi=>bO (D5 .not i) λc=>bG c false λm=>gO m (some a1) λj=>bG c false λn=>gO n (Ar .lss j (I 0)) λk=>bO (A0 c (B true) k) λl=>bB l λe=>bI e (K (.tup [(I 0),(B false)]) a) (bO (Ab 1 b) λf=>bO (Aq false 1 a f) λd=>bO (AW d) λg=>X6 a1 b d g (I 0) a K)
theorem oS {a0 a1 H K}(h:kS a0 a1 H K):BQ 179 [a0,a1] H K:=fok A8 GF X7 func179 h
def X9:Nat->Option (List Bool):=BI [(6,mk 44 0 [2,6])]
def ZK (p:List Bool)(n:Nat):List AV->AH->Kf->Prop:=AR prog A8 GF Aw Aw X9 (sub p (AK f181)) n
def X8:T10:=λa b H K=>lp (mk 44 0 [2,6]) (ZK (pbZ 75) 7) [a,b] H (AP 0 (AO (ZK (pbZ 15) 13) (AN prog f181.results.toList K)))
def Us:T22:=λd a b H K=>bO (Ab 0 a) λg=>bO (Aq false 1 H g) λh=>bO (Ar .lss b h) λo=>bB o λf=>bI f (bO (Ab 1 a) λp=>bO (Aq false 1 H p) λq=>bO (Ar .quo b (I 8)) λr=>bP (Ba1 208 [q,r] H) λc=>bO (Ak c 0) λt=>bO (Ak c 1) λs=>bO (D5 .not s) λi=>bB i λe=>bI e (K (.tup [b,(B true)]) H) (bO (Ar .quo b (I 8)) λj=>bO (Ar .add j (I 1)) λk=>bO (Ar .mul k (I 8)) λl=>d [a,l] H)) (bO (Ab 0 a) λm=>bO (Aq false 1 H m) λn=>K (.tup [n,(B true)]) H)
theorem Zc {K:KT}:Aaa (λR a b H=>Us R a b H K) (λa b H=>X8 a b H K):=jN (A3 _ _) (λ_ _ _ _=>by kernel_rfl)
def kU:T10:=λa0 a1 H K=>bH (AE H a0) λc a=>bO (Aq true 2 a c) λk=>bP (Ba1 54 [k] a) λl=>bO (D5 .not l) λd=>bG d false λs=>gO s (some a1) λm=>bG d false λt=>gO t (Ar .lss m (I 0)) λn=>bO (A0 d (B true) n) λb=>bG b false λo=>gO o (some a1) λf=>bG b false λp=>gO p (Ab 0 c) λg=>bG b false λq=>gO q (Aq false 1 a g) λh=>bG b false λr=>gO r (Ar .geq f h) λi=>bO (A0 b (B true) i) λj=>bB j λe=>bI e (K (.tup [(I 0),(B false)]) a) (X8 c a1 a K)
theorem oU {a0 a1 H K}(h:kU a0 a1 H K):BQ 181 [a0,a1] H K:=fok A8 GF X9 func181 h
def XF:Nat->Option (List Bool):=BI [(11,mk 77 0 [1,2,7,41,42,43]),(8,mk 77 0 [1,2,7,41,42,43])]
def Nx (p:List Bool)(n:Nat):List AV->AH->Kf->Prop:=AR prog A8 GF Aw Aw XF (sub p (AK f23)) n
def JU:T19:=λa b c g d e f H K=>jn (mk 77 0 [1,2,7,41,42,43]) (Nx (pbZ 3887) 15) [b,c,g,d,e,f] H (M1 (mk 77 0 [1,2,7,41,42,43]) a (AP 0 (AO (Nx (pbZ 63) 15) (AN prog f23.results.toList K))))
def XE:T20:=λa b f c d e H K=>lp (mk 77 0 [1,2,7,41,42,43]) (Nx (pbZ 303) 9) [a,b,f,c,d,e] H (AP 0 (AO (Nx (pbZ 63) 15) (AN prog f23.results.toList K)))
def SB:T19:=λa c d h e f g H K=>bO (Ar .add g (I 1)) λb=>a [c,d,h,e,f,b] H
theorem aV (a:RT)(b c g d e f:AV)(H:AH)(K:KT):JU a b c g d e f H K=SB a b c g d e f H K:=(Bi _ _ _ _ _).trans (by kernel_rfl)
def Ut:T19:=λk e h g i j f H K=>bO (Ar .lss f j) λq=>bB q λo=>bI o (bO (AY 9 i f) λx=>bO (Aq true 9 H x) λL=>bH (AE H (.agg [(I 0),u0Z,u0Z,u0Z,u0Z,u0Z,u0Z,u0Z,u0Z])) λd n=>bS (AU 9 n d L) λc=>bO (Ab 0 d) λQ=>bO (Aq false 1 c Q) λR=>bP (Ba1 56 [R] c) λS=>bO (Dy [(I 0),(I 0)] [(0,1,e),(1,1,h)]) λr=>bP (Ba1 55 [S,r] c) λs=>bH (AE c (.agg [(I 0),(I 0)])) λb l=>bS (AU 2 l b s) λa=>bO (Ab 1 b) λt=>bO (Aq false 1 a t) λu=>bO (Ar .gtr u (I 0)) λv=>bB v λp=>bI p (bO (Ab 0 b) λw=>bO (Aq false 1 a w) λy=>bO (Ar .sub y e) λz=>bO (Bq 1 g (some z) none none) λA=>bO (Ab 1 d) λB=>bO (Ab 0 b) λC=>bO (Aq false 1 a C) λD=>bO (Ab 0 d) λE=>bO (Aq false 1 a E) λF=>bO (Ar .mul F (I 8)) λG=>bO (Ar .sub D G) λJ=>bO (Ty 8 1 a B (some J) none) λM=>bO (Ab 1 b) λN=>bO (Aq false 1 a N) λO=>bO (Bq 1 M none (some O) none) λP=>bH (YX 1 a A P) λT m=>JU k e h g i j f m K) (JU k e h g i j f a K)) (K g H)
theorem Zd {K:KT}:Aai (λR a b f c d e H=>Ut R a b f c d e H K) (λa b f c d e H=>XE a b f c d e H K):=sE (A3 _ _) (λ_ _ _ _ _ _ _ _=>by kernel_rfl)
def kV:T11:=λa0 a1 a2 H K=>bH (AE H a0) λc a=>bO (Aq true 2 a c) λo=>bP (Ba1 54 [o] a) λu=>bO (D5 .not u) λf=>bG f false λP=>gO P (some a1) λC=>bG f false λQ=>gO Q (Ar .lss C (I 0)) λD=>bO (A0 f (B true) D) λg=>bG g false λE=>gO E (some a2) λk=>bG g false λF=>gO F (Ar .lss k (I 0)) λl=>bO (A0 g (B true) l) λd=>bG d false λG=>gO G (some a2) λm=>bG d false λJ=>gO J (Ar .gtr m (I 4096)) λn=>bO (A0 d (B true) n) λb=>bG b false λL=>gO L (some a1) λp=>bG b false λM=>gO M (Ab 0 c) λq=>bG b false λN=>gO N (Aq false 1 a q) λr=>bG b false λO=>gO O (Ar .geq p r) λs=>bO (A0 b (B true) s) λt=>bB t λj=>bI j (K Ad a) (bO (Ab 0 c) λv=>bO (Aq false 1 a v) λw=>bO (Ar .sub w a1) λx=>bO (amm gZ [a2,x]) λe=>bH (Abp 1 1 [u0Z] a e e) λy h=>bO (Ab 1 c) λz=>bO (Aq false 1 h z) λi=>bO (AW i) λA=>XE a1 e y i A (I 0) h K)
theorem oW {a0 a1 a2 H K}(h:kV a0 a1 a2 H K):BQ 23 [a0,a1,a2] H K:=fok A8 GF XF func23 h
def ZM:Nat->Option (List Bool):=BI [(7,mk 40 0 [1,3,15,16,17])]
def dT (p:List Bool)(n:Nat):List AV->AH->Kf->Prop:=AR prog A8 GF Aw Aw ZM (sub p (AK f54)) n
def ZL:T14:=λa e b c d H K=>lp (mk 40 0 [1,3,15,16,17]) (dT (pbZ 151) 8) [a,e,b,c,d] H (AP 0 (AO (dT (pbZ 31) 15) (AN prog f54.results.toList K)))
def Wa:T17:=λj f P g h e H K=>bO (Ar .lss e h) λm=>bB m λk=>bI k (bO (AY 9 g e) λr=>bO (Aq true 9 H r) λy=>bH (AE H (.agg [(I 0),u0Z,u0Z,u0Z,u0Z,u0Z,u0Z,u0Z,u0Z])) λc i=>bS (AU 9 i c y) λa=>bO (Ab 0 c) λC=>bO (Aq false 1 a C) λD=>bO (Ar .leq D P) λd=>bG d false λE=>gO E (Ab 0 c) λn=>bG d false λF=>gO F (Aq false 1 a n) λo=>bG d false λG=>gO G (Ar .geq o (I 137438953472)) λp=>bO (A0 d (B true) p) λb=>bG b false λJ=>gO J (Aq true 9 a c) λq=>bG b false λL=>gO L (Ab 0 f) λs=>bG b false λM=>gO M (Aq false 1 a s) λt=>bG b false λN=>gP N (Ba1 110 [q,t] a) λu=>bG b false λO=>gO O (D5 .not u) λv=>bO (A0 b (B true) v) λw=>bB w λl=>bI l (K (B false) a) (bO (Ab 0 c) λx=>bO (Aq false 1 a x) λz=>bO (Ar .add e (I 1)) λA=>j [f,z,g,h,A] a)) (K (B true) H)
theorem aU {K:KT}:xP (λR a e b c d H=>Wa R a e b c d H K) (λa e b c d H=>ZL a e b c d H K):=bM (A3 _ _) (λ_ _ _ _ _ _ _=>by kernel_rfl)
def oV:T12:=λa0 H K=>bH (AE H a0) λb a=>bO (Ab 0 b) λj=>bO (Aq false 1 a j) λk=>bO (Ar .lss k (I 0)) λc=>bG c false λn=>gO n (Ab 0 b) λl=>bG c false λo=>gO o (Aq false 1 a l) λm=>bG c false λp=>gO p (Ar .gtr m (I 1099511627776)) λf=>bO (A0 c (B true) f) λg=>bB g λe=>bI e (K (B false) a) (bO (Ab 1 b) λh=>bO (Aq false 1 a h) λd=>bO (AW d) λi=>ZL b (I (-1)) d i (I 0) a K)
theorem rS {a0 H K}(h:oV a0 H K):BQ 54 [a0] H K:=fok A8 GF ZM func54 h
def HO:Nat->Option (List Bool):=BI [(12,mk 69 0 [3,6]),(7,mk 69 0 [1,2,3,6,8])]
def ET (p:List Bool)(n:Nat):List AV->AH->Kf->Prop:=AR prog A8 GF Aw Aw HO (sub p (AK f142)) n
def Dw:T10:=λa b H K=>jn (mk 69 0 [3,6]) (ET (pbZ 63) 14) [a,b] H (AN prog f142.results.toList K)
def HN:T14:=λa b c d e H K=>lp (mk 69 0 [1,2,3,6,8]) (ET (pbZ 151) 8) [a,b,c,d,e] H (AP 0 (AO (ET (pbZ 31) 12) (AN prog f142.results.toList K)))
def Gi:T10:=λe b H K=>bO (Aq true 2 H e) λc=>bS (AU 2 H b c) λa=>bO (Aq true 2 a b) λd=>K (.tup [d,(B true)]) a
theorem Mx (a b:AV)(H:AH)(K:KT):Dw a b H K=Gi a b H K:=(Bi _ _ _ _ _).trans (by kernel_rfl)
def GB:T17:=λi d b a f c H K=>bO (AW b) λl=>bO (Ar .lss c l) λm=>bB m λj=>bI j (bO (Ar .add d c) λC=>bO (Ar .quo C (I 8)) λD=>bC (Ba0 183 [a,D] H) λE e=>bO (Ab 1 a) λF=>bO (Aq false 1 e F) λG=>bO (Ar .add d c) λJ=>bO (Ar .rem J (I 8)) λn=>bO (AY 1 b c) λo=>bO (Aq false 1 e o) λp=>bO (AY 9 G E) λq=>bO (Ab 1 q) λr=>bO (W7 8 1 r n) λs=>bS (AU 1 e s p) λg=>bO (Ar .add c (I 1)) λt=>i [d,b,a,f,t] g) (bO (AW b) λu=>bO (Ar .gtr u (I 0)) λv=>bB v λk=>bI k (bO (Ab 0 a) λw=>bO (Aq false 1 H w) λx=>bO (AW b) λy=>bO (Ar .add d y) λz=>bO (amm jF [x,z]) λA=>bO (Ab 0 a) λB=>bS (AU 1 H B A) λh=>Dw a f h K) (Dw a f H K))
theorem LT {K:KT}:xP (λR a b c d e H=>GB R a b c d e H K) (λa b c d e H=>HN a b c d e H K):=bM (A3 _ _) (λ_ _ _ _ _ _ _=>by kernel_rfl)
def J8:T11:=λa0 a1 a2 H K=>bH (AE H a0) λc h=>bH (AE h (.agg [(I 0),Ad])) λe b=>bO (Aq true 2 b c) λz=>bP (Ba1 145 [z] b) λA=>bO (D5 .not A) λf=>bG f false λO=>gO O (some a1) λC=>bG f false λP=>gO P (Ar .lss C (I 0)) λl=>bO (A0 f (B true) l) λd=>bG d false λD=>gO D (some a2) λm=>bG d false λE=>gO E (AW m) λn=>bG d false λF=>gO F (Ar .gtr n (I 4096)) λo=>bO (A0 d (B true) o) λa=>bG a false λG=>gO G (some a1) λp=>bG a false λJ=>gO J (some a2) λq=>bG a false λL=>gO L (AW q) λr=>bG a false λM=>gO M (Ar .sub (I 1099511627776) r) λs=>bG a false λN=>gO N (Ar .gtr p s) λt=>bO (A0 a (B true) t) λu=>bB u λk=>bI k (bO (Dy [(I 0),Ad] []) λv=>bS (AU 2 b e v) λg=>bO (Aq true 2 g e) λw=>K (.tup [w,(B false)]) g) (bO (Aq true 2 b c) λx=>bC (Ba0 140 [x] b) λy i=>bS (AU 2 i c y) λj=>HN a1 a2 c e (I 0) j K)
theorem PL {a0 a1 a2 H K}(h:J8 a0 a1 a2 H K):BQ 142 [a0,a1,a2] H K:=fok A8 GF HO func142 h
def Is:Nat->Option (List Bool):=BI [(6,mk 38 0 [2,3,5])]
def IV (p:List Bool)(n:Nat):List AV->AH->Kf->Prop:=AR prog A8 GF Aw Aw Is (sub p (AK f148)) n
def Ir:T11:=λa b c H K=>lp (mk 38 0 [2,3,5]) (IV (pbZ 75) 7) [a,b,c] H (AP 0 (AO (IV (pbZ 15) 12) (AN prog f148.results.toList K)))
def GX:T18:=λd b c a H K=>bO (Ab 1 b) λg=>bO (Aq false 1 H g) λh=>bO (AW h) λn=>bO (Ar .lss a n) λo=>bB o λf=>bI f (bO (Ab 1 b) λp=>bO (Aq false 1 H p) λq=>bO (AY 9 q a) λr=>bO (Aq true 9 H r) λs=>bO (Ab 1 c) λt=>bO (Aq false 1 H t) λi=>bO (AY 9 i a) λj=>bO (Aq true 9 H j) λk=>bO (P9 prog .neq 52 s k) λl=>bB l λe=>bI e (K (B false) H) (bO (Ar .add a (I 1)) λm=>d [b,c,m] H)) (K (B true) H)
theorem Ms {K:KT}:rC (λR a b c H=>GX R a b c H K) (λa b c H=>Ir a b c H K):=T6 (A3 _ _) (λ_ _ _ _ _=>by kernel_rfl)
def KD:T10:=λa0 a1 H K=>bH (AE H a0) λc e=>bH (AE e a1) λd b=>bO (Ab 0 c) λo=>bO (Aq false 1 b o) λp=>bO (Ab 0 d) λq=>bO (Aq false 1 b q) λr=>bO (Ar .neq p r) λa=>bG a false λy=>gO y (Ab 1 c) λg=>bG a false λs=>gO s (Aq false 1 b g) λh=>bG a false λt=>gO t (AW h) λi=>bG a false λu=>gO u (Ab 1 d) λj=>bG a false λv=>gO v (Aq false 1 b j) λk=>bG a false λw=>gO w (AW k) λl=>bG a false λx=>gO x (Ar .neq i l) λm=>bO (A0 a (B true) m) λn=>bB n λf=>bI f (K (B false) b) (Ir c d (I 0) b K)
theorem Rl {a0 a1 H K}(h:KD a0 a1 H K):BQ 148 [a0,a1] H K:=fok A8 GF Is func148 h
def Im:Nat->Option (List Bool):=BI [(6,mk 48 0 [1,2,6])]
def IP (p:List Bool)(n:Nat):List AV->AH->Kf->Prop:=AR prog A8 GF Aw Aw Im (sub p (AK f180)) n
def Il:T11:=λa b c H K=>lp (mk 48 0 [1,2,6]) (IP (pbZ 75) 7) [a,b,c] H (AP 0 (AO (IP (pbZ 15) 13) (AN prog f180.results.toList K)))
def GS:T18:=λf e b c H K=>bO (Ab 1 b) λi=>bO (Aq false 1 H i) λj=>bO (AW j) λs=>bO (Ar .lss c s) λy=>bB y λh=>bI h (bO (Ab 1 b) λA=>bO (Aq false 1 H A) λC=>bO (AY 9 C c) λD=>bO (Ab 0 D) λE=>bO (Aq false 1 H E) λF=>bO (Ar .mul F (I 8)) λk=>bO (amm jF [k,e]) λd=>bO (Ab 1 b) λl=>bO (Aq false 1 H l) λm=>bO (AY 9 m c) λn=>bO (Ab 0 n) λo=>bO (Aq false 1 H o) λp=>bO (Ar .add p (I 1)) λq=>bO (Ar .mul q (I 8)) λr=>bO (Ar .lss d r) λa=>bG a true λG=>gO G (some d) λt=>bG a true λJ=>gO J (Ab 0 b) λu=>bG a true λL=>gO L (Aq false 1 H u) λv=>bG a true λM=>gO M (Ar .lss t v) λw=>bO (A0 a w (B false)) λx=>bB x λg=>bI g (K (.tup [d,(B true)]) H) (bO (Ar .add c (I 1)) λz=>f [e,b,z] H)) (K (.tup [(I 0),(B false)]) H)
theorem Mm {K:KT}:rC (λR a b c H=>GS R a b c H K) (λa b c H=>Il a b c H K):=T6 (A3 _ _) (λ_ _ _ _ _=>by kernel_rfl)
def K8:T10:=λa0 a1 H K=>bH (AE H a0) λc a=>bO (Aq true 2 a c) λe=>bP (Ba1 145 [e] a) λf=>bO (D5 .not f) λb=>bG b false λj=>gO j (some a1) λg=>bG b false λk=>gO k (Ar .lss g (I 0)) λh=>bO (A0 b (B true) h) λi=>bB i λd=>bI d (K (.tup [(I 0),(B false)]) a) (Il a1 c (I 0) a K)
theorem Rg {a0 a1 H K}(h:K8 a0 a1 H K):BQ 180 [a0,a1] H K:=fok A8 GF Im func180 h
def Io:Nat->Option (List Bool):=BI [(5,mk 32 0 [1,2])]
def IQ (p:List Bool)(n:Nat):List AV->AH->Kf->Prop:=AR prog A8 GF Aw Aw Io (sub p (AK f182)) n
def In:T10:=λa b H K=>lp (mk 32 0 [1,2]) (IQ (pbZ 35) 6) [a,b] H (AP 0 (AO (IQ (pbZ 15) 8) (AN prog f182.results.toList K)))
def GT:T22:=λc a b H K=>bO (Aq true 2 H b) λe=>bO (Ar .quo a (I 8)) λf=>bP (Ba1 144 [e,f] H) λh=>bO (Ar .geq h (I 0)) λi=>bB i λd=>bI d (bO (Ar .quo a (I 8)) λj=>bO (Ar .add j (I 1)) λk=>bO (Ar .mul k (I 8)) λl=>c [l,b] H) (bO (Ab 0 b) λm=>bO (Aq false 1 H m) λn=>bO (amm gZ [a,n]) λg=>K (.tup [g,(B true)]) H)
theorem Mn {K:KT}:Aaa (λR a b H=>GT R a b H K) (λa b H=>In a b H K):=jN (A3 _ _) (λ_ _ _ _=>by kernel_rfl)
def K9:T10:=λa0 a1 H K=>bH (AE H a0) λc a=>bO (Aq true 2 a c) λk=>bP (Ba1 145 [k] a) λl=>bO (D5 .not l) λd=>bG d false λs=>gO s (some a1) λm=>bG d false λt=>gO t (Ar .lss m (I 0)) λn=>bO (A0 d (B true) n) λb=>bG b false λo=>gO o (some a1) λf=>bG b false λp=>gO p (Ab 0 c) λg=>bG b false λq=>gO q (Aq false 1 a g) λh=>bG b false λr=>gO r (Ar .geq f h) λi=>bO (A0 b (B true) i) λj=>bB j λe=>bI e (K (.tup [(I 0),(B false)]) a) (In a1 c a K)
theorem Ri {a0 a1 H K}(h:K9 a0 a1 H K):BQ 182 [a0,a1] H K:=fok A8 GF Io func182 h
def IS:Nat->Option (List Bool):=BI [(15,mk 70 0 [1,3,4,5]),(6,mk 70 0 [1,3])]
def Dl (p:List Bool)(n:Nat):List AV->AH->Kf->Prop:=AR prog A8 GF Aw Aw IS (sub p (AK f145)) n
def EP:T15:=λa b c d e H K=>lp (mk 70 0 [1,3,4,5]) (Dl (pbZ 20043) 16) [b,c,d,e] H (AP 2 (AP 1 (AO (Dl (pbZ 459) 21) (M1 (mk 70 0 [1,3]) a (AP 0 (AO (Dl (pbZ 15) 21) (AN prog f145.results.toList K)))))))
def IR:T10:=λa b H K=>lp (mk 70 0 [1,3]) (Dl (pbZ 75) 7) [a,b] H (AP 0 (AO (Dl (pbZ 15) 21) (AN prog f145.results.toList K)))
def GU:T30:=λg f b d e c H K=>bO (Ar .lss c (I 8)) λj=>bB j λh=>bI h (bO (Ar .mul e (I 8)) λp=>bO (Ar .add p c) λw=>bO (Ab 0 b) λx=>bO (Aq false 1 H x) λy=>bO (Ar .geq w y) λa=>bG a true λL=>gO L (Ab 1 b) λz=>bG a true λM=>gO M (Aq false 1 H z) λk=>bG a true λA=>gO A (some d) λl=>bG a true λC=>gO C (some c) λm=>bG a true λD=>gO D (AY 9 k l) λn=>bG a true λE=>gO E (Ab 1 n) λo=>bG a true λF=>gO F (W7 8 1 o m) λq=>bG a true λG=>gO G (Aq false 1 H q) λr=>bG a true λJ=>gO J (Ar .neq r u0Z) λs=>bO (A0 a s (B false)) λt=>bB t λi=>bI i (K (B false) H) (bO (Ar .add c (I 1)) λu=>f [b,d,e,u] H)) (bO (Ar .add d (I 1)) λv=>g [b,v] H)
theorem Mo (e:RT){K:KT}:rD (λR a b c d H=>GU e R a b c d H K) (λa b c d H=>EP e a b c d H K):=T7 (A3 _ _) (λ_ _ _ _ _ _=>by kernel_rfl)
def Hz:T22:=λg e c H K=>bO (Ab 1 e) λj=>bO (Aq false 1 H j) λk=>bO (AW k) λp=>bO (Ar .lss c p) λu=>bB u λh=>bI h (bO (Ab 1 e) λD=>bO (Aq false 1 H D) λE=>bO (AY 9 E c) λF=>bO (Ab 0 F) λG=>bO (Aq false 1 H G) λd=>bO (Ar .lss d (I 0)) λf=>bG f false λJ=>gO J (some d) λl=>bG f false λL=>gO L (Ar .geq l (I 137438953472)) λm=>bO (A0 f (B true) m) λb=>bG b false λM=>gO M (some c) λn=>bG b false λN=>gO N (Ar .gtr n (I 0)) λo=>bG b false λO=>gO O (some o) λa=>bG a true λP=>gO P (Ab 1 e) λq=>bG a true λQ=>gO Q (Aq false 1 H q) λr=>bG a true λR=>gO R (some c) λs=>bG a true λS=>gO S (Ar .sub s (I 1)) λt=>bG a true λT=>gO T (AY 9 r t) λv=>bG a true λU=>gO U (Ab 0 v) λw=>bG a true λV=>gO V (Aq false 1 H w) λx=>bG a true λW=>gO W (some d) λy=>bG a true λX=>gO X (Ar .geq x y) λz=>bG b false λY=>gO Y (A0 a z (B false)) λA=>bO (A0 b (B true) A) λC=>bB C λi=>bI i (K (B false) H) (EP g e c d (I 0) H K)) (K (B true) H)
theorem Nq {K:KT}:Aaa (λR a b H=>Hz R a b H K) (λa b H=>IR a b H K):=jN (A3 _ _) (λ_ _ _ _=>by kernel_rfl)
def LF:T12:=λa0 H K=>bH (AE H a0) λc a=>bO (Ab 0 c) λg=>bO (Aq false 1 a g) λh=>bO (Ar .lss h (I 0)) λb=>bG b false λk=>gO k (Ab 0 c) λi=>bG b false λl=>gO l (Aq false 1 a i) λj=>bG b false λm=>gO m (Ar .gtr j (I 1099511627776)) λe=>bO (A0 b (B true) e) λf=>bB f λd=>bI d (K (B false) a) (IR c (I 0) a K)
theorem Si {a0 H K}(h:LF a0 H K):BQ 145 [a0] H K:=fok A8 GF IS func145 h
def Iq:Nat->Option (List Bool):=BI [(7,mk 47 0 [1,2,3,7,8])]
def IU (p:List Bool)(n:Nat):List AV->AH->Kf->Prop:=AR prog A8 GF Aw Aw Iq (sub p (AK f73)) n
def Ip:T14:=λa b c d e H K=>lp (mk 47 0 [1,2,3,7,8]) (IU (pbZ 151) 8) [a,b,c,d,e] H (AP 0 (AO (IU (pbZ 31) 11) (AN prog f73.results.toList K)))
def GW:T17:=λi c e d f b H K=>bO (Ar .lss b e) λa=>bG a true λx=>gO x (some c) λr=>bG a true λz=>gO z (Ab 0 d) λu=>bG a true λA=>gO A (Aq false 1 H u) λv=>bG a true λC=>gO C (some b) λw=>bG a true λD=>gO D (Ar .sub v w) λk=>bG a true λy=>gO y (Ar .lss r k) λl=>bO (A0 a l (B false)) λm=>bB m λj=>bI j (bO (Aq true 2 H d) λn=>bO (Ar .add c b) λo=>bP (Ba1 146 [n,o] H) λp=>bH (Co H 1 1 (Bx [u0Z] 1) [(0,1,p)]) λq g=>bH (Gt 1 1 g f q) λs h=>bO (Ar .add b (I 1)) λt=>i [c,e,d,s,t] h) (K f H)
theorem Mr {K:KT}:xP (λR a b c d e H=>GW R a b c d e H K) (λa b c d e H=>Ip a b c d e H K):=bM (A3 _ _) (λ_ _ _ _ _ _ _=>by kernel_rfl)
def KC:T11:=λa0 a1 a2 H K=>bH (AE H a0) λe a=>bO (Aq true 2 a e) λl=>bP (Ba1 145 [l] a) λm=>bO (D5 .not m) λc=>bG c false λt=>gO t (some a1) λn=>bG c false λu=>gO u (Ar .lss n (I 0)) λo=>bO (A0 c (B true) o) λd=>bG d false λp=>gO p (some a2) λg=>bG d false λq=>gO q (Ar .lss g (I 0)) λh=>bO (A0 d (B true) h) λb=>bG b false λr=>gO r (some a2) λi=>bG b false λs=>gO s (Ar .gtr i (I 4096)) λj=>bO (A0 b (B true) j) λk=>bB k λf=>bI f (K Ad a) (Ip a1 a2 e Ad (I 0) a K)
theorem Rj {a0 a1 a2 H K}(h:KC a0 a1 a2 H K):BQ 73 [a0,a1,a2] H K:=fok A8 GF Iq func73 h
def Qi:Nat->Option (List Bool):=BI [(11,mk 50 0 [4,8]),(7,mk 50 0 [1,2,3,4,8,10])]
def Lv (p:List Bool)(n:Nat):List AV->AH->Kf->Prop:=AR prog A8 GF Aw Aw Qi (sub p (AK f170)) n
def FJ:T10:=λa b H K=>jn (mk 50 0 [4,8]) (Lv (pbZ 63) 13) [a,b] H (AN prog f170.results.toList K)
def Qh:T20:=λa c d e f b H K=>lp (mk 50 0 [1,2,3,4,8,10]) (Lv (pbZ 151) 8) [a,c,d,e,f,b] H (AP 0 (AO (Lv (pbZ 31) 11) (AN prog f170.results.toList K)))
def M0:T10:=λe b H K=>bO (Aq true 2 H e) λc=>bS (AU 2 H b c) λa=>bO (Aq true 2 a b) λd=>K (.tup [d,(B true)]) a
theorem V3 (a b:AV)(H:AH)(K:KT):FJ a b H K=M0 a b H K:=(Bi _ _ _ _ _).trans (by kernel_rfl)
def N9:T19:=λi b d f a e c H K=>bO (Ar .add b d) λl=>bO (Ar .sub l (I 1)) λm=>bO (Ar .quo m (I 8)) λs=>bO (Ar .leq c s) λt=>bB t λj=>bI j (bC (Ba0 202 [a,c] H) λw h=>bO (Ar .add c (I 1)) λu=>i [b,d,f,a,e,u] h) (bO (D5 .not f) λv=>bB v λk=>bI k (bO (Ab 0 a) λn=>bO (Aq false 1 H n) λo=>bO (Ar .add b d) λp=>bO (amm jF [o,p]) λq=>bO (Ab 0 a) λr=>bS (AU 1 H r q) λg=>FJ a e g K) (FJ a e H K))
theorem Uq {K:KT}:Aai (λR a c d e f b H=>N9 R a c d e f b H K) (λa c d e f b H=>Qh a c d e f b H K):=sE (A3 _ _) (λ_ _ _ _ _ _ _ _=>by kernel_rfl)
def VZ:T13:=λa0 a1 a2 j H K=>bH (AE H a0) λc g=>bH (AE g (.agg [(I 0),Ad])) λe a=>bO (Aq true 2 a c) λw=>bP (Ba1 54 [w] a) λx=>bO (D5 .not x) λb=>bG b false λE=>gO E (some a1) λy=>bG b false λF=>gO F (some a2) λl=>bG b false λz=>gP z (Ba1 201 [y,l] a) λm=>bG b false λA=>gO A (D5 .not m) λn=>bO (A0 b (B true) n) λd=>bG d false λC=>gO C (some a2) λo=>bG d false λD=>gO D (Ar .gtr o (I 32768)) λp=>bO (A0 d (B true) p) λq=>bB q λk=>bI k (bO (Dy [(I 0),Ad] []) λr=>bS (AU 2 a e r) λf=>bO (Aq true 2 f e) λs=>K (.tup [s,(B false)]) f) (bO (Aq true 2 a c) λt=>bC (Ba0 103 [t] a) λu h=>bS (AU 2 h c u) λi=>bO (Ar .quo a1 (I 8)) λv=>Qh a1 a2 j c e v i K)
theorem aT {a0 a1 a2 a H K}(h:VZ a0 a1 a2 a H K):BQ 170 [a0,a1,a2,a] H K:=fok A8 GF Qi func170 h
def Qk:Nat->Option (List Bool):=BI [(9,mk 45 0 [2,3,4,30,31])]
def SD (p:List Bool)(n:Nat):List AV->AH->Kf->Prop:=AR prog A8 GF Aw Aw Qk (sub p (AK f50)) n
def Qj:T14:=λa b e c d H K=>lp (mk 45 0 [2,3,4,30,31]) (SD (pbZ 607) 10) [a,b,e,c,d] H (AP 0 (AO (SD (pbZ 127) 14) (AN prog f50.results.toList K)))
def NA:T17:=λh a b d f c H K=>bO (Ar .lss c f) λj=>bB j λi=>bI i (bO (Ab 1 a) λn=>bO (Aq false 1 H n) λo=>bO (AY 9 o c) λp=>bO (Aq false 1 H b) λq=>bO (Aq false 1 H b) λr=>bO (Ar .sub (I 1099511627776) r) λs=>bO (Dy [(I 0),(I 0)] [(0,1,q),(1,1,s)]) λt=>bC (Ba0 106 [p,t] H) λu g=>bO (Ar .add c (I 1)) λk=>h [a,b,d,f,k] g) (bO (Aq true 2 H a) λl=>bS (AU 2 H d l) λe=>bO (Aq true 2 e d) λm=>K (.tup [m,(B true)]) e)
theorem Uu {K:KT}:xP (λR a b e c d H=>NA R a b e c d H K) (λa b e c d H=>Qj a b e c d H K):=bM (A3 _ _) (λ_ _ _ _ _ _ _=>by kernel_rfl)
def Wd:T10:=λa0 a1 H K=>bH (AE H a0) λa k=>bH (AE k a1) λc m=>bH (AE m (.agg [(I 0),Ad])) λe b=>bO (Aq true 2 b a) λL=>bP (Ba1 54 [L] b) λM=>bO (D5 .not M) λf=>bG f false λQ=>gO Q (Aq false 1 b c) λp=>bG f false λN=>gO N (Ar .lss p (I 0)) λq=>bO (A0 f (B true) q) λd=>bG d false λO=>gO O (Aq false 1 b c) λr=>bG d false λP=>gO P (Ar .gtr r (I 1099511627776)) λs=>bO (A0 d (B true) s) λt=>bB t λo=>bI o (bO (Dy [(I 0),Ad] []) λu=>bS (AU 2 b e u) λg=>bO (Aq true 2 g e) λv=>K (.tup [v,(B false)]) g) (bO (Aq true 2 b a) λw=>bC (Ba0 103 [w] b) λx l=>bS (AU 2 l a x) λh=>bO (Aq false 1 h c) λy=>bO (Ab 0 a) λz=>bS (AU 1 h z y) λi=>bO (Ab 1 a) λA=>bO (Aq false 1 i A) λC=>bC (Ba0 104 [C,(.fn (.func 105) [] [c])] i) λD n=>bO (Ab 1 a) λE=>bS (AU 1 n E D) λj=>bO (Ab 1 a) λF=>bO (Aq false 1 j F) λG=>bO (AW G) λJ=>Qj a c e J (I 0) j K)
theorem aW {a0 a1 H K}(h:Wd a0 a1 H K):BQ 50 [a0,a1] H K:=fok A8 GF Qk func50 h
def Wc:Nat->Option (List Bool):=BI [(9,mk 44 0 [3,6,8,32,33])]
def XC (p:List Bool)(n:Nat):List AV->AH->Kf->Prop:=AR prog A8 GF Aw Aw Wc (sub p (AK f172)) n
def Wb:T14:=λa d e b c H K=>lp (mk 44 0 [3,6,8,32,33]) (XC (pbZ 607) 10) [a,d,e,b,c] H (AP 0 (AO (XC (pbZ 127) 14) (AN prog f172.results.toList K)))
def SA:T17:=λh a c f e b H K=>bO (Ar .lss b e) λj=>bB j λi=>bI i (bO (Ab 1 a) λl=>bO (Aq false 1 H l) λm=>bO (AY 9 m b) λn=>bO (Aq true 2 H f) λo=>bC (Ba0 106 [n,o] H) λr g=>bO (Ar .add b (I 1)) λp=>h [a,c,f,e,p] g) (bO (Aq true 2 H a) λq=>bS (AU 2 H c q) λd=>bO (Aq true 2 d c) λk=>K (.tup [k,(B true)]) d)
theorem XB {K:KT}:xP (λR a d e b c H=>SA R a d e b c H K) (λa d e b c H=>Wb a d e b c H K):=bM (A3 _ _) (λ_ _ _ _ _ _ _=>by kernel_rfl)
def dU:T11:=λa0 a1 a2 H K=>bH (AE H a0) λa i=>bH (AE i (.agg [(I 0),Ad])) λd b=>bO (Aq true 2 b a) λF=>bP (Ba1 54 [F] b) λG=>bO (D5 .not G) λc=>bG c false λN=>gO N (some a1) λJ=>bG c false λO=>gO O (some a2) λo=>bG c false λL=>gP L (Ba1 201 [J,o] b) λp=>bG c false λM=>gO M (D5 .not p) λq=>bO (A0 c (B true) q) λr=>bB r λn=>bI n (bO (Dy [(I 0),Ad] []) λs=>bS (AU 2 b d s) λf=>bO (Aq true 2 f d) λt=>K (.tup [t,(B false)]) f) (bO (Aq true 2 b a) λu=>bC (Ba0 103 [u] b) λv j=>bS (AU 2 j a v) λk=>bO (Dy [(I 0),(I 0)] [(0,1,a1),(1,1,a2)]) λw=>bH (AE k (.agg [(I 0),(I 0)])) λe l=>bS (AU 2 l e w) λg=>bO (Ab 1 a) λx=>bO (Aq false 1 g x) λy=>bC (Ba0 104 [y,(.fn (.func 203) [] [e])] g) λz m=>bO (Ab 1 a) λA=>bS (AU 1 m A z) λh=>bO (Ab 1 a) λC=>bO (Aq false 1 h C) λD=>bO (AW D) λE=>Wb a d e E (I 0) h K)
theorem mB {a0 a1 a2 H K}(h:dU a0 a1 a2 H K):BQ 172 [a0,a1,a2] H K:=fok A8 GF Wc func172 h
def Gh:Nat->Option (List Bool):=BI [(19,mk 62 0 [1,2,4,6,7,8,9]),(16,mk 62 0 [1,2,4,6,7,8,9]),(10,mk 62 0 [1,2,4,6,7]),(7,mk 62 0 [1,2,4,6,7])]
def AX (p:List Bool)(n:Nat):List AV->AH->Kf->Prop:=AR prog A8 GF Aw Aw Gh (sub p (AK f141)) n
def CG:T17:=λa b c d e f H K=>jn (mk 62 0 [1,2,4,6,7]) (AX (pbZ 919) 21) [b,c,d,e,f] H (M1 (mk 62 0 [1,2,4,6,7]) a (AP 0 (AO (AX (pbZ 31) 21) (AN prog f141.results.toList K))))
def CH:T25:=λa b c d e f g h i H K=>jn (mk 62 0 [1,2,4,6,7,8,9]) (AX (pbZ 470167) 21) [c,d,e,f,g,h,i] H (M1 (mk 62 0 [1,2,4,6,7,8,9]) a (AP 2 (AO (AX (pbZ 15511) 21) (AP 1 (AO (De (mk 62 0 [1,2,4,6,7]) (AX (pbZ 919) 21)) (M1 (mk 62 0 [1,2,4,6,7]) b (AP 0 (AO (AX (pbZ 31) 21) (AN prog f141.results.toList K)))))))))
def FG:T24:=λa b c d e f g h H K=>lp (mk 62 0 [1,2,4,6,7,8,9]) (AX (pbZ 76951) 17) [b,c,d,e,f,g,h] H (AP 2 (AO (AX (pbZ 15511) 21) (AP 1 (AO (De (mk 62 0 [1,2,4,6,7]) (AX (pbZ 919) 21)) (M1 (mk 62 0 [1,2,4,6,7]) a (AP 0 (AO (AX (pbZ 31) 21) (AN prog f141.results.toList K))))))))
def Gg:T14:=λa b c d e H K=>lp (mk 62 0 [1,2,4,6,7]) (AX (pbZ 151) 8) [a,b,c,d,e] H (AP 0 (AO (AX (pbZ 31) 21) (AN prog f141.results.toList K)))
def Ff:T17:=λa c d e f g H K=>bO (Ar .add g (I 1)) λb=>a [c,d,e,f,b] H
theorem Ke (a:RT)(b c d e f:AV)(H:AH)(K:KT):CG a b c d e f H K=Ff a b c d e f H K:=(Bi _ _ _ _ _).trans (by kernel_rfl)
def Fg:T25:=λa j c d e f g h i H K=>bO (Ar .add i (I 1)) λb=>a [c,d,e,f,g,h,b] H
theorem Kg (a:RT)(b:RT)(c d e f g h i:AV)(H:AH)(K:KT):CH a b c d e f g h i H K=Fg a b c d e f g h i H K:=(Bi _ _ _ _ _).trans (by kernel_rfl)
def Fh:T25:=λe i d f g a h b c H K=>bO (Ar .lss c (I 8)) λp=>bB p λn=>bI n (bO (Ab 0 b) λw=>bO (Aq false 1 H w) λx=>bO (Ar .mul x (I 8)) λy=>bO (Ar .add y c) λz=>bO (Ar .geq z d) λA=>bB A λo=>bI o (bO (Ab 1 b) λB=>bO (W7 8 1 B c) λC=>bS (AU 1 H C u0Z) λj=>CH i e d f g a h b c j K) (CH i e d f g a h b c H K)) (bO (Ab 1 a) λq=>bO (Aq false 1 H q) λr=>bO (Aq true 9 H b) λs=>bH (Co H 9 1 (Bx [(I 0),u0Z,u0Z,u0Z,u0Z,u0Z,u0Z,u0Z,u0Z] 1) [(0,9,s)]) λt k=>bH (Gt 9 16 k r t) λu l=>bO (Ab 1 a) λv=>bS (AU 1 l v u) λm=>CG e d f g a h m K)
theorem Jl (h:RT){K:KT}:Aaq (λR a b c d e f g H=>Fh h R a b c d e f g H K) (λa b c d e f g H=>FG h a b c d e f g H K):=Acq (A3 _ _) (λ_ _ _ _ _ _ _ _ _=>by kernel_rfl)
def Fz:T17:=λi f a b g c H K=>bO (Ab 1 a) λm=>bO (Aq false 1 H m) λn=>bO (AW n) λu=>bO (Ar .lss c u) λv=>bB v λl=>bI l (bO (Ab 1 a) λw=>bO (Aq false 1 H w) λx=>bO (AY 9 x c) λy=>bO (Aq true 9 H y) λz=>bH (AE H (.agg [(I 0),u0Z,u0Z,u0Z,u0Z,u0Z,u0Z,u0Z,u0Z])) λe j=>bS (AU 9 j e z) λd=>bO (Ab 0 e) λo=>bO (Aq false 1 d o) λp=>bO (Ar .mul p (I 8)) λq=>bO (Ar .geq q f) λr=>bB r λk=>bI k (CG i f a b g c d K) (FG i f a b g c e (I 0) d K)) (bO (Aq true 2 H g) λs=>bS (AU 2 H b s) λh=>bO (Aq true 2 h b) λt=>K (.tup [t,(B true)]) h)
theorem J7 {K:KT}:xP (λR a b c d e H=>Fz R a b c d e H K) (λa b c d e H=>Gg a b c d e H K):=bM (A3 _ _) (λ_ _ _ _ _ _ _=>by kernel_rfl)
def HM:T10:=λa0 a1 H K=>bH (AE H a0) λf h=>bH (AE h (.agg [(I 0),Ad])) λc a=>bO (Aq true 2 a f) λs=>bP (Ba1 145 [s] a) λt=>bO (D5 .not t) λd=>bG d false λx=>gO x (some a1) λu=>bG d false λy=>gO y (Ar .lss u (I 0)) λl=>bO (A0 d (B true) l) λb=>bG b false λv=>gO v (some a1) λm=>bG b false λw=>gO w (Ar .gtr m (I 1099511627776)) λn=>bO (A0 b (B true) n) λo=>bB o λk=>bI k (bO (Dy [(I 0),Ad] []) λp=>bS (AU 2 a c p) λe=>bO (Aq true 2 e c) λq=>K (.tup [q,(B false)]) e) (bO (Dy [(I 0),Ad] [(0,1,a1)]) λr=>bH (AE a (.agg [(I 0),Ad])) λg i=>bS (AU 2 i g r) λj=>Gg a1 f c g (I 0) j K)
theorem Nt {a0 a1 H K}(h:HM a0 a1 H K):BQ 141 [a0,a1] H K:=fok A8 GF Gh func141 h
def FV:Nat->Option (List Bool):=BI [(11,mk 57 0 [4,8]),(7,mk 57 0 [1,2,3,4,8,10])]
def Ed (p:List Bool)(n:Nat):List AV->AH->Kf->Prop:=AR prog A8 GF Aw Aw FV (sub p (AK f171)) n
def CF:T10:=λa b H K=>jn (mk 57 0 [4,8]) (Ed (pbZ 63) 13) [a,b] H (AN prog f171.results.toList K)
def FU:T20:=λa c d e f b H K=>lp (mk 57 0 [1,2,3,4,8,10]) (Ed (pbZ 151) 8) [a,c,d,e,f,b] H (AP 0 (AO (Ed (pbZ 31) 11) (AN prog f171.results.toList K)))
def Fe:T10:=λe b H K=>bO (Aq true 2 H e) λc=>bS (AU 2 H b c) λa=>bO (Aq true 2 a b) λd=>K (.tup [d,(B true)]) a
theorem Kd (a b:AV)(H:AH)(K:KT):CF a b H K=Fe a b H K:=(Bi _ _ _ _ _).trans (by kernel_rfl)
def Fy:T19:=λi b d f a e c H K=>bO (Ar .mul c (I 8)) λl=>bO (Ar .add b d) λm=>bO (Ar .lss l m) λr=>bB r λj=>bI j (bC (Ba0 183 [a,c] H) λv h=>bO (Ar .add c (I 1)) λs=>i [b,d,f,a,e,s] h) (bO (D5 .not f) λt=>bB t λk=>bI k (bO (Ab 0 a) λu=>bO (Aq false 1 H u) λn=>bO (Ar .add b d) λo=>bO (amm jF [n,o]) λp=>bO (Ab 0 a) λq=>bS (AU 1 H q p) λg=>CF a e g K) (CF a e H K))
theorem Jw {K:KT}:Aai (λR a c d e f b H=>Fy R a c d e f b H K) (λa c d e f b H=>FU a c d e f b H K):=sE (A3 _ _) (λ_ _ _ _ _ _ _ _=>by kernel_rfl)
def Hy:T13:=λa0 a1 a2 l H K=>bH (AE H a0) λc i=>bH (AE i (.agg [(I 0),Ad])) λf a=>bO (Aq true 2 a c) λD=>bP (Ba1 145 [D] a) λE=>bO (D5 .not E) λg=>bG g false λR=>gO R (some a1) λF=>bG g false λS=>gO S (Ar .lss F (I 0)) λn=>bO (A0 g (B true) n) λd=>bG d false λG=>gO G (some a2) λo=>bG d false λJ=>gO J (Ar .lss o (I 1)) λp=>bO (A0 d (B true) p) λe=>bG e false λL=>gO L (some a2) λq=>bG e false λM=>gO M (Ar .gtr q (I 32768)) λr=>bO (A0 e (B true) r) λb=>bG b false λN=>gO N (some a1) λs=>bG b false λO=>gO O (some a2) λt=>bG b false λP=>gO P (Ar .sub (I 1099511627776) t) λu=>bG b false λQ=>gO Q (Ar .gtr s u) λv=>bO (A0 b (B true) v) λw=>bB w λm=>bI m (bO (Dy [(I 0),Ad] []) λx=>bS (AU 2 a f x) λh=>bO (Aq true 2 h f) λy=>K (.tup [y,(B false)]) h) (bO (Aq true 2 a c) λz=>bC (Ba0 140 [z] a) λA j=>bS (AU 2 j c A) λk=>bO (Ar .quo a1 (I 8)) λC=>FU a1 a2 l c f C k K)
theorem Np {a0 a1 a2 a H K}(h:Hy a0 a1 a2 a H K):BQ 171 [a0,a1,a2,a] H K:=fok A8 GF FV func171 h
def HC:Nat->Option (List Bool):=BI [(10,mk 84 0 [1,2,3,6,8,9]),(18,mk 84 0 [1,2,3,6,8,9,10,11,12]),(15,mk 84 0 [1,2,3,6,8,9,10,11,12]),(7,mk 84 0 [1,2,3,6,8,9])]
def Bc (p:List Bool)(n:Nat):List AV->AH->Kf->Prop:=AR prog A8 GF Aw Aw HC (sub p (AK f173)) n
def Du:T28:=λa b c g h i j k d e f H K=>jn (mk 84 0 [1,2,3,6,8,9,10,11,12]) (Bc (pbZ 470167) 22) [c,g,h,i,j,k,d,e,f] H (M1 (mk 84 0 [1,2,3,6,8,9,10,11,12]) a (AP 2 (AO (Bc (pbZ 15511) 22) (AP 1 (AO (De (mk 84 0 [1,2,3,6,8,9]) (Bc (pbZ 919) 23)) (M1 (mk 84 0 [1,2,3,6,8,9]) b (AP 0 (AO (Bc (pbZ 31) 23) (AN prog f173.results.toList K)))))))))
def Dt:T19:=λa b c d e f g H K=>jn (mk 84 0 [1,2,3,6,8,9]) (Bc (pbZ 919) 23) [b,c,d,e,f,g] H (M1 (mk 84 0 [1,2,3,6,8,9]) a (AP 0 (AO (Bc (pbZ 31) 23) (AN prog f173.results.toList K))))
def GV:T29:=λa b f g h i j c d e H K=>lp (mk 84 0 [1,2,3,6,8,9,10,11,12]) (Bc (pbZ 76951) 16) [b,f,g,h,i,j,c,d,e] H (AP 2 (AO (Bc (pbZ 15511) 22) (AP 1 (AO (De (mk 84 0 [1,2,3,6,8,9]) (Bc (pbZ 919) 23)) (M1 (mk 84 0 [1,2,3,6,8,9]) a (AP 0 (AO (Bc (pbZ 31) 23) (AN prog f173.results.toList K))))))))
def HA:T20:=λa b c d e f H K=>lp (mk 84 0 [1,2,3,6,8,9]) (Bc (pbZ 151) 8) [a,b,c,d,e,f] H (AP 0 (AO (Bc (pbZ 31) 23) (AN prog f173.results.toList K)))
def FY:T28:=λa l c g h i j k d e f H K=>bO (Ar .add f (I 1)) λb=>a [c,g,h,i,j,k,d,e,b] H
theorem Mq (a:RT)(b:RT)(c g h i j k d e f:AV)(H:AH)(K:KT):Du a b c g h i j k d e f H K=FY a b c g h i j k d e f H K:=(Bi _ _ _ _ _).trans (by kernel_rfl)
def FX:T19:=λa c d e f g h H K=>bO (Ar .add h (I 1)) λb=>a [c,d,e,f,g,b] H
theorem Mp (a:RT)(b c d e f g:AV)(H:AH)(K:KT):Dt a b c d e f g H K=FX a b c d e f g H K:=(Bi _ _ _ _ _).trans (by kernel_rfl)
def Ga:T28:=λg l b f h i c j d k e H K=>bO (Ar .lss e (I 8)) λu=>bB u λr=>bI r (bO (Ab 0 d) λC=>bO (Aq false 1 H C) λN=>bO (Ar .mul N (I 8)) λQ=>bO (Ar .add Q e) λm=>bO (Ar .geq m b) λa=>bG a true λV=>gO V (some m) λR=>bG a true λW=>gO W (some b) λv=>bG a true λS=>gO S (some f) λw=>bG a true λT=>gO T (Ar .add v w) λx=>bG a true λU=>gO U (Ar .lss R x) λy=>bO (A0 a y (B false)) λz=>bB z λs=>bI s (bO (Ab 1 d) λA=>bO (W7 8 1 A e) λD=>bS (AU 1 H D u0Z) λn=>bO (Ar .add k (I 1)) λE=>Du l g b f h i c j d E e n K) (Du l g b f h i c j d k e H K)) (bO (Ar .lss k (I 8)) λF=>bB F λt=>bI t (bO (Ab 1 c) λG=>bO (Aq false 1 H G) λJ=>bO (Aq true 9 H d) λL=>bH (Co H 9 1 (Bx [(I 0),u0Z,u0Z,u0Z,u0Z,u0Z,u0Z,u0Z,u0Z] 1) [(0,9,L)]) λM o=>bH (Gt 9 16 o J M) λO p=>bO (Ab 1 c) λP=>bS (AU 1 p P O) λq=>Dt g b f h i c j q K) (Dt g b f h i c j H K))
theorem Lm (j:RT){K:KT}:RL9 (λR a e f g h i b c d H=>Ga j R a e f g h i b c d H K) (λa e f g h i b c d H=>GV j a e f g h i b c d H K):=Anv (A3 _ _) (λ_ _ _ _ _ _ _ _ _ _ _=>by kernel_rfl)
def G8:T19:=λi u v a b f c H K=>bO (Ab 1 a) λk=>bO (Aq false 1 H k) λl=>bO (AW l) λo=>bO (Ar .lss c o) λp=>bB p λj=>bI j (bO (Ab 1 a) λq=>bO (Aq false 1 H q) λr=>bO (AY 9 r c) λs=>bO (Aq true 9 H s) λt=>bH (AE H (.agg [(I 0),u0Z,u0Z,u0Z,u0Z,u0Z,u0Z,u0Z,u0Z])) λe g=>bS (AU 9 g e t) λh=>GV i u v a b f c e (I 0) (I 0) h K) (bO (Aq true 2 H f) λm=>bS (AU 2 H b m) λd=>bO (Aq true 2 d b) λn=>K (.tup [n,(B true)]) d)
theorem LI {K:KT}:Aai (λR a b c d e f H=>G8 R a b c d e f H K) (λa b c d e f H=>HA a b c d e f H K):=sE (A3 _ _) (λ_ _ _ _ _ _ _ _=>by kernel_rfl)
def J1:T11:=λa0 a1 a2 H K=>bH (AE H a0) λc j=>bH (AE j (.agg [(I 0),Ad])) λf a=>bO (Aq true 2 a c) λD=>bP (Ba1 145 [D] a) λE=>bO (D5 .not E) λg=>bG g false λR=>gO R (some a1) λF=>bG g false λS=>gO S (Ar .lss F (I 0)) λn=>bO (A0 g (B true) n) λd=>bG d false λG=>gO G (some a2) λo=>bG d false λJ=>gO J (Ar .lss o (I 1)) λp=>bO (A0 d (B true) p) λe=>bG e false λL=>gO L (some a2) λq=>bG e false λM=>gO M (Ar .gtr q (I 1099511627776)) λr=>bO (A0 e (B true) r) λb=>bG b false λN=>gO N (some a1) λs=>bG b false λO=>gO O (some a2) λt=>bG b false λP=>gO P (Ar .sub (I 1099511627776) t) λu=>bG b false λQ=>gO Q (Ar .gtr s u) λv=>bO (A0 b (B true) v) λw=>bB w λm=>bI m (bO (Dy [(I 0),Ad] []) λx=>bS (AU 2 a f x) λh=>bO (Aq true 2 h f) λy=>K (.tup [y,(B false)]) h) (bO (Ab 0 c) λz=>bO (Aq false 1 a z) λA=>bO (Dy [(I 0),Ad] [(0,1,A)]) λC=>bH (AE a (.agg [(I 0),Ad])) λi k=>bS (AU 2 k i C) λl=>HA a1 a2 c f i (I 0) l K)
theorem PH {a0 a1 a2 H K}(h:J1 a0 a1 a2 H K):BQ 173 [a0,a1,a2] H K:=fok A8 GF HC func173 h
def kT:T10:=λa0 a1 H K=>bO (Ar .geq a0 (I 0)) λb=>bG b true λj=>gO j (some a1) λf=>bG b true λm=>gO m (Ar .leq f (I 4096)) λg=>bO (A0 b g (B false)) λa=>bG a true λn=>gO n (some a0) λh=>bG a true λo=>gO o (some a1) λi=>bG a true λk=>gO k (Ar .sub (I 1099511627776) i) λc=>bG a true λl=>gO l (Ar .leq h c) λd=>bO (A0 a d (B false)) λe=>K e H
theorem oT {a0 a1 H K}(h:kT a0 a1 H K):BQ 98 [a0,a1] H K:=fok A8 GF B7 func98 h
def iU:Dd:=NB [(1,[(1,some 4)])]
def ZN:T12:=λa0 H K=>bH (AE H a0) λd h=>bH (AE h (.agg [(I 0),Ad])) λe a=>bO (Ab 0 d) λf=>bO (Aq false 1 a f) λg=>bO (Ab 1 d) λk=>bO (Aq false 1 a k) λl=>bC (Ba0 95 [l] a) λm c=>bO (Dy [(I 0),Ad] [(0,1,g),(1,1,m)]) λi=>bS (AU 2 c e i) λb=>(Aq false 1 c f=some g)/\ bO (Aq true 2 b e) λj=>K j b
theorem iV {a0 H K}(h:ZN a0 H K):BQ 103 [a0] H K:=fok iU GF B7 func103 h
def fG:Nat->Option (List Bool):=BI [(6,mk 48 0 [1,2,5])]
def lK (p:List Bool)(n:Nat):List AV->AH->Kf->Prop:=AR prog A8 GF Aw Aw fG (sub p (AK f99)) n
def fD:T11:=λa b c H K=>lp (mk 48 0 [1,2,5]) (lK (pbZ 71) 7) [a,b,c] H (AP 0 (AO (lK (pbZ 31) 11) (AN prog f99.results.toList K)))
def Yg:T18:=λh d a e H K=>bO (Ab 1 a) λj=>bO (Aq false 1 H j) λk=>bO (Ar .gtr k (I 0)) λs=>bB s λi=>bI i (bO (Ab 1 a) λy=>bO (Aq false 1 H y) λz=>bO (Ab 0 a) λA=>bO (Aq false 1 H A) λB=>bO (Ar .rem B d) λC=>bO (Ar .sub d C) λD=>bO (amm gZ [z,D]) λc=>bO (Ab 0 a) λl=>bO (Aq false 1 H l) λm=>bO (Dy [(I 0),(I 0)] [(0,1,m),(1,1,c)]) λn=>bH (Co H 2 1 (Bx [(I 0),(I 0)] 1) [(0,2,n)]) λo f=>bH (Gt 2 16 f e o) λp b=>bO (Ab 0 a) λq=>bO (Aq false 1 b q) λr=>bO (Ar .add r c) λt=>bO (Ab 1 a) λu=>bO (Aq false 1 b u) λv=>bO (Ar .sub v c) λw=>bO (Dy [(I 0),(I 0)] [(0,1,t),(1,1,w)]) λx=>bS (AU 2 b a x) λg=>h [d,a,p] g) (K e H)
theorem fE {K:KT}:rC (λR a b c H=>Yg R a b c H K) (λa b c H=>fD a b c H K):=T6 (A3 _ _) (λ_ _ _ _ _=>by kernel_rfl)
def uD:T10:=λa0 a1 H K=>bH (AE H a0) λc a=>bO (Aq true 2 a c) λj=>bP (Ba1 111 [j] a) λk=>bO (D5 .not k) λb=>bG b false λp=>gO p (Ab 1 c) λl=>bG b false λq=>gO q (Aq false 1 a l) λm=>bG b false λr=>gO r (Ar .gtr m (I 4096)) λf=>bO (A0 b (B true) f) λd=>bG d false λn=>gO n (some a1) λg=>bG d false λo=>gO o (Ar .lss g (I 1)) λh=>bO (A0 d (B true) h) λi=>bB i λe=>bI e (K Ad a) (fD a1 c Ad a K)
theorem wN {a0 a1 H K}(h:uD a0 a1 H K):BQ 99 [a0,a1] H K:=fok A8 GF fG func99 h
def XL:Nat->Option (List Bool):=BI [(2,mk 31 0 [5])]
def rU (p:List Bool)(n:Nat):List AV->AH->Kf->Prop:=AR prog A8 GF Aw Aw XL (sub p (AK f202)) n
def Qm:T12:=λa H K=>jn (mk 31 0 [5]) (rU (pbZ 15) 4) [a] H (AN prog f202.results.toList K)
def Nh:T12:=λa H K=>K a H
theorem SG (a:AV)(H:AH)(K:KT):Qm a H K=Nh a H K:=(Bi _ _ _ _ _).trans (by kernel_rfl)
def kW:T10:=λa0 a1 H K=>bO (Aj a0) λg=>bO (Ab 1 g) λh=>bO (Aq false 1 H h) λo=>bP (Ba1 208 [o,a1] H) λb=>bO (Ak b 0) λa=>bO (Ak b 1) λp=>bO (D5 .not p) λq=>bB q λf=>bI f (bO (Aj a0) λr=>bO (Ab 1 r) λs=>bO (Aq false 1 H s) λi=>bO (Dy [(I 0),u0Z,u0Z,u0Z,u0Z,u0Z,u0Z,u0Z,u0Z] [(0,1,a1)]) λj=>bH (Co H 9 1 (Bx [(I 0),u0Z,u0Z,u0Z,u0Z,u0Z,u0Z,u0Z,u0Z] 1) [(0,9,j)]) λk c=>bC (Ba0 222 [i,a,k] c) λl d=>bO (Aj a0) λm=>bO (Ab 1 m) λn=>bS (AU 1 d n l) λe=>Qm a e K) (Qm a H K)
theorem oZ {a0 a1 H K}(h:kW a0 a1 H K):BQ 202 [a0,a1] H K:=fok A8 GF XL func202 h
def dY:T10:=λa0 a1 H K=>bP (Ba1 223 [a0,a1,(.fn (.func 224) [] [])] H) λa=>bO (Ak a 0) λb=>bO (Ak a 1) λc=>K (.tup [b,c]) H
theorem mE {a0 a1 H K}(h:dY a0 a1 H K):BQ 208 [a0,a1] H K:=fok A8 GF B7 func208 h
def Ago:T10:=λa0 a1 H K=>bH (AE H a0) λc k=>bH (AE k a1) λd l=>bH (AE l (.agg [(I 0),(I 0)])) λb a=>bO (Aq true 2 a c) λS=>bP (Ba1 111 [S] a) λT=>bO (D5 .not T) λe=>bG e false λW=>gO W (Aq true 2 a d) λo=>bG e false λU=>gP U (Ba1 111 [o] a) λp=>bG e false λV=>gO V (D5 .not p) λq=>bO (A0 e (B true) q) λr=>bB r λm=>bI m (bO (Dy [(I 0),(I 0)] []) λs=>bS (AU 2 a b s) λg=>bO (Aq true 2 g b) λt=>K t g) (bO (Ab 0 c) λu=>bO (Aq false 1 a u) λv=>bO (Ab 0 d) λw=>bO (Aq false 1 a w) λx=>bO (amm jF [v,x]) λf=>bO (Ab 0 c) λy=>bO (Aq false 1 a y) λz=>bO (Ab 1 c) λA=>bO (Aq false 1 a A) λC=>bO (Ar .add z C) λD=>bO (Ab 0 d) λE=>bO (Aq false 1 a E) λF=>bO (Ab 1 d) λG=>bO (Aq false 1 a G) λJ=>bO (Ar .add F J) λL=>bO (amm gZ [D,L]) λj=>bO (Ar .geq f j) λM=>bB M λn=>bI n (bO (Dy [(I 0),(I 0)] []) λN=>bS (AU 2 a b N) λh=>bO (Aq true 2 h b) λO=>K O h) (bO (Ar .sub j f) λP=>bO (Dy [(I 0),(I 0)] [(0,1,f),(1,1,P)]) λQ=>bS (AU 2 a b Q) λi=>bO (Aq true 2 i b) λR=>K R i))
theorem Anx {a0 a1 H K}(h:Ago a0 a1 H K):BQ 55 [a0,a1] H K:=fok A8 GF B7 func55 h
def eB:T12:=λa0 H K=>bH (AE H (.agg [(I 0),(I 0)])) λb c=>bO (Ar .mul a0 (I 8)) λd=>bO (Dy [(I 0),(I 0)] [(0,1,d),(1,1,(I 8))]) λe=>bS (AU 2 c b e) λa=>bO (Aq true 2 a b) λf=>K f a
theorem mF {a0 H K}(h:eB a0 H K):BQ 56 [a0] H K:=fok A8 GF B7 func56 h
def Wg:Nat->Option (List Bool):=BI [(3,mk 25 0 [1,2,8,9])]
def XJ (p:List Bool)(n:Nat):List AV->AH->Kf->Prop:=AR prog A8 GF Aw Aw Wg (sub p (AK f110)) n
def Wf:T13:=λa b c d H K=>lp (mk 25 0 [1,2,8,9]) (XJ (pbZ 37) 4) [a,b,c,d] H (AP 0 (AO (XJ (pbZ 7) 10) (AN prog f110.results.toList K)))
def SF:T15:=λf c d e b H K=>bO (Ar .lss b (I 8)) λi=>bB i λg=>bI g (bO (Aca false 1 8 1 e b) λo=>bO (Ar .neq o u0Z) λa=>bG a true λx=>gO x (Ab 0 d) λq=>bG a true λy=>gO y (Aq false 1 H q) λr=>bG a true λz=>gO z (Ar .mul r (I 8)) λs=>bG a true λt=>gO t (some b) λj=>bG a true λu=>gO u (Ar .add s j) λk=>bG a true λv=>gO v (some c) λl=>bG a true λw=>gO w (Ar .geq k l) λm=>bO (A0 a m (B false)) λn=>bB n λh=>bI h (K (B false) H) (bO (Ar .add b (I 1)) λp=>f [c,d,e,p] H)) (K (B true) H)
theorem XI {K:KT}:rD (λR a b c d H=>SF R a b c d H K) (λa b c d H=>Wf a b c d H K):=T7 (A3 _ _) (λ_ _ _ _ _ _=>by kernel_rfl)
def dX:T10:=λa0 a1 H K=>bH (AE H a0) λb a=>bO (Ab 1 b) λc=>bO (Aq true 8 a c) λd=>Wf a1 b d (I 0) a K
theorem mD {a0 a1 H K}(h:dX a0 a1 H K):BQ 110 [a0,a1] H K:=fok A8 GF Wg func110 h
def WV:Dd:=NB [(1,[(1,some 4)])]
def Rt:T12:=λa0 H K=>bH (AE H a0) λd h=>bH (AE h (.agg [(I 0),Ad])) λe a=>bO (Ab 0 d) λf=>bO (Aq false 1 a f) λg=>bO (Ab 1 d) λk=>bO (Aq false 1 a k) λl=>bH (Gt 9 16 a Ad l) λm c=>bO (Dy [(I 0),Ad] [(0,1,g),(1,1,m)]) λi=>bS (AU 2 c e i) λb=>(Aq false 1 c f=some g)/\ bO (Aq true 2 b e) λj=>K j b
theorem WW {a0 H K}(h:Rt a0 H K):BQ 140 [a0] H K:=fok WV GF B7 func140 h
def Pq:Nat->Option (List Bool):=BI [(3,mk 72 0 [0,1,5])]
def Rw (p:List Bool)(n:Nat):List AV->AH->Kf->Prop:=AR prog A8 GF Aw Aw Pq (sub p (AK f183)) n
def Pp:T11:=λa b c H K=>lp (mk 72 0 [0,1,5]) (Rw (pbZ 35) 4) [a,b,c] H (AP 0 (AO (Rw (pbZ 15) 6) (AN prog f183.results.toList K)))
def MH:T18:=λk d e c H K=>bO (Aj d) λn=>bO (Ab 1 n) λo=>bO (Aq false 1 H o) λu=>bO (AW u) λD=>bO (Ar .lss c D) λb=>bG b true λw5=>gO w5 (some d) λZ=>bG b true λw7=>gO w7 (Aj Z) λv8=>bG b true λw9=>gO w9 (Ab 1 v8) λp=>bG b true λal=>gO al (Aq false 1 H p) λq=>bG b true λam=>gO am (some c) λr=>bG b true λan=>gO an (AY 9 q r) λs=>bG b true λao=>gO ao (Ab 0 s) λt=>bG b true λap=>gO ap (Aq false 1 H t) λv=>bG b true λaq=>gO aq (some e) λw=>bG b true λar=>gO ar (Ar .lss v w) λx=>bO (A0 b x (B false)) λy=>bB y λl=>bI l (bO (Ar .add c (I 1)) λz=>k [d,e,z] H) (bO (Aj d) λA=>bO (Ab 1 A) λC=>bO (Aq false 1 H C) λE=>bO (AW E) λF=>bO (Ar .lss c F) λa=>bG a true λau=>gO au (some d) λG=>bG a true λav=>gO av (Aj G) λJ=>bG a true λaw=>gO aw (Ab 1 J) λL=>bG a true λax=>gO ax (Aq false 1 H L) λM=>bG a true λay=>gO ay (some c) λN=>bG a true λaz=>gO az (AY 9 M N) λO=>bG a true λa0=>gO a0 (Ab 0 O) λP=>bG a true λa1=>gO a1 (Aq false 1 H P) λQ=>bG a true λa2=>gO a2 (some e) λR=>bG a true λa3=>gO a3 (Ar .eql Q R) λS=>bO (A0 a S (B false)) λT=>bB T λm=>bI m (K c H) (bO (Aj d) λU=>bO (Ab 1 U) λV=>bO (Aq false 1 H V) λW=>bO (Bq 9 W none (some c) none) λX=>bH (Gt 9 16 H Ad X) λY g=>bO (Dy [(I 0),u0Z,u0Z,u0Z,u0Z,u0Z,u0Z,u0Z,u0Z] [(0,1,e)]) λaa=>bH (Co g 9 1 (Bx [(I 0),u0Z,u0Z,u0Z,u0Z,u0Z,u0Z,u0Z,u0Z] 1) [(0,9,aa)]) λab h=>bH (Gt 9 16 h Y ab) λad f=>bO (Aj d) λae=>bO (Ab 1 ae) λaf=>bO (Aq false 1 f af) λag=>bO (Bq 9 ag (some c) none none) λah=>bH (Gt 9 16 f ad ah) λai i=>bO (Aj d) λaj=>bO (Ab 1 aj) λak=>bS (AU 1 i ak ai) λj=>K c j))
theorem TI {K:KT}:rC (λR a b c H=>MH R a b c H K) (λa b c H=>Pp a b c H K):=T6 (A3 _ _) (λ_ _ _ _ _=>by kernel_rfl)
def UP:T10:=λa0 a1 H K=>Pp a0 a1 (I 0) H K
theorem Zs {a0 a1 H K}(h:UP a0 a1 H K):BQ 183 [a0,a1] H K:=fok A8 GF Pq func183 h
def Pn:Nat->Option (List Bool):=BI [(3,mk 22 0 [1,2,5])]
def Ru (p:List Bool)(n:Nat):List AV->AH->Kf->Prop:=AR prog A8 GF Aw Aw Pn (sub p (AK f144)) n
def Pm:T11:=λa b c H K=>lp (mk 22 0 [1,2,5]) (Ru (pbZ 37) 4) [a,b,c] H (AP 0 (AO (Ru (pbZ 7) 9) (AN prog f144.results.toList K)))
def MG:T18:=λd c b a H K=>bO (Ab 1 b) λg=>bO (Aq false 1 H g) λh=>bO (AW h) λk=>bO (Ar .lss a k) λl=>bB l λf=>bI f (bO (Ab 1 b) λm=>bO (Aq false 1 H m) λn=>bO (AY 9 n a) λo=>bO (Ab 0 o) λp=>bO (Aq false 1 H p) λq=>bO (Ar .eql q c) λi=>bB i λe=>bI e (K a H) (bO (Ar .add a (I 1)) λj=>d [c,b,j] H)) (K (I (-1)) H)
theorem TH {K:KT}:rC (λR a b c H=>MG R a b c H K) (λa b c H=>Pm a b c H K):=T6 (A3 _ _) (λ_ _ _ _ _=>by kernel_rfl)
def UN:T10:=λa0 a1 H K=>bH (AE H a0) λb a=>Pm a1 b (I 0) a K
theorem Zp {a0 a1 H K}(h:UN a0 a1 H K):BQ 144 [a0,a1] H K:=fok A8 GF Pn func144 h
def Yy:T10:=λa0 a1 H K=>bH (AE H a0) λb a=>bO (Aq true 2 a b) λi=>bO (Ar .quo a1 (I 8)) λj=>bP (Ba1 144 [i,j] a) λc=>bO (Ar .lss c (I 0)) λk=>bB k λd=>bI d (K u0Z a) (bO (Ab 1 b) λl=>bO (Aq false 1 a l) λm=>bO (Ar .rem a1 (I 8)) λn=>bO (AY 9 m c) λe=>bO (Ab 1 e) λf=>bO (W7 8 1 f n) λg=>bO (Aq false 1 a g) λh=>K h a)
theorem gI {a0 a1 H K}(h:Yy a0 a1 H K):BQ 146 [a0,a1] H K:=fok A8 GF B7 func146 h
def kX:T10:=λa0 a1 H K=>bO (Ar .geq a0 (I 0)) λb=>bG b true λm=>gO m (some a1) λi=>bG b true λr=>gO r (Ar .geq i (I 1)) λj=>bO (A0 b j (B false)) λc=>bG c true λs=>gO s (some a1) λk=>bG c true λt=>gO t (Ar .leq k (I 1099511627776)) λl=>bO (A0 c l (B false)) λa=>bG a true λn=>gO n (some a0) λd=>bG a true λo=>gO o (some a1) λe=>bG a true λp=>gO p (Ar .sub (I 1099511627776) e) λf=>bG a true λq=>gO q (Ar .leq d f) λg=>bO (A0 a g (B false)) λh=>K h H
theorem pA {a0 a1 H K}(h:kX a0 a1 H K):BQ 201 [a0,a1] H K:=fok A8 GF B7 func201 h
def Et:Nat->Option (List Bool):=BI [(10,mk 42 0 [0,1,5,6]),(7,mk 42 0 [0,1,5,6])]
def Cd (p:List Bool)(n:Nat):List AV->AH->Kf->Prop:=AR prog A8 GF Aw Aw Et (sub p (AK f104)) n
def CO:T15:=λa b c d e H K=>jn (mk 42 0 [0,1,5,6]) (Cd (pbZ 919) 14) [b,c,d,e] H (M1 (mk 42 0 [0,1,5,6]) a (AP 0 (AO (Cd (pbZ 31) 14) (AN prog f104.results.toList K))))
def Es:T13:=λa b c d H K=>lp (mk 42 0 [0,1,5,6]) (Cd (pbZ 151) 8) [a,b,c,d] H (AP 0 (AO (Cd (pbZ 31) 14) (AN prog f104.results.toList K)))
def C7:T15:=λa c d e f H K=>bO (Ar .add f (I 1)) λb=>a [c,d,e,b] H
theorem DI (a:RT)(b c d e:AV)(H:AH)(K:KT):CO a b c d e H K=C7 a b c d e H K:=(Bi _ _ _ _ _).trans (by kernel_rfl)
def DV:T15:=λh a f b c H K=>bO (AW a) λq=>bO (Ar .lss c q) λr=>bB r λp=>bI p (bO (AY 9 a c) λy=>bO (Aq true 9 H y) λz=>bH (AE H (.agg [(I 0),u0Z,u0Z,u0Z,u0Z,u0Z,u0Z,u0Z,u0Z])) λe l=>bS (AU 9 l e z) λg=>bO (Aq true 9 g e) λA=>bF true f λi n m=>bT (Ch prog i||!true)<|bC (Ba0 i (n++[A]++m) g) λB d=>bO (D5 .not B) λs=>bB s λo=>bI o (bO (Aq true 9 d e) λt=>bO (AY 9 a b) λu=>bS (AU 9 d u t) λj=>bO (Ar .add b (I 1)) λv=>CO h a f v c j K) (CO h a f b c d K)) (bO (Bq 9 a (some b) none none) λw=>bS (Aam [(I 0),u0Z,u0Z,u0Z,u0Z,u0Z,u0Z,u0Z,u0Z] H w) λk=>bO (Bq 9 a none (some b) none) λx=>K x k)
theorem GI {K:KT}:rD (λR a b c d H=>DV R a b c d H K) (λa b c d H=>Es a b c d H K):=T7 (A3 _ _) (λ_ _ _ _ _ _=>by kernel_rfl)
def EU:T10:=λa0 a1 H K=>bP (Ba1 167 [a0,a1] H) λa=>bO (Ar .eql a (I (-1))) λc=>bB c λb=>bI b (K a0 H) (bO (Ar .add a (I 1)) λd=>Es a0 a1 a d H K)
theorem IC {a0 a1 H K}(h:EU a0 a1 H K):BQ 104 [a0,a1] H K:=fok A8 GF Et func104 h
def SC:T10:=λa0 a1 H K=>bH (AE H a0) λb a=>bO (Ab 0 b) λc=>bO (Aq false 1 a c) λd=>bO (Ar .mul d (I 8)) λe=>bO (Aq false 1 a a1) λf=>bO (Ar .geq e f) λg=>K g a
theorem XG {a0 a1 H K}(h:SC a0 a1 H K):BQ 105 [a0,a1] H K:=fok A8 GF B7 func105 h
def XP:Dd:=NB [(1,[(3,some 7),(5,some 7)])]
def XR:Nat->Option (List Bool):=BI [(3,mk 33 0 [0,4,14,15])]
def rV (p:List Bool)(n:Nat):List AV->AH->Kf->Prop:=AR prog XP GF Aw Aw XR (sub p (AK f106)) n
def XO:T13:=λa d b c H K=>lp (mk 33 0 [0,4,14,15]) (rV (pbZ 39) 4) [a,d,b,c] H (AP 0 (AN prog f106.results.toList K))
def Uw:T15:=λf a d c b H K=>bO (Ar .lss b c) λh=>bB h λg=>bI g (bO (Ab 0 d) λm=>bO (Aq false 1 H m) λn=>bO (Aj a) λo=>bO (Ab 0 o) λp=>bO (Aq false 1 H p) λq=>bO (Ar .mul q (I 8)) λr=>bO (Ar .sub n r) λs=>bO (Ar .add s b) λt=>bO (Aj a) λi=>bO (Ab 1 i) λj=>bO (W7 8 1 j t) λk=>bS (AU 1 H k u0Z) λe=>bO (Ar .add b (I 1)) λl=>f [a,d,c,l] e) (K (.tup []) H)
theorem Ze {K:KT}:rD (λR a d b c H=>Uw R a d b c H K) (λa d b c H=>XO a d b c H K):=T7 (A3 _ _) (λ_ _ _ _ _ _=>by kernel_rfl)
def kY:T10:=λa0 a1 H K=>bH (AE H a1) λe a=>bO (Aj a0) λk=>bO (Ab 0 k) λf=>bO (Aq false 1 a f) λg=>bP (Ba2 56 [g]) λl=>bO (Aq true 2 a e) λh=>bP (Ba2 55 [l,h]) λm=>bH (AE a (.agg [(I 0),(I 0)])) λc b=>bS (AU 2 b c m) λd=>(Aq false 1 b f=some g)/\ (Aq true 2 b e=some h)/\ bO (Ab 1 c) λi=>bO (Aq false 1 d i) λj=>XO a0 c j (I 0) d K
theorem pB {a0 a1 H K}(h:kY a0 a1 H K):BQ 106 [a0,a1] H K:=fok XP GF XR func106 h
def XA:T10:=λa0 a1 H K=>bH (AE H a0) λb a=>bO (Ab 0 b) λc=>bO (Aq false 1 a c) λd=>bP (Ba2 56 [d]) λe=>bO (Aq true 2 a a1) λf=>bP (Ba2 204 [e,f]) λg=>K g a
theorem dV {a0 a1 H K}(h:XA a0 a1 H K):BQ 203 [a0,a1] H K:=fok A8 GF B7 func203 h
def qE:T10:=λa0 a1 H K=>bH (AE H a0) λc f=>bH (AE f a1) λe a=>bO (Aq true 2 a c) λs=>bP (Ba1 111 [s] a) λt=>bO (D5 .not t) λd=>bG d false λC=>gO C (Aq true 2 a e) λu=>bG d false λD=>gP D (Ba1 111 [u] a) λh=>bG d false λv=>gO v (D5 .not h) λi=>bO (A0 d (B true) i) λj=>bB j λg=>bI g (K (B false) a) (bO (Ab 1 c) λk=>bO (Aq false 1 a k) λl=>bO (Ar .eql l (I 0)) λb=>bG b false λw=>gO w (Aq true 2 a c) λm=>bG b false λx=>gO x (Aq true 2 a e) λn=>bG b false λy=>gP y (Ba2 55 [m,n]) λo=>bG b false λz=>gO z (Aq true 2 a c) λp=>bG b false λA=>gO A (P9 prog .eql 119 o p) λq=>bO (A0 b (B true) q) λr=>K r a)
theorem sF {a0 a1 H K}(h:qE a0 a1 H K):BQ 204 [a0,a1] H K:=fok A8 GF B7 func204 h
def GC:T12:=λa0 H K=>bO (vA .eql Zi a0 Ad) λd=>bB d λc=>bI c (K Ad H) (bH (Co H 9 0 (Bx [(I 0),u0Z,u0Z,u0Z,u0Z,u0Z,u0Z,u0Z,u0Z] 0) []) λe a=>bH (Gt 9 16 a e a0) λf b=>K f b)
theorem Mc {a0 H K}(h:GC a0 H K):BQ 95 [a0] H K:=fok A8 GF B7 func95 h
def lJ:T12:=λa0 H K=>bH (AE H a0) λc a=>bO (Ab 0 c) λj=>bO (Aq false 1 a j) λn=>bP (Ba1 169 [n] a) λd=>bG d true λw=>gO w (Ab 1 c) λo=>bG d true λx=>gO x (Aq false 1 a o) λp=>bG d true λy=>gP y (Ba1 169 [p] a) λe=>bO (A0 d e (B false)) λb=>bG b true λq=>gO q (Ab 1 c) λf=>bG b true λr=>gO r (Aq false 1 a f) λg=>bG b true λs=>gO s (Ab 0 c) λh=>bG b true λt=>gO t (Aq false 1 a h) λi=>bG b true λu=>gO u (Ar .sub (I 4611686018427387904) i) λk=>bG b true λv=>gO v (Ar .leq g k) λl=>bO (A0 b l (B false)) λm=>K m a
theorem qD {a0 H K}(h:lJ a0 H K):BQ 111 [a0] H K:=fok A8 GF B7 func111 h
def Lr:Nat->Bool:=hU []
def Ci:T11:=λa0 a1 a2 H K=>bO (Bq 9 a0 (some a1) none none) λR=>bO (AW a2) λa=>bO (Ar .eql a (I 0)) λw=>bB w λn=>bI n (K a0 H) (bO (AW a0) λc=>bO (Ar .eql a1 c) λO=>bB O λp=>bI p (bH (Gt 9 16 H a0 a2) λP l=>K P l) (bO (Ar .add c a) λQ=>bO (rF a0) λq=>bO (Ar .gtr Q q) λr=>bB r λm=>bI m (bO (Bq 9 a0 none (some a1) none) λs=>bO (Ar .add c a) λt=>bO (Ar .sub t a1) λu=>bH (Tv H 9 16 [(I 0),u0Z,u0Z,u0Z,u0Z,u0Z,u0Z,u0Z,u0Z] s u) λd e=>bO (Bq 9 d (some a1) none none) λv=>bH (YX 9 e v a2) λS f=>bO (Ar .add a1 a) λx=>bO (Bq 9 d (some x) none none) λy=>bO (Bq 9 a0 (some a1) none none) λz=>bH (YX 9 f y z) λT g=>K d g) (bO (Ar .add c a) λA=>bO (Bq 9 a0 none (some A) none) λb=>bO (Ar .add a1 a) λB=>bO (Bq 9 b (some B) none none) λC=>bP (ExtR prog 230 [a2,C] H) λD=>bO (D5 .not D) λE=>bB E λo=>bI o (bO (Ar .add a1 a) λF=>bO (Bq 9 b (some F) none none) λG=>bO (Bq 9 b (some a1) none none) λJ=>bH (YX 9 H G J) λU h=>bO (Bq 9 b (some a1) none none) λL=>bH (YX 9 h L a2) λV i=>K b i) (bO (Bq 9 b (some c) none none) λM=>bH (YX 9 H M a2) λW j=>bO (Bq 9 b (some a1) none none) λN=>bC (Ba0 231 [N,a] j) λX k=>K b k))))
theorem Lq (a0 a1 a2:AV)(H:AH)(K:KT):WE prog A8 GF Anw Lr B7 f222 [a0,a1,a2] H K=Ci a0 a1 a2 H K:=by kernel_rfl
theorem D9 {a0 a1 a2:AV}{H:AH}{K:KT}(h:Ci a0 a1 a2 H K):Ba3 222 [a0,a1,a2] H K:=
 L6 TA func222 (by kernel_rfl) (Eq.mpr (Lq a0 a1 a2 H K) h)
def Di:Nat->Option (List Bool):=BI [(4,mk 49 0 [0,1,2,8,9,10])]
def Dm (p:List Bool)(n:Nat):List AV->AH->Kf->Prop:=AR prog A8 GF Aw Aw Di (sub p (AK f223)) n
def Dh:T20:=λa b d e f c H K=>lp (mk 49 0 [0,1,2,8,9,10]) (Dm (pbZ 71) 5) [a,b,d,e,f,c] H (AP 0 (AO (Dm (pbZ 31) 9) (AN prog f223.results.toList K)))
def CS:T19:=λk c d e i b h H K=>bO (Ar .lss b h) λu=>bB u λs=>bI s (bO (Ar .add b h) λz=>bO (Aah .u64 z) λG=>bO (Ar .shr G (.lit (.int .u64 1))) λM=>bO (Aah .i64 M) λf=>bO (AY 9 c f) λN=>bO (Aq true 9 H N) λO=>bF true e λl q o=>bT (Ch prog l||!true)<|bC (Ba0 l (q++[O,d]++o) H) λP j=>bO (Ar .lss P (I 0)) λv=>bB v λt=>bI t (bO (Ar .add f (I 1)) λw=>k [c,d,e,i,w,h] j) (k [c,d,e,i,b,f] j)) (bO (Ar .lss b i) λa=>bG a true λQ=>gO Q (some e) λx=>bG a true λR=>gO R (some c) λy=>bG a true λS=>gO S (some b) λA=>bG a true λT=>gO T (AY 9 y A) λC=>bG a true λU=>gO U (Aq true 9 H C) λD=>bG a true λV=>gO V (some d) λE=>bG a true λg=>bF g x λm r p=>bT (Ch prog m||!g)<|gC g (Ba0 m (r++[D,E]++p) H) H λF n=>bG a true λW=>gO W (Ar .eql F (I 0)) λJ=>bO (A0 a J (B false)) λL=>K (.tup [b,L]) n)
theorem ED {K:KT}:Aai (λR a b d e f c H=>CS R a b d e f c H K) (λa b d e f c H=>Dh a b d e f c H K):=sE (A3 _ _) (λ_ _ _ _ _ _ _ _=>by kernel_rfl)
def D3:T11:=λa0 a1 a2 H K=>bO (AW a0) λa=>Dh a0 a1 a2 a (I 0) a H K
theorem F3 {a0 a1 a2 H K}(h:D3 a0 a1 a2 H K):BQ 223 [a0,a1,a2] H K:=fok A8 GF Di func223 h
def XM:T10:=λa0 a1 H K=>bH (AE H a0) λb a=>bO (Ab 0 b) λc=>bO (Aq false 1 a c) λd=>bP (Ba1 94 [d,a1] a) λe=>K e a
theorem dZ {a0 a1 H K}(h:XM a0 a1 H K):BQ 224 [a0,a1] H K:=fok A8 GF B7 func224 h
def VU:T10:=λa0 a1 H K=>bP (Ba1 163 [a0] H) λg=>bP (Ba1 163 [a1] H) λa=>bB g λb=>bI b (bB a λc=>bI c (K (I 0) H) (K (I (-1)) H)) (bB a λd=>bI d (K (I 1) H) (bO (Ar .lss a0 a1) λh=>bB h λe=>bI e (K (I (-1)) H) (bO (Ar .gtr a0 a1) λi=>bB i λf=>bI f (K (I 1) H) (K (I 0) H))))
theorem aI {a0 a1 H K}(h:VU a0 a1 H K):BQ 94 [a0,a1] H K:=fok A8 GF B7 func94 h
def E5:Nat->Option (List Bool):=BI [(3,mk 19 0 [0,1,7,8])]
def EG (p:List Bool)(n:Nat):List AV->AH->Kf->Prop:=AR prog A8 GF Aw Aw E5 (sub p (AK f167)) n
def E4:T13:=λa b c d H K=>lp (mk 19 0 [0,1,7,8]) (EG (pbZ 37) 4) [a,b,c,d] H (AP 0 (AO (EG (pbZ 7) 10) (AN prog f167.results.toList K)))
def CP:T15:=λg d e f a H K=>bO (Ar .lss a f) λl=>bB l λj=>bI j (bO (AY 9 d a) λm=>bO (Aq true 9 H m) λn=>bF true e λc i h=>bT (Ch prog c||!true)<|bC (Ba0 c (i++[n]++h) H) λo b=>bB o λk=>bI k (K a b) (bO (Ar .add a (I 1)) λp=>g [d,e,f,p] b)) (K (I (-1)) H)
theorem DJ {K:KT}:rD (λR a b c d H=>CP R a b c d H K) (λa b c d H=>E4 a b c d H K):=T7 (A3 _ _) (λ_ _ _ _ _ _=>by kernel_rfl)
def D8:T10:=λa0 a1 H K=>bO (AW a0) λa=>E4 a0 a1 a (I 0) H K
theorem E6 {a0 a1 H K}(h:D8 a0 a1 H K):BQ 167 [a0,a1] H K:=fok A8 GF E5 func167 h
def Agp:T12:=λa0 H K=>bO (Ar .geq a0 (I 0)) λa=>bG a true λe=>gO e (some a0) λb=>bG a true λf=>gO f (Ar .leq b (I 4611686018427387904)) λc=>bO (A0 a c (B false)) λd=>K d H
theorem Any {a0 H K}(h:Agp a0 H K):BQ 169 [a0] H K:=fok A8 GF B7 func169 h
def Z9:T12:=λa0 H K=>bO (Ar .neq a0 a0) λa=>K a H
theorem iM {a0 H K}(h:Z9 a0 H K):BQ 163 [a0] H K:=fok A8 GF B7 func163 h
def Pw:Nat->Option (List Bool):=BI [(6,mk 50 0 [1,2,5])]
def RD (p:List Bool)(n:Nat):List AV->AH->Kf->Prop:=AR prog A8 GF Aw Aw Pw (sub p (AK f143)) n
def Pv:T11:=λa b c H K=>lp (mk 50 0 [1,2,5]) (RD (pbZ 71) 7) [a,b,c] H (AP 0 (AO (RD (pbZ 31) 11) (AN prog f143.results.toList K)))
def MJ:T18:=λi d a e H K=>bO (Ab 1 a) λk=>bO (Aq false 1 H k) λl=>bO (Ar .gtr l (I 0)) λt=>bB t λj=>bI j (bO (Ab 1 a) λA=>bO (Aq false 1 H A) λB=>bO (Ab 0 a) λC=>bO (Aq false 1 H C) λD=>bO (Ar .rem D d) λE=>bO (Ar .sub d E) λF=>bO (amm gZ [B,F]) λc=>bO (Ab 0 a) λm=>bO (Aq false 1 H m) λn=>bO (Dy [(I 0),(I 0)] [(0,1,n),(1,1,c)]) λo=>bH (Co H 2 1 (Bx [(I 0),(I 0)] 1) [(0,2,o)]) λp f=>bH (Gt 2 16 f e p) λq b=>bO (Ab 0 a) λr=>bO (Aq false 1 b r) λs=>bO (Ar .add s c) λu=>bO (Ab 1 a) λv=>bO (Aq false 1 b v) λw=>bO (Ar .sub w c) λx=>bO (Ab 0 a) λy=>bS (AU 1 b y u) λg=>bO (Ab 1 a) λz=>bS (AU 1 g z x) λh=>i [d,a,q] h) (K e H)
theorem TK {K:KT}:rC (λR a b c H=>MJ R a b c H K) (λa b c H=>Pv a b c H K):=T6 (A3 _ _) (λ_ _ _ _ _=>by kernel_rfl)
def UT:T10:=λa0 a1 H K=>bH (AE H a0) λc a=>bO (Aq true 2 a c) λj=>bP (Ba1 184 [j] a) λk=>bO (D5 .not k) λb=>bG b false λp=>gO p (Ab 1 c) λl=>bG b false λq=>gO q (Aq false 1 a l) λm=>bG b false λr=>gO r (Ar .gtr m (I 4096)) λf=>bO (A0 b (B true) f) λd=>bG d false λn=>gO n (some a1) λg=>bG d false λo=>gO o (Ar .lss g (I 1)) λh=>bO (A0 d (B true) h) λi=>bB i λe=>bI e (K Ad a) (Pv a1 c Ad a K)
theorem Zu {a0 a1 H K}(h:UT a0 a1 H K):BQ 143 [a0,a1] H K:=fok A8 GF Pw func143 h
def RB:T12:=λa0 H K=>bH (AE H a0) λc a=>bO (Ab 0 c) λf=>bO (Aq false 1 a f) λg=>bO (Ab 1 c) λh=>bO (Aq false 1 a h) λi=>bH (Co a 1 2 (Bx [(I 0)] 2) [(0,1,g),(1,1,i)]) λj b=>bP (Ba1 209 [j] b) λd=>bO (Ak d 0) λk=>bO (Ak d 1) λe=>K e b
theorem WX {a0 H K}(h:RB a0 H K):BQ 184 [a0] H K:=fok A8 GF B7 func184 h
def Th:Nat->Option (List Bool):=BI [(4,mk 34 0 [0,4,5])]
def UR (p:List Bool)(n:Nat):List AV->AH->Kf->Prop:=AR prog A8 GF Aw Aw Th (sub p (AK f209)) n
def Tg:T11:=λa b c H K=>lp (mk 34 0 [0,4,5]) (UR (pbZ 75) 5) [a,b,c] H (AP 0 (AO (UR (pbZ 15) 11) (AN prog f209.results.toList K)))
def Pu:T18:=λe b d c H K=>bO (AW b) λh=>bO (Ar .lss c h) λi=>bB i λf=>bI f (bO (AY 1 b c) λu=>bO (Aq false 1 H u) λv=>bP (Ba1 225 [v] H) λw=>bO (D5 .not w) λa=>bG a false λE=>gO E (some b) λx=>bG a false λF=>gO F (some c) λj=>bG a false λy=>gO y (AY 1 x j) λk=>bG a false λz=>gO z (Aq false 1 H k) λl=>bG a false λA=>gO A (some d) λm=>bG a false λC=>gO C (Ar .sub (I 4611686018427387904) m) λn=>bG a false λD=>gO D (Ar .gtr l n) λo=>bO (A0 a (B true) o) λp=>bB p λg=>bI g (K (.tup [(I 0),(B false)]) H) (bO (AY 1 b c) λq=>bO (Aq false 1 H q) λr=>bO (Ar .add d r) λs=>bO (Ar .add c (I 1)) λt=>e [b,s,t] H)) (K (.tup [d,(B true)]) H)
theorem VM {K:KT}:rC (λR a b c H=>Pu R a b c H K) (λa b c H=>Tg a b c H K):=T6 (A3 _ _) (λ_ _ _ _ _=>by kernel_rfl)
def Y0:T12:=λa0 H K=>Tg a0 (I 0) (I 0) H K
theorem gJ {a0 H K}(h:Y0 a0 H K):BQ 209 [a0] H K:=fok A8 GF Th func209 h
def Y1:T12:=λa0 H K=>bO (Ar .geq a0 (I 0)) λa=>bG a true λe=>gO e (some a0) λb=>bG a true λf=>gO f (Ar .leq b (I 4611686018427387904)) λc=>bO (A0 a c (B false)) λd=>K d H
theorem gK {a0 H K}(h:Y1 a0 H K):BQ 225 [a0] H K:=fok A8 GF B7 func225 h
def Wx:T12:=λa0 H K=>bP (Ba1 147 [a0] H) λa=>bO (AW a0) λb=>bO (Ar .eql a b) λc=>K c H
theorem cB {a0 H K}(h:Wx a0 H K):BQ 74 [a0] H K:=fok A8 GF B7 func74 h
def Rz:Nat->Option (List Bool):=BI [(3,mk 18 0 [0,3])]
def Tj (p:List Bool)(n:Nat):List AV->AH->Kf->Prop:=AR prog A8 GF Aw Aw Rz (sub p (AK f147)) n
def Ry:T10:=λa b H K=>lp (mk 18 0 [0,3]) (Tj (pbZ 35) 4) [a,b] H (AP 0 (AO (Tj (pbZ 15) 6) (AN prog f147.results.toList K)))
def Ov:T22:=λd c b H K=>bO (AW c) λf=>bO (Ar .lss b f) λa=>bG a true λo=>gO o (some c) λj=>bG a true λp=>gO p (some b) λk=>bG a true λq=>gO q (AY 1 j k) λl=>bG a true λr=>gO r (Aq false 1 H l) λm=>bG a true λn=>gO n (Ar .eql m u0Z) λg=>bO (A0 a g (B false)) λh=>bB h λe=>bI e (bO (Ar .add b (I 1)) λi=>d [c,i] H) (K b H)
theorem US {K:KT}:Aaa (λR a b H=>Ov R a b H K) (λa b H=>Ry a b H K):=jN (A3 _ _) (λ_ _ _ _=>by kernel_rfl)
def Ww:T12:=λa0 H K=>Ry a0 (I 0) H K
theorem cA {a0 H K}(h:Ww a0 H K):BQ 147 [a0] H K:=fok A8 GF Rz func147 h
end Go.Proofs.YtbppnhenlboefaaGreat.Av
end
