/- Texts of this proof, one behind the other, packed into one file by a program of this session. No condition. -/
import Derived.Test.YtbppnhenlboefaaGreatMcF
import Derived.ChangeArms
import Derived.DataElems
import Derived.DataReads
import Derived.KernelRfl
import Derived.Laws.IdiomStrings
import Derived.Lib.Bytealg
import Derived.Lib.Overlaps
import Derived.OpenShut
set_option linter.unusedVariables false
set_option linter.unusedSimpArgs false
set_option maxRecDepth 100000
namespace Go.Proofs.YtbppnhenlboefaaGreat.Av
open Go Go.RowKit Go.Proofs.Tryz
section
def AY (l:List UInt8):List AV:=l.map λb=>.lit (.int .u8 b.toNat)
theorem Vs (a b:List UInt8):AY (a++b)=AY a++AY b:=by simp[AY]
theorem C2 (a:List UInt8):(AY a).length=a.length:=by simp[AY]
theorem OB (a:List UInt8)(n:Nat):(AY a).take n=AY (a.take n):=by simp[AY]
theorem SP (a:List UInt8)(n:Nat):(AY a).drop n=AY (a.drop n):=by simp[AY]
theorem Vt (a:List UInt8)(n:Nat):(AY a)[n]?=(a[n]?).map λb=>.lit (.int .u8 b.toNat):=by simp[AY]
def QN (b:UInt8):List AV:=[.lit (.int .u8 b.toNat)]
theorem OI (l:List UInt8):l.flatMap QN=AY l:=by
 induction l with
 | nil=>rfl
 | cons a l ih=>rw[tY,ih];rfl
theorem P3 (l:List UInt8):Ay (AY l)=true:=by
 induction l with
 | nil=>rfl
 | cons a l ih=>simpa[AY,Ay,noIds]using ih
def As (l:List UInt8):ByteArray:=⟨l.toArray⟩
theorem Lq (l:List UInt8):(As l).size=l.length:=rfl
abbrev uP:=@List.drop_eq_getElem_cons
theorem Wb (s:ByteArray):∀(n i:Nat) (r:List UInt8),s.size - i=n→ByteArray.toList.loop s i r=r.reverse++s.data.toList.drop i:=by
  intro n
  induction n with
  | zero=>
    intro i r h;unfold ByteArray.toList.loop
    rw [if_neg (by omega), List.drop_of_length_le (by have : s.data.toList.length = s.size := by rw [Array.length_toList]; rfl
                                                      omega)]
    simp
  | succ n ih=>
    intro i r h;unfold ByteArray.toList.loop;have hi:i<s.size:=by omega
    rw[if_pos hi,ih (i+1) _ (by omega)];have hl:i<s.data.toList.length:=by rw[uD];exact hi
    rw[uP hl];simp[ByteArray.get!,getElem!_def];have:s.data[i]?=some s.data[i]:=uZ hi;simp[this]
theorem Wa (s:ByteArray):s.toList=s.data.toList:=by
 unfold ByteArray.toList;rw[Wb s s.size 0 [] (by simp)];simp
theorem Kq (l:List UInt8):(As l).toList=l:=by rw[Wa];simp[As]
theorem FS {a b:List UInt8}:PI .eql (S (As a)) (S (As b))=some (B (decide (a=b))):=by
 simp only[PI,Q5,Kq,xA]
 by_cases h:a=b<;>simp[h]
theorem MS {a b:List UInt8}:PI .neq (S (As a)) (S (As b))=some (B (decide (a≠b))):=by
 simp only[PI,Q5,Kq,xA]
 by_cases h:a=b<;>simp[h]
theorem Vd:(⟨#[]⟩:ByteArray)=As []:=rfl
theorem SV.bytes {l:List UInt8}{v:AV}(h:SV QN 1 l v)(H:AH):Aa H 1 v=some (AY l,l.length):=by rw[h.2 H,OI]
structure Ext where
 no:Int
 b:List UInt8
 hb:b.length=8
 deriving DecidableEq
def Aw (x:Ext):List AV:=I x.no::AY x.b
theorem A2 (x:Ext):(Aw x).length=9:=by simp[Aw,C2,x.hb]
theorem Vr (l:List UInt8):(AY l).all oneA=true:=by simp[AY]
@[simp] theorem oF (x:Ext):(Aw x).all oneA=true:=by
 show(oneA (I x.no)&&(AY x.b).all oneA)=true
 rw[Vr];rfl
theorem EY (x:Ext):Ay (Aw x)=true:=by
 show Ay (I x.no::AY x.b)=true
 simp[Ay,noIds,P3]
@[simp] theorem pW (x:Ext) (t:List AV):(Aw x++t)[0]?=some (I x.no):=rfl
@[simp] theorem oG (x:Ext):(Aw x)[0]?=some (I x.no):=rfl
@[simp] theorem rd_b (x:Ext):Am true 8 (Aw x) 1=some (.agg (AY x.b)):=by
 have:=x.hb
 simp[Am,Aw,C2,this,sZ]
abbrev tJ:=@List.take_append_of_le_length
@[simp] theorem rd_e (x:Ext) (t:List AV):Am true 9 (Aw x++t) 0=some (.agg (Aw x)):=by
 have:=A2 x
 simp[Am,this,tJ]
@[simp] theorem rd_e' (x:Ext):Am true 9 (Aw x) 0=some (.agg (Aw x)):=by
 have:=A2 x
 simp[Am,this,sZ]
theorem nB {b:List UInt8}{k:Nat}{y:UInt8}(h:b[k]?=some y)(hk:k<8):Zi false 1 8 1 (.agg (AY b)) (I k)=some (.lit (.int .u8 y.toNat)):=by
 have:(k:Int)<8:=by omega
 simp[Zi,JT,this,Vt,h]
theorem gQ {H:AH}{z:List AV}{x:Ext}{o:Nat}(ho:o=H.length)(hz:z.length=9):AU 9 (H++[some (.cells z)]) (.ptr o 0) (.agg (Aw x))=some (H++[some (.cells (Aw x))]):=by
 have:=A2 x
 have e:AS z 0 (Aw x)=Aw x:=by
  have hb:(AY x.b).length=8:=by rw[C2,x.hb]
  unfold Aw;cases hB:AY x.b with
  | nil=>rw[hB]at hb;simp at hb
  | cons a r=>rw[hB]at hb;simp at hb;simp[AS,hz,hb]
 simp[AU,ho,this,hz,e,-AS]
theorem u8z {y:UInt8}:(y.toNat=0)=(y=0):=by
 refine propext ⟨λh=>?_,λh=>by rw[h];rfl⟩;apply UInt8.toNat_inj.1;rw[h];rfl
def cleanB (size:Int):Int→List UInt8→Prop
 | _,[]=>True
 | p,b::r=>(b≠0→p<size)∧cleanB size (p+1) r
instance cleanB.dec (size:Int):∀(p:Int) (l:List UInt8),Decidable (cleanB size p l)
 | _,[]=>Decidable.isTrue True.intro
 | p,b::r=>by
  have:=cleanB.dec size (p+1) r
  unfold cleanB;infer_instance
def Gu (size:Int)(x:Ext):Prop:=cleanB size (x.no*8) x.b
instance (size:Int) (x:Ext):Decidable (Gu size x):=by unfold Gu;infer_instance
def okL (size:Int):Int→List Ext→Prop
 | _,[]=>True
 | p,x::r=>p<x.no∧x.no<137438953472∧Gu size x∧okL size x.no r
instance okL.dec (size:Int):∀(p:Int) (l:List Ext),Decidable (okL size p l)
 | _,[]=>Decidable.isTrue True.intro
 | p,x::r=>by
  have:=okL.dec size x.no r
  unfold okL;infer_instance
theorem NU {size p:Int}{x:Ext}{r:List Ext}:okL size p (x::r)=(p<x.no∧x.no<137438953472∧Gu size x∧okL size x.no r):=rfl
theorem fG {size p:Int}:okL size p []=True:=rfl
def E1 (size:Int)(l:List Ext):Prop:=0≤size∧size≤1099511627776∧okL size (-1) l
instance (size:Int) (l:List Ext):Decidable (E1 size l):=by unfold E1;infer_instance
theorem DS {α:Type}{l:List α}{k:Nat}{y:α}(h:l[k]?=some y):l.drop k=y::l.drop (k+1):=by
 obtain⟨hk,e⟩:=B5.1 h;rw[uP hk,e]
theorem QU (x:Ext)(size:Int)(h0: -1≤x.no)(h1:x.no<137438953472):BPure prog 110 [.agg (Aw x),I size] (B (decide (Gu size x))):=BPure.val (by simp[Ay,noIds,EY]) rfl (PR (by
 unfold Ny;simp;refine KC (λn x1 x2 x8 x9 H'=>∃k:Nat,k+n=8∧x1=I size∧x2=.ptr 0 0∧x8=.agg (AY x.b)∧x9=I k∧H'=[some (.cells (Aw x))]∧(Gu size x↔cleanB size (x.no*8+k) (x.b.drop k))) ?_ 8 ⟨0,rfl,rfl,rfl,rfl,rfl,rfl,by simp[Gu]⟩;rintro n x1 x2 x8 x9 H' R hR ⟨k,hk,rfl,rfl,rfl,rfl,rfl,hm⟩;unfold HU;rcases tD k 8 with hlt | hge
 ·have hlt':(k:Int)<8:=by omega
  have hx:=E5 (l:=x.b) (i:=k) (by rw [x.hb]; exact hlt);generalize x.b[k]'(by rw [x.hb]; exact hlt)=y at hx;rw [DS hx] at hm;unfold cleanB at hm;simp [hlt',nB hx hlt,u8z];have hkk : (k : Int) + 1=((k + 1 : Nat) : Int):=by omega
  by_cases hy:y=0
  ·simp[hy,Az (a:=k) (b:=1) (by omega) (by omega)]
   refine hR (n - 1) _ _ _ _ _ (by omega) ⟨k+1,by omega,rfl,rfl,rfl,rfl,rfl,?_⟩;rw[hm];simp[hy,Int.add_assoc]
  ·simp[hy,HH (a:=x.no) (b:=8) (by omega) (by omega),Az (a:=x.no*8) (b:=k) (by omega) (by omega)]
   by_cases hs:size≤x.no*8+k
   ·have:¬Gu size x:=by rw[hm];intro h;have:=h.1 hy;omega
    simp[hs,this]
   ·simp[hs,Az (a:=k) (b:=1) (by omega) (by omega)]
    refine hR (n - 1) _ _ _ _ _ (by omega) ⟨k+1,by omega,rfl,rfl,rfl,rfl,rfl,?_⟩;rw[hm];simp[hy,Int.add_assoc];omega
 ·have:k=8:=by omega
  subst this;have e:x.b.drop 8=[]:=by rw[List.drop_eq_nil_iff,x.hb];omega
  rw[e]at hm;simp only[cleanB,iff_true]at hm;simp[hm]))
theorem GN {α:Type}{enc:α→List AV}{sz:Nat}{l:List α}{v:AV}(hv:SV enc sz l v):oneA v=true:=by
 have h1:=hv.1;have h2:=hv.2 [];cases v with
 | lit a=>cases a<;>first | rfl | (simp[Aa]at h2)
 | _=>first | rfl | (simp[Aa]at h2)
theorem KH (no:Int)(h0:0≤no)(h1:no<137438953472):BPure prog 56 [I no] (.agg (BQ ⟨no*8,8⟩)):=BPure.val (by simp[Ay,noIds]) rfl (PT (by
 unfold N1;simp[HH (a:=no) (b:=8) (by omega) (by omega),AU,Am,BQ]))
abbrev wX:=@List.drop_length
theorem Ft {size:Int}{l:List Ext}{v:AV}(hv:SV Aw 9 l v)(hl:l.length≤281474976710656):BPure prog 54 [.agg [I size,v]] (B (decide (E1 size l))):=BPure.val (by simp[Ay,noIds,hv.1]) rfl (Ss (by
 unfold QR;simp[GN hv]
 by_cases h1:size<0
 ·have:¬E1 size l:=λh=>by have:=h.1;omega
  simp[h1,this]
 ·by_cases h2:1099511627776<size
  ·have:¬E1 size l:=λh=>by have:=h.2.1;omega
   simp[h1,h2,this]
  ·simp[h1,h2,hv.len]
   have hm:E1 size l↔okL size (-1) l:=by unfold E1;constructor<;>intro h<;>simp_all<;>omega
   have e:decide (E1 size l)=decide (okL size (-1) l):=decide_eq_decide.2 hm;rw[e];refine M1 (λn x1 x3 x15 x16 x17 H'=>∃(k:Nat) (p:Int),k+n=l.length∧x1=.ptr 0 0∧x3=I p∧x15=v∧x16=I l.length∧x17=I k∧(∃X,H'=some (.cells [I size,v])::X)∧-1≤p∧(okL size (-1) l↔okL size p (l.drop k))) ?_ l.length ⟨0,-1,by simp,rfl,rfl,rfl,rfl,rfl,⟨[],rfl⟩,by omega,by simp⟩;rintro n x1 x3 x15 x16 x17 H' R hR ⟨k,p,hk,rfl,rfl,rfl,rfl,rfl,⟨X,rfl⟩,hp,hm⟩;unfold J9;rcases tD k l.length with hlt | hge
   ·have hx:=E5 hlt
    generalize l[k]=y at hx;rw[DS hx]at hm;rw[NU]at hm;simp[hlt,hv.idx A2 hx rfl,-Ix];rw[← vY,gQ (by simp) (by rfl)];simp
    by_cases c1:y.no≤p
    ·have:¬okL size (-1) l:=by rw[hm];intro h;omega
     simp[c1,this]
    ·by_cases c2:137438953472≤y.no
     ·have:¬okL size (-1) l:=by rw[hm];intro h;omega
      simp[c1,c2,this]
     ·simp[c1,c2]
      refine A3 (QU y size (by omega) (by omega)) ?_
      by_cases c3:Gu size y
      ·simp[c3,Az (a:=k) (b:=1) (by omega) (by omega)]
       refine hR (n - 1) _ _ _ _ _ _ (by omega) ⟨k+1,y.no,by omega,rfl,rfl,rfl,rfl,rfl,⟨X++[some (.cells (Aw y))],rfl⟩,by omega,?_⟩;rw[hm];exact⟨λh=>h.2.2.2,λh=>⟨by omega,by omega,c3,h⟩⟩
      ·have:¬okL size (-1) l:=by rw[hm];intro h;exact c3 h.2.2.1
       simp[c3,this]
   ·have:k=l.length:=by omega
    subst this;rw[wX]at hm;simp only[fG,iff_true]at hm;simp[hm]))
def srt (l:List Ext):Prop:=l.Pairwise λa b=>a.no<b.no
theorem Qk {size:Int}:∀{l:List Ext} {p:Int},okL size p l→∀x∈l,p<x.no∧x.no<137438953472∧Gu size x
 | [],p,h=>by simp
 | a::r,p,h=>by
  rw[NU]at h;intro x hx;rcases tU.1 hx with rfl | hx
  ·exact⟨h.1,h.2.1,h.2.2.1⟩
  ·have:=Qk h.2.2.2 x hx
   exact⟨by omega,this.2⟩
theorem NV {size:Int}:∀{l:List Ext} {p:Int},okL size p l→srt l
 | [],p,h=>List.Pairwise.nil
 | a::r,p,h=>by
  rw[NU]at h;exact List.Pairwise.cons (λb hb=>(Qk h.2.2.2 b hb).1) (NV h.2.2.2)
theorem Jy {l:List Ext}(h:srt l){i j:Nat}{x y:Ext}(hi:l[i]?=some x)(hj:l[j]?=some y)(hij:i<j):x.no<y.no:=by
 obtain⟨h1,e1⟩:=B5.1 hi;obtain⟨h2,e2⟩:=B5.1 hj
 have:=List.pairwise_iff_getElem.1 h i j h1 h2 hij
 rw[e1,e2]at this;exact this
def Em (l:List Ext)(no:Int):Nat:=(l.takeWhile λx=>decide (x.no<no)).length
def Cf (l:List Ext)(no:Int):Prop:=∃x∈l,x.no=no
instance (l:List Ext) (no:Int):Decidable (Cf l no):=by unfold Cf;infer_instance
theorem Qp {no:Int}:∀{l:List Ext} {i:Nat},i≤l.length→(∀m x,m<i→l[m]?=some x→x.no<no)→(∀x,l[i]?=some x→no≤x.no)→Em l no=i
 | [],i,hi,_,_=>by simp at hi;simp[Em,hi]
 | a::r,0,_,_,h=>by
  have:=h a (by simp)
  have:¬a.no<no:=by omega
  simp[Em,this]
 | a::r,i+1,hi,h1,h2=>by
  have:=h1 0 a (by omega) (by simp)
  have ih:=Qp (l:=r) (i:=i) (no:=no) (by simpa using hi) (λm x hm hx=>h1 (m+1) x (by omega) (by simpa using hx)) (λx hx=>h2 x (by simpa using hx));unfold Em at ih⊢;simp[this,ih]
theorem Qq (l:List Ext)(no:Int):Em l no≤l.length:=by
 unfold Em;exact(List.takeWhile_sublist _).length_le
theorem Uv {no:Int}:∀{l:List Ext} {m:Nat} {x:Ext},m<Em l no→l[m]?=some x→x.no<no
 | a::r,m,x,hm,hx=>by
  by_cases ha:a.no<no
  ·cases m with
   | zero=>simp at hx;rw[← hx];exact ha
   | succ m=>
    refine Uv (l:=r) (m:=m) ?_ (by simpa using hx);unfold Em at hm⊢;simp[ha]at hm;exact hm
  ·unfold Em at hm
   simp[ha]at hm
 | [],m,x,hm,hx=>by simp at hx
theorem X8 {no:Int}:∀{l:List Ext} {x:Ext},l[Em l no]?=some x→no≤x.no
 | a::r,x,hx=>by
  by_cases ha:a.no<no
  ·refine X8 (l:=r) ?_
   unfold Em at hx⊢
   simpa[ha]using hx
  ·unfold Em at hx
   simp[ha]at hx;rw[← hx];omega
 | [],x,hx=>by simp at hx
theorem Rk {l:List Ext}(h:srt l){no:Int}:Cf l no↔∃x,l[Em l no]?=some x∧x.no=no:=by
 constructor
 ·rintro⟨x,hx,rfl⟩
  obtain⟨m,hm⟩:=tK.1 hx;refine⟨x,?_,rfl⟩;have:Em l x.no=m:=Qp (Nat.le_of_lt (B5.1 hm).1) (λk y hk hy=>Jy h hy hm hk) (λy hy=>by rw[hm]at hy;injection hy with hy;rw[hy];omega);rw[this];exact hm
 ·rintro⟨x,hx,e⟩
  exact⟨x,tB hx,e⟩
def BS (a b:Int):Int:=if a<b then -1 else if b<a then 1 else 0
theorem Pl (a:Int):BPure prog 163 [I a] (B false):=BPure.flat λH=>O5 (by
 unfold LO
 simp)
theorem LN (a b:Int):BPure prog 94 [I a,I b] (I (BS a b)):=BPure.flat λH=>Mv (by
 unfold J3;refine A3 (Pl a) ?_;refine A3 (Pl b) ?_;unfold BS
 by_cases h1:a<b
 ·simp[h1]
 ·by_cases h2:b<a
  ·simp[h1,h2]
  ·simp[h1,h2])
theorem VL (x:Ext)(no:Int):BPure prog 224 [.agg (Aw x),I no] (I (BS x.no no)):=BPure.val (by simp[Ay,noIds,EY]) rfl (N0 (by
 unfold KG;simp;refine A3 (LN x.no no) ?_
 rfl))
theorem TJ {n:Int}{k:IntKind}(h1:0≤n)(h2:n≤9223372036854775807):YQ .u64 (.lit (.int k n))=some (.lit (.int .u64 n)):=by
 have e1:IntKind.u64.wrap n=n:=by
  simp[IntKind.wrap,IntKind.bits,IntKind.signed];omega
 simp[YQ,e1]
theorem Qt {n:Int}:Ax .shr (.lit (.int .u64 n)) (.lit (.int .u64 1))=some (.lit (.int .u64 (n/2))):=by
 have e2:n.fdiv 2=n/2:=Int.fdiv_eq_ediv_of_nonneg _ (by omega);simp[Ax,Ko,IntKind.bits,e2]
theorem gX:Bs prog 224=true:=by kernel_rfl
theorem bW {l:List Ext}{v:AV}(hv:SV Aw 9 l v)(hs:srt l)(hl:l.length≤281474976710656)(no:Int):
  BPure prog 223 [v,I no,.fn (.func 224) [] []] (.tup [I (Em l no),B (decide (Cf l no))]):=BPure.val (by simp[Ay,noIds,hv.1]) rfl (Db (by
 unfold BR;simp[hv.len];refine CC (λn x0 x1 x2 x8 x9 x10 H'=>∃i j:Nat,i+n=j∧j≤l.length∧x0=v∧x1=I no∧x2=.fn (.func 224) [] []∧x8=I l.length∧x9=I i∧x10=I j∧H'=[]∧(∀m x,m<i→l[m]?=some x→x.no<no)∧(∀m x,j≤m→l[m]?=some x→no≤x.no)) ?_ l.length ⟨0,l.length,by simp,by omega,rfl,rfl,rfl,rfl,rfl,rfl,rfl,by simp,λm x hm hx=>by have:=(B5.1 hx).1;omega⟩;rintro n x0 x1 x2 x8 x9 x10 H' R hR ⟨i,j,hij,hj,rfl,rfl,rfl,rfl,rfl,rfl,rfl,h1,h2⟩;unfold B8;rcases tD i j with hlt | hge
 ·have hx:=E5 (l:=l) (i:=(i+j)/2) (by omega)
  generalize l[(i + j) / 2]'(by omega)=y at hx;simp [hlt,Az (a:=i) (b:=j) (by omega) (by omega),TJ (n:=(i : Int) + j) (by omega) (by omega),Qt,TI (a:=((i : Int) + j) / 2) (by omega) (by omega),hv.idx A2 hx (i:=((i : Int) + j) / 2) (by omega),gX];refine bC_of (VL y no []) ?_;unfold BS
  by_cases c1:y.no<no
  ·simp[c1,Az (a:=((i:Int)+j)/2) (b:=1) (by omega) (by omega)]
   refine hR (j - ((i+j)/2+1)) _ _ _ _ _ _ _ (by omega) ⟨(i+j)/2+1,j,by omega,hj,rfl,rfl,rfl,rfl,by simp,rfl,rfl,?_,h2⟩;intro m x hm hmx
   by_cases hm2:m=(i+j)/2
   ·rw[hm2,hx]at hmx;injection hmx with e;rw[← e];exact c1
   ·have:=Jy hs hmx hx (by omega);omega
  ·have e:¬(if no<y.no then(1:Int)else 0)<0:=by split<;>omega
   simp[c1,e];refine hR ((i+j)/2 - i) _ _ _ _ _ _ _ (by omega) ⟨i,(i+j)/2,by omega,by omega,rfl,rfl,rfl,rfl,rfl,by simp,rfl,h1,?_⟩;intro m x hm hmx
   by_cases hm2:m=(i+j)/2
   ·rw[hm2,hx]at hmx;injection hmx with e;rw[← e];omega
   ·have:=Jy hs hx hmx (by omega);omega
 ·have hi:i=j:=by omega
  subst hi;have hp:Em l no=i:=Qp (by omega) h1 (λx hx=>h2 i x (by omega) hx);rcases tD i l.length with hil | hil
  ·have hx:=E5 (l:=l) (i:=i) hil
   generalize l[i]=y at hx
   have hh:Cf l no↔BS y.no no=0:=by
    rw[Rk hs,hp]
    have:=h2 i y (by omega) hx
    constructor
    ·rintro⟨z,hz,e⟩
     rw[hx]at hz;injection hz with hz;rw[hz,e];unfold BS;simp
    ·intro e
     refine⟨y,hx,?_⟩;unfold BS at e;split at e
     ·omega
     ·split at e<;>omega
   simp[hil,hv.idx A2 hx rfl,gX];refine bC_of (VL y no []) ?_;simp[hp,hh]
  ·have hn:¬Cf l no:=by
    rw[Rk hs,hp];rintro⟨z,hz,e⟩
    have:=(B5.1 hz).1
    omega
   simp[show ¬i<l.length by omega,hp,hn]))
theorem QW {l:List Ext}{v:AV}(hv:SV Aw 9 l v)(hs:srt l)(hl:l.length≤281474976710656)(no:Int):
  BPure prog 208 [v,I no] (.tup [I (Em l no),B (decide (Cf l no))]):=BPure.val (by simp[Ay,noIds,hv.1]) rfl (PS (by
 unfold Nz;refine A3 (bW hv hs hl no) ?_
 simp))
def iD (a:Int)(l:List Ext)(b:Int)(m:List Ext):Prop:=a=b∧l=m
instance (a:Int) (l:List Ext) (b:Int) (m:List Ext):Decidable (iD a l b m):=by unfold iD;infer_instance
structure KO {κ:Type}(c:κ→κ→Int):Prop where
 eq:∀a b,c a b=0↔a=b
 anti:∀a b,c a b<0↔0<c b a
 trans:∀a b d,c a b<0→c b d<0→c a d<0
section
variable {κ α : Type} {c : κ→κ→Int} {key : α→κ}
theorem KO.irr (h:KO c)(a:κ):¬c a a<0:=by have:=(h.eq a a).2 rfl;omega
theorem KO.tri (h:KO c){a b:κ}(h1:¬c a b<0)(h2:¬c b a<0):a=b:=by
 refine(h.eq a b).1 ?_;rw[h.anti]at h2;omega
def BP (c:κ→κ→Int)(key:α→κ)(l:List α):Prop:=l.Pairwise λa b=>c (key a) (key b)<0
def CP (c:κ→κ→Int)(key:α→κ)(l:List α)(k:κ):Nat:=(l.takeWhile λx=>decide (c (key x) k<0)).length
def AO (key:α→κ)(l:List α)(k:κ):Prop:=∃x∈l,key x=k
instance [DecidableEq κ] (key:α→κ) (l:List α) (k:κ):Decidable (AO key l k):=by unfold AO;infer_instance
instance (c:κ→κ→Int) (key:α→κ) (l:List α):Decidable (BP c key l):=by unfold BP;infer_instance
theorem Hz {l:List α}(h:BP c key l){i j:Nat}{x y:α}(hi:l[i]?=some x)(hj:l[j]?=some y)(hij:i<j):c (key x) (key y)<0:=by
 obtain⟨h1,e1⟩:=B5.1 hi;obtain⟨h2,e2⟩:=B5.1 hj
 have:=List.pairwise_iff_getElem.1 h i j h1 h2 hij
 rw[e1,e2]at this;exact this
theorem Qn {k:κ}:∀{l:List α} {i:Nat},i≤l.length→(∀m x,m<i→l[m]?=some x→c (key x) k<0)→(∀x,l[i]?=some x→¬c (key x) k<0)→CP c key l k=i
 | [],i,hi,_,_=>by simp at hi;simp[CP,hi]
 | a::r,0,_,_,h=>by
  have:=h a (by simp)
  simp[CP,this]
 | a::r,i+1,hi,h1,h2=>by
  have:=h1 0 a (by omega) (by simp)
  have ih:=Qn (l:=r) (i:=i) (k:=k) (by simpa using hi) (λm x hm hx=>h1 (m+1) x (by omega) (by simpa using hx)) (λx hx=>h2 x (by simpa using hx));unfold CP at ih⊢;simp[this,ih]
theorem Qo (l:List α)(k:κ):CP c key l k≤l.length:=by
 unfold CP;exact(List.takeWhile_sublist _).length_le
theorem X7 {k:κ}:∀{l:List α} {m:Nat} {x:α},m<CP c key l k→l[m]?=some x→c (key x) k<0
 | a::r,m,x,hm,hx=>by
  by_cases ha:c (key a) k<0
  ·cases m with
   | zero=>simp at hx;rw[← hx];exact ha
   | succ m=>
    refine X7 (l:=r) (m:=m) ?_ (by simpa using hx);unfold CP at hm⊢;simp[ha]at hm;exact hm
  ·unfold CP at hm
   simp[ha]at hm
 | [],m,x,hm,hx=>by simp at hx
theorem Uu {k:κ}:∀{l:List α} {x:α},l[CP c key l k]?=some x→¬c (key x) k<0
 | a::r,x,hx=>by
  by_cases ha:c (key a) k<0
  ·refine Uu (l:=r) ?_
   unfold CP at hx⊢
   simpa[ha]using hx
  ·unfold CP at hx
   simp[ha]at hx;rw[← hx];exact ha
 | [],x,hx=>by simp at hx
theorem Qm (hc:KO c){l:List α}(h:BP c key l){m:Nat}{x:α}(hm:l[m]?=some x):CP c key l (key x)=m:=
 Qn (Nat.le_of_lt (B5.1 hm).1) (λk y hk hy=>Hz h hy hm hk) (λy hy=>by rw[hm]at hy;injection hy with hy;rw[hy];exact hc.irr _)
theorem Hq (hc:KO c){l:List α}(h:BP c key l){k:κ}:AO key l k↔∃x,l[CP c key l k]?=some x∧key x=k:=by
 constructor
 ·rintro⟨x,hx,rfl⟩
  obtain⟨m,hm⟩:=tK.1 hx;exact⟨x,by rw[Qm hc h hm];exact hm,rfl⟩
 ·rintro⟨x,hx,e⟩
  exact⟨x,tB hx,e⟩
theorem Rj (hc:KO c){l:List α}(h:BP c key l){k:κ}(hk:AO key l k):CP c key l k<l.length:=by
 obtain⟨x,hx,-⟩:=(Hq hc h).1 hk;exact(B5.1 hx).1
theorem Pe (hc:KO c){l:List α}(h:BP c key l){x y:α}(hx:x∈l)(hy:y∈l)(e:key x=key y):x=y:=by
 obtain⟨m,hm⟩:=tK.1 hx;obtain⟨m',hm'⟩:=tK.1 hy;have h1:=Qm hc h hm;have h2:=Qm hc h hm';rw[e,h2]at h1;subst h1;rw[hm]at hm';injection hm'
def Ht (c:κ→κ→Int)(key:α→κ)(l:List α)(x:α):List α:=l.take (CP c key l (key x))++x::l.drop (CP c key l (key x))
def CB (c:κ→κ→Int)(key:α→κ)(l:List α)(k:κ):List α:=l.take (CP c key l k)++l.drop (CP c key l k+1)
abbrev vC:=@List.take_append_drop
theorem Fx {l:List α}{x y:α}:y∈Ht c key l x↔y=x∨y∈l:=by
 unfold Ht;rw[uN,tU]
 constructor
 ·rintro(h | h | h)
  ·exact .inr (uM h)
  ·exact .inl h
  ·exact .inr (uX h)
 ·rintro(h | h)
  ·exact .inr (.inl h)
  ·rw[← vC (CP c key l (key x)) l,uN]at h
   exact h.imp id .inr
abbrev vO:=@List.pairwise_append
abbrev uW:=@List.pairwise_cons
theorem RS (hc:KO c){l:List α}(h:BP c key l){x:α}(hn:¬AO key l (key x)):BP c key (Ht c key l x):=by
 unfold Ht BP
 have hl:∀y∈l.take (CP c key l (key x)),c (key y) (key x)<0:=by
  intro y hy;obtain⟨m,hm⟩:=tK.1 hy;rw[tF]at hm;split at hm
  ·rename_i h1;exact X7 h1 hm
  ·cases hm
 have hr:∀y∈l.drop (CP c key l (key x)),c (key x) (key y)<0:=by
  intro y hy;obtain⟨m,hm⟩:=tK.1 hy;rw[tG]at hm
  have hg:¬c (key y) (key x)<0:=by
   rcases wC m with rfl | hm0
   ·exact Uu hm
   ·intro h2
    have hlt:CP c key l (key x)<l.length:=by have:=(B5.1 hm).1;omega
    have h3:=E5 hlt;exact Uu h3 (hc.trans _ _ _ (Hz h h3 hm (by omega)) h2)
  by_cases h1:c (key x) (key y)<0
  ·exact h1
  ·exact absurd ⟨y,tB hm,(hc.tri h1 hg).symm⟩ hn
 refine vO.2 ⟨h.sublist (List.take_sublist _ _),uW.2 ⟨hr,h.sublist (List.drop_sublist _ _)⟩,?_⟩;intro a ha b hb;rcases tU.1 hb with rfl | hb
 ·exact hl a ha
 ·exact hc.trans _ _ _ (hl a ha) (hr b hb)
theorem delK_sub {l:List α}{k:κ}:(CB c key l k).Sublist l:=by
 unfold CB
 conv=>rhs;rw[← vC (CP c key l k) l]
 refine List.Sublist.append (List.Sublist.refl _) ?_;rw[← uY];exact List.drop_sublist _ _
theorem DQ {l:List α}(h:BP c key l){k:κ}:BP c key (CB c key l k):=h.sublist delK_sub
theorem E7 (hc:KO c){l:List α}(h:BP c key l){k:κ}(hk:AO key l k){y:α}:y∈CB c key l k↔y∈l∧key y≠k:=by
 obtain⟨x,hx,rfl⟩:=(Hq hc h).1 hk;have hlt:=(B5.1 hx).1
 have e:l=l.take (CP c key l (key x))++x::l.drop (CP c key l (key x)+1):=by
  conv=>lhs;rw[← vC (CP c key l (key x)) l]
  rw[uP hlt,(B5.1 hx).2]
 have hs:=h;unfold BP at hs;generalize CP c key l (key x)=p at*;unfold CB;rw[Qm hc h hx];rw[e]at hs;rw[vO,uW]at hs
 constructor
 ·intro hy
  rw[uN]at hy;rcases hy with hy | hy
  ·exact⟨uM hy,λe2=>hc.irr (key x) (e2▸hs.2.2 y hy x (by simp))⟩
  ·exact⟨uX hy,λe2=>hc.irr (key x) (e2▸hs.2.1.1 y hy)⟩
 ·rintro⟨hy,hne⟩
  rw[e,uN,tU]at hy;rw[uN];rcases hy with hy | rfl | hy
  ·exact .inl hy
  ·exact absurd rfl hne
  ·exact .inr hy
theorem Rw {l:List α}{x:α}:(Ht c key l x).length=l.length+1:=by
 have:=Qo (c:=c) (key:=key) l (key x)
 unfold Ht;rw[tH,tP,sX,tC];omega
theorem K4 {l:List α}{k:κ}(h:CP c key l k<l.length):(CB c key l k).length+1=l.length:=by
 unfold CB;rw[tH,sX,tC];omega
end
abbrev AW:List UInt8→List UInt8→Int:=Lib.compareBytes
abbrev wO:=@UInt8.lt_irrefl
abbrev wV:=@UInt8.le_antisymm
theorem Xo:∀a b:List UInt8,AW a b=0↔a=b
 | [],[]=>by simp[AW,Lib.compareBytes]
 | [],_::_=>by simp[AW,Lib.compareBytes]
 | _::_,[]=>by simp[AW,Lib.compareBytes]
 | x::a,y::b=>by
  have ih:=Xo a b;simp only[AW]at ih⊢;unfold Lib.compareBytes
  by_cases h1:x<y
  ·have:x≠y:=λe=>by subst e;exact wO _ h1
   simp[h1,this]
  ·by_cases h2:y<x
   ·have:x≠y:=λe=>by subst e;exact wO _ h2
    simp[h1,h2,this]
   ·have:x=y:=wV (UInt8.not_lt.1 h2) (UInt8.not_lt.1 h1)
    simp[h1,h2,this,ih]
theorem TZ:∀a b:List UInt8,AW a b<0↔a<b
 | [],[]=>by simp[AW,Lib.compareBytes]
 | [],_::_=>by simp[AW,Lib.compareBytes]
 | _::_,[]=>by simp[AW,Lib.compareBytes]
 | x::a,y::b=>by
  have ih:=TZ a b;simp only[AW]at ih⊢;unfold Lib.compareBytes;rw[List.cons_lt_cons_iff]
  by_cases h1:x<y
  ·simp[h1]
  ·by_cases h2:y<x
   ·have:x≠y:=λe=>by subst e;exact wO _ h2
    simp[h1,h2,this]
   ·have:x=y:=wV (UInt8.not_lt.1 h2) (UInt8.not_lt.1 h1)
    simp[h1,h2,this,ih]
theorem Xp:∀a b:List UInt8,0<AW a b↔b<a
 | [],[]=>by simp[AW,Lib.compareBytes]
 | [],_::_=>by simp[AW,Lib.compareBytes]
 | _::_,[]=>by simp[AW,Lib.compareBytes]
 | x::a,y::b=>by
  have ih:=Xp a b;simp only[AW]at ih⊢;unfold Lib.compareBytes;rw[List.cons_lt_cons_iff]
  by_cases h1:x<y
  ·have:¬y<x:=λh=>UInt8.lt_asymm h1 h
   have h3:y≠x:=λe=>by subst e;exact wO _ h1
   simp[h1,this,h3]
  ·by_cases h2:y<x
   ·simp[h1,h2]
   ·have:x=y:=wV (UInt8.not_lt.1 h2) (UInt8.not_lt.1 h1)
    simp[h1,h2,this,ih]
theorem koN:KO AW where
 eq:=Xo
 anti a b:=by rw[TZ,Xp]
 trans a b d h1 h2:=by rw[TZ]at*;exact List.lt_trans h1 h2
theorem LM:∀a b:List UInt8,Op.bytesLess a b=decide (AW a b<0)
 | [],[]=>by simp[Op.bytesLess,AW,Lib.compareBytes]
 | _::_,[]=>by simp[Op.bytesLess,AW,Lib.compareBytes]
 | [],_::_=>by simp[Op.bytesLess,AW,Lib.compareBytes]
 | x::a,y::b=>by
  have ih:=LM a b;simp only[AW]at ih⊢;unfold Op.bytesLess Lib.compareBytes;rw[ih]
  by_cases h1:x<y
  ·simp[h1]
  ·by_cases h2:y<x
   ·have:x≠y:=λe=>by subst e;exact wO _ h2
    simp[h1,h2,this]
   ·have:x=y:=wV (UInt8.not_lt.1 h2) (UInt8.not_lt.1 h1)
    simp[h1,h2,this]
theorem MR {a b:List UInt8}:PI .geq (S (As a)) (S (As b))=some (B (decide (¬AW a b<0))):=by
 simp only[PI,Q5,Kq,xA,LM]
 by_cases h:AW a b<0<;>simp[h]
theorem Ou {l:List UInt8}{k:Nat}{i:Int}{y:UInt8}(hi:i=k)(h:l[k]?=some y):PL (S (As l)) (I i)=some (.lit (.int .u8 y.toNat)):=by
 subst hi
 have:(As l)[k]?=some y:=by
  obtain⟨h1,h2⟩:=B5.1 h;have hs:k<(As l).size:=by rw[Lq];exact h1
  rw[getElem?_pos (As l) k hs]
  congr 1
 simp[PL,JT,this]
theorem GQ {l:List UInt8}(h:l.length≤9223372036854775807):Ff (S (As l))=some (I l.length):=by
 simp[Ff,Lq]
end
section
section
variable {P : Program}
end
end
section
section
variable {P : Program} {f : FuncId} {args : List AV}
end
end
section
def FZ (X:AH)(v R:AV):Prop:=∃n0,∀n,n0≤n→Iv X n v=some R
def FZs (X:AH)(vs Rs:List AV):Prop:=∃n0,∀n,n0≤n→Ju (Iv X n) vs=some Rs
theorem FZs.nil {X:AH}:FZs X [] []:=⟨0,λ_ _=>rfl⟩
theorem FZs.cons {X:AH}{v R:AV}{vs Rs:List AV}(h:FZ X v R)(hs:FZs X vs Rs):FZs X (v::vs) (R::Rs):=by
 obtain⟨a,ha⟩:=h;obtain⟨b,hb⟩:=hs;exact⟨a+b,λn hn=>by simp only[Ju,ha n (by omega),hb n (by omega)]⟩
theorem FZ.agg {X:AH}{vs Rs:List AV}(hs:FZs X vs Rs):FZ X (.agg vs) (.agg Rs):=by
 obtain⟨b,hb⟩:=hs;refine⟨b+1,λn hn=>?_⟩;cases n with
 | zero=>omega
 | succ n=>simp only[Iv,hb n (by omega)];rfl
theorem FZ.tup {X:AH}{vs Rs:List AV}(hs:FZs X vs Rs):FZ X (.tup vs) (.tup Rs):=by
 obtain⟨b,hb⟩:=hs;refine⟨b+1,λn hn=>?_⟩;cases n with
 | zero=>omega
 | succ n=>simp only[Iv,hb n (by omega)];rfl
theorem FZ.lit {X:AH}(v:Value):FZ X (.lit v) (.lit v):=⟨1,λn hn=>by cases n with
 | zero=>omega
 | succ n=>rfl⟩
theorem FZ.same {X:AH}{v:AV}(h:noIds v=true):FZ X v v:=Ls X v h
theorem FZ.sv {α:Type}{enc:α→List AV}{X:AH}{sz:Nat}{l:List α}{v:AV}(h:Aa X sz v=some (l.flatMap enc,l.length))(hc:Ay (l.flatMap enc)=true):∃R,SV enc sz l R∧FZ X v R:=by
 obtain⟨R,n0,h1,h2,h3⟩:=OJ h hc;exact⟨R,⟨h1,h2⟩,n0,h3⟩
section
variable {P : Program} {f : FuncId} {args : List AV}
theorem BPure.FZ {Q:AV→Prop}(hb:Ay args=true)(h:∃r X,(∃R,Av.FZ X r R∧Q R)∧BCall P f args [] r X):∃R,Q R∧BPure P f args R:=by
 obtain⟨r,X,⟨R,⟨n,hn⟩,hq⟩,h⟩:=h;exact BPure.fz hb ⟨r,X,⟨n,R,hn n (sY _),hq⟩,h⟩
theorem PCall.lend {H:AH}{args':List AV}{x:AV}(hs:FZs H args args')(hx:HW x=true)(h:BPure P f args' x):PCall P f args H x:=by
 obtain⟨n,hn⟩:=hs;exact .inr ⟨n,args',hn n (sY _),hx,h⟩
end
theorem R5:∀{a b:List AV},Ay a=true→Ay b=true→Ay (a++b)=true
 | [],b,_,h=>h
 | x::a,b,h1,h2=>by
  simp only[Ay,tO,vY]at h1⊢;exact⟨h1.1,R5 h1.2 h2⟩
theorem Da {α:Type}{enc:α→List AV}:∀{l:List α},(∀x∈l,Ay (enc x)=true)→Ay (l.flatMap enc)=true
 | [],_=>rfl
 | a::l,h=>by
  rw[tY];exact R5 (h a (by simp)) (Da λx hx=>h x (by simp[hx]))
theorem Gl {H:AH}{sz n:Nat}{v:AV}{cs:List AV}(h:Aa H sz v=some (cs,n))(ho:AM v=true)(hn:0<n):
  ∃o off cap cells,v=.sl o off n sz cap∧H[o]?=some (some (.cells cells))∧off+n*sz≤cells.length∧cs=(cells.drop off).take (n*sz):=by
 unfold Aa at h;split at h
 ·simp[AM]at ho
 ·rename_i o off len esz cap
  split at h
  ·rename_i c hoc
   split at h
   ·rename_i hb
    obtain⟨rfl,hb⟩:=hb;injection h with h;injection h with h1 h2;subst h1;subst h2;exact⟨o,off,cap,c,rfl,hoc,hb,rfl⟩
   ·cases h
  ·cases h
 ·injection h with h;injection h with h1 h2;omega
 ·injection h with h;injection h with h1 h2;omega
 ·cases h
theorem Fy {cs xs:List AV}{k:Nat}(h:k+xs.length≤cs.length):(over cs k xs).length=cs.length:=by
 unfold over;simp only[rK];omega
theorem Gk {cs xs:List AV}{k:Nat}(h:k+xs.length≤cs.length)(i:Nat):(over cs k xs)[i]?=if k≤i∧i<k+xs.length then xs[i - k]? else cs[i]?:=by
 have h1:(cs.take k).length=k:=by rw[sX];omega
 unfold over
 split
 ·rename_i c
  rw[sW (by rw[tH];omega),tA (by omega),h1]
 ·rename_i c
  by_cases c1:i<k
  ·rw[tI,sW (by omega),tF,if_pos c1]
  ·rw[tA (by rw[tH];omega),tH,h1,tG]
   congr 1;omega
theorem L0 {cs xs:List AV}{off m k:Nat}(h1:off+m≤cs.length)(h2:k+xs.length≤m):((over cs (off+k) xs).drop off).take m=over ((cs.drop off).take m) k xs:=by
 refine uF λi=>?_
 rw[tF,tG,Gk (by omega),Gk (by rw[sX,tC];omega),tF,tG]
 by_cases c:i<m
 ·rw[if_pos c]
  by_cases c2:k≤i∧i<k+xs.length
  ·rw[if_pos c2,if_pos (by omega)];congr 1;omega
  ·rw[if_neg c2,if_neg (by omega),if_pos c]
 ·rw[if_neg c,if_neg (by omega),if_neg c]
theorem Lz {α:Type}{enc:α→List AV}{sz:Nat}(hsz:∀x,(enc x).length=sz){l:List α}{k q:Nat}{x y:α}{xs:List AV}(hx:l[k]?=some x)(hy:enc y=over (enc x) q xs)(hq:q+xs.length≤sz):
  over (l.flatMap enc) (k*sz+q) xs=(l.set k y).flatMap enc:=by
 induction l generalizing k with
 | nil=>simp at hx
 | cons a l ih=>
  cases k with
  | zero=>
   simp at hx;subst hx;rw[List.set_cons_zero,tY,tY,hy];have ha:=hsz a;unfold over;rw[Nat.zero_mul,wH,tJ (by omega),List.drop_append_of_le_length (by omega)];simp[tI]
  | succ k=>
   simp at hx;rw[List.set_cons_succ,tY,tY,← ih hx];have ha:=hsz a;unfold over;have e:(k+1)*sz+q=(enc a).length+(k*sz+q):=by rw[ha,uG];omega
   rw[e,List.take_length_add_append,show(enc a).length+(k*sz+q)+xs.length=(enc a).length+(k*sz+q+xs.length) by omega,List.drop_length_add_append];simp[tI]
end
section
theorem ExtR.apart {P : Program}{k : FuncId}{fn : Func}{tS tR e : TypeId}{size : Nat}(hf : P.funcs[k]? = some fn)(hname : (fn.name == "runtime.NumGoroutine") = false)(hb : fn.body.isNone = true)(hn : Extern.findNext fn = none)
  (he:Extern.find fn=some (Extern.SlicesOverlaps.overlaps #[tS,tS] #[tR])) (ht:P.underlying tS=some (.slice e)) (hz:∀w,(Go.sizeOf e).run P w=.ok size w)
  {H:AH} {oa offa la ea ka ob offb lb eb kb:Nat} {ca cb:List AV} (ha:H[oa]?=some (some (.cells ca))) (hbo:H[ob]?=some (some (.cells cb))) (hne:oa≠ob) (hka:ka≠0) (hkb:kb≠0) (hcb:cb≠[]):
  ExtR P k [.sl oa offa la ea (.ex ka),.sl ob offb lb eb (.ex kb)] H (B false):=by
 intro G vs hr hv;simp only[VRs]at hv;obtain⟨v,r,rfl,h1,v2,r2,rfl,h2,rfl⟩:=hv;simp only[VR]at h1 h2;obtain⟨ho1,a,c,rfl,hl1,hs1⟩:=h1;obtain⟨ho2,a2,c2,rfl,hl2,hs2⟩:=h2;have hc1:c≠0:=by simp only[SlAt]at hs1;omega
 have hc2:c2≠0:=by simp only[SlAt]at hs2;omega
 obtain⟨rfl,-⟩:=En hs1 hc1;obtain⟨rfl,-⟩:=En hs2 hc2;obtain⟨q1,e1,u1,p1,p2,p3,p4,p5⟩:=hr.obj _ _ ha;obtain⟨q2,e2,u2,w1,w2,w3,w4,w5⟩:=hr.obj _ _ hbo;have hblk:(G.μ oa).1≠(G.μ ob).1:=λh=>hne (hr.inj _ _ _ _ ha hbo h)
 have hlen:0<cb.length:=by cases cb with
  | nil=>exact absurd rfl hcb
  | cons a r=>simp
 refine⟨.bool false,?_,by simp only[VR]⟩;rw[run_callFunc_extern hf hname hb hn he]
 have:=Go.Lib.run_overlaps_apart (P:=P) G.w tS tR e ht size hz ⟨(G.μ oa).1,(G.μ oa).2.1+offa,none⟩ ⟨(G.μ ob).1,(G.μ ob).2.1+offb,none⟩ la c lb c2 hblk e1 e2 q1.size q2.size
  (by simp[World.shape?,p1]) (by simp[World.shape?,w1]) (by omega) (by simp[World.frozen?,p1]) (by simp[World.frozen?,p1])
 show(((Extern.SlicesOverlaps.overlaps #[tS,tS] #[tR]) _).run P G.w).andThen _=_
 have e:(#[Value.slice (some ⟨(G.μ oa).1,(G.μ oa).2.1+offa,none⟩) la c,Value.slice (some ⟨(G.μ ob).1,(G.μ ob).2.1+offb,none⟩) lb c2]:Array Value)=[Value.slice (some ⟨(G.μ oa).1,(G.μ oa).2.1+offa,none⟩) la c,Value.slice (some ⟨(G.μ ob).1,(G.μ ob).2.1+offb,none⟩) lb c2].toArray:=rfl;rw[← e,this];rfl
mutual
def AV.ren (σ:Nat→Nat×Nat):AV→AV
 | .lit v=>.lit v
 | .ptr o off=>.ptr (σ o).1 ((σ o).2+off)
 | .ip cs=>.ip (NW σ cs)
 | .sl o off len esz cap=>.sl (σ o).1 ((σ o).2+off) len esz cap
 | .imm cs len esz=>.imm (NW σ cs) len esz
 | .mp o=>.mp (σ o).1
 | .agg cs=>.agg (NW σ cs)
 | .tup cs=>.tup (NW σ cs)
 | .fn f a b=>.fn f (NW σ a) (NW σ b)
 | .emp=>.emp
 | .junk=>.junk
def NW (σ:Nat→Nat×Nat):List AV→List AV
 | []=>[]
 | a::r=>a.ren σ::NW σ r
end
mutual
theorem aZ {σ:Nat→Nat×Nat}{m:Nat}(h:∀o,o<m→σ o=(o,0)):∀{a:AV},Ee m a→a.ren σ=a
 | .lit v,_=>rfl
 | .ptr o off,hb=>by simp only[Ee]at hb;simp only[AV.ren,h o hb,wH]
 | .ip cs,hb=>by simp only[Ee]at hb;simp only[AV.ren,CV h hb]
 | .sl o off len esz cap,hb=>by simp only[Ee]at hb;simp only[AV.ren,h o hb,wH]
 | .imm cs len esz,hb=>by simp only[Ee]at hb;simp only[AV.ren,CV h hb]
 | .mp o,hb=>by simp only[Ee]at hb;simp only[AV.ren,h o hb]
 | .agg cs,hb=>by simp only[Ee]at hb;simp only[AV.ren,CV h hb]
 | .tup cs,hb=>by simp only[Ee]at hb;simp only[AV.ren,CV h hb]
 | .fn f a b,hb=>by simp only[Ee]at hb;simp only[AV.ren,CV h hb.1,CV h hb.2]
 | .emp,_=>rfl
 | .junk,_=>rfl
theorem CV {σ:Nat→Nat×Nat}{m:Nat}(h:∀o,o<m→σ o=(o,0)):∀{asx:List AV},Ct m asx→NW σ asx=asx
 | [],_=>rfl
 | a::r,hb=>by simp only[Ct]at hb;simp only[NW,aZ h hb.1,CV h hb.2]
end
def Cfg.ren (G:Cfg)(σ:Nat→Nat×Nat)(lim:Nat→Option Nat)(n2:Nat):Cfg:=
 {w:=G.w,n:=n2,μ:=λo=>((G.μ (σ o).1).1,(G.μ (σ o).1).2.1+(σ o).2,(lim o).getD ((G.μ (σ o).1).2.2 - (σ o).2)),L:=G.L,K:=G.K}
def aL:Nat→Option Nat:=λ_=>none
theorem SlAt.ren {m:Nat×Nat×Nat}{sh off esz:Nat}{cap:Room}{a:Addr}{c:Nat}(h:SlAt m (sh+off) esz cap a c):SlAt (m.1,m.2.1+sh,m.2.2 - sh) off esz cap a c:=by
 unfold SlAt at h⊢;cases cap with
 | ex k=>
  simp only at h⊢;refine⟨h.1,h.2.imp id λh2=>⟨by rw[h2.1,uO],by have:=h2.2;omega⟩⟩
 | ge k=>
  simp only at h⊢;refine⟨h.1,h.2.imp id λh2=>⟨by rw[h2.1,uO],by have:=h2.2;omega⟩⟩
mutual
theorem VR.ren {G:Cfg}{σ:Nat→Nat×Nat}{lim:Nat→Option Nat}{n2 m2:Nat}(hl:∀o,o<m2→lim o=none)(hm:m2≤n2):∀{a:AV} {v:Value},VR G (a.ren σ) v→Ee m2 a→VR (G.ren σ lim n2) a v
 | .lit _,_,h,_=>by simpa only[AV.ren,VR]using h
 | .ptr o off,v,h,hb=>by
  simp only[AV.ren,VR]at h⊢;simp only[Ee]at hb;exact⟨tX hb hm,by rw[h.2];simp only[Cfg.ren,uO]⟩
 | .ip cs,v,h,hb=>by
  simp only[AV.ren,VR]at h⊢;simp only[Ee]at hb;obtain⟨ad,vs,e,hh,hr⟩:=h;exact⟨ad,vs,e,hh,VRs.ren hl hm hr hb⟩
 | .sl o off len esz cap,v,h,hb=>by
  simp only[AV.ren,VR]at h⊢;simp only[Ee]at hb;obtain⟨_,a,c,e,hlc,hs⟩:=h;refine⟨tX hb hm,a,c,e,hlc,?_⟩
  have:=hs.ren
  simp only[Cfg.ren,hl o hb,Option.getD_none];exact this
 | .imm cs len esz,v,h,hb=>by
  simp only[AV.ren,VR]at h⊢;simp only[Ee]at hb;obtain⟨ad,c,vs,e,hlc,hh,hr⟩:=h;exact⟨ad,c,vs,e,hlc,hh,VRs.ren hl hm hr hb⟩
 | .mp o,v,h,hb=>by
  simp only[AV.ren,VR]at h⊢;simp only[Ee]at hb;exact⟨tX hb hm,h.2⟩
 | .agg cs,v,h,hb=>by
  simp only[AV.ren,VR]at h⊢;simp only[Ee]at hb;obtain⟨vs,e,hr⟩:=h;exact⟨vs,e,VRs.ren hl hm hr hb⟩
 | .tup cs,v,h,hb=>by
  simp only[AV.ren,VR]at h⊢;simp only[Ee]at hb;obtain⟨vs,e,hr⟩:=h;exact⟨vs,e,VRs.ren hl hm hr hb⟩
 | .fn f a b,v,h,hb=>by
  simp only[AV.ren,VR]at h⊢;simp only[Ee]at hb;obtain⟨va,vb,e,h1,h2⟩:=h;exact⟨va,vb,e,VRs.ren hl hm h1 hb.1,VRs.ren hl hm h2 hb.2⟩
 | .emp,_,h,_=>by simpa only[AV.ren,VR]using h
 | .junk,_,_,_=>by simp only[VR]
theorem VRs.ren {G:Cfg}{σ:Nat→Nat×Nat}{lim:Nat→Option Nat}{n2 m2:Nat}(hl:∀o,o<m2→lim o=none)(hm:m2≤n2):∀{asx:List AV} {vs:List Value},VRs G (NW σ asx) vs→Ct m2 asx→VRs (G.ren σ lim n2) asx vs
 | [],_,h,_=>by simpa only[NW,VRs]using h
 | a::r,vs,h,hb=>by
  simp only[NW,VRs]at h⊢;simp only[Ct]at hb;obtain⟨v,q,e,h1,h2⟩:=h;exact⟨v,q,e,VR.ren hl hm h1 hb.1,VRs.ren hl hm h2 hb.2⟩
end
structure Canon (n0 m2:Nat)(σ:Nat→Nat×Nat)(lim:Nat→Option Nat)(H1 H2:AH):Prop where
 len:n0≤H2.length
 top:m2≤H2.length
 old:∀o,o<n0→σ o=(o,0)∧lim o=none
 low:∀o,o<m2→lim o=none
 cells:∀(o:Nat) (cs:List AV),H2[o]?=some (some (.cells cs))→∃cs1,H1[(σ o).1]?=some (some (.cells cs1))∧(σ o).2+cs.length≤cs1.length∧NW σ cs=(cs1.drop (σ o).2).take cs.length∧Ct m2 cs∧∀ℓ,lim o=some ℓ→cs.length≤ℓ
 maps:∀(o:Nat) (es:List (Value×AV)),H2[o]?=some (some (.map es))→(σ o).2=0∧∃es1,H1[(σ o).1]?=some (some (.map es1))∧es1.map Prod.fst=es.map Prod.fst∧es1.map Prod.snd=NW σ (es.map Prod.snd)∧Ct m2 (es.map Prod.snd)
 inj:∀(o o':Nat) (x x':AObj),H2[o]?=some (some x)→H2[o']?=some (some x')→(σ o).1=(σ o').1→o=o'
abbrev vR:=@Option.getD_some
theorem Canon.hr {n0 m2:Nat}{σ:Nat→Nat×Nat}{lim:Nat→Option Nat}{H1 H2:AH}(c:Canon n0 m2 σ lim H1 H2){G:Cfg}(hr:HR G H1)(hlim:∀o ℓ,lim o=some ℓ→(σ o).2+ℓ≤(G.μ (σ o).1).2.2):HR (G.ren σ lim H2.length) H2:=by
 have src:∀(o:Nat) (x:AObj),H2[o]?=some (some x)→∃x1,H1[(σ o).1]?=some (some x1):=by
  intro o x hx;cases x with
  | cells cs=>obtain⟨cs1,h1,_⟩:=c.cells o cs hx;exact⟨_,h1⟩
  | map es=>obtain⟨_,es1,h1,_⟩:=c.maps o es hx;exact⟨_,h1⟩
 refine⟨rfl,?_,?_,?_,hr.lt,hr.dis⟩
 ·intro o x hx
  cases x with
  | cells cs=>
   obtain⟨cs1,h1,h2,h3,h4,h5⟩:=c.cells o cs hx;obtain⟨cc,e,vs,q1,q2,q3,q4,q5⟩:=hr.obj _ _ h1;have hl:=q4.length
   have hlm:(lim o).getD ((G.μ (σ o).1).2.2 - (σ o).2)+(σ o).2≤(G.μ (σ o).1).2.2∧cs.length≤(lim o).getD ((G.μ (σ o).1).2.2 - (σ o).2):=by
    cases hlo:lim o with
    | none=>simp only[Option.getD_none];omega
    | some ℓ=>have:=hlim o ℓ hlo;have:=h5 ℓ hlo;simp only[vR];omega
   refine⟨cc,e,(vs.drop (σ o).2).take cs.length,q1,?_,hlm.2,?_,?_⟩
   ·show(G.μ (σ o).1).2.1+(σ o).2+(lim o).getD ((G.μ (σ o).1).2.2 - (σ o).2)≤cc.size
    omega
   ·refine VRs.ren c.low c.top ?_ h4
    rw[h3];exact(q4.drop _).take _
   ·intro i v hv
    rw[tF]at hv;split at hv
    ·rw[tG]at hv
     have:=q5 _ _ hv
     show cc[(G.μ (σ o).1).2.1+(σ o).2+i]?=some v∧_
     rw[uO];exact this
    ·cases hv
  | map es=>
   obtain⟨h0,es1,h1,h2,h3,h4⟩:=c.maps o es hx;obtain⟨ents,q1,q2,q3,q4⟩:=hr.obj _ _ h1;refine⟨ents,q1,?_,by rw[q3,h2],?_⟩
   ·refine VRs.ren c.low c.top ?_ h4
    rw[← h3];exact q2
   ·rw[q4]
    congr 1
    have:=congrArg List.length h2
    simpa using this
 ·intro o o' x x' hx hx' he
  obtain⟨x1,h1⟩:=src o x hx;obtain⟨x2,h2⟩:=src o' x' hx';exact c.inj o o' x x' hx hx' (hr.inj _ _ _ _ h1 h2 he)
 ·intro o x hx
  obtain⟨x1,h1⟩:=src o x hx;exact hr.live _ _ h1
theorem Canon.evo {n0 m2:Nat}{σ:Nat→Nat×Nat}{lim:Nat→Option Nat}{H1 H2:AH}(c:Canon n0 m2 σ lim H1 H2){G0 G:Cfg}(h0:G0.n=n0)(hE:Evo G0 G):Evo G0 (G.ren σ lim H2.length):=
 ⟨hE.os,hE.tape,hE.output,hE.size,hE.keep,by rw[h0];exact c.len,λo ho=>by
  obtain⟨hσ,hl⟩:=c.old o (by omega)
  have:=hE.μ o ho
  simp only[Cfg.ren,hσ,hl,uU,Nat.sub_zero,Option.getD_none];exact this,hE.K⟩
section
variable {P : Program}
def belH (H:AH):Prop:=∀(o:Nat) (x:AObj),H[o]?=some (some x)→x.bel H.length
theorem HR.belH {G:Cfg}{H:AH}(hr:HR G H):belH H:=λo x hx=>by rw[← hr.n];exact(hr.obj o x hx).bel
theorem ACalls.canon {f:FuncId}{args:List AV}{H H2:AH}{R:AV→AH→Prop}{r2:AV}(h:ACalls P f args H R)
  (hc:belH H→∀r1 H1,R r1 H1→∃m2 σ lim,Canon H.length m2 σ lim H1 H2∧∀G v,HR G H1→VR G r1 v→VR (G.ren σ lim H2.length) r2 v∧∀o ℓ,lim o=some ℓ→(σ o).2+ℓ≤(G.μ (σ o).1).2.2):BCall P f args H r2 H2:=by
 intro G vs hH hv;refine(h G vs hH hv).mono ?_;rintro e w' ⟨r1,H1,G',v,rfl,rfl,hE,hx,hX,hq⟩;obtain⟨m2,σ,lim,c,hs⟩:=hc hH.belH r1 H1 hq;obtain⟨hs1,hs2⟩:=hs G' v hX hx;exact⟨r2,H2,G'.ren σ lim H2.length,v,rfl,rfl,c.evo hH.n hE,hs1,c.hr hX hs2,rfl,rfl⟩
theorem ACalls.room {f:FuncId}{o off len esz k:Nat}{args:List AV}{H:AH}{R:AV→AH→Prop}(h:∀c,k≤c→len≤c→ACalls P f (.sl o off len esz (.ex c)::args) H R):ACalls P f (.sl o off len esz (.ge k)::args) H R:=by
 intro G vs hH hv;simp only[VRs]at hv;obtain⟨v,r,rfl,h1,h2⟩:=hv;simp only[VR]at h1;obtain⟨ho,a,c,rfl,hl,hs⟩:=h1;simp only[SlAt]at hs;refine h c hs.1 hl G _ hH (.cons ?_ h2);simp only[VR];refine⟨ho,a,c,rfl,hl,rfl,hs.2.imp id λh3=>⟨h3.1,by have:=h3.2;omega⟩⟩
end
def kU:Nat→Nat×Nat:=λo=>(o,0)
def jB (n o off:Nat):Nat→Nat×Nat:=λp=>if p=n then(o,off)else(p,0)
def Va (n l:Nat):Nat→Option Nat:=λp=>if p=n then some l else none
theorem Canon.grown {H:AH}(hb:belH H){o:Nat}{N:List AV}(hN:Ct H.length N):Canon H.length H.length kU aL (H++[some (.cells N)]) (H.set o none++[some (.cells N)]):=by
 have get:∀(p:Nat) (x:AObj),(H.set o none++[some (.cells N)])[p]?=some (some x)→(H++[some (.cells N)])[p]?=some (some x)∧x.bel H.length:=by
  intro p x hx
  by_cases hp:p<H.length
  ·rw[sW (by simpa using hp),uQ]at hx
   rw[sW hp];split at hx
   ·split at hx<;>simp at hx
   ·exact⟨hx,hb p x hx⟩
  ·rw[tA (by simpa using hp)]at hx
   rw[tA (by omega)];simp only[tM]at hx;refine⟨hx,?_⟩
   have:p - H.length=0:=by
    have:=(B5.1 hx).1
    simp at this;omega
   rw[this]at hx;simp at hx;rw[← hx];exact hN
 refine⟨by simp,by simp,λp hp=>⟨rfl,rfl⟩,λp hp=>rfl,?_,?_,?_⟩
 ·intro p cs hx
  obtain⟨h1,h2⟩:=get p _ hx;refine⟨cs,h1,by simp[kU],?_,h2,λℓ h=>by cases h⟩;rw[CV (σ:=kU) (m:=H.length) (λ_ _=>rfl) h2];simp[kU]
 ·intro p es hx
  obtain⟨h1,h2⟩:=get p _ hx;exact⟨rfl,es,h1,rfl,(CV (σ:=kU) (m:=H.length) (λ_ _=>rfl) h2).symm,h2⟩
 ·intro p p' x x' _ _ h
  exact h
theorem Canon.placed {H:AH}(hb:belH H){o off l:Nat}{N cs1:List AV}(ho:o<H.length)(hN:Ct H.length N)(hl:off+N.length≤cs1.length)(he:(cs1.drop off).take N.length=N)(hll:N.length≤l):
  Canon H.length H.length (jB H.length o off) (Va H.length l) (H.set o (some (.cells cs1))) (H.set o none++[some (.cells N)]):=by
 have sm:∀p,p<H.length→jB H.length o off p=(p,0):=λp hp=>by unfold jB;rw[if_neg (by omega)]
 have sl:∀p,p<H.length→Va H.length l p=none:=λp hp=>by unfold Va;rw[if_neg (by omega)]
 have get:∀(p:Nat) (x:AObj),(H.set o none++[some (.cells N)])[p]?=some (some x)→(p<H.length∧p≠o∧(H.set o (some (.cells cs1)))[p]?=some (some x)∧x.bel H.length)∨(p=H.length∧x=.cells N):=by
  intro p x hx
  by_cases hp:p<H.length
  ·left
   rw[sW (by simpa using hp),uQ]at hx;split at hx
   ·simp at hx
   ·rename_i hne
    exact⟨hp,λh=>hne h.symm,by rw[Co hne];exact hx,hb p x hx⟩
  ·right
   rw[tA (by simpa using hp)]at hx;simp only[tM]at hx
   have:p - H.length=0:=by
    have:=(B5.1 hx).1
    simp at this;omega
   rw[this]at hx;simp at hx;exact⟨by omega,hx.symm⟩
 refine⟨by simp,by simp,λp hp=>⟨sm p hp,sl p hp⟩,sl,?_,?_,?_⟩
 ·intro p cs hx
  rcases get p _ hx with⟨h0,_,h1,h2⟩ | ⟨rfl,h⟩
  ·refine⟨cs,by rw[sm p h0];exact h1,by rw[sm p h0];simp,?_,h2,λℓ h=>by rw[sl p h0]at h;cases h⟩
   rw[CV sm h2,sm p h0];simp
  ·injection h with h
   subst h;have e:jB H.length o off H.length=(o,off):=if_pos rfl;refine⟨cs1,by rw[e];simp[ho],by rw[e];exact hl,?_,hN,λℓ h=>?_⟩
   ·rw[CV sm hN,e];exact he.symm
   ·unfold Va at h
    rw[if_pos rfl]at h;injection h with h;omega
 ·intro p es hx
  rcases get p _ hx with⟨h0,_,h1,h2⟩ | ⟨_,h⟩
  ·exact⟨by rw[sm p h0],es,by rw[sm p h0];exact h1,rfl,(CV sm h2).symm,h2⟩
  ·cases h
 ·intro p p' x x' hx hx' h
  have e:jB H.length o off H.length=(o,off):=if_pos rfl;rcases get p _ hx with⟨h0,h0',_,_⟩ | ⟨rfl,_⟩<;>rcases get p' _ hx' with⟨k0,k0',_,_⟩ | ⟨rfl,_⟩
  ·rw[sm p h0,sm p' k0]at h;exact h
  ·rw[sm p h0,e]at h;exact(h0' h).elim
  ·rw[sm p' k0,e]at h;exact(k0' h.symm).elim
  ·rfl
end
section
section
variable {P : Program}
def W7 (P:Program)(sz bytes:Nat)(zc:List AV)(ov rot:FuncId)(a0 a1 a2:AV)(H:AH)(K:AV→AH→Prop):Prop:=
 bO (AT sz a0 (some a1) none none) λv0=>
 bO (Be a2) λv1=>
 bO (Ax .eql v1 (I 0)) λv2=>
 bB v2 λt3=>bI t3 (
 K a0 H)
 (bO (Be a0) λv4=>
 bO (Ax .eql a1 v4) λv5=>
 bB v5 λt6=>bI t6 (
 bH (Oo sz bytes H a0 a2) λv7 H8=>
 K v7 H8)
 (bO (Ax .add v4 v1) λv9=>
 bO (Sg a0) λv10=>
 bO (Ax .gtr v9 v10) λv11=>
 bB v11 λt12=>bI t12 (
 bO (AT sz a0 none (some a1) none) λv13=>
 bO (Ax .add v4 v1) λv14=>
 bO (Ax .sub v14 a1) λv15=>
 bH (Ii H sz bytes zc v13 v15) λv16 H17=>
 bO (AT sz v16 (some a1) none none) λv18=>
 bH (MK sz H17 v18 a2) λv19 H20=>
 bO (Ax .add a1 v1) λv21=>
 bO (AT sz v16 (some v21) none none) λv22=>
 bO (AT sz a0 (some a1) none none) λv23=>
 bH (MK sz H20 v22 v23) λv24 H25=>
 K v16 H25)
 (bO (Ax .add v4 v1) λv26=>
 bO (AT sz a0 none (some v26) none) λv27=>
 bO (Ax .add a1 v1) λv28=>
 bO (AT sz v27 (some v28) none none) λv29=>
 bP (ExtR P ov [a2,v29] H) λv30=>
 bO (E4 .not v30) λv31=>
 bB v31 λt32=>bI t32 (
 bO (Ax .add a1 v1) λv33=>
 bO (AT sz v27 (some v33) none none) λv34=>
 bO (AT sz v27 (some a1) none none) λv35=>
 bH (MK sz H v34 v35) λv36 H37=>
 bO (AT sz v27 (some a1) none none) λv38=>
 bH (MK sz H37 v38 a2) λv39 H40=>
 K v27 H40)
 (bO (AT sz v27 (some v4) none none) λv41=>
 bH (MK sz H v41 a2) λv42 H43=>
 bO (AT sz v27 (some a1) none none) λv44=>
 bC (BCall P rot [v44,v1] H43) λv45 H46=>
 K v27 H46))))
def BV (s:AV)(n:Nat):Prop:=match s with
 | .sl _ _ _ _ cap=>n≤cap.least
 | _=>True
theorem Qf {H:AH}{sz o off len o2 off2 m:Nat}{cap cap2:Room}{cs cs2:List AV}(ho:H[o]?=some (some (.cells cs)))(h2:H[o2]?=some (some (.cells cs2)))(hoff:off≤cs.length)(ht:off2+min m len*sz≤cs2.length):
  MK sz H (.sl o off len sz cap) (.sl o2 off2 m sz cap2)=some (I ((min m len:Nat):Int),H.set o (some (.cells (over cs off ((cs2.drop off2).take (min m len*sz)))))):=by
 unfold MK Ze
 by_cases h:off2+m*sz≤cs2.length
 ·have e:AX H sz (.sl o2 off2 m sz cap2)=some ((cs2.drop off2).take (m*sz),m):=AJ (by simp[Aa,h2,h])
  have hm:min (min m len*sz) (m*sz)=min m len*sz:=vH (tE _ (xB _ _));rw[e];simp only[ho,hoff,and_self,if_true,uV,hm]
 ·have e:AX H sz (.sl o2 off2 m sz cap2)=none:=by simp[AX,Aa,h2,h]
  rw[e];simp[cU,ho,h2,hoff,ht]
theorem MO {sz bytes:Nat}{H:AH}{s x r:AV}{H':AH}{cs ds:List AV}{n m:Nat}(h1:Aa H sz s=some (cs,n))(ho:AM s=true)(h2:AX H sz x=some (ds,m))(hc:BV s n)(h:Oo sz bytes H s x=some (r,H')):BV r (n+m):=by
 unfold Oo at h;rw[h2]at h;simp only at h;unfold Aa at h1;split at h1
 ·simp[AM]at ho
 ·rename_i o off len esz cap
  split at h1
  ·rename_i c hoc
   split at h1
   ·rename_i hb1
    obtain⟨rfl,hfit⟩:=hb1;injection h1 with h1;injection h1 with h3 h4;subst h3;subst h4;unfold J0 at h;simp only[hoc,rM,false_or,hfit]at h;cases cap with
    | ex k=>
     simp only at h;split at h
     ·injection h with h;injection h with h h';subst h;simpa[BV,Room.least]
     ·split at h
      ·injection h with h;injection h with h h';subst h;simp[BV,Room.least]
      ·cases h
    | ge k=>
     simp only at h;split at h
     ·rename_i hm
      injection h with h;injection h with h h';subst h;subst hm;simpa using hc
     ·split at h
      ·injection h with h;injection h with h h';subst h;simpa[BV,Room.least]
      ·split at h
       ·injection h with h;injection h with h h';subst h;simp[BV,Room.least]
       ·cases h
   ·cases h1
  ·cases h1
 ·injection h1 with h1
  injection h1 with h3 h4;subst h3;subst h4;unfold J0 at h;simp only at h;split at h
  ·injection h with h;injection h with h h';subst h;simp[BV]
  ·split at h
   ·injection h with h;injection h with h h';subst h;simp[BV,Room.least]
   ·cases h
 ·injection h1 with h1
  injection h1 with h3 h4;subst h3;subst h4;unfold J0 at h;simp only at h;split at h
  ·injection h with h;injection h with h h';subst h;simp[BV]
  ·split at h
   ·injection h with h;injection h with h h';subst h;simp[BV,Room.least]
   ·cases h
 ·cases h1
def cN (sz:Nat)(H:AH)(s:AV)(N:List AV)(n:Nat)(r:AV)(H':AH):Prop:=
 AM r=true∧Aa H' sz r=some (N,n+1)∧H.length≤H'.length∧(∀i,i<H.length→i∉AP s→H'[i]?=H[i]?)∧(∀i∈AP r,i∈AP s∨H.length≤i)∧BV r (n+1)
theorem eX {sz bytes:Nat}{zc:List AV}{ov rot:FuncId}{H:AH}{s a2:AV}{cs xs:List AV}{n:Nat}(hs:Aa H sz s=some (cs,n))(ho:AM s=true)(hc:BV s n)(ha:Be a2=some (I 1))(hx:AX H sz a2=some (xs,1))(hb:(n+1)*bytes≤140737488355328):
  ∃r H',cN sz H s (cs++xs) n r H'∧W7 P sz bytes zc ov rot s (I n) a2 H λr' H''=>r'=r∧H''=H':=by
 obtain⟨r0,a0,-⟩:=Eu hs (lo:=some (I n)) (hi:=none) (l:=n) (k:=n) (by simp[Bk]) rfl (sY _) (sY _);obtain⟨r,H2,a1,a2',a3,a4,a5,a6⟩:=DK (bytes:=bytes) hs ho hx hb;refine⟨r,H2,⟨a2',a3,a4,a5,a6,MO hs ho hx hc a1⟩,?_⟩;unfold W7;simp[a0,ha,Bz hs,a1]
abbrev wD:=@List.drop_eq_nil_of_le
theorem ZY {sz bytes:Nat}{zc:List AV}{ov rot:FuncId}(hz:zc.length=sz){H:AH}{o off n oj i:Nat}{cells xs:List AV}(hc:H[o]?=some (some (.cells cells)))(hl:off+n*sz≤cells.length)(hi:i<n)(hn:n≤100000000)(hv:H[oj]?=some (some (.cells xs)))(hxl:xs.length=sz)(hby:(n+1)*bytes≤140737488355328):
  W7 P sz bytes zc ov rot (.sl o off n sz (.ex n)) (I i) (.sl oj 0 1 sz (.ex 1)) H λr H'=>r=.sl H.length 0 (n+1) sz (.ge (n+1))∧
   H'=H++[some (.cells ((cells.drop off).take (i*sz)++xs++(cells.drop (off+i*sz)).take ((n - i)*sz)))]:=by
 unfold W7;have h1:¬(i:Int)=n:=by omega
 have hmi:i*sz≤n*sz:=tE _ (by omega);have hmn:i*sz+(n - i)*sz=n*sz:=by rw[← uR];congr 1;omega
 have hms:(i+1)*sz=i*sz+sz:=uG _ _;have hmr:(n+1 - i)*sz=(n - i)*sz+sz:=by rw[show n+1 - i=(n - i)+1 by omega,uG]
 simp[AT,Bk,Room.least,Room.cut,Sg,goInt,h1,show i≤n by omega,Az (a:=n) (b:=1) (by omega) (by omega),Ci (a:=(n:Int)+1) (b:=i) (by omega) (by omega),Ii,hc,hl,Az (a:=i) (b:=1) (by omega) (by omega),-Bo];have e1:i+(n+1 - i)=n+1:=by omega
 have h2:off+i*sz≤cells.length:=by omega
 simp only[e1];simp[h2,show(i:Int)<n+1 by omega,show(n:Int)<n+1 by omega,hby,show i≤n+1 by omega,show i+1≤n+1 by omega,-Bo];have zl:(Bo zc (n+1 - i)).length=(n+1 - i)*sz:=by rw[CI,hz]
 generalize Bo zc (n+1 - i)=Z at zl;have hA:(List.take (i*sz) (List.drop off cells)).length=i*sz:=by rw[sX,tC];omega
 generalize hAe:List.take (i*sz) (List.drop off cells)=A at hA;have hov:=(B5.1 hv).1;have ho:=(B5.1 hc).1;have m1:min 1 (n+1 - i)=1:=by omega
 rw[Qf (cs:=A++Z) (cs2:=xs) (by simp) (by rw[sW hov];exact hv) (by simp[hA]) (by rw[m1];omega)];simp[show(0:Int)≤(i:Int)+1 by omega,show i+1≤n+1 by omega]
 have o1:over (A++Z) (i*sz) (List.take (min 1 (n+1 - i)*sz) xs)=A++xs++Z.drop sz:=by
  rw[m1,sZ (by rw[hxl];omega)];unfold over;rw[tJ (by omega),sZ (by omega),hxl,← hA,List.drop_append,vZ,wD (by omega),uS]
 rw[o1,Qf (cs:=A++xs++Z.drop sz) (cs2:=cells) (by simp) (by rw[sW ho];exact hc) (by simp[hA,hxl];omega) (by rw[Nat.min_self];omega)];have hB:(List.take ((n - i)*sz) (List.drop (off+i*sz) cells)).length=(n - i)*sz:=by rw[sX,tC];omega
 simp;generalize List.take ((n - i)*sz) (List.drop (off+i*sz) cells)=B' at hB;unfold over;have l1:(A++xs).length=(i+1)*sz:=by rw[tH,hA,hxl];omega
 rw[← tI,tJ (by omega),sZ (by omega),wD (by rw[tH,l1,tC,hB];omega),uI,tI]
abbrev xI:=@List.drop_left
theorem Yw {sz bytes:Nat}{zc:List AV}{ov rot:FuncId}(h0:0<sz){H:AH}{o off n oj i c:Nat}{cells xs:List AV}(hc:H[o]?=some (some (.cells cells)))(hl:off+n*sz≤cells.length)(hi:i<n)(hn:n≤100000000)(hcn:n+1≤c)(hv:H[oj]?=some (some (.cells xs)))(hxl:xs.length=sz)(hne:oj≠o)
  (hov:∀q l k,k≠0→ExtR P ov [.sl oj 0 1 sz (.ex 1),.sl o q l sz (.ex k)] H (B false)):
  W7 P sz bytes zc ov rot (.sl o off n sz (.ex c)) (I i) (.sl oj 0 1 sz (.ex 1)) H λr H'=>r=.sl o off (n+1) sz (.ex c)∧
   ∃rest,H'=H.set o (some (.cells (cells.take (off+i*sz)++xs++(cells.drop (off+i*sz)).take ((n - i)*sz)++rest))):=by
 unfold W7;have h1:¬(i:Int)=n:=by omega
 have hmi:i*sz≤n*sz:=tE _ (by omega);have hmn:i*sz+(n - i)*sz=n*sz:=by rw[← uR];congr 1;omega
 have hms:(i+1)*sz=i*sz+sz:=uG _ _;have hms2:(i+1)*sz≤n*sz:=tE _ (by omega);simp[AT,Bk,Room.least,Room.cut,Sg,goInt,h1,show i≤n by omega,Az (a:=n) (b:=1) (by omega) (by omega),Ci (a:=(n:Int)+1) (b:=i) (by omega) (by omega),hc,hl,Az (a:=i) (b:=1) (by omega) (by omega),show i≤c by omega,show n≤c by omega,show ¬(c:Int)<n+1 by omega,hcn,show(0:Int)≤(n:Int)+1 by omega,show(0:Int)≤(i:Int)+1 by omega,show i+1≤n+1 by omega,show i+1≤c by omega];refine bP_of (hov _ _ _ (by omega)) ?_;simp;have ho:=(B5.1 hc).1;have mm:min (n+1 - i) (n - i)=n - i:=by omega
 have m1:min 1 (n+1 - i)=1:=by omega
 simp only[show i≤n+1 by omega,if_true,Ab];rw[Qf (cs:=cells) (cs2:=cells) hc hc (by omega) (by rw[mm];omega),mm];have hB:(List.take ((n - i)*sz) (List.drop (off+i*sz) cells)).length=(n - i)*sz:=by rw[sX,tC];omega
 generalize List.take ((n - i)*sz) (List.drop (off+i*sz) cells)=B' at hB;simp only[A1];have l1:(cells.take (off+(i+1)*sz)).length=off+(i+1)*sz:=by rw[sX];omega
 rw[Qf (cs:=over cells (off+(i+1)*sz) B') (cs2:=xs) (by simp[ho]) (by rw[Co (uC hne)];exact hv) (by unfold over;simp[l1];omega) (by rw[m1];omega),m1,sZ (l:=xs.drop 0) (by simp[hxl])];simp only[A1,List.set_set,uA];refine⟨(cells.drop (off+(i+1)*sz+B'.length)),?_⟩
 congr 3
 unfold over;rw[hxl]
 have t1:List.take (off+i*sz) (cells.take (off+(i+1)*sz)++B'++cells.drop (off+(i+1)*sz+B'.length))=cells.take (off+i*sz):=by
  rw[tI,tJ (by omega),uV,vH (by omega)]
 have t2:List.drop (off+i*sz+sz) (cells.take (off+(i+1)*sz)++B'++cells.drop (off+(i+1)*sz+B'.length))=B'++cells.drop (off+(i+1)*sz+B'.length):=by
  rw[tI,show off+i*sz+sz=(cells.take (off+(i+1)*sz)).length by omega,xI]
 rw[t1,t2,tI]
theorem O3 {m:Nat}:∀{a b:List AV},Ct m a→Ct m b→Ct m (a++b)
 | [],b,_,h=>h
 | x::a,b,h1,h2=>by simp only[Ct,vY]at h1⊢;exact⟨h1.1,O3 h1.2 h2⟩
theorem Lp {m:Nat}:∀{a:List AV},Ct m a↔∀x∈a,Ee m x
 | []=>by simp[Ct]
 | x::a=>by simp only[Ct,tU,forall_eq_or_imp,Lp (a:=a)]
abbrev tQ:=@List.drop_of_length_le
theorem ZZ {sz bytes:Nat}{zc:List AV}{f ov rot:FuncId}(h0:0<sz)(hz:zc.length=sz)(hF:∀a0 a1 a2 H K,W7 P sz bytes zc ov rot a0 a1 a2 H K→ACalls P f [a0,a1,a2] H K){H:AH}{s:AV}{cs xs:List AV}{n oj i:Nat}(hs:Aa H sz s=some (cs,n))(ho:AM s=true)(hcap:BV s n)(hi:i≤n)(hn:n≤1000000)(hby:bytes≤1000000)(hv:H[oj]?=some (some (.cells xs)))(hxl:xs.length=sz)(hne:oj∉AP s)
  (hxb:∀m,Ct m xs) (hov:∀{o q l k:Nat} {cells:List AV},H[o]?=some (some (.cells cells))→oj≠o→k≠0→cells≠[]→ExtR P ov [.sl oj 0 1 sz (.ex 1),.sl o q l sz (.ex k)] H (B false)):
  ∃r H',cN sz H s (cs.take (i*sz)++xs++cs.drop (i*sz)) n r H'∧BCall P f [s,I i,.sl oj 0 1 sz (.ex 1)] H r H':=by
 have hcl:=BL hs;have hbb:(n+1)*bytes≤140737488355328:=tL (Nat.mul_le_mul (show n+1≤1000001 by omega) hby) (by omega);rcases tD i n with h | h
 ·obtain⟨o,off,cap,cells,rfl,hc,hl,rfl⟩:=Gl hs ho (by omega)
  have hoj:oj≠o:=by simpa[AP]using hne
  have hol:=(B5.1 hc).1;have hmi:i*sz≤n*sz:=tE _ (by omega);have hmn:i*sz+(n - i)*sz=n*sz:=by rw[← uR];congr 1;omega
  have hmn1:(n+1)*sz=n*sz+sz:=uG _ _;have hsz1:sz≤n*sz:=by have:=tE sz (show 1≤n by omega);omega
  have hcne:cells≠[]:=λhh=>by rw[hh]at hl;simp at hl;omega
  have e1:((cells.drop off).take (n*sz)).take (i*sz)=(cells.drop off).take (i*sz):=by rw[uV];congr 1;omega
  have e2:((cells.drop off).take (n*sz)).drop (i*sz)=(cells.drop (off+i*sz)).take ((n - i)*sz):=by rw[vQ,uY];congr 1;omega
  rw[e1,e2];generalize hN:(cells.drop off).take (i*sz)++xs++(cells.drop (off+i*sz)).take ((n - i)*sz)=N
  have hNl:N.length=(n+1)*sz:=by
   rw[← hN,tH,tH,hxl,sX,sX,tC,tC];omega
  have hall:∀c,n≤c→ACalls P f [.sl o off n sz (.ex c),I i,.sl oj 0 1 sz (.ex 1)] H λr H'=>
    (r=.sl H.length 0 (n+1) sz (.ge (n+1))∧H'=H++[some (.cells N)])∨∃c rest,n+1≤c∧r=.sl o off (n+1) sz (.ex c)∧H'=H.set o (some (.cells (cells.take off++N++rest))):=by
   intro c hcn;rcases tD n c with h' | h'
   ·refine(hF _ _ _ _ _ (Yw h0 hc hl h (by omega) h' hv hxl hoj λq l k hk=>hov hc hoj hk hcne)).mono ?_
    rintro r H' ⟨rfl,rest,rfl⟩;refine .inr ⟨c,rest,h',rfl,?_⟩
    congr 3
    rw[← hN,wR off (i*sz),wR (i*sz) off];have:cells.take (off+i*sz)=cells.take off++(cells.drop off).take (i*sz):=by rw[List.take_add]
    rw[this];simp[tI]
   ·have:c=n:=by omega
    subst this;refine(hF _ _ _ _ _ (ZY hz hc hl h (by omega) hv hxl hbb)).mono ?_;rintro r H' ⟨rfl,rfl⟩;exact .inl ⟨rfl,by rw[hN]⟩
  have hany:ACalls P f [.sl o off n sz cap,I i,.sl oj 0 1 sz (.ex 1)] H λr H'=>
    (r=.sl H.length 0 (n+1) sz (.ge (n+1))∧H'=H++[some (.cells N)])∨∃c rest,n+1≤c∧r=.sl o off (n+1) sz (.ex c)∧H'=H.set o (some (.cells (cells.take off++N++rest))):=by
   cases cap with
   | ge k=>exact ACalls.room λc _ h=>hall c h
   | ex c=>exact hall c (by simpa[BV,Room.least]using hcap)
  refine⟨.sl H.length 0 (n+1) sz (.ge (n+1)),H.set o none++[some (.cells N)],⟨rfl,?_,by simp,λj hj hn=>?_,λj hj=>.inr (by simp[AP]at hj;omega),by simp[BV,Room.least]⟩,?_⟩
  ·rw[AA (c:=N) (by rw[tA (by simp)];simp) (by omega)]
   rw[uA,sZ (by omega)]
  ·rw[sW (by simpa using hj),Co (by simp[AP]at hn;omega)]
  refine ACalls.canon hany ?_;rintro hb r1 H1 h1
  have hbN:Ct H.length N:=by
   have hbc:Ct H.length cells:=hb o _ hc;rw[Lp]at hbc;rw[← hN];refine O3 (O3 ?_ (hxb _)) ?_
   ·rw[Lp];exact λa ha=>hbc a (uX (uM ha))
   ·rw[Lp];exact λa ha=>hbc a (uX (uM ha))
  rcases h1 with⟨rfl,rfl⟩ | ⟨c,rest,hcn,rfl,rfl⟩
  ·refine⟨_,_,_,Canon.grown hb hbN,?_⟩
   intro G v hG hr;refine⟨?_,λp ℓ h=>by cases h⟩;simp only[VR]at hr⊢;obtain⟨q0,a,c,rfl,hlc,hs⟩:=hr;refine⟨by simp[Cfg.ren],a,c,rfl,hlc,?_⟩
   simpa[Cfg.ren,kU,aL]using hs
  ·have hcs:(n+1)*sz≤c*sz:=tE _ hcn
   refine⟨_,_,_,Canon.placed (off:=off) (l:=c*sz) hb hol hbN (cs1:=cells.take off++N++rest) ?_ ?_ ?_,?_⟩
   ·simp;omega
   ·have:(cells.take off).length=off:=by rw[sX];omega
    rw[tI]
    conv=>lhs;arg 2;arg 1;rw[← this]
    rw[xI,List.take_left]
   ·rw[hNl];omega
   ·intro G v hG hr
    simp only[VR]at hr;obtain⟨q0,a,c',rfl,hlc,hs⟩:=hr;simp only[SlAt]at hs;obtain⟨rfl,hs⟩:=hs;have hs:=hs.resolve_left (by omega);obtain⟨rfl,hs2⟩:=hs;have e:jB H.length o off H.length=(o,off):=if_pos rfl;have e2:Va H.length (c'*sz) H.length=some (c'*sz):=if_pos rfl;refine⟨?_,?_⟩
    ·simp only[VR]
     refine⟨by simp[Cfg.ren],_,c',rfl,by omega,?_⟩;simp only[SlAt];refine⟨hcn,.inr ⟨by simp[Cfg.ren,e],?_⟩⟩;simp[Cfg.ren,e2]
    ·intro p ℓ h
     unfold Va at h;split at h
     ·rename_i hp
      injection h with h;subst hp;subst h;rw[e];omega
     ·cases h
 ·have:i=n:=by omega
  subst this
  have hx:AX H sz (.sl oj 0 1 sz (.ex 1))=some (xs,1):=AJ (by
   rw[show sz=1*sz by omega]at hxl;rw[AA hv (by omega),uA,sZ (by omega)])
  obtain⟨r,H',h1,h2⟩:=eX (P:=P) (zc:=zc) (ov:=ov) (rot:=rot) hs ho hcap rfl hx hbb;refine⟨r,H',?_,(hF _ _ _ _ _ h2)⟩;rw[sZ (by omega),tQ (by omega),uI];exact h1
end
end
section
mutual
theorem WF {m:Nat}:∀{a:AV},noIds a=true→Ee m a
 | .lit _,_=>by simp only[Ee]
 | .ptr ..,h=>by simp[noIds]at h
 | .ip cs,h=>by simp only[noIds]at h;simp only[Ee];exact D9 h
 | .sl ..,h=>by simp[noIds]at h
 | .imm cs _ _,h=>by simp only[noIds]at h;simp only[Ee];exact D9 h
 | .mp _,h=>by simp[noIds]at h
 | .agg cs,h=>by simp only[noIds]at h;simp only[Ee];exact D9 h
 | .tup cs,h=>by simp only[noIds]at h;simp only[Ee];exact D9 h
 | .fn _ a b,h=>by simp only[noIds,tO]at h;simp only[Ee];exact⟨D9 h.1,D9 h.2⟩
 | .emp,_=>by simp only[Ee]
 | .junk,_=>by simp only[Ee]
theorem D9 {m:Nat}:∀{xs:List AV},Ay xs=true→Ct m xs
 | [],_=>by simp only[Ct]
 | a::r,h=>by simp only[Ay,tO]at h;simp only[Ct];exact⟨WF h.1,D9 h.2⟩
end
section
variable {P : Program}
def oE (sz bytes:Nat)(zc:List AV)(a0 a1 a2:AV)(H:AH)(K:AV→AH→Prop):Prop:=
 bO (Be a0) λv0=>
 bO (AT sz a0 (some a1) (some a2) (some v0)) λv1=>
 bO (Ax .eql a1 a2) λv2=>
 bB v2 λt3=>bI t3 (
 K a0 H)
 (bO (Be a0) λv4=>
 bO (AT sz a0 none (some a1) none) λv5=>
 bO (AT sz a0 (some a2) none none) λv6=>
 bH (Oo sz bytes H v5 v6) λv7 H8=>
 bO (Be v7) λv9=>
 bO (AT sz v7 (some v9) (some v4) none) λv10=>
 bS (cG zc H8 v10) λH11=>
 K v7 H11)
def iI (sz:Nat)(H:AH)(s:AV)(N:List AV)(n:Nat)(r:AV)(H':AH):Prop:=
 AM r=true∧Aa H' sz r=some (N,n)∧H'.length=H.length∧(∀i,i∉AP s→H'[i]?=H[i]?)∧AP r=AP s∧BV r n
abbrev rA:=And.intro @Ab @Ag
theorem ZK {sz bytes:Nat}{zc:List AV}(h0:0<sz)(hz:zc.length=sz){H:AH}{s:AV}{cs:List AV}{n i:Nat}(hs:Aa H sz s=some (cs,n+1))(ho:AM s=true)(hcap:BV s (n+1))(hi:i≤n)(hn:n≤1000000)(hby:bytes≤1000000):
  ∃r H',iI sz H s (cs.take (i*sz)++cs.drop ((i+1)*sz)) n r H'∧oE sz bytes zc s (I i) (I ((i:Int)+1)) H λr' H''=>r'=r∧H''=H':=by
 obtain⟨o,off,cap,cells,rfl,hc,hl,rfl⟩:=Gl hs ho (by omega);have hol:=(B5.1 hc).1;have hms:(i+1)*sz=i*sz+sz:=uG _ _;have hns:(n+1)*sz=n*sz+sz:=uG _ _;have hmi:i*sz≤n*sz:=tE _ (by omega);have hmn:(i+1)*sz+(n - i)*sz=(n+1)*sz:=by rw[← uR];congr 1;omega
 obtain⟨cap',hcap1,hcap2⟩:∃cap',Room.cut (n+1) 0 cap=cap'∧n+1≤cap'.least:=by
  refine⟨_,rfl,?_⟩;cases cap<;>simp_all[Room.cut,Room.least,BV]<;>omega
 have hap:∃H8,Oo sz bytes H (.sl o off i sz cap') (.sl o (off+(i+1)*sz) (n - i) sz (cap.cut (n+1) (i+1)))=some (.sl o off n sz cap',H8)∧H8.length=H.length∧(∀j,j≠o→H8[j]?=H[j]?)∧H8[o]?=some (some (.cells (over cells (off+i*sz) ((cells.drop (off+(i+1)*sz)).take ((n - i)*sz))))):=by
  have e:AX H sz (.sl o (off+(i+1)*sz) (n - i) sz (cap.cut (n+1) (i+1)))=some ((cells.drop (off+(i+1)*sz)).take ((n - i)*sz),n - i):=AJ (by rw[AA hc (by omega)]);unfold Oo;rw[e];simp only[J0,hc];rw[if_neg (by simp;omega)];have hin:i+(n - i)=n:=by omega
  cases cap' with
  | ex k=>
   simp only[Room.least]at hcap2;simp only[hin,show n≤k by omega,if_true];exact⟨_,rfl,by simp,λj hj=>by rw[Co (uC hj)],by simp[hol]⟩
  | ge k=>
   simp only[Room.least]at hcap2
   by_cases h:n - i=0
   ·have:i=n:=by omega
    subst this;simp only[h,if_true];refine⟨_,rfl,rfl,λ_ _=>rfl,?_⟩;rw[hc];simp[over]
   ·simp only[h,if_false,hin,show n≤k by omega,if_true]
    exact⟨_,rfl,by simp,λj hj=>by rw[Co (uC hj)],by simp[hol]⟩
 obtain⟨H8,hA,hL,hO,hC⟩:=hap;have hDl:((cells.drop (off+(i+1)*sz)).take ((n - i)*sz)).length=(n - i)*sz:=by rw[sX,tC];omega
 have hcl:(over cells (off+i*sz) ((cells.drop (off+(i+1)*sz)).take ((n - i)*sz))).length=cells.length:=Fy (by rw[hDl];omega);have hol8:o<H8.length:=by omega
 refine⟨.sl o off n sz cap',H8.set o (some (.cells (over (over cells (off+i*sz) ((cells.drop (off+(i+1)*sz)).take ((n - i)*sz))) (off+n*sz) (Bo zc 1)))),⟨rfl,?_,?_,λj hj=>?_,rfl,by simp only[BV];omega⟩,?_⟩
 rotate_left 3
 ·unfold oE
  have q1:((i:Int)+1)=((i+1:Nat):Int):=by omega
  have w1:Be (.sl o off (n+1) sz cap)=some (I ((n+1:Nat):Int)):=rfl;have hcl':n+1≤cap.least:=hcap
  have w2:∃v,AT sz (.sl o off (n+1) sz cap) (some (I i)) (some (I ((i+1:Nat):Int))) (some (I ((n+1:Nat):Int)))=some v:=by
   refine⟨.sl o (off+i*sz) (i+1 - i) sz (.ex (n+1 - i)),?_⟩;simp[AT,Bk,goInt,show(0:Int)≤(i:Int)+1 by omega,show(0:Int)≤(n:Int)+1 by omega];omega
  obtain⟨v,w2⟩:=w2
  have w3:AT sz (.sl o off (n+1) sz cap) none (some (I i)) none=some (.sl o off i sz cap'):=by
   rw[← hcap1];simp[AT,Bk,goInt];omega
  have w4:AT sz (.sl o off (n+1) sz cap) (some (I ((i+1:Nat):Int))) none none=some (.sl o (off+(i+1)*sz) (n - i) sz (cap.cut (n+1) (i+1))):=by
   have:((i:Int)+1)=((i+1:Nat):Int):=by omega
   simp[AT,Bk,goInt,this,-Int.natCast_add];omega
  have w5:AT sz (.sl o off n sz cap') (some (I n)) (some (I ((n+1:Nat):Int))) none=some (.sl o (off+n*sz) 1 sz (cap'.cut n n)):=by
   simp[AT,Bk,goInt,show(0:Int)≤(n:Int)+1 by omega];omega
  have w6:Ax .eql (I i) (I ((i+1:Nat):Int))=some (B false):=by simp;omega
  rw[q1,w1];simp only[rA,w2,w6,Ah,w3,w4,hA,A1,Be,w5];have zl:(Bo zc 1).length=sz:=by rw[CI,hz];omega
  have w7:cG zc H8 (.sl o (off+n*sz) 1 sz (cap'.cut n n))=some (H8.set o (some (.cells (over (over cells (off+i*sz) ((cells.drop (off+(i+1)*sz)).take ((n - i)*sz))) (off+n*sz) (Bo zc 1))))):=by
   unfold cG;simp only[hC];rw[if_pos ⟨hz,by omega,by omega⟩,if_neg (by omega),DT _ _ _ (by omega)];rfl
  rw[w7];simp only[AE];exact⟨trivial,trivial⟩
 ·rw[AA (c:=over (over cells (off+i*sz) ((cells.drop (off+(i+1)*sz)).take ((n - i)*sz))) (off+n*sz) (Bo zc 1)) (by simp[hol8]) (by rw[Fy (by rw[CI,hz];omega)];omega)]
  congr 2
  have e1:((cells.drop off).take ((n+1)*sz)).take (i*sz)=(cells.drop off).take (i*sz):=by rw[uV];congr 1;omega
  have e2:((cells.drop off).take ((n+1)*sz)).drop ((i+1)*sz)=(cells.drop (off+(i+1)*sz)).take ((n - i)*sz):=by rw[vQ,uY];congr 1;omega
  rw[e1,e2];have e3:(n:Nat)*sz=i*sz+(n - i)*sz:=by rw[← uR];congr 1;omega
  generalize (cells.drop (off+(i+1)*sz)).take ((n - i)*sz)=D at*
  have h1:((over (over cells (off+i*sz) D) (off+n*sz) (Bo zc 1)).drop off).take (n*sz)=((over cells (off+i*sz) D).drop off).take (n*sz):=by
   refine uF λk=>?_
   rw[tF,tF]
   by_cases c:k<n*sz
   ·rw[if_pos c,if_pos c,tG,tG,Gk (by rw[CI,hz];omega),if_neg (by omega)]
   ·rw[if_neg c,if_neg c]
  rw[h1,e3]
  have:=(Tp cells off (i*sz) D (by omega)).1
  rw[hDl]at this;exact this
 ·simp[hL]
 ·rw[Co (by simp[AP]at hj;omega)];exact hO j (by simpa[AP]using hj)
end
end
section
theorem compareString_calls (a b:ByteArray)(H:AH):ACalls prog 168 [.lit (.string a),.lit (.string b)] H λr H'=>r=.lit (.int .i64 (Lib.compareBytes a.data.toList b.data.toList))∧H'=H:=by
 refine ACalls.of_body func168 rfl ?_;refine ACode.seq (ACode.region (AOps.op rfl rfl (AOps.nil ?_)));refine ACode.seq (ACode.region (AOps.op rfl rfl (AOps.op rfl rfl (AOps.extern rfl rfl (r:=.lit (.int .i64 (Lib.compareBytes a.data.toList b.data.toList))) ?_ (AOps.op rfl rfl (AOps.nil ?_))))))
 ·intro G vs hH hv
  have hv':VRs G [.lit (.string a),.lit (.string b)] vs:=hv;simp only[VRs,VR]at hv';obtain⟨_,_,rfl,rfl,_,_,rfl,rfl,rfl⟩:=hv';refine⟨.int .i64 (Lib.compareBytes a.data.toList b.data.toList),?_,by simp only[VR]⟩
  rw[run_callFunc_extern func200 (by kernel_rfl) (by kernel_rfl) (by kernel_rfl) (e:=Extern.BytealgCompare.compare) (by kernel_rfl),
   Lib.run_compareString (P:=prog) a b G.w]
  rfl
 ·exact ACode.ret ⟨.inr rfl,_,rfl,rfl,rfl⟩
structure Nm where
 name:List UInt8
 ino:Int
 deriving DecidableEq
def Ca (x:Nm):List AV:=[S (As x.name),I x.ino]
theorem DL (x:Nm):(Ca x).length=2:=rfl
theorem KY (x:Nm):Ay (Ca x)=true:=rfl
structure Nd where
 ino:Int
 size:Int
 l:List Ext
 deriving DecidableEq
structure NdV where
 nd:Nd
 R:AV
 h:SV Aw 9 nd.l R
abbrev NdV.ino (x:NdV):Int:=x.nd.ino
def BH (x:NdV):List AV:=[I x.nd.ino,I x.nd.size,x.R]
theorem CX (x:NdV):(BH x).length=3:=rfl
theorem Ic (x:NdV):Ay (BH x)=true:=by simp[BH,Ay,noIds,x.h.1]
theorem QL (x:Nm)(t:List AV):(Ca x++t)[0]?=some (S (As x.name)):=rfl
theorem kN (x:Nm)(t:List AV):(Ca x++t)[1]?=some (I x.ino):=rfl
theorem kM (x:NdV)(t:List AV):Am true 2 (BH x++t) 1=some (.agg [I x.nd.size,x.R]):=by simp[Am,BH]
theorem koI:KO BS where
 eq a b:=by unfold BS;split<;>(try split)<;>omega
 anti a b:=by unfold BS;split<;>(try split)<;>(try split)<;>omega
 trans a b d:=by unfold BS;intro h1 h2;split at h1<;>split at h2<;>(try split at h1)<;>(try split at h2)<;>split<;>omega
theorem TY {a b:Int}:BS a b<0↔a<b:=by unfold BS;split<;>(try split)<;>omega
theorem SV.oneA {α:Type}{enc:α→List AV}{sz:Nat}{l:List α}{v:AV}(h:SV enc sz l v):oneA v=true:=by
 have h2:=h.2 [];unfold Aa at h2;split at h2
 all_goals first | rfl | cases h2
def WA (y:UInt8):Prop:=(97≤(y.toNat:Int)∧(y.toNat:Int)≤122)∨(48≤(y.toNat:Int)∧(y.toNat:Int)≤57)∨(y.toNat:Int)=46∨(y.toNat:Int)=95∨(y.toNat:Int)=45
instance (y:UInt8):Decidable (WA y):=by unfold WA;infer_instance
def Gi (s:List UInt8):Prop:=s≠[]∧s.length≤20∧s[0]?≠some 45∧∀b∈s,WA b
instance (s:List UInt8):Decidable (Gi s):=by unfold Gi;infer_instance
theorem oV (y:UInt8):BPure prog 166 [.lit (.int .u8 y.toNat)] (B (decide (WA y))):=BPure.flat λH=>Uk (by
 unfold SY;unfold WA
 by_cases c1:(97:Int)≤y.toNat
 ·by_cases c2:(y.toNat:Int)≤122
  ·simp[c1,c2]
  ·have e1:¬(y.toNat:Int)≤57:=by omega
   have e2:¬(y.toNat:Int)=46:=by omega
   have e3:¬(y.toNat:Int)=95:=by omega
   have e4:¬(y.toNat:Int)=45:=by omega
   simp[c1,c2,e1,e2,e3,e4,show(48:Int)≤y.toNat by omega]
 ·by_cases c2:(48:Int)≤y.toNat
  ·by_cases c3:(y.toNat:Int)≤57
   ·simp[c1,c2,c3]
   ·by_cases c4:(y.toNat:Int)=95
    ·simp[c1,c2,c3,c4]
    ·have e2:¬(y.toNat:Int)=46:=by omega
     have e4:¬(y.toNat:Int)=45:=by omega
     simp[c1,c2,c3,c4,e2,e4]
  ·by_cases c4:(y.toNat:Int)=46
   ·simp[c1,c2,c4]
   ·by_cases c5:(y.toNat:Int)=95
    ·simp[c1,c2,c4,c5]
    ·by_cases c6:(y.toNat:Int)=45
     ·simp[c1,c2,c4,c5,c6]
     ·simp[c1,c2,c4,c5,c6])
theorem u8c {y:UInt8}{k:UInt8}{n:Int}(h:(k.toNat:Int)=n):((y.toNat:Int)=n)=(y=k):=by
 refine propext ⟨λe=>UInt8.toNat_inj.1 (by omega),λe=>by rw[e];exact h⟩
theorem Ll {s:List UInt8}(hs:s.length≤9223372036854775807):BPure prog 102 [S (As s)] (B (decide (Gi s))):=BPure.flat λH=>ON (by
 unfold Mf;rw[Vd,FS,GQ hs]
 have hl:∀t:List UInt8,t=s→0<t.length→t.length≤20→t[0]?≠some 45→FL (S (As t)) (I t.length) (I 0) H λr H'=>r=B (decide (Gi t))∧H'=H:=by
  intro t _ h0 h20 h45;refine JY (λn x0 x17 x18 H'=>∃k:Nat,k+n=t.length∧x0=S (As t)∧x17=I t.length∧x18=I k∧H'=H∧∀m y,m<k→t[m]?=some y→WA y) ?_ t.length ⟨0,by omega,rfl,rfl,rfl,rfl,by omega⟩;rintro n x0 x17 x18 H' R hR ⟨k,hk,rfl,rfl,rfl,rfl,hb⟩;unfold Hr;rcases tD k t.length with h | h
  ·have hx:=E5 h
   generalize t[k]=y at hx;simp[h,Ou rfl hx];refine A3 (oV y) ?_
   by_cases hy:WA y
   ·simp[hy,Az (a:=k) (b:=1) (by omega) (by omega)]
    refine hR (n - 1) _ _ _ _ (by omega) ⟨k+1,by omega,rfl,rfl,by simp,rfl,?_⟩;intro m z hm hz
    by_cases c:m=k
    ·rw[c,hx]at hz;injection hz with hz;rw[← hz];exact hy
    ·exact hb m z (by omega) hz
   ·have:¬Gi t:=λhm=>hy (hm.2.2.2 y (tB hx))
    simp[hy,this]
  ·have:Gi t:=⟨λe=>by rw[e]at h0;simp at h0,h20,h45,λb hb'=>by
    obtain⟨m,hm⟩:=tK.1 hb'
    have:=(B5.1 hm).1
    exact hb m b (by omega) hm⟩
   simp[show ¬k<t.length by omega,this]
 by_cases h0:s=[]
 ·subst h0
  simp[Gi]
 ·have hlen:0<s.length:=List.length_pos_iff.2 h0
  by_cases h1:s.length≤20
  ·have hx:=E5 hlen
   have e20:¬(20:Int)<s.length:=by omega
   generalize s[0]=y at hx;simp[h0,Lq,e20,Ou (k:=0) (i:=0) rfl hx];have e45:((y.toNat:Int)=45)=(y=45):=u8c rfl
   by_cases h2:(y.toNat:Int)=45
   ·have:¬Gi s:=λhm=>hm.2.2.1 (by rw[hx,e45.mp h2])
    simp[h2,this]
   ·simp[h2]
    exact hl s rfl hlen h1 (by rw[hx];intro e;injection e with e;exact h2 (e45.mpr e))
  ·have e20:(20:Int)<s.length:=by omega
   have:¬Gi s:=λhm=>h1 hm.2.1
   simp[h0,Lq,e20,this])
theorem XN (a b:List UInt8):BPure prog 109 [S (As a),S (As b)] (I (AW a b)):=BPure.flat λH=>MI (by
 unfold JS;exact A3 (λH=>by have:=compareString_calls (As a) (As b) H;exact this) ⟨rfl,rfl⟩)
theorem VC (x:Nm)(s:List UInt8):BPure prog 108 [.agg (Ca x),S (As s)] (I (AW x.name s)):=BPure.val (by simp[Ay,noIds,KY]) rfl (OO (by
 unfold Mi;unfold Ca;simp;refine A3 (XN x.name s) ?_
 rfl))
theorem X0 (x:NdV)(no:Int):BPure prog 93 [.agg (BH x),I no] (I (BS x.nd.ino no)):=BPure.val (by simp[Ay,noIds,Ic]) rfl (PX (by
 unfold ND;unfold BH;have h1:=SV.oneA x.h;simp[h1];refine A3 (LN x.nd.ino no) ?_
 rfl))
theorem aY (x:Nm)(t:List AV):Am true 2 (Ca x++t) 0=some (.agg (Ca x)):=by
 simp[Am,Ca]
theorem XD (x:NdV)(t:List AV):Am true 3 (BH x++t) 0=some (.agg (BH x)):=by
 simp[Am,BH]
theorem gZ:Bs prog 108=true:=by kernel_rfl
theorem lZ {l:List Nm}{v:AV}(hv:SV Ca 2 l v)(hs:BP AW Nm.name l)(hl:l.length≤281474976710656)(no:List UInt8):
  BPure prog 107 [v,S (As no),.fn (.func 108) [] []] (.tup [I (CP AW Nm.name l no),B (decide (AO Nm.name l no))]):=BPure.val (by simp[Ay,noIds,hv.1]) rfl (CD (by
 unfold B9;simp[hv.len];refine Ck (λn x0 x1 x2 x8 x9 x10 H'=>∃i j:Nat,i+n=j∧j≤l.length∧x0=v∧x1=S (As no)∧x2=.fn (.func 108) [] []∧x8=I l.length∧x9=I i∧x10=I j∧H'=[]∧(∀m x,m<i→l[m]?=some x→AW (Nm.name x) no<0)∧(∀m x,j≤m→l[m]?=some x→¬AW (Nm.name x) no<0)) ?_ l.length ⟨0,l.length,by simp,by omega,rfl,rfl,rfl,rfl,rfl,rfl,rfl,by simp,λm x hm hx=>by have:=(B5.1 hx).1;omega⟩;rintro n x0 x1 x2 x8 x9 x10 H' R hR ⟨i,j,hij,hj,rfl,rfl,rfl,rfl,rfl,rfl,rfl,h1,h2⟩;unfold Bp;rcases tD i j with hlt | hge
 ·have hx:=E5 (l:=l) (i:=(i+j)/2) (by omega)
  generalize l[(i + j) / 2]'(by omega)=y at hx;simp [hlt,Az (a:=i) (b:=j) (by omega) (by omega),TJ (n:=(i : Int) + j) (by omega) (by omega),Qt,TI (a:=((i : Int) + j) / 2) (by omega) (by omega),hv.idx DL hx (i:=((i : Int) + j) / 2) (by omega),gZ,aY];refine bC_of (VC y no []) ?_
  by_cases c1:AW (Nm.name y) no<0
  ·simp[c1,Az (a:=((i:Int)+j)/2) (b:=1) (by omega) (by omega)]
   refine hR (j - ((i+j)/2+1)) _ _ _ _ _ _ _ (by omega) ⟨(i+j)/2+1,j,by omega,hj,rfl,rfl,rfl,rfl,by simp,rfl,rfl,?_,h2⟩;intro m x hm hmx
   by_cases hm2:m=(i+j)/2
   ·rw[hm2,hx]at hmx;injection hmx with e;rw[← e];exact c1
   ·exact koN.trans _ _ _ (Hz hs hmx hx (by omega)) c1
  ·simp[c1]
   refine hR ((i+j)/2 - i) _ _ _ _ _ _ _ (by omega) ⟨i,(i+j)/2,by omega,by omega,rfl,rfl,rfl,rfl,rfl,by simp,rfl,h1,?_⟩;intro m x hm hmx
   by_cases hm2:m=(i+j)/2
   ·rw[hm2,hx]at hmx;injection hmx with e;rw[← e];exact c1
   ·intro c2
    exact c1 (koN.trans _ _ _ (Hz hs hx hmx (by omega)) c2)
 ·have hi:i=j:=by omega
  subst hi;have hp:CP AW Nm.name l no=i:=Qn (by omega) h1 (λx hx=>h2 i x (by omega) hx);rcases tD i l.length with hil | hil
  ·have hx:=E5 (l:=l) (i:=i) hil
   generalize l[i]=y at hx
   have hh:AO Nm.name l no↔AW (Nm.name y) no=0:=by
    rw[Hq koN hs,hp,koN.eq]
    constructor
    ·rintro⟨z,hz,e⟩
     rw[hx]at hz;injection hz with hz;rw[hz,e]
    ·intro e
     exact⟨y,hx,e⟩
   simp[hil,hv.idx DL hx rfl,gZ,aY];refine bC_of (VC y no []) ?_;simp[hp,hh]
  ·have hn:¬AO Nm.name l no:=by
    rw[Hq koN hs,hp];rintro⟨z,hz,e⟩
    have:=(B5.1 hz).1
    omega
   simp[show ¬i<l.length by omega,hp,hn]))
theorem gY:Bs prog 93=true:=by kernel_rfl
theorem lY {l:List NdV}{v:AV}(hv:SV BH 3 l v)(hs:BP BS NdV.ino l)(hl:l.length≤281474976710656)(no:Int):
  BPure prog 92 [v,I no,.fn (.func 93) [] []] (.tup [I (CP BS NdV.ino l no),B (decide (AO NdV.ino l no))]):=BPure.val (by simp[Ay,noIds,hv.1]) rfl (CR (by
 unfold BN;simp[hv.len];refine C1 (λn x0 x1 x2 x8 x9 x10 H'=>∃i j:Nat,i+n=j∧j≤l.length∧x0=v∧x1=I no∧x2=.fn (.func 93) [] []∧x8=I l.length∧x9=I i∧x10=I j∧H'=[]∧(∀m x,m<i→l[m]?=some x→BS (NdV.ino x) no<0)∧(∀m x,j≤m→l[m]?=some x→¬BS (NdV.ino x) no<0)) ?_ l.length ⟨0,l.length,by simp,by omega,rfl,rfl,rfl,rfl,rfl,rfl,rfl,by simp,λm x hm hx=>by have:=(B5.1 hx).1;omega⟩;rintro n x0 x1 x2 x8 x9 x10 H' R hR ⟨i,j,hij,hj,rfl,rfl,rfl,rfl,rfl,rfl,rfl,h1,h2⟩;unfold B2;rcases tD i j with hlt | hge
 ·have hx:=E5 (l:=l) (i:=(i+j)/2) (by omega)
  generalize l[(i + j) / 2]'(by omega)=y at hx;simp [hlt,Az (a:=i) (b:=j) (by omega) (by omega),TJ (n:=(i : Int) + j) (by omega) (by omega),Qt,TI (a:=((i : Int) + j) / 2) (by omega) (by omega),hv.idx CX hx (i:=((i : Int) + j) / 2) (by omega),gY,XD];refine bC_of (X0 y no []) ?_
  by_cases c1:BS (NdV.ino y) no<0
  ·simp[c1,Az (a:=((i:Int)+j)/2) (b:=1) (by omega) (by omega)]
   refine hR (j - ((i+j)/2+1)) _ _ _ _ _ _ _ (by omega) ⟨(i+j)/2+1,j,by omega,hj,rfl,rfl,rfl,rfl,by simp,rfl,rfl,?_,h2⟩;intro m x hm hmx
   by_cases hm2:m=(i+j)/2
   ·rw[hm2,hx]at hmx;injection hmx with e;rw[← e];exact c1
   ·exact koI.trans _ _ _ (Hz hs hmx hx (by omega)) c1
  ·simp[c1]
   refine hR ((i+j)/2 - i) _ _ _ _ _ _ _ (by omega) ⟨i,(i+j)/2,by omega,by omega,rfl,rfl,rfl,rfl,rfl,by simp,rfl,h1,?_⟩;intro m x hm hmx
   by_cases hm2:m=(i+j)/2
   ·rw[hm2,hx]at hmx;injection hmx with e;rw[← e];exact c1
   ·intro c2
    exact c1 (koI.trans _ _ _ (Hz hs hx hmx (by omega)) c2)
 ·have hi:i=j:=by omega
  subst hi;have hp:CP BS NdV.ino l no=i:=Qn (by omega) h1 (λx hx=>h2 i x (by omega) hx);rcases tD i l.length with hil | hil
  ·have hx:=E5 (l:=l) (i:=i) hil
   generalize l[i]=y at hx
   have hh:AO NdV.ino l no↔BS (NdV.ino y) no=0:=by
    rw[Hq koI hs,hp,koI.eq]
    constructor
    ·rintro⟨z,hz,e⟩
     rw[hx]at hz;injection hz with hz;rw[hz,e]
    ·intro e
     exact⟨y,hx,e⟩
   simp[hil,hv.idx CX hx rfl,gY,XD];refine bC_of (X0 y no []) ?_;simp[hp,hh]
  ·have hn:¬AO NdV.ino l no:=by
    rw[Hq koI hs,hp];rintro⟨z,hz,e⟩
    have:=(B5.1 hz).1
    omega
   simp[show ¬i<l.length by omega,hp,hn]))
def OC (ps:List (Int×AV)):List (Value×AV):=ps.map λp=>(.int .i64 p.1,p.2)
def V5 (z:AV)(ps:List (Int×AV))(k:Int):AV:=match ps.find? (λp=>p.1==k)with
 | some p=>p.2
 | none=>z
theorem bV (a b:Int):Instr.sameNow (.int .i64) (.int .i64 a) (.int .i64 b)=some (a==b):=rfl
theorem OF (k:Int):∀(ps:List (Int×AV)) (i:Nat),IG (.int .i64) (.int .i64 k) (OC ps) i=some ((ps.findIdx? (λp=>p.1==k)).bind λj=>(ps[j]?).map λp=>(i+j,p.2))
 | [],i=>rfl
 | p::ps,i=>by
  show(match Instr.sameNow (.int .i64) (.int .i64 k) (.int .i64 p.1)with
   | some true=>some (some (i,p.2))
   | some false=>IG (.int .i64) (.int .i64 k) (OC ps) (i+1)
   | none=>none)=_
  rw[bV,List.findIdx?_cons]
  by_cases h:p.1=k
  ·have h':(k==p.1)=true:=by simp[h]
   have h2:(p.1==k)=true:=by simp[h]
   simp[h',h2]
  ·have h':(k==p.1)=false:=by simp;omega
   have h2:(p.1==k)=false:=by simp[h]
   simp only[h',h2];rw[OF k ps (i+1)];cases ps.findIdx? (λp=>p.1==k)with
   | none=>rfl
   | some j=>
    simp;cases ps[j]? with
    | none=>rfl
    | some q=>simp;omega
abbrev wT:=@List.find?_eq_none
abbrev vL:=@List.findIdx?_eq_none_iff
theorem Yz {z:AV}{ps:List (Int×AV)}{k:Int}(h:ps.findIdx? (λp=>p.1==k)=none):V5 z ps k=z:=by
 have:ps.find? (λp=>p.1==k)=none:=by
  rw[wT];intro x hx;rw[vL]at h
  simpa using h x hx
 unfold V5;rw[this]
abbrev vX:=@List.findIdx?_eq_some_iff_getElem
theorem Td {z:AV}{ps:List (Int×AV)}{k:Int}{j:Nat}(h:ps.findIdx? (λp=>p.1==k)=some j):∃p,ps[j]?=some p∧p.1=k∧V5 z ps k=p.2:=by
 obtain⟨h1,h2,h3⟩:=vX.1 h;refine⟨ps[j],E5 h1,by simpa using h2,?_⟩
 have:ps.find? (λp=>p.1==k)=some ps[j]:=by
  rw[List.find?_eq_some_iff_getElem];exact⟨h2,j,h1,rfl,λi hi=>by simpa using h3 i hi⟩
 unfold V5;rw[this]
theorem Xf {H:AH}{o:Nat}{zv:Value}{ps:List (Int×AV)}{k:Int}(h:H[o]?=some (some (.map (OC ps)))):cH (.int .i64) zv H (.mp o) (.lit (.int .i64 k)) false=some (V5 (.ofV zv) ps k):=by
 have hk:S6 (.int .i64) (.int .i64 k)=true:=rfl;unfold cH Nr;simp only[h,hk,if_true,OF];cases hf:ps.findIdx? (λp=>p.1==k)with
 | none=>rw[Yz hf];rfl
 | some j=>
  obtain⟨p,h1,h2,h3⟩:=Td (z:=.ofV zv) hf;simp[h1,h3]
def fK (ps:List (Int×AV))(k:Int)(v:AV):List (Int×AV):=match ps.findIdx? (λp=>p.1==k)with
 | some j=>ps.set j (k,v)
 | none=>ps++[(k,v)]
theorem dA {H:AH}{o:Nat}{ps:List (Int×AV)}{k:Int}{v:AV}(h:H[o]?=some (some (.map (OC ps)))):mG (.int .i64) H (.mp o) (.lit (.int .i64 k)) v=some (H.set o (some (.map (OC (fK ps k v))))):=by
 have hk:S6 (.int .i64) (.int .i64 k)=true:=rfl;unfold mG fK;simp only[h,hk,if_true,OF];cases hf:ps.findIdx? (λp=>p.1==k)with
 | none=>simp[OC]
 | some j=>
  obtain⟨p,h1,h2,h3⟩:=Td (z:=.junk) hf;simp[h1,OC,xC]
def ML (l:List Ext)(p:Int):UInt8:=match l.find? λx=>decide (x.no=p/8)with
 | some x=>x.b.getD (p % 8).toNat 0
 | none=>0
theorem Eg {l:List Ext}{p:Int}(h:¬Cf l (p/8)):ML l p=0:=by
 have:l.find? (λx=>decide (x.no=p/8))=none:=by
  rw[wT];intro x hx he;exact h ⟨x,hx,by simpa using he⟩
 unfold ML;rw[this]
theorem Vb {l:List Ext}(hs:srt l){p:Int}{k:Nat}{x:Ext}(hx:l[k]?=some x)(he:x.no=p/8):ML l p=x.b.getD (p % 8).toNat 0:=by
 have:l.find? (λx=>decide (x.no=p/8))=some x:=by
  rw[List.find?_eq_some_iff_getElem];obtain⟨h1,h2⟩:=B5.1 hx;refine⟨by simp[he],k,h1,h2,?_⟩;intro j hj
  have:=Jy hs (E5 (Nat.lt_trans hj h1)) hx hj
  simp;omega
 unfold ML;rw[this]
def inC (size:Int)(l:List Ext)(pos n:Int):Prop:=E1 size l∧0≤pos∧0≤n∧n≤4096∧pos<size
instance (size:Int) (l:List Ext) (pos n:Int):Decidable (inC size l pos n):=by unfold inC;infer_instance
theorem Y9 (a b:List UInt8)(off:Nat):over (AY a) off (AY b)=AY (a.take off++b++a.drop (off+b.length)):=by
 unfold over;rw[C2,OB,SP,Vs,Vs]
theorem TL {H:AH}{sz o off len o2 off2 m:Nat}{cap cap2:Room}{cs cs2:List AV}(ho:H[o]?=some (some (.cells cs)))(h2:H[o2]?=some (some (.cells cs2)))(hoff:off≤cs.length)(ht:off2+min m len*sz≤cs2.length):
  MK sz H (.sl o off len sz cap) (.sl o2 off2 m sz cap2)=some (I ((min m len:Nat):Int),H.set o (some (.cells (over cs off ((cs2.drop off2).take (min m len*sz)))))):=by
 unfold MK Ze
 by_cases h:off2+m*sz≤cs2.length
 ·have e:AX H sz (.sl o2 off2 m sz cap2)=some ((cs2.drop off2).take (m*sz),m):=AJ (by simp[Aa,h2,h])
  have hm:min (min m len*sz) (m*sz)=min m len*sz:=vH (tE _ (xB _ _));rw[e];simp only[ho,hoff,and_self,if_true,uV,hm]
 ·have e:AX H sz (.sl o2 off2 m sz cap2)=none:=by simp[AX,Aa,h2,h]
  rw[e];simp[cU,ho,h2,hoff,ht]
theorem bX (w:World):(Go.sizeOf 52).run prog w=.ok 9 w:=Bm (by kernel_rfl)
theorem VJ {H:AH}{oa offa la ea ka ob offb lb eb kb:Nat}{ca cb:List AV}(ha:H[oa]?=some (some (.cells ca)))(hbo:H[ob]?=some (some (.cells cb)))(hne:oa≠ob)(hka:ka≠0)(hkb:kb≠0)(hcb:cb≠[]):
  ExtR prog 230 [.sl oa offa la ea (.ex ka),.sl ob offb lb eb (.ex kb)] H (B false):=
 ExtR.apart (tS:=32) (tR:=4) (fn:=f230) (by kernel_rfl) (by kernel_rfl) (by kernel_rfl) (by kernel_rfl) (by kernel_rfl) (by kernel_rfl) bX ha hbo hne hka hkb hcb
def mT (H:AH)(s:AV)(N:List AV)(n:Nat)(r:AV)(H':AH):Prop:=
 AM r=true∧Aa H' 9 r=some (N,n+1)∧H.length≤H'.length∧(∀i,i<H.length→i∉AP s→H'[i]?=H[i]?)∧∀i∈AP r,i∈AP s∨H.length≤i
theorem ZU {H:AH}{s:AV}{cs:List AV}{n ov:Nat}{x:Ext}(hs:Aa H 9 s=some (cs,n))(ho:AM s=true)(hn:n≤100000000)(hv:H[ov]?=some (some (.cells (Aw x)))):
  ∃r H',mT H s (cs++Aw x) n r H'∧BCall prog 222 [s,I n,.sl ov 0 1 9 (.ex 1)] H r H':=by
 obtain⟨r0,a0,-⟩:=Eu hs (lo:=some (I n)) (hi:=none) (l:=n) (k:=n) (by simp[Bk]) rfl (sY _) (sY _);have hl:=A2 x;obtain⟨r,H2,a1,a2,a3,a4,a5,a6⟩:=DK (bytes:=16) hs ho (AJ (v:=.sl ov 0 1 9 (.ex 1)) (q:=(Aw x,1)) (by simp[Aa,hv,hl,sZ])) (by omega);refine⟨r,H2,⟨a2,a3,a4,a5,a6⟩,BU ?_⟩;unfold Bh;simp[a0,Bz hs,a1]
theorem Yv {H:AH}{o off n ov i:Nat}{cells:List AV}{x:Ext}(hc:H[o]?=some (some (.cells cells)))(hl:off+n*9≤cells.length)(hi:i<n)(hn:n≤100000000)(hv:H[ov]?=some (some (.cells (Aw x)))):
  ACalls prog 222 [.sl o off n 9 (.ex n),I i,.sl ov 0 1 9 (.ex 1)] H λr H'=>r=.sl H.length 0 (n+1) 9 (.ge (n+1))∧
   H'=H++[some (.cells ((cells.drop off).take (i*9)++Aw x++(cells.drop (off+i*9)).take ((n - i)*9)))]:=by
 refine BU ?_;unfold Bh;have h1:¬(i:Int)=n:=by omega
 have hxl:=A2 x;simp[AT,Bk,Room.least,Room.cut,Sg,goInt,h1,show i≤n by omega,Az (a:=n) (b:=1) (by omega) (by omega),Ci (a:=(n:Int)+1) (b:=i) (by omega) (by omega),Ii,hc,hl,Az (a:=i) (b:=1) (by omega) (by omega)];have e1:i+(n+1 - i)=n+1:=by omega
 have h2:off+i*9≤cells.length:=by omega
 simp only[e1];simp[h2,show(i:Int)<n+1 by omega,show(n:Int)<n+1 by omega,show(n+1)*16≤140737488355328 by omega,show i≤n+1 by omega,show i+1≤n+1 by omega];have zl:((List.replicate (n+1 - i) [AV.lit (Value.int IntKind.i64 0),AV.lit (Value.int IntKind.u8 0),AV.lit (Value.int IntKind.u8 0),AV.lit (Value.int IntKind.u8 0),AV.lit (Value.int IntKind.u8 0),AV.lit (Value.int IntKind.u8 0),AV.lit (Value.int IntKind.u8 0),AV.lit (Value.int IntKind.u8 0),AV.lit (Value.int IntKind.u8 0)]).flatten).length=(n+1 - i)*9:=CI _ _;generalize (List.replicate (n+1 - i) [AV.lit (Value.int IntKind.i64 0),AV.lit (Value.int IntKind.u8 0),AV.lit (Value.int IntKind.u8 0),AV.lit (Value.int IntKind.u8 0),AV.lit (Value.int IntKind.u8 0),AV.lit (Value.int IntKind.u8 0),AV.lit (Value.int IntKind.u8 0),AV.lit (Value.int IntKind.u8 0),AV.lit (Value.int IntKind.u8 0)]).flatten=Z at zl;have hA:(List.take (i*9) (List.drop off cells)).length=i*9:=by rw[sX,tC];omega
 generalize hAe:List.take (i*9) (List.drop off cells)=A at hA;have hov:=(B5.1 hv).1;have ho:=(B5.1 hc).1;rw[TL (cs:=A++Z) (cs2:=Aw x) (by simp) (by rw[sW hov];exact hv) (by simp[hA]) (by omega)];simp[show(0:Int)≤(i:Int)+1 by omega,show i+1≤n+1 by omega];have m1:min 1 (n+1 - i)=1:=by omega
 have o1:over (A++Z) (i*9) (List.take (min 1 (n+1 - i)*9) (Aw x))=A++Aw x++Z.drop 9:=by
  rw[m1,sZ (by rw[hxl];omega)];unfold over;rw[tJ (by omega),sZ (by omega),hxl,← hA,List.drop_append,vZ,wD (by omega),uS]
 rw[o1,TL (cs:=A++Aw x++Z.drop 9) (cs2:=cells) (by simp) (by rw[sW ho];exact hc) (by simp[hA,hxl];omega) (by rw[Nat.min_self];omega)];have hB:(List.take ((n - i)*9) (List.drop (off+i*9) cells)).length=(n - i)*9:=by rw[sX,tC];omega
 simp;generalize List.take ((n - i)*9) (List.drop (off+i*9) cells)=B' at hB;unfold over;have l1:(A++Aw x).length=(i+1)*9:=by rw[tH,hA,hxl];omega
 rw[← tI,tJ (by omega),sZ (by omega),wD (by rw[tH,l1,tC,hB];omega),uI,tI]
theorem W6 {H:AH}{o off n ov i c:Nat}{cells:List AV}{x:Ext}(hc:H[o]?=some (some (.cells cells)))(hl:off+n*9≤cells.length)(hi:i<n)(hn:n≤100000000)(hcn:n+1≤c)(hv:H[ov]?=some (some (.cells (Aw x))))(hne:ov≠o):
  ACalls prog 222 [.sl o off n 9 (.ex c),I i,.sl ov 0 1 9 (.ex 1)] H λr H'=>r=.sl o off (n+1) 9 (.ex c)∧
   ∃rest,H'=H.set o (some (.cells (cells.take (off+i*9)++Aw x++(cells.drop (off+i*9)).take ((n - i)*9)++rest))):=by
 refine BU ?_;unfold Bh;have h1:¬(i:Int)=n:=by omega
 have hxl:=A2 x;simp[AT,Bk,Room.least,Room.cut,Sg,goInt,h1,show i≤n by omega,Az (a:=n) (b:=1) (by omega) (by omega),Ci (a:=(n:Int)+1) (b:=i) (by omega) (by omega),hc,hl,Az (a:=i) (b:=1) (by omega) (by omega),show i≤c by omega,show n≤c by omega,show ¬(c:Int)<n+1 by omega,hcn,show(0:Int)≤(n:Int)+1 by omega,show(0:Int)≤(i:Int)+1 by omega,show i+1≤n+1 by omega,show i+1≤c by omega];refine bP_of (VJ hv hc hne (by omega) (by omega) (by intro h;rw[h]at hl;simp at hl;omega)) ?_;simp;have ho:=(B5.1 hc).1;have mm:min (n+1 - i) (n - i)=n - i:=by omega
 have m1:min 1 (n+1 - i)=1:=by omega
 simp only[show i≤n+1 by omega,if_true,Ab];rw[TL (cs:=cells) (cs2:=cells) hc hc (by omega) (by rw[mm];omega),mm];have hB:(List.take ((n - i)*9) (List.drop (off+i*9) cells)).length=(n - i)*9:=by rw[sX,tC];omega
 generalize List.take ((n - i)*9) (List.drop (off+i*9) cells)=B' at hB;simp only[A1];have l1:(cells.take (off+(i+1)*9)).length=off+(i+1)*9:=by rw[sX];omega
 rw[TL (cs:=over cells (off+(i+1)*9) B') (cs2:=Aw x) (by simp[ho]) (by rw[Co (uC hne)];exact hv) (by unfold over;simp[l1];omega) (by omega),m1,sZ (l:=(Aw x).drop 0) (by simp[hxl])];simp only[A1,List.set_set,uA];refine⟨(cells.drop (off+(i+1)*9+B'.length)),?_⟩
 congr 3
 unfold over;rw[hxl]
 have t1:List.take (off+i*9) (cells.take (off+(i+1)*9)++B'++cells.drop (off+(i+1)*9+B'.length))=cells.take (off+i*9):=by
  rw[tI,tJ (by omega),uV,vH (by omega)]
 have t2:List.drop (off+i*9+9) (cells.take (off+(i+1)*9)++B'++cells.drop (off+(i+1)*9+B'.length))=B'++cells.drop (off+(i+1)*9+B'.length):=by
  rw[tI,show off+i*9+9=(cells.take (off+(i+1)*9)).length by omega,xI]
 rw[t1,t2,tI]
theorem Q8 {m:Nat}:∀{a b:List AV},Ct m a→Ct m b→Ct m (a++b)
 | [],b,_,h=>h
 | x::a,b,h1,h2=>by simp only[Ct,vY]at h1⊢;exact⟨h1.1,Q8 h1.2 h2⟩
theorem Kp {m:Nat}:∀{a:List AV},Ct m a↔∀x∈a,Ee m x
 | []=>by simp[Ct]
 | x::a=>by simp only[Ct,tU,forall_eq_or_imp,Kp (a:=a)]
theorem Zr (x:Ext)(m:Nat):Ct m (Aw x):=by
 rw[Kp];intro a ha;simp only[Aw,AY,tU,tZ]at ha;rcases ha with rfl | ⟨b,_,rfl⟩<;>simp only[Ee]
theorem ZV {H:AH}{o off n ov i:Nat}{cap:Room}{cells:List AV}{x:Ext}(hc:H[o]?=some (some (.cells cells)))(hl:off+n*9≤cells.length)(hi:i<n)(hn:n≤100000000)(hv:H[ov]?=some (some (.cells (Aw x))))(hne:ov≠o):
  BCall prog 222 [.sl o off n 9 cap,I i,.sl ov 0 1 9 (.ex 1)] H (.sl H.length 0 (n+1) 9 (.ge (n+1)))
   (H.set o none++[some (.cells ((cells.drop off).take (i*9)++Aw x++(cells.drop (off+i*9)).take ((n - i)*9)))]):=by
 have ho:=(B5.1 hc).1;have hxl:=A2 x;generalize hN:(cells.drop off).take (i*9)++Aw x++(cells.drop (off+i*9)).take ((n - i)*9)=N
 have hNl:N.length=(n+1)*9:=by
  rw[← hN,tH,tH,hxl,sX,sX,tC,tC];omega
 have hall:∀c,n≤c→ACalls prog 222 [.sl o off n 9 (.ex c),I i,.sl ov 0 1 9 (.ex 1)] H λr H'=>
   (r=.sl H.length 0 (n+1) 9 (.ge (n+1))∧H'=H++[some (.cells N)])∨∃c rest,n+1≤c∧r=.sl o off (n+1) 9 (.ex c)∧H'=H.set o (some (.cells (cells.take off++N++rest))):=by
  intro c hcn;rcases tD n c with h | h
  ·refine(W6 hc hl hi hn h hv hne).mono ?_
   rintro r H' ⟨rfl,rest,rfl⟩;refine .inr ⟨c,rest,h,rfl,?_⟩
   congr 3
   rw[← hN,wR off (i*9),wR (i*9) off];have:cells.take (off+i*9)=cells.take off++(cells.drop off).take (i*9):=by rw[List.take_add]
   rw[this];simp[tI]
  ·have:c=n:=by omega
   subst this;refine(Yv hc hl hi hn hv).mono ?_;rintro r H' ⟨rfl,rfl⟩;exact .inl ⟨rfl,by rw[hN]⟩
 have hany:ACalls prog 222 [.sl o off n 9 cap,I i,.sl ov 0 1 9 (.ex 1)] H λr H'=>
   (r=.sl H.length 0 (n+1) 9 (.ge (n+1))∧H'=H++[some (.cells N)])∨∃c rest,n+1≤c∧r=.sl o off (n+1) 9 (.ex c)∧H'=H.set o (some (.cells (cells.take off++N++rest))):=by
  cases cap with
  | ge k=>exact ACalls.room λc _ h=>hall c h
  | ex c=>
   rcases tD c n with h | h
   ·intro G vs hH hv
    exfalso
    simp only[VRs]at hv;obtain⟨v,r,rfl,h1,h2⟩:=hv;simp only[VR]at h1;obtain⟨_,a,c',rfl,hlc,hs⟩:=h1;simp only[SlAt]at hs;omega
   ·exact hall c h
 refine ACalls.canon hany ?_;rintro hb r1 H1 h1
 have hbN:Ct H.length N:=by
  have hbc:Ct H.length cells:=hb o _ hc;rw[Kp]at hbc;rw[← hN];refine Q8 (Q8 ?_ (Zr x _)) ?_
  ·rw[Kp];exact λa ha=>hbc a (uX (uM ha))
  ·rw[Kp];exact λa ha=>hbc a (uX (uM ha))
 rcases h1 with⟨rfl,rfl⟩ | ⟨c,rest,hcn,rfl,rfl⟩
 ·refine⟨_,_,_,Canon.grown hb hbN,?_⟩
  intro G v hG hr;refine⟨?_,λp ℓ h=>by cases h⟩;simp only[VR]at hr⊢;obtain⟨q0,a,c,rfl,hlc,hs⟩:=hr;refine⟨by simp[Cfg.ren],a,c,rfl,hlc,?_⟩
  simpa[Cfg.ren,kU,aL]using hs
 ·refine⟨_,_,_,Canon.placed (off:=off) (l:=c*9) hb ho hbN (cs1:=cells.take off++N++rest) ?_ ?_ ?_,?_⟩
  ·simp;omega
  ·have:(cells.take off).length=off:=by rw[sX];omega
   rw[tI]
   conv=>lhs;arg 2;arg 1;rw[← this]
   rw[xI,List.take_left]
  ·rw[hNl];omega
  ·intro G v hG hr
   simp only[VR]at hr;obtain⟨q0,a,c',rfl,hlc,hs⟩:=hr;simp only[SlAt]at hs;obtain⟨rfl,hs⟩:=hs;have hs:=hs.resolve_left (by omega);obtain⟨rfl,hs2⟩:=hs;have e:jB H.length o off H.length=(o,off):=if_pos rfl;have e2:Va H.length (c'*9) H.length=some (c'*9):=if_pos rfl;refine⟨?_,?_⟩
   ·simp only[VR]
    refine⟨by simp[Cfg.ren],_,c',rfl,by omega,?_⟩;simp only[SlAt];refine⟨hcn,.inr ⟨by simp[Cfg.ren,e],?_⟩⟩;simp[Cfg.ren,e2]
   ·intro p ℓ h
    unfold Va at h;split at h
    ·rename_i hp
     injection h with h;subst hp;subst h;rw[e];omega
    ·cases h
theorem XK:∀{l m:List Ext},srt l→srt m→(∀x,x∈l↔x∈m)→l=m
 | [],[],_,_,_=>rfl
 | [],y::m,_,_,h=>by have:=(h y).2 (by simp);simp at this
 | x::l,[],_,_,h=>by have:=(h x).1 (by simp);simp at this
 | x::l,y::m,hl,hm,h=>by
  have hl':=uW.1 hl;have hm':=uW.1 hm
  have e:x=y:=by
   rcases tU.1 ((h x).1 (by simp))with e | h1
   ·exact e
   ·rcases tU.1 ((h y).2 (by simp))with e | h2
    ·exact e.symm
    ·have:=hm'.1 x h1;have:=hl'.1 y h2;omega
  subst e;refine congrArg _ (XK hl'.2 hm'.2 λz=>?_)
  constructor
  ·intro hz
   rcases tU.1 ((h z).1 (by simp[hz]))with e | h1
   ·have:=hl'.1 z hz;rw[e]at this;omega
   ·exact h1
  ·intro hz
   rcases tU.1 ((h z).2 (by simp[hz]))with e | h1
   ·have:=hm'.1 z hz;rw[e]at this;omega
   ·exact h1
theorem W0 {x y:Ext}(h1:x.no=y.no)(h2:∀k,k<8→x.b.getD k 0=y.b.getD k 0):x=y:=by
 obtain⟨a,b,hb⟩:=x;obtain⟨c,d,hd⟩:=y;simp only at h1 h2;subst h1
 have:b=d:=by
  refine List.ext_getElem (by omega) λk hk1 hk2=>?_
  have:=h2 k (by omega)
  rw[tW,tW,E5 hk1,E5 hk2]at this
  simpa using this
 subst this;rfl
theorem Qj {l:List Ext}{x:Ext}(h:x∈l):∃k:Nat,l[k]?=some x:=tK.1 h
theorem Wu {l:List Ext}(hs:srt l){x:Ext}(hx:x∈l){k:Nat}(hk:k<8):ML l (x.no*8+k)=x.b.getD k 0:=by
 obtain⟨i,hi⟩:=Qj hx;rw[Vb hs hi (by omega),show((x.no*8+(k:Int)) % 8).toNat=k by omega]
theorem fZ {l m:List Ext}(hl:srt l)(hm:srt m)(h1:∀no,Cf l no↔Cf m no)(h2:∀p,ML l p=ML m p):l=m:=by
 have key:∀{l m:List Ext},srt l→srt m→(∀no,Cf l no↔Cf m no)→(∀p,ML l p=ML m p)→∀x,x∈l→x∈m:=by
  intro l m hl hm h1 h2 x hx;obtain⟨y,hy,e⟩:=(h1 x.no).1 ⟨x,hx,rfl⟩
  have:x=y:=W0 e.symm λk hk=>by
   rw[← Wu hl hx hk,← Wu hm hy hk,h2,e]
  rw[this];exact hy
 exact XK hl hm λx=>⟨key hl hm h1 h2 x,key hm hl (λno=>(h1 no).symm) (λp=>(h2 p).symm) x⟩
def NQ (no:Int):Ext:=⟨no,List.replicate 8 0,by simp⟩
def Dj (l:List Ext)(no:Int):List Ext:=if Cf l no then l else l.take (Em l no)++NQ no::l.drop (Em l no)
theorem VN {l:List Ext}{no:Int}{x:Ext}(h:x∈l.take (Em l no)):x.no<no:=by
 obtain⟨k,hk⟩:=Qj h;have h1:=(B5.1 hk).1;rw[sX]at h1;rw[tF,if_pos (by omega)]at hk;exact Uv (by omega) hk
theorem VM {l:List Ext}(hs:srt l){no:Int}{x:Ext}(h:x∈l.drop (Em l no)):no≤x.no:=by
 obtain⟨k,hk⟩:=Qj h;rw[tG]at hk;cases h0:l[Em l no]? with
 | none=>
  have h1:=(B5.1 hk).1;rw[List.getElem?_eq_none_iff]at h0;omega
 | some y=>
  have h2:=X8 h0;rcases wC k with h3 | h3
  ·subst h3;rw[uU,h0]at hk;injection hk with hk;rw[← hk];exact h2
  ·have:=Jy hs h0 hk (by omega);omega
theorem Gj {l:List Ext}(hs:srt l)(no:Int):srt (Dj l no):=by
 unfold Dj
 split
 ·exact hs
 ·rename_i h
  have hd:∀x∈l.drop (Em l no),no<x.no:=by
   intro x hx;have h1:=VM hs hx;have h2:x.no≠no:=λe=>h ⟨x,uX hx,e⟩
   omega
  refine vO.2 ⟨List.Pairwise.sublist (List.take_sublist _ l) hs,uW.2 ⟨hd,List.Pairwise.sublist (List.drop_sublist _ l) hs⟩,?_⟩;intro a ha b hb;have h1:=VN ha;rcases tU.1 hb with rfl | hb
  ·exact h1
  ·have:=hd b hb;omega
theorem IS {l:List Ext}{no:Int}{x:Ext}:x∈Dj l no↔x∈l∨(¬Cf l no∧x=NQ no):=by
 unfold Dj
 split
 ·rename_i h;simp[h]
 ·rename_i h
  rw[uN,tU];have:x∈l↔x∈l.take (Em l no)∨x∈l.drop (Em l no):=by rw[← uN,vC]
  rw[this]
  constructor
  ·rintro(h1 | h1 | h1)
   ·exact .inl (.inl h1)
   ·exact .inr ⟨h,h1⟩
   ·exact .inl (.inr h1)
  ·rintro((h1 | h1) | ⟨_,h1⟩)
   ·exact .inl h1
   ·exact .inr (.inr h1)
   ·exact .inr (.inl h1)
theorem KX {l:List Ext}{no a:Int}:Cf (Dj l no) a↔Cf l a∨a=no:=by
 unfold Cf
 constructor
 ·rintro⟨x,hx,e⟩
  rcases IS.1 hx with h | ⟨_,rfl⟩
  ·exact .inl ⟨x,h,e⟩
  ·exact .inr e.symm
 ·rintro(⟨x,hx,e⟩ | rfl)
  ·exact⟨x,IS.2 (.inl hx),e⟩
  ·by_cases h:Cf l a
   ·obtain⟨x,hx,e⟩:=h
    exact⟨x,IS.2 (.inl hx),e⟩
   ·exact⟨NQ a,IS.2 (.inr ⟨h,rfl⟩),rfl⟩
theorem Ik {l:List Ext}(hs:srt l){x:Ext}(hx:x∈l){p:Int}(h:x.no=p/8):ML l p=x.b.getD (p % 8).toNat 0:=by
 obtain⟨k,hk⟩:=Qj hx;exact Vb hs hk h
theorem Xz {l:List Ext}(hs:srt l)(no p:Int):ML (Dj l no) p=ML l p:=by
 by_cases h:Cf l (p/8)
 ·obtain⟨x,hx,e⟩:=h
  rw[Ik hs hx e,Ik (Gj hs no) (IS.2 (.inl hx)) e]
 ·rw[Eg h]
  by_cases h2:p/8=no
  ·rw[Ik (Gj hs no) (IS.2 (.inr ⟨h2▸h,rfl⟩)) h2.symm]
   have:(p % 8).toNat<8:=by omega
   simp only[NQ];rw[tW,List.getElem?_replicate,if_pos this];rfl
  ·exact Eg (λh3=>(KX.1 h3).elim h h2)
theorem aJ {l:List Ext}(hs:srt l)(no:Int):Em (Dj l no) no=Em l no:=by
 unfold Dj
 split
 ·rfl
 ·rename_i h
  have hp:=Qq l no;refine Qp (by simp;omega) ?_ ?_
  ·intro m x hm hx
   rw[sW (by rw[sX];omega),tF,if_pos hm]at hx;exact Uv hm hx
  ·intro x hx
   rw[tA (by rw[sX];omega),sX,show Em l no - min (Em l no) l.length=0 by omega]at hx;simp at hx;rw[← hx];simp[NQ]
theorem aI {l:List Ext}(hs:srt l)(no:Int):∃x,(Dj l no)[Em l no]?=some x∧x.no=no:=by
 have:=(Rk (Gj hs no) (no:=no)).1 (KX.2 (.inr rfl))
 rwa[aJ hs]at this
theorem Rz (l:List Ext)(no:Int):(Dj l no).length≤l.length+1∧l.length≤(Dj l no).length:=by
 have hp:=Qq l no;unfold Dj
 split
 ·omega
 ·simp;omega
def RL (x:Ext)(off:Nat)(bs:List UInt8):Ext:=if h:off+bs.length≤8 then⟨x.no,x.b.take off++bs++x.b.drop (off+bs.length),by have:=x.hb;simp;omega⟩else x
theorem XA (x:Ext)(off:Nat)(bs:List UInt8):(RL x off bs).no=x.no:=by unfold RL;split<;>rfl
theorem aV {x:Ext}{off:Nat}{bs:List UInt8}(h:off+bs.length≤8):(RL x off bs).b=x.b.take off++bs++x.b.drop (off+bs.length):=by unfold RL;rw[dif_pos h]
theorem aW {x:Ext}{off:Nat}{bs:List UInt8}(h:off+bs.length≤8){k:Nat}(hk:k<8):(RL x off bs).b.getD k 0=if off≤k∧k<off+bs.length then bs.getD (k - off) 0 else x.b.getD k 0:=by
 have hb:=x.hb;have h1:(x.b.take off).length=off:=by rw[sX];omega
 rw[aV h];simp only[tW]
 split
 ·rename_i c
  rw[sW (by rw[tH];omega),tA (by omega),h1]
 ·rename_i c
  by_cases c1:k<off
  ·rw[tI,sW (by omega),tF,if_pos c1]
  ·rw[tA (by rw[tH];omega),tH,h1,tG]
   congr 2;omega
def S8 (l:List Ext)(no:Int)(off:Nat)(bs:List UInt8):List Ext:=l.map λx=>if x.no=no then RL x off bs else x
theorem WP (no:Int)(off:Nat)(bs:List UInt8)(x:Ext):(if x.no=no then RL x off bs else x).no=x.no:=by split;exact XA ..;rfl
abbrev vW:=@List.pairwise_map
theorem XJ {l:List Ext}{f:Ext→Ext}(hf:∀x∈l,(f x).no=x.no)(hs:srt l):srt (l.map f):=by
 unfold srt at*;rw[vW];refine hs.imp_of_mem λha hb h=>?_
 rw[hf _ ha,hf _ hb];exact h
theorem Xy {l:List Ext}{f:Ext→Ext}(hf:∀x∈l,(f x).no=x.no){no:Int}:Cf (l.map f) no↔Cf l no:=by
 unfold Cf
 constructor
 ·rintro⟨y,hy,e⟩
  obtain⟨x,hx,rfl⟩:=tZ.1 hy;exact⟨x,hx,by rw[← e,hf x hx]⟩
 ·rintro⟨x,hx,e⟩
  exact⟨f x,tZ.2 ⟨x,hx,rfl⟩,by rw[← e,hf x hx]⟩
theorem XC {l:List Ext}(hs:srt l)(no:Int)(off:Nat)(bs:List UInt8):srt (S8 l no off bs):=XJ (λx _=>WP ..) hs
theorem XB {l:List Ext}{no a:Int}{off:Nat}{bs:List UInt8}:Cf (S8 l no off bs) a↔Cf l a:=Xy (λx _=>WP ..)
theorem lP {l:List Ext}(hs:srt l){no:Int}{off:Nat}{bs:List UInt8}(h:off+bs.length≤8)(hn:Cf l no)(p:Int):
  ML (S8 l no off bs) p=if no*8+off≤p∧p<no*8+off+bs.length then bs.getD (p - (no*8+off)).toNat 0 else ML l p:=by
 by_cases h0:Cf l (p/8)
 ·obtain⟨x,hx,e⟩:=h0
  rw[Ik (x:=if x.no=no then RL x off bs else x) (XC hs no off bs) (tZ.2 ⟨x,hx,rfl⟩) (by rw[WP];exact e),Ik hs hx e]
  by_cases c:x.no=no
  ·rw[if_pos c,aW h (by omega)]
   by_cases c2:no*8+off≤p∧p<no*8+off+bs.length
   ·rw[if_pos c2,if_pos (by omega)];congr 1;omega
   ·rw[if_neg c2,if_neg (by omega)]
  ·rw[if_neg c,if_neg (by omega)]
 ·rw[Eg (by rw[XB];exact h0),Eg h0,if_neg]
  intro c;have:p/8=no:=by omega
  exact h0 (this▸hn)
theorem fN {l:List Ext}(hs:srt l){k:Nat}{x:Ext}(hx:l[k]?=some x)(off:Nat)(bs:List UInt8):l.set k (RL x off bs)=S8 l x.no off bs:=by
 refine uF λi=>?_
 unfold S8;rw[uJ,uQ];have hk:=(B5.1 hx).1
 by_cases h:k=i
 ·subst h
  obtain⟨h1,h2⟩:=B5.1 hx;simp[hk,h2]
 ·rw[if_neg h]
  cases hi:l[i]? with
  | none=>rfl
  | some y=>
   have:y.no≠x.no:=by
    rcases Nat.lt_or_gt_of_ne h with h | h
    ·have:=Jy hs hx hi h;omega
    ·have:=Jy hs hi hx h;omega
   simp[this]
def CZ (l:List Ext)(p:Int)(bs:List UInt8):List Ext:=S8 (Dj l (p/8)) (p/8) (p % 8).toNat bs
theorem WG {l:List Ext}(hs:srt l)(p:Int)(bs:List UInt8):srt (CZ l p bs):=XC (Gj hs _) ..
theorem aM {l:List Ext}{p a:Int}{bs:List UInt8}:Cf (CZ l p bs) a↔Cf l a∨a=p/8:=by unfold CZ;rw[XB,KX]
theorem hZ {l:List Ext}(hs:srt l){p:Int}{bs:List UInt8}(h:p % 8+bs.length≤8)(q:Int):ML (CZ l p bs) q=if p≤q∧q<p+bs.length then bs.getD (q - p).toNat 0 else ML l q:=by
 unfold CZ;rw[lP (Gj hs _) (by omega) (KX.2 (.inr rfl)),Xz hs,show p/8*8+((p % 8).toNat:Int)=p by omega]
def BW (l:List Ext)(p:Int):List UInt8→List Ext
 | []=>l
 | b::r=>BW (CZ l p [b]) (p+1) r
theorem U8:∀{bs:List UInt8} {l:List Ext} (hs:srt l) (p:Int),srt (BW l p bs)
 | [],l,hs,p=>hs
 | b::r,l,hs,p=>U8 (WG hs p [b]) (p+1)
theorem WX:∀{bs:List UInt8} {l:List Ext} {p a:Int},Cf (BW l p bs) a↔Cf l a∨∃q,p≤q∧q<p+bs.length∧a=q/8
 | [],l,p,a=>by
  unfold BW;simp only[vN];exact⟨.inl,λh=>h.elim id fun ⟨q,h1,h2,_⟩=>by omega⟩
 | b::r,l,p,a=>by
  unfold BW;rw[WX,aM];simp only[tP]
  constructor
  ·rintro((h | h) | ⟨q,h1,h2,h3⟩)
   ·exact .inl h
   ·exact .inr ⟨p,by omega,by omega,h⟩
   ·exact .inr ⟨q,by omega,by omega,h3⟩
  ·rintro(h | ⟨q,h1,h2,h3⟩)
   ·exact .inl (.inl h)
   ·by_cases c:q=p
    ·exact .inl (.inr (c▸h3))
    ·exact .inr ⟨q,by omega,by omega,h3⟩
theorem cD:∀{bs:List UInt8} {l:List Ext} (hs:srt l) (p q:Int),ML (BW l p bs) q=if p≤q∧q<p+bs.length then bs.getD (q - p).toNat 0 else ML l q
 | [],l,hs,p,q=>by
  unfold BW;rw[if_neg (by simp only[vN];omega)]
 | b::r,l,hs,p,q=>by
  unfold BW;rw[cD (WG hs p [b]),hZ hs (by simp only[qZ];omega)];simp only[qZ]
  by_cases c:p+1≤q∧q<p+1+r.length
  ·rw[if_pos c,if_pos (by omega),show(q - p).toNat=(q - (p+1)).toNat+1 by omega];rfl
  ·rw[if_neg c]
   by_cases c2:p=q
   ·subst c2
    rw[if_pos (by omega),if_pos (by omega)];simp
   ·rw[if_neg (by omega),if_neg (by omega)]
theorem cC:∀{bs cs:List UInt8} {l:List Ext} {p:Int},BW l p (bs++cs)=BW (BW l p bs) (p+bs.length) cs
 | [],cs,l,p=>by simp[BW]
 | b::r,cs,l,p=>by
  show BW (CZ l p [b]) (p+1) (r++cs)=BW (BW (CZ l p [b]) (p+1) r) (p+(r.length+1:Nat)) cs
  rw[cC];congr 1;omega
theorem mE {l:List Ext}(hs:srt l){p:Int}{bs:List UInt8}(h:p % 8+bs.length≤8)(hb:bs≠[]):CZ l p bs=BW l p bs:=by
 have hlen:0<bs.length:=List.length_pos_iff.2 hb;refine fZ (WG hs p bs) (U8 hs p) (λa=>?_) (λq=>?_)
 ·rw[aM,WX]
  refine or_congr_right ⟨λh1=>⟨p,by omega,by omega,h1⟩,?_⟩;rintro⟨q,h1,h2,rfl⟩;omega
 ·rw[hZ hs h,cD hs]
theorem cE:∀{bs:List UInt8} {l:List Ext} {p:Int},(BW l p bs).length≤l.length+bs.length
 | [],l,p=>by simp[BW]
 | b::r,l,p=>by
  unfold BW;have h1:=cE (bs:=r) (l:=CZ l p [b]) (p:=p+1);have h2:(CZ l p [b]).length=(Dj l (p/8)).length:=by simp[CZ,S8]
  have h3:=(Rz l (p/8)).1;simp only[tP];omega
theorem QC {size:Int}:∀{b:List UInt8} {p:Int},cleanB size p b↔∀k:Nat,k<b.length→size≤p+k→b.getD k 0=0
 | [],p=>by simp[cleanB]
 | x::r,p=>by
  unfold cleanB;rw[QC]
  constructor
  ·rintro⟨h1,h2⟩ k hk hs
   cases k with
   | zero=>
    simp
    by_cases c:x=0
    ·exact c
    ·have:=h1 c;omega
   | succ k=>
    have:=h2 k (by simpa using hk) (by omega)
    simpa using this
  ·intro h
   refine⟨λhx=>?_,λk hk hs=>?_⟩
   ·have:=h 0 (by simp)
    simp at this
    by_cases c:p<size
    ·exact c
    ·exact absurd (this (by omega)) hx
   ·have:=h (k+1) (by simpa using hk) (by omega)
    simpa using this
theorem QD {size:Int}{x:Ext}:Gu size x↔∀k:Nat,k<8→size≤x.no*8+k→x.b.getD k 0=0:=by
 have:=QC (size:=size) (b:=x.b) (p:=x.no*8)
 rw[x.hb]at this;exact this
theorem X4 {size:Int}:∀{l:List Ext} {p:Int},okL size p l↔srt l∧∀x∈l,p<x.no∧x.no<137438953472∧Gu size x
 | [],p=>by simp[okL,srt]
 | x::r,p=>by
  rw[NU,X4]
  constructor
  ·rintro⟨h1,h2,h3,h4,h5⟩
   refine⟨uW.2 ⟨λy hy=>(h5 y hy).1,h4⟩,λy hy=>?_⟩;rcases tU.1 hy with rfl | hy
   ·exact⟨h1,h2,h3⟩
   ·have:=h5 y hy;exact⟨by omega,this.2⟩
  ·rintro⟨h1,h2⟩
   have h1':=uW.1 h1;have h3:=h2 x (by simp);refine⟨h3.1,h3.2.1,h3.2.2,h1'.2,λy hy=>?_⟩
   have:=h2 y (by simp[hy])
   exact⟨h1'.1 y hy,this.2⟩
theorem lI {size:Int}{l:List Ext}:okL size (-1) l↔srt l∧(∀no,Cf l no→0≤no∧no<137438953472)∧∀p,size≤p→ML l p=0:=by
 rw[X4]
 constructor
 ·rintro⟨hs,h⟩
  refine⟨hs,?_,λp hp=>?_⟩
  ·rintro no ⟨x,hx,rfl⟩
   have:=h x hx;omega
  ·by_cases c:Cf l (p/8)
   ·obtain⟨x,hx,e⟩:=c
    rw[Ik hs hx e];exact QD.1 (h x hx).2.2 _ (by omega) (by omega)
   ·exact Eg c
 ·rintro⟨hs,h1,h2⟩
  refine⟨hs,λx hx=>?_⟩
  have:=h1 x.no ⟨x,hx,rfl⟩
  refine⟨by omega,this.2,QD.2 λk hk hz=>?_⟩;rw[← Wu hs hx hk];exact h2 _ hz
def DR (x:Ext)(a b:Int):Ext:=⟨x.no,x.b.mapIdx λk y=>if a≤x.no*8+(k:Int)∧x.no*8+(k:Int)<b then 0 else y,by have:=x.hb;simpa using this⟩
theorem GT {x:Ext}{a b:Int}{k:Nat}(hk:k<8):(DR x a b).b.getD k 0=if a≤x.no*8+(k:Int)∧x.no*8+(k:Int)<b then 0 else x.b.getD k 0:=by
 have hb:=x.hb;unfold DR;simp only[tW,List.getElem?_mapIdx];rw[E5 (show k<x.b.length by omega)];rfl
def On (l:List Ext)(a b:Int):List Ext:=l.map λx=>DR x a b
theorem RZ {l:List Ext}(hs:srt l)(a b:Int):srt (On l a b):=XJ (λ_ _=>rfl) hs
theorem RY {l:List Ext}{a b no:Int}:Cf (On l a b) no↔Cf l no:=Xy (f:=λx=>DR x a b) (λ_ _=>rfl)
theorem XL {l:List Ext}(hs:srt l)(a b p:Int):ML (On l a b) p=if a≤p∧p<b then 0 else ML l p:=by
 by_cases h:Cf l (p/8)
 ·obtain⟨x,hx,e⟩:=h
  rw[Ik (x:=DR x a b) (RZ hs a b) (tZ.2 ⟨x,hx,rfl⟩) e,Ik hs hx e,GT (by omega)];rw[show x.no*8+((p % 8).toNat:Int)=p by omega]
 ·rw[Eg h,Eg (by rw[RY];exact h)];split<;>rfl
theorem Hn {l:List Ext}(hs:srt l)(f:Ext→Bool):srt (l.filter f):=List.Pairwise.filter f hs
theorem Jo {l:List Ext}{f:Int→Bool}{no:Int}:Cf (l.filter λx=>f x.no) no↔Cf l no∧f no=true:=by
 unfold Cf
 constructor
 ·rintro⟨x,hx,rfl⟩
  rw[vT]at hx;exact⟨⟨x,hx.1,rfl⟩,hx.2⟩
 ·rintro⟨⟨x,hx,rfl⟩,h⟩
  exact⟨x,vT.2 ⟨hx,h⟩,rfl⟩
theorem SR {l:List Ext}(hs:srt l){f:Int→Bool}(p:Int):ML (l.filter λx=>f x.no) p=if f (p/8)=true then ML l p else 0:=by
 by_cases h:Cf l (p/8)
 ·obtain⟨x,hx,e⟩:=h
  split
  ·rename_i c
   rw[Ik (Hn hs _) (vT.2 ⟨hx,by rw[e];exact c⟩) e,Ik hs hx e]
  ·rename_i c
   exact Eg (λh2=>c (Jo.1 h2).2)
 ·rw[Eg h,Eg (λh2=>h (Jo.1 h2).1)];split<;>rfl
def Iu (l:List Ext)(size:Int):List Ext:=On (l.filter λx=>decide (x.no*8<size)) size 1099511627776
theorem mB {l:List Ext}(hs:srt l)(size:Int):srt (Iu l size):=RZ (Hn hs _) _ _
theorem mA {l:List Ext}{size no:Int}:Cf (Iu l size) no↔Cf l no∧no*8<size:=by
 unfold Iu;rw[RY,Jo (f:=λno=>decide (no*8<size))];simp
theorem pM {l:List Ext}(hs:srt l){size:Int}(h:∀no,Cf l no→no<137438953472)(p:Int):ML (Iu l size) p=if p<size then ML l p else 0:=by
 unfold Iu;rw[XL (Hn hs _),SR hs (f:=λno=>decide (no*8<size))]
 by_cases c:p<size
 ·rw[if_neg (by omega),if_pos c,if_pos (by simp;omega)]
 ·rw[if_neg c]
  by_cases c2:p<1099511627776
  ·rw[if_pos ⟨by omega,c2⟩]
  ·rw[if_neg (by omega),Eg]
   ·split<;>rfl
   ·intro h2;have:=h _ h2;omega
def gone (pos n no:Int):Bool:=decide (pos≤no*8)&&decide (no*8+8≤pos+n)
def Iq (l:List Ext)(pos n:Int):List Ext:=On (l.filter λx=>!gone pos n x.no) pos (pos+n)
theorem lN {l:List Ext}(hs:srt l)(pos n:Int):srt (Iq l pos n):=RZ (Hn hs _) _ _
theorem lM {l:List Ext}{pos n no:Int}:Cf (Iq l pos n) no↔Cf l no∧¬(pos≤no*8∧no*8+8≤pos+n):=by
 unfold Iq;rw[RY,Jo (f:=λno=>!gone pos n no)];simp[gone];intro _;omega
theorem pG {l:List Ext}(hs:srt l)(pos n p:Int):ML (Iq l pos n) p=if pos≤p∧p<pos+n then 0 else ML l p:=by
 unfold Iq;rw[XL (Hn hs _),SR hs (f:=λno=>!gone pos n no)]
 split
 ·rfl
 ·rename_i c
  split
  ·rfl
  ·rename_i c2
   simp[gone]at c2;omega
def EX (l:List Ext)(no:Int):Nat→List Ext
 | 0=>l
 | k+1=>EX (Dj l no) (no+1) k
theorem WI:∀{k:Nat} {l:List Ext} (hs:srt l) (no:Int),srt (EX l no k)
 | 0,l,hs,no=>hs
 | k+1,l,hs,no=>WI (k:=k) (Gj hs no) (no+1)
theorem aN:∀{k:Nat} {l:List Ext} {no a:Int},Cf (EX l no k) a↔Cf l a∨(no≤a∧a<no+k)
 | 0,l,no,a=>by unfold EX;exact⟨.inl,λh=>h.elim id λh=>by omega⟩
 | k+1,l,no,a=>by
  unfold EX;rw[aN,KX]
  constructor
  ·rintro((h | h) | h)
   ·exact .inl h
   ·exact .inr (by omega)
   ·exact .inr (by omega)
  ·rintro(h | h)
   ·exact .inl (.inl h)
   ·by_cases c:a=no
    ·exact .inl (.inr c)
    ·exact .inr (by omega)
theorem iA:∀{k:Nat} {l:List Ext} (hs:srt l) (no p:Int),ML (EX l no k) p=ML l p
 | 0,l,hs,no,p=>rfl
 | k+1,l,hs,no,p=>by
  unfold EX;rw[iA (Gj hs no),Xz hs]
theorem X2:∀{k:Nat} {l:List Ext} {no:Int},EX l no (k+1)=Dj (EX l no k) (no+k)
 | 0,l,no=>by simp[EX]
 | k+1,l,no=>by
  show EX (Dj l no) (no+1) (k+1)=_
  rw[X2 (k:=k)]
  show Dj (EX (Dj l no) (no+1) k) (no+1+k)=Dj (EX (Dj l no) (no+1) k) (no+(k+1:Nat))
  congr 1;omega
theorem WH:∀{k:Nat} {l:List Ext} {no:Int},(EX l no k).length≤l.length+k∧l.length≤(EX l no k).length
 | 0,l,no=>by simp[EX]
 | k+1,l,no=>by
  unfold EX;have h1:=WH (k:=k) (l:=Dj l no) (no:=no+1);have h2:=Rz l no;omega
def allocN (pos n:Int):Nat:=((pos+n - 1)/8 - pos/8+1).toNat
def Mt (l:List Ext)(pos n:Int):List Ext:=EX l (pos/8) (allocN pos n)
abbrev F9:=Int×List Ext
def G4 (c:F9)(pos:Int)(bs:List UInt8):Option F9:=
 if E1 c.1 c.2∧0≤pos∧bs.length≤4096∧pos≤1099511627776 - bs.length then some (if bs=[]then c else(max c.1 (pos+bs.length),BW c.2 pos bs))else none
def D1 (c:F9)(size:Int):Option F9:=if E1 c.1 c.2∧0≤size∧size≤1099511627776 then some (size,Iu c.2 size)else none
def Fq (c:F9)(pos n:Int)(keep:Bool):Option F9:=
 if E1 c.1 c.2∧0≤pos∧1≤n∧n≤32768∧pos≤1099511627776 - n then some (if keep then c.1 else max c.1 (pos+n),Mt c.2 pos n)else none
def Gz (c:F9)(pos n:Int):Option F9:=
 if E1 c.1 c.2∧0≤pos∧1≤n∧n≤1099511627776∧pos≤1099511627776 - n then some (c.1,Iq c.2 pos n)else none
theorem OX {size:Int}{l:List Ext}:E1 size l↔0≤size∧size≤1099511627776∧srt l∧(∀no,Cf l no→0≤no∧no<137438953472)∧∀p,size≤p→ML l p=0:=by
 unfold E1;rw[lI]
theorem Y5 {c d:F9}{pos:Int}{bs:List UInt8}(h:G4 c pos bs=some d):E1 d.1 d.2:=by
 unfold G4 at h;split at h
 ·rename_i g
  injection h with h;subst h
  split
  ·exact g.1
  ·rename_i hb
   have hlen:0<bs.length:=List.length_pos_iff.2 hb;obtain⟨g1,g2,g3,g4⟩:=g;rw[OX]at g1⊢;obtain⟨a1,a2,a3,a4,a5⟩:=g1;refine⟨by simp only;omega,by simp only;omega,U8 a3 pos,?_,?_⟩
   ·intro no hno
    rcases WX.1 hno with h | ⟨q,h1,h2,h3⟩
    ·exact a4 no h
    ·omega
   ·intro p hp
    simp only at hp;rw[cD a3,if_neg (by omega)];exact a5 p (by omega)
 ·cases h
theorem Y4 {c d:F9}{size:Int}(h:D1 c size=some d):E1 d.1 d.2:=by
 unfold D1 at h;split at h
 ·rename_i g
  injection h with h;subst h;obtain⟨g1,g2,g3⟩:=g;rw[OX]at g1⊢;obtain⟨a1,a2,a3,a4,a5⟩:=g1;refine⟨g2,g3,mB a3 size,λno hno=>a4 no (mA.1 hno).1,λp hp=>?_⟩;rw[pM a3 (λno h=>(a4 no h).2),if_neg (by simp only at hp;omega)]
 ·cases h
theorem Y2 {c d:F9}{pos n:Int}{keep:Bool}(h:Fq c pos n keep=some d):E1 d.1 d.2:=by
 unfold Fq at h;split at h
 ·rename_i g
  injection h with h;subst h;obtain⟨g1,g2,g3,g4,g5⟩:=g;rw[OX]at g1⊢;obtain⟨a1,a2,a3,a4,a5⟩:=g1;refine⟨by simp only;split<;>omega,by simp only;split<;>omega,WI a3 _,λno hno=>?_,λp hp=>?_⟩
  ·rcases aN.1 hno with h | h
   ·exact a4 no h
   ·unfold allocN at h;omega
  ·unfold Mt
   rw[iA a3];refine a5 p ?_;simp only at hp;split at hp<;>omega
 ·cases h
theorem Y3 {c d:F9}{pos n:Int}(h:Gz c pos n=some d):E1 d.1 d.2:=by
 unfold Gz at h;split at h
 ·rename_i g
  injection h with h;subst h;obtain⟨g1,g2,g3,g4,g5⟩:=g;rw[OX]at g1⊢;obtain⟨a1,a2,a3,a4,a5⟩:=g1;refine⟨a1,a2,lN a3 _ _,λno hno=>a4 no (lM.1 hno).1,λp hp=>?_⟩;rw[pG a3]
  split
  ·rfl
  ·exact a5 p hp
 ·cases h
theorem AK {v:AV}(h:AM v=true):oneA v=true:=by
 unfold AM at h;split at h
 ·rfl
 ·rfl
 ·rfl
 ·cases h
theorem FJ {α:Type}{enc:α→List AV}{sz:Nat}(hsz:∀x,(enc x).length=sz):∀(l:List α) (i:Nat),(l.flatMap enc).take (i*sz)=(l.take i).flatMap enc
 | [],i=>by simp
 | a::l,0=>by simp
 | a::l,i+1=>by
  have ha:=hsz a;rw[xG,tY,tY,← FJ hsz l i,show(i+1)*sz=(enc a).length+i*sz by rw[ha,uG];omega,List.take_length_add_append]
abbrev wL:=@List.drop_succ_cons
theorem FI {α:Type}{enc:α→List AV}{sz:Nat}(hsz:∀x,(enc x).length=sz):∀(l:List α) (i:Nat),(l.flatMap enc).drop (i*sz)=(l.drop i).flatMap enc
 | [],i=>by simp
 | a::l,0=>by simp
 | a::l,i+1=>by
  have ha:=hsz a;rw[wL,tY,← FI hsz l i,show(i+1)*sz=(enc a).length+i*sz by rw[ha,uG];omega,List.drop_length_add_append]
def Grew (H H':AH):Prop:=H.length≤H'.length∧∀i,i<H.length→H'[i]?=H[i]?
theorem Grew.refl (H:AH):Grew H H:=⟨sY _,λ_ _=>rfl⟩
theorem Grew.trans {A B C:AH}(h:Grew A B)(k:Grew B C):Grew A C:=⟨tL h.1 k.1,λi hi=>(k.2 i (tX hi h.1)).trans (h.2 i hi)⟩
theorem Grew.app (H X:AH):Grew H (H++X):=⟨by simp,λi hi=>sW hi⟩
theorem Grew.cells {H H':AH}(h:Grew H H'){o:Nat}{x:Option AObj}(ho:H[o]?=some x):H'[o]?=some x:=by
 rw[h.2 o (B5.1 ho).1];exact ho
theorem Grew.slice {H H':AH}(h:Grew H H'){sz:Nat}{v:AV}{q:List AV×Nat}(hv:Aa H sz v=some q):Aa H' sz v=some q:=
 Ae hv λi hi=>h.2 i (Au hv i hi)
theorem Jv {H:AH}{sz:Nat}{v:AV}{cs:List AV}{n:Nat}(h:Aa H sz v=some (cs,n)):(v=Ad∧cs=[]∧n=0)∨UH .eql LC v Ad=some (B false):=by
 unfold Aa at h;split at h
 ·exact .inr rfl
 ·exact .inr rfl
 ·injection h with h;injection h with h1 h2;exact .inl ⟨rfl,h1.symm,h2.symm⟩
 ·exact .inr rfl
 ·cases h
theorem Pt {H:AH}{v:AV}{cs:List AV}{n:Nat}(h:Aa H 9 v=some (cs,n))(hn:n≤1000000000):
  ∃r H',(AM r=true∧Aa H' 9 r=some (cs,n)∧Grew H H'∧∀i∈AP r,H.length≤i)∧BCall prog 95 [v] H r H':=F3 (by
 unfold DB;rcases Jv h with⟨rfl,rfl,rfl⟩ | hb
 ·have e:UH .eql LC Ad Ad=some (B true):=rfl
  simp only[e,rA,Ap];exact⟨rfl,h,Grew.refl H,by simp[AP]⟩
 ·simp only[hb,rA,Ah]
  have e:Dh H 9 0 (Bo [(I 0),u0Z,u0Z,u0Z,u0Z,u0Z,u0Z,u0Z,u0Z] 0) []=some (.sl H.length 0 0 9 (.ex 0),H++[some (.cells [])]):=rfl;simp only[e,A1];have g:=Grew.app H [some (.cells [])];obtain⟨r,H2,a1,a2,a3,a4,a5,a6⟩:=DK (sz:=9) (bytes:=16) (H:=H++[some (.cells [])]) (v:=.sl H.length 0 0 9 (.ex 0)) (cs:=[]) (n:=0) (by simp[Aa]) rfl (AJ (g.slice h)) (by omega);simp only[a1,A1];refine⟨a2,by simpa using a3,⟨by simp at a4;omega,λi hi=>?_⟩,λi hi=>?_⟩
  ·rw[a5 i (by simp;omega) (by simp[AP];omega)]
   exact g.2 i hi
  ·rcases a6 i hi with h | h
   ·simp[AP]at h;omega
   ·simp at h;omega)
theorem Nl {H:AH}{size:Int}{v:AV}{cs:List AV}{n:Nat}(h:Aa H 9 v=some (cs,n))(h1:oneA v=true)(hn:n≤1000000000):
  ∃r H',(∃w,r=.agg [I size,w]∧AM w=true∧Aa H' 9 w=some (cs,n)∧Grew H H'∧∀i∈AP w,H.length≤i)∧BCall prog 103 [.agg [I size,v]] H r H':=OE (by
 unfold LZ;have g:=Grew.app H [some (.cells [I size,v]),some (.cells [I 0,Ad])];obtain⟨w,H2,⟨a2,a3,a4,a5⟩,a1⟩:=Pt (g.slice h) hn;have c0:=a4.cells (o:=H.length) (x:=some (.cells [I size,v])) (by simp);have c1:=a4.cells (o:=H.length+1) (x:=some (.cells [I 0,Ad])) (by rw[tA (by omega)];simp);have l2:H.length+2≤H2.length:=by have:=a4.1;simpa using this
 have hw:=AK a2;simp[h1];refine bC_of a1 ?_;simp[AL hw];rw[A6 (n:=2) (off:=0) (x:=.agg [I size,w]) (xs:=[I size,w]) (cs:=[I 0,Ad]) (by simp[hw]) c1 rfl (by simp)];simp[show H.length+1<H2.length by omega,c0,Am];refine⟨a2,Ae a3 λi hi=>Co ?_,?_,λi hi=>?_⟩
 ·have:=a5 i hi;simp at this;omega
 ·refine⟨by simp;omega,λi hi=>?_⟩
  rw[Co (by omega),a4.2 i (by simp;omega),g.2 i hi]
 ·have:=a5 i hi;simp at this;omega)
theorem eV {H:AH}{s:AV}{cs:List AV}{n ov i:Nat}{x:Ext}(hs:Aa H 9 s=some (cs,n))(ho:AM s=true)(hi:i≤n)(hn:n≤100000000)(hv:H[ov]?=some (some (.cells (Aw x))))(hne:ov∉AP s):
  ∃r H',mT H s (cs.take (i*9)++Aw x++cs.drop (i*9)) n r H'∧BCall prog 222 [s,I i,.sl ov 0 1 9 (.ex 1)] H r H':=by
 have hcl:=BL hs;rcases tD i n with h | h
 ·obtain⟨o,off,cap,cells,rfl,h1,h2,rfl⟩:=Gl hs ho (by omega)
  have hov:ov≠o:=by simpa[AP]using hne
  have hol:=(B5.1 h1).1;have hxl:=A2 x;have e1:((cells.drop off).take (n*9)).take (i*9)=(cells.drop off).take (i*9):=by rw[uV];congr 1;omega
  have e2:((cells.drop off).take (n*9)).drop (i*9)=(cells.drop (off+i*9)).take ((n - i)*9):=by rw[vQ,uY];congr 1;omega
  refine⟨_,_,?_,ZV h1 h2 h hn hv hov⟩;rw[e1,e2];refine⟨rfl,?_,by simp,λj hj hn=>?_,λj hj=>.inr (by simp[AP]at hj;omega)⟩
  ·rw[AA (c:=(cells.drop off).take (i*9)++Aw x++(cells.drop (off+i*9)).take ((n - i)*9)) (by rw[tA (by simp)];simp) (by simp;omega)]
   rw[uA,sZ (by simp;omega)]
  ·rw[sW (by simpa using hj),Co (by simp[AP]at hn;omega)]
 ·have:i=n:=by omega
  subst this;obtain⟨r,H',h1,h2⟩:=ZU hs ho hn hv;refine⟨r,H',?_,h2⟩;rw[sZ (by omega),tQ (by omega),uI];exact h1
def gI (H:AH)(oc:Nat)(size:Int)(v:AV)(l:List Ext)(H':AH):Prop:=
 ∃v',H'[oc]?=some (some (.cells [I size,v']))∧Aa H' 9 v'=some (l.flatMap Aw,l.length)∧AM v'=true∧oc∉AP v'∧H.length≤H'.length∧(∀i,i<H.length→i≠oc→i∉AP v→H'[i]?=H[i]?)∧∀i∈AP v',i∈AP v∨H.length≤i
theorem Vv (no:Int):Aw (NQ no)=[I no,.lit (.int .u8 0),.lit (.int .u8 0),.lit (.int .u8 0),.lit (.int .u8 0),.lit (.int .u8 0),.lit (.int .u8 0),.lit (.int .u8 0),.lit (.int .u8 0)]:=rfl
abbrev vI:=@List.flatMap_append
theorem KE {H:AH}{oc:Nat}{size no:Int}{v:AV}{l:List Ext}(hc:H[oc]?=some (some (.cells [I size,v])))(hv:Aa H 9 v=some (l.flatMap Aw,l.length))(ho:AM v=true)(hne:oc∉AP v)(hs:srt l)(hl:l.length≤100000000):
  ∃H',gI H oc size v (Dj l no) H'∧BCall prog 202 [.ptr oc 0,I no] H (I (Em l no)) H':=by
 have key:∃r H',(r=I (Em l no)∧gI H oc size v (Dj l no) H')∧BCall prog 202 [.ptr oc 0,I no] H r H':=QV (by
  unfold Pv;have hol:=(B5.1 hc).1;obtain⟨R,hR,fR⟩:=FZ.sv hv (Da λx _=>EY x);have h1:=AK ho;simp[hc];refine bP_of (PCall.lend (FZs.cons fR (FZs.cons (FZ.lit _) FZs.nil)) rfl (QW hR hs (by omega) no)) ?_;simp
  by_cases hh:Cf l no
  ·have e:Dj l no=l:=if_pos hh
   simp[hh];rw[HV];unfold FH;rw[e];exact⟨rfl,v,hc,hv,ho,hne,sY _,λ_ _ _ _=>rfl,λi hi=>.inl hi⟩
  ·have e:Dj l no=l.take (Em l no)++NQ no::l.drop (Em l no):=if_neg hh
   simp[hh];have g:=Grew.app H [some (.cells (Aw (NQ no)))];obtain⟨r,H2,⟨b1,b2,b3,b4,b5⟩,a1⟩:=eV (x:=NQ no) (ov:=H.length) (g.slice hv) ho (Qq l no) hl (by simp) (λh=>by have:=Au hv _ h;omega);rw[← Vv];refine bC_of a1 ?_
   have c2:H2[oc]?=some (some (.cells [I size,v])):=by
    rw[b4 oc (by simp;omega) hne];exact g.cells hc
   have hr:=AK b1;have hol2:=(B5.1 c2).1;rw[A6 (n:=1) (off:=1) (xs:=[r]) (cs:=[I size,v]) (AL hr) c2 rfl (by simp)];simp;rw[HV];unfold FH;have hoc:oc∉AP r:=λh=>(b5 oc h).elim hne (λh=>by simp at h;omega)
   refine⟨rfl,r,by simp[hol2],?_,b1,hoc,by simp at b3;simp;omega,λi hi h1 h2=>?_,λi hi=>(b5 i hi).imp id (λh=>by simp at h;omega)⟩
   ·rw[Ae b2 (λi hi=>Co (fun (h:oc=i)=>hoc (h▸hi)))]
    rw[FJ A2,FI A2,e,vI,tY,tI]
    have:=Qq l no
    simp;omega
   ·rw[Co (by omega),b4 i (by simp;omega) h2]
    exact g.2 i hi)
 obtain⟨r,H',⟨rfl,h1⟩,h2⟩:=key;exact⟨H',h1,h2⟩
section
variable {κ α : Type} {c : κ→κ→Int} {key : α→κ}
theorem T6 (hc:KO c){l:List α}{x:α}:BP c key (l++[x])↔BP c key l∧∀y,l.getLast?=some y→c (key y) (key x)<0:=by
 unfold BP;rw[vO]
 constructor
 ·rintro⟨h1,-,h3⟩
  exact⟨h1,λy hy=>h3 y (List.mem_of_getLast? hy) x (by simp)⟩
 ·rintro⟨h1,h2⟩
  refine⟨h1,List.pairwise_singleton _ _,λa ha b hb=>?_⟩;rw[vJ]at hb;subst hb;obtain⟨m,hm⟩:=tK.1 ha;have hl:=(B5.1 hm).1;have hy:l.getLast?=some (l[l.length - 1]):=by rw[List.getLast?_eq_getElem?,E5 (by omega)]
  have h3:=h2 _ hy;rcases tD m (l.length - 1)with h | h
  ·exact hc.trans _ _ _ (Hz h1 hm (E5 (by omega)) h) h3
  ·have:m=l.length - 1:=by omega
   subst this;rw[E5 (by omega)]at hm;injection hm with hm;rw[← hm];exact h3
end
def YS (l:List Nm):Prop:=(∀x∈l,Gi x.name∧1≤x.ino∧x.ino≤4611686018427387904)∧BP AW Nm.name l∧(l.map Nm.ino).Nodup
instance (l:List Nm):Decidable (YS l):=by unfold YS;infer_instance
def NM (l:List Nm):Prop:=l.length≤16∧YS l
instance (l:List Nm):Decidable (NM l):=by unfold NM;infer_instance
abbrev rN:=And.intro @List.mem_append.{0} @List.mem_singleton.{0}
abbrev uH:=@List.mem_map_of_mem
theorem RF {l:List Nm}{x:Nm}:YS (l++[x])↔YS l∧(Gi x.name∧(∀y,l.getLast?=some y→AW y.name x.name<0)∧1≤x.ino∧x.ino≤4611686018427387904∧¬AO Nm.ino l x.ino):=by
 unfold YS;rw[T6 koN,vA,List.nodup_append];simp only[rN,sH,vS,List.not_mem_nil,not_false_eq_true,xH,and_self,true_and]
 constructor
 ·rintro⟨h1,⟨h2,h3⟩,h4,h5⟩
  refine⟨⟨λy hy=>h1 y (.inl hy),h2,h4⟩,(h1 x (.inr rfl)).1,h3,(h1 x (.inr rfl)).2.1,(h1 x (.inr rfl)).2.2,?_⟩;rintro⟨y,hy,e⟩;exact h5 y.ino (uH hy) x.ino rfl e
 ·rintro⟨⟨h1,h2,h4⟩,h5,h6,h7,h8,h9⟩
  refine⟨?_,⟨h2,h6⟩,h4,?_⟩
  ·rintro y (hy | rfl)
   ·exact h1 y hy
   ·exact⟨h5,h7,h8⟩
  ·rintro a ha b rfl e
   obtain⟨y,hy,e2⟩:=tZ.1 ha;exact h9 ⟨y,hy,by rw[e2,e]⟩
theorem fH {a b:List Nm}(h:YS (a++b)):YS a:=by
 unfold YS at h⊢;refine⟨λx hx=>h.1 x (by simp[hx]),(vO.1 h.2.1).1,?_⟩
 have:=h.2.2
 rw[vA,List.nodup_append]at this;exact this.1
def OP (l:List Nm):List (Int×AV):=l.map λx=>(x.ino,B true)
theorem Tc (l:List Nm)(k:Int):V5 (B false) (OP l) k=B (decide (AO Nm.ino l k)):=by
 induction l with
 | nil=>simp[V5,OP,AO]
 | cons a l ih=>
  unfold V5 OP at ih⊢;rw[vV]
  by_cases h:a.ino=k
  ·rw[List.find?_cons_of_pos (by simp[h])]
   have:AO Nm.ino (a::l) k:=⟨a,by simp,h⟩;simp[this]
  ·rw[List.find?_cons_of_neg (by simp[h]),ih]
   have:AO Nm.ino (a::l) k↔AO Nm.ino l k:=by
    unfold AO;simp[h]
   simp[this]
theorem YD {l:List Nm}{x:Nm}(h:¬AO Nm.ino l x.ino):fK (OP l) x.ino (B true)=OP (l++[x]):=by
 unfold fK
 have:(OP l).findIdx? (λp=>p.1==x.ino)=none:=by
  rw[vL];intro p hp;obtain⟨y,hy,rfl⟩:=tZ.1 hp;simp only[beq_eq_false_iff_ne,ne_eq];exact λe=>h ⟨y,hy,e⟩
 rw[this];simp[OP]
def mV (H:AH)(l:List Nm)(r:AV)(H':AH):Prop:=Grew H H'∧
 (NM l→∃o,r=.tup [.mp o,B true]∧H'[o]?=some (some (.map (OC (OP l)))))∧(¬NM l→r=.tup [.lit (.map none),B false])
abbrev vP:=@List.take_add_one
theorem fC {H:AH}{l:List Nm}{v:AV}(hv:SV Ca 2 l v)(hl:l.length≤281474976710656)(hs:∀x∈l,x.name.length≤9223372036854775807):∃r H',mV H l r H'∧BCall prog 91 [v] H r H':=Rt (by
 unfold P2
 by_cases h16:l.length≤16
 ·have e16:¬(16:Int)<l.length:=by omega
  simp[hv.len,e16];refine LB (λn x0 x4 x11 x12 x13 H'=>∃k:Nat,k+n=l.length∧x0=v∧x4=.mp H.length∧x11=v∧x12=I l.length∧x13=I k∧Grew H H'∧H'[H.length]?=some (some (.map (OC (OP (l.take k)))))∧YS (l.take k)) ?_ l.length ⟨0,by omega,rfl,rfl,rfl,rfl,rfl,Grew.app _ _,by simp;rfl,by simp[YS,BP]⟩;rintro n x0 x4 x11 x12 x13 H' R hR ⟨k,hk,rfl,rfl,rfl,rfl,rfl,hg,hm,hok⟩;unfold IP;rcases tD k l.length with h | h
  ·have hx:=E5 h
   generalize l[k]=x at hx;have htk:l.take (k+1)=l.take k++[x]:=by rw[vP,hx];rfl
   have hgt:∀y,(l.take k).getLast?=some y↔0<k∧l[k - 1]?=some y:=by
    intro y;rw[List.getLast?_eq_getElem?,sX,vH (by omega),tF]
    by_cases c:0<k
    ·rw[if_pos (by omega)];exact⟨λh=>⟨c,h⟩,λh=>h.2⟩
    ·rw[if_neg (by omega)];exact⟨λh=>(by cases h),λh=>absurd h.1 c⟩
   have hstep:NM l→Gi x.name∧(∀y,0<k∧l[k - 1]?=some y→AW y.name x.name<0)∧1≤x.ino∧x.ino≤4611686018427387904∧¬AO Nm.ino (l.take k) x.ino:=by
    rintro⟨-,ho⟩;rw[← vC (k+1) l,htk]at ho
    have:=(RF.1 (fH ho)).2
    simpa only[hgt]using this
   have hsx:=hs x (tB hx);have g1:=Grew.app H' [some (.cells (Ca x))];have c1:(H'++[some (AObj.cells [S (As x.name),I x.ino])])[H.length]?=some (some (.map (OC (OP (l.take k))))):=g1.cells hm
   have ea:AU 2 (H'++[some (.cells [S (As []),I 0])]) (.ptr H'.length 0) (.agg (Ca x))=some (H'++[some (.cells (Ca x))]):=by
    simp[AU,Ca,AS]
   simp[h,hv.idx DL hx rfl,aY,Vd,ea];simp[Ca];refine bP_of (Ll (s:=x.name) (by omega)) ?_;have hno:¬(Gi x.name∧(∀y,0<k∧l[k - 1]?=some y→AW y.name x.name<0)∧1≤x.ino∧x.ino≤4611686018427387904∧¬AO Nm.ino (l.take k) x.ino)→mV H l (.tup [.lit (.map none),B false]) (H'++[some (.cells (Ca x))]):=λhn=>⟨hg.trans g1,λhh=>absurd (hstep hh) hn,λ_=>rfl⟩
   have key:(∀y,0<k∧l[k - 1]?=some y→AW y.name x.name<0)→Gi x.name→True:=λ_ _=>trivial
   by_cases a1:Gi x.name
   ·have hal:cH (.int .i64) (.bool false) (H'++[some (AObj.cells [S (As x.name),I x.ino])]) (.mp H.length) (I x.ino) false=some (B (decide (AO Nm.ino (l.take k) x.ino))):=by
     rw[Xf c1];exact congrArg some (Tc _ _)
    have ham:¬AO Nm.ino (l.take k) x.ino→mG (.int .i64) (H'++[some (AObj.cells [S (As x.name),I x.ino])]) (.mp H.length) (I x.ino) (B true)=some ((H'++[some (AObj.cells [S (As x.name),I x.ino])]).set H.length (some (.map (OC (OP (l.take k++[x])))))):=λhn=>by
     rw[dA c1,YD hn]
    have hol:H.length<H'.length:=(B5.1 hm).1;rcases wC k with h0 | hk0
    ·have e0:¬0<k:=by omega
     have a5:∀y,(l.take k).getLast?=some y→AW y.name x.name<0:=λy hy=>by have:=(hgt y).1 hy;omega
     by_cases a2:x.ino<1
     ·simp[a1,e0,a2]
      exact hno λhh=>by omega
     ·by_cases a3:4611686018427387904<x.ino
      ·simp[a1,e0,a2,a3]
       exact hno λhh=>by omega
      ·by_cases a4:AO Nm.ino (l.take k) x.ino
       ·simp[a1,e0,a2,a3,hal,a4]
        exact hno λhh=>hh.2.2.2.2 a4
       ·simp[a1,e0,a2,a3,hal,a4,ham a4,Az (a:=(k:Nat)) (b:=1) (by omega) (by omega)]
        refine hR (n - 1) _ _ _ _ _ _ (by omega) ⟨k+1,by omega,rfl,rfl,rfl,rfl,by simp,⟨tL (hg.trans g1).1 (wQ List.length_set.symm),λi hi=>(Co (by omega)).trans ((hg.trans g1).2 i hi)⟩,by rw[htk,IJ (by simp;omega)],by rw[htk,RF];exact⟨hok,a1,a5,by omega,by omega,a4⟩⟩
    ·have e0:0<k:=hk0
     have hy:=E5 (l:=l) (i:=k - 1) (by omega);generalize l[k - 1]=y at hy;have es:Ax .sub (I k) (I 1)=some (I ((k - 1:Nat):Int)):=by rw[Ci (by omega) (by omega)];congr 3;omega
     have ei:=hv.idx DL hy (i:=((k - 1:Nat):Int)) rfl
     by_cases a6:AW y.name x.name<0
     ·have a5:∀y,(l.take k).getLast?=some y→AW y.name x.name<0:=λz hz=>by have:=((hgt z).1 hz).2;rw[hy]at this;injection this with this;rw[← this];exact a6
      by_cases a2:x.ino<1
      ·simp[a1,e0,es,ei,QL,MR,a6,a2]
       exact hno λhh=>by omega
      ·by_cases a3:4611686018427387904<x.ino
       ·simp[a1,e0,es,ei,QL,MR,a6,a2,a3]
        exact hno λhh=>by omega
       ·by_cases a4:AO Nm.ino (l.take k) x.ino
        ·simp[a1,e0,es,ei,QL,MR,a6,a2,a3,hal,a4]
         exact hno λhh=>hh.2.2.2.2 a4
        ·simp[a1,e0,es,ei,QL,MR,a6,a2,a3,hal,a4,ham a4,Az (a:=(k:Nat)) (b:=1) (by omega) (by omega)]
         refine hR (n - 1) _ _ _ _ _ _ (by omega) ⟨k+1,by omega,rfl,rfl,rfl,rfl,by simp,⟨tL (hg.trans g1).1 (wQ List.length_set.symm),λi hi=>(Co (by omega)).trans ((hg.trans g1).2 i hi)⟩,by rw[htk,IJ (by simp;omega)],by rw[htk,RF];exact⟨hok,a1,a5,by omega,by omega,a4⟩⟩
     ·simp[a1,e0,es,ei,QL,MR,a6]
      exact hno λhh=>a6 (hh.2.1 y ⟨hk0,hy⟩)
   ·simp[a1]
    exact hno λhh=>a1 hh.1
  ·have:l.take k=l:=sZ (by omega)
   rw[this]at hm hok;simp[show ¬k<l.length by omega];exact⟨hg,λ_=>⟨_,rfl,hm⟩,λhn=>absurd ⟨h16,hok⟩ hn⟩
 ·have e16:(16:Int)<l.length:=by omega
  have:¬NM l:=λh=>h16 h.1
  simp[hv.len,e16];exact⟨Grew.refl _,λh=>absurd h this,λ_=>rfl⟩)
end
section
def aO (ns:List Nm)(ds:List Nd):Prop:=BP BS Nd.ino ds∧∀d∈ds,AO Nm.ino ns d.ino∧E1 d.size d.l
instance (ns:List Nm) (ds:List Nd):Decidable (aO ns ds):=by unfold aO;infer_instance
def Io (ns:List Nm)(ds:List Nd):Prop:=NM ns∧ds.length=ns.length∧aO ns ds
instance (ns:List Nm) (ds:List Nd):Decidable (Io ns ds):=by unfold Io;infer_instance
def Sm (ns:List Nm)(ds:List Nd):Prop:=ns.length≤100000∧ds.length≤100000∧(∀x∈ns,x.name.length≤9223372036854775807)∧∀d∈ds,d.l.length≤1000000
def ImV (ns:List Nm)(ds:List Nd)(v:AV):Prop:=∃a b dv,v=.agg [a,b]∧SV Ca 2 ns a∧SV BH 3 dv b∧dv.map NdV.nd=ds
theorem ImV.noIds {ns:List Nm}{ds:List Nd}{v:AV}(h:ImV ns ds v):Ay [v]=true:=by
 obtain⟨a,b,dv,rfl,h1,h2,rfl⟩:=h;simp[Ay,Av.noIds,h1.1,h2.1]
theorem VG {ns:List Nm}{ds:List Nd}{d:Nd}:aO ns (ds++[d])↔aO ns ds∧(∀y,ds.getLast?=some y→y.ino<d.ino)∧AO Nm.ino ns d.ino∧E1 d.size d.l:=by
 unfold aO;rw[T6 koI];simp only[TY,rN]
 constructor
 ·rintro⟨⟨h1,h2⟩,h3⟩
  exact⟨⟨h1,λy hy=>h3 y (.inl hy)⟩,h2,h3 d (.inr rfl)⟩
 ·rintro⟨⟨h1,h3⟩,h2,h4⟩
  refine⟨⟨h1,h2⟩,?_⟩;rintro y (hy | rfl)
  ·exact h3 y hy
  ·exact h4
theorem fE {ns:List Nm}{a b:List Nd}(h:aO ns (a++b)):aO ns a:=
 ⟨(vO.1 h.1).1,λd hd=>h.2 d (by simp[hd])⟩
theorem TA {α:Type}{l:List α}{k:Nat}{x:α}(hx:l[k]?=some x):l.take (k+1)=l.take k++[x]:=by rw[vP,hx];rfl
theorem UE {ns:List Nm}{ds:List Nd}{v:AV}(hv:ImV ns ds v)(hb:Sm ns ds):BPure prog 40 [v] (B (decide (Io ns ds))):=BPure.val hv.noIds rfl (Uj (by
 obtain⟨a,b,dv,rfl,ha,hbv,rfl⟩:=hv;have b1:=hb.1;have b2:=hb.2.1;rw[uE]at b2;unfold SX;have oa:=SV.oneA ha;have ob:=SV.oneA hbv;simp[oa,ob];obtain⟨r,H5,⟨hg,hy,hn⟩,hc⟩:=fC (H:=[some (.cells [a,b])]) ha (by omega) (λx hx=>by have:=hb.2.2.1 x hx;omega);refine bC_of hc ?_;have c0:H5[0]?=some (some (.cells [a,b])):=hg.cells rfl
 by_cases hm:NM ns
 ·obtain⟨o,rfl,hmap⟩:=hy hm
  have hal:Wq H5 (.mp o)=some (I ns.length):=by
   simp[Wq,hmap,OC,OP,goInt]
  simp[c0,hbv.len,hal]
  by_cases hlen:dv.length=ns.length
  ·have hlI:¬((dv.length:Int)≠ns.length):=by omega
   simp[hlen,c0,hbv.len];refine N8 (λn x3 x5 x25 x26 x27 H'=>∃k:Nat,k+n=dv.length∧x3=.mp o∧(∃last:Int,x5=I last∧0≤last∧(∀y,(dv.take k).getLast?=some y→y.ino≤last)∧(last=0∨∃y,(dv.take k).getLast?=some y∧y.ino=last))∧x25=b∧x26=I ns.length∧x27=I k∧Grew H5 H'∧aO ns ((dv.take k).map NdV.nd)) ?_ dv.length ⟨0,by omega,rfl,⟨0,rfl,by omega,by simp,.inl rfl⟩,rfl,rfl,rfl,Grew.refl _,by simp[aO,BP]⟩;rintro n x3 x5 x25 x26 x27 H' R hR ⟨k,hk,rfl,⟨last,rfl,hl0,hl1,hl2⟩,rfl,rfl,rfl,hg2,hok⟩;unfold KP;rcases tD k ns.length with h | h
   ·have hx:=E5 (l:=dv) (i:=k) (by omega)
    generalize dv[k]=d at hx
    have ea:AU 3 (H'++[some (.cells [I 0,I 0,Ad])]) (.ptr H'.length 0) (.agg (BH d))=some (H'++[some (.cells (BH d))]):=by
     have:=SV.oneA d.h
     simp[AU,BH,AS,this]
    have g1:=Grew.app H' [some (.cells (BH d))];have c1:(H'++[some (AObj.cells [I d.nd.ino,I d.nd.size,d.R])])[o]?=some (some (.map (OC (OP ns)))):=g1.cells (hg2.cells hmap)
    have hal2:cH (.int .i64) (.bool false) (H'++[some (AObj.cells [I d.nd.ino,I d.nd.size,d.R])]) (.mp o) (I d.nd.ino) false=some (B (decide (AO Nm.ino ns d.nd.ino))):=by
     rw[Xf c1];exact congrArg some (Tc _ _)
    have hdl:d.nd.l.length≤281474976710656:=by
     have:=hb.2.2.2 d.nd (uH (tB hx));omega
    have htk:=TA hx
    have hstep:Io ns (dv.map NdV.nd)→last<d.nd.ino∧AO Nm.ino ns d.nd.ino∧E1 d.nd.size d.nd.l:=by
     rintro⟨-,-,ho⟩;rw[← vC (k+1) dv,htk,vA,vA]at ho;have h3:=(VG.1 (fE ho)).2;refine⟨?_,h3.2⟩;rcases hl2 with rfl | ⟨y,hy,rfl⟩
     ·obtain⟨x,hx,e⟩:=h3.2.1
      have:=(hm.2.1 x hx).2.1
      omega
     ·exact h3.1 y.nd (by rw[List.getLast?_map,hy];rfl)
    simp[h,hbv.idx CX hx rfl,XD,ea];simp[BH]
    by_cases a1:d.nd.ino≤last
    ·have:¬Io ns (dv.map NdV.nd):=λhh=>by have:=(hstep hh).1;omega
     simp[a1,this]
    ·by_cases a2:AO Nm.ino ns d.nd.ino
     ·simp[a1,hal2,a2,Am]
      refine A3 (Ft d.h hdl) ?_
      by_cases a3:E1 d.nd.size d.nd.l
      ·simp[a3,Az (a:=k) (b:=1) (by omega) (by omega)]
       refine hR (n - 1) _ _ _ _ _ _ (by omega) ⟨k+1,by omega,rfl,⟨d.nd.ino,rfl,by omega,?_,.inr ⟨d,by rw[htk];simp,rfl⟩⟩,rfl,rfl,by simp,hg2.trans g1,?_⟩
       ·intro y hy
        rw[htk]at hy;simp at hy;rw[← hy];exact Int.le_refl _
       ·rw[htk,vA]
        refine VG.2 ⟨hok,λy hy=>?_,a2,a3⟩;rw[List.getLast?_map]at hy;obtain⟨z,hz,rfl⟩:=Option.map_eq_some_iff.1 hy;have h9:z.nd.ino≤last:=hl1 z hz
        show z.nd.ino<d.nd.ino
        omega
      ·have:¬Io ns (dv.map NdV.nd):=λhh=>a3 (hstep hh).2.2
       simp[a3,this]
     ·have:¬Io ns (dv.map NdV.nd):=λhh=>a2 (hstep hh).2.1
      simp[a1,hal2,a2,this]
   ·have e:dv.take k=dv:=sZ (by omega)
    rw[e]at hok;have:Io ns (dv.map NdV.nd):=⟨hm,by simp[hlen],hok⟩;simp[show ¬k<ns.length by omega,this]
  ·have:¬Io ns (dv.map NdV.nd):=λh=>hlen (by simpa using h.2.1)
   have hlI:((dv.length:Int)≠ns.length):=by omega
   simp[hlI,this]
 ·have:¬Io ns (dv.map NdV.nd):=λh=>hm h.1
  rw[hn hm];simp[this]))
end
end Go.Proofs.YtbppnhenlboefaaGreat.Av
