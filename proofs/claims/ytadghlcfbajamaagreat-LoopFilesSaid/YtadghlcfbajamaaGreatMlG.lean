/- Texts of this proof, one behind the other, packed into one file by a program of this session. No condition. -/
import Derived.Test.YtadghlcfbajamaaGreatMlF
import Derived.ChangeArms
import Derived.DataElems
import Derived.DataReads
import Derived.KernelRfl
import Derived.Laws.IdiomStrings
import Derived.Lib.Bytealg
import Derived.Lib.Overlaps
import Derived.OpenShut
set_option linter.unusedVariables false
set_option linter.unusedSimpArgs false
set_option maxRecDepth 100000
namespace Go.Proofs.YtadghlcfbajamaaGreat.Av
open Go Go.RowKit Go.Proofs.Tryz
section
def AY (l:List UInt8):List AV:=l.map λb=>.lit (.int .u8 b.toNat)
theorem bM (a b:List UInt8):AY (a++b)=AY a++AY b:=by simp[AY]
theorem Dg (a:List UInt8):(AY a).length=a.length:=by simp[AY]
theorem N0 (a:List UInt8)(n:Nat):(AY a).take n=AY (a.take n):=by simp[AY]
theorem Qx (a:List UInt8)(n:Nat):(AY a).drop n=AY (a.drop n):=by simp[AY]
theorem T6 (a:List UInt8)(n:Nat):(AY a)[n]?=(a[n]?).map λb=>.lit (.int .u8 b.toNat):=by simp[AY]
def FB (b:UInt8):List AV:=[.lit (.int .u8 b.toNat)]
theorem Jv (l:List UInt8):l.flatMap FB=AY l:=by
 induction l with
 | nil=>rfl
 | cons a l ih=>rw[Aj9,ih];rfl
theorem Jw (l:List UInt8):A5 (AY l)=true:=by
 induction l with
 | nil=>rfl
 | cons a l ih=>simpa[AY,A5,noIds]using ih
def B9 (l:List UInt8):ByteArray:=⟨l.toArray⟩
theorem Nz (l:List UInt8):(B9 l).size=l.length:=rfl
abbrev Am8:=@List.drop_eq_getElem_cons
theorem pK (s:ByteArray):∀(n i:Nat) (r:List UInt8),s.size - i=n→ByteArray.toList.loop s i r=r.reverse++s.data.toList.drop i:=by
  intro n
  induction n with
  | zero=>
    intro i r h;unfold ByteArray.toList.loop
    rw [if_neg (by omega), List.drop_of_length_le (by have : s.data.toList.length = s.size := by rw [Array.length_toList]; rfl
                                                      omega)]
    simp
  | succ n ih=>
    intro i r h;unfold ByteArray.toList.loop;have hi:i<s.size:=by omega
    rw[if_pos hi,ih (i+1) _ (by omega)];have hl:i<s.data.toList.length:=by rw[Al6];exact hi
    rw[Am8 hl];simp[ByteArray.get!,getElem!_def];have:s.data[i]?=some s.data[i]:=Ao0 hi;simp[this]
theorem pJ (s:ByteArray):s.toList=s.data.toList:=by
 unfold ByteArray.toList;rw[pK s s.size 0 [] (by simp)];simp
theorem Jt (l:List UInt8):(B9 l).toList=l:=by rw[pJ];simp[B9]
theorem mW (l:List UInt8):Tv (AY l)=some (l.map λb=>(b.toNat:Int)):=by
 induction l with
 | nil=>rfl
 | cons a l ih=>
  have:AY (a::l)=.lit (.int .u8 a.toNat)::AY l:=rfl;rw[this];simp only[Tv,ih];rfl
theorem fT (l:List UInt8):X6 (l.map λb=>(b.toNat:Int))=B9 l:=by
 unfold X6;rw[foldl_push_byteCells];unfold B9
 have:(ByteArray.empty.data++l.toArray)=l.toArray:=by
  apply Array.ext';simp[ByteArray.empty,ByteArray.emptyWithCapacity]
  try rfl
 rw[this]
theorem Qp {H:AH}{x:AV}{l:List UInt8}{n:Nat}(h:Ac H 1 x=some (AY l,n)):xS H x=some (S (B9 l)):=by
 unfold xS
 split
 ·simp[Ac]at h
 ·rw[h];simp only[mW];rw[← fT];rfl
abbrev Ag1:=And.intro @Jt @Option.map_some.{0,0}
theorem Nh {a b:List UInt8}:XZ .eql (S (B9 a)) (S (B9 b))=some (B (decide (a=b))):=by
 simp only[XZ,YP,Ag1]
 by_cases h:a=b<;>simp[h]
theorem sU {a b:List UInt8}:XZ .neq (S (B9 a)) (S (B9 b))=some (B (decide (a≠b))):=by
 simp only[XZ,YP,Ag1]
 by_cases h:a=b<;>simp[h]
theorem aT:(⟨#[]⟩:ByteArray)=B9 []:=rfl
theorem SV.bytes {l:List UInt8}{v:AV}(h:SV FB 1 l v)(H:AH):Ac H 1 v=some (AY l,l.length):=by rw[h.2 H,Jv]
theorem SV.noId {α:Type}{enc:α→List AV}{sz:Nat}{l:List α}{v:AV}(h:SV enc sz l v):AM v=[]:=by
 have:=h.1
 cases v<;>simp[AM,noIds]at this⊢
abbrev Ao9:=@List.getElem?_take_of_lt
theorem yO {H:AH}{v:AV}{l:List UInt8}{n k:Nat}{i:Int}{b:UInt8}(h:Ac H 1 v=some (AY l,n))(hi:i=k)(hb:l[k]?=some b):∃p,Bo 1 v (.lit (.int .i64 i))=some p∧(∃c,lF H p=some c)∧Ap false 1 H p=some (.lit (.int .u8 b.toNat)):=by
 have hl:=B7 h;rw[Dg]at hl;have hk:=(BE.1 hb).1;obtain⟨p,c,h1,h2,h3,h4⟩:=Nx h hi (show k<n by omega);refine⟨p,h1,⟨c,h2⟩,?_⟩;rw[VQ h2 (by omega) h4,Ah]
 have:=congrArg (λl=>l[0]?) h3
 simp only[An6]at this;rw[Ao9 (by omega),Ao9 (by omega),Ai6,Al8,T6,hb]at this;exact this
structure Ext where
 no:Int
 b:List UInt8
 hb:b.length=8
 deriving DecidableEq
def AB (x:Ext):List AV:=I x.no::AY x.b
theorem AE (x:Ext):(AB x).length=9:=by simp[AB,Dg,x.hb]
theorem zT (l:List UInt8):(AY l).all oneA=true:=by simp[AY]
@[simp] theorem zU (x:Ext):(AB x).all oneA=true:=by
 show(oneA (I x.no)&&(AY x.b).all oneA)=true
 rw[zT];rfl
theorem Hd (x:Ext):A5 (AB x)=true:=by
 show A5 (I x.no::AY x.b)=true
 simp[A5,noIds,Jw]
@[simp] theorem zdorZ (x:Ext) (t:List AV):(AB x++t)[0]?=some (I x.no):=rfl
@[simp] theorem zdniZ (x:Ext):(AB x)[0]?=some (I x.no):=rfl
@[simp] theorem rd_b (x:Ext):Ax true 8 (AB x) 1=some (.agg (AY x.b)):=by
 have:=x.hb
 simp[Ax,AB,Dg,this,Ai2]
@[simp] theorem rd_e (x:Ext) (t:List AV):Ax true 9 (AB x++t) 0=some (.agg (AB x)):=by
 have:=AE x
 simp[Ax,this]
@[simp] theorem zdieZ (x:Ext):Ax true 9 (AB x) 0=some (.agg (AB x)):=by
 have:=AE x
 simp[Ax,this,Ai2]
theorem zdmhZ {b:List UInt8}{k:Nat}{y:UInt8}(h:b[k]?=some y)(hk:k<8):yM false 1 8 1 (.agg (AY b)) (I k)=some (.lit (.int .u8 y.toNat)):=by
 have:(k:Int)<8:=by omega
 simp[yM,Ni,this,T6,h]
theorem gI {H:AH}{z:List AV}{x:Ext}{o:Nat}(ho:o=H.length)(hz:z.length=9):AP 9 (H++[some (.cells z)]) (.ptr o 0) (.agg (AB x))=some (H++[some (.cells (AB x))]):=by
 have:=AE x
 have e:Bm z 0 (AB x)=AB x:=by
  have hb:(AY x.b).length=8:=by rw[Dg,x.hb]
  unfold AB;cases hB:AY x.b with
  | nil=>rw[hB]at hb;simp at hb
  | cons a r=>rw[hB]at hb;simp at hb;simp[Bm,hz,hb]
 simp[AP,ho,this,hz,e,-Bm]
theorem u8z {y:UInt8}:(y.toNat=0)=(y=0):=by
 refine propext ⟨λh=>?_,λh=>by rw[h];rfl⟩;apply UInt8.toNat_inj.1;rw[h];rfl
def cleanB (size:Int):Int→List UInt8→Prop
 | _,[]=>True
 | p,b::r=>(b≠0→p<size)∧cleanB size (p+1) r
instance cleanB.dec (size:Int):∀(p:Int) (l:List UInt8),Decidable (cleanB size p l)
 | _,[]=>Decidable.isTrue True.intro
 | p,b::r=>by
  have:=cleanB.dec size (p+1) r
  unfold cleanB;infer_instance
def JT (size:Int)(x:Ext):Prop:=cleanB size (x.no*8) x.b
instance (size:Int) (x:Ext):Decidable (JT size x):=by unfold JT;infer_instance
def okL (size:Int):Int→List Ext→Prop
 | _,[]=>True
 | p,x::r=>p<x.no∧x.no<137438953472∧JT size x∧okL size x.no r
instance okL.dec (size:Int):∀(p:Int) (l:List Ext),Decidable (okL size p l)
 | _,[]=>Decidable.isTrue True.intro
 | p,x::r=>by
  have:=okL.dec size x.no r
  unfold okL;infer_instance
theorem Uj {size p:Int}{x:Ext}{r:List Ext}:okL size p (x::r)=(p<x.no∧x.no<137438953472∧JT size x∧okL size x.no r):=rfl
theorem tZ {size p:Int}:okL size p []=True:=rfl
def Dh (size:Int)(l:List Ext):Prop:=0≤size∧size≤1099511627776∧okL size (-1) l
instance (size:Int) (l:List Ext):Decidable (Dh size l):=by unfold Dh;infer_instance
theorem Dy {α:Type}{l:List α}{k:Nat}{y:α}(h:l[k]?=some y):l.drop k=y::l.drop (k+1):=by
 obtain⟨hk,e⟩:=BE.1 h;rw[Am8 hk,e]
theorem cC (x:Ext)(size:Int)(h0: -1≤x.no)(h1:x.no<137438953472):BPure prog 141 [.agg (AB x),I size] (B (decide (JT size x))):=BPure.val (by simp[A5,noIds,Hd]) rfl (Z9 (by
 unfold WR;simp;refine TL (λn x1 x2 x8 x9 H'=>∃k:Nat,k+n=8∧x1=I size∧x2=.ptr 0 0∧x8=.agg (AY x.b)∧x9=I k∧H'=[some (.cells (AB x))]∧(JT size x↔cleanB size (x.no*8+k) (x.b.drop k))) ?_ 8 ⟨0,rfl,rfl,rfl,rfl,rfl,rfl,by simp[JT]⟩;rintro n x1 x2 x8 x9 H' R hR ⟨k,hk,rfl,rfl,rfl,rfl,rfl,hm⟩;unfold Po;rcases Ai0 k 8 with hlt | hge
 ·have hlt':(k:Int)<8:=by omega
  have hx:=DD (l:=x.b) (i:=k) (by rw [x.hb]; exact hlt);generalize x.b[k]'(by rw [x.hb]; exact hlt)=y at hx;rw [Dy hx] at hm;unfold cleanB at hm;simp [hlt',zdmhZ hx hlt,u8z];have hkk : (k : Int) + 1=((k + 1 : Nat) : Int):=by omega
  by_cases hy:y=0
  ·simp[hy,Au (a:=k) (b:=1) (by omega) (by omega)]
   refine hR (n - 1) _ _ _ _ _ (by omega) ⟨k+1,by omega,rfl,rfl,rfl,rfl,rfl,?_⟩;rw[hm];simp[hy,Int.add_assoc]
  ·simp[hy,D4 (a:=x.no) (b:=8) (by omega) (by omega),Au (a:=x.no*8) (b:=k) (by omega) (by omega)]
   by_cases hs:size≤x.no*8+k
   ·have:¬JT size x:=by rw[hm];intro h;have:=h.1 hy;omega
    simp[hs,this]
   ·simp[hs,Au (a:=k) (b:=1) (by omega) (by omega)]
    refine hR (n - 1) _ _ _ _ _ (by omega) ⟨k+1,by omega,rfl,rfl,rfl,rfl,rfl,?_⟩;rw[hm];simp[hy,Int.add_assoc];omega
 ·have:k=8:=by omega
  subst this;have e:x.b.drop 8=[]:=by rw[List.drop_eq_nil_iff,x.hb];omega
  rw[e]at hm;simp only[cleanB,iff_true]at hm;simp[hm]))
theorem Cn {α:Type}{enc:α→List AV}{sz:Nat}{l:List α}{v:AV}(hv:SV enc sz l v):oneA v=true:=by
 have h1:=hv.1;have h2:=hv.2 [];cases v with
 | lit a=>cases a<;>first | rfl | (simp[Ac]at h2)
 | _=>first | rfl | (simp[Ac]at h2)
theorem NE (no:Int)(h0:0≤no)(h1:no<137438953472):BPure prog 153 [I no] (.agg (Bz ⟨no*8,8⟩)):=BPure.val (by simp[A5,noIds]) rfl (ZB (by
 unfold WU;simp[D4 (a:=no) (b:=8) (by omega) (by omega),AP,Ax,Bz]))
abbrev Ap5:=@List.drop_length
theorem EM {size:Int}{l:List Ext}{v:AV}(hv:SV AB 9 l v)(hl:l.length≤281474976710656):BPure prog 90 [.agg [I size,v]] (B (decide (Dh size l))):=BPure.val (by simp[A5,noIds,hv.1]) rfl (fD (by
 unfold bZ;simp[Cn hv]
 by_cases h1:size<0
 ·have:¬Dh size l:=λh=>by have:=h.1;omega
  simp[h1,this]
 ·by_cases h2:1099511627776<size
  ·have:¬Dh size l:=λh=>by have:=h.2.1;omega
   simp[h1,h2,this]
  ·simp[h1,h2,hv.len]
   have hm:Dh size l↔okL size (-1) l:=by unfold Dh;constructor<;>intro h<;>simp_all<;>omega
   have e:decide (Dh size l)=decide (okL size (-1) l):=decide_eq_decide.2 hm;rw[e];refine Wb (λn x1 x3 x15 x16 x17 H'=>∃(k:Nat) (p:Int),k+n=l.length∧x1=.ptr 0 0∧x3=I p∧x15=v∧x16=I l.length∧x17=I k∧(∃X,H'=some (.cells [I size,v])::X)∧-1≤p∧(okL size (-1) l↔okL size p (l.drop k))) ?_ l.length ⟨0,-1,by simp,rfl,rfl,rfl,rfl,rfl,⟨[],rfl⟩,by omega,by simp⟩;rintro n x1 x3 x15 x16 x17 H' R hR ⟨k,p,hk,rfl,rfl,rfl,rfl,rfl,⟨X,rfl⟩,hp,hm⟩;unfold Sq;rcases Ai0 k l.length with hlt | hge
   ·have hx:=DD hlt
    generalize l[k]=y at hx;rw[Dy hx]at hm;rw[Uj]at hm;simp[hlt,hv.idx AE hx rfl,-CF];rw[← An9,gI (by simp) (by rfl)];simp
    by_cases c1:y.no≤p
    ·have:¬okL size (-1) l:=by rw[hm];intro h;omega
     simp[c1,this]
    ·by_cases c2:137438953472≤y.no
     ·have:¬okL size (-1) l:=by rw[hm];intro h;omega
      simp[c1,c2,this]
     ·simp[c1,c2]
      refine Ay (cC y size (by omega) (by omega)) ?_
      by_cases c3:JT size y
      ·simp[c3,Au (a:=k) (b:=1) (by omega) (by omega)]
       refine hR (n - 1) _ _ _ _ _ _ (by omega) ⟨k+1,y.no,by omega,rfl,rfl,rfl,rfl,rfl,⟨X++[some (.cells (AB y))],rfl⟩,by omega,?_⟩;rw[hm];exact⟨λh=>h.2.2.2,λh=>⟨by omega,by omega,c3,h⟩⟩
      ·have:¬okL size (-1) l:=by rw[hm];intro h;exact c3 h.2.2.1
       simp[c3,this]
   ·have:k=l.length:=by omega
    subst this;rw[Ap5]at hm;simp only[tZ,iff_true]at hm;simp[hm]))
theorem yN {b:List UInt8}{t:List AV}{k:Nat}{y:UInt8}{H:AH}(h:b[k]?=some y)(hk:k<8):∃q,SJ 8 1 (.ip (AY b++t)) (I k)=some q∧Ap false 1 H q=some (.lit (.int .u8 y.toNat)):=by
 have hk':(k:Int)<8:=by omega
 have hl:k<b.length:=(BE.1 h).1;refine⟨.ip ((AY b++t).drop k),by simp[SJ,Ni,hk'],?_⟩;have hl':k<(AY b).length:=by rw[Dg];exact hl
 simp[Ah6 hl',T6,h]
theorem CD {size:Int}{l:List Ext}{v:AV}(hv:SV AB 9 l v)(hl:l.length≤281474976710656):BPure prog 122 [.agg [I size,v]] (B (decide (Dh size l))):=BPure.val (by simp[A5,noIds,hv.1]) rfl (OT (by
 unfold Kl;simp[Cn hv]
 by_cases h1:size<0
 ·have:¬Dh size l:=λh=>by have:=h.1;omega
  simp[h1,this]
 ·by_cases h2:1099511627776<size
  ·have:¬Dh size l:=λh=>by have:=h.2.1;omega
   simp[h1,h2,this]
  ·simp[h1,h2]
   have hm:Dh size l↔okL size (-1) l:=by unfold Dh;constructor<;>intro h<;>simp_all<;>omega
   have e:decide (Dh size l)=decide (okL size (-1) l):=decide_eq_decide.2 hm;rw[e];refine L7 (λn x1 x3 H'=>∃(k:Nat) (p:Int),k+n=l.length∧x1=.ptr 0 0∧x3=I k∧H'=[some (.cells [I size,v])]∧-1≤p∧(k=0→p= -1)∧(∀z,0<k→l[k - 1]?=some z→p=z.no)∧(okL size (-1) l↔okL size p (l.drop k))) ?_ l.length ⟨0,-1,by simp,rfl,rfl,rfl,by omega,by simp,by simp,by simp⟩;rintro n x1 x3 H' R hR ⟨k,p,hk,rfl,rfl,rfl,hp,hp0,hp1,hm⟩;unfold GH;rcases Ai0 k l.length with hlt | hge
   ·have hx:=DD hlt
    generalize l[k]=y at hx;rw[Dy hx]at hm;rw[Uj]at hm;simp[hlt,hv.len,hv.idx AE hx rfl]
    have fin:¬p<y.no∨¬y.no<137438953472→¬okL size (-1) l:=by
     rw[hm];intro h h';omega
    have go: -1≤y.no→y.no<137438953472→p<y.no→E1 R (.ptr 0 0) (I k) (I y.no) (I 0) [some (.cells [I size,v])] (λr H'=>r=B (decide (okL size (-1) l))):=by
     intro g1 g2 g3;refine KH R (λm x1 x3 x4 x5 H'=>∃(j:Nat),j+m=8∧x1=.ptr 0 0∧x3=I k∧x4=I y.no∧x5=I j∧H'=[some (.cells [I size,v])]∧(JT size y↔cleanB size (y.no*8+j) (y.b.drop j))) ?_ 8 ⟨0,rfl,rfl,rfl,rfl,rfl,rfl,by simp[JT]⟩;rintro m x1 x3 x4 x5 H' R2 hR2 ⟨j,hj,rfl,rfl,rfl,rfl,rfl,hc⟩;unfold Gi;rcases Ai0 j 8 with hlj | hgj
     ·have hlj':(j:Int)<8:=by omega
      have hy:=DD (l:=y.b) (i:=j) (by rw [y.hb]; exact hlj);generalize y.b[j]'(by rw [y.hb]; exact hlj)=u at hy;rw [Dy hy] at hc;simp only [cleanB] at hc;simp [hlj',D4 (a:=y.no) (b:=8) (by omega) (by omega),Au (a:=y.no * 8) (b:=j) (by omega) (by omega)]
      have nxt:(u≠0→y.no*8+j<size)→(bO (Ar .add (I j) (I 1)) λv20=>R2 [.ptr 0 0,I k,I y.no,v20] [some (.cells [I size,v])]):=by
       intro hu;simp[Au (a:=j) (b:=1) (by omega) (by omega)];refine hR2 (m - 1) _ _ _ _ _ (by omega) ⟨j+1,by omega,rfl,rfl,rfl,rfl,rfl,?_⟩;rw[hc];have:y.no*8+(j:Int)+1=y.no*8+((j+1:Nat):Int):=by omega
       rw[this];exact⟨λh=>h.2,λh=>⟨hu,h⟩⟩
      by_cases hs:size≤y.no*8+j
      ·obtain⟨q,e1,e2⟩:=yN (t:=(l.drop (k+1)).flatMap AB) (H:=[some (.cells [I size,v])]) hy hlj
       have e0:(AB y++(l.drop (k+1)).flatMap AB).drop 1=AY y.b++(l.drop (k+1)).flatMap AB:=rfl;simp[hs,hv.idx AE hx rfl,e0,e1,e2,u8z]
       by_cases hu:u=0
       ·simp[hu]
        exact nxt (λh=>absurd hu h)
       ·have:¬okL size (-1) l:=by rw[hm];intro h;have:=(hc.1 h.2.2.1).1 hu;omega
        simp[hu,this]
      ·simp[hs]
       exact nxt (λh=>by omega)
     ·have:j=8:=by omega
      subst this;have e:y.b.drop 8=[]:=by rw[List.drop_eq_nil_iff,y.hb];omega
      rw[e]at hc;simp only[cleanB,iff_true]at hc;simp[Au (a:=k) (b:=1) (by omega) (by omega)];refine hR (n - 1) _ _ _ (by omega) ⟨k+1,y.no,by omega,rfl,rfl,rfl,by omega,by omega,?_,?_⟩
      ·intro z _ hz;simp[hx]at hz;rw[hz]
      ·rw[hm]
       exact⟨λh=>h.2.2.2,λh=>⟨by omega,by omega,hc,h⟩⟩
    by_cases c1:y.no<0
    ·simp[c1,fin (.inl (by omega))]
    ·by_cases c2:137438953472≤y.no
     ·simp[c1,c2,fin (.inr (by omega))]
     ·simp[c1,c2]
      rcases Am1 k with k0 | k0
      ·subst k0
       simp
       have:=hp0 rfl
       exact go (by omega) (by omega) (by omega)
      ·have hxp:=DD (l:=l) (i:=k - 1) (by omega)
       generalize l[k - 1]'(by omega)=z at hxp;have hpz:=hp1 z k0 hxp;simp [k0,B2 (a:=k) (b:=1) (by omega) (by omega),hv.idx AE hxp (i:=(k : Int) - 1) (by omega)]
       by_cases c3:y.no≤z.no
       ·simp[c3,fin (.inl (by omega))]
       ·simp[c3]
        exact go (by omega) (by omega) (by omega)
   ·have:k=l.length:=by omega
    subst this;rw[Ap5]at hm;simp only[tZ,iff_true]at hm;simp[hm,hv.len]))
def srt (l:List Ext):Prop:=l.Pairwise λa b=>a.no<b.no
theorem LI {size:Int}:∀{l:List Ext} {p:Int},okL size p l→∀x∈l,p<x.no∧x.no<137438953472∧JT size x
 | [],p,h=>by simp
 | a::r,p,h=>by
  rw[Uj]at h;intro x hx;rcases Ak6.1 hx with rfl | hx
  ·exact⟨h.1,h.2.1,h.2.2.1⟩
  ·have:=LI h.2.2.2 x hx
   exact⟨by omega,this.2⟩
theorem Jk {size:Int}:∀{l:List Ext} {p:Int},okL size p l→srt l
 | [],p,h=>List.Pairwise.nil
 | a::r,p,h=>by
  rw[Uj]at h;exact List.Pairwise.cons (λb hb=>(LI h.2.2.2 b hb).1) (Jk h.2.2.2)
theorem PC {l:List Ext}(h:srt l){i j:Nat}{x y:Ext}(hi:l[i]?=some x)(hj:l[j]?=some y)(hij:i<j):x.no<y.no:=by
 obtain⟨h1,e1⟩:=BE.1 hi;obtain⟨h2,e2⟩:=BE.1 hj
 have:=List.pairwise_iff_getElem.1 h i j h1 h2 hij
 rw[e1,e2]at this;exact this
def posL (l:List Ext)(no:Int):Nat:=(l.takeWhile λx=>decide (x.no<no)).length
def BG (l:List Ext)(no:Int):Prop:=∃x∈l,x.no=no
instance (l:List Ext) (no:Int):Decidable (BG l no):=by unfold BG;infer_instance
theorem RW {no:Int}:∀{l:List Ext} {i:Nat},i≤l.length→(∀m x,m<i→l[m]?=some x→x.no<no)→(∀x,l[i]?=some x→no≤x.no)→posL l no=i
 | [],i,hi,_,_=>by simp at hi;simp[posL,hi]
 | a::r,0,_,_,h=>by
  have:=h a (by simp)
  have:¬a.no<no:=by omega
  simp[posL,this]
 | a::r,i+1,hi,h1,h2=>by
  have:=h1 0 a (by omega) (by simp)
  have ih:=RW (l:=r) (i:=i) (no:=no) (by simpa using hi) (λm x hm hx=>h1 (m+1) x (by omega) (by simpa using hx)) (λx hx=>h2 x (by simpa using hx));unfold posL at ih⊢;simp[this,ih]
theorem aC (l:List Ext)(no:Int):posL l no≤l.length:=by
 unfold posL;exact(List.takeWhile_sublist _).length_le
theorem lD {no:Int}:∀{l:List Ext} {m:Nat} {x:Ext},m<posL l no→l[m]?=some x→x.no<no
 | a::r,m,x,hm,hx=>by
  by_cases ha:a.no<no
  ·cases m with
   | zero=>simp at hx;rw[← hx];exact ha
   | succ m=>
    refine lD (l:=r) (m:=m) ?_ (by simpa using hx);unfold posL at hm⊢;simp[ha]at hm;exact hm
  ·unfold posL at hm
   simp[ha]at hm
 | [],m,x,hm,hx=>by simp at hx
theorem uG {no:Int}:∀{l:List Ext} {x:Ext},l[posL l no]?=some x→no≤x.no
 | a::r,x,hx=>by
  by_cases ha:a.no<no
  ·refine uG (l:=r) ?_
   unfold posL at hx⊢
   simpa[ha]using hx
  ·unfold posL at hx
   simp[ha]at hx;rw[← hx];omega
 | [],x,hx=>by simp at hx
theorem TU {l:List Ext}(h:srt l){no:Int}:BG l no↔∃x,l[posL l no]?=some x∧x.no=no:=by
 constructor
 ·rintro⟨x,hx,rfl⟩
  obtain⟨m,hm⟩:=Aj2.1 hx;refine⟨x,?_,rfl⟩;have:posL l x.no=m:=RW (Nat.le_of_lt (BE.1 hm).1) (λk y hk hy=>PC h hy hm hk) (λy hy=>by rw[hm]at hy;injection hy with hy;rw[hy];omega);rw[this];exact hm
 ·rintro⟨x,hx,e⟩
  exact⟨x,Ah7 hx,e⟩
def BP (a b:Int):Int:=if a<b then -1 else if b<a then 1 else 0
theorem YQ (a:Int):BPure prog 172 [I a] (B false):=BPure.flat λH=>Yh (by
 unfold Vt
 simp)
theorem Vs (a b:Int):BPure prog 136 [I a,I b] (I (BP a b)):=BPure.flat λH=>VS (by
 unfold Sh;refine Ay (YQ a) ?_;refine Ay (YQ b) ?_;unfold BP
 by_cases h1:a<b
 ·simp[h1]
 ·by_cases h2:b<a
  ·simp[h1,h2]
  ·simp[h1,h2])
theorem oQ (x:Ext)(no:Int):BPure prog 175 [.agg (AB x),I no] (I (BP x.no no)):=BPure.val (by simp[A5,noIds,Hd]) rfl (WT (by
 unfold TP;simp;refine Ay (Vs x.no no) ?_
 rfl))
theorem jD {n:Int}{k:IntKind}(h1:0≤n)(h2:n≤9223372036854775807):vI .u64 (.lit (.int k n))=some (.lit (.int .u64 n)):=by
 have e1:IntKind.u64.wrap n=n:=by
  simp[IntKind.wrap,IntKind.bits,IntKind.signed];omega
 simp[vI,e1]
theorem aJ {n:Int}:Ar .shr (.lit (.int .u64 n)) (.lit (.int .u64 1))=some (.lit (.int .u64 (n/2))):=by
 have e2:n.fdiv 2=n/2:=Int.fdiv_eq_ediv_of_nonneg _ (by omega);simp[Ar,Tu,IntKind.bits,e2]
theorem zdhzZ:BW prog 175=true:=by kernel_rfl
theorem zderZ {l:List Ext}{v:AV}(hv:SV AB 9 l v)(hs:srt l)(hl:l.length≤281474976710656)(no:Int):
  BPure prog 174 [v,I no,.fn (.func 175) [] []] (.tup [I (posL l no),B (decide (BG l no))]):=BPure.val (by simp[A5,noIds,hv.1]) rfl (ET (by
 unfold Dj;simp[hv.len];refine Et (λn x0 x1 x2 x8 x9 x10 H'=>∃i j:Nat,i+n=j∧j≤l.length∧x0=v∧x1=I no∧x2=.fn (.func 175) [] []∧x8=I l.length∧x9=I i∧x10=I j∧H'=[]∧(∀m x,m<i→l[m]?=some x→x.no<no)∧(∀m x,j≤m→l[m]?=some x→no≤x.no)) ?_ l.length ⟨0,l.length,by simp,by omega,rfl,rfl,rfl,rfl,rfl,rfl,rfl,by simp,λm x hm hx=>by have:=(BE.1 hx).1;omega⟩;rintro n x0 x1 x2 x8 x9 x10 H' R hR ⟨i,j,hij,hj,rfl,rfl,rfl,rfl,rfl,rfl,rfl,h1,h2⟩;unfold C9;rcases Ai0 i j with hlt | hge
 ·have hx:=DD (l:=l) (i:=(i+j)/2) (by omega)
  generalize l[(i + j) / 2]'(by omega)=y at hx;simp [hlt,Au (a:=i) (b:=j) (by omega) (by omega),jD (n:=(i : Int) + j) (by omega) (by omega),aJ,ZR (a:=((i : Int) + j) / 2) (by omega) (by omega),hv.idx AE hx (i:=((i : Int) + j) / 2) (by omega),zdhzZ];refine bC_of (oQ y no []) ?_;unfold BP
  by_cases c1:y.no<no
  ·simp[c1,Au (a:=((i:Int)+j)/2) (b:=1) (by omega) (by omega)]
   refine hR (j - ((i+j)/2+1)) _ _ _ _ _ _ _ (by omega) ⟨(i+j)/2+1,j,by omega,hj,rfl,rfl,rfl,rfl,by simp,rfl,rfl,?_,h2⟩;intro m x hm hmx
   by_cases hm2:m=(i+j)/2
   ·rw[hm2,hx]at hmx;injection hmx with e;rw[← e];exact c1
   ·have:=PC hs hmx hx (by omega);omega
  ·have e:¬(if no<y.no then(1:Int)else 0)<0:=by split<;>omega
   simp[c1,e];refine hR ((i+j)/2 - i) _ _ _ _ _ _ _ (by omega) ⟨i,(i+j)/2,by omega,by omega,rfl,rfl,rfl,rfl,rfl,by simp,rfl,h1,?_⟩;intro m x hm hmx
   by_cases hm2:m=(i+j)/2
   ·rw[hm2,hx]at hmx;injection hmx with e;rw[← e];omega
   ·have:=PC hs hx hmx (by omega);omega
 ·have hi:i=j:=by omega
  subst hi;have hp:posL l no=i:=RW (by omega) h1 (λx hx=>h2 i x (by omega) hx);rcases Ai0 i l.length with hil | hil
  ·have hx:=DD (l:=l) (i:=i) hil
   generalize l[i]=y at hx
   have hh:BG l no↔BP y.no no=0:=by
    rw[TU hs,hp]
    have:=h2 i y (by omega) hx
    constructor
    ·rintro⟨z,hz,e⟩
     rw[hx]at hz;injection hz with hz;rw[hz,e];unfold BP;simp
    ·intro e
     refine⟨y,hx,?_⟩;unfold BP at e;split at e
     ·omega
     ·split at e<;>omega
   simp[hil,hv.idx AE hx rfl,zdhzZ];refine bC_of (oQ y no []) ?_;simp[hp,hh]
  ·have hn:¬BG l no:=by
    rw[TU hs,hp];rintro⟨z,hz,e⟩
    have:=(BE.1 hz).1
    omega
   simp[show ¬i<l.length by omega,hp,hn]))
theorem TQ {l:List Ext}{v:AV}(hv:SV AB 9 l v)(hs:srt l)(hl:l.length≤281474976710656)(no:Int):
  BPure prog 142 [v,I no] (.tup [I (posL l no),B (decide (BG l no))]):=BPure.val (by simp[A5,noIds,hv.1]) rfl (ZA (by
 unfold WS;refine Ay (zderZ hv hs hl no) ?_
 simp))
theorem zdgwZ (a c b0 b1 b2 b3 b4 b5 b6 b7 d0 d1 d2 d3 d4 d5 d6 d7:Int):PI prog .neq 134 (.agg [I a,.lit (.int .u8 b0),.lit (.int .u8 b1),.lit (.int .u8 b2),.lit (.int .u8 b3),.lit (.int .u8 b4),.lit (.int .u8 b5),.lit (.int .u8 b6),.lit (.int .u8 b7)]) (.agg [I c,.lit (.int .u8 d0),.lit (.int .u8 d1),.lit (.int .u8 d2),.lit (.int .u8 d3),.lit (.int .u8 d4),.lit (.int .u8 d5),.lit (.int .u8 d6),.lit (.int .u8 d7)])=some (B !(a==c&&((b0==d0&&(b1==d1&&(b2==d2&&(b3==d3&&(b4==d4&&(b5==d5&&(b6==d6&&(b7==d7&&true))))))))&&true))):=by kernel_rfl
theorem u8i {a b:UInt8}:((a.toNat:Int)==(b.toNat:Int))=decide (a=b):=by
 by_cases h:a=b
 ·subst h;simp
 ·have:¬(a.toNat:Int)=b.toNat:=λe=>h (UInt8.toNat_inj.1 (by omega))
  simp[h,this]
theorem zdnyZ (x y:Ext):PI prog .neq 134 (.agg (AB x)) (.agg (AB y))=some (B (decide (x≠y))):=by
 obtain⟨a,b,hb⟩:=x;obtain⟨c,d,hd⟩:=y
 match b,d,hb,hd with
 | [b0,b1,b2,b3,b4,b5,b6,b7],[d0,d1,d2,d3,d4,d5,d6,d7],hb,hd=>
  refine(zdgwZ a c b0.toNat b1.toNat b2.toNat b3.toNat b4.toNat b5.toNat b6.toNat b7.toNat d0.toNat d1.toNat d2.toNat d3.toNat d4.toNat d5.toNat d6.toNat d7.toNat).trans ?_;have e:(a==c)=decide (a=c):=by by_cases h:a=c<;>simp[h]
  simp only[u8i,e];simp
def VJ (a:Int)(l:List Ext)(b:Int)(m:List Ext):Prop:=a=b∧l=m
instance (a:Int) (l:List Ext) (b:Int) (m:List Ext):Decidable (VJ a l b m):=by unfold VJ;infer_instance
abbrev Al2:=@List.take_length
theorem XA {a b:Int}{l m:List Ext}{v w:AV}(hv:SV AB 9 l v)(hw:SV AB 9 m w)(hl:l.length≤281474976710656):
  BPure prog 63 [.agg [I a,v],.agg [I b,w]] (B (decide (VJ a l b m))):=BPure.val (by simp[A5,noIds,hv.1,hw.1]) rfl (O3 (by
 unfold J8;simp[Cn hv,Cn hw]
 by_cases h:a=b
 ·by_cases h0:l.length=m.length
  ·simp[h,hv.len,hw.len,h0]
   refine KL (λn x2 x3 x5 H'=>∃k:Nat,k+n=l.length∧x2=.ptr 0 0∧x3=.ptr 1 0∧x5=I k∧H'=[some (.cells [I b,v]),some (.cells [I b,w])]∧l.take k=m.take k) ?_ l.length ⟨0,by simp,rfl,rfl,rfl,rfl,rfl⟩;rintro n x2 x3 x5 H' R hR ⟨k,hk,rfl,rfl,rfl,rfl,ht⟩;unfold Gl;rcases Ai0 k l.length with hlt | hge
   ·have hx:=DD hlt
    have hy:=DD (l:=m) (i:=k) (by omega);generalize l[k]=x at hx;generalize m[k]'(by omega)=y at hy;simp [hlt,hv.len,hv.idx AE hx rfl,hw.idx AE hy rfl,zdnyZ]
    by_cases hxy:x=y
    ·simp[hxy,Au (a:=k) (b:=1) (by omega) (by omega)]
     refine hR (n - 1) _ _ _ _ (by omega) ⟨k+1,by omega,rfl,rfl,rfl,rfl,?_⟩;rw[Al0,Al0,hx,hy,ht,hxy]
    ·have:l≠m:=by
      rintro rfl;rw[hx]at hy;injection hy with hy;exact hxy hy
     simp[hxy,this,VJ]
   ·have:k=l.length:=by omega
    subst this
    have e:l=m:=by
     rw[Al2,h0,Al2]at ht;exact ht
    simp[hv.len,e,VJ]
  ·have:l≠m:=λh=>h0 (by rw[h])
   have h0':¬(l.length:Int)=m.length:=by omega
   simp[h,hv.len,hw.len,h0',this,VJ]
 ·simp[h,VJ]))
theorem uF {l:List Ext}(h:srt l){k:Nat}{x:Ext}(hx:l[k]?=some x):posL l x.no=k:=
 RW (Nat.le_of_lt (BE.1 hx).1) (λj y hj hy=>PC h hy hx hj) (λy hy=>by rw[hx]at hy;injection hy with hy;rw[hy];omega)
theorem Wq {size:Int}{l:List Ext}{v:AV}(hv:SV AB 9 l v)(hs:srt l)(hl:l.length≤281474976710656)(no:Int):
  BPure prog 121 [.agg [I size,v],I no] (I (if BG l no then(posL l no:Int)else -1)):=BPure.val (by simp[A5,noIds,hv.1]) rfl (Vd (by
 unfold QX;simp[Cn hv];refine Qf (λn x1 x2 x5 H'=>∃k:Nat,k+n=l.length∧x1=I no∧x2=.ptr 0 0∧x5=I k∧H'=[some (.cells [I size,v])]∧∀m x,m<k→l[m]?=some x→x.no≠no) ?_ l.length ⟨0,by simp,rfl,rfl,rfl,rfl,by simp⟩;rintro n x1 x2 x5 H' R hR ⟨k,hk,rfl,rfl,rfl,rfl,hm⟩;unfold Ln;rcases Ai0 k l.length with hlt | hge
 ·have hx:=DD hlt
  generalize l[k]=x at hx;simp[hlt,hv.len,hv.idx AE hx rfl]
  by_cases he:x.no=no
  ·have h1:BG l no:=⟨x,Ah7 hx,he⟩
   have h2:=uF hs hx;rw[he]at h2;simp[he,h1,h2]
  ·simp[he,Au (a:=k) (b:=1) (by omega) (by omega)]
   refine hR (n - 1) _ _ _ _ (by omega) ⟨k+1,by omega,rfl,rfl,rfl,rfl,?_⟩;intro m y hmk hy
   by_cases hmk2:m=k
   ·rw[hmk2,hx]at hy;injection hy with hy;rw[← hy];exact he
   ·exact hm m y (by omega) hy
 ·have:¬BG l no:=by
   rintro⟨x,hx,he⟩;obtain⟨m,hmx⟩:=Aj2.1 hx;exact hm m x (by have:=(BE.1 hmx).1;omega) hmx he
  have hk':k=l.length:=by omega
  simp[hk',hv.len,this]))
structure KO {κ:Type}(c:κ→κ→Int):Prop where
 eq:∀a b,c a b=0↔a=b
 anti:∀a b,c a b<0↔0<c b a
 trans:∀a b d,c a b<0→c b d<0→c a d<0
section
variable {κ α : Type} {c : κ→κ→Int} {key : α→κ}
theorem KO.irr (h:KO c)(a:κ):¬c a a<0:=by have:=(h.eq a a).2 rfl;omega
theorem KO.tri (h:KO c){a b:κ}(h1:¬c a b<0)(h2:¬c b a<0):a=b:=by
 refine(h.eq a b).1 ?_;rw[h.anti]at h2;omega
def Cx (c:κ→κ→Int)(key:α→κ)(l:List α):Prop:=l.Pairwise λa b=>c (key a) (key b)<0
def Dr (c:κ→κ→Int)(key:α→κ)(l:List α)(k:κ):Nat:=(l.takeWhile λx=>decide (c (key x) k<0)).length
def Be (key:α→κ)(l:List α)(k:κ):Prop:=∃x∈l,key x=k
instance [DecidableEq κ] (key:α→κ) (l:List α) (k:κ):Decidable (Be key l k):=by unfold Be;infer_instance
instance (c:κ→κ→Int) (key:α→κ) (l:List α):Decidable (Cx c key l):=by unfold Cx;infer_instance
theorem M0 {l:List α}(h:Cx c key l){i j:Nat}{x y:α}(hi:l[i]?=some x)(hj:l[j]?=some y)(hij:i<j):c (key x) (key y)<0:=by
 obtain⟨h1,e1⟩:=BE.1 hi;obtain⟨h2,e2⟩:=BE.1 hj
 have:=List.pairwise_iff_getElem.1 h i j h1 h2 hij
 rw[e1,e2]at this;exact this
theorem P0 {k:κ}:∀{l:List α} {i:Nat},i≤l.length→(∀m x,m<i→l[m]?=some x→c (key x) k<0)→(∀x,l[i]?=some x→¬c (key x) k<0)→Dr c key l k=i
 | [],i,hi,_,_=>by simp at hi;simp[Dr,hi]
 | a::r,0,_,_,h=>by
  have:=h a (by simp)
  simp[Dr,this]
 | a::r,i+1,hi,h1,h2=>by
  have:=h1 0 a (by omega) (by simp)
  have ih:=P0 (l:=r) (i:=i) (k:=k) (by simpa using hi) (λm x hm hx=>h1 (m+1) x (by omega) (by simpa using hx)) (λx hx=>h2 x (by simpa using hx));unfold Dr at ih⊢;simp[this,ih]
theorem aB (l:List α)(k:κ):Dr c key l k≤l.length:=by
 unfold Dr;exact(List.takeWhile_sublist _).length_le
theorem uE {k:κ}:∀{l:List α} {m:Nat} {x:α},m<Dr c key l k→l[m]?=some x→c (key x) k<0
 | a::r,m,x,hm,hx=>by
  by_cases ha:c (key a) k<0
  ·cases m with
   | zero=>simp at hx;rw[← hx];exact ha
   | succ m=>
    refine uE (l:=r) (m:=m) ?_ (by simpa using hx);unfold Dr at hm⊢;simp[ha]at hm;exact hm
  ·unfold Dr at hm
   simp[ha]at hm
 | [],m,x,hm,hx=>by simp at hx
theorem lB {k:κ}:∀{l:List α} {x:α},l[Dr c key l k]?=some x→¬c (key x) k<0
 | a::r,x,hx=>by
  by_cases ha:c (key a) k<0
  ·refine lB (l:=r) ?_
   unfold Dr at hx⊢
   simpa[ha]using hx
  ·unfold Dr at hx
   simp[ha]at hx;rw[← hx];exact ha
 | [],x,hx=>by simp at hx
theorem X5 (hc:KO c){l:List α}(h:Cx c key l){m:Nat}{x:α}(hm:l[m]?=some x):Dr c key l (key x)=m:=
 P0 (Nat.le_of_lt (BE.1 hm).1) (λk y hk hy=>M0 h hy hm hk) (λy hy=>by rw[hm]at hy;injection hy with hy;rw[hy];exact hc.irr _)
theorem NJ (hc:KO c){l:List α}(h:Cx c key l){k:κ}:Be key l k↔∃x,l[Dr c key l k]?=some x∧key x=k:=by
 constructor
 ·rintro⟨x,hx,rfl⟩
  obtain⟨m,hm⟩:=Aj2.1 hx;exact⟨x,by rw[X5 hc h hm];exact hm,rfl⟩
 ·rintro⟨x,hx,e⟩
  exact⟨x,Ah7 hx,e⟩
theorem WW (hc:KO c){l:List α}(h:Cx c key l){k:κ}(hk:Be key l k):Dr c key l k<l.length:=by
 obtain⟨x,hx,-⟩:=(NJ hc h).1 hk;exact(BE.1 hx).1
theorem YG (hc:KO c){l:List α}(h:Cx c key l){x y:α}(hx:x∈l)(hy:y∈l)(e:key x=key y):x=y:=by
 obtain⟨m,hm⟩:=Aj2.1 hx;obtain⟨m',hm'⟩:=Aj2.1 hy;have h1:=X5 hc h hm;have h2:=X5 hc h hm';rw[e,h2]at h1;subst h1;rw[hm]at hm';injection hm'
def Gc (c:κ→κ→Int)(key:α→κ)(l:List α)(x:α):List α:=l.take (Dr c key l (key x))++x::l.drop (Dr c key l (key x))
def D3 (c:κ→κ→Int)(key:α→κ)(l:List α)(k:κ):List α:=l.take (Dr c key l k)++l.drop (Dr c key l k+1)
theorem Kd {l:List α}{x y:α}:y∈Gc c key l x↔y=x∨y∈l:=by
 unfold Gc;rw[Al3,Ak6]
 constructor
 ·rintro(h | h | h)
  ·exact .inr (Am0 h)
  ·exact .inl h
  ·exact .inr (An8 h)
 ·rintro(h | h)
  ·exact .inr (.inl h)
  ·rw[← Am4 (Dr c key l (key x)) l,Al3]at h
   exact h.imp id .inr
abbrev Ap0:=@List.pairwise_append
abbrev An7:=@List.pairwise_cons
theorem dZ (hc:KO c){l:List α}(h:Cx c key l){x:α}(hn:¬Be key l (key x)):Cx c key (Gc c key l x):=by
 unfold Gc Cx
 have hl:∀y∈l.take (Dr c key l (key x)),c (key y) (key x)<0:=by
  intro y hy;obtain⟨m,hm⟩:=Aj2.1 hy;rw[Ai4]at hm;split at hm
  ·rename_i h1;exact uE h1 hm
  ·cases hm
 have hr:∀y∈l.drop (Dr c key l (key x)),c (key x) (key y)<0:=by
  intro y hy;obtain⟨m,hm⟩:=Aj2.1 hy;rw[Ai6]at hm
  have hg:¬c (key y) (key x)<0:=by
   rcases Am1 m with rfl | hm0
   ·exact lB hm
   ·intro h2
    have hlt:Dr c key l (key x)<l.length:=by have:=(BE.1 hm).1;omega
    have h3:=DD hlt;exact lB h3 (hc.trans _ _ _ (M0 h h3 hm (by omega)) h2)
  by_cases h1:c (key x) (key y)<0
  ·exact h1
  ·exact absurd ⟨y,Ah7 hm,(hc.tri h1 hg).symm⟩ hn
 refine Ap0.2 ⟨h.sublist (List.take_sublist _ _),An7.2 ⟨hr,h.sublist (List.drop_sublist _ _)⟩,?_⟩;intro a ha b hb;rcases Ak6.1 hb with rfl | hb
 ·exact hl a ha
 ·exact hc.trans _ _ _ (hl a ha) (hr b hb)
theorem delK_sub {l:List α}{k:κ}:(D3 c key l k).Sublist l:=by
 unfold D3
 conv=>rhs;rw[← Am4 (Dr c key l k) l]
 refine List.Sublist.append (List.Sublist.refl _) ?_;rw[← An3];exact List.drop_sublist _ _
theorem EY {l:List α}(h:Cx c key l){k:κ}:Cx c key (D3 c key l k):=h.sublist delK_sub
theorem I4 (hc:KO c){l:List α}(h:Cx c key l){k:κ}(hk:Be key l k){y:α}:y∈D3 c key l k↔y∈l∧key y≠k:=by
 obtain⟨x,hx,rfl⟩:=(NJ hc h).1 hk;have hlt:=(BE.1 hx).1
 have e:l=l.take (Dr c key l (key x))++x::l.drop (Dr c key l (key x)+1):=by
  conv=>lhs;rw[← Am4 (Dr c key l (key x)) l]
  rw[Am8 hlt,(BE.1 hx).2]
 have hs:=h;unfold Cx at hs;generalize Dr c key l (key x)=p at*;unfold D3;rw[X5 hc h hx];rw[e]at hs;rw[Ap0,An7]at hs
 constructor
 ·intro hy
  rw[Al3]at hy;rcases hy with hy | hy
  ·exact⟨Am0 hy,λe2=>hc.irr (key x) (e2▸hs.2.2 y hy x (by simp))⟩
  ·exact⟨An8 hy,λe2=>hc.irr (key x) (e2▸hs.2.1.1 y hy)⟩
 ·rintro⟨hy,hne⟩
  rw[e,Al3,Ak6]at hy;rw[Al3];rcases hy with hy | rfl | hy
  ·exact .inl hy
  ·exact absurd rfl hne
  ·exact .inr hy
theorem Ua {l:List α}{x:α}:(Gc c key l x).length=l.length+1:=by
 have:=aB (c:=c) (key:=key) l (key x)
 unfold Gc;rw[Ai3,Al9,Ah8,Ai5];omega
theorem Ty {l:List α}{k:κ}(h:Dr c key l k<l.length):(D3 c key l k).length+1=l.length:=by
 unfold D3;rw[Ai3,Ah8,Ai5];omega
end
abbrev Bk:List UInt8→List UInt8→Int:=Lib.compareBytes
abbrev As1:=@UInt8.lt_irrefl
abbrev At0:=@UInt8.le_antisymm
theorem tG:∀a b:List UInt8,Bk a b=0↔a=b
 | [],[]=>by simp[Bk,Lib.compareBytes]
 | [],_::_=>by simp[Bk,Lib.compareBytes]
 | _::_,[]=>by simp[Bk,Lib.compareBytes]
 | x::a,y::b=>by
  have ih:=tG a b;simp only[Bk]at ih⊢;unfold Lib.compareBytes
  by_cases h1:x<y
  ·have:x≠y:=λe=>by subst e;exact As1 _ h1
   simp[h1,this]
  ·by_cases h2:y<x
   ·have:x≠y:=λe=>by subst e;exact As1 _ h2
    simp[h1,h2,this]
   ·have:x=y:=At0 (UInt8.not_lt.1 h2) (UInt8.not_lt.1 h1)
    simp[this,ih]
theorem jU:∀a b:List UInt8,Bk a b<0↔a<b
 | [],[]=>by simp[Bk,Lib.compareBytes]
 | [],_::_=>by simp[Bk,Lib.compareBytes]
 | _::_,[]=>by simp[Bk,Lib.compareBytes]
 | x::a,y::b=>by
  have ih:=jU a b;simp only[Bk]at ih⊢;unfold Lib.compareBytes;rw[List.cons_lt_cons_iff]
  by_cases h1:x<y
  ·simp[h1]
  ·by_cases h2:y<x
   ·have:x≠y:=λe=>by subst e;exact As1 _ h2
    simp[h1,h2,this]
   ·have:x=y:=At0 (UInt8.not_lt.1 h2) (UInt8.not_lt.1 h1)
    simp[this,ih]
theorem tH:∀a b:List UInt8,0<Bk a b↔b<a
 | [],[]=>by simp[Bk,Lib.compareBytes]
 | [],_::_=>by simp[Bk,Lib.compareBytes]
 | _::_,[]=>by simp[Bk,Lib.compareBytes]
 | x::a,y::b=>by
  have ih:=tH a b;simp only[Bk]at ih⊢;unfold Lib.compareBytes;rw[List.cons_lt_cons_iff]
  by_cases h1:x<y
  ·have:¬y<x:=λh=>UInt8.lt_asymm h1 h
   have h3:y≠x:=λe=>by subst e;exact As1 _ h1
   simp[h1,this,h3]
  ·by_cases h2:y<x
   ·simp[h1,h2]
   ·have:x=y:=At0 (UInt8.not_lt.1 h2) (UInt8.not_lt.1 h1)
    simp[this,ih]
theorem koN:KO Bk where
 eq:=tG
 anti a b:=by rw[jU,tH]
 trans a b d h1 h2:=by rw[jU]at*;exact List.lt_trans h1 h2
theorem PM:∀a b:List UInt8,Op.bytesLess a b=decide (Bk a b<0)
 | [],[]=>by simp[Op.bytesLess,Bk,Lib.compareBytes]
 | _::_,[]=>by simp[Op.bytesLess,Bk,Lib.compareBytes]
 | [],_::_=>by simp[Op.bytesLess,Bk,Lib.compareBytes]
 | x::a,y::b=>by
  have ih:=PM a b;simp only[Bk]at ih⊢;unfold Op.bytesLess Lib.compareBytes;rw[ih]
  by_cases h1:x<y
  ·simp[h1]
  ·by_cases h2:y<x
   ·have:x≠y:=λe=>by subst e;exact As1 _ h2
    simp[h1,h2,this]
   ·have:x=y:=At0 (UInt8.not_lt.1 h2) (UInt8.not_lt.1 h1)
    simp[this]
theorem U4 {a b:List UInt8}:XZ .geq (S (B9 a)) (S (B9 b))=some (B (decide (¬Bk a b<0))):=by
 simp only[XZ,YP,Ag1,PM]
 by_cases h:Bk a b<0<;>simp[h]
theorem sT {a b:List UInt8}:XZ .lss (S (B9 a)) (S (B9 b))=some (B (decide (Bk a b<0))):=by
 simp only[XZ,YP,Ag1,PM]
theorem Yb {l:List UInt8}{k:Nat}{i:Int}{y:UInt8}(hi:i=k)(h:l[k]?=some y):qD (S (B9 l)) (I i)=some (.lit (.int .u8 y.toNat)):=by
 subst hi
 have:(B9 l)[k]?=some y:=by
  obtain⟨h1,h2⟩:=BE.1 h;have hs:k<(B9 l).size:=by rw[Nz];exact h1
  rw[getElem?_pos (B9 l) k hs]
  congr 1
 simp[qD,Ni,this]
theorem gF {l:List UInt8}(h:l.length≤9223372036854775807):Z5 (S (B9 l))=some (I l.length):=by
 simp[Z5,Nz]
end
section
structure Sl (α:Type) where
 l:List α
 nil:Bool
structure Rd (P:Program)(t:TypeId)(α:Type) where
 size:Nat
 enc:α→List AV
 ok:α→Prop
 cells:P.cellsOf t=size
 read:∀{H:Type} {e:TypeId×Value→H} {W:World} {fuel:Nat} {cs:List Value} {d:DataW H×List MemPlace},DataW.trod e P W 0 (λ_=>true) true fuel t cs=some d→
  ∃x,ok x∧cs.length=size∧VRs (Cfg.start W) (enc x) cs∧∀u∈cs,u.oneCell'=true
section
variable {P : Program}
def Rd.int {t:TypeId}(k:IntKind)(hu:P.underlying t=some (.int k))(hc:P.cellsOf t=1):Rd P t Int where
 size:=1
 enc n:=[.lit (.int k n)]
 ok n:=k.min≤n∧n≤k.max
 cells:=hc
 read {H e W fuel cs d} h:=by
  obtain⟨n,rfl,-,hw⟩:=DataW.trod_int hu h;refine⟨n,by simpa[Lit.wf]using hw,rfl,.cons (by simp only[VR]) .nil,by simp[Value.oneCell']⟩
def Rd.bool {t:TypeId}(hu:P.underlying t=some .bool)(hc:P.cellsOf t=1):Rd P t Bool where
 size:=1
 enc b:=[.lit (.bool b)]
 ok _:=True
 cells:=hc
 read {H e W fuel cs d} h:=by
  obtain⟨b,rfl,-⟩:=DataW.trod_bool hu h;exact⟨b,trivial,rfl,.cons (by simp only[VR]) .nil,by simp[Value.oneCell']⟩
abbrev Ab3:=And.intro @List.mem_append.{0} @List.mem_singleton.{0}
abbrev Al7:=@List.flatMap_append
theorem oX {t:TypeId}{α:Type}(E:Rd P t α){W:World}{a:Addr}{H:Type}{e:TypeId×Value→H}{fuel:Nat}:∀(n:Nat) (ds:List (DataW H×List MemPlace)),ds.length=n→
  (∀i,i<n→(W.cells? 0 (a.add (i*P.cellsOf t)) (P.cellsOf t)).bind (DataW.trod e P W 0 (λ_=>true) true fuel t)=ds[i]?)→
  ∃(xs:List α) (vs:List Value),xs.length=n∧(∀x∈xs,E.ok x)∧vs.length=n*E.size∧VRs (Cfg.start W) (xs.flatMap E.enc) vs∧∀(i:Nat) (v:Value),vs[i]?=some v→W.cell? (a.add i)=some v∧v.oneCell'=true
 | 0,ds,hl,h=>⟨[],[],rfl,by simp,by simp,.nil,by simp⟩
 | n+1,ds,hl,h=>by
  obtain⟨xs,vs,h1,h2,h3,h4,h5⟩:=oX E n (ds.take n) (by rw[Ah8];omega) (λi hi=>by
   rw[h i (by omega),Ai4,if_pos hi])
  have hn:=h n (by omega);rw[DD (by omega)]at hn;obtain⟨cs,hcs,htr⟩:=Option.bind_eq_some_iff.1 hn;obtain⟨x,hx,hxl,hxv,hx1⟩:=E.read htr;obtain⟨-,hcl,hcell⟩:=World.cells?_some hcs;refine⟨xs++[x],vs++cs,by simp[h1],?_,?_,?_,?_⟩
  ·intro y hy
   simp only[Ab3]at hy;rcases hy with hy | rfl
   ·exact h2 y hy
   ·exact hx
  ·rw[Ai3,h3,hxl,Al5]
  ·rw[Al7]
   simpa using h4.append hxv
  ·intro i v hv
   rcases Ai0 i vs.length with hlt | hge
   ·rw[Ah6 hlt]at hv
    exact h5 i v hv
   ·rw[Ai1 hge,h3]at hv
    have hlt:=(BE.1 hv).1
    have:=hcell (i - n*E.size) (by rw[← hcl];exact hlt)
    rw[hv,E.cells,Addr.add_add]at this;rw[show n*E.size+(i - n*E.size)=i by omega]at this;exact⟨this,hx1 v (Ah7 hv)⟩
def Rd.slice {t e:TypeId}{α:Type}(E:Rd P e α)(hu:P.underlying t=some (.slice e))(hc:P.cellsOf t=1):Rd P t (Sl α) where
 size:=1
 enc s:=[if s.nil then .lit (.slice none 0 0)else .imm (s.l.flatMap E.enc) s.l.length E.size]
 ok s:=(s.nil=true→s.l=[])∧s.l.length≤maxLen∧∀x∈s.l,E.ok x
 cells:=hc
 read {H e' W fuel cs d} h:=by
  rcases DataW.trod_slice hu h with⟨rfl,-⟩ | ⟨a,len,cap,elems,rest,n,-,rfl,-,-,h1,h2,h3,h4,-,-⟩
  ·exact⟨⟨[],true⟩,⟨λ_=>rfl,by simp,by simp⟩,rfl,.cons (by simp only[if_true,VR]) .nil,by simp[Value.oneCell']⟩
  ·obtain⟨xs,vs,g1,g2,g3,g4,g5⟩:=oX E len elems h3 h4
   refine⟨⟨xs,false⟩,⟨by simp,by simp only;omega,g2⟩,rfl,.cons ?_ .nil,by simp[Value.oneCell']⟩;simp only[An,VR];refine⟨a,cap,vs,by rw[g1],by omega,.inr ⟨λhh=>hh.elim id id,g5⟩,g4⟩
structure Rds (P:Program)(fs:List Field)(off total:Nat)(α:Type) where
 enc:α→List AV
 ok:α→Prop
 le:off≤total
 read:∀{H:Type} {e:TypeId×Value→H} {W:World} {fuel:Nat} {cs:List Value} {ds:List (DataW H×List MemPlace)},cs.length=total→ds.length=fs.length→
  (∀(i:Nat) (f:Field),fs[i]?=some f→DataW.trod e P W 0 (λ_=>true) true fuel f.type ((cs.drop f.offset).take (P.cellsOf f.type))=ds[i]?)→
  ∃x,ok x∧VRs (Cfg.start W) (enc x) (cs.drop off)∧∀u∈cs.drop off,u.oneCell'=true
abbrev Aj5:=@List.drop_of_length_le
def Rds.nil (P:Program)(total:Nat):Rds P [] total total Unit where
 enc _:=[]
 ok _:=True
 le:=Ah9 _
 read {H e W fuel cs ds} hl _ _:=⟨(),trivial,by rw[Aj5 (by omega)];exact .nil,by rw[Aj5 (by omega)];simp⟩
def Rds.cons {f:Field}{fs:List Field}{t:TypeId}{off total:Nat}{α β:Type}(E:Rd P t α)(R:Rds P fs (off+E.size) total β)(ht:f.type=t)(ho:f.offset=off):Rds P (f::fs) off total (α×β) where
 enc x:=E.enc x.1++R.enc x.2
 ok x:=E.ok x.1∧R.ok x.2
 le:=Aj0 (Nat.le_add_right _ _) R.le
 read {H e W fuel cs ds} hl hd h:=by
  subst ht;cases ds with
  | nil=>simp at hd
  | cons d ds=>
   have h0:=h 0 f rfl;simp only[C1]at h0;obtain⟨x,hx,hxl,hxv,hx1⟩:=E.read h0;obtain⟨y,hy,hyv,hy1⟩:=R.read hl (by simpa using hd) (λi g hg=>by simpa using h (i+1) g (by simpa using hg))
   have e1:cs.drop off=(cs.drop f.offset).take (P.cellsOf f.type)++cs.drop (off+E.size):=by
    rw[ho,E.cells];rw[← An3,Am4]
   rw[e1];refine⟨(x,y),⟨hx,hy⟩,hxv.append hyv,?_⟩;intro u hu;rcases Al3.1 hu with hu | hu
   ·exact hx1 u hu
   ·exact hy1 u hu
def Rd.struct {t:TypeId}{fs:Array Field}{total:Nat}{α:Type}(R:Rds P fs.toList 0 total α)(hu:P.underlying t=some (.struct fs))(hc:P.cellsOf t=total):Rd P t α where
 size:=total
 enc:=R.enc
 ok:=R.ok
 cells:=hc
 read {H e W fuel cs d} h:=by
  obtain⟨xs,n,-,-,hl,hxl,hx⟩:=DataW.trod_struct hu h;rw[hc]at hl;obtain⟨x,h1,h2,h3⟩:=R.read (ds:=xs) hl (by simpa using hxl) (λi f hf=>hx i f (by simpa using hf));exact⟨x,h1,hl,by simpa using h2,by simpa using h3⟩
theorem Rd.arg1 {t:TypeId}{α:Type}(E:Rd P t α){H:Type}{e:TypeId×Value→H}{W:World}{v:Value}{d:DataW H}{ps:List MemPlace}(hv:v.cells= #[v])
  (h:DataW.Trod e P W 0 (λ_=>true) true t v d ps):∃x,E.ok x∧VRs (Cfg.start W) (E.enc x) [v]:=by
 obtain⟨fuel,h⟩:=h;obtain⟨x,h1,-,h2,-⟩:=E.read h;rw[hv]at h2;exact⟨x,h1,h2⟩
end
end
section
def Rd.byte {P:Program}{t:TypeId}(hu:P.underlying t=some (.int .u8))(hc:P.cellsOf t=1):Rd P t UInt8 where
 size:=1
 enc b:=[.lit (.int .u8 b.toNat)]
 ok _:=True
 cells:=hc
 read {H e W fuel cs d} h:=by
  obtain⟨n,rfl,-,hw⟩:=DataW.trod_int hu h;have hb:0≤n∧n≤255:=by simpa[Lit.wf,IntKind.min,IntKind.max,IntKind.signed,IntKind.bits]using hw
  refine⟨UInt8.ofNat n.toNat,trivial,rfl,.cons ?_ .nil,by simp[Value.oneCell']⟩;simp only[VR]
  congr 1
  have:n.toNat<256:=by omega
  rw[UInt8.toNat_ofNat_of_lt' this];omega
section
variable {P : Program} {f : FuncId} {args : List AV}
theorem BPure.of_true (h:ACalls P f [] [] λr _=>r=B true):BPure P f [] (B true):=λH=>
 ACalls.pure (R':=λr=>r=B true) h (by simp only[DN]) (λr X hr=>⟨1,r,by rw[hr];rfl,hr⟩) H
end
end
section
def FZ (X:AH)(v R:AV):Prop:=∃n0,∀n,n0≤n→OP X n v=some R
def FZs (X:AH)(vs Rs:List AV):Prop:=∃n0,∀n,n0≤n→PR (OP X n) vs=some Rs
theorem FZs.nil {X:AH}:FZs X [] []:=⟨0,λ_ _=>rfl⟩
theorem FZs.cons {X:AH}{v R:AV}{vs Rs:List AV}(h:FZ X v R)(hs:FZs X vs Rs):FZs X (v::vs) (R::Rs):=by
 obtain⟨a,ha⟩:=h;obtain⟨b,hb⟩:=hs;exact⟨a+b,λn hn=>by simp only[PR,ha n (by omega),hb n (by omega)]⟩
theorem FZ.agg {X:AH}{vs Rs:List AV}(hs:FZs X vs Rs):FZ X (.agg vs) (.agg Rs):=by
 obtain⟨b,hb⟩:=hs;refine⟨b+1,λn hn=>?_⟩;cases n with
 | zero=>omega
 | succ n=>simp only[OP,hb n (by omega)];rfl
theorem FZ.tup {X:AH}{vs Rs:List AV}(hs:FZs X vs Rs):FZ X (.tup vs) (.tup Rs):=by
 obtain⟨b,hb⟩:=hs;refine⟨b+1,λn hn=>?_⟩;cases n with
 | zero=>omega
 | succ n=>simp only[OP,hb n (by omega)];rfl
theorem FZ.lit {X:AH}(v:Value):FZ X (.lit v) (.lit v):=⟨1,λn hn=>by cases n with
 | zero=>omega
 | succ n=>rfl⟩
theorem FZ.same {X:AH}{v:AV}(h:noIds v=true):FZ X v v:=U8 X v h
theorem FZ.sv {α:Type}{enc:α→List AV}{X:AH}{sz:Nat}{l:List α}{v:AV}(h:Ac X sz v=some (l.flatMap enc,l.length))(hc:A5 (l.flatMap enc)=true):∃R,SV enc sz l R∧FZ X v R:=by
 obtain⟨R,n0,h1,h2,h3⟩:=Yq h hc;exact⟨R,⟨h1,h2⟩,n0,h3⟩
section
variable {P : Program} {f : FuncId} {args : List AV}
theorem BPure.FZ {Q:AV→Prop}(hb:A5 args=true)(h:∃r X,(∃R,Av.FZ X r R∧Q R)∧BCall P f args [] r X):∃R,Q R∧BPure P f args R:=by
 obtain⟨r,X,⟨R,⟨n,hn⟩,hq⟩,h⟩:=h;exact BPure.fz hb ⟨r,X,⟨n,R,hn n (Ah9 _),hq⟩,h⟩
theorem PCall.lend {H:AH}{args':List AV}{x:AV}(hs:FZs H args args')(hx:NG x=true)(h:BPure P f args' x):PCall P f args H x:=by
 obtain⟨n,hn⟩:=hs;exact .inr ⟨n,args',hn n (Ah9 _),hx,h⟩
end
theorem dK:∀{a b:List AV},A5 a=true→A5 b=true→A5 (a++b)=true
 | [],b,_,h=>h
 | x::a,b,h1,h2=>by
  simp only[A5,Ak0,An9]at h1⊢;exact⟨h1.1,dK h1.2 h2⟩
theorem D0 {α:Type}{enc:α→List AV}:∀{l:List α},(∀x∈l,A5 (enc x)=true)→A5 (l.flatMap enc)=true
 | [],_=>rfl
 | a::l,h=>by
  rw[Aj9];exact dK (h a (by simp)) (D0 λx hx=>h x (by simp[hx]))
theorem I7 {H:AH}{sz n:Nat}{v:AV}{cs:List AV}(h:Ac H sz v=some (cs,n))(ho:AZ v=true)(hn:0<n):
  ∃o off cap cells,v=.sl o off n sz cap∧H[o]?=some (some (.cells cells))∧off+n*sz≤cells.length∧cs=(cells.drop off).take (n*sz):=by
 unfold Ac at h;split at h
 ·simp[AZ]at ho
 ·rename_i o off len esz cap
  split at h
  ·rename_i c hoc
   split at h
   ·rename_i hb
    obtain⟨rfl,hb⟩:=hb;injection h with h;injection h with h1 h2;subst h1;subst h2;exact⟨o,off,cap,c,rfl,hoc,hb,rfl⟩
   ·cases h
  ·cases h
 ·injection h with h;injection h with h1 h2;omega
 ·injection h with h;injection h with h1 h2;omega
 ·cases h
theorem I6 {cs xs:List AV}{k:Nat}(h:k+xs.length≤cs.length):(Ce cs k xs).length=cs.length:=by
 unfold Ce;simp only[Ab9];omega
theorem LX {cs xs:List AV}{k:Nat}(h:k+xs.length≤cs.length)(i:Nat):(Ce cs k xs)[i]?=if k≤i∧i<k+xs.length then xs[i - k]? else cs[i]?:=by
 have h1:(cs.take k).length=k:=by rw[Ah8];omega
 unfold Ce
 split
 ·rename_i c
  rw[Ah6 (by rw[Ai3];omega),Ai1 (by omega),h1]
 ·rename_i c
  by_cases c1:i<k
  ·rw[Ai8,Ah6 (by omega),Ai4,if_pos c1]
  ·rw[Ai1 (by rw[Ai3];omega),Ai3,h1,Ai6]
   congr 1;omega
theorem QL {cs xs:List AV}{off m k:Nat}(h1:off+m≤cs.length)(h2:k+xs.length≤m):((Ce cs (off+k) xs).drop off).take m=Ce ((cs.drop off).take m) k xs:=by
 refine Ak5 λi=>?_
 rw[Ai4,Ai6,LX (by omega),LX (by rw[Ah8,Ai5];omega),Ai4,Ai6]
 by_cases c:i<m
 ·rw[if_pos c]
  by_cases c2:k≤i∧i<k+xs.length
  ·rw[if_pos c2,if_pos (by omega)];congr 1;omega
  ·rw[if_neg c2,if_neg (by omega),if_pos c]
 ·rw[if_neg c,if_neg (by omega),if_neg c]
abbrev Aq8:=@List.set_cons_zero
abbrev Aj7:=@List.take_append_of_le_length
abbrev Aq9:=@List.set_cons_succ
theorem QK {α:Type}{enc:α→List AV}{sz:Nat}(hsz:∀x,(enc x).length=sz){l:List α}{k q:Nat}{x y:α}{xs:List AV}(hx:l[k]?=some x)(hy:enc y=Ce (enc x) q xs)(hq:q+xs.length≤sz):
  Ce (l.flatMap enc) (k*sz+q) xs=(l.set k y).flatMap enc:=by
 induction l generalizing k with
 | nil=>simp at hx
 | cons a l ih=>
  cases k with
  | zero=>
   simp at hx;subst hx;rw[Aq8,Aj9,Aj9,hy];have ha:=hsz a;unfold Ce;rw[As4,Aq2,Aj7 (by omega),List.drop_append_of_le_length (by omega)];simp[Ai8]
  | succ k=>
   simp at hx;rw[Aq9,Aj9,Aj9,← ih hx];have ha:=hsz a;unfold Ce;have e:(k+1)*sz+q=(enc a).length+(k*sz+q):=by rw[ha,Al5];omega
   rw[e,List.take_length_add_append,show(enc a).length+(k*sz+q)+xs.length=(enc a).length+(k*sz+q+xs.length) by omega,List.drop_length_add_append];simp[Ai8]
end
section
theorem ExtR.apart {P : Program}{k : FuncId}{fn : Func}{tS tR e : TypeId}{size : Nat}(hf : P.funcs[k]? = some fn)(hname : (fn.name == "runtime.NumGoroutine") = false)(hb : fn.body.isNone = true)(hn : Extern.findNext fn = none)
  (he:Extern.find fn=some (Extern.SlicesOverlaps.overlaps #[tS,tS] #[tR])) (ht:P.underlying tS=some (.slice e)) (hz:∀w,(Go.sizeOf e).run P w=.ok size w)
  {H:AH} {oa offa la ea ka ob offb lb eb kb:Nat} {ca cb:List AV} (ha:H[oa]?=some (some (.cells ca))) (hbo:H[ob]?=some (some (.cells cb))) (hne:oa≠ob) (hka:ka≠0) (hkb:kb≠0) (hcb:cb≠[]):
  ExtR P k [.sl oa offa la ea (.ex ka),.sl ob offb lb eb (.ex kb)] H (B false):=by
 intro G vs hr hv;simp only[VRs]at hv;obtain⟨v,r,rfl,h1,v2,r2,rfl,h2,rfl⟩:=hv;simp only[VR]at h1 h2;obtain⟨ho1,a,c,rfl,hl1,hs1⟩:=h1;obtain⟨ho2,a2,c2,rfl,hl2,hs2⟩:=h2;have hc1:c≠0:=by simp only[SlAt]at hs1;omega
 have hc2:c2≠0:=by simp only[SlAt]at hs2;omega
 obtain⟨rfl,-⟩:=HD hs1 hc1;obtain⟨rfl,-⟩:=HD hs2 hc2;obtain⟨q1,e1,u1,p1,p2,p3,p4,p5⟩:=hr.obj _ _ ha;obtain⟨q2,e2,u2,w1,w2,w3,w4,w5⟩:=hr.obj _ _ hbo;have hblk:(G.μ oa).1≠(G.μ ob).1:=λh=>hne (hr.inj _ _ _ _ ha hbo h)
 have hlen:0<cb.length:=by cases cb with
  | nil=>exact absurd rfl hcb
  | cons a r=>simp
 refine⟨.bool false,?_,by simp only[VR]⟩;rw[run_callFunc_extern hf hname hb hn he]
 have:=Go.Lib.run_overlaps_apart (P:=P) G.w tS tR e ht size hz ⟨(G.μ oa).1,(G.μ oa).2.1+offa,none⟩ ⟨(G.μ ob).1,(G.μ ob).2.1+offb,none⟩ la c lb c2 hblk e1 e2 q1.size q2.size
  (by simp[World.shape?,p1]) (by simp[World.shape?,w1]) (by omega) (by simp[World.frozen?,p1]) (by simp[World.frozen?,p1])
 show(((Extern.SlicesOverlaps.overlaps #[tS,tS] #[tR]) _).run P G.w).andThen _=_
 have e:(#[Value.slice (some ⟨(G.μ oa).1,(G.μ oa).2.1+offa,none⟩) la c,Value.slice (some ⟨(G.μ ob).1,(G.μ ob).2.1+offb,none⟩) lb c2]:Array Value)=[Value.slice (some ⟨(G.μ oa).1,(G.μ oa).2.1+offa,none⟩) la c,Value.slice (some ⟨(G.μ ob).1,(G.μ ob).2.1+offb,none⟩) lb c2].toArray:=rfl;rw[← e,this];rfl
mutual
def AV.ren (σ:Nat→Nat×Nat):AV→AV
 | .lit v=>.lit v
 | .ptr o off=>.ptr (σ o).1 ((σ o).2+off)
 | .ip cs=>.ip (XC σ cs)
 | .sl o off len esz cap=>.sl (σ o).1 ((σ o).2+off) len esz cap
 | .imm cs len esz=>.imm (XC σ cs) len esz
 | .mp o=>.mp (σ o).1
 | .agg cs=>.agg (XC σ cs)
 | .tup cs=>.tup (XC σ cs)
 | .fn f a b=>.fn f (XC σ a) (XC σ b)
 | .emp=>.emp
 | .junk=>.junk
def XC (σ:Nat→Nat×Nat):List AV→List AV
 | []=>[]
 | a::r=>a.ren σ::XC σ r
end
mutual
theorem zdeiZ {σ:Nat→Nat×Nat}{m:Nat}(h:∀o,o<m→σ o=(o,0)):∀{a:AV},GX m a→a.ren σ=a
 | .lit v,_=>rfl
 | .ptr o off,hb=>by simp only[GX]at hb;simp only[AV.ren,h o hb,Aq2]
 | .ip cs,hb=>by simp only[GX]at hb;simp only[AV.ren,EK h hb]
 | .sl o off len esz cap,hb=>by simp only[GX]at hb;simp only[AV.ren,h o hb,Aq2]
 | .imm cs len esz,hb=>by simp only[GX]at hb;simp only[AV.ren,EK h hb]
 | .mp o,hb=>by simp only[GX]at hb;simp only[AV.ren,h o hb]
 | .agg cs,hb=>by simp only[GX]at hb;simp only[AV.ren,EK h hb]
 | .tup cs,hb=>by simp only[GX]at hb;simp only[AV.ren,EK h hb]
 | .fn f a b,hb=>by simp only[GX]at hb;simp only[AV.ren,EK h hb.1,EK h hb.2]
 | .emp,_=>rfl
 | .junk,_=>rfl
theorem EK {σ:Nat→Nat×Nat}{m:Nat}(h:∀o,o<m→σ o=(o,0)):∀{asx:List AV},DN m asx→XC σ asx=asx
 | [],_=>rfl
 | a::r,hb=>by simp only[DN]at hb;simp only[XC,zdeiZ h hb.1,EK h hb.2]
end
def Cfg.ren (G:Cfg)(σ:Nat→Nat×Nat)(lim:Nat→Option Nat)(n2:Nat):Cfg:=
 {w:=G.w,n:=n2,μ:=λo=>((G.μ (σ o).1).1,(G.μ (σ o).1).2.1+(σ o).2,(lim o).getD ((G.μ (σ o).1).2.2 - (σ o).2)),L:=G.L,K:=G.K}
def zddqZ:Nat→Option Nat:=λ_=>none
theorem SlAt.ren {m:Nat×Nat×Nat}{sh off esz:Nat}{cap:Room}{a:Addr}{c:Nat}(h:SlAt m (sh+off) esz cap a c):SlAt (m.1,m.2.1+sh,m.2.2 - sh) off esz cap a c:=by
 unfold SlAt at h⊢;cases cap with
 | ex k=>
  simp only at h⊢;refine⟨h.1,h.2.imp id λh2=>⟨by rw[h2.1,Am6],by have:=h2.2;omega⟩⟩
 | ge k=>
  simp only at h⊢;refine⟨h.1,h.2.imp id λh2=>⟨by rw[h2.1,Am6],by have:=h2.2;omega⟩⟩
mutual
theorem VR.ren {G:Cfg}{σ:Nat→Nat×Nat}{lim:Nat→Option Nat}{n2 m2:Nat}(hl:∀o,o<m2→lim o=none)(hm:m2≤n2):∀{a:AV} {v:Value},VR G (a.ren σ) v→GX m2 a→VR (G.ren σ lim n2) a v
 | .lit _,_,h,_=>by simpa only[AV.ren,VR]using h
 | .ptr o off,v,h,hb=>by
  simp only[AV.ren,VR]at h⊢;simp only[GX]at hb;exact⟨Ak8 hb hm,by rw[h.2];simp only[Cfg.ren,Am6]⟩
 | .ip cs,v,h,hb=>by
  simp only[AV.ren,VR]at h⊢;simp only[GX]at hb;obtain⟨ad,vs,e,hh,hr⟩:=h;exact⟨ad,vs,e,hh,VRs.ren hl hm hr hb⟩
 | .sl o off len esz cap,v,h,hb=>by
  simp only[AV.ren,VR]at h⊢;simp only[GX]at hb;obtain⟨_,a,c,e,hlc,hs⟩:=h;refine⟨Ak8 hb hm,a,c,e,hlc,?_⟩
  have:=hs.ren
  simp only[Cfg.ren,hl o hb,Option.getD_none];exact this
 | .imm cs len esz,v,h,hb=>by
  simp only[AV.ren,VR]at h⊢;simp only[GX]at hb;obtain⟨ad,c,vs,e,hlc,hh,hr⟩:=h;exact⟨ad,c,vs,e,hlc,hh,VRs.ren hl hm hr hb⟩
 | .mp o,v,h,hb=>by
  simp only[AV.ren,VR]at h⊢;simp only[GX]at hb;exact⟨Ak8 hb hm,h.2⟩
 | .agg cs,v,h,hb=>by
  simp only[AV.ren,VR]at h⊢;simp only[GX]at hb;obtain⟨vs,e,hr⟩:=h;exact⟨vs,e,VRs.ren hl hm hr hb⟩
 | .tup cs,v,h,hb=>by
  simp only[AV.ren,VR]at h⊢;simp only[GX]at hb;obtain⟨vs,e,hr⟩:=h;exact⟨vs,e,VRs.ren hl hm hr hb⟩
 | .fn f a b,v,h,hb=>by
  simp only[AV.ren,VR]at h⊢;simp only[GX]at hb;obtain⟨va,vb,e,h1,h2⟩:=h;exact⟨va,vb,e,VRs.ren hl hm h1 hb.1,VRs.ren hl hm h2 hb.2⟩
 | .emp,_,h,_=>by simpa only[AV.ren,VR]using h
 | .junk,_,_,_=>by simp only[VR]
theorem VRs.ren {G:Cfg}{σ:Nat→Nat×Nat}{lim:Nat→Option Nat}{n2 m2:Nat}(hl:∀o,o<m2→lim o=none)(hm:m2≤n2):∀{asx:List AV} {vs:List Value},VRs G (XC σ asx) vs→DN m2 asx→VRs (G.ren σ lim n2) asx vs
 | [],_,h,_=>by simpa only[XC,VRs]using h
 | a::r,vs,h,hb=>by
  simp only[XC,VRs]at h⊢;simp only[DN]at hb;obtain⟨v,q,e,h1,h2⟩:=h;exact⟨v,q,e,VR.ren hl hm h1 hb.1,VRs.ren hl hm h2 hb.2⟩
end
structure Canon (n0 m2:Nat)(σ:Nat→Nat×Nat)(lim:Nat→Option Nat)(H1 H2:AH):Prop where
 len:n0≤H2.length
 top:m2≤H2.length
 old:∀o,o<n0→σ o=(o,0)∧lim o=none
 low:∀o,o<m2→lim o=none
 cells:∀(o:Nat) (cs:List AV),H2[o]?=some (some (.cells cs))→∃cs1,H1[(σ o).1]?=some (some (.cells cs1))∧(σ o).2+cs.length≤cs1.length∧XC σ cs=(cs1.drop (σ o).2).take cs.length∧DN m2 cs∧∀ℓ,lim o=some ℓ→cs.length≤ℓ
 maps:∀(o:Nat) (es:List (Value×AV)),H2[o]?=some (some (.map es))→(σ o).2=0∧∃es1,H1[(σ o).1]?=some (some (.map es1))∧es1.map Prod.fst=es.map Prod.fst∧es1.map Prod.snd=XC σ (es.map Prod.snd)∧DN m2 (es.map Prod.snd)
 inj:∀(o o':Nat) (x x':AObj),H2[o]?=some (some x)→H2[o']?=some (some x')→(σ o).1=(σ o').1→o=o'
abbrev Ap6:=@Option.getD_some
theorem Canon.hr {n0 m2:Nat}{σ:Nat→Nat×Nat}{lim:Nat→Option Nat}{H1 H2:AH}(c:Canon n0 m2 σ lim H1 H2){G:Cfg}(hr:HR G H1)(hlim:∀o ℓ,lim o=some ℓ→(σ o).2+ℓ≤(G.μ (σ o).1).2.2):HR (G.ren σ lim H2.length) H2:=by
 have src:∀(o:Nat) (x:AObj),H2[o]?=some (some x)→∃x1,H1[(σ o).1]?=some (some x1):=by
  intro o x hx;cases x with
  | cells cs=>obtain⟨cs1,h1,_⟩:=c.cells o cs hx;exact⟨_,h1⟩
  | map es=>obtain⟨_,es1,h1,_⟩:=c.maps o es hx;exact⟨_,h1⟩
 refine⟨rfl,?_,?_,?_,hr.lt,hr.dis⟩
 ·intro o x hx
  cases x with
  | cells cs=>
   obtain⟨cs1,h1,h2,h3,h4,h5⟩:=c.cells o cs hx;obtain⟨cc,e,vs,q1,q2,q3,q4,q5⟩:=hr.obj _ _ h1;have hl:=q4.length
   have hlm:(lim o).getD ((G.μ (σ o).1).2.2 - (σ o).2)+(σ o).2≤(G.μ (σ o).1).2.2∧cs.length≤(lim o).getD ((G.μ (σ o).1).2.2 - (σ o).2):=by
    cases hlo:lim o with
    | none=>simp only[Option.getD_none];omega
    | some ℓ=>have:=hlim o ℓ hlo;have:=h5 ℓ hlo;simp only[Ap6];omega
   refine⟨cc,e,(vs.drop (σ o).2).take cs.length,q1,?_,hlm.2,?_,?_⟩
   ·show(G.μ (σ o).1).2.1+(σ o).2+(lim o).getD ((G.μ (σ o).1).2.2 - (σ o).2)≤cc.size
    omega
   ·refine VRs.ren c.low c.top ?_ h4
    rw[h3];exact(q4.drop _).take _
   ·intro i v hv
    rw[Ai4]at hv;split at hv
    ·rw[Ai6]at hv
     have:=q5 _ _ hv
     show cc[(G.μ (σ o).1).2.1+(σ o).2+i]?=some v∧_
     rw[Am6];exact this
    ·cases hv
  | map es=>
   obtain⟨h0,es1,h1,h2,h3,h4⟩:=c.maps o es hx;obtain⟨ents,q1,q2,q3,q4⟩:=hr.obj _ _ h1;refine⟨ents,q1,?_,by rw[q3,h2],?_⟩
   ·refine VRs.ren c.low c.top ?_ h4
    rw[← h3];exact q2
   ·rw[q4]
    congr 1
    have:=congrArg List.length h2
    simpa using this
 ·intro o o' x x' hx hx' he
  obtain⟨x1,h1⟩:=src o x hx;obtain⟨x2,h2⟩:=src o' x' hx';exact c.inj o o' x x' hx hx' (hr.inj _ _ _ _ h1 h2 he)
 ·intro o x hx
  obtain⟨x1,h1⟩:=src o x hx;exact hr.live _ _ h1
theorem Canon.evo {n0 m2:Nat}{σ:Nat→Nat×Nat}{lim:Nat→Option Nat}{H1 H2:AH}(c:Canon n0 m2 σ lim H1 H2){G0 G:Cfg}(h0:G0.n=n0)(hE:Evo G0 G):Evo G0 (G.ren σ lim H2.length):=
 ⟨hE.os,hE.tape,hE.output,hE.size,hE.keep,by rw[h0];exact c.len,λo ho=>by
  obtain⟨hσ,hl⟩:=c.old o (by omega)
  have:=hE.μ o ho
  simp only[Cfg.ren,hσ,hl,Al8,Ar4,Option.getD_none];exact this,hE.K⟩
section
variable {P : Program}
def belH (H:AH):Prop:=∀(o:Nat) (x:AObj),H[o]?=some (some x)→x.bel H.length
theorem HR.belH {G:Cfg}{H:AH}(hr:HR G H):belH H:=λo x hx=>by rw[← hr.n];exact(hr.obj o x hx).bel
theorem ACalls.canon {f:FuncId}{args:List AV}{H H2:AH}{R:AV→AH→Prop}{r2:AV}(h:ACalls P f args H R)
  (hc:belH H→∀r1 H1,R r1 H1→∃m2 σ lim,Canon H.length m2 σ lim H1 H2∧∀G v,HR G H1→VR G r1 v→VR (G.ren σ lim H2.length) r2 v∧∀o ℓ,lim o=some ℓ→(σ o).2+ℓ≤(G.μ (σ o).1).2.2):BCall P f args H r2 H2:=by
 intro G vs hH hv;refine(h G vs hH hv).mono ?_;rintro e w' ⟨r1,H1,G',v,rfl,rfl,hE,hx,hX,hq⟩;obtain⟨m2,σ,lim,c,hs⟩:=hc hH.belH r1 H1 hq;obtain⟨hs1,hs2⟩:=hs G' v hX hx;exact⟨r2,H2,G'.ren σ lim H2.length,v,rfl,rfl,c.evo hH.n hE,hs1,c.hr hX hs2,rfl,rfl⟩
theorem ACalls.room {f:FuncId}{o off len esz k:Nat}{args:List AV}{H:AH}{R:AV→AH→Prop}(h:∀c,k≤c→len≤c→ACalls P f (.sl o off len esz (.ex c)::args) H R):ACalls P f (.sl o off len esz (.ge k)::args) H R:=by
 intro G vs hH hv;simp only[VRs]at hv;obtain⟨v,r,rfl,h1,h2⟩:=hv;simp only[VR]at h1;obtain⟨ho,a,c,rfl,hl,hs⟩:=h1;simp only[SlAt]at hs;refine h c hs.1 hl G _ hH (.cons ?_ h2);simp only[VR];refine⟨ho,a,c,rfl,hl,rfl,hs.2.imp id λh3=>⟨h3.1,by have:=h3.2;omega⟩⟩
end
def zdjzZ:Nat→Nat×Nat:=λo=>(o,0)
def zdjbZ (n o off:Nat):Nat→Nat×Nat:=λp=>if p=n then(o,off)else(p,0)
def mV (n l:Nat):Nat→Option Nat:=λp=>if p=n then some l else none
theorem Canon.grown {H:AH}(hb:belH H){o:Nat}{N:List AV}(hN:DN H.length N):Canon H.length H.length zdjzZ zddqZ (H++[some (.cells N)]) (H.set o none++[some (.cells N)]):=by
 have get:∀(p:Nat) (x:AObj),(H.set o none++[some (.cells N)])[p]?=some (some x)→(H++[some (.cells N)])[p]?=some (some x)∧x.bel H.length:=by
  intro p x hx
  by_cases hp:p<H.length
  ·rw[Ah6 (by simpa using hp),Am7]at hx
   rw[Ah6 hp];split at hx
   ·split at hx<;>simp at hx
   ·exact⟨hx,hb p x hx⟩
  ·rw[Ai1 (by simpa using hp)]at hx
   rw[Ai1 (by omega)];simp only[Aj6]at hx;refine⟨hx,?_⟩
   have:p - H.length=0:=by
    have:=(BE.1 hx).1
    simp at this;omega
   rw[this]at hx;simp at hx;rw[← hx];exact hN
 refine⟨by simp,by simp,λp hp=>⟨rfl,rfl⟩,λp hp=>rfl,?_,?_,?_⟩
 ·intro p cs hx
  obtain⟨h1,h2⟩:=get p _ hx;refine⟨cs,h1,by simp[zdjzZ],?_,h2,λℓ h=>by cases h⟩;rw[EK (σ:=zdjzZ) (m:=H.length) (λ_ _=>rfl) h2];simp[zdjzZ]
 ·intro p es hx
  obtain⟨h1,h2⟩:=get p _ hx;exact⟨rfl,es,h1,rfl,(EK (σ:=zdjzZ) (m:=H.length) (λ_ _=>rfl) h2).symm,h2⟩
 ·intro p p' x x' _ _ h
  exact h
theorem Canon.placed {H:AH}(hb:belH H){o off l:Nat}{N cs1:List AV}(ho:o<H.length)(hN:DN H.length N)(hl:off+N.length≤cs1.length)(he:(cs1.drop off).take N.length=N)(hll:N.length≤l):
  Canon H.length H.length (zdjbZ H.length o off) (mV H.length l) (H.set o (some (.cells cs1))) (H.set o none++[some (.cells N)]):=by
 have sm:∀p,p<H.length→zdjbZ H.length o off p=(p,0):=λp hp=>by unfold zdjbZ;rw[if_neg (by omega)]
 have sl:∀p,p<H.length→mV H.length l p=none:=λp hp=>by unfold mV;rw[if_neg (by omega)]
 have get:∀(p:Nat) (x:AObj),(H.set o none++[some (.cells N)])[p]?=some (some x)→(p<H.length∧p≠o∧(H.set o (some (.cells cs1)))[p]?=some (some x)∧x.bel H.length)∨(p=H.length∧x=.cells N):=by
  intro p x hx
  by_cases hp:p<H.length
  ·left
   rw[Ah6 (by simpa using hp),Am7]at hx;split at hx
   ·simp at hx
   ·rename_i hne
    exact⟨hp,λh=>hne h.symm,by rw[Cc hne];exact hx,hb p x hx⟩
  ·right
   rw[Ai1 (by simpa using hp)]at hx;simp only[Aj6]at hx
   have:p - H.length=0:=by
    have:=(BE.1 hx).1
    simp at this;omega
   rw[this]at hx;simp at hx;exact⟨by omega,hx.symm⟩
 refine⟨by simp,by simp,λp hp=>⟨sm p hp,sl p hp⟩,sl,?_,?_,?_⟩
 ·intro p cs hx
  rcases get p _ hx with⟨h0,_,h1,h2⟩ | ⟨rfl,h⟩
  ·refine⟨cs,by rw[sm p h0];exact h1,by rw[sm p h0];simp,?_,h2,λℓ h=>by rw[sl p h0]at h;cases h⟩
   rw[EK sm h2,sm p h0];simp
  ·injection h with h
   subst h;have e:zdjbZ H.length o off H.length=(o,off):=if_pos rfl;refine⟨cs1,by rw[e];simp[ho],by rw[e];exact hl,?_,hN,λℓ h=>?_⟩
   ·rw[EK sm hN,e];exact he.symm
   ·unfold mV at h
    rw[if_pos rfl]at h;injection h with h;omega
 ·intro p es hx
  rcases get p _ hx with⟨h0,_,h1,h2⟩ | ⟨_,h⟩
  ·exact⟨by rw[sm p h0],es,by rw[sm p h0];exact h1,rfl,(EK sm h2).symm,h2⟩
  ·cases h
 ·intro p p' x x' hx hx' h
  have e:zdjbZ H.length o off H.length=(o,off):=if_pos rfl;rcases get p _ hx with⟨h0,h0',_,_⟩ | ⟨rfl,_⟩<;>rcases get p' _ hx' with⟨k0,k0',_,_⟩ | ⟨rfl,_⟩
  ·rw[sm p h0,sm p' k0]at h;exact h
  ·rw[sm p h0,e]at h;exact(h0' h).elim
  ·rw[sm p' k0,e]at h;exact(k0' h.symm).elim
  ·rfl
end
section
section
variable {P : Program}
def rG (P:Program)(sz bytes:Nat)(zc:List AV)(ov rot:FuncId)(a0 a1 a2:AV)(H:AH)(K:AV→AH→Prop):Prop:=
 bO (Bf sz a0 (some a1) none none) λv0=>
 bO (AL a2) λv1=>
 bO (Ar .eql v1 (I 0)) λv2=>
 bB v2 λt3=>bI t3 (
 K a0 H)
 (bO (AL a0) λv4=>
 bO (Ar .eql a1 v4) λv5=>
 bB v5 λt6=>bI t6 (
 bH (HM sz bytes H a0 a2) λv7 H8=>
 K v7 H8)
 (bO (Ar .add v4 v1) λv9=>
 bO (eM a0) λv10=>
 bO (Ar .gtr v9 v10) λv11=>
 bB v11 λt12=>bI t12 (
 bO (Bf sz a0 none (some a1) none) λv13=>
 bO (Ar .add v4 v1) λv14=>
 bO (Ar .sub v14 a1) λv15=>
 bH (PH H sz bytes zc v13 v15) λv16 H17=>
 bO (Bf sz v16 (some a1) none none) λv18=>
 bH (UP sz H17 v18 a2) λv19 H20=>
 bO (Ar .add a1 v1) λv21=>
 bO (Bf sz v16 (some v21) none none) λv22=>
 bO (Bf sz a0 (some a1) none none) λv23=>
 bH (UP sz H20 v22 v23) λv24 H25=>
 K v16 H25)
 (bO (Ar .add v4 v1) λv26=>
 bO (Bf sz a0 none (some v26) none) λv27=>
 bO (Ar .add a1 v1) λv28=>
 bO (Bf sz v27 (some v28) none none) λv29=>
 bP (ExtR P ov [a2,v29] H) λv30=>
 bO (Em .not v30) λv31=>
 bB v31 λt32=>bI t32 (
 bO (Ar .add a1 v1) λv33=>
 bO (Bf sz v27 (some v33) none none) λv34=>
 bO (Bf sz v27 (some a1) none none) λv35=>
 bH (UP sz H v34 v35) λv36 H37=>
 bO (Bf sz v27 (some a1) none none) λv38=>
 bH (UP sz H37 v38 a2) λv39 H40=>
 K v27 H40)
 (bO (Bf sz v27 (some v4) none none) λv41=>
 bH (UP sz H v41 a2) λv42 H43=>
 bO (Bf sz v27 (some a1) none none) λv44=>
 bC (BCall P rot [v44,v1] H43) λv45 H46=>
 K v27 H46))))
def CS (s:AV)(n:Nat):Prop:=match s with
 | .sl _ _ _ _ cap=>n≤cap.least
 | _=>True
theorem ZS {H:AH}{sz o off len o2 off2 m:Nat}{cap cap2:Room}{cs cs2:List AV}(ho:H[o]?=some (some (.cells cs)))(h2:H[o2]?=some (some (.cells cs2)))(hoff:off≤cs.length)(ht:off2+min m len*sz≤cs2.length):
  UP sz H (.sl o off len sz cap) (.sl o2 off2 m sz cap2)=some (I ((min m len:Nat):Int),H.set o (some (.cells (Ce cs off ((cs2.drop off2).take (min m len*sz)))))):=by
 unfold UP vL
 by_cases h:off2+m*sz≤cs2.length
 ·have e:Bu H sz (.sl o2 off2 m sz cap2)=some ((cs2.drop off2).take (m*sz),m):=A1 (by simp[Ac,h2,h])
  have hm:min (min m len*sz) (m*sz)=min m len*sz:=Ao1 (Ai7 _ (At9 _ _));rw[e];simp only[ho,hoff,and_self,if_true,An4,hm]
 ·have e:Bu H sz (.sl o2 off2 m sz cap2)=none:=by simp[Bu,Ac,h2,h]
  rw[e];simp[zdfxZ,ho,h2,hoff,ht]
theorem RB {sz bytes:Nat}{H:AH}{s x r:AV}{H':AH}{cs ds:List AV}{n m:Nat}(h1:Ac H sz s=some (cs,n))(ho:AZ s=true)(h2:Bu H sz x=some (ds,m))(hc:CS s n)(h:HM sz bytes H s x=some (r,H')):CS r (n+m):=by
 unfold HM at h;rw[h2]at h;simp only at h;unfold Ac at h1;split at h1
 ·simp[AZ]at ho
 ·rename_i o off len esz cap
  split at h1
  ·rename_i c hoc
   split at h1
   ·rename_i hb1
    obtain⟨rfl,hfit⟩:=hb1;injection h1 with h1;injection h1 with h3 h4;subst h3;subst h4;unfold Pe at h;simp only[hoc,Af3,false_or,hfit]at h;cases cap with
    | ex k=>
     simp only at h;split at h
     ·injection h with h;injection h with h h';subst h;simpa[CS,Room.least]
     ·split at h
      ·injection h with h;injection h with h h';subst h;simp[CS,Room.least]
      ·cases h
    | ge k=>
     simp only at h;split at h
     ·rename_i hm
      injection h with h;injection h with h h';subst h;subst hm;simpa using hc
     ·split at h
      ·injection h with h;injection h with h h';subst h;simpa[CS,Room.least]
      ·split at h
       ·injection h with h;injection h with h h';subst h;simp[CS,Room.least]
       ·cases h
   ·cases h1
  ·cases h1
 ·injection h1 with h1
  injection h1 with h3 h4;subst h3;subst h4;unfold Pe at h;simp only at h;split at h
  ·injection h with h;injection h with h h';subst h;simp[CS]
  ·split at h
   ·injection h with h;injection h with h h';subst h;simp[CS,Room.least]
   ·cases h
 ·injection h1 with h1
  injection h1 with h3 h4;subst h3;subst h4;unfold Pe at h;simp only at h;split at h
  ·injection h with h;injection h with h h';subst h;simp[CS]
  ·split at h
   ·injection h with h;injection h with h h';subst h;simp[CS,Room.least]
   ·cases h
 ·cases h1
def zdfnZ (sz:Nat)(H:AH)(s:AV)(N:List AV)(n:Nat)(r:AV)(H':AH):Prop:=
 AZ r=true∧Ac H' sz r=some (N,n+1)∧H.length≤H'.length∧(∀i,i<H.length→i∉AM s→H'[i]?=H[i]?)∧(∀i∈AM r,i∈AM s∨H.length≤i)∧CS r (n+1)
theorem zdgrZ {sz bytes:Nat}{zc:List AV}{ov rot:FuncId}{H:AH}{s a2:AV}{cs xs:List AV}{n:Nat}(hs:Ac H sz s=some (cs,n))(ho:AZ s=true)(hc:CS s n)(ha:AL a2=some (I 1))(hx:Bu H sz a2=some (xs,1))(hb:(n+1)*bytes≤140737488355328):
  ∃r H',zdfnZ sz H s (cs++xs) n r H'∧rG P sz bytes zc ov rot s (I n) a2 H λr' H''=>r'=r∧H''=H':=by
 obtain⟨r0,a0,-⟩:=EI hs (lo:=some (I n)) (hi:=none) (l:=n) (k:=n) (by simp[Ci]) rfl (Ah9 _) (Ah9 _);obtain⟨r,H2,a1,a2',a3,a4,a5,a6⟩:=BX (bytes:=bytes) hs ho hx hb;refine⟨r,H2,⟨a2',a3,a4,a5,a6,RB hs ho hx hc a1⟩,?_⟩;unfold rG;simp[a0,ha,By hs,a1]
abbrev Ar2:=@List.drop_eq_nil_of_le
theorem zddcZ {sz bytes:Nat}{zc:List AV}{ov rot:FuncId}(hz:zc.length=sz){H:AH}{o off n oj i:Nat}{cells xs:List AV}(hc:H[o]?=some (some (.cells cells)))(hl:off+n*sz≤cells.length)(hi:i<n)(hn:n≤100000000)(hv:H[oj]?=some (some (.cells xs)))(hxl:xs.length=sz)(hby:(n+1)*bytes≤140737488355328):
  rG P sz bytes zc ov rot (.sl o off n sz (.ex n)) (I i) (.sl oj 0 1 sz (.ex 1)) H λr H'=>r=.sl H.length 0 (n+1) sz (.ge (n+1))∧
   H'=H++[some (.cells ((cells.drop off).take (i*sz)++xs++(cells.drop (off+i*sz)).take ((n - i)*sz)))]:=by
 unfold rG;have h1:¬(i:Int)=n:=by omega
 have hmi:i*sz≤n*sz:=Ai7 _ (by omega);have hmn:i*sz+(n - i)*sz=n*sz:=by rw[← An2];congr 1;omega
 have hms:(i+1)*sz=i*sz+sz:=Al5 _ _;have hmr:(n+1 - i)*sz=(n - i)*sz+sz:=by rw[show n+1 - i=(n - i)+1 by omega,Al5]
 simp[Bf,Ci,Room.least,Room.cut,eM,goInt,h1,show i≤n by omega,Au (a:=n) (b:=1) (by omega) (by omega),B2 (a:=(n:Int)+1) (b:=i) (by omega) (by omega),PH,hc,Au (a:=i) (b:=1) (by omega) (by omega),-B4];have e1:i+(n+1 - i)=n+1:=by omega
 have h2:off+i*sz≤cells.length:=by omega
 simp only[e1];simp[h2,show(i:Int)<n+1 by omega,show(n:Int)<n+1 by omega,hby,show i≤n+1 by omega,-B4];have zl:(B4 zc (n+1 - i)).length=(n+1 - i)*sz:=by rw[Ey,hz]
 generalize B4 zc (n+1 - i)=Z at zl;have hA:(List.take (i*sz) (List.drop off cells)).length=i*sz:=by rw[Ah8,Ai5];omega
 generalize hAe:List.take (i*sz) (List.drop off cells)=A at hA;have hov:=(BE.1 hv).1;have ho:=(BE.1 hc).1;have m1:min 1 (n+1 - i)=1:=by omega
 rw[ZS (cs:=A++Z) (cs2:=xs) (by simp) (by rw[Ah6 hov];exact hv) (by simp[hA]) (by rw[m1];omega)];simp[show(0:Int)≤(i:Int)+1 by omega,show i+1≤n+1 by omega]
 have o1:Ce (A++Z) (i*sz) (List.take (min 1 (n+1 - i)*sz) xs)=A++xs++Z.drop sz:=by
  rw[m1,Ai2 (by rw[hxl];omega)];unfold Ce;rw[Aj7 (by omega),Ai2 (by omega),hxl,← hA,List.drop_append,Aq4,Ar2 (by omega),Am5]
 rw[o1,ZS (cs:=A++xs++Z.drop sz) (cs2:=cells) (by simp) (by rw[Ah6 ho];exact hc) (by simp[hA,hxl];omega) (by rw[Nat.min_self];omega)];have hB:(List.take ((n - i)*sz) (List.drop (off+i*sz) cells)).length=(n - i)*sz:=by rw[Ah8,Ai5];omega
 simp;generalize List.take ((n - i)*sz) (List.drop (off+i*sz) cells)=B' at hB;unfold Ce;have l1:(A++xs).length=(i+1)*sz:=by rw[Ai3,hA,hxl];omega
 rw[← Ai8,Aj7 (by omega),Ai2 (by omega),Ar2 (by rw[Ai3,l1,Ai5,hB];omega),Al4,Ai8]
abbrev Au4:=@List.drop_left
theorem wI {sz bytes:Nat}{zc:List AV}{ov rot:FuncId}(h0:0<sz){H:AH}{o off n oj i c:Nat}{cells xs:List AV}(hc:H[o]?=some (some (.cells cells)))(hl:off+n*sz≤cells.length)(hi:i<n)(hn:n≤100000000)(hcn:n+1≤c)(hv:H[oj]?=some (some (.cells xs)))(hxl:xs.length=sz)(hne:oj≠o)
  (hov:∀q l k,k≠0→ExtR P ov [.sl oj 0 1 sz (.ex 1),.sl o q l sz (.ex k)] H (B false)):
  rG P sz bytes zc ov rot (.sl o off n sz (.ex c)) (I i) (.sl oj 0 1 sz (.ex 1)) H λr H'=>r=.sl o off (n+1) sz (.ex c)∧
   ∃rest,H'=H.set o (some (.cells (cells.take (off+i*sz)++xs++(cells.drop (off+i*sz)).take ((n - i)*sz)++rest))):=by
 unfold rG;have h1:¬(i:Int)=n:=by omega
 have hmi:i*sz≤n*sz:=Ai7 _ (by omega);have hmn:i*sz+(n - i)*sz=n*sz:=by rw[← An2];congr 1;omega
 have hms:(i+1)*sz=i*sz+sz:=Al5 _ _;have hms2:(i+1)*sz≤n*sz:=Ai7 _ (by omega);simp[Bf,Ci,Room.least,Room.cut,eM,goInt,h1,show i≤n by omega,Au (a:=n) (b:=1) (by omega) (by omega),B2 (a:=(n:Int)+1) (b:=i) (by omega) (by omega),Au (a:=i) (b:=1) (by omega) (by omega),show i≤c by omega,show n≤c by omega,show ¬(c:Int)<n+1 by omega,hcn,show(0:Int)≤(n:Int)+1 by omega,show(0:Int)≤(i:Int)+1 by omega,show i+1≤n+1 by omega];refine bP_of (hov _ _ _ (by omega)) ?_;simp;have ho:=(BE.1 hc).1;have mm:min (n+1 - i) (n - i)=n - i:=by omega
 have m1:min 1 (n+1 - i)=1:=by omega
 simp only[show i≤n+1 by omega,if_true,Aa];rw[ZS (cs:=cells) (cs2:=cells) hc hc (by omega) (by rw[mm];omega),mm];have hB:(List.take ((n - i)*sz) (List.drop (off+i*sz) cells)).length=(n - i)*sz:=by rw[Ah8,Ai5];omega
 generalize List.take ((n - i)*sz) (List.drop (off+i*sz) cells)=B' at hB;simp only[A6];have l1:(cells.take (off+(i+1)*sz)).length=off+(i+1)*sz:=by rw[Ah8];omega
 rw[ZS (cs:=Ce cells (off+(i+1)*sz) B') (cs2:=xs) (by simp[ho]) (by rw[Cc (Aj4 hne)];exact hv) (by unfold Ce;simp[l1];omega) (by rw[m1];omega),m1,Ai2 (l:=xs.drop 0) (by simp[hxl])];simp only[A6,List.set_set,Ak9];refine⟨(cells.drop (off+(i+1)*sz+B'.length)),?_⟩
 congr 3
 unfold Ce;rw[hxl]
 have t1:List.take (off+i*sz) (cells.take (off+(i+1)*sz)++B'++cells.drop (off+(i+1)*sz+B'.length))=cells.take (off+i*sz):=by
  rw[Ai8,Aj7 (by omega),An4,Ao1 (by omega)]
 have t2:List.drop (off+i*sz+sz) (cells.take (off+(i+1)*sz)++B'++cells.drop (off+(i+1)*sz+B'.length))=B'++cells.drop (off+(i+1)*sz+B'.length):=by
  rw[Ai8,show off+i*sz+sz=(cells.take (off+(i+1)*sz)).length by omega,Au4]
 rw[t1,t2,Ai8]
theorem Yg {m:Nat}:∀{a b:List AV},DN m a→DN m b→DN m (a++b)
 | [],b,_,h=>h
 | x::a,b,h1,h2=>by simp only[DN,An9]at h1⊢;exact⟨h1.1,Yg h1.2 h2⟩
theorem U6 {m:Nat}:∀{a:List AV},DN m a↔∀x∈a,GX m x
 | []=>by simp[DN]
 | x::a=>by simp only[DN,Ak6,forall_eq_or_imp,U6 (a:=a)]
abbrev Av0:=@List.take_add
theorem zdddZ {sz bytes:Nat}{zc:List AV}{f ov rot:FuncId}(h0:0<sz)(hz:zc.length=sz)(hF:∀a0 a1 a2 H K,rG P sz bytes zc ov rot a0 a1 a2 H K→ACalls P f [a0,a1,a2] H K){H:AH}{s:AV}{cs xs:List AV}{n oj i:Nat}(hs:Ac H sz s=some (cs,n))(ho:AZ s=true)(hcap:CS s n)(hi:i≤n)(hn:n≤1000000)(hby:bytes≤1000000)(hv:H[oj]?=some (some (.cells xs)))(hxl:xs.length=sz)(hne:oj∉AM s)
  (hxb:∀m,DN m xs) (hov:∀{o q l k:Nat} {cells:List AV},H[o]?=some (some (.cells cells))→oj≠o→k≠0→cells≠[]→ExtR P ov [.sl oj 0 1 sz (.ex 1),.sl o q l sz (.ex k)] H (B false)):
  ∃r H',zdfnZ sz H s (cs.take (i*sz)++xs++cs.drop (i*sz)) n r H'∧BCall P f [s,I i,.sl oj 0 1 sz (.ex 1)] H r H':=by
 have hcl:=B7 hs;have hbb:(n+1)*bytes≤140737488355328:=Aj0 (Nat.mul_le_mul (show n+1≤1000001 by omega) hby) (by omega);rcases Ai0 i n with h | h
 ·obtain⟨o,off,cap,cells,rfl,hc,hl,rfl⟩:=I7 hs ho (by omega)
  have hoj:oj≠o:=by simpa[AM]using hne
  have hol:=(BE.1 hc).1;have hmi:i*sz≤n*sz:=Ai7 _ (by omega);have hmn:i*sz+(n - i)*sz=n*sz:=by rw[← An2];congr 1;omega
  have hmn1:(n+1)*sz=n*sz+sz:=Al5 _ _;have hsz1:sz≤n*sz:=by have:=Ai7 sz (show 1≤n by omega);omega
  have hcne:cells≠[]:=λhh=>by rw[hh]at hl;simp at hl;omega
  have e1:((cells.drop off).take (n*sz)).take (i*sz)=(cells.drop off).take (i*sz):=by rw[An4];congr 1;omega
  have e2:((cells.drop off).take (n*sz)).drop (i*sz)=(cells.drop (off+i*sz)).take ((n - i)*sz):=by rw[Ap4,An3];congr 1;omega
  rw[e1,e2];generalize hN:(cells.drop off).take (i*sz)++xs++(cells.drop (off+i*sz)).take ((n - i)*sz)=N
  have hNl:N.length=(n+1)*sz:=by
   rw[← hN,Ai3,Ai3,hxl,Ah8,Ah8,Ai5,Ai5];omega
  have hall:∀c,n≤c→ACalls P f [.sl o off n sz (.ex c),I i,.sl oj 0 1 sz (.ex 1)] H λr H'=>
    (r=.sl H.length 0 (n+1) sz (.ge (n+1))∧H'=H++[some (.cells N)])∨∃c rest,n+1≤c∧r=.sl o off (n+1) sz (.ex c)∧H'=H.set o (some (.cells (cells.take off++N++rest))):=by
   intro c hcn;rcases Ai0 n c with h' | h'
   ·refine(hF _ _ _ _ _ (wI h0 hc hl h (by omega) h' hv hxl hoj λq l k hk=>hov hc hoj hk hcne)).mono ?_
    rintro r H' ⟨rfl,rest,rfl⟩;refine .inr ⟨c,rest,h',rfl,?_⟩
    congr 3
    rw[← hN,Ar5 off (i*sz),Ar5 (i*sz) off];have:cells.take (off+i*sz)=cells.take off++(cells.drop off).take (i*sz):=by rw[Av0]
    rw[this];simp[Ai8]
   ·have:c=n:=by omega
    subst this;refine(hF _ _ _ _ _ (zddcZ hz hc hl h (by omega) hv hxl hbb)).mono ?_;rintro r H' ⟨rfl,rfl⟩;exact .inl ⟨rfl,by rw[hN]⟩
  have hany:ACalls P f [.sl o off n sz cap,I i,.sl oj 0 1 sz (.ex 1)] H λr H'=>
    (r=.sl H.length 0 (n+1) sz (.ge (n+1))∧H'=H++[some (.cells N)])∨∃c rest,n+1≤c∧r=.sl o off (n+1) sz (.ex c)∧H'=H.set o (some (.cells (cells.take off++N++rest))):=by
   cases cap with
   | ge k=>exact ACalls.room λc _ h=>hall c h
   | ex c=>exact hall c (by simpa[CS,Room.least]using hcap)
  refine⟨.sl H.length 0 (n+1) sz (.ge (n+1)),H.set o none++[some (.cells N)],⟨rfl,?_,by simp,λj hj hn=>?_,λj hj=>.inr (by simp[AM]at hj;omega),by simp[CS,Room.least]⟩,?_⟩
  ·rw[Br (c:=N) (by rw[Ai1 (by simp)];simp) (by omega)]
   rw[Ak9,Ai2 (by omega)]
  ·rw[Ah6 (by simpa using hj),Cc (by simp[AM]at hn;omega)]
  refine ACalls.canon hany ?_;rintro hb r1 H1 h1
  have hbN:DN H.length N:=by
   have hbc:DN H.length cells:=hb o _ hc;rw[U6]at hbc;rw[← hN];refine Yg (Yg ?_ (hxb _)) ?_
   ·rw[U6];exact λa ha=>hbc a (An8 (Am0 ha))
   ·rw[U6];exact λa ha=>hbc a (An8 (Am0 ha))
  rcases h1 with⟨rfl,rfl⟩ | ⟨c,rest,hcn,rfl,rfl⟩
  ·refine⟨_,_,_,Canon.grown hb hbN,?_⟩
   intro G v hG hr;refine⟨?_,λp ℓ h=>by cases h⟩;simp only[VR]at hr⊢;obtain⟨q0,a,c,rfl,hlc,hs⟩:=hr;refine⟨by simp[Cfg.ren],a,c,rfl,hlc,?_⟩
   simpa[Cfg.ren,zdjzZ,zddqZ]using hs
  ·have hcs:(n+1)*sz≤c*sz:=Ai7 _ hcn
   refine⟨_,_,_,Canon.placed (off:=off) (l:=c*sz) hb hol hbN (cs1:=cells.take off++N++rest) ?_ ?_ ?_,?_⟩
   ·simp;omega
   ·have:(cells.take off).length=off:=by rw[Ah8];omega
    rw[Ai8]
    conv=>lhs;arg 2;arg 1;rw[← this]
    rw[Au4,List.take_left]
   ·rw[hNl];omega
   ·intro G v hG hr
    simp only[VR]at hr;obtain⟨q0,a,c',rfl,hlc,hs⟩:=hr;simp only[SlAt]at hs;obtain⟨rfl,hs⟩:=hs;have hs:=hs.resolve_left (by omega);obtain⟨rfl,hs2⟩:=hs;have e:zdjbZ H.length o off H.length=(o,off):=if_pos rfl;have e2:mV H.length (c'*sz) H.length=some (c'*sz):=if_pos rfl;refine⟨?_,?_⟩
    ·simp only[VR]
     refine⟨by simp[Cfg.ren],_,c',rfl,by omega,?_⟩;simp only[SlAt];refine⟨hcn,.inr ⟨by simp[Cfg.ren,e],?_⟩⟩;simp[Cfg.ren,e2]
    ·intro p ℓ h
     unfold mV at h;split at h
     ·rename_i hp
      injection h with h;subst hp;subst h;rw[e];omega
     ·cases h
 ·have:i=n:=by omega
  subst this
  have hx:Bu H sz (.sl oj 0 1 sz (.ex 1))=some (xs,1):=A1 (by
   rw[show sz=1*sz by omega]at hxl;rw[Br hv (by omega),Ak9,Ai2 (by omega)])
  obtain⟨r,H',h1,h2⟩:=zdgrZ (P:=P) (zc:=zc) (ov:=ov) (rot:=rot) hs ho hcap rfl hx hbb;refine⟨r,H',?_,(hF _ _ _ _ _ h2)⟩;rw[Ai2 (by omega),Aj5 (by omega),Al4];exact h1
end
end
section
mutual
theorem rN {m:Nat}:∀{a:AV},noIds a=true→GX m a
 | .lit _,_=>by simp only[GX]
 | .ptr ..,h=>by simp[noIds]at h
 | .ip cs,h=>by simp only[noIds]at h;simp only[GX];exact FG h
 | .sl ..,h=>by simp[noIds]at h
 | .imm cs _ _,h=>by simp only[noIds]at h;simp only[GX];exact FG h
 | .mp _,h=>by simp[noIds]at h
 | .agg cs,h=>by simp only[noIds]at h;simp only[GX];exact FG h
 | .tup cs,h=>by simp only[noIds]at h;simp only[GX];exact FG h
 | .fn _ a b,h=>by simp only[noIds,Ak0]at h;simp only[GX];exact⟨FG h.1,FG h.2⟩
 | .emp,_=>by simp only[GX]
 | .junk,_=>by simp only[GX]
theorem FG {m:Nat}:∀{xs:List AV},A5 xs=true→DN m xs
 | [],_=>by simp only[DN]
 | a::r,h=>by simp only[A5,Ak0]at h;simp only[DN];exact⟨rN h.1,FG h.2⟩
end
section
variable {P : Program}
def zdnhZ (sz bytes:Nat)(zc:List AV)(a0 a1 a2:AV)(H:AH)(K:AV→AH→Prop):Prop:=
 bO (AL a0) λv0=>
 bO (Bf sz a0 (some a1) (some a2) (some v0)) λv1=>
 bO (Ar .eql a1 a2) λv2=>
 bB v2 λt3=>bI t3 (
 K a0 H)
 (bO (AL a0) λv4=>
 bO (Bf sz a0 none (some a1) none) λv5=>
 bO (Bf sz a0 (some a2) none none) λv6=>
 bH (HM sz bytes H v5 v6) λv7 H8=>
 bO (AL v7) λv9=>
 bO (Bf sz v7 (some v9) (some v4) none) λv10=>
 bS (zdffZ zc H8 v10) λH11=>
 K v7 H11)
def zdijZ (sz:Nat)(H:AH)(s:AV)(N:List AV)(n:Nat)(r:AV)(H':AH):Prop:=
 AZ r=true∧Ac H' sz r=some (N,n)∧H'.length=H.length∧(∀i,i∉AM s→H'[i]?=H[i]?)∧AM r=AM s∧CS r n
abbrev Aa6:=And.intro @Aa @Aj
theorem zR {sz bytes:Nat}{zc:List AV}(h0:0<sz)(hz:zc.length=sz){H:AH}{s:AV}{cs:List AV}{n i:Nat}(hs:Ac H sz s=some (cs,n+1))(ho:AZ s=true)(hcap:CS s (n+1))(hi:i≤n)(hn:n≤1000000)(hby:bytes≤1000000):
  ∃r H',zdijZ sz H s (cs.take (i*sz)++cs.drop ((i+1)*sz)) n r H'∧zdnhZ sz bytes zc s (I i) (I ((i:Int)+1)) H λr' H''=>r'=r∧H''=H':=by
 obtain⟨o,off,cap,cells,rfl,hc,hl,rfl⟩:=I7 hs ho (by omega);have hol:=(BE.1 hc).1;have hms:(i+1)*sz=i*sz+sz:=Al5 _ _;have hns:(n+1)*sz=n*sz+sz:=Al5 _ _;have hmi:i*sz≤n*sz:=Ai7 _ (by omega);have hmn:(i+1)*sz+(n - i)*sz=(n+1)*sz:=by rw[← An2];congr 1;omega
 obtain⟨cap',hcap1,hcap2⟩:∃cap',Room.cut (n+1) 0 cap=cap'∧n+1≤cap'.least:=by
  refine⟨_,rfl,?_⟩;cases cap<;>simp_all[Room.cut,Room.least,CS]<;>omega
 have hap:∃H8,HM sz bytes H (.sl o off i sz cap') (.sl o (off+(i+1)*sz) (n - i) sz (cap.cut (n+1) (i+1)))=some (.sl o off n sz cap',H8)∧H8.length=H.length∧(∀j,j≠o→H8[j]?=H[j]?)∧H8[o]?=some (some (.cells (Ce cells (off+i*sz) ((cells.drop (off+(i+1)*sz)).take ((n - i)*sz))))):=by
  have e:Bu H sz (.sl o (off+(i+1)*sz) (n - i) sz (cap.cut (n+1) (i+1)))=some ((cells.drop (off+(i+1)*sz)).take ((n - i)*sz),n - i):=A1 (by rw[Br hc (by omega)]);unfold HM;rw[e];simp only[Pe,hc];rw[if_neg (by simp;omega)];have hin:i+(n - i)=n:=by omega
  cases cap' with
  | ex k=>
   simp only[Room.least]at hcap2;simp only[hin,show n≤k by omega,if_true];exact⟨_,rfl,by simp,λj hj=>by rw[Cc (Aj4 hj)],by simp[hol]⟩
  | ge k=>
   simp only[Room.least]at hcap2
   by_cases h:n - i=0
   ·have:i=n:=by omega
    subst this;simp only[h,if_true];refine⟨_,rfl,rfl,λ_ _=>rfl,?_⟩;rw[hc];simp[Ce]
   ·simp only[h,if_false,hin,show n≤k by omega,if_true]
    exact⟨_,rfl,by simp,λj hj=>by rw[Cc (Aj4 hj)],by simp[hol]⟩
 obtain⟨H8,hA,hL,hO,hC⟩:=hap;have hDl:((cells.drop (off+(i+1)*sz)).take ((n - i)*sz)).length=(n - i)*sz:=by rw[Ah8,Ai5];omega
 have hcl:(Ce cells (off+i*sz) ((cells.drop (off+(i+1)*sz)).take ((n - i)*sz))).length=cells.length:=I6 (by rw[hDl];omega);have hol8:o<H8.length:=by omega
 refine⟨.sl o off n sz cap',H8.set o (some (.cells (Ce (Ce cells (off+i*sz) ((cells.drop (off+(i+1)*sz)).take ((n - i)*sz))) (off+n*sz) (B4 zc 1)))),⟨rfl,?_,?_,λj hj=>?_,rfl,by simp only[CS];omega⟩,?_⟩
 rotate_left 3
 ·unfold zdnhZ
  have q1:((i:Int)+1)=((i+1:Nat):Int):=by omega
  have w1:AL (.sl o off (n+1) sz cap)=some (I ((n+1:Nat):Int)):=rfl;have hcl':n+1≤cap.least:=hcap
  have w2:∃v,Bf sz (.sl o off (n+1) sz cap) (some (I i)) (some (I ((i+1:Nat):Int))) (some (I ((n+1:Nat):Int)))=some v:=by
   refine⟨.sl o (off+i*sz) (i+1 - i) sz (.ex (n+1 - i)),?_⟩;simp[Bf,Ci,show(0:Int)≤(i:Int)+1 by omega,show(0:Int)≤(n:Int)+1 by omega];omega
  obtain⟨v,w2⟩:=w2
  have w3:Bf sz (.sl o off (n+1) sz cap) none (some (I i)) none=some (.sl o off i sz cap'):=by
   rw[← hcap1];simp[Bf,Ci];omega
  have w4:Bf sz (.sl o off (n+1) sz cap) (some (I ((i+1:Nat):Int))) none none=some (.sl o (off+(i+1)*sz) (n - i) sz (cap.cut (n+1) (i+1))):=by
   have:((i:Int)+1)=((i+1:Nat):Int):=by omega
   simp[Bf,Ci,-Int.natCast_add];omega
  have w5:Bf sz (.sl o off n sz cap') (some (I n)) (some (I ((n+1:Nat):Int))) none=some (.sl o (off+n*sz) 1 sz (cap'.cut n n)):=by
   simp[Bf,Ci,show(0:Int)≤(n:Int)+1 by omega];omega
  have w6:Ar .eql (I i) (I ((i+1:Nat):Int))=some (B false):=by simp;omega
  rw[q1,w1];simp only[Aa6,w2,w6,Ak,w3,w4,hA,A6,AL,w5];have zl:(B4 zc 1).length=sz:=by rw[Ey,hz];omega
  have w7:zdffZ zc H8 (.sl o (off+n*sz) 1 sz (cap'.cut n n))=some (H8.set o (some (.cells (Ce (Ce cells (off+i*sz) ((cells.drop (off+(i+1)*sz)).take ((n - i)*sz))) (off+n*sz) (B4 zc 1))))):=by
   unfold zdffZ;simp only[hC];rw[if_pos ⟨hz,by omega,by omega⟩,if_neg (by omega),HT _ _ _ (by omega)];rfl
  rw[w7];simp only[AF];exact⟨trivial,trivial⟩
 ·rw[Br (c:=Ce (Ce cells (off+i*sz) ((cells.drop (off+(i+1)*sz)).take ((n - i)*sz))) (off+n*sz) (B4 zc 1)) (by simp[hol8]) (by rw[I6 (by rw[Ey,hz];omega)];omega)]
  congr 2
  have e1:((cells.drop off).take ((n+1)*sz)).take (i*sz)=(cells.drop off).take (i*sz):=by rw[An4];congr 1;omega
  have e2:((cells.drop off).take ((n+1)*sz)).drop ((i+1)*sz)=(cells.drop (off+(i+1)*sz)).take ((n - i)*sz):=by rw[Ap4,An3];congr 1;omega
  rw[e1,e2];have e3:(n:Nat)*sz=i*sz+(n - i)*sz:=by rw[← An2];congr 1;omega
  generalize (cells.drop (off+(i+1)*sz)).take ((n - i)*sz)=D at*
  have h1:((Ce (Ce cells (off+i*sz) D) (off+n*sz) (B4 zc 1)).drop off).take (n*sz)=((Ce cells (off+i*sz) D).drop off).take (n*sz):=by
   refine Ak5 λk=>?_
   rw[Ai4,Ai4]
   by_cases c:k<n*sz
   ·rw[if_pos c,if_pos c,Ai6,Ai6,LX (by rw[Ey,hz];omega),if_neg (by omega)]
   ·rw[if_neg c,if_neg c]
  rw[h1,e3]
  have:=(iH cells off (i*sz) D (by omega)).1
  rw[hDl]at this;exact this
 ·simp[hL]
 ·rw[Cc (by simp[AM]at hj;omega)];exact hO j (by simpa[AM]using hj)
end
end
section
theorem compareString_calls (a b:ByteArray)(H:AH):ACalls prog 183 [.lit (.string a),.lit (.string b)] H λr H'=>r=.lit (.int .i64 (Lib.compareBytes a.data.toList b.data.toList))∧H'=H:=by
 refine ACalls.of_body func183 rfl ?_;refine ACode.seq (ACode.region (AOps.op rfl rfl (AOps.nil ?_)));refine ACode.seq (ACode.region (AOps.op rfl rfl (AOps.op rfl rfl (AOps.extern rfl rfl (r:=.lit (.int .i64 (Lib.compareBytes a.data.toList b.data.toList))) ?_ (AOps.op rfl rfl (AOps.nil ?_))))))
 ·intro G vs hH hv
  have hv':VRs G [.lit (.string a),.lit (.string b)] vs:=hv;simp only[VRs,VR]at hv';obtain⟨_,_,rfl,rfl,_,_,rfl,rfl,rfl⟩:=hv';refine⟨.int .i64 (Lib.compareBytes a.data.toList b.data.toList),?_,by simp only[VR]⟩
  rw[run_callFunc_extern func196 (by kernel_rfl) (by kernel_rfl) (by kernel_rfl) (e:=Extern.BytealgCompare.compare) (by kernel_rfl),
   Lib.run_compareString (P:=prog) a b G.w]
  rfl
 ·exact ACode.ret ⟨.inr rfl,_,rfl,rfl,rfl⟩
structure Nm where
 name:List UInt8
 ino:Int
 deriving DecidableEq
def Cb (x:Nm):List AV:=[S (B9 x.name),I x.ino]
theorem BT (x:Nm):(Cb x).length=2:=rfl
theorem Uh (x:Nm):A5 (Cb x)=true:=rfl
structure Nd where
 ino:Int
 size:Int
 l:List Ext
 deriving DecidableEq
structure NdV where
 nd:Nd
 R:AV
 h:SV AB 9 nd.l R
abbrev NdV.ino (x:NdV):Int:=x.nd.ino
def Cw (x:NdV):List AV:=[I x.nd.ino,I x.nd.size,x.R]
theorem BL (x:NdV):(Cw x).length=3:=rfl
theorem Pz (x:NdV):A5 (Cw x)=true:=by simp[Cw,A5,noIds,x.h.1]
theorem VY (x:Nm)(t:List AV):(Cb x++t)[0]?=some (S (B9 x.name)):=rfl
theorem bQ (x:Nm)(t:List AV):(Cb x++t)[1]?=some (I x.ino):=rfl
theorem kB (x:NdV)(t:List AV):(Cw x++t)[0]?=some (I x.nd.ino):=rfl
theorem zdjsZ (x:NdV)(t:List AV):(Cw x++t)[2]?=some x.R:=rfl
theorem koI:KO BP where
 eq a b:=by unfold BP;split<;>(try split)<;>omega
 anti a b:=by unfold BP;split<;>(try split)<;>(try split)<;>omega
 trans a b d:=by unfold BP;intro h1 h2;split at h1<;>split at h2<;>(try split at h1)<;>(try split at h2)<;>split<;>omega
theorem Pf {a b:Int}:BP a b<0↔a<b:=by unfold BP;split<;>(try split)<;>omega
theorem SV.oneA {α:Type}{enc:α→List AV}{sz:Nat}{l:List α}{v:AV}(h:SV enc sz l v):oneA v=true:=by
 have h2:=h.2 [];unfold Ac at h2;split at h2
 all_goals first | rfl | cases h2
def RR (y:UInt8):Prop:=(97≤(y.toNat:Int)∧(y.toNat:Int)≤122)∨(48≤(y.toNat:Int)∧(y.toNat:Int)≤57)∨(y.toNat:Int)=46∨(y.toNat:Int)=95∨(y.toNat:Int)=45
instance (y:UInt8):Decidable (RR y):=by unfold RR;infer_instance
def DE (s:List UInt8):Prop:=s≠[]∧s.length≤20∧s[0]?≠some 45∧∀b∈s,RR b
instance (s:List UInt8):Decidable (DE s):=by unfold DE;infer_instance
theorem zdnxZ (y:UInt8):BPure prog 154 [.lit (.int .u8 y.toNat)] (B (decide (RR y))):=BPure.flat λH=>kF (by
 unfold gU;unfold RR
 by_cases c1:(97:Int)≤y.toNat
 ·by_cases c2:(y.toNat:Int)≤122
  ·simp[c1,c2]
  ·have e1:¬(y.toNat:Int)≤57:=by omega
   have e2:¬(y.toNat:Int)=46:=by omega
   have e3:¬(y.toNat:Int)=95:=by omega
   have e4:¬(y.toNat:Int)=45:=by omega
   simp[c1,c2,e1,e2,e3,e4,show(48:Int)≤y.toNat by omega]
 ·by_cases c2:(48:Int)≤y.toNat
  ·by_cases c3:(y.toNat:Int)≤57
   ·simp[c1,c2,c3]
   ·by_cases c4:(y.toNat:Int)=95
    ·simp[c4]
    ·have e2:¬(y.toNat:Int)=46:=by omega
     have e4:¬(y.toNat:Int)=45:=by omega
     simp[c1,c2,c3,c4,e2,e4]
  ·by_cases c4:(y.toNat:Int)=46
   ·simp[c4]
   ·by_cases c5:(y.toNat:Int)=95
    ·simp[c5]
    ·by_cases c6:(y.toNat:Int)=45
     ·simp[c6]
     ·simp[c1,c2,c4,c5,c6])
theorem zdqeZ {y:UInt8}{k:UInt8}{n:Int}(h:(k.toNat:Int)=n):((y.toNat:Int)=n)=(y=k):=by
 refine propext ⟨λe=>UInt8.toNat_inj.1 (by omega),λe=>by rw[e];exact h⟩
theorem Qn {s:List UInt8}(hs:s.length≤9223372036854775807):BPure prog 102 [S (B9 s)] (B (decide (DE s))):=BPure.flat λH=>Yv (by
 unfold VC;rw[aT,Nh,gF hs]
 have hl:∀t:List UInt8,t=s→0<t.length→t.length≤20→t[0]?≠some 45→Lz (S (B9 t)) (I t.length) (I 0) H λr H'=>r=B (decide (DE t))∧H'=H:=by
  intro t _ h0 h20 h45;refine SP (λn x0 x17 x18 H'=>∃k:Nat,k+n=t.length∧x0=S (B9 t)∧x17=I t.length∧x18=I k∧H'=H∧∀m y,m<k→t[m]?=some y→RR y) ?_ t.length ⟨0,by omega,rfl,rfl,rfl,rfl,by omega⟩;rintro n x0 x17 x18 H' R hR ⟨k,hk,rfl,rfl,rfl,rfl,hb⟩;unfold NK;rcases Ai0 k t.length with h | h
  ·have hx:=DD h
   generalize t[k]=y at hx;simp[h,Yb rfl hx];refine Ay (zdnxZ y) ?_
   by_cases hy:RR y
   ·simp[hy,Au (a:=k) (b:=1) (by omega) (by omega)]
    refine hR (n - 1) _ _ _ _ (by omega) ⟨k+1,by omega,rfl,rfl,by simp,rfl,?_⟩;intro m z hm hz
    by_cases c:m=k
    ·rw[c,hx]at hz;injection hz with hz;rw[← hz];exact hy
    ·exact hb m z (by omega) hz
   ·have:¬DE t:=λhm=>hy (hm.2.2.2 y (Ah7 hx))
    simp[hy,this]
  ·have:DE t:=⟨λe=>by rw[e]at h0;simp at h0,h20,h45,λb hb'=>by
    obtain⟨m,hm⟩:=Aj2.1 hb'
    have:=(BE.1 hm).1
    exact hb m b (by omega) hm⟩
   simp[show ¬k<t.length by omega,this]
 by_cases h0:s=[]
 ·subst h0
  simp[DE]
 ·have hlen:0<s.length:=List.length_pos_iff.2 h0
  by_cases h1:s.length≤20
  ·have hx:=DD hlen
   have e20:¬(20:Int)<s.length:=by omega
   generalize s[0]=y at hx;simp[h0,Nz,e20,Yb (k:=0) (i:=0) rfl hx];have e45:((y.toNat:Int)=45)=(y=45):=zdqeZ rfl
   by_cases h2:(y.toNat:Int)=45
   ·have:¬DE s:=λhm=>hm.2.2.1 (by rw[hx,e45.mp h2])
    simp[h2,this]
   ·simp[h2]
    exact hl s rfl hlen h1 (by rw[hx];intro e;injection e with e;exact h2 (e45.mpr e))
  ·have e20:(20:Int)<s.length:=by omega
   have:¬DE s:=λhm=>h1 hm.2.1
   simp[h0,Nz,e20,this])
theorem uZ (a b:List UInt8):BPure prog 151 [S (B9 a),S (B9 b)] (I (Bk a b)):=BPure.flat λH=>W0 (by
 unfold SH;exact Ay (λH=>by have:=compareString_calls (B9 a) (B9 b) H;exact this) ⟨rfl,rfl⟩)
theorem oF (x:Nm)(s:List UInt8):BPure prog 150 [.agg (Cb x),S (B9 s)] (I (Bk x.name s)):=BPure.val (by simp[A5,noIds,Uh]) rfl (Yw (by
 unfold VF;unfold Cb;simp;refine Ay (uZ x.name s) ?_
 rfl))
theorem tW (x:NdV)(no:Int):BPure prog 135 [.agg (Cw x),I no] (I (BP x.nd.ino no)):=BPure.val (by simp[A5,noIds,Pz]) rfl (ZF (by
 unfold Xh;unfold Cw;have h1:=SV.oneA x.h;simp[h1];refine Ay (Vs x.nd.ino no) ?_
 rfl))
theorem oW (x:Nm)(t:List AV):Ax true 2 (Cb x++t) 0=some (.agg (Cb x)):=by
 simp[Ax,Cb]
theorem uN (x:NdV)(t:List AV):Ax true 3 (Cw x++t) 0=some (.agg (Cw x)):=by
 simp[Ax,Cw]
theorem zdibZ:BW prog 150=true:=by kernel_rfl
theorem zdlgZ {l:List Nm}{v:AV}(hv:SV Cb 2 l v)(hs:Cx Bk Nm.name l)(hl:l.length≤281474976710656)(no:List UInt8):
  BPure prog 149 [v,S (B9 no),.fn (.func 150) [] []] (.tup [I (Dr Bk Nm.name l no),B (decide (Be Nm.name l no))]):=BPure.val (by simp[A5,noIds,hv.1]) rfl (Eu (by
 unfold CA;simp[hv.len];refine DM (λn x0 x1 x2 x8 x9 x10 H'=>∃i j:Nat,i+n=j∧j≤l.length∧x0=v∧x1=S (B9 no)∧x2=.fn (.func 150) [] []∧x8=I l.length∧x9=I i∧x10=I j∧H'=[]∧(∀m x,m<i→l[m]?=some x→Bk (Nm.name x) no<0)∧(∀m x,j≤m→l[m]?=some x→¬Bk (Nm.name x) no<0)) ?_ l.length ⟨0,l.length,by simp,by omega,rfl,rfl,rfl,rfl,rfl,rfl,rfl,by simp,λm x hm hx=>by have:=(BE.1 hx).1;omega⟩;rintro n x0 x1 x2 x8 x9 x10 H' R hR ⟨i,j,hij,hj,rfl,rfl,rfl,rfl,rfl,rfl,rfl,h1,h2⟩;unfold Ck;rcases Ai0 i j with hlt | hge
 ·have hx:=DD (l:=l) (i:=(i+j)/2) (by omega)
  generalize l[(i + j) / 2]'(by omega)=y at hx;simp [hlt,Au (a:=i) (b:=j) (by omega) (by omega),jD (n:=(i : Int) + j) (by omega) (by omega),aJ,ZR (a:=((i : Int) + j) / 2) (by omega) (by omega),hv.idx BT hx (i:=((i : Int) + j) / 2) (by omega),zdibZ,oW];refine bC_of (oF y no []) ?_
  by_cases c1:Bk (Nm.name y) no<0
  ·simp[c1,Au (a:=((i:Int)+j)/2) (b:=1) (by omega) (by omega)]
   refine hR (j - ((i+j)/2+1)) _ _ _ _ _ _ _ (by omega) ⟨(i+j)/2+1,j,by omega,hj,rfl,rfl,rfl,rfl,by simp,rfl,rfl,?_,h2⟩;intro m x hm hmx
   by_cases hm2:m=(i+j)/2
   ·rw[hm2,hx]at hmx;injection hmx with e;rw[← e];exact c1
   ·exact koN.trans _ _ _ (M0 hs hmx hx (by omega)) c1
  ·simp[c1]
   refine hR ((i+j)/2 - i) _ _ _ _ _ _ _ (by omega) ⟨i,(i+j)/2,by omega,by omega,rfl,rfl,rfl,rfl,rfl,by simp,rfl,h1,?_⟩;intro m x hm hmx
   by_cases hm2:m=(i+j)/2
   ·rw[hm2,hx]at hmx;injection hmx with e;rw[← e];exact c1
   ·intro c2
    exact c1 (koN.trans _ _ _ (M0 hs hx hmx (by omega)) c2)
 ·have hi:i=j:=by omega
  subst hi;have hp:Dr Bk Nm.name l no=i:=P0 (by omega) h1 (λx hx=>h2 i x (by omega) hx);rcases Ai0 i l.length with hil | hil
  ·have hx:=DD (l:=l) (i:=i) hil
   generalize l[i]=y at hx
   have hh:Be Nm.name l no↔Bk (Nm.name y) no=0:=by
    rw[NJ koN hs,hp,koN.eq]
    constructor
    ·rintro⟨z,hz,e⟩
     rw[hx]at hz;injection hz with hz;rw[hz,e]
    ·intro e
     exact⟨y,hx,e⟩
   simp[hil,hv.idx BT hx rfl,zdibZ,oW];refine bC_of (oF y no []) ?_;simp[hp,hh]
  ·have hn:¬Be Nm.name l no:=by
    rw[NJ koN hs,hp];rintro⟨z,hz,e⟩
    have:=(BE.1 hz).1
    omega
   simp[show ¬i<l.length by omega,hp,hn]))
theorem zdiaZ:BW prog 135=true:=by kernel_rfl
theorem zdlfZ {l:List NdV}{v:AV}(hv:SV Cw 3 l v)(hs:Cx BP NdV.ino l)(hl:l.length≤281474976710656)(no:Int):
  BPure prog 134 [v,I no,.fn (.func 135) [] []] (.tup [I (Dr BP NdV.ino l no),B (decide (Be NdV.ino l no))]):=BPure.val (by simp[A5,noIds,hv.1]) rfl (EB (by
 unfold CV;simp[hv.len];refine Eg (λn x0 x1 x2 x8 x9 x10 H'=>∃i j:Nat,i+n=j∧j≤l.length∧x0=v∧x1=I no∧x2=.fn (.func 135) [] []∧x8=I l.length∧x9=I i∧x10=I j∧H'=[]∧(∀m x,m<i→l[m]?=some x→BP (NdV.ino x) no<0)∧(∀m x,j≤m→l[m]?=some x→¬BP (NdV.ino x) no<0)) ?_ l.length ⟨0,l.length,by simp,by omega,rfl,rfl,rfl,rfl,rfl,rfl,rfl,by simp,λm x hm hx=>by have:=(BE.1 hx).1;omega⟩;rintro n x0 x1 x2 x8 x9 x10 H' R hR ⟨i,j,hij,hj,rfl,rfl,rfl,rfl,rfl,rfl,rfl,h1,h2⟩;unfold Cz;rcases Ai0 i j with hlt | hge
 ·have hx:=DD (l:=l) (i:=(i+j)/2) (by omega)
  generalize l[(i + j) / 2]'(by omega)=y at hx;simp [hlt,Au (a:=i) (b:=j) (by omega) (by omega),jD (n:=(i : Int) + j) (by omega) (by omega),aJ,ZR (a:=((i : Int) + j) / 2) (by omega) (by omega),hv.idx BL hx (i:=((i : Int) + j) / 2) (by omega),zdiaZ,uN];refine bC_of (tW y no []) ?_
  by_cases c1:BP (NdV.ino y) no<0
  ·simp[c1,Au (a:=((i:Int)+j)/2) (b:=1) (by omega) (by omega)]
   refine hR (j - ((i+j)/2+1)) _ _ _ _ _ _ _ (by omega) ⟨(i+j)/2+1,j,by omega,hj,rfl,rfl,rfl,rfl,by simp,rfl,rfl,?_,h2⟩;intro m x hm hmx
   by_cases hm2:m=(i+j)/2
   ·rw[hm2,hx]at hmx;injection hmx with e;rw[← e];exact c1
   ·exact koI.trans _ _ _ (M0 hs hmx hx (by omega)) c1
  ·simp[c1]
   refine hR ((i+j)/2 - i) _ _ _ _ _ _ _ (by omega) ⟨i,(i+j)/2,by omega,by omega,rfl,rfl,rfl,rfl,rfl,by simp,rfl,h1,?_⟩;intro m x hm hmx
   by_cases hm2:m=(i+j)/2
   ·rw[hm2,hx]at hmx;injection hmx with e;rw[← e];exact c1
   ·intro c2
    exact c1 (koI.trans _ _ _ (M0 hs hx hmx (by omega)) c2)
 ·have hi:i=j:=by omega
  subst hi;have hp:Dr BP NdV.ino l no=i:=P0 (by omega) h1 (λx hx=>h2 i x (by omega) hx);rcases Ai0 i l.length with hil | hil
  ·have hx:=DD (l:=l) (i:=i) hil
   generalize l[i]=y at hx
   have hh:Be NdV.ino l no↔BP (NdV.ino y) no=0:=by
    rw[NJ koI hs,hp,koI.eq]
    constructor
    ·rintro⟨z,hz,e⟩
     rw[hx]at hz;injection hz with hz;rw[hz,e]
    ·intro e
     exact⟨y,hx,e⟩
   simp[hil,hv.idx BL hx rfl,zdiaZ,uN];refine bC_of (tW y no []) ?_;simp[hp,hh]
  ·have hn:¬Be NdV.ino l no:=by
    rw[NJ koI hs,hp];rintro⟨z,hz,e⟩
    have:=(BE.1 hz).1
    omega
   simp[show ¬i<l.length by omega,hp,hn]))
def WK (ps:List (Int×AV)):List (Value×AV):=ps.map λp=>(.int .i64 p.1,p.2)
def Wl (z:AV)(ps:List (Int×AV))(k:Int):AV:=match ps.find? (λp=>p.1==k)with
 | some p=>p.2
 | none=>z
theorem zdeqZ (a b:Int):Instr.sameNow (.int .i64) (.int .i64 a) (.int .i64 b)=some (a==b):=rfl
theorem Yo (k:Int):∀(ps:List (Int×AV)) (i:Nat),Q8 (.int .i64) (.int .i64 k) (WK ps) i=some ((ps.findIdx? (λp=>p.1==k)).bind λj=>(ps[j]?).map λp=>(i+j,p.2))
 | [],i=>rfl
 | p::ps,i=>by
  show(match Instr.sameNow (.int .i64) (.int .i64 k) (.int .i64 p.1)with
   | some true=>some (some (i,p.2))
   | some false=>Q8 (.int .i64) (.int .i64 k) (WK ps) (i+1)
   | none=>none)=_
  rw[zdeqZ,List.findIdx?_cons]
  by_cases h:p.1=k
  ·have h':(k==p.1)=true:=by simp[h]
   have h2:(p.1==k)=true:=by simp[h]
   simp[h',h2]
  ·have h':(k==p.1)=false:=by simp;omega
   have h2:(p.1==k)=false:=by simp[h]
   simp only[h',h2];rw[Yo k ps (i+1)];cases ps.findIdx? (λp=>p.1==k)with
   | none=>rfl
   | some j=>
    simp;cases ps[j]? with
    | none=>rfl
    | some q=>simp;omega
abbrev Ar0:=@List.find?_eq_none
abbrev Am9:=@List.findIdx?_eq_none_iff
theorem wL {z:AV}{ps:List (Int×AV)}{k:Int}(h:ps.findIdx? (λp=>p.1==k)=none):Wl z ps k=z:=by
 have:ps.find? (λp=>p.1==k)=none:=by
  rw[Ar0];intro x hx;rw[Am9]at h
  simpa using h x hx
 unfold Wl;rw[this]
abbrev An0:=@List.findIdx?_eq_some_iff_getElem
theorem gY {z:AV}{ps:List (Int×AV)}{k:Int}{j:Nat}(h:ps.findIdx? (λp=>p.1==k)=some j):∃p,ps[j]?=some p∧p.1=k∧Wl z ps k=p.2:=by
 obtain⟨h1,h2,h3⟩:=An0.1 h;refine⟨ps[j],DD h1,by simpa using h2,?_⟩
 have:ps.find? (λp=>p.1==k)=some ps[j]:=by
  rw[List.find?_eq_some_iff_getElem];exact⟨h2,j,h1,rfl,λi hi=>by simpa using h3 i hi⟩
 unfold Wl;rw[this]
theorem jH {H:AH}{o:Nat}{zv:Value}{ps:List (Int×AV)}{k:Int}(h:H[o]?=some (some (.map (WK ps)))):lW (.int .i64) zv H (.mp o) (.lit (.int .i64 k)) false=some (Wl (.ofV zv) ps k):=by
 have hk:fO (.int .i64) (.int .i64 k)=true:=rfl;unfold lW WL;simp only[h,hk,if_true,Yo];cases hf:ps.findIdx? (λp=>p.1==k)with
 | none=>rw[wL hf];rfl
 | some j=>
  obtain⟨p,h1,h2,h3⟩:=gY (z:=.ofV zv) hf;simp[h1,h3]
def rW (ps:List (Int×AV))(k:Int)(v:AV):List (Int×AV):=match ps.findIdx? (λp=>p.1==k)with
 | some j=>ps.set j (k,v)
 | none=>ps++[(k,v)]
theorem sZ {H:AH}{o:Nat}{ps:List (Int×AV)}{k:Int}{v:AV}(h:H[o]?=some (some (.map (WK ps)))):zdfgZ (.int .i64) H (.mp o) (.lit (.int .i64 k)) v=some (H.set o (some (.map (WK (rW ps k v))))):=by
 have hk:fO (.int .i64) (.int .i64 k)=true:=rfl;unfold zdfgZ rW;simp only[h,hk,if_true,Yo];cases hf:ps.findIdx? (λp=>p.1==k)with
 | none=>simp[WK]
 | some j=>
  obtain⟨p,h1,h2,h3⟩:=gY (z:=.junk) hf;simp[h1,WK,As6]
abbrev Ap7:=@List.find?_cons_of_neg
abbrev At2:=@List.find?_cons_of_pos
theorem xC {z:AV}{ps:List (Int×AV)}{k:Int}{v:AV}(k2:Int):Wl z (rW ps k v) k2=if k2=k then v else Wl z ps k2:=by
 unfold rW;cases hf:ps.findIdx? (λp=>p.1==k)with
 | none=>
  rw[Am9]at hf;unfold Wl;simp only[List.find?_append]
  by_cases h:k2=k
  ·subst h
   rw[if_pos rfl]
   have:ps.find? (λp=>p.1==k2)=none:=by
    rw[Ar0];intro x hx;simpa using hf x hx
   rw[this];simp
  ·rw[if_neg h]
   cases ps.find? (λp=>p.1==k2)with
   | none=>simp[show ¬k=k2 by omega]
   | some q=>rfl
 | some j=>
  obtain⟨h1,h2,h3⟩:=An0.1 hf;have hkj:ps[j].1=k:=by simpa using h2
  clear hf
  induction ps generalizing j with
  | nil=>simp at h1
  | cons p ps ih=>
   cases j with
   | zero=>
    simp at hkj;simp only[Aq8];unfold Wl
    by_cases h:k2=k
    ·subst h;simp
    ·rw[if_neg h,Ap7 (by simp;omega),Ap7 (by simp;omega)]
   | succ j=>
    simp only[Aq9];have hp:p.1≠k:=by have:=h3 0 (by omega);simpa using this
    have ih:=ih j (by simpa using h1) (by simpa using h2) (λi hi=>by have:=h3 (i+1) (by omega);simpa using this) (by simpa using hkj);unfold Wl at ih⊢
    by_cases h:p.1=k2
    ·have:k2≠k:=by omega
     rw[if_neg this,At2 (by simp[h]),At2 (by simp[h])]
    ·rw[Ap7 (by simp[h]),Ap7 (by simp[h])]
     exact ih
def Si (size pos:Int):List Ext→Option Int
 | []=>none
 | x::r=>if max pos (x.no*8)<min size ((x.no+1)*8)then some (max pos (x.no*8))else Si size pos r
def Qu (size:Int)(l:List Ext)(pos:Int):Option Int:=if Dh size l∧0≤pos then Si size pos l else none
theorem aY {size pos:Int}{x:Ext}{r:List Ext}:Si size pos (x::r)=if max pos (x.no*8)<min size ((x.no+1)*8)then some (max pos (x.no*8))else Si size pos r:=rfl
theorem eY {size:Int}{l:List Ext}{v:AV}(hv:SV AB 9 l v)(hl:l.length≤281474976710656)(pos:Int):
  BPure prog 129 [.agg [I size,v],I pos] (oI (Qu size l pos)):=BPure.val (by simp[A5,noIds,hv.1]) (by cases Qu size l pos<;>rfl) (bW (by
 unfold YZ;simp[Cn hv,Ax];refine Ay (EM hv hl) ?_
 by_cases h1:Dh size l
 ·by_cases h2:pos<0
  ·have:¬(Dh size l∧0≤pos):=λh=>by omega
   simp[h1,h2,Qu,oI,show ¬(0:Int)≤pos by omega]
  ·have e:Qu size l pos=Si size pos l:=if_pos ⟨h1,by omega⟩
   simp[h1,h2,hv.len,e];refine US (λn x1 x2 x17 x18 x19 H'=>∃(k:Nat),k+n=l.length∧x1=I pos∧x2=.ptr 0 0∧x17=v∧x18=I l.length∧x19=I k∧(∃X,H'=some (.cells [I size,v])::X)∧Si size pos l=Si size pos (l.drop k)) ?_ l.length ⟨0,by simp,rfl,rfl,rfl,rfl,rfl,⟨[],rfl⟩,by simp⟩;rintro n x1 x2 x17 x18 x19 H' R hR ⟨k,hk,rfl,rfl,rfl,rfl,rfl,⟨X,rfl⟩,hm⟩;unfold Q2;rcases Ai0 k l.length with hlt | hge
   ·have hx:=DD hlt
    generalize l[k]=y at hx;rw[Dy hx,aY]at hm;have hy:=LI h1.2.2 y (Ah7 hx);simp[hlt,hv.idx AE hx rfl,-CF];rw[← An9,gI (by simp) (by rfl)];simp[D4 (a:=y.no) (b:=8) (by omega) (by omega),Au (a:=y.no) (b:=1) (by omega) (by omega),D4 (a:=y.no+1) (b:=8) (by omega) (by omega)];have c:(max pos (y.no*8)<min size ((y.no+1)*8))↔(max (y.no*8) pos<min ((y.no+1)*8) size):=by omega
    by_cases c1:max (y.no*8) pos<min ((y.no+1)*8) size
    ·rw[if_pos (c.2 c1)]at hm
     simp[hm,c1,oI];omega
    ·rw[if_neg (λh=>c1 (c.1 h))]at hm
     simp[c1,Au (a:=k) (b:=1) (by omega) (by omega)];exact hR (n - 1) _ _ _ _ _ _ (by omega) ⟨k+1,by omega,rfl,rfl,rfl,rfl,rfl,⟨X++[some (.cells (AB y))],rfl⟩,hm⟩
   ·have:k=l.length:=by omega
    subst this;rw[Ap5]at hm;simp[hm,Si,oI]
 ·simp[h1,Qu,oI]))
theorem X7 {size:Int}{l:List Ext}{v:AV}(hv:SV AB 9 l v)(hl:l.length≤281474976710656)(pos:Int):
  BPure prog 130 [.agg [I size,v],I pos] (oI (Qu size l pos)):=BPure.val (by simp[A5,noIds,hv.1]) (by cases Qu size l pos<;>rfl) (Oz (by
 unfold J3;simp[Cn hv,Ax];refine Ay (CD hv hl) ?_
 by_cases h1:Dh size l
 ·by_cases h2:pos<0
  ·simp[h1,h2,Qu,oI,show ¬(0:Int)≤pos by omega]
  ·have e:Qu size l pos=Si size pos l:=if_pos ⟨h1,by omega⟩
   simp[h1,h2,e];refine KF (λn x1 x2 x6 H'=>∃(k:Nat),k+n=l.length∧x1=I pos∧x2=.ptr 0 0∧x6=I k∧H'=[some (.cells [I size,v])]∧Si size pos l=Si size pos (l.drop k)) ?_ l.length ⟨0,by simp,rfl,rfl,rfl,rfl,by simp⟩;rintro n x1 x2 x6 H' R hR ⟨k,hk,rfl,rfl,rfl,rfl,hm⟩;unfold Gg;rcases Ai0 k l.length with hlt | hge
   ·have hx:=DD hlt
    generalize l[k]=y at hx;rw[Dy hx,aY]at hm;have hy:=LI h1.2.2 y (Ah7 hx);simp[hlt,hv.len,hv.idx AE hx rfl,D4 (a:=y.no) (b:=8) (by omega) (by omega),Au (a:=y.no) (b:=1) (by omega) (by omega),D4 (a:=y.no+1) (b:=8) (by omega) (by omega)]
    have nxt:¬max pos (y.no*8)<min size ((y.no+1)*8)→(bO (Ar .add (I k) (I 1)) λv30=>R [I pos,.ptr 0 0,v30] [some (.cells [I size,v])]):=by
     intro hc;rw[if_neg hc]at hm;simp[Au (a:=k) (b:=1) (by omega) (by omega)];exact hR (n - 1) _ _ _ _ (by omega) ⟨k+1,by omega,rfl,rfl,rfl,rfl,hm⟩
    by_cases c1:max pos (y.no*8)<(y.no+1)*8
    ·by_cases c2:max pos (y.no*8)<size
     ·rw[if_pos (by omega)]at hm
      simp[c1,c2,hm,oI]
     ·simp[c1,c2]
      exact nxt (by omega)
    ·simp[c1]
     exact nxt (by omega)
   ·have:k=l.length:=by omega
    subst this;rw[Ap5]at hm;simp[hm,hv.len,Si,oI]
 ·simp[h1,Qu,oI]))
def holeR (size:Int)(l:List Ext)(pos h:Int):Prop:=pos≤h∧h≤size∧(∀p,pos≤p→p<h→BG l (p/8))∧(h=size∨¬BG l (h/8))
theorem holeR.uniq {size:Int}{l:List Ext}{pos h1 h2:Int}(a:holeR size l pos h1)(b:holeR size l pos h2):h1=h2:=by
 rcases Int.lt_trichotomy h1 h2 with h | h | h
 ·rcases a.2.2.2 with e | e
  ·have:=b.2.1;omega
  ·exact(e (b.2.2.1 h1 a.1 h)).elim
 ·exact h
 ·rcases b.2.2.2 with e | e
  ·have:=a.2.1;omega
  ·exact(e (a.2.2.1 h2 b.1 h)).elim
theorem tM {size:Int}{l:List Ext}:∀(n:Nat) (pos:Int),size - pos=n→∃h,holeR size l pos h:=by
 intro n
 induction n using Nat.strongRecOn with
 | ind n ih=>
  intro pos hn
  by_cases h0:pos=size
  ·exact⟨size,by omega,by omega,λp h1 h2=>by omega,.inl rfl⟩
  ·by_cases h1:BG l (pos/8)
   ·obtain⟨h,a1,a2,a3,a4⟩:=ih (size - min size ((pos/8+1)*8)).toNat (by omega) (min size ((pos/8+1)*8)) (by omega)
    refine⟨h,by omega,a2,λp h2 h3=>?_,a4⟩
    by_cases h4:p<min size ((pos/8+1)*8)
    ·rw[show p/8=pos/8 by omega];exact h1
    ·exact a3 p (by omega) h3
   ·exact⟨pos,by omega,by omega,λp h2 h3=>by omega,.inr h1⟩
open Classical in
noncomputable def WX (size:Int)(l:List Ext)(pos:Int):Option Int:=if h:Dh size l∧0≤pos∧pos<size then some (tM (size:=size) (l:=l) (size - pos).toNat pos (by omega)).choose else none
theorem cQ {size:Int}{l:List Ext}{pos:Int}(h:¬(Dh size l∧0≤pos∧pos<size)):WX size l pos=none:=dif_neg h
theorem cR {size:Int}{l:List Ext}{pos:Int}(h:Dh size l∧0≤pos∧pos<size):∃p,WX size l pos=some p∧holeR size l pos p:=
 ⟨_,dif_pos h,(tM (size:=size) (l:=l) (size - pos).toNat pos (by omega)).choose_spec⟩
theorem eZ {size:Int}{l:List Ext}{v:AV}(hv:SV AB 9 l v)(hl:l.length≤281474976710656)(pos:Int):
  BPure prog 131 [.agg [I size,v],I pos] (oI (WX size l pos)):=BPure.val (by simp[A5,noIds,hv.1]) (by cases WX size l pos<;>rfl) (bY (by
 unfold Zb;simp[Cn hv,Ax];refine Ay (EM hv hl) ?_
 by_cases h0:Dh size l∧0≤pos∧pos<size
 ·obtain⟨q,e,hq⟩:=cR h0
  obtain⟨h1,h2,h3⟩:=h0;have hs:=Jk h1.2.2;have hsz:=h1.2.1;simp[h1,show ¬pos<0 by omega,show ¬size≤pos by omega,e,oI];refine UT (λn x2 x6 H'=>∃p:Int,(size+8 - p).toNat=n∧x2=.ptr 0 0∧x6=I p∧H'=[some (.cells [I size,v])]∧pos≤p∧p≤size+7∧∀r,pos≤r→r<p→r<size→BG l (r/8)) ?_ (size+8 - pos).toNat ⟨pos,rfl,rfl,rfl,rfl,by omega,by omega,λr a b c=>by omega⟩;rintro n x2 x6 H' R hR ⟨p,hn,rfl,rfl,rfl,hp1,hp2,hp⟩;unfold Q3
  by_cases c1:p<size
  ·simp[c1,JS (a:=p) (b:=8) (by omega) (by omega)]
   refine Ay (TQ hv hs hl (p/8)) ?_
   by_cases c2:BG l (p/8)
   ·simp[c2,Au (a:=p/8) (b:=1) (by omega) (by omega),D4 (a:=p/8+1) (b:=8) (by omega) (by omega)]
    refine hR (size+8 - (p/8+1)*8).toNat _ _ _ (by omega) ⟨(p/8+1)*8,rfl,rfl,rfl,rfl,by omega,by omega,λr a b c=>?_⟩
    by_cases c3:r<p
    ·exact hp r a c3 c
    ·rw[show r/8=p/8 by omega];exact c2
   ·simp[c2]
    exact holeR.uniq ⟨hp1,by omega,λr a b=>hp r a b (by omega),.inr c2⟩ hq
  ·simp[c1]
   exact holeR.uniq ⟨by omega,by omega,λr a b=>hp r a (by omega) b,.inl rfl⟩ hq
 ·rw[cQ h0]
  by_cases h1:Dh size l
  ·by_cases h2:pos<0
   ·simp[h1,h2,oI]
   ·have h3:size≤pos:=by
     rcases Int.lt_or_le pos size with h | h
     ·exact(h0 ⟨h1,by omega,h⟩).elim
     ·exact h
    simp[h1,h2,h3,oI]
  ·simp[h1,oI]))
theorem X8 {size:Int}{l:List Ext}{v:AV}(hv:SV AB 9 l v)(hl:l.length≤281474976710656)(pos:Int):
  BPure prog 132 [.agg [I size,v],I pos] (oI (WX size l pos)):=BPure.val (by simp[A5,noIds,hv.1]) (by cases WX size l pos<;>rfl) (O1 (by
 unfold J4;simp[Cn hv,Ax];refine Ay (CD hv hl) ?_
 by_cases h0:Dh size l∧0≤pos∧pos<size
 ·obtain⟨q,e,hq⟩:=cR h0
  obtain⟨h1,h2,h3⟩:=h0;have hs:=Jk h1.2.2;have hsz:=h1.2.1;simp[h1,show ¬pos<0 by omega,show ¬size≤pos by omega,e,oI];refine KG (λn x1 x2 H'=>∃p:Int,(1099511627784 - p).toNat=n∧x2=.ptr 0 0∧x1=I p∧H'=[some (.cells [I size,v])]∧pos≤p∧p≤1099511627776∧∀r,pos≤r→r<p→BG l (r/8)) ?_ (1099511627784 - pos).toNat ⟨pos,rfl,rfl,rfl,rfl,by omega,by omega,λr a b=>by omega⟩;rintro n x1 x2 H' R hR ⟨p,hn,rfl,rfl,rfl,hp1,hp2,hp⟩;unfold Gh;simp[Ax,JS (a:=p) (b:=8) (by omega) (by omega)];refine Ay (Wq hv hs hl (p/8)) ?_
  by_cases c2:BG l (p/8)
  ·obtain⟨x,hx,hxe⟩:=c2
   have hxb:=LI h1.2.2 x hx;have c2:BG l (p/8):=⟨x,hx,hxe⟩;simp[c2,Au (a:=p/8) (b:=1) (by omega) (by omega),D4 (a:=p/8+1) (b:=8) (by omega) (by omega)];refine hR (1099511627784 - (p/8+1)*8).toNat _ _ _ (by omega) ⟨(p/8+1)*8,rfl,rfl,rfl,rfl,by omega,by omega,λr a b=>?_⟩
   by_cases c3:r<p
   ·exact hp r a c3
   ·rw[show r/8=p/8 by omega];exact c2
  ·simp[c2]
   by_cases c4:p<size
   ·rw[show min size p=p by omega]
    exact holeR.uniq ⟨hp1,by omega,λr a b=>hp r a b,.inr c2⟩ hq
   ·rw[show min size p=size by omega]
    exact holeR.uniq ⟨by omega,by omega,λr a b=>hp r a (by omega),.inl rfl⟩ hq
 ·rw[cQ h0]
  by_cases h1:Dh size l
  ·by_cases h2:pos<0
   ·simp[h1,h2,oI]
   ·have h3:size≤pos:=by
     rcases Int.lt_or_le pos size with h | h
     ·exact(h0 ⟨h1,by omega,h⟩).elim
     ·exact h
    simp[h1,h2,h3,oI]
  ·simp[h1,oI]))
def PK (l:List Ext)(p:Int):UInt8:=match l.find? λx=>decide (x.no=p/8)with
 | some x=>x.b.getD (p % 8).toNat 0
 | none=>0
theorem Gb {l:List Ext}{p:Int}(h:¬BG l (p/8)):PK l p=0:=by
 have:l.find? (λx=>decide (x.no=p/8))=none:=by
  rw[Ar0];intro x hx he;exact h ⟨x,hx,by simpa using he⟩
 unfold PK;rw[this]
theorem W9 {l:List Ext}(hs:srt l){p:Int}{k:Nat}{x:Ext}(hx:l[k]?=some x)(he:x.no=p/8):PK l p=x.b.getD (p % 8).toNat 0:=by
 have:l.find? (λx=>decide (x.no=p/8))=some x:=by
  rw[List.find?_eq_some_iff_getElem];obtain⟨h1,h2⟩:=BE.1 hx;refine⟨by simp[he],k,h1,h2,?_⟩;intro j hj
  have:=PC hs (DD (Nat.lt_trans hj h1)) hx hj
  simp;omega
 unfold PK;rw[this]
def zdkbZ (size:Int)(l:List Ext)(pos n:Int):Prop:=Dh size l∧0≤pos∧0≤n∧n≤4096∧pos<size
instance (size:Int) (l:List Ext) (pos n:Int):Decidable (zdkbZ size l pos n):=by unfold zdkbZ;infer_instance
def CR (l:List Ext)(pos:Int)(k:Nat):List UInt8:=(List.range k).map fun (i:Nat)=>PK l (pos+(i:Int))
theorem EZ (l:List Ext)(pos:Int)(k:Nat):(CR l pos k).length=k:=by simp[CR]
theorem mY (l:List Ext)(pos:Int)(k:Nat):CR l pos (k+1)=CR l pos k++[PK l (pos+k)]:=by simp[CR,List.range_succ]
def Kh (size:Int)(l:List Ext)(pos n:Int):List UInt8:=if zdkbZ size l pos n then CR l pos (min n (size - pos)).toNat else []
theorem zdehZ {size:Int}{l:List Ext}{v:AV}(hv:SV AB 9 l v)(hs:srt l)(hl:l.length≤281474976710656)(pos:Int)(h0:0≤pos)(h1:pos≤9223372036854775807):
  BPure prog 123 [.agg [I size,v],I pos] (.lit (.int .u8 (PK l pos).toNat)):=BPure.val (by simp[A5,noIds,hv.1]) rfl (XI (by
 unfold Uu;simp[Cn hv,Ax,JS (a:=pos) (b:=8) (by omega) (by omega)];refine Ay (Wq hv hs hl (pos/8)) ?_
 by_cases c:BG l (pos/8)
 ·obtain⟨x,hx,he⟩:=(TU hs).1 c
  have hb:=x.hb;have hr:(pos % 8)=((pos % 8).toNat:Int):=by omega
  have hy:=DD (l:=x.b) (i:=(pos % 8).toNat) (by omega);generalize hu : x.b[(pos % 8).toNat]'(by omega)=u at hy;obtain ⟨q,e1,e2⟩:=yN (t:=(l.drop (posL l (pos / 8) + 1)).flatMap AB) (H:=[some (.cells [I size,v])]) hy (by omega);have e0 : (AB x ++ (l.drop (posL l (pos / 8) + 1)).flatMap AB).drop 1=AY x.b ++ (l.drop (posL l (pos / 8) + 1)).flatMap AB:=rfl;rw [← hr] at e1;have hn : ¬ ((posL l (pos / 8) : Nat) : Int) < 0:=by omega
  simp[c,hn,hv.idx AE hx rfl,U3 (a:=pos) (b:=8) (by omega) (by omega),e0,e1,e2,W9 hs hx he,Ai9,hy]
 ·simp[c,Gb c]))
theorem X9 {size:Int}{l:List Ext}{v:AV}(hv:SV AB 9 l v)(hl:l.length≤281474976710656)(pos n:Int):
  ∃r,SV FB 1 (Kh size l pos n) r∧BPure prog 68 [.agg [I size,v],I pos,I n] r:=by
 unfold SV;simp only[Jv]
 have:∃r,(noIds r=true∧∀H,Ac H 1 r=some (AY (Kh size l pos n),(Kh size l pos n).length))∧BPure prog 68 [.agg [I size,v],I pos,I n] r:=by
  refine BPure.sl (sz:=1) (by simp[A5,noIds,hv.1]) (Jw _) (O2 ?_);unfold J7;simp[Cn hv,Ax];refine Ay (CD hv hl) ?_
  have nix:∀H,¬zdkbZ size l pos n→Ac H 1 Ad=some (AY (Kh size l pos n),(Kh size l pos n).length):=by
   intro H h;have:Kh size l pos n=[]:=if_neg h;rw[this];rfl
  by_cases h1:Dh size l
  ·by_cases h2:pos<0
   ·simp[h1,h2,nix _ (λh=>by have:=h.2.1;omega)]
   ·by_cases h3:n<0
    ·simp[h1,h2,h3,nix _ (λh=>by have:=h.2.2.1;omega)]
    ·by_cases h4:4096<n
     ·simp[h1,h2,h3,h4,nix _ (λh=>by have:=h.2.2.2.1;omega)]
     ·simp[h1,h2,h3,h4]
      have hs:=Jk h1.2.2;have hsz:=h1.2.1;have hsz0:=h1.1
      have hm:∃m:Nat,(m=min n (size - pos)∨(size≤pos∧m=0))∧Kh size l pos n=CR l pos m:=by
       by_cases h5:pos<size
       ·exact⟨(min n (size - pos)).toNat,.inl (by omega),if_pos ⟨h1,by omega,by omega,by omega,h5⟩⟩
       ·refine⟨0,.inr ⟨by omega,rfl⟩,(if_neg (λh=>h5 h.2.2.2.2)).trans rfl⟩
      obtain⟨m,hm,hr⟩:=hm;rw[hr,EZ];refine KK (λq x1 x2 x3 x7 x8 H'=>∃k:Nat,k+q=m∧x1=I pos∧x2=I n∧x3=.ptr 0 0∧x8=I k∧H'[0]?=some (some (.cells [I size,v]))∧AZ x7=true∧Ac H' 1 x7=some (AY (CR l pos k),k)∧0∉AM x7) ?_ m ⟨0,by omega,rfl,rfl,rfl,rfl,rfl,rfl,rfl,by simp[AM]⟩;rintro q x1 x2 x3 x7 x8 H R hR ⟨k,hk,rfl,rfl,rfl,rfl,hH,ho,hsl,hid⟩;unfold Gk
      by_cases hc:k<m
      ·have c1:(k:Int)<n:=by omega
       have c2:pos<size - k:=by omega
       simp[c1,hH,B2 (a:=size) (b:=k) (by omega) (by omega),c2,Ax,Au (a:=pos) (b:=k) (by omega) (by omega)];refine Ay (zdehZ hv hs hl (pos+k) (by omega) (by omega)) ?_;have hH0:=(BE.1 hH).1;have hs1:Ac (H++[some (.cells (AY [PK l (pos+k)]))]) 1 x7=some (AY (CR l pos k),k):=Ae hsl λi hi=>Ah6 (Az hsl i hi)
       obtain⟨r,H2,a1,a2,a3,a4,a5,a6⟩:=BX (bytes:=1) hs1 ho (A1 (v:=.sl H.length 0 1 1 (.ex 1)) (q:=(AY [PK l (pos+k)],1)) (by simp[Ac,AY])) (by omega);have e:AY [PK l (pos+k)]=[.lit (.int .u8 (PK l (pos+k)).toNat)]:=rfl;rw[e]at a1 a5
       have hH2:H2[0]?=some (some (.cells [I size,v])):=by
        rw[a5 0 (by simp) hid,Ah6 hH0];exact hH
       simp[a1,Au (a:=k) (b:=1) (by omega) (by omega)];refine hR (q - 1) _ _ _ _ _ _ (by omega) ⟨k+1,by omega,rfl,rfl,rfl,rfl,hH2,a2,?_,λhi=>(a6 0 hi).elim hid (by simp)⟩;rw[a3,mY,bM]
      ·have c1:¬((k:Int)<n∧pos<size - k):=by omega
       have hkm:k=m:=by omega
       subst hkm
       by_cases c2:(k:Int)<n
       ·have c3:¬pos<size - k:=λh=>c1 ⟨c2,h⟩
        simp[c2,hH,B2 (a:=size) (b:=k) (by omega) (by omega),c3,hsl]
       ·simp[c2,hsl]
  ·simp[h1,nix _ (λh=>h1 h.1)]
 exact this
abbrev At6:=@List.Pairwise.sublist
theorem zdeuZ {l:List Ext}(h:srt l)(k:Nat):srt (l.take k):=At6 (List.take_sublist k l) h
theorem WA {l:List Ext}(hs:srt l){k:Nat}{y:Ext}(hx:l[k]?=some y)(p:Int):PK (l.take (k+1)) p=if y.no=p/8 then y.b.getD (p % 8).toNat 0 else PK (l.take k) p:=by
 split
 ·rename_i h
  exact W9 (zdeuZ hs (k+1)) (k:=k) (by rw[Ai4,if_pos (by omega)];exact hx) h
 ·rename_i h
  unfold PK;rw[Al0,hx,List.find?_append];simp[h]
theorem FQ {l:List Ext}{pos:Int}{m i:Nat}:(CR l pos m)[i]?=if i<m then some (PK l (pos+i))else none:=by
 unfold CR;rw[Aj3]
 by_cases h:i<m
 ·simp[h]
 ·simp[h]
theorem xE {l:List Ext}(hs:srt l){k m:Nat}{y:Ext}(hx:l[k]?=some y){pos:Int}(h:¬max (y.no*8) pos<min (y.no*8+8) (pos+m)):CR (l.take (k+1)) pos m=CR (l.take k) pos m:=by
 refine Ak5 λi=>?_
 rw[FQ,FQ]
 split
 ·rw[WA hs hx,if_neg (by omega)]
 ·rfl
theorem xF {l:List Ext}(hs:srt l){k m:Nat}{y:Ext}(hx:l[k]?=some y){pos:Int}{off from' mlen:Nat}(h:max (y.no*8) pos<min (y.no*8+8) (pos+m))
  (h1:(off:Int)=max (y.no*8) pos - pos) (h2:(from':Int)=max (y.no*8) pos - y.no*8) (h3:(mlen:Int)=min (y.no*8+8) (pos+m) - max (y.no*8) pos):
  (CR (l.take k) pos m).take off++((y.b.drop from').take mlen)++(CR (l.take k) pos m).drop (off+mlen)=CR (l.take (k+1)) pos m:=by
 have hb:=y.hb;refine Ak5 λi=>?_
 have hl1:((CR (l.take k) pos m).take off).length=off:=by rw[Ah8,EZ];omega
 have hl2:((y.b.drop from').take mlen).length=mlen:=by rw[Ah8,Ai5];omega
 by_cases c1:i<off
 ·rw[Ai8,Ah6 (by omega),Ai4,if_pos c1,FQ,FQ]
  split
  ·rw[WA hs hx,if_neg (by omega)]
  ·rfl
 ·by_cases c2:i<off+mlen
  ·rw[Ah6 (by rw[Ai3];omega),Ai1 (by omega),hl1,Ai4,if_pos (by omega),Ai6,FQ,if_pos (by omega),WA hs hx,if_pos (by omega)]
   rw[show((pos+(i:Int)) % 8).toNat=from'+(i - off) by omega];rw[Ai9,DD (by omega)];simp
  ·rw[Ai1 (by rw[Ai3];omega),Ai3,hl1,hl2,Ai6,FQ,FQ,show off+mlen+(i - (off+mlen))=i by omega]
   split
   ·rw[WA hs hx,if_neg (by omega)]
   ·rfl
theorem iG (a b:List UInt8)(off:Nat):Ce (AY a) off (AY b)=AY (a.take off++b++a.drop (off+b.length)):=by
 unfold Ce;rw[Dg,N0,Qx,bM,bM]
abbrev Aq5:=@List.getElem?_replicate
theorem sL (l:List Ext)(pos:Int)(m:Nat):List.replicate m (AV.lit (.int .u8 0))=AY (CR (l.take 0) pos m):=by
 refine Ak5 λi=>?_
 rw[T6,FQ,Aq5]
 by_cases h:i<m
 ·rw[if_pos h,if_pos h]
  simp[PK]
 ·rw[if_neg h,if_neg h]
  rfl
theorem fG {size:Int}{l:List Ext}{v:AV}(hv:SV AB 9 l v)(hl:l.length≤281474976710656)(pos n:Int):
  ∃r,SV FB 1 (Kh size l pos n) r∧BPure prog 101 [.agg [I size,v],I pos,I n] r:=by
 unfold SV;simp only[Jv]
 have:∃r,(noIds r=true∧∀H,Ac H 1 r=some (AY (Kh size l pos n),(Kh size l pos n).length))∧BPure prog 101 [.agg [I size,v],I pos,I n] r:=by
  refine BPure.sl (sz:=1) (by simp[A5,noIds,hv.1]) (Jw _) (cA ?_);unfold Zc;simp[Cn hv,Ax];refine Ay (EM hv hl) ?_
  have nix:∀H,¬zdkbZ size l pos n→Ac H 1 Ad=some (AY (Kh size l pos n),(Kh size l pos n).length):=by
   intro H h;have:Kh size l pos n=[]:=if_neg h;rw[this];rfl
  by_cases h1:Dh size l
  ·by_cases h2:pos<0
   ·simp[h1,h2,nix _ (λh=>by have:=h.2.1;omega)]
   ·by_cases h3:n<0
    ·simp[h1,h2,h3,nix _ (λh=>by have:=h.2.2.1;omega)]
    ·by_cases h4:4096<n
     ·simp[h1,h2,h3,h4,nix _ (λh=>by have:=h.2.2.2.1;omega)]
     ·by_cases h5:size≤pos
      ·simp[h1,h2,h3,h4,h5,nix _ (λh=>by have:=h.2.2.2.2;omega)]
      ·have hs:=Jk h1.2.2
       have hsz:=h1.2.1;have hsz0:=h1.1;have hr:Kh size l pos n=CR l pos (min n (size - pos)).toNat:=if_pos ⟨h1,by omega,by omega,by omega,by omega⟩;rw[hr,EZ];obtain⟨m,hm⟩:∃m:Nat,(m:Int)=min n (size - pos):=⟨(min n (size - pos)).toNat,by omega⟩;have hm':min (size - pos) n=(m:Int):=by omega
       rw[show(min n (size - pos)).toNat=m by omega];simp[h1,h2,h3,h4,h5,B2 (a:=size) (b:=pos) (by omega) (by omega),hm',zdopZ,show(m:Int)≤281474976710656 by omega,show(m:Int)≤9223372036854775807 by omega,hv.len];have hz:=sL l pos m;refine UU (λq x1 x2 x7 x41 x42 x43 H'=>∃k:Nat,k+q=l.length∧x1=I pos∧x2=I m∧x7=.sl 1 0 m 1 (.ex m)∧x41=v∧x42=I l.length∧x43=I k∧∃X,H'=some (.cells [I size,v])::some (.cells (AY (CR (l.take k) pos m)))::X) ?_ l.length ⟨0,by omega,rfl,rfl,rfl,rfl,rfl,rfl,[],by rw[← hz]⟩;rintro q x1 x2 x7 x41 x42 x43 H R hR ⟨k,hk,rfl,rfl,rfl,rfl,rfl,rfl,X,rfl⟩;unfold Q4;rcases Ai0 k l.length with hlt | hge
       ·have hx:=DD hlt
        generalize l[k]=y at hx;have hy:=LI h1.2.2 y (Ah7 hx);simp[hlt,hv.idx AE hx rfl,-CF];rw[← An9,← An9,gI (by simp) (by rfl)];simp;refine Ay (NE y.no (by omega) (by omega)) ?_
        have nxt:∀Y,(Jh R (I pos) (I m) (.sl 1 0 m 1 (.ex m)) x41 (I l.length) (I k) (some (.cells [I size,x41])::some (.cells (AY (CR (l.take (k+1)) pos m)))::Y) λr H'=>Ac H' 1 r=some (AY (CR l pos m),m)):=by
         intro Y;rw[Wc];unfold Pk;simp[Au (a:=k) (b:=1) (by omega) (by omega)];exact hR (q - 1) _ _ _ _ _ _ _ (by omega) ⟨k+1,by omega,rfl,rfl,rfl,rfl,rfl,rfl,Y,rfl⟩
        have w1:MaySpan ⟨y.no*8,8⟩:=by simp only[MaySpan,May];omega
        have w2:MaySpan ⟨pos,m⟩:=by simp only[MaySpan,May];omega
        refine Ay (Wn ⟨y.no*8,8⟩ ⟨pos,m⟩) ?_
        by_cases c:max (y.no*8) pos<min (y.no*8+8) (pos+m)
        ·have e:RU ⟨y.no*8,8⟩ ⟨pos,m⟩=⟨max (y.no*8) pos,min (y.no*8+8) (pos+m) - max (y.no*8) pos⟩:=if_pos ⟨w1,w2,c⟩
         rw[e];obtain⟨off,ho⟩:∃off:Nat,(off:Int)=max (y.no*8) pos - pos:=⟨(max (y.no*8) pos - pos).toNat,by omega⟩;obtain⟨fr,hf⟩:∃fr:Nat,(fr:Int)=max (y.no*8) pos - y.no*8:=⟨(max (y.no*8) pos - y.no*8).toNat,by omega⟩;obtain⟨ml,hml⟩:∃ml:Nat,(ml:Int)=min (y.no*8+8) (pos+m) - max (y.no*8) pos:=⟨(min (y.no*8+8) (pos+m) - max (y.no*8) pos).toNat,by omega⟩;have hst:=xF hs hx c ho hf hml;have hb:=y.hb
         have e1:Bf 1 (.sl 1 0 m 1 (.ex m)) (some (I off)) none none=some (.sl 1 off (m - off) 1 (.ex (m - off))):=by
          simp[Bf,Ci,Room.least,Room.cut];omega
         have e3:∀o,Bf 1 (.sl o (1+fr) (8 - fr) 1 (.ex (8 - fr))) none (some (I ml)) none=some (.sl o (1+fr) ml 1 (.ex (8 - fr))):=by
          intro o;simp[Bf,Ci,Room.least,Room.cut];omega
         have key:∀(HH Y:AH) (o:Nat),HH=some (.cells [I size,x41])::some (.cells (AY (CR (l.take k) pos m)))::Y→HH[o]?=some (some (.cells (AB y)))→
           eR 8 1 HH (.ptr o 1) (some (I fr)) none=some (.sl o (1+fr) (8 - fr) 1 (.ex (8 - fr)))∧
           UP 1 HH (.sl 1 off (m - off) 1 (.ex (m - off))) (.sl o (1+fr) ml 1 (.ex (8 - fr)))=some (I ml,some (.cells [I size,x41])::some (.cells (AY (CR (l.take (k+1)) pos m)))::Y):=by
          intro HH Y o hHH hHo;refine⟨by simp[eR,Ci,hHo,AE];omega,?_⟩
          have a1:Ac HH 1 (.sl o (1+fr) ml 1 (.ex (8 - fr)))=some (AY ((y.b.drop fr).take ml),ml):=by
           have:(AB y).drop (1+fr)=AY (y.b.drop fr):=by
            rw[Ar5]
            show(AY y.b).drop fr=_
            rw[Qx]
           simp[Ac,hHo,AE,this,N0];omega
          unfold UP vL;rw[A1 a1,hHH];have a2:min ml (m - off)=ml:=by omega
          have a3:((y.b.drop fr).take ml).length=ml:=by simp;omega
          have hle:off≤m:=by omega
          simp[Dg,EZ,a2,N0,hle];have a4:List.take ml (List.take ml (y.b.drop fr))=(y.b.drop fr).take ml:=by rw[An4,Nat.min_self]
          rw[a4,iG,a3,hst]
         simp[Bz,AP,B2 (a:=max (y.no*8) pos) (b:=pos) (by omega) (by omega),← ho,e1,D4 (a:=y.no) (b:=8) (by omega) (by omega),B2 (a:=max (y.no*8) pos) (b:=y.no*8) (by omega) (by omega),← hf,← hml];obtain⟨k1,k2⟩:=key _ (X++[some (.cells (AB y)),some (.cells [I (max (y.no*8) pos),I ml])]) (X.length+1+1) rfl (by simp);rw[k1];simp[e3];rw[k2];simp[show 0<ml by omega];exact nxt _
        ·have e:RU ⟨y.no*8,8⟩ ⟨pos,m⟩=⟨0,0⟩:=if_neg (λh=>c h.2.2)
         rw[e];simp[Bz,AP];rw[← xE hs hx c];exact nxt _
       ·have:k=l.length:=by omega
        subst this;rw[Al2];simp[Ac,Dg,EZ];rw[Ai2 (by rw[Dg,EZ];omega)]
  ·simp[h1,nix _ (λh=>h1 h.1)]
 exact this
theorem jF {H:AH}{sz o off len o2 off2 m:Nat}{cap cap2:Room}{cs cs2:List AV}(ho:H[o]?=some (some (.cells cs)))(h2:H[o2]?=some (some (.cells cs2)))(hoff:off≤cs.length)(ht:off2+min m len*sz≤cs2.length):
  UP sz H (.sl o off len sz cap) (.sl o2 off2 m sz cap2)=some (I ((min m len:Nat):Int),H.set o (some (.cells (Ce cs off ((cs2.drop off2).take (min m len*sz)))))):=by
 unfold UP vL
 by_cases h:off2+m*sz≤cs2.length
 ·have e:Bu H sz (.sl o2 off2 m sz cap2)=some ((cs2.drop off2).take (m*sz),m):=A1 (by simp[Ac,h2,h])
  have hm:min (min m len*sz) (m*sz)=min m len*sz:=Ao1 (Ai7 _ (At9 _ _));rw[e];simp only[ho,hoff,and_self,if_true,An4,hm]
 ·have e:Bu H sz (.sl o2 off2 m sz cap2)=none:=by simp[Bu,Ac,h2,h]
  rw[e];simp[zdfxZ,ho,h2,hoff,ht]
theorem zdesZ (w:World):(Go.sizeOf 134).run prog w=.ok 9 w:=Cf (by kernel_rfl)
theorem oP {H:AH}{oa offa la ea ka ob offb lb eb kb:Nat}{ca cb:List AV}(ha:H[oa]?=some (some (.cells ca)))(hbo:H[ob]?=some (some (.cells cb)))(hne:oa≠ob)(hka:ka≠0)(hkb:kb≠0)(hcb:cb≠[]):
  ExtR prog 176 [.sl oa offa la ea (.ex ka),.sl ob offb lb eb (.ex kb)] H (B false):=
 ExtR.apart (tS:=69) (tR:=4) (fn:=f176) (by kernel_rfl) (by kernel_rfl) (by kernel_rfl) (by kernel_rfl) (by kernel_rfl) (by kernel_rfl) zdesZ ha hbo hne hka hkb hcb
def zdmaZ (H:AH)(s:AV)(N:List AV)(n:Nat)(r:AV)(H':AH):Prop:=
 AZ r=true∧Ac H' 9 r=some (N,n+1)∧H.length≤H'.length∧(∀i,i<H.length→i∉AM s→H'[i]?=H[i]?)∧∀i∈AM r,i∈AM s∨H.length≤i
theorem zdczZ {H:AH}{s:AV}{cs:List AV}{n ov:Nat}{x:Ext}(hs:Ac H 9 s=some (cs,n))(ho:AZ s=true)(hn:n≤100000000)(hv:H[ov]?=some (some (.cells (AB x)))):
  ∃r H',zdmaZ H s (cs++AB x) n r H'∧BCall prog 143 [s,I n,.sl ov 0 1 9 (.ex 1)] H r H':=by
 obtain⟨r0,a0,-⟩:=EI hs (lo:=some (I n)) (hi:=none) (l:=n) (k:=n) (by simp[Ci]) rfl (Ah9 _) (Ah9 _);have hl:=AE x;obtain⟨r,H2,a1,a2,a3,a4,a5,a6⟩:=BX (bytes:=16) hs ho (A1 (v:=.sl ov 0 1 9 (.ex 1)) (q:=(AB x,1)) (by simp[Ac,hv,hl,Ai2])) (by omega);refine⟨r,H2,⟨a2,a3,a4,a5,a6⟩,Dp ?_⟩;unfold BU;simp[a0,By hs,a1]
theorem wH {H:AH}{o off n ov i:Nat}{cells:List AV}{x:Ext}(hc:H[o]?=some (some (.cells cells)))(hl:off+n*9≤cells.length)(hi:i<n)(hn:n≤100000000)(hv:H[ov]?=some (some (.cells (AB x)))):
  ACalls prog 143 [.sl o off n 9 (.ex n),I i,.sl ov 0 1 9 (.ex 1)] H λr H'=>r=.sl H.length 0 (n+1) 9 (.ge (n+1))∧
   H'=H++[some (.cells ((cells.drop off).take (i*9)++AB x++(cells.drop (off+i*9)).take ((n - i)*9)))]:=by
 refine Dp ?_;unfold BU;have h1:¬(i:Int)=n:=by omega
 have hxl:=AE x;simp[Bf,Ci,Room.least,Room.cut,eM,goInt,h1,show i≤n by omega,Au (a:=n) (b:=1) (by omega) (by omega),B2 (a:=(n:Int)+1) (b:=i) (by omega) (by omega),PH,hc,Au (a:=i) (b:=1) (by omega) (by omega)];have e1:i+(n+1 - i)=n+1:=by omega
 have h2:off+i*9≤cells.length:=by omega
 simp only[e1];simp[h2,show(i:Int)<n+1 by omega,show(n:Int)<n+1 by omega,show(n+1)*16≤140737488355328 by omega,show i≤n+1 by omega];have zl:((List.replicate (n+1 - i) [AV.lit (Value.int IntKind.i64 0),AV.lit (Value.int IntKind.u8 0),AV.lit (Value.int IntKind.u8 0),AV.lit (Value.int IntKind.u8 0),AV.lit (Value.int IntKind.u8 0),AV.lit (Value.int IntKind.u8 0),AV.lit (Value.int IntKind.u8 0),AV.lit (Value.int IntKind.u8 0),AV.lit (Value.int IntKind.u8 0)]).flatten).length=(n+1 - i)*9:=Ey _ _;generalize (List.replicate (n+1 - i) [AV.lit (Value.int IntKind.i64 0),AV.lit (Value.int IntKind.u8 0),AV.lit (Value.int IntKind.u8 0),AV.lit (Value.int IntKind.u8 0),AV.lit (Value.int IntKind.u8 0),AV.lit (Value.int IntKind.u8 0),AV.lit (Value.int IntKind.u8 0),AV.lit (Value.int IntKind.u8 0),AV.lit (Value.int IntKind.u8 0)]).flatten=Z at zl;have hA:(List.take (i*9) (List.drop off cells)).length=i*9:=by rw[Ah8,Ai5];omega
 generalize hAe:List.take (i*9) (List.drop off cells)=A at hA;have hov:=(BE.1 hv).1;have ho:=(BE.1 hc).1;rw[jF (cs:=A++Z) (cs2:=AB x) (by simp) (by rw[Ah6 hov];exact hv) (by simp[hA]) (by omega)];simp[show(0:Int)≤(i:Int)+1 by omega,show i+1≤n+1 by omega];have m1:min 1 (n+1 - i)=1:=by omega
 have o1:Ce (A++Z) (i*9) (List.take (min 1 (n+1 - i)*9) (AB x))=A++AB x++Z.drop 9:=by
  rw[m1,Ai2 (by rw[hxl];omega)];unfold Ce;rw[Aj7 (by omega),Ai2 (by omega),hxl,← hA,List.drop_append,Aq4,Ar2 (by omega),Am5]
 rw[o1,jF (cs:=A++AB x++Z.drop 9) (cs2:=cells) (by simp) (by rw[Ah6 ho];exact hc) (by simp[hA,hxl];omega) (by rw[Nat.min_self];omega)];have hB:(List.take ((n - i)*9) (List.drop (off+i*9) cells)).length=(n - i)*9:=by rw[Ah8,Ai5];omega
 simp;generalize List.take ((n - i)*9) (List.drop (off+i*9) cells)=B' at hB;unfold Ce;have l1:(A++AB x).length=(i+1)*9:=by rw[Ai3,hA,hxl];omega
 rw[← Ai8,Aj7 (by omega),Ai2 (by omega),Ar2 (by rw[Ai3,l1,Ai5,hB];omega),Al4,Ai8]
theorem rF {H:AH}{o off n ov i c:Nat}{cells:List AV}{x:Ext}(hc:H[o]?=some (some (.cells cells)))(hl:off+n*9≤cells.length)(hi:i<n)(hn:n≤100000000)(hcn:n+1≤c)(hv:H[ov]?=some (some (.cells (AB x))))(hne:ov≠o):
  ACalls prog 143 [.sl o off n 9 (.ex c),I i,.sl ov 0 1 9 (.ex 1)] H λr H'=>r=.sl o off (n+1) 9 (.ex c)∧
   ∃rest,H'=H.set o (some (.cells (cells.take (off+i*9)++AB x++(cells.drop (off+i*9)).take ((n - i)*9)++rest))):=by
 refine Dp ?_;unfold BU;have h1:¬(i:Int)=n:=by omega
 have hxl:=AE x;simp[Bf,Ci,Room.least,Room.cut,eM,goInt,h1,show i≤n by omega,Au (a:=n) (b:=1) (by omega) (by omega),B2 (a:=(n:Int)+1) (b:=i) (by omega) (by omega),Au (a:=i) (b:=1) (by omega) (by omega),show i≤c by omega,show n≤c by omega,show ¬(c:Int)<n+1 by omega,hcn,show(0:Int)≤(n:Int)+1 by omega,show(0:Int)≤(i:Int)+1 by omega,show i+1≤n+1 by omega];refine bP_of (oP hv hc hne (by omega) (by omega) (by intro h;rw[h]at hl;simp at hl;omega)) ?_;simp;have ho:=(BE.1 hc).1;have mm:min (n+1 - i) (n - i)=n - i:=by omega
 have m1:min 1 (n+1 - i)=1:=by omega
 simp only[show i≤n+1 by omega,if_true,Aa];rw[jF (cs:=cells) (cs2:=cells) hc hc (by omega) (by rw[mm];omega),mm];have hB:(List.take ((n - i)*9) (List.drop (off+i*9) cells)).length=(n - i)*9:=by rw[Ah8,Ai5];omega
 generalize List.take ((n - i)*9) (List.drop (off+i*9) cells)=B' at hB;simp only[A6];have l1:(cells.take (off+(i+1)*9)).length=off+(i+1)*9:=by rw[Ah8];omega
 rw[jF (cs:=Ce cells (off+(i+1)*9) B') (cs2:=AB x) (by simp[ho]) (by rw[Cc (Aj4 hne)];exact hv) (by unfold Ce;simp[l1];omega) (by omega),m1,Ai2 (l:=(AB x).drop 0) (by simp[hxl])];simp only[A6,List.set_set,Ak9];refine⟨(cells.drop (off+(i+1)*9+B'.length)),?_⟩
 congr 3
 unfold Ce;rw[hxl]
 have t1:List.take (off+i*9) (cells.take (off+(i+1)*9)++B'++cells.drop (off+(i+1)*9+B'.length))=cells.take (off+i*9):=by
  rw[Ai8,Aj7 (by omega),An4,Ao1 (by omega)]
 have t2:List.drop (off+i*9+9) (cells.take (off+(i+1)*9)++B'++cells.drop (off+(i+1)*9+B'.length))=B'++cells.drop (off+(i+1)*9+B'.length):=by
  rw[Ai8,show off+i*9+9=(cells.take (off+(i+1)*9)).length by omega,Au4]
 rw[t1,t2,Ai8]
theorem aS {m:Nat}:∀{a b:List AV},DN m a→DN m b→DN m (a++b)
 | [],b,_,h=>h
 | x::a,b,h1,h2=>by simp only[DN,An9]at h1⊢;exact⟨h1.1,aS h1.2 h2⟩
theorem Tw {m:Nat}:∀{a:List AV},DN m a↔∀x∈a,GX m x
 | []=>by simp[DN]
 | x::a=>by simp only[DN,Ak6,forall_eq_or_imp,Tw (a:=a)]
theorem zA (x:Ext)(m:Nat):DN m (AB x):=by
 rw[Tw];intro a ha;simp only[AB,AY,Ak6,Ak7]at ha;rcases ha with rfl | ⟨b,_,rfl⟩<;>simp only[GX]
theorem zddaZ {H:AH}{o off n ov i:Nat}{cap:Room}{cells:List AV}{x:Ext}(hc:H[o]?=some (some (.cells cells)))(hl:off+n*9≤cells.length)(hi:i<n)(hn:n≤100000000)(hv:H[ov]?=some (some (.cells (AB x))))(hne:ov≠o):
  BCall prog 143 [.sl o off n 9 cap,I i,.sl ov 0 1 9 (.ex 1)] H (.sl H.length 0 (n+1) 9 (.ge (n+1)))
   (H.set o none++[some (.cells ((cells.drop off).take (i*9)++AB x++(cells.drop (off+i*9)).take ((n - i)*9)))]):=by
 have ho:=(BE.1 hc).1;have hxl:=AE x;generalize hN:(cells.drop off).take (i*9)++AB x++(cells.drop (off+i*9)).take ((n - i)*9)=N
 have hNl:N.length=(n+1)*9:=by
  rw[← hN,Ai3,Ai3,hxl,Ah8,Ah8,Ai5,Ai5];omega
 have hall:∀c,n≤c→ACalls prog 143 [.sl o off n 9 (.ex c),I i,.sl ov 0 1 9 (.ex 1)] H λr H'=>
   (r=.sl H.length 0 (n+1) 9 (.ge (n+1))∧H'=H++[some (.cells N)])∨∃c rest,n+1≤c∧r=.sl o off (n+1) 9 (.ex c)∧H'=H.set o (some (.cells (cells.take off++N++rest))):=by
  intro c hcn;rcases Ai0 n c with h | h
  ·refine(rF hc hl hi hn h hv hne).mono ?_
   rintro r H' ⟨rfl,rest,rfl⟩;refine .inr ⟨c,rest,h,rfl,?_⟩
   congr 3
   rw[← hN,Ar5 off (i*9),Ar5 (i*9) off];have:cells.take (off+i*9)=cells.take off++(cells.drop off).take (i*9):=by rw[Av0]
   rw[this];simp[Ai8]
  ·have:c=n:=by omega
   subst this;refine(wH hc hl hi hn hv).mono ?_;rintro r H' ⟨rfl,rfl⟩;exact .inl ⟨rfl,by rw[hN]⟩
 have hany:ACalls prog 143 [.sl o off n 9 cap,I i,.sl ov 0 1 9 (.ex 1)] H λr H'=>
   (r=.sl H.length 0 (n+1) 9 (.ge (n+1))∧H'=H++[some (.cells N)])∨∃c rest,n+1≤c∧r=.sl o off (n+1) 9 (.ex c)∧H'=H.set o (some (.cells (cells.take off++N++rest))):=by
  cases cap with
  | ge k=>exact ACalls.room λc _ h=>hall c h
  | ex c=>
   rcases Ai0 c n with h | h
   ·intro G vs hH hv
    exfalso
    simp only[VRs]at hv;obtain⟨v,r,rfl,h1,h2⟩:=hv;simp only[VR]at h1;obtain⟨_,a,c',rfl,hlc,hs⟩:=h1;simp only[SlAt]at hs;omega
   ·exact hall c h
 refine ACalls.canon hany ?_;rintro hb r1 H1 h1
 have hbN:DN H.length N:=by
  have hbc:DN H.length cells:=hb o _ hc;rw[Tw]at hbc;rw[← hN];refine aS (aS ?_ (zA x _)) ?_
  ·rw[Tw];exact λa ha=>hbc a (An8 (Am0 ha))
  ·rw[Tw];exact λa ha=>hbc a (An8 (Am0 ha))
 rcases h1 with⟨rfl,rfl⟩ | ⟨c,rest,hcn,rfl,rfl⟩
 ·refine⟨_,_,_,Canon.grown hb hbN,?_⟩
  intro G v hG hr;refine⟨?_,λp ℓ h=>by cases h⟩;simp only[VR]at hr⊢;obtain⟨q0,a,c,rfl,hlc,hs⟩:=hr;refine⟨by simp[Cfg.ren],a,c,rfl,hlc,?_⟩
  simpa[Cfg.ren,zdjzZ,zddqZ]using hs
 ·refine⟨_,_,_,Canon.placed (off:=off) (l:=c*9) hb ho hbN (cs1:=cells.take off++N++rest) ?_ ?_ ?_,?_⟩
  ·simp;omega
  ·have:(cells.take off).length=off:=by rw[Ah8];omega
   rw[Ai8]
   conv=>lhs;arg 2;arg 1;rw[← this]
   rw[Au4,List.take_left]
  ·rw[hNl];omega
  ·intro G v hG hr
   simp only[VR]at hr;obtain⟨q0,a,c',rfl,hlc,hs⟩:=hr;simp only[SlAt]at hs;obtain⟨rfl,hs⟩:=hs;have hs:=hs.resolve_left (by omega);obtain⟨rfl,hs2⟩:=hs;have e:zdjbZ H.length o off H.length=(o,off):=if_pos rfl;have e2:mV H.length (c'*9) H.length=some (c'*9):=if_pos rfl;refine⟨?_,?_⟩
   ·simp only[VR]
    refine⟨by simp[Cfg.ren],_,c',rfl,by omega,?_⟩;simp only[SlAt];refine⟨hcn,.inr ⟨by simp[Cfg.ren,e],?_⟩⟩;simp[Cfg.ren,e2]
   ·intro p ℓ h
    unfold mV at h;split at h
    ·rename_i hp
     injection h with h;subst hp;subst h;rw[e];omega
    ·cases h
theorem uV:∀{l m:List Ext},srt l→srt m→(∀x,x∈l↔x∈m)→l=m
 | [],[],_,_,_=>rfl
 | [],y::m,_,_,h=>by have:=(h y).2 (by simp);simp at this
 | x::l,[],_,_,h=>by have:=(h x).1 (by simp);simp at this
 | x::l,y::m,hl,hm,h=>by
  have hl':=An7.1 hl;have hm':=An7.1 hm
  have e:x=y:=by
   rcases Ak6.1 ((h x).1 (by simp))with e | h1
   ·exact e
   ·rcases Ak6.1 ((h y).2 (by simp))with e | h2
    ·exact e.symm
    ·have:=hm'.1 x h1;have:=hl'.1 y h2;omega
  subst e;refine congrArg _ (uV hl'.2 hm'.2 λz=>?_)
  constructor
  ·intro hz
   rcases Ak6.1 ((h z).1 (by simp[hz]))with e | h1
   ·have:=hl'.1 z hz;rw[e]at this;omega
   ·exact h1
  ·intro hz
   rcases Ak6.1 ((h z).2 (by simp[hz]))with e | h1
   ·have:=hm'.1 z hz;rw[e]at this;omega
   ·exact h1
theorem VZ {x y:Ext}(h1:x.no=y.no)(h2:∀k,k<8→x.b.getD k 0=y.b.getD k 0):x=y:=by
 obtain⟨a,b,hb⟩:=x;obtain⟨c,d,hd⟩:=y;simp only at h1 h2;subst h1
 have:b=d:=by
  refine List.ext_getElem (by omega) λk hk1 hk2=>?_
  have:=h2 k (by omega)
  rw[Ai9,Ai9,DD hk1,DD hk2]at this
  simpa using this
 subst this;rfl
theorem aA {l:List Ext}{x:Ext}(h:x∈l):∃k:Nat,l[k]?=some x:=Aj2.1 h
theorem qK {l:List Ext}(hs:srt l){x:Ext}(hx:x∈l){k:Nat}(hk:k<8):PK l (x.no*8+k)=x.b.getD k 0:=by
 obtain⟨i,hi⟩:=aA hx;rw[W9 hs hi (by omega),show((x.no*8+(k:Int)) % 8).toNat=k by omega]
theorem zdhkZ {l m:List Ext}(hl:srt l)(hm:srt m)(h1:∀no,BG l no↔BG m no)(h2:∀p,PK l p=PK m p):l=m:=by
 have key:∀{l m:List Ext},srt l→srt m→(∀no,BG l no↔BG m no)→(∀p,PK l p=PK m p)→∀x,x∈l→x∈m:=by
  intro l m hl hm h1 h2 x hx;obtain⟨y,hy,e⟩:=(h1 x.no).1 ⟨x,hx,rfl⟩
  have:x=y:=VZ e.symm λk hk=>by
   rw[← qK hl hx hk,← qK hm hy hk,h2,e]
  rw[this];exact hy
 exact uV hl hm λx=>⟨key hl hm h1 h2 x,key hm hl (λno=>(h1 no).symm) (λp=>(h2 p).symm) x⟩
def QI (no:Int):Ext:=⟨no,List.replicate 8 0,by simp⟩
def DX (l:List Ext)(no:Int):List Ext:=if BG l no then l else l.take (posL l no)++QI no::l.drop (posL l no)
theorem oT {l:List Ext}{no:Int}{x:Ext}(h:x∈l.take (posL l no)):x.no<no:=by
 obtain⟨k,hk⟩:=aA h;have h1:=(BE.1 hk).1;rw[Ah8]at h1;rw[Ai4,if_pos (by omega)]at hk;exact lD (by omega) hk
theorem oS {l:List Ext}(hs:srt l){no:Int}{x:Ext}(h:x∈l.drop (posL l no)):no≤x.no:=by
 obtain⟨k,hk⟩:=aA h;rw[Ai6]at hk;cases h0:l[posL l no]? with
 | none=>
  have h1:=(BE.1 hk).1;rw[List.getElem?_eq_none_iff]at h0;omega
 | some y=>
  have h2:=uG h0;rcases Am1 k with h3 | h3
  ·subst h3;rw[Al8,h0]at hk;injection hk with hk;rw[← hk];exact h2
  ·have:=PC hs h0 hk (by omega);omega
theorem Kg {l:List Ext}(hs:srt l)(no:Int):srt (DX l no):=by
 unfold DX
 split
 ·exact hs
 ·rename_i h
  have hd:∀x∈l.drop (posL l no),no<x.no:=by
   intro x hx;have h1:=oS hs hx;have h2:x.no≠no:=λe=>h ⟨x,An8 hx,e⟩
   omega
  refine Ap0.2 ⟨At6 (List.take_sublist _ l) hs,An7.2 ⟨hd,At6 (List.drop_sublist _ l) hs⟩,?_⟩;intro a ha b hb;have h1:=oT ha;rcases Ak6.1 hb with rfl | hb
  ·exact h1
  ·have:=hd b hb;omega
theorem QH {l:List Ext}{no:Int}{x:Ext}:x∈DX l no↔x∈l∨(¬BG l no∧x=QI no):=by
 unfold DX
 split
 ·rename_i h;simp[h]
 ·rename_i h
  rw[Al3,Ak6];have:x∈l↔x∈l.take (posL l no)∨x∈l.drop (posL l no):=by rw[← Al3,Am4]
  rw[this]
  constructor
  ·rintro(h1 | h1 | h1)
   ·exact .inl (.inl h1)
   ·exact .inr ⟨h,h1⟩
   ·exact .inl (.inr h1)
  ·rintro((h1 | h1) | ⟨_,h1⟩)
   ·exact .inl h1
   ·exact .inr (.inr h1)
   ·exact .inr (.inl h1)
theorem Ug {l:List Ext}{no a:Int}:BG (DX l no) a↔BG l a∨a=no:=by
 unfold BG
 constructor
 ·rintro⟨x,hx,e⟩
  rcases QH.1 hx with h | ⟨_,rfl⟩
  ·exact .inl ⟨x,h,e⟩
  ·exact .inr e.symm
 ·rintro(⟨x,hx,e⟩ | rfl)
  ·exact⟨x,QH.2 (.inl hx),e⟩
  ·by_cases h:BG l a
   ·obtain⟨x,hx,e⟩:=h
    exact⟨x,QH.2 (.inl hx),e⟩
   ·exact⟨QI a,QH.2 (.inr ⟨h,rfl⟩),rfl⟩
theorem PL {l:List Ext}(hs:srt l){x:Ext}(hx:x∈l){p:Int}(h:x.no=p/8):PK l p=x.b.getD (p % 8).toNat 0:=by
 obtain⟨k,hk⟩:=aA hx;exact W9 hs hk h
theorem tV {l:List Ext}(hs:srt l)(no p:Int):PK (DX l no) p=PK l p:=by
 by_cases h:BG l (p/8)
 ·obtain⟨x,hx,e⟩:=h
  rw[PL hs hx e,PL (Kg hs no) (QH.2 (.inl hx)) e]
 ·rw[Gb h]
  by_cases h2:p/8=no
  ·rw[PL (Kg hs no) (QH.2 (.inr ⟨h2▸h,rfl⟩)) h2.symm]
   have:(p % 8).toNat<8:=by omega
   simp only[QI];rw[Ai9,Aq5,if_pos this];rfl
  ·exact Gb (λh3=>(Ug.1 h3).elim h h2)
theorem zddpZ {l:List Ext}(hs:srt l)(no:Int):posL (DX l no) no=posL l no:=by
 unfold DX
 split
 ·rfl
 ·rename_i h
  have hp:=aC l no;refine RW (by simp;omega) ?_ ?_
  ·intro m x hm hx
   rw[Ah6 (by rw[Ah8];omega),Ai4,if_pos hm]at hx;exact lD hm hx
  ·intro x hx
   rw[Ai1 (by rw[Ah8];omega),Ah8,show posL l no - min (posL l no) l.length=0 by omega]at hx;simp at hx;rw[← hx];simp[QI]
theorem oG {l:List Ext}(hs:srt l)(no:Int):∃x,(DX l no)[posL l no]?=some x∧x.no=no:=by
 have:=(TU (Kg hs no) (no:=no)).1 (Ug.2 (.inr rfl))
 rwa[zddpZ hs]at this
theorem dJ (l:List Ext)(no:Int):(DX l no).length≤l.length+1∧l.length≤(DX l no).length:=by
 have hp:=aC l no;unfold DX
 split
 ·omega
 ·simp;omega
def ZI (x:Ext)(off:Nat)(bs:List UInt8):Ext:=if h:off+bs.length≤8 then⟨x.no,x.b.take off++bs++x.b.drop (off+bs.length),by have:=x.hb;simp;omega⟩else x
theorem uI (x:Ext)(off:Nat)(bs:List UInt8):(ZI x off bs).no=x.no:=by unfold ZI;split<;>rfl
theorem zdedZ {x:Ext}{off:Nat}{bs:List UInt8}(h:off+bs.length≤8):(ZI x off bs).b=x.b.take off++bs++x.b.drop (off+bs.length):=by unfold ZI;rw[dif_pos h]
theorem zdeeZ {x:Ext}{off:Nat}{bs:List UInt8}(h:off+bs.length≤8){k:Nat}(hk:k<8):(ZI x off bs).b.getD k 0=if off≤k∧k<off+bs.length then bs.getD (k - off) 0 else x.b.getD k 0:=by
 have hb:=x.hb;have h1:(x.b.take off).length=off:=by rw[Ah8];omega
 rw[zdedZ h];simp only[Ai9]
 split
 ·rename_i c
  rw[Ah6 (by rw[Ai3];omega),Ai1 (by omega),h1]
 ·rename_i c
  by_cases c1:k<off
  ·rw[Ai8,Ah6 (by omega),Ai4,if_pos c1]
  ·rw[Ai1 (by rw[Ai3];omega),Ai3,h1,Ai6]
   congr 2;omega
def ZJ (l:List Ext)(no:Int)(off:Nat)(bs:List UInt8):List Ext:=l.map λx=>if x.no=no then ZI x off bs else x
theorem rX (no:Int)(off:Nat)(bs:List UInt8)(x:Ext):(if x.no=no then ZI x off bs else x).no=x.no:=by split;exact uI ..;rfl
abbrev Ap2:=@List.pairwise_map
theorem uU {l:List Ext}{f:Ext→Ext}(hf:∀x∈l,(f x).no=x.no)(hs:srt l):srt (l.map f):=by
 unfold srt at*;rw[Ap2];refine hs.imp_of_mem λha hb h=>?_
 rw[hf _ ha,hf _ hb];exact h
theorem tU {l:List Ext}{f:Ext→Ext}(hf:∀x∈l,(f x).no=x.no){no:Int}:BG (l.map f) no↔BG l no:=by
 unfold BG
 constructor
 ·rintro⟨y,hy,e⟩
  obtain⟨x,hx,rfl⟩:=Ak7.1 hy;exact⟨x,hx,by rw[← e,hf x hx]⟩
 ·rintro⟨x,hx,e⟩
  exact⟨f x,Ak7.2 ⟨x,hx,rfl⟩,by rw[← e,hf x hx]⟩
theorem uM {l:List Ext}(hs:srt l)(no:Int)(off:Nat)(bs:List UInt8):srt (ZJ l no off bs):=uU (λx _=>rX ..) hs
theorem uK {l:List Ext}{no a:Int}{off:Nat}{bs:List UInt8}:BG (ZJ l no off bs) a↔BG l a:=tU (λx _=>rX ..)
theorem zdktZ {l:List Ext}(hs:srt l){no:Int}{off:Nat}{bs:List UInt8}(h:off+bs.length≤8)(hn:BG l no)(p:Int):
  PK (ZJ l no off bs) p=if no*8+off≤p∧p<no*8+off+bs.length then bs.getD (p - (no*8+off)).toNat 0 else PK l p:=by
 by_cases h0:BG l (p/8)
 ·obtain⟨x,hx,e⟩:=h0
  rw[PL (x:=if x.no=no then ZI x off bs else x) (uM hs no off bs) (Ak7.2 ⟨x,hx,rfl⟩) (by rw[rX];exact e),PL hs hx e]
  by_cases c:x.no=no
  ·rw[if_pos c,zdeeZ h (by omega)]
   by_cases c2:no*8+off≤p∧p<no*8+off+bs.length
   ·rw[if_pos c2,if_pos (by omega)];congr 1;omega
   ·rw[if_neg c2,if_neg (by omega)]
  ·rw[if_neg c,if_neg (by omega)]
 ·rw[Gb (by rw[uK];exact h0),Gb h0,if_neg]
  intro c;have:p/8=no:=by omega
  exact h0 (this▸hn)
theorem uL {l:List Ext}(hs:srt l){k:Nat}{x:Ext}(hx:l[k]?=some x)(off:Nat)(bs:List UInt8):l.set k (ZI x off bs)=ZJ l x.no off bs:=by
 refine Ak5 λi=>?_
 unfold ZJ;rw[Aj3,Am7];have hk:=(BE.1 hx).1
 by_cases h:k=i
 ·subst h
  obtain⟨h1,h2⟩:=BE.1 hx;simp[hk,h2]
 ·rw[if_neg h]
  cases hi:l[i]? with
  | none=>rfl
  | some y=>
   have:y.no≠x.no:=by
    rcases Nat.lt_or_gt_of_ne h with h | h
    ·have:=PC hs hx hi h;omega
    ·have:=PC hs hi hx h;omega
   simp[this]
def E7 (l:List Ext)(p:Int)(bs:List UInt8):List Ext:=ZJ (DX l (p/8)) (p/8) (p % 8).toNat bs
theorem rO {l:List Ext}(hs:srt l)(p:Int)(bs:List UInt8):srt (E7 l p bs):=uM (Kg hs _) ..
theorem zddrZ {l:List Ext}{p a:Int}{bs:List UInt8}:BG (E7 l p bs) a↔BG l a∨a=p/8:=by unfold E7;rw[uK,Ug]
theorem zdicZ {l:List Ext}(hs:srt l){p:Int}{bs:List UInt8}(h:p % 8+bs.length≤8)(q:Int):PK (E7 l p bs) q=if p≤q∧q<p+bs.length then bs.getD (q - p).toNat 0 else PK l q:=by
 unfold E7;rw[zdktZ (Kg hs _) (by omega) (Ug.2 (.inr rfl)),tV hs,show p/8*8+((p % 8).toNat:Int)=p by omega]
def BH (l:List Ext)(p:Int):List UInt8→List Ext
 | []=>l
 | b::r=>BH (E7 l p [b]) (p+1) r
theorem eG:∀{bs:List UInt8} {l:List Ext} (hs:srt l) (p:Int),srt (BH l p bs)
 | [],l,hs,p=>hs
 | b::r,l,hs,p=>eG (rO hs p [b]) (p+1)
theorem W3:∀{bs:List UInt8} {l:List Ext} {p a:Int},BG (BH l p bs) a↔BG l a∨∃q,p≤q∧q<p+bs.length∧a=q/8
 | [],l,p,a=>by
  unfold BH;simp only[Aq7];exact⟨.inl,λh=>h.elim id fun ⟨q,h1,h2,_⟩=>by omega⟩
 | b::r,l,p,a=>by
  unfold BH;rw[W3,zddrZ];simp only[Al9]
  constructor
  ·rintro((h | h) | ⟨q,h1,h2,h3⟩)
   ·exact .inl h
   ·exact .inr ⟨p,by omega,by omega,h⟩
   ·exact .inr ⟨q,by omega,by omega,h3⟩
  ·rintro(h | ⟨q,h1,h2,h3⟩)
   ·exact .inl (.inl h)
   ·by_cases c:q=p
    ·exact .inl (.inr (c▸h3))
    ·exact .inr ⟨q,by omega,by omega,h3⟩
theorem uY:∀{bs:List UInt8} {l:List Ext} (hs:srt l) (p q:Int),PK (BH l p bs) q=if p≤q∧q<p+bs.length then bs.getD (q - p).toNat 0 else PK l q
 | [],l,hs,p,q=>by
  unfold BH;rw[if_neg (by simp only[Aq7];omega)]
 | b::r,l,hs,p,q=>by
  unfold BH;rw[uY (rO hs p [b]),zdicZ hs (by simp only[Aa3];omega)];simp only[Aa3]
  by_cases c:p+1≤q∧q<p+1+r.length
  ·rw[if_pos c,if_pos (by omega),show(q - p).toNat=(q - (p+1)).toNat+1 by omega];rfl
  ·rw[if_neg c]
   by_cases c2:p=q
   ·subst c2
    rw[if_pos (by omega),if_pos (by omega)];simp
   ·rw[if_neg (by omega),if_neg (by omega)]
theorem lT:∀{bs cs:List UInt8} {l:List Ext} {p:Int},BH l p (bs++cs)=BH (BH l p bs) (p+bs.length) cs
 | [],cs,l,p=>by simp[BH]
 | b::r,cs,l,p=>by
  show BH (E7 l p [b]) (p+1) (r++cs)=BH (BH (E7 l p [b]) (p+1) r) (p+(r.length+1:Nat)) cs
  rw[lT];congr 1;omega
theorem zdfdZ {l:List Ext}(hs:srt l){p:Int}{bs:List UInt8}(h:p % 8+bs.length≤8)(hb:bs≠[]):E7 l p bs=BH l p bs:=by
 have hlen:0<bs.length:=List.length_pos_iff.2 hb;refine zdhkZ (rO hs p bs) (eG hs p) (λa=>?_) (λq=>?_)
 ·rw[zddrZ,W3]
  refine or_congr_right ⟨λh1=>⟨p,by omega,by omega,h1⟩,?_⟩;rintro⟨q,h1,h2,rfl⟩;omega
 ·rw[zdicZ hs h,uY hs]
theorem sK:∀{bs:List UInt8} {l:List Ext} {p:Int},(BH l p bs).length≤l.length+bs.length
 | [],l,p=>by simp[BH]
 | b::r,l,p=>by
  unfold BH;have h1:=sK (bs:=r) (l:=E7 l p [b]) (p:=p+1);have h2:(E7 l p [b]).length=(DX l (p/8)).length:=by simp[E7,ZJ]
  have h3:=(dJ l (p/8)).1;simp only[Al9];omega
theorem aW {size:Int}:∀{b:List UInt8} {p:Int},cleanB size p b↔∀k:Nat,k<b.length→size≤p+k→b.getD k 0=0
 | [],p=>by simp[cleanB]
 | x::r,p=>by
  unfold cleanB;rw[aW]
  constructor
  ·rintro⟨h1,h2⟩ k hk hs
   cases k with
   | zero=>
    simp
    by_cases c:x=0
    ·exact c
    ·have:=h1 c;omega
   | succ k=>
    have:=h2 k (by simpa using hk) (by omega)
    simpa using this
  ·intro h
   refine⟨λhx=>?_,λk hk hs=>?_⟩
   ·have:=h 0 (by simp)
    simp at this
    by_cases c:p<size
    ·exact c
    ·exact absurd (this (by omega)) hx
   ·have:=h (k+1) (by simpa using hk) (by omega)
    simpa using this
theorem aX {size:Int}{x:Ext}:JT size x↔∀k:Nat,k<8→size≤x.no*8+k→x.b.getD k 0=0:=by
 have:=aW (size:=size) (b:=x.b) (p:=x.no*8)
 rw[x.hb]at this;exact this
theorem tY {size:Int}:∀{l:List Ext} {p:Int},okL size p l↔srt l∧∀x∈l,p<x.no∧x.no<137438953472∧JT size x
 | [],p=>by simp[okL,srt]
 | x::r,p=>by
  rw[Uj,tY]
  constructor
  ·rintro⟨h1,h2,h3,h4,h5⟩
   refine⟨An7.2 ⟨λy hy=>(h5 y hy).1,h4⟩,λy hy=>?_⟩;rcases Ak6.1 hy with rfl | hy
   ·exact⟨h1,h2,h3⟩
   ·have:=h5 y hy;exact⟨by omega,this.2⟩
  ·rintro⟨h1,h2⟩
   have h1':=An7.1 h1;have h3:=h2 x (by simp);refine⟨h3.1,h3.2.1,h3.2.2,h1'.2,λy hy=>?_⟩
   have:=h2 y (by simp[hy])
   exact⟨h1'.1 y hy,this.2⟩
theorem zdknZ {size:Int}{l:List Ext}:okL size (-1) l↔srt l∧(∀no,BG l no→0≤no∧no<137438953472)∧∀p,size≤p→PK l p=0:=by
 rw[tY]
 constructor
 ·rintro⟨hs,h⟩
  refine⟨hs,?_,λp hp=>?_⟩
  ·rintro no ⟨x,hx,rfl⟩
   have:=h x hx;omega
  ·by_cases c:BG l (p/8)
   ·obtain⟨x,hx,e⟩:=c
    rw[PL hs hx e];exact aX.1 (h x hx).2.2 _ (by omega) (by omega)
   ·exact Gb c
 ·rintro⟨hs,h1,h2⟩
  refine⟨hs,λx hx=>?_⟩
  have:=h1 x.no ⟨x,hx,rfl⟩
  refine⟨by omega,this.2,aX.2 λk hk hz=>?_⟩;rw[← qK hs hx hk];exact h2 _ hz
def C0 (x:Ext)(a b:Int):Ext:=⟨x.no,x.b.mapIdx λk y=>if a≤x.no*8+(k:Int)∧x.no*8+(k:Int)<b then 0 else y,by have:=x.hb;simpa using this⟩
theorem Dl {x:Ext}{a b:Int}{k:Nat}(hk:k<8):(C0 x a b).b.getD k 0=if a≤x.no*8+(k:Int)∧x.no*8+(k:Int)<b then 0 else x.b.getD k 0:=by
 have hb:=x.hb;unfold C0;simp only[Ai9,List.getElem?_mapIdx];rw[DD (show k<x.b.length by omega)];rfl
def PG (l:List Ext)(a b:Int):List Ext:=l.map λx=>C0 x a b
theorem eE {l:List Ext}(hs:srt l)(a b:Int):srt (PG l a b):=uU (λ_ _=>rfl) hs
theorem eD {l:List Ext}{a b no:Int}:BG (PG l a b) no↔BG l no:=tU (f:=λx=>C0 x a b) (λ_ _=>rfl)
theorem uX {l:List Ext}(hs:srt l)(a b p:Int):PK (PG l a b) p=if a≤p∧p<b then 0 else PK l p:=by
 by_cases h:BG l (p/8)
 ·obtain⟨x,hx,e⟩:=h
  rw[PL (x:=C0 x a b) (eE hs a b) (Ak7.2 ⟨x,hx,rfl⟩) e,PL hs hx e,Dl (by omega)];rw[show x.no*8+((p % 8).toNat:Int)=p by omega]
 ·rw[Gb h,Gb (by rw[eD];exact h)];split<;>rfl
theorem NF {l:List Ext}(hs:srt l)(f:Ext→Bool):srt (l.filter f):=List.Pairwise.filter f hs
theorem RM {l:List Ext}{f:Int→Bool}{no:Int}:BG (l.filter λx=>f x.no) no↔BG l no∧f no=true:=by
 unfold BG
 constructor
 ·rintro⟨x,hx,rfl⟩
  rw[Ap9]at hx;exact⟨⟨x,hx.1,rfl⟩,hx.2⟩
 ·rintro⟨⟨x,hx,rfl⟩,h⟩
  exact⟨x,Ap9.2 ⟨hx,h⟩,rfl⟩
theorem gQ {l:List Ext}(hs:srt l){f:Int→Bool}(p:Int):PK (l.filter λx=>f x.no) p=if f (p/8)=true then PK l p else 0:=by
 by_cases h:BG l (p/8)
 ·obtain⟨x,hx,e⟩:=h
  split
  ·rename_i c
   rw[PL (NF hs _) (Ap9.2 ⟨hx,by rw[e];exact c⟩) e,PL hs hx e]
  ·rename_i c
   exact Gb (λh2=>c (RM.1 h2).2)
 ·rw[Gb h,Gb (λh2=>h (RM.1 h2).1)];split<;>rfl
def Fg (l:List Ext)(size:Int):List Ext:=PG (l.filter λx=>decide (x.no*8<size)) size 1099511627776
theorem zdljZ {l:List Ext}(hs:srt l)(size:Int):srt (Fg l size):=eE (NF hs _) _ _
theorem zdliZ {l:List Ext}{size no:Int}:BG (Fg l size) no↔BG l no∧no*8<size:=by
 unfold Fg;rw[eD,RM (f:=λno=>decide (no*8<size))];simp
theorem zdolZ {l:List Ext}(hs:srt l){size:Int}(h:∀no,BG l no→no<137438953472)(p:Int):PK (Fg l size) p=if p<size then PK l p else 0:=by
 unfold Fg;rw[uX (NF hs _),gQ hs (f:=λno=>decide (no*8<size))]
 by_cases c:p<size
 ·rw[if_neg (by omega),if_pos c,if_pos (by simp;omega)]
 ·rw[if_neg c]
  by_cases c2:p<1099511627776
  ·rw[if_pos ⟨by omega,c2⟩]
  ·rw[if_neg (by omega),Gb]
   ·split<;>rfl
   ·intro h2;have:=h _ h2;omega
def gone (pos n no:Int):Bool:=decide (pos≤no*8)&&decide (no*8+8≤pos+n)
def Fr (l:List Ext)(pos n:Int):List Ext:=PG (l.filter λx=>!gone pos n x.no) pos (pos+n)
theorem zdkrZ {l:List Ext}(hs:srt l)(pos n:Int):srt (Fr l pos n):=eE (NF hs _) _ _
theorem zdkqZ {l:List Ext}{pos n no:Int}:BG (Fr l pos n) no↔BG l no∧¬(pos≤no*8∧no*8+8≤pos+n):=by
 unfold Fr;rw[eD,RM (f:=λno=>!gone pos n no)];simp[gone];intro _;omega
theorem zdoiZ {l:List Ext}(hs:srt l)(pos n p:Int):PK (Fr l pos n) p=if pos≤p∧p<pos+n then 0 else PK l p:=by
 unfold Fr;rw[uX (NF hs _),gQ hs (f:=λno=>!gone pos n no)]
 split
 ·rfl
 ·rename_i c
  split
  ·rfl
  ·rename_i c2
   simp[gone]at c2;omega
def HY (l:List Ext)(no:Int):Nat→List Ext
 | 0=>l
 | k+1=>HY (DX l no) (no+1) k
theorem kT:∀{k:Nat} {l:List Ext} (hs:srt l) (no:Int),srt (HY l no k)
 | 0,l,hs,no=>hs
 | k+1,l,hs,no=>kT (k:=k) (Kg hs no) (no+1)
theorem zddsZ:∀{k:Nat} {l:List Ext} {no a:Int},BG (HY l no k) a↔BG l a∨(no≤a∧a<no+k)
 | 0,l,no,a=>by unfold HY;exact⟨.inl,λh=>h.elim id λh=>by omega⟩
 | k+1,l,no,a=>by
  unfold HY;rw[zddsZ,Ug]
  constructor
  ·rintro((h | h) | h)
   ·exact .inl h
   ·exact .inr (by omega)
   ·exact .inr (by omega)
  ·rintro(h | h)
   ·exact .inl (.inl h)
   ·by_cases c:a=no
    ·exact .inl (.inr c)
    ·exact .inr (by omega)
theorem zdidZ:∀{k:Nat} {l:List Ext} (hs:srt l) (no p:Int),PK (HY l no k) p=PK l p
 | 0,l,hs,no,p=>rfl
 | k+1,l,hs,no,p=>by
  unfold HY;rw[zdidZ (Kg hs no),tV hs]
theorem kU:∀{k:Nat} {l:List Ext} {no:Int},HY l no (k+1)=DX (HY l no k) (no+k)
 | 0,l,no=>by simp[HY]
 | k+1,l,no=>by
  show HY (DX l no) (no+1) (k+1)=_
  rw[kU (k:=k)]
  show DX (HY (DX l no) (no+1) k) (no+1+k)=DX (HY (DX l no) (no+1) k) (no+(k+1:Nat))
  congr 1;omega
theorem kS:∀{k:Nat} {l:List Ext} {no:Int},(HY l no k).length≤l.length+k∧l.length≤(HY l no k).length
 | 0,l,no=>by simp[HY]
 | k+1,l,no=>by
  unfold HY;have h1:=kS (k:=k) (l:=DX l no) (no:=no+1);have h2:=dJ l no;omega
def allocN (pos n:Int):Nat:=((pos+n - 1)/8 - pos/8+1).toNat
def N4 (l:List Ext)(pos n:Int):List Ext:=HY l (pos/8) (allocN pos n)
abbrev Lv:=Int×List Ext
def Dx (c:Lv)(pos:Int)(bs:List UInt8):Option Lv:=
 if Dh c.1 c.2∧0≤pos∧bs.length≤4096∧pos≤1099511627776 - bs.length then some (if bs=[]then c else(max c.1 (pos+bs.length),BH c.2 pos bs))else none
def Cl (c:Lv)(size:Int):Option Lv:=if Dh c.1 c.2∧0≤size∧size≤1099511627776 then some (size,Fg c.2 size)else none
def Cj (c:Lv)(pos n:Int)(keep:Bool):Option Lv:=
 if Dh c.1 c.2∧0≤pos∧1≤n∧n≤32768∧pos≤1099511627776 - n then some (if keep then c.1 else max c.1 (pos+n),N4 c.2 pos n)else none
def CM (c:Lv)(pos n:Int):Option Lv:=
 if Dh c.1 c.2∧0≤pos∧1≤n∧n≤1099511627776∧pos≤1099511627776 - n then some (c.1,Fr c.2 pos n)else none
theorem RS {size:Int}{l:List Ext}:Dh size l↔0≤size∧size≤1099511627776∧srt l∧(∀no,BG l no→0≤no∧no<137438953472)∧∀p,size≤p→PK l p=0:=by
 unfold Dh;rw[zdknZ]
theorem iA {c d:Lv}{pos:Int}{bs:List UInt8}(h:Dx c pos bs=some d):Dh d.1 d.2:=by
 unfold Dx at h;split at h
 ·rename_i g
  injection h with h;subst h
  split
  ·exact g.1
  ·rename_i hb
   have hlen:0<bs.length:=List.length_pos_iff.2 hb;obtain⟨g1,g2,g3,g4⟩:=g;rw[RS]at g1⊢;obtain⟨a1,a2,a3,a4,a5⟩:=g1;refine⟨by simp only;omega,by simp only;omega,eG a3 pos,?_,?_⟩
   ·intro no hno
    rcases W3.1 hno with h | ⟨q,h1,h2,h3⟩
    ·exact a4 no h
    ·omega
   ·intro p hp
    simp only at hp;rw[uY a3,if_neg (by omega)];exact a5 p (by omega)
 ·cases h
theorem wR {c d:Lv}{size:Int}(h:Cl c size=some d):Dh d.1 d.2:=by
 unfold Cl at h;split at h
 ·rename_i g
  injection h with h;subst h;obtain⟨g1,g2,g3⟩:=g;rw[RS]at g1⊢;obtain⟨a1,a2,a3,a4,a5⟩:=g1;refine⟨g2,g3,zdljZ a3 size,λno hno=>a4 no (zdliZ.1 hno).1,λp hp=>?_⟩;rw[zdolZ a3 (λno h=>(a4 no h).2),if_neg (by simp only at hp;omega)]
 ·cases h
theorem wP {c d:Lv}{pos n:Int}{keep:Bool}(h:Cj c pos n keep=some d):Dh d.1 d.2:=by
 unfold Cj at h;split at h
 ·rename_i g
  injection h with h;subst h;obtain⟨g1,g2,g3,g4,g5⟩:=g;rw[RS]at g1⊢;obtain⟨a1,a2,a3,a4,a5⟩:=g1;refine⟨by simp only;split<;>omega,by simp only;split<;>omega,kT a3 _,λno hno=>?_,λp hp=>?_⟩
  ·rcases zddsZ.1 hno with h | h
   ·exact a4 no h
   ·unfold allocN at h;omega
  ·unfold N4
   rw[zdidZ a3];refine a5 p ?_;simp only at hp;split at hp<;>omega
 ·cases h
theorem wQ {c d:Lv}{pos n:Int}(h:CM c pos n=some d):Dh d.1 d.2:=by
 unfold CM at h;split at h
 ·rename_i g
  injection h with h;subst h;obtain⟨g1,g2,g3,g4,g5⟩:=g;rw[RS]at g1⊢;obtain⟨a1,a2,a3,a4,a5⟩:=g1;refine⟨a1,a2,zdkrZ a3 _ _,λno hno=>a4 no (zdkqZ.1 hno).1,λp hp=>?_⟩;rw[zdoiZ a3]
  split
  ·rfl
  ·exact a5 p hp
 ·cases h
theorem AD {v:AV}(h:AZ v=true):oneA v=true:=by
 unfold AZ at h;split at h
 ·rfl
 ·rfl
 ·rfl
 ·cases h
theorem HO {α:Type}{enc:α→List AV}{sz:Nat}(hsz:∀x,(enc x).length=sz):∀(l:List α) (i:Nat),(l.flatMap enc).take (i*sz)=(l.take i).flatMap enc
 | [],i=>by simp
 | a::l,0=>by simp
 | a::l,i+1=>by
  have ha:=hsz a;rw[Ar8,Aj9,Aj9,← HO hsz l i,show(i+1)*sz=(enc a).length+i*sz by rw[ha,Al5];omega,List.take_length_add_append]
theorem Gz {α:Type}{enc:α→List AV}{sz:Nat}(hsz:∀x,(enc x).length=sz):∀(l:List α) (i:Nat),(l.flatMap enc).drop (i*sz)=(l.drop i).flatMap enc
 | [],i=>by simp
 | a::l,0=>by simp
 | a::l,i+1=>by
  have ha:=hsz a;rw[List.drop_succ_cons,Aj9,← Gz hsz l i,show(i+1)*sz=(enc a).length+i*sz by rw[ha,Al5];omega,List.drop_length_add_append]
def Grew (H H':AH):Prop:=H.length≤H'.length∧∀i,i<H.length→H'[i]?=H[i]?
theorem Grew.refl (H:AH):Grew H H:=⟨Ah9 _,λ_ _=>rfl⟩
theorem Grew.trans {A B C:AH}(h:Grew A B)(k:Grew B C):Grew A C:=⟨Aj0 h.1 k.1,λi hi=>(k.2 i (Ak8 hi h.1)).trans (h.2 i hi)⟩
theorem Grew.app (H X:AH):Grew H (H++X):=⟨by simp,λi hi=>Ah6 hi⟩
theorem Grew.cells {H H':AH}(h:Grew H H'){o:Nat}{x:Option AObj}(ho:H[o]?=some x):H'[o]?=some x:=by
 rw[h.2 o (BE.1 ho).1];exact ho
theorem Grew.slice {H H':AH}(h:Grew H H'){sz:Nat}{v:AV}{q:List AV×Nat}(hv:Ac H sz v=some q):Ac H' sz v=some q:=
 Ae hv λi hi=>h.2 i (Az hv i hi)
theorem L0 {H:AH}{sz:Nat}{v:AV}{cs:List AV}{n:Nat}(h:Ac H sz v=some (cs,n)):(v=Ad∧cs=[]∧n=0)∨ZQ .eql RV v Ad=some (B false):=by
 unfold Ac at h;split at h
 ·exact .inr rfl
 ·exact .inr rfl
 ·injection h with h;injection h with h1 h2;exact .inl ⟨rfl,h1.symm,h2.symm⟩
 ·exact .inr rfl
 ·cases h
theorem YY {H:AH}{v:AV}{cs:List AV}{n:Nat}(h:Ac H 9 v=some (cs,n))(hn:n≤1000000000):
  ∃r H',(AZ r=true∧Ac H' 9 r=some (cs,n)∧Grew H H'∧∀i∈AM r,H.length≤i)∧BCall prog 137 [v] H r H':=K7 (by
 unfold FP;rcases L0 h with⟨rfl,rfl,rfl⟩ | hb
 ·have e:ZQ .eql RV Ad Ad=some (B true):=rfl
  simp only[e,Aa6,As];exact⟨rfl,h,Grew.refl H,by simp[AM]⟩
 ·simp only[hb,Aa6,Ak]
  have e:D9 H 9 0 (B4 [(I 0),u0Z,u0Z,u0Z,u0Z,u0Z,u0Z,u0Z,u0Z] 0) []=some (.sl H.length 0 0 9 (.ex 0),H++[some (.cells [])]):=rfl;simp only[e,A6];have g:=Grew.app H [some (.cells [])];obtain⟨r,H2,a1,a2,a3,a4,a5,a6⟩:=BX (sz:=9) (bytes:=16) (H:=H++[some (.cells [])]) (v:=.sl H.length 0 0 9 (.ex 0)) (cs:=[]) (n:=0) (by simp[Ac]) rfl (A1 (g.slice h)) (by omega);simp only[a1,A6];refine⟨a2,by simpa using a3,⟨by simp at a4;omega,λi hi=>?_⟩,λi hi=>?_⟩
  ·rw[a5 i (by simp;omega) (by simp[AM];omega)]
   exact g.2 i hi
  ·rcases a6 i hi with h | h
   ·simp[AM]at h;omega
   ·simp at h;omega)
theorem WC {H:AH}{size:Int}{v:AV}{cs:List AV}{n:Nat}(h:Ac H 9 v=some (cs,n))(h1:oneA v=true)(hn:n≤1000000000):
  ∃r H',(∃w,r=.agg [I size,w]∧AZ w=true∧Ac H' 9 w=some (cs,n)∧Grew H H'∧∀i∈AM w,H.length≤i)∧BCall prog 91 [.agg [I size,v]] H r H':=Yn (by
 unfold V4;have g:=Grew.app H [some (.cells [I size,v]),some (.cells [I 0,Ad])];obtain⟨w,H2,⟨a2,a3,a4,a5⟩,a1⟩:=YY (g.slice h) hn;have c0:=a4.cells (o:=H.length) (x:=some (.cells [I size,v])) (by simp);have c1:=a4.cells (o:=H.length+1) (x:=some (.cells [I 0,Ad])) (by rw[Ai1 (by omega)];simp);have l2:H.length+2≤H2.length:=by have:=a4.1;simpa using this
 have hw:=AD a2;simp[h1];refine bC_of a1 ?_;simp[Bs hw];rw[AK (n:=2) (off:=0) (x:=.agg [I size,w]) (xs:=[I size,w]) (cs:=[I 0,Ad]) (by simp[hw]) c1 rfl (by simp)];simp[show H.length+1<H2.length by omega,c0,Ax];refine⟨a2,Ae a3 λi hi=>Cc ?_,?_,λi hi=>?_⟩
 ·have:=a5 i hi;simp at this;omega
 ·refine⟨by simp;omega,λi hi=>?_⟩
  rw[Cc (by omega),a4.2 i (by simp;omega),g.2 i hi]
 ·have:=a5 i hi;simp at this;omega)
theorem zdgqZ {H:AH}{s:AV}{cs:List AV}{n ov i:Nat}{x:Ext}(hs:Ac H 9 s=some (cs,n))(ho:AZ s=true)(hi:i≤n)(hn:n≤100000000)(hv:H[ov]?=some (some (.cells (AB x))))(hne:ov∉AM s):
  ∃r H',zdmaZ H s (cs.take (i*9)++AB x++cs.drop (i*9)) n r H'∧BCall prog 143 [s,I i,.sl ov 0 1 9 (.ex 1)] H r H':=by
 have hcl:=B7 hs;rcases Ai0 i n with h | h
 ·obtain⟨o,off,cap,cells,rfl,h1,h2,rfl⟩:=I7 hs ho (by omega)
  have hov:ov≠o:=by simpa[AM]using hne
  have hol:=(BE.1 h1).1;have hxl:=AE x;have e1:((cells.drop off).take (n*9)).take (i*9)=(cells.drop off).take (i*9):=by rw[An4];congr 1;omega
  have e2:((cells.drop off).take (n*9)).drop (i*9)=(cells.drop (off+i*9)).take ((n - i)*9):=by rw[Ap4,An3];congr 1;omega
  refine⟨_,_,?_,zddaZ h1 h2 h hn hv hov⟩;rw[e1,e2];refine⟨rfl,?_,by simp,λj hj hn=>?_,λj hj=>.inr (by simp[AM]at hj;omega)⟩
  ·rw[Br (c:=(cells.drop off).take (i*9)++AB x++(cells.drop (off+i*9)).take ((n - i)*9)) (by rw[Ai1 (by simp)];simp) (by simp;omega)]
   rw[Ak9,Ai2 (by simp;omega)]
  ·rw[Ah6 (by simpa using hj),Cc (by simp[AM]at hn;omega)]
 ·have:i=n:=by omega
  subst this;obtain⟨r,H',h1,h2⟩:=zdczZ hs ho hn hv;refine⟨r,H',?_,h2⟩;rw[Ai2 (by omega),Aj5 (by omega),Al4];exact h1
def sM (H:AH)(oc:Nat)(size:Int)(v:AV)(l:List Ext)(H':AH):Prop:=
 ∃v',H'[oc]?=some (some (.cells [I size,v']))∧Ac H' 9 v'=some (l.flatMap AB,l.length)∧AZ v'=true∧oc∉AM v'∧H.length≤H'.length∧(∀i,i<H.length→i≠oc→i∉AM v→H'[i]?=H[i]?)∧∀i∈AM v',i∈AM v∨H.length≤i
theorem bN (no:Int):AB (QI no)=[I no,.lit (.int .u8 0),.lit (.int .u8 0),.lit (.int .u8 0),.lit (.int .u8 0),.lit (.int .u8 0),.lit (.int .u8 0),.lit (.int .u8 0),.lit (.int .u8 0)]:=rfl
theorem TN {H:AH}{oc:Nat}{size no:Int}{v:AV}{l:List Ext}(hc:H[oc]?=some (some (.cells [I size,v])))(hv:Ac H 9 v=some (l.flatMap AB,l.length))(ho:AZ v=true)(hne:oc∉AM v)(hs:srt l)(hl:l.length≤100000000):
  ∃H',sM H oc size v (DX l no) H'∧BCall prog 92 [.ptr oc 0,I no] H (I (posL l no)) H':=by
 have key:∃r H',(r=I (posL l no)∧sM H oc size v (DX l no) H')∧BCall prog 92 [.ptr oc 0,I no] H r H':=cD (by
  unfold Zd;have hol:=(BE.1 hc).1;obtain⟨R,hR,fR⟩:=FZ.sv hv (D0 λx _=>Hd x);have h1:=AD ho;simp[hc];refine bP_of (PCall.lend (FZs.cons fR (FZs.cons (FZ.lit _) FZs.nil)) rfl (TQ hR hs (by omega) no)) ?_;simp
  by_cases hh:BG l no
  ·have e:DX l no=l:=if_pos hh
   simp[hh];rw[Pp];unfold Lx;rw[e];exact⟨rfl,v,hc,hv,ho,hne,Ah9 _,λ_ _ _ _=>rfl,λi hi=>.inl hi⟩
  ·have e:DX l no=l.take (posL l no)++QI no::l.drop (posL l no):=if_neg hh
   simp[hh];have g:=Grew.app H [some (.cells (AB (QI no)))];obtain⟨r,H2,⟨b1,b2,b3,b4,b5⟩,a1⟩:=zdgqZ (x:=QI no) (ov:=H.length) (g.slice hv) ho (aC l no) hl (by simp) (λh=>by have:=Az hv _ h;omega);rw[← bN];refine bC_of a1 ?_
   have c2:H2[oc]?=some (some (.cells [I size,v])):=by
    rw[b4 oc (by simp;omega) hne];exact g.cells hc
   have hr:=AD b1;have hol2:=(BE.1 c2).1;rw[AK (n:=1) (off:=1) (xs:=[r]) (cs:=[I size,v]) (Bs hr) c2 rfl (by simp)];simp;rw[Pp];unfold Lx;have hoc:oc∉AM r:=λh=>(b5 oc h).elim hne (λh=>by simp at h;omega)
   refine⟨rfl,r,by simp[hol2],?_,b1,hoc,by simp at b3;simp;omega,λi hi h1 h2=>?_,λi hi=>(b5 i hi).imp id (λh=>by simp at h;omega)⟩
   ·rw[Ae b2 (λi hi=>Cc (fun (h:oc=i)=>hoc (h▸hi)))]
    rw[HO AE,Gz AE,e,Al7,Aj9,Ai8]
    have:=aC l no
    simp;omega
   ·rw[Cc (by omega),b4 i (by simp;omega) h2]
    exact g.2 i hi)
 obtain⟨r,H',⟨rfl,h1⟩,h2⟩:=key;exact⟨H',h1,h2⟩
section
variable {κ α : Type} {c : κ→κ→Int} {key : α→κ}
abbrev As2:=@List.getLast?_eq_getElem?
theorem UL (hc:KO c){l:List α}{x:α}:Cx c key (l++[x])↔Cx c key l∧∀y,l.getLast?=some y→c (key y) (key x)<0:=by
 unfold Cx;rw[Ap0]
 constructor
 ·rintro⟨h1,-,h3⟩
  exact⟨h1,λy hy=>h3 y (List.mem_of_getLast? hy) x (by simp)⟩
 ·rintro⟨h1,h2⟩
  refine⟨h1,List.pairwise_singleton _ _,λa ha b hb=>?_⟩;rw[Ao4]at hb;subst hb;obtain⟨m,hm⟩:=Aj2.1 ha;have hl:=(BE.1 hm).1;have hy:l.getLast?=some (l[l.length - 1]):=by rw[As2,DD (by omega)]
  have h3:=h2 _ hy;rcases Ai0 m (l.length - 1)with h | h
  ·exact hc.trans _ _ _ (M0 h1 hm (DD (by omega)) h) h3
  ·have:m=l.length - 1:=by omega
   subst this;rw[DD (by omega)]at hm;injection hm with hm;rw[← hm];exact h3
end
def wT (l:List Nm):Prop:=(∀x∈l,DE x.name∧1≤x.ino∧x.ino≤4611686018427387904)∧Cx Bk Nm.name l∧(l.map Nm.ino).Nodup
instance (l:List Nm):Decidable (wT l):=by unfold wT;infer_instance
def Xu (l:List Nm):Prop:=l.length≤16∧wT l
instance (l:List Nm):Decidable (Xu l):=by unfold Xu;infer_instance
abbrev Ak1:=@List.mem_map_of_mem
theorem QJ {l:List Nm}{x:Nm}:wT (l++[x])↔wT l∧(DE x.name∧(∀y,l.getLast?=some y→Bk y.name x.name<0)∧1≤x.ino∧x.ino≤4611686018427387904∧¬Be Nm.ino l x.ino):=by
 unfold wT;rw[UL koN,Ak2,List.nodup_append];simp only[Ab3,Ae0,Ao7,List.not_mem_nil,not_false_eq_true,Au3,and_self,true_and]
 constructor
 ·rintro⟨h1,⟨h2,h3⟩,h4,h5⟩
  refine⟨⟨λy hy=>h1 y (.inl hy),h2,h4⟩,(h1 x (.inr rfl)).1,h3,(h1 x (.inr rfl)).2.1,(h1 x (.inr rfl)).2.2,?_⟩;rintro⟨y,hy,e⟩;exact h5 y.ino (Ak1 hy) x.ino rfl e
 ·rintro⟨⟨h1,h2,h4⟩,h5,h6,h7,h8,h9⟩
  refine⟨?_,⟨h2,h6⟩,h4,?_⟩
  ·rintro y (hy | rfl)
   ·exact h1 y hy
   ·exact⟨h5,h7,h8⟩
  ·rintro a ha b rfl e
   obtain⟨y,hy,e2⟩:=Ak7.1 ha;exact h9 ⟨y,hy,by rw[e2,e]⟩
theorem uA {a b:List Nm}(h:wT (a++b)):wT a:=by
 unfold wT at h⊢;refine⟨λx hx=>h.1 x (by simp[hx]),(Ap0.1 h.2.1).1,?_⟩
 have:=h.2.2
 rw[Ak2,List.nodup_append]at this;exact this.1
def Yy (l:List Nm):List (Int×AV):=l.map λx=>(x.ino,B true)
theorem gX (l:List Nm)(k:Int):Wl (B false) (Yy l) k=B (decide (Be Nm.ino l k)):=by
 induction l with
 | nil=>simp[Wl,Yy,Be]
 | cons a l ih=>
  unfold Wl Yy at ih⊢;rw[Ao8]
  by_cases h:a.ino=k
  ·rw[At2 (by simp[h])]
   have:Be Nm.ino (a::l) k:=⟨a,by simp,h⟩;simp[this]
  ·rw[Ap7 (by simp[h]),ih]
   have:Be Nm.ino (a::l) k↔Be Nm.ino l k:=by
    unfold Be;simp[h]
   simp[this]
theorem xB {l:List Nm}{x:Nm}(h:¬Be Nm.ino l x.ino):rW (Yy l) x.ino (B true)=Yy (l++[x]):=by
 unfold rW
 have:(Yy l).findIdx? (λp=>p.1==x.ino)=none:=by
  rw[Am9];intro p hp;obtain⟨y,hy,rfl⟩:=Ak7.1 hp;simp only[beq_eq_false_iff_ne,ne_eq];exact λe=>h ⟨y,hy,e⟩
 rw[this];simp[Yy]
def zdmcZ (H:AH)(l:List Nm)(r:AV)(H':AH):Prop:=Grew H H'∧
 (Xu l→∃o,r=.tup [.mp o,B true]∧H'[o]?=some (some (.map (WK (Yy l)))))∧(¬Xu l→r=.tup [.lit (.map none),B false])
theorem zdgvZ {H:AH}{l:List Nm}{v:AV}(hv:SV Cb 2 l v)(hl:l.length≤281474976710656)(hs:∀x∈l,x.name.length≤9223372036854775807):∃r H',zdmcZ H l r H'∧BCall prog 133 [v] H r H':=cZ (by
 unfold Zm
 by_cases h16:l.length≤16
 ·have e16:¬(16:Int)<l.length:=by omega
  simp[hv.len,e16];refine UX (λn x0 x4 x11 x12 x13 H'=>∃k:Nat,k+n=l.length∧x0=v∧x4=.mp H.length∧x11=v∧x12=I l.length∧x13=I k∧Grew H H'∧H'[H.length]?=some (some (.map (WK (Yy (l.take k)))))∧wT (l.take k)) ?_ l.length ⟨0,by omega,rfl,rfl,rfl,rfl,rfl,Grew.app _ _,by simp;rfl,by simp[wT,Cx]⟩;rintro n x0 x4 x11 x12 x13 H' R hR ⟨k,hk,rfl,rfl,rfl,rfl,rfl,hg,hm,hok⟩;unfold QE;rcases Ai0 k l.length with h | h
  ·have hx:=DD h
   generalize l[k]=x at hx;have htk:l.take (k+1)=l.take k++[x]:=by rw[Al0,hx];rfl
   have hgt:∀y,(l.take k).getLast?=some y↔0<k∧l[k - 1]?=some y:=by
    intro y;rw[As2,Ah8,Ao1 (by omega),Ai4]
    by_cases c:0<k
    ·rw[if_pos (by omega)];exact⟨λh=>⟨c,h⟩,λh=>h.2⟩
    ·rw[if_neg (by omega)];exact⟨λh=>(by cases h),λh=>absurd h.1 c⟩
   have hstep:Xu l→DE x.name∧(∀y,0<k∧l[k - 1]?=some y→Bk y.name x.name<0)∧1≤x.ino∧x.ino≤4611686018427387904∧¬Be Nm.ino (l.take k) x.ino:=by
    rintro⟨-,ho⟩;rw[← Am4 (k+1) l,htk]at ho
    have:=(QJ.1 (uA ho)).2
    simpa only[hgt]using this
   have hsx:=hs x (Ah7 hx);have g1:=Grew.app H' [some (.cells (Cb x))];have c1:(H'++[some (AObj.cells [S (B9 x.name),I x.ino])])[H.length]?=some (some (.map (WK (Yy (l.take k))))):=g1.cells hm
   have ea:AP 2 (H'++[some (.cells [S (B9 []),I 0])]) (.ptr H'.length 0) (.agg (Cb x))=some (H'++[some (.cells (Cb x))]):=by
    simp[AP,Cb,Bm]
   simp[h,hv.idx BT hx rfl,oW,aT,ea];simp[Cb];refine bP_of (Qn (s:=x.name) (by omega)) ?_;have hno:¬(DE x.name∧(∀y,0<k∧l[k - 1]?=some y→Bk y.name x.name<0)∧1≤x.ino∧x.ino≤4611686018427387904∧¬Be Nm.ino (l.take k) x.ino)→zdmcZ H l (.tup [.lit (.map none),B false]) (H'++[some (.cells (Cb x))]):=λhn=>⟨hg.trans g1,λhh=>absurd (hstep hh) hn,λ_=>rfl⟩
   have key:(∀y,0<k∧l[k - 1]?=some y→Bk y.name x.name<0)→DE x.name→True:=λ_ _=>trivial
   by_cases a1:DE x.name
   ·have hal:lW (.int .i64) (.bool false) (H'++[some (AObj.cells [S (B9 x.name),I x.ino])]) (.mp H.length) (I x.ino) false=some (B (decide (Be Nm.ino (l.take k) x.ino))):=by
     rw[jH c1];exact congrArg some (gX _ _)
    have ham:¬Be Nm.ino (l.take k) x.ino→zdfgZ (.int .i64) (H'++[some (AObj.cells [S (B9 x.name),I x.ino])]) (.mp H.length) (I x.ino) (B true)=some ((H'++[some (AObj.cells [S (B9 x.name),I x.ino])]).set H.length (some (.map (WK (Yy (l.take k++[x])))))):=λhn=>by
     rw[sZ c1,xB hn]
    have hol:H.length<H'.length:=(BE.1 hm).1;rcases Am1 k with h0 | hk0
    ·have e0:¬0<k:=by omega
     have a5:∀y,(l.take k).getLast?=some y→Bk y.name x.name<0:=λy hy=>by have:=(hgt y).1 hy;omega
     by_cases a2:x.ino<1
     ·simp[a1,e0,a2]
      exact hno λhh=>by omega
     ·by_cases a3:4611686018427387904<x.ino
      ·simp[a1,e0,a2,a3]
       exact hno λhh=>by omega
      ·by_cases a4:Be Nm.ino (l.take k) x.ino
       ·simp[a1,e0,a2,a3,hal,a4]
        exact hno λhh=>hh.2.2.2.2 a4
       ·simp[a1,e0,a2,a3,hal,a4,ham a4,Au (a:=(k:Nat)) (b:=1) (by omega) (by omega)]
        refine hR (n - 1) _ _ _ _ _ _ (by omega) ⟨k+1,by omega,rfl,rfl,rfl,rfl,by simp,⟨Aj0 (hg.trans g1).1 (As5 List.length_set.symm),λi hi=>(Cc (by omega)).trans ((hg.trans g1).2 i hi)⟩,by rw[htk,JY (by simp;omega)],by rw[htk,QJ];exact⟨hok,a1,a5,by omega,by omega,a4⟩⟩
    ·have e0:0<k:=hk0
     have hy:=DD (l:=l) (i:=k - 1) (by omega);generalize l[k - 1]=y at hy;have es:Ar .sub (I k) (I 1)=some (I ((k - 1:Nat):Int)):=by rw[B2 (by omega) (by omega)];congr 3;omega
     have ei:=hv.idx BT hy (i:=((k - 1:Nat):Int)) rfl
     by_cases a6:Bk y.name x.name<0
     ·have a5:∀y,(l.take k).getLast?=some y→Bk y.name x.name<0:=λz hz=>by have:=((hgt z).1 hz).2;rw[hy]at this;injection this with this;rw[← this];exact a6
      by_cases a2:x.ino<1
      ·simp[a1,e0,es,ei,VY,U4,a6,a2]
       exact hno λhh=>by omega
      ·by_cases a3:4611686018427387904<x.ino
       ·simp[a1,e0,es,ei,VY,U4,a6,a2,a3]
        exact hno λhh=>by omega
       ·by_cases a4:Be Nm.ino (l.take k) x.ino
        ·simp[a1,e0,es,ei,VY,U4,a6,a2,a3,hal,a4]
         exact hno λhh=>hh.2.2.2.2 a4
        ·simp[a1,e0,es,ei,VY,U4,a6,a2,a3,hal,a4,ham a4,Au (a:=(k:Nat)) (b:=1) (by omega) (by omega)]
         refine hR (n - 1) _ _ _ _ _ _ (by omega) ⟨k+1,by omega,rfl,rfl,rfl,rfl,by simp,⟨Aj0 (hg.trans g1).1 (As5 List.length_set.symm),λi hi=>(Cc (by omega)).trans ((hg.trans g1).2 i hi)⟩,by rw[htk,JY (by simp;omega)],by rw[htk,QJ];exact⟨hok,a1,a5,by omega,by omega,a4⟩⟩
     ·simp[a1,e0,es,ei,VY,U4,a6]
      exact hno λhh=>a6 (hh.2.1 y ⟨hk0,hy⟩)
   ·simp[a1]
    exact hno λhh=>a1 hh.1
  ·have:l.take k=l:=Ai2 (by omega)
   rw[this]at hm hok;simp[show ¬k<l.length by omega];exact⟨hg,λ_=>⟨_,rfl,hm⟩,λhn=>absurd ⟨h16,hok⟩ hn⟩
 ·have e16:(16:Int)<l.length:=by omega
  have:¬Xu l:=λh=>h16 h.1
  simp[hv.len,e16];exact⟨Grew.refl _,λh=>absurd h this,λ_=>rfl⟩)
end
section
def zddtZ (ns:List Nm)(ds:List Nd):Prop:=Cx BP Nd.ino ds∧∀d∈ds,Be Nm.ino ns d.ino∧Dh d.size d.l
instance (ns:List Nm) (ds:List Nd):Decidable (zddtZ ns ds):=by unfold zddtZ;infer_instance
def EO (ns:List Nm)(ds:List Nd):Prop:=Xu ns∧ds.length=ns.length∧zddtZ ns ds
instance (ns:List Nm) (ds:List Nd):Decidable (EO ns ds):=by unfold EO;infer_instance
def Sm (ns:List Nm)(ds:List Nd):Prop:=ns.length≤100000∧ds.length≤100000∧(∀x∈ns,x.name.length≤9223372036854775807)∧∀d∈ds,d.l.length≤1000000
def ImV (ns:List Nm)(ds:List Nd)(v:AV):Prop:=∃a b dv,v=.agg [a,b]∧SV Cb 2 ns a∧SV Cw 3 dv b∧dv.map NdV.nd=ds
theorem ImV.noIds {ns:List Nm}{ds:List Nd}{v:AV}(h:ImV ns ds v):A5 [v]=true:=by
 obtain⟨a,b,dv,rfl,h1,h2,rfl⟩:=h;simp[A5,Av.noIds,h1.1,h2.1]
theorem oN {ns:List Nm}{ds:List Nd}{d:Nd}:zddtZ ns (ds++[d])↔zddtZ ns ds∧(∀y,ds.getLast?=some y→y.ino<d.ino)∧Be Nm.ino ns d.ino∧Dh d.size d.l:=by
 unfold zddtZ;rw[UL koI];simp only[Pf,Ab3]
 constructor
 ·rintro⟨⟨h1,h2⟩,h3⟩
  exact⟨⟨h1,λy hy=>h3 y (.inl hy)⟩,h2,h3 d (.inr rfl)⟩
 ·rintro⟨⟨h1,h3⟩,h2,h4⟩
  refine⟨⟨h1,h2⟩,?_⟩;rintro y (hy | rfl)
  ·exact h3 y hy
  ·exact h4
theorem zdgxZ {ns:List Nm}{a b:List Nd}(h:zddtZ ns (a++b)):zddtZ ns a:=
 ⟨(Ap0.1 h.1).1,λd hd=>h.2 d (by simp[hd])⟩
theorem JZ {α:Type}{l:List α}{k:Nat}(hk:k≤l.length)(y:α):(l.take k).getLast?=some y↔0<k∧l[k - 1]?=some y:=by
 rw[As2,Ah8,Ao1 hk,Ai4]
 by_cases c:0<k
 ·rw[if_pos (by omega)];exact⟨λh=>⟨c,h⟩,λh=>h.2⟩
 ·rw[if_neg (by omega)];exact⟨λh=>(by cases h),λh=>absurd h.1 c⟩
theorem EL {α:Type}{l:List α}{k:Nat}{x:α}(hx:l[k]?=some x):l.take (k+1)=l.take k++[x]:=by rw[Al0,hx];rfl
abbrev At1:=@List.getLast?_map
theorem lY {ns:List Nm}{ds:List Nd}{v:AV}(hv:ImV ns ds v)(hb:Sm ns ds):BPure prog 82 [v] (B (decide (EO ns ds))):=BPure.val hv.noIds rfl (kE (by
 obtain⟨a,b,dv,rfl,ha,hbv,rfl⟩:=hv;have b1:=hb.1;have b2:=hb.2.1;rw[Aj1]at b2;unfold gT;have oa:=SV.oneA ha;have ob:=SV.oneA hbv;simp[oa,ob];obtain⟨r,H5,⟨hg,hy,hn⟩,hc⟩:=zdgvZ (H:=[some (.cells [a,b])]) ha (by omega) (λx hx=>by have:=hb.2.2.1 x hx;omega);refine bC_of hc ?_;have c0:H5[0]?=some (some (.cells [a,b])):=hg.cells rfl
 by_cases hm:Xu ns
 ·obtain⟨o,rfl,hmap⟩:=hy hm
  have hal:qF H5 (.mp o)=some (I ns.length):=by
   simp[qF,hmap,WK,Yy,goInt]
  simp[c0,hbv.len,hal]
  by_cases hlen:dv.length=ns.length
  ·have hlI:¬((dv.length:Int)≠ns.length):=by omega
   simp[hlen];refine Xc (λn x3 x5 x25 x26 x27 H'=>∃k:Nat,k+n=dv.length∧x3=.mp o∧(∃last:Int,x5=I last∧0≤last∧(∀y,(dv.take k).getLast?=some y→y.ino≤last)∧(last=0∨∃y,(dv.take k).getLast?=some y∧y.ino=last))∧x25=b∧x26=I ns.length∧x27=I k∧Grew H5 H'∧zddtZ ns ((dv.take k).map NdV.nd)) ?_ dv.length ⟨0,by omega,rfl,⟨0,rfl,by omega,by simp,.inl rfl⟩,rfl,rfl,rfl,Grew.refl _,by simp[zddtZ,Cx]⟩;rintro n x3 x5 x25 x26 x27 H' R hR ⟨k,hk,rfl,⟨last,rfl,hl0,hl1,hl2⟩,rfl,rfl,rfl,hg2,hok⟩;unfold TW;rcases Ai0 k ns.length with h | h
   ·have hx:=DD (l:=dv) (i:=k) (by omega)
    generalize dv[k]=d at hx
    have ea:AP 3 (H'++[some (.cells [I 0,I 0,Ad])]) (.ptr H'.length 0) (.agg (Cw d))=some (H'++[some (.cells (Cw d))]):=by
     have:=SV.oneA d.h
     simp[AP,Cw,Bm,this]
    have g1:=Grew.app H' [some (.cells (Cw d))];have c1:(H'++[some (AObj.cells [I d.nd.ino,I d.nd.size,d.R])])[o]?=some (some (.map (WK (Yy ns)))):=g1.cells (hg2.cells hmap)
    have hal2:lW (.int .i64) (.bool false) (H'++[some (AObj.cells [I d.nd.ino,I d.nd.size,d.R])]) (.mp o) (I d.nd.ino) false=some (B (decide (Be Nm.ino ns d.nd.ino))):=by
     rw[jH c1];exact congrArg some (gX _ _)
    have hdl:d.nd.l.length≤281474976710656:=by
     have:=hb.2.2.2 d.nd (Ak1 (Ah7 hx));omega
    have htk:=EL hx
    have hstep:EO ns (dv.map NdV.nd)→last<d.nd.ino∧Be Nm.ino ns d.nd.ino∧Dh d.nd.size d.nd.l:=by
     rintro⟨-,-,ho⟩;rw[← Am4 (k+1) dv,htk,Ak2,Ak2]at ho;have h3:=(oN.1 (zdgxZ ho)).2;refine⟨?_,h3.2⟩;rcases hl2 with rfl | ⟨y,hy,rfl⟩
     ·obtain⟨x,hx,e⟩:=h3.2.1
      have:=(hm.2.1 x hx).2.1
      omega
     ·exact h3.1 y.nd (by rw[At1,hy];rfl)
    simp[h,hbv.idx BL hx rfl,uN,ea];simp[Cw]
    by_cases a1:d.nd.ino≤last
    ·have:¬EO ns (dv.map NdV.nd):=λhh=>by have:=(hstep hh).1;omega
     simp[a1,this]
    ·by_cases a2:Be Nm.ino ns d.nd.ino
     ·simp[a1,hal2,a2,Ax]
      refine Ay (EM d.h hdl) ?_
      by_cases a3:Dh d.nd.size d.nd.l
      ·simp[a3,Au (a:=k) (b:=1) (by omega) (by omega)]
       refine hR (n - 1) _ _ _ _ _ _ (by omega) ⟨k+1,by omega,rfl,⟨d.nd.ino,rfl,by omega,?_,.inr ⟨d,by rw[htk];simp,rfl⟩⟩,rfl,rfl,by simp,hg2.trans g1,?_⟩
       ·intro y hy
        rw[htk]at hy;simp at hy;rw[← hy];exact Int.le_refl _
       ·rw[htk,Ak2]
        refine oN.2 ⟨hok,λy hy=>?_,a2,a3⟩;rw[At1]at hy;obtain⟨z,hz,rfl⟩:=Option.map_eq_some_iff.1 hy;have h9:z.nd.ino≤last:=hl1 z hz
        show z.nd.ino<d.nd.ino
        omega
      ·have:¬EO ns (dv.map NdV.nd):=λhh=>a3 (hstep hh).2.2
       simp[a3,this]
     ·have:¬EO ns (dv.map NdV.nd):=λhh=>a2 (hstep hh).2.1
      simp[a1,hal2,a2,this]
   ·have e:dv.take k=dv:=Ai2 (by omega)
    rw[e]at hok;have:EO ns (dv.map NdV.nd):=⟨hm,by simp[hlen],hok⟩;simp[show ¬k<ns.length by omega,this]
  ·have:¬EO ns (dv.map NdV.nd):=λh=>hlen (by simpa using h.2.1)
   have hlI:((dv.length:Int)≠ns.length):=by omega
   simp[hlI,this]
 ·have:¬EO ns (dv.map NdV.nd):=λh=>hm h.1
  rw[hn hm];simp[this]))
abbrev Ab7:=And.intro @Ak @Dd
abbrev Ac0:=And.intro @Aa6 @Bn
abbrev Ae8:=And.intro @Ab7 @Ac0
theorem Fe {s:List UInt8}(hs:s.length≤9223372036854775807):BPure prog 60 [S (B9 s)] (B (decide (DE s))):=BPure.flat λH=>Sc (by
 unfold MM;refine Np (λn x0 x3 H'=>∃k:Nat,k+n=s.length∧x0=S (B9 s)∧x3=I k∧H'=H∧(∀m y,m<k→s[m]?=some y→RR y)∧(0<k→s[0]?≠some 45)) ?_ s.length ⟨0,by omega,rfl,rfl,rfl,by omega,by omega⟩;rintro n x0 x3 H' R hR ⟨k,hk,rfl,rfl,rfl,hb,h45⟩;unfold IH;rw[gF (by omega)];rcases Ai0 k s.length with h | h
 ·have hx:=DD h
  generalize s[k]=y at hx;have hno:¬(RR y∧(k=0→¬(y.toNat:Int)=45))→¬DE s:=λhn hm=>hn ⟨hm.2.2.2 y (Ah7 hx),λe0 e=>hm.2.2.1 (by rw[← e0,hx];congr 1;exact(zdqeZ (k:=45) rfl).mp e)⟩
  have next:RR y→(k=0→¬(y.toNat:Int)=45)→R [S (B9 s),I ((k:Int)+1)] H':=λh1 h2=>hR (n - 1) _ _ _ (by omega) ⟨k+1,by omega,rfl,by simp,rfl,λm z hm hz=>by
   by_cases c:m=k
   ·rw[c,hx]at hz;injection hz with hz;rw[← hz];exact h1
   ·exact hb m z (by omega) hz,λ_=>by
   rcases Am1 k with rfl | h0
   ·rw[hx];intro e;injection e with e;exact h2 rfl ((zdqeZ (k:=45) rfl).mpr e)
   ·exact h45 h0⟩
  have e1:=Au (a:=k) (b:=1) (by omega) (by omega);simp[h,Yb rfl hx]
  by_cases c1:(y.toNat:Int)<97
  ·by_cases c2:(y.toNat:Int)<48
   ·by_cases c3:(y.toNat:Int)=46
    ·simp[c3,e1]
     exact next (by unfold RR;omega) (by omega)
    ·by_cases c4:(y.toNat:Int)=45
     ·rcases Am1 k with h0 | h0
      ·have:¬DE s:=hno λhh=>hh.2 h0 c4
       simp[c4,h0,this]
      ·simp[c4,e1,show ¬k=0 by omega]
       exact next (by unfold RR;omega) (by omega)
     ·have e95:¬(y.toNat:Int)=95:=by omega
      have:¬DE s:=hno λhh=>by unfold RR at hh;omega
      simp[c1,c2,c3,c4,e95,this]
   ·by_cases c3:(57:Int)<y.toNat
    ·by_cases c4:(y.toNat:Int)=95
     ·simp[c4,e1]
      exact next (by unfold RR;omega) (by omega)
     ·have e46:¬(y.toNat:Int)=46:=by omega
      have e45:¬(y.toNat:Int)=45:=by omega
      have:¬DE s:=hno λhh=>by unfold RR at hh;omega
      simp[c1,c2,c3,c4,e46,e45,this]
    ·simp[c1,c2,c3,e1]
     exact next (by unfold RR;omega) (by omega)
  ·by_cases c2:(122:Int)<y.toNat
   ·have e48:¬(y.toNat:Int)<48:=by omega
    have e57:(57:Int)<y.toNat:=by omega
    have e46:¬(y.toNat:Int)=46:=by omega
    have e95:¬(y.toNat:Int)=95:=by omega
    have e45:¬(y.toNat:Int)=45:=by omega
    have:¬DE s:=hno λhh=>by unfold RR at hh;omega
    simp[c1,c2,e48,e57,e46,e95,e45,this]
   ·simp[c1,c2,e1]
    exact next (by unfold RR;omega) (by omega)
 ·have hall:∀b∈s,RR b:=λb hb'=>by
   obtain⟨m,hm⟩:=Aj2.1 hb'
   have:=(BE.1 hm).1
   exact hb m b (by omega) hm
  have e0:¬k<s.length:=by omega
  rcases Am1 s.length with h0 | h0
  ·have:¬DE s:=λhm=>hm.1 (List.length_eq_zero_iff.1 h0)
   have e1:¬(1:Int)≤s.length:=by omega
   have e2:¬1≤s.length:=by omega
   simp only[Ae8,Int.ofNat_lt,e0];simp[h0,this]
  ·by_cases h20:s.length≤20
   ·have:DE s:=⟨λe=>by rw[e]at h0;simp at h0,h20,h45 (by omega),hall⟩
    have e1:(1:Int)≤s.length:=by omega
    have e2:(s.length:Int)≤20:=by omega
    simp[e0,e1,e2,Nz,this]
   ·have:¬DE s:=λhm=>h20 hm.2.1
    have e1:(1:Int)≤s.length:=by omega
    have e2:¬(s.length:Int)≤20:=by omega
    simp[e0,e1,e2,Nz,this]
    try omega)
end
end Go.Proofs.YtadghlcfbajamaaGreat.Av
