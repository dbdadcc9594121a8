/- Texts of this proof, one behind the other, packed into one file by a program of this session. No condition. -/
import Derived.Test.YtbppnhenlboefaaGreatMhF
import Derived.ChangeArms
import Derived.DataElems
import Derived.DataReads
import Derived.KernelRfl
import Derived.Laws.IdiomStrings
import Derived.Lib.Bytealg
import Derived.Lib.Overlaps
import Derived.OpenShut
set_option linter.unusedVariables false
set_option linter.unusedSimpArgs false
set_option maxRecDepth 100000
namespace Go.Proofs.YtbppnhenlboefaaGreat.Av
open Go Go.RowKit Go.Proofs.Tryz
section
def AB (l:List UInt8):List AV:=l.map λb=>.lit (.int .u8 b.toNat)
theorem Uz (a b:List UInt8):AB (a++b)=AB a++AB b:=by simp[AB]
theorem B3 (a:List UInt8):(AB a).length=a.length:=by simp[AB]
theorem IM (a:List UInt8)(n:Nat):(AB a).take n=AB (a.take n):=by simp[AB]
theorem RN (a:List UInt8)(n:Nat):(AB a).drop n=AB (a.drop n):=by simp[AB]
theorem Qj (a:List UInt8)(n:Nat):(AB a)[n]?=(a[n]?).map λb=>.lit (.int .u8 b.toNat):=by simp[AB]
def Je (b:UInt8):List AV:=[.lit (.int .u8 b.toNat)]
theorem kG (b:UInt8):(Je b).length=1:=rfl
theorem IN (l:List UInt8):l.flatMap Je=AB l:=by
 induction l with
 | nil=>rfl
 | cons a l ih=>rw[Ae8,ih];rfl
theorem HJ (l:List UInt8):A6 (AB l)=true:=by
 induction l with
 | nil=>rfl
 | cons a l ih=>simpa[AB,A6,noIds]using ih
def A0 (l:List UInt8):ByteArray:=⟨l.toArray⟩
theorem NJ (l:List UInt8):(A0 l).size=l.length:=rfl
abbrev Ag7:=@List.drop_eq_getElem_cons
theorem Zx (s:ByteArray):∀(n i:Nat) (r:List UInt8),s.size - i=n→ByteArray.toList.loop s i r=r.reverse++s.data.toList.drop i:=by
  intro n
  induction n with
  | zero=>
    intro i r h;unfold ByteArray.toList.loop
    rw [if_neg (by omega), List.drop_of_length_le (by have : s.data.toList.length = s.size := by rw [Array.length_toList]; rfl
                                                      omega)]
    simp
  | succ n ih=>
    intro i r h;unfold ByteArray.toList.loop;have hi:i<s.size:=by omega
    rw[if_pos hi,ih (i+1) _ (by omega)];have hl:i<s.data.toList.length:=by rw[Af5];exact hi
    rw[Ag7 hl];simp[ByteArray.get!,getElem!_def];have:s.data[i]?=some s.data[i]:=Ah9 hi;simp[this]
theorem Zw (s:ByteArray):s.toList=s.data.toList:=by
 unfold ByteArray.toList;rw[Zx s s.size 0 [] (by simp)];simp
theorem MD (l:List UInt8):(A0 l).toList=l:=by rw[Zw];simp[A0]
theorem Yo (l:List UInt8):MB (AB l)=some (l.map λb=>(b.toNat:Int)):=by
 induction l with
 | nil=>rfl
 | cons a l ih=>
  have:AB (a::l)=.lit (.int .u8 a.toNat)::AB l:=rfl;rw[this];simp only[MB,ih];rfl
theorem VU (l:List UInt8):QS (l.map λb=>(b.toNat:Int))=A0 l:=by
 unfold QS;rw[foldl_push_byteCells];unfold A0
 have:(ByteArray.empty.data++l.toArray)=l.toArray:=by
  apply Array.ext';simp[ByteArray.empty,ByteArray.emptyWithCapacity]
  try rfl
 rw[this]
theorem PI {H:AH}{x:AV}{l:List UInt8}{n:Nat}(h:Aa H 1 x=some (AB l,n)):nB H x=some (S (A0 l)):=by
 unfold nB
 split
 ·simp[Aa]at h
 ·rw[h];simp only[Yo];rw[← VU];rfl
theorem Gs {a b:List UInt8}:Rq .eql (S (A0 a)) (S (A0 b))=some (B (decide (a=b))):=by
 simp only[Rq,Ul,MD,Ai8]
 by_cases h:a=b<;>simp[h]
theorem PH {a b:List UInt8}:Rq .neq (S (A0 a)) (S (A0 b))=some (B (decide (a≠b))):=by
 simp only[Rq,Ul,MD,Ai8]
 by_cases h:a=b<;>simp[h]
theorem Yt:(⟨#[]⟩:ByteArray)=A0 []:=rfl
theorem SV.bytes {l:List UInt8}{v:AV}(h:SV Je 1 l v)(H:AH):Aa H 1 v=some (AB l,l.length):=by rw[h.2 H,IN]
theorem SV.noId {α:Type}{enc:α→List AV}{sz:Nat}{l:List α}{v:AV}(h:SV enc sz l v):AU v=[]:=by
 have:=h.1
 cases v<;>simp[AU,noIds]at this⊢
structure Ext where
 no:Int
 b:List UInt8
 hb:b.length=8
 deriving DecidableEq
def Ax (x:Ext):List AV:=I x.no::AB x.b
theorem A1 (x:Ext):(Ax x).length=9:=by simp[Ax,B3,x.hb]
theorem YC (l:List UInt8):(AB l).all oneA=true:=by simp[AB]
@[simp] theorem YD (x:Ext):(Ax x).all oneA=true:=by
 show(oneA (I x.no)&&(AB x.b).all oneA)=true
 rw[YC];rfl
theorem ET (x:Ext):A6 (Ax x)=true:=by
 show A6 (I x.no::AB x.b)=true
 simp[A6,noIds,HJ]
@[simp] theorem xQ (x:Ext) (t:List AV):(Ax x++t)[0]?=some (I x.no):=rfl
@[simp] theorem wF (x:Ext):(Ax x)[0]?=some (I x.no):=rfl
@[simp] theorem rd_b (x:Ext):Ao true 8 (Ax x) 1=some (.agg (AB x.b)):=by
 have:=x.hb
 simp[Ao,Ax,B3,this,Ac1]
abbrev Ad4:=@List.take_append_of_le_length
@[simp] theorem rd_e (x:Ext) (t:List AV):Ao true 9 (Ax x++t) 0=some (.agg (Ax x)):=by
 have:=A1 x
 simp[Ao,this,Ad4]
@[simp] theorem rd_e' (x:Ext):Ao true 9 (Ax x) 0=some (.agg (Ax x)):=by
 have:=A1 x
 simp[Ao,this,Ac1]
theorem vA {b:List UInt8}{k:Nat}{y:UInt8}(h:b[k]?=some y)(hk:k<8):iZ false 1 8 1 (.agg (AB b)) (I k)=some (.lit (.int .u8 y.toNat)):=by
 have:(k:Int)<8:=by omega
 simp[iZ,J8,this,Qj,h]
theorem jH {H:AH}{z:List AV}{x:Ext}{o:Nat}(ho:o=H.length)(hz:z.length=9):AT 9 (H++[some (.cells z)]) (.ptr o 0) (.agg (Ax x))=some (H++[some (.cells (Ax x))]):=by
 have:=A1 x
 have e:AR z 0 (Ax x)=Ax x:=by
  have hb:(AB x.b).length=8:=by rw[B3,x.hb]
  unfold Ax;cases hB:AB x.b with
  | nil=>rw[hB]at hb;simp at hb
  | cons a r=>rw[hB]at hb;simp at hb;simp[AR,hz,hb]
 simp[AT,ho,this,hz,e,-AR]
theorem u8z {y:UInt8}:(y.toNat=0)=(y=0):=by
 refine propext ⟨λh=>?_,λh=>by rw[h];rfl⟩;apply UInt8.toNat_inj.1;rw[h];rfl
def cleanB (size:Int):Int→List UInt8→Prop
 | _,[]=>True
 | p,b::r=>(b≠0→p<size)∧cleanB size (p+1) r
instance cleanB.dec (size:Int):∀(p:Int) (l:List UInt8),Decidable (cleanB size p l)
 | _,[]=>Decidable.isTrue True.intro
 | p,b::r=>by
  have:=cleanB.dec size (p+1) r
  unfold cleanB;infer_instance
def Gu (size:Int)(x:Ext):Prop:=cleanB size (x.no*8) x.b
instance (size:Int) (x:Ext):Decidable (Gu size x):=by unfold Gu;infer_instance
def okL (size:Int):Int→List Ext→Prop
 | _,[]=>True
 | p,x::r=>p<x.no∧x.no<137438953472∧Gu size x∧okL size x.no r
instance okL.dec (size:Int):∀(p:Int) (l:List Ext),Decidable (okL size p l)
 | _,[]=>Decidable.isTrue True.intro
 | p,x::r=>by
  have:=okL.dec size x.no r
  unfold okL;infer_instance
theorem Nw {size p:Int}{x:Ext}{r:List Ext}:okL size p (x::r)=(p<x.no∧x.no<137438953472∧Gu size x∧okL size x.no r):=rfl
theorem cY {size p:Int}:okL size p []=True:=rfl
def Cs (size:Int)(l:List Ext):Prop:=0≤size∧size≤1099511627776∧okL size (-1) l
instance (size:Int) (l:List Ext):Decidable (Cs size l):=by unfold Cs;infer_instance
theorem D0 {α:Type}{l:List α}{k:Nat}{y:α}(h:l[k]?=some y):l.drop k=y::l.drop (k+1):=by
 obtain⟨hk,e⟩:=BD.1 h;rw[Ag7 hk,e]
theorem UA (x:Ext)(size:Int)(h0: -1≤x.no)(h1:x.no<137438953472):BPure prog 110 [.agg (Ax x),I size] (B (decide (Gu size x))):=BPure.val (by simp[A6,noIds,ET]) rfl (T6 (by
 unfold Qr;simp;refine MY (λn x1 x2 x8 x9 H'=>∃k:Nat,k+n=8∧x1=I size∧x2=.ptr 0 0∧x8=.agg (AB x.b)∧x9=I k∧H'=[some (.cells (Ax x))]∧(Gu size x↔cleanB size (x.no*8+k) (x.b.drop k))) ?_ 8 ⟨0,rfl,rfl,rfl,rfl,rfl,rfl,by simp[Gu]⟩;rintro n x1 x2 x8 x9 H' R hR ⟨k,hk,rfl,rfl,rfl,rfl,rfl,hm⟩;unfold JS;rcases Ac5 k 8 with hlt | hge
 ·have hlt':(k:Int)<8:=by omega
  have hx:=DR (l:=x.b) (i:=k) (by rw [x.hb]; exact hlt);generalize x.b[k]'(by rw [x.hb]; exact hlt)=y at hx;rw [D0 hx] at hm;unfold cleanB at hm;simp [hlt',vA hx hlt,u8z];have hkk : (k : Int) + 1=((k + 1 : Nat) : Int):=by omega
  by_cases hy:y=0
  ·simp[hy,Aw (a:=k) (b:=1) (by omega) (by omega)]
   refine hR (n - 1) _ _ _ _ _ (by omega) ⟨k+1,by omega,rfl,rfl,rfl,rfl,rfl,?_⟩;rw[hm];simp[hy,Int.add_assoc]
  ·simp[hy,DM (a:=x.no) (b:=8) (by omega) (by omega),Aw (a:=x.no*8) (b:=k) (by omega) (by omega)]
   by_cases hs:size≤x.no*8+k
   ·have:¬Gu size x:=by rw[hm];intro h;have:=h.1 hy;omega
    simp[hs,this]
   ·simp[hs,Aw (a:=k) (b:=1) (by omega) (by omega)]
    refine hR (n - 1) _ _ _ _ _ (by omega) ⟨k+1,by omega,rfl,rfl,rfl,rfl,rfl,?_⟩;rw[hm];simp[hy,Int.add_assoc];omega
 ·have:k=8:=by omega
  subst this;have e:x.b.drop 8=[]:=by rw[List.drop_eq_nil_iff,x.hb];omega
  rw[e]at hm;simp only[cleanB,iff_true]at hm;simp[hm]))
theorem EC {α:Type}{enc:α→List AV}{sz:Nat}{l:List α}{v:AV}(hv:SV enc sz l v):oneA v=true:=by
 have h1:=hv.1;have h2:=hv.2 [];cases v with
 | lit a=>cases a<;>first | rfl | (simp[Aa]at h2)
 | _=>first | rfl | (simp[Aa]at h2)
theorem Jl (no:Int)(h0:0≤no)(h1:no<137438953472):BPure prog 56 [I no] (.agg (Cd ⟨no*8,8⟩)):=BPure.val (by simp[A6,noIds]) rfl (T8 (by
 unfold Qu;simp[DM (a:=no) (b:=8) (by omega) (by omega),AT,Ao,Cd]))
abbrev Am0:=@List.drop_length
theorem Fd {size:Int}{l:List Ext}{v:AV}(hv:SV Ax 9 l v)(hl:l.length≤281474976710656):BPure prog 54 [.agg [I size,v]] (B (decide (Cs size l))):=BPure.val (by simp[A6,noIds,hv.1]) rfl (VE (by
 unfold U6;simp[EC hv]
 by_cases h1:size<0
 ·have:¬Cs size l:=λh=>by have:=h.1;omega
  simp[h1,this]
 ·by_cases h2:1099511627776<size
  ·have:¬Cs size l:=λh=>by have:=h.2.1;omega
   simp[h1,h2,this]
  ·simp[h1,h2,hv.len]
   have hm:Cs size l↔okL size (-1) l:=by unfold Cs;constructor<;>intro h<;>simp_all<;>omega
   have e:decide (Cs size l)=decide (okL size (-1) l):=decide_eq_decide.2 hm;rw[e];refine Pq (λn x1 x3 x15 x16 x17 H'=>∃(k:Nat) (p:Int),k+n=l.length∧x1=.ptr 0 0∧x3=I p∧x15=v∧x16=I l.length∧x17=I k∧(∃X,H'=some (.cells [I size,v])::X)∧-1≤p∧(okL size (-1) l↔okL size p (l.drop k))) ?_ l.length ⟨0,-1,by simp,rfl,rfl,rfl,rfl,rfl,⟨[],rfl⟩,by omega,by simp⟩;rintro n x1 x3 x15 x16 x17 H' R hR ⟨k,p,hk,rfl,rfl,rfl,rfl,rfl,⟨X,rfl⟩,hp,hm⟩;unfold LQ;rcases Ac5 k l.length with hlt | hge
   ·have hx:=DR hlt
    generalize l[k]=y at hx;rw[D0 hx]at hm;rw[Nw]at hm;simp[hlt,hv.idx A1 hx rfl,-IV];rw[← Ah7,jH (by simp) (by rfl)];simp
    by_cases c1:y.no≤p
    ·have:¬okL size (-1) l:=by rw[hm];intro h;omega
     simp[c1,this]
    ·by_cases c2:137438953472≤y.no
     ·have:¬okL size (-1) l:=by rw[hm];intro h;omega
      simp[c1,c2,this]
     ·simp[c1,c2]
      refine A4 (UA y size (by omega) (by omega)) ?_
      by_cases c3:Gu size y
      ·simp[c3,Aw (a:=k) (b:=1) (by omega) (by omega)]
       refine hR (n - 1) _ _ _ _ _ _ (by omega) ⟨k+1,y.no,by omega,rfl,rfl,rfl,rfl,rfl,⟨X++[some (.cells (Ax y))],rfl⟩,by omega,?_⟩;rw[hm];exact⟨λh=>h.2.2.2,λh=>⟨by omega,by omega,c3,h⟩⟩
      ·have:¬okL size (-1) l:=by rw[hm];intro h;exact c3 h.2.2.1
       simp[c3,this]
   ·have:k=l.length:=by omega
    subst this;rw[Am0]at hm;simp only[cY,iff_true]at hm;simp[hm]))
theorem jA {b:List UInt8}{t:List AV}{k:Nat}{y:UInt8}{H:AH}(h:b[k]?=some y)(hk:k<8):∃q,PK 8 1 (.ip (AB b++t)) (I k)=some q∧Au false 1 H q=some (.lit (.int .u8 y.toNat)):=by
 have hk':(k:Int)<8:=by omega
 have hl:k<b.length:=(BD.1 h).1;refine⟨.ip ((AB b++t).drop k),by simp[PK,J8,hk'],?_⟩;have hl':k<(AB b).length:=by rw[B3];exact hl
 simp[Ab9 hl',Qj,h]
theorem St {size:Int}{l:List Ext}{v:AV}(hv:SV Ax 9 l v)(hl:l.length≤281474976710656):BPure prog 145 [.agg [I size,v]] (B (decide (Cs size l))):=BPure.val (by simp[A6,noIds,hv.1]) rfl (JB (by
 unfold GB;simp[EC hv]
 by_cases h1:size<0
 ·have:¬Cs size l:=λh=>by have:=h.1;omega
  simp[h1,this]
 ·by_cases h2:1099511627776<size
  ·have:¬Cs size l:=λh=>by have:=h.2.1;omega
   simp[h1,h2,this]
  ·simp[h1,h2]
   have hm:Cs size l↔okL size (-1) l:=by unfold Cs;constructor<;>intro h<;>simp_all<;>omega
   have e:decide (Cs size l)=decide (okL size (-1) l):=decide_eq_decide.2 hm;rw[e];refine Hl (λn x1 x3 H'=>∃(k:Nat) (p:Int),k+n=l.length∧x1=.ptr 0 0∧x3=I k∧H'=[some (.cells [I size,v])]∧-1≤p∧(k=0→p= -1)∧(∀z,0<k→l[k - 1]?=some z→p=z.no)∧(okL size (-1) l↔okL size p (l.drop k))) ?_ l.length ⟨0,-1,by simp,rfl,rfl,rfl,by omega,by simp,by simp,by simp⟩;rintro n x1 x3 H' R hR ⟨k,p,hk,rfl,rfl,rfl,hp,hp0,hp1,hm⟩;unfold EE;rcases Ac5 k l.length with hlt | hge
   ·have hx:=DR hlt
    generalize l[k]=y at hx;rw[D0 hx]at hm;rw[Nw]at hm;simp[hlt,hv.len,hv.idx A1 hx rfl]
    have fin:¬p<y.no∨¬y.no<137438953472→¬okL size (-1) l:=by
     rw[hm];intro h h';omega
    have go: -1≤y.no→y.no<137438953472→p<y.no→Dq R (.ptr 0 0) (I k) (I y.no) (I 0) [some (.cells [I size,v])] (λr H'=>r=B (decide (okL size (-1) l))):=by
     intro g1 g2 g3;refine GI R (λm x1 x3 x4 x5 H'=>∃(j:Nat),j+m=8∧x1=.ptr 0 0∧x3=I k∧x4=I y.no∧x5=I j∧H'=[some (.cells [I size,v])]∧(Gu size y↔cleanB size (y.no*8+j) (y.b.drop j))) ?_ 8 ⟨0,rfl,rfl,rfl,rfl,rfl,rfl,by simp[Gu]⟩;rintro m x1 x3 x4 x5 H' R2 hR2 ⟨j,hj,rfl,rfl,rfl,rfl,rfl,hc⟩;unfold Ey;rcases Ac5 j 8 with hlj | hgj
     ·have hlj':(j:Int)<8:=by omega
      have hy:=DR (l:=y.b) (i:=j) (by rw [y.hb]; exact hlj);generalize y.b[j]'(by rw [y.hb]; exact hlj)=u at hy;rw [D0 hy] at hc;simp only [cleanB] at hc;simp [hlj',DM (a:=y.no) (b:=8) (by omega) (by omega),Aw (a:=y.no * 8) (b:=j) (by omega) (by omega)]
      have nxt:(u≠0→y.no*8+j<size)→(bO (Ap .add (I j) (I 1)) λv20=>R2 [.ptr 0 0,I k,I y.no,v20] [some (.cells [I size,v])]):=by
       intro hu;simp[Aw (a:=j) (b:=1) (by omega) (by omega)];refine hR2 (m - 1) _ _ _ _ _ (by omega) ⟨j+1,by omega,rfl,rfl,rfl,rfl,rfl,?_⟩;rw[hc];have:y.no*8+(j:Int)+1=y.no*8+((j+1:Nat):Int):=by omega
       rw[this];exact⟨λh=>h.2,λh=>⟨hu,h⟩⟩
      by_cases hs:size≤y.no*8+j
      ·obtain⟨q,e1,e2⟩:=jA (t:=(l.drop (k+1)).flatMap Ax) (H:=[some (.cells [I size,v])]) hy hlj
       have e0:(Ax y++(l.drop (k+1)).flatMap Ax).drop 1=AB y.b++(l.drop (k+1)).flatMap Ax:=rfl;simp[hs,hv.idx A1 hx rfl,e0,e1,e2,u8z]
       by_cases hu:u=0
       ·simp[hu]
        exact nxt (λh=>absurd hu h)
       ·have:¬okL size (-1) l:=by rw[hm];intro h;have:=(hc.1 h.2.2.1).1 hu;omega
        simp[hu,this]
      ·simp[hs]
       exact nxt (λh=>by omega)
     ·have:j=8:=by omega
      subst this;have e:y.b.drop 8=[]:=by rw[List.drop_eq_nil_iff,y.hb];omega
      rw[e]at hc;simp only[cleanB,iff_true]at hc;simp[Aw (a:=k) (b:=1) (by omega) (by omega)];refine hR (n - 1) _ _ _ (by omega) ⟨k+1,y.no,by omega,rfl,rfl,rfl,by omega,by omega,?_,?_⟩
      ·intro z _ hz;simp[hx]at hz;rw[hz]
      ·rw[hm]
       exact⟨λh=>h.2.2.2,λh=>⟨by omega,by omega,hc,h⟩⟩
    by_cases c1:y.no<0
    ·simp[c1,fin (.inl (by omega))]
    ·by_cases c2:137438953472≤y.no
     ·simp[c1,c2,fin (.inr (by omega))]
     ·simp[c1,c2]
      rcases Ak2 k with k0 | k0
      ·subst k0
       simp
       have:=hp0 rfl
       exact go (by omega) (by omega) (by omega)
      ·have hxp:=DR (l:=l) (i:=k - 1) (by omega)
       generalize l[k - 1]'(by omega)=z at hxp;have hpz:=hp1 z k0 hxp;simp [k0,BM (a:=k) (b:=1) (by omega) (by omega),hv.idx A1 hxp (i:=(k : Int) - 1) (by omega)]
       by_cases c3:y.no≤z.no
       ·simp[c3,fin (.inl (by omega))]
       ·simp[c3]
        exact go (by omega) (by omega) (by omega)
   ·have:k=l.length:=by omega
    subst this;rw[Am0]at hm;simp only[cY,iff_true]at hm;simp[hm,hv.len]))
def srt (l:List Ext):Prop:=l.Pairwise λa b=>a.no<b.no
theorem QP {size:Int}:∀{l:List Ext} {p:Int},okL size p l→∀x∈l,p<x.no∧x.no<137438953472∧Gu size x
 | [],p,h=>by simp
 | a::r,p,h=>by
  rw[Nw]at h;intro x hx;rcases Ad5.1 hx with rfl | hx
  ·exact⟨h.1,h.2.1,h.2.2.1⟩
  ·have:=QP h.2.2.2 x hx
   exact⟨by omega,this.2⟩
theorem LD {size:Int}:∀{l:List Ext} {p:Int},okL size p l→srt l
 | [],p,h=>List.Pairwise.nil
 | a::r,p,h=>by
  rw[Nw]at h;exact List.Pairwise.cons (λb hb=>(QP h.2.2.2 b hb).1) (LD h.2.2.2)
theorem Kd {l:List Ext}(h:srt l){i j:Nat}{x y:Ext}(hi:l[i]?=some x)(hj:l[j]?=some y)(hij:i<j):x.no<y.no:=by
 obtain⟨h1,e1⟩:=BD.1 hi;obtain⟨h2,e2⟩:=BD.1 hj
 have:=List.pairwise_iff_getElem.1 h i j h1 h2 hij
 rw[e1,e2]at this;exact this
def posL (l:List Ext)(no:Int):Nat:=(l.takeWhile λx=>decide (x.no<no)).length
def Bb (l:List Ext)(no:Int):Prop:=∃x∈l,x.no=no
instance (l:List Ext) (no:Int):Decidable (Bb l no):=by unfold Bb;infer_instance
theorem QR {no:Int}:∀{l:List Ext} {i:Nat},i≤l.length→(∀m x,m<i→l[m]?=some x→x.no<no)→(∀x,l[i]?=some x→no≤x.no)→posL l no=i
 | [],i,hi,_,_=>by simp at hi;simp[posL,hi]
 | a::r,0,_,_,h=>by
  have:=h a (by simp)
  have:¬a.no<no:=by omega
  simp[posL,this]
 | a::r,i+1,hi,h1,h2=>by
  have:=h1 0 a (by omega) (by simp)
  have ih:=QR (l:=r) (i:=i) (no:=no) (by simpa using hi) (λm x hm hx=>h1 (m+1) x (by omega) (by simpa using hx)) (λx hx=>h2 x (by simpa using hx));unfold posL at ih⊢;simp[this,ih]
theorem TV (l:List Ext)(no:Int):posL l no≤l.length:=by
 unfold posL;exact(List.takeWhile_sublist _).length_le
theorem X7 {no:Int}:∀{l:List Ext} {m:Nat} {x:Ext},m<posL l no→l[m]?=some x→x.no<no
 | a::r,m,x,hm,hx=>by
  by_cases ha:a.no<no
  ·cases m with
   | zero=>simp at hx;rw[← hx];exact ha
   | succ m=>
    refine X7 (l:=r) (m:=m) ?_ (by simpa using hx);unfold posL at hm⊢;simp[ha]at hm;exact hm
  ·unfold posL at hm
   simp[ha]at hm
 | [],m,x,hm,hx=>by simp at hx
theorem dE {no:Int}:∀{l:List Ext} {x:Ext},l[posL l no]?=some x→no≤x.no
 | a::r,x,hx=>by
  by_cases ha:a.no<no
  ·refine dE (l:=r) ?_
   unfold posL at hx⊢
   simpa[ha]using hx
  ·unfold posL at hx
   simp[ha]at hx;rw[← hx];omega
 | [],x,hx=>by simp at hx
theorem Qv {l:List Ext}(h:srt l){no:Int}:Bb l no↔∃x,l[posL l no]?=some x∧x.no=no:=by
 constructor
 ·rintro⟨x,hx,rfl⟩
  obtain⟨m,hm⟩:=Ad6.1 hx;refine⟨x,?_,rfl⟩;have:posL l x.no=m:=QR (Nat.le_of_lt (BD.1 hm).1) (λk y hk hy=>Kd h hy hm hk) (λy hy=>by rw[hm]at hy;injection hy with hy;rw[hy];omega);rw[this];exact hm
 ·rintro⟨x,hx,e⟩
  exact⟨x,Ac3 hx,e⟩
def Cc (a b:Int):Int:=if a<b then -1 else if b<a then 1 else 0
theorem SB (a:Int):BPure prog 163 [I a] (B false):=BPure.flat λH=>RH (by
 unfold O7
 simp)
theorem O6 (a b:Int):BPure prog 94 [I a,I b] (I (Cc a b)):=BPure.flat λH=>Pl (by
 unfold LL;refine A4 (SB a) ?_;refine A4 (SB b) ?_;unfold Cc
 by_cases h1:a<b
 ·simp[h1]
 ·by_cases h2:b<a
  ·simp[h1,h2]
  ·simp[h1,h2])
theorem Zh (x:Ext)(no:Int):BPure prog 224 [.agg (Ax x),I no] (I (Cc x.no no)):=BPure.val (by simp[A6,noIds,ET]) rfl (Qt (by
 unfold Nc;simp;refine A4 (O6 x.no no) ?_
 rfl))
theorem WS {n:Int}{k:IntKind}(h1:0≤n)(h2:n≤9223372036854775807):Ts .u64 (.lit (.int k n))=some (.lit (.int .u64 n)):=by
 have e1:IntKind.u64.wrap n=n:=by
  simp[IntKind.wrap,IntKind.bits,IntKind.signed];omega
 simp[Ts,e1]
theorem Ua {n:Int}:Ap .shr (.lit (.int .u64 n)) (.lit (.int .u64 1))=some (.lit (.int .u64 (n/2))):=by
 have e2:n.fdiv 2=n/2:=Int.fdiv_eq_ediv_of_nonneg _ (by omega);simp[Ap,MA,IntKind.bits,e2]
theorem qJ:B4 prog 224=true:=by kernel_rfl
theorem mP {l:List Ext}{v:AV}(hv:SV Ax 9 l v)(hs:srt l)(hl:l.length≤281474976710656)(no:Int):
  BPure prog 223 [v,I no,.fn (.func 224) [] []] (.tup [I (posL l no),B (decide (Bb l no))]):=BPure.val (by simp[A6,noIds,hv.1]) rfl (D5 (by
 unfold Cn;simp[hv.len];refine Db (λn x0 x1 x2 x8 x9 x10 H'=>∃i j:Nat,i+n=j∧j≤l.length∧x0=v∧x1=I no∧x2=.fn (.func 224) [] []∧x8=I l.length∧x9=I i∧x10=I j∧H'=[]∧(∀m x,m<i→l[m]?=some x→x.no<no)∧(∀m x,j≤m→l[m]?=some x→no≤x.no)) ?_ l.length ⟨0,l.length,by simp,by omega,rfl,rfl,rfl,rfl,rfl,rfl,rfl,by simp,λm x hm hx=>by have:=(BD.1 hx).1;omega⟩;rintro n x0 x1 x2 x8 x9 x10 H' R hR ⟨i,j,hij,hj,rfl,rfl,rfl,rfl,rfl,rfl,rfl,h1,h2⟩;unfold BQ;rcases Ac5 i j with hlt | hge
 ·have hx:=DR (l:=l) (i:=(i+j)/2) (by omega)
  generalize l[(i + j) / 2]'(by omega)=y at hx;simp [hlt,Aw (a:=i) (b:=j) (by omega) (by omega),WS (n:=(i : Int) + j) (by omega) (by omega),Ua,Lt (a:=((i : Int) + j) / 2) (by omega) (by omega),hv.idx A1 hx (i:=((i : Int) + j) / 2) (by omega),qJ];refine bC_of (Zh y no []) ?_;unfold Cc
  by_cases c1:y.no<no
  ·simp[c1,Aw (a:=((i:Int)+j)/2) (b:=1) (by omega) (by omega)]
   refine hR (j - ((i+j)/2+1)) _ _ _ _ _ _ _ (by omega) ⟨(i+j)/2+1,j,by omega,hj,rfl,rfl,rfl,rfl,by simp,rfl,rfl,?_,h2⟩;intro m x hm hmx
   by_cases hm2:m=(i+j)/2
   ·rw[hm2,hx]at hmx;injection hmx with e;rw[← e];exact c1
   ·have:=Kd hs hmx hx (by omega);omega
  ·have e:¬(if no<y.no then(1:Int)else 0)<0:=by split<;>omega
   simp[c1,e];refine hR ((i+j)/2 - i) _ _ _ _ _ _ _ (by omega) ⟨i,(i+j)/2,by omega,by omega,rfl,rfl,rfl,rfl,rfl,by simp,rfl,h1,?_⟩;intro m x hm hmx
   by_cases hm2:m=(i+j)/2
   ·rw[hm2,hx]at hmx;injection hmx with e;rw[← e];omega
   ·have:=Kd hs hx hmx (by omega);omega
 ·have hi:i=j:=by omega
  subst hi;have hp:posL l no=i:=QR (by omega) h1 (λx hx=>h2 i x (by omega) hx);rcases Ac5 i l.length with hil | hil
  ·have hx:=DR (l:=l) (i:=i) hil
   generalize l[i]=y at hx
   have hh:Bb l no↔Cc y.no no=0:=by
    rw[Qv hs,hp]
    have:=h2 i y (by omega) hx
    constructor
    ·rintro⟨z,hz,e⟩
     rw[hx]at hz;injection hz with hz;rw[hz,e];unfold Cc;simp
    ·intro e
     refine⟨y,hx,?_⟩;unfold Cc at e;split at e
     ·omega
     ·split at e<;>omega
   simp[hil,hv.idx A1 hx rfl,qJ];refine bC_of (Zh y no []) ?_;simp[hp,hh]
  ·have hn:¬Bb l no:=by
    rw[Qv hs,hp];rintro⟨z,hz,e⟩
    have:=(BD.1 hz).1
    omega
   simp[show ¬i<l.length by omega,hp,hn]))
theorem UC {l:List Ext}{v:AV}(hv:SV Ax 9 l v)(hs:srt l)(hl:l.length≤281474976710656)(no:Int):
  BPure prog 208 [v,I no] (.tup [I (posL l no),B (decide (Bb l no))]):=BPure.val (by simp[A6,noIds,hv.1]) rfl (T7 (by
 unfold Qs;refine A4 (mP hv hs hl no) ?_
 simp))
def qQ (a:Int)(l:List Ext)(b:Int)(m:List Ext):Prop:=a=b∧l=m
instance (a:Int) (l:List Ext) (b:Int) (m:List Ext):Decidable (qQ a l b m):=by unfold qQ;infer_instance
theorem pE {l:List Ext}(h:srt l){k:Nat}{x:Ext}(hx:l[k]?=some x):posL l x.no=k:=
 QR (Nat.le_of_lt (BD.1 hx).1) (λj y hj hy=>Kd h hy hx hj) (λy hy=>by rw[hx]at hy;injection hy with hy;rw[hy];omega)
theorem aS {size:Int}{l:List Ext}{v:AV}(hv:SV Ax 9 l v)(hs:srt l)(hl:l.length≤281474976710656)(no:Int):
  BPure prog 144 [.agg [I size,v],I no] (I (if Bb l no then(posL l no:Int)else -1)):=BPure.val (by simp[A6,noIds,hv.1]) rfl (Ow (by
 unfold Lh;simp[EC hv];refine Ks (λn x1 x2 x5 H'=>∃k:Nat,k+n=l.length∧x1=I no∧x2=.ptr 0 0∧x5=I k∧H'=[some (.cells [I size,v])]∧∀m x,m<k→l[m]?=some x→x.no≠no) ?_ l.length ⟨0,by simp,rfl,rfl,rfl,rfl,by simp⟩;rintro n x1 x2 x5 H' R hR ⟨k,hk,rfl,rfl,rfl,rfl,hm⟩;unfold GV;rcases Ac5 k l.length with hlt | hge
 ·have hx:=DR hlt
  generalize l[k]=x at hx;simp[hlt,hv.len,hv.idx A1 hx rfl]
  by_cases he:x.no=no
  ·have h1:Bb l no:=⟨x,Ac3 hx,he⟩
   have h2:=pE hs hx;rw[he]at h2;simp[he,h1,h2]
  ·simp[he,Aw (a:=k) (b:=1) (by omega) (by omega)]
   refine hR (n - 1) _ _ _ _ (by omega) ⟨k+1,by omega,rfl,rfl,rfl,rfl,?_⟩;intro m y hmk hy
   by_cases hmk2:m=k
   ·rw[hmk2,hx]at hy;injection hy with hy;rw[← hy];exact he
   ·exact hm m y (by omega) hy
 ·have:¬Bb l no:=by
   rintro⟨x,hx,he⟩;obtain⟨m,hmx⟩:=Ad6.1 hx;exact hm m x (by have:=(BD.1 hmx).1;omega) hmx he
  have hk':k=l.length:=by omega
  simp[hk',hv.len,this]))
structure KO {κ:Type}(c:κ→κ→Int):Prop where
 eq:∀a b,c a b=0↔a=b
 anti:∀a b,c a b<0↔0<c b a
 trans:∀a b d,c a b<0→c b d<0→c a d<0
section
variable {κ α : Type} {c : κ→κ→Int} {key : α→κ}
theorem KO.irr (h:KO c)(a:κ):¬c a a<0:=by have:=(h.eq a a).2 rfl;omega
theorem KO.tri (h:KO c){a b:κ}(h1:¬c a b<0)(h2:¬c b a<0):a=b:=by
 refine(h.eq a b).1 ?_;rw[h.anti]at h2;omega
def Cb (c:κ→κ→Int)(key:α→κ)(l:List α):Prop:=l.Pairwise λa b=>c (key a) (key b)<0
def CZ (c:κ→κ→Int)(key:α→κ)(l:List α)(k:κ):Nat:=(l.takeWhile λx=>decide (c (key x) k<0)).length
def AO (key:α→κ)(l:List α)(k:κ):Prop:=∃x∈l,key x=k
instance [DecidableEq κ] (key:α→κ) (l:List α) (k:κ):Decidable (AO key l k):=by unfold AO;infer_instance
instance (c:κ→κ→Int) (key:α→κ) (l:List α):Decidable (Cb c key l):=by unfold Cb;infer_instance
theorem J2 {l:List α}(h:Cb c key l){i j:Nat}{x y:α}(hi:l[i]?=some x)(hj:l[j]?=some y)(hij:i<j):c (key x) (key y)<0:=by
 obtain⟨h1,e1⟩:=BD.1 hi;obtain⟨h2,e2⟩:=BD.1 hj
 have:=List.pairwise_iff_getElem.1 h i j h1 h2 hij
 rw[e1,e2]at this;exact this
theorem TT {k:κ}:∀{l:List α} {i:Nat},i≤l.length→(∀m x,m<i→l[m]?=some x→c (key x) k<0)→(∀x,l[i]?=some x→¬c (key x) k<0)→CZ c key l k=i
 | [],i,hi,_,_=>by simp at hi;simp[CZ,hi]
 | a::r,0,_,_,h=>by
  have:=h a (by simp)
  simp[CZ,this]
 | a::r,i+1,hi,h1,h2=>by
  have:=h1 0 a (by omega) (by simp)
  have ih:=TT (l:=r) (i:=i) (k:=k) (by simpa using hi) (λm x hm hx=>h1 (m+1) x (by omega) (by simpa using hx)) (λx hx=>h2 x (by simpa using hx));unfold CZ at ih⊢;simp[this,ih]
theorem TU (l:List α)(k:κ):CZ c key l k≤l.length:=by
 unfold CZ;exact(List.takeWhile_sublist _).length_le
theorem dD {k:κ}:∀{l:List α} {m:Nat} {x:α},m<CZ c key l k→l[m]?=some x→c (key x) k<0
 | a::r,m,x,hm,hx=>by
  by_cases ha:c (key a) k<0
  ·cases m with
   | zero=>simp at hx;rw[← hx];exact ha
   | succ m=>
    refine dD (l:=r) (m:=m) ?_ (by simpa using hx);unfold CZ at hm⊢;simp[ha]at hm;exact hm
  ·unfold CZ at hm
   simp[ha]at hm
 | [],m,x,hm,hx=>by simp at hx
theorem X6 {k:κ}:∀{l:List α} {x:α},l[CZ c key l k]?=some x→¬c (key x) k<0
 | a::r,x,hx=>by
  by_cases ha:c (key a) k<0
  ·refine X6 (l:=r) ?_
   unfold CZ at hx⊢
   simpa[ha]using hx
  ·unfold CZ at hx
   simp[ha]at hx;rw[← hx];exact ha
 | [],x,hx=>by simp at hx
theorem TS (hc:KO c){l:List α}(h:Cb c key l){m:Nat}{x:α}(hm:l[m]?=some x):CZ c key l (key x)=m:=
 TT (Nat.le_of_lt (BD.1 hm).1) (λk y hk hy=>J2 h hy hm hk) (λy hy=>by rw[hm]at hy;injection hy with hy;rw[hy];exact hc.irr _)
theorem Jo (hc:KO c){l:List α}(h:Cb c key l){k:κ}:AO key l k↔∃x,l[CZ c key l k]?=some x∧key x=k:=by
 constructor
 ·rintro⟨x,hx,rfl⟩
  obtain⟨m,hm⟩:=Ad6.1 hx;exact⟨x,by rw[TS hc h hm];exact hm,rfl⟩
 ·rintro⟨x,hx,e⟩
  exact⟨x,Ac3 hx,e⟩
theorem UL (hc:KO c){l:List α}(h:Cb c key l){k:κ}(hk:AO key l k):CZ c key l k<l.length:=by
 obtain⟨x,hx,-⟩:=(Jo hc h).1 hk;exact(BD.1 hx).1
theorem Sy (hc:KO c){l:List α}(h:Cb c key l){x y:α}(hx:x∈l)(hy:y∈l)(e:key x=key y):x=y:=by
 obtain⟨m,hm⟩:=Ad6.1 hx;obtain⟨m',hm'⟩:=Ad6.1 hy;have h1:=TS hc h hm;have h2:=TS hc h hm';rw[e,h2]at h1;subst h1;rw[hm]at hm';injection hm'
def Jr (c:κ→κ→Int)(key:α→κ)(l:List α)(x:α):List α:=l.take (CZ c key l (key x))++x::l.drop (CZ c key l (key x))
def CY (c:κ→κ→Int)(key:α→κ)(l:List α)(k:κ):List α:=l.take (CZ c key l k)++l.drop (CZ c key l k+1)
theorem G6 {l:List α}{x y:α}:y∈Jr c key l x↔y=x∨y∈l:=by
 unfold Jr;rw[Af8,Ad5]
 constructor
 ·rintro(h | h | h)
  ·exact .inr (Ag1 h)
  ·exact .inl h
  ·exact .inr (Ah6 h)
 ·rintro(h | h)
  ·exact .inr (.inl h)
  ·rw[← Af3 (CZ c key l (key x)) l,Af8]at h
   exact h.imp id .inr
abbrev Aj5:=@List.pairwise_append
abbrev Ae4:=@List.pairwise_cons
theorem Vs (hc:KO c){l:List α}(h:Cb c key l){x:α}(hn:¬AO key l (key x)):Cb c key (Jr c key l x):=by
 unfold Jr Cb
 have hl:∀y∈l.take (CZ c key l (key x)),c (key y) (key x)<0:=by
  intro y hy;obtain⟨m,hm⟩:=Ad6.1 hy;rw[Ac9]at hm;split at hm
  ·rename_i h1;exact dD h1 hm
  ·cases hm
 have hr:∀y∈l.drop (CZ c key l (key x)),c (key x) (key y)<0:=by
  intro y hy;obtain⟨m,hm⟩:=Ad6.1 hy;rw[Ad1]at hm
  have hg:¬c (key y) (key x)<0:=by
   rcases Ak2 m with rfl | hm0
   ·exact X6 hm
   ·intro h2
    have hlt:CZ c key l (key x)<l.length:=by have:=(BD.1 hm).1;omega
    have h3:=DR hlt;exact X6 h3 (hc.trans _ _ _ (J2 h h3 hm (by omega)) h2)
  by_cases h1:c (key x) (key y)<0
  ·exact h1
  ·exact absurd ⟨y,Ac3 hm,(hc.tri h1 hg).symm⟩ hn
 refine Aj5.2 ⟨h.sublist (List.take_sublist _ _),Ae4.2 ⟨hr,h.sublist (List.drop_sublist _ _)⟩,?_⟩;intro a ha b hb;rcases Ad5.1 hb with rfl | hb
 ·exact hl a ha
 ·exact hc.trans _ _ _ (hl a ha) (hr b hb)
theorem delK_sub {l:List α}{k:κ}:(CY c key l k).Sublist l:=by
 unfold CY
 conv=>rhs;rw[← Af3 (CZ c key l k) l]
 refine List.Sublist.append (List.Sublist.refl _) ?_;rw[← Ag3];exact List.drop_sublist _ _
theorem E1 {l:List α}(h:Cb c key l){k:κ}:Cb c key (CY c key l k):=h.sublist delK_sub
theorem Fu (hc:KO c){l:List α}(h:Cb c key l){k:κ}(hk:AO key l k){y:α}:y∈CY c key l k↔y∈l∧key y≠k:=by
 obtain⟨x,hx,rfl⟩:=(Jo hc h).1 hk;have hlt:=(BD.1 hx).1
 have e:l=l.take (CZ c key l (key x))++x::l.drop (CZ c key l (key x)+1):=by
  conv=>lhs;rw[← Af3 (CZ c key l (key x)) l]
  rw[Ag7 hlt,(BD.1 hx).2]
 have hs:=h;unfold Cb at hs;generalize CZ c key l (key x)=p at*;unfold CY;rw[TS hc h hx];rw[e]at hs;rw[Aj5,Ae4]at hs
 constructor
 ·intro hy
  rw[Af8]at hy;rcases hy with hy | hy
  ·exact⟨Ag1 hy,λe2=>hc.irr (key x) (e2▸hs.2.2 y hy x (by simp))⟩
  ·exact⟨Ah6 hy,λe2=>hc.irr (key x) (e2▸hs.2.1.1 y hy)⟩
 ·rintro⟨hy,hne⟩
  rw[e,Af8,Ad5]at hy;rw[Af8];rcases hy with hy | rfl | hy
  ·exact .inl hy
  ·exact absurd rfl hne
  ·exact .inr hy
theorem UU {l:List α}{x:α}:(Jr c key l x).length=l.length+1:=by
 have:=TU (c:=c) (key:=key) l (key x)
 unfold Jr;rw[Ac6,Ad7,Ac0,Ac7];omega
theorem MO {l:List α}{k:κ}(h:CZ c key l k<l.length):(CY c key l k).length+1=l.length:=by
 unfold CY;rw[Ac6,Ac0,Ac7];omega
end
abbrev Bg:List UInt8→List UInt8→Int:=Lib.compareBytes
abbrev Am5:=@UInt8.lt_irrefl
abbrev An3:=@UInt8.le_antisymm
theorem cF:∀a b:List UInt8,Bg a b=0↔a=b
 | [],[]=>by simp[Bg,Lib.compareBytes]
 | [],_::_=>by simp[Bg,Lib.compareBytes]
 | _::_,[]=>by simp[Bg,Lib.compareBytes]
 | x::a,y::b=>by
  have ih:=cF a b;simp only[Bg]at ih⊢;unfold Lib.compareBytes
  by_cases h1:x<y
  ·have:x≠y:=λe=>by subst e;exact Am5 _ h1
   simp[h1,this]
  ·by_cases h2:y<x
   ·have:x≠y:=λe=>by subst e;exact Am5 _ h2
    simp[h1,h2,this]
   ·have:x=y:=An3 (UInt8.not_lt.1 h2) (UInt8.not_lt.1 h1)
    simp[h1,h2,this,ih]
theorem Xi:∀a b:List UInt8,Bg a b<0↔a<b
 | [],[]=>by simp[Bg,Lib.compareBytes]
 | [],_::_=>by simp[Bg,Lib.compareBytes]
 | _::_,[]=>by simp[Bg,Lib.compareBytes]
 | x::a,y::b=>by
  have ih:=Xi a b;simp only[Bg]at ih⊢;unfold Lib.compareBytes;rw[List.cons_lt_cons_iff]
  by_cases h1:x<y
  ·simp[h1]
  ·by_cases h2:y<x
   ·have:x≠y:=λe=>by subst e;exact Am5 _ h2
    simp[h1,h2,this]
   ·have:x=y:=An3 (UInt8.not_lt.1 h2) (UInt8.not_lt.1 h1)
    simp[h1,h2,this,ih]
theorem cG:∀a b:List UInt8,0<Bg a b↔b<a
 | [],[]=>by simp[Bg,Lib.compareBytes]
 | [],_::_=>by simp[Bg,Lib.compareBytes]
 | _::_,[]=>by simp[Bg,Lib.compareBytes]
 | x::a,y::b=>by
  have ih:=cG a b;simp only[Bg]at ih⊢;unfold Lib.compareBytes;rw[List.cons_lt_cons_iff]
  by_cases h1:x<y
  ·have:¬y<x:=λh=>UInt8.lt_asymm h1 h
   have h3:y≠x:=λe=>by subst e;exact Am5 _ h1
   simp[h1,this,h3]
  ·by_cases h2:y<x
   ·simp[h1,h2]
   ·have:x=y:=An3 (UInt8.not_lt.1 h2) (UInt8.not_lt.1 h1)
    simp[h1,h2,this,ih]
theorem koN:KO Bg where
 eq:=cF
 anti a b:=by rw[Xi,cG]
 trans a b d h1 h2:=by rw[Xi]at*;exact List.lt_trans h1 h2
theorem O5:∀a b:List UInt8,Op.bytesLess a b=decide (Bg a b<0)
 | [],[]=>by simp[Op.bytesLess,Bg,Lib.compareBytes]
 | _::_,[]=>by simp[Op.bytesLess,Bg,Lib.compareBytes]
 | [],_::_=>by simp[Op.bytesLess,Bg,Lib.compareBytes]
 | x::a,y::b=>by
  have ih:=O5 a b;simp only[Bg]at ih⊢;unfold Op.bytesLess Lib.compareBytes;rw[ih]
  by_cases h1:x<y
  ·simp[h1]
  ·by_cases h2:y<x
   ·have:x≠y:=λe=>by subst e;exact Am5 _ h2
    simp[h1,h2,this]
   ·have:x=y:=An3 (UInt8.not_lt.1 h2) (UInt8.not_lt.1 h1)
    simp[h1,h2,this]
theorem PG {a b:List UInt8}:Rq .geq (S (A0 a)) (S (A0 b))=some (B (decide (¬Bg a b<0))):=by
 simp only[Rq,Ul,MD,Ai8,O5]
 by_cases h:Bg a b<0<;>simp[h]
theorem Ru {l:List UInt8}{k:Nat}{i:Int}{y:UInt8}(hi:i=k)(h:l[k]?=some y):Tu (S (A0 l)) (I i)=some (.lit (.int .u8 y.toNat)):=by
 subst hi
 have:(A0 l)[k]?=some y:=by
  obtain⟨h1,h2⟩:=BD.1 h;have hs:k<(A0 l).size:=by rw[NJ];exact h1
  rw[getElem?_pos (A0 l) k hs]
  congr 1
 simp[Tu,J8,this]
theorem II {l:List UInt8}(h:l.length≤9223372036854775807):Gh (S (A0 l))=some (I l.length):=by
 simp[Gh,NJ]
end
section
structure Sl (α:Type) where
 l:List α
 nil:Bool
structure Rd (P:Program)(t:TypeId)(α:Type) where
 size:Nat
 enc:α→List AV
 ok:α→Prop
 cells:P.cellsOf t=size
 read:∀{H:Type} {e:TypeId×Value→H} {W:World} {fuel:Nat} {cs:List Value} {d:DataW H×List MemPlace},DataW.trod e P W 0 (λ_=>true) true fuel t cs=some d→
  ∃x,ok x∧cs.length=size∧VRs (Cfg.start W) (enc x) cs∧∀u∈cs,u.oneCell'=true
section
variable {P : Program}
def Rd.int {t:TypeId}(k:IntKind)(hu:P.underlying t=some (.int k))(hc:P.cellsOf t=1):Rd P t Int where
 size:=1
 enc n:=[.lit (.int k n)]
 ok n:=k.min≤n∧n≤k.max
 cells:=hc
 read {H e W fuel cs d} h:=by
  obtain⟨n,rfl,-,hw⟩:=DataW.trod_int hu h;refine⟨n,by simpa[Lit.wf]using hw,rfl,.cons (by simp only[VR]) .nil,by simp[Value.oneCell']⟩
abbrev zH:=And.intro @List.mem_append.{0} @List.mem_singleton.{0}
abbrev Ag4:=@List.flatMap_append
theorem Zm {t:TypeId}{α:Type}(E:Rd P t α){W:World}{a:Addr}{H:Type}{e:TypeId×Value→H}{fuel:Nat}:∀(n:Nat) (ds:List (DataW H×List MemPlace)),ds.length=n→
  (∀i,i<n→(W.cells? 0 (a.add (i*P.cellsOf t)) (P.cellsOf t)).bind (DataW.trod e P W 0 (λ_=>true) true fuel t)=ds[i]?)→
  ∃(xs:List α) (vs:List Value),xs.length=n∧(∀x∈xs,E.ok x)∧vs.length=n*E.size∧VRs (Cfg.start W) (xs.flatMap E.enc) vs∧∀(i:Nat) (v:Value),vs[i]?=some v→W.cell? (a.add i)=some v∧v.oneCell'=true
 | 0,ds,hl,h=>⟨[],[],rfl,by simp,by simp,.nil,by simp⟩
 | n+1,ds,hl,h=>by
  obtain⟨xs,vs,h1,h2,h3,h4,h5⟩:=Zm E n (ds.take n) (by rw[Ac0];omega) (λi hi=>by
   rw[h i (by omega),Ac9,if_pos hi])
  have hn:=h n (by omega);rw[DR (by omega)]at hn;obtain⟨cs,hcs,htr⟩:=Option.bind_eq_some_iff.1 hn;obtain⟨x,hx,hxl,hxv,hx1⟩:=E.read htr;obtain⟨-,hcl,hcell⟩:=World.cells?_some hcs;refine⟨xs++[x],vs++cs,by simp[h1],?_,?_,?_,?_⟩
  ·intro y hy
   simp only[zH]at hy;rcases hy with hy | rfl
   ·exact h2 y hy
   ·exact hx
  ·rw[Ac6,h3,hxl,Af6]
  ·rw[Ag4]
   simpa using h4.append hxv
  ·intro i v hv
   rcases Ac5 i vs.length with hlt | hge
   ·rw[Ab9 hlt]at hv
    exact h5 i v hv
   ·rw[Ac4 hge,h3]at hv
    have hlt:=(BD.1 hv).1
    have:=hcell (i - n*E.size) (by rw[← hcl];exact hlt)
    rw[hv,E.cells,Addr.add_add]at this;rw[show n*E.size+(i - n*E.size)=i by omega]at this;exact⟨this,hx1 v (Ac3 hv)⟩
def Rd.slice {t e:TypeId}{α:Type}(E:Rd P e α)(hu:P.underlying t=some (.slice e))(hc:P.cellsOf t=1):Rd P t (Sl α) where
 size:=1
 enc s:=[if s.nil then .lit (.slice none 0 0)else .imm (s.l.flatMap E.enc) s.l.length E.size]
 ok s:=(s.nil=true→s.l=[])∧s.l.length≤maxLen∧∀x∈s.l,E.ok x
 cells:=hc
 read {H e' W fuel cs d} h:=by
  rcases DataW.trod_slice hu h with⟨rfl,-⟩ | ⟨a,len,cap,elems,rest,n,-,rfl,-,-,h1,h2,h3,h4,-,-⟩
  ·exact⟨⟨[],true⟩,⟨λ_=>rfl,by simp,by simp⟩,rfl,.cons (by simp only[if_true,VR]) .nil,by simp[Value.oneCell']⟩
  ·obtain⟨xs,vs,g1,g2,g3,g4,g5⟩:=Zm E len elems h3 h4
   refine⟨⟨xs,false⟩,⟨by simp,by simp only;omega,g2⟩,rfl,.cons ?_ .nil,by simp[Value.oneCell']⟩;simp only[An,VR];refine⟨a,cap,vs,by rw[g1],by omega,.inr ⟨λhh=>hh.elim id id,g5⟩,g4⟩
structure Rds (P:Program)(fs:List Field)(off total:Nat)(α:Type) where
 enc:α→List AV
 ok:α→Prop
 le:off≤total
 read:∀{H:Type} {e:TypeId×Value→H} {W:World} {fuel:Nat} {cs:List Value} {ds:List (DataW H×List MemPlace)},cs.length=total→ds.length=fs.length→
  (∀(i:Nat) (f:Field),fs[i]?=some f→DataW.trod e P W 0 (λ_=>true) true fuel f.type ((cs.drop f.offset).take (P.cellsOf f.type))=ds[i]?)→
  ∃x,ok x∧VRs (Cfg.start W) (enc x) (cs.drop off)∧∀u∈cs.drop off,u.oneCell'=true
abbrev Ad2:=@List.drop_of_length_le
def Rds.nil (P:Program)(total:Nat):Rds P [] total total Unit where
 enc _:=[]
 ok _:=True
 le:=Ac2 _
 read {H e W fuel cs ds} hl _ _:=⟨(),trivial,by rw[Ad2 (by omega)];exact .nil,by rw[Ad2 (by omega)];simp⟩
def Rds.cons {f:Field}{fs:List Field}{t:TypeId}{off total:Nat}{α β:Type}(E:Rd P t α)(R:Rds P fs (off+E.size) total β)(ht:f.type=t)(ho:f.offset=off):Rds P (f::fs) off total (α×β) where
 enc x:=E.enc x.1++R.enc x.2
 ok x:=E.ok x.1∧R.ok x.2
 le:=Ad8 (Nat.le_add_right _ _) R.le
 read {H e W fuel cs ds} hl hd h:=by
  subst ht;cases ds with
  | nil=>simp at hd
  | cons d ds=>
   have h0:=h 0 f rfl;simp only[CL]at h0;obtain⟨x,hx,hxl,hxv,hx1⟩:=E.read h0;obtain⟨y,hy,hyv,hy1⟩:=R.read hl (by simpa using hd) (λi g hg=>by simpa using h (i+1) g (by simpa using hg))
   have e1:cs.drop off=(cs.drop f.offset).take (P.cellsOf f.type)++cs.drop (off+E.size):=by
    rw[ho,E.cells];rw[← Ag3,Af3]
   rw[e1];refine⟨(x,y),⟨hx,hy⟩,hxv.append hyv,?_⟩;intro u hu;rcases Af8.1 hu with hu | hu
   ·exact hx1 u hu
   ·exact hy1 u hu
def Rd.struct {t:TypeId}{fs:Array Field}{total:Nat}{α:Type}(R:Rds P fs.toList 0 total α)(hu:P.underlying t=some (.struct fs))(hc:P.cellsOf t=total):Rd P t α where
 size:=total
 enc:=R.enc
 ok:=R.ok
 cells:=hc
 read {H e W fuel cs d} h:=by
  obtain⟨xs,n,-,-,hl,hxl,hx⟩:=DataW.trod_struct hu h;rw[hc]at hl;obtain⟨x,h1,h2,h3⟩:=R.read (ds:=xs) hl (by simpa using hxl) (λi f hf=>hx i f (by simpa using hf));exact⟨x,h1,hl,by simpa using h2,by simpa using h3⟩
theorem Rd.arg1 {t:TypeId}{α:Type}(E:Rd P t α){H:Type}{e:TypeId×Value→H}{W:World}{v:Value}{d:DataW H}{ps:List MemPlace}(hv:v.cells= #[v])
  (h:DataW.Trod e P W 0 (λ_=>true) true t v d ps):∃x,E.ok x∧VRs (Cfg.start W) (E.enc x) [v]:=by
 obtain⟨fuel,h⟩:=h;obtain⟨x,h1,-,h2,-⟩:=E.read h;rw[hv]at h2;exact⟨x,h1,h2⟩
end
end
section
def Rd.byte {P:Program}{t:TypeId}(hu:P.underlying t=some (.int .u8))(hc:P.cellsOf t=1):Rd P t UInt8 where
 size:=1
 enc b:=[.lit (.int .u8 b.toNat)]
 ok _:=True
 cells:=hc
 read {H e W fuel cs d} h:=by
  obtain⟨n,rfl,-,hw⟩:=DataW.trod_int hu h;have hb:0≤n∧n≤255:=by simpa[Lit.wf,IntKind.min,IntKind.max,IntKind.signed,IntKind.bits]using hw
  refine⟨UInt8.ofNat n.toNat,trivial,rfl,.cons ?_ .nil,by simp[Value.oneCell']⟩;simp only[VR]
  congr 1
  have:n.toNat<256:=by omega
  rw[UInt8.toNat_ofNat_of_lt' this];omega
section
variable {P : Program} {f : FuncId} {args : List AV}
theorem BPure.of_true (h:ACalls P f [] [] λr _=>r=B true):BPure P f [] (B true):=λH=>
 ACalls.pure (R':=λr=>r=B true) h (by simp only[CB]) (λr X hr=>⟨1,r,by rw[hr];rfl,hr⟩) H
end
end
section
def FZ (X:AH)(v R:AV):Prop:=∃n0,∀n,n0≤n→Kw X n v=some R
def FZs (X:AH)(vs Rs:List AV):Prop:=∃n0,∀n,n0≤n→L7 (Kw X n) vs=some Rs
theorem FZs.nil {X:AH}:FZs X [] []:=⟨0,λ_ _=>rfl⟩
theorem FZs.cons {X:AH}{v R:AV}{vs Rs:List AV}(h:FZ X v R)(hs:FZs X vs Rs):FZs X (v::vs) (R::Rs):=by
 obtain⟨a,ha⟩:=h;obtain⟨b,hb⟩:=hs;exact⟨a+b,λn hn=>by simp only[L7,ha n (by omega),hb n (by omega)]⟩
theorem FZ.agg {X:AH}{vs Rs:List AV}(hs:FZs X vs Rs):FZ X (.agg vs) (.agg Rs):=by
 obtain⟨b,hb⟩:=hs;refine⟨b+1,λn hn=>?_⟩;cases n with
 | zero=>omega
 | succ n=>simp only[Kw,hb n (by omega)];rfl
theorem FZ.tup {X:AH}{vs Rs:List AV}(hs:FZs X vs Rs):FZ X (.tup vs) (.tup Rs):=by
 obtain⟨b,hb⟩:=hs;refine⟨b+1,λn hn=>?_⟩;cases n with
 | zero=>omega
 | succ n=>simp only[Kw,hb n (by omega)];rfl
theorem FZ.lit {X:AH}(v:Value):FZ X (.lit v) (.lit v):=⟨1,λn hn=>by cases n with
 | zero=>omega
 | succ n=>rfl⟩
theorem FZ.same {X:AH}{v:AV}(h:noIds v=true):FZ X v v:=NO X v h
theorem FZ.sv {α:Type}{enc:α→List AV}{X:AH}{sz:Nat}{l:List α}{v:AV}(h:Aa X sz v=some (l.flatMap enc,l.length))(hc:A6 (l.flatMap enc)=true):∃R,SV enc sz l R∧FZ X v R:=by
 obtain⟨R,n0,h1,h2,h3⟩:=RW h hc;exact⟨R,⟨h1,h2⟩,n0,h3⟩
section
variable {P : Program} {f : FuncId} {args : List AV}
theorem BPure.FZ {Q:AV→Prop}(hb:A6 args=true)(h:∃r X,(∃R,Av.FZ X r R∧Q R)∧BCall P f args [] r X):∃R,Q R∧BPure P f args R:=by
 obtain⟨r,X,⟨R,⟨n,hn⟩,hq⟩,h⟩:=h;exact BPure.fz hb ⟨r,X,⟨n,R,hn n (Ac2 _),hq⟩,h⟩
theorem PCall.lend {H:AH}{args':List AV}{x:AV}(hs:FZs H args args')(hx:JU x=true)(h:BPure P f args' x):PCall P f args H x:=by
 obtain⟨n,hn⟩:=hs;exact .inr ⟨n,args',hn n (Ac2 _),hx,h⟩
end
theorem UZ:∀{a b:List AV},A6 a=true→A6 b=true→A6 (a++b)=true
 | [],b,_,h=>h
 | x::a,b,h1,h2=>by
  simp only[A6,Ae0,Ah7]at h1⊢;exact⟨h1.1,UZ h1.2 h2⟩
theorem De {α:Type}{enc:α→List AV}:∀{l:List α},(∀x∈l,A6 (enc x)=true)→A6 (l.flatMap enc)=true
 | [],_=>rfl
 | a::l,h=>by
  rw[Ae8];exact UZ (h a (by simp)) (De λx hx=>h x (by simp[hx]))
theorem HL {H:AH}{sz n:Nat}{v:AV}{cs:List AV}(h:Aa H sz v=some (cs,n))(ho:AP v=true)(hn:0<n):
  ∃o off cap cells,v=.sl o off n sz cap∧H[o]?=some (some (.cells cells))∧off+n*sz≤cells.length∧cs=(cells.drop off).take (n*sz):=by
 unfold Aa at h;split at h
 ·simp[AP]at ho
 ·rename_i o off len esz cap
  split at h
  ·rename_i c hoc
   split at h
   ·rename_i hb
    obtain⟨rfl,hb⟩:=hb;injection h with h;injection h with h1 h2;subst h1;subst h2;exact⟨o,off,cap,c,rfl,hoc,hb,rfl⟩
   ·cases h
  ·cases h
 ·injection h with h;injection h with h1 h2;omega
 ·injection h with h;injection h with h1 h2;omega
 ·cases h
theorem G8 {cs xs:List AV}{k:Nat}(h:k+xs.length≤cs.length):(B2 cs k xs).length=cs.length:=by
 unfold B2;simp only[zK];omega
theorem HK {cs xs:List AV}{k:Nat}(h:k+xs.length≤cs.length)(i:Nat):(B2 cs k xs)[i]?=if k≤i∧i<k+xs.length then xs[i - k]? else cs[i]?:=by
 have h1:(cs.take k).length=k:=by rw[Ac0];omega
 unfold B2
 split
 ·rename_i c
  rw[Ab9 (by rw[Ac6];omega),Ac4 (by omega),h1]
 ·rename_i c
  by_cases c1:i<k
  ·rw[Ad3,Ab9 (by omega),Ac9,if_pos c1]
  ·rw[Ac4 (by rw[Ac6];omega),Ac6,h1,Ad1]
   congr 1;omega
theorem NX {cs xs:List AV}{off m k:Nat}(h1:off+m≤cs.length)(h2:k+xs.length≤m):((B2 cs (off+k) xs).drop off).take m=B2 ((cs.drop off).take m) k xs:=by
 refine Ae5 λi=>?_
 rw[Ac9,Ad1,HK (by omega),HK (by rw[Ac0,Ac7];omega),Ac9,Ad1]
 by_cases c:i<m
 ·rw[if_pos c]
  by_cases c2:k≤i∧i<k+xs.length
  ·rw[if_pos c2,if_pos (by omega)];congr 1;omega
  ·rw[if_neg c2,if_neg (by omega),if_pos c]
 ·rw[if_neg c,if_neg (by omega),if_neg c]
abbrev Ao6:=@List.set_cons_zero
theorem NW {α:Type}{enc:α→List AV}{sz:Nat}(hsz:∀x,(enc x).length=sz){l:List α}{k q:Nat}{x y:α}{xs:List AV}(hx:l[k]?=some x)(hy:enc y=B2 (enc x) q xs)(hq:q+xs.length≤sz):
  B2 (l.flatMap enc) (k*sz+q) xs=(l.set k y).flatMap enc:=by
 induction l generalizing k with
 | nil=>simp at hx
 | cons a l ih=>
  cases k with
  | zero=>
   simp at hx;subst hx;rw[Ao6,Ae8,Ae8,hy];have ha:=hsz a;unfold B2;rw[Al7,Aj4,Ad4 (by omega),List.drop_append_of_le_length (by omega)];simp[Ad3]
  | succ k=>
   simp at hx;rw[List.set_cons_succ,Ae8,Ae8,← ih hx];have ha:=hsz a;unfold B2;have e:(k+1)*sz+q=(enc a).length+(k*sz+q):=by rw[ha,Af6];omega
   rw[e,List.take_length_add_append,show(enc a).length+(k*sz+q)+xs.length=(enc a).length+(k*sz+q+xs.length) by omega,List.drop_length_add_append];simp[Ad3]
end
section
theorem ExtR.apart {P : Program}{k : FuncId}{fn : Func}{tS tR e : TypeId}{size : Nat}(hf : P.funcs[k]? = some fn)(hname : (fn.name == "runtime.NumGoroutine") = false)(hb : fn.body.isNone = true)(hn : Extern.findNext fn = none)
  (he:Extern.find fn=some (Extern.SlicesOverlaps.overlaps #[tS,tS] #[tR])) (ht:P.underlying tS=some (.slice e)) (hz:∀w,(Go.sizeOf e).run P w=.ok size w)
  {H:AH} {oa offa la ea ka ob offb lb eb kb:Nat} {ca cb:List AV} (ha:H[oa]?=some (some (.cells ca))) (hbo:H[ob]?=some (some (.cells cb))) (hne:oa≠ob) (hka:ka≠0) (hkb:kb≠0) (hcb:cb≠[]):
  ExtR P k [.sl oa offa la ea (.ex ka),.sl ob offb lb eb (.ex kb)] H (B false):=by
 intro G vs hr hv;simp only[VRs]at hv;obtain⟨v,r,rfl,h1,v2,r2,rfl,h2,rfl⟩:=hv;simp only[VR]at h1 h2;obtain⟨ho1,a,c,rfl,hl1,hs1⟩:=h1;obtain⟨ho2,a2,c2,rfl,hl2,hs2⟩:=h2;have hc1:c≠0:=by simp only[SlAt]at hs1;omega
 have hc2:c2≠0:=by simp only[SlAt]at hs2;omega
 obtain⟨rfl,-⟩:=EX hs1 hc1;obtain⟨rfl,-⟩:=EX hs2 hc2;obtain⟨q1,e1,u1,p1,p2,p3,p4,p5⟩:=hr.obj _ _ ha;obtain⟨q2,e2,u2,w1,w2,w3,w4,w5⟩:=hr.obj _ _ hbo;have hblk:(G.μ oa).1≠(G.μ ob).1:=λh=>hne (hr.inj _ _ _ _ ha hbo h)
 have hlen:0<cb.length:=by cases cb with
  | nil=>exact absurd rfl hcb
  | cons a r=>simp
 refine⟨.bool false,?_,by simp only[VR]⟩;rw[run_callFunc_extern hf hname hb hn he]
 have:=Go.Lib.run_overlaps_apart (P:=P) G.w tS tR e ht size hz ⟨(G.μ oa).1,(G.μ oa).2.1+offa,none⟩ ⟨(G.μ ob).1,(G.μ ob).2.1+offb,none⟩ la c lb c2 hblk e1 e2 q1.size q2.size
  (by simp[World.shape?,p1]) (by simp[World.shape?,w1]) (by omega) (by simp[World.frozen?,p1]) (by simp[World.frozen?,p1])
 show(((Extern.SlicesOverlaps.overlaps #[tS,tS] #[tR]) _).run P G.w).andThen _=_
 have e:(#[Value.slice (some ⟨(G.μ oa).1,(G.μ oa).2.1+offa,none⟩) la c,Value.slice (some ⟨(G.μ ob).1,(G.μ ob).2.1+offb,none⟩) lb c2]:Array Value)=[Value.slice (some ⟨(G.μ oa).1,(G.μ oa).2.1+offa,none⟩) la c,Value.slice (some ⟨(G.μ ob).1,(G.μ ob).2.1+offb,none⟩) lb c2].toArray:=rfl;rw[← e,this];rfl
mutual
def AV.ren (σ:Nat→Nat×Nat):AV→AV
 | .lit v=>.lit v
 | .ptr o off=>.ptr (σ o).1 ((σ o).2+off)
 | .ip cs=>.ip (QT σ cs)
 | .sl o off len esz cap=>.sl (σ o).1 ((σ o).2+off) len esz cap
 | .imm cs len esz=>.imm (QT σ cs) len esz
 | .mp o=>.mp (σ o).1
 | .agg cs=>.agg (QT σ cs)
 | .tup cs=>.tup (QT σ cs)
 | .fn f a b=>.fn f (QT σ a) (QT σ b)
 | .emp=>.emp
 | .junk=>.junk
def QT (σ:Nat→Nat×Nat):List AV→List AV
 | []=>[]
 | a::r=>a.ren σ::QT σ r
end
mutual
theorem mC {σ:Nat→Nat×Nat}{m:Nat}(h:∀o,o<m→σ o=(o,0)):∀{a:AV},EI m a→a.ren σ=a
 | .lit v,_=>rfl
 | .ptr o off,hb=>by simp only[EI]at hb;simp only[AV.ren,h o hb,Aj4]
 | .ip cs,hb=>by simp only[EI]at hb;simp only[AV.ren,D1 h hb]
 | .sl o off len esz cap,hb=>by simp only[EI]at hb;simp only[AV.ren,h o hb,Aj4]
 | .imm cs len esz,hb=>by simp only[EI]at hb;simp only[AV.ren,D1 h hb]
 | .mp o,hb=>by simp only[EI]at hb;simp only[AV.ren,h o hb]
 | .agg cs,hb=>by simp only[EI]at hb;simp only[AV.ren,D1 h hb]
 | .tup cs,hb=>by simp only[EI]at hb;simp only[AV.ren,D1 h hb]
 | .fn f a b,hb=>by simp only[EI]at hb;simp only[AV.ren,D1 h hb.1,D1 h hb.2]
 | .emp,_=>rfl
 | .junk,_=>rfl
theorem D1 {σ:Nat→Nat×Nat}{m:Nat}(h:∀o,o<m→σ o=(o,0)):∀{asx:List AV},CB m asx→QT σ asx=asx
 | [],_=>rfl
 | a::r,hb=>by simp only[CB]at hb;simp only[QT,mC h hb.1,D1 h hb.2]
end
def Cfg.ren (G:Cfg)(σ:Nat→Nat×Nat)(lim:Nat→Option Nat)(n2:Nat):Cfg:=
 {w:=G.w,n:=n2,μ:=λo=>((G.μ (σ o).1).1,(G.μ (σ o).1).2.1+(σ o).2,(lim o).getD ((G.μ (σ o).1).2.2 - (σ o).2)),L:=G.L,K:=G.K}
def lL:Nat→Option Nat:=λ_=>none
theorem SlAt.ren {m:Nat×Nat×Nat}{sh off esz:Nat}{cap:Room}{a:Addr}{c:Nat}(h:SlAt m (sh+off) esz cap a c):SlAt (m.1,m.2.1+sh,m.2.2 - sh) off esz cap a c:=by
 unfold SlAt at h⊢;cases cap with
 | ex k=>
  simp only at h⊢;refine⟨h.1,h.2.imp id λh2=>⟨by rw[h2.1,Ag5],by have:=h2.2;omega⟩⟩
 | ge k=>
  simp only at h⊢;refine⟨h.1,h.2.imp id λh2=>⟨by rw[h2.1,Ag5],by have:=h2.2;omega⟩⟩
mutual
theorem VR.ren {G:Cfg}{σ:Nat→Nat×Nat}{lim:Nat→Option Nat}{n2 m2:Nat}(hl:∀o,o<m2→lim o=none)(hm:m2≤n2):∀{a:AV} {v:Value},VR G (a.ren σ) v→EI m2 a→VR (G.ren σ lim n2) a v
 | .lit _,_,h,_=>by simpa only[AV.ren,VR]using h
 | .ptr o off,v,h,hb=>by
  simp only[AV.ren,VR]at h⊢;simp only[EI]at hb;exact⟨Af0 hb hm,by rw[h.2];simp only[Cfg.ren,Ag5]⟩
 | .ip cs,v,h,hb=>by
  simp only[AV.ren,VR]at h⊢;simp only[EI]at hb;obtain⟨ad,vs,e,hh,hr⟩:=h;exact⟨ad,vs,e,hh,VRs.ren hl hm hr hb⟩
 | .sl o off len esz cap,v,h,hb=>by
  simp only[AV.ren,VR]at h⊢;simp only[EI]at hb;obtain⟨_,a,c,e,hlc,hs⟩:=h;refine⟨Af0 hb hm,a,c,e,hlc,?_⟩
  have:=hs.ren
  simp only[Cfg.ren,hl o hb,Option.getD_none];exact this
 | .imm cs len esz,v,h,hb=>by
  simp only[AV.ren,VR]at h⊢;simp only[EI]at hb;obtain⟨ad,c,vs,e,hlc,hh,hr⟩:=h;exact⟨ad,c,vs,e,hlc,hh,VRs.ren hl hm hr hb⟩
 | .mp o,v,h,hb=>by
  simp only[AV.ren,VR]at h⊢;simp only[EI]at hb;exact⟨Af0 hb hm,h.2⟩
 | .agg cs,v,h,hb=>by
  simp only[AV.ren,VR]at h⊢;simp only[EI]at hb;obtain⟨vs,e,hr⟩:=h;exact⟨vs,e,VRs.ren hl hm hr hb⟩
 | .tup cs,v,h,hb=>by
  simp only[AV.ren,VR]at h⊢;simp only[EI]at hb;obtain⟨vs,e,hr⟩:=h;exact⟨vs,e,VRs.ren hl hm hr hb⟩
 | .fn f a b,v,h,hb=>by
  simp only[AV.ren,VR]at h⊢;simp only[EI]at hb;obtain⟨va,vb,e,h1,h2⟩:=h;exact⟨va,vb,e,VRs.ren hl hm h1 hb.1,VRs.ren hl hm h2 hb.2⟩
 | .emp,_,h,_=>by simpa only[AV.ren,VR]using h
 | .junk,_,_,_=>by simp only[VR]
theorem VRs.ren {G:Cfg}{σ:Nat→Nat×Nat}{lim:Nat→Option Nat}{n2 m2:Nat}(hl:∀o,o<m2→lim o=none)(hm:m2≤n2):∀{asx:List AV} {vs:List Value},VRs G (QT σ asx) vs→CB m2 asx→VRs (G.ren σ lim n2) asx vs
 | [],_,h,_=>by simpa only[QT,VRs]using h
 | a::r,vs,h,hb=>by
  simp only[QT,VRs]at h⊢;simp only[CB]at hb;obtain⟨v,q,e,h1,h2⟩:=h;exact⟨v,q,e,VR.ren hl hm h1 hb.1,VRs.ren hl hm h2 hb.2⟩
end
structure Canon (n0 m2:Nat)(σ:Nat→Nat×Nat)(lim:Nat→Option Nat)(H1 H2:AH):Prop where
 len:n0≤H2.length
 top:m2≤H2.length
 old:∀o,o<n0→σ o=(o,0)∧lim o=none
 low:∀o,o<m2→lim o=none
 cells:∀(o:Nat) (cs:List AV),H2[o]?=some (some (.cells cs))→∃cs1,H1[(σ o).1]?=some (some (.cells cs1))∧(σ o).2+cs.length≤cs1.length∧QT σ cs=(cs1.drop (σ o).2).take cs.length∧CB m2 cs∧∀ℓ,lim o=some ℓ→cs.length≤ℓ
 maps:∀(o:Nat) (es:List (Value×AV)),H2[o]?=some (some (.map es))→(σ o).2=0∧∃es1,H1[(σ o).1]?=some (some (.map es1))∧es1.map Prod.fst=es.map Prod.fst∧es1.map Prod.snd=QT σ (es.map Prod.snd)∧CB m2 (es.map Prod.snd)
 inj:∀(o o':Nat) (x x':AObj),H2[o]?=some (some x)→H2[o']?=some (some x')→(σ o).1=(σ o').1→o=o'
abbrev Ak1:=@Option.getD_some
theorem Canon.hr {n0 m2:Nat}{σ:Nat→Nat×Nat}{lim:Nat→Option Nat}{H1 H2:AH}(c:Canon n0 m2 σ lim H1 H2){G:Cfg}(hr:HR G H1)(hlim:∀o ℓ,lim o=some ℓ→(σ o).2+ℓ≤(G.μ (σ o).1).2.2):HR (G.ren σ lim H2.length) H2:=by
 have src:∀(o:Nat) (x:AObj),H2[o]?=some (some x)→∃x1,H1[(σ o).1]?=some (some x1):=by
  intro o x hx;cases x with
  | cells cs=>obtain⟨cs1,h1,_⟩:=c.cells o cs hx;exact⟨_,h1⟩
  | map es=>obtain⟨_,es1,h1,_⟩:=c.maps o es hx;exact⟨_,h1⟩
 refine⟨rfl,?_,?_,?_,hr.lt,hr.dis⟩
 ·intro o x hx
  cases x with
  | cells cs=>
   obtain⟨cs1,h1,h2,h3,h4,h5⟩:=c.cells o cs hx;obtain⟨cc,e,vs,q1,q2,q3,q4,q5⟩:=hr.obj _ _ h1;have hl:=q4.length
   have hlm:(lim o).getD ((G.μ (σ o).1).2.2 - (σ o).2)+(σ o).2≤(G.μ (σ o).1).2.2∧cs.length≤(lim o).getD ((G.μ (σ o).1).2.2 - (σ o).2):=by
    cases hlo:lim o with
    | none=>simp only[Option.getD_none];omega
    | some ℓ=>have:=hlim o ℓ hlo;have:=h5 ℓ hlo;simp only[Ak1];omega
   refine⟨cc,e,(vs.drop (σ o).2).take cs.length,q1,?_,hlm.2,?_,?_⟩
   ·show(G.μ (σ o).1).2.1+(σ o).2+(lim o).getD ((G.μ (σ o).1).2.2 - (σ o).2)≤cc.size
    omega
   ·refine VRs.ren c.low c.top ?_ h4
    rw[h3];exact(q4.drop _).take _
   ·intro i v hv
    rw[Ac9]at hv;split at hv
    ·rw[Ad1]at hv
     have:=q5 _ _ hv
     show cc[(G.μ (σ o).1).2.1+(σ o).2+i]?=some v∧_
     rw[Ag5];exact this
    ·cases hv
  | map es=>
   obtain⟨h0,es1,h1,h2,h3,h4⟩:=c.maps o es hx;obtain⟨ents,q1,q2,q3,q4⟩:=hr.obj _ _ h1;refine⟨ents,q1,?_,by rw[q3,h2],?_⟩
   ·refine VRs.ren c.low c.top ?_ h4
    rw[← h3];exact q2
   ·rw[q4]
    congr 1
    have:=congrArg List.length h2
    simpa using this
 ·intro o o' x x' hx hx' he
  obtain⟨x1,h1⟩:=src o x hx;obtain⟨x2,h2⟩:=src o' x' hx';exact c.inj o o' x x' hx hx' (hr.inj _ _ _ _ h1 h2 he)
 ·intro o x hx
  obtain⟨x1,h1⟩:=src o x hx;exact hr.live _ _ h1
theorem Canon.evo {n0 m2:Nat}{σ:Nat→Nat×Nat}{lim:Nat→Option Nat}{H1 H2:AH}(c:Canon n0 m2 σ lim H1 H2){G0 G:Cfg}(h0:G0.n=n0)(hE:Evo G0 G):Evo G0 (G.ren σ lim H2.length):=
 ⟨hE.os,hE.tape,hE.output,hE.size,hE.keep,by rw[h0];exact c.len,λo ho=>by
  obtain⟨hσ,hl⟩:=c.old o (by omega)
  have:=hE.μ o ho
  simp only[Cfg.ren,hσ,hl,Ah1,Nat.sub_zero,Option.getD_none];exact this,hE.K⟩
section
variable {P : Program}
def belH (H:AH):Prop:=∀(o:Nat) (x:AObj),H[o]?=some (some x)→x.bel H.length
theorem HR.belH {G:Cfg}{H:AH}(hr:HR G H):belH H:=λo x hx=>by rw[← hr.n];exact(hr.obj o x hx).bel
theorem ACalls.canon {f:FuncId}{args:List AV}{H H2:AH}{R:AV→AH→Prop}{r2:AV}(h:ACalls P f args H R)
  (hc:belH H→∀r1 H1,R r1 H1→∃m2 σ lim,Canon H.length m2 σ lim H1 H2∧∀G v,HR G H1→VR G r1 v→VR (G.ren σ lim H2.length) r2 v∧∀o ℓ,lim o=some ℓ→(σ o).2+ℓ≤(G.μ (σ o).1).2.2):BCall P f args H r2 H2:=by
 intro G vs hH hv;refine(h G vs hH hv).mono ?_;rintro e w' ⟨r1,H1,G',v,rfl,rfl,hE,hx,hX,hq⟩;obtain⟨m2,σ,lim,c,hs⟩:=hc hH.belH r1 H1 hq;obtain⟨hs1,hs2⟩:=hs G' v hX hx;exact⟨r2,H2,G'.ren σ lim H2.length,v,rfl,rfl,c.evo hH.n hE,hs1,c.hr hX hs2,rfl,rfl⟩
theorem ACalls.room {f:FuncId}{o off len esz k:Nat}{args:List AV}{H:AH}{R:AV→AH→Prop}(h:∀c,k≤c→len≤c→ACalls P f (.sl o off len esz (.ex c)::args) H R):ACalls P f (.sl o off len esz (.ge k)::args) H R:=by
 intro G vs hH hv;simp only[VRs]at hv;obtain⟨v,r,rfl,h1,h2⟩:=hv;simp only[VR]at h1;obtain⟨ho,a,c,rfl,hl,hs⟩:=h1;simp only[SlAt]at hs;refine h c hs.1 hl G _ hH (.cons ?_ h2);simp only[VR];refine⟨ho,a,c,rfl,hl,rfl,hs.2.imp id λh3=>⟨h3.1,by have:=h3.2;omega⟩⟩
end
def sU:Nat→Nat×Nat:=λo=>(o,0)
def rR (n o off:Nat):Nat→Nat×Nat:=λp=>if p=n then(o,off)else(p,0)
def Yn (n l:Nat):Nat→Option Nat:=λp=>if p=n then some l else none
theorem Canon.grown {H:AH}(hb:belH H){o:Nat}{N:List AV}(hN:CB H.length N):Canon H.length H.length sU lL (H++[some (.cells N)]) (H.set o none++[some (.cells N)]):=by
 have get:∀(p:Nat) (x:AObj),(H.set o none++[some (.cells N)])[p]?=some (some x)→(H++[some (.cells N)])[p]?=some (some x)∧x.bel H.length:=by
  intro p x hx
  by_cases hp:p<H.length
  ·rw[Ab9 (by simpa using hp),Ag6]at hx
   rw[Ab9 hp];split at hx
   ·split at hx<;>simp at hx
   ·exact⟨hx,hb p x hx⟩
  ·rw[Ac4 (by simpa using hp)]at hx
   rw[Ac4 (by omega)];simp only[Ae1]at hx;refine⟨hx,?_⟩
   have:p - H.length=0:=by
    have:=(BD.1 hx).1
    simp at this;omega
   rw[this]at hx;simp at hx;rw[← hx];exact hN
 refine⟨by simp,by simp,λp hp=>⟨rfl,rfl⟩,λp hp=>rfl,?_,?_,?_⟩
 ·intro p cs hx
  obtain⟨h1,h2⟩:=get p _ hx;refine⟨cs,h1,by simp[sU],?_,h2,λℓ h=>by cases h⟩;rw[D1 (σ:=sU) (m:=H.length) (λ_ _=>rfl) h2];simp[sU]
 ·intro p es hx
  obtain⟨h1,h2⟩:=get p _ hx;exact⟨rfl,es,h1,rfl,(D1 (σ:=sU) (m:=H.length) (λ_ _=>rfl) h2).symm,h2⟩
 ·intro p p' x x' _ _ h
  exact h
theorem Canon.placed {H:AH}(hb:belH H){o off l:Nat}{N cs1:List AV}(ho:o<H.length)(hN:CB H.length N)(hl:off+N.length≤cs1.length)(he:(cs1.drop off).take N.length=N)(hll:N.length≤l):
  Canon H.length H.length (rR H.length o off) (Yn H.length l) (H.set o (some (.cells cs1))) (H.set o none++[some (.cells N)]):=by
 have sm:∀p,p<H.length→rR H.length o off p=(p,0):=λp hp=>by unfold rR;rw[if_neg (by omega)]
 have sl:∀p,p<H.length→Yn H.length l p=none:=λp hp=>by unfold Yn;rw[if_neg (by omega)]
 have get:∀(p:Nat) (x:AObj),(H.set o none++[some (.cells N)])[p]?=some (some x)→(p<H.length∧p≠o∧(H.set o (some (.cells cs1)))[p]?=some (some x)∧x.bel H.length)∨(p=H.length∧x=.cells N):=by
  intro p x hx
  by_cases hp:p<H.length
  ·left
   rw[Ab9 (by simpa using hp),Ag6]at hx;split at hx
   ·simp at hx
   ·rename_i hne
    exact⟨hp,λh=>hne h.symm,by rw[C4 hne];exact hx,hb p x hx⟩
  ·right
   rw[Ac4 (by simpa using hp)]at hx;simp only[Ae1]at hx
   have:p - H.length=0:=by
    have:=(BD.1 hx).1
    simp at this;omega
   rw[this]at hx;simp at hx;exact⟨by omega,hx.symm⟩
 refine⟨by simp,by simp,λp hp=>⟨sm p hp,sl p hp⟩,sl,?_,?_,?_⟩
 ·intro p cs hx
  rcases get p _ hx with⟨h0,_,h1,h2⟩ | ⟨rfl,h⟩
  ·refine⟨cs,by rw[sm p h0];exact h1,by rw[sm p h0];simp,?_,h2,λℓ h=>by rw[sl p h0]at h;cases h⟩
   rw[D1 sm h2,sm p h0];simp
  ·injection h with h
   subst h;have e:rR H.length o off H.length=(o,off):=if_pos rfl;refine⟨cs1,by rw[e];simp[ho],by rw[e];exact hl,?_,hN,λℓ h=>?_⟩
   ·rw[D1 sm hN,e];exact he.symm
   ·unfold Yn at h
    rw[if_pos rfl]at h;injection h with h;omega
 ·intro p es hx
  rcases get p _ hx with⟨h0,_,h1,h2⟩ | ⟨_,h⟩
  ·exact⟨by rw[sm p h0],es,by rw[sm p h0];exact h1,rfl,(D1 sm h2).symm,h2⟩
  ·cases h
 ·intro p p' x x' hx hx' h
  have e:rR H.length o off H.length=(o,off):=if_pos rfl;rcases get p _ hx with⟨h0,h0',_,_⟩ | ⟨rfl,_⟩<;>rcases get p' _ hx' with⟨k0,k0',_,_⟩ | ⟨rfl,_⟩
  ·rw[sm p h0,sm p' k0]at h;exact h
  ·rw[sm p h0,e]at h;exact(h0' h).elim
  ·rw[sm p' k0,e]at h;exact(k0' h.symm).elim
  ·rfl
end
section
section
variable {P : Program}
def aB (P:Program)(sz bytes:Nat)(zc:List AV)(ov rot:FuncId)(a0 a1 a2:AV)(H:AH)(K:AV→AH→Prop):Prop:=
 bO (AX sz a0 (some a1) none none) λv0=>
 bO (Ba a2) λv1=>
 bO (Ap .eql v1 (I 0)) λv2=>
 bB v2 λt3=>bI t3 (
 K a0 H)
 (bO (Ba a0) λv4=>
 bO (Ap .eql a1 v4) λv5=>
 bB v5 λt6=>bI t6 (
 bH (Mm sz bytes H a0 a2) λv7 H8=>
 K v7 H8)
 (bO (Ap .add v4 v1) λv9=>
 bO (V6 a0) λv10=>
 bO (Ap .gtr v9 v10) λv11=>
 bB v11 λt12=>bI t12 (
 bO (AX sz a0 none (some a1) none) λv13=>
 bO (Ap .add v4 v1) λv14=>
 bO (Ap .sub v14 a1) λv15=>
 bH (Kj H sz bytes zc v13 v15) λv16 H17=>
 bO (AX sz v16 (some a1) none none) λv18=>
 bH (Oe sz H17 v18 a2) λv19 H20=>
 bO (Ap .add a1 v1) λv21=>
 bO (AX sz v16 (some v21) none none) λv22=>
 bO (AX sz a0 (some a1) none none) λv23=>
 bH (Oe sz H20 v22 v23) λv24 H25=>
 K v16 H25)
 (bO (Ap .add v4 v1) λv26=>
 bO (AX sz a0 none (some v26) none) λv27=>
 bO (Ap .add a1 v1) λv28=>
 bO (AX sz v27 (some v28) none none) λv29=>
 bP (ExtR P ov [a2,v29] H) λv30=>
 bO (Fb .not v30) λv31=>
 bB v31 λt32=>bI t32 (
 bO (Ap .add a1 v1) λv33=>
 bO (AX sz v27 (some v33) none none) λv34=>
 bO (AX sz v27 (some a1) none none) λv35=>
 bH (Oe sz H v34 v35) λv36 H37=>
 bO (AX sz v27 (some a1) none none) λv38=>
 bH (Oe sz H37 v38 a2) λv39 H40=>
 K v27 H40)
 (bO (AX sz v27 (some v4) none none) λv41=>
 bH (Oe sz H v41 a2) λv42 H43=>
 bO (AX sz v27 (some a1) none none) λv44=>
 bC (BCall P rot [v44,v1] H43) λv45 H46=>
 K v27 H46))))
def Cm (s:AV)(n:Nat):Prop:=match s with
 | .sl _ _ _ _ cap=>n≤cap.least
 | _=>True
theorem TL {H:AH}{sz o off len o2 off2 m:Nat}{cap cap2:Room}{cs cs2:List AV}(ho:H[o]?=some (some (.cells cs)))(h2:H[o2]?=some (some (.cells cs2)))(hoff:off≤cs.length)(ht:off2+min m len*sz≤cs2.length):
  Oe sz H (.sl o off len sz cap) (.sl o2 off2 m sz cap2)=some (I ((min m len:Nat):Int),H.set o (some (.cells (B2 cs off ((cs2.drop off2).take (min m len*sz)))))):=by
 unfold Oe eE
 by_cases h:off2+m*sz≤cs2.length
 ·have e:Bf H sz (.sl o2 off2 m sz cap2)=some ((cs2.drop off2).take (m*sz),m):=AI (by simp[Aa,h2,h])
  have hm:min (min m len*sz) (m*sz)=min m len*sz:=Ai2 (Ad0 _ (Am3 _ _));rw[e];simp only[ho,hoff,and_self,if_true,Ah0,hm]
 ·have e:Bf H sz (.sl o2 off2 m sz cap2)=none:=by simp[Bf,Aa,h2,h]
  rw[e];simp[nS,ho,h2,hoff,ht]
theorem NC {sz bytes:Nat}{H:AH}{s x r:AV}{H':AH}{cs ds:List AV}{n m:Nat}(h1:Aa H sz s=some (cs,n))(ho:AP s=true)(h2:Bf H sz x=some (ds,m))(hc:Cm s n)(h:Mm sz bytes H s x=some (r,H')):Cm r (n+m):=by
 unfold Mm at h;rw[h2]at h;simp only at h;unfold Aa at h1;split at h1
 ·simp[AP]at ho
 ·rename_i o off len esz cap
  split at h1
  ·rename_i c hoc
   split at h1
   ·rename_i hb1
    obtain⟨rfl,hfit⟩:=hb1;injection h1 with h1;injection h1 with h3 h4;subst h3;subst h4;unfold LI at h;simp only[hoc,zF,false_or,hfit]at h;cases cap with
    | ex k=>
     simp only at h;split at h
     ·injection h with h;injection h with h h';subst h;simpa[Cm,Room.least]
     ·split at h
      ·injection h with h;injection h with h h';subst h;simp[Cm,Room.least]
      ·cases h
    | ge k=>
     simp only at h;split at h
     ·rename_i hm
      injection h with h;injection h with h h';subst h;subst hm;simpa using hc
     ·split at h
      ·injection h with h;injection h with h h';subst h;simpa[Cm,Room.least]
      ·split at h
       ·injection h with h;injection h with h h';subst h;simp[Cm,Room.least]
       ·cases h
   ·cases h1
  ·cases h1
 ·injection h1 with h1
  injection h1 with h3 h4;subst h3;subst h4;unfold LI at h;simp only at h;split at h
  ·injection h with h;injection h with h h';subst h;simp[Cm]
  ·split at h
   ·injection h with h;injection h with h h';subst h;simp[Cm,Room.least]
   ·cases h
 ·injection h1 with h1
  injection h1 with h3 h4;subst h3;subst h4;unfold LI at h;simp only at h;split at h
  ·injection h with h;injection h with h h';subst h;simp[Cm]
  ·split at h
   ·injection h with h;injection h with h h';subst h;simp[Cm,Room.least]
   ·cases h
 ·cases h1
def nJ (sz:Nat)(H:AH)(s:AV)(N:List AV)(n:Nat)(r:AV)(H':AH):Prop:=
 AP r=true∧Aa H' sz r=some (N,n+1)∧H.length≤H'.length∧(∀i,i<H.length→i∉AU s→H'[i]?=H[i]?)∧(∀i∈AU r,i∈AU s∨H.length≤i)∧Cm r (n+1)
theorem oV {sz bytes:Nat}{zc:List AV}{ov rot:FuncId}{H:AH}{s a2:AV}{cs xs:List AV}{n:Nat}(hs:Aa H sz s=some (cs,n))(ho:AP s=true)(hc:Cm s n)(ha:Ba a2=some (I 1))(hx:Bf H sz a2=some (xs,1))(hb:(n+1)*bytes≤140737488355328):
  ∃r H',nJ sz H s (cs++xs) n r H'∧aB P sz bytes zc ov rot s (I n) a2 H λr' H''=>r'=r∧H''=H':=by
 obtain⟨r0,a0,-⟩:=E3 hs (lo:=some (I n)) (hi:=none) (l:=n) (k:=n) (by simp[Bs]) rfl (Ac2 _) (Ac2 _);obtain⟨r,H2,a1,a2',a3,a4,a5,a6⟩:=CC (bytes:=bytes) hs ho hx hb;refine⟨r,H2,⟨a2',a3,a4,a5,a6,NC hs ho hx hc a1⟩,?_⟩;unfold aB;simp[a0,ha,By hs,a1]
abbrev Al6:=@List.drop_eq_nil_of_le
theorem kT {sz bytes:Nat}{zc:List AV}{ov rot:FuncId}(hz:zc.length=sz){H:AH}{o off n oj i:Nat}{cells xs:List AV}(hc:H[o]?=some (some (.cells cells)))(hl:off+n*sz≤cells.length)(hi:i<n)(hn:n≤100000000)(hv:H[oj]?=some (some (.cells xs)))(hxl:xs.length=sz)(hby:(n+1)*bytes≤140737488355328):
  aB P sz bytes zc ov rot (.sl o off n sz (.ex n)) (I i) (.sl oj 0 1 sz (.ex 1)) H λr H'=>r=.sl H.length 0 (n+1) sz (.ge (n+1))∧
   H'=H++[some (.cells ((cells.drop off).take (i*sz)++xs++(cells.drop (off+i*sz)).take ((n - i)*sz)))]:=by
 unfold aB;have h1:¬(i:Int)=n:=by omega
 have hmi:i*sz≤n*sz:=Ad0 _ (by omega);have hmn:i*sz+(n - i)*sz=n*sz:=by rw[← Ag9];congr 1;omega
 have hms:(i+1)*sz=i*sz+sz:=Af6 _ _;have hmr:(n+1 - i)*sz=(n - i)*sz+sz:=by rw[show n+1 - i=(n - i)+1 by omega,Af6]
 simp[AX,Bs,Room.least,Room.cut,V6,goInt,h1,show i≤n by omega,Aw (a:=n) (b:=1) (by omega) (by omega),BM (a:=(n:Int)+1) (b:=i) (by omega) (by omega),Kj,hc,hl,Aw (a:=i) (b:=1) (by omega) (by omega),-Be];have e1:i+(n+1 - i)=n+1:=by omega
 have h2:off+i*sz≤cells.length:=by omega
 simp only[e1];simp[h2,show(i:Int)<n+1 by omega,show(n:Int)<n+1 by omega,hby,show i≤n+1 by omega,show i+1≤n+1 by omega,-Be];have zl:(Be zc (n+1 - i)).length=(n+1 - i)*sz:=by rw[Di,hz]
 generalize Be zc (n+1 - i)=Z at zl;have hA:(List.take (i*sz) (List.drop off cells)).length=i*sz:=by rw[Ac0,Ac7];omega
 generalize hAe:List.take (i*sz) (List.drop off cells)=A at hA;have hov:=(BD.1 hv).1;have ho:=(BD.1 hc).1;have m1:min 1 (n+1 - i)=1:=by omega
 rw[TL (cs:=A++Z) (cs2:=xs) (by simp) (by rw[Ab9 hov];exact hv) (by simp[hA]) (by rw[m1];omega)];simp[show(0:Int)≤(i:Int)+1 by omega,show i+1≤n+1 by omega]
 have o1:B2 (A++Z) (i*sz) (List.take (min 1 (n+1 - i)*sz) xs)=A++xs++Z.drop sz:=by
  rw[m1,Ac1 (by rw[hxl];omega)];unfold B2;rw[Ad4 (by omega),Ac1 (by omega),hxl,← hA,List.drop_append,Al2,Al6 (by omega),Ai1]
 rw[o1,TL (cs:=A++xs++Z.drop sz) (cs2:=cells) (by simp) (by rw[Ab9 ho];exact hc) (by simp[hA,hxl];omega) (by rw[Nat.min_self];omega)];have hB:(List.take ((n - i)*sz) (List.drop (off+i*sz) cells)).length=(n - i)*sz:=by rw[Ac0,Ac7];omega
 simp;generalize List.take ((n - i)*sz) (List.drop (off+i*sz) cells)=B' at hB;unfold B2;have l1:(A++xs).length=(i+1)*sz:=by rw[Ac6,hA,hxl];omega
 rw[← Ad3,Ad4 (by omega),Ac1 (by omega),Al6 (by rw[Ac6,l1,Ac7,hB];omega),Af1,Ad3]
abbrev Aa9:=And.intro @Ab @if_true.{1}
abbrev Ao3:=@List.drop_left
theorem fT {sz bytes:Nat}{zc:List AV}{ov rot:FuncId}(h0:0<sz){H:AH}{o off n oj i c:Nat}{cells xs:List AV}(hc:H[o]?=some (some (.cells cells)))(hl:off+n*sz≤cells.length)(hi:i<n)(hn:n≤100000000)(hcn:n+1≤c)(hv:H[oj]?=some (some (.cells xs)))(hxl:xs.length=sz)(hne:oj≠o)
  (hov:∀q l k,k≠0→ExtR P ov [.sl oj 0 1 sz (.ex 1),.sl o q l sz (.ex k)] H (B false)):
  aB P sz bytes zc ov rot (.sl o off n sz (.ex c)) (I i) (.sl oj 0 1 sz (.ex 1)) H λr H'=>r=.sl o off (n+1) sz (.ex c)∧
   ∃rest,H'=H.set o (some (.cells (cells.take (off+i*sz)++xs++(cells.drop (off+i*sz)).take ((n - i)*sz)++rest))):=by
 unfold aB;have h1:¬(i:Int)=n:=by omega
 have hmi:i*sz≤n*sz:=Ad0 _ (by omega);have hmn:i*sz+(n - i)*sz=n*sz:=by rw[← Ag9];congr 1;omega
 have hms:(i+1)*sz=i*sz+sz:=Af6 _ _;have hms2:(i+1)*sz≤n*sz:=Ad0 _ (by omega);simp[AX,Bs,Room.least,Room.cut,V6,goInt,h1,show i≤n by omega,Aw (a:=n) (b:=1) (by omega) (by omega),BM (a:=(n:Int)+1) (b:=i) (by omega) (by omega),hc,hl,Aw (a:=i) (b:=1) (by omega) (by omega),show i≤c by omega,show n≤c by omega,show ¬(c:Int)<n+1 by omega,hcn,show(0:Int)≤(n:Int)+1 by omega,show(0:Int)≤(i:Int)+1 by omega,show i+1≤n+1 by omega,show i+1≤c by omega];refine bP_of (hov _ _ _ (by omega)) ?_;simp;have ho:=(BD.1 hc).1;have mm:min (n+1 - i) (n - i)=n - i:=by omega
 have m1:min 1 (n+1 - i)=1:=by omega
 simp only[show i≤n+1 by omega,Aa9];rw[TL (cs:=cells) (cs2:=cells) hc hc (by omega) (by rw[mm];omega),mm];have hB:(List.take ((n - i)*sz) (List.drop (off+i*sz) cells)).length=(n - i)*sz:=by rw[Ac0,Ac7];omega
 generalize List.take ((n - i)*sz) (List.drop (off+i*sz) cells)=B' at hB;simp only[Az];have l1:(cells.take (off+(i+1)*sz)).length=off+(i+1)*sz:=by rw[Ac0];omega
 rw[TL (cs:=B2 cells (off+(i+1)*sz) B') (cs2:=xs) (by simp[ho]) (by rw[C4 (Af4 hne)];exact hv) (by unfold B2;simp[l1];omega) (by rw[m1];omega),m1,Ac1 (l:=xs.drop 0) (by simp[hxl])];simp only[Az,List.set_set,Ad9];refine⟨(cells.drop (off+(i+1)*sz+B'.length)),?_⟩
 congr 3
 unfold B2;rw[hxl]
 have t1:List.take (off+i*sz) (cells.take (off+(i+1)*sz)++B'++cells.drop (off+(i+1)*sz+B'.length))=cells.take (off+i*sz):=by
  rw[Ad3,Ad4 (by omega),Ah0,Ai2 (by omega)]
 have t2:List.drop (off+i*sz+sz) (cells.take (off+(i+1)*sz)++B'++cells.drop (off+(i+1)*sz+B'.length))=B'++cells.drop (off+(i+1)*sz+B'.length):=by
  rw[Ad3,show off+i*sz+sz=(cells.take (off+(i+1)*sz)).length by omega,Ao3]
 rw[t1,t2,Ad3]
theorem RG {m:Nat}:∀{a b:List AV},CB m a→CB m b→CB m (a++b)
 | [],b,_,h=>h
 | x::a,b,h1,h2=>by simp only[CB,Ah7]at h1⊢;exact⟨h1.1,RG h1.2 h2⟩
theorem NH {m:Nat}:∀{a:List AV},CB m a↔∀x∈a,EI m x
 | []=>by simp[CB]
 | x::a=>by simp only[CB,Ad5,forall_eq_or_imp,NH (a:=a)]
theorem kU {sz bytes:Nat}{zc:List AV}{f ov rot:FuncId}(h0:0<sz)(hz:zc.length=sz)(hF:∀a0 a1 a2 H K,aB P sz bytes zc ov rot a0 a1 a2 H K→ACalls P f [a0,a1,a2] H K){H:AH}{s:AV}{cs xs:List AV}{n oj i:Nat}(hs:Aa H sz s=some (cs,n))(ho:AP s=true)(hcap:Cm s n)(hi:i≤n)(hn:n≤1000000)(hby:bytes≤1000000)(hv:H[oj]?=some (some (.cells xs)))(hxl:xs.length=sz)(hne:oj∉AU s)
  (hxb:∀m,CB m xs) (hov:∀{o q l k:Nat} {cells:List AV},H[o]?=some (some (.cells cells))→oj≠o→k≠0→cells≠[]→ExtR P ov [.sl oj 0 1 sz (.ex 1),.sl o q l sz (.ex k)] H (B false)):
  ∃r H',nJ sz H s (cs.take (i*sz)++xs++cs.drop (i*sz)) n r H'∧BCall P f [s,I i,.sl oj 0 1 sz (.ex 1)] H r H':=by
 have hcl:=Cf hs;have hbb:(n+1)*bytes≤140737488355328:=Ad8 (Nat.mul_le_mul (show n+1≤1000001 by omega) hby) (by omega);rcases Ac5 i n with h | h
 ·obtain⟨o,off,cap,cells,rfl,hc,hl,rfl⟩:=HL hs ho (by omega)
  have hoj:oj≠o:=by simpa[AU]using hne
  have hol:=(BD.1 hc).1;have hmi:i*sz≤n*sz:=Ad0 _ (by omega);have hmn:i*sz+(n - i)*sz=n*sz:=by rw[← Ag9];congr 1;omega
  have hmn1:(n+1)*sz=n*sz+sz:=Af6 _ _;have hsz1:sz≤n*sz:=by have:=Ad0 sz (show 1≤n by omega);omega
  have hcne:cells≠[]:=λhh=>by rw[hh]at hl;simp at hl;omega
  have e1:((cells.drop off).take (n*sz)).take (i*sz)=(cells.drop off).take (i*sz):=by rw[Ah0];congr 1;omega
  have e2:((cells.drop off).take (n*sz)).drop (i*sz)=(cells.drop (off+i*sz)).take ((n - i)*sz):=by rw[Ak0,Ag3];congr 1;omega
  rw[e1,e2];generalize hN:(cells.drop off).take (i*sz)++xs++(cells.drop (off+i*sz)).take ((n - i)*sz)=N
  have hNl:N.length=(n+1)*sz:=by
   rw[← hN,Ac6,Ac6,hxl,Ac0,Ac0,Ac7,Ac7];omega
  have hall:∀c,n≤c→ACalls P f [.sl o off n sz (.ex c),I i,.sl oj 0 1 sz (.ex 1)] H λr H'=>
    (r=.sl H.length 0 (n+1) sz (.ge (n+1))∧H'=H++[some (.cells N)])∨∃c rest,n+1≤c∧r=.sl o off (n+1) sz (.ex c)∧H'=H.set o (some (.cells (cells.take off++N++rest))):=by
   intro c hcn;rcases Ac5 n c with h' | h'
   ·refine(hF _ _ _ _ _ (fT h0 hc hl h (by omega) h' hv hxl hoj λq l k hk=>hov hc hoj hk hcne)).mono ?_
    rintro r H' ⟨rfl,rest,rfl⟩;refine .inr ⟨c,rest,h',rfl,?_⟩
    congr 3
    rw[← hN,Ak9 off (i*sz),Ak9 (i*sz) off];have:cells.take (off+i*sz)=cells.take off++(cells.drop off).take (i*sz):=by rw[List.take_add]
    rw[this];simp[Ad3]
   ·have:c=n:=by omega
    subst this;refine(hF _ _ _ _ _ (kT hz hc hl h (by omega) hv hxl hbb)).mono ?_;rintro r H' ⟨rfl,rfl⟩;exact .inl ⟨rfl,by rw[hN]⟩
  have hany:ACalls P f [.sl o off n sz cap,I i,.sl oj 0 1 sz (.ex 1)] H λr H'=>
    (r=.sl H.length 0 (n+1) sz (.ge (n+1))∧H'=H++[some (.cells N)])∨∃c rest,n+1≤c∧r=.sl o off (n+1) sz (.ex c)∧H'=H.set o (some (.cells (cells.take off++N++rest))):=by
   cases cap with
   | ge k=>exact ACalls.room λc _ h=>hall c h
   | ex c=>exact hall c (by simpa[Cm,Room.least]using hcap)
  refine⟨.sl H.length 0 (n+1) sz (.ge (n+1)),H.set o none++[some (.cells N)],⟨rfl,?_,by simp,λj hj hn=>?_,λj hj=>.inr (by simp[AU]at hj;omega),by simp[Cm,Room.least]⟩,?_⟩
  ·rw[A9 (c:=N) (by rw[Ac4 (by simp)];simp) (by omega)]
   rw[Ad9,Ac1 (by omega)]
  ·rw[Ab9 (by simpa using hj),C4 (by simp[AU]at hn;omega)]
  refine ACalls.canon hany ?_;rintro hb r1 H1 h1
  have hbN:CB H.length N:=by
   have hbc:CB H.length cells:=hb o _ hc;rw[NH]at hbc;rw[← hN];refine RG (RG ?_ (hxb _)) ?_
   ·rw[NH];exact λa ha=>hbc a (Ah6 (Ag1 ha))
   ·rw[NH];exact λa ha=>hbc a (Ah6 (Ag1 ha))
  rcases h1 with⟨rfl,rfl⟩ | ⟨c,rest,hcn,rfl,rfl⟩
  ·refine⟨_,_,_,Canon.grown hb hbN,?_⟩
   intro G v hG hr;refine⟨?_,λp ℓ h=>by cases h⟩;simp only[VR]at hr⊢;obtain⟨q0,a,c,rfl,hlc,hs⟩:=hr;refine⟨by simp[Cfg.ren],a,c,rfl,hlc,?_⟩
   simpa[Cfg.ren,sU,lL]using hs
  ·have hcs:(n+1)*sz≤c*sz:=Ad0 _ hcn
   refine⟨_,_,_,Canon.placed (off:=off) (l:=c*sz) hb hol hbN (cs1:=cells.take off++N++rest) ?_ ?_ ?_,?_⟩
   ·simp;omega
   ·have:(cells.take off).length=off:=by rw[Ac0];omega
    rw[Ad3]
    conv=>lhs;arg 2;arg 1;rw[← this]
    rw[Ao3,List.take_left]
   ·rw[hNl];omega
   ·intro G v hG hr
    simp only[VR]at hr;obtain⟨q0,a,c',rfl,hlc,hs⟩:=hr;simp only[SlAt]at hs;obtain⟨rfl,hs⟩:=hs;have hs:=hs.resolve_left (by omega);obtain⟨rfl,hs2⟩:=hs;have e:rR H.length o off H.length=(o,off):=if_pos rfl;have e2:Yn H.length (c'*sz) H.length=some (c'*sz):=if_pos rfl;refine⟨?_,?_⟩
    ·simp only[VR]
     refine⟨by simp[Cfg.ren],_,c',rfl,by omega,?_⟩;simp only[SlAt];refine⟨hcn,.inr ⟨by simp[Cfg.ren,e],?_⟩⟩;simp[Cfg.ren,e2]
    ·intro p ℓ h
     unfold Yn at h;split at h
     ·rename_i hp
      injection h with h;subst hp;subst h;rw[e];omega
     ·cases h
 ·have:i=n:=by omega
  subst this
  have hx:Bf H sz (.sl oj 0 1 sz (.ex 1))=some (xs,1):=AI (by
   rw[show sz=1*sz by omega]at hxl;rw[A9 hv (by omega),Ad9,Ac1 (by omega)])
  obtain⟨r,H',h1,h2⟩:=oV (P:=P) (zc:=zc) (ov:=ov) (rot:=rot) hs ho hcap rfl hx hbb;refine⟨r,H',?_,(hF _ _ _ _ _ h2)⟩;rw[Ac1 (by omega),Ad2 (by omega),Af1];exact h1
end
end
section
mutual
theorem aG {m:Nat}:∀{a:AV},noIds a=true→EI m a
 | .lit _,_=>by simp only[EI]
 | .ptr ..,h=>by simp[noIds]at h
 | .ip cs,h=>by simp only[noIds]at h;simp only[EI];exact Ei h
 | .sl ..,h=>by simp[noIds]at h
 | .imm cs _ _,h=>by simp only[noIds]at h;simp only[EI];exact Ei h
 | .mp _,h=>by simp[noIds]at h
 | .agg cs,h=>by simp only[noIds]at h;simp only[EI];exact Ei h
 | .tup cs,h=>by simp only[noIds]at h;simp only[EI];exact Ei h
 | .fn _ a b,h=>by simp only[noIds,Ae0]at h;simp only[EI];exact⟨Ei h.1,Ei h.2⟩
 | .emp,_=>by simp only[EI]
 | .junk,_=>by simp only[EI]
theorem Ei {m:Nat}:∀{xs:List AV},A6 xs=true→CB m xs
 | [],_=>by simp only[CB]
 | a::r,h=>by simp only[A6,Ae0]at h;simp only[CB];exact⟨aG h.1,Ei h.2⟩
end
section
variable {P : Program}
def wE (sz bytes:Nat)(zc:List AV)(a0 a1 a2:AV)(H:AH)(K:AV→AH→Prop):Prop:=
 bO (Ba a0) λv0=>
 bO (AX sz a0 (some a1) (some a2) (some v0)) λv1=>
 bO (Ap .eql a1 a2) λv2=>
 bB v2 λt3=>bI t3 (
 K a0 H)
 (bO (Ba a0) λv4=>
 bO (AX sz a0 none (some a1) none) λv5=>
 bO (AX sz a0 (some a2) none none) λv6=>
 bH (Mm sz bytes H v5 v6) λv7 H8=>
 bO (Ba v7) λv9=>
 bO (AX sz v7 (some v9) (some v4) none) λv10=>
 bS (nC zc H8 v10) λH11=>
 K v7 H11)
def qW (sz:Nat)(H:AH)(s:AV)(N:List AV)(n:Nat)(r:AV)(H':AH):Prop:=
 AP r=true∧Aa H' sz r=some (N,n)∧H'.length=H.length∧(∀i,i∉AU s→H'[i]?=H[i]?)∧AU r=AU s∧Cm r n
abbrev yV:=And.intro @Ab @Af
theorem kE {sz bytes:Nat}{zc:List AV}(h0:0<sz)(hz:zc.length=sz){H:AH}{s:AV}{cs:List AV}{n i:Nat}(hs:Aa H sz s=some (cs,n+1))(ho:AP s=true)(hcap:Cm s (n+1))(hi:i≤n)(hn:n≤1000000)(hby:bytes≤1000000):
  ∃r H',qW sz H s (cs.take (i*sz)++cs.drop ((i+1)*sz)) n r H'∧wE sz bytes zc s (I i) (I ((i:Int)+1)) H λr' H''=>r'=r∧H''=H':=by
 obtain⟨o,off,cap,cells,rfl,hc,hl,rfl⟩:=HL hs ho (by omega);have hol:=(BD.1 hc).1;have hms:(i+1)*sz=i*sz+sz:=Af6 _ _;have hns:(n+1)*sz=n*sz+sz:=Af6 _ _;have hmi:i*sz≤n*sz:=Ad0 _ (by omega);have hmn:(i+1)*sz+(n - i)*sz=(n+1)*sz:=by rw[← Ag9];congr 1;omega
 obtain⟨cap',hcap1,hcap2⟩:∃cap',Room.cut (n+1) 0 cap=cap'∧n+1≤cap'.least:=by
  refine⟨_,rfl,?_⟩;cases cap<;>simp_all[Room.cut,Room.least,Cm]<;>omega
 have hap:∃H8,Mm sz bytes H (.sl o off i sz cap') (.sl o (off+(i+1)*sz) (n - i) sz (cap.cut (n+1) (i+1)))=some (.sl o off n sz cap',H8)∧H8.length=H.length∧(∀j,j≠o→H8[j]?=H[j]?)∧H8[o]?=some (some (.cells (B2 cells (off+i*sz) ((cells.drop (off+(i+1)*sz)).take ((n - i)*sz))))):=by
  have e:Bf H sz (.sl o (off+(i+1)*sz) (n - i) sz (cap.cut (n+1) (i+1)))=some ((cells.drop (off+(i+1)*sz)).take ((n - i)*sz),n - i):=AI (by rw[A9 hc (by omega)]);unfold Mm;rw[e];simp only[LI,hc];rw[if_neg (by simp;omega)];have hin:i+(n - i)=n:=by omega
  cases cap' with
  | ex k=>
   simp only[Room.least]at hcap2;simp only[hin,show n≤k by omega,if_true];exact⟨_,rfl,by simp,λj hj=>by rw[C4 (Af4 hj)],by simp[hol]⟩
  | ge k=>
   simp only[Room.least]at hcap2
   by_cases h:n - i=0
   ·have:i=n:=by omega
    subst this;simp only[h,if_true];refine⟨_,rfl,rfl,λ_ _=>rfl,?_⟩;rw[hc];simp[B2]
   ·simp only[h,if_false,hin,show n≤k by omega,if_true]
    exact⟨_,rfl,by simp,λj hj=>by rw[C4 (Af4 hj)],by simp[hol]⟩
 obtain⟨H8,hA,hL,hO,hC⟩:=hap;have hDl:((cells.drop (off+(i+1)*sz)).take ((n - i)*sz)).length=(n - i)*sz:=by rw[Ac0,Ac7];omega
 have hcl:(B2 cells (off+i*sz) ((cells.drop (off+(i+1)*sz)).take ((n - i)*sz))).length=cells.length:=G8 (by rw[hDl];omega);have hol8:o<H8.length:=by omega
 refine⟨.sl o off n sz cap',H8.set o (some (.cells (B2 (B2 cells (off+i*sz) ((cells.drop (off+(i+1)*sz)).take ((n - i)*sz))) (off+n*sz) (Be zc 1)))),⟨rfl,?_,?_,λj hj=>?_,rfl,by simp only[Cm];omega⟩,?_⟩
 rotate_left 3
 ·unfold wE
  have q1:((i:Int)+1)=((i+1:Nat):Int):=by omega
  have w1:Ba (.sl o off (n+1) sz cap)=some (I ((n+1:Nat):Int)):=rfl;have hcl':n+1≤cap.least:=hcap
  have w2:∃v,AX sz (.sl o off (n+1) sz cap) (some (I i)) (some (I ((i+1:Nat):Int))) (some (I ((n+1:Nat):Int)))=some v:=by
   refine⟨.sl o (off+i*sz) (i+1 - i) sz (.ex (n+1 - i)),?_⟩;simp[AX,Bs,goInt,show(0:Int)≤(i:Int)+1 by omega,show(0:Int)≤(n:Int)+1 by omega];omega
  obtain⟨v,w2⟩:=w2
  have w3:AX sz (.sl o off (n+1) sz cap) none (some (I i)) none=some (.sl o off i sz cap'):=by
   rw[← hcap1];simp[AX,Bs,goInt];omega
  have w4:AX sz (.sl o off (n+1) sz cap) (some (I ((i+1:Nat):Int))) none none=some (.sl o (off+(i+1)*sz) (n - i) sz (cap.cut (n+1) (i+1))):=by
   have:((i:Int)+1)=((i+1:Nat):Int):=by omega
   simp[AX,Bs,goInt,this,-Int.natCast_add];omega
  have w5:AX sz (.sl o off n sz cap') (some (I n)) (some (I ((n+1:Nat):Int))) none=some (.sl o (off+n*sz) 1 sz (cap'.cut n n)):=by
   simp[AX,Bs,goInt,show(0:Int)≤(n:Int)+1 by omega];omega
  have w6:Ap .eql (I i) (I ((i+1:Nat):Int))=some (B false):=by simp;omega
  rw[q1,w1];simp only[yV,w2,w6,Ag,w3,w4,hA,Az,Ba,w5];have zl:(Be zc 1).length=sz:=by rw[Di,hz];omega
  have w7:nC zc H8 (.sl o (off+n*sz) 1 sz (cap'.cut n n))=some (H8.set o (some (.cells (B2 (B2 cells (off+i*sz) ((cells.drop (off+(i+1)*sz)).take ((n - i)*sz))) (off+n*sz) (Be zc 1))))):=by
   unfold nC;simp only[hC];rw[if_pos ⟨hz,by omega,by omega⟩,if_neg (by omega),Ea _ _ _ (by omega)];rfl
  rw[w7];simp only[AE];exact⟨trivial,trivial⟩
 ·rw[A9 (c:=B2 (B2 cells (off+i*sz) ((cells.drop (off+(i+1)*sz)).take ((n - i)*sz))) (off+n*sz) (Be zc 1)) (by simp[hol8]) (by rw[G8 (by rw[Di,hz];omega)];omega)]
  congr 2
  have e1:((cells.drop off).take ((n+1)*sz)).take (i*sz)=(cells.drop off).take (i*sz):=by rw[Ah0];congr 1;omega
  have e2:((cells.drop off).take ((n+1)*sz)).drop ((i+1)*sz)=(cells.drop (off+(i+1)*sz)).take ((n - i)*sz):=by rw[Ak0,Ag3];congr 1;omega
  rw[e1,e2];have e3:(n:Nat)*sz=i*sz+(n - i)*sz:=by rw[← Ag9];congr 1;omega
  generalize (cells.drop (off+(i+1)*sz)).take ((n - i)*sz)=D at*
  have h1:((B2 (B2 cells (off+i*sz) D) (off+n*sz) (Be zc 1)).drop off).take (n*sz)=((B2 cells (off+i*sz) D).drop off).take (n*sz):=by
   refine Ae5 λk=>?_
   rw[Ac9,Ac9]
   by_cases c:k<n*sz
   ·rw[if_pos c,if_pos c,Ad1,Ad1,HK (by rw[Di,hz];omega),if_neg (by omega)]
   ·rw[if_neg c,if_neg c]
  rw[h1,e3]
  have:=(W6 cells off (i*sz) D (by omega)).1
  rw[hDl]at this;exact this
 ·simp[hL]
 ·rw[C4 (by simp[AU]at hj;omega)];exact hO j (by simpa[AU]using hj)
end
end
section
theorem compareString_calls (a b:ByteArray)(H:AH):ACalls prog 168 [.lit (.string a),.lit (.string b)] H λr H'=>r=.lit (.int .i64 (Lib.compareBytes a.data.toList b.data.toList))∧H'=H:=by
 refine ACalls.of_body func168 rfl ?_;refine ACode.seq (ACode.region (AOps.op rfl rfl (AOps.nil ?_)));refine ACode.seq (ACode.region (AOps.op rfl rfl (AOps.op rfl rfl (AOps.extern rfl rfl (r:=.lit (.int .i64 (Lib.compareBytes a.data.toList b.data.toList))) ?_ (AOps.op rfl rfl (AOps.nil ?_))))))
 ·intro G vs hH hv
  have hv':VRs G [.lit (.string a),.lit (.string b)] vs:=hv;simp only[VRs,VR]at hv';obtain⟨_,_,rfl,rfl,_,_,rfl,rfl,rfl⟩:=hv';refine⟨.int .i64 (Lib.compareBytes a.data.toList b.data.toList),?_,by simp only[VR]⟩
  rw[run_callFunc_extern func200 (by kernel_rfl) (by kernel_rfl) (by kernel_rfl) (e:=Extern.BytealgCompare.compare) (by kernel_rfl),
   Lib.run_compareString (P:=prog) a b G.w]
  rfl
 ·exact ACode.ret ⟨.inr rfl,_,rfl,rfl,rfl⟩
structure Nm where
 name:List UInt8
 ino:Int
 deriving DecidableEq
def Cy (x:Nm):List AV:=[S (A0 x.name),I x.ino]
theorem Eu (x:Nm):(Cy x).length=2:=rfl
theorem Nu (x:Nm):A6 (Cy x)=true:=rfl
structure Nd where
 ino:Int
 size:Int
 l:List Ext
 deriving DecidableEq
structure NdV where
 nd:Nd
 R:AV
 h:SV Ax 9 nd.l R
abbrev NdV.ino (x:NdV):Int:=x.nd.ino
def BY (x:NdV):List AV:=[I x.nd.ino,I x.nd.size,x.R]
theorem D3 (x:NdV):(BY x).length=3:=rfl
theorem Kc (x:NdV):A6 (BY x)=true:=by simp[BY,A6,noIds,x.h.1]
theorem U1 (x:Nm)(t:List AV):(Cy x++t)[0]?=some (S (A0 x.name)):=rfl
theorem sN (x:Nm)(t:List AV):(Cy x++t)[1]?=some (I x.ino):=rfl
theorem sM (x:NdV)(t:List AV):Ao true 2 (BY x++t) 1=some (.agg [I x.nd.size,x.R]):=by simp[Ao,BY]
theorem koI:KO Cc where
 eq a b:=by unfold Cc;split<;>(try split)<;>omega
 anti a b:=by unfold Cc;split<;>(try split)<;>(try split)<;>omega
 trans a b d:=by unfold Cc;intro h1 h2;split at h1<;>split at h2<;>(try split at h1)<;>(try split at h2)<;>split<;>omega
theorem Xh {a b:Int}:Cc a b<0↔a<b:=by unfold Cc;split<;>(try split)<;>omega
theorem SV.oneA {α:Type}{enc:α→List AV}{sz:Nat}{l:List α}{v:AV}(h:SV enc sz l v):oneA v=true:=by
 have h2:=h.2 [];unfold Aa at h2;split at h2
 all_goals first | rfl | cases h2
def aD (y:UInt8):Prop:=(97≤(y.toNat:Int)∧(y.toNat:Int)≤122)∨(48≤(y.toNat:Int)∧(y.toNat:Int)≤57)∨(y.toNat:Int)=46∨(y.toNat:Int)=95∨(y.toNat:Int)=45
instance (y:UInt8):Decidable (aD y):=by unfold aD;infer_instance
def G5 (s:List UInt8):Prop:=s≠[]∧s.length≤20∧s[0]?≠some 45∧∀b∈s,aD b
instance (s:List UInt8):Decidable (G5 s):=by unfold G5;infer_instance
theorem wS (y:UInt8):BPure prog 166 [.lit (.int .u8 y.toNat)] (B (decide (aD y))):=BPure.flat λH=>Xt (by
 unfold Ws;unfold aD
 by_cases c1:(97:Int)≤y.toNat
 ·by_cases c2:(y.toNat:Int)≤122
  ·simp[c1,c2]
  ·have e1:¬(y.toNat:Int)≤57:=by omega
   have e2:¬(y.toNat:Int)=46:=by omega
   have e3:¬(y.toNat:Int)=95:=by omega
   have e4:¬(y.toNat:Int)=45:=by omega
   simp[c1,c2,e1,e2,e3,e4,show(48:Int)≤y.toNat by omega]
 ·by_cases c2:(48:Int)≤y.toNat
  ·by_cases c3:(y.toNat:Int)≤57
   ·simp[c1,c2,c3]
   ·by_cases c4:(y.toNat:Int)=95
    ·simp[c1,c2,c3,c4]
    ·have e2:¬(y.toNat:Int)=46:=by omega
     have e4:¬(y.toNat:Int)=45:=by omega
     simp[c1,c2,c3,c4,e2,e4]
  ·by_cases c4:(y.toNat:Int)=46
   ·simp[c1,c2,c4]
   ·by_cases c5:(y.toNat:Int)=95
    ·simp[c1,c2,c4,c5]
    ·by_cases c6:(y.toNat:Int)=45
     ·simp[c1,c2,c4,c5,c6]
     ·simp[c1,c2,c4,c5,c6])
theorem u8c {y:UInt8}{k:UInt8}{n:Int}(h:(k.toNat:Int)=n):((y.toNat:Int)=n)=(y=k):=by
 refine propext ⟨λe=>UInt8.toNat_inj.1 (by omega),λe=>by rw[e];exact h⟩
theorem NB {s:List UInt8}(hs:s.length≤9223372036854775807):BPure prog 102 [S (A0 s)] (B (decide (G5 s))):=BPure.flat λH=>Sd (by
 unfold OQ;rw[Yt,Gs,II hs]
 have hl:∀t:List UInt8,t=s→0<t.length→t.length≤20→t[0]?≠some 45→Hf (S (A0 t)) (I t.length) (I 0) H λr H'=>r=B (decide (G5 t))∧H'=H:=by
  intro t _ h0 h20 h45;refine Mr (λn x0 x17 x18 H'=>∃k:Nat,k+n=t.length∧x0=S (A0 t)∧x17=I t.length∧x18=I k∧H'=H∧∀m y,m<k→t[m]?=some y→aD y) ?_ t.length ⟨0,by omega,rfl,rfl,rfl,rfl,by omega⟩;rintro n x0 x17 x18 H' R hR ⟨k,hk,rfl,rfl,rfl,rfl,hb⟩;unfold Jp;rcases Ac5 k t.length with h | h
  ·have hx:=DR h
   generalize t[k]=y at hx;simp[h,Ru rfl hx];refine A4 (wS y) ?_
   by_cases hy:aD y
   ·simp[hy,Aw (a:=k) (b:=1) (by omega) (by omega)]
    refine hR (n - 1) _ _ _ _ (by omega) ⟨k+1,by omega,rfl,rfl,by simp,rfl,?_⟩;intro m z hm hz
    by_cases c:m=k
    ·rw[c,hx]at hz;injection hz with hz;rw[← hz];exact hy
    ·exact hb m z (by omega) hz
   ·have:¬G5 t:=λhm=>hy (hm.2.2.2 y (Ac3 hx))
    simp[hy,this]
  ·have:G5 t:=⟨λe=>by rw[e]at h0;simp at h0,h20,h45,λb hb'=>by
    obtain⟨m,hm⟩:=Ad6.1 hb'
    have:=(BD.1 hm).1
    exact hb m b (by omega) hm⟩
   simp[show ¬k<t.length by omega,this]
 by_cases h0:s=[]
 ·subst h0
  simp[G5]
 ·have hlen:0<s.length:=List.length_pos_iff.2 h0
  by_cases h1:s.length≤20
  ·have hx:=DR hlen
   have e20:¬(20:Int)<s.length:=by omega
   generalize s[0]=y at hx;simp[h0,NJ,e20,Ru (k:=0) (i:=0) rfl hx];have e45:((y.toNat:Int)=45)=(y=45):=u8c rfl
   by_cases h2:(y.toNat:Int)=45
   ·have:¬G5 s:=λhm=>hm.2.2.1 (by rw[hx,e45.mp h2])
    simp[h2,this]
   ·simp[h2]
    exact hl s rfl hlen h1 (by rw[hx];intro e;injection e with e;exact h2 (e45.mpr e))
  ·have e20:(20:Int)<s.length:=by omega
   have:¬G5 s:=λhm=>h1 hm.2.1
   simp[h0,NJ,e20,this])
theorem dW (a b:List UInt8):BPure prog 109 [S (A0 a),S (A0 b)] (I (Bg a b)):=BPure.flat λH=>PA (by
 unfold Ml;exact A4 (λH=>by have:=compareString_calls (A0 a) (A0 b) H;exact this) ⟨rfl,rfl⟩)
theorem YX (x:Nm)(s:List UInt8):BPure prog 108 [.agg (Cy x),S (A0 s)] (I (Bg x.name s)):=BPure.val (by simp[A6,noIds,Nu]) rfl (Se (by
 unfold OU;unfold Cy;simp;refine A4 (dW x.name s) ?_
 rfl))
theorem cU (x:NdV)(no:Int):BPure prog 93 [.agg (BY x),I no] (I (Cc x.nd.ino no)):=BPure.val (by simp[A6,noIds,Kc]) rfl (TD (by
 unfold Q7;unfold BY;have h1:=SV.oneA x.h;simp[h1];refine A4 (O6 x.nd.ino no) ?_
 rfl))
theorem mA (x:Nm)(t:List AV):Ao true 2 (Cy x++t) 0=some (.agg (Cy x)):=by
 simp[Ao,Cy]
theorem dJ (x:NdV)(t:List AV):Ao true 3 (BY x++t) 0=some (.agg (BY x)):=by
 simp[Ao,BY]
theorem qL:B4 prog 108=true:=by kernel_rfl
theorem uG {l:List Nm}{v:AV}(hv:SV Cy 2 l v)(hs:Cb Bg Nm.name l)(hl:l.length≤281474976710656)(no:List UInt8):
  BPure prog 107 [v,S (A0 no),.fn (.func 108) [] []] (.tup [I (CZ Bg Nm.name l no),B (decide (AO Nm.name l no))]):=BPure.val (by simp[A6,noIds,hv.1]) rfl (Dc (by
 unfold BR;simp[hv.len];refine C8 (λn x0 x1 x2 x8 x9 x10 H'=>∃i j:Nat,i+n=j∧j≤l.length∧x0=v∧x1=S (A0 no)∧x2=.fn (.func 108) [] []∧x8=I l.length∧x9=I i∧x10=I j∧H'=[]∧(∀m x,m<i→l[m]?=some x→Bg (Nm.name x) no<0)∧(∀m x,j≤m→l[m]?=some x→¬Bg (Nm.name x) no<0)) ?_ l.length ⟨0,l.length,by simp,by omega,rfl,rfl,rfl,rfl,rfl,rfl,rfl,by simp,λm x hm hx=>by have:=(BD.1 hx).1;omega⟩;rintro n x0 x1 x2 x8 x9 x10 H' R hR ⟨i,j,hij,hj,rfl,rfl,rfl,rfl,rfl,rfl,rfl,h1,h2⟩;unfold B5;rcases Ac5 i j with hlt | hge
 ·have hx:=DR (l:=l) (i:=(i+j)/2) (by omega)
  generalize l[(i + j) / 2]'(by omega)=y at hx;simp [hlt,Aw (a:=i) (b:=j) (by omega) (by omega),WS (n:=(i : Int) + j) (by omega) (by omega),Ua,Lt (a:=((i : Int) + j) / 2) (by omega) (by omega),hv.idx Eu hx (i:=((i : Int) + j) / 2) (by omega),qL,mA];refine bC_of (YX y no []) ?_
  by_cases c1:Bg (Nm.name y) no<0
  ·simp[c1,Aw (a:=((i:Int)+j)/2) (b:=1) (by omega) (by omega)]
   refine hR (j - ((i+j)/2+1)) _ _ _ _ _ _ _ (by omega) ⟨(i+j)/2+1,j,by omega,hj,rfl,rfl,rfl,rfl,by simp,rfl,rfl,?_,h2⟩;intro m x hm hmx
   by_cases hm2:m=(i+j)/2
   ·rw[hm2,hx]at hmx;injection hmx with e;rw[← e];exact c1
   ·exact koN.trans _ _ _ (J2 hs hmx hx (by omega)) c1
  ·simp[c1]
   refine hR ((i+j)/2 - i) _ _ _ _ _ _ _ (by omega) ⟨i,(i+j)/2,by omega,by omega,rfl,rfl,rfl,rfl,rfl,by simp,rfl,h1,?_⟩;intro m x hm hmx
   by_cases hm2:m=(i+j)/2
   ·rw[hm2,hx]at hmx;injection hmx with e;rw[← e];exact c1
   ·intro c2
    exact c1 (koN.trans _ _ _ (J2 hs hx hmx (by omega)) c2)
 ·have hi:i=j:=by omega
  subst hi;have hp:CZ Bg Nm.name l no=i:=TT (by omega) h1 (λx hx=>h2 i x (by omega) hx);rcases Ac5 i l.length with hil | hil
  ·have hx:=DR (l:=l) (i:=i) hil
   generalize l[i]=y at hx
   have hh:AO Nm.name l no↔Bg (Nm.name y) no=0:=by
    rw[Jo koN hs,hp,koN.eq]
    constructor
    ·rintro⟨z,hz,e⟩
     rw[hx]at hz;injection hz with hz;rw[hz,e]
    ·intro e
     exact⟨y,hx,e⟩
   simp[hil,hv.idx Eu hx rfl,qL,mA];refine bC_of (YX y no []) ?_;simp[hp,hh]
  ·have hn:¬AO Nm.name l no:=by
    rw[Jo koN hs,hp];rintro⟨z,hz,e⟩
    have:=(BD.1 hz).1
    omega
   simp[show ¬i<l.length by omega,hp,hn]))
theorem qK:B4 prog 93=true:=by kernel_rfl
theorem uF {l:List NdV}{v:AV}(hv:SV BY 3 l v)(hs:Cb Cc NdV.ino l)(hl:l.length≤281474976710656)(no:Int):
  BPure prog 92 [v,I no,.fn (.func 93) [] []] (.tup [I (CZ Cc NdV.ino l no),B (decide (AO NdV.ino l no))]):=BPure.val (by simp[A6,noIds,hv.1]) rfl (Du (by
 unfold Ch;simp[hv.len];refine CP (λn x0 x1 x2 x8 x9 x10 H'=>∃i j:Nat,i+n=j∧j≤l.length∧x0=v∧x1=I no∧x2=.fn (.func 93) [] []∧x8=I l.length∧x9=I i∧x10=I j∧H'=[]∧(∀m x,m<i→l[m]?=some x→Cc (NdV.ino x) no<0)∧(∀m x,j≤m→l[m]?=some x→¬Cc (NdV.ino x) no<0)) ?_ l.length ⟨0,l.length,by simp,by omega,rfl,rfl,rfl,rfl,rfl,rfl,rfl,by simp,λm x hm hx=>by have:=(BD.1 hx).1;omega⟩;rintro n x0 x1 x2 x8 x9 x10 H' R hR ⟨i,j,hij,hj,rfl,rfl,rfl,rfl,rfl,rfl,rfl,h1,h2⟩;unfold BK;rcases Ac5 i j with hlt | hge
 ·have hx:=DR (l:=l) (i:=(i+j)/2) (by omega)
  generalize l[(i + j) / 2]'(by omega)=y at hx;simp [hlt,Aw (a:=i) (b:=j) (by omega) (by omega),WS (n:=(i : Int) + j) (by omega) (by omega),Ua,Lt (a:=((i : Int) + j) / 2) (by omega) (by omega),hv.idx D3 hx (i:=((i : Int) + j) / 2) (by omega),qK,dJ];refine bC_of (cU y no []) ?_
  by_cases c1:Cc (NdV.ino y) no<0
  ·simp[c1,Aw (a:=((i:Int)+j)/2) (b:=1) (by omega) (by omega)]
   refine hR (j - ((i+j)/2+1)) _ _ _ _ _ _ _ (by omega) ⟨(i+j)/2+1,j,by omega,hj,rfl,rfl,rfl,rfl,by simp,rfl,rfl,?_,h2⟩;intro m x hm hmx
   by_cases hm2:m=(i+j)/2
   ·rw[hm2,hx]at hmx;injection hmx with e;rw[← e];exact c1
   ·exact koI.trans _ _ _ (J2 hs hmx hx (by omega)) c1
  ·simp[c1]
   refine hR ((i+j)/2 - i) _ _ _ _ _ _ _ (by omega) ⟨i,(i+j)/2,by omega,by omega,rfl,rfl,rfl,rfl,rfl,by simp,rfl,h1,?_⟩;intro m x hm hmx
   by_cases hm2:m=(i+j)/2
   ·rw[hm2,hx]at hmx;injection hmx with e;rw[← e];exact c1
   ·intro c2
    exact c1 (koI.trans _ _ _ (J2 hs hx hmx (by omega)) c2)
 ·have hi:i=j:=by omega
  subst hi;have hp:CZ Cc NdV.ino l no=i:=TT (by omega) h1 (λx hx=>h2 i x (by omega) hx);rcases Ac5 i l.length with hil | hil
  ·have hx:=DR (l:=l) (i:=i) hil
   generalize l[i]=y at hx
   have hh:AO NdV.ino l no↔Cc (NdV.ino y) no=0:=by
    rw[Jo koI hs,hp,koI.eq]
    constructor
    ·rintro⟨z,hz,e⟩
     rw[hx]at hz;injection hz with hz;rw[hz,e]
    ·intro e
     exact⟨y,hx,e⟩
   simp[hil,hv.idx D3 hx rfl,qK,dJ];refine bC_of (cU y no []) ?_;simp[hp,hh]
  ·have hn:¬AO NdV.ino l no:=by
    rw[Jo koI hs,hp];rintro⟨z,hz,e⟩
    have:=(BD.1 hz).1
    omega
   simp[show ¬i<l.length by omega,hp,hn]))
def RO (ps:List (Int×AV)):List (Value×AV):=ps.map λp=>(.int .i64 p.1,p.2)
def YO (z:AV)(ps:List (Int×AV))(k:Int):AV:=match ps.find? (λp=>p.1==k)with
 | some p=>p.2
 | none=>z
theorem mO (a b:Int):Instr.sameNow (.int .i64) (.int .i64 a) (.int .i64 b)=some (a==b):=rfl
theorem RS (k:Int):∀(ps:List (Int×AV)) (i:Nat),KK (.int .i64) (.int .i64 k) (RO ps) i=some ((ps.findIdx? (λp=>p.1==k)).bind λj=>(ps[j]?).map λp=>(i+j,p.2))
 | [],i=>rfl
 | p::ps,i=>by
  show(match Instr.sameNow (.int .i64) (.int .i64 k) (.int .i64 p.1)with
   | some true=>some (some (i,p.2))
   | some false=>KK (.int .i64) (.int .i64 k) (RO ps) (i+1)
   | none=>none)=_
  rw[mO,List.findIdx?_cons]
  by_cases h:p.1=k
  ·have h':(k==p.1)=true:=by simp[h]
   have h2:(p.1==k)=true:=by simp[h]
   simp[h',h2]
  ·have h':(k==p.1)=false:=by simp;omega
   have h2:(p.1==k)=false:=by simp[h]
   simp only[h',h2];rw[RS k ps (i+1)];cases ps.findIdx? (λp=>p.1==k)with
   | none=>rfl
   | some j=>
    simp;cases ps[j]? with
    | none=>rfl
    | some q=>simp;omega
abbrev Am8:=@List.find?_eq_none
abbrev Aj3:=@List.findIdx?_eq_none_iff
theorem fW {z:AV}{ps:List (Int×AV)}{k:Int}(h:ps.findIdx? (λp=>p.1==k)=none):YO z ps k=z:=by
 have:ps.find? (λp=>p.1==k)=none:=by
  rw[Am8];intro x hx;rw[Aj3]at h
  simpa using h x hx
 unfold YO;rw[this]
abbrev Ak8:=@List.findIdx?_eq_some_iff_getElem
theorem Wx {z:AV}{ps:List (Int×AV)}{k:Int}{j:Nat}(h:ps.findIdx? (λp=>p.1==k)=some j):∃p,ps[j]?=some p∧p.1=k∧YO z ps k=p.2:=by
 obtain⟨h1,h2,h3⟩:=Ak8.1 h;refine⟨ps[j],DR h1,by simpa using h2,?_⟩
 have:ps.find? (λp=>p.1==k)=some ps[j]:=by
  rw[List.find?_eq_some_iff_getElem];exact⟨h2,j,h1,rfl,λi hi=>by simpa using h3 i hi⟩
 unfold YO;rw[this]
theorem bU {H:AH}{o:Nat}{zv:Value}{ps:List (Int×AV)}{k:Int}(h:H[o]?=some (some (.map (RO ps)))):nD (.int .i64) zv H (.mp o) (.lit (.int .i64 k)) false=some (YO (.ofV zv) ps k):=by
 have hk:VS (.int .i64) (.int .i64 k)=true:=rfl;unfold nD Qk;simp only[h,hk,if_true,RS];cases hf:ps.findIdx? (λp=>p.1==k)with
 | none=>rw[fW hf];rfl
 | some j=>
  obtain⟨p,h1,h2,h3⟩:=Wx (z:=.ofV zv) hf;simp[h1,h3]
def pH (ps:List (Int×AV))(k:Int)(v:AV):List (Int×AV):=match ps.findIdx? (λp=>p.1==k)with
 | some j=>ps.set j (k,v)
 | none=>ps++[(k,v)]
theorem nY {H:AH}{o:Nat}{ps:List (Int×AV)}{k:Int}{v:AV}(h:H[o]?=some (some (.map (RO ps)))):uK (.int .i64) H (.mp o) (.lit (.int .i64 k)) v=some (H.set o (some (.map (RO (pH ps k v))))):=by
 have hk:VS (.int .i64) (.int .i64 k)=true:=rfl;unfold uK pH;simp only[h,hk,if_true,RS];cases hf:ps.findIdx? (λp=>p.1==k)with
 | none=>simp[RO]
 | some j=>
  obtain⟨p,h1,h2,h3⟩:=Wx (z:=.junk) hf;simp[h1,RO,Al9]
def E4 (l:List Ext)(p:Int):UInt8:=match l.find? λx=>decide (x.no=p/8)with
 | some x=>x.b.getD (p % 8).toNat 0
 | none=>0
theorem CE {l:List Ext}{p:Int}(h:¬Bb l (p/8)):E4 l p=0:=by
 have:l.find? (λx=>decide (x.no=p/8))=none:=by
  rw[Am8];intro x hx he;exact h ⟨x,hx,by simpa using he⟩
 unfold E4;rw[this]
theorem PZ {l:List Ext}(hs:srt l){p:Int}{k:Nat}{x:Ext}(hx:l[k]?=some x)(he:x.no=p/8):E4 l p=x.b.getD (p % 8).toNat 0:=by
 have:l.find? (λx=>decide (x.no=p/8))=some x:=by
  rw[List.find?_eq_some_iff_getElem];obtain⟨h1,h2⟩:=BD.1 hx;refine⟨by simp[he],k,h1,h2,?_⟩;intro j hj
  have:=Kd hs (DR (Nat.lt_trans hj h1)) hx hj
  simp;omega
 unfold E4;rw[this]
def uO (size:Int)(l:List Ext)(pos n:Int):Prop:=Cs size l∧0≤pos∧0≤n∧n≤4096∧pos<size
instance (size:Int) (l:List Ext) (pos n:Int):Decidable (uO size l pos n):=by unfold uO;infer_instance
def BX (l:List Ext)(pos:Int)(k:Nat):List UInt8:=(List.range k).map fun (i:Nat)=>E4 l (pos+(i:Int))
theorem EN (l:List Ext)(pos:Int)(k:Nat):(BX l pos k).length=k:=by simp[BX]
theorem Yu (l:List Ext)(pos:Int)(k:Nat):BX l pos (k+1)=BX l pos k++[E4 l (pos+k)]:=by simp[BX,An8]
def HM (size:Int)(l:List Ext)(pos n:Int):List UInt8:=if uO size l pos n then BX l pos (min n (size - pos)).toNat else []
theorem mB {size:Int}{l:List Ext}{v:AV}(hv:SV Ax 9 l v)(hs:srt l)(hl:l.length≤281474976710656)(pos:Int)(h0:0≤pos)(h1:pos≤9223372036854775807):
  BPure prog 146 [.agg [I size,v],I pos] (.lit (.int .u8 (E4 l pos).toNat)):=BPure.val (by simp[A6,noIds,hv.1]) rfl (Rh (by
 unfold N2;simp[EC hv,Ao,I4 (a:=pos) (b:=8) (by omega) (by omega)];refine A4 (aS hv hs hl (pos/8)) ?_
 by_cases c:Bb l (pos/8)
 ·obtain⟨x,hx,he⟩:=(Qv hs).1 c
  have hb:=x.hb;have hr:(pos % 8)=((pos % 8).toNat:Int):=by omega
  have hy:=DR (l:=x.b) (i:=(pos % 8).toNat) (by omega);generalize hu : x.b[(pos % 8).toNat]'(by omega)=u at hy;obtain ⟨q,e1,e2⟩:=jA (t:=(l.drop (posL l (pos / 8) + 1)).flatMap Ax) (H:=[some (.cells [I size,v])]) hy (by omega);have e0 : (Ax x ++ (l.drop (posL l (pos / 8) + 1)).flatMap Ax).drop 1=AB x.b ++ (l.drop (posL l (pos / 8) + 1)).flatMap Ax:=rfl;rw [← hr] at e1;have hn : ¬ ((posL l (pos / 8) : Nat) : Int) < 0:=by omega
  simp[c,hn,hv.idx A1 hx rfl,I5 (a:=pos) (b:=8) (by omega) (by omega),e0,e1,e2,PZ hs hx he,Ac8,hy]
 ·simp[c,CE c]))
theorem dK {size:Int}{l:List Ext}{v:AV}(hv:SV Ax 9 l v)(hl:l.length≤281474976710656)(pos n:Int):
  ∃r,SV Je 1 (HM size l pos n) r∧BPure prog 73 [.agg [I size,v],I pos,I n] r:=by
 unfold SV;simp only[IN]
 have:∃r,(noIds r=true∧∀H,Aa H 1 r=some (AB (HM size l pos n),(HM size l pos n).length))∧BPure prog 73 [.agg [I size,v],I pos,I n] r:=by
  refine BPure.sl (sz:=1) (by simp[A6,noIds,hv.1]) (HJ _) (Jy ?_);unfold Gc;simp[EC hv,Ao];refine A4 (St hv hl) ?_
  have nix:∀H,¬uO size l pos n→Aa H 1 Ad=some (AB (HM size l pos n),(HM size l pos n).length):=by
   intro H h;have:HM size l pos n=[]:=if_neg h;rw[this];rfl
  by_cases h1:Cs size l
  ·by_cases h2:pos<0
   ·simp[h1,h2,nix _ (λh=>by have:=h.2.1;omega)]
   ·by_cases h3:n<0
    ·simp[h1,h2,h3,nix _ (λh=>by have:=h.2.2.1;omega)]
    ·by_cases h4:4096<n
     ·simp[h1,h2,h3,h4,nix _ (λh=>by have:=h.2.2.2.1;omega)]
     ·simp[h1,h2,h3,h4]
      have hs:=LD h1.2.2;have hsz:=h1.2.1;have hsz0:=h1.1
      have hm:∃m:Nat,(m=min n (size - pos)∨(size≤pos∧m=0))∧HM size l pos n=BX l pos m:=by
       by_cases h5:pos<size
       ·exact⟨(min n (size - pos)).toNat,.inl (by omega),if_pos ⟨h1,by omega,by omega,by omega,h5⟩⟩
       ·refine⟨0,.inr ⟨by omega,rfl⟩,(if_neg (λh=>h5 h.2.2.2.2)).trans rfl⟩
      obtain⟨m,hm,hr⟩:=hm;rw[hr,EN];refine GJ (λq x1 x2 x3 x7 x8 H'=>∃k:Nat,k+q=m∧x1=I pos∧x2=I n∧x3=.ptr 0 0∧x8=I k∧H'[0]?=some (some (.cells [I size,v]))∧AP x7=true∧Aa H' 1 x7=some (AB (BX l pos k),k)∧0∉AU x7) ?_ m ⟨0,by omega,rfl,rfl,rfl,rfl,rfl,rfl,rfl,by simp[AU]⟩;rintro q x1 x2 x3 x7 x8 H R hR ⟨k,hk,rfl,rfl,rfl,rfl,hH,ho,hsl,hid⟩;unfold Ez
      by_cases hc:k<m
      ·have c1:(k:Int)<n:=by omega
       have c2:pos<size - k:=by omega
       simp[c1,hH,BM (a:=size) (b:=k) (by omega) (by omega),c2,Ao,Aw (a:=pos) (b:=k) (by omega) (by omega)];refine A4 (mB hv hs hl (pos+k) (by omega) (by omega)) ?_;have hH0:=(BD.1 hH).1;have hs1:Aa (H++[some (.cells (AB [E4 l (pos+k)]))]) 1 x7=some (AB (BX l pos k),k):=Ae hsl λi hi=>Ab9 (A3 hsl i hi)
       obtain⟨r,H2,a1,a2,a3,a4,a5,a6⟩:=CC (bytes:=1) hs1 ho (AI (v:=.sl H.length 0 1 1 (.ex 1)) (q:=(AB [E4 l (pos+k)],1)) (by simp[Aa,AB])) (by omega);have e:AB [E4 l (pos+k)]=[.lit (.int .u8 (E4 l (pos+k)).toNat)]:=rfl;rw[e]at a1 a5
       have hH2:H2[0]?=some (some (.cells [I size,v])):=by
        rw[a5 0 (by simp) hid,Ab9 hH0];exact hH
       simp[a1,Aw (a:=k) (b:=1) (by omega) (by omega)];refine hR (q - 1) _ _ _ _ _ _ (by omega) ⟨k+1,by omega,rfl,rfl,rfl,rfl,hH2,a2,?_,λhi=>(a6 0 hi).elim hid (by simp)⟩;rw[a3,Yu,Uz]
      ·have c1:¬((k:Int)<n∧pos<size - k):=by omega
       have hkm:k=m:=by omega
       subst hkm
       by_cases c2:(k:Int)<n
       ·have c3:¬pos<size - k:=λh=>c1 ⟨c2,h⟩
        simp[c2,hH,BM (a:=size) (b:=k) (by omega) (by omega),c3,hsl]
       ·simp[c2,hsl]
  ·simp[h1,nix _ (λh=>h1 h.1)]
 exact this
abbrev An7:=@List.Pairwise.sublist
theorem mS {l:List Ext}(h:srt l)(k:Nat):srt (l.take k):=An7 (List.take_sublist k l) h
abbrev Ah8:=@List.take_add_one
theorem Qa {l:List Ext}(hs:srt l){k:Nat}{y:Ext}(hx:l[k]?=some y)(p:Int):E4 (l.take (k+1)) p=if y.no=p/8 then y.b.getD (p % 8).toNat 0 else E4 (l.take k) p:=by
 split
 ·rename_i h
  exact PZ (mS hs (k+1)) (k:=k) (by rw[Ac9,if_pos (by omega)];exact hx) h
 ·rename_i h
  unfold E4;rw[Ah8,hx,List.find?_append];simp[h]
theorem EM {l:List Ext}{pos:Int}{m i:Nat}:(BX l pos m)[i]?=if i<m then some (E4 l (pos+i))else none:=by
 unfold BX;rw[Ae7]
 by_cases h:i<m
 ·simp[h]
 ·simp[h]
theorem gT {l:List Ext}(hs:srt l){k m:Nat}{y:Ext}(hx:l[k]?=some y){pos:Int}(h:¬max (y.no*8) pos<min (y.no*8+8) (pos+m)):BX (l.take (k+1)) pos m=BX (l.take k) pos m:=by
 refine Ae5 λi=>?_
 rw[EM,EM]
 split
 ·rw[Qa hs hx,if_neg (by omega)]
 ·rfl
theorem gU {l:List Ext}(hs:srt l){k m:Nat}{y:Ext}(hx:l[k]?=some y){pos:Int}{off from' mlen:Nat}(h:max (y.no*8) pos<min (y.no*8+8) (pos+m))
  (h1:(off:Int)=max (y.no*8) pos - pos) (h2:(from':Int)=max (y.no*8) pos - y.no*8) (h3:(mlen:Int)=min (y.no*8+8) (pos+m) - max (y.no*8) pos):
  (BX (l.take k) pos m).take off++((y.b.drop from').take mlen)++(BX (l.take k) pos m).drop (off+mlen)=BX (l.take (k+1)) pos m:=by
 have hb:=y.hb;refine Ae5 λi=>?_
 have hl1:((BX (l.take k) pos m).take off).length=off:=by rw[Ac0,EN];omega
 have hl2:((y.b.drop from').take mlen).length=mlen:=by rw[Ac0,Ac7];omega
 by_cases c1:i<off
 ·rw[Ad3,Ab9 (by omega),Ac9,if_pos c1,EM,EM]
  split
  ·rw[Qa hs hx,if_neg (by omega)]
  ·rfl
 ·by_cases c2:i<off+mlen
  ·rw[Ab9 (by rw[Ac6];omega),Ac4 (by omega),hl1,Ac9,if_pos (by omega),Ad1,EM,if_pos (by omega),Qa hs hx,if_pos (by omega)]
   rw[show((pos+(i:Int)) % 8).toNat=from'+(i - off) by omega];rw[Ac8,DR (by omega)];simp
  ·rw[Ac4 (by rw[Ac6];omega),Ac6,hl1,hl2,Ad1,EM,EM,show off+mlen+(i - (off+mlen))=i by omega]
   split
   ·rw[Qa hs hx,if_neg (by omega)]
   ·rfl
theorem W5 (a b:List UInt8)(off:Nat):B2 (AB a) off (AB b)=AB (a.take off++b++a.drop (off+b.length)):=by
 unfold B2;rw[B3,IM,RN,Uz,Uz]
abbrev An1:=@List.getElem?_replicate
theorem aZ (l:List Ext)(pos:Int)(m:Nat):List.replicate m (AV.lit (.int .u8 0))=AB (BX (l.take 0) pos m):=by
 refine Ae5 λi=>?_
 rw[Qj,EM,An1]
 by_cases h:i<m
 ·rw[if_pos h,if_pos h]
  simp[E4]
 ·rw[if_neg h,if_neg h]
  rfl
abbrev Aj1:=@List.take_length
theorem VF {size:Int}{l:List Ext}{v:AV}(hv:SV Ax 9 l v)(hl:l.length≤281474976710656)(pos n:Int):
  ∃r,SV Je 1 (HM size l pos n) r∧BPure prog 23 [.agg [I size,v],I pos,I n] r:=by
 unfold SV;simp only[IN]
 have:∃r,(noIds r=true∧∀H,Aa H 1 r=some (AB (HM size l pos n),(HM size l pos n).length))∧BPure prog 23 [.agg [I size,v],I pos,I n] r:=by
  refine BPure.sl (sz:=1) (by simp[A6,noIds,hv.1]) (HJ _) (U8 ?_);unfold SJ;simp[EC hv,Ao];refine A4 (Fd hv hl) ?_
  have nix:∀H,¬uO size l pos n→Aa H 1 Ad=some (AB (HM size l pos n),(HM size l pos n).length):=by
   intro H h;have:HM size l pos n=[]:=if_neg h;rw[this];rfl
  by_cases h1:Cs size l
  ·by_cases h2:pos<0
   ·simp[h1,h2,nix _ (λh=>by have:=h.2.1;omega)]
   ·by_cases h3:n<0
    ·simp[h1,h2,h3,nix _ (λh=>by have:=h.2.2.1;omega)]
    ·by_cases h4:4096<n
     ·simp[h1,h2,h3,h4,nix _ (λh=>by have:=h.2.2.2.1;omega)]
     ·by_cases h5:size≤pos
      ·simp[h1,h2,h3,h4,h5,nix _ (λh=>by have:=h.2.2.2.2;omega)]
      ·have hs:=LD h1.2.2
       have hsz:=h1.2.1;have hsz0:=h1.1;have hr:HM size l pos n=BX l pos (min n (size - pos)).toNat:=if_pos ⟨h1,by omega,by omega,by omega,by omega⟩;rw[hr,EN];obtain⟨m,hm⟩:∃m:Nat,(m:Int)=min n (size - pos):=⟨(min n (size - pos)).toNat,by omega⟩;have hm':min (size - pos) n=(m:Int):=by omega
       rw[show(min n (size - pos)).toNat=m by omega];simp[h1,h2,h3,h4,h5,BM (a:=size) (b:=pos) (by omega) (by omega),hm',qC,show(m:Int)≤281474976710656 by omega,show(m:Int)≤9223372036854775807 by omega,hv.len];have hz:=aZ l pos m;refine Oi (λq x1 x2 x7 x41 x42 x43 H'=>∃k:Nat,k+q=l.length∧x1=I pos∧x2=I m∧x7=.sl 1 0 m 1 (.ex m)∧x41=v∧x42=I l.length∧x43=I k∧∃X,H'=some (.cells [I size,v])::some (.cells (AB (BX (l.take k) pos m)))::X) ?_ l.length ⟨0,by omega,rfl,rfl,rfl,rfl,rfl,rfl,[],by rw[← hz]⟩;rintro q x1 x2 x7 x41 x42 x43 H R hR ⟨k,hk,rfl,rfl,rfl,rfl,rfl,rfl,X,rfl⟩;unfold KG;rcases Ac5 k l.length with hlt | hge
       ·have hx:=DR hlt
        generalize l[k]=y at hx;have hy:=QP h1.2.2 y (Ac3 hx);simp[hlt,hv.idx A1 hx rfl,-IV];rw[← Ah7,← Ah7,jH (by simp) (by rfl)];simp;refine A4 (Jl y.no (by omega) (by omega)) ?_
        have nxt:∀Y,(FG R (I pos) (I m) (.sl 1 0 m 1 (.ex m)) x41 (I l.length) (I k) (some (.cells [I size,x41])::some (.cells (AB (BX (l.take (k+1)) pos m)))::Y) λr H'=>Aa H' 1 r=some (AB (BX l pos m),m)):=by
         intro Y;rw[Ps];unfold JO;simp[Aw (a:=k) (b:=1) (by omega) (by omega)];exact hR (q - 1) _ _ _ _ _ _ _ (by omega) ⟨k+1,by omega,rfl,rfl,rfl,rfl,rfl,rfl,Y,rfl⟩
        have w1:MaySpan ⟨y.no*8,8⟩:=by simp only[MaySpan,May];omega
        have w2:MaySpan ⟨pos,m⟩:=by simp only[MaySpan,May];omega
        refine A4 (P3 ⟨y.no*8,8⟩ ⟨pos,m⟩) ?_
        by_cases c:max (y.no*8) pos<min (y.no*8+8) (pos+m)
        ·have e:L8 ⟨y.no*8,8⟩ ⟨pos,m⟩=⟨max (y.no*8) pos,min (y.no*8+8) (pos+m) - max (y.no*8) pos⟩:=if_pos ⟨w1,w2,c⟩
         rw[e];obtain⟨off,ho⟩:∃off:Nat,(off:Int)=max (y.no*8) pos - pos:=⟨(max (y.no*8) pos - pos).toNat,by omega⟩;obtain⟨fr,hf⟩:∃fr:Nat,(fr:Int)=max (y.no*8) pos - y.no*8:=⟨(max (y.no*8) pos - y.no*8).toNat,by omega⟩;obtain⟨ml,hml⟩:∃ml:Nat,(ml:Int)=min (y.no*8+8) (pos+m) - max (y.no*8) pos:=⟨(min (y.no*8+8) (pos+m) - max (y.no*8) pos).toNat,by omega⟩;have hst:=gU hs hx c ho hf hml;have hb:=y.hb
         have e1:AX 1 (.sl 1 0 m 1 (.ex m)) (some (I off)) none none=some (.sl 1 off (m - off) 1 (.ex (m - off))):=by
          simp[AX,Bs,Room.least,Room.cut];omega
         have e3:∀o,AX 1 (.sl o (1+fr) (8 - fr) 1 (.ex (8 - fr))) none (some (I ml)) none=some (.sl o (1+fr) ml 1 (.ex (8 - fr))):=by
          intro o;simp[AX,Bs,Room.least,Room.cut];omega
         have key:∀(HH Y:AH) (o:Nat),HH=some (.cells [I size,x41])::some (.cells (AB (BX (l.take k) pos m)))::Y→HH[o]?=some (some (.cells (Ax y)))→
           Lx 8 1 HH (.ptr o 1) (some (I fr)) none=some (.sl o (1+fr) (8 - fr) 1 (.ex (8 - fr)))∧
           Oe 1 HH (.sl 1 off (m - off) 1 (.ex (m - off))) (.sl o (1+fr) ml 1 (.ex (8 - fr)))=some (I ml,some (.cells [I size,x41])::some (.cells (AB (BX (l.take (k+1)) pos m)))::Y):=by
          intro HH Y o hHH hHo;refine⟨by simp[Lx,Bs,hHo,A1];omega,?_⟩
          have a1:Aa HH 1 (.sl o (1+fr) ml 1 (.ex (8 - fr)))=some (AB ((y.b.drop fr).take ml),ml):=by
           have:(Ax y).drop (1+fr)=AB (y.b.drop fr):=by
            rw[Ak9]
            show(AB y.b).drop fr=_
            rw[RN]
           simp[Aa,hHo,A1,this,IM];omega
          unfold Oe eE;rw[AI a1,hHH];have a2:min ml (m - off)=ml:=by omega
          have a3:((y.b.drop fr).take ml).length=ml:=by simp;omega
          have hle:off≤m:=by omega
          simp[B3,EN,a2,IM,hle];have a4:List.take ml (List.take ml (y.b.drop fr))=(y.b.drop fr).take ml:=by rw[Ah0,Nat.min_self]
          rw[a4,W5,a3,hst]
         simp[Cd,AT,c,BM (a:=max (y.no*8) pos) (b:=pos) (by omega) (by omega),← ho,e1,DM (a:=y.no) (b:=8) (by omega) (by omega),BM (a:=max (y.no*8) pos) (b:=y.no*8) (by omega) (by omega),← hf,← hml];obtain⟨k1,k2⟩:=key _ (X++[some (.cells (Ax y)),some (.cells [I (max (y.no*8) pos),I ml])]) (X.length+1+1) rfl (by simp);rw[k1];simp[e3];rw[k2];simp[show 0<ml by omega];exact nxt _
        ·have e:L8 ⟨y.no*8,8⟩ ⟨pos,m⟩=⟨0,0⟩:=if_neg (λh=>c h.2.2)
         rw[e];simp[Cd,AT];rw[← gT hs hx c];exact nxt _
       ·have:k=l.length:=by omega
        subst this;rw[Aj1];simp[Aa,B3,EN];rw[Ac1 (by rw[B3,EN];omega)]
  ·simp[h1,nix _ (λh=>h1 h.1)]
 exact this
theorem WU {H:AH}{sz o off len o2 off2 m:Nat}{cap cap2:Room}{cs cs2:List AV}(ho:H[o]?=some (some (.cells cs)))(h2:H[o2]?=some (some (.cells cs2)))(hoff:off≤cs.length)(ht:off2+min m len*sz≤cs2.length):
  Oe sz H (.sl o off len sz cap) (.sl o2 off2 m sz cap2)=some (I ((min m len:Nat):Int),H.set o (some (.cells (B2 cs off ((cs2.drop off2).take (min m len*sz)))))):=by
 unfold Oe eE
 by_cases h:off2+m*sz≤cs2.length
 ·have e:Bf H sz (.sl o2 off2 m sz cap2)=some ((cs2.drop off2).take (m*sz),m):=AI (by simp[Aa,h2,h])
  have hm:min (min m len*sz) (m*sz)=min m len*sz:=Ai2 (Ad0 _ (Am3 _ _));rw[e];simp only[ho,hoff,and_self,if_true,Ah0,hm]
 ·have e:Bf H sz (.sl o2 off2 m sz cap2)=none:=by simp[Bf,Aa,h2,h]
  rw[e];simp[nS,ho,h2,hoff,ht]
theorem mQ (w:World):(Go.sizeOf 52).run prog w=.ok 9 w:=Bz (by kernel_rfl)
theorem Zg {H:AH}{oa offa la ea ka ob offb lb eb kb:Nat}{ca cb:List AV}(ha:H[oa]?=some (some (.cells ca)))(hbo:H[ob]?=some (some (.cells cb)))(hne:oa≠ob)(hka:ka≠0)(hkb:kb≠0)(hcb:cb≠[]):
  ExtR prog 230 [.sl oa offa la ea (.ex ka),.sl ob offb lb eb (.ex kb)] H (B false):=
 ExtR.apart (tS:=32) (tR:=4) (fn:=f230) (by kernel_rfl) (by kernel_rfl) (by kernel_rfl) (by kernel_rfl) (by kernel_rfl) (by kernel_rfl) mQ ha hbo hne hka hkb hcb
def uW (H:AH)(s:AV)(N:List AV)(n:Nat)(r:AV)(H':AH):Prop:=
 AP r=true∧Aa H' 9 r=some (N,n+1)∧H.length≤H'.length∧(∀i,i<H.length→i∉AU s→H'[i]?=H[i]?)∧∀i∈AU r,i∈AU s∨H.length≤i
theorem kP {H:AH}{s:AV}{cs:List AV}{n ov:Nat}{x:Ext}(hs:Aa H 9 s=some (cs,n))(ho:AP s=true)(hn:n≤100000000)(hv:H[ov]?=some (some (.cells (Ax x)))):
  ∃r H',uW H s (cs++Ax x) n r H'∧BCall prog 222 [s,I n,.sl ov 0 1 9 (.ex 1)] H r H':=by
 obtain⟨r0,a0,-⟩:=E3 hs (lo:=some (I n)) (hi:=none) (l:=n) (k:=n) (by simp[Bs]) rfl (Ac2 _) (Ac2 _);have hl:=A1 x;obtain⟨r,H2,a1,a2,a3,a4,a5,a6⟩:=CC (bytes:=16) hs ho (AI (v:=.sl ov 0 1 9 (.ex 1)) (q:=(Ax x,1)) (by simp[Aa,hv,hl,Ac1])) (by omega);refine⟨r,H2,⟨a2,a3,a4,a5,a6⟩,Cq ?_⟩;unfold Bw;simp[a0,By hs,a1]
theorem fS {H:AH}{o off n ov i:Nat}{cells:List AV}{x:Ext}(hc:H[o]?=some (some (.cells cells)))(hl:off+n*9≤cells.length)(hi:i<n)(hn:n≤100000000)(hv:H[ov]?=some (some (.cells (Ax x)))):
  ACalls prog 222 [.sl o off n 9 (.ex n),I i,.sl ov 0 1 9 (.ex 1)] H λr H'=>r=.sl H.length 0 (n+1) 9 (.ge (n+1))∧
   H'=H++[some (.cells ((cells.drop off).take (i*9)++Ax x++(cells.drop (off+i*9)).take ((n - i)*9)))]:=by
 refine Cq ?_;unfold Bw;have h1:¬(i:Int)=n:=by omega
 have hxl:=A1 x;simp[AX,Bs,Room.least,Room.cut,V6,goInt,h1,show i≤n by omega,Aw (a:=n) (b:=1) (by omega) (by omega),BM (a:=(n:Int)+1) (b:=i) (by omega) (by omega),Kj,hc,hl,Aw (a:=i) (b:=1) (by omega) (by omega)];have e1:i+(n+1 - i)=n+1:=by omega
 have h2:off+i*9≤cells.length:=by omega
 simp only[e1];simp[h2,show(i:Int)<n+1 by omega,show(n:Int)<n+1 by omega,show(n+1)*16≤140737488355328 by omega,show i≤n+1 by omega,show i+1≤n+1 by omega];have zl:((List.replicate (n+1 - i) [AV.lit (Value.int IntKind.i64 0),AV.lit (Value.int IntKind.u8 0),AV.lit (Value.int IntKind.u8 0),AV.lit (Value.int IntKind.u8 0),AV.lit (Value.int IntKind.u8 0),AV.lit (Value.int IntKind.u8 0),AV.lit (Value.int IntKind.u8 0),AV.lit (Value.int IntKind.u8 0),AV.lit (Value.int IntKind.u8 0)]).flatten).length=(n+1 - i)*9:=Di _ _;generalize (List.replicate (n+1 - i) [AV.lit (Value.int IntKind.i64 0),AV.lit (Value.int IntKind.u8 0),AV.lit (Value.int IntKind.u8 0),AV.lit (Value.int IntKind.u8 0),AV.lit (Value.int IntKind.u8 0),AV.lit (Value.int IntKind.u8 0),AV.lit (Value.int IntKind.u8 0),AV.lit (Value.int IntKind.u8 0),AV.lit (Value.int IntKind.u8 0)]).flatten=Z at zl;have hA:(List.take (i*9) (List.drop off cells)).length=i*9:=by rw[Ac0,Ac7];omega
 generalize hAe:List.take (i*9) (List.drop off cells)=A at hA;have hov:=(BD.1 hv).1;have ho:=(BD.1 hc).1;rw[WU (cs:=A++Z) (cs2:=Ax x) (by simp) (by rw[Ab9 hov];exact hv) (by simp[hA]) (by omega)];simp[show(0:Int)≤(i:Int)+1 by omega,show i+1≤n+1 by omega];have m1:min 1 (n+1 - i)=1:=by omega
 have o1:B2 (A++Z) (i*9) (List.take (min 1 (n+1 - i)*9) (Ax x))=A++Ax x++Z.drop 9:=by
  rw[m1,Ac1 (by rw[hxl];omega)];unfold B2;rw[Ad4 (by omega),Ac1 (by omega),hxl,← hA,List.drop_append,Al2,Al6 (by omega),Ai1]
 rw[o1,WU (cs:=A++Ax x++Z.drop 9) (cs2:=cells) (by simp) (by rw[Ab9 ho];exact hc) (by simp[hA,hxl];omega) (by rw[Nat.min_self];omega)];have hB:(List.take ((n - i)*9) (List.drop (off+i*9) cells)).length=(n - i)*9:=by rw[Ac0,Ac7];omega
 simp;generalize List.take ((n - i)*9) (List.drop (off+i*9) cells)=B' at hB;unfold B2;have l1:(A++Ax x).length=(i+1)*9:=by rw[Ac6,hA,hxl];omega
 rw[← Ad3,Ad4 (by omega),Ac1 (by omega),Al6 (by rw[Ac6,l1,Ac7,hB];omega),Af1,Ad3]
theorem aA {H:AH}{o off n ov i c:Nat}{cells:List AV}{x:Ext}(hc:H[o]?=some (some (.cells cells)))(hl:off+n*9≤cells.length)(hi:i<n)(hn:n≤100000000)(hcn:n+1≤c)(hv:H[ov]?=some (some (.cells (Ax x))))(hne:ov≠o):
  ACalls prog 222 [.sl o off n 9 (.ex c),I i,.sl ov 0 1 9 (.ex 1)] H λr H'=>r=.sl o off (n+1) 9 (.ex c)∧
   ∃rest,H'=H.set o (some (.cells (cells.take (off+i*9)++Ax x++(cells.drop (off+i*9)).take ((n - i)*9)++rest))):=by
 refine Cq ?_;unfold Bw;have h1:¬(i:Int)=n:=by omega
 have hxl:=A1 x;simp[AX,Bs,Room.least,Room.cut,V6,goInt,h1,show i≤n by omega,Aw (a:=n) (b:=1) (by omega) (by omega),BM (a:=(n:Int)+1) (b:=i) (by omega) (by omega),hc,hl,Aw (a:=i) (b:=1) (by omega) (by omega),show i≤c by omega,show n≤c by omega,show ¬(c:Int)<n+1 by omega,hcn,show(0:Int)≤(n:Int)+1 by omega,show(0:Int)≤(i:Int)+1 by omega,show i+1≤n+1 by omega,show i+1≤c by omega];refine bP_of (Zg hv hc hne (by omega) (by omega) (by intro h;rw[h]at hl;simp at hl;omega)) ?_;simp;have ho:=(BD.1 hc).1;have mm:min (n+1 - i) (n - i)=n - i:=by omega
 have m1:min 1 (n+1 - i)=1:=by omega
 simp only[show i≤n+1 by omega,Aa9];rw[WU (cs:=cells) (cs2:=cells) hc hc (by omega) (by rw[mm];omega),mm];have hB:(List.take ((n - i)*9) (List.drop (off+i*9) cells)).length=(n - i)*9:=by rw[Ac0,Ac7];omega
 generalize List.take ((n - i)*9) (List.drop (off+i*9) cells)=B' at hB;simp only[Az];have l1:(cells.take (off+(i+1)*9)).length=off+(i+1)*9:=by rw[Ac0];omega
 rw[WU (cs:=B2 cells (off+(i+1)*9) B') (cs2:=Ax x) (by simp[ho]) (by rw[C4 (Af4 hne)];exact hv) (by unfold B2;simp[l1];omega) (by omega),m1,Ac1 (l:=(Ax x).drop 0) (by simp[hxl])];simp only[Az,List.set_set,Ad9];refine⟨(cells.drop (off+(i+1)*9+B'.length)),?_⟩
 congr 3
 unfold B2;rw[hxl]
 have t1:List.take (off+i*9) (cells.take (off+(i+1)*9)++B'++cells.drop (off+(i+1)*9+B'.length))=cells.take (off+i*9):=by
  rw[Ad3,Ad4 (by omega),Ah0,Ai2 (by omega)]
 have t2:List.drop (off+i*9+9) (cells.take (off+(i+1)*9)++B'++cells.drop (off+(i+1)*9+B'.length))=B'++cells.drop (off+(i+1)*9+B'.length):=by
  rw[Ad3,show off+i*9+9=(cells.take (off+(i+1)*9)).length by omega,Ao3]
 rw[t1,t2,Ad3]
theorem Un {m:Nat}:∀{a b:List AV},CB m a→CB m b→CB m (a++b)
 | [],b,_,h=>h
 | x::a,b,h1,h2=>by simp only[CB,Ah7]at h1⊢;exact⟨h1.1,Un h1.2 h2⟩
theorem MC {m:Nat}:∀{a:List AV},CB m a↔∀x∈a,EI m x
 | []=>by simp[CB]
 | x::a=>by simp only[CB,Ad5,forall_eq_or_imp,MC (a:=a)]
theorem jJ (x:Ext)(m:Nat):CB m (Ax x):=by
 rw[MC];intro a ha;simp only[Ax,AB,Ad5,Ae6]at ha;rcases ha with rfl | ⟨b,_,rfl⟩<;>simp only[EI]
theorem kQ {H:AH}{o off n ov i:Nat}{cap:Room}{cells:List AV}{x:Ext}(hc:H[o]?=some (some (.cells cells)))(hl:off+n*9≤cells.length)(hi:i<n)(hn:n≤100000000)(hv:H[ov]?=some (some (.cells (Ax x))))(hne:ov≠o):
  BCall prog 222 [.sl o off n 9 cap,I i,.sl ov 0 1 9 (.ex 1)] H (.sl H.length 0 (n+1) 9 (.ge (n+1)))
   (H.set o none++[some (.cells ((cells.drop off).take (i*9)++Ax x++(cells.drop (off+i*9)).take ((n - i)*9)))]):=by
 have ho:=(BD.1 hc).1;have hxl:=A1 x;generalize hN:(cells.drop off).take (i*9)++Ax x++(cells.drop (off+i*9)).take ((n - i)*9)=N
 have hNl:N.length=(n+1)*9:=by
  rw[← hN,Ac6,Ac6,hxl,Ac0,Ac0,Ac7,Ac7];omega
 have hall:∀c,n≤c→ACalls prog 222 [.sl o off n 9 (.ex c),I i,.sl ov 0 1 9 (.ex 1)] H λr H'=>
   (r=.sl H.length 0 (n+1) 9 (.ge (n+1))∧H'=H++[some (.cells N)])∨∃c rest,n+1≤c∧r=.sl o off (n+1) 9 (.ex c)∧H'=H.set o (some (.cells (cells.take off++N++rest))):=by
  intro c hcn;rcases Ac5 n c with h | h
  ·refine(aA hc hl hi hn h hv hne).mono ?_
   rintro r H' ⟨rfl,rest,rfl⟩;refine .inr ⟨c,rest,h,rfl,?_⟩
   congr 3
   rw[← hN,Ak9 off (i*9),Ak9 (i*9) off];have:cells.take (off+i*9)=cells.take off++(cells.drop off).take (i*9):=by rw[List.take_add]
   rw[this];simp[Ad3]
  ·have:c=n:=by omega
   subst this;refine(fS hc hl hi hn hv).mono ?_;rintro r H' ⟨rfl,rfl⟩;exact .inl ⟨rfl,by rw[hN]⟩
 have hany:ACalls prog 222 [.sl o off n 9 cap,I i,.sl ov 0 1 9 (.ex 1)] H λr H'=>
   (r=.sl H.length 0 (n+1) 9 (.ge (n+1))∧H'=H++[some (.cells N)])∨∃c rest,n+1≤c∧r=.sl o off (n+1) 9 (.ex c)∧H'=H.set o (some (.cells (cells.take off++N++rest))):=by
  cases cap with
  | ge k=>exact ACalls.room λc _ h=>hall c h
  | ex c=>
   rcases Ac5 c n with h | h
   ·intro G vs hH hv
    exfalso
    simp only[VRs]at hv;obtain⟨v,r,rfl,h1,h2⟩:=hv;simp only[VR]at h1;obtain⟨_,a,c',rfl,hlc,hs⟩:=h1;simp only[SlAt]at hs;omega
   ·exact hall c h
 refine ACalls.canon hany ?_;rintro hb r1 H1 h1
 have hbN:CB H.length N:=by
  have hbc:CB H.length cells:=hb o _ hc;rw[MC]at hbc;rw[← hN];refine Un (Un ?_ (jJ x _)) ?_
  ·rw[MC];exact λa ha=>hbc a (Ah6 (Ag1 ha))
  ·rw[MC];exact λa ha=>hbc a (Ah6 (Ag1 ha))
 rcases h1 with⟨rfl,rfl⟩ | ⟨c,rest,hcn,rfl,rfl⟩
 ·refine⟨_,_,_,Canon.grown hb hbN,?_⟩
  intro G v hG hr;refine⟨?_,λp ℓ h=>by cases h⟩;simp only[VR]at hr⊢;obtain⟨q0,a,c,rfl,hlc,hs⟩:=hr;refine⟨by simp[Cfg.ren],a,c,rfl,hlc,?_⟩
  simpa[Cfg.ren,sU,lL]using hs
 ·refine⟨_,_,_,Canon.placed (off:=off) (l:=c*9) hb ho hbN (cs1:=cells.take off++N++rest) ?_ ?_ ?_,?_⟩
  ·simp;omega
  ·have:(cells.take off).length=off:=by rw[Ac0];omega
   rw[Ad3]
   conv=>lhs;arg 2;arg 1;rw[← this]
   rw[Ao3,List.take_left]
  ·rw[hNl];omega
  ·intro G v hG hr
   simp only[VR]at hr;obtain⟨q0,a,c',rfl,hlc,hs⟩:=hr;simp only[SlAt]at hs;obtain⟨rfl,hs⟩:=hs;have hs:=hs.resolve_left (by omega);obtain⟨rfl,hs2⟩:=hs;have e:rR H.length o off H.length=(o,off):=if_pos rfl;have e2:Yn H.length (c'*9) H.length=some (c'*9):=if_pos rfl;refine⟨?_,?_⟩
   ·simp only[VR]
    refine⟨by simp[Cfg.ren],_,c',rfl,by omega,?_⟩;simp only[SlAt];refine⟨hcn,.inr ⟨by simp[Cfg.ren,e],?_⟩⟩;simp[Cfg.ren,e2]
   ·intro p ℓ h
    unfold Yn at h;split at h
    ·rename_i hp
     injection h with h;subst hp;subst h;rw[e];omega
    ·cases h
theorem dS:∀{l m:List Ext},srt l→srt m→(∀x,x∈l↔x∈m)→l=m
 | [],[],_,_,_=>rfl
 | [],y::m,_,_,h=>by have:=(h y).2 (by simp);simp at this
 | x::l,[],_,_,h=>by have:=(h x).1 (by simp);simp at this
 | x::l,y::m,hl,hm,h=>by
  have hl':=Ae4.1 hl;have hm':=Ae4.1 hm
  have e:x=y:=by
   rcases Ad5.1 ((h x).1 (by simp))with e | h1
   ·exact e
   ·rcases Ad5.1 ((h y).2 (by simp))with e | h2
    ·exact e.symm
    ·have:=hm'.1 x h1;have:=hl'.1 y h2;omega
  subst e;refine congrArg _ (dS hl'.2 hm'.2 λz=>?_)
  constructor
  ·intro hz
   rcases Ad5.1 ((h z).1 (by simp[hz]))with e | h1
   ·have:=hl'.1 z hz;rw[e]at this;omega
   ·exact h1
  ·intro hz
   rcases Ad5.1 ((h z).2 (by simp[hz]))with e | h1
   ·have:=hm'.1 z hz;rw[e]at this;omega
   ·exact h1
theorem ZR {x y:Ext}(h1:x.no=y.no)(h2:∀k,k<8→x.b.getD k 0=y.b.getD k 0):x=y:=by
 obtain⟨a,b,hb⟩:=x;obtain⟨c,d,hd⟩:=y;simp only at h1 h2;subst h1
 have:b=d:=by
  refine List.ext_getElem (by omega) λk hk1 hk2=>?_
  have:=h2 k (by omega)
  rw[Ac8,Ac8,DR hk1,DR hk2]at this
  simpa using this
 subst this;rfl
theorem TR {l:List Ext}{x:Ext}(h:x∈l):∃k:Nat,l[k]?=some x:=Ad6.1 h
theorem ZJ {l:List Ext}(hs:srt l){x:Ext}(hx:x∈l){k:Nat}(hk:k<8):E4 l (x.no*8+k)=x.b.getD k 0:=by
 obtain⟨i,hi⟩:=TR hx;rw[PZ hs hi (by omega),show((x.no*8+(k:Int)) % 8).toNat=k by omega]
theorem pU {l m:List Ext}(hl:srt l)(hm:srt m)(h1:∀no,Bb l no↔Bb m no)(h2:∀p,E4 l p=E4 m p):l=m:=by
 have key:∀{l m:List Ext},srt l→srt m→(∀no,Bb l no↔Bb m no)→(∀p,E4 l p=E4 m p)→∀x,x∈l→x∈m:=by
  intro l m hl hm h1 h2 x hx;obtain⟨y,hy,e⟩:=(h1 x.no).1 ⟨x,hx,rfl⟩
  have:x=y:=ZR e.symm λk hk=>by
   rw[← ZJ hl hx hk,← ZJ hm hy hk,h2,e]
  rw[this];exact hy
 exact dS hl hm λx=>⟨key hl hm h1 h2 x,key hm hl (λno=>(h1 no).symm) (λp=>(h2 p).symm) x⟩
def QL (no:Int):Ext:=⟨no,List.replicate 8 0,by simp⟩
def DH (l:List Ext)(no:Int):List Ext:=if Bb l no then l else l.take (posL l no)++QL no::l.drop (posL l no)
theorem Zj {l:List Ext}{no:Int}{x:Ext}(h:x∈l.take (posL l no)):x.no<no:=by
 obtain⟨k,hk⟩:=TR h;have h1:=(BD.1 hk).1;rw[Ac0]at h1;rw[Ac9,if_pos (by omega)]at hk;exact X7 (by omega) hk
theorem Zi {l:List Ext}(hs:srt l){no:Int}{x:Ext}(h:x∈l.drop (posL l no)):no≤x.no:=by
 obtain⟨k,hk⟩:=TR h;rw[Ad1]at hk;cases h0:l[posL l no]? with
 | none=>
  have h1:=(BD.1 hk).1;rw[List.getElem?_eq_none_iff]at h0;omega
 | some y=>
  have h2:=dE h0;rcases Ak2 k with h3 | h3
  ·subst h3;rw[Ah1,h0]at hk;injection hk with hk;rw[← hk];exact h2
  ·have:=Kd hs h0 hk (by omega);omega
theorem HG {l:List Ext}(hs:srt l)(no:Int):srt (DH l no):=by
 unfold DH
 split
 ·exact hs
 ·rename_i h
  have hd:∀x∈l.drop (posL l no),no<x.no:=by
   intro x hx;have h1:=Zi hs hx;have h2:x.no≠no:=λe=>h ⟨x,Ah6 hx,e⟩
   omega
  refine Aj5.2 ⟨An7 (List.take_sublist _ l) hs,Ae4.2 ⟨hd,An7 (List.drop_sublist _ l) hs⟩,?_⟩;intro a ha b hb;have h1:=Zj ha;rcases Ad5.1 hb with rfl | hb
  ·exact h1
  ·have:=hd b hb;omega
theorem KW {l:List Ext}{no:Int}{x:Ext}:x∈DH l no↔x∈l∨(¬Bb l no∧x=QL no):=by
 unfold DH
 split
 ·rename_i h;simp[h]
 ·rename_i h
  rw[Af8,Ad5];have:x∈l↔x∈l.take (posL l no)∨x∈l.drop (posL l no):=by rw[← Af8,Af3]
  rw[this]
  constructor
  ·rintro(h1 | h1 | h1)
   ·exact .inl (.inl h1)
   ·exact .inr ⟨h,h1⟩
   ·exact .inl (.inr h1)
  ·rintro((h1 | h1) | ⟨_,h1⟩)
   ·exact .inl h1
   ·exact .inr (.inr h1)
   ·exact .inr (.inl h1)
theorem Nt {l:List Ext}{no a:Int}:Bb (DH l no) a↔Bb l a∨a=no:=by
 unfold Bb
 constructor
 ·rintro⟨x,hx,e⟩
  rcases KW.1 hx with h | ⟨_,rfl⟩
  ·exact .inl ⟨x,h,e⟩
  ·exact .inr e.symm
 ·rintro(⟨x,hx,e⟩ | rfl)
  ·exact⟨x,KW.2 (.inl hx),e⟩
  ·by_cases h:Bb l a
   ·obtain⟨x,hx,e⟩:=h
    exact⟨x,KW.2 (.inl hx),e⟩
   ·exact⟨QL a,KW.2 (.inr ⟨h,rfl⟩),rfl⟩
theorem Kl {l:List Ext}(hs:srt l){x:Ext}(hx:x∈l){p:Int}(h:x.no=p/8):E4 l p=x.b.getD (p % 8).toNat 0:=by
 obtain⟨k,hk⟩:=TR hx;exact PZ hs hk h
theorem cT {l:List Ext}(hs:srt l)(no p:Int):E4 (DH l no) p=E4 l p:=by
 by_cases h:Bb l (p/8)
 ·obtain⟨x,hx,e⟩:=h
  rw[Kl hs hx e,Kl (HG hs no) (KW.2 (.inl hx)) e]
 ·rw[CE h]
  by_cases h2:p/8=no
  ·rw[Kl (HG hs no) (KW.2 (.inr ⟨h2▸h,rfl⟩)) h2.symm]
   have:(p % 8).toNat<8:=by omega
   simp only[QL];rw[Ac8,An1,if_pos this];rfl
  ·exact CE (λh3=>(Nt.1 h3).elim h h2)
theorem lJ {l:List Ext}(hs:srt l)(no:Int):posL (DH l no) no=posL l no:=by
 unfold DH
 split
 ·rfl
 ·rename_i h
  have hp:=TV l no;refine QR (by simp;omega) ?_ ?_
  ·intro m x hm hx
   rw[Ab9 (by rw[Ac0];omega),Ac9,if_pos hm]at hx;exact X7 hm hx
  ·intro x hx
   rw[Ac4 (by rw[Ac0];omega),Ac0,show posL l no - min (posL l no) l.length=0 by omega]at hx;simp at hx;rw[← hx];simp[QL]
theorem lI {l:List Ext}(hs:srt l)(no:Int):∃x,(DH l no)[posL l no]?=some x∧x.no=no:=by
 have:=(Qv (HG hs no) (no:=no)).1 (Nt.2 (.inr rfl))
 rwa[lJ hs]at this
theorem QK (l:List Ext)(no:Int):(DH l no).length≤l.length+1∧l.length≤(DH l no).length:=by
 have hp:=TV l no;unfold DH
 split
 ·omega
 ·simp;omega
def Vj (x:Ext)(off:Nat)(bs:List UInt8):Ext:=if h:off+bs.length≤8 then⟨x.no,x.b.take off++bs++x.b.drop (off+bs.length),by have:=x.hb;simp;omega⟩else x
theorem dG (x:Ext)(off:Nat)(bs:List UInt8):(Vj x off bs).no=x.no:=by unfold Vj;split<;>rfl
theorem lX {x:Ext}{off:Nat}{bs:List UInt8}(h:off+bs.length≤8):(Vj x off bs).b=x.b.take off++bs++x.b.drop (off+bs.length):=by unfold Vj;rw[dif_pos h]
theorem lY {x:Ext}{off:Nat}{bs:List UInt8}(h:off+bs.length≤8){k:Nat}(hk:k<8):(Vj x off bs).b.getD k 0=if off≤k∧k<off+bs.length then bs.getD (k - off) 0 else x.b.getD k 0:=by
 have hb:=x.hb;have h1:(x.b.take off).length=off:=by rw[Ac0];omega
 rw[lX h];simp only[Ac8]
 split
 ·rename_i c
  rw[Ab9 (by rw[Ac6];omega),Ac4 (by omega),h1]
 ·rename_i c
  by_cases c1:k<off
  ·rw[Ad3,Ab9 (by omega),Ac9,if_pos c1]
  ·rw[Ac4 (by rw[Ac6];omega),Ac6,h1,Ad1]
   congr 2;omega
def Vk (l:List Ext)(no:Int)(off:Nat)(bs:List UInt8):List Ext:=l.map λx=>if x.no=no then Vj x off bs else x
theorem aQ (no:Int)(off:Nat)(bs:List UInt8)(x:Ext):(if x.no=no then Vj x off bs else x).no=x.no:=by split;exact dG ..;rfl
abbrev Aj6:=@List.pairwise_map
theorem dR {l:List Ext}{f:Ext→Ext}(hf:∀x∈l,(f x).no=x.no)(hs:srt l):srt (l.map f):=by
 unfold srt at*;rw[Aj6];refine hs.imp_of_mem λha hb h=>?_
 rw[hf _ ha,hf _ hb];exact h
theorem cR {l:List Ext}{f:Ext→Ext}(hf:∀x∈l,(f x).no=x.no){no:Int}:Bb (l.map f) no↔Bb l no:=by
 unfold Bb
 constructor
 ·rintro⟨y,hy,e⟩
  obtain⟨x,hx,rfl⟩:=Ae6.1 hy;exact⟨x,hx,by rw[← e,hf x hx]⟩
 ·rintro⟨x,hx,e⟩
  exact⟨f x,Ae6.2 ⟨x,hx,rfl⟩,by rw[← e,hf x hx]⟩
theorem dI {l:List Ext}(hs:srt l)(no:Int)(off:Nat)(bs:List UInt8):srt (Vk l no off bs):=dR (λx _=>aQ ..) hs
theorem dH {l:List Ext}{no a:Int}{off:Nat}{bs:List UInt8}:Bb (Vk l no off bs) a↔Bb l a:=cR (λx _=>aQ ..)
theorem tQ {l:List Ext}(hs:srt l){no:Int}{off:Nat}{bs:List UInt8}(h:off+bs.length≤8)(hn:Bb l no)(p:Int):
  E4 (Vk l no off bs) p=if no*8+off≤p∧p<no*8+off+bs.length then bs.getD (p - (no*8+off)).toNat 0 else E4 l p:=by
 by_cases h0:Bb l (p/8)
 ·obtain⟨x,hx,e⟩:=h0
  rw[Kl (x:=if x.no=no then Vj x off bs else x) (dI hs no off bs) (Ae6.2 ⟨x,hx,rfl⟩) (by rw[aQ];exact e),Kl hs hx e]
  by_cases c:x.no=no
  ·rw[if_pos c,lY h (by omega)]
   by_cases c2:no*8+off≤p∧p<no*8+off+bs.length
   ·rw[if_pos c2,if_pos (by omega)];congr 1;omega
   ·rw[if_neg c2,if_neg (by omega)]
  ·rw[if_neg c,if_neg (by omega)]
 ·rw[CE (by rw[dH];exact h0),CE h0,if_neg]
  intro c;have:p/8=no:=by omega
  exact h0 (this▸hn)
theorem pI {l:List Ext}(hs:srt l){k:Nat}{x:Ext}(hx:l[k]?=some x)(off:Nat)(bs:List UInt8):l.set k (Vj x off bs)=Vk l x.no off bs:=by
 refine Ae5 λi=>?_
 unfold Vk;rw[Ae7,Ag6];have hk:=(BD.1 hx).1
 by_cases h:k=i
 ·subst h
  obtain⟨h1,h2⟩:=BD.1 hx;simp[hk,h2]
 ·rw[if_neg h]
  cases hi:l[i]? with
  | none=>rfl
  | some y=>
   have:y.no≠x.no:=by
    rcases Nat.lt_or_gt_of_ne h with h | h
    ·have:=Kd hs hx hi h;omega
    ·have:=Kd hs hi hx h;omega
   simp[this]
def Dt (l:List Ext)(p:Int)(bs:List UInt8):List Ext:=Vk (DH l (p/8)) (p/8) (p % 8).toNat bs
theorem aH {l:List Ext}(hs:srt l)(p:Int)(bs:List UInt8):srt (Dt l p bs):=dI (HG hs _) ..
theorem lM {l:List Ext}{p a:Int}{bs:List UInt8}:Bb (Dt l p bs) a↔Bb l a∨a=p/8:=by unfold Dt;rw[dH,Nt]
theorem qN {l:List Ext}(hs:srt l){p:Int}{bs:List UInt8}(h:p % 8+bs.length≤8)(q:Int):E4 (Dt l p bs) q=if p≤q∧q<p+bs.length then bs.getD (q - p).toNat 0 else E4 l q:=by
 unfold Dt;rw[tQ (HG hs _) (by omega) (Nt.2 (.inr rfl)),cT hs,show p/8*8+((p % 8).toNat:Int)=p by omega]
def Bo (l:List Ext)(p:Int):List UInt8→List Ext
 | []=>l
 | b::r=>Bo (Dt l p [b]) (p+1) r
theorem XL:∀{bs:List UInt8} {l:List Ext} (hs:srt l) (p:Int),srt (Bo l p bs)
 | [],l,hs,p=>hs
 | b::r,l,hs,p=>XL (aH hs p [b]) (p+1)
theorem PC:∀{bs:List UInt8} {l:List Ext} {p a:Int},Bb (Bo l p bs) a↔Bb l a∨∃q,p≤q∧q<p+bs.length∧a=q/8
 | [],l,p,a=>by
  unfold Bo;simp only[Ai0];exact⟨.inl,λh=>h.elim id fun ⟨q,h1,h2,_⟩=>by omega⟩
 | b::r,l,p,a=>by
  unfold Bo;rw[PC,lM];simp only[Ad7]
  constructor
  ·rintro((h | h) | ⟨q,h1,h2,h3⟩)
   ·exact .inl h
   ·exact .inr ⟨p,by omega,by omega,h⟩
   ·exact .inr ⟨q,by omega,by omega,h3⟩
  ·rintro(h | ⟨q,h1,h2,h3⟩)
   ·exact .inl (.inl h)
   ·by_cases c:q=p
    ·exact .inl (.inr (c▸h3))
    ·exact .inr ⟨q,by omega,by omega,h3⟩
theorem Z3:∀{bs:List UInt8} {l:List Ext} (hs:srt l) (p q:Int),E4 (Bo l p bs) q=if p≤q∧q<p+bs.length then bs.getD (q - p).toNat 0 else E4 l q
 | [],l,hs,p,q=>by
  unfold Bo;rw[if_neg (by simp only[Ai0];omega)]
 | b::r,l,hs,p,q=>by
  unfold Bo;rw[Z3 (aH hs p [b]),qN hs (by simp only[yU];omega)];simp only[yU]
  by_cases c:p+1≤q∧q<p+1+r.length
  ·rw[if_pos c,if_pos (by omega),show(q - p).toNat=(q - (p+1)).toNat+1 by omega];rfl
  ·rw[if_neg c]
   by_cases c2:p=q
   ·subst c2
    rw[if_pos (by omega),if_pos (by omega)];simp
   ·rw[if_neg (by omega),if_neg (by omega)]
theorem V1:∀{bs cs:List UInt8} {l:List Ext} {p:Int},Bo l p (bs++cs)=Bo (Bo l p bs) (p+bs.length) cs
 | [],cs,l,p=>by simp[Bo]
 | b::r,cs,l,p=>by
  show Bo (Dt l p [b]) (p+1) (r++cs)=Bo (Bo (Dt l p [b]) (p+1) r) (p+(r.length+1:Nat)) cs
  rw[V1];congr 1;omega
theorem mX {l:List Ext}(hs:srt l){p:Int}{bs:List UInt8}(h:p % 8+bs.length≤8)(hb:bs≠[]):Dt l p bs=Bo l p bs:=by
 have hlen:0<bs.length:=List.length_pos_iff.2 hb;refine pU (aH hs p bs) (XL hs p) (λa=>?_) (λq=>?_)
 ·rw[lM,PC]
  refine or_congr_right ⟨λh1=>⟨p,by omega,by omega,h1⟩,?_⟩;rintro⟨q,h1,h2,rfl⟩;omega
 ·rw[qN hs h,Z3 hs]
theorem mW:∀{bs:List UInt8} {l:List Ext} {p:Int},(Bo l p bs).length≤l.length+bs.length
 | [],l,p=>by simp[Bo]
 | b::r,l,p=>by
  unfold Bo;have h1:=mW (bs:=r) (l:=Dt l p [b]) (p:=p+1);have h2:(Dt l p [b]).length=(DH l (p/8)).length:=by simp[Dt,Vk]
  have h3:=(QK l (p/8)).1;simp only[Ad7];omega
theorem Up {size:Int}:∀{b:List UInt8} {p:Int},cleanB size p b↔∀k:Nat,k<b.length→size≤p+k→b.getD k 0=0
 | [],p=>by simp[cleanB]
 | x::r,p=>by
  unfold cleanB;rw[Up]
  constructor
  ·rintro⟨h1,h2⟩ k hk hs
   cases k with
   | zero=>
    simp
    by_cases c:x=0
    ·exact c
    ·have:=h1 c;omega
   | succ k=>
    have:=h2 k (by simpa using hk) (by omega)
    simpa using this
  ·intro h
   refine⟨λhx=>?_,λk hk hs=>?_⟩
   ·have:=h 0 (by simp)
    simp at this
    by_cases c:p<size
    ·exact c
    ·exact absurd (this (by omega)) hx
   ·have:=h (k+1) (by simpa using hk) (by omega)
    simpa using this
theorem Uq {size:Int}{x:Ext}:Gu size x↔∀k:Nat,k<8→size≤x.no*8+k→x.b.getD k 0=0:=by
 have:=Up (size:=size) (b:=x.b) (p:=x.no*8)
 rw[x.hb]at this;exact this
theorem cX {size:Int}:∀{l:List Ext} {p:Int},okL size p l↔srt l∧∀x∈l,p<x.no∧x.no<137438953472∧Gu size x
 | [],p=>by simp[okL,srt]
 | x::r,p=>by
  rw[Nw,cX]
  constructor
  ·rintro⟨h1,h2,h3,h4,h5⟩
   refine⟨Ae4.2 ⟨λy hy=>(h5 y hy).1,h4⟩,λy hy=>?_⟩;rcases Ad5.1 hy with rfl | hy
   ·exact⟨h1,h2,h3⟩
   ·have:=h5 y hy;exact⟨by omega,this.2⟩
  ·rintro⟨h1,h2⟩
   have h1':=Ae4.1 h1;have h3:=h2 x (by simp);refine⟨h3.1,h3.2.1,h3.2.2,h1'.2,λy hy=>?_⟩
   have:=h2 y (by simp[hy])
   exact⟨h1'.1 y hy,this.2⟩
theorem tJ {size:Int}{l:List Ext}:okL size (-1) l↔srt l∧(∀no,Bb l no→0≤no∧no<137438953472)∧∀p,size≤p→E4 l p=0:=by
 rw[cX]
 constructor
 ·rintro⟨hs,h⟩
  refine⟨hs,?_,λp hp=>?_⟩
  ·rintro no ⟨x,hx,rfl⟩
   have:=h x hx;omega
  ·by_cases c:Bb l (p/8)
   ·obtain⟨x,hx,e⟩:=c
    rw[Kl hs hx e];exact Uq.1 (h x hx).2.2 _ (by omega) (by omega)
   ·exact CE c
 ·rintro⟨hs,h1,h2⟩
  refine⟨hs,λx hx=>?_⟩
  have:=h1 x.no ⟨x,hx,rfl⟩
  refine⟨by omega,this.2,Uq.2 λk hk hz=>?_⟩;rw[← ZJ hs hx hk];exact h2 _ hz
def E2 (x:Ext)(a b:Int):Ext:=⟨x.no,x.b.mapIdx λk y=>if a≤x.no*8+(k:Int)∧x.no*8+(k:Int)<b then 0 else y,by have:=x.hb;simpa using this⟩
theorem IR {x:Ext}{a b:Int}{k:Nat}(hk:k<8):(E2 x a b).b.getD k 0=if a≤x.no*8+(k:Int)∧x.no*8+(k:Int)<b then 0 else x.b.getD k 0:=by
 have hb:=x.hb;unfold E2;simp only[Ac8,List.getElem?_mapIdx];rw[DR (show k<x.b.length by omega)];rfl
def Pe (l:List Ext)(a b:Int):List Ext:=l.map λx=>E2 x a b
theorem V0 {l:List Ext}(hs:srt l)(a b:Int):srt (Pe l a b):=dR (λ_ _=>rfl) hs
theorem Vz {l:List Ext}{a b no:Int}:Bb (Pe l a b) no↔Bb l no:=cR (f:=λx=>E2 x a b) (λ_ _=>rfl)
theorem dU {l:List Ext}(hs:srt l)(a b p:Int):E4 (Pe l a b) p=if a≤p∧p<b then 0 else E4 l p:=by
 by_cases h:Bb l (p/8)
 ·obtain⟨x,hx,e⟩:=h
  rw[Kl (x:=E2 x a b) (V0 hs a b) (Ae6.2 ⟨x,hx,rfl⟩) e,Kl hs hx e,IR (by omega)];rw[show x.no*8+((p % 8).toNat:Int)=p by omega]
 ·rw[CE h,CE (by rw[Vz];exact h)];split<;>rfl
theorem Jm {l:List Ext}(hs:srt l)(f:Ext→Bool):srt (l.filter f):=List.Pairwise.filter f hs
theorem L3 {l:List Ext}{f:Int→Bool}{no:Int}:Bb (l.filter λx=>f x.no) no↔Bb l no∧f no=true:=by
 unfold Bb
 constructor
 ·rintro⟨x,hx,rfl⟩
  rw[Ak3]at hx;exact⟨⟨x,hx.1,rfl⟩,hx.2⟩
 ·rintro⟨⟨x,hx,rfl⟩,h⟩
  exact⟨x,Ak3.2 ⟨hx,h⟩,rfl⟩
theorem Wo {l:List Ext}(hs:srt l){f:Int→Bool}(p:Int):E4 (l.filter λx=>f x.no) p=if f (p/8)=true then E4 l p else 0:=by
 by_cases h:Bb l (p/8)
 ·obtain⟨x,hx,e⟩:=h
  split
  ·rename_i c
   rw[Kl (Jm hs _) (Ak3.2 ⟨hx,by rw[e];exact c⟩) e,Kl hs hx e]
  ·rename_i c
   exact CE (λh2=>c (L3.1 h2).2)
 ·rw[CE h,CE (λh2=>h (L3.1 h2).1)];split<;>rfl
def Dy (l:List Ext)(size:Int):List Ext:=Pe (l.filter λx=>decide (x.no*8<size)) size 1099511627776
theorem Vy {l:List Ext}(hs:srt l)(size:Int):srt (Dy l size):=V0 (Jm hs _) _ _
theorem Vx {l:List Ext}{size no:Int}:Bb (Dy l size) no↔Bb l no∧no*8<size:=by
 unfold Dy;rw[Vz,L3 (f:=λno=>decide (no*8<size))];simp
theorem dT {l:List Ext}(hs:srt l){size:Int}(h:∀no,Bb l no→no<137438953472)(p:Int):E4 (Dy l size) p=if p<size then E4 l p else 0:=by
 unfold Dy;rw[dU (Jm hs _),Wo hs (f:=λno=>decide (no*8<size))]
 by_cases c:p<size
 ·rw[if_neg (by omega),if_pos c,if_pos (by simp;omega)]
 ·rw[if_neg c]
  by_cases c2:p<1099511627776
  ·rw[if_pos ⟨by omega,c2⟩]
  ·rw[if_neg (by omega),CE]
   ·split<;>rfl
   ·intro h2;have:=h _ h2;omega
def gone (pos n no:Int):Bool:=decide (pos≤no*8)&&decide (no*8+8≤pos+n)
def Kp (l:List Ext)(pos n:Int):List Ext:=Pe (l.filter λx=>!gone pos n x.no) pos (pos+n)
theorem tO {l:List Ext}(hs:srt l)(pos n:Int):srt (Kp l pos n):=V0 (Jm hs _) _ _
theorem tN {l:List Ext}{pos n no:Int}:Bb (Kp l pos n) no↔Bb l no∧¬(pos≤no*8∧no*8+8≤pos+n):=by
 unfold Kp;rw[Vz,L3 (f:=λno=>!gone pos n no)];simp[gone];intro _;omega
theorem xD {l:List Ext}(hs:srt l)(pos n p:Int):E4 (Kp l pos n) p=if pos≤p∧p<pos+n then 0 else E4 l p:=by
 unfold Kp;rw[dU (Jm hs _),Wo hs (f:=λno=>!gone pos n no)]
 split
 ·rfl
 ·rename_i c
  split
  ·rfl
  ·rename_i c2
   simp[gone]at c2;omega
def FU (l:List Ext)(no:Int):Nat→List Ext
 | 0=>l
 | k+1=>FU (DH l no) (no+1) k
theorem aJ:∀{k:Nat} {l:List Ext} (hs:srt l) (no:Int),srt (FU l no k)
 | 0,l,hs,no=>hs
 | k+1,l,hs,no=>aJ (k:=k) (HG hs no) (no+1)
theorem lN:∀{k:Nat} {l:List Ext} {no a:Int},Bb (FU l no k) a↔Bb l a∨(no≤a∧a<no+k)
 | 0,l,no,a=>by unfold FU;exact⟨.inl,λh=>h.elim id λh=>by omega⟩
 | k+1,l,no,a=>by
  unfold FU;rw[lN,Nt]
  constructor
  ·rintro((h | h) | h)
   ·exact .inl h
   ·exact .inr (by omega)
   ·exact .inr (by omega)
  ·rintro(h | h)
   ·exact .inl (.inl h)
   ·by_cases c:a=no
    ·exact .inl (.inr c)
    ·exact .inr (by omega)
theorem qO:∀{k:Nat} {l:List Ext} (hs:srt l) (no p:Int),E4 (FU l no k) p=E4 l p
 | 0,l,hs,no,p=>rfl
 | k+1,l,hs,no,p=>by
  unfold FU;rw[qO (HG hs no),cT hs]
theorem cV:∀{k:Nat} {l:List Ext} {no:Int},FU l no (k+1)=DH (FU l no k) (no+k)
 | 0,l,no=>by simp[FU]
 | k+1,l,no=>by
  show FU (DH l no) (no+1) (k+1)=_
  rw[cV (k:=k)]
  show DH (FU (DH l no) (no+1) k) (no+1+k)=DH (FU (DH l no) (no+1) k) (no+(k+1:Nat))
  congr 1;omega
theorem aI:∀{k:Nat} {l:List Ext} {no:Int},(FU l no k).length≤l.length+k∧l.length≤(FU l no k).length
 | 0,l,no=>by simp[FU]
 | k+1,l,no=>by
  unfold FU;have h1:=aI (k:=k) (l:=DH l no) (no:=no+1);have h2:=QK l no;omega
def allocN (pos n:Int):Nat:=((pos+n - 1)/8 - pos/8+1).toNat
def Pi (l:List Ext)(pos n:Int):List Ext:=FU l (pos/8) (allocN pos n)
abbrev Gr:=Int×List Ext
def DE (c:Gr)(pos:Int)(bs:List UInt8):Option Gr:=
 if Cs c.1 c.2∧0≤pos∧bs.length≤4096∧pos≤1099511627776 - bs.length then some (if bs=[]then c else(max c.1 (pos+bs.length),Bo c.2 pos bs))else none
def Cl (c:Gr)(size:Int):Option Gr:=if Cs c.1 c.2∧0≤size∧size≤1099511627776 then some (size,Dy c.2 size)else none
def Gt (c:Gr)(pos n:Int)(keep:Bool):Option Gr:=
 if Cs c.1 c.2∧0≤pos∧1≤n∧n≤32768∧pos≤1099511627776 - n then some (if keep then c.1 else max c.1 (pos+n),Pi c.2 pos n)else none
def Ih (c:Gr)(pos n:Int):Option Gr:=
 if Cs c.1 c.2∧0≤pos∧1≤n∧n≤1099511627776∧pos≤1099511627776 - n then some (c.1,Kp c.2 pos n)else none
theorem Dw {size:Int}{l:List Ext}:Cs size l↔0≤size∧size≤1099511627776∧srt l∧(∀no,Bb l no→0≤no∧no<137438953472)∧∀p,size≤p→E4 l p=0:=by
 unfold Cs;rw[tJ]
theorem NQ {c d:Gr}{pos:Int}{bs:List UInt8}(h:DE c pos bs=some d):Cs d.1 d.2:=by
 unfold DE at h;split at h
 ·rename_i g
  injection h with h;subst h
  split
  ·exact g.1
  ·rename_i hb
   have hlen:0<bs.length:=List.length_pos_iff.2 hb;obtain⟨g1,g2,g3,g4⟩:=g;rw[Dw]at g1⊢;obtain⟨a1,a2,a3,a4,a5⟩:=g1;refine⟨by simp only;omega,by simp only;omega,XL a3 pos,?_,?_⟩
   ·intro no hno
    rcases PC.1 hno with h | ⟨q,h1,h2,h3⟩
    ·exact a4 no h
    ·omega
   ·intro p hp
    simp only at hp;rw[Z3 a3,if_neg (by omega)];exact a5 p (by omega)
 ·cases h
theorem gF {c d:Gr}{size:Int}(h:Cl c size=some d):Cs d.1 d.2:=by
 unfold Cl at h;split at h
 ·rename_i g
  injection h with h;subst h;obtain⟨g1,g2,g3⟩:=g;rw[Dw]at g1⊢;obtain⟨a1,a2,a3,a4,a5⟩:=g1;refine⟨g2,g3,Vy a3 size,λno hno=>a4 no (Vx.1 hno).1,λp hp=>?_⟩;rw[dT a3 (λno h=>(a4 no h).2),if_neg (by simp only at hp;omega)]
 ·cases h
theorem gD {c d:Gr}{pos n:Int}{keep:Bool}(h:Gt c pos n keep=some d):Cs d.1 d.2:=by
 unfold Gt at h;split at h
 ·rename_i g
  injection h with h;subst h;obtain⟨g1,g2,g3,g4,g5⟩:=g;rw[Dw]at g1⊢;obtain⟨a1,a2,a3,a4,a5⟩:=g1;refine⟨by simp only;split<;>omega,by simp only;split<;>omega,aJ a3 _,λno hno=>?_,λp hp=>?_⟩
  ·rcases lN.1 hno with h | h
   ·exact a4 no h
   ·unfold allocN at h;omega
  ·unfold Pi
   rw[qO a3];refine a5 p ?_;simp only at hp;split at hp<;>omega
 ·cases h
theorem gE {c d:Gr}{pos n:Int}(h:Ih c pos n=some d):Cs d.1 d.2:=by
 unfold Ih at h;split at h
 ·rename_i g
  injection h with h;subst h;obtain⟨g1,g2,g3,g4,g5⟩:=g;rw[Dw]at g1⊢;obtain⟨a1,a2,a3,a4,a5⟩:=g1;refine⟨a1,a2,tO a3 _ _,λno hno=>a4 no (tN.1 hno).1,λp hp=>?_⟩;rw[xD a3]
  split
  ·rfl
  ·exact a5 p hp
 ·cases h
theorem AM {v:AV}(h:AP v=true):oneA v=true:=by
 unfold AP at h;split at h
 ·rfl
 ·rfl
 ·rfl
 ·cases h
theorem Hd {α:Type}{enc:α→List AV}{sz:Nat}(hsz:∀x,(enc x).length=sz):∀(l:List α) (i:Nat),(l.flatMap enc).take (i*sz)=(l.take i).flatMap enc
 | [],i=>by simp
 | a::l,0=>by simp
 | a::l,i+1=>by
  have ha:=hsz a;rw[Ao1,Ae8,Ae8,← Hd hsz l i,show(i+1)*sz=(enc a).length+i*sz by rw[ha,Af6];omega,List.take_length_add_append]
abbrev Am2:=@List.drop_succ_cons
theorem Hb {α:Type}{enc:α→List AV}{sz:Nat}(hsz:∀x,(enc x).length=sz):∀(l:List α) (i:Nat),(l.flatMap enc).drop (i*sz)=(l.drop i).flatMap enc
 | [],i=>by simp
 | a::l,0=>by simp
 | a::l,i+1=>by
  have ha:=hsz a;rw[Am2,Ae8,← Hb hsz l i,show(i+1)*sz=(enc a).length+i*sz by rw[ha,Af6];omega,List.drop_length_add_append]
def Grew (H H':AH):Prop:=H.length≤H'.length∧∀i,i<H.length→H'[i]?=H[i]?
theorem Grew.refl (H:AH):Grew H H:=⟨Ac2 _,λ_ _=>rfl⟩
theorem Grew.trans {A B C:AH}(h:Grew A B)(k:Grew B C):Grew A C:=⟨Ad8 h.1 k.1,λi hi=>(k.2 i (Af0 hi h.1)).trans (h.2 i hi)⟩
theorem Grew.app (H X:AH):Grew H (H++X):=⟨by simp,λi hi=>Ab9 hi⟩
theorem Grew.cells {H H':AH}(h:Grew H H'){o:Nat}{x:Option AObj}(ho:H[o]?=some x):H'[o]?=some x:=by
 rw[h.2 o (BD.1 ho).1];exact ho
theorem Grew.slice {H H':AH}(h:Grew H H'){sz:Nat}{v:AV}{q:List AV×Nat}(hv:Aa H sz v=some q):Aa H' sz v=some q:=
 Ae hv λi hi=>h.2 i (A3 hv i hi)
theorem LC {H:AH}{sz:Nat}{v:AV}{cs:List AV}{n:Nat}(h:Aa H sz v=some (cs,n)):(v=Ad∧cs=[]∧n=0)∨V5 .eql On v Ad=some (B false):=by
 unfold Aa at h;split at h
 ·exact .inr rfl
 ·exact .inr rfl
 ·injection h with h;injection h with h1 h2;exact .inl ⟨rfl,h1.symm,h2.symm⟩
 ·exact .inr rfl
 ·cases h
theorem SH {H:AH}{v:AV}{cs:List AV}{n:Nat}(h:Aa H 9 v=some (cs,n))(hn:n≤1000000000):
  ∃r H',(AP r=true∧Aa H' 9 r=some (cs,n)∧Grew H H'∧∀i∈AU r,H.length≤i)∧BCall prog 95 [v] H r H':=GC (by
 unfold Ek;rcases LC h with⟨rfl,rfl,rfl⟩ | hb
 ·have e:V5 .eql On Ad Ad=some (B true):=rfl
  simp only[e,yV,Al];exact⟨rfl,h,Grew.refl H,by simp[AU]⟩
 ·simp only[hb,yV,Ag]
  have e:Cr H 9 0 (Be [(I 0),u0Z,u0Z,u0Z,u0Z,u0Z,u0Z,u0Z,u0Z] 0) []=some (.sl H.length 0 0 9 (.ex 0),H++[some (.cells [])]):=rfl;simp only[e,Az];have g:=Grew.app H [some (.cells [])];obtain⟨r,H2,a1,a2,a3,a4,a5,a6⟩:=CC (sz:=9) (bytes:=16) (H:=H++[some (.cells [])]) (v:=.sl H.length 0 0 9 (.ex 0)) (cs:=[]) (n:=0) (by simp[Aa]) rfl (AI (g.slice h)) (by omega);simp only[a1,Az];refine⟨a2,by simpa using a3,⟨by simp at a4;omega,λi hi=>?_⟩,λi hi=>?_⟩
  ·rw[a5 i (by simp;omega) (by simp[AU];omega)]
   exact g.2 i hi
  ·rcases a6 i hi with h | h
   ·simp[AU]at h;omega
   ·simp at h;omega)
theorem Qe {H:AH}{size:Int}{v:AV}{cs:List AV}{n:Nat}(h:Aa H 9 v=some (cs,n))(h1:oneA v=true)(hn:n≤1000000000):
  ∃r H',(∃w,r=.agg [I size,w]∧AP w=true∧Aa H' 9 w=some (cs,n)∧Grew H H'∧∀i∈AU w,H.length≤i)∧BCall prog 103 [.agg [I size,v]] H r H':=RQ (by
 unfold OI;have g:=Grew.app H [some (.cells [I size,v]),some (.cells [I 0,Ad])];obtain⟨w,H2,⟨a2,a3,a4,a5⟩,a1⟩:=SH (g.slice h) hn;have c0:=a4.cells (o:=H.length) (x:=some (.cells [I size,v])) (by simp);have c1:=a4.cells (o:=H.length+1) (x:=some (.cells [I 0,Ad])) (by rw[Ac4 (by omega)];simp);have l2:H.length+2≤H2.length:=by have:=a4.1;simpa using this
 have hw:=AM a2;simp[h1];refine bC_of a1 ?_;simp[AS hw];rw[AC (n:=2) (off:=0) (x:=.agg [I size,w]) (xs:=[I size,w]) (cs:=[I 0,Ad]) (by simp[hw]) c1 rfl (by simp)];simp[show H.length+1<H2.length by omega,c0,Ao];refine⟨a2,Ae a3 λi hi=>C4 ?_,?_,λi hi=>?_⟩
 ·have:=a5 i hi;simp at this;omega
 ·refine⟨by simp;omega,λi hi=>?_⟩
  rw[C4 (by omega),a4.2 i (by simp;omega),g.2 i hi]
 ·have:=a5 i hi;simp at this;omega)
theorem oU {H:AH}{s:AV}{cs:List AV}{n ov i:Nat}{x:Ext}(hs:Aa H 9 s=some (cs,n))(ho:AP s=true)(hi:i≤n)(hn:n≤100000000)(hv:H[ov]?=some (some (.cells (Ax x))))(hne:ov∉AU s):
  ∃r H',uW H s (cs.take (i*9)++Ax x++cs.drop (i*9)) n r H'∧BCall prog 222 [s,I i,.sl ov 0 1 9 (.ex 1)] H r H':=by
 have hcl:=Cf hs;rcases Ac5 i n with h | h
 ·obtain⟨o,off,cap,cells,rfl,h1,h2,rfl⟩:=HL hs ho (by omega)
  have hov:ov≠o:=by simpa[AU]using hne
  have hol:=(BD.1 h1).1;have hxl:=A1 x;have e1:((cells.drop off).take (n*9)).take (i*9)=(cells.drop off).take (i*9):=by rw[Ah0];congr 1;omega
  have e2:((cells.drop off).take (n*9)).drop (i*9)=(cells.drop (off+i*9)).take ((n - i)*9):=by rw[Ak0,Ag3];congr 1;omega
  refine⟨_,_,?_,kQ h1 h2 h hn hv hov⟩;rw[e1,e2];refine⟨rfl,?_,by simp,λj hj hn=>?_,λj hj=>.inr (by simp[AU]at hj;omega)⟩
  ·rw[A9 (c:=(cells.drop off).take (i*9)++Ax x++(cells.drop (off+i*9)).take ((n - i)*9)) (by rw[Ac4 (by simp)];simp) (by simp;omega)]
   rw[Ad9,Ac1 (by simp;omega)]
  ·rw[Ab9 (by simpa using hj),C4 (by simp[AU]at hn;omega)]
 ·have:i=n:=by omega
  subst this;obtain⟨r,H',h1,h2⟩:=kP hs ho hn hv;refine⟨r,H',?_,h2⟩;rw[Ac1 (by omega),Ad2 (by omega),Af1];exact h1
def qA (H:AH)(oc:Nat)(size:Int)(v:AV)(l:List Ext)(H':AH):Prop:=
 ∃v',H'[oc]?=some (some (.cells [I size,v']))∧Aa H' 9 v'=some (l.flatMap Ax,l.length)∧AP v'=true∧oc∉AU v'∧H.length≤H'.length∧(∀i,i<H.length→i≠oc→i∉AU v→H'[i]?=H[i]?)∧∀i∈AU v',i∈AU v∨H.length≤i
theorem YF (no:Int):Ax (QL no)=[I no,.lit (.int .u8 0),.lit (.int .u8 0),.lit (.int .u8 0),.lit (.int .u8 0),.lit (.int .u8 0),.lit (.int .u8 0),.lit (.int .u8 0),.lit (.int .u8 0)]:=rfl
theorem Na {H:AH}{oc:Nat}{size no:Int}{v:AV}{l:List Ext}(hc:H[oc]?=some (some (.cells [I size,v])))(hv:Aa H 9 v=some (l.flatMap Ax,l.length))(ho:AP v=true)(hne:oc∉AU v)(hs:srt l)(hl:l.length≤100000000):
  ∃H',qA H oc size v (DH l no) H'∧BCall prog 202 [.ptr oc 0,I no] H (I (posL l no)) H':=by
 have key:∃r H',(r=I (posL l no)∧qA H oc size v (DH l no) H')∧BCall prog 202 [.ptr oc 0,I no] H r H':=UB (by
  unfold SL;have hol:=(BD.1 hc).1;obtain⟨R,hR,fR⟩:=FZ.sv hv (De λx _=>ET x);have h1:=AM ho;simp[hc];refine bP_of (PCall.lend (FZs.cons fR (FZs.cons (FZ.lit _) FZs.nil)) rfl (UC hR hs (by omega) no)) ?_;simp
  by_cases hh:Bb l no
  ·have e:DH l no=l:=if_pos hh
   simp[hh];rw[JT];unfold Ha;rw[e];exact⟨rfl,v,hc,hv,ho,hne,Ac2 _,λ_ _ _ _=>rfl,λi hi=>.inl hi⟩
  ·have e:DH l no=l.take (posL l no)++QL no::l.drop (posL l no):=if_neg hh
   simp[hh];have g:=Grew.app H [some (.cells (Ax (QL no)))];obtain⟨r,H2,⟨b1,b2,b3,b4,b5⟩,a1⟩:=oU (x:=QL no) (ov:=H.length) (g.slice hv) ho (TV l no) hl (by simp) (λh=>by have:=A3 hv _ h;omega);rw[← YF];refine bC_of a1 ?_
   have c2:H2[oc]?=some (some (.cells [I size,v])):=by
    rw[b4 oc (by simp;omega) hne];exact g.cells hc
   have hr:=AM b1;have hol2:=(BD.1 c2).1;rw[AC (n:=1) (off:=1) (xs:=[r]) (cs:=[I size,v]) (AS hr) c2 rfl (by simp)];simp;rw[JT];unfold Ha;have hoc:oc∉AU r:=λh=>(b5 oc h).elim hne (λh=>by simp at h;omega)
   refine⟨rfl,r,by simp[hol2],?_,b1,hoc,by simp at b3;simp;omega,λi hi h1 h2=>?_,λi hi=>(b5 i hi).imp id (λh=>by simp at h;omega)⟩
   ·rw[Ae b2 (λi hi=>C4 (fun (h:oc=i)=>hoc (h▸hi)))]
    rw[Hd A1,Hb A1,e,Ag4,Ae8,Ad3]
    have:=TV l no
    simp;omega
   ·rw[C4 (by omega),b4 i (by simp;omega) h2]
    exact g.2 i hi)
 obtain⟨r,H',⟨rfl,h1⟩,h2⟩:=key;exact⟨H',h1,h2⟩
section
variable {κ α : Type} {c : κ→κ→Int} {key : α→κ}
theorem WF (hc:KO c){l:List α}{x:α}:Cb c key (l++[x])↔Cb c key l∧∀y,l.getLast?=some y→c (key y) (key x)<0:=by
 unfold Cb;rw[Aj5]
 constructor
 ·rintro⟨h1,-,h3⟩
  exact⟨h1,λy hy=>h3 y (List.mem_of_getLast? hy) x (by simp)⟩
 ·rintro⟨h1,h2⟩
  refine⟨h1,List.pairwise_singleton _ _,λa ha b hb=>?_⟩;rw[Ag2]at hb;subst hb;obtain⟨m,hm⟩:=Ad6.1 ha;have hl:=(BD.1 hm).1;have hy:l.getLast?=some (l[l.length - 1]):=by rw[List.getLast?_eq_getElem?,DR (by omega)]
  have h3:=h2 _ hy;rcases Ac5 m (l.length - 1)with h | h
  ·exact hc.trans _ _ _ (J2 h1 hm (DR (by omega)) h) h3
  ·have:m=l.length - 1:=by omega
   subst this;rw[DR (by omega)]at hm;injection hm with hm;rw[← hm];exact h3
end
def iG (l:List Nm):Prop:=(∀x∈l,G5 x.name∧1≤x.ino∧x.ino≤4611686018427387904)∧Cb Bg Nm.name l∧(l.map Nm.ino).Nodup
instance (l:List Nm):Decidable (iG l):=by unfold iG;infer_instance
def QH (l:List Nm):Prop:=l.length≤16∧iG l
instance (l:List Nm):Decidable (QH l):=by unfold QH;infer_instance
abbrev Af7:=@List.mem_map_of_mem
theorem Vd {l:List Nm}{x:Nm}:iG (l++[x])↔iG l∧(G5 x.name∧(∀y,l.getLast?=some y→Bg y.name x.name<0)∧1≤x.ino∧x.ino≤4611686018427387904∧¬AO Nm.ino l x.ino):=by
 unfold iG;rw[WF koN,Ag8,List.nodup_append];simp only[zH,Aa8,Ai9,List.not_mem_nil,not_false_eq_true,Ao2,and_self,true_and]
 constructor
 ·rintro⟨h1,⟨h2,h3⟩,h4,h5⟩
  refine⟨⟨λy hy=>h1 y (.inl hy),h2,h4⟩,(h1 x (.inr rfl)).1,h3,(h1 x (.inr rfl)).2.1,(h1 x (.inr rfl)).2.2,?_⟩;rintro⟨y,hy,e⟩;exact h5 y.ino (Af7 hy) x.ino rfl e
 ·rintro⟨⟨h1,h2,h4⟩,h5,h6,h7,h8,h9⟩
  refine⟨?_,⟨h2,h6⟩,h4,?_⟩
  ·rintro y (hy | rfl)
   ·exact h1 y hy
   ·exact⟨h5,h7,h8⟩
  ·rintro a ha b rfl e
   obtain⟨y,hy,e2⟩:=Ae6.1 ha;exact h9 ⟨y,hy,by rw[e2,e]⟩
theorem pA {a b:List Nm}(h:iG (a++b)):iG a:=by
 unfold iG at h⊢;refine⟨λx hx=>h.1 x (by simp[hx]),(Aj5.1 h.2.1).1,?_⟩
 have:=h.2.2
 rw[Ag8,List.nodup_append]at this;exact this.1
def Sf (l:List Nm):List (Int×AV):=l.map λx=>(x.ino,B true)
theorem Ww (l:List Nm)(k:Int):YO (B false) (Sf l) k=B (decide (AO Nm.ino l k)):=by
 induction l with
 | nil=>simp[YO,Sf,AO]
 | cons a l ih=>
  unfold YO Sf at ih⊢;rw[Aj7]
  by_cases h:a.ino=k
  ·rw[List.find?_cons_of_pos (by simp[h])]
   have:AO Nm.ino (a::l) k:=⟨a,by simp,h⟩;simp[this]
  ·rw[List.find?_cons_of_neg (by simp[h]),ih]
   have:AO Nm.ino (a::l) k↔AO Nm.ino l k:=by
    unfold AO;simp[h]
   simp[this]
theorem gQ {l:List Nm}{x:Nm}(h:¬AO Nm.ino l x.ino):pH (Sf l) x.ino (B true)=Sf (l++[x]):=by
 unfold pH
 have:(Sf l).findIdx? (λp=>p.1==x.ino)=none:=by
  rw[Aj3];intro p hp;obtain⟨y,hy,rfl⟩:=Ae6.1 hp;simp only[beq_eq_false_iff_ne,ne_eq];exact λe=>h ⟨y,hy,e⟩
 rw[this];simp[Sf]
def uX (H:AH)(l:List Nm)(r:AV)(H':AH):Prop:=Grew H H'∧
 (QH l→∃o,r=.tup [.mp o,B true]∧H'[o]?=some (some (.map (RO (Sf l)))))∧(¬QH l→r=.tup [.lit (.map none),B false])
theorem oY {H:AH}{l:List Nm}{v:AV}(hv:SV Cy 2 l v)(hl:l.length≤281474976710656)(hs:∀x∈l,x.name.length≤9223372036854775807):∃r H',uX H l r H'∧BCall prog 91 [v] H r H':=US (by
 unfold SS
 by_cases h16:l.length≤16
 ·have e16:¬(16:Int)<l.length:=by omega
  simp[hv.len,e16];refine Om (λn x0 x4 x11 x12 x13 H'=>∃k:Nat,k+n=l.length∧x0=v∧x4=.mp H.length∧x11=v∧x12=I l.length∧x13=I k∧Grew H H'∧H'[H.length]?=some (some (.map (RO (Sf (l.take k)))))∧iG (l.take k)) ?_ l.length ⟨0,by omega,rfl,rfl,rfl,rfl,rfl,Grew.app _ _,by simp;rfl,by simp[iG,Cb]⟩;rintro n x0 x4 x11 x12 x13 H' R hR ⟨k,hk,rfl,rfl,rfl,rfl,rfl,hg,hm,hok⟩;unfold KS;rcases Ac5 k l.length with h | h
  ·have hx:=DR h
   generalize l[k]=x at hx;have htk:l.take (k+1)=l.take k++[x]:=by rw[Ah8,hx];rfl
   have hgt:∀y,(l.take k).getLast?=some y↔0<k∧l[k - 1]?=some y:=by
    intro y;rw[List.getLast?_eq_getElem?,Ac0,Ai2 (by omega),Ac9]
    by_cases c:0<k
    ·rw[if_pos (by omega)];exact⟨λh=>⟨c,h⟩,λh=>h.2⟩
    ·rw[if_neg (by omega)];exact⟨λh=>(by cases h),λh=>absurd h.1 c⟩
   have hstep:QH l→G5 x.name∧(∀y,0<k∧l[k - 1]?=some y→Bg y.name x.name<0)∧1≤x.ino∧x.ino≤4611686018427387904∧¬AO Nm.ino (l.take k) x.ino:=by
    rintro⟨-,ho⟩;rw[← Af3 (k+1) l,htk]at ho
    have:=(Vd.1 (pA ho)).2
    simpa only[hgt]using this
   have hsx:=hs x (Ac3 hx);have g1:=Grew.app H' [some (.cells (Cy x))];have c1:(H'++[some (AObj.cells [S (A0 x.name),I x.ino])])[H.length]?=some (some (.map (RO (Sf (l.take k))))):=g1.cells hm
   have ea:AT 2 (H'++[some (.cells [S (A0 []),I 0])]) (.ptr H'.length 0) (.agg (Cy x))=some (H'++[some (.cells (Cy x))]):=by
    simp[AT,Cy,AR]
   simp[h,hv.idx Eu hx rfl,mA,Yt,ea];simp[Cy];refine bP_of (NB (s:=x.name) (by omega)) ?_;have hno:¬(G5 x.name∧(∀y,0<k∧l[k - 1]?=some y→Bg y.name x.name<0)∧1≤x.ino∧x.ino≤4611686018427387904∧¬AO Nm.ino (l.take k) x.ino)→uX H l (.tup [.lit (.map none),B false]) (H'++[some (.cells (Cy x))]):=λhn=>⟨hg.trans g1,λhh=>absurd (hstep hh) hn,λ_=>rfl⟩
   have key:(∀y,0<k∧l[k - 1]?=some y→Bg y.name x.name<0)→G5 x.name→True:=λ_ _=>trivial
   by_cases a1:G5 x.name
   ·have hal:nD (.int .i64) (.bool false) (H'++[some (AObj.cells [S (A0 x.name),I x.ino])]) (.mp H.length) (I x.ino) false=some (B (decide (AO Nm.ino (l.take k) x.ino))):=by
     rw[bU c1];exact congrArg some (Ww _ _)
    have ham:¬AO Nm.ino (l.take k) x.ino→uK (.int .i64) (H'++[some (AObj.cells [S (A0 x.name),I x.ino])]) (.mp H.length) (I x.ino) (B true)=some ((H'++[some (AObj.cells [S (A0 x.name),I x.ino])]).set H.length (some (.map (RO (Sf (l.take k++[x])))))):=λhn=>by
     rw[nY c1,gQ hn]
    have hol:H.length<H'.length:=(BD.1 hm).1;rcases Ak2 k with h0 | hk0
    ·have e0:¬0<k:=by omega
     have a5:∀y,(l.take k).getLast?=some y→Bg y.name x.name<0:=λy hy=>by have:=(hgt y).1 hy;omega
     by_cases a2:x.ino<1
     ·simp[a1,e0,a2]
      exact hno λhh=>by omega
     ·by_cases a3:4611686018427387904<x.ino
      ·simp[a1,e0,a2,a3]
       exact hno λhh=>by omega
      ·by_cases a4:AO Nm.ino (l.take k) x.ino
       ·simp[a1,e0,a2,a3,hal,a4]
        exact hno λhh=>hh.2.2.2.2 a4
       ·simp[a1,e0,a2,a3,hal,a4,ham a4,Aw (a:=(k:Nat)) (b:=1) (by omega) (by omega)]
        refine hR (n - 1) _ _ _ _ _ _ (by omega) ⟨k+1,by omega,rfl,rfl,rfl,rfl,by simp,⟨Ad8 (hg.trans g1).1 (Am7 List.length_set.symm),λi hi=>(C4 (by omega)).trans ((hg.trans g1).2 i hi)⟩,by rw[htk,JW (by simp;omega)],by rw[htk,Vd];exact⟨hok,a1,a5,by omega,by omega,a4⟩⟩
    ·have e0:0<k:=hk0
     have hy:=DR (l:=l) (i:=k - 1) (by omega);generalize l[k - 1]=y at hy;have es:Ap .sub (I k) (I 1)=some (I ((k - 1:Nat):Int)):=by rw[BM (by omega) (by omega)];congr 3;omega
     have ei:=hv.idx Eu hy (i:=((k - 1:Nat):Int)) rfl
     by_cases a6:Bg y.name x.name<0
     ·have a5:∀y,(l.take k).getLast?=some y→Bg y.name x.name<0:=λz hz=>by have:=((hgt z).1 hz).2;rw[hy]at this;injection this with this;rw[← this];exact a6
      by_cases a2:x.ino<1
      ·simp[a1,e0,es,ei,U1,PG,a6,a2]
       exact hno λhh=>by omega
      ·by_cases a3:4611686018427387904<x.ino
       ·simp[a1,e0,es,ei,U1,PG,a6,a2,a3]
        exact hno λhh=>by omega
       ·by_cases a4:AO Nm.ino (l.take k) x.ino
        ·simp[a1,e0,es,ei,U1,PG,a6,a2,a3,hal,a4]
         exact hno λhh=>hh.2.2.2.2 a4
        ·simp[a1,e0,es,ei,U1,PG,a6,a2,a3,hal,a4,ham a4,Aw (a:=(k:Nat)) (b:=1) (by omega) (by omega)]
         refine hR (n - 1) _ _ _ _ _ _ (by omega) ⟨k+1,by omega,rfl,rfl,rfl,rfl,by simp,⟨Ad8 (hg.trans g1).1 (Am7 List.length_set.symm),λi hi=>(C4 (by omega)).trans ((hg.trans g1).2 i hi)⟩,by rw[htk,JW (by simp;omega)],by rw[htk,Vd];exact⟨hok,a1,a5,by omega,by omega,a4⟩⟩
     ·simp[a1,e0,es,ei,U1,PG,a6]
      exact hno λhh=>a6 (hh.2.1 y ⟨hk0,hy⟩)
   ·simp[a1]
    exact hno λhh=>a1 hh.1
  ·have:l.take k=l:=Ac1 (by omega)
   rw[this]at hm hok;simp[show ¬k<l.length by omega];exact⟨hg,λ_=>⟨_,rfl,hm⟩,λhn=>absurd ⟨h16,hok⟩ hn⟩
 ·have e16:(16:Int)<l.length:=by omega
  have:¬QH l:=λh=>h16 h.1
  simp[hv.len,e16];exact⟨Grew.refl _,λh=>absurd h this,λ_=>rfl⟩)
end
section
def lO (ns:List Nm)(ds:List Nd):Prop:=Cb Cc Nd.ino ds∧∀d∈ds,AO Nm.ino ns d.ino∧Cs d.size d.l
instance (ns:List Nm) (ds:List Nd):Decidable (lO ns ds):=by unfold lO;infer_instance
def Km (ns:List Nm)(ds:List Nd):Prop:=QH ns∧ds.length=ns.length∧lO ns ds
instance (ns:List Nm) (ds:List Nd):Decidable (Km ns ds):=by unfold Km;infer_instance
def Sm (ns:List Nm)(ds:List Nd):Prop:=ns.length≤100000∧ds.length≤100000∧(∀x∈ns,x.name.length≤9223372036854775807)∧∀d∈ds,d.l.length≤1000000
def ImV (ns:List Nm)(ds:List Nd)(v:AV):Prop:=∃a b dv,v=.agg [a,b]∧SV Cy 2 ns a∧SV BY 3 dv b∧dv.map NdV.nd=ds
theorem ImV.noIds {ns:List Nm}{ds:List Nd}{v:AV}(h:ImV ns ds v):A6 [v]=true:=by
 obtain⟨a,b,dv,rfl,h1,h2,rfl⟩:=h;simp[A6,Av.noIds,h1.1,h2.1]
theorem Zc {ns:List Nm}{ds:List Nd}{d:Nd}:lO ns (ds++[d])↔lO ns ds∧(∀y,ds.getLast?=some y→y.ino<d.ino)∧AO Nm.ino ns d.ino∧Cs d.size d.l:=by
 unfold lO;rw[WF koI];simp only[Xh,zH]
 constructor
 ·rintro⟨⟨h1,h2⟩,h3⟩
  exact⟨⟨h1,λy hy=>h3 y (.inl hy)⟩,h2,h3 d (.inr rfl)⟩
 ·rintro⟨⟨h1,h3⟩,h2,h4⟩
  refine⟨⟨h1,h2⟩,?_⟩;rintro y (hy | rfl)
  ·exact h3 y hy
  ·exact h4
theorem oZ {ns:List Nm}{a b:List Nd}(h:lO ns (a++b)):lO ns a:=
 ⟨(Aj5.1 h.1).1,λd hd=>h.2 d (by simp[hd])⟩
theorem S3 {α:Type}{l:List α}{k:Nat}{x:α}(hx:l[k]?=some x):l.take (k+1)=l.take k++[x]:=by rw[Ah8,hx];rfl
theorem XS {ns:List Nm}{ds:List Nd}{v:AV}(hv:ImV ns ds v)(hb:Sm ns ds):BPure prog 40 [v] (B (decide (Km ns ds))):=BPure.val hv.noIds rfl (Xs (by
 obtain⟨a,b,dv,rfl,ha,hbv,rfl⟩:=hv;have b1:=hb.1;have b2:=hb.2.1;rw[Ae9]at b2;unfold Wr;have oa:=SV.oneA ha;have ob:=SV.oneA hbv;simp[oa,ob];obtain⟨r,H5,⟨hg,hy,hn⟩,hc⟩:=oY (H:=[some (.cells [a,b])]) ha (by omega) (λx hx=>by have:=hb.2.2.1 x hx;omega);refine bC_of hc ?_;have c0:H5[0]?=some (some (.cells [a,b])):=hg.cells rfl
 by_cases hm:QH ns
 ·obtain⟨o,rfl,hmap⟩:=hy hm
  have hal:ZD H5 (.mp o)=some (I ns.length):=by
   simp[ZD,hmap,RO,Sf,goInt]
  simp[c0,hbv.len,hal]
  by_cases hlen:dv.length=ns.length
  ·have hlI:¬((dv.length:Int)≠ns.length):=by omega
   simp[hlen,c0,hbv.len];refine Q2 (λn x3 x5 x25 x26 x27 H'=>∃k:Nat,k+n=dv.length∧x3=.mp o∧(∃last:Int,x5=I last∧0≤last∧(∀y,(dv.take k).getLast?=some y→y.ino≤last)∧(last=0∨∃y,(dv.take k).getLast?=some y∧y.ino=last))∧x25=b∧x26=I ns.length∧x27=I k∧Grew H5 H'∧lO ns ((dv.take k).map NdV.nd)) ?_ dv.length ⟨0,by omega,rfl,⟨0,rfl,by omega,by simp,.inl rfl⟩,rfl,rfl,rfl,Grew.refl _,by simp[lO,Cb]⟩;rintro n x3 x5 x25 x26 x27 H' R hR ⟨k,hk,rfl,⟨last,rfl,hl0,hl1,hl2⟩,rfl,rfl,rfl,hg2,hok⟩;unfold Nl;rcases Ac5 k ns.length with h | h
   ·have hx:=DR (l:=dv) (i:=k) (by omega)
    generalize dv[k]=d at hx
    have ea:AT 3 (H'++[some (.cells [I 0,I 0,Ad])]) (.ptr H'.length 0) (.agg (BY d))=some (H'++[some (.cells (BY d))]):=by
     have:=SV.oneA d.h
     simp[AT,BY,AR,this]
    have g1:=Grew.app H' [some (.cells (BY d))];have c1:(H'++[some (AObj.cells [I d.nd.ino,I d.nd.size,d.R])])[o]?=some (some (.map (RO (Sf ns)))):=g1.cells (hg2.cells hmap)
    have hal2:nD (.int .i64) (.bool false) (H'++[some (AObj.cells [I d.nd.ino,I d.nd.size,d.R])]) (.mp o) (I d.nd.ino) false=some (B (decide (AO Nm.ino ns d.nd.ino))):=by
     rw[bU c1];exact congrArg some (Ww _ _)
    have hdl:d.nd.l.length≤281474976710656:=by
     have:=hb.2.2.2 d.nd (Af7 (Ac3 hx));omega
    have htk:=S3 hx
    have hstep:Km ns (dv.map NdV.nd)→last<d.nd.ino∧AO Nm.ino ns d.nd.ino∧Cs d.nd.size d.nd.l:=by
     rintro⟨-,-,ho⟩;rw[← Af3 (k+1) dv,htk,Ag8,Ag8]at ho;have h3:=(Zc.1 (oZ ho)).2;refine⟨?_,h3.2⟩;rcases hl2 with rfl | ⟨y,hy,rfl⟩
     ·obtain⟨x,hx,e⟩:=h3.2.1
      have:=(hm.2.1 x hx).2.1
      omega
     ·exact h3.1 y.nd (by rw[List.getLast?_map,hy];rfl)
    simp[h,hbv.idx D3 hx rfl,dJ,ea];simp[BY]
    by_cases a1:d.nd.ino≤last
    ·have:¬Km ns (dv.map NdV.nd):=λhh=>by have:=(hstep hh).1;omega
     simp[a1,this]
    ·by_cases a2:AO Nm.ino ns d.nd.ino
     ·simp[a1,hal2,a2,Ao]
      refine A4 (Fd d.h hdl) ?_
      by_cases a3:Cs d.nd.size d.nd.l
      ·simp[a3,Aw (a:=k) (b:=1) (by omega) (by omega)]
       refine hR (n - 1) _ _ _ _ _ _ (by omega) ⟨k+1,by omega,rfl,⟨d.nd.ino,rfl,by omega,?_,.inr ⟨d,by rw[htk];simp,rfl⟩⟩,rfl,rfl,by simp,hg2.trans g1,?_⟩
       ·intro y hy
        rw[htk]at hy;simp at hy;rw[← hy];exact Int.le_refl _
       ·rw[htk,Ag8]
        refine Zc.2 ⟨hok,λy hy=>?_,a2,a3⟩;rw[List.getLast?_map]at hy;obtain⟨z,hz,rfl⟩:=Option.map_eq_some_iff.1 hy;have h9:z.nd.ino≤last:=hl1 z hz
        show z.nd.ino<d.nd.ino
        omega
      ·have:¬Km ns (dv.map NdV.nd):=λhh=>a3 (hstep hh).2.2
       simp[a3,this]
     ·have:¬Km ns (dv.map NdV.nd):=λhh=>a2 (hstep hh).2.1
      simp[a1,hal2,a2,this]
   ·have e:dv.take k=dv:=Ac1 (by omega)
    rw[e]at hok;have:Km ns (dv.map NdV.nd):=⟨hm,by simp[hlen],hok⟩;simp[show ¬k<ns.length by omega,this]
  ·have:¬Km ns (dv.map NdV.nd):=λh=>hlen (by simpa using h.2.1)
   have hlI:((dv.length:Int)≠ns.length):=by omega
   simp[hlI,this]
 ·have:¬Km ns (dv.map NdV.nd):=λh=>hm h.1
  rw[hn hm];simp[this]))
end
end Go.Proofs.YtbppnhenlboefaaGreat.Av
