/- Texts of this proof, one behind the other, packed into one file by a program of this session. No condition. -/
import Derived.Test.YtbppnhenlboefaaGreatMpF
import Derived.ChangeArms
import Derived.DataElems
import Derived.DataReads
import Derived.KernelRfl
import Derived.Laws.IdiomStrings
import Derived.Lib.Bytealg
import Derived.Lib.Overlaps
import Derived.OpenShut
set_option linter.unusedVariables false
set_option linter.unusedSimpArgs false
set_option maxRecDepth 100000
namespace Go.Proofs.YtbppnhenlboefaaGreat.Av
open Go Go.RowKit Go.Proofs.Tryz
section
def Bp (l:List UInt8):List AV:=l.map λb=>.lit (.int .u8 b.toNat)
theorem oM (a b:List UInt8):Bp (a++b)=Bp a++Bp b:=by simp[Bp]
theorem BY (a:List UInt8):(Bp a).length=a.length:=by simp[Bp]
theorem PR (a:List UInt8)(n:Nat):(Bp a).take n=Bp (a.take n):=by simp[Bp]
theorem YH (a:List UInt8)(n:Nat):(Bp a).drop n=Bp (a.drop n):=by simp[Bp]
theorem X4 (a:List UInt8)(n:Nat):(Bp a)[n]?=(a[n]?).map λb=>.lit (.int .u8 b.toNat):=by simp[Bp]
def Ft (b:UInt8):List AV:=[.lit (.int .u8 b.toNat)]
theorem Aop (b:UInt8):(Ft b).length=1:=rfl
theorem Kn (l:List UInt8):l.flatMap Ft=Bp l:=by
 induction l with
 | nil=>rfl
 | cons a l ih=>rw[Al5,ih];rfl
theorem NI (l:List UInt8):AF (Bp l)=true:=by
 induction l with
 | nil=>rfl
 | cons a l ih=>simpa[Bp,AF,noIds]using ih
def Ax (l:List UInt8):ByteArray:=⟨l.toArray⟩
theorem PQ (l:List UInt8):(Ax l).size=l.length:=rfl
abbrev Ao9:=@List.drop_eq_getElem_cons
theorem Aoq (s:ByteArray):∀(n i:Nat) (r:List UInt8),s.size - i=n->ByteArray.toList.loop s i r=r.reverse++s.data.toList.drop i:=by
  intro n
  induction n with
  | zero=>
    intro i r h;unfold ByteArray.toList.loop
    rw [if_neg (by omega), List.drop_of_length_le (by have : s.data.toList.length = s.size := by rw [Array.length_toList]; rfl
                                                      omega)]
    simp
  | succ n ih=>
    intro i r h;unfold ByteArray.toList.loop;have a:i<s.size:=by omega
    rw[if_pos a,ih (i+1) _ (by omega)];have b:i<s.data.toList.length:=by rw[An3];exact a
    rw[Ao9 b];simp[ByteArray.get!,getElem!_def];have:s.data[i]?=some s.data[i]:=Aq1 a;simp[this]
theorem Aor (s:ByteArray):s.toList=s.data.toList:=by
 unfold ByteArray.toList;rw[Aoq s s.size 0 [] (by simp)];simp
theorem Kk (l:List UInt8):(Ax l).toList=l:=by rw[Aor];simp[Ax]
theorem yS (l:List UInt8):Xp (Bp l)=some (l.map λb=>(b.toNat:Int)):=by
 induction l with
 | nil=>rfl
 | cons a l ih=>
  have:Bp (a::l)=.lit (.int .u8 a.toNat)::Bp l:=rfl;rw[this];simp only[Xp,ih];rfl
theorem sG (l:List UInt8):fK (l.map λb=>(b.toNat:Int))=Ax l:=by
 unfold fK;rw[foldl_push_byteCells];unfold Ax;have:(ByteArray.empty.data++l.toArray)=l.toArray:=by
  apply Array.ext';simp[ByteArray.empty,ByteArray.emptyWithCapacity]
  try rfl
 rw[this]
theorem xZ {H:AH}{x:AV}{l:List UInt8}{n:Nat}(h:Ac H 1 x=some (Bp l,n)):Aap H x=some (S (Ax l)):=by
 unfold Aap;split
 ·simp[Ac]at h
 ·rw[h];simp only[yS];rw[<- sG];rfl
abbrev Ah4:=And.intro @Kk @Option.map_some.{0,0}
theorem DC {a b:List UInt8}:OX .eql (S (Ax a)) (S (Ax b))=some (B (decide (a=b))):=by
 simp only[OX,kJ,Ah4];by_cases h:a=b<;>simp[h]
theorem JR {a b:List UInt8}:OX .neq (S (Ax a)) (S (Ax b))=some (B (decide (a≠b))):=by
 simp only[OX,kJ,Ah4];by_cases h:a=b<;>simp[h]
theorem oA:(⟨#[]⟩:ByteArray)=Ax []:=rfl
theorem SV.bytes {l:List UInt8}{v:AV}(h:SV Ft 1 l v)(H:AH):Ac H 1 v=some (Bp l,l.length):=by rw[h.2 H,Kn]
theorem SV.noId {α:Type}{enc:α->List AV}{sz:Nat}{l:List α}{v:AV}(h:SV enc sz l v):Ba v=[]:=by
 have:=h.1;cases v<;>simp[Ba,noIds]at this|-
abbrev Ao2:=@List.getElem?_take_of_lt
theorem Aos {H:AH}{v:AV}{l:List UInt8}{n k:Nat}{i:Int}{b:UInt8}(h:Ac H 1 v=some (Bp l,n))(hi:i=k)(d:l[k]?=some b):∃p,AY 1 v (.lit (.int .i64 i))=some p/\(∃c,wX H p=some c)/\Aq false 1 H p=some (.lit (.int .u8 b.toNat)):=by
 have j:=BW h;rw[BY]at j;have m:=(BG.1 d).1;obtain⟨p,c,e,a,f,g⟩:=I8 h hi (show k<n by omega);refine⟨p,e,⟨c,a⟩,?_⟩;rw[PW a (by omega) g,Ae];have:=congrArg (λl=>l[0]?) f;simp only[Ao5]at this;rw[Ao2 (by omega),Ao2 (by omega),Ak3,Ao8,X4,d]at this;exact this
structure Ext where
 no:Int
 b:List UInt8
 hb:b.length=8
 deriving DecidableEq
def AB (x:Ext):List AV:=I x.no::Bp x.b
theorem AD (x:Ext):(AB x).length=9:=by simp[AB,BY,x.hb]
theorem zP (l:List UInt8):(Bp l).all oneA=true:=by simp[Bp]
@[simp] theorem Aot (x:Ext):(AB x).all oneA=true:=by
 show(oneA (I x.no)&&(Bp x.b).all oneA)=true;rw[zP];rfl
theorem Ic (x:Ext):AF (AB x)=true:=by
 show AF (I x.no::Bp x.b)=true;simp[AF,noIds,NI]
@[simp] theorem Azx (x:Ext) (t:List AV):(AB x++t)[0]?=some (I x.no):=rfl
@[simp] theorem Azy (x:Ext):(AB x)[0]?=some (I x.no):=rfl
@[simp] theorem rd_b (x:Ext):A1 true 8 (AB x) 1=some (.agg (Bp x.b)):=by
 have:=x.hb;simp[A1,AB,BY,this,Aj3]
@[simp] theorem rd_e (x:Ext) (t:List AV):A1 true 9 (AB x++t) 0=some (.agg (AB x)):=by
 have:=AD x;simp[A1,this]
@[simp] theorem Ags (x:Ext):A1 true 9 (AB x) 0=some (.agg (AB x)):=by
 have:=AD x;simp[A1,this,Aj3]
theorem Aou {b:List UInt8}{k:Nat}{y:UInt8}(h:b[k]?=some y)(a:k<8):Aca false 1 8 1 (.agg (Bp b)) (I k)=some (.lit (.int .u8 y.toNat)):=by
 have:(k:Int)<8:=by omega
 simp[Aca,OG,this,X4,h]
theorem sW {H:AH}{z:List AV}{x:Ext}{o:Nat}(g:o=H.length)(f:z.length=9):AU 9 (H++[some (.cells z)]) (.ptr o 0) (.agg (AB x))=some (H++[some (.cells (AB x))]):=by
 have:=AD x;have e:Bb z 0 (AB x)=AB x:=by
  have c:(Bp x.b).length=8:=by rw[BY,x.hb]
  unfold AB;cases d:Bp x.b with
  | nil=>rw[d]at c;simp at c
  | cons a r=>rw[d]at c;simp at c;simp[Bb,f,c]
 simp[AU,g,this,f,e,-Bb]
theorem u8z {y:UInt8}:(y.toNat=0)=(y=0):=by
 refine propext ⟨λh=>?_,λh=>by rw[h];rfl⟩;apply UInt8.toNat_inj.1;rw[h];rfl
def cleanB (size:Int):Int->List UInt8->Prop
 | _,[]=>True
 | p,b::r=>(b≠0->p<size)/\cleanB size (p+1) r
instance cleanB.dec (size:Int):∀(p:Int) (l:List UInt8),Decidable (cleanB size p l)
 | _,[]=>Decidable.isTrue True.intro
 | p,b::r=>by have:=cleanB.dec size (p+1) r;unfold cleanB;infer_instance
def Lt (size:Int)(x:Ext):Prop:=cleanB size (x.no*8) x.b
instance (size:Int) (x:Ext):Decidable (Lt size x):=by unfold Lt;infer_instance
def okL (size:Int):Int->List Ext->Prop
 | _,[]=>True
 | p,x::r=>p<x.no/\x.no<137438953472/\Lt size x/\okL size x.no r
instance okL.dec (size:Int):∀(p:Int) (l:List Ext),Decidable (okL size p l)
 | _,[]=>Decidable.isTrue True.intro
 | p,x::r=>by have:=okL.dec size x.no r;unfold okL;infer_instance
theorem Yh {size p:Int}{x:Ext}{r:List Ext}:okL size p (x::r)=(p<x.no/\x.no<137438953472/\Lt size x/\okL size x.no r):=rfl
theorem Agt {size p:Int}:okL size p []=True:=rfl
def CZ (size:Int)(l:List Ext):Prop:=0<=size/\size<=1099511627776/\okL size (-1) l
instance (size:Int) (l:List Ext):Decidable (CZ size l):=by unfold CZ;infer_instance
theorem Cs {α:Type}{l:List α}{k:Nat}{y:α}(h:l[k]?=some y):l.drop k=y::l.drop (k+1):=by
 obtain⟨a,e⟩:=BG.1 h;rw[Ao9 a,e]
theorem oY (x:Ext)(size:Int)(s: -1<=x.no)(t:x.no<137438953472):Ba2 110 [.agg (AB x),I size] (B (decide (Lt size x))):=BPure.val (by simp[AF,noIds,Ic]) rfl (mD (by
 unfold dX;simp;refine XI (λn m o p q H'=>∃k:Nat,k+n=8/\m=I size/\o=.ptr 0 0/\p=.agg (Bp x.b)/\q=I k/\H'=[some (.cells (AB x))]/\(Lt size x↔cleanB size (x.no*8+k) (x.b.drop k))) ?_ 8 ⟨0,rfl,rfl,rfl,rfl,rfl,rfl,by simp[Lt]⟩;rintro n m o p q H' R j ⟨k,v,rfl,rfl,rfl,rfl,rfl,c⟩;unfold SF;rcases Aj5 k 8 with f | u
 ·have r:(k:Int)<8:=by omega
  have g:=Dq (l:=x.b) (i:=k) (by rw [x.hb]; exact f);generalize x.b[k]'(by rw [x.hb]; exact f)=y at g;rw [Cs g] at c;unfold cleanB at c;simp [r,Aou g f,u8z];have w : (k : Int) + 1=((k + 1 : Nat) : Int):=by omega
  by_cases d:y=0
  ·simp[d,Au (a:=k) (b:=1) (by omega) (by omega)];refine j (n - 1) _ _ _ _ _ (by omega) ⟨k+1,by omega,rfl,rfl,rfl,rfl,rfl,?_⟩;rw[c];simp[d,Int.add_assoc]
  ·simp[d,Dp (a:=x.no) (b:=8) (by omega) (by omega),Au (a:=x.no*8) (b:=k) (by omega) (by omega)];by_cases hs:size<=x.no*8+k
   ·have:¬Lt size x:=by rw[c];intro h;have:=h.1 d;omega
    simp[hs,this]
   ·simp[hs,Au (a:=k) (b:=1) (by omega) (by omega)];refine j (n - 1) _ _ _ _ _ (by omega) ⟨k+1,by omega,rfl,rfl,rfl,rfl,rfl,?_⟩;rw[c];simp[d,Int.add_assoc];omega
 ·have:k=8:=by omega
  subst this;have e:x.b.drop 8=[]:=by rw[List.drop_eq_nil_iff,x.hb];omega
  rw[e]at c;simp only[cleanB,iff_true]at c;simp[c]))
theorem Dg {α:Type}{enc:α->List AV}{sz:Nat}{l:List α}{v:AV}(c:SV enc sz l v):oneA v=true:=by
 have d:=c.1;have b:=c.2 [];cases v with
 | lit a=>cases a<;>first | rfl | (simp[Ac]at b)
 | _=>first | rfl | (simp[Ac]at b)
theorem Qn (no:Int)(c:0<=no)(d:no<137438953472):Ba2 56 [I no] (.agg (B9 ⟨no*8,8⟩)):=BPure.val (by simp[AF,noIds]) rfl (mF (by
 unfold eB;simp[Dp (a:=no) (b:=8) (by omega) (by omega),AU,A1,B9]))
abbrev Ar2:=@List.drop_length
theorem Fu {size:Int}{l:List Ext}{v:AV}(f:SV AB 9 l v)(hl:l.length<=281474976710656):Ba2 54 [.agg [I size,v]] (B (decide (CZ size l))):=BPure.val (by simp[AF,noIds,f.1]) rfl (rS (by
 unfold oV;simp[Dg f];by_cases i:size<0
 ·have:¬CZ size l:=λh=>by have:=h.1;omega
  simp[i,this]
 ·by_cases o:1099511627776<size
  ·have:¬CZ size l:=λh=>by have:=h.2.1;omega
   simp[i,o,this]
  ·simp[i,o,f.len];have c:CZ size l↔okL size (-1) l:=by unfold CZ;constructor<;>intro h<;>simp_all<;>omega
   have e:decide (CZ size l)=decide (okL size (-1) l):=decide_eq_decide.2 c;rw[e];refine aU (λn r w s t u H'=>∃(k:Nat) (p:Int),k+n=l.length/\r=.ptr 0 0/\w=I p/\s=v/\t=I l.length/\u=I k/\(∃X,H'=some (.cells [I size,v])::X)/\-1<=p/\(okL size (-1) l↔okL size p (l.drop k))) ?_ l.length ⟨0,-1,by simp,rfl,rfl,rfl,rfl,rfl,⟨[],rfl⟩,by omega,by simp⟩;rintro n r w s t u H' R x ⟨k,p,A,rfl,rfl,rfl,rfl,rfl,⟨X,rfl⟩,C,c⟩;unfold Wa;rcases Aj5 k l.length with q | z
   ·have j:=Dq q;generalize l[k]=y at j;rw[Cs j]at c;rw[Yh]at c;simp[q,f.idx AD j rfl,-CY];rw[<- Ap4,sW (by simp) (by rfl)];simp;by_cases g:y.no<=p
    ·have:¬okL size (-1) l:=by rw[c];intro h;omega
     simp[g,this]
    ·by_cases m:137438953472<=y.no
     ·have:¬okL size (-1) l:=by rw[c];intro h;omega
      simp[g,m,this]
     ·simp[g,m];refine Az (oY y size (by omega) (by omega)) ?_;by_cases d:Lt size y
      ·simp[d,Au (a:=k) (b:=1) (by omega) (by omega)];refine x (n - 1) _ _ _ _ _ _ (by omega) ⟨k+1,y.no,by omega,rfl,rfl,rfl,rfl,rfl,⟨X++[some (.cells (AB y))],rfl⟩,by omega,?_⟩;rw[c];exact⟨λh=>h.2.2.2,λh=>⟨by omega,by omega,d,h⟩⟩
      ·have:¬okL size (-1) l:=by rw[c];intro h;exact d h.2.2.1
       simp[d,this]
   ·have:k=l.length:=by omega
    subst this;rw[Ar2]at c;simp only[Agt,iff_true]at c;simp[c]))
theorem Agu {b:List UInt8}{t:List AV}{k:Nat}{y:UInt8}{H:AH}(h:b[k]?=some y)(e:k<8):∃q,W7 8 1 (.ip (Bp b++t)) (I k)=some q/\Aq false 1 H q=some (.lit (.int .u8 y.toNat)):=by
 have a:(k:Int)<8:=by omega
 have c:k<b.length:=(BG.1 h).1;refine⟨.ip ((Bp b++t).drop k),by simp[W7,OG,a],?_⟩;have d:k<(Bp b).length:=by rw[BY];exact c
 simp[Aj6 d,X4,h]
theorem CW {size:Int}{l:List Ext}{v:AV}(f:SV AB 9 l v)(hl:l.length<=281474976710656):Ba2 145 [.agg [I size,v]] (B (decide (CZ size l))):=BPure.val (by simp[AF,noIds,f.1]) rfl (Si (by
 unfold LF;simp[Dg f];by_cases D:size<0
 ·have:¬CZ size l:=λh=>by have:=h.1;omega
  simp[D,this]
 ·by_cases L:1099511627776<size
  ·have:¬CZ size l:=λh=>by have:=h.2.1;omega
   simp[D,L,this]
  ·simp[D,L];have c:CZ size l↔okL size (-1) l:=by unfold CZ;constructor<;>intro h<;>simp_all<;>omega
   have e:decide (CZ size l)=decide (okL size (-1) l):=decide_eq_decide.2 c;rw[e];refine Nq (λn s w H'=>∃(k:Nat) (p:Int),k+n=l.length/\s=.ptr 0 0/\w=I k/\H'=[some (.cells [I size,v])]/\-1<=p/\(k=0->p= -1)/\(∀z,0<k->l[k - 1]?=some z->p=z.no)/\(okL size (-1) l↔okL size p (l.drop k))) ?_ l.length ⟨0,-1,by simp,rfl,rfl,rfl,by omega,by simp,by simp,by simp⟩;rintro n s w H' R W ⟨k,p,hk,rfl,rfl,rfl,hp,Z,aa,c⟩;unfold Hz;rcases Aj5 k l.length with M | ad
   ·have o:=Dq M;generalize l[k]=y at o;rw[Cs o]at c;rw[Yh]at c;simp[M,f.len,f.idx AD o rfl];have C:¬p<y.no\/¬y.no<137438953472->¬okL size (-1) l:=by rw[c];intro h h';omega
    have go: -1<=y.no->y.no<137438953472->p<y.no->EP R (.ptr 0 0) (I k) (I y.no) (I 0) [some (.cells [I size,v])] (λr H'=>r=B (decide (okL size (-1) l))):=by
     intro g1 g2 g3;refine Mo R (λm s w P Q H'=>∃(j:Nat),j+m=8/\s=.ptr 0 0/\w=I k/\P=I y.no/\Q=I j/\H'=[some (.cells [I size,v])]/\(Lt size y↔cleanB size (y.no*8+j) (y.b.drop j))) ?_ 8 ⟨0,rfl,rfl,rfl,rfl,rfl,rfl,by simp[Lt]⟩;rintro m s w P Q H' S X ⟨j,hj,rfl,rfl,rfl,rfl,rfl,d⟩;unfold GU;rcases Aj5 j 8 with E | ae
     ·have Y:(j:Int)<8:=by omega
      have G:=Dq (l:=y.b) (i:=j) (by rw [y.hb]; exact E);generalize y.b[j]'(by rw [y.hb]; exact E)=u at G;rw [Cs G] at d;simp only [cleanB] at d;simp [Y,Dp (a:=y.no) (b:=8) (by omega) (by omega),Au (a:=y.no * 8) (b:=j) (by omega) (by omega)];have O:(u≠0->y.no*8+j<size)->(bO (Ar .add (I j) (I 1)) λab=>S [.ptr 0 0,I k,I y.no,ab] [some (.cells [I size,v])]):=by
       intro g;simp[Au (a:=j) (b:=1) (by omega) (by omega)];refine X (m - 1) _ _ _ _ _ (by omega) ⟨j+1,by omega,rfl,rfl,rfl,rfl,rfl,?_⟩;rw[d];have:y.no*8+(j:Int)+1=y.no*8+((j+1:Nat):Int):=by omega
       rw[this];exact⟨λh=>h.2,λh=>⟨g,h⟩⟩
      by_cases hs:size<=y.no*8+j
      ·obtain⟨q,U,V⟩:=Agu (t:=(l.drop (k+1)).flatMap AB) (H:=[some (.cells [I size,v])]) G E;have T:(AB y++(l.drop (k+1)).flatMap AB).drop 1=Bp y.b++(l.drop (k+1)).flatMap AB:=rfl;simp[hs,f.idx AD o rfl,T,U,V,u8z];by_cases g:u=0
       ·simp[g];exact O (λh=>absurd g h)
       ·have:¬okL size (-1) l:=by rw[c];intro h;have:=(d.1 h.2.2.1).1 g;omega
        simp[g,this]
      ·simp[hs];exact O (λh=>by omega)
     ·have:j=8:=by omega
      subst this;have e:y.b.drop 8=[]:=by rw[List.drop_eq_nil_iff,y.hb];omega
      rw[e]at d;simp only[cleanB,iff_true]at d;simp[Au (a:=k) (b:=1) (by omega) (by omega)];refine W (n - 1) _ _ _ (by omega) ⟨k+1,y.no,by omega,rfl,rfl,rfl,by omega,by omega,?_,?_⟩
      ·intro z _ N;simp[o]at N;rw[N]
      ·rw[c];exact⟨λh=>h.2.2.2,λh=>⟨by omega,by omega,d,h⟩⟩
    by_cases A:y.no<0
    ·simp[A,C (.inl (by omega))]
    ·by_cases J:137438953472<=y.no
     ·simp[A,J,C (.inr (by omega))]
     ·simp[A,J];rcases An9 k with x | x
      ·subst x;simp;have:=Z rfl;exact go (by omega) (by omega) (by omega)
      ·have F:=Dq (l:=l) (i:=k - 1) (by omega);generalize l[k - 1]'(by omega)=z at F;have af:=aa z x F;simp [x,B4 (a:=k) (b:=1) (by omega) (by omega),f.idx AD F (i:=(k : Int) - 1) (by omega)];by_cases K:y.no<=z.no
       ·simp[K,C (.inl (by omega))]
       ·simp[K];exact go (by omega) (by omega) (by omega)
   ·have:k=l.length:=by omega
    subst this;rw[Ar2]at c;simp only[Agt,iff_true]at c;simp[c,f.len]))
def srt (l:List Ext):Prop:=l.Pairwise λa b=>a.no<b.no
theorem N1 {size:Int}:∀{l:List Ext} {p:Int},okL size p l->∀x∈l,p<x.no/\x.no<137438953472/\Lt size x
 | [],p,h=>by simp
 | a::r,p,h=>by
  rw[Yh]at h;intro x b;rcases Al3.1 b with rfl | b
  ·exact⟨h.1,h.2.1,h.2.2.1⟩
  ·have:=N1 h.2.2.2 x b;exact⟨by omega,this.2⟩
theorem JX {size:Int}:∀{l:List Ext} {p:Int},okL size p l->srt l
 | [],p,h=>List.Pairwise.nil
 | a::r,p,h=>by rw[Yh]at h;exact List.Pairwise.cons (λb c=>(N1 h.2.2.2 b c).1) (JX h.2.2.2)
theorem Tp {l:List Ext}(h:srt l){i j:Nat}{x y:Ext}(hi:l[i]?=some x)(f:l[j]?=some y)(e:i<j):x.no<y.no:=by
 obtain⟨c,a⟩:=BG.1 hi;obtain⟨d,b⟩:=BG.1 f;have:=List.pairwise_iff_getElem.1 h i j c d e;rw[a,b]at this;exact this
def posL (l:List Ext)(no:Int):Nat:=(l.takeWhile λx=>decide (x.no<no)).length
def Cp (l:List Ext)(no:Int):Prop:=∃x∈l,x.no=no
instance (l:List Ext) (no:Int):Decidable (Cp l no):=by unfold Cp;infer_instance
theorem VD {no:Int}:∀{l:List Ext} {i:Nat},i<=l.length->(∀m x,m<i->l[m]?=some x->x.no<no)->(∀x,l[i]?=some x->no<=x.no)->posL l no=i
 | [],i,hi,_,_=>by simp at hi;simp[posL,hi]
 | a::r,0,_,_,h=>by
  have:=h a (by simp);have:¬a.no<no:=by omega
  simp[posL,this]
 | a::r,i+1,hi,h1,h2=>by have:=h1 0 a (by omega) (by simp);have c:=VD (l:=r) (i:=i) (no:=no) (by simpa using hi) (λm x d b=>h1 (m+1) x (by omega) (by simpa using b)) (λx b=>h2 x (by simpa using b));unfold posL at c|-;simp[this,c]
theorem nG (l:List Ext)(no:Int):posL l no<=l.length:=by
 unfold posL;exact(List.takeWhile_sublist _).length_le
theorem wV {no:Int}:∀{l:List Ext} {m:Nat} {x:Ext},m<posL l no->l[m]?=some x->x.no<no
 | a::r,m,x,hm,hx=>by
  by_cases b:a.no<no
  ·cases m with
   | zero=>simp at hx;rw[<- hx];exact b
   | succ m=>
    refine wV (l:=r) (m:=m) ?_ (by simpa using hx);unfold posL at hm|-;simp[b]at hm;exact hm
  ·unfold posL at hm;simp[b]at hm
 | [],m,x,hm,hx=>by simp at hx
theorem Agv {no:Int}:∀{l:List Ext} {x:Ext},l[posL l no]?=some x->no<=x.no
 | a::r,x,hx=>by
  by_cases b:a.no<no
  ·refine Agv (l:=r) ?_;unfold posL at hx|-;simpa[b]using hx
  ·unfold posL at hx;simp[b]at hx;rw[<- hx];omega
 | [],x,hx=>by simp at hx
theorem XT {l:List Ext}(h:srt l){no:Int}:Cp l no↔∃x,l[posL l no]?=some x/\x.no=no:=by
 constructor
 ·rintro⟨x,c,rfl⟩;obtain⟨m,b⟩:=Ak0.1 c;refine⟨x,?_,rfl⟩;have:posL l x.no=m:=VD (Nat.le_of_lt (BG.1 b).1) (λk y d a=>Tp h a b d) (λy a=>by rw[b]at a;injection a with a;rw[a];omega);rw[this];exact b
 ·rintro⟨x,c,e⟩;exact⟨x,Aj2 c,e⟩
def Cj (a b:Int):Int:=if a<b then -1 else if b<a then 1 else 0
theorem kK (a:Int):Ba2 163 [I a] (B false):=BPure.flat λH=>iM (by
 unfold Z9;simp)
theorem Z8 (a b:Int):Ba2 94 [I a,I b] (I (Cj a b)):=BPure.flat λH=>aI (by
 unfold VU;refine Az (kK a) ?_;refine Az (kK b) ?_;unfold Cj;by_cases c:a<b
 ·simp[c]
 ·by_cases d:b<a
  ·simp[c,d]
  ·simp[c,d])
theorem Agw (x:Ext)(no:Int):Ba2 224 [.agg (AB x),I no] (I (Cj x.no no)):=BPure.val (by simp[AF,noIds,Ic]) rfl (dZ (by
 unfold XM;simp;refine Az (Z8 x.no no) ?_;rfl))
theorem vE {n:Int}{k:IntKind}(b:0<=n)(c:n<=9223372036854775807):Aah .u64 (.lit (.int k n))=some (.lit (.int .u64 n)):=by
 have a:IntKind.u64.wrap n=n:=by simp[IntKind.wrap,IntKind.bits,IntKind.signed];omega
 simp[Aah,a]
theorem nM {n:Int}:Ar .shr (.lit (.int .u64 n)) (.lit (.int .u64 1))=some (.lit (.int .u64 (n/2))):=by
 have a:n.fdiv 2=n/2:=Int.fdiv_eq_ediv_of_nonneg _ (by omega);simp[Ar,Xn,IntKind.bits,a]
theorem Agx:Ch prog 224=true:=by kernel_rfl
theorem Aov {l:List Ext}{v:AV}(h:SV AB 9 l v)(hs:srt l)(hl:l.length<=281474976710656)(no:Int):
  Ba2 223 [v,I no,.fn (.func 224) [] []] (.tup [I (posL l no),B (decide (Cp l no))]):=BPure.val (by simp[AF,noIds,h.1]) rfl (F3 (by
 unfold D3;simp[h.len];refine ED (λn u w C D E A H'=>∃i j:Nat,i+n=j/\j<=l.length/\u=v/\w=I no/\C=.fn (.func 224) [] []/\D=I l.length/\E=I i/\A=I j/\H'=[]/\(∀m x,m<i->l[m]?=some x->x.no<no)/\(∀m x,j<=m->l[m]?=some x->no<=x.no)) ?_ l.length ⟨0,l.length,by simp,by omega,rfl,rfl,rfl,rfl,rfl,rfl,rfl,by simp,λm x t c=>by have:=(BG.1 c).1;omega⟩;rintro n u w C D E A H' R s ⟨i,j,M,H,rfl,rfl,rfl,rfl,rfl,rfl,rfl,r,o⟩;unfold CS;rcases Aj5 i j with J | L
 ·have c:=Dq (l:=l) (i:=(i+j)/2) (by omega);generalize l[(i + j) / 2]'(by omega)=y at c;simp [J,Au (a:=i) (b:=j) (by omega) (by omega),vE (n:=(i : Int) + j) (by omega) (by omega),nM,vD (a:=((i : Int) + j) / 2) (by omega) (by omega),h.idx AD c (i:=((i : Int) + j) / 2) (by omega),Agx];refine bC_of (Agw y no []) ?_;unfold Cj;by_cases k:y.no<no
  ·simp[k,Au (a:=((i:Int)+j)/2) (b:=1) (by omega) (by omega)];refine s (j - ((i+j)/2+1)) _ _ _ _ _ _ _ (by omega) ⟨(i+j)/2+1,j,by omega,H,rfl,rfl,rfl,rfl,by simp,rfl,rfl,?_,o⟩;intro m x t d;by_cases q:m=(i+j)/2
   ·rw[q,c]at d;injection d with e;rw[<- e];exact k
   ·have:=Tp hs d c (by omega);omega
  ·have e:¬(if no<y.no then(1:Int)else 0)<0:=by split<;>omega
   simp[k,e];refine s ((i+j)/2 - i) _ _ _ _ _ _ _ (by omega) ⟨i,(i+j)/2,by omega,by omega,rfl,rfl,rfl,rfl,rfl,by simp,rfl,r,?_⟩;intro m x t d;by_cases q:m=(i+j)/2
   ·rw[q,c]at d;injection d with e;rw[<- e];omega
   ·have:=Tp hs c d (by omega);omega
 ·have G:i=j:=by omega
  subst G;have g:posL l no=i:=VD (by omega) r (λx c=>o i x (by omega) c);rcases Aj5 i l.length with p | p
  ·have c:=Dq (l:=l) (i:=i) p;generalize l[i]=y at c;have F:Cp l no↔Cj y.no no=0:=by
    rw[XT hs,g];have:=o i y (by omega) c;constructor
    ·rintro⟨z,f,e⟩;rw[c]at f;injection f with f;rw[f,e];unfold Cj;simp
    ·intro e;refine⟨y,c,?_⟩;unfold Cj at e;split at e
     ·omega
     ·split at e<;>omega
   simp[p,h.idx AD c rfl,Agx];refine bC_of (Agw y no []) ?_;simp[g,F]
  ·have K:¬Cp l no:=by rw[XT hs,g];rintro⟨z,f,e⟩;have:=(BG.1 f).1;omega
   simp[show ¬i<l.length by omega,g,K]))
theorem XN {l:List Ext}{v:AV}(a:SV AB 9 l v)(hs:srt l)(hl:l.length<=281474976710656)(no:Int):
  Ba2 208 [v,I no] (.tup [I (posL l no),B (decide (Cp l no))]):=BPure.val (by simp[AF,noIds,a.1]) rfl (mE (by
 unfold dY;refine Az (Aov a hs hl no) ?_;simp))
theorem Aow (a c b d e f g h i j k l m n o p q r:Int):P9 prog .neq 52 (.agg [I a,.lit (.int .u8 b),.lit (.int .u8 d),.lit (.int .u8 e),.lit (.int .u8 f),.lit (.int .u8 g),.lit (.int .u8 h),.lit (.int .u8 i),.lit (.int .u8 j)]) (.agg [I c,.lit (.int .u8 k),.lit (.int .u8 l),.lit (.int .u8 m),.lit (.int .u8 n),.lit (.int .u8 o),.lit (.int .u8 p),.lit (.int .u8 q),.lit (.int .u8 r)])=some (B !(a==c&&((b==k&&(d==l&&(e==m&&(f==n&&(g==o&&(h==p&&(i==q&&(j==r&&true))))))))&&true))):=by kernel_rfl
theorem u8i {a b:UInt8}:((a.toNat:Int)==(b.toNat:Int))=decide (a=b):=by
 by_cases h:a=b
 ·subst h;simp
 ·have:¬(a.toNat:Int)=b.toNat:=λe=>h (UInt8.toNat_inj.1 (by omega));simp[h,this]
theorem Aox (x y:Ext):P9 prog .neq 52 (.agg (AB x)) (.agg (AB y))=some (B (decide (x≠y))):=by
 obtain⟨a,b,f⟩:=x;obtain⟨c,d,g⟩:=y
 match b,d,f,g with
 | [b0,b1,b2,b3,b4,b5,b6,b7],[d0,d1,d2,d3,d4,d5,d6,d7],f,g=>
  refine(Aow a c b0.toNat b1.toNat b2.toNat b3.toNat b4.toNat b5.toNat b6.toNat b7.toNat d0.toNat d1.toNat d2.toNat d3.toNat d4.toNat d5.toNat d6.toNat d7.toNat).trans ?_;have e:(a==c)=decide (a=c):=by by_cases h:a=c<;>simp[h]
  simp only[u8i,e];simp
def aC (a:Int)(l:List Ext)(b:Int)(m:List Ext):Prop:=a=b/\l=m
instance (a:Int) (l:List Ext) (b:Int) (m:List Ext):Decidable (aC a l b m):=by unfold aC;infer_instance
abbrev An6:=@List.take_length
theorem fO {a b:Int}{l m:List Ext}{v w:AV}(c:SV AB 9 l v)(f:SV AB 9 m w)(hl:l.length<=281474976710656):
  Ba2 148 [.agg [I a,v],.agg [I b,w]] (B (decide (aC a l b m))):=BPure.val (by simp[AF,noIds,c.1,f.1]) rfl (Rl (by
 unfold KD;simp[Dg c,Dg f];by_cases h:a=b
 ·by_cases o:l.length=m.length
  ·simp[h,c.len,f.len,o];refine Ms (λn r s t H'=>∃k:Nat,k+n=l.length/\r=.ptr 0 0/\s=.ptr 1 0/\t=I k/\H'=[some (.cells [I b,v]),some (.cells [I b,w])]/\l.take k=m.take k) ?_ l.length ⟨0,by simp,rfl,rfl,rfl,rfl,rfl⟩;rintro n r s t H' R z ⟨k,C,rfl,rfl,rfl,rfl,p⟩;unfold GX;rcases Aj5 k l.length with q | A
   ·have g:=Dq q;have d:=Dq (l:=m) (i:=k) (by omega);generalize l[k]=x at g;generalize m[k]'(by omega)=y at d;simp [q,c.len,c.idx AD g rfl,f.idx AD d rfl,Aox];by_cases j:x=y
    ·simp[j,Au (a:=k) (b:=1) (by omega) (by omega)];refine z (n - 1) _ _ _ _ (by omega) ⟨k+1,by omega,rfl,rfl,rfl,rfl,?_⟩;rw[An5,An5,g,d,p,j]
    ·have:l≠m:=by rintro rfl;rw[g]at d;injection d with d;exact j d
     simp[j,this,aC]
   ·have:k=l.length:=by omega
    subst this;have e:l=m:=by rw[An6,o,An6]at p;exact p
    simp[c.len,e,aC]
  ·have:l≠m:=λh=>o (by rw[h]);have u:¬(l.length:Int)=m.length:=by omega
   simp[h,c.len,f.len,u,this,aC]
 ·simp[h,aC]))
theorem Agy {l:List Ext}(h:srt l){k:Nat}{x:Ext}(b:l[k]?=some x):posL l x.no=k:=
 VD (Nat.le_of_lt (BG.1 b).1) (λj y c a=>Tp h a b c) (λy a=>by rw[b]at a;injection a with a;rw[a];omega)
theorem bV {size:Int}{l:List Ext}{v:AV}(e:SV AB 9 l v)(hs:srt l)(hl:l.length<=281474976710656)(no:Int):
  Ba2 144 [.agg [I size,v],I no] (I (if Cp l no then(posL l no:Int)else -1)):=BPure.val (by simp[AF,noIds,e.1]) rfl (Zp (by
 unfold UN;simp[Dg e];refine TH (λn o p q H'=>∃k:Nat,k+n=l.length/\o=I no/\p=.ptr 0 0/\q=I k/\H'=[some (.cells [I size,v])]/\∀m x,m<k->l[m]?=some x->x.no≠no) ?_ l.length ⟨0,by simp,rfl,rfl,rfl,rfl,by simp⟩;rintro n o p q H' R s ⟨k,z,rfl,rfl,rfl,rfl,i⟩;unfold MG;rcases Aj5 k l.length with h | w
 ·have d:=Dq h;generalize l[k]=x at d;simp[h,e.len,e.idx AD d rfl];by_cases c:x.no=no
  ·have r:Cp l no:=⟨x,Aj2 d,c⟩;have g:=Agy hs d;rw[c]at g;simp[c,r,g]
  ·simp[c,Au (a:=k) (b:=1) (by omega) (by omega)];refine s (n - 1) _ _ _ _ (by omega) ⟨k+1,by omega,rfl,rfl,rfl,rfl,?_⟩;intro m y A f;by_cases u:m=k
   ·rw[u,d]at f;injection f with f;rw[<- f];exact c
   ·exact i m y (by omega) f
 ·have:¬Cp l no:=by rintro⟨x,d,c⟩;obtain⟨m,j⟩:=Ak0.1 d;exact i m x (by have:=(BG.1 j).1;omega) j c
  have t:k=l.length:=by omega
  simp[t,e.len,this]))
structure KO {κ:Type}(c:κ->κ->Int):Prop where
 eq:∀a b,c a b=0↔a=b
 anti:∀a b,c a b<0↔0<c b a
 trans:∀a b d,c a b<0->c b d<0->c a d<0
section
variable {κ α : Type} {c : κ->κ->Int} {key : α->κ}
theorem KO.irr (h:KO c)(a:κ):¬c a a<0:=by have:=(h.eq a a).2 rfl;omega
theorem KO.tri (h:KO c){a b:κ}(e:¬c a b<0)(d:¬c b a<0):a=b:=by
 refine(h.eq a b).1 ?_;rw[h.anti]at d;omega
def CQ (c:κ->κ->Int)(key:α->κ)(l:List α):Prop:=l.Pairwise λa b=>c (key a) (key b)<0
def DG (c:κ->κ->Int)(key:α->κ)(l:List α)(k:κ):Nat:=(l.takeWhile λx=>decide (c (key x) k<0)).length
def Bo (key:α->κ)(l:List α)(k:κ):Prop:=∃x∈l,key x=k
instance [DecidableEq κ] (key:α->κ) (l:List α) (k:κ):Decidable (Bo key l k):=by unfold Bo;infer_instance
instance (c:κ->κ->Int) (key:α->κ) (l:List α):Decidable (CQ c key l):=by unfold CQ;infer_instance
theorem O8 {l:List α}(h:CQ c key l){i j:Nat}{x y:α}(hi:l[i]?=some x)(g:l[j]?=some y)(f:i<j):c (key x) (key y)<0:=by
 obtain⟨d,a⟩:=BG.1 hi;obtain⟨e,b⟩:=BG.1 g;have:=List.pairwise_iff_getElem.1 h i j d e f;rw[a,b]at this;exact this
theorem SR {k:κ}:∀{l:List α} {i:Nat},i<=l.length->(∀m x,m<i->l[m]?=some x->c (key x) k<0)->(∀x,l[i]?=some x->¬c (key x) k<0)->DG c key l k=i
 | [],i,hi,_,_=>by simp at hi;simp[DG,hi]
 | a::r,0,_,_,h=>by have:=h a (by simp);simp[DG,this]
 | a::r,i+1,hi,h1,h2=>by have:=h1 0 a (by omega) (by simp);have d:=SR (l:=r) (i:=i) (k:=k) (by simpa using hi) (λm x e b=>h1 (m+1) x (by omega) (by simpa using b)) (λx b=>h2 x (by simpa using b));unfold DG at d|-;simp[this,d]
theorem nF (l:List α)(k:κ):DG c key l k<=l.length:=by
 unfold DG;exact(List.takeWhile_sublist _).length_le
theorem Agz {k:κ}:∀{l:List α} {m:Nat} {x:α},m<DG c key l k->l[m]?=some x->c (key x) k<0
 | a::r,m,x,hm,hx=>by
  by_cases b:c (key a) k<0
  ·cases m with
   | zero=>simp at hx;rw[<- hx];exact b
   | succ m=>
    refine Agz (l:=r) (m:=m) ?_ (by simpa using hx);unfold DG at hm|-;simp[b]at hm;exact hm
  ·unfold DG at hm;simp[b]at hm
 | [],m,x,hm,hx=>by simp at hx
theorem wU {k:κ}:∀{l:List α} {x:α},l[DG c key l k]?=some x->¬c (key x) k<0
 | a::r,x,hx=>by
  by_cases b:c (key a) k<0
  ·refine wU (l:=r) ?_;unfold DG at hx|-;simpa[b]using hx
  ·unfold DG at hx;simp[b]at hx;rw[<- hx];exact b
 | [],x,hx=>by simp at hx
theorem fJ (d:KO c){l:List α}(h:CQ c key l){m:Nat}{x:α}(b:l[m]?=some x):DG c key l (key x)=m:=
 SR (Nat.le_of_lt (BG.1 b).1) (λk y e a=>O8 h a b e) (λy a=>by rw[b]at a;injection a with a;rw[a];exact d.irr _)
theorem Qt (d:KO c){l:List α}(h:CQ c key l){k:κ}:Bo key l k↔∃x,l[DG c key l k]?=some x/\key x=k:=by
 constructor
 ·rintro⟨x,a,rfl⟩;obtain⟨m,b⟩:=Ak0.1 a;exact⟨x,by rw[fJ d h b];exact b,rfl⟩
 ·rintro⟨x,a,e⟩;exact⟨x,Aj2 a,e⟩
theorem eC (a:KO c){l:List α}(h:CQ c key l){k:κ}(b:Bo key l k):DG c key l k<l.length:=by
 obtain⟨x,d,-⟩:=(Qt a h).1 b;exact(BG.1 d).1
theorem kA (d:KO c){l:List α}(h:CQ c key l){x y:α}(i:x∈l)(j:y∈l)(e:key x=key y):x=y:=by
 obtain⟨m,f⟩:=Ak0.1 i;obtain⟨k,a⟩:=Ak0.1 j;have b:=fJ d h f;have g:=fJ d h a;rw[e,g]at b;subst b;rw[f]at a;injection a
def GN (c:κ->κ->Int)(key:α->κ)(l:List α)(x:α):List α:=l.take (DG c key l (key x))++x::l.drop (DG c key l (key x))
def DK (c:κ->κ->Int)(key:α->κ)(l:List α)(k:κ):List α:=l.take (DG c key l k)++l.drop (DG c key l k+1)
theorem L3 {l:List α}{x y:α}:y∈GN c key l x↔y=x\/y∈l:=by
 unfold GN;rw[Am3,Al3];constructor
 ·rintro(h | h | h)
  ·exact .inr (An8 h)
  ·exact .inl h
  ·exact .inr (Aq0 h)
 ·rintro(h | h)
  ·exact .inr (.inl h)
  ·rw[<- Ao0 (DG c key l (key x)) l,Am3]at h;exact h.imp id .inr
abbrev Aq8:=@List.pairwise_append
abbrev An2:=@List.pairwise_cons
abbrev Au9:=@List.drop_sublist
theorem qR (g:KO c){l:List α}(h:CQ c key l){x:α}(r:¬Bo key l (key x)):CQ c key (GN c key l x):=by
 unfold GN CQ;have n:∀y∈l.take (DG c key l (key x)),c (key y) (key x)<0:=by
  intro y i;obtain⟨m,d⟩:=Ak0.1 i;rw[Ak2]at d;split at d
  ·rename_i e;exact Agz e d
  ·cases d
 have hr:∀y∈l.drop (DG c key l (key x)),c (key x) (key y)<0:=by
  intro y i;obtain⟨m,d⟩:=Ak0.1 i;rw[Ak3]at d;have p:¬c (key y) (key x)<0:=by
   rcases An9 m with rfl | s
   ·exact wU d
   ·intro o;have q:DG c key l (key x)<l.length:=by have:=(BG.1 d).1;omega
    have j:=Dq q;exact wU j (g.trans _ _ _ (O8 h j d (by omega)) o)
  by_cases e:c (key x) (key y)<0
  ·exact e
  ·exact absurd ⟨y,Aj2 d,(g.tri e p).symm⟩ r
 refine Aq8.2 ⟨h.sublist (List.take_sublist _ _),An2.2 ⟨hr,h.sublist (Au9 _ _)⟩,?_⟩;intro a k b f;rcases Al3.1 f with rfl | f
 ·exact n a k
 ·exact g.trans _ _ _ (n a k) (hr b f)
theorem delK_sub {l:List α}{k:κ}:(DK c key l k).Sublist l:=by
 unfold DK
 conv=>rhs;rw[<- Ao0 (DG c key l k) l]
 refine List.Sublist.append (List.Sublist.refl _) ?_;rw[<- Ap8];exact Au9 _ _
theorem F9 {l:List α}(h:CQ c key l){k:κ}:CQ c key (DK c key l k):=h.sublist delK_sub
theorem Jr (b:KO c){l:List α}(h:CQ c key l){k:κ}(g:Bo key l k){y:α}:y∈DK c key l k↔y∈l/\key y≠k:=by
 obtain⟨x,f,rfl⟩:=(Qt b h).1 g;have i:=(BG.1 f).1;have e:l=l.take (DG c key l (key x))++x::l.drop (DG c key l (key x)+1):=by
  conv=>lhs;rw[<- Ao0 (DG c key l (key x)) l]
  rw[Ao9 i,(BG.1 f).2]
 have hs:=h;unfold CQ at hs;generalize DG c key l (key x)=p at*;unfold DK;rw[fJ b h f];rw[e]at hs;rw[Aq8,An2]at hs;constructor
 ·intro a;rw[Am3]at a;rcases a with a | a
  ·exact⟨An8 a,λd=>b.irr (key x) (d▸hs.2.2 y a x (by simp))⟩
  ·exact⟨Aq0 a,λd=>b.irr (key x) (d▸hs.2.1.1 y a)⟩
 ·rintro⟨a,j⟩;rw[e,Am3,Al3]at a;rw[Am3];rcases a with a | rfl | a
  ·exact .inl a
  ·exact absurd rfl j
  ·exact .inr a
theorem XZ {l:List α}{x:α}:(GN c key l x).length=l.length+1:=by
 have:=nF (c:=c) (key:=key) l (key x);unfold GN;rw[Ak1,Al4,Aj4,Aj9];omega
theorem X2 {l:List α}{k:κ}(h:DG c key l k<l.length):(DK c key l k).length+1=l.length:=by
 unfold DK;rw[Ak1,Aj4,Aj9];omega
end
abbrev Bv:List UInt8->List UInt8->Int:=Lib.compareBytes
abbrev Au0:=@UInt8.lt_irrefl
abbrev Av0:=@UInt8.le_antisymm
theorem Aha:∀a b:List UInt8,Bv a b=0↔a=b
 | [],[]=>by simp[Bv,Lib.compareBytes]
 | [],_::_=>by simp[Bv,Lib.compareBytes]
 | _::_,[]=>by simp[Bv,Lib.compareBytes]
 | x::a,y::b=>by
  have f:=Aha a b;simp only[Bv]at f|-;unfold Lib.compareBytes;by_cases c:x<y
  ·have:x≠y:=λe=>by subst e;exact Au0 _ c
   simp[c,this]
  ·by_cases d:y<x
   ·have:x≠y:=λe=>by subst e;exact Au0 _ d
    simp[c,d,this]
   ·have:x=y:=Av0 (UInt8.not_lt.1 d) (UInt8.not_lt.1 c);simp[this,f]
theorem vV:∀a b:List UInt8,Bv a b<0↔a<b
 | [],[]=>by simp[Bv,Lib.compareBytes]
 | [],_::_=>by simp[Bv,Lib.compareBytes]
 | _::_,[]=>by simp[Bv,Lib.compareBytes]
 | x::a,y::b=>by
  have f:=vV a b;simp only[Bv]at f|-;unfold Lib.compareBytes;rw[List.cons_lt_cons_iff];by_cases c:x<y
  ·simp[c]
  ·by_cases d:y<x
   ·have:x≠y:=λe=>by subst e;exact Au0 _ d
    simp[c,d,this]
   ·have:x=y:=Av0 (UInt8.not_lt.1 d) (UInt8.not_lt.1 c);simp[this,f]
theorem Ahb:∀a b:List UInt8,0<Bv a b↔b<a
 | [],[]=>by simp[Bv,Lib.compareBytes]
 | [],_::_=>by simp[Bv,Lib.compareBytes]
 | _::_,[]=>by simp[Bv,Lib.compareBytes]
 | x::a,y::b=>by
  have f:=Ahb a b;simp only[Bv]at f|-;unfold Lib.compareBytes;rw[List.cons_lt_cons_iff];by_cases c:x<y
  ·have:¬y<x:=λh=>UInt8.lt_asymm c h;have g:y≠x:=λe=>by subst e;exact Au0 _ c
   simp[c,this,g]
  ·by_cases d:y<x
   ·simp[c,d]
   ·have:x=y:=Av0 (UInt8.not_lt.1 d) (UInt8.not_lt.1 c);simp[this,f]
theorem koN:KO Bv where
 eq:=Aha
 anti a b:=by rw[vV,Ahb]
 trans a b d h1 h2:=by rw[vV]at*;exact List.lt_trans h1 h2
theorem T4:∀a b:List UInt8,Op.bytesLess a b=decide (Bv a b<0)
 | [],[]=>by simp[Op.bytesLess,Bv,Lib.compareBytes]
 | _::_,[]=>by simp[Op.bytesLess,Bv,Lib.compareBytes]
 | [],_::_=>by simp[Op.bytesLess,Bv,Lib.compareBytes]
 | x::a,y::b=>by
  have f:=T4 a b;simp only[Bv]at f|-;unfold Op.bytesLess Lib.compareBytes;rw[f];by_cases c:x<y
  ·simp[c]
  ·by_cases d:y<x
   ·have:x≠y:=λe=>by subst e;exact Au0 _ d
    simp[c,d,this]
   ·have:x=y:=Av0 (UInt8.not_lt.1 d) (UInt8.not_lt.1 c);simp[this]
theorem YC {a b:List UInt8}:OX .geq (S (Ax a)) (S (Ax b))=some (B (decide (¬Bv a b<0))):=by
 simp only[OX,kJ,Ah4,T4];by_cases h:Bv a b<0<;>simp[h]
theorem Ahc {a b:List UInt8}:OX .lss (S (Ax a)) (S (Ax b))=some (B (decide (Bv a b<0))):=by
 simp only[OX,kJ,Ah4,T4]
theorem I7 {l:List UInt8}{k:Nat}{i:Int}{y:UInt8}(hi:i=k)(h:l[k]?=some y):N5 (S (Ax l)) (I i)=some (.lit (.int .u8 y.toNat)):=by
 subst hi;have:(Ax l)[k]?=some y:=by
  obtain⟨a,b⟩:=BG.1 h;have hs:k<(Ax l).size:=by rw[PQ];exact a
  rw[getElem?_pos (Ax l) k hs];congr 1
 simp[N5,OG,this]
theorem FL {l:List UInt8}(h:l.length<=9223372036854775807):Ev (S (Ax l))=some (I l.length):=by
 simp[Ev,PQ]
end
section
structure Sl (α:Type) where
 l:List α
 nil:Bool
structure Rd (P:Program)(t:TypeId)(α:Type) where
 size:Nat
 enc:α->List AV
 ok:α->Prop
 cells:P.cellsOf t=size
 read:∀{H:Type} {e:TypeId×Value->H} {W:World} {fuel:Nat} {cs:List Value} {d:DataW H×List MemPlace},DataW.trod e P W 0 (λ_=>true) true fuel t cs=some d->
  ∃x,ok x/\cs.length=size/\VRs (Cfg.start W) (enc x) cs/\∀u∈cs,u.oneCell'=true
section
variable {P : Program}
def Rd.int {t:TypeId}(k:IntKind)(hu:P.underlying t=some (.int k))(hc:P.cellsOf t=1):Rd P t Int where
 size:=1
 enc n:=[.lit (.int k n)]
 ok n:=k.min<=n/\n<=k.max
 cells:=hc
 read {H e W fuel cs d} h:=by
  obtain⟨n,rfl,-,hw⟩:=DataW.trod_int hu h;refine⟨n,by simpa[Lit.wf]using hw,rfl,.cons (by simp only[VR]) .nil,by simp[Value.oneCell']⟩
def Rd.bool {t:TypeId}(hu:P.underlying t=some .bool)(hc:P.cellsOf t=1):Rd P t Bool where
 size:=1
 enc b:=[.lit (.bool b)]
 ok _:=True
 cells:=hc
 read {H e W fuel cs d} h:=by
  obtain⟨b,rfl,-⟩:=DataW.trod_bool hu h;exact⟨b,trivial,rfl,.cons (by simp only[VR]) .nil,by simp[Value.oneCell']⟩
def Rd.string {t:TypeId}(hu:P.underlying t=some .string)(hc:P.cellsOf t=1):Rd P t ByteArray where
 size:=1
 enc s:=[.lit (.string s)]
 ok s:=s.size<=maxLen
 cells:=hc
 read {H e W fuel cs d} h:=by
  obtain⟨s,rfl,-,hs⟩:=DataW.trod_string hu h;exact⟨s,hs,rfl,.cons (by simp only[VR]) .nil,by simp[Value.oneCell']⟩
abbrev Ac0:=And.intro @List.mem_append.{0} @List.mem_singleton.{0}
abbrev Am6:=@List.flatMap_append
theorem Ahd {t:TypeId}{α:Type}(E:Rd P t α){W:World}{a:Addr}{H:Type}{e:TypeId×Value->H}{j:Nat}:∀(n:Nat) (ds:List (DataW H×List MemPlace)),ds.length=n->
  (∀i,i<n->(W.cells? 0 (a.add (i*P.cellsOf t)) (P.cellsOf t)).bind (DataW.trod e P W 0 (λ_=>true) true j t)=ds[i]?)->
  ∃(xs:List α) (vs:List Value),xs.length=n/\(∀x∈xs,E.ok x)/\vs.length=n*E.size/\VRs (Cfg.start W) (xs.flatMap E.enc) vs/\∀(i:Nat) (v:Value),vs[i]?=some v->W.cell? (a.add i)=some v/\v.oneCell'=true
 | 0,ds,hl,h=>⟨[],[],rfl,by simp,by simp,.nil,by simp⟩
 | n+1,ds,hl,h=>by
  obtain⟨xs,vs,k,l,f,m,o⟩:=Ahd E n (ds.take n) (by rw[Aj4];omega) (λi u=>by rw[h i (by omega),Ak2,if_pos u]);have g:=h n (by omega);rw[Dq (by omega)]at g;obtain⟨cs,r,w⟩:=Option.bind_eq_some_iff.1 g;obtain⟨x,z,B,C,A⟩:=E.read w;obtain⟨-,q,p⟩:=World.cells?_some r;refine⟨xs++[x],vs++cs,by simp[k],?_,?_,?_,?_⟩
  ·intro y c;simp only[Ac0]at c;rcases c with c | rfl
   ·exact l y c
   ·exact z
  ·rw[Ak1,f,B,An4]
  ·rw[Am6];simpa using m.append C
  ·intro i v b;rcases Aj5 i vs.length with d | s
   ·rw[Aj6 d]at b;exact o i v b
   ·rw[Aj8 s,f]at b;have d:=(BG.1 b).1;have:=p (i - n*E.size) (by rw[<- q];exact d);rw[b,E.cells,Addr.add_add]at this;rw[show n*E.size+(i - n*E.size)=i by omega]at this;exact⟨this,A v (Aj2 b)⟩
def Rd.slice {t e:TypeId}{α:Type}(E:Rd P e α)(hu:P.underlying t=some (.slice e))(hc:P.cellsOf t=1):Rd P t (Sl α) where
 size:=1
 enc s:=[if s.nil then .lit (.slice none 0 0)else .imm (s.l.flatMap E.enc) s.l.length E.size]
 ok s:=(s.nil=true->s.l=[])/\s.l.length<=maxLen/\∀x∈s.l,E.ok x
 cells:=hc
 read {H e' W fuel cs d} h:=by
  rcases DataW.trod_slice hu h with⟨rfl,-⟩ | ⟨a,len,cap,elems,rest,n,-,rfl,-,-,h1,h2,h3,h4,-,-⟩
  ·exact⟨⟨[],true⟩,⟨λ_=>rfl,by simp,by simp⟩,rfl,.cons (by simp only[if_true,VR]) .nil,by simp[Value.oneCell']⟩
  ·obtain⟨xs,vs,g1,g2,g3,g4,g5⟩:=Ahd E len elems h3 h4
   refine⟨⟨xs,false⟩,⟨by simp,by simp only;omega,g2⟩,rfl,.cons ?_ .nil,by simp[Value.oneCell']⟩;simp only[An,VR];refine⟨a,cap,vs,by rw[g1],by omega,.inr ⟨λhh=>hh.elim id id,g5⟩,g4⟩
structure Rds (P:Program)(fs:List Field)(off total:Nat)(α:Type) where
 enc:α->List AV
 ok:α->Prop
 le:off<=total
 read:∀{H:Type} {e:TypeId×Value->H} {W:World} {fuel:Nat} {cs:List Value} {ds:List (DataW H×List MemPlace)},cs.length=total->ds.length=fs.length->
  (∀(i:Nat) (f:Field),fs[i]?=some f->DataW.trod e P W 0 (λ_=>true) true fuel f.type ((cs.drop f.offset).take (P.cellsOf f.type))=ds[i]?)->
  ∃x,ok x/\VRs (Cfg.start W) (enc x) (cs.drop off)/\∀u∈cs.drop off,u.oneCell'=true
abbrev Ak6:=@List.drop_of_length_le
def Rds.nil (P:Program)(total:Nat):Rds P [] total total Unit where
 enc _:=[]
 ok _:=True
 le:=Aj7 _
 read {H e W fuel cs ds} hl _ _:=⟨(),trivial,by rw[Ak6 (by omega)];exact .nil,by rw[Ak6 (by omega)];simp⟩
def Rds.cons {f:Field}{fs:List Field}{t:TypeId}{off total:Nat}{α β:Type}(E:Rd P t α)(R:Rds P fs (off+E.size) total β)(ht:f.type=t)(ho:f.offset=off):Rds P (f::fs) off total (α×β) where
 enc x:=E.enc x.1++R.enc x.2
 ok x:=E.ok x.1/\R.ok x.2
 le:=Al1 (Nat.le_add_right _ _) R.le
 read {H e W fuel cs ds} hl hd h:=by
  subst ht;cases ds with
  | nil=>simp at hd
  | cons d ds=>
   have h0:=h 0 f rfl;simp only[BH]at h0;obtain⟨x,hx,hxl,hxv,hx1⟩:=E.read h0;obtain⟨y,hy,hyv,hy1⟩:=R.read hl (by simpa using hd) (λi g hg=>by simpa using h (i+1) g (by simpa using hg))
   have e1:cs.drop off=(cs.drop f.offset).take (P.cellsOf f.type)++cs.drop (off+E.size):=by
    rw[ho,E.cells];rw[<- Ap8,Ao0]
   rw[e1];refine⟨(x,y),⟨hx,hy⟩,hxv.append hyv,?_⟩;intro u hu;rcases Am3.1 hu with hu | hu
   ·exact hx1 u hu
   ·exact hy1 u hu
def Rd.struct {t:TypeId}{fs:Array Field}{total:Nat}{α:Type}(R:Rds P fs.toList 0 total α)(hu:P.underlying t=some (.struct fs))(hc:P.cellsOf t=total):Rd P t α where
 size:=total
 enc:=R.enc
 ok:=R.ok
 cells:=hc
 read {H e W fuel cs d} h:=by
  obtain⟨xs,n,-,-,hl,hxl,hx⟩:=DataW.trod_struct hu h;rw[hc]at hl;obtain⟨x,h1,h2,h3⟩:=R.read (ds:=xs) hl (by simpa using hxl) (λi f hf=>hx i f (by simpa using hf));exact⟨x,h1,hl,by simpa using h2,by simpa using h3⟩
theorem Rd.arg1 {t:TypeId}{α:Type}(E:Rd P t α){H:Type}{e:TypeId×Value->H}{W:World}{v:Value}{d:DataW H}{f:List MemPlace}(c:v.cells= #[v])
  (h:DataW.Trod e P W 0 (λ_=>true) true t v d f):∃x,E.ok x/\VRs (Cfg.start W) (E.enc x) [v]:=by
 obtain⟨g,h⟩:=h;obtain⟨x,b,-,a,-⟩:=E.read h;rw[c]at a;exact⟨x,b,a⟩
end
end
section
def Rd.byte {P:Program}{t:TypeId}(hu:P.underlying t=some (.int .u8))(hc:P.cellsOf t=1):Rd P t UInt8 where
 size:=1
 enc b:=[.lit (.int .u8 b.toNat)]
 ok _:=True
 cells:=hc
 read {H e W fuel cs d} h:=by
  obtain⟨n,rfl,-,hw⟩:=DataW.trod_int hu h;have hb:0<=n/\n<=255:=by simpa[Lit.wf,IntKind.min,IntKind.max,IntKind.signed,IntKind.bits]using hw
  refine⟨UInt8.ofNat n.toNat,trivial,rfl,.cons ?_ .nil,by simp[Value.oneCell']⟩;simp only[VR]
  congr 1
  have:n.toNat<256:=by omega
  rw[UInt8.toNat_ofNat_of_lt' this];omega
section
variable {P : Program} {f : FuncId} {args : List AV}
theorem BPure.of_true (h:ACalls P f [] [] λr _=>r=B true):BPure P f [] (B true):=λH=>
 ACalls.pure (R':=λr=>r=B true) h (by simp only[DZ]) (λr X hr=>⟨1,r,by rw[hr];rfl,hr⟩) H
end
end
section
def FZ (X:AH)(v R:AV):Prop:=∃n0,∀n,n0<=n->Se X n v=some R
def FZs (X:AH)(vs a:List AV):Prop:=∃n0,∀n,n0<=n->T8 (Se X n) vs=some a
theorem FZs.nil {X:AH}:FZs X [] []:=⟨0,λ_ _=>rfl⟩
theorem FZs.cons {X:AH}{v R:AV}{vs c:List AV}(h:FZ X v R)(hs:FZs X vs c):FZs X (v::vs) (R::c):=by
 obtain⟨a,d⟩:=h;obtain⟨b,e⟩:=hs;exact⟨a+b,λn f=>by simp only[T8,d n (by omega),e n (by omega)]⟩
theorem FZ.agg {X:AH}{vs a:List AV}(hs:FZs X vs a):FZ X (.agg vs) (.agg a):=by
 obtain⟨b,c⟩:=hs;refine⟨b+1,λn d=>?_⟩;cases n with
 | zero=>omega
 | succ n=>simp only[Se,c n (by omega)];rfl
theorem FZ.tup {X:AH}{vs a:List AV}(hs:FZs X vs a):FZ X (.tup vs) (.tup a):=by
 obtain⟨b,c⟩:=hs;refine⟨b+1,λn d=>?_⟩;cases n with
 | zero=>omega
 | succ n=>simp only[Se,c n (by omega)];rfl
theorem FZ.lit {X:AH}(v:Value):FZ X (.lit v) (.lit v):=⟨1,λn a=>by cases n with
 | zero=>omega
 | succ n=>rfl⟩
theorem FZ.same {X:AH}{v:AV}(h:noIds v=true):FZ X v v:=YI X v h
theorem FZ.sv {α:Type}{enc:α->List AV}{X:AH}{sz:Nat}{l:List α}{v:AV}(h:Ac X sz v=some (l.flatMap enc,l.length))(d:AF (l.flatMap enc)=true):∃R,SV enc sz l R/\FZ X v R:=by
 obtain⟨R,n0,a,b,c⟩:=iY h d;exact⟨R,⟨a,b⟩,n0,c⟩
section
variable {P : Program} {f : FuncId} {args : List AV}
theorem BPure.FZ {Q:AV->Prop}(a:AF args=true)(h:∃r X,(∃R,Av.FZ X r R/\Q R)/\BCall P f args [] r X):∃R,Q R/\BPure P f args R:=by
 obtain⟨r,X,⟨R,⟨n,b⟩,c⟩,h⟩:=h;exact BPure.fz a ⟨r,X,⟨n,R,b n (Aj7 _),c⟩,h⟩
theorem PCall.lend {H:AH}{args':List AV}{x:AV}(hs:FZs H args args')(b:Qq x=true)(h:BPure P f args' x):PCall P f args H x:=by
 obtain⟨n,a⟩:=hs;exact .inr ⟨n,args',a n (Aj7 _),b,h⟩
end
theorem qA:∀{a b:List AV},AF a=true->AF b=true->AF (a++b)=true
 | [],b,_,h=>h
 | x::a,b,h1,h2=>by simp only[AF,Am0,Ap4]at h1|-;exact⟨h1.1,qA h1.2 h2⟩
theorem EF {α:Type}{enc:α->List AV}:∀{l:List α},(∀x∈l,AF (enc x)=true)->AF (l.flatMap enc)=true
 | [],_=>rfl
 | a::l,h=>by rw[Al5];exact qA (h a (by simp)) (EF λx b=>h x (by simp[b]))
theorem Ju {H:AH}{sz n:Nat}{v:AV}{cs:List AV}(h:Ac H sz v=some (cs,n))(f:Bm v=true)(j:0<n):
  ∃o off a cells,v=.sl o off n sz a/\H[o]?=some (some (.cells cells))/\off+n*sz<=cells.length/\cs=(cells.drop off).take (n*sz):=by
 unfold Ac at h;split at h
 ·simp[Bm]at f
 ·rename_i o off len i a;split at h
  ·rename_i c g;split at h
   ·rename_i e;obtain⟨rfl,e⟩:=e;injection h with h;injection h with b d;subst b;subst d;exact⟨o,off,a,c,rfl,g,e,rfl⟩
   ·cases h
  ·cases h
 ·injection h with h;injection h with b d;omega
 ·injection h with h;injection h with b d;omega
 ·cases h
theorem Jt {cs xs:List AV}{k:Nat}(h:k+xs.length<=cs.length):(Cq cs k xs).length=cs.length:=by
 unfold Cq;simp only[Ac5];omega
theorem NJ {cs xs:List AV}{k:Nat}(h:k+xs.length<=cs.length)(i:Nat):(Cq cs k xs)[i]?=if k<=i/\i<k+xs.length then xs[i - k]? else cs[i]?:=by
 have a:(cs.take k).length=k:=by rw[Aj4];omega
 unfold Cq;split
 ·rename_i c;rw[Aj6 (by rw[Ak1];omega),Aj8 (by omega),a]
 ·rename_i c;by_cases b:i<k
  ·rw[Ak7,Aj6 (by omega),Ak2,if_pos b]
  ·rw[Aj8 (by rw[Ak1];omega),Ak1,a,Ak3];congr 1;omega
theorem UA {cs xs:List AV}{off m k:Nat}(b:off+m<=cs.length)(d:k+xs.length<=m):((Cq cs (off+k) xs).drop off).take m=Cq ((cs.drop off).take m) k xs:=by
 refine Am4 λi=>?_;rw[Ak2,Ak3,NJ (by omega),NJ (by rw[Aj4,Aj9];omega),Ak2,Ak3];by_cases c:i<m
 ·rw[if_pos c];by_cases a:k<=i/\i<k+xs.length
  ·rw[if_pos a,if_pos (by omega)];congr 1;omega
  ·rw[if_neg a,if_neg (by omega),if_pos c]
 ·rw[if_neg c,if_neg (by omega),if_neg c]
abbrev Au6:=@List.set_cons_zero
abbrev Ak9:=@List.take_append_of_le_length
abbrev Au7:=@List.set_cons_succ
theorem U9 {α:Type}{enc:α->List AV}{sz:Nat}(d:∀x,(enc x).length=sz){l:List α}{k q:Nat}{x y:α}{xs:List AV}(b:l[k]?=some x)(f:enc y=Cq (enc x) q xs)(g:q+xs.length<=sz):
  Cq (l.flatMap enc) (k*sz+q) xs=(l.set k y).flatMap enc:=by
 induction l generalizing k with
 | nil=>simp at b
 | cons a l ih=>
  cases k with
  | zero=>
   simp at b;subst b;rw[Au6,Al5,Al5,f];have c:=d a;unfold Cq;rw[Au3,Ar4,Ak9 (by omega),List.drop_append_of_le_length (by omega)];simp[Ak7]
  | succ k=>
   simp at b;rw[Au7,Al5,Al5,<- ih b];have c:=d a;unfold Cq;have e:(k+1)*sz+q=(enc a).length+(k*sz+q):=by rw[c,An4];omega
   rw[e,List.take_length_add_append,show(enc a).length+(k*sz+q)+xs.length=(enc a).length+(k*sz+q+xs.length) by omega,List.drop_length_add_append];simp[Ak7]
end
section
theorem ExtR.apart {P : Program}{k : FuncId}{fn : Func}{tS tR e : TypeId}{size : Nat}(hf : P.funcs[k]? = some fn)(hname : (fn.name == "runtime.NumGoroutine") = false)(hb : fn.body.isNone = true)(hn : Extern.findNext fn = none)
  (he:Extern.find fn=some (Extern.SlicesOverlaps.overlaps #[tS,tS] #[tR])) (ht:P.underlying tS=some (.slice e)) (hz:∀w,(Go.sizeOf e).run P w=.ok size w)
  {H:AH} {oa offa la ea ka ob offb lb eb kb:Nat} {ca cb:List AV} (ha:H[oa]?=some (some (.cells ca))) (hbo:H[ob]?=some (some (.cells cb))) (hne:oa≠ob) (hka:ka≠0) (hkb:kb≠0) (hcb:cb≠[]):
  ExtR P k [.sl oa offa la ea (.ex ka),.sl ob offb lb eb (.ex kb)] H (B false):=by
 intro G vs hr hv;simp only[VRs]at hv;obtain⟨v,r,rfl,h1,v2,r2,rfl,h2,rfl⟩:=hv;simp only[VR]at h1 h2;obtain⟨ho1,a,c,rfl,hl1,hs1⟩:=h1;obtain⟨ho2,a2,c2,rfl,hl2,hs2⟩:=h2;have hc1:c≠0:=by simp only[SlAt]at hs1;omega
 have hc2:c2≠0:=by simp only[SlAt]at hs2;omega
 obtain⟨rfl,-⟩:=I1 hs1 hc1;obtain⟨rfl,-⟩:=I1 hs2 hc2;obtain⟨q1,e1,u1,p1,p2,p3,p4,p5⟩:=hr.obj _ _ ha;obtain⟨q2,e2,u2,w1,w2,w3,w4,w5⟩:=hr.obj _ _ hbo;have hblk:(G.μ oa).1≠(G.μ ob).1:=λh=>hne (hr.inj _ _ _ _ ha hbo h)
 have hlen:0<cb.length:=by cases cb with
  | nil=>exact absurd rfl hcb
  | cons a r=>simp
 refine⟨.bool false,?_,by simp only[VR]⟩;rw[run_callFunc_extern hf hname hb hn he];have:=Go.Lib.run_overlaps_apart (P:=P) G.w tS tR e ht size hz ⟨(G.μ oa).1,(G.μ oa).2.1+offa,none⟩ ⟨(G.μ ob).1,(G.μ ob).2.1+offb,none⟩ la c lb c2 hblk e1 e2 q1.size q2.size
  (by simp[World.shape?,p1]) (by simp[World.shape?,w1]) (by omega) (by simp[World.frozen?,p1]) (by simp[World.frozen?,p1])
 show(((Extern.SlicesOverlaps.overlaps #[tS,tS] #[tR]) _).run P G.w).andThen _=_;have e:(#[Value.slice (some ⟨(G.μ oa).1,(G.μ oa).2.1+offa,none⟩) la c,Value.slice (some ⟨(G.μ ob).1,(G.μ ob).2.1+offb,none⟩) lb c2]:Array Value)=[Value.slice (some ⟨(G.μ oa).1,(G.μ oa).2.1+offa,none⟩) la c,Value.slice (some ⟨(G.μ ob).1,(G.μ ob).2.1+offb,none⟩) lb c2].toArray:=rfl;rw[<- e,this];rfl
mutual
def AV.ren (σ:Nat->Nat×Nat):AV->AV
 | .lit v=>.lit v
 | .ptr o off=>.ptr (σ o).1 ((σ o).2+off)
 | .ip cs=>.ip (fS σ cs)
 | .sl o off len esz cap=>.sl (σ o).1 ((σ o).2+off) len esz cap
 | .imm cs len esz=>.imm (fS σ cs) len esz
 | .mp o=>.mp (σ o).1
 | .agg cs=>.agg (fS σ cs)
 | .tup cs=>.tup (fS σ cs)
 | .fn f a b=>.fn f (fS σ a) (fS σ b)
 | .emp=>.emp
 | .junk=>.junk
def fS (σ:Nat->Nat×Nat):List AV->List AV
 | []=>[]
 | a::r=>a.ren σ::fS σ r
end
mutual
theorem Aoy {σ:Nat->Nat×Nat}{m:Nat}(h:∀o,o<m->σ o=(o,0)):∀{a:AV},HV m a->a.ren σ=a
 | .lit v,_=>rfl
 | .ptr o off,hb=>by simp only[HV]at hb;simp only[AV.ren,h o hb,Ar4]
 | .ip cs,hb=>by simp only[HV]at hb;simp only[AV.ren,Fo h hb]
 | .sl o off len esz cap,hb=>by simp only[HV]at hb;simp only[AV.ren,h o hb,Ar4]
 | .imm cs len esz,hb=>by simp only[HV]at hb;simp only[AV.ren,Fo h hb]
 | .mp o,hb=>by simp only[HV]at hb;simp only[AV.ren,h o hb]
 | .agg cs,hb=>by simp only[HV]at hb;simp only[AV.ren,Fo h hb]
 | .tup cs,hb=>by simp only[HV]at hb;simp only[AV.ren,Fo h hb]
 | .fn f a b,hb=>by simp only[HV]at hb;simp only[AV.ren,Fo h hb.1,Fo h hb.2]
 | .emp,_=>rfl
 | .junk,_=>rfl
theorem Fo {σ:Nat->Nat×Nat}{m:Nat}(h:∀o,o<m->σ o=(o,0)):∀{asx:List AV},DZ m asx->fS σ asx=asx
 | [],_=>rfl
 | a::r,hb=>by simp only[DZ]at hb;simp only[fS,Aoy h hb.1,Fo h hb.2]
end
def Cfg.ren (G:Cfg)(σ:Nat->Nat×Nat)(a:Nat->Option Nat)(b:Nat):Cfg:={w:=G.w,n:=b,μ:=λo=>((G.μ (σ o).1).1,(G.μ (σ o).1).2.1+(σ o).2,(a o).getD ((G.μ (σ o).1).2.2 - (σ o).2)),L:=G.L,K:=G.K}
def Aec:Nat->Option Nat:=λ_=>none
theorem SlAt.ren {m:Nat×Nat×Nat}{e off esz:Nat}{d:Room}{a:Addr}{c:Nat}(h:SlAt m (e+off) esz d a c):SlAt (m.1,m.2.1+e,m.2.2 - e) off esz d a c:=by
 unfold SlAt at h|-;cases d with
 | ex k=>
  simp only at h|-;refine⟨h.1,h.2.imp id λb=>⟨by rw[b.1,Ao6],by have:=b.2;omega⟩⟩
 | ge k=>
  simp only at h|-;refine⟨h.1,h.2.imp id λb=>⟨by rw[b.1,Ao6],by have:=b.2;omega⟩⟩
mutual
theorem VR.ren {G:Cfg}{σ:Nat->Nat×Nat}{lim:Nat->Option Nat}{n2 m2:Nat}(hl:∀o,o<m2->lim o=none)(hm:m2<=n2):∀{a:AV} {v:Value},VR G (a.ren σ) v->HV m2 a->VR (G.ren σ lim n2) a v
 | .lit _,_,h,_=>by simpa only[AV.ren,VR]using h
 | .ptr o off,v,h,hb=>by
  simp only[AV.ren,VR]at h|-;simp only[HV]at hb;exact⟨Am7 hb hm,by rw[h.2];simp only[Cfg.ren,Ao6]⟩
 | .ip cs,v,h,hb=>by
  simp only[AV.ren,VR]at h|-;simp only[HV]at hb;obtain⟨ad,vs,e,hh,hr⟩:=h;exact⟨ad,vs,e,hh,VRs.ren hl hm hr hb⟩
 | .sl o off len esz cap,v,h,hb=>by
  simp only[AV.ren,VR]at h|-;simp only[HV]at hb;obtain⟨_,a,c,e,hlc,hs⟩:=h;refine⟨Am7 hb hm,a,c,e,hlc,?_⟩
  have:=hs.ren
  simp only[Cfg.ren,hl o hb,Option.getD_none];exact this
 | .imm cs len esz,v,h,hb=>by
  simp only[AV.ren,VR]at h|-;simp only[HV]at hb;obtain⟨ad,c,vs,e,hlc,hh,hr⟩:=h;exact⟨ad,c,vs,e,hlc,hh,VRs.ren hl hm hr hb⟩
 | .mp o,v,h,hb=>by
  simp only[AV.ren,VR]at h|-;simp only[HV]at hb;exact⟨Am7 hb hm,h.2⟩
 | .agg cs,v,h,hb=>by
  simp only[AV.ren,VR]at h|-;simp only[HV]at hb;obtain⟨vs,e,hr⟩:=h;exact⟨vs,e,VRs.ren hl hm hr hb⟩
 | .tup cs,v,h,hb=>by
  simp only[AV.ren,VR]at h|-;simp only[HV]at hb;obtain⟨vs,e,hr⟩:=h;exact⟨vs,e,VRs.ren hl hm hr hb⟩
 | .fn f a b,v,h,hb=>by
  simp only[AV.ren,VR]at h|-;simp only[HV]at hb;obtain⟨va,vb,e,h1,h2⟩:=h;exact⟨va,vb,e,VRs.ren hl hm h1 hb.1,VRs.ren hl hm h2 hb.2⟩
 | .emp,_,h,_=>by simpa only[AV.ren,VR]using h
 | .junk,_,_,_=>by simp only[VR]
theorem VRs.ren {G:Cfg}{σ:Nat->Nat×Nat}{lim:Nat->Option Nat}{n2 m2:Nat}(hl:∀o,o<m2->lim o=none)(hm:m2<=n2):∀{asx:List AV} {vs:List Value},VRs G (fS σ asx) vs->DZ m2 asx->VRs (G.ren σ lim n2) asx vs
 | [],_,h,_=>by simpa only[fS,VRs]using h
 | a::r,vs,h,hb=>by
  simp only[fS,VRs]at h|-;simp only[DZ]at hb;obtain⟨v,q,e,h1,h2⟩:=h;exact⟨v,q,e,VR.ren hl hm h1 hb.1,VRs.ren hl hm h2 hb.2⟩
end
structure Canon (n0 m2:Nat)(σ:Nat->Nat×Nat)(lim:Nat->Option Nat)(H1 H2:AH):Prop where
 len:n0<=H2.length
 top:m2<=H2.length
 old:∀o,o<n0->σ o=(o,0)/\lim o=none
 low:∀o,o<m2->lim o=none
 cells:∀(o:Nat) (cs:List AV),H2[o]?=some (some (.cells cs))->∃cs1,H1[(σ o).1]?=some (some (.cells cs1))/\(σ o).2+cs.length<=cs1.length/\fS σ cs=(cs1.drop (σ o).2).take cs.length/\DZ m2 cs/\∀ℓ,lim o=some ℓ->cs.length<=ℓ
 maps:∀(o:Nat) (es:List (Value×AV)),H2[o]?=some (some (.map es))->(σ o).2=0/\∃es1,H1[(σ o).1]?=some (some (.map es1))/\es1.map Prod.fst=es.map Prod.fst/\es1.map Prod.snd=fS σ (es.map Prod.snd)/\DZ m2 (es.map Prod.snd)
 inj:∀(o o':Nat) (x x':AObj),H2[o]?=some (some x)->H2[o']?=some (some x')->(σ o).1=(σ o').1->o=o'
abbrev Ar3:=@Option.getD_some
theorem Canon.hr {J I:Nat}{σ:Nat->Nat×Nat}{d:Nat->Option Nat}{k h:AH}(c:Canon J I σ d k h){G:Cfg}(hr:HR G k)(F:∀o ℓ,d o=some ℓ->(σ o).2+ℓ<=(G.μ (σ o).1).2.2):HR (G.ren σ d h.length) h:=by
 have q:∀(o:Nat) (x:AObj),h[o]?=some (some x)->∃r,k[(σ o).1]?=some (some r):=by
  intro o x b;cases x with
  | cells cs=>obtain⟨A,a,_⟩:=c.cells o cs b;exact⟨_,a⟩
  | map es=>obtain⟨_,C,a,_⟩:=c.maps o es b;exact⟨_,a⟩
 refine⟨rfl,?_,?_,?_,hr.lt,hr.dis⟩
 ·intro o x b;cases x with
  | cells cs=>
   obtain⟨A,a,f,m,n,D⟩:=c.cells o cs b;obtain⟨l,e,L,p,w,y,j,K⟩:=hr.obj _ _ a;have N:=j.length;have H:(d o).getD ((G.μ (σ o).1).2.2 - (σ o).2)+(σ o).2<=(G.μ (σ o).1).2.2/\cs.length<=(d o).getD ((G.μ (σ o).1).2.2 - (σ o).2):=by
    cases s:d o with
    | none=>simp only[Option.getD_none];omega
    | some ℓ=>have:=F o ℓ s;have:=D ℓ s;simp only[Ar3];omega
   refine⟨l,e,(L.drop (σ o).2).take cs.length,p,?_,H.2,?_,?_⟩
   ·show(G.μ (σ o).1).2.1+(σ o).2+(d o).getD ((G.μ (σ o).1).2.2 - (σ o).2)<=l.size;omega
   ·refine VRs.ren c.low c.top ?_ n;rw[m];exact(j.drop _).take _
   ·intro i v g;rw[Ak2]at g;split at g
    ·rw[Ak3]at g;have:=K _ _ g;show l[(G.μ (σ o).1).2.1+(σ o).2+i]?=some v/\_;rw[Ao6];exact this
    ·cases g
  | map es=>
   obtain⟨M,C,a,f,m,n⟩:=c.maps o es b;obtain⟨B,p,w,y,j⟩:=hr.obj _ _ a;refine⟨B,p,?_,by rw[y,f],?_⟩
   ·refine VRs.ren c.low c.top ?_ n;rw[<- m];exact w
   ·rw[j];congr 1;have:=congrArg List.length f;simpa using this
 ·intro o u x z b t E;obtain⟨r,a⟩:=q o x b;obtain⟨O,f⟩:=q u z t;exact c.inj o u x z b t (hr.inj _ _ _ _ a f E)
 ·intro o x b;obtain⟨r,a⟩:=q o x b;exact hr.live _ _ a
theorem Canon.evo {e k:Nat}{σ:Nat->Nat×Nat}{d:Nat->Option Nat}{f b:AH}(c:Canon e k σ d f b){G0 G:Cfg}(g:G0.n=e)(a:Evo G0 G):Evo G0 (G.ren σ d b.length):=
 ⟨a.os,a.tape,a.output,a.size,a.keep,by rw[g];exact c.len,λo i=>by obtain⟨j,h⟩:=c.old o (by omega);have:=a.μ o i;simp only[Cfg.ren,j,h,Ao8,At1,Option.getD_none];exact this,a.K⟩
section
variable {P : Program}
def belH (H:AH):Prop:=∀(o:Nat) (x:AObj),H[o]?=some (some x)->x.bel H.length
theorem HR.belH {G:Cfg}{H:AH}(hr:HR G H):belH H:=λo x a=>by rw[<- hr.n];exact(hr.obj o x a).bel
theorem ACalls.canon {f:FuncId}{args:List AV}{H b:AH}{R:AV->AH->Prop}{j:AV}(h:ACalls P f args H R)
  (q:belH H->∀g a,R g a->∃m σ d,Canon H.length m σ d a b/\∀G v,HR G a->VR G g v->VR (G.ren σ d b.length) j v/\∀o ℓ,d o=some ℓ->(σ o).2+ℓ<=(G.μ (σ o).1).2.2):BCall P f args H j b:=by
 intro G x i u;refine(h G x i u).mono ?_;rintro e y ⟨g,a,k,v,rfl,rfl,p,w,l,r⟩;obtain⟨m,σ,d,c,hs⟩:=q i.belH g a r;obtain⟨s,t⟩:=hs k v l w;exact⟨j,b,k.ren σ d b.length,v,rfl,rfl,c.evo i.n p,s,c.hr l t,rfl,rfl⟩
theorem ACalls.room {f:FuncId}{o off len esz k:Nat}{args:List AV}{H:AH}{R:AV->AH->Prop}(h:∀c,k<=c->len<=c->ACalls P f (.sl o off len esz (.ex c)::args) H R):ACalls P f (.sl o off len esz (.ge k)::args) H R:=by
 intro G m j g;simp only[VRs]at g;obtain⟨v,r,rfl,b,i⟩:=g;simp only[VR]at b;obtain⟨l,a,c,rfl,e,hs⟩:=b;simp only[SlAt]at hs;refine h c hs.1 e G _ j (.cons ?_ i);simp only[VR];refine⟨l,a,c,rfl,e,rfl,hs.2.imp id λd=>⟨d.1,by have:=d.2;omega⟩⟩
end
def Ab6:Nat->Nat×Nat:=λo=>(o,0)
def Aba (n o off:Nat):Nat->Nat×Nat:=λp=>if p=n then(o,off)else(p,0)
def yR (n l:Nat):Nat->Option Nat:=λp=>if p=n then some l else none
theorem Canon.grown {H:AH}(g:belH H){o:Nat}{N:List AV}(f:DZ H.length N):Canon H.length H.length Ab6 Aec (H++[some (.cells N)]) (H.set o none++[some (.cells N)]):=by
 have get:∀(p:Nat) (x:AObj),(H.set o none++[some (.cells N)])[p]?=some (some x)->(H++[some (.cells N)])[p]?=some (some x)/\x.bel H.length:=by
  intro p x a;by_cases c:p<H.length
  ·rw[Aj6 (by simpa using c),Ao7]at a;rw[Aj6 c];split at a
   ·split at a<;>simp at a
   ·exact⟨a,g p x a⟩
  ·rw[Aj8 (by simpa using c)]at a;rw[Aj8 (by omega)];simp only[Ak4]at a;refine⟨a,?_⟩;have:p - H.length=0:=by have:=(BG.1 a).1;simp at this;omega
   rw[this]at a;simp at a;rw[<- a];exact f
 refine⟨by simp,by simp,λp c=>⟨rfl,rfl⟩,λp c=>rfl,?_,?_,?_⟩
 ·intro p cs a;obtain⟨d,b⟩:=get p _ a;refine⟨cs,d,by simp[Ab6],?_,b,λℓ h=>by cases h⟩;rw[Fo (σ:=Ab6) (m:=H.length) (λ_ _=>rfl) b];simp[Ab6]
 ·intro p e a;obtain⟨d,b⟩:=get p _ a;exact⟨rfl,e,d,rfl,(Fo (σ:=Ab6) (m:=H.length) (λ_ _=>rfl) b).symm,b⟩
 ·intro p p' x i _ _ h;exact h
theorem Canon.placed {H:AH}(n:belH H){o off l:Nat}{N cs1:List AV}(r:o<H.length)(g:DZ H.length N)(hl:off+N.length<=cs1.length)(q:(cs1.drop off).take N.length=N)(u:N.length<=l):
  Canon H.length H.length (Aba H.length o off) (yR H.length l) (H.set o (some (.cells cs1))) (H.set o none++[some (.cells N)]):=by
 have sm:∀p,p<H.length->Aba H.length o off p=(p,0):=λp c=>by unfold Aba;rw[if_neg (by omega)]
 have sl:∀p,p<H.length->yR H.length l p=none:=λp c=>by unfold yR;rw[if_neg (by omega)]
 have get:∀(p:Nat) (x:AObj),(H.set o none++[some (.cells N)])[p]?=some (some x)->(p<H.length/\p≠o/\(H.set o (some (.cells cs1)))[p]?=some (some x)/\x.bel H.length)\/(p=H.length/\x=.cells N):=by
  intro p x a;by_cases c:p<H.length
  ·left;rw[Aj6 (by simpa using c),Ao7]at a;split at a
   ·simp at a
   ·rename_i i;exact⟨c,λh=>i h.symm,by rw[Cc i];exact a,n p x a⟩
  ·right;rw[Aj8 (by simpa using c)]at a;simp only[Ak4]at a;have:p - H.length=0:=by have:=(BG.1 a).1;simp at this;omega
   rw[this]at a;simp at a;exact⟨by omega,a.symm⟩
 refine⟨by simp,by simp,λp c=>⟨sm p c,sl p c⟩,sl,?_,?_,?_⟩
 ·intro p cs a;rcases get p _ a with⟨b,_,f,d⟩ | ⟨rfl,h⟩
  ·refine⟨cs,by rw[sm p b];exact f,by rw[sm p b];simp,?_,d,λℓ h=>by rw[sl p b]at h;cases h⟩;rw[Fo sm d,sm p b];simp
  ·injection h with h;subst h;have e:Aba H.length o off H.length=(o,off):=if_pos rfl;refine⟨cs1,by rw[e];simp[r],by rw[e];exact hl,?_,g,λℓ h=>?_⟩
   ·rw[Fo sm g,e];exact q.symm
   ·unfold yR at h;rw[if_pos rfl]at h;injection h with h;omega
 ·intro p k a;rcases get p _ a with⟨b,_,f,d⟩ | ⟨_,h⟩
  ·exact⟨by rw[sm p b],k,by rw[sm p b];exact f,rfl,(Fo sm d).symm,d⟩
  ·cases h
 ·intro p p' x v a s h;have e:Aba H.length o off H.length=(o,off):=if_pos rfl;rcases get p _ a with⟨b,m,_,_⟩ | ⟨rfl,_⟩<;>rcases get p' _ s with⟨j,t,_,_⟩ | ⟨rfl,_⟩
  ·rw[sm p b,sm p' j]at h;exact h
  ·rw[sm p b,e]at h;exact(m h).elim
  ·rw[sm p' j,e]at h;exact(t h.symm).elim
  ·rfl
end
section
section
variable {P : Program}
def Abb (P:Program)(sz bytes:Nat)(zc:List AV)(ov rot:FuncId)(a0 a1 a2:AV)(H:AH)(K:AV->AH->Prop):Prop:=bO (Bq sz a0 (some a1) none none) λS=>bO (AW a2) λa=>bO (Ar .eql a (I 0)) λw=>bB w λn=>bI n (K a0 H) (bO (AW a0) λc=>bO (Ar .eql a1 c) λO=>bB O λp=>bI p (bH (Gt sz bytes H a0 a2) λQ l=>K Q l) (bO (Ar .add c a) λR=>bO (rF a0) λq=>bO (Ar .gtr R q) λr=>bB r λm=>bI m (bO (Bq sz a0 none (some a1) none) λs=>bO (Ar .add c a) λt=>bO (Ar .sub t a1) λu=>bH (Tv H sz bytes zc s u) λd e=>bO (Bq sz d (some a1) none none) λv=>bH (YX sz e v a2) λT f=>bO (Ar .add a1 a) λx=>bO (Bq sz d (some x) none none) λy=>bO (Bq sz a0 (some a1) none none) λz=>bH (YX sz f y z) λU g=>K d g) (bO (Ar .add c a) λA=>bO (Bq sz a0 none (some A) none) λb=>bO (Ar .add a1 a) λB=>bO (Bq sz b (some B) none none) λC=>bP (ExtR P ov [a2,C] H) λD=>bO (D5 .not D) λE=>bB E λo=>bI o (bO (Ar .add a1 a) λF=>bO (Bq sz b (some F) none none) λG=>bO (Bq sz b (some a1) none none) λJ=>bH (YX sz H G J) λV h=>bO (Bq sz b (some a1) none none) λL=>bH (YX sz h L a2) λW i=>K b i) (bO (Bq sz b (some c) none none) λM=>bH (YX sz H M a2) λX j=>bO (Bq sz b (some a1) none none) λN=>bC (BCall P rot [N,a] j) λY k=>K b k))))
def Dk (s:AV)(n:Nat):Prop:=match s with
 | .sl _ _ _ _ cap=>n<=cap.least
 | _=>True
theorem mW {H:AH}{sz o off len o2 a m:Nat}{g b:Room}{cs cs2:List AV}(d:H[o]?=some (some (.cells cs)))(c:H[o2]?=some (some (.cells cs2)))(f:off<=cs.length)(j:a+min m len*sz<=cs2.length):
  YX sz H (.sl o off len sz g) (.sl o2 a m sz b)=some (I ((min m len:Nat):Int),H.set o (some (.cells (Cq cs off ((cs2.drop a).take (min m len*sz)))))):=by
 unfold YX Abn;by_cases h:a+m*sz<=cs2.length
 ·have e:B1 H sz (.sl o2 a m sz b)=some ((cs2.drop a).take (m*sz),m):=AA (by simp[Ac,c,h]);have i:min (min m len*sz) (m*sz)=min m len*sz:=Aq2 (Ak5 _ (Av5 _ _));rw[e];simp only[d,f,Ai2,Ap3,i]
 ·have e:B1 H sz (.sl o2 a m sz b)=none:=by simp[B1,Ac,c,h]
  rw[e];simp[Acl,d,c,f,j]
theorem Vv {sz bytes:Nat}{H:AH}{s x r:AV}{H':AH}{cs ds:List AV}{n m:Nat}(a:Ac H sz s=some (cs,n))(q:Bm s=true)(g:B1 H sz x=some (ds,m))(j:Dk s n)(h:Gt sz bytes H s x=some (r,H')):Dk r (n+m):=by
 unfold Gt at h;rw[g]at h;simp only at h;unfold Ac at a;split at a
 ·simp[Bm]at q
 ·rename_i o v len u f;split at a
  ·rename_i c t;split at a
   ·rename_i i;obtain⟨rfl,l⟩:=i;injection a with a;injection a with d e;subst d;subst e;unfold Sy at h;simp only[t,Ab8,false_or,l]at h;cases f with
    | ex k=>
     simp only at h;split at h
     ·injection h with h;injection h with h b;subst h;simpa[Dk,Room.least]
     ·split at h
      ·injection h with h;injection h with h b;subst h;simp[Dk,Room.least]
      ·cases h
    | ge k=>
     simp only at h;split at h
     ·rename_i p;injection h with h;injection h with h b;subst h;subst p;simpa using j
     ·split at h
      ·injection h with h;injection h with h b;subst h;simpa[Dk,Room.least]
      ·split at h
       ·injection h with h;injection h with h b;subst h;simp[Dk,Room.least]
       ·cases h
   ·cases a
  ·cases a
 ·injection a with a;injection a with d e;subst d;subst e;unfold Sy at h;simp only at h;split at h
  ·injection h with h;injection h with h b;subst h;simp[Dk]
  ·split at h
   ·injection h with h;injection h with h b;subst h;simp[Dk,Room.least]
   ·cases h
 ·injection a with a;injection a with d e;subst d;subst e;unfold Sy at h;simp only at h;split at h
  ·injection h with h;injection h with h b;subst h;simp[Dk]
  ·split at h
   ·injection h with h;injection h with h b;subst h;simp[Dk,Room.least]
   ·cases h
 ·cases a
def Acv:T31:=λsz H s N n r H'=>Bm r=true/\Ac H' sz r=some (N,n+1)/\H.length<=H'.length/\(∀i,i<H.length->i∉Ba s->H'[i]?=H[i]?)/\(∀i∈Ba r,i∈Ba s\/H.length<=i)/\Dk r (n+1)
theorem Aoz {sz bytes:Nat}{zc:List AV}{ov rot:FuncId}{H:AH}{s a2:AV}{cs xs:List AV}{n:Nat}(hs:Ac H sz s=some (cs,n))(b:Bm s=true)(q:Dk s n)(o:AW a2=some (I 1))(c:B1 H sz a2=some (xs,1))(p:(n+1)*bytes<=140737488355328):
  ∃r H',Acv sz H s (cs++xs) n r H'/\Abb P sz bytes zc ov rot s (I n) a2 H λt d=>t=r/\d=H':=by
 obtain⟨w,f,-⟩:=DS hs (lo:=some (I n)) (hi:=none) (l:=n) (k:=n) (by simp[BL]) rfl (Aj7 _) (Aj7 _);obtain⟨r,e,a,g,h,i,j,m⟩:=Cn (bytes:=bytes) hs b c p;refine⟨r,e,⟨g,h,i,j,m,Vv hs b c q a⟩,?_⟩;unfold Abb;simp[f,o,Bt hs,a]
abbrev As9:=@List.drop_eq_nil_of_le
theorem Apa {sz bytes:Nat}{zc:List AV}{ov rot:FuncId}(t:zc.length=sz){H:AH}{o off n oj i:Nat}{cells xs:List AV}(e:H[o]?=some (some (.cells cells)))(hl:off+n*sz<=cells.length)(hi:i<n)(D:n<=100000000)(g:H[oj]?=some (some (.cells xs)))(d:xs.length=sz)(p:(n+1)*bytes<=140737488355328):
  Abb P sz bytes zc ov rot (.sl o off n sz (.ex n)) (I i) (.sl oj 0 1 sz (.ex 1)) H λr H'=>r=.sl H.length 0 (n+1) sz (.ge (n+1))/\
   H'=H++[some (.cells ((cells.drop off).take (i*sz)++xs++(cells.drop (off+i*sz)).take ((n - i)*sz)))]:=by
 unfold Abb;have l:¬(i:Int)=n:=by omega
 have y:i*sz<=n*sz:=Ak5 _ (by omega);have z:i*sz+(n - i)*sz=n*sz:=by rw[<- Ap2];congr 1;omega
 have C:(i+1)*sz=i*sz+sz:=An4 _ _;have B:(n+1 - i)*sz=(n - i)*sz+sz:=by rw[show n+1 - i=(n - i)+1 by omega,An4]
 simp[Bq,BL,Room.least,Room.cut,rF,goInt,l,show i<=n by omega,Au (a:=n) (b:=1) (by omega) (by omega),B4 (a:=(n:Int)+1) (b:=i) (by omega) (by omega),Tv,e,Au (a:=i) (b:=1) (by omega) (by omega),-Bx];have k:i+(n+1 - i)=n+1:=by omega
 have m:off+i*sz<=cells.length:=by omega
 simp only[k];simp[m,show(i:Int)<n+1 by omega,show(n:Int)<n+1 by omega,p,show i<=n+1 by omega,-Bx];have w:(Bx zc (n+1 - i)).length=(n+1 - i)*sz:=by rw[EJ,t]
 generalize Bx zc (n+1 - i)=Z at w;have c:(List.take (i*sz) (List.drop off cells)).length=i*sz:=by rw[Aj4,Aj9];omega
 generalize x:List.take (i*sz) (List.drop off cells)=A at c;have s:=(BG.1 g).1;have q:=(BG.1 e).1;have h:min 1 (n+1 - i)=1:=by omega
 rw[mW (cs:=A++Z) (cs2:=xs) (by simp) (by rw[Aj6 s];exact g) (by simp[c]) (by rw[h];omega)];simp[show(0:Int)<=(i:Int)+1 by omega,show i+1<=n+1 by omega];have v:Cq (A++Z) (i*sz) (List.take (min 1 (n+1 - i)*sz) xs)=A++xs++Z.drop sz:=by rw[h,Aj3 (by rw[d];omega)];unfold Cq;rw[Ak9 (by omega),Aj3 (by omega),d,<- c,List.drop_append,As3,As9 (by omega),Ao4]
 rw[v,mW (cs:=A++xs++Z.drop sz) (cs2:=cells) (by simp) (by rw[Aj6 q];exact e) (by simp[c,d];omega) (by rw[Nat.min_self];omega)];have f:(List.take ((n - i)*sz) (List.drop (off+i*sz) cells)).length=(n - i)*sz:=by rw[Aj4,Aj9];omega
 simp;generalize List.take ((n - i)*sz) (List.drop (off+i*sz) cells)=B' at f;unfold Cq;have u:(A++xs).length=(i+1)*sz:=by rw[Ak1,c,d];omega
 rw[<- Ak7,Ak9 (by omega),Aj3 (by omega),As9 (by rw[Ak1,u,Aj9,f];omega),Am9,Ak7]
abbrev Aw1:=@List.drop_left
theorem Apb {sz bytes:Nat}{zc:List AV}{ov rot:FuncId}(A:0<sz){H:AH}{o off n oj i c:Nat}{cells xs:List AV}(d:H[o]?=some (some (.cells cells)))(hl:off+n*sz<=cells.length)(hi:i<n)(G:n<=100000000)(p:n+1<=c)(v:H[oj]?=some (some (.cells xs)))(e:xs.length=sz)(s:oj≠o)
  (u:∀q l k,k≠0->ExtR P ov [.sl oj 0 1 sz (.ex 1),.sl o q l sz (.ex k)] H (B false)):
  Abb P sz bytes zc ov rot (.sl o off n sz (.ex c)) (I i) (.sl oj 0 1 sz (.ex 1)) H λr H'=>r=.sl o off (n+1) sz (.ex c)/\
   ∃x,H'=H.set o (some (.cells (cells.take (off+i*sz)++xs++(cells.drop (off+i*sz)).take ((n - i)*sz)++x))):=by
 unfold Abb;have j:¬(i:Int)=n:=by omega
 have C:i*sz<=n*sz:=Ak5 _ (by omega);have D:i*sz+(n - i)*sz=n*sz:=by rw[<- Ap2];congr 1;omega
 have E:(i+1)*sz=i*sz+sz:=An4 _ _;have F:(i+1)*sz<=n*sz:=Ak5 _ (by omega);simp[Bq,BL,Room.least,Room.cut,rF,goInt,j,show i<=n by omega,Au (a:=n) (b:=1) (by omega) (by omega),B4 (a:=(n:Int)+1) (b:=i) (by omega) (by omega),Au (a:=i) (b:=1) (by omega) (by omega),show i<=c by omega,show n<=c by omega,show ¬(c:Int)<n+1 by omega,p,show(0:Int)<=(n:Int)+1 by omega,show(0:Int)<=(i:Int)+1 by omega,show i+1<=n+1 by omega];refine bP_of (u _ _ _ (by omega)) ?_;simp;have t:=(BG.1 d).1;have g:min (n+1 - i) (n - i)=n - i:=by omega
 have f:min 1 (n+1 - i)=1:=by omega
 simp only[show i<=n+1 by omega,if_true,Aa];rw[mW (cs:=cells) (cs2:=cells) d d (by omega) (by rw[g];omega),g];have m:(List.take ((n - i)*sz) (List.drop (off+i*sz) cells)).length=(n - i)*sz:=by rw[Aj4,Aj9];omega
 generalize List.take ((n - i)*sz) (List.drop (off+i*sz) cells)=B' at m;simp only[A6];have w:(cells.take (off+(i+1)*sz)).length=off+(i+1)*sz:=by rw[Aj4];omega
 rw[mW (cs:=Cq cells (off+(i+1)*sz) B') (cs2:=xs) (by simp[t]) (by rw[Cc (Al6 s)];exact v) (by unfold Cq;simp[w];omega) (by rw[f];omega),f,Aj3 (l:=xs.drop 0) (by simp[e])];simp only[A6,List.set_set,Al8];refine⟨(cells.drop (off+(i+1)*sz+B'.length)),?_⟩;congr 3;unfold Cq;rw[e];have y:List.take (off+i*sz) (cells.take (off+(i+1)*sz)++B'++cells.drop (off+(i+1)*sz+B'.length))=cells.take (off+i*sz):=by rw[Ak7,Ak9 (by omega),Ap3,Aq2 (by omega)]
 have z:List.drop (off+i*sz+sz) (cells.take (off+(i+1)*sz)++B'++cells.drop (off+(i+1)*sz+B'.length))=B'++cells.drop (off+(i+1)*sz+B'.length):=by rw[Ak7,show off+i*sz+sz=(cells.take (off+(i+1)*sz)).length by omega,Aw1]
 rw[y,z,Ak7]
theorem iL {m:Nat}:∀{a b:List AV},DZ m a->DZ m b->DZ m (a++b)
 | [],b,_,h=>h
 | x::a,b,h1,h2=>by simp only[DZ,Ap4]at h1|-;exact⟨h1.1,iL h1.2 h2⟩
theorem YF {m:Nat}:∀{a:List AV},DZ m a↔∀x∈a,HV m x
 | []=>by simp[DZ]
 | x::a=>by simp only[DZ,Al3,forall_eq_or_imp,YF (a:=a)]
theorem Ahe {sz bytes:Nat}{zc:List AV}{f ov rot:FuncId}(Z:0<sz)(hz:zc.length=sz)(C:∀a0 a1 a2 H K,Abb P sz bytes zc ov rot a0 a1 a2 H K->ACalls P f [a0,a1,a2] H K){H:AH}{s:AV}{cs xs:List AV}{n oj i:Nat}(hs:Ac H sz s=some (cs,n))(W:Bm s=true)(T:Dk s n)(hi:i<=n)(V:n<=1000000)(ad:bytes<=1000000)(M:H[oj]?=some (some (.cells xs)))(w:xs.length=sz)(af:oj∉Ba s)
  (ai:∀m,DZ m xs) (ah:∀{o q l k:Nat} {cells:List AV},H[o]?=some (some (.cells cells))->oj≠o->k≠0->cells≠[]->ExtR P ov [.sl oj 0 1 sz (.ex 1),.sl o q l sz (.ex k)] H (B false)):
  ∃r H',Acv sz H s (cs.take (i*sz)++xs++cs.drop (i*sz)) n r H'/\BCall P f [s,I i,.sl oj 0 1 sz (.ex 1)] H r H':=by
 have ak:=BW hs;have S:(n+1)*bytes<=140737488355328:=Al1 (Nat.mul_le_mul (show n+1<=1000001 by omega) ad) (by omega);rcases Aj5 i n with h | h
 ·obtain⟨o,b,O,cells,rfl,g,u,rfl⟩:=Ju hs W (by omega);have X:oj≠o:=by simpa[Ba]using af
  have ag:=(BG.1 g).1;have am:i*sz<=n*sz:=Ak5 _ (by omega);have an:i*sz+(n - i)*sz=n*sz:=by rw[<- Ap2];congr 1;omega
  have ao:(n+1)*sz=n*sz+sz:=An4 _ _;have aq:sz<=n*sz:=by have:=Ak5 sz (show 1<=n by omega);omega
  have ae:cells≠[]:=λhh=>by rw[hh]at u;simp at u;omega
  have Y:((cells.drop b).take (n*sz)).take (i*sz)=(cells.drop b).take (i*sz):=by rw[Ap3];congr 1;omega
  have y:((cells.drop b).take (n*sz)).drop (i*sz)=(cells.drop (b+i*sz)).take ((n - i)*sz):=by rw[Ar1,Ap8];congr 1;omega
  rw[Y,y];generalize t:(cells.drop b).take (i*sz)++xs++(cells.drop (b+i*sz)).take ((n - i)*sz)=N;have aa:N.length=(n+1)*sz:=by rw[<- t,Ak1,Ak1,w,Aj4,Aj4,Aj9,Aj9];omega
  have Q:∀c,n<=c->ACalls P f [.sl o b n sz (.ex c),I i,.sl oj 0 1 sz (.ex 1)] H λr H'=>
    (r=.sl H.length 0 (n+1) sz (.ge (n+1))/\H'=H++[some (.cells N)])\/∃c d,n+1<=c/\r=.sl o b (n+1) sz (.ex c)/\H'=H.set o (some (.cells (cells.take b++N++d))):=by
   intro c J;rcases Aj5 n c with z | z
   ·refine(C _ _ _ _ _ (Apb Z g u h (by omega) z M w X λq l k hk=>ah g X hk ae)).mono ?_;rintro r H' ⟨rfl,d,rfl⟩;refine .inr ⟨c,d,z,rfl,?_⟩;congr 3;rw[<- t,At2 b (i*sz),At2 (i*sz) b];have:cells.take (b+i*sz)=cells.take b++(cells.drop b).take (i*sz):=by rw[List.take_add]
    rw[this];simp[Ak7]
   ·have:c=n:=by omega
    subst this;refine(C _ _ _ _ _ (Apa hz g u h (by omega) M w S)).mono ?_;rintro r H' ⟨rfl,rfl⟩;exact .inl ⟨rfl,by rw[t]⟩
  have ab:ACalls P f [.sl o b n sz O,I i,.sl oj 0 1 sz (.ex 1)] H λr H'=>
    (r=.sl H.length 0 (n+1) sz (.ge (n+1))/\H'=H++[some (.cells N)])\/∃c d,n+1<=c/\r=.sl o b (n+1) sz (.ex c)/\H'=H.set o (some (.cells (cells.take b++N++d))):=by
   cases O with
   | ge k=>exact ACalls.room λc _ h=>Q c h
   | ex c=>exact Q c (by simpa[Dk,Room.least]using T)
  refine⟨.sl H.length 0 (n+1) sz (.ge (n+1)),H.set o none++[some (.cells N)],⟨rfl,?_,by simp,λj L V=>?_,λj L=>.inr (by simp[Ba]at L;omega),by simp[Dk,Room.least]⟩,?_⟩
  ·rw[AS (c:=N) (by rw[Aj8 (by simp)];simp) (by omega)];rw[Al8,Aj3 (by omega)]
  ·rw[Aj6 (by simpa using L),Cc (by simp[Ba]at V;omega)]
  refine ACalls.canon ab ?_;rintro E r1 H1 A;have R:DZ H.length N:=by
   have F:DZ H.length cells:=E o _ g;rw[YF]at F;rw[<- t];refine iL (iL ?_ (ai _)) ?_
   ·rw[YF];exact λa D=>F a (Aq0 (An8 D))
   ·rw[YF];exact λa D=>F a (Aq0 (An8 D))
  rcases A with⟨rfl,rfl⟩ | ⟨c,d,J,rfl,rfl⟩
  ·refine⟨_,_,_,Canon.grown E R,?_⟩;intro G v hG hr;refine⟨?_,λp ℓ h=>by cases h⟩;simp only[VR]at hr|-;obtain⟨q0,a,c,rfl,U,hs⟩:=hr;refine⟨by simp[Cfg.ren],a,c,rfl,U,?_⟩;simpa[Cfg.ren,Ab6,Aec]using hs
  ·have al:(n+1)*sz<=c*sz:=Ak5 _ J;refine⟨_,_,_,Canon.placed (off:=b) (l:=c*sz) E ag R (cs1:=cells.take b++N++d) ?_ ?_ ?_,?_⟩
   ·simp;omega
   ·have:(cells.take b).length=b:=by rw[Aj4];omega
    rw[Ak7]
    conv=>lhs;arg 2;arg 1;rw[<- this]
    rw[Aw1,List.take_left]
   ·rw[aa];omega
   ·intro G v hG hr;simp only[VR]at hr;obtain⟨q0,a,x,rfl,U,hs⟩:=hr;simp only[SlAt]at hs;obtain⟨rfl,hs⟩:=hs;have hs:=hs.resolve_left (by omega);obtain⟨rfl,ap⟩:=hs;have e:Aba H.length o b H.length=(o,b):=if_pos rfl;have y:yR H.length (x*sz) H.length=some (x*sz):=if_pos rfl;refine⟨?_,?_⟩
    ·simp only[VR];refine⟨by simp[Cfg.ren],_,x,rfl,by omega,?_⟩;simp only[SlAt];refine⟨J,.inr ⟨by simp[Cfg.ren,e],?_⟩⟩;simp[Cfg.ren,y]
    ·intro p ℓ h;unfold yR at h;split at h
     ·rename_i hp;injection h with h;subst hp;subst h;rw[e];omega
     ·cases h
 ·have:i=n:=by omega
  subst this;have hx:B1 H sz (.sl oj 0 1 sz (.ex 1))=some (xs,1):=AA (by rw[show sz=1*sz by omega]at w;rw[AS M (by omega),Al8,Aj3 (by omega)]);obtain⟨r,H',A,h2⟩:=Aoz (P:=P) (zc:=zc) (ov:=ov) (rot:=rot) hs W T rfl hx S;refine⟨r,H',?_,(C _ _ _ _ _ h2)⟩;rw[Aj3 (by omega),Ak6 (by omega),Am9];exact A
end
end
section
mutual
theorem Apc {m:Nat}:∀{a:AV},noIds a=true->HV m a
 | .lit _,_=>by simp only[HV]
 | .ptr ..,h=>by simp[noIds]at h
 | .ip cs,h=>by simp only[noIds]at h;simp only[HV];exact Gz h
 | .sl ..,h=>by simp[noIds]at h
 | .imm cs _ _,h=>by simp only[noIds]at h;simp only[HV];exact Gz h
 | .mp _,h=>by simp[noIds]at h
 | .agg cs,h=>by simp only[noIds]at h;simp only[HV];exact Gz h
 | .tup cs,h=>by simp only[noIds]at h;simp only[HV];exact Gz h
 | .fn _ a b,h=>by simp only[noIds,Am0]at h;simp only[HV];exact⟨Gz h.1,Gz h.2⟩
 | .emp,_=>by simp only[HV]
 | .junk,_=>by simp only[HV]
theorem Gz {m:Nat}:∀{xs:List AV},AF xs=true->DZ m xs
 | [],_=>by simp only[DZ]
 | a::r,h=>by simp only[AF,Am0]at h;simp only[DZ];exact⟨Apc h.1,Gz h.2⟩
end
section
variable {P : Program}
def Ahf (sz bytes:Nat)(zc:List AV)(a0 a1 a2:AV)(H:AH)(K:AV->AH->Prop):Prop:=bO (AW a0) λe=>bO (Bq sz a0 (some a1) (some a2) (some e)) λl=>bO (Ar .eql a1 a2) λg=>bB g λd=>bI d (K a0 H) (bO (AW a0) λh=>bO (Bq sz a0 none (some a1) none) λi=>bO (Bq sz a0 (some a2) none none) λj=>bH (Gt sz bytes H i j) λa c=>bO (AW a) λk=>bO (Bq sz a (some k) (some h) none) λf=>bS (Aam zc c f) λb=>K a b)
def Aed:T31:=λsz H s N n r H'=>Bm r=true/\Ac H' sz r=some (N,n)/\H'.length=H.length/\(∀i,i∉Ba s->H'[i]?=H[i]?)/\Ba r=Ba s/\Dk r n
abbrev Aa5:=And.intro @Aa @Af
theorem Ahg {sz bytes:Nat}{zc:List AV}(X:0<sz)(m:zc.length=sz){H:AH}{s:AV}{cs:List AV}{n i:Nat}(hs:Ac H sz s=some (cs,n+1))(N:Bm s=true)(L:Dk s (n+1))(hi:i<=n)(hn:n<=1000000)(Y:bytes<=1000000):
  ∃r H',Aed sz H s (cs.take (i*sz)++cs.drop ((i+1)*sz)) n r H'/\Ahf sz bytes zc s (I i) (I ((i:Int)+1)) H λQ x=>Q=r/\x=H':=by
 obtain⟨o,a,d,cells,rfl,l,hl,rfl⟩:=Ju hs N (by omega);have w:=(BG.1 l).1;have ae:(i+1)*sz=i*sz+sz:=An4 _ _;have af:(n+1)*sz=n*sz+sz:=An4 _ _;have ab:i*sz<=n*sz:=Ak5 _ (by omega);have ad:(i+1)*sz+(n - i)*sz=(n+1)*sz:=by rw[<- Ap2];congr 1;omega
 obtain⟨b,M,t⟩:∃b,Room.cut (n+1) 0 d=b/\n+1<=b.least:=by refine⟨_,rfl,?_⟩;cases d<;>simp_all[Room.cut,Room.least,Dk]<;>omega
 have K:∃f,Gt sz bytes H (.sl o a i sz b) (.sl o (a+(i+1)*sz) (n - i) sz (d.cut (n+1) (i+1)))=some (.sl o a n sz b,f)/\f.length=H.length/\(∀j,j≠o->f[j]?=H[j]?)/\f[o]?=some (some (.cells (Cq cells (a+i*sz) ((cells.drop (a+(i+1)*sz)).take ((n - i)*sz))))):=by
  have e:B1 H sz (.sl o (a+(i+1)*sz) (n - i) sz (d.cut (n+1) (i+1)))=some ((cells.drop (a+(i+1)*sz)).take ((n - i)*sz),n - i):=AA (by rw[AS l (by omega)]);unfold Gt;rw[e];simp only[Sy,l];rw[if_neg (by simp;omega)];have u:i+(n - i)=n:=by omega
  cases b with
  | ex k=>
   simp only[Room.least]at t;simp only[u,show n<=k by omega,if_true];exact⟨_,rfl,by simp,λj g=>by rw[Cc (Al6 g)],by simp[w]⟩
  | ge k=>
   simp only[Room.least]at t;by_cases h:n - i=0
   ·have:i=n:=by omega
    subst this;simp only[h,if_true];refine⟨_,rfl,rfl,λ_ _=>rfl,?_⟩;rw[l];simp[Cq]
   ·simp only[h,if_false,u,show n<=k by omega,if_true];exact⟨_,rfl,by simp,λj g=>by rw[Cc (Al6 g)],by simp[w]⟩
 obtain⟨f,E,G,J,F⟩:=K;have q:((cells.drop (a+(i+1)*sz)).take ((n - i)*sz)).length=(n - i)*sz:=by rw[Aj4,Aj9];omega
 have Z:(Cq cells (a+i*sz) ((cells.drop (a+(i+1)*sz)).take ((n - i)*sz))).length=cells.length:=Jt (by rw[q];omega);have O:o<f.length:=by omega
 refine⟨.sl o a n sz b,f.set o (some (.cells (Cq (Cq cells (a+i*sz) ((cells.drop (a+(i+1)*sz)).take ((n - i)*sz))) (a+n*sz) (Bx zc 1)))),⟨rfl,?_,?_,λj g=>?_,rfl,by simp only[Dk];omega⟩,?_⟩;rotate_left 3
 ·unfold Ahf;have P:((i:Int)+1)=((i+1:Nat):Int):=by omega
  have R:AW (.sl o a (n+1) sz d)=some (I ((n+1:Nat):Int)):=rfl;have aa:n+1<=d.least:=L;have p:∃v,Bq sz (.sl o a (n+1) sz d) (some (I i)) (some (I ((i+1:Nat):Int))) (some (I ((n+1:Nat):Int)))=some v:=by refine⟨.sl o (a+i*sz) (i+1 - i) sz (.ex (n+1 - i)),?_⟩;simp[Bq,BL,show(0:Int)<=(i:Int)+1 by omega,show(0:Int)<=(n:Int)+1 by omega];omega
  obtain⟨v,p⟩:=p;have S:Bq sz (.sl o a (n+1) sz d) none (some (I i)) none=some (.sl o a i sz b):=by rw[<- M];simp[Bq,BL];omega
  have T:Bq sz (.sl o a (n+1) sz d) (some (I ((i+1:Nat):Int))) none none=some (.sl o (a+(i+1)*sz) (n - i) sz (d.cut (n+1) (i+1))):=by
   have:((i:Int)+1)=((i+1:Nat):Int):=by omega
   simp[Bq,BL,-Int.natCast_add];omega
  have U:Bq sz (.sl o a n sz b) (some (I n)) (some (I ((n+1:Nat):Int))) none=some (.sl o (a+n*sz) 1 sz (b.cut n n)):=by simp[Bq,BL,show(0:Int)<=(n:Int)+1 by omega];omega
  have V:Ar .eql (I i) (I ((i+1:Nat):Int))=some (B false):=by simp;omega
  rw[P,R];simp only[Aa5,p,V,Ag,S,T,E,A6,AW,U];have zl:(Bx zc 1).length=sz:=by rw[EJ,m];omega
  have W:Aam zc f (.sl o (a+n*sz) 1 sz (b.cut n n))=some (f.set o (some (.cells (Cq (Cq cells (a+i*sz) ((cells.drop (a+(i+1)*sz)).take ((n - i)*sz))) (a+n*sz) (Bx zc 1))))):=by unfold Aam;simp only[F];rw[if_pos ⟨m,by omega,by omega⟩,if_neg (by omega),Fp _ _ _ (by omega)];rfl
  rw[W];simp only[A9];exact⟨trivial,trivial⟩
 ·rw[AS (c:=Cq (Cq cells (a+i*sz) ((cells.drop (a+(i+1)*sz)).take ((n - i)*sz))) (a+n*sz) (Bx zc 1)) (by simp[O]) (by rw[Jt (by rw[EJ,m];omega)];omega)];congr 2;have y:((cells.drop a).take ((n+1)*sz)).take (i*sz)=(cells.drop a).take (i*sz):=by rw[Ap3];congr 1;omega
  have z:((cells.drop a).take ((n+1)*sz)).drop ((i+1)*sz)=(cells.drop (a+(i+1)*sz)).take ((n - i)*sz):=by rw[Ar1,Ap8];congr 1;omega
  rw[y,z];have A:(n:Nat)*sz=i*sz+(n - i)*sz:=by rw[<- Ap2];congr 1;omega
  generalize (cells.drop (a+(i+1)*sz)).take ((n - i)*sz)=D at*;have C:((Cq (Cq cells (a+i*sz) D) (a+n*sz) (Bx zc 1)).drop a).take (n*sz)=((Cq cells (a+i*sz) D).drop a).take (n*sz):=by
   refine Am4 λk=>?_;rw[Ak2,Ak2];by_cases c:k<n*sz
   ·rw[if_pos c,if_pos c,Ak3,Ak3,NJ (by rw[EJ,m];omega),if_neg (by omega)]
   ·rw[if_neg c,if_neg c]
  rw[C,A];have:=(uF cells a (i*sz) D (by omega)).1;rw[q]at this;exact this
 ·simp[G]
 ·rw[Cc (by simp[Ba]at g;omega)];exact J j (by simpa[Ba]using g)
end
end
section
theorem compareString_calls (a b:ByteArray)(H:AH):Ba3 168 [.lit (.string a),.lit (.string b)] H λr H'=>r=.lit (.int .i64 (Lib.compareBytes a.data.toList b.data.toList))/\H'=H:=by
 refine ACalls.of_body func168 rfl ?_;refine ACode.seq (ACode.region (AOps.op rfl rfl (AOps.nil ?_)));refine ACode.seq (ACode.region (AOps.op rfl rfl (AOps.op rfl rfl (AOps.extern rfl rfl (r:=.lit (.int .i64 (Lib.compareBytes a.data.toList b.data.toList))) ?_ (AOps.op rfl rfl (AOps.nil ?_))))))
 ·intro G f g d;have c:VRs G [.lit (.string a),.lit (.string b)] f:=d;simp only[VRs,VR]at c;obtain⟨_,_,rfl,rfl,_,_,rfl,rfl,rfl⟩:=c;refine⟨.int .i64 (Lib.compareBytes a.data.toList b.data.toList),?_,by simp only[VR]⟩
  rw[run_callFunc_extern func200 (by kernel_rfl) (by kernel_rfl) (by kernel_rfl) (e:=Extern.BytealgCompare.compare) (by kernel_rfl),
   Lib.run_compareString (P:=prog) a b G.w]
  rfl
 ·exact ACode.ret ⟨.inr rfl,_,rfl,rfl,rfl⟩
structure Nm where
 name:List UInt8
 ino:Int
 deriving DecidableEq
def Ct (x:Nm):List AV:=[S (Ax x.name),I x.ino]
theorem Cg (x:Nm):(Ct x).length=2:=rfl
theorem Yf (x:Nm):AF (Ct x)=true:=rfl
structure Nd where
 ino:Int
 size:Int
 l:List Ext
 deriving DecidableEq
structure NdV where
 nd:Nd
 R:AV
 h:SV AB 9 nd.l R
abbrev NdV.ino (x:NdV):Int:=x.nd.ino
def BS (x:NdV):List AV:=[I x.nd.ino,I x.nd.size,x.R]
theorem BN (x:NdV):(BS x).length=3:=rfl
theorem SP (x:NdV):AF (BS x)=true:=by simp[BS,AF,noIds,x.h.1]
theorem aR (x:Nm)(t:List AV):(Ct x++t)[0]?=some (S (Ax x.name)):=rfl
theorem oO (x:Nm)(t:List AV):(Ct x++t)[1]?=some (I x.ino):=rfl
theorem wA (x:NdV)(t:List AV):(BS x++t)[0]?=some (I x.nd.ino):=rfl
theorem Apd (x:NdV)(t:List AV):(BS x++t)[2]?=some x.R:=rfl
theorem koI:KO Cj where
 eq a b:=by unfold Cj;split<;>(try split)<;>omega
 anti a b:=by unfold Cj;split<;>(try split)<;>(try split)<;>omega
 trans a b d:=by unfold Cj;intro h1 h2;split at h1<;>split at h2<;>(try split at h1)<;>(try split at h2)<;>split<;>omega
theorem S4 {a b:Int}:Cj a b<0↔a<b:=by unfold Cj;split<;>(try split)<;>omega
theorem SV.oneA {α:Type}{enc:α->List AV}{sz:Nat}{l:List α}{v:AV}(h:SV enc sz l v):oneA v=true:=by
 have a:=h.2 [];unfold Ac at a;split at a
 all_goals first | rfl | cases a
def VA (y:UInt8):Prop:=(97<=(y.toNat:Int)/\(y.toNat:Int)<=122)\/(48<=(y.toNat:Int)/\(y.toNat:Int)<=57)\/(y.toNat:Int)=46\/(y.toNat:Int)=95\/(y.toNat:Int)=45
instance (y:UInt8):Decidable (VA y):=by unfold VA;infer_instance
def Ek (s:List UInt8):Prop:=s≠[]/\s.length<=20/\s[0]?≠some 45/\∀b∈s,VA b
instance (s:List UInt8):Decidable (Ek s):=by unfold Ek;infer_instance
theorem Ape (y:UInt8):Ba2 166 [.lit (.int .u8 y.toNat)] (B (decide (VA y))):=BPure.flat λH=>wE (by
 unfold tN;unfold VA;by_cases b:(97:Int)<=y.toNat
 ·by_cases a:(y.toNat:Int)<=122
  ·simp[b,a]
  ·have i:¬(y.toNat:Int)<=57:=by omega
   have d:¬(y.toNat:Int)=46:=by omega
   have j:¬(y.toNat:Int)=95:=by omega
   have e:¬(y.toNat:Int)=45:=by omega
   simp[b,a,i,d,j,e,show(48:Int)<=y.toNat by omega]
 ·by_cases a:(48:Int)<=y.toNat
  ·by_cases f:(y.toNat:Int)<=57
   ·simp[b,a,f]
   ·by_cases c:(y.toNat:Int)=95
    ·simp[c]
    ·have d:¬(y.toNat:Int)=46:=by omega
     have e:¬(y.toNat:Int)=45:=by omega
     simp[b,a,f,c,d,e]
  ·by_cases c:(y.toNat:Int)=46
   ·simp[c]
   ·by_cases g:(y.toNat:Int)=95
    ·simp[g]
    ·by_cases h:(y.toNat:Int)=45
     ·simp[h]
     ·simp[b,a,c,g,h])
theorem Aee {y:UInt8}{k:UInt8}{n:Int}(h:(k.toNat:Int)=n):((y.toNat:Int)=n)=(y=k):=by
 refine propext ⟨λe=>UInt8.toNat_inj.1 (by omega),λe=>by rw[e];exact h⟩
theorem Ua {s:List UInt8}(hs:s.length<=9223372036854775807):Ba2 102 [S (Ax s)] (B (decide (Ek s))):=BPure.flat λH=>jD (by
 unfold ZU;rw[oA,DC,FL hs];have J:∀t:List UInt8,t=s->0<t.length->t.length<=20->t[0]?≠some 45->Nj (S (Ax t)) (I t.length) (I 0) H λr H'=>r=B (decide (Ek t))/\H'=H:=by
  intro t _ g D E;refine WC (λn x A C H'=>∃k:Nat,k+n=t.length/\x=S (Ax t)/\A=I t.length/\C=I k/\H'=H/\∀m y,m<k->t[m]?=some y->VA y) ?_ t.length ⟨0,by omega,rfl,rfl,rfl,rfl,by omega⟩;rintro n x A C H' R F ⟨k,K,rfl,rfl,rfl,rfl,v⟩;unfold Qu;rcases Aj5 k t.length with h | h
  ·have f:=Dq h;generalize t[k]=y at f;simp[h,I7 rfl f];refine Az (Ape y) ?_;by_cases o:VA y
   ·simp[o,Au (a:=k) (b:=1) (by omega) (by omega)];refine F (n - 1) _ _ _ _ (by omega) ⟨k+1,by omega,rfl,rfl,by simp,rfl,?_⟩;intro m z d j;by_cases c:m=k
    ·rw[c,f]at j;injection j with j;rw[<- j];exact o
    ·exact v m z (by omega) j
   ·have:¬Ek t:=λd=>o (d.2.2.2 y (Aj2 f));simp[o,this]
  ·have:Ek t:=⟨λe=>by rw[e]at g;simp at g,D,E,λb G=>by obtain⟨m,d⟩:=Ak0.1 G;have:=(BG.1 d).1;exact v m b (by omega) d⟩;simp[show ¬k<t.length by omega,this]
 by_cases g:s=[]
 ·subst g;simp[Ek]
 ·have w:0<s.length:=List.length_pos_iff.2 g;by_cases u:s.length<=20
  ·have f:=Dq w;have p:¬(20:Int)<s.length:=by omega
   generalize s[0]=y at f;simp[g,PQ,p,I7 (k:=0) (i:=0) rfl f];have q:((y.toNat:Int)=45)=(y=45):=Aee rfl;by_cases l:(y.toNat:Int)=45
   ·have:¬Ek s:=λd=>d.2.2.1 (by rw[f,q.mp l]);simp[l,this]
   ·simp[l];exact J s rfl w u (by rw[f];intro e;injection e with e;exact l (q.mpr e))
  ·have p:(20:Int)<s.length:=by omega
   have:¬Ek s:=λd=>u d.2.1;simp[g,PQ,p,this])
theorem Apf (a b:List UInt8):Ba2 109 [S (Ax a),S (Ax b)] (I (Bv a b)):=BPure.flat λH=>cN (by
 unfold W4;exact Az (λH=>by have:=compareString_calls (Ax a) (Ax b) H;exact this) ⟨rfl,rfl⟩)
theorem Ahh (x:Nm)(s:List UInt8):Ba2 108 [.agg (Ct x),S (Ax s)] (I (Bv x.name s)):=BPure.val (by simp[AF,noIds,Yf]) rfl (jE (by
 unfold ZX;unfold Ct;simp;refine Az (Apf x.name s) ?_;rfl))
theorem Ahi (x:NdV)(no:Int):Ba2 93 [.agg (BS x),I no] (I (Cj x.nd.ino no)):=BPure.val (by simp[AF,noIds,SP]) rfl (mJ (by
 unfold eQ;unfold BS;have a:=SV.oneA x.h;simp[a];refine Az (Z8 x.nd.ino no) ?_;rfl))
theorem Acf (x:Nm)(t:List AV):A1 true 2 (Ct x++t) 0=some (.agg (Ct x)):=by
 simp[A1,Ct]
theorem Acw (x:NdV)(t:List AV):A1 true 3 (BS x++t) 0=some (.agg (BS x)):=by
 simp[A1,BS]
theorem Ahj:Ch prog 108=true:=by kernel_rfl
theorem Apg {l:List Nm}{v:AV}(k:SV Ct 2 l v)(hs:CQ Bv Nm.name l)(hl:l.length<=281474976710656)(no:List UInt8):
  Ba2 107 [v,S (Ax no),.fn (.func 108) [] []] (.tup [I (DG Bv Nm.name l no),B (decide (Bo Nm.name l no))]):=BPure.val (by simp[AF,noIds,k.1]) rfl (EE (by
 unfold CT;simp[k.len];refine DY (λn u w C D E A H'=>∃i j:Nat,i+n=j/\j<=l.length/\u=v/\w=S (Ax no)/\C=.fn (.func 108) [] []/\D=I l.length/\E=I i/\A=I j/\H'=[]/\(∀m x,m<i->l[m]?=some x->Bv (Nm.name x) no<0)/\(∀m x,j<=m->l[m]?=some x->¬Bv (Nm.name x) no<0)) ?_ l.length ⟨0,l.length,by simp,by omega,rfl,rfl,rfl,rfl,rfl,rfl,rfl,by simp,λm x t c=>by have:=(BG.1 c).1;omega⟩;rintro n u w C D E A H' R s ⟨i,j,N,J,rfl,rfl,rfl,rfl,rfl,rfl,rfl,q,r⟩;unfold Cz;rcases Aj5 i j with K | M
 ·have c:=Dq (l:=l) (i:=(i+j)/2) (by omega);generalize l[(i + j) / 2]'(by omega)=y at c;simp [K,Au (a:=i) (b:=j) (by omega) (by omega),vE (n:=(i : Int) + j) (by omega) (by omega),nM,vD (a:=((i : Int) + j) / 2) (by omega) (by omega),k.idx Cg c (i:=((i : Int) + j) / 2) (by omega),Ahj,Acf];refine bC_of (Ahh y no []) ?_;by_cases f:Bv (Nm.name y) no<0
  ·simp[f,Au (a:=((i:Int)+j)/2) (b:=1) (by omega) (by omega)];refine s (j - ((i+j)/2+1)) _ _ _ _ _ _ _ (by omega) ⟨(i+j)/2+1,j,by omega,J,rfl,rfl,rfl,rfl,by simp,rfl,rfl,?_,r⟩;intro m x t d;by_cases p:m=(i+j)/2
   ·rw[p,c]at d;injection d with e;rw[<- e];exact f
   ·exact koN.trans _ _ _ (O8 hs d c (by omega)) f
  ·simp[f];refine s ((i+j)/2 - i) _ _ _ _ _ _ _ (by omega) ⟨i,(i+j)/2,by omega,by omega,rfl,rfl,rfl,rfl,rfl,by simp,rfl,q,?_⟩;intro m x t d;by_cases p:m=(i+j)/2
   ·rw[p,c]at d;injection d with e;rw[<- e];exact f
   ·intro F;exact f (koN.trans _ _ _ (O8 hs c d (by omega)) F)
 ·have H:i=j:=by omega
  subst H;have h:DG Bv Nm.name l no=i:=SR (by omega) q (λx c=>r i x (by omega) c);rcases Aj5 i l.length with o | o
  ·have c:=Dq (l:=l) (i:=i) o;generalize l[i]=y at c;have G:Bo Nm.name l no↔Bv (Nm.name y) no=0:=by
    rw[Qt koN hs,h,koN.eq];constructor
    ·rintro⟨z,g,e⟩;rw[c]at g;injection g with g;rw[g,e]
    ·intro e;exact⟨y,c,e⟩
   simp[o,k.idx Cg c rfl,Ahj,Acf];refine bC_of (Ahh y no []) ?_;simp[h,G]
  ·have L:¬Bo Nm.name l no:=by rw[Qt koN hs,h];rintro⟨z,g,e⟩;have:=(BG.1 g).1;omega
   simp[show ¬i<l.length by omega,h,L]))
theorem Ahk:Ch prog 93=true:=by kernel_rfl
theorem Aph {l:List NdV}{v:AV}(k:SV BS 3 l v)(hs:CQ Cj NdV.ino l)(hl:l.length<=281474976710656)(no:Int):
  Ba2 92 [v,I no,.fn (.func 93) [] []] (.tup [I (DG Cj NdV.ino l no),B (decide (Bo NdV.ino l no))]):=BPure.val (by simp[AF,noIds,k.1]) rfl (Fc (by
 unfold Dn;simp[k.len];refine E1 (λn u w C D E A H'=>∃i j:Nat,i+n=j/\j<=l.length/\u=v/\w=I no/\C=.fn (.func 93) [] []/\D=I l.length/\E=I i/\A=I j/\H'=[]/\(∀m x,m<i->l[m]?=some x->Cj (NdV.ino x) no<0)/\(∀m x,j<=m->l[m]?=some x->¬Cj (NdV.ino x) no<0)) ?_ l.length ⟨0,l.length,by simp,by omega,rfl,rfl,rfl,rfl,rfl,rfl,rfl,by simp,λm x t c=>by have:=(BG.1 c).1;omega⟩;rintro n u w C D E A H' R s ⟨i,j,N,J,rfl,rfl,rfl,rfl,rfl,rfl,rfl,q,r⟩;unfold CC;rcases Aj5 i j with K | M
 ·have c:=Dq (l:=l) (i:=(i+j)/2) (by omega);generalize l[(i + j) / 2]'(by omega)=y at c;simp [K,Au (a:=i) (b:=j) (by omega) (by omega),vE (n:=(i : Int) + j) (by omega) (by omega),nM,vD (a:=((i : Int) + j) / 2) (by omega) (by omega),k.idx BN c (i:=((i : Int) + j) / 2) (by omega),Ahk,Acw];refine bC_of (Ahi y no []) ?_;by_cases f:Cj (NdV.ino y) no<0
  ·simp[f,Au (a:=((i:Int)+j)/2) (b:=1) (by omega) (by omega)];refine s (j - ((i+j)/2+1)) _ _ _ _ _ _ _ (by omega) ⟨(i+j)/2+1,j,by omega,J,rfl,rfl,rfl,rfl,by simp,rfl,rfl,?_,r⟩;intro m x t d;by_cases p:m=(i+j)/2
   ·rw[p,c]at d;injection d with e;rw[<- e];exact f
   ·exact koI.trans _ _ _ (O8 hs d c (by omega)) f
  ·simp[f];refine s ((i+j)/2 - i) _ _ _ _ _ _ _ (by omega) ⟨i,(i+j)/2,by omega,by omega,rfl,rfl,rfl,rfl,rfl,by simp,rfl,q,?_⟩;intro m x t d;by_cases p:m=(i+j)/2
   ·rw[p,c]at d;injection d with e;rw[<- e];exact f
   ·intro F;exact f (koI.trans _ _ _ (O8 hs c d (by omega)) F)
 ·have H:i=j:=by omega
  subst H;have h:DG Cj NdV.ino l no=i:=SR (by omega) q (λx c=>r i x (by omega) c);rcases Aj5 i l.length with o | o
  ·have c:=Dq (l:=l) (i:=i) o;generalize l[i]=y at c;have G:Bo NdV.ino l no↔Cj (NdV.ino y) no=0:=by
    rw[Qt koI hs,h,koI.eq];constructor
    ·rintro⟨z,g,e⟩;rw[c]at g;injection g with g;rw[g,e]
    ·intro e;exact⟨y,c,e⟩
   simp[o,k.idx BN c rfl,Ahk,Acw];refine bC_of (Ahi y no []) ?_;simp[h,G]
  ·have L:¬Bo NdV.ino l no:=by rw[Qt koI hs,h];rintro⟨z,g,e⟩;have:=(BG.1 g).1;omega
   simp[show ¬i<l.length by omega,h,L]))
def iS (a:List (Int×AV)):List (Value×AV):=a.map λp=>(.int .i64 p.1,p.2)
def Aar (z:AV)(a:List (Int×AV))(k:Int):AV:=match a.find? (λp=>p.1==k)with
 | some p=>p.2
 | none=>z
theorem Api (a b:Int):Instr.sameNow (.int .i64) (.int .i64 a) (.int .i64 b)=some (a==b):=rfl
theorem iW (k:Int):∀(a:List (Int×AV)) (i:Nat),Ux (.int .i64) (.int .i64 k) (iS a) i=some ((a.findIdx? (λp=>p.1==k)).bind λj=>(a[j]?).map λp=>(i+j,p.2))
 | [],i=>rfl
 | p::a,i=>by
  show(match Instr.sameNow (.int .i64) (.int .i64 k) (.int .i64 p.1)with
   | some true=>some (some (i,p.2))
   | some false=>Ux (.int .i64) (.int .i64 k) (iS a) (i+1)
   | none=>none)=_
  rw[Api,List.findIdx?_cons];by_cases h:p.1=k
  ·have b:(k==p.1)=true:=by simp[h]
   have c:(p.1==k)=true:=by simp[h]
   simp[b,c]
  ·have b:(k==p.1)=false:=by simp;omega
   have c:(p.1==k)=false:=by simp[h]
   simp only[b,c];rw[iW k a (i+1)];cases a.findIdx? (λp=>p.1==k)with
   | none=>rfl
   | some j=>
    simp;cases a[j]? with
    | none=>rfl
    | some q=>simp;omega
abbrev Au8:=@List.find?_eq_none
abbrev Ap5:=@List.findIdx?_eq_none_iff
theorem Apj {z:AV}{a:List (Int×AV)}{k:Int}(h:a.findIdx? (λp=>p.1==k)=none):Aar z a k=z:=by
 have:a.find? (λp=>p.1==k)=none:=by rw[Au8];intro x b;rw[Ap5]at h;simpa using h x b
 unfold Aar;rw[this]
abbrev Ap9:=@List.findIdx?_eq_some_iff_getElem
theorem tV {z:AV}{a:List (Int×AV)}{k:Int}{j:Nat}(h:a.findIdx? (λp=>p.1==k)=some j):∃p,a[j]?=some p/\p.1=k/\Aar z a k=p.2:=by
 obtain⟨b,c,d⟩:=Ap9.1 h;refine⟨a[j],Dq b,by simpa using c,?_⟩;have:a.find? (λp=>p.1==k)=some a[j]:=by rw[List.find?_eq_some_iff_getElem];exact⟨c,j,b,rfl,λi e=>by simpa using d i e⟩
 unfold Aar;rw[this]
theorem Ahl {H:AH}{o:Nat}{b:Value}{a:List (Int×AV)}{k:Int}(h:H[o]?=some (some (.map (iS a)))):Aal (.int .i64) b H (.mp o) (.lit (.int .i64 k)) false=some (Aar (.ofV b) a k):=by
 have f:sD (.int .i64) (.int .i64 k)=true:=rfl;unfold Aal dR;simp only[h,f,if_true,iW];cases c:a.findIdx? (λp=>p.1==k)with
 | none=>rw[Apj c];rfl
 | some j=>
  obtain⟨p,d,g,e⟩:=tV (z:=.ofV b) c;simp[d,e]
def Acx (a:List (Int×AV))(k:Int)(v:AV):List (Int×AV):=match a.findIdx? (λp=>p.1==k)with
 | some j=>a.set j (k,v)
 | none=>a++[(k,v)]
theorem Apk {H:AH}{o:Nat}{a:List (Int×AV)}{k:Int}{v:AV}(h:H[o]?=some (some (.map (iS a)))):Abq (.int .i64) H (.mp o) (.lit (.int .i64 k)) v=some (H.set o (some (.map (iS (Acx a k v))))):=by
 have d:sD (.int .i64) (.int .i64 k)=true:=rfl;unfold Abq Acx;simp only[h,d,if_true,iW];cases c:a.findIdx? (λp=>p.1==k)with
 | none=>simp[iS]
 | some j=>
  obtain⟨p,b,e,f⟩:=tV (z:=.junk) c;simp[b,iS,Au5]
def VY (size pos:Int):List Ext->Option Int
 | []=>none
 | x::r=>if max pos (x.no*8)<min size ((x.no+1)*8)then some (max pos (x.no*8))else VY size pos r
def Un (size:Int)(l:List Ext)(pos:Int):Option Int:=if CZ size l/\0<=pos then VY size pos l else none
theorem oJ {size pos:Int}{x:Ext}{r:List Ext}:VY size pos (x::r)=if max pos (x.no*8)<min size ((x.no+1)*8)then some (max pos (x.no*8))else VY size pos r:=rfl
theorem rQ {size:Int}{l:List Ext}{v:AV}(g:SV AB 9 l v)(hl:l.length<=281474976710656)(pos:Int):
  Ba2 179 [.agg [I size,v],I pos] (oI (Un size l pos)):=BPure.val (by simp[AF,noIds,g.1]) (by cases Un size l pos<;>rfl) (oS (by
 unfold kS;simp[Dg g,A1];refine Az (Fu g hl) ?_;by_cases f:CZ size l
 ·by_cases m:pos<0
  ·have:¬(CZ size l/\0<=pos):=λh=>by omega
   simp[f,m,Un,oI,show ¬(0:Int)<=pos by omega]
  ·have e:Un size l pos=VY size pos l:=if_pos ⟨f,by omega⟩;simp[f,m,g.len,e];refine Zb (λn p t q r s H'=>∃(k:Nat),k+n=l.length/\p=I pos/\t=.ptr 0 0/\q=v/\r=I l.length/\s=I k/\(∃X,H'=some (.cells [I size,v])::X)/\VY size pos l=VY size pos (l.drop k)) ?_ l.length ⟨0,by simp,rfl,rfl,rfl,rfl,rfl,⟨[],rfl⟩,by simp⟩;rintro n p t q r s H' R u ⟨k,x,rfl,rfl,rfl,rfl,rfl,⟨X,rfl⟩,d⟩;unfold Ur;rcases Aj5 k l.length with o | w
   ·have j:=Dq o;generalize l[k]=y at j;rw[Cs j,oJ]at d;have z:=N1 f.2.2 y (Aj2 j);simp[o,g.idx AD j rfl,-CY];rw[<- Ap4,sW (by simp) (by rfl)];simp[Dp (a:=y.no) (b:=8) (by omega) (by omega),Au (a:=y.no) (b:=1) (by omega) (by omega),Dp (a:=y.no+1) (b:=8) (by omega) (by omega)];have c:(max pos (y.no*8)<min size ((y.no+1)*8))↔(max (y.no*8) pos<min ((y.no+1)*8) size):=by omega
    by_cases i:max (y.no*8) pos<min ((y.no+1)*8) size
    ·rw[if_pos (c.2 i)]at d;simp[d,i,oI];omega
    ·rw[if_neg (λh=>i (c.1 h))]at d;simp[i,Au (a:=k) (b:=1) (by omega) (by omega)];exact u (n - 1) _ _ _ _ _ _ (by omega) ⟨k+1,by omega,rfl,rfl,rfl,rfl,rfl,⟨X++[some (.cells (AB y))],rfl⟩,d⟩
   ·have:k=l.length:=by omega
    subst this;rw[Ar2]at d;simp[d,VY,oI]
 ·simp[f,Un,oI]))
theorem fM {size:Int}{l:List Ext}{v:AV}(d:SV AB 9 l v)(hl:l.length<=281474976710656)(pos:Int):
  Ba2 180 [.agg [I size,v],I pos] (oI (Un size l pos)):=BPure.val (by simp[AF,noIds,d.1]) (by cases Un size l pos<;>rfl) (Rg (by
 unfold K8;simp[Dg d,A1];refine Az (CW d hl) ?_;by_cases f:CZ size l
 ·by_cases j:pos<0
  ·simp[f,j,Un,oI,show ¬(0:Int)<=pos by omega]
  ·have e:Un size l pos=VY size pos l:=if_pos ⟨f,by omega⟩;simp[f,j,e];refine Mm (λn p q r H'=>∃(k:Nat),k+n=l.length/\p=I pos/\q=.ptr 0 0/\r=I k/\H'=[some (.cells [I size,v])]/\VY size pos l=VY size pos (l.drop k)) ?_ l.length ⟨0,by simp,rfl,rfl,rfl,rfl,by simp⟩;rintro n p q r H' R s ⟨k,x,rfl,rfl,rfl,rfl,c⟩;unfold GS;rcases Aj5 k l.length with m | w
   ·have g:=Dq m;generalize l[k]=y at g;rw[Cs g,oJ]at c;have z:=N1 f.2.2 y (Aj2 g);simp[m,d.len,d.idx AD g rfl,Dp (a:=y.no) (b:=8) (by omega) (by omega),Au (a:=y.no) (b:=1) (by omega) (by omega),Dp (a:=y.no+1) (b:=8) (by omega) (by omega)];have o:¬max pos (y.no*8)<min size ((y.no+1)*8)->(bO (Ar .add (I k) (I 1)) λu=>R [I pos,.ptr 0 0,u] [some (.cells [I size,v])]):=by intro t;rw[if_neg t]at c;simp[Au (a:=k) (b:=1) (by omega) (by omega)];exact s (n - 1) _ _ _ _ (by omega) ⟨k+1,by omega,rfl,rfl,rfl,rfl,c⟩
    by_cases h:max pos (y.no*8)<(y.no+1)*8
    ·by_cases i:max pos (y.no*8)<size
     ·rw[if_pos (by omega)]at c;simp[h,i,c,oI]
     ·simp[h,i];exact o (by omega)
    ·simp[h];exact o (by omega)
   ·have:k=l.length:=by omega
    subst this;rw[Ar2]at c;simp[c,d.len,VY,oI]
 ·simp[f,Un,oI]))
def holeR (size:Int)(l:List Ext)(pos h:Int):Prop:=pos<=h/\h<=size/\(∀p,pos<=p->p<h->Cp l (p/8))/\(h=size\/¬Cp l (h/8))
theorem holeR.uniq {size:Int}{l:List Ext}{pos c d:Int}(a:holeR size l pos c)(b:holeR size l pos d):c=d:=by
 rcases Int.lt_trichotomy c d with h | h | h
 ·rcases a.2.2.2 with e | e
  ·have:=b.2.1;omega
  ·exact(e (b.2.2.1 c a.1 h)).elim
 ·exact h
 ·rcases b.2.2.2 with e | e
  ·have:=a.2.1;omega
  ·exact(e (a.2.2.1 d b.1 h)).elim
theorem Ahm {size:Int}{l:List Ext}:∀(n:Nat) (pos:Int),size - pos=n->∃h,holeR size l pos h:=by
 intro n
 induction n using Nat.strongRecOn with
 | ind n ih=>
  intro pos j;by_cases g:pos=size
  ·exact⟨size,by omega,by omega,λp a b=>by omega,.inl rfl⟩
  ·by_cases a:Cp l (pos/8)
   ·obtain⟨h,f,a2,d,e⟩:=ih (size - min size ((pos/8+1)*8)).toNat (by omega) (min size ((pos/8+1)*8)) (by omega);refine⟨h,by omega,a2,λp b c=>?_,e⟩;by_cases i:p<min size ((pos/8+1)*8)
    ·rw[show p/8=pos/8 by omega];exact a
    ·exact d p (by omega) c
   ·exact⟨pos,by omega,by omega,λp b c=>by omega,.inr a⟩
open Classical in
noncomputable def eE (size:Int)(l:List Ext)(pos:Int):Option Int:=if h:CZ size l/\0<=pos/\pos<size then some (Ahm (size:=size) (l:=l) (size - pos).toNat pos (by omega)).choose else none
theorem pI {size:Int}{l:List Ext}{pos:Int}(h:¬(CZ size l/\0<=pos/\pos<size)):eE size l pos=none:=dif_neg h
theorem pJ {size:Int}{l:List Ext}{pos:Int}(h:CZ size l/\0<=pos/\pos<size):∃p,eE size l pos=some p/\holeR size l pos p:=
 ⟨_,dif_pos h,(Ahm (size:=size) (l:=l) (size - pos).toNat pos (by omega)).choose_spec⟩
theorem rR {size:Int}{l:List Ext}{v:AV}(i:SV AB 9 l v)(hl:l.length<=281474976710656)(pos:Int):
  Ba2 181 [.agg [I size,v],I pos] (oI (eE size l pos)):=BPure.val (by simp[AF,noIds,i.1]) (by cases eE size l pos<;>rfl) (oU (by
 unfold kU;simp[Dg i,A1];refine Az (Fu i hl) ?_;by_cases g:CZ size l/\0<=pos/\pos<size
 ·obtain⟨q,e,s⟩:=pJ g;obtain⟨d,j,o⟩:=g;have hs:=JX d.2.2;have B:=d.2.1;simp[d,show ¬pos<0 by omega,show ¬size<=pos by omega,e,oI];refine Zc (λn t u H'=>∃p:Int,(size+8 - p).toNat=n/\t=.ptr 0 0/\u=I p/\H'=[some (.cells [I size,v])]/\pos<=p/\p<=size+7/\∀r,pos<=r->r<p->r<size->Cp l (r/8)) ?_ (size+8 - pos).toNat ⟨pos,rfl,rfl,rfl,rfl,by omega,by omega,λr a b c=>by omega⟩;rintro n t u H' R x ⟨p,z,rfl,rfl,rfl,y,A,k⟩;unfold Us;by_cases m:p<size
  ·simp[m,JQ (a:=p) (b:=8) (by omega) (by omega)];refine Az (XN i hs hl (p/8)) ?_;by_cases f:Cp l (p/8)
   ·simp[f,Au (a:=p/8) (b:=1) (by omega) (by omega),Dp (a:=p/8+1) (b:=8) (by omega) (by omega)];refine x (size+8 - (p/8+1)*8).toNat _ _ _ (by omega) ⟨(p/8+1)*8,rfl,rfl,rfl,rfl,by omega,by omega,λr a b c=>?_⟩;by_cases w:r<p
    ·exact k r a w c
    ·rw[show r/8=p/8 by omega];exact f
   ·simp[f];exact holeR.uniq ⟨y,by omega,λr a b=>k r a b (by omega),.inr f⟩ s
  ·simp[m];exact holeR.uniq ⟨by omega,by omega,λr a b=>k r a (by omega) b,.inl rfl⟩ s
 ·rw[pI g];by_cases d:CZ size l
  ·by_cases j:pos<0
   ·simp[d,j,oI]
   ·have o:size<=pos:=by
     rcases Int.lt_or_le pos size with h | h
     ·exact(g ⟨d,by omega,h⟩).elim
     ·exact h
    simp[d,j,o,oI]
  ·simp[d,oI]))
theorem fN {size:Int}{l:List Ext}{v:AV}(g:SV AB 9 l v)(hl:l.length<=281474976710656)(pos:Int):
  Ba2 182 [.agg [I size,v],I pos] (oI (eE size l pos)):=BPure.val (by simp[AF,noIds,g.1]) (by cases eE size l pos<;>rfl) (Ri (by
 unfold K9;simp[Dg g,A1];refine Az (CW g hl) ?_;by_cases f:CZ size l/\0<=pos/\pos<size
 ·obtain⟨q,e,m⟩:=pJ f;obtain⟨c,i,k⟩:=f;have hs:=JX c.2.2;have D:=c.2.1;simp[c,show ¬pos<0 by omega,show ¬size<=pos by omega,e,oI];refine Mn (λn s t H'=>∃p:Int,(1099511627784 - p).toNat=n/\t=.ptr 0 0/\s=I p/\H'=[some (.cells [I size,v])]/\pos<=p/\p<=1099511627776/\∀r,pos<=r->r<p->Cp l (r/8)) ?_ (1099511627784 - pos).toNat ⟨pos,rfl,rfl,rfl,rfl,by omega,by omega,λr a b=>by omega⟩;rintro n s t H' R w ⟨p,B,rfl,rfl,rfl,y,C,j⟩;unfold GT;simp[A1,JQ (a:=p) (b:=8) (by omega) (by omega)];refine Az (bV g hs hl (p/8)) ?_;by_cases d:Cp l (p/8)
  ·obtain⟨x,o,z⟩:=d;have E:=N1 c.2.2 x o;have d:Cp l (p/8):=⟨x,o,z⟩;simp[d,Au (a:=p/8) (b:=1) (by omega) (by omega),Dp (a:=p/8+1) (b:=8) (by omega) (by omega)];refine w (1099511627784 - (p/8+1)*8).toNat _ _ _ (by omega) ⟨(p/8+1)*8,rfl,rfl,rfl,rfl,by omega,by omega,λr a b=>?_⟩;by_cases u:r<p
   ·exact j r a u
   ·rw[show r/8=p/8 by omega];exact d
  ·simp[d];by_cases A:p<size
   ·rw[show min size p=p by omega];exact holeR.uniq ⟨y,by omega,λr a b=>j r a b,.inr d⟩ m
   ·rw[show min size p=size by omega];exact holeR.uniq ⟨by omega,by omega,λr a b=>j r a (by omega),.inl rfl⟩ m
 ·rw[pI f];by_cases c:CZ size l
  ·by_cases i:pos<0
   ·simp[c,i,oI]
   ·have k:size<=pos:=by
     rcases Int.lt_or_le pos size with h | h
     ·exact(f ⟨c,by omega,h⟩).elim
     ·exact h
    simp[c,i,k,oI]
  ·simp[c,oI]))
def Ml (l:List Ext)(p:Int):UInt8:=match l.find? λx=>decide (x.no=p/8)with
 | some x=>x.b.getD (p % 8).toNat 0
 | none=>0
theorem Fq {l:List Ext}{p:Int}(h:¬Cp l (p/8)):Ml l p=0:=by
 have:l.find? (λx=>decide (x.no=p/8))=none:=by rw[Au8];intro x b a;exact h ⟨x,b,by simpa using a⟩
 unfold Ml;rw[this]
theorem Xo {l:List Ext}(hs:srt l){p:Int}{k:Nat}{x:Ext}(d:l[k]?=some x)(f:x.no=p/8):Ml l p=x.b.getD (p % 8).toNat 0:=by
 have:l.find? (λx=>decide (x.no=p/8))=some x:=by rw[List.find?_eq_some_iff_getElem];obtain⟨a,e⟩:=BG.1 d;refine⟨by simp[f],k,a,e,?_⟩;intro j c;have:=Tp hs (Dq (Nat.lt_trans c a)) d c;simp;omega
 unfold Ml;rw[this]
def Acg (size:Int)(l:List Ext)(pos n:Int):Prop:=CZ size l/\0<=pos/\0<=n/\n<=4096/\pos<size
instance (size:Int) (l:List Ext) (pos n:Int):Decidable (Acg size l pos n):=by unfold Acg;infer_instance
def Ew (l:List Ext)(pos:Int)(k:Nat):List UInt8:=(List.range k).map fun (i:Nat)=>Ml l (pos+(i:Int))
theorem Ng (l:List Ext)(pos:Int)(k:Nat):(Ew l pos k).length=k:=by simp[Ew]
theorem yU (l:List Ext)(pos:Int)(k:Nat):Ew l pos (k+1)=Ew l pos k++[Ml l (pos+k)]:=by simp[Ew,List.range_succ]
def Hw (size:Int)(l:List Ext)(pos n:Int):List UInt8:=if Acg size l pos n then Ew l pos (min n (size - pos)).toNat else []
theorem Apl {size:Int}{l:List Ext}{v:AV}(d:SV AB 9 l v)(hs:srt l)(hl:l.length<=281474976710656)(pos:Int)(n:0<=pos)(o:pos<=9223372036854775807):
  Ba2 146 [.agg [I size,v],I pos] (.lit (.int .u8 (Ml l pos).toNat)):=BPure.val (by simp[AF,noIds,d.1]) rfl (gI (by
 unfold Yy;simp[Dg d,A1,JQ (a:=pos) (b:=8) (by omega) (by omega)];refine Az (bV d hs hl (pos/8)) ?_;by_cases c:Cp l (pos/8)
 ·obtain⟨x,g,k⟩:=(XT hs).1 c;have p:=x.hb;have hr:(pos % 8)=((pos % 8).toNat:Int):=by omega
  have e:=Dq (l:=x.b) (i:=(pos % 8).toNat) (by omega);generalize r : x.b[(pos % 8).toNat]'(by omega)=u at e;obtain ⟨q,f,j⟩:=Agu (t:=(l.drop (posL l (pos / 8) + 1)).flatMap AB) (H:=[some (.cells [I size,v])]) e (by omega);have h : (AB x ++ (l.drop (posL l (pos / 8) + 1)).flatMap AB).drop 1=Bp x.b ++ (l.drop (posL l (pos / 8) + 1)).flatMap AB:=rfl;rw [<- hr] at f;have m : ¬ ((posL l (pos / 8) : Nat) : Int) < 0:=by omega
  simp[c,m,d.idx AD g rfl,YB (a:=pos) (b:=8) (by omega) (by omega),h,f,j,Xo hs g k,Al0,e]
 ·simp[c,Fq c]))
theorem ST {size:Int}{l:List Ext}{v:AV}(p:SV AB 9 l v)(hl:l.length<=281474976710656)(pos n:Int):
  ∃r,SV Ft 1 (Hw size l pos n) r/\Ba2 73 [.agg [I size,v],I pos,I n] r:=by
 unfold SV;simp only[Kn];have:∃r,(noIds r=true/\∀H,Ac H 1 r=some (Bp (Hw size l pos n),(Hw size l pos n).length))/\Ba2 73 [.agg [I size,v],I pos,I n] r:=by
  refine BPure.sl (sz:=1) (by simp[AF,noIds,p.1]) (NI _) (Rj ?_);unfold KC;simp[Dg p,A1];refine Az (CW p hl) ?_;have s:∀H,¬Acg size l pos n->Ac H 1 Ad=some (Bp (Hw size l pos n),(Hw size l pos n).length):=by intro H h;have:Hw size l pos n=[]:=if_neg h;rw[this];rfl
  by_cases c:CZ size l
  ·by_cases g:pos<0
   ·simp[c,g,s _ (λh=>by have:=h.2.1;omega)]
   ·by_cases u:n<0
    ·simp[c,g,u,s _ (λh=>by have:=h.2.2.1;omega)]
    ·by_cases z:4096<n
     ·simp[c,g,u,z,s _ (λh=>by have:=h.2.2.2.1;omega)]
     ·simp[c,g,u,z];have hs:=JX c.2.2;have X:=c.2.1;have Y:=c.1;have C:∃m:Nat,(m=min n (size - pos)\/(size<=pos/\m=0))/\Hw size l pos n=Ew l pos m:=by
       by_cases A:pos<size
       ·exact⟨(min n (size - pos)).toNat,.inl (by omega),if_pos ⟨c,by omega,by omega,by omega,A⟩⟩
       ·refine⟨0,.inr ⟨by omega,rfl⟩,(if_neg (λh=>A h.2.2.2.2)).trans rfl⟩
      obtain⟨m,C,hr⟩:=C;rw[hr,Ng];refine Mr (λq D E F f G H'=>∃k:Nat,k+q=m/\D=I pos/\E=I n/\F=.ptr 0 0/\G=I k/\H'[0]?=some (some (.cells [I size,v]))/\Bm f=true/\Ac H' 1 f=some (Bp (Ew l pos k),k)/\0∉Ba f) ?_ m ⟨0,by omega,rfl,rfl,rfl,rfl,rfl,rfl,rfl,by simp[Ba]⟩;rintro q D E F f G H R P ⟨k,W,rfl,rfl,rfl,rfl,j,S,o,B⟩;unfold GW;by_cases V:k<m
      ·have t:(k:Int)<n:=by omega
       have d:pos<size - k:=by omega
       simp[t,j,B4 (a:=size) (b:=k) (by omega) (by omega),d,A1,Au (a:=pos) (b:=k) (by omega) (by omega)];refine Az (Apl p hs hl (pos+k) (by omega) (by omega)) ?_;have N:=(BG.1 j).1;have T:Ac (H++[some (.cells (Bp [Ml l (pos+k)]))]) 1 f=some (Bp (Ew l pos k),k):=Ai o λi w=>Aj6 (A5 o i w);obtain⟨r,J,x,a2,K,U,y,L⟩:=Cn (bytes:=1) T S (AA (v:=.sl H.length 0 1 1 (.ex 1)) (q:=(Bp [Ml l (pos+k)],1)) (by simp[Ac,Bp])) (by omega);have e:Bp [Ml l (pos+k)]=[.lit (.int .u8 (Ml l (pos+k)).toNat)]:=rfl;rw[e]at x y;have O:J[0]?=some (some (.cells [I size,v])):=by rw[y 0 (by simp) B,Aj6 N];exact j
       simp[x,Au (a:=k) (b:=1) (by omega) (by omega)];refine P (q - 1) _ _ _ _ _ _ (by omega) ⟨k+1,by omega,rfl,rfl,rfl,rfl,O,a2,?_,λw=>(L 0 w).elim B (by simp)⟩;rw[K,yU,oM]
      ·have t:¬((k:Int)<n/\pos<size - k):=by omega
       have Q:k=m:=by omega
       subst Q;by_cases d:(k:Int)<n
       ·have M:¬pos<size - k:=λh=>t ⟨d,h⟩;simp[d,j,B4 (a:=size) (b:=k) (by omega) (by omega),M,o]
       ·simp[d,o]
  ·simp[c,s _ (λh=>c h.1)]
 exact this
abbrev At3:=@List.Pairwise.sublist
theorem Apm {l:List Ext}(h:srt l)(k:Nat):srt (l.take k):=At3 (List.take_sublist k l) h
theorem dH {l:List Ext}(hs:srt l){k:Nat}{y:Ext}(a:l[k]?=some y)(p:Int):Ml (l.take (k+1)) p=if y.no=p/8 then y.b.getD (p % 8).toNat 0 else Ml (l.take k) p:=by
 split
 ·rename_i h;exact Xo (Apm hs (k+1)) (k:=k) (by rw[Ak2,if_pos (by omega)];exact a) h
 ·rename_i h;unfold Ml;rw[An5,a,List.find?_append];simp[h]
theorem HX {l:List Ext}{pos:Int}{m i:Nat}:(Ew l pos m)[i]?=if i<m then some (Ml l (pos+i))else none:=by
 unfold Ew;rw[Al2];by_cases h:i<m
 ·simp[h]
 ·simp[h]
theorem Apn {l:List Ext}(hs:srt l){k m:Nat}{y:Ext}(a:l[k]?=some y){pos:Int}(h:¬max (y.no*8) pos<min (y.no*8+8) (pos+m)):Ew (l.take (k+1)) pos m=Ew (l.take k) pos m:=by
 refine Am4 λi=>?_;rw[HX,HX];split
 ·rw[dH hs a,if_neg (by omega)]
 ·rfl
theorem Apo {l:List Ext}(hs:srt l){k m:Nat}{y:Ext}(d:l[k]?=some y){pos:Int}{off c a:Nat}(h:max (y.no*8) pos<min (y.no*8+8) (pos+m))
  (n:(off:Int)=max (y.no*8) pos - pos) (o:(c:Int)=max (y.no*8) pos - y.no*8) (p:(a:Int)=min (y.no*8+8) (pos+m) - max (y.no*8) pos):
  (Ew (l.take k) pos m).take off++((y.b.drop c).take a)++(Ew (l.take k) pos m).drop (off+a)=Ew (l.take (k+1)) pos m:=by
 have q:=y.hb;refine Am4 λi=>?_;have e:((Ew (l.take k) pos m).take off).length=off:=by rw[Aj4,Ng];omega
 have g:((y.b.drop c).take a).length=a:=by rw[Aj4,Aj9];omega
 by_cases f:i<off
 ·rw[Ak7,Aj6 (by omega),Ak2,if_pos f,HX,HX];split
  ·rw[dH hs d,if_neg (by omega)]
  ·rfl
 ·by_cases j:i<off+a
  ·rw[Aj6 (by rw[Ak1];omega),Aj8 (by omega),e,Ak2,if_pos (by omega),Ak3,HX,if_pos (by omega),dH hs d,if_pos (by omega)];rw[show((pos+(i:Int)) % 8).toNat=c+(i - off) by omega];rw[Al0,Dq (by omega)];simp
  ·rw[Aj8 (by rw[Ak1];omega),Ak1,e,g,Ak3,HX,HX,show off+a+(i - (off+a))=i by omega];split
   ·rw[dH hs d,if_neg (by omega)]
   ·rfl
theorem uE (a b:List UInt8)(off:Nat):Cq (Bp a) off (Bp b)=Bp (a.take off++b++a.drop (off+b.length)):=by
 unfold Cq;rw[BY,PR,YH,oM,oM]
abbrev As4:=@List.getElem?_replicate
theorem App (l:List Ext)(pos:Int)(m:Nat):List.replicate m (AV.lit (.int .u8 0))=Bp (Ew (l.take 0) pos m):=by
 refine Am4 λi=>?_;rw[X4,HX,As4];by_cases h:i<m
 ·rw[if_pos h,if_pos h];simp[Ml]
 ·rw[if_neg h,if_neg h];rfl
theorem rT {size:Int}{l:List Ext}{v:AV}(t:SV AB 9 l v)(hl:l.length<=281474976710656)(pos n:Int):
  ∃r,SV Ft 1 (Hw size l pos n) r/\Ba2 23 [.agg [I size,v],I pos,I n] r:=by
 unfold SV;simp only[Kn];have:∃r,(noIds r=true/\∀H,Ac H 1 r=some (Bp (Hw size l pos n),(Hw size l pos n).length))/\Ba2 23 [.agg [I size,v],I pos,I n] r:=by
  refine BPure.sl (sz:=1) (by simp[AF,noIds,t.1]) (NI _) (oW ?_);unfold kV;simp[Dg t,A1];refine Az (Fu t hl) ?_;have w:∀H,¬Acg size l pos n->Ac H 1 Ad=some (Bp (Hw size l pos n),(Hw size l pos n).length):=by intro H h;have:Hw size l pos n=[]:=if_neg h;rw[this];rfl
  by_cases g:CZ size l
  ·by_cases s:pos<0
   ·simp[g,s,w _ (λh=>by have:=h.2.1;omega)]
   ·by_cases x:n<0
    ·simp[g,s,x,w _ (λh=>by have:=h.2.2.1;omega)]
    ·by_cases z:4096<n
     ·simp[g,s,x,z,w _ (λh=>by have:=h.2.2.2.1;omega)]
     ·by_cases A:size<=pos
      ·simp[g,s,x,z,A,w _ (λh=>by have:=h.2.2.2.2;omega)]
      ·have hs:=JX g.2.2;have ad:=g.2.1;have ae:=g.1;have hr:Hw size l pos n=Ew l pos (min n (size - pos)).toNat:=if_pos ⟨g,by omega,by omega,by omega,by omega⟩;rw[hr,Ng];obtain⟨m,hm⟩:∃m:Nat,(m:Int)=min n (size - pos):=⟨(min n (size - pos)).toNat,by omega⟩;have Z:min (size - pos) n=(m:Int):=by omega
       rw[show(min n (size - pos)).toNat=m by omega];simp[g,s,x,z,A,B4 (a:=size) (b:=pos) (by omega) (by omega),Z,Abp,show(m:Int)<=281474976710656 by omega,show(m:Int)<=9223372036854775807 by omega,t.len];have hz:=App l pos m;refine Zd (λq J K N p L M H'=>∃k:Nat,k+q=l.length/\J=I pos/\K=I m/\N=.sl 1 0 m 1 (.ex m)/\p=v/\L=I l.length/\M=I k/\∃X,H'=some (.cells [I size,v])::some (.cells (Bp (Ew (l.take k) pos m)))::X) ?_ l.length ⟨0,by omega,rfl,rfl,rfl,rfl,rfl,rfl,[],by rw[<- hz]⟩;rintro q J K N p L M H R V ⟨k,hk,rfl,rfl,rfl,rfl,rfl,rfl,X,rfl⟩;unfold Ut;rcases Aj5 k l.length with D | ab
       ·have u:=Dq D;generalize l[k]=y at u;have hy:=N1 g.2.2 y (Aj2 u);simp[D,t.idx AD u rfl,-CY];rw[<- Ap4,<- Ap4,sW (by simp) (by rfl)];simp;refine Az (Qn y.no (by omega) (by omega)) ?_;have G:∀Y,(JU R (I pos) (I m) (.sl 1 0 m 1 (.ex m)) p (I l.length) (I k) (some (.cells [I size,p])::some (.cells (Bp (Ew (l.take (k+1)) pos m)))::Y) λr H'=>Ac H' 1 r=some (Bp (Ew l pos m),m)):=by intro Y;rw[aV];unfold SB;simp[Au (a:=k) (b:=1) (by omega) (by omega)];exact V (q - 1) _ _ _ _ _ _ _ (by omega) ⟨k+1,by omega,rfl,rfl,rfl,rfl,rfl,rfl,Y,rfl⟩
        have w1:MaySpan ⟨y.no*8,8⟩:=by simp only[MaySpan,May];omega
        have w2:MaySpan ⟨pos,m⟩:=by simp only[MaySpan,May];omega
        refine Az (bR ⟨y.no*8,8⟩ ⟨pos,m⟩) ?_;by_cases c:max (y.no*8) pos<min (y.no*8+8) (pos+m)
        ·have e:VB ⟨y.no*8,8⟩ ⟨pos,m⟩=⟨max (y.no*8) pos,min (y.no*8+8) (pos+m) - max (y.no*8) pos⟩:=if_pos ⟨w1,w2,c⟩;rw[e];obtain⟨i,F⟩:∃i:Nat,(i:Int)=max (y.no*8) pos - pos:=⟨(max (y.no*8) pos - pos).toNat,by omega⟩;obtain⟨d,C⟩:∃d:Nat,(d:Int)=max (y.no*8) pos - y.no*8:=⟨(max (y.no*8) pos - y.no*8).toNat,by omega⟩;obtain⟨f,E⟩:∃f:Nat,(f:Int)=min (y.no*8+8) (pos+m) - max (y.no*8) pos:=⟨(min (y.no*8+8) (pos+m) - max (y.no*8) pos).toNat,by omega⟩;have aa:=Apo hs u c F C E;have hb:=y.hb;have S:Bq 1 (.sl 1 0 m 1 (.ex m)) (some (I i)) none none=some (.sl 1 i (m - i) 1 (.ex (m - i))):=by simp[Bq,BL,Room.least,Room.cut];omega
         have T:∀o,Bq 1 (.sl o (1+d) (8 - d) 1 (.ex (8 - d))) none (some (I f)) none=some (.sl o (1+d) f 1 (.ex (8 - d))):=by intro o;simp[Bq,BL,Room.least,Room.cut];omega
         have key:∀(j Y:AH) (o:Nat),j=some (.cells [I size,p])::some (.cells (Bp (Ew (l.take k) pos m)))::Y->j[o]?=some (some (.cells (AB y)))->
           Ty 8 1 j (.ptr o 1) (some (I d)) none=some (.sl o (1+d) (8 - d) 1 (.ex (8 - d)))/\
           YX 1 j (.sl 1 i (m - i) 1 (.ex (m - i))) (.sl o (1+d) f 1 (.ex (8 - d)))=some (I f,some (.cells [I size,p])::some (.cells (Bp (Ew (l.take (k+1)) pos m)))::Y):=by
          intro j Y o U B;refine⟨by simp[Ty,BL,B,AD];omega,?_⟩;have O:Ac j 1 (.sl o (1+d) f 1 (.ex (8 - d)))=some (Bp ((y.b.drop d).take f),f):=by
           have:(AB y).drop (1+d)=Bp (y.b.drop d):=by rw[At2];show(Bp y.b).drop d=_;rw[YH]
           simp[Ac,B,AD,this,PR];omega
          unfold YX Abn;rw[AA O,U];have a2:min f (m - i)=f:=by omega
          have P:((y.b.drop d).take f).length=f:=by simp;omega
          have W:i<=m:=by omega
          simp[BY,Ng,a2,PR,W];have Q:List.take f (List.take f (y.b.drop d))=(y.b.drop d).take f:=by rw[Ap3,Nat.min_self]
          rw[Q,uE,P,aa]
         simp[B9,AU,B4 (a:=max (y.no*8) pos) (b:=pos) (by omega) (by omega),<- F,S,Dp (a:=y.no) (b:=8) (by omega) (by omega),B4 (a:=max (y.no*8) pos) (b:=y.no*8) (by omega) (by omega),<- C,<- E];obtain⟨k1,k2⟩:=key _ (X++[some (.cells (AB y)),some (.cells [I (max (y.no*8) pos),I f])]) (X.length+1+1) rfl (by simp);rw[k1];simp[T];rw[k2];simp[show 0<f by omega];exact G _
        ·have e:VB ⟨y.no*8,8⟩ ⟨pos,m⟩=⟨0,0⟩:=if_neg (λh=>c h.2.2);rw[e];simp[B9,AU];rw[<- Apn hs u c];exact G _
       ·have:k=l.length:=by omega
        subst this;rw[An6];simp[Ac,BY,Ng];rw[Aj3 (by rw[BY,Ng];omega)]
  ·simp[g,w _ (λh=>g h.1)]
 exact this
theorem vG {H:AH}{sz o off len o2 a m:Nat}{g b:Room}{cs cs2:List AV}(d:H[o]?=some (some (.cells cs)))(c:H[o2]?=some (some (.cells cs2)))(f:off<=cs.length)(j:a+min m len*sz<=cs2.length):
  YX sz H (.sl o off len sz g) (.sl o2 a m sz b)=some (I ((min m len:Nat):Int),H.set o (some (.cells (Cq cs off ((cs2.drop a).take (min m len*sz)))))):=by
 unfold YX Abn;by_cases h:a+m*sz<=cs2.length
 ·have e:B1 H sz (.sl o2 a m sz b)=some ((cs2.drop a).take (m*sz),m):=AA (by simp[Ac,c,h]);have i:min (min m len*sz) (m*sz)=min m len*sz:=Aq2 (Ak5 _ (Av5 _ _));rw[e];simp only[d,f,Ai2,Ap3,i]
 ·have e:B1 H sz (.sl o2 a m sz b)=none:=by simp[B1,Ac,c,h]
  rw[e];simp[Acl,d,c,f,j]
theorem Apq (w:World):(Go.sizeOf 52).run prog w=.ok 9 w:=Cv (by kernel_rfl)
theorem Apr {H:AH}{a q o g d b r p h e:Nat}{f c:List AV}(i:H[a]?=some (some (.cells f)))(j:H[b]?=some (some (.cells c)))(n:a≠b)(l:d≠0)(m:e≠0)(k:c≠[]):
  ExtR prog 230 [.sl a q o g (.ex d),.sl b r p h (.ex e)] H (B false):=
 ExtR.apart (tS:=32) (tR:=4) (fn:=f230) (by kernel_rfl) (by kernel_rfl) (by kernel_rfl) (by kernel_rfl) (by kernel_rfl) (by kernel_rfl) Apq i j n l m k
def Ahn (H:AH)(s:AV)(N:List AV)(n:Nat)(r:AV)(H':AH):Prop:=Bm r=true/\Ac H' 9 r=some (N,n+1)/\H.length<=H'.length/\(∀i,i<H.length->i∉Ba s->H'[i]?=H[i]?)/\∀i∈Ba r,i∈Ba s\/H.length<=i
theorem Aps {H:AH}{s:AV}{cs:List AV}{n ov:Nat}{x:Ext}(hs:Ac H 9 s=some (cs,n))(i:Bm s=true)(o:n<=100000000)(j:H[ov]?=some (some (.cells (AB x)))):
  ∃r H',Ahn H s (cs++AB x) n r H'/\Ba0 222 [s,I n,.sl ov 0 1 9 (.ex 1)] H r H':=by
 obtain⟨t,b,-⟩:=DS hs (lo:=some (I n)) (hi:=none) (l:=n) (k:=n) (by simp[BL]) rfl (Aj7 _) (Aj7 _);have h:=AD x;obtain⟨r,a,c,a2,d,e,f,g⟩:=Cn (bytes:=16) hs i (AA (v:=.sl ov 0 1 9 (.ex 1)) (q:=(AB x,1)) (by simp[Ac,j,h,Aj3])) (by omega);refine⟨r,a,⟨a2,d,e,f,g⟩,D9 ?_⟩;unfold Ci;simp[b,Bt hs,c]
theorem Apt {H:AH}{o off n ov i:Nat}{cells:List AV}{x:Ext}(e:H[o]?=some (some (.cells cells)))(hl:off+n*9<=cells.length)(hi:i<n)(w:n<=100000000)(g:H[ov]?=some (some (.cells (AB x)))):
  Ba3 222 [.sl o off n 9 (.ex n),I i,.sl ov 0 1 9 (.ex 1)] H λr H'=>r=.sl H.length 0 (n+1) 9 (.ge (n+1))/\
   H'=H++[some (.cells ((cells.drop off).take (i*9)++AB x++(cells.drop (off+i*9)).take ((n - i)*9)))]:=by
 refine D9 ?_;unfold Ci;have k:¬(i:Int)=n:=by omega
 have d:=AD x;simp[Bq,BL,Room.least,Room.cut,rF,goInt,k,show i<=n by omega,Au (a:=n) (b:=1) (by omega) (by omega),B4 (a:=(n:Int)+1) (b:=i) (by omega) (by omega),Tv,e,Au (a:=i) (b:=1) (by omega) (by omega)];have j:i+(n+1 - i)=n+1:=by omega
 have l:off+i*9<=cells.length:=by omega
 simp only[j];simp[l,show(i:Int)<n+1 by omega,show(n:Int)<n+1 by omega,show(n+1)*16<=140737488355328 by omega,show i<=n+1 by omega];have u:((List.replicate (n+1 - i) [AV.lit (Value.int IntKind.i64 0),AV.lit (Value.int IntKind.u8 0),AV.lit (Value.int IntKind.u8 0),AV.lit (Value.int IntKind.u8 0),AV.lit (Value.int IntKind.u8 0),AV.lit (Value.int IntKind.u8 0),AV.lit (Value.int IntKind.u8 0),AV.lit (Value.int IntKind.u8 0),AV.lit (Value.int IntKind.u8 0)]).flatten).length=(n+1 - i)*9:=EJ _ _;generalize (List.replicate (n+1 - i) [AV.lit (Value.int IntKind.i64 0),AV.lit (Value.int IntKind.u8 0),AV.lit (Value.int IntKind.u8 0),AV.lit (Value.int IntKind.u8 0),AV.lit (Value.int IntKind.u8 0),AV.lit (Value.int IntKind.u8 0),AV.lit (Value.int IntKind.u8 0),AV.lit (Value.int IntKind.u8 0),AV.lit (Value.int IntKind.u8 0)]).flatten=Z at u;have c:(List.take (i*9) (List.drop off cells)).length=i*9:=by rw[Aj4,Aj9];omega
 generalize v:List.take (i*9) (List.drop off cells)=A at c;have p:=(BG.1 g).1;have m:=(BG.1 e).1;rw[vG (cs:=A++Z) (cs2:=AB x) (by simp) (by rw[Aj6 p];exact g) (by simp[c]) (by omega)];simp[show(0:Int)<=(i:Int)+1 by omega,show i+1<=n+1 by omega];have s:min 1 (n+1 - i)=1:=by omega
 have t:Cq (A++Z) (i*9) (List.take (min 1 (n+1 - i)*9) (AB x))=A++AB x++Z.drop 9:=by rw[s,Aj3 (by rw[d];omega)];unfold Cq;rw[Ak9 (by omega),Aj3 (by omega),d,<- c,List.drop_append,As3,As9 (by omega),Ao4]
 rw[t,vG (cs:=A++AB x++Z.drop 9) (cs2:=cells) (by simp) (by rw[Aj6 m];exact e) (by simp[c,d];omega) (by rw[Nat.min_self];omega)];have f:(List.take ((n - i)*9) (List.drop (off+i*9) cells)).length=(n - i)*9:=by rw[Aj4,Aj9];omega
 simp;generalize List.take ((n - i)*9) (List.drop (off+i*9) cells)=B' at f;unfold Cq;have q:(A++AB x).length=(i+1)*9:=by rw[Ak1,c,d];omega
 rw[<- Ak7,Ak9 (by omega),Aj3 (by omega),As9 (by rw[Ak1,q,Aj9,f];omega),Am9,Ak7]
theorem Apu {H:AH}{o off n ov i c:Nat}{cells:List AV}{x:Ext}(d:H[o]?=some (some (.cells cells)))(hl:off+n*9<=cells.length)(hi:i<n)(z:n<=100000000)(q:n+1<=c)(f:H[ov]?=some (some (.cells (AB x))))(e:ov≠o):
  Ba3 222 [.sl o off n 9 (.ex c),I i,.sl ov 0 1 9 (.ex 1)] H λr H'=>r=.sl o off (n+1) 9 (.ex c)/\
   ∃v,H'=H.set o (some (.cells (cells.take (off+i*9)++AB x++(cells.drop (off+i*9)).take ((n - i)*9)++v))):=by
 refine D9 ?_;unfold Ci;have m:¬(i:Int)=n:=by omega
 have g:=AD x;simp[Bq,BL,Room.least,Room.cut,rF,goInt,m,show i<=n by omega,Au (a:=n) (b:=1) (by omega) (by omega),B4 (a:=(n:Int)+1) (b:=i) (by omega) (by omega),Au (a:=i) (b:=1) (by omega) (by omega),show i<=c by omega,show n<=c by omega,show ¬(c:Int)<n+1 by omega,q,show(0:Int)<=(n:Int)+1 by omega,show(0:Int)<=(i:Int)+1 by omega,show i+1<=n+1 by omega];refine bP_of (Apr f d e (by omega) (by omega) (by intro h;rw[h]at hl;simp at hl;omega)) ?_;simp;have s:=(BG.1 d).1;have j:min (n+1 - i) (n - i)=n - i:=by omega
 have u:min 1 (n+1 - i)=1:=by omega
 simp only[show i<=n+1 by omega,if_true,Aa];rw[vG (cs:=cells) (cs2:=cells) d d (by omega) (by rw[j];omega),j];have p:(List.take ((n - i)*9) (List.drop (off+i*9) cells)).length=(n - i)*9:=by rw[Aj4,Aj9];omega
 generalize List.take ((n - i)*9) (List.drop (off+i*9) cells)=B' at p;simp only[A6];have t:(cells.take (off+(i+1)*9)).length=off+(i+1)*9:=by rw[Aj4];omega
 rw[vG (cs:=Cq cells (off+(i+1)*9) B') (cs2:=AB x) (by simp[s]) (by rw[Cc (Al6 e)];exact f) (by unfold Cq;simp[t];omega) (by omega),u,Aj3 (l:=(AB x).drop 0) (by simp[g])];simp only[A6,List.set_set,Al8];refine⟨(cells.drop (off+(i+1)*9+B'.length)),?_⟩;congr 3;unfold Cq;rw[g];have w:List.take (off+i*9) (cells.take (off+(i+1)*9)++B'++cells.drop (off+(i+1)*9+B'.length))=cells.take (off+i*9):=by rw[Ak7,Ak9 (by omega),Ap3,Aq2 (by omega)]
 have y:List.drop (off+i*9+9) (cells.take (off+(i+1)*9)++B'++cells.drop (off+(i+1)*9+B'.length))=B'++cells.drop (off+(i+1)*9+B'.length):=by rw[Ak7,show off+i*9+9=(cells.take (off+(i+1)*9)).length by omega,Aw1]
 rw[w,y,Ak7]
theorem nZ {m:Nat}:∀{a b:List AV},DZ m a->DZ m b->DZ m (a++b)
 | [],b,_,h=>h
 | x::a,b,h1,h2=>by simp only[DZ,Ap4]at h1|-;exact⟨h1.1,nZ h1.2 h2⟩
theorem Xq {m:Nat}:∀{a:List AV},DZ m a↔∀x∈a,HV m x
 | []=>by simp[DZ]
 | x::a=>by simp only[DZ,Al3,forall_eq_or_imp,Xq (a:=a)]
theorem Apv (x:Ext)(m:Nat):DZ m (AB x):=by
 rw[Xq];intro a c;simp only[AB,Bp,Al3,Am5]at c;rcases c with rfl | ⟨b,_,rfl⟩<;>simp only[HV]
theorem Apw {H:AH}{o off n ov i:Nat}{q:Room}{cells:List AV}{x:Ext}(m:H[o]?=some (some (.cells cells)))(hl:off+n*9<=cells.length)(hi:i<n)(B:n<=100000000)(d:H[ov]?=some (some (.cells (AB x))))(J:ov≠o):
  Ba0 222 [.sl o off n 9 q,I i,.sl ov 0 1 9 (.ex 1)] H (.sl H.length 0 (n+1) 9 (.ge (n+1)))
   (H.set o none++[some (.cells ((cells.drop off).take (i*9)++AB x++(cells.drop (off+i*9)).take ((n - i)*9)))]):=by
 have K:=(BG.1 m).1;have M:=AD x;generalize j:(cells.drop off).take (i*9)++AB x++(cells.drop (off+i*9)).take ((n - i)*9)=N;have E:N.length=(n+1)*9:=by rw[<- j,Ak1,Ak1,M,Aj4,Aj4,Aj9,Aj9];omega
 have y:∀c,n<=c->Ba3 222 [.sl o off n 9 (.ex c),I i,.sl ov 0 1 9 (.ex 1)] H λr H'=>
   (r=.sl H.length 0 (n+1) 9 (.ge (n+1))/\H'=H++[some (.cells N)])\/∃c b,n+1<=c/\r=.sl o off (n+1) 9 (.ex c)/\H'=H.set o (some (.cells (cells.take off++N++b))):=by
  intro c A;rcases Aj5 n c with h | h
  ·refine(Apu m hl hi B h d J).mono ?_;rintro r H' ⟨rfl,b,rfl⟩;refine .inr ⟨c,b,h,rfl,?_⟩;congr 3;rw[<- j,At2 off (i*9),At2 (i*9) off];have:cells.take (off+i*9)=cells.take off++(cells.drop off).take (i*9):=by rw[List.take_add]
   rw[this];simp[Ak7]
  ·have:c=n:=by omega
   subst this;refine(Apt m hl hi B d).mono ?_;rintro r H' ⟨rfl,rfl⟩;exact .inl ⟨rfl,by rw[j]⟩
 have F:Ba3 222 [.sl o off n 9 q,I i,.sl ov 0 1 9 (.ex 1)] H λr H'=>
   (r=.sl H.length 0 (n+1) 9 (.ge (n+1))/\H'=H++[some (.cells N)])\/∃c b,n+1<=c/\r=.sl o off (n+1) 9 (.ex c)/\H'=H.set o (some (.cells (cells.take off++N++b))):=by
  cases q with
  | ge k=>exact ACalls.room λc _ h=>y c h
  | ex c=>
   rcases Aj5 c n with h | h
   ·intro G V S d;exfalso;simp only[VRs]at d;obtain⟨v,r,rfl,g,R⟩:=d;simp only[VR]at g;obtain⟨_,a,f,rfl,w,hs⟩:=g;simp only[SlAt]at hs;omega
   ·exact y c h
 refine ACalls.canon F ?_;rintro t U P g;have z:DZ H.length N:=by
  have u:DZ H.length cells:=t o _ m;rw[Xq]at u;rw[<- j];refine nZ (nZ ?_ (Apv x _)) ?_
  ·rw[Xq];exact λa s=>u a (Aq0 (An8 s))
  ·rw[Xq];exact λa s=>u a (Aq0 (An8 s))
 rcases g with⟨rfl,rfl⟩ | ⟨c,b,A,rfl,rfl⟩
 ·refine⟨_,_,_,Canon.grown t z,?_⟩;intro G v D hr;refine⟨?_,λp ℓ h=>by cases h⟩;simp only[VR]at hr|-;obtain⟨O,a,c,rfl,w,hs⟩:=hr;refine⟨by simp[Cfg.ren],a,c,rfl,w,?_⟩;simpa[Cfg.ren,Ab6,Aec]using hs
 ·refine⟨_,_,_,Canon.placed (off:=off) (l:=c*9) t K z (cs1:=cells.take off++N++b) ?_ ?_ ?_,?_⟩
  ·simp;omega
  ·have:(cells.take off).length=off:=by rw[Aj4];omega
   rw[Ak7]
   conv=>lhs;arg 2;arg 1;rw[<- this]
   rw[Aw1,List.take_left]
  ·rw[E];omega
  ·intro G v D hr;simp only[VR]at hr;obtain⟨O,a,f,rfl,w,hs⟩:=hr;simp only[SlAt]at hs;obtain⟨rfl,hs⟩:=hs;have hs:=hs.resolve_left (by omega);obtain⟨rfl,T⟩:=hs;have e:Aba H.length o off H.length=(o,off):=if_pos rfl;have C:yR H.length (f*9) H.length=some (f*9):=if_pos rfl;refine⟨?_,?_⟩
   ·simp only[VR];refine⟨by simp[Cfg.ren],_,f,rfl,by omega,?_⟩;simp only[SlAt];refine⟨A,.inr ⟨by simp[Cfg.ren,e],?_⟩⟩;simp[Cfg.ren,C]
   ·intro p ℓ h;unfold yR at h;split at h
    ·rename_i L;injection h with h;subst L;subst h;rw[e];omega
    ·cases h
theorem Aho:∀{l m:List Ext},srt l->srt m->(∀x,x∈l↔x∈m)->l=m
 | [],[],_,_,_=>rfl
 | [],y::m,_,_,h=>by have:=(h y).2 (by simp);simp at this
 | x::l,[],_,_,h=>by have:=(h x).1 (by simp);simp at this
 | x::l,y::m,hl,hm,h=>by
  have c:=An2.1 hl;have d:=An2.1 hm;have e:x=y:=by
   rcases Al3.1 ((h x).1 (by simp))with e | a
   ·exact e
   ·rcases Al3.1 ((h y).2 (by simp))with e | f
    ·exact e.symm
    ·have:=d.1 x a;have:=c.1 y f;omega
  subst e;refine congrArg _ (Aho c.2 d.2 λz=>?_);constructor
  ·intro b;rcases Al3.1 ((h z).1 (by simp[b]))with e | a
   ·have:=c.1 z b;rw[e]at this;omega
   ·exact a
  ·intro b;rcases Al3.1 ((h z).2 (by simp[b]))with e | a
   ·have:=d.1 z b;rw[e]at this;omega
   ·exact a
theorem aS {x y:Ext}(e:x.no=y.no)(f:∀k,k<8->x.b.getD k 0=y.b.getD k 0):x=y:=by
 obtain⟨a,b,i⟩:=x;obtain⟨c,d,j⟩:=y;simp only at e f;subst e;have:b=d:=by refine List.ext_getElem (by omega) λk g h=>?_;have:=f k (by omega);rw[Al0,Al0,Dq g,Dq h]at this;simpa using this
 subst this;rfl
theorem nE {l:List Ext}{x:Ext}(h:x∈l):∃k:Nat,l[k]?=some x:=Ak0.1 h
theorem Aef {l:List Ext}(hs:srt l){x:Ext}(c:x∈l){k:Nat}(d:k<8):Ml l (x.no*8+k)=x.b.getD k 0:=by
 obtain⟨i,a⟩:=nE c;rw[Xo hs a (by omega),show((x.no*8+(k:Int)) % 8).toNat=k by omega]
theorem Apx {l m:List Ext}(hl:srt l)(a:srt m)(b:∀no,Cp l no↔Cp m no)(c:∀p,Ml l p=Ml m p):l=m:=by
 have key:∀{l m:List Ext},srt l->srt m->(∀no,Cp l no↔Cp m no)->(∀p,Ml l p=Ml m p)->∀x,x∈l->x∈m:=by
  intro l m hl a b c x f;obtain⟨y,g,e⟩:=(b x.no).1 ⟨x,f,rfl⟩;have:x=y:=aS e.symm λk d=>by rw[<- Aef hl f d,<- Aef a g d,c,e]
  rw[this];exact g
 exact Aho hl a λx=>⟨key hl a b c x,key a hl (λno=>(b no).symm) (λp=>(c p).symm) x⟩
def U6 (no:Int):Ext:=⟨no,List.replicate 8 0,by simp⟩
def Em (l:List Ext)(no:Int):List Ext:=if Cp l no then l else l.take (posL l no)++U6 no::l.drop (posL l no)
theorem Apy {l:List Ext}{no:Int}{x:Ext}(h:x∈l.take (posL l no)):x.no<no:=by
 obtain⟨k,a⟩:=nE h;have b:=(BG.1 a).1;rw[Aj4]at b;rw[Ak2,if_pos (by omega)]at a;exact wV (by omega) a
theorem Apz {l:List Ext}(hs:srt l){no:Int}{x:Ext}(h:x∈l.drop (posL l no)):no<=x.no:=by
 obtain⟨k,a⟩:=nE h;rw[Ak3]at a;cases b:l[posL l no]? with
 | none=>
  have e:=(BG.1 a).1;rw[List.getElem?_eq_none_iff]at b;omega
 | some y=>
  have d:=Agv b;rcases An9 k with c | c
  ·subst c;rw[Ao8,b]at a;injection a with a;rw[<- a];exact d
  ·have:=Tp hs b a (by omega);omega
theorem L5 {l:List Ext}(hs:srt l)(no:Int):srt (Em l no):=by
 unfold Em;split
 ·exact hs
 ·rename_i h;have f:∀x∈l.drop (posL l no),no<x.no:=by intro x g;have d:=Apz hs g;have j:x.no≠no:=λe=>h ⟨x,Aq0 g,e⟩;omega
  refine Aq8.2 ⟨At3 (List.take_sublist _ l) hs,An2.2 ⟨f,At3 (Au9 _ l) hs⟩,?_⟩;intro a i b c;have d:=Apy i;rcases Al3.1 c with rfl | c
  ·exact d
  ·have:=f b c;omega
theorem U5 {l:List Ext}{no:Int}{x:Ext}:x∈Em l no↔x∈l\/(¬Cp l no/\x=U6 no):=by
 unfold Em;split
 ·rename_i h;simp[h]
 ·rename_i h;rw[Am3,Al3];have:x∈l↔x∈l.take (posL l no)\/x∈l.drop (posL l no):=by rw[<- Am3,Ao0]
  rw[this];constructor
  ·rintro(a | a | a)
   ·exact .inl (.inl a)
   ·exact .inr ⟨h,a⟩
   ·exact .inl (.inr a)
  ·rintro((a | a) | ⟨_,a⟩)
   ·exact .inl a
   ·exact .inr (.inr a)
   ·exact .inr (.inl a)
theorem Ye {l:List Ext}{no a:Int}:Cp (Em l no) a↔Cp l a\/a=no:=by
 unfold Cp;constructor
 ·rintro⟨x,b,e⟩;rcases U5.1 b with h | ⟨_,rfl⟩
  ·exact .inl ⟨x,h,e⟩
  ·exact .inr e.symm
 ·rintro(⟨x,b,e⟩ | rfl)
  ·exact⟨x,U5.2 (.inl b),e⟩
  ·by_cases h:Cp l a
   ·obtain⟨x,b,e⟩:=h;exact⟨x,U5.2 (.inl b),e⟩
   ·exact⟨U6 a,U5.2 (.inr ⟨h,rfl⟩),rfl⟩
theorem Tz {l:List Ext}(hs:srt l){x:Ext}(c:x∈l){p:Int}(h:x.no=p/8):Ml l p=x.b.getD (p % 8).toNat 0:=by
 obtain⟨k,a⟩:=nE c;exact Xo hs a h
theorem Ahp {l:List Ext}(hs:srt l)(no p:Int):Ml (Em l no) p=Ml l p:=by
 by_cases h:Cp l (p/8)
 ·obtain⟨x,b,e⟩:=h;rw[Tz hs b e,Tz (L5 hs no) (U5.2 (.inl b)) e]
 ·rw[Fq h];by_cases a:p/8=no
  ·rw[Tz (L5 hs no) (U5.2 (.inr ⟨a▸h,rfl⟩)) a.symm];have:(p % 8).toNat<8:=by omega
   simp only[U6];rw[Al0,As4,if_pos this];rfl
  ·exact Fq (λc=>(Ye.1 c).elim h a)
theorem Aqa {l:List Ext}(hs:srt l)(no:Int):posL (Em l no) no=posL l no:=by
 unfold Em;split
 ·rfl
 ·rename_i h;have c:=nG l no;refine VD (by simp;omega) ?_ ?_
  ·intro m x b a;rw[Aj6 (by rw[Aj4];omega),Ak2,if_pos b]at a;exact wV b a
  ·intro x a;rw[Aj8 (by rw[Aj4];omega),Aj4,show posL l no - min (posL l no) l.length=0 by omega]at a;simp at a;rw[<- a];simp[U6]
theorem Ahq {l:List Ext}(hs:srt l)(no:Int):∃x,(Em l no)[posL l no]?=some x/\x.no=no:=by
 have:=(XT (L5 hs no) (no:=no)).1 (Ye.2 (.inr rfl))
 rwa[Aqa hs]at this
theorem pY (l:List Ext)(no:Int):(Em l no).length<=l.length+1/\l.length<=(Em l no).length:=by
 have a:=nG l no;unfold Em;split
 ·omega
 ·simp;omega
def mM (x:Ext)(off:Nat)(bs:List UInt8):Ext:=if h:off+bs.length<=8 then⟨x.no,x.b.take off++bs++x.b.drop (off+bs.length),by have:=x.hb;simp;omega⟩else x
theorem Ahr (x:Ext)(off:Nat)(bs:List UInt8):(mM x off bs).no=x.no:=by unfold mM;split<;>rfl
theorem Ahs {x:Ext}{off:Nat}{bs:List UInt8}(h:off+bs.length<=8):(mM x off bs).b=x.b.take off++bs++x.b.drop (off+bs.length):=by unfold mM;rw[dif_pos h]
theorem Aqb {x:Ext}{off:Nat}{bs:List UInt8}(h:off+bs.length<=8){k:Nat}(f:k<8):(mM x off bs).b.getD k 0=if off<=k/\k<off+bs.length then bs.getD (k - off) 0 else x.b.getD k 0:=by
 have e:=x.hb;have a:(x.b.take off).length=off:=by rw[Aj4];omega
 rw[Ahs h];simp only[Al0];split
 ·rename_i c;rw[Aj6 (by rw[Ak1];omega),Aj8 (by omega),a]
 ·rename_i c;by_cases d:k<off
  ·rw[Ak7,Aj6 (by omega),Ak2,if_pos d]
  ·rw[Aj8 (by rw[Ak1];omega),Ak1,a,Ak3];congr 2;omega
def mN (l:List Ext)(no:Int)(off:Nat)(bs:List UInt8):List Ext:=l.map λx=>if x.no=no then mM x off bs else x
theorem Aeg (no:Int)(off:Nat)(bs:List UInt8)(x:Ext):(if x.no=no then mM x off bs else x).no=x.no:=by split;exact Ahr ..;rfl
abbrev As0:=@List.pairwise_map
theorem Aht {l:List Ext}{f:Ext->Ext}(a:∀x∈l,(f x).no=x.no)(hs:srt l):srt (l.map f):=by
 unfold srt at*;rw[As0];refine hs.imp_of_mem λb c h=>?_;rw[a _ b,a _ c];exact h
theorem Ahu {l:List Ext}{f:Ext->Ext}(b:∀x∈l,(f x).no=x.no){no:Int}:Cp (l.map f) no↔Cp l no:=by
 unfold Cp;constructor
 ·rintro⟨y,c,e⟩;obtain⟨x,a,rfl⟩:=Am5.1 c;exact⟨x,a,by rw[<- e,b x a]⟩
 ·rintro⟨x,a,e⟩;exact⟨f x,Am5.2 ⟨x,a,rfl⟩,by rw[<- e,b x a]⟩
theorem Ahv {l:List Ext}(hs:srt l)(no:Int)(off:Nat)(bs:List UInt8):srt (mN l no off bs):=Aht (λx _=>Aeg ..) hs
theorem Ahw {l:List Ext}{no a:Int}{off:Nat}{bs:List UInt8}:Cp (mN l no off bs) a↔Cp l a:=Ahu (λx _=>Aeg ..)
theorem Aqc {l:List Ext}(hs:srt l){no:Int}{off:Nat}{bs:List UInt8}(h:off+bs.length<=8)(f:Cp l no)(p:Int):
  Ml (mN l no off bs) p=if no*8+off<=p/\p<no*8+off+bs.length then bs.getD (p - (no*8+off)).toNat 0 else Ml l p:=by
 by_cases a:Cp l (p/8)
 ·obtain⟨x,d,e⟩:=a;rw[Tz (x:=if x.no=no then mM x off bs else x) (Ahv hs no off bs) (Am5.2 ⟨x,d,rfl⟩) (by rw[Aeg];exact e),Tz hs d e];by_cases c:x.no=no
  ·rw[if_pos c,Aqb h (by omega)];by_cases b:no*8+off<=p/\p<no*8+off+bs.length
   ·rw[if_pos b,if_pos (by omega)];congr 1;omega
   ·rw[if_neg b,if_neg (by omega)]
  ·rw[if_neg c,if_neg (by omega)]
 ·rw[Fq (by rw[Ahw];exact a),Fq a,if_neg];intro c;have:p/8=no:=by omega
  exact a (this▸f)
theorem Ahx {l:List Ext}(hs:srt l){k:Nat}{x:Ext}(a:l[k]?=some x)(off:Nat)(bs:List UInt8):l.set k (mM x off bs)=mN l x.no off bs:=by
 refine Am4 λi=>?_;unfold mN;rw[Al2,Ao7];have d:=(BG.1 a).1;by_cases h:k=i
 ·subst h;obtain⟨e,c⟩:=BG.1 a;simp[d,c]
 ·rw[if_neg h];cases b:l[i]? with
  | none=>rfl
  | some y=>
   have:y.no≠x.no:=by
    rcases Nat.lt_or_gt_of_ne h with h | h
    ·have:=Tp hs a b h;omega
    ·have:=Tp hs b a h;omega
   simp[this]
def EV (l:List Ext)(p:Int)(bs:List UInt8):List Ext:=mN (Em l (p/8)) (p/8) (p % 8).toNat bs
theorem Aeh {l:List Ext}(hs:srt l)(p:Int)(bs:List UInt8):srt (EV l p bs):=Ahv (L5 hs _) ..
theorem Ahy {l:List Ext}{p a:Int}{bs:List UInt8}:Cp (EV l p bs) a↔Cp l a\/a=p/8:=by unfold EV;rw[Ahw,Ye]
theorem Ahz {l:List Ext}(hs:srt l){p:Int}{bs:List UInt8}(h:p % 8+bs.length<=8)(q:Int):Ml (EV l p bs) q=if p<=q/\q<p+bs.length then bs.getD (q - p).toNat 0 else Ml l q:=by
 unfold EV;rw[Aqc (L5 hs _) (by omega) (Ye.2 (.inr rfl)),Ahp hs,show p/8*8+((p % 8).toNat:Int)=p by omega]
def Cm (l:List Ext)(p:Int):List UInt8->List Ext
 | []=>l
 | b::r=>Cm (EV l p [b]) (p+1) r
theorem rA:∀{bs:List UInt8} {l:List Ext} (hs:srt l) (p:Int),srt (Cm l p bs)
 | [],l,hs,p=>hs
 | b::r,l,hs,p=>rA (Aeh hs p [b]) (p+1)
theorem xM:∀{bs:List UInt8} {l:List Ext} {p a:Int},Cp (Cm l p bs) a↔Cp l a\/∃q,p<=q/\q<p+bs.length/\a=q/8
 | [],l,p,a=>by unfold Cm;simp only[Ap0];exact⟨.inl,λh=>h.elim id fun ⟨q,e,f,_⟩=>by omega⟩
 | b::r,l,p,a=>by
  unfold Cm;rw[xM,Ahy];simp only[Al4];constructor
  ·rintro((h | h) | ⟨q,e,f,d⟩)
   ·exact .inl h
   ·exact .inr ⟨p,by omega,by omega,h⟩
   ·exact .inr ⟨q,by omega,by omega,d⟩
  ·rintro(h | ⟨q,e,f,d⟩)
   ·exact .inl (.inl h)
   ·by_cases c:q=p
    ·exact .inl (.inr (c▸d))
    ·exact .inr ⟨q,by omega,by omega,d⟩
theorem Aei:∀{bs:List UInt8} {l:List Ext} (hs:srt l) (p q:Int),Ml (Cm l p bs) q=if p<=q/\q<p+bs.length then bs.getD (q - p).toNat 0 else Ml l q
 | [],l,hs,p,q=>by unfold Cm;rw[if_neg (by simp only[Ap0];omega)]
 | b::r,l,hs,p,q=>by
  unfold Cm;rw[Aei (Aeh hs p [b]),Ahz hs (by simp only[Aa6];omega)];simp only[Aa6];by_cases c:p+1<=q/\q<p+1+r.length
  ·rw[if_pos c,if_pos (by omega),show(q - p).toNat=(q - (p+1)).toNat+1 by omega];rfl
  ·rw[if_neg c];by_cases a:p=q
   ·subst a;rw[if_pos (by omega),if_pos (by omega)];simp
   ·rw[if_neg (by omega),if_neg (by omega)]
theorem Aej:∀{bs cs:List UInt8} {l:List Ext} {p:Int},Cm l p (bs++cs)=Cm (Cm l p bs) (p+bs.length) cs
 | [],cs,l,p=>by simp[Cm]
 | b::r,cs,l,p=>by show Cm (EV l p [b]) (p+1) (r++cs)=Cm (Cm (EV l p [b]) (p+1) r) (p+(r.length+1:Nat)) cs;rw[Aej];congr 1;omega
theorem Aia {l:List Ext}(hs:srt l){p:Int}{bs:List UInt8}(h:p % 8+bs.length<=8)(c:bs≠[]):EV l p bs=Cm l p bs:=by
 have e:0<bs.length:=List.length_pos_iff.2 c;refine Apx (Aeh hs p bs) (rA hs p) (λa=>?_) (λq=>?_)
 ·rw[Ahy,xM];refine or_congr_right ⟨λb=>⟨p,by omega,by omega,b⟩,?_⟩;rintro⟨q,b,d,rfl⟩;omega
 ·rw[Ahz hs h,Aei hs]
theorem Aek:∀{bs:List UInt8} {l:List Ext} {p:Int},(Cm l p bs).length<=l.length+bs.length
 | [],l,p=>by simp[Cm]
 | b::r,l,p=>by
  unfold Cm;have a:=Aek (bs:=r) (l:=EV l p [b]) (p:=p+1);have c:(EV l p [b]).length=(Em l (p/8)).length:=by simp[EV,mN]
  have d:=(pY l (p/8)).1;simp only[Al4];omega
theorem oC {size:Int}:∀{b:List UInt8} {p:Int},cleanB size p b↔∀k:Nat,k<b.length->size<=p+k->b.getD k 0=0
 | [],p=>by simp[cleanB]
 | x::r,p=>by
  unfold cleanB;rw[oC];constructor
  ·rintro⟨d,e⟩ k a hs;cases k with
   | zero=>
    simp;by_cases c:x=0
    ·exact c
    ·have:=d c;omega
   | succ k=>
    have:=e k (by simpa using a) (by omega);simpa using this
  ·intro h;refine⟨λf=>?_,λk a hs=>?_⟩
   ·have:=h 0 (by simp);simp at this;by_cases c:p<size
    ·exact c
    ·exact absurd (this (by omega)) f
   ·have:=h (k+1) (by simpa using a) (by omega);simpa using this
theorem oD {size:Int}{x:Ext}:Lt size x↔∀k:Nat,k<8->size<=x.no*8+k->x.b.getD k 0=0:=by
 have:=oC (size:=size) (b:=x.b) (p:=x.no*8);rw[x.hb]at this;exact this
theorem Aib {size:Int}:∀{l:List Ext} {p:Int},okL size p l↔srt l/\∀x∈l,p<x.no/\x.no<137438953472/\Lt size x
 | [],p=>by simp[okL,srt]
 | x::r,p=>by
  rw[Yh,Aib];constructor
  ·rintro⟨d,c,b,g,f⟩;refine⟨An2.2 ⟨λy a=>(f y a).1,g⟩,λy a=>?_⟩;rcases Al3.1 a with rfl | a
   ·exact⟨d,c,b⟩
   ·have:=f y a;exact⟨by omega,this.2⟩
  ·rintro⟨d,c⟩;have e:=An2.1 d;have b:=c x (by simp);refine⟨b.1,b.2.1,b.2.2,e.2,λy a=>?_⟩;have:=c y (by simp[a]);exact⟨e.1 y a,this.2⟩
theorem Aqd {size:Int}{l:List Ext}:okL size (-1) l↔srt l/\(∀no,Cp l no->0<=no/\no<137438953472)/\∀p,size<=p->Ml l p=0:=by
 rw[Aib];constructor
 ·rintro⟨hs,h⟩;refine⟨hs,?_,λp i=>?_⟩
  ·rintro no ⟨x,a,rfl⟩;have:=h x a;omega
  ·by_cases c:Cp l (p/8)
   ·obtain⟨x,a,e⟩:=c;rw[Tz hs a e];exact oD.1 (h x a).2.2 _ (by omega) (by omega)
   ·exact Fq c
 ·rintro⟨hs,b,d⟩;refine⟨hs,λx a=>?_⟩;have:=b x.no ⟨x,a,rfl⟩;refine⟨by omega,this.2,oD.2 λk f g=>?_⟩;rw[<- Aef hs a f];exact d _ g
def CD (x:Ext)(a b:Int):Ext:=⟨x.no,x.b.mapIdx λk y=>if a<=x.no*8+(k:Int)/\x.no*8+(k:Int)<b then 0 else y,by have:=x.hb;simpa using this⟩
theorem D4 {x:Ext}{a b:Int}{k:Nat}(d:k<8):(CD x a b).b.getD k 0=if a<=x.no*8+(k:Int)/\x.no*8+(k:Int)<b then 0 else x.b.getD k 0:=by
 have c:=x.hb;unfold CD;simp only[Al0,List.getElem?_mapIdx];rw[Dq (show k<x.b.length by omega)];rfl
def Vt (l:List Ext)(a b:Int):List Ext:=l.map λx=>CD x a b
theorem qY {l:List Ext}(hs:srt l)(a b:Int):srt (Vt l a b):=Aht (λ_ _=>rfl) hs
theorem qX {l:List Ext}{a b no:Int}:Cp (Vt l a b) no↔Cp l no:=Ahu (f:=λx=>CD x a b) (λ_ _=>rfl)
theorem Aic {l:List Ext}(hs:srt l)(a b p:Int):Ml (Vt l a b) p=if a<=p/\p<b then 0 else Ml l p:=by
 by_cases h:Cp l (p/8)
 ·obtain⟨x,c,e⟩:=h;rw[Tz (x:=CD x a b) (qY hs a b) (Am5.2 ⟨x,c,rfl⟩) e,Tz hs c e,D4 (by omega)];rw[show x.no*8+((p % 8).toNat:Int)=p by omega]
 ·rw[Fq h,Fq (by rw[qX];exact h)];split<;>rfl
theorem Qo {l:List Ext}(hs:srt l)(f:Ext->Bool):srt (l.filter f):=List.Pairwise.filter f hs
theorem V4 {l:List Ext}{f:Int->Bool}{no:Int}:Cp (l.filter λx=>f x.no) no↔Cp l no/\f no=true:=by
 unfold Cp;constructor
 ·rintro⟨x,a,rfl⟩;rw[Ar8]at a;exact⟨⟨x,a.1,rfl⟩,a.2⟩
 ·rintro⟨⟨x,a,rfl⟩,h⟩;exact⟨x,Ar8.2 ⟨a,h⟩,rfl⟩
theorem tJ {l:List Ext}(hs:srt l){f:Int->Bool}(p:Int):Ml (l.filter λx=>f x.no) p=if f (p/8)=true then Ml l p else 0:=by
 by_cases h:Cp l (p/8)
 ·obtain⟨x,b,e⟩:=h;split
  ·rename_i c;rw[Tz (Qo hs _) (Ar8.2 ⟨b,by rw[e];exact c⟩) e,Tz hs b e]
  ·rename_i c;exact Fq (λa=>c (V4.1 a).2)
 ·rw[Fq h,Fq (λa=>h (V4.1 a).1)];split<;>rfl
def Gr (l:List Ext)(size:Int):List Ext:=Vt (l.filter λx=>decide (x.no*8<size)) size 1099511627776
theorem Aqe {l:List Ext}(hs:srt l)(size:Int):srt (Gr l size):=qY (Qo hs _) _ _
theorem Aqf {l:List Ext}{size no:Int}:Cp (Gr l size) no↔Cp l no/\no*8<size:=by
 unfold Gr;rw[qX,V4 (f:=λno=>decide (no*8<size))];simp
theorem Aqg {l:List Ext}(hs:srt l){size:Int}(h:∀no,Cp l no->no<137438953472)(p:Int):Ml (Gr l size) p=if p<size then Ml l p else 0:=by
 unfold Gr;rw[Aic (Qo hs _),tJ hs (f:=λno=>decide (no*8<size))];by_cases c:p<size
 ·rw[if_neg (by omega),if_pos c,if_pos (by simp;omega)]
 ·rw[if_neg c];by_cases a:p<1099511627776
  ·rw[if_pos ⟨by omega,a⟩]
  ·rw[if_neg (by omega),Fq]
   ·split<;>rfl
   ·intro b;have:=h _ b;omega
def gone (pos n no:Int):Bool:=decide (pos<=no*8)&&decide (no*8+8<=pos+n)
def FS (l:List Ext)(pos n:Int):List Ext:=Vt (l.filter λx=>!gone pos n x.no) pos (pos+n)
theorem Aqh {l:List Ext}(hs:srt l)(pos n:Int):srt (FS l pos n):=qY (Qo hs _) _ _
theorem Aqi {l:List Ext}{pos n no:Int}:Cp (FS l pos n) no↔Cp l no/\¬(pos<=no*8/\no*8+8<=pos+n):=by
 unfold FS;rw[qX,V4 (f:=λno=>!gone pos n no)];simp[gone];intro _;omega
theorem Aqj {l:List Ext}(hs:srt l)(pos n p:Int):Ml (FS l pos n) p=if pos<=p/\p<pos+n then 0 else Ml l p:=by
 unfold FS;rw[Aic (Qo hs _),tJ hs (f:=λno=>!gone pos n no)];split
 ·rfl
 ·rename_i c;split
  ·rfl
  ·rename_i a;simp[gone]at a;omega
def IG (l:List Ext)(no:Int):Nat->List Ext
 | 0=>l
 | k+1=>IG (Em l no) (no+1) k
theorem wL:∀{k:Nat} {l:List Ext} (hs:srt l) (no:Int),srt (IG l no k)
 | 0,l,hs,no=>hs
 | k+1,l,hs,no=>wL (k:=k) (L5 hs no) (no+1)
theorem Aid:∀{k:Nat} {l:List Ext} {no a:Int},Cp (IG l no k) a↔Cp l a\/(no<=a/\a<no+k)
 | 0,l,no,a=>by unfold IG;exact⟨.inl,λh=>h.elim id λh=>by omega⟩
 | k+1,l,no,a=>by
  unfold IG;rw[Aid,Ye];constructor
  ·rintro((h | h) | h)
   ·exact .inl h
   ·exact .inr (by omega)
   ·exact .inr (by omega)
  ·rintro(h | h)
   ·exact .inl (.inl h)
   ·by_cases c:a=no
    ·exact .inl (.inr c)
    ·exact .inr (by omega)
theorem Aie:∀{k:Nat} {l:List Ext} (hs:srt l) (no p:Int),Ml (IG l no k) p=Ml l p
 | 0,l,hs,no,p=>rfl
 | k+1,l,hs,no,p=>by unfold IG;rw[Aie (L5 hs no),Ahp hs]
theorem wM:∀{k:Nat} {l:List Ext} {no:Int},IG l no (k+1)=Em (IG l no k) (no+k)
 | 0,l,no=>by simp[IG]
 | k+1,l,no=>by show IG (Em l no) (no+1) (k+1)=_;rw[wM (k:=k)];show Em (IG (Em l no) (no+1) k) (no+1+k)=Em (IG (Em l no) (no+1) k) (no+(k+1:Nat));congr 1;omega
theorem qC:∀{k:Nat} {l:List Ext} {no:Int},(IG l no k).length<=l.length+k/\l.length<=(IG l no k).length
 | 0,l,no=>by simp[IG]
 | k+1,l,no=>by unfold IG;have a:=qC (k:=k) (l:=Em l no) (no:=no+1);have b:=pY l no;omega
def allocN (pos n:Int):Nat:=((pos+n - 1)/8 - pos/8+1).toNat
def OH (l:List Ext)(pos n:Int):List Ext:=IG l (pos/8) (allocN pos n)
abbrev I5:=Int×List Ext
def Ej (c:I5)(pos:Int)(bs:List UInt8):Option I5:=
 if CZ c.1 c.2/\0<=pos/\bs.length<=4096/\pos<=1099511627776 - bs.length then some (if bs=[]then c else(max c.1 (pos+bs.length),Cm c.2 pos bs))else none
def CR (c:I5)(size:Int):Option I5:=if CZ c.1 c.2/\0<=size/\size<=1099511627776 then some (size,Gr c.2 size)else none
def Ck (c:I5)(pos n:Int)(keep:Bool):Option I5:=
 if CZ c.1 c.2/\0<=pos/\1<=n/\n<=32768/\pos<=1099511627776 - n then some (if keep then c.1 else max c.1 (pos+n),OH c.2 pos n)else none
def Df (c:I5)(pos n:Int):Option I5:=
 if CZ c.1 c.2/\0<=pos/\1<=n/\n<=1099511627776/\pos<=1099511627776 - n then some (c.1,FS c.2 pos n)else none
theorem T9 {size:Int}{l:List Ext}:CZ size l↔0<=size/\size<=1099511627776/\srt l/\(∀no,Cp l no->0<=no/\no<137438953472)/\∀p,size<=p->Ml l p=0:=by
 unfold CZ;rw[Aqd]
theorem Aqk {c d:I5}{pos:Int}{bs:List UInt8}(h:Ej c pos bs=some d):CZ d.1 d.2:=by
 unfold Ej at h;split at h
 ·rename_i g;injection h with h;subst h;split
  ·exact g.1
  ·rename_i i;have u:0<bs.length:=List.length_pos_iff.2 i;obtain⟨b,m,n,o⟩:=g;rw[T9]at b|-;obtain⟨l,a2,a,e,f⟩:=b;refine⟨by simp only;omega,by simp only;omega,rA a pos,?_,?_⟩
   ·intro no j;rcases xM.1 j with h | ⟨q,r,s,t⟩
    ·exact e no h
    ·omega
   ·intro p k;simp only at k;rw[Aei a,if_neg (by omega)];exact f p (by omega)
 ·cases h
theorem Aql {c d:I5}{size:Int}(h:CR c size=some d):CZ d.1 d.2:=by
 unfold CR at h;split at h
 ·rename_i g;injection h with h;subst h;obtain⟨e,f,i⟩:=g;rw[T9]at e|-;obtain⟨l,a2,a,b,m⟩:=e;refine⟨f,i,Aqe a size,λno j=>b no (Aqf.1 j).1,λp k=>?_⟩;rw[Aqg a (λno h=>(b no h).2),if_neg (by simp only at k;omega)]
 ·cases h
theorem Aqm {c d:I5}{pos n:Int}{keep:Bool}(h:Ck c pos n keep=some d):CZ d.1 d.2:=by
 unfold Ck at h;split at h
 ·rename_i g;injection h with h;subst h;obtain⟨b,l,m,o,q⟩:=g;rw[T9]at b|-;obtain⟨k,a2,a,f,i⟩:=b;refine⟨by simp only;split<;>omega,by simp only;split<;>omega,wL a _,λno j=>?_,λp e=>?_⟩
  ·rcases Aid.1 j with h | h
   ·exact f no h
   ·unfold allocN at h;omega
  ·unfold OH;rw[Aie a];refine i p ?_;simp only at e;split at e<;>omega
 ·cases h
theorem Aqn {c d:I5}{pos n:Int}(h:Df c pos n=some d):CZ d.1 d.2:=by
 unfold Df at h;split at h
 ·rename_i g;injection h with h;subst h;obtain⟨b,l,m,o,q⟩:=g;rw[T9]at b|-;obtain⟨e,a2,a,f,i⟩:=b;refine⟨e,a2,Aqh a _ _,λno j=>f no (Aqi.1 j).1,λp k=>?_⟩;rw[Aqj a];split
  ·rfl
  ·exact i p k
 ·cases h
theorem AI {v:AV}(h:Bm v=true):oneA v=true:=by
 unfold Bm at h;split at h
 ·rfl
 ·rfl
 ·rfl
 ·cases h
theorem IA {α:Type}{enc:α->List AV}{sz:Nat}(b:∀x,(enc x).length=sz):∀(l:List α) (i:Nat),(l.flatMap enc).take (i*sz)=(l.take i).flatMap enc
 | [],i=>by simp
 | a::l,0=>by simp
 | a::l,i+1=>by have c:=b a;rw[Av9,Al5,Al5,<- IA b l i,show(i+1)*sz=(enc a).length+i*sz by rw[c,An4];omega,List.take_length_add_append]
abbrev At8:=@List.drop_succ_cons
theorem Hj {α:Type}{enc:α->List AV}{sz:Nat}(b:∀x,(enc x).length=sz):∀(l:List α) (i:Nat),(l.flatMap enc).drop (i*sz)=(l.drop i).flatMap enc
 | [],i=>by simp
 | a::l,0=>by simp
 | a::l,i+1=>by have c:=b a;rw[At8,Al5,<- Hj b l i,show(i+1)*sz=(enc a).length+i*sz by rw[c,An4];omega,List.drop_length_add_append]
def Grew (H H':AH):Prop:=H.length<=H'.length/\∀i,i<H.length->H'[i]?=H[i]?
theorem Grew.refl (H:AH):Grew H H:=⟨Aj7 _,λ_ _=>rfl⟩
theorem Grew.trans {A B C:AH}(h:Grew A B)(k:Grew B C):Grew A C:=⟨Al1 h.1 k.1,λi a=>(k.2 i (Am7 a h.1)).trans (h.2 i a)⟩
theorem Grew.app (H X:AH):Grew H (H++X):=⟨by simp,λi a=>Aj6 a⟩
theorem Grew.cells {H H':AH}(h:Grew H H'){o:Nat}{x:Option AObj}(a:H[o]?=some x):H'[o]?=some x:=by
 rw[h.2 o (BG.1 a).1];exact a
theorem Grew.slice {H H':AH}(h:Grew H H'){sz:Nat}{v:AV}{q:List AV×Nat}(a:Ac H sz v=some q):Ac H' sz v=some q:=
 Ai a λi b=>h.2 i (A5 a i b)
theorem VC {H:AH}{sz:Nat}{v:AV}{cs:List AV}{n:Nat}(h:Ac H sz v=some (cs,n)):(v=Ad/\cs=[]/\n=0)\/vA .eql Zi v Ad=some (B false):=by
 unfold Ac at h;split at h
 ·exact .inr rfl
 ·exact .inr rfl
 ·injection h with h;injection h with a b;exact .inl ⟨rfl,a.symm,b.symm⟩
 ·exact .inr rfl
 ·cases h
theorem kR {H:AH}{v:AV}{cs:List AV}{n:Nat}(h:Ac H 9 v=some (cs,n))(m:n<=1000000000):
  ∃r H',(Bm r=true/\Ac H' 9 r=some (cs,n)/\Grew H H'/\∀i∈Ba r,H.length<=i)/\Ba0 95 [v] H r H':=Mc (by
 unfold GC;rcases VC h with⟨rfl,rfl,rfl⟩ | k
 ·have e:vA .eql Zi Ad Ad=some (B true):=rfl;simp only[e,Aa5,Am];exact⟨rfl,h,Grew.refl H,by simp[Ba]⟩
 ·simp only[k,Aa5,Ag];have e:Co H 9 0 (Bx [(I 0),u0Z,u0Z,u0Z,u0Z,u0Z,u0Z,u0Z,u0Z] 0) []=some (.sl H.length 0 0 9 (.ex 0),H++[some (.cells [])]):=rfl;simp only[e,A6];have g:=Grew.app H [some (.cells [])];obtain⟨r,l,b,a2,c,d,f,j⟩:=Cn (sz:=9) (bytes:=16) (H:=H++[some (.cells [])]) (v:=.sl H.length 0 0 9 (.ex 0)) (cs:=[]) (n:=0) (by simp[Ac]) rfl (AA (g.slice h)) (by omega);simp only[b,A6];refine⟨a2,by simpa using c,⟨by simp at d;omega,λi a=>?_⟩,λi a=>?_⟩
  ·rw[f i (by simp;omega) (by simp[Ba];omega)];exact g.2 i a
  ·rcases j i a with h | h
   ·simp[Ba]at h;omega
   ·simp at h;omega)
theorem dK {H:AH}{size:Int}{v:AV}{cs:List AV}{n:Nat}(h:Ac H 9 v=some (cs,n))(m:oneA v=true)(p:n<=1000000000):
  ∃r H',(∃w,r=.agg [I size,w]/\Bm w=true/\Ac H' 9 w=some (cs,n)/\Grew H H'/\∀i∈Ba w,H.length<=i)/\Ba0 103 [.agg [I size,v]] H r H':=iV (by
 unfold ZN;have g:=Grew.app H [some (.cells [I size,v]),some (.cells [I 0,Ad])];obtain⟨w,c,⟨a2,j,b,d⟩,f⟩:=kR (g.slice h) p;have k:=b.cells (o:=H.length) (x:=some (.cells [I size,v])) (by simp);have l:=b.cells (o:=H.length+1) (x:=some (.cells [I 0,Ad])) (by rw[Aj8 (by omega)];simp);have q:H.length+2<=c.length:=by have:=b.1;simpa using this
 have e:=AI a2;simp[m];refine bC_of f ?_;simp[Bn e];rw[AG (n:=2) (off:=0) (x:=.agg [I size,w]) (xs:=[I size,w]) (cs:=[I 0,Ad]) (by simp[e]) l rfl (by simp)];simp[show H.length+1<c.length by omega,k,A1];refine⟨a2,Ai j λi a=>Cc ?_,?_,λi a=>?_⟩
 ·have:=d i a;simp at this;omega
 ·refine⟨by simp;omega,λi a=>?_⟩;rw[Cc (by omega),b.2 i (by simp;omega),g.2 i a]
 ·have:=d i a;simp at this;omega)
theorem Aqo {H:AH}{s:AV}{cs:List AV}{n ov i:Nat}{x:Ext}(hs:Ac H 9 s=some (cs,n))(g:Bm s=true)(hi:i<=n)(d:n<=100000000)(k:H[ov]?=some (some (.cells (AB x))))(p:ov∉Ba s):
  ∃r H',Ahn H s (cs.take (i*9)++AB x++cs.drop (i*9)) n r H'/\Ba0 222 [s,I i,.sl ov 0 1 9 (.ex 1)] H r H':=by
 have u:=BW hs;rcases Aj5 i n with h | h
 ·obtain⟨o,a,t,cells,rfl,b,e,rfl⟩:=Ju hs g (by omega);have q:ov≠o:=by simpa[Ba]using p
  have v:=(BG.1 b).1;have w:=AD x;have l:((cells.drop a).take (n*9)).take (i*9)=(cells.drop a).take (i*9):=by rw[Ap3];congr 1;omega
  have m:((cells.drop a).take (n*9)).drop (i*9)=(cells.drop (a+i*9)).take ((n - i)*9):=by rw[Ar1,Ap8];congr 1;omega
  refine⟨_,_,?_,Apw b e h d k q⟩;rw[l,m];refine⟨rfl,?_,by simp,λj f d=>?_,λj f=>.inr (by simp[Ba]at f;omega)⟩
  ·rw[AS (c:=(cells.drop a).take (i*9)++AB x++(cells.drop (a+i*9)).take ((n - i)*9)) (by rw[Aj8 (by simp)];simp) (by simp;omega)];rw[Al8,Aj3 (by simp;omega)]
  ·rw[Aj6 (by simpa using f),Cc (by simp[Ba]at d;omega)]
 ·have:i=n:=by omega
  subst this;obtain⟨r,H',b,e⟩:=Aps hs g d k;refine⟨r,H',?_,e⟩;rw[Aj3 (by omega),Ak6 (by omega),Am9];exact b
def Acy (H:AH)(oc:Nat)(size:Int)(v:AV)(l:List Ext)(H':AH):Prop:=∃a,H'[oc]?=some (some (.cells [I size,a]))/\Ac H' 9 a=some (l.flatMap AB,l.length)/\Bm a=true/\oc∉Ba a/\H.length<=H'.length/\(∀i,i<H.length->i≠oc->i∉Ba v->H'[i]?=H[i]?)/\∀i∈Ba a,i∈Ba v\/H.length<=i
theorem oN (no:Int):AB (U6 no)=[I no,.lit (.int .u8 0),.lit (.int .u8 0),.lit (.int .u8 0),.lit (.int .u8 0),.lit (.int .u8 0),.lit (.int .u8 0),.lit (.int .u8 0),.lit (.int .u8 0)]:=rfl
theorem XK {H:AH}{oc:Nat}{size no:Int}{v:AV}{l:List Ext}(b:H[oc]?=some (some (.cells [I size,v])))(d:Ac H 9 v=some (l.flatMap AB,l.length))(m:Bm v=true)(k:oc∉Ba v)(hs:srt l)(hl:l.length<=100000000):
  ∃H',Acy H oc size v (Em l no) H'/\Ba0 202 [.ptr oc 0,I no] H (I (posL l no)) H':=by
 have key:∃r H',(r=I (posL l no)/\Acy H oc size v (Em l no) H')/\Ba0 202 [.ptr oc 0,I no] H r H':=oZ (by
  unfold kW;have D:=(BG.1 b).1;obtain⟨R,B,A⟩:=FZ.sv d (EF λx _=>Ic x);have f:=AI m;simp[b];refine bP_of (PCall.lend (FZs.cons A (FZs.cons (FZ.lit _) FZs.nil)) rfl (XN B hs (by omega) no)) ?_;simp;by_cases c:Cp l no
  ·have e:Em l no=l:=if_pos c;simp[c];rw[SG];unfold Nh;rw[e];exact⟨rfl,v,b,d,m,k,Aj7 _,λ_ _ _ _=>rfl,λi a=>.inl a⟩
  ·have e:Em l no=l.take (posL l no)++U6 no::l.drop (posL l no):=if_neg c;simp[c];have g:=Grew.app H [some (.cells (AB (U6 no)))];obtain⟨r,u,⟨o,y,z,p,q⟩,w⟩:=Aqo (x:=U6 no) (ov:=H.length) (g.slice d) m (nG l no) hl (by simp) (λh=>by have:=A5 d _ h;omega);rw[<- oN];refine bC_of w ?_;have s:u[oc]?=some (some (.cells [I size,v])):=by rw[p oc (by simp;omega) k];exact g.cells b
   have hr:=AI o;have C:=(BG.1 s).1;rw[AG (n:=1) (off:=1) (xs:=[r]) (cs:=[I size,v]) (Bn hr) s rfl (by simp)];simp;rw[SG];unfold Nh;have t:oc∉Ba r:=λh=>(q oc h).elim k (λh=>by simp at h;omega);refine⟨rfl,r,by simp[C],?_,o,t,by simp at z;simp;omega,λi a f j=>?_,λi a=>(q i a).imp id (λh=>by simp at h;omega)⟩
   ·rw[Ai y (λi a=>Cc (fun (h:oc=i)=>t (h▸a)))];rw[IA AD,Hj AD,e,Am6,Al5,Ak7];have:=nG l no;simp;omega
   ·rw[Cc (by omega),p i (by simp;omega) j];exact g.2 i a)
 obtain⟨r,H',⟨rfl,f⟩,j⟩:=key;exact⟨H',f,j⟩
section
variable {κ α : Type} {c : κ->κ->Int} {key : α->κ}
abbrev Au1:=@List.getLast?_eq_getElem?
theorem YT (n:KO c){l:List α}{x:α}:CQ c key (l++[x])↔CQ c key l/\∀y,l.getLast?=some y->c (key y) (key x)<0:=by
 unfold CQ;rw[Aq8];constructor
 ·rintro⟨e,-,f⟩;exact⟨e,λy g=>f y (List.mem_of_getLast? g) x (by simp)⟩
 ·rintro⟨e,j⟩;refine⟨e,List.pairwise_singleton _ _,λa k b i=>?_⟩;rw[An1]at i;subst i;obtain⟨m,d⟩:=Ak0.1 k;have o:=(BG.1 d).1;have g:l.getLast?=some (l[l.length - 1]):=by rw[Au1,Dq (by omega)]
  have f:=j _ g;rcases Aj5 m (l.length - 1)with h | h
  ·exact n.trans _ _ _ (O8 e d (Dq (by omega)) h) f
  ·have:m=l.length - 1:=by omega
   subst this;rw[Dq (by omega)]at d;injection d with d;rw[<- d];exact f
end
def Aae (l:List Nm):Prop:=(∀x∈l,Ek x.name/\1<=x.ino/\x.ino<=4611686018427387904)/\CQ Bv Nm.name l/\(l.map Nm.ino).Nodup
instance (l:List Nm):Decidable (Aae l):=by unfold Aae;infer_instance
def fB (l:List Nm):Prop:=l.length<=16/\Aae l
instance (l:List Nm):Decidable (fB l):=by unfold fB;infer_instance
abbrev Al9:=@List.mem_map_of_mem
theorem U7 {l:List Nm}{x:Nm}:Aae (l++[x])↔Aae l/\(Ek x.name/\(∀y,l.getLast?=some y->Bv y.name x.name<0)/\1<=x.ino/\x.ino<=4611686018427387904/\¬Bo Nm.ino l x.ino):=by
 unfold Aae;rw[YT koN,An0,List.nodup_append];simp only[Ac0,Af0,Ar7,List.not_mem_nil,not_false_eq_true,Aw0,and_self,true_and];constructor
 ·rintro⟨d,⟨f,j⟩,g,h⟩;refine⟨⟨λy c=>d y (.inl c),f,g⟩,(d x (.inr rfl)).1,j,(d x (.inr rfl)).2.1,(d x (.inr rfl)).2.2,?_⟩;rintro⟨y,c,e⟩;exact h y.ino (Al9 c) x.ino rfl e
 ·rintro⟨⟨d,f,g⟩,h,k,m,n,o⟩;refine⟨?_,⟨f,k⟩,g,?_⟩
  ·rintro y (c | rfl)
   ·exact d y c
   ·exact⟨h,m,n⟩
  ·rintro a p b rfl e;obtain⟨y,c,i⟩:=Am5.1 p;exact o ⟨y,c,by rw[i,e]⟩
theorem Aif {a b:List Nm}(h:Aae (a++b)):Aae a:=by
 unfold Aae at h|-;refine⟨λx c=>h.1 x (by simp[c]),(Aq8.1 h.2.1).1,?_⟩;have:=h.2.2;rw[An0,List.nodup_append]at this;exact this.1
def jH (l:List Nm):List (Int×AV):=l.map λx=>(x.ino,B true)
theorem tU (l:List Nm)(k:Int):Aar (B false) (jH l) k=B (decide (Bo Nm.ino l k)):=by
 induction l with
 | nil=>simp[Aar,jH,Bo]
 | cons a l ih=>
  unfold Aar jH at ih|-;rw[Aq7];by_cases h:a.ino=k
  ·rw[List.find?_cons_of_pos (by simp[h])];have:Bo Nm.ino (a::l) k:=⟨a,by simp,h⟩;simp[this]
  ·rw[List.find?_cons_of_neg (by simp[h]),ih];have:Bo Nm.ino (a::l) k↔Bo Nm.ino l k:=by unfold Bo;simp[h]
   simp[this]
theorem Aqp {l:List Nm}{x:Nm}(h:¬Bo Nm.ino l x.ino):Acx (jH l) x.ino (B true)=jH (l++[x]):=by
 unfold Acx;have:(jH l).findIdx? (λp=>p.1==x.ino)=none:=by rw[Ap5];intro p a;obtain⟨y,b,rfl⟩:=Am5.1 a;simp only[beq_eq_false_iff_ne,ne_eq];exact λe=>h ⟨y,b,e⟩
 rw[this];simp[jH]
def Aig (H:AH)(l:List Nm)(r:AV)(H':AH):Prop:=Grew H H'/\ (fB l->∃o,r=.tup [.mp o,B true]/\H'[o]?=some (some (.map (iS (jH l)))))/\(¬fB l->r=.tup [.lit (.map none),B false])
theorem Aqq {H:AH}{l:List Nm}{v:AV}(G:SV Ct 2 l v)(hl:l.length<=281474976710656)(hs:∀x∈l,x.name.length<=9223372036854775807):∃r H',Aig H l r H'/\Ba0 91 [v] H r H':=pQ (by
 unfold lG;by_cases P:l.length<=16
 ·have L:¬(16:Int)<l.length:=by omega
  simp[G.len,L];refine Zg (λn W x4 X Y Z H'=>∃k:Nat,k+n=l.length/\W=v/\x4=.mp H.length/\X=v/\Y=I l.length/\Z=I k/\Grew H H'/\H'[H.length]?=some (some (.map (iS (jH (l.take k)))))/\Aae (l.take k)) ?_ l.length ⟨0,by omega,rfl,rfl,rfl,rfl,rfl,Grew.app _ _,by simp;rfl,by simp[Aae,CQ]⟩;rintro n W x4 X Y Z H' R Q ⟨k,hk,rfl,rfl,rfl,rfl,rfl,q,E,F⟩;unfold U3;rcases Aj5 k l.length with h | h
  ·have J:=Dq h;generalize l[k]=x at J;have C:l.take (k+1)=l.take k++[x]:=by rw[An5,J];rfl
   have M:∀y,(l.take k).getLast?=some y↔0<k/\l[k - 1]?=some y:=by
    intro y;rw[Au1,Aj4,Aq2 (by omega),Ak2];by_cases c:0<k
    ·rw[if_pos (by omega)];exact⟨λh=>⟨c,h⟩,λh=>h.2⟩
    ·rw[if_neg (by omega)];exact⟨λh=>(by cases h),λh=>absurd h.1 c⟩
   have aa:fB l->Ek x.name/\(∀y,0<k/\l[k - 1]?=some y->Bv y.name x.name<0)/\1<=x.ino/\x.ino<=4611686018427387904/\¬Bo Nm.ino (l.take k) x.ino:=by rintro⟨-,V⟩;rw[<- Ao0 (k+1) l,C]at V;have:=(U7.1 (Aif V)).2;simpa only[M]using this
   have ad:=hs x (Aj2 J);have p:=Grew.app H' [some (.cells (Ct x))];have O:(H'++[some (AObj.cells [S (Ax x.name),I x.ino])])[H.length]?=some (some (.map (iS (jH (l.take k))))):=p.cells E;have ea:AU 2 (H'++[some (.cells [S (Ax []),I 0])]) (.ptr H'.length 0) (.agg (Ct x))=some (H'++[some (.cells (Ct x))]):=by simp[AU,Ct,Bb]
   simp[h,G.idx Cg J rfl,Acf,oA,ea];simp[Ct];refine bP_of (Ua (s:=x.name) (by omega)) ?_;have j:¬(Ek x.name/\(∀y,0<k/\l[k - 1]?=some y->Bv y.name x.name<0)/\1<=x.ino/\x.ino<=4611686018427387904/\¬Bo Nm.ino (l.take k) x.ino)->Aig H l (.tup [.lit (.map none),B false]) (H'++[some (.cells (Ct x))]):=λA=>⟨q.trans p,λe=>absurd (aa e) A,λ_=>rfl⟩;have key:(∀y,0<k/\l[k - 1]?=some y->Bv y.name x.name<0)->Ek x.name->True:=λ_ _=>trivial;by_cases d:Ek x.name
   ·have D:Aal (.int .i64) (.bool false) (H'++[some (AObj.cells [S (Ax x.name),I x.ino])]) (.mp H.length) (I x.ino) false=some (B (decide (Bo Nm.ino (l.take k) x.ino))):=by rw[Ahl O];exact congrArg some (tU _ _)
    have T:¬Bo Nm.ino (l.take k) x.ino->Abq (.int .i64) (H'++[some (AObj.cells [S (Ax x.name),I x.ino])]) (.mp H.length) (I x.ino) (B true)=some ((H'++[some (AObj.cells [S (Ax x.name),I x.ino])]).set H.length (some (.map (iS (jH (l.take k++[x])))))):=λA=>by rw[Apk O,Aqp A]
    have ab:H.length<H'.length:=(BG.1 E).1;rcases An9 k with h0 | U
    ·have g:¬0<k:=by omega
     have K:∀y,(l.take k).getLast?=some y->Bv y.name x.name<0:=λy t=>by have:=(M y).1 t;omega
     by_cases a2:x.ino<1
     ·simp[d,g,a2];exact j λe=>by omega
     ·by_cases m:4611686018427387904<x.ino
      ·simp[d,g,a2,m];exact j λe=>by omega
      ·by_cases f:Bo Nm.ino (l.take k) x.ino
       ·simp[d,g,a2,m,D,f];exact j λe=>e.2.2.2.2 f
       ·simp[d,g,a2,m,D,f,T f,Au (a:=(k:Nat)) (b:=1) (by omega) (by omega)];refine Q (n - 1) _ _ _ _ _ _ (by omega) ⟨k+1,by omega,rfl,rfl,rfl,rfl,by simp,⟨Al1 (q.trans p).1 (Au4 List.length_set.symm),λi N=>(Cc (by omega)).trans ((q.trans p).2 i N)⟩,by rw[C,HU (by simp;omega)],by rw[C,U7];exact⟨F,d,K,by omega,by omega,f⟩⟩
    ·have g:0<k:=U;have t:=Dq (l:=l) (i:=k - 1) (by omega);generalize l[k - 1]=y at t;have w:Ar .sub (I k) (I 1)=some (I ((k - 1:Nat):Int)):=by rw[B4 (by omega) (by omega)];congr 3;omega
     have u:=G.idx Cg t (i:=((k - 1:Nat):Int)) rfl;by_cases o:Bv y.name x.name<0
     ·have K:∀y,(l.take k).getLast?=some y->Bv y.name x.name<0:=λz hz=>by have:=((M z).1 hz).2;rw[t]at this;injection this with this;rw[<- this];exact o
      by_cases a2:x.ino<1
      ·simp[d,g,w,u,aR,YC,o,a2];exact j λe=>by omega
      ·by_cases m:4611686018427387904<x.ino
       ·simp[d,g,w,u,aR,YC,o,a2,m];exact j λe=>by omega
       ·by_cases f:Bo Nm.ino (l.take k) x.ino
        ·simp[d,g,w,u,aR,YC,o,a2,m,D,f];exact j λe=>e.2.2.2.2 f
        ·simp[d,g,w,u,aR,YC,o,a2,m,D,f,T f,Au (a:=(k:Nat)) (b:=1) (by omega) (by omega)];refine Q (n - 1) _ _ _ _ _ _ (by omega) ⟨k+1,by omega,rfl,rfl,rfl,rfl,by simp,⟨Al1 (q.trans p).1 (Au4 List.length_set.symm),λi N=>(Cc (by omega)).trans ((q.trans p).2 i N)⟩,by rw[C,HU (by simp;omega)],by rw[C,U7];exact⟨F,d,K,by omega,by omega,f⟩⟩
     ·simp[d,g,w,u,aR,YC,o];exact j λe=>o (e.2.1 y ⟨U,t⟩)
   ·simp[d];exact j λe=>d e.1
  ·have:l.take k=l:=Aj3 (by omega);rw[this]at E F;simp[show ¬k<l.length by omega];exact⟨q,λ_=>⟨_,rfl,E⟩,λA=>absurd ⟨P,F⟩ A⟩
 ·have L:(16:Int)<l.length:=by omega
  have:¬fB l:=λh=>P h.1;simp[G.len,L];exact⟨Grew.refl _,λh=>absurd h this,λ_=>rfl⟩)
end
section
def Aaj (ns:List Nm)(ds:List Nd):Prop:=CQ Cj Nd.ino ds/\∀d∈ds,Bo Nm.ino ns d.ino/\CZ d.size d.l
instance (ns:List Nm) (ds:List Nd):Decidable (Aaj ns ds):=by unfold Aaj;infer_instance
def Fw (ns:List Nm)(ds:List Nd):Prop:=fB ns/\ds.length=ns.length/\Aaj ns ds
instance (ns:List Nm) (ds:List Nd):Decidable (Fw ns ds):=by unfold Fw;infer_instance
def Sm (ns:List Nm)(ds:List Nd):Prop:=ns.length<=100000/\ds.length<=100000/\(∀x∈ns,x.name.length<=9223372036854775807)/\∀d∈ds,d.l.length<=1000000
def ImV (ns:List Nm)(ds:List Nd)(v:AV):Prop:=∃a b c,v=.agg [a,b]/\SV Ct 2 ns a/\SV BS 3 c b/\c.map NdV.nd=ds
theorem ImV.noIds {ns:List Nm}{ds:List Nd}{v:AV}(h:ImV ns ds v):AF [v]=true:=by
 obtain⟨a,b,e,rfl,c,d,rfl⟩:=h;simp[AF,Av.noIds,c.1,d.1]
theorem Aih {ns:List Nm}{ds:List Nd}{d:Nd}:Aaj ns (ds++[d])↔Aaj ns ds/\(∀y,ds.getLast?=some y->y.ino<d.ino)/\Bo Nm.ino ns d.ino/\CZ d.size d.l:=by
 unfold Aaj;rw[YT koI];simp only[S4,Ac0];constructor
 ·rintro⟨⟨b,c⟩,a⟩;exact⟨⟨b,λy e=>a y (.inl e)⟩,c,a d (.inr rfl)⟩
 ·rintro⟨⟨b,a⟩,c,f⟩;refine⟨⟨b,c⟩,?_⟩;rintro y (e | rfl)
  ·exact a y e
  ·exact f
theorem Aqr {ns:List Nm}{a b:List Nd}(h:Aaj ns (a++b)):Aaj ns a:=
 ⟨(Aq8.1 h.1).1,λd c=>h.2 d (by simp[c])⟩
theorem Lx {α:Type}{l:List α}{k:Nat}(a:k<=l.length)(y:α):(l.take k).getLast?=some y↔0<k/\l[k - 1]?=some y:=by
 rw[Au1,Aj4,Aq2 a,Ak2];by_cases c:0<k
 ·rw[if_pos (by omega)];exact⟨λh=>⟨c,h⟩,λh=>h.2⟩
 ·rw[if_neg (by omega)];exact⟨λh=>(by cases h),λh=>absurd h.1 c⟩
theorem EK {α:Type}{l:List α}{k:Nat}{x:α}(a:l[k]?=some x):l.take (k+1)=l.take k++[x]:=by rw[An5,a];rfl
abbrev Av1:=@List.getLast?_map
theorem xT {ns:List Nm}{ds:List Nd}{v:AV}(P:ImV ns ds v)(s:Sm ns ds):Ba2 40 [v] (B (decide (Fw ns ds))):=BPure.val P.noIds rfl (wD (by
 obtain⟨a,b,c,rfl,J,C,rfl⟩:=P;have b1:=s.1;have W:=s.2.1;rw[Ak8]at W;unfold tM;have oa:=SV.oneA J;have ob:=SV.oneA C;simp[oa,ob];obtain⟨r,u,⟨hg,f,hn⟩,hc⟩:=Aqq (H:=[some (.cells [a,b])]) J (by omega) (λx j=>by have:=s.2.2.1 x j;omega);refine bC_of hc ?_;have X:u[0]?=some (some (.cells [a,b])):=hg.cells rfl;by_cases p:fB ns
 ·obtain⟨o,rfl,N⟩:=f p;have aa:Aax u (.mp o)=some (I ns.length):=by simp[Aax,N,iS,jH,goInt]
  simp[X,C.len,aa];by_cases D:c.length=ns.length
  ·have M:¬((c.length:Int)≠ns.length):=by omega
   simp[D];refine eL (λn U V Q S T H'=>∃k:Nat,k+n=c.length/\U=.mp o/\(∃g:Int,V=I g/\0<=g/\(∀y,(c.take k).getLast?=some y->y.ino<=g)/\(g=0\/∃y,(c.take k).getLast?=some y/\y.ino=g))/\Q=b/\S=I ns.length/\T=I k/\Grew u H'/\Aaj ns ((c.take k).map NdV.nd)) ?_ c.length ⟨0,by omega,rfl,⟨0,rfl,by omega,by simp,.inl rfl⟩,rfl,rfl,rfl,Grew.refl _,by simp[Aaj,CQ]⟩;rintro n U V Q S T H' R hR ⟨k,hk,rfl,⟨g,rfl,af,ad,ae⟩,rfl,rfl,rfl,L,E⟩;unfold XV;rcases Aj5 k ns.length with h | h
   ·have j:=Dq (l:=c) (i:=k) (by omega);generalize c[k]=d at j;have Z:AU 3 (H'++[some (.cells [I 0,I 0,Ad])]) (.ptr H'.length 0) (.agg (BS d))=some (H'++[some (.cells (BS d))]):=by have:=SV.oneA d.h;simp[AU,BS,Bb,this]
    have G:=Grew.app H' [some (.cells (BS d))];have Y:(H'++[some (AObj.cells [I d.nd.ino,I d.nd.size,d.R])])[o]?=some (some (.map (iS (jH ns)))):=G.cells (L.cells N);have K:Aal (.int .i64) (.bool false) (H'++[some (AObj.cells [I d.nd.ino,I d.nd.size,d.R])]) (.mp o) (I d.nd.ino) false=some (B (decide (Bo Nm.ino ns d.nd.ino))):=by rw[Ahl Y];exact congrArg some (tU _ _)
    have ab:d.nd.l.length<=281474976710656:=by have:=s.2.2.2 d.nd (Al9 (Aj2 j));omega
    have t:=EK j;have F:Fw ns (c.map NdV.nd)->g<d.nd.ino/\Bo Nm.ino ns d.nd.ino/\CZ d.nd.size d.nd.l:=by
     rintro⟨-,-,O⟩;rw[<- Ao0 (k+1) c,t,An0,An0]at O;have A:=(Aih.1 (Aqr O)).2;refine⟨?_,A.2⟩;rcases ae with rfl | ⟨y,f,rfl⟩
     ·obtain⟨x,j,e⟩:=A.2.1;have:=(p.2.1 x j).2.1;omega
     ·exact A.1 y.nd (by rw[Av1,f];rfl)
    simp[h,C.idx BN j rfl,Acw,Z];simp[BS];by_cases w:d.nd.ino<=g
    ·have:¬Fw ns (c.map NdV.nd):=λm=>by have:=(F m).1;omega
     simp[w,this]
    ·by_cases a2:Bo Nm.ino ns d.nd.ino
     ·simp[w,K,a2,A1];refine Az (Fu d.h ab) ?_;by_cases q:CZ d.nd.size d.nd.l
      ·simp[q,Au (a:=k) (b:=1) (by omega) (by omega)];refine hR (n - 1) _ _ _ _ _ _ (by omega) ⟨k+1,by omega,rfl,⟨d.nd.ino,rfl,by omega,?_,.inr ⟨d,by rw[t];simp,rfl⟩⟩,rfl,rfl,by simp,L.trans G,?_⟩
       ·intro y f;rw[t]at f;simp at f;rw[<- f];exact Int.le_refl _
       ·rw[t,An0];refine Aih.2 ⟨E,λy f=>?_,a2,q⟩;rw[Av1]at f;obtain⟨z,hz,rfl⟩:=Option.map_eq_some_iff.1 f;have h9:z.nd.ino<=g:=ad z hz;show z.nd.ino<d.nd.ino;omega
      ·have:¬Fw ns (c.map NdV.nd):=λm=>q (F m).2.2;simp[q,this]
     ·have:¬Fw ns (c.map NdV.nd):=λm=>a2 (F m).2.1;simp[w,K,a2,this]
   ·have e:c.take k=c:=Aj3 (by omega);rw[e]at E;have:Fw ns (c.map NdV.nd):=⟨p,by simp[D],E⟩;simp[show ¬k<ns.length by omega,this]
  ·have:¬Fw ns (c.map NdV.nd):=λh=>D (by simpa using h.2.1);have M:((c.length:Int)≠ns.length):=by omega
   simp[M,this]
 ·have:¬Fw ns (c.map NdV.nd):=λh=>p h.1;rw[hn p];simp[this]))
abbrev Aa8:=And.intro @Ag @B8
abbrev Ac1:=And.intro @AM @Aa5
abbrev Aj1:=And.intro @Aa8 @Ac1
theorem FD {s:List UInt8}(hs:s.length<=9223372036854775807):Ba2 134 [S (Ax s)] (B (decide (Ek s))):=BPure.flat λH=>VL (by
 unfold Pj;refine PG (λn F G H'=>∃k:Nat,k+n=s.length/\F=S (Ax s)/\G=I k/\H'=H/\(∀m y,m<k->s[m]?=some y->VA y)/\(0<k->s[0]?≠some 45)) ?_ s.length ⟨0,by omega,rfl,rfl,rfl,by omega,by omega⟩;rintro n F G H' R N ⟨k,T,rfl,rfl,rfl,E,D⟩;unfold J0;rw[FL (by omega)];rcases Aj5 k s.length with h | h
 ·have o:=Dq h;generalize s[k]=y at o;have v:¬(VA y/\(k=0->¬(y.toNat:Int)=45))->¬Ek s:=λQ g=>Q ⟨g.2.2.2 y (Aj2 o),λr e=>g.2.2.1 (by rw[<- r,o];congr 1;exact(Aee (k:=45) rfl).mp e)⟩
  have next:VA y->(k=0->¬(y.toNat:Int)=45)->R [S (Ax s),I ((k:Int)+1)] H':=λL M=>N (n - 1) _ _ _ (by omega) ⟨k+1,by omega,rfl,by simp,rfl,λm z g t=>by
   by_cases c:m=k
   ·rw[c,o]at t;injection t with t;rw[<- t];exact L
   ·exact E m z (by omega) t,λ_=>by
   rcases An9 k with rfl | d
   ·rw[o];intro e;injection e with e;exact M rfl ((Aee (k:=45) rfl).mpr e)
   ·exact D d⟩
  have f:=Au (a:=k) (b:=1) (by omega) (by omega);simp[h,I7 rfl o];by_cases p:(y.toNat:Int)<97
  ·by_cases l:(y.toNat:Int)<48
   ·by_cases q:(y.toNat:Int)=46
    ·simp[q,f];exact next (by unfold VA;omega) (by omega)
    ·by_cases i:(y.toNat:Int)=45
     ·rcases An9 k with d | d
      ·have:¬Ek s:=v λj=>j.2 d i;simp[i,d,this]
      ·simp[i,f,show ¬k=0 by omega];exact next (by unfold VA;omega) (by omega)
     ·have A:¬(y.toNat:Int)=95:=by omega
      have:¬Ek s:=v λj=>by unfold VA at j;omega
      simp[p,l,q,i,A,this]
   ·by_cases q:(57:Int)<y.toNat
    ·by_cases i:(y.toNat:Int)=95
     ·simp[i,f];exact next (by unfold VA;omega) (by omega)
     ·have x:¬(y.toNat:Int)=46:=by omega
      have w:¬(y.toNat:Int)=45:=by omega
      have:¬Ek s:=v λj=>by unfold VA at j;omega
      simp[p,l,q,i,x,w,this]
    ·simp[p,l,q,f];exact next (by unfold VA;omega) (by omega)
  ·by_cases l:(122:Int)<y.toNat
   ·have J:¬(y.toNat:Int)<48:=by omega
    have K:(57:Int)<y.toNat:=by omega
    have x:¬(y.toNat:Int)=46:=by omega
    have A:¬(y.toNat:Int)=95:=by omega
    have w:¬(y.toNat:Int)=45:=by omega
    have:¬Ek s:=v λj=>by unfold VA at j;omega
    simp[p,l,J,K,x,A,w,this]
   ·simp[p,l,f];exact next (by unfold VA;omega) (by omega)
 ·have O:∀b∈s,VA b:=λb P=>by obtain⟨m,g⟩:=Ak0.1 P;have:=(BG.1 g).1;exact E m b (by omega) g
  have r:¬k<s.length:=by omega
  rcases An9 s.length with d | d
  ·have:¬Ek s:=λg=>g.1 (List.length_eq_zero_iff.1 d);have f:¬(1:Int)<=s.length:=by omega
   have u:¬1<=s.length:=by omega
   simp only[Aj1,Int.ofNat_lt,r];simp[d,this]
  ·by_cases C:s.length<=20
   ·have:Ek s:=⟨λe=>by rw[e]at d;simp at d,C,D (by omega),O⟩;have f:(1:Int)<=s.length:=by omega
    have u:(s.length:Int)<=20:=by omega
    simp[r,f,u,PQ,this]
   ·have:¬Ek s:=λg=>C g.2.1;have f:(1:Int)<=s.length:=by omega
    have u:¬(s.length:Int)<=20:=by omega
    simp[r,f,u,PQ,this]
    try omega)
end
end Go.Proofs.YtbppnhenlboefaaGreat.Av
