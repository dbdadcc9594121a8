/- Texts of this proof, one behind the other, packed into one file by a program of this session. No condition. -/
import Derived.Test.YtbppnhenlboefaaGreatMwF
import Derived.ChangeArms
import Derived.DataElems
import Derived.DataReads
import Derived.KernelRfl
import Derived.Laws.IdiomStrings
import Derived.Lib.Bytealg
import Derived.Lib.Overlaps
import Derived.OpenShut
set_option linter.unusedVariables false
set_option linter.unusedSimpArgs false
set_option maxRecDepth 100000
namespace Go.Proofs.YtbppnhenlboefaaGreat.Av
open Go Go.RowKit Go.Proofs.Tryz
section
def Bc (l:List UInt8):List AV:=l.map λb=>.lit (.int .u8 b.toNat)
theorem WA (a b:List UInt8):Bc (a++b)=Bc a++Bc b:=by simp[Bc]
theorem CF (a:List UInt8):(Bc a).length=a.length:=by simp[Bc]
theorem PC (a:List UInt8)(n:Nat):(Bc a).take n=Bc (a.take n):=by simp[Bc]
theorem Un (a:List UInt8)(n:Nat):(Bc a).drop n=Bc (a.drop n):=by simp[Bc]
theorem WB (a:List UInt8)(n:Nat):(Bc a)[n]?=(a[n]?).map λb=>.lit (.int .u8 b.toNat):=by simp[Bc]
def N2 (b:UInt8):List AV:=[.lit (.int .u8 b.toNat)]
theorem PJ (l:List UInt8):l.flatMap N2=Bc l:=by
 induction l with
 | nil=>rfl
 | cons a l ih=>rw[vW,ih];rfl
theorem Q3 (l:List UInt8):Au (Bc l)=true:=by
 induction l with
 | nil=>rfl
 | cons a l ih=>simpa[Bc,Au,noIds]using ih
def As (l:List UInt8):ByteArray:=⟨l.toArray⟩
theorem Mn (l:List UInt8):(As l).size=l.length:=rfl
abbrev wO:=@List.drop_eq_getElem_cons
theorem Xs (s:ByteArray):∀(n i:Nat) (r:List UInt8),s.size - i=n→ByteArray.toList.loop s i r=r.reverse++s.data.toList.drop i:=by
  intro n
  induction n with
  | zero=>
    intro i r h;unfold ByteArray.toList.loop
    rw [if_neg (by omega), List.drop_of_length_le (by have : s.data.toList.length = s.size := by rw [Array.length_toList]; rfl
                                                      omega)]
    simp
  | succ n ih=>
    intro i r h;unfold ByteArray.toList.loop;have hi:i<s.size:=by omega
    rw[if_pos hi,ih (i+1) _ (by omega)];have hl:i<s.data.toList.length:=by rw[wE];exact hi
    rw[wO hl];simp[ByteArray.get!,getElem!_def];have:s.data[i]?=some s.data[i]:=xE hi;simp[this]
theorem Xr (s:ByteArray):s.toList=s.data.toList:=by
 unfold ByteArray.toList;rw[Xs s s.size 0 [] (by simp)];simp
theorem GI (l:List UInt8):(As l).toList=l:=by rw[Xr];simp[As]
theorem G9 {a b:List UInt8}:QK .eql (S (As a)) (S (As b))=some (B (decide (a=b))):=by
 simp only[QK,RP,GI,xX]
 by_cases h:a=b<;>simp[h]
theorem NS {a b:List UInt8}:QK .neq (S (As a)) (S (As b))=some (B (decide (a≠b))):=by
 simp only[QK,RP,GI,xX]
 by_cases h:a=b<;>simp[h]
theorem Wr:(⟨#[]⟩:ByteArray)=As []:=rfl
theorem SV.bytes {l:List UInt8}{v:AV}(h:SV N2 1 l v)(H:AH):Aa H 1 v=some (Bc l,l.length):=by rw[h.2 H,PJ]
theorem SV.noId {α:Type}{enc:α→List AV}{sz:Nat}{l:List α}{v:AV}(h:SV enc sz l v):AR v=[]:=by
 have:=h.1
 cases v<;>simp[AR,noIds]at this⊢
structure Ext where
 no:Int
 b:List UInt8
 hb:b.length=8
 deriving DecidableEq
def Aw (x:Ext):List AV:=I x.no::Bc x.b
theorem A2 (x:Ext):(Aw x).length=9:=by simp[Aw,CF,x.hb]
theorem W9 (l:List UInt8):(Bc l).all oneA=true:=by simp[Bc]
@[simp] theorem pY (x:Ext):(Aw x).all oneA=true:=by
 show(oneA (I x.no)&&(Bc x.b).all oneA)=true
 rw[W9];rfl
theorem F6 (x:Ext):Au (Aw x)=true:=by
 show Au (I x.no::Bc x.b)=true
 simp[Au,noIds,Q3]
@[simp] theorem rP (x:Ext) (t:List AV):(Aw x++t)[0]?=some (I x.no):=rfl
@[simp] theorem pZ (x:Ext):(Aw x)[0]?=some (I x.no):=rfl
@[simp] theorem rd_b (x:Ext):Al true 8 (Aw x) 1=some (.agg (Bc x.b)):=by
 have:=x.hb
 simp[Al,Aw,CF,this,vA]
abbrev vL:=@List.take_append_of_le_length
@[simp] theorem rd_e (x:Ext) (t:List AV):Al true 9 (Aw x++t) 0=some (.agg (Aw x)):=by
 have:=A2 x
 simp[Al,this,vL]
@[simp] theorem rd_e' (x:Ext):Al true 9 (Aw x) 0=some (.agg (Aw x)):=by
 have:=A2 x
 simp[Al,this,vA]
theorem oV {b:List UInt8}{k:Nat}{y:UInt8}(h:b[k]?=some y)(hk:k<8):bN false 1 8 1 (.agg (Bc b)) (I k)=some (.lit (.int .u8 y.toNat)):=by
 have:(k:Int)<8:=by omega
 simp[bN,KU,this,WB,h]
theorem jY {H:AH}{z:List AV}{x:Ext}{o:Nat}(ho:o=H.length)(hz:z.length=9):AS 9 (H++[some (.cells z)]) (.ptr o 0) (.agg (Aw x))=some (H++[some (.cells (Aw x))]):=by
 have:=A2 x
 have e:AK z 0 (Aw x)=Aw x:=by
  have hb:(Bc x.b).length=8:=by rw[CF,x.hb]
  unfold Aw;cases hB:Bc x.b with
  | nil=>rw[hB]at hb;simp at hb
  | cons a r=>rw[hB]at hb;simp at hb;simp[AK,hz,hb]
 simp[AS,ho,this,hz,e,-AK]
theorem u8z {y:UInt8}:(y.toNat=0)=(y=0):=by
 refine propext ⟨λh=>?_,λh=>by rw[h];rfl⟩;apply UInt8.toNat_inj.1;rw[h];rfl
def cleanB (size:Int):Int→List UInt8→Prop
 | _,[]=>True
 | p,b::r=>(b≠0→p<size)∧cleanB size (p+1) r
instance cleanB.dec (size:Int):∀(p:Int) (l:List UInt8),Decidable (cleanB size p l)
 | _,[]=>Decidable.isTrue True.intro
 | p,b::r=>by
  have:=cleanB.dec size (p+1) r
  unfold cleanB;infer_instance
def Hd (size:Int)(x:Ext):Prop:=cleanB size (x.no*8) x.b
instance (size:Int) (x:Ext):Decidable (Hd size x):=by unfold Hd;infer_instance
def okL (size:Int):Int→List Ext→Prop
 | _,[]=>True
 | p,x::r=>p<x.no∧x.no<137438953472∧Hd size x∧okL size x.no r
instance okL.dec (size:Int):∀(p:Int) (l:List Ext),Decidable (okL size p l)
 | _,[]=>Decidable.isTrue True.intro
 | p,x::r=>by
  have:=okL.dec size x.no r
  unfold okL;infer_instance
theorem OZ {size p:Int}{x:Ext}{r:List Ext}:okL size p (x::r)=(p<x.no∧x.no<137438953472∧Hd size x∧okL size x.no r):=rfl
theorem iU {size p:Int}:okL size p []=True:=rfl
def E4 (size:Int)(l:List Ext):Prop:=0≤size∧size≤1099511627776∧okL size (-1) l
instance (size:Int) (l:List Ext):Decidable (E4 size l):=by unfold E4;infer_instance
theorem Et {α:Type}{l:List α}{k:Nat}{y:α}(h:l[k]?=some y):l.drop k=y::l.drop (k+1):=by
 obtain⟨hk,e⟩:=BE.1 h;rw[wO hk,e]
theorem St (x:Ext)(size:Int)(h0: -1≤x.no)(h1:x.no<137438953472):BPure prog 110 [.agg (Aw x),I size] (B (decide (Hd size x))):=BPure.val (by simp[Au,noIds,F6]) rfl (QT (by
 unfold Oz;simp;refine L9 (λn x1 x2 x8 x9 H'=>∃k:Nat,k+n=8∧x1=I size∧x2=.ptr 0 0∧x8=.agg (Bc x.b)∧x9=I k∧H'=[some (.cells (Aw x))]∧(Hd size x↔cleanB size (x.no*8+k) (x.b.drop k))) ?_ 8 ⟨0,rfl,rfl,rfl,rfl,rfl,rfl,by simp[Hd]⟩;rintro n x1 x2 x8 x9 H' R hR ⟨k,hk,rfl,rfl,rfl,rfl,rfl,hm⟩;unfold IJ;rcases vF k 8 with hlt | hge
 ·have hlt':(k:Int)<8:=by omega
  have hx:=E3 (l:=x.b) (i:=k) (by rw [x.hb]; exact hlt);generalize x.b[k]'(by rw [x.hb]; exact hlt)=y at hx;rw [Et hx] at hm;unfold cleanB at hm;simp [hlt',oV hx hlt,u8z];have hkk : (k : Int) + 1=((k + 1 : Nat) : Int):=by omega
  by_cases hy:y=0
  ·simp[hy,A0 (a:=k) (b:=1) (by omega) (by omega)]
   refine hR (n - 1) _ _ _ _ _ (by omega) ⟨k+1,by omega,rfl,rfl,rfl,rfl,rfl,?_⟩;rw[hm];simp[hy,Int.add_assoc]
  ·simp[hy,I8 (a:=x.no) (b:=8) (by omega) (by omega),A0 (a:=x.no*8) (b:=k) (by omega) (by omega)]
   by_cases hs:size≤x.no*8+k
   ·have:¬Hd size x:=by rw[hm];intro h;have:=h.1 hy;omega
    simp[hs,this]
   ·simp[hs,A0 (a:=k) (b:=1) (by omega) (by omega)]
    refine hR (n - 1) _ _ _ _ _ (by omega) ⟨k+1,by omega,rfl,rfl,rfl,rfl,rfl,?_⟩;rw[hm];simp[hy,Int.add_assoc];omega
 ·have:k=8:=by omega
  subst this;have e:x.b.drop 8=[]:=by rw[List.drop_eq_nil_iff,x.hb];omega
  rw[e]at hm;simp only[cleanB,iff_true]at hm;simp[hm]))
theorem Ga {α:Type}{enc:α→List AV}{sz:Nat}{l:List α}{v:AV}(hv:SV enc sz l v):oneA v=true:=by
 have h1:=hv.1;have h2:=hv.2 [];cases v with
 | lit a=>cases a<;>first | rfl | (simp[Aa]at h2)
 | _=>first | rfl | (simp[Aa]at h2)
theorem LE (no:Int)(h0:0≤no)(h1:no<137438953472):BPure prog 56 [I no] (.agg (Cc ⟨no*8,8⟩)):=BPure.val (by simp[Au,noIds]) rfl (QV (by
 unfold O2;simp[I8 (a:=no) (b:=8) (by omega) (by omega),AS,Al,Cc]))
abbrev zA:=@List.drop_length
theorem FS {size:Int}{l:List Ext}{v:AV}(hv:SV Aw 9 l v)(hl:l.length≤281474976710656):BPure prog 54 [.agg [I size,v]] (B (decide (E4 size l))):=BPure.val (by simp[Au,noIds,hv.1]) rfl (TG (by
 unfold So;simp[Ga hv]
 by_cases h1:size<0
 ·have:¬E4 size l:=λh=>by have:=h.1;omega
  simp[h1,this]
 ·by_cases h2:1099511627776<size
  ·have:¬E4 size l:=λh=>by have:=h.2.1;omega
   simp[h1,h2,this]
  ·simp[h1,h2,hv.len]
   have hm:E4 size l↔okL size (-1) l:=by unfold E4;constructor<;>intro h<;>simp_all<;>omega
   have e:decide (E4 size l)=decide (okL size (-1) l):=decide_eq_decide.2 hm;rw[e];refine N4 (λn x1 x3 x15 x16 x17 H'=>∃(k:Nat) (p:Int),k+n=l.length∧x1=.ptr 0 0∧x3=I p∧x15=v∧x16=I l.length∧x17=I k∧(∃X,H'=some (.cells [I size,v])::X)∧-1≤p∧(okL size (-1) l↔okL size p (l.drop k))) ?_ l.length ⟨0,-1,by simp,rfl,rfl,rfl,rfl,rfl,⟨[],rfl⟩,by omega,by simp⟩;rintro n x1 x3 x15 x16 x17 H' R hR ⟨k,p,hk,rfl,rfl,rfl,rfl,rfl,⟨X,rfl⟩,hp,hm⟩;unfold K8;rcases vF k l.length with hlt | hge
   ·have hx:=E3 hlt
    generalize l[k]=y at hx;rw[Et hx]at hm;rw[OZ]at hm;simp[hlt,hv.idx A2 hx rfl,-Jq];rw[← yD,jY (by simp) (by rfl)];simp
    by_cases c1:y.no≤p
    ·have:¬okL size (-1) l:=by rw[hm];intro h;omega
     simp[c1,this]
    ·by_cases c2:137438953472≤y.no
     ·have:¬okL size (-1) l:=by rw[hm];intro h;omega
      simp[c1,c2,this]
     ·simp[c1,c2]
      refine A1 (St y size (by omega) (by omega)) ?_
      by_cases c3:Hd size y
      ·simp[c3,A0 (a:=k) (b:=1) (by omega) (by omega)]
       refine hR (n - 1) _ _ _ _ _ _ (by omega) ⟨k+1,y.no,by omega,rfl,rfl,rfl,rfl,rfl,⟨X++[some (.cells (Aw y))],rfl⟩,by omega,?_⟩;rw[hm];exact⟨λh=>h.2.2.2,λh=>⟨by omega,by omega,c3,h⟩⟩
      ·have:¬okL size (-1) l:=by rw[hm];intro h;exact c3 h.2.2.1
       simp[c3,this]
   ·have:k=l.length:=by omega
    subst this;rw[zA]at hm;simp only[iU,iff_true]at hm;simp[hm]))
def srt (l:List Ext):Prop:=l.Pairwise λa b=>a.no<b.no
theorem Ru {size:Int}:∀{l:List Ext} {p:Int},okL size p l→∀x∈l,p<x.no∧x.no<137438953472∧Hd size x
 | [],p,h=>by simp
 | a::r,p,h=>by
  rw[OZ]at h;intro x hx;rcases vX.1 hx with rfl | hx
  ·exact⟨h.1,h.2.1,h.2.2.1⟩
  ·have:=Ru h.2.2.2 x hx
   exact⟨by omega,this.2⟩
theorem Pa {size:Int}:∀{l:List Ext} {p:Int},okL size p l→srt l
 | [],p,h=>List.Pairwise.nil
 | a::r,p,h=>by
  rw[OZ]at h;exact List.Pairwise.cons (λb hb=>(Ru h.2.2.2 b hb).1) (Pa h.2.2.2)
theorem Ku {l:List Ext}(h:srt l){i j:Nat}{x y:Ext}(hi:l[i]?=some x)(hj:l[j]?=some y)(hij:i<j):x.no<y.no:=by
 obtain⟨h1,e1⟩:=BE.1 hi;obtain⟨h2,e2⟩:=BE.1 hj
 have:=List.pairwise_iff_getElem.1 h i j h1 h2 hij
 rw[e1,e2]at this;exact this
def EF (l:List Ext)(no:Int):Nat:=(l.takeWhile λx=>decide (x.no<no)).length
def BT (l:List Ext)(no:Int):Prop:=∃x∈l,x.no=no
instance (l:List Ext) (no:Int):Decidable (BT l no):=by unfold BT;infer_instance
theorem R5 {no:Int}:∀{l:List Ext} {i:Nat},i≤l.length→(∀m x,m<i→l[m]?=some x→x.no<no)→(∀x,l[i]?=some x→no≤x.no)→EF l no=i
 | [],i,hi,_,_=>by simp at hi;simp[EF,hi]
 | a::r,0,_,_,h=>by
  have:=h a (by simp)
  have:¬a.no<no:=by omega
  simp[EF,this]
 | a::r,i+1,hi,h1,h2=>by
  have:=h1 0 a (by omega) (by simp)
  have ih:=R5 (l:=r) (i:=i) (no:=no) (by simpa using hi) (λm x hm hx=>h1 (m+1) x (by omega) (by simpa using hx)) (λx hx=>h2 x (by simpa using hx));unfold EF at ih⊢;simp[this,ih]
theorem RB (l:List Ext)(no:Int):EF l no≤l.length:=by
 unfold EF;exact(List.takeWhile_sublist _).length_le
theorem V7 {no:Int}:∀{l:List Ext} {m:Nat} {x:Ext},m<EF l no→l[m]?=some x→x.no<no
 | a::r,m,x,hm,hx=>by
  by_cases ha:a.no<no
  ·cases m with
   | zero=>simp at hx;rw[← hx];exact ha
   | succ m=>
    refine V7 (l:=r) (m:=m) ?_ (by simpa using hx);unfold EF at hm⊢;simp[ha]at hm;exact hm
  ·unfold EF at hm
   simp[ha]at hm
 | [],m,x,hm,hx=>by simp at hx
theorem YS {no:Int}:∀{l:List Ext} {x:Ext},l[EF l no]?=some x→no≤x.no
 | a::r,x,hx=>by
  by_cases ha:a.no<no
  ·refine YS (l:=r) ?_
   unfold EF at hx⊢
   simpa[ha]using hx
  ·unfold EF at hx
   simp[ha]at hx;rw[← hx];omega
 | [],x,hx=>by simp at hx
theorem SA {l:List Ext}(h:srt l){no:Int}:BT l no↔∃x,l[EF l no]?=some x∧x.no=no:=by
 constructor
 ·rintro⟨x,hx,rfl⟩
  obtain⟨m,hm⟩:=vN.1 hx;refine⟨x,?_,rfl⟩;have:EF l x.no=m:=R5 (Nat.le_of_lt (BE.1 hm).1) (λk y hk hy=>Ku h hy hm hk) (λy hy=>by rw[hm]at hy;injection hy with hy;rw[hy];omega);rw[this];exact hm
 ·rintro⟨x,hx,e⟩
  exact⟨x,vD hx,e⟩
def Ca (a b:Int):Int:=if a<b then -1 else if b<a then 1 else 0
theorem Qk (a:Int):BPure prog 163 [I a] (B false):=BPure.flat λH=>P6 (by
 unfold ML
 simp)
theorem MK (a b:Int):BPure prog 94 [I a,I b] (I (Ca a b)):=BPure.flat λH=>Ny (by
 unfold K3;refine A1 (Qk a) ?_;refine A1 (Qk b) ?_;unfold Ca
 by_cases h1:a<b
 ·simp[h1]
 ·by_cases h2:b<a
  ·simp[h1,h2]
  ·simp[h1,h2])
theorem Xb (x:Ext)(no:Int):BPure prog 224 [.agg (Aw x),I no] (I (Ca x.no no)):=BPure.val (by simp[Au,noIds,F6]) rfl (O1 (by
 unfold LD;simp;refine A1 (MK x.no no) ?_
 rfl))
theorem UT {n:Int}{k:IntKind}(h1:0≤n)(h2:n≤9223372036854775807):Yw .u64 (.lit (.int k n))=some (.lit (.int .u64 n)):=by
 have e1:IntKind.u64.wrap n=n:=by
  simp[IntKind.wrap,IntKind.bits,IntKind.signed];omega
 simp[Yw,e1]
theorem RE {n:Int}:Ay .shr (.lit (.int .u64 n)) (.lit (.int .u64 1))=some (.lit (.int .u64 (n/2))):=by
 have e2:n.fdiv 2=n/2:=Int.fdiv_eq_ediv_of_nonneg _ (by omega);simp[Ay,Lp,IntKind.bits,e2]
theorem kE:Bq prog 224=true:=by kernel_rfl
theorem fG {l:List Ext}{v:AV}(hv:SV Aw 9 l v)(hs:srt l)(hl:l.length≤281474976710656)(no:Int):
  BPure prog 223 [v,I no,.fn (.func 224) [] []] (.tup [I (EF l no),B (decide (BT l no))]):=BPure.val (by simp[Au,noIds,hv.1]) rfl (Dw (by
 unfold Cd;simp[hv.len];refine CR (λn x0 x1 x2 x8 x9 x10 H'=>∃i j:Nat,i+n=j∧j≤l.length∧x0=v∧x1=I no∧x2=.fn (.func 224) [] []∧x8=I l.length∧x9=I i∧x10=I j∧H'=[]∧(∀m x,m<i→l[m]?=some x→x.no<no)∧(∀m x,j≤m→l[m]?=some x→no≤x.no)) ?_ l.length ⟨0,l.length,by simp,by omega,rfl,rfl,rfl,rfl,rfl,rfl,rfl,by simp,λm x hm hx=>by have:=(BE.1 hx).1;omega⟩;rintro n x0 x1 x2 x8 x9 x10 H' R hR ⟨i,j,hij,hj,rfl,rfl,rfl,rfl,rfl,rfl,rfl,h1,h2⟩;unfold BK;rcases vF i j with hlt | hge
 ·have hx:=E3 (l:=l) (i:=(i+j)/2) (by omega)
  generalize l[(i + j) / 2]'(by omega)=y at hx;simp [hlt,A0 (a:=i) (b:=j) (by omega) (by omega),UT (n:=(i : Int) + j) (by omega) (by omega),RE,Rl (a:=((i : Int) + j) / 2) (by omega) (by omega),hv.idx A2 hx (i:=((i : Int) + j) / 2) (by omega),kE];refine bC_of (Xb y no []) ?_;unfold Ca
  by_cases c1:y.no<no
  ·simp[c1,A0 (a:=((i:Int)+j)/2) (b:=1) (by omega) (by omega)]
   refine hR (j - ((i+j)/2+1)) _ _ _ _ _ _ _ (by omega) ⟨(i+j)/2+1,j,by omega,hj,rfl,rfl,rfl,rfl,by simp,rfl,rfl,?_,h2⟩;intro m x hm hmx
   by_cases hm2:m=(i+j)/2
   ·rw[hm2,hx]at hmx;injection hmx with e;rw[← e];exact c1
   ·have:=Ku hs hmx hx (by omega);omega
  ·have e:¬(if no<y.no then(1:Int)else 0)<0:=by split<;>omega
   simp[c1,e];refine hR ((i+j)/2 - i) _ _ _ _ _ _ _ (by omega) ⟨i,(i+j)/2,by omega,by omega,rfl,rfl,rfl,rfl,rfl,by simp,rfl,h1,?_⟩;intro m x hm hmx
   by_cases hm2:m=(i+j)/2
   ·rw[hm2,hx]at hmx;injection hmx with e;rw[← e];omega
   ·have:=Ku hs hx hmx (by omega);omega
 ·have hi:i=j:=by omega
  subst hi;have hp:EF l no=i:=R5 (by omega) h1 (λx hx=>h2 i x (by omega) hx);rcases vF i l.length with hil | hil
  ·have hx:=E3 (l:=l) (i:=i) hil
   generalize l[i]=y at hx
   have hh:BT l no↔Ca y.no no=0:=by
    rw[SA hs,hp]
    have:=h2 i y (by omega) hx
    constructor
    ·rintro⟨z,hz,e⟩
     rw[hx]at hz;injection hz with hz;rw[hz,e];unfold Ca;simp
    ·intro e
     refine⟨y,hx,?_⟩;unfold Ca at e;split at e
     ·omega
     ·split at e<;>omega
   simp[hil,hv.idx A2 hx rfl,kE];refine bC_of (Xb y no []) ?_;simp[hp,hh]
  ·have hn:¬BT l no:=by
    rw[SA hs,hp];rintro⟨z,hz,e⟩
    have:=(BE.1 hz).1
    omega
   simp[show ¬i<l.length by omega,hp,hn]))
theorem Sv {l:List Ext}{v:AV}(hv:SV Aw 9 l v)(hs:srt l)(hl:l.length≤281474976710656)(no:Int):
  BPure prog 208 [v,I no] (.tup [I (EF l no),B (decide (BT l no))]):=BPure.val (by simp[Au,noIds,hv.1]) rfl (QU (by
 unfold O0;refine A1 (fG hv hs hl no) ?_
 simp))
theorem iR (a c b0 b1 b2 b3 b4 b5 b6 b7 d0 d1 d2 d3 d4 d5 d6 d7:Int):Ha prog .neq 52 (.agg [I a,.lit (.int .u8 b0),.lit (.int .u8 b1),.lit (.int .u8 b2),.lit (.int .u8 b3),.lit (.int .u8 b4),.lit (.int .u8 b5),.lit (.int .u8 b6),.lit (.int .u8 b7)]) (.agg [I c,.lit (.int .u8 d0),.lit (.int .u8 d1),.lit (.int .u8 d2),.lit (.int .u8 d3),.lit (.int .u8 d4),.lit (.int .u8 d5),.lit (.int .u8 d6),.lit (.int .u8 d7)])=some (B !(a==c&&((b0==d0&&(b1==d1&&(b2==d2&&(b3==d3&&(b4==d4&&(b5==d5&&(b6==d6&&(b7==d7&&true))))))))&&true))):=by kernel_rfl
theorem u8i {a b:UInt8}:((a.toNat:Int)==(b.toNat:Int))=decide (a=b):=by
 by_cases h:a=b
 ·subst h;simp
 ·have:¬(a.toNat:Int)=b.toNat:=λe=>h (UInt8.toNat_inj.1 (by omega))
  simp[h,this]
theorem qN (x y:Ext):Ha prog .neq 52 (.agg (Aw x)) (.agg (Aw y))=some (B (decide (x≠y))):=by
 obtain⟨a,b,hb⟩:=x;obtain⟨c,d,hd⟩:=y
 match b,d,hb,hd with
 | [b0,b1,b2,b3,b4,b5,b6,b7],[d0,d1,d2,d3,d4,d5,d6,d7],hb,hd=>
  refine(iR a c b0.toNat b1.toNat b2.toNat b3.toNat b4.toNat b5.toNat b6.toNat b7.toNat d0.toNat d1.toNat d2.toNat d3.toNat d4.toNat d5.toNat d6.toNat d7.toNat).trans ?_;have e:(a==c)=decide (a=c):=by by_cases h:a=c<;>simp[h]
  simp only[u8i,e];simp
abbrev wS:=@List.take_add_one
abbrev wV:=@List.take_length
theorem Sk {l m:List Ext}{v w:AV}(hv:SV Aw 9 l v)(hw:SV Aw 9 m w)(hl:l.length≤281474976710656):
  BPure prog 53 [v,w] (B (decide (l=m))):=BPure.val (by simp[Au,noIds,hv.1,hw.1]) rfl (Gg (by
 unfold Ec;simp[hv.len,hw.len]
 by_cases h0:l.length=m.length
 ·simp[h0]
  refine EN (λn x0 x1 x12 x13 H'=>∃k:Nat,k+n=l.length∧x0=v∧x1=w∧x12=I l.length∧x13=I k∧H'=[]∧l.take k=m.take k) ?_ l.length ⟨0,by simp,rfl,rfl,by rw[h0],rfl,rfl,rfl⟩;rintro n x0 x1 x12 x13 H' R hR ⟨k,hk,rfl,rfl,rfl,rfl,rfl,ht⟩;unfold Df;rcases vF k l.length with hlt | hge
  ·have hx:=E3 hlt
   have hy:=E3 (l:=m) (i:=k) (by omega);generalize l[k]=x at hx;generalize m[k]'(by omega)=y at hy;simp [hlt,hv.idx A2 hx rfl,hw.idx A2 hy rfl,qN]
   by_cases hxy:x=y
   ·simp[hxy,A0 (a:=k) (b:=1) (by omega) (by omega)]
    refine hR (n - 1) _ _ _ _ _ (by omega) ⟨k+1,by omega,rfl,rfl,rfl,rfl,rfl,?_⟩;rw[wS,wS,hx,hy,ht,hxy]
   ·have:l≠m:=by
     rintro rfl;rw[hx]at hy;injection hy with hy;exact hxy hy
    simp[hxy,this]
  ·have:k=l.length:=by omega
   subst this
   have e:l=m:=by
    rw[wV,h0,wV]at ht;exact ht
   simp[e]
 ·have:l≠m:=λh=>h0 (by rw[h])
  have h0':¬(l.length:Int)=m.length:=by omega
  simp[h0,h0',this]))
def Tl (a:Int)(l:List Ext)(b:Int)(m:List Ext):Prop:=a=b∧l=m
instance (a:Int) (l:List Ext) (b:Int) (m:List Ext):Decidable (Tl a l b m):=by unfold Tl;infer_instance
theorem TH {a b:Int}{l m:List Ext}{v w:AV}(hv:SV Aw 9 l v)(hw:SV Aw 9 m w)(hl:l.length≤281474976710656):
  BPure prog 22 [.agg [I a,v],.agg [I b,w]] (B (decide (Tl a l b m))):=BPure.val (by simp[Au,noIds,hv.1,hw.1]) rfl (Sr (by
 unfold Qt;simp[Ga hv,Ga hw]
 by_cases h:a=b
 ·simp[h]
  refine A1 (Sk hv hw hl) ?_;simp[Tl]
 ·simp[h,Tl]))
structure KO {κ:Type}(c:κ→κ→Int):Prop where
 eq:∀a b,c a b=0↔a=b
 anti:∀a b,c a b<0↔0<c b a
 trans:∀a b d,c a b<0→c b d<0→c a d<0
section
variable {κ α : Type} {c : κ→κ→Int} {key : α→κ}
theorem KO.irr (h:KO c)(a:κ):¬c a a<0:=by have:=(h.eq a a).2 rfl;omega
theorem KO.tri (h:KO c){a b:κ}(h1:¬c a b<0)(h2:¬c b a<0):a=b:=by
 refine(h.eq a b).1 ?_;rw[h.anti]at h2;omega
def BX (c:κ→κ→Int)(key:α→κ)(l:List α):Prop:=l.Pairwise λa b=>c (key a) (key b)<0
def CZ (c:κ→κ→Int)(key:α→κ)(l:List α)(k:κ):Nat:=(l.takeWhile λx=>decide (c (key x) k<0)).length
def AO (key:α→κ)(l:List α)(k:κ):Prop:=∃x∈l,key x=k
instance [DecidableEq κ] (key:α→κ) (l:List α) (k:κ):Decidable (AO key l k):=by unfold AO;infer_instance
instance (c:κ→κ→Int) (key:α→κ) (l:List α):Decidable (BX c key l):=by unfold BX;infer_instance
theorem Iu {l:List α}(h:BX c key l){i j:Nat}{x y:α}(hi:l[i]?=some x)(hj:l[j]?=some y)(hij:i<j):c (key x) (key y)<0:=by
 obtain⟨h1,e1⟩:=BE.1 hi;obtain⟨h2,e2⟩:=BE.1 hj
 have:=List.pairwise_iff_getElem.1 h i j h1 h2 hij
 rw[e1,e2]at this;exact this
theorem Rz {k:κ}:∀{l:List α} {i:Nat},i≤l.length→(∀m x,m<i→l[m]?=some x→c (key x) k<0)→(∀x,l[i]?=some x→¬c (key x) k<0)→CZ c key l k=i
 | [],i,hi,_,_=>by simp at hi;simp[CZ,hi]
 | a::r,0,_,_,h=>by
  have:=h a (by simp)
  simp[CZ,this]
 | a::r,i+1,hi,h1,h2=>by
  have:=h1 0 a (by omega) (by simp)
  have ih:=Rz (l:=r) (i:=i) (k:=k) (by simpa using hi) (λm x hm hx=>h1 (m+1) x (by omega) (by simpa using hx)) (λx hx=>h2 x (by simpa using hx));unfold CZ at ih⊢;simp[this,ih]
theorem R1 (l:List α)(k:κ):CZ c key l k≤l.length:=by
 unfold CZ;exact(List.takeWhile_sublist _).length_le
theorem YR {k:κ}:∀{l:List α} {m:Nat} {x:α},m<CZ c key l k→l[m]?=some x→c (key x) k<0
 | a::r,m,x,hm,hx=>by
  by_cases ha:c (key a) k<0
  ·cases m with
   | zero=>simp at hx;rw[← hx];exact ha
   | succ m=>
    refine YR (l:=r) (m:=m) ?_ (by simpa using hx);unfold CZ at hm⊢;simp[ha]at hm;exact hm
  ·unfold CZ at hm
   simp[ha]at hm
 | [],m,x,hm,hx=>by simp at hx
theorem V6 {k:κ}:∀{l:List α} {x:α},l[CZ c key l k]?=some x→¬c (key x) k<0
 | a::r,x,hx=>by
  by_cases ha:c (key a) k<0
  ·refine V6 (l:=r) ?_
   unfold CZ at hx⊢
   simpa[ha]using hx
  ·unfold CZ at hx
   simp[ha]at hx;rw[← hx];exact ha
 | [],x,hx=>by simp at hx
theorem Ry (hc:KO c){l:List α}(h:BX c key l){m:Nat}{x:α}(hm:l[m]?=some x):CZ c key l (key x)=m:=
 Rz (Nat.le_of_lt (BE.1 hm).1) (λk y hk hy=>Iu h hy hm hk) (λy hy=>by rw[hm]at hy;injection hy with hy;rw[hy];exact hc.irr _)
theorem Ii (hc:KO c){l:List α}(h:BX c key l){k:κ}:AO key l k↔∃x,l[CZ c key l k]?=some x∧key x=k:=by
 constructor
 ·rintro⟨x,hx,rfl⟩
  obtain⟨m,hm⟩:=vN.1 hx;exact⟨x,by rw[Ry hc h hm];exact hm,rfl⟩
 ·rintro⟨x,hx,e⟩
  exact⟨x,vD hx,e⟩
theorem S9 (hc:KO c){l:List α}(h:BX c key l){k:κ}(hk:AO key l k):CZ c key l k<l.length:=by
 obtain⟨x,hx,-⟩:=(Ii hc h).1 hk;exact(BE.1 hx).1
theorem Qc (hc:KO c){l:List α}(h:BX c key l){x y:α}(hx:x∈l)(hy:y∈l)(e:key x=key y):x=y:=by
 obtain⟨m,hm⟩:=vN.1 hx;obtain⟨m',hm'⟩:=vN.1 hy;have h1:=Ry hc h hm;have h2:=Ry hc h hm';rw[e,h2]at h1;subst h1;rw[hm]at hm';injection hm'
def Il (c:κ→κ→Int)(key:α→κ)(l:List α)(x:α):List α:=l.take (CZ c key l (key x))++x::l.drop (CZ c key l (key x))
def CQ (c:κ→κ→Int)(key:α→κ)(l:List α)(k:κ):List α:=l.take (CZ c key l k)++l.drop (CZ c key l k+1)
abbrev wZ:=@List.take_append_drop
theorem FY {l:List α}{x y:α}:y∈Il c key l x↔y=x∨y∈l:=by
 unfold Il;rw[wL,vX]
 constructor
 ·rintro(h | h | h)
  ·exact .inr (wM h)
  ·exact .inl h
  ·exact .inr (xC h)
 ·rintro(h | h)
  ·exact .inr (.inl h)
  ·rw[← wZ (CZ c key l (key x)) l,wL]at h
   exact h.imp id .inr
abbrev xQ:=@List.pairwise_append
abbrev xB:=@List.pairwise_cons
theorem To (hc:KO c){l:List α}(h:BX c key l){x:α}(hn:¬AO key l (key x)):BX c key (Il c key l x):=by
 unfold Il BX
 have hl:∀y∈l.take (CZ c key l (key x)),c (key y) (key x)<0:=by
  intro y hy;obtain⟨m,hm⟩:=vN.1 hy;rw[vI]at hm;split at hm
  ·rename_i h1;exact YR h1 hm
  ·cases hm
 have hr:∀y∈l.drop (CZ c key l (key x)),c (key x) (key y)<0:=by
  intro y hy;obtain⟨m,hm⟩:=vN.1 hy;rw[vJ]at hm
  have hg:¬c (key y) (key x)<0:=by
   rcases yI m with rfl | hm0
   ·exact V6 hm
   ·intro h2
    have hlt:CZ c key l (key x)<l.length:=by have:=(BE.1 hm).1;omega
    have h3:=E3 hlt;exact V6 h3 (hc.trans _ _ _ (Iu h h3 hm (by omega)) h2)
  by_cases h1:c (key x) (key y)<0
  ·exact h1
  ·exact absurd ⟨y,vD hm,(hc.tri h1 hg).symm⟩ hn
 refine xQ.2 ⟨h.sublist (List.take_sublist _ _),xB.2 ⟨hr,h.sublist (List.drop_sublist _ _)⟩,?_⟩;intro a ha b hb;rcases vX.1 hb with rfl | hb
 ·exact hl a ha
 ·exact hc.trans _ _ _ (hl a ha) (hr b hb)
theorem delK_sub {l:List α}{k:κ}:(CQ c key l k).Sublist l:=by
 unfold CQ
 conv=>rhs;rw[← wZ (CZ c key l k) l]
 refine List.Sublist.append (List.Sublist.refl _) ?_;rw[← wX];exact List.drop_sublist _ _
theorem Er {l:List α}(h:BX c key l){k:κ}:BX c key (CQ c key l k):=h.sublist delK_sub
theorem Fa (hc:KO c){l:List α}(h:BX c key l){k:κ}(hk:AO key l k){y:α}:y∈CQ c key l k↔y∈l∧key y≠k:=by
 obtain⟨x,hx,rfl⟩:=(Ii hc h).1 hk;have hlt:=(BE.1 hx).1
 have e:l=l.take (CZ c key l (key x))++x::l.drop (CZ c key l (key x)+1):=by
  conv=>lhs;rw[← wZ (CZ c key l (key x)) l]
  rw[wO hlt,(BE.1 hx).2]
 have hs:=h;unfold BX at hs;generalize CZ c key l (key x)=p at*;unfold CQ;rw[Ry hc h hx];rw[e]at hs;rw[xQ,xB]at hs
 constructor
 ·intro hy
  rw[wL]at hy;rcases hy with hy | hy
  ·exact⟨wM hy,λe2=>hc.irr (key x) (e2▸hs.2.2 y hy x (by simp))⟩
  ·exact⟨xC hy,λe2=>hc.irr (key x) (e2▸hs.2.1.1 y hy)⟩
 ·rintro⟨hy,hne⟩
  rw[e,wL,vX]at hy;rw[wL];rcases hy with hy | rfl | hy
  ·exact .inl hy
  ·exact absurd rfl hne
  ·exact .inr hy
theorem SL {l:List α}{x:α}:(Il c key l x).length=l.length+1:=by
 have:=R1 (c:=c) (key:=key) l (key x)
 unfold Il;rw[vE,vR,uZ,vG];omega
theorem L0 {l:List α}{k:κ}(h:CZ c key l k<l.length):(CQ c key l k).length+1=l.length:=by
 unfold CQ;rw[vE,uZ,vG];omega
end
abbrev AX:List UInt8→List UInt8→Int:=Lib.compareBytes
abbrev yR:=@UInt8.lt_irrefl
abbrev yY:=@UInt8.le_antisymm
theorem Y9:∀a b:List UInt8,AX a b=0↔a=b
 | [],[]=>by simp[AX,Lib.compareBytes]
 | [],_::_=>by simp[AX,Lib.compareBytes]
 | _::_,[]=>by simp[AX,Lib.compareBytes]
 | x::a,y::b=>by
  have ih:=Y9 a b;simp only[AX]at ih⊢;unfold Lib.compareBytes
  by_cases h1:x<y
  ·have:x≠y:=λe=>by subst e;exact yR _ h1
   simp[h1,this]
  ·by_cases h2:y<x
   ·have:x≠y:=λe=>by subst e;exact yR _ h2
    simp[h1,h2,this]
   ·have:x=y:=yY (UInt8.not_lt.1 h2) (UInt8.not_lt.1 h1)
    simp[h1,h2,this,ih]
theorem Vk:∀a b:List UInt8,AX a b<0↔a<b
 | [],[]=>by simp[AX,Lib.compareBytes]
 | [],_::_=>by simp[AX,Lib.compareBytes]
 | _::_,[]=>by simp[AX,Lib.compareBytes]
 | x::a,y::b=>by
  have ih:=Vk a b;simp only[AX]at ih⊢;unfold Lib.compareBytes;rw[List.cons_lt_cons_iff]
  by_cases h1:x<y
  ·simp[h1]
  ·by_cases h2:y<x
   ·have:x≠y:=λe=>by subst e;exact yR _ h2
    simp[h1,h2,this]
   ·have:x=y:=yY (UInt8.not_lt.1 h2) (UInt8.not_lt.1 h1)
    simp[h1,h2,this,ih]
theorem YA:∀a b:List UInt8,0<AX a b↔b<a
 | [],[]=>by simp[AX,Lib.compareBytes]
 | [],_::_=>by simp[AX,Lib.compareBytes]
 | _::_,[]=>by simp[AX,Lib.compareBytes]
 | x::a,y::b=>by
  have ih:=YA a b;simp only[AX]at ih⊢;unfold Lib.compareBytes;rw[List.cons_lt_cons_iff]
  by_cases h1:x<y
  ·have:¬y<x:=λh=>UInt8.lt_asymm h1 h
   have h3:y≠x:=λe=>by subst e;exact yR _ h1
   simp[h1,this,h3]
  ·by_cases h2:y<x
   ·simp[h1,h2]
   ·have:x=y:=yY (UInt8.not_lt.1 h2) (UInt8.not_lt.1 h1)
    simp[h1,h2,this,ih]
theorem koN:KO AX where
 eq:=Y9
 anti a b:=by rw[Vk,YA]
 trans a b d h1 h2:=by rw[Vk]at*;exact List.lt_trans h1 h2
theorem MJ:∀a b:List UInt8,Op.bytesLess a b=decide (AX a b<0)
 | [],[]=>by simp[Op.bytesLess,AX,Lib.compareBytes]
 | _::_,[]=>by simp[Op.bytesLess,AX,Lib.compareBytes]
 | [],_::_=>by simp[Op.bytesLess,AX,Lib.compareBytes]
 | x::a,y::b=>by
  have ih:=MJ a b;simp only[AX]at ih⊢;unfold Op.bytesLess Lib.compareBytes;rw[ih]
  by_cases h1:x<y
  ·simp[h1]
  ·by_cases h2:y<x
   ·have:x≠y:=λe=>by subst e;exact yR _ h2
    simp[h1,h2,this]
   ·have:x=y:=yY (UInt8.not_lt.1 h2) (UInt8.not_lt.1 h1)
    simp[h1,h2,this]
theorem NR {a b:List UInt8}:QK .geq (S (As a)) (S (As b))=some (B (decide (¬AX a b<0))):=by
 simp only[QK,RP,GI,xX,MJ]
 by_cases h:AX a b<0<;>simp[h]
theorem Pu {l:List UInt8}{k:Nat}{i:Int}{y:UInt8}(hi:i=k)(h:l[k]?=some y):QN (S (As l)) (I i)=some (.lit (.int .u8 y.toNat)):=by
 subst hi
 have:(As l)[k]?=some y:=by
  obtain⟨h1,h2⟩:=BE.1 h;have hs:k<(As l).size:=by rw[Mn];exact h1
  rw[getElem?_pos (As l) k hs]
  congr 1
 simp[QN,KU,this]
theorem HH {l:List UInt8}(h:l.length≤9223372036854775807):FD (S (As l))=some (I l.length):=by
 simp[FD,Mn]
end
section
structure Sl (α:Type) where
 l:List α
 nil:Bool
structure Rd (P:Program)(t:TypeId)(α:Type) where
 size:Nat
 enc:α→List AV
 ok:α→Prop
 cells:P.cellsOf t=size
 read:∀{H:Type} {e:TypeId×Value→H} {W:World} {fuel:Nat} {cs:List Value} {d:DataW H×List MemPlace},DataW.trod e P W 0 (λ_=>true) true fuel t cs=some d→
  ∃x,ok x∧cs.length=size∧VRs (Cfg.start W) (enc x) cs∧∀u∈cs,u.oneCell'=true
section
variable {P : Program}
abbrev tG:=And.intro @List.mem_append.{0} @List.mem_singleton.{0}
abbrev xD:=@List.flatMap_append
theorem Xh {t:TypeId}{α:Type}(E:Rd P t α){W:World}{a:Addr}{H:Type}{e:TypeId×Value→H}{fuel:Nat}:∀(n:Nat) (ds:List (DataW H×List MemPlace)),ds.length=n→
  (∀i,i<n→(W.cells? 0 (a.add (i*P.cellsOf t)) (P.cellsOf t)).bind (DataW.trod e P W 0 (λ_=>true) true fuel t)=ds[i]?)→
  ∃(xs:List α) (vs:List Value),xs.length=n∧(∀x∈xs,E.ok x)∧vs.length=n*E.size∧VRs (Cfg.start W) (xs.flatMap E.enc) vs∧∀(i:Nat) (v:Value),vs[i]?=some v→W.cell? (a.add i)=some v∧v.oneCell'=true
 | 0,ds,hl,h=>⟨[],[],rfl,by simp,by simp,.nil,by simp⟩
 | n+1,ds,hl,h=>by
  obtain⟨xs,vs,h1,h2,h3,h4,h5⟩:=Xh E n (ds.take n) (by rw[uZ];omega) (λi hi=>by
   rw[h i (by omega),vI,if_pos hi])
  have hn:=h n (by omega);rw[E3 (by omega)]at hn;obtain⟨cs,hcs,htr⟩:=Option.bind_eq_some_iff.1 hn;obtain⟨x,hx,hxl,hxv,hx1⟩:=E.read htr;obtain⟨-,hcl,hcell⟩:=World.cells?_some hcs;refine⟨xs++[x],vs++cs,by simp[h1],?_,?_,?_,?_⟩
  ·intro y hy
   simp only[tG]at hy;rcases hy with hy | rfl
   ·exact h2 y hy
   ·exact hx
  ·rw[vE,h3,hxl,wG]
  ·rw[xD]
   simpa using h4.append hxv
  ·intro i v hv
   rcases vF i vs.length with hlt | hge
   ·rw[uY hlt]at hv
    exact h5 i v hv
   ·rw[vC hge,h3]at hv
    have hlt:=(BE.1 hv).1
    have:=hcell (i - n*E.size) (by rw[← hcl];exact hlt)
    rw[hv,E.cells,Addr.add_add]at this;rw[show n*E.size+(i - n*E.size)=i by omega]at this;exact⟨this,hx1 v (vD hv)⟩
def Rd.slice {t e:TypeId}{α:Type}(E:Rd P e α)(hu:P.underlying t=some (.slice e))(hc:P.cellsOf t=1):Rd P t (Sl α) where
 size:=1
 enc s:=[if s.nil then .lit (.slice none 0 0)else .imm (s.l.flatMap E.enc) s.l.length E.size]
 ok s:=(s.nil=true→s.l=[])∧s.l.length≤maxLen∧∀x∈s.l,E.ok x
 cells:=hc
 read {H e' W fuel cs d} h:=by
  rcases DataW.trod_slice hu h with⟨rfl,-⟩ | ⟨a,len,cap,elems,rest,n,-,rfl,-,-,h1,h2,h3,h4,-,-⟩
  ·exact⟨⟨[],true⟩,⟨λ_=>rfl,by simp,by simp⟩,rfl,.cons (by simp only[if_true,VR]) .nil,by simp[Value.oneCell']⟩
  ·obtain⟨xs,vs,g1,g2,g3,g4,g5⟩:=Xh E len elems h3 h4
   refine⟨⟨xs,false⟩,⟨by simp,by simp only;omega,g2⟩,rfl,.cons ?_ .nil,by simp[Value.oneCell']⟩;simp only[At,VR];refine⟨a,cap,vs,by rw[g1],by omega,.inr ⟨λhh=>hh.elim id id,g5⟩,g4⟩
theorem Rd.arg1 {t:TypeId}{α:Type}(E:Rd P t α){H:Type}{e:TypeId×Value→H}{W:World}{v:Value}{d:DataW H}{ps:List MemPlace}(hv:v.cells= #[v])
  (h:DataW.Trod e P W 0 (λ_=>true) true t v d ps):∃x,E.ok x∧VRs (Cfg.start W) (E.enc x) [v]:=by
 obtain⟨fuel,h⟩:=h;obtain⟨x,h1,-,h2,-⟩:=E.read h;rw[hv]at h2;exact⟨x,h1,h2⟩
end
end
section
def Rd.byte {P:Program}{t:TypeId}(hu:P.underlying t=some (.int .u8))(hc:P.cellsOf t=1):Rd P t UInt8 where
 size:=1
 enc b:=[.lit (.int .u8 b.toNat)]
 ok _:=True
 cells:=hc
 read {H e W fuel cs d} h:=by
  obtain⟨n,rfl,-,hw⟩:=DataW.trod_int hu h;have hb:0≤n∧n≤255:=by simpa[Lit.wf,IntKind.min,IntKind.max,IntKind.signed,IntKind.bits]using hw
  refine⟨UInt8.ofNat n.toNat,trivial,rfl,.cons ?_ .nil,by simp[Value.oneCell']⟩;simp only[VR]
  congr 1
  have:n.toNat<256:=by omega
  rw[UInt8.toNat_ofNat_of_lt' this];omega
section
variable {P : Program} {f : FuncId} {args : List AV}
theorem BPure.of_true (h:ACalls P f [] [] λr _=>r=B true):BPure P f [] (B true):=λH=>
 ACalls.pure (R':=λr=>r=B true) h (by simp only[C0]) (λr X hr=>⟨1,r,by rw[hr];rfl,hr⟩) H
end
end
section
def FZ (X:AH)(v R:AV):Prop:=∃n0,∀n,n0≤n→Jn X n v=some R
def FZs (X:AH)(vs Rs:List AV):Prop:=∃n0,∀n,n0≤n→Km (Jn X n) vs=some Rs
theorem FZs.nil {X:AH}:FZs X [] []:=⟨0,λ_ _=>rfl⟩
theorem FZs.cons {X:AH}{v R:AV}{vs Rs:List AV}(h:FZ X v R)(hs:FZs X vs Rs):FZs X (v::vs) (R::Rs):=by
 obtain⟨a,ha⟩:=h;obtain⟨b,hb⟩:=hs;exact⟨a+b,λn hn=>by simp only[Km,ha n (by omega),hb n (by omega)]⟩
theorem FZ.agg {X:AH}{vs Rs:List AV}(hs:FZs X vs Rs):FZ X (.agg vs) (.agg Rs):=by
 obtain⟨b,hb⟩:=hs;refine⟨b+1,λn hn=>?_⟩;cases n with
 | zero=>omega
 | succ n=>simp only[Jn,hb n (by omega)];rfl
theorem FZ.tup {X:AH}{vs Rs:List AV}(hs:FZs X vs Rs):FZ X (.tup vs) (.tup Rs):=by
 obtain⟨b,hb⟩:=hs;refine⟨b+1,λn hn=>?_⟩;cases n with
 | zero=>omega
 | succ n=>simp only[Jn,hb n (by omega)];rfl
theorem FZ.lit {X:AH}(v:Value):FZ X (.lit v) (.lit v):=⟨1,λn hn=>by cases n with
 | zero=>omega
 | succ n=>rfl⟩
theorem FZ.same {X:AH}{v:AV}(h:noIds v=true):FZ X v v:=Mp X v h
theorem FZ.sv {α:Type}{enc:α→List AV}{X:AH}{sz:Nat}{l:List α}{v:AV}(h:Aa X sz v=some (l.flatMap enc,l.length))(hc:Au (l.flatMap enc)=true):∃R,SV enc sz l R∧FZ X v R:=by
 obtain⟨R,n0,h1,h2,h3⟩:=PK h hc;exact⟨R,⟨h1,h2⟩,n0,h3⟩
section
variable {P : Program} {f : FuncId} {args : List AV}
theorem BPure.FZ {Q:AV→Prop}(hb:Au args=true)(h:∃r X,(∃R,Av.FZ X r R∧Q R)∧BCall P f args [] r X):∃R,Q R∧BPure P f args R:=by
 obtain⟨r,X,⟨R,⟨n,hn⟩,hq⟩,h⟩:=h;exact BPure.fz hb ⟨r,X,⟨n,R,hn n (vB _),hq⟩,h⟩
theorem PCall.lend {H:AH}{args':List AV}{x:AV}(hs:FZs H args args')(hx:IM x=true)(h:BPure P f args' x):PCall P f args H x:=by
 obtain⟨n,hn⟩:=hs;exact .inr ⟨n,args',hn n (vB _),hx,h⟩
end
theorem SQ:∀{a b:List AV},Au a=true→Au b=true→Au (a++b)=true
 | [],b,_,h=>h
 | x::a,b,h1,h2=>by
  simp only[Au,vS,yD]at h1⊢;exact⟨h1.1,SQ h1.2 h2⟩
theorem Dv {α:Type}{enc:α→List AV}:∀{l:List α},(∀x∈l,Au (enc x)=true)→Au (l.flatMap enc)=true
 | [],_=>rfl
 | a::l,h=>by
  rw[vW];exact SQ (h a (by simp)) (Dv λx hx=>h x (by simp[hx]))
theorem GT {H:AH}{sz n:Nat}{v:AV}{cs:List AV}(h:Aa H sz v=some (cs,n))(ho:AM v=true)(hn:0<n):
  ∃o off cap cells,v=.sl o off n sz cap∧H[o]?=some (some (.cells cells))∧off+n*sz≤cells.length∧cs=(cells.drop off).take (n*sz):=by
 unfold Aa at h;split at h
 ·simp[AM]at ho
 ·rename_i o off len esz cap
  split at h
  ·rename_i c hoc
   split at h
   ·rename_i hb
    obtain⟨rfl,hb⟩:=hb;injection h with h;injection h with h1 h2;subst h1;subst h2;exact⟨o,off,cap,c,rfl,hoc,hb,rfl⟩
   ·cases h
  ·cases h
 ·injection h with h;injection h with h1 h2;omega
 ·injection h with h;injection h with h1 h2;omega
 ·cases h
theorem Gb {cs xs:List AV}{k:Nat}(h:k+xs.length≤cs.length):(Bx cs k xs).length=cs.length:=by
 unfold Bx;simp only[tK];omega
theorem GS {cs xs:List AV}{k:Nat}(h:k+xs.length≤cs.length)(i:Nat):(Bx cs k xs)[i]?=if k≤i∧i<k+xs.length then xs[i - k]? else cs[i]?:=by
 have h1:(cs.take k).length=k:=by rw[uZ];omega
 unfold Bx
 split
 ·rename_i c
  rw[uY (by rw[vE];omega),vC (by omega),h1]
 ·rename_i c
  by_cases c1:i<k
  ·rw[vK,uY (by omega),vI,if_pos c1]
  ·rw[vC (by rw[vE];omega),vE,h1,vJ]
   congr 1;omega
theorem My {cs xs:List AV}{off m k:Nat}(h1:off+m≤cs.length)(h2:k+xs.length≤m):((Bx cs (off+k) xs).drop off).take m=Bx ((cs.drop off).take m) k xs:=by
 refine wH λi=>?_
 rw[vI,vJ,GS (by omega),GS (by rw[uZ,vG];omega),vI,vJ]
 by_cases c:i<m
 ·rw[if_pos c]
  by_cases c2:k≤i∧i<k+xs.length
  ·rw[if_pos c2,if_pos (by omega)];congr 1;omega
  ·rw[if_neg c2,if_neg (by omega),if_pos c]
 ·rw[if_neg c,if_neg (by omega),if_neg c]
theorem Mx {α:Type}{enc:α→List AV}{sz:Nat}(hsz:∀x,(enc x).length=sz){l:List α}{k q:Nat}{x y:α}{xs:List AV}(hx:l[k]?=some x)(hy:enc y=Bx (enc x) q xs)(hq:q+xs.length≤sz):
  Bx (l.flatMap enc) (k*sz+q) xs=(l.set k y).flatMap enc:=by
 induction l generalizing k with
 | nil=>simp at hx
 | cons a l ih=>
  cases k with
  | zero=>
   simp at hx;subst hx;rw[List.set_cons_zero,vW,vW,hy];have ha:=hsz a;unfold Bx;rw[Nat.zero_mul,xW,vL (by omega),List.drop_append_of_le_length (by omega)];simp[vK]
  | succ k=>
   simp at hx;rw[List.set_cons_succ,vW,vW,← ih hx];have ha:=hsz a;unfold Bx;have e:(k+1)*sz+q=(enc a).length+(k*sz+q):=by rw[ha,wG];omega
   rw[e,List.take_length_add_append,show(enc a).length+(k*sz+q)+xs.length=(enc a).length+(k*sz+q+xs.length) by omega,List.drop_length_add_append];simp[vK]
end
section
theorem ExtR.apart {P : Program}{k : FuncId}{fn : Func}{tS tR e : TypeId}{size : Nat}(hf : P.funcs[k]? = some fn)(hname : (fn.name == "runtime.NumGoroutine") = false)(hb : fn.body.isNone = true)(hn : Extern.findNext fn = none)
  (he:Extern.find fn=some (Extern.SlicesOverlaps.overlaps #[tS,tS] #[tR])) (ht:P.underlying tS=some (.slice e)) (hz:∀w,(Go.sizeOf e).run P w=.ok size w)
  {H:AH} {oa offa la ea ka ob offb lb eb kb:Nat} {ca cb:List AV} (ha:H[oa]?=some (some (.cells ca))) (hbo:H[ob]?=some (some (.cells cb))) (hne:oa≠ob) (hka:ka≠0) (hkb:kb≠0) (hcb:cb≠[]):
  ExtR P k [.sl oa offa la ea (.ex ka),.sl ob offb lb eb (.ex kb)] H (B false):=by
 intro G vs hr hv;simp only[VRs]at hv;obtain⟨v,r,rfl,h1,v2,r2,rfl,h2,rfl⟩:=hv;simp only[VR]at h1 h2;obtain⟨ho1,a,c,rfl,hl1,hs1⟩:=h1;obtain⟨ho2,a2,c2,rfl,hl2,hs2⟩:=h2;have hc1:c≠0:=by simp only[SlAt]at hs1;omega
 have hc2:c2≠0:=by simp only[SlAt]at hs2;omega
 obtain⟨rfl,-⟩:=EG hs1 hc1;obtain⟨rfl,-⟩:=EG hs2 hc2;obtain⟨q1,e1,u1,p1,p2,p3,p4,p5⟩:=hr.obj _ _ ha;obtain⟨q2,e2,u2,w1,w2,w3,w4,w5⟩:=hr.obj _ _ hbo;have hblk:(G.μ oa).1≠(G.μ ob).1:=λh=>hne (hr.inj _ _ _ _ ha hbo h)
 have hlen:0<cb.length:=by cases cb with
  | nil=>exact absurd rfl hcb
  | cons a r=>simp
 refine⟨.bool false,?_,by simp only[VR]⟩;rw[run_callFunc_extern hf hname hb hn he]
 have:=Go.Lib.run_overlaps_apart (P:=P) G.w tS tR e ht size hz ⟨(G.μ oa).1,(G.μ oa).2.1+offa,none⟩ ⟨(G.μ ob).1,(G.μ ob).2.1+offb,none⟩ la c lb c2 hblk e1 e2 q1.size q2.size
  (by simp[World.shape?,p1]) (by simp[World.shape?,w1]) (by omega) (by simp[World.frozen?,p1]) (by simp[World.frozen?,p1])
 show(((Extern.SlicesOverlaps.overlaps #[tS,tS] #[tR]) _).run P G.w).andThen _=_
 have e:(#[Value.slice (some ⟨(G.μ oa).1,(G.μ oa).2.1+offa,none⟩) la c,Value.slice (some ⟨(G.μ ob).1,(G.μ ob).2.1+offb,none⟩) lb c2]:Array Value)=[Value.slice (some ⟨(G.μ oa).1,(G.μ oa).2.1+offa,none⟩) la c,Value.slice (some ⟨(G.μ ob).1,(G.μ ob).2.1+offb,none⟩) lb c2].toArray:=rfl;rw[← e,this];rfl
mutual
def AV.ren (σ:Nat→Nat×Nat):AV→AV
 | .lit v=>.lit v
 | .ptr o off=>.ptr (σ o).1 ((σ o).2+off)
 | .ip cs=>.ip (Pb σ cs)
 | .sl o off len esz cap=>.sl (σ o).1 ((σ o).2+off) len esz cap
 | .imm cs len esz=>.imm (Pb σ cs) len esz
 | .mp o=>.mp (σ o).1
 | .agg cs=>.agg (Pb σ cs)
 | .tup cs=>.tup (Pb σ cs)
 | .fn f a b=>.fn f (Pb σ a) (Pb σ b)
 | .emp=>.emp
 | .junk=>.junk
def Pb (σ:Nat→Nat×Nat):List AV→List AV
 | []=>[]
 | a::r=>a.ren σ::Pb σ r
end
mutual
theorem eQ {σ:Nat→Nat×Nat}{m:Nat}(h:∀o,o<m→σ o=(o,0)):∀{a:AV},E8 m a→a.ren σ=a
 | .lit v,_=>rfl
 | .ptr o off,hb=>by simp only[E8]at hb;simp only[AV.ren,h o hb,xW]
 | .ip cs,hb=>by simp only[E8]at hb;simp only[AV.ren,Do h hb]
 | .sl o off len esz cap,hb=>by simp only[E8]at hb;simp only[AV.ren,h o hb,xW]
 | .imm cs len esz,hb=>by simp only[E8]at hb;simp only[AV.ren,Do h hb]
 | .mp o,hb=>by simp only[E8]at hb;simp only[AV.ren,h o hb]
 | .agg cs,hb=>by simp only[E8]at hb;simp only[AV.ren,Do h hb]
 | .tup cs,hb=>by simp only[E8]at hb;simp only[AV.ren,Do h hb]
 | .fn f a b,hb=>by simp only[E8]at hb;simp only[AV.ren,Do h hb.1,Do h hb.2]
 | .emp,_=>rfl
 | .junk,_=>rfl
theorem Do {σ:Nat→Nat×Nat}{m:Nat}(h:∀o,o<m→σ o=(o,0)):∀{asx:List AV},C0 m asx→Pb σ asx=asx
 | [],_=>rfl
 | a::r,hb=>by simp only[C0]at hb;simp only[Pb,eQ h hb.1,Do h hb.2]
end
def Cfg.ren (G:Cfg)(σ:Nat→Nat×Nat)(lim:Nat→Option Nat)(n2:Nat):Cfg:=
 {w:=G.w,n:=n2,μ:=λo=>((G.μ (σ o).1).1,(G.μ (σ o).1).2.1+(σ o).2,(lim o).getD ((G.μ (σ o).1).2.2 - (σ o).2)),L:=G.L,K:=G.K}
def dX:Nat→Option Nat:=λ_=>none
theorem SlAt.ren {m:Nat×Nat×Nat}{sh off esz:Nat}{cap:Room}{a:Addr}{c:Nat}(h:SlAt m (sh+off) esz cap a c):SlAt (m.1,m.2.1+sh,m.2.2 - sh) off esz cap a c:=by
 unfold SlAt at h⊢;cases cap with
 | ex k=>
  simp only at h⊢;refine⟨h.1,h.2.imp id λh2=>⟨by rw[h2.1,wN],by have:=h2.2;omega⟩⟩
 | ge k=>
  simp only at h⊢;refine⟨h.1,h.2.imp id λh2=>⟨by rw[h2.1,wN],by have:=h2.2;omega⟩⟩
mutual
theorem VR.ren {G:Cfg}{σ:Nat→Nat×Nat}{lim:Nat→Option Nat}{n2 m2:Nat}(hl:∀o,o<m2→lim o=none)(hm:m2≤n2):∀{a:AV} {v:Value},VR G (a.ren σ) v→E8 m2 a→VR (G.ren σ lim n2) a v
 | .lit _,_,h,_=>by simpa only[AV.ren,VR]using h
 | .ptr o off,v,h,hb=>by
  simp only[AV.ren,VR]at h⊢;simp only[E8]at hb;exact⟨vY hb hm,by rw[h.2];simp only[Cfg.ren,wN]⟩
 | .ip cs,v,h,hb=>by
  simp only[AV.ren,VR]at h⊢;simp only[E8]at hb;obtain⟨ad,vs,e,hh,hr⟩:=h;exact⟨ad,vs,e,hh,VRs.ren hl hm hr hb⟩
 | .sl o off len esz cap,v,h,hb=>by
  simp only[AV.ren,VR]at h⊢;simp only[E8]at hb;obtain⟨_,a,c,e,hlc,hs⟩:=h;refine⟨vY hb hm,a,c,e,hlc,?_⟩
  have:=hs.ren
  simp only[Cfg.ren,hl o hb,Option.getD_none];exact this
 | .imm cs len esz,v,h,hb=>by
  simp only[AV.ren,VR]at h⊢;simp only[E8]at hb;obtain⟨ad,c,vs,e,hlc,hh,hr⟩:=h;exact⟨ad,c,vs,e,hlc,hh,VRs.ren hl hm hr hb⟩
 | .mp o,v,h,hb=>by
  simp only[AV.ren,VR]at h⊢;simp only[E8]at hb;exact⟨vY hb hm,h.2⟩
 | .agg cs,v,h,hb=>by
  simp only[AV.ren,VR]at h⊢;simp only[E8]at hb;obtain⟨vs,e,hr⟩:=h;exact⟨vs,e,VRs.ren hl hm hr hb⟩
 | .tup cs,v,h,hb=>by
  simp only[AV.ren,VR]at h⊢;simp only[E8]at hb;obtain⟨vs,e,hr⟩:=h;exact⟨vs,e,VRs.ren hl hm hr hb⟩
 | .fn f a b,v,h,hb=>by
  simp only[AV.ren,VR]at h⊢;simp only[E8]at hb;obtain⟨va,vb,e,h1,h2⟩:=h;exact⟨va,vb,e,VRs.ren hl hm h1 hb.1,VRs.ren hl hm h2 hb.2⟩
 | .emp,_,h,_=>by simpa only[AV.ren,VR]using h
 | .junk,_,_,_=>by simp only[VR]
theorem VRs.ren {G:Cfg}{σ:Nat→Nat×Nat}{lim:Nat→Option Nat}{n2 m2:Nat}(hl:∀o,o<m2→lim o=none)(hm:m2≤n2):∀{asx:List AV} {vs:List Value},VRs G (Pb σ asx) vs→C0 m2 asx→VRs (G.ren σ lim n2) asx vs
 | [],_,h,_=>by simpa only[Pb,VRs]using h
 | a::r,vs,h,hb=>by
  simp only[Pb,VRs]at h⊢;simp only[C0]at hb;obtain⟨v,q,e,h1,h2⟩:=h;exact⟨v,q,e,VR.ren hl hm h1 hb.1,VRs.ren hl hm h2 hb.2⟩
end
structure Canon (n0 m2:Nat)(σ:Nat→Nat×Nat)(lim:Nat→Option Nat)(H1 H2:AH):Prop where
 len:n0≤H2.length
 top:m2≤H2.length
 old:∀o,o<n0→σ o=(o,0)∧lim o=none
 low:∀o,o<m2→lim o=none
 cells:∀(o:Nat) (cs:List AV),H2[o]?=some (some (.cells cs))→∃cs1,H1[(σ o).1]?=some (some (.cells cs1))∧(σ o).2+cs.length≤cs1.length∧Pb σ cs=(cs1.drop (σ o).2).take cs.length∧C0 m2 cs∧∀ℓ,lim o=some ℓ→cs.length≤ℓ
 maps:∀(o:Nat) (es:List (Value×AV)),H2[o]?=some (some (.map es))→(σ o).2=0∧∃es1,H1[(σ o).1]?=some (some (.map es1))∧es1.map Prod.fst=es.map Prod.fst∧es1.map Prod.snd=Pb σ (es.map Prod.snd)∧C0 m2 (es.map Prod.snd)
 inj:∀(o o':Nat) (x x':AObj),H2[o]?=some (some x)→H2[o']?=some (some x')→(σ o).1=(σ o').1→o=o'
abbrev xV:=@Option.getD_some
theorem Canon.hr {n0 m2:Nat}{σ:Nat→Nat×Nat}{lim:Nat→Option Nat}{H1 H2:AH}(c:Canon n0 m2 σ lim H1 H2){G:Cfg}(hr:HR G H1)(hlim:∀o ℓ,lim o=some ℓ→(σ o).2+ℓ≤(G.μ (σ o).1).2.2):HR (G.ren σ lim H2.length) H2:=by
 have src:∀(o:Nat) (x:AObj),H2[o]?=some (some x)→∃x1,H1[(σ o).1]?=some (some x1):=by
  intro o x hx;cases x with
  | cells cs=>obtain⟨cs1,h1,_⟩:=c.cells o cs hx;exact⟨_,h1⟩
  | map es=>obtain⟨_,es1,h1,_⟩:=c.maps o es hx;exact⟨_,h1⟩
 refine⟨rfl,?_,?_,?_,hr.lt,hr.dis⟩
 ·intro o x hx
  cases x with
  | cells cs=>
   obtain⟨cs1,h1,h2,h3,h4,h5⟩:=c.cells o cs hx;obtain⟨cc,e,vs,q1,q2,q3,q4,q5⟩:=hr.obj _ _ h1;have hl:=q4.length
   have hlm:(lim o).getD ((G.μ (σ o).1).2.2 - (σ o).2)+(σ o).2≤(G.μ (σ o).1).2.2∧cs.length≤(lim o).getD ((G.μ (σ o).1).2.2 - (σ o).2):=by
    cases hlo:lim o with
    | none=>simp only[Option.getD_none];omega
    | some ℓ=>have:=hlim o ℓ hlo;have:=h5 ℓ hlo;simp only[xV];omega
   refine⟨cc,e,(vs.drop (σ o).2).take cs.length,q1,?_,hlm.2,?_,?_⟩
   ·show(G.μ (σ o).1).2.1+(σ o).2+(lim o).getD ((G.μ (σ o).1).2.2 - (σ o).2)≤cc.size
    omega
   ·refine VRs.ren c.low c.top ?_ h4
    rw[h3];exact(q4.drop _).take _
   ·intro i v hv
    rw[vI]at hv;split at hv
    ·rw[vJ]at hv
     have:=q5 _ _ hv
     show cc[(G.μ (σ o).1).2.1+(σ o).2+i]?=some v∧_
     rw[wN];exact this
    ·cases hv
  | map es=>
   obtain⟨h0,es1,h1,h2,h3,h4⟩:=c.maps o es hx;obtain⟨ents,q1,q2,q3,q4⟩:=hr.obj _ _ h1;refine⟨ents,q1,?_,by rw[q3,h2],?_⟩
   ·refine VRs.ren c.low c.top ?_ h4
    rw[← h3];exact q2
   ·rw[q4]
    congr 1
    have:=congrArg List.length h2
    simpa using this
 ·intro o o' x x' hx hx' he
  obtain⟨x1,h1⟩:=src o x hx;obtain⟨x2,h2⟩:=src o' x' hx';exact c.inj o o' x x' hx hx' (hr.inj _ _ _ _ h1 h2 he)
 ·intro o x hx
  obtain⟨x1,h1⟩:=src o x hx;exact hr.live _ _ h1
theorem Canon.evo {n0 m2:Nat}{σ:Nat→Nat×Nat}{lim:Nat→Option Nat}{H1 H2:AH}(c:Canon n0 m2 σ lim H1 H2){G0 G:Cfg}(h0:G0.n=n0)(hE:Evo G0 G):Evo G0 (G.ren σ lim H2.length):=
 ⟨hE.os,hE.tape,hE.output,hE.size,hE.keep,by rw[h0];exact c.len,λo ho=>by
  obtain⟨hσ,hl⟩:=c.old o (by omega)
  have:=hE.μ o ho
  simp only[Cfg.ren,hσ,hl,wW,Nat.sub_zero,Option.getD_none];exact this,hE.K⟩
section
variable {P : Program}
def belH (H:AH):Prop:=∀(o:Nat) (x:AObj),H[o]?=some (some x)→x.bel H.length
theorem HR.belH {G:Cfg}{H:AH}(hr:HR G H):belH H:=λo x hx=>by rw[← hr.n];exact(hr.obj o x hx).bel
theorem ACalls.canon {f:FuncId}{args:List AV}{H H2:AH}{R:AV→AH→Prop}{r2:AV}(h:ACalls P f args H R)
  (hc:belH H→∀r1 H1,R r1 H1→∃m2 σ lim,Canon H.length m2 σ lim H1 H2∧∀G v,HR G H1→VR G r1 v→VR (G.ren σ lim H2.length) r2 v∧∀o ℓ,lim o=some ℓ→(σ o).2+ℓ≤(G.μ (σ o).1).2.2):BCall P f args H r2 H2:=by
 intro G vs hH hv;refine(h G vs hH hv).mono ?_;rintro e w' ⟨r1,H1,G',v,rfl,rfl,hE,hx,hX,hq⟩;obtain⟨m2,σ,lim,c,hs⟩:=hc hH.belH r1 H1 hq;obtain⟨hs1,hs2⟩:=hs G' v hX hx;exact⟨r2,H2,G'.ren σ lim H2.length,v,rfl,rfl,c.evo hH.n hE,hs1,c.hr hX hs2,rfl,rfl⟩
theorem ACalls.room {f:FuncId}{o off len esz k:Nat}{args:List AV}{H:AH}{R:AV→AH→Prop}(h:∀c,k≤c→len≤c→ACalls P f (.sl o off len esz (.ex c)::args) H R):ACalls P f (.sl o off len esz (.ge k)::args) H R:=by
 intro G vs hH hv;simp only[VRs]at hv;obtain⟨v,r,rfl,h1,h2⟩:=hv;simp only[VR]at h1;obtain⟨ho,a,c,rfl,hl,hs⟩:=h1;simp only[SlAt]at hs;refine h c hs.1 hl G _ hH (.cons ?_ h2);simp only[VR];refine⟨ho,a,c,rfl,hl,rfl,hs.2.imp id λh3=>⟨h3.1,by have:=h3.2;omega⟩⟩
end
def mO:Nat→Nat×Nat:=λo=>(o,0)
def lN (n o off:Nat):Nat→Nat×Nat:=λp=>if p=n then(o,off)else(p,0)
def Wo (n l:Nat):Nat→Option Nat:=λp=>if p=n then some l else none
theorem Canon.grown {H:AH}(hb:belH H){o:Nat}{N:List AV}(hN:C0 H.length N):Canon H.length H.length mO dX (H++[some (.cells N)]) (H.set o none++[some (.cells N)]):=by
 have get:∀(p:Nat) (x:AObj),(H.set o none++[some (.cells N)])[p]?=some (some x)→(H++[some (.cells N)])[p]?=some (some x)∧x.bel H.length:=by
  intro p x hx
  by_cases hp:p<H.length
  ·rw[uY (by simpa using hp),wQ]at hx
   rw[uY hp];split at hx
   ·split at hx<;>simp at hx
   ·exact⟨hx,hb p x hx⟩
  ·rw[vC (by simpa using hp)]at hx
   rw[vC (by omega)];simp only[vT]at hx;refine⟨hx,?_⟩
   have:p - H.length=0:=by
    have:=(BE.1 hx).1
    simp at this;omega
   rw[this]at hx;simp at hx;rw[← hx];exact hN
 refine⟨by simp,by simp,λp hp=>⟨rfl,rfl⟩,λp hp=>rfl,?_,?_,?_⟩
 ·intro p cs hx
  obtain⟨h1,h2⟩:=get p _ hx;refine⟨cs,h1,by simp[mO],?_,h2,λℓ h=>by cases h⟩;rw[Do (σ:=mO) (m:=H.length) (λ_ _=>rfl) h2];simp[mO]
 ·intro p es hx
  obtain⟨h1,h2⟩:=get p _ hx;exact⟨rfl,es,h1,rfl,(Do (σ:=mO) (m:=H.length) (λ_ _=>rfl) h2).symm,h2⟩
 ·intro p p' x x' _ _ h
  exact h
theorem Canon.placed {H:AH}(hb:belH H){o off l:Nat}{N cs1:List AV}(ho:o<H.length)(hN:C0 H.length N)(hl:off+N.length≤cs1.length)(he:(cs1.drop off).take N.length=N)(hll:N.length≤l):
  Canon H.length H.length (lN H.length o off) (Wo H.length l) (H.set o (some (.cells cs1))) (H.set o none++[some (.cells N)]):=by
 have sm:∀p,p<H.length→lN H.length o off p=(p,0):=λp hp=>by unfold lN;rw[if_neg (by omega)]
 have sl:∀p,p<H.length→Wo H.length l p=none:=λp hp=>by unfold Wo;rw[if_neg (by omega)]
 have get:∀(p:Nat) (x:AObj),(H.set o none++[some (.cells N)])[p]?=some (some x)→(p<H.length∧p≠o∧(H.set o (some (.cells cs1)))[p]?=some (some x)∧x.bel H.length)∨(p=H.length∧x=.cells N):=by
  intro p x hx
  by_cases hp:p<H.length
  ·left
   rw[uY (by simpa using hp),wQ]at hx;split at hx
   ·simp at hx
   ·rename_i hne
    exact⟨hp,λh=>hne h.symm,by rw[C3 hne];exact hx,hb p x hx⟩
  ·right
   rw[vC (by simpa using hp)]at hx;simp only[vT]at hx
   have:p - H.length=0:=by
    have:=(BE.1 hx).1
    simp at this;omega
   rw[this]at hx;simp at hx;exact⟨by omega,hx.symm⟩
 refine⟨by simp,by simp,λp hp=>⟨sm p hp,sl p hp⟩,sl,?_,?_,?_⟩
 ·intro p cs hx
  rcases get p _ hx with⟨h0,_,h1,h2⟩ | ⟨rfl,h⟩
  ·refine⟨cs,by rw[sm p h0];exact h1,by rw[sm p h0];simp,?_,h2,λℓ h=>by rw[sl p h0]at h;cases h⟩
   rw[Do sm h2,sm p h0];simp
  ·injection h with h
   subst h;have e:lN H.length o off H.length=(o,off):=if_pos rfl;refine⟨cs1,by rw[e];simp[ho],by rw[e];exact hl,?_,hN,λℓ h=>?_⟩
   ·rw[Do sm hN,e];exact he.symm
   ·unfold Wo at h
    rw[if_pos rfl]at h;injection h with h;omega
 ·intro p es hx
  rcases get p _ hx with⟨h0,_,h1,h2⟩ | ⟨_,h⟩
  ·exact⟨by rw[sm p h0],es,by rw[sm p h0];exact h1,rfl,(Do sm h2).symm,h2⟩
  ·cases h
 ·intro p p' x x' hx hx' h
  have e:lN H.length o off H.length=(o,off):=if_pos rfl;rcases get p _ hx with⟨h0,h0',_,_⟩ | ⟨rfl,_⟩<;>rcases get p' _ hx' with⟨k0,k0',_,_⟩ | ⟨rfl,_⟩
  ·rw[sm p h0,sm p' k0]at h;exact h
  ·rw[sm p h0,e]at h;exact(h0' h).elim
  ·rw[sm p' k0,e]at h;exact(k0' h.symm).elim
  ·rfl
end
section
section
variable {P : Program}
def XR (P:Program)(sz bytes:Nat)(zc:List AV)(ov rot:FuncId)(a0 a1 a2:AV)(H:AH)(K:AV→AH→Prop):Prop:=
 bO (AT sz a0 (some a1) none none) λv0=>
 bO (AW a2) λv1=>
 bO (Ay .eql v1 (I 0)) λv2=>
 bB v2 λt3=>bI t3 (
 K a0 H)
 (bO (AW a0) λv4=>
 bO (Ay .eql a1 v4) λv5=>
 bB v5 λt6=>bI t6 (
 bH (Pq sz bytes H a0 a2) λv7 H8=>
 K v7 H8)
 (bO (Ay .add v4 v1) λv9=>
 bO (T6 a0) λv10=>
 bO (Ay .gtr v9 v10) λv11=>
 bB v11 λt12=>bI t12 (
 bO (AT sz a0 none (some a1) none) λv13=>
 bO (Ay .add v4 v1) λv14=>
 bO (Ay .sub v14 a1) λv15=>
 bH (IZ H sz bytes zc v13 v15) λv16 H17=>
 bO (AT sz v16 (some a1) none none) λv18=>
 bH (NM sz H17 v18 a2) λv19 H20=>
 bO (Ay .add a1 v1) λv21=>
 bO (AT sz v16 (some v21) none none) λv22=>
 bO (AT sz a0 (some a1) none none) λv23=>
 bH (NM sz H20 v22 v23) λv24 H25=>
 K v16 H25)
 (bO (Ay .add v4 v1) λv26=>
 bO (AT sz a0 none (some v26) none) λv27=>
 bO (Ay .add a1 v1) λv28=>
 bO (AT sz v27 (some v28) none none) λv29=>
 bP (ExtR P ov [a2,v29] H) λv30=>
 bO (EX .not v30) λv31=>
 bB v31 λt32=>bI t32 (
 bO (Ay .add a1 v1) λv33=>
 bO (AT sz v27 (some v33) none none) λv34=>
 bO (AT sz v27 (some a1) none none) λv35=>
 bH (NM sz H v34 v35) λv36 H37=>
 bO (AT sz v27 (some a1) none none) λv38=>
 bH (NM sz H37 v38 a2) λv39 H40=>
 K v27 H40)
 (bO (AT sz v27 (some v4) none none) λv41=>
 bH (NM sz H v41 a2) λv42 H43=>
 bO (AT sz v27 (some a1) none none) λv44=>
 bC (BCall P rot [v44,v1] H43) λv45 H46=>
 K v27 H46))))
def Ci (s:AV)(n:Nat):Prop:=match s with
 | .sl _ _ _ _ cap=>n≤cap.least
 | _=>True
theorem Rm {H:AH}{sz o off len o2 off2 m:Nat}{cap cap2:Room}{cs cs2:List AV}(ho:H[o]?=some (some (.cells cs)))(h2:H[o2]?=some (some (.cells cs2)))(hoff:off≤cs.length)(ht:off2+min m len*sz≤cs2.length):
  NM sz H (.sl o off len sz cap) (.sl o2 off2 m sz cap2)=some (I ((min m len:Nat):Int),H.set o (some (.cells (Bx cs off ((cs2.drop off2).take (min m len*sz)))))):=by
 unfold NM bJ
 by_cases h:off2+m*sz≤cs2.length
 ·have e:Bb H sz (.sl o2 off2 m sz cap2)=some ((cs2.drop off2).take (m*sz),m):=AI (by simp[Aa,h2,h])
  have hm:min (min m len*sz) (m*sz)=min m len*sz:=xM (vH _ (zC _ _));rw[e];simp only[ho,hoff,and_self,if_true,wY,hm]
 ·have e:Bb H sz (.sl o2 off2 m sz cap2)=none:=by simp[Bb,Aa,h2,h]
  rw[e];simp[gN,ho,h2,hoff,ht]
theorem NP {sz bytes:Nat}{H:AH}{s x r:AV}{H':AH}{cs ds:List AV}{n m:Nat}(h1:Aa H sz s=some (cs,n))(ho:AM s=true)(h2:Bb H sz x=some (ds,m))(hc:Ci s n)(h:Pq sz bytes H s x=some (r,H')):Ci r (n+m):=by
 unfold Pq at h;rw[h2]at h;simp only at h;unfold Aa at h1;split at h1
 ·simp[AM]at ho
 ·rename_i o off len esz cap
  split at h1
  ·rename_i c hoc
   split at h1
   ·rename_i hb1
    obtain⟨rfl,hfit⟩:=hb1;injection h1 with h1;injection h1 with h3 h4;subst h3;subst h4;unfold Kx at h;simp only[hoc,tL,false_or,hfit]at h;cases cap with
    | ex k=>
     simp only at h;split at h
     ·injection h with h;injection h with h h';subst h;simpa[Ci,Room.least]
     ·split at h
      ·injection h with h;injection h with h h';subst h;simp[Ci,Room.least]
      ·cases h
    | ge k=>
     simp only at h;split at h
     ·rename_i hm
      injection h with h;injection h with h h';subst h;subst hm;simpa using hc
     ·split at h
      ·injection h with h;injection h with h h';subst h;simpa[Ci,Room.least]
      ·split at h
       ·injection h with h;injection h with h h';subst h;simp[Ci,Room.least]
       ·cases h
   ·cases h1
  ·cases h1
 ·injection h1 with h1
  injection h1 with h3 h4;subst h3;subst h4;unfold Kx at h;simp only at h;split at h
  ·injection h with h;injection h with h h';subst h;simp[Ci]
  ·split at h
   ·injection h with h;injection h with h h';subst h;simp[Ci,Room.least]
   ·cases h
 ·injection h1 with h1
  injection h1 with h3 h4;subst h3;subst h4;unfold Kx at h;simp only at h;split at h
  ·injection h with h;injection h with h h';subst h;simp[Ci]
  ·split at h
   ·injection h with h;injection h with h h';subst h;simp[Ci,Room.least]
   ·cases h
 ·cases h1
def gF (sz:Nat)(H:AH)(s:AV)(N:List AV)(n:Nat)(r:AV)(H':AH):Prop:=
 AM r=true∧Aa H' sz r=some (N,n+1)∧H.length≤H'.length∧(∀i,i<H.length→i∉AR s→H'[i]?=H[i]?)∧(∀i∈AR r,i∈AR s∨H.length≤i)∧Ci r (n+1)
theorem iL {sz bytes:Nat}{zc:List AV}{ov rot:FuncId}{H:AH}{s a2:AV}{cs xs:List AV}{n:Nat}(hs:Aa H sz s=some (cs,n))(ho:AM s=true)(hc:Ci s n)(ha:AW a2=some (I 1))(hx:Bb H sz a2=some (xs,1))(hb:(n+1)*bytes≤140737488355328):
  ∃r H',gF sz H s (cs++xs) n r H'∧XR P sz bytes zc ov rot s (I n) a2 H λr' H''=>r'=r∧H''=H':=by
 obtain⟨r0,a0,-⟩:=EL hs (lo:=some (I n)) (hi:=none) (l:=n) (k:=n) (by simp[Bt]) rfl (vB _) (vB _);obtain⟨r,H2,a1,a2',a3,a4,a5,a6⟩:=Ek (bytes:=bytes) hs ho hx hb;refine⟨r,H2,⟨a2',a3,a4,a5,a6,NP hs ho hx hc a1⟩,?_⟩;unfold XR;simp[a0,ha,B4 hs,a1]
abbrev yK:=@List.drop_eq_nil_of_le
theorem dJ {sz bytes:Nat}{zc:List AV}{ov rot:FuncId}(hz:zc.length=sz){H:AH}{o off n oj i:Nat}{cells xs:List AV}(hc:H[o]?=some (some (.cells cells)))(hl:off+n*sz≤cells.length)(hi:i<n)(hn:n≤100000000)(hv:H[oj]?=some (some (.cells xs)))(hxl:xs.length=sz)(hby:(n+1)*bytes≤140737488355328):
  XR P sz bytes zc ov rot (.sl o off n sz (.ex n)) (I i) (.sl oj 0 1 sz (.ex 1)) H λr H'=>r=.sl H.length 0 (n+1) sz (.ge (n+1))∧
   H'=H++[some (.cells ((cells.drop off).take (i*sz)++xs++(cells.drop (off+i*sz)).take ((n - i)*sz)))]:=by
 unfold XR;have h1:¬(i:Int)=n:=by omega
 have hmi:i*sz≤n*sz:=vH _ (by omega);have hmn:i*sz+(n - i)*sz=n*sz:=by rw[← wR];congr 1;omega
 have hms:(i+1)*sz=i*sz+sz:=wG _ _;have hmr:(n+1 - i)*sz=(n - i)*sz+sz:=by rw[show n+1 - i=(n - i)+1 by omega,wG]
 simp[AT,Bt,Room.least,Room.cut,T6,goInt,h1,show i≤n by omega,A0 (a:=n) (b:=1) (by omega) (by omega),Cv (a:=(n:Int)+1) (b:=i) (by omega) (by omega),IZ,hc,hl,A0 (a:=i) (b:=1) (by omega) (by omega),-AZ];have e1:i+(n+1 - i)=n+1:=by omega
 have h2:off+i*sz≤cells.length:=by omega
 simp only[e1];simp[h2,show(i:Int)<n+1 by omega,show(n:Int)<n+1 by omega,hby,show i≤n+1 by omega,show i+1≤n+1 by omega,-AZ];have zl:(AZ zc (n+1 - i)).length=(n+1 - i)*sz:=by rw[CY,hz]
 generalize AZ zc (n+1 - i)=Z at zl;have hA:(List.take (i*sz) (List.drop off cells)).length=i*sz:=by rw[uZ,vG];omega
 generalize hAe:List.take (i*sz) (List.drop off cells)=A at hA;have hov:=(BE.1 hv).1;have ho:=(BE.1 hc).1;have m1:min 1 (n+1 - i)=1:=by omega
 rw[Rm (cs:=A++Z) (cs2:=xs) (by simp) (by rw[uY hov];exact hv) (by simp[hA]) (by rw[m1];omega)];simp[show(0:Int)≤(i:Int)+1 by omega,show i+1≤n+1 by omega]
 have o1:Bx (A++Z) (i*sz) (List.take (min 1 (n+1 - i)*sz) xs)=A++xs++Z.drop sz:=by
  rw[m1,vA (by rw[hxl];omega)];unfold Bx;rw[vL (by omega),vA (by omega),hxl,← hA,List.drop_append,yF,yK (by omega),wP]
 rw[o1,Rm (cs:=A++xs++Z.drop sz) (cs2:=cells) (by simp) (by rw[uY ho];exact hc) (by simp[hA,hxl];omega) (by rw[Nat.min_self];omega)];have hB:(List.take ((n - i)*sz) (List.drop (off+i*sz) cells)).length=(n - i)*sz:=by rw[uZ,vG];omega
 simp;generalize List.take ((n - i)*sz) (List.drop (off+i*sz) cells)=B' at hB;unfold Bx;have l1:(A++xs).length=(i+1)*sz:=by rw[vE,hA,hxl];omega
 rw[← vK,vL (by omega),vA (by omega),yK (by rw[vE,l1,vG,hB];omega),wI,vK]
abbrev zK:=@List.drop_left
theorem ZF {sz bytes:Nat}{zc:List AV}{ov rot:FuncId}(h0:0<sz){H:AH}{o off n oj i c:Nat}{cells xs:List AV}(hc:H[o]?=some (some (.cells cells)))(hl:off+n*sz≤cells.length)(hi:i<n)(hn:n≤100000000)(hcn:n+1≤c)(hv:H[oj]?=some (some (.cells xs)))(hxl:xs.length=sz)(hne:oj≠o)
  (hov:∀q l k,k≠0→ExtR P ov [.sl oj 0 1 sz (.ex 1),.sl o q l sz (.ex k)] H (B false)):
  XR P sz bytes zc ov rot (.sl o off n sz (.ex c)) (I i) (.sl oj 0 1 sz (.ex 1)) H λr H'=>r=.sl o off (n+1) sz (.ex c)∧
   ∃rest,H'=H.set o (some (.cells (cells.take (off+i*sz)++xs++(cells.drop (off+i*sz)).take ((n - i)*sz)++rest))):=by
 unfold XR;have h1:¬(i:Int)=n:=by omega
 have hmi:i*sz≤n*sz:=vH _ (by omega);have hmn:i*sz+(n - i)*sz=n*sz:=by rw[← wR];congr 1;omega
 have hms:(i+1)*sz=i*sz+sz:=wG _ _;have hms2:(i+1)*sz≤n*sz:=vH _ (by omega);simp[AT,Bt,Room.least,Room.cut,T6,goInt,h1,show i≤n by omega,A0 (a:=n) (b:=1) (by omega) (by omega),Cv (a:=(n:Int)+1) (b:=i) (by omega) (by omega),hc,hl,A0 (a:=i) (b:=1) (by omega) (by omega),show i≤c by omega,show n≤c by omega,show ¬(c:Int)<n+1 by omega,hcn,show(0:Int)≤(n:Int)+1 by omega,show(0:Int)≤(i:Int)+1 by omega,show i+1≤n+1 by omega,show i+1≤c by omega];refine bP_of (hov _ _ _ (by omega)) ?_;simp;have ho:=(BE.1 hc).1;have mm:min (n+1 - i) (n - i)=n - i:=by omega
 have m1:min 1 (n+1 - i)=1:=by omega
 simp only[show i≤n+1 by omega,if_true,Ab];rw[Rm (cs:=cells) (cs2:=cells) hc hc (by omega) (by rw[mm];omega),mm];have hB:(List.take ((n - i)*sz) (List.drop (off+i*sz) cells)).length=(n - i)*sz:=by rw[uZ,vG];omega
 generalize List.take ((n - i)*sz) (List.drop (off+i*sz) cells)=B' at hB;simp only[Az];have l1:(cells.take (off+(i+1)*sz)).length=off+(i+1)*sz:=by rw[uZ];omega
 rw[Rm (cs:=Bx cells (off+(i+1)*sz) B') (cs2:=xs) (by simp[ho]) (by rw[C3 (wD hne)];exact hv) (by unfold Bx;simp[l1];omega) (by rw[m1];omega),m1,vA (l:=xs.drop 0) (by simp[hxl])];simp only[Az,List.set_set,vZ];refine⟨(cells.drop (off+(i+1)*sz+B'.length)),?_⟩
 congr 3
 unfold Bx;rw[hxl]
 have t1:List.take (off+i*sz) (cells.take (off+(i+1)*sz)++B'++cells.drop (off+(i+1)*sz+B'.length))=cells.take (off+i*sz):=by
  rw[vK,vL (by omega),wY,xM (by omega)]
 have t2:List.drop (off+i*sz+sz) (cells.take (off+(i+1)*sz)++B'++cells.drop (off+(i+1)*sz+B'.length))=B'++cells.drop (off+(i+1)*sz+B'.length):=by
  rw[vK,show off+i*sz+sz=(cells.take (off+(i+1)*sz)).length by omega,zK]
 rw[t1,t2,vK]
theorem P4 {m:Nat}:∀{a b:List AV},C0 m a→C0 m b→C0 m (a++b)
 | [],b,_,h=>h
 | x::a,b,h1,h2=>by simp only[C0,yD]at h1⊢;exact⟨h1.1,P4 h1.2 h2⟩
abbrev uF:=And.intro @List.mem_cons.{0} @forall_eq_or_imp.{1}
theorem Mm {m:Nat}:∀{a:List AV},C0 m a↔∀x∈a,E8 m x
 | []=>by simp[C0]
 | x::a=>by simp only[C0,uF,Mm (a:=a)]
abbrev vP:=@List.drop_of_length_le
theorem dK {sz bytes:Nat}{zc:List AV}{f ov rot:FuncId}(h0:0<sz)(hz:zc.length=sz)(hF:∀a0 a1 a2 H K,XR P sz bytes zc ov rot a0 a1 a2 H K→ACalls P f [a0,a1,a2] H K){H:AH}{s:AV}{cs xs:List AV}{n oj i:Nat}(hs:Aa H sz s=some (cs,n))(ho:AM s=true)(hcap:Ci s n)(hi:i≤n)(hn:n≤1000000)(hby:bytes≤1000000)(hv:H[oj]?=some (some (.cells xs)))(hxl:xs.length=sz)(hne:oj∉AR s)
  (hxb:∀m,C0 m xs) (hov:∀{o q l k:Nat} {cells:List AV},H[o]?=some (some (.cells cells))→oj≠o→k≠0→cells≠[]→ExtR P ov [.sl oj 0 1 sz (.ex 1),.sl o q l sz (.ex k)] H (B false)):
  ∃r H',gF sz H s (cs.take (i*sz)++xs++cs.drop (i*sz)) n r H'∧BCall P f [s,I i,.sl oj 0 1 sz (.ex 1)] H r H':=by
 have hcl:=BU hs;have hbb:(n+1)*bytes≤140737488355328:=vO (Nat.mul_le_mul (show n+1≤1000001 by omega) hby) (by omega);rcases vF i n with h | h
 ·obtain⟨o,off,cap,cells,rfl,hc,hl,rfl⟩:=GT hs ho (by omega)
  have hoj:oj≠o:=by simpa[AR]using hne
  have hol:=(BE.1 hc).1;have hmi:i*sz≤n*sz:=vH _ (by omega);have hmn:i*sz+(n - i)*sz=n*sz:=by rw[← wR];congr 1;omega
  have hmn1:(n+1)*sz=n*sz+sz:=wG _ _;have hsz1:sz≤n*sz:=by have:=vH sz (show 1≤n by omega);omega
  have hcne:cells≠[]:=λhh=>by rw[hh]at hl;simp at hl;omega
  have e1:((cells.drop off).take (n*sz)).take (i*sz)=(cells.drop off).take (i*sz):=by rw[wY];congr 1;omega
  have e2:((cells.drop off).take (n*sz)).drop (i*sz)=(cells.drop (off+i*sz)).take ((n - i)*sz):=by rw[xU,wX];congr 1;omega
  rw[e1,e2];generalize hN:(cells.drop off).take (i*sz)++xs++(cells.drop (off+i*sz)).take ((n - i)*sz)=N
  have hNl:N.length=(n+1)*sz:=by
   rw[← hN,vE,vE,hxl,uZ,uZ,vG,vG];omega
  have hall:∀c,n≤c→ACalls P f [.sl o off n sz (.ex c),I i,.sl oj 0 1 sz (.ex 1)] H λr H'=>
    (r=.sl H.length 0 (n+1) sz (.ge (n+1))∧H'=H++[some (.cells N)])∨∃c rest,n+1≤c∧r=.sl o off (n+1) sz (.ex c)∧H'=H.set o (some (.cells (cells.take off++N++rest))):=by
   intro c hcn;rcases vF n c with h' | h'
   ·refine(hF _ _ _ _ _ (ZF h0 hc hl h (by omega) h' hv hxl hoj λq l k hk=>hov hc hoj hk hcne)).mono ?_
    rintro r H' ⟨rfl,rest,rfl⟩;refine .inr ⟨c,rest,h',rfl,?_⟩
    congr 3
    rw[← hN,yU off (i*sz),yU (i*sz) off];have:cells.take (off+i*sz)=cells.take off++(cells.drop off).take (i*sz):=by rw[List.take_add]
    rw[this];simp[vK]
   ·have:c=n:=by omega
    subst this;refine(hF _ _ _ _ _ (dJ hz hc hl h (by omega) hv hxl hbb)).mono ?_;rintro r H' ⟨rfl,rfl⟩;exact .inl ⟨rfl,by rw[hN]⟩
  have hany:ACalls P f [.sl o off n sz cap,I i,.sl oj 0 1 sz (.ex 1)] H λr H'=>
    (r=.sl H.length 0 (n+1) sz (.ge (n+1))∧H'=H++[some (.cells N)])∨∃c rest,n+1≤c∧r=.sl o off (n+1) sz (.ex c)∧H'=H.set o (some (.cells (cells.take off++N++rest))):=by
   cases cap with
   | ge k=>exact ACalls.room λc _ h=>hall c h
   | ex c=>exact hall c (by simpa[Ci,Room.least]using hcap)
  refine⟨.sl H.length 0 (n+1) sz (.ge (n+1)),H.set o none++[some (.cells N)],⟨rfl,?_,by simp,λj hj hn=>?_,λj hj=>.inr (by simp[AR]at hj;omega),by simp[Ci,Room.least]⟩,?_⟩
  ·rw[A9 (c:=N) (by rw[vC (by simp)];simp) (by omega)]
   rw[vZ,vA (by omega)]
  ·rw[uY (by simpa using hj),C3 (by simp[AR]at hn;omega)]
  refine ACalls.canon hany ?_;rintro hb r1 H1 h1
  have hbN:C0 H.length N:=by
   have hbc:C0 H.length cells:=hb o _ hc;rw[Mm]at hbc;rw[← hN];refine P4 (P4 ?_ (hxb _)) ?_
   ·rw[Mm];exact λa ha=>hbc a (xC (wM ha))
   ·rw[Mm];exact λa ha=>hbc a (xC (wM ha))
  rcases h1 with⟨rfl,rfl⟩ | ⟨c,rest,hcn,rfl,rfl⟩
  ·refine⟨_,_,_,Canon.grown hb hbN,?_⟩
   intro G v hG hr;refine⟨?_,λp ℓ h=>by cases h⟩;simp only[VR]at hr⊢;obtain⟨q0,a,c,rfl,hlc,hs⟩:=hr;refine⟨by simp[Cfg.ren],a,c,rfl,hlc,?_⟩
   simpa[Cfg.ren,mO,dX]using hs
  ·have hcs:(n+1)*sz≤c*sz:=vH _ hcn
   refine⟨_,_,_,Canon.placed (off:=off) (l:=c*sz) hb hol hbN (cs1:=cells.take off++N++rest) ?_ ?_ ?_,?_⟩
   ·simp;omega
   ·have:(cells.take off).length=off:=by rw[uZ];omega
    rw[vK]
    conv=>lhs;arg 2;arg 1;rw[← this]
    rw[zK,List.take_left]
   ·rw[hNl];omega
   ·intro G v hG hr
    simp only[VR]at hr;obtain⟨q0,a,c',rfl,hlc,hs⟩:=hr;simp only[SlAt]at hs;obtain⟨rfl,hs⟩:=hs;have hs:=hs.resolve_left (by omega);obtain⟨rfl,hs2⟩:=hs;have e:lN H.length o off H.length=(o,off):=if_pos rfl;have e2:Wo H.length (c'*sz) H.length=some (c'*sz):=if_pos rfl;refine⟨?_,?_⟩
    ·simp only[VR]
     refine⟨by simp[Cfg.ren],_,c',rfl,by omega,?_⟩;simp only[SlAt];refine⟨hcn,.inr ⟨by simp[Cfg.ren,e],?_⟩⟩;simp[Cfg.ren,e2]
    ·intro p ℓ h
     unfold Wo at h;split at h
     ·rename_i hp
      injection h with h;subst hp;subst h;rw[e];omega
     ·cases h
 ·have:i=n:=by omega
  subst this
  have hx:Bb H sz (.sl oj 0 1 sz (.ex 1))=some (xs,1):=AI (by
   rw[show sz=1*sz by omega]at hxl;rw[A9 hv (by omega),vZ,vA (by omega)])
  obtain⟨r,H',h1,h2⟩:=iL (P:=P) (zc:=zc) (ov:=ov) (rot:=rot) hs ho hcap rfl hx hbb;refine⟨r,H',?_,(hF _ _ _ _ _ h2)⟩;rw[vA (by omega),vP (by omega),wI];exact h1
end
end
section
mutual
theorem XX {m:Nat}:∀{a:AV},noIds a=true→E8 m a
 | .lit _,_=>by simp only[E8]
 | .ptr ..,h=>by simp[noIds]at h
 | .ip cs,h=>by simp only[noIds]at h;simp only[E8];exact DZ h
 | .sl ..,h=>by simp[noIds]at h
 | .imm cs _ _,h=>by simp only[noIds]at h;simp only[E8];exact DZ h
 | .mp _,h=>by simp[noIds]at h
 | .agg cs,h=>by simp only[noIds]at h;simp only[E8];exact DZ h
 | .tup cs,h=>by simp only[noIds]at h;simp only[E8];exact DZ h
 | .fn _ a b,h=>by simp only[noIds,vS]at h;simp only[E8];exact⟨DZ h.1,DZ h.2⟩
 | .emp,_=>by simp only[E8]
 | .junk,_=>by simp only[E8]
theorem DZ {m:Nat}:∀{xs:List AV},Au xs=true→C0 m xs
 | [],_=>by simp only[C0]
 | a::r,h=>by simp only[Au,vS]at h;simp only[C0];exact⟨XX h.1,DZ h.2⟩
end
section
variable {P : Program}
def pX (sz bytes:Nat)(zc:List AV)(a0 a1 a2:AV)(H:AH)(K:AV→AH→Prop):Prop:=
 bO (AW a0) λv0=>
 bO (AT sz a0 (some a1) (some a2) (some v0)) λv1=>
 bO (Ay .eql a1 a2) λv2=>
 bB v2 λt3=>bI t3 (
 K a0 H)
 (bO (AW a0) λv4=>
 bO (AT sz a0 none (some a1) none) λv5=>
 bO (AT sz a0 (some a2) none none) λv6=>
 bH (Pq sz bytes H v5 v6) λv7 H8=>
 bO (AW v7) λv9=>
 bO (AT sz v7 (some v9) (some v4) none) λv10=>
 bS (fW zc H8 v10) λH11=>
 K v7 H11)
def kP (sz:Nat)(H:AH)(s:AV)(N:List AV)(n:Nat)(r:AV)(H':AH):Prop:=
 AM r=true∧Aa H' sz r=some (N,n)∧H'.length=H.length∧(∀i,i∉AR s→H'[i]?=H[i]?)∧AR r=AR s∧Ci r n
abbrev sY:=And.intro @Ab @Ag
theorem cV {sz bytes:Nat}{zc:List AV}(h0:0<sz)(hz:zc.length=sz){H:AH}{s:AV}{cs:List AV}{n i:Nat}(hs:Aa H sz s=some (cs,n+1))(ho:AM s=true)(hcap:Ci s (n+1))(hi:i≤n)(hn:n≤1000000)(hby:bytes≤1000000):
  ∃r H',kP sz H s (cs.take (i*sz)++cs.drop ((i+1)*sz)) n r H'∧pX sz bytes zc s (I i) (I ((i:Int)+1)) H λr' H''=>r'=r∧H''=H':=by
 obtain⟨o,off,cap,cells,rfl,hc,hl,rfl⟩:=GT hs ho (by omega);have hol:=(BE.1 hc).1;have hms:(i+1)*sz=i*sz+sz:=wG _ _;have hns:(n+1)*sz=n*sz+sz:=wG _ _;have hmi:i*sz≤n*sz:=vH _ (by omega);have hmn:(i+1)*sz+(n - i)*sz=(n+1)*sz:=by rw[← wR];congr 1;omega
 obtain⟨cap',hcap1,hcap2⟩:∃cap',Room.cut (n+1) 0 cap=cap'∧n+1≤cap'.least:=by
  refine⟨_,rfl,?_⟩;cases cap<;>simp_all[Room.cut,Room.least,Ci]<;>omega
 have hap:∃H8,Pq sz bytes H (.sl o off i sz cap') (.sl o (off+(i+1)*sz) (n - i) sz (cap.cut (n+1) (i+1)))=some (.sl o off n sz cap',H8)∧H8.length=H.length∧(∀j,j≠o→H8[j]?=H[j]?)∧H8[o]?=some (some (.cells (Bx cells (off+i*sz) ((cells.drop (off+(i+1)*sz)).take ((n - i)*sz))))):=by
  have e:Bb H sz (.sl o (off+(i+1)*sz) (n - i) sz (cap.cut (n+1) (i+1)))=some ((cells.drop (off+(i+1)*sz)).take ((n - i)*sz),n - i):=AI (by rw[A9 hc (by omega)]);unfold Pq;rw[e];simp only[Kx,hc];rw[if_neg (by simp;omega)];have hin:i+(n - i)=n:=by omega
  cases cap' with
  | ex k=>
   simp only[Room.least]at hcap2;simp only[hin,show n≤k by omega,if_true];exact⟨_,rfl,by simp,λj hj=>by rw[C3 (wD hj)],by simp[hol]⟩
  | ge k=>
   simp only[Room.least]at hcap2
   by_cases h:n - i=0
   ·have:i=n:=by omega
    subst this;simp only[h,if_true];refine⟨_,rfl,rfl,λ_ _=>rfl,?_⟩;rw[hc];simp[Bx]
   ·simp only[h,if_false,hin,show n≤k by omega,if_true]
    exact⟨_,rfl,by simp,λj hj=>by rw[C3 (wD hj)],by simp[hol]⟩
 obtain⟨H8,hA,hL,hO,hC⟩:=hap;have hDl:((cells.drop (off+(i+1)*sz)).take ((n - i)*sz)).length=(n - i)*sz:=by rw[uZ,vG];omega
 have hcl:(Bx cells (off+i*sz) ((cells.drop (off+(i+1)*sz)).take ((n - i)*sz))).length=cells.length:=Gb (by rw[hDl];omega);have hol8:o<H8.length:=by omega
 refine⟨.sl o off n sz cap',H8.set o (some (.cells (Bx (Bx cells (off+i*sz) ((cells.drop (off+(i+1)*sz)).take ((n - i)*sz))) (off+n*sz) (AZ zc 1)))),⟨rfl,?_,?_,λj hj=>?_,rfl,by simp only[Ci];omega⟩,?_⟩
 rotate_left 3
 ·unfold pX
  have q1:((i:Int)+1)=((i+1:Nat):Int):=by omega
  have w1:AW (.sl o off (n+1) sz cap)=some (I ((n+1:Nat):Int)):=rfl;have hcl':n+1≤cap.least:=hcap
  have w2:∃v,AT sz (.sl o off (n+1) sz cap) (some (I i)) (some (I ((i+1:Nat):Int))) (some (I ((n+1:Nat):Int)))=some v:=by
   refine⟨.sl o (off+i*sz) (i+1 - i) sz (.ex (n+1 - i)),?_⟩;simp[AT,Bt,goInt,show(0:Int)≤(i:Int)+1 by omega,show(0:Int)≤(n:Int)+1 by omega];omega
  obtain⟨v,w2⟩:=w2
  have w3:AT sz (.sl o off (n+1) sz cap) none (some (I i)) none=some (.sl o off i sz cap'):=by
   rw[← hcap1];simp[AT,Bt,goInt];omega
  have w4:AT sz (.sl o off (n+1) sz cap) (some (I ((i+1:Nat):Int))) none none=some (.sl o (off+(i+1)*sz) (n - i) sz (cap.cut (n+1) (i+1))):=by
   have:((i:Int)+1)=((i+1:Nat):Int):=by omega
   simp[AT,Bt,goInt,this,-Int.natCast_add];omega
  have w5:AT sz (.sl o off n sz cap') (some (I n)) (some (I ((n+1:Nat):Int))) none=some (.sl o (off+n*sz) 1 sz (cap'.cut n n)):=by
   simp[AT,Bt,goInt,show(0:Int)≤(n:Int)+1 by omega];omega
  have w6:Ay .eql (I i) (I ((i+1:Nat):Int))=some (B false):=by simp;omega
  rw[q1,w1];simp only[sY,w2,w6,Ai,w3,w4,hA,Az,AW,w5];have zl:(AZ zc 1).length=sz:=by rw[CY,hz];omega
  have w7:fW zc H8 (.sl o (off+n*sz) 1 sz (cap'.cut n n))=some (H8.set o (some (.cells (Bx (Bx cells (off+i*sz) ((cells.drop (off+(i+1)*sz)).take ((n - i)*sz))) (off+n*sz) (AZ zc 1))))):=by
   unfold fW;simp only[hC];rw[if_pos ⟨hz,by omega,by omega⟩,if_neg (by omega),Eu _ _ _ (by omega)];rfl
  rw[w7];simp only[AB];exact⟨trivial,trivial⟩
 ·rw[A9 (c:=Bx (Bx cells (off+i*sz) ((cells.drop (off+(i+1)*sz)).take ((n - i)*sz))) (off+n*sz) (AZ zc 1)) (by simp[hol8]) (by rw[Gb (by rw[CY,hz];omega)];omega)]
  congr 2
  have e1:((cells.drop off).take ((n+1)*sz)).take (i*sz)=(cells.drop off).take (i*sz):=by rw[wY];congr 1;omega
  have e2:((cells.drop off).take ((n+1)*sz)).drop ((i+1)*sz)=(cells.drop (off+(i+1)*sz)).take ((n - i)*sz):=by rw[xU,wX];congr 1;omega
  rw[e1,e2];have e3:(n:Nat)*sz=i*sz+(n - i)*sz:=by rw[← wR];congr 1;omega
  generalize (cells.drop (off+(i+1)*sz)).take ((n - i)*sz)=D at*
  have h1:((Bx (Bx cells (off+i*sz) D) (off+n*sz) (AZ zc 1)).drop off).take (n*sz)=((Bx cells (off+i*sz) D).drop off).take (n*sz):=by
   refine wH λk=>?_
   rw[vI,vI]
   by_cases c:k<n*sz
   ·rw[if_pos c,if_pos c,vJ,vJ,GS (by rw[CY,hz];omega),if_neg (by omega)]
   ·rw[if_neg c,if_neg c]
  rw[h1,e3]
  have:=(U6 cells off (i*sz) D (by omega)).1
  rw[hDl]at this;exact this
 ·simp[hL]
 ·rw[C3 (by simp[AR]at hj;omega)];exact hO j (by simpa[AR]using hj)
end
end
section
theorem compareString_calls (a b:ByteArray)(H:AH):ACalls prog 168 [.lit (.string a),.lit (.string b)] H λr H'=>r=.lit (.int .i64 (Lib.compareBytes a.data.toList b.data.toList))∧H'=H:=by
 refine ACalls.of_body func168 rfl ?_;refine ACode.seq (ACode.region (AOps.op rfl rfl (AOps.nil ?_)));refine ACode.seq (ACode.region (AOps.op rfl rfl (AOps.op rfl rfl (AOps.extern rfl rfl (r:=.lit (.int .i64 (Lib.compareBytes a.data.toList b.data.toList))) ?_ (AOps.op rfl rfl (AOps.nil ?_))))))
 ·intro G vs hH hv
  have hv':VRs G [.lit (.string a),.lit (.string b)] vs:=hv;simp only[VRs,VR]at hv';obtain⟨_,_,rfl,rfl,_,_,rfl,rfl,rfl⟩:=hv';refine⟨.int .i64 (Lib.compareBytes a.data.toList b.data.toList),?_,by simp only[VR]⟩
  rw[run_callFunc_extern func200 (by kernel_rfl) (by kernel_rfl) (by kernel_rfl) (e:=Extern.BytealgCompare.compare) (by kernel_rfl),
   Lib.run_compareString (P:=prog) a b G.w]
  rfl
 ·exact ACode.ret ⟨.inr rfl,_,rfl,rfl,rfl⟩
structure Nm where
 name:List UInt8
 ino:Int
 deriving DecidableEq
def Ch (x:Nm):List AV:=[S (As x.name),I x.ino]
theorem Dr (x:Nm):(Ch x).length=2:=rfl
theorem LV (x:Nm):Au (Ch x)=true:=rfl
structure Nd where
 ino:Int
 size:Int
 l:List Ext
 deriving DecidableEq
structure NdV where
 nd:Nd
 R:AV
 h:SV Aw 9 nd.l R
abbrev NdV.ino (x:NdV):Int:=x.nd.ino
def Bw (x:NdV):List AV:=[I x.nd.ino,I x.nd.size,x.R]
theorem CG (x:NdV):(Bw x).length=3:=rfl
theorem GR (x:NdV):Au (Bw x)=true:=by simp[Bw,Au,noIds,x.h.1]
theorem Sg (x:Nm)(t:List AV):(Ch x++t)[0]?=some (S (As x.name)):=rfl
theorem mG (x:Nm)(t:List AV):(Ch x++t)[1]?=some (I x.ino):=rfl
theorem mF (x:NdV)(t:List AV):Al true 2 (Bw x++t) 1=some (.agg [I x.nd.size,x.R]):=by simp[Al,Bw]
theorem koI:KO Ca where
 eq a b:=by unfold Ca;split<;>(try split)<;>omega
 anti a b:=by unfold Ca;split<;>(try split)<;>(try split)<;>omega
 trans a b d:=by unfold Ca;intro h1 h2;split at h1<;>split at h2<;>(try split at h1)<;>(try split at h2)<;>split<;>omega
theorem Vj {a b:Int}:Ca a b<0↔a<b:=by unfold Ca;split<;>(try split)<;>omega
theorem SV.oneA {α:Type}{enc:α→List AV}{sz:Nat}{l:List α}{v:AV}(h:SV enc sz l v):oneA v=true:=by
 have h2:=h.2 [];unfold Aa at h2;split at h2
 all_goals first | rfl | cases h2
def XT (y:UInt8):Prop:=(97≤(y.toNat:Int)∧(y.toNat:Int)≤122)∨(48≤(y.toNat:Int)∧(y.toNat:Int)≤57)∨(y.toNat:Int)=46∨(y.toNat:Int)=95∨(y.toNat:Int)=45
instance (y:UInt8):Decidable (XT y):=by unfold XT;infer_instance
def FX (s:List UInt8):Prop:=s≠[]∧s.length≤20∧s[0]?≠some 45∧∀b∈s,XT b
instance (s:List UInt8):Decidable (FX s):=by unfold FX;infer_instance
theorem qM (y:UInt8):BPure prog 166 [.lit (.int .u8 y.toNat)] (B (decide (XT y))):=BPure.flat λH=>Vv (by
 unfold Ut;unfold XT
 by_cases c1:(97:Int)≤y.toNat
 ·by_cases c2:(y.toNat:Int)≤122
  ·simp[c1,c2]
  ·have e1:¬(y.toNat:Int)≤57:=by omega
   have e2:¬(y.toNat:Int)=46:=by omega
   have e3:¬(y.toNat:Int)=95:=by omega
   have e4:¬(y.toNat:Int)=45:=by omega
   simp[c1,c2,e1,e2,e3,e4,show(48:Int)≤y.toNat by omega]
 ·by_cases c2:(48:Int)≤y.toNat
  ·by_cases c3:(y.toNat:Int)≤57
   ·simp[c1,c2,c3]
   ·by_cases c4:(y.toNat:Int)=95
    ·simp[c1,c2,c3,c4]
    ·have e2:¬(y.toNat:Int)=46:=by omega
     have e4:¬(y.toNat:Int)=45:=by omega
     simp[c1,c2,c3,c4,e2,e4]
  ·by_cases c4:(y.toNat:Int)=46
   ·simp[c1,c2,c4]
   ·by_cases c5:(y.toNat:Int)=95
    ·simp[c1,c2,c4,c5]
    ·by_cases c6:(y.toNat:Int)=45
     ·simp[c1,c2,c4,c5,c6]
     ·simp[c1,c2,c4,c5,c6])
theorem u8c {y:UInt8}{k:UInt8}{n:Int}(h:(k.toNat:Int)=n):((y.toNat:Int)=n)=(y=k):=by
 refine propext ⟨λe=>UInt8.toNat_inj.1 (by omega),λe=>by rw[e];exact h⟩
theorem Mh {s:List UInt8}(hs:s.length≤9223372036854775807):BPure prog 102 [S (As s)] (B (decide (FX s))):=BPure.flat λH=>PO (by
 unfold Nc;rw[Wr,G9,HH hs]
 have hl:∀t:List UInt8,t=s→0<t.length→t.length≤20→t[0]?≠some 45→G4 (S (As t)) (I t.length) (I 0) H λr H'=>r=B (decide (FX t))∧H'=H:=by
  intro t _ h0 h20 h45;refine KZ (λn x0 x17 x18 H'=>∃k:Nat,k+n=t.length∧x0=S (As t)∧x17=I t.length∧x18=I k∧H'=H∧∀m y,m<k→t[m]?=some y→XT y) ?_ t.length ⟨0,by omega,rfl,rfl,rfl,rfl,by omega⟩;rintro n x0 x17 x18 H' R hR ⟨k,hk,rfl,rfl,rfl,rfl,hb⟩;unfold Ij;rcases vF k t.length with h | h
  ·have hx:=E3 h
   generalize t[k]=y at hx;simp[h,Pu rfl hx];refine A1 (qM y) ?_
   by_cases hy:XT y
   ·simp[hy,A0 (a:=k) (b:=1) (by omega) (by omega)]
    refine hR (n - 1) _ _ _ _ (by omega) ⟨k+1,by omega,rfl,rfl,by simp,rfl,?_⟩;intro m z hm hz
    by_cases c:m=k
    ·rw[c,hx]at hz;injection hz with hz;rw[← hz];exact hy
    ·exact hb m z (by omega) hz
   ·have:¬FX t:=λhm=>hy (hm.2.2.2 y (vD hx))
    simp[hy,this]
  ·have:FX t:=⟨λe=>by rw[e]at h0;simp at h0,h20,h45,λb hb'=>by
    obtain⟨m,hm⟩:=vN.1 hb'
    have:=(BE.1 hm).1
    exact hb m b (by omega) hm⟩
   simp[show ¬k<t.length by omega,this]
 by_cases h0:s=[]
 ·subst h0
  simp[FX]
 ·have hlen:0<s.length:=List.length_pos_iff.2 h0
  by_cases h1:s.length≤20
  ·have hx:=E3 hlen
   have e20:¬(20:Int)<s.length:=by omega
   generalize s[0]=y at hx;simp[h0,Mn,e20,Pu (k:=0) (i:=0) rfl hx];have e45:((y.toNat:Int)=45)=(y=45):=u8c rfl
   by_cases h2:(y.toNat:Int)=45
   ·have:¬FX s:=λhm=>hm.2.2.1 (by rw[hx,e45.mp h2])
    simp[h2,this]
   ·simp[h2]
    exact hl s rfl hlen h1 (by rw[hx];intro e;injection e with e;exact h2 (e45.mpr e))
  ·have e20:(20:Int)<s.length:=by omega
   have:¬FX s:=λhm=>h1 hm.2.1
   simp[h0,Mn,e20,this])
theorem Zj (a b:List UInt8):BPure prog 109 [S (As a),S (As b)] (I (AX a b)):=BPure.flat λH=>NK (by
 unfold KS;exact A1 (λH=>by have:=compareString_calls (As a) (As b) H;exact this) ⟨rfl,rfl⟩)
theorem WU (x:Nm)(s:List UInt8):BPure prog 108 [.agg (Ch x),S (As s)] (I (AX x.name s)):=BPure.val (by simp[Au,noIds,LV]) rfl (PP (by
 unfold Nh;unfold Ch;simp;refine A1 (Zj x.name s) ?_
 rfl))
theorem YL (x:NdV)(no:Int):BPure prog 93 [.agg (Bw x),I no] (I (Ca x.nd.ino no)):=BPure.val (by simp[Au,noIds,GR]) rfl (Rc (by
 unfold OG;unfold Bw;have h1:=SV.oneA x.h;simp[h1];refine A1 (MK x.nd.ino no) ?_
 rfl))
theorem YY (x:Nm)(t:List AV):Al true 2 (Ch x++t) 0=some (.agg (Ch x)):=by
 simp[Al,Ch]
theorem Xg (x:NdV)(t:List AV):Al true 3 (Bw x++t) 0=some (.agg (Bw x)):=by
 simp[Al,Bw]
theorem kG:Bq prog 108=true:=by kernel_rfl
theorem nU {l:List Nm}{v:AV}(hv:SV Ch 2 l v)(hs:BX AX Nm.name l)(hl:l.length≤281474976710656)(no:List UInt8):
  BPure prog 107 [v,S (As no),.fn (.func 108) [] []] (.tup [I (CZ AX Nm.name l no),B (decide (AO Nm.name l no))]):=BPure.val (by simp[Au,noIds,hv.1]) rfl (CS (by
 unfold BL;simp[hv.len];refine Cy (λn x0 x1 x2 x8 x9 x10 H'=>∃i j:Nat,i+n=j∧j≤l.length∧x0=v∧x1=S (As no)∧x2=.fn (.func 108) [] []∧x8=I l.length∧x9=I i∧x10=I j∧H'=[]∧(∀m x,m<i→l[m]?=some x→AX (Nm.name x) no<0)∧(∀m x,j≤m→l[m]?=some x→¬AX (Nm.name x) no<0)) ?_ l.length ⟨0,l.length,by simp,by omega,rfl,rfl,rfl,rfl,rfl,rfl,rfl,by simp,λm x hm hx=>by have:=(BE.1 hx).1;omega⟩;rintro n x0 x1 x2 x8 x9 x10 H' R hR ⟨i,j,hij,hj,rfl,rfl,rfl,rfl,rfl,rfl,rfl,h1,h2⟩;unfold By;rcases vF i j with hlt | hge
 ·have hx:=E3 (l:=l) (i:=(i+j)/2) (by omega)
  generalize l[(i + j) / 2]'(by omega)=y at hx;simp [hlt,A0 (a:=i) (b:=j) (by omega) (by omega),UT (n:=(i : Int) + j) (by omega) (by omega),RE,Rl (a:=((i : Int) + j) / 2) (by omega) (by omega),hv.idx Dr hx (i:=((i : Int) + j) / 2) (by omega),kG,YY];refine bC_of (WU y no []) ?_
  by_cases c1:AX (Nm.name y) no<0
  ·simp[c1,A0 (a:=((i:Int)+j)/2) (b:=1) (by omega) (by omega)]
   refine hR (j - ((i+j)/2+1)) _ _ _ _ _ _ _ (by omega) ⟨(i+j)/2+1,j,by omega,hj,rfl,rfl,rfl,rfl,by simp,rfl,rfl,?_,h2⟩;intro m x hm hmx
   by_cases hm2:m=(i+j)/2
   ·rw[hm2,hx]at hmx;injection hmx with e;rw[← e];exact c1
   ·exact koN.trans _ _ _ (Iu hs hmx hx (by omega)) c1
  ·simp[c1]
   refine hR ((i+j)/2 - i) _ _ _ _ _ _ _ (by omega) ⟨i,(i+j)/2,by omega,by omega,rfl,rfl,rfl,rfl,rfl,by simp,rfl,h1,?_⟩;intro m x hm hmx
   by_cases hm2:m=(i+j)/2
   ·rw[hm2,hx]at hmx;injection hmx with e;rw[← e];exact c1
   ·intro c2
    exact c1 (koN.trans _ _ _ (Iu hs hx hmx (by omega)) c2)
 ·have hi:i=j:=by omega
  subst hi;have hp:CZ AX Nm.name l no=i:=Rz (by omega) h1 (λx hx=>h2 i x (by omega) hx);rcases vF i l.length with hil | hil
  ·have hx:=E3 (l:=l) (i:=i) hil
   generalize l[i]=y at hx
   have hh:AO Nm.name l no↔AX (Nm.name y) no=0:=by
    rw[Ii koN hs,hp,koN.eq]
    constructor
    ·rintro⟨z,hz,e⟩
     rw[hx]at hz;injection hz with hz;rw[hz,e]
    ·intro e
     exact⟨y,hx,e⟩
   simp[hil,hv.idx Dr hx rfl,kG,YY];refine bC_of (WU y no []) ?_;simp[hp,hh]
  ·have hn:¬AO Nm.name l no:=by
    rw[Ii koN hs,hp];rintro⟨z,hz,e⟩
    have:=(BE.1 hz).1
    omega
   simp[show ¬i<l.length by omega,hp,hn]))
theorem kF:Bq prog 93=true:=by kernel_rfl
theorem nT {l:List NdV}{v:AV}(hv:SV Bw 3 l v)(hs:BX Ca NdV.ino l)(hl:l.length≤281474976710656)(no:Int):
  BPure prog 92 [v,I no,.fn (.func 93) [] []] (.tup [I (CZ Ca NdV.ino l no),B (decide (AO NdV.ino l no))]):=BPure.val (by simp[Au,noIds,hv.1]) rfl (Dk (by
 unfold BW;simp[hv.len];refine CE (λn x0 x1 x2 x8 x9 x10 H'=>∃i j:Nat,i+n=j∧j≤l.length∧x0=v∧x1=I no∧x2=.fn (.func 93) [] []∧x8=I l.length∧x9=I i∧x10=I j∧H'=[]∧(∀m x,m<i→l[m]?=some x→Ca (NdV.ino x) no<0)∧(∀m x,j≤m→l[m]?=some x→¬Ca (NdV.ino x) no<0)) ?_ l.length ⟨0,l.length,by simp,by omega,rfl,rfl,rfl,rfl,rfl,rfl,rfl,by simp,λm x hm hx=>by have:=(BE.1 hx).1;omega⟩;rintro n x0 x1 x2 x8 x9 x10 H' R hR ⟨i,j,hij,hj,rfl,rfl,rfl,rfl,rfl,rfl,rfl,h1,h2⟩;unfold BC;rcases vF i j with hlt | hge
 ·have hx:=E3 (l:=l) (i:=(i+j)/2) (by omega)
  generalize l[(i + j) / 2]'(by omega)=y at hx;simp [hlt,A0 (a:=i) (b:=j) (by omega) (by omega),UT (n:=(i : Int) + j) (by omega) (by omega),RE,Rl (a:=((i : Int) + j) / 2) (by omega) (by omega),hv.idx CG hx (i:=((i : Int) + j) / 2) (by omega),kF,Xg];refine bC_of (YL y no []) ?_
  by_cases c1:Ca (NdV.ino y) no<0
  ·simp[c1,A0 (a:=((i:Int)+j)/2) (b:=1) (by omega) (by omega)]
   refine hR (j - ((i+j)/2+1)) _ _ _ _ _ _ _ (by omega) ⟨(i+j)/2+1,j,by omega,hj,rfl,rfl,rfl,rfl,by simp,rfl,rfl,?_,h2⟩;intro m x hm hmx
   by_cases hm2:m=(i+j)/2
   ·rw[hm2,hx]at hmx;injection hmx with e;rw[← e];exact c1
   ·exact koI.trans _ _ _ (Iu hs hmx hx (by omega)) c1
  ·simp[c1]
   refine hR ((i+j)/2 - i) _ _ _ _ _ _ _ (by omega) ⟨i,(i+j)/2,by omega,by omega,rfl,rfl,rfl,rfl,rfl,by simp,rfl,h1,?_⟩;intro m x hm hmx
   by_cases hm2:m=(i+j)/2
   ·rw[hm2,hx]at hmx;injection hmx with e;rw[← e];exact c1
   ·intro c2
    exact c1 (koI.trans _ _ _ (Iu hs hx hmx (by omega)) c2)
 ·have hi:i=j:=by omega
  subst hi;have hp:CZ Ca NdV.ino l no=i:=Rz (by omega) h1 (λx hx=>h2 i x (by omega) hx);rcases vF i l.length with hil | hil
  ·have hx:=E3 (l:=l) (i:=i) hil
   generalize l[i]=y at hx
   have hh:AO NdV.ino l no↔Ca (NdV.ino y) no=0:=by
    rw[Ii koI hs,hp,koI.eq]
    constructor
    ·rintro⟨z,hz,e⟩
     rw[hx]at hz;injection hz with hz;rw[hz,e]
    ·intro e
     exact⟨y,hx,e⟩
   simp[hil,hv.idx CG hx rfl,kF,Xg];refine bC_of (YL y no []) ?_;simp[hp,hh]
  ·have hn:¬AO NdV.ino l no:=by
    rw[Ii koI hs,hp];rintro⟨z,hz,e⟩
    have:=(BE.1 hz).1
    omega
   simp[show ¬i<l.length by omega,hp,hn]))
def PD (ps:List (Int×AV)):List (Value×AV):=ps.map λp=>(.int .i64 p.1,p.2)
def WM (z:AV)(ps:List (Int×AV))(k:Int):AV:=match ps.find? (λp=>p.1==k)with
 | some p=>p.2
 | none=>z
theorem fE (a b:Int):Instr.sameNow (.int .i64) (.int .i64 a) (.int .i64 b)=some (a==b):=rfl
theorem PG (k:Int):∀(ps:List (Int×AV)) (i:Nat),J9 (.int .i64) (.int .i64 k) (PD ps) i=some ((ps.findIdx? (λp=>p.1==k)).bind λj=>(ps[j]?).map λp=>(i+j,p.2))
 | [],i=>rfl
 | p::ps,i=>by
  show(match Instr.sameNow (.int .i64) (.int .i64 k) (.int .i64 p.1)with
   | some true=>some (some (i,p.2))
   | some false=>J9 (.int .i64) (.int .i64 k) (PD ps) (i+1)
   | none=>none)=_
  rw[fE,List.findIdx?_cons]
  by_cases h:p.1=k
  ·have h':(k==p.1)=true:=by simp[h]
   have h2:(p.1==k)=true:=by simp[h]
   simp[h',h2]
  ·have h':(k==p.1)=false:=by simp;omega
   have h2:(p.1==k)=false:=by simp[h]
   simp only[h',h2];rw[PG k ps (i+1)];cases ps.findIdx? (λp=>p.1==k)with
   | none=>rfl
   | some j=>
    simp;cases ps[j]? with
    | none=>rfl
    | some q=>simp;omega
abbrev yV:=@List.find?_eq_none
abbrev xO:=@List.findIdx?_eq_none_iff
theorem ZI {z:AV}{ps:List (Int×AV)}{k:Int}(h:ps.findIdx? (λp=>p.1==k)=none):WM z ps k=z:=by
 have:ps.find? (λp=>p.1==k)=none:=by
  rw[yV];intro x hx;rw[xO]at h
  simpa using h x hx
 unfold WM;rw[this]
abbrev yC:=@List.findIdx?_eq_some_iff_getElem
theorem Ux {z:AV}{ps:List (Int×AV)}{k:Int}{j:Nat}(h:ps.findIdx? (λp=>p.1==k)=some j):∃p,ps[j]?=some p∧p.1=k∧WM z ps k=p.2:=by
 obtain⟨h1,h2,h3⟩:=yC.1 h;refine⟨ps[j],E3 h1,by simpa using h2,?_⟩
 have:ps.find? (λp=>p.1==k)=some ps[j]:=by
  rw[List.find?_eq_some_iff_getElem];exact⟨h2,j,h1,rfl,λi hi=>by simpa using h3 i hi⟩
 unfold WM;rw[this]
theorem Yz {H:AH}{o:Nat}{zv:Value}{ps:List (Int×AV)}{k:Int}(h:H[o]?=some (some (.map (PD ps)))):fX (.int .i64) zv H (.mp o) (.lit (.int .i64 k)) false=some (WM (.ofV zv) ps k):=by
 have hk:TS (.int .i64) (.int .i64 k)=true:=rfl;unfold fX Oq;simp only[h,hk,if_true,PG];cases hf:ps.findIdx? (λp=>p.1==k)with
 | none=>rw[ZI hf];rfl
 | some j=>
  obtain⟨p,h1,h2,h3⟩:=Ux (z:=.ofV zv) hf;simp[h1,h3]
def jB (ps:List (Int×AV))(k:Int)(v:AV):List (Int×AV):=match ps.findIdx? (λp=>p.1==k)with
 | some j=>ps.set j (k,v)
 | none=>ps++[(k,v)]
theorem gW {H:AH}{o:Nat}{ps:List (Int×AV)}{k:Int}{v:AV}(h:H[o]?=some (some (.map (PD ps)))):oB (.int .i64) H (.mp o) (.lit (.int .i64 k)) v=some (H.set o (some (.map (PD (jB ps k v))))):=by
 have hk:TS (.int .i64) (.int .i64 k)=true:=rfl;unfold oB jB;simp only[h,hk,if_true,PG];cases hf:ps.findIdx? (λp=>p.1==k)with
 | none=>simp[PD]
 | some j=>
  obtain⟨p,h1,h2,h3⟩:=Ux (z:=.junk) hf;simp[h1,PD,zE]
def Nw (l:List Ext)(p:Int):UInt8:=match l.find? λx=>decide (x.no=p/8)with
 | some x=>x.b.getD (p % 8).toNat 0
 | none=>0
theorem EA {l:List Ext}{p:Int}(h:¬BT l (p/8)):Nw l p=0:=by
 have:l.find? (λx=>decide (x.no=p/8))=none:=by
  rw[yV];intro x hx he;exact h ⟨x,hx,by simpa using he⟩
 unfold Nw;rw[this]
theorem Wp {l:List Ext}(hs:srt l){p:Int}{k:Nat}{x:Ext}(hx:l[k]?=some x)(he:x.no=p/8):Nw l p=x.b.getD (p % 8).toNat 0:=by
 have:l.find? (λx=>decide (x.no=p/8))=some x:=by
  rw[List.find?_eq_some_iff_getElem];obtain⟨h1,h2⟩:=BE.1 hx;refine⟨by simp[he],k,h1,h2,?_⟩;intro j hj
  have:=Ku hs (E3 (Nat.lt_trans hj h1)) hx hj
  simp;omega
 unfold Nw;rw[this]
def inC (size:Int)(l:List Ext)(pos n:Int):Prop:=E4 size l∧0≤pos∧0≤n∧n≤4096∧pos<size
instance (size:Int) (l:List Ext) (pos n:Int):Decidable (inC size l pos n):=by unfold inC;infer_instance
theorem ZS (a b:List UInt8)(off:Nat):Bx (Bc a) off (Bc b)=Bc (a.take off++b++a.drop (off+b.length)):=by
 unfold Bx;rw[CF,PC,Un,WA,WA]
theorem UV {H:AH}{sz o off len o2 off2 m:Nat}{cap cap2:Room}{cs cs2:List AV}(ho:H[o]?=some (some (.cells cs)))(h2:H[o2]?=some (some (.cells cs2)))(hoff:off≤cs.length)(ht:off2+min m len*sz≤cs2.length):
  NM sz H (.sl o off len sz cap) (.sl o2 off2 m sz cap2)=some (I ((min m len:Nat):Int),H.set o (some (.cells (Bx cs off ((cs2.drop off2).take (min m len*sz)))))):=by
 unfold NM bJ
 by_cases h:off2+m*sz≤cs2.length
 ·have e:Bb H sz (.sl o2 off2 m sz cap2)=some ((cs2.drop off2).take (m*sz),m):=AI (by simp[Aa,h2,h])
  have hm:min (min m len*sz) (m*sz)=min m len*sz:=xM (vH _ (zC _ _));rw[e];simp only[ho,hoff,and_self,if_true,wY,hm]
 ·have e:Bb H sz (.sl o2 off2 m sz cap2)=none:=by simp[Bb,Aa,h2,h]
  rw[e];simp[gN,ho,h2,hoff,ht]
theorem fH (w:World):(Go.sizeOf 52).run prog w=.ok 9 w:=Bu (by kernel_rfl)
theorem Xa {H:AH}{oa offa la ea ka ob offb lb eb kb:Nat}{ca cb:List AV}(ha:H[oa]?=some (some (.cells ca)))(hbo:H[ob]?=some (some (.cells cb)))(hne:oa≠ob)(hka:ka≠0)(hkb:kb≠0)(hcb:cb≠[]):
  ExtR prog 230 [.sl oa offa la ea (.ex ka),.sl ob offb lb eb (.ex kb)] H (B false):=
 ExtR.apart (tS:=32) (tR:=4) (fn:=f230) (by kernel_rfl) (by kernel_rfl) (by kernel_rfl) (by kernel_rfl) (by kernel_rfl) (by kernel_rfl) fH ha hbo hne hka hkb hcb
def oO (H:AH)(s:AV)(N:List AV)(n:Nat)(r:AV)(H':AH):Prop:=
 AM r=true∧Aa H' 9 r=some (N,n+1)∧H.length≤H'.length∧(∀i,i<H.length→i∉AR s→H'[i]?=H[i]?)∧∀i∈AR r,i∈AR s∨H.length≤i
theorem dF {H:AH}{s:AV}{cs:List AV}{n ov:Nat}{x:Ext}(hs:Aa H 9 s=some (cs,n))(ho:AM s=true)(hn:n≤100000000)(hv:H[ov]?=some (some (.cells (Aw x)))):
  ∃r H',oO H s (cs++Aw x) n r H'∧BCall prog 222 [s,I n,.sl ov 0 1 9 (.ex 1)] H r H':=by
 obtain⟨r0,a0,-⟩:=EL hs (lo:=some (I n)) (hi:=none) (l:=n) (k:=n) (by simp[Bt]) rfl (vB _) (vB _);have hl:=A2 x;obtain⟨r,H2,a1,a2,a3,a4,a5,a6⟩:=Ek (bytes:=16) hs ho (AI (v:=.sl ov 0 1 9 (.ex 1)) (q:=(Aw x,1)) (by simp[Aa,hv,hl,vA])) (by omega);refine⟨r,H2,⟨a2,a3,a4,a5,a6⟩,Cf ?_⟩;unfold Bj;simp[a0,B4 hs,a1]
theorem ZE {H:AH}{o off n ov i:Nat}{cells:List AV}{x:Ext}(hc:H[o]?=some (some (.cells cells)))(hl:off+n*9≤cells.length)(hi:i<n)(hn:n≤100000000)(hv:H[ov]?=some (some (.cells (Aw x)))):
  ACalls prog 222 [.sl o off n 9 (.ex n),I i,.sl ov 0 1 9 (.ex 1)] H λr H'=>r=.sl H.length 0 (n+1) 9 (.ge (n+1))∧
   H'=H++[some (.cells ((cells.drop off).take (i*9)++Aw x++(cells.drop (off+i*9)).take ((n - i)*9)))]:=by
 refine Cf ?_;unfold Bj;have h1:¬(i:Int)=n:=by omega
 have hxl:=A2 x;simp[AT,Bt,Room.least,Room.cut,T6,goInt,h1,show i≤n by omega,A0 (a:=n) (b:=1) (by omega) (by omega),Cv (a:=(n:Int)+1) (b:=i) (by omega) (by omega),IZ,hc,hl,A0 (a:=i) (b:=1) (by omega) (by omega)];have e1:i+(n+1 - i)=n+1:=by omega
 have h2:off+i*9≤cells.length:=by omega
 simp only[e1];simp[h2,show(i:Int)<n+1 by omega,show(n:Int)<n+1 by omega,show(n+1)*16≤140737488355328 by omega,show i≤n+1 by omega,show i+1≤n+1 by omega];have zl:((List.replicate (n+1 - i) [AV.lit (Value.int IntKind.i64 0),AV.lit (Value.int IntKind.u8 0),AV.lit (Value.int IntKind.u8 0),AV.lit (Value.int IntKind.u8 0),AV.lit (Value.int IntKind.u8 0),AV.lit (Value.int IntKind.u8 0),AV.lit (Value.int IntKind.u8 0),AV.lit (Value.int IntKind.u8 0),AV.lit (Value.int IntKind.u8 0)]).flatten).length=(n+1 - i)*9:=CY _ _;generalize (List.replicate (n+1 - i) [AV.lit (Value.int IntKind.i64 0),AV.lit (Value.int IntKind.u8 0),AV.lit (Value.int IntKind.u8 0),AV.lit (Value.int IntKind.u8 0),AV.lit (Value.int IntKind.u8 0),AV.lit (Value.int IntKind.u8 0),AV.lit (Value.int IntKind.u8 0),AV.lit (Value.int IntKind.u8 0),AV.lit (Value.int IntKind.u8 0)]).flatten=Z at zl;have hA:(List.take (i*9) (List.drop off cells)).length=i*9:=by rw[uZ,vG];omega
 generalize hAe:List.take (i*9) (List.drop off cells)=A at hA;have hov:=(BE.1 hv).1;have ho:=(BE.1 hc).1;rw[UV (cs:=A++Z) (cs2:=Aw x) (by simp) (by rw[uY hov];exact hv) (by simp[hA]) (by omega)];simp[show(0:Int)≤(i:Int)+1 by omega,show i+1≤n+1 by omega];have m1:min 1 (n+1 - i)=1:=by omega
 have o1:Bx (A++Z) (i*9) (List.take (min 1 (n+1 - i)*9) (Aw x))=A++Aw x++Z.drop 9:=by
  rw[m1,vA (by rw[hxl];omega)];unfold Bx;rw[vL (by omega),vA (by omega),hxl,← hA,List.drop_append,yF,yK (by omega),wP]
 rw[o1,UV (cs:=A++Aw x++Z.drop 9) (cs2:=cells) (by simp) (by rw[uY ho];exact hc) (by simp[hA,hxl];omega) (by rw[Nat.min_self];omega)];have hB:(List.take ((n - i)*9) (List.drop (off+i*9) cells)).length=(n - i)*9:=by rw[uZ,vG];omega
 simp;generalize List.take ((n - i)*9) (List.drop (off+i*9) cells)=B' at hB;unfold Bx;have l1:(A++Aw x).length=(i+1)*9:=by rw[vE,hA,hxl];omega
 rw[← vK,vL (by omega),vA (by omega),yK (by rw[vE,l1,vG,hB];omega),wI,vK]
theorem XP {H:AH}{o off n ov i c:Nat}{cells:List AV}{x:Ext}(hc:H[o]?=some (some (.cells cells)))(hl:off+n*9≤cells.length)(hi:i<n)(hn:n≤100000000)(hcn:n+1≤c)(hv:H[ov]?=some (some (.cells (Aw x))))(hne:ov≠o):
  ACalls prog 222 [.sl o off n 9 (.ex c),I i,.sl ov 0 1 9 (.ex 1)] H λr H'=>r=.sl o off (n+1) 9 (.ex c)∧
   ∃rest,H'=H.set o (some (.cells (cells.take (off+i*9)++Aw x++(cells.drop (off+i*9)).take ((n - i)*9)++rest))):=by
 refine Cf ?_;unfold Bj;have h1:¬(i:Int)=n:=by omega
 have hxl:=A2 x;simp[AT,Bt,Room.least,Room.cut,T6,goInt,h1,show i≤n by omega,A0 (a:=n) (b:=1) (by omega) (by omega),Cv (a:=(n:Int)+1) (b:=i) (by omega) (by omega),hc,hl,A0 (a:=i) (b:=1) (by omega) (by omega),show i≤c by omega,show n≤c by omega,show ¬(c:Int)<n+1 by omega,hcn,show(0:Int)≤(n:Int)+1 by omega,show(0:Int)≤(i:Int)+1 by omega,show i+1≤n+1 by omega,show i+1≤c by omega];refine bP_of (Xa hv hc hne (by omega) (by omega) (by intro h;rw[h]at hl;simp at hl;omega)) ?_;simp;have ho:=(BE.1 hc).1;have mm:min (n+1 - i) (n - i)=n - i:=by omega
 have m1:min 1 (n+1 - i)=1:=by omega
 simp only[show i≤n+1 by omega,if_true,Ab];rw[UV (cs:=cells) (cs2:=cells) hc hc (by omega) (by rw[mm];omega),mm];have hB:(List.take ((n - i)*9) (List.drop (off+i*9) cells)).length=(n - i)*9:=by rw[uZ,vG];omega
 generalize List.take ((n - i)*9) (List.drop (off+i*9) cells)=B' at hB;simp only[Az];have l1:(cells.take (off+(i+1)*9)).length=off+(i+1)*9:=by rw[uZ];omega
 rw[UV (cs:=Bx cells (off+(i+1)*9) B') (cs2:=Aw x) (by simp[ho]) (by rw[C3 (wD hne)];exact hv) (by unfold Bx;simp[l1];omega) (by omega),m1,vA (l:=(Aw x).drop 0) (by simp[hxl])];simp only[Az,List.set_set,vZ];refine⟨(cells.drop (off+(i+1)*9+B'.length)),?_⟩
 congr 3
 unfold Bx;rw[hxl]
 have t1:List.take (off+i*9) (cells.take (off+(i+1)*9)++B'++cells.drop (off+(i+1)*9+B'.length))=cells.take (off+i*9):=by
  rw[vK,vL (by omega),wY,xM (by omega)]
 have t2:List.drop (off+i*9+9) (cells.take (off+(i+1)*9)++B'++cells.drop (off+(i+1)*9+B'.length))=B'++cells.drop (off+(i+1)*9+B'.length):=by
  rw[vK,show off+i*9+9=(cells.take (off+(i+1)*9)).length by omega,zK]
 rw[t1,t2,vK]
theorem RR {m:Nat}:∀{a b:List AV},C0 m a→C0 m b→C0 m (a++b)
 | [],b,_,h=>h
 | x::a,b,h1,h2=>by simp only[C0,yD]at h1⊢;exact⟨h1.1,RR h1.2 h2⟩
theorem Lq {m:Nat}:∀{a:List AV},C0 m a↔∀x∈a,E8 m x
 | []=>by simp[C0]
 | x::a=>by simp only[C0,uF,Lq (a:=a)]
theorem cA (x:Ext)(m:Nat):C0 m (Aw x):=by
 rw[Lq];intro a ha;simp only[Aw,Bc,vX,vV]at ha;rcases ha with rfl | ⟨b,_,rfl⟩<;>simp only[E8]
theorem dG {H:AH}{o off n ov i:Nat}{cap:Room}{cells:List AV}{x:Ext}(hc:H[o]?=some (some (.cells cells)))(hl:off+n*9≤cells.length)(hi:i<n)(hn:n≤100000000)(hv:H[ov]?=some (some (.cells (Aw x))))(hne:ov≠o):
  BCall prog 222 [.sl o off n 9 cap,I i,.sl ov 0 1 9 (.ex 1)] H (.sl H.length 0 (n+1) 9 (.ge (n+1)))
   (H.set o none++[some (.cells ((cells.drop off).take (i*9)++Aw x++(cells.drop (off+i*9)).take ((n - i)*9)))]):=by
 have ho:=(BE.1 hc).1;have hxl:=A2 x;generalize hN:(cells.drop off).take (i*9)++Aw x++(cells.drop (off+i*9)).take ((n - i)*9)=N
 have hNl:N.length=(n+1)*9:=by
  rw[← hN,vE,vE,hxl,uZ,uZ,vG,vG];omega
 have hall:∀c,n≤c→ACalls prog 222 [.sl o off n 9 (.ex c),I i,.sl ov 0 1 9 (.ex 1)] H λr H'=>
   (r=.sl H.length 0 (n+1) 9 (.ge (n+1))∧H'=H++[some (.cells N)])∨∃c rest,n+1≤c∧r=.sl o off (n+1) 9 (.ex c)∧H'=H.set o (some (.cells (cells.take off++N++rest))):=by
  intro c hcn;rcases vF n c with h | h
  ·refine(XP hc hl hi hn h hv hne).mono ?_
   rintro r H' ⟨rfl,rest,rfl⟩;refine .inr ⟨c,rest,h,rfl,?_⟩
   congr 3
   rw[← hN,yU off (i*9),yU (i*9) off];have:cells.take (off+i*9)=cells.take off++(cells.drop off).take (i*9):=by rw[List.take_add]
   rw[this];simp[vK]
  ·have:c=n:=by omega
   subst this;refine(ZE hc hl hi hn hv).mono ?_;rintro r H' ⟨rfl,rfl⟩;exact .inl ⟨rfl,by rw[hN]⟩
 have hany:ACalls prog 222 [.sl o off n 9 cap,I i,.sl ov 0 1 9 (.ex 1)] H λr H'=>
   (r=.sl H.length 0 (n+1) 9 (.ge (n+1))∧H'=H++[some (.cells N)])∨∃c rest,n+1≤c∧r=.sl o off (n+1) 9 (.ex c)∧H'=H.set o (some (.cells (cells.take off++N++rest))):=by
  cases cap with
  | ge k=>exact ACalls.room λc _ h=>hall c h
  | ex c=>
   rcases vF c n with h | h
   ·intro G vs hH hv
    exfalso
    simp only[VRs]at hv;obtain⟨v,r,rfl,h1,h2⟩:=hv;simp only[VR]at h1;obtain⟨_,a,c',rfl,hlc,hs⟩:=h1;simp only[SlAt]at hs;omega
   ·exact hall c h
 refine ACalls.canon hany ?_;rintro hb r1 H1 h1
 have hbN:C0 H.length N:=by
  have hbc:C0 H.length cells:=hb o _ hc;rw[Lq]at hbc;rw[← hN];refine RR (RR ?_ (cA x _)) ?_
  ·rw[Lq];exact λa ha=>hbc a (xC (wM ha))
  ·rw[Lq];exact λa ha=>hbc a (xC (wM ha))
 rcases h1 with⟨rfl,rfl⟩ | ⟨c,rest,hcn,rfl,rfl⟩
 ·refine⟨_,_,_,Canon.grown hb hbN,?_⟩
  intro G v hG hr;refine⟨?_,λp ℓ h=>by cases h⟩;simp only[VR]at hr⊢;obtain⟨q0,a,c,rfl,hlc,hs⟩:=hr;refine⟨by simp[Cfg.ren],a,c,rfl,hlc,?_⟩
  simpa[Cfg.ren,mO,dX]using hs
 ·refine⟨_,_,_,Canon.placed (off:=off) (l:=c*9) hb ho hbN (cs1:=cells.take off++N++rest) ?_ ?_ ?_,?_⟩
  ·simp;omega
  ·have:(cells.take off).length=off:=by rw[uZ];omega
   rw[vK]
   conv=>lhs;arg 2;arg 1;rw[← this]
   rw[zK,List.take_left]
  ·rw[hNl];omega
  ·intro G v hG hr
   simp only[VR]at hr;obtain⟨q0,a,c',rfl,hlc,hs⟩:=hr;simp only[SlAt]at hs;obtain⟨rfl,hs⟩:=hs;have hs:=hs.resolve_left (by omega);obtain⟨rfl,hs2⟩:=hs;have e:lN H.length o off H.length=(o,off):=if_pos rfl;have e2:Wo H.length (c'*9) H.length=some (c'*9):=if_pos rfl;refine⟨?_,?_⟩
   ·simp only[VR]
    refine⟨by simp[Cfg.ren],_,c',rfl,by omega,?_⟩;simp only[SlAt];refine⟨hcn,.inr ⟨by simp[Cfg.ren,e],?_⟩⟩;simp[Cfg.ren,e2]
   ·intro p ℓ h
    unfold Wo at h;split at h
    ·rename_i hp
     injection h with h;subst hp;subst h;rw[e];omega
    ·cases h
theorem Zf:∀{l m:List Ext},srt l→srt m→(∀x,x∈l↔x∈m)→l=m
 | [],[],_,_,_=>rfl
 | [],y::m,_,_,h=>by have:=(h y).2 (by simp);simp at this
 | x::l,[],_,_,h=>by have:=(h x).1 (by simp);simp at this
 | x::l,y::m,hl,hm,h=>by
  have hl':=xB.1 hl;have hm':=xB.1 hm
  have e:x=y:=by
   rcases vX.1 ((h x).1 (by simp))with e | h1
   ·exact e
   ·rcases vX.1 ((h y).2 (by simp))with e | h2
    ·exact e.symm
    ·have:=hm'.1 x h1;have:=hl'.1 y h2;omega
  subst e;refine congrArg _ (Zf hl'.2 hm'.2 λz=>?_)
  constructor
  ·intro hz
   rcases vX.1 ((h z).1 (by simp[hz]))with e | h1
   ·have:=hl'.1 z hz;rw[e]at this;omega
   ·exact h1
  ·intro hz
   rcases vX.1 ((h z).2 (by simp[hz]))with e | h1
   ·have:=hm'.1 z hz;rw[e]at this;omega
   ·exact h1
theorem XJ {x y:Ext}(h1:x.no=y.no)(h2:∀k,k<8→x.b.getD k 0=y.b.getD k 0):x=y:=by
 obtain⟨a,b,hb⟩:=x;obtain⟨c,d,hd⟩:=y;simp only at h1 h2;subst h1
 have:b=d:=by
  refine List.ext_getElem (by omega) λk hk1 hk2=>?_
  have:=h2 k (by omega)
  rw[vM,vM,E3 hk1,E3 hk2]at this
  simpa using this
 subst this;rfl
theorem Rt {l:List Ext}{x:Ext}(h:x∈l):∃k:Nat,l[k]?=some x:=vN.1 h
theorem XD {l:List Ext}(hs:srt l){x:Ext}(hx:x∈l){k:Nat}(hk:k<8):Nw l (x.no*8+k)=x.b.getD k 0:=by
 obtain⟨i,hi⟩:=Rt hx;rw[Wp hs hi (by omega),show((x.no*8+(k:Int)) % 8).toNat=k by omega]
theorem jN {l m:List Ext}(hl:srt l)(hm:srt m)(h1:∀no,BT l no↔BT m no)(h2:∀p,Nw l p=Nw m p):l=m:=by
 have key:∀{l m:List Ext},srt l→srt m→(∀no,BT l no↔BT m no)→(∀p,Nw l p=Nw m p)→∀x,x∈l→x∈m:=by
  intro l m hl hm h1 h2 x hx;obtain⟨y,hy,e⟩:=(h1 x.no).1 ⟨x,hx,rfl⟩
  have:x=y:=XJ e.symm λk hk=>by
   rw[← XD hl hx hk,← XD hm hy hk,h2,e]
  rw[this];exact hy
 exact Zf hl hm λx=>⟨key hl hm h1 h2 x,key hm hl (λno=>(h1 no).symm) (λp=>(h2 p).symm) x⟩
def OU (no:Int):Ext:=⟨no,List.replicate 8 0,by simp⟩
def D7 (l:List Ext)(no:Int):List Ext:=if BT l no then l else l.take (EF l no)++OU no::l.drop (EF l no)
theorem Xd {l:List Ext}{no:Int}{x:Ext}(h:x∈l.take (EF l no)):x.no<no:=by
 obtain⟨k,hk⟩:=Rt h;have h1:=(BE.1 hk).1;rw[uZ]at h1;rw[vI,if_pos (by omega)]at hk;exact V7 (by omega) hk
theorem Xc {l:List Ext}(hs:srt l){no:Int}{x:Ext}(h:x∈l.drop (EF l no)):no≤x.no:=by
 obtain⟨k,hk⟩:=Rt h;rw[vJ]at hk;cases h0:l[EF l no]? with
 | none=>
  have h1:=(BE.1 hk).1;rw[List.getElem?_eq_none_iff]at h0;omega
 | some y=>
  have h2:=YS h0;rcases yI k with h3 | h3
  ·subst h3;rw[wW,h0]at hk;injection hk with hk;rw[← hk];exact h2
  ·have:=Ku hs h0 hk (by omega);omega
theorem GQ {l:List Ext}(hs:srt l)(no:Int):srt (D7 l no):=by
 unfold D7
 split
 ·exact hs
 ·rename_i h
  have hd:∀x∈l.drop (EF l no),no<x.no:=by
   intro x hx;have h1:=Xc hs hx;have h2:x.no≠no:=λe=>h ⟨x,xC hx,e⟩
   omega
  refine xQ.2 ⟨List.Pairwise.sublist (List.take_sublist _ l) hs,xB.2 ⟨hd,List.Pairwise.sublist (List.drop_sublist _ l) hs⟩,?_⟩;intro a ha b hb;have h1:=Xd ha;rcases vX.1 hb with rfl | hb
  ·exact h1
  ·have:=hd b hb;omega
theorem JK {l:List Ext}{no:Int}{x:Ext}:x∈D7 l no↔x∈l∨(¬BT l no∧x=OU no):=by
 unfold D7
 split
 ·rename_i h;simp[h]
 ·rename_i h
  rw[wL,vX];have:x∈l↔x∈l.take (EF l no)∨x∈l.drop (EF l no):=by rw[← wL,wZ]
  rw[this]
  constructor
  ·rintro(h1 | h1 | h1)
   ·exact .inl (.inl h1)
   ·exact .inr ⟨h,h1⟩
   ·exact .inl (.inr h1)
  ·rintro((h1 | h1) | ⟨_,h1⟩)
   ·exact .inl h1
   ·exact .inr (.inr h1)
   ·exact .inr (.inl h1)
theorem LU {l:List Ext}{no a:Int}:BT (D7 l no) a↔BT l a∨a=no:=by
 unfold BT
 constructor
 ·rintro⟨x,hx,e⟩
  rcases JK.1 hx with h | ⟨_,rfl⟩
  ·exact .inl ⟨x,h,e⟩
  ·exact .inr e.symm
 ·rintro(⟨x,hx,e⟩ | rfl)
  ·exact⟨x,JK.2 (.inl hx),e⟩
  ·by_cases h:BT l a
   ·obtain⟨x,hx,e⟩:=h
    exact⟨x,JK.2 (.inl hx),e⟩
   ·exact⟨OU a,JK.2 (.inr ⟨h,rfl⟩),rfl⟩
theorem Jb {l:List Ext}(hs:srt l){x:Ext}(hx:x∈l){p:Int}(h:x.no=p/8):Nw l p=x.b.getD (p % 8).toNat 0:=by
 obtain⟨k,hk⟩:=Rt hx;exact Wp hs hk h
theorem YK {l:List Ext}(hs:srt l)(no p:Int):Nw (D7 l no) p=Nw l p:=by
 by_cases h:BT l (p/8)
 ·obtain⟨x,hx,e⟩:=h
  rw[Jb hs hx e,Jb (GQ hs no) (JK.2 (.inl hx)) e]
 ·rw[EA h]
  by_cases h2:p/8=no
  ·rw[Jb (GQ hs no) (JK.2 (.inr ⟨h2▸h,rfl⟩)) h2.symm]
   have:(p % 8).toNat<8:=by omega
   simp only[OU];rw[vM,List.getElem?_replicate,if_pos this];rfl
  ·exact EA (λh3=>(LU.1 h3).elim h h2)
theorem dV {l:List Ext}(hs:srt l)(no:Int):EF (D7 l no) no=EF l no:=by
 unfold D7
 split
 ·rfl
 ·rename_i h
  have hp:=RB l no;refine R5 (by simp;omega) ?_ ?_
  ·intro m x hm hx
   rw[uY (by rw[uZ];omega),vI,if_pos hm]at hx;exact V7 hm hx
  ·intro x hx
   rw[vC (by rw[uZ];omega),uZ,show EF l no - min (EF l no) l.length=0 by omega]at hx;simp at hx;rw[← hx];simp[OU]
theorem dU {l:List Ext}(hs:srt l)(no:Int):∃x,(D7 l no)[EF l no]?=some x∧x.no=no:=by
 have:=(SA (GQ hs no) (no:=no)).1 (LU.2 (.inr rfl))
 rwa[dV hs]at this
theorem SO (l:List Ext)(no:Int):(D7 l no).length≤l.length+1∧l.length≤(D7 l no).length:=by
 have hp:=RB l no;unfold D7
 split
 ·omega
 ·simp;omega
def Te (x:Ext)(off:Nat)(bs:List UInt8):Ext:=if h:off+bs.length≤8 then⟨x.no,x.b.take off++bs++x.b.drop (off+bs.length),by have:=x.hb;simp;omega⟩else x
theorem YU (x:Ext)(off:Nat)(bs:List UInt8):(Te x off bs).no=x.no:=by unfold Te;split<;>rfl
theorem eM {x:Ext}{off:Nat}{bs:List UInt8}(h:off+bs.length≤8):(Te x off bs).b=x.b.take off++bs++x.b.drop (off+bs.length):=by unfold Te;rw[dif_pos h]
theorem eN {x:Ext}{off:Nat}{bs:List UInt8}(h:off+bs.length≤8){k:Nat}(hk:k<8):(Te x off bs).b.getD k 0=if off≤k∧k<off+bs.length then bs.getD (k - off) 0 else x.b.getD k 0:=by
 have hb:=x.hb;have h1:(x.b.take off).length=off:=by rw[uZ];omega
 rw[eM h];simp only[vM]
 split
 ·rename_i c
  rw[uY (by rw[vE];omega),vC (by omega),h1]
 ·rename_i c
  by_cases c1:k<off
  ·rw[vK,uY (by omega),vI,if_pos c1]
  ·rw[vC (by rw[vE];omega),vE,h1,vJ]
   congr 2;omega
def TU (l:List Ext)(no:Int)(off:Nat)(bs:List UInt8):List Ext:=l.map λx=>if x.no=no then Te x off bs else x
theorem Yh (no:Int)(off:Nat)(bs:List UInt8)(x:Ext):(if x.no=no then Te x off bs else x).no=x.no:=by split;exact YU ..;rfl
abbrev xR:=@List.pairwise_map
theorem Ze {l:List Ext}{f:Ext→Ext}(hf:∀x∈l,(f x).no=x.no)(hs:srt l):srt (l.map f):=by
 unfold srt at*;rw[xR];refine hs.imp_of_mem λha hb h=>?_
 rw[hf _ ha,hf _ hb];exact h
theorem YJ {l:List Ext}{f:Ext→Ext}(hf:∀x∈l,(f x).no=x.no){no:Int}:BT (l.map f) no↔BT l no:=by
 unfold BT
 constructor
 ·rintro⟨y,hy,e⟩
  obtain⟨x,hx,rfl⟩:=vV.1 hy;exact⟨x,hx,by rw[← e,hf x hx]⟩
 ·rintro⟨x,hx,e⟩
  exact⟨f x,vV.2 ⟨x,hx,rfl⟩,by rw[← e,hf x hx]⟩
theorem YX {l:List Ext}(hs:srt l)(no:Int)(off:Nat)(bs:List UInt8):srt (TU l no off bs):=Ze (λx _=>Yh ..) hs
theorem YW {l:List Ext}{no a:Int}{off:Nat}{bs:List UInt8}:BT (TU l no off bs) a↔BT l a:=YJ (λx _=>Yh ..)
theorem nI {l:List Ext}(hs:srt l){no:Int}{off:Nat}{bs:List UInt8}(h:off+bs.length≤8)(hn:BT l no)(p:Int):
  Nw (TU l no off bs) p=if no*8+off≤p∧p<no*8+off+bs.length then bs.getD (p - (no*8+off)).toNat 0 else Nw l p:=by
 by_cases h0:BT l (p/8)
 ·obtain⟨x,hx,e⟩:=h0
  rw[Jb (x:=if x.no=no then Te x off bs else x) (YX hs no off bs) (vV.2 ⟨x,hx,rfl⟩) (by rw[Yh];exact e),Jb hs hx e]
  by_cases c:x.no=no
  ·rw[if_pos c,eN h (by omega)]
   by_cases c2:no*8+off≤p∧p<no*8+off+bs.length
   ·rw[if_pos c2,if_pos (by omega)];congr 1;omega
   ·rw[if_neg c2,if_neg (by omega)]
  ·rw[if_neg c,if_neg (by omega)]
 ·rw[EA (by rw[YW];exact h0),EA h0,if_neg]
  intro c;have:p/8=no:=by omega
  exact h0 (this▸hn)
theorem jC {l:List Ext}(hs:srt l){k:Nat}{x:Ext}(hx:l[k]?=some x)(off:Nat)(bs:List UInt8):l.set k (Te x off bs)=TU l x.no off bs:=by
 refine wH λi=>?_
 unfold TU;rw[wA,wQ];have hk:=(BE.1 hx).1
 by_cases h:k=i
 ·subst h
  obtain⟨h1,h2⟩:=BE.1 hx;simp[hk,h2]
 ·rw[if_neg h]
  cases hi:l[i]? with
  | none=>rfl
  | some y=>
   have:y.no≠x.no:=by
    rcases Nat.lt_or_gt_of_ne h with h | h
    ·have:=Ku hs hx hi h;omega
    ·have:=Ku hs hi hx h;omega
   simp[this]
def Du (l:List Ext)(p:Int)(bs:List UInt8):List Ext:=TU (D7 l (p/8)) (p/8) (p % 8).toNat bs
theorem XY {l:List Ext}(hs:srt l)(p:Int)(bs:List UInt8):srt (Du l p bs):=YX (GQ hs _) ..
theorem dY {l:List Ext}{p a:Int}{bs:List UInt8}:BT (Du l p bs) a↔BT l a∨a=p/8:=by unfold Du;rw[YW,LU]
theorem kJ {l:List Ext}(hs:srt l){p:Int}{bs:List UInt8}(h:p % 8+bs.length≤8)(q:Int):Nw (Du l p bs) q=if p≤q∧q<p+bs.length then bs.getD (q - p).toNat 0 else Nw l q:=by
 unfold Du;rw[nI (GQ hs _) (by omega) (LU.2 (.inr rfl)),YK hs,show p/8*8+((p % 8).toNat:Int)=p by omega]
def BO (l:List Ext)(p:Int):List UInt8→List Ext
 | []=>l
 | b::r=>BO (Du l p [b]) (p+1) r
theorem VM:∀{bs:List UInt8} {l:List Ext} (hs:srt l) (p:Int),srt (BO l p bs)
 | [],l,hs,p=>hs
 | b::r,l,hs,p=>VM (XY hs p [b]) (p+1)
theorem Qd:∀{bs:List UInt8} {l:List Ext} {p a:Int},BT (BO l p bs) a↔BT l a∨∃q,p≤q∧q<p+bs.length∧a=q/8
 | [],l,p,a=>by
  unfold BO;simp only[xP];exact⟨.inl,λh=>h.elim id fun ⟨q,h1,h2,_⟩=>by omega⟩
 | b::r,l,p,a=>by
  unfold BO;rw[Qd,dY];simp only[vR]
  constructor
  ·rintro((h | h) | ⟨q,h1,h2,h3⟩)
   ·exact .inl h
   ·exact .inr ⟨p,by omega,by omega,h⟩
   ·exact .inr ⟨q,by omega,by omega,h3⟩
  ·rintro(h | ⟨q,h1,h2,h3⟩)
   ·exact .inl (.inl h)
   ·by_cases c:q=p
    ·exact .inl (.inr (c▸h3))
    ·exact .inr ⟨q,by omega,by omega,h3⟩
theorem Zh:∀{bs:List UInt8} {l:List Ext} (hs:srt l) (p q:Int),Nw (BO l p bs) q=if p≤q∧q<p+bs.length then bs.getD (q - p).toNat 0 else Nw l q
 | [],l,hs,p,q=>by
  unfold BO;rw[if_neg (by simp only[xP];omega)]
 | b::r,l,hs,p,q=>by
  unfold BO;rw[Zh (XY hs p [b]),kJ hs (by simp only[sW];omega)];simp only[sW]
  by_cases c:p+1≤q∧q<p+1+r.length
  ·rw[if_pos c,if_pos (by omega),show(q - p).toNat=(q - (p+1)).toNat+1 by omega];rfl
  ·rw[if_neg c]
   by_cases c2:p=q
   ·subst c2
    rw[if_pos (by omega),if_pos (by omega)];simp
   ·rw[if_neg (by omega),if_neg (by omega)]
theorem Yo:∀{bs cs:List UInt8} {l:List Ext} {p:Int},BO l p (bs++cs)=BO (BO l p bs) (p+bs.length) cs
 | [],cs,l,p=>by simp[BO]
 | b::r,cs,l,p=>by
  show BO (Du l p [b]) (p+1) (r++cs)=BO (BO (Du l p [b]) (p+1) r) (p+(r.length+1:Nat)) cs
  rw[Yo];congr 1;omega
theorem nZ {l:List Ext}(hs:srt l){p:Int}{bs:List UInt8}(h:p % 8+bs.length≤8)(hb:bs≠[]):Du l p bs=BO l p bs:=by
 have hlen:0<bs.length:=List.length_pos_iff.2 hb;refine jN (XY hs p bs) (VM hs p) (λa=>?_) (λq=>?_)
 ·rw[dY,Qd]
  refine or_congr_right ⟨λh1=>⟨p,by omega,by omega,h1⟩,?_⟩;rintro⟨q,h1,h2,rfl⟩;omega
 ·rw[kJ hs h,Zh hs]
theorem fS:∀{bs:List UInt8} {l:List Ext} {p:Int},(BO l p bs).length≤l.length+bs.length
 | [],l,p=>by simp[BO]
 | b::r,l,p=>by
  unfold BO;have h1:=fS (bs:=r) (l:=Du l p [b]) (p:=p+1);have h2:(Du l p [b]).length=(D7 l (p/8)).length:=by simp[Du,TU]
  have h3:=(SO l (p/8)).1;simp only[vR];omega
theorem RV {size:Int}:∀{b:List UInt8} {p:Int},cleanB size p b↔∀k:Nat,k<b.length→size≤p+k→b.getD k 0=0
 | [],p=>by simp[cleanB]
 | x::r,p=>by
  unfold cleanB;rw[RV]
  constructor
  ·rintro⟨h1,h2⟩ k hk hs
   cases k with
   | zero=>
    simp
    by_cases c:x=0
    ·exact c
    ·have:=h1 c;omega
   | succ k=>
    have:=h2 k (by simpa using hk) (by omega)
    simpa using this
  ·intro h
   refine⟨λhx=>?_,λk hk hs=>?_⟩
   ·have:=h 0 (by simp)
    simp at this
    by_cases c:p<size
    ·exact c
    ·exact absurd (this (by omega)) hx
   ·have:=h (k+1) (by simpa using hk) (by omega)
    simpa using this
theorem RW {size:Int}{x:Ext}:Hd size x↔∀k:Nat,k<8→size≤x.no*8+k→x.b.getD k 0=0:=by
 have:=RV (size:=size) (b:=x.b) (p:=x.no*8)
 rw[x.hb]at this;exact this
theorem YO {size:Int}:∀{l:List Ext} {p:Int},okL size p l↔srt l∧∀x∈l,p<x.no∧x.no<137438953472∧Hd size x
 | [],p=>by simp[okL,srt]
 | x::r,p=>by
  rw[OZ,YO]
  constructor
  ·rintro⟨h1,h2,h3,h4,h5⟩
   refine⟨xB.2 ⟨λy hy=>(h5 y hy).1,h4⟩,λy hy=>?_⟩;rcases vX.1 hy with rfl | hy
   ·exact⟨h1,h2,h3⟩
   ·have:=h5 y hy;exact⟨by omega,this.2⟩
  ·rintro⟨h1,h2⟩
   have h1':=xB.1 h1;have h3:=h2 x (by simp);refine⟨h3.1,h3.2.1,h3.2.2,h1'.2,λy hy=>?_⟩
   have:=h2 y (by simp[hy])
   exact⟨h1'.1 y hy,this.2⟩
theorem nA {size:Int}{l:List Ext}:okL size (-1) l↔srt l∧(∀no,BT l no→0≤no∧no<137438953472)∧∀p,size≤p→Nw l p=0:=by
 rw[YO]
 constructor
 ·rintro⟨hs,h⟩
  refine⟨hs,?_,λp hp=>?_⟩
  ·rintro no ⟨x,hx,rfl⟩
   have:=h x hx;omega
  ·by_cases c:BT l (p/8)
   ·obtain⟨x,hx,e⟩:=c
    rw[Jb hs hx e];exact RW.1 (h x hx).2.2 _ (by omega) (by omega)
   ·exact EA c
 ·rintro⟨hs,h1,h2⟩
  refine⟨hs,λx hx=>?_⟩
  have:=h1 x.no ⟨x,hx,rfl⟩
  refine⟨by omega,this.2,RW.2 λk hk hz=>?_⟩;rw[← XD hs hx hk];exact h2 _ hz
def Es (x:Ext)(a b:Int):Ext:=⟨x.no,x.b.mapIdx λk y=>if a≤x.no*8+(k:Int)∧x.no*8+(k:Int)<b then 0 else y,by have:=x.hb;simpa using this⟩
theorem HL {x:Ext}{a b:Int}{k:Nat}(hk:k<8):(Es x a b).b.getD k 0=if a≤x.no*8+(k:Int)∧x.no*8+(k:Int)<b then 0 else x.b.getD k 0:=by
 have hb:=x.hb;unfold Es;simp only[vM,List.getElem?_mapIdx];rw[E3 (show k<x.b.length by omega)];rfl
def Nr (l:List Ext)(a b:Int):List Ext:=l.map λx=>Es x a b
theorem Tv {l:List Ext}(hs:srt l)(a b:Int):srt (Nr l a b):=Ze (λ_ _=>rfl) hs
theorem Tu {l:List Ext}{a b no:Int}:BT (Nr l a b) no↔BT l no:=YJ (f:=λx=>Es x a b) (λ_ _=>rfl)
theorem Zg {l:List Ext}(hs:srt l)(a b p:Int):Nw (Nr l a b) p=if a≤p∧p<b then 0 else Nw l p:=by
 by_cases h:BT l (p/8)
 ·obtain⟨x,hx,e⟩:=h
  rw[Jb (x:=Es x a b) (Tv hs a b) (vV.2 ⟨x,hx,rfl⟩) e,Jb hs hx e,HL (by omega)];rw[show x.no*8+((p % 8).toNat:Int)=p by omega]
 ·rw[EA h,EA (by rw[Tu];exact h)];split<;>rfl
theorem Ig {l:List Ext}(hs:srt l)(f:Ext→Bool):srt (l.filter f):=List.Pairwise.filter f hs
theorem Kh {l:List Ext}{f:Int→Bool}{no:Int}:BT (l.filter λx=>f x.no) no↔BT l no∧f no=true:=by
 unfold BT
 constructor
 ·rintro⟨x,hx,rfl⟩
  rw[xY]at hx;exact⟨⟨x,hx.1,rfl⟩,hx.2⟩
 ·rintro⟨⟨x,hx,rfl⟩,h⟩
  exact⟨x,xY.2 ⟨hx,h⟩,rfl⟩
theorem Up {l:List Ext}(hs:srt l){f:Int→Bool}(p:Int):Nw (l.filter λx=>f x.no) p=if f (p/8)=true then Nw l p else 0:=by
 by_cases h:BT l (p/8)
 ·obtain⟨x,hx,e⟩:=h
  split
  ·rename_i c
   rw[Jb (Ig hs _) (xY.2 ⟨hx,by rw[e];exact c⟩) e,Jb hs hx e]
  ·rename_i c
   exact EA (λh2=>c (Kh.1 h2).2)
 ·rw[EA h,EA (λh2=>h (Kh.1 h2).1)];split<;>rfl
def Ix (l:List Ext)(size:Int):List Ext:=Nr (l.filter λx=>decide (x.no*8<size)) size 1099511627776
theorem nW {l:List Ext}(hs:srt l)(size:Int):srt (Ix l size):=Tv (Ig hs _) _ _
theorem nV {l:List Ext}{size no:Int}:BT (Ix l size) no↔BT l no∧no*8<size:=by
 unfold Ix;rw[Tu,Kh (f:=λno=>decide (no*8<size))];simp
theorem rF {l:List Ext}(hs:srt l){size:Int}(h:∀no,BT l no→no<137438953472)(p:Int):Nw (Ix l size) p=if p<size then Nw l p else 0:=by
 unfold Ix;rw[Zg (Ig hs _),Up hs (f:=λno=>decide (no*8<size))]
 by_cases c:p<size
 ·rw[if_neg (by omega),if_pos c,if_pos (by simp;omega)]
 ·rw[if_neg c]
  by_cases c2:p<1099511627776
  ·rw[if_pos ⟨by omega,c2⟩]
  ·rw[if_neg (by omega),EA]
   ·split<;>rfl
   ·intro h2;have:=h _ h2;omega
def gone (pos n no:Int):Bool:=decide (pos≤no*8)&&decide (no*8+8≤pos+n)
def Ji (l:List Ext)(pos n:Int):List Ext:=Nr (l.filter λx=>!gone pos n x.no) pos (pos+n)
theorem nG {l:List Ext}(hs:srt l)(pos n:Int):srt (Ji l pos n):=Tv (Ig hs _) _ _
theorem nF {l:List Ext}{pos n no:Int}:BT (Ji l pos n) no↔BT l no∧¬(pos≤no*8∧no*8+8≤pos+n):=by
 unfold Ji;rw[Tu,Kh (f:=λno=>!gone pos n no)];simp[gone];intro _;omega
theorem qZ {l:List Ext}(hs:srt l)(pos n p:Int):Nw (Ji l pos n) p=if pos≤p∧p<pos+n then 0 else Nw l p:=by
 unfold Ji;rw[Zg (Ig hs _),Up hs (f:=λno=>!gone pos n no)]
 split
 ·rfl
 ·rename_i c
  split
  ·rfl
  ·rename_i c2
   simp[gone]at c2;omega
def F5 (l:List Ext)(no:Int):Nat→List Ext
 | 0=>l
 | k+1=>F5 (D7 l no) (no+1) k
theorem Ya:∀{k:Nat} {l:List Ext} (hs:srt l) (no:Int),srt (F5 l no k)
 | 0,l,hs,no=>hs
 | k+1,l,hs,no=>Ya (k:=k) (GQ hs no) (no+1)
theorem dZ:∀{k:Nat} {l:List Ext} {no a:Int},BT (F5 l no k) a↔BT l a∨(no≤a∧a<no+k)
 | 0,l,no,a=>by unfold F5;exact⟨.inl,λh=>h.elim id λh=>by omega⟩
 | k+1,l,no,a=>by
  unfold F5;rw[dZ,LU]
  constructor
  ·rintro((h | h) | h)
   ·exact .inl h
   ·exact .inr (by omega)
   ·exact .inr (by omega)
  ·rintro(h | h)
   ·exact .inl (.inl h)
   ·by_cases c:a=no
    ·exact .inl (.inr c)
    ·exact .inr (by omega)
theorem kK:∀{k:Nat} {l:List Ext} (hs:srt l) (no p:Int),Nw (F5 l no k) p=Nw l p
 | 0,l,hs,no,p=>rfl
 | k+1,l,hs,no,p=>by
  unfold F5;rw[kK (GQ hs no),YK hs]
theorem YM:∀{k:Nat} {l:List Ext} {no:Int},F5 l no (k+1)=D7 (F5 l no k) (no+k)
 | 0,l,no=>by simp[F5]
 | k+1,l,no=>by
  show F5 (D7 l no) (no+1) (k+1)=_
  rw[YM (k:=k)]
  show D7 (F5 (D7 l no) (no+1) k) (no+1+k)=D7 (F5 (D7 l no) (no+1) k) (no+(k+1:Nat))
  congr 1;omega
theorem XZ:∀{k:Nat} {l:List Ext} {no:Int},(F5 l no k).length≤l.length+k∧l.length≤(F5 l no k).length
 | 0,l,no=>by simp[F5]
 | k+1,l,no=>by
  unfold F5;have h1:=XZ (k:=k) (l:=D7 l no) (no:=no+1);have h2:=SO l no;omega
def allocN (pos n:Int):Nat:=((pos+n - 1)/8 - pos/8+1).toNat
def Nu (l:List Ext)(pos n:Int):List Ext:=F5 l (pos/8) (allocN pos n)
abbrev FM:=Int×List Ext
def F4 (c:FM)(pos:Int)(bs:List UInt8):Option FM:=
 if E4 c.1 c.2∧0≤pos∧bs.length≤4096∧pos≤1099511627776 - bs.length then some (if bs=[]then c else(max c.1 (pos+bs.length),BO c.2 pos bs))else none
def Di (c:FM)(size:Int):Option FM:=if E4 c.1 c.2∧0≤size∧size≤1099511627776 then some (size,Ix c.2 size)else none
def FO (c:FM)(pos n:Int)(keep:Bool):Option FM:=
 if E4 c.1 c.2∧0≤pos∧1≤n∧n≤32768∧pos≤1099511627776 - n then some (if keep then c.1 else max c.1 (pos+n),Nu c.2 pos n)else none
def Hi (c:FM)(pos n:Int):Option FM:=
 if E4 c.1 c.2∧0≤pos∧1≤n∧n≤1099511627776∧pos≤1099511627776 - n then some (c.1,Ji c.2 pos n)else none
theorem Ko {size:Int}{l:List Ext}:E4 size l↔0≤size∧size≤1099511627776∧srt l∧(∀no,BT l no→0≤no∧no<137438953472)∧∀p,size≤p→Nw l p=0:=by
 unfold E4;rw[nA]
theorem U0 {c d:FM}{pos:Int}{bs:List UInt8}(h:F4 c pos bs=some d):E4 d.1 d.2:=by
 unfold F4 at h;split at h
 ·rename_i g
  injection h with h;subst h
  split
  ·exact g.1
  ·rename_i hb
   have hlen:0<bs.length:=List.length_pos_iff.2 hb;obtain⟨g1,g2,g3,g4⟩:=g;rw[Ko]at g1⊢;obtain⟨a1,a2,a3,a4,a5⟩:=g1;refine⟨by simp only;omega,by simp only;omega,VM a3 pos,?_,?_⟩
   ·intro no hno
    rcases Qd.1 hno with h | ⟨q,h1,h2,h3⟩
    ·exact a4 no h
    ·omega
   ·intro p hp
    simp only at hp;rw[Zh a3,if_neg (by omega)];exact a5 p (by omega)
 ·cases h
theorem ZN {c d:FM}{size:Int}(h:Di c size=some d):E4 d.1 d.2:=by
 unfold Di at h;split at h
 ·rename_i g
  injection h with h;subst h;obtain⟨g1,g2,g3⟩:=g;rw[Ko]at g1⊢;obtain⟨a1,a2,a3,a4,a5⟩:=g1;refine⟨g2,g3,nW a3 size,λno hno=>a4 no (nV.1 hno).1,λp hp=>?_⟩;rw[rF a3 (λno h=>(a4 no h).2),if_neg (by simp only at hp;omega)]
 ·cases h
theorem ZL {c d:FM}{pos n:Int}{keep:Bool}(h:FO c pos n keep=some d):E4 d.1 d.2:=by
 unfold FO at h;split at h
 ·rename_i g
  injection h with h;subst h;obtain⟨g1,g2,g3,g4,g5⟩:=g;rw[Ko]at g1⊢;obtain⟨a1,a2,a3,a4,a5⟩:=g1;refine⟨by simp only;split<;>omega,by simp only;split<;>omega,Ya a3 _,λno hno=>?_,λp hp=>?_⟩
  ·rcases dZ.1 hno with h | h
   ·exact a4 no h
   ·unfold allocN at h;omega
  ·unfold Nu
   rw[kK a3];refine a5 p ?_;simp only at hp;split at hp<;>omega
 ·cases h
theorem ZM {c d:FM}{pos n:Int}(h:Hi c pos n=some d):E4 d.1 d.2:=by
 unfold Hi at h;split at h
 ·rename_i g
  injection h with h;subst h;obtain⟨g1,g2,g3,g4,g5⟩:=g;rw[Ko]at g1⊢;obtain⟨a1,a2,a3,a4,a5⟩:=g1;refine⟨a1,a2,nG a3 _ _,λno hno=>a4 no (nF.1 hno).1,λp hp=>?_⟩;rw[qZ a3]
  split
  ·rfl
  ·exact a5 p hp
 ·cases h
theorem AJ {v:AV}(h:AM v=true):oneA v=true:=by
 unfold AM at h;split at h
 ·rfl
 ·rfl
 ·rfl
 ·cases h
theorem Gy {α:Type}{enc:α→List AV}{sz:Nat}(hsz:∀x,(enc x).length=sz):∀(l:List α) (i:Nat),(l.flatMap enc).take (i*sz)=(l.take i).flatMap enc
 | [],i=>by simp
 | a::l,0=>by simp
 | a::l,i+1=>by
  have ha:=hsz a;rw[zI,vW,vW,← Gy hsz l i,show(i+1)*sz=(enc a).length+i*sz by rw[ha,wG];omega,List.take_length_add_append]
abbrev yO:=@List.drop_succ_cons
theorem Gx {α:Type}{enc:α→List AV}{sz:Nat}(hsz:∀x,(enc x).length=sz):∀(l:List α) (i:Nat),(l.flatMap enc).drop (i*sz)=(l.drop i).flatMap enc
 | [],i=>by simp
 | a::l,0=>by simp
 | a::l,i+1=>by
  have ha:=hsz a;rw[yO,vW,← Gx hsz l i,show(i+1)*sz=(enc a).length+i*sz by rw[ha,wG];omega,List.drop_length_add_append]
def Grew (H H':AH):Prop:=H.length≤H'.length∧∀i,i<H.length→H'[i]?=H[i]?
theorem Grew.refl (H:AH):Grew H H:=⟨vB _,λ_ _=>rfl⟩
theorem Grew.trans {A B C:AH}(h:Grew A B)(k:Grew B C):Grew A C:=⟨vO h.1 k.1,λi hi=>(k.2 i (vY hi h.1)).trans (h.2 i hi)⟩
theorem Grew.app (H X:AH):Grew H (H++X):=⟨by simp,λi hi=>uY hi⟩
theorem Grew.cells {H H':AH}(h:Grew H H'){o:Nat}{x:Option AObj}(ho:H[o]?=some x):H'[o]?=some x:=by
 rw[h.2 o (BE.1 ho).1];exact ho
theorem Grew.slice {H H':AH}(h:Grew H H'){sz:Nat}{v:AV}{q:List AV×Nat}(hv:Aa H sz v=some q):Aa H' sz v=some q:=
 Ae hv λi hi=>h.2 i (Ax hv i hi)
theorem Kp {H:AH}{sz:Nat}{v:AV}{cs:List AV}{n:Nat}(h:Aa H sz v=some (cs,n)):(v=Ac∧cs=[]∧n=0)∨UQ .eql MA v Ac=some (B false):=by
 unfold Aa at h;split at h
 ·exact .inr rfl
 ·exact .inr rfl
 ·injection h with h;injection h with h1 h2;exact .inl ⟨rfl,h1.symm,h2.symm⟩
 ·exact .inr rfl
 ·cases h
theorem Qr {H:AH}{v:AV}{cs:List AV}{n:Nat}(h:Aa H 9 v=some (cs,n))(hn:n≤1000000000):
  ∃r H',(AM r=true∧Aa H' 9 r=some (cs,n)∧Grew H H'∧∀i∈AR r,H.length≤i)∧BCall prog 95 [v] H r H':=Gf (by
 unfold Eb;rcases Kp h with⟨rfl,rfl,rfl⟩ | hb
 ·have e:UQ .eql MA Ac Ac=some (B true):=rfl
  simp only[e,sY,Aq];exact⟨rfl,h,Grew.refl H,by simp[AR]⟩
 ·simp only[hb,sY,Ai]
  have e:Cg H 9 0 (AZ [(I 0),u0Z,u0Z,u0Z,u0Z,u0Z,u0Z,u0Z,u0Z] 0) []=some (.sl H.length 0 0 9 (.ex 0),H++[some (.cells [])]):=rfl;simp only[e,Az];have g:=Grew.app H [some (.cells [])];obtain⟨r,H2,a1,a2,a3,a4,a5,a6⟩:=Ek (sz:=9) (bytes:=16) (H:=H++[some (.cells [])]) (v:=.sl H.length 0 0 9 (.ex 0)) (cs:=[]) (n:=0) (by simp[Aa]) rfl (AI (g.slice h)) (by omega);simp only[a1,Az];refine⟨a2,by simpa using a3,⟨by simp at a4;omega,λi hi=>?_⟩,λi hi=>?_⟩
  ·rw[a5 i (by simp;omega) (by simp[AR];omega)]
   exact g.2 i hi
  ·rcases a6 i hi with h | h
   ·simp[AR]at h;omega
   ·simp at h;omega)
theorem Ol {H:AH}{size:Int}{v:AV}{cs:List AV}{n:Nat}(h:Aa H 9 v=some (cs,n))(h1:oneA v=true)(hn:n≤1000000000):
  ∃r H',(∃w,r=.agg [I size,w]∧AM w=true∧Aa H' 9 w=some (cs,n)∧Grew H H'∧∀i∈AR w,H.length≤i)∧BCall prog 103 [.agg [I size,v]] H r H':=PF (by
 unfold MW;have g:=Grew.app H [some (.cells [I size,v]),some (.cells [I 0,Ac])];obtain⟨w,H2,⟨a2,a3,a4,a5⟩,a1⟩:=Qr (g.slice h) hn;have c0:=a4.cells (o:=H.length) (x:=some (.cells [I size,v])) (by simp);have c1:=a4.cells (o:=H.length+1) (x:=some (.cells [I 0,Ac])) (by rw[vC (by omega)];simp);have l2:H.length+2≤H2.length:=by have:=a4.1;simpa using this
 have hw:=AJ a2;simp[h1];refine bC_of a1 ?_;simp[AL hw];rw[A7 (n:=2) (off:=0) (x:=.agg [I size,w]) (xs:=[I size,w]) (cs:=[I 0,Ac]) (by simp[hw]) c1 rfl (by simp)];simp[show H.length+1<H2.length by omega,c0,Al];refine⟨a2,Ae a3 λi hi=>C3 ?_,?_,λi hi=>?_⟩
 ·have:=a5 i hi;simp at this;omega
 ·refine⟨by simp;omega,λi hi=>?_⟩
  rw[C3 (by omega),a4.2 i (by simp;omega),g.2 i hi]
 ·have:=a5 i hi;simp at this;omega)
theorem iK {H:AH}{s:AV}{cs:List AV}{n ov i:Nat}{x:Ext}(hs:Aa H 9 s=some (cs,n))(ho:AM s=true)(hi:i≤n)(hn:n≤100000000)(hv:H[ov]?=some (some (.cells (Aw x))))(hne:ov∉AR s):
  ∃r H',oO H s (cs.take (i*9)++Aw x++cs.drop (i*9)) n r H'∧BCall prog 222 [s,I i,.sl ov 0 1 9 (.ex 1)] H r H':=by
 have hcl:=BU hs;rcases vF i n with h | h
 ·obtain⟨o,off,cap,cells,rfl,h1,h2,rfl⟩:=GT hs ho (by omega)
  have hov:ov≠o:=by simpa[AR]using hne
  have hol:=(BE.1 h1).1;have hxl:=A2 x;have e1:((cells.drop off).take (n*9)).take (i*9)=(cells.drop off).take (i*9):=by rw[wY];congr 1;omega
  have e2:((cells.drop off).take (n*9)).drop (i*9)=(cells.drop (off+i*9)).take ((n - i)*9):=by rw[xU,wX];congr 1;omega
  refine⟨_,_,?_,dG h1 h2 h hn hv hov⟩;rw[e1,e2];refine⟨rfl,?_,by simp,λj hj hn=>?_,λj hj=>.inr (by simp[AR]at hj;omega)⟩
  ·rw[A9 (c:=(cells.drop off).take (i*9)++Aw x++(cells.drop (off+i*9)).take ((n - i)*9)) (by rw[vC (by simp)];simp) (by simp;omega)]
   rw[vZ,vA (by simp;omega)]
  ·rw[uY (by simpa using hj),C3 (by simp[AR]at hn;omega)]
 ·have:i=n:=by omega
  subst this;obtain⟨r,H',h1,h2⟩:=dF hs ho hn hv;refine⟨r,H',?_,h2⟩;rw[vA (by omega),vP (by omega),wI];exact h1
def jT (H:AH)(oc:Nat)(size:Int)(v:AV)(l:List Ext)(H':AH):Prop:=
 ∃v',H'[oc]?=some (some (.cells [I size,v']))∧Aa H' 9 v'=some (l.flatMap Aw,l.length)∧AM v'=true∧oc∉AR v'∧H.length≤H'.length∧(∀i,i<H.length→i≠oc→i∉AR v→H'[i]?=H[i]?)∧∀i∈AR v',i∈AR v∨H.length≤i
theorem WD (no:Int):Aw (OU no)=[I no,.lit (.int .u8 0),.lit (.int .u8 0),.lit (.int .u8 0),.lit (.int .u8 0),.lit (.int .u8 0),.lit (.int .u8 0),.lit (.int .u8 0),.lit (.int .u8 0)]:=rfl
theorem LB {H:AH}{oc:Nat}{size no:Int}{v:AV}{l:List Ext}(hc:H[oc]?=some (some (.cells [I size,v])))(hv:Aa H 9 v=some (l.flatMap Aw,l.length))(ho:AM v=true)(hne:oc∉AR v)(hs:srt l)(hl:l.length≤100000000):
  ∃H',jT H oc size v (D7 l no) H'∧BCall prog 202 [.ptr oc 0,I no] H (I (EF l no)) H':=by
 have key:∃r H',(r=I (EF l no)∧jT H oc size v (D7 l no) H')∧BCall prog 202 [.ptr oc 0,I no] H r H':=Su (by
  unfold Qu;have hol:=(BE.1 hc).1;obtain⟨R,hR,fR⟩:=FZ.sv hv (Dv λx _=>F6 x);have h1:=AJ ho;simp[hc];refine bP_of (PCall.lend (FZs.cons fR (FZs.cons (FZ.lit _) FZs.nil)) rfl (Sv hR hs (by omega) no)) ?_;simp
  by_cases hh:BT l no
  ·have e:D7 l no=l:=if_pos hh
   simp[hh];rw[IL];unfold Gw;rw[e];exact⟨rfl,v,hc,hv,ho,hne,vB _,λ_ _ _ _=>rfl,λi hi=>.inl hi⟩
  ·have e:D7 l no=l.take (EF l no)++OU no::l.drop (EF l no):=if_neg hh
   simp[hh];have g:=Grew.app H [some (.cells (Aw (OU no)))];obtain⟨r,H2,⟨b1,b2,b3,b4,b5⟩,a1⟩:=iK (x:=OU no) (ov:=H.length) (g.slice hv) ho (RB l no) hl (by simp) (λh=>by have:=Ax hv _ h;omega);rw[← WD];refine bC_of a1 ?_
   have c2:H2[oc]?=some (some (.cells [I size,v])):=by
    rw[b4 oc (by simp;omega) hne];exact g.cells hc
   have hr:=AJ b1;have hol2:=(BE.1 c2).1;rw[A7 (n:=1) (off:=1) (xs:=[r]) (cs:=[I size,v]) (AL hr) c2 rfl (by simp)];simp;rw[IL];unfold Gw;have hoc:oc∉AR r:=λh=>(b5 oc h).elim hne (λh=>by simp at h;omega)
   refine⟨rfl,r,by simp[hol2],?_,b1,hoc,by simp at b3;simp;omega,λi hi h1 h2=>?_,λi hi=>(b5 i hi).imp id (λh=>by simp at h;omega)⟩
   ·rw[Ae b2 (λi hi=>C3 (fun (h:oc=i)=>hoc (h▸hi)))]
    rw[Gy A2,Gx A2,e,xD,vW,vK]
    have:=RB l no
    simp;omega
   ·rw[C3 (by omega),b4 i (by simp;omega) h2]
    exact g.2 i hi)
 obtain⟨r,H',⟨rfl,h1⟩,h2⟩:=key;exact⟨H',h1,h2⟩
section
variable {κ α : Type} {c : κ→κ→Int} {key : α→κ}
theorem UH (hc:KO c){l:List α}{x:α}:BX c key (l++[x])↔BX c key l∧∀y,l.getLast?=some y→c (key y) (key x)<0:=by
 unfold BX;rw[xQ]
 constructor
 ·rintro⟨h1,-,h3⟩
  exact⟨h1,λy hy=>h3 y (List.mem_of_getLast? hy) x (by simp)⟩
 ·rintro⟨h1,h2⟩
  refine⟨h1,List.pairwise_singleton _ _,λa ha b hb=>?_⟩;rw[xA]at hb;subst hb;obtain⟨m,hm⟩:=vN.1 ha;have hl:=(BE.1 hm).1;have hy:l.getLast?=some (l[l.length - 1]):=by rw[List.getLast?_eq_getElem?,E3 (by omega)]
  have h3:=h2 _ hy;rcases vF m (l.length - 1)with h | h
  ·exact hc.trans _ _ _ (Iu h1 hm (E3 (by omega)) h) h3
  ·have:m=l.length - 1:=by omega
   subst this;rw[E3 (by omega)]at hm;injection hm with hm;rw[← hm];exact h3
end
def aM (l:List Nm):Prop:=(∀x∈l,FX x.name∧1≤x.ino∧x.ino≤4611686018427387904)∧BX AX Nm.name l∧(l.map Nm.ino).Nodup
instance (l:List Nm):Decidable (aM l):=by unfold aM;infer_instance
def OQ (l:List Nm):Prop:=l.length≤16∧aM l
instance (l:List Nm):Decidable (OQ l):=by unfold OQ;infer_instance
abbrev wF:=@List.mem_map_of_mem
theorem SX {l:List Nm}{x:Nm}:aM (l++[x])↔aM l∧(FX x.name∧(∀y,l.getLast?=some y→AX y.name x.name<0)∧1≤x.ino∧x.ino≤4611686018427387904∧¬AO Nm.ino l x.ino):=by
 unfold aM;rw[UH koN,wT,List.nodup_append];simp only[tG,uL,xL,List.not_mem_nil,not_false_eq_true,zJ,and_self,true_and]
 constructor
 ·rintro⟨h1,⟨h2,h3⟩,h4,h5⟩
  refine⟨⟨λy hy=>h1 y (.inl hy),h2,h4⟩,(h1 x (.inr rfl)).1,h3,(h1 x (.inr rfl)).2.1,(h1 x (.inr rfl)).2.2,?_⟩;rintro⟨y,hy,e⟩;exact h5 y.ino (wF hy) x.ino rfl e
 ·rintro⟨⟨h1,h2,h4⟩,h5,h6,h7,h8,h9⟩
  refine⟨?_,⟨h2,h6⟩,h4,?_⟩
  ·rintro y (hy | rfl)
   ·exact h1 y hy
   ·exact⟨h5,h7,h8⟩
  ·rintro a ha b rfl e
   obtain⟨y,hy,e2⟩:=vV.1 ha;exact h9 ⟨y,hy,by rw[e2,e]⟩
theorem iV {a b:List Nm}(h:aM (a++b)):aM a:=by
 unfold aM at h⊢;refine⟨λx hx=>h.1 x (by simp[hx]),(xQ.1 h.2.1).1,?_⟩
 have:=h.2.2
 rw[wT,List.nodup_append]at this;exact this.1
def PQ (l:List Nm):List (Int×AV):=l.map λx=>(x.ino,B true)
theorem Uw (l:List Nm)(k:Int):WM (B false) (PQ l) k=B (decide (AO Nm.ino l k)):=by
 induction l with
 | nil=>simp[WM,PQ,AO]
 | cons a l ih=>
  unfold WM PQ at ih⊢;rw[xS]
  by_cases h:a.ino=k
  ·rw[List.find?_cons_of_pos (by simp[h])]
   have:AO Nm.ino (a::l) k:=⟨a,by simp,h⟩;simp[this]
  ·rw[List.find?_cons_of_neg (by simp[h]),ih]
   have:AO Nm.ino (a::l) k↔AO Nm.ino l k:=by
    unfold AO;simp[h]
   simp[this]
theorem ZW {l:List Nm}{x:Nm}(h:¬AO Nm.ino l x.ino):jB (PQ l) x.ino (B true)=PQ (l++[x]):=by
 unfold jB
 have:(PQ l).findIdx? (λp=>p.1==x.ino)=none:=by
  rw[xO];intro p hp;obtain⟨y,hy,rfl⟩:=vV.1 hp;simp only[beq_eq_false_iff_ne,ne_eq];exact λe=>h ⟨y,hy,e⟩
 rw[this];simp[PQ]
def oP (H:AH)(l:List Nm)(r:AV)(H':AH):Prop:=Grew H H'∧
 (OQ l→∃o,r=.tup [.mp o,B true]∧H'[o]?=some (some (.map (PD (PQ l)))))∧(¬OQ l→r=.tup [.lit (.map none),B false])
theorem iQ {H:AH}{l:List Nm}{v:AV}(hv:SV Ch 2 l v)(hl:l.length≤281474976710656)(hs:∀x∈l,x.name.length≤9223372036854775807):∃r H',oP H l r H'∧BCall prog 91 [v] H r H':=SI (by
 unfold Q2
 by_cases h16:l.length≤16
 ·have e16:¬(16:Int)<l.length:=by omega
  simp[hv.len,e16];refine M9 (λn x0 x4 x11 x12 x13 H'=>∃k:Nat,k+n=l.length∧x0=v∧x4=.mp H.length∧x11=v∧x12=I l.length∧x13=I k∧Grew H H'∧H'[H.length]?=some (some (.map (PD (PQ (l.take k)))))∧aM (l.take k)) ?_ l.length ⟨0,by omega,rfl,rfl,rfl,rfl,rfl,Grew.app _ _,by simp;rfl,by simp[aM,BX]⟩;rintro n x0 x4 x11 x12 x13 H' R hR ⟨k,hk,rfl,rfl,rfl,rfl,rfl,hg,hm,hok⟩;unfold JG;rcases vF k l.length with h | h
  ·have hx:=E3 h
   generalize l[k]=x at hx;have htk:l.take (k+1)=l.take k++[x]:=by rw[wS,hx];rfl
   have hgt:∀y,(l.take k).getLast?=some y↔0<k∧l[k - 1]?=some y:=by
    intro y;rw[List.getLast?_eq_getElem?,uZ,xM (by omega),vI]
    by_cases c:0<k
    ·rw[if_pos (by omega)];exact⟨λh=>⟨c,h⟩,λh=>h.2⟩
    ·rw[if_neg (by omega)];exact⟨λh=>(by cases h),λh=>absurd h.1 c⟩
   have hstep:OQ l→FX x.name∧(∀y,0<k∧l[k - 1]?=some y→AX y.name x.name<0)∧1≤x.ino∧x.ino≤4611686018427387904∧¬AO Nm.ino (l.take k) x.ino:=by
    rintro⟨-,ho⟩;rw[← wZ (k+1) l,htk]at ho
    have:=(SX.1 (iV ho)).2
    simpa only[hgt]using this
   have hsx:=hs x (vD hx);have g1:=Grew.app H' [some (.cells (Ch x))];have c1:(H'++[some (AObj.cells [S (As x.name),I x.ino])])[H.length]?=some (some (.map (PD (PQ (l.take k))))):=g1.cells hm
   have ea:AS 2 (H'++[some (.cells [S (As []),I 0])]) (.ptr H'.length 0) (.agg (Ch x))=some (H'++[some (.cells (Ch x))]):=by
    simp[AS,Ch,AK]
   simp[h,hv.idx Dr hx rfl,YY,Wr,ea];simp[Ch];refine bP_of (Mh (s:=x.name) (by omega)) ?_;have hno:¬(FX x.name∧(∀y,0<k∧l[k - 1]?=some y→AX y.name x.name<0)∧1≤x.ino∧x.ino≤4611686018427387904∧¬AO Nm.ino (l.take k) x.ino)→oP H l (.tup [.lit (.map none),B false]) (H'++[some (.cells (Ch x))]):=λhn=>⟨hg.trans g1,λhh=>absurd (hstep hh) hn,λ_=>rfl⟩
   have key:(∀y,0<k∧l[k - 1]?=some y→AX y.name x.name<0)→FX x.name→True:=λ_ _=>trivial
   by_cases a1:FX x.name
   ·have hal:fX (.int .i64) (.bool false) (H'++[some (AObj.cells [S (As x.name),I x.ino])]) (.mp H.length) (I x.ino) false=some (B (decide (AO Nm.ino (l.take k) x.ino))):=by
     rw[Yz c1];exact congrArg some (Uw _ _)
    have ham:¬AO Nm.ino (l.take k) x.ino→oB (.int .i64) (H'++[some (AObj.cells [S (As x.name),I x.ino])]) (.mp H.length) (I x.ino) (B true)=some ((H'++[some (AObj.cells [S (As x.name),I x.ino])]).set H.length (some (.map (PD (PQ (l.take k++[x])))))):=λhn=>by
     rw[gW c1,ZW hn]
    have hol:H.length<H'.length:=(BE.1 hm).1;rcases yI k with h0 | hk0
    ·have e0:¬0<k:=by omega
     have a5:∀y,(l.take k).getLast?=some y→AX y.name x.name<0:=λy hy=>by have:=(hgt y).1 hy;omega
     by_cases a2:x.ino<1
     ·simp[a1,e0,a2]
      exact hno λhh=>by omega
     ·by_cases a3:4611686018427387904<x.ino
      ·simp[a1,e0,a2,a3]
       exact hno λhh=>by omega
      ·by_cases a4:AO Nm.ino (l.take k) x.ino
       ·simp[a1,e0,a2,a3,hal,a4]
        exact hno λhh=>hh.2.2.2.2 a4
       ·simp[a1,e0,a2,a3,hal,a4,ham a4,A0 (a:=(k:Nat)) (b:=1) (by omega) (by omega)]
        refine hR (n - 1) _ _ _ _ _ _ (by omega) ⟨k+1,by omega,rfl,rfl,rfl,rfl,by simp,⟨vO (hg.trans g1).1 (yT List.length_set.symm),λi hi=>(C3 (by omega)).trans ((hg.trans g1).2 i hi)⟩,by rw[htk,Jo (by simp;omega)],by rw[htk,SX];exact⟨hok,a1,a5,by omega,by omega,a4⟩⟩
    ·have e0:0<k:=hk0
     have hy:=E3 (l:=l) (i:=k - 1) (by omega);generalize l[k - 1]=y at hy;have es:Ay .sub (I k) (I 1)=some (I ((k - 1:Nat):Int)):=by rw[Cv (by omega) (by omega)];congr 3;omega
     have ei:=hv.idx Dr hy (i:=((k - 1:Nat):Int)) rfl
     by_cases a6:AX y.name x.name<0
     ·have a5:∀y,(l.take k).getLast?=some y→AX y.name x.name<0:=λz hz=>by have:=((hgt z).1 hz).2;rw[hy]at this;injection this with this;rw[← this];exact a6
      by_cases a2:x.ino<1
      ·simp[a1,e0,es,ei,Sg,NR,a6,a2]
       exact hno λhh=>by omega
      ·by_cases a3:4611686018427387904<x.ino
       ·simp[a1,e0,es,ei,Sg,NR,a6,a2,a3]
        exact hno λhh=>by omega
       ·by_cases a4:AO Nm.ino (l.take k) x.ino
        ·simp[a1,e0,es,ei,Sg,NR,a6,a2,a3,hal,a4]
         exact hno λhh=>hh.2.2.2.2 a4
        ·simp[a1,e0,es,ei,Sg,NR,a6,a2,a3,hal,a4,ham a4,A0 (a:=(k:Nat)) (b:=1) (by omega) (by omega)]
         refine hR (n - 1) _ _ _ _ _ _ (by omega) ⟨k+1,by omega,rfl,rfl,rfl,rfl,by simp,⟨vO (hg.trans g1).1 (yT List.length_set.symm),λi hi=>(C3 (by omega)).trans ((hg.trans g1).2 i hi)⟩,by rw[htk,Jo (by simp;omega)],by rw[htk,SX];exact⟨hok,a1,a5,by omega,by omega,a4⟩⟩
     ·simp[a1,e0,es,ei,Sg,NR,a6]
      exact hno λhh=>a6 (hh.2.1 y ⟨hk0,hy⟩)
   ·simp[a1]
    exact hno λhh=>a1 hh.1
  ·have:l.take k=l:=vA (by omega)
   rw[this]at hm hok;simp[show ¬k<l.length by omega];exact⟨hg,λ_=>⟨_,rfl,hm⟩,λhn=>absurd ⟨h16,hok⟩ hn⟩
 ·have e16:(16:Int)<l.length:=by omega
  have:¬OQ l:=λh=>h16 h.1
  simp[hv.len,e16];exact⟨Grew.refl _,λh=>absurd h this,λ_=>rfl⟩)
end
section
def eB (ns:List Nm)(ds:List Nd):Prop:=BX Ca Nd.ino ds∧∀d∈ds,AO Nm.ino ns d.ino∧E4 d.size d.l
instance (ns:List Nm) (ds:List Nd):Decidable (eB ns ds):=by unfold eB;infer_instance
def Jf (ns:List Nm)(ds:List Nd):Prop:=OQ ns∧ds.length=ns.length∧eB ns ds
instance (ns:List Nm) (ds:List Nd):Decidable (Jf ns ds):=by unfold Jf;infer_instance
def Sm (ns:List Nm)(ds:List Nd):Prop:=ns.length≤100000∧ds.length≤100000∧(∀x∈ns,x.name.length≤9223372036854775807)∧∀d∈ds,d.l.length≤1000000
def ImV (ns:List Nm)(ds:List Nd)(v:AV):Prop:=∃a b dv,v=.agg [a,b]∧SV Ch 2 ns a∧SV Bw 3 dv b∧dv.map NdV.nd=ds
theorem ImV.noIds {ns:List Nm}{ds:List Nd}{v:AV}(h:ImV ns ds v):Au [v]=true:=by
 obtain⟨a,b,dv,rfl,h1,h2,rfl⟩:=h;simp[Au,Av.noIds,h1.1,h2.1]
theorem WY {ns:List Nm}{ds:List Nd}{d:Nd}:eB ns (ds++[d])↔eB ns ds∧(∀y,ds.getLast?=some y→y.ino<d.ino)∧AO Nm.ino ns d.ino∧E4 d.size d.l:=by
 unfold eB;rw[UH koI];simp only[Vj,tG]
 constructor
 ·rintro⟨⟨h1,h2⟩,h3⟩
  exact⟨⟨h1,λy hy=>h3 y (.inl hy)⟩,h2,h3 d (.inr rfl)⟩
 ·rintro⟨⟨h1,h3⟩,h2,h4⟩
  refine⟨⟨h1,h2⟩,?_⟩;rintro y (hy | rfl)
  ·exact h3 y hy
  ·exact h4
theorem iT {ns:List Nm}{a b:List Nd}(h:eB ns (a++b)):eB ns a:=
 ⟨(xQ.1 h.1).1,λd hd=>h.2 d (by simp[hd])⟩
theorem M3 {α:Type}{l:List α}{k:Nat}{x:α}(hx:l[k]?=some x):l.take (k+1)=l.take k++[x]:=by rw[wS,hx];rfl
theorem VU {ns:List Nm}{ds:List Nd}{v:AV}(hv:ImV ns ds v)(hb:Sm ns ds):BPure prog 40 [v] (B (decide (Jf ns ds))):=BPure.val hv.noIds rfl (Vu (by
 obtain⟨a,b,dv,rfl,ha,hbv,rfl⟩:=hv;have b1:=hb.1;have b2:=hb.2.1;rw[wB]at b2;unfold Us;have oa:=SV.oneA ha;have ob:=SV.oneA hbv;simp[oa,ob];obtain⟨r,H5,⟨hg,hy,hn⟩,hc⟩:=iQ (H:=[some (.cells [a,b])]) ha (by omega) (λx hx=>by have:=hb.2.2.1 x hx;omega);refine bC_of hc ?_;have c0:H5[0]?=some (some (.cells [a,b])):=hg.cells rfl
 by_cases hm:OQ ns
 ·obtain⟨o,rfl,hmap⟩:=hy hm
  have hal:X9 H5 (.mp o)=some (I ns.length):=by
   simp[X9,hmap,PD,PQ,goInt]
  simp[c0,hbv.len,hal]
  by_cases hlen:dv.length=ns.length
  ·have hlI:¬((dv.length:Int)≠ns.length):=by omega
   simp[hlen,c0,hbv.len];refine OA (λn x3 x5 x25 x26 x27 H'=>∃k:Nat,k+n=dv.length∧x3=.mp o∧(∃last:Int,x5=I last∧0≤last∧(∀y,(dv.take k).getLast?=some y→y.ino≤last)∧(last=0∨∃y,(dv.take k).getLast?=some y∧y.ino=last))∧x25=b∧x26=I ns.length∧x27=I k∧Grew H5 H'∧eB ns ((dv.take k).map NdV.nd)) ?_ dv.length ⟨0,by omega,rfl,⟨0,rfl,by omega,by simp,.inl rfl⟩,rfl,rfl,rfl,Grew.refl _,by simp[eB,BX]⟩;rintro n x3 x5 x25 x26 x27 H' R hR ⟨k,hk,rfl,⟨last,rfl,hl0,hl1,hl2⟩,rfl,rfl,rfl,hg2,hok⟩;unfold LM;rcases vF k ns.length with h | h
   ·have hx:=E3 (l:=dv) (i:=k) (by omega)
    generalize dv[k]=d at hx
    have ea:AS 3 (H'++[some (.cells [I 0,I 0,Ac])]) (.ptr H'.length 0) (.agg (Bw d))=some (H'++[some (.cells (Bw d))]):=by
     have:=SV.oneA d.h
     simp[AS,Bw,AK,this]
    have g1:=Grew.app H' [some (.cells (Bw d))];have c1:(H'++[some (AObj.cells [I d.nd.ino,I d.nd.size,d.R])])[o]?=some (some (.map (PD (PQ ns)))):=g1.cells (hg2.cells hmap)
    have hal2:fX (.int .i64) (.bool false) (H'++[some (AObj.cells [I d.nd.ino,I d.nd.size,d.R])]) (.mp o) (I d.nd.ino) false=some (B (decide (AO Nm.ino ns d.nd.ino))):=by
     rw[Yz c1];exact congrArg some (Uw _ _)
    have hdl:d.nd.l.length≤281474976710656:=by
     have:=hb.2.2.2 d.nd (wF (vD hx));omega
    have htk:=M3 hx
    have hstep:Jf ns (dv.map NdV.nd)→last<d.nd.ino∧AO Nm.ino ns d.nd.ino∧E4 d.nd.size d.nd.l:=by
     rintro⟨-,-,ho⟩;rw[← wZ (k+1) dv,htk,wT,wT]at ho;have h3:=(WY.1 (iT ho)).2;refine⟨?_,h3.2⟩;rcases hl2 with rfl | ⟨y,hy,rfl⟩
     ·obtain⟨x,hx,e⟩:=h3.2.1
      have:=(hm.2.1 x hx).2.1
      omega
     ·exact h3.1 y.nd (by rw[List.getLast?_map,hy];rfl)
    simp[h,hbv.idx CG hx rfl,Xg,ea];simp[Bw]
    by_cases a1:d.nd.ino≤last
    ·have:¬Jf ns (dv.map NdV.nd):=λhh=>by have:=(hstep hh).1;omega
     simp[a1,this]
    ·by_cases a2:AO Nm.ino ns d.nd.ino
     ·simp[a1,hal2,a2,Al]
      refine A1 (FS d.h hdl) ?_
      by_cases a3:E4 d.nd.size d.nd.l
      ·simp[a3,A0 (a:=k) (b:=1) (by omega) (by omega)]
       refine hR (n - 1) _ _ _ _ _ _ (by omega) ⟨k+1,by omega,rfl,⟨d.nd.ino,rfl,by omega,?_,.inr ⟨d,by rw[htk];simp,rfl⟩⟩,rfl,rfl,by simp,hg2.trans g1,?_⟩
       ·intro y hy
        rw[htk]at hy;simp at hy;rw[← hy];exact Int.le_refl _
       ·rw[htk,wT]
        refine WY.2 ⟨hok,λy hy=>?_,a2,a3⟩;rw[List.getLast?_map]at hy;obtain⟨z,hz,rfl⟩:=Option.map_eq_some_iff.1 hy;have h9:z.nd.ino≤last:=hl1 z hz
        show z.nd.ino<d.nd.ino
        omega
      ·have:¬Jf ns (dv.map NdV.nd):=λhh=>a3 (hstep hh).2.2
       simp[a3,this]
     ·have:¬Jf ns (dv.map NdV.nd):=λhh=>a2 (hstep hh).2.1
      simp[a1,hal2,a2,this]
   ·have e:dv.take k=dv:=vA (by omega)
    rw[e]at hok;have:Jf ns (dv.map NdV.nd):=⟨hm,by simp[hlen],hok⟩;simp[show ¬k<ns.length by omega,this]
  ·have:¬Jf ns (dv.map NdV.nd):=λh=>hlen (by simpa using h.2.1)
   have hlI:((dv.length:Int)≠ns.length):=by omega
   simp[hlI,this]
 ·have:¬Jf ns (dv.map NdV.nd):=λh=>hm h.1
  rw[hn hm];simp[this]))
end
end Go.Proofs.YtbppnhenlboefaaGreat.Av
