/- Texts of this proof, one behind the other, packed into one file by a program of this session. No condition. -/
import Derived.Test.YtadghlcfbajamaaGreatMsD
import Derived.ChangeArms
import Derived.DataElems
import Derived.DataReads
import Derived.Laws.IdiomStrings
import Derived.Lib.Bytealg
import Derived.Lib.Overlaps
import Derived.OpenShut
set_option linter.unusedVariables false
set_option linter.unusedSimpArgs false
set_option maxRecDepth 100000
namespace Go.Proofs.YtadghlcfbajamaaGreat.Av
open Go Go.RowKit Go.Proofs.Tryz
section
def May (n:Int):Prop:=0≤n∧n≤4611686018427387904
instance (n:Int):Decidable (May n):=by unfold May;infer_instance
def qV (n:Int):List AV:=[I n]
theorem eM (n:Int):(qV n).length=1:=rfl
def oI:Option Int→AV
 | some n=>.tup [I n,B true]
 | none=>.tup [I 0,B false]
def dO (l:List Int):Option Int:=if(∀n∈l,May n)∧l.sum≤4611686018427387904 then some l.sum else none
theorem ZI (n:Int):BPure prog 69 [I n] (B (decide (May n))):=BPure.flat λH=>jG (by
 unfold lJ
 by_cases h1:0≤n<;>by_cases h2:n≤4611686018427387904<;>simp[May,h1,h2])
theorem jQ (n:Int):BPure prog 199 [I n] (B (decide (May n))):=BPure.flat λH=>V4 (by
 unfold Sw
 by_cases h1:0≤n<;>by_cases h2:n≤4611686018427387904<;>simp[May,h1,h2])
structure Sp where
 pos:Int
 len:Int
 deriving DecidableEq,Inhabited
def Br (s:Sp):List AV:=[I s.pos,I s.len]
theorem VO (s:Sp):(Br s).length=2:=rfl
def MaySpan (s:Sp):Prop:=May s.pos∧May s.len∧s.len≤4611686018427387904 - s.pos
instance (s:Sp):Decidable (MaySpan s):=by unfold MaySpan;infer_instance
theorem HL (s:Sp):BPure prog 138 [.agg (Br s)] (B (decide (MaySpan s))):=BPure.val rfl rfl (Y2 (by
 unfold WG;obtain⟨p,n⟩:=s;simp[Br,C6];refine As (ZI _) ?_
 by_cases h1:May p
 ·have h1':=h1
  unfold May at h1';simp[h1];refine As (ZI _) ?_
  by_cases h2:May n
  ·simp[h2,Bv (a:=4611686018427387904) (b:=p) (by omega) (by omega),MaySpan,h1]
  ·simp[h2,MaySpan]
 ·simp[h1,MaySpan]))
def Qc (a b:Sp):Sp:=
 if MaySpan a∧MaySpan b∧max a.pos b.pos<min (a.pos+a.len) (b.pos+b.len)then⟨max a.pos b.pos,min (a.pos+a.len) (b.pos+b.len) - max a.pos b.pos⟩else⟨0,0⟩
theorem Ul (a b:Sp):BPure prog 152 [.agg (Br a),.agg (Br b)] (.agg (Br (Qc a b))):=BPure.val rfl rfl (fK (by
 unfold fJ;simp[Br,C6,Aq];refine As (HL a) ?_
 by_cases h1:MaySpan a
 ·simp[h1]
  refine As (HL b) ?_
  by_cases h2:MaySpan b
  ·have h1':=h1
   have h2':=h2;simp only[MaySpan,May]at h1' h2';obtain⟨p,n⟩:=a;obtain⟨q,m⟩:=b;simp only at h1' h2';simp[h2,Ax (a:=p) (b:=n) (by omega) (by omega),Ax (a:=q) (b:=m) (by omega) (by omega)]
   by_cases h3:max p q<min (p+n) (q+m)
   ·have h3':¬min (q+m) (p+n)≤max q p:=by omega
    simp[h3',Bv (a:=min (q+m) (p+n)) (b:=max q p) (by omega) (by omega),AJ,Qc,h1,h2,h3];omega
   ·have h3':min (q+m) (p+n)≤max q p:=by omega
    simp[h3',AJ,Qc,h3]
  ·simp[h2,AJ,Qc]
 ·simp[h1,AJ,Qc]))
theorem xK (a b c d:Int):O5 prog .eql 126 (.agg [I a,I b]) (.agg [I c,I d])=some (B (a==c&&(b==d&&true))):=by kernel_rfl
theorem yL (x y:Sp):(x.pos==y.pos&&(x.len==y.len&&true))=decide (x=y):=by
 obtain⟨a,b⟩:=x;obtain⟨c,d⟩:=y
 by_cases h1:a=c<;>by_cases h2:b=d<;>simp[h1,h2]
theorem zdgcZ (x y:Sp):O5 prog .eql 126 (.agg (Br x)) (.agg (Br y))=some (B (decide (x=y))):=by rw[← yL];exact xK _ _ _ _
def Within (a b:Sp):Prop:=MaySpan a∧MaySpan b∧(a.len=0∨Qc a b=a)
instance (a b:Sp):Decidable (Within a b):=by unfold Within;infer_instance
theorem bX (a b:Sp):BPure prog 160 [.agg (Br a),.agg (Br b)] (B (decide (Within a b))):=BPure.val rfl rfl (Zl (by
 unfold Y3;simp[Br,C6,Aq];refine As (HL a) ?_
 by_cases h1:MaySpan a
 ·simp[h1]
  refine As (HL b) ?_
  by_cases h2:MaySpan b
  ·by_cases h3:a.len=0
   ·simp[h2,h3,Within,h1]
   ·simp[h2,h3,Within,h1]
    refine bP_of (Ul a b) ?_
    have:=zdgcZ (Qc a b) a
    simp only[Br]at this⊢;simp[this]
  ·simp[h2,Within]
 ·simp[h1,Within]))
theorem sV {l:List Int}(h:∀n∈l,May n)(k:Nat):0≤(l.take k).sum∧(l.take k).sum≤l.sum:=by
 induction l generalizing k with
 | nil=>simp
 | cons a l ih=>
  have ha:=h a (by simp)
  have:=ih (λn hn=>h n (by simp[hn]))
  cases k with
  | zero=>have:=this l.length;simp at this⊢;unfold May at ha;omega
  | succ k=>have:=this k;simp;unfold May at ha;omega
abbrev Aj6:=@List.take_add_one
theorem Zr {l:List Int}{k:Nat}{x:Int}(h:l[k]?=some x):(l.take (k+1)).sum=(l.take k).sum+x:=by
 rw[Aj6,h];simp
theorem jP {l:List Int}{v:AV}(hv:SV qV 1 l v)(hl:l.length≤281474976710656):BPure prog 190 [v] (oI (dO l)):=BPure.flat λH=>V3 (by
 unfold Sv;refine Qi (λn x0 x4 x5 H'=>∃k:Nat,k+n=l.length∧x0=v∧x4=I (l.take k).sum∧x5=I k∧H'=H∧(∀m∈l.take k,May m)∧0≤(l.take k).sum∧(l.take k).sum≤4611686018427387904) ?_ l.length ⟨0,by simp,rfl,rfl,rfl,rfl,by simp,by simp,by simp⟩;rintro n x0 x4 x5 H' R hR ⟨k,hk,rfl,rfl,rfl,rfl,hm,hs0,hs1⟩;unfold LR;rcases Ah2 k l.length with hlt | hge
 ·have hx:=DJ hlt
  generalize l[k]=y at hx;have hs:=Zr hx;simp[hv.len,hlt,hv.idx eM hx rfl,qV];refine As (jQ _) ?_
  by_cases hM:May y
  ·have hM':=hM
   unfold May at hM';simp[hM,hv.idx eM hx rfl,qV,Bv (a:=4611686018427387904) (b:=(l.take k).sum) (by omega) (by omega)]
   by_cases hc:4611686018427387904 - (l.take k).sum<y
   ·have:dO l=none:=if_neg (by
     rintro⟨h1,h2⟩
     have:=sV h1 (k+1)
     omega)
    simp[hc,this,oI]
   ·simp[hc,Ax (a:=(l.take k).sum) (b:=y) (by omega) (by omega),Ax (a:=k) (b:=1) (by omega) (by omega)]
    refine hR (n - 1) _ _ _ _ (by omega) ⟨k+1,by omega,rfl,by rw[hs],rfl,rfl,?_,by omega,by omega⟩;rw[Aj6,hx];intro m hmm;simp at hmm;rcases hmm with h | rfl
    ·exact hm m h
    ·exact hM
  ·have:dO l=none:=if_neg (λh=>hM (h.1 y (Ag9 hx)))
   simp[hM,oI,this]
 ·have:k=l.length:=by omega
  subst this;simp at hm hs0 hs1;have:dO l=some l.sum:=if_pos ⟨hm,hs1⟩;simp[hv.len,this,oI])
abbrev Ac7:=And.intro @List.mem_cons.{0} @forall_eq_or_imp.{1}
theorem Y7 (s:Sp):BPure prog 171 [.agg (Br s)] (B (decide (MaySpan s))):=BPure.val rfl rfl (QY (by
 unfold N2;obtain⟨p,n⟩:=s;have hv:SV qV 1 [p,n] (.imm [I p,I n] 2 1):=⟨rfl,λH=>rfl⟩;simp[Br];refine uE 2 (args':=[.imm [I p,I n] 2 1]) (by simp[OB,NC]) ?_ (jP hv (by simp)) ?_
 ·cases h:dO [p,n]<;>rfl
 ·have:MaySpan ⟨p,n⟩↔(dO [p,n]).isSome:=by
   unfold dO MaySpan;simp only[Ac7,List.not_mem_nil,or_false,forall_eq,List.sum_cons,List.sum_nil]
   split
   ·rename_i h;simp;exact⟨h.1.1,h.1.2,by omega⟩
   ·rename_i h;simp;intro h1 h2;by_cases h3:4611686018427387904 - p<n;exact h3;exact absurd ⟨⟨h1,h2⟩,by omega⟩ h
  cases h:dO [p,n]<;>simp[oI,this,h]))
def DB:Nat→Int→Int→Int→List Sp
 | 0,_,_,_=>[]
 | f+1,pos,len,unit=>if 0<len then⟨pos,min len (unit - pos % unit)⟩::DB f (pos+min len (unit - pos % unit)) (len - min len (unit - pos % unit)) unit else []
def Ep (s:Sp)(unit:Int):List Sp:=if MaySpan s∧s.len≤4096∧1≤unit then DB s.len.toNat s.pos s.len unit else []
abbrev Ap6:=@Int.emod_lt_of_pos
abbrev Ap7:=@Int.emod_nonneg
theorem TV {f:Nat}{pos len unit:Int}(hf:len.toNat≤f)(hl:0<len)(hp:0≤pos)(hu:1≤unit):DB f pos len unit=⟨pos,min len (unit - pos % unit)⟩::DB (len - min len (unit - pos % unit)).toNat (pos+min len (unit - pos % unit)) (len - min len (unit - pos % unit)) unit:=by
 induction f using Nat.strongRecOn generalizing pos len with
 | _ f ih=>
  have h1:=Ap6 pos (show 0<unit by omega);have h2:=Ap7 pos (show unit≠0 by omega);cases f with
  | zero=>omega
  | succ f=>
   simp only[DB,hl,if_true]
   congr 1
   have hm:1≤min len (unit - pos % unit):=by omega
   generalize min len (unit - pos % unit)=m at*
   have more:∀(a b:Nat) (p n:Int),n.toNat≤a→n.toNat≤b→0≤p→DB a p n unit=DB b p n unit:=by
    intro a
    induction a with
    | zero=>
     intro b p n ha hb hp;cases b with
     | zero=>rfl
     | succ b=>simp only[DB];rw[if_neg (by omega)]
    | succ a iha=>
     intro b p n ha hb hp;have h1:=Ap6 p (show 0<unit by omega);have h2:=Ap7 p (show unit≠0 by omega);cases b with
     | zero=>simp only[DB];rw[if_neg (by omega)]
     | succ b=>
      simp only[DB]
      split
      ·rw[iha b _ _ (by omega) (by omega) (by omega)]
      ·rfl
   exact more _ _ _ _ (by omega) (by omega) (by omega)
theorem TW {f:Nat}{pos len unit:Int}(hl:¬0<len):DB f pos len unit=[]:=by
 cases f with
 | zero=>rfl
 | succ f=>simp only[DB,if_neg hl]
theorem ZH (l:List Sp):Az (l.flatMap Br)=true:=by
 induction l with
 | nil=>rfl
 | cons a l ih=>rw[Aj3];simp[Br,Az,noIds];simpa[Br]using ih
theorem WI (s:Sp){unit:Int}(hu:unit≤9223372036854775807):∃v,SV Br 2 (Ep s unit) v∧BPure prog 87 [.agg (Br s),I unit] v:=by
 refine BPure.sl (sz:=2) rfl (ZH _) (bW ?_);unfold ZJ;obtain⟨p,n⟩:=s;simp[Br,Aq];refine As (HL ⟨p,n⟩) ?_
 by_cases h1:MaySpan ⟨p,n⟩
 ·simp[h1]
  by_cases h2:4096<n
  ·have:Ep ⟨p,n⟩ unit=[]:=if_neg (by simp only;omega)
   simp[h2,this,Ad]
  ·simp[h2]
   by_cases h3:unit<1
   ·have:Ep ⟨p,n⟩ unit=[]:=if_neg (by omega)
    simp[h3,this,Ad]
   ·simp[h3]
    have hP:Ep ⟨p,n⟩ unit=DB n.toNat p n unit:=if_pos ⟨h1,by simp only;omega,by omega⟩;simp only[MaySpan,May]at h1;refine Vn (λk x1 x2 x5 H=>∃(pos len:Int) (l:List Sp),k=len.toNat∧x1=I unit∧x2=.ptr 0 0∧H[0]?=some (some (.cells [I pos,I len]))∧Bh x5=true∧Ad H 2 x5=some (l.flatMap Br,l.length)∧0∉Bl x5∧
     0≤pos∧0≤len∧pos+len≤4611686018427387904∧(l.length:Int)+len≤4096∧l++DB len.toNat pos len unit=DB n.toNat p n unit) ?_ n.toNat
     ⟨p,n,[],rfl,rfl,rfl,rfl,rfl,rfl,by simp[Bl],by omega,by omega,by omega,by simp;omega,rfl⟩
    rintro k x1 x2 x5 H R hR ⟨pos,len,l,rfl,rfl,rfl,hH,ho,hs,hid,hp,hl,hpl,hll,hc⟩;unfold Si;have e1:=Ap6 pos (show 0<unit by omega);have e2:=Ap7 pos (show unit≠0 by omega)
    by_cases hlen:0<len
    ·rw[TV (Ah3 _) hlen hp (by omega)]at hc
     have hcomm:min (unit - pos % unit) len=min len (unit - pos % unit):=by omega
     have hm1:1≤min len (unit - pos % unit):=by omega
     have hm2:min len (unit - pos % unit)≤len:=by omega
     generalize min len (unit - pos % unit)=m at hcomm hm1 hm2 hc;have hH0:=(B5.1 hH).1;have hs1:Ad (H++[some (.cells [I pos,I m])]) 2 x5=some (l.flatMap Br,l.length):=Af hs λi hi=>Ag8 (A7 hs i hi)
     obtain⟨r,H2,a1,a2,a3,a4,a5,a6⟩:=CT (bytes:=16) hs1 ho (A3 (v:=.sl H.length 0 1 2 (.ex 1)) (q:=([I pos,I m],1)) (by simp[Ad])) (by omega)
     have hH2:H2[0]?=some (some (.cells [I pos,I len])):=by
      rw[a5 0 (by simp) hid,Ag8 hH0];exact hH
     have hid2:0∉Bl r:=λhi=>(a6 0 hi).elim hid (by simp)
     have hH20:=(B5.1 hH2).1
     have keep:∀c,Ad (H2.set 0 c) 2 r=some ((l++[(⟨pos,m⟩:Sp)]).flatMap Br,(l++[(⟨pos,m⟩:Sp)]).length):=λc=>by
      rw[Af a3 (λi hi=>Cg (by rintro rfl;exact hid2 hi))];simp[Br]
     simp[hH,hlen,U2 (a:=pos) (b:=unit) (by omega) (by omega),Bv (a:=unit) (b:=pos % unit) (by omega) (by omega),hcomm,a1,hH2,Ax (a:=pos) (b:=m) (by omega) (by omega),Bv (a:=len) (b:=m) (by omega) (by omega),AJ];refine hR (len - m).toNat _ _ _ _ (by omega) ?_;exact⟨pos+m,len - m,l++[(⟨pos,m⟩:Sp)],rfl,rfl,rfl,by simp[hH20],a2,keep _,hid2,by omega,by omega,by omega,by simp;omega,by simpa using hc⟩
    ·rw[TW hlen,Ak6]at hc
     simp[hH,hlen];rw[hP,← hc];exact hs
 ·have:Ep ⟨p,n⟩ unit=[]:=if_neg (λh=>h1 h.1)
  simp[h1,this,Ad]
theorem cD (s:Sp){unit:Int}(hu:unit≤9223372036854775807):∃v,SV Br 2 (Ep s unit) v∧BPure prog 119 [.agg (Br s),I unit] v:=by
 refine BPure.sl (sz:=2) rfl (ZH _) (Tp ?_);unfold PC;obtain⟨p,n⟩:=s;simp[Br,Aq];refine As (Y7 ⟨p,n⟩) ?_
 by_cases h1:MaySpan ⟨p,n⟩
 ·simp[h1]
  by_cases h2:4096<n
  ·have:Ep ⟨p,n⟩ unit=[]:=if_neg (by simp only;omega)
   simp[h2,this,Ad]
  ·simp[h2]
   by_cases h3:unit<1
   ·have:Ep ⟨p,n⟩ unit=[]:=if_neg (by omega)
    simp[h3,this,Ad]
   ·simp[h3]
    have hP:Ep ⟨p,n⟩ unit=DB n.toNat p n unit:=if_pos ⟨h1,by simp only;omega,by omega⟩;simp only[MaySpan,May]at h1;refine OM (λk x1 x2 x5 H=>∃(pos len:Int) (l:List Sp),k=len.toNat∧x1=I unit∧x2=.ptr 0 0∧H[0]?=some (some (.cells [I pos,I len]))∧Bh x5=true∧Ad H 2 x5=some (l.flatMap Br,l.length)∧0∉Bl x5∧
     0≤pos∧0≤len∧pos+len≤4611686018427387904∧(l.length:Int)+len≤4096∧l++DB len.toNat pos len unit=DB n.toNat p n unit) ?_ n.toNat
     ⟨p,n,[],rfl,rfl,rfl,rfl,rfl,rfl,by simp[Bl],by omega,by omega,by omega,by simp;omega,rfl⟩
    rintro k x1 x2 x5 H R hR ⟨pos,len,l,rfl,rfl,rfl,hH,ho,hs,hid,hp,hl,hpl,hll,hc⟩;unfold Kj;have e1:=Ap6 pos (show 0<unit by omega);have e2:=Ap7 pos (show unit≠0 by omega)
    by_cases hlen:0<len
    ·rw[TV (Ah3 _) hlen hp (by omega)]at hc
     have hcomm:min (unit - pos % unit) len=min len (unit - pos % unit):=by omega
     have hm1:1≤min len (unit - pos % unit):=by omega
     have hm2:min len (unit - pos % unit)≤len:=by omega
     generalize min len (unit - pos % unit)=m at hcomm hm1 hm2 hc;have hH0:=(B5.1 hH).1;have hs1:Ad (H++[some (.cells [I pos,I m])]) 2 x5=some (l.flatMap Br,l.length):=Af hs λi hi=>Ag8 (A7 hs i hi)
     obtain⟨r,H2,a1,a2,a3,a4,a5,a6⟩:=CT (bytes:=16) hs1 ho (A3 (v:=.sl H.length 0 1 2 (.ex 1)) (q:=([I pos,I m],1)) (by simp[Ad])) (by omega)
     have hH2:H2[0]?=some (some (.cells [I pos,I len])):=by
      rw[a5 0 (by simp) hid,Ag8 hH0];exact hH
     have hid2:0∉Bl r:=λhi=>(a6 0 hi).elim hid (by simp)
     have hH20:=(B5.1 hH2).1
     have keep:∀c,Ad (H2.set 0 c) 2 r=some ((l++[(⟨pos,m⟩:Sp)]).flatMap Br,(l++[(⟨pos,m⟩:Sp)]).length):=λc=>by
      rw[Af a3 (λi hi=>Cg (by rintro rfl;exact hid2 hi))];simp[Br]
     simp[hH,hlen,U2 (a:=pos) (b:=unit) (by omega) (by omega),Bv (a:=unit) (b:=pos % unit) (by omega) (by omega),hcomm,a1,hH2,Ax (a:=pos) (b:=m) (by omega) (by omega),Bv (a:=len) (b:=m) (by omega) (by omega),AJ,KI hH20];refine hR (len - m).toNat _ _ _ _ (by omega) ?_;exact⟨pos+m,len - m,l++[(⟨pos,m⟩:Sp)],rfl,rfl,rfl,by simp[hH20],a2,keep _,hid2,by omega,by omega,by omega,by simp;omega,by simpa using hc⟩
    ·rw[TW hlen,Ak6]at hc
     simp[hH,hlen];rw[hP,← hc];exact hs
 ·have:Ep ⟨p,n⟩ unit=[]:=if_neg (λh=>h1 h.1)
  simp[h1,this,Ad]
def down (n unit:Int):Int:=if May n∧1≤unit then n - n % unit else 0
def U1 (a b:Sp):Prop:=MaySpan a∧MaySpan b∧(a.len=0∨(b.pos≤a.pos∧a.pos+a.len≤b.pos+b.len))
instance (a b:Sp):Decidable (U1 a b):=by unfold U1;infer_instance
theorem jZ (a b:Sp):Within a b↔U1 a b:=by
 unfold Within U1
 by_cases h1:MaySpan a<;>by_cases h2:MaySpan b<;>simp[h1,h2]
 have h1':=h1;have h2':=h2;simp only[MaySpan,May]at h1' h2'
 by_cases h0:a.len=0
 ·simp[h0]
 ·simp only[h0,false_or]
  unfold Qc;obtain⟨p,n⟩:=a;obtain⟨q,m⟩:=b;simp only at h1' h2' h0⊢
  split
  ·rename_i h;simp only[Sp.mk.injEq];omega
  ·rename_i h
   simp only[h1,h2,true_and]at h;simp only[Sp.mk.injEq];omega
def B2 (l:List UInt8):List AV:=l.map λb=>.lit (.int .u8 b.toNat)
theorem XL (a b:List UInt8):B2 (a++b)=B2 a++B2 b:=by simp[B2]
theorem CV (a:List UInt8):(B2 a).length=a.length:=by simp[B2]
theorem Pa (a:List UInt8)(n:Nat):(B2 a).take n=B2 (a.take n):=by simp[B2]
theorem S8 (a:List UInt8)(n:Nat):(B2 a).drop n=B2 (a.drop n):=by simp[B2]
theorem Rq (a:List UInt8)(n:Nat):(B2 a)[n]?=(a[n]?).map λb=>.lit (.int .u8 b.toNat):=by simp[B2]
def IW (b:UInt8):List AV:=[.lit (.int .u8 b.toNat)]
theorem Mq (l:List UInt8):l.flatMap IW=B2 l:=by
 induction l with
 | nil=>rfl
 | cons a l ih=>rw[Aj3,ih];rfl
theorem KL (l:List UInt8):Az (B2 l)=true:=by
 induction l with
 | nil=>rfl
 | cons a l ih=>simpa[B2,Az,noIds]using ih
def B0 (l:List UInt8):ByteArray:=⟨l.toArray⟩
theorem Mp (l:List UInt8):(B0 l).size=l.length:=rfl
abbrev Al8:=@List.drop_eq_getElem_cons
theorem gM (s:ByteArray):∀(n i:Nat) (r:List UInt8),s.size - i=n→ByteArray.toList.loop s i r=r.reverse++s.data.toList.drop i:=by
  intro n
  induction n with
  | zero=>
    intro i r h;unfold ByteArray.toList.loop
    rw [if_neg (by omega), List.drop_of_length_le (by have : s.data.toList.length = s.size := by rw [Array.length_toList]; rfl
                                                      omega)]
    simp
  | succ n ih=>
    intro i r h;unfold ByteArray.toList.loop;have hi:i<s.size:=by omega
    rw[if_pos hi,ih (i+1) _ (by omega)];have hl:i<s.data.toList.length:=by rw[Ak3];exact hi
    rw[Al8 hl];simp[ByteArray.get!,getElem!_def];have:s.data[i]?=some s.data[i]:=An1 hi;simp[this]
theorem gL (s:ByteArray):s.toList=s.data.toList:=by
 unfold ByteArray.toList;rw[gM s s.size 0 [] (by simp)];simp
theorem I2 (l:List UInt8):(B0 l).toList=l:=by rw[gL];simp[B0]
theorem dW (l:List UInt8):Rl (B2 l)=some (l.map λb=>(b.toNat:Int)):=by
 induction l with
 | nil=>rfl
 | cons a l ih=>
  have:B2 (a::l)=.lit (.int .u8 a.toNat)::B2 l:=rfl;rw[this];simp only[Rl,ih];rfl
theorem Zo (l:List UInt8):Vs (l.map λb=>(b.toNat:Int))=B0 l:=by
 unfold Vs;rw[foldl_push_byteCells];unfold B0
 have:(ByteArray.empty.data++l.toArray)=l.toArray:=by
  apply Array.ext';simp[ByteArray.empty,ByteArray.emptyWithCapacity]
  try rfl
 rw[this]
theorem dJ {H:AH}{x:AV}{l:List UInt8}{n:Nat}(h:Ad H 1 x=some (B2 l,n)):vL H x=some (S (B0 l)):=by
 unfold vL
 split
 ·simp[Ad]at h
 ·rw[h];simp only[dW];rw[← Zo];rfl
abbrev Af6:=And.intro @I2 @Option.map_some.{0,0}
theorem PV {a b:List UInt8}:Xq .eql (S (B0 a)) (S (B0 b))=some (B (decide (a=b))):=by
 simp only[Xq,Ww,Af6]
 by_cases h:a=b<;>simp[h]
theorem tP {a b:List UInt8}:Xq .neq (S (B0 a)) (S (B0 b))=some (B (decide (a≠b))):=by
 simp only[Xq,Ww,Af6]
 by_cases h:a=b<;>simp[h]
theorem XE:(⟨#[]⟩:ByteArray)=B0 []:=rfl
theorem SV.bytes {l:List UInt8}{v:AV}(h:SV IW 1 l v)(H:AH):Ad H 1 v=some (B2 l,l.length):=by rw[h.2 H,Mq]
theorem SV.noId {α:Type}{enc:α→List AV}{sz:Nat}{l:List α}{v:AV}(h:SV enc sz l v):Bl v=[]:=by
 have:=h.1
 cases v<;>simp[Bl,noIds]at this⊢
abbrev Ap1:=@List.getElem?_take_of_lt
theorem pX {H:AH}{v:AV}{l:List UInt8}{n k:Nat}{i:Int}{b:UInt8}(h:Ad H 1 v=some (B2 l,n))(hi:i=k)(hb:l[k]?=some b):∃p,Bq 1 v (.lit (.int .i64 i))=some p∧(∃c,cC H p=some c)∧Am false 1 H p=some (.lit (.int .u8 b.toNat)):=by
 have hl:=BG h;rw[CV]at hl;have hk:=(B5.1 hb).1;obtain⟨p,c,h1,h2,h3,h4⟩:=S4 h hi (show k<n by omega);refine⟨p,h1,⟨c,h2⟩,?_⟩;rw[XC h2 (by omega) h4,Ag]
 have:=congrArg (λl=>l[0]?) h3
 simp only[Ao0]at this;rw[Ap1 (by omega),Ap1 (by omega),Ah6,Al9,Rq,hb]at this;exact this
structure Ext where
 no:Int
 b:List UInt8
 hb:b.length=8
 deriving DecidableEq
def A6 (x:Ext):List AV:=I x.no::B2 x.b
theorem AB (x:Ext):(A6 x).length=9:=by simp[A6,CV,x.hb]
theorem qT (l:List UInt8):(B2 l).all oneA=true:=by simp[B2]
@[simp] theorem qU (x:Ext):(A6 x).all oneA=true:=by
 show(oneA (I x.no)&&(B2 x.b).all oneA)=true
 rw[qT];rfl
theorem G9 (x:Ext):Az (A6 x)=true:=by
 show Az (I x.no::B2 x.b)=true
 simp[Az,noIds,KL]
@[simp] theorem zdfjZ (x:Ext) (t:List AV):(A6 x++t)[0]?=some (I x.no):=rfl
@[simp] theorem zdeaZ (x:Ext):(A6 x)[0]?=some (I x.no):=rfl
@[simp] theorem rd_b (x:Ext):Aq true 8 (A6 x) 1=some (.agg (B2 x.b)):=by
 have:=x.hb
 simp[Aq,A6,CV,this,Ah4]
@[simp] theorem rd_e (x:Ext) (t:List AV):Aq true 9 (A6 x++t) 0=some (.agg (A6 x)):=by
 have:=AB x
 simp[Aq,this]
@[simp] theorem vW (x:Ext):Aq true 9 (A6 x) 0=some (.agg (A6 x)):=by
 have:=AB x
 simp[Aq,this,Ah4]
theorem zP {b:List UInt8}{k:Nat}{y:UInt8}(h:b[k]?=some y)(hk:k<8):pV false 1 8 1 (.agg (B2 b)) (I k)=some (.lit (.int .u8 y.toNat)):=by
 have:(k:Int)<8:=by omega
 simp[pV,L3,this,Rq,h]
theorem Zy {H:AH}{z:List AV}{x:Ext}{o:Nat}(ho:o=H.length)(hz:z.length=9):AJ 9 (H++[some (.cells z)]) (.ptr o 0) (.agg (A6 x))=some (H++[some (.cells (A6 x))]):=by
 have:=AB x
 have e:AZ z 0 (A6 x)=A6 x:=by
  have hb:(B2 x.b).length=8:=by rw[CV,x.hb]
  unfold A6;cases hB:B2 x.b with
  | nil=>rw[hB]at hb;simp at hb
  | cons a r=>rw[hB]at hb;simp at hb;simp[AZ,hz,hb]
 simp[AJ,ho,this,hz,e,-AZ]
theorem u8z {y:UInt8}:(y.toNat=0)=(y=0):=by
 refine propext ⟨λh=>?_,λh=>by rw[h];rfl⟩;apply UInt8.toNat_inj.1;rw[h];rfl
def cleanB (size:Int):Int→List UInt8→Prop
 | _,[]=>True
 | p,b::r=>(b≠0→p<size)∧cleanB size (p+1) r
instance cleanB.dec (size:Int):∀(p:Int) (l:List UInt8),Decidable (cleanB size p l)
 | _,[]=>Decidable.isTrue True.intro
 | p,b::r=>by
  have:=cleanB.dec size (p+1) r
  unfold cleanB;infer_instance
def Jc (size:Int)(x:Ext):Prop:=cleanB size (x.no*8) x.b
instance (size:Int) (x:Ext):Decidable (Jc size x):=by unfold Jc;infer_instance
def okL (size:Int):Int→List Ext→Prop
 | _,[]=>True
 | p,x::r=>p<x.no∧x.no<137438953472∧Jc size x∧okL size x.no r
instance okL.dec (size:Int):∀(p:Int) (l:List Ext),Decidable (okL size p l)
 | _,[]=>Decidable.isTrue True.intro
 | p,x::r=>by
  have:=okL.dec size x.no r
  unfold okL;infer_instance
theorem Sj {size p:Int}{x:Ext}{r:List Ext}:okL size p (x::r)=(p<x.no∧x.no<137438953472∧Jc size x∧okL size x.no r):=rfl
theorem lL {size p:Int}:okL size p []=True:=rfl
def Dj (size:Int)(l:List Ext):Prop:=0≤size∧size≤1099511627776∧okL size (-1) l
instance (size:Int) (l:List Ext):Decidable (Dj size l):=by unfold Dj;infer_instance
theorem Ek {α:Type}{l:List α}{k:Nat}{y:α}(h:l[k]?=some y):l.drop k=y::l.drop (k+1):=by
 obtain⟨hk,e⟩:=B5.1 h;rw[Al8 hk,e]
theorem XY (x:Ext)(size:Int)(h0: -1≤x.no)(h1:x.no<137438953472):BPure prog 141 [.agg (A6 x),I size] (B (decide (Jc size x))):=BPure.val (by simp[Az,noIds,G9]) rfl (WX (by
 unfold UP;simp;refine RJ (λn x1 x2 x8 x9 H'=>∃k:Nat,k+n=8∧x1=I size∧x2=.ptr 0 0∧x8=.agg (B2 x.b)∧x9=I k∧H'=[some (.cells (A6 x))]∧(Jc size x↔cleanB size (x.no*8+k) (x.b.drop k))) ?_ 8 ⟨0,rfl,rfl,rfl,rfl,rfl,rfl,by simp[Jc]⟩;rintro n x1 x2 x8 x9 H' R hR ⟨k,hk,rfl,rfl,rfl,rfl,rfl,hm⟩;unfold Oa;rcases Ah2 k 8 with hlt | hge
 ·have hlt':(k:Int)<8:=by omega
  have hx:=DJ (l:=x.b) (i:=k) (by rw [x.hb]; exact hlt);generalize x.b[k]'(by rw [x.hb]; exact hlt)=y at hx;rw [Ek hx] at hm;unfold cleanB at hm;simp [hlt',zP hx hlt,u8z];have hkk : (k : Int) + 1=((k + 1 : Nat) : Int):=by omega
  by_cases hy:y=0
  ·simp[hy,Ax (a:=k) (b:=1) (by omega) (by omega)]
   refine hR (n - 1) _ _ _ _ _ (by omega) ⟨k+1,by omega,rfl,rfl,rfl,rfl,rfl,?_⟩;rw[hm];simp[hy,Int.add_assoc]
  ·simp[hy,D3 (a:=x.no) (b:=8) (by omega) (by omega),Ax (a:=x.no*8) (b:=k) (by omega) (by omega)]
   by_cases hs:size≤x.no*8+k
   ·have:¬Jc size x:=by rw[hm];intro h;have:=h.1 hy;omega
    simp[hs,this]
   ·simp[hs,Ax (a:=k) (b:=1) (by omega) (by omega)]
    refine hR (n - 1) _ _ _ _ _ (by omega) ⟨k+1,by omega,rfl,rfl,rfl,rfl,rfl,?_⟩;rw[hm];simp[hy,Int.add_assoc];omega
 ·have:k=8:=by omega
  subst this;have e:x.b.drop 8=[]:=by rw[List.drop_eq_nil_iff,x.hb];omega
  rw[e]at hm;simp only[cleanB,iff_true]at hm;simp[hm]))
theorem CE {α:Type}{enc:α→List AV}{sz:Nat}{l:List α}{v:AV}(hv:SV enc sz l v):oneA v=true:=by
 have h1:=hv.1;have h2:=hv.2 [];cases v with
 | lit a=>cases a<;>first | rfl | (simp[Ad]at h2)
 | _=>first | rfl | (simp[Ad]at h2)
theorem M2 (no:Int)(h0:0≤no)(h1:no<137438953472):BPure prog 153 [I no] (.agg (Br ⟨no*8,8⟩)):=BPure.val (by simp[Az,noIds]) rfl (WZ (by
 unfold US;simp[D3 (a:=no) (b:=8) (by omega) (by omega),AJ,Aq,Br]))
abbrev Ap2:=@List.drop_length
theorem EI {size:Int}{l:List Ext}{v:AV}(hv:SV A6 9 l v)(hl:l.length≤281474976710656):BPure prog 90 [.agg [I size,v]] (B (decide (Dj size l))):=BPure.val (by simp[Az,noIds,hv.1]) rfl (YY (by
 unfold XU;simp[CE hv]
 by_cases h1:size<0
 ·have:¬Dj size l:=λh=>by have:=h.1;omega
  simp[h1,this]
 ·by_cases h2:1099511627776<size
  ·have:¬Dj size l:=λh=>by have:=h.2.1;omega
   simp[h1,h2,this]
  ·simp[h1,h2,hv.len]
   have hm:Dj size l↔okL size (-1) l:=by unfold Dj;constructor<;>intro h<;>simp_all<;>omega
   have e:decide (Dj size l)=decide (okL size (-1) l):=decide_eq_decide.2 hm;rw[e];refine Ua (λn x1 x3 x15 x16 x17 H'=>∃(k:Nat) (p:Int),k+n=l.length∧x1=.ptr 0 0∧x3=I p∧x15=v∧x16=I l.length∧x17=I k∧(∃X,H'=some (.cells [I size,v])::X)∧-1≤p∧(okL size (-1) l↔okL size p (l.drop k))) ?_ l.length ⟨0,-1,by simp,rfl,rfl,rfl,rfl,rfl,⟨[],rfl⟩,by omega,by simp⟩;rintro n x1 x3 x15 x16 x17 H' R hR ⟨k,p,hk,rfl,rfl,rfl,rfl,rfl,⟨X,rfl⟩,hp,hm⟩;unfold Qq;rcases Ah2 k l.length with hlt | hge
   ·have hx:=DJ hlt
    generalize l[k]=y at hx;rw[Ek hx]at hm;rw[Sj]at hm;simp[hlt,hv.idx AB hx rfl,-C6];rw[← An6,Zy (by simp) (by rfl)];simp
    by_cases c1:y.no≤p
    ·have:¬okL size (-1) l:=by rw[hm];intro h;omega
     simp[c1,this]
    ·by_cases c2:137438953472≤y.no
     ·have:¬okL size (-1) l:=by rw[hm];intro h;omega
      simp[c1,c2,this]
     ·simp[c1,c2]
      refine As (XY y size (by omega) (by omega)) ?_
      by_cases c3:Jc size y
      ·simp[c3,Ax (a:=k) (b:=1) (by omega) (by omega)]
       refine hR (n - 1) _ _ _ _ _ _ (by omega) ⟨k+1,y.no,by omega,rfl,rfl,rfl,rfl,rfl,⟨X++[some (.cells (A6 y))],rfl⟩,by omega,?_⟩;rw[hm];exact⟨λh=>h.2.2.2,λh=>⟨by omega,by omega,c3,h⟩⟩
      ·have:¬okL size (-1) l:=by rw[hm];intro h;exact c3 h.2.2.1
       simp[c3,this]
   ·have:k=l.length:=by omega
    subst this;rw[Ap2]at hm;simp only[lL,iff_true]at hm;simp[hm]))
theorem pW {b:List UInt8}{t:List AV}{k:Nat}{y:UInt8}{H:AH}(h:b[k]?=some y)(hk:k<8):∃q,QE 8 1 (.ip (B2 b++t)) (I k)=some q∧Am false 1 H q=some (.lit (.int .u8 y.toNat)):=by
 have hk':(k:Int)<8:=by omega
 have hl:k<b.length:=(B5.1 h).1;refine⟨.ip ((B2 b++t).drop k),by simp[QE,L3,hk'],?_⟩;have hl':k<(B2 b).length:=by rw[CV];exact hl
 simp[Ag8 hl',Rq,h]
theorem C4 {size:Int}{l:List Ext}{v:AV}(hv:SV A6 9 l v)(hl:l.length≤281474976710656):BPure prog 122 [.agg [I size,v]] (B (decide (Dj size l))):=BPure.val (by simp[Az,noIds,hv.1]) rfl (NE (by
 unfold Jr;simp[CE hv]
 by_cases h1:size<0
 ·have:¬Dj size l:=λh=>by have:=h.1;omega
  simp[h1,this]
 ·by_cases h2:1099511627776<size
  ·have:¬Dj size l:=λh=>by have:=h.2.1;omega
   simp[h1,h2,this]
  ·simp[h1,h2]
   have hm:Dj size l↔okL size (-1) l:=by unfold Dj;constructor<;>intro h<;>simp_all<;>omega
   have e:decide (Dj size l)=decide (okL size (-1) l):=decide_eq_decide.2 hm;rw[e];refine Ku (λn x1 x3 H'=>∃(k:Nat) (p:Int),k+n=l.length∧x1=.ptr 0 0∧x3=I k∧H'=[some (.cells [I size,v])]∧-1≤p∧(k=0→p= -1)∧(∀z,0<k→l[k - 1]?=some z→p=z.no)∧(okL size (-1) l↔okL size p (l.drop k))) ?_ l.length ⟨0,-1,by simp,rfl,rfl,rfl,by omega,by simp,by simp,by simp⟩;rintro n x1 x3 H' R hR ⟨k,p,hk,rfl,rfl,rfl,hp,hp0,hp1,hm⟩;unfold Gl;rcases Ah2 k l.length with hlt | hge
   ·have hx:=DJ hlt
    generalize l[k]=y at hx;rw[Ek hx]at hm;rw[Sj]at hm;simp[hlt,hv.len,hv.idx AB hx rfl]
    have fin:¬p<y.no∨¬y.no<137438953472→¬okL size (-1) l:=by
     rw[hm];intro h h';omega
    have go: -1≤y.no→y.no<137438953472→p<y.no→Er R (.ptr 0 0) (I k) (I y.no) (I 0) [some (.cells [I size,v])] (λr H'=>r=B (decide (okL size (-1) l))):=by
     intro g1 g2 g3;refine JH R (λm x1 x3 x4 x5 H'=>∃(j:Nat),j+m=8∧x1=.ptr 0 0∧x3=I k∧x4=I y.no∧x5=I j∧H'=[some (.cells [I size,v])]∧(Jc size y↔cleanB size (y.no*8+j) (y.b.drop j))) ?_ 8 ⟨0,rfl,rfl,rfl,rfl,rfl,rfl,by simp[Jc]⟩;rintro m x1 x3 x4 x5 H' R2 hR2 ⟨j,hj,rfl,rfl,rfl,rfl,rfl,hc⟩;unfold FS;rcases Ah2 j 8 with hlj | hgj
     ·have hlj':(j:Int)<8:=by omega
      have hy:=DJ (l:=y.b) (i:=j) (by rw [y.hb]; exact hlj);generalize y.b[j]'(by rw [y.hb]; exact hlj)=u at hy;rw [Ek hy] at hc;simp only [cleanB] at hc;simp [hlj',D3 (a:=y.no) (b:=8) (by omega) (by omega),Ax (a:=y.no * 8) (b:=j) (by omega) (by omega)]
      have nxt:(u≠0→y.no*8+j<size)→(bO (Ar .add (I j) (I 1)) λv20=>R2 [.ptr 0 0,I k,I y.no,v20] [some (.cells [I size,v])]):=by
       intro hu;simp[Ax (a:=j) (b:=1) (by omega) (by omega)];refine hR2 (m - 1) _ _ _ _ _ (by omega) ⟨j+1,by omega,rfl,rfl,rfl,rfl,rfl,?_⟩;rw[hc];have:y.no*8+(j:Int)+1=y.no*8+((j+1:Nat):Int):=by omega
       rw[this];exact⟨λh=>h.2,λh=>⟨hu,h⟩⟩
      by_cases hs:size≤y.no*8+j
      ·obtain⟨q,e1,e2⟩:=pW (t:=(l.drop (k+1)).flatMap A6) (H:=[some (.cells [I size,v])]) hy hlj
       have e0:(A6 y++(l.drop (k+1)).flatMap A6).drop 1=B2 y.b++(l.drop (k+1)).flatMap A6:=rfl;simp[hs,hv.idx AB hx rfl,e0,e1,e2,u8z]
       by_cases hu:u=0
       ·simp[hu]
        exact nxt (λh=>absurd hu h)
       ·have:¬okL size (-1) l:=by rw[hm];intro h;have:=(hc.1 h.2.2.1).1 hu;omega
        simp[hu,this]
      ·simp[hs]
       exact nxt (λh=>by omega)
     ·have:j=8:=by omega
      subst this;have e:y.b.drop 8=[]:=by rw[List.drop_eq_nil_iff,y.hb];omega
      rw[e]at hc;simp only[cleanB,iff_true]at hc;simp[Ax (a:=k) (b:=1) (by omega) (by omega)];refine hR (n - 1) _ _ _ (by omega) ⟨k+1,y.no,by omega,rfl,rfl,rfl,by omega,by omega,?_,?_⟩
      ·intro z _ hz;simp[hx]at hz;rw[hz]
      ·rw[hm]
       exact⟨λh=>h.2.2.2,λh=>⟨by omega,by omega,hc,h⟩⟩
    by_cases c1:y.no<0
    ·simp[c1,fin (.inl (by omega))]
    ·by_cases c2:137438953472≤y.no
     ·simp[c1,c2,fin (.inr (by omega))]
     ·simp[c1,c2]
      rcases Al1 k with k0 | k0
      ·subst k0
       simp
       have:=hp0 rfl
       exact go (by omega) (by omega) (by omega)
      ·have hxp:=DJ (l:=l) (i:=k - 1) (by omega)
       generalize l[k - 1]'(by omega)=z at hxp;have hpz:=hp1 z k0 hxp;simp [k0,Bv (a:=k) (b:=1) (by omega) (by omega),hv.idx AB hxp (i:=(k : Int) - 1) (by omega)]
       by_cases c3:y.no≤z.no
       ·simp[c3,fin (.inl (by omega))]
       ·simp[c3]
        exact go (by omega) (by omega) (by omega)
   ·have:k=l.length:=by omega
    subst this;rw[Ap2]at hm;simp only[lL,iff_true]at hm;simp[hm,hv.len]))
def srt (l:List Ext):Prop:=l.Pairwise λa b=>a.no<b.no
theorem KA {size:Int}:∀{l:List Ext} {p:Int},okL size p l→∀x∈l,p<x.no∧x.no<137438953472∧Jc size x
 | [],p,h=>by simp
 | a::r,p,h=>by
  rw[Sj]at h;intro x hx;rcases Ak0.1 hx with rfl | hx
  ·exact⟨h.1,h.2.1,h.2.2.1⟩
  ·have:=KA h.2.2.2 x hx
   exact⟨by omega,this.2⟩
theorem Is {size:Int}:∀{l:List Ext} {p:Int},okL size p l→srt l
 | [],p,h=>List.Pairwise.nil
 | a::r,p,h=>by
  rw[Sj]at h;exact List.Pairwise.cons (λb hb=>(KA h.2.2.2 b hb).1) (Is h.2.2.2)
theorem Oy {l:List Ext}(h:srt l){i j:Nat}{x y:Ext}(hi:l[i]?=some x)(hj:l[j]?=some y)(hij:i<j):x.no<y.no:=by
 obtain⟨h1,e1⟩:=B5.1 hi;obtain⟨h2,e2⟩:=B5.1 hj
 have:=List.pairwise_iff_getElem.1 h i j h1 h2 hij
 rw[e1,e2]at this;exact this
def posL (l:List Ext)(no:Int):Nat:=(l.takeWhile λx=>decide (x.no<no)).length
def BP (l:List Ext)(no:Int):Prop:=∃x∈l,x.no=no
instance (l:List Ext) (no:Int):Decidable (BP l no):=by unfold BP;infer_instance
theorem Qe {no:Int}:∀{l:List Ext} {i:Nat},i≤l.length→(∀m x,m<i→l[m]?=some x→x.no<no)→(∀x,l[i]?=some x→no≤x.no)→posL l no=i
 | [],i,hi,_,_=>by simp at hi;simp[posL,hi]
 | a::r,0,_,_,h=>by
  have:=h a (by simp)
  have:¬a.no<no:=by omega
  simp[posL,this]
 | a::r,i+1,hi,h1,h2=>by
  have:=h1 0 a (by omega) (by simp)
  have ih:=Qe (l:=r) (i:=i) (no:=no) (by simpa using hi) (λm x hm hx=>h1 (m+1) x (by omega) (by simpa using hx)) (λx hx=>h2 x (by simpa using hx));unfold posL at ih⊢;simp[this,ih]
theorem Xx (l:List Ext)(no:Int):posL l no≤l.length:=by
 unfold posL;exact(List.takeWhile_sublist _).length_le
theorem cB {no:Int}:∀{l:List Ext} {m:Nat} {x:Ext},m<posL l no→l[m]?=some x→x.no<no
 | a::r,m,x,hm,hx=>by
  by_cases ha:a.no<no
  ·cases m with
   | zero=>simp at hx;rw[← hx];exact ha
   | succ m=>
    refine cB (l:=r) (m:=m) ?_ (by simpa using hx);unfold posL at hm⊢;simp[ha]at hm;exact hm
  ·unfold posL at hm
   simp[ha]at hm
 | [],m,x,hm,hx=>by simp at hx
theorem lT {no:Int}:∀{l:List Ext} {x:Ext},l[posL l no]?=some x→no≤x.no
 | a::r,x,hx=>by
  by_cases ha:a.no<no
  ·refine lT (l:=r) ?_
   unfold posL at hx⊢
   simpa[ha]using hx
  ·unfold posL at hx
   simp[ha]at hx;rw[← hx];omega
 | [],x,hx=>by simp at hx
theorem RU {l:List Ext}(h:srt l){no:Int}:BP l no↔∃x,l[posL l no]?=some x∧x.no=no:=by
 constructor
 ·rintro⟨x,hx,rfl⟩
  obtain⟨m,hm⟩:=Ai1.1 hx;refine⟨x,?_,rfl⟩;have:posL l x.no=m:=Qe (Nat.le_of_lt (B5.1 hm).1) (λk y hk hy=>Oy h hy hm hk) (λy hy=>by rw[hm]at hy;injection hy with hy;rw[hy];omega);rw[this];exact hm
 ·rintro⟨x,hx,e⟩
  exact⟨x,Ag9 hx,e⟩
def B8 (a b:Int):Int:=if a<b then -1 else if b<a then 1 else 0
theorem Wx (a:Int):BPure prog 172 [I a] (B false):=BPure.flat λH=>VM (by
 unfold T4
 simp)
theorem T0 (a b:Int):BPure prog 136 [I a,I b] (I (B8 a b)):=BPure.flat λH=>TU (by
 unfold Qn;refine As (Wx a) ?_;refine As (Wx b) ?_;unfold B8
 by_cases h1:a<b
 ·simp[h1]
 ·by_cases h2:b<a
  ·simp[h1,h2]
  ·simp[h1,h2])
theorem fQ (x:Ext)(no:Int):BPure prog 175 [.agg (A6 x),I no] (I (B8 x.no no)):=BPure.val (by simp[Az,noIds,G9]) rfl (UR (by
 unfold RN;simp;refine As (T0 x.no no) ?_
 rfl))
theorem aF {n:Int}{k:IntKind}(h1:0≤n)(h2:n≤9223372036854775807):oY .u64 (.lit (.int k n))=some (.lit (.int .u64 n)):=by
 have e1:IntKind.u64.wrap n=n:=by
  simp[IntKind.wrap,IntKind.bits,IntKind.signed];omega
 simp[oY,e1]
theorem X4 {n:Int}:Ar .shr (.lit (.int .u64 n)) (.lit (.int .u64 1))=some (.lit (.int .u64 (n/2))):=by
 have e2:n.fdiv 2=n/2:=Int.fdiv_eq_ediv_of_nonneg _ (by omega);simp[Ar,Rj,IntKind.bits,e2]
theorem vQ:C3 prog 175=true:=by kernel_rfl
theorem sP {l:List Ext}{v:AV}(hv:SV A6 9 l v)(hs:srt l)(hl:l.length≤281474976710656)(no:Int):
  BPure prog 174 [v,I no,.fn (.func 175) [] []] (.tup [I (posL l no),B (decide (BP l no))]):=BPure.val (by simp[Az,noIds,hv.1]) rfl (EN (by
 unfold CZ;simp[hv.len];refine Ef (λn x0 x1 x2 x8 x9 x10 H'=>∃i j:Nat,i+n=j∧j≤l.length∧x0=v∧x1=I no∧x2=.fn (.func 175) [] []∧x8=I l.length∧x9=I i∧x10=I j∧H'=[]∧(∀m x,m<i→l[m]?=some x→x.no<no)∧(∀m x,j≤m→l[m]?=some x→no≤x.no)) ?_ l.length ⟨0,l.length,by simp,by omega,rfl,rfl,rfl,rfl,rfl,rfl,rfl,by simp,λm x hm hx=>by have:=(B5.1 hx).1;omega⟩;rintro n x0 x1 x2 x8 x9 x10 H' R hR ⟨i,j,hij,hj,rfl,rfl,rfl,rfl,rfl,rfl,rfl,h1,h2⟩;unfold Cy;rcases Ah2 i j with hlt | hge
 ·have hx:=DJ (l:=l) (i:=(i+j)/2) (by omega)
  generalize l[(i + j) / 2]'(by omega)=y at hx;simp [hlt,Ax (a:=i) (b:=j) (by omega) (by omega),aF (n:=(i : Int) + j) (by omega) (by omega),X4,aE (a:=((i : Int) + j) / 2) (by omega) (by omega),hv.idx AB hx (i:=((i : Int) + j) / 2) (by omega),vQ];refine bC_of (fQ y no []) ?_;unfold B8
  by_cases c1:y.no<no
  ·simp[c1,Ax (a:=((i:Int)+j)/2) (b:=1) (by omega) (by omega)]
   refine hR (j - ((i+j)/2+1)) _ _ _ _ _ _ _ (by omega) ⟨(i+j)/2+1,j,by omega,hj,rfl,rfl,rfl,rfl,by simp,rfl,rfl,?_,h2⟩;intro m x hm hmx
   by_cases hm2:m=(i+j)/2
   ·rw[hm2,hx]at hmx;injection hmx with e;rw[← e];exact c1
   ·have:=Oy hs hmx hx (by omega);omega
  ·have e:¬(if no<y.no then(1:Int)else 0)<0:=by split<;>omega
   simp[c1,e];refine hR ((i+j)/2 - i) _ _ _ _ _ _ _ (by omega) ⟨i,(i+j)/2,by omega,by omega,rfl,rfl,rfl,rfl,rfl,by simp,rfl,h1,?_⟩;intro m x hm hmx
   by_cases hm2:m=(i+j)/2
   ·rw[hm2,hx]at hmx;injection hmx with e;rw[← e];omega
   ·have:=Oy hs hx hmx (by omega);omega
 ·have hi:i=j:=by omega
  subst hi;have hp:posL l no=i:=Qe (by omega) h1 (λx hx=>h2 i x (by omega) hx);rcases Ah2 i l.length with hil | hil
  ·have hx:=DJ (l:=l) (i:=i) hil
   generalize l[i]=y at hx
   have hh:BP l no↔B8 y.no no=0:=by
    rw[RU hs,hp]
    have:=h2 i y (by omega) hx
    constructor
    ·rintro⟨z,hz,e⟩
     rw[hx]at hz;injection hz with hz;rw[hz,e];unfold B8;simp
    ·intro e
     refine⟨y,hx,?_⟩;unfold B8 at e;split at e
     ·omega
     ·split at e<;>omega
   simp[hil,hv.idx AB hx rfl,vQ];refine bC_of (fQ y no []) ?_;simp[hp,hh]
  ·have hn:¬BP l no:=by
    rw[RU hs,hp];rintro⟨z,hz,e⟩
    have:=(B5.1 hz).1
    omega
   simp[show ¬i<l.length by omega,hp,hn]))
theorem RO {l:List Ext}{v:AV}(hv:SV A6 9 l v)(hs:srt l)(hl:l.length≤281474976710656)(no:Int):
  BPure prog 142 [v,I no] (.tup [I (posL l no),B (decide (BP l no))]):=BPure.val (by simp[Az,noIds,hv.1]) rfl (WY (by
 unfold UQ;refine As (sP hv hs hl no) ?_
 simp))
theorem uR (a c b0 b1 b2 b3 b4 b5 b6 b7 d0 d1 d2 d3 d4 d5 d6 d7:Int):O5 prog .neq 134 (.agg [I a,.lit (.int .u8 b0),.lit (.int .u8 b1),.lit (.int .u8 b2),.lit (.int .u8 b3),.lit (.int .u8 b4),.lit (.int .u8 b5),.lit (.int .u8 b6),.lit (.int .u8 b7)]) (.agg [I c,.lit (.int .u8 d0),.lit (.int .u8 d1),.lit (.int .u8 d2),.lit (.int .u8 d3),.lit (.int .u8 d4),.lit (.int .u8 d5),.lit (.int .u8 d6),.lit (.int .u8 d7)])=some (B !(a==c&&((b0==d0&&(b1==d1&&(b2==d2&&(b3==d3&&(b4==d4&&(b5==d5&&(b6==d6&&(b7==d7&&true))))))))&&true))):=by kernel_rfl
theorem u8i {a b:UInt8}:((a.toNat:Int)==(b.toNat:Int))=decide (a=b):=by
 by_cases h:a=b
 ·subst h;simp
 ·have:¬(a.toNat:Int)=b.toNat:=λe=>h (UInt8.toNat_inj.1 (by omega))
  simp[h,this]
theorem zdenZ (x y:Ext):O5 prog .neq 134 (.agg (A6 x)) (.agg (A6 y))=some (B (decide (x≠y))):=by
 obtain⟨a,b,hb⟩:=x;obtain⟨c,d,hd⟩:=y
 match b,d,hb,hd with
 | [b0,b1,b2,b3,b4,b5,b6,b7],[d0,d1,d2,d3,d4,d5,d6,d7],hb,hd=>
  refine(uR a c b0.toNat b1.toNat b2.toNat b3.toNat b4.toNat b5.toNat b6.toNat b7.toNat d0.toNat d1.toNat d2.toNat d3.toNat d4.toNat d5.toNat d6.toNat d7.toNat).trans ?_;have e:(a==c)=decide (a=c):=by by_cases h:a=c<;>simp[h]
  simp only[u8i,e];simp
abbrev Al0:=@List.take_length
theorem XR {l m:List Ext}{v w:AV}(hv:SV A6 9 l v)(hw:SV A6 9 m w)(hl:l.length≤281474976710656):
  BPure prog 93 [v,w] (B (decide (l=m))):=BPure.val (by simp[Az,hv.1,hw.1]) rfl (J6 (by
 unfold FB;simp[hv.len,hw.len]
 by_cases h0:l.length=m.length
 ·simp[h0]
  refine Ha (λn x0 x1 x12 x13 H'=>∃k:Nat,k+n=l.length∧x0=v∧x1=w∧x12=I l.length∧x13=I k∧H'=[]∧l.take k=m.take k) ?_ l.length ⟨0,by simp,rfl,rfl,by rw[h0],rfl,rfl,rfl⟩;rintro n x0 x1 x12 x13 H' R hR ⟨k,hk,rfl,rfl,rfl,rfl,rfl,ht⟩;unfold Ex;rcases Ah2 k l.length with hlt | hge
  ·have hx:=DJ hlt
   have hy:=DJ (l:=m) (i:=k) (by omega);generalize l[k]=x at hx;generalize m[k]'(by omega)=y at hy;simp [hlt,hv.idx AB hx rfl,hw.idx AB hy rfl,zdenZ]
   by_cases hxy:x=y
   ·simp[hxy,Ax (a:=k) (b:=1) (by omega) (by omega)]
    refine hR (n - 1) _ _ _ _ _ (by omega) ⟨k+1,by omega,rfl,rfl,rfl,rfl,rfl,?_⟩;rw[Aj6,Aj6,hx,hy,ht,hxy]
   ·have:l≠m:=by
     rintro rfl;rw[hx]at hy;injection hy with hy;exact hxy hy
    simp[hxy,this]
  ·have:k=l.length:=by omega
   subst this
   have e:l=m:=by
    rw[Al0,h0,Al0]at ht;exact ht
   simp[e]
 ·have:l≠m:=λh=>h0 (by rw[h])
  have h0':¬(l.length:Int)=m.length:=by omega
  simp[h0',this]))
def YB (a:Int)(l:List Ext)(b:Int)(m:List Ext):Prop:=a=b∧l=m
instance (a:Int) (l:List Ext) (b:Int) (m:List Ext):Decidable (YB a l b m):=by unfold YB;infer_instance
theorem Za {a b:Int}{l m:List Ext}{v w:AV}(hv:SV A6 9 l v)(hw:SV A6 9 m w)(hl:l.length≤281474976710656):
  BPure prog 36 [.agg [I a,v],.agg [I b,w]] (B (decide (YB a l b m))):=BPure.val (by simp[Az,noIds,hv.1,hw.1]) rfl (XW (by
 unfold W5;simp[CE hv,CE hw]
 by_cases h:a=b
 ·simp[h]
  refine As (XR hv hw hl) ?_;simp[YB]
 ·simp[h,YB]))
theorem lS {l:List Ext}(h:srt l){k:Nat}{x:Ext}(hx:l[k]?=some x):posL l x.no=k:=
 Qe (Nat.le_of_lt (B5.1 hx).1) (λj y hj hy=>Oy h hy hx hj) (λy hy=>by rw[hx]at hy;injection hy with hy;rw[hy];omega)
theorem Um {size:Int}{l:List Ext}{v:AV}(hv:SV A6 9 l v)(hs:srt l)(hl:l.length≤281474976710656)(no:Int):
  BPure prog 121 [.agg [I size,v],I no] (I (if BP l no then(posL l no:Int)else -1)):=BPure.val (by simp[Az,noIds,hv.1]) rfl (Th (by
 unfold P7;simp[CE hv];refine OJ (λn x1 x2 x5 H'=>∃k:Nat,k+n=l.length∧x1=I no∧x2=.ptr 0 0∧x5=I k∧H'=[some (.cells [I size,v])]∧∀m x,m<k→l[m]?=some x→x.no≠no) ?_ l.length ⟨0,by simp,rfl,rfl,rfl,rfl,by simp⟩;rintro n x1 x2 x5 H' R hR ⟨k,hk,rfl,rfl,rfl,rfl,hm⟩;unfold Kg;rcases Ah2 k l.length with hlt | hge
 ·have hx:=DJ hlt
  generalize l[k]=x at hx;simp[hlt,hv.len,hv.idx AB hx rfl]
  by_cases he:x.no=no
  ·have h1:BP l no:=⟨x,Ag9 hx,he⟩
   have h2:=lS hs hx;rw[he]at h2;simp[he,h1,h2]
  ·simp[he,Ax (a:=k) (b:=1) (by omega) (by omega)]
   refine hR (n - 1) _ _ _ _ (by omega) ⟨k+1,by omega,rfl,rfl,rfl,rfl,?_⟩;intro m y hmk hy
   by_cases hmk2:m=k
   ·rw[hmk2,hx]at hy;injection hy with hy;rw[← hy];exact he
   ·exact hm m y (by omega) hy
 ·have:¬BP l no:=by
   rintro⟨x,hx,he⟩;obtain⟨m,hmx⟩:=Ai1.1 hx;exact hm m x (by have:=(B5.1 hmx).1;omega) hmx he
  have hk':k=l.length:=by omega
  simp[hk',hv.len,this]))
structure KO {κ:Type}(c:κ→κ→Int):Prop where
 eq:∀a b,c a b=0↔a=b
 anti:∀a b,c a b<0↔0<c b a
 trans:∀a b d,c a b<0→c b d<0→c a d<0
section
variable {κ α : Type} {c : κ→κ→Int} {key : α→κ}
theorem KO.irr (h:KO c)(a:κ):¬c a a<0:=by have:=(h.eq a a).2 rfl;omega
theorem KO.tri (h:KO c){a b:κ}(h1:¬c a b<0)(h2:¬c b a<0):a=b:=by
 refine(h.eq a b).1 ?_;rw[h.anti]at h2;omega
def Cn (c:κ→κ→Int)(key:α→κ)(l:List α):Prop:=l.Pairwise λa b=>c (key a) (key b)<0
def CX (c:κ→κ→Int)(key:α→κ)(l:List α)(k:κ):Nat:=(l.takeWhile λx=>decide (c (key x) k<0)).length
def AT (key:α→κ)(l:List α)(k:κ):Prop:=∃x∈l,key x=k
instance [DecidableEq κ] (key:α→κ) (l:List α) (k:κ):Decidable (AT key l k):=by unfold AT;infer_instance
instance (c:κ→κ→Int) (key:α→κ) (l:List α):Decidable (Cn c key l):=by unfold Cn;infer_instance
theorem Lu {l:List α}(h:Cn c key l){i j:Nat}{x y:α}(hi:l[i]?=some x)(hj:l[j]?=some y)(hij:i<j):c (key x) (key y)<0:=by
 obtain⟨h1,e1⟩:=B5.1 hi;obtain⟨h2,e2⟩:=B5.1 hj
 have:=List.pairwise_iff_getElem.1 h i j h1 h2 hij
 rw[e1,e2]at this;exact this
theorem Ol {k:κ}:∀{l:List α} {i:Nat},i≤l.length→(∀m x,m<i→l[m]?=some x→c (key x) k<0)→(∀x,l[i]?=some x→¬c (key x) k<0)→CX c key l k=i
 | [],i,hi,_,_=>by simp at hi;simp[CX,hi]
 | a::r,0,_,_,h=>by
  have:=h a (by simp)
  simp[CX,this]
 | a::r,i+1,hi,h1,h2=>by
  have:=h1 0 a (by omega) (by simp)
  have ih:=Ol (l:=r) (i:=i) (k:=k) (by simpa using hi) (λm x hm hx=>h1 (m+1) x (by omega) (by simpa using hx)) (λx hx=>h2 x (by simpa using hx));unfold CX at ih⊢;simp[this,ih]
theorem Xw (l:List α)(k:κ):CX c key l k≤l.length:=by
 unfold CX;exact(List.takeWhile_sublist _).length_le
theorem lQ {k:κ}:∀{l:List α} {m:Nat} {x:α},m<CX c key l k→l[m]?=some x→c (key x) k<0
 | a::r,m,x,hm,hx=>by
  by_cases ha:c (key a) k<0
  ·cases m with
   | zero=>simp at hx;rw[← hx];exact ha
   | succ m=>
    refine lQ (l:=r) (m:=m) ?_ (by simpa using hx);unfold CX at hm⊢;simp[ha]at hm;exact hm
  ·unfold CX at hm
   simp[ha]at hm
 | [],m,x,hm,hx=>by simp at hx
theorem cA {k:κ}:∀{l:List α} {x:α},l[CX c key l k]?=some x→¬c (key x) k<0
 | a::r,x,hx=>by
  by_cases ha:c (key a) k<0
  ·refine cA (l:=r) ?_
   unfold CX at hx⊢
   simpa[ha]using hx
  ·unfold CX at hx
   simp[ha]at hx;rw[← hx];exact ha
 | [],x,hx=>by simp at hx
theorem SG (hc:KO c){l:List α}(h:Cn c key l){m:Nat}{x:α}(hm:l[m]?=some x):CX c key l (key x)=m:=
 Ol (Nat.le_of_lt (B5.1 hm).1) (λk y hk hy=>Lu h hy hm hk) (λy hy=>by rw[hm]at hy;injection hy with hy;rw[hy];exact hc.irr _)
theorem M7 (hc:KO c){l:List α}(h:Cn c key l){k:κ}:AT key l k↔∃x,l[CX c key l k]?=some x∧key x=k:=by
 constructor
 ·rintro⟨x,hx,rfl⟩
  obtain⟨m,hm⟩:=Ai1.1 hx;exact⟨x,by rw[SG hc h hm];exact hm,rfl⟩
 ·rintro⟨x,hx,e⟩
  exact⟨x,Ag9 hx,e⟩
theorem UT (hc:KO c){l:List α}(h:Cn c key l){k:κ}(hk:AT key l k):CX c key l k<l.length:=by
 obtain⟨x,hx,-⟩:=(M7 hc h).1 hk;exact(B5.1 hx).1
theorem SN (hc:KO c){l:List α}(h:Cn c key l){x y:α}(hx:x∈l)(hy:y∈l)(e:key x=key y):x=y:=by
 obtain⟨m,hm⟩:=Ai1.1 hx;obtain⟨m',hm'⟩:=Ai1.1 hy;have h1:=SG hc h hm;have h2:=SG hc h hm';rw[e,h2]at h1;subst h1;rw[hm]at hm';injection hm'
def FD (c:κ→κ→Int)(key:α→κ)(l:List α)(x:α):List α:=l.take (CX c key l (key x))++x::l.drop (CX c key l (key x))
def Dn (c:κ→κ→Int)(key:α→κ)(l:List α)(k:κ):List α:=l.take (CX c key l k)++l.drop (CX c key l k+1)
theorem G8 {l:List α}{x y:α}:y∈FD c key l x↔y=x∨y∈l:=by
 unfold FD;rw[Ak1,Ak0]
 constructor
 ·rintro(h | h | h)
  ·exact .inr (Al4 h)
  ·exact .inl h
  ·exact .inr (Am8 h)
 ·rintro(h | h)
  ·exact .inr (.inl h)
  ·rw[← Al5 (CX c key l (key x)) l,Ak1]at h
   exact h.imp id .inr
abbrev Am9:=@List.pairwise_append
abbrev Am7:=@List.pairwise_cons
theorem YD (hc:KO c){l:List α}(h:Cn c key l){x:α}(hn:¬AT key l (key x)):Cn c key (FD c key l x):=by
 unfold FD Cn
 have hl:∀y∈l.take (CX c key l (key x)),c (key y) (key x)<0:=by
  intro y hy;obtain⟨m,hm⟩:=Ai1.1 hy;rw[Ah5]at hm;split at hm
  ·rename_i h1;exact lQ h1 hm
  ·cases hm
 have hr:∀y∈l.drop (CX c key l (key x)),c (key x) (key y)<0:=by
  intro y hy;obtain⟨m,hm⟩:=Ai1.1 hy;rw[Ah6]at hm
  have hg:¬c (key y) (key x)<0:=by
   rcases Al1 m with rfl | hm0
   ·exact cA hm
   ·intro h2
    have hlt:CX c key l (key x)<l.length:=by have:=(B5.1 hm).1;omega
    have h3:=DJ hlt;exact cA h3 (hc.trans _ _ _ (Lu h h3 hm (by omega)) h2)
  by_cases h1:c (key x) (key y)<0
  ·exact h1
  ·exact absurd ⟨y,Ag9 hm,(hc.tri h1 hg).symm⟩ hn
 refine Am9.2 ⟨h.sublist (List.take_sublist _ _),Am7.2 ⟨hr,h.sublist (List.drop_sublist _ _)⟩,?_⟩;intro a ha b hb;rcases Ak0.1 hb with rfl | hb
 ·exact hl a ha
 ·exact hc.trans _ _ _ (hl a ha) (hr b hb)
abbrev Ar9:=@List.Sublist.refl
theorem delK_sub {l:List α}{k:κ}:(Dn c key l k).Sublist l:=by
 unfold Dn
 conv=>rhs;rw[← Al5 (CX c key l k) l]
 refine List.Sublist.append (Ar9 _) ?_;rw[← An0];exact List.drop_sublist _ _
theorem EU {l:List α}(h:Cn c key l){k:κ}:Cn c key (Dn c key l k):=h.sublist delK_sub
theorem HK (hc:KO c){l:List α}(h:Cn c key l){k:κ}(hk:AT key l k){y:α}:y∈Dn c key l k↔y∈l∧key y≠k:=by
 obtain⟨x,hx,rfl⟩:=(M7 hc h).1 hk;have hlt:=(B5.1 hx).1
 have e:l=l.take (CX c key l (key x))++x::l.drop (CX c key l (key x)+1):=by
  conv=>lhs;rw[← Al5 (CX c key l (key x)) l]
  rw[Al8 hlt,(B5.1 hx).2]
 have hs:=h;unfold Cn at hs;generalize CX c key l (key x)=p at*;unfold Dn;rw[SG hc h hx];rw[e]at hs;rw[Am9,Am7]at hs
 constructor
 ·intro hy
  rw[Ak1]at hy;rcases hy with hy | hy
  ·exact⟨Al4 hy,λe2=>hc.irr (key x) (e2▸hs.2.2 y hy x (by simp))⟩
  ·exact⟨Am8 hy,λe2=>hc.irr (key x) (e2▸hs.2.1.1 y hy)⟩
 ·rintro⟨hy,hne⟩
  rw[e,Ak1,Ak0]at hy;rw[Ak1];rcases hy with hy | rfl | hy
  ·exact .inl hy
  ·exact absurd rfl hne
  ·exact .inr hy
theorem Sc {l:List α}{x:α}:(FD c key l x).length=l.length+1:=by
 have:=Xw (c:=c) (key:=key) l (key x)
 unfold FD;rw[Ah9,Al7,Ah1,Ah8];omega
theorem Ro {l:List α}{k:κ}(h:CX c key l k<l.length):(Dn c key l k).length+1=l.length:=by
 unfold Dn;rw[Ah9,Ah1,Ah8];omega
end
abbrev Bd:List UInt8→List UInt8→Int:=Lib.compareBytes
abbrev Aq9:=@UInt8.lt_irrefl
abbrev As0:=@UInt8.le_antisymm
theorem kU:∀a b:List UInt8,Bd a b=0↔a=b
 | [],[]=>by simp[Bd,Lib.compareBytes]
 | [],_::_=>by simp[Bd,Lib.compareBytes]
 | _::_,[]=>by simp[Bd,Lib.compareBytes]
 | x::a,y::b=>by
  have ih:=kU a b;simp only[Bd]at ih⊢;unfold Lib.compareBytes
  by_cases h1:x<y
  ·have:x≠y:=λe=>by subst e;exact Aq9 _ h1
   simp[h1,this]
  ·by_cases h2:y<x
   ·have:x≠y:=λe=>by subst e;exact Aq9 _ h2
    simp[h1,h2,this]
   ·have:x=y:=As0 (UInt8.not_lt.1 h2) (UInt8.not_lt.1 h1)
    simp[this,ih]
theorem aR:∀a b:List UInt8,Bd a b<0↔a<b
 | [],[]=>by simp[Bd,Lib.compareBytes]
 | [],_::_=>by simp[Bd,Lib.compareBytes]
 | _::_,[]=>by simp[Bd,Lib.compareBytes]
 | x::a,y::b=>by
  have ih:=aR a b;simp only[Bd]at ih⊢;unfold Lib.compareBytes;rw[List.cons_lt_cons_iff]
  by_cases h1:x<y
  ·simp[h1]
  ·by_cases h2:y<x
   ·have:x≠y:=λe=>by subst e;exact Aq9 _ h2
    simp[h1,h2,this]
   ·have:x=y:=As0 (UInt8.not_lt.1 h2) (UInt8.not_lt.1 h1)
    simp[this,ih]
theorem kV:∀a b:List UInt8,0<Bd a b↔b<a
 | [],[]=>by simp[Bd,Lib.compareBytes]
 | [],_::_=>by simp[Bd,Lib.compareBytes]
 | _::_,[]=>by simp[Bd,Lib.compareBytes]
 | x::a,y::b=>by
  have ih:=kV a b;simp only[Bd]at ih⊢;unfold Lib.compareBytes;rw[List.cons_lt_cons_iff]
  by_cases h1:x<y
  ·have:¬y<x:=λh=>UInt8.lt_asymm h1 h
   have h3:y≠x:=λe=>by subst e;exact Aq9 _ h1
   simp[h1,this,h3]
  ·by_cases h2:y<x
   ·simp[h1,h2]
   ·have:x=y:=As0 (UInt8.not_lt.1 h2) (UInt8.not_lt.1 h1)
    simp[this,ih]
theorem koN:KO Bd where
 eq:=kU
 anti a b:=by rw[aR,kV]
 trans a b d h1 h2:=by rw[aR]at*;exact List.lt_trans h1 h2
theorem O9:∀a b:List UInt8,Op.bytesLess a b=decide (Bd a b<0)
 | [],[]=>by simp[Op.bytesLess,Bd,Lib.compareBytes]
 | _::_,[]=>by simp[Op.bytesLess,Bd,Lib.compareBytes]
 | [],_::_=>by simp[Op.bytesLess,Bd,Lib.compareBytes]
 | x::a,y::b=>by
  have ih:=O9 a b;simp only[Bd]at ih⊢;unfold Op.bytesLess Lib.compareBytes;rw[ih]
  by_cases h1:x<y
  ·simp[h1]
  ·by_cases h2:y<x
   ·have:x≠y:=λe=>by subst e;exact Aq9 _ h2
    simp[h1,h2,this]
   ·have:x=y:=As0 (UInt8.not_lt.1 h2) (UInt8.not_lt.1 h1)
    simp[this]
theorem S3 {a b:List UInt8}:Xq .geq (S (B0 a)) (S (B0 b))=some (B (decide (¬Bd a b<0))):=by
 simp only[Xq,Ww,Af6,O9]
 by_cases h:Bd a b<0<;>simp[h]
theorem kL {a b:List UInt8}:Xq .lss (S (B0 a)) (S (B0 b))=some (B (decide (Bd a b<0))):=by
 simp only[Xq,Ww,Af6,O9]
theorem VE {l:List UInt8}{k:Nat}{i:Int}{y:UInt8}(hi:i=k)(h:l[k]?=some y):iB (S (B0 l)) (I i)=some (.lit (.int .u8 y.toNat)):=by
 subst hi
 have:(B0 l)[k]?=some y:=by
  obtain⟨h1,h2⟩:=B5.1 h;have hs:k<(B0 l).size:=by rw[Mp];exact h1
  rw[getElem?_pos (B0 l) k hs]
  congr 1
 simp[iB,L3,this]
theorem Zw {l:List UInt8}(h:l.length≤9223372036854775807):WR (S (B0 l))=some (I l.length):=by
 simp[WR,Mp]
end
section
structure Sl (α:Type) where
 l:List α
 nil:Bool
structure Rd (P:Program)(t:TypeId)(α:Type) where
 size:Nat
 enc:α→List AV
 ok:α→Prop
 cells:P.cellsOf t=size
 read:∀{H:Type} {e:TypeId×Value→H} {W:World} {fuel:Nat} {cs:List Value} {d:DataW H×List MemPlace},DataW.trod e P W 0 (λ_=>true) true fuel t cs=some d→
  ∃x,ok x∧cs.length=size∧VRs (Cfg.start W) (enc x) cs∧∀u∈cs,u.oneCell'=true
section
variable {P : Program}
def Rd.int {t:TypeId}(k:IntKind)(hu:P.underlying t=some (.int k))(hc:P.cellsOf t=1):Rd P t Int where
 size:=1
 enc n:=[.lit (.int k n)]
 ok n:=k.min≤n∧n≤k.max
 cells:=hc
 read {H e W fuel cs d} h:=by
  obtain⟨n,rfl,-,hw⟩:=DataW.trod_int hu h;refine⟨n,by simpa[Lit.wf]using hw,rfl,.cons (by simp only[VR]) .nil,by simp[Value.oneCell']⟩
def Rd.bool {t:TypeId}(hu:P.underlying t=some .bool)(hc:P.cellsOf t=1):Rd P t Bool where
 size:=1
 enc b:=[.lit (.bool b)]
 ok _:=True
 cells:=hc
 read {H e W fuel cs d} h:=by
  obtain⟨b,rfl,-⟩:=DataW.trod_bool hu h;exact⟨b,trivial,rfl,.cons (by simp only[VR]) .nil,by simp[Value.oneCell']⟩
abbrev Aa9:=And.intro @List.mem_append.{0} @List.mem_singleton.{0}
abbrev Ak4:=@List.flatMap_append
theorem fX {t:TypeId}{α:Type}(E:Rd P t α){W:World}{a:Addr}{H:Type}{e:TypeId×Value→H}{fuel:Nat}:∀(n:Nat) (ds:List (DataW H×List MemPlace)),ds.length=n→
  (∀i,i<n→(W.cells? 0 (a.add (i*P.cellsOf t)) (P.cellsOf t)).bind (DataW.trod e P W 0 (λ_=>true) true fuel t)=ds[i]?)→
  ∃(xs:List α) (vs:List Value),xs.length=n∧(∀x∈xs,E.ok x)∧vs.length=n*E.size∧VRs (Cfg.start W) (xs.flatMap E.enc) vs∧∀(i:Nat) (v:Value),vs[i]?=some v→W.cell? (a.add i)=some v∧v.oneCell'=true
 | 0,ds,hl,h=>⟨[],[],rfl,by simp,by simp,.nil,by simp⟩
 | n+1,ds,hl,h=>by
  obtain⟨xs,vs,h1,h2,h3,h4,h5⟩:=fX E n (ds.take n) (by rw[Ah1];omega) (λi hi=>by
   rw[h i (by omega),Ah5,if_pos hi])
  have hn:=h n (by omega);rw[DJ (by omega)]at hn;obtain⟨cs,hcs,htr⟩:=Option.bind_eq_some_iff.1 hn;obtain⟨x,hx,hxl,hxv,hx1⟩:=E.read htr;obtain⟨-,hcl,hcell⟩:=World.cells?_some hcs;refine⟨xs++[x],vs++cs,by simp[h1],?_,?_,?_,?_⟩
  ·intro y hy
   simp only[Aa9]at hy;rcases hy with hy | rfl
   ·exact h2 y hy
   ·exact hx
  ·rw[Ah9,h3,hxl,Ak8]
  ·rw[Ak4]
   simpa using h4.append hxv
  ·intro i v hv
   rcases Ah2 i vs.length with hlt | hge
   ·rw[Ag8 hlt]at hv
    exact h5 i v hv
   ·rw[Ah0 hge,h3]at hv
    have hlt:=(B5.1 hv).1
    have:=hcell (i - n*E.size) (by rw[← hcl];exact hlt)
    rw[hv,E.cells,Addr.add_add]at this;rw[show n*E.size+(i - n*E.size)=i by omega]at this;exact⟨this,hx1 v (Ag9 hv)⟩
def Rd.slice {t e:TypeId}{α:Type}(E:Rd P e α)(hu:P.underlying t=some (.slice e))(hc:P.cellsOf t=1):Rd P t (Sl α) where
 size:=1
 enc s:=[if s.nil then .lit (.slice none 0 0)else .imm (s.l.flatMap E.enc) s.l.length E.size]
 ok s:=(s.nil=true→s.l=[])∧s.l.length≤maxLen∧∀x∈s.l,E.ok x
 cells:=hc
 read {H e' W fuel cs d} h:=by
  rcases DataW.trod_slice hu h with⟨rfl,-⟩ | ⟨a,len,cap,elems,rest,n,-,rfl,-,-,h1,h2,h3,h4,-,-⟩
  ·exact⟨⟨[],true⟩,⟨λ_=>rfl,by simp,by simp⟩,rfl,.cons (by simp only[if_true,VR]) .nil,by simp[Value.oneCell']⟩
  ·obtain⟨xs,vs,g1,g2,g3,g4,g5⟩:=fX E len elems h3 h4
   refine⟨⟨xs,false⟩,⟨by simp,by simp only;omega,g2⟩,rfl,.cons ?_ .nil,by simp[Value.oneCell']⟩;simp only[At,VR];refine⟨a,cap,vs,by rw[g1],by omega,.inr ⟨λhh=>hh.elim id id,g5⟩,g4⟩
structure Rds (P:Program)(fs:List Field)(off total:Nat)(α:Type) where
 enc:α→List AV
 ok:α→Prop
 le:off≤total
 read:∀{H:Type} {e:TypeId×Value→H} {W:World} {fuel:Nat} {cs:List Value} {ds:List (DataW H×List MemPlace)},cs.length=total→ds.length=fs.length→
  (∀(i:Nat) (f:Field),fs[i]?=some f→DataW.trod e P W 0 (λ_=>true) true fuel f.type ((cs.drop f.offset).take (P.cellsOf f.type))=ds[i]?)→
  ∃x,ok x∧VRs (Cfg.start W) (enc x) (cs.drop off)∧∀u∈cs.drop off,u.oneCell'=true
abbrev Aj8:=@List.drop_of_length_le
def Rds.nil (P:Program)(total:Nat):Rds P [] total total Unit where
 enc _:=[]
 ok _:=True
 le:=Ah3 _
 read {H e W fuel cs ds} hl _ _:=⟨(),trivial,by rw[Aj8 (by omega)];exact .nil,by rw[Aj8 (by omega)];simp⟩
def Rds.cons {f:Field}{fs:List Field}{t:TypeId}{off total:Nat}{α β:Type}(E:Rd P t α)(R:Rds P fs (off+E.size) total β)(ht:f.type=t)(ho:f.offset=off):Rds P (f::fs) off total (α×β) where
 enc x:=E.enc x.1++R.enc x.2
 ok x:=E.ok x.1∧R.ok x.2
 le:=Ai8 (Nat.le_add_right _ _) R.le
 read {H e W fuel cs ds} hl hd h:=by
  subst ht;cases ds with
  | nil=>simp at hd
  | cons d ds=>
   have h0:=h 0 f rfl;simp only[Di]at h0;obtain⟨x,hx,hxl,hxv,hx1⟩:=E.read h0;obtain⟨y,hy,hyv,hy1⟩:=R.read hl (by simpa using hd) (λi g hg=>by simpa using h (i+1) g (by simpa using hg))
   have e1:cs.drop off=(cs.drop f.offset).take (P.cellsOf f.type)++cs.drop (off+E.size):=by
    rw[ho,E.cells];rw[← An0,Al5]
   rw[e1];refine⟨(x,y),⟨hx,hy⟩,hxv.append hyv,?_⟩;intro u hu;rcases Ak1.1 hu with hu | hu
   ·exact hx1 u hu
   ·exact hy1 u hu
def Rd.struct {t:TypeId}{fs:Array Field}{total:Nat}{α:Type}(R:Rds P fs.toList 0 total α)(hu:P.underlying t=some (.struct fs))(hc:P.cellsOf t=total):Rd P t α where
 size:=total
 enc:=R.enc
 ok:=R.ok
 cells:=hc
 read {H e W fuel cs d} h:=by
  obtain⟨xs,n,-,-,hl,hxl,hx⟩:=DataW.trod_struct hu h;rw[hc]at hl;obtain⟨x,h1,h2,h3⟩:=R.read (ds:=xs) hl (by simpa using hxl) (λi f hf=>hx i f (by simpa using hf));exact⟨x,h1,hl,by simpa using h2,by simpa using h3⟩
theorem Rd.arg1 {t:TypeId}{α:Type}(E:Rd P t α){H:Type}{e:TypeId×Value→H}{W:World}{v:Value}{d:DataW H}{ps:List MemPlace}(hv:v.cells= #[v])
  (h:DataW.Trod e P W 0 (λ_=>true) true t v d ps):∃x,E.ok x∧VRs (Cfg.start W) (E.enc x) [v]:=by
 obtain⟨fuel,h⟩:=h;obtain⟨x,h1,-,h2,-⟩:=E.read h;rw[hv]at h2;exact⟨x,h1,h2⟩
end
end
section
def Rd.byte {P:Program}{t:TypeId}(hu:P.underlying t=some (.int .u8))(hc:P.cellsOf t=1):Rd P t UInt8 where
 size:=1
 enc b:=[.lit (.int .u8 b.toNat)]
 ok _:=True
 cells:=hc
 read {H e W fuel cs d} h:=by
  obtain⟨n,rfl,-,hw⟩:=DataW.trod_int hu h;have hb:0≤n∧n≤255:=by simpa[Lit.wf,IntKind.min,IntKind.max,IntKind.signed,IntKind.bits]using hw
  refine⟨UInt8.ofNat n.toNat,trivial,rfl,.cons ?_ .nil,by simp[Value.oneCell']⟩;simp only[VR]
  congr 1
  have:n.toNat<256:=by omega
  rw[UInt8.toNat_ofNat_of_lt' this];omega
section
variable {P : Program} {f : FuncId} {args : List AV}
theorem BPure.of_true (h:ACalls P f [] [] λr _=>r=B true):BPure P f [] (B true):=λH=>
 ACalls.pure (R':=λr=>r=B true) h (by simp only[Dz]) (λr X hr=>⟨1,r,by rw[hr];rfl,hr⟩) H
end
end
section
def FZ (X:AH)(v R:AV):Prop:=∃n0,∀n,n0≤n→NC X n v=some R
def FZs (X:AH)(vs Rs:List AV):Prop:=∃n0,∀n,n0≤n→OB (NC X n) vs=some Rs
theorem FZs.nil {X:AH}:FZs X [] []:=⟨0,λ_ _=>rfl⟩
theorem FZs.cons {X:AH}{v R:AV}{vs Rs:List AV}(h:FZ X v R)(hs:FZs X vs Rs):FZs X (v::vs) (R::Rs):=by
 obtain⟨a,ha⟩:=h;obtain⟨b,hb⟩:=hs;exact⟨a+b,λn hn=>by simp only[OB,ha n (by omega),hb n (by omega)]⟩
theorem FZ.agg {X:AH}{vs Rs:List AV}(hs:FZs X vs Rs):FZ X (.agg vs) (.agg Rs):=by
 obtain⟨b,hb⟩:=hs;refine⟨b+1,λn hn=>?_⟩;cases n with
 | zero=>omega
 | succ n=>simp only[NC,hb n (by omega)];rfl
theorem FZ.tup {X:AH}{vs Rs:List AV}(hs:FZs X vs Rs):FZ X (.tup vs) (.tup Rs):=by
 obtain⟨b,hb⟩:=hs;refine⟨b+1,λn hn=>?_⟩;cases n with
 | zero=>omega
 | succ n=>simp only[NC,hb n (by omega)];rfl
theorem FZ.lit {X:AH}(v:Value):FZ X (.lit v) (.lit v):=⟨1,λn hn=>by cases n with
 | zero=>omega
 | succ n=>rfl⟩
theorem FZ.same {X:AH}{v:AV}(h:noIds v=true):FZ X v v:=S9 X v h
theorem FZ.sv {α:Type}{enc:α→List AV}{X:AH}{sz:Nat}{l:List α}{v:AV}(h:Ad X sz v=some (l.flatMap enc,l.length))(hc:Az (l.flatMap enc)=true):∃R,SV enc sz l R∧FZ X v R:=by
 obtain⟨R,n0,h1,h2,h3⟩:=VV h hc;exact⟨R,⟨h1,h2⟩,n0,h3⟩
section
variable {P : Program} {f : FuncId} {args : List AV}
theorem BPure.FZ {Q:AV→Prop}(hb:Az args=true)(h:∃r X,(∃R,Av.FZ X r R∧Q R)∧BCall P f args [] r X):∃R,Q R∧BPure P f args R:=by
 obtain⟨r,X,⟨R,⟨n,hn⟩,hq⟩,h⟩:=h;exact BPure.fz hb ⟨r,X,⟨n,R,hn n (Ah3 _),hq⟩,h⟩
theorem PCall.lend {H:AH}{args':List AV}{x:AV}(hs:FZs H args args')(hx:M4 x=true)(h:BPure P f args' x):PCall P f args H x:=by
 obtain⟨n,hn⟩:=hs;exact .inr ⟨n,args',hn n (Ah3 _),hx,h⟩
end
theorem Y0:∀{a b:List AV},Az a=true→Az b=true→Az (a++b)=true
 | [],b,_,h=>h
 | x::a,b,h1,h2=>by
  simp only[Az,Ai4,An6]at h1⊢;exact⟨h1.1,Y0 h1.2 h2⟩
theorem Eh {α:Type}{enc:α→List AV}:∀{l:List α},(∀x∈l,Az (enc x)=true)→Az (l.flatMap enc)=true
 | [],_=>rfl
 | a::l,h=>by
  rw[Aj3];exact Y0 (h a (by simp)) (Eh λx hx=>h x (by simp[hx]))
theorem HN {H:AH}{sz n:Nat}{v:AV}{cs:List AV}(h:Ad H sz v=some (cs,n))(ho:Bh v=true)(hn:0<n):
  ∃o off cap cells,v=.sl o off n sz cap∧H[o]?=some (some (.cells cells))∧off+n*sz≤cells.length∧cs=(cells.drop off).take (n*sz):=by
 unfold Ad at h;split at h
 ·simp[Bh]at ho
 ·rename_i o off len esz cap
  split at h
  ·rename_i c hoc
   split at h
   ·rename_i hb
    obtain⟨rfl,hb⟩:=hb;injection h with h;injection h with h1 h2;subst h1;subst h2;exact⟨o,off,cap,c,rfl,hoc,hb,rfl⟩
   ·cases h
  ·cases h
 ·injection h with h;injection h with h1 h2;omega
 ·injection h with h;injection h with h1 h2;omega
 ·cases h
theorem HM {cs xs:List AV}{k:Nat}(h:k+xs.length≤cs.length):(BS cs k xs).length=cs.length:=by
 unfold BS;simp only[Ab6];omega
theorem KN {cs xs:List AV}{k:Nat}(h:k+xs.length≤cs.length)(i:Nat):(BS cs k xs)[i]?=if k≤i∧i<k+xs.length then xs[i - k]? else cs[i]?:=by
 have h1:(cs.take k).length=k:=by rw[Ah1];omega
 unfold BS
 split
 ·rename_i c
  rw[Ag8 (by rw[Ah9];omega),Ah0 (by omega),h1]
 ·rename_i c
  by_cases c1:i<k
  ·rw[Ai0,Ag8 (by omega),Ah5,if_pos c1]
  ·rw[Ah0 (by rw[Ah9];omega),Ah9,h1,Ah6]
   congr 1;omega
theorem Pw {cs xs:List AV}{off m k:Nat}(h1:off+m≤cs.length)(h2:k+xs.length≤m):((BS cs (off+k) xs).drop off).take m=BS ((cs.drop off).take m) k xs:=by
 refine Aj5 λi=>?_
 rw[Ah5,Ah6,KN (by omega),KN (by rw[Ah1,Ah8];omega),Ah5,Ah6]
 by_cases c:i<m
 ·rw[if_pos c]
  by_cases c2:k≤i∧i<k+xs.length
  ·rw[if_pos c2,if_pos (by omega)];congr 1;omega
  ·rw[if_neg c2,if_neg (by omega),if_pos c]
 ·rw[if_neg c,if_neg (by omega),if_neg c]
abbrev Ar4:=@List.set_cons_zero
abbrev Aj1:=@List.take_append_of_le_length
abbrev Ar5:=@List.set_cons_succ
theorem Pv {α:Type}{enc:α→List AV}{sz:Nat}(hsz:∀x,(enc x).length=sz){l:List α}{k q:Nat}{x y:α}{xs:List AV}(hx:l[k]?=some x)(hy:enc y=BS (enc x) q xs)(hq:q+xs.length≤sz):
  BS (l.flatMap enc) (k*sz+q) xs=(l.set k y).flatMap enc:=by
 induction l generalizing k with
 | nil=>simp at hx
 | cons a l ih=>
  cases k with
  | zero=>
   simp at hx;subst hx;rw[Ar4,Aj3,Aj3,hy];have ha:=hsz a;unfold BS;rw[As9,Ao5,Aj1 (by omega),List.drop_append_of_le_length (by omega)];simp[Ai0]
  | succ k=>
   simp at hx;rw[Ar5,Aj3,Aj3,← ih hx];have ha:=hsz a;unfold BS;have e:(k+1)*sz+q=(enc a).length+(k*sz+q):=by rw[ha,Ak8];omega
   rw[e,List.take_length_add_append,show(enc a).length+(k*sz+q)+xs.length=(enc a).length+(k*sz+q+xs.length) by omega,List.drop_length_add_append];simp[Ai0]
end
section
theorem ExtR.apart {P : Program}{k : FuncId}{fn : Func}{tS tR e : TypeId}{size : Nat}(hf : P.funcs[k]? = some fn)(hname : (fn.name == "runtime.NumGoroutine") = false)(hb : fn.body.isNone = true)(hn : Extern.findNext fn = none)
  (he:Extern.find fn=some (Extern.SlicesOverlaps.overlaps #[tS,tS] #[tR])) (ht:P.underlying tS=some (.slice e)) (hz:∀w,(Go.sizeOf e).run P w=.ok size w)
  {H:AH} {oa offa la ea ka ob offb lb eb kb:Nat} {ca cb:List AV} (ha:H[oa]?=some (some (.cells ca))) (hbo:H[ob]?=some (some (.cells cb))) (hne:oa≠ob) (hka:ka≠0) (hkb:kb≠0) (hcb:cb≠[]):
  ExtR P k [.sl oa offa la ea (.ex ka),.sl ob offb lb eb (.ex kb)] H (B false):=by
 intro G vs hr hv;simp only[VRs]at hv;obtain⟨v,r,rfl,h1,v2,r2,rfl,h2,rfl⟩:=hv;simp only[VR]at h1 h2;obtain⟨ho1,a,c,rfl,hl1,hs1⟩:=h1;obtain⟨ho2,a2,c2,rfl,hl2,hs2⟩:=h2;have hc1:c≠0:=by simp only[SlAt]at hs1;omega
 have hc2:c2≠0:=by simp only[SlAt]at hs2;omega
 obtain⟨rfl,-⟩:=GS hs1 hc1;obtain⟨rfl,-⟩:=GS hs2 hc2;obtain⟨q1,e1,u1,p1,p2,p3,p4,p5⟩:=hr.obj _ _ ha;obtain⟨q2,e2,u2,w1,w2,w3,w4,w5⟩:=hr.obj _ _ hbo;have hblk:(G.μ oa).1≠(G.μ ob).1:=λh=>hne (hr.inj _ _ _ _ ha hbo h)
 have hlen:0<cb.length:=by cases cb with
  | nil=>exact absurd rfl hcb
  | cons a r=>simp
 refine⟨.bool false,?_,by simp only[VR]⟩;rw[run_callFunc_extern hf hname hb hn he]
 have:=Go.Lib.run_overlaps_apart (P:=P) G.w tS tR e ht size hz ⟨(G.μ oa).1,(G.μ oa).2.1+offa,none⟩ ⟨(G.μ ob).1,(G.μ ob).2.1+offb,none⟩ la c lb c2 hblk e1 e2 q1.size q2.size
  (by simp[World.shape?,p1]) (by simp[World.shape?,w1]) (by omega) (by simp[World.frozen?,p1]) (by simp[World.frozen?,p1])
 show(((Extern.SlicesOverlaps.overlaps #[tS,tS] #[tR]) _).run P G.w).andThen _=_
 have e:(#[Value.slice (some ⟨(G.μ oa).1,(G.μ oa).2.1+offa,none⟩) la c,Value.slice (some ⟨(G.μ ob).1,(G.μ ob).2.1+offb,none⟩) lb c2]:Array Value)=[Value.slice (some ⟨(G.μ oa).1,(G.μ oa).2.1+offa,none⟩) la c,Value.slice (some ⟨(G.μ ob).1,(G.μ ob).2.1+offb,none⟩) lb c2].toArray:=rfl;rw[← e,this];rfl
mutual
def AV.ren (σ:Nat→Nat×Nat):AV→AV
 | .lit v=>.lit v
 | .ptr o off=>.ptr (σ o).1 ((σ o).2+off)
 | .ip cs=>.ip (Vw σ cs)
 | .sl o off len esz cap=>.sl (σ o).1 ((σ o).2+off) len esz cap
 | .imm cs len esz=>.imm (Vw σ cs) len esz
 | .mp o=>.mp (σ o).1
 | .agg cs=>.agg (Vw σ cs)
 | .tup cs=>.tup (Vw σ cs)
 | .fn f a b=>.fn f (Vw σ a) (Vw σ b)
 | .emp=>.emp
 | .junk=>.junk
def Vw (σ:Nat→Nat×Nat):List AV→List AV
 | []=>[]
 | a::r=>a.ren σ::Vw σ r
end
mutual
theorem sF {σ:Nat→Nat×Nat}{m:Nat}(h:∀o,o<m→σ o=(o,0)):∀{a:AV},Gz m a→a.ren σ=a
 | .lit v,_=>rfl
 | .ptr o off,hb=>by simp only[Gz]at hb;simp only[AV.ren,h o hb,Ao5]
 | .ip cs,hb=>by simp only[Gz]at hb;simp only[AV.ren,EG h hb]
 | .sl o off len esz cap,hb=>by simp only[Gz]at hb;simp only[AV.ren,h o hb,Ao5]
 | .imm cs len esz,hb=>by simp only[Gz]at hb;simp only[AV.ren,EG h hb]
 | .mp o,hb=>by simp only[Gz]at hb;simp only[AV.ren,h o hb]
 | .agg cs,hb=>by simp only[Gz]at hb;simp only[AV.ren,EG h hb]
 | .tup cs,hb=>by simp only[Gz]at hb;simp only[AV.ren,EG h hb]
 | .fn f a b,hb=>by simp only[Gz]at hb;simp only[AV.ren,EG h hb.1,EG h hb.2]
 | .emp,_=>rfl
 | .junk,_=>rfl
theorem EG {σ:Nat→Nat×Nat}{m:Nat}(h:∀o,o<m→σ o=(o,0)):∀{asx:List AV},Dz m asx→Vw σ asx=asx
 | [],_=>rfl
 | a::r,hb=>by simp only[Dz]at hb;simp only[Vw,sF h hb.1,EG h hb.2]
end
def Cfg.ren (G:Cfg)(σ:Nat→Nat×Nat)(lim:Nat→Option Nat)(n2:Nat):Cfg:=
 {w:=G.w,n:=n2,μ:=λo=>((G.μ (σ o).1).1,(G.μ (σ o).1).2.1+(σ o).2,(lim o).getD ((G.μ (σ o).1).2.2 - (σ o).2)),L:=G.L,K:=G.K}
def rR:Nat→Option Nat:=λ_=>none
theorem SlAt.ren {m:Nat×Nat×Nat}{sh off esz:Nat}{cap:Room}{a:Addr}{c:Nat}(h:SlAt m (sh+off) esz cap a c):SlAt (m.1,m.2.1+sh,m.2.2 - sh) off esz cap a c:=by
 unfold SlAt at h⊢;cases cap with
 | ex k=>
  simp only at h⊢;refine⟨h.1,h.2.imp id λh2=>⟨by rw[h2.1,Al6],by have:=h2.2;omega⟩⟩
 | ge k=>
  simp only at h⊢;refine⟨h.1,h.2.imp id λh2=>⟨by rw[h2.1,Al6],by have:=h2.2;omega⟩⟩
mutual
theorem VR.ren {G:Cfg}{σ:Nat→Nat×Nat}{lim:Nat→Option Nat}{n2 m2:Nat}(hl:∀o,o<m2→lim o=none)(hm:m2≤n2):∀{a:AV} {v:Value},VR G (a.ren σ) v→Gz m2 a→VR (G.ren σ lim n2) a v
 | .lit _,_,h,_=>by simpa only[AV.ren,VR]using h
 | .ptr o off,v,h,hb=>by
  simp only[AV.ren,VR]at h⊢;simp only[Gz]at hb;exact⟨Ak7 hb hm,by rw[h.2];simp only[Cfg.ren,Al6]⟩
 | .ip cs,v,h,hb=>by
  simp only[AV.ren,VR]at h⊢;simp only[Gz]at hb;obtain⟨ad,vs,e,hh,hr⟩:=h;exact⟨ad,vs,e,hh,VRs.ren hl hm hr hb⟩
 | .sl o off len esz cap,v,h,hb=>by
  simp only[AV.ren,VR]at h⊢;simp only[Gz]at hb;obtain⟨_,a,c,e,hlc,hs⟩:=h;refine⟨Ak7 hb hm,a,c,e,hlc,?_⟩
  have:=hs.ren
  simp only[Cfg.ren,hl o hb,Option.getD_none];exact this
 | .imm cs len esz,v,h,hb=>by
  simp only[AV.ren,VR]at h⊢;simp only[Gz]at hb;obtain⟨ad,c,vs,e,hlc,hh,hr⟩:=h;exact⟨ad,c,vs,e,hlc,hh,VRs.ren hl hm hr hb⟩
 | .mp o,v,h,hb=>by
  simp only[AV.ren,VR]at h⊢;simp only[Gz]at hb;exact⟨Ak7 hb hm,h.2⟩
 | .agg cs,v,h,hb=>by
  simp only[AV.ren,VR]at h⊢;simp only[Gz]at hb;obtain⟨vs,e,hr⟩:=h;exact⟨vs,e,VRs.ren hl hm hr hb⟩
 | .tup cs,v,h,hb=>by
  simp only[AV.ren,VR]at h⊢;simp only[Gz]at hb;obtain⟨vs,e,hr⟩:=h;exact⟨vs,e,VRs.ren hl hm hr hb⟩
 | .fn f a b,v,h,hb=>by
  simp only[AV.ren,VR]at h⊢;simp only[Gz]at hb;obtain⟨va,vb,e,h1,h2⟩:=h;exact⟨va,vb,e,VRs.ren hl hm h1 hb.1,VRs.ren hl hm h2 hb.2⟩
 | .emp,_,h,_=>by simpa only[AV.ren,VR]using h
 | .junk,_,_,_=>by simp only[VR]
theorem VRs.ren {G:Cfg}{σ:Nat→Nat×Nat}{lim:Nat→Option Nat}{n2 m2:Nat}(hl:∀o,o<m2→lim o=none)(hm:m2≤n2):∀{asx:List AV} {vs:List Value},VRs G (Vw σ asx) vs→Dz m2 asx→VRs (G.ren σ lim n2) asx vs
 | [],_,h,_=>by simpa only[Vw,VRs]using h
 | a::r,vs,h,hb=>by
  simp only[Vw,VRs]at h⊢;simp only[Dz]at hb;obtain⟨v,q,e,h1,h2⟩:=h;exact⟨v,q,e,VR.ren hl hm h1 hb.1,VRs.ren hl hm h2 hb.2⟩
end
structure Canon (n0 m2:Nat)(σ:Nat→Nat×Nat)(lim:Nat→Option Nat)(H1 H2:AH):Prop where
 len:n0≤H2.length
 top:m2≤H2.length
 old:∀o,o<n0→σ o=(o,0)∧lim o=none
 low:∀o,o<m2→lim o=none
 cells:∀(o:Nat) (cs:List AV),H2[o]?=some (some (.cells cs))→∃cs1,H1[(σ o).1]?=some (some (.cells cs1))∧(σ o).2+cs.length≤cs1.length∧Vw σ cs=(cs1.drop (σ o).2).take cs.length∧Dz m2 cs∧∀ℓ,lim o=some ℓ→cs.length≤ℓ
 maps:∀(o:Nat) (es:List (Value×AV)),H2[o]?=some (some (.map es))→(σ o).2=0∧∃es1,H1[(σ o).1]?=some (some (.map es1))∧es1.map Prod.fst=es.map Prod.fst∧es1.map Prod.snd=Vw σ (es.map Prod.snd)∧Dz m2 (es.map Prod.snd)
 inj:∀(o o':Nat) (x x':AObj),H2[o]?=some (some x)→H2[o']?=some (some x')→(σ o).1=(σ o').1→o=o'
abbrev Ao4:=@Option.getD_some
theorem Canon.hr {n0 m2:Nat}{σ:Nat→Nat×Nat}{lim:Nat→Option Nat}{H1 H2:AH}(c:Canon n0 m2 σ lim H1 H2){G:Cfg}(hr:HR G H1)(hlim:∀o ℓ,lim o=some ℓ→(σ o).2+ℓ≤(G.μ (σ o).1).2.2):HR (G.ren σ lim H2.length) H2:=by
 have src:∀(o:Nat) (x:AObj),H2[o]?=some (some x)→∃x1,H1[(σ o).1]?=some (some x1):=by
  intro o x hx;cases x with
  | cells cs=>obtain⟨cs1,h1,_⟩:=c.cells o cs hx;exact⟨_,h1⟩
  | map es=>obtain⟨_,es1,h1,_⟩:=c.maps o es hx;exact⟨_,h1⟩
 refine⟨rfl,?_,?_,?_,hr.lt,hr.dis⟩
 ·intro o x hx
  cases x with
  | cells cs=>
   obtain⟨cs1,h1,h2,h3,h4,h5⟩:=c.cells o cs hx;obtain⟨cc,e,vs,q1,q2,q3,q4,q5⟩:=hr.obj _ _ h1;have hl:=q4.length
   have hlm:(lim o).getD ((G.μ (σ o).1).2.2 - (σ o).2)+(σ o).2≤(G.μ (σ o).1).2.2∧cs.length≤(lim o).getD ((G.μ (σ o).1).2.2 - (σ o).2):=by
    cases hlo:lim o with
    | none=>simp only[Option.getD_none];omega
    | some ℓ=>have:=hlim o ℓ hlo;have:=h5 ℓ hlo;simp only[Ao4];omega
   refine⟨cc,e,(vs.drop (σ o).2).take cs.length,q1,?_,hlm.2,?_,?_⟩
   ·show(G.μ (σ o).1).2.1+(σ o).2+(lim o).getD ((G.μ (σ o).1).2.2 - (σ o).2)≤cc.size
    omega
   ·refine VRs.ren c.low c.top ?_ h4
    rw[h3];exact(q4.drop _).take _
   ·intro i v hv
    rw[Ah5]at hv;split at hv
    ·rw[Ah6]at hv
     have:=q5 _ _ hv
     show cc[(G.μ (σ o).1).2.1+(σ o).2+i]?=some v∧_
     rw[Al6];exact this
    ·cases hv
  | map es=>
   obtain⟨h0,es1,h1,h2,h3,h4⟩:=c.maps o es hx;obtain⟨ents,q1,q2,q3,q4⟩:=hr.obj _ _ h1;refine⟨ents,q1,?_,by rw[q3,h2],?_⟩
   ·refine VRs.ren c.low c.top ?_ h4
    rw[← h3];exact q2
   ·rw[q4]
    congr 1
    have:=congrArg List.length h2
    simpa using this
 ·intro o o' x x' hx hx' he
  obtain⟨x1,h1⟩:=src o x hx;obtain⟨x2,h2⟩:=src o' x' hx';exact c.inj o o' x x' hx hx' (hr.inj _ _ _ _ h1 h2 he)
 ·intro o x hx
  obtain⟨x1,h1⟩:=src o x hx;exact hr.live _ _ h1
theorem Canon.evo {n0 m2:Nat}{σ:Nat→Nat×Nat}{lim:Nat→Option Nat}{H1 H2:AH}(c:Canon n0 m2 σ lim H1 H2){G0 G:Cfg}(h0:G0.n=n0)(hE:Evo G0 G):Evo G0 (G.ren σ lim H2.length):=
 ⟨hE.os,hE.tape,hE.output,hE.size,hE.keep,by rw[h0];exact c.len,λo ho=>by
  obtain⟨hσ,hl⟩:=c.old o (by omega)
  have:=hE.μ o ho
  simp only[Cfg.ren,hσ,hl,Al9,At1,Option.getD_none];exact this,hE.K⟩
section
variable {P : Program}
def belH (H:AH):Prop:=∀(o:Nat) (x:AObj),H[o]?=some (some x)→x.bel H.length
theorem HR.belH {G:Cfg}{H:AH}(hr:HR G H):belH H:=λo x hx=>by rw[← hr.n];exact(hr.obj o x hx).bel
theorem ACalls.canon {f:FuncId}{args:List AV}{H H2:AH}{R:AV→AH→Prop}{r2:AV}(h:ACalls P f args H R)
  (hc:belH H→∀r1 H1,R r1 H1→∃m2 σ lim,Canon H.length m2 σ lim H1 H2∧∀G v,HR G H1→VR G r1 v→VR (G.ren σ lim H2.length) r2 v∧∀o ℓ,lim o=some ℓ→(σ o).2+ℓ≤(G.μ (σ o).1).2.2):BCall P f args H r2 H2:=by
 intro G vs hH hv;refine(h G vs hH hv).mono ?_;rintro e w' ⟨r1,H1,G',v,rfl,rfl,hE,hx,hX,hq⟩;obtain⟨m2,σ,lim,c,hs⟩:=hc hH.belH r1 H1 hq;obtain⟨hs1,hs2⟩:=hs G' v hX hx;exact⟨r2,H2,G'.ren σ lim H2.length,v,rfl,rfl,c.evo hH.n hE,hs1,c.hr hX hs2,rfl,rfl⟩
theorem ACalls.room {f:FuncId}{o off len esz k:Nat}{args:List AV}{H:AH}{R:AV→AH→Prop}(h:∀c,k≤c→len≤c→ACalls P f (.sl o off len esz (.ex c)::args) H R):ACalls P f (.sl o off len esz (.ge k)::args) H R:=by
 intro G vs hH hv;simp only[VRs]at hv;obtain⟨v,r,rfl,h1,h2⟩:=hv;simp only[VR]at h1;obtain⟨ho,a,c,rfl,hl,hs⟩:=h1;simp only[SlAt]at hs;refine h c hs.1 hl G _ hH (.cons ?_ h2);simp only[VR];refine⟨ho,a,c,rfl,hl,rfl,hs.2.imp id λh3=>⟨h3.1,by have:=h3.2;omega⟩⟩
end
def xN:Nat→Nat×Nat:=λo=>(o,0)
def wU (n o off:Nat):Nat→Nat×Nat:=λp=>if p=n then(o,off)else(p,0)
def dV (n l:Nat):Nat→Option Nat:=λp=>if p=n then some l else none
theorem Canon.grown {H:AH}(hb:belH H){o:Nat}{N:List AV}(hN:Dz H.length N):Canon H.length H.length xN rR (H++[some (.cells N)]) (H.set o none++[some (.cells N)]):=by
 have get:∀(p:Nat) (x:AObj),(H.set o none++[some (.cells N)])[p]?=some (some x)→(H++[some (.cells N)])[p]?=some (some x)∧x.bel H.length:=by
  intro p x hx
  by_cases hp:p<H.length
  ·rw[Ag8 (by simpa using hp),Al3]at hx
   rw[Ag8 hp];split at hx
   ·split at hx<;>simp at hx
   ·exact⟨hx,hb p x hx⟩
  ·rw[Ah0 (by simpa using hp)]at hx
   rw[Ah0 (by omega)];simp only[Aj2]at hx;refine⟨hx,?_⟩
   have:p - H.length=0:=by
    have:=(B5.1 hx).1
    simp at this;omega
   rw[this]at hx;simp at hx;rw[← hx];exact hN
 refine⟨by simp,by simp,λp hp=>⟨rfl,rfl⟩,λp hp=>rfl,?_,?_,?_⟩
 ·intro p cs hx
  obtain⟨h1,h2⟩:=get p _ hx;refine⟨cs,h1,by simp[xN],?_,h2,λℓ h=>by cases h⟩;rw[EG (σ:=xN) (m:=H.length) (λ_ _=>rfl) h2];simp[xN]
 ·intro p es hx
  obtain⟨h1,h2⟩:=get p _ hx;exact⟨rfl,es,h1,rfl,(EG (σ:=xN) (m:=H.length) (λ_ _=>rfl) h2).symm,h2⟩
 ·intro p p' x x' _ _ h
  exact h
theorem Canon.placed {H:AH}(hb:belH H){o off l:Nat}{N cs1:List AV}(ho:o<H.length)(hN:Dz H.length N)(hl:off+N.length≤cs1.length)(he:(cs1.drop off).take N.length=N)(hll:N.length≤l):
  Canon H.length H.length (wU H.length o off) (dV H.length l) (H.set o (some (.cells cs1))) (H.set o none++[some (.cells N)]):=by
 have sm:∀p,p<H.length→wU H.length o off p=(p,0):=λp hp=>by unfold wU;rw[if_neg (by omega)]
 have sl:∀p,p<H.length→dV H.length l p=none:=λp hp=>by unfold dV;rw[if_neg (by omega)]
 have get:∀(p:Nat) (x:AObj),(H.set o none++[some (.cells N)])[p]?=some (some x)→(p<H.length∧p≠o∧(H.set o (some (.cells cs1)))[p]?=some (some x)∧x.bel H.length)∨(p=H.length∧x=.cells N):=by
  intro p x hx
  by_cases hp:p<H.length
  ·left
   rw[Ag8 (by simpa using hp),Al3]at hx;split at hx
   ·simp at hx
   ·rename_i hne
    exact⟨hp,λh=>hne h.symm,by rw[Cg hne];exact hx,hb p x hx⟩
  ·right
   rw[Ah0 (by simpa using hp)]at hx;simp only[Aj2]at hx
   have:p - H.length=0:=by
    have:=(B5.1 hx).1
    simp at this;omega
   rw[this]at hx;simp at hx;exact⟨by omega,hx.symm⟩
 refine⟨by simp,by simp,λp hp=>⟨sm p hp,sl p hp⟩,sl,?_,?_,?_⟩
 ·intro p cs hx
  rcases get p _ hx with⟨h0,_,h1,h2⟩ | ⟨rfl,h⟩
  ·refine⟨cs,by rw[sm p h0];exact h1,by rw[sm p h0];simp,?_,h2,λℓ h=>by rw[sl p h0]at h;cases h⟩
   rw[EG sm h2,sm p h0];simp
  ·injection h with h
   subst h;have e:wU H.length o off H.length=(o,off):=if_pos rfl;refine⟨cs1,by rw[e];simp[ho],by rw[e];exact hl,?_,hN,λℓ h=>?_⟩
   ·rw[EG sm hN,e];exact he.symm
   ·unfold dV at h
    rw[if_pos rfl]at h;injection h with h;omega
 ·intro p es hx
  rcases get p _ hx with⟨h0,_,h1,h2⟩ | ⟨_,h⟩
  ·exact⟨by rw[sm p h0],es,by rw[sm p h0];exact h1,rfl,(EG sm h2).symm,h2⟩
  ·cases h
 ·intro p p' x x' hx hx' h
  have e:wU H.length o off H.length=(o,off):=if_pos rfl;rcases get p _ hx with⟨h0,h0',_,_⟩ | ⟨rfl,_⟩<;>rcases get p' _ hx' with⟨k0,k0',_,_⟩ | ⟨rfl,_⟩
  ·rw[sm p h0,sm p' k0]at h;exact h
  ·rw[sm p h0,e]at h;exact(h0' h).elim
  ·rw[sm p' k0,e]at h;exact(k0' h.symm).elim
  ·rfl
end
section
section
variable {P : Program}
def iZ (P:Program)(sz bytes:Nat)(zc:List AV)(ov rot:FuncId)(a0 a1 a2:AV)(H:AH)(K:AV→AH→Prop):Prop:=
 bO (Bj sz a0 (some a1) none none) λv0=>
 bO (AY a2) λv1=>
 bO (Ar .eql v1 (I 0)) λv2=>
 bB v2 λt3=>bI t3 (
 K a0 H)
 (bO (AY a0) λv4=>
 bO (Ar .eql a1 v4) λv5=>
 bB v5 λt6=>bI t6 (
 bH (HG sz bytes H a0 a2) λv7 H8=>
 K v7 H8)
 (bO (Ar .add v4 v1) λv9=>
 bO (YP a0) λv10=>
 bO (Ar .gtr v9 v10) λv11=>
 bB v11 λt12=>bI t12 (
 bO (Bj sz a0 none (some a1) none) λv13=>
 bO (Ar .add v4 v1) λv14=>
 bO (Ar .sub v14 a1) λv15=>
 bH (O4 H sz bytes zc v13 v15) λv16 H17=>
 bO (Bj sz v16 (some a1) none none) λv18=>
 bH (SR sz H17 v18 a2) λv19 H20=>
 bO (Ar .add a1 v1) λv21=>
 bO (Bj sz v16 (some v21) none none) λv22=>
 bO (Bj sz a0 (some a1) none none) λv23=>
 bH (SR sz H20 v22 v23) λv24 H25=>
 K v16 H25)
 (bO (Ar .add v4 v1) λv26=>
 bO (Bj sz a0 none (some v26) none) λv27=>
 bO (Ar .add a1 v1) λv28=>
 bO (Bj sz v27 (some v28) none none) λv29=>
 bP (ExtR P ov [a2,v29] H) λv30=>
 bO (E6 .not v30) λv31=>
 bB v31 λt32=>bI t32 (
 bO (Ar .add a1 v1) λv33=>
 bO (Bj sz v27 (some v33) none none) λv34=>
 bO (Bj sz v27 (some a1) none none) λv35=>
 bH (SR sz H v34 v35) λv36 H37=>
 bO (Bj sz v27 (some a1) none none) λv38=>
 bH (SR sz H37 v38 a2) λv39 H40=>
 K v27 H40)
 (bO (Bj sz v27 (some v4) none none) λv41=>
 bH (SR sz H v41 a2) λv42 H43=>
 bO (Bj sz v27 (some a1) none none) λv44=>
 bC (BCall P rot [v44,v1] H43) λv45 H46=>
 K v27 H46))))
def CI (s:AV)(n:Nat):Prop:=match s with
 | .sl _ _ _ _ cap=>n≤cap.least
 | _=>True
theorem Xr {H:AH}{sz o off len o2 off2 m:Nat}{cap cap2:Room}{cs cs2:List AV}(ho:H[o]?=some (some (.cells cs)))(h2:H[o2]?=some (some (.cells cs2)))(hoff:off≤cs.length)(ht:off2+min m len*sz≤cs2.length):
  SR sz H (.sl o off len sz cap) (.sl o2 off2 m sz cap2)=some (I ((min m len:Nat):Int),H.set o (some (.cells (BS cs off ((cs2.drop off2).take (min m len*sz)))))):=by
 unfold SR mQ
 by_cases h:off2+m*sz≤cs2.length
 ·have e:Bm H sz (.sl o2 off2 m sz cap2)=some ((cs2.drop off2).take (m*sz),m):=A3 (by simp[Ad,h2,h])
  have hm:min (min m len*sz) (m*sz)=min m len*sz:=An2 (Ah7 _ (At0 _ _));rw[e];simp only[ho,hoff,and_self,if_true,Am4,hm]
 ·have e:Bm H sz (.sl o2 off2 m sz cap2)=none:=by simp[Bm,Ad,h2,h]
  rw[e];simp[tV,ho,h2,hoff,ht]
theorem PT {sz bytes:Nat}{H:AH}{s x r:AV}{H':AH}{cs ds:List AV}{n m:Nat}(h1:Ad H sz s=some (cs,n))(ho:Bh s=true)(h2:Bm H sz x=some (ds,m))(hc:CI s n)(h:HG sz bytes H s x=some (r,H')):CI r (n+m):=by
 unfold HG at h;rw[h2]at h;simp only at h;unfold Ad at h1;split at h1
 ·simp[Bh]at ho
 ·rename_i o off len esz cap
  split at h1
  ·rename_i c hoc
   split at h1
   ·rename_i hb1
    obtain⟨rfl,hfit⟩:=hb1;injection h1 with h1;injection h1 with h3 h4;subst h3;subst h4;unfold NP at h;simp only[hoc,Aa0,false_or,hfit,if_false]at h;cases cap with
    | ex k=>
     simp only at h;split at h
     ·injection h with h;injection h with h h';subst h;simpa[CI,Room.least]
     ·split at h
      ·injection h with h;injection h with h h';subst h;simp[CI,Room.least]
      ·cases h
    | ge k=>
     simp only at h;split at h
     ·rename_i hm
      injection h with h;injection h with h h';subst h;subst hm;simpa using hc
     ·split at h
      ·injection h with h;injection h with h h';subst h;simpa[CI,Room.least]
      ·split at h
       ·injection h with h;injection h with h h';subst h;simp[CI,Room.least]
       ·cases h
   ·cases h1
  ·cases h1
 ·injection h1 with h1
  injection h1 with h3 h4;subst h3;subst h4;unfold NP at h;simp only at h;split at h
  ·injection h with h;injection h with h h';subst h;simp[CI]
  ·split at h
   ·injection h with h;injection h with h h';subst h;simp[CI,Room.least]
   ·cases h
 ·injection h1 with h1
  injection h1 with h3 h4;subst h3;subst h4;unfold NP at h;simp only at h;split at h
  ·injection h with h;injection h with h h';subst h;simp[CI]
  ·split at h
   ·injection h with h;injection h with h h';subst h;simp[CI,Room.least]
   ·cases h
 ·cases h1
def tG (sz:Nat)(H:AH)(s:AV)(N:List AV)(n:Nat)(r:AV)(H':AH):Prop:=
 Bh r=true∧Ad H' sz r=some (N,n+1)∧H.length≤H'.length∧(∀i,i<H.length→i∉Bl s→H'[i]?=H[i]?)∧(∀i∈Bl r,i∈Bl s∨H.length≤i)∧CI r (n+1)
theorem uM {sz bytes:Nat}{zc:List AV}{ov rot:FuncId}{H:AH}{s a2:AV}{cs xs:List AV}{n:Nat}(hs:Ad H sz s=some (cs,n))(ho:Bh s=true)(hc:CI s n)(ha:AY a2=some (I 1))(hx:Bm H sz a2=some (xs,1))(hb:(n+1)*bytes≤140737488355328):
  ∃r H',tG sz H s (cs++xs) n r H'∧iZ P sz bytes zc ov rot s (I n) a2 H λr' H''=>r'=r∧H''=H':=by
 obtain⟨r0,a0,-⟩:=Gb hs (lo:=some (I n)) (hi:=none) (l:=n) (k:=n) (by simp[CA]) rfl (Ah3 _) (Ah3 _);obtain⟨r,H2,a1,a2',a3,a4,a5,a6⟩:=CT (bytes:=bytes) hs ho hx hb;refine⟨r,H2,⟨a2',a3,a4,a5,a6,PT hs ho hx hc a1⟩,?_⟩;unfold iZ;simp[a0,ha,CU hs,a1]
abbrev Ap9:=@List.drop_eq_nil_of_le
theorem rH {sz bytes:Nat}{zc:List AV}{ov rot:FuncId}(hz:zc.length=sz){H:AH}{o off n oj i:Nat}{cells xs:List AV}(hc:H[o]?=some (some (.cells cells)))(hl:off+n*sz≤cells.length)(hi:i<n)(hn:n≤100000000)(hv:H[oj]?=some (some (.cells xs)))(hxl:xs.length=sz)(hby:(n+1)*bytes≤140737488355328):
  iZ P sz bytes zc ov rot (.sl o off n sz (.ex n)) (I i) (.sl oj 0 1 sz (.ex 1)) H λr H'=>r=.sl H.length 0 (n+1) sz (.ge (n+1))∧
   H'=H++[some (.cells ((cells.drop off).take (i*sz)++xs++(cells.drop (off+i*sz)).take ((n - i)*sz)))]:=by
 unfold iZ;have h1:¬(i:Int)=n:=by omega
 have hmi:i*sz≤n*sz:=Ah7 _ (by omega);have hmn:i*sz+(n - i)*sz=n*sz:=by rw[← Am0];congr 1;omega
 have hms:(i+1)*sz=i*sz+sz:=Ak8 _ _;have hmr:(n+1 - i)*sz=(n - i)*sz+sz:=by rw[show n+1 - i=(n - i)+1 by omega,Ak8]
 simp[Bj,CA,Room.least,Room.cut,YP,goInt,h1,show i≤n by omega,Ax (a:=n) (b:=1) (by omega) (by omega),Bv (a:=(n:Int)+1) (b:=i) (by omega) (by omega),O4,hc,Ax (a:=i) (b:=1) (by omega) (by omega),-BI];have e1:i+(n+1 - i)=n+1:=by omega
 have h2:off+i*sz≤cells.length:=by omega
 simp only[e1];simp[h2,show(i:Int)<n+1 by omega,show(n:Int)<n+1 by omega,hby,show i≤n+1 by omega,-BI];have zl:(BI zc (n+1 - i)).length=(n+1 - i)*sz:=by rw[Ej,hz]
 generalize BI zc (n+1 - i)=Z at zl;have hA:(List.take (i*sz) (List.drop off cells)).length=i*sz:=by rw[Ah1,Ah8];omega
 generalize hAe:List.take (i*sz) (List.drop off cells)=A at hA;have hov:=(B5.1 hv).1;have ho:=(B5.1 hc).1;have m1:min 1 (n+1 - i)=1:=by omega
 rw[Xr (cs:=A++Z) (cs2:=xs) (by simp) (by rw[Ag8 hov];exact hv) (by simp[hA]) (by rw[m1];omega)];simp[show(0:Int)≤(i:Int)+1 by omega,show i+1≤n+1 by omega]
 have o1:BS (A++Z) (i*sz) (List.take (min 1 (n+1 - i)*sz) xs)=A++xs++Z.drop sz:=by
  rw[m1,Ah4 (by rw[hxl];omega)];unfold BS;rw[Aj1 (by omega),Ah4 (by omega),hxl,← hA,List.drop_append,Ar8,Ap9 (by omega),Am1]
 rw[o1,Xr (cs:=A++xs++Z.drop sz) (cs2:=cells) (by simp) (by rw[Ag8 ho];exact hc) (by simp[hA,hxl];omega) (by rw[Nat.min_self];omega)];have hB:(List.take ((n - i)*sz) (List.drop (off+i*sz) cells)).length=(n - i)*sz:=by rw[Ah1,Ah8];omega
 simp;generalize List.take ((n - i)*sz) (List.drop (off+i*sz) cells)=B' at hB;unfold BS;have l1:(A++xs).length=(i+1)*sz:=by rw[Ah9,hA,hxl];omega
 rw[← Ai0,Aj1 (by omega),Ah4 (by omega),Ap9 (by rw[Ah9,l1,Ah8,hB];omega),Ak6,Ai0]
abbrev At6:=@List.drop_left
theorem nP {sz bytes:Nat}{zc:List AV}{ov rot:FuncId}(h0:0<sz){H:AH}{o off n oj i c:Nat}{cells xs:List AV}(hc:H[o]?=some (some (.cells cells)))(hl:off+n*sz≤cells.length)(hi:i<n)(hn:n≤100000000)(hcn:n+1≤c)(hv:H[oj]?=some (some (.cells xs)))(hxl:xs.length=sz)(hne:oj≠o)
  (hov:∀q l k,k≠0→ExtR P ov [.sl oj 0 1 sz (.ex 1),.sl o q l sz (.ex k)] H (B false)):
  iZ P sz bytes zc ov rot (.sl o off n sz (.ex c)) (I i) (.sl oj 0 1 sz (.ex 1)) H λr H'=>r=.sl o off (n+1) sz (.ex c)∧
   ∃rest,H'=H.set o (some (.cells (cells.take (off+i*sz)++xs++(cells.drop (off+i*sz)).take ((n - i)*sz)++rest))):=by
 unfold iZ;have h1:¬(i:Int)=n:=by omega
 have hmi:i*sz≤n*sz:=Ah7 _ (by omega);have hmn:i*sz+(n - i)*sz=n*sz:=by rw[← Am0];congr 1;omega
 have hms:(i+1)*sz=i*sz+sz:=Ak8 _ _;have hms2:(i+1)*sz≤n*sz:=Ah7 _ (by omega);simp[Bj,CA,Room.least,Room.cut,YP,goInt,h1,show i≤n by omega,Ax (a:=n) (b:=1) (by omega) (by omega),Bv (a:=(n:Int)+1) (b:=i) (by omega) (by omega),Ax (a:=i) (b:=1) (by omega) (by omega),show i≤c by omega,show n≤c by omega,show ¬(c:Int)<n+1 by omega,hcn,show(0:Int)≤(n:Int)+1 by omega,show(0:Int)≤(i:Int)+1 by omega,show i+1≤n+1 by omega];refine bP_of (hov _ _ _ (by omega)) ?_;simp;have ho:=(B5.1 hc).1;have mm:min (n+1 - i) (n - i)=n - i:=by omega
 have m1:min 1 (n+1 - i)=1:=by omega
 simp only[show i≤n+1 by omega,if_true,Ab];rw[Xr (cs:=cells) (cs2:=cells) hc hc (by omega) (by rw[mm];omega),mm];have hB:(List.take ((n - i)*sz) (List.drop (off+i*sz) cells)).length=(n - i)*sz:=by rw[Ah1,Ah8];omega
 generalize List.take ((n - i)*sz) (List.drop (off+i*sz) cells)=B' at hB;simp only[AA];have l1:(cells.take (off+(i+1)*sz)).length=off+(i+1)*sz:=by rw[Ah1];omega
 rw[Xr (cs:=BS cells (off+(i+1)*sz) B') (cs2:=xs) (by simp[ho]) (by rw[Cg (Ak2 hne)];exact hv) (by unfold BS;simp[l1];omega) (by rw[m1];omega),m1,Ah4 (l:=xs.drop 0) (by simp[hxl])];simp only[AA,List.set_set,Ak9];refine⟨(cells.drop (off+(i+1)*sz+B'.length)),?_⟩
 congr 3
 unfold BS;rw[hxl]
 have t1:List.take (off+i*sz) (cells.take (off+(i+1)*sz)++B'++cells.drop (off+(i+1)*sz+B'.length))=cells.take (off+i*sz):=by
  rw[Ai0,Aj1 (by omega),Am4,An2 (by omega)]
 have t2:List.drop (off+i*sz+sz) (cells.take (off+(i+1)*sz)++B'++cells.drop (off+(i+1)*sz+B'.length))=B'++cells.drop (off+(i+1)*sz+B'.length):=by
  rw[Ai0,show off+i*sz+sz=(cells.take (off+(i+1)*sz)).length by omega,At6]
 rw[t1,t2,Ai0]
theorem VJ {m:Nat}:∀{a b:List AV},Dz m a→Dz m b→Dz m (a++b)
 | [],b,_,h=>h
 | x::a,b,h1,h2=>by simp only[Dz,An6]at h1⊢;exact⟨h1.1,VJ h1.2 h2⟩
theorem S6 {m:Nat}:∀{a:List AV},Dz m a↔∀x∈a,Gz m x
 | []=>by simp[Dz]
 | x::a=>by simp only[Dz,Ac7,S6 (a:=a)]
theorem rI {sz bytes:Nat}{zc:List AV}{f ov rot:FuncId}(h0:0<sz)(hz:zc.length=sz)(hF:∀a0 a1 a2 H K,iZ P sz bytes zc ov rot a0 a1 a2 H K→ACalls P f [a0,a1,a2] H K){H:AH}{s:AV}{cs xs:List AV}{n oj i:Nat}(hs:Ad H sz s=some (cs,n))(ho:Bh s=true)(hcap:CI s n)(hi:i≤n)(hn:n≤1000000)(hby:bytes≤1000000)(hv:H[oj]?=some (some (.cells xs)))(hxl:xs.length=sz)(hne:oj∉Bl s)
  (hxb:∀m,Dz m xs) (hov:∀{o q l k:Nat} {cells:List AV},H[o]?=some (some (.cells cells))→oj≠o→k≠0→cells≠[]→ExtR P ov [.sl oj 0 1 sz (.ex 1),.sl o q l sz (.ex k)] H (B false)):
  ∃r H',tG sz H s (cs.take (i*sz)++xs++cs.drop (i*sz)) n r H'∧BCall P f [s,I i,.sl oj 0 1 sz (.ex 1)] H r H':=by
 have hcl:=BG hs;have hbb:(n+1)*bytes≤140737488355328:=Ai8 (Nat.mul_le_mul (show n+1≤1000001 by omega) hby) (by omega);rcases Ah2 i n with h | h
 ·obtain⟨o,off,cap,cells,rfl,hc,hl,rfl⟩:=HN hs ho (by omega)
  have hoj:oj≠o:=by simpa[Bl]using hne
  have hol:=(B5.1 hc).1;have hmi:i*sz≤n*sz:=Ah7 _ (by omega);have hmn:i*sz+(n - i)*sz=n*sz:=by rw[← Am0];congr 1;omega
  have hmn1:(n+1)*sz=n*sz+sz:=Ak8 _ _;have hsz1:sz≤n*sz:=by have:=Ah7 sz (show 1≤n by omega);omega
  have hcne:cells≠[]:=λhh=>by rw[hh]at hl;simp at hl;omega
  have e1:((cells.drop off).take (n*sz)).take (i*sz)=(cells.drop off).take (i*sz):=by rw[Am4];congr 1;omega
  have e2:((cells.drop off).take (n*sz)).drop (i*sz)=(cells.drop (off+i*sz)).take ((n - i)*sz):=by rw[Ap0,An0];congr 1;omega
  rw[e1,e2];generalize hN:(cells.drop off).take (i*sz)++xs++(cells.drop (off+i*sz)).take ((n - i)*sz)=N
  have hNl:N.length=(n+1)*sz:=by
   rw[← hN,Ah9,Ah9,hxl,Ah1,Ah1,Ah8,Ah8];omega
  have hall:∀c,n≤c→ACalls P f [.sl o off n sz (.ex c),I i,.sl oj 0 1 sz (.ex 1)] H λr H'=>
    (r=.sl H.length 0 (n+1) sz (.ge (n+1))∧H'=H++[some (.cells N)])∨∃c rest,n+1≤c∧r=.sl o off (n+1) sz (.ex c)∧H'=H.set o (some (.cells (cells.take off++N++rest))):=by
   intro c hcn;rcases Ah2 n c with h' | h'
   ·refine(hF _ _ _ _ _ (nP h0 hc hl h (by omega) h' hv hxl hoj λq l k hk=>hov hc hoj hk hcne)).mono ?_
    rintro r H' ⟨rfl,rest,rfl⟩;refine .inr ⟨c,rest,h',rfl,?_⟩
    congr 3
    rw[← hN,Aq1 off (i*sz),Aq1 (i*sz) off];have:cells.take (off+i*sz)=cells.take off++(cells.drop off).take (i*sz):=by rw[List.take_add]
    rw[this];simp[Ai0]
   ·have:c=n:=by omega
    subst this;refine(hF _ _ _ _ _ (rH hz hc hl h (by omega) hv hxl hbb)).mono ?_;rintro r H' ⟨rfl,rfl⟩;exact .inl ⟨rfl,by rw[hN]⟩
  have hany:ACalls P f [.sl o off n sz cap,I i,.sl oj 0 1 sz (.ex 1)] H λr H'=>
    (r=.sl H.length 0 (n+1) sz (.ge (n+1))∧H'=H++[some (.cells N)])∨∃c rest,n+1≤c∧r=.sl o off (n+1) sz (.ex c)∧H'=H.set o (some (.cells (cells.take off++N++rest))):=by
   cases cap with
   | ge k=>exact ACalls.room λc _ h=>hall c h
   | ex c=>exact hall c (by simpa[CI,Room.least]using hcap)
  refine⟨.sl H.length 0 (n+1) sz (.ge (n+1)),H.set o none++[some (.cells N)],⟨rfl,?_,by simp,λj hj hn=>?_,λj hj=>.inr (by simp[Bl]at hj;omega),by simp[CI,Room.least]⟩,?_⟩
  ·rw[Bo (c:=N) (by rw[Ah0 (by simp)];simp) (by omega)]
   rw[Ak9,Ah4 (by omega)]
  ·rw[Ag8 (by simpa using hj),Cg (by simp[Bl]at hn;omega)]
  refine ACalls.canon hany ?_;rintro hb r1 H1 h1
  have hbN:Dz H.length N:=by
   have hbc:Dz H.length cells:=hb o _ hc;rw[S6]at hbc;rw[← hN];refine VJ (VJ ?_ (hxb _)) ?_
   ·rw[S6];exact λa ha=>hbc a (Am8 (Al4 ha))
   ·rw[S6];exact λa ha=>hbc a (Am8 (Al4 ha))
  rcases h1 with⟨rfl,rfl⟩ | ⟨c,rest,hcn,rfl,rfl⟩
  ·refine⟨_,_,_,Canon.grown hb hbN,?_⟩
   intro G v hG hr;refine⟨?_,λp ℓ h=>by cases h⟩;simp only[VR]at hr⊢;obtain⟨q0,a,c,rfl,hlc,hs⟩:=hr;refine⟨by simp[Cfg.ren],a,c,rfl,hlc,?_⟩
   simpa[Cfg.ren,xN,rR]using hs
  ·have hcs:(n+1)*sz≤c*sz:=Ah7 _ hcn
   refine⟨_,_,_,Canon.placed (off:=off) (l:=c*sz) hb hol hbN (cs1:=cells.take off++N++rest) ?_ ?_ ?_,?_⟩
   ·simp;omega
   ·have:(cells.take off).length=off:=by rw[Ah1];omega
    rw[Ai0]
    conv=>lhs;arg 2;arg 1;rw[← this]
    rw[At6,List.take_left]
   ·rw[hNl];omega
   ·intro G v hG hr
    simp only[VR]at hr;obtain⟨q0,a,c',rfl,hlc,hs⟩:=hr;simp only[SlAt]at hs;obtain⟨rfl,hs⟩:=hs;have hs:=hs.resolve_left (by omega);obtain⟨rfl,hs2⟩:=hs;have e:wU H.length o off H.length=(o,off):=if_pos rfl;have e2:dV H.length (c'*sz) H.length=some (c'*sz):=if_pos rfl;refine⟨?_,?_⟩
    ·simp only[VR]
     refine⟨by simp[Cfg.ren],_,c',rfl,by omega,?_⟩;simp only[SlAt];refine⟨hcn,.inr ⟨by simp[Cfg.ren,e],?_⟩⟩;simp[Cfg.ren,e2]
    ·intro p ℓ h
     unfold dV at h;split at h
     ·rename_i hp
      injection h with h;subst hp;subst h;rw[e];omega
     ·cases h
 ·have:i=n:=by omega
  subst this
  have hx:Bm H sz (.sl oj 0 1 sz (.ex 1))=some (xs,1):=A3 (by
   rw[show sz=1*sz by omega]at hxl;rw[Bo hv (by omega),Ak9,Ah4 (by omega)])
  obtain⟨r,H',h1,h2⟩:=uM (P:=P) (zc:=zc) (ov:=ov) (rot:=rot) hs ho hcap rfl hx hbb;refine⟨r,H',?_,(hF _ _ _ _ _ h2)⟩;rw[Ah4 (by omega),Aj8 (by omega),Ak6];exact h1
end
end
section
mutual
theorem jE {m:Nat}:∀{a:AV},noIds a=true→Gz m a
 | .lit _,_=>by simp only[Gz]
 | .ptr ..,h=>by simp[noIds]at h
 | .ip cs,h=>by simp only[noIds]at h;simp only[Gz];exact F2 h
 | .sl ..,h=>by simp[noIds]at h
 | .imm cs _ _,h=>by simp only[noIds]at h;simp only[Gz];exact F2 h
 | .mp _,h=>by simp[noIds]at h
 | .agg cs,h=>by simp only[noIds]at h;simp only[Gz];exact F2 h
 | .tup cs,h=>by simp only[noIds]at h;simp only[Gz];exact F2 h
 | .fn _ a b,h=>by simp only[noIds,Ai4]at h;simp only[Gz];exact⟨F2 h.1,F2 h.2⟩
 | .emp,_=>by simp only[Gz]
 | .junk,_=>by simp only[Gz]
theorem F2 {m:Nat}:∀{xs:List AV},Az xs=true→Dz m xs
 | [],_=>by simp only[Dz]
 | a::r,h=>by simp only[Az,Ai4]at h;simp only[Dz];exact⟨jE h.1,F2 h.2⟩
end
section
variable {P : Program}
def zddzZ (sz bytes:Nat)(zc:List AV)(a0 a1 a2:AV)(H:AH)(K:AV→AH→Prop):Prop:=
 bO (AY a0) λv0=>
 bO (Bj sz a0 (some a1) (some a2) (some v0)) λv1=>
 bO (Ar .eql a1 a2) λv2=>
 bB v2 λt3=>bI t3 (
 K a0 H)
 (bO (AY a0) λv4=>
 bO (Bj sz a0 none (some a1) none) λv5=>
 bO (Bj sz a0 (some a2) none none) λv6=>
 bH (HG sz bytes H v5 v6) λv7 H8=>
 bO (AY v7) λv9=>
 bO (Bj sz v7 (some v9) (some v4) none) λv10=>
 bS (tB zc H8 v10) λH11=>
 K v7 H11)
def vZ (sz:Nat)(H:AH)(s:AV)(N:List AV)(n:Nat)(r:AV)(H':AH):Prop:=
 Bh r=true∧Ad H' sz r=some (N,n)∧H'.length=H.length∧(∀i,i∉Bl s→H'[i]?=H[i]?)∧Bl r=Bl s∧CI r n
abbrev Aa8:=And.intro @Ab @Al
theorem qS {sz bytes:Nat}{zc:List AV}(h0:0<sz)(hz:zc.length=sz){H:AH}{s:AV}{cs:List AV}{n i:Nat}(hs:Ad H sz s=some (cs,n+1))(ho:Bh s=true)(hcap:CI s (n+1))(hi:i≤n)(hn:n≤1000000)(hby:bytes≤1000000):
  ∃r H',vZ sz H s (cs.take (i*sz)++cs.drop ((i+1)*sz)) n r H'∧zddzZ sz bytes zc s (I i) (I ((i:Int)+1)) H λr' H''=>r'=r∧H''=H':=by
 obtain⟨o,off,cap,cells,rfl,hc,hl,rfl⟩:=HN hs ho (by omega);have hol:=(B5.1 hc).1;have hms:(i+1)*sz=i*sz+sz:=Ak8 _ _;have hns:(n+1)*sz=n*sz+sz:=Ak8 _ _;have hmi:i*sz≤n*sz:=Ah7 _ (by omega);have hmn:(i+1)*sz+(n - i)*sz=(n+1)*sz:=by rw[← Am0];congr 1;omega
 obtain⟨cap',hcap1,hcap2⟩:∃cap',Room.cut (n+1) 0 cap=cap'∧n+1≤cap'.least:=by
  refine⟨_,rfl,?_⟩;cases cap<;>simp_all[Room.cut,Room.least,CI]<;>omega
 have hap:∃H8,HG sz bytes H (.sl o off i sz cap') (.sl o (off+(i+1)*sz) (n - i) sz (cap.cut (n+1) (i+1)))=some (.sl o off n sz cap',H8)∧H8.length=H.length∧(∀j,j≠o→H8[j]?=H[j]?)∧H8[o]?=some (some (.cells (BS cells (off+i*sz) ((cells.drop (off+(i+1)*sz)).take ((n - i)*sz))))):=by
  have e:Bm H sz (.sl o (off+(i+1)*sz) (n - i) sz (cap.cut (n+1) (i+1)))=some ((cells.drop (off+(i+1)*sz)).take ((n - i)*sz),n - i):=A3 (by rw[Bo hc (by omega)]);unfold HG;rw[e];simp only[NP,hc];rw[if_neg (by simp;omega)];have hin:i+(n - i)=n:=by omega
  cases cap' with
  | ex k=>
   simp only[Room.least]at hcap2;simp only[hin,show n≤k by omega,if_true];exact⟨_,rfl,by simp,λj hj=>by rw[Cg (Ak2 hj)],by simp[hol]⟩
  | ge k=>
   simp only[Room.least]at hcap2
   by_cases h:n - i=0
   ·have:i=n:=by omega
    subst this;simp only[h,if_true];refine⟨_,rfl,rfl,λ_ _=>rfl,?_⟩;rw[hc];simp[BS]
   ·simp only[h,if_false,hin,show n≤k by omega,if_true]
    exact⟨_,rfl,by simp,λj hj=>by rw[Cg (Ak2 hj)],by simp[hol]⟩
 obtain⟨H8,hA,hL,hO,hC⟩:=hap;have hDl:((cells.drop (off+(i+1)*sz)).take ((n - i)*sz)).length=(n - i)*sz:=by rw[Ah1,Ah8];omega
 have hcl:(BS cells (off+i*sz) ((cells.drop (off+(i+1)*sz)).take ((n - i)*sz))).length=cells.length:=HM (by rw[hDl];omega);have hol8:o<H8.length:=by omega
 refine⟨.sl o off n sz cap',H8.set o (some (.cells (BS (BS cells (off+i*sz) ((cells.drop (off+(i+1)*sz)).take ((n - i)*sz))) (off+n*sz) (BI zc 1)))),⟨rfl,?_,?_,λj hj=>?_,rfl,by simp only[CI];omega⟩,?_⟩
 rotate_left 3
 ·unfold zddzZ
  have q1:((i:Int)+1)=((i+1:Nat):Int):=by omega
  have w1:AY (.sl o off (n+1) sz cap)=some (I ((n+1:Nat):Int)):=rfl;have hcl':n+1≤cap.least:=hcap
  have w2:∃v,Bj sz (.sl o off (n+1) sz cap) (some (I i)) (some (I ((i+1:Nat):Int))) (some (I ((n+1:Nat):Int)))=some v:=by
   refine⟨.sl o (off+i*sz) (i+1 - i) sz (.ex (n+1 - i)),?_⟩;simp[Bj,CA,show(0:Int)≤(i:Int)+1 by omega,show(0:Int)≤(n:Int)+1 by omega];omega
  obtain⟨v,w2⟩:=w2
  have w3:Bj sz (.sl o off (n+1) sz cap) none (some (I i)) none=some (.sl o off i sz cap'):=by
   rw[← hcap1];simp[Bj,CA];omega
  have w4:Bj sz (.sl o off (n+1) sz cap) (some (I ((i+1:Nat):Int))) none none=some (.sl o (off+(i+1)*sz) (n - i) sz (cap.cut (n+1) (i+1))):=by
   have:((i:Int)+1)=((i+1:Nat):Int):=by omega
   simp[Bj,CA,-Int.natCast_add];omega
  have w5:Bj sz (.sl o off n sz cap') (some (I n)) (some (I ((n+1:Nat):Int))) none=some (.sl o (off+n*sz) 1 sz (cap'.cut n n)):=by
   simp[Bj,CA,show(0:Int)≤(n:Int)+1 by omega];omega
  have w6:Ar .eql (I i) (I ((i+1:Nat):Int))=some (B false):=by simp;omega
  rw[q1,w1];simp only[Aa8,w2,w6,Ao,w3,w4,hA,AA,AY,w5];have zl:(BI zc 1).length=sz:=by rw[Ej,hz];omega
  have w7:tB zc H8 (.sl o (off+n*sz) 1 sz (cap'.cut n n))=some (H8.set o (some (.cells (BS (BS cells (off+i*sz) ((cells.drop (off+(i+1)*sz)).take ((n - i)*sz))) (off+n*sz) (BI zc 1))))):=by
   unfold tB;simp only[hC];rw[if_pos ⟨hz,by omega,by omega⟩,if_neg (by omega),Hb _ _ _ (by omega)];rfl
  rw[w7];simp only[AC];exact⟨trivial,trivial⟩
 ·rw[Bo (c:=BS (BS cells (off+i*sz) ((cells.drop (off+(i+1)*sz)).take ((n - i)*sz))) (off+n*sz) (BI zc 1)) (by simp[hol8]) (by rw[HM (by rw[Ej,hz];omega)];omega)]
  congr 2
  have e1:((cells.drop off).take ((n+1)*sz)).take (i*sz)=(cells.drop off).take (i*sz):=by rw[Am4];congr 1;omega
  have e2:((cells.drop off).take ((n+1)*sz)).drop ((i+1)*sz)=(cells.drop (off+(i+1)*sz)).take ((n - i)*sz):=by rw[Ap0,An0];congr 1;omega
  rw[e1,e2];have e3:(n:Nat)*sz=i*sz+(n - i)*sz:=by rw[← Am0];congr 1;omega
  generalize (cells.drop (off+(i+1)*sz)).take ((n - i)*sz)=D at*
  have h1:((BS (BS cells (off+i*sz) D) (off+n*sz) (BI zc 1)).drop off).take (n*sz)=((BS cells (off+i*sz) D).drop off).take (n*sz):=by
   refine Aj5 λk=>?_
   rw[Ah5,Ah5]
   by_cases c:k<n*sz
   ·rw[if_pos c,if_pos c,Ah6,Ah6,KN (by rw[Ej,hz];omega),if_neg (by omega)]
   ·rw[if_neg c,if_neg c]
  rw[h1,e3]
  have:=(ZM cells off (i*sz) D (by omega)).1
  rw[hDl]at this;exact this
 ·simp[hL]
 ·rw[Cg (by simp[Bl]at hj;omega)];exact hO j (by simpa[Bl]using hj)
end
end
section
theorem compareString_calls (a b:ByteArray)(H:AH):ACalls prog 183 [.lit (.string a),.lit (.string b)] H λr H'=>r=.lit (.int .i64 (Lib.compareBytes a.data.toList b.data.toList))∧H'=H:=by
 refine ACalls.of_body func183 rfl ?_;refine ACode.seq (ACode.region (AOps.op rfl rfl (AOps.nil ?_)));refine ACode.seq (ACode.region (AOps.op rfl rfl (AOps.op rfl rfl (AOps.extern rfl rfl (r:=.lit (.int .i64 (Lib.compareBytes a.data.toList b.data.toList))) ?_ (AOps.op rfl rfl (AOps.nil ?_))))))
 ·intro G vs hH hv
  have hv':VRs G [.lit (.string a),.lit (.string b)] vs:=hv;simp only[VRs,VR]at hv';obtain⟨_,_,rfl,rfl,_,_,rfl,rfl,rfl⟩:=hv';refine⟨.int .i64 (Lib.compareBytes a.data.toList b.data.toList),?_,by simp only[VR]⟩
  rw[run_callFunc_extern func196 (by kernel_rfl) (by kernel_rfl) (by kernel_rfl) (e:=Extern.BytealgCompare.compare) (by kernel_rfl),
   Lib.run_compareString (P:=prog) a b G.w]
  rfl
 ·exact ACode.ret ⟨.inr rfl,_,rfl,rfl,rfl⟩
def iM:Fk:=λf args H=>if f=183 then match args with
  | [.lit (.string a),.lit (.string b)]=>some (.lit (.int .i64 (Lib.compareBytes a.data.toList b.data.toList)),H)
  | _=>none
 else none
theorem nF:Hy prog iM:=by
 intro f args H r H' h;unfold iM at h;split at h
 ·rename_i hf
  subst hf;split at h
  ·injection h with h
   injection h with h1 h2;subst h1;subst h2;exact compareString_calls _ _ _
  ·cases h
 ·cases h
end
end Go.Proofs.YtadghlcfbajamaaGreat.Av
