/- Texts of this proof, one behind the other, packed into one file by a program of this session. No condition. -/
import Derived.Test.YtadghlcfbajamaaGreatMsF
set_option linter.unusedVariables false
set_option linter.unusedSimpArgs false
set_option maxRecDepth 100000
namespace Go.Proofs.YtadghlcfbajamaaGreat.Av
open Go Go.RowKit Go.Proofs.Tryz
section
section
variable {κ α : Type} {c : κ→κ→Int} {key : α→κ}
abbrev Ar0:=@List.getLast?_eq_getElem?
theorem SM (hc:KO c){l:List α}{x:α}:Cn c key (l++[x])↔Cn c key l∧∀y,l.getLast?=some y→c (key y) (key x)<0:=by
 unfold Cn;rw[Am9]
 constructor
 ·rintro⟨h1,-,h3⟩
  exact⟨h1,λy hy=>h3 y (List.mem_of_getLast? hy) x (by simp)⟩
 ·rintro⟨h1,h2⟩
  refine⟨h1,List.pairwise_singleton _ _,λa ha b hb=>?_⟩;rw[An5]at hb;subst hb;obtain⟨m,hm⟩:=Ai1.1 ha;have hl:=(B5.1 hm).1;have hy:l.getLast?=some (l[l.length - 1]):=by rw[Ar0,DJ (by omega)]
  have h3:=h2 _ hy;rcases Ah2 m (l.length - 1)with h | h
  ·exact hc.trans _ _ _ (Lu h1 hm (DJ (by omega)) h) h3
  ·have:m=l.length - 1:=by omega
   subst this;rw[DJ (by omega)]at hm;injection hm with hm;rw[← hm];exact h3
end
def oB (l:List Nm):Prop:=(∀x∈l,DK x.name∧1≤x.ino∧x.ino≤4611686018427387904)∧Cn Bd Nm.name l∧(l.map Nm.ino).Nodup
instance (l:List Nm):Decidable (oB l):=by unfold oB;infer_instance
def Vk (l:List Nm):Prop:=l.length≤16∧oB l
instance (l:List Nm):Decidable (Vk l):=by unfold Vk;infer_instance
abbrev Ai7:=@List.mem_map_of_mem
theorem Pu {l:List Nm}{x:Nm}:oB (l++[x])↔oB l∧(DK x.name∧(∀y,l.getLast?=some y→Bd y.name x.name<0)∧1≤x.ino∧x.ino≤4611686018427387904∧¬AT Nm.ino l x.ino):=by
 unfold oB;rw[SM koN,Aj4,List.nodup_append];simp only[Aa9,Ad2,Aq7,List.not_mem_nil,not_false_eq_true,List.nodup_nil,and_self,true_and]
 constructor
 ·rintro⟨h1,⟨h2,h3⟩,h4,h5⟩
  refine⟨⟨λy hy=>h1 y (.inl hy),h2,h4⟩,(h1 x (.inr rfl)).1,h3,(h1 x (.inr rfl)).2.1,(h1 x (.inr rfl)).2.2,?_⟩;rintro⟨y,hy,e⟩;exact h5 y.ino (Ai7 hy) x.ino rfl e
 ·rintro⟨⟨h1,h2,h4⟩,h5,h6,h7,h8,h9⟩
  refine⟨?_,⟨h2,h6⟩,h4,?_⟩
  ·rintro y (hy | rfl)
   ·exact h1 y hy
   ·exact⟨h5,h7,h8⟩
  ·rintro a ha b rfl e
   obtain⟨y,hy,e2⟩:=Aj7.1 ha;exact h9 ⟨y,hy,by rw[e2,e]⟩
theorem lM {a b:List Nm}(h:oB (a++b)):oB a:=by
 unfold oB at h⊢;refine⟨λx hx=>h.1 x (by simp[hx]),(Am9.1 h.2.1).1,?_⟩
 have:=h.2.2
 rw[Aj4,List.nodup_append]at this;exact this.1
def Wd (l:List Nm):List (Int×AV):=l.map λx=>(x.ino,B true)
theorem ZB (l:List Nm)(k:Int):eY (B false) (Wd l) k=B (decide (AT Nm.ino l k)):=by
 induction l with
 | nil=>simp[eY,Wd,AT]
 | cons a l ih=>
  unfold eY Wd at ih⊢;rw[An7]
  by_cases h:a.ino=k
  ·rw[List.find?_cons_of_pos (by simp[h])]
   have:AT Nm.ino (a::l) k:=⟨a,by simp,h⟩;simp[this]
  ·rw[List.find?_cons_of_neg (by simp[h]),ih]
   have:AT Nm.ino (a::l) k↔AT Nm.ino l k:=by
    unfold AT;simp[h]
   simp[this]
theorem oG {l:List Nm}{x:Nm}(h:¬AT Nm.ino l x.ino):uV (Wd l) x.ino (B true)=Wd (l++[x]):=by
 unfold uV
 have:(Wd l).findIdx? (λp=>p.1==x.ino)=none:=by
  rw[Am2];intro p hp;obtain⟨y,hy,rfl⟩:=Aj7.1 hp;simp only[beq_eq_false_iff_ne,ne_eq];exact λe=>h ⟨y,hy,e⟩
 rw[this];simp[Wd]
def zI (H:AH)(l:List Nm)(r:AV)(H':AH):Prop:=Grew H H'∧
 (Vk l→∃o,r=.tup [.mp o,B true]∧H'[o]?=some (some (.map (VN (Wd l)))))∧(¬Vk l→r=.tup [.lit (.map none),B false])
theorem uQ {H:AH}{l:List Nm}{v:AV}(hv:SV BL 2 l v)(hl:l.length≤281474976710656)(hs:∀x∈l,x.name.length≤9223372036854775807):∃r H',zI H l r H'∧BCall prog 133 [v] H r H':=Yt (by
 unfold WE
 by_cases h16:l.length≤16
 ·have e16:¬(16:Int)<l.length:=by omega
  simp[hv.len,e16];refine Ta (λn x0 x4 x11 x12 x13 H'=>∃k:Nat,k+n=l.length∧x0=v∧x4=.mp H.length∧x11=v∧x12=I l.length∧x13=I k∧Grew H H'∧H'[H.length]?=some (some (.map (VN (Wd (l.take k)))))∧oB (l.take k)) ?_ l.length ⟨0,by omega,rfl,rfl,rfl,rfl,rfl,Grew.app _ _,by simp;rfl,by simp[oB,Cn]⟩;rintro n x0 x4 x11 x12 x13 H' R hR ⟨k,hk,rfl,rfl,rfl,rfl,rfl,hg,hm,hok⟩;unfold Pq;rcases Ah2 k l.length with h | h
  ·have hx:=DJ h
   generalize l[k]=x at hx;have htk:l.take (k+1)=l.take k++[x]:=by rw[Aj6,hx];rfl
   have hgt:∀y,(l.take k).getLast?=some y↔0<k∧l[k - 1]?=some y:=by
    intro y;rw[Ar0,Ah1,An2 (by omega),Ah5]
    by_cases c:0<k
    ·rw[if_pos (by omega)];exact⟨λh=>⟨c,h⟩,λh=>h.2⟩
    ·rw[if_neg (by omega)];exact⟨λh=>(by cases h),λh=>absurd h.1 c⟩
   have hstep:Vk l→DK x.name∧(∀y,0<k∧l[k - 1]?=some y→Bd y.name x.name<0)∧1≤x.ino∧x.ino≤4611686018427387904∧¬AT Nm.ino (l.take k) x.ino:=by
    rintro⟨-,ho⟩;rw[← Al5 (k+1) l,htk]at ho
    have:=(Pu.1 (lM ho)).2
    simpa only[hgt]using this
   have hsx:=hs x (Ag9 hx);have g1:=Grew.app H' [some (.cells (BL x))];have c1:(H'++[some (AObj.cells [S (B0 x.name),I x.ino])])[H.length]?=some (some (.map (VN (Wd (l.take k))))):=g1.cells hm
   have ea:AJ 2 (H'++[some (.cells [S (B0 []),I 0])]) (.ptr H'.length 0) (.agg (BL x))=some (H'++[some (.cells (BL x))]):=by
    simp[AJ,BL,AZ]
   simp[h,hv.idx BF hx rfl,fW,XE,ea];simp[BL];refine bP_of (OU (s:=x.name) (by omega)) ?_;have hno:¬(DK x.name∧(∀y,0<k∧l[k - 1]?=some y→Bd y.name x.name<0)∧1≤x.ino∧x.ino≤4611686018427387904∧¬AT Nm.ino (l.take k) x.ino)→zI H l (.tup [.lit (.map none),B false]) (H'++[some (.cells (BL x))]):=λhn=>⟨hg.trans g1,λhh=>absurd (hstep hh) hn,λ_=>rfl⟩
   have key:(∀y,0<k∧l[k - 1]?=some y→Bd y.name x.name<0)→DK x.name→True:=λ_ _=>trivial
   by_cases a1:DK x.name
   ·have hal:tC (.int .i64) (.bool false) (H'++[some (AObj.cells [S (B0 x.name),I x.ino])]) (.mp H.length) (I x.ino) false=some (B (decide (AT Nm.ino (l.take k) x.ino))):=by
     rw[kO c1];exact congrArg some (ZB _ _)
    have ham:¬AT Nm.ino (l.take k) x.ino→yT (.int .i64) (H'++[some (AObj.cells [S (B0 x.name),I x.ino])]) (.mp H.length) (I x.ino) (B true)=some ((H'++[some (AObj.cells [S (B0 x.name),I x.ino])]).set H.length (some (.map (VN (Wd (l.take k++[x])))))):=λhn=>by
     rw[uB c1,oG hn]
    have hol:H.length<H'.length:=(B5.1 hm).1;rcases Al1 k with h0 | hk0
    ·have e0:¬0<k:=by omega
     have a5:∀y,(l.take k).getLast?=some y→Bd y.name x.name<0:=λy hy=>by have:=(hgt y).1 hy;omega
     by_cases a2:x.ino<1
     ·simp[a1,e0,a2]
      exact hno λhh=>by omega
     ·by_cases a3:4611686018427387904<x.ino
      ·simp[a1,e0,a2,a3]
       exact hno λhh=>by omega
      ·by_cases a4:AT Nm.ino (l.take k) x.ino
       ·simp[a1,e0,a2,a3,hal,a4]
        exact hno λhh=>hh.2.2.2.2 a4
       ·simp[a1,e0,a2,a3,hal,a4,ham a4,Ax (a:=(k:Nat)) (b:=1) (by omega) (by omega)]
        refine hR (n - 1) _ _ _ _ _ _ (by omega) ⟨k+1,by omega,rfl,rfl,rfl,rfl,by simp,⟨Ai8 (hg.trans g1).1 (Ar2 List.length_set.symm),λi hi=>(Cg (by omega)).trans ((hg.trans g1).2 i hi)⟩,by rw[htk,KI (by simp;omega)],by rw[htk,Pu];exact⟨hok,a1,a5,by omega,by omega,a4⟩⟩
    ·have e0:0<k:=hk0
     have hy:=DJ (l:=l) (i:=k - 1) (by omega);generalize l[k - 1]=y at hy;have es:Ar .sub (I k) (I 1)=some (I ((k - 1:Nat):Int)):=by rw[Bv (by omega) (by omega)];congr 3;omega
     have ei:=hv.idx BF hy (i:=((k - 1:Nat):Int)) rfl
     by_cases a6:Bd y.name x.name<0
     ·have a5:∀y,(l.take k).getLast?=some y→Bd y.name x.name<0:=λz hz=>by have:=((hgt z).1 hz).2;rw[hy]at this;injection this with this;rw[← this];exact a6
      by_cases a2:x.ino<1
      ·simp[a1,e0,es,ei,TX,S3,a6,a2]
       exact hno λhh=>by omega
      ·by_cases a3:4611686018427387904<x.ino
       ·simp[a1,e0,es,ei,TX,S3,a6,a2,a3]
        exact hno λhh=>by omega
       ·by_cases a4:AT Nm.ino (l.take k) x.ino
        ·simp[a1,e0,es,ei,TX,S3,a6,a2,a3,hal,a4]
         exact hno λhh=>hh.2.2.2.2 a4
        ·simp[a1,e0,es,ei,TX,S3,a6,a2,a3,hal,a4,ham a4,Ax (a:=(k:Nat)) (b:=1) (by omega) (by omega)]
         refine hR (n - 1) _ _ _ _ _ _ (by omega) ⟨k+1,by omega,rfl,rfl,rfl,rfl,by simp,⟨Ai8 (hg.trans g1).1 (Ar2 List.length_set.symm),λi hi=>(Cg (by omega)).trans ((hg.trans g1).2 i hi)⟩,by rw[htk,KI (by simp;omega)],by rw[htk,Pu];exact⟨hok,a1,a5,by omega,by omega,a4⟩⟩
     ·simp[a1,e0,es,ei,TX,S3,a6]
      exact hno λhh=>a6 (hh.2.1 y ⟨hk0,hy⟩)
   ·simp[a1]
    exact hno λhh=>a1 hh.1
  ·have:l.take k=l:=Ah4 (by omega)
   rw[this]at hm hok;simp[show ¬k<l.length by omega];exact⟨hg,λ_=>⟨_,rfl,hm⟩,λhn=>absurd ⟨h16,hok⟩ hn⟩
 ·have e16:(16:Int)<l.length:=by omega
  have:¬Vk l:=λh=>h16 h.1
  simp[hv.len,e16];exact⟨Grew.refl _,λh=>absurd h this,λ_=>rfl⟩)
end
section
def rU (ns:List Nm)(ds:List Nd):Prop:=Cn B8 Nd.ino ds∧∀d∈ds,AT Nm.ino ns d.ino∧Dj d.size d.l
instance (ns:List Nm) (ds:List Nd):Decidable (rU ns ds):=by unfold rU;infer_instance
def EJ (ns:List Nm)(ds:List Nd):Prop:=Vk ns∧ds.length=ns.length∧rU ns ds
instance (ns:List Nm) (ds:List Nd):Decidable (EJ ns ds):=by unfold EJ;infer_instance
def Sm (ns:List Nm)(ds:List Nd):Prop:=ns.length≤100000∧ds.length≤100000∧(∀x∈ns,x.name.length≤9223372036854775807)∧∀d∈ds,d.l.length≤1000000
def ImV (ns:List Nm)(ds:List Nd)(v:AV):Prop:=∃a b dv,v=.agg [a,b]∧SV BL 2 ns a∧SV BB 3 dv b∧dv.map NdV.nd=ds
theorem ImV.noIds {ns:List Nm}{ds:List Nd}{v:AV}(h:ImV ns ds v):Az [v]=true:=by
 obtain⟨a,b,dv,rfl,h1,h2,rfl⟩:=h;simp[Az,Av.noIds,h1.1,h2.1]
theorem fM {ns:List Nm}{ds:List Nd}{d:Nd}:rU ns (ds++[d])↔rU ns ds∧(∀y,ds.getLast?=some y→y.ino<d.ino)∧AT Nm.ino ns d.ino∧Dj d.size d.l:=by
 unfold rU;rw[SM koI];simp only[NT,Aa9]
 constructor
 ·rintro⟨⟨h1,h2⟩,h3⟩
  exact⟨⟨h1,λy hy=>h3 y (.inl hy)⟩,h2,h3 d (.inr rfl)⟩
 ·rintro⟨⟨h1,h3⟩,h2,h4⟩
  refine⟨⟨h1,h2⟩,?_⟩;rintro y (hy | rfl)
  ·exact h3 y hy
  ·exact h4
theorem uS {ns:List Nm}{a b:List Nd}(h:rU ns (a++b)):rU ns a:=
 ⟨(Am9.1 h.1).1,λd hd=>h.2 d (by simp[hd])⟩
theorem Jf {α:Type}{l:List α}{k:Nat}(hk:k≤l.length)(y:α):(l.take k).getLast?=some y↔0<k∧l[k - 1]?=some y:=by
 rw[Ar0,Ah1,An2 hk,Ah5]
 by_cases c:0<k
 ·rw[if_pos (by omega)];exact⟨λh=>⟨c,h⟩,λh=>h.2⟩
 ·rw[if_neg (by omega)];exact⟨λh=>(by cases h),λh=>absurd h.1 c⟩
theorem Ge {α:Type}{l:List α}{k:Nat}{x:α}(hx:l[k]?=some x):l.take (k+1)=l.take k++[x]:=by rw[Aj6,hx];rfl
abbrev As1:=@List.getLast?_map
theorem dB {ns:List Nm}{ds:List Nd}{v:AV}(hv:ImV ns ds v)(hb:Sm ns ds):BPure prog 82 [v] (B (decide (EJ ns ds))):=BPure.val hv.noIds rfl (bD (by
 obtain⟨a,b,dv,rfl,ha,hbv,rfl⟩:=hv;have b1:=hb.1;have b2:=hb.2.1;rw[Ai2]at b2;unfold Z5;have oa:=SV.oneA ha;have ob:=SV.oneA hbv;simp[oa,ob];obtain⟨r,H5,⟨hg,hy,hn⟩,hc⟩:=uQ (H:=[some (.cells [a,b])]) ha (by omega) (λx hx=>by have:=hb.2.2.1 x hx;omega);refine bC_of hc ?_;have c0:H5[0]?=some (some (.cells [a,b])):=hg.cells rfl
 by_cases hm:Vk ns
 ·obtain⟨o,rfl,hmap⟩:=hy hm
  have hal:iD H5 (.mp o)=some (I ns.length):=by
   simp[iD,hmap,VN,Wd,goInt]
  simp[c0,hbv.len,hal]
  by_cases hlen:dv.length=ns.length
  ·have hlI:¬((dv.length:Int)≠ns.length):=by omega
   simp[hlen];refine UZ (λn x3 x5 x25 x26 x27 H'=>∃k:Nat,k+n=dv.length∧x3=.mp o∧(∃last:Int,x5=I last∧0≤last∧(∀y,(dv.take k).getLast?=some y→y.ino≤last)∧(last=0∨∃y,(dv.take k).getLast?=some y∧y.ino=last))∧x25=b∧x26=I ns.length∧x27=I k∧Grew H5 H'∧rU ns ((dv.take k).map NdV.nd)) ?_ dv.length ⟨0,by omega,rfl,⟨0,rfl,by omega,by simp,.inl rfl⟩,rfl,rfl,rfl,Grew.refl _,by simp[rU,Cn]⟩;rintro n x3 x5 x25 x26 x27 H' R hR ⟨k,hk,rfl,⟨last,rfl,hl0,hl1,hl2⟩,rfl,rfl,rfl,hg2,hok⟩;unfold RW;rcases Ah2 k ns.length with h | h
   ·have hx:=DJ (l:=dv) (i:=k) (by omega)
    generalize dv[k]=d at hx
    have ea:AJ 3 (H'++[some (.cells [I 0,I 0,Ac])]) (.ptr H'.length 0) (.agg (BB d))=some (H'++[some (.cells (BB d))]):=by
     have:=SV.oneA d.h
     simp[AJ,BB,AZ,this]
    have g1:=Grew.app H' [some (.cells (BB d))];have c1:(H'++[some (AObj.cells [I d.nd.ino,I d.nd.size,d.R])])[o]?=some (some (.map (VN (Wd ns)))):=g1.cells (hg2.cells hmap)
    have hal2:tC (.int .i64) (.bool false) (H'++[some (AObj.cells [I d.nd.ino,I d.nd.size,d.R])]) (.mp o) (I d.nd.ino) false=some (B (decide (AT Nm.ino ns d.nd.ino))):=by
     rw[kO c1];exact congrArg some (ZB _ _)
    have hdl:d.nd.l.length≤281474976710656:=by
     have:=hb.2.2.2 d.nd (Ai7 (Ag9 hx));omega
    have htk:=Ge hx
    have hstep:EJ ns (dv.map NdV.nd)→last<d.nd.ino∧AT Nm.ino ns d.nd.ino∧Dj d.nd.size d.nd.l:=by
     rintro⟨-,-,ho⟩;rw[← Al5 (k+1) dv,htk,Aj4,Aj4]at ho;have h3:=(fM.1 (uS ho)).2;refine⟨?_,h3.2⟩;rcases hl2 with rfl | ⟨y,hy,rfl⟩
     ·obtain⟨x,hx,e⟩:=h3.2.1
      have:=(hm.2.1 x hx).2.1
      omega
     ·exact h3.1 y.nd (by rw[As1,hy];rfl)
    simp[h,hbv.idx B4 hx rfl,fV,ea];simp[BB]
    by_cases a1:d.nd.ino≤last
    ·have:¬EJ ns (dv.map NdV.nd):=λhh=>by have:=(hstep hh).1;omega
     simp[a1,this]
    ·by_cases a2:AT Nm.ino ns d.nd.ino
     ·simp[a1,hal2,a2,Aq]
      refine As (EI d.h hdl) ?_
      by_cases a3:Dj d.nd.size d.nd.l
      ·simp[a3,Ax (a:=k) (b:=1) (by omega) (by omega)]
       refine hR (n - 1) _ _ _ _ _ _ (by omega) ⟨k+1,by omega,rfl,⟨d.nd.ino,rfl,by omega,?_,.inr ⟨d,by rw[htk];simp,rfl⟩⟩,rfl,rfl,by simp,hg2.trans g1,?_⟩
       ·intro y hy
        rw[htk]at hy;simp at hy;rw[← hy];exact Int.le_refl _
       ·rw[htk,Aj4]
        refine fM.2 ⟨hok,λy hy=>?_,a2,a3⟩;rw[As1]at hy;obtain⟨z,hz,rfl⟩:=Option.map_eq_some_iff.1 hy;have h9:z.nd.ino≤last:=hl1 z hz
        show z.nd.ino<d.nd.ino
        omega
      ·have:¬EJ ns (dv.map NdV.nd):=λhh=>a3 (hstep hh).2.2
       simp[a3,this]
     ·have:¬EJ ns (dv.map NdV.nd):=λhh=>a2 (hstep hh).2.1
      simp[a1,hal2,a2,this]
   ·have e:dv.take k=dv:=Ah4 (by omega)
    rw[e]at hok;have:EJ ns (dv.map NdV.nd):=⟨hm,by simp[hlen],hok⟩;simp[show ¬k<ns.length by omega,this]
  ·have:¬EJ ns (dv.map NdV.nd):=λh=>hlen (by simpa using h.2.1)
   have hlI:((dv.length:Int)≠ns.length):=by omega
   simp[hlI,this]
 ·have:¬EJ ns (dv.map NdV.nd):=λh=>hm h.1
  rw[hn hm];simp[this]))
abbrev Ac1:=And.intro @Ao @E0
abbrev Ad4:=And.intro @Aa8 @B1
abbrev Ag1:=And.intro @Ac1 @Ad4
theorem EX {s:List UInt8}(hs:s.length≤9223372036854775807):BPure prog 60 [S (B0 s)] (B (decide (DK s))):=BPure.flat λH=>Qh (by
 unfold LG;refine Mh (λn x0 x3 H'=>∃k:Nat,k+n=s.length∧x0=S (B0 s)∧x3=I k∧H'=H∧(∀m y,m<k→s[m]?=some y→Qb y)∧(0<k→s[0]?≠some 45)) ?_ s.length ⟨0,by omega,rfl,rfl,rfl,by omega,by omega⟩;rintro n x0 x3 H' R hR ⟨k,hk,rfl,rfl,rfl,hb,h45⟩;unfold HW;rw[Zw (by omega)];rcases Ah2 k s.length with h | h
 ·have hx:=DJ h
  generalize s[k]=y at hx;have hno:¬(Qb y∧(k=0→¬(y.toNat:Int)=45))→¬DK s:=λhn hm=>hn ⟨hm.2.2.2 y (Ag9 hx),λe0 e=>hm.2.2.1 (by rw[← e0,hx];congr 1;exact(zdglZ (k:=45) rfl).mp e)⟩
  have next:Qb y→(k=0→¬(y.toNat:Int)=45)→R [S (B0 s),I ((k:Int)+1)] H':=λh1 h2=>hR (n - 1) _ _ _ (by omega) ⟨k+1,by omega,rfl,by simp,rfl,λm z hm hz=>by
   by_cases c:m=k
   ·rw[c,hx]at hz;injection hz with hz;rw[← hz];exact h1
   ·exact hb m z (by omega) hz,λ_=>by
   rcases Al1 k with rfl | h0
   ·rw[hx];intro e;injection e with e;exact h2 rfl ((zdglZ (k:=45) rfl).mpr e)
   ·exact h45 h0⟩
  have e1:=Ax (a:=k) (b:=1) (by omega) (by omega);simp[h,VE rfl hx]
  by_cases c1:(y.toNat:Int)<97
  ·by_cases c2:(y.toNat:Int)<48
   ·by_cases c3:(y.toNat:Int)=46
    ·simp[c3,e1]
     exact next (by unfold Qb;omega) (by omega)
    ·by_cases c4:(y.toNat:Int)=45
     ·rcases Al1 k with h0 | h0
      ·have:¬DK s:=hno λhh=>hh.2 h0 c4
       simp[c4,h0,this]
      ·simp[c4,e1,show ¬k=0 by omega]
       exact next (by unfold Qb;omega) (by omega)
     ·have e95:¬(y.toNat:Int)=95:=by omega
      have:¬DK s:=hno λhh=>by unfold Qb at hh;omega
      simp[c1,c2,c3,c4,e95,this]
   ·by_cases c3:(57:Int)<y.toNat
    ·by_cases c4:(y.toNat:Int)=95
     ·simp[c4,e1]
      exact next (by unfold Qb;omega) (by omega)
     ·have e46:¬(y.toNat:Int)=46:=by omega
      have e45:¬(y.toNat:Int)=45:=by omega
      have:¬DK s:=hno λhh=>by unfold Qb at hh;omega
      simp[c1,c2,c3,c4,e46,e45,this]
    ·simp[c1,c2,c3,e1]
     exact next (by unfold Qb;omega) (by omega)
  ·by_cases c2:(122:Int)<y.toNat
   ·have e48:¬(y.toNat:Int)<48:=by omega
    have e57:(57:Int)<y.toNat:=by omega
    have e46:¬(y.toNat:Int)=46:=by omega
    have e95:¬(y.toNat:Int)=95:=by omega
    have e45:¬(y.toNat:Int)=45:=by omega
    have:¬DK s:=hno λhh=>by unfold Qb at hh;omega
    simp[c1,c2,e48,e57,e46,e95,e45,this]
   ·simp[c1,c2,e1]
    exact next (by unfold Qb;omega) (by omega)
 ·have hall:∀b∈s,Qb b:=λb hb'=>by
   obtain⟨m,hm⟩:=Ai1.1 hb'
   have:=(B5.1 hm).1
   exact hb m b (by omega) hm
  have e0:¬k<s.length:=by omega
  rcases Al1 s.length with h0 | h0
  ·have:¬DK s:=λhm=>hm.1 (List.length_eq_zero_iff.1 h0)
   have e1:¬(1:Int)≤s.length:=by omega
   have e2:¬1≤s.length:=by omega
   simp only[Ag1,Int.ofNat_lt,e0];simp[h0,this]
  ·by_cases h20:s.length≤20
   ·have:DK s:=⟨λe=>by rw[e]at h0;simp at h0,h20,h45 (by omega),hall⟩
    have e1:(1:Int)≤s.length:=by omega
    have e2:(s.length:Int)≤20:=by omega
    simp[e0,e1,e2,Mp,this]
   ·have:¬DK s:=λhm=>h20 hm.2.1
    have e1:(1:Int)≤s.length:=by omega
    have e2:¬(s.length:Int)≤20:=by omega
    simp[e0,e1,e2,Mp,this]
    try omega)
section
variable {κ α : Type} [DecidableEq κ] {c : κ→κ→Int} {key : α→κ}
def IX (key:α→κ)(l:List α)(k:κ):Int:=match l.findIdx? (λx=>decide (key x=k))with
 | some j=>j
 | none=> -1
theorem VX {l:List α}{k:κ}(h:¬AT key l k):IX key l k= -1:=by
 unfold IX
 have:l.findIdx? (λx=>decide (key x=k))=none:=by
  rw[Am2];intro x hx;simp only[decide_eq_false_iff_not];exact λe=>h ⟨x,hx,e⟩
 rw[this]
theorem lC {l:List α}{k:κ}{j:Nat}{x:α}(hx:l[j]?=some x)(hk:key x=k)(hn:∀m y,m<j→l[m]?=some y→key y≠k):IX key l k=j:=by
 unfold IX
 have:l.findIdx? (λx=>decide (key x=k))=some j:=by
  obtain⟨h1,h2⟩:=B5.1 hx;rw[Am6];refine⟨h1,by rw[h2];simp[hk],λm hm=>?_⟩
  have:=hn m _ hm (DJ (by omega))
  simp[this]
 rw[this]
theorem Ym {l:List α}{k:κ}(h:AT key l k):∃(j:Nat) (x:α),IX key l k=j∧l[j]?=some x∧key x=k:=by
 unfold IX;cases hf:l.findIdx? (λx=>decide (key x=k))with
 | none=>
  rw[Am2]at hf;obtain⟨x,hx,e⟩:=h
  have:=hf x hx
  simp[e]at this
 | some j=>
  obtain⟨h1,h2,h3⟩:=Am6.1 hf;exact⟨j,l[j],rfl,DJ h1,by simpa using h2⟩
theorem Pm (hc:KO c){l:List α}(hs:Cn c key l){k:κ}(h:AT key l k):IX key l k=CX c key l k:=by
 obtain⟨j,x,h1,h2,rfl⟩:=Ym h;rw[h1,SG hc hs h2]
theorem GY {l:List α}{k:κ}:IX key l k<0↔¬AT key l k:=by
 constructor
 ·intro h hh
  obtain⟨j,x,h1,h2,rfl⟩:=Ym hh;omega
 ·intro h;rw[VX h];omega
end
theorem F3 {ns:List Nm}{ds:List Nd}{v:AV}(hv:ImV ns ds v)(hb:Sm ns ds)(s:List UInt8):BPure prog 111 [v,S (B0 s)] (I (IX Nm.name ns s)):=BPure.val (by have:=hv.noIds;simpa[Az,noIds]using this) rfl (Su (by
 obtain⟨a,b,dv,rfl,ha,hbv,rfl⟩:=hv;have b1:=hb.1;unfold Ov;have oa:=SV.oneA ha;have ob:=SV.oneA hbv;simp[oa,ob];refine NM (λn x1 x2 x5 H'=>∃k:Nat,k+n=ns.length∧x1=S (B0 s)∧x2=.ptr 0 0∧x5=I k∧H'=[some (.cells [a,b])]∧∀m y,m<k→ns[m]?=some y→y.name≠s) ?_ ns.length ⟨0,by omega,rfl,rfl,rfl,rfl,by omega⟩;rintro n x1 x2 x5 H' R hR ⟨k,hk,rfl,rfl,rfl,rfl,hn⟩;unfold J4;rcases Ah2 k ns.length with h | h
 ·have hx:=DJ h
  generalize ns[k]=x at hx;simp[ha.len,h,ha.idx BF hx rfl,TX,PV]
  by_cases c:x.name=s
  ·have:=lC hx c hn
   simp[c,this]
  ·simp[c,Ax (a:=k) (b:=1) (by omega) (by omega)]
   exact hR (n - 1) _ _ _ _ (by omega) ⟨k+1,by omega,rfl,rfl,by simp,rfl,λm y hm hy=>by
    by_cases c2:m=k
    ·rw[c2,hx]at hy;injection hy with hy;rw[← hy];exact c
    ·exact hn m y (by omega) hy⟩
 ·have:IX Nm.name ns s= -1:=VX (by
   rintro⟨x,hx,e⟩;obtain⟨m,hm⟩:=Ai1.1 hx
   have:=(B5.1 hm).1
   exact hn m x (by omega) hm e)
  simp[ha.len,show ¬k<ns.length by omega,this]))
theorem getElem?_map_nd {dv:List NdV}{k:Nat}{d:Nd}(h:(dv.map NdV.nd)[k]?=some d):∃x,dv[k]?=some x∧x.nd=d:=by
 rw[Ai6]at h;exact Option.map_eq_some_iff.1 h
theorem Iu {ns:List Nm}{ds:List Nd}{v:AV}(hv:ImV ns ds v)(hb:Sm ns ds)(no:Int):BPure prog 165 [v,I no] (I (IX Nd.ino ds no)):=BPure.val (by have:=hv.noIds;simpa[Az,noIds]using this) rfl (To (by
 obtain⟨a,b,dv,rfl,ha,hbv,rfl⟩:=hv;have b1:=hb.2.1;rw[Ai2]at b1;unfold PA;have oa:=SV.oneA ha;have ob:=SV.oneA hbv;simp[oa,ob];refine OL (λn x1 x2 x5 H'=>∃k:Nat,k+n=dv.length∧x1=I no∧x2=.ptr 0 0∧x5=I k∧H'=[some (.cells [a,b])]∧∀m y,m<k→(dv.map NdV.nd)[m]?=some y→y.ino≠no) ?_ dv.length ⟨0,by omega,rfl,rfl,rfl,rfl,by omega⟩;rintro n x1 x2 x5 H' R hR ⟨k,hk,rfl,rfl,rfl,rfl,hn⟩;unfold Ki;rcases Ah2 k dv.length with h | h
 ·have hx:=DJ h
  generalize dv[k]=x at hx;have hx2:(dv.map NdV.nd)[k]?=some x.nd:=by rw[Ai6,hx];rfl
  simp[hbv.len,h,hbv.idx B4 hx rfl,iO]
  by_cases c:x.nd.ino=no
  ·have:=lC (key:=Nd.ino) hx2 c hn
   simp[c,this]
  ·simp[c,Ax (a:=k) (b:=1) (by omega) (by omega)]
   exact hR (n - 1) _ _ _ _ (by omega) ⟨k+1,by omega,rfl,rfl,by simp,rfl,λm y hm hy=>by
    by_cases c2:m=k
    ·rw[c2,hx2]at hy;injection hy with hy;rw[← hy];exact c
    ·exact hn m y (by omega) hy⟩
 ·have:IX Nd.ino (dv.map NdV.nd) no= -1:=VX (by
   rintro⟨x,hx,e⟩;obtain⟨m,hm⟩:=Ai1.1 hx
   have:=(B5.1 hm).1
   rw[Ai2]at this;exact hn m x (by omega) hm e)
  simp[hbv.len,show ¬k<dv.length by omega,this]))
theorem jL:∀{A B:List Int},A.Nodup→(∀a∈A,a∈B)→B.length≤A.length→∀b∈B,b∈A
 | [],B,_,_,hl,b,hb=>by
  have:B=[]:=List.length_eq_zero_iff.1 (by simpa using hl);rw[this]at hb;exact hb
 | a::A,B,hn,hs,hl,b,hb=>by
  rw[Aq7]at hn
  by_cases e:b=a
  ·simp[e]
  ·have haB:=hs a (by simp)
   have hl2:(B.erase a).length≤A.length:=by
    rw[List.length_erase_of_mem haB];simp at hl;omega
   have:=jL (A:=A) (B:=B.erase a) hn.2 (λx hx=>(List.mem_erase_of_ne (fun (e2:x=a)=>hn.1 (e2▸hx))).2 (hs x (by simp[hx]))) hl2 b ((List.mem_erase_of_ne e).2 hb)
   simp[this]
def zdfkZ (N:List Nd)(ns:List Nm)(ds:List Nd):Prop:=oB ns∧Cn B8 Nd.ino ds∧(∀x∈ns,AT Nd.ino N x.ino)∧∀d∈ds,Dj d.size d.l
theorem Se {ns:List Nm}{ds:List Nd}:EJ ns ds↔ns.length≤16∧ds.length=ns.length∧zdfkZ ds ns ds:=by
 unfold EJ Vk rU zdfkZ
 constructor
 ·rintro⟨⟨h1,h2⟩,h3,h4,h5⟩
  refine⟨h1,h3,h2,h4,?_,λd hd=>(h5 d hd).2⟩
  have hn:(ds.map Nd.ino).Nodup:=by
   rw[List.Nodup,Ao9];exact h4.imp λh=>by rw[NT]at h;omega
  have:=jL (A:=ds.map Nd.ino) (B:=ns.map Nm.ino) hn (λa ha=>by
   obtain⟨d,hd,rfl⟩:=Aj7.1 ha;obtain⟨x,hx,e⟩:=(h5 d hd).1;rw[← e];exact Ai7 hx) (by simp[h3])
  intro x hx;obtain⟨d,hd,e⟩:=Aj7.1 (this x.ino (Ai7 hx));exact⟨d,hd,e⟩
 ·rintro⟨h1,h3,h2,h4,h5,h6⟩
  refine⟨⟨h1,h2⟩,h3,h4,λd hd=>⟨?_,h6 d hd⟩⟩
  have:=jL (A:=ns.map Nm.ino) (B:=ds.map Nd.ino) h2.2.2 (λa ha=>by
   obtain⟨x,hx,rfl⟩:=Aj7.1 ha;obtain⟨d,hd,e⟩:=h5 x hx;rw[← e];exact Ai7 hd) (by simp[h3])
  obtain⟨x,hx,e⟩:=Aj7.1 (this d.ino (Ai7 hd));exact⟨x,hx,e⟩
theorem GA {ns:List Nm}{ds:List Nd}{v:AV}(hv:ImV ns ds v)(hb:Sm ns ds):BPure prog 112 [v] (B (decide (EJ ns ds))):=BPure.val hv.noIds rfl (P4 (by
 have hv0:=hv;obtain⟨a,b,dv,rfl,ha,hbv,rfl⟩:=hv;have b1:=hb.1;have b2:=hb.2.1;rw[Ai2]at b2;unfold Ll;have oa:=SV.oneA ha;have ob:=SV.oneA hbv;simp[oa,ob,ha.len]
 by_cases h16:ns.length≤16
 ·have e16:¬(16:Int)<ns.length:=by omega
  by_cases hlen:dv.length=ns.length
  ·have hlI:((ns.length:Int)=dv.length):=by omega
   simp[show ¬(16:Int)<dv.length by omega,hlI,ha.len,hbv.len];refine L9 (λn x1 x3 H'=>∃k:Nat,k+n=ns.length∧x1=.ptr 0 0∧x3=I k∧Grew [some (.cells [a,b])] H'∧zdfkZ (dv.map NdV.nd) (ns.take k) ((dv.take k).map NdV.nd)) ?_ ns.length ⟨0,by omega,rfl,rfl,Grew.refl _,by simp[zdfkZ,oB,Cn]⟩;rintro n x1 x3 H' R hR ⟨k,hk,rfl,rfl,hg,hok⟩;unfold Ho;have c0:H'[0]?=some (some (.cells [a,b])):=hg.cells rfl;rcases Ah2 k ns.length with h | h
   ·have hx:=DJ h
    generalize ns[k]=x at hx;have hd:=DJ (l:=dv) (i:=k) (by omega);generalize dv[k]=d at hd;have hsx:=hb.2.2.1 x (Ag9 hx);have htx:=Ge hx;have htd:=Ge hd
    have hdl:d.nd.l.length≤281474976710656:=by
     have:=hb.2.2.2 d.nd (Ai7 (Ag9 hd));omega
    have hstep:EJ ns (dv.map NdV.nd)→(DK x.name∧(∀y,0<k∧ns[k - 1]?=some y→Bd y.name x.name<0)∧1≤x.ino∧x.ino≤4611686018427387904∧¬AT Nm.ino (ns.take k) x.ino)∧(∀y,0<k∧dv[k - 1]?=some y→y.nd.ino<d.nd.ino)∧AT Nd.ino (dv.map NdV.nd) x.ino∧Dj d.nd.size d.nd.l:=by
     intro hm;obtain⟨-,-,o1,o2,o3,o4⟩:=Se.1 hm;refine⟨?_,?_,o3 x (Ag9 hx),o4 d.nd (Ai7 (Ag9 hd))⟩
     ·rw[← Al5 (k+1) ns,htx]at o1
      have:=(Pu.1 (lM o1)).2
      simpa only[Jf (show k≤ns.length by omega)]using this
     ·rintro y ⟨h0,hy⟩
      have:=Lu o2 (i:=k - 1) (j:=k) (x:=y.nd) (y:=d.nd) (by rw[Ai6,hy];rfl) (by rw[Ai6,hd];rfl) (by omega)
      rwa[NT]at this
    obtain⟨X,ea,c1,c2,g2⟩:∃X,AJ 2 (H'++[some (.cells [S (B0 []),I 0])]) (.ptr H'.length 0) (.agg (BL x))=some X∧X[0]?=some (some (.cells [a,b]))∧X[H'.length]?=some (some (.cells [S (B0 x.name),I x.ino]))∧Grew H' X:=by
     have g1:=Grew.app H' [some (.cells (BL x))];exact⟨_,by simp[AJ,BL,AZ],g1.cells c0,by simp[BL],g1⟩
    simp[c0,ha.len,h,ha.idx BF hx rfl,fW,XE,ea];simp[c2];refine bP_of (EX (s:=x.name) (by omega)) ?_
    by_cases a1:DK x.name
    ·by_cases a2:x.ino<1
     ·have:¬EJ ns (dv.map NdV.nd):=λhm=>by have:=(hstep hm).1.2.2.1;omega
      simp[c2,a1,a2,this]
     ·by_cases a3:4611686018427387904<x.ino
      ·have:¬EJ ns (dv.map NdV.nd):=λhm=>by have:=(hstep hm).1.2.2.2.1;omega
       simp[c2,a1,a2,a3,this]
      ·rcases Al1 k with h0 | hk0
       ·have e0:¬0<k:=by omega
        simp[c2,a1,a2,a3,e0,c1,Aq];refine bP_of (Iu hv0 hb x.ino) ?_
        by_cases a4:AT Nd.ino (dv.map NdV.nd) x.ino
        ·have i4:¬IX Nd.ino (dv.map NdV.nd) x.ino<0:=by rw[GY];exact λh=>h a4
         simp[i4];refine F5 _ (λn x1 x3 x4 x5 H''=>∃j:Nat,j+n=k∧x1=.ptr 0 0∧x3=I k∧x4=.ptr H'.length 0∧x5=I j∧X=H''∧¬AT Nm.ino (ns.take j) x.ino) ?_ k ⟨0,by omega,rfl,rfl,rfl,rfl,rfl,by simp[AT]⟩;rintro n2 y1 y3 y4 y5 H2 R2 hR2 ⟨j,hj,rfl,rfl,rfl,rfl,rfl,hnj⟩;unfold Es;rcases Ah2 j k with hjk | hjk
         ·have hz:=DJ (l:=ns) (i:=j) (by omega)
          generalize ns[j]=z at hz;simp[c2,hjk,c1,ha.idx BF hz rfl,XN]
          by_cases cz:z.ino=x.ino
          ·have:¬EJ ns (dv.map NdV.nd):=λhm=>(hstep hm).1.2.2.2.2 ⟨z,Ai1.2 ⟨j,by rw[Ah5,if_pos hjk];exact hz⟩,cz⟩
           simp[cz,this]
          ·simp[cz,Ax (a:=j) (b:=1) (by omega) (by omega)]
           refine hR2 (n2 - 1) _ _ _ _ _ (by omega) ⟨j+1,by omega,rfl,rfl,rfl,by simp,rfl,?_⟩;rw[Ge hz];rintro⟨w,hw,e⟩;rcases Ak1.1 hw with hw | hw
           ·exact hnj ⟨w,hw,e⟩
           ·rw[An5]at hw;subst hw;exact cz e
         ·have ejk:j=k:=by omega
          subst ejk;have nj:¬j<j:=by omega
          have ei:=hbv.idx B4 hd rfl
          have nxt:(∀y,0<j∧dv[j - 1]?=some y→y.nd.ino<d.nd.ino)→Dj d.nd.size d.nd.l→R [.ptr 0 0,I ((j:Int)+1)] X:=λq1 q2=>by
           refine hR (n - 1) _ _ _ (by omega) ⟨j+1,by omega,rfl,by simp,hg.trans g2,?_⟩;rw[htx,htd,Aj4];obtain⟨o1,o2,o3,o4⟩:=hok;refine⟨Pu.2 ⟨o1,a1,(λy hy=>by have:=(Jf (by omega) y).1 hy;omega),by omega,by omega,hnj⟩,(SM koI).2 ⟨o2,?_⟩,?_,?_⟩
           ·intro y hy
            rw[As1]at hy;obtain⟨w,hw,rfl⟩:=Option.map_eq_some_iff.1 hy;rw[NT];exact q1 w ((Jf (by omega) w).1 hw)
           ·intro y hy
            rcases Ak1.1 hy with hy | hy
            ·exact o3 y hy
            ·rw[An5]at hy;subst hy;exact a4
           ·intro y hy
            rcases Ak1.1 hy with hy | hy
            ·exact o4 y hy
            ·simp at hy;subst hy;exact q2
          have n0:¬0<j:=by omega
          simp[c2,n0,c1,ei];refine bP_of (C4 d.h hdl) ?_
          by_cases q2:Dj d.nd.size d.nd.l
          ·simp[q2,Ax (a:=j) (b:=1) (by omega) (by omega)]
           exact nxt (λy hy=>by omega) q2
          ·have:¬EJ ns (dv.map NdV.nd):=λhm=>q2 (hstep hm).2.2.2
           simp[q2,this]
        ·have i4:IX Nd.ino (dv.map NdV.nd) x.ino<0:=GY.2 a4
         have:¬EJ ns (dv.map NdV.nd):=λhm=>a4 (hstep hm).2.2.1
         simp[i4,this]
       ·have hy:=DJ (l:=ns) (i:=k - 1) (by omega)
        generalize ns[k - 1]=y at hy;have es:Ar .sub (I k) (I 1)=some (I ((k - 1:Nat):Int)):=by rw[Bv (by omega) (by omega)];congr 3;omega
        have eiy:=ha.idx BF hy (i:=((k - 1:Nat):Int)) rfl;simp[c2,a1,a2,a3,hk0,c1,es,eiy,TX,S3]
        by_cases a6:Bd y.name x.name<0
        ·simp[c2,show ¬0≤Bd y.name x.name by omega,Aq]
         refine bP_of (Iu hv0 hb x.ino) ?_
         by_cases a4:AT Nd.ino (dv.map NdV.nd) x.ino
         ·have i4:¬IX Nd.ino (dv.map NdV.nd) x.ino<0:=by rw[GY];exact λh=>h a4
          simp[i4];refine F5 _ (λn x1 x3 x4 x5 H''=>∃j:Nat,j+n=k∧x1=.ptr 0 0∧x3=I k∧x4=.ptr H'.length 0∧x5=I j∧X=H''∧¬AT Nm.ino (ns.take j) x.ino) ?_ k ⟨0,by omega,rfl,rfl,rfl,rfl,rfl,by simp[AT]⟩;rintro n2 y1 y3 y4 y5 H2 R2 hR2 ⟨j,hj,rfl,rfl,rfl,rfl,rfl,hnj⟩;unfold Es;rcases Ah2 j k with hjk | hjk
          ·have hz:=DJ (l:=ns) (i:=j) (by omega)
           generalize ns[j]=z at hz;simp[c2,hjk,c1,ha.idx BF hz rfl,XN]
           by_cases cz:z.ino=x.ino
           ·have:¬EJ ns (dv.map NdV.nd):=λhm=>(hstep hm).1.2.2.2.2 ⟨z,Ai1.2 ⟨j,by rw[Ah5,if_pos hjk];exact hz⟩,cz⟩
            simp[cz,this]
           ·simp[cz,Ax (a:=j) (b:=1) (by omega) (by omega)]
            refine hR2 (n2 - 1) _ _ _ _ _ (by omega) ⟨j+1,by omega,rfl,rfl,rfl,by simp,rfl,?_⟩;rw[Ge hz];rintro⟨w,hw,e⟩;rcases Ak1.1 hw with hw | hw
            ·exact hnj ⟨w,hw,e⟩
            ·rw[An5]at hw;subst hw;exact cz e
          ·have ejk:j=k:=by omega
           subst ejk;have nj:¬j<j:=by omega
           have ei:=hbv.idx B4 hd rfl
           have nxt:(∀y,0<j∧dv[j - 1]?=some y→y.nd.ino<d.nd.ino)→Dj d.nd.size d.nd.l→R [.ptr 0 0,I ((j:Int)+1)] X:=λq1 q2=>by
            refine hR (n - 1) _ _ _ (by omega) ⟨j+1,by omega,rfl,by simp,hg.trans g2,?_⟩;rw[htx,htd,Aj4];obtain⟨o1,o2,o3,o4⟩:=hok;refine⟨Pu.2 ⟨o1,a1,(λz hz=>by have:=((Jf (by omega) z).1 hz).2;rw[hy]at this;injection this with this;rw[← this];exact a6),by omega,by omega,hnj⟩,(SM koI).2 ⟨o2,?_⟩,?_,?_⟩
            ·intro y hy
             rw[As1]at hy;obtain⟨w,hw,rfl⟩:=Option.map_eq_some_iff.1 hy;rw[NT];exact q1 w ((Jf (by omega) w).1 hw)
            ·intro y hy
             rcases Ak1.1 hy with hy | hy
             ·exact o3 y hy
             ·rw[An5]at hy;subst hy;exact a4
            ·intro y hy
             rcases Ak1.1 hy with hy | hy
             ·exact o4 y hy
             ·simp at hy;subst hy;exact q2
           have hw:=DJ (l:=dv) (i:=j - 1) (by omega);generalize dv[j - 1]=w at hw;have es:Ar .sub (I j) (I 1)=some (I ((j - 1:Nat):Int)):=by rw[Bv (by omega) (by omega)];congr 3;omega
           have ew:=hbv.idx B4 hw (i:=((j - 1:Nat):Int)) rfl;simp[c2,hk0,c1,es,ew,ei,iO]
           by_cases q1:d.nd.ino≤w.nd.ino
           ·have:¬EJ ns (dv.map NdV.nd):=λhm=>by have:=(hstep hm).2.1 w ⟨hk0,hw⟩;omega
            simp[q1,this]
           ·simp[q1,c1,ei]
            refine bP_of (C4 d.h hdl) ?_
            by_cases q2:Dj d.nd.size d.nd.l
            ·simp[q2,Ax (a:=j) (b:=1) (by omega) (by omega)]
             exact nxt (λy hy=>by have:=hy.2;rw[hw]at this;injection this with this;rw[← this];omega) q2
            ·have:¬EJ ns (dv.map NdV.nd):=λhm=>q2 (hstep hm).2.2.2
             simp[q2,this]
         ·have i4:IX Nd.ino (dv.map NdV.nd) x.ino<0:=GY.2 a4
          have:¬EJ ns (dv.map NdV.nd):=λhm=>a4 (hstep hm).2.2.1
          simp[i4,this]
        ·have:¬EJ ns (dv.map NdV.nd):=λhm=>a6 ((hstep hm).1.2.1 y ⟨hk0,hy⟩)
         simp[show 0≤Bd y.name x.name by omega,this]
    ·have:¬EJ ns (dv.map NdV.nd):=λhm=>a1 (hstep hm).1.1
     simp[a1,this]
   ·have e1:ns.take k=ns:=Ah4 (by omega)
    have e2:dv.take k=dv:=Ah4 (by omega);rw[e1,e2]at hok;have:EJ ns (dv.map NdV.nd):=Se.2 ⟨h16,by simp[hlen],hok⟩;simp[c0,ha.len,show ¬k<ns.length by omega,this]
  ·have:¬EJ ns (dv.map NdV.nd):=λh=>hlen (by simpa using h.2.1)
   have hlI:¬((ns.length:Int)=dv.length):=by omega
   simp[e16,hlI,ha.len,hbv.len,this]
 ·have:¬EJ ns (dv.map NdV.nd):=λh=>h16 h.1.1
  have e16:(16:Int)<ns.length:=by omega
  simp[e16,this]))
end
section
def cS (o:Option KD):Int:=(o.getD (0,[])).1
def cL (o:Option KD):List Ext:=(o.getD (0,[])).2
theorem WF (l:List Ext):Az (l.flatMap A6)=true:=Eh λx _=>G9 x
def ContK (res:Option KD)(r:AV)(X:AH):Prop:=∃w,r=.tup [.agg [I (cS res),w],B res.isSome]∧Ad X 9 w=some ((cL res).flatMap A6,(cL res).length)
theorem ContK.none {res:Option KD}(h:res=none){X:AH}:ContK res (.tup [.agg [I 0,Ac],B false]) X:=by
 subst h;exact⟨_,rfl,rfl⟩
theorem ContK.some {res:Option KD}{s:Int}{l:List Ext}(h:res=some (s,l)){X:AH}{w:AV}(hw:Ad X 9 w=some (l.flatMap A6,l.length)):ContK res (.tup [.agg [I s,w],B true]) X:=by
 subst h;exact⟨_,rfl,hw⟩
theorem BPure.cont {P:Program}{f:FuncId}{args:List AV}{res:Option KD}(hb:Az args=true)(h:∃r X,ContK res r X∧BCall P f args [] r X):
  ∃R,SV A6 9 (cL res) R∧BPure P f args (.tup [.agg [I (cS res),R],B res.isSome]):=by
 obtain⟨r,X,⟨w,rfl,hw⟩,h⟩:=h;obtain⟨R,hR,fR⟩:=FZ.sv hw (WF _);obtain⟨R',⟨rfl,_⟩,h2⟩:=BPure.FZ (Q:=λR'=>R'=.tup [.agg [I (cS res),R],B res.isSome]∧True) hb ⟨_,X,⟨_,FZ.tup (FZs.cons (FZ.agg (FZs.cons (FZ.lit _) (FZs.cons fR FZs.nil))) (FZs.cons (FZ.lit _) FZs.nil)),rfl,trivial⟩,h⟩;exact⟨R,hR,h2⟩
theorem eL {x:Ext}{k:Nat}{bs:List UInt8}(h:k+bs.length≤8):A6 (Xj x k bs)=BS (A6 x) (1+k) (B2 bs):=by
 have e:BS (A6 x) (1+k) (B2 bs)=I x.no::BS (B2 x.b) k (B2 bs):=by
  unfold BS A6;rw[Aq1 1 k,At5,show k+1+(B2 bs).length=(k+(B2 bs).length)+1 by omega,List.drop_succ_cons];rfl
 rw[e,ZL];unfold A6;rw[lV,sB h]
theorem vD {H:AH}{w s:AV}{l:List Ext}{bs:List UInt8}{x:Ext}{i k m:Nat}{a b:Int}(hw:Ad H 9 w=some (l.flatMap A6,l.length))(ho:Bh w=true)(hx:l[i]?=some x)(hs:Ad H 1 s=some (B2 bs,m))(hk:k+bs.length≤8)(ha:a=i)(hb:b=k):
  ∃p q d H',Bq 9 w (I a)=some p∧Aa 1 p=some q∧YU 8 1 H q (some (I b)) none=some d∧SR 1 H d s=some (I bs.length,H')∧H'.length=H.length∧(∀j,j∉Bl w→H'[j]?=H[j]?)∧Ad H' 9 w=some ((l.set i (Xj x k bs)).flatMap A6,l.length):=by
 subst ha;subst hb;have hi:=(B5.1 hx).1;obtain⟨o,off,cap,cells,rfl,h1,h2,h3⟩:=HN hw ho (by omega);have hol:=(B5.1 h1).1;have hm:m=bs.length:=by have:=BG hs;rw[CV]at this;omega
 subst hm;have hmul:i*9+9≤l.length*9:=by rw[← Ak8];exact Ah7 _ hi
 have e1:min bs.length (8 - k)=bs.length:=by omega
 refine⟨.ptr o (off+i*9),.ptr o (off+i*9+1),.sl o (off+i*9+1+k) (8 - k) 1 (.ex (8 - k)),H.set o (some (.cells (BS cells (off+(i*9+(1+k))) (B2 bs)))),?_,rfl,?_,?_,by simp,λj hj=>Cg (by simp[Bl]at hj;omega),?_⟩
 ·simp only[Bq,L3]
  rw[if_pos ⟨by omega,by omega⟩];simp
 ·simp[YU,CA,h1];omega
 ·unfold SR mQ
  rw[A3 hs];simp only[h1];rw[if_pos ⟨trivial,by omega⟩,e1,Ao0,Ah4 (by rw[CV];omega)];simp only[show off+i*9+1+k=off+(i*9+(1+k)) by omega]
 ·rw[Bo (c:=BS cells (off+(i*9+(1+k))) (B2 bs)) (by simp[hol]) (by rw[HM (by rw[CV];omega)];exact h2)]
  rw[Pw h2 (by rw[CV];omega),← h3,Pv AB hx (eL hk) (by rw[CV];omega)]
theorem T7 (pos:Int)(n:Nat)(hn:n≤281474976710656):BPure prog 86 [I pos,I n] (B (decide (0≤pos∧n≤4096∧pos≤1099511627776 - n))):=BPure.flat λH=>XS (by
 unfold W2
 by_cases h1:0≤pos
 ·by_cases h2:n≤4096
  ·have:(n:Int)≤4096:=by omega
   simp[h1,h2,this,Bv (a:=1099511627776) (b:=n) (by omega) (by omega)]
  ·have:¬(n:Int)≤4096:=by omega
   simp[h1,h2,this]
 ·simp[h1])
theorem XX {size:Int}{l:List Ext}{v bv:AV}{bs:List UInt8}(hv:SV A6 9 l v)(hl:l.length≤1000000)(pos:Int)(hb:SV IW 1 bs bv)(hbl:bs.length≤281474976710656):
  ∃R,SV A6 9 (cL (DI (size,l) pos bs)) R∧BPure prog 35 [.agg [I size,v],I pos,bv] (.tup [.agg [I (cS (DI (size,l) pos bs)),R],B (DI (size,l) pos bs).isSome]):=by
 refine BPure.cont (by simp[Az,noIds,hv.1,hb.1]) (WW ?_);unfold UO;simp[CE hv,Aq];refine As (EI hv (by omega)) ?_
 by_cases h1:Dj size l
 ·simp[h1,hb.len]
  refine As (T7 pos bs.length hbl) ?_
  by_cases h2:0≤pos∧bs.length≤4096∧pos≤1099511627776 - bs.length
  ·have hw:DI (size,l) pos bs=some (if bs=[]then(size,l)else(max size (pos+bs.length),BN l pos bs)):=if_pos ⟨h1,h2⟩
   obtain⟨g1,g2,g3⟩:=h2;simp[g1,g2,g3];obtain⟨r,H2,⟨w,rfl,a2,a3,a4,a5⟩,a1⟩:=UD (size:=size) (hv.2 [some (.cells [I size,v]),some (.cells [I 0,Ac])]) (CE hv) (by omega);refine bC_of a1 ?_;have c0:=a4.cells (o:=0) (x:=some (.cells [I size,v])) rfl;have c1:=a4.cells (o:=1) (x:=some (.cells [I 0,Ac])) rfl;have hl2:=a4.1;simp only[Aa4]at hl2;have hwo:=AI a2;have id0:∀j,j<2→j∉Bl w:=λj hj h=>by have:=a5 j h;simp at this;omega
   rw[AF (n:=2) (off:=0) (x:=.agg [I size,w]) (xs:=[I size,w]) (by simp[hwo]) c0 rfl (by simp)];simp
   by_cases hbs:bs=[]
   ·subst hbs
    simp[show 0<H2.length by omega];rw[AF (n:=2) (off:=0) (x:=.agg [I size,w]) (xs:=[I size,w]) (cs:=[I 0,Ac]) (by simp[hwo]) (by rw[Cg (by omega)];exact c1) rfl (by simp)];simp[show 1<H2.length by omega]
    exact ContK.some hw (Af a3 λi hi=>by
     have h2:2≤i:=Aj9 λh=>id0 i h hi
     rw[Cg (by omega),Cg (by omega)])
   ·have hlen:0<bs.length:=List.length_pos_iff.2 hbs
    rw[if_neg hbs]at hw;simp[hbs];obtain⟨pv,hpv,pq⟩:=WI ⟨pos,bs.length⟩ (unit:=8) (by omega);refine As pq ?_;have hP:Ep ⟨pos,bs.length⟩ 8=DB bs.length pos bs.length 8:=if_pos ⟨by simp only[MaySpan,May];omega,by simp only;omega,by omega⟩;generalize Ep ⟨pos,(bs.length:Int)⟩ 8=parts at hpv hP;simp[hpv.len];have hs0:=Is h1.2.2;refine QG (λn x1 x2 x3 x6 x33 x34 x35 H=>∃(j d:Nat) (w:AV),j+n=parts.length∧x1=I pos∧x2=bv∧x3=.ptr 0 0∧x6=.ptr 1 0∧x33=pv∧x34=I parts.length∧x35=I j∧H[0]?=some (some (.cells [I size,w]))∧H[1]?=some (some (.cells [I 0,Ac]))∧
     Ad H 9 w=some ((BN l pos (bs.take d)).flatMap A6,(BN l pos (bs.take d)).length)∧Bh w=true∧(∀j,j<2→j∉Bl w)∧d≤bs.length∧parts.drop j=DB (bs.length - d) (pos+d) (bs.length - d:Nat) 8∧j≤d) ?_ parts.length
     ⟨0,0,w,by simp,rfl,rfl,rfl,rfl,rfl,rfl,rfl,KI (by omega),(Cg (by omega)).trans c1,?_,a2,id0,by omega,by simpa using hP,by omega⟩
    ·rintro n x1 x2 x3 x6 x33 x34 x35 H R hR ⟨j,d,w,hj,rfl,rfl,rfl,rfl,rfl,rfl,rfl,k0,k1,kw,ko,kid,kd,kp,kj⟩
     unfold M0
     by_cases hd:d<bs.length
     ·rw[TV (by omega) (by omega) (by omega) (by omega)]at kp
      obtain⟨m,hm⟩:∃m:Nat,(m:Int)=min ((bs.length - d:Nat):Int) (8 - (pos+d) % 8):=⟨(min ((bs.length - d:Nat):Int) (8 - (pos+d) % 8)).toNat,by omega⟩;rw[← hm]at kp
      have hpj:parts[j]?=some ⟨pos+d,m⟩:=by
       have:=congrArg (λq=>q[0]?) kp
       simpa using this
      have hjl:=(B5.1 hpj).1;simp[hjl,hpv.idx VO hpj rfl,Br,Aq,AJ,Ky (a:=pos+d) (b:=8) (by omega) (by omega) (by omega)];have g:=Grew.app H [some (.cells [I (pos+d),I m])];have hlL:=kC (bs:=bs.take d) (l:=l) (p:=pos);have htl:(bs.take d).length=d:=by rw[Ah1];omega
      have hws:=YM (bs:=bs.take d) hs0 pos;generalize hL:BN l pos (bs.take d)=L at kw hlL hws;have hH0:=(B5.1 k0).1;have hH1:=(B5.1 k1).1;obtain⟨H11,⟨w',q1,q2,q3,q4,q5,q6,q7⟩,q8⟩:=RL (no:=(pos+d)/8) (g.cells k0) (g.slice kw) ko (kid 0 (by omega)) hws (by omega);refine bC_of q8 ?_;have hid':∀i,i<H.length→i∉Bl w→i∉Bl w':=λi h1 h2 h3=>(q7 i h3).elim h2 (λh=>by simp at h;omega)
      have z1:H11[1]?=some (some (.cells [I 0,Ac])):=by
       rw[q6 1 (by simp;omega) (by omega) (kid 1 (by omega))];exact g.cells k1
      have z2:H11[H.length]?=some (some (.cells [I (pos+d),I m])):=by
       rw[q6 H.length (by simp) (by omega) (λh=>by have:=A7 kw _ h;omega)];simp
      obtain⟨x,hx,hxn⟩:=fG hws ((pos+d)/8);obtain⟨r24,s1,s2,-,-,s3⟩:=Gb (H:=H11) (hb.bytes H11) (lo:=some (I d)) (hi:=none) (l:=d) (k:=bs.length) (by simp[CA]) rfl kd (Ah3 _);obtain⟨r27,t1,t2,-,-,-⟩:=Gb (H:=H11) s2 (lo:=none) (hi:=some (I m)) (l:=0) (k:=m) rfl (by simp[CA]) (by omega) (by omega)
      have t3:Ad H11 1 r27=some (B2 ((bs.drop d).take m),m):=by
       rw[t2];simp[Pa,S8];rw[Ah4 (l:=bs.drop d) (by simp)]
      have hbl2:((bs.drop d).take m).length=m:=by rw[Ah1,Ah8];omega
      obtain⟨p,q,dd,H29,u1,u2,u3,u4,u5,u6,u7⟩:=vD (a:=posL L ((pos+d)/8)) (b:=pos+d - (pos+d)/8*8) (k:=((pos+d) % 8).toNat) q2 q3 hx t3 (by omega) rfl (by omega);rw[hbl2]at u4;simp[q1,z2,u1,u2,D3 (a:=(pos+d)/8) (b:=8) (by omega) (by omega),Bv (a:=pos+d) (b:=(pos+d)/8*8) (by omega) (by omega),u3,Bv (a:=pos+d) (b:=pos) (by omega) (by omega),show pos+(d:Int) - pos=d by omega,s1,t1,u4,Ax (a:=j) (b:=1) (by omega) (by omega)];rw[lX (Jl hws _) hx,hxn]at u7
      have hnp:Xk (DL L ((pos+d)/8)) ((pos+d)/8) ((pos+d) % 8).toNat ((bs.drop d).take m)=BN l pos (bs.take (d+m)):=by
       show E1 L (pos+d) _=_
       rw[sY hws (by omega) (λh=>by rw[h]at hbl2;simp at hbl2;omega),← hL,List.take_add,kA,htl]
      rw[hnp]at u7;have hll:(DL L ((pos+d)/8)).length=(BN l pos (bs.take (d+m))).length:=by rw[← hnp];simp[Xk]
      rw[hll]at u7;refine hR (n - 1) _ _ _ _ _ _ _ _ (by omega) ⟨j+1,d+m,w',by omega,rfl,rfl,rfl,rfl,rfl,rfl,rfl,?_,?_,u7,q3,λi hi=>hid' i (by omega) (kid i hi),by omega,?_,by omega⟩
      ·rw[u6 0 (hid' 0 (by omega) (kid 0 (by omega)))];exact q1
      ·rw[u6 1 (hid' 1 (by omega) (kid 1 (by omega)))];exact z1
      ·have:=congrArg List.tail kp
       rw[List.tail_drop]at this;rw[this,List.tail_cons,show pos+(d:Int)+m=pos+((d+m:Nat):Int) by omega,show((bs.length - d:Nat):Int) - m=((bs.length - (d+m):Nat):Int) by omega];rfl
     ·have hd':d=bs.length:=by omega
      subst hd';rw[TW (by omega)]at kp
      have hjl:¬j<parts.length:=λh=>by
       have:=congrArg List.length kp
       rw[Ah8]at this;simp at this;omega
      rw[Al0]at kw;have hH0:=(B5.1 k0).1;have hH1:=(B5.1 k1).1;have hko:=AI ko;have hmx:max (pos+(bs.length:Int)) size=max size (pos+bs.length):=by omega
      simp[hjl,k0,hb.len,Ax (a:=pos) (b:=bs.length) (by omega) (by omega),hmx];rw[AF (n:=1) (off:=0) (xs:=[I (max size (pos+bs.length))]) (cs:=[I size,w]) rfl k0 rfl (by simp)];simp[hH0,Aq];rw[AF (n:=2) (off:=0) (xs:=[I (max size (pos+bs.length)),w]) (cs:=[I 0,Ac]) (by simp[hko]) ((Cg (by omega)).trans k1) rfl (by simp)];simp[hH1]
      exact ContK.some hw (Af kw λi hi=>by
       have h2:2≤i:=Aj9 λh=>kid i h hi
       rw[Cg (by omega),Cg (by omega)])
    ·simp only[Ao1,BN]
     exact Af a3 λi hi=>by
      have h2:2≤i:=Aj9 λh=>id0 i h hi
      rw[Cg (by omega)]
  ·have hn:DI (size,l) pos bs=none:=if_neg (λh=>h2 h.2)
   have h2':¬(0≤pos∧bs.length≤4096∧pos≤1099511627776 - bs.length):=h2;simp[h2',AJ];exact ContK.none hn
 ·have hn:DI (size,l) pos bs=none:=if_neg (λh=>h1 h.1)
  simp[h1,AJ];exact ContK.none hn
theorem mD {H:AH}{w:AV}{l:List Ext}{n k:Nat}{a:Int}{x:Ext}(hw:Ad H 9 w=some (l.flatMap A6,n))(hx:l[k]?=some x)(ha:a=k):
  ∃p q,Bq 9 w (I a)=some p∧Aa 0 p=some q∧Am false 1 H q=some (I x.no)∧Am true 9 H p=some (.agg (A6 x)):=by
 have hk:=(B5.1 hx).1;have hn:n=l.length:=by have h1:=BG hw;have h2:=RS AB l;omega
 obtain⟨p,c,h1,h2,h3,h4⟩:=S4 hw ha (show k<n by omega);obtain⟨q,h5,h6⟩:=mY (k:=0) h2
 have hc:c.take 9=A6 x:=by
  rw[h3,Gc AB hx,Aj1 (by rw[AB];omega),Ah4 (by rw[AB];omega)]
 refine⟨p,q,h1,h5,?_,?_⟩
 ·rw[XC h6 (by omega) (by simp;omega),Ag]
  have:=congrArg (λl=>l[0]?) hc
  simp only[Ak9]at this⊢;rw[Ap1 (by omega)]at this;exact this
 ·rw[XC h2 (by omega) h4,WK (by omega),Ak9,hc]
theorem vC {H:AH}{w:AV}{l:List Ext}{y:UInt8}{x:Ext}{i k:Nat}{a b:Int}(hw:Ad H 9 w=some (l.flatMap A6,l.length))(ho:Bh w=true)(hx:l[i]?=some x)(hk:k<8)(ha:a=i)(hb:b=k):
  ∃p q d H',Bq 9 w (I a)=some p∧Aa 1 p=some q∧QE 8 1 q (I b)=some d∧AJ 1 H d (.lit (.int .u8 y.toNat))=some H'∧H'.length=H.length∧(∀j,j∉Bl w→H'[j]?=H[j]?)∧Ad H' 9 w=some ((l.set i (Xj x k [y])).flatMap A6,l.length):=by
 subst ha;subst hb;have hi:=(B5.1 hx).1;obtain⟨o,off,cap,cells,rfl,h1,h2,h3⟩:=HN hw ho (by omega);have hol:=(B5.1 h1).1;have hmul:i*9+9≤l.length*9:=by rw[← Ak8];exact Ah7 _ hi
 refine⟨.ptr o (off+i*9),.ptr o (off+i*9+1),.ptr o (off+(i*9+(1+k))),H.set o (some (.cells (BS cells (off+(i*9+(1+k))) (B2 [y])))),?_,rfl,?_,?_,by simp,λj hj=>Cg (by simp[Bl]at hj;omega),?_⟩
 ·simp only[Bq,L3]
  rw[if_pos ⟨by omega,by omega⟩];simp
 ·simp only[QE,L3]
  rw[if_pos ⟨by omega,by omega⟩];simp only[Ak,Int.toNat_natCast,Ao0];rw[show off+i*9+1+k=off+(i*9+(1+k)) by omega]
 ·rw[AF (n:=1) (off:=off+(i*9+(1+k))) (xs:=B2 [y]) rfl h1 rfl (by omega),Hb _ _ _ (by rw[CV];simp;omega)];rfl
 ·rw[Bo (c:=BS cells (off+(i*9+(1+k))) (B2 [y])) (by simp[hol]) (by rw[HM (by rw[CV];simp;omega)];exact h2)]
  rw[Pw h2 (by rw[CV];simp;omega),← h3,Pv AB hx (eL (by simp;omega)) (by rw[CV];simp;omega)]
theorem Qf {H:AH}{size:Int}{v:AV}{cs:List AV}{n:Nat}(h:Ad H 9 v=some (cs,n))(h1:oneA v=true)(hn:n≤1000000000):
  ∃r H',(∃w,r=.agg [I size,w]∧Bh w=true∧Ad H' 9 w=some (cs,n)∧Grew H H'∧∀i∈Bl w,H.length≤i)∧BCall prog 169 [.agg [I size,v]] H r H':=QX (by
 unfold Ny;have g:=Grew.app H [some (.cells [I size,v]),some (.cells [I 0,Ac])];obtain⟨w,H2,a1,a2,a3,a4,a5,a6⟩:=CT (sz:=9) (bytes:=16) (H:=H++[some (.cells [I size,v]),some (.cells [I 0,Ac])]) (v:=Ac) (cs:=[]) (n:=0) rfl rfl (A3 (g.slice h)) (by omega);have g2:Grew (H++[some (.cells [I size,v]),some (.cells [I 0,Ac])]) H2:=⟨a4,λi hi=>a5 i hi (by simp[Bl])⟩;have c0:=g2.cells (o:=H.length) (x:=some (.cells [I size,v])) (by simp);have c1:=g2.cells (o:=H.length+1) (x:=some (.cells [I 0,Ac])) (by rw[Ah0 (by omega)];simp);have l2:H.length+2≤H2.length:=by simpa using a4
 have hw:=AI a2;have a6':∀i∈Bl w,H.length+2≤i:=λi hi=>(a6 i hi).elim (by simp[Bl]) (λh=>by simpa using h)
 simp[h1,a1,BE hw];rw[AF (n:=2) (off:=0) (x:=.agg [I size,w]) (xs:=[I size,w]) (cs:=[I 0,Ac]) (by simp[hw]) c1 rfl (by simp)];simp[show H.length+1<H2.length by omega,c0,Aq];refine⟨a2,by simpa using(Af a3 λi hi=>Cg (by have:=a6' i hi;omega)),?_,λi hi=>?_⟩
 ·refine⟨by simp;omega,λi hi=>?_⟩
  rw[Cg (by omega),g2.2 i (by simp;omega),g.2 i hi]
 ·have:=a6' i hi;omega)
theorem WL {H : AH} {oc : Nat} {size no : Int} {v : AV} {l : List Ext} (hc : H[oc]? = some (some (.cells [I size,v]))) (hv : Ad H 9 v=some (l.flatMap A6,l.length)) (ho : Bh v=true) (hne : oc ∉ Bl v) (hs : srt l) (hl : l.length≤100000000) :
    ∃H',kE H oc size v (DL l no) H'∧BCall prog 170 [.ptr oc 0,I no] H (I (posL l no)) H':=by
  have key:∃r H',(r=I (posL l no)∧kE H oc size v (DL l no) H')∧BCall prog 170 [.ptr oc 0,I no] H r H':=Tn (by
    unfold P9;have hol:=(B5.1 hc).1;refine OK (λn x0 x1 x5 H'=>∃k:Nat,k+n=l.length∧x0=.ptr oc 0∧x1=I no∧x5=I k∧H'=H∧∀m x,m<k→l[m]?=some x→x.no<no) ?_ l.length ⟨0,by simp,rfl,rfl,rfl,rfl,by simp⟩;rintro n x0 x1 x5 H' R hR ⟨k,hk,rfl,rfl,rfl,hHe,hm⟩
    replace hHe:=hHe.symm
    subst hHe;unfold Kh
    have hcase:(∃y,l[k]?=some y∧y.no<no)∨(∃y,l[k]?=some y∧y.no=no)∨(∃y,l[k]?=some y∧no<y.no)∨k=l.length:=by
      rcases Ah2 k l.length with h | h
      · have hx:=DJ h;rcases Int.lt_trichotomy (l[k]).no no with c | c | c
        · exact .inl ⟨_,hx,c⟩
        · exact .inr (.inl ⟨_,hx,c⟩)
        · exact .inr (.inr (.inl ⟨_,hx,c⟩))
      · exact .inr (.inr (.inr (by omega)))
    have hlen:=CU hv;rcases hcase with⟨y,hy,c⟩ | ⟨y,hy,c⟩ | h3 | h3
    · obtain⟨p,q,e1,e2,e3,-⟩:=mD (a:=k) hv hy rfl;have hkl:=(B5.1 hy).1;simp[hlen,hkl,e1,e2,e3,c,-C6,Ah hc];simp[Ax (a:=k) (b:=1) (by omega) (by omega)];refine hR (n - 1) _ _ _ _ (by omega) ⟨k+1,by omega,rfl,rfl,rfl,rfl,λm x hmk hx=>?_⟩
      by_cases h:m=k
      · subst h;rw[hy]at hx;injection hx with hx;rw[← hx];exact c
      · exact hm m x (by omega) hx
    · obtain⟨p,q,e1,e2,e3,-⟩:=mD (a:=k) hv hy rfl;have hkl:=(B5.1 hy).1;have hh:BP l no:=⟨y,Ag9 hy,c⟩;have hp:posL l no=k:=by rw[← c];exact lS hs hy
      have e:DL l no=l:=if_pos hh;simp[hlen,hkl,e1,e2,e3,c,-C6,Ah hc];rw[hp,e];exact⟨rfl,v,hc,hv,ho,hne,Ah3 _,λ_ _ _ _=>rfl,λi hi=>.inl hi⟩
    all_goals
      have h:(∃y,l[k]?=some y∧no<y.no)∨k=l.length:=by first | exact .inl h3 | exact .inr h3
      have hp:posL l no=k:=by
        rcases h with⟨y,hy,c⟩ | h
        · exact Qe (by omega) hm (λx hx=>by rw[hy]at hx;injection hx with hx;rw[← hx];omega)
        · exact Qe (by omega) hm (λx hx=>by have:=(B5.1 hx).1;omega)
      have hh:¬BP l no:=by
        rw[RU hs,hp];rintro⟨z,hz,e⟩;rcases h with⟨y,hy,c⟩ | h
        · rw[hy]at hz;injection hz with hz;rw[hz]at c;omega
        · have:=(B5.1 hz).1;omega
      have e:DL l no=l.take k++Pt no::l.drop k:=by rw[← hp];exact if_neg hh
      obtain⟨r1,f1,f2,f3,f4,-⟩:=Gb hv (lo:=none) (hi:=some (I k)) (l:=0) (k:=k) rfl (by simp[CA]) (by omega) (by omega);simp only[As9,Ak9,At1,GX AB]at f2;obtain⟨r2,H2,a1,a2,a3,a4,a5,a6⟩:=CT (sz:=9) (bytes:=16) (H:=H) (v:=Ac) (cs:=[]) (n:=0) rfl rfl (A3 f2) (by omega);have g2:Grew H H2:=⟨a4,λi hi=>a5 i hi (by simp[Bl])⟩;have g3:=Grew.app H2 [some (.cells (A6 (Pt no)))];obtain⟨r3,H3,b1,b2,b3,b4,b5,b6⟩:=CT (sz:=9) (bytes:=16) (g3.slice a3) a2 (A3 (v:=.sl H2.length 0 1 9 (.ex 1)) (q:=(A6 (Pt no),1)) (by simp[Ad,AB,Ah4])) (by omega);have hid2:∀i∈Bl r2,H.length≤i:=λi hi=>(a6 i hi).elim (by simp[Bl]) id
      have g4:∀i,i<H.length→H3[i]?=H[i]?:=λi hi=>by
        rw[b5 i (by simp;omega) (λh=>by have:=hid2 i h;omega),g3.2 i (by omega),g2.2 i hi]
      have c3:H3[oc]?=some (some (.cells [I size,v])):=by rw[g4 oc hol];exact hc
      have hv3:Ad H3 9 v=some (l.flatMap A6,l.length):=Af hv λi hi=>g4 i (A7 hv i hi)
      obtain⟨r4,d1,d2,d3,d4,-⟩:=Gb hv3 (lo:=some (I k)) (hi:=none) (l:=k) (k:=l.length) (by simp[CA]) rfl (by omega) (by omega);rw[Gd AB,Ah4 (by rw[RS AB,Ah8];omega)]at d2;obtain⟨r5,H5,j1,j2,j3,j4,j5,j6⟩:=CT (sz:=9) (bytes:=16) b3 b2 (A3 d2) (by omega);have hid3:∀i∈Bl r3,H.length≤i:=λi hi=>(b6 i hi).elim (hid2 i) (λh=>by simp at h;omega)
      have hid5:∀i∈Bl r5,H.length≤i:=λi hi=>(j6 i hi).elim (hid3 i) (λh=>by simp at b4;omega)
      have g5:∀i,i<H.length→H5[i]?=H[i]?:=λi hi=>by
        rw[j5 i (by simp at b4;omega) (λh=>by have:=hid3 i h;omega),g4 i hi]
      have c5:H5[oc]?=some (some (.cells [I size,v])):=by rw[g5 oc hol];exact hc
      have hol5:=(B5.1 c5).1;have hle:H.length≤H5.length:=by simp at b4;omega
      rw[XM]at b1
      first
        | (obtain ⟨y,hy,c⟩:=h3
           obtain⟨p,q,e1,e2,e3,-⟩:=mD (a:=k) hv hy rfl;have hkl:=(B5.1 hy).1;simp[hlen,hkl,e1,e2,e3,show ¬y.no<no by omega,show ¬y.no=no by omega,-C6,Ah hc])
        | (have hkl : ¬ k < l.length:=by omega
           simp[hlen,hkl,-C6,Ah hc])
      simp[f1,a1,-C6];simp[b1,Ah c3,d1,j1,-C6];rw[AF (n:=1) (off:=1) (xs:=[r5]) (cs:=[I size,v]) (BE (AI j2)) c5 rfl (by simp)];simp;have hoc:oc∉Bl r5:=λh=>by have:=hid5 oc h;omega
      refine⟨by rw[hp],r5,by simp[hol5],?_,j2,hoc,by simp;omega,λi hi h1 h2=>?_,λi hi=>.inr (hid5 i hi)⟩
      · rw[Af j3 (λi hi=>Cg (fun (h:oc=i)=>hoc (h▸hi))),e];simp[Ak4];omega
      · rw[Cg (by omega),g5 i hi])
  obtain⟨r,H',⟨rfl,h1⟩,h2⟩:=key;exact⟨H',h1,h2⟩
theorem MD {size:Int}{l:List Ext}{v bv:AV}{bs:List UInt8}(hv:SV A6 9 l v)(hl:l.length≤1000000)(pos:Int)(hb:SV IW 1 bs bv)(hbl:bs.length≤281474976710656):
  ∃R,SV A6 9 (cL (DI (size,l) pos bs)) R∧BPure prog 118 [.agg [I size,v],I pos,bv] (.tup [.agg [I (cS (DI (size,l) pos bs)),R],B (DI (size,l) pos bs).isSome]):=by
 refine BPure.cont (by simp[Az,noIds,hv.1,hb.1]) (Ml ?_);unfold Ib;simp[CE hv,Aq];refine As (C4 hv (by omega)) ?_
 by_cases h1:Dj size l
 ·by_cases h0:pos<0
  ·have hn:DI (size,l) pos bs=none:=if_neg (λh=>by omega)
   simp[h1,h0,AJ];exact ContK.none hn
  ·by_cases h2:4096<bs.length
   ·have hn:DI (size,l) pos bs=none:=if_neg (λh=>by omega)
    simp[h1,h0,hb.len,show(4096:Int)<bs.length by omega,AJ];exact ContK.none hn
   ·simp[h1,h0,hb.len,show ¬(4096:Int)<bs.length by omega,Bv (a:=1099511627776) (b:=bs.length) (by omega) (by omega)]
    by_cases h3:1099511627776 - (bs.length:Int)<pos
    ·have hn:DI (size,l) pos bs=none:=if_neg (λh=>by omega)
     simp[h3,AJ];exact ContK.none hn
    ·have hw:DI (size,l) pos bs=some (if bs=[]then(size,l)else(max size (pos+bs.length),BN l pos bs)):=if_pos ⟨h1,by omega,by omega,by omega⟩
     simp[h3];obtain⟨r,H2,⟨w,rfl,a2,a3,a4,a5⟩,a1⟩:=Qf (size:=size) (hv.2 [some (.cells [I size,v]),some (.cells [I 0,Ac])]) (CE hv) (by omega);refine bC_of a1 ?_;have c0:=a4.cells (o:=0) (x:=some (.cells [I size,v])) rfl;have c1:=a4.cells (o:=1) (x:=some (.cells [I 0,Ac])) rfl;have hl2:=a4.1;simp only[Aa4]at hl2;have hwo:=AI a2;have id0:∀j,j<2→j∉Bl w:=λj hj h=>by have:=a5 j h;simp at this;omega
     rw[AF (n:=2) (off:=0) (x:=.agg [I size,w]) (xs:=[I size,w]) (by simp[hwo]) c0 rfl (by simp)];simp;have hs0:=Is h1.2.2;refine J3 (λn x1 x2 x3 x6 x8 H=>∃(d:Nat) (w:AV),d+n=bs.length∧x1=I pos∧x2=bv∧x3=.ptr 0 0∧x6=.ptr 1 0∧x8=I d∧H[0]?=some (some (.cells [I size,w]))∧H[1]?=some (some (.cells [I 0,Ac]))∧
      Ad H 9 w=some ((BN l pos (bs.take d)).flatMap A6,(BN l pos (bs.take d)).length)∧Bh w=true∧(∀j,j<2→j∉Bl w)) ?_ bs.length
      ⟨0,w,by simp,rfl,rfl,rfl,rfl,rfl,KI (by omega),(Cg (by omega)).trans c1,?_,a2,id0⟩
     ·rintro n x1 x2 x3 x6 x8 H R hR ⟨d,w,hdn,rfl,rfl,rfl,rfl,rfl,k0,k1,kw,ko,kid⟩
      unfold F9
      by_cases hd:d<bs.length
      ·have hlL:=kC (bs:=bs.take d) (l:=l) (p:=pos)
       have htl:(bs.take d).length=d:=by rw[Ah1];omega
       have hws:=YM (bs:=bs.take d) hs0 pos;generalize hL:BN l pos (bs.take d)=L at kw hlL hws;have hy:=DJ hd;generalize bs[d]=y at hy;simp[hb.len,hd,Ax (a:=pos) (b:=d) (by omega) (by omega),Ky (a:=pos+d) (b:=8) (by omega) (by omega) (by omega)];obtain⟨H11,⟨w',q1,q2,q3,q4,q5,q6,q7⟩,q8⟩:=WL (no:=(pos+d)/8) k0 kw ko (kid 0 (by omega)) hws (by omega);refine bC_of q8 ?_;have hH0:=(B5.1 k0).1;have hH1:=(B5.1 k1).1;have hid':∀i,i<H.length→i∉Bl w→i∉Bl w':=λi h1 h2 h3=>(q7 i h3).elim h2 (λh=>by omega)
       have z1:H11[1]?=some (some (.cells [I 0,Ac])):=by
        rw[q6 1 hH1 (by omega) (kid 1 (by omega))];exact k1
       obtain⟨x,hx,hxn⟩:=fG hws ((pos+d)/8);obtain⟨p,q,dd,H29,u1,u2,u3,u4,u5,u6,u7⟩:=vC (y:=y) (a:=posL L ((pos+d)/8)) (b:=(pos+d) % 8) (k:=((pos+d) % 8).toNat) q2 q3 hx (by omega) rfl (by omega);obtain⟨p2,s1,-,s2⟩:=pX (H:=H11) (hb.bytes H11) (i:=d) (k:=d) rfl hy;simp[q1,U2 (a:=pos+d) (b:=8) (by omega) (by omega),s1,s2,u1,u2,u3,u4,Ax (a:=d) (b:=1) (by omega) (by omega),-C6];rw[lX (Jl hws _) hx,hxn]at u7
       have hnp:Xk (DL L ((pos+d)/8)) ((pos+d)/8) ((pos+d) % 8).toNat [y]=BN l pos (bs.take (d+1)):=by
        show E1 L (pos+d) _=_
        rw[sY hws (by simp;omega) (by simp),← hL,Aj6,hy,kA,htl];rfl
       rw[hnp]at u7;have hll:(DL L ((pos+d)/8)).length=(BN l pos (bs.take (d+1))).length:=by rw[← hnp];simp[Xk]
       rw[hll]at u7;refine hR (n - 1) _ _ _ _ _ _ (by omega) ⟨d+1,w',by omega,rfl,rfl,rfl,rfl,rfl,?_,?_,u7,q3,λi hi=>hid' i (by omega) (kid i hi)⟩
       ·rw[u6 0 (hid' 0 (by omega) (kid 0 (by omega)))];exact q1
       ·rw[u6 1 (hid' 1 (by omega) (kid 1 (by omega)))];exact z1
      ·have hd':d=bs.length:=by omega
       subst hd';rw[Al0]at kw;have hH0:=(B5.1 k0).1;have hH1:=(B5.1 k1).1;have hko:=AI ko
       have tail:∀s H2,H2.length=H.length→H2[0]?=some (some (.cells [I s,w]))→H2[1]?=some (some (.cells [I 0,Ac]))→Ad H2 9 w=some ((BN l pos bs).flatMap A6,(BN l pos bs).length)→DI (size,l) pos bs=some (s,BN l pos bs)→CR (.ptr 0 0) (.ptr 1 0) H2 (ContK (DI (size,l) pos bs)):=by
        intro s H2 hl2 e0 e1 e2 e3;rw[JM];unfold Fy;simp[-C6,Ah e0,Aq];rw[AF (n:=2) (off:=0) (xs:=[I s,w]) (cs:=[I 0,Ac]) (by simp[hko]) e1 rfl (by simp)];simp[show 1<H2.length by omega,Aq]
        exact ContK.some e3 (Af e2 λi hi=>by
         have h2:2≤i:=Aj9 λh=>kid i h hi
         rw[Cg (by omega)])
       by_cases hbs:bs=[]
       ·rw[if_pos hbs]at hw
        have h00:¬0<bs.length:=by rw[hbs];simp
        simp only[hb.len,Ag1,EH,Int.lt_irrefl,show ¬(0:Int)<bs.length by omega];refine tail size H rfl k0 k1 kw ?_;rw[hw,hbs];rfl
       ·rw[if_neg hbs]at hw
        have hlen:0<bs.length:=List.length_pos_iff.2 hbs;have hmx:max (pos+(bs.length:Int)) size=max size (pos+bs.length):=by omega
        simp[hb.len,hlen,-C6,Ah k0,Ax (a:=pos) (b:=bs.length) (by omega) (by omega),hmx];rw[AF (n:=1) (off:=0) (xs:=[I (max size (pos+bs.length))]) (cs:=[I size,w]) rfl k0 rfl (by simp)];simp
        refine tail _ _ (by simp) (KI hH0) ((Cg (by omega)).trans k1) (Af kw λi hi=>by
         have h2:2≤i:=Aj9 λh=>kid i h hi
         rw[Cg (by omega)]) hw
     ·simp only[Ao1,BN]
      exact Af a3 λi hi=>by
       have h2:2≤i:=Aj9 λh=>id0 i h hi
       rw[Cg (by omega)]
 ·have hn:DI (size,l) pos bs=none:=if_neg (λh=>h1 h.1)
  simp[h1,AJ];exact ContK.none hn
section
variable {κ α : Type} [DecidableEq κ] {c : κ→κ→Int} {key : α→κ}
def nB (key:α→κ)(l:List α)(k:κ):Option α:=l.find? (λx=>decide (key x=k))
abbrev Ar1:=@List.mem_of_find?_eq_some
theorem U8 {l:List α}{k:κ}(h:AT key l k):∃x,nB key l k=some x∧x∈l∧key x=k:=by
 obtain⟨y,hy,e⟩:=h;unfold nB;cases hf:l.find? (λx=>decide (key x=k))with
 | none=>rw[Ar6]at hf;have:=hf y hy;simp[e]at this
 | some x=>exact⟨x,rfl,Ar1 hf,by simpa using List.find?_some hf⟩
theorem U9 {l:List α}{k:κ}(h:¬AT key l k):nB key l k=none:=by
 unfold nB;rw[Ar6];intro x hx;simp only[decide_eq_true_eq];exact λe=>h ⟨x,hx,e⟩
theorem aN (hc:KO c){l:List α}(hs:Cn c key l){x:α}(hx:x∈l):nB key l (key x)=some x:=by
 obtain⟨y,h1,h2,h3⟩:=U8 (l:=l) (k:=key x) ⟨x,hx,rfl⟩;rw[h1,SN hc hs h2 hx h3]
theorem FM (hc:KO c){l:List α}(hs:Cn c key l){k:κ}(h:AT key l k):∃x,l[CX c key l k]?=some x∧nB key l k=some x∧key x=k:=by
 obtain⟨x,h1,rfl⟩:=(M7 hc hs).1 h;exact⟨x,h1,aN hc hs (Ag9 h1),rfl⟩
end
theorem N6 {l:List NdV}:Cn B8 Nd.ino (l.map NdV.nd)↔Cn B8 NdV.ino l:=by
 unfold Cn;rw[Ao9]
theorem Jg {l:List NdV}{k:Int}:AT Nd.ino (l.map NdV.nd) k↔AT NdV.ino l k:=by
 constructor
 ·rintro⟨x,hx,e⟩
  obtain⟨y,hy,rfl⟩:=Aj7.1 hx;exact⟨y,hy,e⟩
 ·rintro⟨y,hy,e⟩
  exact⟨y.nd,Ai7 hy,e⟩
theorem MB {l:List NdV}{k:Int}:CX B8 Nd.ino (l.map NdV.nd) k=CX B8 NdV.ino l k:=by
 unfold CX;rw[List.takeWhile_map,Ai2];rfl
theorem Vl {ns:List Nm}{a b:AV}{dv:List NdV}(ha:SV BL 2 ns a)(hb:SV BB 3 dv b)(hs:Cn Bd Nm.name ns)(hl:ns.length≤281474976710656)(s:List UInt8):
  BPure prog 97 [.agg [a,b],S (B0 s)] (.tup [I (CX Bd Nm.name ns s),B (decide (AT Nm.name ns s))]):=BPure.val (by simp[Az,noIds,ha.1,hb.1]) rfl (Ys (by
 unfold WD;have oa:=SV.oneA ha;have ob:=SV.oneA hb;simp[oa,ob];refine As (yN ha hs hl s) ?_
 simp))
theorem Y1 {ns:List Nm}{a b:AV}{dv:List NdV}(ha:SV BL 2 ns a)(hb:SV BB 3 dv b)(hs:Cn B8 NdV.ino dv)(hl:dv.length≤281474976710656)(no:Int):
  BPure prog 83 [.agg [a,b],I no] (.tup [I (CX B8 NdV.ino dv no),B (decide (AT NdV.ino dv no))]):=BPure.val (by simp[Az,noIds,ha.1,hb.1]) rfl (Zh (by
 unfold Yu;have oa:=SV.oneA ha;have ob:=SV.oneA hb;simp[oa,ob];refine As (yM hb hs hl no) ?_
 simp))
theorem qM {l:List Ext}{v:AV}(hv:SV A6 9 l v)(hl:l.length≤1000000000):∃R,SV A6 9 l R∧BPure prog 137 [v] R:=by
 obtain⟨r,X,⟨-,h1,-,-⟩,h2⟩:=W0 (hv.2 []) hl;exact BPure.sl (by simp[Az,hv.1]) (Eh λx _=>G9 x) ⟨r,X,h1,h2⟩
theorem eD {l:List Ext}{v:AV}{size:Int}(hv:SV A6 9 l v)(hl:l.length≤1000000000):∃R,SV A6 9 l R∧BPure prog 84 [.agg [I size,v]] (.agg [I size,R]):=by
 obtain⟨R,hR,hc⟩:=qM hv hl;refine⟨R,hR,BPure.val (by simp[Az,noIds,hv.1]) (by simp[noIds,Az,hR.1]) (Xd ?_)⟩;unfold Ve;have o1:=SV.oneA hv;have o2:=SV.oneA hR;simp[o1];refine bP_of hc ?_;simp[o2,BE o2,AJ,AZ,Aq]
theorem eE {l:List Ext}{v:AV}{size:Int}(hv:SV A6 9 l v)(hl:l.length≤1000000000):∃R,SV A6 9 l R∧BPure prog 169 [.agg [I size,v]] (.agg [I size,R]):=by
 obtain⟨r,X,⟨w,rfl,h3,h1,-,-⟩,h2⟩:=Qf (size:=size) (hv.2 []) (SV.oneA hv) hl;obtain⟨R,hR,fR⟩:=FZ.sv h1 (Eh λx _=>G9 x);obtain⟨R2,rfl,h⟩:=BPure.FZ (Q:=λR'=>R'=.agg [I size,R]) (by simp[Az,noIds,hv.1]) ⟨_,X,⟨_,FZ.agg (FZs.cons (FZ.lit _) (FZs.cons fR FZs.nil)),rfl⟩,h2⟩;exact⟨R,hR,h⟩
def CD (ns:List Nm)(s:List UInt8):Int:=match nB Nm.name ns s with
 | some x=>x.ino
 | none=>0
def SZ (ns:List Nm)(ds:List Nd)(s:List UInt8):Prop:=EJ ns ds∧AT Nm.name ns s
instance (ns:List Nm) (ds:List Nd) (s:List UInt8):Decidable (SZ ns ds s):=by unfold SZ;infer_instance
def Qx (ns:List Nm)(ds:List Nd)(s:List UInt8):Int:=if SZ ns ds s then CD ns s else 0
theorem wA {ns:List Nm}{ds:List Nd}{v:AV}(hv:ImV ns ds v)(hb:Sm ns ds)(s:List UInt8):BPure prog 41 [v,S (B0 s)] (.tup [I (Qx ns ds s),B (decide (SZ ns ds s))]):=BPure.val (by have:=hv.noIds;simpa[Az,noIds]using this) rfl (Ze (by
 have hv0:=hv;obtain⟨a,b,dv,rfl,ha,hbv,rfl⟩:=hv;unfold Yp;have oa:=SV.oneA ha;have ob:=SV.oneA hbv;simp[oa,ob,Aq];refine As (dB hv0 hb) ?_
 by_cases hm:EJ ns (dv.map NdV.nd)
 ·simp[hm]
  refine bC_of (Vl ha hbv hm.1.2.2.1 (by have:=hb.1;omega) s _) ?_
  by_cases hh:AT Nm.name ns s
  ·obtain⟨x,h1,h2,h3⟩:=FM koN hm.1.2.2.1 hh
   have e:Qx ns (dv.map NdV.nd) s=x.ino:=by unfold Qx CD;rw[if_pos ⟨hm,hh⟩,h2]
   have e2:SZ ns (dv.map NdV.nd) s:=⟨hm,hh⟩;simp[hh,ha.idx BF h1 rfl,XN,e,e2]
  ·have e2:¬SZ ns (dv.map NdV.nd) s:=λh=>hh h.2
   have e:Qx ns (dv.map NdV.nd) s=0:=if_neg e2;simp[hh,e,e2]
 ·have e2:¬SZ ns (dv.map NdV.nd) s:=λh=>hm h.1
  have e:Qx ns (dv.map NdV.nd) s=0:=if_neg e2;simp[hm,e,e2]))
theorem jR {ns:List Nm}{ds:List Nd}{v:AV}(hv:ImV ns ds v)(hb:Sm ns ds)(s:List UInt8):BPure prog 61 [v,S (B0 s)] (.tup [I (Qx ns ds s),B (decide (SZ ns ds s))]):=BPure.val (by have:=hv.noIds;simpa[Az,noIds]using this) rfl (Tf (by
 have hv0:=hv;obtain⟨a,b,dv,rfl,ha,hbv,rfl⟩:=hv;unfold P3;have oa:=SV.oneA ha;have ob:=SV.oneA hbv;simp[oa,ob,Aq];refine As (F3 hv0 hb s) ?_;refine As (GA hv0 hb) ?_
 by_cases hm:EJ ns (dv.map NdV.nd)
 ·by_cases hh:AT Nm.name ns s
  ·obtain⟨x,h1,h2,h3⟩:=FM koN hm.1.2.2.1 hh
   have e:Qx ns (dv.map NdV.nd) s=x.ino:=by unfold Qx CD;rw[if_pos ⟨hm,hh⟩,h2]
   have e2:SZ ns (dv.map NdV.nd) s:=⟨hm,hh⟩;have e3:=Pm koN hm.1.2.2.1 hh;have e4:¬IX Nm.name ns s<0:=by omega
   simp[hm,e3,show ¬((CX Bd Nm.name ns s:Nat):Int)<0 by omega,ha.idx BF h1 rfl,XN,e,e2]
  ·have e2:¬SZ ns (dv.map NdV.nd) s:=λh=>hh h.2
   have e:Qx ns (dv.map NdV.nd) s=0:=if_neg e2;have e4:IX Nm.name ns s<0:=GY.2 hh;simp[hm,e4,e,e2]
 ·have e2:¬SZ ns (dv.map NdV.nd) s:=λh=>hm h.1
  have e:Qx ns (dv.map NdV.nd) s=0:=if_neg e2;simp[hm,e,e2]))
end
section
def Xa (ns:List Nm)(ds:List Nd)(no:Int):Prop:=EJ ns ds∧AT Nd.ino ds no
instance (ns:List Nm) (ds:List Nd) (no:Int):Decidable (Xa ns ds no):=by unfold Xa;infer_instance
def Fl (ns:List Nm)(ds:List Nd)(no:Int):Nd:=if Xa ns ds no then(nB Nd.ino ds no).getD ⟨0,0,[]⟩else⟨0,0,[]⟩
theorem Xs {dv:List NdV}{no:Int}{x:NdV}(h:nB NdV.ino dv no=some x):nB Nd.ino (dv.map NdV.nd) no=some x.nd:=by
 unfold nB at h⊢;rw[List.find?_map]
 show Option.map NdV.nd (dv.find? λx=>decide (x.nd.ino=no))=_
 rw[show(dv.find? λx=>decide (x.nd.ino=no))=some x from h];rfl
theorem zF {ns:List Nm}{ds:List Nd}{v:AV}(hv:ImV ns ds v)(hb:Sm ns ds)(no:Int):∃R,SV A6 9 (Fl ns ds no).l R∧BPure prog 33 [v,I no] (.tup [.agg [I (Fl ns ds no).size,R],B (decide (Xa ns ds no))]):=by
 have hv0:=hv;obtain⟨a,b,dv,rfl,ha,hbv,rfl⟩:=hv;have oa:=SV.oneA ha;have ob:=SV.oneA hbv
 by_cases hh:Xa ns (dv.map NdV.nd) no
 ·have hm:=hh.1
  have hs:=N6.1 hm.2.2.1;have hk:=Jg.1 hh.2;obtain⟨x,h1,h2,h3⟩:=FM koI hs hk;have e:Fl ns (dv.map NdV.nd) no=x.nd:=by unfold Fl;rw[if_pos hh,Xs h2];rfl
  rw[e];obtain⟨R,hR,hc⟩:=eD (size:=x.nd.size) x.h (by have:=hb.2.2.2 x.nd (Ai7 (Ag9 h1));omega);refine⟨R,hR,BPure.val (by have:=hv0.noIds;simpa[Az,noIds]using this) (by simp[noIds,Az,hR.1]) (UX ?_)⟩;unfold VY;simp[oa,ob,Aq];refine As (dB hv0 hb) ?_;simp[hm];refine bC_of (Y1 ha hbv hs (by have:=hb.2.1;simp at this;omega) no _) ?_;simp[hk,hbv.idx B4 h1 rfl];refine As hc ?_;have o2:=SV.oneA hR;simp[o2,AJ,AZ,hh]
 ·have e:Fl ns (dv.map NdV.nd) no=⟨0,0,[]⟩:=if_neg hh
  rw[e];refine⟨Ac,SV.nil,BPure.val (by have:=hv0.noIds;simpa[Az,noIds]using this) rfl (UX ?_)⟩;unfold VY;simp[oa,ob,Aq];refine As (dB hv0 hb) ?_
  by_cases hm:EJ ns (dv.map NdV.nd)
  ·have hs:=N6.1 hm.2.2.1
   have hk:¬AT NdV.ino dv no:=λh=>hh ⟨hm,Jg.2 h⟩
   simp[hm];refine bC_of (Y1 ha hbv hs (by have:=hb.2.1;simp at this;omega) no _) ?_;simp[hk,AJ,AZ,hh]
  ·simp[hm,AJ,AZ,hh]
theorem ZN {ns:List Nm}{ds:List Nd}{v:AV}(hv:ImV ns ds v)(hb:Sm ns ds)(no:Int):∃R,SV A6 9 (Fl ns ds no).l R∧BPure prog 120 [v,I no] (.tup [.agg [I (Fl ns ds no).size,R],B (decide (Xa ns ds no))]):=by
 have hv0:=hv;obtain⟨a,b,dv,rfl,ha,hbv,rfl⟩:=hv;have oa:=SV.oneA ha;have ob:=SV.oneA hbv
 by_cases hh:Xa ns (dv.map NdV.nd) no
 ·have hm:=hh.1
  have hs:=N6.1 hm.2.2.1;have hk:=Jg.1 hh.2;obtain⟨x,h1,h2,h3⟩:=FM koI hs hk;have e:Fl ns (dv.map NdV.nd) no=x.nd:=by unfold Fl;rw[if_pos hh,Xs h2];rfl
  rw[e];obtain⟨R,hR,hc⟩:=eE (size:=x.nd.size) x.h (by have:=hb.2.2.2 x.nd (Ai7 (Ag9 h1));omega);refine⟨R,hR,BPure.val (by have:=hv0.noIds;simpa[Az,noIds]using this) (by simp[noIds,Az,hR.1]) (Nq ?_)⟩;unfold L8;simp[oa,ob,Aq];refine As (Iu hv0 hb no) ?_;refine As (GA hv0 hb) ?_;have e3:IX Nd.ino (dv.map NdV.nd) no=CX B8 NdV.ino dv no:=by rw[Pm koI hm.2.2.1 hh.2,MB]
  simp[hm,e3,show ¬((CX B8 NdV.ino dv no:Nat):Int)<0 by omega,hbv.idx B4 h1 rfl];refine As hc ?_;have o2:=SV.oneA hR;simp[o2,AJ,AZ,hh]
 ·have e:Fl ns (dv.map NdV.nd) no=⟨0,0,[]⟩:=if_neg hh
  rw[e];refine⟨Ac,SV.nil,BPure.val (by have:=hv0.noIds;simpa[Az,noIds]using this) rfl (Nq ?_)⟩;unfold L8;simp[oa,ob,Aq];refine As (Iu hv0 hb no) ?_;refine As (GA hv0 hb) ?_
  by_cases hm:EJ ns (dv.map NdV.nd)
  ·have hk:¬AT Nd.ino (dv.map NdV.nd) no:=λh=>hh ⟨hm,h⟩
   have e4:=(GY (key:=Nd.ino)).2 hk;simp[hm,e4,AJ,AZ,hh]
  ·simp[hm,AJ,AZ,hh]
def LD (ds:List Nd):Nat:=(ds.map λd=>d.l.length).sum
def V8 (ns:List Nm)(ds:List Nd):Int:=if EJ ns ds then LD ds else 0
theorem ZU {ds:List Nd}{d:Nd}:LD (ds++[d])=LD ds+d.l.length:=by simp[LD]
theorem cN {N:Nat}:∀{ds:List Nd},(∀d∈ds,d.l.length≤N)→LD ds≤ds.length*N
 | [],_=>by simp[LD]
 | d::ds,h=>by
  have ih:=cN (ds:=ds) λx hx=>h x (by simp[hx])
  have:=h d (by simp)
  unfold LD at ih⊢;rw[An7,List.sum_cons,Al7,Ak8];omega
theorem ZV {ds:List Nd}(h:∀d∈ds,d.l.length≤1000000)(hn:ds.length≤100000)(k:Nat):LD (ds.take k)≤100000000000:=by
 have h1:=cN (N:=1000000) (ds:=ds.take k) λd hd=>h d (Al4 hd)
 have:(ds.take k).length≤100000:=by rw[Ah1];omega
 have:=Ah7 1000000 this
 omega
theorem wI {ns:List Nm}{ds:List Nd}{v:AV}(hv:ImV ns ds v)(hb:Sm ns ds):BPure prog 31 [v] (I (V8 ns ds)):=BPure.val hv.noIds rfl (Zg (by
 have hv0:=hv;obtain⟨a,b,dv,rfl,ha,hbv,rfl⟩:=hv;have oa:=SV.oneA ha;have ob:=SV.oneA hbv;have b2:=hb.2.1;unfold Yr;simp[oa,ob,Aq];refine As (dB hv0 hb) ?_
 by_cases hm:EJ ns (dv.map NdV.nd)
 ·simp[hm,hbv.len]
  have e:V8 ns (dv.map NdV.nd)=LD (dv.map NdV.nd):=if_pos hm;rw[e];refine Ui (λn x3 x10 x11 x12 H'=>∃k:Nat,k+n=dv.length∧x3=I (LD ((dv.map NdV.nd).take k))∧x10=b∧x11=I dv.length∧x12=I k) ?_ dv.length ⟨0,by omega,rfl,rfl,rfl,rfl⟩;rintro n x3 x10 x11 x12 H' R hR ⟨k,hk,rfl,rfl,rfl,rfl⟩;unfold Q2;rw[Ai2]at b2;rcases Ah2 k dv.length with h | h
  ·have hx:=DJ h
   generalize dv[k]=d at hx;have hx2:(dv.map NdV.nd)[k]?=some d.nd:=by rw[Ai6,hx];rfl
   have h1:=ZV hb.2.2.2 (by simpa using b2) k;have h2:=hb.2.2.2 d.nd (Ag9 hx2)
   have ea:AJ 3 (H'++[some (.cells [I 0,I 0,Ac])]) (.ptr H'.length 0) (.agg (BB d))=some (H'++[some (.cells (BB d))]):=by
    have:=SV.oneA d.h
    simp[AJ,BB,AZ,this]
   simp[h,hbv.idx B4 hx rfl,fV,ea];simp[BB,d.h.len,Ax (a:=k) (b:=1) (by omega) (by omega),Ax (a:=(LD (List.take k (dv.map NdV.nd)):Int)) (b:=d.nd.l.length) (by omega) (by omega)];exact hR (n - 1) _ _ _ _ _ (by omega) ⟨k+1,by omega,by rw[Ge hx2,ZU];simp,rfl,rfl,by simp⟩
  ·have:(dv.map NdV.nd).take k=dv.map NdV.nd:=Ah4 (by simp;omega)
   simp[show ¬k<dv.length by omega,this]
 ·have e:V8 ns (dv.map NdV.nd)=0:=if_neg hm
  simp[hm,e]))
theorem jS {ns:List Nm}{ds:List Nd}{v:AV}(hv:ImV ns ds v)(hb:Sm ns ds):BPure prog 164 [v] (I (V8 ns ds)):=BPure.val hv.noIds rfl (Tg (by
 have hv0:=hv;obtain⟨a,b,dv,rfl,ha,hbv,rfl⟩:=hv;have oa:=SV.oneA ha;have ob:=SV.oneA hbv;have b2:=hb.2.1;rw[Ai2]at b2;unfold P6;simp[oa,ob];refine OI (λn x1 x3 x4 H'=>∃k:Nat,k+n=dv.length∧x1=.ptr 0 0∧x3=I (LD ((dv.map NdV.nd).take k))∧x4=I k∧H'=[some (.cells [a,b])]∧(0<k→EJ ns (dv.map NdV.nd))) ?_ dv.length ⟨0,by omega,rfl,rfl,rfl,rfl,by omega⟩;rintro n x1 x3 x4 H' R hR ⟨k,hk,rfl,rfl,rfl,rfl,h0⟩;unfold Kc;rcases Ah2 k dv.length with h | h
 ·have hx:=DJ h
  generalize dv[k]=d at hx;have hx2:(dv.map NdV.nd)[k]?=some d.nd:=by rw[Ai6,hx];rfl
  have h1:=ZV hb.2.2.2 (by simpa using b2) k;have h2:=hb.2.2.2 d.nd (Ag9 hx2);simp[h,hbv.len,Aq];refine As (GA hv0 hb) ?_
  by_cases hm:EJ ns (dv.map NdV.nd)
  ·simp[hm,hbv.idx B4 hx rfl,xJ,d.h.len,Ax (a:=k) (b:=1) (by omega) (by omega),Ax (a:=(LD (List.take k (dv.map NdV.nd)):Int)) (b:=d.nd.l.length) (by omega) (by omega)]
   exact hR (n - 1) _ _ _ _ (by omega) ⟨k+1,by omega,rfl,by rw[Ge hx2,ZU];simp,by simp,rfl,λ_=>hm⟩
  ·have e:V8 ns (dv.map NdV.nd)=0:=if_neg hm
   have:k=0:=by
    rcases Al1 k with h | h
    ·exact h
    ·exact absurd (h0 h) hm
   simp[hm,e,this,LD]
 ·have:(dv.map NdV.nd).take k=dv.map NdV.nd:=Ah4 (by simp;omega)
  have e:V8 ns (dv.map NdV.nd)=LD (dv.map NdV.nd):=by
   unfold V8
   by_cases hm:EJ ns (dv.map NdV.nd)
   ·rw[if_pos hm]
   ·rcases Al1 k with h | h
    ·have:dv=[]:=List.length_eq_zero_iff.1 (by omega)
     rw[if_neg hm,this];rfl
    ·exact absurd (h0 h) hm
  simp[hbv.len,show ¬k<dv.length by omega,this,e]))
def ZQ (ns:List Nm)(ds:List Nd)(ms:List Nm)(es:List Nd):Prop:=ns=ms∧ds=es
instance (ns:List Nm) (ds:List Nd) (ms:List Nm) (es:List Nd):Decidable (ZQ ns ds ms es):=by unfold ZQ;infer_instance
theorem xT (a c:ByteArray)(b d:Int):O5 prog .neq 107 (.agg [S a,I b]) (.agg [S c,I d])=some (B !(a.toList==c.toList&&(b==d&&true))):=by kernel_rfl
theorem zdgiZ (x y:Nm):O5 prog .neq 107 (.agg (BL x)) (.agg (BL y))=some (B (decide (x≠y))):=by
 obtain⟨a,b⟩:=x;obtain⟨c,d⟩:=y;refine(xT _ _ _ _).trans ?_;rw[I2,I2]
 by_cases h:a=c
 ·by_cases h2:b=d<;>simp[h,h2]
 ·simp[h]
theorem pB {l m:List Nm}{v w:AV}(hv:SV BL 2 l v)(hw:SV BL 2 m w)(hl:l.length≤281474976710656):
  BPure prog 98 [v,w] (B (decide (l=m))):=BPure.val (by simp[Az,hv.1,hw.1]) rfl (I0 (by
 unfold Fg;simp[hv.len,hw.len]
 by_cases h0:l.length=m.length
 ·simp[h0]
  refine Gy (λn x0 x1 x12 x13 H'=>∃k:Nat,k+n=l.length∧x0=v∧x1=w∧x12=I l.length∧x13=I k∧H'=[]∧l.take k=m.take k) ?_ l.length ⟨0,by simp,rfl,rfl,by rw[h0],rfl,rfl,rfl⟩;rintro n x0 x1 x12 x13 H' R hR ⟨k,hk,rfl,rfl,rfl,rfl,rfl,ht⟩;unfold DV;rcases Ah2 k l.length with hlt | hge
  ·have hx:=DJ hlt
   have hy:=DJ (l:=m) (i:=k) (by omega);generalize l[k]=x at hx;generalize m[k]'(by omega)=y at hy;simp [hlt,hv.idx BF hx rfl,hw.idx BF hy rfl,zdgiZ,fW]
   by_cases hxy:x=y
   ·simp[hxy,Ax (a:=k) (b:=1) (by omega) (by omega)]
    refine hR (n - 1) _ _ _ _ _ (by omega) ⟨k+1,by omega,rfl,rfl,rfl,rfl,rfl,?_⟩;rw[Aj6,Aj6,hx,hy,ht,hxy]
   ·have:l≠m:=by
     rintro rfl;rw[hx]at hy;injection hy with hy;exact hxy hy
    simp[hxy,this]
  ·have:k=l.length:=by omega
   subst this
   have e:l=m:=by
    rw[Al0,h0,Al0]at ht;exact ht
   simp[e]
 ·have:l≠m:=λh=>h0 (by rw[h])
  have h0':¬(l.length:Int)=m.length:=by omega
  simp[h0',this]))
theorem tN (x y:NdV)(hl:x.nd.l.length≤281474976710656):BPure prog 100 [.agg (BB x),.agg (BB y)] (B (decide (x.nd=y.nd))):=BPure.val (by simp[Az,noIds,KM]) rfl (Xb (by
 have o1:=SV.oneA x.h;have o2:=SV.oneA y.h;unfold Vb BB;simp[o1,o2]
 have e:x.nd=y.nd↔x.nd.ino=y.nd.ino∧YB x.nd.size x.nd.l y.nd.size y.nd.l:=by
  unfold YB;cases x.nd;cases y.nd;simp
 by_cases h:x.nd.ino=y.nd.ino
 ·simp[h,Aq]
  refine As (Za x.h y.h hl) ?_;simp[e,h]
 ·have:¬x.nd=y.nd:=λhh=>h (e.1 hh).1
  simp[h,this]))
theorem xL:C3 prog 100=true:=by kernel_rfl
theorem pA {l m:List NdV}{v w:AV}(hv:SV BB 3 l v)(hw:SV BB 3 m w)(hl:l.length≤281474976710656)(hb:∀d∈l,d.nd.l.length≤281474976710656):
  BPure prog 99 [v,w,.fn (.func 100) [] []] (B (decide (l.map NdV.nd=m.map NdV.nd))):=BPure.val (by simp[Az,noIds,hv.1,hw.1]) rfl (D9 (by
 unfold BX;simp[hv.len,hw.len]
 by_cases h0:l.length=m.length
 ·simp[h0]
  refine Dl (λn x1 x2 x15 x16 x17 H'=>∃k:Nat,k+n=l.length∧x1=w∧x2=.fn (.func 100) [] []∧x15=v∧x16=I l.length∧x17=I k∧(l.take k).map NdV.nd=(m.take k).map NdV.nd) ?_ l.length ⟨0,by simp,rfl,rfl,rfl,by rw[h0],rfl,rfl⟩;rintro n x1 x2 x15 x16 x17 H' R hR ⟨k,hk,rfl,rfl,rfl,rfl,rfl,ht⟩;unfold BA;rcases Ah2 k l.length with hlt | hge
  ·have hx:=DJ hlt
   have hy:=DJ (l:=m) (i:=k) (by omega);generalize l[k]=x at hx;generalize m[k]'(by omega)=y at hy
   have ea:∀(X:AH) (d:NdV),AJ 3 (X++[some (.cells [I 0,I 0,Ac])]) (.ptr X.length 0) (.agg (BB d))=some (X++[some (.cells (BB d))]):=by
    intro X d
    have:=SV.oneA d.h
    simp[AJ,BB,AZ,this]
   simp[hlt,hv.idx B4 hx rfl,hw.idx B4 hy rfl,fV,ea,xL];have rd:∀d:NdV,Aq true 3 (BB d) 0=some (.agg (BB d)):=λd=>by simp[Aq,BB]
   simp only[rd,Ab];refine bC_of (tN x y (hb x (Ag9 hx)) _) ?_
   by_cases hxy:x.nd=y.nd
   ·simp[hxy,Ax (a:=k) (b:=1) (by omega) (by omega)]
    refine hR (n - 1) _ _ _ _ _ _ (by omega) ⟨k+1,by omega,rfl,rfl,rfl,rfl,by simp,?_⟩;rw[Ge hx,Ge hy,Aj4,Aj4,ht];simp[hxy]
   ·have:¬l.map NdV.nd=m.map NdV.nd:=by
     intro e;have h1:(l.map NdV.nd)[k]?=some x.nd:=by rw[Ai6,hx];rfl
     rw[e,Ai6,hy]at h1;injection h1 with h1;exact hxy h1.symm
    simp[hxy,this]
  ·have:k=l.length:=by omega
   subst this
   have e:l.map NdV.nd=m.map NdV.nd:=by
    rw[Al0,h0,Al0]at ht;exact ht
   simp[e]
 ·have:l.map NdV.nd≠m.map NdV.nd:=λh=>h0 (by have:=congrArg List.length h;simpa using this)
  have h0':¬(l.length:Int)=m.length:=by omega
  simp[h0',this]))
theorem aB {ns ms:List Nm}{ds es:List Nd}{v w:AV}(hv:ImV ns ds v)(hw:ImV ms es w)(hb:Sm ns ds):BPure prog 44 [v,w] (B (decide (ZQ ns ds ms es))):=BPure.val (by have h1:=hv.noIds;have h2:=hw.noIds;simp[Az]at h1 h2⊢;exact⟨h1,h2⟩) rfl (Zf (by
 obtain⟨a,b,dv,rfl,ha,hbv,rfl⟩:=hv;obtain⟨c,d,dw,rfl,hc,hdw,rfl⟩:=hw;have oa:=SV.oneA ha;have ob:=SV.oneA hbv;have oc:=SV.oneA hc;have od:=SV.oneA hdw;have b1:=hb.1;have b2:=hb.2.1;unfold Yq;simp[oa,ob,oc,od];refine As (pB ha hc (by omega)) ?_
 by_cases h:ns=ms
 ·simp[h]
  refine As (pA hbv hdw (by simp at b2;omega) λx hx=>by have:=hb.2.2.2 x.nd (Ai7 hx);omega) ?_;simp[ZQ]
 ·simp[h,ZQ]))
theorem Sk {α:Type}{enc:α→List AV}{sz:Nat}(hsz:∀x,(enc x).length=sz)(h0:0<sz){H:AH}{v:AV}{l:List α}{k:Nat}{x:α}(hs:Ad H sz v=some (l.flatMap enc,l.length))(ho:Bh v=true)(hx:l[k]?=some x):
  ∃o off cells,Bq sz v (I k)=some (.ptr o off)∧o∈Bl v∧H[o]?=some (some (.cells cells))∧off+sz≤cells.length∧(∀j,j<sz→cells[off+j]?=(enc x)[j]?)∧
   ∀y q xs,enc y=BS (enc x) q xs→q+xs.length≤sz→Ad (H.set o (some (.cells (AZ cells (off+q) xs)))) sz v=some ((l.set k y).flatMap enc,l.length):=by
 have hk:=(B5.1 hx).1;obtain⟨o,off,cap,cells,rfl,h1,h2,h3⟩:=HN hs ho (by omega);have hol:=(B5.1 h1).1;have hmul:(k+1)*sz≤l.length*sz:=Ah7 _ (by omega);have hms:(k+1)*sz=k*sz+sz:=Ak8 _ _;refine⟨o,off+k*sz,cells,?_,by simp[Bl],h1,by omega,λj hj=>?_,λy q xs hy hq=>?_⟩
 ·simp[Bq,L3]
  omega
 ·have e:(l.flatMap enc)[k*sz+j]?=cells[off+k*sz+j]?:=by
   rw[h3,Ah5,if_pos (by omega),Ah6];congr 1;omega
  rw[← e];have e2:=Gd hsz l k;have e3:(l.flatMap enc)[k*sz+j]?=((l.flatMap enc).drop (k*sz))[j]?:=by rw[Ah6]
  rw[e3,e2,Al8 hk,(B5.1 hx).2,Aj3,Ag8 (by rw[hsz];exact hj)]
 ·have hxs:off+k*sz+q+xs.length≤cells.length:=by omega
  rw[Hb _ _ _ hxs]
  show Ad (H.set o (some (.cells (BS cells (off+k*sz+q) xs)))) sz _=_
  rw[Al6,Bo (c:=BS cells (off+(k*sz+q)) xs) (by simp[hol]) (by rw[HM (by omega)];exact h2)];rw[Pw h2 (by omega),← h3,Pv hsz hx hy hq]
theorem vB (w:World):(Go.sizeOf 107).run prog w=.ok 2 w:=BT (by kernel_rfl)
theorem vA (w:World):(Go.sizeOf 109).run prog w=.ok 3 w:=BT (by kernel_rfl)
theorem zdewZ {H:AH}{oa offa la ea ka ob offb lb eb kb:Nat}{ca cb:List AV}(ha:H[oa]?=some (some (.cells ca)))(hbo:H[ob]?=some (some (.cells cb)))(hne:oa≠ob)(hka:ka≠0)(hkb:kb≠0)(hcb:cb≠[]):
  ExtR prog 192 [.sl oa offa la ea (.ex ka),.sl ob offb lb eb (.ex kb)] H (B false):=
 ExtR.apart (tS:=40) (tR:=4) (fn:=f192) (by kernel_rfl) (by kernel_rfl) (by kernel_rfl) (by kernel_rfl) (by kernel_rfl) (by kernel_rfl) vB ha hbo hne hka hkb hcb
theorem zdevZ {H:AH}{oa offa la ea ka ob offb lb eb kb:Nat}{ca cb:List AV}(ha:H[oa]?=some (some (.cells ca)))(hbo:H[ob]?=some (some (.cells cb)))(hne:oa≠ob)(hka:ka≠0)(hkb:kb≠0)(hcb:cb≠[]):
  ExtR prog 194 [.sl oa offa la ea (.ex ka),.sl ob offb lb eb (.ex kb)] H (B false):=
 ExtR.apart (tS:=41) (tR:=4) (fn:=f194) (by kernel_rfl) (by kernel_rfl) (by kernel_rfl) (by kernel_rfl) (by kernel_rfl) (by kernel_rfl) vA ha hbo hne hka hkb hcb
def zN:List AV:=[S ⟨#[]⟩,I 0]
def zD:List AV:=[I 0,I 0,Ac]
theorem rG {H:AH}{s:AV}{l:List Nm}{i oj:Nat}{x:Nm}(hs:Ad H 2 s=some (l.flatMap BL,l.length))(ho:Bh s=true)(hc:CI s l.length)(hi:i≤l.length)(hn:l.length≤1000000)(hv:H[oj]?=some (some (.cells (BL x))))(hne:oj∉Bl s):
  ∃r H',tG 2 H s ((l.take i++x::l.drop i).flatMap BL) l.length r H'∧BCall prog 179 [s,I i,.sl oj 0 1 2 (.ex 1)] H r H':=by
 have:=rI (P:=prog) (sz:=2) (bytes:=24) (zc:=zN) (f:=179) (ov:=192) (rot:=193) (by omega) rfl
  (λa0 a1 a2 H K h=>Ij h) hs ho hc hi hn (by omega) hv (BF x) hne (λm=>by simp[BL,Dz,Gz]) (λh1 h2 h3 h4=>zdewZ hv h1 h2 (by omega) h3 h4)
 rwa[GX BF,Gd BF,Ai0,show BL x++(l.drop i).flatMap BL=(x::l.drop i).flatMap BL from rfl,← Ak4]at this
theorem xP {H:AH}{s:AV}{l:List NdV}{i oj:Nat}{x:NdV}(hs:Ad H 3 s=some (l.flatMap BB,l.length))(ho:Bh s=true)(hc:CI s l.length)(hi:i≤l.length)(hn:l.length≤1000000)(hv:H[oj]?=some (some (.cells (BB x))))(hne:oj∉Bl s):
  ∃r H',tG 3 H s ((l.take i++x::l.drop i).flatMap BB) l.length r H'∧BCall prog 180 [s,I i,.sl oj 0 1 3 (.ex 1)] H r H':=by
 have:=rI (P:=prog) (sz:=3) (bytes:=40) (zc:=zD) (f:=180) (ov:=194) (rot:=195) (by omega) rfl
  (λa0 a1 a2 H K h=>Im h) hs ho hc hi hn (by omega) hv (B4 x) hne (λm=>F2 (KM x)) (λh1 h2 h3 h4=>zdevZ hv h1 h2 (by omega) h3 h4)
 rwa[GX B4,Gd B4,Ai0,show BB x++(l.drop i).flatMap BB=(x::l.drop i).flatMap BB from rfl,← Ak4]at this
theorem qR {H:AH}{s:AV}{l:List Nm}{i:Nat}(hs:Ad H 2 s=some (l.flatMap BL,l.length))(ho:Bh s=true)(hc:CI s l.length)(hi:i<l.length)(hn:l.length≤1000000):
  ∃r H',vZ 2 H s ((l.take i++l.drop (i+1)).flatMap BL) (l.length - 1) r H'∧BCall prog 181 [s,I i,I ((i:Int)+1)] H r H':=by
 obtain⟨m,hm⟩:∃m,l.length=m+1:=⟨l.length - 1,by omega⟩;rw[hm]at hs hc;obtain⟨r,H',h1,h2⟩:=qS (sz:=2) (bytes:=24) (zc:=zN) (by omega) rfl hs ho hc (show i≤m by omega) (by omega) (by omega);have h2':EO s (I i) (I ((i:Int)+1)) H λr' H''=>r'=r∧H''=H':=h2
 obtain⟨r2,H2,⟨rfl,rfl⟩,h3⟩:=Ie h2';rw[GX BF,Gd BF,← Ak4]at h1;exact⟨_,_,by rw[hm];exact h1,h3⟩
theorem xH {H:AH}{s:AV}{l:List NdV}{i:Nat}(hs:Ad H 3 s=some (l.flatMap BB,l.length))(ho:Bh s=true)(hc:CI s l.length)(hi:i<l.length)(hn:l.length≤1000000):
  ∃r H',vZ 3 H s ((l.take i++l.drop (i+1)).flatMap BB) (l.length - 1) r H'∧BCall prog 182 [s,I i,I ((i:Int)+1)] H r H':=by
 obtain⟨m,hm⟩:∃m,l.length=m+1:=⟨l.length - 1,by omega⟩;rw[hm]at hs hc;obtain⟨r,H',h1,h2⟩:=qS (sz:=3) (bytes:=40) (zc:=zD) (by omega) rfl hs ho hc (show i≤m by omega) (by omega) (by omega);have h2':EP s (I i) (I ((i:Int)+1)) H λr' H''=>r'=r∧H''=H':=h2
 obtain⟨r2,H2,⟨rfl,rfl⟩,h3⟩:=If h2';rw[GX B4,Gd B4,← Ak4]at h1;exact⟨_,_,by rw[hm];exact h1,h3⟩
structure ImH (L oi:Nat)(ns:List Nm)(dv:List NdV)(a b:AV)(H:AH):Prop where
 obj:H[oi]?=some (some (.cells [a,b]))
 lo:oi∉Bl a∧oi∉Bl b
 len:L≤H.length
 sa:Ad H 2 a=some (ns.flatMap BL,ns.length)
 oa:Bh a=true
 ca:CI a ns.length
 ia:∀i∈Bl a,L≤i
 sb:Ad H 3 b=some (dv.flatMap BB,dv.length)
 ob:Bh b=true
 cb:CI b dv.length
 ib:∀i∈Bl b,L≤i
 ab:∀i∈Bl a,i∉Bl b
def FrL (L oi:Nat)(H H':AH):Prop:=H.length≤H'.length∧∀j,j<L→j≠oi→H'[j]?=H[j]?
theorem FrL.refl (L oi:Nat)(H:AH):FrL L oi H H:=⟨Ah3 _,λ_ _ _=>rfl⟩
theorem FrL.trans {L oi:Nat}{A B C:AH}(h:FrL L oi A B)(k:FrL L oi B C):FrL L oi A C:=⟨Ai8 h.1 k.1,λj h1 h2=>(k.2 j h1 h2).trans (h.2 j h1 h2)⟩
theorem ImH.noA {L oi:Nat}{ns:List Nm}{dv:List NdV}{a b:AV}{H:AH}(h:ImH L oi ns dv a b H):oi∉Bl a:=h.lo.1
theorem ImH.noB {L oi:Nat}{ns:List Nm}{dv:List NdV}{a b:AV}{H:AH}(h:ImH L oi ns dv a b H):oi∉Bl b:=h.lo.2
theorem ImH.lend {L oi:Nat}{ns:List Nm}{dv:List NdV}{a b:AV}{H:AH}(h:ImH L oi ns dv a b H):∃Ra Rb,SV BL 2 ns Ra∧SV BB 3 dv Rb∧FZ H (.agg [a,b]) (.agg [Ra,Rb]):=by
 obtain⟨Ra,h1,f1⟩:=FZ.sv h.sa (Eh λx _=>Sh x);obtain⟨Rb,h2,f2⟩:=FZ.sv h.sb (Eh λx _=>KM x);exact⟨Ra,Rb,h1,h2,FZ.agg (FZs.cons f1 (FZs.cons f2 FZs.nil))⟩
theorem ImH.grew {L oi:Nat}{ns:List Nm}{dv:List NdV}{a b:AV}{H H':AH}(h:ImH L oi ns dv a b H)(g:Grew H H'):ImH L oi ns dv a b H':=
 ⟨g.cells h.obj,h.lo,Ai8 h.len g.1,g.slice h.sa,h.oa,h.ca,h.ia,g.slice h.sb,h.ob,h.cb,h.ib,h.ab⟩
theorem ImH.newA {L oi:Nat}{ns ms:List Nm}{dv:List NdV}{a b r:AV}{H H':AH}(h:ImH L oi ns dv a b H)(hl:H.length≤H'.length)(hk:∀i,i<H.length→i∉Bl a→H'[i]?=H[i]?)(h1:Ad H' 2 r=some (ms.flatMap BL,ms.length))(h2:Bh r=true)(h3:CI r ms.length)(h4:∀i∈Bl r,i∈Bl a∨H.length≤i):
  ∃H2,AJ 1 H' (.ptr oi 0) r=some H2∧ImH L oi ms dv r b H2∧FrL L oi H H2:=by
 have c0:H'[oi]?=some (some (.cells [a,b])):=by rw[hk oi (B5.1 h.obj).1 h.noA];exact h.obj
 have hr:=AI h2;have hol1:=(B5.1 h.obj).1;have nro:oi∉Bl r:=λq=>(h4 oi q).elim h.noA (λq=>by omega)
 have hle:=h.len;have hol:=(B5.1 c0).1;have nr:∀i∈Bl r,L≤i:=λi hi=>(h4 i hi).elim (h.ia i) (λq=>by omega)
 refine⟨H'.set oi (some (.cells [r,b])),?_,⟨by simp[hol],⟨nro,h.noB⟩,by simp;omega,?_,h2,h3,nr,?_,h.ob,h.cb,h.ib,λi hi hb=>?_⟩,⟨by simp;omega,λj h5 h6=>?_⟩⟩
 ·rw[AF (n:=1) (off:=0) (xs:=[r]) (cs:=[a,b]) (BE hr) c0 rfl (by simp)];rfl
 ·exact Af h1 λi hi=>Cg (fun (e:oi=i)=>nro (e▸hi))
 ·refine Af h.sb λi hi=>?_
  rw[Cg (fun (e:oi=i)=>h.noB (e▸hi))];exact hk i (A7 h.sb i hi) λq=>h.ab i q hi
 ·rcases h4 i hi with q | q
  ·exact h.ab i q hb
  ·have:=A7 h.sb i hb;omega
 ·rw[Cg (by omega)]
  exact hk j (by omega) λq=>by have:=h.ia j q;omega
theorem ImH.newB {L oi:Nat}{ns:List Nm}{dv ew:List NdV}{a b r:AV}{H H':AH}(h:ImH L oi ns dv a b H)(hl:H.length≤H'.length)(hk:∀i,i<H.length→i∉Bl b→H'[i]?=H[i]?)(h1:Ad H' 3 r=some (ew.flatMap BB,ew.length))(h2:Bh r=true)(h3:CI r ew.length)(h4:∀i∈Bl r,i∈Bl b∨H.length≤i):
  ∃H2,AJ 1 H' (.ptr oi 1) r=some H2∧ImH L oi ns ew a r H2∧FrL L oi H H2:=by
 have c0:H'[oi]?=some (some (.cells [a,b])):=by rw[hk oi (B5.1 h.obj).1 h.noB];exact h.obj
 have hr:=AI h2;have hol1:=(B5.1 h.obj).1;have nro:oi∉Bl r:=λq=>(h4 oi q).elim h.noB (λq=>by omega)
 have hle:=h.len;have hol:=(B5.1 c0).1;have nr:∀i∈Bl r,L≤i:=λi hi=>(h4 i hi).elim (h.ib i) (λq=>by omega)
 refine⟨H'.set oi (some (.cells [a,r])),?_,⟨by simp[hol],⟨h.noA,nro⟩,by simp;omega,?_,h.oa,h.ca,h.ia,?_,h2,h3,nr,λi ha hi=>?_⟩,⟨by simp;omega,λj h5 h6=>?_⟩⟩
 ·rw[AF (n:=1) (off:=1) (xs:=[r]) (cs:=[a,b]) (BE hr) c0 rfl (by simp)];rfl
 ·refine Af h.sa λi hi=>?_
  rw[Cg (fun (e:oi=i)=>h.noA (e▸hi))];exact hk i (A7 h.sa i hi) λq=>h.ab i hi q
 ·exact Af h1 λi hi=>Cg (fun (e:oi=i)=>nro (e▸hi))
 ·rcases h4 i hi with q | q
  ·exact h.ab i ha q
  ·have:=A7 h.sa i ha;omega
 ·rw[Cg (by omega)]
  exact hk j (by omega) λq=>by have:=h.ib j q;omega
section
variable {P : Program}
def rP (o:Oper)(need:List Nat):Bool:=need.all λj=>o.after.toList.any λe=>Region.binds .any e&&Nat.beq e.on j
theorem nZ {o:Oper}{need:List Nat}(h:rP o need=true):∀j∈need,∃e∈o.after,Region.binds .any e=true∧e.on=j:=by
 intro j hj
 have:=Ai3.1 h j hj
 obtain⟨e,he,hb⟩:=List.any_eq_true.1 this;simp only[Ai4]at hb;exact⟨e,by simpa using he,hb.1,An3 hb.2⟩
def gQ (vals:Nat→AV)(i:Nat)(r:AV):Nat→AV:=λj=>if j=i then r else vals j
end
end
section
section
variable {P : Program}
def OpIg (P:Program)(ops:List Oper)(T:List AV)(i:Nat)(need:List Nat)(F:(Nat→AV)→AH→(AV→AH→Prop)→Prop):Prop:=
 ∃o,ops[i]?=some o∧(∀j∈need,∃e∈o.after,Region.binds .any e=true∧e.on=j)∧∀vals H K,F vals H K→BY ops.toArray (pt ops vals (λ_=>true) T i) o=some true∧Xz P (pt ops vals (λ_=>true) T i) H o K
theorem rZ {ops:List Oper}{vals:Nat→AV}{T:List AV}{j d:Nat}(hd:JP ops j=some d)(hl:d<T.length):∀n,j<n→(∀k,j<k→k<n→JP ops k≠some d)→(pt ops vals (λ_=>true) T n)[d]?=some (vals j)
 | 0,h,_=>by omega
 | n+1,h,h2=>by
  simp only[pt,if_true]
  by_cases c:j=n
  ·subst c
   rw[hd];simp only[El];rw[KI (by rw[Wl];exact hl)]
  ·rw[Wu (h2 n (by omega) (by omega)),rZ hd hl n (by omega) λk h3 h4=>h2 k h3 (by omega)]
def zdgdZ (ops:List Oper)(len i:Nat):Bool:=match (ops.getD i default).guard with
 | none=>true
 | some (j,_)=>match JP ops j with
  | some d=>decide (j<i)&&decide (d<len)&&(List.range i).all λk=>!decide (j<k)|| !(match JP ops k with
   | some x=>Nat.beq x d
   | none=>false)
  | none=>false
def yG (P:Program)(ql:FuncId→Bool)(fz:Bool)(ops:List Oper)(T:List AV)(i:Nat)(vals:Nat→AV)(H:AH)(K:AV→AH→Prop):Prop:=
 let o:=ops.getD i default
 let S:=match F1 (BO (pt ops vals (λ_=>true) T i)) o with
  | some (k,args)=>match C3 P k with
   | true=>ACalls P k args H K
   | false=>False
  | none=>QI P ql A1 (fz&&Zi o.op) (BO (pt ops vals (λ_=>true) T i)) H o true K
 match o.guard with
 | none=>S
 | some (j,w)=>vals j=B w∧S
theorem uY {ql:FuncId→Bool}{fz:Bool}{ops:List Oper}{T:List AV}{i:Nat}{vals:Nat→AV}{H:AH}{K:AV→AH→Prop}(hg:zdgdZ ops T.length i=true)(h:yG P ql fz ops T i vals H K):
  BY ops.toArray (pt ops vals (λ_=>true) T i) (ops.getD i default)=some true∧Xz P (pt ops vals (λ_=>true) T i) H (ops.getD i default) K:=by
 unfold yG at h;unfold zdgdZ at hg;generalize ops.getD i default=o at*;simp only at h;have step:∀{S:Prop},(S=match F1 (BO (pt ops vals (λ_=>true) T i)) o with
  | some (k,args)=>match C3 P k with
   | true=>ACalls P k args H K
   | false=>False
  | none=>QI P ql A1 (fz&&Zi o.op) (BO (pt ops vals (λ_=>true) T i)) H o true K)→S→Xz P (pt ops vals (λ_=>true) T i) H o K:=by
  rintro S rfl h;split at h
  ·rename_i k args hc
   split at h
   ·rename_i hgo;exact .inr (.inr ⟨k,args,hc,hgo,h⟩)
   ·exact h.elim
  ·rename_i hc
   obtain⟨r,H',h1,h2,-⟩:=Qg h;rcases h2 with⟨-,h2 | ⟨h2,h3⟩⟩ | ⟨h2,-⟩
   ·unfold bY at h2
    split at h2
    ·obtain⟨r',h3,h4⟩:=Option.map_eq_some_iff.1 h2
     injection h4 with h4 h5;subst h4;subst h5;exact .inr (.inl ⟨_,h3,h1⟩)
    ·exact .inl ⟨r,H',h2,h1⟩
   ·exfalso
    unfold S1 at h3;rw[hc]at h3;exact h3
   ·cases h2
 cases ho:o.guard with
 | none=>
  simp only[ho]at h;exact⟨by unfold BY;rw[ho],step rfl h⟩
 | some q=>
  obtain⟨j,w⟩:=q;simp only[ho]at h hg;refine⟨?_,step rfl h.2⟩;unfold BY VI;simp only[ho,Aq0];split at hg
  ·rename_i d hd
   simp only[Ad5,Ac5,Ai3,An8,decide_eq_false_iff_not]at hg
   have hp:=rZ (vals:=vals) hd hg.1.2 i hg.1.1 λk h1 h2 h3=>by
    rcases hg.2 k h2 with q | q
    ·exact q h1
    ·rw[h3]at q;simp at q
   have hd':(ops[j]?).bind (·.dst)=some d:=hd;simp only[hd',hp,h.1,Ao6];cases w<;>rfl
  ·cases hg
theorem OpIg.all {ql:FuncId→Bool}{fz:Bool}{ops:List Oper}{T:List AV}{n:Nat}{need:List (List Nat)}{F:List ((Nat→AV)→AH→(AV→AH→Prop)→Prop)}(hn:ops.length=n)(hb:(List.range n).all (λi=>rP (ops.getD i default) (need.getD i [])&&zdgdZ ops T.length i)=true)
  (hF:∀vals H K,(List.range n).map (λi=>yG P ql fz ops T i vals H K)=F.map λf=>f vals H K):∀i,i<ops.length→OpIg P ops T i (need.getD i []) (F.getD i (λ_ _ _=>False)):=by
 intro i hi;have hb:=Ai3.1 hb i (by rw[An8];omega);simp only[Ai4]at hb;have ho:ops[i]?=some (ops.getD i default):=by rw[Ai5,DJ hi];rfl
 refine⟨_,ho,nZ hb.1,λvals H K h=>uY (ql:=ql) (fz:=fz) hb.2 ?_⟩;have e:=congrArg (λl=>l[i]?) (hF vals H K);simp only[Ai6,List.getElem?_range (show i<n by omega),Ao6]at e;cases hf:F[i]? with
 | none=>rw[hf]at e;simp at e
 | some f=>
  rw[hf]at e;simp only[Ao6,Ao8]at e;rw[e];rw[Ai5,hf]at h;exact h
theorem ACode.told3 {id:Nat}{ops:List Oper}{Q:AQ}{T:List AV}{H:AH}(hm:P.follows .mixedOrders=true)(hk:Oj ops=true)(need:Nat→List Nat)(F:Nat→(Nat→AV)→AH→(AV→AH→Prop)→Prop)(V:Nat→AV)(HI:(Nat→Bool)→AH→Prop)
  (ho:∀i,i<ops.length→OpIg P ops T i (need i) (F i)) (h0:HI (λ_=>false) H)
  (hs:∀i,i<ops.length→∀(S:Nat→Bool) vals Hc,S i=false→(∀a,S a=true→∀b∈need a,S b=true)→(∀j∈need i,S j=true∧vals j=V j)→HI S Hc→F i vals Hc λr H'=>r=V i∧HI (HF S i) H')
  (last:∀(S:Nat→Bool) vals Hc,(∀j,j<ops.length→S j=true∧vals j=V j)→HI S Hc→Q .normal (pt ops vals (λ_=>true) T ops.length) Hc):ACode P (.region id ops.toArray true) Q T H:=by
 refine ACode.drawn hm hk (Ω:=AH×(Nat→AV)) (λω S=>HI S ω.1∧(∀j,S j=true→ω.2 j=V j)∧∀a,S a=true→∀b∈need a,S b=true) (λω=>ω.2) (λω _=>ω.1) (H,λ_=>AO) ⟨h0,by simp,by simp⟩ rfl ?_ (λω S hS hI=>last S ω.2 ω.1 (λj hj=>⟨hS j hj,hI.2.1 j (hS j hj)⟩) hI.1);rintro ω S i o ⟨hoi,hcl,hSi,haft⟩ ⟨hI,hv,hcls⟩;have hi:=(B5.1 hoi).1;obtain⟨o',ho',hn,hF⟩:=ho i hi;rw[hoi]at ho';injection ho' with ho';subst ho'
 have hn':∀j∈need i,S j=true:=λj hj=>by
  obtain⟨e,he,hb,rfl⟩:=hn j hj;exact haft e he hb
 obtain⟨hw,h1⟩:=hF ω.2 ω.1 _ (hs i hi S ω.2 ω.1 hSi hcls (λj hj=>⟨hn' j hj,hv j (hn' j hj)⟩) hI);refine⟨true,hw,λ_=>?_,λh=>by cases h⟩
 have conv:∀r H',(r=V i∧HI (HF S i) H')→∃ω':AH×(Nat→AV),(HI (HF S i) ω'.1∧(∀j,HF S i j=true→ω'.2 j=V j)∧∀a,HF S i a=true→∀b∈need a,HF S i b=true)∧(∀j,S j=true→ω'.2 j=ω.2 j)∧ω'.2 i=r∧ω'.1=H':=by
  rintro r H' ⟨rfl,h⟩;refine⟨(H',gQ ω.2 i (V i)),⟨h,λj hj=>?_,λa ha b hb=>?_⟩,λj hj=>?_,by simp[gQ],rfl⟩
  ·show gQ ω.2 i (V i) j=V j
   unfold gQ
   by_cases c:j=i
   ·rw[if_pos c,c]
   ·rw[if_neg c]
    unfold HF at hj;rw[if_neg c]at hj;exact hv j hj
  ·unfold HF at ha⊢
   by_cases c:b=i
   ·rw[if_pos c]
   ·rw[if_neg c]
    by_cases c2:a=i
    ·subst c2;exact hn' b hb
    ·rw[if_neg c2]at ha;exact hcls a ha b hb
  ·have:j≠i:=by rintro rfl;rw[hSi]at hj;cases hj
   simp[gQ,this]
 rcases h1 with⟨r,H',h2,h3⟩ | ⟨r,h2,h3⟩ | ⟨k,args,h2,h3,h4⟩
 ·exact .inl ⟨r,H',h2,conv _ _ h3⟩
 ·exact .inr (.inl ⟨r,h2,conv _ _ h3⟩)
 ·exact .inr (.inr ⟨k,args,h2,h3,h4.mono conv⟩)
theorem ACode.told2 {id:Nat}{ops:List Oper}{Q:AQ}{T:List AV}{H:AH}(hm:P.follows .mixedOrders=true)(hk:Oj ops=true)(need:Nat→List Nat)(F:Nat→(Nat→AV)→AH→(AV→AH→Prop)→Prop)(V:Nat→AV)(hp:(Nat→Bool)→AH)
  (ho:∀i,i<ops.length→OpIg P ops T i (need i) (F i)) (h0:hp (λ_=>false)=H)
  (hs:∀i,i<ops.length→∀(S:Nat→Bool) vals,S i=false→(∀a,S a=true→∀b∈need a,S b=true)→(∀j∈need i,S j=true∧vals j=V j)→F i vals (hp S) λr H'=>r=V i∧H'=hp (HF S i))
  (last:∀(S:Nat→Bool) vals,(∀j,j<ops.length→S j=true∧vals j=V j)→Q .normal (pt ops vals (λ_=>true) T ops.length) (hp S)):ACode P (.region id ops.toArray true) Q T H:=
 ACode.told3 hm hk need F V (λS H=>H=hp S) ho h0.symm (λi hi S vals Hc h1 h2 h3 h4=>by subst h4;exact hs i hi S vals h1 h2 h3) (λS vals Hc h1 h2=>by subst h2;exact last S vals h1)
end
end
section
noncomputable def crNOps:List Oper:=(ZK (sub [true,true,true,true,false] (AP f145))).toList
def xG (x0 x3 x4 x6:AV):List AV:=Cj (mk 82 0 [0,3,4,6]) [x0,x3,x4,x6]
theorem aU:crNOps.length=16:=by kernel_rfl
theorem xF:Oj crNOps=true:=by kernel_rfl
def crNNeed:List (List Nat):=[[],[],[1],[2],[3],[],[],[6],[],[8],[7,9],[10],[4,5,11],[0,1,2,3,4,5,6,7,8,9,10,11,12],[0,1,2,3,4,5,6,7,8,9,10,11,12,13],[0,1,2,3,4,5,6,7,8,9,10,11,12,14]]
def QF (x0 x3 x4 x6:AV):List ((Nat→AV)→AH→(AV→AH→Prop)→Prop):=[
 λvals H K=>gO true (some x0) λv=>K v H,
 λvals H K=>gO true (some x0) λv=>K v H,
 λvals H K=>gO true (Ae (vals 1)) λv=>K v H,
 λvals H K=>gO true (Aa 0 (vals 2)) λv=>K v H,
 λvals H K=>gO true (Am false 1 H (vals 3)) λv=>K v H,
 λvals H K=>gO true (some x4) λv=>K v H,
 λvals H K=>gO true (Aa 5 x3) λv=>K v H,
 λvals H K=>gO true (Am false 1 H (vals 6)) λv=>K v H,
 λvals H K=>gO true (Aa 1 x3) λv=>K v H,
 λvals H K=>gO true (Am false 1 H (vals 8)) λv=>K v H,
 λvals H K=>gO true (E5 zN [(0,1,(vals 7)),(1,1,(vals 9))]) λv=>K v H,
 λvals H K=>gH true (FC H 2 1 (BI zN 1) [(0,2,(vals 10))]) H K,
 λvals H K=>ACalls prog 179 [(vals 4),(vals 5),(vals 11)] H K,
 λvals H K=>gO true (Ae (vals 0)) λv=>K v H,
 λvals H K=>gO true (Aa 0 (vals 13)) λv=>K v H,
 λvals H K=>gS true (AJ 1 H (vals 14) (vals 12)) H λH'=>K AO H']
theorem zddxZ (x0 x3 x4 x6:AV):∀i,i<crNOps.length→OpIg prog crNOps (xG x0 x3 x4 x6) i (crNNeed.getD i []) ((QF x0 x3 x4 x6).getD i (λ_ _ _=>False)):=
 OpIg.all (ql:=HO) (fz:=false) aU (by kernel_rfl) (λvals H K=>by kernel_rfl)
noncomputable def crDOps:List Oper:=(ZK (sub [true,true,true,true,true] (AP f145))).toList
def xE (x0 x3 x6:AV):List AV:=Cj (mk 82 0 [0,3,6]) [x0,x3,x6]
theorem aT:crDOps.length=14:=by kernel_rfl
theorem xD:Oj crDOps=true:=by kernel_rfl
def crDNeed:List (List Nat):=[[],[],[1],[2],[3],[],[],[6],[7],[8],[4,5,9],[0,1,2,3,4,5,6,7,8,9,10],[0,1,2,3,4,5,6,7,8,9,10,11],[0,1,2,3,4,5,6,7,8,9,10,12]]
def SS (x0 x3 x6:AV):List ((Nat→AV)→AH→(AV→AH→Prop)→Prop):=[
 λvals H K=>gO true (some x0) λv=>K v H,
 λvals H K=>gO true (some x0) λv=>K v H,
 λvals H K=>gO true (Ae (vals 1)) λv=>K v H,
 λvals H K=>gO true (Aa 1 (vals 2)) λv=>K v H,
 λvals H K=>gO true (Am false 1 H (vals 3)) λv=>K v H,
 λvals H K=>gO true (some x6) λv=>K v H,
 λvals H K=>gO true (Aa 1 x3) λv=>K v H,
 λvals H K=>gO true (Am false 1 H (vals 6)) λv=>K v H,
 λvals H K=>gO true (E5 zD [(0,1,(vals 7))]) λv=>K v H,
 λvals H K=>gH true (FC H 3 1 (BI zD 1) [(0,3,(vals 8))]) H K,
 λvals H K=>ACalls prog 180 [(vals 4),(vals 5),(vals 9)] H K,
 λvals H K=>gO true (Ae (vals 0)) λv=>K v H,
 λvals H K=>gO true (Aa 1 (vals 11)) λv=>K v H,
 λvals H K=>gS true (AJ 1 H (vals 12) (vals 10)) H λH'=>K AO H']
theorem zddvZ (x0 x3 x6:AV):∀i,i<crDOps.length→OpIg prog crDOps (xE x0 x3 x6) i (crDNeed.getD i []) ((SS x0 x3 x6).getD i (λ_ _ _=>False)):=
 OpIg.all (ql:=HO) (fz:=false) aT (by kernel_rfl) (λvals H K=>by kernel_rfl)
structure OpM where
 kind:Int
 ino:Int
 pos:Int
 size:Int
 keep:Bool
 name:List UInt8
 to:List UInt8
 b:List UInt8
 deriving DecidableEq
def By (o:OpM)(bv:AV):List AV:=[I o.kind,I o.ino,I o.pos,I o.size,B o.keep,S (B0 o.name),S (B0 o.to),bv]
theorem zddyZ (x0 x3 x4 x6:AV)(vals:Nat→AV)(H:AH)(K:AV→AH→Prop):(Bb (DO (mk 82 0 [0,3,6]) (Jj [true,true,true,true,true] 6)) (Ba prog f145.results.toList K)) .normal (pt crNOps vals (λ_=>true) (xG x0 x3 x4 x6) 16) H=L5 x0 x3 x6 H K:=by kernel_rfl
theorem zddwZ (x0 x3 x6:AV)(vals:Nat→AV)(H:AH)(K:AV→AH→Prop):(Ba prog f145.results.toList K) .normal (pt crDOps vals (λ_=>true) (xE x0 x3 x6) 14) H=K (.tup []) H:=by kernel_rfl
theorem nH (x0 x3 x4 x6:AV)(H:AH)(K:AV→AH→Prop)(h:ACode prog (.region 4 crNOps.toArray true) (Bb (DO (mk 82 0 [0,3,6]) (Jj [true,true,true,true,true] 6)) (Ba prog f145.results.toList K)) (xG x0 x3 x4 x6) H):Iq x0 x3 x4 x6 H K:=unR.mk h
theorem nG (x0 x3 x6:AV)(H:AH)(K:AV→AH→Prop)(h:ACode prog (.region 5 crDOps.toArray true) (Ba prog f145.results.toList K) (xE x0 x3 x6) H):L6 x0 x3 x6 H K:=unR.mk h
def ND (i j k:Nat)(A B C D:AH)(S:Nat→Bool):AH:=if S k=true then D else if S j=true then C else if S i=true then B else A
theorem Gi {i j k:Nat}{A B C D:AH}{S:Nat→Bool}{q:Nat}(h1:q≠i)(h2:q≠j)(h3:q≠k):ND i j k A B C D (HF S q)=ND i j k A B C D S:=by
 unfold ND HF;rw[if_neg (Ak2 h3),if_neg (Ak2 h2),if_neg (Ak2 h1)]
abbrev Do:=And.intro @List.getD_cons_succ.{0} @List.getD_cons_zero.{0}
abbrev Ae2:=And.intro (And.intro (And.intro @AD @Ab) @BZ) @Ca
abbrev Ae3:=And.intro @Ae2 @Do
theorem nI {L oi p k:Nat}{ns:List Nm}{dv:List NdV}{a b bv:AV}{H:AH}{o:OpM}(h:ImH L oi ns dv a b H)(hp:H[p]?=some (some (.cells (By o bv))))(hpo:p≠oi)(hpa:p∉Bl a)(hk:k≤ns.length)(hn:ns.length≤100000):
  ∃r H2,ImH L oi (ns.take k++⟨o.name,o.ino⟩::ns.drop k) dv r b H2∧FrL L oi H H2∧H2[p]?=H[p]?∧∀x6 K,L5 (.ptr oi 0) (.ptr p 0) x6 H2 K→Iq (.ptr oi 0) (.ptr p 0) (I k) x6 H K:=by
 have g:=Grew.app H [some (.cells (BL ⟨o.name,o.ino⟩))];have hg:=h.grew g;have hpl:=(B5.1 hp).1;obtain⟨r,H12,hI,hc⟩:=rG (x:=⟨o.name,o.ino⟩) (oj:=H.length) hg.sa hg.oa hg.ca hk (by omega) (by simp) (λhh=>by have:=A7 h.sa _ hh;omega);obtain⟨i1,i2,i3,i4,i5,i6⟩:=hI;have el:(ns.take k++(⟨o.name,o.ino⟩:Nm)::ns.drop k).length=ns.length+1:=by simp;omega
 obtain⟨H2,e2,n1,n2⟩:=hg.newA (ms:=ns.take k++⟨o.name,o.ino⟩::ns.drop k) i3 i4 (by rw[el];exact i2) i1 (by rw[el];exact i6) i5
 have hp2:H2[p]?=H[p]?:=by
  have c0:H12[oi]?=some (some (.cells [a,b])):=by rw[i4 oi (B5.1 hg.obj).1 hg.noA];exact hg.obj
  rw[AF (n:=1) (off:=0) (xs:=[r]) (cs:=[a,b]) (BE (AI i1)) c0 rfl (by simp)]at e2;injection e2 with e2;rw[← e2,Cg (Ak2 hpo),i4 p (by simp;omega) hpa,g.2 p hpl]
 have hfr:FrL L oi H H2:=by
  have hle:=h.len;exact⟨Ai8 g.1 n2.1,λj h5 h6=>(n2.2 j h5 h6).trans (g.2 j (by omega))⟩
 let V:Nat→AV:=λi=>([.ptr oi 0,.ptr oi 0,.ptr oi 0,.ptr oi 0,a,I k,.ptr p 5,S (B0 o.name),.ptr p 1,I o.ino,.agg (BL ⟨o.name,o.ino⟩),.sl H.length 0 1 2 (.ex 1),r,.ptr oi 0,.ptr oi 0,AO]:List AV).getD i AO
 refine⟨r,H2,n1,hfr,hp2,λx6 K hK=>nH _ _ _ _ _ _ ?_⟩;refine ACode.told2 Zk xF (λi=>crNNeed.getD i []) (λi=>(QF (.ptr oi 0) (.ptr p 0) (I k) x6).getD i (λ_ _ _=>False)) V (ND 11 12 15 H (H++[some (.cells (BL ⟨o.name,o.ino⟩))]) H12 H2) (zddxZ _ _ _ _) rfl ?_ ?_
 ·intro i hi S vals hS cl hn
  rw[aU]at hi
  have n12:S 4=false→S 12=false:=λh4=>by
   cases h:S 12 with
   | false=>rfl
   | true=>have:=cl 12 h 4 (by simp[crNNeed]);rw[h4]at this;cases this
  have n15:S 12=false→S 15=false:=λh4=>by
   cases h:S 15 with
   | false=>rfl
   | true=>have:=cl 15 h 12 (by simp[crNNeed]);rw[h4]at this;cases this
  have n12':S 11=false→S 12=false:=λh4=>by
   cases h:S 12 with
   | false=>rfl
   | true=>have:=cl 12 h 11 (by simp[crNNeed]);rw[h4]at this;cases this
  have n11:∀j,j=7∨j=9→S j=false→S 11=false:=λj hj h4=>by
   cases h:S 11 with
   | false=>rfl
   | true=>
    have h10:=cl 11 h 10 (by simp[crNNeed])
    have:=cl 10 h10 j (by rcases hj with rfl | rfl<;>simp[crNNeed])
    rw[h4]at this;cases this
  have hcase:i=0∨i=1∨i=2∨i=3∨i=4∨i=5∨i=6∨i=7∨i=8∨i=9∨i=10∨i=11∨i=12∨i=13∨i=14∨i=15:=by omega
  rcases hcase with rfl | rfl | rfl | rfl | rfl | rfl | rfl | rfl | rfl | rfl | rfl | rfl | rfl | rfl | rfl | rfl
  ·simp only[QF,List.getD_cons_zero,Ae2]
   exact⟨rfl,(Gi (by omega) (by omega) (by omega)).symm⟩
  ·simp only[QF,Ae3]
   exact⟨rfl,(Gi (by omega) (by omega) (by omega)).symm⟩
  ·simp only[QF,Ae3]
   have v1:=(hn 1 (by simp[crNNeed])).2;rw[v1];exact⟨rfl,(Gi (by omega) (by omega) (by omega)).symm⟩
  ·simp only[QF,Ae3]
   have v2:=(hn 2 (by simp[crNNeed])).2;rw[v2];exact⟨rfl,(Gi (by omega) (by omega) (by omega)).symm⟩
  ·simp only[QF,Ae3]
   have v3:=(hn 3 (by simp[crNNeed])).2;rw[v3]
   have e:Am false 1 (ND 11 12 15 H (H++[some (.cells (BL ⟨o.name,o.ino⟩))]) H12 H2 S) (V 3)=some a:=by
    have q12:=n12 hS;have q15:=n15 q12
    have:(ND 11 12 15 H (H++[some (.cells (BL ⟨o.name,o.ino⟩))]) H12 H2 S)[oi]?=some (some (.cells [a,b])):=by
     unfold ND;rw[q15,q12];cases S 11 with
     | true=>exact hg.obj
     | false=>exact h.obj
    show Am false 1 _ (.ptr oi 0)=_
    rw[Ah this];rfl
   rw[e];exact⟨rfl,(Gi (by omega) (by omega) (by omega)).symm⟩
  ·simp only[QF,Ae3]
   exact⟨rfl,(Gi (by omega) (by omega) (by omega)).symm⟩
  ·simp only[QF,Ae3]
   exact⟨rfl,(Gi (by omega) (by omega) (by omega)).symm⟩
  ·simp only[QF,Ae3]
   have v6:=(hn 6 (by simp[crNNeed])).2;rw[v6]
   have e:Am false 1 (ND 11 12 15 H (H++[some (.cells (BL ⟨o.name,o.ino⟩))]) H12 H2 S) (V 6)=some (.lit (.string (B0 o.name))):=by
    have q11:=n11 7 (by omega) hS;have q12:=n12' q11;have q15:=n15 q12;unfold ND;rw[q15,q12,q11]
    show Am false 1 H (.ptr p 5)=_
    rw[Ah hp];rfl
   rw[e];exact⟨rfl,(Gi (by omega) (by omega) (by omega)).symm⟩
  ·simp only[QF,Ae3]
   exact⟨rfl,(Gi (by omega) (by omega) (by omega)).symm⟩
  ·simp only[QF,Ae3]
   have v8:=(hn 8 (by simp[crNNeed])).2;rw[v8]
   have e:Am false 1 (ND 11 12 15 H (H++[some (.cells (BL ⟨o.name,o.ino⟩))]) H12 H2 S) (V 8)=some (I o.ino):=by
    have q11:=n11 9 (by omega) hS;have q12:=n12' q11;have q15:=n15 q12;unfold ND;rw[q15,q12,q11]
    show Am false 1 H (.ptr p 1)=_
    rw[Ah hp];rfl
   rw[e];exact⟨rfl,(Gi (by omega) (by omega) (by omega)).symm⟩
  ·simp only[QF,Ae3]
   have v7:=(hn 7 (by simp[crNNeed])).2;have v9:=(hn 9 (by simp[crNNeed])).2;rw[v7,v9];exact⟨rfl,(Gi (by omega) (by omega) (by omega)).symm⟩
  ·simp only[QF,Ae3]
   have v10:=(hn 10 (by simp[crNNeed])).2;rw[v10];have q12:=n12' hS;have q15:=n15 q12;have e:ND 11 12 15 H (H++[some (.cells (BL ⟨o.name,o.ino⟩))]) H12 H2 S=H:=by unfold ND;rw[q15,q12,hS];rfl
   have e2:ND 11 12 15 H (H++[some (.cells (BL ⟨o.name,o.ino⟩))]) H12 H2 (HF S 11)=H++[some (.cells (BL ⟨o.name,o.ino⟩))]:=by unfold ND;simp[HF,q15,q12]
   rw[e,e2];exact⟨rfl,rfl⟩
  ·simp only[QF,Ae3]
   have v4:=(hn 4 (by simp[crNNeed])).2;have v5:=(hn 5 (by simp[crNNeed])).2;have v11:=(hn 11 (by simp[crNNeed])).2;rw[v4,v5,v11];have q15:=n15 hS;have e:ND 11 12 15 H (H++[some (.cells (BL ⟨o.name,o.ino⟩))]) H12 H2 S=H++[some (.cells (BL ⟨o.name,o.ino⟩))]:=by unfold ND;rw[q15,hS,(hn 11 (by simp[crNNeed])).1];rfl
   have e2:ND 11 12 15 H (H++[some (.cells (BL ⟨o.name,o.ino⟩))]) H12 H2 (HF S 12)=H12:=by unfold ND;simp[HF,q15]
   rw[e,e2];exact hc
  ·simp only[QF,Ae3]
   have v0:=(hn 0 (by simp[crNNeed])).2;rw[v0];exact⟨rfl,(Gi (by omega) (by omega) (by omega)).symm⟩
  ·simp only[QF,Ae3]
   have v13:=(hn 13 (by simp[crNNeed])).2;rw[v13];exact⟨rfl,(Gi (by omega) (by omega) (by omega)).symm⟩
  ·simp only[QF,Ae3]
   have v14:=(hn 14 (by simp[crNNeed])).2;have v12:=(hn 12 (by simp[crNNeed])).2;rw[v14,v12];have e:ND 11 12 15 H (H++[some (.cells (BL ⟨o.name,o.ino⟩))]) H12 H2 S=H12:=by unfold ND;rw[hS,(hn 12 (by simp[crNNeed])).1];rfl
   have e3:ND 11 12 15 H (H++[some (.cells (BL ⟨o.name,o.ino⟩))]) H12 H2 (HF S 15)=H2:=by unfold ND;simp[HF]
   rw[e,e3]
   show bS (AJ 1 H12 (.ptr oi 0) r) _
   rw[e2,AC];exact⟨rfl,rfl⟩
 ·intro S vals hS
  rw[aU,zddyZ];have:ND 11 12 15 H (H++[some (.cells (BL ⟨o.name,o.ino⟩))]) H12 H2 S=H2:=by unfold ND;rw[if_pos (hS 15 (by rw[aU];omega)).1]
  rw[this];exact hK
def Gw (ino:Int):NdV:=⟨⟨ino,0,[]⟩,Ac,SV.nil⟩
theorem nJ {L oi p k:Nat}{ns:List Nm}{dv:List NdV}{a b bv:AV}{H:AH}{o:OpM}(h:ImH L oi ns dv a b H)(hp:H[p]?=some (some (.cells (By o bv))))(hk:k≤dv.length)(hn:dv.length≤100000):
  ∃r H2,ImH L oi ns (dv.take k++Gw o.ino::dv.drop k) a r H2∧FrL L oi H H2∧∀K:AV→AH→Prop,K (.tup []) H2→L6 (.ptr oi 0) (.ptr p 0) (I k) H K:=by
 have g:=Grew.app H [some (.cells (BB (Gw o.ino)))];have hg:=h.grew g;have hpl:=(B5.1 hp).1;obtain⟨r,H10,hI,hc⟩:=xP (x:=Gw o.ino) (oj:=H.length) hg.sb hg.ob hg.cb hk (by omega) (by simp) (λhh=>by have:=A7 h.sb _ hh;omega);obtain⟨i1,i2,i3,i4,i5,i6⟩:=hI;have el:(dv.take k++Gw o.ino::dv.drop k).length=dv.length+1:=by simp;omega
 obtain⟨H2,e2,n1,n2⟩:=hg.newB (ew:=dv.take k++Gw o.ino::dv.drop k) i3 i4 (by rw[el];exact i2) i1 (by rw[el];exact i6) i5
 have hfr:FrL L oi H H2:=by
  have hle:=h.len;exact⟨Ai8 g.1 n2.1,λj h5 h6=>(n2.2 j h5 h6).trans (g.2 j (by omega))⟩
 let V:Nat→AV:=λi=>([.ptr oi 0,.ptr oi 0,.ptr oi 0,.ptr oi 1,b,I k,.ptr p 1,I o.ino,.agg (BB (Gw o.ino)),.sl H.length 0 1 3 (.ex 1),r,.ptr oi 0,.ptr oi 1,AO]:List AV).getD i AO
 refine⟨r,H2,n1,hfr,λK hK=>nG _ _ _ _ _ ?_⟩;refine ACode.told2 Zk xD (λi=>crDNeed.getD i []) (λi=>(SS (.ptr oi 0) (.ptr p 0) (I k)).getD i (λ_ _ _=>False)) V (ND 9 10 13 H (H++[some (.cells (BB (Gw o.ino)))]) H10 H2) (zddvZ _ _ _) rfl ?_ ?_
 ·intro i hi S vals hS cl hn
  rw[aT]at hi
  have n12:S 4=false→S 10=false:=λh4=>by
   cases h:S 10 with
   | false=>rfl
   | true=>have:=cl 10 h 4 (by simp[crDNeed]);rw[h4]at this;cases this
  have n15:S 10=false→S 13=false:=λh4=>by
   cases h:S 13 with
   | false=>rfl
   | true=>have:=cl 13 h 10 (by simp[crDNeed]);rw[h4]at this;cases this
  have n12':S 9=false→S 10=false:=λh4=>by
   cases h:S 10 with
   | false=>rfl
   | true=>have:=cl 10 h 9 (by simp[crDNeed]);rw[h4]at this;cases this
  have n11:S 7=false→S 9=false:=λh4=>by
   cases h:S 9 with
   | false=>rfl
   | true=>
    have h8:=cl 9 h 8 (by simp[crDNeed])
    have:=cl 8 h8 7 (by simp[crDNeed])
    rw[h4]at this;cases this
  have hcase:i=0∨i=1∨i=2∨i=3∨i=4∨i=5∨i=6∨i=7∨i=8∨i=9∨i=10∨i=11∨i=12∨i=13:=by omega
  rcases hcase with rfl | rfl | rfl | rfl | rfl | rfl | rfl | rfl | rfl | rfl | rfl | rfl | rfl | rfl
  ·simp only[SS,List.getD_cons_zero,Ae2]
   exact⟨rfl,(Gi (by omega) (by omega) (by omega)).symm⟩
  ·simp only[SS,Ae3]
   exact⟨rfl,(Gi (by omega) (by omega) (by omega)).symm⟩
  ·simp only[SS,Ae3]
   have v1:=(hn 1 (by simp[crDNeed])).2;rw[v1];exact⟨rfl,(Gi (by omega) (by omega) (by omega)).symm⟩
  ·simp only[SS,Ae3]
   have v2:=(hn 2 (by simp[crDNeed])).2;rw[v2];exact⟨rfl,(Gi (by omega) (by omega) (by omega)).symm⟩
  ·simp only[SS,Ae3]
   have v3:=(hn 3 (by simp[crDNeed])).2;rw[v3]
   have e:Am false 1 (ND 9 10 13 H (H++[some (.cells (BB (Gw o.ino)))]) H10 H2 S) (V 3)=some b:=by
    have q12:=n12 hS;have q15:=n15 q12
    have:(ND 9 10 13 H (H++[some (.cells (BB (Gw o.ino)))]) H10 H2 S)[oi]?=some (some (.cells [a,b])):=by
     unfold ND;rw[q15,q12];cases S 9 with
     | true=>exact hg.obj
     | false=>exact h.obj
    show Am false 1 _ (.ptr oi 1)=_
    rw[Ah this];rfl
   rw[e];exact⟨rfl,(Gi (by omega) (by omega) (by omega)).symm⟩
  ·simp only[SS,Ae3]
   exact⟨rfl,(Gi (by omega) (by omega) (by omega)).symm⟩
  ·simp only[SS,Ae3]
   exact⟨rfl,(Gi (by omega) (by omega) (by omega)).symm⟩
  ·simp only[SS,Ae3]
   have v6:=(hn 6 (by simp[crDNeed])).2;rw[v6]
   have e:Am false 1 (ND 9 10 13 H (H++[some (.cells (BB (Gw o.ino)))]) H10 H2 S) (V 6)=some (I o.ino):=by
    have q11:=n11 hS;have q12:=n12' q11;have q15:=n15 q12;unfold ND;rw[q15,q12,q11]
    show Am false 1 H (.ptr p 1)=_
    rw[Ah hp];rfl
   rw[e];exact⟨rfl,(Gi (by omega) (by omega) (by omega)).symm⟩
  ·simp only[SS,Ae3]
   have v7:=(hn 7 (by simp[crDNeed])).2;rw[v7];exact⟨rfl,(Gi (by omega) (by omega) (by omega)).symm⟩
  ·simp only[SS,Ae3]
   have v8:=(hn 8 (by simp[crDNeed])).2;rw[v8];have q12:=n12' hS;have q15:=n15 q12;have e:ND 9 10 13 H (H++[some (.cells (BB (Gw o.ino)))]) H10 H2 S=H:=by unfold ND;rw[q15,q12,hS];rfl
   have e2:ND 9 10 13 H (H++[some (.cells (BB (Gw o.ino)))]) H10 H2 (HF S 9)=H++[some (.cells (BB (Gw o.ino)))]:=by unfold ND;simp[HF,q15,q12]
   rw[e,e2];exact⟨rfl,rfl⟩
  ·simp only[SS,Ae3]
   have v4:=(hn 4 (by simp[crDNeed])).2;have v5:=(hn 5 (by simp[crDNeed])).2;have v9:=(hn 9 (by simp[crDNeed])).2;rw[v4,v5,v9];have q15:=n15 hS;have e:ND 9 10 13 H (H++[some (.cells (BB (Gw o.ino)))]) H10 H2 S=H++[some (.cells (BB (Gw o.ino)))]:=by unfold ND;rw[q15,hS,(hn 9 (by simp[crDNeed])).1];rfl
   have e2:ND 9 10 13 H (H++[some (.cells (BB (Gw o.ino)))]) H10 H2 (HF S 10)=H10:=by unfold ND;simp[HF,q15]
   rw[e,e2];exact hc
  ·simp only[SS,Ae3]
   have v0:=(hn 0 (by simp[crDNeed])).2;rw[v0];exact⟨rfl,(Gi (by omega) (by omega) (by omega)).symm⟩
  ·simp only[SS,Ae3]
   have v11:=(hn 11 (by simp[crDNeed])).2;rw[v11];exact⟨rfl,(Gi (by omega) (by omega) (by omega)).symm⟩
  ·simp only[SS,Ae3]
   have v12:=(hn 12 (by simp[crDNeed])).2;have v10:=(hn 10 (by simp[crDNeed])).2;rw[v12,v10];have e:ND 9 10 13 H (H++[some (.cells (BB (Gw o.ino)))]) H10 H2 S=H10:=by unfold ND;rw[hS,(hn 10 (by simp[crDNeed])).1];rfl
   have e3:ND 9 10 13 H (H++[some (.cells (BB (Gw o.ino)))]) H10 H2 (HF S 13)=H2:=by unfold ND;simp[HF]
   rw[e,e3]
   show bS (AJ 1 H10 (.ptr oi 1) r) _
   rw[e2,AC];exact⟨rfl,rfl⟩
 ·intro S vals hS
  rw[aT,zddwZ];have:ND 9 10 13 H (H++[some (.cells (BB (Gw o.ino)))]) H10 H2 S=H2:=by unfold ND;rw[if_pos (hS 13 (by rw[aT];omega)).1]
  rw[this];exact hK
def wB (L oi:Nat)(H:AH)(ns:List Nm)(dv:List NdV)(r:AV)(H':AH):Prop:=r=.tup []∧∃a b,ImH L oi ns dv a b H'∧FrL L oi H H'
def T5 (ns:List Nm)(dv:List NdV)(o:OpM):Prop:=¬AT Nm.name ns o.name∧¬AT NdV.ino dv o.ino∧DK o.name∧1≤o.ino∧o.ino≤4611686018427387904∧ns.length<16
instance (ns:List Nm) (dv:List NdV) (o:OpM):Decidable (T5 ns dv o):=by unfold T5;infer_instance
def eG (ns:List Nm)(dv:List NdV)(o:OpM):List Nm:=if T5 ns dv o then FD Bd Nm.name ns ⟨o.name,o.ino⟩else ns
def eF (ns:List Nm)(dv:List NdV)(o:OpM):List NdV:=if T5 ns dv o then FD B8 NdV.ino dv (Gw o.ino)else dv
theorem rV {L oi:Nat}{ns:List Nm}{dv:List NdV}{a b:AV}{H:AH}(h:ImH L oi ns dv a b H)(o:OpM){bv:AV}(hb:oneA bv=true):∃H1,A9 H (.agg (By o bv))=some (.ptr H.length 0,H1)∧H1[H.length]?=some (some (.cells (By o bv)))∧ImH L oi ns dv a b H1∧FrL L oi H H1:=by
 have g:=Grew.app H [some (.cells (By o bv))];have hle:=h.len;exact⟨_,by simp[By,hb],by simp,h.grew g,g.1,λj h1 h2=>g.2 j (by omega)⟩
theorem eH {L oi:Nat}{ns:List Nm}{dv:List NdV}{a b bv:AV}{H H1:AH}{o:OpM}(h:ImH L oi ns dv a b H)(e1:A9 H (.agg (By o bv))=some (.ptr H.length 0,H1))(hp:H1[H.length]?=some (some (.cells (By o bv))))(h1:ImH L oi ns dv a b H1)
  (hs:Cn Bd Nm.name ns) (hd:Cn B8 NdV.ino dv) (hn:ns.length≤100000) (hm:dv.length≤100000) (hnm:o.name.length≤1000000000) {K:AV→AH→Prop} (hno:¬T5 ns dv o→K (.tup []) H1) (hyes:T5 ns dv o→Iq (.ptr oi 0) (.ptr H.length 0) (I (CX Bd Nm.name ns o.name)) (I (CX B8 NdV.ino dv o.ino)) H1 K):
  Mb (.ptr oi 0) (.agg (By o bv)) H K:=by
 obtain⟨Ra,Rb,sa,sb,fz⟩:=h1.lend;have c0:=h1.obj;unfold Mb;simp only[e1,AA];have b0:Aq true 2 [a,b] 0=some (.agg [a,b]):=rfl;simp[hp,c0,b0,By];refine bC_of (PCall.lend (FZs.cons fz (FZs.cons (FZ.lit _) FZs.nil)) rfl (Vl sa sb hs (by omega) o.name)).call ?_;simp[hp,c0,b0,By];refine bC_of (PCall.lend (FZs.cons fz (FZs.cons (FZ.lit _) FZs.nil)) rfl (Y1 sa sb hd (by omega) o.ino)).call ?_
 by_cases q1:AT Nm.name ns o.name
 ·simp[q1]
  exact hno λhc=>hc.1 q1
 ·by_cases q2:AT NdV.ino dv o.ino
  ·simp[q1,q2]
   exact hno λhc=>hc.2.1 q2
  ·simp[q1,q2,hp,By]
   refine As (OU (s:=o.name) (by omega)) ?_
   by_cases q3:DK o.name
   ·by_cases q4:o.ino<1
    ·simp[q3,q4,hp,By]
     exact hno λhc=>by have:=hc.2.2.2.1;omega
    ·by_cases q5:4611686018427387904<o.ino
     ·simp[q3,q4,q5,hp,By]
      exact hno λhc=>by have:=hc.2.2.2.2.1;omega
     ·have ln:=CU h1.sa
      by_cases q6:16≤ns.length
      ·have q6':(16:Int)≤ns.length:=by omega
       simp[q3,q4,q5,hp,By,c0,ln,q6'];exact hno λhc=>by have:=hc.2.2.2.2.2;omega
      ·have q6':¬(16:Int)≤ns.length:=by omega
       simp[q3,q4,q5,hp,By,c0,ln,q6'];exact hyes ⟨q1,q2,q3,by omega,by omega,by omega⟩
   ·simp[q3]
    exact hno λhc=>q3 hc.2.2.1
theorem qO {L oi:Nat}{ns:List Nm}{dv:List NdV}{a b bv:AV}{H:AH}{o:OpM}(h:ImH L oi ns dv a b H)(hs:Cn Bd Nm.name ns)(hd:Cn B8 NdV.ino dv)(hb:oneA bv=true)(hn:ns.length≤100000)(hm:dv.length≤100000)(hnm:o.name.length≤1000000000):
  ∃r H',wB L oi H (eG ns dv o) (eF ns dv o) r H'∧BCall prog 145 [.ptr oi 0,.agg (By o bv)] H r H':=by
 obtain⟨H1,e1,hp,h1,f1⟩:=rV h o hb;have hpl:H.length≠oi:=by have:=(B5.1 h.obj).1;omega
 have hpa:H.length∉Bl a:=λhh=>by have:=A7 h.sa _ hh;omega
 by_cases hc:T5 ns dv o
 ·obtain⟨r,H2,h2,f2,g2,w2⟩:=nI h1 hp hpl hpa (Xw (c:=Bd) (key:=Nm.name) ns o.name) hn
  obtain⟨r2,H3,h3,f3,w3⟩:=nJ h2 (g2.trans hp) (Xw (c:=B8) (key:=NdV.ino) dv o.ino) hm;refine⟨.tup [],H3,⟨rfl,r,r2,?_,f1.trans (f2.trans f3)⟩,Q5 (eH h e1 hp h1 hs hd hn hm hnm (λq=>absurd hc q) λ_=>w2 _ _ ?_)⟩
  ·unfold eG eF
   rw[if_pos hc,if_pos hc];exact h3
  ·rw[Uj]
   unfold Oh;exact w3 _ ⟨rfl,rfl⟩
 ·refine⟨.tup [],H1,⟨rfl,a,b,?_,f1⟩,Q5 (eH h e1 hp h1 hs hd hn hm hnm (λ_=>⟨rfl,rfl⟩) λq=>absurd q hc)⟩
  unfold eG eF;rw[if_neg hc,if_neg hc];exact h1
def Fa (ns:List Nm)(s:List UInt8):List Nm:=if AT Nm.name ns s then Dn Bd Nm.name ns s else ns
def So (ns:List Nm)(dv:List NdV)(s:List UInt8):List NdV:=if AT Nm.name ns s then Dn B8 NdV.ino dv (CD ns s)else dv
theorem fZ {L oi:Nat}{ns:List Nm}{dv:List NdV}{a b:AV}{H:AH}{s:List UInt8}(h:ImH L oi ns dv a b H)(hs:Cn Bd Nm.name ns)(hd:Cn B8 NdV.ino dv)(hx:∀x∈ns,AT NdV.ino dv x.ino)(hn:ns.length≤100000)(hm:dv.length≤100000):
  ∃r H',wB L oi H (Fa ns s) (So ns dv s) r H'∧BCall prog 148 [.ptr oi 0,S (B0 s)] H r H':=Xg (by
 obtain⟨Ra,Rb,sa,sb,fz⟩:=h.lend;have c0:=h.obj;unfold Vg;have b0:Aq true 2 [a,b] 0=some (.agg [a,b]):=rfl;simp[c0,b0];refine bC_of (PCall.lend (FZs.cons fz (FZs.cons (FZ.lit _) FZs.nil)) rfl (Vl sa sb hs (by omega) s)).call ?_
 by_cases q:AT Nm.name ns s
 ·obtain⟨x,hx1,hx2,hx3⟩:=FM koN hs q
  obtain⟨o,off,cells,u1,u2,u3,u4,u5,-⟩:=Sk BF (by omega) h.sa h.oa hx1;have u51:=u5 1 (by omega);have hk:=hx x (Ag9 hx1);have hkl:=UT koI hd hk;have hpl:=(B5.1 hx1).1;have e1:Fa ns s=Dn Bd Nm.name ns s:=if_pos q;have e2:So ns dv s=Dn B8 NdV.ino dv x.ino:=by unfold So CD;rw[if_pos q,hx2]
  simp[q,c0,b0,u1,u3,u51,BL];refine bC_of (PCall.lend (FZs.cons fz (FZs.cons (FZ.lit _) FZs.nil)) rfl (Y1 sa sb hd (by omega) x.ino)).call ?_;simp[c0,Ax (a:=(CX Bd Nm.name ns s:Nat)) (b:=1) (by omega) (by omega)];obtain⟨r1,H2,⟨d1,d2,d3,d4,d5,d6⟩,d7⟩:=qR h.sa h.oa h.ca hpl (by omega);refine bC_of d7 ?_;have l1:=Ro (c:=Bd) (key:=Nm.name) (k:=s) hpl;obtain⟨H3,e3,n1,n2⟩:=h.newA (ms:=Dn Bd Nm.name ns s) (Ar2 d3.symm) (λi _ hi=>d4 i hi) (by rw[show(Dn Bd Nm.name ns s).length=ns.length - 1 by omega];exact d2) d1 (by rw[show(Dn Bd Nm.name ns s).length=ns.length - 1 by omega];exact d6) (λi hi=>.inl (d5▸hi));have c3:=n1.obj;simp[e3,c3,Ax (a:=(CX B8 NdV.ino dv x.ino:Nat)) (b:=1) (by omega) (by omega)];obtain⟨r2,H4,⟨g1,g2,g3,g4,g5,g6⟩,g7⟩:=xH n1.sb n1.ob n1.cb hkl (by omega);refine bC_of g7 ?_;have l2:=Ro (c:=B8) (key:=NdV.ino) (k:=x.ino) hkl;obtain⟨H5,e5,m1,m2⟩:=n1.newB (ew:=Dn B8 NdV.ino dv x.ino) (Ar2 g3.symm) (λi _ hi=>g4 i hi) (by rw[show(Dn B8 NdV.ino dv x.ino).length=dv.length - 1 by omega];exact g2) g1 (by rw[show(Dn B8 NdV.ino dv x.ino).length=dv.length - 1 by omega];exact g6) (λi hi=>.inl (g5▸hi));simp[e5];rw[e1,e2];exact⟨rfl,_,_,m1,n2.trans m2⟩
 ·simp[q]
  refine⟨rfl,a,b,?_,FrL.refl _ _ _⟩;unfold Fa So;rw[if_neg q,if_neg q];exact h)
def Sf (pos n:Int):Prop:=0≤pos∧1≤n∧n≤1099511627776∧pos≤1099511627776 - n
instance (pos n:Int):Decidable (Sf pos n):=by unfold Sf;infer_instance
theorem TC (pos n:Int):BPure prog 158 [I pos,I n] (B (decide (Sf pos n))):=BPure.flat λH=>Ya (by
 unfold W7 Sf
 by_cases h1:0≤pos
 ·by_cases h2:1≤n
  ·by_cases h3:n≤1099511627776
   ·simp[h1,h2,h3,Bv (a:=1099511627776) (b:=n) (by omega) (by omega)]
   ·simp[h1,h2,h3]
  ·simp[h1,h2]
 ·simp[h1])
theorem NU {size:Int}{l:List Ext}{v:AV}(hv:SV A6 9 l v)(hl:l.length≤1000000)(pos n:Int)(keep:Bool):
  ∃R,SV A6 9 (cL (BU (size,l) pos n keep)) R∧BPure prog 104 [.agg [I size,v],I pos,I n,B keep] (.tup [.agg [I (cS (BU (size,l) pos n keep)),R],B (BU (size,l) pos n keep).isSome]):=by
 refine BPure.cont (by simp[Az,noIds,hv.1]) (TZ ?_);unfold Qp;simp[CE hv,Aq];refine As (EI hv (by omega)) ?_
 by_cases h1:Dj size l
 ·simp[h1]
  refine As (TC pos n) ?_
  by_cases h2:Sf pos n
  ·by_cases h3:32768<n
   ·have hn:BU (size,l) pos n keep=none:=if_neg (λh=>by omega)
    simp[h2,h3,AJ];exact ContK.none hn
   ·obtain⟨g1,g2,g3,g4⟩:=h2
    have hw:BU (size,l) pos n keep=some (if keep then size else max size (pos+n),Mt l pos n):=if_pos ⟨h1,g1,g2,by omega,g4⟩;simp[show Sf pos n from⟨g1,g2,g3,g4⟩,h3];obtain⟨r,H2,⟨w,rfl,a2,a3,a4,a5⟩,a1⟩:=UD (size:=size) (hv.2 [some (.cells [I size,v]),some (.cells [I 0,Ac])]) (CE hv) (by omega);refine bC_of a1 ?_;have c0:=a4.cells (o:=0) (x:=some (.cells [I size,v])) rfl;have c1:=a4.cells (o:=1) (x:=some (.cells [I 0,Ac])) rfl;have hl2:=a4.1;simp only[Aa4]at hl2;have hwo:=AI a2;have id0:∀j,j<2→j∉Bl w:=λj hj h=>by have:=a5 j h;simp at this;omega
    rw[AF (n:=2) (off:=0) (x:=.agg [I size,w]) (xs:=[I size,w]) (by simp[hwo]) c0 rfl (by simp)];simp[Ky (a:=pos) (b:=8) (by omega) (by omega) (by omega)];have hs0:=Is h1.2.2;have hN:allocN pos n≤4098:=by unfold allocN;omega
    refine Pc (λm x1 x2 x3 x4 x8 x10 H=>∃(d:Nat) (w:AV),d+m=allocN pos n∧x1=I pos∧x2=I n∧x3=B keep∧x4=.ptr 0 0∧x8=.ptr 1 0∧x10=I (pos/8+d)∧H[0]?=some (some (.cells [I size,w]))∧H[1]?=some (some (.cells [I 0,Ac]))∧
     Ad H 9 w=some ((Hh l (pos/8) d).flatMap A6,(Hh l (pos/8) d).length)∧Bh w=true∧(∀j,j<2→j∉Bl w)) ?_ (allocN pos n)
     ⟨0,w,by simp,rfl,rfl,rfl,rfl,rfl,by simp,KI (by omega),(Cg (by omega)).trans c1,?_,a2,id0⟩
    ·rintro m x1 x2 x3 x4 x8 x10 H R hR ⟨d,w,hdn,rfl,rfl,rfl,rfl,rfl,rfl,k0,k1,kw,ko,kid⟩
     unfold KG;have hH0:=(B5.1 k0).1;have hH1:=(B5.1 k1).1;simp[Ax (a:=pos) (b:=n) (by omega) (by omega),Bv (a:=pos+n) (b:=1) (by omega) (by omega),Ky (a:=pos+n - 1) (b:=8) (by omega) (by omega) (by omega)]
     by_cases hd:d<allocN pos n
     ·have hc:pos/8+(d:Int)≤(pos+n - 1)/8:=by unfold allocN at hd;omega
      have hws:=bU (k:=d) hs0 (pos/8);have hlen:=bR (k:=d) (l:=l) (no:=pos/8);obtain⟨H11,⟨w',q1,q2,q3,q4,q5,q6,q7⟩,q8⟩:=RL (no:=pos/8+d) k0 kw ko (kid 0 (by omega)) hws (by omega);simp[hc];refine bC_of q8 ?_;have hid':∀i,i<H.length→i∉Bl w→i∉Bl w':=λi h1 h2 h3=>(q7 i h3).elim h2 (λh=>by omega)
      simp[Ax (a:=pos/8+d) (b:=1) (by omega) (by omega)];refine hR (m - 1) _ _ _ _ _ _ _ (by omega) ⟨d+1,w',by omega,rfl,rfl,rfl,rfl,rfl,by rw[show pos/8+(d:Int)+1=pos/8+((d+1:Nat):Int) by omega],q1,?_,?_,q3,λi hi=>hid' i (by omega) (kid i hi)⟩
      ·rw[q6 1 hH1 (by omega) (kid 1 (by omega))];exact k1
      ·rw[bV];exact q2
     ·have hd':d=allocN pos n:=by omega
      subst hd';have hc:¬pos/8+((allocN pos n:Nat):Int)≤(pos+n - 1)/8:=by unfold allocN;omega
      have hko:=AI ko
      have tail:∀s H2,H2.length=H.length→H2[0]?=some (some (.cells [I s,w]))→H2[1]?=some (some (.cells [I 0,Ac]))→Ad H2 9 w=some ((Mt l pos n).flatMap A6,(Mt l pos n).length)→BU (size,l) pos n keep=some (s,Mt l pos n)→Fi (.ptr 0 0) (.ptr 1 0) H2 (ContK (BU (size,l) pos n keep)):=by
       intro s H2 hl2 e0 e1 e2 e3;rw[PZ];unfold JQ;simp[-C6,Ah e0,Aq];rw[AF (n:=2) (off:=0) (xs:=[I s,w]) (cs:=[I 0,Ac]) (by simp[hko]) e1 rfl (by simp)];simp[show 1<H2.length by omega,Aq]
       exact ContK.some e3 (Af e2 λi hi=>by
        have h2:2≤i:=Aj9 λh=>kid i h hi
        rw[Cg (by omega)])
      simp[hc];cases keep with
      | true=>
       simp;exact tail size H rfl k0 k1 kw hw
      | false=>
       have hmx:max (pos+n) size=max size (pos+n):=by omega
       simp[k0,hmx];rw[AF (n:=1) (off:=0) (xs:=[I (max size (pos+n))]) (cs:=[I size,w]) rfl k0 rfl (by simp)];simp
       refine tail _ _ (by simp) (KI hH0) ((Cg (by omega)).trans k1) (Af kw λi hi=>by
        have h2:2≤i:=Aj9 λh=>kid i h hi
        rw[Cg (by omega)]) hw
    ·exact Af a3 λi hi=>by
      have h2:2≤i:=Aj9 λh=>id0 i h hi
      rw[Cg (by omega)]
  ·have hn:BU (size,l) pos n keep=none:=if_neg (λh=>h2 ⟨h.2.1,h.2.2.1,by omega,h.2.2.2.2⟩)
   simp[h2,AJ];exact ContK.none hn
 ·have hn:BU (size,l) pos n keep=none:=if_neg (λh=>h1 h.1)
  simp[h1,AJ];exact ContK.none hn
theorem JR {size:Int}{l:List Ext}{v:AV}(hv:SV A6 9 l v)(hl:l.length≤1000000)(pos n:Int)(keep:Bool):
  ∃R,SV A6 9 (cL (BU (size,l) pos n keep)) R∧BPure prog 125 [.agg [I size,v],I pos,I n,B keep] (.tup [.agg [I (cS (BU (size,l) pos n keep)),R],B (BU (size,l) pos n keep).isSome]):=by
 refine BPure.cont (by simp[Az,noIds,hv.1]) (Kt ?_);unfold Gk;simp[CE hv,Aq];refine As (C4 hv (by omega)) ?_
 by_cases h1:Dj size l
 ·by_cases h2:Sf pos n
  ·by_cases h3:32768<n
   ·have hn:BU (size,l) pos n keep=none:=if_neg (λh=>by omega)
    obtain⟨g1,g2,g3,g4⟩:=h2;simp[h1,show ¬pos<0 by omega,show ¬n<1 by omega,h3,AJ];exact ContK.none hn
   ·obtain⟨g1,g2,g3,g4⟩:=h2
    have hw:BU (size,l) pos n keep=some (if keep then size else max size (pos+n),Mt l pos n):=if_pos ⟨h1,g1,g2,by omega,g4⟩;simp[h1,show ¬pos<0 by omega,show ¬n<1 by omega,h3,Bv (a:=1099511627776) (b:=n) (by omega) (by omega),show ¬1099511627776 - n<pos by omega];obtain⟨r,H2,⟨w,rfl,a2,a3,a4,a5⟩,a1⟩:=Qf (size:=size) (hv.2 [some (.cells [I size,v]),some (.cells [I 0,Ac])]) (CE hv) (by omega);refine bC_of a1 ?_;have c0:=a4.cells (o:=0) (x:=some (.cells [I size,v])) rfl;have c1:=a4.cells (o:=1) (x:=some (.cells [I 0,Ac])) rfl;have hl2:=a4.1;simp only[Aa4]at hl2;have hwo:=AI a2;have id0:∀j,j<2→j∉Bl w:=λj hj h=>by have:=a5 j h;simp at this;omega
    rw[AF (n:=2) (off:=0) (x:=.agg [I size,w]) (xs:=[I size,w]) (by simp[hwo]) c0 rfl (by simp)];simp[Ky (a:=pos) (b:=8) (by omega) (by omega) (by omega)];have hs0:=Is h1.2.2;have hN:allocN pos n≤4098:=by unfold allocN;omega
    refine HQ (λm x1 x2 x3 x4 x8 x10 H=>∃(d:Nat) (w:AV),d+m=allocN pos n∧x1=I pos∧x2=I n∧x3=B keep∧x4=.ptr 0 0∧x8=.ptr 1 0∧x10=I (pos/8+d)∧H[0]?=some (some (.cells [I size,w]))∧H[1]?=some (some (.cells [I 0,Ac]))∧
     Ad H 9 w=some ((Hh l (pos/8) d).flatMap A6,(Hh l (pos/8) d).length)∧Bh w=true∧(∀j,j<2→j∉Bl w)) ?_ (allocN pos n)
     ⟨0,w,by simp,rfl,rfl,rfl,rfl,rfl,by simp,KI (by omega),(Cg (by omega)).trans c1,?_,a2,id0⟩
    ·rintro m x1 x2 x3 x4 x8 x10 H R hR ⟨d,w,hdn,rfl,rfl,rfl,rfl,rfl,rfl,k0,k1,kw,ko,kid⟩
     unfold EL;have hH0:=(B5.1 k0).1;have hH1:=(B5.1 k1).1;have hub:allocN pos n=((pos+n - 1)/8 - pos/8+1).toNat:=rfl;simp[Ax (a:=pos) (b:=n) (by omega) (by omega),D3 (a:=pos/8+d) (b:=8) (by omega) (by omega)]
     by_cases hd:d<allocN pos n
     ·have hc:(pos/8+(d:Int))*8<pos+n:=by unfold allocN at hd;omega
      have hws:=bU (k:=d) hs0 (pos/8);have hlen:=bR (k:=d) (l:=l) (no:=pos/8);obtain⟨H11,⟨w',q1,q2,q3,q4,q5,q6,q7⟩,q8⟩:=WL (no:=pos/8+d) k0 kw ko (kid 0 (by omega)) hws (by omega);simp[hc];refine bC_of q8 ?_;have hid':∀i,i<H.length→i∉Bl w→i∉Bl w':=λi h1 h2 h3=>(q7 i h3).elim h2 (λh=>by omega)
      simp[Ax (a:=pos/8+d) (b:=1) (by omega) (by omega)];refine hR (m - 1) _ _ _ _ _ _ _ (by omega) ⟨d+1,w',by omega,rfl,rfl,rfl,rfl,rfl,by rw[show pos/8+(d:Int)+1=pos/8+((d+1:Nat):Int) by omega],q1,?_,?_,q3,λi hi=>hid' i (by omega) (kid i hi)⟩
      ·rw[q6 1 hH1 (by omega) (kid 1 (by omega))];exact k1
      ·rw[bV];exact q2
     ·have hd':d=allocN pos n:=by omega
      subst hd';have hc:¬(pos/8+((allocN pos n:Nat):Int))*8<pos+n:=by unfold allocN;omega
      have hko:=AI ko
      have tail:∀s H2,H2.length=H.length→H2[0]?=some (some (.cells [I s,w]))→H2[1]?=some (some (.cells [I 0,Ac]))→Ad H2 9 w=some ((Mt l pos n).flatMap A6,(Mt l pos n).length)→BU (size,l) pos n keep=some (s,Mt l pos n)→Cq (.ptr 0 0) (.ptr 1 0) H2 (ContK (BU (size,l) pos n keep)):=by
       intro s H2 hl2 e0 e1 e2 e3;rw[Iv];unfold E8;simp[-C6,Ah e0,Aq];rw[AF (n:=2) (off:=0) (xs:=[I s,w]) (cs:=[I 0,Ac]) (by simp[hko]) e1 rfl (by simp)];simp[show 1<H2.length by omega,Aq]
       exact ContK.some e3 (Af e2 λi hi=>by
        have h2:2≤i:=Aj9 λh=>kid i h hi
        rw[Cg (by omega)])
      simp[hc];cases keep with
      | true=>
       simp;exact tail size H rfl k0 k1 kw hw
      | false=>
       have hmx:max (pos+n) size=max size (pos+n):=by omega
       simp[k0,hmx];rw[AF (n:=1) (off:=0) (xs:=[I (max size (pos+n))]) (cs:=[I size,w]) rfl k0 rfl (by simp)];simp
       refine tail _ _ (by simp) (KI hH0) ((Cg (by omega)).trans k1) (Af kw λi hi=>by
        have h2:2≤i:=Aj9 λh=>kid i h hi
        rw[Cg (by omega)]) hw
    ·exact Af a3 λi hi=>by
      have h2:2≤i:=Aj9 λh=>id0 i h hi
      rw[Cg (by omega)]
  ·have hn:BU (size,l) pos n keep=none:=if_neg (λh=>h2 ⟨h.2.1,h.2.2.1,by omega,h.2.2.2.2⟩)
   by_cases g1:pos<0
   ·simp[h1,g1,AJ]
    exact ContK.none hn
   ·by_cases g2:n<1
    ·simp[h1,g1,g2,AJ]
     exact ContK.none hn
    ·by_cases g3:32768<n
     ·simp[h1,g1,g2,g3,AJ]
      exact ContK.none hn
     ·have g4:1099511627776 - n<pos:=Int.lt_of_not_ge λh=>h2 ⟨by omega,by omega,by omega,h⟩
      simp[h1,g1,g2,g3,Bv (a:=1099511627776) (b:=n) (by omega) (by omega),g4,AJ];exact ContK.none hn
 ·have hn:BU (size,l) pos n keep=none:=if_neg (λh=>h1 h.1)
  simp[h1,AJ];exact ContK.none hn
theorem FZ.fn {X:AH}{k:Fn}{a b a' b':List AV}(ha:FZs X a a')(hb:FZs X b b'):FZ X (.fn k a b) (.fn k a' b'):=by
 obtain⟨n0,h0⟩:=ha;obtain⟨n1,h1⟩:=hb;refine⟨n0+n1+1,λn hn=>?_⟩;cases n with
 | zero=>omega
 | succ n=>simp only[NC,h0 n (by omega),h1 n (by omega)]
theorem FZs.same {X:AH}{vs:List AV}(h:Az vs=true):FZs X vs vs:=EV X vs h
theorem FZ.ptr {X:AH}{o off:Nat}{cs Rs:List AV}(ho:X[o]?=some (some (.cells cs)))(h:FZs X (cs.drop off) Rs):FZ X (.ptr o off) (.ip Rs):=by
 obtain⟨n0,h0⟩:=h;refine⟨n0+1,λn hn=>?_⟩;cases n with
 | zero=>omega
 | succ n=>simp only[NC,ho,h0 n (by omega)];rfl
theorem yK {α:Type}{enc:α→List AV}{sz:Nat}(hsz:∀x,(enc x).length=sz)(h0:0<sz){H:AH}{w x:AV}{l:List α}{y:α}{i:Nat}{a:Int}(hw:Ad H sz w=some (l.flatMap enc,l.length))(ho:Bh w=true)(hi:i<l.length)(ha:a=i)(hx:DA x=some (enc y)):
  ∃p H',Bq sz w (I a)=some p∧AJ sz H p x=some H'∧H'.length=H.length∧(∀j,j∉Bl w→H'[j]?=H[j]?)∧Ad H' sz w=some ((l.set i y).flatMap enc,l.length):=by
 subst ha;obtain⟨o,off,cap,cells,rfl,h1,h2,h3⟩:=HN hw ho (by omega);have hol:=(B5.1 h1).1;have hmul:i*sz+sz≤l.length*sz:=by rw[← Ak8];exact Ah7 _ hi
 have hy:=hsz y;have hl:=DJ hi;have hll:=hsz (l[i]);refine⟨.ptr o (off+i*sz),H.set o (some (.cells (BS cells (off+(i*sz+0)) (enc y)))),?_,?_,by simp,λj hj=>Cg (by simp[Bl]at hj;omega),?_⟩
 ·simp only[Bq,L3]
  rw[if_pos ⟨by omega,by omega⟩];simp
 ·rw[AF (n:=sz) (off:=off+i*sz) (xs:=enc y) hx h1 hy (by omega),Hb _ _ _ (by omega)];rfl
 ·rw[Bo (c:=BS cells (off+(i*sz+0)) (enc y)) (by simp[hol]) (by rw[HM (by omega)];exact h2)]
  rw[Pw h2 (by omega),← h3,Pv (q:=0) hsz hl (by unfold BS;rw[Ao1,Am1,Aj8 (by omega),Ak6]) (by omega)]
def Yd (p:Ext→Bool)(l:List Ext):Int:=match l.findIdx? p with
 | some i=>i
 | none=> -1
def tF (k:FuncId)(oc:Nat)(c:List AV)(l:List Ext)(p:Ext→Bool):Prop:=
 C3 prog k=true∧Az c=true∧∀x∈l,∀(H:AH) (a:AV),(a=.ip c∨(a=.ptr oc 0∧H[oc]?=some (some (.cells c))))→∃H',Grew H H'∧BCall prog k [.agg (A6 x),a] H (B (p x)) H'
theorem WU {k:FuncId}{oc:Nat}{c:List AV}{l:List Ext}{p:Ext→Bool}{R:AV}(hR:SV A6 9 l R)(hl:l.length≤281474976710656)(hd:tF k oc c l p):
  BPure prog 173 [R,.fn (.func k) [] [.ip c]] (I (Yd p l)):=BPure.val (by simp[Az,noIds,hR.1,hd.2.1]) rfl (DY (by
 unfold De;simp[hR.len];refine Dt (λn x0 x1 x7 x8 H=>∃j:Nat,j+n=l.length∧x0=R∧x1=.fn (.func k) [] [.ip c]∧x7=I l.length∧x8=I j∧∀m x,m<j→l[m]?=some x→p x=false) ?_ l.length ⟨0,by simp,rfl,rfl,rfl,rfl,by simp⟩;rintro n x0 x1 x7 x8 H R' hR' ⟨j,hj,rfl,rfl,rfl,rfl,hm⟩;unfold Cw;rcases Ah2 j l.length with hlt | hge
 ·have hx:=DJ hlt
  generalize l[j]=y at hx;obtain⟨H',g,hc⟩:=hd.2.2 y (Ag9 hx) H (.ip c) (.inl rfl);simp[hlt,hR.idx AB hx rfl,hd.1];refine bC_of hc ?_;cases hp:p y with
  | true=>
   have:l.findIdx? p=some j:=by
    rw[Am6];obtain⟨h1,h2⟩:=B5.1 hx;refine⟨h1,by rw[h2];exact hp,λi hi=>?_⟩
    have:=hm i _ hi (DJ (by omega))
    simp[this]
   simp[Yd,this]
  | false=>
   simp[Ax (a:=j) (b:=1) (by omega) (by omega)];refine hR' (n - 1) _ _ _ _ _ (by omega) ⟨j+1,by omega,rfl,rfl,rfl,rfl,λm x hmj hx2=>?_⟩
   by_cases h:m=j
   ·subst h;rw[hx]at hx2;injection hx2 with hx2;rw[← hx2];exact hp
   ·exact hm m x (by omega) hx2
 ·have:l.findIdx? p=none:=by
   rw[Am2];intro x hx;obtain⟨m,hmx⟩:=Ai1.1 hx;exact hm m x (by have:=(B5.1 hmx).1;omega) hmx
  have hjl:¬j<l.length:=by omega
  simp[hjl,Yd,this]))
theorem eP {p:Ext→Bool}{l:List Ext}(h:∀x∈l,p x=false):l.filter (λx=>!p x)=l:=List.filter_eq_self.2 λx hx=>by simp[h x hx]
abbrev Ap8:=@List.filter_append
theorem Pb {H:AH}{v:AV}{l:List Ext}{k:FuncId}{oc:Nat}{c:List AV}{p:Ext→Bool}(hv:Ad H 9 v=some (l.flatMap A6,l.length))(ho:Bh v=true)(hl:l.length≤1000000)(hc:H[oc]?=some (some (.cells c)))(hne:oc∉Bl v)(hd:tF k oc c l p):
  ∃r H',(Bh r=true∧Ad H' 9 r=some ((l.filter λx=>!p x).flatMap A6,(l.filter λx=>!p x).length)∧H.length≤H'.length∧(∀i,i<H.length→i∉Bl v→H'[i]?=H[i]?)∧∀i∈Bl r,i∈Bl v)∧
   BCall prog 155 [v,.fn (.func k) [] [.ptr oc 0]] H r H':=GZ (by
 unfold Ew;obtain⟨R,hR,fR⟩:=FZ.sv hv (WF l);have fc:FZ H (.fn (.func k) [] [.ptr oc 0]) (.fn (.func k) [] [.ip c]):=FZ.fn FZs.nil (FZs.cons (FZ.ptr hc (FZs.same hd.2.1)) FZs.nil);refine bP_of (PCall.lend (FZs.cons fR (FZs.cons fc FZs.nil)) rfl (WU hR (by omega) hd)) ?_;cases hf:l.findIdx? p with
 | none=>
  rw[Am2]at hf;simp[Yd,Am2.2 hf];rw[eP hf];exact⟨ho,hv⟩
 | some i0=>
  obtain⟨h1,h2,h3⟩:=Am6.1 hf;have hoc:=(B5.1 hc).1;simp[Yd,hf,show ¬(i0:Int)= -1 by omega,Ax (a:=i0) (b:=1) (by omega) (by omega)]
  have ht:(l.take (i0+1)).filter (λx=>!p x)=l.take i0:=by
   rw[Aj6,Ap8,DJ h1];simp[h2];intro x hx;obtain⟨m,hm⟩:=Ai1.1 hx;have hml:=(B5.1 hm).1;rw[Ah1]at hml;rw[Ah5,if_pos (by omega)]at hm
   have:=h3 m (by omega)
   obtain⟨q1,q2⟩:=B5.1 hm;rw[q2]at this
   simpa using this
  refine FG (λn x0 x1 x5 x6 H'=>∃(i j:Nat) (M:List Ext),j+n=l.length∧i<j∧x0=v∧x1=.fn (.func k) [] [.ptr oc 0]∧x5=I i∧x6=I j∧M.length=l.length∧M.take i=(l.take j).filter (λx=>!p x)∧M.drop j=l.drop j∧
   Ad H' 9 v=some (M.flatMap A6,M.length)∧H'[oc]?=some (some (.cells c))∧H.length≤H'.length∧∀i,i<H.length→i∉Bl v→H'[i]?=H[i]?) ?_ (l.length - (i0+1))
   ⟨i0,i0+1,l,by omega,by omega,rfl,rfl,rfl,rfl,rfl,ht.symm,rfl,hv,hc,Ah3 _,λ_ _ _=>rfl⟩
  rintro n x0 x1 x5 x6 H' R' hR' ⟨i,j,M,hj,hij,rfl,rfl,rfl,rfl,hM,hMt,hMd,hw,hc',hle,hk⟩;unfold D2;rcases Ah2 j l.length with hlt | hge
  ·have hx:=DJ hlt
   generalize l[j]=y at hx
   have hMx:M[j]?=some y:=by
    have:=congrArg (λq=>q[0]?) hMd
    simp only[Ah6,Al9]at this;rw[this];exact hx
   obtain⟨q,-,e1,-,-,e2⟩:=mD (a:=j) hw hMx rfl;have hoc':=(B5.1 hc').1;have gA:=Grew.app H' [some (.cells (A6 y))];obtain⟨H10,g,hcl⟩:=hd.2.2 y (Ag9 hx) (H'++[some (.cells (A6 y))]) (.ptr oc 0) (.inr ⟨rfl,gA.cells hc'⟩);have gB:=gA.trans g;have z:=g.cells (o:=H'.length) (x:=some (.cells (A6 y))) (by simp);simp[CU hw,hM,hlt,e1,e2,hd.1,-C6];rw[Zy (by simp) (by rfl)];simp;refine bC_of hcl ?_
   have hdrop:M.drop (j+1)=l.drop (j+1):=by
    have:=congrArg (List.drop 1) hMd
    rw[An0,An0]at this;exact this
   have hkeepB:∀i,i<H.length→i∉Bl x0→H10[i]?=H[i]?:=λi h1 h2=>by rw[gB.2 i (by omega),hk i h1 h2]
   cases hp:p y with
   | true=>
    simp;rw[Dr];unfold Cd;simp[Ax (a:=j) (b:=1) (by omega) (by omega)];refine hR' (n - 1) _ _ _ _ _ (by omega) ⟨i,j+1,M,by omega,by omega,rfl,rfl,rfl,rfl,hM,?_,hdrop,gB.slice hw,gB.cells hc',by have:=gB.1;omega,hkeepB⟩;rw[Aj6,Ap8,← hMt,hx];simp[hp]
   | false=>
    obtain⟨q2,H16,f1,f2,f3,f4,f5⟩:=yK (x:=.agg (A6 y)) (y:=y) (i:=i) (a:=i) AB (by omega) (gB.slice hw) ho (by omega) rfl (by simp);simp[z,f1,f2,Ax (a:=i) (b:=1) (by omega) (by omega)];rw[Dr];unfold Cd;simp[Ax (a:=j) (b:=1) (by omega) (by omega)];refine hR' (n - 1) _ _ _ _ _ (by omega) ⟨i+1,j+1,M.set i y,by omega,by omega,rfl,rfl,rfl,rfl,by simpa using hM,?_,?_,by simpa using f5,?_,by have:=gB.1;omega,λi h1 h2=>by rw[f4 i h2];exact hkeepB i h1 h2⟩
    ·rw[Aj6 (l:=l),Ap8,← hMt,hx,Aj6,KI (by omega),List.take_set_of_le (Ah3 _)]
     simp[hp]
    ·rw[List.drop_set_of_lt (by omega)];exact hdrop
    ·rw[f4 oc hne];exact gB.cells hc'
  ·have hjl:j=l.length:=by omega
   subst hjl;rw[Al0]at hMt;have hil:i≤M.length:=by omega
   have hfl:(l.filter λx=>!p x).length=i:=by rw[← hMt,Ah1];omega
   obtain⟨o,off,cap,cells,rfl,w1,w2,w3⟩:=HN hw ho (by omega);have hol:=(B5.1 w1).1;have hmul:i*9≤M.length*9:=Ah7 _ hil;have hmul2:i*9+(M.length - i)*9=M.length*9:=by rw[← Am0];congr 1;omega
   have hz:(BI (A6 (Pt 0)) (M.length - i)).length=(M.length - i)*9:=by rw[Ej];rfl
   have e3:Bj 9 (.sl o off M.length 9 cap) (some (I i)) none none=some (.sl o (off+i*9) (M.length - i) 9 (cap.cut M.length i)):=by
    simp[Bj,CA];omega
   have e4:Bj 9 (.sl o off M.length 9 cap) none (some (I i)) none=some (.sl o off i 9 (cap.cut M.length 0)):=by
    simp[Bj,CA];omega
   have e5:tB (A6 (Pt 0)) H' (.sl o (off+i*9) (M.length - i) 9 (cap.cut M.length i))=some (H'.set o (some (.cells (BS cells (off+i*9) (BI (A6 (Pt 0)) (M.length - i)))))):=by
    simp only[tB,w1];rw[if_pos ⟨rfl,by omega,by omega⟩,if_neg (by omega),Hb _ _ _ (by rw[hz];omega)];rfl
   rw[← XM];have hnl:¬(l.length:Int)<M.length:=by omega
   simp only[tY,Ag1,hnl,e3,e5,AC,e4];refine⟨rfl,?_,by simpa using hle,λa h1 h2=>?_,by simp[Bl]⟩
   ·have hov:(BS cells (off+i*9) (BI (A6 (Pt 0)) (M.length - i))).length=cells.length:=HM (by rw[hz];omega)
    rw[hfl,Bo (c:=BS cells (off+i*9) (BI (A6 (Pt 0)) (M.length - i))) (by simp[hol]) (by rw[hov];omega)]
    congr 2
    rw[← hMt,← GX AB,w3,Am4,An2 hmul];refine Aj5 λq=>?_
    rw[Ah5,Ah5]
    split
    ·rw[Ah6,Ah6,KN (by rw[hz];omega),if_neg (by omega)]
    ·rfl
   ·rw[Cg (by simp[Bl]at h2;omega)]
    exact hk a h1 h2)
theorem oC {cs xs:List AV}{k:Nat}(h:(cs.drop k).take xs.length=xs)(hl:k+xs.length≤cs.length):BS cs k xs=cs:=by
 refine Aj5 λi=>?_
 rw[KN hl]
 split
 ·rename_i c
  rw[← h,Ah5,if_pos (by omega),Ah6,show k+(i - k)=i by omega]
 ·rfl
theorem UG (x:Ext){j:Nat}(hj:j<8):(A6 x)[j+1]?=some (.lit (.int .u8 (x.b.getD j 0).toNat)):=by
 have hb:=x.hb;unfold A6;rw[DD,Rq,Ai5,DJ (by omega)];rfl
theorem oT {x:Ext}{a:Int}{i j:Nat}(hj:(j:Int)=a - x.no*8+i)(hj8:j<8):(A6 (Cm x a (a+i))).set (1+j) u0Z=A6 (Cm x a (a+(i+1:Nat))):=by
 refine Aj5 λq=>?_
 rw[Al3];cases q with
 | zero=>rw[if_neg (by omega)];rfl
 | succ q=>
  by_cases hq:q<8
  ·rw[UG _ hq,UG _ hq,Db hq,Db hq,AB]
   by_cases c:1+j=q+1
   ·rw[if_pos c,if_pos (by omega),if_pos (by omega)];rfl
   ·rw[if_neg c]
    by_cases c2:a≤x.no*8+(q:Int)∧x.no*8+(q:Int)<a+i
    ·rw[if_pos c2,if_pos (by omega)]
    ·rw[if_neg c2,if_neg (by omega)]
  ·rw[Am3 (by rw[AB];omega),Am3 (by rw[AB];omega),AB]
   rw[if_neg (by omega)]
theorem yS {H:AH}{o q:Nat}{cells:List AV}{x:Ext}{s:Sp}(hc:H[o]?=some (some (.cells cells)))(hx:(cells.drop q).take 9=A6 x)(hq:q+9≤cells.length)(hs:MaySpan s)(h0:0≤x.no)(h1:x.no<137438953472):
  ∃H',(H'[o]?=some (some (.cells (BS cells q (A6 (Cm x s.pos (s.pos+s.len))))))∧H.length≤H'.length∧∀i,i<H.length→i≠o→H'[i]?=H[i]?)∧BCall prog 157 [.ptr o q,.agg (Br s)] H (.tup []) H':=by
 have key:∃r H',(r=.tup []∧(H'[o]?=some (some (.cells (BS cells q (A6 (Cm x s.pos (s.pos+s.len))))))∧H.length≤H'.length∧∀i,i<H.length→i≠o→H'[i]?=H[i]?))∧BCall prog 157 [.ptr o q,.agg (Br s)] H r H':=Yb (by
  unfold W8;have ho:=(B5.1 hc).1
  have hno:cells[q]?=some (I x.no):=by
   have:=congrArg (λl=>l[0]?) hx
   simp only[Ah5,Ah6,Al9]at this
   simpa[A6]using this
  have g1:=Grew.app H [some (.cells (Br s))];have c1:=g1.cells hc;have c1':H[o]?=some (some (.cells cells)):=hc;obtain⟨p,n⟩:=s;simp only[Br]at c1 g1⊢;simp[Ag8 ho,hc,hno,Aq];refine bP_of (M2 x.no h0 h1) ?_;refine bP_of (Ul ⟨x.no*8,8⟩ ⟨p,n⟩) ?_;have hwm:MaySpan ⟨x.no*8,8⟩:=by simp only[MaySpan,May];omega
  have hm:Qc ⟨x.no*8,8⟩ ⟨p,n⟩=if max (x.no*8) p<min (x.no*8+8) (p+n)then⟨max (x.no*8) p,min (x.no*8+8) (p+n) - max (x.no*8) p⟩else⟨0,0⟩:=by
   unfold Qc;simp only
   by_cases c:max (x.no*8) p<min (x.no*8+8) (p+n)
   ·rw[if_pos ⟨hwm,hs,c⟩,if_pos c]
   ·rw[if_neg (λh=>c h.2.2),if_neg c]
  -- what is wiped
  have hres:∀m:Nat,(m:Int)=(Qc ⟨x.no*8,8⟩ ⟨p,n⟩).len→Cm x (Qc ⟨x.no*8,8⟩ ⟨p,n⟩).pos ((Qc ⟨x.no*8,8⟩ ⟨p,n⟩).pos+m)=Cm x p (p+n):=by
   intro m he;refine TY rfl λk hk=>?_
   rw[Db hk,Db hk];rw[hm]at he⊢
   by_cases c:max (x.no*8) p<min (x.no*8+8) (p+n)
   ·rw[if_pos c]at he⊢
    simp only at he⊢
    by_cases c2:p≤x.no*8+(k:Int)∧x.no*8+(k:Int)<p+n
    ·rw[if_pos c2,if_pos (by omega)]
    ·rw[if_neg c2,if_neg (by omega)]
   ·rw[if_neg c]at he⊢
    simp only at he⊢;rw[if_neg (by omega),if_neg (by omega)]
  have hml:∃m:Nat,(m:Int)=(Qc ⟨x.no*8,8⟩ ⟨p,n⟩).len∧(0<m→x.no*8≤(Qc ⟨x.no*8,8⟩ ⟨p,n⟩).pos∧(Qc ⟨x.no*8,8⟩ ⟨p,n⟩).pos+m≤x.no*8+8):=by
   rw[hm]
   split
   ·exact⟨(min (x.no*8+8) (p+n) - max (x.no*8) p).toNat,by simp only;omega,λ_=>by simp only;omega⟩
   ·exact⟨0,rfl,λh=>by omega⟩
  obtain⟨m,hmm,hmb⟩:=hml;have hres:=hres m hmm;generalize Qc ⟨x.no*8,8⟩ ⟨p,n⟩=M at hmm hmb hres;obtain⟨a,ml⟩:=M;simp only at hmm hmb hres;subst hmm;have hxl:=AB x;simp[Br,AJ];have hz0:Cm x a (a+(0:Nat))=x:=TY rfl λk hk=>by rw[Db hk,if_neg (by omega)]
  refine SY (λt x0 x4 x14 x15 H'=>∃i:Nat,i+t=m∧x0=.ptr o q∧x4=.ptr (H.length+1) 0∧x14=I m∧x15=I i∧H'[o]?=some (some (.cells (BS cells q (A6 (Cm x a (a+i))))))∧H'[H.length+1]?=some (some (.cells [I a,I m]))∧H.length≤H'.length∧∀i,i<H.length→i≠o→H'[i]?=H[i]?) ?_ m
   ⟨0,by omega,rfl,rfl,rfl,rfl,?_,?_,by simp,λi hi _=>Ag8 hi⟩
  ·rintro t x0 x4 x14 x15 H' R hR ⟨i,hi,rfl,rfl,rfl,rfl,d0,d1,d2,d3⟩
   unfold Pi
   by_cases hlt:i<m
   ·obtain⟨b1,b2⟩:=hmb (by omega)
    obtain⟨j,hj⟩:∃j:Nat,(j:Int)=a - x.no*8+i:=⟨(a - x.no*8+i).toNat,by omega⟩;have ho':=(B5.1 d0).1;have hwl:=AB (Cm x a (a+i))
    have hno':(BS cells q (A6 (Cm x a (a+i))))[q]?=some (I x.no):=by
     rw[KN (by omega),if_pos (by omega),Nat.sub_self];rfl
    simp[hlt,d1,d0,hno',D3 (a:=x.no) (b:=8) (by omega) (by omega),Bv (a:=a) (b:=x.no*8) (by omega) (by omega),Ax (a:=a - x.no*8) (b:=i) (by omega) (by omega),← hj]
    have e1:QE 8 1 (.ptr o (q+1)) (I j)=some (.ptr o (q+1+j)):=by
     simp[QE,L3];omega
    rw[e1];simp only[Ab];rw[AF (n:=1) (off:=q+1+j) (xs:=[.lit (.int .u8 0)]) rfl d0 rfl (by rw[HM (by omega)];omega)];simp[Ax (a:=i) (b:=1) (by omega) (by omega)];refine hR (t - 1) _ _ _ _ _ (by omega) ⟨i+1,by omega,rfl,rfl,rfl,rfl,?_,?_,by simpa using d2,λy h1 h2=>?_⟩
    ·rw[KI ho',← oT hj (by omega)]
     congr 3
     refine Aj5 λy=>?_
     rw[Al3,HM (by omega),KN (by omega),KN (by simp;omega),Al3,Aj2]
     by_cases c:q+1+j=y
     ·subst c
      rw[if_pos rfl,if_pos (by omega),if_pos (by omega),if_pos (by omega),if_pos (by omega)]
     ·rw[if_neg c]
      split
      ·rw[if_neg (by omega)]
      ·rfl
    ·rw[Cg (by omega)];exact d1
    ·rw[Cg (by omega)];exact d3 y h1 h2
   ·have:i=m:=by omega
    subst this;simp;rw[hres]at d0;exact⟨d0,d2,d3⟩
  ·rw[Ag8 ho,hz0,oC (by rw[hxl];exact hx) (by omega)]
   exact hc
  ·rw[Ah0 (by omega)];simp)
 obtain⟨r,H',⟨rfl,h1⟩,h2⟩:=key;exact⟨H',h1,h2⟩
theorem mE {H:AH}{w:AV}{l:List Ext}{i:Nat}{a:Int}{x:Ext}{s:Sp}(hw:Ad H 9 w=some (l.flatMap A6,l.length))(ho:Bh w=true)(hx:l[i]?=some x)(ha:a=i)(hs:MaySpan s)(h0:0≤x.no)(h1:x.no<137438953472):
  ∃p H',Bq 9 w (I a)=some p∧BCall prog 157 [p,.agg (Br s)] H (.tup []) H'∧H.length≤H'.length∧(∀j,j<H.length→j∉Bl w→H'[j]?=H[j]?)∧Ad H' 9 w=some ((l.set i (Cm x s.pos (s.pos+s.len))).flatMap A6,l.length):=by
 subst ha;have hi:=(B5.1 hx).1;obtain⟨o,off,cap,cells,rfl,h2,h3,h4⟩:=HN hw ho (by omega);have hol:=(B5.1 h2).1;have hmul:i*9+9≤l.length*9:=by rw[← Ak8];exact Ah7 _ hi
 have hxl:=AB x;have hwl:=AB (Cm x s.pos (s.pos+s.len))
 have hpart:(cells.drop (off+i*9)).take 9=A6 x:=by
  have e:((l.flatMap A6).drop (i*9)).take 9=A6 x:=by
   rw[Gc AB hx,Aj1 (by omega),Ah4 (by omega)]
  rw[h4,Ap0,An0,Am4,An2 (by omega)]at e;exact e
 obtain⟨H',⟨k1,k2,k3⟩,k4⟩:=yS (q:=off+i*9) h2 hpart (by omega) hs h0 h1;refine⟨.ptr o (off+i*9),H',?_,k4,k2,λj h5 h6=>k3 j h5 (by simp[Bl]at h6;omega),?_⟩
 ·simp only[Bq,L3]
  rw[if_pos ⟨by omega,by omega⟩];simp
 ·rw[Bo k1 (by rw[HM (by omega)];exact h3)]
  rw[show off+i*9=off+(i*9+0) by omega,Pw h3 (by omega),← h4,Pv (q:=0) AB hx (by unfold BS;rw[Ao1,Am1,Aj8 (by omega),Ak6]) (by omega)]
abbrev As7:=@List.set_append_right
theorem map_set {f:Ext→Ext}{l:List Ext}{i:Nat}{x:Ext}(hx:l[i]?=some x):((l.take i).map f++l.drop i).set i (f x)=(l.take (i+1)).map f++l.drop (i+1):=by
 have hi:=(B5.1 hx).1;rw[Ek hx,As7 _ _ (by rw[Ai2,Ah1];omega),Aj6,hx];simp[show i - min i l.length=0 by omega]
theorem lF {f:Ext→Ext}{l:List Ext}{i:Nat}{x:Ext}(hx:l[i]?=some x):((l.take i).map f++l.drop i)[i]?=some x:=by
 have hi:=(B5.1 hx).1;rw[Ah0 (by rw[Ai2,Ah1];omega),Ah6];simp only[Ai2,Ah1];rw[show i+(i - min i l.length)=i by omega];exact hx
theorem Xu {f:Ext→Ext}{l:List Ext}{i:Nat}:((l.take i).map f++l.drop i).length=l.length:=by
 simp;omega
theorem oS (size:Int)(l:List Ext)(h:∀x∈l,-1≤x.no∧x.no<137438953472):tF 156 1 [I size] l (λx=>decide (size≤x.no*8)):=by
 refine⟨by kernel_rfl,rfl,λx hx H a ha=>?_⟩;obtain⟨h1,h2⟩:=h x hx
 have key:∃r H',(r=B (decide (size≤x.no*8))∧Grew H H')∧BCall prog 156 [.agg (A6 x),a] H r H':=RH (by
  unfold NX;have g:=Grew.app H [some (.cells (A6 x))];rcases ha with rfl | ⟨rfl,hc⟩
  ·simp[D3 (a:=x.no) (b:=8) (by omega) (by omega)]
   exact g
  ·have h1':=(B5.1 hc).1
   have hc':=g.cells hc;simp[D3 (a:=x.no) (b:=8) (by omega) (by omega),hc'];exact g)
 obtain⟨r,H',⟨rfl,g⟩,hc⟩:=key;exact⟨H',g,hc⟩
theorem oE (oc:Nat)(s:Sp)(l:List Ext)(h:∀x∈l,0≤x.no∧x.no<137438953472):tF 159 oc (Br s) l (λx=>decide (Within ⟨x.no*8,8⟩ s)):=by
 refine⟨by kernel_rfl,rfl,λx hx H a ha=>?_⟩;obtain⟨h1,h2⟩:=h x hx
 have key:∃r H',(r=B (decide (Within ⟨x.no*8,8⟩ s))∧Grew H H')∧BCall prog 159 [.agg (A6 x),a] H r H':=UN (by
  unfold Ry;have g:=Grew.app H [some (.cells (A6 x))];simp;refine bP_of (M2 x.no h1 h2) ?_
  have ha':Am true 2 (H++[some (.cells (A6 x))]) a=some (.agg (Br s)):=by
   rcases ha with rfl | ⟨rfl,hc⟩
   ·rfl
   ·rw[Ah (g.cells hc)];rfl
  rw[ha'];simp;refine bP_of (bX ⟨x.no*8,8⟩ s) ?_;exact⟨rfl,g⟩)
 obtain⟨r,H',⟨rfl,g⟩,hc⟩:=key;exact⟨H',g,hc⟩
abbrev Ad0:=And.intro @List.drop_zero.{0} @List.map_nil.{0,0}
abbrev Am5:=@List.length_filter_le
theorem NZ {size0:Int}{l:List Ext}{v:AV}(hv:SV A6 9 l v)(hl:l.length≤1000000)(size:Int):
  ∃R,SV A6 9 (cL (Cx (size0,l) size)) R∧BPure prog 103 [.agg [I size0,v],I size] (.tup [.agg [I (cS (Cx (size0,l) size)),R],B (Cx (size0,l) size).isSome]):=by
 refine BPure.cont (by simp[Az,noIds,hv.1]) (Uc ?_);unfold Qt;simp[CE hv,Aq];refine As (EI hv (by omega)) ?_
 by_cases h1:Dj size0 l
 ·by_cases h2:size<0
  ·have hn:Cx (size0,l) size=none:=if_neg (λh=>by omega)
   simp[h1,h2,AJ];exact ContK.none hn
  ·by_cases h3:1099511627776<size
   ·have hn:Cx (size0,l) size=none:=if_neg (λh=>by omega)
    simp[h1,h2,h3,AJ];exact ContK.none hn
   ·have hw:Cx (size0,l) size=some (size,Fz l size):=if_pos ⟨h1,by omega,by omega⟩
    simp[h1,h2,h3];obtain⟨r,H2,⟨w,rfl,a2,a3,a4,a5⟩,a1⟩:=UD (size:=size0) (hv.2 [some (.cells [I size0,v]),some (.cells [I size]),some (.cells [I 0,Ac])]) (CE hv) (by omega);refine bC_of a1 ?_;have c0:=a4.cells (o:=0) (x:=some (.cells [I size0,v])) rfl;have c1:=a4.cells (o:=1) (x:=some (.cells [I size])) rfl;have c2:=a4.cells (o:=2) (x:=some (.cells [I 0,Ac])) rfl;have hl2:=a4.1;simp only[Aa4]at hl2;have hwo:=AI a2;have id0:∀j,j<3→j∉Bl w:=λj hj h=>by have:=a5 j h;simp at this;omega
    have hs0:=Is h1.2.2;have hno:=λx hx=>(KA h1.2.2 x hx)
    rw[AF (n:=2) (off:=0) (x:=.agg [I size0,w]) (xs:=[I size0,w]) (by simp[hwo]) c0 rfl (by simp)];simp[c1];rw[AF (n:=1) (off:=0) (xs:=[I size]) (cs:=[I size0,w]) rfl (KI (by omega)) rfl (by simp)];simp[show 0<H2.length by omega];have keep0:∀j x,j≠0→(H2.set 0 x)[j]?=H2[j]?:=λj x hj=>Cg (by omega)
    have hw1:Ad (H2.set 0 (some (.cells [I size,w]))) 9 w=some (l.flatMap A6,l.length):=Af a3 λi hi=>keep0 i _ (λh=>id0 0 (by omega) (h▸hi))
    obtain⟨r2,H3,⟨b1,b2,b3,b4,b5⟩,b6⟩:=Pb (k:=156) hw1 a2 (by omega) (oc:=1) (c:=[I size]) (by rw[keep0 1 _ (by omega)];exact c1) (id0 1 (by omega)) (oS size l λx hx=>by have:=hno x hx;omega)
    have hfe:(l.filter λx=>!decide (size≤x.no*8))=l.filter λx=>decide (x.no*8<size):=List.filter_congr λx _=>by
     by_cases c:size≤x.no*8
     ·simp[c,show ¬x.no*8<size by omega]
     ·simp[c,show x.no*8<size by omega]
    rw[hfe]at b2;refine bC_of b6 ?_;simp at b3;have id3:∀j,j<3→j∉Bl r2:=λj hj h=>id0 j hj (b5 j h)
    have d0:H3[0]?=some (some (.cells [I size,w])):=by rw[b4 0 (by simp;omega) (id0 0 (by omega))];exact KI (by omega)
    have d1:H3[1]?=some (some (.cells [I size])):=by rw[b4 1 (by simp;omega) (id0 1 (by omega)),keep0 1 _ (by omega)];exact c1
    have d2:H3[2]?=some (some (.cells [I 0,Ac])):=by rw[b4 2 (by simp;omega) (id0 2 (by omega)),keep0 2 _ (by omega)];exact c2
    have hr2:=AI b1;rw[AF (n:=1) (off:=1) (xs:=[r2]) (cs:=[I size,w]) (BE hr2) d0 rfl (by simp)];have hfl:(l.filter λx=>decide (x.no*8<size)).length≤l.length:=Am5 _ _
    have hfm:∀x∈(l.filter λx=>decide (x.no*8<size)),0≤x.no∧x.no<137438953472:=λx hx=>by
     have:=hno x (Ao2.1 hx).1;omega
    have hte:Fz l size=(l.filter λx=>decide (x.no*8<size)).map λx=>Cm x size 1099511627776:=rfl
    generalize (l.filter λx=>decide (x.no*8<size))=F at b2 hfl hfm hte;simp[show 0<H3.length by omega,CU b2];have hsp:MaySpan ⟨size,1099511627776 - size⟩:=by simp only[MaySpan,May];omega
    refine Pg (λt x2 x3 x4 x30 x31 H=>∃i:Nat,i+t=F.length∧x2=.ptr 0 0∧x3=.ptr 1 0∧x4=.ptr 2 0∧x30=I F.length∧x31=I i∧H[0]?=some (some (.cells [I size,r2]))∧H[1]?=some (some (.cells [I size]))∧H[2]?=some (some (.cells [I 0,Ac]))∧
     Ad H 9 r2=some (((F.take i).map (λx=>Cm x size 1099511627776)++F.drop i).flatMap A6,((F.take i).map (λx=>Cm x size 1099511627776)++F.drop i).length)) ?_ F.length
     ⟨0,by omega,rfl,rfl,rfl,rfl,rfl,KI (by omega),(Cg (by omega)).trans d1,(Cg (by omega)).trans d2,?_⟩
    ·rintro t x2 x3 x4 x30 x31 H R hR ⟨i,hi,rfl,rfl,rfl,rfl,rfl,e0,e1,e2,e3⟩
     unfold KH;have hH0:=(B5.1 e0).1;have hH1:=(B5.1 e1).1;have hH2:=(B5.1 e2).1;rcases Ah2 i F.length with hlt | hge
     ·have hx:=DJ hlt
      generalize F[i]=x at hx;obtain⟨x0,x1⟩:=hfm x (Ag9 hx);obtain⟨p,H',f1,f2,f3,f4,f5⟩:=mE (s:=⟨size,1099511627776 - size⟩) e3 b1 (lF hx) (a:=i) rfl hsp x0 x1;simp only[show size+(1099511627776 - size)=1099511627776 by omega]at f5;rw[map_set (f:=λx=>Cm x size 1099511627776) hx]at f5;simp[hlt,e0,e1,f1,Bv (a:=1099511627776) (b:=size) (by omega) (by omega)];refine bC_of f2 ?_;simp[Ax (a:=i) (b:=1) (by omega) (by omega)];refine hR (t - 1) _ _ _ _ _ _ (by omega) ⟨i+1,by omega,rfl,rfl,rfl,rfl,rfl,by rw[f4 0 hH0 (id3 0 (by omega))];exact e0,by rw[f4 1 hH1 (id3 1 (by omega))];exact e1,by rw[f4 2 hH2 (id3 2 (by omega))];exact e2,by rw[f5,Xu,Xu]⟩
     ·have:i=F.length:=by omega
      subst this;simp[e0,Aq];rw[AF (n:=2) (off:=0) (xs:=[I size,r2]) (cs:=[I 0,Ac]) (by simp[hr2]) e2 rfl (by simp)];simp[hH2];rw[Al0,Ap2,Ak6,← hte]at e3
      exact ContK.some hw (Af e3 λi hi=>by
       have h2:3≤i:=Aj9 λh=>id3 i h hi
       rw[Cg (by omega)])
    ·simp only[Ao1,Ad0,Am1]
     exact Af b2 λi hi=>by
      have h2:3≤i:=Aj9 λh=>id3 i h hi
      rw[Cg (by omega)]
 ·have hn:Cx (size0,l) size=none:=if_neg (λh=>h1 h.1)
  simp[h1,AJ];exact ContK.none hn
theorem gR {no pos n:Int}(h:Sf pos n)(h0:0≤no)(h1:no<137438953472):(!decide (Within ⟨no*8,8⟩ ⟨pos,n⟩))=!gone pos n no:=by
 have e:Within ⟨no*8,8⟩ ⟨pos,n⟩↔(pos≤no*8∧no*8+8≤pos+n):=by
  rw[jZ];unfold U1 MaySpan May;unfold Sf at h;simp only;omega
 unfold gone
 by_cases c1:pos≤no*8<;>by_cases c2:no*8+8≤pos+n<;>simp[e,c1,c2]
theorem RD {size:Int}{l:List Ext}{v:AV}(hv:SV A6 9 l v)(hl:l.length≤1000000)(pos n:Int):
  ∃R,SV A6 9 (cL (CB (size,l) pos n)) R∧BPure prog 105 [.agg [I size,v],I pos,I n] (.tup [.agg [I (cS (CB (size,l) pos n)),R],B (CB (size,l) pos n).isSome]):=by
 refine BPure.cont (by simp[Az,noIds,hv.1]) (WV ?_);unfold UM;simp[CE hv,Aq];refine As (EI hv (by omega)) ?_
 by_cases h1:Dj size l
 ·simp[h1]
  refine As (TC pos n) ?_
  by_cases h2:Sf pos n
  ·have hw:CB (size,l) pos n=some (size,Fp l pos n):=if_pos ⟨h1,h2⟩
   have h2':=h2;obtain⟨g1,g2,g3,g4⟩:=h2';simp[h2];obtain⟨r,H2,⟨w,rfl,a2,a3,a4,a5⟩,a1⟩:=UD (size:=size) (hv.2 [some (.cells [I size,v]),some (.cells [I 0,Ac])]) (CE hv) (by omega);refine bC_of a1 ?_;have c0:=a4.cells (o:=0) (x:=some (.cells [I size,v])) rfl;have c2:=a4.cells (o:=1) (x:=some (.cells [I 0,Ac])) rfl;have hl2:=a4.1;simp only[Aa4]at hl2;have hwo:=AI a2;have id0:∀j,j<2→j∉Bl w:=λj hj h=>by have:=a5 j h;simp at this;omega
   have hs0:=Is h1.2.2;have hno:=λx hx=>(KA h1.2.2 x hx)
   rw[AF (n:=2) (off:=0) (x:=.agg [I size,w]) (xs:=[I size,w]) (by simp[hwo]) c0 rfl (by simp)];simp;rw[AF (n:=2) (off:=0) (x:=.agg [I pos,I n]) (xs:=[I pos,I n]) (cs:=[I 0,I 0]) (by simp) (by rw[Ah0 (by simp)];simp) rfl (by simp)]
   have hset:((H2.set 0 (some (AObj.cells [I size,w])))++[some (AObj.cells [I 0,I 0])]).set H2.length (some (AObj.cells (AZ [I 0,I 0] 0 [I pos,I n])))=(H2.set 0 (some (AObj.cells [I size,w])))++[some (AObj.cells [I pos,I n])]:=by
    rw[As7 _ _ (by simp)];simp
   rw[hset];have g:=Grew.app (H2.set 0 (some (AObj.cells [I size,w]))) [some (.cells [I pos,I n])];have keep0:∀j x,j≠0→(H2.set 0 x)[j]?=H2[j]?:=λj x hj=>Cg (by omega)
   have z0:=g.cells (o:=0) (x:=some (.cells [I size,w])) (KI (by omega));have z1:=g.cells (o:=1) (x:=some (.cells [I 0,Ac])) (by rw[keep0 1 _ (by omega)];exact c2);have z2:(H2.set 0 (some (AObj.cells [I size,w]))++[some (AObj.cells [I pos,I n])])[H2.length]?=some (some (.cells [I pos,I n])):=by rw[Ah0 (by simp)];simp
   have zid:H2.length∉Bl w:=λh=>by have:=A7 a3 _ h;omega
   have hlen3:(H2.set 0 (some (AObj.cells [I size,w]))++[some (AObj.cells [I pos,I n])]).length=H2.length+1:=by simp
   have hw1:=g.slice (Af (H':=H2.set 0 (some (AObj.cells [I size,w]))) a3 λi hi=>keep0 i _ (λh=>id0 0 (by omega) (h▸hi)));generalize hH3:(H2.set 0 (some (AObj.cells [I size,w]))++[some (AObj.cells [I pos,I n])])=H3 at g z0 z1 z2 hw1 hlen3;generalize H2.length=so at z2 zid hlen3 hl2;simp[z0];obtain⟨r2,H4,⟨b1,b2,b3,b4,b5⟩,b6⟩:=Pb (k:=159) hw1 a2 (by omega) (oc:=so) (c:=Br ⟨pos,n⟩) z2 zid (oE so ⟨pos,n⟩ l λx hx=>by have:=hno x hx;omega)
   have hfe:(l.filter λx=>!decide (Within ⟨x.no*8,8⟩ ⟨pos,n⟩))=l.filter λx=>!gone pos n x.no:=List.filter_congr λx hx=>by
    have:=hno x hx
    exact gR h2 (by omega) (by omega)
   rw[hfe]at b2;refine bC_of b6 ?_;have id3:∀j,j<2→j∉Bl r2:=λj hj h=>id0 j hj (b5 j h)
   have id4:so∉Bl r2:=λh=>zid (b5 so h)
   have d0:H4[0]?=some (some (.cells [I size,w])):=by rw[b4 0 (by omega) (id0 0 (by omega))];exact z0
   have d1:H4[1]?=some (some (.cells [I 0,Ac])):=by rw[b4 1 (by omega) (id0 1 (by omega))];exact z1
   have d2:H4[so]?=some (some (.cells [I pos,I n])):=by rw[b4 so (by omega) zid];exact z2
   have hr2:=AI b1;rw[AF (n:=1) (off:=1) (xs:=[r2]) (cs:=[I size,w]) (BE hr2) d0 rfl (by simp)];have hfl:(l.filter λx=>!gone pos n x.no).length≤l.length:=Am5 _ _
   have hfm:∀x∈(l.filter λx=>!gone pos n x.no),0≤x.no∧x.no<137438953472:=λx hx=>by
    have:=hno x (Ao2.1 hx).1;omega
   have hte:Fp l pos n=(l.filter λx=>!gone pos n x.no).map λx=>Cm x pos (pos+n):=rfl
   generalize (l.filter λx=>!gone pos n x.no)=F at b2 hfl hfm hte;simp[show 0<H4.length by omega,CU b2];have hsp:MaySpan ⟨pos,n⟩:=by simp only[MaySpan,May];omega
   refine Rz (λt x3 x6 x8 x32 x33 H=>∃i:Nat,i+t=F.length∧x3=.ptr 0 0∧x6=.ptr 1 0∧x8=.ptr so 0∧x32=I F.length∧x33=I i∧H[0]?=some (some (.cells [I size,r2]))∧H[1]?=some (some (.cells [I 0,Ac]))∧H[so]?=some (some (.cells [I pos,I n]))∧
    Ad H 9 r2=some (((F.take i).map (λx=>Cm x pos (pos+n))++F.drop i).flatMap A6,((F.take i).map (λx=>Cm x pos (pos+n))++F.drop i).length)) ?_ F.length
    ⟨0,by omega,rfl,rfl,rfl,rfl,rfl,KI (by omega),(Cg (by omega)).trans d1,(Cg (by omega)).trans d2,?_⟩
   ·rintro t x3 x6 x8 x32 x33 H R hR ⟨i,hi,rfl,rfl,rfl,rfl,rfl,e0,e1,e2,e3⟩
    unfold NV;have hH0:=(B5.1 e0).1;have hH1:=(B5.1 e1).1;have hH2:=(B5.1 e2).1;rcases Ah2 i F.length with hlt | hge
    ·have hx:=DJ hlt
     generalize F[i]=x at hx;obtain⟨x0,x1⟩:=hfm x (Ag9 hx);obtain⟨p,H',f1,f2,f3,f4,f5⟩:=mE (s:=⟨pos,n⟩) e3 b1 (lF hx) (a:=i) rfl hsp x0 x1;rw[map_set (f:=λx=>Cm x pos (pos+n)) hx]at f5;simp[hlt,e0,e2,f1,Aq];refine bC_of f2 ?_;simp[Ax (a:=i) (b:=1) (by omega) (by omega)];refine hR (t - 1) _ _ _ _ _ _ (by omega) ⟨i+1,by omega,rfl,rfl,rfl,rfl,rfl,by rw[f4 0 hH0 (id3 0 (by omega))];exact e0,by rw[f4 1 hH1 (id3 1 (by omega))];exact e1,by rw[f4 so hH2 id4];exact e2,by rw[f5,Xu,Xu]⟩
    ·have:i=F.length:=by omega
     subst this;simp[e0,Aq];rw[AF (n:=2) (off:=0) (xs:=[I size,r2]) (cs:=[I 0,Ac]) (by simp[hr2]) e1 rfl (by simp)];simp[hH1];rw[Al0,Ap2,Ak6,← hte]at e3
     exact ContK.some hw (Af e3 λi hi=>by
      have h2:2≤i:=Aj9 λh=>id3 i h hi
      rw[Cg (by omega)])
   ·simp only[Ao1,Ad0,Am1]
    exact Af b2 λi hi=>by
     have h2:2≤i:=Aj9 λh=>id3 i h hi
     rw[Cg (by omega)]
  ·have hn:CB (size,l) pos n=none:=if_neg (λh=>h2 h.2)
   simp[h2,AJ];exact ContK.none hn
 ·have hn:CB (size,l) pos n=none:=if_neg (λh=>h1 h.1)
  simp[h1,AJ];exact ContK.none hn
def Sq (ns:List Nm)(s t:List UInt8):Prop:=AT Nm.name ns s∧DK t∧s≠t
instance (ns:List Nm) (s t:List UInt8):Decidable (Sq ns s t):=by unfold Sq;infer_instance
def ZP (ns:List Nm)(s t:List UInt8):List Nm:=if Sq ns s t then FD Bd Nm.name (Fa (Dn Bd Nm.name ns s) t) ⟨t,CD ns s⟩else ns
def ZO (ns:List Nm)(dv:List NdV)(s t:List UInt8):List NdV:=if Sq ns s t then So (Dn Bd Nm.name ns s) dv t else dv
theorem oM {ns:List Nm}{t:List UInt8}(h:Cn Bd Nm.name ns):Cn Bd Nm.name (Fa ns t):=by
 unfold Fa
 split
 ·exact EU h
 ·exact h
theorem oK {ns:List Nm}{t:List UInt8}:(Fa ns t).length≤ns.length:=by
 unfold Fa
 split
 ·exact delK_sub.length_le
 ·exact Ah3 _
theorem sG {L oi:Nat}{ns:List Nm}{dv:List NdV}{a b:AV}{H:AH}{s t:List UInt8}(h:ImH L oi ns dv a b H)(hs:Cn Bd Nm.name ns)(hd:Cn B8 NdV.ino dv)(hx:∀x∈ns,AT NdV.ino dv x.ino)(hn:ns.length≤100000)(hm:dv.length≤100000)(ht:t.length≤1000000000):
  ∃r H',wB L oi H (ZP ns s t) (ZO ns dv s t) r H'∧BCall prog 147 [.ptr oi 0,S (B0 s),S (B0 t)] H r H':=Xh (by
 obtain⟨Ra,Rb,sa,sb,fz⟩:=h.lend;have c0:=h.obj;unfold Vh;have b0:∀a b:AV,Aq true 2 [a,b] 0=some (.agg [a,b]):=λ_ _=>rfl
 have hno:¬Sq ns s t→wB L oi H (ZP ns s t) (ZO ns dv s t) (.tup []) H:=λhc=>by
  unfold ZP ZO;rw[if_neg hc,if_neg hc];exact⟨rfl,a,b,h,FrL.refl _ _ _⟩
 simp[c0,b0];refine bC_of (PCall.lend (FZs.cons fz (FZs.cons (FZ.lit _) FZs.nil)) rfl (Vl sa sb hs (by omega) s)).call ?_
 by_cases q1:AT Nm.name ns s
 ·simp[q1]
  refine As (OU (s:=t) (by omega)) ?_
  by_cases q2:DK t
  ·by_cases q3:s=t
   ·simp[q2,PV,q3]
    rw[← q3]at hno⊢;exact hno λhc=>hc.2.2 rfl
   ·have hc:Sq ns s t:=⟨q1,q2,q3⟩
    unfold ZP ZO;rw[if_pos hc,if_pos hc];obtain⟨x,hx1,hx2,hx3⟩:=FM koN hs q1;obtain⟨o,off,cells,u1,u2,u3,u4,u5,-⟩:=Sk BF (by omega) h.sa h.oa hx1;have u51:=u5 1 (by omega);have hpl:=(B5.1 hx1).1;have e1:CD ns s=x.ino:=by unfold CD;rw[hx2]
    simp[q2,PV,q3,c0,u1,u3,u51,BL,Ax (a:=(CX Bd Nm.name ns s:Nat)) (b:=1) (by omega) (by omega)];obtain⟨r1,H2,⟨d1,d2,d3,d4,d5,d6⟩,d7⟩:=qR h.sa h.oa h.ca hpl (by omega);refine bC_of d7 ?_;have l1:=Ro (c:=Bd) (key:=Nm.name) (k:=s) hpl;obtain⟨H3,e3,n1,n2⟩:=h.newA (ms:=Dn Bd Nm.name ns s) (Ar2 d3.symm) (λi _ hi=>d4 i hi) (by rw[show(Dn Bd Nm.name ns s).length=ns.length - 1 by omega];exact d2) d1 (by rw[show(Dn Bd Nm.name ns s).length=ns.length - 1 by omega];exact d6) (λi hi=>.inl (d5▸hi));simp[e3];have hs1:Cn Bd Nm.name (Dn Bd Nm.name ns s):=EU hs;obtain⟨r4,H4,⟨rfl,a4,b4,m1,m2⟩,m3⟩:=fZ (s:=t) n1 hs1 hd (λy hy=>hx y (delK_sub.subset hy)) (by omega) hm;refine bC_of m3 ?_;have c4:=m1.obj;obtain⟨Sa,Sb,ta,tb,gz⟩:=m1.lend;have hs2:=oM (t:=t) hs1;have hl2:=oK (ns:=Dn Bd Nm.name ns s) (t:=t);simp[c4,b0];refine bC_of (PCall.lend (FZs.cons gz (FZs.cons (FZ.lit _) FZs.nil)) rfl (Vl ta tb hs2 (by omega) t)).call ?_;have g5:=Grew.app H4 [some (.cells (BL ⟨t,x.ino⟩))];have m5:=m1.grew g5;have e5:FC H4 2 1 (BI [(.lit (.string ⟨#[]⟩)),(I 0)] 1) [(0,2,.agg (BL ⟨t,x.ino⟩))]=some (.sl H4.length 0 1 2 (.ex 1),H4++[some (.cells (BL ⟨t,x.ino⟩))]):=rfl;have e6:E5 [(.lit (.string ⟨#[]⟩)),(I 0)] [(0,1,S (B0 t)),(1,1,I x.ino)]=some (.agg (BL ⟨t,x.ino⟩)):=rfl;simp[c4];obtain⟨r7,H7,⟨k1,k2,k3,k4,k5,k6⟩,k7⟩:=rG (x:=⟨t,x.ino⟩) (oj:=H4.length) m5.sa m5.oa m5.ca (Xw (c:=Bd) (key:=Nm.name) _ t) (by omega) (by simp) (λhh=>by have:=A7 m1.sa _ hh;omega);refine bC_of k7 ?_;have el:=Sc (c:=Bd) (key:=Nm.name) (l:=Fa (Dn Bd Nm.name ns s) t) (x:=⟨t,x.ino⟩);obtain⟨H8,e8,p1,p2⟩:=m5.newA (ms:=FD Bd Nm.name (Fa (Dn Bd Nm.name ns s) t) ⟨t,x.ino⟩) k3 k4 (by rw[el];exact k2) k1 (by rw[el];exact k6) k5;simp[e8];rw[e1];have hle:=m1.len;exact⟨rfl,_,_,p1,n2.trans (m2.trans ⟨Ai8 g5.1 p2.1,λj h1 h2=>(p2.2 j h1 h2).trans (g5.2 j (by omega))⟩)⟩
  ·simp[q2]
   exact hno λhc=>q2 hc.2.1
 ·simp[q1]
  exact hno λhc=>q1 hc.1)
def G5 (o:OpM)(d:Nd):Option KD:=if o.kind=2 then DI (d.size,d.l) o.pos o.b else if o.kind=3 then Cx (d.size,d.l) o.size else if o.kind=4 then BU (d.size,d.l) o.pos o.size o.keep else if o.kind=5 then CB (d.size,d.l) o.pos o.size else none
def OA (ds:List Nd)(o:OpM):List Nd:=match nB Nd.ino ds o.ino with
 | some d=>match G5 o d with
  | some c=>ds.set (CX B8 Nd.ino ds o.ino) ⟨d.ino,c.1,c.2⟩
  | none=>ds
 | none=>ds
theorem eC {L oi k q:Nat}{ns:List Nm}{dv:List NdV}{a b R:AV}{H:AH}{x:NdV}{sz:Int}{l:List Ext}(h:ImH L oi ns dv a b H)(hx:dv[k]?=some x)(hR:SV A6 9 l R)(hq:H[q]?=some (some (.cells [I sz,R])))(ok:Bool):
  ∃H',ImH L oi ns (if ok=true then dv.set k ⟨⟨x.nd.ino,sz,l⟩,R,hR⟩else dv) a b H'∧FrL L oi H H'∧∀K:AV→AH→Prop,K (.tup []) H'→Dp (.ptr oi 0) (I k) (B ok) (.ptr q 0) H K:=by
 cases ok with
 | false=>
  refine⟨H,h,FrL.refl _ _ _,λK hK=>?_⟩;rw[M9];unfold Ji;rw[LE];unfold It
  simpa using hK
 | true=>
  obtain⟨o,off,cells,u1,u2,u3,u4,u5,u6⟩:=Sk B4 (by omega) h.sb h.ob hx;have oL:=h.ib o u2;have hoo:o≠oi:=λe=>h.noB (e▸u2)
  have hle:=h.len;have o2:=SV.oneA hR;have c0:=h.obj;have hol:=(B5.1 u3).1
  have e1:AJ 2 H (.ptr o (off+1)) (.agg [I sz,R])=some (H.set o (some (.cells (AZ cells (off+1) [I sz,R])))):=by
   rw[AF (n:=2) (xs:=[I sz,R]) (by simp[o2]) u3 rfl (by omega)]
  refine⟨H.set o (some (.cells (AZ cells (off+1) [I sz,R]))),⟨?_,h.lo,by simp;omega,?_,h.oa,h.ca,h.ia,?_,h.ob,by simpa using h.cb,h.ib,h.ab⟩,⟨by simp,λj h1 h2=>Cg (by omega)⟩,λK hK=>?_⟩
  ·rw[Cg (by omega)];exact c0
  ·exact Af h.sa λi hi=>Cg (fun (e:o=i)=>h.ab i hi (e▸u2))
  ·have:=u6 ⟨⟨x.nd.ino,sz,l⟩,R,hR⟩ 1 [I sz,R] rfl (by simp)
   simpa using this
  ·rw[M9];unfold Ji
   rw[LE];unfold It;have b0:Aq true 2 [I sz,R] 0=some (.agg [I sz,R]):=rfl;simp only[Al,Aw];have e3:Am false 1 H (.ptr oi 1)=some b:=by rw[Ah c0];rfl
   have e4:Am true 2 H (.ptr q 0)=some (.agg [I sz,R]):=by rw[Ah hq];rfl
   show bO (some (AV.ptr oi 0)) _
   simp only[Ab]
   show bO (some (AV.ptr oi 1)) _
   simp only[Ab,e3,e4,u1]
   show bO (some (AV.ptr o (off+1))) _
   simp only[Ab,e1,AC];exact hK
def ChP (L oi:Nat)(H:AH)(ns:List Nm)(ds:List Nd)(r:AV)(H':AH):Prop:=r=.tup []∧∃a b dv,dv.map NdV.nd=ds∧ImH L oi ns dv a b H'∧FrL L oi H H'
theorem qH {L oi:Nat}{ns:List Nm}{dv:List NdV}{a b bv:AV}{H:AH}{o:OpM}(h:ImH L oi ns dv a b H)(hs:Cn Bd Nm.name ns)(hd:Cn B8 NdV.ino dv)(hb:SV IW 1 o.b bv)(hm:dv.length≤100000)(hbl:o.b.length≤281474976710656)(hl:∀d∈dv,d.nd.l.length≤1000000)(hk:o.kind=2∨o.kind=3∨o.kind=4∨o.kind=5):
  ∃r H',ChP L oi H ns (OA (dv.map NdV.nd) o) r H'∧BCall prog 146 [.ptr oi 0,.agg (By o bv)] H r H':=Xc (by
 obtain⟨H1,e1,hp,h1,f1⟩:=rV h o (SV.oneA hb);obtain⟨Ra,Rb,sa,sb,fz⟩:=h1.lend;have c0:=h1.obj;unfold Vd;simp only[e1,AA];have b0:Aq true 2 [a,b] 0=some (.agg [a,b]):=rfl;simp[hp,c0,b0,By];refine bC_of (PCall.lend (FZs.cons fz (FZs.cons (FZ.lit _) FZs.nil)) rfl (Y1 sa sb hd (by omega) o.ino)).call ?_
 by_cases q1:AT NdV.ino dv o.ino
 ·obtain⟨x,hx1,hx2,hx3⟩:=FM koI hd q1
  obtain⟨oo,off,cells,u1,u2,u3,u4,u5,u6⟩:=Sk B4 (by omega) h1.sb h1.ob hx1;have hxl:=hl x (Ag9 hx1)
  have rd1:Aq true 2 cells (off+1)=some (.agg [I x.nd.size,x.R]):=by
   have e51:=u5 1 (by omega);have e52:=u5 2 (by omega);have l2:off+1+2≤cells.length:=by omega
   have:(cells.drop (off+1)).take 2=[I x.nd.size,x.R]:=by
    rw[Al8 (by omega),Al8 (by omega)];rw[DJ (by omega)]at e51 e52;simp[BB]at e51 e52;simp[e51,e52]
   simp[Aq,l2,this]
  have o1:=SV.oneA x.h
  have fin:∀(res:Option KD) (R:AV) (Hc:AH) (sR:SV A6 9 (cL res) R),G5 o x.nd=res→ImH L oi ns dv a b Hc→FrL L oi H1 Hc→∀q,Hc[q]?=some (some (.cells [I (cS res),R]))→Dp (.ptr oi 0) (I (CX B8 NdV.ino dv o.ino)) (B res.isSome) (.ptr q 0) Hc (ChP L oi H ns (OA (dv.map NdV.nd) o)):=by
   intro res R Hc sR hr hc fc q hq;obtain⟨H9,w1,w2,w3⟩:=eC hc hx1 sR hq res.isSome;refine w3 _ ⟨rfl,_,_,_,?_,w1,f1.trans (fc.trans w2)⟩;unfold OA;rw[Xs hx2];simp only[hr];cases res with
   | none=>rfl
   | some c=>
    simp only[Option.isSome_some,if_true,Ar3,MB];rfl
  simp[q1,c0,u1,u3,rd1]
  obtain⟨H2,e2,hq2,hp2,h2,f2⟩:∃H2,AJ 2 (H1++[some (.cells [I 0,Ac])]) (.ptr H1.length 0) (.agg [I x.nd.size,x.R])=some H2∧H2[H1.length]?=some (some (.cells [I x.nd.size,x.R]))∧H2[H.length]?=some (some (.cells (By o bv)))∧ImH L oi ns dv a b H2∧FrL L oi H1 H2:=by
   have g:=Grew.app H1 [some (.cells [I x.nd.size,x.R])];have hle:=h1.len;exact⟨_,by simp[AJ,AZ,o1],by simp,g.cells hp,h1.grew g,g.1,λj i1 i2=>g.2 j (by omega)⟩
  have hol2:=(B5.1 hq2).1;have hql:L≤H1.length:=h1.len
  have put:∀(sz:Int) (R:AV),oneA R=true→AJ 2 H2 (.ptr H1.length 0) (.agg [I sz,R])=some (H2.set H1.length (some (.cells [I sz,R])))∧ImH L oi ns dv a b (H2.set H1.length (some (.cells [I sz,R])))∧FrL L oi H1 (H2.set H1.length (some (.cells [I sz,R])))∧(H2.set H1.length (some (.cells [I sz,R])))[H1.length]?=some (some (.cells [I sz,R])):=by
   intro sz R hR;have hlo:=(B5.1 h1.obj).1;refine⟨?_,⟨?_,h2.lo,by simpa using h2.len,?_,h2.oa,h2.ca,h2.ia,?_,h2.ob,h2.cb,h2.ib,h2.ab⟩,⟨by simpa using f2.1,λj i1 i2=>?_⟩,by simp[hol2]⟩
   ·rw[AF (n:=2) (off:=0) (xs:=[I sz,R]) (by simp[hR]) hq2 rfl (by simp)];rfl
   ·rw[Cg (by omega)];exact h2.obj
   ·exact Af h2.sa λi hi=>Cg (by have:=A7 h1.sa i hi;omega)
   ·exact Af h2.sb λi hi=>Cg (by have:=A7 h1.sb i hi;omega)
   ·rw[Cg (by omega)];exact f2.2 j i1 i2
  have b1:∀(s:Int) (R:AV),Aq true 2 [I s,R] 0=some (.agg [I s,R]):=λ_ _=>rfl
  simp[e2,hp2,By];rcases hk with hk | hk | hk | hk
  ·simp[hk,hq2,b1]
   obtain⟨R,s1,p1⟩:=XX x.h hxl o.pos hb hbl;refine As p1 ?_;obtain⟨t1,t2,t3,t4⟩:=put (cS (DI (x.nd.size,x.nd.l) o.pos o.b)) R (SV.oneA s1);simp[t1];exact fin _ R _ s1 (by unfold G5;rw[if_pos hk]) t2 t3 _ t4
  ·simp[hk,hq2,b1]
   obtain⟨R,s1,p1⟩:=NZ (size0:=x.nd.size) x.h hxl o.size;refine As p1 ?_;obtain⟨t1,t2,t3,t4⟩:=put (cS (Cx (x.nd.size,x.nd.l) o.size)) R (SV.oneA s1);simp[t1];exact fin _ R _ s1 (by unfold G5;rw[if_neg (by omega),if_pos hk]) t2 t3 _ t4
  ·simp[hk,hq2,b1]
   obtain⟨R,s1,p1⟩:=NU (size:=x.nd.size) x.h hxl o.pos o.size o.keep;refine As p1 ?_;obtain⟨t1,t2,t3,t4⟩:=put (cS (BU (x.nd.size,x.nd.l) o.pos o.size o.keep)) R (SV.oneA s1);simp[t1];exact fin _ R _ s1 (by unfold G5;rw[if_neg (by omega),if_neg (by omega),if_pos hk]) t2 t3 _ t4
  ·simp[hk,hq2,b1]
   obtain⟨R,s1,p1⟩:=RD (size:=x.nd.size) x.h hxl o.pos o.size;refine As p1 ?_;obtain⟨t1,t2,t3,t4⟩:=put (cS (CB (x.nd.size,x.nd.l) o.pos o.size)) R (SV.oneA s1);simp[t1];exact fin _ R _ s1 (by unfold G5;rw[if_neg (by omega),if_neg (by omega),if_neg (by omega),if_pos hk]) t2 t3 _ t4
 ·simp[q1]
  refine⟨rfl,a,b,dv,?_,h1,f1⟩;unfold OA;rw[U9 (λhh=>q1 (Jg.1 hh))])
theorem qN {H:AH}{v:AV}{cs:List AV}{n:Nat}(h:Ad H 2 v=some (cs,n))(hn:n≤1000000000):
  ∃r H',(Bh r=true∧Ad H' 2 r=some (cs,n)∧Grew H H'∧(∀i∈Bl r,H.length≤i)∧CI r n)∧BCall prog 115 [v] H r H':=Iy (by
 unfold Fd;rcases Qd h with⟨rfl,rfl,rfl⟩ | hb
 ·have e:YO .eql Tc Ac Ac=some (B true):=rfl
  simp only[e,Aa8,Aw];exact⟨rfl,h,Grew.refl H,by simp[Bl],by simp[CI]⟩
 ·simp only[hb,Aa8,Ao]
  have e:FC H 2 0 (BI [(.lit (.string ⟨#[]⟩)),(I 0)] 0) []=some (.sl H.length 0 0 2 (.ex 0),H++[some (.cells [])]):=rfl;simp only[e,AA];have g:=Grew.app H [some (.cells [])];have h0:Ad (H++[some (.cells [])]) 2 (.sl H.length 0 0 2 (.ex 0))=some ([],0):=by simp[Ad]
  obtain⟨r,H2,a1,a2,a3,a4,a5,a6⟩:=CT (sz:=2) (bytes:=24) (H:=H++[some (.cells [])]) (v:=.sl H.length 0 0 2 (.ex 0)) (cs:=[]) (n:=0) h0 rfl (A3 (g.slice h)) (by omega);have a7:=PT h0 rfl (A3 (g.slice h)) (by simp[CI]) a1;simp only[a1,AA];refine⟨a2,by simpa using a3,⟨by simp at a4;omega,λi hi=>?_⟩,λi hi=>?_,by simpa using a7⟩
  ·rw[a5 i (by simp;omega) (by simp[Bl];omega)]
   exact g.2 i hi
  ·rcases a6 i hi with h | h
   ·simp[Bl]at h;omega
   ·simp at h;omega)
theorem qL {H:AH}{v:AV}{cs:List AV}{n:Nat}(h:Ad H 3 v=some (cs,n))(hn:n≤1000000000):
  ∃r H',(Bh r=true∧Ad H' 3 r=some (cs,n)∧Grew H H'∧(∀i∈Bl r,H.length≤i)∧CI r n)∧BCall prog 116 [v] H r H':=Iz (by
 unfold Fe;rcases Qd h with⟨rfl,rfl,rfl⟩ | hb
 ·have e:YO .eql Tc Ac Ac=some (B true):=rfl
  simp only[e,Aa8,Aw];exact⟨rfl,h,Grew.refl H,by simp[Bl],by simp[CI]⟩
 ·simp only[hb,Aa8,Ao]
  have e:FC H 3 0 (BI [(I 0),(I 0),Ac] 0) []=some (.sl H.length 0 0 3 (.ex 0),H++[some (.cells [])]):=rfl;simp only[e,AA];have g:=Grew.app H [some (.cells [])];have h0:Ad (H++[some (.cells [])]) 3 (.sl H.length 0 0 3 (.ex 0))=some ([],0):=by simp[Ad]
  obtain⟨r,H2,a1,a2,a3,a4,a5,a6⟩:=CT (sz:=3) (bytes:=40) (H:=H++[some (.cells [])]) (v:=.sl H.length 0 0 3 (.ex 0)) (cs:=[]) (n:=0) h0 rfl (A3 (g.slice h)) (by omega);have a7:=PT h0 rfl (A3 (g.slice h)) (by simp[CI]) a1;simp only[a1,AA];refine⟨a2,by simpa using a3,⟨by simp at a4;omega,λi hi=>?_⟩,λi hi=>?_,by simpa using a7⟩
  ·rw[a5 i (by simp;omega) (by simp[Bl];omega)]
   exact g.2 i hi
  ·rcases a6 i hi with h | h
   ·simp[Bl]at h;omega
   ·simp at h;omega)
structure OwI (L:Nat)(ns:List Nm)(dv:List NdV)(a b:AV)(H:AH):Prop where
 sa:Ad H 2 a=some (ns.flatMap BL,ns.length)
 oa:Bh a=true
 ca:CI a ns.length
 ia:∀i∈Bl a,L≤i
 sb:Ad H 3 b=some (dv.flatMap BB,dv.length)
 ob:Bh b=true
 cb:CI b dv.length
 ib:∀i∈Bl b,L≤i
 ab:∀i∈Bl a,i∉Bl b
def vI (H:AH)(ns:List Nm)(ds:List Nd)(r:AV)(H':AH):Prop:=∃a b dv,r=.agg [a,b]∧dv.map NdV.nd=ds∧Grew H H'∧OwI H.length ns dv a b H'
theorem ImH.putD {L oi k:Nat}{ns:List Nm}{dv:List NdV}{a b R:AV}{H:AH}{x:NdV}{sz:Int}{l:List Ext}(h:ImH L oi ns dv a b H)(hx:dv[k]?=some x)(hR:SV A6 9 l R):
  ∃o off cells H',Bq 3 b (I k)=some (.ptr o off)∧H[o]?=some (some (.cells cells))∧Aq true 2 cells (off+1)=some (.agg [I x.nd.size,x.R])∧AJ 2 H (.ptr o (off+1)) (.agg [I sz,R])=some H'∧ImH L oi ns (dv.set k ⟨⟨x.nd.ino,sz,l⟩,R,hR⟩) a b H'∧FrL L oi H H':=by
 obtain⟨o,off,cells,u1,u2,u3,u4,u5,u6⟩:=Sk B4 (by omega) h.sb h.ob hx;have oL:=h.ib o u2;have hoo:o≠oi:=λe=>h.noB (e▸u2)
 have hle:=h.len;have o2:=SV.oneA hR;have hol:=(B5.1 u3).1
 have rd1:Aq true 2 cells (off+1)=some (.agg [I x.nd.size,x.R]):=by
  have e51:=u5 1 (by omega);have e52:=u5 2 (by omega);have l2:off+1+2≤cells.length:=by omega
  have:(cells.drop (off+1)).take 2=[I x.nd.size,x.R]:=by
   rw[Al8 (by omega),Al8 (by omega)];rw[DJ (by omega)]at e51 e52;simp[BB]at e51 e52;simp[e51,e52]
  simp[Aq,l2,this]
 refine⟨o,off,cells,H.set o (some (.cells (AZ cells (off+1) [I sz,R]))),u1,u3,rd1,?_,⟨?_,h.lo,by simp;omega,?_,h.oa,h.ca,h.ia,?_,h.ob,by simpa using h.cb,h.ib,h.ab⟩,⟨by simp,λj h1 h2=>Cg (by omega)⟩⟩
 ·rw[AF (n:=2) (xs:=[I sz,R]) (by simp[o2]) u3 rfl (by omega)]
 ·rw[Cg (by omega)];exact h.obj
 ·exact Af h.sa λi hi=>Cg (fun (e:o=i)=>h.ab i hi (e▸u2))
 ·have:=u6 ⟨⟨x.nd.ino,sz,l⟩,R,hR⟩ 1 [I sz,R] rfl (by simp)
  simpa using this
theorem oZ {H:AH}{ns:List Nm}{dv:List NdV}{a b:AV}(sa:SV BL 2 ns a)(sb:SV BB 3 dv b)(hn:ns.length≤100000)(hm:dv.length≤100000)(hl:∀d∈dv,d.nd.l.length≤1000000):
  ∃r H',vI H ns (dv.map NdV.nd) r H'∧BCall prog 64 [.agg [a,b]] H r H':=Zd (by
 unfold Yo;have oa:=SV.oneA sa;have ob:=SV.oneA sb
 obtain⟨H3,e3,c0,c1,g3,l3⟩:∃H3,A9 (H++[some (.cells [a,b])]) (.agg [Ac,Ac])=some (.ptr (H.length+1) 0,H3)∧H3[H.length]?=some (some (.cells [a,b]))∧H3[H.length+1]?=some (some (.cells [Ac,Ac]))∧Grew H H3∧H3.length=H.length+2:=by
  refine⟨H++[some (.cells [a,b]),some (.cells [Ac,Ac])],by simp,by simp,by rw[Ah0 (by omega)];simp,Grew.app _ _,by simp⟩
 simp[oa,ob,e3,c0];obtain⟨ra,H7,⟨p1,p2,p3,p4,p5⟩,p6⟩:=qN (sa.2 H3) (by omega);refine bC_of p6 ?_;have c7:=p3.cells c0;simp[c7];obtain⟨rb,H11,⟨q1,q2,q3,q4,q5⟩,q6⟩:=qL (sb.2 H7) (by omega);refine bC_of q6 ?_;have c8:=q3.cells c7;have ra1:=AI p1;have rb1:=AI q1;have l7:=p3.1;have l11:=q3.1
 have i0:ImH (H.length+2) H.length ns dv ra rb (H11.set H.length (some (.cells [ra,rb]))):=by
  refine⟨by rw[KI (by omega)],⟨λq=>by have:=p4 _ q;omega,λq=>by have:=q4 _ q;omega⟩,by rw[Aj2];omega,?_,p1,p5,λi hi=>by have:=p4 i hi;omega,?_,q1,q5,λi hi=>by have:=q4 i hi;omega,λi hi hh=>?_⟩
  ·exact Af (q3.slice p2) λi hi=>Cg (by have:=p4 i hi;omega)
  ·exact Af q2 λi hi=>Cg (by have:=q4 i hi;omega)
  ·have:=q4 i hh;have:=A7 p2 i hi;omega
 have e13:AJ 2 H11 (.ptr H.length 0) (.agg [ra,rb])=some (H11.set H.length (some (.cells [ra,rb]))):=by
  rw[AF (n:=2) (off:=0) (xs:=[ra,rb]) (by simp[ra1,rb1]) c8 rfl (by simp)];rfl
 have g13:Grew H (H11.set H.length (some (.cells [ra,rb]))):=⟨by simp;omega,λi hi=>by rw[Cg (by omega),(g3.trans (p3.trans q3)).2 i hi]⟩
 have c13:(H11.set H.length (some (.cells [ra,rb])))[H.length+1]?=some (some (.cells [Ac,Ac])):=by
  rw[Cg (by omega)];exact q3.cells (p3.cells c1)
 generalize H11.set H.length (some (.cells [ra,rb]))=H13 at i0 e13 g13 c13;have d0:=i0.obj;simp[BE ra1,BE rb1,e13];have ln:=CU i0.sb;simp[d0,ln];refine Uh (λn x1 x2 x13 x14 H'=>∃(k:Nat) (ew:List NdV),k+n=dv.length∧x1=.ptr H.length 0∧x2=.ptr (H.length+1) 0∧x13=I dv.length∧x14=I k∧ew.map NdV.nd=dv.map NdV.nd∧ImH (H.length+2) H.length ns ew ra rb H'∧Grew H H'∧H'[H.length+1]?=some (some (.cells [Ac,Ac]))) ?_ dv.length ⟨0,dv,by omega,rfl,rfl,rfl,rfl,rfl,i0,g13,c13⟩;rintro n x1 x2 x13 x14 H' R hR ⟨k,ew,hk,rfl,rfl,rfl,rfl,hew,hi,hg,hc⟩;unfold Q0;have el:ew.length=dv.length:=by have:=congrArg List.length hew;simpa using this
 have e0:=hi.obj;rcases Ah2 k dv.length with h | h
 ·have hx:=DJ (l:=ew) (i:=k) (by omega)
  generalize ew[k]=x at hx
  have hxl:x.nd.l.length≤1000000:=by
   have h1:x.nd∈ew.map NdV.nd:=Ai7 (Ag9 hx);rw[hew]at h1;obtain⟨d,hd,e⟩:=Aj7.1 h1;rw[← e];exact hl d hd
  obtain⟨R2,s2,p2⟩:=eD (size:=x.nd.size) x.h (by omega);obtain⟨o,off,cells,H2,w1,w2,w3,w4,w5,w6⟩:=hi.putD (sz:=x.nd.size) hx s2;simp[h,e0,w1,w2,w3];refine bP_of p2 ?_;simp[w4,Ax (a:=k) (b:=1) (by omega) (by omega)];refine hR (n - 1) _ _ _ _ _ (by omega) ⟨k+1,_,by omega,rfl,rfl,rfl,by simp,?_,w5,⟨by have:=hg.1;have:=w6.1;omega,λi hi2=>by rw[w6.2 i (by omega) (by omega),hg.2 i hi2]⟩,by rw[w6.2 _ (by omega) (by omega)];exact hc⟩;rw[← hew,Ar3];refine Aj5 λj=>?_
  rw[Al3]
  split
  ·rename_i hj
   subst hj;rw[Ai6,hx]
   simp;omega
  ·rfl
 ·have b0:Aq true 2 [ra,rb] 0=some (.agg [ra,rb]):=rfl
  have hcl:=(B5.1 hc).1
  have e5:AJ 2 H' (.ptr (H.length+1) 0) (.agg [ra,rb])=some (H'.set (H.length+1) (some (.cells [ra,rb]))):=by
   rw[AF (n:=2) (off:=0) (xs:=[ra,rb]) (by simp[ra1,rb1]) hc rfl (by simp)];rfl
  simp[show ¬k<dv.length by omega,e0,b0,e5,hcl];refine⟨ra,rb,ew,rfl,hew,⟨by simpa using hg.1,λi hi2=>by rw[Cg (by omega),hg.2 i hi2]⟩,⟨?_,hi.oa,hi.ca,λi q=>by have:=hi.ia i q;omega,?_,hi.ob,hi.cb,λi q=>by have:=hi.ib i q;omega,hi.ab⟩⟩
  ·exact Af hi.sa λi q=>Cg (by have:=hi.ia i q;omega)
  ·exact Af hi.sb λi q=>Cg (by have:=hi.ib i q;omega))
def WS (ns:List Nm)(ds:List Nd)(o:OpM):Prop:=¬AT Nm.name ns o.name∧¬AT Nd.ino ds o.ino∧DK o.name∧1≤o.ino∧o.ino≤4611686018427387904∧ns.length<16
instance (ns:List Nm) (ds:List Nd) (o:OpM):Decidable (WS ns ds o):=by unfold WS;infer_instance
def Un (ns:List Nm)(ds:List Nd)(s:List UInt8):List Nd:=if AT Nm.name ns s then Dn B8 Nd.ino ds (CD ns s)else ds
def AG (ns:List Nm)(ds:List Nd)(o:OpM):List Nm×List Nd:=
 if EJ ns ds then
  if o.kind=1 then(if WS ns ds o then(FD Bd Nm.name ns ⟨o.name,o.ino⟩,FD B8 Nd.ino ds ⟨o.ino,0,[]⟩)else(ns,ds))
  else if o.kind=2∨o.kind=3∨o.kind=4∨o.kind=5 then(ns,OA ds o)
  else if o.kind=6 then(if Sq ns o.name o.to then(FD Bd Nm.name (Fa (Dn Bd Nm.name ns o.name) o.to) ⟨o.to,CD ns o.name⟩,Un (Dn Bd Nm.name ns o.name) ds o.to)else(ns,ds))
  else if o.kind=7 then(Fa ns o.name,Un ns ds o.name)
  else(ns,ds)
 else(ns,ds)
abbrev As2:=@List.map_take
abbrev As3:=@List.map_drop
theorem eS {dv:List NdV}{i:Int}:(FD B8 NdV.ino dv (Gw i)).map NdV.nd=FD B8 Nd.ino (dv.map NdV.nd) ⟨i,0,[]⟩:=by
 unfold FD;rw[MB,Aj4,An7,As2,As3];rfl
theorem eI {dv:List NdV}{k:Int}:(Dn B8 NdV.ino dv k).map NdV.nd=Dn B8 Nd.ino (dv.map NdV.nd) k:=by
 unfold Dn;rw[MB,Aj4,As2,As3]
theorem Wm {ns:List Nm}{dv:List NdV}{s:List UInt8}:(So ns dv s).map NdV.nd=Un ns (dv.map NdV.nd) s:=by
 unfold So Un
 split
 ·exact eI
 ·rfl
theorem Z1 {ns:List Nm}{dv:List NdV}{o:OpM}:WS ns (dv.map NdV.nd) o↔T5 ns dv o:=by
 unfold WS T5;rw[Jg]
def vH (p:List Nm×List Nd)(r:AV)(X:AH):Prop:=∃R,FZ X r R∧ImV p.1 p.2 R
theorem Mo {ns:List Nm}{dv:List NdV}{a b:AV}{H:AH}{p:List Nm×List Nd}(h:ImH 3 0 ns dv a b H)(h2:H[2]?=some (some (.cells [Ac,Ac])))(hp:p=(ns,dv.map NdV.nd)):Em (.ptr 0 0) (.ptr 2 0) H (vH p):=by
 rw[Og];unfold Kq;have c0:=h.obj;have b0:Aq true 2 [a,b] 0=some (.agg [a,b]):=rfl;have ra1:=AI h.oa;have rb1:=AI h.ob;have hcl:=(B5.1 h2).1
 have e5:AJ 2 H (.ptr 2 0) (.agg [a,b])=some (H.set 2 (some (.cells [a,b]))):=by
  rw[AF (n:=2) (off:=0) (xs:=[a,b]) (by simp[ra1,rb1]) h2 rfl (by simp)];rfl
 simp[c0,b0,e5,hcl];have h3:ImH 3 0 ns dv a b (H.set 2 (some (.cells [a,b]))):=⟨by rw[Cg (by omega)];exact c0,h.lo,by simpa using h.len,Af h.sa λi q=>Cg (by have:=h.ia i q;omega),h.oa,h.ca,h.ia,Af h.sb λi q=>Cg (by have:=h.ib i q;omega),h.ob,h.cb,h.ib,h.ab⟩;obtain⟨Ra,Rb,sa,sb,fz⟩:=h3.lend;subst hp;exact⟨_,fz,Ra,Rb,dv,rfl,sa,sb,rfl⟩
theorem ZX {ns:List Nm}{ds:List Nd}{v bv:AV}{o:OpM}(hv:ImV ns ds v)(hb:Sm ns ds)(hbv:SV IW 1 o.b bv)(hbl:o.b.length≤281474976710656)(hn:o.name.length≤1000000000)(ht:o.to.length≤1000000000):
  ∃R,ImV (AG ns ds o).1 (AG ns ds o).2 R∧BPure prog 96 [v,.agg (By o bv)] R:=by
 have hids:=hv.noIds;refine BPure.FZ (by simp[Az]at hids⊢;exact⟨hids,by simp[By,noIds,Az,hbv.1]⟩) (Yn (K:=vH (AG ns ds o)) ?_);obtain⟨a,b,dv,rfl,sa,sb,rfl⟩:=hv;have b1:=hb.1;have b2:=hb.2.1;rw[Ai2]at b2;have oa:=SV.oneA sa;have ob:=SV.oneA sb;have o3:=SV.oneA hbv;unfold WB;obtain⟨H5,e5,c0,c1,c2,l5⟩:∃H5,A9 [some (.cells [a,b]),some (.cells (By o bv))] (.agg [Ac,Ac])=some (.ptr 2 0,H5)∧H5[0]?=some (some (.cells [a,b]))∧H5[1]?=some (some (.cells (By o bv)))∧H5[2]?=some (some (.cells [Ac,Ac]))∧H5.length=3:=
  ⟨[some (.cells [a,b]),some (.cells (By o bv)),some (.cells [Ac,Ac])],by simp,rfl,rfl,rfl,rfl⟩
 have e4:A9 [some (.cells [a,b])] (.agg (By o bv))=some (.ptr 1 0,[some (.cells [a,b]),some (.cells (By o bv))]):=by simp[By,o3]
 have b0:∀x y:AV,Aq true 2 [x,y] 0=some (.agg [x,y]):=λ_ _=>rfl
 simp[oa,ob,e4,e5,c0,b0];obtain⟨r,H8,⟨a',b',ew,rfl,hew,hg,ow⟩,hc⟩:=oZ (H:=H5) sa sb (by omega) b2 (λd hd=>hb.2.2.2 d.nd (Ai7 hd));refine bC_of hc ?_;have a1:=AI ow.oa;have a2:=AI ow.ob;have l8:=hg.1;rw[l5]at ow
 have e9:AJ 2 H8 (.ptr 0 0) (.agg [a',b'])=some (H8.set 0 (some (.cells [a',b']))):=by
  rw[AF (n:=2) (off:=0) (xs:=[a',b']) (by simp[a1,a2]) (hg.cells c0) rfl (by simp)];rfl
 have i9:ImH 3 0 ns ew a' b' (H8.set 0 (some (.cells [a',b']))):=⟨by rw[KI (by omega)],⟨λq=>by have:=ow.ia _ q;omega,λq=>by have:=ow.ib _ q;omega⟩,by rw[Aj2];omega,Af ow.sa λi q=>Cg (by have:=ow.ia i q;omega),ow.oa,ow.ca,ow.ia,Af ow.sb λi q=>Cg (by have:=ow.ib i q;omega),ow.ob,ow.cb,ow.ib,ow.ab⟩;have k1:(H8.set 0 (some (.cells [a',b'])))[1]?=some (some (.cells (By o bv))):=by rw[Cg (by omega)];exact hg.cells c1
 have k2:(H8.set 0 (some (.cells [a',b'])))[2]?=some (some (.cells [Ac,Ac])):=by rw[Cg (by omega)];exact hg.cells c2
 simp only[e9,AC];generalize H8.set 0 (some (.cells [a',b']))=H9 at i9 k1 k2;have d0:=i9.obj;obtain⟨Ra,Rb,ta,tb,fz⟩:=i9.lend;have hsm:Sm ns (ew.map NdV.nd):=by rw[hew];exact hb
 have keep:∀{H':AH},FrL 3 0 H9 H'→H'[2]?=some (some (.cells [Ac,Ac])):=λf=>by rw[f.2 2 (by omega) (by omega)];exact k2
 rw[← hew];have b8:Aq true 8 (By o bv) 0=some (.agg (By o bv)):=rfl;have el:ew.length=dv.length:=by have:=congrArg List.length hew;simpa using this
 have hlw:∀d∈ew,d.nd.l.length≤1000000:=λd hd=>hsm.2.2.2 d.nd (Ai7 hd)
 simp[d0,b0];refine bP_of (PCall.lend (FZs.cons fz FZs.nil) rfl (dB ⟨Ra,Rb,ew,rfl,ta,tb,rfl⟩ hsm)) ?_
 by_cases hm:EJ ns (ew.map NdV.nd)
 ·have hs:=hm.1.2.2.1
  have hd:=N6.1 hm.2.2.1;have hx:∀x∈ns,AT NdV.ino ew x.ino:=λx hx=>Jg.1 ((Se.1 hm).2.2.2.2.1 x hx)
  simp[hm,k1,By]
  by_cases q1:o.kind=1
  ·have e:AG ns (ew.map NdV.nd) o=(eG ns ew o,(eF ns ew o).map NdV.nd):=by
    unfold AG eG eF;rw[if_pos hm,if_pos q1]
    by_cases hc:T5 ns ew o
    ·rw[if_pos hc,if_pos hc,if_pos (Z1.2 hc),eS]
    ·rw[if_neg hc,if_neg hc,if_neg (λh=>hc (Z1.1 h))]
   rw[decide_eq_true q1];simp only[Aw];obtain⟨r2,H2,⟨rfl,a3,b3,i3,f3⟩,w3⟩:=qO i9 hs hd o3 b1 (by omega) hn;refine bC_of w3 ?_;exact Mo i3 (keep f3) e
  ·have hJ8:∀t:Bool,(t=true↔(o.kind=2∨o.kind=3∨o.kind=4∨o.kind=5))→Fm (.ptr 0 0) (.ptr 1 0) (.ptr 2 0) (I o.kind) (B t) H9 (vH (AG ns (ew.map NdV.nd) o)):=by
    intro t htt;rw[UV];unfold Pn
    by_cases q2:o.kind=2∨o.kind=3∨o.kind=4∨o.kind=5
    ·rw[htt.2 q2]
     have e:AG ns (ew.map NdV.nd) o=(ns,OA (ew.map NdV.nd) o):=by
      unfold AG;rw[if_pos hm,if_neg q1,if_pos q2]
     simp[k1,b8];obtain⟨r2,H2,⟨rfl,a3,b3,dw,hdw,i3,f3⟩,w3⟩:=qH i9 hs hd hbv (by omega) hbl hlw q2;refine bC_of w3 ?_;exact Mo i3 (keep f3) (by rw[hdw];exact e)
    ·have:t=false:=by cases t with
      | true=>exact absurd (htt.1 rfl) q2
      | false=>rfl
     subst this;simp;rw[Uf];unfold Oe
     by_cases q6:o.kind=6
     ·have e:AG ns (ew.map NdV.nd) o=(ZP ns o.name o.to,(ZO ns ew o.name o.to).map NdV.nd):=by
       unfold AG ZP ZO;rw[if_pos hm,if_neg q1,if_neg q2,if_pos q6]
       by_cases hc:Sq ns o.name o.to
       ·rw[if_pos hc,if_pos hc,if_pos hc,Wm]
       ·rw[if_neg hc,if_neg hc,if_neg hc]
      simp[q6,k1,By];obtain⟨r2,H2,⟨rfl,a3,b3,i3,f3⟩,w3⟩:=sG (s:=o.name) (t:=o.to) i9 hs hd hx b1 (by omega) ht;refine bC_of w3 ?_;exact Mo i3 (keep f3) e
     ·simp[q6]
      rw[Ug];unfold Of
      by_cases q7:o.kind=7
      ·have e:AG ns (ew.map NdV.nd) o=(Fa ns o.name,(So ns ew o.name).map NdV.nd):=by
        unfold AG;rw[if_pos hm,if_neg q1,if_neg q2,if_neg q6,if_pos q7,Wm]
       simp[q7,k1,By];obtain⟨r2,H2,⟨rfl,a3,b3,i3,f3⟩,w3⟩:=fZ (s:=o.name) i9 hs hd hx b1 (by omega);refine bC_of w3 ?_;exact Mo i3 (keep f3) e
      ·have e:AG ns (ew.map NdV.nd) o=(ns,ew.map NdV.nd):=by
        unfold AG;rw[if_pos hm,if_neg q1,if_neg q2,if_neg q6,if_neg q7]
       simp[q7];exact Mo i9 k2 e
   simp[q1]
   by_cases w2:o.kind=2
   ·simp[w2]
    have:=hJ8 true (by simp[w2]);rwa[w2]at this
   ·by_cases w3:o.kind=3
    ·simp[w3]
     have:=hJ8 true (by simp[w3]);rwa[w3]at this
    ·by_cases w4:o.kind=4
     ·simp[w4]
      have:=hJ8 true (by simp[w4]);rwa[w4]at this
     ·simp[w2,w3,w4]
      exact hJ8 (decide (o.kind=5)) (by simp[w2,w3,w4])
 ·have e:AG ns (ew.map NdV.nd) o=(ns,ew.map NdV.nd):=by unfold AG;rw[if_neg hm]
  have:=Mo i9 k2 e
  rw[Og]at this;unfold Kq at this;simp[d0,b0]at this;simp[hm];exact this
end
end Go.Proofs.YtadghlcfbajamaaGreat.Av
