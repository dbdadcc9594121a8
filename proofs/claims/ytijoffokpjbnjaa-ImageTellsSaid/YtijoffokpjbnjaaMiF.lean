/- Texts of this proof, one behind the other, packed into one file by a program of this session. No condition. -/
import Derived.Test.YtijoffokpjbnjaaMiE
import Derived.KernelRfl
set_option linter.unusedVariables false
set_option linter.unusedSimpArgs false
set_option maxRecDepth 100000
namespace Go.Proofs.Ytijoffokpjbnjaa.Av
open Go Go.RowKit Go.Proofs.Try
section
section
variable {κ α : Type} [DecidableEq κ] {c : κ→κ→Int} {key : α→κ}
def EU (key:α→κ)(l:List α)(k:κ):Int:=match l.findIdx? (λx=>decide (key x=k))with
 | some j=>j
 | none=> -1
theorem HD {l:List α}{k:κ}(h:¬Ba key l k):EU key l k= -1:=by
 unfold EU
 have:l.findIdx? (λx=>decide (key x=k))=none:=by
  rw[Sr];intro x hx;simp only[decide_eq_false_iff_not];exact λe=>h ⟨x,hx,e⟩
 rw[this]
theorem Md {l:List α}{k:κ}{j:Nat}{x:α}(hx:l[j]?=some x)(hk:key x=k)(hn:∀m y,m<j→l[m]?=some y→key y≠k):EU key l k=j:=by
 unfold EU
 have:l.findIdx? (λx=>decide (key x=k))=some j:=by
  obtain⟨h1,h2⟩:=Et.1 hx;rw[Ss];refine⟨h1,by rw[h2];simp[hk],λm hm=>?_⟩
  have:=hn m _ hm (Cq (by omega))
  simp[this]
 rw[this]
theorem KG {l:List α}{k:κ}(h:Ba key l k):∃(j:Nat) (x:α),EU key l k=j∧l[j]?=some x∧key x=k:=by
 unfold EU;cases hf:l.findIdx? (λx=>decide (key x=k))with
 | none=>
  rw[Sr]at hf;obtain⟨x,hx,e⟩:=h
  have:=hf x hx
  simp[e]at this
 | some j=>
  obtain⟨h1,h2,h3⟩:=Ss.1 hf;exact⟨j,l[j],rfl,Cq h1,by simpa using h2⟩
theorem KH (hc:KO c){l:List α}(hs:Dw c key l){k:κ}(h:Ba key l k):EU key l k=E9 c key l k:=by
 obtain⟨j,x,h1,h2,rfl⟩:=KG h;rw[h1,Iy hc hs h2]
theorem FI {l:List α}{k:κ}:EU key l k<0↔¬Ba key l k:=by
 constructor
 ·intro h hh
  obtain⟨j,x,h1,h2,rfl⟩:=KG hh;omega
 ·intro h;rw[HD h];omega
end
theorem KY {ns:List Nm}{ds:List Nd}{v:AV}(hv:ImV ns ds v)(hb:Sm ns ds)(s:List UInt8):BPure prog 21 [v,S (Bh s)] (I (EU Nm.name ns s)):=BPure.val (by have:=hv.noIds;simpa[Ac,noIds]using this) rfl (FB (by
 obtain⟨a,b,dv,rfl,ha,hbv,rfl⟩:=hv;have b1:=hb.1;unfold Em;have oa:=SV.oneA ha;have ob:=SV.oneA hbv;simp[oa,ob];refine Ed (λn x1 x2 x5 H'=>∃k:Nat,k+n=ns.length∧x1=S (Bh s)∧x2=.ptr 0 0∧x5=I k∧H'=[some (.cells [a,b])]∧∀m y,m<k→ns[m]?=some y→y.name≠s) ?_ ns.length ⟨0,by omega,rfl,rfl,rfl,rfl,by omega⟩;rintro n x1 x2 x5 H' R hR ⟨k,hk,rfl,rfl,rfl,rfl,hn⟩;unfold CD;rcases Ry k ns.length with h | h
 ·have hx:=Cq h
  generalize ns[k]=x at hx;simp[ha.len,h,ha.idx Bj hx rfl,G4,LN]
  by_cases c:x.name=s
  ·have:=Md hx c hn
   simp[c,this]
  ·simp[c,Am (a:=k) (b:=1) (by omega) (by omega)]
   exact hR (n - 1) _ _ _ _ (by omega) ⟨k+1,by omega,rfl,rfl,by simp,rfl,λm y hm hy=>by
    by_cases c2:m=k
    ·rw[c2,hx]at hy;injection hy with hy;rw[← hy];exact c
    ·exact hn m y (by omega) hy⟩
 ·have:EU Nm.name ns s= -1:=HD (by
   rintro⟨x,hx,e⟩;obtain⟨m,hm⟩:=RE.1 hx
   have:=(Et.1 hm).1
   exact hn m x (by omega) hm e)
  simp[ha.len,show ¬k<ns.length by omega,this]))
theorem getElem?_map_nd {dv:List NdV}{k:Nat}{d:Nd}(h:(dv.map NdV.nd)[k]?=some d):∃x,dv[k]?=some x∧x.nd=d:=by
 rw[RF]at h;exact Option.map_eq_some_iff.1 h
theorem EY {ns:List Nm}{ds:List Nd}{v:AV}(hv:ImV ns ds v)(hb:Sm ns ds)(no:Int):BPure prog 24 [v,I no] (I (EU Nd.ino ds no)):=BPure.val (by have:=hv.noIds;simpa[Ac,noIds]using this) rfl (Gg (by
 obtain⟨a,b,dv,rfl,ha,hbv,rfl⟩:=hv;have b1:=hb.2.1;rw[RU]at b1;unfold EJ;have oa:=SV.oneA ha;have ob:=SV.oneA hbv;simp[oa,ob];refine Ew (λn x1 x2 x5 H'=>∃k:Nat,k+n=dv.length∧x1=I no∧x2=.ptr 0 0∧x5=I k∧H'=[some (.cells [a,b])]∧∀m y,m<k→(dv.map NdV.nd)[m]?=some y→y.ino≠no) ?_ dv.length ⟨0,by omega,rfl,rfl,rfl,rfl,by omega⟩;rintro n x1 x2 x5 H' R hR ⟨k,hk,rfl,rfl,rfl,rfl,hn⟩;unfold CP;rcases Ry k dv.length with h | h
 ·have hx:=Cq h
  generalize dv[k]=x at hx;have hx2:(dv.map NdV.nd)[k]?=some x.nd:=by rw[RF,hx];rfl
  simp[hbv.len,h,hbv.idx AZ hx rfl,Lw]
  by_cases c:x.nd.ino=no
  ·have:=Md (key:=Nd.ino) hx2 c hn
   simp[c,this]
  ·simp[c,Am (a:=k) (b:=1) (by omega) (by omega)]
   exact hR (n - 1) _ _ _ _ (by omega) ⟨k+1,by omega,rfl,rfl,by simp,rfl,λm y hm hy=>by
    by_cases c2:m=k
    ·rw[c2,hx2]at hy;injection hy with hy;rw[← hy];exact c
    ·exact hn m y (by omega) hy⟩
 ·have:EU Nd.ino (dv.map NdV.nd) no= -1:=HD (by
   rintro⟨x,hx,e⟩;obtain⟨m,hm⟩:=RE.1 hx
   have:=(Et.1 hm).1
   rw[RU]at this;exact hn m x (by omega) hm e)
  simp[hbv.len,show ¬k<dv.length by omega,this]))
theorem LC:∀{A B:List Int},A.Nodup→(∀a∈A,a∈B)→B.length≤A.length→∀b∈B,b∈A
 | [],B,_,_,hl,b,hb=>by
  have:B=[]:=List.length_eq_zero_iff.1 (by simpa using hl);rw[this]at hb;exact hb
 | a::A,B,hn,hs,hl,b,hb=>by
  rw[List.nodup_cons]at hn
  by_cases e:b=a
  ·simp[e]
  ·have haB:=hs a (by simp)
   have hl2:(B.erase a).length≤A.length:=by
    rw[List.length_erase_of_mem haB];simp at hl;omega
   have:=LC (A:=A) (B:=B.erase a) hn.2 (λx hx=>(List.mem_erase_of_ne (fun (e2:x=a)=>hn.1 (e2▸hx))).2 (hs x (by simp[hx]))) hl2 b ((List.mem_erase_of_ne e).2 hb)
   simp[this]
def QG (N:List Nd)(ns:List Nm)(ds:List Nd):Prop:=MF ns∧Dw Dg Nd.ino ds∧(∀x∈ns,Ba Nd.ino N x.ino)∧∀d∈ds,Dp d.size d.l
theorem KM {ns:List Nm}{ds:List Nd}:BB ns ds↔ns.length≤16∧ds.length=ns.length∧QG ds ns ds:=by
 unfold BB Hd Nx QG
 constructor
 ·rintro⟨⟨h1,h2⟩,h3,h4,h5⟩
  refine⟨h1,h3,h2,h4,?_,λd hd=>(h5 d hd).2⟩
  have hn:(ds.map Nd.ino).Nodup:=by
   rw[List.Nodup,List.pairwise_map];exact h4.imp λh=>by rw[GH]at h;omega
  have:=LC (A:=ds.map Nd.ino) (B:=ns.map Nm.ino) hn (λa ha=>by
   obtain⟨d,hd,rfl⟩:=List.mem_map.1 ha;obtain⟨x,hx,e⟩:=(h5 d hd).1;rw[← e];exact RL hx) (by simp[h3])
  intro x hx;obtain⟨d,hd,e⟩:=List.mem_map.1 (this x.ino (RL hx));exact⟨d,hd,e⟩
 ·rintro⟨h1,h3,h2,h4,h5,h6⟩
  refine⟨⟨h1,h2⟩,h3,h4,λd hd=>⟨?_,h6 d hd⟩⟩
  have:=LC (A:=ns.map Nm.ino) (B:=ds.map Nd.ino) h2.2.2 (λa ha=>by
   obtain⟨x,hx,rfl⟩:=List.mem_map.1 ha;obtain⟨d,hd,e⟩:=h5 x hx;rw[← e];exact RL hd) (by simp[h3])
  obtain⟨x,hx,e⟩:=List.mem_map.1 (this d.ino (RL hd));exact⟨x,hx,e⟩
theorem BY {ns:List Nm}{ds:List Nd}{v:AV}(hv:ImV ns ds v)(hb:Sm ns ds):BPure prog 13 [v] (B (decide (BB ns ds))):=BPure.val hv.noIds rfl (EH (by
 have hv0:=hv;obtain⟨a,b,dv,rfl,ha,hbv,rfl⟩:=hv;have b1:=hb.1;have b2:=hb.2.1;rw[RU]at b2;unfold Dj;have oa:=SV.oneA ha;have ob:=SV.oneA hbv;simp[oa,ob,ha.len,hbv.len]
 by_cases h16:ns.length≤16
 ·have e16:¬(16:Int)<ns.length:=by omega
  by_cases hlen:dv.length=ns.length
  ·have hlI:((ns.length:Int)=dv.length):=by omega
   simp[e16,show ¬(16:Int)<dv.length by omega,hlI,ha.len,hbv.len];refine Dv (λn x1 x3 H'=>∃k:Nat,k+n=ns.length∧x1=.ptr 0 0∧x3=I k∧Grew [some (.cells [a,b])] H'∧QG (dv.map NdV.nd) (ns.take k) ((dv.take k).map NdV.nd)) ?_ ns.length ⟨0,by omega,rfl,rfl,Grew.refl _,by simp[QG,MF,Dw]⟩;rintro n x1 x3 H' R hR ⟨k,hk,rfl,rfl,hg,hok⟩;unfold Ck;have c0:H'[0]?=some (some (.cells [a,b])):=hg.cells rfl;rcases Ry k ns.length with h | h
   ·have hx:=Cq h
    generalize ns[k]=x at hx;have hd:=Cq (l:=dv) (i:=k) (by omega);generalize dv[k]=d at hd;have hsx:=hb.2.2.1 x (Rw hx);have htx:=Bd hx;have htd:=Bd hd
    have hdl:d.nd.l.length≤281474976710656:=by
     have:=hb.2.2.2 d.nd (RL (Rw hd));omega
    have hstep:BB ns (dv.map NdV.nd)→(CT x.name∧(∀y,0<k∧ns[k - 1]?=some y→Bq y.name x.name<0)∧1≤x.ino∧x.ino≤4611686018427387904∧¬Ba Nm.ino (ns.take k) x.ino)∧(∀y,0<k∧dv[k - 1]?=some y→y.nd.ino<d.nd.ino)∧Ba Nd.ino (dv.map NdV.nd) x.ino∧Dp d.nd.size d.nd.l:=by
     intro hm;obtain⟨-,-,o1,o2,o3,o4⟩:=KM.1 hm;refine⟨?_,?_,o3 x (Rw hx),o4 d.nd (RL (Rw hd))⟩
     ·rw[← Sh (k+1) ns,htx]at o1
      have:=(E8.1 (Mh o1)).2
      simpa only[C5 (show k≤ns.length by omega)]using this
     ·rintro y ⟨h0,hy⟩
      have:=DX o2 (i:=k - 1) (j:=k) (x:=y.nd) (y:=d.nd) (by rw[RF,hy];rfl) (by rw[RF,hd];rfl) (by omega)
      rwa[GH]at this
    obtain⟨X,ea,c1,c2,g2⟩:∃X,Ex 2 (H'++[some (.cells [S (Bh []),I 0])]) (.ptr H'.length 0) (.agg (Co x))=some X∧X[0]?=some (some (.cells [a,b]))∧X[H'.length]?=some (some (.cells [S (Bh x.name),I x.ino]))∧Grew H' X:=by
     have g1:=Grew.app H' [some (.cells (Co x))];exact⟨_,by simp[Ex,Co,AM],g1.cells c0,by simp[Co],g1⟩
    simp[c0,ha.len,h,ha.idx Bj hx rfl,JE,IA,ea];simp[c2];refine bP_of (Gv (s:=x.name) (by omega)) ?_
    by_cases a1:CT x.name
    ·by_cases a2:x.ino<1
     ·have:¬BB ns (dv.map NdV.nd):=λhm=>by have:=(hstep hm).1.2.2.1;omega
      simp[c2,a1,a2,this]
     ·by_cases a3:4611686018427387904<x.ino
      ·have:¬BB ns (dv.map NdV.nd):=λhm=>by have:=(hstep hm).1.2.2.2.1;omega
       simp[c2,a1,a2,a3,this]
      ·rcases RP k with h0 | hk0
       ·have e0:¬0<k:=by omega
        simp[c2,a1,a2,a3,e0,c1,Ae];refine bP_of (EY hv0 hb x.ino) ?_
        by_cases a4:Ba Nd.ino (dv.map NdV.nd) x.ino
        ·have i4:¬EU Nd.ino (dv.map NdV.nd) x.ino<0:=by rw[FI];exact λh=>h a4
         simp[c2,i4];refine BE _ (λn x1 x3 x4 x5 H''=>∃j:Nat,j+n=k∧x1=.ptr 0 0∧x3=I k∧x4=.ptr H'.length 0∧x5=I j∧X=H''∧¬Ba Nm.ino (ns.take j) x.ino) ?_ k ⟨0,by omega,rfl,rfl,rfl,rfl,rfl,by simp[c2,Ba]⟩;rintro n2 y1 y3 y4 y5 H2 R2 hR2 ⟨j,hj,rfl,rfl,rfl,rfl,rfl,hnj⟩;unfold Bt;rcases Ry j k with hjk | hjk
         ·have hz:=Cq (l:=ns) (i:=j) (by omega)
          generalize ns[j]=z at hz;simp[c2,hjk,c1,ha.idx Bj hz rfl,JV]
          by_cases cz:z.ino=x.ino
          ·have:¬BB ns (dv.map NdV.nd):=λhm=>(hstep hm).1.2.2.2.2 ⟨z,RE.2 ⟨j,by rw[RB,if_pos hjk];exact hz⟩,cz⟩
           simp[c2,cz,this]
          ·simp[c2,cz,Am (a:=j) (b:=1) (by omega) (by omega)]
           refine hR2 (n2 - 1) _ _ _ _ _ (by omega) ⟨j+1,by omega,rfl,rfl,rfl,by simp,rfl,?_⟩;rw[Bd hz];rintro⟨w,hw,e⟩;rcases RN.1 hw with hw | hw
           ·exact hnj ⟨w,hw,e⟩
           ·rw[Sk]at hw;subst hw;exact cz e
         ·have ejk:j=k:=by omega
          subst ejk;have nj:¬j<j:=by omega
          have ei:=hbv.idx AZ hd rfl
          have nxt:(∀y,0<j∧dv[j - 1]?=some y→y.nd.ino<d.nd.ino)→Dp d.nd.size d.nd.l→R [.ptr 0 0,I ((j:Int)+1)] X:=λq1 q2=>by
           refine hR (n - 1) _ _ _ (by omega) ⟨j+1,by omega,rfl,by simp,hg.trans g2,?_⟩;rw[htx,htd,RR];obtain⟨o1,o2,o3,o4⟩:=hok;refine⟨E8.2 ⟨o1,a1,(λy hy=>by have:=(C5 (by omega) y).1 hy;omega),by omega,by omega,hnj⟩,(FX koI).2 ⟨o2,?_⟩,?_,?_⟩
           ·intro y hy
            rw[S8]at hy;obtain⟨w,hw,rfl⟩:=Option.map_eq_some_iff.1 hy;rw[GH];exact q1 w ((C5 (by omega) w).1 hw)
           ·intro y hy
            rcases RN.1 hy with hy | hy
            ·exact o3 y hy
            ·rw[Sk]at hy;subst hy;exact a4
           ·intro y hy
            rcases RN.1 hy with hy | hy
            ·exact o4 y hy
            ·simp at hy;subst hy;exact q2
          have n0:¬0<j:=by omega
          simp[c2,n0,c1,ei,ID];refine bP_of (EC d.h hdl) ?_
          by_cases q2:Dp d.nd.size d.nd.l
          ·simp[c2,q2,Am (a:=j) (b:=1) (by omega) (by omega)]
           exact nxt (λy hy=>by omega) q2
          ·have:¬BB ns (dv.map NdV.nd):=λhm=>q2 (hstep hm).2.2.2
           simp[c2,q2,this]
        ·have i4:EU Nd.ino (dv.map NdV.nd) x.ino<0:=FI.2 a4
         have:¬BB ns (dv.map NdV.nd):=λhm=>a4 (hstep hm).2.2.1
         simp[c2,i4,this]
       ·have hy:=Cq (l:=ns) (i:=k - 1) (by omega)
        generalize ns[k - 1]=y at hy;have es:Aq .sub (I k) (I 1)=some (I ((k - 1:Nat):Int)):=by rw[It (by omega) (by omega)];congr 3;omega
        have eiy:=ha.idx Bj hy (i:=((k - 1:Nat):Int)) rfl;simp[c2,a1,a2,a3,hk0,c1,es,eiy,G4,FE]
        by_cases a6:Bq y.name x.name<0
        ·simp[c2,show ¬0≤Bq y.name x.name by omega,c1,Ae]
         refine bP_of (EY hv0 hb x.ino) ?_
         by_cases a4:Ba Nd.ino (dv.map NdV.nd) x.ino
         ·have i4:¬EU Nd.ino (dv.map NdV.nd) x.ino<0:=by rw[FI];exact λh=>h a4
          simp[c2,i4];refine BE _ (λn x1 x3 x4 x5 H''=>∃j:Nat,j+n=k∧x1=.ptr 0 0∧x3=I k∧x4=.ptr H'.length 0∧x5=I j∧X=H''∧¬Ba Nm.ino (ns.take j) x.ino) ?_ k ⟨0,by omega,rfl,rfl,rfl,rfl,rfl,by simp[c2,Ba]⟩;rintro n2 y1 y3 y4 y5 H2 R2 hR2 ⟨j,hj,rfl,rfl,rfl,rfl,rfl,hnj⟩;unfold Bt;rcases Ry j k with hjk | hjk
          ·have hz:=Cq (l:=ns) (i:=j) (by omega)
           generalize ns[j]=z at hz;simp[c2,hjk,c1,ha.idx Bj hz rfl,JV]
           by_cases cz:z.ino=x.ino
           ·have:¬BB ns (dv.map NdV.nd):=λhm=>(hstep hm).1.2.2.2.2 ⟨z,RE.2 ⟨j,by rw[RB,if_pos hjk];exact hz⟩,cz⟩
            simp[c2,cz,this]
           ·simp[c2,cz,Am (a:=j) (b:=1) (by omega) (by omega)]
            refine hR2 (n2 - 1) _ _ _ _ _ (by omega) ⟨j+1,by omega,rfl,rfl,rfl,by simp,rfl,?_⟩;rw[Bd hz];rintro⟨w,hw,e⟩;rcases RN.1 hw with hw | hw
            ·exact hnj ⟨w,hw,e⟩
            ·rw[Sk]at hw;subst hw;exact cz e
          ·have ejk:j=k:=by omega
           subst ejk;have nj:¬j<j:=by omega
           have ei:=hbv.idx AZ hd rfl
           have nxt:(∀y,0<j∧dv[j - 1]?=some y→y.nd.ino<d.nd.ino)→Dp d.nd.size d.nd.l→R [.ptr 0 0,I ((j:Int)+1)] X:=λq1 q2=>by
            refine hR (n - 1) _ _ _ (by omega) ⟨j+1,by omega,rfl,by simp,hg.trans g2,?_⟩;rw[htx,htd,RR];obtain⟨o1,o2,o3,o4⟩:=hok;refine⟨E8.2 ⟨o1,a1,(λz hz=>by have:=((C5 (by omega) z).1 hz).2;rw[hy]at this;injection this with this;rw[← this];exact a6),by omega,by omega,hnj⟩,(FX koI).2 ⟨o2,?_⟩,?_,?_⟩
            ·intro y hy
             rw[S8]at hy;obtain⟨w,hw,rfl⟩:=Option.map_eq_some_iff.1 hy;rw[GH];exact q1 w ((C5 (by omega) w).1 hw)
            ·intro y hy
             rcases RN.1 hy with hy | hy
             ·exact o3 y hy
             ·rw[Sk]at hy;subst hy;exact a4
            ·intro y hy
             rcases RN.1 hy with hy | hy
             ·exact o4 y hy
             ·simp at hy;subst hy;exact q2
           have hw:=Cq (l:=dv) (i:=j - 1) (by omega);generalize dv[j - 1]=w at hw;have es:Aq .sub (I j) (I 1)=some (I ((j - 1:Nat):Int)):=by rw[It (by omega) (by omega)];congr 3;omega
           have ew:=hbv.idx AZ hw (i:=((j - 1:Nat):Int)) rfl;simp[c2,hk0,c1,es,ew,ei,Lw]
           by_cases q1:d.nd.ino≤w.nd.ino
           ·have:¬BB ns (dv.map NdV.nd):=λhm=>by have:=(hstep hm).2.1 w ⟨hk0,hw⟩;omega
            simp[c2,q1,this]
           ·simp[c2,q1,c1,ei,ID]
            refine bP_of (EC d.h hdl) ?_
            by_cases q2:Dp d.nd.size d.nd.l
            ·simp[c2,q2,Am (a:=j) (b:=1) (by omega) (by omega)]
             exact nxt (λy hy=>by have:=hy.2;rw[hw]at this;injection this with this;rw[← this];omega) q2
            ·have:¬BB ns (dv.map NdV.nd):=λhm=>q2 (hstep hm).2.2.2
             simp[c2,q2,this]
         ·have i4:EU Nd.ino (dv.map NdV.nd) x.ino<0:=FI.2 a4
          have:¬BB ns (dv.map NdV.nd):=λhm=>a4 (hstep hm).2.2.1
          simp[c2,i4,this]
        ·have:¬BB ns (dv.map NdV.nd):=λhm=>a6 ((hstep hm).1.2.1 y ⟨hk0,hy⟩)
         simp[c2,show 0≤Bq y.name x.name by omega,this]
    ·have:¬BB ns (dv.map NdV.nd):=λhm=>a1 (hstep hm).1.1
     simp[c2,a1,this]
   ·have e1:ns.take k=ns:=RH (by omega)
    have e2:dv.take k=dv:=RH (by omega);rw[e1,e2]at hok;have:BB ns (dv.map NdV.nd):=KM.2 ⟨h16,by simp[hlen],hok⟩;simp[c0,ha.len,show ¬k<ns.length by omega,this]
  ·have:¬BB ns (dv.map NdV.nd):=λh=>hlen (by simpa using h.2.1)
   have hlI:¬((ns.length:Int)=dv.length):=by omega
   simp[e16,hlI,ha.len,hbv.len,this]
 ·have:¬BB ns (dv.map NdV.nd):=λh=>h16 h.1.1
  have e16:(16:Int)<ns.length:=by omega
  simp[e16,this]))
end
section
theorem Kh {H:AH}{size:Int}{v:AV}{cs:List AV}{n:Nat}(h:Ab H 9 v=some (cs,n))(h1:oneA v=true)(hn:n≤1000000000):
  ∃r H',(∃w,r=.agg [I size,w]∧EX w=true∧Ab H' 9 w=some (cs,n)∧Grew H H'∧∀i∈HC w,H.length≤i)∧BJ prog 25 [.agg [I size,v]] H r H':=Fs (by
 unfold DT;have g:=Grew.app H [some (.cells [I size,v]),some (.cells [I 0,AI])];obtain⟨w,H2,a1,a2,a3,a4,a5,a6⟩:=Kq (sz:=9) (bytes:=16) (H:=H++[some (.cells [I size,v]),some (.cells [I 0,AI])]) (v:=AI) (cs:=[]) (n:=0) rfl rfl (Fx (g.slice h)) (by omega);have g2:Grew (H++[some (.cells [I size,v]),some (.cells [I 0,AI])]) H2:=⟨a4,λi hi=>a5 i hi (by simp[HC])⟩;have c0:=g2.cells (o:=H.length) (x:=some (.cells [I size,v])) (by simp);have c1:=g2.cells (o:=H.length+1) (x:=some (.cells [I 0,AI])) (by rw[RC (by omega)];simp);have l2:H.length+2≤H2.length:=by simpa using a4
 have hw:=LB a2;have a6':∀i∈HC w,H.length+2≤i:=λi hi=>(a6 i hi).elim (by simp[HC]) (λh=>by simpa using h)
 simp[h1,a1,ET hw];rw[JQ (n:=2) (off:=0) (x:=.agg [I size,w]) (xs:=[I size,w]) (cs:=[I 0,AI]) (by simp[hw]) c1 rfl (by simp)];simp[show H.length+1<H2.length by omega,c0,Ae];refine⟨a2,by simpa using(Fm a3 λi hi=>L2 (by have:=a6' i hi;omega)),?_,λi hi=>?_⟩
 ·refine⟨by simp;omega,λi hi=>?_⟩
  rw[L2 (by omega),g2.2 i (by simp;omega),g.2 i hi]
 ·have:=a6' i hi;omega)
section
variable {κ α : Type} [DecidableEq κ] {c : κ→κ→Int} {key : α→κ}
def Ob (key:α→κ)(l:List α)(k:κ):Option α:=l.find? (λx=>decide (key x=k))
theorem LV {l:List α}{k:κ}(h:Ba key l k):∃x,Ob key l k=some x∧x∈l∧key x=k:=by
 obtain⟨y,hy,e⟩:=h;unfold Ob;cases hf:l.find? (λx=>decide (key x=k))with
 | none=>rw[List.find?_eq_none]at hf;have:=hf y hy;simp[e]at this
 | some x=>exact⟨x,rfl,List.mem_of_find?_eq_some hf,by simpa using List.find?_some hf⟩
theorem OX (hc:KO c){l:List α}(hs:Dw c key l){x:α}(hx:x∈l):Ob key l (key x)=some x:=by
 obtain⟨y,h1,h2,h3⟩:=LV (l:=l) (k:=key x) ⟨x,hx,rfl⟩;rw[h1,MN hc hs h2 hx h3]
theorem Hf (hc:KO c){l:List α}(hs:Dw c key l){k:κ}(h:Ba key l k):∃x,l[E9 c key l k]?=some x∧Ob key l k=some x∧key x=k:=by
 obtain⟨x,h1,rfl⟩:=(F3 hc hs).1 h;exact⟨x,h1,OX hc hs (Rw h1),rfl⟩
end
theorem Jb {l:List NdV}:Dw Dg Nd.ino (l.map NdV.nd)↔Dw Dg NdV.ino l:=by
 unfold Dw;rw[List.pairwise_map]
theorem IP {l:List NdV}{k:Int}:Ba Nd.ino (l.map NdV.nd) k↔Ba NdV.ino l k:=by
 constructor
 ·rintro⟨x,hx,e⟩
  obtain⟨y,hy,rfl⟩:=List.mem_map.1 hx;exact⟨y,hy,e⟩
 ·rintro⟨y,hy,e⟩
  exact⟨y.nd,RL hy,e⟩
theorem Ny {l:List NdV}{k:Int}:E9 Dg Nd.ino (l.map NdV.nd) k=E9 Dg NdV.ino l k:=by
 unfold E9;rw[List.takeWhile_map,RU];rfl
theorem Oj {ns:List Nm}{a b:AV}{dv:List NdV}(ha:SV Co 2 ns a)(hb:SV BA 3 dv b)(hs:Dw Bq Nm.name ns)(hl:ns.length≤281474976710656)(s:List UInt8):
  BPure prog 20 [.agg [a,b],S (Bh s)] (.tup [I (E9 Bq Nm.name ns s),B (decide (Ba Nm.name ns s))]):=BPure.val (by simp[Ac,noIds,ha.1,hb.1]) rfl (IT (by
 unfold Ic;have oa:=SV.oneA ha;have ob:=SV.oneA hb;simp[oa,ob];refine Al (Pw ha hs hl s) ?_
 simp))
theorem Nw {ns:List Nm}{a b:AV}{dv:List NdV}(ha:SV Co 2 ns a)(hb:SV BA 3 dv b)(hs:Dw Dg NdV.ino dv)(hl:dv.length≤281474976710656)(no:Int):
  BPure prog 22 [.agg [a,b],I no] (.tup [I (E9 Dg NdV.ino dv no),B (decide (Ba NdV.ino dv no))]):=BPure.val (by simp[Ac,noIds,ha.1,hb.1]) rfl (Jq (by
 unfold IV;have oa:=SV.oneA ha;have ob:=SV.oneA hb;simp[oa,ob];refine Al (Pv hb hs hl no) ?_
 simp))
theorem Nk {l:List Ext}{v:AV}(hv:SV Bi 9 l v)(hl:l.length≤1000000000):∃R,SV Bi 9 l R∧BPure prog 42 [v] R:=by
 obtain⟨r,X,⟨-,h1,-,-⟩,h2⟩:=KA (hv.2 []) hl;exact BPure.sl (by simp[Ac,hv.1]) (F9 λx _=>Ej x) ⟨r,X,h1,h2⟩
theorem Nl {l:List Ext}{v:AV}{size:Int}(hv:SV Bi 9 l v)(hl:l.length≤1000000000):∃R,SV Bi 9 l R∧BPure prog 23 [.agg [I size,v]] (.agg [I size,R]):=by
 obtain⟨R,hR,hc⟩:=Nk hv hl;refine⟨R,hR,BPure.val (by simp[Ac,noIds,hv.1]) (by simp[noIds,Ac,hR.1]) (In ?_)⟩;unfold GX;have o1:=SV.oneA hv;have o2:=SV.oneA hR;simp[o1];refine bP_of hc ?_;simp[o2,ET o2,Ex,AM,Ae]
theorem Nn {l:List Ext}{v:AV}{size:Int}(hv:SV Bi 9 l v)(hl:l.length≤1000000000):∃R,SV Bi 9 l R∧BPure prog 25 [.agg [I size,v]] (.agg [I size,R]):=by
 obtain⟨r,X,⟨w,rfl,h3,h1,-,-⟩,h2⟩:=Kh (size:=size) (hv.2 []) (SV.oneA hv) hl;obtain⟨R,hR,fR⟩:=FZ.sv h1 (F9 λx _=>Ej x);obtain⟨R2,rfl,h⟩:=BPure.FZ (Q:=λR'=>R'=.agg [I size,R]) (by simp[Ac,noIds,hv.1]) ⟨_,X,⟨_,FZ.agg (FZs.cons (FZ.lit _) (FZs.cons fR FZs.nil)),rfl⟩,h2⟩;exact⟨R,hR,h⟩
def Nu (ns:List Nm)(s:List UInt8):Int:=match Ob Nm.name ns s with
 | some x=>x.ino
 | none=>0
def IN (ns:List Nm)(ds:List Nd)(s:List UInt8):Prop:=BB ns ds∧Ba Nm.name ns s
instance (ns:List Nm) (ds:List Nd) (s:List UInt8):Decidable (IN ns ds s):=by unfold IN;infer_instance
def Gm (ns:List Nm)(ds:List Nd)(s:List UInt8):Int:=if IN ns ds s then Nu ns s else 0
theorem OF {ns:List Nm}{ds:List Nd}{v:AV}(hv:ImV ns ds v)(hb:Sm ns ds)(s:List UInt8):BPure prog 6 [v,S (Bh s)] (.tup [I (Gm ns ds s),B (decide (IN ns ds s))]):=BPure.val (by have:=hv.noIds;simpa[Ac,noIds]using this) rfl (Jn (by
 have hv0:=hv;obtain⟨a,b,dv,rfl,ha,hbv,rfl⟩:=hv;unfold IQ;have oa:=SV.oneA ha;have ob:=SV.oneA hbv;simp[oa,ob,Ae];refine Al (Ko hv0 hb) ?_
 by_cases hm:BB ns (dv.map NdV.nd)
 ·simp[hm,Ae]
  refine bC_of (Oj ha hbv hm.1.2.2.1 (by have:=hb.1;omega) s _) ?_
  by_cases hh:Ba Nm.name ns s
  ·obtain⟨x,h1,h2,h3⟩:=Hf koN hm.1.2.2.1 hh
   have e:Gm ns (dv.map NdV.nd) s=x.ino:=by unfold Gm Nu;rw[if_pos ⟨hm,hh⟩,h2]
   have e2:IN ns (dv.map NdV.nd) s:=⟨hm,hh⟩;simp[hh,ha.idx Bj h1 rfl,JV,e,e2]
  ·have e2:¬IN ns (dv.map NdV.nd) s:=λh=>hh h.2
   have e:Gm ns (dv.map NdV.nd) s=0:=if_neg e2;simp[hh,e,e2]
 ·have e2:¬IN ns (dv.map NdV.nd) s:=λh=>hm h.1
  have e:Gm ns (dv.map NdV.nd) s=0:=if_neg e2;simp[hm,e,e2]))
theorem LF {ns:List Nm}{ds:List Nd}{v:AV}(hv:ImV ns ds v)(hb:Sm ns ds)(s:List UInt8):BPure prog 7 [v,S (Bh s)] (.tup [I (Gm ns ds s),B (decide (IN ns ds s))]):=BPure.val (by have:=hv.noIds;simpa[Ac,noIds]using this) rfl (Ge (by
 have hv0:=hv;obtain⟨a,b,dv,rfl,ha,hbv,rfl⟩:=hv;unfold EG;have oa:=SV.oneA ha;have ob:=SV.oneA hbv;simp[oa,ob,Ae];refine Al (KY hv0 hb s) ?_;refine Al (BY hv0 hb) ?_
 by_cases hm:BB ns (dv.map NdV.nd)
 ·by_cases hh:Ba Nm.name ns s
  ·obtain⟨x,h1,h2,h3⟩:=Hf koN hm.1.2.2.1 hh
   have e:Gm ns (dv.map NdV.nd) s=x.ino:=by unfold Gm Nu;rw[if_pos ⟨hm,hh⟩,h2]
   have e2:IN ns (dv.map NdV.nd) s:=⟨hm,hh⟩;have e3:=KH koN hm.1.2.2.1 hh;have e4:¬EU Nm.name ns s<0:=by omega
   simp[hm,e3,show ¬((E9 Bq Nm.name ns s:Nat):Int)<0 by omega,ha.idx Bj h1 rfl,JV,e,e2]
  ·have e2:¬IN ns (dv.map NdV.nd) s:=λh=>hh h.2
   have e:Gm ns (dv.map NdV.nd) s=0:=if_neg e2;have e4:EU Nm.name ns s<0:=FI.2 hh;simp[hm,e4,e,e2]
 ·have e2:¬IN ns (dv.map NdV.nd) s:=λh=>hm h.1
  have e:Gm ns (dv.map NdV.nd) s=0:=if_neg e2;simp[hm,e,e2]))
end
section
def L3 (ns:List Nm)(ds:List Nd)(no:Int):Prop:=BB ns ds∧Ba Nd.ino ds no
instance (ns:List Nm) (ds:List Nd) (no:Int):Decidable (L3 ns ds no):=by unfold L3;infer_instance
def GQ (ns:List Nm)(ds:List Nd)(no:Int):Nd:=if L3 ns ds no then(Ob Nd.ino ds no).getD ⟨0,0,[]⟩else⟨0,0,[]⟩
theorem LW {dv:List NdV}{no:Int}{x:NdV}(h:Ob NdV.ino dv no=some x):Ob Nd.ino (dv.map NdV.nd) no=some x.nd:=by
 unfold Ob at h⊢;rw[List.find?_map]
 show Option.map NdV.nd (dv.find? λx=>decide (x.nd.ino=no))=_
 rw[show(dv.find? λx=>decide (x.nd.ino=no))=some x from h];rfl
theorem P9 {ns:List Nm}{ds:List Nd}{v:AV}(hv:ImV ns ds v)(hb:Sm ns ds)(no:Int):∃R,SV Bi 9 (GQ ns ds no).l R∧BPure prog 8 [v,I no] (.tup [.agg [I (GQ ns ds no).size,R],B (decide (L3 ns ds no))]):=by
 have hv0:=hv;obtain⟨a,b,dv,rfl,ha,hbv,rfl⟩:=hv;have oa:=SV.oneA ha;have ob:=SV.oneA hbv
 by_cases hh:L3 ns (dv.map NdV.nd) no
 ·have hm:=hh.1
  have hs:=Jb.1 hm.2.2.1;have hk:=IP.1 hh.2;obtain⟨x,h1,h2,h3⟩:=Hf koI hs hk;have e:GQ ns (dv.map NdV.nd) no=x.nd:=by unfold GQ;rw[if_pos hh,LW h2];rfl
  rw[e];obtain⟨R,hR,hc⟩:=Nl (size:=x.nd.size) x.h (by have:=hb.2.2.2 x.nd (RL (Rw h1));omega);refine⟨R,hR,BPure.val (by have:=hv0.noIds;simpa[Ac,noIds]using this) (by simp[noIds,Ac,hR.1]) (GR ?_)⟩;unfold HE;simp[oa,ob,Ae];refine Al (Ko hv0 hb) ?_;simp[hm,Ae];refine bC_of (Nw ha hbv hs (by have:=hb.2.1;simp at this;omega) no _) ?_;simp[hk,hbv.idx AZ h1 rfl,ID];refine Al hc ?_;have o2:=SV.oneA hR;simp[o2,ET o2,Ex,AM,Ae,hh]
 ·have e:GQ ns (dv.map NdV.nd) no=⟨0,0,[]⟩:=if_neg hh
  rw[e];refine⟨AI,SV.nil,BPure.val (by have:=hv0.noIds;simpa[Ac,noIds]using this) rfl (GR ?_)⟩;unfold HE;simp[oa,ob,Ae];refine Al (Ko hv0 hb) ?_
  by_cases hm:BB ns (dv.map NdV.nd)
  ·have hs:=Jb.1 hm.2.2.1
   have hk:¬Ba NdV.ino dv no:=λh=>hh ⟨hm,IP.2 h⟩
   simp[hm,Ae];refine bC_of (Nw ha hbv hs (by have:=hb.2.1;simp at this;omega) no _) ?_;simp[hk,Ex,AM,Ae,hh]
  ·simp[hm,Ex,AM,Ae,hh]
theorem MK {ns:List Nm}{ds:List Nd}{v:AV}(hv:ImV ns ds v)(hb:Sm ns ds)(no:Int):∃R,SV Bi 9 (GQ ns ds no).l R∧BPure prog 9 [v,I no] (.tup [.agg [I (GQ ns ds no).size,R],B (decide (L3 ns ds no))]):=by
 have hv0:=hv;obtain⟨a,b,dv,rfl,ha,hbv,rfl⟩:=hv;have oa:=SV.oneA ha;have ob:=SV.oneA hbv
 by_cases hh:L3 ns (dv.map NdV.nd) no
 ·have hm:=hh.1
  have hs:=Jb.1 hm.2.2.1;have hk:=IP.1 hh.2;obtain⟨x,h1,h2,h3⟩:=Hf koI hs hk;have e:GQ ns (dv.map NdV.nd) no=x.nd:=by unfold GQ;rw[if_pos hh,LW h2];rfl
  rw[e];obtain⟨R,hR,hc⟩:=Nn (size:=x.nd.size) x.h (by have:=hb.2.2.2 x.nd (RL (Rw h1));omega);refine⟨R,hR,BPure.val (by have:=hv0.noIds;simpa[Ac,noIds]using this) (by simp[noIds,Ac,hR.1]) (DQ ?_)⟩;unfold Du;simp[oa,ob,Ae];refine Al (EY hv0 hb no) ?_;refine Al (BY hv0 hb) ?_;have e3:EU Nd.ino (dv.map NdV.nd) no=E9 Dg NdV.ino dv no:=by rw[KH koI hm.2.2.1 hh.2,Ny]
  simp[hm,e3,show ¬((E9 Dg NdV.ino dv no:Nat):Int)<0 by omega,hbv.idx AZ h1 rfl,ID];refine Al hc ?_;have o2:=SV.oneA hR;simp[o2,ET o2,Ex,AM,Ae,hh]
 ·have e:GQ ns (dv.map NdV.nd) no=⟨0,0,[]⟩:=if_neg hh
  rw[e];refine⟨AI,SV.nil,BPure.val (by have:=hv0.noIds;simpa[Ac,noIds]using this) rfl (DQ ?_)⟩;unfold Du;simp[oa,ob,Ae];refine Al (EY hv0 hb no) ?_;refine Al (BY hv0 hb) ?_
  by_cases hm:BB ns (dv.map NdV.nd)
  ·have hk:¬Ba Nd.ino (dv.map NdV.nd) no:=λh=>hh ⟨hm,h⟩
   have e4:=(FI (key:=Nd.ino)).2 hk;simp[hm,e4,Ex,AM,Ae,hh]
  ·simp[hm,Ex,AM,Ae,hh]
def EK (ds:List Nd):Nat:=(ds.map λd=>d.l.length).sum
def Ij (ns:List Nm)(ds:List Nd):Int:=if BB ns ds then EK ds else 0
theorem HO {ds:List Nd}{d:Nd}:EK (ds++[d])=EK ds+d.l.length:=by simp[EK]
theorem Kl {N:Nat}:∀{ds:List Nd},(∀d∈ds,d.l.length≤N)→EK ds≤ds.length*N
 | [],_=>by simp[EK]
 | d::ds,h=>by
  have ih:=Kl (ds:=ds) λx hx=>h x (by simp[hx])
  have:=h d (by simp)
  unfold EK at ih⊢;rw[Sg,List.sum_cons,Sz,Su];omega
theorem JF {ds:List Nd}(h:∀d∈ds,d.l.length≤1000000)(hn:ds.length≤100000)(k:Nat):EK (ds.take k)≤100000000000:=by
 have h1:=Kl (N:=1000000) (ds:=ds.take k) λd hd=>h d (Sq hd)
 have:(ds.take k).length≤100000:=by rw[RD];omega
 have:=RJ 1000000 this
 omega
theorem OI {ns:List Nm}{ds:List Nd}{v:AV}(hv:ImV ns ds v)(hb:Sm ns ds):BPure prog 15 [v] (I (Ij ns ds)):=BPure.val hv.noIds rfl (Jp (by
 have hv0:=hv;obtain⟨a,b,dv,rfl,ha,hbv,rfl⟩:=hv;have oa:=SV.oneA ha;have ob:=SV.oneA hbv;have b2:=hb.2.1;unfold IS;simp[oa,ob,Ae];refine Al (Ko hv0 hb) ?_
 by_cases hm:BB ns (dv.map NdV.nd)
 ·simp[hm,hbv.len]
  have e:Ij ns (dv.map NdV.nd)=EK (dv.map NdV.nd):=if_pos hm;rw[e];refine G6 (λn x3 x10 x11 x12 H'=>∃k:Nat,k+n=dv.length∧x3=I (EK ((dv.map NdV.nd).take k))∧x10=b∧x11=I dv.length∧x12=I k) ?_ dv.length ⟨0,by omega,rfl,rfl,rfl,rfl⟩;rintro n x3 x10 x11 x12 H' R hR ⟨k,hk,rfl,rfl,rfl,rfl⟩;unfold Fi;rw[RU]at b2;rcases Ry k dv.length with h | h
  ·have hx:=Cq h
   generalize dv[k]=d at hx;have hx2:(dv.map NdV.nd)[k]?=some d.nd:=by rw[RF,hx];rfl
   have h1:=JF hb.2.2.2 (by simpa using b2) k;have h2:=hb.2.2.2 d.nd (Rw hx2)
   have ea:Ex 3 (H'++[some (.cells [I 0,I 0,AI])]) (.ptr H'.length 0) (.agg (BA d))=some (H'++[some (.cells (BA d))]):=by
    have:=SV.oneA d.h
    simp[Ex,BA,AM,this]
   simp[h,hbv.idx AZ hx rfl,KV,ea];simp[BA,d.h.len,Am (a:=k) (b:=1) (by omega) (by omega),Am (a:=(EK (List.take k (dv.map NdV.nd)):Int)) (b:=d.nd.l.length) (by omega) (by omega)];exact hR (n - 1) _ _ _ _ _ (by omega) ⟨k+1,by omega,by rw[Bd hx2,HO];simp,rfl,rfl,by simp⟩
  ·have:(dv.map NdV.nd).take k=dv.map NdV.nd:=RH (by simp;omega)
   simp[show ¬k<dv.length by omega,this]
 ·have e:Ij ns (dv.map NdV.nd)=0:=if_neg hm
  simp[hm,e]))
theorem LG {ns:List Nm}{ds:List Nd}{v:AV}(hv:ImV ns ds v)(hb:Sm ns ds):BPure prog 16 [v] (I (Ij ns ds)):=BPure.val hv.noIds rfl (Gf (by
 have hv0:=hv;obtain⟨a,b,dv,rfl,ha,hbv,rfl⟩:=hv;have oa:=SV.oneA ha;have ob:=SV.oneA hbv;have b2:=hb.2.1;rw[RU]at b2;unfold EI;simp[oa,ob,Ae];refine Ev (λn x1 x3 x4 H'=>∃k:Nat,k+n=dv.length∧x1=.ptr 0 0∧x3=I (EK ((dv.map NdV.nd).take k))∧x4=I k∧H'=[some (.cells [a,b])]∧(0<k→BB ns (dv.map NdV.nd))) ?_ dv.length ⟨0,by omega,rfl,rfl,rfl,rfl,by omega⟩;rintro n x1 x3 x4 H' R hR ⟨k,hk,rfl,rfl,rfl,rfl,h0⟩;unfold CO;rcases Ry k dv.length with h | h
 ·have hx:=Cq h
  generalize dv[k]=d at hx;have hx2:(dv.map NdV.nd)[k]?=some d.nd:=by rw[RF,hx];rfl
  have h1:=JF hb.2.2.2 (by simpa using b2) k;have h2:=hb.2.2.2 d.nd (Rw hx2);simp[h,hbv.len,Ae];refine Al (BY hv0 hb) ?_
  by_cases hm:BB ns (dv.map NdV.nd)
  ·simp[hm,hbv.idx AZ hx rfl,Lx,d.h.len,Am (a:=k) (b:=1) (by omega) (by omega),Am (a:=(EK (List.take k (dv.map NdV.nd)):Int)) (b:=d.nd.l.length) (by omega) (by omega)]
   exact hR (n - 1) _ _ _ _ (by omega) ⟨k+1,by omega,rfl,by rw[Bd hx2,HO];simp,by simp,rfl,λ_=>hm⟩
  ·have e:Ij ns (dv.map NdV.nd)=0:=if_neg hm
   have:k=0:=by
    rcases RP k with h | h
    ·exact h
    ·exact absurd (h0 h) hm
   simp[hm,e,this,EK]
 ·have:(dv.map NdV.nd).take k=dv.map NdV.nd:=RH (by simp;omega)
  have e:Ij ns (dv.map NdV.nd)=EK (dv.map NdV.nd):=by
   unfold Ij
   by_cases hm:BB ns (dv.map NdV.nd)
   ·rw[if_pos hm]
   ·rcases RP k with h | h
    ·have:dv=[]:=List.length_eq_zero_iff.1 (by omega)
     rw[if_neg hm,this];rfl
    ·exact absurd (h0 h) hm
  simp[hbv.len,show ¬k<dv.length by omega,this,e]))
def Fl (ns:List Nm)(ds:List Nd)(ms:List Nm)(es:List Nd):Prop:=ns=ms∧ds=es
instance (ns:List Nm) (ds:List Nd) (ms:List Nm) (es:List Nd):Decidable (Fl ns ds ms es):=by unfold Fl;infer_instance
theorem Pp (a c:ByteArray)(b d:Int):Ey prog .neq 47 (.agg [S a,I b]) (.agg [S c,I d])=some (B !(a.toList==c.toList&&(b==d&&true))):=by kernel_rfl
theorem Qq (x y:Nm):Ey prog .neq 47 (.agg (Co x)) (.agg (Co y))=some (B (decide (x≠y))):=by
 obtain⟨a,b⟩:=x;obtain⟨c,d⟩:=y;refine(Pp _ _ _ _).trans ?_;rw[Eg,Eg]
 by_cases h:a=c
 ·by_cases h2:b=d<;>simp[h,h2]
 ·simp[h]
theorem MR {l m:List Nm}{v w:AV}(hv:SV Co 2 l v)(hw:SV Co 2 m w)(hl:l.length≤281474976710656):
  BPure prog 30 [v,w] (B (decide (l=m))):=BPure.val (by simp[Ac,noIds,hv.1,hw.1]) rfl (Cx (by
 unfold B7;simp[hv.len,hw.len]
 by_cases h0:l.length=m.length
 ·simp[h0]
  refine BU (λn x0 x1 x12 x13 H'=>∃k:Nat,k+n=l.length∧x0=v∧x1=w∧x12=I l.length∧x13=I k∧H'=[]∧l.take k=m.take k) ?_ l.length ⟨0,by simp,rfl,rfl,by rw[h0],rfl,rfl,rfl⟩;rintro n x0 x1 x12 x13 H' R hR ⟨k,hk,rfl,rfl,rfl,rfl,rfl,ht⟩;unfold Bl;rcases Ry k l.length with hlt | hge
  ·have hx:=Cq hlt
   have hy:=Cq (l:=m) (i:=k) (by omega);generalize l[k]=x at hx;generalize m[k]'(by omega)=y at hy;simp [hlt,hv.idx Bj hx rfl,hw.idx Bj hy rfl,Qq,JE]
   by_cases hxy:x=y
   ·simp[hxy,Am (a:=k) (b:=1) (by omega) (by omega)]
    refine hR (n - 1) _ _ _ _ _ (by omega) ⟨k+1,by omega,rfl,rfl,rfl,rfl,rfl,?_⟩;rw[Se,Se,hx,hy,ht,hxy]
   ·have:l≠m:=by
     rintro rfl;rw[hx]at hy;injection hy with hy;exact hxy hy
    simp[hxy,this]
  ·have:k=l.length:=by omega
   subst this
   have e:l=m:=by
    rw[RO,h0,RO]at ht;exact ht
   simp[e]
 ·have:l≠m:=λh=>h0 (by rw[h])
  have h0':¬(l.length:Int)=m.length:=by omega
  simp[h0,h0',this]))
theorem NK (x y:NdV)(hl:x.nd.l.length≤281474976710656):BPure prog 32 [.agg (BA x),.agg (BA y)] (B (decide (x.nd=y.nd))):=BPure.val (by simp[Ac,noIds,F8]) rfl (Im (by
 have o1:=SV.oneA x.h;have o2:=SV.oneA y.h;unfold GV BA;simp[o1,o2]
 have e:x.nd=y.nd↔x.nd.ino=y.nd.ino∧D4 x.nd.size x.nd.l y.nd.size y.nd.l:=by
  unfold D4;cases x.nd;cases y.nd;simp
 by_cases h:x.nd.ino=y.nd.ino
 ·simp[h,Ae]
  refine Al (Jl x.h y.h hl) ?_;simp[e,h]
 ·have:¬x.nd=y.nd:=λhh=>h (e.1 hh).1
  simp[h,this]))
theorem Pj:B0 prog 32=true:=by kernel_rfl
theorem MQ {l m:List NdV}{v w:AV}(hv:SV BA 3 l v)(hw:SV BA 3 m w)(hl:l.length≤281474976710656)(hb:∀d∈l,d.nd.l.length≤281474976710656):
  BPure prog 31 [v,w,.fn (.func 32) [] []] (B (decide (l.map NdV.nd=m.map NdV.nd))):=BPure.val (by simp[Ac,noIds,hv.1,hw.1]) rfl (AX (by
 unfold Az;simp[hv.len,hw.len]
 by_cases h0:l.length=m.length
 ·simp[h0]
  refine AL (λn x1 x2 x15 x16 x17 H'=>∃k:Nat,k+n=l.length∧x1=w∧x2=.fn (.func 32) [] []∧x15=v∧x16=I l.length∧x17=I k∧(l.take k).map NdV.nd=(m.take k).map NdV.nd) ?_ l.length ⟨0,by simp,rfl,rfl,rfl,by rw[h0],rfl,rfl⟩;rintro n x1 x2 x15 x16 x17 H' R hR ⟨k,hk,rfl,rfl,rfl,rfl,rfl,ht⟩;unfold Ao;rcases Ry k l.length with hlt | hge
  ·have hx:=Cq hlt
   have hy:=Cq (l:=m) (i:=k) (by omega);generalize l[k]=x at hx;generalize m[k]'(by omega)=y at hy
   have ea:∀(X:AH) (d:NdV),Ex 3 (X++[some (.cells [I 0,I 0,AI])]) (.ptr X.length 0) (.agg (BA d))=some (X++[some (.cells (BA d))]):=by
    intro X d
    have:=SV.oneA d.h
    simp[Ex,BA,AM,this]
   simp[hlt,hv.idx AZ hx rfl,hw.idx AZ hy rfl,KV,ea,Pj];have rd:∀d:NdV,Ae true 3 (BA d) 0=some (.agg (BA d)):=λd=>by simp[Ae,BA]
   simp only[rd,B8];refine bC_of (NK x y (hb x (Rw hx)) _) ?_
   by_cases hxy:x.nd=y.nd
   ·simp[hxy,Am (a:=k) (b:=1) (by omega) (by omega)]
    refine hR (n - 1) _ _ _ _ _ _ (by omega) ⟨k+1,by omega,rfl,rfl,rfl,rfl,by simp,?_⟩;rw[Bd hx,Bd hy,RR,RR,ht];simp[hxy]
   ·have:¬l.map NdV.nd=m.map NdV.nd:=by
     intro e;have h1:(l.map NdV.nd)[k]?=some x.nd:=by rw[RF,hx];rfl
     rw[e,RF,hy]at h1;injection h1 with h1;exact hxy h1.symm
    simp[hxy,this]
  ·have:k=l.length:=by omega
   subst this
   have e:l.map NdV.nd=m.map NdV.nd:=by
    rw[RO,h0,RO]at ht;exact ht
   simp[e]
 ·have:l.map NdV.nd≠m.map NdV.nd:=λh=>h0 (by have:=congrArg List.length h;simpa using this)
  have h0':¬(l.length:Int)=m.length:=by omega
  simp[h0,h0',this]))
theorem OH {ns ms:List Nm}{ds es:List Nd}{v w:AV}(hv:ImV ns ds v)(hw:ImV ms es w)(hb:Sm ns ds):BPure prog 17 [v,w] (B (decide (Fl ns ds ms es))):=BPure.val (by have h1:=hv.noIds;have h2:=hw.noIds;simp[Ac]at h1 h2⊢;exact⟨h1,h2⟩) rfl (Jo (by
 obtain⟨a,b,dv,rfl,ha,hbv,rfl⟩:=hv;obtain⟨c,d,dw,rfl,hc,hdw,rfl⟩:=hw;have oa:=SV.oneA ha;have ob:=SV.oneA hbv;have oc:=SV.oneA hc;have od:=SV.oneA hdw;have b1:=hb.1;have b2:=hb.2.1;unfold IR;simp[oa,ob,oc,od];refine Al (MR ha hc (by omega)) ?_
 by_cases h:ns=ms
 ·simp[h]
  refine Al (MQ hbv hdw (by simp at b2;omega) λx hx=>by have:=hb.2.2.2 x.nd (RL hx);omega) ?_;simp[Fl]
 ·simp[h,Fl]))
theorem Ip {ns ms:List Nm}{ds es:List Nd}{v w:AV}(hv:ImV ns ds v)(hw:ImV ms es w)(hb:Sm ns ds):BPure prog 18 [v,w] (B (decide (Fl ns ds ms es))):=BPure.val (by have h1:=hv.noIds;have h2:=hw.noIds;simp[Ac]at h1 h2⊢;exact⟨h1,h2⟩) rfl (Eu (by
 obtain⟨a,b,dv,rfl,ha,hbv,rfl⟩:=hv;obtain⟨c,d,dw,rfl,hc,hdw,rfl⟩:=hw;have oa:=SV.oneA ha;have ob:=SV.oneA hbv;have oc:=SV.oneA hc;have od:=SV.oneA hdw;have b1:=hb.1;have b2:=hb.2.1;rw[RU]at b2;unfold CN;simp[oa,ob,oc,od,ha.len,hc.len]
 by_cases h0:ns.length=ms.length
 ·have h0':(ns.length:Int)=ms.length:=by omega
  simp[h0',hbv.len,hdw.len]
  by_cases h1:dv.length=dw.length
  ·have h1':(dv.length:Int)=dw.length:=by omega
   simp[h1'];refine Dk (λn x2 x3 x5 H'=>∃k:Nat,k+n=ns.length∧x2=.ptr 0 0∧x3=.ptr 1 0∧x5=I k∧H'=[some (.cells [a,b]),some (.cells [c,d])]∧ns.take k=ms.take k) ?_ ns.length ⟨0,by simp,rfl,rfl,rfl,rfl,rfl⟩;rintro n x2 x3 x5 H' R hR ⟨k,hk,rfl,rfl,rfl,rfl,ht⟩;unfold Cc;rcases Ry k ns.length with hlt | hge
   ·have hx:=Cq hlt
    have hy:=Cq (l:=ms) (i:=k) (by omega);generalize ns[k]=x at hx;generalize ms[k]'(by omega)=y at hy;simp [hlt,ha.len,ha.idx Bj hx rfl,hc.idx Bj hy rfl,Qq,JE]
    by_cases hxy:x=y
    ·simp[hxy,Am (a:=k) (b:=1) (by omega) (by omega)]
     refine hR (n - 1) _ _ _ _ (by omega) ⟨k+1,by omega,rfl,rfl,by simp,rfl,?_⟩;rw[Bd hx,Bd hy,ht,hxy]
    ·have:ns≠ms:=by
      rintro rfl;rw[hx]at hy;injection hy with hy;exact hxy hy
     simp[hxy,this,Fl]
   ·have:k=ns.length:=by omega
    subst this
    have e:ns=ms:=by
     rw[RO,h0,RO]at ht;exact ht
    simp[ha.len,e];refine CX (λn x2 x3 x6 H'=>∃k:Nat,k+n=dv.length∧x2=.ptr 0 0∧x3=.ptr 1 0∧x6=I k∧H'=[some (.cells [a,b]),some (.cells [c,d])]∧(dv.take k).map NdV.nd=(dw.take k).map NdV.nd) ?_ dv.length ⟨0,by simp,rfl,rfl,rfl,rfl,rfl⟩;rintro n x2 x3 x6 H' R hR ⟨k,hk,rfl,rfl,rfl,rfl,ht⟩;unfold BT;rcases Ry k dv.length with hlt | hge
    ·have hx:=Cq hlt
     have hy:=Cq (l:=dw) (i:=k) (by omega);generalize dv[k]=x at hx;generalize dw[k]'(by omega)=y at hy;have ei:=hbv.idx AZ hx rfl;have ej:=hdw.idx AZ hy rfl
     have e9:x.nd=y.nd↔x.nd.ino=y.nd.ino∧D4 x.nd.size x.nd.l y.nd.size y.nd.l:=by
      unfold D4;cases x.nd;cases y.nd;simp
     have hno:x.nd≠y.nd→¬Fl ns (dv.map NdV.nd) ms (dw.map NdV.nd):=by
      rintro hne ⟨-,e⟩;have h1:(dv.map NdV.nd)[k]?=some x.nd:=by rw[RF,hx];rfl
      rw[e,RF,hy]at h1;injection h1 with h1;exact hne h1.symm
     rw[e]at hno;simp[hlt,hbv.len,ei,ej,Lw]
     by_cases hi:x.nd.ino=y.nd.ino
     ·simp[hi,ei,ej,ID]
      refine bP_of (Ek x.h y.h (by have:=hb.2.2.2 x.nd (RL (Rw hx));omega)) ?_
      by_cases hc:D4 x.nd.size x.nd.l y.nd.size y.nd.l
      ·simp[hc,Am (a:=k) (b:=1) (by omega) (by omega)]
       refine hR (n - 1) _ _ _ _ (by omega) ⟨k+1,by omega,rfl,rfl,by simp,rfl,?_⟩;rw[Bd hx,Bd hy,RR,RR,ht];simp[e9.2 ⟨hi,hc⟩]
      ·have:=hno λhh=>hc (e9.1 hh).2
       simp[hc,this]
     ·have:=hno λhh=>hi (e9.1 hh).1
      simp[hi,this]
    ·have:k=dv.length:=by omega
     subst this
     have e2:dv.map NdV.nd=dw.map NdV.nd:=by
      rw[RO,h1,RO]at ht;exact ht
     simp[hbv.len,Fl,e2]
  ·have:¬Fl ns (dv.map NdV.nd) ms (dw.map NdV.nd):=λh=>h1 (by have:=congrArg List.length h.2;simpa using this)
   have h1':¬(dv.length:Int)=dw.length:=by omega
   simp[h1',this]
 ·have:¬Fl ns (dv.map NdV.nd) ms (dw.map NdV.nd):=λh=>h0 (by rw[h.1])
  have h0':¬(ns.length:Int)=ms.length:=by omega
  simp[h0',this]))
abbrev XE:=Int×List UInt8×Unit
def xe (x:XE):Ext:=if h:x.2.1.length=8 then⟨x.1,x.2.1,h⟩else⟨x.1,List.replicate 8 0,by simp⟩
def NB (x:XE):List AV:=[I x.1]++((x.2.1.flatMap λb=>[AV.lit (.int .u8 b.toNat)])++[])
theorem Oy {x:XE}(h:x.2.1.length=8):NB x=Bi (xe x):=by
 unfold NB xe Bi Es;rw[dif_pos h];simp[List.flatMap_singleton']
 induction x.2.1 with
 | nil=>rfl
 | cons a l ih=>simp[ih]
theorem Oc (s:Sl XE)(hn:s.nil=true→s.l=[])(hok:∀x∈s.l,x.2.1.length=8):∃l,l.length=s.l.length∧SV Bi 9 l (if s.nil then .lit (.slice none 0 0)else .imm (s.l.flatMap NB) s.l.length 9):=by
 refine⟨s.l.map xe,by simp,?_⟩;obtain⟨l,nil⟩:=s;cases nil with
 | true=>
  have:=hn rfl
  simp only at this;subst this;exact SV.nil
 | false=>
  have e:l.flatMap NB=(l.map xe).flatMap Bi:=by
   clear hn;simp only at hok
   induction l with
   | nil=>rfl
   | cons a r ih=>
    rw[RW,Sg,RW,ih (λx hx=>hok x (by simp[hx])),Oy (hok a (by simp))]
  have h2:=SV.imm (enc:=Bi) (sz:=9) (l:=l.map xe) BK (λx _=>Ej x);rw[← e,RU]at h2;exact h2
section
variable {P : Program}
def Nv (o:Oper)(need:List Nat):Bool:=need.all λj=>o.after.toList.any λe=>Region.binds .any e&&Nat.beq e.on j
theorem MD {o:Oper}{need:List Nat}(h:Nv o need=true):∀j∈need,∃e∈o.after,Region.binds .any e=true∧e.on=j:=by
 intro j hj
 have:=R5.1 h j hj
 obtain⟨e,he,hb⟩:=List.any_eq_true.1 this;simp only[R9]at hb;exact⟨e,by simpa using he,hb.1,RY hb.2⟩
def Lg (vals:Nat→AV)(i:Nat)(r:AV):Nat→AV:=λj=>if j=i then r else vals j
end
end
section
section
variable {P : Program}
def OpIg (P:Program)(ops:List Oper)(T:List AV)(i:Nat)(need:List Nat)(F:(Nat→AV)→AH→(AV→AH→Prop)→Prop):Prop:=
 ∃o,ops[i]?=some o∧(∀j∈need,∃e∈o.after,Region.binds .any e=true∧e.on=j)∧∀vals H K,F vals H K→A0 ops.toArray (pt ops vals (λ_=>true) T i) o=some true∧I1 P (pt ops vals (λ_=>true) T i) H o K
theorem N1 {ops:List Oper}{vals:Nat→AV}{T:List AV}{j d:Nat}(hd:CL ops j=some d)(hl:d<T.length):∀n,j<n→(∀k,j<k→k<n→CL ops k≠some d)→(pt ops vals (λ_=>true) T n)[d]?=some (vals j)
 | 0,h,_=>by omega
 | n+1,h,h2=>by
  simp only[pt,if_true]
  by_cases c:j=n
  ·subst c
   rw[hd];simp only[Bp];rw[MP (by rw[HL];exact hl)]
  ·rw[HV (h2 n (by omega) (by omega)),N1 hd hl n (by omega) λk h3 h4=>h2 k h3 (by omega)]
def QY (ops:List Oper)(len i:Nat):Bool:=match (ops.getD i default).guard with
 | none=>true
 | some (j,_)=>match CL ops j with
  | some d=>decide (j<i)&&decide (d<len)&&(List.range i).all λk=>!decide (j<k)|| !(match CL ops k with
   | some x=>Nat.beq x d
   | none=>false)
  | none=>false
def Pt (P:Program)(ql:FuncId→Bool)(fz:Bool)(ops:List Oper)(T:List AV)(i:Nat)(vals:Nat→AV)(H:AH)(K:AV→AH→Prop):Prop:=
 let o:=ops.getD i default
 let S:=match BD (Au (pt ops vals (λ_=>true) T i)) o with
  | some (k,args)=>match B0 P k with
   | true=>ACalls P k args H K
   | false=>False
  | none=>FS P ql Ai (fz&&Jr o.op) (Au (pt ops vals (λ_=>true) T i)) H o true K
 match o.guard with
 | none=>S
 | some (j,w)=>vals j=B w∧S
theorem Ov {ql:FuncId→Bool}{fz:Bool}{ops:List Oper}{T:List AV}{i:Nat}{vals:Nat→AV}{H:AH}{K:AV→AH→Prop}(hg:QY ops T.length i=true)(h:Pt P ql fz ops T i vals H K):
  A0 ops.toArray (pt ops vals (λ_=>true) T i) (ops.getD i default)=some true∧I1 P (pt ops vals (λ_=>true) T i) H (ops.getD i default) K:=by
 unfold Pt at h;unfold QY at hg;generalize ops.getD i default=o at*;simp only at h;have step:∀{S:Prop},(S=match BD (Au (pt ops vals (λ_=>true) T i)) o with
  | some (k,args)=>match B0 P k with
   | true=>ACalls P k args H K
   | false=>False
  | none=>FS P ql Ai (fz&&Jr o.op) (Au (pt ops vals (λ_=>true) T i)) H o true K)→S→I1 P (pt ops vals (λ_=>true) T i) H o K:=by
  rintro S rfl h;split at h
  ·rename_i k args hc
   split at h
   ·rename_i hgo;exact .inr (.inr ⟨k,args,hc,hgo,h⟩)
   ·exact h.elim
  ·rename_i hc
   obtain⟨r,H',h1,h2,-⟩:=FT h;rcases h2 with⟨-,h2 | ⟨h2,h3⟩⟩ | ⟨h2,-⟩
   ·unfold Ke at h2
    split at h2
    ·obtain⟨r',h3,h4⟩:=Option.map_eq_some_iff.1 h2
     injection h4 with h4 h5;subst h4;subst h5;exact .inr (.inl ⟨_,h3,h1⟩)
    ·exact .inl ⟨r,H',h2,h1⟩
   ·exfalso
    unfold FC at h3;rw[hc]at h3;exact h3
   ·cases h2
 cases ho:o.guard with
 | none=>
  simp only[ho]at h;exact⟨by unfold A0;rw[ho],step rfl h⟩
 | some q=>
  obtain⟨j,w⟩:=q;simp only[ho]at h hg;refine⟨?_,step rfl h.2⟩;unfold A0 Hw;simp only[ho,Sy];split at hg
  ·rename_i d hd
   simp only[Rm,Rh,R5,Sd,decide_eq_false_iff_not]at hg
   have hp:=N1 (vals:=vals) hd hg.1.2 i hg.1.1 λk h1 h2 h3=>by
    rcases hg.2 k h2 with q | q
    ·exact q h1
    ·rw[h3]at q;simp at q
   have hd':(ops[j]?).bind (·.dst)=some d:=hd;simp only[hd',hp,h.1,Sv];cases w<;>rfl
  ·cases hg
theorem OpIg.all {ql:FuncId→Bool}{fz:Bool}{ops:List Oper}{T:List AV}{n:Nat}{need:List (List Nat)}{F:List ((Nat→AV)→AH→(AV→AH→Prop)→Prop)}(hn:ops.length=n)(hb:(List.range n).all (λi=>Nv (ops.getD i default) (need.getD i [])&&QY ops T.length i)=true)
  (hF:∀vals H K,(List.range n).map (λi=>Pt P ql fz ops T i vals H K)=F.map λf=>f vals H K):∀i,i<ops.length→OpIg P ops T i (need.getD i []) (F.getD i (λ_ _ _=>False)):=by
 intro i hi;have hb:=R5.1 hb i (by rw[Sd];omega);simp only[R9]at hb;have ho:ops[i]?=some (ops.getD i default):=by rw[RM,Cq hi];rfl
 refine⟨_,ho,MD hb.1,λvals H K h=>Ov (ql:=ql) (fz:=fz) hb.2 ?_⟩;have e:=congrArg (λl=>l[i]?) (hF vals H K);simp only[RF,List.getElem?_range (show i<n by omega),Sv]at e;cases hf:F[i]? with
 | none=>rw[hf]at e;simp at e
 | some f=>
  rw[hf]at e;simp only[Sv,So]at e;rw[e];rw[RM,hf]at h;exact h
theorem ACode.told3 {id:Nat}{ops:List Oper}{Q:AQ}{T:List AV}{H:AH}(hm:P.follows .mixedOrders=true)(hk:FA ops=true)(need:Nat→List Nat)(F:Nat→(Nat→AV)→AH→(AV→AH→Prop)→Prop)(V:Nat→AV)(HI:(Nat→Bool)→AH→Prop)
  (ho:∀i,i<ops.length→OpIg P ops T i (need i) (F i)) (h0:HI (λ_=>false) H)
  (hs:∀i,i<ops.length→∀(S:Nat→Bool) vals Hc,S i=false→(∀a,S a=true→∀b∈need a,S b=true)→(∀j∈need i,S j=true∧vals j=V j)→HI S Hc→F i vals Hc λr H'=>r=V i∧HI (Dx S i) H')
  (last:∀(S:Nat→Bool) vals Hc,(∀j,j<ops.length→S j=true∧vals j=V j)→HI S Hc→Q .normal (pt ops vals (λ_=>true) T ops.length) Hc):ACode P (.region id ops.toArray true) Q T H:=by
 refine ACode.drawn hm hk (Ω:=AH×(Nat→AV)) (λω S=>HI S ω.1∧(∀j,S j=true→ω.2 j=V j)∧∀a,S a=true→∀b∈need a,S b=true) (λω=>ω.2) (λω _=>ω.1) (H,λ_=>Ad) ⟨h0,by simp,by simp⟩ rfl ?_ (λω S hS hI=>last S ω.2 ω.1 (λj hj=>⟨hS j hj,hI.2.1 j (hS j hj)⟩) hI.1);rintro ω S i o ⟨hoi,hcl,hSi,haft⟩ ⟨hI,hv,hcls⟩;have hi:=(Et.1 hoi).1;obtain⟨o',ho',hn,hF⟩:=ho i hi;rw[hoi]at ho';injection ho' with ho';subst ho'
 have hn':∀j∈need i,S j=true:=λj hj=>by
  obtain⟨e,he,hb,rfl⟩:=hn j hj;exact haft e he hb
 obtain⟨hw,h1⟩:=hF ω.2 ω.1 _ (hs i hi S ω.2 ω.1 hSi hcls (λj hj=>⟨hn' j hj,hv j (hn' j hj)⟩) hI);refine⟨true,hw,λ_=>?_,λh=>by cases h⟩
 have conv:∀r H',(r=V i∧HI (Dx S i) H')→∃ω':AH×(Nat→AV),(HI (Dx S i) ω'.1∧(∀j,Dx S i j=true→ω'.2 j=V j)∧∀a,Dx S i a=true→∀b∈need a,Dx S i b=true)∧(∀j,S j=true→ω'.2 j=ω.2 j)∧ω'.2 i=r∧ω'.1=H':=by
  rintro r H' ⟨rfl,h⟩;refine⟨(H',Lg ω.2 i (V i)),⟨h,λj hj=>?_,λa ha b hb=>?_⟩,λj hj=>?_,by simp[Lg],rfl⟩
  ·show Lg ω.2 i (V i) j=V j
   unfold Lg
   by_cases c:j=i
   ·rw[if_pos c,c]
   ·rw[if_neg c]
    unfold Dx at hj;rw[if_neg c]at hj;exact hv j hj
  ·unfold Dx at ha⊢
   by_cases c:b=i
   ·rw[if_pos c]
   ·rw[if_neg c]
    by_cases c2:a=i
    ·subst c2;exact hn' b hb
    ·rw[if_neg c2]at ha;exact hcls a ha b hb
  ·have:j≠i:=by rintro rfl;rw[hSi]at hj;cases hj
   simp[Lg,this]
 rcases h1 with⟨r,H',h2,h3⟩ | ⟨r,h2,h3⟩ | ⟨k,args,h2,h3,h4⟩
 ·exact .inl ⟨r,H',h2,conv _ _ h3⟩
 ·exact .inr (.inl ⟨r,h2,conv _ _ h3⟩)
 ·exact .inr (.inr ⟨k,args,h2,h3,h4.mono conv⟩)
end
end
end Go.Proofs.Ytijoffokpjbnjaa.Av
section
namespace Go.Proofs.Ytijoffokpjbnjaa.Av
open Go Go.Proofs.Try
def QJ:FuncId→Bool:=O9 [18,17,6,8,15,12,10,7,9,16,13,11,14,33,5,4]
def Qx:FuncId→Bool:=O9 []
def DP:Nat→Option (List Bool):=DL [(7,mk 43 0 [1,3,4])]
def El (p:List Bool)(n:Nat):List AV→AH→Kf→Prop:=Ax prog AJ QJ Ai Ai DP (sub p (AY f4)) n
def DO (x1 x3 x4:AV)(H:AH)(K:KT):Prop:=lp (mk 43 0 [1,3,4]) (El [tT,tT,tT,fF,tT,fF,fF] 8) [x1,x3,x4] H (Cp 0 (Cw (El [tT,tT,tT,tT] 14) (C7 prog f4.results.toList K)))
def Di (R7:RT)(x1 x3 x4:AV)(H:AH)(K:KT):Prop:=
 bO (Aa 1 x1) λv0=>
 bO (Ak false 1 H v0) λv1=>
 bO (Bm v1) λv2=>
 bO (Aq .lss x4 v2) λv3=>
 bB v3 λt4=>bI t4 (
 bO (Aa 1 x1) λv5=>
 bO (Ak false 1 H v5) λv6=>
 bO (Bz 3 v6 x4) λv7=>
 bO (Aa 1 v7) λv8=>
 bO (Aa 1 v8) λv9=>
 bO (Ak false 1 H v9) λv10=>
 bO (Bm v10) λv11=>
 bO (Aq .gtr v11 (I 60)) λv12=>
 bB v12 λt13=>bI t13 (
 K (B false) H)
 (bO (Aa 1 x1) λv14=>
 bO (Ak false 1 H v14) λv15=>
 bO (Bz 3 v15 x4) λv16=>
 bO (Aa 1 v16) λv17=>
 bO (Aa 1 v17) λv18=>
 bO (Ak false 1 H v18) λv19=>
 bO (Bm v19) λv20=>
 bO (Aq .add x3 v20) λv21=>
 bO (Aq .add x4 (I 1)) λv22=>
 R7 [x1,v21,v22] H))
 (bO (Aq .leq x3 (I 300)) λv23=>
 K v23 H)
theorem EF {K:KT}:NJ (λR x1 x3 x4 H=>Di R x1 x3 x4 H K) (λx1 x3 x4 H=>DO x1 x3 x4 H K):=KL (Ag _ _) (λ_ _ _ _ _=>by kernel_rfl)
def Fk (a0:AV)(H:AH)(K:KT):Prop:=
 bH (AO H a0) λv0 H1=>
 bO (Aa 0 v0) λv2=>
 bO (Ak false 1 H1 v2) λv3=>
 bO (Bm v3) λv4=>
 bO (Aq .gtr v4 (I 30)) λv5=>
 bG v5 false λw6=>
 gO w6 (Aa 1 v0) λv7=>
 bG v5 false λw8=>
 gO w8 (Ak false 1 H1 v7) λv9=>
 bG v5 false λw10=>
 gO w10 (Bm v9) λv11=>
 bG v5 false λw12=>
 gO w12 (Aq .gtr v11 (I 30)) λv13=>
 bO (Aj v5 (B true) v13) λv14=>
 bB v14 λt15=>bI t15 (
 K (B false) H1)
 (DO v0 (I 0) (I 0) H1 K)
theorem G8 {a0:AV}{H:AH}{K:KT}(h:Fk a0 H K):EN 4 [a0] H K:=
 fok AJ QJ DP func4 h
def Cg:Nat→Option (List Bool):=DL [(100007,mk 106 0 [2,4,5,9,10,11,12,13,14,15,16]),(8,mk 106 0 [8])]
def Ch:Nat→Bool:=O9 [7]
def B5 (p:List Bool)(n:Nat):List AV→AH→Kf→Prop:=Ax prog AJ QJ Qx Ch Cg (sub p (AY f3)) n
def B1 (x8:AV)(H:AH)(K:KT):Prop:=jn (mk 106 0 [8]) (B5 [tT,tT,tT,tT,tT,tT,tT] 9) [x8] H (C7 prog f3.results.toList K)
def AN (x2 x4 x5 x9 x10 x11 x12 x13 x14 x15 x16:AV)(H:AH)(K:KT):Prop:=unR prog 7 (OB (sub [tT,tT,tT,tT,tT,tT,fF] (AY f3))) (AS (mk 106 0 [2,4,5,9,10,11,12,13,14,15,16]) [x2,x4,x5,x9,x10,x11,x12,x13,x14,x15,x16]) H (Cw (Np (mk 106 0 [8]) (B5 [tT,tT,tT,tT,tT,tT,tT] 9)) (C7 prog f3.results.toList K))
def BR (x8:AV)(H:AH)(K:KT):Prop:=
 K x8 H
theorem Dq (x8:AV)(H:AH)(K:KT):B1 x8 H K=BR x8 H K:=(Qm _ _ _ _ _).trans (by kernel_rfl)
noncomputable def salvorlaw12_ImageTells_U7Ops:List Oper:=(OB (sub [tT,tT,tT,tT,tT,tT,fF] (AY f3))).toList
def Br (x2 x4 x5 x9 x10 x11 x12 x13 x14 x15 x16:AV):List AV:=AS (mk 106 0 [2,4,5,9,10,11,12,13,14,15,16]) [x2,x4,x5,x9,x10,x11,x12,x13,x14,x15,x16]
theorem Bf:salvorlaw12_ImageTells_U7Ops.length=52:=by kernel_rfl
theorem Dr:FA salvorlaw12_ImageTells_U7Ops=true:=by kernel_rfl
def BZ (K:KT):Kf:=(Cw (Np (mk 106 0 [8]) (B5 [tT,tT,tT,tT,tT,tT,tT] 9)) (C7 prog f3.results.toList K))
theorem Dt (x2 x4 x5 x9 x10 x11 x12 x13 x14 x15 x16:AV){H:AH}{K:KT}(h:ACode prog (.region 7 salvorlaw12_ImageTells_U7Ops.toArray true) (BZ K) (Br x2 x4 x5 x9 x10 x11 x12 x13 x14 x15 x16) H):AN x2 x4 x5 x9 x10 x11 x12 x13 x14 x15 x16 H K:=unR.mk h
theorem DA (x2 x4 x5 x9 x10 x11 x12 x13 x14 x15 x16:AV)(vals:Nat→AV)(H:AH)(K:KT):BZ K .normal (pt salvorlaw12_ImageTells_U7Ops vals (λ_=>true) (Br x2 x4 x5 x9 x10 x11 x12 x13 x14 x15 x16) 52) H=(B1 (vals 51) H K):=by kernel_rfl
def salvorlaw12_ImageTells_U7Need:List (List Nat):=[[],[0],[],[1,2],[1,3],[3,4],[5],[5,6],[5],[5,7,8],[5,7,9],[5,10],[9,11],[12],[12],[12,13,14],[12,15],[12,16],[17],[17],[17,18,19],[17,20],[17,21],[22],[22],[22,23,24],[22,25],[25,26],[27],[27],[27,28,29],[27,30],[27,31],[32],[32,33],[32],[32,34,35],[32,34,36],[32,37],[36,38],[39],[39],[39,40,41],[39],[39],[39,42,43,44],[39,42,45],[39,46],[45,47],[48],[48,49],[0,1,2,3,4,5,6,7,8,9,10,11,12,13,14,15,16,17,18,19,20,21,22,23,24,25,26,27,28,29,30,31,32,33,34,35,36,37,38,39,40,41,42,43,44,45,46,47,48,49,50]]
def AK (x2 x4 x5 x9 x10 x11 x12 x13 x14 x15 x16:AV):List ((Nat→AV)→AH→(AV→AH→Prop)→Prop):=[
 λvals H K=>K x2 H,
 λvals H K=>ACalls prog 10 [(vals 0)] H K,
 λvals H K=>K x2 H,
 λvals H K=>ACalls prog 11 [(vals 2)] H K,
 λvals H K=>bO (NE .eql (vals 1) (vals 3)) λv=>K v H,
 λvals H K=>K (vals 4) H,
 λvals H K=>vals 5=B true∧bO (Ak true 2 H x4) λv=>K v H,
 λvals H K=>vals 5=B true∧ACalls prog 12 [(vals 6)] H K,
 λvals H K=>vals 5=B true∧bO (Ak true 2 H x4) λv=>K v H,
 λvals H K=>vals 5=B true∧ACalls prog 13 [(vals 8)] H K,
 λvals H K=>vals 5=B true∧bO (NE .eql (vals 7) (vals 9)) λv=>K v H,
 λvals H K=>bO (Aj (vals 5) (vals 10) (B false)) λv=>K v H,
 λvals H K=>K (vals 11) H,
 λvals H K=>vals 12=B true∧K x9 H,
 λvals H K=>vals 12=B true∧K x11 H,
 λvals H K=>vals 12=B true∧bO (Aq .eql (vals 13) (vals 14)) λv=>K v H,
 λvals H K=>bO (Aj (vals 12) (vals 15) (B false)) λv=>K v H,
 λvals H K=>K (vals 16) H,
 λvals H K=>vals 17=B true∧K x10 H,
 λvals H K=>vals 17=B true∧K x12 H,
 λvals H K=>vals 17=B true∧bO (NE .eql (vals 18) (vals 19)) λv=>K v H,
 λvals H K=>bO (Aj (vals 17) (vals 20) (B false)) λv=>K v H,
 λvals H K=>K (vals 21) H,
 λvals H K=>vals 22=B true∧bO (Ak true 2 H x13) λv=>K v H,
 λvals H K=>vals 22=B true∧bO (Ak true 2 H x15) λv=>K v H,
 λvals H K=>vals 22=B true∧ACalls prog 14 [(vals 23),(vals 24)] H K,
 λvals H K=>bO (Aj (vals 22) (vals 25) (B false)) λv=>K v H,
 λvals H K=>K (vals 26) H,
 λvals H K=>vals 27=B true∧K x14 H,
 λvals H K=>vals 27=B true∧K x16 H,
 λvals H K=>vals 27=B true∧bO (NE .eql (vals 28) (vals 29)) λv=>K v H,
 λvals H K=>bO (Aj (vals 27) (vals 30) (B false)) λv=>K v H,
 λvals H K=>K (vals 31) H,
 λvals H K=>vals 32=B true∧bO (Ak true 2 H x4) λv=>K v H,
 λvals H K=>vals 32=B true∧ACalls prog 15 [(vals 33)] H K,
 λvals H K=>vals 32=B true∧bO (Ak true 2 H x4) λv=>K v H,
 λvals H K=>vals 32=B true∧ACalls prog 16 [(vals 35)] H K,
 λvals H K=>vals 32=B true∧bO (Aq .eql (vals 34) (vals 36)) λv=>K v H,
 λvals H K=>bO (Aj (vals 32) (vals 37) (B false)) λv=>K v H,
 λvals H K=>K (vals 38) H,
 λvals H K=>vals 39=B true∧bO (Ak true 2 H x4) λv=>K v H,
 λvals H K=>vals 39=B true∧bO (Ak true 2 H x5) λv=>K v H,
 λvals H K=>vals 39=B true∧ACalls prog 17 [(vals 40),(vals 41)] H K,
 λvals H K=>vals 39=B true∧bO (Ak true 2 H x4) λv=>K v H,
 λvals H K=>vals 39=B true∧bO (Ak true 2 H x5) λv=>K v H,
 λvals H K=>vals 39=B true∧ACalls prog 18 [(vals 43),(vals 44)] H K,
 λvals H K=>vals 39=B true∧bO (NE .eql (vals 42) (vals 45)) λv=>K v H,
 λvals H K=>bO (Aj (vals 39) (vals 46) (B false)) λv=>K v H,
 λvals H K=>K (vals 47) H,
 λvals H K=>vals 48=B true∧ACalls prog 5 [] H K,
 λvals H K=>bO (Aj (vals 48) (vals 49) (B false)) λv=>K v H,
 λvals H K=>K (vals 50) H]
theorem D9 (x2 x4 x5 x9 x10 x11 x12 x13 x14 x15 x16:AV):∀i,i<salvorlaw12_ImageTells_U7Ops.length→OpIg prog salvorlaw12_ImageTells_U7Ops (Br x2 x4 x5 x9 x10 x11 x12 x13 x14 x15 x16) i (salvorlaw12_ImageTells_U7Need.getD i []) ((AK x2 x4 x5 x9 x10 x11 x12 x13 x14 x15 x16).getD i (λ_ _ _=>False)):=
 OpIg.all (ql:=Lj) (fz:=true) Bf (by kernel_rfl) (λvals H K=>by kernel_rfl)
theorem CV (x2 x4 x5 x9 x10 x11 x12 x13 x14 x15 x16:AV){H:AH}{K:KT}(V:Nat→AV)(HI:(Nat→Bool)→AH→Prop)(h0:HI (λ_=>false) H)
  (hs:∀i,i<52→∀(S:Nat→Bool) (vals:Nat→AV) (Hc:AH),S i=false→(∀a,S a=true→∀b∈salvorlaw12_ImageTells_U7Need.getD a [],S b=true)→(∀j∈salvorlaw12_ImageTells_U7Need.getD i [],S j=true∧vals j=V j)→HI S Hc→(AK x2 x4 x5 x9 x10 x11 x12 x13 x14 x15 x16).getD i (λ_ _ _=>False) vals Hc λr H'=>r=V i∧HI (Dx S i) H')
  (last:∀(S:Nat→Bool) (vals:Nat→AV) (H:AH),(∀j,j<52→S j=true∧vals j=V j)→HI S H→(B1 (vals 51) H K)):AN x2 x4 x5 x9 x10 x11 x12 x13 x14 x15 x16 H K:=
 Dt x2 x4 x5 x9 x10 x11 x12 x13 x14 x15 x16 (ACode.told3 Pn Dr (λi=>salvorlaw12_ImageTells_U7Need.getD i []) (λi=>(AK x2 x4 x5 x9 x10 x11 x12 x13 x14 x15 x16).getD i (λ_ _ _=>False)) V HI (D9 x2 x4 x5 x9 x10 x11 x12 x13 x14 x15 x16) h0 (λi hi=>hs i (by rw[Bf]at hi;exact hi)) (λS vals Hc hS hI=>by
  rw[Bf]at hS⊢;rw[DA];exact last S vals Hc hS hI))
def BI (a0 a1 a2 a3:AV)(H:AH)(K:KT):Prop:=
 bH (AO H a0) λv0 H1=>
 bH (AO H1 a1) λv2 H3=>
 bO (Ak true 2 H3 v0) λv4=>
 bP (PCall prog 4 [v4] H3) λv5=>
 bO (Iu .not v5) λv6=>
 bG v6 false λw7=>
 gO w7 (Ak true 2 H3 v2) λv8=>
 bG v6 false λw9=>
 gP w9 (PCall prog 4 [v8] H3) λv10=>
 bG v6 false λw11=>
 gO w11 (Iu .not v10) λv12=>
 bO (Aj v6 (B true) v12) λv13=>
 bG v13 false λw14=>
 gO w14 (some a2) λv15=>
 bG v13 false λw16=>
 gO w16 (Hr v15) λv17=>
 bG v13 false λw18=>
 gO w18 (Aq .gtr v17 (I 60)) λv19=>
 bO (Aj v13 (B true) v19) λv20=>
 bB v20 λt21=>bI t21 (
 bP (PCall prog 5 [] H3) λv22=>
 K v22 H3)
 (bO (Ak true 2 H3 v0) λv23=>
 bP (PCall prog 6 [v23,a2] H3) λv24=>
 bO (A5 v24 0) λv25=>
 bO (A5 v24 1) λv26=>
 bO (Ak true 2 H3 v0) λv27=>
 bP (PCall prog 7 [v27,a2] H3) λv28=>
 bO (A5 v28 0) λv29=>
 bO (A5 v28 1) λv30=>
 bO (Ak true 2 H3 v0) λv31=>
 bP (PCall prog 8 [v31,a3] H3) λv32=>
 bO (A5 v32 0) λv33=>
 bO (A5 v32 1) λv34=>
 bH (AO H3 (.agg [(I 0),AI])) λv35 H36=>
 bS (Ex 2 H36 v35 v33) λH37=>
 bO (Ak true 2 H37 v0) λv38=>
 bP (PCall prog 9 [v38,a3] H37) λv39=>
 bO (A5 v39 0) λv40=>
 bO (A5 v39 1) λv41=>
 bH (AO H37 (.agg [(I 0),AI])) λv42 H43=>
 bS (Ex 2 H43 v42 v40) λH44=>
 AN a2 v0 v2 v25 v26 v29 v30 v35 v34 v42 v41 H44 K)
theorem Ea (a0 a1 a2 a3:AV)(H:AH)(K:KT):MM prog AJ QJ Qx Ch Cg f3 [a0,a1,a2,a3] H K=BI a0 a1 a2 a3 H K:=by kernel_rfl
theorem Eb {a0 a1 a2 a3:AV}{H:AH}{K:KT}(h:BI a0 a1 a2 a3 H K):ACalls prog 3 [a0,a1,a2,a3] H K:=
 Ou Pn func3 (by kernel_rfl) (Eq.mpr (Ea a0 a1 a2 a3 H K) h)
end Go.Proofs.Ytijoffokpjbnjaa.Av
end
section
namespace Go.Proofs.Ytijoffokpjbnjaa.Av
open Go Go.RowKit Go.Proofs.Try
abbrev XN:=ByteArray×(Int×Unit)
abbrev XD:=Int×((Int×((Sl XE)×Unit))×Unit)
abbrev XI:=(Sl XN)×((Sl XD)×Unit)
def P8 (x:XN):Nm:=⟨x.1.data.toList,x.2.1⟩
def Lh (x:XN):List AV:=[AV.lit (.string x.1)]++([AV.lit (.int .i64 x.2.1)]++[])
theorem J1 (s:ByteArray):Bh s.data.toList=s:=by cases s;simp[Bh]
theorem NC (x:XN):Lh x=Co (P8 x):=by
 unfold Lh Co P8;rw[J1];rfl
def slA (enc:XE→List AV)(s:Sl XE):AV:=if s.nil then .lit (.slice none 0 0)else .imm (s.l.flatMap enc) s.l.length 9
def Mm (x:XD):List AV:=[AV.lit (.int .i64 x.1)]++(([AV.lit (.int .i64 x.2.1.1)]++([slA NB x.2.1.2.1]++[]))++[])
def Pu (s:Sl XE):Prop:=(s.nil=true→s.l=[])∧∀x∈s.l,x.2.1.length=8
theorem Qz (x:XD)(h:Pu x.2.1.2.1):∃d:NdV,BA d=Mm x:=by
 obtain⟨l,-,hl⟩:=Oc x.2.1.2.1 h.1 h.2;exact⟨⟨⟨x.1,x.2.1.1,l⟩,_,hl⟩,rfl⟩
theorem NA:∀(l:List XD),(∀x∈l,Pu x.2.1.2.1)→∃dv:List NdV,dv.length=l.length∧dv.flatMap BA=l.flatMap Mm
 | [],_=>⟨[],rfl,rfl⟩
 | x::l,h=>by
  obtain⟨d,hd⟩:=Qz x (h x (by simp));obtain⟨dv,h1,h2⟩:=NA l λy hy=>h y (by simp[hy])
  exact⟨d::dv,by simp[h1],by rw[RW,RW,hd,h2]⟩
theorem Pk (s:Sl XN)(t:Sl XD)(h1:s.nil=true→s.l=[])(h2:t.nil=true→t.l=[])(h3:∀x∈t.l,Pu x.2.1.2.1):
  ∃ns ds,ImV ns ds (.agg [if s.nil then .lit (.slice none 0 0)else .imm (s.l.flatMap Lh) s.l.length 2,if t.nil then .lit (.slice none 0 0)else .imm (t.l.flatMap Mm) t.l.length 3])∧ns=s.l.map P8:=by
 obtain⟨l,nil⟩:=s;obtain⟨m,nilm⟩:=t;simp only at h1 h2 h3⊢
 have ha:SV Co 2 (l.map P8) (if nil=true then .lit (.slice none 0 0)else .imm (l.flatMap Lh) l.length 2):=by
  cases nil with
  | true=>rw[h1 rfl];exact SV.nil
  | false=>
   have e:l.flatMap Lh=(l.map P8).flatMap Co:=by
    rw[List.flatMap_map];exact congrArg (λf=>l.flatMap f) (funext NC)
   have:=SV.imm (enc:=Co) (sz:=2) (l:=l.map P8) Bj (λx _=>Ig x)
   rw[← e,RU]at this;exact this
 obtain⟨dv,hb⟩:∃dv:List NdV,SV BA 3 dv (if nilm=true then .lit (.slice none 0 0)else .imm (m.flatMap Mm) m.length 3):=by
  cases nilm with
  | true=>exact⟨[],SV.nil⟩
  | false=>
   obtain⟨dv,e1,e2⟩:=NA m h3;refine⟨dv,?_⟩
   have:=SV.imm (enc:=BA) (sz:=3) (l:=dv) AZ (λx _=>F8 x)
   rw[e1,e2]at this;exact this
 exact⟨_,_,⟨_,_,dv,rfl,ha,hb,rfl⟩,rfl⟩
def FewI (ns:List Nm)(ds:List Nd):Prop:=ns.length≤30∧ds.length≤30∧(∀d∈ds,d.l.length≤60)∧EK ds≤300
instance (ns:List Nm) (ds:List Nd):Decidable (FewI ns ds):=by unfold FewI;infer_instance
theorem If {ns:List Nm}{ds:List Nd}{v:AV}(hv:ImV ns ds v):BPure prog 4 [v] (B (decide (FewI ns ds))):=BPure.val hv.noIds rfl (G8 (by
 obtain⟨a,b,dv,rfl,sa,sb,rfl⟩:=hv;have oa:=SV.oneA sa;have ob:=SV.oneA sb;unfold Fk;simp[oa,ob,sa.len]
 by_cases c1:ns.length≤30
 ·have c1':¬(30:Int)<ns.length:=by omega
  simp[c1',sb.len]
  by_cases c2:dv.length≤30
  ·have c2':¬(30:Int)<dv.length:=by omega
   simp[c2'];refine EF (λn x1 x3 x4 H'=>∃k:Nat,k+n=dv.length∧x1=.ptr 0 0∧x3=I (EK ((dv.map NdV.nd).take k))∧x4=I k∧H'=[some (.cells [a,b])]∧∀m d,m<k→dv[m]?=some d→d.nd.l.length≤60) ?_ dv.length ⟨0,by omega,rfl,rfl,rfl,rfl,by omega⟩;rintro n x1 x3 x4 H' R hR ⟨k,hk,rfl,rfl,rfl,rfl,hall⟩;unfold Di;rcases Ry k dv.length with h | h
   ·have hx:=Cq h
    generalize dv[k]=d at hx;have hx2:(dv.map NdV.nd)[k]?=some d.nd:=by rw[RF,hx];rfl
    have ei:=sb.idx AZ hx rfl
    by_cases c3:d.nd.l.length≤60
    ·have c3':¬(60:Int)<d.nd.l.length:=by omega
     have hs:EK ((dv.map NdV.nd).take k)≤1800:=by
      have:=Kl (N:=60) (ds:=(dv.map NdV.nd).take k) (by
       intro y hy;obtain⟨m,hm⟩:=RE.1 hy;rw[RB]at hm;split at hm
       ·rename_i hmk
        obtain⟨z,hz,rfl⟩:=getElem?_map_nd hm;exact hall m z hmk hz
       ·cases hm)
      have l2:((dv.map NdV.nd).take k).length≤30:=by simp;omega
      have:=RJ 60 l2
      omega
     simp[h,sb.len,ei,Lx,d.h.len,c3',Am (a:=k) (b:=1) (by omega) (by omega),Am (a:=(EK (List.take k (dv.map NdV.nd)):Int)) (b:=d.nd.l.length) (by omega) (by omega)]
     exact hR (n - 1) _ _ _ _ (by omega) ⟨k+1,by omega,rfl,by rw[Bd hx2,HO];simp,by simp,rfl,λm y hm hy=>by
      by_cases c:m=k
      ·rw[c,hx]at hy;injection hy with hy;rw[← hy];exact c3
      ·exact hall m y (by omega) hy⟩
    ·have c3':(60:Int)<d.nd.l.length:=by omega
     have:¬FewI ns (dv.map NdV.nd):=λhf=>c3 (hf.2.2.1 d.nd (Rw hx2))
     simp[h,sb.len,ei,Lx,d.h.len,c3',this]
   ·have e:(dv.map NdV.nd).take k=dv.map NdV.nd:=RH (by simp;omega)
    have:FewI ns (dv.map NdV.nd)↔((EK (dv.map NdV.nd):Nat):Int)≤300:=by
     constructor
     ·intro hf;have:=hf.2.2.2;omega
     ·intro hf
      refine⟨c1,by simpa using c2,λd hd=>?_,by omega⟩;obtain⟨m,hm⟩:=RE.1 hd;obtain⟨z,hz,rfl⟩:=getElem?_map_nd hm
      have:=(Et.1 hz).1
      exact hall m z (by omega) hz
    simp[sb.len,show ¬k<dv.length by omega,e,this]
  ·have c2':(30:Int)<dv.length:=by omega
   have:¬FewI ns (dv.map NdV.nd):=λhf=>c2 (by simpa using hf.2.1)
   simp[c2',this]
 ·have c1':(30:Int)<ns.length:=by omega
  have:¬FewI ns (dv.map NdV.nd):=λhf=>c1 hf.1
  simp[c1',this]))
theorem FewI.sm {ns:List Nm}{ds:List Nd}(h:FewI ns ds)(hn:∀x∈ns,x.name.length≤9223372036854775807):Sm ns ds:=
 ⟨by have:=h.1;omega,by have:=h.2.1;omega,hn,λd hd=>by have:=h.2.2.1 d hd;omega⟩
theorem Jm:isTrue (run prog Lv (O9 []) (O9 []) 100000 100 5 [] [])=true:=by kernel_rfl
theorem Ei:BPure prog 5 [] (B true):=.of_true (N3 M4 Jm)
end Go.Proofs.Ytijoffokpjbnjaa.Av
end
section
end
