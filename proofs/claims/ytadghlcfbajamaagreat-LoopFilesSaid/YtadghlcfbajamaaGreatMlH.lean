/- Texts of this proof, one behind the other, packed into one file by a program of this session. No condition. -/
import Derived.Test.YtadghlcfbajamaaGreatMlG
set_option linter.unusedVariables false
set_option linter.unusedSimpArgs false
set_option maxRecDepth 100000
namespace Go.Proofs.YtadghlcfbajamaaGreat.Av
open Go Go.RowKit Go.Proofs.Tryz
section
section
variable {κ α : Type} [DecidableEq κ] {c : κ→κ→Int} {key : α→κ}
def JJ (key:α→κ)(l:List α)(k:κ):Int:=match l.findIdx? (λx=>decide (key x=k))with
 | some j=>j
 | none=> -1
theorem Yt {l:List α}{k:κ}(h:¬Be key l k):JJ key l k= -1:=by
 unfold JJ
 have:l.findIdx? (λx=>decide (key x=k))=none:=by
  rw[Am9];intro x hx;simp only[decide_eq_false_iff_not];exact λe=>h ⟨x,hx,e⟩
 rw[this]
theorem tO {l:List α}{k:κ}{j:Nat}{x:α}(hx:l[j]?=some x)(hk:key x=k)(hn:∀m y,m<j→l[m]?=some y→key y≠k):JJ key l k=j:=by
 unfold JJ
 have:l.findIdx? (λx=>decide (key x=k))=some j:=by
  obtain⟨h1,h2⟩:=BE.1 hx;rw[An0];refine⟨h1,by rw[h2];simp[hk],λm hm=>?_⟩
  have:=hn m _ hm (DD (by omega))
  simp[this]
 rw[this]
theorem cT {l:List α}{k:κ}(h:Be key l k):∃(j:Nat) (x:α),JJ key l k=j∧l[j]?=some x∧key x=k:=by
 unfold JJ;cases hf:l.findIdx? (λx=>decide (key x=k))with
 | none=>
  rw[Am9]at hf;obtain⟨x,hx,e⟩:=h
  have:=hf x hx
  simp[e]at this
 | some j=>
  obtain⟨h1,h2,h3⟩:=An0.1 hf;exact⟨j,l[j],rfl,DD h1,by simpa using h2⟩
theorem QA (hc:KO c){l:List α}(hs:Cx c key l){k:κ}(h:Be key l k):JJ key l k=Dr c key l k:=by
 obtain⟨j,x,h1,h2,rfl⟩:=cT h;rw[h1,X5 hc hs h2]
theorem HP {l:List α}{k:κ}:JJ key l k<0↔¬Be key l k:=by
 constructor
 ·intro h hh
  obtain⟨j,x,h1,h2,rfl⟩:=cT hh;omega
 ·intro h;rw[Yt h];omega
end
theorem FH {ns:List Nm}{ds:List Nd}{v:AV}(hv:ImV ns ds v)(hb:Sm ns ds)(s:List UInt8):BPure prog 111 [v,S (B9 s)] (I (JJ Nm.name ns s)):=BPure.val (by have:=hv.noIds;simpa[A5,noIds]using this) rfl (Uv (by
 obtain⟨a,b,dv,rfl,ha,hbv,rfl⟩:=hv;have b1:=hb.1;unfold P9;have oa:=SV.oneA ha;have ob:=SV.oneA hbv;simp[oa,ob];refine Pb (λn x1 x2 x5 H'=>∃k:Nat,k+n=ns.length∧x1=S (B9 s)∧x2=.ptr 0 0∧x5=I k∧H'=[some (.cells [a,b])]∧∀m y,m<k→ns[m]?=some y→y.name≠s) ?_ ns.length ⟨0,by omega,rfl,rfl,rfl,rfl,by omega⟩;rintro n x1 x2 x5 H' R hR ⟨k,hk,rfl,rfl,rfl,rfl,hn⟩;unfold Kz;rcases Ai0 k ns.length with h | h
 ·have hx:=DD h
  generalize ns[k]=x at hx;simp[ha.len,h,ha.idx BT hx rfl,VY,Nh]
  by_cases c:x.name=s
  ·have:=tO hx c hn
   simp[c,this]
  ·simp[c,Au (a:=k) (b:=1) (by omega) (by omega)]
   exact hR (n - 1) _ _ _ _ (by omega) ⟨k+1,by omega,rfl,rfl,by simp,rfl,λm y hm hy=>by
    by_cases c2:m=k
    ·rw[c2,hx]at hy;injection hy with hy;rw[← hy];exact c
    ·exact hn m y (by omega) hy⟩
 ·have:JJ Nm.name ns s= -1:=Yt (by
   rintro⟨x,hx,e⟩;obtain⟨m,hm⟩:=Aj2.1 hx
   have:=(BE.1 hm).1
   exact hn m x (by omega) hm e)
  simp[ha.len,show ¬k<ns.length by omega,this]))
theorem getElem?_map_nd {dv:List NdV}{k:Nat}{d:Nd}(h:(dv.map NdV.nd)[k]?=some d):∃x,dv[k]?=some x∧x.nd=d:=by
 rw[Aj3]at h;exact Option.map_eq_some_iff.1 h
theorem Jm {ns:List Nm}{ds:List Nd}{v:AV}(hv:ImV ns ds v)(hb:Sm ns ds)(no:Int):BPure prog 165 [v,I no] (I (JJ Nd.ino ds no)):=BPure.val (by have:=hv.noIds;simpa[A5,noIds]using this) rfl (Vh (by
 obtain⟨a,b,dv,rfl,ha,hbv,rfl⟩:=hv;have b1:=hb.2.1;rw[Aj1]at b1;unfold Rc;have oa:=SV.oneA ha;have ob:=SV.oneA hbv;simp[oa,ob];refine Qh (λn x1 x2 x5 H'=>∃k:Nat,k+n=dv.length∧x1=I no∧x2=.ptr 0 0∧x5=I k∧H'=[some (.cells [a,b])]∧∀m y,m<k→(dv.map NdV.nd)[m]?=some y→y.ino≠no) ?_ dv.length ⟨0,by omega,rfl,rfl,rfl,rfl,by omega⟩;rintro n x1 x2 x5 H' R hR ⟨k,hk,rfl,rfl,rfl,rfl,hn⟩;unfold Lp;rcases Ai0 k dv.length with h | h
 ·have hx:=DD h
  generalize dv[k]=x at hx;have hx2:(dv.map NdV.nd)[k]?=some x.nd:=by rw[Aj3,hx];rfl
  simp[hbv.len,h,hbv.idx BL hx rfl,kB]
  by_cases c:x.nd.ino=no
  ·have:=tO (key:=Nd.ino) hx2 c hn
   simp[c,this]
  ·simp[c,Au (a:=k) (b:=1) (by omega) (by omega)]
   exact hR (n - 1) _ _ _ _ (by omega) ⟨k+1,by omega,rfl,rfl,by simp,rfl,λm y hm hy=>by
    by_cases c2:m=k
    ·rw[c2,hx2]at hy;injection hy with hy;rw[← hy];exact c
    ·exact hn m y (by omega) hy⟩
 ·have:JJ Nd.ino (dv.map NdV.nd) no= -1:=Yt (by
   rintro⟨x,hx,e⟩;obtain⟨m,hm⟩:=Aj2.1 hx
   have:=(BE.1 hm).1
   rw[Aj1]at this;exact hn m x (by omega) hm e)
  simp[hbv.len,show ¬k<dv.length by omega,this]))
abbrev Au0:=@List.mem_erase_of_ne
theorem rV:∀{A B:List Int},A.Nodup→(∀a∈A,a∈B)→B.length≤A.length→∀b∈B,b∈A
 | [],B,_,_,hl,b,hb=>by
  have:B=[]:=List.length_eq_zero_iff.1 (by simpa using hl);rw[this]at hb;exact hb
 | a::A,B,hn,hs,hl,b,hb=>by
  rw[Ao7]at hn
  by_cases e:b=a
  ·simp[e]
  ·have haB:=hs a (by simp)
   have hl2:(B.erase a).length≤A.length:=by
    rw[List.length_erase_of_mem haB];simp at hl;omega
   have:=rV (A:=A) (B:=B.erase a) hn.2 (λx hx=>(Au0 (fun (e2:x=a)=>hn.1 (e2▸hx))).2 (hs x (by simp[hx]))) hl2 b ((Au0 e).2 hb)
   simp[this]
def zdotZ (N:List Nd)(ns:List Nm)(ds:List Nd):Prop:=wT ns∧Cx BP Nd.ino ds∧(∀x∈ns,Be Nd.ino N x.ino)∧∀d∈ds,Dh d.size d.l
theorem Ue {ns:List Nm}{ds:List Nd}:EO ns ds↔ns.length≤16∧ds.length=ns.length∧zdotZ ds ns ds:=by
 unfold EO Xu zddtZ zdotZ
 constructor
 ·rintro⟨⟨h1,h2⟩,h3,h4,h5⟩
  refine⟨h1,h3,h2,h4,?_,λd hd=>(h5 d hd).2⟩
  have hn:(ds.map Nd.ino).Nodup:=by
   rw[List.Nodup,Ap2];exact h4.imp λh=>by rw[Pf]at h;omega
  have:=rV (A:=ds.map Nd.ino) (B:=ns.map Nm.ino) hn (λa ha=>by
   obtain⟨d,hd,rfl⟩:=Ak7.1 ha;obtain⟨x,hx,e⟩:=(h5 d hd).1;rw[← e];exact Ak1 hx) (by simp[h3])
  intro x hx;obtain⟨d,hd,e⟩:=Ak7.1 (this x.ino (Ak1 hx));exact⟨d,hd,e⟩
 ·rintro⟨h1,h3,h2,h4,h5,h6⟩
  refine⟨⟨h1,h2⟩,h3,h4,λd hd=>⟨?_,h6 d hd⟩⟩
  have:=rV (A:=ns.map Nm.ino) (B:=ds.map Nd.ino) h2.2.2 (λa ha=>by
   obtain⟨x,hx,rfl⟩:=Ak7.1 ha;obtain⟨d,hd,e⟩:=h5 x hx;rw[← e];exact Ak1 hd) (by simp[h3])
  obtain⟨x,hx,e⟩:=Ak7.1 (this d.ino (Ak1 hd));exact⟨x,hx,e⟩
theorem Hf {ns:List Nm}{ds:List Nd}{v:AV}(hv:ImV ns ds v)(hb:Sm ns ds):BPure prog 112 [v] (B (decide (EO ns ds))):=BPure.val hv.noIds rfl (QU (by
 have hv0:=hv;obtain⟨a,b,dv,rfl,ha,hbv,rfl⟩:=hv;have b1:=hb.1;have b2:=hb.2.1;rw[Aj1]at b2;unfold Mp;have oa:=SV.oneA ha;have ob:=SV.oneA hbv;simp[oa,ob,ha.len]
 by_cases h16:ns.length≤16
 ·have e16:¬(16:Int)<ns.length:=by omega
  by_cases hlen:dv.length=ns.length
  ·have hlI:((ns.length:Int)=dv.length):=by omega
   simp[show ¬(16:Int)<dv.length by omega,hlI,ha.len,hbv.len];refine MC (λn x1 x3 H'=>∃k:Nat,k+n=ns.length∧x1=.ptr 0 0∧x3=I k∧Grew [some (.cells [a,b])] H'∧zdotZ (dv.map NdV.nd) (ns.take k) ((dv.take k).map NdV.nd)) ?_ ns.length ⟨0,by omega,rfl,rfl,Grew.refl _,by simp[zdotZ,wT,Cx]⟩;rintro n x1 x3 H' R hR ⟨k,hk,rfl,rfl,hg,hok⟩;unfold Ih;have c0:H'[0]?=some (some (.cells [a,b])):=hg.cells rfl;rcases Ai0 k ns.length with h | h
   ·have hx:=DD h
    generalize ns[k]=x at hx;have hd:=DD (l:=dv) (i:=k) (by omega);generalize dv[k]=d at hd;have hsx:=hb.2.2.1 x (Ah7 hx);have htx:=EL hx;have htd:=EL hd
    have hdl:d.nd.l.length≤281474976710656:=by
     have:=hb.2.2.2 d.nd (Ak1 (Ah7 hd));omega
    have hstep:EO ns (dv.map NdV.nd)→(DE x.name∧(∀y,0<k∧ns[k - 1]?=some y→Bk y.name x.name<0)∧1≤x.ino∧x.ino≤4611686018427387904∧¬Be Nm.ino (ns.take k) x.ino)∧(∀y,0<k∧dv[k - 1]?=some y→y.nd.ino<d.nd.ino)∧Be Nd.ino (dv.map NdV.nd) x.ino∧Dh d.nd.size d.nd.l:=by
     intro hm;obtain⟨-,-,o1,o2,o3,o4⟩:=Ue.1 hm;refine⟨?_,?_,o3 x (Ah7 hx),o4 d.nd (Ak1 (Ah7 hd))⟩
     ·rw[← Am4 (k+1) ns,htx]at o1
      have:=(QJ.1 (uA o1)).2
      simpa only[JZ (show k≤ns.length by omega)]using this
     ·rintro y ⟨h0,hy⟩
      have:=M0 o2 (i:=k - 1) (j:=k) (x:=y.nd) (y:=d.nd) (by rw[Aj3,hy];rfl) (by rw[Aj3,hd];rfl) (by omega)
      rwa[Pf]at this
    obtain⟨X,ea,c1,c2,g2⟩:∃X,AP 2 (H'++[some (.cells [S (B9 []),I 0])]) (.ptr H'.length 0) (.agg (Cb x))=some X∧X[0]?=some (some (.cells [a,b]))∧X[H'.length]?=some (some (.cells [S (B9 x.name),I x.ino]))∧Grew H' X:=by
     have g1:=Grew.app H' [some (.cells (Cb x))];exact⟨_,by simp[AP,Cb,Bm],g1.cells c0,by simp[Cb],g1⟩
    simp[c0,ha.len,h,ha.idx BT hx rfl,oW,aT,ea];simp[c2];refine bP_of (Fe (s:=x.name) (by omega)) ?_
    by_cases a1:DE x.name
    ·by_cases a2:x.ino<1
     ·have:¬EO ns (dv.map NdV.nd):=λhm=>by have:=(hstep hm).1.2.2.1;omega
      simp[c2,a1,a2,this]
     ·by_cases a3:4611686018427387904<x.ino
      ·have:¬EO ns (dv.map NdV.nd):=λhm=>by have:=(hstep hm).1.2.2.2.1;omega
       simp[c2,a1,a2,a3,this]
      ·rcases Am1 k with h0 | hk0
       ·have e0:¬0<k:=by omega
        simp[c2,a1,a2,a3,e0,c1,Ax];refine bP_of (Jm hv0 hb x.ino) ?_
        by_cases a4:Be Nd.ino (dv.map NdV.nd) x.ino
        ·have i4:¬JJ Nd.ino (dv.map NdV.nd) x.ino<0:=by rw[HP];exact λh=>h a4
         simp[i4];refine FK _ (λn x1 x3 x4 x5 H''=>∃j:Nat,j+n=k∧x1=.ptr 0 0∧x3=I k∧x4=.ptr H'.length 0∧x5=I j∧X=H''∧¬Be Nm.ino (ns.take j) x.ino) ?_ k ⟨0,by omega,rfl,rfl,rfl,rfl,rfl,by simp[Be]⟩;rintro n2 y1 y3 y4 y5 H2 R2 hR2 ⟨j,hj,rfl,rfl,rfl,rfl,rfl,hnj⟩;unfold E2;rcases Ai0 j k with hjk | hjk
         ·have hz:=DD (l:=ns) (i:=j) (by omega)
          generalize ns[j]=z at hz;simp[c2,hjk,c1,ha.idx BT hz rfl,bQ]
          by_cases cz:z.ino=x.ino
          ·have:¬EO ns (dv.map NdV.nd):=λhm=>(hstep hm).1.2.2.2.2 ⟨z,Aj2.2 ⟨j,by rw[Ai4,if_pos hjk];exact hz⟩,cz⟩
           simp[cz,this]
          ·simp[cz,Au (a:=j) (b:=1) (by omega) (by omega)]
           refine hR2 (n2 - 1) _ _ _ _ _ (by omega) ⟨j+1,by omega,rfl,rfl,rfl,by simp,rfl,?_⟩;rw[EL hz];rintro⟨w,hw,e⟩;rcases Al3.1 hw with hw | hw
           ·exact hnj ⟨w,hw,e⟩
           ·rw[Ao4]at hw;subst hw;exact cz e
         ·have ejk:j=k:=by omega
          subst ejk;have nj:¬j<j:=by omega
          have ei:=hbv.idx BL hd rfl
          have nxt:(∀y,0<j∧dv[j - 1]?=some y→y.nd.ino<d.nd.ino)→Dh d.nd.size d.nd.l→R [.ptr 0 0,I ((j:Int)+1)] X:=λq1 q2=>by
           refine hR (n - 1) _ _ _ (by omega) ⟨j+1,by omega,rfl,by simp,hg.trans g2,?_⟩;rw[htx,htd,Ak2];obtain⟨o1,o2,o3,o4⟩:=hok;refine⟨QJ.2 ⟨o1,a1,(λy hy=>by have:=(JZ (by omega) y).1 hy;omega),by omega,by omega,hnj⟩,(UL koI).2 ⟨o2,?_⟩,?_,?_⟩
           ·intro y hy
            rw[At1]at hy;obtain⟨w,hw,rfl⟩:=Option.map_eq_some_iff.1 hy;rw[Pf];exact q1 w ((JZ (by omega) w).1 hw)
           ·intro y hy
            rcases Al3.1 hy with hy | hy
            ·exact o3 y hy
            ·rw[Ao4]at hy;subst hy;exact a4
           ·intro y hy
            rcases Al3.1 hy with hy | hy
            ·exact o4 y hy
            ·simp at hy;subst hy;exact q2
          have n0:¬0<j:=by omega
          simp[c2,n0,c1,ei];refine bP_of (CD d.h hdl) ?_
          by_cases q2:Dh d.nd.size d.nd.l
          ·simp[q2,Au (a:=j) (b:=1) (by omega) (by omega)]
           exact nxt (λy hy=>by omega) q2
          ·have:¬EO ns (dv.map NdV.nd):=λhm=>q2 (hstep hm).2.2.2
           simp[q2,this]
        ·have i4:JJ Nd.ino (dv.map NdV.nd) x.ino<0:=HP.2 a4
         have:¬EO ns (dv.map NdV.nd):=λhm=>a4 (hstep hm).2.2.1
         simp[i4,this]
       ·have hy:=DD (l:=ns) (i:=k - 1) (by omega)
        generalize ns[k - 1]=y at hy;have es:Ar .sub (I k) (I 1)=some (I ((k - 1:Nat):Int)):=by rw[B2 (by omega) (by omega)];congr 3;omega
        have eiy:=ha.idx BT hy (i:=((k - 1:Nat):Int)) rfl;simp[c2,a1,a2,a3,hk0,c1,es,eiy,VY,U4]
        by_cases a6:Bk y.name x.name<0
        ·simp[c2,show ¬0≤Bk y.name x.name by omega,Ax]
         refine bP_of (Jm hv0 hb x.ino) ?_
         by_cases a4:Be Nd.ino (dv.map NdV.nd) x.ino
         ·have i4:¬JJ Nd.ino (dv.map NdV.nd) x.ino<0:=by rw[HP];exact λh=>h a4
          simp[i4];refine FK _ (λn x1 x3 x4 x5 H''=>∃j:Nat,j+n=k∧x1=.ptr 0 0∧x3=I k∧x4=.ptr H'.length 0∧x5=I j∧X=H''∧¬Be Nm.ino (ns.take j) x.ino) ?_ k ⟨0,by omega,rfl,rfl,rfl,rfl,rfl,by simp[Be]⟩;rintro n2 y1 y3 y4 y5 H2 R2 hR2 ⟨j,hj,rfl,rfl,rfl,rfl,rfl,hnj⟩;unfold E2;rcases Ai0 j k with hjk | hjk
          ·have hz:=DD (l:=ns) (i:=j) (by omega)
           generalize ns[j]=z at hz;simp[c2,hjk,c1,ha.idx BT hz rfl,bQ]
           by_cases cz:z.ino=x.ino
           ·have:¬EO ns (dv.map NdV.nd):=λhm=>(hstep hm).1.2.2.2.2 ⟨z,Aj2.2 ⟨j,by rw[Ai4,if_pos hjk];exact hz⟩,cz⟩
            simp[cz,this]
           ·simp[cz,Au (a:=j) (b:=1) (by omega) (by omega)]
            refine hR2 (n2 - 1) _ _ _ _ _ (by omega) ⟨j+1,by omega,rfl,rfl,rfl,by simp,rfl,?_⟩;rw[EL hz];rintro⟨w,hw,e⟩;rcases Al3.1 hw with hw | hw
            ·exact hnj ⟨w,hw,e⟩
            ·rw[Ao4]at hw;subst hw;exact cz e
          ·have ejk:j=k:=by omega
           subst ejk;have nj:¬j<j:=by omega
           have ei:=hbv.idx BL hd rfl
           have nxt:(∀y,0<j∧dv[j - 1]?=some y→y.nd.ino<d.nd.ino)→Dh d.nd.size d.nd.l→R [.ptr 0 0,I ((j:Int)+1)] X:=λq1 q2=>by
            refine hR (n - 1) _ _ _ (by omega) ⟨j+1,by omega,rfl,by simp,hg.trans g2,?_⟩;rw[htx,htd,Ak2];obtain⟨o1,o2,o3,o4⟩:=hok;refine⟨QJ.2 ⟨o1,a1,(λz hz=>by have:=((JZ (by omega) z).1 hz).2;rw[hy]at this;injection this with this;rw[← this];exact a6),by omega,by omega,hnj⟩,(UL koI).2 ⟨o2,?_⟩,?_,?_⟩
            ·intro y hy
             rw[At1]at hy;obtain⟨w,hw,rfl⟩:=Option.map_eq_some_iff.1 hy;rw[Pf];exact q1 w ((JZ (by omega) w).1 hw)
            ·intro y hy
             rcases Al3.1 hy with hy | hy
             ·exact o3 y hy
             ·rw[Ao4]at hy;subst hy;exact a4
            ·intro y hy
             rcases Al3.1 hy with hy | hy
             ·exact o4 y hy
             ·simp at hy;subst hy;exact q2
           have hw:=DD (l:=dv) (i:=j - 1) (by omega);generalize dv[j - 1]=w at hw;have es:Ar .sub (I j) (I 1)=some (I ((j - 1:Nat):Int)):=by rw[B2 (by omega) (by omega)];congr 3;omega
           have ew:=hbv.idx BL hw (i:=((j - 1:Nat):Int)) rfl;simp[c2,hk0,c1,es,ew,ei,kB]
           by_cases q1:d.nd.ino≤w.nd.ino
           ·have:¬EO ns (dv.map NdV.nd):=λhm=>by have:=(hstep hm).2.1 w ⟨hk0,hw⟩;omega
            simp[q1,this]
           ·simp[q1,c1,ei]
            refine bP_of (CD d.h hdl) ?_
            by_cases q2:Dh d.nd.size d.nd.l
            ·simp[q2,Au (a:=j) (b:=1) (by omega) (by omega)]
             exact nxt (λy hy=>by have:=hy.2;rw[hw]at this;injection this with this;rw[← this];omega) q2
            ·have:¬EO ns (dv.map NdV.nd):=λhm=>q2 (hstep hm).2.2.2
             simp[q2,this]
         ·have i4:JJ Nd.ino (dv.map NdV.nd) x.ino<0:=HP.2 a4
          have:¬EO ns (dv.map NdV.nd):=λhm=>a4 (hstep hm).2.2.1
          simp[i4,this]
        ·have:¬EO ns (dv.map NdV.nd):=λhm=>a6 ((hstep hm).1.2.1 y ⟨hk0,hy⟩)
         simp[show 0≤Bk y.name x.name by omega,this]
    ·have:¬EO ns (dv.map NdV.nd):=λhm=>a1 (hstep hm).1.1
     simp[a1,this]
   ·have e1:ns.take k=ns:=Ai2 (by omega)
    have e2:dv.take k=dv:=Ai2 (by omega);rw[e1,e2]at hok;have:EO ns (dv.map NdV.nd):=Ue.2 ⟨h16,by simp[hlen],hok⟩;simp[c0,ha.len,show ¬k<ns.length by omega,this]
  ·have:¬EO ns (dv.map NdV.nd):=λh=>hlen (by simpa using h.2.1)
   have hlI:¬((ns.length:Int)=dv.length):=by omega
   simp[e16,hlI,ha.len,hbv.len,this]
 ·have:¬EO ns (dv.map NdV.nd):=λh=>h16 h.1.1
  have e16:(16:Int)<ns.length:=by omega
  simp[e16,this]))
end
section
def cS (o:Option Lv):Int:=(o.getD (0,[])).1
def cL (o:Option Lv):List Ext:=(o.getD (0,[])).2
theorem Zs (l:List Ext):A5 (l.flatMap AB)=true:=D0 λx _=>Hd x
def ContK (res:Option Lv)(r:AV)(X:AH):Prop:=∃w,r=.tup [.agg [I (cS res),w],B res.isSome]∧Ac X 9 w=some ((cL res).flatMap AB,(cL res).length)
theorem ContK.none {res:Option Lv}(h:res=none){X:AH}:ContK res (.tup [.agg [I 0,Ad],B false]) X:=by
 subst h;exact⟨_,rfl,rfl⟩
theorem ContK.some {res:Option Lv}{s:Int}{l:List Ext}(h:res=some (s,l)){X:AH}{w:AV}(hw:Ac X 9 w=some (l.flatMap AB,l.length)):ContK res (.tup [.agg [I s,w],B true]) X:=by
 subst h;exact⟨_,rfl,hw⟩
theorem BPure.cont {P:Program}{f:FuncId}{args:List AV}{res:Option Lv}(hb:A5 args=true)(h:∃r X,ContK res r X∧BCall P f args [] r X):
  ∃R,SV AB 9 (cL res) R∧BPure P f args (.tup [.agg [I (cS res),R],B res.isSome]):=by
 obtain⟨r,X,⟨w,rfl,hw⟩,h⟩:=h;obtain⟨R,hR,fR⟩:=FZ.sv hw (Zs _);obtain⟨R',⟨rfl,_⟩,h2⟩:=BPure.FZ (Q:=λR'=>R'=.tup [.agg [I (cS res),R],B res.isSome]∧True) hb ⟨_,X,⟨_,FZ.tup (FZs.cons (FZ.agg (FZs.cons (FZ.lit _) (FZs.cons fR FZs.nil))) (FZs.cons (FZ.lit _) FZs.nil)),rfl,trivial⟩,h⟩;exact⟨R,hR,h2⟩
theorem nQ {x:Ext}{k:Nat}{bs:List UInt8}(h:k+bs.length≤8):AB (ZI x k bs)=Ce (AB x) (1+k) (AY bs):=by
 have e:Ce (AB x) (1+k) (AY bs)=I x.no::Ce (AY x.b) k (AY bs):=by
  unfold Ce AB;rw[Ar5 1 k,Ar8,show k+1+(AY bs).length=(k+(AY bs).length)+1 by omega,List.drop_succ_cons];rfl
 rw[e,iG];unfold AB;rw[uI,zdedZ h]
theorem zdhjZ {H:AH}{w s:AV}{l:List Ext}{bs:List UInt8}{x:Ext}{i k m:Nat}{a b:Int}(hw:Ac H 9 w=some (l.flatMap AB,l.length))(ho:AZ w=true)(hx:l[i]?=some x)(hs:Ac H 1 s=some (AY bs,m))(hk:k+bs.length≤8)(ha:a=i)(hb:b=k):
  ∃p q d H',Bo 9 w (I a)=some p∧Ab 1 p=some q∧eR 8 1 H q (some (I b)) none=some d∧UP 1 H d s=some (I bs.length,H')∧H'.length=H.length∧(∀j,j∉AM w→H'[j]?=H[j]?)∧Ac H' 9 w=some ((l.set i (ZI x k bs)).flatMap AB,l.length):=by
 subst ha;subst hb;have hi:=(BE.1 hx).1;obtain⟨o,off,cap,cells,rfl,h1,h2,h3⟩:=I7 hw ho (by omega);have hol:=(BE.1 h1).1;have hm:m=bs.length:=by have:=B7 hs;rw[Dg]at this;omega
 subst hm;have hmul:i*9+9≤l.length*9:=by rw[← Al5];exact Ai7 _ hi
 have e1:min bs.length (8 - k)=bs.length:=by omega
 refine⟨.ptr o (off+i*9),.ptr o (off+i*9+1),.sl o (off+i*9+1+k) (8 - k) 1 (.ex (8 - k)),H.set o (some (.cells (Ce cells (off+(i*9+(1+k))) (AY bs)))),?_,rfl,?_,?_,by simp,λj hj=>Cc (by simp[AM]at hj;omega),?_⟩
 ·simp only[Bo,Ni]
  rw[if_pos ⟨by omega,by omega⟩];simp
 ·simp[eR,Ci,h1];omega
 ·unfold UP vL
  rw[A1 hs];simp only[h1];rw[if_pos ⟨trivial,by omega⟩,e1,An6,Ai2 (by rw[Dg];omega)];simp only[show off+i*9+1+k=off+(i*9+(1+k)) by omega]
 ·rw[Br (c:=Ce cells (off+(i*9+(1+k))) (AY bs)) (by simp[hol]) (by rw[I6 (by rw[Dg];omega)];exact h2)]
  rw[QL h2 (by rw[Dg];omega),← h3,QK AE hx (nQ hk) (by rw[Dg];omega)]
theorem V0 (pos:Int)(n:Nat)(hn:n≤281474976710656):BPure prog 86 [I pos,I n] (B (decide (0≤pos∧n≤4096∧pos≤1099511627776 - n))):=BPure.flat λH=>bX (by
 unfold Za
 by_cases h1:0≤pos
 ·by_cases h2:n≤4096
  ·have:(n:Int)≤4096:=by omega
   simp[h1,h2,this,B2 (a:=1099511627776) (b:=n) (by omega) (by omega)]
  ·have:¬(n:Int)≤4096:=by omega
   simp[h1,h2,this]
 ·simp[h1])
theorem cB {size:Int}{l:List Ext}{v bv:AV}{bs:List UInt8}(hv:SV AB 9 l v)(hl:l.length≤1000000)(pos:Int)(hb:SV FB 1 bs bv)(hbl:bs.length≤281474976710656):
  ∃R,SV AB 9 (cL (Dx (size,l) pos bs)) R∧BPure prog 35 [.agg [I size,v],I pos,bv] (.tup [.agg [I (cS (Dx (size,l) pos bs)),R],B (Dx (size,l) pos bs).isSome]):=by
 refine BPure.cont (by simp[A5,noIds,hv.1,hb.1]) (Z8 ?_);unfold WQ;simp[Cn hv,Ax];refine Ay (EM hv (by omega)) ?_
 by_cases h1:Dh size l
 ·simp[h1,hb.len]
  refine Ay (V0 pos bs.length hbl) ?_
  by_cases h2:0≤pos∧bs.length≤4096∧pos≤1099511627776 - bs.length
  ·have hw:Dx (size,l) pos bs=some (if bs=[]then(size,l)else(max size (pos+bs.length),BH l pos bs)):=if_pos ⟨h1,h2⟩
   obtain⟨g1,g2,g3⟩:=h2;simp[g1,g2,g3];obtain⟨r,H2,⟨w,rfl,a2,a3,a4,a5⟩,a1⟩:=WC (size:=size) (hv.2 [some (.cells [I size,v]),some (.cells [I 0,Ad])]) (Cn hv) (by omega);refine bC_of a1 ?_;have c0:=a4.cells (o:=0) (x:=some (.cells [I size,v])) rfl;have c1:=a4.cells (o:=1) (x:=some (.cells [I 0,Ad])) rfl;have hl2:=a4.1;simp only[Aa3]at hl2;have hwo:=AD a2;have id0:∀j,j<2→j∉AM w:=λj hj h=>by have:=a5 j h;simp at this;omega
   rw[AK (n:=2) (off:=0) (x:=.agg [I size,w]) (xs:=[I size,w]) (by simp[hwo]) c0 rfl (by simp)];simp
   by_cases hbs:bs=[]
   ·subst hbs
    simp[show 0<H2.length by omega];rw[AK (n:=2) (off:=0) (x:=.agg [I size,w]) (xs:=[I size,w]) (cs:=[I 0,Ad]) (by simp[hwo]) (by rw[Cc (by omega)];exact c1) rfl (by simp)];simp[show 1<H2.length by omega]
    exact ContK.some hw (Ae a3 λi hi=>by
     have h2:2≤i:=Al1 λh=>id0 i h hi
     rw[Cc (by omega),Cc (by omega)])
   ·have hlen:0<bs.length:=List.length_pos_iff.2 hbs
    rw[if_neg hbs]at hw;simp[hbs];obtain⟨pv,hpv,pq⟩:=Zw ⟨pos,bs.length⟩ (unit:=8) (by omega);refine Ay pq ?_;have hP:Ed ⟨pos,bs.length⟩ 8=Df bs.length pos bs.length 8:=if_pos ⟨by simp only[MaySpan,May];omega,by simp only;omega,by omega⟩;generalize Ed ⟨pos,(bs.length:Int)⟩ 8=parts at hpv hP;simp[hpv.len];have hs0:=Jk h1.2.2;refine SO (λn x1 x2 x3 x6 x33 x34 x35 H=>∃(j d:Nat) (w:AV),j+n=parts.length∧x1=I pos∧x2=bv∧x3=.ptr 0 0∧x6=.ptr 1 0∧x33=pv∧x34=I parts.length∧x35=I j∧H[0]?=some (some (.cells [I size,w]))∧H[1]?=some (some (.cells [I 0,Ad]))∧
     Ac H 9 w=some ((BH l pos (bs.take d)).flatMap AB,(BH l pos (bs.take d)).length)∧AZ w=true∧(∀j,j<2→j∉AM w)∧d≤bs.length∧parts.drop j=Df (bs.length - d) (pos+d) (bs.length - d:Nat) 8∧j≤d) ?_ parts.length
     ⟨0,0,w,by simp,rfl,rfl,rfl,rfl,rfl,rfl,rfl,JY (by omega),(Cc (by omega)).trans c1,?_,a2,id0,by omega,by simpa using hP,by omega⟩
    ·rintro n x1 x2 x3 x6 x33 x34 x35 H R hR ⟨j,d,w,hj,rfl,rfl,rfl,rfl,rfl,rfl,rfl,k0,k1,kw,ko,kid,kd,kp,kj⟩
     unfold NC
     by_cases hd:d<bs.length
     ·rw[VT (by omega) (by omega) (by omega) (by omega)]at kp
      obtain⟨m,hm⟩:∃m:Nat,(m:Int)=min ((bs.length - d:Nat):Int) (8 - (pos+d) % 8):=⟨(min ((bs.length - d:Nat):Int) (8 - (pos+d) % 8)).toNat,by omega⟩;rw[← hm]at kp
      have hpj:parts[j]?=some ⟨pos+d,m⟩:=by
       have:=congrArg (λq=>q[0]?) kp
       simpa using this
      have hjl:=(BE.1 hpj).1;simp[hjl,hpv.idx Yk hpj rfl,Bz,Ax,AP,JS (a:=pos+d) (b:=8) (by omega) (by omega) (by omega)];have g:=Grew.app H [some (.cells [I (pos+d),I m])];have hlL:=sK (bs:=bs.take d) (l:=l) (p:=pos);have htl:(bs.take d).length=d:=by rw[Ah8];omega
      have hws:=eG (bs:=bs.take d) hs0 pos;generalize hL:BH l pos (bs.take d)=L at kw hlL hws;have hH0:=(BE.1 k0).1;have hH1:=(BE.1 k1).1;obtain⟨H11,⟨w',q1,q2,q3,q4,q5,q6,q7⟩,q8⟩:=TN (no:=(pos+d)/8) (g.cells k0) (g.slice kw) ko (kid 0 (by omega)) hws (by omega);refine bC_of q8 ?_;have hid':∀i,i<H.length→i∉AM w→i∉AM w':=λi h1 h2 h3=>(q7 i h3).elim h2 (λh=>by simp at h;omega)
      have z1:H11[1]?=some (some (.cells [I 0,Ad])):=by
       rw[q6 1 (by simp;omega) (by omega) (kid 1 (by omega))];exact g.cells k1
      have z2:H11[H.length]?=some (some (.cells [I (pos+d),I m])):=by
       rw[q6 H.length (by simp) (by omega) (λh=>by have:=Az kw _ h;omega)];simp
      obtain⟨x,hx,hxn⟩:=oG hws ((pos+d)/8);obtain⟨r24,s1,s2,-,-,s3⟩:=EI (H:=H11) (hb.bytes H11) (lo:=some (I d)) (hi:=none) (l:=d) (k:=bs.length) (by simp[Ci]) rfl kd (Ah9 _);obtain⟨r27,t1,t2,-,-,-⟩:=EI (H:=H11) s2 (lo:=none) (hi:=some (I m)) (l:=0) (k:=m) rfl (by simp[Ci]) (by omega) (by omega)
      have t3:Ac H11 1 r27=some (AY ((bs.drop d).take m),m):=by
       rw[t2];simp[N0,Qx];rw[Ai2 (l:=bs.drop d) (by simp)]
      have hbl2:((bs.drop d).take m).length=m:=by rw[Ah8,Ai5];omega
      obtain⟨p,q,dd,H29,u1,u2,u3,u4,u5,u6,u7⟩:=zdhjZ (a:=posL L ((pos+d)/8)) (b:=pos+d - (pos+d)/8*8) (k:=((pos+d) % 8).toNat) q2 q3 hx t3 (by omega) rfl (by omega);rw[hbl2]at u4;simp[q1,z2,u1,u2,D4 (a:=(pos+d)/8) (b:=8) (by omega) (by omega),B2 (a:=pos+d) (b:=(pos+d)/8*8) (by omega) (by omega),u3,B2 (a:=pos+d) (b:=pos) (by omega) (by omega),show pos+(d:Int) - pos=d by omega,s1,t1,u4,Au (a:=j) (b:=1) (by omega) (by omega)];rw[uL (Kg hws _) hx,hxn]at u7
      have hnp:ZJ (DX L ((pos+d)/8)) ((pos+d)/8) ((pos+d) % 8).toNat ((bs.drop d).take m)=BH l pos (bs.take (d+m)):=by
       show E7 L (pos+d) _=_
       rw[zdfdZ hws (by omega) (λh=>by rw[h]at hbl2;simp at hbl2;omega),← hL,Av0,lT,htl]
      rw[hnp]at u7;have hll:(DX L ((pos+d)/8)).length=(BH l pos (bs.take (d+m))).length:=by rw[← hnp];simp[ZJ]
      rw[hll]at u7;refine hR (n - 1) _ _ _ _ _ _ _ _ (by omega) ⟨j+1,d+m,w',by omega,rfl,rfl,rfl,rfl,rfl,rfl,rfl,?_,?_,u7,q3,λi hi=>hid' i (by omega) (kid i hi),by omega,?_,by omega⟩
      ·rw[u6 0 (hid' 0 (by omega) (kid 0 (by omega)))];exact q1
      ·rw[u6 1 (hid' 1 (by omega) (kid 1 (by omega)))];exact z1
      ·have:=congrArg List.tail kp
       rw[List.tail_drop]at this;rw[this,List.tail_cons,show pos+(d:Int)+m=pos+((d+m:Nat):Int) by omega,show((bs.length - d:Nat):Int) - m=((bs.length - (d+m):Nat):Int) by omega];rfl
     ·have hd':d=bs.length:=by omega
      subst hd';rw[VU (by omega)]at kp
      have hjl:¬j<parts.length:=λh=>by
       have:=congrArg List.length kp
       rw[Ai5]at this;simp at this;omega
      rw[Al2]at kw;have hH0:=(BE.1 k0).1;have hH1:=(BE.1 k1).1;have hko:=AD ko;have hmx:max (pos+(bs.length:Int)) size=max size (pos+bs.length):=by omega
      simp[hjl,k0,hb.len,Au (a:=pos) (b:=bs.length) (by omega) (by omega),hmx];rw[AK (n:=1) (off:=0) (xs:=[I (max size (pos+bs.length))]) (cs:=[I size,w]) rfl k0 rfl (by simp)];simp[hH0,Ax];rw[AK (n:=2) (off:=0) (xs:=[I (max size (pos+bs.length)),w]) (cs:=[I 0,Ad]) (by simp[hko]) ((Cc (by omega)).trans k1) rfl (by simp)];simp[hH1]
      exact ContK.some hw (Ae kw λi hi=>by
       have h2:2≤i:=Al1 λh=>kid i h hi
       rw[Cc (by omega),Cc (by omega)])
    ·simp only[Ao5,BH]
     exact Ae a3 λi hi=>by
      have h2:2≤i:=Al1 λh=>id0 i h hi
      rw[Cc (by omega)]
  ·have hn:Dx (size,l) pos bs=none:=if_neg (λh=>h2 h.2)
   have h2':¬(0≤pos∧bs.length≤4096∧pos≤1099511627776 - bs.length):=h2;simp[h2',AP];exact ContK.none hn
 ·have hn:Dx (size,l) pos bs=none:=if_neg (λh=>h1 h.1)
  simp[h1,AP];exact ContK.none hn
theorem uS {H:AH}{w:AV}{l:List Ext}{n k:Nat}{a:Int}{x:Ext}(hw:Ac H 9 w=some (l.flatMap AB,n))(hx:l[k]?=some x)(ha:a=k):
  ∃p q,Bo 9 w (I a)=some p∧Ab 0 p=some q∧Ap false 1 H q=some (I x.no)∧Ap true 9 H p=some (.agg (AB x)):=by
 have hk:=(BE.1 hx).1;have hn:n=l.length:=by have h1:=B7 hw;have h2:=LU AE l;omega
 obtain⟨p,c,h1,h2,h3,h4⟩:=Nx hw ha (show k<n by omega);obtain⟨q,h5,h6⟩:=vT (k:=0) h2
 have hc:c.take 9=AB x:=by
  rw[h3,Ev AE hx,Aj7 (by rw[AE];omega),Ai2 (by rw[AE];omega)]
 refine⟨p,q,h1,h5,?_,?_⟩
 ·rw[VQ h6 (by omega) (by simp;omega),Ah]
  have:=congrArg (λl=>l[0]?) hc
  simp only[Ak9]at this⊢;rw[Ao9 (by omega)]at this;exact this
 ·rw[VQ h2 (by omega) h4,Um (by omega),Ak9,hc]
theorem zdhiZ {H:AH}{w:AV}{l:List Ext}{y:UInt8}{x:Ext}{i k:Nat}{a b:Int}(hw:Ac H 9 w=some (l.flatMap AB,l.length))(ho:AZ w=true)(hx:l[i]?=some x)(hk:k<8)(ha:a=i)(hb:b=k):
  ∃p q d H',Bo 9 w (I a)=some p∧Ab 1 p=some q∧SJ 8 1 q (I b)=some d∧AP 1 H d (.lit (.int .u8 y.toNat))=some H'∧H'.length=H.length∧(∀j,j∉AM w→H'[j]?=H[j]?)∧Ac H' 9 w=some ((l.set i (ZI x k [y])).flatMap AB,l.length):=by
 subst ha;subst hb;have hi:=(BE.1 hx).1;obtain⟨o,off,cap,cells,rfl,h1,h2,h3⟩:=I7 hw ho (by omega);have hol:=(BE.1 h1).1;have hmul:i*9+9≤l.length*9:=by rw[← Al5];exact Ai7 _ hi
 refine⟨.ptr o (off+i*9),.ptr o (off+i*9+1),.ptr o (off+(i*9+(1+k))),H.set o (some (.cells (Ce cells (off+(i*9+(1+k))) (AY [y])))),?_,rfl,?_,?_,by simp,λj hj=>Cc (by simp[AM]at hj;omega),?_⟩
 ·simp only[Bo,Ni]
  rw[if_pos ⟨by omega,by omega⟩];simp
 ·simp only[SJ,Ni]
  rw[if_pos ⟨by omega,by omega⟩];simp only[Al,As9,An6];rw[show off+i*9+1+k=off+(i*9+(1+k)) by omega]
 ·rw[AK (n:=1) (off:=off+(i*9+(1+k))) (xs:=AY [y]) rfl h1 rfl (by omega),HT _ _ _ (by rw[Dg];simp;omega)];rfl
 ·rw[Br (c:=Ce cells (off+(i*9+(1+k))) (AY [y])) (by simp[hol]) (by rw[I6 (by rw[Dg];simp;omega)];exact h2)]
  rw[QL h2 (by rw[Dg];simp;omega),← h3,QK AE hx (nQ (by simp;omega)) (by rw[Dg];simp;omega)]
theorem RY {H:AH}{size:Int}{v:AV}{cs:List AV}{n:Nat}(h:Ac H 9 v=some (cs,n))(h1:oneA v=true)(hn:n≤1000000000):
  ∃r H',(∃w,r=.agg [I size,w]∧AZ w=true∧Ac H' 9 w=some (cs,n)∧Grew H H'∧∀i∈AM w,H.length≤i)∧BCall prog 169 [.agg [I size,v]] H r H':=Th (by
 unfold O9;have g:=Grew.app H [some (.cells [I size,v]),some (.cells [I 0,Ad])];obtain⟨w,H2,a1,a2,a3,a4,a5,a6⟩:=BX (sz:=9) (bytes:=16) (H:=H++[some (.cells [I size,v]),some (.cells [I 0,Ad])]) (v:=Ad) (cs:=[]) (n:=0) rfl rfl (A1 (g.slice h)) (by omega);have g2:Grew (H++[some (.cells [I size,v]),some (.cells [I 0,Ad])]) H2:=⟨a4,λi hi=>a5 i hi (by simp[AM])⟩;have c0:=g2.cells (o:=H.length) (x:=some (.cells [I size,v])) (by simp);have c1:=g2.cells (o:=H.length+1) (x:=some (.cells [I 0,Ad])) (by rw[Ai1 (by omega)];simp);have l2:H.length+2≤H2.length:=by simpa using a4
 have hw:=AD a2;have a6':∀i∈AM w,H.length+2≤i:=λi hi=>(a6 i hi).elim (by simp[AM]) (λh=>by simpa using h)
 simp[h1,a1,Bs hw];rw[AK (n:=2) (off:=0) (x:=.agg [I size,w]) (xs:=[I size,w]) (cs:=[I 0,Ad]) (by simp[hw]) c1 rfl (by simp)];simp[show H.length+1<H2.length by omega,c0,Ax];refine⟨a2,by simpa using(Ae a3 λi hi=>Cc (by have:=a6' i hi;omega)),?_,λi hi=>?_⟩
 ·refine⟨by simp;omega,λi hi=>?_⟩
  rw[Cc (by omega),g2.2 i (by simp;omega),g.2 i hi]
 ·have:=a6' i hi;omega)
theorem Zz {H : AH} {oc : Nat} {size no : Int} {v : AV} {l : List Ext} (hc : H[oc]? = some (some (.cells [I size,v]))) (hv : Ac H 9 v=some (l.flatMap AB,l.length)) (ho : AZ v=true) (hne : oc ∉ AM v) (hs : srt l) (hl : l.length≤100000000) :
    ∃H',sM H oc size v (DX l no) H'∧BCall prog 170 [.ptr oc 0,I no] H (I (posL l no)) H':=by
  have key:∃r H',(r=I (posL l no)∧sM H oc size v (DX l no) H')∧BCall prog 170 [.ptr oc 0,I no] H r H':=Vg (by
    unfold QZ;have hol:=(BE.1 hc).1;refine Qg (λn x0 x1 x5 H'=>∃k:Nat,k+n=l.length∧x0=.ptr oc 0∧x1=I no∧x5=I k∧H'=H∧∀m x,m<k→l[m]?=some x→x.no<no) ?_ l.length ⟨0,by simp,rfl,rfl,rfl,rfl,by simp⟩;rintro n x0 x1 x5 H' R hR ⟨k,hk,rfl,rfl,rfl,hHe,hm⟩
    replace hHe:=hHe.symm
    subst hHe;unfold Lo
    have hcase:(∃y,l[k]?=some y∧y.no<no)∨(∃y,l[k]?=some y∧y.no=no)∨(∃y,l[k]?=some y∧no<y.no)∨k=l.length:=by
      rcases Ai0 k l.length with h | h
      · have hx:=DD h;rcases Int.lt_trichotomy (l[k]).no no with c | c | c
        · exact .inl ⟨_,hx,c⟩
        · exact .inr (.inl ⟨_,hx,c⟩)
        · exact .inr (.inr (.inl ⟨_,hx,c⟩))
      · exact .inr (.inr (.inr (by omega)))
    have hlen:=By hv;rcases hcase with⟨y,hy,c⟩ | ⟨y,hy,c⟩ | h3 | h3
    · obtain⟨p,q,e1,e2,e3,-⟩:=uS (a:=k) hv hy rfl;have hkl:=(BE.1 hy).1;simp[hlen,hkl,e1,e2,e3,c,-CF,Ai hc];simp[Au (a:=k) (b:=1) (by omega) (by omega)];refine hR (n - 1) _ _ _ _ (by omega) ⟨k+1,by omega,rfl,rfl,rfl,rfl,λm x hmk hx=>?_⟩
      by_cases h:m=k
      · subst h;rw[hy]at hx;injection hx with hx;rw[← hx];exact c
      · exact hm m x (by omega) hx
    · obtain⟨p,q,e1,e2,e3,-⟩:=uS (a:=k) hv hy rfl;have hkl:=(BE.1 hy).1;have hh:BG l no:=⟨y,Ah7 hy,c⟩;have hp:posL l no=k:=by rw[← c];exact uF hs hy
      have e:DX l no=l:=if_pos hh;simp[hlen,hkl,e1,e2,e3,c,-CF,Ai hc];rw[hp,e];exact⟨rfl,v,hc,hv,ho,hne,Ah9 _,λ_ _ _ _=>rfl,λi hi=>.inl hi⟩
    all_goals
      have h:(∃y,l[k]?=some y∧no<y.no)∨k=l.length:=by first | exact .inl h3 | exact .inr h3
      have hp:posL l no=k:=by
        rcases h with⟨y,hy,c⟩ | h
        · exact RW (by omega) hm (λx hx=>by rw[hy]at hx;injection hx with hx;rw[← hx];omega)
        · exact RW (by omega) hm (λx hx=>by have:=(BE.1 hx).1;omega)
      have hh:¬BG l no:=by
        rw[TU hs,hp];rintro⟨z,hz,e⟩;rcases h with⟨y,hy,c⟩ | h
        · rw[hy]at hz;injection hz with hz;rw[hz]at c;omega
        · have:=(BE.1 hz).1;omega
      have e:DX l no=l.take k++QI no::l.drop k:=by rw[← hp];exact if_neg hh
      obtain⟨r1,f1,f2,f3,f4,-⟩:=EI hv (lo:=none) (hi:=some (I k)) (l:=0) (k:=k) rfl (by simp[Ci]) (by omega) (by omega);simp only[As4,Ak9,Ar4,HO AE]at f2;obtain⟨r2,H2,a1,a2,a3,a4,a5,a6⟩:=BX (sz:=9) (bytes:=16) (H:=H) (v:=Ad) (cs:=[]) (n:=0) rfl rfl (A1 f2) (by omega);have g2:Grew H H2:=⟨a4,λi hi=>a5 i hi (by simp[AM])⟩;have g3:=Grew.app H2 [some (.cells (AB (QI no)))];obtain⟨r3,H3,b1,b2,b3,b4,b5,b6⟩:=BX (sz:=9) (bytes:=16) (g3.slice a3) a2 (A1 (v:=.sl H2.length 0 1 9 (.ex 1)) (q:=(AB (QI no),1)) (by simp[Ac,AE,Ai2])) (by omega);have hid2:∀i∈AM r2,H.length≤i:=λi hi=>(a6 i hi).elim (by simp[AM]) id
      have g4:∀i,i<H.length→H3[i]?=H[i]?:=λi hi=>by
        rw[b5 i (by simp;omega) (λh=>by have:=hid2 i h;omega),g3.2 i (by omega),g2.2 i hi]
      have c3:H3[oc]?=some (some (.cells [I size,v])):=by rw[g4 oc hol];exact hc
      have hv3:Ac H3 9 v=some (l.flatMap AB,l.length):=Ae hv λi hi=>g4 i (Az hv i hi)
      obtain⟨r4,d1,d2,d3,d4,-⟩:=EI hv3 (lo:=some (I k)) (hi:=none) (l:=k) (k:=l.length) (by simp[Ci]) rfl (by omega) (by omega);rw[Gz AE,Ai2 (by rw[LU AE,Ai5];omega)]at d2;obtain⟨r5,H5,j1,j2,j3,j4,j5,j6⟩:=BX (sz:=9) (bytes:=16) b3 b2 (A1 d2) (by omega);have hid3:∀i∈AM r3,H.length≤i:=λi hi=>(b6 i hi).elim (hid2 i) (λh=>by simp at h;omega)
      have hid5:∀i∈AM r5,H.length≤i:=λi hi=>(j6 i hi).elim (hid3 i) (λh=>by simp at b4;omega)
      have g5:∀i,i<H.length→H5[i]?=H[i]?:=λi hi=>by
        rw[j5 i (by simp at b4;omega) (λh=>by have:=hid3 i h;omega),g4 i hi]
      have c5:H5[oc]?=some (some (.cells [I size,v])):=by rw[g5 oc hol];exact hc
      have hol5:=(BE.1 c5).1;have hle:H.length≤H5.length:=by simp at b4;omega
      rw[bN]at b1
      first
        | (obtain ⟨y,hy,c⟩:=h3
           obtain⟨p,q,e1,e2,e3,-⟩:=uS (a:=k) hv hy rfl;have hkl:=(BE.1 hy).1;simp[hlen,hkl,e1,e2,e3,show ¬y.no<no by omega,show ¬y.no=no by omega,-CF,Ai hc])
        | (have hkl : ¬ k < l.length:=by omega
           simp[hlen,hkl,-CF,Ai hc])
      simp[f1,a1,-CF];simp[b1,Ai c3,d1,j1,-CF];rw[AK (n:=1) (off:=1) (xs:=[r5]) (cs:=[I size,v]) (Bs (AD j2)) c5 rfl (by simp)];simp;have hoc:oc∉AM r5:=λh=>by have:=hid5 oc h;omega
      refine⟨by rw[hp],r5,by simp[hol5],?_,j2,hoc,by simp;omega,λi hi h1 h2=>?_,λi hi=>.inr (hid5 i hi)⟩
      · rw[Ae j3 (λi hi=>Cc (fun (h:oc=i)=>hoc (h▸hi))),e];simp[Al7];omega
      · rw[Cc (by omega),g5 i hi])
  obtain⟨r,H',⟨rfl,h1⟩,h2⟩:=key;exact⟨H',h1,h2⟩
theorem NQ {size:Int}{l:List Ext}{v bv:AV}{bs:List UInt8}(hv:SV AB 9 l v)(hl:l.length≤1000000)(pos:Int)(hb:SV FB 1 bs bv)(hbl:bs.length≤281474976710656):
  ∃R,SV AB 9 (cL (Dx (size,l) pos bs)) R∧BPure prog 118 [.agg [I size,v],I pos,bv] (.tup [.agg [I (cS (Dx (size,l) pos bs)),R],B (Dx (size,l) pos bs).isSome]):=by
 refine BPure.cont (by simp[A5,noIds,hv.1,hb.1]) (Nu ?_);unfold IT;simp[Cn hv,Ax];refine Ay (CD hv (by omega)) ?_
 by_cases h1:Dh size l
 ·by_cases h0:pos<0
  ·have hn:Dx (size,l) pos bs=none:=if_neg (λh=>by omega)
   simp[h1,h0,AP];exact ContK.none hn
  ·by_cases h2:4096<bs.length
   ·have hn:Dx (size,l) pos bs=none:=if_neg (λh=>by omega)
    simp[h1,h0,hb.len,show(4096:Int)<bs.length by omega,AP];exact ContK.none hn
   ·simp[h1,h0,hb.len,show ¬(4096:Int)<bs.length by omega,B2 (a:=1099511627776) (b:=bs.length) (by omega) (by omega)]
    by_cases h3:1099511627776 - (bs.length:Int)<pos
    ·have hn:Dx (size,l) pos bs=none:=if_neg (λh=>by omega)
     simp[h3,AP];exact ContK.none hn
    ·have hw:Dx (size,l) pos bs=some (if bs=[]then(size,l)else(max size (pos+bs.length),BH l pos bs)):=if_pos ⟨h1,by omega,by omega,by omega⟩
     simp[h3];obtain⟨r,H2,⟨w,rfl,a2,a3,a4,a5⟩,a1⟩:=RY (size:=size) (hv.2 [some (.cells [I size,v]),some (.cells [I 0,Ad])]) (Cn hv) (by omega);refine bC_of a1 ?_;have c0:=a4.cells (o:=0) (x:=some (.cells [I size,v])) rfl;have c1:=a4.cells (o:=1) (x:=some (.cells [I 0,Ad])) rfl;have hl2:=a4.1;simp only[Aa3]at hl2;have hwo:=AD a2;have id0:∀j,j<2→j∉AM w:=λj hj h=>by have:=a5 j h;simp at this;omega
     rw[AK (n:=2) (off:=0) (x:=.agg [I size,w]) (xs:=[I size,w]) (by simp[hwo]) c0 rfl (by simp)];simp;have hs0:=Jk h1.2.2;refine Ky (λn x1 x2 x3 x6 x8 H=>∃(d:Nat) (w:AV),d+n=bs.length∧x1=I pos∧x2=bv∧x3=.ptr 0 0∧x6=.ptr 1 0∧x8=I d∧H[0]?=some (some (.cells [I size,w]))∧H[1]?=some (some (.cells [I 0,Ad]))∧
      Ac H 9 w=some ((BH l pos (bs.take d)).flatMap AB,(BH l pos (bs.take d)).length)∧AZ w=true∧(∀j,j<2→j∉AM w)) ?_ bs.length
      ⟨0,w,by simp,rfl,rfl,rfl,rfl,rfl,JY (by omega),(Cc (by omega)).trans c1,?_,a2,id0⟩
     ·rintro n x1 x2 x3 x6 x8 H R hR ⟨d,w,hdn,rfl,rfl,rfl,rfl,rfl,k0,k1,kw,ko,kid⟩
      unfold FO
      by_cases hd:d<bs.length
      ·have hlL:=sK (bs:=bs.take d) (l:=l) (p:=pos)
       have htl:(bs.take d).length=d:=by rw[Ah8];omega
       have hws:=eG (bs:=bs.take d) hs0 pos;generalize hL:BH l pos (bs.take d)=L at kw hlL hws;have hy:=DD hd;generalize bs[d]=y at hy;simp[hb.len,hd,Au (a:=pos) (b:=d) (by omega) (by omega),JS (a:=pos+d) (b:=8) (by omega) (by omega) (by omega)];obtain⟨H11,⟨w',q1,q2,q3,q4,q5,q6,q7⟩,q8⟩:=Zz (no:=(pos+d)/8) k0 kw ko (kid 0 (by omega)) hws (by omega);refine bC_of q8 ?_;have hH0:=(BE.1 k0).1;have hH1:=(BE.1 k1).1;have hid':∀i,i<H.length→i∉AM w→i∉AM w':=λi h1 h2 h3=>(q7 i h3).elim h2 (λh=>by omega)
       have z1:H11[1]?=some (some (.cells [I 0,Ad])):=by
        rw[q6 1 hH1 (by omega) (kid 1 (by omega))];exact k1
       obtain⟨x,hx,hxn⟩:=oG hws ((pos+d)/8);obtain⟨p,q,dd,H29,u1,u2,u3,u4,u5,u6,u7⟩:=zdhiZ (y:=y) (a:=posL L ((pos+d)/8)) (b:=(pos+d) % 8) (k:=((pos+d) % 8).toNat) q2 q3 hx (by omega) rfl (by omega);obtain⟨p2,s1,-,s2⟩:=yO (H:=H11) (hb.bytes H11) (i:=d) (k:=d) rfl hy;simp[q1,U3 (a:=pos+d) (b:=8) (by omega) (by omega),s1,s2,u1,u2,u3,u4,Au (a:=d) (b:=1) (by omega) (by omega),-CF];rw[uL (Kg hws _) hx,hxn]at u7
       have hnp:ZJ (DX L ((pos+d)/8)) ((pos+d)/8) ((pos+d) % 8).toNat [y]=BH l pos (bs.take (d+1)):=by
        show E7 L (pos+d) _=_
        rw[zdfdZ hws (by simp;omega) (by simp),← hL,Al0,hy,lT,htl];rfl
       rw[hnp]at u7;have hll:(DX L ((pos+d)/8)).length=(BH l pos (bs.take (d+1))).length:=by rw[← hnp];simp[ZJ]
       rw[hll]at u7;refine hR (n - 1) _ _ _ _ _ _ (by omega) ⟨d+1,w',by omega,rfl,rfl,rfl,rfl,rfl,?_,?_,u7,q3,λi hi=>hid' i (by omega) (kid i hi)⟩
       ·rw[u6 0 (hid' 0 (by omega) (kid 0 (by omega)))];exact q1
       ·rw[u6 1 (hid' 1 (by omega) (kid 1 (by omega)))];exact z1
      ·have hd':d=bs.length:=by omega
       subst hd';rw[Al2]at kw;have hH0:=(BE.1 k0).1;have hH1:=(BE.1 k1).1;have hko:=AD ko
       have tail:∀s H2,H2.length=H.length→H2[0]?=some (some (.cells [I s,w]))→H2[1]?=some (some (.cells [I 0,Ad]))→Ac H2 9 w=some ((BH l pos bs).flatMap AB,(BH l pos bs).length)→Dx (size,l) pos bs=some (s,BH l pos bs)→Da (.ptr 0 0) (.ptr 1 0) H2 (ContK (Dx (size,l) pos bs)):=by
        intro s H2 hl2 e0 e1 e2 e3;rw[KS];unfold F8;simp[-CF,Ai e0,Ax];rw[AK (n:=2) (off:=0) (xs:=[I s,w]) (cs:=[I 0,Ad]) (by simp[hko]) e1 rfl (by simp)];simp[show 1<H2.length by omega,Ax]
        exact ContK.some e3 (Ae e2 λi hi=>by
         have h2:2≤i:=Al1 λh=>kid i h hi
         rw[Cc (by omega)])
       by_cases hbs:bs=[]
       ·rw[if_pos hbs]at hw
        have h00:¬0<bs.length:=by rw[hbs];simp
        simp only[hb.len,Ae8,Du,Int.lt_irrefl,show ¬(0:Int)<bs.length by omega];refine tail size H rfl k0 k1 kw ?_;rw[hw,hbs];rfl
       ·rw[if_neg hbs]at hw
        have hlen:0<bs.length:=List.length_pos_iff.2 hbs;have hmx:max (pos+(bs.length:Int)) size=max size (pos+bs.length):=by omega
        simp[hb.len,hlen,-CF,Ai k0,Au (a:=pos) (b:=bs.length) (by omega) (by omega),hmx];rw[AK (n:=1) (off:=0) (xs:=[I (max size (pos+bs.length))]) (cs:=[I size,w]) rfl k0 rfl (by simp)];simp
        refine tail _ _ (by simp) (JY hH0) ((Cc (by omega)).trans k1) (Ae kw λi hi=>by
         have h2:2≤i:=Al1 λh=>kid i h hi
         rw[Cc (by omega)]) hw
     ·simp only[Ao5,BH]
      exact Ae a3 λi hi=>by
       have h2:2≤i:=Al1 λh=>id0 i h hi
       rw[Cc (by omega)]
 ·have hn:Dx (size,l) pos bs=none:=if_neg (λh=>h1 h.1)
  simp[h1,AP];exact ContK.none hn
section
variable {κ α : Type} [DecidableEq κ] {c : κ→κ→Int} {key : α→κ}
def qJ (key:α→κ)(l:List α)(k:κ):Option α:=l.find? (λx=>decide (key x=k))
abbrev As3:=@List.mem_of_find?_eq_some
theorem ZT {l:List α}{k:κ}(h:Be key l k):∃x,qJ key l k=some x∧x∈l∧key x=k:=by
 obtain⟨y,hy,e⟩:=h;unfold qJ;cases hf:l.find? (λx=>decide (key x=k))with
 | none=>rw[Ar0]at hf;have:=hf y hy;simp[e]at this
 | some x=>exact⟨x,rfl,As3 hf,by simpa using List.find?_some hf⟩
theorem aR {l:List α}{k:κ}(h:¬Be key l k):qJ key l k=none:=by
 unfold qJ;rw[Ar0];intro x hx;simp only[decide_eq_true_eq];exact λe=>h ⟨x,hx,e⟩
theorem jO (hc:KO c){l:List α}(hs:Cx c key l){x:α}(hx:x∈l):qJ key l (key x)=some x:=by
 obtain⟨y,h1,h2,h3⟩:=ZT (l:=l) (k:=key x) ⟨x,hx,rfl⟩;rw[h1,YG hc hs h2 hx h3]
theorem He (hc:KO c){l:List α}(hs:Cx c key l){k:κ}(h:Be key l k):∃x,l[Dr c key l k]?=some x∧qJ key l k=some x∧key x=k:=by
 obtain⟨x,h1,rfl⟩:=(NJ hc hs).1 h;exact⟨x,h1,jO hc hs (Ah7 h1),rfl⟩
end
theorem OG {l:List NdV}:Cx BP Nd.ino (l.map NdV.nd)↔Cx BP NdV.ino l:=by
 unfold Cx;rw[Ap2]
theorem Ka {l:List NdV}{k:Int}:Be Nd.ino (l.map NdV.nd) k↔Be NdV.ino l k:=by
 constructor
 ·rintro⟨x,hx,e⟩
  obtain⟨y,hy,rfl⟩:=Ak7.1 hx;exact⟨y,hy,e⟩
 ·rintro⟨y,hy,e⟩
  exact⟨y.nd,Ak1 hy,e⟩
theorem NO {l:List NdV}{k:Int}:Dr BP Nd.ino (l.map NdV.nd) k=Dr BP NdV.ino l k:=by
 unfold Dr;rw[List.takeWhile_map,Aj1];rfl
theorem Xv {ns:List Nm}{a b:AV}{dv:List NdV}(ha:SV Cb 2 ns a)(hb:SV Cw 3 dv b)(hs:Cx Bk Nm.name ns)(hl:ns.length≤281474976710656)(s:List UInt8):
  BPure prog 97 [.agg [a,b],S (B9 s)] (.tup [I (Dr Bk Nm.name ns s),B (decide (Be Nm.name ns s))]):=BPure.val (by simp[A5,noIds,ha.1,hb.1]) rfl (cY (by
 unfold Zl;have oa:=SV.oneA ha;have ob:=SV.oneA hb;simp[oa,ob];refine Ay (zdlgZ ha hs hl s) ?_
 simp))
theorem dL {ns:List Nm}{a b:AV}{dv:List NdV}(ha:SV Cb 2 ns a)(hb:SV Cw 3 dv b)(hs:Cx BP NdV.ino dv)(hl:dv.length≤281474976710656)(no:Int):
  BPure prog 83 [.agg [a,b],I no] (.tup [I (Dr BP NdV.ino dv no),B (decide (Be NdV.ino dv no))]):=BPure.val (by simp[A5,noIds,ha.1,hb.1]) rfl (fN (by
 unfold dA;have oa:=SV.oneA ha;have ob:=SV.oneA hb;simp[oa,ob];refine Ay (zdlfZ hb hs hl no) ?_
 simp))
theorem zJ {l:List Ext}{v:AV}(hv:SV AB 9 l v)(hl:l.length≤1000000000):∃R,SV AB 9 l R∧BPure prog 137 [v] R:=by
 obtain⟨r,X,⟨-,h1,-,-⟩,h2⟩:=YY (hv.2 []) hl;exact BPure.sl (by simp[A5,hv.1]) (D0 λx _=>Hd x) ⟨r,X,h1,h2⟩
theorem nE {l:List Ext}{v:AV}{size:Int}(hv:SV AB 9 l v)(hl:l.length≤1000000000):∃R,SV AB 9 l R∧BPure prog 84 [.agg [I size,v]] (.agg [I size,R]):=by
 obtain⟨R,hR,hc⟩:=zJ hv hl;refine⟨R,hR,BPure.val (by simp[A5,noIds,hv.1]) (by simp[noIds,A5,hR.1]) (ZD ?_)⟩;unfold Xg;have o1:=SV.oneA hv;have o2:=SV.oneA hR;simp[o1];refine bP_of hc ?_;simp[o2,Bs o2,AP,Bm,Ax]
theorem nF {l:List Ext}{v:AV}{size:Int}(hv:SV AB 9 l v)(hl:l.length≤1000000000):∃R,SV AB 9 l R∧BPure prog 169 [.agg [I size,v]] (.agg [I size,R]):=by
 obtain⟨r,X,⟨w,rfl,h3,h1,-,-⟩,h2⟩:=RY (size:=size) (hv.2 []) (SV.oneA hv) hl;obtain⟨R,hR,fR⟩:=FZ.sv h1 (D0 λx _=>Hd x);obtain⟨R2,rfl,h⟩:=BPure.FZ (Q:=λR'=>R'=.agg [I size,R]) (by simp[A5,noIds,hv.1]) ⟨_,X,⟨_,FZ.agg (FZs.cons (FZ.lit _) (FZs.cons fR FZs.nil)),rfl⟩,h2⟩;exact⟨R,hR,h⟩
def Db (ns:List Nm)(s:List UInt8):Int:=match qJ Nm.name ns s with
 | some x=>x.ino
 | none=>0
def UW (ns:List Nm)(ds:List Nd)(s:List UInt8):Prop:=EO ns ds∧Be Nm.name ns s
instance (ns:List Nm) (ds:List Nd) (s:List UInt8):Decidable (UW ns ds s):=by unfold UW;infer_instance
def Sx (ns:List Nm)(ds:List Nd)(s:List UInt8):Int:=if UW ns ds s then Db ns s else 0
theorem zdilZ {ns:List Nm}{ds:List Nd}{v:AV}(hv:ImV ns ds v)(hb:Sm ns ds)(s:List UInt8):BPure prog 41 [v,S (B9 s)] (.tup [I (Sx ns ds s),B (decide (UW ns ds s))]):=BPure.val (by have:=hv.noIds;simpa[A5,noIds]using this) rfl (fK (by
 have hv0:=hv;obtain⟨a,b,dv,rfl,ha,hbv,rfl⟩:=hv;unfold cW;have oa:=SV.oneA ha;have ob:=SV.oneA hbv;simp[oa,ob,Ax];refine Ay (lY hv0 hb) ?_
 by_cases hm:EO ns (dv.map NdV.nd)
 ·simp[hm]
  refine bC_of (Xv ha hbv hm.1.2.2.1 (by have:=hb.1;omega) s _) ?_
  by_cases hh:Be Nm.name ns s
  ·obtain⟨x,h1,h2,h3⟩:=He koN hm.1.2.2.1 hh
   have e:Sx ns (dv.map NdV.nd) s=x.ino:=by unfold Sx Db;rw[if_pos ⟨hm,hh⟩,h2]
   have e2:UW ns (dv.map NdV.nd) s:=⟨hm,hh⟩;simp[hh,ha.idx BT h1 rfl,bQ,e,e2]
  ·have e2:¬UW ns (dv.map NdV.nd) s:=λh=>hh h.2
   have e:Sx ns (dv.map NdV.nd) s=0:=if_neg e2;simp[hh,e,e2]
 ·have e2:¬UW ns (dv.map NdV.nd) s:=λh=>hm h.1
  have e:Sx ns (dv.map NdV.nd) s=0:=if_neg e2;simp[hm,e,e2]))
theorem sB {ns:List Nm}{ds:List Nd}{v:AV}(hv:ImV ns ds v)(hb:Sm ns ds)(s:List UInt8):BPure prog 61 [v,S (B9 s)] (.tup [I (Sx ns ds s),B (decide (UW ns ds s))]):=BPure.val (by have:=hv.noIds;simpa[A5,noIds]using this) rfl (Vb (by
 have hv0:=hv;obtain⟨a,b,dv,rfl,ha,hbv,rfl⟩:=hv;unfold QT;have oa:=SV.oneA ha;have ob:=SV.oneA hbv;simp[oa,ob,Ax];refine Ay (FH hv0 hb s) ?_;refine Ay (Hf hv0 hb) ?_
 by_cases hm:EO ns (dv.map NdV.nd)
 ·by_cases hh:Be Nm.name ns s
  ·obtain⟨x,h1,h2,h3⟩:=He koN hm.1.2.2.1 hh
   have e:Sx ns (dv.map NdV.nd) s=x.ino:=by unfold Sx Db;rw[if_pos ⟨hm,hh⟩,h2]
   have e2:UW ns (dv.map NdV.nd) s:=⟨hm,hh⟩;have e3:=QA koN hm.1.2.2.1 hh;have e4:¬JJ Nm.name ns s<0:=by omega
   simp[hm,e3,show ¬((Dr Bk Nm.name ns s:Nat):Int)<0 by omega,ha.idx BT h1 rfl,bQ,e,e2]
  ·have e2:¬UW ns (dv.map NdV.nd) s:=λh=>hh h.2
   have e:Sx ns (dv.map NdV.nd) s=0:=if_neg e2;have e4:JJ Nm.name ns s<0:=HP.2 hh;simp[hm,e4,e,e2]
 ·have e2:¬UW ns (dv.map NdV.nd) s:=λh=>hm h.1
  have e:Sx ns (dv.map NdV.nd) s=0:=if_neg e2;simp[hm,e,e2]))
end
section
def Yr (ns:List Nm)(ds:List Nd)(no:Int):Prop:=EO ns ds∧Be Nd.ino ds no
instance (ns:List Nm) (ds:List Nd) (no:Int):Decidable (Yr ns ds no):=by unfold Yr;infer_instance
def Fc (ns:List Nm)(ds:List Nd)(no:Int):Nd:=if Yr ns ds no then(qJ Nd.ino ds no).getD ⟨0,0,[]⟩else⟨0,0,[]⟩
theorem ZU {dv:List NdV}{no:Int}{x:NdV}(h:qJ NdV.ino dv no=some x):qJ Nd.ino (dv.map NdV.nd) no=some x.nd:=by
 unfold qJ at h⊢;rw[List.find?_map]
 show Option.map NdV.nd (dv.find? λx=>decide (x.nd.ino=no))=_
 rw[show(dv.find? λx=>decide (x.nd.ino=no))=some x from h];rfl
theorem zdlzZ {ns:List Nm}{ds:List Nd}{v:AV}(hv:ImV ns ds v)(hb:Sm ns ds)(no:Int):∃R,SV AB 9 (Fc ns ds no).l R∧BPure prog 33 [v,I no] (.tup [.agg [I (Fc ns ds no).size,R],B (decide (Yr ns ds no))]):=by
 have hv0:=hv;obtain⟨a,b,dv,rfl,ha,hbv,rfl⟩:=hv;have oa:=SV.oneA ha;have ob:=SV.oneA hbv
 by_cases hh:Yr ns (dv.map NdV.nd) no
 ·have hm:=hh.1
  have hs:=OG.1 hm.2.2.1;have hk:=Ka.1 hh.2;obtain⟨x,h1,h2,h3⟩:=He koI hs hk;have e:Fc ns (dv.map NdV.nd) no=x.nd:=by unfold Fc;rw[if_pos hh,ZU h2];rfl
  rw[e];obtain⟨R,hR,hc⟩:=nE (size:=x.nd.size) x.h (by have:=hb.2.2.2 x.nd (Ak1 (Ah7 h1));omega);refine⟨R,hR,BPure.val (by have:=hv0.noIds;simpa[A5,noIds]using this) (by simp[noIds,A5,hR.1]) (Xa ?_)⟩;unfold Yu;simp[oa,ob,Ax];refine Ay (lY hv0 hb) ?_;simp[hm];refine bC_of (dL ha hbv hs (by have:=hb.2.1;simp at this;omega) no _) ?_;simp[hk,hbv.idx BL h1 rfl];refine Ay hc ?_;have o2:=SV.oneA hR;simp[o2,AP,Bm,hh]
 ·have e:Fc ns (dv.map NdV.nd) no=⟨0,0,[]⟩:=if_neg hh
  rw[e];refine⟨Ad,SV.nil,BPure.val (by have:=hv0.noIds;simpa[A5,noIds]using this) rfl (Xa ?_)⟩;unfold Yu;simp[oa,ob,Ax];refine Ay (lY hv0 hb) ?_
  by_cases hm:EO ns (dv.map NdV.nd)
  ·have hs:=OG.1 hm.2.2.1
   have hk:¬Be NdV.ino dv no:=λh=>hh ⟨hm,Ka.2 h⟩
   simp[hm];refine bC_of (dL ha hbv hs (by have:=hb.2.1;simp at this;omega) no _) ?_;simp[hk,AP,Bm,hh]
  ·simp[hm,AP,Bm,hh]
theorem iJ {ns:List Nm}{ds:List Nd}{v:AV}(hv:ImV ns ds v)(hb:Sm ns ds)(no:Int):∃R,SV AB 9 (Fc ns ds no).l R∧BPure prog 120 [v,I no] (.tup [.agg [I (Fc ns ds no).size,R],B (decide (Yr ns ds no))]):=by
 have hv0:=hv;obtain⟨a,b,dv,rfl,ha,hbv,rfl⟩:=hv;have oa:=SV.oneA ha;have ob:=SV.oneA hbv
 by_cases hh:Yr ns (dv.map NdV.nd) no
 ·have hm:=hh.1
  have hs:=OG.1 hm.2.2.1;have hk:=Ka.1 hh.2;obtain⟨x,h1,h2,h3⟩:=He koI hs hk;have e:Fc ns (dv.map NdV.nd) no=x.nd:=by unfold Fc;rw[if_pos hh,ZU h2];rfl
  rw[e];obtain⟨R,hR,hc⟩:=nF (size:=x.nd.size) x.h (by have:=hb.2.2.2 x.nd (Ak1 (Ah7 h1));omega);refine⟨R,hR,BPure.val (by have:=hv0.noIds;simpa[A5,noIds]using this) (by simp[noIds,A5,hR.1]) (O0 ?_)⟩;unfold MB;simp[oa,ob,Ax];refine Ay (Jm hv0 hb no) ?_;refine Ay (Hf hv0 hb) ?_;have e3:JJ Nd.ino (dv.map NdV.nd) no=Dr BP NdV.ino dv no:=by rw[QA koI hm.2.2.1 hh.2,NO]
  simp[hm,e3,show ¬((Dr BP NdV.ino dv no:Nat):Int)<0 by omega,hbv.idx BL h1 rfl];refine Ay hc ?_;have o2:=SV.oneA hR;simp[o2,AP,Bm,hh]
 ·have e:Fc ns (dv.map NdV.nd) no=⟨0,0,[]⟩:=if_neg hh
  rw[e];refine⟨Ad,SV.nil,BPure.val (by have:=hv0.noIds;simpa[A5,noIds]using this) rfl (O0 ?_)⟩;unfold MB;simp[oa,ob,Ax];refine Ay (Jm hv0 hb no) ?_;refine Ay (Hf hv0 hb) ?_
  by_cases hm:EO ns (dv.map NdV.nd)
  ·have hk:¬Be Nd.ino (dv.map NdV.nd) no:=λh=>hh ⟨hm,h⟩
   have e4:=(HP (key:=Nd.ino)).2 hk;simp[hm,e4,AP,Bm,hh]
  ·simp[hm,AP,Bm,hh]
def LC (ds:List Nd):Nat:=(ds.map λd=>d.l.length).sum
def XR (ns:List Nm)(ds:List Nd):Int:=if EO ns ds then LC ds else 0
theorem iQ {ds:List Nd}{d:Nd}:LC (ds++[d])=LC ds+d.l.length:=by simp[LC]
theorem lP {N:Nat}:∀{ds:List Nd},(∀d∈ds,d.l.length≤N)→LC ds≤ds.length*N
 | [],_=>by simp[LC]
 | d::ds,h=>by
  have ih:=lP (ds:=ds) λx hx=>h x (by simp[hx])
  have:=h d (by simp)
  unfold LC at ih⊢;rw[Ao8,List.sum_cons,Al9,Al5];omega
theorem iR {ds:List Nd}(h:∀d∈ds,d.l.length≤1000000)(hn:ds.length≤100000)(k:Nat):LC (ds.take k)≤100000000000:=by
 have h1:=lP (N:=1000000) (ds:=ds.take k) λd hd=>h d (Am0 hd)
 have:(ds.take k).length≤100000:=by rw[Ah8];omega
 have:=Ai7 1000000 this
 omega
theorem zditZ {ns:List Nm}{ds:List Nd}{v:AV}(hv:ImV ns ds v)(hb:Sm ns ds):BPure prog 31 [v] (I (XR ns ds)):=BPure.val hv.noIds rfl (fM (by
 have hv0:=hv;obtain⟨a,b,dv,rfl,ha,hbv,rfl⟩:=hv;have oa:=SV.oneA ha;have ob:=SV.oneA hbv;have b2:=hb.2.1;unfold cX;simp[oa,ob,Ax];refine Ay (lY hv0 hb) ?_
 by_cases hm:EO ns (dv.map NdV.nd)
 ·simp[hm,hbv.len]
  have e:XR ns (dv.map NdV.nd)=LC (dv.map NdV.nd):=if_pos hm;rw[e];refine Wj (λn x3 x10 x11 x12 H'=>∃k:Nat,k+n=dv.length∧x3=I (LC ((dv.map NdV.nd).take k))∧x10=b∧x11=I dv.length∧x12=I k) ?_ dv.length ⟨0,by omega,rfl,rfl,rfl,rfl⟩;rintro n x3 x10 x11 x12 H' R hR ⟨k,hk,rfl,rfl,rfl,rfl⟩;unfold S5;rw[Aj1]at b2;rcases Ai0 k dv.length with h | h
  ·have hx:=DD h
   generalize dv[k]=d at hx;have hx2:(dv.map NdV.nd)[k]?=some d.nd:=by rw[Aj3,hx];rfl
   have h1:=iR hb.2.2.2 (by simpa using b2) k;have h2:=hb.2.2.2 d.nd (Ah7 hx2)
   have ea:AP 3 (H'++[some (.cells [I 0,I 0,Ad])]) (.ptr H'.length 0) (.agg (Cw d))=some (H'++[some (.cells (Cw d))]):=by
    have:=SV.oneA d.h
    simp[AP,Cw,Bm,this]
   simp[h,hbv.idx BL hx rfl,uN,ea];simp[Cw,d.h.len,Au (a:=k) (b:=1) (by omega) (by omega),Au (a:=(LC (List.take k (dv.map NdV.nd)):Int)) (b:=d.nd.l.length) (by omega) (by omega)];exact hR (n - 1) _ _ _ _ _ (by omega) ⟨k+1,by omega,by rw[EL hx2,iQ];simp,rfl,rfl,by simp⟩
  ·have:(dv.map NdV.nd).take k=dv.map NdV.nd:=Ai2 (by simp;omega)
   simp[show ¬k<dv.length by omega,this]
 ·have e:XR ns (dv.map NdV.nd)=0:=if_neg hm
  simp[hm,e]))
theorem sC {ns:List Nm}{ds:List Nd}{v:AV}(hv:ImV ns ds v)(hb:Sm ns ds):BPure prog 164 [v] (I (XR ns ds)):=BPure.val hv.noIds rfl (Vc (by
 have hv0:=hv;obtain⟨a,b,dv,rfl,ha,hbv,rfl⟩:=hv;have oa:=SV.oneA ha;have ob:=SV.oneA hbv;have b2:=hb.2.1;rw[Aj1]at b2;unfold QW;simp[oa,ob];refine Qe (λn x1 x3 x4 H'=>∃k:Nat,k+n=dv.length∧x1=.ptr 0 0∧x3=I (LC ((dv.map NdV.nd).take k))∧x4=I k∧H'=[some (.cells [a,b])]∧(0<k→EO ns (dv.map NdV.nd))) ?_ dv.length ⟨0,by omega,rfl,rfl,rfl,rfl,by omega⟩;rintro n x1 x3 x4 H' R hR ⟨k,hk,rfl,rfl,rfl,rfl,h0⟩;unfold Lk;rcases Ai0 k dv.length with h | h
 ·have hx:=DD h
  generalize dv[k]=d at hx;have hx2:(dv.map NdV.nd)[k]?=some d.nd:=by rw[Aj3,hx];rfl
  have h1:=iR hb.2.2.2 (by simpa using b2) k;have h2:=hb.2.2.2 d.nd (Ah7 hx2);simp[h,hbv.len,Ax];refine Ay (Hf hv0 hb) ?_
  by_cases hm:EO ns (dv.map NdV.nd)
  ·simp[hm,hbv.idx BL hx rfl,zdjsZ,d.h.len,Au (a:=k) (b:=1) (by omega) (by omega),Au (a:=(LC (List.take k (dv.map NdV.nd)):Int)) (b:=d.nd.l.length) (by omega) (by omega)]
   exact hR (n - 1) _ _ _ _ (by omega) ⟨k+1,by omega,rfl,by rw[EL hx2,iQ];simp,by simp,rfl,λ_=>hm⟩
  ·have e:XR ns (dv.map NdV.nd)=0:=if_neg hm
   have:k=0:=by
    rcases Am1 k with h | h
    ·exact h
    ·exact absurd (h0 h) hm
   simp[hm,e,this,LC]
 ·have:(dv.map NdV.nd).take k=dv.map NdV.nd:=Ai2 (by simp;omega)
  have e:XR ns (dv.map NdV.nd)=LC (dv.map NdV.nd):=by
   unfold XR
   by_cases hm:EO ns (dv.map NdV.nd)
   ·rw[if_pos hm]
   ·rcases Am1 k with h | h
    ·have:dv=[]:=List.length_eq_zero_iff.1 (by omega)
     rw[if_neg hm,this];rfl
    ·exact absurd (h0 h) hm
  simp[hbv.len,show ¬k<dv.length by omega,this,e]))
def XL (ns:List Nm)(ds:List Nd)(ms:List Nm)(es:List Nd):Prop:=ns=ms∧ds=es
instance (ns:List Nm) (ds:List Nd) (ms:List Nm) (es:List Nd):Decidable (XL ns ds ms es):=by unfold XL;infer_instance
theorem zdklZ (a c:ByteArray)(b d:Int):PI prog .neq 107 (.agg [S a,I b]) (.agg [S c,I d])=some (B !(a.toList==c.toList&&(b==d&&true))):=by kernel_rfl
theorem zdqaZ (x y:Nm):PI prog .neq 107 (.agg (Cb x)) (.agg (Cb y))=some (B (decide (x≠y))):=by
 obtain⟨a,b⟩:=x;obtain⟨c,d⟩:=y;refine(zdklZ _ _ _ _).trans ?_;rw[Jt,Jt]
 by_cases h:a=c
 ·by_cases h2:b=d<;>simp[h,h2]
 ·simp[h]
theorem SB {ns ms:List Nm}{ds es:List Nd}{v w:AV}(hv:ImV ns ds v)(hw:ImV ms es w)(hb:Sm ns ds):BPure prog 20 [v,w] (B (decide (XL ns ds ms es))):=BPure.val (by have h1:=hv.noIds;have h2:=hw.noIds;simp[A5]at h1 h2⊢;exact⟨h1,h2⟩) rfl (Qb (by
 obtain⟨a,b,dv,rfl,ha,hbv,rfl⟩:=hv;obtain⟨c,d,dw,rfl,hc,hdw,rfl⟩:=hw;have oa:=SV.oneA ha;have ob:=SV.oneA hbv;have oc:=SV.oneA hc;have od:=SV.oneA hdw;have b1:=hb.1;have b2:=hb.2.1;rw[Aj1]at b2;unfold Lh;simp[oa,ob,oc,od,ha.len,hc.len]
 by_cases h0:ns.length=ms.length
 ·have h0':(ns.length:Int)=ms.length:=by omega
  simp[h0',hbv.len,hdw.len]
  by_cases h1:dv.length=dw.length
  ·have h1':(dv.length:Int)=dw.length:=by omega
   simp[h1'];refine Mr (λn x2 x3 x5 H'=>∃k:Nat,k+n=ns.length∧x2=.ptr 0 0∧x3=.ptr 1 0∧x5=I k∧H'=[some (.cells [a,b]),some (.cells [c,d])]∧ns.take k=ms.take k) ?_ ns.length ⟨0,by simp,rfl,rfl,rfl,rfl,rfl⟩;rintro n x2 x3 x5 H' R hR ⟨k,hk,rfl,rfl,rfl,rfl,ht⟩;unfold Hu;rcases Ai0 k ns.length with hlt | hge
   ·have hx:=DD hlt
    have hy:=DD (l:=ms) (i:=k) (by omega);generalize ns[k]=x at hx;generalize ms[k]'(by omega)=y at hy;simp [hlt,ha.len,ha.idx BT hx rfl,hc.idx BT hy rfl,zdqaZ,oW]
    by_cases hxy:x=y
    ·simp[hxy,Au (a:=k) (b:=1) (by omega) (by omega)]
     refine hR (n - 1) _ _ _ _ (by omega) ⟨k+1,by omega,rfl,rfl,by simp,rfl,?_⟩;rw[EL hx,EL hy,ht,hxy]
    ·have:ns≠ms:=by
      rintro rfl;rw[hx]at hy;injection hy with hy;exact hxy hy
     simp[hxy,this,XL]
   ·have:k=ns.length:=by omega
    subst this
    have e:ns=ms:=by
     rw[Al2,h0,Al2]at ht;exact ht
    simp[ha.len,e];refine L8 (λn x2 x3 x6 H'=>∃k:Nat,k+n=dv.length∧x2=.ptr 0 0∧x3=.ptr 1 0∧x6=I k∧H'=[some (.cells [a,b]),some (.cells [c,d])]∧(dv.take k).map NdV.nd=(dw.take k).map NdV.nd) ?_ dv.length ⟨0,by simp,rfl,rfl,rfl,rfl,rfl⟩;rintro n x2 x3 x6 H' R hR ⟨k,hk,rfl,rfl,rfl,rfl,ht⟩;unfold GK;rcases Ai0 k dv.length with hlt | hge
    ·have hx:=DD hlt
     have hy:=DD (l:=dw) (i:=k) (by omega);generalize dv[k]=x at hx;generalize dw[k]'(by omega)=y at hy;have ei:=hbv.idx BL hx rfl;have ej:=hdw.idx BL hy rfl
     have e9:x.nd=y.nd↔x.nd.ino=y.nd.ino∧VJ x.nd.size x.nd.l y.nd.size y.nd.l:=by
      unfold VJ;cases x.nd;cases y.nd;simp
     have hno:x.nd≠y.nd→¬XL ns (dv.map NdV.nd) ms (dw.map NdV.nd):=by
      rintro hne ⟨-,e⟩;have h1:(dv.map NdV.nd)[k]?=some x.nd:=by rw[Aj3,hx];rfl
      rw[e,Aj3,hy]at h1;injection h1 with h1;exact hne h1.symm
     rw[e]at hno;simp[hlt,hbv.len,ei,ej,kB]
     by_cases hi:x.nd.ino=y.nd.ino
     ·simp[hi,ei,ej]
      refine bP_of (XA x.h y.h (by have:=hb.2.2.2 x.nd (Ak1 (Ah7 hx));omega)) ?_
      by_cases hc:VJ x.nd.size x.nd.l y.nd.size y.nd.l
      ·simp[hc,Au (a:=k) (b:=1) (by omega) (by omega)]
       refine hR (n - 1) _ _ _ _ (by omega) ⟨k+1,by omega,rfl,rfl,by simp,rfl,?_⟩;rw[EL hx,EL hy,Ak2,Ak2,ht];simp[e9.2 ⟨hi,hc⟩]
      ·have:=hno λhh=>hc (e9.1 hh).2
       simp[hc,this]
     ·have:=hno λhh=>hi (e9.1 hh).1
      simp[hi,this]
    ·have:k=dv.length:=by omega
     subst this
     have e2:dv.map NdV.nd=dw.map NdV.nd:=by
      rw[Al2,h1,Al2]at ht;exact ht
     simp[hbv.len,XL,e2]
  ·have:¬XL ns (dv.map NdV.nd) ms (dw.map NdV.nd):=λh=>h1 (by have:=congrArg List.length h.2;simpa using this)
   have h1':¬(dv.length:Int)=dw.length:=by omega
   simp[h1',this]
 ·have:¬XL ns (dv.map NdV.nd) ms (dw.map NdV.nd):=λh=>h0 (by rw[h.1])
  have h0':¬(ns.length:Int)=ms.length:=by omega
  simp[h0',this]))
theorem Uk {α:Type}{enc:α→List AV}{sz:Nat}(hsz:∀x,(enc x).length=sz)(h0:0<sz){H:AH}{v:AV}{l:List α}{k:Nat}{x:α}(hs:Ac H sz v=some (l.flatMap enc,l.length))(ho:AZ v=true)(hx:l[k]?=some x):
  ∃o off cells,Bo sz v (I k)=some (.ptr o off)∧o∈AM v∧H[o]?=some (some (.cells cells))∧off+sz≤cells.length∧(∀j,j<sz→cells[off+j]?=(enc x)[j]?)∧
   ∀y q xs,enc y=Ce (enc x) q xs→q+xs.length≤sz→Ac (H.set o (some (.cells (Bm cells (off+q) xs)))) sz v=some ((l.set k y).flatMap enc,l.length):=by
 have hk:=(BE.1 hx).1;obtain⟨o,off,cap,cells,rfl,h1,h2,h3⟩:=I7 hs ho (by omega);have hol:=(BE.1 h1).1;have hmul:(k+1)*sz≤l.length*sz:=Ai7 _ (by omega);have hms:(k+1)*sz=k*sz+sz:=Al5 _ _;refine⟨o,off+k*sz,cells,?_,by simp[AM],h1,by omega,λj hj=>?_,λy q xs hy hq=>?_⟩
 ·simp[Bo,Ni]
  omega
 ·have e:(l.flatMap enc)[k*sz+j]?=cells[off+k*sz+j]?:=by
   rw[h3,Ai4,if_pos (by omega),Ai6];congr 1;omega
  rw[← e];have e2:=Gz hsz l k;have e3:(l.flatMap enc)[k*sz+j]?=((l.flatMap enc).drop (k*sz))[j]?:=by rw[Ai6]
  rw[e3,e2,Am8 hk,(BE.1 hx).2,Aj9,Ah6 (by rw[hsz];exact hj)]
 ·have hxs:off+k*sz+q+xs.length≤cells.length:=by omega
  rw[HT _ _ _ hxs]
  show Ac (H.set o (some (.cells (Ce cells (off+k*sz+q) xs)))) sz _=_
  rw[Am6,Br (c:=Ce cells (off+(k*sz+q)) xs) (by simp[hol]) (by rw[I6 (by omega)];exact h2)];rw[QL h2 (by omega),← h3,QK hsz hx hy hq]
theorem zdhhZ (w:World):(Go.sizeOf 107).run prog w=.ok 2 w:=Cf (by kernel_rfl)
theorem zdhgZ (w:World):(Go.sizeOf 109).run prog w=.ok 3 w:=Cf (by kernel_rfl)
theorem zdogZ {H:AH}{oa offa la ea ka ob offb lb eb kb:Nat}{ca cb:List AV}(ha:H[oa]?=some (some (.cells ca)))(hbo:H[ob]?=some (some (.cells cb)))(hne:oa≠ob)(hka:ka≠0)(hkb:kb≠0)(hcb:cb≠[]):
  ExtR prog 192 [.sl oa offa la ea (.ex ka),.sl ob offb lb eb (.ex kb)] H (B false):=
 ExtR.apart (tS:=40) (tR:=4) (fn:=f192) (by kernel_rfl) (by kernel_rfl) (by kernel_rfl) (by kernel_rfl) (by kernel_rfl) (by kernel_rfl) zdhhZ ha hbo hne hka hkb hcb
theorem zdofZ {H:AH}{oa offa la ea ka ob offb lb eb kb:Nat}{ca cb:List AV}(ha:H[oa]?=some (some (.cells ca)))(hbo:H[ob]?=some (some (.cells cb)))(hne:oa≠ob)(hka:ka≠0)(hkb:kb≠0)(hcb:cb≠[]):
  ExtR prog 194 [.sl oa offa la ea (.ex ka),.sl ob offb lb eb (.ex kb)] H (B false):=
 ExtR.apart (tS:=41) (tR:=4) (fn:=f194) (by kernel_rfl) (by kernel_rfl) (by kernel_rfl) (by kernel_rfl) (by kernel_rfl) (by kernel_rfl) zdhgZ ha hbo hne hka hkb hcb
def zN:List AV:=[S ⟨#[]⟩,I 0]
def zD:List AV:=[I 0,I 0,Ad]
theorem zddbZ {H:AH}{s:AV}{l:List Nm}{i oj:Nat}{x:Nm}(hs:Ac H 2 s=some (l.flatMap Cb,l.length))(ho:AZ s=true)(hc:CS s l.length)(hi:i≤l.length)(hn:l.length≤1000000)(hv:H[oj]?=some (some (.cells (Cb x))))(hne:oj∉AM s):
  ∃r H',zdfnZ 2 H s ((l.take i++x::l.drop i).flatMap Cb) l.length r H'∧BCall prog 179 [s,I i,.sl oj 0 1 2 (.ex 1)] H r H':=by
 have:=zdddZ (P:=prog) (sz:=2) (bytes:=24) (zc:=zN) (f:=179) (ov:=192) (rot:=193) (by omega) rfl
  (λa0 a1 a2 H K h=>Ja h) hs ho hc hi hn (by omega) hv (BT x) hne (λm=>by simp[Cb,DN,GX]) (λh1 h2 h3 h4=>zdogZ hv h1 h2 (by omega) h3 h4)
 rwa[HO BT,Gz BT,Ai8,show Cb x++(l.drop i).flatMap Cb=(x::l.drop i).flatMap Cb from rfl,← Al7]at this
theorem zdkcZ {H:AH}{s:AV}{l:List NdV}{i oj:Nat}{x:NdV}(hs:Ac H 3 s=some (l.flatMap Cw,l.length))(ho:AZ s=true)(hc:CS s l.length)(hi:i≤l.length)(hn:l.length≤1000000)(hv:H[oj]?=some (some (.cells (Cw x))))(hne:oj∉AM s):
  ∃r H',zdfnZ 3 H s ((l.take i++x::l.drop i).flatMap Cw) l.length r H'∧BCall prog 180 [s,I i,.sl oj 0 1 3 (.ex 1)] H r H':=by
 have:=zdddZ (P:=prog) (sz:=3) (bytes:=40) (zc:=zD) (f:=180) (ov:=194) (rot:=195) (by omega) rfl
  (λa0 a1 a2 H K h=>Jd h) hs ho hc hi hn (by omega) hv (BL x) hne (λm=>FG (Pz x)) (λh1 h2 h3 h4=>zdofZ hv h1 h2 (by omega) h3 h4)
 rwa[HO BL,Gz BL,Ai8,show Cw x++(l.drop i).flatMap Cw=(x::l.drop i).flatMap Cw from rfl,← Al7]at this
theorem zQ {H:AH}{s:AV}{l:List Nm}{i:Nat}(hs:Ac H 2 s=some (l.flatMap Cb,l.length))(ho:AZ s=true)(hc:CS s l.length)(hi:i<l.length)(hn:l.length≤1000000):
  ∃r H',zdijZ 2 H s ((l.take i++l.drop (i+1)).flatMap Cb) (l.length - 1) r H'∧BCall prog 181 [s,I i,I ((i:Int)+1)] H r H':=by
 obtain⟨m,hm⟩:∃m,l.length=m+1:=⟨l.length - 1,by omega⟩;rw[hm]at hs hc;obtain⟨r,H',h1,h2⟩:=zR (sz:=2) (bytes:=24) (zc:=zN) (by omega) rfl hs ho hc (show i≤m by omega) (by omega) (by omega);have h2':EU s (I i) (I ((i:Int)+1)) H λr' H''=>r'=r∧H''=H':=h2
 obtain⟨r2,H2,⟨rfl,rfl⟩,h3⟩:=IV h2';rw[HO BT,Gz BT,← Al7]at h1;exact⟨_,_,by rw[hm];exact h1,h3⟩
theorem zdjqZ {H:AH}{s:AV}{l:List NdV}{i:Nat}(hs:Ac H 3 s=some (l.flatMap Cw,l.length))(ho:AZ s=true)(hc:CS s l.length)(hi:i<l.length)(hn:l.length≤1000000):
  ∃r H',zdijZ 3 H s ((l.take i++l.drop (i+1)).flatMap Cw) (l.length - 1) r H'∧BCall prog 182 [s,I i,I ((i:Int)+1)] H r H':=by
 obtain⟨m,hm⟩:∃m,l.length=m+1:=⟨l.length - 1,by omega⟩;rw[hm]at hs hc;obtain⟨r,H',h1,h2⟩:=zR (sz:=3) (bytes:=40) (zc:=zD) (by omega) rfl hs ho hc (show i≤m by omega) (by omega) (by omega);have h2':EV s (I i) (I ((i:Int)+1)) H λr' H''=>r'=r∧H''=H':=h2
 obtain⟨r2,H2,⟨rfl,rfl⟩,h3⟩:=IW h2';rw[HO BL,Gz BL,← Al7]at h1;exact⟨_,_,by rw[hm];exact h1,h3⟩
structure ImH (L oi:Nat)(ns:List Nm)(dv:List NdV)(a b:AV)(H:AH):Prop where
 obj:H[oi]?=some (some (.cells [a,b]))
 lo:oi∉AM a∧oi∉AM b
 len:L≤H.length
 sa:Ac H 2 a=some (ns.flatMap Cb,ns.length)
 oa:AZ a=true
 ca:CS a ns.length
 ia:∀i∈AM a,L≤i
 sb:Ac H 3 b=some (dv.flatMap Cw,dv.length)
 ob:AZ b=true
 cb:CS b dv.length
 ib:∀i∈AM b,L≤i
 ab:∀i∈AM a,i∉AM b
def FrL (L oi:Nat)(H H':AH):Prop:=H.length≤H'.length∧∀j,j<L→j≠oi→H'[j]?=H[j]?
theorem FrL.refl (L oi:Nat)(H:AH):FrL L oi H H:=⟨Ah9 _,λ_ _ _=>rfl⟩
theorem FrL.trans {L oi:Nat}{A B C:AH}(h:FrL L oi A B)(k:FrL L oi B C):FrL L oi A C:=⟨Aj0 h.1 k.1,λj h1 h2=>(k.2 j h1 h2).trans (h.2 j h1 h2)⟩
theorem ImH.noA {L oi:Nat}{ns:List Nm}{dv:List NdV}{a b:AV}{H:AH}(h:ImH L oi ns dv a b H):oi∉AM a:=h.lo.1
theorem ImH.noB {L oi:Nat}{ns:List Nm}{dv:List NdV}{a b:AV}{H:AH}(h:ImH L oi ns dv a b H):oi∉AM b:=h.lo.2
theorem ImH.lend {L oi:Nat}{ns:List Nm}{dv:List NdV}{a b:AV}{H:AH}(h:ImH L oi ns dv a b H):∃Ra Rb,SV Cb 2 ns Ra∧SV Cw 3 dv Rb∧FZ H (.agg [a,b]) (.agg [Ra,Rb]):=by
 obtain⟨Ra,h1,f1⟩:=FZ.sv h.sa (D0 λx _=>Uh x);obtain⟨Rb,h2,f2⟩:=FZ.sv h.sb (D0 λx _=>Pz x);exact⟨Ra,Rb,h1,h2,FZ.agg (FZs.cons f1 (FZs.cons f2 FZs.nil))⟩
theorem ImH.grew {L oi:Nat}{ns:List Nm}{dv:List NdV}{a b:AV}{H H':AH}(h:ImH L oi ns dv a b H)(g:Grew H H'):ImH L oi ns dv a b H':=
 ⟨g.cells h.obj,h.lo,Aj0 h.len g.1,g.slice h.sa,h.oa,h.ca,h.ia,g.slice h.sb,h.ob,h.cb,h.ib,h.ab⟩
theorem ImH.newA {L oi:Nat}{ns ms:List Nm}{dv:List NdV}{a b r:AV}{H H':AH}(h:ImH L oi ns dv a b H)(hl:H.length≤H'.length)(hk:∀i,i<H.length→i∉AM a→H'[i]?=H[i]?)(h1:Ac H' 2 r=some (ms.flatMap Cb,ms.length))(h2:AZ r=true)(h3:CS r ms.length)(h4:∀i∈AM r,i∈AM a∨H.length≤i):
  ∃H2,AP 1 H' (.ptr oi 0) r=some H2∧ImH L oi ms dv r b H2∧FrL L oi H H2:=by
 have c0:H'[oi]?=some (some (.cells [a,b])):=by rw[hk oi (BE.1 h.obj).1 h.noA];exact h.obj
 have hr:=AD h2;have hol1:=(BE.1 h.obj).1;have nro:oi∉AM r:=λq=>(h4 oi q).elim h.noA (λq=>by omega)
 have hle:=h.len;have hol:=(BE.1 c0).1;have nr:∀i∈AM r,L≤i:=λi hi=>(h4 i hi).elim (h.ia i) (λq=>by omega)
 refine⟨H'.set oi (some (.cells [r,b])),?_,⟨by simp[hol],⟨nro,h.noB⟩,by simp;omega,?_,h2,h3,nr,?_,h.ob,h.cb,h.ib,λi hi hb=>?_⟩,⟨by simp;omega,λj h5 h6=>?_⟩⟩
 ·rw[AK (n:=1) (off:=0) (xs:=[r]) (cs:=[a,b]) (Bs hr) c0 rfl (by simp)];rfl
 ·exact Ae h1 λi hi=>Cc (fun (e:oi=i)=>nro (e▸hi))
 ·refine Ae h.sb λi hi=>?_
  rw[Cc (fun (e:oi=i)=>h.noB (e▸hi))];exact hk i (Az h.sb i hi) λq=>h.ab i q hi
 ·rcases h4 i hi with q | q
  ·exact h.ab i q hb
  ·have:=Az h.sb i hb;omega
 ·rw[Cc (by omega)]
  exact hk j (by omega) λq=>by have:=h.ia j q;omega
theorem ImH.newB {L oi:Nat}{ns:List Nm}{dv ew:List NdV}{a b r:AV}{H H':AH}(h:ImH L oi ns dv a b H)(hl:H.length≤H'.length)(hk:∀i,i<H.length→i∉AM b→H'[i]?=H[i]?)(h1:Ac H' 3 r=some (ew.flatMap Cw,ew.length))(h2:AZ r=true)(h3:CS r ew.length)(h4:∀i∈AM r,i∈AM b∨H.length≤i):
  ∃H2,AP 1 H' (.ptr oi 1) r=some H2∧ImH L oi ns ew a r H2∧FrL L oi H H2:=by
 have c0:H'[oi]?=some (some (.cells [a,b])):=by rw[hk oi (BE.1 h.obj).1 h.noB];exact h.obj
 have hr:=AD h2;have hol1:=(BE.1 h.obj).1;have nro:oi∉AM r:=λq=>(h4 oi q).elim h.noB (λq=>by omega)
 have hle:=h.len;have hol:=(BE.1 c0).1;have nr:∀i∈AM r,L≤i:=λi hi=>(h4 i hi).elim (h.ib i) (λq=>by omega)
 refine⟨H'.set oi (some (.cells [a,r])),?_,⟨by simp[hol],⟨h.noA,nro⟩,by simp;omega,?_,h.oa,h.ca,h.ia,?_,h2,h3,nr,λi ha hi=>?_⟩,⟨by simp;omega,λj h5 h6=>?_⟩⟩
 ·rw[AK (n:=1) (off:=1) (xs:=[r]) (cs:=[a,b]) (Bs hr) c0 rfl (by simp)];rfl
 ·refine Ae h.sa λi hi=>?_
  rw[Cc (fun (e:oi=i)=>h.noA (e▸hi))];exact hk i (Az h.sa i hi) λq=>h.ab i hi q
 ·exact Ae h1 λi hi=>Cc (fun (e:oi=i)=>nro (e▸hi))
 ·rcases h4 i hi with q | q
  ·exact h.ab i ha q
  ·have:=Az h.sa i ha;omega
 ·rw[Cc (by omega)]
  exact hk j (by omega) λq=>by have:=h.ib j q;omega
section
variable {P : Program}
def OpIs (P:Program)(ops:List Oper)(T:List AV)(i:Nat)(need:List Nat)(F:(Nat→AV)→AH→(AV→AH→Prop)→Prop):Prop:=
 ∃o,ops[i]?=some o∧o.guard=none∧(∀j∈need,∃e∈o.after,Region.binds .any e=true∧e.on=j)∧∀vals H K,F vals H K→aF P (pt ops vals (λ_=>true) T i) H o K
def kP (o:Oper)(need:List Nat):Bool:=need.all λj=>o.after.toList.any λe=>Region.binds .any e&&Nat.beq e.on j
theorem Y6 {o:Oper}{need:List Nat}(h:kP o need=true):∀j∈need,∃e∈o.after,Region.binds .any e=true∧e.on=j:=by
 intro j hj
 have:=Ak4.1 h j hj
 obtain⟨e,he,hb⟩:=List.any_eq_true.1 this;simp only[Ak0]at hb;exact⟨e,by simpa using he,hb.1,Ao2 hb.2⟩
theorem OpIs.op {ql:FuncId→Bool}{ops:List Oper}{T:List AV}{i:Nat}{need:List Nat}{F:(Nat→AV)→AH→(AV→AH→Prop)→Prop}(o:Oper)(ho:ops[i]?=some o)(hg:o.guard=none)(hn:kP o need=true)(hb:dB o.op=false)(hc:∀ρ,Fh ρ o=none)
  (hF:∀vals H K,F vals H K→NT P ql Aw false (B8 (pt ops vals (λ_=>true) T i)) H o true K):OpIs P ops T i need F:=by
 refine⟨o,ho,hg,Y6 hn,λvals H K h=>?_⟩;obtain⟨r,H',h1,h2,-⟩:=P1 (hF vals H K h);rcases h2 with⟨-,h2 | ⟨h2,h3⟩⟩ | ⟨h2,-⟩
 ·rw[Bx hb]at h2
  exact .inl ⟨r,H',h2,h1⟩
 ·exfalso
  unfold SI at h3;rw[hc]at h3;exact h3
 ·cases h2
theorem OpIs.call {ops:List Oper}{T:List AV}{i:Nat}{need:List Nat}{F:(Nat→AV)→AH→(AV→AH→Prop)→Prop}(o:Oper)(ho:ops[i]?=some o)(hg:o.guard=none)(hn:kP o need=true)(k:FuncId)(args:(Nat→AV)→List AV)(hk:BW P k=true)
  (hc:∀vals,Fh (B8 (pt ops vals (λ_=>true) T i)) o=some (k,args vals)) (hF:∀vals H K,F vals H K→ACalls P k (args vals) H K):OpIs P ops T i need F:=
 ⟨o,ho,hg,Y6 hn,λvals H K h=>.inr (.inr ⟨k,args vals,hc vals,hk,hF vals H K h⟩)⟩
def OL (vals:Nat→AV)(i:Nat)(r:AV):Nat→AV:=λj=>if j=i then r else vals j
theorem ACode.told {id:Nat}{ops:List Oper}{Q:AQ}{T:List AV}{H:AH}(hm:P.follows .mixedOrders=true)(hk:ML ops=true)(Inv:AH→(Nat→AV)→(Nat→Bool)→Prop)(v0:Nat→AV)(h0:Inv H v0 (λ_=>false))
  (hs:∀i,i<ops.length→∃need F,OpIs P ops T i need F∧∀(S:Nat→Bool) Hc vals,S i=false→(∀j∈need,S j=true)→Inv Hc vals S→F vals Hc λr H'=>Inv H' (OL vals i r) (HK S i))
  (last:∀Hc vals S,(∀j,j<ops.length→S j=true)→Inv Hc vals S→Q .normal (pt ops vals (λ_=>true) T ops.length) Hc):ACode P (.region id ops.toArray true) Q T H:=by
 refine ACode.drawn hm hk (Ω:=AH×(Nat→AV)) (λω S=>Inv ω.1 ω.2 S) (λω=>ω.2) (λω _=>ω.1) (H,v0) h0 rfl ?_ (λω S hS hI=>last ω.1 ω.2 S hS hI);intro ω S i o hr hI;obtain⟨ho,hcl,hSi,haft⟩:=hr;obtain⟨need,F,⟨o',ho',hg,hn,hF⟩,hstep⟩:=hs i (BE.1 ho).1;rw[ho]at ho';injection ho' with ho';subst ho';refine⟨true,by unfold Ca;rw[hg],λ_=>?_,λh=>by cases h⟩
 have h1:=hF ω.2 ω.1 _ (hstep S ω.1 ω.2 hSi (λj hj=>by
  obtain⟨e,he,hb,rfl⟩:=hn j hj;exact haft e he hb) hI)
 have conv:∀r H',Inv H' (OL ω.2 i r) (HK S i)→∃ω':AH×(Nat→AV),Inv ω'.1 ω'.2 (HK S i)∧(∀j,S j=true→ω'.2 j=ω.2 j)∧ω'.2 i=r∧ω'.1=H':=by
  intro r H' h;refine⟨(H',OL ω.2 i r),h,λj hj=>?_,by simp[OL],rfl⟩;have:j≠i:=by rintro rfl;rw[hSi]at hj;cases hj
  simp[OL,this]
 rcases h1 with⟨r,H',h2,h3⟩ | ⟨r,h2,h3⟩ | ⟨k,args,h2,h3,h4⟩
 ·exact .inl ⟨r,H',h2,conv _ _ h3⟩
 ·exact .inr (.inl ⟨r,h2,conv _ _ h3⟩)
 ·exact .inr (.inr ⟨k,args,h2,h3,h4.mono conv⟩)
end
end
section
section
variable {P : Program}
def OpIg (P:Program)(ops:List Oper)(T:List AV)(i:Nat)(need:List Nat)(F:(Nat→AV)→AH→(AV→AH→Prop)→Prop):Prop:=
 ∃o,ops[i]?=some o∧(∀j∈need,∃e∈o.after,Region.binds .any e=true∧e.on=j)∧∀vals H K,F vals H K→Ca ops.toArray (pt ops vals (λ_=>true) T i) o=some true∧aF P (pt ops vals (λ_=>true) T i) H o K
theorem zdebZ {ops:List Oper}{vals:Nat→AV}{T:List AV}{j d:Nat}(hd:MJ ops j=some d)(hl:d<T.length):∀n,j<n→(∀k,j<k→k<n→MJ ops k≠some d)→(pt ops vals (λ_=>true) T n)[d]?=some (vals j)
 | 0,h,_=>by omega
 | n+1,h,h2=>by
  simp only[pt,if_true]
  by_cases c:j=n
  ·subst c
   rw[hd];simp only[Ez];rw[JY (by rw[YC];exact hl)]
  ·rw[YN (h2 n (by omega) (by omega)),zdebZ hd hl n (by omega) λk h3 h4=>h2 k h3 (by omega)]
def zdpqZ (ops:List Oper)(len i:Nat):Bool:=match (ops.getD i default).guard with
 | none=>true
 | some (j,_)=>match MJ ops j with
  | some d=>decide (j<i)&&decide (d<len)&&(List.range i).all λk=>!decide (j<k)|| !(match MJ ops k with
   | some x=>Nat.beq x d
   | none=>false)
  | none=>false
def zdlaZ (P:Program)(ql:FuncId→Bool)(fz:Bool)(ops:List Oper)(T:List AV)(i:Nat)(vals:Nat→AV)(H:AH)(K:AV→AH→Prop):Prop:=
 let o:=ops.getD i default
 let S:=match Fh (B8 (pt ops vals (λ_=>true) T i)) o with
  | some (k,args)=>match BW P k with
   | true=>ACalls P k args H K
   | false=>False
  | none=>NT P ql Aw (fz&&dB o.op) (B8 (pt ops vals (λ_=>true) T i)) H o true K
 match o.guard with
 | none=>S
 | some (j,w)=>vals j=B w∧S
theorem zdheZ {ql:FuncId→Bool}{fz:Bool}{ops:List Oper}{T:List AV}{i:Nat}{vals:Nat→AV}{H:AH}{K:AV→AH→Prop}(hg:zdpqZ ops T.length i=true)(h:zdlaZ P ql fz ops T i vals H K):
  Ca ops.toArray (pt ops vals (λ_=>true) T i) (ops.getD i default)=some true∧aF P (pt ops vals (λ_=>true) T i) H (ops.getD i default) K:=by
 unfold zdlaZ at h;unfold zdpqZ at hg;generalize ops.getD i default=o at*;simp only at h;have step:∀{S:Prop},(S=match Fh (B8 (pt ops vals (λ_=>true) T i)) o with
  | some (k,args)=>match BW P k with
   | true=>ACalls P k args H K
   | false=>False
  | none=>NT P ql Aw (fz&&dB o.op) (B8 (pt ops vals (λ_=>true) T i)) H o true K)→S→aF P (pt ops vals (λ_=>true) T i) H o K:=by
  rintro S rfl h;split at h
  ·rename_i k args hc
   split at h
   ·rename_i hgo;exact .inr (.inr ⟨k,args,hc,hgo,h⟩)
   ·exact h.elim
  ·rename_i hc
   obtain⟨r,H',h1,h2,-⟩:=P1 h;rcases h2 with⟨-,h2 | ⟨h2,h3⟩⟩ | ⟨h2,-⟩
   ·unfold kX at h2
    split at h2
    ·obtain⟨r',h3,h4⟩:=Option.map_eq_some_iff.1 h2
     injection h4 with h4 h5;subst h4;subst h5;exact .inr (.inl ⟨_,h3,h1⟩)
    ·exact .inl ⟨r,H',h2,h1⟩
   ·exfalso
    unfold SI at h3;rw[hc]at h3;exact h3
   ·cases h2
 cases ho:o.guard with
 | none=>
  simp only[ho]at h;exact⟨by unfold Ca;rw[ho],step rfl h⟩
 | some q=>
  obtain⟨j,w⟩:=q;simp only[ho]at h hg;refine⟨?_,step rfl h.2⟩;unfold Ca Yf;simp only[ho,Ar3];split at hg
  ·rename_i d hd
   simp only[Ac7,Ae7,Ak4,Ap3,decide_eq_false_iff_not]at hg
   have hp:=zdebZ (vals:=vals) hd hg.1.2 i hg.1.1 λk h1 h2 h3=>by
    rcases hg.2 k h2 with q | q
    ·exact q h1
    ·rw[h3]at q;simp at q
   have hd':(ops[j]?).bind (·.dst)=some d:=hd;simp only[hd',hp,h.1,Ar9];cases w<;>rfl
  ·cases hg
theorem OpIg.all {ql:FuncId→Bool}{fz:Bool}{ops:List Oper}{T:List AV}{n:Nat}{need:List (List Nat)}{F:List ((Nat→AV)→AH→(AV→AH→Prop)→Prop)}(hn:ops.length=n)(hb:(List.range n).all (λi=>kP (ops.getD i default) (need.getD i [])&&zdpqZ ops T.length i)=true)
  (hF:∀vals H K,(List.range n).map (λi=>zdlaZ P ql fz ops T i vals H K)=F.map λf=>f vals H K):∀i,i<ops.length→OpIg P ops T i (need.getD i []) (F.getD i (λ_ _ _=>False)):=by
 intro i hi;have hb:=Ak4.1 hb i (by rw[Ap3];omega);simp only[Ak0]at hb;have ho:ops[i]?=some (ops.getD i default):=by rw[Ai9,DD hi];rfl
 refine⟨_,ho,Y6 hb.1,λvals H K h=>zdheZ (ql:=ql) (fz:=fz) hb.2 ?_⟩;have e:=congrArg (λl=>l[i]?) (hF vals H K);simp only[Aj3,Aq3 (show i<n by omega),Ar9]at e;cases hf:F[i]? with
 | none=>rw[hf]at e;simp at e
 | some f=>
  rw[hf]at e;simp only[Ar9,Ap1]at e;rw[e];rw[Ai9,hf]at h;exact h
theorem ACode.told3 {id:Nat}{ops:List Oper}{Q:AQ}{T:List AV}{H:AH}(hm:P.follows .mixedOrders=true)(hk:ML ops=true)(need:Nat→List Nat)(F:Nat→(Nat→AV)→AH→(AV→AH→Prop)→Prop)(V:Nat→AV)(HI:(Nat→Bool)→AH→Prop)
  (ho:∀i,i<ops.length→OpIg P ops T i (need i) (F i)) (h0:HI (λ_=>false) H)
  (hs:∀i,i<ops.length→∀(S:Nat→Bool) vals Hc,S i=false→(∀a,S a=true→∀b∈need a,S b=true)→(∀j∈need i,S j=true∧vals j=V j)→HI S Hc→F i vals Hc λr H'=>r=V i∧HI (HK S i) H')
  (last:∀(S:Nat→Bool) vals Hc,(∀j,j<ops.length→S j=true∧vals j=V j)→HI S Hc→Q .normal (pt ops vals (λ_=>true) T ops.length) Hc):ACode P (.region id ops.toArray true) Q T H:=by
 refine ACode.drawn hm hk (Ω:=AH×(Nat→AV)) (λω S=>HI S ω.1∧(∀j,S j=true→ω.2 j=V j)∧∀a,S a=true→∀b∈need a,S b=true) (λω=>ω.2) (λω _=>ω.1) (H,λ_=>AO) ⟨h0,by simp,by simp⟩ rfl ?_ (λω S hS hI=>last S ω.2 ω.1 (λj hj=>⟨hS j hj,hI.2.1 j (hS j hj)⟩) hI.1);rintro ω S i o ⟨hoi,hcl,hSi,haft⟩ ⟨hI,hv,hcls⟩;have hi:=(BE.1 hoi).1;obtain⟨o',ho',hn,hF⟩:=ho i hi;rw[hoi]at ho';injection ho' with ho';subst ho'
 have hn':∀j∈need i,S j=true:=λj hj=>by
  obtain⟨e,he,hb,rfl⟩:=hn j hj;exact haft e he hb
 obtain⟨hw,h1⟩:=hF ω.2 ω.1 _ (hs i hi S ω.2 ω.1 hSi hcls (λj hj=>⟨hn' j hj,hv j (hn' j hj)⟩) hI);refine⟨true,hw,λ_=>?_,λh=>by cases h⟩
 have conv:∀r H',(r=V i∧HI (HK S i) H')→∃ω':AH×(Nat→AV),(HI (HK S i) ω'.1∧(∀j,HK S i j=true→ω'.2 j=V j)∧∀a,HK S i a=true→∀b∈need a,HK S i b=true)∧(∀j,S j=true→ω'.2 j=ω.2 j)∧ω'.2 i=r∧ω'.1=H':=by
  rintro r H' ⟨rfl,h⟩;refine⟨(H',OL ω.2 i (V i)),⟨h,λj hj=>?_,λa ha b hb=>?_⟩,λj hj=>?_,by simp[OL],rfl⟩
  ·show OL ω.2 i (V i) j=V j
   unfold OL
   by_cases c:j=i
   ·rw[if_pos c,c]
   ·rw[if_neg c]
    unfold HK at hj;rw[if_neg c]at hj;exact hv j hj
  ·unfold HK at ha⊢
   by_cases c:b=i
   ·rw[if_pos c]
   ·rw[if_neg c]
    by_cases c2:a=i
    ·subst c2;exact hn' b hb
    ·rw[if_neg c2]at ha;exact hcls a ha b hb
  ·have:j≠i:=by rintro rfl;rw[hSi]at hj;cases hj
   simp[OL,this]
 rcases h1 with⟨r,H',h2,h3⟩ | ⟨r,h2,h3⟩ | ⟨k,args,h2,h3,h4⟩
 ·exact .inl ⟨r,H',h2,conv _ _ h3⟩
 ·exact .inr (.inl ⟨r,h2,conv _ _ h3⟩)
 ·exact .inr (.inr ⟨k,args,h2,h3,h4.mono conv⟩)
theorem ACode.told2 {id:Nat}{ops:List Oper}{Q:AQ}{T:List AV}{H:AH}(hm:P.follows .mixedOrders=true)(hk:ML ops=true)(need:Nat→List Nat)(F:Nat→(Nat→AV)→AH→(AV→AH→Prop)→Prop)(V:Nat→AV)(hp:(Nat→Bool)→AH)
  (ho:∀i,i<ops.length→OpIg P ops T i (need i) (F i)) (h0:hp (λ_=>false)=H)
  (hs:∀i,i<ops.length→∀(S:Nat→Bool) vals,S i=false→(∀a,S a=true→∀b∈need a,S b=true)→(∀j∈need i,S j=true∧vals j=V j)→F i vals (hp S) λr H'=>r=V i∧H'=hp (HK S i))
  (last:∀(S:Nat→Bool) vals,(∀j,j<ops.length→S j=true∧vals j=V j)→Q .normal (pt ops vals (λ_=>true) T ops.length) (hp S)):ACode P (.region id ops.toArray true) Q T H:=
 ACode.told3 hm hk need F V (λS H=>H=hp S) ho h0.symm (λi hi S vals Hc h1 h2 h3 h4=>by subst h4;exact hs i hi S vals h1 h2 h3) (λS vals Hc h1 h2=>by subst h2;exact last S vals h1)
end
end
section
noncomputable def crNOps:List Oper:=(X3 (sub [true,true,true,true,false] (AG f145))).toList
def zdjpZ (x0 x3 x4 x6:AV):List AV:=Bt (mk 82 0 [0,3,4,6]) [x0,x3,x4,x6]
theorem jX:crNOps.length=16:=by kernel_rfl
theorem zdjoZ:ML crNOps=true:=by kernel_rfl
def crNNeed:List (List Nat):=[[],[],[1],[2],[3],[],[],[6],[],[8],[7,9],[10],[4,5,11],[0,1,2,3,4,5,6,7,8,9,10,11,12],[0,1,2,3,4,5,6,7,8,9,10,11,12,13],[0,1,2,3,4,5,6,7,8,9,10,11,12,14]]
def SM (x0 x3 x4 x6:AV):List ((Nat→AV)→AH→(AV→AH→Prop)→Prop):=[
 λvals H K=>gO true (some x0) λv=>K v H,
 λvals H K=>gO true (some x0) λv=>K v H,
 λvals H K=>gO true (Af (vals 1)) λv=>K v H,
 λvals H K=>gO true (Ab 0 (vals 2)) λv=>K v H,
 λvals H K=>gO true (Ap false 1 H (vals 3)) λv=>K v H,
 λvals H K=>gO true (some x4) λv=>K v H,
 λvals H K=>gO true (Ab 5 x3) λv=>K v H,
 λvals H K=>gO true (Ap false 1 H (vals 6)) λv=>K v H,
 λvals H K=>gO true (Ab 1 x3) λv=>K v H,
 λvals H K=>gO true (Ap false 1 H (vals 8)) λv=>K v H,
 λvals H K=>gO true (En zN [(0,1,(vals 7)),(1,1,(vals 9))]) λv=>K v H,
 λvals H K=>gH true (D9 H 2 1 (B4 zN 1) [(0,2,(vals 10))]) H K,
 λvals H K=>ACalls prog 179 [(vals 4),(vals 5),(vals 11)] H K,
 λvals H K=>gO true (Af (vals 0)) λv=>K v H,
 λvals H K=>gO true (Ab 0 (vals 13)) λv=>K v H,
 λvals H K=>gS true (AP 1 H (vals 14) (vals 12)) H λH'=>K AO H']
theorem zdnfZ (x0 x3 x4 x6:AV):∀i,i<crNOps.length→OpIg prog crNOps (zdjpZ x0 x3 x4 x6) i (crNNeed.getD i []) ((SM x0 x3 x4 x6).getD i (λ_ _ _=>False)):=
 OpIg.all (ql:=JL) (fz:=false) jX (by kernel_rfl) (λvals H K=>by kernel_rfl)
noncomputable def crDOps:List Oper:=(X3 (sub [true,true,true,true,true] (AG f145))).toList
def zdjnZ (x0 x3 x6:AV):List AV:=Bt (mk 82 0 [0,3,6]) [x0,x3,x6]
theorem jW:crDOps.length=14:=by kernel_rfl
theorem zdjmZ:ML crDOps=true:=by kernel_rfl
def crDNeed:List (List Nat):=[[],[],[1],[2],[3],[],[],[6],[7],[8],[4,5,9],[0,1,2,3,4,5,6,7,8,9,10],[0,1,2,3,4,5,6,7,8,9,10,11],[0,1,2,3,4,5,6,7,8,9,10,12]]
def UQ (x0 x3 x6:AV):List ((Nat→AV)→AH→(AV→AH→Prop)→Prop):=[
 λvals H K=>gO true (some x0) λv=>K v H,
 λvals H K=>gO true (some x0) λv=>K v H,
 λvals H K=>gO true (Af (vals 1)) λv=>K v H,
 λvals H K=>gO true (Ab 1 (vals 2)) λv=>K v H,
 λvals H K=>gO true (Ap false 1 H (vals 3)) λv=>K v H,
 λvals H K=>gO true (some x6) λv=>K v H,
 λvals H K=>gO true (Ab 1 x3) λv=>K v H,
 λvals H K=>gO true (Ap false 1 H (vals 6)) λv=>K v H,
 λvals H K=>gO true (En zD [(0,1,(vals 7))]) λv=>K v H,
 λvals H K=>gH true (D9 H 3 1 (B4 zD 1) [(0,3,(vals 8))]) H K,
 λvals H K=>ACalls prog 180 [(vals 4),(vals 5),(vals 9)] H K,
 λvals H K=>gO true (Af (vals 0)) λv=>K v H,
 λvals H K=>gO true (Ab 1 (vals 11)) λv=>K v H,
 λvals H K=>gS true (AP 1 H (vals 12) (vals 10)) H λH'=>K AO H']
theorem zdndZ (x0 x3 x6:AV):∀i,i<crDOps.length→OpIg prog crDOps (zdjnZ x0 x3 x6) i (crDNeed.getD i []) ((UQ x0 x3 x6).getD i (λ_ _ _=>False)):=
 OpIg.all (ql:=JL) (fz:=false) jW (by kernel_rfl) (λvals H K=>by kernel_rfl)
structure OpM where
 kind:Int
 ino:Int
 pos:Int
 size:Int
 keep:Bool
 name:List UInt8
 to:List UInt8
 b:List UInt8
 deriving DecidableEq
def BD (o:OpM)(bv:AV):List AV:=[I o.kind,I o.ino,I o.pos,I o.size,B o.keep,S (B9 o.name),S (B9 o.to),bv]
theorem zdngZ (x0 x3 x4 x6:AV)(vals:Nat→AV)(H:AH)(K:AV→AH→Prop):(AN (DJ (mk 82 0 [0,3,6]) (Kc [true,true,true,true,true] 6)) (AR prog f145.results.toList K)) .normal (pt crNOps vals (λ_=>true) (zdjpZ x0 x3 x4 x6) 16) H=M8 x0 x3 x6 H K:=by kernel_rfl
theorem zdneZ (x0 x3 x6:AV)(vals:Nat→AV)(H:AH)(K:AV→AH→Prop):(AR prog f145.results.toList K) .normal (pt crDOps vals (λ_=>true) (zdjnZ x0 x3 x6) 14) H=K (.tup []) H:=by kernel_rfl
theorem wB (x0 x3 x4 x6:AV)(H:AH)(K:AV→AH→Prop)(h:ACode prog (.region 4 crNOps.toArray true) (AN (DJ (mk 82 0 [0,3,6]) (Kc [true,true,true,true,true] 6)) (AR prog f145.results.toList K)) (zdjpZ x0 x3 x4 x6) H):Ji x0 x3 x4 x6 H K:=unR.mk h
theorem wA (x0 x3 x6:AV)(H:AH)(K:AV→AH→Prop)(h:ACode prog (.region 5 crDOps.toArray true) (AR prog f145.results.toList K) (zdjnZ x0 x3 x6) H):M9 x0 x3 x6 H K:=unR.mk h
def OQ (i j k:Nat)(A B C D:AH)(S:Nat→Bool):AH:=if S k=true then D else if S j=true then C else if S i=true then B else A
theorem GB {i j k:Nat}{A B C D:AH}{S:Nat→Bool}{q:Nat}(h1:q≠i)(h2:q≠j)(h3:q≠k):OQ i j k A B C D (HK S q)=OQ i j k A B C D S:=by
 unfold OQ HK;rw[if_neg (Aj4 h3),if_neg (Aj4 h2),if_neg (Aj4 h1)]
abbrev Do:=And.intro @List.getD_cons_succ.{0} @List.getD_cons_zero.{0}
abbrev Ad6:=And.intro @A8 @Aa
abbrev Ad8:=And.intro (And.intro @Ad6 @BQ) @Cm
abbrev Ad9:=And.intro @Ad8 @Do
theorem wC {L oi p k:Nat}{ns:List Nm}{dv:List NdV}{a b bv:AV}{H:AH}{o:OpM}(h:ImH L oi ns dv a b H)(hp:H[p]?=some (some (.cells (BD o bv))))(hpo:p≠oi)(hpa:p∉AM a)(hk:k≤ns.length)(hn:ns.length≤100000):
  ∃r H2,ImH L oi (ns.take k++⟨o.name,o.ino⟩::ns.drop k) dv r b H2∧FrL L oi H H2∧H2[p]?=H[p]?∧∀x6 K,M8 (.ptr oi 0) (.ptr p 0) x6 H2 K→Ji (.ptr oi 0) (.ptr p 0) (I k) x6 H K:=by
 have g:=Grew.app H [some (.cells (Cb ⟨o.name,o.ino⟩))];have hg:=h.grew g;have hpl:=(BE.1 hp).1;obtain⟨r,H12,hI,hc⟩:=zddbZ (x:=⟨o.name,o.ino⟩) (oj:=H.length) hg.sa hg.oa hg.ca hk (by omega) (by simp) (λhh=>by have:=Az h.sa _ hh;omega);obtain⟨i1,i2,i3,i4,i5,i6⟩:=hI;have el:(ns.take k++(⟨o.name,o.ino⟩:Nm)::ns.drop k).length=ns.length+1:=by simp;omega
 obtain⟨H2,e2,n1,n2⟩:=hg.newA (ms:=ns.take k++⟨o.name,o.ino⟩::ns.drop k) i3 i4 (by rw[el];exact i2) i1 (by rw[el];exact i6) i5
 have hp2:H2[p]?=H[p]?:=by
  have c0:H12[oi]?=some (some (.cells [a,b])):=by rw[i4 oi (BE.1 hg.obj).1 hg.noA];exact hg.obj
  rw[AK (n:=1) (off:=0) (xs:=[r]) (cs:=[a,b]) (Bs (AD i1)) c0 rfl (by simp)]at e2;injection e2 with e2;rw[← e2,Cc (Aj4 hpo),i4 p (by simp;omega) hpa,g.2 p hpl]
 have hfr:FrL L oi H H2:=by
  have hle:=h.len;exact⟨Aj0 g.1 n2.1,λj h5 h6=>(n2.2 j h5 h6).trans (g.2 j (by omega))⟩
 let V:Nat→AV:=λi=>([.ptr oi 0,.ptr oi 0,.ptr oi 0,.ptr oi 0,a,I k,.ptr p 5,S (B9 o.name),.ptr p 1,I o.ino,.agg (Cb ⟨o.name,o.ino⟩),.sl H.length 0 1 2 (.ex 1),r,.ptr oi 0,.ptr oi 0,AO]:List AV).getD i AO
 refine⟨r,H2,n1,hfr,hp2,λx6 K hK=>wB _ _ _ _ _ _ ?_⟩;refine ACode.told2 PT zdjoZ (λi=>crNNeed.getD i []) (λi=>(SM (.ptr oi 0) (.ptr p 0) (I k) x6).getD i (λ_ _ _=>False)) V (OQ 11 12 15 H (H++[some (.cells (Cb ⟨o.name,o.ino⟩))]) H12 H2) (zdnfZ _ _ _ _) rfl ?_ ?_
 ·intro i hi S vals hS cl hn
  rw[jX]at hi
  have n12:S 4=false→S 12=false:=λh4=>by
   cases h:S 12 with
   | false=>rfl
   | true=>have:=cl 12 h 4 (by simp[crNNeed]);rw[h4]at this;cases this
  have n15:S 12=false→S 15=false:=λh4=>by
   cases h:S 15 with
   | false=>rfl
   | true=>have:=cl 15 h 12 (by simp[crNNeed]);rw[h4]at this;cases this
  have n12':S 11=false→S 12=false:=λh4=>by
   cases h:S 12 with
   | false=>rfl
   | true=>have:=cl 12 h 11 (by simp[crNNeed]);rw[h4]at this;cases this
  have n11:∀j,j=7∨j=9→S j=false→S 11=false:=λj hj h4=>by
   cases h:S 11 with
   | false=>rfl
   | true=>
    have h10:=cl 11 h 10 (by simp[crNNeed])
    have:=cl 10 h10 j (by rcases hj with rfl | rfl<;>simp[crNNeed])
    rw[h4]at this;cases this
  have hcase:i=0∨i=1∨i=2∨i=3∨i=4∨i=5∨i=6∨i=7∨i=8∨i=9∨i=10∨i=11∨i=12∨i=13∨i=14∨i=15:=by omega
  rcases hcase with rfl | rfl | rfl | rfl | rfl | rfl | rfl | rfl | rfl | rfl | rfl | rfl | rfl | rfl | rfl | rfl
  ·simp only[SM,List.getD_cons_zero,Ad8]
   exact⟨rfl,(GB (by omega) (by omega) (by omega)).symm⟩
  ·simp only[SM,Ad9]
   exact⟨rfl,(GB (by omega) (by omega) (by omega)).symm⟩
  ·simp only[SM,Ad9]
   have v1:=(hn 1 (by simp[crNNeed])).2;rw[v1];exact⟨rfl,(GB (by omega) (by omega) (by omega)).symm⟩
  ·simp only[SM,Ad9]
   have v2:=(hn 2 (by simp[crNNeed])).2;rw[v2];exact⟨rfl,(GB (by omega) (by omega) (by omega)).symm⟩
  ·simp only[SM,Ad9]
   have v3:=(hn 3 (by simp[crNNeed])).2;rw[v3]
   have e:Ap false 1 (OQ 11 12 15 H (H++[some (.cells (Cb ⟨o.name,o.ino⟩))]) H12 H2 S) (V 3)=some a:=by
    have q12:=n12 hS;have q15:=n15 q12
    have:(OQ 11 12 15 H (H++[some (.cells (Cb ⟨o.name,o.ino⟩))]) H12 H2 S)[oi]?=some (some (.cells [a,b])):=by
     unfold OQ;rw[q15,q12];cases S 11 with
     | true=>exact hg.obj
     | false=>exact h.obj
    show Ap false 1 _ (.ptr oi 0)=_
    rw[Ai this];rfl
   rw[e];exact⟨rfl,(GB (by omega) (by omega) (by omega)).symm⟩
  ·simp only[SM,Ad9]
   exact⟨rfl,(GB (by omega) (by omega) (by omega)).symm⟩
  ·simp only[SM,Ad9]
   exact⟨rfl,(GB (by omega) (by omega) (by omega)).symm⟩
  ·simp only[SM,Ad9]
   have v6:=(hn 6 (by simp[crNNeed])).2;rw[v6]
   have e:Ap false 1 (OQ 11 12 15 H (H++[some (.cells (Cb ⟨o.name,o.ino⟩))]) H12 H2 S) (V 6)=some (.lit (.string (B9 o.name))):=by
    have q11:=n11 7 (by omega) hS;have q12:=n12' q11;have q15:=n15 q12;unfold OQ;rw[q15,q12,q11]
    show Ap false 1 H (.ptr p 5)=_
    rw[Ai hp];rfl
   rw[e];exact⟨rfl,(GB (by omega) (by omega) (by omega)).symm⟩
  ·simp only[SM,Ad9]
   exact⟨rfl,(GB (by omega) (by omega) (by omega)).symm⟩
  ·simp only[SM,Ad9]
   have v8:=(hn 8 (by simp[crNNeed])).2;rw[v8]
   have e:Ap false 1 (OQ 11 12 15 H (H++[some (.cells (Cb ⟨o.name,o.ino⟩))]) H12 H2 S) (V 8)=some (I o.ino):=by
    have q11:=n11 9 (by omega) hS;have q12:=n12' q11;have q15:=n15 q12;unfold OQ;rw[q15,q12,q11]
    show Ap false 1 H (.ptr p 1)=_
    rw[Ai hp];rfl
   rw[e];exact⟨rfl,(GB (by omega) (by omega) (by omega)).symm⟩
  ·simp only[SM,Ad9]
   have v7:=(hn 7 (by simp[crNNeed])).2;have v9:=(hn 9 (by simp[crNNeed])).2;rw[v7,v9];exact⟨rfl,(GB (by omega) (by omega) (by omega)).symm⟩
  ·simp only[SM,Ad9]
   have v10:=(hn 10 (by simp[crNNeed])).2;rw[v10];have q12:=n12' hS;have q15:=n15 q12;have e:OQ 11 12 15 H (H++[some (.cells (Cb ⟨o.name,o.ino⟩))]) H12 H2 S=H:=by unfold OQ;rw[q15,q12,hS];rfl
   have e2:OQ 11 12 15 H (H++[some (.cells (Cb ⟨o.name,o.ino⟩))]) H12 H2 (HK S 11)=H++[some (.cells (Cb ⟨o.name,o.ino⟩))]:=by unfold OQ;simp[HK,q15,q12]
   rw[e,e2];exact⟨rfl,rfl⟩
  ·simp only[SM,Ad9]
   have v4:=(hn 4 (by simp[crNNeed])).2;have v5:=(hn 5 (by simp[crNNeed])).2;have v11:=(hn 11 (by simp[crNNeed])).2;rw[v4,v5,v11];have q15:=n15 hS;have e:OQ 11 12 15 H (H++[some (.cells (Cb ⟨o.name,o.ino⟩))]) H12 H2 S=H++[some (.cells (Cb ⟨o.name,o.ino⟩))]:=by unfold OQ;rw[q15,hS,(hn 11 (by simp[crNNeed])).1];rfl
   have e2:OQ 11 12 15 H (H++[some (.cells (Cb ⟨o.name,o.ino⟩))]) H12 H2 (HK S 12)=H12:=by unfold OQ;simp[HK,q15]
   rw[e,e2];exact hc
  ·simp only[SM,Ad9]
   have v0:=(hn 0 (by simp[crNNeed])).2;rw[v0];exact⟨rfl,(GB (by omega) (by omega) (by omega)).symm⟩
  ·simp only[SM,Ad9]
   have v13:=(hn 13 (by simp[crNNeed])).2;rw[v13];exact⟨rfl,(GB (by omega) (by omega) (by omega)).symm⟩
  ·simp only[SM,Ad9]
   have v14:=(hn 14 (by simp[crNNeed])).2;have v12:=(hn 12 (by simp[crNNeed])).2;rw[v14,v12];have e:OQ 11 12 15 H (H++[some (.cells (Cb ⟨o.name,o.ino⟩))]) H12 H2 S=H12:=by unfold OQ;rw[hS,(hn 12 (by simp[crNNeed])).1];rfl
   have e3:OQ 11 12 15 H (H++[some (.cells (Cb ⟨o.name,o.ino⟩))]) H12 H2 (HK S 15)=H2:=by unfold OQ;simp[HK]
   rw[e,e3]
   show bS (AP 1 H12 (.ptr oi 0) r) _
   rw[e2,AF];exact⟨rfl,rfl⟩
 ·intro S vals hS
  rw[jX,zdngZ];have:OQ 11 12 15 H (H++[some (.cells (Cb ⟨o.name,o.ino⟩))]) H12 H2 S=H2:=by unfold OQ;rw[if_pos (hS 15 (by rw[jX];omega)).1]
  rw[this];exact hK
def GV (ino:Int):NdV:=⟨⟨ino,0,[]⟩,Ad,SV.nil⟩
theorem wD {L oi p k:Nat}{ns:List Nm}{dv:List NdV}{a b bv:AV}{H:AH}{o:OpM}(h:ImH L oi ns dv a b H)(hp:H[p]?=some (some (.cells (BD o bv))))(hk:k≤dv.length)(hn:dv.length≤100000):
  ∃r H2,ImH L oi ns (dv.take k++GV o.ino::dv.drop k) a r H2∧FrL L oi H H2∧∀K:AV→AH→Prop,K (.tup []) H2→M9 (.ptr oi 0) (.ptr p 0) (I k) H K:=by
 have g:=Grew.app H [some (.cells (Cw (GV o.ino)))];have hg:=h.grew g;have hpl:=(BE.1 hp).1;obtain⟨r,H10,hI,hc⟩:=zdkcZ (x:=GV o.ino) (oj:=H.length) hg.sb hg.ob hg.cb hk (by omega) (by simp) (λhh=>by have:=Az h.sb _ hh;omega);obtain⟨i1,i2,i3,i4,i5,i6⟩:=hI;have el:(dv.take k++GV o.ino::dv.drop k).length=dv.length+1:=by simp;omega
 obtain⟨H2,e2,n1,n2⟩:=hg.newB (ew:=dv.take k++GV o.ino::dv.drop k) i3 i4 (by rw[el];exact i2) i1 (by rw[el];exact i6) i5
 have hfr:FrL L oi H H2:=by
  have hle:=h.len;exact⟨Aj0 g.1 n2.1,λj h5 h6=>(n2.2 j h5 h6).trans (g.2 j (by omega))⟩
 let V:Nat→AV:=λi=>([.ptr oi 0,.ptr oi 0,.ptr oi 0,.ptr oi 1,b,I k,.ptr p 1,I o.ino,.agg (Cw (GV o.ino)),.sl H.length 0 1 3 (.ex 1),r,.ptr oi 0,.ptr oi 1,AO]:List AV).getD i AO
 refine⟨r,H2,n1,hfr,λK hK=>wA _ _ _ _ _ ?_⟩;refine ACode.told2 PT zdjmZ (λi=>crDNeed.getD i []) (λi=>(UQ (.ptr oi 0) (.ptr p 0) (I k)).getD i (λ_ _ _=>False)) V (OQ 9 10 13 H (H++[some (.cells (Cw (GV o.ino)))]) H10 H2) (zdndZ _ _ _) rfl ?_ ?_
 ·intro i hi S vals hS cl hn
  rw[jW]at hi
  have n12:S 4=false→S 10=false:=λh4=>by
   cases h:S 10 with
   | false=>rfl
   | true=>have:=cl 10 h 4 (by simp[crDNeed]);rw[h4]at this;cases this
  have n15:S 10=false→S 13=false:=λh4=>by
   cases h:S 13 with
   | false=>rfl
   | true=>have:=cl 13 h 10 (by simp[crDNeed]);rw[h4]at this;cases this
  have n12':S 9=false→S 10=false:=λh4=>by
   cases h:S 10 with
   | false=>rfl
   | true=>have:=cl 10 h 9 (by simp[crDNeed]);rw[h4]at this;cases this
  have n11:S 7=false→S 9=false:=λh4=>by
   cases h:S 9 with
   | false=>rfl
   | true=>
    have h8:=cl 9 h 8 (by simp[crDNeed])
    have:=cl 8 h8 7 (by simp[crDNeed])
    rw[h4]at this;cases this
  have hcase:i=0∨i=1∨i=2∨i=3∨i=4∨i=5∨i=6∨i=7∨i=8∨i=9∨i=10∨i=11∨i=12∨i=13:=by omega
  rcases hcase with rfl | rfl | rfl | rfl | rfl | rfl | rfl | rfl | rfl | rfl | rfl | rfl | rfl | rfl
  ·simp only[UQ,List.getD_cons_zero,Ad8]
   exact⟨rfl,(GB (by omega) (by omega) (by omega)).symm⟩
  ·simp only[UQ,Ad9]
   exact⟨rfl,(GB (by omega) (by omega) (by omega)).symm⟩
  ·simp only[UQ,Ad9]
   have v1:=(hn 1 (by simp[crDNeed])).2;rw[v1];exact⟨rfl,(GB (by omega) (by omega) (by omega)).symm⟩
  ·simp only[UQ,Ad9]
   have v2:=(hn 2 (by simp[crDNeed])).2;rw[v2];exact⟨rfl,(GB (by omega) (by omega) (by omega)).symm⟩
  ·simp only[UQ,Ad9]
   have v3:=(hn 3 (by simp[crDNeed])).2;rw[v3]
   have e:Ap false 1 (OQ 9 10 13 H (H++[some (.cells (Cw (GV o.ino)))]) H10 H2 S) (V 3)=some b:=by
    have q12:=n12 hS;have q15:=n15 q12
    have:(OQ 9 10 13 H (H++[some (.cells (Cw (GV o.ino)))]) H10 H2 S)[oi]?=some (some (.cells [a,b])):=by
     unfold OQ;rw[q15,q12];cases S 9 with
     | true=>exact hg.obj
     | false=>exact h.obj
    show Ap false 1 _ (.ptr oi 1)=_
    rw[Ai this];rfl
   rw[e];exact⟨rfl,(GB (by omega) (by omega) (by omega)).symm⟩
  ·simp only[UQ,Ad9]
   exact⟨rfl,(GB (by omega) (by omega) (by omega)).symm⟩
  ·simp only[UQ,Ad9]
   exact⟨rfl,(GB (by omega) (by omega) (by omega)).symm⟩
  ·simp only[UQ,Ad9]
   have v6:=(hn 6 (by simp[crDNeed])).2;rw[v6]
   have e:Ap false 1 (OQ 9 10 13 H (H++[some (.cells (Cw (GV o.ino)))]) H10 H2 S) (V 6)=some (I o.ino):=by
    have q11:=n11 hS;have q12:=n12' q11;have q15:=n15 q12;unfold OQ;rw[q15,q12,q11]
    show Ap false 1 H (.ptr p 1)=_
    rw[Ai hp];rfl
   rw[e];exact⟨rfl,(GB (by omega) (by omega) (by omega)).symm⟩
  ·simp only[UQ,Ad9]
   have v7:=(hn 7 (by simp[crDNeed])).2;rw[v7];exact⟨rfl,(GB (by omega) (by omega) (by omega)).symm⟩
  ·simp only[UQ,Ad9]
   have v8:=(hn 8 (by simp[crDNeed])).2;rw[v8];have q12:=n12' hS;have q15:=n15 q12;have e:OQ 9 10 13 H (H++[some (.cells (Cw (GV o.ino)))]) H10 H2 S=H:=by unfold OQ;rw[q15,q12,hS];rfl
   have e2:OQ 9 10 13 H (H++[some (.cells (Cw (GV o.ino)))]) H10 H2 (HK S 9)=H++[some (.cells (Cw (GV o.ino)))]:=by unfold OQ;simp[HK,q15,q12]
   rw[e,e2];exact⟨rfl,rfl⟩
  ·simp only[UQ,Ad9]
   have v4:=(hn 4 (by simp[crDNeed])).2;have v5:=(hn 5 (by simp[crDNeed])).2;have v9:=(hn 9 (by simp[crDNeed])).2;rw[v4,v5,v9];have q15:=n15 hS;have e:OQ 9 10 13 H (H++[some (.cells (Cw (GV o.ino)))]) H10 H2 S=H++[some (.cells (Cw (GV o.ino)))]:=by unfold OQ;rw[q15,hS,(hn 9 (by simp[crDNeed])).1];rfl
   have e2:OQ 9 10 13 H (H++[some (.cells (Cw (GV o.ino)))]) H10 H2 (HK S 10)=H10:=by unfold OQ;simp[HK,q15]
   rw[e,e2];exact hc
  ·simp only[UQ,Ad9]
   have v0:=(hn 0 (by simp[crDNeed])).2;rw[v0];exact⟨rfl,(GB (by omega) (by omega) (by omega)).symm⟩
  ·simp only[UQ,Ad9]
   have v11:=(hn 11 (by simp[crDNeed])).2;rw[v11];exact⟨rfl,(GB (by omega) (by omega) (by omega)).symm⟩
  ·simp only[UQ,Ad9]
   have v12:=(hn 12 (by simp[crDNeed])).2;have v10:=(hn 10 (by simp[crDNeed])).2;rw[v12,v10];have e:OQ 9 10 13 H (H++[some (.cells (Cw (GV o.ino)))]) H10 H2 S=H10:=by unfold OQ;rw[hS,(hn 10 (by simp[crDNeed])).1];rfl
   have e3:OQ 9 10 13 H (H++[some (.cells (Cw (GV o.ino)))]) H10 H2 (HK S 13)=H2:=by unfold OQ;simp[HK]
   rw[e,e3]
   show bS (AP 1 H10 (.ptr oi 1) r) _
   rw[e2,AF];exact⟨rfl,rfl⟩
 ·intro S vals hS
  rw[jW,zdneZ];have:OQ 9 10 13 H (H++[some (.cells (Cw (GV o.ino)))]) H10 H2 S=H2:=by unfold OQ;rw[if_pos (hS 13 (by rw[jW];omega)).1]
  rw[this];exact hK
def zdimZ (L oi:Nat)(H:AH)(ns:List Nm)(dv:List NdV)(r:AV)(H':AH):Prop:=r=.tup []∧∃a b,ImH L oi ns dv a b H'∧FrL L oi H H'
def Vu (ns:List Nm)(dv:List NdV)(o:OpM):Prop:=¬Be Nm.name ns o.name∧¬Be NdV.ino dv o.ino∧DE o.name∧1≤o.ino∧o.ino≤4611686018427387904∧ns.length<16
instance (ns:List Nm) (dv:List NdV) (o:OpM):Decidable (Vu ns dv o):=by unfold Vu;infer_instance
def nI (ns:List Nm)(dv:List NdV)(o:OpM):List Nm:=if Vu ns dv o then Gc Bk Nm.name ns ⟨o.name,o.ino⟩else ns
def nG (ns:List Nm)(dv:List NdV)(o:OpM):List NdV:=if Vu ns dv o then Gc BP NdV.ino dv (GV o.ino)else dv
theorem zddvZ {L oi:Nat}{ns:List Nm}{dv:List NdV}{a b:AV}{H:AH}(h:ImH L oi ns dv a b H)(o:OpM){bv:AV}(hb:oneA bv=true):∃H1,AC H (.agg (BD o bv))=some (.ptr H.length 0,H1)∧H1[H.length]?=some (some (.cells (BD o bv)))∧ImH L oi ns dv a b H1∧FrL L oi H H1:=by
 have g:=Grew.app H [some (.cells (BD o bv))];have hle:=h.len;exact⟨_,by simp[BD,hb],by simp,h.grew g,g.1,λj h1 h2=>g.2 j (by omega)⟩
theorem nJ {L oi:Nat}{ns:List Nm}{dv:List NdV}{a b bv:AV}{H H1:AH}{o:OpM}(h:ImH L oi ns dv a b H)(e1:AC H (.agg (BD o bv))=some (.ptr H.length 0,H1))(hp:H1[H.length]?=some (some (.cells (BD o bv))))(h1:ImH L oi ns dv a b H1)
  (hs:Cx Bk Nm.name ns) (hd:Cx BP NdV.ino dv) (hn:ns.length≤100000) (hm:dv.length≤100000) (hnm:o.name.length≤1000000000) {K:AV→AH→Prop} (hno:¬Vu ns dv o→K (.tup []) H1) (hyes:Vu ns dv o→Ji (.ptr oi 0) (.ptr H.length 0) (I (Dr Bk Nm.name ns o.name)) (I (Dr BP NdV.ino dv o.ino)) H1 K):
  Nk (.ptr oi 0) (.agg (BD o bv)) H K:=by
 obtain⟨Ra,Rb,sa,sb,fz⟩:=h1.lend;have c0:=h1.obj;unfold Nk;simp only[e1,A6];have b0:Ax true 2 [a,b] 0=some (.agg [a,b]):=rfl;simp[hp,c0,b0,BD];refine bC_of (PCall.lend (FZs.cons fz (FZs.cons (FZ.lit _) FZs.nil)) rfl (Xv sa sb hs (by omega) o.name)).call ?_;simp[hp,c0,b0,BD];refine bC_of (PCall.lend (FZs.cons fz (FZs.cons (FZ.lit _) FZs.nil)) rfl (dL sa sb hd (by omega) o.ino)).call ?_
 by_cases q1:Be Nm.name ns o.name
 ·simp[q1]
  exact hno λhc=>hc.1 q1
 ·by_cases q2:Be NdV.ino dv o.ino
  ·simp[q1,q2]
   exact hno λhc=>hc.2.1 q2
  ·simp[q1,q2,hp,BD]
   refine Ay (Qn (s:=o.name) (by omega)) ?_
   by_cases q3:DE o.name
   ·by_cases q4:o.ino<1
    ·simp[q3,q4,hp,BD]
     exact hno λhc=>by have:=hc.2.2.2.1;omega
    ·by_cases q5:4611686018427387904<o.ino
     ·simp[q3,q4,q5,hp,BD]
      exact hno λhc=>by have:=hc.2.2.2.2.1;omega
     ·have ln:=By h1.sa
      by_cases q6:16≤ns.length
      ·have q6':(16:Int)≤ns.length:=by omega
       simp[q3,q4,q5,hp,BD,c0,ln,q6'];exact hno λhc=>by have:=hc.2.2.2.2.2;omega
      ·have q6':¬(16:Int)≤ns.length:=by omega
       simp[q3,q4,q5,hp,BD,c0,ln,q6'];exact hyes ⟨q1,q2,q3,by omega,by omega,by omega⟩
   ·simp[q3]
    exact hno λhc=>q3 hc.2.2.1
theorem zM {L oi:Nat}{ns:List Nm}{dv:List NdV}{a b bv:AV}{H:AH}{o:OpM}(h:ImH L oi ns dv a b H)(hs:Cx Bk Nm.name ns)(hd:Cx BP NdV.ino dv)(hb:oneA bv=true)(hn:ns.length≤100000)(hm:dv.length≤100000)(hnm:o.name.length≤1000000000):
  ∃r H',zdimZ L oi H (nI ns dv o) (nG ns dv o) r H'∧BCall prog 145 [.ptr oi 0,.agg (BD o bv)] H r H':=by
 obtain⟨H1,e1,hp,h1,f1⟩:=zddvZ h o hb;have hpl:H.length≠oi:=by have:=(BE.1 h.obj).1;omega
 have hpa:H.length∉AM a:=λhh=>by have:=Az h.sa _ hh;omega
 by_cases hc:Vu ns dv o
 ·obtain⟨r,H2,h2,f2,g2,w2⟩:=wC h1 hp hpl hpa (aB (c:=Bk) (key:=Nm.name) ns o.name) hn
  obtain⟨r2,H3,h3,f3,w3⟩:=wD h2 (g2.trans hp) (aB (c:=BP) (key:=NdV.ino) dv o.ino) hm;refine⟨.tup [],H3,⟨rfl,r,r2,?_,f1.trans (f2.trans f3)⟩,S8 (nJ h e1 hp h1 hs hd hn hm hnm (λq=>absurd hc q) λ_=>w2 _ _ ?_)⟩
  ·unfold nI nG
   rw[if_pos hc,if_pos hc];exact h3
  ·rw[Wk]
   unfold Px;exact w3 _ ⟨rfl,rfl⟩
 ·refine⟨.tup [],H1,⟨rfl,a,b,?_,f1⟩,S8 (nJ h e1 hp h1 hs hd hn hm hnm (λ_=>⟨rfl,rfl⟩) λq=>absurd q hc)⟩
  unfold nI nG;rw[if_neg hc,if_neg hc];exact h1
def FI (ns:List Nm)(s:List UInt8):List Nm:=if Be Nm.name ns s then D3 Bk Nm.name ns s else ns
def Uo (ns:List Nm)(dv:List NdV)(s:List UInt8):List NdV:=if Be Nm.name ns s then D3 BP NdV.ino dv (Db ns s)else dv
theorem oZ {L oi:Nat}{ns:List Nm}{dv:List NdV}{a b:AV}{H:AH}{s:List UInt8}(h:ImH L oi ns dv a b H)(hs:Cx Bk Nm.name ns)(hd:Cx BP NdV.ino dv)(hx:∀x∈ns,Be NdV.ino dv x.ino)(hn:ns.length≤100000)(hm:dv.length≤100000):
  ∃r H',zdimZ L oi H (FI ns s) (Uo ns dv s) r H'∧BCall prog 148 [.ptr oi 0,S (B9 s)] H r H':=ZG (by
 obtain⟨Ra,Rb,sa,sb,fz⟩:=h.lend;have c0:=h.obj;unfold Xi;have b0:Ax true 2 [a,b] 0=some (.agg [a,b]):=rfl;simp[c0,b0];refine bC_of (PCall.lend (FZs.cons fz (FZs.cons (FZ.lit _) FZs.nil)) rfl (Xv sa sb hs (by omega) s)).call ?_
 by_cases q:Be Nm.name ns s
 ·obtain⟨x,hx1,hx2,hx3⟩:=He koN hs q
  obtain⟨o,off,cells,u1,u2,u3,u4,u5,-⟩:=Uk BT (by omega) h.sa h.oa hx1;have u51:=u5 1 (by omega);have hk:=hx x (Ah7 hx1);have hkl:=WW koI hd hk;have hpl:=(BE.1 hx1).1;have e1:FI ns s=D3 Bk Nm.name ns s:=if_pos q;have e2:Uo ns dv s=D3 BP NdV.ino dv x.ino:=by unfold Uo Db;rw[if_pos q,hx2]
  simp[q,c0,b0,u1,u3,u51,Cb];refine bC_of (PCall.lend (FZs.cons fz (FZs.cons (FZ.lit _) FZs.nil)) rfl (dL sa sb hd (by omega) x.ino)).call ?_;simp[c0,Au (a:=(Dr Bk Nm.name ns s:Nat)) (b:=1) (by omega) (by omega)];obtain⟨r1,H2,⟨d1,d2,d3,d4,d5,d6⟩,d7⟩:=zQ h.sa h.oa h.ca hpl (by omega);refine bC_of d7 ?_;have l1:=Ty (c:=Bk) (key:=Nm.name) (k:=s) hpl;obtain⟨H3,e3,n1,n2⟩:=h.newA (ms:=D3 Bk Nm.name ns s) (As5 d3.symm) (λi _ hi=>d4 i hi) (by rw[show(D3 Bk Nm.name ns s).length=ns.length - 1 by omega];exact d2) d1 (by rw[show(D3 Bk Nm.name ns s).length=ns.length - 1 by omega];exact d6) (λi hi=>.inl (d5▸hi));have c3:=n1.obj;simp[e3,c3,Au (a:=(Dr BP NdV.ino dv x.ino:Nat)) (b:=1) (by omega) (by omega)];obtain⟨r2,H4,⟨g1,g2,g3,g4,g5,g6⟩,g7⟩:=zdjqZ n1.sb n1.ob n1.cb hkl (by omega);refine bC_of g7 ?_;have l2:=Ty (c:=BP) (key:=NdV.ino) (k:=x.ino) hkl;obtain⟨H5,e5,m1,m2⟩:=n1.newB (ew:=D3 BP NdV.ino dv x.ino) (As5 g3.symm) (λi _ hi=>g4 i hi) (by rw[show(D3 BP NdV.ino dv x.ino).length=dv.length - 1 by omega];exact g2) g1 (by rw[show(D3 BP NdV.ino dv x.ino).length=dv.length - 1 by omega];exact g6) (λi hi=>.inl (g5▸hi));simp[e5];rw[e1,e2];exact⟨rfl,_,_,m1,n2.trans m2⟩
 ·simp[q]
  refine⟨rfl,a,b,?_,FrL.refl _ _ _⟩;unfold FI Uo;rw[if_neg q,if_neg q];exact h)
def Uf (pos n:Int):Prop:=0≤pos∧1≤n∧n≤1099511627776∧pos≤1099511627776 - n
instance (pos n:Int):Decidable (Uf pos n):=by unfold Uf;infer_instance
theorem V5 (pos n:Int):BPure prog 158 [I pos,I n] (B (decide (Uf pos n))):=BPure.flat λH=>cE (by
 unfold Ze Uf
 by_cases h1:0≤pos
 ·by_cases h2:1≤n
  ·by_cases h3:n≤1099511627776
   ·simp[h1,h2,h3,B2 (a:=1099511627776) (b:=n) (by omega) (by omega)]
   ·simp[h1,h2,h3]
  ·simp[h1,h2]
 ·simp[h1])
theorem Pi {size:Int}{l:List Ext}{v:AV}(hv:SV AB 9 l v)(hl:l.length≤1000000)(pos n:Int)(keep:Bool):
  ∃R,SV AB 9 (cL (Cj (size,l) pos n keep)) R∧BPure prog 104 [.agg [I size,v],I pos,I n,B keep] (.tup [.agg [I (cS (Cj (size,l) pos n keep)),R],B (Cj (size,l) pos n keep).isSome]):=by
 refine BPure.cont (by simp[A5,noIds,hv.1]) (Wa ?_);unfold So;simp[Cn hv,Ax];refine Ay (EM hv (by omega)) ?_
 by_cases h1:Dh size l
 ·simp[h1]
  refine Ay (V5 pos n) ?_
  by_cases h2:Uf pos n
  ·by_cases h3:32768<n
   ·have hn:Cj (size,l) pos n keep=none:=if_neg (λh=>by omega)
    simp[h2,h3,AP];exact ContK.none hn
   ·obtain⟨g1,g2,g3,g4⟩:=h2
    have hw:Cj (size,l) pos n keep=some (if keep then size else max size (pos+n),N4 l pos n):=if_pos ⟨h1,g1,g2,by omega,g4⟩;simp[show Uf pos n from⟨g1,g2,g3,g4⟩,h3];obtain⟨r,H2,⟨w,rfl,a2,a3,a4,a5⟩,a1⟩:=WC (size:=size) (hv.2 [some (.cells [I size,v]),some (.cells [I 0,Ad])]) (Cn hv) (by omega);refine bC_of a1 ?_;have c0:=a4.cells (o:=0) (x:=some (.cells [I size,v])) rfl;have c1:=a4.cells (o:=1) (x:=some (.cells [I 0,Ad])) rfl;have hl2:=a4.1;simp only[Aa3]at hl2;have hwo:=AD a2;have id0:∀j,j<2→j∉AM w:=λj hj h=>by have:=a5 j h;simp at this;omega
    rw[AK (n:=2) (off:=0) (x:=.agg [I size,w]) (xs:=[I size,w]) (by simp[hwo]) c0 rfl (by simp)];simp[JS (a:=pos) (b:=8) (by omega) (by omega) (by omega)];have hs0:=Jk h1.2.2;have hN:allocN pos n≤4098:=by unfold allocN;omega
    refine Q0 (λm x1 x2 x3 x4 x8 x10 H=>∃(d:Nat) (w:AV),d+m=allocN pos n∧x1=I pos∧x2=I n∧x3=B keep∧x4=.ptr 0 0∧x8=.ptr 1 0∧x10=I (pos/8+d)∧H[0]?=some (some (.cells [I size,w]))∧H[1]?=some (some (.cells [I 0,Ad]))∧
     Ac H 9 w=some ((HY l (pos/8) d).flatMap AB,(HY l (pos/8) d).length)∧AZ w=true∧(∀j,j<2→j∉AM w)) ?_ (allocN pos n)
     ⟨0,w,by simp,rfl,rfl,rfl,rfl,rfl,by simp,JY (by omega),(Cc (by omega)).trans c1,?_,a2,id0⟩
    ·rintro m x1 x2 x3 x4 x8 x10 H R hR ⟨d,w,hdn,rfl,rfl,rfl,rfl,rfl,rfl,k0,k1,kw,ko,kid⟩
     unfold LQ;have hH0:=(BE.1 k0).1;have hH1:=(BE.1 k1).1;simp[Au (a:=pos) (b:=n) (by omega) (by omega),B2 (a:=pos+n) (b:=1) (by omega) (by omega),JS (a:=pos+n - 1) (b:=8) (by omega) (by omega) (by omega)]
     by_cases hd:d<allocN pos n
     ·have hc:pos/8+(d:Int)≤(pos+n - 1)/8:=by unfold allocN at hd;omega
      have hws:=kT (k:=d) hs0 (pos/8);have hlen:=kS (k:=d) (l:=l) (no:=pos/8);obtain⟨H11,⟨w',q1,q2,q3,q4,q5,q6,q7⟩,q8⟩:=TN (no:=pos/8+d) k0 kw ko (kid 0 (by omega)) hws (by omega);simp[hc];refine bC_of q8 ?_;have hid':∀i,i<H.length→i∉AM w→i∉AM w':=λi h1 h2 h3=>(q7 i h3).elim h2 (λh=>by omega)
      simp[Au (a:=pos/8+d) (b:=1) (by omega) (by omega)];refine hR (m - 1) _ _ _ _ _ _ _ (by omega) ⟨d+1,w',by omega,rfl,rfl,rfl,rfl,rfl,by rw[show pos/8+(d:Int)+1=pos/8+((d+1:Nat):Int) by omega],q1,?_,?_,q3,λi hi=>hid' i (by omega) (kid i hi)⟩
      ·rw[q6 1 hH1 (by omega) (kid 1 (by omega))];exact k1
      ·rw[kU];exact q2
     ·have hd':d=allocN pos n:=by omega
      subst hd';have hc:¬pos/8+((allocN pos n:Nat):Int)≤(pos+n - 1)/8:=by unfold allocN;omega
      have hko:=AD ko
      have tail:∀s H2,H2.length=H.length→H2[0]?=some (some (.cells [I s,w]))→H2[1]?=some (some (.cells [I 0,Ad]))→Ac H2 9 w=some ((N4 l pos n).flatMap AB,(N4 l pos n).length)→Cj (size,l) pos n keep=some (s,N4 l pos n)→Fm (.ptr 0 0) (.ptr 1 0) H2 (ContK (Cj (size,l) pos n keep)):=by
       intro s H2 hl2 e0 e1 e2 e3;rw[RL];unfold KX;simp[-CF,Ai e0,Ax];rw[AK (n:=2) (off:=0) (xs:=[I s,w]) (cs:=[I 0,Ad]) (by simp[hko]) e1 rfl (by simp)];simp[show 1<H2.length by omega,Ax]
       exact ContK.some e3 (Ae e2 λi hi=>by
        have h2:2≤i:=Al1 λh=>kid i h hi
        rw[Cc (by omega)])
      simp[hc];cases keep with
      | true=>
       simp;exact tail size H rfl k0 k1 kw hw
      | false=>
       have hmx:max (pos+n) size=max size (pos+n):=by omega
       simp[k0,hmx];rw[AK (n:=1) (off:=0) (xs:=[I (max size (pos+n))]) (cs:=[I size,w]) rfl k0 rfl (by simp)];simp
       refine tail _ _ (by simp) (JY hH0) ((Cc (by omega)).trans k1) (Ae kw λi hi=>by
        have h2:2≤i:=Al1 λh=>kid i h hi
        rw[Cc (by omega)]) hw
    ·exact Ae a3 λi hi=>by
      have h2:2≤i:=Al1 λh=>id0 i h hi
      rw[Cc (by omega)]
  ·have hn:Cj (size,l) pos n keep=none:=if_neg (λh=>h2 ⟨h.2.1,h.2.2.1,by omega,h.2.2.2.2⟩)
   simp[h2,AP];exact ContK.none hn
 ·have hn:Cj (size,l) pos n keep=none:=if_neg (λh=>h1 h.1)
  simp[h1,AP];exact ContK.none hn
theorem KZ {size:Int}{l:List Ext}{v:AV}(hv:SV AB 9 l v)(hl:l.length≤1000000)(pos n:Int)(keep:Bool):
  ∃R,SV AB 9 (cL (Cj (size,l) pos n keep)) R∧BPure prog 125 [.agg [I size,v],I pos,I n,B keep] (.tup [.agg [I (cS (Cj (size,l) pos n keep)),R],B (Cj (size,l) pos n keep).isSome]):=by
 refine BPure.cont (by simp[A5,noIds,hv.1]) (L6 ?_);unfold GG;simp[Cn hv,Ax];refine Ay (CD hv (by omega)) ?_
 by_cases h1:Dh size l
 ·by_cases h2:Uf pos n
  ·by_cases h3:32768<n
   ·have hn:Cj (size,l) pos n keep=none:=if_neg (λh=>by omega)
    obtain⟨g1,g2,g3,g4⟩:=h2;simp[h1,show ¬pos<0 by omega,show ¬n<1 by omega,h3,AP];exact ContK.none hn
   ·obtain⟨g1,g2,g3,g4⟩:=h2
    have hw:Cj (size,l) pos n keep=some (if keep then size else max size (pos+n),N4 l pos n):=if_pos ⟨h1,g1,g2,by omega,g4⟩;simp[h1,show ¬pos<0 by omega,show ¬n<1 by omega,h3,B2 (a:=1099511627776) (b:=n) (by omega) (by omega),show ¬1099511627776 - n<pos by omega];obtain⟨r,H2,⟨w,rfl,a2,a3,a4,a5⟩,a1⟩:=RY (size:=size) (hv.2 [some (.cells [I size,v]),some (.cells [I 0,Ad])]) (Cn hv) (by omega);refine bC_of a1 ?_;have c0:=a4.cells (o:=0) (x:=some (.cells [I size,v])) rfl;have c1:=a4.cells (o:=1) (x:=some (.cells [I 0,Ad])) rfl;have hl2:=a4.1;simp only[Aa3]at hl2;have hwo:=AD a2;have id0:∀j,j<2→j∉AM w:=λj hj h=>by have:=a5 j h;simp at this;omega
    rw[AK (n:=2) (off:=0) (x:=.agg [I size,w]) (xs:=[I size,w]) (by simp[hwo]) c0 rfl (by simp)];simp[JS (a:=pos) (b:=8) (by omega) (by omega) (by omega)];have hs0:=Jk h1.2.2;have hN:allocN pos n≤4098:=by unfold allocN;omega
    refine ID (λm x1 x2 x3 x4 x8 x10 H=>∃(d:Nat) (w:AV),d+m=allocN pos n∧x1=I pos∧x2=I n∧x3=B keep∧x4=.ptr 0 0∧x8=.ptr 1 0∧x10=I (pos/8+d)∧H[0]?=some (some (.cells [I size,w]))∧H[1]?=some (some (.cells [I 0,Ad]))∧
     Ac H 9 w=some ((HY l (pos/8) d).flatMap AB,(HY l (pos/8) d).length)∧AZ w=true∧(∀j,j<2→j∉AM w)) ?_ (allocN pos n)
     ⟨0,w,by simp,rfl,rfl,rfl,rfl,rfl,by simp,JY (by omega),(Cc (by omega)).trans c1,?_,a2,id0⟩
    ·rintro m x1 x2 x3 x4 x8 x10 H R hR ⟨d,w,hdn,rfl,rfl,rfl,rfl,rfl,rfl,k0,k1,kw,ko,kid⟩
     unfold ER;have hH0:=(BE.1 k0).1;have hH1:=(BE.1 k1).1;have hub:allocN pos n=((pos+n - 1)/8 - pos/8+1).toNat:=rfl;simp[Au (a:=pos) (b:=n) (by omega) (by omega),D4 (a:=pos/8+d) (b:=8) (by omega) (by omega)]
     by_cases hd:d<allocN pos n
     ·have hc:(pos/8+(d:Int))*8<pos+n:=by unfold allocN at hd;omega
      have hws:=kT (k:=d) hs0 (pos/8);have hlen:=kS (k:=d) (l:=l) (no:=pos/8);obtain⟨H11,⟨w',q1,q2,q3,q4,q5,q6,q7⟩,q8⟩:=Zz (no:=pos/8+d) k0 kw ko (kid 0 (by omega)) hws (by omega);simp[hc];refine bC_of q8 ?_;have hid':∀i,i<H.length→i∉AM w→i∉AM w':=λi h1 h2 h3=>(q7 i h3).elim h2 (λh=>by omega)
      simp[Au (a:=pos/8+d) (b:=1) (by omega) (by omega)];refine hR (m - 1) _ _ _ _ _ _ _ (by omega) ⟨d+1,w',by omega,rfl,rfl,rfl,rfl,rfl,by rw[show pos/8+(d:Int)+1=pos/8+((d+1:Nat):Int) by omega],q1,?_,?_,q3,λi hi=>hid' i (by omega) (kid i hi)⟩
      ·rw[q6 1 hH1 (by omega) (kid 1 (by omega))];exact k1
      ·rw[kU];exact q2
     ·have hd':d=allocN pos n:=by omega
      subst hd';have hc:¬(pos/8+((allocN pos n:Nat):Int))*8<pos+n:=by unfold allocN;omega
      have hko:=AD ko
      have tail:∀s H2,H2.length=H.length→H2[0]?=some (some (.cells [I s,w]))→H2[1]?=some (some (.cells [I 0,Ad]))→Ac H2 9 w=some ((N4 l pos n).flatMap AB,(N4 l pos n).length)→Cj (size,l) pos n keep=some (s,N4 l pos n)→C2 (.ptr 0 0) (.ptr 1 0) H2 (ContK (Cj (size,l) pos n keep)):=by
       intro s H2 hl2 e0 e1 e2 e3;rw[Jn];unfold EC;simp[-CF,Ai e0,Ax];rw[AK (n:=2) (off:=0) (xs:=[I s,w]) (cs:=[I 0,Ad]) (by simp[hko]) e1 rfl (by simp)];simp[show 1<H2.length by omega,Ax]
       exact ContK.some e3 (Ae e2 λi hi=>by
        have h2:2≤i:=Al1 λh=>kid i h hi
        rw[Cc (by omega)])
      simp[hc];cases keep with
      | true=>
       simp;exact tail size H rfl k0 k1 kw hw
      | false=>
       have hmx:max (pos+n) size=max size (pos+n):=by omega
       simp[k0,hmx];rw[AK (n:=1) (off:=0) (xs:=[I (max size (pos+n))]) (cs:=[I size,w]) rfl k0 rfl (by simp)];simp
       refine tail _ _ (by simp) (JY hH0) ((Cc (by omega)).trans k1) (Ae kw λi hi=>by
        have h2:2≤i:=Al1 λh=>kid i h hi
        rw[Cc (by omega)]) hw
    ·exact Ae a3 λi hi=>by
      have h2:2≤i:=Al1 λh=>id0 i h hi
      rw[Cc (by omega)]
  ·have hn:Cj (size,l) pos n keep=none:=if_neg (λh=>h2 ⟨h.2.1,h.2.2.1,by omega,h.2.2.2.2⟩)
   by_cases g1:pos<0
   ·simp[h1,g1,AP]
    exact ContK.none hn
   ·by_cases g2:n<1
    ·simp[h1,g1,g2,AP]
     exact ContK.none hn
    ·by_cases g3:32768<n
     ·simp[h1,g1,g2,g3,AP]
      exact ContK.none hn
     ·have g4:1099511627776 - n<pos:=Int.lt_of_not_ge λh=>h2 ⟨by omega,by omega,by omega,h⟩
      simp[h1,g1,g2,g3,B2 (a:=1099511627776) (b:=n) (by omega) (by omega),g4,AP];exact ContK.none hn
 ·have hn:Cj (size,l) pos n keep=none:=if_neg (λh=>h1 h.1)
  simp[h1,AP];exact ContK.none hn
theorem FZ.fn {X:AH}{k:Fn}{a b a' b':List AV}(ha:FZs X a a')(hb:FZs X b b'):FZ X (.fn k a b) (.fn k a' b'):=by
 obtain⟨n0,h0⟩:=ha;obtain⟨n1,h1⟩:=hb;refine⟨n0+n1+1,λn hn=>?_⟩;cases n with
 | zero=>omega
 | succ n=>simp only[OP,h0 n (by omega),h1 n (by omega)]
theorem FZs.same {X:AH}{vs:List AV}(h:A5 vs=true):FZs X vs vs:=Fb X vs h
theorem FZ.ptr {X:AH}{o off:Nat}{cs Rs:List AV}(ho:X[o]?=some (some (.cells cs)))(h:FZs X (cs.drop off) Rs):FZ X (.ptr o off) (.ip Rs):=by
 obtain⟨n0,h0⟩:=h;refine⟨n0+1,λn hn=>?_⟩;cases n with
 | zero=>omega
 | succ n=>simp only[OP,ho,h0 n (by omega)];rfl
theorem zdldZ {α:Type}{enc:α→List AV}{sz:Nat}(hsz:∀x,(enc x).length=sz)(h0:0<sz){H:AH}{w x:AV}{l:List α}{y:α}{i:Nat}{a:Int}(hw:Ac H sz w=some (l.flatMap enc,l.length))(ho:AZ w=true)(hi:i<l.length)(ha:a=i)(hx:DP x=some (enc y)):
  ∃p H',Bo sz w (I a)=some p∧AP sz H p x=some H'∧H'.length=H.length∧(∀j,j∉AM w→H'[j]?=H[j]?)∧Ac H' sz w=some ((l.set i y).flatMap enc,l.length):=by
 subst ha;obtain⟨o,off,cap,cells,rfl,h1,h2,h3⟩:=I7 hw ho (by omega);have hol:=(BE.1 h1).1;have hmul:i*sz+sz≤l.length*sz:=by rw[← Al5];exact Ai7 _ hi
 have hy:=hsz y;have hl:=DD hi;have hll:=hsz (l[i]);refine⟨.ptr o (off+i*sz),H.set o (some (.cells (Ce cells (off+(i*sz+0)) (enc y)))),?_,?_,by simp,λj hj=>Cc (by simp[AM]at hj;omega),?_⟩
 ·simp only[Bo,Ni]
  rw[if_pos ⟨by omega,by omega⟩];simp
 ·rw[AK (n:=sz) (off:=off+i*sz) (xs:=enc y) hx h1 hy (by omega),HT _ _ _ (by omega)];rfl
 ·rw[Br (c:=Ce cells (off+(i*sz+0)) (enc y)) (by simp[hol]) (by rw[I6 (by omega)];exact h2)]
  rw[QL h2 (by omega),← h3,QK (q:=0) hsz hl (by unfold Ce;rw[Ao5,Am5,Aj5 (by omega),Al4]) (by omega)]
def cI (p:Ext→Bool)(l:List Ext):Int:=match l.findIdx? p with
 | some i=>i
 | none=> -1
def zdflZ (k:FuncId)(oc:Nat)(c:List AV)(l:List Ext)(p:Ext→Bool):Prop:=
 BW prog k=true∧A5 c=true∧∀x∈l,∀(H:AH) (a:AV),(a=.ip c∨(a=.ptr oc 0∧H[oc]?=some (some (.cells c))))→∃H',Grew H H'∧BCall prog k [.agg (AB x),a] H (B (p x)) H'
theorem Z6 {k:FuncId}{oc:Nat}{c:List AV}{l:List Ext}{p:Ext→Bool}{R:AV}(hR:SV AB 9 l R)(hl:l.length≤281474976710656)(hd:zdflZ k oc c l p):
  BPure prog 173 [R,.fn (.func k) [] [.ip c]] (I (cI p l)):=BPure.val (by simp[A5,noIds,hR.1,hd.2.1]) rfl (El (by
 unfold Dn;simp[hR.len];refine D2 (λn x0 x1 x7 x8 H=>∃j:Nat,j+n=l.length∧x0=R∧x1=.fn (.func k) [] [.ip c]∧x7=I l.length∧x8=I j∧∀m x,m<j→l[m]?=some x→p x=false) ?_ l.length ⟨0,by simp,rfl,rfl,rfl,rfl,by simp⟩;rintro n x0 x1 x7 x8 H R' hR' ⟨j,hj,rfl,rfl,rfl,rfl,hm⟩;unfold C8;rcases Ai0 j l.length with hlt | hge
 ·have hx:=DD hlt
  generalize l[j]=y at hx;obtain⟨H',g,hc⟩:=hd.2.2 y (Ah7 hx) H (.ip c) (.inl rfl);simp[hlt,hR.idx AE hx rfl,hd.1];refine bC_of hc ?_;cases hp:p y with
  | true=>
   have:l.findIdx? p=some j:=by
    rw[An0];obtain⟨h1,h2⟩:=BE.1 hx;refine⟨h1,by rw[h2];exact hp,λi hi=>?_⟩
    have:=hm i _ hi (DD (by omega))
    simp[this]
   simp[cI,this]
  | false=>
   simp[Au (a:=j) (b:=1) (by omega) (by omega)];refine hR' (n - 1) _ _ _ _ _ (by omega) ⟨j+1,by omega,rfl,rfl,rfl,rfl,λm x hmj hx2=>?_⟩
   by_cases h:m=j
   ·subst h;rw[hx]at hx2;injection hx2 with hx2;rw[← hx2];exact hp
   ·exact hm m x (by omega) hx2
 ·have:l.findIdx? p=none:=by
   rw[Am9];intro x hx;obtain⟨m,hmx⟩:=Aj2.1 hx;exact hm m x (by have:=(BE.1 hmx).1;omega) hmx
  have hjl:¬j<l.length:=by omega
  simp[hjl,cI,this]))
theorem nT {p:Ext→Bool}{l:List Ext}(h:∀x∈l,p x=false):l.filter (λx=>!p x)=l:=List.filter_eq_self.2 λx hx=>by simp[h x hx]
abbrev Ar1:=@List.filter_append
theorem Qz {H:AH}{v:AV}{l:List Ext}{k:FuncId}{oc:Nat}{c:List AV}{p:Ext→Bool}(hv:Ac H 9 v=some (l.flatMap AB,l.length))(ho:AZ v=true)(hl:l.length≤1000000)(hc:H[oc]?=some (some (.cells c)))(hne:oc∉AM v)(hd:zdflZ k oc c l p):
  ∃r H',(AZ r=true∧Ac H' 9 r=some ((l.filter λx=>!p x).flatMap AB,(l.filter λx=>!p x).length)∧H.length≤H'.length∧(∀i,i<H.length→i∉AM v→H'[i]?=H[i]?)∧∀i∈AM r,i∈AM v)∧
   BCall prog 155 [v,.fn (.func k) [] [.ptr oc 0]] H r H':=HQ (by
 unfold E6;obtain⟨R,hR,fR⟩:=FZ.sv hv (Zs l);have fc:FZ H (.fn (.func k) [] [.ptr oc 0]) (.fn (.func k) [] [.ip c]):=FZ.fn FZs.nil (FZs.cons (FZ.ptr hc (FZs.same hd.2.1)) FZs.nil);refine bP_of (PCall.lend (FZs.cons fR (FZs.cons fc FZs.nil)) rfl (Z6 hR (by omega) hd)) ?_;cases hf:l.findIdx? p with
 | none=>
  rw[Am9]at hf;simp[cI,Am9.2 hf];rw[nT hf];exact⟨ho,hv⟩
 | some i0=>
  obtain⟨h1,h2,h3⟩:=An0.1 hf;have hoc:=(BE.1 hc).1;simp[cI,hf,show ¬(i0:Int)= -1 by omega,Au (a:=i0) (b:=1) (by omega) (by omega)]
  have ht:(l.take (i0+1)).filter (λx=>!p x)=l.take i0:=by
   rw[Al0,Ar1,DD h1];simp[h2];intro x hx;obtain⟨m,hm⟩:=Aj2.1 hx;have hml:=(BE.1 hm).1;rw[Ah8]at hml;rw[Ai4,if_pos (by omega)]at hm
   have:=h3 m (by omega)
   obtain⟨q1,q2⟩:=BE.1 hm;rw[q2]at this
   simpa using this
  refine FV (λn x0 x1 x5 x6 H'=>∃(i j:Nat) (M:List Ext),j+n=l.length∧i<j∧x0=v∧x1=.fn (.func k) [] [.ptr oc 0]∧x5=I i∧x6=I j∧M.length=l.length∧M.take i=(l.take j).filter (λx=>!p x)∧M.drop j=l.drop j∧
   Ac H' 9 v=some (M.flatMap AB,M.length)∧H'[oc]?=some (some (.cells c))∧H.length≤H'.length∧∀i,i<H.length→i∉AM v→H'[i]?=H[i]?) ?_ (l.length - (i0+1))
   ⟨i0,i0+1,l,by omega,by omega,rfl,rfl,rfl,rfl,rfl,ht.symm,rfl,hv,hc,Ah9 _,λ_ _ _=>rfl⟩
  rintro n x0 x1 x5 x6 H' R' hR' ⟨i,j,M,hj,hij,rfl,rfl,rfl,rfl,hM,hMt,hMd,hw,hc',hle,hk⟩;unfold DI;rcases Ai0 j l.length with hlt | hge
  ·have hx:=DD hlt
   generalize l[j]=y at hx
   have hMx:M[j]?=some y:=by
    have:=congrArg (λq=>q[0]?) hMd
    simp only[Ai6,Al8]at this;rw[this];exact hx
   obtain⟨q,-,e1,-,-,e2⟩:=uS (a:=j) hw hMx rfl;have hoc':=(BE.1 hc').1;have gA:=Grew.app H' [some (.cells (AB y))];obtain⟨H10,g,hcl⟩:=hd.2.2 y (Ah7 hx) (H'++[some (.cells (AB y))]) (.ptr oc 0) (.inr ⟨rfl,gA.cells hc'⟩);have gB:=gA.trans g;have z:=g.cells (o:=H'.length) (x:=some (.cells (AB y))) (by simp);simp[By hw,hM,hlt,e1,e2,hd.1,-CF];rw[gI (by simp) (by rfl)];simp;refine bC_of hcl ?_
   have hdrop:M.drop (j+1)=l.drop (j+1):=by
    have:=congrArg (List.drop 1) hMd
    rw[An3,An3]at this;exact this
   have hkeepB:∀i,i<H.length→i∉AM x0→H10[i]?=H[i]?:=λi h1 h2=>by rw[gB.2 i (by omega),hk i h1 h2]
   cases hp:p y with
   | true=>
    simp;rw[D1];unfold Cs;simp[Au (a:=j) (b:=1) (by omega) (by omega)];refine hR' (n - 1) _ _ _ _ _ (by omega) ⟨i,j+1,M,by omega,by omega,rfl,rfl,rfl,rfl,hM,?_,hdrop,gB.slice hw,gB.cells hc',by have:=gB.1;omega,hkeepB⟩;rw[Al0,Ar1,← hMt,hx];simp[hp]
   | false=>
    obtain⟨q2,H16,f1,f2,f3,f4,f5⟩:=zdldZ (x:=.agg (AB y)) (y:=y) (i:=i) (a:=i) AE (by omega) (gB.slice hw) ho (by omega) rfl (by simp);simp[z,f1,f2,Au (a:=i) (b:=1) (by omega) (by omega)];rw[D1];unfold Cs;simp[Au (a:=j) (b:=1) (by omega) (by omega)];refine hR' (n - 1) _ _ _ _ _ (by omega) ⟨i+1,j+1,M.set i y,by omega,by omega,rfl,rfl,rfl,rfl,by simpa using hM,?_,?_,by simpa using f5,?_,by have:=gB.1;omega,λi h1 h2=>by rw[f4 i h2];exact hkeepB i h1 h2⟩
    ·rw[Al0 (l:=l),Ar1,← hMt,hx,Al0,JY (by omega),List.take_set_of_le (Ah9 _)]
     simp[hp]
    ·rw[List.drop_set_of_lt (by omega)];exact hdrop
    ·rw[f4 oc hne];exact gB.cells hc'
  ·have hjl:j=l.length:=by omega
   subst hjl;rw[Al2]at hMt;have hil:i≤M.length:=by omega
   have hfl:(l.filter λx=>!p x).length=i:=by rw[← hMt,Ah8];omega
   obtain⟨o,off,cap,cells,rfl,w1,w2,w3⟩:=I7 hw ho (by omega);have hol:=(BE.1 w1).1;have hmul:i*9≤M.length*9:=Ai7 _ hil;have hmul2:i*9+(M.length - i)*9=M.length*9:=by rw[← An2];congr 1;omega
   have hz:(B4 (AB (QI 0)) (M.length - i)).length=(M.length - i)*9:=by rw[Ey];rfl
   have e3:Bf 9 (.sl o off M.length 9 cap) (some (I i)) none none=some (.sl o (off+i*9) (M.length - i) 9 (cap.cut M.length i)):=by
    simp[Bf,Ci];omega
   have e4:Bf 9 (.sl o off M.length 9 cap) none (some (I i)) none=some (.sl o off i 9 (cap.cut M.length 0)):=by
    simp[Bf,Ci];omega
   have e5:zdffZ (AB (QI 0)) H' (.sl o (off+i*9) (M.length - i) 9 (cap.cut M.length i))=some (H'.set o (some (.cells (Ce cells (off+i*9) (B4 (AB (QI 0)) (M.length - i)))))):=by
    simp only[zdffZ,w1];rw[if_pos ⟨rfl,by omega,by omega⟩,if_neg (by omega),HT _ _ _ (by rw[hz];omega)];rfl
   rw[← bN];have hnl:¬(l.length:Int)<M.length:=by omega
   simp only[zdgaZ,Ae8,hnl,e3,e5,AF,e4];refine⟨rfl,?_,by simpa using hle,λa h1 h2=>?_,by simp[AM]⟩
   ·have hov:(Ce cells (off+i*9) (B4 (AB (QI 0)) (M.length - i))).length=cells.length:=I6 (by rw[hz];omega)
    rw[hfl,Br (c:=Ce cells (off+i*9) (B4 (AB (QI 0)) (M.length - i))) (by simp[hol]) (by rw[hov];omega)]
    congr 2
    rw[← hMt,← HO AE,w3,An4,Ao1 hmul];refine Ak5 λq=>?_
    rw[Ai4,Ai4]
    split
    ·rw[Ai6,Ai6,LX (by rw[hz];omega),if_neg (by omega)]
    ·rfl
   ·rw[Cc (by simp[AM]at h2;omega)]
    exact hk a h1 h2)
theorem wU {cs xs:List AV}{k:Nat}(h:(cs.drop k).take xs.length=xs)(hl:k+xs.length≤cs.length):Ce cs k xs=cs:=by
 refine Ak5 λi=>?_
 rw[LX hl]
 split
 ·rename_i c
  rw[← h,Ai4,if_pos (by omega),Ai6,show k+(i - k)=i by omega]
 ·rfl
theorem WJ (x:Ext){j:Nat}(hj:j<8):(AB x)[j+1]?=some (.lit (.int .u8 (x.b.getD j 0).toNat)):=by
 have hb:=x.hb;unfold AB;rw[De,T6,Ai9,DD (by omega)];rfl
theorem xO {x:Ext}{a:Int}{i j:Nat}(hj:(j:Int)=a - x.no*8+i)(hj8:j<8):(AB (C0 x a (a+i))).set (1+j) u0Z=AB (C0 x a (a+(i+1:Nat))):=by
 refine Ak5 λq=>?_
 rw[Am7];cases q with
 | zero=>rw[if_neg (by omega)];rfl
 | succ q=>
  by_cases hq:q<8
  ·rw[WJ _ hq,WJ _ hq,Dl hq,Dl hq,AE]
   by_cases c:1+j=q+1
   ·rw[if_pos c,if_pos (by omega),if_pos (by omega)];rfl
   ·rw[if_neg c]
    by_cases c2:a≤x.no*8+(q:Int)∧x.no*8+(q:Int)<a+i
    ·rw[if_pos c2,if_pos (by omega)]
    ·rw[if_neg c2,if_neg (by omega)]
  ·rw[An1 (by rw[AE];omega),An1 (by rw[AE];omega),AE]
   rw[if_neg (by omega)]
theorem zdllZ {H:AH}{o q:Nat}{cells:List AV}{x:Ext}{s:Sp}(hc:H[o]?=some (some (.cells cells)))(hx:(cells.drop q).take 9=AB x)(hq:q+9≤cells.length)(hs:MaySpan s)(h0:0≤x.no)(h1:x.no<137438953472):
  ∃H',(H'[o]?=some (some (.cells (Ce cells q (AB (C0 x s.pos (s.pos+s.len))))))∧H.length≤H'.length∧∀i,i<H.length→i≠o→H'[i]?=H[i]?)∧BCall prog 157 [.ptr o q,.agg (Bz s)] H (.tup []) H':=by
 have key:∃r H',(r=.tup []∧(H'[o]?=some (some (.cells (Ce cells q (AB (C0 x s.pos (s.pos+s.len))))))∧H.length≤H'.length∧∀i,i<H.length→i≠o→H'[i]?=H[i]?))∧BCall prog 157 [.ptr o q,.agg (Bz s)] H r H':=cF (by
  unfold Zf;have ho:=(BE.1 hc).1
  have hno:cells[q]?=some (I x.no):=by
   have:=congrArg (λl=>l[0]?) hx
   simp only[Ai4,Ai6,Al8]at this
   simpa[AB]using this
  have g1:=Grew.app H [some (.cells (Bz s))];have c1:=g1.cells hc;have c1':H[o]?=some (some (.cells cells)):=hc;obtain⟨p,n⟩:=s;simp only[Bz]at c1 g1⊢;simp[Ah6 ho,hc,hno,Ax];refine bP_of (NE x.no h0 h1) ?_;refine bP_of (Wn ⟨x.no*8,8⟩ ⟨p,n⟩) ?_;have hwm:MaySpan ⟨x.no*8,8⟩:=by simp only[MaySpan,May];omega
  have hm:RU ⟨x.no*8,8⟩ ⟨p,n⟩=if max (x.no*8) p<min (x.no*8+8) (p+n)then⟨max (x.no*8) p,min (x.no*8+8) (p+n) - max (x.no*8) p⟩else⟨0,0⟩:=by
   unfold RU;simp only
   by_cases c:max (x.no*8) p<min (x.no*8+8) (p+n)
   ·rw[if_pos ⟨hwm,hs,c⟩,if_pos c]
   ·rw[if_neg (λh=>c h.2.2),if_neg c]
  -- what is wiped
  have hres:∀m:Nat,(m:Int)=(RU ⟨x.no*8,8⟩ ⟨p,n⟩).len→C0 x (RU ⟨x.no*8,8⟩ ⟨p,n⟩).pos ((RU ⟨x.no*8,8⟩ ⟨p,n⟩).pos+m)=C0 x p (p+n):=by
   intro m he;refine VZ rfl λk hk=>?_
   rw[Dl hk,Dl hk];rw[hm]at he⊢
   by_cases c:max (x.no*8) p<min (x.no*8+8) (p+n)
   ·rw[if_pos c]at he⊢
    simp only at he⊢
    by_cases c2:p≤x.no*8+(k:Int)∧x.no*8+(k:Int)<p+n
    ·rw[if_pos c2,if_pos (by omega)]
    ·rw[if_neg c2,if_neg (by omega)]
   ·rw[if_neg c]at he⊢
    simp only at he⊢;rw[if_neg (by omega),if_neg (by omega)]
  have hml:∃m:Nat,(m:Int)=(RU ⟨x.no*8,8⟩ ⟨p,n⟩).len∧(0<m→x.no*8≤(RU ⟨x.no*8,8⟩ ⟨p,n⟩).pos∧(RU ⟨x.no*8,8⟩ ⟨p,n⟩).pos+m≤x.no*8+8):=by
   rw[hm]
   split
   ·exact⟨(min (x.no*8+8) (p+n) - max (x.no*8) p).toNat,by simp only;omega,λ_=>by simp only;omega⟩
   ·exact⟨0,rfl,λh=>by omega⟩
  obtain⟨m,hmm,hmb⟩:=hml;have hres:=hres m hmm;generalize RU ⟨x.no*8,8⟩ ⟨p,n⟩=M at hmm hmb hres;obtain⟨a,ml⟩:=M;simp only at hmm hmb hres;subst hmm;have hxl:=AE x;simp[Bz,AP];have hz0:C0 x a (a+(0:Nat))=x:=VZ rfl λk hk=>by rw[Dl hk,if_neg (by omega)]
  refine UV (λt x0 x4 x14 x15 H'=>∃i:Nat,i+t=m∧x0=.ptr o q∧x4=.ptr (H.length+1) 0∧x14=I m∧x15=I i∧H'[o]?=some (some (.cells (Ce cells q (AB (C0 x a (a+i))))))∧H'[H.length+1]?=some (some (.cells [I a,I m]))∧H.length≤H'.length∧∀i,i<H.length→i≠o→H'[i]?=H[i]?) ?_ m
   ⟨0,by omega,rfl,rfl,rfl,rfl,?_,?_,by simp,λi hi _=>Ah6 hi⟩
  ·rintro t x0 x4 x14 x15 H' R hR ⟨i,hi,rfl,rfl,rfl,rfl,d0,d1,d2,d3⟩
   unfold Q7
   by_cases hlt:i<m
   ·obtain⟨b1,b2⟩:=hmb (by omega)
    obtain⟨j,hj⟩:∃j:Nat,(j:Int)=a - x.no*8+i:=⟨(a - x.no*8+i).toNat,by omega⟩;have ho':=(BE.1 d0).1;have hwl:=AE (C0 x a (a+i))
    have hno':(Ce cells q (AB (C0 x a (a+i))))[q]?=some (I x.no):=by
     rw[LX (by omega),if_pos (by omega),Nat.sub_self];rfl
    simp[hlt,d1,d0,hno',D4 (a:=x.no) (b:=8) (by omega) (by omega),B2 (a:=a) (b:=x.no*8) (by omega) (by omega),Au (a:=a - x.no*8) (b:=i) (by omega) (by omega),← hj]
    have e1:SJ 8 1 (.ptr o (q+1)) (I j)=some (.ptr o (q+1+j)):=by
     simp[SJ,Ni];omega
    rw[e1];simp only[Aa];rw[AK (n:=1) (off:=q+1+j) (xs:=[.lit (.int .u8 0)]) rfl d0 rfl (by rw[I6 (by omega)];omega)];simp[Au (a:=i) (b:=1) (by omega) (by omega)];refine hR (t - 1) _ _ _ _ _ (by omega) ⟨i+1,by omega,rfl,rfl,rfl,rfl,?_,?_,by simpa using d2,λy h1 h2=>?_⟩
    ·rw[JY ho',← xO hj (by omega)]
     congr 3
     refine Ak5 λy=>?_
     rw[Am7,I6 (by omega),LX (by omega),LX (by simp;omega),Am7,Aj6]
     by_cases c:q+1+j=y
     ·subst c
      rw[if_pos rfl,if_pos (by omega),if_pos (by omega),if_pos (by omega),if_pos (by omega)]
     ·rw[if_neg c]
      split
      ·rw[if_neg (by omega)]
      ·rfl
    ·rw[Cc (by omega)];exact d1
    ·rw[Cc (by omega)];exact d3 y h1 h2
   ·have:i=m:=by omega
    subst this;simp;rw[hres]at d0;exact⟨d0,d2,d3⟩
  ·rw[Ah6 ho,hz0,wU (by rw[hxl];exact hx) (by omega)]
   exact hc
  ·rw[Ai1 (by omega)];simp)
 obtain⟨r,H',⟨rfl,h1⟩,h2⟩:=key;exact⟨H',h1,h2⟩
theorem uT {H:AH}{w:AV}{l:List Ext}{i:Nat}{a:Int}{x:Ext}{s:Sp}(hw:Ac H 9 w=some (l.flatMap AB,l.length))(ho:AZ w=true)(hx:l[i]?=some x)(ha:a=i)(hs:MaySpan s)(h0:0≤x.no)(h1:x.no<137438953472):
  ∃p H',Bo 9 w (I a)=some p∧BCall prog 157 [p,.agg (Bz s)] H (.tup []) H'∧H.length≤H'.length∧(∀j,j<H.length→j∉AM w→H'[j]?=H[j]?)∧Ac H' 9 w=some ((l.set i (C0 x s.pos (s.pos+s.len))).flatMap AB,l.length):=by
 subst ha;have hi:=(BE.1 hx).1;obtain⟨o,off,cap,cells,rfl,h2,h3,h4⟩:=I7 hw ho (by omega);have hol:=(BE.1 h2).1;have hmul:i*9+9≤l.length*9:=by rw[← Al5];exact Ai7 _ hi
 have hxl:=AE x;have hwl:=AE (C0 x s.pos (s.pos+s.len))
 have hpart:(cells.drop (off+i*9)).take 9=AB x:=by
  have e:((l.flatMap AB).drop (i*9)).take 9=AB x:=by
   rw[Ev AE hx,Aj7 (by omega),Ai2 (by omega)]
  rw[h4,Ap4,An3,An4,Ao1 (by omega)]at e;exact e
 obtain⟨H',⟨k1,k2,k3⟩,k4⟩:=zdllZ (q:=off+i*9) h2 hpart (by omega) hs h0 h1;refine⟨.ptr o (off+i*9),H',?_,k4,k2,λj h5 h6=>k3 j h5 (by simp[AM]at h6;omega),?_⟩
 ·simp only[Bo,Ni]
  rw[if_pos ⟨by omega,by omega⟩];simp
 ·rw[Br k1 (by rw[I6 (by omega)];exact h3)]
  rw[show off+i*9=off+(i*9+0) by omega,QL h3 (by omega),← h4,QK (q:=0) AE hx (by unfold Ce;rw[Ao5,Am5,Aj5 (by omega),Al4]) (by omega)]
abbrev At7:=@List.set_append_right
theorem map_set {f:Ext→Ext}{l:List Ext}{i:Nat}{x:Ext}(hx:l[i]?=some x):((l.take i).map f++l.drop i).set i (f x)=(l.take (i+1)).map f++l.drop (i+1):=by
 have hi:=(BE.1 hx).1;rw[Dy hx,At7 _ _ (by rw[Aj1,Ah8];omega),Al0,hx];simp[show i - min i l.length=0 by omega]
theorem tQ {f:Ext→Ext}{l:List Ext}{i:Nat}{x:Ext}(hx:l[i]?=some x):((l.take i).map f++l.drop i)[i]?=some x:=by
 have hi:=(BE.1 hx).1;rw[Ai1 (by rw[Aj1,Ah8];omega),Ai6];simp only[Aj1,Ah8];rw[show i+(i - min i l.length)=i by omega];exact hx
theorem ZZ {f:Ext→Ext}{l:List Ext}{i:Nat}:((l.take i).map f++l.drop i).length=l.length:=by
 simp;omega
theorem xN (size:Int)(l:List Ext)(h:∀x∈l,-1≤x.no∧x.no<137438953472):zdflZ 156 1 [I size] l (λx=>decide (size≤x.no*8)):=by
 refine⟨by kernel_rfl,rfl,λx hx H a ha=>?_⟩;obtain⟨h1,h2⟩:=h x hx
 have key:∃r H',(r=B (decide (size≤x.no*8))∧Grew H H')∧BCall prog 156 [.agg (AB x),a] H r H':=TJ (by
  unfold Pl;have g:=Grew.app H [some (.cells (AB x))];rcases ha with rfl | ⟨rfl,hc⟩
  ·simp[D4 (a:=x.no) (b:=8) (by omega) (by omega)]
   exact g
  ·have h1':=(BE.1 hc).1
   have hc':=g.cells hc;simp[D4 (a:=x.no) (b:=8) (by omega) (by omega),hc'];exact g)
 obtain⟨r,H',⟨rfl,g⟩,hc⟩:=key;exact⟨H',g,hc⟩
theorem xA (oc:Nat)(s:Sp)(l:List Ext)(h:∀x∈l,0≤x.no∧x.no<137438953472):zdflZ 159 oc (Bz s) l (λx=>decide (Within ⟨x.no*8,8⟩ s)):=by
 refine⟨by kernel_rfl,rfl,λx hx H a ha=>?_⟩;obtain⟨h1,h2⟩:=h x hx
 have key:∃r H',(r=B (decide (Within ⟨x.no*8,8⟩ s))∧Grew H H')∧BCall prog 159 [.agg (AB x),a] H r H':=WP (by
  unfold TD;have g:=Grew.app H [some (.cells (AB x))];simp;refine bP_of (NE x.no h1 h2) ?_
  have ha':Ap true 2 (H++[some (.cells (AB x))]) a=some (.agg (Bz s)):=by
   rcases ha with rfl | ⟨rfl,hc⟩
   ·rfl
   ·rw[Ai (g.cells hc)];rfl
  rw[ha'];simp;refine bP_of (kW ⟨x.no*8,8⟩ s) ?_;exact⟨rfl,g⟩)
 obtain⟨r,H',⟨rfl,g⟩,hc⟩:=key;exact⟨H',g,hc⟩
abbrev Ad2:=And.intro @List.drop_zero.{0} @List.map_nil.{0,0}
abbrev An5:=@List.length_filter_le
theorem Pn {size0:Int}{l:List Ext}{v:AV}(hv:SV AB 9 l v)(hl:l.length≤1000000)(size:Int):
  ∃R,SV AB 9 (cL (Cl (size0,l) size)) R∧BPure prog 103 [.agg [I size0,v],I size] (.tup [.agg [I (cS (Cl (size0,l) size)),R],B (Cl (size0,l) size).isSome]):=by
 refine BPure.cont (by simp[A5,noIds,hv.1]) (Wd ?_);unfold St;simp[Cn hv,Ax];refine Ay (EM hv (by omega)) ?_
 by_cases h1:Dh size0 l
 ·by_cases h2:size<0
  ·have hn:Cl (size0,l) size=none:=if_neg (λh=>by omega)
   simp[h1,h2,AP];exact ContK.none hn
  ·by_cases h3:1099511627776<size
   ·have hn:Cl (size0,l) size=none:=if_neg (λh=>by omega)
    simp[h1,h2,h3,AP];exact ContK.none hn
   ·have hw:Cl (size0,l) size=some (size,Fg l size):=if_pos ⟨h1,by omega,by omega⟩
    simp[h1,h2,h3];obtain⟨r,H2,⟨w,rfl,a2,a3,a4,a5⟩,a1⟩:=WC (size:=size0) (hv.2 [some (.cells [I size0,v]),some (.cells [I size]),some (.cells [I 0,Ad])]) (Cn hv) (by omega);refine bC_of a1 ?_;have c0:=a4.cells (o:=0) (x:=some (.cells [I size0,v])) rfl;have c1:=a4.cells (o:=1) (x:=some (.cells [I size])) rfl;have c2:=a4.cells (o:=2) (x:=some (.cells [I 0,Ad])) rfl;have hl2:=a4.1;simp only[Aa3]at hl2;have hwo:=AD a2;have id0:∀j,j<3→j∉AM w:=λj hj h=>by have:=a5 j h;simp at this;omega
    have hs0:=Jk h1.2.2;have hno:=λx hx=>(LI h1.2.2 x hx)
    rw[AK (n:=2) (off:=0) (x:=.agg [I size0,w]) (xs:=[I size0,w]) (by simp[hwo]) c0 rfl (by simp)];simp[c1];rw[AK (n:=1) (off:=0) (xs:=[I size]) (cs:=[I size0,w]) rfl (JY (by omega)) rfl (by simp)];simp[show 0<H2.length by omega];have keep0:∀j x,j≠0→(H2.set 0 x)[j]?=H2[j]?:=λj x hj=>Cc (by omega)
    have hw1:Ac (H2.set 0 (some (.cells [I size,w]))) 9 w=some (l.flatMap AB,l.length):=Ae a3 λi hi=>keep0 i _ (λh=>id0 0 (by omega) (h▸hi))
    obtain⟨r2,H3,⟨b1,b2,b3,b4,b5⟩,b6⟩:=Qz (k:=156) hw1 a2 (by omega) (oc:=1) (c:=[I size]) (by rw[keep0 1 _ (by omega)];exact c1) (id0 1 (by omega)) (xN size l λx hx=>by have:=hno x hx;omega)
    have hfe:(l.filter λx=>!decide (size≤x.no*8))=l.filter λx=>decide (x.no*8<size):=List.filter_congr λx _=>by
     by_cases c:size≤x.no*8
     ·simp[c,show ¬x.no*8<size by omega]
     ·simp[c,show x.no*8<size by omega]
    rw[hfe]at b2;refine bC_of b6 ?_;simp at b3;have id3:∀j,j<3→j∉AM r2:=λj hj h=>id0 j hj (b5 j h)
    have d0:H3[0]?=some (some (.cells [I size,w])):=by rw[b4 0 (by simp;omega) (id0 0 (by omega))];exact JY (by omega)
    have d1:H3[1]?=some (some (.cells [I size])):=by rw[b4 1 (by simp;omega) (id0 1 (by omega)),keep0 1 _ (by omega)];exact c1
    have d2:H3[2]?=some (some (.cells [I 0,Ad])):=by rw[b4 2 (by simp;omega) (id0 2 (by omega)),keep0 2 _ (by omega)];exact c2
    have hr2:=AD b1;rw[AK (n:=1) (off:=1) (xs:=[r2]) (cs:=[I size,w]) (Bs hr2) d0 rfl (by simp)];have hfl:(l.filter λx=>decide (x.no*8<size)).length≤l.length:=An5 _ _
    have hfm:∀x∈(l.filter λx=>decide (x.no*8<size)),0≤x.no∧x.no<137438953472:=λx hx=>by
     have:=hno x (Ap9.1 hx).1;omega
    have hte:Fg l size=(l.filter λx=>decide (x.no*8<size)).map λx=>C0 x size 1099511627776:=rfl
    generalize (l.filter λx=>decide (x.no*8<size))=F at b2 hfl hfm hte;simp[show 0<H3.length by omega,By b2];have hsp:MaySpan ⟨size,1099511627776 - size⟩:=by simp only[MaySpan,May];omega
    refine Q5 (λt x2 x3 x4 x30 x31 H=>∃i:Nat,i+t=F.length∧x2=.ptr 0 0∧x3=.ptr 1 0∧x4=.ptr 2 0∧x30=I F.length∧x31=I i∧H[0]?=some (some (.cells [I size,r2]))∧H[1]?=some (some (.cells [I size]))∧H[2]?=some (some (.cells [I 0,Ad]))∧
     Ac H 9 r2=some (((F.take i).map (λx=>C0 x size 1099511627776)++F.drop i).flatMap AB,((F.take i).map (λx=>C0 x size 1099511627776)++F.drop i).length)) ?_ F.length
     ⟨0,by omega,rfl,rfl,rfl,rfl,rfl,JY (by omega),(Cc (by omega)).trans d1,(Cc (by omega)).trans d2,?_⟩
    ·rintro t x2 x3 x4 x30 x31 H R hR ⟨i,hi,rfl,rfl,rfl,rfl,rfl,e0,e1,e2,e3⟩
     unfold LR;have hH0:=(BE.1 e0).1;have hH1:=(BE.1 e1).1;have hH2:=(BE.1 e2).1;rcases Ai0 i F.length with hlt | hge
     ·have hx:=DD hlt
      generalize F[i]=x at hx;obtain⟨x0,x1⟩:=hfm x (Ah7 hx);obtain⟨p,H',f1,f2,f3,f4,f5⟩:=uT (s:=⟨size,1099511627776 - size⟩) e3 b1 (tQ hx) (a:=i) rfl hsp x0 x1;simp only[show size+(1099511627776 - size)=1099511627776 by omega]at f5;rw[map_set (f:=λx=>C0 x size 1099511627776) hx]at f5;simp[hlt,e0,e1,f1,B2 (a:=1099511627776) (b:=size) (by omega) (by omega)];refine bC_of f2 ?_;simp[Au (a:=i) (b:=1) (by omega) (by omega)];refine hR (t - 1) _ _ _ _ _ _ (by omega) ⟨i+1,by omega,rfl,rfl,rfl,rfl,rfl,by rw[f4 0 hH0 (id3 0 (by omega))];exact e0,by rw[f4 1 hH1 (id3 1 (by omega))];exact e1,by rw[f4 2 hH2 (id3 2 (by omega))];exact e2,by rw[f5,ZZ,ZZ]⟩
     ·have:i=F.length:=by omega
      subst this;simp[e0,Ax];rw[AK (n:=2) (off:=0) (xs:=[I size,r2]) (cs:=[I 0,Ad]) (by simp[hr2]) e2 rfl (by simp)];simp[hH2];rw[Al2,Ap5,Al4,← hte]at e3
      exact ContK.some hw (Ae e3 λi hi=>by
       have h2:3≤i:=Al1 λh=>id3 i h hi
       rw[Cc (by omega)])
    ·simp only[Ao5,Ad2,Am5]
     exact Ae b2 λi hi=>by
      have h2:3≤i:=Al1 λh=>id3 i h hi
      rw[Cc (by omega)]
 ·have hn:Cl (size0,l) size=none:=if_neg (λh=>h1 h.1)
  simp[h1,AP];exact ContK.none hn
theorem pM {no pos n:Int}(h:Uf pos n)(h0:0≤no)(h1:no<137438953472):(!decide (Within ⟨no*8,8⟩ ⟨pos,n⟩))=!gone pos n no:=by
 have e:Within ⟨no*8,8⟩ ⟨pos,n⟩↔(pos≤no*8∧no*8+8≤pos+n):=by
  rw[sI];unfold W4 MaySpan May;unfold Uf at h;simp only;omega
 unfold gone
 by_cases c1:pos≤no*8<;>by_cases c2:no*8+8≤pos+n<;>simp[e,c1,c2]
theorem TG {size:Int}{l:List Ext}{v:AV}(hv:SV AB 9 l v)(hl:l.length≤1000000)(pos n:Int):
  ∃R,SV AB 9 (cL (CM (size,l) pos n)) R∧BPure prog 105 [.agg [I size,v],I pos,I n] (.tup [.agg [I (cS (CM (size,l) pos n)),R],B (CM (size,l) pos n).isSome]):=by
 refine BPure.cont (by simp[A5,noIds,hv.1]) (Z7 ?_);unfold WO;simp[Cn hv,Ax];refine Ay (EM hv (by omega)) ?_
 by_cases h1:Dh size l
 ·simp[h1]
  refine Ay (V5 pos n) ?_
  by_cases h2:Uf pos n
  ·have hw:CM (size,l) pos n=some (size,Fr l pos n):=if_pos ⟨h1,h2⟩
   have h2':=h2;obtain⟨g1,g2,g3,g4⟩:=h2';simp[h2];obtain⟨r,H2,⟨w,rfl,a2,a3,a4,a5⟩,a1⟩:=WC (size:=size) (hv.2 [some (.cells [I size,v]),some (.cells [I 0,Ad])]) (Cn hv) (by omega);refine bC_of a1 ?_;have c0:=a4.cells (o:=0) (x:=some (.cells [I size,v])) rfl;have c2:=a4.cells (o:=1) (x:=some (.cells [I 0,Ad])) rfl;have hl2:=a4.1;simp only[Aa3]at hl2;have hwo:=AD a2;have id0:∀j,j<2→j∉AM w:=λj hj h=>by have:=a5 j h;simp at this;omega
   have hs0:=Jk h1.2.2;have hno:=λx hx=>(LI h1.2.2 x hx)
   rw[AK (n:=2) (off:=0) (x:=.agg [I size,w]) (xs:=[I size,w]) (by simp[hwo]) c0 rfl (by simp)];simp;rw[AK (n:=2) (off:=0) (x:=.agg [I pos,I n]) (xs:=[I pos,I n]) (cs:=[I 0,I 0]) (by simp) (by rw[Ai1 (by simp)];simp) rfl (by simp)]
   have hset:((H2.set 0 (some (AObj.cells [I size,w])))++[some (AObj.cells [I 0,I 0])]).set H2.length (some (AObj.cells (Bm [I 0,I 0] 0 [I pos,I n])))=(H2.set 0 (some (AObj.cells [I size,w])))++[some (AObj.cells [I pos,I n])]:=by
    rw[At7 _ _ (by simp)];simp
   rw[hset];have g:=Grew.app (H2.set 0 (some (AObj.cells [I size,w]))) [some (.cells [I pos,I n])];have keep0:∀j x,j≠0→(H2.set 0 x)[j]?=H2[j]?:=λj x hj=>Cc (by omega)
   have z0:=g.cells (o:=0) (x:=some (.cells [I size,w])) (JY (by omega));have z1:=g.cells (o:=1) (x:=some (.cells [I 0,Ad])) (by rw[keep0 1 _ (by omega)];exact c2);have z2:(H2.set 0 (some (AObj.cells [I size,w]))++[some (AObj.cells [I pos,I n])])[H2.length]?=some (some (.cells [I pos,I n])):=by rw[Ai1 (by simp)];simp
   have zid:H2.length∉AM w:=λh=>by have:=Az a3 _ h;omega
   have hlen3:(H2.set 0 (some (AObj.cells [I size,w]))++[some (AObj.cells [I pos,I n])]).length=H2.length+1:=by simp
   have hw1:=g.slice (Ae (H':=H2.set 0 (some (AObj.cells [I size,w]))) a3 λi hi=>keep0 i _ (λh=>id0 0 (by omega) (h▸hi)));generalize hH3:(H2.set 0 (some (AObj.cells [I size,w]))++[some (AObj.cells [I pos,I n])])=H3 at g z0 z1 z2 hw1 hlen3;generalize H2.length=so at z2 zid hlen3 hl2;simp[z0];obtain⟨r2,H4,⟨b1,b2,b3,b4,b5⟩,b6⟩:=Qz (k:=159) hw1 a2 (by omega) (oc:=so) (c:=Bz ⟨pos,n⟩) z2 zid (xA so ⟨pos,n⟩ l λx hx=>by have:=hno x hx;omega)
   have hfe:(l.filter λx=>!decide (Within ⟨x.no*8,8⟩ ⟨pos,n⟩))=l.filter λx=>!gone pos n x.no:=List.filter_congr λx hx=>by
    have:=hno x hx
    exact pM h2 (by omega) (by omega)
   rw[hfe]at b2;refine bC_of b6 ?_;have id3:∀j,j<2→j∉AM r2:=λj hj h=>id0 j hj (b5 j h)
   have id4:so∉AM r2:=λh=>zid (b5 so h)
   have d0:H4[0]?=some (some (.cells [I size,w])):=by rw[b4 0 (by omega) (id0 0 (by omega))];exact z0
   have d1:H4[1]?=some (some (.cells [I 0,Ad])):=by rw[b4 1 (by omega) (id0 1 (by omega))];exact z1
   have d2:H4[so]?=some (some (.cells [I pos,I n])):=by rw[b4 so (by omega) zid];exact z2
   have hr2:=AD b1;rw[AK (n:=1) (off:=1) (xs:=[r2]) (cs:=[I size,w]) (Bs hr2) d0 rfl (by simp)];have hfl:(l.filter λx=>!gone pos n x.no).length≤l.length:=An5 _ _
   have hfm:∀x∈(l.filter λx=>!gone pos n x.no),0≤x.no∧x.no<137438953472:=λx hx=>by
    have:=hno x (Ap9.1 hx).1;omega
   have hte:Fr l pos n=(l.filter λx=>!gone pos n x.no).map λx=>C0 x pos (pos+n):=rfl
   generalize (l.filter λx=>!gone pos n x.no)=F at b2 hfl hfm hte;simp[show 0<H4.length by omega,By b2];have hsp:MaySpan ⟨pos,n⟩:=by simp only[MaySpan,May];omega
   refine TE (λt x3 x6 x8 x32 x33 H=>∃i:Nat,i+t=F.length∧x3=.ptr 0 0∧x6=.ptr 1 0∧x8=.ptr so 0∧x32=I F.length∧x33=I i∧H[0]?=some (some (.cells [I size,r2]))∧H[1]?=some (some (.cells [I 0,Ad]))∧H[so]?=some (some (.cells [I pos,I n]))∧
    Ac H 9 r2=some (((F.take i).map (λx=>C0 x pos (pos+n))++F.drop i).flatMap AB,((F.take i).map (λx=>C0 x pos (pos+n))++F.drop i).length)) ?_ F.length
    ⟨0,by omega,rfl,rfl,rfl,rfl,rfl,JY (by omega),(Cc (by omega)).trans d1,(Cc (by omega)).trans d2,?_⟩
   ·rintro t x3 x6 x8 x32 x33 H R hR ⟨i,hi,rfl,rfl,rfl,rfl,rfl,e0,e1,e2,e3⟩
    unfold Pj;have hH0:=(BE.1 e0).1;have hH1:=(BE.1 e1).1;have hH2:=(BE.1 e2).1;rcases Ai0 i F.length with hlt | hge
    ·have hx:=DD hlt
     generalize F[i]=x at hx;obtain⟨x0,x1⟩:=hfm x (Ah7 hx);obtain⟨p,H',f1,f2,f3,f4,f5⟩:=uT (s:=⟨pos,n⟩) e3 b1 (tQ hx) (a:=i) rfl hsp x0 x1;rw[map_set (f:=λx=>C0 x pos (pos+n)) hx]at f5;simp[hlt,e0,e2,f1,Ax];refine bC_of f2 ?_;simp[Au (a:=i) (b:=1) (by omega) (by omega)];refine hR (t - 1) _ _ _ _ _ _ (by omega) ⟨i+1,by omega,rfl,rfl,rfl,rfl,rfl,by rw[f4 0 hH0 (id3 0 (by omega))];exact e0,by rw[f4 1 hH1 (id3 1 (by omega))];exact e1,by rw[f4 so hH2 id4];exact e2,by rw[f5,ZZ,ZZ]⟩
    ·have:i=F.length:=by omega
     subst this;simp[e0,Ax];rw[AK (n:=2) (off:=0) (xs:=[I size,r2]) (cs:=[I 0,Ad]) (by simp[hr2]) e1 rfl (by simp)];simp[hH1];rw[Al2,Ap5,Al4,← hte]at e3
     exact ContK.some hw (Ae e3 λi hi=>by
      have h2:2≤i:=Al1 λh=>id3 i h hi
      rw[Cc (by omega)])
   ·simp only[Ao5,Ad2,Am5]
    exact Ae b2 λi hi=>by
     have h2:2≤i:=Al1 λh=>id3 i h hi
     rw[Cc (by omega)]
  ·have hn:CM (size,l) pos n=none:=if_neg (λh=>h2 h.2)
   simp[h2,AP];exact ContK.none hn
 ·have hn:CM (size,l) pos n=none:=if_neg (λh=>h1 h.1)
  simp[h1,AP];exact ContK.none hn
def Up (ns:List Nm)(s t:List UInt8):Prop:=Be Nm.name ns s∧DE t∧s≠t
instance (ns:List Nm) (s t:List UInt8):Decidable (Up ns s t):=by unfold Up;infer_instance
def iL (ns:List Nm)(s t:List UInt8):List Nm:=if Up ns s t then Gc Bk Nm.name (FI (D3 Bk Nm.name ns s) t) ⟨t,Db ns s⟩else ns
def iK (ns:List Nm)(dv:List NdV)(s t:List UInt8):List NdV:=if Up ns s t then Uo (D3 Bk Nm.name ns s) dv t else dv
theorem xH {ns:List Nm}{t:List UInt8}(h:Cx Bk Nm.name ns):Cx Bk Nm.name (FI ns t):=by
 unfold FI
 split
 ·exact EY h
 ·exact h
theorem xG {ns:List Nm}{t:List UInt8}:(FI ns t).length≤ns.length:=by
 unfold FI
 split
 ·exact delK_sub.length_le
 ·exact Ah9 _
theorem zdejZ {L oi:Nat}{ns:List Nm}{dv:List NdV}{a b:AV}{H:AH}{s t:List UInt8}(h:ImH L oi ns dv a b H)(hs:Cx Bk Nm.name ns)(hd:Cx BP NdV.ino dv)(hx:∀x∈ns,Be NdV.ino dv x.ino)(hn:ns.length≤100000)(hm:dv.length≤100000)(ht:t.length≤1000000000):
  ∃r H',zdimZ L oi H (iL ns s t) (iK ns dv s t) r H'∧BCall prog 147 [.ptr oi 0,S (B9 s),S (B9 t)] H r H':=ZH (by
 obtain⟨Ra,Rb,sa,sb,fz⟩:=h.lend;have c0:=h.obj;unfold Xj;have b0:∀a b:AV,Ax true 2 [a,b] 0=some (.agg [a,b]):=λ_ _=>rfl
 have hno:¬Up ns s t→zdimZ L oi H (iL ns s t) (iK ns dv s t) (.tup []) H:=λhc=>by
  unfold iL iK;rw[if_neg hc,if_neg hc];exact⟨rfl,a,b,h,FrL.refl _ _ _⟩
 simp[c0,b0];refine bC_of (PCall.lend (FZs.cons fz (FZs.cons (FZ.lit _) FZs.nil)) rfl (Xv sa sb hs (by omega) s)).call ?_
 by_cases q1:Be Nm.name ns s
 ·simp[q1]
  refine Ay (Qn (s:=t) (by omega)) ?_
  by_cases q2:DE t
  ·by_cases q3:s=t
   ·simp[q2,Nh,q3]
    rw[← q3]at hno⊢;exact hno λhc=>hc.2.2 rfl
   ·have hc:Up ns s t:=⟨q1,q2,q3⟩
    unfold iL iK;rw[if_pos hc,if_pos hc];obtain⟨x,hx1,hx2,hx3⟩:=He koN hs q1;obtain⟨o,off,cells,u1,u2,u3,u4,u5,-⟩:=Uk BT (by omega) h.sa h.oa hx1;have u51:=u5 1 (by omega);have hpl:=(BE.1 hx1).1;have e1:Db ns s=x.ino:=by unfold Db;rw[hx2]
    simp[q2,Nh,q3,c0,u1,u3,u51,Cb,Au (a:=(Dr Bk Nm.name ns s:Nat)) (b:=1) (by omega) (by omega)];obtain⟨r1,H2,⟨d1,d2,d3,d4,d5,d6⟩,d7⟩:=zQ h.sa h.oa h.ca hpl (by omega);refine bC_of d7 ?_;have l1:=Ty (c:=Bk) (key:=Nm.name) (k:=s) hpl;obtain⟨H3,e3,n1,n2⟩:=h.newA (ms:=D3 Bk Nm.name ns s) (As5 d3.symm) (λi _ hi=>d4 i hi) (by rw[show(D3 Bk Nm.name ns s).length=ns.length - 1 by omega];exact d2) d1 (by rw[show(D3 Bk Nm.name ns s).length=ns.length - 1 by omega];exact d6) (λi hi=>.inl (d5▸hi));simp[e3];have hs1:Cx Bk Nm.name (D3 Bk Nm.name ns s):=EY hs;obtain⟨r4,H4,⟨rfl,a4,b4,m1,m2⟩,m3⟩:=oZ (s:=t) n1 hs1 hd (λy hy=>hx y (delK_sub.subset hy)) (by omega) hm;refine bC_of m3 ?_;have c4:=m1.obj;obtain⟨Sa,Sb,ta,tb,gz⟩:=m1.lend;have hs2:=xH (t:=t) hs1;have hl2:=xG (ns:=D3 Bk Nm.name ns s) (t:=t);simp[c4,b0];refine bC_of (PCall.lend (FZs.cons gz (FZs.cons (FZ.lit _) FZs.nil)) rfl (Xv ta tb hs2 (by omega) t)).call ?_;have g5:=Grew.app H4 [some (.cells (Cb ⟨t,x.ino⟩))];have m5:=m1.grew g5;have e5:D9 H4 2 1 (B4 [(.lit (.string ⟨#[]⟩)),(I 0)] 1) [(0,2,.agg (Cb ⟨t,x.ino⟩))]=some (.sl H4.length 0 1 2 (.ex 1),H4++[some (.cells (Cb ⟨t,x.ino⟩))]):=rfl;have e6:En [(.lit (.string ⟨#[]⟩)),(I 0)] [(0,1,S (B9 t)),(1,1,I x.ino)]=some (.agg (Cb ⟨t,x.ino⟩)):=rfl;simp[c4];obtain⟨r7,H7,⟨k1,k2,k3,k4,k5,k6⟩,k7⟩:=zddbZ (x:=⟨t,x.ino⟩) (oj:=H4.length) m5.sa m5.oa m5.ca (aB (c:=Bk) (key:=Nm.name) _ t) (by omega) (by simp) (λhh=>by have:=Az m1.sa _ hh;omega);refine bC_of k7 ?_;have el:=Ua (c:=Bk) (key:=Nm.name) (l:=FI (D3 Bk Nm.name ns s) t) (x:=⟨t,x.ino⟩);obtain⟨H8,e8,p1,p2⟩:=m5.newA (ms:=Gc Bk Nm.name (FI (D3 Bk Nm.name ns s) t) ⟨t,x.ino⟩) k3 k4 (by rw[el];exact k2) k1 (by rw[el];exact k6) k5;simp[e8];rw[e1];have hle:=m1.len;exact⟨rfl,_,_,p1,n2.trans (m2.trans ⟨Aj0 g5.1 p2.1,λj h1 h2=>(p2.2 j h1 h2).trans (g5.2 j (by omega))⟩)⟩
  ·simp[q2]
   exact hno λhc=>q2 hc.2.1
 ·simp[q1]
  exact hno λhc=>q1 hc.1)
def GZ (o:OpM)(d:Nd):Option Lv:=if o.kind=2 then Dx (d.size,d.l) o.pos o.b else if o.kind=3 then Cl (d.size,d.l) o.size else if o.kind=4 then Cj (d.size,d.l) o.pos o.size o.keep else if o.kind=5 then CM (d.size,d.l) o.pos o.size else none
def PN (ds:List Nd)(o:OpM):List Nd:=match qJ Nd.ino ds o.ino with
 | some d=>match GZ o d with
  | some c=>ds.set (Dr BP Nd.ino ds o.ino) ⟨d.ino,c.1,c.2⟩
  | none=>ds
 | none=>ds
theorem nC {L oi k q:Nat}{ns:List Nm}{dv:List NdV}{a b R:AV}{H:AH}{x:NdV}{sz:Int}{l:List Ext}(h:ImH L oi ns dv a b H)(hx:dv[k]?=some x)(hR:SV AB 9 l R)(hq:H[q]?=some (some (.cells [I sz,R])))(ok:Bool):
  ∃H',ImH L oi ns (if ok=true then dv.set k ⟨⟨x.nd.ino,sz,l⟩,R,hR⟩else dv) a b H'∧FrL L oi H H'∧∀K:AV→AH→Prop,K (.tup []) H'→Dz (.ptr oi 0) (I k) (B ok) (.ptr q 0) H K:=by
 cases ok with
 | false=>
  refine⟨H,h,FrL.refl _ _ _,λK hK=>?_⟩;rw[NL];unfold Kb;rw[MK];unfold Jl
  simpa using hK
 | true=>
  obtain⟨o,off,cells,u1,u2,u3,u4,u5,u6⟩:=Uk BL (by omega) h.sb h.ob hx;have oL:=h.ib o u2;have hoo:o≠oi:=λe=>h.noB (e▸u2)
  have hle:=h.len;have o2:=SV.oneA hR;have c0:=h.obj;have hol:=(BE.1 u3).1
  have e1:AP 2 H (.ptr o (off+1)) (.agg [I sz,R])=some (H.set o (some (.cells (Bm cells (off+1) [I sz,R])))):=by
   rw[AK (n:=2) (xs:=[I sz,R]) (by simp[o2]) u3 rfl (by omega)]
  refine⟨H.set o (some (.cells (Bm cells (off+1) [I sz,R]))),⟨?_,h.lo,by simp;omega,?_,h.oa,h.ca,h.ia,?_,h.ob,by simpa using h.cb,h.ib,h.ab⟩,⟨by simp,λj h1 h2=>Cc (by omega)⟩,λK hK=>?_⟩
  ·rw[Cc (by omega)];exact c0
  ·exact Ae h.sa λi hi=>Cc (fun (e:o=i)=>h.ab i hi (e▸u2))
  ·have:=u6 ⟨⟨x.nd.ino,sz,l⟩,R,hR⟩ 1 [I sz,R] rfl (by simp)
   simpa using this
  ·rw[NL];unfold Kb
   rw[MK];unfold Jl;have b0:Ax true 2 [I sz,R] 0=some (.agg [I sz,R]):=rfl;simp only[Aj,As];have e3:Ap false 1 H (.ptr oi 1)=some b:=by rw[Ai c0];rfl
   have e4:Ap true 2 H (.ptr q 0)=some (.agg [I sz,R]):=by rw[Ai hq];rfl
   show bO (some (AV.ptr oi 0)) _
   simp only[Aa]
   show bO (some (AV.ptr oi 1)) _
   simp only[Aa,e3,e4,u1]
   show bO (some (AV.ptr o (off+1))) _
   simp only[Aa,e1,AF];exact hK
def ChP (L oi:Nat)(H:AH)(ns:List Nm)(ds:List Nd)(r:AV)(H':AH):Prop:=r=.tup []∧∃a b dv,dv.map NdV.nd=ds∧ImH L oi ns dv a b H'∧FrL L oi H H'
abbrev Au7:=@Option.isSome_some
theorem zE {L oi:Nat}{ns:List Nm}{dv:List NdV}{a b bv:AV}{H:AH}{o:OpM}(h:ImH L oi ns dv a b H)(hs:Cx Bk Nm.name ns)(hd:Cx BP NdV.ino dv)(hb:SV FB 1 o.b bv)(hm:dv.length≤100000)(hbl:o.b.length≤281474976710656)(hl:∀d∈dv,d.nd.l.length≤1000000)(hk:o.kind=2∨o.kind=3∨o.kind=4∨o.kind=5):
  ∃r H',ChP L oi H ns (PN (dv.map NdV.nd) o) r H'∧BCall prog 146 [.ptr oi 0,.agg (BD o bv)] H r H':=ZC (by
 obtain⟨H1,e1,hp,h1,f1⟩:=zddvZ h o (SV.oneA hb);obtain⟨Ra,Rb,sa,sb,fz⟩:=h1.lend;have c0:=h1.obj;unfold Xf;simp only[e1,A6];have b0:Ax true 2 [a,b] 0=some (.agg [a,b]):=rfl;simp[hp,c0,b0,BD];refine bC_of (PCall.lend (FZs.cons fz (FZs.cons (FZ.lit _) FZs.nil)) rfl (dL sa sb hd (by omega) o.ino)).call ?_
 by_cases q1:Be NdV.ino dv o.ino
 ·obtain⟨x,hx1,hx2,hx3⟩:=He koI hd q1
  obtain⟨oo,off,cells,u1,u2,u3,u4,u5,u6⟩:=Uk BL (by omega) h1.sb h1.ob hx1;have hxl:=hl x (Ah7 hx1)
  have rd1:Ax true 2 cells (off+1)=some (.agg [I x.nd.size,x.R]):=by
   have e51:=u5 1 (by omega);have e52:=u5 2 (by omega);have l2:off+1+2≤cells.length:=by omega
   have:(cells.drop (off+1)).take 2=[I x.nd.size,x.R]:=by
    rw[Am8 (by omega),Am8 (by omega)];rw[DD (by omega)]at e51 e52;simp[Cw]at e51 e52;simp[e51,e52]
   simp[Ax,l2,this]
  have o1:=SV.oneA x.h
  have fin:∀(res:Option Lv) (R:AV) (Hc:AH) (sR:SV AB 9 (cL res) R),GZ o x.nd=res→ImH L oi ns dv a b Hc→FrL L oi H1 Hc→∀q,Hc[q]?=some (some (.cells [I (cS res),R]))→Dz (.ptr oi 0) (I (Dr BP NdV.ino dv o.ino)) (B res.isSome) (.ptr q 0) Hc (ChP L oi H ns (PN (dv.map NdV.nd) o)):=by
   intro res R Hc sR hr hc fc q hq;obtain⟨H9,w1,w2,w3⟩:=nC hc hx1 sR hq res.isSome;refine w3 _ ⟨rfl,_,_,_,?_,w1,f1.trans (fc.trans w2)⟩;unfold PN;rw[ZU hx2];simp only[hr];cases res with
   | none=>rfl
   | some c=>
    simp only[Au7,if_true,As6,NO];rfl
  simp[q1,c0,u1,u3,rd1]
  obtain⟨H2,e2,hq2,hp2,h2,f2⟩:∃H2,AP 2 (H1++[some (.cells [I 0,Ad])]) (.ptr H1.length 0) (.agg [I x.nd.size,x.R])=some H2∧H2[H1.length]?=some (some (.cells [I x.nd.size,x.R]))∧H2[H.length]?=some (some (.cells (BD o bv)))∧ImH L oi ns dv a b H2∧FrL L oi H1 H2:=by
   have g:=Grew.app H1 [some (.cells [I x.nd.size,x.R])];have hle:=h1.len;exact⟨_,by simp[AP,Bm,o1],by simp,g.cells hp,h1.grew g,g.1,λj i1 i2=>g.2 j (by omega)⟩
  have hol2:=(BE.1 hq2).1;have hql:L≤H1.length:=h1.len
  have put:∀(sz:Int) (R:AV),oneA R=true→AP 2 H2 (.ptr H1.length 0) (.agg [I sz,R])=some (H2.set H1.length (some (.cells [I sz,R])))∧ImH L oi ns dv a b (H2.set H1.length (some (.cells [I sz,R])))∧FrL L oi H1 (H2.set H1.length (some (.cells [I sz,R])))∧(H2.set H1.length (some (.cells [I sz,R])))[H1.length]?=some (some (.cells [I sz,R])):=by
   intro sz R hR;have hlo:=(BE.1 h1.obj).1;refine⟨?_,⟨?_,h2.lo,by simpa using h2.len,?_,h2.oa,h2.ca,h2.ia,?_,h2.ob,h2.cb,h2.ib,h2.ab⟩,⟨by simpa using f2.1,λj i1 i2=>?_⟩,by simp[hol2]⟩
   ·rw[AK (n:=2) (off:=0) (xs:=[I sz,R]) (by simp[hR]) hq2 rfl (by simp)];rfl
   ·rw[Cc (by omega)];exact h2.obj
   ·exact Ae h2.sa λi hi=>Cc (by have:=Az h1.sa i hi;omega)
   ·exact Ae h2.sb λi hi=>Cc (by have:=Az h1.sb i hi;omega)
   ·rw[Cc (by omega)];exact f2.2 j i1 i2
  have b1:∀(s:Int) (R:AV),Ax true 2 [I s,R] 0=some (.agg [I s,R]):=λ_ _=>rfl
  simp[e2,hp2,BD];rcases hk with hk | hk | hk | hk
  ·simp[hk,hq2,b1]
   obtain⟨R,s1,p1⟩:=cB x.h hxl o.pos hb hbl;refine Ay p1 ?_;obtain⟨t1,t2,t3,t4⟩:=put (cS (Dx (x.nd.size,x.nd.l) o.pos o.b)) R (SV.oneA s1);simp[t1];exact fin _ R _ s1 (by unfold GZ;rw[if_pos hk]) t2 t3 _ t4
  ·simp[hk,hq2,b1]
   obtain⟨R,s1,p1⟩:=Pn (size0:=x.nd.size) x.h hxl o.size;refine Ay p1 ?_;obtain⟨t1,t2,t3,t4⟩:=put (cS (Cl (x.nd.size,x.nd.l) o.size)) R (SV.oneA s1);simp[t1];exact fin _ R _ s1 (by unfold GZ;rw[if_neg (by omega),if_pos hk]) t2 t3 _ t4
  ·simp[hk,hq2,b1]
   obtain⟨R,s1,p1⟩:=Pi (size:=x.nd.size) x.h hxl o.pos o.size o.keep;refine Ay p1 ?_;obtain⟨t1,t2,t3,t4⟩:=put (cS (Cj (x.nd.size,x.nd.l) o.pos o.size o.keep)) R (SV.oneA s1);simp[t1];exact fin _ R _ s1 (by unfold GZ;rw[if_neg (by omega),if_neg (by omega),if_pos hk]) t2 t3 _ t4
  ·simp[hk,hq2,b1]
   obtain⟨R,s1,p1⟩:=TG (size:=x.nd.size) x.h hxl o.pos o.size;refine Ay p1 ?_;obtain⟨t1,t2,t3,t4⟩:=put (cS (CM (x.nd.size,x.nd.l) o.pos o.size)) R (SV.oneA s1);simp[t1];exact fin _ R _ s1 (by unfold GZ;rw[if_neg (by omega),if_neg (by omega),if_neg (by omega),if_pos hk]) t2 t3 _ t4
 ·simp[q1]
  refine⟨rfl,a,b,dv,?_,h1,f1⟩;unfold PN;rw[aR (λhh=>q1 (Ka.1 hh))])
theorem zL {H:AH}{v:AV}{cs:List AV}{n:Nat}(h:Ac H 2 v=some (cs,n))(hn:n≤1000000000):
  ∃r H',(AZ r=true∧Ac H' 2 r=some (cs,n)∧Grew H H'∧(∀i∈AM r,H.length≤i)∧CS r n)∧BCall prog 115 [v] H r H':=Jq (by
 unfold Fk;rcases L0 h with⟨rfl,rfl,rfl⟩ | hb
 ·have e:ZQ .eql RV Ad Ad=some (B true):=rfl
  simp only[e,Aa6,As];exact⟨rfl,h,Grew.refl H,by simp[AM],by simp[CS]⟩
 ·simp only[hb,Aa6,Ak]
  have e:D9 H 2 0 (B4 [(.lit (.string ⟨#[]⟩)),(I 0)] 0) []=some (.sl H.length 0 0 2 (.ex 0),H++[some (.cells [])]):=rfl;simp only[e,A6];have g:=Grew.app H [some (.cells [])];have h0:Ac (H++[some (.cells [])]) 2 (.sl H.length 0 0 2 (.ex 0))=some ([],0):=by simp[Ac]
  obtain⟨r,H2,a1,a2,a3,a4,a5,a6⟩:=BX (sz:=2) (bytes:=24) (H:=H++[some (.cells [])]) (v:=.sl H.length 0 0 2 (.ex 0)) (cs:=[]) (n:=0) h0 rfl (A1 (g.slice h)) (by omega);have a7:=RB h0 rfl (A1 (g.slice h)) (by simp[CS]) a1;simp only[a1,A6];refine⟨a2,by simpa using a3,⟨by simp at a4;omega,λi hi=>?_⟩,λi hi=>?_,by simpa using a7⟩
  ·rw[a5 i (by simp;omega) (by simp[AM];omega)]
   exact g.2 i hi
  ·rcases a6 i hi with h | h
   ·simp[AM]at h;omega
   ·simp at h;omega)
theorem zI {H:AH}{v:AV}{cs:List AV}{n:Nat}(h:Ac H 3 v=some (cs,n))(hn:n≤1000000000):
  ∃r H',(AZ r=true∧Ac H' 3 r=some (cs,n)∧Grew H H'∧(∀i∈AM r,H.length≤i)∧CS r n)∧BCall prog 116 [v] H r H':=Jr (by
 unfold Fl;rcases L0 h with⟨rfl,rfl,rfl⟩ | hb
 ·have e:ZQ .eql RV Ad Ad=some (B true):=rfl
  simp only[e,Aa6,As];exact⟨rfl,h,Grew.refl H,by simp[AM],by simp[CS]⟩
 ·simp only[hb,Aa6,Ak]
  have e:D9 H 3 0 (B4 [(I 0),(I 0),Ad] 0) []=some (.sl H.length 0 0 3 (.ex 0),H++[some (.cells [])]):=rfl;simp only[e,A6];have g:=Grew.app H [some (.cells [])];have h0:Ac (H++[some (.cells [])]) 3 (.sl H.length 0 0 3 (.ex 0))=some ([],0):=by simp[Ac]
  obtain⟨r,H2,a1,a2,a3,a4,a5,a6⟩:=BX (sz:=3) (bytes:=40) (H:=H++[some (.cells [])]) (v:=.sl H.length 0 0 3 (.ex 0)) (cs:=[]) (n:=0) h0 rfl (A1 (g.slice h)) (by omega);have a7:=RB h0 rfl (A1 (g.slice h)) (by simp[CS]) a1;simp only[a1,A6];refine⟨a2,by simpa using a3,⟨by simp at a4;omega,λi hi=>?_⟩,λi hi=>?_,by simpa using a7⟩
  ·rw[a5 i (by simp;omega) (by simp[AM];omega)]
   exact g.2 i hi
  ·rcases a6 i hi with h | h
   ·simp[AM]at h;omega
   ·simp at h;omega)
structure OwI (L:Nat)(ns:List Nm)(dv:List NdV)(a b:AV)(H:AH):Prop where
 sa:Ac H 2 a=some (ns.flatMap Cb,ns.length)
 oa:AZ a=true
 ca:CS a ns.length
 ia:∀i∈AM a,L≤i
 sb:Ac H 3 b=some (dv.flatMap Cw,dv.length)
 ob:AZ b=true
 cb:CS b dv.length
 ib:∀i∈AM b,L≤i
 ab:∀i∈AM a,i∉AM b
def zdhqZ (H:AH)(ns:List Nm)(ds:List Nd)(r:AV)(H':AH):Prop:=∃a b dv,r=.agg [a,b]∧dv.map NdV.nd=ds∧Grew H H'∧OwI H.length ns dv a b H'
theorem ImH.putD {L oi k:Nat}{ns:List Nm}{dv:List NdV}{a b R:AV}{H:AH}{x:NdV}{sz:Int}{l:List Ext}(h:ImH L oi ns dv a b H)(hx:dv[k]?=some x)(hR:SV AB 9 l R):
  ∃o off cells H',Bo 3 b (I k)=some (.ptr o off)∧H[o]?=some (some (.cells cells))∧Ax true 2 cells (off+1)=some (.agg [I x.nd.size,x.R])∧AP 2 H (.ptr o (off+1)) (.agg [I sz,R])=some H'∧ImH L oi ns (dv.set k ⟨⟨x.nd.ino,sz,l⟩,R,hR⟩) a b H'∧FrL L oi H H':=by
 obtain⟨o,off,cells,u1,u2,u3,u4,u5,u6⟩:=Uk BL (by omega) h.sb h.ob hx;have oL:=h.ib o u2;have hoo:o≠oi:=λe=>h.noB (e▸u2)
 have hle:=h.len;have o2:=SV.oneA hR;have hol:=(BE.1 u3).1
 have rd1:Ax true 2 cells (off+1)=some (.agg [I x.nd.size,x.R]):=by
  have e51:=u5 1 (by omega);have e52:=u5 2 (by omega);have l2:off+1+2≤cells.length:=by omega
  have:(cells.drop (off+1)).take 2=[I x.nd.size,x.R]:=by
   rw[Am8 (by omega),Am8 (by omega)];rw[DD (by omega)]at e51 e52;simp[Cw]at e51 e52;simp[e51,e52]
  simp[Ax,l2,this]
 refine⟨o,off,cells,H.set o (some (.cells (Bm cells (off+1) [I sz,R]))),u1,u3,rd1,?_,⟨?_,h.lo,by simp;omega,?_,h.oa,h.ca,h.ia,?_,h.ob,by simpa using h.cb,h.ib,h.ab⟩,⟨by simp,λj h1 h2=>Cc (by omega)⟩⟩
 ·rw[AK (n:=2) (xs:=[I sz,R]) (by simp[o2]) u3 rfl (by omega)]
 ·rw[Cc (by omega)];exact h.obj
 ·exact Ae h.sa λi hi=>Cc (fun (e:o=i)=>h.ab i hi (e▸u2))
 ·have:=u6 ⟨⟨x.nd.ino,sz,l⟩,R,hR⟩ 1 [I sz,R] rfl (by simp)
  simpa using this
theorem xT {H:AH}{ns:List Nm}{dv:List NdV}{a b:AV}(sa:SV Cb 2 ns a)(sb:SV Cw 3 dv b)(hn:ns.length≤100000)(hm:dv.length≤100000)(hl:∀d∈dv,d.nd.l.length≤1000000):
  ∃r H',zdhqZ H ns (dv.map NdV.nd) r H'∧BCall prog 64 [.agg [a,b]] H r H':=fJ (by
 unfold cV;have oa:=SV.oneA sa;have ob:=SV.oneA sb
 obtain⟨H3,e3,c0,c1,g3,l3⟩:∃H3,AC (H++[some (.cells [a,b])]) (.agg [Ad,Ad])=some (.ptr (H.length+1) 0,H3)∧H3[H.length]?=some (some (.cells [a,b]))∧H3[H.length+1]?=some (some (.cells [Ad,Ad]))∧Grew H H3∧H3.length=H.length+2:=by
  refine⟨H++[some (.cells [a,b]),some (.cells [Ad,Ad])],by simp,by simp,by rw[Ai1 (by omega)];simp,Grew.app _ _,by simp⟩
 simp[oa,ob,e3,c0];obtain⟨ra,H7,⟨p1,p2,p3,p4,p5⟩,p6⟩:=zL (sa.2 H3) (by omega);refine bC_of p6 ?_;have c7:=p3.cells c0;simp[c7];obtain⟨rb,H11,⟨q1,q2,q3,q4,q5⟩,q6⟩:=zI (sb.2 H7) (by omega);refine bC_of q6 ?_;have c8:=q3.cells c7;have ra1:=AD p1;have rb1:=AD q1;have l7:=p3.1;have l11:=q3.1
 have i0:ImH (H.length+2) H.length ns dv ra rb (H11.set H.length (some (.cells [ra,rb]))):=by
  refine⟨by rw[JY (by omega)],⟨λq=>by have:=p4 _ q;omega,λq=>by have:=q4 _ q;omega⟩,by rw[Aj6];omega,?_,p1,p5,λi hi=>by have:=p4 i hi;omega,?_,q1,q5,λi hi=>by have:=q4 i hi;omega,λi hi hh=>?_⟩
  ·exact Ae (q3.slice p2) λi hi=>Cc (by have:=p4 i hi;omega)
  ·exact Ae q2 λi hi=>Cc (by have:=q4 i hi;omega)
  ·have:=q4 i hh;have:=Az p2 i hi;omega
 have e13:AP 2 H11 (.ptr H.length 0) (.agg [ra,rb])=some (H11.set H.length (some (.cells [ra,rb]))):=by
  rw[AK (n:=2) (off:=0) (xs:=[ra,rb]) (by simp[ra1,rb1]) c8 rfl (by simp)];rfl
 have g13:Grew H (H11.set H.length (some (.cells [ra,rb]))):=⟨by simp;omega,λi hi=>by rw[Cc (by omega),(g3.trans (p3.trans q3)).2 i hi]⟩
 have c13:(H11.set H.length (some (.cells [ra,rb])))[H.length+1]?=some (some (.cells [Ad,Ad])):=by
  rw[Cc (by omega)];exact q3.cells (p3.cells c1)
 generalize H11.set H.length (some (.cells [ra,rb]))=H13 at i0 e13 g13 c13;have d0:=i0.obj;simp[Bs ra1,Bs rb1,e13];have ln:=By i0.sb;simp[d0,ln];refine Wi (λn x1 x2 x13 x14 H'=>∃(k:Nat) (ew:List NdV),k+n=dv.length∧x1=.ptr H.length 0∧x2=.ptr (H.length+1) 0∧x13=I dv.length∧x14=I k∧ew.map NdV.nd=dv.map NdV.nd∧ImH (H.length+2) H.length ns ew ra rb H'∧Grew H H'∧H'[H.length+1]?=some (some (.cells [Ad,Ad]))) ?_ dv.length ⟨0,dv,by omega,rfl,rfl,rfl,rfl,rfl,i0,g13,c13⟩;rintro n x1 x2 x13 x14 H' R hR ⟨k,ew,hk,rfl,rfl,rfl,rfl,hew,hi,hg,hc⟩;unfold S3;have el:ew.length=dv.length:=by have:=congrArg List.length hew;simpa using this
 have e0:=hi.obj;rcases Ai0 k dv.length with h | h
 ·have hx:=DD (l:=ew) (i:=k) (by omega)
  generalize ew[k]=x at hx
  have hxl:x.nd.l.length≤1000000:=by
   have h1:x.nd∈ew.map NdV.nd:=Ak1 (Ah7 hx);rw[hew]at h1;obtain⟨d,hd,e⟩:=Ak7.1 h1;rw[← e];exact hl d hd
  obtain⟨R2,s2,p2⟩:=nE (size:=x.nd.size) x.h (by omega);obtain⟨o,off,cells,H2,w1,w2,w3,w4,w5,w6⟩:=hi.putD (sz:=x.nd.size) hx s2;simp[h,e0,w1,w2,w3];refine bP_of p2 ?_;simp[w4,Au (a:=k) (b:=1) (by omega) (by omega)];refine hR (n - 1) _ _ _ _ _ (by omega) ⟨k+1,_,by omega,rfl,rfl,rfl,by simp,?_,w5,⟨by have:=hg.1;have:=w6.1;omega,λi hi2=>by rw[w6.2 i (by omega) (by omega),hg.2 i hi2]⟩,by rw[w6.2 _ (by omega) (by omega)];exact hc⟩;rw[← hew,As6];refine Ak5 λj=>?_
  rw[Am7]
  split
  ·rename_i hj
   subst hj;rw[Aj3,hx]
   simp;omega
  ·rfl
 ·have b0:Ax true 2 [ra,rb] 0=some (.agg [ra,rb]):=rfl
  have hcl:=(BE.1 hc).1
  have e5:AP 2 H' (.ptr (H.length+1) 0) (.agg [ra,rb])=some (H'.set (H.length+1) (some (.cells [ra,rb]))):=by
   rw[AK (n:=2) (off:=0) (xs:=[ra,rb]) (by simp[ra1,rb1]) hc rfl (by simp)];rfl
  simp[show ¬k<dv.length by omega,e0,b0,e5,hcl];refine⟨ra,rb,ew,rfl,hew,⟨by simpa using hg.1,λi hi2=>by rw[Cc (by omega),hg.2 i hi2]⟩,⟨?_,hi.oa,hi.ca,λi q=>by have:=hi.ia i q;omega,?_,hi.ob,hi.cb,λi q=>by have:=hi.ib i q;omega,hi.ab⟩⟩
  ·exact Ae hi.sa λi q=>Cc (by have:=hi.ia i q;omega)
  ·exact Ae hi.sb λi q=>Cc (by have:=hi.ib i q;omega))
def nH (ns:List Nm)(ds:List Nd)(o:OpM):Prop:=¬Be Nm.name ns o.name∧¬Be Nd.ino ds o.ino∧DE o.name∧1≤o.ino∧o.ino≤4611686018427387904∧ns.length<16
instance (ns:List Nm) (ds:List Nd) (o:OpM):Decidable (nH ns ds o):=by unfold nH;infer_instance
def ZL (ns:List Nm)(ds:List Nd)(s:List UInt8):List Nd:=if Be Nm.name ns s then D3 BP Nd.ino ds (Db ns s)else ds
def Bi (ns:List Nm)(ds:List Nd)(o:OpM):List Nm×List Nd:=
 if EO ns ds then
  if o.kind=1 then(if nH ns ds o then(Gc Bk Nm.name ns ⟨o.name,o.ino⟩,Gc BP Nd.ino ds ⟨o.ino,0,[]⟩)else(ns,ds))
  else if o.kind=2∨o.kind=3∨o.kind=4∨o.kind=5 then(ns,PN ds o)
  else if o.kind=6 then(if Up ns o.name o.to then(Gc Bk Nm.name (FI (D3 Bk Nm.name ns o.name) o.to) ⟨o.to,Db ns o.name⟩,ZL (D3 Bk Nm.name ns o.name) ds o.to)else(ns,ds))
  else if o.kind=7 then(FI ns o.name,ZL ns ds o.name)
  else(ns,ds)
 else(ns,ds)
abbrev Av1:=@List.map_take
abbrev Av2:=@List.map_drop
theorem nW {dv:List NdV}{i:Int}:(Gc BP NdV.ino dv (GV i)).map NdV.nd=Gc BP Nd.ino (dv.map NdV.nd) ⟨i,0,[]⟩:=by
 unfold Gc;rw[NO,Ak2,Ao8,Av1,Av2];rfl
theorem nK {dv:List NdV}{k:Int}:(D3 BP NdV.ino dv k).map NdV.nd=D3 BP Nd.ino (dv.map NdV.nd) k:=by
 unfold D3;rw[NO,Ak2,Av1,Av2]
theorem YD {ns:List Nm}{dv:List NdV}{s:List UInt8}:(Uo ns dv s).map NdV.nd=ZL ns (dv.map NdV.nd) s:=by
 unfold Uo ZL
 split
 ·exact nK
 ·rfl
theorem gM {ns:List Nm}{dv:List NdV}{o:OpM}:nH ns (dv.map NdV.nd) o↔Vu ns dv o:=by
 unfold nH Vu;rw[Ka]
def zdhnZ (p:List Nm×List Nd)(r:AV)(X:AH):Prop:=∃R,FZ X r R∧ImV p.1 p.2 R
theorem Ny {ns:List Nm}{dv:List NdV}{a b:AV}{H:AH}{p:List Nm×List Nd}(h:ImH 3 0 ns dv a b H)(h2:H[2]?=some (some (.cells [Ad,Ad])))(hp:p=(ns,dv.map NdV.nd)):E0 (.ptr 0 0) (.ptr 2 0) H (zdhnZ p):=by
 rw[Pw];unfold Ly;have c0:=h.obj;have b0:Ax true 2 [a,b] 0=some (.agg [a,b]):=rfl;have ra1:=AD h.oa;have rb1:=AD h.ob;have hcl:=(BE.1 h2).1
 have e5:AP 2 H (.ptr 2 0) (.agg [a,b])=some (H.set 2 (some (.cells [a,b]))):=by
  rw[AK (n:=2) (off:=0) (xs:=[a,b]) (by simp[ra1,rb1]) h2 rfl (by simp)];rfl
 simp[c0,b0,e5,hcl];have h3:ImH 3 0 ns dv a b (H.set 2 (some (.cells [a,b]))):=⟨by rw[Cc (by omega)];exact c0,h.lo,by simpa using h.len,Ae h.sa λi q=>Cc (by have:=h.ia i q;omega),h.oa,h.ca,h.ia,Ae h.sb λi q=>Cc (by have:=h.ib i q;omega),h.ob,h.cb,h.ib,h.ab⟩;obtain⟨Ra,Rb,sa,sb,fz⟩:=h3.lend;subst hp;exact⟨_,fz,Ra,Rb,dv,rfl,sa,sb,rfl⟩
theorem iT {ns:List Nm}{ds:List Nd}{v bv:AV}{o:OpM}(hv:ImV ns ds v)(hb:Sm ns ds)(hbv:SV FB 1 o.b bv)(hbl:o.b.length≤281474976710656)(hn:o.name.length≤1000000000)(ht:o.to.length≤1000000000):
  ∃R,ImV (Bi ns ds o).1 (Bi ns ds o).2 R∧BPure prog 96 [v,.agg (BD o bv)] R:=by
 have hids:=hv.noIds;refine BPure.FZ (by simp[A5]at hids⊢;exact⟨hids,by simp[BD,noIds,A5,hbv.1]⟩) (cU (K:=zdhnZ (Bi ns ds o)) ?_);obtain⟨a,b,dv,rfl,sa,sb,rfl⟩:=hv;have b1:=hb.1;have b2:=hb.2.1;rw[Aj1]at b2;have oa:=SV.oneA sa;have ob:=SV.oneA sb;have o3:=SV.oneA hbv;unfold Zj;obtain⟨H5,e5,c0,c1,c2,l5⟩:∃H5,AC [some (.cells [a,b]),some (.cells (BD o bv))] (.agg [Ad,Ad])=some (.ptr 2 0,H5)∧H5[0]?=some (some (.cells [a,b]))∧H5[1]?=some (some (.cells (BD o bv)))∧H5[2]?=some (some (.cells [Ad,Ad]))∧H5.length=3:=
  ⟨[some (.cells [a,b]),some (.cells (BD o bv)),some (.cells [Ad,Ad])],by simp,rfl,rfl,rfl,rfl⟩
 have e4:AC [some (.cells [a,b])] (.agg (BD o bv))=some (.ptr 1 0,[some (.cells [a,b]),some (.cells (BD o bv))]):=by simp[BD,o3]
 have b0:∀x y:AV,Ax true 2 [x,y] 0=some (.agg [x,y]):=λ_ _=>rfl
 simp[oa,ob,e4,e5,c0,b0];obtain⟨r,H8,⟨a',b',ew,rfl,hew,hg,ow⟩,hc⟩:=xT (H:=H5) sa sb (by omega) b2 (λd hd=>hb.2.2.2 d.nd (Ak1 hd));refine bC_of hc ?_;have a1:=AD ow.oa;have a2:=AD ow.ob;have l8:=hg.1;rw[l5]at ow
 have e9:AP 2 H8 (.ptr 0 0) (.agg [a',b'])=some (H8.set 0 (some (.cells [a',b']))):=by
  rw[AK (n:=2) (off:=0) (xs:=[a',b']) (by simp[a1,a2]) (hg.cells c0) rfl (by simp)];rfl
 have i9:ImH 3 0 ns ew a' b' (H8.set 0 (some (.cells [a',b']))):=⟨by rw[JY (by omega)],⟨λq=>by have:=ow.ia _ q;omega,λq=>by have:=ow.ib _ q;omega⟩,by rw[Aj6];omega,Ae ow.sa λi q=>Cc (by have:=ow.ia i q;omega),ow.oa,ow.ca,ow.ia,Ae ow.sb λi q=>Cc (by have:=ow.ib i q;omega),ow.ob,ow.cb,ow.ib,ow.ab⟩;have k1:(H8.set 0 (some (.cells [a',b'])))[1]?=some (some (.cells (BD o bv))):=by rw[Cc (by omega)];exact hg.cells c1
 have k2:(H8.set 0 (some (.cells [a',b'])))[2]?=some (some (.cells [Ad,Ad])):=by rw[Cc (by omega)];exact hg.cells c2
 simp only[e9,AF];generalize H8.set 0 (some (.cells [a',b']))=H9 at i9 k1 k2;have d0:=i9.obj;obtain⟨Ra,Rb,ta,tb,fz⟩:=i9.lend;have hsm:Sm ns (ew.map NdV.nd):=by rw[hew];exact hb
 have keep:∀{H':AH},FrL 3 0 H9 H'→H'[2]?=some (some (.cells [Ad,Ad])):=λf=>by rw[f.2 2 (by omega) (by omega)];exact k2
 rw[← hew];have b8:Ax true 8 (BD o bv) 0=some (.agg (BD o bv)):=rfl;have el:ew.length=dv.length:=by have:=congrArg List.length hew;simpa using this
 have hlw:∀d∈ew,d.nd.l.length≤1000000:=λd hd=>hsm.2.2.2 d.nd (Ak1 hd)
 simp[d0,b0];refine bP_of (PCall.lend (FZs.cons fz FZs.nil) rfl (lY ⟨Ra,Rb,ew,rfl,ta,tb,rfl⟩ hsm)) ?_
 by_cases hm:EO ns (ew.map NdV.nd)
 ·have hs:=hm.1.2.2.1
  have hd:=OG.1 hm.2.2.1;have hx:∀x∈ns,Be NdV.ino ew x.ino:=λx hx=>Ka.1 ((Ue.1 hm).2.2.2.2.1 x hx)
  simp[hm,k1,BD]
  by_cases q1:o.kind=1
  ·have e:Bi ns (ew.map NdV.nd) o=(nI ns ew o,(nG ns ew o).map NdV.nd):=by
    unfold Bi nI nG;rw[if_pos hm,if_pos q1]
    by_cases hc:Vu ns ew o
    ·rw[if_pos hc,if_pos hc,if_pos (gM.2 hc),nW]
    ·rw[if_neg hc,if_neg hc,if_neg (λh=>hc (gM.1 h))]
   rw[decide_eq_true q1];simp only[As];obtain⟨r2,H2,⟨rfl,a3,b3,i3,f3⟩,w3⟩:=zM i9 hs hd o3 b1 (by omega) hn;refine bC_of w3 ?_;exact Ny i3 (keep f3) e
  ·have hJ8:∀t:Bool,(t=true↔(o.kind=2∨o.kind=3∨o.kind=4∨o.kind=5))→Fq (.ptr 0 0) (.ptr 1 0) (.ptr 2 0) (I o.kind) (B t) H9 (zdhnZ (Bi ns (ew.map NdV.nd) o)):=by
    intro t htt;rw[WY];unfold QB
    by_cases q2:o.kind=2∨o.kind=3∨o.kind=4∨o.kind=5
    ·rw[htt.2 q2]
     have e:Bi ns (ew.map NdV.nd) o=(ns,PN (ew.map NdV.nd) o):=by
      unfold Bi;rw[if_pos hm,if_neg q1,if_pos q2]
     simp[k1,b8];obtain⟨r2,H2,⟨rfl,a3,b3,dw,hdw,i3,f3⟩,w3⟩:=zE i9 hs hd hbv (by omega) hbl hlw q2;refine bC_of w3 ?_;exact Ny i3 (keep f3) (by rw[hdw];exact e)
    ·have:t=false:=by cases t with
      | true=>exact absurd (htt.1 rfl) q2
      | false=>rfl
     subst this;simp;rw[Wg];unfold Pu
     by_cases q6:o.kind=6
     ·have e:Bi ns (ew.map NdV.nd) o=(iL ns o.name o.to,(iK ns ew o.name o.to).map NdV.nd):=by
       unfold Bi iL iK;rw[if_pos hm,if_neg q1,if_neg q2,if_pos q6]
       by_cases hc:Up ns o.name o.to
       ·rw[if_pos hc,if_pos hc,if_pos hc,YD]
       ·rw[if_neg hc,if_neg hc,if_neg hc]
      simp[q6,k1,BD];obtain⟨r2,H2,⟨rfl,a3,b3,i3,f3⟩,w3⟩:=zdejZ (s:=o.name) (t:=o.to) i9 hs hd hx b1 (by omega) ht;refine bC_of w3 ?_;exact Ny i3 (keep f3) e
     ·simp[q6]
      rw[Wh];unfold Pv
      by_cases q7:o.kind=7
      ·have e:Bi ns (ew.map NdV.nd) o=(FI ns o.name,(Uo ns ew o.name).map NdV.nd):=by
        unfold Bi;rw[if_pos hm,if_neg q1,if_neg q2,if_neg q6,if_pos q7,YD]
       simp[q7,k1,BD];obtain⟨r2,H2,⟨rfl,a3,b3,i3,f3⟩,w3⟩:=oZ (s:=o.name) i9 hs hd hx b1 (by omega);refine bC_of w3 ?_;exact Ny i3 (keep f3) e
      ·have e:Bi ns (ew.map NdV.nd) o=(ns,ew.map NdV.nd):=by
        unfold Bi;rw[if_pos hm,if_neg q1,if_neg q2,if_neg q6,if_neg q7]
       simp[q7];exact Ny i9 k2 e
   simp[q1]
   by_cases w2:o.kind=2
   ·simp[w2]
    have:=hJ8 true (by simp[w2]);rwa[w2]at this
   ·by_cases w3:o.kind=3
    ·simp[w3]
     have:=hJ8 true (by simp[w3]);rwa[w3]at this
    ·by_cases w4:o.kind=4
     ·simp[w4]
      have:=hJ8 true (by simp[w4]);rwa[w4]at this
     ·simp[w2,w3,w4]
      exact hJ8 (decide (o.kind=5)) (by simp[w2,w3,w4])
 ·have e:Bi ns (ew.map NdV.nd) o=(ns,ew.map NdV.nd):=by unfold Bi;rw[if_neg hm]
  have:=Ny i9 k2 e
  rw[Pw]at this;unfold Ly at this;simp[d0,b0]at this;simp[hm];exact this
theorem nR {x y:Ext}{j:Nat}(hn:y.no=x.no)(hj:j<8)(h:∀k,k<8→y.b.getD k 0=if k=j then 0 else x.b.getD k 0):(AB x).set (1+j) u0Z=AB y:=by
 refine Ak5 λq=>?_
 rw[Am7];cases q with
 | zero=>rw[if_neg (by omega)];simp[AB,hn]
 | succ q=>
  by_cases hq:q<8
  ·rw[WJ _ hq,WJ _ hq,h q hq,AE]
   by_cases c:1+j=q+1
   ·rw[if_pos c,if_pos (by omega),if_pos (by omega)];rfl
   ·rw[if_neg c,if_neg (by omega)]
  ·rw[An1 (by rw[AE];omega),An1 (by rw[AE];omega),AE]
   rw[if_neg (by omega)]
theorem UN {x:Ext}{a b:Int}(h:b≤a∨b≤x.no*8∨x.no*8+8≤a):C0 x a b=x:=VZ rfl λk hk=>by rw[Dl hk,if_neg (by omega)]
def BuildP (a v:AV)(s:Int)(F:List Ext)(w:AV)(H:AH):Prop:=
 H[0]?=some (some (.cells [a,v]))∧H[1]?=some (some (.cells [I 0,Ad]))∧H[2]?=some (some (.cells [I s,w]))∧Ac H 9 w=some (F.flatMap AB,F.length)∧AZ w=true∧∀j,j<3→j∉AM w
theorem BuildP.grew {a v w:AV}{s:Int}{F:List Ext}{H H':AH}(h:BuildP a v s F w H)(g:Grew H H'):BuildP a v s F w H':=by
 obtain⟨h0,h1,h2,h3,h4,h5⟩:=h;exact⟨g.cells h0,g.cells h1,g.cells h2,g.slice h3,h4,h5⟩
theorem BuildP.other {a v w:AV}{s:Int}{F:List Ext}{H:AH}(h:BuildP a v s F w H){o:Nat}{x:Option AObj}(ho:3≤o)(hw:o∉AM w):BuildP a v s F w (H.set o x):=by
 obtain⟨h0,h1,h2,h3,h4,h5⟩:=h;exact⟨(Cc (by omega)).trans h0,(Cc (by omega)).trans h1,(Cc (by omega)).trans h2,Ae h3 λi hi=>Cc (fun (e:o=i)=>hw (e▸hi)),h4,h5⟩
theorem BuildP.add {a v w:AV}{s:Int}{F:List Ext}{H:AH}(h:BuildP a v s F w H)(Y:Ext)(hF:F.length≤10000000):
  ∃r H2 H3,HM 9 16 (H++[some (.cells (AB Y))]) w (.sl H.length 0 1 9 (.ex 1))=some (r,H2)∧H2[2]?=some (some (.cells [I s,w]))∧oneA r=true∧H3=H2.set 2 (some (.cells [I s,r]))∧BuildP a v s (F++[Y]) r H3∧H.length≤H3.length:=by
 obtain⟨h0,h1,h2,h3,h4,h5⟩:=h;have g:=Grew.app H [some (.cells (AB Y))];obtain⟨r,H2,b1,b2,b3,b4,b5,b6⟩:=BX (sz:=9) (bytes:=16) (g.slice h3) h4 (A1 (v:=.sl H.length 0 1 9 (.ex 1)) (q:=(AB Y,1)) (by simp[Ac,AE,Ai2])) (by omega);have hl:=(BE.1 h2).1;have k:∀j,j<3→H2[j]?=H[j]?:=λj hj=>by rw[b5 j (by simp;omega) (h5 j hj),g.2 j (by omega)]
 have hid:∀j,j<3→j∉AM r:=λj hj h=>(b6 j h).elim (h5 j hj) (λh=>by simp at h;omega)
 have hl2:2<H2.length:=by simp at b4;omega
 refine⟨r,H2,_,b1,by rw[k 2 (by omega)];exact h2,AD b2,rfl,⟨?_,?_,JY hl2,?_,b2,hid⟩,by simp at b4;simp;omega⟩
 ·rw[Cc (by omega),k 0 (by omega)];exact h0
 ·rw[Cc (by omega),k 1 (by omega)];exact h1
 ·rw[Ae b3 λi hi=>Cc (fun (e:2=i)=>hid 2 (by omega) (e▸hi))]
  simp[Al7]
theorem yF {H:AH}(Y:Ext):D9 H 9 1 (B4 [(I 0),u0Z,u0Z,u0Z,u0Z,u0Z,u0Z,u0Z,u0Z] 1) [(0,9,.agg (AB Y))]=some (.sl H.length 0 1 9 (.ex 1),H++[some (.cells (AB Y))]):=by
 have hl:=AE Y;have e:B4 [(I 0),u0Z,u0Z,u0Z,u0Z,u0Z,u0Z,u0Z,u0Z] 1=AB (QI 0):=rfl;rw[e];have hz:=AE (QI 0)
 have:V6 (AB (QI 0)) [(0,9,.agg (AB Y))]=some (AB Y):=by
  rw[qX];simp only[N6,zU,if_true];rw[if_pos ⟨hl,by omega⟩,HT _ _ _ (by omega),Ao5,Am5,Aj5 (by omega),Al4];rfl
 unfold D9;rw[this];rfl
abbrev At:=And.intro @Al @Nat.zero_add
abbrev Aa9:=And.intro @C1.{0} @De.{0}
abbrev Ab4:=And.intro @Ah @At
theorem La {size0:Int}{l:List Ext}{v:AV}(hv:SV AB 9 l v)(hl:l.length≤1000000)(size:Int):
  ∃R,SV AB 9 (cL (Cl (size0,l) size)) R∧BPure prog 124 [.agg [I size0,v],I size] (.tup [.agg [I (cS (Cl (size0,l) size)),R],B (Cl (size0,l) size).isSome]):=by
 refine BPure.cont (by simp[A5,noIds,hv.1]) (LA ?_);unfold GR;simp[Cn hv,Ax];refine Ay (CD hv (by omega)) ?_
 by_cases h1:Dh size0 l
 ·by_cases h2:size<0
  ·have hn:Cl (size0,l) size=none:=if_neg (λh=>by omega)
   simp[h1,h2,AP];exact ContK.none hn
  ·by_cases h3:1099511627776<size
   ·have hn:Cl (size0,l) size=none:=if_neg (λh=>by omega)
    simp[h1,h2,h3,AP];exact ContK.none hn
   ·have hw:Cl (size0,l) size=some (size,Fg l size):=if_pos ⟨h1,by omega,by omega⟩
    simp[h1,h2,h3,AP];have hno:=λx hx=>(LI h1.2.2 x hx)
    have hstep:∀(k:Nat) (y:Ext),l[k]?=some y→Fg (l.take (k+1)) size=Fg (l.take k) size++if y.no*8<size then [C0 y size 1099511627776]else []:=by
     intro k y hy;unfold Fg PG;rw[Al0,hy,Ar1,Ak2]
     congr 1
     split<;>simp[*]
    have hlenF:∀k,(Fg (l.take k) size).length≤l.length:=λk=>by
     unfold Fg PG;rw[Aj1];exact Aj0 (An5 _ _) (by rw[Ah8];omega)
    refine IS (λt x1 x2 x4 x6 x7 H=>∃(k:Nat) (w:AV),k+t=l.length∧x1=I size∧x2=.ptr 0 0∧x4=.ptr 1 0∧x6=.ptr 2 0∧x7=I k∧BuildP (I size0) v size (Fg (l.take k) size) w H) ?_ l.length
     ⟨0,Ad,by omega,rfl,rfl,rfl,rfl,rfl,rfl,rfl,rfl,rfl,rfl,by simp[AM]⟩
    rintro t x1 x2 x4 x6 x7 H R hR ⟨k,w,hk,rfl,rfl,rfl,rfl,rfl,hB⟩;unfold ES;have hB':=hB;obtain⟨e0,e1,e2,e3,e4,e5⟩:=hB';have hH2:=(BE.1 e2).1;rcases Ai0 k l.length with hlt | hge
    ·have hx:=DD hlt
     generalize l[k]=y at hx;have hy:=hno y (Ah7 hx);have g:=Grew.app H [some (.cells (AB y))];simp[hv.len,hlt,hv.idx AE hx rfl,-CF,Ai e0];rw[gI (by simp) (by rfl)]
     have nxt:∀H2 w2,BuildP (I size0) v size (Fg (l.take (k+1)) size) w2 H2→C3 R (I size) (.ptr 0 0) (.ptr 1 0) (.ptr 2 0) (I k) H2 (ContK (Cl (size0,l) size)):=by
      intro H2 w2 h2;rw[Jo];unfold ED;simp[Au (a:=k) (b:=1) (by omega) (by omega)];exact hR (t - 1) _ _ _ _ _ _ (by omega) ⟨k+1,w2,by omega,rfl,rfl,rfl,rfl,rfl,h2⟩
     by_cases hc:size≤y.no*8
     ·simp[D4 (a:=y.no) (b:=8) (by omega) (by omega),hc]
      refine nxt _ w ?_;rw[hstep k y hx,if_neg (by omega),Al4];exact hB.grew g
     ·simp[D4 (a:=y.no) (b:=8) (by omega) (by omega),hc]
      have hxo:H.length∉AM w:=λh=>by have:=Az e3 _ h;omega
      refine I0 R (λq z1 z2 z4 z6 z7 z8 z9 H2=>∃j:Nat,j+q=8∧z1=I size∧z2=.ptr 0 0∧z4=.ptr 1 0∧z6=.ptr 2 0∧z7=I k∧z8=.ptr H.length 0∧z9=I j∧BuildP (I size0) v size (Fg (l.take k) size) w H2∧H2[H.length]?=some (some (.cells (AB (C0 y size (y.no*8+j)))))) ?_ 8
       ⟨0,rfl,rfl,rfl,rfl,rfl,rfl,rfl,rfl,hB.grew g,by rw[UN (.inr (.inl (by omega)))];simp⟩
      rintro q z1 z2 z4 z6 z7 z8 z9 H2 R2 hR2 ⟨j,hj,rfl,rfl,rfl,rfl,rfl,rfl,rfl,hB2,hxc⟩;unfold EF;have hxol:=(BE.1 hxc).1
      have nxt2:∀H3,BuildP (I size0) v size (Fg (l.take k) size) w H3→H3[H.length]?=some (some (.cells (AB (C0 y size (y.no*8+((j+1:Nat):Int))))))→j<8→C4 R2 R (I size) (.ptr 0 0) (.ptr 1 0) (.ptr 2 0) (I k) (.ptr H.length 0) (I j) H3 (ContK (Cl (size0,l) size)):=by
       intro H3 h1 h2 h3;rw[Jp];unfold EE;simp[Au (a:=j) (b:=1) (by omega) (by omega)];exact hR2 (q - 1) _ _ _ _ _ _ _ _ (by omega) ⟨j+1,by omega,rfl,rfl,rfl,rfl,rfl,rfl,rfl,h1,h2⟩
      rcases Ai0 j 8 with hlj | hgj
      ·have hlj':(j:Int)<8:=by omega
       have hn0:(AB (C0 y size (y.no*8+j)))[0]?=some (I y.no):=rfl;simp[hlj',hxc,hn0,D4 (a:=y.no) (b:=8) (by omega) (by omega),Au (a:=y.no*8) (b:=j) (by omega) (by omega)]
       by_cases hs:size≤y.no*8+j
       ·have e1:SJ 8 1 (.ptr H.length 1) (I j)=some (.ptr H.length (1+j)):=by
         simp[SJ,Ni];omega
        have hwl:=AE (C0 y size (y.no*8+j));simp[hs,e1];rw[AK (n:=1) (off:=1+j) (xs:=[.lit (.int .u8 0)]) rfl hxc rfl (by omega)];simp;refine nxt2 _ (hB2.other (by omega) hxo) ?_ hlj;rw[JY hxol,nR (x:=C0 y size (y.no*8+j)) (y:=C0 y size (y.no*8+((j+1:Nat):Int))) rfl hlj];intro a ha;rw[Dl ha,Dl ha]
        by_cases c1:a=j
        ·rw[if_pos c1,if_pos (by omega)]
        ·rw[if_neg c1]
         by_cases c2:size≤y.no*8+(a:Int)∧y.no*8+(a:Int)<y.no*8+j
         ·rw[if_pos c2,if_pos (by omega)]
         ·rw[if_neg c2,if_neg (by omega)]
       ·simp[hs]
        refine nxt2 _ hB2 ?_ hlj;rw[hxc,UN (.inl (by omega)),UN (.inl (by omega))]
      ·have:j=8:=by omega
       subst this
       have hY:C0 y size (y.no*8+((8:Nat):Int))=C0 y size 1099511627776:=VZ rfl λa ha=>by
        rw[Dl ha,Dl ha]
        by_cases c2:size≤y.no*8+(a:Int)
        ·rw[if_pos (by omega),if_pos (by omega)]
        ·rw[if_neg (by omega),if_neg (by omega)]
       rw[hY]at hxc;obtain⟨d0,d1,d2,d3,d4,d5⟩:=hB2;obtain⟨r,H4,H5,q1,q2,q3,q4,q5,q6⟩:=BuildP.add ⟨d0,d1,d2,d3,d4,d5⟩ (C0 y size 1099511627776) (by have:=hlenF k;omega);simp only[show ¬((8:Nat):Int)<8 by omega,Ae8,Ab4,Al8,Ai d2,Ai hxc,zdieZ];simp only[Aa9,Aa,yF,A6,q1];rw[AK (n:=1) (off:=1) (xs:=[r]) (cs:=[I size,w]) (Bs q3) q2 rfl (by simp)];simp;refine nxt _ r ?_;rw[hstep k y hx,if_pos (by omega)];rw[q4]at q5;exact q5
    ·have:k=l.length:=by omega
     subst this;have hko:=AD e4;simp[hv.len,-CF,Ai e0,Ai e2,Ax];rw[AK (n:=2) (off:=0) (xs:=[I size,w]) (cs:=[I 0,Ad]) (by simp[hko]) e1 rfl (by simp)];simp[show 1<H.length by omega,Ax];rw[Al2]at e3
     exact ContK.some hw (Ae e3 λi hi=>by
      have h2:3≤i:=Al1 λh=>e5 i h hi
      rw[Cc (by omega)])
 ·have hn:Cl (size0,l) size=none:=if_neg (λh=>h1 h.1)
  simp[h1,AP];exact ContK.none hn
abbrev Ad1:=And.intro @As @CL
abbrev Ah2:=And.intro @Aa @Ah
theorem NP {size:Int}{l:List Ext}{v:AV}(hv:SV AB 9 l v)(hl:l.length≤1000000)(pos n:Int):
  ∃R,SV AB 9 (cL (CM (size,l) pos n)) R∧BPure prog 126 [.agg [I size,v],I pos,I n] (.tup [.agg [I (cS (CM (size,l) pos n)),R],B (CM (size,l) pos n).isSome]):=by
 refine BPure.cont (by simp[A5,noIds,hv.1]) (Nq ?_);unfold II;simp[Cn hv,Ax];refine Ay (CD hv (by omega)) ?_
 by_cases h1:Dh size l
 ·by_cases h2:Uf pos n
  ·have hw:CM (size,l) pos n=some (size,Fr l pos n):=if_pos ⟨h1,h2⟩
   obtain⟨g1,g2,g3,g4⟩:=h2;simp[h1,show ¬pos<0 by omega,show ¬n<1 by omega,show ¬1099511627776<n by omega,B2 (a:=1099511627776) (b:=n) (by omega) (by omega),show ¬1099511627776 - n<pos by omega,AP];have hno:=λx hx=>(LI h1.2.2 x hx)
   have hstep:∀(k:Nat) (y:Ext),l[k]?=some y→Fr (l.take (k+1)) pos n=Fr (l.take k) pos n++if pos≤y.no*8∧y.no*8+8≤pos+n then []else [C0 y pos (pos+n)]:=by
    intro k y hy;unfold Fr PG gone;rw[Al0,hy,Ar1,Ak2]
    congr 1
    by_cases c1:pos≤y.no*8<;>by_cases c2:y.no*8+8≤pos+n<;>simp[c1,c2]
   have hlenF:∀k,(Fr (l.take k) pos n).length≤l.length:=λk=>by
    unfold Fr PG;rw[Aj1];exact Aj0 (An5 _ _) (by rw[Ah8];omega)
   refine Ko (λt x1 x2 x3 x6 x8 x9 H=>∃(k:Nat) (w:AV),k+t=l.length∧x1=I pos∧x2=I n∧x3=.ptr 0 0∧x6=.ptr 1 0∧x8=.ptr 2 0∧x9=I k∧BuildP (I size) v size (Fr (l.take k) pos n) w H) ?_ l.length
    ⟨0,Ad,by omega,rfl,rfl,rfl,rfl,rfl,rfl,rfl,rfl,rfl,rfl,rfl,by simp[AM]⟩
   rintro t x1 x2 x3 x6 x8 x9 H R hR ⟨k,w,hk,rfl,rfl,rfl,rfl,rfl,rfl,hB⟩;unfold FL;have hB':=hB;obtain⟨e0,e1,e2,e3,e4,e5⟩:=hB';have hH2:=(BE.1 e2).1;rcases Ai0 k l.length with hlt | hge
   ·have hx:=DD hlt
    generalize l[k]=y at hx;have hy:=hno y (Ah7 hx);have g:=Grew.app H [some (.cells (AB y))];simp[hv.len,hlt,hv.idx AE hx rfl,-CF,Ai e0];rw[gI (by simp) (by rfl)];simp
    have nxt:∀H2 w2,BuildP (I size) v size (Fr (l.take (k+1)) pos n) w2 H2→CX R (I pos) (I n) (.ptr 0 0) (.ptr 1 0) (.ptr 2 0) (I k) H2 (ContK (CM (size,l) pos n)):=by
     intro H2 w2 h2;rw[KI];unfold Fv;simp[Au (a:=k) (b:=1) (by omega) (by omega)];exact hR (t - 1) _ _ _ _ _ _ _ (by omega) ⟨k+1,w2,by omega,rfl,rfl,rfl,rfl,rfl,rfl,h2⟩
    have hxo:H.length∉AM w:=λh=>by have:=Az e3 _ h;omega
    refine JM R (λq z1 z2 z3 z6 z8 z9 z10 z11 z12 H2=>∃j:Nat,j+q=8∧z1=I pos∧z2=I n∧z3=.ptr 0 0∧z6=.ptr 1 0∧z8=.ptr 2 0∧z9=I k∧z10=.ptr H.length 0∧z11=I (max 0 (min (pos+n) (y.no*8+j) - max pos (y.no*8)))∧z12=I j∧BuildP (I size) v size (Fr (l.take k) pos n) w H2∧
     H2[H.length]?=some (some (.cells (AB (C0 y pos (min (pos+n) (y.no*8+j))))))) ?_ 8
     ⟨0,rfl,rfl,rfl,rfl,rfl,rfl,rfl,rfl,by rw[show max 0 (min (pos+n) (y.no*8+((0:Nat):Int)) - max pos (y.no*8))=0 by omega],rfl,hB.grew g,by rw[UN (by omega)];simp⟩
    rintro q z1 z2 z3 z6 z8 z9 z10 z11 z12 H2 R2 hR2 ⟨j,hj,rfl,rfl,rfl,rfl,rfl,rfl,rfl,rfl,rfl,hB2,hxc⟩;unfold Fx;have hxol:=(BE.1 hxc).1
    have nxt2:∀H3 c,c=max 0 (min (pos+n) (y.no*8+((j+1:Nat):Int)) - max pos (y.no*8))→BuildP (I size) v size (Fr (l.take k) pos n) w H3→H3[H.length]?=some (some (.cells (AB (C0 y pos (min (pos+n) (y.no*8+((j+1:Nat):Int)))))))→j<8→CY R2 R (I pos) (I n) (.ptr 0 0) (.ptr 1 0) (.ptr 2 0) (I k) (.ptr H.length 0) (I c) (I j) H3 (ContK (CM (size,l) pos n)):=by
     rintro H3 c rfl h1 h2 h3;rw[KJ];unfold Fw;simp[Au (a:=j) (b:=1) (by omega) (by omega)];exact hR2 (q - 1) _ _ _ _ _ _ _ _ _ _ (by omega) ⟨j+1,by omega,rfl,rfl,rfl,rfl,rfl,rfl,rfl,rfl,rfl,h1,h2⟩
    rcases Ai0 j 8 with hlj | hgj
    ·have hlj':(j:Int)<8:=by omega
     have hn0:(AB (C0 y pos (min (pos+n) (y.no*8+j))))[0]?=some (I y.no):=rfl
     by_cases hs:pos≤y.no*8+j∧y.no*8+j<pos+n
     ·have e1:SJ 8 1 (.ptr H.length 1) (I j)=some (.ptr H.length (1+j)):=by
       simp[SJ,Ni];omega
      have hwl:=AE (C0 y pos (min (pos+n) (y.no*8+j)));simp[hlj',hxc,hn0,D4 (a:=y.no) (b:=8) (by omega) (by omega),Au (a:=y.no*8) (b:=j) (by omega) (by omega),Au (a:=pos) (b:=n) (by omega) (by omega),hs.1,hs.2,e1];rw[AK (n:=1) (off:=1+j) (xs:=[.lit (.int .u8 0)]) rfl hxc rfl (by omega)];simp;rw[Au (by omega) (by omega)];simp;refine nxt2 _ _ (by omega) (hB2.other (by omega) hxo) ?_ hlj;rw[JY hxol,nR (x:=C0 y pos (min (pos+n) (y.no*8+j))) (y:=C0 y pos (min (pos+n) (y.no*8+((j+1:Nat):Int)))) rfl hlj];intro a ha;rw[Dl ha,Dl ha]
      by_cases c1:a=j
      ·rw[if_pos c1,if_pos (by omega)]
      ·rw[if_neg c1]
       by_cases c2:pos≤y.no*8+(a:Int)∧y.no*8+(a:Int)<min (pos+n) (y.no*8+j)
       ·rw[if_pos c2,if_pos (by omega)]
       ·rw[if_neg c2,if_neg (by omega)]
     ·have hsame:AB (C0 y pos (min (pos+n) (y.no*8+((j+1:Nat):Int))))=AB (C0 y pos (min (pos+n) (y.no*8+j))):=by
       congr 1
       refine VZ rfl λa ha=>?_
       rw[Dl ha,Dl ha]
       by_cases c2:pos≤y.no*8+(a:Int)∧y.no*8+(a:Int)<min (pos+n) (y.no*8+j)
       ·rw[if_pos c2,if_pos (by omega)]
       ·rw[if_neg c2,if_neg (by omega)]
      by_cases hs1:pos≤y.no*8+j
      ·have hs2:¬y.no*8+j<pos+n:=λh=>hs ⟨hs1,h⟩
       simp[hlj',hxc,hn0,D4 (a:=y.no) (b:=8) (by omega) (by omega),Au (a:=y.no*8) (b:=j) (by omega) (by omega),Au (a:=pos) (b:=n) (by omega) (by omega),hs1,hs2];exact nxt2 _ _ (by omega) hB2 (by rw[hsame];exact hxc) hlj
      ·simp[hlj',hxc,hn0,D4 (a:=y.no) (b:=8) (by omega) (by omega),Au (a:=y.no*8) (b:=j) (by omega) (by omega),hs1]
       exact nxt2 _ _ (by omega) hB2 (by rw[hsame];exact hxc) hlj
    ·have:j=8:=by omega
     subst this
     have hY:C0 y pos (min (pos+n) (y.no*8+((8:Nat):Int)))=C0 y pos (pos+n):=VZ rfl λa ha=>by
      rw[Dl ha,Dl ha]
      by_cases c2:pos≤y.no*8+(a:Int)∧y.no*8+(a:Int)<pos+n
      ·rw[if_pos (by omega),if_pos (by omega)]
      ·rw[if_neg (by omega),if_neg (by omega)]
     rw[hY]at hxc;simp only[show ¬((8:Nat):Int)<8 by omega,Ae8]
     by_cases hg:pos≤y.no*8∧y.no*8+8≤pos+n
     ·have hc:¬max 0 (min (pos+n) (y.no*8+((8:Nat):Int)) - max pos (y.no*8))<8:=by omega
      simp only[hc,Ab7];refine nxt _ w ?_;rw[hstep k y hx,if_pos hg,Al4];exact hB2
     ·have hc:max 0 (min (pos+n) (y.no*8+((8:Nat):Int)) - max pos (y.no*8))<8:=by omega
      simp only[hc,Ad1];obtain⟨d0,d1,d2,d3,d4,d5⟩:=hB2;obtain⟨r,H4,H5,q1,q2,q3,q4,q5,q6⟩:=BuildP.add ⟨d0,d1,d2,d3,d4,d5⟩ (C0 y pos (pos+n)) (by have:=hlenF k;omega);simp only[At,Ai hxc,zdieZ];simp only[Aa,yF,A6];rw[Ai d2];simp only[Ah2,Aa9,A6,q1];rw[AK (n:=1) (off:=1) (xs:=[r]) (cs:=[I size,w]) (Bs q3) q2 rfl (by simp)];simp;refine nxt _ r ?_;rw[hstep k y hx,if_neg hg];rw[q4]at q5;exact q5
   ·have:k=l.length:=by omega
    subst this;have hko:=AD e4;simp[hv.len,-CF,Ai e0,Ai e2,Ax];rw[AK (n:=2) (off:=0) (xs:=[I size,w]) (cs:=[I 0,Ad]) (by simp[hko]) e1 rfl (by simp)];simp[show 1<H.length by omega,Ax];rw[Al2]at e3
    exact ContK.some hw (Ae e3 λi hi=>by
     have h2:3≤i:=Al1 λh=>e5 i h hi
     rw[Cc (by omega)])
  ·have hn:CM (size,l) pos n=none:=if_neg (λh=>h2 h.2)
   by_cases g1:pos<0
   ·simp[h1,g1,AP]
    exact ContK.none hn
   ·by_cases g2:n<1
    ·simp[h1,g1,g2,AP]
     exact ContK.none hn
    ·by_cases g3:1099511627776<n
     ·simp[h1,g1,g2,g3,AP]
      exact ContK.none hn
     ·have g4:1099511627776 - n<pos:=Int.lt_of_not_ge λh=>h2 ⟨by omega,by omega,by omega,h⟩
      simp[h1,g1,g2,g3,B2 (a:=1099511627776) (b:=n) (by omega) (by omega),g4,AP];exact ContK.none hn
 ·have hn:CM (size,l) pos n=none:=if_neg (λh=>h1 h.1)
  simp[h1,AP];exact ContK.none hn
end
end Go.Proofs.YtadghlcfbajamaaGreat.Av
