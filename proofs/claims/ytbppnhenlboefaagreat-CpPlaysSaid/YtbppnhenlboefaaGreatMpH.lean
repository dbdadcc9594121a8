/- Texts of this proof, one behind the other, packed into one file by a program of this session. No condition. -/
import Derived.Test.YtbppnhenlboefaaGreatMpG
set_option linter.unusedVariables false
set_option linter.unusedSimpArgs false
set_option maxRecDepth 100000
namespace Go.Proofs.YtbppnhenlboefaaGreat.Av
open Go Go.RowKit Go.Proofs.Tryz
section
section
variable {κ α : Type} [DecidableEq κ] {c : κ->κ->Int} {key : α->κ}
def Lf (key:α->κ)(l:List α)(k:κ):Int:=match l.findIdx? (λx=>decide (key x=k))with
 | some j=>j
 | none=> -1
theorem jB {l:List α}{k:κ}(h:¬Bo key l k):Lf key l k= -1:=by
 unfold Lf;have:l.findIdx? (λx=>decide (key x=k))=none:=by rw[Ap5];intro x a;simp only[decide_eq_false_iff_not];exact λe=>h ⟨x,a,e⟩
 rw[this]
theorem Aii {l:List α}{k:κ}{j:Nat}{x:α}(f:l[j]?=some x)(c:key x=k)(e:∀m y,m<j->l[m]?=some y->key y≠k):Lf key l k=j:=by
 unfold Lf;have:l.findIdx? (λx=>decide (key x=k))=some j:=by obtain⟨a,b⟩:=BG.1 f;rw[Ap9];refine⟨a,by rw[b];simp[c],λm d=>?_⟩;have:=e m _ d (Dq (by omega));simp[this]
 rw[this]
theorem pK {l:List α}{k:κ}(h:Bo key l k):∃(j:Nat) (x:α),Lf key l k=j/\l[j]?=some x/\key x=k:=by
 unfold Lf;cases a:l.findIdx? (λx=>decide (key x=k))with
 | none=>
  rw[Ap5]at a;obtain⟨x,d,e⟩:=h;have:=a x d;simp[e]at this
 | some j=>
  obtain⟨b,c,f⟩:=Ap9.1 a;exact⟨j,l[j],rfl,Dq b,by simpa using c⟩
theorem Uz (d:KO c){l:List α}(hs:CQ c key l){k:κ}(h:Bo key l k):Lf key l k=DG c key l k:=by
 obtain⟨j,x,a,b,rfl⟩:=pK h;rw[a,fJ d hs b]
theorem IB {l:List α}{k:κ}:Lf key l k<0↔¬Bo key l k:=by
 constructor
 ·intro h a;obtain⟨j,x,b,c,rfl⟩:=pK a;omega
 ·intro h;rw[jB h];omega
end
theorem G4 {ns:List Nm}{ds:List Nd}{v:AV}(l:ImV ns ds v)(u:Sm ns ds)(s:List UInt8):Ba2 174 [v,S (Ax s)] (I (Lf Nm.name ns s)):=BPure.val (by have:=l.noIds;simpa[AF,noIds]using this) rfl (Yz (by
 obtain⟨a,b,C,rfl,g,w,rfl⟩:=l;have B:=u.1;unfold Tf;have z:=SV.oneA g;have A:=SV.oneA w;simp[z,A];refine St (λn o p q H'=>∃k:Nat,k+n=ns.length/\o=S (Ax s)/\p=.ptr 0 0/\q=I k/\H'=[some (.cells [a,b])]/\∀m y,m<k->ns[m]?=some y->y.name≠s) ?_ ns.length ⟨0,by omega,rfl,rfl,rfl,rfl,by omega⟩;rintro n o p q H' R t ⟨k,D,rfl,rfl,rfl,rfl,j⟩;unfold LU;rcases Aj5 k ns.length with h | h
 ·have d:=Dq h;generalize ns[k]=x at d;simp[g.len,h,g.idx Cg d rfl,aR,DC];by_cases c:x.name=s
  ·have:=Aii d c j;simp[c,this]
  ·simp[c,Au (a:=k) (b:=1) (by omega) (by omega)]
   exact t (n - 1) _ _ _ _ (by omega) ⟨k+1,by omega,rfl,rfl,by simp,rfl,λm y i f=>by
    by_cases r:m=k
    ·rw[r,d]at f;injection f with f;rw[<- f];exact c
    ·exact j m y (by omega) f⟩
 ·have:Lf Nm.name ns s= -1:=jB (by rintro⟨x,d,e⟩;obtain⟨m,i⟩:=Ak0.1 d;have:=(BG.1 i).1;exact j m x (by omega) i e);simp[g.len,show ¬k<ns.length by omega,this]))
theorem getElem?_map_nd {a:List NdV}{k:Nat}{d:Nd}(h:(a.map NdV.nd)[k]?=some d):∃x,a[k]?=some x/\x.nd=d:=by
 rw[Al2]at h;exact Option.map_eq_some_iff.1 h
theorem Kb {ns:List Nm}{ds:List Nd}{v:AV}(o:ImV ns ds v)(A:Sm ns ds)(no:Int):Ba2 138 [v,I no] (I (Lf Nd.ino ds no)):=BPure.val (by have:=o.noIds;simpa[AF,noIds]using this) rfl (Zt (by
 obtain⟨a,b,d,rfl,z,i,rfl⟩:=o;have t:=A.2.1;rw[Ak8]at t;unfold UQ;have B:=SV.oneA z;have C:=SV.oneA i;simp[B,C];refine TJ (λn q r s H'=>∃k:Nat,k+n=d.length/\q=I no/\r=.ptr 0 0/\s=I k/\H'=[some (.cells [a,b])]/\∀m y,m<k->(d.map NdV.nd)[m]?=some y->y.ino≠no) ?_ d.length ⟨0,by omega,rfl,rfl,rfl,rfl,by omega⟩;rintro n q r s H' R w ⟨k,D,rfl,rfl,rfl,rfl,l⟩;unfold MI;rcases Aj5 k d.length with h | h
 ·have f:=Dq h;generalize d[k]=x at f;have p:(d.map NdV.nd)[k]?=some x.nd:=by rw[Al2,f];rfl
  simp[i.len,h,i.idx BN f rfl,wA];by_cases c:x.nd.ino=no
  ·have:=Aii (key:=Nd.ino) p c l;simp[c,this]
  ·simp[c,Au (a:=k) (b:=1) (by omega) (by omega)]
   exact w (n - 1) _ _ _ _ (by omega) ⟨k+1,by omega,rfl,rfl,by simp,rfl,λm y j g=>by
    by_cases u:m=k
    ·rw[u,p]at g;injection g with g;rw[<- g];exact c
    ·exact l m y (by omega) g⟩
 ·have:Lf Nd.ino (d.map NdV.nd) no= -1:=jB (by rintro⟨x,f,e⟩;obtain⟨m,j⟩:=Ak0.1 f;have:=(BG.1 j).1;rw[Ak8]at this;exact l m x (by omega) j e);simp[i.len,show ¬k<d.length by omega,this]))
theorem Ael:∀{A B:List Int},A.Nodup->(∀a∈A,a∈B)->B.length<=A.length->∀b∈B,b∈A
 | [],B,_,_,hl,b,hb=>by have:B=[]:=List.length_eq_zero_iff.1 (by simpa using hl);rw[this]at hb;exact hb
 | a::A,B,hn,hs,hl,b,hb=>by
  rw[Ar7]at hn;by_cases e:b=a
  ·simp[e]
  ·have f:=hs a (by simp);have g:(B.erase a).length<=A.length:=by rw[List.length_erase_of_mem f];simp at hl;omega
   have:=Ael (A:=A) (B:=B.erase a) hn.2 (λx c=>(List.mem_erase_of_ne (fun (d:x=a)=>hn.1 (d▸c))).2 (hs x (by simp[c]))) g b ((List.mem_erase_of_ne e).2 hb);simp[this]
def Acz (N:List Nd)(ns:List Nm)(ds:List Nd):Prop:=Aae ns/\CQ Cj Nd.ino ds/\(∀x∈ns,Bo Nd.ino N x.ino)/\∀d∈ds,CZ d.size d.l
theorem Yc {ns:List Nm}{ds:List Nd}:Fw ns ds↔ns.length<=16/\ds.length=ns.length/\Acz ds ns ds:=by
 unfold Fw fB Aaj Acz;constructor
 ·rintro⟨⟨k,g⟩,f,i,j⟩;refine⟨k,f,g,i,?_,λd b=>(j d b).2⟩;have n:(ds.map Nd.ino).Nodup:=by rw[List.Nodup,As0];exact i.imp λh=>by rw[S4]at h;omega
  have:=Ael (A:=ds.map Nd.ino) (B:=ns.map Nm.ino) n (λa l=>by obtain⟨d,b,rfl⟩:=Am5.1 l;obtain⟨x,c,e⟩:=(j d b).1;rw[<- e];exact Al9 c) (by simp[f]);intro x c;obtain⟨d,b,e⟩:=Am5.1 (this x.ino (Al9 c));exact⟨d,b,e⟩
 ·rintro⟨k,f,g,i,j,m⟩;refine⟨⟨k,g⟩,f,i,λd b=>⟨?_,m d b⟩⟩;have:=Ael (A:=ns.map Nm.ino) (B:=ds.map Nd.ino) g.2.2 (λa l=>by obtain⟨x,c,rfl⟩:=Am5.1 l;obtain⟨d,b,e⟩:=j x c;rw[<- e];exact Al9 b) (by simp[f]);obtain⟨x,c,e⟩:=Am5.1 (this d.ino (Al9 b));exact⟨x,c,e⟩
theorem If {ns:List Nm}{ds:List Nd}{v:AV}(hv:ImV ns ds v)(H:Sm ns ds):Ba2 139 [v] (B (decide (Fw ns ds))):=BPure.val hv.noIds rfl (UK (by
 have al:=hv;obtain⟨a,b,f,rfl,t,J,rfl⟩:=hv;have b1:=H.1;have b2:=H.2.1;rw[Ak8]at b2;unfold Oi;have oa:=SV.oneA t;have ob:=SV.oneA J;simp[oa,ob,t.len];by_cases ah:ns.length<=16
 ·have aa:¬(16:Int)<ns.length:=by omega
  by_cases aj:f.length=ns.length
  ·have ae:((ns.length:Int)=f.length):=by omega
   simp[show ¬(16:Int)<f.length by omega,ae,t.len,J.len];refine OQ (λn M N H'=>∃k:Nat,k+n=ns.length/\M=.ptr 0 0/\N=I k/\Grew [some (.cells [a,b])] H'/\Acz (f.map NdV.nd) (ns.take k) ((f.take k).map NdV.nd)) ?_ ns.length ⟨0,by omega,rfl,rfl,Grew.refl _,by simp[Acz,Aae,CQ]⟩;rintro n M N H' R hR ⟨k,hk,rfl,rfl,hg,Y⟩;unfold IT;have c0:H'[0]?=some (some (.cells [a,b])):=hg.cells rfl;rcases Aj5 k ns.length with h | h
   ·have P:=Dq h;generalize ns[k]=x at P;have E:=Dq (l:=f) (i:=k) (by omega);generalize f[k]=d at E;have an:=H.2.2.1 x (Aj2 P);have af:=EK P;have ak:=EK E;have ai:d.nd.l.length<=281474976710656:=by have:=H.2.2.2 d.nd (Al9 (Aj2 E));omega
    have p:Fw ns (f.map NdV.nd)->(Ek x.name/\(∀y,0<k/\ns[k - 1]?=some y->Bv y.name x.name<0)/\1<=x.ino/\x.ino<=4611686018427387904/\¬Bo Nm.ino (ns.take k) x.ino)/\(∀y,0<k/\f[k - 1]?=some y->y.nd.ino<d.nd.ino)/\Bo Nd.ino (f.map NdV.nd) x.ino/\CZ d.nd.size d.nd.l:=by
     intro g;obtain⟨-,-,K,Q,T,U⟩:=Yc.1 g;refine⟨?_,?_,T x (Aj2 P),U d.nd (Al9 (Aj2 E))⟩
     ·rw[<- Ao0 (k+1) ns,af]at K;have:=(U7.1 (Aif K)).2;simpa only[Lx (show k<=ns.length by omega)]using this
     ·rintro y ⟨h0,c⟩;have:=O8 Q (i:=k - 1) (j:=k) (x:=y.nd) (y:=d.nd) (by rw[Al2,c];rfl) (by rw[Al2,E];rfl) (by omega)
      rwa[S4]at this
    obtain⟨X,ea,D,r,g2⟩:∃X,AU 2 (H'++[some (.cells [S (Ax []),I 0])]) (.ptr H'.length 0) (.agg (Ct x))=some X/\X[0]?=some (some (.cells [a,b]))/\X[H'.length]?=some (some (.cells [S (Ax x.name),I x.ino]))/\Grew H' X:=by have g1:=Grew.app H' [some (.cells (Ct x))];exact⟨_,by simp[AU,Ct,Bb],g1.cells c0,by simp[Ct],g1⟩
    simp[c0,t.len,h,t.idx Cg P rfl,Acf,oA,ea];simp[r];refine bP_of (FD (s:=x.name) (by omega)) ?_;by_cases C:Ek x.name
    ·by_cases a2:x.ino<1
     ·have:¬Fw ns (f.map NdV.nd):=λg=>by have:=(p g).1.2.2.1;omega
      simp[r,C,a2,this]
     ·by_cases a3:4611686018427387904<x.ino
      ·have:¬Fw ns (f.map NdV.nd):=λg=>by have:=(p g).1.2.2.2.1;omega
       simp[r,C,a2,a3,this]
      ·rcases An9 k with h0 | W
       ·have e0:¬0<k:=by omega
        simp[r,C,a2,a3,e0,D,A1];refine bP_of (Kb al H x.ino) ?_;by_cases u:Bo Nd.ino (f.map NdV.nd) x.ino
        ·have G:¬Lf Nd.ino (f.map NdV.nd) x.ino<0:=by rw[IB];exact λh=>h u
         simp[G];refine G7 _ (λn M N x4 x5 Z=>∃j:Nat,j+n=k/\M=.ptr 0 0/\N=I k/\x4=.ptr H'.length 0/\x5=I j/\X=Z/\¬Bo Nm.ino (ns.take j) x.ino) ?_ k ⟨0,by omega,rfl,rfl,rfl,rfl,rfl,by simp[Bo]⟩;rintro n2 y1 y3 y4 y5 H2 R2 ad ⟨j,hj,rfl,rfl,rfl,rfl,rfl,O⟩;unfold EQ;rcases Aj5 j k with F | F
         ·have q:=Dq (l:=ns) (i:=j) (by omega);generalize ns[j]=z at q;simp[r,F,D,t.idx Cg q rfl,oO];by_cases A:z.ino=x.ino
          ·have:¬Fw ns (f.map NdV.nd):=λg=>(p g).1.2.2.2.2 ⟨z,Ak0.2 ⟨j,by rw[Ak2,if_pos F];exact q⟩,A⟩;simp[A,this]
          ·simp[A,Au (a:=j) (b:=1) (by omega) (by omega)];refine ad (n2 - 1) _ _ _ _ _ (by omega) ⟨j+1,by omega,rfl,rfl,rfl,by simp,rfl,?_⟩;rw[EK q];rintro⟨w,m,e⟩;rcases Am3.1 m with m | m
           ·exact O ⟨w,m,e⟩
           ·rw[An1]at m;subst m;exact A e
         ·have ab:j=k:=by omega
          subst ab;have nj:¬j<j:=by omega
          have V:=J.idx BN E rfl;have ag:(∀y,0<j/\f[j - 1]?=some y->y.nd.ino<d.nd.ino)->CZ d.nd.size d.nd.l->R [.ptr 0 0,I ((j:Int)+1)] X:=λL o=>by
           refine hR (n - 1) _ _ _ (by omega) ⟨j+1,by omega,rfl,by simp,hg.trans g2,?_⟩;rw[af,ak,An0];obtain⟨K,Q,T,U⟩:=Y;refine⟨U7.2 ⟨K,C,(λy c=>by have:=(Lx (by omega) y).1 c;omega),by omega,by omega,O⟩,(YT koI).2 ⟨Q,?_⟩,?_,?_⟩
           ·intro y c;rw[Av1]at c;obtain⟨w,m,rfl⟩:=Option.map_eq_some_iff.1 c;rw[S4];exact L w ((Lx (by omega) w).1 m)
           ·intro y c;rcases Am3.1 c with c | c
            ·exact T y c
            ·rw[An1]at c;subst c;exact u
           ·intro y c;rcases Am3.1 c with c | c
            ·exact U y c
            ·simp at c;subst c;exact o
          have n0:¬0<j:=by omega
          simp[r,n0,D,V];refine bP_of (CW d.h ai) ?_;by_cases o:CZ d.nd.size d.nd.l
          ·simp[o,Au (a:=j) (b:=1) (by omega) (by omega)];exact ag (λy c=>by omega) o
          ·have:¬Fw ns (f.map NdV.nd):=λg=>o (p g).2.2.2;simp[o,this]
        ·have G:Lf Nd.ino (f.map NdV.nd) x.ino<0:=IB.2 u;have:¬Fw ns (f.map NdV.nd):=λg=>u (p g).2.2.1;simp[G,this]
       ·have c:=Dq (l:=ns) (i:=k - 1) (by omega);generalize ns[k - 1]=y at c;have es:Ar .sub (I k) (I 1)=some (I ((k - 1:Nat):Int)):=by rw[B4 (by omega) (by omega)];congr 3;omega
        have am:=t.idx Cg c (i:=((k - 1:Nat):Int)) rfl;simp[r,C,a2,a3,W,D,es,am,aR,YC];by_cases a6:Bv y.name x.name<0
        ·simp[r,show ¬0<=Bv y.name x.name by omega,A1];refine bP_of (Kb al H x.ino) ?_;by_cases u:Bo Nd.ino (f.map NdV.nd) x.ino
         ·have G:¬Lf Nd.ino (f.map NdV.nd) x.ino<0:=by rw[IB];exact λh=>h u
          simp[G];refine G7 _ (λn M N x4 x5 Z=>∃j:Nat,j+n=k/\M=.ptr 0 0/\N=I k/\x4=.ptr H'.length 0/\x5=I j/\X=Z/\¬Bo Nm.ino (ns.take j) x.ino) ?_ k ⟨0,by omega,rfl,rfl,rfl,rfl,rfl,by simp[Bo]⟩;rintro n2 y1 y3 y4 y5 H2 R2 ad ⟨j,hj,rfl,rfl,rfl,rfl,rfl,O⟩;unfold EQ;rcases Aj5 j k with F | F
          ·have q:=Dq (l:=ns) (i:=j) (by omega);generalize ns[j]=z at q;simp[r,F,D,t.idx Cg q rfl,oO];by_cases A:z.ino=x.ino
           ·have:¬Fw ns (f.map NdV.nd):=λg=>(p g).1.2.2.2.2 ⟨z,Ak0.2 ⟨j,by rw[Ak2,if_pos F];exact q⟩,A⟩;simp[A,this]
           ·simp[A,Au (a:=j) (b:=1) (by omega) (by omega)];refine ad (n2 - 1) _ _ _ _ _ (by omega) ⟨j+1,by omega,rfl,rfl,rfl,by simp,rfl,?_⟩;rw[EK q];rintro⟨w,m,e⟩;rcases Am3.1 m with m | m
            ·exact O ⟨w,m,e⟩
            ·rw[An1]at m;subst m;exact A e
          ·have ab:j=k:=by omega
           subst ab;have nj:¬j<j:=by omega
           have V:=J.idx BN E rfl;have ag:(∀y,0<j/\f[j - 1]?=some y->y.nd.ino<d.nd.ino)->CZ d.nd.size d.nd.l->R [.ptr 0 0,I ((j:Int)+1)] X:=λL o=>by
            refine hR (n - 1) _ _ _ (by omega) ⟨j+1,by omega,rfl,by simp,hg.trans g2,?_⟩;rw[af,ak,An0];obtain⟨K,Q,T,U⟩:=Y;refine⟨U7.2 ⟨K,C,(λz q=>by have:=((Lx (by omega) z).1 q).2;rw[c]at this;injection this with this;rw[<- this];exact a6),by omega,by omega,O⟩,(YT koI).2 ⟨Q,?_⟩,?_,?_⟩
            ·intro y c;rw[Av1]at c;obtain⟨w,m,rfl⟩:=Option.map_eq_some_iff.1 c;rw[S4];exact L w ((Lx (by omega) w).1 m)
            ·intro y c;rcases Am3.1 c with c | c
             ·exact T y c
             ·rw[An1]at c;subst c;exact u
            ·intro y c;rcases Am3.1 c with c | c
             ·exact U y c
             ·simp at c;subst c;exact o
           have m:=Dq (l:=f) (i:=j - 1) (by omega);generalize f[j - 1]=w at m;have es:Ar .sub (I j) (I 1)=some (I ((j - 1:Nat):Int)):=by rw[B4 (by omega) (by omega)];congr 3;omega
           have ew:=J.idx BN m (i:=((j - 1:Nat):Int)) rfl;simp[r,W,D,es,ew,V,wA];by_cases L:d.nd.ino<=w.nd.ino
           ·have:¬Fw ns (f.map NdV.nd):=λg=>by have:=(p g).2.1 w ⟨W,m⟩;omega
            simp[L,this]
           ·simp[L,D,V];refine bP_of (CW d.h ai) ?_;by_cases o:CZ d.nd.size d.nd.l
            ·simp[o,Au (a:=j) (b:=1) (by omega) (by omega)];exact ag (λy c=>by have:=c.2;rw[m]at this;injection this with this;rw[<- this];omega) o
            ·have:¬Fw ns (f.map NdV.nd):=λg=>o (p g).2.2.2;simp[o,this]
         ·have G:Lf Nd.ino (f.map NdV.nd) x.ino<0:=IB.2 u;have:¬Fw ns (f.map NdV.nd):=λg=>u (p g).2.2.1;simp[G,this]
        ·have:¬Fw ns (f.map NdV.nd):=λg=>a6 ((p g).1.2.1 y ⟨W,c⟩);simp[show 0<=Bv y.name x.name by omega,this]
    ·have:¬Fw ns (f.map NdV.nd):=λg=>C (p g).1.1;simp[C,this]
   ·have e1:ns.take k=ns:=Aj3 (by omega);have e2:f.take k=f:=Aj3 (by omega);rw[e1,e2]at Y;have:Fw ns (f.map NdV.nd):=Yc.2 ⟨ah,by simp[aj],Y⟩;simp[c0,t.len,show ¬k<ns.length by omega,this]
  ·have:¬Fw ns (f.map NdV.nd):=λh=>aj (by simpa using h.2.1);have ae:¬((ns.length:Int)=f.length):=by omega
   simp[aa,ae,t.len,J.len,this]
 ·have:¬Fw ns (f.map NdV.nd):=λh=>ah h.1.1;have aa:(16:Int)<ns.length:=by omega
  simp[aa,this]))
end
section
def cS (o:Option I5):Int:=(o.getD (0,[])).1
def cL (o:Option I5):List Ext:=(o.getD (0,[])).2
theorem lI (l:List Ext):AF (l.flatMap AB)=true:=EF λx _=>Ic x
def ContK (res:Option I5)(r:AV)(X:AH):Prop:=∃w,r=.tup [.agg [I (cS res),w],B res.isSome]/\Ac X 9 w=some ((cL res).flatMap AB,(cL res).length)
theorem ContK.none {res:Option I5}(h:res=none){X:AH}:ContK res (.tup [.agg [I 0,Ad],B false]) X:=by
 subst h;exact⟨_,rfl,rfl⟩
theorem ContK.some {res:Option I5}{s:Int}{l:List Ext}(h:res=some (s,l)){X:AH}{w:AV}(a:Ac X 9 w=some (l.flatMap AB,l.length)):ContK res (.tup [.agg [I s,w],B true]) X:=by
 subst h;exact⟨_,rfl,a⟩
theorem BPure.cont {P:Program}{f:FuncId}{args:List AV}{res:Option I5}(e:AF args=true)(h:∃r X,ContK res r X/\BCall P f args [] r X):
  ∃R,SV AB 9 (cL res) R/\BPure P f args (.tup [.agg [I (cS res),R],B res.isSome]):=by
 obtain⟨r,X,⟨w,rfl,g⟩,h⟩:=h;obtain⟨R,d,b⟩:=FZ.sv g (lI _);obtain⟨a,⟨rfl,_⟩,c⟩:=BPure.FZ (Q:=λa=>a=.tup [.agg [I (cS res),R],B res.isSome]/\True) e ⟨_,X,⟨_,FZ.tup (FZs.cons (FZ.agg (FZs.cons (FZ.lit _) (FZs.cons b FZs.nil))) (FZs.cons (FZ.lit _) FZs.nil)),rfl,trivial⟩,h⟩;exact⟨R,d,c⟩
theorem zQ {x:Ext}{k:Nat}{bs:List UInt8}(h:k+bs.length<=8):AB (mM x k bs)=Cq (AB x) (1+k) (Bp bs):=by
 have e:Cq (AB x) (1+k) (Bp bs)=I x.no::Cq (Bp x.b) k (Bp bs):=by unfold Cq AB;rw[At2 1 k,Av9,show k+1+(Bp bs).length=(k+(Bp bs).length)+1 by omega,At8];rfl
 rw[e,uE];unfold AB;rw[Ahr,Ahs h]
theorem Aqs {H:AH}{w s:AV}{l:List Ext}{bs:List UInt8}{x:Ext}{i k m:Nat}{a b:Int}(D:Ac H 9 w=some (l.flatMap AB,l.length))(B:Bm w=true)(h:l[i]?=some x)(hs:Ac H 1 s=some (Bp bs,m))(z:k+bs.length<=8)(t:a=i)(u:b=k):
  ∃p q d H',AY 9 w (I a)=some p/\Ab 1 p=some q/\Ty 8 1 H q (some (I b)) none=some d/\YX 1 H d s=some (I bs.length,H')/\H'.length=H.length/\(∀j,j∉Ba w->H'[j]?=H[j]?)/\Ac H' 9 w=some ((l.set i (mM x k bs)).flatMap AB,l.length):=by
 subst t;subst u;have v:=(BG.1 h).1;obtain⟨o,e,E,cells,rfl,f,g,r⟩:=Ju D B (by omega);have C:=(BG.1 f).1;have A:m=bs.length:=by have:=BW hs;rw[BY]at this;omega
 subst A;have F:i*9+9<=l.length*9:=by rw[<- An4];exact Ak5 _ v
 have n:min bs.length (8 - k)=bs.length:=by omega
 refine⟨.ptr o (e+i*9),.ptr o (e+i*9+1),.sl o (e+i*9+1+k) (8 - k) 1 (.ex (8 - k)),H.set o (some (.cells (Cq cells (e+(i*9+(1+k))) (Bp bs)))),?_,rfl,?_,?_,by simp,λj y=>Cc (by simp[Ba]at y;omega),?_⟩
 ·simp only[AY,OG];rw[if_pos ⟨by omega,by omega⟩];simp
 ·simp[Ty,BL,f];omega
 ·unfold YX Abn;rw[AA hs];simp only[f];rw[if_pos ⟨trivial,by omega⟩,n,Ao5,Aj3 (by rw[BY];omega)];simp only[show e+i*9+1+k=e+(i*9+(1+k)) by omega]
 ·rw[AS (c:=Cq cells (e+(i*9+(1+k))) (Bp bs)) (by simp[C]) (by rw[Jt (by rw[BY];omega)];exact g)];rw[UA g (by rw[BY];omega),<- r,U9 AD h (zQ z) (by rw[BY];omega)]
theorem ZJ (pos:Int)(n:Nat)(e:n<=281474976710656):Ba2 98 [I pos,I n] (B (decide (0<=pos/\n<=4096/\pos<=1099511627776 - n))):=BPure.flat λH=>oT (by
 unfold kT;by_cases c:0<=pos
 ·by_cases d:n<=4096
  ·have:(n:Int)<=4096:=by omega
   simp[c,d,this,B4 (a:=1099511627776) (b:=n) (by omega) (by omega)]
  ·have:¬(n:Int)<=4096:=by omega
   simp[c,d,this]
 ·simp[c])
theorem oX {size:Int}{l:List Ext}{v bv:AV}{bs:List UInt8}(y:SV AB 9 l v)(hl:l.length<=1000000)(pos:Int)(D:SV Ft 1 bs bv)(ai:bs.length<=281474976710656):
  ∃R,SV AB 9 (cL (Ej (size,l) pos bs)) R/\Ba2 188 [.agg [I size,v],I pos,bv] (.tup [.agg [I (cS (Ej (size,l) pos bs)),R],B (Ej (size,l) pos bs).isSome]):=by
 refine BPure.cont (by simp[AF,noIds,y.1,D.1]) (mC ?_);unfold dW;simp[Dg y,A1];refine Az (Fu y (by omega)) ?_;by_cases s:CZ size l
 ·simp[s,D.len];refine Az (ZJ pos bs.length ai) ?_;by_cases c:0<=pos/\bs.length<=4096/\pos<=1099511627776 - bs.length
  ·have Q:Ej (size,l) pos bs=some (if bs=[]then(size,l)else(max size (pos+bs.length),Cm l pos bs)):=if_pos ⟨s,c⟩;obtain⟨g1,g2,g3⟩:=c;simp[g1,g2,g3];obtain⟨r,V,⟨w,rfl,a2,W,J,a5⟩,a1⟩:=dK (size:=size) (y.2 [some (.cells [I size,v]),some (.cells [I 0,Ad])]) (Dg y) (by omega);refine bC_of a1 ?_;have c0:=J.cells (o:=0) (x:=some (.cells [I size,v])) rfl;have X:=J.cells (o:=1) (x:=some (.cells [I 0,Ad])) rfl;have al:=J.1;simp only[Aa6]at al;have ad:=AI a2;have S:∀j,j<2->j∉Ba w:=λj hj h=>by have:=a5 j h;simp at this;omega
   rw[AG (n:=2) (off:=0) (x:=.agg [I size,w]) (xs:=[I size,w]) (by simp[ad]) c0 rfl (by simp)];simp;by_cases E:bs=[]
   ·subst E;simp[show 0<V.length by omega];rw[AG (n:=2) (off:=0) (x:=.agg [I size,w]) (xs:=[I size,w]) (cs:=[I 0,Ad]) (by simp[ad]) (by rw[Cc (by omega)];exact X) rfl (by simp)];simp[show 1<V.length by omega];exact ContK.some Q (Ai W λi e=>by have c:2<=i:=Am8 λh=>S i h e;rw[Cc (by omega),Cc (by omega)])
   ·have aw:0<bs.length:=List.length_pos_iff.2 E
    rw[if_neg E]at Q;simp[E];obtain⟨pv,P,pq⟩:=lL ⟨pos,bs.length⟩ (unit:=8) (by omega);refine Az pq ?_;have hP:Ey ⟨pos,bs.length⟩ 8=DD bs.length pos bs.length 8:=if_pos ⟨by simp only[MaySpan,May];omega,by simp only;omega,by omega⟩;generalize Ey ⟨pos,(bs.length:Int)⟩ 8=parts at P hP;simp[P.len];have ap:=JX s.2.2;refine WA (λn x1 x2 x3 x6 ae af ag H=>∃(j d:Nat) (w:AV),j+n=parts.length/\x1=I pos/\x2=bv/\x3=.ptr 0 0/\x6=.ptr 1 0/\ae=pv/\af=I parts.length/\ag=I j/\H[0]?=some (some (.cells [I size,w]))/\H[1]?=some (some (.cells [I 0,Ad]))/\
     Ac H 9 w=some ((Cm l pos (bs.take d)).flatMap AB,(Cm l pos (bs.take d)).length)/\Bm w=true/\(∀j,j<2->j∉Ba w)/\d<=bs.length/\parts.drop j=DD (bs.length - d) (pos+d) (bs.length - d:Nat) 8/\j<=d) ?_ parts.length
     ⟨0,0,w,by simp,rfl,rfl,rfl,rfl,rfl,rfl,rfl,HU (by omega),(Cc (by omega)).trans X,?_,a2,S,by omega,by simpa using hP,by omega⟩
    ·rintro n x1 x2 x3 x6 ae af ag H R hR ⟨j,d,w,hj,rfl,rfl,rfl,rfl,rfl,rfl,rfl,A,F,C,ko,t,kd,u,kj⟩;unfold Ql;by_cases hd:d<bs.length
     ·rw[aP (by omega) (by omega) (by omega) (by omega)]at u;obtain⟨m,hm⟩:∃m:Nat,(m:Int)=min ((bs.length - d:Nat):Int) (8 - (pos+d) % 8):=⟨(min ((bs.length - d:Nat):Int) (8 - (pos+d) % 8)).toNat,by omega⟩;rw[<- hm]at u;have ab:parts[j]?=some ⟨pos+d,m⟩:=by have:=congrArg (λq=>q[0]?) u;simpa using this
      have N:=(BG.1 ab).1;simp[N,P.idx iT ab rfl,B9,A1,AU,JQ (a:=pos+d) (b:=8) (by omega) (by omega) (by omega)];have g:=Grew.app H [some (.cells [I (pos+d),I m])];have am:=Aek (bs:=bs.take d) (l:=l) (p:=pos);have aq:(bs.take d).length=d:=by rw[Aj4];omega
      have z:=rA (bs:=bs.take d) ap pos;generalize hL:Cm l pos (bs.take d)=L at C am z;have Y:=(BG.1 A).1;have Z:=(BG.1 F).1;obtain⟨f,⟨w',q1,q2,q3,q4,q5,q6,q7⟩,q8⟩:=XK (no:=(pos+d)/8) (g.cells A) (g.slice C) ko (t 0 (by omega)) z (by omega);refine bC_of q8 ?_;have M:∀i,i<H.length->i∉Ba w->i∉Ba w':=λi s c h3=>(q7 i h3).elim c (λh=>by simp at h;omega);have z1:f[1]?=some (some (.cells [I 0,Ad])):=by rw[q6 1 (by simp;omega) (by omega) (t 1 (by omega))];exact g.cells F
      have z2:f[H.length]?=some (some (.cells [I (pos+d),I m])):=by rw[q6 H.length (by simp) (by omega) (λh=>by have:=A5 C _ h;omega)];simp
      obtain⟨x,hx,ar⟩:=Ahq z ((pos+d)/8);obtain⟨ax,s1,s2,-,-,s3⟩:=DS (H:=f) (D.bytes f) (lo:=some (I d)) (hi:=none) (l:=d) (k:=bs.length) (by simp[BL]) rfl kd (Aj7 _);obtain⟨au,t1,t2,-,-,-⟩:=DS (H:=f) s2 (lo:=none) (hi:=some (I m)) (l:=0) (k:=m) rfl (by simp[BL]) (by omega) (by omega);have t3:Ac f 1 au=some (Bp ((bs.drop d).take m),m):=by rw[t2];simp[PR,YH];rw[Aj3 (l:=bs.drop d) (by simp)]
      have K:((bs.drop d).take m).length=m:=by rw[Aj4,Aj9];omega
      obtain⟨p,q,dd,av,u1,u2,u3,u4,u5,u6,G⟩:=Aqs (a:=posL L ((pos+d)/8)) (b:=pos+d - (pos+d)/8*8) (k:=((pos+d) % 8).toNat) q2 q3 hx t3 (by omega) rfl (by omega);rw[K]at u4;simp[q1,z2,u1,u2,Dp (a:=(pos+d)/8) (b:=8) (by omega) (by omega),B4 (a:=pos+d) (b:=(pos+d)/8*8) (by omega) (by omega),u3,B4 (a:=pos+d) (b:=pos) (by omega) (by omega),show pos+(d:Int) - pos=d by omega,s1,t1,u4,Au (a:=j) (b:=1) (by omega) (by omega)];rw[Ahx (L5 z _) hx,ar]at G;have aa:mN (Em L ((pos+d)/8)) ((pos+d)/8) ((pos+d) % 8).toNat ((bs.drop d).take m)=Cm l pos (bs.take (d+m)):=by show EV L (pos+d) _=_;rw[Aia z (by omega) (λh=>by rw[h]at K;simp at K;omega),<- hL,List.take_add,Aej,aq]
      rw[aa]at G;have an:(Em L ((pos+d)/8)).length=(Cm l pos (bs.take (d+m))).length:=by rw[<- aa];simp[mN]
      rw[an]at G;refine hR (n - 1) _ _ _ _ _ _ _ _ (by omega) ⟨j+1,d+m,w',by omega,rfl,rfl,rfl,rfl,rfl,rfl,rfl,?_,?_,G,q3,λi e=>M i (by omega) (t i e),by omega,?_,by omega⟩
      ·rw[u6 0 (M 0 (by omega) (t 0 (by omega)))];exact q1
      ·rw[u6 1 (M 1 (by omega) (t 1 (by omega)))];exact z1
      ·have:=congrArg List.tail u;rw[List.tail_drop]at this;rw[this,List.tail_cons,show pos+(d:Int)+m=pos+((d+m:Nat):Int) by omega,show((bs.length - d:Nat):Int) - m=((bs.length - (d+m):Nat):Int) by omega];rfl
     ·have aj:d=bs.length:=by omega
      subst aj;rw[aQ (by omega)]at u;have N:¬j<parts.length:=λh=>by have:=congrArg List.length u;rw[Aj9]at this;simp at this;omega
      rw[An6]at C;have Y:=(BG.1 A).1;have Z:=(BG.1 F).1;have ak:=AI ko;have ao:max (pos+(bs.length:Int)) size=max size (pos+bs.length):=by omega
      simp[N,A,D.len,Au (a:=pos) (b:=bs.length) (by omega) (by omega),ao];rw[AG (n:=1) (off:=0) (xs:=[I (max size (pos+bs.length))]) (cs:=[I size,w]) rfl A rfl (by simp)];simp[Y,A1];rw[AG (n:=2) (off:=0) (xs:=[I (max size (pos+bs.length)),w]) (cs:=[I 0,Ad]) (by simp[ak]) ((Cc (by omega)).trans F) rfl (by simp)];simp[Z];exact ContK.some Q (Ai C λi e=>by have c:2<=i:=Am8 λh=>t i h e;rw[Cc (by omega),Cc (by omega)])
    ·simp only[Ap7,Cm];exact Ai W λi e=>by have c:2<=i:=Am8 λh=>S i h e;rw[Cc (by omega)]
  ·have O:Ej (size,l) pos bs=none:=if_neg (λh=>c h.2);have ah:¬(0<=pos/\bs.length<=4096/\pos<=1099511627776 - bs.length):=c;simp[ah,AU];exact ContK.none O
 ·have O:Ej (size,l) pos bs=none:=if_neg (λh=>s h.1);simp[s,AU];exact ContK.none O
theorem Ada {H:AH}{w:AV}{l:List Ext}{n k:Nat}{a:Int}{x:Ext}(f:Ac H 9 w=some (l.flatMap AB,n))(g:l[k]?=some x)(o:a=k):
  ∃p q,AY 9 w (I a)=some p/\Ab 0 p=some q/\Aq false 1 H q=some (I x.no)/\Aq true 9 H p=some (.agg (AB x)):=by
 have r:=(BG.1 g).1;have s:n=l.length:=by have d:=BW f;have b:=NC AD l;omega
 obtain⟨p,c,d,b,h,i⟩:=I8 f o (show k<n by omega);obtain⟨q,j,m⟩:=iI (k:=0) b;have e:c.take 9=AB x:=by rw[h,DA AD g,Ak9 (by rw[AD];omega),Aj3 (by rw[AD];omega)]
 refine⟨p,q,d,j,?_,?_⟩
 ·rw[PW m (by omega) (by simp;omega),Ae];have:=congrArg (λl=>l[0]?) e;simp only[Al8]at this|-;rw[Ao2 (by omega)]at this;exact this
 ·rw[PW b (by omega) i,Kq (by omega),Al8,e]
theorem Aqt {H:AH}{w:AV}{l:List Ext}{y:UInt8}{x:Ext}{i k:Nat}{a b:Int}(A:Ac H 9 w=some (l.flatMap AB,l.length))(v:Bm w=true)(h:l[i]?=some x)(C:k<8)(r:a=i)(s:b=k):
  ∃p q d H',AY 9 w (I a)=some p/\Ab 1 p=some q/\W7 8 1 q (I b)=some d/\AU 1 H d (.lit (.int .u8 y.toNat))=some H'/\H'.length=H.length/\(∀j,j∉Ba w->H'[j]?=H[j]?)/\Ac H' 9 w=some ((l.set i (mM x k [y])).flatMap AB,l.length):=by
 subst r;subst s;have t:=(BG.1 h).1;obtain⟨o,e,B,cells,rfl,f,g,m⟩:=Ju A v (by omega);have z:=(BG.1 f).1;have D:i*9+9<=l.length*9:=by rw[<- An4];exact Ak5 _ t
 refine⟨.ptr o (e+i*9),.ptr o (e+i*9+1),.ptr o (e+(i*9+(1+k))),H.set o (some (.cells (Cq cells (e+(i*9+(1+k))) (Bp [y])))),?_,rfl,?_,?_,by simp,λj u=>Cc (by simp[Ba]at u;omega),?_⟩
 ·simp only[AY,OG];rw[if_pos ⟨by omega,by omega⟩];simp
 ·simp only[W7,OG];rw[if_pos ⟨by omega,by omega⟩];simp only[Al,Ap6,Ao5];rw[show e+i*9+1+k=e+(i*9+(1+k)) by omega]
 ·rw[AG (n:=1) (off:=e+(i*9+(1+k))) (xs:=Bp [y]) rfl f rfl (by omega),Fp _ _ _ (by rw[BY];simp;omega)];rfl
 ·rw[AS (c:=Cq cells (e+(i*9+(1+k))) (Bp [y])) (by simp[z]) (by rw[Jt (by rw[BY];simp;omega)];exact g)];rw[UA g (by rw[BY];simp;omega),<- m,U9 AD h (zQ (by simp;omega)) (by rw[BY];simp;omega)]
theorem VF {H:AH}{size:Int}{v:AV}{cs:List AV}{n:Nat}(h:Ac H 9 v=some (cs,n))(s:oneA v=true)(t:n<=1000000000):
  ∃r H',(∃w,r=.agg [I size,w]/\Bm w=true/\Ac H' 9 w=some (cs,n)/\Grew H H'/\∀i∈Ba w,H.length<=i)/\Ba0 140 [.agg [I size,v]] H r H':=WW (by
 unfold Rt;have g:=Grew.app H [some (.cells [I size,v]),some (.cells [I 0,Ad])];obtain⟨w,b,j,a2,k,d,l,m⟩:=Cn (sz:=9) (bytes:=16) (H:=H++[some (.cells [I size,v]),some (.cells [I 0,Ad])]) (v:=Ad) (cs:=[]) (n:=0) rfl rfl (AA (g.slice h)) (by omega);have c:Grew (H++[some (.cells [I size,v]),some (.cells [I 0,Ad])]) b:=⟨d,λi a=>l i a (by simp[Ba])⟩;have p:=c.cells (o:=H.length) (x:=some (.cells [I size,v])) (by simp);have q:=c.cells (o:=H.length+1) (x:=some (.cells [I 0,Ad])) (by rw[Aj8 (by omega)];simp);have u:H.length+2<=b.length:=by simpa using d
 have f:=AI a2;have e:∀i∈Ba w,H.length+2<=i:=λi a=>(m i a).elim (by simp[Ba]) (λh=>by simpa using h);simp[s,j,Bn f];rw[AG (n:=2) (off:=0) (x:=.agg [I size,w]) (xs:=[I size,w]) (cs:=[I 0,Ad]) (by simp[f]) q rfl (by simp)];simp[show H.length+1<b.length by omega,p,A1];refine⟨a2,by simpa using(Ai k λi a=>Cc (by have:=e i a;omega)),?_,λi a=>?_⟩
 ·refine⟨by simp;omega,λi a=>?_⟩;rw[Cc (by omega),c.2 i (by simp;omega),g.2 i a]
 ·have:=e i a;omega)
abbrev Ad4:=And.intro @List.drop_zero.{0} @Nat.sub_zero
theorem lO {H : AH} {oc : Nat} {size no : Int} {v : AV} {l : List Ext} (j : H[oc]? = some (some (.cells [I size,v]))) (o : Ac H 9 v=some (l.flatMap AB,l.length)) (ho : Bm v=true) (af : oc ∉ Ba v) (hs : srt l) (hl : l.length<=100000000) :
    ∃H',Acy H oc size v (Em l no) H'/\Ba0 183 [.ptr oc 0,I no] H (I (posL l no)) H':=by
  have key:∃r H',(r=I (posL l no)/\Acy H oc size v (Em l no) H')/\Ba0 183 [.ptr oc 0,I no] H r H':=Zs (by
    unfold UP;have ad:=(BG.1 j).1;refine TI (λn x0 x1 x5 H'=>∃k:Nat,k+n=l.length/\x0=.ptr oc 0/\x1=I no/\x5=I k/\H'=H/\∀m x,m<k->l[m]?=some x->x.no<no) ?_ l.length ⟨0,by simp,rfl,rfl,rfl,rfl,by simp⟩;rintro n x0 x1 x5 H' R hR ⟨k,hk,rfl,rfl,rfl,M,O⟩
    replace M:=M.symm
    subst M;unfold MH;have ae:(∃y,l[k]?=some y/\y.no<no)\/(∃y,l[k]?=some y/\y.no=no)\/(∃y,l[k]?=some y/\no<y.no)\/k=l.length:=by
      rcases Aj5 k l.length with h | h
      · have f:=Dq h;rcases Int.lt_trichotomy (l[k]).no no with c | c | c
        · exact .inl ⟨_,f,c⟩
        · exact .inr (.inl ⟨_,f,c⟩)
        · exact .inr (.inr (.inl ⟨_,f,c⟩))
      · exact .inr (.inr (.inr (by omega)))
    have D:=Bt o;rcases ae with⟨y,g,c⟩ | ⟨y,g,c⟩ | C | C
    · obtain⟨p,q,t,u,w,-⟩:=Ada (a:=k) o g rfl;have s:=(BG.1 g).1;simp[D,s,t,u,w,c,-CY,Ah j];simp[Au (a:=k) (b:=1) (by omega) (by omega)];refine hR (n - 1) _ _ _ _ (by omega) ⟨k+1,by omega,rfl,rfl,rfl,rfl,λm x aj f=>?_⟩
      by_cases h:m=k
      · subst h;rw[g]at f;injection f with f;rw[<- f];exact c
      · exact O m x (by omega) f
    · obtain⟨p,q,t,u,w,-⟩:=Ada (a:=k) o g rfl;have s:=(BG.1 g).1;have N:Cp l no:=⟨y,Aj2 g,c⟩;have A:posL l no=k:=by rw[<- c];exact Agy hs g
      have e:Em l no=l:=if_pos N;simp[D,s,t,u,w,c,-CY,Ah j];rw[A,e];exact⟨rfl,v,j,o,ho,af,Aj7 _,λ_ _ _ _=>rfl,λi d=>.inl d⟩
    all_goals
      have h:(∃y,l[k]?=some y/\no<y.no)\/k=l.length:=by first | exact .inl C | exact .inr C
      have A:posL l no=k:=by
        rcases h with⟨y,g,c⟩ | h
        · exact VD (by omega) O (λx f=>by rw[g]at f;injection f with f;rw[<- f];omega)
        · exact VD (by omega) O (λx f=>by have:=(BG.1 f).1;omega)
      have N:¬Cp l no:=by
        rw[XT hs,A];rintro⟨z,B,e⟩;rcases h with⟨y,g,c⟩ | h
        · rw[g]at B;injection B with B;rw[B]at c;omega
        · have:=(BG.1 B).1;omega
      have e:Em l no=l.take k++U6 no::l.drop k:=by rw[<- A];exact if_neg N
      obtain⟨r1,f1,T,f3,f4,-⟩:=DS o (lo:=none) (hi:=some (I k)) (l:=0) (k:=k) rfl (by simp[BL]) (by omega) (by omega);simp only[Au3,Ad4,IA AD]at T;obtain⟨r2,F,a1,a2,a3,a4,a5,a6⟩:=Cn (sz:=9) (bytes:=16) (H:=H) (v:=Ad) (cs:=[]) (n:=0) rfl rfl (AA T) (by omega);have g2:Grew H F:=⟨a4,λi d=>a5 i d (by simp[Ba])⟩;have U:=Grew.app F [some (.cells (AB (U6 no)))];obtain⟨r3,G,P,b2,b3,K,b5,b6⟩:=Cn (sz:=9) (bytes:=16) (U.slice a3) a2 (AA (v:=.sl F.length 0 1 9 (.ex 1)) (q:=(AB (U6 no),1)) (by simp[Ac,AD,Aj3])) (by omega);have Y:∀i∈Ba r2,H.length<=i:=λi d=>(a6 i d).elim (by simp[Ba]) id;have L:∀i,i<H.length->G[i]?=H[i]?:=λi d=>by rw[b5 i (by simp;omega) (λh=>by have:=Y i h;omega),U.2 i (by omega),g2.2 i d]
      have c3:G[oc]?=some (some (.cells [I size,v])):=by rw[L oc ad];exact j
      have ah:Ac G 9 v=some (l.flatMap AB,l.length):=Ai o λi d=>L i (A5 o i d);obtain⟨r4,d1,S,d3,d4,-⟩:=DS ah (lo:=some (I k)) (hi:=none) (l:=k) (k:=l.length) (by simp[BL]) rfl (by omega) (by omega);rw[Hj AD,Aj3 (by rw[NC AD,Aj9];omega)]at S;obtain⟨E,J,j1,j2,j3,j4,j5,j6⟩:=Cn (sz:=9) (bytes:=16) b3 b2 (AA S) (by omega);have Z:∀i∈Ba r3,H.length<=i:=λi d=>(b6 i d).elim (Y i) (λh=>by simp at h;omega);have aa:∀i∈Ba E,H.length<=i:=λi d=>(j6 i d).elim (Z i) (λh=>by simp at K;omega);have V:∀i,i<H.length->J[i]?=H[i]?:=λi d=>by rw[j5 i (by simp at K;omega) (λh=>by have:=Z i h;omega),L i d]
      have Q:J[oc]?=some (some (.cells [I size,v])):=by rw[V oc ad];exact j
      have ag:=(BG.1 Q).1;have ai:H.length<=J.length:=by simp at K;omega
      rw[oN]at P
      first
        | (obtain ⟨y,g,c⟩:=C
           obtain⟨p,q,t,u,w,-⟩:=Ada (a:=k) o g rfl;have s:=(BG.1 g).1;simp[D,s,t,u,w,show ¬y.no<no by omega,show ¬y.no=no by omega,-CY,Ah j])
        | (have s : ¬ k < l.length:=by omega
           simp[D,s,-CY,Ah j])
      simp[f1,a1,-CY];simp[P,Ah c3,d1,j1,-CY];rw[AG (n:=1) (off:=1) (xs:=[E]) (cs:=[I size,v]) (Bn (AI j2)) Q rfl (by simp)];simp;have ab:oc∉Ba E:=λh=>by have:=aa oc h;omega
      refine⟨by rw[A],E,by simp[ag],?_,j2,ab,by simp;omega,λi d W X=>?_,λi d=>.inr (aa i d)⟩
      · rw[Ai j3 (λi d=>Cc (fun (h:oc=i)=>ab (h▸d))),e];simp[Am6];omega
      · rw[Cc (by omega),V i d])
  obtain⟨r,H',⟨rfl,W⟩,X⟩:=key;exact⟨H',W,X⟩
abbrev Ae9:=And.intro @Aa8 @Int.lt_irrefl
theorem Qz {size:Int}{l:List Ext}{v bv:AV}{bs:List UInt8}(C:SV AB 9 l v)(hl:l.length<=1000000)(pos:Int)(f:SV Ft 1 bs bv)(ao:bs.length<=281474976710656):
  ∃R,SV AB 9 (cL (Ej (size,l) pos bs)) R/\Ba2 142 [.agg [I size,v],I pos,bv] (.tup [.agg [I (cS (Ej (size,l) pos bs)),R],B (Ej (size,l) pos bs).isSome]):=by
 refine BPure.cont (by simp[AF,noIds,C.1,f.1]) (PL ?_);unfold J8;simp[Dg C,A1];refine Az (CW C (by omega)) ?_;by_cases e:CZ size l
 ·by_cases O:pos<0
  ·have m:Ej (size,l) pos bs=none:=if_neg (λh=>by omega);simp[e,O,AU];exact ContK.none m
  ·by_cases z:4096<bs.length
   ·have m:Ej (size,l) pos bs=none:=if_neg (λh=>by omega);simp[e,O,f.len,show(4096:Int)<bs.length by omega,AU];exact ContK.none m
   ·simp[e,O,f.len,show ¬(4096:Int)<bs.length by omega,B4 (a:=1099511627776) (b:=bs.length) (by omega) (by omega)];by_cases G:1099511627776 - (bs.length:Int)<pos
    ·have m:Ej (size,l) pos bs=none:=if_neg (λh=>by omega);simp[G,AU];exact ContK.none m
    ·have J:Ej (size,l) pos bs=some (if bs=[]then(size,l)else(max size (pos+bs.length),Cm l pos bs)):=if_pos ⟨e,by omega,by omega,by omega⟩;simp[G];obtain⟨r,c,⟨w,rfl,a2,a3,N,a5⟩,a1⟩:=VF (size:=size) (C.2 [some (.cells [I size,v]),some (.cells [I 0,Ad])]) (Dg C) (by omega);refine bC_of a1 ?_;have c0:=N.cells (o:=0) (x:=some (.cells [I size,v])) rfl;have c1:=N.cells (o:=1) (x:=some (.cells [I 0,Ad])) rfl;have V:=N.1;simp only[Aa6]at V;have ak:=AI a2;have Y:∀j,j<2->j∉Ba w:=λj hj h=>by have:=a5 j h;simp at this;omega
     rw[AG (n:=2) (off:=0) (x:=.agg [I size,w]) (xs:=[I size,w]) (by simp[ak]) c0 rfl (by simp)];simp;have ai:=JX e.2.2;refine LT (λn x1 x2 x3 x6 x8 H=>∃(d:Nat) (w:AV),d+n=bs.length/\x1=I pos/\x2=bv/\x3=.ptr 0 0/\x6=.ptr 1 0/\x8=I d/\H[0]?=some (some (.cells [I size,w]))/\H[1]?=some (some (.cells [I 0,Ad]))/\
      Ac H 9 w=some ((Cm l pos (bs.take d)).flatMap AB,(Cm l pos (bs.take d)).length)/\Bm w=true/\(∀j,j<2->j∉Ba w)) ?_ bs.length
      ⟨0,w,by simp,rfl,rfl,rfl,rfl,rfl,HU (by omega),(Cc (by omega)).trans c1,?_,a2,Y⟩
     ·rintro n x1 x2 x3 x6 x8 H R hR ⟨d,w,ap,rfl,rfl,rfl,rfl,rfl,u,E,F,Z,t⟩;unfold GB;by_cases U:d<bs.length
      ·have ae:=Aek (bs:=bs.take d) (l:=l) (p:=pos);have aj:(bs.take d).length=d:=by rw[Aj4];omega
       have D:=rA (bs:=bs.take d) ai pos;generalize hL:Cm l pos (bs.take d)=L at F ae D;have Q:=Dq U;generalize bs[d]=y at Q;simp[f.len,U,Au (a:=pos) (b:=d) (by omega) (by omega),JQ (a:=pos+d) (b:=8) (by omega) (by omega) (by omega)];obtain⟨M,⟨w',q1,q2,q3,q4,q5,q6,q7⟩,q8⟩:=lO (no:=(pos+d)/8) u F Z (t 0 (by omega)) D (by omega);refine bC_of q8 ?_;have S:=(BG.1 u).1;have T:=(BG.1 E).1;have P:∀i,i<H.length->i∉Ba w->i∉Ba w':=λi e z G=>(q7 i G).elim z (λh=>by omega);have z1:M[1]?=some (some (.cells [I 0,Ad])):=by rw[q6 1 T (by omega) (t 1 (by omega))];exact E
       obtain⟨x,X,al⟩:=Ahq D ((pos+d)/8);obtain⟨p,q,dd,am,u1,u2,u3,u4,u5,u6,K⟩:=Aqt (y:=y) (a:=posL L ((pos+d)/8)) (b:=(pos+d) % 8) (k:=((pos+d) % 8).toNat) q2 q3 X (by omega) rfl (by omega);obtain⟨p2,s1,-,s2⟩:=Aos (H:=M) (f.bytes M) (i:=d) (k:=d) rfl Q;simp[q1,YB (a:=pos+d) (b:=8) (by omega) (by omega),s1,s2,u1,u2,u3,u4,Au (a:=d) (b:=1) (by omega) (by omega),-CY];rw[Ahx (L5 D _) X,al]at K;have W:mN (Em L ((pos+d)/8)) ((pos+d)/8) ((pos+d) % 8).toNat [y]=Cm l pos (bs.take (d+1)):=by show EV L (pos+d) _=_;rw[Aia D (by simp;omega) (by simp),<- hL,An5,Q,Aej,aj];rfl
       rw[W]at K;have ag:(Em L ((pos+d)/8)).length=(Cm l pos (bs.take (d+1))).length:=by rw[<- W];simp[mN]
       rw[ag]at K;refine hR (n - 1) _ _ _ _ _ _ (by omega) ⟨d+1,w',by omega,rfl,rfl,rfl,rfl,rfl,?_,?_,K,q3,λi g=>P i (by omega) (t i g)⟩
       ·rw[u6 0 (P 0 (by omega) (t 0 (by omega)))];exact q1
       ·rw[u6 1 (P 1 (by omega) (t 1 (by omega)))];exact z1
      ·have ab:d=bs.length:=by omega
       subst ab;rw[An6]at F;have S:=(BG.1 u).1;have T:=(BG.1 E).1;have ad:=AI Z;have tail:∀s c,c.length=H.length->c[0]?=some (some (.cells [I s,w]))->c[1]?=some (some (.cells [I 0,Ad]))->Ac c 9 w=some ((Cm l pos bs).flatMap AB,(Cm l pos bs).length)->Ej (size,l) pos bs=some (s,Cm l pos bs)->Dw (.ptr 0 0) (.ptr 1 0) c (ContK (Ej (size,l) pos bs)):=by intro s c V e0 e1 e2 e3;rw[Mx];unfold Gi;simp[-CY,Ah e0,A1];rw[AG (n:=2) (off:=0) (xs:=[I s,w]) (cs:=[I 0,Ad]) (by simp[ad]) e1 rfl (by simp)];simp[show 1<c.length by omega,A1];exact ContK.some e3 (Ai e2 λi g=>by have z:2<=i:=Am8 λh=>t i h g;rw[Cc (by omega)])
       by_cases A:bs=[]
       ·rw[if_pos A]at J;have an:¬0<bs.length:=by rw[A];simp
        simp only[f.len,Ac1,C8,Ae9,show ¬(0:Int)<bs.length by omega];refine tail size H rfl u E F ?_;rw[J,A];rfl
       ·rw[if_neg A]at J;have af:0<bs.length:=List.length_pos_iff.2 A;have ah:max (pos+(bs.length:Int)) size=max size (pos+bs.length):=by omega
        simp[f.len,af,-CY,Ah u,Au (a:=pos) (b:=bs.length) (by omega) (by omega),ah];rw[AG (n:=1) (off:=0) (xs:=[I (max size (pos+bs.length))]) (cs:=[I size,w]) rfl u rfl (by simp)];simp;refine tail _ _ (by simp) (HU S) ((Cc (by omega)).trans E) (Ai F λi g=>by have z:2<=i:=Am8 λh=>t i h g;rw[Cc (by omega)]) J
     ·simp only[Ap7,Cm];exact Ai a3 λi g=>by have z:2<=i:=Am8 λh=>Y i h g;rw[Cc (by omega)]
 ·have m:Ej (size,l) pos bs=none:=if_neg (λh=>e h.1);simp[e,AU];exact ContK.none m
section
variable {κ α : Type} [DecidableEq κ] {c : κ->κ->Int} {key : α->κ}
def Aaf (key:α->κ)(l:List α)(k:κ):Option α:=l.find? (λx=>decide (key x=k))
abbrev Au2:=@List.mem_of_find?_eq_some
theorem mX {l:List α}{k:κ}(h:Bo key l k):∃x,Aaf key l k=some x/\x∈l/\key x=k:=by
 obtain⟨y,b,e⟩:=h;unfold Aaf;cases a:l.find? (λx=>decide (key x=k))with
 | none=>rw[Au8]at a;have:=a y b;simp[e]at this
 | some x=>exact⟨x,rfl,Au2 a,by simpa using List.find?_some a⟩
theorem nX {l:List α}{k:κ}(h:¬Bo key l k):Aaf key l k=none:=by
 unfold Aaf;rw[Au8];intro x a;simp only[decide_eq_true_eq];exact λe=>h ⟨x,a,e⟩
theorem vP (f:KO c){l:List α}(hs:CQ c key l){x:α}(a:x∈l):Aaf key l (key x)=some x:=by
 obtain⟨y,b,d,e⟩:=mX (l:=l) (k:=key x) ⟨x,a,rfl⟩;rw[b,kA f hs d a e]
theorem Ie (b:KO c){l:List α}(hs:CQ c key l){k:κ}(h:Bo key l k):∃x,l[DG c key l k]?=some x/\Aaf key l k=some x/\key x=k:=by
 obtain⟨x,a,rfl⟩:=(Qt b hs).1 h;exact⟨x,a,vP b hs (Aj2 a),rfl⟩
end
theorem RV {l:List NdV}:CQ Cj Nd.ino (l.map NdV.nd)↔CQ Cj NdV.ino l:=by
 unfold CQ;rw[As0]
theorem Ly {l:List NdV}{k:Int}:Bo Nd.ino (l.map NdV.nd) k↔Bo NdV.ino l k:=by
 constructor
 ·rintro⟨x,b,e⟩;obtain⟨y,a,rfl⟩:=Am5.1 b;exact⟨y,a,e⟩
 ·rintro⟨y,a,e⟩;exact⟨y.nd,Al9 a,e⟩
theorem Qx {l:List NdV}{k:Int}:DG Cj Nd.ino (l.map NdV.nd) k=DG Cj NdV.ino l k:=by
 unfold DG;rw[List.takeWhile_map,Ak8];rfl
theorem fC {ns:List Nm}{a b:AV}{e:List NdV}(c:SV Ct 2 ns a)(d:SV BS 3 e b)(hs:CQ Bv Nm.name ns)(hl:ns.length<=281474976710656)(s:List UInt8):
  Ba2 51 [.agg [a,b],S (Ax s)] (.tup [I (DG Bv Nm.name ns s),B (decide (Bo Nm.name ns s))]):=BPure.val (by simp[AF,noIds,c.1,d.1]) rfl (pP (by
 unfold lF;have f:=SV.oneA c;have g:=SV.oneA d;simp[f,g];refine Az (Apg c hs hl s) ?_;simp))
theorem qB {ns:List Nm}{a b:AV}{c:List NdV}(e:SV Ct 2 ns a)(d:SV BS 3 c b)(hs:CQ Cj NdV.ino c)(hl:c.length<=281474976710656)(no:Int):
  Ba2 41 [.agg [a,b],I no] (.tup [I (DG Cj NdV.ino c no),B (decide (Bo NdV.ino c no))]):=BPure.val (by simp[AF,noIds,e.1,d.1]) rfl (sB (by
 unfold pR;have f:=SV.oneA e;have g:=SV.oneA d;simp[f,g];refine Az (Aph d hs hl no) ?_;simp))
theorem Aqu {l:List Ext}{v:AV}(a:SV AB 9 l v)(hl:l.length<=1000000000):∃R,SV AB 9 l R/\Ba2 95 [v] R:=by
 obtain⟨r,X,⟨-,b,-,-⟩,c⟩:=kR (a.2 []) hl;exact BPure.sl (by simp[AF,a.1]) (EF λx _=>Ic x) ⟨r,X,b,c⟩
theorem yY {l:List Ext}{v:AV}{size:Int}(b:SV AB 9 l v)(hl:l.length<=1000000000):∃R,SV AB 9 l R/\Ba2 42 [.agg [I size,v]] (.agg [I size,R]):=by
 obtain⟨R,a,d⟩:=Aqu b hl;refine⟨R,a,BPure.val (by simp[AF,noIds,b.1]) (by simp[noIds,AF,a.1]) (mH ?_)⟩;unfold eP;have e:=SV.oneA b;have c:=SV.oneA a;simp[e];refine bP_of d ?_;simp[c,Bn c,AU,Bb,A1]
theorem yZ {l:List Ext}{v:AV}{size:Int}(a:SV AB 9 l v)(hl:l.length<=1000000000):∃R,SV AB 9 l R/\Ba2 140 [.agg [I size,v]] (.agg [I size,R]):=by
 obtain⟨r,X,⟨w,rfl,i,d,-,-⟩,e⟩:=VF (size:=size) (a.2 []) (SV.oneA a) hl;obtain⟨R,f,c⟩:=FZ.sv d (EF λx _=>Ic x);obtain⟨g,rfl,h⟩:=BPure.FZ (Q:=λb=>b=.agg [I size,R]) (by simp[AF,noIds,a.1]) ⟨_,X,⟨_,FZ.agg (FZs.cons (FZ.lit _) (FZs.cons c FZs.nil)),rfl⟩,e⟩;exact⟨R,f,h⟩
def Dx (ns:List Nm)(s:List UInt8):Int:=match Aaf Nm.name ns s with
 | some x=>x.ino
 | none=>0
def Zf (ns:List Nm)(ds:List Nd)(s:List UInt8):Prop:=Fw ns ds/\Bo Nm.name ns s
instance (ns:List Nm) (ds:List Nd) (s:List UInt8):Decidable (Zf ns ds s):=by unfold Zf;infer_instance
def Wh (ns:List Nm)(ds:List Nd)(s:List UInt8):Int:=if Zf ns ds s then Dx ns s else 0
theorem Aqv {ns:List Nm}{ds:List Nd}{v:AV}(j:ImV ns ds v)(k:Sm ns ds)(s:List UInt8):Ba2 20 [v,S (Ax s)] (.tup [I (Wh ns ds s),B (decide (Zf ns ds s))]):=BPure.val (by have:=j.noIds;simpa[AF,noIds]using this) rfl (rZ (by
 have o:=j;obtain⟨a,b,c,rfl,i,l,rfl⟩:=j;unfold pN;have p:=SV.oneA i;have q:=SV.oneA l;simp[p,q,A1];refine Az (xT o k) ?_;by_cases f:Fw ns (c.map NdV.nd)
 ·simp[f];refine bC_of (fC i l f.1.2.2.1 (by have:=k.1;omega) s _) ?_;by_cases g:Bo Nm.name ns s
  ·obtain⟨x,m,n,r⟩:=Ie koN f.1.2.2.1 g;have e:Wh ns (c.map NdV.nd) s=x.ino:=by unfold Wh Dx;rw[if_pos ⟨f,g⟩,n]
   have d:Zf ns (c.map NdV.nd) s:=⟨f,g⟩;simp[g,i.idx Cg m rfl,oO,e,d]
  ·have d:¬Zf ns (c.map NdV.nd) s:=λh=>g h.2;have e:Wh ns (c.map NdV.nd) s=0:=if_neg d;simp[g,e,d]
 ·have d:¬Zf ns (c.map NdV.nd) s:=λh=>f h.1;have e:Wh ns (c.map NdV.nd) s=0:=if_neg d;simp[f,e,d]))
theorem Aqw {ns:List Nm}{ds:List Nd}{v:AV}(i:ImV ns ds v)(l:Sm ns ds)(s:List UInt8):Ba2 135 [v,S (Ax s)] (.tup [I (Wh ns ds s),B (decide (Zf ns ds s))]):=BPure.val (by have:=i.noIds;simpa[AF,noIds]using this) rfl (Zn (by
 have m:=i;obtain⟨a,b,d,rfl,k,q,rfl⟩:=i;unfold UJ;have r:=SV.oneA k;have t:=SV.oneA q;simp[r,t,A1];refine Az (G4 m l s) ?_;refine Az (If m l) ?_;by_cases c:Fw ns (d.map NdV.nd)
 ·by_cases g:Bo Nm.name ns s
  ·obtain⟨x,o,p,u⟩:=Ie koN c.1.2.2.1 g;have e:Wh ns (d.map NdV.nd) s=x.ino:=by unfold Wh Dx;rw[if_pos ⟨c,g⟩,p]
   have f:Zf ns (d.map NdV.nd) s:=⟨c,g⟩;have n:=Uz koN c.1.2.2.1 g;have j:¬Lf Nm.name ns s<0:=by omega
   simp[c,n,show ¬((DG Bv Nm.name ns s:Nat):Int)<0 by omega,k.idx Cg o rfl,oO,e,f]
  ·have f:¬Zf ns (d.map NdV.nd) s:=λh=>g h.2;have e:Wh ns (d.map NdV.nd) s=0:=if_neg f;have j:Lf Nm.name ns s<0:=IB.2 g;simp[c,j,e,f]
 ·have f:¬Zf ns (d.map NdV.nd) s:=λh=>c h.1;have e:Wh ns (d.map NdV.nd) s=0:=if_neg f;simp[c,e,f]))
end
section
def iZ (ns:List Nm)(ds:List Nd)(no:Int):Prop:=Fw ns ds/\Bo Nd.ino ds no
instance (ns:List Nm) (ds:List Nd) (no:Int):Decidable (iZ ns ds no):=by unfold iZ;infer_instance
def FB (ns:List Nm)(ds:List Nd)(no:Int):Nd:=if iZ ns ds no then(Aaf Nd.ino ds no).getD ⟨0,0,[]⟩else⟨0,0,[]⟩
theorem mY {a:List NdV}{no:Int}{x:NdV}(h:Aaf NdV.ino a no=some x):Aaf Nd.ino (a.map NdV.nd) no=some x.nd:=by
 unfold Aaf at h|-;rw[List.find?_map];show Option.map NdV.nd (a.find? λx=>decide (x.nd.ino=no))=_;rw[show(a.find? λx=>decide (x.nd.ino=no))=some x from h];rfl
theorem Aij {ns:List Nm}{ds:List Nd}{v:AV}(p:ImV ns ds v)(g:Sm ns ds)(no:Int):∃R,SV AB 9 (FB ns ds no).l R/\Ba2 13 [v,I no] (.tup [.agg [I (FB ns ds no).size,R],B (decide (iZ ns ds no))]):=by
 have k:=p;obtain⟨a,b,f,rfl,n,i,rfl⟩:=p;have q:=SV.oneA n;have r:=SV.oneA i;by_cases c:iZ ns (f.map NdV.nd) no
 ·have d:=c.1;have hs:=RV.1 d.2.2.1;have j:=Ly.1 c.2;obtain⟨x,o,s,w⟩:=Ie koI hs j;have e:FB ns (f.map NdV.nd) no=x.nd:=by unfold FB;rw[if_pos c,mY s];rfl
  rw[e];obtain⟨R,m,t⟩:=yY (size:=x.nd.size) x.h (by have:=g.2.2.2 x.nd (Al9 (Aj2 o));omega);refine⟨R,m,BPure.val (by have:=k.noIds;simpa[AF,noIds]using this) (by simp[noIds,AF,m.1]) (eI ?_)⟩;unfold jC;simp[q,r,A1];refine Az (xT k g) ?_;simp[d];refine bC_of (qB n i hs (by have:=g.2.1;simp at this;omega) no _) ?_;simp[j,i.idx BN o rfl];refine Az t ?_;have u:=SV.oneA m;simp[u,AU,Bb,c]
 ·have e:FB ns (f.map NdV.nd) no=⟨0,0,[]⟩:=if_neg c;rw[e];refine⟨Ad,SV.nil,BPure.val (by have:=k.noIds;simpa[AF,noIds]using this) rfl (eI ?_)⟩;unfold jC;simp[q,r,A1];refine Az (xT k g) ?_;by_cases d:Fw ns (f.map NdV.nd)
  ·have hs:=RV.1 d.2.2.1;have j:¬Bo NdV.ino f no:=λh=>c ⟨d,Ly.2 h⟩;simp[d];refine bC_of (qB n i hs (by have:=g.2.1;simp at this;omega) no _) ?_;simp[j,AU,Bb,c]
  ·simp[d,AU,Bb,c]
theorem jV {ns:List Nm}{ds:List Nd}{v:AV}(o:ImV ns ds v)(i:Sm ns ds)(no:Int):∃R,SV AB 9 (FB ns ds no).l R/\Ba2 70 [v,I no] (.tup [.agg [I (FB ns ds no).size,R],B (decide (iZ ns ds no))]):=by
 have g:=o;obtain⟨a,b,d,rfl,u,n,rfl⟩:=o;have p:=SV.oneA u;have q:=SV.oneA n;by_cases c:iZ ns (d.map NdV.nd) no
 ·have f:=c.1;have hs:=RV.1 f.2.2.1;have k:=Ly.1 c.2;obtain⟨x,m,t,z⟩:=Ie koI hs k;have e:FB ns (d.map NdV.nd) no=x.nd:=by unfold FB;rw[if_pos c,mY t];rfl
  rw[e];obtain⟨R,j,w⟩:=yZ (size:=x.nd.size) x.h (by have:=i.2.2.2 x.nd (Al9 (Aj2 m));omega);refine⟨R,j,BPure.val (by have:=g.noIds;simpa[AF,noIds]using this) (by simp[noIds,AF,j.1]) (Rh ?_)⟩;unfold OP;simp[p,q,A1];refine Az (Kb g i no) ?_;refine Az (If g i) ?_;have r:Lf Nd.ino (d.map NdV.nd) no=DG Cj NdV.ino d no:=by rw[Uz koI f.2.2.1 c.2,Qx]
  simp[f,r,show ¬((DG Cj NdV.ino d no:Nat):Int)<0 by omega,n.idx BN m rfl];refine Az w ?_;have y:=SV.oneA j;simp[y,AU,Bb,c]
 ·have e:FB ns (d.map NdV.nd) no=⟨0,0,[]⟩:=if_neg c;rw[e];refine⟨Ad,SV.nil,BPure.val (by have:=g.noIds;simpa[AF,noIds]using this) rfl (Rh ?_)⟩;unfold OP;simp[p,q,A1];refine Az (Kb g i no) ?_;refine Az (If g i) ?_;by_cases f:Fw ns (d.map NdV.nd)
  ·have k:¬Bo Nd.ino (d.map NdV.nd) no:=λh=>c ⟨f,h⟩;have s:=(IB (key:=Nd.ino)).2 k;simp[f,s,AU,Bb,c]
  ·simp[f,AU,Bb,c]
def OW (ds:List Nd):Nat:=(ds.map λd=>d.l.length).sum
def gT (ns:List Nm)(ds:List Nd):Int:=if Fw ns ds then OW ds else 0
theorem uQ {ds:List Nd}{d:Nd}:OW (ds++[d])=OW ds+d.l.length:=by simp[OW]
theorem xI {N:Nat}:∀{ds:List Nd},(∀d∈ds,d.l.length<=N)->OW ds<=ds.length*N
 | [],_=>by simp[OW]
 | d::ds,h=>by have b:=xI (ds:=ds) λx a=>h x (by simp[a]);have:=h d (by simp);unfold OW at b|-;rw[Aq7,List.sum_cons,Al4,An4];omega
theorem uR {ds:List Nd}(h:∀d∈ds,d.l.length<=1000000)(c:ds.length<=100000)(k:Nat):OW (ds.take k)<=100000000000:=by
 have b:=xI (N:=1000000) (ds:=ds.take k) λd a=>h d (An8 a);have:(ds.take k).length<=100000:=by rw[Aj4];omega
 have:=Ak5 1000000 this;omega
theorem Aqx {ns:List Nm}{ds:List Nd}{v:AV}(j:ImV ns ds v)(f:Sm ns ds):Ba2 52 [v] (I (gT ns ds)):=BPure.val j.noIds rfl (sA (by
 have y:=j;obtain⟨a,b,c,rfl,x,i,rfl⟩:=j;have z:=SV.oneA x;have A:=SV.oneA i;have o:=f.2.1;unfold pO;simp[z,A,A1];refine Az (xT y f) ?_;by_cases g:Fw ns (c.map NdV.nd)
 ·simp[g,i.len];have e:gT ns (c.map NdV.nd)=OW (c.map NdV.nd):=if_pos g;rw[e];refine bE (λn t q r s H'=>∃k:Nat,k+n=c.length/\t=I (OW ((c.map NdV.nd).take k))/\q=b/\r=I c.length/\s=I k) ?_ c.length ⟨0,by omega,rfl,rfl,rfl,rfl⟩;rintro n t q r s H' R w ⟨k,D,rfl,rfl,rfl,rfl⟩;unfold Wm;rw[Ak8]at o;rcases Aj5 k c.length with h | h
  ·have m:=Dq h;generalize c[k]=d at m;have p:(c.map NdV.nd)[k]?=some d.nd:=by rw[Al2,m];rfl
   have B:=uR f.2.2.2 (by simpa using o) k;have C:=f.2.2.2 d.nd (Aj2 p);have u:AU 3 (H'++[some (.cells [I 0,I 0,Ad])]) (.ptr H'.length 0) (.agg (BS d))=some (H'++[some (.cells (BS d))]):=by have:=SV.oneA d.h;simp[AU,BS,Bb,this]
   simp[h,i.idx BN m rfl,Acw,u];simp[BS,d.h.len,Au (a:=k) (b:=1) (by omega) (by omega),Au (a:=(OW (List.take k (c.map NdV.nd)):Int)) (b:=d.nd.l.length) (by omega) (by omega)];exact w (n - 1) _ _ _ _ _ (by omega) ⟨k+1,by omega,by rw[EK p,uQ];simp,rfl,rfl,by simp⟩
  ·have:(c.map NdV.nd).take k=c.map NdV.nd:=Aj3 (by simp;omega);simp[show ¬k<c.length by omega,this]
 ·have e:gT ns (c.map NdV.nd)=0:=if_neg g;simp[g,e]))
theorem Aqy {ns:List Nm}{ds:List Nd}{v:AV}(j:ImV ns ds v)(g:Sm ns ds):Ba2 149 [v] (I (gT ns ds)):=BPure.val j.noIds rfl (Zo (by
 have x:=j;obtain⟨a,b,c,rfl,w,i,rfl⟩:=j;have y:=SV.oneA w;have z:=SV.oneA i;have o:=g.2.1;rw[Ak8]at o;unfold UM;simp[y,z];refine TG (λn r s t H'=>∃k:Nat,k+n=c.length/\r=.ptr 0 0/\s=I (OW ((c.map NdV.nd).take k))/\t=I k/\H'=[some (.cells [a,b])]/\(0<k->Fw ns (c.map NdV.nd))) ?_ c.length ⟨0,by omega,rfl,rfl,rfl,rfl,by omega⟩;rintro n r s t H' R u ⟨k,C,rfl,rfl,rfl,rfl,p⟩;unfold MD;rcases Aj5 k c.length with h | h
 ·have m:=Dq h;generalize c[k]=d at m;have q:(c.map NdV.nd)[k]?=some d.nd:=by rw[Al2,m];rfl
  have A:=uR g.2.2.2 (by simpa using o) k;have B:=g.2.2.2 d.nd (Aj2 q);simp[h,i.len,A1];refine Az (If x g) ?_;by_cases f:Fw ns (c.map NdV.nd)
  ·simp[f,i.idx BN m rfl,Apd,d.h.len,Au (a:=k) (b:=1) (by omega) (by omega),Au (a:=(OW (List.take k (c.map NdV.nd)):Int)) (b:=d.nd.l.length) (by omega) (by omega)];exact u (n - 1) _ _ _ _ (by omega) ⟨k+1,by omega,rfl,by rw[EK q,uQ];simp,by simp,rfl,λ_=>f⟩
  ·have e:gT ns (c.map NdV.nd)=0:=if_neg f;have:k=0:=by
    rcases An9 k with h | h
    ·exact h
    ·exact absurd (p h) f
   simp[f,e,this,OW]
 ·have:(c.map NdV.nd).take k=c.map NdV.nd:=Aj3 (by simp;omega);have e:gT ns (c.map NdV.nd)=OW (c.map NdV.nd):=by
   unfold gT;by_cases f:Fw ns (c.map NdV.nd)
   ·rw[if_pos f]
   ·rcases An9 k with h | h
    ·have:c=[]:=List.length_eq_zero_iff.1 (by omega);rw[if_neg f,this];rfl
    ·exact absurd (p h) f
  simp[i.len,show ¬k<c.length by omega,this,e]))
def gM (ns:List Nm)(ds:List Nd)(ms:List Nm)(a:List Nd):Prop:=ns=ms/\ds=a
instance (ns:List Nm) (ds:List Nd) (ms:List Nm) (a:List Nd):Decidable (gM ns ds ms a):=by unfold gM;infer_instance
theorem Aqz (a c:ByteArray)(b d:Int):P9 prog .neq 114 (.agg [S a,I b]) (.agg [S c,I d])=some (B !(a.toList==c.toList&&(b==d&&true))):=by kernel_rfl
theorem Ara (x y:Nm):P9 prog .neq 114 (.agg (Ct x)) (.agg (Ct y))=some (B (decide (x≠y))):=by
 obtain⟨a,b⟩:=x;obtain⟨c,d⟩:=y;refine(Aqz _ _ _ _).trans ?_;rw[Kk,Kk];by_cases h:a=c
 ·by_cases e:b=d<;>simp[h,e]
 ·simp[h]
theorem Ws {ns ms:List Nm}{ds O:List Nd}{v w:AV}(S:ImV ns ds v)(T:ImV ms O w)(H:Sm ns ds):Ba2 75 [v,w] (B (decide (gM ns ds ms O))):=BPure.val (by have m:=S.noIds;have Q:=T.noIds;simp[AF]at m Q|-;exact⟨m,Q⟩) rfl (TE (by
 obtain⟨a,b,f,rfl,r,s,rfl⟩:=S;obtain⟨c,d,j,rfl,p,J,rfl⟩:=T;have oa:=SV.oneA r;have ob:=SV.oneA s;have oc:=SV.oneA p;have od:=SV.oneA J;have b1:=H.1;have W:=H.2.1;rw[Ak8]at W;unfold MB;simp[oa,ob,oc,od,r.len,p.len];by_cases P:ns.length=ms.length
 ·have E:(ns.length:Int)=ms.length:=by omega
  simp[E,s.len,J.len];by_cases m:f.length=j.length
  ·have F:(f.length:Int)=j.length:=by omega
   simp[F];refine Ol (λn u z U H'=>∃k:Nat,k+n=ns.length/\u=.ptr 0 0/\z=.ptr 1 0/\U=I k/\H'=[some (.cells [a,b]),some (.cells [c,d])]/\ns.take k=ms.take k) ?_ ns.length ⟨0,by simp,rfl,rfl,rfl,rfl,rfl⟩;rintro n u z U H' R G ⟨k,Z,rfl,rfl,rfl,rfl,q⟩;unfold It;rcases Aj5 k ns.length with t | Y
   ·have o:=Dq t;have g:=Dq (l:=ms) (i:=k) (by omega);generalize ns[k]=x at o;generalize ms[k]'(by omega)=y at g;simp [t,r.len,r.idx Cg o rfl,p.idx Cg g rfl,Ara,Acf];by_cases C:x=y
    ·simp[C,Au (a:=k) (b:=1) (by omega) (by omega)];refine G (n - 1) _ _ _ _ (by omega) ⟨k+1,by omega,rfl,rfl,by simp,rfl,?_⟩;rw[EK o,EK g,q,C]
    ·have:ns≠ms:=by rintro rfl;rw[o]at g;injection g with g;exact C g
     simp[C,this,gM]
   ·have:k=ns.length:=by omega
    subst this;have e:ns=ms:=by rw[An6,P,An6]at q;exact q
    simp[r.len,e];refine Nr (λn u z V H'=>∃k:Nat,k+n=f.length/\u=.ptr 0 0/\z=.ptr 1 0/\V=I k/\H'=[some (.cells [a,b]),some (.cells [c,d])]/\(f.take k).map NdV.nd=(j.take k).map NdV.nd) ?_ f.length ⟨0,by simp,rfl,rfl,rfl,rfl,rfl⟩;rintro n u z V H' R G ⟨k,Z,rfl,rfl,rfl,rfl,q⟩;unfold HD;rcases Aj5 k f.length with t | Y
    ·have o:=Dq t;have g:=Dq (l:=j) (i:=k) (by omega);generalize f[k]=x at o;generalize j[k]'(by omega)=y at g;have M:=s.idx BN o rfl;have N:=J.idx BN g rfl;have D:x.nd=y.nd↔x.nd.ino=y.nd.ino/\aC x.nd.size x.nd.l y.nd.size y.nd.l:=by unfold aC;cases x.nd;cases y.nd;simp
     have L:x.nd≠y.nd->¬gM ns (f.map NdV.nd) ms (j.map NdV.nd):=by
      rintro aa ⟨-,e⟩;have m:(f.map NdV.nd)[k]?=some x.nd:=by rw[Al2,o];rfl
      rw[e,Al2,g]at m;injection m with m;exact aa m.symm
     rw[e]at L;simp[t,s.len,M,N,wA];by_cases A:x.nd.ino=y.nd.ino
     ·simp[A,M,N];refine bP_of (fO x.h y.h (by have:=H.2.2.2 x.nd (Al9 (Aj2 o));omega)) ?_;by_cases p:aC x.nd.size x.nd.l y.nd.size y.nd.l
      ·simp[p,Au (a:=k) (b:=1) (by omega) (by omega)];refine G (n - 1) _ _ _ _ (by omega) ⟨k+1,by omega,rfl,rfl,by simp,rfl,?_⟩;rw[EK o,EK g,An0,An0,q];simp[D.2 ⟨A,p⟩]
      ·have:=L λK=>p (D.1 K).2;simp[p,this]
     ·have:=L λK=>A (D.1 K).1;simp[A,this]
    ·have:k=f.length:=by omega
     subst this;have X:f.map NdV.nd=j.map NdV.nd:=by rw[An6,m,An6]at q;exact q
     simp[s.len,gM,X]
  ·have:¬gM ns (f.map NdV.nd) ms (j.map NdV.nd):=λh=>m (by have:=congrArg List.length h.2;simpa using this);have F:¬(f.length:Int)=j.length:=by omega
   simp[F,this]
 ·have:¬gM ns (f.map NdV.nd) ms (j.map NdV.nd):=λh=>P (by rw[h.1]);have E:¬(ns.length:Int)=ms.length:=by omega
  simp[E,this]))
theorem Yj {α:Type}{enc:α->List AV}{sz:Nat}(a:∀x,(enc x).length=sz)(z:0<sz){H:AH}{v:AV}{l:List α}{k:Nat}{x:α}(hs:Ac H sz v=some (l.flatMap enc,l.length))(p:Bm v=true)(b:l[k]?=some x):
  ∃o off cells,AY sz v (I k)=some (.ptr o off)/\o∈Ba v/\H[o]?=some (some (.cells cells))/\off+sz<=cells.length/\(∀j,j<sz->cells[off+j]?=(enc x)[j]?)/\
   ∀y q xs,enc y=Cq (enc x) q xs->q+xs.length<=sz->Ac (H.set o (some (.cells (Bb cells (off+q) xs)))) sz v=some ((l.set k y).flatMap enc,l.length):=by
 have n:=(BG.1 b).1;obtain⟨o,off,w,cells,rfl,d,f,g⟩:=Ju hs p (by omega);have r:=(BG.1 d).1;have B:(k+1)*sz<=l.length*sz:=Ak5 _ (by omega);have A:(k+1)*sz=k*sz+sz:=An4 _ _;refine⟨o,off+k*sz,cells,?_,by simp[Ba],d,by omega,λj m=>?_,λy q xs u s=>?_⟩
 ·simp[AY,OG];omega
 ·have e:(l.flatMap enc)[k*sz+j]?=cells[off+k*sz+j]?:=by rw[g,Ak2,if_pos (by omega),Ak3];congr 1;omega
  rw[<- e];have h:=Hj a l k;have i:(l.flatMap enc)[k*sz+j]?=((l.flatMap enc).drop (k*sz))[j]?:=by rw[Ak3]
  rw[i,h,Ao9 n,(BG.1 b).2,Al5,Aj6 (by rw[a];exact m)]
 ·have t:off+k*sz+q+xs.length<=cells.length:=by omega
  rw[Fp _ _ _ t];show Ac (H.set o (some (.cells (Cq cells (off+k*sz+q) xs)))) sz _=_;rw[Ao6,AS (c:=Cq cells (off+(k*sz+q)) xs) (by simp[r]) (by rw[Jt (by omega)];exact f)];rw[UA f (by omega),<- g,U9 a b u s]
theorem Arb (w:World):(Go.sizeOf 114).run prog w=.ok 2 w:=Cv (by kernel_rfl)
theorem Arc (w:World):(Go.sizeOf 99).run prog w=.ok 3 w:=Cv (by kernel_rfl)
theorem Ard {H:AH}{a q o g d b r p h e:Nat}{f c:List AV}(i:H[a]?=some (some (.cells f)))(j:H[b]?=some (some (.cells c)))(n:a≠b)(l:d≠0)(m:e≠0)(k:c≠[]):
  ExtR prog 210 [.sl a q o g (.ex d),.sl b r p h (.ex e)] H (B false):=
 ExtR.apart (tS:=37) (tR:=4) (fn:=f210) (by kernel_rfl) (by kernel_rfl) (by kernel_rfl) (by kernel_rfl) (by kernel_rfl) (by kernel_rfl) Arb i j n l m k
theorem Are {H:AH}{a q o g d b r p h e:Nat}{f c:List AV}(i:H[a]?=some (some (.cells f)))(j:H[b]?=some (some (.cells c)))(n:a≠b)(l:d≠0)(m:e≠0)(k:c≠[]):
  ExtR prog 212 [.sl a q o g (.ex d),.sl b r p h (.ex e)] H (B false):=
 ExtR.apart (tS:=38) (tR:=4) (fn:=f212) (by kernel_rfl) (by kernel_rfl) (by kernel_rfl) (by kernel_rfl) (by kernel_rfl) (by kernel_rfl) Arc i j n l m k
def zN:List AV:=[S ⟨#[]⟩,I 0]
def zD:List AV:=[I 0,I 0,Ad]
theorem Aik {H:AH}{s:AV}{l:List Nm}{i oj:Nat}{x:Nm}(hs:Ac H 2 s=some (l.flatMap Ct,l.length))(n:Bm s=true)(g:Dk s l.length)(hi:i<=l.length)(j:l.length<=1000000)(a:H[oj]?=some (some (.cells (Ct x))))(k:oj∉Ba s):
  ∃r H',Acv 2 H s ((l.take i++x::l.drop i).flatMap Ct) l.length r H'/\Ba0 186 [s,I i,.sl oj 0 1 2 (.ex 1)] H r H':=by
 have:=Ahe (P:=prog) (sz:=2) (bytes:=24) (zc:=zN) (f:=186) (ov:=210) (rot:=211) (by omega) rfl
  (λo p a2 H K h=>JJ h) hs n g hi j (by omega) a (Cg x) k (λm=>by simp[Ct,DZ,HV]) (λb c d e=>Ard a b c (by omega) d e)
 rwa[IA Cg,Hj Cg,Ak7,show Ct x++(l.drop i).flatMap Ct=(x::l.drop i).flatMap Ct from rfl,<- Am6]at this
theorem Arf {H:AH}{s:AV}{l:List NdV}{i oj:Nat}{x:NdV}(hs:Ac H 3 s=some (l.flatMap BS,l.length))(n:Bm s=true)(g:Dk s l.length)(hi:i<=l.length)(j:l.length<=1000000)(a:H[oj]?=some (some (.cells (BS x))))(k:oj∉Ba s):
  ∃r H',Acv 3 H s ((l.take i++x::l.drop i).flatMap BS) l.length r H'/\Ba0 187 [s,I i,.sl oj 0 1 3 (.ex 1)] H r H':=by
 have:=Ahe (P:=prog) (sz:=3) (bytes:=40) (zc:=zD) (f:=187) (ov:=212) (rot:=213) (by omega) rfl
  (λo p a2 H K h=>JM h) hs n g hi j (by omega) a (BN x) k (λm=>Gz (SP x)) (λb c d e=>Are a b c (by omega) d e)
 rwa[IA BN,Hj BN,Ak7,show BS x++(l.drop i).flatMap BS=(x::l.drop i).flatMap BS from rfl,<- Am6]at this
theorem Ail {H:AH}{s:AV}{l:List Nm}{i:Nat}(hs:Ac H 2 s=some (l.flatMap Ct,l.length))(h:Bm s=true)(b:Dk s l.length)(hi:i<l.length)(n:l.length<=1000000):
  ∃r H',Aed 2 H s ((l.take i++l.drop (i+1)).flatMap Ct) (l.length - 1) r H'/\Ba0 189 [s,I i,I ((i:Int)+1)] H r H':=by
 obtain⟨m,c⟩:∃m,l.length=m+1:=⟨l.length - 1,by omega⟩;rw[c]at hs b;obtain⟨r,H',a,e⟩:=Ahg (sz:=2) (bytes:=24) (zc:=zN) (by omega) rfl hs h b (show i<=m by omega) (by omega) (by omega);have f:F4 s (I i) (I ((i:Int)+1)) H λj d=>j=r/\d=H':=e;obtain⟨o,k,⟨rfl,rfl⟩,g⟩:=JD f;rw[IA Cg,Hj Cg,<- Am6]at a;exact⟨_,_,by rw[c];exact a,g⟩
theorem Arg {H:AH}{s:AV}{l:List NdV}{i:Nat}(hs:Ac H 3 s=some (l.flatMap BS,l.length))(h:Bm s=true)(b:Dk s l.length)(hi:i<l.length)(n:l.length<=1000000):
  ∃r H',Aed 3 H s ((l.take i++l.drop (i+1)).flatMap BS) (l.length - 1) r H'/\Ba0 190 [s,I i,I ((i:Int)+1)] H r H':=by
 obtain⟨m,c⟩:∃m,l.length=m+1:=⟨l.length - 1,by omega⟩;rw[c]at hs b;obtain⟨r,H',a,e⟩:=Ahg (sz:=3) (bytes:=40) (zc:=zD) (by omega) rfl hs h b (show i<=m by omega) (by omega) (by omega);have f:F5 s (I i) (I ((i:Int)+1)) H λj d=>j=r/\d=H':=e;obtain⟨o,k,⟨rfl,rfl⟩,g⟩:=JE f;rw[IA BN,Hj BN,<- Am6]at a;exact⟨_,_,by rw[c];exact a,g⟩
structure ImH (L oi:Nat)(ns:List Nm)(dv:List NdV)(a b:AV)(H:AH):Prop where
 obj:H[oi]?=some (some (.cells [a,b]))
 lo:oi∉Ba a/\oi∉Ba b
 len:L<=H.length
 sa:Ac H 2 a=some (ns.flatMap Ct,ns.length)
 oa:Bm a=true
 ca:Dk a ns.length
 ia:∀i∈Ba a,L<=i
 sb:Ac H 3 b=some (dv.flatMap BS,dv.length)
 ob:Bm b=true
 cb:Dk b dv.length
 ib:∀i∈Ba b,L<=i
 ab:∀i∈Ba a,i∉Ba b
def FrL (L a:Nat)(H H':AH):Prop:=H.length<=H'.length/\∀j,j<L->j≠a->H'[j]?=H[j]?
theorem FrL.refl (L a:Nat)(H:AH):FrL L a H H:=⟨Aj7 _,λ_ _ _=>rfl⟩
theorem FrL.trans {L a:Nat}{A B C:AH}(h:FrL L a A B)(k:FrL L a B C):FrL L a A C:=⟨Al1 h.1 k.1,λj b c=>(k.2 j b c).trans (h.2 j b c)⟩
theorem ImH.noA {L c:Nat}{ns:List Nm}{d:List NdV}{a b:AV}{H:AH}(h:ImH L c ns d a b H):c∉Ba a:=h.lo.1
theorem ImH.noB {L c:Nat}{ns:List Nm}{d:List NdV}{a b:AV}{H:AH}(h:ImH L c ns d a b H):c∉Ba b:=h.lo.2
theorem ImH.lend {L k:Nat}{ns:List Nm}{e:List NdV}{a b:AV}{H:AH}(h:ImH L k ns e a b H):∃c d,SV Ct 2 ns c/\SV BS 3 e d/\FZ H (.agg [a,b]) (.agg [c,d]):=by
 obtain⟨c,i,f⟩:=FZ.sv h.sa (EF λx _=>Yf x);obtain⟨d,j,g⟩:=FZ.sv h.sb (EF λx _=>SP x);exact⟨c,d,i,j,FZ.agg (FZs.cons f (FZs.cons g FZs.nil))⟩
theorem ImH.grew {L d:Nat}{ns:List Nm}{c:List NdV}{a b:AV}{H H':AH}(h:ImH L d ns c a b H)(g:Grew H H'):ImH L d ns c a b H':=
 ⟨g.cells h.obj,h.lo,Al1 h.len g.1,g.slice h.sa,h.oa,h.ca,h.ia,g.slice h.sb,h.ob,h.cb,h.ib,h.ab⟩
theorem ImH.newA {L c:Nat}{ns ms:List Nm}{m:List NdV}{a b r:AV}{H H':AH}(h:ImH L c ns m a b H)(hl:H.length<=H'.length)(k:∀i,i<H.length->i∉Ba a->H'[i]?=H[i]?)(t:Ac H' 2 r=some (ms.flatMap Ct,ms.length))(o:Bm r=true)(u:Dk r ms.length)(g:∀i∈Ba r,i∈Ba a\/H.length<=i):
  ∃f,AU 1 H' (.ptr c 0) r=some f/\ImH L c ms m r b f/\FrL L c H f:=by
 have l:H'[c]?=some (some (.cells [a,b])):=by rw[k c (BG.1 h.obj).1 h.noA];exact h.obj
 have hr:=AI o;have A:=(BG.1 h.obj).1;have s:c∉Ba r:=λq=>(g c q).elim h.noA (λq=>by omega);have z:=h.len;have v:=(BG.1 l).1;have w:∀i∈Ba r,L<=i:=λi d=>(g i d).elim (h.ia i) (λq=>by omega);refine⟨H'.set c (some (.cells [r,b])),?_,⟨by simp[v],⟨s,h.noB⟩,by simp;omega,?_,o,u,w,?_,h.ob,h.cb,h.ib,λi d p=>?_⟩,⟨by simp;omega,λj x y=>?_⟩⟩
 ·rw[AG (n:=1) (off:=0) (xs:=[r]) (cs:=[a,b]) (Bn hr) l rfl (by simp)];rfl
 ·exact Ai t λi d=>Cc (fun (e:c=i)=>s (e▸d))
 ·refine Ai h.sb λi d=>?_;rw[Cc (fun (e:c=i)=>h.noB (e▸d))];exact k i (A5 h.sb i d) λq=>h.ab i q d
 ·rcases g i d with q | q
  ·exact h.ab i q p
  ·have:=A5 h.sb i p;omega
 ·rw[Cc (by omega)];exact k j (by omega) λq=>by have:=h.ia j q;omega
theorem ImH.newB {L c:Nat}{ns:List Nm}{s ew:List NdV}{a b r:AV}{H H':AH}(h:ImH L c ns s a b H)(hl:H.length<=H'.length)(k:∀i,i<H.length->i∉Ba b->H'[i]?=H[i]?)(t:Ac H' 3 r=some (ew.flatMap BS,ew.length))(m:Bm r=true)(u:Dk r ew.length)(g:∀i∈Ba r,i∈Ba b\/H.length<=i):
  ∃f,AU 1 H' (.ptr c 1) r=some f/\ImH L c ns ew a r f/\FrL L c H f:=by
 have l:H'[c]?=some (some (.cells [a,b])):=by rw[k c (BG.1 h.obj).1 h.noB];exact h.obj
 have hr:=AI m;have A:=(BG.1 h.obj).1;have p:c∉Ba r:=λq=>(g c q).elim h.noB (λq=>by omega);have z:=h.len;have v:=(BG.1 l).1;have w:∀i∈Ba r,L<=i:=λi d=>(g i d).elim (h.ib i) (λq=>by omega);refine⟨H'.set c (some (.cells [a,r])),?_,⟨by simp[v],⟨h.noA,p⟩,by simp;omega,?_,h.oa,h.ca,h.ia,?_,m,u,w,λi o d=>?_⟩,⟨by simp;omega,λj x y=>?_⟩⟩
 ·rw[AG (n:=1) (off:=1) (xs:=[r]) (cs:=[a,b]) (Bn hr) l rfl (by simp)];rfl
 ·refine Ai h.sa λi d=>?_;rw[Cc (fun (e:c=i)=>h.noA (e▸d))];exact k i (A5 h.sa i d) λq=>h.ab i d q
 ·exact Ai t λi d=>Cc (fun (e:c=i)=>p (e▸d))
 ·rcases g i d with q | q
  ·exact h.ab i o q
  ·have:=A5 h.sa i o;omega
 ·rw[Cc (by omega)];exact k j (by omega) λq=>by have:=h.ib j q;omega
section
variable {P : Program}
def Aim (o:Oper)(a:List Nat):Bool:=a.all λj=>o.after.toList.any λe=>Region.binds .any e&&Nat.beq e.on j
theorem Arh {o:Oper}{b:List Nat}(h:Aim o b=true):∀j∈b,∃e∈o.after,Region.binds .any e=true/\e.on=j:=by
 intro j d;have:=Am2.1 h j d;obtain⟨e,c,a⟩:=List.any_eq_true.1 this;simp only[Am0]at a;exact⟨e,by simpa using c,a.1,Aq3 a.2⟩
def Ach (vals:Nat->AV)(i:Nat)(r:AV):Nat->AV:=λj=>if j=i then r else vals j
end
end
section
section
variable {P : Program}
def OpIg (P:Program)(ops:List Oper)(T:List AV)(i:Nat)(b:List Nat)(F:(Nat->AV)->AH->(AV->AH->Prop)->Prop):Prop:=∃o,ops[i]?=some o/\(∀j∈b,∃e∈o.after,Region.binds .any e=true/\e.on=j)/\∀a H K,F a H K->C0 ops.toArray (pt ops a (λ_=>true) T i) o=some true/\sK P (pt ops a (λ_=>true) T i) H o K
theorem Ain {ops:List Oper}{vals:Nat->AV}{T:List AV}{j d:Nat}(a:Pe ops j=some d)(hl:d<T.length):∀n,j<n->(∀k,j<k->k<n->Pe ops k≠some d)->(pt ops vals (λ_=>true) T n)[d]?=some (vals j)
 | 0,h,_=>by omega
 | n+1,h,h2=>by
  simp only[pt,if_true];by_cases c:j=n
  ·subst c;rw[a];simp only[EL];rw[HU (by rw[jU];exact hl)]
  ·rw[kG (h2 n (by omega) (by omega)),Ain a hl n (by omega) λk b e=>h2 k b (by omega)]
def Aem (ops:List Oper)(len i:Nat):Bool:=match (ops.getD i default).guard with
 | none=>true
 | some (j,_)=>match Pe ops j with
  | some d=>decide (j<i)&&decide (d<len)&&(List.range i).all λk=>!decide (j<k)|| !(match Pe ops k with
   | some x=>Nat.beq x d
   | none=>false)
  | none=>false
def Aen (P:Program)(ql:FuncId->Bool)(fz:Bool)(ops:List Oper)(T:List AV)(i:Nat)(vals:Nat->AV)(H:AH)(K:AV->AH->Prop):Prop:=
 let o:=ops.getD i default
 let S:=match Gv (Cf (pt ops vals (λ_=>true) T i)) o with
  | some (k,args)=>match Ch P k with
   | true=>ACalls P k args H K
   | false=>False
  | none=>WF P ql Aw (fz&&sC o.op) (Cf (pt ops vals (λ_=>true) T i)) H o true K
 match o.guard with
 | none=>S
 | some (j,w)=>vals j=B w/\S
theorem Ari {ql:FuncId->Bool}{fz:Bool}{ops:List Oper}{T:List AV}{i:Nat}{vals:Nat->AV}{H:AH}{K:AV->AH->Prop}(b:Aem ops T.length i=true)(h:Aen P ql fz ops T i vals H K):
  C0 ops.toArray (pt ops vals (λ_=>true) T i) (ops.getD i default)=some true/\sK P (pt ops vals (λ_=>true) T i) H (ops.getD i default) K:=by
 unfold Aen at h;unfold Aem at b;generalize ops.getD i default=o at*;simp only at h;have step:∀{S:Prop},(S=match Gv (Cf (pt ops vals (λ_=>true) T i)) o with
  | some (k,args)=>match Ch P k with
   | true=>ACalls P k args H K
   | false=>False
  | none=>WF P ql Aw (fz&&sC o.op) (Cf (pt ops vals (λ_=>true) T i)) H o true K)->S->sK P (pt ops vals (λ_=>true) T i) H o K:=by
  rintro S rfl h;split at h
  ·rename_i k args l;split at h
   ·rename_i s;exact .inr (.inr ⟨k,args,l,s,h⟩)
   ·exact h.elim
  ·rename_i l;obtain⟨r,H',e,a,-⟩:=VG h;rcases a with⟨-,a | ⟨a,c⟩⟩ | ⟨a,-⟩
   ·unfold wQ at a;split at a
    ·obtain⟨u,c,g⟩:=Option.map_eq_some_iff.1 a;injection g with g n;subst g;subst n;exact .inr (.inl ⟨_,c,e⟩)
    ·exact .inl ⟨r,H',a,e⟩
   ·exfalso;unfold Y9 at c;rw[l]at c;exact c
   ·cases a
 cases f:o.guard with
 | none=>
  simp only[f]at h;exact⟨by unfold C0;rw[f],step rfl h⟩
 | some q=>
  obtain⟨j,w⟩:=q;simp only[f]at h b;refine⟨?_,step rfl h.2⟩;unfold C0 iK;simp only[f,At0];split at b
  ·rename_i d m;simp only[Ad6,Af9,Am2,As1,decide_eq_false_iff_not]at b;have t:=Ain (vals:=vals) m b.1.2 i b.1.1 λk e a c=>by
    rcases b.2 k a with q | q
    ·exact q e
    ·rw[c]at q;simp at q
   have p:(ops[j]?).bind (·.dst)=some d:=m;simp only[p,t,h.1,As6];cases w<;>rfl
  ·cases b
theorem OpIg.all {ql:FuncId->Bool}{fz:Bool}{ops:List Oper}{T:List AV}{n:Nat}{c:List (List Nat)}{F:List ((Nat->AV)->AH->(AV->AH->Prop)->Prop)}(k:ops.length=n)(a:(List.range n).all (λi=>Aim (ops.getD i default) (c.getD i [])&&Aem ops T.length i)=true)
  (d:∀vals H K,(List.range n).map (λi=>Aen P ql fz ops T i vals H K)=F.map λf=>f vals H K):∀i,i<ops.length->OpIg P ops T i (c.getD i []) (F.getD i (λ_ _ _=>False)):=by
 intro i g;have a:=Am2.1 a i (by rw[As1];omega);simp only[Am0]at a;have j:ops[i]?=some (ops.getD i default):=by rw[Al0,Dq g];rfl
 refine⟨_,j,Arh a.1,λvals H K h=>Ari (ql:=ql) (fz:=fz) a.2 ?_⟩;have e:=congrArg (λl=>l[i]?) (d vals H K);simp only[Al2,Aq9 (show i<n by omega),As6]at e;cases b:F[i]? with
 | none=>rw[b]at e;simp at e
 | some f=>
  rw[b]at e;simp only[As6,Aq5]at e;rw[e];rw[Al0,b]at h;exact h
theorem ACode.told3 {id:Nat}{ops:List Oper}{Q:AQ}{T:List AV}{H:AH}(M:P.follows .mixedOrders=true)(L:U8 ops=true)(g:Nat->List Nat)(F:Nat->(Nat->AV)->AH->(AV->AH->Prop)->Prop)(V:Nat->AV)(f:(Nat->Bool)->AH->Prop)
  (O:∀i,i<ops.length->OpIg P ops T i (g i) (F i)) (D:f (λ_=>false) H)
  (hs:∀i,i<ops.length->∀(S:Nat->Bool) vals l,S i=false->(∀a,S a=true->∀b∈g a,S b=true)->(∀j∈g i,S j=true/\vals j=V j)->f S l->F i vals l λr H'=>r=V i/\f (Nw S i) H')
  (U:∀(S:Nat->Bool) vals l,(∀j,j<ops.length->S j=true/\vals j=V j)->f S l->Q .normal (pt ops vals (λ_=>true) T ops.length) l):ACode P (.region id ops.toArray true) Q T H:=by
 refine ACode.drawn M L (Ω:=AH×(Nat->AV)) (λω S=>f S ω.1/\(∀j,S j=true->ω.2 j=V j)/\∀a,S a=true->∀b∈g a,S b=true) (λω=>ω.2) (λω _=>ω.1) (H,λ_=>Be) ⟨D,by simp,by simp⟩ rfl ?_ (λω S x q=>U S ω.2 ω.1 (λj d=>⟨x j d,q.2.1 j (x j d)⟩) q.1);rintro ω S i o ⟨B,W,y,J⟩ ⟨q,C,z⟩;have A:=(BG.1 B).1;obtain⟨X,t,N,I⟩:=O i A;rw[B]at t;injection t with t;subst t;have v:∀j∈g i,S j=true:=λj d=>by obtain⟨e,K,s,rfl⟩:=N j d;exact J e K s
 obtain⟨R,E⟩:=I ω.2 ω.1 _ (hs i A S ω.2 ω.1 y z (λj d=>⟨v j d,C j (v j d)⟩) q);refine⟨true,R,λ_=>?_,λh=>by cases h⟩
 have conv:∀r H',(r=V i/\f (Nw S i) H')->∃p:AH×(Nat->AV),(f (Nw S i) p.1/\(∀j,Nw S i j=true->p.2 j=V j)/\∀a,Nw S i a=true->∀b∈g a,Nw S i b=true)/\(∀j,S j=true->p.2 j=ω.2 j)/\p.2 i=r/\p.1=H':=by
  rintro r H' ⟨rfl,h⟩;refine⟨(H',Ach ω.2 i (V i)),⟨h,λj d=>?_,λa u b s=>?_⟩,λj d=>?_,by simp[Ach],rfl⟩
  ·show Ach ω.2 i (V i) j=V j;unfold Ach;by_cases c:j=i
   ·rw[if_pos c,c]
   ·rw[if_neg c];unfold Nw at d;rw[if_neg c]at d;exact C j d
  ·unfold Nw at u|-;by_cases c:b=i
   ·rw[if_pos c]
   ·rw[if_neg c];by_cases w:a=i
    ·subst w;exact v b s
    ·rw[if_neg w]at u;exact z a u b s
  ·have:j≠i:=by rintro rfl;rw[y]at d;cases d
   simp[Ach,this]
 rcases E with⟨r,H',m,n⟩ | ⟨r,m,n⟩ | ⟨k,args,m,n,G⟩
 ·exact .inl ⟨r,H',m,conv _ _ n⟩
 ·exact .inr (.inl ⟨r,m,conv _ _ n⟩)
 ·exact .inr (.inr ⟨k,args,m,n,G.mono conv⟩)
theorem ACode.told2 {id:Nat}{ops:List Oper}{Q:AQ}{T:List AV}{H:AH}(o:P.follows .mixedOrders=true)(n:U8 ops=true)(d:Nat->List Nat)(F:Nat->(Nat->AV)->AH->(AV->AH->Prop)->Prop)(V:Nat->AV)(c:(Nat->Bool)->AH)
  (p:∀i,i<ops.length->OpIg P ops T i (d i) (F i)) (h:c (λ_=>false)=H)
  (hs:∀i,i<ops.length->∀(S:Nat->Bool) vals,S i=false->(∀a,S a=true->∀b∈d a,S b=true)->(∀j∈d i,S j=true/\vals j=V j)->F i vals (c S) λr H'=>r=V i/\H'=c (Nw S i))
  (q:∀(S:Nat->Bool) vals,(∀j,j<ops.length->S j=true/\vals j=V j)->Q .normal (pt ops vals (λ_=>true) T ops.length) (c S)):ACode P (.region id ops.toArray true) Q T H:=
 ACode.told3 o n d F V (λS H=>H=c S) p h.symm (λi m S vals g e f k l=>by subst l;exact hs i m S vals e f k) (λS vals g e f=>by subst f;exact q S vals e)
end
end
section
noncomputable def crNOps:List Oper:=(Acb (sub [true,true,true,true,false] (AK f152))).toList
def Aeo (a b c d:AV):List AV:=BC (mk 82 0 [0,3,4,6]) [a,b,c,d]
theorem vY:crNOps.length=16:=by kernel_rfl
theorem Arj:U8 crNOps=true:=by kernel_rfl
def crNNeed:List (List Nat):=[[],[],[1],[2],[3],[],[],[6],[],[8],[7,9],[10],[4,5,11],[0,1,2,3,4,5,6,7,8,9,10,11,12],[0,1,2,3,4,5,6,7,8,9,10,11,12,13],[0,1,2,3,4,5,6,7,8,9,10,11,12,14]]
def W9 (b c d e:AV):List ((Nat->AV)->AH->(AV->AH->Prop)->Prop):=[λa H K=>gO true (some b) λv=>K v H,λa H K=>gO true (some b) λv=>K v H,λa H K=>gO true (Aj (a 1)) λv=>K v H,λa H K=>gO true (Ab 0 (a 2)) λv=>K v H,λa H K=>gO true (Aq false 1 H (a 3)) λv=>K v H,λa H K=>gO true (some d) λv=>K v H,λa H K=>gO true (Ab 5 c) λv=>K v H,λa H K=>gO true (Aq false 1 H (a 6)) λv=>K v H,λa H K=>gO true (Ab 1 c) λv=>K v H,λa H K=>gO true (Aq false 1 H (a 8)) λv=>K v H,λa H K=>gO true (Dy zN [(0,1,(a 7)),(1,1,(a 9))]) λv=>K v H,λa H K=>gH true (Co H 2 1 (Bx zN 1) [(0,2,(a 10))]) H K,λa H K=>Ba3 186 [(a 4),(a 5),(a 11)] H K,λa H K=>gO true (Aj (a 0)) λv=>K v H,λa H K=>gO true (Ab 0 (a 13)) λv=>K v H,λa H K=>gS true (AU 1 H (a 14) (a 12)) H λH'=>K Be H']
theorem Ark (a b c d:AV):∀i,i<crNOps.length->OpIg prog crNOps (Aeo a b c d) i (crNNeed.getD i []) ((W9 a b c d).getD i (λ_ _ _=>False)):=
 OpIg.all (ql:=Ll) (fz:=false) vY (by kernel_rfl) (λe H K=>by kernel_rfl)
noncomputable def crDOps:List Oper:=(Acb (sub [true,true,true,true,true] (AK f152))).toList
def Aep (a b c:AV):List AV:=BC (mk 82 0 [0,3,6]) [a,b,c]
theorem vX:crDOps.length=14:=by kernel_rfl
theorem Arl:U8 crDOps=true:=by kernel_rfl
def crDNeed:List (List Nat):=[[],[],[1],[2],[3],[],[],[6],[7],[8],[4,5,9],[0,1,2,3,4,5,6,7,8,9,10],[0,1,2,3,4,5,6,7,8,9,10,11],[0,1,2,3,4,5,6,7,8,9,10,12]]
def YZ (b c d:AV):List ((Nat->AV)->AH->(AV->AH->Prop)->Prop):=[λa H K=>gO true (some b) λv=>K v H,λa H K=>gO true (some b) λv=>K v H,λa H K=>gO true (Aj (a 1)) λv=>K v H,λa H K=>gO true (Ab 1 (a 2)) λv=>K v H,λa H K=>gO true (Aq false 1 H (a 3)) λv=>K v H,λa H K=>gO true (some d) λv=>K v H,λa H K=>gO true (Ab 1 c) λv=>K v H,λa H K=>gO true (Aq false 1 H (a 6)) λv=>K v H,λa H K=>gO true (Dy zD [(0,1,(a 7))]) λv=>K v H,λa H K=>gH true (Co H 3 1 (Bx zD 1) [(0,3,(a 8))]) H K,λa H K=>Ba3 187 [(a 4),(a 5),(a 9)] H K,λa H K=>gO true (Aj (a 0)) λv=>K v H,λa H K=>gO true (Ab 1 (a 11)) λv=>K v H,λa H K=>gS true (AU 1 H (a 12) (a 10)) H λH'=>K Be H']
theorem Arm (a b c:AV):∀i,i<crDOps.length->OpIg prog crDOps (Aep a b c) i (crDNeed.getD i []) ((YZ a b c).getD i (λ_ _ _=>False)):=
 OpIg.all (ql:=Ll) (fz:=false) vX (by kernel_rfl) (λd H K=>by kernel_rfl)
structure OpM where
 kind:Int
 ino:Int
 pos:Int
 size:Int
 keep:Bool
 name:List UInt8
 to:List UInt8
 b:List UInt8
 deriving DecidableEq
def BO (o:OpM)(bv:AV):List AV:=[I o.kind,I o.ino,I o.pos,I o.size,B o.keep,S (Ax o.name),S (Ax o.to),bv]
theorem Arn (a b d c:AV)(vals:Nat->AV)(H:AH)(K:AV->AH->Prop):(AO (De (mk 82 0 [0,3,6]) (L1 [true,true,true,true,true] 6)) (AN prog f152.results.toList K)) .normal (pt crNOps vals (λ_=>true) (Aeo a b d c) 16) H=OL a b c H K:=by kernel_rfl
theorem Aro (a b c:AV)(vals:Nat->AV)(H:AH)(K:AV->AH->Prop):(AN prog f152.results.toList K) .normal (pt crDOps vals (λ_=>true) (Aep a b c) 14) H=K (.tup []) H:=by kernel_rfl
theorem Arp (a b c d:AV)(H:AH)(K:AV->AH->Prop)(h:ACode prog (.region 4 crNOps.toArray true) (AO (De (mk 82 0 [0,3,6]) (L1 [true,true,true,true,true] 6)) (AN prog f152.results.toList K)) (Aeo a b c d) H):JV a b c d H K:=unR.mk h
theorem Arq (a b c:AV)(H:AH)(K:AV->AH->Prop)(h:ACode prog (.region 5 crDOps.toArray true) (AN prog f152.results.toList K) (Aep a b c) H):OM a b c H K:=unR.mk h
def Sf (i j k:Nat)(A B C D:AH)(S:Nat->Bool):AH:=if S k=true then D else if S j=true then C else if S i=true then B else A
theorem Hv {i j k:Nat}{A B C D:AH}{S:Nat->Bool}{q:Nat}(a:q≠i)(b:q≠j)(c:q≠k):Sf i j k A B C D (Nw S q)=Sf i j k A B C D S:=by
 unfold Sf Nw;rw[if_neg (Al6 c),if_neg (Al6 b),if_neg (Al6 a)]
abbrev Ae3:=And.intro (And.intro (And.intro @Aa (And.intro @A4 (And.intro @List.getD_cons_succ.{0} @List.getD_cons_zero.{0}))) @C1) @Cu
theorem Arr {L d p k:Nat}{ns:List Nm}{E:List NdV}{a b bv:AV}{H:AH}{o:OpM}(h:ImH L d ns E a b H)(B:H[p]?=some (some (.cells (BO o bv))))(ae:p≠d)(ab:p∉Ba a)(hk:k<=ns.length)(f:ns.length<=100000):
  ∃r c,ImH L d (ns.take k++⟨o.name,o.ino⟩::ns.drop k) E r b c/\FrL L d H c/\c[p]?=H[p]?/\∀A K,OL (.ptr d 0) (.ptr p 0) A c K->JV (.ptr d 0) (.ptr p 0) (I k) A H K:=by
 have g:=Grew.app H [some (.cells (Ct ⟨o.name,o.ino⟩))];have u:=h.grew g;have ad:=(BG.1 B).1;obtain⟨r,l,T,W⟩:=Aik (x:=⟨o.name,o.ino⟩) (oj:=H.length) u.sa u.oa u.ca hk (by omega) (by simp) (λZ=>by have:=A5 h.sa _ Z;omega);obtain⟨G,i2,i3,C,i5,i6⟩:=T;have F:(ns.take k++(⟨o.name,o.ino⟩:Nm)::ns.drop k).length=ns.length+1:=by simp;omega
 obtain⟨c,t,n1,M⟩:=u.newA (ms:=ns.take k++⟨o.name,o.ino⟩::ns.drop k) i3 C (by rw[F];exact i2) G (by rw[F];exact i6) i5;have aa:c[p]?=H[p]?:=by
  have N:l[d]?=some (some (.cells [a,b])):=by rw[C d (BG.1 u.obj).1 u.noA];exact u.obj
  rw[AG (n:=1) (off:=0) (xs:=[r]) (cs:=[a,b]) (Bn (AI G)) N rfl (by simp)]at t;injection t with t;rw[<- t,Cc (Al6 ae),C p (by simp;omega) ab,g.2 p ad]
 have Y:FrL L d H c:=by have am:=h.len;exact⟨Al1 g.1 M.1,λj Q R=>(M.2 j Q R).trans (g.2 j (by omega))⟩
 let V:Nat->AV:=λi=>([.ptr d 0,.ptr d 0,.ptr d 0,.ptr d 0,a,I k,.ptr p 5,S (Ax o.name),.ptr p 1,I o.ino,.agg (Ct ⟨o.name,o.ino⟩),.sl H.length 0 1 2 (.ex 1),r,.ptr d 0,.ptr d 0,Be]:List AV).getD i Be;refine⟨r,c,n1,Y,aa,λA K U=>Arp _ _ _ _ _ _ ?_⟩;refine ACode.told2 TA Arj (λi=>crNNeed.getD i []) (λi=>(W9 (.ptr d 0) (.ptr p 0) (I k) A).getD i (λ_ _ _=>False)) V (Sf 11 12 15 H (H++[some (.cells (Ct ⟨o.name,o.ino⟩))]) l c) (Ark _ _ _ _) rfl ?_ ?_
 ·intro i hi S al s w f;rw[vY]at hi;have af:S 4=false->S 12=false:=λv=>by
   cases h:S 12 with
   | false=>rfl
   | true=>have:=w 12 h 4 (by simp[crNNeed]);rw[v]at this;cases this
  have y:S 12=false->S 15=false:=λv=>by
   cases h:S 15 with
   | false=>rfl
   | true=>have:=w 15 h 12 (by simp[crNNeed]);rw[v]at this;cases this
  have D:S 11=false->S 12=false:=λv=>by
   cases h:S 12 with
   | false=>rfl
   | true=>have:=w 12 h 11 (by simp[crNNeed]);rw[v]at this;cases this
  have J:∀j,j=7\/j=9->S j=false->S 11=false:=λj hj v=>by
   cases h:S 11 with
   | false=>rfl
   | true=>
    have P:=w 11 h 10 (by simp[crNNeed]);have:=w 10 P j (by rcases hj with rfl | rfl<;>simp[crNNeed]);rw[v]at this;cases this
  have X:i=0\/i=1\/i=2\/i=3\/i=4\/i=5\/i=6\/i=7\/i=8\/i=9\/i=10\/i=11\/i=12\/i=13\/i=14\/i=15:=by omega
  rcases X with rfl | rfl | rfl | rfl | rfl | rfl | rfl | rfl | rfl | rfl | rfl | rfl | rfl | rfl | rfl | rfl
  ·simp only[W9,List.getD_cons_zero,A4,Cu,C1,Aa];exact⟨rfl,(Hv (by omega) (by omega) (by omega)).symm⟩
  ·simp only[W9,Ae3];exact⟨rfl,(Hv (by omega) (by omega) (by omega)).symm⟩
  ·simp only[W9,Ae3];have v1:=(f 1 (by simp[crNNeed])).2;rw[v1];exact⟨rfl,(Hv (by omega) (by omega) (by omega)).symm⟩
  ·simp only[W9,Ae3];have v2:=(f 2 (by simp[crNNeed])).2;rw[v2];exact⟨rfl,(Hv (by omega) (by omega) (by omega)).symm⟩
  ·simp only[W9,Ae3];have v3:=(f 3 (by simp[crNNeed])).2;rw[v3];have e:Aq false 1 (Sf 11 12 15 H (H++[some (.cells (Ct ⟨o.name,o.ino⟩))]) l c S) (V 3)=some a:=by
    have m:=af s;have q:=y m;have:(Sf 11 12 15 H (H++[some (.cells (Ct ⟨o.name,o.ino⟩))]) l c S)[d]?=some (some (.cells [a,b])):=by
     unfold Sf;rw[q,m];cases S 11 with
     | true=>exact u.obj
     | false=>exact h.obj
    show Aq false 1 _ (.ptr d 0)=_;rw[Ah this];rfl
   rw[e];exact⟨rfl,(Hv (by omega) (by omega) (by omega)).symm⟩
  ·simp only[W9,Ae3];exact⟨rfl,(Hv (by omega) (by omega) (by omega)).symm⟩
  ·simp only[W9,Ae3];exact⟨rfl,(Hv (by omega) (by omega) (by omega)).symm⟩
  ·simp only[W9,Ae3];have v6:=(f 6 (by simp[crNNeed])).2;rw[v6];have e:Aq false 1 (Sf 11 12 15 H (H++[some (.cells (Ct ⟨o.name,o.ino⟩))]) l c S) (V 6)=some (.lit (.string (Ax o.name))):=by have z:=J 7 (by omega) s;have m:=D z;have q:=y m;unfold Sf;rw[q,m,z];show Aq false 1 H (.ptr p 5)=_;rw[Ah B];rfl
   rw[e];exact⟨rfl,(Hv (by omega) (by omega) (by omega)).symm⟩
  ·simp only[W9,Ae3];exact⟨rfl,(Hv (by omega) (by omega) (by omega)).symm⟩
  ·simp only[W9,Ae3];have v8:=(f 8 (by simp[crNNeed])).2;rw[v8];have e:Aq false 1 (Sf 11 12 15 H (H++[some (.cells (Ct ⟨o.name,o.ino⟩))]) l c S) (V 8)=some (I o.ino):=by have z:=J 9 (by omega) s;have m:=D z;have q:=y m;unfold Sf;rw[q,m,z];show Aq false 1 H (.ptr p 1)=_;rw[Ah B];rfl
   rw[e];exact⟨rfl,(Hv (by omega) (by omega) (by omega)).symm⟩
  ·simp only[W9,Ae3];have v7:=(f 7 (by simp[crNNeed])).2;have v9:=(f 9 (by simp[crNNeed])).2;rw[v7,v9];exact⟨rfl,(Hv (by omega) (by omega) (by omega)).symm⟩
  ·simp only[W9,Ae3];have ag:=(f 10 (by simp[crNNeed])).2;rw[ag];have m:=D s;have q:=y m;have e:Sf 11 12 15 H (H++[some (.cells (Ct ⟨o.name,o.ino⟩))]) l c S=H:=by unfold Sf;rw[q,m,s];rfl
   have t:Sf 11 12 15 H (H++[some (.cells (Ct ⟨o.name,o.ino⟩))]) l c (Nw S 11)=H++[some (.cells (Ct ⟨o.name,o.ino⟩))]:=by unfold Sf;simp[Nw,q,m]
   rw[e,t];exact⟨rfl,rfl⟩
  ·simp only[W9,Ae3];have v4:=(f 4 (by simp[crNNeed])).2;have v5:=(f 5 (by simp[crNNeed])).2;have ah:=(f 11 (by simp[crNNeed])).2;rw[v4,v5,ah];have q:=y s;have e:Sf 11 12 15 H (H++[some (.cells (Ct ⟨o.name,o.ino⟩))]) l c S=H++[some (.cells (Ct ⟨o.name,o.ino⟩))]:=by unfold Sf;rw[q,s,(f 11 (by simp[crNNeed])).1];rfl
   have t:Sf 11 12 15 H (H++[some (.cells (Ct ⟨o.name,o.ino⟩))]) l c (Nw S 12)=l:=by unfold Sf;simp[Nw,q]
   rw[e,t];exact W
  ·simp only[W9,Ae3];have v0:=(f 0 (by simp[crNNeed])).2;rw[v0];exact⟨rfl,(Hv (by omega) (by omega) (by omega)).symm⟩
  ·simp only[W9,Ae3];have aj:=(f 13 (by simp[crNNeed])).2;rw[aj];exact⟨rfl,(Hv (by omega) (by omega) (by omega)).symm⟩
  ·simp only[W9,Ae3];have ak:=(f 14 (by simp[crNNeed])).2;have ai:=(f 12 (by simp[crNNeed])).2;rw[ak,ai];have e:Sf 11 12 15 H (H++[some (.cells (Ct ⟨o.name,o.ino⟩))]) l c S=l:=by unfold Sf;rw[s,(f 12 (by simp[crNNeed])).1];rfl
   have O:Sf 11 12 15 H (H++[some (.cells (Ct ⟨o.name,o.ino⟩))]) l c (Nw S 15)=c:=by unfold Sf;simp[Nw]
   rw[e,O];show bS (AU 1 l (.ptr d 0) r) _;rw[t,A9];exact⟨rfl,rfl⟩
 ·intro S al s;rw[vY,Arn];have:Sf 11 12 15 H (H++[some (.cells (Ct ⟨o.name,o.ino⟩))]) l c S=c:=by unfold Sf;rw[if_pos (s 15 (by rw[vY];omega)).1]
  rw[this];exact U
def newD (ino:Int):NdV:=⟨⟨ino,0,[]⟩,Ad,SV.nil⟩
theorem Ars {L f p k:Nat}{ns:List Nm}{m:List NdV}{a b bv:AV}{H:AH}{o:OpM}(h:ImH L f ns m a b H)(A:H[p]?=some (some (.cells (BO o bv))))(U:k<=m.length)(d:m.length<=100000):
  ∃r c,ImH L f ns (m.take k++newD o.ino::m.drop k) a r c/\FrL L f H c/\∀K:AV->AH->Prop,K (.tup []) c->OM (.ptr f 0) (.ptr p 0) (I k) H K:=by
 have g:=Grew.app H [some (.cells (BS (newD o.ino)))];have w:=h.grew g;have ai:=(BG.1 A).1;obtain⟨r,l,M,O⟩:=Arf (x:=newD o.ino) (oj:=H.length) w.sb w.ob w.cb U (by omega) (by simp) (λR=>by have:=A5 h.sb _ R;omega);obtain⟨W,X,Y,Z,i5,i6⟩:=M;have z:(m.take k++newD o.ino::m.drop k).length=m.length+1:=by simp;omega
 obtain⟨c,v,n1,C⟩:=w.newB (ew:=m.take k++newD o.ino::m.drop k) Y Z (by rw[z];exact X) W (by rw[z];exact i6) i5;have Q:FrL L f H c:=by have ah:=h.len;exact⟨Al1 g.1 C.1,λj F G=>(C.2 j F G).trans (g.2 j (by omega))⟩
 let V:Nat->AV:=λi=>([.ptr f 0,.ptr f 0,.ptr f 0,.ptr f 1,b,I k,.ptr p 1,I o.ino,.agg (BS (newD o.ino)),.sl H.length 0 1 3 (.ex 1),r,.ptr f 0,.ptr f 1,Be]:List AV).getD i Be;refine⟨r,c,n1,Q,λK N=>Arq _ _ _ _ _ ?_⟩;refine ACode.told2 TA Arl (λi=>crDNeed.getD i []) (λi=>(YZ (.ptr f 0) (.ptr p 0) (I k)).getD i (λ_ _ _=>False)) V (Sf 9 10 13 H (H++[some (.cells (BS (newD o.ino)))]) l c) (Arm _ _ _) rfl ?_ ?_
 ·intro i T S ag n u d;rw[vX]at T;have ab:S 4=false->S 10=false:=λt=>by
   cases h:S 10 with
   | false=>rfl
   | true=>have:=u 10 h 4 (by simp[crDNeed]);rw[t]at this;cases this
  have y:S 10=false->S 13=false:=λt=>by
   cases h:S 13 with
   | false=>rfl
   | true=>have:=u 13 h 10 (by simp[crDNeed]);rw[t]at this;cases this
  have B:S 9=false->S 10=false:=λt=>by
   cases h:S 10 with
   | false=>rfl
   | true=>have:=u 10 h 9 (by simp[crDNeed]);rw[t]at this;cases this
  have aa:S 7=false->S 9=false:=λt=>by
   cases h:S 9 with
   | false=>rfl
   | true=>
    have J:=u 9 h 8 (by simp[crDNeed]);have:=u 8 J 7 (by simp[crDNeed]);rw[t]at this;cases this
  have P:i=0\/i=1\/i=2\/i=3\/i=4\/i=5\/i=6\/i=7\/i=8\/i=9\/i=10\/i=11\/i=12\/i=13:=by omega
  rcases P with rfl | rfl | rfl | rfl | rfl | rfl | rfl | rfl | rfl | rfl | rfl | rfl | rfl | rfl
  ·simp only[YZ,List.getD_cons_zero,A4,Cu,C1,Aa];exact⟨rfl,(Hv (by omega) (by omega) (by omega)).symm⟩
  ·simp only[YZ,Ae3];exact⟨rfl,(Hv (by omega) (by omega) (by omega)).symm⟩
  ·simp only[YZ,Ae3];have v1:=(d 1 (by simp[crDNeed])).2;rw[v1];exact⟨rfl,(Hv (by omega) (by omega) (by omega)).symm⟩
  ·simp only[YZ,Ae3];have v2:=(d 2 (by simp[crDNeed])).2;rw[v2];exact⟨rfl,(Hv (by omega) (by omega) (by omega)).symm⟩
  ·simp only[YZ,Ae3];have v3:=(d 3 (by simp[crDNeed])).2;rw[v3];have e:Aq false 1 (Sf 9 10 13 H (H++[some (.cells (BS (newD o.ino)))]) l c S) (V 3)=some b:=by
    have q:=ab n;have s:=y q;have:(Sf 9 10 13 H (H++[some (.cells (BS (newD o.ino)))]) l c S)[f]?=some (some (.cells [a,b])):=by
     unfold Sf;rw[s,q];cases S 9 with
     | true=>exact w.obj
     | false=>exact h.obj
    show Aq false 1 _ (.ptr f 1)=_;rw[Ah this];rfl
   rw[e];exact⟨rfl,(Hv (by omega) (by omega) (by omega)).symm⟩
  ·simp only[YZ,Ae3];exact⟨rfl,(Hv (by omega) (by omega) (by omega)).symm⟩
  ·simp only[YZ,Ae3];exact⟨rfl,(Hv (by omega) (by omega) (by omega)).symm⟩
  ·simp only[YZ,Ae3];have v6:=(d 6 (by simp[crDNeed])).2;rw[v6];have e:Aq false 1 (Sf 9 10 13 H (H++[some (.cells (BS (newD o.ino)))]) l c S) (V 6)=some (I o.ino):=by have D:=aa n;have q:=B D;have s:=y q;unfold Sf;rw[s,q,D];show Aq false 1 H (.ptr p 1)=_;rw[Ah A];rfl
   rw[e];exact⟨rfl,(Hv (by omega) (by omega) (by omega)).symm⟩
  ·simp only[YZ,Ae3];have v7:=(d 7 (by simp[crDNeed])).2;rw[v7];exact⟨rfl,(Hv (by omega) (by omega) (by omega)).symm⟩
  ·simp only[YZ,Ae3];have v8:=(d 8 (by simp[crDNeed])).2;rw[v8];have q:=B n;have s:=y q;have e:Sf 9 10 13 H (H++[some (.cells (BS (newD o.ino)))]) l c S=H:=by unfold Sf;rw[s,q,n];rfl
   have v:Sf 9 10 13 H (H++[some (.cells (BS (newD o.ino)))]) l c (Nw S 9)=H++[some (.cells (BS (newD o.ino)))]:=by unfold Sf;simp[Nw,s,q]
   rw[e,v];exact⟨rfl,rfl⟩
  ·simp only[YZ,Ae3];have v4:=(d 4 (by simp[crDNeed])).2;have v5:=(d 5 (by simp[crDNeed])).2;have v9:=(d 9 (by simp[crDNeed])).2;rw[v4,v5,v9];have s:=y n;have e:Sf 9 10 13 H (H++[some (.cells (BS (newD o.ino)))]) l c S=H++[some (.cells (BS (newD o.ino)))]:=by unfold Sf;rw[s,n,(d 9 (by simp[crDNeed])).1];rfl
   have v:Sf 9 10 13 H (H++[some (.cells (BS (newD o.ino)))]) l c (Nw S 10)=l:=by unfold Sf;simp[Nw,s]
   rw[e,v];exact O
  ·simp only[YZ,Ae3];have v0:=(d 0 (by simp[crDNeed])).2;rw[v0];exact⟨rfl,(Hv (by omega) (by omega) (by omega)).symm⟩
  ·simp only[YZ,Ae3];have ae:=(d 11 (by simp[crDNeed])).2;rw[ae];exact⟨rfl,(Hv (by omega) (by omega) (by omega)).symm⟩
  ·simp only[YZ,Ae3];have af:=(d 12 (by simp[crDNeed])).2;have ad:=(d 10 (by simp[crDNeed])).2;rw[af,ad];have e:Sf 9 10 13 H (H++[some (.cells (BS (newD o.ino)))]) l c S=l:=by unfold Sf;rw[n,(d 10 (by simp[crDNeed])).1];rfl
   have E:Sf 9 10 13 H (H++[some (.cells (BS (newD o.ino)))]) l c (Nw S 13)=c:=by unfold Sf;simp[Nw]
   rw[e,E];show bS (AU 1 l (.ptr f 1) r) _;rw[v,A9];exact⟨rfl,rfl⟩
 ·intro S ag n;rw[vX,Aro];have:Sf 9 10 13 H (H++[some (.cells (BS (newD o.ino)))]) l c S=c:=by unfold Sf;rw[if_pos (n 13 (by rw[vX];omega)).1]
  rw[this];exact N
def Abc (L c:Nat)(H:AH)(ns:List Nm)(d:List NdV)(r:AV)(H':AH):Prop:=r=.tup []/\∃a b,ImH L c ns d a b H'/\FrL L c H H'
def ZG (ns:List Nm)(a:List NdV)(o:OpM):Prop:=¬Bo Nm.name ns o.name/\¬Bo NdV.ino a o.ino/\Ek o.name/\1<=o.ino/\o.ino<=4611686018427387904/\ns.length<16
instance (ns:List Nm) (a:List NdV) (o:OpM):Decidable (ZG ns a o):=by unfold ZG;infer_instance
def zL (ns:List Nm)(a:List NdV)(o:OpM):List Nm:=if ZG ns a o then GN Bv Nm.name ns ⟨o.name,o.ino⟩else ns
def zJ (ns:List Nm)(a:List NdV)(o:OpM):List NdV:=if ZG ns a o then GN Cj NdV.ino a (newD o.ino)else a
theorem Aio {L d:Nat}{ns:List Nm}{e:List NdV}{a b:AV}{H:AH}(h:ImH L d ns e a b H)(o:OpM){bv:AV}(f:oneA bv=true):∃c,AE H (.agg (BO o bv))=some (.ptr H.length 0,c)/\c[H.length]?=some (some (.cells (BO o bv)))/\ImH L d ns e a b c/\FrL L d H c:=by
 have g:=Grew.app H [some (.cells (BO o bv))];have l:=h.len;exact⟨_,by simp[BO,f],by simp,h.grew g,g.1,λj i k=>g.2 j (by omega)⟩
theorem zM {L l:Nat}{ns:List Nm}{d:List NdV}{a b bv:AV}{H i:AH}{o:OpM}(h:ImH L l ns d a b H)(x:AE H (.agg (BO o bv))=some (.ptr H.length 0,i))(e:i[H.length]?=some (some (.cells (BO o bv))))(p:ImH L l ns d a b i)
  (hs:CQ Bv Nm.name ns) (y:CQ Cj NdV.ino d) (D:ns.length<=100000) (C:d.length<=100000) (E:o.name.length<=1000000000) {K:AV->AH->Prop} (g:¬ZG ns d o->K (.tup []) i) (z:ZG ns d o->JV (.ptr l 0) (.ptr H.length 0) (I (DG Bv Nm.name ns o.name)) (I (DG Cj NdV.ino d o.ino)) i K):
  PC (.ptr l 0) (.agg (BO o bv)) H K:=by
 obtain⟨A,B,v,w,fz⟩:=p.lend;have k:=p.obj;unfold PC;simp only[x,A6];have t:A1 true 2 [a,b] 0=some (.agg [a,b]):=rfl;simp[e,k,t,BO];refine bC_of (PCall.lend (FZs.cons fz (FZs.cons (FZ.lit _) FZs.nil)) rfl (fC v w hs (by omega) o.name)).call ?_;simp[e,k,t,BO];refine bC_of (PCall.lend (FZs.cons fz (FZs.cons (FZ.lit _) FZs.nil)) rfl (qB v w y (by omega) o.ino)).call ?_;by_cases j:Bo Nm.name ns o.name
 ·simp[j];exact g λc=>c.1 j
 ·by_cases m:Bo NdV.ino d o.ino
  ·simp[j,m];exact g λc=>c.2.1 m
  ·simp[j,m,e,BO];refine Az (Ua (s:=o.name) (by omega)) ?_;by_cases f:Ek o.name
   ·by_cases n:o.ino<1
    ·simp[f,n,e,BO];exact g λc=>by have:=c.2.2.2.1;omega
    ·by_cases q:4611686018427387904<o.ino
     ·simp[f,n,q,e,BO];exact g λc=>by have:=c.2.2.2.2.1;omega
     ·have u:=Bt p.sa;by_cases F:16<=ns.length
      ·have r:(16:Int)<=ns.length:=by omega
       simp[f,n,q,e,BO,k,u,r];exact g λc=>by have:=c.2.2.2.2.2;omega
      ·have r:¬(16:Int)<=ns.length:=by omega
       simp[f,n,q,e,BO,k,u,r];exact z ⟨j,m,f,by omega,by omega,by omega⟩
   ·simp[f];exact g λc=>f c.2.2.1
theorem Art {L i:Nat}{ns:List Nm}{d:List NdV}{a b bv:AV}{H:AH}{o:OpM}(h:ImH L i ns d a b H)(hs:CQ Bv Nm.name ns)(n:CQ Cj NdV.ino d)(z:oneA bv=true)(k:ns.length<=100000)(j:d.length<=100000)(p:o.name.length<=1000000000):
  ∃r H',Abc L i H (zL ns d o) (zJ ns d o) r H'/\Ba0 152 [.ptr i 0,.agg (BO o bv)] H r H':=by
 obtain⟨s,l,g,f,m⟩:=Aio h o z;have C:H.length≠i:=by have:=(BG.1 h.obj).1;omega
 have B:H.length∉Ba a:=λA=>by have:=A5 h.sa _ A;omega
 by_cases e:ZG ns d o
 ·obtain⟨r,G,x,u,w,E⟩:=Arr f g C B (nF (c:=Bv) (key:=Nm.name) ns o.name) k;obtain⟨D,t,y,v,F⟩:=Ars x (w.trans g) (nF (c:=Cj) (key:=NdV.ino) d o.ino) j;refine⟨.tup [],t,⟨rfl,r,D,?_,m.trans (u.trans v)⟩,Wp (zM h l g f hs n k j p (λq=>absurd e q) λ_=>E _ _ ?_)⟩
  ·unfold zL zJ;rw[if_pos e,if_pos e];exact y
  ·rw[bJ];unfold SN;exact F _ ⟨rfl,rfl⟩
 ·refine⟨.tup [],s,⟨rfl,a,b,?_,m⟩,Wp (zM h l g f hs n k j p (λ_=>⟨rfl,rfl⟩) λq=>absurd q e)⟩;unfold zL zJ;rw[if_neg e,if_neg e];exact f
def G5 (ns:List Nm)(s:List UInt8):List Nm:=if Bo Nm.name ns s then DK Bv Nm.name ns s else ns
def Yn (ns:List Nm)(a:List NdV)(s:List UInt8):List NdV:=if Bo Nm.name ns s then DK Cj NdV.ino a (Dx ns s)else a
theorem Aip {L l:Nat}{ns:List Nm}{d:List NdV}{a b:AV}{H:AH}{s:List UInt8}(h:ImH L l ns d a b H)(hs:CQ Bv Nm.name ns)(n:CQ Cj NdV.ino d)(U:∀x∈ns,Bo NdV.ino d x.ino)(hn:ns.length<=100000)(hm:d.length<=100000):
  ∃r H',Abc L l H (G5 ns s) (Yn ns d s) r H'/\Ba0 155 [.ptr l 0,S (Ax s)] H r H':=mK (by
 obtain⟨Ra,Rb,u,v,fz⟩:=h.lend;have g:=h.obj;unfold eR;have m:A1 true 2 [a,b] 0=some (.agg [a,b]):=rfl;simp[g,m];refine bC_of (PCall.lend (FZs.cons fz (FZs.cons (FZ.lit _) FZs.nil)) rfl (fC u v hs (by omega) s)).call ?_;by_cases q:Bo Nm.name ns s
 ·obtain⟨x,j,V,ab⟩:=Ie koN hs q;obtain⟨o,ad,cells,Z,u2,u3,u4,u5,-⟩:=Yj Cg (by omega) h.sa h.oa j;have aa:=u5 1 (by omega);have T:=U x (Aj2 j);have p:=eC koI n T;have t:=(BG.1 j).1;have F:G5 ns s=DK Bv Nm.name ns s:=if_pos q;have G:Yn ns d s=DK Cj NdV.ino d x.ino:=by unfold Yn Dx;rw[if_pos q,V]
  simp[q,g,m,Z,u3,aa,Ct];refine bC_of (PCall.lend (FZs.cons fz (FZs.cons (FZ.lit _) FZs.nil)) rfl (qB u v n (by omega) x.ino)).call ?_;simp[g,Au (a:=(DG Bv Nm.name ns s:Nat)) (b:=1) (by omega) (by omega)];obtain⟨r1,H2,⟨y,z,A,B,C,D⟩,E⟩:=Ail h.sa h.oa h.ca t (by omega);refine bC_of E ?_;have l1:=X2 (c:=Bv) (key:=Nm.name) (k:=s) t;obtain⟨H3,I,f,Y⟩:=h.newA (ms:=DK Bv Nm.name ns s) (Au4 A.symm) (λi _ e=>B i e) (by rw[show(DK Bv Nm.name ns s).length=ns.length - 1 by omega];exact z) y (by rw[show(DK Bv Nm.name ns s).length=ns.length - 1 by omega];exact D) (λi e=>.inl (C▸e));have w:=f.obj;simp[I,w,Au (a:=(DG Cj NdV.ino d x.ino:Nat)) (b:=1) (by omega) (by omega)];obtain⟨r2,H4,⟨K,M,N,O,P,Q⟩,R⟩:=Arg f.sb f.ob f.cb p (by omega);refine bC_of R ?_;have l2:=X2 (c:=Cj) (key:=NdV.ino) (k:=x.ino) p;obtain⟨H5,J,W,X⟩:=f.newB (ew:=DK Cj NdV.ino d x.ino) (Au4 N.symm) (λi _ e=>O i e) (by rw[show(DK Cj NdV.ino d x.ino).length=d.length - 1 by omega];exact M) K (by rw[show(DK Cj NdV.ino d x.ino).length=d.length - 1 by omega];exact Q) (λi e=>.inl (P▸e));simp[J];rw[F,G];exact⟨rfl,_,_,W,Y.trans X⟩
 ·simp[q];refine⟨rfl,a,b,?_,FrL.refl _ _ _⟩;unfold G5 Yn;rw[if_neg q,if_neg q];exact h)
def Yd (pos n:Int):Prop:=0<=pos/\1<=n/\n<=1099511627776/\pos<=1099511627776 - n
instance (pos n:Int):Decidable (Yd pos n):=by unfold Yd;infer_instance
theorem ZO (pos n:Int):Ba2 201 [I pos,I n] (B (decide (Yd pos n))):=BPure.flat λH=>pA (by
 unfold kX Yd;by_cases c:0<=pos
 ·by_cases d:1<=n
  ·by_cases e:n<=1099511627776
   ·simp[c,d,e,B4 (a:=1099511627776) (b:=n) (by omega) (by omega)]
   ·simp[c,d,e]
  ·simp[c,d]
 ·simp[c])
theorem S9 {size:Int}{l:List Ext}{v:AV}(q:SV AB 9 l v)(hl:l.length<=1000000)(pos n:Int)(keep:Bool):
  ∃R,SV AB 9 (cL (Ck (size,l) pos n keep)) R/\Ba2 170 [.agg [I size,v],I pos,I n,B keep] (.tup [.agg [I (cS (Ck (size,l) pos n keep)),R],B (Ck (size,l) pos n keep).isSome]):=by
 refine BPure.cont (by simp[AF,noIds,q.1]) (aT ?_);unfold VZ;simp[Dg q,A1];refine Az (Fu q (by omega)) ?_;by_cases g:CZ size l
 ·simp[g];refine Az (ZO pos n) ?_;by_cases c:Yd pos n
  ·by_cases y:32768<n
   ·have p:Ck (size,l) pos n keep=none:=if_neg (λh=>by omega);simp[c,y,AU];exact ContK.none p
   ·obtain⟨E,F,g3,G⟩:=c;have K:Ck (size,l) pos n keep=some (if keep then size else max size (pos+n),OH l pos n):=if_pos ⟨g,E,F,by omega,G⟩;simp[show Yd pos n from⟨E,F,g3,G⟩,y];obtain⟨r,e,⟨w,rfl,a2,Y,A,Z⟩,X⟩:=dK (size:=size) (q.2 [some (.cells [I size,v]),some (.cells [I 0,Ad])]) (Dg q) (by omega);refine bC_of X ?_;have c0:=A.cells (o:=0) (x:=some (.cells [I size,v])) rfl;have c1:=A.cells (o:=1) (x:=some (.cells [I 0,Ad])) rfl;have J:=A.1;simp only[Aa6]at J;have ai:=AI a2;have L:∀j,j<2->j∉Ba w:=λj hj h=>by have:=Z j h;simp at this;omega
    rw[AG (n:=2) (off:=0) (x:=.agg [I size,w]) (xs:=[I size,w]) (by simp[ai]) c0 rfl (by simp)];simp[JQ (a:=pos) (b:=8) (by omega) (by omega) (by omega)];have ah:=JX g.2.2;have hN:allocN pos n<=4098:=by unfold allocN;omega
    refine Uq (λm P S T U V Q H=>∃(d:Nat) (w:AV),d+m=allocN pos n/\P=I pos/\S=I n/\T=B keep/\U=.ptr 0 0/\V=.ptr 1 0/\Q=I (pos/8+d)/\H[0]?=some (some (.cells [I size,w]))/\H[1]?=some (some (.cells [I 0,Ad]))/\
     Ac H 9 w=some ((IG l (pos/8) d).flatMap AB,(IG l (pos/8) d).length)/\Bm w=true/\(∀j,j<2->j∉Ba w)) ?_ (allocN pos n)
     ⟨0,w,by simp,rfl,rfl,rfl,rfl,rfl,by simp,HU (by omega),(Cc (by omega)).trans c1,?_,a2,L⟩
    ·rintro m P S T U V Q H R hR ⟨d,w,al,rfl,rfl,rfl,rfl,rfl,rfl,t,z,D,M,u⟩;unfold N9;have aa:=(BG.1 t).1;have ab:=(BG.1 z).1;simp[Au (a:=pos) (b:=n) (by omega) (by omega),B4 (a:=pos+n) (b:=1) (by omega) (by omega),JQ (a:=pos+n - 1) (b:=8) (by omega) (by omega) (by omega)];by_cases hd:d<allocN pos n
     ·have C:pos/8+(d:Int)<=(pos+n - 1)/8:=by unfold allocN at hd;omega
      have aj:=wL (k:=d) ah (pos/8);have am:=qC (k:=d) (l:=l) (no:=pos/8);obtain⟨ak,⟨O,q1,q2,q3,q4,q5,q6,q7⟩,q8⟩:=XK (no:=pos/8+d) t D M (u 0 (by omega)) aj (by omega);simp[C];refine bC_of q8 ?_;have ae:∀i,i<H.length->i∉Ba w->i∉Ba O:=λi g c y=>(q7 i y).elim c (λh=>by omega);simp[Au (a:=pos/8+d) (b:=1) (by omega) (by omega)];refine hR (m - 1) _ _ _ _ _ _ _ (by omega) ⟨d+1,O,by omega,rfl,rfl,rfl,rfl,rfl,by rw[show pos/8+(d:Int)+1=pos/8+((d+1:Nat):Int) by omega],q1,?_,?_,q3,λi f=>ae i (by omega) (u i f)⟩
      ·rw[q6 1 ab (by omega) (u 1 (by omega))];exact z
      ·rw[wM];exact q2
     ·have ad:d=allocN pos n:=by omega
      subst ad;have C:¬pos/8+((allocN pos n:Nat):Int)<=(pos+n - 1)/8:=by unfold allocN;omega
      have af:=AI M;have tail:∀s e,e.length=H.length->e[0]?=some (some (.cells [I s,w]))->e[1]?=some (some (.cells [I 0,Ad]))->Ac e 9 w=some ((OH l pos n).flatMap AB,(OH l pos n).length)->Ck (size,l) pos n keep=some (s,OH l pos n)->FJ (.ptr 0 0) (.ptr 1 0) e (ContK (Ck (size,l) pos n keep)):=by intro s e J e0 e1 e2 e3;rw[V3];unfold M0;simp[-CY,Ah e0,A1];rw[AG (n:=2) (off:=0) (xs:=[I s,w]) (cs:=[I 0,Ad]) (by simp[af]) e1 rfl (by simp)];simp[show 1<e.length by omega,A1];exact ContK.some e3 (Ai e2 λi f=>by have c:2<=i:=Am8 λh=>u i h f;rw[Cc (by omega)])
      simp[C];cases keep with
      | true=>
       simp;exact tail size H rfl t z D K
      | false=>
       have ag:max (pos+n) size=max size (pos+n):=by omega
       simp[t,ag];rw[AG (n:=1) (off:=0) (xs:=[I (max size (pos+n))]) (cs:=[I size,w]) rfl t rfl (by simp)];simp;refine tail _ _ (by simp) (HU aa) ((Cc (by omega)).trans z) (Ai D λi f=>by have c:2<=i:=Am8 λh=>u i h f;rw[Cc (by omega)]) K
    ·exact Ai Y λi f=>by have c:2<=i:=Am8 λh=>L i h f;rw[Cc (by omega)]
  ·have p:Ck (size,l) pos n keep=none:=if_neg (λh=>c ⟨h.2.1,h.2.2.1,by omega,h.2.2.2.2⟩);simp[c,AU];exact ContK.none p
 ·have p:Ck (size,l) pos n keep=none:=if_neg (λh=>g h.1);simp[g,AU];exact ContK.none p
theorem M3 {size:Int}{l:List Ext}{v:AV}(u:SV AB 9 l v)(hl:l.length<=1000000)(pos n:Int)(keep:Bool):
  ∃R,SV AB 9 (cL (Ck (size,l) pos n keep)) R/\Ba2 171 [.agg [I size,v],I pos,I n,B keep] (.tup [.agg [I (cS (Ck (size,l) pos n keep)),R],B (Ck (size,l) pos n keep).isSome]):=by
 refine BPure.cont (by simp[AF,noIds,u.1]) (Np ?_);unfold Hy;simp[Dg u,A1];refine Az (CW u (by omega)) ?_;by_cases c:CZ size l
 ·by_cases e:Yd pos n
  ·by_cases D:32768<n
   ·have g:Ck (size,l) pos n keep=none:=if_neg (λh=>by omega);obtain⟨p,t,A,C⟩:=e;simp[c,show ¬pos<0 by omega,show ¬n<1 by omega,D,AU];exact ContK.none g
   ·obtain⟨p,t,A,C⟩:=e;have L:Ck (size,l) pos n keep=some (if keep then size else max size (pos+n),OH l pos n):=if_pos ⟨c,p,t,by omega,C⟩;simp[c,show ¬pos<0 by omega,show ¬n<1 by omega,D,B4 (a:=1099511627776) (b:=n) (by omega) (by omega),show ¬1099511627776 - n<pos by omega];obtain⟨r,f,⟨w,rfl,a2,Z,F,a5⟩,Y⟩:=VF (size:=size) (u.2 [some (.cells [I size,v]),some (.cells [I 0,Ad])]) (Dg u) (by omega);refine bC_of Y ?_;have c0:=F.cells (o:=0) (x:=some (.cells [I size,v])) rfl;have c1:=F.cells (o:=1) (x:=some (.cells [I 0,Ad])) rfl;have K:=F.1;simp only[Aa6]at K;have ai:=AI a2;have M:∀j,j<2->j∉Ba w:=λj hj h=>by have:=a5 j h;simp at this;omega
    rw[AG (n:=2) (off:=0) (x:=.agg [I size,w]) (xs:=[I size,w]) (by simp[ai]) c0 rfl (by simp)];simp[JQ (a:=pos) (b:=8) (by omega) (by omega) (by omega)];have ah:=JX c.2.2;have hN:allocN pos n<=4098:=by unfold allocN;omega
    refine Jw (λm Q T U V W S H=>∃(d:Nat) (w:AV),d+m=allocN pos n/\Q=I pos/\T=I n/\U=B keep/\V=.ptr 0 0/\W=.ptr 1 0/\S=I (pos/8+d)/\H[0]?=some (some (.cells [I size,w]))/\H[1]?=some (some (.cells [I 0,Ad]))/\
     Ac H 9 w=some ((IG l (pos/8) d).flatMap AB,(IG l (pos/8) d).length)/\Bm w=true/\(∀j,j<2->j∉Ba w)) ?_ (allocN pos n)
     ⟨0,w,by simp,rfl,rfl,rfl,rfl,rfl,by simp,HU (by omega),(Cc (by omega)).trans c1,?_,a2,M⟩
    ·rintro m Q T U V W S H R hR ⟨d,w,al,rfl,rfl,rfl,rfl,rfl,rfl,y,E,J,N,z⟩;unfold Fy;have aa:=(BG.1 y).1;have ab:=(BG.1 E).1;have an:allocN pos n=((pos+n - 1)/8 - pos/8+1).toNat:=rfl;simp[Au (a:=pos) (b:=n) (by omega) (by omega),Dp (a:=pos/8+d) (b:=8) (by omega) (by omega)];by_cases hd:d<allocN pos n
     ·have G:(pos/8+(d:Int))*8<pos+n:=by unfold allocN at hd;omega
      have aj:=wL (k:=d) ah (pos/8);have am:=qC (k:=d) (l:=l) (no:=pos/8);obtain⟨ak,⟨P,q1,q2,q3,q4,q5,q6,q7⟩,q8⟩:=lO (no:=pos/8+d) y J N (z 0 (by omega)) aj (by omega);simp[G];refine bC_of q8 ?_;have ae:∀i,i<H.length->i∉Ba w->i∉Ba P:=λi c e D=>(q7 i D).elim e (λh=>by omega);simp[Au (a:=pos/8+d) (b:=1) (by omega) (by omega)];refine hR (m - 1) _ _ _ _ _ _ _ (by omega) ⟨d+1,P,by omega,rfl,rfl,rfl,rfl,rfl,by rw[show pos/8+(d:Int)+1=pos/8+((d+1:Nat):Int) by omega],q1,?_,?_,q3,λi q=>ae i (by omega) (z i q)⟩
      ·rw[q6 1 ab (by omega) (z 1 (by omega))];exact E
      ·rw[wM];exact q2
     ·have ad:d=allocN pos n:=by omega
      subst ad;have G:¬(pos/8+((allocN pos n:Nat):Int))*8<pos+n:=by unfold allocN;omega
      have af:=AI N;have tail:∀s f,f.length=H.length->f[0]?=some (some (.cells [I s,w]))->f[1]?=some (some (.cells [I 0,Ad]))->Ac f 9 w=some ((OH l pos n).flatMap AB,(OH l pos n).length)->Ck (size,l) pos n keep=some (s,OH l pos n)->CF (.ptr 0 0) (.ptr 1 0) f (ContK (Ck (size,l) pos n keep)):=by intro s f K e0 e1 e2 e3;rw[Kd];unfold Fe;simp[-CY,Ah e0,A1];rw[AG (n:=2) (off:=0) (xs:=[I s,w]) (cs:=[I 0,Ad]) (by simp[af]) e1 rfl (by simp)];simp[show 1<f.length by omega,A1];exact ContK.some e3 (Ai e2 λi q=>by have e:2<=i:=Am8 λh=>z i h q;rw[Cc (by omega)])
      simp[G];cases keep with
      | true=>
       simp;exact tail size H rfl y E J L
      | false=>
       have ag:max (pos+n) size=max size (pos+n):=by omega
       simp[y,ag];rw[AG (n:=1) (off:=0) (xs:=[I (max size (pos+n))]) (cs:=[I size,w]) rfl y rfl (by simp)];simp;refine tail _ _ (by simp) (HU aa) ((Cc (by omega)).trans E) (Ai J λi q=>by have e:2<=i:=Am8 λh=>z i h q;rw[Cc (by omega)]) L
    ·exact Ai Z λi q=>by have e:2<=i:=Am8 λh=>M i h q;rw[Cc (by omega)]
  ·have g:Ck (size,l) pos n keep=none:=if_neg (λh=>e ⟨h.2.1,h.2.2.1,by omega,h.2.2.2.2⟩);by_cases p:pos<0
   ·simp[c,p,AU];exact ContK.none g
   ·by_cases t:n<1
    ·simp[c,p,t,AU];exact ContK.none g
    ·by_cases A:32768<n
     ·simp[c,p,t,A,AU];exact ContK.none g
     ·have C:1099511627776 - n<pos:=Int.lt_of_not_ge λh=>e ⟨by omega,by omega,by omega,h⟩;simp[c,p,t,A,B4 (a:=1099511627776) (b:=n) (by omega) (by omega),C,AU];exact ContK.none g
 ·have g:Ck (size,l) pos n keep=none:=if_neg (λh=>c h.1);simp[c,AU];exact ContK.none g
theorem FZ.fn {X:AH}{k:Fn}{a b a' c:List AV}(f:FZs X a a')(g:FZs X b c):FZ X (.fn k a b) (.fn k a' c):=by
 obtain⟨n0,d⟩:=f;obtain⟨h,e⟩:=g;refine⟨n0+h+1,λn i=>?_⟩;cases n with
 | zero=>omega
 | succ n=>simp only[Se,d n (by omega),e n (by omega)]
theorem FZs.same {X:AH}{vs:List AV}(h:AF vs=true):FZs X vs vs:=FA X vs h
theorem FZ.ptr {X:AH}{o off:Nat}{cs a:List AV}(c:X[o]?=some (some (.cells cs)))(h:FZs X (cs.drop off) a):FZ X (.ptr o off) (.ip a):=by
 obtain⟨n0,b⟩:=h;refine⟨n0+1,λn d=>?_⟩;cases n with
 | zero=>omega
 | succ n=>simp only[Se,c,b n (by omega)];rfl
theorem Aru {α:Type}{enc:α->List AV}{sz:Nat}(d:∀x,(enc x).length=sz)(A:0<sz){H:AH}{w x:AV}{l:List α}{y:α}{i:Nat}{a:Int}(t:Ac H sz w=some (l.flatMap enc,l.length))(r:Bm w=true)(hi:i<l.length)(h:a=i)(u:Cy x=some (enc y)):
  ∃p H',AY sz w (I a)=some p/\AU sz H p x=some H'/\H'.length=H.length/\(∀j,j∉Ba w->H'[j]?=H[j]?)/\Ac H' sz w=some ((l.set i y).flatMap enc,l.length):=by
 subst h;obtain⟨o,b,z,cells,rfl,e,f,g⟩:=Ju t r (by omega);have s:=(BG.1 e).1;have C:i*sz+sz<=l.length*sz:=by rw[<- An4];exact Ak5 _ hi
 have v:=d y;have m:=Dq hi;have B:=d (l[i]);refine⟨.ptr o (b+i*sz),H.set o (some (.cells (Cq cells (b+(i*sz+0)) (enc y)))),?_,?_,by simp,λj k=>Cc (by simp[Ba]at k;omega),?_⟩
 ·simp only[AY,OG];rw[if_pos ⟨by omega,by omega⟩];simp
 ·rw[AG (n:=sz) (off:=b+i*sz) (xs:=enc y) u e v (by omega),Fp _ _ _ (by omega)];rfl
 ·rw[AS (c:=Cq cells (b+(i*sz+0)) (enc y)) (by simp[s]) (by rw[Jt (by omega)];exact f)];rw[UA f (by omega),<- g,U9 (q:=0) d m (by unfold Cq;rw[Ap7,Ao4,Ak6 (by omega),Am9]) (by omega)]
def pD (p:Ext->Bool)(l:List Ext):Int:=match l.findIdx? p with
 | some i=>i
 | none=> -1
def Adb (k:FuncId)(oc:Nat)(c:List AV)(l:List Ext)(p:Ext->Bool):Prop:=Ch prog k=true/\AF c=true/\∀x∈l,∀(H:AH) (a:AV),(a=.ip c\/(a=.ptr oc 0/\H[oc]?=some (some (.cells c))))->∃H',Grew H H'/\Ba0 k [.agg (AB x),a] H (B (p x)) H'
theorem mA {k:FuncId}{oc:Nat}{c:List AV}{l:List Ext}{p:Ext->Bool}{R:AV}(f:SV AB 9 l R)(hl:l.length<=281474976710656)(o:Adb k oc c l p):
  Ba2 167 [R,.fn (.func k) [] [.ip c]] (I (pD p l)):=BPure.val (by simp[AF,noIds,f.1,o.2.1]) rfl (E6 (by
 unfold D8;simp[f.len];refine DJ (λn u v w z H=>∃j:Nat,j+n=l.length/\u=R/\v=.fn (.func k) [] [.ip c]/\w=I l.length/\z=I j/\∀m x,m<j->l[m]?=some x->p x=false) ?_ l.length ⟨0,by simp,rfl,rfl,rfl,rfl,by simp⟩;rintro n u v w z H G C ⟨j,K,rfl,rfl,rfl,rfl,q⟩;unfold CP;rcases Aj5 j l.length with r | J
 ·have d:=Dq r;generalize l[j]=y at d;obtain⟨H',g,D⟩:=o.2.2 y (Aj2 d) H (.ip c) (.inl rfl);simp[r,f.idx AD d rfl,o.1];refine bC_of D ?_;cases t:p y with
  | true=>
   have:l.findIdx? p=some j:=by rw[Ap9];obtain⟨A,B⟩:=BG.1 d;refine⟨A,by rw[B];exact t,λi E=>?_⟩;have:=q i _ E (Dq (by omega));simp[this]
   simp[pD,this]
  | false=>
   simp[Au (a:=j) (b:=1) (by omega) (by omega)];refine C (n - 1) _ _ _ _ _ (by omega) ⟨j+1,by omega,rfl,rfl,rfl,rfl,λm x L e=>?_⟩;by_cases h:m=j
   ·subst h;rw[d]at e;injection e with e;rw[<- e];exact t
   ·exact q m x (by omega) e
 ·have:l.findIdx? p=none:=by rw[Ap5];intro x d;obtain⟨m,s⟩:=Ak0.1 d;exact q m x (by have:=(BG.1 s).1;omega) s
  have F:¬j<l.length:=by omega
  simp[F,pD,this]))
theorem zU {p:Ext->Bool}{l:List Ext}(h:∀x∈l,p x=false):l.filter (λx=>!p x)=l:=List.filter_eq_self.2 λx a=>by simp[h x a]
abbrev Ar5:=@List.filter_append
theorem Up {H:AH}{v:AV}{l:List Ext}{k:FuncId}{oc:Nat}{c:List AV}{p:Ext->Bool}(K:Ac H 9 v=some (l.flatMap AB,l.length))(J:Bm v=true)(hl:l.length<=1000000)(F:H[oc]?=some (some (.cells c)))(ak:oc∉Ba v)(D:Adb k oc c l p):
  ∃r H',(Bm r=true/\Ac H' 9 r=some ((l.filter λx=>!p x).flatMap AB,(l.filter λx=>!p x).length)/\H.length<=H'.length/\(∀i,i<H.length->i∉Ba v->H'[i]?=H[i]?)/\∀i∈Ba r,i∈Ba v)/\
   Ba0 104 [v,.fn (.func k) [] [.ptr oc 0]] H r H':=IC (by
 unfold EU;obtain⟨R,hR,fR⟩:=FZ.sv K (lI l);have fc:FZ H (.fn (.func k) [] [.ptr oc 0]) (.fn (.func k) [] [.ip c]):=FZ.fn FZs.nil (FZs.cons (FZ.ptr F (FZs.same D.2.1)) FZs.nil);refine bP_of (PCall.lend (FZs.cons fR (FZs.cons fc FZs.nil)) rfl (mA hR (by omega) D)) ?_;cases A:l.findIdx? p with
 | none=>
  rw[Ap5]at A;simp[pD,Ap5.2 A];rw[zU A];exact⟨J,K⟩
 | some t=>
  obtain⟨h,d,h3⟩:=Ap9.1 A;have au:=(BG.1 F).1;simp[pD,A,show ¬(t:Int)= -1 by omega,Au (a:=t) (b:=1) (by omega) (by omega)];have ht:(l.take (t+1)).filter (λx=>!p x)=l.take t:=by rw[An5,Ar5,Dq h];simp[d];intro x s;obtain⟨m,G⟩:=Ak0.1 s;have ai:=(BG.1 G).1;rw[Aj4]at ai;rw[Ak2,if_pos (by omega)]at G;have:=h3 m (by omega);obtain⟨q1,X⟩:=BG.1 G;rw[X]at this;simpa using this
  refine GI (λn N Z x5 x6 H'=>∃(i j:Nat) (M:List Ext),j+n=l.length/\i<j/\N=v/\Z=.fn (.func k) [] [.ptr oc 0]/\x5=I i/\x6=I j/\M.length=l.length/\M.take i=(l.take j).filter (λx=>!p x)/\M.drop j=l.drop j/\
   Ac H' 9 v=some (M.flatMap AB,M.length)/\H'[oc]?=some (some (.cells c))/\H.length<=H'.length/\∀i,i<H.length->i∉Ba v->H'[i]?=H[i]?) ?_ (l.length - (t+1))
   ⟨t,t+1,l,by omega,by omega,rfl,rfl,rfl,rfl,rfl,ht.symm,rfl,K,F,Aj7 _,λ_ _ _=>rfl⟩
  rintro n N Z x5 x6 H' R' Q ⟨i,j,M,hj,aq,rfl,rfl,rfl,rfl,E,w,P,B,C,ah,T⟩;unfold DV;rcases Aj5 j l.length with V | ap
  ·have s:=Dq V;generalize l[j]=y at s;have ab:M[j]?=some y:=by have:=congrArg (λq=>q[0]?) P;simp only[Ak3,Ao8]at this;rw[this];exact s
   obtain⟨q,-,e1,-,-,e2⟩:=Ada (a:=j) B ab rfl;have av:=(BG.1 C).1;have gA:=Grew.app H' [some (.cells (AB y))];obtain⟨aa,g,ad⟩:=D.2.2 y (Aj2 s) (H'++[some (.cells (AB y))]) (.ptr oc 0) (.inr ⟨rfl,gA.cells C⟩);have f:=gA.trans g;have z:=g.cells (o:=H'.length) (x:=some (.cells (AB y))) (by simp);simp[Bt B,E,V,e1,e2,D.1,-CY];rw[sW (by simp) (by rfl)];simp;refine bC_of ad ?_;have S:M.drop (j+1)=l.drop (j+1):=by have:=congrArg (List.drop 1) P;rw[Ap8,Ap8]at this;exact this
   have U:∀i,i<H.length->i∉Ba N->aa[i]?=H[i]?:=λi h d=>by rw[f.2 i (by omega),T i h d]
   cases W:p y with
   | true=>
    simp;rw[DI];unfold C7;simp[Au (a:=j) (b:=1) (by omega) (by omega)];refine Q (n - 1) _ _ _ _ _ (by omega) ⟨i,j+1,M,by omega,by omega,rfl,rfl,rfl,rfl,E,?_,S,f.slice B,f.cells C,by have:=f.1;omega,U⟩;rw[An5,Ar5,<- w,s];simp[W]
   | false=>
    obtain⟨X,ao,f1,f2,f3,O,f5⟩:=Aru (x:=.agg (AB y)) (y:=y) (i:=i) (a:=i) AD (by omega) (f.slice B) J (by omega) rfl (by simp);simp[z,f1,f2,Au (a:=i) (b:=1) (by omega) (by omega)];rw[DI];unfold C7;simp[Au (a:=j) (b:=1) (by omega) (by omega)];refine Q (n - 1) _ _ _ _ _ (by omega) ⟨i+1,j+1,M.set i y,by omega,by omega,rfl,rfl,rfl,rfl,by simpa using E,?_,?_,by simpa using f5,?_,by have:=f.1;omega,λi h d=>by rw[O i d];exact U i h d⟩
    ·rw[An5 (l:=l),Ar5,<- w,s,An5,HU (by omega),List.take_set_of_le (Aj7 _)];simp[W]
    ·rw[List.drop_set_of_lt (by omega)];exact S
    ·rw[O oc ak];exact f.cells C
  ·have ag:j=l.length:=by omega
   subst ag;rw[An6]at w;have af:i<=M.length:=by omega
   have ae:(l.filter λx=>!p x).length=i:=by rw[<- w,Aj4];omega
   obtain⟨o,e,u,cells,rfl,Y,w2,w3⟩:=Ju B J (by omega);have am:=(BG.1 Y).1;have aj:i*9<=M.length*9:=Ak5 _ af;have ar:i*9+(M.length - i)*9=M.length*9:=by rw[<- Ap2];congr 1;omega
   have L:(Bx (AB (U6 0)) (M.length - i)).length=(M.length - i)*9:=by rw[EJ];rfl
   have e3:Bq 9 (.sl o e M.length 9 u) (some (I i)) none none=some (.sl o (e+i*9) (M.length - i) 9 (u.cut M.length i)):=by simp[Bq,BL];omega
   have e4:Bq 9 (.sl o e M.length 9 u) none (some (I i)) none=some (.sl o e i 9 (u.cut M.length 0)):=by simp[Bq,BL];omega
   have e5:Aam (AB (U6 0)) H' (.sl o (e+i*9) (M.length - i) 9 (u.cut M.length i))=some (H'.set o (some (.cells (Cq cells (e+i*9) (Bx (AB (U6 0)) (M.length - i)))))):=by simp only[Aam,Y];rw[if_pos ⟨rfl,by omega,by omega⟩,if_neg (by omega),Fp _ _ _ (by rw[L];omega)];rfl
   rw[<- oN];have al:¬(l.length:Int)<M.length:=by omega
   simp only[Anr,Aj1,al,e3,e5,A9,e4];refine⟨rfl,?_,by simpa using ah,λa h d=>?_,by simp[Ba]⟩
   ·have an:(Cq cells (e+i*9) (Bx (AB (U6 0)) (M.length - i))).length=cells.length:=Jt (by rw[L];omega);rw[ae,AS (c:=Cq cells (e+i*9) (Bx (AB (U6 0)) (M.length - i))) (by simp[am]) (by rw[an];omega)];congr 2;rw[<- w,<- IA AD,w3,Ap3,Aq2 aj];refine Am4 λq=>?_;rw[Ak2,Ak2];split
    ·rw[Ak3,Ak3,NJ (by rw[L];omega),if_neg (by omega)]
    ·rfl
   ·rw[Cc (by simp[Ba]at d;omega)];exact T a h d)
theorem Arv {cs xs:List AV}{k:Nat}(h:(cs.drop k).take xs.length=xs)(hl:k+xs.length<=cs.length):Cq cs k xs=cs:=by
 refine Am4 λi=>?_;rw[NJ hl];split
 ·rename_i c;rw[<- h,Ak2,if_pos (by omega),Ak3,show k+(i - k)=i by omega]
 ·rfl
theorem dP (x:Ext){j:Nat}(c:j<8):(AB x)[j+1]?=some (.lit (.int .u8 (x.b.getD j 0).toNat)):=by
 have a:=x.hb;unfold AB;rw[Ca,X4,Al0,Dq (by omega)];rfl
theorem Arw {x:Ext}{a:Int}{i j:Nat}(e:(j:Int)=a - x.no*8+i)(f:j<8):(AB (CD x a (a+i))).set (1+j) u0Z=AB (CD x a (a+(i+1:Nat))):=by
 refine Am4 λq=>?_;rw[Ao7];cases q with
 | zero=>rw[if_neg (by omega)];rfl
 | succ q=>
  by_cases b:q<8
  ·rw[dP _ b,dP _ b,D4 b,D4 b,AD];by_cases c:1+j=q+1
   ·rw[if_pos c,if_pos (by omega),if_pos (by omega)];rfl
   ·rw[if_neg c];by_cases d:a<=x.no*8+(q:Int)/\x.no*8+(q:Int)<a+i
    ·rw[if_pos d,if_pos (by omega)]
    ·rw[if_neg d,if_neg (by omega)]
  ·rw[Ao3 (by rw[AD];omega),Ao3 (by rw[AD];omega),AD];rw[if_neg (by omega)]
theorem Arx {H:AH}{o q:Nat}{cells:List AV}{x:Ext}{s:Sp}(f:H[o]?=some (some (.cells cells)))(N:(cells.drop q).take 9=AB x)(hq:q+9<=cells.length)(hs:MaySpan s)(V:0<=x.no)(e:x.no<137438953472):
  ∃H',(H'[o]?=some (some (.cells (Cq cells q (AB (CD x s.pos (s.pos+s.len))))))/\H.length<=H'.length/\∀i,i<H.length->i≠o->H'[i]?=H[i]?)/\Ba0 106 [.ptr o q,.agg (B9 s)] H (.tup []) H':=by
 have key:∃r H',(r=.tup []/\(H'[o]?=some (some (.cells (Cq cells q (AB (CD x s.pos (s.pos+s.len))))))/\H.length<=H'.length/\∀i,i<H.length->i≠o->H'[i]?=H[i]?))/\Ba0 106 [.ptr o q,.agg (B9 s)] H r H':=pB (by
  unfold kY;have L:=(BG.1 f).1;have Z:cells[q]?=some (I x.no):=by have:=congrArg (λl=>l[0]?) N;simp only[Ak2,Ak3,Ao8]at this;simpa[AB]using this
  have F:=Grew.app H [some (.cells (B9 s))];have T:=F.cells f;have ag:H[o]?=some (some (.cells cells)):=f;obtain⟨p,n⟩:=s;simp only[B9]at T F|-;simp[Aj6 L,f,Z,A1];refine bP_of (Qn x.no V e) ?_;refine bP_of (bR ⟨x.no*8,8⟩ ⟨p,n⟩) ?_;have ad:MaySpan ⟨x.no*8,8⟩:=by simp only[MaySpan,May];omega
  have K:VB ⟨x.no*8,8⟩ ⟨p,n⟩=if max (x.no*8) p<min (x.no*8+8) (p+n)then⟨max (x.no*8) p,min (x.no*8+8) (p+n) - max (x.no*8) p⟩else⟨0,0⟩:=by
   unfold VB;simp only;by_cases c:max (x.no*8) p<min (x.no*8+8) (p+n)
   ·rw[if_pos ⟨ad,hs,c⟩,if_pos c]
   ·rw[if_neg (λh=>c h.2.2),if_neg c]
  have u:∀m:Nat,(m:Int)=(VB ⟨x.no*8,8⟩ ⟨p,n⟩).len->CD x (VB ⟨x.no*8,8⟩ ⟨p,n⟩).pos ((VB ⟨x.no*8,8⟩ ⟨p,n⟩).pos+m)=CD x p (p+n):=by
   intro m g;refine aS rfl λk v=>?_;rw[D4 v,D4 v];rw[K]at g|-;by_cases c:max (x.no*8) p<min (x.no*8+8) (p+n)
   ·rw[if_pos c]at g|-;simp only at g|-;by_cases B:p<=x.no*8+(k:Int)/\x.no*8+(k:Int)<p+n
    ·rw[if_pos B,if_pos (by omega)]
    ·rw[if_neg B,if_neg (by omega)]
   ·rw[if_neg c]at g|-;simp only at g|-;rw[if_neg (by omega),if_neg (by omega)]
  have Y:∃m:Nat,(m:Int)=(VB ⟨x.no*8,8⟩ ⟨p,n⟩).len/\(0<m->x.no*8<=(VB ⟨x.no*8,8⟩ ⟨p,n⟩).pos/\(VB ⟨x.no*8,8⟩ ⟨p,n⟩).pos+m<=x.no*8+8):=by
   rw[K];split
   ·exact⟨(min (x.no*8+8) (p+n) - max (x.no*8) p).toNat,by simp only;omega,λ_=>by simp only;omega⟩
   ·exact⟨0,rfl,λh=>by omega⟩
  obtain⟨m,w,A⟩:=Y;have u:=u m w;generalize VB ⟨x.no*8,8⟩ ⟨p,n⟩=M at w A u;obtain⟨a,ml⟩:=M;simp only at w A u;subst w;have ae:=AD x;simp[B9,AU];have af:CD x a (a+(0:Nat))=x:=aS rfl λk v=>by rw[D4 v,if_neg (by omega)]
  refine Ze (λt O S P Q H'=>∃i:Nat,i+t=m/\O=.ptr o q/\S=.ptr (H.length+1) 0/\P=I m/\Q=I i/\H'[o]?=some (some (.cells (Cq cells q (AB (CD x a (a+i))))))/\H'[H.length+1]?=some (some (.cells [I a,I m]))/\H.length<=H'.length/\∀i,i<H.length->i≠o->H'[i]?=H[i]?) ?_ m
   ⟨0,by omega,rfl,rfl,rfl,rfl,?_,?_,by simp,λi G _=>Aj6 G⟩
  ·rintro t O S P Q H' R W ⟨i,G,rfl,rfl,rfl,rfl,d,C,D,E⟩;unfold Uw;by_cases X:i<m
   ·obtain⟨b1,b2⟩:=A (by omega);obtain⟨j,J⟩:∃j:Nat,(j:Int)=a - x.no*8+i:=⟨(a - x.no*8+i).toNat,by omega⟩;have ab:=(BG.1 d).1;have ah:=AD (CD x a (a+i));have aa:(Cq cells q (AB (CD x a (a+i))))[q]?=some (I x.no):=by rw[NJ (by omega),if_pos (by omega),Nat.sub_self];rfl
    simp[X,C,d,aa,Dp (a:=x.no) (b:=8) (by omega) (by omega),B4 (a:=a) (b:=x.no*8) (by omega) (by omega),Au (a:=a - x.no*8) (b:=i) (by omega) (by omega),<- J];have U:W7 8 1 (.ptr o (q+1)) (I j)=some (.ptr o (q+1+j)):=by simp[W7,OG];omega
    rw[U];simp only[Aa];rw[AG (n:=1) (off:=q+1+j) (xs:=[.lit (.int .u8 0)]) rfl d rfl (by rw[Jt (by omega)];omega)];simp[Au (a:=i) (b:=1) (by omega) (by omega)];refine W (t - 1) _ _ _ _ _ (by omega) ⟨i+1,by omega,rfl,rfl,rfl,rfl,?_,?_,by simpa using D,λy e z=>?_⟩
    ·rw[HU ab,<- Arw J (by omega)];congr 3;refine Am4 λy=>?_;rw[Ao7,Jt (by omega),NJ (by omega),NJ (by simp;omega),Ao7,Ak4];by_cases c:q+1+j=y
     ·subst c;rw[if_pos rfl,if_pos (by omega),if_pos (by omega),if_pos (by omega),if_pos (by omega)]
     ·rw[if_neg c];split
      ·rw[if_neg (by omega)]
      ·rfl
    ·rw[Cc (by omega)];exact C
    ·rw[Cc (by omega)];exact E y e z
   ·have:i=m:=by omega
    subst this;simp;rw[u]at d;exact⟨d,D,E⟩
  ·rw[Aj6 L,af,Arv (by rw[ae];exact N) (by omega)];exact f
  ·rw[Aj8 (by omega)];simp)
 obtain⟨r,H',⟨rfl,e⟩,z⟩:=key;exact⟨H',e,z⟩
theorem Aiq {H:AH}{w:AV}{l:List Ext}{i:Nat}{a:Int}{x:Ext}{s:Sp}(y:Ac H 9 w=some (l.flatMap AB,l.length))(u:Bm w=true)(c:l[i]?=some x)(r:a=i)(hs:MaySpan s)(h:0<=x.no)(k:x.no<137438953472):
  ∃p H',AY 9 w (I a)=some p/\Ba0 106 [p,.agg (B9 s)] H (.tup []) H'/\H.length<=H'.length/\(∀j,j<H.length->j∉Ba w->H'[j]?=H[j]?)/\Ac H' 9 w=some ((l.set i (CD x s.pos (s.pos+s.len))).flatMap AB,l.length):=by
 subst r;have t:=(BG.1 c).1;obtain⟨o,b,D,cells,rfl,d,f,g⟩:=Ju y u (by omega);have F:=(BG.1 d).1;have E:i*9+9<=l.length*9:=by rw[<- An4];exact Ak5 _ t
 have J:=AD x;have G:=AD (CD x s.pos (s.pos+s.len));have v:(cells.drop (b+i*9)).take 9=AB x:=by
  have e:((l.flatMap AB).drop (i*9)).take 9=AB x:=by rw[DA AD c,Ak9 (by omega),Aj3 (by omega)]
  rw[g,Ar1,Ap8,Ap3,Aq2 (by omega)]at e;exact e
 obtain⟨H',⟨z,A,B⟩,C⟩:=Arx (q:=b+i*9) d v (by omega) hs h k;refine⟨.ptr o (b+i*9),H',?_,C,A,λj m n=>B j m (by simp[Ba]at n;omega),?_⟩
 ·simp only[AY,OG];rw[if_pos ⟨by omega,by omega⟩];simp
 ·rw[AS z (by rw[Jt (by omega)];exact f)];rw[show b+i*9=b+(i*9+0) by omega,UA f (by omega),<- g,U9 (q:=0) AD c (by unfold Cq;rw[Ap7,Ao4,Ak6 (by omega),Am9]) (by omega)]
abbrev Av4:=@List.set_append_right
theorem map_set {f:Ext->Ext}{l:List Ext}{i:Nat}{x:Ext}(a:l[i]?=some x):((l.take i).map f++l.drop i).set i (f x)=(l.take (i+1)).map f++l.drop (i+1):=by
 have b:=(BG.1 a).1;rw[Cs a,Av4 _ _ (by rw[Ak8,Aj4];omega),An5,a];simp[show i - min i l.length=0 by omega]
theorem Air {f:Ext->Ext}{l:List Ext}{i:Nat}{x:Ext}(a:l[i]?=some x):((l.take i).map f++l.drop i)[i]?=some x:=by
 have b:=(BG.1 a).1;rw[Aj8 (by rw[Ak8,Aj4];omega),Ak3];simp only[Ak8,Aj4];rw[show i+(i - min i l.length)=i by omega];exact a
theorem nD {f:Ext->Ext}{l:List Ext}{i:Nat}:((l.take i).map f++l.drop i).length=l.length:=by
 simp;omega
theorem Ary (size:Int)(l:List Ext)(h:∀x∈l,-1<=x.no/\x.no<137438953472):Adb 105 1 [I size] l (λx=>decide (size<=x.no*8)):=by
 refine⟨by kernel_rfl,rfl,λx f H a d=>?_⟩;obtain⟨i,k⟩:=h x f
 have key:∃r H',(r=B (decide (size<=x.no*8))/\Grew H H')/\Ba0 105 [.agg (AB x),a] H r H':=XG (by
  unfold SC;have g:=Grew.app H [some (.cells (AB x))];rcases d with rfl | ⟨rfl,c⟩
  ·simp[Dp (a:=x.no) (b:=8) (by omega) (by omega)];exact g
  ·have j:=(BG.1 c).1;have e:=g.cells c;simp[Dp (a:=x.no) (b:=8) (by omega) (by omega),e];exact g)
 obtain⟨r,H',⟨rfl,g⟩,c⟩:=key;exact⟨H',g,c⟩
theorem Arz (oc:Nat)(s:Sp)(l:List Ext)(h:∀x∈l,0<=x.no/\x.no<137438953472):Adb 203 oc (B9 s) l (λx=>decide (Within ⟨x.no*8,8⟩ s)):=by
 refine⟨by kernel_rfl,rfl,λx i H a e=>?_⟩;obtain⟨c,d⟩:=h x i
 have key:∃r H',(r=B (decide (Within ⟨x.no*8,8⟩ s))/\Grew H H')/\Ba0 203 [.agg (AB x),a] H r H':=dV (by
  unfold XA;have g:=Grew.app H [some (.cells (AB x))];simp;refine bP_of (Qn x.no c d) ?_;have f:Aq true 2 (H++[some (.cells (AB x))]) a=some (.agg (B9 s)):=by
   rcases e with rfl | ⟨rfl,b⟩
   ·rfl
   ·rw[Ah (g.cells b)];rfl
  rw[f];simp;refine bP_of (wO ⟨x.no*8,8⟩ s) ?_;exact⟨rfl,g⟩)
 obtain⟨r,H',⟨rfl,g⟩,b⟩:=key;exact⟨H',g,b⟩
abbrev Ae5:=And.intro @List.drop_zero.{0} @List.map_nil.{0,0}
abbrev Ap1:=@List.length_filter_le
theorem SE {size0:Int}{l:List Ext}{v:AV}(y:SV AB 9 l v)(hl:l.length<=1000000)(size:Int):
  ∃R,SV AB 9 (cL (CR (size0,l) size)) R/\Ba2 50 [.agg [I size0,v],I size] (.tup [.agg [I (cS (CR (size0,l) size)),R],B (CR (size0,l) size).isSome]):=by
 refine BPure.cont (by simp[AF,noIds,y.1]) (aW ?_);unfold Wd;simp[Dg y,A1];refine Az (Fu y (by omega)) ?_;by_cases e:CZ size0 l
 ·by_cases q:size<0
  ·have u:CR (size0,l) size=none:=if_neg (λh=>by omega);simp[e,q,AU];exact ContK.none u
  ·by_cases X:1099511627776<size
   ·have u:CR (size0,l) size=none:=if_neg (λh=>by omega);simp[e,q,X,AU];exact ContK.none u
   ·have hw:CR (size0,l) size=some (size,Gr l size):=if_pos ⟨e,by omega,by omega⟩;simp[e,q,X];obtain⟨r,C,⟨w,rfl,a2,a3,E,a5⟩,a1⟩:=dK (size:=size0) (y.2 [some (.cells [I size0,v]),some (.cells [I size]),some (.cells [I 0,Ad])]) (Dg y) (by omega);refine bC_of a1 ?_;have c0:=E.cells (o:=0) (x:=some (.cells [I size0,v])) rfl;have M:=E.cells (o:=1) (x:=some (.cells [I size])) rfl;have c2:=E.cells (o:=2) (x:=some (.cells [I 0,Ad])) rfl;have al:=E.1;simp only[Aa6]at al;have ao:=AI a2;have m:∀j,j<3->j∉Ba w:=λj T h=>by have:=a5 j h;simp at this;omega
    have aq:=JX e.2.2;have ab:=λx d=>(N1 e.2.2 x d);rw[AG (n:=2) (off:=0) (x:=.agg [I size0,w]) (xs:=[I size0,w]) (by simp[ao]) c0 rfl (by simp)];simp[M];rw[AG (n:=1) (off:=0) (xs:=[I size]) (cs:=[I size0,w]) rfl (HU (by omega)) rfl (by simp)];simp[show 0<C.length by omega];have K:∀j x,j≠0->(C.set 0 x)[j]?=C[j]?:=λj x T=>Cc (by omega);have an:Ac (C.set 0 (some (.cells [I size,w]))) 9 w=some (l.flatMap AB,l.length):=Ai a3 λi g=>K i _ (λh=>m 0 (by omega) (h▸g));obtain⟨A,D,⟨W,G,b3,L,b5⟩,b6⟩:=Up (k:=105) an a2 (by omega) (oc:=1) (c:=[I size]) (by rw[K 1 _ (by omega)];exact M) (m 1 (by omega)) (Ary size l λx d=>by have:=ab x d;omega);have aj:(l.filter λx=>!decide (size<=x.no*8))=l.filter λx=>decide (x.no*8<size):=List.filter_congr λx _=>by
     by_cases c:size<=x.no*8
     ·simp[c,show ¬x.no*8<size by omega]
     ·simp[c,show x.no*8<size by omega]
    rw[aj]at G;refine bC_of b6 ?_;simp at b3;have z:∀j,j<3->j∉Ba A:=λj T h=>m j T (b5 j h);have d0:D[0]?=some (some (.cells [I size,w])):=by rw[L 0 (by simp;omega) (m 0 (by omega))];exact HU (by omega)
    have d1:D[1]?=some (some (.cells [I size])):=by rw[L 1 (by simp;omega) (m 1 (by omega)),K 1 _ (by omega)];exact M
    have d2:D[2]?=some (some (.cells [I 0,Ad])):=by rw[L 2 (by simp;omega) (m 2 (by omega)),K 2 _ (by omega)];exact c2
    have ad:=AI W;rw[AG (n:=1) (off:=1) (xs:=[A]) (cs:=[I size,w]) (Bn ad) d0 rfl (by simp)];have ak:(l.filter λx=>decide (x.no*8<size)).length<=l.length:=Ap1 _ _;have Z:∀x∈(l.filter λx=>decide (x.no*8<size)),0<=x.no/\x.no<137438953472:=λx d=>by have:=ab x (Ar8.1 d).1;omega
    have ae:Gr l size=(l.filter λx=>decide (x.no*8<size)).map λx=>CD x size 1099511627776:=rfl;generalize (l.filter λx=>decide (x.no*8<size))=F at G ak Z ae;simp[show 0<D.length by omega,Bt G];have am:MaySpan ⟨size,1099511627776 - size⟩:=by simp only[MaySpan,May];omega
    refine Uu (λt x2 x3 x4 af ag H=>∃i:Nat,i+t=F.length/\x2=.ptr 0 0/\x3=.ptr 1 0/\x4=.ptr 2 0/\af=I F.length/\ag=I i/\H[0]?=some (some (.cells [I size,A]))/\H[1]?=some (some (.cells [I size]))/\H[2]?=some (some (.cells [I 0,Ad]))/\
     Ac H 9 A=some (((F.take i).map (λx=>CD x size 1099511627776)++F.drop i).flatMap AB,((F.take i).map (λx=>CD x size 1099511627776)++F.drop i).length)) ?_ F.length
     ⟨0,by omega,rfl,rfl,rfl,rfl,rfl,HU (by omega),(Cc (by omega)).trans d1,(Cc (by omega)).trans d2,?_⟩
    ·rintro t x2 x3 x4 af ag H R hR ⟨i,g,rfl,rfl,rfl,rfl,rfl,J,N,O,P⟩;unfold NA;have ah:=(BG.1 J).1;have ai:=(BG.1 N).1;have Y:=(BG.1 O).1;rcases Aj5 i F.length with aa | ap
     ·have d:=Dq aa;generalize F[i]=x at d;obtain⟨x0,x1⟩:=Z x (Aj2 d);obtain⟨p,H',f1,f2,f3,Q,S⟩:=Aiq (s:=⟨size,1099511627776 - size⟩) P W (Air d) (a:=i) rfl am x0 x1;simp only[show size+(1099511627776 - size)=1099511627776 by omega]at S;rw[map_set (f:=λx=>CD x size 1099511627776) d]at S;simp[aa,J,N,f1,B4 (a:=1099511627776) (b:=size) (by omega) (by omega)];refine bC_of f2 ?_;simp[Au (a:=i) (b:=1) (by omega) (by omega)];refine hR (t - 1) _ _ _ _ _ _ (by omega) ⟨i+1,by omega,rfl,rfl,rfl,rfl,rfl,by rw[Q 0 ah (z 0 (by omega))];exact J,by rw[Q 1 ai (z 1 (by omega))];exact N,by rw[Q 2 Y (z 2 (by omega))];exact O,by rw[S,nD,nD]⟩
     ·have:i=F.length:=by omega
      subst this;simp[J,A1];rw[AG (n:=2) (off:=0) (xs:=[I size,A]) (cs:=[I 0,Ad]) (by simp[ad]) O rfl (by simp)];simp[Y];rw[An6,Ar2,Am9,<- ae]at P;exact ContK.some hw (Ai P λi g=>by have q:3<=i:=Am8 λh=>z i h g;rw[Cc (by omega)])
    ·simp only[Ap7,Ae5,Ao4];exact Ai G λi g=>by have q:3<=i:=Am8 λh=>z i h g;rw[Cc (by omega)]
 ·have u:CR (size0,l) size=none:=if_neg (λh=>e h.1);simp[e,AU];exact ContK.none u
theorem Asa {no pos n:Int}(h:Yd pos n)(c:0<=no)(d:no<137438953472):(!decide (Within ⟨no*8,8⟩ ⟨pos,n⟩))=!gone pos n no:=by
 have e:Within ⟨no*8,8⟩ ⟨pos,n⟩↔(pos<=no*8/\no*8+8<=pos+n):=by rw[Aoo];unfold cR MaySpan May;unfold Yd at h;simp only;omega
 unfold gone;by_cases a:pos<=no*8<;>by_cases b:no*8+8<=pos+n<;>simp[e,a,b]
theorem XD {size:Int}{l:List Ext}{v:AV}(z:SV AB 9 l v)(hl:l.length<=1000000)(pos n:Int):
  ∃R,SV AB 9 (cL (Df (size,l) pos n)) R/\Ba2 172 [.agg [I size,v],I pos,I n] (.tup [.agg [I (cS (Df (size,l) pos n)),R],B (Df (size,l) pos n).isSome]):=by
 refine BPure.cont (by simp[AF,noIds,z.1]) (mB ?_);unfold dU;simp[Dg z,A1];refine Az (Fu z (by omega)) ?_;by_cases q:CZ size l
 ·simp[q];refine Az (ZO pos n) ?_;by_cases m:Yd pos n
  ·have hw:Df (size,l) pos n=some (size,FS l pos n):=if_pos ⟨q,m⟩;have am:=m;obtain⟨g1,g2,g3,g4⟩:=am;simp[m];obtain⟨r,d,⟨w,rfl,a2,Y,L,a5⟩,a1⟩:=dK (size:=size) (z.2 [some (.cells [I size,v]),some (.cells [I 0,Ad])]) (Dg z) (by omega);refine bC_of a1 ?_;have c0:=L.cells (o:=0) (x:=some (.cells [I size,v])) rfl;have c2:=L.cells (o:=1) (x:=some (.cells [I 0,Ad])) rfl;have ad:=L.1;simp only[Aa6]at ad;have av:=AI a2;have E:∀j,j<2->j∉Ba w:=λj S h=>by have:=a5 j h;simp at this;omega
   have az:=JX q.2.2;have U:=λx e=>(N1 q.2.2 x e);rw[AG (n:=2) (off:=0) (x:=.agg [I size,w]) (xs:=[I size,w]) (by simp[av]) c0 rfl (by simp)];simp;rw[AG (n:=2) (off:=0) (x:=.agg [I pos,I n]) (xs:=[I pos,I n]) (cs:=[I 0,I 0]) (by simp) (by rw[Aj8 (by simp)];simp) rfl (by simp)];have ar:((d.set 0 (some (AObj.cells [I size,w])))++[some (AObj.cells [I 0,I 0])]).set d.length (some (AObj.cells (Bb [I 0,I 0] 0 [I pos,I n])))=(d.set 0 (some (AObj.cells [I size,w])))++[some (AObj.cells [I pos,I n])]:=by rw[Av4 _ _ (by simp)];simp
   rw[ar];have g:=Grew.app (d.set 0 (some (AObj.cells [I size,w]))) [some (.cells [I pos,I n])];have aj:∀j x,j≠0->(d.set 0 x)[j]?=d[j]?:=λj x S=>Cc (by omega);have X:=g.cells (o:=0) (x:=some (.cells [I size,w])) (HU (by omega));have z1:=g.cells (o:=1) (x:=some (.cells [I 0,Ad])) (by rw[aj 1 _ (by omega)];exact c2);have J:(d.set 0 (some (AObj.cells [I size,w]))++[some (AObj.cells [I pos,I n])])[d.length]?=some (some (.cells [I pos,I n])):=by rw[Aj8 (by simp)];simp
   have K:d.length∉Ba w:=λh=>by have:=A5 Y _ h;omega
   have ae:(d.set 0 (some (AObj.cells [I size,w]))++[some (AObj.cells [I pos,I n])]).length=d.length+1:=by simp
   have ai:=g.slice (Ai (H':=d.set 0 (some (AObj.cells [I size,w]))) Y λi u=>aj i _ (λh=>E 0 (by omega) (h▸u)));generalize ax:(d.set 0 (some (AObj.cells [I size,w]))++[some (AObj.cells [I pos,I n])])=H3 at g X z1 J ai ae;generalize d.length=so at J K ae ad;simp[X];obtain⟨y,A,⟨Z,C,b3,M,b5⟩,b6⟩:=Up (k:=203) ai a2 (by omega) (oc:=so) (c:=B9 ⟨pos,n⟩) J K (Arz so ⟨pos,n⟩ l λx e=>by have:=U x e;omega);have ap:(l.filter λx=>!decide (Within ⟨x.no*8,8⟩ ⟨pos,n⟩))=l.filter λx=>!gone pos n x.no:=List.filter_congr λx e=>by have:=U x e;exact Asa m (by omega) (by omega)
   rw[ap]at C;refine bC_of b6 ?_;have G:∀j,j<2->j∉Ba y:=λj S h=>E j S (b5 j h);have aw:so∉Ba y:=λh=>K (b5 so h);have d0:A[0]?=some (some (.cells [I size,w])):=by rw[M 0 (by omega) (E 0 (by omega))];exact X
   have d1:A[1]?=some (some (.cells [I 0,Ad])):=by rw[M 1 (by omega) (E 1 (by omega))];exact z1
   have d2:A[so]?=some (some (.cells [I pos,I n])):=by rw[M so (by omega) K];exact J
   have ag:=AI Z;rw[AG (n:=1) (off:=1) (xs:=[y]) (cs:=[I size,w]) (Bn ag) d0 rfl (by simp)];have aq:(l.filter λx=>!gone pos n x.no).length<=l.length:=Ap1 _ _;have ab:∀x∈(l.filter λx=>!gone pos n x.no),0<=x.no/\x.no<137438953472:=λx e=>by have:=U x (Ar8.1 e).1;omega
   have ah:FS l pos n=(l.filter λx=>!gone pos n x.no).map λx=>CD x pos (pos+n):=rfl;generalize (l.filter λx=>!gone pos n x.no)=F at C aq ab ah;simp[show 0<A.length by omega,Bt C];have au:MaySpan ⟨pos,n⟩:=by simp only[MaySpan,May];omega
   refine XB (λt x3 x6 x8 ak al H=>∃i:Nat,i+t=F.length/\x3=.ptr 0 0/\x6=.ptr 1 0/\x8=.ptr so 0/\ak=I F.length/\al=I i/\H[0]?=some (some (.cells [I size,y]))/\H[1]?=some (some (.cells [I 0,Ad]))/\H[so]?=some (some (.cells [I pos,I n]))/\
    Ac H 9 y=some (((F.take i).map (λx=>CD x pos (pos+n))++F.drop i).flatMap AB,((F.take i).map (λx=>CD x pos (pos+n))++F.drop i).length)) ?_ F.length
    ⟨0,by omega,rfl,rfl,rfl,rfl,rfl,HU (by omega),(Cc (by omega)).trans d1,(Cc (by omega)).trans d2,?_⟩
   ·rintro t x3 x6 x8 ak al H R hR ⟨i,u,rfl,rfl,rfl,rfl,rfl,D,N,O,P⟩;unfold SA;have an:=(BG.1 D).1;have aa:=(BG.1 N).1;have ao:=(BG.1 O).1;rcases Aj5 i F.length with af | ay
    ·have e:=Dq af;generalize F[i]=x at e;obtain⟨x0,x1⟩:=ab x (Aj2 e);obtain⟨p,H',f1,f2,f3,Q,f5⟩:=Aiq (s:=⟨pos,n⟩) P Z (Air e) (a:=i) rfl au x0 x1;rw[map_set (f:=λx=>CD x pos (pos+n)) e]at f5;simp[af,D,O,f1,A1];refine bC_of f2 ?_;simp[Au (a:=i) (b:=1) (by omega) (by omega)];refine hR (t - 1) _ _ _ _ _ _ (by omega) ⟨i+1,by omega,rfl,rfl,rfl,rfl,rfl,by rw[Q 0 an (G 0 (by omega))];exact D,by rw[Q 1 aa (G 1 (by omega))];exact N,by rw[Q so ao aw];exact O,by rw[f5,nD,nD]⟩
    ·have:i=F.length:=by omega
     subst this;simp[D,A1];rw[AG (n:=2) (off:=0) (xs:=[I size,y]) (cs:=[I 0,Ad]) (by simp[ag]) N rfl (by simp)];simp[aa];rw[An6,Ar2,Am9,<- ah]at P;exact ContK.some hw (Ai P λi u=>by have m:2<=i:=Am8 λh=>G i h u;rw[Cc (by omega)])
   ·simp only[Ap7,Ae5,Ao4];exact Ai C λi u=>by have m:2<=i:=Am8 λh=>G i h u;rw[Cc (by omega)]
  ·have T:Df (size,l) pos n=none:=if_neg (λh=>m h.2);simp[m,AU];exact ContK.none T
 ·have T:Df (size,l) pos n=none:=if_neg (λh=>q h.1);simp[q,AU];exact ContK.none T
def Yo (ns:List Nm)(s t:List UInt8):Prop:=Bo Nm.name ns s/\Ek t/\s≠t
instance (ns:List Nm) (s t:List UInt8):Decidable (Yo ns s t):=by unfold Yo;infer_instance
def uJ (ns:List Nm)(s t:List UInt8):List Nm:=if Yo ns s t then GN Bv Nm.name (G5 (DK Bv Nm.name ns s) t) ⟨t,Dx ns s⟩else ns
def uI (ns:List Nm)(a:List NdV)(s t:List UInt8):List NdV:=if Yo ns s t then Yn (DK Bv Nm.name ns s) a t else a
theorem Asb {ns:List Nm}{t:List UInt8}(h:CQ Bv Nm.name ns):CQ Bv Nm.name (G5 ns t):=by
 unfold G5;split
 ·exact F9 h
 ·exact h
theorem Asc {ns:List Nm}{t:List UInt8}:(G5 ns t).length<=ns.length:=by
 unfold G5;split
 ·exact delK_sub.length_le
 ·exact Aj7 _
theorem Asd {L u:Nat}{ns:List Nm}{e:List NdV}{a b:AV}{H:AH}{s t:List UInt8}(h:ImH L u ns e a b H)(hs:CQ Bv Nm.name ns)(Z:CQ Cj NdV.ino e)(hx:∀x∈ns,Bo NdV.ino e x.ino)(hn:ns.length<=100000)(hm:e.length<=100000)(ht:t.length<=1000000000):
  ∃r H',Abc L u H (uJ ns s t) (uI ns e s t) r H'/\Ba0 154 [.ptr u 0,S (Ax s),S (Ax t)] H r H':=mL (by
 obtain⟨Ra,Rb,sa,sb,fz⟩:=h.lend;have B:=h.obj;unfold eS;have A:∀a b:AV,A1 true 2 [a,b] 0=some (.agg [a,b]):=λ_ _=>rfl;have p:¬Yo ns s t->Abc L u H (uJ ns s t) (uI ns e s t) (.tup []) H:=λd=>by unfold uJ uI;rw[if_neg d,if_neg d];exact⟨rfl,a,b,h,FrL.refl _ _ _⟩
 simp[B,A];refine bC_of (PCall.lend (FZs.cons fz (FZs.cons (FZ.lit _) FZs.nil)) rfl (fC sa sb hs (by omega) s)).call ?_;by_cases m:Bo Nm.name ns s
 ·simp[m];refine Az (Ua (s:=t) (by omega)) ?_;by_cases n:Ek t
  ·by_cases v:s=t
   ·simp[n,DC,v];rw[<- v]at p|-;exact p λd=>d.2.2 rfl
   ·have d:Yo ns s t:=⟨m,n,v⟩;unfold uJ uI;rw[if_pos d,if_pos d];obtain⟨x,G,ab,ag⟩:=Ie koN hs m;obtain⟨o,ah,cells,u1,u2,u3,u4,u5,-⟩:=Yj Cg (by omega) h.sa h.oa G;have ad:=u5 1 (by omega);have E:=(BG.1 G).1;have T:Dx ns s=x.ino:=by unfold Dx;rw[ab]
    simp[n,DC,v,B,u1,u3,ad,Ct,Au (a:=(DG Bv Nm.name ns s:Nat)) (b:=1) (by omega) (by omega)];obtain⟨r1,H2,⟨K,M,N,O,P,Q⟩,R⟩:=Ail h.sa h.oa h.ca E (by omega);refine bC_of R ?_;have l1:=X2 (c:=Bv) (key:=Nm.name) (k:=s) E;obtain⟨H3,U,n1,n2⟩:=h.newA (ms:=DK Bv Nm.name ns s) (Au4 N.symm) (λi _ z=>O i z) (by rw[show(DK Bv Nm.name ns s).length=ns.length - 1 by omega];exact M) K (by rw[show(DK Bv Nm.name ns s).length=ns.length - 1 by omega];exact Q) (λi z=>.inl (P▸z));simp[U];have F:CQ Bv Nm.name (DK Bv Nm.name ns s):=F9 hs;obtain⟨r4,f,⟨rfl,a4,b4,g,m2⟩,m3⟩:=Aip (s:=t) n1 F Z (λy hy=>hx y (delK_sub.subset hy)) (by omega) hm;refine bC_of m3 ?_;have C:=g.obj;obtain⟨Sa,Sb,ta,tb,W⟩:=g.lend;have aa:=Asb (t:=t) F;have ae:=Asc (ns:=DK Bv Nm.name ns s) (t:=t);simp[C,A];refine bC_of (PCall.lend (FZs.cons W (FZs.cons (FZ.lit _) FZs.nil)) rfl (fC ta tb aa (by omega) t)).call ?_;have w:=Grew.app f [some (.cells (Ct ⟨t,x.ino⟩))];have q:=g.grew w;have e5:Co f 2 1 (Bx [(.lit (.string ⟨#[]⟩)),(I 0)] 1) [(0,2,.agg (Ct ⟨t,x.ino⟩))]=some (.sl f.length 0 1 2 (.ex 1),f++[some (.cells (Ct ⟨t,x.ino⟩))]):=rfl;have e6:Dy [(.lit (.string ⟨#[]⟩)),(I 0)] [(0,1,S (Ax t)),(1,1,I x.ino)]=some (.agg (Ct ⟨t,x.ino⟩)):=rfl;simp[C];obtain⟨r7,H7,⟨k1,k2,k3,k4,k5,k6⟩,k7⟩:=Aik (x:=⟨t,x.ino⟩) (oj:=f.length) q.sa q.oa q.ca (nF (c:=Bv) (key:=Nm.name) _ t) (by omega) (by simp) (λhh=>by have:=A5 g.sa _ hh;omega);refine bC_of k7 ?_;have D:=XZ (c:=Bv) (key:=Nm.name) (l:=G5 (DK Bv Nm.name ns s) t) (x:=⟨t,x.ino⟩);obtain⟨H8,V,p1,J⟩:=q.newA (ms:=GN Bv Nm.name (G5 (DK Bv Nm.name ns s) t) ⟨t,x.ino⟩) k3 k4 (by rw[D];exact k2) k1 (by rw[D];exact k6) k5;simp[V];rw[T];have af:=g.len;exact⟨rfl,_,_,p1,n2.trans (m2.trans ⟨Al1 w.1 J.1,λj X Y=>(J.2 j X Y).trans (w.2 j (by omega))⟩)⟩
  ·simp[n];exact p λd=>n d.2.1
 ·simp[m];exact p λd=>m d.1)
def I9 (o:OpM)(d:Nd):Option I5:=if o.kind=2 then Ej (d.size,d.l) o.pos o.b else if o.kind=3 then CR (d.size,d.l) o.size else if o.kind=4 then Ck (d.size,d.l) o.pos o.size o.keep else if o.kind=5 then Df (d.size,d.l) o.pos o.size else none
def V2 (ds:List Nd)(o:OpM):List Nd:=match Aaf Nd.ino ds o.ino with
 | some d=>match I9 o d with
  | some c=>ds.set (DG Cj Nd.ino ds o.ino) ⟨d.ino,c.1,c.2⟩
  | none=>ds
 | none=>ds
theorem yX {L c k q:Nat}{ns:List Nm}{d:List NdV}{a b R:AV}{H:AH}{x:NdV}{sz:Int}{l:List Ext}(h:ImH L c ns d a b H)(A:d[k]?=some x)(m:SV AB 9 l R)(z:H[q]?=some (some (.cells [I sz,R])))(p:Bool):
  ∃H',ImH L c ns (if p=true then d.set k ⟨⟨x.nd.ino,sz,l⟩,R,m⟩else d) a b H'/\FrL L c H H'/\∀K:AV->AH->Prop,K (.tup []) H'->DH (.ptr c 0) (I k) (B p) (.ptr q 0) H K:=by
 cases p with
 | false=>
  refine⟨H,h,FrL.refl _ _ _,λK g=>?_⟩;rw[Qv];unfold L0;rw[Pf];unfold Ka;simpa using g
 | true=>
  obtain⟨o,f,cells,D,r,t,Q,S,E⟩:=Yj BN (by omega) h.sb h.ob A;have P:=h.ib o r;have O:o≠c:=λe=>h.noB (e▸r);have M:=h.len;have C:=SV.oneA m;have s:=h.obj;have N:=(BG.1 t).1;have u:AU 2 H (.ptr o (f+1)) (.agg [I sz,R])=some (H.set o (some (.cells (Bb cells (f+1) [I sz,R])))):=by rw[AG (n:=2) (xs:=[I sz,R]) (by simp[C]) t rfl (by omega)]
  refine⟨H.set o (some (.cells (Bb cells (f+1) [I sz,R]))),⟨?_,h.lo,by simp;omega,?_,h.oa,h.ca,h.ia,?_,h.ob,by simpa using h.cb,h.ib,h.ab⟩,⟨by simp,λj G J=>Cc (by omega)⟩,λK g=>?_⟩
  ·rw[Cc (by omega)];exact s
  ·exact Ai h.sa λi y=>Cc (fun (e:o=i)=>h.ab i y (e▸r))
  ·have:=E ⟨⟨x.nd.ino,sz,l⟩,R,m⟩ 1 [I sz,R] rfl (by simp);simpa using this
  ·rw[Qv];unfold L0;rw[Pf];unfold Ka;have F:A1 true 2 [I sz,R] 0=some (.agg [I sz,R]):=rfl;simp only[Af,Am];have v:Aq false 1 H (.ptr c 1)=some b:=by rw[Ah s];rfl
   have w:Aq true 2 H (.ptr q 0)=some (.agg [I sz,R]):=by rw[Ah z];rfl
   show bO (some (AV.ptr c 0)) _;simp only[Aa];show bO (some (AV.ptr c 1)) _;simp only[Aa,v,w,D];show bO (some (AV.ptr o (f+1))) _;simp only[Aa,u,A9];exact g
def ChP (L d:Nat)(H:AH)(ns:List Nm)(ds:List Nd)(r:AV)(H':AH):Prop:=r=.tup []/\∃a b c,c.map NdV.nd=ds/\ImH L d ns c a b H'/\FrL L d H H'
abbrev Ar6:=@Option.isSome_some
theorem Ase {L u:Nat}{ns:List Nm}{k:List NdV}{a b bv:AV}{H:AH}{o:OpM}(h:ImH L u ns k a b H)(hs:CQ Bv Nm.name ns)(X:CQ Cj NdV.ino k)(W:SV Ft 1 o.b bv)(hm:k.length<=100000)(aa:o.b.length<=281474976710656)(hl:∀d∈k,d.nd.l.length<=1000000)(f:o.kind=2\/o.kind=3\/o.kind=4\/o.kind=5):
  ∃r H',ChP L u H ns (V2 (k.map NdV.nd) o) r H'/\Ba0 153 [.ptr u 0,.agg (BO o bv)] H r H':=mG (by
 obtain⟨e,e1,Y,t,U⟩:=Aio h o (SV.oneA W);obtain⟨Ra,Rb,sa,sb,fz⟩:=t.lend;have T:=t.obj;unfold eO;simp only[e1,A6];have b0:A1 true 2 [a,b] 0=some (.agg [a,b]):=rfl;simp[Y,T,b0,BO];refine bC_of (PCall.lend (FZs.cons fz (FZs.cons (FZ.lit _) FZs.nil)) rfl (qB sa sb X (by omega) o.ino)).call ?_;by_cases N:Bo NdV.ino k o.ino
 ·obtain⟨x,S,af,al⟩:=Ie koI X N;obtain⟨oo,M,cells,u1,u2,u3,u4,u5,u6⟩:=Yj BN (by omega) t.sb t.ob S;have K:=hl x (Aj2 S);have ag:A1 true 2 cells (M+1)=some (.agg [I x.nd.size,x.R]):=by
   have O:=u5 1 (by omega);have P:=u5 2 (by omega);have l2:M+1+2<=cells.length:=by omega
   have:(cells.drop (M+1)).take 2=[I x.nd.size,x.R]:=by rw[Ao9 (by omega),Ao9 (by omega)];rw[Dq (by omega)]at O P;simp[BS]at O P;simp[O,P]
   simp[A1,l2,this]
  have o1:=SV.oneA x.h;have J:∀(y:Option I5) (R:AV) (F:AH) (sR:SV AB 9 (cL y) R),I9 o x.nd=y->ImH L u ns k a b F->FrL L u e F->∀q,F[q]?=some (some (.cells [I (cS y),R]))->DH (.ptr u 0) (I (DG Cj NdV.ino k o.ino)) (B y.isSome) (.ptr q 0) F (ChP L u H ns (V2 (k.map NdV.nd) o)):=by
   intro y R F sR hr hc fc q hq;obtain⟨H9,w1,w2,w3⟩:=yX hc S sR hq y.isSome;refine w3 _ ⟨rfl,_,_,_,?_,w1,U.trans (fc.trans w2)⟩;unfold V2;rw[mY af];simp only[hr];cases y with
   | none=>rfl
   | some c=>
    simp only[Ar6,if_true,Au5,Qx];rfl
  simp[N,T,u1,u3,ag];obtain⟨p,e2,E,ae,m,V⟩:∃p,AU 2 (e++[some (.cells [I 0,Ad])]) (.ptr e.length 0) (.agg [I x.nd.size,x.R])=some p/\p[e.length]?=some (some (.cells [I x.nd.size,x.R]))/\p[H.length]?=some (some (.cells (BO o bv)))/\ImH L u ns k a b p/\FrL L u e p:=by have g:=Grew.app e [some (.cells [I x.nd.size,x.R])];have ai:=t.len;exact⟨_,by simp[AU,Bb,o1],by simp,g.cells Y,t.grew g,g.1,λj Z i2=>g.2 j (by omega)⟩
  have ad:=(BG.1 E).1;have ak:L<=e.length:=t.len;have put:∀(sz:Int) (R:AV),oneA R=true->AU 2 p (.ptr e.length 0) (.agg [I sz,R])=some (p.set e.length (some (.cells [I sz,R])))/\ImH L u ns k a b (p.set e.length (some (.cells [I sz,R])))/\FrL L u e (p.set e.length (some (.cells [I sz,R])))/\(p.set e.length (some (.cells [I sz,R])))[e.length]?=some (some (.cells [I sz,R])):=by
   intro sz R hR;have aj:=(BG.1 t.obj).1;refine⟨?_,⟨?_,m.lo,by simpa using m.len,?_,m.oa,m.ca,m.ia,?_,m.ob,m.cb,m.ib,m.ab⟩,⟨by simpa using V.1,λj Z i2=>?_⟩,by simp[ad]⟩
   ·rw[AG (n:=2) (off:=0) (xs:=[I sz,R]) (by simp[hR]) E rfl (by simp)];rfl
   ·rw[Cc (by omega)];exact m.obj
   ·exact Ai m.sa λi Q=>Cc (by have:=A5 t.sa i Q;omega)
   ·exact Ai m.sb λi Q=>Cc (by have:=A5 t.sb i Q;omega)
   ·rw[Cc (by omega)];exact V.2 j Z i2
  have G:∀(s:Int) (R:AV),A1 true 2 [I s,R] 0=some (.agg [I s,R]):=λ_ _=>rfl;simp[e2,ae,BO];rcases f with f | f | f | f
  ·simp[f,E,G];obtain⟨R,v,w⟩:=oX x.h K o.pos W aa;refine Az w ?_;obtain⟨z,A,C,D⟩:=put (cS (Ej (x.nd.size,x.nd.l) o.pos o.b)) R (SV.oneA v);simp[z];exact J _ R _ v (by unfold I9;rw[if_pos f]) A C _ D
  ·simp[f,E,G];obtain⟨R,v,w⟩:=SE (size0:=x.nd.size) x.h K o.size;refine Az w ?_;obtain⟨z,A,C,D⟩:=put (cS (CR (x.nd.size,x.nd.l) o.size)) R (SV.oneA v);simp[z];exact J _ R _ v (by unfold I9;rw[if_neg (by omega),if_pos f]) A C _ D
  ·simp[f,E,G];obtain⟨R,v,w⟩:=S9 (size:=x.nd.size) x.h K o.pos o.size o.keep;refine Az w ?_;obtain⟨z,A,C,D⟩:=put (cS (Ck (x.nd.size,x.nd.l) o.pos o.size o.keep)) R (SV.oneA v);simp[z];exact J _ R _ v (by unfold I9;rw[if_neg (by omega),if_neg (by omega),if_pos f]) A C _ D
  ·simp[f,E,G];obtain⟨R,v,w⟩:=XD (size:=x.nd.size) x.h K o.pos o.size;refine Az w ?_;obtain⟨z,A,C,D⟩:=put (cS (Df (x.nd.size,x.nd.l) o.pos o.size)) R (SV.oneA v);simp[z];exact J _ R _ v (by unfold I9;rw[if_neg (by omega),if_neg (by omega),if_neg (by omega),if_pos f]) A C _ D
 ·simp[N];refine⟨rfl,a,b,k,?_,t,U⟩;unfold V2;rw[nX (λhh=>N (Ly.1 hh))])
theorem Asf {H:AH}{v:AV}{cs:List AV}{n:Nat}(h:Ac H 2 v=some (cs,n))(p:n<=1000000000):
  ∃r H',(Bm r=true/\Ac H' 2 r=some (cs,n)/\Grew H H'/\(∀i∈Ba r,H.length<=i)/\Dk r n)/\Ba0 96 [v] H r H':=Kh (by
 unfold FH;rcases VC h with⟨rfl,rfl,rfl⟩ | m
 ·have e:vA .eql Zi Ad Ad=some (B true):=rfl;simp only[e,Aa5,Am];exact⟨rfl,h,Grew.refl H,by simp[Ba],by simp[Dk]⟩
 ·simp only[m,Aa5,Ag];have e:Co H 2 0 (Bx [(.lit (.string ⟨#[]⟩)),(I 0)] 0) []=some (.sl H.length 0 0 2 (.ex 0),H++[some (.cells [])]):=rfl;simp only[e,A6];have g:=Grew.app H [some (.cells [])];have c:Ac (H++[some (.cells [])]) 2 (.sl H.length 0 0 2 (.ex 0))=some ([],0):=by simp[Ac]
  obtain⟨r,o,b,a2,d,f,j,k⟩:=Cn (sz:=2) (bytes:=24) (H:=H++[some (.cells [])]) (v:=.sl H.length 0 0 2 (.ex 0)) (cs:=[]) (n:=0) c rfl (AA (g.slice h)) (by omega);have l:=Vv c rfl (AA (g.slice h)) (by simp[Dk]) b;simp only[b,A6];refine⟨a2,by simpa using d,⟨by simp at f;omega,λi a=>?_⟩,λi a=>?_,by simpa using l⟩
  ·rw[j i (by simp;omega) (by simp[Ba];omega)];exact g.2 i a
  ·rcases k i a with h | h
   ·simp[Ba]at h;omega
   ·simp at h;omega)
theorem Asg {H:AH}{v:AV}{cs:List AV}{n:Nat}(h:Ac H 3 v=some (cs,n))(p:n<=1000000000):
  ∃r H',(Bm r=true/\Ac H' 3 r=some (cs,n)/\Grew H H'/\(∀i∈Ba r,H.length<=i)/\Dk r n)/\Ba0 97 [v] H r H':=Ki (by
 unfold FI;rcases VC h with⟨rfl,rfl,rfl⟩ | m
 ·have e:vA .eql Zi Ad Ad=some (B true):=rfl;simp only[e,Aa5,Am];exact⟨rfl,h,Grew.refl H,by simp[Ba],by simp[Dk]⟩
 ·simp only[m,Aa5,Ag];have e:Co H 3 0 (Bx [(I 0),(I 0),Ad] 0) []=some (.sl H.length 0 0 3 (.ex 0),H++[some (.cells [])]):=rfl;simp only[e,A6];have g:=Grew.app H [some (.cells [])];have c:Ac (H++[some (.cells [])]) 3 (.sl H.length 0 0 3 (.ex 0))=some ([],0):=by simp[Ac]
  obtain⟨r,o,b,a2,d,f,j,k⟩:=Cn (sz:=3) (bytes:=40) (H:=H++[some (.cells [])]) (v:=.sl H.length 0 0 3 (.ex 0)) (cs:=[]) (n:=0) c rfl (AA (g.slice h)) (by omega);have l:=Vv c rfl (AA (g.slice h)) (by simp[Dk]) b;simp only[b,A6];refine⟨a2,by simpa using d,⟨by simp at f;omega,λi a=>?_⟩,λi a=>?_,by simpa using l⟩
  ·rw[j i (by simp;omega) (by simp[Ba];omega)];exact g.2 i a
  ·rcases k i a with h | h
   ·simp[Ba]at h;omega
   ·simp at h;omega)
structure OwI (L:Nat)(ns:List Nm)(dv:List NdV)(a b:AV)(H:AH):Prop where
 sa:Ac H 2 a=some (ns.flatMap Ct,ns.length)
 oa:Bm a=true
 ca:Dk a ns.length
 ia:∀i∈Ba a,L<=i
 sb:Ac H 3 b=some (dv.flatMap BS,dv.length)
 ob:Bm b=true
 cb:Dk b dv.length
 ib:∀i∈Ba b,L<=i
 ab:∀i∈Ba a,i∉Ba b
def Ais (H:AH)(ns:List Nm)(ds:List Nd)(r:AV)(H':AH):Prop:=∃a b c,r=.agg [a,b]/\c.map NdV.nd=ds/\Grew H H'/\OwI H.length ns c a b H'
theorem ImH.putD {L c k:Nat}{ns:List Nm}{d:List NdV}{a b R:AV}{H:AH}{x:NdV}{sz:Int}{l:List Ext}(h:ImH L c ns d a b H)(t:d[k]?=some x)(m:SV AB 9 l R):
  ∃o off cells H',AY 3 b (I k)=some (.ptr o off)/\H[o]?=some (some (.cells cells))/\A1 true 2 cells (off+1)=some (.agg [I x.nd.size,x.R])/\AU 2 H (.ptr o (off+1)) (.agg [I sz,R])=some H'/\ImH L c ns (d.set k ⟨⟨x.nd.ino,sz,l⟩,R,m⟩) a b H'/\FrL L c H H':=by
 obtain⟨o,off,cells,y,p,q,G,r,z⟩:=Yj BN (by omega) h.sb h.ob t;have F:=h.ib o p;have E:o≠c:=λe=>h.noB (e▸p);have C:=h.len;have v:=SV.oneA m;have D:=(BG.1 q).1;have w:A1 true 2 cells (off+1)=some (.agg [I x.nd.size,x.R]):=by
  have f:=r 1 (by omega);have g:=r 2 (by omega);have u:off+1+2<=cells.length:=by omega
  have:(cells.drop (off+1)).take 2=[I x.nd.size,x.R]:=by rw[Ao9 (by omega),Ao9 (by omega)];rw[Dq (by omega)]at f g;simp[BS]at f g;simp[f,g]
  simp[A1,u,this]
 refine⟨o,off,cells,H.set o (some (.cells (Bb cells (off+1) [I sz,R]))),y,q,w,?_,⟨?_,h.lo,by simp;omega,?_,h.oa,h.ca,h.ia,?_,h.ob,by simpa using h.cb,h.ib,h.ab⟩,⟨by simp,λj A B=>Cc (by omega)⟩⟩
 ·rw[AG (n:=2) (xs:=[I sz,R]) (by simp[v]) q rfl (by omega)]
 ·rw[Cc (by omega)];exact h.obj
 ·exact Ai h.sa λi s=>Cc (fun (e:o=i)=>h.ab i s (e▸p))
 ·have:=z ⟨⟨x.nd.ino,sz,l⟩,R,m⟩ 1 [I sz,R] rfl (by simp);simpa using this
theorem Ait {H:AH}{ns:List Nm}{m:List NdV}{a b:AV}(W:SV Ct 2 ns a)(X:SV BS 3 m b)(hn:ns.length<=100000)(hm:m.length<=100000)(hl:∀d∈m,d.nd.l.length<=1000000):
  ∃r H',Ais H ns (m.map NdV.nd) r H'/\Ba0 43 [.agg [a,b]] H r H':=rY (by
 unfold pM;have oa:=SV.oneA W;have ob:=SV.oneA X;obtain⟨s,e3,L,c1,g3,l3⟩:∃s,AE (H++[some (.cells [a,b])]) (.agg [Ad,Ad])=some (.ptr (H.length+1) 0,s)/\s[H.length]?=some (some (.cells [a,b]))/\s[H.length+1]?=some (some (.cells [Ad,Ad]))/\Grew H s/\s.length=H.length+2:=by refine⟨H++[some (.cells [a,b]),some (.cells [Ad,Ad])],by simp,by simp,by rw[Aj8 (by omega)];simp,Grew.app _ _,by simp⟩
 simp[oa,ob,e3,L];obtain⟨f,H7,⟨U,A,B,F,p5⟩,p6⟩:=Asf (W.2 s) (by omega);refine bC_of p6 ?_;have N:=B.cells L;simp[N];obtain⟨g,t,⟨V,q2,u,C,q5⟩,q6⟩:=Asg (X.2 H7) (by omega);refine bC_of q6 ?_;have c8:=u.cells N;have G:=AI U;have J:=AI V;have l7:=B.1;have af:=u.1;have z:ImH (H.length+2) H.length ns m f g (t.set H.length (some (.cells [f,g]))):=by
  refine⟨by rw[HU (by omega)],⟨λq=>by have:=F _ q;omega,λq=>by have:=C _ q;omega⟩,by rw[Ak4];omega,?_,U,p5,λi c=>by have:=F i c;omega,?_,V,q5,λi c=>by have:=C i c;omega,λi c hh=>?_⟩
  ·exact Ai (u.slice A) λi c=>Cc (by have:=F i c;omega)
  ·exact Ai q2 λi c=>Cc (by have:=C i c;omega)
  ·have:=C i hh;have:=A5 A i c;omega
 have P:AU 2 t (.ptr H.length 0) (.agg [f,g])=some (t.set H.length (some (.cells [f,g]))):=by rw[AG (n:=2) (off:=0) (xs:=[f,g]) (by simp[G,J]) c8 rfl (by simp)];rfl
 have Q:Grew H (t.set H.length (some (.cells [f,g]))):=⟨by simp;omega,λi c=>by rw[Cc (by omega),(g3.trans (B.trans u)).2 i c]⟩;have M:(t.set H.length (some (.cells [f,g])))[H.length+1]?=some (some (.cells [Ad,Ad])):=by rw[Cc (by omega)];exact u.cells (B.cells c1)
 generalize t.set H.length (some (.cells [f,g]))=H13 at z P Q M;have d0:=z.obj;simp[Bn G,Bn J,P];have ln:=Bt z.sb;simp[d0,ln];refine bD (λn Y x2 Z aa H'=>∃(k:Nat) (p:List NdV),k+n=m.length/\Y=.ptr H.length 0/\x2=.ptr (H.length+1) 0/\Z=I m.length/\aa=I k/\p.map NdV.nd=m.map NdV.nd/\ImH (H.length+2) H.length ns p f g H'/\Grew H H'/\H'[H.length+1]?=some (some (.cells [Ad,Ad]))) ?_ m.length ⟨0,m,by omega,rfl,rfl,rfl,rfl,rfl,z,Q,M⟩;rintro n Y x2 Z aa H' R hR ⟨k,p,hk,rfl,rfl,rfl,rfl,v,c,w,D⟩;unfold Wk;have el:p.length=m.length:=by have:=congrArg List.length v;simpa using this
 have O:=c.obj;rcases Aj5 k m.length with h | h
 ·have y:=Dq (l:=p) (i:=k) (by omega);generalize p[k]=x at y;have ae:x.nd.l.length<=1000000:=by have S:x.nd∈p.map NdV.nd:=Al9 (Aj2 y);rw[v]at S;obtain⟨d,hd,e⟩:=Am5.1 S;rw[<- e];exact hl d hd
  obtain⟨R2,s2,A⟩:=yY (size:=x.nd.size) x.h (by omega);obtain⟨o,T,cells,H2,w1,w2,w3,w4,w5,K⟩:=c.putD (sz:=x.nd.size) y s2;simp[h,O,w1,w2,w3];refine bP_of A ?_;simp[w4,Au (a:=k) (b:=1) (by omega) (by omega)];refine hR (n - 1) _ _ _ _ _ (by omega) ⟨k+1,_,by omega,rfl,rfl,rfl,by simp,?_,w5,⟨by have:=w.1;have:=K.1;omega,λi E=>by rw[K.2 i (by omega) (by omega),w.2 i E]⟩,by rw[K.2 _ (by omega) (by omega)];exact D⟩;rw[<- v,Au5];refine Am4 λj=>?_;rw[Ao7];split
  ·rename_i hj;subst hj;rw[Al2,y];simp;omega
  ·rfl
 ·have b0:A1 true 2 [f,g] 0=some (.agg [f,g]):=rfl;have ad:=(BG.1 D).1;have e5:AU 2 H' (.ptr (H.length+1) 0) (.agg [f,g])=some (H'.set (H.length+1) (some (.cells [f,g]))):=by rw[AG (n:=2) (off:=0) (xs:=[f,g]) (by simp[G,J]) D rfl (by simp)];rfl
  simp[show ¬k<m.length by omega,O,b0,e5,ad];refine⟨f,g,p,rfl,v,⟨by simpa using w.1,λi E=>by rw[Cc (by omega),w.2 i E]⟩,⟨?_,c.oa,c.ca,λi q=>by have:=c.ia i q;omega,?_,c.ob,c.cb,λi q=>by have:=c.ib i q;omega,c.ab⟩⟩
  ·exact Ai c.sa λi q=>Cc (by have:=c.ia i q;omega)
  ·exact Ai c.sb λi q=>Cc (by have:=c.ib i q;omega))
def zK (ns:List Nm)(ds:List Nd)(o:OpM):Prop:=¬Bo Nm.name ns o.name/\¬Bo Nd.ino ds o.ino/\Ek o.name/\1<=o.ino/\o.ino<=4611686018427387904/\ns.length<16
instance (ns:List Nm) (ds:List Nd) (o:OpM):Decidable (zK ns ds o):=by unfold zK;infer_instance
def mP (ns:List Nm)(ds:List Nd)(s:List UInt8):List Nd:=if Bo Nm.name ns s then DK Cj Nd.ino ds (Dx ns s)else ds
def B6 (ns:List Nm)(ds:List Nd)(o:OpM):List Nm×List Nd:=
 if Fw ns ds then
  if o.kind=1 then(if zK ns ds o then(GN Bv Nm.name ns ⟨o.name,o.ino⟩,GN Cj Nd.ino ds ⟨o.ino,0,[]⟩)else(ns,ds))
  else if o.kind=2\/o.kind=3\/o.kind=4\/o.kind=5 then(ns,V2 ds o)
  else if o.kind=6 then(if Yo ns o.name o.to then(GN Bv Nm.name (G5 (DK Bv Nm.name ns o.name) o.to) ⟨o.to,Dx ns o.name⟩,mP (DK Bv Nm.name ns o.name) ds o.to)else(ns,ds))
  else if o.kind=7 then(G5 ns o.name,mP ns ds o.name)
  else(ns,ds)
 else(ns,ds)
abbrev Av2:=@List.map_take
abbrev Aw7:=@List.map_drop
theorem zX {a:List NdV}{i:Int}:(GN Cj NdV.ino a (newD i)).map NdV.nd=GN Cj Nd.ino (a.map NdV.nd) ⟨i,0,[]⟩:=by
 unfold GN;rw[Qx,An0,Aq7,Av2,Aw7];rfl
theorem zO {a:List NdV}{k:Int}:(DK Cj NdV.ino a k).map NdV.nd=DK Cj Nd.ino (a.map NdV.nd) k:=by
 unfold DK;rw[Qx,An0,Av2,Aw7]
theorem jW {ns:List Nm}{a:List NdV}{s:List UInt8}:(Yn ns a s).map NdV.nd=mP ns (a.map NdV.nd) s:=by
 unfold Yn mP;split
 ·exact zO
 ·rfl
theorem tF {ns:List Nm}{a:List NdV}{o:OpM}:zK ns (a.map NdV.nd) o↔ZG ns a o:=by
 unfold zK ZG;rw[Ly]
def Aas (p:List Nm×List Nd)(r:AV)(X:AH):Prop:=∃R,FZ X r R/\ImV p.1 p.2 R
theorem PO {ns:List Nm}{c:List NdV}{a b:AV}{H:AH}{p:List Nm×List Nd}(h:ImH 3 0 ns c a b H)(e:H[2]?=some (some (.cells [Ad,Ad])))(o:p=(ns,c.map NdV.nd)):EM (.ptr 0 0) (.ptr 2 0) H (Aas p):=by
 rw[SM];unfold Ni;have d:=h.obj;have j:A1 true 2 [a,b] 0=some (.agg [a,b]):=rfl;have r:=AI h.oa;have s:=AI h.ob;have m:=(BG.1 e).1;have k:AU 2 H (.ptr 2 0) (.agg [a,b])=some (H.set 2 (some (.cells [a,b]))):=by rw[AG (n:=2) (off:=0) (xs:=[a,b]) (by simp[r,s]) e rfl (by simp)];rfl
 simp[d,j,k,m];have l:ImH 3 0 ns c a b (H.set 2 (some (.cells [a,b]))):=⟨by rw[Cc (by omega)];exact d,h.lo,by simpa using h.len,Ai h.sa λi q=>Cc (by have:=h.ia i q;omega),h.oa,h.ca,h.ia,Ai h.sb λi q=>Cc (by have:=h.ib i q;omega),h.ob,h.cb,h.ib,h.ab⟩;obtain⟨f,g,t,u,fz⟩:=l.lend;subst o;exact⟨_,fz,f,g,c,rfl,t,u,rfl⟩
theorem uT {ns:List Nm}{ds:List Nd}{v bv:AV}{o:OpM}(hv:ImV ns ds v)(P:Sm ns ds)(aa:SV Ft 1 o.b bv)(ah:o.b.length<=281474976710656)(hn:o.name.length<=1000000000)(ht:o.to.length<=1000000000):
  ∃R,ImV (B6 ns ds o).1 (B6 ns ds o).2 R/\Ba2 82 [v,.agg (BO o bv)] R:=by
 have ae:=hv.noIds;refine BPure.FZ (by simp[AF]at ae|-;exact⟨ae,by simp[BO,noIds,AF,aa.1]⟩) (pL (K:=Aas (B6 ns ds o)) ?_);obtain⟨a,b,dv,rfl,sa,sb,rfl⟩:=hv;have Y:=P.1;have b2:=P.2.1;rw[Ak8]at b2;have oa:=SV.oneA sa;have ob:=SV.oneA sb;have o3:=SV.oneA aa;unfold lD;obtain⟨A,e5,c0,c1,c2,l5⟩:∃A,AE [some (.cells [a,b]),some (.cells (BO o bv))] (.agg [Ad,Ad])=some (.ptr 2 0,A)/\A[0]?=some (some (.cells [a,b]))/\A[1]?=some (some (.cells (BO o bv)))/\A[2]?=some (some (.cells [Ad,Ad]))/\A.length=3:=
  ⟨[some (.cells [a,b]),some (.cells (BO o bv)),some (.cells [Ad,Ad])],by simp,rfl,rfl,rfl,rfl⟩
 have e4:AE [some (.cells [a,b])] (.agg (BO o bv))=some (.ptr 1 0,[some (.cells [a,b]),some (.cells (BO o bv))]):=by simp[BO,o3]
 have X:∀x y:AV,A1 true 2 [x,y] 0=some (.agg [x,y]):=λ_ _=>rfl;simp[oa,ob,e4,e5,c0,X];obtain⟨r,G,⟨u,w,c,rfl,ad,Q,g⟩,j⟩:=Ait (H:=A) sa sb (by omega) b2 (λd z=>P.2.2.2 d.nd (Al9 z));refine bC_of j ?_;have a1:=AI g.oa;have a2:=AI g.ob;have l8:=Q.1;rw[l5]at g;have e9:AU 2 G (.ptr 0 0) (.agg [u,w])=some (G.set 0 (some (.cells [u,w]))):=by rw[AG (n:=2) (off:=0) (xs:=[u,w]) (by simp[a1,a2]) (Q.cells c0) rfl (by simp)];rfl
 have p:ImH 3 0 ns c u w (G.set 0 (some (.cells [u,w]))):=⟨by rw[HU (by omega)],⟨λq=>by have:=g.ia _ q;omega,λq=>by have:=g.ib _ q;omega⟩,by rw[Ak4];omega,Ai g.sa λi q=>Cc (by have:=g.ia i q;omega),g.oa,g.ca,g.ia,Ai g.sb λi q=>Cc (by have:=g.ib i q;omega),g.ob,g.cb,g.ib,g.ab⟩;have J:(G.set 0 (some (.cells [u,w])))[1]?=some (some (.cells (BO o bv))):=by rw[Cc (by omega)];exact Q.cells c1
 have T:(G.set 0 (some (.cells [u,w])))[2]?=some (some (.cells [Ad,Ad])):=by rw[Cc (by omega)];exact Q.cells c2
 simp only[e9,A9];generalize G.set 0 (some (.cells [u,w]))=H9 at p J T;have d0:=p.obj;obtain⟨Ra,Rb,ta,tb,fz⟩:=p.lend;have af:Sm ns (c.map NdV.nd):=by rw[ad];exact P
 have keep:∀{H':AH},FrL 3 0 H9 H'->H'[2]?=some (some (.cells [Ad,Ad])):=λf=>by rw[f.2 2 (by omega) (by omega)];exact T
 rw[<- ad];have b8:A1 true 8 (BO o bv) 0=some (.agg (BO o bv)):=rfl;have el:c.length=dv.length:=by have:=congrArg List.length ad;simpa using this
 have aj:∀d∈c,d.nd.l.length<=1000000:=λd z=>af.2.2.2 d.nd (Al9 z);simp[d0,X];refine bP_of (PCall.lend (FZs.cons fz FZs.nil) rfl (xT ⟨Ra,Rb,c,rfl,ta,tb,rfl⟩ af)) ?_;by_cases m:Fw ns (c.map NdV.nd)
 ·have hs:=m.1.2.2.1;have z:=RV.1 m.2.2.1;have S:∀x∈ns,Bo NdV.ino c x.ino:=λx S=>Ly.1 ((Yc.1 m).2.2.2.2.1 x S);simp[m,J,BO];by_cases E:o.kind=1
  ·have e:B6 ns (c.map NdV.nd) o=(zL ns c o,(zJ ns c o).map NdV.nd):=by
    unfold B6 zL zJ;rw[if_pos m,if_pos E];by_cases j:ZG ns c o
    ·rw[if_pos j,if_pos j,if_pos (tF.2 j),zX]
    ·rw[if_neg j,if_neg j,if_neg (λh=>j (tF.1 h))]
   rw[decide_eq_true E];simp only[Am];obtain⟨r2,V,⟨rfl,W,Z,D,C⟩,k⟩:=Art p hs z o3 Y (by omega) hn;refine bC_of k ?_;exact PO D (keep C) e
  ·have O:∀t:Bool,(t=true↔(o.kind=2\/o.kind=3\/o.kind=4\/o.kind=5))->FO (.ptr 0 0) (.ptr 1 0) (.ptr 2 0) (I o.kind) (B t) H9 (Aas (B6 ns (c.map NdV.nd) o)):=by
    intro t ag;rw[eG];unfold U0;by_cases F:o.kind=2\/o.kind=3\/o.kind=4\/o.kind=5
    ·rw[ag.2 F];have e:B6 ns (c.map NdV.nd) o=(ns,V2 (c.map NdV.nd) o):=by unfold B6;rw[if_pos m,if_neg E,if_pos F]
     simp[J,b8];obtain⟨r2,V,⟨rfl,W,Z,dw,ai,D,C⟩,k⟩:=Ase p hs z aa (by omega) ah aj F;refine bC_of k ?_;exact PO D (keep C) (by rw[ai];exact e)
    ·have:t=false:=by cases t with
      | true=>exact absurd (ag.1 rfl) F
      | false=>rfl
     subst this;simp;rw[aY];unfold SJ;by_cases L:o.kind=6
     ·have e:B6 ns (c.map NdV.nd) o=(uJ ns o.name o.to,(uI ns c o.name o.to).map NdV.nd):=by
       unfold B6 uJ uI;rw[if_pos m,if_neg E,if_neg F,if_pos L];by_cases j:Yo ns o.name o.to
       ·rw[if_pos j,if_pos j,if_pos j,jW]
       ·rw[if_neg j,if_neg j,if_neg j]
      simp[L,J,BO];obtain⟨r2,V,⟨rfl,W,Z,D,C⟩,k⟩:=Asd (s:=o.name) (t:=o.to) p hs z S Y (by omega) ht;refine bC_of k ?_;exact PO D (keep C) e
     ·simp[L];rw[aZ];unfold SL;by_cases U:o.kind=7
      ·have e:B6 ns (c.map NdV.nd) o=(G5 ns o.name,(Yn ns c o.name).map NdV.nd):=by unfold B6;rw[if_pos m,if_neg E,if_neg F,if_neg L,if_pos U,jW]
       simp[U,J,BO];obtain⟨r2,V,⟨rfl,W,Z,D,C⟩,k⟩:=Aip (s:=o.name) p hs z S Y (by omega);refine bC_of k ?_;exact PO D (keep C) e
      ·have e:B6 ns (c.map NdV.nd) o=(ns,c.map NdV.nd):=by unfold B6;rw[if_pos m,if_neg E,if_neg F,if_neg L,if_neg U]
       simp[U];exact PO p T e
   simp[E];by_cases M:o.kind=2
   ·simp[M];have:=O true (by simp[M]);rwa[M]at this
   ·by_cases k:o.kind=3
    ·simp[k];have:=O true (by simp[k]);rwa[k]at this
    ·by_cases N:o.kind=4
     ·simp[N];have:=O true (by simp[N]);rwa[N]at this
     ·simp[M,k,N];exact O (decide (o.kind=5)) (by simp[M,k,N])
 ·have e:B6 ns (c.map NdV.nd) o=(ns,c.map NdV.nd):=by unfold B6;rw[if_neg m]
  have:=PO p T e;rw[SM]at this;unfold Ni at this;simp[d0,X]at this;simp[m];exact this
theorem zS {x y:Ext}{j:Nat}(d:y.no=x.no)(e:j<8)(h:∀k,k<8->y.b.getD k 0=if k=j then 0 else x.b.getD k 0):(AB x).set (1+j) u0Z=AB y:=by
 refine Am4 λq=>?_;rw[Ao7];cases q with
 | zero=>rw[if_neg (by omega)];simp[AB,d]
 | succ q=>
  by_cases a:q<8
  ·rw[dP _ a,dP _ a,h q a,AD];by_cases c:1+j=q+1
   ·rw[if_pos c,if_pos (by omega),if_pos (by omega)];rfl
   ·rw[if_neg c,if_neg (by omega)]
  ·rw[Ao3 (by rw[AD];omega),Ao3 (by rw[AD];omega),AD];rw[if_neg (by omega)]
theorem YV {x:Ext}{a b:Int}(h:b<=a\/b<=x.no*8\/x.no*8+8<=a):CD x a b=x:=aS rfl λk c=>by rw[D4 c,if_neg (by omega)]
def BuildP (a v:AV)(s:Int)(F:List Ext)(w:AV)(H:AH):Prop:=H[0]?=some (some (.cells [a,v]))/\H[1]?=some (some (.cells [I 0,Ad]))/\H[2]?=some (some (.cells [I s,w]))/\Ac H 9 w=some (F.flatMap AB,F.length)/\Bm w=true/\∀j,j<3->j∉Ba w
theorem BuildP.grew {a v w:AV}{s:Int}{F:List Ext}{H H':AH}(h:BuildP a v s F w H)(g:Grew H H'):BuildP a v s F w H':=by
 obtain⟨b,c,d,e,f,i⟩:=h;exact⟨g.cells b,g.cells c,g.cells d,g.slice e,f,i⟩
theorem BuildP.other {a v w:AV}{s:Int}{F:List Ext}{H:AH}(h:BuildP a v s F w H){o:Nat}{x:Option AObj}(m:3<=o)(l:o∉Ba w):BuildP a v s F w (H.set o x):=by
 obtain⟨b,c,d,f,g,j⟩:=h;exact⟨(Cc (by omega)).trans b,(Cc (by omega)).trans c,(Cc (by omega)).trans d,Ai f λi k=>Cc (fun (e:o=i)=>l (e▸k)),g,j⟩
theorem BuildP.add {a v w:AV}{s:Int}{F:List Ext}{H:AH}(h:BuildP a v s F w H)(Y:Ext)(E:F.length<=10000000):
  ∃r b c,Gt 9 16 (H++[some (.cells (AB Y))]) w (.sl H.length 0 1 9 (.ex 1))=some (r,b)/\b[2]?=some (some (.cells [I s,w]))/\oneA r=true/\c=b.set 2 (some (.cells [I s,r]))/\BuildP a v s (F++[Y]) r c/\H.length<=c.length:=by
 obtain⟨y,z,m,A,B,n⟩:=h;have g:=Grew.app H [some (.cells (AB Y))];obtain⟨r,b,p,f,t,l,u,x⟩:=Cn (sz:=9) (bytes:=16) (g.slice A) B (AA (v:=.sl H.length 0 1 9 (.ex 1)) (q:=(AB Y,1)) (by simp[Ac,AD,Aj3])) (by omega);have G:=(BG.1 m).1;have k:∀j,j<3->b[j]?=H[j]?:=λj d=>by rw[u j (by simp;omega) (n j d),g.2 j (by omega)]
 have o:∀j,j<3->j∉Ba r:=λj d h=>(x j h).elim (n j d) (λh=>by simp at h;omega);have D:2<b.length:=by simp at l;omega
 refine⟨r,b,_,p,by rw[k 2 (by omega)];exact m,AI f,rfl,⟨?_,?_,HU D,?_,f,o⟩,by simp at l;simp;omega⟩
 ·rw[Cc (by omega),k 0 (by omega)];exact y
 ·rw[Cc (by omega),k 1 (by omega)];exact z
 ·rw[Ai t λi C=>Cc (fun (e:2=i)=>o 2 (by omega) (e▸C))];simp[Am6]
theorem Aiu {H:AH}(Y:Ext):Co H 9 1 (Bx [(I 0),u0Z,u0Z,u0Z,u0Z,u0Z,u0Z,u0Z,u0Z] 1) [(0,9,.agg (AB Y))]=some (.sl H.length 0 1 9 (.ex 1),H++[some (.cells (AB Y))]):=by
 have a:=AD Y;have e:Bx [(I 0),u0Z,u0Z,u0Z,u0Z,u0Z,u0Z,u0Z,u0Z] 1=AB (U6 0):=rfl;rw[e];have b:=AD (U6 0);have:ZP (AB (U6 0)) [(0,9,.agg (AB Y))]=some (AB Y):=by rw[Anq];simp only[Qc,Aot,if_true];rw[if_pos ⟨a,by omega⟩,Fp _ _ _ (by omega),Ap7,Ao4,Ak6 (by omega),Am9];rfl
 unfold Co;rw[this];rfl
abbrev At:=And.intro @Aa @Nat.zero_add
abbrev Aa7:=And.intro @BH.{0} @Ca.{0}
abbrev Ab0:=And.intro @Al @At
abbrev Ab1:=And.intro @Ab0 @Ae
theorem M4 {size0:Int}{l:List Ext}{v:AV}(m:SV AB 9 l v)(hl:l.length<=1000000)(size:Int):
  ∃R,SV AB 9 (cL (CR (size0,l) size)) R/\Ba2 141 [.agg [I size0,v],I size] (.tup [.agg [I (cS (CR (size0,l) size)),R],B (CR (size0,l) size).isSome]):=by
 refine BPure.cont (by simp[AF,noIds,m.1]) (Nt ?_);unfold HM;simp[Dg m,A1];refine Az (CW m (by omega)) ?_;by_cases c:CZ size0 l
 ·by_cases d:size<0
  ·have s:CR (size0,l) size=none:=if_neg (λh=>by omega);simp[c,d,AU];exact ContK.none s
  ·by_cases D:1099511627776<size
   ·have s:CR (size0,l) size=none:=if_neg (λh=>by omega);simp[c,d,D,AU];exact ContK.none s
   ·have hw:CR (size0,l) size=some (size,Gr l size):=if_pos ⟨c,by omega,by omega⟩;simp[c,d,D,AU];have ah:=λx f=>(N1 c.2.2 x f);have Q:∀(k:Nat) (y:Ext),l[k]?=some y->Gr (l.take (k+1)) size=Gr (l.take k) size++if y.no*8<size then [CD y size 1099511627776]else []:=by intro k y S;unfold Gr Vt;rw[An5,S,Ar5,An0];congr 1;split<;>simp[*]
    have ae:∀k,(Gr (l.take k) size).length<=l.length:=λk=>by unfold Gr Vt;rw[Ak8];exact Al1 (Ap1 _ _) (by rw[Aj4];omega)
    refine J7 (λt X Y Z x6 x7 H=>∃(k:Nat) (w:AV),k+t=l.length/\X=I size/\Y=.ptr 0 0/\Z=.ptr 1 0/\x6=.ptr 2 0/\x7=I k/\BuildP (I size0) v size (Gr (l.take k) size) w H) ?_ l.length
     ⟨0,Ad,by omega,rfl,rfl,rfl,rfl,rfl,rfl,rfl,rfl,rfl,rfl,by simp[Ba]⟩
    rintro t X Y Z x6 x7 H R hR ⟨k,w,hk,rfl,rfl,rfl,rfl,rfl,E⟩;unfold Fz;have aa:=E;obtain⟨M,A,N,C,e4,e5⟩:=aa;have ak:=(BG.1 N).1;rcases Aj5 k l.length with P | al
    ·have f:=Dq P;generalize l[k]=y at f;have S:=ah y (Aj2 f);have g:=Grew.app H [some (.cells (AB y))];simp[m.len,P,m.idx AD f rfl,-CY,Ah M];rw[sW (by simp) (by rfl)];have T:∀e J,BuildP (I size0) v size (Gr (l.take (k+1)) size) J e->CG R (I size) (.ptr 0 0) (.ptr 1 0) (.ptr 2 0) (I k) e (ContK (CR (size0,l) size)):=by intro e J d;rw[Ke];unfold Ff;simp[Au (a:=k) (b:=1) (by omega) (by omega)];exact hR (t - 1) _ _ _ _ _ _ (by omega) ⟨k+1,J,by omega,rfl,rfl,rfl,rfl,rfl,d⟩
     by_cases O:size<=y.no*8
     ·simp[Dp (a:=y.no) (b:=8) (by omega) (by omega),O];refine T _ w ?_;rw[Q k y f,if_neg (by omega),Am9];exact E.grew g
     ·simp[Dp (a:=y.no) (b:=8) (by omega) (by omega),O];have ai:H.length∉Ba w:=λh=>by have:=A5 C _ h;omega
      refine Jl R (λq z1 z2 z4 z6 z7 z8 z9 e=>∃j:Nat,j+q=8/\z1=I size/\z2=.ptr 0 0/\z4=.ptr 1 0/\z6=.ptr 2 0/\z7=I k/\z8=.ptr H.length 0/\z9=I j/\BuildP (I size0) v size (Gr (l.take k) size) w e/\e[H.length]?=some (some (.cells (AB (CD y size (y.no*8+j)))))) ?_ 8
       ⟨0,rfl,rfl,rfl,rfl,rfl,rfl,rfl,rfl,E.grew g,by rw[YV (.inr (.inl (by omega)))];simp⟩
      rintro q z1 z2 z4 z6 z7 z8 z9 e R2 ab ⟨j,hj,rfl,rfl,rfl,rfl,rfl,rfl,rfl,F,o⟩;unfold Fh;have aj:=(BG.1 o).1;have U:∀u,BuildP (I size0) v size (Gr (l.take k) size) w u->u[H.length]?=some (some (.cells (AB (CD y size (y.no*8+((j+1:Nat):Int))))))->j<8->CH R2 R (I size) (.ptr 0 0) (.ptr 1 0) (.ptr 2 0) (I k) (.ptr H.length 0) (I j) u (ContK (CR (size0,l) size)):=by intro u c d D;rw[Kg];unfold Fg;simp[Au (a:=j) (b:=1) (by omega) (by omega)];exact ab (q - 1) _ _ _ _ _ _ _ _ (by omega) ⟨j+1,by omega,rfl,rfl,rfl,rfl,rfl,rfl,rfl,c,d⟩
      rcases Aj5 j 8 with G | am
      ·have af:(j:Int)<8:=by omega
       have ag:(AB (CD y size (y.no*8+j)))[0]?=some (I y.no):=rfl;simp[af,o,ag,Dp (a:=y.no) (b:=8) (by omega) (by omega),Au (a:=y.no*8) (b:=j) (by omega) (by omega)];by_cases hs:size<=y.no*8+j
       ·have A:W7 8 1 (.ptr H.length 1) (I j)=some (.ptr H.length (1+j)):=by simp[W7,OG];omega
        have an:=AD (CD y size (y.no*8+j));simp[hs,A];rw[AG (n:=1) (off:=1+j) (xs:=[.lit (.int .u8 0)]) rfl o rfl (by omega)];simp;refine U _ (F.other (by omega) ai) ?_ G;rw[HU aj,zS (x:=CD y size (y.no*8+j)) (y:=CD y size (y.no*8+((j+1:Nat):Int))) rfl G];intro a p;rw[D4 p,D4 p];by_cases K:a=j
        ·rw[if_pos K,if_pos (by omega)]
        ·rw[if_neg K];by_cases z:size<=y.no*8+(a:Int)/\y.no*8+(a:Int)<y.no*8+j
         ·rw[if_pos z,if_pos (by omega)]
         ·rw[if_neg z,if_neg (by omega)]
       ·simp[hs];refine U _ F ?_ G;rw[o,YV (.inl (by omega)),YV (.inl (by omega))]
      ·have:j=8:=by omega
       subst this;have hY:CD y size (y.no*8+((8:Nat):Int))=CD y size 1099511627776:=aS rfl λa p=>by
        rw[D4 p,D4 p];by_cases z:size<=y.no*8+(a:Int)
        ·rw[if_pos (by omega),if_pos (by omega)]
        ·rw[if_neg (by omega),if_neg (by omega)]
       rw[hY]at o;obtain⟨d0,d1,L,d3,d4,d5⟩:=F;obtain⟨r,H4,H5,q1,q2,q3,q4,W,q6⟩:=BuildP.add ⟨d0,d1,L,d3,d4,d5⟩ (CD y size 1099511627776) (by have:=ae k;omega);simp only[show ¬((8:Nat):Int)<8 by omega,AM,Ab1,Aa8,Af,Ao8,Ah L,Ah o,Ags];simp only[Aa7,Aa,Aiu,A6,q1];rw[AG (n:=1) (off:=1) (xs:=[r]) (cs:=[I size,w]) (Bn q3) q2 rfl (by simp)];simp;refine T _ r ?_;rw[Q k y f,if_pos (by omega)];rw[q4]at W;exact W
    ·have:k=l.length:=by omega
     subst this;have ad:=AI e4;simp[m.len,-CY,Ah M,Ah N,A1];rw[AG (n:=2) (off:=0) (xs:=[I size,w]) (cs:=[I 0,Ad]) (by simp[ad]) A rfl (by simp)];simp[show 1<H.length by omega,A1];rw[An6]at C;exact ContK.some hw (Ai C λi hi=>by have d:3<=i:=Am8 λh=>e5 i h hi;rw[Cc (by omega)])
 ·have s:CR (size0,l) size=none:=if_neg (λh=>c h.1);simp[c,AU];exact ContK.none s
abbrev Ab7:=And.intro @Am @B3
abbrev Ah3:=And.intro @Aa @Ae
theorem Qy {size:Int}{l:List Ext}{v:AV}(z:SV AB 9 l v)(hl:l.length<=1000000)(pos n:Int):
  ∃R,SV AB 9 (cL (Df (size,l) pos n)) R/\Ba2 173 [.agg [I size,v],I pos,I n] (.tup [.agg [I (cS (Df (size,l) pos n)),R],B (Df (size,l) pos n).isSome]):=by
 refine BPure.cont (by simp[AF,noIds,z.1]) (PH ?_);unfold J1;simp[Dg z,A1];refine Az (CW z (by omega)) ?_;by_cases d:CZ size l
 ·by_cases e:Yd pos n
  ·have hw:Df (size,l) pos n=some (size,FS l pos n):=if_pos ⟨d,e⟩;obtain⟨A,F,L,W⟩:=e;simp[d,show ¬pos<0 by omega,show ¬n<1 by omega,show ¬1099511627776<n by omega,B4 (a:=1099511627776) (b:=n) (by omega) (by omega),show ¬1099511627776 - n<pos by omega,AU];have am:=λx s=>(N1 d.2.2 x s);have ab:∀(k:Nat) (y:Ext),l[k]?=some y->FS (l.take (k+1)) pos n=FS (l.take k) pos n++if pos<=y.no*8/\y.no*8+8<=pos+n then []else [CD y pos (pos+n)]:=by intro k y hy;unfold FS Vt gone;rw[An5,hy,Ar5,An0];congr 1;by_cases E:pos<=y.no*8<;>by_cases m:y.no*8+8<=pos+n<;>simp[E,m]
   have al:∀k,(FS (l.take k) pos n).length<=l.length:=λk=>by unfold FS Vt;rw[Ak8];exact Al1 (Ap1 _ _) (by rw[Aj4];omega)
   refine LI (λt x1 x2 x3 x6 x8 x9 H=>∃(k:Nat) (w:AV),k+t=l.length/\x1=I pos/\x2=I n/\x3=.ptr 0 0/\x6=.ptr 1 0/\x8=.ptr 2 0/\x9=I k/\BuildP (I size) v size (FS (l.take k) pos n) w H) ?_ l.length
    ⟨0,Ad,by omega,rfl,rfl,rfl,rfl,rfl,rfl,rfl,rfl,rfl,rfl,rfl,by simp[Ba]⟩
   rintro t x1 x2 x3 x6 x8 x9 H R hR ⟨k,w,hk,rfl,rfl,rfl,rfl,rfl,rfl,X⟩;unfold G8;have ai:=X;obtain⟨U,J,V,K,e4,e5⟩:=ai;have aq:=(BG.1 V).1;rcases Aj5 k l.length with Z | ar
   ·have s:=Dq Z;generalize l[k]=y at s;have hy:=am y (Aj2 s);have g:=Grew.app H [some (.cells (AB y))];simp[z.len,Z,z.idx AD s rfl,-CY,Ah U];rw[sW (by simp) (by rfl)];simp;have ad:∀p S,BuildP (I size) v size (FS (l.take (k+1)) pos n) S p->Dt R (I pos) (I n) (.ptr 0 0) (.ptr 1 0) (.ptr 2 0) (I k) p (ContK (Df (size,l) pos n)):=by intro p S e;rw[Mp];unfold FX;simp[Au (a:=k) (b:=1) (by omega) (by omega)];exact hR (t - 1) _ _ _ _ _ _ _ (by omega) ⟨k+1,S,by omega,rfl,rfl,rfl,rfl,rfl,rfl,e⟩
    have ao:H.length∉Ba w:=λh=>by have:=A5 K _ h;omega
    refine Lm R (λq z1 z2 z3 z6 z8 z9 af ag ah p=>∃j:Nat,j+q=8/\z1=I pos/\z2=I n/\z3=.ptr 0 0/\z6=.ptr 1 0/\z8=.ptr 2 0/\z9=I k/\af=.ptr H.length 0/\ag=I (max 0 (min (pos+n) (y.no*8+j) - max pos (y.no*8)))/\ah=I j/\BuildP (I size) v size (FS (l.take k) pos n) w p/\
     p[H.length]?=some (some (.cells (AB (CD y pos (min (pos+n) (y.no*8+j))))))) ?_ 8
     ⟨0,rfl,rfl,rfl,rfl,rfl,rfl,rfl,rfl,by rw[show max 0 (min (pos+n) (y.no*8+((0:Nat):Int)) - max pos (y.no*8))=0 by omega],rfl,X.grew g,by rw[YV (by omega)];simp⟩
    rintro q z1 z2 z3 z6 z8 z9 af ag ah p R2 aj ⟨j,hj,rfl,rfl,rfl,rfl,rfl,rfl,rfl,rfl,rfl,C,f⟩;unfold Ga;have ap:=(BG.1 f).1;have Q:∀D c,c=max 0 (min (pos+n) (y.no*8+((j+1:Nat):Int)) - max pos (y.no*8))->BuildP (I size) v size (FS (l.take k) pos n) w D->D[H.length]?=some (some (.cells (AB (CD y pos (min (pos+n) (y.no*8+((j+1:Nat):Int)))))))->j<8->Du R2 R (I pos) (I n) (.ptr 0 0) (.ptr 1 0) (.ptr 2 0) (I k) (.ptr H.length 0) (I c) (I j) D (ContK (Df (size,l) pos n)):=by rintro D c rfl d e h3;rw[Mq];unfold FY;simp[Au (a:=j) (b:=1) (by omega) (by omega)];exact aj (q - 1) _ _ _ _ _ _ _ _ _ _ (by omega) ⟨j+1,by omega,rfl,rfl,rfl,rfl,rfl,rfl,rfl,rfl,rfl,d,e⟩
    rcases Aj5 j 8 with G | au
    ·have N:(j:Int)<8:=by omega
     have O:(AB (CD y pos (min (pos+n) (y.no*8+j))))[0]?=some (I y.no):=rfl;by_cases hs:pos<=y.no*8+j/\y.no*8+j<pos+n
     ·have J:W7 8 1 (.ptr H.length 1) (I j)=some (.ptr H.length (1+j)):=by simp[W7,OG];omega
      have av:=AD (CD y pos (min (pos+n) (y.no*8+j)));simp[N,f,O,Dp (a:=y.no) (b:=8) (by omega) (by omega),Au (a:=y.no*8) (b:=j) (by omega) (by omega),Au (a:=pos) (b:=n) (by omega) (by omega),hs.1,hs.2,J];rw[AG (n:=1) (off:=1+j) (xs:=[.lit (.int .u8 0)]) rfl f rfl (by omega)];simp;rw[Au (by omega) (by omega)];simp;refine Q _ _ (by omega) (C.other (by omega) ao) ?_ G;rw[HU ap,zS (x:=CD y pos (min (pos+n) (y.no*8+j))) (y:=CD y pos (min (pos+n) (y.no*8+((j+1:Nat):Int)))) rfl G];intro a o;rw[D4 o,D4 o];by_cases E:a=j
      ·rw[if_pos E,if_pos (by omega)]
      ·rw[if_neg E];by_cases m:pos<=y.no*8+(a:Int)/\y.no*8+(a:Int)<min (pos+n) (y.no*8+j)
       ·rw[if_pos m,if_pos (by omega)]
       ·rw[if_neg m,if_neg (by omega)]
     ·have aa:AB (CD y pos (min (pos+n) (y.no*8+((j+1:Nat):Int))))=AB (CD y pos (min (pos+n) (y.no*8+j))):=by
       congr 1;refine aS rfl λa o=>?_;rw[D4 o,D4 o];by_cases m:pos<=y.no*8+(a:Int)/\y.no*8+(a:Int)<min (pos+n) (y.no*8+j)
       ·rw[if_pos m,if_pos (by omega)]
       ·rw[if_neg m,if_neg (by omega)]
      by_cases P:pos<=y.no*8+j
      ·have an:¬y.no*8+j<pos+n:=λh=>hs ⟨P,h⟩;simp[N,f,O,Dp (a:=y.no) (b:=8) (by omega) (by omega),Au (a:=y.no*8) (b:=j) (by omega) (by omega),Au (a:=pos) (b:=n) (by omega) (by omega),P,an];exact Q _ _ (by omega) C (by rw[aa];exact f) G
      ·simp[N,f,O,Dp (a:=y.no) (b:=8) (by omega) (by omega),Au (a:=y.no*8) (b:=j) (by omega) (by omega),P];exact Q _ _ (by omega) C (by rw[aa];exact f) G
    ·have:j=8:=by omega
     subst this;have hY:CD y pos (min (pos+n) (y.no*8+((8:Nat):Int)))=CD y pos (pos+n):=aS rfl λa o=>by
      rw[D4 o,D4 o];by_cases m:pos<=y.no*8+(a:Int)/\y.no*8+(a:Int)<pos+n
      ·rw[if_pos (by omega),if_pos (by omega)]
      ·rw[if_neg (by omega),if_neg (by omega)]
     rw[hY]at f;simp only[show ¬((8:Nat):Int)<8 by omega,Aj1];by_cases Y:pos<=y.no*8/\y.no*8+8<=pos+n
     ·have M:¬max 0 (min (pos+n) (y.no*8+((8:Nat):Int)) - max pos (y.no*8))<8:=by omega
      simp only[M,Aa8];refine ad _ w ?_;rw[ab k y s,if_pos Y,Am9];exact C
     ·have M:max 0 (min (pos+n) (y.no*8+((8:Nat):Int)) - max pos (y.no*8))<8:=by omega
      simp only[M,Ab7];obtain⟨d0,d1,T,d3,d4,d5⟩:=C;obtain⟨r,H4,H5,q1,q2,q3,q4,q5,q6⟩:=BuildP.add ⟨d0,d1,T,d3,d4,d5⟩ (CD y pos (pos+n)) (by have:=al k;omega);simp only[Al,Ar4,Ah f,Ags];simp only[Aa,Aiu,A6];rw[Ah T];simp only[Ah3,Aa7,A6,q1];rw[AG (n:=1) (off:=1) (xs:=[r]) (cs:=[I size,w]) (Bn q3) q2 rfl (by simp)];simp;refine ad _ r ?_;rw[ab k y s,if_neg Y];rw[q4]at q5;exact q5
   ·have:k=l.length:=by omega
    subst this;have ak:=AI e4;simp[z.len,-CY,Ah U,Ah V,A1];rw[AG (n:=2) (off:=0) (xs:=[I size,w]) (cs:=[I 0,Ad]) (by simp[ak]) J rfl (by simp)];simp[show 1<H.length by omega,A1];rw[An6]at K;exact ContK.some hw (Ai K λi hi=>by have e:3<=i:=Am8 λh=>e5 i h hi;rw[Cc (by omega)])
  ·have u:Df (size,l) pos n=none:=if_neg (λh=>e h.2);by_cases A:pos<0
   ·simp[d,A,AU];exact ContK.none u
   ·by_cases F:n<1
    ·simp[d,A,F,AU];exact ContK.none u
    ·by_cases L:1099511627776<n
     ·simp[d,A,F,L,AU];exact ContK.none u
     ·have W:1099511627776 - n<pos:=Int.lt_of_not_ge λh=>e ⟨by omega,by omega,by omega,h⟩;simp[d,A,F,L,B4 (a:=1099511627776) (b:=n) (by omega) (by omega),W,AU];exact ContK.none u
 ·have u:Df (size,l) pos n=none:=if_neg (λh=>d h.1);simp[d,AU];exact ContK.none u
end
end Go.Proofs.YtbppnhenlboefaaGreat.Av
