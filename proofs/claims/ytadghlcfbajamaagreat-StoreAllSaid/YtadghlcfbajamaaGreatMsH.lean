/- Texts of this proof, one behind the other, packed into one file by a program of this session. No condition. -/
import Derived.Test.YtadghlcfbajamaaGreatMsG
import Derived.KernelRfl
set_option linter.unusedVariables false
set_option linter.unusedSimpArgs false
set_option maxRecDepth 100000
namespace Go.Proofs.YtadghlcfbajamaaGreat.Av
open Go Go.RowKit Go.Proofs.Tryz
section
theorem eN {x y:Ext}{j:Nat}(hn:y.no=x.no)(hj:j<8)(h:∀k,k<8→y.b.getD k 0=if k=j then 0 else x.b.getD k 0):(A6 x).set (1+j) u0Z=A6 y:=by
 refine Aj5 λq=>?_
 rw[Al3];cases q with
 | zero=>rw[if_neg (by omega)];simp[A6,hn]
 | succ q=>
  by_cases hq:q<8
  ·rw[UG _ hq,UG _ hq,h q hq,AB]
   by_cases c:1+j=q+1
   ·rw[if_pos c,if_pos (by omega),if_pos (by omega)];rfl
   ·rw[if_neg c,if_neg (by omega)]
  ·rw[Am3 (by rw[AB];omega),Am3 (by rw[AB];omega),AB]
   rw[if_neg (by omega)]
theorem SP {x:Ext}{a b:Int}(h:b≤a∨b≤x.no*8∨x.no*8+8≤a):Cm x a b=x:=TY rfl λk hk=>by rw[Db hk,if_neg (by omega)]
def BuildP (a v:AV)(s:Int)(F:List Ext)(w:AV)(H:AH):Prop:=
 H[0]?=some (some (.cells [a,v]))∧H[1]?=some (some (.cells [I 0,Ac]))∧H[2]?=some (some (.cells [I s,w]))∧Ad H 9 w=some (F.flatMap A6,F.length)∧Bh w=true∧∀j,j<3→j∉Bl w
theorem BuildP.grew {a v w:AV}{s:Int}{F:List Ext}{H H':AH}(h:BuildP a v s F w H)(g:Grew H H'):BuildP a v s F w H':=by
 obtain⟨h0,h1,h2,h3,h4,h5⟩:=h;exact⟨g.cells h0,g.cells h1,g.cells h2,g.slice h3,h4,h5⟩
theorem BuildP.other {a v w:AV}{s:Int}{F:List Ext}{H:AH}(h:BuildP a v s F w H){o:Nat}{x:Option AObj}(ho:3≤o)(hw:o∉Bl w):BuildP a v s F w (H.set o x):=by
 obtain⟨h0,h1,h2,h3,h4,h5⟩:=h;exact⟨(Cg (by omega)).trans h0,(Cg (by omega)).trans h1,(Cg (by omega)).trans h2,Af h3 λi hi=>Cg (fun (e:o=i)=>hw (e▸hi)),h4,h5⟩
theorem BuildP.add {a v w:AV}{s:Int}{F:List Ext}{H:AH}(h:BuildP a v s F w H)(Y:Ext)(hF:F.length≤10000000):
  ∃r H2 H3,HG 9 16 (H++[some (.cells (A6 Y))]) w (.sl H.length 0 1 9 (.ex 1))=some (r,H2)∧H2[2]?=some (some (.cells [I s,w]))∧oneA r=true∧H3=H2.set 2 (some (.cells [I s,r]))∧BuildP a v s (F++[Y]) r H3∧H.length≤H3.length:=by
 obtain⟨h0,h1,h2,h3,h4,h5⟩:=h;have g:=Grew.app H [some (.cells (A6 Y))];obtain⟨r,H2,b1,b2,b3,b4,b5,b6⟩:=CT (sz:=9) (bytes:=16) (g.slice h3) h4 (A3 (v:=.sl H.length 0 1 9 (.ex 1)) (q:=(A6 Y,1)) (by simp[Ad,AB,Ah4])) (by omega);have hl:=(B5.1 h2).1;have k:∀j,j<3→H2[j]?=H[j]?:=λj hj=>by rw[b5 j (by simp;omega) (h5 j hj),g.2 j (by omega)]
 have hid:∀j,j<3→j∉Bl r:=λj hj h=>(b6 j h).elim (h5 j hj) (λh=>by simp at h;omega)
 have hl2:2<H2.length:=by simp at b4;omega
 refine⟨r,H2,_,b1,by rw[k 2 (by omega)];exact h2,AI b2,rfl,⟨?_,?_,KI hl2,?_,b2,hid⟩,by simp at b4;simp;omega⟩
 ·rw[Cg (by omega),k 0 (by omega)];exact h0
 ·rw[Cg (by omega),k 1 (by omega)];exact h1
 ·rw[Af b3 λi hi=>Cg (fun (e:2=i)=>hid 2 (by omega) (e▸hi))]
  simp[Ak4]
theorem pO {H:AH}(Y:Ext):FC H 9 1 (BI [(I 0),u0Z,u0Z,u0Z,u0Z,u0Z,u0Z,u0Z,u0Z] 1) [(0,9,.agg (A6 Y))]=some (.sl H.length 0 1 9 (.ex 1),H++[some (.cells (A6 Y))]):=by
 have hl:=AB Y;have e:BI [(I 0),u0Z,u0Z,u0Z,u0Z,u0Z,u0Z,u0Z,u0Z] 1=A6 (Pt 0):=rfl;rw[e];have hz:=AB (Pt 0)
 have:TD (A6 (Pt 0)) [(0,9,.agg (A6 Y))]=some (A6 Y):=by
  rw[iR];simp only[Mv,qU,if_true];rw[if_pos ⟨hl,by omega⟩,Hb _ _ _ (by omega),Ao1,Am1,Aj8 (by omega),Ak6];rfl
 unfold FC;rw[this];rfl
abbrev An:=And.intro @Ak @Nat.zero_add
abbrev Ab0:=And.intro @DD.{0} @Di.{0}
abbrev Ab2:=And.intro @Ag @An
theorem JS {size0:Int}{l:List Ext}{v:AV}(hv:SV A6 9 l v)(hl:l.length≤1000000)(size:Int):
  ∃R,SV A6 9 (cL (Cx (size0,l) size)) R∧BPure prog 124 [.agg [I size0,v],I size] (.tup [.agg [I (cS (Cx (size0,l) size)),R],B (Cx (size0,l) size).isSome]):=by
 refine BPure.cont (by simp[Az,noIds,hv.1]) (Kw ?_);unfold Gt;simp[CE hv,Aq];refine As (C4 hv (by omega)) ?_
 by_cases h1:Dj size0 l
 ·by_cases h2:size<0
  ·have hn:Cx (size0,l) size=none:=if_neg (λh=>by omega)
   simp[h1,h2,AJ];exact ContK.none hn
  ·by_cases h3:1099511627776<size
   ·have hn:Cx (size0,l) size=none:=if_neg (λh=>by omega)
    simp[h1,h2,h3,AJ];exact ContK.none hn
   ·have hw:Cx (size0,l) size=some (size,Fz l size):=if_pos ⟨h1,by omega,by omega⟩
    simp[h1,h2,h3,AJ];have hno:=λx hx=>(KA h1.2.2 x hx)
    have hstep:∀(k:Nat) (y:Ext),l[k]?=some y→Fz (l.take (k+1)) size=Fz (l.take k) size++if y.no*8<size then [Cm y size 1099511627776]else []:=by
     intro k y hy;unfold Fz PR;rw[Aj6,hy,Ap8,Aj4]
     congr 1
     split<;>simp[*]
    have hlenF:∀k,(Fz (l.take k) size).length≤l.length:=λk=>by
     unfold Fz PR;rw[Ai2];exact Ai8 (Am5 _ _) (by rw[Ah1];omega)
    refine Ia (λt x1 x2 x4 x6 x7 H=>∃(k:Nat) (w:AV),k+t=l.length∧x1=I size∧x2=.ptr 0 0∧x4=.ptr 1 0∧x6=.ptr 2 0∧x7=I k∧BuildP (I size0) v size (Fz (l.take k) size) w H) ?_ l.length
     ⟨0,Ac,by omega,rfl,rfl,rfl,rfl,rfl,rfl,rfl,rfl,rfl,rfl,by simp[Bl]⟩
    rintro t x1 x2 x4 x6 x7 H R hR ⟨k,w,hk,rfl,rfl,rfl,rfl,rfl,hB⟩;unfold EM;have hB':=hB;obtain⟨e0,e1,e2,e3,e4,e5⟩:=hB';have hH2:=(B5.1 e2).1;rcases Ah2 k l.length with hlt | hge
    ·have hx:=DJ hlt
     generalize l[k]=y at hx;have hy:=hno y (Ag9 hx);have g:=Grew.app H [some (.cells (A6 y))];simp[hv.len,hlt,hv.idx AB hx rfl,-C6,Ah e0];rw[Zy (by simp) (by rfl)]
     have nxt:∀H2 w2,BuildP (I size0) v size (Fz (l.take (k+1)) size) w2 H2→Cr R (I size) (.ptr 0 0) (.ptr 1 0) (.ptr 2 0) (I k) H2 (ContK (Cx (size0,l) size)):=by
      intro H2 w2 h2;rw[Iw];unfold E9;simp[Ax (a:=k) (b:=1) (by omega) (by omega)];exact hR (t - 1) _ _ _ _ _ _ (by omega) ⟨k+1,w2,by omega,rfl,rfl,rfl,rfl,rfl,h2⟩
     by_cases hc:size≤y.no*8
     ·simp[D3 (a:=y.no) (b:=8) (by omega) (by omega),hc]
      refine nxt _ w ?_;rw[hstep k y hx,if_neg (by omega),Ak6];exact hB.grew g
     ·simp[D3 (a:=y.no) (b:=8) (by omega) (by omega),hc]
      have hxo:H.length∉Bl w:=λh=>by have:=A7 e3 _ h;omega
      refine HC R (λq z1 z2 z4 z6 z7 z8 z9 H2=>∃j:Nat,j+q=8∧z1=I size∧z2=.ptr 0 0∧z4=.ptr 1 0∧z6=.ptr 2 0∧z7=I k∧z8=.ptr H.length 0∧z9=I j∧BuildP (I size0) v size (Fz (l.take k) size) w H2∧H2[H.length]?=some (some (.cells (A6 (Cm y size (y.no*8+j)))))) ?_ 8
       ⟨0,rfl,rfl,rfl,rfl,rfl,rfl,rfl,rfl,hB.grew g,by rw[SP (.inr (.inl (by omega)))];simp⟩
      rintro q z1 z2 z4 z6 z7 z8 z9 H2 R2 hR2 ⟨j,hj,rfl,rfl,rfl,rfl,rfl,rfl,rfl,hB2,hxc⟩;unfold EB;have hxol:=(B5.1 hxc).1
      have nxt2:∀H3,BuildP (I size0) v size (Fz (l.take k) size) w H3→H3[H.length]?=some (some (.cells (A6 (Cm y size (y.no*8+((j+1:Nat):Int))))))→j<8→Cs R2 R (I size) (.ptr 0 0) (.ptr 1 0) (.ptr 2 0) (I k) (.ptr H.length 0) (I j) H3 (ContK (Cx (size0,l) size)):=by
       intro H3 h1 h2 h3;rw[Ix];unfold EA;simp[Ax (a:=j) (b:=1) (by omega) (by omega)];exact hR2 (q - 1) _ _ _ _ _ _ _ _ (by omega) ⟨j+1,by omega,rfl,rfl,rfl,rfl,rfl,rfl,rfl,h1,h2⟩
      rcases Ah2 j 8 with hlj | hgj
      ·have hlj':(j:Int)<8:=by omega
       have hn0:(A6 (Cm y size (y.no*8+j)))[0]?=some (I y.no):=rfl;simp[hlj',hxc,hn0,D3 (a:=y.no) (b:=8) (by omega) (by omega),Ax (a:=y.no*8) (b:=j) (by omega) (by omega)]
       by_cases hs:size≤y.no*8+j
       ·have e1:QE 8 1 (.ptr H.length 1) (I j)=some (.ptr H.length (1+j)):=by
         simp[QE,L3];omega
        have hwl:=AB (Cm y size (y.no*8+j));simp[hs,e1];rw[AF (n:=1) (off:=1+j) (xs:=[.lit (.int .u8 0)]) rfl hxc rfl (by omega)];simp;refine nxt2 _ (hB2.other (by omega) hxo) ?_ hlj;rw[KI hxol,eN (x:=Cm y size (y.no*8+j)) (y:=Cm y size (y.no*8+((j+1:Nat):Int))) rfl hlj];intro a ha;rw[Db ha,Db ha]
        by_cases c1:a=j
        ·rw[if_pos c1,if_pos (by omega)]
        ·rw[if_neg c1]
         by_cases c2:size≤y.no*8+(a:Int)∧y.no*8+(a:Int)<y.no*8+j
         ·rw[if_pos c2,if_pos (by omega)]
         ·rw[if_neg c2,if_neg (by omega)]
       ·simp[hs]
        refine nxt2 _ hB2 ?_ hlj;rw[hxc,SP (.inl (by omega)),SP (.inl (by omega))]
      ·have:j=8:=by omega
       subst this
       have hY:Cm y size (y.no*8+((8:Nat):Int))=Cm y size 1099511627776:=TY rfl λa ha=>by
        rw[Db ha,Db ha]
        by_cases c2:size≤y.no*8+(a:Int)
        ·rw[if_pos (by omega),if_pos (by omega)]
        ·rw[if_neg (by omega),if_neg (by omega)]
       rw[hY]at hxc;obtain⟨d0,d1,d2,d3,d4,d5⟩:=hB2;obtain⟨r,H4,H5,q1,q2,q3,q4,q5,q6⟩:=BuildP.add ⟨d0,d1,d2,d3,d4,d5⟩ (Cm y size 1099511627776) (by have:=hlenF k;omega);simp only[show ¬((8:Nat):Int)<8 by omega,Ag1,Ab2,Al9,Ah d2,Ah hxc,vW];simp only[Ab0,Ab,pO,AA,q1];rw[AF (n:=1) (off:=1) (xs:=[r]) (cs:=[I size,w]) (BE q3) q2 rfl (by simp)];simp;refine nxt _ r ?_;rw[hstep k y hx,if_pos (by omega)];rw[q4]at q5;exact q5
    ·have:k=l.length:=by omega
     subst this;have hko:=AI e4;simp[hv.len,-C6,Ah e0,Ah e2,Aq];rw[AF (n:=2) (off:=0) (xs:=[I size,w]) (cs:=[I 0,Ac]) (by simp[hko]) e1 rfl (by simp)];simp[show 1<H.length by omega,Aq];rw[Al0]at e3
     exact ContK.some hw (Af e3 λi hi=>by
      have h2:3≤i:=Aj9 λh=>e5 i h hi
      rw[Cg (by omega)])
 ·have hn:Cx (size0,l) size=none:=if_neg (λh=>h1 h.1)
  simp[h1,AJ];exact ContK.none hn
abbrev Ad7:=And.intro @Aw @DC
theorem MC {size:Int}{l:List Ext}{v:AV}(hv:SV A6 9 l v)(hl:l.length≤1000000)(pos n:Int):
  ∃R,SV A6 9 (cL (CB (size,l) pos n)) R∧BPure prog 126 [.agg [I size,v],I pos,I n] (.tup [.agg [I (cS (CB (size,l) pos n)),R],B (CB (size,l) pos n).isSome]):=by
 refine BPure.cont (by simp[Az,noIds,hv.1]) (Mi ?_);unfold HX;simp[CE hv,Aq];refine As (C4 hv (by omega)) ?_
 by_cases h1:Dj size l
 ·by_cases h2:Sf pos n
  ·have hw:CB (size,l) pos n=some (size,Fp l pos n):=if_pos ⟨h1,h2⟩
   obtain⟨g1,g2,g3,g4⟩:=h2;simp[h1,show ¬pos<0 by omega,show ¬n<1 by omega,show ¬1099511627776<n by omega,Bv (a:=1099511627776) (b:=n) (by omega) (by omega),show ¬1099511627776 - n<pos by omega,AJ];have hno:=λx hx=>(KA h1.2.2 x hx)
   have hstep:∀(k:Nat) (y:Ext),l[k]?=some y→Fp (l.take (k+1)) pos n=Fp (l.take k) pos n++if pos≤y.no*8∧y.no*8+8≤pos+n then []else [Cm y pos (pos+n)]:=by
    intro k y hy;unfold Fp PR gone;rw[Aj6,hy,Ap8,Aj4]
    congr 1
    by_cases c1:pos≤y.no*8<;>by_cases c2:y.no*8+8≤pos+n<;>simp[c1,c2]
   have hlenF:∀k,(Fp (l.take k) pos n).length≤l.length:=λk=>by
    unfold Fp PR;rw[Ai2];exact Ai8 (Am5 _ _) (by rw[Ah1];omega)
   refine Ju (λt x1 x2 x3 x6 x8 x9 H=>∃(k:Nat) (w:AV),k+t=l.length∧x1=I pos∧x2=I n∧x3=.ptr 0 0∧x6=.ptr 1 0∧x8=.ptr 2 0∧x9=I k∧BuildP (I size) v size (Fp (l.take k) pos n) w H) ?_ l.length
    ⟨0,Ac,by omega,rfl,rfl,rfl,rfl,rfl,rfl,rfl,rfl,rfl,rfl,rfl,by simp[Bl]⟩
   rintro t x1 x2 x3 x6 x8 x9 H R hR ⟨k,w,hk,rfl,rfl,rfl,rfl,rfl,rfl,hB⟩;unfold F6;have hB':=hB;obtain⟨e0,e1,e2,e3,e4,e5⟩:=hB';have hH2:=(B5.1 e2).1;rcases Ah2 k l.length with hlt | hge
   ·have hx:=DJ hlt
    generalize l[k]=y at hx;have hy:=hno y (Ag9 hx);have g:=Grew.app H [some (.cells (A6 y))];simp[hv.len,hlt,hv.idx AB hx rfl,-C6,Ah e0];rw[Zy (by simp) (by rfl)];simp
    have nxt:∀H2 w2,BuildP (I size) v size (Fp (l.take (k+1)) pos n) w2 H2→CP R (I pos) (I n) (.ptr 0 0) (.ptr 1 0) (.ptr 2 0) (I k) H2 (ContK (CB (size,l) pos n)):=by
     intro H2 w2 h2;rw[JI];unfold Fs;simp[Ax (a:=k) (b:=1) (by omega) (by omega)];exact hR (t - 1) _ _ _ _ _ _ _ (by omega) ⟨k+1,w2,by omega,rfl,rfl,rfl,rfl,rfl,rfl,h2⟩
    have hxo:H.length∉Bl w:=λh=>by have:=A7 e3 _ h;omega
    refine IY R (λq z1 z2 z3 z6 z8 z9 z10 z11 z12 H2=>∃j:Nat,j+q=8∧z1=I pos∧z2=I n∧z3=.ptr 0 0∧z6=.ptr 1 0∧z8=.ptr 2 0∧z9=I k∧z10=.ptr H.length 0∧z11=I (max 0 (min (pos+n) (y.no*8+j) - max pos (y.no*8)))∧z12=I j∧BuildP (I size) v size (Fp (l.take k) pos n) w H2∧
     H2[H.length]?=some (some (.cells (A6 (Cm y pos (min (pos+n) (y.no*8+j))))))) ?_ 8
     ⟨0,rfl,rfl,rfl,rfl,rfl,rfl,rfl,rfl,by rw[show max 0 (min (pos+n) (y.no*8+((0:Nat):Int)) - max pos (y.no*8))=0 by omega],rfl,hB.grew g,by rw[SP (by omega)];simp⟩
    rintro q z1 z2 z3 z6 z8 z9 z10 z11 z12 H2 R2 hR2 ⟨j,hj,rfl,rfl,rfl,rfl,rfl,rfl,rfl,rfl,rfl,hB2,hxc⟩;unfold Fu;have hxol:=(B5.1 hxc).1
    have nxt2:∀H3 c,c=max 0 (min (pos+n) (y.no*8+((j+1:Nat):Int)) - max pos (y.no*8))→BuildP (I size) v size (Fp (l.take k) pos n) w H3→H3[H.length]?=some (some (.cells (A6 (Cm y pos (min (pos+n) (y.no*8+((j+1:Nat):Int)))))))→j<8→CQ R2 R (I pos) (I n) (.ptr 0 0) (.ptr 1 0) (.ptr 2 0) (I k) (.ptr H.length 0) (I c) (I j) H3 (ContK (CB (size,l) pos n)):=by
     rintro H3 c rfl h1 h2 h3;rw[JJ];unfold Ft;simp[Ax (a:=j) (b:=1) (by omega) (by omega)];exact hR2 (q - 1) _ _ _ _ _ _ _ _ _ _ (by omega) ⟨j+1,by omega,rfl,rfl,rfl,rfl,rfl,rfl,rfl,rfl,rfl,h1,h2⟩
    rcases Ah2 j 8 with hlj | hgj
    ·have hlj':(j:Int)<8:=by omega
     have hn0:(A6 (Cm y pos (min (pos+n) (y.no*8+j))))[0]?=some (I y.no):=rfl
     by_cases hs:pos≤y.no*8+j∧y.no*8+j<pos+n
     ·have e1:QE 8 1 (.ptr H.length 1) (I j)=some (.ptr H.length (1+j)):=by
       simp[QE,L3];omega
      have hwl:=AB (Cm y pos (min (pos+n) (y.no*8+j)));simp[hlj',hxc,hn0,D3 (a:=y.no) (b:=8) (by omega) (by omega),Ax (a:=y.no*8) (b:=j) (by omega) (by omega),Ax (a:=pos) (b:=n) (by omega) (by omega),hs.1,hs.2,e1];rw[AF (n:=1) (off:=1+j) (xs:=[.lit (.int .u8 0)]) rfl hxc rfl (by omega)];simp;rw[Ax (by omega) (by omega)];simp;refine nxt2 _ _ (by omega) (hB2.other (by omega) hxo) ?_ hlj;rw[KI hxol,eN (x:=Cm y pos (min (pos+n) (y.no*8+j))) (y:=Cm y pos (min (pos+n) (y.no*8+((j+1:Nat):Int)))) rfl hlj];intro a ha;rw[Db ha,Db ha]
      by_cases c1:a=j
      ·rw[if_pos c1,if_pos (by omega)]
      ·rw[if_neg c1]
       by_cases c2:pos≤y.no*8+(a:Int)∧y.no*8+(a:Int)<min (pos+n) (y.no*8+j)
       ·rw[if_pos c2,if_pos (by omega)]
       ·rw[if_neg c2,if_neg (by omega)]
     ·have hsame:A6 (Cm y pos (min (pos+n) (y.no*8+((j+1:Nat):Int))))=A6 (Cm y pos (min (pos+n) (y.no*8+j))):=by
       congr 1
       refine TY rfl λa ha=>?_
       rw[Db ha,Db ha]
       by_cases c2:pos≤y.no*8+(a:Int)∧y.no*8+(a:Int)<min (pos+n) (y.no*8+j)
       ·rw[if_pos c2,if_pos (by omega)]
       ·rw[if_neg c2,if_neg (by omega)]
      by_cases hs1:pos≤y.no*8+j
      ·have hs2:¬y.no*8+j<pos+n:=λh=>hs ⟨hs1,h⟩
       simp[hlj',hxc,hn0,D3 (a:=y.no) (b:=8) (by omega) (by omega),Ax (a:=y.no*8) (b:=j) (by omega) (by omega),Ax (a:=pos) (b:=n) (by omega) (by omega),hs1,hs2];exact nxt2 _ _ (by omega) hB2 (by rw[hsame];exact hxc) hlj
      ·simp[hlj',hxc,hn0,D3 (a:=y.no) (b:=8) (by omega) (by omega),Ax (a:=y.no*8) (b:=j) (by omega) (by omega),hs1]
       exact nxt2 _ _ (by omega) hB2 (by rw[hsame];exact hxc) hlj
    ·have:j=8:=by omega
     subst this
     have hY:Cm y pos (min (pos+n) (y.no*8+((8:Nat):Int)))=Cm y pos (pos+n):=TY rfl λa ha=>by
      rw[Db ha,Db ha]
      by_cases c2:pos≤y.no*8+(a:Int)∧y.no*8+(a:Int)<pos+n
      ·rw[if_pos (by omega),if_pos (by omega)]
      ·rw[if_neg (by omega),if_neg (by omega)]
     rw[hY]at hxc;simp only[show ¬((8:Nat):Int)<8 by omega,Ag1]
     by_cases hg:pos≤y.no*8∧y.no*8+8≤pos+n
     ·have hc:¬max 0 (min (pos+n) (y.no*8+((8:Nat):Int)) - max pos (y.no*8))<8:=by omega
      simp only[hc,Ac1];refine nxt _ w ?_;rw[hstep k y hx,if_pos hg,Ak6];exact hB2
     ·have hc:max 0 (min (pos+n) (y.no*8+((8:Nat):Int)) - max pos (y.no*8))<8:=by omega
      simp only[hc,Ad7];obtain⟨d0,d1,d2,d3,d4,d5⟩:=hB2;obtain⟨r,H4,H5,q1,q2,q3,q4,q5,q6⟩:=BuildP.add ⟨d0,d1,d2,d3,d4,d5⟩ (Cm y pos (pos+n)) (by have:=hlenF k;omega);simp only[An,Ah hxc,vW];simp only[Ab,pO,AA];rw[Ah d2];simp only[Ag,Ab0,Ab,AA,q1];rw[AF (n:=1) (off:=1) (xs:=[r]) (cs:=[I size,w]) (BE q3) q2 rfl (by simp)];simp;refine nxt _ r ?_;rw[hstep k y hx,if_neg hg];rw[q4]at q5;exact q5
   ·have:k=l.length:=by omega
    subst this;have hko:=AI e4;simp[hv.len,-C6,Ah e0,Ah e2,Aq];rw[AF (n:=2) (off:=0) (xs:=[I size,w]) (cs:=[I 0,Ac]) (by simp[hko]) e1 rfl (by simp)];simp[show 1<H.length by omega,Aq];rw[Al0]at e3
    exact ContK.some hw (Af e3 λi hi=>by
     have h2:3≤i:=Aj9 λh=>e5 i h hi
     rw[Cg (by omega)])
  ·have hn:CB (size,l) pos n=none:=if_neg (λh=>h2 h.2)
   by_cases g1:pos<0
   ·simp[h1,g1,AJ]
    exact ContK.none hn
   ·by_cases g2:n<1
    ·simp[h1,g1,g2,AJ]
     exact ContK.none hn
    ·by_cases g3:1099511627776<n
     ·simp[h1,g1,g2,g3,AJ]
      exact ContK.none hn
     ·have g4:1099511627776 - n<pos:=Int.lt_of_not_ge λh=>h2 ⟨by omega,by omega,by omega,h⟩
      simp[h1,g1,g2,g3,Bv (a:=1099511627776) (b:=n) (by omega) (by omega),g4,AJ];exact ContK.none hn
 ·have hn:CB (size,l) pos n=none:=if_neg (λh=>h1 h.1)
  simp[h1,AJ];exact ContK.none hn
def GrN (N:Nat)(H H':AH):Prop:=H.length≤H'.length∧∀i,i<N→H'[i]?=H[i]?
theorem GrN.trans {N:Nat}{A B C:AH}(h:GrN N A B)(k:GrN N B C):GrN N A C:=⟨Ai8 h.1 k.1,λi hi=>(k.2 i hi).trans (h.2 i hi)⟩
theorem GrN.of {N:Nat}{A B:AH}(h:Grew A B)(hN:N≤A.length):GrN N A B:=⟨h.1,λi hi=>h.2 i (by omega)⟩
structure OwN (N sz:Nat)(cs:List AV)(n:Nat)(r:AV)(H:AH):Prop where
 s:Ad H sz r=some (cs,n)
 o:Bh r=true
 i:∀i∈Bl r,N≤i
 c:CI r n
theorem qB {sz bytes:Nat}{H:AH}{x:AV}{ds:List AV}{m:Nat}(hx:Bm H sz x=some (ds,m))(hb:m*bytes≤140737488355328):∃r H',HG sz bytes H Ac x=some (r,H')∧OwN H.length sz ds m r H'∧Grew H H':=by
 have h0:Ad H sz Ac=some ([],0):=rfl;obtain⟨r,H2,a1,a2,a3,a4,a5,a6⟩:=CT (bytes:=bytes) h0 rfl hx (by rw[Ao5];exact hb);have a7:=PT h0 rfl hx (by simp[CI]) a1;exact⟨r,H2,a1,⟨by simpa using a3,a2,λi hi=>(a6 i hi).elim (by simp[Bl]) id,by simpa using a7⟩,a4,λi hi=>a5 i hi (by simp[Bl])⟩
theorem iG {N sz bytes:Nat}{H:AH}{s x:AV}{cs ds:List AV}{n m:Nat}(hs:OwN N sz cs n s H)(hx:Bm H sz x=some (ds,m))(hN:N≤H.length)(hb:(n+m)*bytes≤140737488355328):∃r H',HG sz bytes H s x=some (r,H')∧OwN N sz (cs++ds) (n+m) r H'∧GrN N H H':=by
 obtain⟨r,H2,a1,a2,a3,a4,a5,a6⟩:=CT (bytes:=bytes) hs.s hs.o hx hb;have a7:=PT hs.s hs.o hx hs.c a1;exact⟨r,H2,a1,⟨a3,a2,λi hi=>(a6 i hi).elim (hs.i i) (λq=>by omega),a7⟩,a4,λi hi=>a5 i (by omega) (λq=>by have:=hs.i i q;omega)⟩
theorem OwN.grew {N sz n:Nat}{cs:List AV}{r:AV}{H H':AH}(h:OwN N sz cs n r H)(g:Grew H H'):OwN N sz cs n r H':=⟨g.slice h.s,h.o,h.i,h.c⟩
theorem I7 {α:Type}{enc:α→List AV}{sz:Nat}(hsz:∀x,(enc x).length=sz){H:AH}{v:AV}{l:List α}(h:Ad H sz v=some (l.flatMap enc,l.length)){k:Nat}(hk:k≤l.length):
  (∃r,Bj sz v none (some (I k)) none=some r∧Ad H sz r=some ((l.take k).flatMap enc,k)∧∀i∈Bl r,i∈Bl v)∧∃r,Bj sz v (some (I k)) none none=some r∧Ad H sz r=some ((l.drop k).flatMap enc,l.length - k)∧∀i∈Bl r,i∈Bl v:=by
 constructor
 ·obtain⟨r,h1,h2,h3,-⟩:=Gb h (lo:=none) (hi:=some (I k)) (l:=0) (k:=k) rfl (by simp[CA]) (by omega) hk
  refine⟨r,h1,?_,h3⟩;rw[h2,As9,Ak9,At1,GX hsz]
 ·obtain⟨r,h1,h2,h3,-⟩:=Gb h (lo:=some (I k)) (hi:=none) (l:=k) (k:=l.length) (by simp[CA]) rfl hk (Ah3 _)
  refine⟨r,h1,?_,h3⟩;rw[h2,Gd hsz,Ah4]
  rw[BG h2 |>λe=>(by
   have:=Gd hsz l k
   rw[← this,Ah8,BG h,Nat.mul_comm,← Nat.mul_comm sz,← Nat.mul_sub,Nat.mul_comm]:((l.drop k).flatMap enc).length=(l.length - k)*sz)]
  exact Ah3 _
theorem dZ {L oi:Nat}{ns:List Nm}{dv:List NdV}{a b:AV}{H:AH}{s:List UInt8}{no:Int}(h:ImH L oi ns dv a b H)(hn:ns.length≤100000):
  ∃r H',wB L oi H (FD Bd Nm.name ns ⟨s,no⟩) dv r H'∧BCall prog 166 [.ptr oi 0,S (B0 s),I no] H r H':=QU (by
 unfold Nw;have c0:=h.obj;refine Nx (λn x0 x1 x2 x6 H'=>∃k:Nat,k+n=ns.length∧x0=.ptr oi 0∧x1=S (B0 s)∧x2=I no∧x6=I k∧H'=H∧∀m y,m<k→ns[m]?=some y→Bd y.name s<0) ?_ ns.length ⟨0,by omega,rfl,rfl,rfl,rfl,rfl,by omega⟩;rintro n x0 x1 x2 x6 H' R hR ⟨k,hk,rfl,rfl,rfl,rfl,rfl,hlt⟩;unfold IR;have ln:=CU h.sa;have fin:CX Bd Nm.name ns s=k→
   bO (Bj 2 a none (some (I k)) none) (λv31=>bH (HG 2 24 H' Ac v31) λv32 H33=>
    bO (E5 [(.lit (.string ⟨#[]⟩)),(I 0)] [(0,1,S (B0 s)),(1,1,I no)]) λv34=>bH (FC H33 2 1 (BI [(.lit (.string ⟨#[]⟩)),(I 0)] 1) [(0,2,v34)]) λv35 H36=>bH (HG 2 24 H36 v32 v35) λv37 H38=>
    bO (Ae (.ptr oi 0)) λv39=>bO (Aa 0 v39) λv40=>bO (Am false 1 H38 v40) λv41=>bO (Bj 2 v41 (some (I k)) none none) λv42=>bH (HG 2 24 H38 v37 v42) λv43 H44=>
    bO (Ae (.ptr oi 0)) λv45=>bO (Aa 0 v45) λv46=>bS (AJ 1 H44 v46 v43) λH47=>wB L oi H' (FD Bd Nm.name ns ⟨s,no⟩) dv (.tup []) H47):=by
  intro hp;obtain⟨⟨s1,e1,t1,i1⟩,-⟩:=I7 BF h.sa (show k≤ns.length by omega);obtain⟨r1,H1,e2,w1,g1⟩:=qB (bytes:=24) (A3 t1) (by omega);have g2:=Grew.app H1 [some (.cells (BL ⟨s,no⟩))];have w2:=w1.grew g2;have hl1:=g1.1;have x1:Bm (H1++[some (.cells (BL ⟨s,no⟩))]) 2 (.sl H1.length 0 1 2 (.ex 1))=some (BL ⟨s,no⟩,1):=A3 (by rw[Bo (c:=BL ⟨s,no⟩) (by simp) (by simp[BL])];rfl);obtain⟨r2,H2,e3,w3,g3⟩:=iG (bytes:=24) w2 x1 (by simp;omega) (by omega);have gg:GrN H'.length H' H2:=(GrN.of (g1.trans g2) (Ah3 _)).trans g3;have hol:=(B5.1 c0).1;have c2:H2[oi]?=some (some (.cells [a,b])):=by rw[gg.2 oi hol];exact c0
  have sa2:Ad H2 2 a=some (ns.flatMap BL,ns.length):=Af h.sa λi hi=>gg.2 i (A7 h.sa i hi)
  obtain⟨-,⟨s2,e4,t2,i2⟩⟩:=I7 BF sa2 (show k≤ns.length by omega);obtain⟨r3,H3,e5,w4,g4⟩:=iG (bytes:=24) w3 (A3 t2) gg.1 (by omega);have el:=Sc (c:=Bd) (key:=Nm.name) (l:=ns) (x:=⟨s,no⟩)
  have ev:(ns.take k).flatMap BL++BL ⟨s,no⟩++(ns.drop k).flatMap BL=(FD Bd Nm.name ns ⟨s,no⟩).flatMap BL:=by
   unfold FD;rw[show CX Bd Nm.name ns (Nm.name ⟨s,no⟩)=k from hp,Ak4,Aj3,Ai0]
  have en:k+1+(ns.length - k)=(FD Bd Nm.name ns ⟨s,no⟩).length:=by omega
  have g5:=gg.trans g4;obtain⟨H4,e6,n1,n2⟩:=h.newA (ms:=FD Bd Nm.name ns ⟨s,no⟩) (H':=H3) (r:=r3) g5.1 (λi hi _=>g5.2 i hi) (by rw[← ev,← en];exact w4.s) w4.o (by rw[← en];exact w4.c) (λi hi=>.inr (w4.i i hi));have e7:FC H1 2 1 (BI [(.lit (.string ⟨#[]⟩)),(I 0)] 1) [(0,2,.agg (BL ⟨s,no⟩))]=some (.sl H1.length 0 1 2 (.ex 1),H1++[some (.cells (BL ⟨s,no⟩))]):=rfl;have e8:E5 [(.lit (.string ⟨#[]⟩)),(I 0)] [(0,1,S (B0 s)),(1,1,I no)]=some (.agg (BL ⟨s,no⟩)):=rfl;have e9:Am false 1 H2 (.ptr oi 0)=some a:=by rw[Ah c2];rfl
  simp only[e1,Ab,e2,AA,e8,e7,e3]
  show bO (some (AV.ptr oi 0)) _
  simp only[Ab]
  show bO (some (AV.ptr oi 0)) _
  simp only[Ab,e9,e4,e5,AA]
  show bO (some (AV.ptr oi 0)) _
  simp only[Ab]
  show bO (some (AV.ptr oi 0)) _
  simp only[Ab,e6,AC];exact⟨rfl,r3,b,n1,n2⟩
 rcases Ah2 k ns.length with hkl | hkl
 ·have hx:=DJ hkl
  generalize ns[k]=x at hx;obtain⟨o,off,cells,u1,u2,u3,u4,u5,-⟩:=Sk BF (by omega) h.sa h.oa hx;have u50:=u5 0 (by omega);rw[Al9]at u50
  by_cases hc:Bd x.name s<0
  ·simp[c0,ln,hkl,u1,u3,u50,BL,kL,hc,Ax (a:=k) (b:=1) (by omega) (by omega)]
   exact hR (n - 1) _ _ _ _ _ (by omega) ⟨k+1,by omega,rfl,rfl,rfl,by simp,rfl,λm y hm hy=>by
    by_cases c2:m=k
    ·rw[c2,hx]at hy;injection hy with hy;rw[← hy];exact hc
    ·exact hlt m y (by omega) hy⟩
  ·have:=fin (Ol (by omega) hlt (λy hy=>by rw[hx]at hy;injection hy with hy;rw[← hy];exact hc))
   simp at this;simp[c0,ln,hkl,u1,u3,u50,BL,kL,hc];exact this
 ·have:=fin (Ol (by omega) hlt (λy hy=>by have:=(B5.1 hy).1;omega))
  simp at this;simp[c0,ln,show ¬k<ns.length by omega];exact this)
theorem Sm.sub {ns ms:List Nm}{ds es:List Nd}(h:Sm ns ds)(h1:ms.Sublist ns)(h2:es.Sublist ds):Sm ms es:=
 ⟨Ai8 h1.length_le h.1,Ai8 h2.length_le h.2.1,λx hx=>h.2.2.1 x (h1.subset hx),λd hd=>h.2.2.2 d (h2.subset hd)⟩
theorem zdgbZ {L oi k:Nat}{ns:List Nm}{dv:List NdV}{a b:AV}{H:AH}(h:ImH L oi ns dv a b H)(hk:k<ns.length)(hn:ns.length≤100000):
  ∃s1 r1 H1 s2 r2 H2 H3,Bj 2 a none (some (I k)) none=some s1∧HG 2 24 H Ac s1=some (r1,H1)∧H1[oi]?=some (some (.cells [a,b]))∧Bj 2 a (some (I ((k:Int)+1))) none none=some s2∧HG 2 24 H1 r1 s2=some (r2,H2)∧AJ 1 H2 (.ptr oi 0) r2=some H3∧ImH L oi (ns.take k++ns.drop (k+1)) dv r2 b H3∧FrL L oi H H3:=by
 have c0:=h.obj;obtain⟨⟨s1,e1,t1,i1⟩,-⟩:=I7 BF h.sa (show k≤ns.length by omega);obtain⟨r1,H1,e2,w1,g1⟩:=qB (bytes:=24) (A3 t1) (by omega);have sa1:=g1.slice h.sa;obtain⟨-,⟨s2,e4,t2,i2⟩⟩:=I7 BF sa1 (show k+1≤ns.length by omega);obtain⟨r2,H2,e5,w4,g4⟩:=iG (bytes:=24) w1 (A3 t2) g1.1 (by omega);have g5:=(GrN.of g1 (Ah3 _)).trans g4;have en:k+(ns.length - (k+1))=(ns.take k++ns.drop (k+1)).length:=by simp;omega
 obtain⟨H3,e6,n1,n2⟩:=h.newA (ms:=ns.take k++ns.drop (k+1)) (H':=H2) (r:=r2) g5.1 (λi hi _=>g5.2 i hi) (by rw[Ak4,← en];exact w4.s) w4.o (by rw[← en];exact w4.c) (λi hi=>.inr (w4.i i hi));exact⟨s1,r1,H1,s2,r2,H2,H3,e1,e2,g1.cells c0,e4,e5,e6,n1,n2⟩
theorem zdgaZ {L oi k:Nat}{ns:List Nm}{dv:List NdV}{a b:AV}{H:AH}(h:ImH L oi ns dv a b H)(hk:k<dv.length)(hn:dv.length≤100000):
  ∃s1 r1 H1 s2 r2 H2 H3,Bj 3 b none (some (I k)) none=some s1∧HG 3 40 H Ac s1=some (r1,H1)∧H1[oi]?=some (some (.cells [a,b]))∧Bj 3 b (some (I ((k:Int)+1))) none none=some s2∧HG 3 40 H1 r1 s2=some (r2,H2)∧AJ 1 H2 (.ptr oi 1) r2=some H3∧ImH L oi ns (dv.take k++dv.drop (k+1)) a r2 H3∧FrL L oi H H3:=by
 have c0:=h.obj;obtain⟨⟨s1,e1,t1,i1⟩,-⟩:=I7 B4 h.sb (show k≤dv.length by omega);obtain⟨r1,H1,e2,w1,g1⟩:=qB (bytes:=40) (A3 t1) (by omega);have sa1:=g1.slice h.sb;obtain⟨-,⟨s2,e4,t2,i2⟩⟩:=I7 B4 sa1 (show k+1≤dv.length by omega);obtain⟨r2,H2,e5,w4,g4⟩:=iG (bytes:=40) w1 (A3 t2) g1.1 (by omega);have g5:=(GrN.of g1 (Ah3 _)).trans g4;have en:k+(dv.length - (k+1))=(dv.take k++dv.drop (k+1)).length:=by simp;omega
 obtain⟨H3,e6,n1,n2⟩:=h.newB (ew:=dv.take k++dv.drop (k+1)) (H':=H2) (r:=r2) g5.1 (λi hi _=>g5.2 i hi) (by rw[Ak4,← en];exact w4.s) w4.o (by rw[← en];exact w4.c) (λi hi=>.inr (w4.i i hi));exact⟨s1,r1,H1,s2,r2,H2,H3,e1,e2,g1.cells c0,e4,e5,e6,n1,n2⟩
theorem iV {L oi:Nat}{ns:List Nm}{dv:List NdV}{a b:AV}{H:AH}{s:List UInt8}(h:ImH L oi ns dv a b H)(hs:Cn Bd Nm.name ns)(hd:Cn B8 NdV.ino dv)(hb:Sm ns (dv.map NdV.nd))(q:AT Nm.name ns s)(f:Bool)(hk:f=true→AT NdV.ino dv (CD ns s)):
  ∃r H',wB L oi H (Dn Bd Nm.name ns s) (if f=true then Dn B8 NdV.ino dv (CD ns s)else dv) r H'∧BCall prog 167 [.ptr oi 0,S (B0 s),B f] H r H':=Tm (by
 have b1:=hb.1;have b2:=hb.2.1;rw[Ai2]at b2;obtain⟨Ra,Rb,sa,sb,fz⟩:=h.lend;have c0:=h.obj;have b0:∀x y:AV,Aq true 2 [x,y] 0=some (.agg [x,y]):=λ_ _=>rfl
 unfold P8;simp[c0,b0];refine bP_of (PCall.lend (FZs.cons fz (FZs.cons (FZ.lit _) FZs.nil)) rfl (F3 ⟨Ra,Rb,dv,rfl,sa,sb,rfl⟩ hb s)) ?_;rw[Pm koN hs q];obtain⟨x,hx1,hx2,hx3⟩:=FM koN hs q;have en:CD ns s=x.ino:=by unfold CD;rw[hx2]
 rw[en]at hk⊢;obtain⟨o,off,cells,u1,u2,u3,u4,u5,-⟩:=Sk BF (by omega) h.sa h.oa hx1;have u51:=u5 1 (by omega);have hpl:=(B5.1 hx1).1;obtain⟨s1,r1,H1,s2,r2,H2,H3,e1,e2,e3,e4,e5,e6,n1,n2⟩:=zdgbZ h hpl b1;have c3:=n1.obj;have n1':ImH L oi (Dn Bd Nm.name ns s) dv r2 b H3:=n1;obtain⟨Sa,Sb,ta,tb,gz⟩:=n1'.lend;have hb2:Sm (Dn Bd Nm.name ns s) (dv.map NdV.nd):=hb.sub delK_sub (Ar9 _);simp[u1,u3,u51,BL,e1,e2,e3,Ax (a:=(CX Bd Nm.name ns s:Nat)) (b:=1) (by omega) (by omega),e4,e5,e6,c3,b0];refine bP_of (PCall.lend (FZs.cons gz (FZs.cons (FZ.lit _) FZs.nil)) rfl (Iu ⟨Sa,Sb,dv,rfl,ta,tb,rfl⟩ hb2 x.ino)) ?_;cases f with
 | false=>
  simp;exact⟨rfl,_,_,n1',n2⟩
 | true=>
  have hk:=hk rfl;rw[Pm koI (N6.2 hd) (Jg.2 hk),MB];have hdl:=UT koI hd hk;obtain⟨s3,r3,H4,s4,r4,H5,H6,f1,f2,f3,f4,f5,f6,m1,m2⟩:=zdgaZ n1' hdl b2;simp[f1,f2,f3,Ax (a:=(CX B8 NdV.ino dv x.ino:Nat)) (b:=1) (by omega) (by omega),f4,f5,f6];exact⟨rfl,_,_,m1,n2.trans m2⟩)
theorem Wq {H:AH}{ns:List Nm}{dv:List NdV}{a b:AV}(sa:SV BL 2 ns a)(sb:SV BB 3 dv b)(hn:ns.length≤100000)(hm:dv.length≤100000)(hl:∀d∈dv,d.nd.l.length≤1000000):
  ∃r H',vI H ns (dv.map NdV.nd) r H'∧BCall prog 127 [.agg [a,b]] H r H':=OG (by
 unfold JZ;have oa:=SV.oneA sa;have ob:=SV.oneA sb
 obtain⟨H3,e3,c0,c1,g3,l3⟩:∃H3,A9 (H++[some (.cells [a,b])]) (.agg [Ac,Ac])=some (.ptr (H.length+1) 0,H3)∧H3[H.length]?=some (some (.cells [a,b]))∧H3[H.length+1]?=some (some (.cells [Ac,Ac]))∧Grew H H3∧H3.length=H.length+2:=by
  refine⟨H++[some (.cells [a,b]),some (.cells [Ac,Ac])],by simp,by simp,by rw[Ah0 (by omega)];simp,Grew.app _ _,by simp⟩
 simp[oa,ob,e3,c0];obtain⟨ra,H7,e7,w7,g7⟩:=qB (bytes:=24) (A3 (sa.2 H3)) (by omega);have ra1:=AI w7.o;have l7:=g7.1;have w7i:=w7.i;simp[e7,BE ra1]
 -- the new image
 obtain⟨H11,e11,d9,g11,l11⟩:∃H11,AJ 2 (H7++[some (.cells [Ac,Ac])]) (.ptr H7.length 0) (.agg [ra,Ac])=some H11∧H11[H7.length]?=some (some (.cells [ra,Ac]))∧Grew H7 H11∧H11.length=H7.length+1:=by
  exact⟨H7++[some (.cells [ra,Ac])],by simp[AJ,AZ,ra1],by simp,Grew.app _ _,by simp⟩
 simp[e11];have sra:=g11.slice w7.s;have d0:=g11.cells (g7.cells c0);have d1:=g11.cells (g7.cells c1);have gall:Grew H H11:=g3.trans (g7.trans g11);refine Lk (λn x1 x2 x3 x4 H'=>∃(k:Nat) (ew:List NdV) (rb:AV),k+n=dv.length∧x1=.ptr H.length 0∧x2=.ptr (H.length+1) 0∧x3=.ptr H7.length 0∧x4=I k∧ew.map NdV.nd=(dv.map NdV.nd).take k∧H'[H7.length]?=some (some (.cells [ra,rb]))∧OwN H11.length 3 (ew.flatMap BB) ew.length rb H'∧H11.length≤H'.length∧∀i,i<H11.length→i≠H7.length→H'[i]?=H11[i]?) ?_ dv.length ⟨0,[],Ac,by omega,rfl,rfl,rfl,rfl,rfl,d9,⟨rfl,rfl,by simp[Bl],by simp[CI]⟩,Ah3 _,λ_ _ _=>rfl⟩;rintro n x1 x2 x3 x4 H' R hR ⟨k,ew,rb,hk,rfl,rfl,rfl,rfl,hew,h9,hrb,hlen,hfr⟩;unfold GH;have f0:H'[H.length]?=some (some (.cells [a,b])):=by rw[hfr _ (by omega) (by omega)];exact d0
 have el:ew.length=k:=by have:=congrArg List.length hew;simp at this;omega
 have rb1:=AI hrb.o;rcases Ah2 k dv.length with h | h
 ·have hx:=DJ h
  generalize dv[k]=x at hx;have hxl:=hl x (Ag9 hx);obtain⟨R2,s2,p2⟩:=eE (size:=x.nd.size) x.h (by omega);have ei:=sb.idx B4 hx rfl;have o2:=SV.oneA s2;simp[f0,sb.len,h,h9,ei,iO];refine bP_of p2 ?_;have ap:Bm H' 3 (.imm [I x.nd.ino,I x.nd.size,R2] 1 3)=some (BB ⟨x.nd,R2,s2⟩,1):=A3 (by simp[Ad,BB]);obtain⟨r4,H4,e4,w4,g4⟩:=iG (bytes:=40) hrb ap hlen (by omega);have hH7:H7.length<H11.length:=by omega
  have k9:H4[H7.length]?=some (some (.cells [ra,rb])):=by rw[g4.2 _ hH7];exact h9
  have r41:=AI w4.o
  have e5:AJ 1 H4 (.ptr H7.length 1) r4=some (H4.set H7.length (some (.cells [ra,r4]))):=by
   rw[AF (n:=1) (off:=1) (xs:=[r4]) (cs:=[ra,rb]) (BE r41) k9 rfl (by simp)];rfl
  have k9l:=(B5.1 k9).1;simp[o2,e4,e5,Ax (a:=k) (b:=1) (by omega) (by omega)];refine hR (n - 1) _ _ _ _ _ (by omega) ⟨k+1,ew++[⟨x.nd,R2,s2⟩],r4,by omega,rfl,rfl,rfl,by simp,?_,by simp[k9l],⟨?_,w4.o,w4.i,by simpa using w4.c⟩,by rw[Aj2];have:=g4.1;omega,λi i1 i2=>?_⟩
  ·rw[Aj4,hew,Ge (x:=x.nd) (by rw[Ai6,hx];rfl)];rfl
  ·have:=w4.s
   rw[Ak4,List.flatMap_singleton,Ah9,List.length_singleton];exact Af this λi hi=>Cg (by have:=w4.i i hi;omega)
  ·rw[Cg (Ak2 i2),g4.2 i i1,hfr i i1 i2]
 ·have ek:(dv.map NdV.nd).take k=dv.map NdV.nd:=Ah4 (by simp;omega)
  rw[ek]at hew;have b0:Aq true 2 [ra,rb] 0=some (.agg [ra,rb]):=rfl;have f1:H'[H.length+1]?=some (some (.cells [Ac,Ac])):=by rw[hfr _ (by omega) (by omega)];exact d1
  have f1l:=(B5.1 f1).1
  have e5:AJ 2 H' (.ptr (H.length+1) 0) (.agg [ra,rb])=some (H'.set (H.length+1) (some (.cells [ra,rb]))):=by
   rw[AF (n:=2) (off:=0) (xs:=[ra,rb]) (by simp[ra1,rb1]) f1 rfl (by simp)];rfl
  simp[f0,sb.len,show ¬k<dv.length by omega,h9,b0,e5,f1l];have lta:=A7 w7.s;refine⟨ra,rb,ew,rfl,hew,⟨by rw[Aj2];omega,λi hi=>by rw[Cg (by omega),hfr i (by omega) (by omega)];exact gall.2 i hi⟩,⟨?_,w7.o,w7.c,λi q=>by have:=w7i i q;omega,?_,hrb.o,hrb.c,λi q=>by have:=hrb.i i q;omega,λi q1 q2=>by have:=hrb.i i q2;have:=lta i q1;omega⟩⟩
  ·refine Af sra λi q=>?_
   have h1:=w7i i q;have h2:=lta i q;rw[Cg (by omega),hfr i (by omega) (by omega)]
  ·exact Af hrb.s λi q=>Cg (by have:=hrb.i i q;omega))
theorem cE {d:Nd}{R bv:AV}{o:OpM}(hv:SV A6 9 d.l R)(hl:d.l.length≤1000000)(hb:SV IW 1 o.b bv)(hbl:o.b.length≤281474976710656):
  ∃R',SV A6 9 (cL (G5 o d)) R'∧BPure prog 168 [.agg [I d.size,R],.agg (By o bv)] (.tup [.agg [I (cS (G5 o d)),R'],B (G5 o d).isSome]):=by
 have o1:=SV.oneA hv;have o3:=SV.oneA hb;have hids:Az [.agg [I d.size,R],.agg (By o bv)]=true:=by simp[Az,noIds,hv.1,By,hb.1]
 have wk:∀(res:Option KD) (R':AV),G5 o d=res→SV A6 9 (cL res) R'→CS (.agg [I d.size,R]) (.agg (By o bv)) [] (λr _=>r=.tup [.agg [I (cS res),R'],B res.isSome])→∃R',SV A6 9 (cL (G5 o d)) R'∧BPure prog 168 [.agg [I d.size,R],.agg (By o bv)] (.tup [.agg [I (cS (G5 o d)),R'],B (G5 o d).isSome]):=by
  intro res R' hr h1 h2;rw[hr];exact⟨R',h1,BPure.val hids (by simp[noIds,Az,h1.1]) (QV h2)⟩
 have b8:Aq true 8 (By o bv) 0=some (.agg (By o bv)):=rfl
 by_cases k2:o.kind=2
 ·obtain⟨R',s1,p1⟩:=MD (size:=d.size) hv hl o.pos hb hbl
  refine wk _ R' (by unfold G5;rw[if_pos k2]) s1 ?_;have o2:=SV.oneA s1;unfold CS;simp[o1,o3,By,k2,Aq];refine As p1 ?_;simp[o2,AJ,AZ]
 ·by_cases k3:o.kind=3
  ·obtain⟨R',s1,p1⟩:=JS (size0:=d.size) hv hl o.size
   refine wk _ R' (by unfold G5;rw[if_neg k2,if_pos k3]) s1 ?_;have o2:=SV.oneA s1;unfold CS;simp[o1,o3,By,k3,Aq];refine As p1 ?_;simp[o2,AJ,AZ]
  ·by_cases k4:o.kind=4
   ·obtain⟨R',s1,p1⟩:=JR (size:=d.size) hv hl o.pos o.size o.keep
    refine wk _ R' (by unfold G5;rw[if_neg k2,if_neg k3,if_pos k4]) s1 ?_;have o2:=SV.oneA s1;unfold CS;simp[o1,o3,By,k4,Aq];refine As p1 ?_;simp[o2,AJ,AZ]
   ·by_cases k5:o.kind=5
    ·obtain⟨R',s1,p1⟩:=MC (size:=d.size) hv hl o.pos o.size
     refine wk _ R' (by unfold G5;rw[if_neg k2,if_neg k3,if_neg k4,if_pos k5]) s1 ?_;have o2:=SV.oneA s1;unfold CS;simp[o1,o3,By,k5,Aq];refine As p1 ?_;simp[o2,AJ,AZ]
    ·refine wk none Ac (by unfold G5;rw[if_neg k2,if_neg k3,if_neg k4,if_neg k5]) SV.nil ?_
     unfold CS;simp[o1,o3,By,k2,k3,k4,k5,AJ,AZ,Aq,cS]
theorem XG {ds:List Nd}{o:OpM}(h:¬(o.kind=2∨o.kind=3∨o.kind=4∨o.kind=5)):OA ds o=ds:=by
 have hn:∀d,G5 o d=none:=λd=>by
  unfold G5;rw[if_neg (by omega),if_neg (by omega),if_neg (by omega),if_neg (by omega)]
 unfold OA
 split
 ·rw[hn]
 ·rfl
theorem Dg {oi:Nat}{ns:List Nm}{dv:List NdV}{a b:AV}{H:AH}{p:List Nm×List Nd}(h:ImH 3 oi ns dv a b H)(hoi:3≤oi)(h2:H[2]?=some (some (.cells [Ac,Ac])))(hp:p=(ns,dv.map NdV.nd)):AS (.ptr 2 0) (.ptr oi 0) H (vH p):=by
 rw[IE];unfold FF;have c0:=h.obj;have b0:Aq true 2 [a,b] 0=some (.agg [a,b]):=rfl;have ra1:=AI h.oa;have rb1:=AI h.ob;have hcl:=(B5.1 h2).1
 have e5:AJ 2 H (.ptr 2 0) (.agg [a,b])=some (H.set 2 (some (.cells [a,b]))):=by
  rw[AF (n:=2) (off:=0) (xs:=[a,b]) (by simp[ra1,rb1]) h2 rfl (by simp)];rfl
 simp[c0,b0,e5,hcl];have h3:ImH 3 oi ns dv a b (H.set 2 (some (.cells [a,b]))):=⟨by rw[Cg (by omega)];exact c0,h.lo,by simpa using h.len,Af h.sa λi q=>Cg (by have:=h.ia i q;omega),h.oa,h.ca,h.ia,Af h.sb λi q=>Cg (by have:=h.ib i q;omega),h.ob,h.cb,h.ib,h.ab⟩;obtain⟨Ra,Rb,sa,sb,fz⟩:=h3.lend;subst hp;exact⟨_,fz,Ra,Rb,dv,rfl,sa,sb,rfl⟩
theorem uW {oi:Nat}{ns:List Nm}{dv:List NdV}{a b bv:AV}{H:AH}{o:OpM}{K:AV→AH→Prop}(h:ImH 3 oi ns dv a b H)(hp:H[1]?=some (some (.cells (By o bv))))(hoi:3≤oi)(hm:dv.length≤100000)
  (hK:∀r H',ImH 3 oi ns (FD B8 NdV.ino dv (Gw o.ino)) a r H'→FrL 3 oi H H'→AS (.ptr 2 0) (.ptr oi 0) H' K):Gg (.ptr 1 0) (.ptr 2 0) (.ptr oi 0) (I 0) H K:=by
 have c0:=h.obj;refine Nn (λn x3 x4 x5 x6 H'=>∃k:Nat,k+n=dv.length∧x3=.ptr 1 0∧x4=.ptr 2 0∧x5=.ptr oi 0∧x6=I k∧H=H'∧∀m y,m<k→dv[m]?=some y→B8 y.ino o.ino<0) ?_ dv.length ⟨0,by omega,rfl,rfl,rfl,rfl,rfl,by omega⟩;rintro n x3 x4 x5 x6 H' R hR ⟨k,hk,rfl,rfl,rfl,rfl,rfl,hlt⟩;unfold IF;have ln:=CU h.sb;have fin:CX B8 NdV.ino dv o.ino=k→
   bO (Bj 3 b none (some (I k)) none) (λv27=>bH (HG 3 40 H Ac v27) λv28 H29=>
    bO (Aa 1 (.ptr 1 0)) λv30=>bO (Am false 1 H29 v30) λv31=>bO (E5 [(I 0),(I 0),Ac] [(0,1,v31)]) λv32=>bH (FC H29 3 1 (BI [(I 0),(I 0),Ac] 1) [(0,3,v32)]) λv33 H34=>bH (HG 3 40 H34 v28 v33) λv35 H36=>
    bO (Aa 1 (.ptr oi 0)) λv37=>bO (Am false 1 H36 v37) λv38=>bO (Bj 3 v38 (some (I k)) none none) λv39=>bH (HG 3 40 H36 v35 v39) λv40 H41=>
    bO (Aa 1 (.ptr oi 0)) λv42=>bS (AJ 1 H41 v42 v40) λH43=>AS (.ptr 2 0) (.ptr oi 0) H43 K):=by
  intro hp0;have hol:=(B5.1 c0).1;obtain⟨⟨s1,e1,t1,i1⟩,-⟩:=I7 B4 h.sb (show k≤dv.length by omega);obtain⟨r1,H1,e2,w1,g1⟩:=qB (bytes:=40) (A3 t1) (by omega);have p1:=g1.cells hp;have g2:=Grew.app H1 [some (.cells (BB (Gw o.ino)))];have w2:=w1.grew g2;have hl1:=g1.1;have x1:Bm (H1++[some (.cells (BB (Gw o.ino)))]) 3 (.sl H1.length 0 1 3 (.ex 1))=some (BB (Gw o.ino),1):=A3 (by rw[Bo (c:=BB (Gw o.ino)) (by simp) (by simp[BB])];rfl);obtain⟨r2,H2,e3,w3,g3⟩:=iG (bytes:=40) w2 x1 (by simp;omega) (by omega);have gg:GrN H.length H H2:=(GrN.of (g1.trans g2) (Ah3 _)).trans g3;have c2:H2[oi]?=some (some (.cells [a,b])):=by rw[gg.2 oi hol];exact c0
  have sb2:Ad H2 3 b=some (dv.flatMap BB,dv.length):=Af h.sb λi hi=>gg.2 i (A7 h.sb i hi)
  obtain⟨-,⟨s2,e4,t2,i2⟩⟩:=I7 B4 sb2 (show k≤dv.length by omega);obtain⟨r3,H3,e5,w4,g4⟩:=iG (bytes:=40) w3 (A3 t2) gg.1 (by omega);have el:=Sc (c:=B8) (key:=NdV.ino) (l:=dv) (x:=Gw o.ino)
  have ev:(dv.take k).flatMap BB++BB (Gw o.ino)++(dv.drop k).flatMap BB=(FD B8 NdV.ino dv (Gw o.ino)).flatMap BB:=by
   unfold FD;rw[show CX B8 NdV.ino dv (NdV.ino (Gw o.ino))=k from hp0,Ak4,Aj3,Ai0]
  have en:k+1+(dv.length - k)=(FD B8 NdV.ino dv (Gw o.ino)).length:=by omega
  have g5:=gg.trans g4;obtain⟨H4,e6,n1,n2⟩:=h.newB (ew:=FD B8 NdV.ino dv (Gw o.ino)) (H':=H3) (r:=r3) g5.1 (λi hi _=>g5.2 i hi) (by rw[← ev,← en];exact w4.s) w4.o (by rw[← en];exact w4.c) (λi hi=>.inr (w4.i i hi));have e7:FC H1 3 1 (BI [(I 0),(I 0),Ac] 1) [(0,3,.agg (BB (Gw o.ino)))]=some (.sl H1.length 0 1 3 (.ex 1),H1++[some (.cells (BB (Gw o.ino)))]):=rfl;have e8:E5 [(I 0),(I 0),Ac] [(0,1,I o.ino)]=some (.agg (BB (Gw o.ino))):=rfl;have e9:Am false 1 H2 (.ptr oi 1)=some b:=by rw[Ah c2];rfl
  have e10:Am false 1 H1 (.ptr 1 1)=some (I o.ino):=by rw[Ah p1];rfl
  simp only[e1,Ab,e2,AA]
  show bO (some (AV.ptr 1 1)) _
  simp only[Ab,e10,e8,e7,AA,e3]
  show bO (some (AV.ptr oi 1)) _
  simp only[Ab,e9,e4,e5,AA]
  show bO (some (AV.ptr oi 1)) _
  simp only[Ab,e6,AC];exact hK r3 H4 n1 n2
 rcases Ah2 k dv.length with hkl | hkl
 ·have hx:=DJ hkl
  generalize dv[k]=x at hx;obtain⟨o',off,cells,u1,u2,u3,u4,u5,-⟩:=Sk B4 (by omega) h.sb h.ob hx;have u50:=u5 0 (by omega);rw[Al9]at u50
  by_cases hc:B8 x.ino o.ino<0
  ·have hc':x.nd.ino<o.ino:=NT.1 hc
   simp[c0,hp,By,ln,hkl,u1,u3,u50,BB,hc',Ax (a:=k) (b:=1) (by omega) (by omega)]
   exact hR (n - 1) _ _ _ _ _ (by omega) ⟨k+1,by omega,rfl,rfl,rfl,by simp,rfl,λm y hm hy=>by
    by_cases c2:m=k
    ·rw[c2,hx]at hy;injection hy with hy;rw[← hy];exact hc
    ·exact hlt m y (by omega) hy⟩
  ·have:=fin (Ol (by omega) hlt (λy hy=>by rw[hx]at hy;injection hy with hy;rw[← hy];exact hc))
   have hc':¬x.nd.ino<o.ino:=λq=>hc (NT.2 q)
   simp at this;simp[c0,hp,By,ln,hkl,u1,u3,u50,BB,hc'];exact this
 ·have:=fin (Ol (by omega) hlt (λy hy=>by have:=(B5.1 hy).1;omega))
  simp at this;simp[c0,ln,show ¬k<dv.length by omega];exact this
section
variable {κ α : Type} {c : κ→κ→Int} {key : α→κ}
theorem gJ (hc:KO c):∀{l m:List α},Cn c key l→Cn c key m→(∀x,x∈l↔x∈m)→l=m
 | [],[],_,_,_=>rfl
 | [],b::m,_,_,h=>by have:=(h b).2 (by simp);simp at this
 | a::l,[],_,_,h=>by have:=(h a).1 (by simp);simp at this
 | a::l,b::m,h1,h2,h=>by
  have k1:=Am7.1 h1;have k2:=Am7.1 h2
  have e:a=b:=by
   rcases Ak0.1 ((h a).1 (by simp))with e | q1
   ·exact e
   ·rcases Ak0.1 ((h b).2 (by simp))with e | q2
    ·exact e.symm
    ·exact absurd (hc.trans _ _ _ (k1.1 b q2) (k2.1 a q1)) (hc.irr _)
  subst e
  congr 1
  refine gJ hc k1.2 k2.2 λx=>?_
  have irr:∀y,y∈l∨y∈m→y≠a:=by
   rintro y (q | q) rfl
   ·exact hc.irr _ (k1.1 y q)
   ·exact hc.irr _ (k2.1 y q)
  constructor
  ·intro q
   rcases Ak0.1 ((h x).1 (by simp[q]))with e | q2
   ·exact absurd e (irr x (.inl q))
   ·exact q2
  ·intro q
   rcases Ak0.1 ((h x).2 (by simp[q]))with e | q2
   ·exact absurd e (irr x (.inr q))
   ·exact q2
theorem M6 (hc:KO c){l:List α}(h:Cn c key l){k k2:κ}(hk:AT key l k)(hne:k2≠k):AT key (Dn c key l k) k2↔AT key l k2:=by
 constructor
 ·rintro⟨x,hx,e⟩
  exact⟨x,delK_sub.subset hx,e⟩
 ·rintro⟨x,hx,e⟩
  exact⟨x,(HK hc h hk).2 ⟨hx,by rw[e];exact hne⟩,e⟩
theorem Z2 (hc:KO c){l:List α}(h:Cn c key l){k k2:κ}(hk:AT key l k)(hk2:AT key l k2)(hne:k≠k2):Dn c key (Dn c key l k) k2=Dn c key (Dn c key l k2) k:=by
 refine gJ hc (EU (EU h)) (EU (EU h)) λx=>?_
 rw[HK hc (EU h) ((M6 hc h hk (Ak2 hne)).2 hk2),HK hc h hk,HK hc (EU h) ((M6 hc h hk2 hne).2 hk),HK hc h hk2,and_right_comm]
end
theorem We {ns:List Nm}(hs:Cn Bd Nm.name ns){s t:List UInt8}(hk:AT Nm.name ns s)(ht:AT Nm.name ns t)(hne:t≠s):CD (Dn Bd Nm.name ns s) t=CD ns t:=by
 obtain⟨x,h1,h2,rfl⟩:=U8 ht;unfold CD;rw[h1,aN koN (EU hs) ((HK koN hs hk).2 ⟨h2,hne⟩)]
end
section
theorem Od {κ α:Type}[DecidableEq κ]{key:α→κ}{l:List α}{k:κ}:0≤IX key l k↔AT key l k:=by
 constructor
 ·intro h
  refine Classical.byContradiction λq=>?_
  have:=GY.2 q
  omega
 ·intro h
  obtain⟨j,x,h1,-⟩:=Ym h;omega
theorem oN {ns:List Nm}{ds:List Nd}{o:OpM}(hm:EJ ns ds)(h1:¬o.kind=1)(h2:¬(o.kind=2∨o.kind=3∨o.kind=4∨o.kind=5))(h6:o.kind=6)(hc:Sq ns o.name o.to):
  AG ns ds o=(FD Bd Nm.name (Dn Bd Nm.name (if AT Nm.name ns o.to then Dn Bd Nm.name ns o.to else ns) o.name) ⟨o.to,CD ns o.name⟩,if AT Nm.name ns o.to then Dn B8 Nd.ino ds (CD ns o.to)else ds):=by
 unfold AG;rw[if_pos hm,if_neg h1,if_neg h2,if_pos h6,if_pos hc];have hs:=hm.1.2.2.1;unfold Fa Un;have hd:=M6 koN hs hc.1 (Ak2 hc.2.2)
 by_cases ht:AT Nm.name ns o.to
 ·rw[if_pos ht,if_pos (hd.2 ht),if_pos ht,if_pos (hd.2 ht),Z2 koN hs hc.1 ht hc.2.2,We hs hc.1 ht (Ak2 hc.2.2)]
 ·rw[if_neg ht,if_neg (λh=>ht (hd.1 h)),if_neg ht,if_neg (λh=>ht (hd.1 h))]
theorem Sn {ns:List Nm}{ds:List Nd}{v bv:AV}{o:OpM}(hv:ImV ns ds v)(hb:Sm ns ds)(hbv:SV IW 1 o.b bv)(hbl:o.b.length≤281474976710656)(hn:o.name.length≤1000000000)(ht:o.to.length≤1000000000):
  ∃R,ImV (AG ns ds o).1 (AG ns ds o).2 R∧BPure prog 114 [v,.agg (By o bv)] R:=by
 have hids:=hv.noIds;refine BPure.FZ (by simp[Az]at hids⊢;exact⟨hids,by simp[By,noIds,Az,hbv.1]⟩) (Ss (K:=vH (AG ns ds o)) ?_);have hv0:=hv;obtain⟨a,b,dv,rfl,sa,sb,rfl⟩:=hv;have b1:=hb.1;have b2:=hb.2.1;rw[Ai2]at b2;have oa:=SV.oneA sa;have ob:=SV.oneA sb;have o3:=SV.oneA hbv;unfold Ou;obtain⟨H5,e5,c0,c1,c2,l5⟩:∃H5,A9 [some (.cells [a,b]),some (.cells (By o bv))] (.agg [Ac,Ac])=some (.ptr 2 0,H5)∧H5[0]?=some (some (.cells [a,b]))∧H5[1]?=some (some (.cells (By o bv)))∧H5[2]?=some (some (.cells [Ac,Ac]))∧H5.length=3:=
  ⟨[some (.cells [a,b]),some (.cells (By o bv)),some (.cells [Ac,Ac])],by simp,rfl,rfl,rfl,rfl⟩
 have e4:A9 [some (.cells [a,b])] (.agg (By o bv))=some (.ptr 1 0,[some (.cells [a,b]),some (.cells (By o bv))]):=by simp[By,o3]
 have b0:∀x y:AV,Aq true 2 [x,y] 0=some (.agg [x,y]):=λ_ _=>rfl
 have e0:A9 [] (.agg [a,b])=some (.ptr 0 0,[some (.cells [a,b])]):=by simp[oa,ob]
 simp[-OW,e0,e4,e5,c0,b0];obtain⟨r,H8,⟨a',b',ew,rfl,hew,hg,ow⟩,hc⟩:=Wq (H:=H5) sa sb (by omega) b2 (λd hd=>hb.2.2.2 d.nd (Ai7 hd));refine bC_of hc ?_;have a1:=AI ow.oa;have a2:=AI ow.ob;have l8:=hg.1;rw[l5]at ow l8
 obtain⟨H11,e11,i9,g11,l11⟩:∃H11,AJ 2 (H8++[some (.cells [Ac,Ac])]) (.ptr H8.length 0) (.agg [a',b'])=some H11∧ImH 3 H8.length ns ew a' b' H11∧Grew H8 H11∧H11.length=H8.length+1:=by
  have g:=Grew.app H8 [some (.cells [a',b'])];refine⟨H8++[some (.cells [a',b'])],by simp[AJ,AZ,a1,a2],⟨by simp,⟨λq=>by have:=A7 ow.sa _ q;omega,λq=>by have:=A7 ow.sb _ q;omega⟩,by simp;omega,g.slice ow.sa,ow.oa,ow.ca,ow.ia,g.slice ow.sb,ow.ob,ow.cb,ow.ib,ow.ab⟩,g,by simp⟩
 have e10:A9 H8 (.agg [Ac,Ac])=some (.ptr H8.length 0,H8++[some (.cells [Ac,Ac])]):=by simp
 simp[-OW,e10,e11];have k0:=g11.cells (hg.cells c0);have k1:=g11.cells (hg.cells c1);have k2:=g11.cells (hg.cells c2);have hoi:3≤H8.length:=l8;generalize H8.length=oi at*;have d0:=i9.obj;have el:ew.length=dv.length:=by have:=congrArg List.length hew;simpa using this
 have keep:∀{H':AH},FrL 3 oi H11 H'→H'[0]?=some (some (.cells [a,b]))∧H'[1]?=some (some (.cells (By o bv)))∧H'[2]?=some (some (.cells [Ac,Ac])):=λf=>by
  rw[f.2 0 (by omega) (by omega),f.2 1 (by omega) (by omega),f.2 2 (by omega) (by omega)];exact⟨k0,k1,k2⟩
 have hsm:Sm ns (ew.map NdV.nd):=by rw[hew];exact hb
 simp[-OW,k0,b0];refine As (GA hv0 hb) ?_
 by_cases hm:EJ ns (dv.map NdV.nd)
 ·have hs:=hm.1.2.2.1
  have hdd:=hm.2.2.1;have hd:Cn B8 NdV.ino ew:=by rw[← N6,hew];exact hdd
  have hx:∀x∈ns,AT NdV.ino ew x.ino:=λx hx=>by rw[← Jg,hew];exact(Se.1 hm).2.2.2.2.1 x hx
  simp[-OW,hm,k1,By]
  by_cases q1:o.kind=1
  ·
   have hno:¬WS ns (dv.map NdV.nd) o→AS (.ptr 2 0) (.ptr oi 0) H11 (vH (AG ns (dv.map NdV.nd) o)):=λhc=>Dg i9 hoi k2 (by unfold AG;rw[if_pos hm,if_pos q1,if_neg hc,hew])
   rw[decide_eq_true q1];simp only[Aw];refine As (EX (s:=o.name) (by omega)) ?_
   by_cases q3:DK o.name
   ·simp[q3,k1,By]
    refine As (F3 hv0 hb o.name) ?_
    by_cases q4:AT Nm.name ns o.name
    ·have i4:¬IX Nm.name ns o.name<0:=by rw[GY];exact λh=>h q4
     simp[i4];exact hno λhc=>hc.1 q4
    ·have i4:IX Nm.name ns o.name<0:=GY.2 q4
     simp[i4,k1,By]
     by_cases q5:1≤o.ino
     ·by_cases q6:o.ino≤4611686018427387904
      ·simp[q5,q6,k1,By]
       refine As (Iu hv0 hb o.ino) ?_
       by_cases q7:AT Nd.ino (dv.map NdV.nd) o.ino
       ·have i7:¬IX Nd.ino (dv.map NdV.nd) o.ino<0:=by rw[GY];exact λh=>h q7
        simp[i7];exact hno λhc=>hc.2.1 q7
       ·have i7:IX Nd.ino (dv.map NdV.nd) o.ino<0:=GY.2 q7
        by_cases q8:ns.length<16
        ·have q8':(ns.length:Int)<16:=by omega
         have hc:WS ns (dv.map NdV.nd) o:=⟨q4,q7,q3,q5,q6,q8⟩
         have e:AG ns (dv.map NdV.nd) o=(FD Bd Nm.name ns ⟨o.name,o.ino⟩,(FD B8 NdV.ino ew (Gw o.ino)).map NdV.nd):=by
          unfold AG;rw[if_pos hm,if_pos q1,if_pos hc,eS,hew]
         simp[i7,k0,sa.len,q8'];obtain⟨r2,H2,⟨rfl,a3,b3,i3,f3⟩,w3⟩:=dZ (s:=o.name) (no:=o.ino) i9 b1;refine bC_of w3 ?_;refine uW i3 (keep f3).2.1 hoi (by omega) λr4 H4 i4 f4=>?_
         exact Dg i4 hoi (keep (f3.trans f4)).2.2 e
        ·have q8':¬(ns.length:Int)<16:=by omega
         simp[i7,k0,sa.len,q8'];exact hno λhc=>q8 hc.2.2.2.2.2
      ·simp[q5,q6,k1,By]
       exact hno λhc=>q6 hc.2.2.2.2.1
     ·simp[q5]
      exact hno λhc=>q5 hc.2.2.2.1
   ·simp[q3]
    exact hno λhc=>q3 hc.2.2.1
  ·by_cases q6:o.kind=6
   ·have q2:¬(o.kind=2∨o.kind=3∨o.kind=4∨o.kind=5):=by omega
    have hno:¬Sq ns o.name o.to→AS (.ptr 2 0) (.ptr oi 0) H11 (vH (AG ns (dv.map NdV.nd) o)):=λhc=>Dg i9 hoi k2 (by unfold AG;rw[if_pos hm,if_neg q1,if_neg q2,if_pos q6,if_neg hc,hew])
    rw[decide_eq_false q1];simp only[Ao];simp[q6];refine As (F3 hv0 hb o.name) ?_
    by_cases q3:AT Nm.name ns o.name
    ·have i3:0≤IX Nm.name ns o.name:=Od.2 q3
     simp[i3,k1,By];refine As (EX (s:=o.to) (by omega)) ?_
     by_cases q4:DK o.to
     ·simp[q4,k1,By,tP]
      by_cases q5:o.to=o.name
      ·simp[q5]
       exact hno λhc=>hc.2.2 q5.symm
      ·have hc:Sq ns o.name o.to:=⟨q3,q4,Ak2 q5⟩
       have e:=oN hm q1 q2 q6 hc;obtain⟨Ra,Rb,ta,tb,fz⟩:=i9.lend
       have hJ:∀ns1 dw a1 b1 Hc,ImH 3 oi ns1 dw a1 b1 Hc→FrL 3 oi H11 Hc→Cn Bd Nm.name ns1→Cn B8 NdV.ino dw→Sm ns1 (dw.map NdV.nd)→AT Nm.name ns1 o.name→AG ns (dv.map NdV.nd) o=(FD Bd Nm.name (Dn Bd Nm.name ns1 o.name) ⟨o.to,CD ns o.name⟩,dw.map NdV.nd)→E3 (.ptr 0 0) (.ptr 1 0) (.ptr 2 0) (.ptr oi 0) (I (IX Nm.name ns o.name)) Hc (vH (AG ns (dv.map NdV.nd) o)):=by
        intro ns1 dw a1 b1 Hc hi hf hs1 hd1 hb1 hk1 he;rw[OE];unfold IC;obtain⟨g0,g1,g2⟩:=keep hf;simp[g1,By];obtain⟨r2,H2,⟨rfl,a3,b3,i3,f3⟩,w3⟩:=iV (s:=o.name) hi hs1 hd1 hb1 hk1 false (by simp);refine bC_of w3 ?_;rw[OF];unfold ID;obtain⟨g0,g1,g2⟩:=keep (hf.trans f3);rw[Pm koN hs q3];obtain⟨x,hx1,hx2,hx3⟩:=FM koN hs q3;have en:CD ns o.name=x.ino:=by unfold CD;rw[hx2]
        simp[g0,g1,By,sa.idx BF hx1 rfl,XN];obtain⟨r4,H4,⟨rfl,a5,b5,i5,f5⟩,w5⟩:=dZ (s:=o.to) (no:=x.ino) i3 (Ai8 delK_sub.length_le hb1.1);refine bC_of w5 ?_;rw[en]at he;exact Dg i5 hoi (keep ((hf.trans f3).trans f5)).2.2 he
       simp[q5,d0,b0];refine bP_of (PCall.lend (FZs.cons fz (FZs.cons (FZ.lit _) FZs.nil)) rfl (F3 ⟨Ra,Rb,ew,rfl,ta,tb,rfl⟩ hsm o.to)) ?_
       by_cases q7:AT Nm.name ns o.to
       ·have i7:=Od.2 q7
        rw[if_pos q7,if_pos q7]at e
        have hk7:AT NdV.ino ew (CD ns o.to):=by
         obtain⟨y,y1,y2,y3⟩:=U8 q7;have:CD ns o.to=y.ino:=by unfold CD;rw[y1]
         rw[this];exact hx y y2
        simp[i7];obtain⟨r2,H2,⟨rfl,a3,b3,i3,f3⟩,w3⟩:=iV (s:=o.to) i9 hs hd hsm q7 true (λ_=>hk7);refine bC_of w3 ?_;refine hJ _ _ _ _ _ i3 f3 (EU hs) (by simpa using EU hd) (hsm.sub delK_sub (by simpa using delK_sub.map NdV.nd)) ((M6 koN hs q7 (Ak2 q5)).2 q3) ?_;rw[e,← hew];simp[eI]
       ·have i7:¬0≤IX Nm.name ns o.to:=λh=>q7 (Od.1 h)
        rw[if_neg q7,if_neg q7]at e;simp[i7];exact hJ _ _ _ _ _ i9 (FrL.refl _ _ _) hs hd hsm q3 (by rw[e,hew])
     ·simp[q4]
      exact hno λhc=>q4 hc.2.1
    ·have i3:¬0≤IX Nm.name ns o.name:=λh=>q3 (Od.1 h)
     simp[i3];exact hno λhc=>q3 hc.1
   ·by_cases q7:o.kind=7
    ·have q2:¬(o.kind=2∨o.kind=3∨o.kind=4∨o.kind=5):=by omega
     have e:AG ns (dv.map NdV.nd) o=(Fa ns o.name,(So ns ew o.name).map NdV.nd):=by
      unfold AG;rw[if_pos hm,if_neg q1,if_neg q2,if_neg q6,if_pos q7,Wm,hew]
     rw[decide_eq_false q1];simp only[Ao];simp[q7];refine As (F3 hv0 hb o.name) ?_
     by_cases q3:AT Nm.name ns o.name
     ·have i3:=Od.2 q3
      have hk7:AT NdV.ino ew (CD ns o.name):=by
       obtain⟨y,y1,y2,y3⟩:=U8 q3;have:CD ns o.name=y.ino:=by unfold CD;rw[y1]
       rw[this];exact hx y y2
      simp[i3];obtain⟨r2,H2,⟨rfl,a3,b3,i3,f3⟩,w3⟩:=iV (s:=o.name) i9 hs hd hsm q3 true (λ_=>hk7);refine bC_of w3 ?_;refine Dg i3 hoi (keep f3).2.2 (e.trans ?_);unfold Fa So;rw[if_pos q3,if_pos q3];rfl
     ·have i3:¬0≤IX Nm.name ns o.name:=λh=>q3 (Od.1 h)
      simp[i3];refine Dg i9 hoi k2 (e.trans ?_);unfold Fa So;rw[if_neg q3,if_neg q3]
    ·have e:AG ns (dv.map NdV.nd) o=(ns,OA (ew.map NdV.nd) o):=by
      unfold AG;rw[if_pos hm,if_neg q1,if_neg q6,if_neg q7,hew]
      by_cases q2:o.kind=2∨o.kind=3∨o.kind=4∨o.kind=5
      ·rw[if_pos q2]
      ·rw[if_neg q2,XG q2]
     rw[decide_eq_false q1];simp only[Ao];simp[-OW,q6,q7];refine As (Iu hv0 hb o.ino) ?_
     by_cases q3:AT Nd.ino (dv.map NdV.nd) o.ino
     ·have i3:=Od.2 q3
      have hdv:Cn B8 NdV.ino dv:=N6.1 hdd;have ek:=Pm koI hdd q3;rw[MB]at ek;obtain⟨x,hx1,hx2,hx3⟩:=FM koI hdv (Jg.1 q3);have hxl:=hb.2.2.2 x.nd (Ai7 (Ag9 hx1));obtain⟨R2,s2,p2⟩:=cE (d:=x.nd) (o:=o) x.h hxl hbv hbl;have o2:=SV.oneA s2
      obtain⟨y,hy1,hy2⟩:∃y,ew[CX B8 NdV.ino dv o.ino]?=some y∧y.nd=x.nd:=by
       have h1:(ew.map NdV.nd)[CX B8 NdV.ino dv o.ino]?=some x.nd:=by rw[hew,Ai6,hx1];rfl
       exact getElem?_map_nd h1
      have b8:Aq true 8 (By o bv) 0=some (.agg (By o bv)):=rfl;have ei:=sb.idx B4 hx1 rfl
      obtain⟨H1,f1,f2,f3,f4,f5⟩:∃H1,A9 H11 (.agg [I 0,Ac])=some (.ptr H11.length 0,H1)∧H1[0]?=some (some (.cells [a,b]))∧H1[1]?=some (some (.cells (By o bv)))∧H1=H11++[some (.cells [I 0,Ac])]∧Grew H11 H1:=by
       have g:=Grew.app H11 [some (.cells [I 0,Ac])];exact⟨_,by simp,g.cells k0,g.cells k1,rfl,g⟩
      obtain⟨H2,f6,f7,f8⟩:∃H2,AJ 2 H1 (.ptr H11.length 0) (.agg [I (cS (G5 o x.nd)),R2])=some H2∧H2[H11.length]?=some (some (.cells [I (cS (G5 o x.nd)),R2]))∧Grew H11 H2:=by
       subst f4;exact⟨H11++[some (.cells [I (cS (G5 o x.nd)),R2])],by simp[AJ,AZ,o2],by simp,Grew.app _ _⟩
      have i2:=i9.grew f8;have d2:=i2.obj;have fr2:FrL 3 oi H11 H2:=⟨f8.1,λj j1 j2=>f8.2 j (by have:=i9.len;omega)⟩;have hat:nB Nd.ino (dv.map NdV.nd) o.ino=some x.nd:=Xs hx2;simp[-OW,ek,ei];refine bP_of p2 ?_;simp only[Ai,Ab,Ab0,f1,AA,f6,AC];simp[f2,f3,b8];cases hr:G5 o x.nd with
      | none=>
       simp;refine⟨by simp[Aq,BB],rfl,?_⟩;refine Dg i2 hoi (keep fr2).2.2 (e.trans ?_);unfold OA;rw[hew,hat];simp only[hr]
      | some c=>
       rw[hr]at s2 f7;obtain⟨o',off,cells,H4,w1,w2,w3,w4,w5,w6⟩:=i2.putD (sz:=cS (some c)) hy1 s2;simp[d2,f7,w1,Aq,w4];refine⟨by rw[B4];omega,rfl,?_⟩;refine Dg w5 hoi (keep (fr2.trans w6)).2.2 (e.trans ?_);unfold OA;rw[hew,hat];simp only[hr,MB];rw[Ar3,hew]
       congr 2
       rw[← hy2];rfl
     ·have i3:¬0≤IX Nd.ino (dv.map NdV.nd) o.ino:=λh=>q3 (Od.1 h)
      simp[i3];refine Dg i9 hoi k2 (e.trans ?_);unfold OA;rw[hew,U9 q3]
 ·have e:AG ns (dv.map NdV.nd) o=(ns,ew.map NdV.nd):=by unfold AG;rw[if_neg hm,hew]
  have:=Dg i9 hoi k2 e
  rw[IE]at this;unfold FF at this;simp[d0,b0]at this;simp[hm,d0,b0];exact this
theorem YL:∀{bs:List UInt8} {l:List Ext} {p:Int},(BN l p bs).length≤l.length+bs.length
 | [],l,p=>Ah3 _
 | b::r,l,p=>by
  show(BN (E1 l p [b]) (p+1) r).length≤_
  have ih:=YL (bs:=r) (l:=E1 l p [b]) (p:=p+1)
  have h:(E1 l p [b]).length≤l.length+1:=by
   unfold E1
   have:=Yz l (p/8)
   simp[Xk];omega
  simp only[Al7];omega
theorem kT {o:OpM}{d:Nd}:(cL (G5 o d)).length≤d.l.length+o.b.length+4098:=by
 unfold G5
 split
 ·unfold DI
  split
  ·split
   ·simp only[cL,Ao4];omega
   ·simp only[cL,Ao4]
    have:=YL (bs:=o.b) (l:=d.l) (p:=o.pos)
    omega
  ·simp[cL]
 ·split
  ·unfold Cx
   split
   ·simp only[cL,Ao4,Fz,PR,Ai2]
    exact Ai8 (Am5 _ _) (by omega)
   ·simp[cL]
  ·split
   ·unfold BU
    split
    ·simp only[cL,Ao4,Mt]
     have:=(bR (k:=allocN o.pos o.size) (l:=d.l) (no:=o.pos/8)).1
     have hN:allocN o.pos o.size≤4098:=by unfold allocN;omega
     omega
    ·simp[cL]
   ·split
    ·unfold CB
     split
     ·simp only[cL,Ao4,Fp,PR,Ai2]
      exact Ai8 (Am5 _ _) (by omega)
     ·simp[cL]
    ·simp[cL]
def zE (ns:List Nm)(ds:List Nd):Prop:=ns.length≤30∧ds.length≤30∧(∀d∈ds,d.l.length≤60)∧LD ds≤300
instance (ns:List Nm) (ds:List Nd):Decidable (zE ns ds):=by unfold zE;infer_instance
theorem OwI.lend {L:Nat}{ns:List Nm}{dv:List NdV}{a b:AV}{H:AH}(h:OwI L ns dv a b H):∃R,ImV ns (dv.map NdV.nd) R∧FZ H (.agg [a,b]) R:=by
 obtain⟨Ra,h1,f1⟩:=FZ.sv h.sa (Eh λx _=>Sh x);obtain⟨Rb,h2,f2⟩:=FZ.sv h.sb (Eh λx _=>KM x);exact⟨_,⟨Ra,Rb,dv,rfl,h1,h2,rfl⟩,FZ.agg (FZs.cons f1 (FZs.cons f2 FZs.nil))⟩
theorem gW {ns:List Nm}{ds:List Nd}{v:AV}(hv:ImV ns ds v)(hb:Sm ns ds):∃R,ImV ns ds R∧BPure prog 64 [v] R:=by
 have hids:=hv.noIds;obtain⟨a,b,dv,rfl,sa,sb,rfl⟩:=hv;have b2:=hb.2.1;rw[Ai2]at b2;obtain⟨r,X,⟨a',b',ew,rfl,hew,-,ow⟩,hc⟩:=oZ (H:=[]) sa sb hb.1 b2 (λd hd=>hb.2.2.2 d.nd (Ai7 hd));obtain⟨R,hR,fR⟩:=ow.lend;rw[hew]at hR;exact BPure.FZ hids ⟨_,X,⟨R,fR,hR⟩,hc⟩
structure OpV where
 o:OpM
 bv:AV
 h:SV IW 1 o.b bv
def HJ (x:OpV):List AV:=By x.o x.bv
theorem XO (x:OpV):(HJ x).length=8:=rfl
theorem lP {H:AH}{w:AV}{l:List OpV}{k:Nat}{x:OpV}(hw:Ad H 8 w=some (l.flatMap HJ,l.length))(hx:l[k]?=some x):∃p,Bq 8 w (I k)=some p∧Am true 8 H p=some (.agg (By x.o x.bv)):=by
 have hk:=(B5.1 hx).1;obtain⟨p,c,h1,h2,h3,h4⟩:=S4 hw (i:=(k:Int)) rfl hk
 have hc:c.take 8=HJ x:=by
  rw[h3,Gc XO hx,Aj1 (by rw[XO];omega),Ah4 (by rw[XO];omega)]
 exact⟨p,h1,by rw[XC h2 (by omega) h4,WK (by omega),Ak9,hc];rfl⟩
section
variable {α κ ι : Type} {c : κ→κ→Int} {key : α→κ}
theorem Yj {f:α→ι}{l:List α}{x:α}{i:ι}:AT f (FD c key l x) i↔f x=i∨AT f l i:=by
 unfold AT
 constructor
 ·rintro⟨y,hy,e⟩
  rcases G8.1 hy with rfl | hy
  ·exact .inl e
  ·exact .inr ⟨y,hy,e⟩
 ·rintro(e | ⟨y,hy,e⟩)
  ·exact⟨x,G8.2 (.inl rfl),e⟩
  ·exact⟨y,G8.2 (.inr hy),e⟩
theorem VW (hc:KO c){f:α→ι}{l:List α}(h:Cn c key l){k:κ}(hk:AT key l k){i:ι}:AT f (Dn c key l k) i↔∃y∈l,key y≠k∧f y=i:=by
 unfold AT
 constructor
 ·rintro⟨y,hy,e⟩
  obtain⟨h1,h2⟩:=(HK hc h hk).1 hy;exact⟨y,h1,h2,e⟩
 ·rintro⟨y,hy,h2,e⟩
  exact⟨y,(HK hc h hk).2 ⟨hy,h2⟩,e⟩
theorem SE {β:Type}{f:α→β}:∀{l:List α},l.Nodup→((l.map f).Nodup↔∀x∈l,∀y∈l,f x=f y→x=y)
 | [],_=>by simp
 | a::l,h=>by
  obtain⟨h1,h2⟩:=Aq7.1 h;rw[An7,Aq7,SE h2]
  constructor
  ·rintro⟨h3,h4⟩ x hx y hy e
   rcases Ak0.1 hx with hx1 | hx1<;>rcases Ak0.1 hy with hy1 | hy1
   ·rw[hx1,hy1]
   ·rw[hx1]at e;exact absurd (Aj7.2 ⟨y,hy1,e.symm⟩) h3
   ·rw[hy1]at e;exact absurd (Aj7.2 ⟨x,hx1,e⟩) h3
   ·exact h4 x hx1 y hy1 e
  ·intro h3
   refine⟨λhm=>?_,λx hx y hy=>h3 x (by simp[hx]) y (by simp[hy])⟩;obtain⟨y,hy,e⟩:=Aj7.1 hm
   have:=h3 y (by simp[hy]) a (by simp) e
   exact h1 (this▸hy)
theorem Uu (hc:KO c){l:List α}(h:Cn c key l):l.Nodup:=by
 refine List.Pairwise.imp ?_ h;rintro a b hab rfl;exact hc.irr _ hab
end
structure MayW (ns:List Nm)(ds:List Nd):Prop where
 len:ns.length≤16
 nm:∀x∈ns,DK x.name∧1≤x.ino∧x.ino≤4611686018427387904
 srt:Cn Bd Nm.name ns
 inj:∀x∈ns,∀y∈ns,x.ino=y.ino→x=y
 sd:Cn B8 Nd.ino ds
 mc:∀d∈ds,Dj d.size d.l
 ino:∀i,AT Nd.ino ds i↔AT Nm.ino ns i
theorem iX {ds:List Nd}(h:Cn B8 Nd.ino ds):(ds.map Nd.ino).Nodup:=by
 rw[List.Nodup,Ao9];exact h.imp λh=>by rw[NT]at h;omega
theorem OC {ns:List Nm}{ds:List Nd}:EJ ns ds↔MayW ns ds:=by
 constructor
 ·intro h
  have h2:=Se.1 h;obtain⟨h21,h22,⟨h23,h24,h25⟩,h26,h27,h28⟩:=h2;refine⟨h21,h23,h24,(SE (Uu koN h24)).1 h25,h26,h28,λi=>⟨?_,?_⟩⟩
  ·rintro⟨d,hd,rfl⟩
   exact(h.2.2.2 d hd).1
  ·rintro⟨x,hx,rfl⟩
   exact h27 x hx
 ·intro h
  refine⟨⟨h.len,h.nm,h.srt,(SE (Uu koN h.srt)).2 h.inj⟩,?_,h.sd,λd hd=>⟨(h.ino d.ino).1 ⟨d,hd,rfl⟩,h.mc d hd⟩⟩
  have hp:=(List.perm_ext_iff_of_nodup (iX h.sd) ((SE (Uu koN h.srt)).2 h.inj)).2 λi=>by
   have:=h.ino i
   unfold AT at this
   simpa[Aj7]using this
  have:=hp.length_eq
  simpa using this
theorem ZF {ns:List Nm}(hs:Cn Bd Nm.name ns){x:Nm}(hx:x∈ns):CD ns x.name=x.ino:=by
 unfold CD;rw[aN koN hs hx]
theorem rN {ns:List Nm}{s:List UInt8}(h:¬AT Nm.name ns s):CD ns s=0:=by
 unfold CD;rw[U9 h]
theorem MayW.rem {ns:List Nm}{ds:List Nd}{s:List UInt8}(h:MayW ns ds)(hk:AT Nm.name ns s):MayW (Dn Bd Nm.name ns s) (Dn B8 Nd.ino ds (CD ns s)):=by
 obtain⟨x,hx,rfl⟩:=hk;have hk:AT Nm.name ns x.name:=⟨x,hx,rfl⟩;rw[ZF h.srt hx];have hd:AT Nd.ino ds x.ino:=(h.ino _).2 ⟨x,hx,rfl⟩;have sub:∀y,y∈Dn Bd Nm.name ns x.name→y∈ns:=λy hy=>delK_sub.subset hy
 have hl:=Ro (UT koN h.srt hk)
 have:=h.len
 refine⟨by omega,λy hy=>h.nm y (sub y hy),EU h.srt,λy hy z hz=>h.inj y (sub y hy) z (sub z hz),EU h.sd,λd hd=>h.mc d (delK_sub.subset hd),λi=>?_⟩;rw[VW koI h.sd hd,VW koN h.srt hk]
 constructor
 ·rintro⟨d,hd1,hd2,rfl⟩
  obtain⟨y,hy,e⟩:=(h.ino d.ino).1 ⟨d,hd1,rfl⟩;exact⟨y,hy,λe2=>hd2 (by rw[← e,SN koN h.srt hy hx e2]),e⟩
 ·rintro⟨y,hy,hne,rfl⟩
  obtain⟨d,hd1,e⟩:=(h.ino y.ino).2 ⟨y,hy,rfl⟩;exact⟨d,hd1,λe2=>hne (by rw[h.inj y hy x hx (by rw[← e,e2])]),e⟩
theorem MayW.ren {ns:List Nm}{ds:List Nd}{s t:List UInt8}(h:MayW ns ds)(hk:AT Nm.name ns s)(ht:¬AT Nm.name ns t)(hm:DK t):MayW (FD Bd Nm.name (Dn Bd Nm.name ns s) ⟨t,CD ns s⟩) ds:=by
 obtain⟨x,hx,rfl⟩:=hk;have hk:AT Nm.name ns x.name:=⟨x,hx,rfl⟩;rw[ZF h.srt hx];have mem:∀y,y∈FD Bd Nm.name (Dn Bd Nm.name ns x.name) ⟨t,x.ino⟩↔y=⟨t,x.ino⟩∨(y∈ns∧y.name≠x.name):=λy=>by rw[G8,HK koN h.srt hk]
 have hl:=Ro (UT koN h.srt hk)
 have:=h.len
 refine⟨by rw[Sc];omega,?_,YD koN (EU h.srt) (λhh=>ht ?_),?_,h.sd,h.mc,λi=>?_⟩
 ·intro y hy
  rcases(mem y).1 hy with rfl | ⟨hy,-⟩
  ·exact⟨hm,(h.nm x hx).2⟩
  ·exact h.nm y hy
 ·obtain⟨y,hy,e⟩:=hh
  exact⟨y,delK_sub.subset hy,e⟩
 ·intro y hy z hz e
  rcases(mem y).1 hy with rfl | ⟨hy,hny⟩<;>rcases(mem z).1 hz with rfl | ⟨hz,hnz⟩
  ·rfl
  ·exact absurd (by rw[h.inj x hx z hz e]) hnz
  ·exact absurd (by rw[h.inj y hy x hx e]) hny
  ·exact h.inj y hy z hz e
 ·rw[h.ino i,Yj,VW koN h.srt hk]
  constructor
  ·rintro⟨y,hy,rfl⟩
   by_cases c:y.name=x.name
   ·exact .inl (by rw[SN koN h.srt hy hx c])
   ·exact .inr ⟨y,hy,c,rfl⟩
  ·rintro(rfl | ⟨y,hy,-,rfl⟩)
   ·exact⟨x,hx,rfl⟩
   ·exact⟨y,hy,rfl⟩
theorem rM:Dj 0 []:=by decide
theorem MayW.cre {ns:List Nm}{ds:List Nd}{o:OpM}(h:MayW ns ds)(hc:WS ns ds o):MayW (FD Bd Nm.name ns ⟨o.name,o.ino⟩) (FD B8 Nd.ino ds ⟨o.ino,0,[]⟩):=by
 obtain⟨h1,h2,h3,h4,h5,h6⟩:=hc;have hn:¬AT Nm.ino ns o.ino:=λhh=>h2 ((h.ino _).2 hh)
 refine⟨by rw[Sc];omega,?_,YD koN h.srt h1,?_,YD koI h.sd h2,?_,λi=>by rw[Yj,Yj,h.ino]⟩
 ·intro y hy
  rcases G8.1 hy with rfl | hy
  ·exact⟨h3,h4,h5⟩
  ·exact h.nm y hy
 ·intro y hy z hz e
  rcases G8.1 hy with rfl | hy<;>rcases G8.1 hz with rfl | hz
  ·rfl
  ·exact absurd ⟨z,hz,e.symm⟩ hn
  ·exact absurd ⟨y,hy,e⟩ hn
  ·exact h.inj y hy z hz e
 ·intro d hd
  rcases G8.1 hd with rfl | hd
  ·exact rM
  ·exact h.mc d hd
theorem qI {o:OpM}{d:Nd}{c:KD}(hk:o.kind=2∨o.kind=3∨o.kind=4∨o.kind=5)(h:G5 o d=some c):Dj c.1 c.2:=by
 unfold G5 at h;split at h
 ·exact nY h
 ·split at h
  ·exact nX h
  ·split at h
   ·exact nV h
   ·split at h
    ·exact nW h
    ·omega
theorem Zz {ds:List Nd}{o:OpM}(hs:Cn B8 Nd.ino ds):(OA ds o).map Nd.ino=ds.map Nd.ino:=by
 unfold OA
 split
 ·rename_i d hd
  split
  ·rename_i c hc
   have hk:AT Nd.ino ds o.ino:=⟨d,Ar1 hd,by simpa using List.find?_some hd⟩;obtain⟨y,h1,h2,h3⟩:=FM koI hs hk;have e:y=d:=by rw[hd]at h2;injection h2 with h2;exact h2.symm
   rw[Ar3,← e];apply Aj5;intro j;rw[Al3]
   split
   ·rename_i hj
    subst hj
    split
    ·rw[Ai6,h1];rfl
    ·rename_i hl
     rw[Ai6,h1]
     have:=(B5.1 h1).1
     simp at hl;omega
   ·rfl
  ·rfl
 ·rfl
theorem sS {ds es:List Nd}(e:ds.map Nd.ino=es.map Nd.ino)(h:Cn B8 Nd.ino es):Cn B8 Nd.ino ds:=by
 unfold Cn at h⊢;have h1:(es.map Nd.ino).Pairwise λa b=>B8 a b<0:=Ao9.2 h
 rw[← e]at h1;exact Ao9.1 h1
theorem rA {ds es:List Nd}(e:ds.map Nd.ino=es.map Nd.ino)(i:Int):AT Nd.ino ds i↔AT Nd.ino es i:=by
 have a:∀l:List Nd,AT Nd.ino l i↔i∈l.map Nd.ino:=λl=>by unfold AT;simp[Aj7]
 rw[a,a,e]
theorem Yy {ds:List Nd}{o:OpM}(hs:Cn B8 Nd.ino ds){d:Nd}(h:d∈OA ds o):d∈ds∨(d.ino=o.ino∧∃e∈ds,e.ino=o.ino∧G5 o e=some (d.size,d.l)):=by
 unfold OA at h;split at h
 ·rename_i e he
  split at h
  ·rename_i c hc
   have e1:=Ar1 he;have e2:e.ino=o.ino:=by simpa using List.find?_some he
   rcases List.mem_or_eq_of_mem_set h with h | h
   ·exact .inl h
   ·exact .inr ⟨by rw[h];exact e2,e,e1,e2,by rw[h];exact hc⟩
  ·exact .inl h
 ·exact .inl h
theorem MayW.chg {ns:List Nm}{ds:List Nd}{o:OpM}(h:MayW ns ds)(hk:o.kind=2∨o.kind=3∨o.kind=4∨o.kind=5):MayW ns (OA ds o):=by
 have hi:=Zz (o:=o) h.sd;refine⟨h.len,h.nm,h.srt,h.inj,sS hi h.sd,λd hd=>?_,λi=>by rw[rA hi,h.ino]⟩;rcases Yy h.sd hd with hd | ⟨-,e,-,-,he⟩
 ·exact h.mc d hd
 ·exact qI hk he
theorem yC {ns:List Nm}{ds:List Nd}{s t:List UInt8}(h:MayW ns ds)(hk:AT Nm.name ns s)(hne:s≠t):
  (FD Bd Nm.name (Fa (Dn Bd Nm.name ns s) t) ⟨t,CD ns s⟩,Un (Dn Bd Nm.name ns s) ds t)=(FD Bd Nm.name (Dn Bd Nm.name (Fa ns t) s) ⟨t,CD (Fa ns t) s⟩,Un ns ds t):=by
 unfold Fa Un
 by_cases c:AT Nm.name ns t
 ·have c1:AT Nm.name (Dn Bd Nm.name ns s) t:=(M6 koN h.srt hk (Ak2 hne)).2 c
  rw[if_pos c1,if_pos c,if_pos c1,if_pos c,Z2 koN h.srt hk c hne,We h.srt hk c (Ak2 hne),We h.srt c hk hne]
 ·have c1:¬AT Nm.name (Dn Bd Nm.name ns s) t:=λhh=>c ((M6 koN h.srt hk (Ak2 hne)).1 hh)
  rw[if_neg c1,if_neg c,if_neg c1,if_neg c]
theorem MayW.remN {ns:List Nm}{ds:List Nd}(h:MayW ns ds)(t:List UInt8):MayW (Fa ns t) (Un ns ds t)∧¬AT Nm.name (Fa ns t) t:=by
 unfold Fa Un
 by_cases c:AT Nm.name ns t
 ·rw[if_pos c,if_pos c]
  refine⟨h.rem c,?_⟩;rintro⟨y,hy,e⟩;exact((HK koN h.srt c).1 hy).2 e
 ·rw[if_neg c,if_neg c];exact⟨h,c⟩
theorem rB {ns:List Nm}(hs:Cn Bd Nm.name ns){s t:List UInt8}(hne:s≠t):AT Nm.name (Fa ns t) s↔AT Nm.name ns s:=by
 unfold Fa
 split
 ·rename_i c;exact M6 koN hs c hne
 ·rfl
theorem Ri {ns:List Nm}{ds:List Nd}(h:MayW ns ds)(o:OpM):MayW (AG ns ds o).1 (AG ns ds o).2:=by
 unfold AG;rw[if_pos (OC.2 h)]
 split
 ·split
  ·rename_i hc;exact h.cre hc
  ·exact h
 ·split
  ·rename_i hk;exact h.chg hk
  ·split
   ·split
    ·rename_i hr
     obtain⟨h1,h2,h3⟩:=hr;rw[yC h h1 h3];obtain⟨g1,g2⟩:=h.remN o.to;exact g1.ren ((rB h.srt h3).2 h1) g2 h2
    ·exact h
   ·split
    ·exact(h.remN o.name).1
    ·exact h
theorem kY {ns:List Nm}{ds:List Nd}(h:MayW ns ds)(s:List UInt8):Qx ns ds s=CD ns s∧(SZ ns ds s↔AT Nm.name ns s):=by
 have hm:=OC.2 h;have hi:SZ ns ds s↔AT Nm.name ns s:=⟨λhh=>hh.2,λhh=>⟨hm,hh⟩⟩;refine⟨?_,hi⟩;unfold Qx
 by_cases c:SZ ns ds s
 ·rw[if_pos c]
 ·rw[if_neg c,rN (λhh=>c (hi.2 hh))]
theorem Ud {ns:List Nm}{ds:List Nd}(h:MayW ns ds){d:Nd}(hd:d∈ds):Fl ns ds d.ino=d∧Xa ns ds d.ino:=by
 have hg:Xa ns ds d.ino:=⟨OC.2 h,d,hd,rfl⟩;refine⟨?_,hg⟩;unfold Fl;rw[if_pos hg,aN koI h.sd hd];rfl
theorem mH {ns:List Nm}{ds:List Nd}(h:MayW ns ds):V8 ns ds=LD ds:=by unfold V8;rw[if_pos (OC.2 h)]
end
section
def old (N:Nat)(X:AH):AH:=List.replicate N none++X.drop N
abbrev As8:=@List.length_replicate
theorem lN {N:Nat}{X:AH}{o:Nat}{x:AObj}(h:(old N X)[o]?=some (some x)):N≤o∧X[o]?=some (some x):=by
 unfold old at h;rcases Ah2 o N with hlt | hge
 ·rw[Ag8 (by simpa using hlt),Ao3,if_pos hlt]at h
  cases h
 ·rw[Ah0 (by simpa using hge),As8,Ah6]at h
  rw[show N+(o - N)=o by omega]at h;exact⟨hge,h⟩
def Cfg.less (G:Cfg)(L:Nat→Prop):Cfg:={G with L:=L}
theorem HR.less {G:Cfg}{H:AH}(hr:HR G H)(L:Nat→Prop)(hL:∀b,L b→G.L b)(hl:∀(o:Nat) (x:AObj),H[o]?=some (some x)→L (G.μ o).1):HR (G.less L) H:=by
 have ht:Tr G (G.less L):=⟨Ah3 _,λ_ _=>rfl,λad vs hh=>hh.imp id λh=>⟨λhh=>h.1 (hh.imp (hL _) id),h.2⟩⟩;exact⟨hr.n,λo x ho=>OR.tr ht (hr.lt_n ho) rfl (hr.obj o x ho),hr.inj,hl,λb hb=>hr.lt b (hb.imp (hL _) id),λb hb=>hr.dis b (hL b hb)⟩
theorem HR.fewer {G:Cfg}{H H2:AH}(hr:HR G H)(hlen:H2.length=H.length)(h:∀(o:Nat) (x:AObj),H2[o]?=some (some x)→H[o]?=some (some x)):HR G H2:=
 ⟨by rw[hlen];exact hr.n,λo x ho=>hr.obj o x (h o x ho),λo o' x x' ho ho'=>hr.inj o o' x x' (h o x ho) (h o' x' ho'),λo x ho=>hr.live o x (h o x ho),hr.lt,hr.dis⟩
section
variable {P : Program}
theorem ACalls.fzNew {f:FuncId}{args:List AV}{H:AH}{R:AV→AH→Prop}{R':AV→Prop}(h:ACalls P f args H R)
  (hR:∀r H1,R r H1→H.length≤H1.length∧(∀o,o<H.length→H1[o]?=H[o]?)∧∃n r',NC (old H.length H1) n r=some r'∧R' r'):ACalls P f args H λr' H'=>R' r'∧H'=H:=by
 intro G vs hH hv;refine(h G vs hH hv).mono ?_;rintro e w' ⟨r,H1,G',v,rfl,rfl,hE,hx,hX,hq⟩;obtain⟨hlen,hpre,n,r',hf,hr'⟩:=hR r H1 hq
 have e1:H1=H++H1.drop H.length:=by
  apply Aj5;intro o;rcases Ah2 o H.length with hlt | hge
  ·rw[Ag8 hlt,hpre o hlt]
  ·rw[Ah0 hge,Ah6,show H.length+(o - H.length)=o by omega]
 have hX1:HR G' (H++H1.drop H.length):=by rw[← e1];exact hX
 have hF:HR {G' with n:=H.length} H:=hX1.forget λo x ho=>by
  have:=(hH.obj o x ho).bel
  rwa[hH.n]at this
 let L2:Nat→Prop:=λb=>G.L b∧G'.L b∧∀(o:Nat) (x:AObj),H.length≤o→H1[o]?=some (some x)→b≠(G'.μ o).1
 have hF2:=hF.less L2 (λb hb=>hb.2.1) (λo x ho=>by
  have hlt:=(B5.1 ho).1;have ho1:H1[o]?=some (some x):=by rw[hpre o hlt];exact ho
  have hμ:G'.μ o=G.μ o:=hE.μ o (by rw[hH.n];exact hlt);refine⟨?_,hX.live o x ho1,λo' x' hge ho' he=>?_⟩
  ·show G.L (G'.μ o).1
   rw[hμ];exact hH.live o x ho
  ·have:=hX.inj o o' x x' ho1 ho' he
   omega)
 have hE2:Evo G (Cfg.less {G' with n:=H.length} L2):=⟨hE.os,hE.tape,hE.output,hE.size,λk hk hL=>⟨(hE.keep k hk hL).1,λhh=>hL hh.1⟩,by show G.n≤H.length;rw[hH.n];exact Ah3 _,λo ho=>hE.μ o ho,hE.K⟩;have hK:HR G' (old H.length H1):=hX.fewer (by unfold old;simp;omega) λo x ho=>(lN ho).2
 refine⟨r',H,Cfg.less {G' with n:=H.length} L2,v,rfl,rfl,hE2,?_,hF2,hr',rfl⟩;refine Yh (G':=G') (G'':=Cfg.less {G' with n:=H.length} L2) rfl (λb hn hh=>hn (hh.imp (λh=>h.2.1) id)) hK ?_ n r v r' hx hf;intro o x ho hh;obtain⟨h1,h2⟩:=lN ho;rcases hh with hh | hh
 ·exact hh.2.2 o x h1 h2 rfl
 ·exact hX.dis _ (hX.live o x h2) hh
end
end
end Go.Proofs.YtadghlcfbajamaaGreat.Av
section
namespace Go.Proofs.YtadghlcfbajamaaGreat.Av
open Go Go.Proofs.Tryz
def OT:FuncId→Bool:=gU [64,96,41,33,31,82,102,44,101,86,103,104,105,35,129,131,36,87,69,138,88,140,95,139,173,144,178,29,10,38]
def ZS (a0:AV)(H:AH)(K:KT):Prop:=
 bO (amm Wb [a0,(I 0)]) λv0=>
 bO (amm cZ [v0,(I 4096)]) λv1=>
 bO (E5 [(I 0),Ac,Ac,Ac,Ac,Ac,(I 0),(I 0),(B false)] [(0,1,v1),(7,1,(I (-1)))]) λv2=>
 bH (A9 H v2) λv3 H4=>
 K v3 H4
theorem cK {a0:AV}{H:AH}{K:KT}(h:ZS a0 H K):Co 11 [a0] H K:=
 fok A8 OT B6 func11 h
def QB (a0:AV)(H:AH)(K:KT):Prop:=
 bH (A9 H (.agg [Ac,Ac])) λv0 H1=>
 bO (Ae a0) λv2=>
 bO (Aa 1 v2) λv3=>
 bO (Am true 2 H1 v3) λv4=>
 bP (PCall prog 64 [v4] H1) λv5=>
 bS (AJ 2 H1 v0 v5) λH6=>
 bO (Am true 2 H6 v0) λv7=>
 K v7 H6
theorem Uw {a0:AV}{H:AH}{K:KT}(h:QB a0 H K):Co 21 [a0] H K:=
 fok A8 OT B6 func21 h
def PI (a0:AV)(H:AH)(K:KT):Prop:=
 bH (A9 H (.agg [Ac,Ac])) λv0 H1=>
 bO (Ae a0) λv2=>
 bO (Aa 3 v2) λv3=>
 bO (Am true 2 H1 v3) λv4=>
 bP (PCall prog 64 [v4] H1) λv5=>
 bS (AJ 2 H1 v0 v5) λH6=>
 bO (Am true 2 H6 v0) λv7=>
 K v7 H6
theorem Tu {a0:AV}{H:AH}{K:KT}(h:PI a0 H K):Co 42 [a0] H K:=
 fok A8 OT B6 func42 h
def LU (a0:AV)(H:AH)(K:KT):Prop:=
 bO (Ae a0) λv0=>
 bO (Aa 5 v0) λv1=>
 bO (Am false 1 H v1) λv2=>
 bO (AY v2) λv3=>
 K v3 H
theorem Qk {a0:AV}{H:AH}{K:KT}(h:LU a0 H K):Co 43 [a0] H K:=
 fok A8 OT B6 func43 h
def PG (a0:AV)(H:AH)(K:KT):Prop:=
 bO (Ae a0) λv0=>
 bO (Aa 0 v0) λv1=>
 bO (Am false 1 H v1) λv2=>
 bO (Ae a0) λv3=>
 bO (Aa 1 v3) λv4=>
 bO (Am true 2 H v4) λv5=>
 bP (BPure prog 31 [v5]) λv6=>
 bO (Ar .sub v2 v6) λv7=>
 bO (amm Wb [(I 0),v7]) λv8=>
 K v8 H
theorem Ts {a0:AV}{H:AH}{K:KT}(h:PG a0 H K):Co 32 [a0] H K:=
 fok A8 OT B6 func32 h
def QC (a0:AV)(H:AH)(K:KT):Prop:=
 bO (Ae a0) λv0=>
 bO (Aa 8 v0) λv1=>
 bO (Am false 1 H v1) λv2=>
 K v2 H
theorem Ux {a0:AV}{H:AH}{K:KT}(h:QC a0 H K):Co 27 [a0] H K:=
 fok A8 OT B6 func27 h
def QA (a0 a1:AV)(H:AH)(K:KT):Prop:=
 bO (amm Wb [a1,(I (-1))]) λv0=>
 bO (Ae a0) λv1=>
 bO (Aa 7 v1) λv2=>
 bS (AJ 1 H v2 v0) λH3=>
 K (.tup []) H3
theorem Uv {a0 a1:AV}{H:AH}{K:KT}(h:QA a0 a1 H K):Co 15 [a0,a1] H K:=
 fok A8 OT B6 func15 h
def J9:Nat→Option (List Bool):=CN [(5,mk 53 0 [0,1,9,10,11]),(2,mk 53 0 [0,1,9,10,11])]
def E4 (p:List Bool)(n:Nat):List AV→AH→Kf→Prop:=AL prog A8 OT A1 A1 J9 (sub p (AP f40)) n
def Dm (R2:RT)(x0 x1 x9 x10 x11:AV)(H:AH)(K:KT):Prop:=jn (mk 53 0 [0,1,9,10,11]) (E4 [fF,tT,fF,fF,tT,tT,tT] 8) [x0,x1,x9,x10,x11] H (TO (mk 53 0 [0,1,9,10,11]) R2 (Be 0 (Bb (E4 [tT] 8) (Ba prog f40.results.toList K))))
def J8 (x0 x1 x9 x10 x11:AV)(H:AH)(K:KT):Prop:=lp (mk 53 0 [0,1,9,10,11]) (E4 [fF,tT,fF,fF] 3) [x0,x1,x9,x10,x11] H (Be 0 (Bb (E4 [tT] 8) (Ba prog f40.results.toList K)))
def EZ (R2:RT)(x0 x1 x9 x10 x11:AV)(H:AH)(K:KT):Prop:=
 bO (Ar .add x11 (I 1)) λv0=>
 R2 [x0,x1,x9,x10,v0] H
theorem Hw (R2:RT)(x0 x1 x9 x10 x11:AV)(H:AH)(K:KT):Dm R2 x0 x1 x9 x10 x11 H K=EZ R2 x0 x1 x9 x10 x11 H K:=(B3 _ _ _ _ _).trans (by kernel_rfl)
def Io (R2:RT)(x0 x1 x9 x10 x11:AV)(H:AH)(K:KT):Prop:=
 bO (Ar .lss x11 x10) λv0=>
 bB v0 λt1=>bI t1 (
 bO (Bq 8 x9 x11) λv2=>
 bO (Am true 8 H v2) λv3=>
 bH (A9 H (.agg [(I 0),(I 0),(I 0),(I 0),(B false),(.lit (.string ⟨#[]⟩)),(.lit (.string ⟨#[]⟩)),Ac])) λv4 H5=>
 bS (AJ 8 H5 v4 v3) λH6=>
 bO (AY x1) λv7=>
 bO (Ar .lss x11 v7) λv8=>
 bG v8 true λw9=>
 gO w9 (some x1) λv10=>
 bG v8 true λw11=>
 gO w11 (some x11) λv12=>
 bG v8 true λw13=>
 gO w13 (Bq 1 v10 v12) λv14=>
 bG v8 true λw15=>
 gO w15 (Am false 1 H6 v14) λv16=>
 bO (Ay v8 v16 (B false)) λv17=>
 bB v17 λt18=>bI t18 (
 bO (Ae x0) λv19=>
 bO (Aa 3 v19) λv20=>
 bO (Am true 2 H6 v20) λv21=>
 bO (Am true 8 H6 v4) λv22=>
 bP (BPure prog 96 [v21,v22]) λv23=>
 bO (Ae x0) λv24=>
 bO (Aa 3 v24) λv25=>
 bS (AJ 2 H6 v25 v23) λH26=>
 Dm R2 x0 x1 x9 x10 x11 H26 K)
 (Dm R2 x0 x1 x9 x10 x11 H6 K))
 (bO (Ae x0) λv27=>
 bO (Aa 3 v27) λv28=>
 bO (Am true 2 H v28) λv29=>
 bP (PCall prog 64 [v29] H) λv30=>
 bO (Ae x0) λv31=>
 bO (Aa 1 v31) λv32=>
 bS (AJ 2 H v32 v30) λH33=>
 bO (Ae x0) λv34=>
 bO (Aa 5 v34) λv35=>
 bS (AJ 1 H33 v35 Ac) λH36=>
 bO (Ae x0) λv37=>
 bO (Aa 8 v37) λv38=>
 bS (AJ 1 H36 v38 (B false)) λH39=>
 bO (Ae x0) λv40=>
 bO (Aa 7 v40) λv41=>
 bS (AJ 1 H39 v41 (I (-1))) λH42=>
 K (.tup []) H42)
theorem Mn {K:KT}:oW (λR x0 x1 x9 x10 x11 H=>Io R x0 x1 x9 x10 x11 H K) (λx0 x1 x9 x10 x11 H=>J8 x0 x1 x9 x10 x11 H K):=Yx (A2 _ _) (λ_ _ _ _ _ _ _=>by kernel_rfl)
def LV (a0 a1:AV)(H:AH)(K:KT):Prop:=
 bO (Ae a0) λv0=>
 bO (Aa 5 v0) λv1=>
 bO (Am false 1 H v1) λv2=>
 bO (AY v2) λv3=>
 J8 a0 a1 v2 v3 (I 0) H K
theorem Ql {a0 a1:AV}{H:AH}{K:KT}(h:LV a0 a1 H K):Co 40 [a0,a1] H K:=
 fok A8 OT J9 func40 h
def LZ:Nat→Option (List Bool):=CN [(1,mk 31 0 [])]
def Uy (p:List Bool)(n:Nat):List AV→AH→Kf→Prop:=AL prog A8 OT A1 A1 LZ (sub p (AP f94)) n
def HE (H:AH)(K:KT):Prop:=jn (mk 31 0 []) (Uy [tT,tT] 6) [] H (Ba prog f94.results.toList K)
def Gh (H:AH)(K:KT):Prop:=
 K (B true) H
theorem JB (H:AH)(K:KT):HE H K=Gh H K:=(B3 _ _ _ _ _).trans (by kernel_rfl)
def PN (a0:AV)(H:AH)(K:KT):Prop:=
 bO (Ae a0) λv0=>
 bO (Aa 8 v0) λv1=>
 bO (Am false 1 H v1) λv2=>
 bG v2 false λw3=>
 gO w3 (some a0) λv4=>
 bG v2 false λw5=>
 gO w5 (Ae v4) λv6=>
 bG v2 false λw7=>
 gO w7 (Aa 7 v6) λv8=>
 bG v2 false λw9=>
 gO w9 (Am false 1 H v8) λv10=>
 bG v2 false λw11=>
 gO w11 (Ar .eql v10 (I 0)) λv12=>
 bO (Ay v2 (B true) v12) λv13=>
 bB v13 λt14=>bI t14 (
 bO (Ae a0) λv15=>
 bO (Aa 8 v15) λv16=>
 bS (AJ 1 H v16 (B true)) λH17=>
 K (B false) H17)
 (bO (Ae a0) λv18=>
 bO (Aa 7 v18) λv19=>
 bO (Am false 1 H v19) λv20=>
 bO (Ar .gtr v20 (I 0)) λv21=>
 bB v21 λt22=>bI t22 (
 bO (Ae a0) λv23=>
 bO (Aa 7 v23) λv24=>
 bO (Am false 1 H v24) λv25=>
 bO (Ar .sub v25 (I 1)) λv26=>
 bO (Ae a0) λv27=>
 bO (Aa 7 v27) λv28=>
 bS (AJ 1 H v28 v26) λH29=>
 HE H29 K)
 (HE H K))
theorem Ty {a0:AV}{H:AH}{K:KT}(h:PN a0 H K):Co 94 [a0] H K:=
 fok A8 OT LZ func94 h
def Sz (a0 a1:AV)(H:AH)(K:KT):Prop:=
 bH (A9 H a1) λv0 H1=>
 bC (BCall prog 94 [a0] H1) λv2 H3=>
 bO (E6 .not v2) λv4=>
 bB v4 λt5=>bI t5 (
 K (I 8) H3)
 (bO (Ae a0) λv6=>
 bO (Aa 1 v6) λv7=>
 bO (Am true 2 H3 v7) λv8=>
 bO (Am true 8 H3 v0) λv9=>
 bP (BPure prog 96 [v8,v9]) λv10=>
 bO (Ae a0) λv11=>
 bO (Aa 1 v11) λv12=>
 bS (AJ 2 H3 v12 v10) λH13=>
 bO (Ae a0) λv14=>
 bO (Aa 5 v14) λv15=>
 bO (Am false 1 H13 v15) λv16=>
 bO (Am true 8 H13 v0) λv17=>
 bO (U3 8 1 (BI [(I 0),(I 0),(I 0),(I 0),(B false),(.lit (.string ⟨#[]⟩)),(.lit (.string ⟨#[]⟩)),Ac] 1) [(0,8,v17)]) λv18=>
 bH (HG 8 96 H13 v16 v18) λv19 H20=>
 bO (Ae a0) λv21=>
 bO (Aa 5 v21) λv22=>
 bS (AJ 1 H20 v22 v19) λH23=>
 K (I 0) H23)
theorem V6 {a0 a1:AV}{H:AH}{K:KT}(h:Sz a0 a1 H K):Co 59 [a0,a1] H K:=
 fok A8 OT B6 func59 h
def Fj (a0 a1:AV)(H:AH)(K:KT):Prop:=
 bH (A9 H (.agg [(I 0),Ac])) λv0 H1=>
 bO (Ae a0) λv2=>
 bO (Aa 8 v2) λv3=>
 bO (Am false 1 H1 v3) λv4=>
 bB v4 λt5=>bI t5 (
 bO (E5 [(I 0),Ac] []) λv6=>
 bS (AJ 2 H1 v0 v6) λH7=>
 bO (Am true 2 H7 v0) λv8=>
 K (.tup [v8,(I 8)]) H7)
 (bO (Ae a0) λv9=>
 bO (Aa 1 v9) λv10=>
 bO (Am true 2 H1 v10) λv11=>
 bP (PCall prog 33 [v11,a1] H1) λv12=>
 bO (Ai v12 0) λv13=>
 bO (Ai v12 1) λv14=>
 bH (A9 H1 (.agg [(I 0),Ac])) λv15 H16=>
 bS (AJ 2 H16 v15 v13) λH17=>
 bO (E6 .not v14) λv18=>
 bB v18 λt19=>bI t19 (
 bO (E5 [(I 0),Ac] []) λv20=>
 bS (AJ 2 H17 v0 v20) λH21=>
 bO (Am true 2 H21 v0) λv22=>
 K (.tup [v22,(I 3)]) H21)
 (bO (Am true 2 H17 v15) λv23=>
 bS (AJ 2 H17 v0 v23) λH24=>
 bO (Am true 2 H24 v0) λv25=>
 K (.tup [v25,(I 0)]) H24))
theorem FJ {a0 a1:AV}{H:AH}{K:KT}(h:Fj a0 a1 H K):Co 85 [a0,a1] H K:=
 fok A8 OT B6 func85 h
def PO (a0 a1:AV)(H:AH)(K:KT):Prop:=
 bO (Ae a0) λv0=>
 bO (Aa 8 v0) λv1=>
 bO (Am false 1 H v1) λv2=>
 bB v2 λt3=>bI t3 (
 K (.tup [(I 0),(I 8)]) H)
 (bP (PCall prog 102 [a1] H) λv4=>
 bO (E6 .not v4) λv5=>
 bB v5 λt6=>bI t6 (
 K (.tup [(I 0),(I 5)]) H)
 (bO (Ae a0) λv7=>
 bO (Aa 1 v7) λv8=>
 bO (Am true 2 H v8) λv9=>
 bP (PCall prog 41 [v9,a1] H) λv10=>
 bO (Ai v10 0) λv11=>
 bO (Ai v10 1) λv12=>
 bO (E6 .not v12) λv13=>
 bB v13 λt14=>bI t14 (
 K (.tup [(I 0),(I 3)]) H)
 (K (.tup [v11,(I 0)]) H)))
theorem Tz {a0 a1:AV}{H:AH}{K:KT}(h:PO a0 a1 H K):Co 58 [a0,a1] H K:=
 fok A8 OT B6 func58 h
def PJ (a0 a1 a2:AV)(H:AH)(K:KT):Prop:=
 bC (BCall prog 58 [a0,a1] H) λv0 H1=>
 bO (Ai v0 0) λv2=>
 bO (Ai v0 1) λv3=>
 bO (Ar .neq v3 (I 3)) λv4=>
 bG v4 false λw5=>
 gO w5 (some a2) λv6=>
 bG v4 false λw7=>
 gO w7 (E6 .not v6) λv8=>
 bO (Ay v4 (B true) v8) λv9=>
 bB v9 λt10=>bI t10 (
 K (.tup [v2,v3]) H1)
 (bO (Ae a0) λv11=>
 bO (Aa 1 v11) λv12=>
 bO (Aa 0 v12) λv13=>
 bO (Am false 1 H1 v13) λv14=>
 bO (AY v14) λv15=>
 bO (Ar .geq v15 (I 16)) λv16=>
 bB v16 λt17=>bI t17 (
 K (.tup [(I 0),(I 4)]) H1)
 (bO (Ae a0) λv18=>
 bO (Aa 6 v18) λv19=>
 bO (Am false 1 H1 v19) λv20=>
 bO (Ar .add v20 (I 1)) λv21=>
 bO (E5 [(I 0),(I 0),(I 0),(I 0),(B false),(.lit (.string ⟨#[]⟩)),(.lit (.string ⟨#[]⟩)),Ac] [(0,1,(I 1)),(5,1,a1),(1,1,v21)]) λv22=>
 bC (BCall prog 59 [a0,v22] H1) λv23 H24=>
 bO (Ar .neq v23 (I 0)) λv25=>
 bB v25 λt26=>bI t26 (
 K (.tup [(I 0),v23]) H24)
 (bO (Ae a0) λv27=>
 bO (Aa 6 v27) λv28=>
 bO (Am false 1 H24 v28) λv29=>
 bO (Ar .add v29 (I 1)) λv30=>
 bO (Ae a0) λv31=>
 bO (Aa 6 v31) λv32=>
 bS (AJ 1 H24 v32 v30) λH33=>
 bO (Ae a0) λv34=>
 bO (Aa 6 v34) λv35=>
 bO (Am false 1 H33 v35) λv36=>
 K (.tup [v36,(I 0)]) H33)))
theorem Tv {a0 a1 a2:AV}{H:AH}{K:KT}(h:PJ a0 a1 a2 H K):Co 13 [a0,a1,a2] H K:=
 fok A8 OT B6 func13 h
def PK (a0 a1:AV)(H:AH)(K:KT):Prop:=
 bC (BCall prog 85 [a0,a1] H) λv0 H1=>
 bO (Ai v0 0) λv2=>
 bO (Ai v0 1) λv3=>
 bH (A9 H1 (.agg [(I 0),Ac])) λv4 H5=>
 bS (AJ 2 H5 v4 v2) λH6=>
 bO (Aa 0 v4) λv7=>
 bO (Am false 1 H6 v7) λv8=>
 K (.tup [v8,v3]) H6
theorem Tw {a0 a1:AV}{H:AH}{K:KT}(h:PK a0 a1 H K):Co 46 [a0,a1] H K:=
 fok A8 OT B6 func46 h
def He (a0 a1 a2 a3:AV)(H:AH)(K:KT):Prop:=
 bC (BCall prog 85 [a0,a1] H) λv0 H1=>
 bO (Ai v0 0) λv2=>
 bO (Ai v0 1) λv3=>
 bH (A9 H1 (.agg [(I 0),Ac])) λv4 H5=>
 bS (AJ 2 H5 v4 v2) λH6=>
 bO (Ar .neq v3 (I 0)) λv7=>
 bB v7 λt8=>bI t8 (
 K (.tup [Ac,v3]) H6)
 (bO (Ar .lss a2 (I 0)) λv9=>
 bG v9 false λw10=>
 gO w10 (some a3) λv11=>
 bG v9 false λw12=>
 gO w12 (Ar .lss v11 (I 0)) λv13=>
 bO (Ay v9 (B true) v13) λv14=>
 bG v14 false λw15=>
 gO w15 (some a3) λv16=>
 bG v14 false λw17=>
 gO w17 (Ar .gtr v16 (I 4096)) λv18=>
 bO (Ay v14 (B true) v18) λv19=>
 bB v19 λt20=>bI t20 (
 K (.tup [Ac,(I 5)]) H6)
 (bO (Am true 2 H6 v4) λv21=>
 bP (PCall prog 101 [v21,a2,a3] H6) λv22=>
 K (.tup [v22,(I 0)]) H6))
theorem HD {a0 a1 a2 a3:AV}{H:AH}{K:KT}(h:He a0 a1 a2 a3 H K):Co 45 [a0,a1,a2,a3] H K:=
 fok A8 OT B6 func45 h
def Ly:Dh:=VT [(12,[(3,some 11)])]
def Lz:Nat→Option (List Bool):=CN [(9,mk 79 0 [0,1,2,3,10,36,37,38])]
def LY (p:List Bool)(n:Nat):List AV→AH→Kf→Prop:=AL prog Ly OT A1 A1 Lz (sub p (AP f34)) n
def Lx (x0 x1 x2 x3 x10 x36 x37 x38:AV)(H:AH)(K:KT):Prop:=lp (mk 79 0 [0,1,2,3,10,36,37,38]) (LY [tT,tT,tT,fF,tT,fF,fF] 10) [x0,x1,x2,x3,x10,x36,x37,x38] H (Be 1 (Bb (LY [tT,tT,tT,tT] 21) (Ba prog f34.results.toList K)))
def JA (R9:RT)(x0 x1 x2 x3 x10 x36 x37 x38:AV)(H:AH)(K:KT):Prop:=
 bO (Ar .lss x38 x37) λv0=>
 bB v0 λt1=>bI t1 (
 bO (Bq 2 x36 x38) λv2=>
 bO (Am true 2 H v2) λv3=>
 bH (A9 H (.agg [(I 0),(I 0)])) λv4 H5=>
 bS (AJ 2 H5 v4 v3) λH6=>
 bO (Aa 0 v4) λv7=>
 bO (Am false 1 H6 v7) λv8=>
 bO (Ar .sub v8 x2) λv9=>
 bO (Am true 2 H6 x10) λv10=>
 bO (Aa 0 v4) λv11=>
 bO (Am false 1 H6 v11) λv12=>
 bO (Ar .quo v12 (I 8)) λv13=>
 bP (PCall prog 88 [v10,v13] H6) λv14=>
 bO (E6 .not v14) λv15=>
 bG v15 true λw16=>
 gO w16 (some x0) λv17=>
 bG v15 true λw18=>
 gC w18 (BCall prog 32 [v17] H6) H6 λv19 H20=>
 bG v15 true λw21=>
 gO w21 (Ar .eql v19 (I 0)) λv22=>
 bO (Ay v15 v22 (B false)) λv23=>
 bB v23 λt24=>bI t24 (
 K (.tup [v9,(I 4)]) H20)
 (bO (Aa 0 v4) λv25=>
 bO (Am false 1 H20 v25) λv26=>
 bO (Aa 1 v4) λv27=>
 bO (Am false 1 H20 v27) λv28=>
 bO (Ar .add v9 v28) λv29=>
 bO (Bj 1 x3 (some v9) (some v29) none) λv30=>
 bC (BCall prog 89 [v30] H20) λv31 H32=>
 bO (E5 [(I 0),(I 0),(I 0),(I 0),(B false),(.lit (.string ⟨#[]⟩)),(.lit (.string ⟨#[]⟩)),Ac] [(0,1,(I 2)),(1,1,x1),(2,1,v26),(7,1,v31)]) λv33=>
 bC (BCall prog 59 [x0,v33] H32) λv34 H35=>
(Am false 1 H32 v25=some v26)∧
 bO (Ar .neq v34 (I 0)) λv36=>
 bB v36 λt37=>bI t37 (
 K (.tup [v9,v34]) H35)
 (bO (Ar .add x38 (I 1)) λv38=>
 R9 [x0,x1,x2,x3,x10,x36,x37,v38] H35)))
 (bO (AY x3) λv39=>
 K (.tup [v39,(I 0)]) H)
theorem NN {K:KT}:RL8 (λR x0 x1 x2 x3 x10 x36 x37 x38 H=>JA R x0 x1 x2 x3 x10 x36 x37 x38 H K) (λx0 x1 x2 x3 x10 x36 x37 x38 H=>Lx x0 x1 x2 x3 x10 x36 x37 x38 H K):=zdggZ (A2 _ _) (λ_ _ _ _ _ _ _ _ _ _=>by kernel_rfl)
def O0 (a0 a1 a2 a3:AV)(H:AH)(K:KT):Prop:=
 bC (BCall prog 85 [a0,a1] H) λv0 H1=>
 bO (Ai v0 0) λv2=>
 bO (Ai v0 1) λv3=>
 bH (A9 H1 (.agg [(I 0),Ac])) λv4 H5=>
 bS (AJ 2 H5 v4 v2) λH6=>
 bO (Ar .neq v3 (I 0)) λv7=>
 bB v7 λt8=>bI t8 (
 K (.tup [(I 0),v3]) H6)
 (bO (AY a3) λv9=>
 bP (PCall prog 86 [a2,v9] H6) λv10=>
 bO (E6 .not v10) λv11=>
 bB v11 λt12=>bI t12 (
 K (.tup [(I 0),(I 5)]) H6)
 (bO (AY a3) λv13=>
 bO (E5 [(I 0),(I 0)] [(0,1,a2),(1,1,v13)]) λv14=>
 bP (PCall prog 87 [v14,(I 8)] H6) λv15=>
 bO (AY v15) λv16=>
 Lx a0 a1 a2 a3 v4 v15 v16 (I 0) H6 K))
theorem Sy {a0 a1 a2 a3:AV}{H:AH}{K:KT}(h:O0 a0 a1 a2 a3 H K):Co 34 [a0,a1,a2,a3] H K:=
 fok Ly OT Lz func34 h
def Lw (a0 a1 a2:AV)(H:AH)(K:KT):Prop:=
 bC (BCall prog 85 [a0,a1] H) λv0 H1=>
 bO (Ai v0 0) λv2=>
 bO (Ai v0 1) λv3=>
 bH (A9 H1 (.agg [(I 0),Ac])) λv4 H5=>
 bS (AJ 2 H5 v4 v2) λH6=>
 bO (Ar .neq v3 (I 0)) λv7=>
 bB v7 λt8=>bI t8 (
 K v3 H6)
 (bO (Am true 2 H6 v4) λv9=>
 bP (PCall prog 103 [v9,a2] H6) λv10=>
 bO (Ai v10 0) λv11=>
 bO (Ai v10 1) λv12=>
 bH (A9 H6 (.agg [(I 0),Ac])) λv13 H14=>
 bS (AJ 2 H14 v13 v11) λH15=>
 bO (E6 .not v12) λv16=>
 bB v16 λt17=>bI t17 (
 K (I 5) H15)
 (bO (E5 [(I 0),(I 0),(I 0),(I 0),(B false),(.lit (.string ⟨#[]⟩)),(.lit (.string ⟨#[]⟩)),Ac] [(0,1,(I 3)),(1,1,a1),(3,1,a2)]) λv18=>
 bC (BCall prog 59 [a0,v18] H15) λv19 H20=>
 K v19 H20))
theorem PM {a0 a1 a2:AV}{H:AH}{K:KT}(h:Lw a0 a1 a2 H K):Co 49 [a0,a1,a2] H K:=
 fok A8 OT B6 func49 h
def PD:Dh:=VT [(7,[(1,some 8),(2,some 8),(4,some 8),(5,some 8)])]
def Lv (a0 a1 a2 a3 a4:AV)(H:AH)(K:KT):Prop:=
 bC (BCall prog 85 [a0,a1] H) λv0 H1=>
 bO (Ai v0 0) λv2=>
 bO (Ai v0 1) λv3=>
 bH (A9 H1 (.agg [(I 0),Ac])) λv4 H5=>
 bS (AJ 2 H5 v4 v2) λH6=>
 bO (Ar .neq v3 (I 0)) λv7=>
 bB v7 λt8=>bI t8 (
 K v3 H6)
 (bO (Am true 2 H6 v4) λv9=>
 bP (PCall prog 104 [v9,a2,a3,a4] H6) λv10=>
 bO (Ai v10 0) λv11=>
 bO (Ai v10 1) λv12=>
 bH (A9 H6 (.agg [(I 0),Ac])) λv13 H14=>
 bS (AJ 2 H14 v13 v11) λH15=>
 bO (E6 .not v12) λv16=>
 bB v16 λt17=>bI t17 (
 K (I 5) H15)
 (bO (Aa 1 v13) λv18=>
 bO (Am false 1 H15 v18) λv19=>
 bO (AY v19) λv20=>
 bO (Aa 1 v4) λv21=>
 bO (Am false 1 H15 v21) λv22=>
 bO (AY v22) λv23=>
 bO (Ar .sub v20 v23) λv24=>
 bC (BCall prog 32 [a0] H15) λv25 H26=>
 bO (Ar .gtr v24 v25) λv27=>
(Am false 1 H26 v18=some v19)∧
(AY v19=some v20)∧
(Am false 1 H26 v21=some v22)∧
(AY v22=some v23)∧
 bB v27 λt28=>bI t28 (
 K (I 4) H26)
 (bO (E5 [(I 0),(I 0),(I 0),(I 0),(B false),(.lit (.string ⟨#[]⟩)),(.lit (.string ⟨#[]⟩)),Ac] [(0,1,(I 4)),(1,1,a1),(2,1,a2),(3,1,a3),(4,1,a4)]) λv29=>
 bC (BCall prog 59 [a0,v29] H26) λv30 H31=>
 K v30 H31)))
theorem PE {a0 a1 a2 a3 a4:AV}{H:AH}{K:KT}(h:Lv a0 a1 a2 a3 a4 H K):Co 50 [a0,a1,a2,a3,a4] H K:=
 fok PD OT B6 func50 h
def Oz (a0 a1 a2 a3:AV)(H:AH)(K:KT):Prop:=
 bC (BCall prog 85 [a0,a1] H) λv0 H1=>
 bO (Ai v0 0) λv2=>
 bO (Ai v0 1) λv3=>
 bH (A9 H1 (.agg [(I 0),Ac])) λv4 H5=>
 bS (AJ 2 H5 v4 v2) λH6=>
 bO (Ar .neq v3 (I 0)) λv7=>
 bB v7 λt8=>bI t8 (
 K v3 H6)
 (bO (Am true 2 H6 v4) λv9=>
 bP (PCall prog 105 [v9,a2,a3] H6) λv10=>
 bO (Ai v10 0) λv11=>
 bO (Ai v10 1) λv12=>
 bH (A9 H6 (.agg [(I 0),Ac])) λv13 H14=>
 bS (AJ 2 H14 v13 v11) λH15=>
 bO (E6 .not v12) λv16=>
 bB v16 λt17=>bI t17 (
 K (I 5) H15)
 (bO (E5 [(I 0),(I 0),(I 0),(I 0),(B false),(.lit (.string ⟨#[]⟩)),(.lit (.string ⟨#[]⟩)),Ac] [(0,1,(I 5)),(1,1,a1),(2,1,a2),(3,1,a3)]) λv18=>
 bC (BCall prog 59 [a0,v18] H15) λv19 H20=>
 K v19 H20))
theorem Sx {a0 a1 a2 a3:AV}{H:AH}{K:KT}(h:Oz a0 a1 a2 a3 H K):Co 51 [a0,a1,a2,a3] H K:=
 fok A8 OT B6 func51 h
def N9 (a0 a1 a2:AV)(H:AH)(K:KT):Prop:=
 bO (Ae a0) λv0=>
 bO (Aa 8 v0) λv1=>
 bO (Am false 1 H v1) λv2=>
 bO (E6 .not v2) λv3=>
 bG v3 true λw4=>
 gO w4 (some a2) λv5=>
 bG v3 true λw6=>
 gP w6 (PCall prog 102 [v5] H) λv7=>
 bG v3 true λw8=>
 gO w8 (E6 .not v7) λv9=>
 bO (Ay v3 v9 (B false)) λv10=>
 bB v10 λt11=>bI t11 (
 K (I 5) H)
 (bC (BCall prog 58 [a0,a1] H) λv12 H13=>
 bO (Ai v12 0) λv14=>
 bO (Ai v12 1) λv15=>
 bO (Ar .neq v15 (I 0)) λv16=>
 bG v16 false λw17=>
 gO w17 (some a1) λv18=>
 bG v16 false λw19=>
 gO w19 (some a2) λv20=>
 bG v16 false λw21=>
 gO w21 (Xq .eql v18 v20) λv22=>
 bO (Ay v16 (B true) v22) λv23=>
 bB v23 λt24=>bI t24 (
 K v15 H13)
 (bO (E5 [(I 0),(I 0),(I 0),(I 0),(B false),(.lit (.string ⟨#[]⟩)),(.lit (.string ⟨#[]⟩)),Ac] [(0,1,(I 6)),(5,1,a1),(6,1,a2)]) λv25=>
 bC (BCall prog 59 [a0,v25] H13) λv26 H27=>
 K v26 H27))
theorem Rc {a0 a1 a2:AV}{H:AH}{K:KT}(h:N9 a0 a1 a2 H K):Co 48 [a0,a1,a2] H K:=
 fok A8 OT B6 func48 h
def N8 (a0 a1:AV)(H:AH)(K:KT):Prop:=
 bC (BCall prog 58 [a0,a1] H) λv0 H1=>
 bO (Ai v0 0) λv2=>
 bO (Ai v0 1) λv3=>
 bO (Ar .neq v3 (I 0)) λv4=>
 bB v4 λt5=>bI t5 (
 K v3 H1)
 (bO (E5 [(I 0),(I 0),(I 0),(I 0),(B false),(.lit (.string ⟨#[]⟩)),(.lit (.string ⟨#[]⟩)),Ac] [(0,1,(I 7)),(5,1,a1)]) λv6=>
 bC (BCall prog 59 [a0,v6] H1) λv7 H8=>
 K v7 H8)
theorem QZ {a0 a1:AV}{H:AH}{K:KT}(h:N8 a0 a1 H K):Co 47 [a0,a1] H K:=
 fok A8 OT B6 func47 h
def LX:Nat→Option (List Bool):=CN [(10,mk 41 0 [0,1,5,14,15,16]),(7,mk 41 0 [0,1,5,14,15,16])]
def FI (p:List Bool)(n:Nat):List AV→AH→Kf→Prop:=AL prog A8 OT A1 A1 LX (sub p (AP f39)) n
def GU (R7:RT)(x0 x1 x5 x14 x15 x16:AV)(H:AH)(K:KT):Prop:=jn (mk 41 0 [0,1,5,14,15,16]) (FI [tT,tT,tT,fF,tT,fF,fF,tT,tT,tT] 13) [x0,x1,x5,x14,x15,x16] H (TO (mk 41 0 [0,1,5,14,15,16]) R7 (Be 0 (Bb (FI [tT,tT,tT,tT] 13) (Ba prog f39.results.toList K))))
def LW (x0 x1 x5 x14 x15 x16:AV)(H:AH)(K:KT):Prop:=lp (mk 41 0 [0,1,5,14,15,16]) (FI [tT,tT,tT,fF,tT,fF,fF] 8) [x0,x1,x5,x14,x15,x16] H (Be 0 (Bb (FI [tT,tT,tT,tT] 13) (Ba prog f39.results.toList K)))
def FH (R7:RT)(x0 x1 x5 x14 x15 x16:AV)(H:AH)(K:KT):Prop:=
 bO (Ar .add x16 (I 1)) λv0=>
 R7 [x0,x1,x5,x14,x15,v0] H
theorem IV (R7:RT)(x0 x1 x5 x14 x15 x16:AV)(H:AH)(K:KT):GU R7 x0 x1 x5 x14 x15 x16 H K=FH R7 x0 x1 x5 x14 x15 x16 H K:=(B3 _ _ _ _ _).trans (by kernel_rfl)
def Kl (R7:RT)(x0 x1 x5 x14 x15 x16:AV)(H:AH)(K:KT):Prop:=
 bO (Ar .lss x16 x15) λv0=>
 bB v0 λt1=>bI t1 (
 bO (Bq 8 x14 x16) λv2=>
 bO (Am true 8 H v2) λv3=>
 bH (A9 H (.agg [(I 0),(I 0),(I 0),(I 0),(B false),(.lit (.string ⟨#[]⟩)),(.lit (.string ⟨#[]⟩)),Ac])) λv4 H5=>
 bS (AJ 8 H5 v4 v3) λH6=>
 bO (Am true 8 H6 v4) λv7=>
 bP (PCall prog 95 [v7,x1] H6) λv8=>
 bB v8 λt9=>bI t9 (
 bO (Ae x0) λv10=>
 bO (Aa 3 v10) λv11=>
 bO (Am true 2 H6 v11) λv12=>
 bO (Am true 8 H6 v4) λv13=>
 bP (BPure prog 96 [v12,v13]) λv14=>
 bO (Ae x0) λv15=>
 bO (Aa 3 v15) λv16=>
 bS (AJ 2 H6 v16 v14) λH17=>
 GU R7 x0 x1 x5 x14 x15 x16 H17 K)
 (bO (Am true 8 H6 v4) λv18=>
 bH (FC H6 8 1 (BI [(I 0),(I 0),(I 0),(I 0),(B false),(.lit (.string ⟨#[]⟩)),(.lit (.string ⟨#[]⟩)),Ac] 1) [(0,8,v18)]) λv19 H20=>
 bH (HG 8 96 H20 x5 v19) λv21 H22=>
 GU R7 x0 x1 v21 x14 x15 x16 H22 K))
 (bO (Ae x0) λv23=>
 bO (Aa 5 v23) λv24=>
 bS (AJ 1 H v24 x5) λH25=>
 K (I 0) H25)
theorem OO {K:KT}:oX (λR x0 x1 x5 x14 x15 x16 H=>Kl R x0 x1 x5 x14 x15 x16 H K) (λx0 x1 x5 x14 x15 x16 H=>LW x0 x1 x5 x14 x15 x16 H K):=bM (A2 _ _) (λ_ _ _ _ _ _ _ _=>by kernel_rfl)
def PL (a0 a1:AV)(H:AH)(K:KT):Prop:=
 bC (BCall prog 94 [a0] H) λv0 H1=>
 bO (E6 .not v0) λv2=>
 bB v2 λt3=>bI t3 (
 K (I 8) H1)
 (bO (Ae a0) λv4=>
 bO (Aa 5 v4) λv5=>
 bO (Am false 1 H1 v5) λv6=>
 bO (AY v6) λv7=>
 LW a0 a1 Ac v6 v7 (I 0) H1 K)
theorem Tx {a0 a1:AV}{H:AH}{K:KT}(h:PL a0 a1 H K):Co 39 [a0,a1] H K:=
 fok A8 OT LX func39 h
def I1 (a0 a1 a2 a3:AV)(H:AH)(K:KT):Prop:=
 bC (BCall prog 85 [a0,a1] H) λv0 H1=>
 bO (Ai v0 0) λv2=>
 bO (Ai v0 1) λv3=>
 bH (A9 H1 (.agg [(I 0),Ac])) λv4 H5=>
 bS (AJ 2 H5 v4 v2) λH6=>
 bO (Ar .neq v3 (I 0)) λv7=>
 bB v7 λt8=>bI t8 (
 K (.tup [(I 0),v3]) H6)
 (bO (Am true 2 H6 v4) λv9=>
 bF true a3 λk12 f12 c12=>
 bT (C3 prog k12||!true)<|
 bC (BCall prog k12 (f12++[v9,a2]++c12) H6) λv10 H11=>
 bO (Ai v10 0) λv13=>
 bO (Ai v10 1) λv14=>
 bO (E6 .not v14) λv15=>
 bB v15 λt16=>bI t16 (
 K (.tup [(I 0),(I 5)]) H11)
 (K (.tup [v13,(I 0)]) H11))
theorem Km {a0 a1 a2 a3:AV}{H:AH}{K:KT}(h:I1 a0 a1 a2 a3 H K):Co 128 [a0,a1,a2,a3] H K:=
 fok A8 OT B6 func128 h
def PF (a0 a1 a2:AV)(H:AH)(K:KT):Prop:=
 bC (BCall prog 128 [a0,a1,a2,(.fn (.func 129) [] [])] H) λv0 H1=>
 bO (Ai v0 0) λv2=>
 bO (Ai v0 1) λv3=>
 K (.tup [v2,v3]) H1
theorem Tq {a0 a1 a2:AV}{H:AH}{K:KT}(h:PF a0 a1 a2 H K):Co 78 [a0,a1,a2] H K:=
 fok A8 OT B6 func78 h
def PH (a0 a1 a2:AV)(H:AH)(K:KT):Prop:=
 bC (BCall prog 128 [a0,a1,a2,(.fn (.func 131) [] [])] H) λv0 H1=>
 bO (Ai v0 0) λv2=>
 bO (Ai v0 1) λv3=>
 K (.tup [v2,v3]) H1
theorem Tt {a0 a1 a2:AV}{H:AH}{K:KT}(h:PH a0 a1 a2 H K):Co 80 [a0,a1,a2] H K:=
 fok A8 OT B6 func80 h
def ZT (a0 a1:AV)(H:AH)(K:KT):Prop:=
 bH (A9 H a0) λv0 H1=>
 bH (A9 H1 a1) λv2 H3=>
 bO (Aa 1 v0) λv4=>
 bO (Am false 1 H3 v4) λv5=>
 bP (PCall prog 139 [v5,(.fn (.func 140) [] [v2])] H3) λv6=>
 K v6 H3
theorem cM {a0 a1:AV}{H:AH}{K:KT}(h:ZT a0 a1 H K):Co 88 [a0,a1] H K:=
 fok A8 OT B6 func88 h
def WO (a0 a1:AV)(H:AH)(K:KT):Prop:=
 bH (A9 H a0) λv0 H1=>
 bO (Aa 0 v0) λv2=>
 bO (Am false 1 H1 v2) λv3=>
 bO (Am false 1 H1 a1) λv4=>
 bO (Ar .eql v3 v4) λv5=>
 K v5 H1
theorem YE {a0 a1:AV}{H:AH}{K:KT}(h:WO a0 a1 H K):Co 140 [a0,a1] H K:=
 fok A8 OT B6 func140 h
def S0:Nat→Option (List Bool):=CN [(1,mk 15 0 [1,2]),(3,mk 15 0 [1,2,7])]
def OP (p:List Bool)(n:Nat):List AV→AH→Kf→Prop:=AL prog A8 OT A1 A1 S0 (sub p (AP f95)) n
def NA (x1 x2:AV)(H:AH)(K:KT):Prop:=jn (mk 15 0 [1,2]) (OP [tT,tT] 7) [x1,x2] H (Ba prog f95.results.toList K)
def JC (x1 x2 x7:AV)(H:AH)(K:KT):Prop:=jn (mk 15 0 [1,2,7]) (OP [tT,fF,tT,fF,tT] 6) [x1,x2,x7] H (Be 0 (Bb (DO (mk 15 0 [1,2]) (OP [tT,tT] 7)) (Ba prog f95.results.toList K)))
def PP (x1 x2:AV)(H:AH)(K:KT):Prop:=
 bO (Aa 1 x2) λv0=>
 bO (Am false 1 H v0) λv1=>
 bP (PCall prog 144 [x1,v1] H) λv2=>
 K v2 H
theorem V7 (x1 x2:AV)(H:AH)(K:KT):NA x1 x2 H K=PP x1 x2 H K:=(B3 _ _ _ _ _).trans (by kernel_rfl)
def Hf (x1 x2 x7:AV)(H:AH)(K:KT):Prop:=
 bB x7 λt0=>bI t0 (
 K (B true) H)
 (NA x1 x2 H K)
theorem JD (x1 x2 x7:AV)(H:AH)(K:KT):JC x1 x2 x7 H K=Hf x1 x2 x7 H K:=(B3 _ _ _ _ _).trans (by kernel_rfl)
def WP (a0 a1:AV)(H:AH)(K:KT):Prop:=
 bH (A9 H a0) λv0 H1=>
 bO (Aa 0 v0) λv2=>
 bO (Am false 1 H1 v2) λv3=>
 bO (Ar .eql v3 (I 1)) λv4=>
 bB v4 λt5=>bI t5 (
 JC a1 v0 v4 H1 K)
 (bO (Ar .eql v3 (I 6)) λv6=>
 bB v6 λt7=>bI t7 (
 JC a1 v0 v6 H1 K)
 (bO (Ar .eql v3 (I 7)) λv8=>
 JC a1 v0 v8 H1 K))
theorem YF {a0 a1:AV}{H:AH}{K:KT}(h:WP a0 a1 H K):Co 95 [a0,a1] H K:=
 fok A8 OT S0 func95 h
def DU (a0 a1:AV)(H:AH)(K:KT):Prop:=
 bP (PCall prog 173 [a0,a1] H) λv0=>
 bO (Ar .geq v0 (I 0)) λv1=>
 K v1 H
theorem Gx {a0 a1:AV}{H:AH}{K:KT}(h:DU a0 a1 H K):Co 139 [a0,a1] H K:=
 fok A8 OT B6 func139 h
def Ic (a0 a1:AV)(H:AH)(K:KT):Prop:=
 bP (PCall prog 178 [a0,a1] H) λv0=>
 bO (Ar .geq v0 (I 0)) λv1=>
 K v1 H
theorem Mm {a0 a1:AV}{H:AH}{K:KT}(h:Ic a0 a1 H K):Co 144 [a0,a1] H K:=
 fok A8 OT B6 func144 h
def Ih:Nat→Option (List Bool):=CN [(3,mk 19 0 [0,1,7,8])]
def IT (p:List Bool)(n:Nat):List AV→AH→Kf→Prop:=AL prog A8 OT A1 A1 Ih (sub p (AP f178)) n
def Ig (x0 x1 x7 x8:AV)(H:AH)(K:KT):Prop:=lp (mk 19 0 [0,1,7,8]) (IT [tT,fF,tT,fF,fF] 4) [x0,x1,x7,x8] H (Be 0 (Bb (IT [tT,tT] 10) (Ba prog f178.results.toList K)))
def GT (R3:RT)(x0 x1 x7 x8:AV)(H:AH)(K:KT):Prop:=
 bO (Ar .lss x8 x7) λv0=>
 bB v0 λt1=>bI t1 (
 bO (Bq 1 x0 x8) λv2=>
 bO (Am false 1 H v2) λv3=>
 bO (Ar .eql x1 v3) λv4=>
 bB v4 λt5=>bI t5 (
 K x8 H)
 (bO (Ar .add x8 (I 1)) λv6=>
 R3 [x0,x1,x7,v6] H))
 (K (I (-1)) H)
theorem Lt {K:KT}:dC (λR x0 x1 x7 x8 H=>GT R x0 x1 x7 x8 H K) (λx0 x1 x7 x8 H=>Ig x0 x1 x7 x8 H K):=Tb (A2 _ _) (λ_ _ _ _ _ _=>by kernel_rfl)
def Kk (a0 a1:AV)(H:AH)(K:KT):Prop:=
 bO (AY a0) λv0=>
 Ig a0 a1 v0 (I 0) H K
theorem ON {a0 a1:AV}{H:AH}{K:KT}(h:Kk a0 a1 H K):Co 178 [a0,a1] H K:=
 fok A8 OT Ih func178 h
def IS (a0:AV)(H:AH)(K:KT):Prop:=
 bO (YO .eql Tc a0 Ac) λv0=>
 bB v0 λt1=>bI t1 (
 K Ac H)
 (bH (FC H 1 0 (BI [u0Z] 0) []) λv2 H3=>
 bH (HG 1 1 H3 v2 a0) λv4 H5=>
 K v4 H5)
theorem N5 {a0:AV}{H:AH}{K:KT}(h:IS a0 H K):Co 89 [a0] H K:=
 fok A8 OT B6 func89 h
def V0 (p:List Bool)(n:Nat):List AV→AH→Kf→Prop:=AL prog A8 OT A1 A1 B6 (sub p (AP f38)) n
def FO (a0:AV)(H:AH)(K:KT):Prop:=
 bH (FC H 1 18 (BI [(.lit (.string ⟨#[]⟩))] 18) [(0,1,(.lit (.string ⟨#[97]⟩))),(1,1,(.lit (.string ⟨#[98]⟩))),(2,1,(.lit (.string ⟨#[99]⟩))),(3,1,(.lit (.string ⟨#[100,115,116]⟩))),(4,1,(.lit (.string ⟨#[109,97,112]⟩))),(5,1,(.lit (.string ⟨#[109,97,112,46,110,101,119]⟩))),(6,1,(.lit (.string ⟨#[120,45,49]⟩))),(7,1,(.lit (.string ⟨#[100,105,115,107]⟩))),(8,1,(.lit (.string ⟨#[]⟩))),(9,1,(.lit (.string ⟨#[65]⟩))),(10,1,(.lit (.string ⟨#[45,97]⟩))),(11,1,(.lit (.string ⟨#[97,47,98]⟩))),(12,1,(.lit (.string ⟨#[97,98,99,100,101,102,103,104,105,106,107,108,109,110,111,112,113,114,115,116]⟩))),(13,1,(.lit (.string ⟨#[97,98,99,100,101,102,103,104,105,106,107,108,109,110,111,112,113,114,115,116,117]⟩))),(14,1,(.lit (.string ⟨#[97,98,99,100,101,102,103,104,105,106,107,108,109,110,111,112]⟩))),(15,1,(.lit (.string ⟨#[97,98,99,100,101,102,103,104,105,106,107,108,109,110,111,112,113]⟩))),(16,1,(.lit (.string ⟨#[46]⟩))),(17,1,(.lit (.string ⟨#[48]⟩)))]) λv0 H1=>
 bO (Ar .rem a0 (.lit (.int .u8 18))) λv2=>
 bO (Bq 1 v0 v2) λv3=>
 bO (Am false 1 H1 v3) λv4=>
 K v4 H1
theorem Ur (a0:AV)(H:AH)(K:KT):Xm prog A8 OT A1 A1 B6 f38 [a0] H K=FO a0 H K:=by kernel_rfl
attribute [irreducible] FO V0
attribute [local irreducible] A8 B6
theorem Td {a0:AV}{H:AH}{K:KT}(h:FO a0 H K):Xm prog A8 OT A1 A1 B6 f38 [a0] H K:=Eq.mpr (Ur a0 H K) h
theorem Te:aP A8 OT f38=true:=by kernel_rfl
theorem Us {a0:AV}{H:AH}{K:KT}(h:FO a0 H K):Co 38 [a0] H K:=mB Zk func38 Te (Td h)
end Go.Proofs.YtadghlcfbajamaaGreat.Av
end
section
namespace Go.Proofs.YtadghlcfbajamaaGreat.Av
open Go Go.RowKit Go.Proofs.Tryz
abbrev U0:=List Nm×List Nd
structure StS where
 cap:Int
 now:U0
 kept:U0
 pend:List OpM
 made:Int
 armed:Int
 off:Bool
def KK (room:Int):StS:=⟨min (max room 0) 4096,([],[]),([],[]),[],0,-1,false⟩
def wt (o:OpM):Nat:=1+o.b.length+if o.kind=4 then 4098 else 0
def KC (l:List OpM):Nat:=(l.map wt).sum
theorem xC {o:OpM}{d:Nd}{c:KD}(h:G5 o d=some c):c.2.length≤d.l.length+wt o:=by
 have h4:=kT (o:=o) (d:=d);rw[h]at h4;simp only[cL,Ao4]at h4;unfold wt
 by_cases c4:o.kind=4
 ·rw[if_pos c4];omega
 ·rw[if_neg c4]
  unfold G5 at h;split at h
  ·unfold DI at h
   split at h
   ·injection h with h
    subst h
    split
    ·simp
    ·have:=YL (bs:=o.b) (l:=d.l) (p:=o.pos)
     simp only;omega
   ·cases h
  ·split at h
   ·unfold Cx at h
    split at h
    ·injection h with h
     subst h;simp only[Fz,PR,Ai2];exact Ai8 (Am5 _ _) (by omega)
    ·cases h
   ·split at h
    ·unfold CB at h
     split at h
     ·injection h with h
      subst h;simp only[Fp,PR,Ai2];exact Ai8 (Am5 _ _) (by omega)
     ·cases h
    ·cases h
def Few1 (M:Nat)(i:U0):Prop:=MayW i.1 i.2∧∀d∈i.2,d.l.length≤M
theorem fY {ns:List Nm}{ds:List Nd}{s:List UInt8}{d:Nd}(h:d∈Un ns ds s):d∈ds:=by
 unfold Un at h;split at h
 ·exact delK_sub.subset h
 ·exact h
theorem Few1.step {M:Nat}{i:U0}(h:Few1 M i)(o:OpM):Few1 (M+wt o) (AG i.1 i.2 o):=by
 refine⟨Ri h.1 o,λd hd=>?_⟩;have old:d∈i.2→d.l.length≤M+wt o:=λhd=>Ai8 (h.2 d hd) (by omega)
 unfold AG at hd;rw[if_pos (OC.2 h.1)]at hd;split at hd
 ·split at hd
  ·rcases G8.1 hd with rfl | hd
   ·simp
   ·exact old hd
  ·exact old hd
 ·split at hd
  ·rcases Yy h.1.sd hd with hd | ⟨-,e,he,-,hc⟩
   ·exact old hd
   ·have:=xC hc
    have:=h.2 e he
    simp only at*;omega
  ·split at hd
   ·split at hd
    ·exact old (fY hd)
    ·exact old hd
   ·split at hd
    ·exact old (fY hd)
    ·exact old hd
theorem Few1.mono {M M':Nat}{i:U0}(h:Few1 M i)(hm:M≤M'):Few1 M' i:=⟨h.1,λd hd=>Ai8 (h.2 d hd) hm⟩
theorem MayW.len2 {ns:List Nm}{ds:List Nd}(h:MayW ns ds):ds.length≤16:=by
 have:=(OC.2 h).2.1
 have:=h.len
 omega
theorem Few1.sm {M:Nat}{i:U0}(h:Few1 M i)(hm:M≤1000000):Sm i.1 i.2:=
 ⟨by have:=h.1.len;omega,by have:=h.1.len2;omega,λx hx=>by have:=(h.1.nm x hx).1.2.1;omega,λd hd=>Ai8 (h.2 d hd) hm⟩
def cX (o:OpM):Prop:=o.b.length≤5000∧o.name.length≤20∧o.to.length≤20
structure SW (N:Nat)(s:StS):Prop where
 now:Few1 N s.now
 kept:∃a,Few1 a s.kept∧a+KC s.pend≤N
 ob:∀o∈s.pend,cX o
 made:0≤s.made∧s.made≤N
 cap:0≤s.cap∧s.cap≤4096
 armed: -1≤s.armed∧s.armed≤9223372036854775807
theorem cV {l:List OpM}:l.length≤KC l:=by
 unfold KC
 induction l with
 | nil=>simp
 | cons o l ih=>simp only[An7,List.sum_cons,Al7];unfold wt at*;omega
theorem VB {l:List OpM}{o:OpM}:KC (l++[o])=KC l+wt o:=by simp[KC]
theorem SW.plen {N:Nat}{s:StS}(h:SW N s):s.pend.length≤N:=by
 obtain⟨a,-,h2⟩:=h.kept
 have:=cV (l:=s.pend)
 omega
theorem SW.mono {N N':Nat}{s:StS}(h:SW N s)(hn:N≤N'):SW N' s:=
 ⟨h.now.mono hn,by obtain⟨a,h1,h2⟩:=h.kept;exact⟨a,h1,by omega⟩,h.ob,by have:=h.made;omega,h.cap,h.armed⟩
theorem eZ:MayW [] []:=⟨by simp,by simp,by simp[Cn],by simp,by simp[Cn],by simp,λi=>by simp[AT]⟩
theorem rQ (room:Int):SW 0 (KK room):=
 ⟨⟨eZ,by simp[KK]⟩,⟨0,⟨eZ,by simp[KK]⟩,by simp[KK,KC]⟩,by simp[KK],by simp[KK],by simp[KK];omega,by simp[KK]⟩
def A5 (s:StS):Bool×StS:=
 if s.off=true∨s.armed=0 then(false,{s with off:=true})
 else if 0<s.armed then(true,{s with armed:=s.armed - 1})
 else(true,s)
def G7 (s:StS)(o:OpM):Int×StS:=
 if(A5 s).1=true then(0,{(A5 s).2 with now:=AG s.now.1 s.now.2 o,pend:=s.pend++[o]})else(8,(A5 s).2)
theorem Xt {N:Nat}{s:StS}(h:SW N s):SW N (A5 s).2:=by
 unfold A5
 split
 ·exact⟨h.now,h.kept,h.ob,h.made,h.cap,h.armed⟩
 ·split
  ·exact⟨h.now,h.kept,h.ob,h.made,h.cap,by have:=h.armed;simp only;omega⟩
  ·exact h
theorem D0 (s:StS):(A5 s).2.now=s.now∧(A5 s).2.kept=s.kept∧(A5 s).2.pend=s.pend∧(A5 s).2.made=s.made∧(A5 s).2.cap=s.cap:=by
 unfold A5
 split
 ·exact⟨rfl,rfl,rfl,rfl,rfl⟩
 ·split<;>exact⟨rfl,rfl,rfl,rfl,rfl⟩
theorem UE {N:Nat}{s:StS}{o:OpM}(h:SW N s)(ho:cX o):SW (N+wt o) (G7 s o).2:=by
 have hd:=Xt h;obtain⟨e1,e2,e3,e4,e5⟩:=D0 s;unfold G7
 split
 ·obtain⟨a,h1,h2⟩:=h.kept
  refine⟨h.now.step o,⟨a,by simp only[e2];exact h1,by simp only[VB];omega⟩,?_,by simp only[e4];have:=h.made;omega,by simp only[e5];exact h.cap,hd.armed⟩;intro x hx;simp only[Aa9]at hx;rcases hx with hx | rfl
  ·exact h.ob x hx
  ·exact ho
 ·exact hd.mono (by omega)
structure StC (s:StS)(os:Nat)(a b c d p:AV)(pv:List OpV)(H:AH):Prop where
 obj:H[os]?=some (some (.cells [I s.cap,a,b,c,d,p,I s.made,I s.armed,B s.off]))
 now:ImV s.now.1 s.now.2 (.agg [a,b])
 kept:ImV s.kept.1 s.kept.2 (.agg [c,d])
 pm:pv.map OpV.o=s.pend
 ps:Ad H 8 p=some (pv.flatMap HJ,pv.length)
 po:Bh p=true
 pi:os∉Bl p
 pc:CI p pv.length
def StAt (s:StS)(os:Nat)(p:AV)(H:AH):Prop:=∃a b c d pv,StC s os a b c d p pv H
structure StF (os:Nat)(p p':AV)(H H':AH):Prop where
 len:H.length≤H'.length
 same:∀j,j<H.length→j≠os→j∉Bl p→H'[j]?=H[j]?
 ids:∀j∈Bl p',j∈Bl p∨H.length≤j
theorem StF.refl (os:Nat)(p:AV)(H:AH):StF os p p H H:=⟨Ah3 _,λ_ _ _ _=>rfl,λ_ h=>.inl h⟩
theorem StF.trans {os:Nat}{p p' p'':AV}{A B C:AH}(h:StF os p p' A B)(k:StF os p' p'' B C):StF os p p'' A C:=
  ⟨Ai8 h.len k.len,λj hj hne hp=>by
    rw[k.same j (Ak7 hj h.len) hne (λhp'=>(h.ids j hp').elim hp (λq=>by omega)),h.same j hj hne hp],
   λj hj=>(k.ids j hj).elim (h.ids j) (λq=>.inr (Ai8 h.len q))⟩
theorem StF.of_grew {os:Nat}{p:AV}{H H':AH}(g:Grew H H'):StF os p p H H':=⟨g.1,λj hj _ _=>g.2 j hj,λ_ h=>.inl h⟩
theorem StF.grew {os:Nat}{p p':AV}{H H' H'':AH}(h:StF os p p' H H')(g:Grew H' H''):StF os p p' H H'':=h.trans (.of_grew g)
theorem StC.lt {s:StS}{os:Nat}{a b c d p:AV}{pv:List OpV}{H:AH}(h:StC s os a b c d p pv H):os<H.length:=(B5.1 h.obj).1
theorem StC.grew {s:StS}{os:Nat}{a b c d p:AV}{pv:List OpV}{H H':AH}(h:StC s os a b c d p pv H)(g:Grew H H'):StC s os a b c d p pv H':=
 ⟨g.cells h.obj,h.now,h.kept,h.pm,g.slice h.ps,h.po,h.pi,h.pc⟩
theorem StAt.grew {s:StS}{os:Nat}{p:AV}{H H':AH}(h:StAt s os p H)(g:Grew H H'):StAt s os p H':=by
 obtain⟨a,b,c,d,pv,h⟩:=h;exact⟨a,b,c,d,pv,h.grew g⟩
theorem StC.set {s s':StS}{os:Nat}{a b c d a' b' c' d' p:AV}{pv:List OpV}{H:AH}(h:StC s os a b c d p pv H)(hn:ImV s'.now.1 s'.now.2 (.agg [a',b']))(hk:ImV s'.kept.1 s'.kept.2 (.agg [c',d']))(hp:s'.pend=s.pend):
  StC s' os a' b' c' d' p pv (H.set os (some (.cells [I s'.cap,a',b',c',d',p,I s'.made,I s'.armed,B s'.off])))∧StF os p p H (H.set os (some (.cells [I s'.cap,a',b',c',d',p,I s'.made,I s'.armed,B s'.off]))):=by
 refine⟨⟨KI h.lt,hn,hk,by rw[hp];exact h.pm,Af h.ps λi q=>Cg (λe=>h.pi (by rw[e];exact q)),h.po,h.pi,h.pc⟩,by simp,λj _ hne _=>Cg (Ak2 hne),λ_ q=>.inl q⟩
theorem ImV.agg2 {ns:List Nm}{ds:List Nd}{v:AV}(h:ImV ns ds v):∃a b,v=.agg [a,b]∧oneA a=true∧oneA b=true:=by
 obtain⟨a,b,dv,rfl,h1,h2,-⟩:=h;exact⟨a,b,rfl,SV.oneA h1,SV.oneA h2⟩
theorem cY {H:AH}{os k:Nat}{cs:List AV}{x:AV}(h:H[os]?=some (some (.cells cs)))(hk:k<cs.length)(hx:oneA x=true):AJ 1 H (.ptr os k) x=some (H.set os (some (.cells (cs.set k x)))):=by
 rw[AF (n:=1) (xs:=[x]) (cs:=cs) (BE hx) h rfl hk];rfl
theorem Y6 (x y:AV):Aq true 2 [x,y] 0=some (.agg [x,y]):=rfl
theorem Wg (H:AH):A9 H (.agg [(I 0),Ac])=some (.ptr H.length 0,H++[some (.cells [I 0,Ac])]):=by simp
theorem Hd (H:AH)(s:Int){R:AV}(hR:oneA R=true):AJ 2 (H++[some (.cells [I 0,Ac])]) (.ptr H.length 0) (.agg [I s,R])=some (H++[some (.cells [I s,R])]):=by
 rw[AF (n:=2) (xs:=[I s,R]) (cs:=[I 0,Ac]) (by simp[hR]) (by simp) rfl (by simp)];simp[AZ]
theorem Da {H:AH}{x:AObj}:(H++[some x])[H.length]?=some (some x):=by simp
abbrev At4:=@Int.max_comm
theorem zH (room:Int)(H:AH)(hr:room≤9223372036854775807):∃r H',(∃p,r=.ptr H.length 0∧H'.length=H.length+1∧StAt (KK room) H.length p H'∧Grew H H'∧Bl p=[])∧BCall prog 11 [I room] H r H':=cK (by
 unfold ZS;have e1:amm Wb [I room,(I 0)]=some (I (max room 0)):=by rw[NQ,Wc,At4]
 have e2:amm cZ [I (max room 0),(I 4096)]=some (I (min (max room 0) 4096)):=by rw[NQ,rD,Int.min_comm]
 have e3:E5 [(I 0),Ac,Ac,Ac,Ac,Ac,(I 0),(I 0),(B false)] [(0,1,I (min (max room 0) 4096)),(7,1,(I (-1)))]=some (.agg [I (min (max room 0) 4096),Ac,Ac,Ac,Ac,Ac,I 0,I (-1),B false]):=rfl;have e4:A9 H (.agg [I (min (max room 0) 4096),Ac,Ac,Ac,Ac,Ac,I 0,I (-1),B false])=some (.ptr H.length 0,H++[some (.cells [I (min (max room 0) 4096),Ac,Ac,Ac,Ac,Ac,I 0,I (-1),B false])]):=by simp
 rw[e1,Ab,e2,Ab,e3,Ab,e4,AA];have hI:ImV [] [] (.agg [Ac,Ac]):=⟨Ac,Ac,[],rfl,SV.nil,SV.nil,rfl⟩;exact⟨Ac,rfl,by simp,⟨Ac,Ac,Ac,Ac,[],⟨Da,hI,hI,rfl,rfl,rfl,by simp[Bl],by simp[CI]⟩⟩,Grew.app _ _,rfl⟩)
abbrev Ab3:=And.intro @Ab @Ab2
abbrev Af2:=And.intro @Ab0 @Ab3
theorem zK {s:StS}{os:Nat}{p:AV}{H:AH}(h:StAt s os p H):BCall prog 27 [.ptr os 0] H (B s.off) H:=by
 obtain⟨r,H',⟨rfl,rfl⟩,hc⟩:=Ux (a0:=.ptr os 0) (H:=H) (K:=λr H'=>r=B s.off∧H'=H) (by
  obtain⟨a,b,c,d,pv,h⟩:=h;unfold QC;simp only[A0,Af2,Ah h.obj];exact⟨by trivial,by trivial⟩)
 exact hc
def iH (s:StS)(n:Int):StS:={s with armed:=max n (-1)}
theorem wS {N:Nat}{s:StS}(h:SW N s){n:Int}(hn:n≤9223372036854775807):SW N (iH s n):=⟨h.now,h.kept,h.ob,h.made,h.cap,by simp only[iH];omega⟩
theorem zC {s:StS}{os:Nat}{p:AV}{H:AH}(h:StAt s os p H)(n:Int):∃r H',(r=.tup []∧StAt (iH s n) os p H'∧StF os p p H H')∧BCall prog 15 [.ptr os 0,I n] H r H':=Uv (by
 obtain⟨a,b,c,d,pv,h⟩:=h;unfold QA;have e1:amm Wb [I n,(I (-1))]=some (I (max n (-1))):=by rw[NQ,Wc,At4]
 obtain⟨h2,h3⟩:=h.set (s':=iH s n) h.now h.kept rfl;have e2:AJ 1 H (.ptr os 7) (I (max n (-1)))=some (H.set os (some (.cells [I s.cap,a,b,c,d,p,I s.made,I (max n (-1)),B s.off]))):=cY h.obj (by simp) rfl;simp only[e1,Ab,A0,An,e2,AC];exact⟨by trivial,⟨a,b,c,d,pv,h2⟩,h3⟩)
abbrev Pr:=And.intro @AD @beq_self_eq_true.{0}
abbrev Ab1:=And.intro @Aa8 @Ab0
abbrev Ac4:=And.intro @A4 @Aa8
abbrev Ag0:=And.intro @Ac4 @if_true.{1}
abbrev Ag3:=And.intro @A0 (And.intro @Ab1 @Ab2)
theorem qQ {s:StS}{os:Nat}{p:AV}{H:AH}(h:StAt s os p H)(hb: -1≤s.armed∧s.armed≤9223372036854775807):∃r H',(r=B (A5 s).1∧StAt (A5 s).2 os p H'∧StF os p p H H')∧BCall prog 94 [.ptr os 0] H r H':=Ty (by
 obtain⟨a,b,c,d,pv,h⟩:=h;unfold PN;simp only[A0,Af2,Ah h.obj,Bc]
 have stop:s.off=true∨s.armed=0→bS (AJ 1 H (.ptr os 8) (B true)) λH17=>B false=B (A5 s).1∧StAt (A5 s).2 os p H17∧StF os p p H H17:=by
  intro hc;have e:A5 s=(false,{s with off:=true}):=by unfold A5;rw[if_pos hc]
  rw[e];obtain⟨h2,h3⟩:=h.set (s':={s with off:=true}) h.now h.kept rfl;have e2:AJ 1 H (.ptr os 8) (B true)=some (H.set os (some (.cells [I s.cap,a,b,c,d,p,I s.made,I s.armed,B true]))):=cY h.obj (by simp) rfl;simp only[e2,AC];exact⟨by trivial,⟨a,b,c,d,pv,h2⟩,h3⟩
 cases ho:s.off with
 | true=>
  simp only[show((true==false)=false)from rfl,Cf,Ag0,Aw];exact stop (.inl ho)
 | false=>
  simp only[Pr,Ag3,Ah h.obj,Cp,A4,At]
  by_cases h0:s.armed=0
  ·simp only[h0,Ad7]
   exact stop (.inr h0)
  ·simp only[h0,Ac1,EH]
   have hn:¬(s.off=true∨s.armed=0):=by rintro(q | q);rw[ho]at q;cases q;exact h0 q
   by_cases hp:0<s.armed
   ·have e:A5 s=(true,{s with armed:=s.armed - 1}):=by unfold A5;rw[if_neg hn,if_pos hp]
    rw[e];obtain⟨h2,h3⟩:=h.set (s':={s with armed:=s.armed - 1}) h.now h.kept rfl;have e1:Ar .sub (I s.armed) (I 1)=some (I (s.armed - 1)):=Bv (by omega) (by omega);have e2:AJ 1 H (.ptr os 7) (I (s.armed - 1))=some (H.set os (some (.cells [I s.cap,a,b,c,d,p,I s.made,I (s.armed - 1),B s.off]))):=cY h.obj (by simp) rfl;simp only[hp,DC,e1,Ab,e2,AC];rw[JB];unfold Gh;exact⟨rfl,⟨a,b,c,d,pv,h2⟩,h3⟩
   ·have e:A5 s=(true,s):=by unfold A5;rw[if_neg hn,if_neg hp]
    rw[e];simp only[hp,E0];rw[JB];unfold Gh;exact⟨rfl,⟨a,b,c,d,pv,h⟩,.refl _ _ _⟩)
theorem tD (c a b d e f g h i:AV):Aq true 2 [c,a,b,d,e,f,g,h,i] 1=some (.agg [a,b])∧Aq true 2 [c,a,b,d,e,f,g,h,i] 3=some (.agg [d,e]):=⟨rfl,rfl⟩
theorem zB {H:AH}{os:Nat}{x0 x1 x2 x3 x4 x5 x6 x7 x8 a b:AV}(h:H[os]?=some (some (.cells [x0,x1,x2,x3,x4,x5,x6,x7,x8])))(ha:oneA a=true)(hb:oneA b=true):
  AJ 2 H (.ptr os 1) (.agg [a,b])=some (H.set os (some (.cells [x0,a,b,x3,x4,x5,x6,x7,x8])))∧AJ 2 H (.ptr os 3) (.agg [a,b])=some (H.set os (some (.cells [x0,x1,x2,a,b,x5,x6,x7,x8]))):=by
 constructor
 ·rw[AF (n:=2) (off:=1) (xs:=[a,b]) (by simp[ha,hb]) h rfl (by simp)];rfl
 ·rw[AF (n:=2) (off:=3) (xs:=[a,b]) (by simp[ha,hb]) h rfl (by simp)];rfl
theorem Ue {s:StS}{os:Nat}{a b c d p:AV}{pv:List OpV}{H:AH}(h:StC s os a b c d p pv H):∀j∈Bl p,j<H.length:=λj q=>A7 h.ps j q
abbrev Aa2:=And.intro @Ab @Bool.not_true
abbrev Aa3:=And.intro @Aw @Bool.not_false
abbrev Ae6:=And.intro @Aa2 @Ao
theorem iN {N:Nat}{s:StS}{os:Nat}{p bv:AV}{H:AH}{o:OpM}(h:StAt s os p H)(hw:SW N s)(hN:N≤900000)(hb:SV IW 1 o.b bv)(ho:cX o):
  ∃r H',(r=I (G7 s o).1∧∃p',StAt (G7 s o).2 os p' H'∧StF os p p' H H')∧BCall prog 59 [.ptr os 0,.agg (By o bv)] H r H':=V6 (by
 have h0:=h;obtain⟨a0,b0,c0,d0,pv0,hc0⟩:=h;unfold Sz;have obv:=SV.oneA hb;have e1:A9 H (.agg (By o bv))=some (.ptr H.length 0,H++[some (.cells (By o bv))]):=by simp[By,obv]
 have g:=Grew.app H [some (.cells (By o bv))];obtain⟨r,H3,⟨rfl,h3,f3⟩,hc⟩:=qQ (h0.grew g) hw.armed;rw[e1,AA];refine bC_of hc ?_;have sm:=hw.now.sm (by omega);obtain⟨q1,q2,q3,q4,q5⟩:=D0 s;simp only[Bg,Aa8];cases hd:(A5 s).1 with
 | false=>
  have e:G7 s o=(8,(A5 s).2):=by unfold G7;rw[if_neg (by rw[hd];simp)]
  rw[e];simp only[Aa3];exact⟨by trivial,p,h3,(StF.of_grew g).trans f3⟩
 | true=>
  have e:G7 s o=(0,{(A5 s).2 with now:=AG s.now.1 s.now.2 o,pend:=s.pend++[o]}):=by unfold G7;rw[if_pos hd]
  rw[e];have hos:os<H.length:=hc0.lt;have hid:=Ue hc0;obtain⟨a,b,c,d,pv,h3⟩:=h3
  have c3:H3[H.length]?=some (some (.cells (By o bv))):=by
   rw[f3.same H.length (by simp) (by omega) (λq=>by have:=hid _ q;omega)];exact Da
  obtain⟨R,hR,hp⟩:=ZX (o:=o) (bv:=bv) h3.now (by rw[q1];exact sm) hb (by have:=ho.1;omega) (by have:=ho.2.1;omega) (by have:=ho.2.2;omega);rw[q1]at hR;obtain⟨a',b',rfl,oa,ob⟩:=hR.agg2;have rd8:Aq true 8 (By o bv) 0=some (.agg (By o bv)):=rfl;simp only[Ae6,A0,An,Ah h3.obj,(tD _ _ _ _ _ _ _ _ _).1,Ah c3,rd8];refine bP_of hp ?_;obtain⟨h4,f4⟩:=h3.set (s':={(A5 s).2 with now:=AG s.now.1 s.now.2 o}) hR h3.kept rfl;simp only[(zB h3.obj oa ob).1,AC];have c4:(H3.set os (some (AObj.cells [I (A5 s).2.cap,a',b',c,d,p,I (A5 s).2.made,I (A5 s).2.armed,B (A5 s).2.off])))[H.length]?=some (some (.cells (By o bv))):=by rw[Cg (by omega)];exact c3
  simp only at h4 f4;generalize hH4:H3.set os (some (AObj.cells [I (A5 s).2.cap,a',b',c,d,p,I (A5 s).2.made,I (A5 s).2.armed,B (A5 s).2.off]))=H4 at*
  have e6:U3 8 1 (BI [(I 0),(I 0),(I 0),(I 0),(B false),(.lit (.string ⟨#[]⟩)),(.lit (.string ⟨#[]⟩)),Ac] 1) [(0,8,.agg (By o bv))]=some (.imm (HJ ⟨o,bv,hb⟩) 1 8):=by
   simp[U3,BI,HJ,By,Mv,obv,AZ]
  have x1:Bm H4 8 (.imm (HJ ⟨o,bv,hb⟩) 1 8)=some (HJ ⟨o,bv,hb⟩,1):=A3 (by simp[Ad,HJ,By]);have hpl:pv.length=s.pend.length:=by rw[← q3,← h3.pm,Ai2]
  have hplN:=hw.plen;obtain⟨r,H5,a1,a2,a3,a4,a5,a6⟩:=CT (bytes:=96) h4.ps h4.po x1 (by omega);have a7:=PT h4.ps h4.po x1 h4.pc a1;have c5:H5[os]?=some (some (.cells [I (A5 s).2.cap,a',b',c,d,p,I (A5 s).2.made,I (A5 s).2.armed,B (A5 s).2.off])):=by rw[a5 os h4.lt h4.pi];exact h4.obj
  have hor:os∉Bl r:=λq=>(a6 os q).elim h4.pi (λq=>by have:=h4.lt;omega)
  have e7:AJ 1 H5 (.ptr os 5) r=some (H5.set os (some (.cells [I (A5 s).2.cap,a',b',c,d,r,I (A5 s).2.made,I (A5 s).2.armed,B (A5 s).2.off]))):=cY c5 (by simp) (AI a2);simp only[Ah h4.obj,Ag,Ab0,Ab,Ah c4,rd8,e6,a1,AA,e7,AC];have hl5:os<H5.length:=(B5.1 c5).1;refine⟨by trivial,r,⟨a',b',c,d,pv++[⟨o,bv,hb⟩],⟨KI hl5,hR,h3.kept,?_,?_,a2,hor,by simpa using a7⟩⟩,?_⟩
  ·rw[Aj4,h3.pm,q3];rfl
  ·have:=Af a3 (H':=H5.set os (some (.cells [I (A5 s).2.cap,a',b',c,d,r,I (A5 s).2.made,I (A5 s).2.armed,B (A5 s).2.off]))) λi q=>Cg (λe=>hor (by rw[e];exact q))
   simpa using this
  ·have f5:StF os p r H4 (H5.set os (some (.cells [I (A5 s).2.cap,a',b',c,d,r,I (A5 s).2.made,I (A5 s).2.armed,B (A5 s).2.off]))):=⟨by simpa using a4,λj hj hne hjp=>by rw[Cg (Ak2 hne),a5 j hj hjp],a6⟩
   exact((StF.of_grew g).trans f3).trans (f4.trans f5))
theorem gX {N:Nat}{s:StS}{os:Nat}{p:AV}{H:AH}(h:StAt s os p H)(hw:SW N s)(hN:N≤900000):∃R,ImV s.now.1 s.now.2 R∧∀H1,Grew H H1→∃r H',(r=R∧Grew H1 H')∧BCall prog 21 [.ptr os 0] H1 r H':=by
 obtain⟨a,b,c,d,pv,h⟩:=h;obtain⟨R,hR,hp⟩:=gW h.now (hw.now.sm (by omega));refine⟨R,hR,λH1 g0=>Uw ?_⟩;unfold QB;obtain⟨a',b',rfl,oa,ob⟩:=hR.agg2;have e1:A9 H1 (.agg [Ac,Ac])=some (.ptr H1.length 0,H1++[some (.cells [Ac,Ac])]):=by simp
 have g:=Grew.app H1 [some (.cells [Ac,Ac])]
 have e2:AJ 2 (H1++[some (.cells [Ac,Ac])]) (.ptr H1.length 0) (.agg [a',b'])=some (H1++[some (.cells [a',b'])]):=by
  rw[AF (n:=2) (xs:=[a',b']) (cs:=[Ac,Ac]) (by simp[oa,ob]) (by simp) rfl (by simp)];simp[AZ]
 simp only[e1,AA,A0,Ab,An,Ah (g.cells (g0.cells h.obj)),(tD _ _ _ _ _ _ _ _ _).1];refine As hp ?_;simp only[e2,AC,Ah Da,Y6,Ab];exact⟨by trivial,Grew.app _ _⟩
theorem zJ {N:Nat}{s:StS}{os:Nat}{p:AV}{H:AH}(h:StAt s os p H)(hw:SW N s)(hN:N≤900000):∃R,ImV s.now.1 s.now.2 R∧∃r H',(r=R∧Grew H H')∧BCall prog 21 [.ptr os 0] H r H':=by
 obtain⟨R,hR,f⟩:=gX h hw hN;exact⟨R,hR,f H (Grew.refl H)⟩
def Oc (s:StS):Int:=max 0 (s.cap - LD s.now.2)
theorem gK {M:Nat}{i:U0}(h:Few1 M i):LD i.2≤16*M:=by
 have h1:=cN h.2;have h2:=h.1.len2;exact Ai8 h1 (Ah7 _ h2)
theorem pC {N:Nat}{s:StS}{os:Nat}{p:AV}{H:AH}(h:StAt s os p H)(hw:SW N s)(hN:N≤900000):BCall prog 32 [.ptr os 0] H (I (Oc s)) H:=by
 obtain⟨r,H',⟨rfl,rfl⟩,hc⟩:=Ts (a0:=.ptr os 0) (H:=H) (K:=λr H'=>r=I (Oc s)∧H'=H) (by
  obtain⟨a,b,c,d,pv,h⟩:=h;unfold PG;have hu:=wI h.now (hw.now.sm (by omega));rw[mH hw.now.1]at hu;have hs:=gK hw.now;have hcap:=hw.cap;have e1:Ar .sub (I s.cap) (I (LD s.now.2:Int))=some (I (s.cap - LD s.now.2)):=Bv (by omega) (by omega);have e2:amm Wb [(I 0),I (s.cap - LD s.now.2)]=some (I (Oc s)):=by rw[NQ,Wc,At4];rfl
  simp only[A0,Ab3,Ah h.obj,Di,(tD _ _ _ _ _ _ _ _ _).1];refine bP_of hu ?_;simp only[e1,Ab,e2];exact⟨by trivial,by trivial⟩)
 exact hc
def Au (s:StS)(ino:Int):KD×Int:=
 if s.off=true then((0,[]),8)else if Xa s.now.1 s.now.2 ino then(((Fl s.now.1 s.now.2 ino).size,(Fl s.now.1 s.now.2 ino).l),0)else((0,[]),3)
abbrev Ac0:=And.intro @Ab1 @Ap
abbrev Ac6:=And.intro @Ab0 @Ap
abbrev Ac8:=And.intro @AC @Ac0
abbrev Ae7:=And.intro @AA @Wg
abbrev Af5:=And.intro @Ae6 @Al
abbrev Ag2:=And.intro @Aa3 @Bg
abbrev Ag4:=And.intro @Af5 @Bg
theorem I4 {N:Nat}{s:StS}{os:Nat}{p:AV}{H:AH}(h:StAt s os p H)(hw:SW N s)(hN:N≤900000)(ino:Int):
  ∃R,SV A6 9 (Au s ino).1.2 R∧∃r H',(r=.tup [.agg [I (Au s ino).1.1,R],I (Au s ino).2]∧Grew H H')∧BCall prog 85 [.ptr os 0,I ino] H r H':=by
 obtain⟨a,b,c,d,pv,h⟩:=h;have e0:E5 [(I 0),Ac] []=some (.agg [I 0,Ac]):=rfl;have g:=Grew.app H [some (.cells [I 0,Ac])];cases ho:s.off with
 | true=>
  have e:Au s ino=((0,[]),8):=by unfold Au;rw[if_pos ho]
  rw[e];refine⟨Ac,SV.nil,FJ ?_⟩;unfold Fj;simp only[Ae7,Ag3,Ah (g.cells h.obj),ho,Aw,e0,Hd H 0 (R:=Ac) rfl,AC,Ah Da,Y6];exact⟨by trivial,Grew.app _ _⟩
 | false=>
  have sm:=hw.now.sm (by omega);obtain⟨R,hR,hp⟩:=zF h.now sm ino;have oR:=SV.oneA hR
  by_cases hg:Xa s.now.1 s.now.2 ino
  ·have e:Au s ino=(((Fl s.now.1 s.now.2 ino).size,(Fl s.now.1 s.now.2 ino).l),0):=by unfold Au;rw[if_neg (by rw[ho];simp),if_pos hg]
   rw[e];refine⟨R,hR,FJ ?_⟩;unfold Fj;simp only[Ae7,Ag3,Ah (g.cells h.obj),ho,Ao,(tD _ _ _ _ _ _ _ _ _).1];refine As hp ?_;have g2:=Grew.app (H++[some (AObj.cells [I 0,Ac])]) [some (AObj.cells [I (Fl s.now.1 s.now.2 ino).size,R])]
   have e5:AJ 2 (H++[some (AObj.cells [I 0,Ac])]++[some (AObj.cells [I (Fl s.now.1 s.now.2 ino).size,R])]) (.ptr H.length 0) (.agg [I (Fl s.now.1 s.now.2 ino).size,R])=some (H++[some (AObj.cells [I (Fl s.now.1 s.now.2 ino).size,R])]++[some (AObj.cells [I (Fl s.now.1 s.now.2 ino).size,R])]):=by
    rw[AF (n:=2) (xs:=[I (Fl s.now.1 s.now.2 ino).size,R]) (cs:=[I 0,Ac]) (by simp[oR]) (g2.cells Da) rfl (by simp)];simp[AZ]
   have g3:=Grew.app (H++[some (AObj.cells [I (Fl s.now.1 s.now.2 ino).size,R])]) [some (AObj.cells [I (Fl s.now.1 s.now.2 ino).size,R])];simp only[Ac6,Ag4,Hd _ _ oR,AC,hg,DC,Ah Da,Y6,e5,Ah (g3.cells Da)];exact⟨by trivial,(Grew.app H _).trans g3⟩
  ·have e:Au s ino=((0,[]),3):=by unfold Au;rw[if_neg (by rw[ho];simp),if_neg hg]
   rw[e];refine⟨Ac,SV.nil,FJ ?_⟩;unfold Fj;simp only[Ae7,Ag3,Ah (g.cells h.obj),ho,Ao,(tD _ _ _ _ _ _ _ _ _).1];refine As hp ?_;have g2:=Grew.app (H++[some (AObj.cells [I 0,Ac])]) [some (AObj.cells [I (Fl s.now.1 s.now.2 ino).size,R])]
   have e5:AJ 2 (H++[some (AObj.cells [I 0,Ac])]++[some (AObj.cells [I (Fl s.now.1 s.now.2 ino).size,R])]) (.ptr H.length 0) (.agg [I 0,Ac])=some (H++[some (AObj.cells [I 0,Ac])]++[some (AObj.cells [I (Fl s.now.1 s.now.2 ino).size,R])]):=by
    rw[AF (n:=2) (xs:=[I 0,Ac]) (cs:=[I 0,Ac]) rfl (g2.cells Da) rfl (by simp)];simp[AZ]
   simp only[Ac8,Hd _ _ oR,hg,E0,Ag2,e0,e5,Ah (g2.cells Da),Y6];exact⟨by trivial,g.trans g2⟩
def Ce (s:StS)(name:List UInt8):Int×Int:=
 if s.off=true then(0,8)else if ¬DK name then(0,5)else if AT Nm.name s.now.1 name then(CD s.now.1 name,0)else(0,3)
abbrev Aa1:=And.intro @Aw @not_false_eq_true
abbrev Aa5:=And.intro @DC @if_true.{1}
abbrev Ab4:=And.intro @Ao @if_false.{1}
abbrev Ag5:=And.intro @Aa2 @not_true_eq_false
theorem iS {N:Nat}{s:StS}{os:Nat}{p:AV}{H:AH}(h:StAt s os p H)(hw:SW N s)(hN:N≤900000){name:List UInt8}(hn:name.length≤9223372036854775807):
  BCall prog 58 [.ptr os 0,S (B0 name)] H (.tup [I (Ce s name).1,I (Ce s name).2]) H:=by
 obtain⟨r,H',⟨rfl,rfl⟩,hc⟩:=Tz (a0:=.ptr os 0) (a1:=S (B0 name)) (H:=H) (K:=λr H'=>r=.tup [I (Ce s name).1,I (Ce s name).2]∧H'=H) (by
  obtain⟨a,b,c,d,pv,h⟩:=h;unfold PO;unfold Ce;simp only[Ag3,Ah h.obj];cases ho:s.off with
  | true=>simp only[if_true,Aw];exact⟨by trivial,by trivial⟩
  | false=>
   simp only[Ao,At];refine As (OU hn) ?_
   by_cases hm:DK name
   ·simp only[hm,DC,Bg,Ag5,Al,Ab4]
    have hf:=wA h.now (hw.now.sm (by omega)) name;obtain⟨w1,w2⟩:=kY hw.now.1 name;rw[w1,show decide (SZ s.now.1 s.now.2 name)=decide (AT Nm.name s.now.1 name)from decide_eq_decide.2 w2]at hf;simp only[Ab,(tD _ _ _ _ _ _ _ _ _).1];refine As hf ?_
    by_cases hk:AT Nm.name s.now.1 name
    ·simp only[Ac6,Ag4,hk,Aa5]
     exact⟨by trivial,by trivial⟩
    ·simp only[Ac0,hk,E0,Ag2,if_false]
     exact⟨by trivial,by trivial⟩
   ·simp only[hm,E0,Bg,Ac2,Aa8,Aa1]
    exact⟨by trivial,by trivial⟩)
 exact hc
def Dq (name:List UInt8)(i:Int):OpM:=⟨1,i,0,0,false,name,[],[]⟩
def Vp (name to:List UInt8):OpM:=⟨6,0,0,0,false,name,to,[]⟩
def TP (name:List UInt8):OpM:=⟨7,0,0,0,false,name,[],[]⟩
def Zn (ino size:Int):OpM:=⟨3,ino,0,size,false,[],[],[]⟩
theorem jK (ino size:Int):cX (Zn ino size):=⟨by simp[Zn],by simp[Zn],by simp[Zn]⟩
theorem bZ {name:List UInt8}(h:DK name):cX (TP name):=⟨by simp[TP],h.2.1,by simp[TP]⟩
def DT (s:StS)(name:List UInt8)(make:Bool):(Int×Int)×StS:=
 if(Ce s name).2≠3∨make=false then(Ce s name,s)
 else if 16≤s.now.1.length then((0,4),s)
 else if(G7 s (Dq name (s.made+1))).1≠0 then((0,(G7 s (Dq name (s.made+1))).1),(G7 s (Dq name (s.made+1))).2)
 else((s.made+1,0),{(G7 s (Dq name (s.made+1))).2 with made:=s.made+1})
theorem kZ {s:StS}{name:List UInt8}(h:(Ce s name).2=3):DK name∧¬AT Nm.name s.now.1 name∧s.off=false:=by
 unfold Ce at h;split at h
 ·simp at h
 ·split at h
  ·simp at h
  ·split at h
   ·simp at h
   ·rename_i h1 h2 h3
    exact⟨Aj0 h2,h3,by simpa using h1⟩
theorem aW {s:StS}{name:List UInt8}(h:(Ce s name).2=0):DK name∧AT Nm.name s.now.1 name∧s.off=false∧(Ce s name).1=CD s.now.1 name:=by
 unfold Ce at h⊢;split at h
 ·simp at h
 ·split at h
  ·simp at h
  ·split at h
   ·rename_i h1 h2 h3
    rw[if_neg h1,if_neg h2,if_pos h3];exact⟨Aj0 h2,h3,by simpa using h1,rfl⟩
   ·simp at h
theorem uT {N:Nat}{s:StS}(h:SW N s)(name:List UInt8)(make:Bool):SW (N+1) (DT s name make).2:=by
 unfold DT
 split
 ·exact h.mono (by omega)
 ·rename_i hf
  have hn:DK name:=(kZ (Aj0 λq=>hf (.inl q))).1;have ho:cX (Dq name (s.made+1)):=⟨by simp[Dq],hn.2.1,by simp[Dq]⟩;have hd:=UE h ho;have hwt:wt (Dq name (s.made+1))=1:=rfl;rw[hwt]at hd
  split
  ·exact h.mono (by omega)
  ·split
   ·exact hd
   ·exact⟨hd.now,hd.kept,hd.ob,by simp only;have:=h.made;omega,hd.cap,hd.armed⟩
abbrev Ab5:=And.intro @Aa1 @ne_eq.{1}
abbrev Ad8:=And.intro @Aa5 @Ab5
abbrev Ad9:=And.intro @Ab @Ac6
abbrev Af4:=And.intro @Ac4 @At
theorem pE {N:Nat}{s:StS}{os:Nat}{p:AV}{H:AH}(h:StAt s os p H)(hw:SW N s)(hN:N<900000){name:List UInt8}(hn:name.length≤9223372036854775807)(make:Bool):
  ∃r H',(r=.tup [I (DT s name make).1.1,I (DT s name make).1.2]∧∃p',StAt (DT s name make).2 os p' H'∧StF os p p' H H')∧BCall prog 13 [.ptr os 0,S (B0 name),B make] H r H':=Tv (by
 unfold PJ;refine bC_of (iS h hw (by omega) hn) ?_;have hmade:=hw.made;simp only[Ad9,C2,Bc]
 by_cases h3:(Ce s name).2=3
 ·obtain⟨hm,hk,hoff⟩:=kZ h3
  simp only[h3,Aa0,E0,Pr,Af4,Bg];cases make with
  | false=>
   have e:DT s name false=(Ce s name,s):=by unfold DT;rw[if_pos (.inr rfl)]
   rw[e];simp only[Aa3];exact⟨by rw[h3],p,h,.refl _ _ _⟩
  | true=>
   have hn0:¬((Ce s name).2≠3∨true=false):=by rintro(q | q);exact q h3;cases q
   have h':=h;obtain⟨a,b,c,d,pv,hc⟩:=h;obtain⟨a',b',dv,eab,sa,sb,-⟩:=hc.now;injection eab with eab;injection eab with ea eb;subst ea;simp only[Af5,A0,Ab2,Al9,Ah hc.obj,Ab0,sa.len,Xp]
   by_cases h16:16≤s.now.1.length
   ·have h16I:(16:Int)≤(s.now.1.length:Int):=by omega
    have e:DT s name true=((0,4),s):=by unfold DT;rw[if_neg hn0,if_pos h16]
    rw[e];simp only[h16I,Ad7];exact⟨by trivial,p,h',.refl _ _ _⟩
   ·have h16I:¬(16:Int)≤(s.now.1.length:Int):=by omega
    have ho:cX (Dq name (s.made+1)):=⟨by simp[Dq],hm.2.1,by simp[Dq]⟩;have e1:Ar .add (I s.made) (I 1)=some (I (s.made+1)):=Ax (by omega) (by omega);have e2:E5 [(I 0),(I 0),(I 0),(I 0),(B false),(.lit (.string ⟨#[]⟩)),(.lit (.string ⟨#[]⟩)),Ac] [(0,1,(I 1)),(5,1,S (B0 name)),(1,1,I (s.made+1))]=some (.agg (By (Dq name (s.made+1)) Ac)):=rfl;simp only[h16I,Ac1,Ab,e1,e2];obtain⟨r,H2,⟨rfl,p2,h2,f2⟩,hcall⟩:=iN (bv:=Ac) h' hw (by omega) SV.nil ho;refine bC_of hcall ?_;simp only[C2,Aa8]
    by_cases hd:(G7 s (Dq name (s.made+1))).1=0
    ·have e:DT s name true=((s.made+1,0),{(G7 s (Dq name (s.made+1))).2 with made:=s.made+1}):=by unfold DT;rw[if_neg hn0,if_neg h16,if_neg (by rw[hd];simp)]
     rw[e]
     have emade:(G7 s (Dq name (s.made+1))).2.made=s.made:=by
      obtain⟨-,-,-,q4,-⟩:=D0 s;unfold G7;split<;>exact q4
     obtain⟨a2,b2,c2,d2,pv2,hc2⟩:=h2;obtain⟨h3',f3⟩:=hc2.set (s':={(G7 s (Dq name (s.made+1))).2 with made:=s.made+1}) hc2.now hc2.kept rfl;have e3:AJ 1 H2 (.ptr os 6) (I (s.made+1))=some (H2.set os (some (.cells [I (G7 s (Dq name (s.made+1))).2.cap,a2,b2,c2,d2,p2,I (s.made+1),I (G7 s (Dq name (s.made+1))).2.armed,B (G7 s (Dq name (s.made+1))).2.off]))):=cY hc2.obj (by simp) rfl;have hob:=hc2.obj;rw[emade]at hob;simp only[hd,Aa0,Ac1,Ab,Ah hob,Ag,Ab0,e1,e3,AC,Ah h3'.obj];exact⟨by trivial,p2,⟨a2,b2,c2,d2,pv2,h3'⟩,f2.trans f3⟩
    ·have e:DT s name true=((0,(G7 s (Dq name (s.made+1))).1),(G7 s (Dq name (s.made+1))).2):=by unfold DT;rw[if_neg hn0,if_neg h16,if_pos hd]
     rw[e];simp only[hd,Ab5,DC];exact⟨by trivial,p2,h2,f2⟩
 ·have e:DT s name make=(Ce s name,s):=by unfold DT;rw[if_pos (.inl h3)]
  rw[e];simp only[h3,Ad8,show((true==false)=false)from rfl,Cf,Ac4];exact⟨by trivial,p,h,.refl _ _ _⟩)
def OQ (s:StS)(ino size:Int):Int×StS:=
 if(Au s ino).2≠0 then((Au s ino).2,s)else if Cx (Au s ino).1 size=none then(5,s)else G7 s (Zn ino size)
theorem sW {N:Nat}{s:StS}(h:SW N s)(ino size:Int):SW (N+1) (OQ s ino size).2:=by
 unfold OQ
 split
 ·exact h.mono (by omega)
 ·split
  ·exact h.mono (by omega)
  ·exact UE h (jK ino size)
theorem CC {N:Nat}{s:StS}(h:SW N s)(ino:Int):(Au s ino).1.2.length≤N:=by
 unfold Au
 split
 ·simp
 ·split
  ·rename_i hg
   obtain⟨d,hd,rfl⟩:=hg.2;rw[(Ud h.now.1 hd).1];exact h.now.2 d hd
  ·simp
abbrev Ab7:=And.intro @Option.isSome_none.{0} @if_true.{1}
abbrev Ac3:=And.intro @Aa2 @Option.isSome_some.{0}
abbrev Af1:=And.intro (And.intro @Ac8 @Ae7) @C2
abbrev Ag7:=And.intro (And.intro @Aa0 @Ab4) @E0
theorem tO {N:Nat}{s:StS}{os:Nat}{p:AV}{H:AH}(h:StAt s os p H)(hw:SW N s)(hN:N<900000)(ino size:Int):
  ∃r H',(r=I (OQ s ino size).1∧∃p',StAt (OQ s ino size).2 os p' H'∧StF os p p' H H')∧BCall prog 49 [.ptr os 0,I ino,I size] H r H':=PM (by
 unfold Lw;obtain⟨R,hR,r,H1,⟨rfl,g1⟩,hc⟩:=I4 h hw (by omega) ino;have hlen:=CC hw ino;refine bC_of hc ?_;unfold OQ;generalize Au s ino=ct at*;have oR:=SV.oneA hR;have h1:=h.grew g1;have g2:=Grew.app H1 [some (.cells [I ct.1.1,R])];have h2:=h1.grew g2;simp only[Af1,Hd _ _ oR]
 by_cases hc0:ct.2=0
 ·simp only[hc0,Ag7,Ah Da,Y6,Ab]
  obtain⟨R2,hR2,hp⟩:=NZ (size0:=ct.1.1) hR (by omega) size;refine As hp ?_;have oR2:=SV.oneA hR2;have g3:=Grew.app (H1++[some (AObj.cells [I ct.1.1,R])]) [some (.cells [I (cS (Cx (ct.1.1,ct.1.2) size)),R2])];have h3:=h2.grew g3;have ff:StF os p p H (H1++[some (AObj.cells [I ct.1.1,R])]++[some (.cells [I (cS (Cx (ct.1.1,ct.1.2) size)),R2])]):=.of_grew ((g1.trans g2).trans g3);simp only[Ac8,Hd _ _ oR2,Bg];cases ht:Cx (ct.1.1,ct.1.2) size with
  | none=>
   have ht':Cx ct.1 size=none:=ht;rw[ht]at h3 ff;simp only[Ab7,Aa3];exact⟨by trivial,p,h3,ff⟩
  | some c2=>
   have ht':¬Cx ct.1 size=none:=by rw[show Cx ct.1 size=some c2 from ht];simp
   rw[ht]at h3 ff;have e2:E5 [(I 0),(I 0),(I 0),(I 0),(B false),(.lit (.string ⟨#[]⟩)),(.lit (.string ⟨#[]⟩)),Ac] [(0,1,(I 3)),(1,1,I ino),(3,1,I size)]=some (.agg (By (Zn ino size) Ac)):=rfl;simp only[Ac3,Ao,e2];obtain⟨r,H2,⟨rfl,p2,h4,f4⟩,hcall⟩:=iN (bv:=Ac) (o:=Zn ino size) h3 hw (by omega) SV.nil (jK ino size);exact bC_of hcall ⟨rfl,p2,h4,ff.trans f4⟩
 ·simp only[hc0,Ad8]
  exact⟨by trivial,p,h2,.of_grew (g1.trans g2)⟩)
def Md (s:StS)(name to:List UInt8):Int×StS:=
 if s.off=false∧¬DK to then(5,s)else if(Ce s name).2≠0∨name=to then((Ce s name).2,s)else G7 s (Vp name to)
theorem cF {s:StS}{name to:List UInt8}(h1:¬(s.off=false∧¬DK to))(h2:¬((Ce s name).2≠0∨name=to)):cX (Vp name to):=by
 obtain⟨a1,a2,a3,-⟩:=aW (Aj0 λq=>h2 (.inl q));have:DK to:=Aj0 λq=>h1 ⟨a3,q⟩
 exact⟨by simp[Vp],a1.2.1,this.2.1⟩
theorem yB {N:Nat}{s:StS}(h:SW N s)(name to:List UInt8):SW (N+1) (Md s name to).2:=by
 unfold Md
 split
 ·exact h.mono (by omega)
 ·split
  ·exact h.mono (by omega)
  ·rename_i h1 h2;exact UE h (cF h1 h2)
theorem pM {N : Nat} {s : StS} {os : Nat} {p : AV} {H : AH} (h : StAt s os p H) (hw : SW N s) (hN : N < 900000) {name to : List UInt8} (hn : name.length≤9223372036854775807) (ht : to.length≤9223372036854775807) :
    ∃r H',(r=I (Md s name to).1∧∃p',StAt (Md s name to).2 os p' H'∧StF os p p' H H')∧BCall prog 48 [.ptr os 0,S (B0 name),S (B0 to)] H r H':=Rc (by
  unfold N9;have h':=h;obtain ⟨a,b,c,d,pv,hc⟩:=h;have rest : ¬ (s.off=false∧¬ DK to)→bC (BCall prog 58 [.ptr os 0,S (B0 name)] H) λv12 H13=>
      bO (Ai v12 0) λv14=>
      bO (Ai v12 1) λv15=>
      bO (Ar .neq v15 (I 0)) λv16=>
      bG v16 false λw17=>
      gO w17 (some (S (B0 name))) λv18=>
      bG v16 false λw19=>
      gO w19 (some (S (B0 to))) λv20=>
      bG v16 false λw21=>
      gO w21 (Xq .eql v18 v20) λv22=>
      bO (Ay v16 (B true) v22) λv23=>
      bB v23 λt24=>bI t24 (
      v15=I (Md s name to).1∧∃p',StAt (Md s name to).2 os p' H13∧StF os p p' H H13)
       (bO (E5 [(I 0),(I 0),(I 0),(I 0),(B false),(.lit (.string ⟨#[]⟩)),(.lit (.string ⟨#[]⟩)),Ac] [(0,1,(I 6)),(5,1,S (B0 name)),(6,1,S (B0 to))]) λv25=>
      bC (BCall prog 59 [.ptr os 0,v25] H13) λv26 H27=>
      v26=I (Md s name to).1∧∃p',StAt (Md s name to).2 os p' H27∧StF os p p' H H27):=by
    intro hno;refine bC_of (iS h' hw (by omega) hn) ?_;unfold Md;rw[if_neg hno];simp only[Ad9,C2,Bc]
    by_cases h0:(Ce s name).2=0
    · have eT:Xq .eql (S (B0 name)) (S (B0 to))=some (B (decide (name=to))):=PV;simp only[h0,Aa0,E0,Pr,Af4,eT,false_or]
      by_cases he:name=to
      · simp only[he,Aa5,Aw];exact⟨by trivial,p,h',.refl _ _ _⟩
      · have e2:E5 [(I 0),(I 0),(I 0),(I 0),(B false),(.lit (.string ⟨#[]⟩)),(.lit (.string ⟨#[]⟩)),Ac] [(0,1,(I 6)),(5,1,S (B0 name)),(6,1,S (B0 to))]=some (.agg (By (Vp name to) Ac)):=rfl;simp only[he,E0,Ab4,e2,Ab];obtain⟨r,H2,⟨rfl,p2,h4,f4⟩,hcall⟩:=iN (bv:=Ac) (o:=Vp name to) h' hw (by omega) SV.nil (cF hno (by rintro(q | q);exact q h0;exact he q));exact bC_of hcall ⟨rfl,p2,h4,f4⟩
    · simp only[h0,Ad8,show((true==false)=false)from rfl,Cf,Ac4,true_or];exact⟨by trivial,p,h',.refl _ _ _⟩
  simp only[A0,Af2,Ah hc.obj,Bg,Bc];cases ho:s.off with
  | true=>
    simp only[Af5,show((false==true)=false)from rfl,Cf,eR,A4,At];exact rest (λhh=>by rw[ho]at hh;cases hh.1)
  | false=>
    simp only[Ar7,Pr,lA,Ab];refine As (OU ht) ?_
    by_cases hm:DK to
    · simp only[hm,Aa5,Ag4,A4];exact rest (λhh=>hh.2 hm)
    · simp only[hm,E0,Ag2,Ag0];unfold Md;rw[if_pos ⟨ho,hm⟩];exact⟨rfl,p,h',.refl _ _ _⟩)
def Uo (s:StS)(name:List UInt8):Int×StS:=if(Ce s name).2≠0 then((Ce s name).2,s)else G7 s (TP name)
theorem yA {N:Nat}{s:StS}(h:SW N s)(name:List UInt8):SW (N+1) (Uo s name).2:=by
 unfold Uo
 split
 ·exact h.mono (by omega)
 ·rename_i h2
  exact UE h (bZ (aW (Aj0 h2)).1)
theorem pL {N:Nat}{s:StS}{os:Nat}{p:AV}{H:AH}(h:StAt s os p H)(hw:SW N s)(hN:N<900000){name:List UInt8}(hn:name.length≤9223372036854775807):
  ∃r H',(r=I (Uo s name).1∧∃p',StAt (Uo s name).2 os p' H'∧StF os p p' H H')∧BCall prog 47 [.ptr os 0,S (B0 name)] H r H':=QZ (by
 unfold N8;refine bC_of (iS h hw (by omega) hn) ?_;unfold Uo;simp only[Ac0,C2]
 by_cases h0:(Ce s name).2=0
 ·have e2:E5 [(I 0),(I 0),(I 0),(I 0),(B false),(.lit (.string ⟨#[]⟩)),(.lit (.string ⟨#[]⟩)),Ac] [(0,1,(I 7)),(5,1,S (B0 name))]=some (.agg (By (TP name) Ac)):=rfl
  simp only[h0,Ag7,e2,Ab];obtain⟨r,H2,⟨rfl,p2,h4,f4⟩,hcall⟩:=iN (bv:=Ac) (o:=TP name) h hw (by omega) SV.nil (bZ (aW h0).1);exact bC_of hcall ⟨rfl,p2,h4,f4⟩
 ·simp only[h0,Ad8]
  exact⟨by trivial,p,h,.refl _ _ _⟩)
def LF (s:StS)(ino pos n:Int):List UInt8×Int:=
 if(Au s ino).2≠0 then([],(Au s ino).2)else if pos<0∨n<0∨4096<n then([],5)else(KP (Au s ino).1.1 (Au s ino).1.2 pos n,0)
theorem KF {N:Nat}{s:StS}(h:SW N s){ino:Int}(h0:(Au s ino).2=0):∃d∈s.now.2,d.ino=ino∧(Au s ino).1=(d.size,d.l)∧s.off=false:=by
 unfold Au at h0⊢;split at h0
 ·simp at h0
 ·rename_i h1
  split at h0
  ·rename_i hg
   obtain⟨d,hd,rfl⟩:=hg.2;rw[if_neg h1,if_pos hg,(Ud h.now.1 hd).1];exact⟨d,hd,rfl,rfl,by simpa using h1⟩
  ·simp at h0
abbrev Ae4:=And.intro @Bc @Pr
abbrev Af0:=And.intro @Aa5 @Ae4
theorem wG {N:Nat}{s:StS}{os:Nat}{p:AV}{H:AH}(h:StAt s os p H)(hw:SW N s)(hN:N<900000)(ino pos n:Int):
  ∃R,SV IW 1 (LF s ino pos n).1 R∧∃r H',(r=.tup [R,I (LF s ino pos n).2]∧Grew H H')∧BCall prog 45 [.ptr os 0,I ino,I pos,I n] H r H':=by
 obtain⟨R,hR,r,H1,⟨rfl,g1⟩,hc⟩:=I4 h hw (by omega) ino;have hlen:=CC hw ino;have oR:=SV.oneA hR;have g2:=Grew.app H1 [some (.cells [I (Au s ino).1.1,R])]
 by_cases hc0:(Au s ino).2=0
 ·obtain⟨d,hd,hdi,hdc,hoff⟩:=KF hw hc0
  by_cases hb:pos<0∨n<0∨4096<n
  ·have e:LF s ino pos n=([],5):=by unfold LF;rw[if_neg (by rw[hc0];simp),if_pos hb]
   rw[e];refine⟨Ac,SV.nil,HD ?_⟩;unfold He;refine bC_of hc ?_;simp only[Af1,Hd _ _ oR,hc0,Aa0,Ac1,B1,Bc];have done:True∧Grew H (H1++[some (AObj.cells [I (Au s ino).1.1,R])]):=⟨trivial,g1.trans g2⟩
   by_cases c1:pos<0
   ·simp only[c1,Aa5,show((true==false)=false)from rfl,Cf,Ac4,Bc,Aw]
    exact done
   ·by_cases c2:n<0
    ·simp only[c1,E0,Af0,Af4,B1,c2,show((true==false)=false)from rfl,Cf,Aw]
     exact done
    ·have c3:4096<n:=by omega
     simp only[c1,E0,Ae4,Af4,B1,c2,EH,c3,Ad7];exact done
  ·have e:LF s ino pos n=(KP (Au s ino).1.1 (Au s ino).1.2 pos n,0):=by unfold LF;rw[if_neg (by rw[hc0];simp),if_neg hb]
   rw[e];have hmc:=hw.now.1.mc d hd;obtain⟨R2,hR2,hp⟩:=YZ hR (by omega) pos n;refine⟨R2,hR2,HD ?_⟩;unfold He;refine bC_of hc ?_;have c1:¬pos<0:=by omega
   have c2:¬n<0:=by omega
   have c3:¬4096<n:=by omega
   simp only[Af1,Hd _ _ oR,hc0,Aa0,Ac1,B1,Ae4,c1,c2,EH,c3,A4,At,Ah Da,Y6];exact As hp ⟨rfl,g1.trans g2⟩
 ·have e:LF s ino pos n=([],(Au s ino).2):=by unfold LF;rw[if_pos hc0]
  rw[e];refine⟨Ac,SV.nil,HD ?_⟩;unfold He;refine bC_of hc ?_;simp only[Af1,Hd _ _ oR,hc0,Ab5,DC];exact⟨by trivial,g1.trans g2⟩
theorem VRs.setK {G' G'':Cfg}(ht:Tr G' G''){a:AV}:∀{cs:List AV} {vs:List Value} (k:Nat),VRs G' cs vs→(∀b v,cs[k]?=some b→VR G' b v→VR G'' a v)→VRs G'' (cs.set k a) vs
 | [],vs,k,h,hk=>by simpa only[List.set_nil]using h.tr ht
 | b::cs,vs,0,h,hk=>by
  simp only[VRs,Ar4]at h⊢;obtain⟨v,r,e,h1,h2⟩:=h;exact⟨v,r,e,hk b v rfl h1,h2.tr ht⟩
 | b::cs,vs,k+1,h,hk=>by
  simp only[VRs,Ar5]at h⊢;obtain⟨v,r,e,h1,h2⟩:=h;exact⟨v,r,e,h1.tr ht,VRs.setK ht k h2 λb v hb=>hk b v (by simpa using hb)⟩
variable {P : Program}
theorem BCall.fzCell {f:FuncId}{args:List AV}{H X:AH}{r:AV}(h:BCall P f args H r X){o q k off len sz:Nat}{cap:Room}{cs cs0:List AV}(hoq:o≠q)(ho:X[o]?=some (some (.cells cs)))(hq:X[q]?=some (some (.cells cs0)))
  (hk:cs0[k]?=some (.sl o off len sz cap)) (hn:Az ((cs.drop off).take (len*sz))=true):
  BCall P f args H r ((X.set o none).set q (some (.cells (cs0.set k (.imm ((cs.drop off).take (len*sz)) len sz))))):=by
 intro G vs hH hv;refine(h G vs hH hv).mono ?_;rintro e w' ⟨r',X',G',v,rfl,rfl,hE,hx,hX,rfl,rfl⟩
 let L2:Nat→Prop:=λb=>G'.L b∧b≠(G'.μ o).1
 have hlen:(X'.set o none).length=X'.length:=by simp
 have gets:∀(i:Nat) (x:AObj),(X'.set o none)[i]?=some (some x)→i≠o∧X'[i]?=some (some x):=by
  intro i x hi
  by_cases c:o=i
  ·subst c
   rw[KI (B5.1 ho).1]at hi;cases hi
  ·rw[Cg c]at hi
   exact⟨λe=>c e.symm,hi⟩
 have hF:HR G' (X'.set o none):=hX.fewer hlen λi x hi=>(gets i x hi).2
 have hlive:∀(i:Nat) (x:AObj),(X'.set o none)[i]?=some (some x)→L2 (G'.μ i).1:=λi x hi=>
  ⟨hX.live i x (gets i x hi).2,λe=>(gets i x hi).1 (hX.inj i o x _ (gets i x hi).2 ho e)⟩
 have hF2:HR (G'.less L2) (X'.set o none):=hF.less L2 (λb hb=>hb.1) hlive;have ht:Tr G' (G'.less L2):=⟨Ah3 _,λ_ _=>rfl,λad vs hh=>hh.imp id λh=>⟨λhh=>h.1 (hh.imp (λz=>z.1) id),h.2⟩⟩;have hE2:Evo G (G'.less L2):=⟨hE.os,hE.tape,hE.output,hE.size,λk hk hL=>⟨(hE.keep k hk hL).1,λhh=>(hE.keep k hk hL).2 hh.1⟩,hE.n,hE.μ,hE.K⟩
 -- the slice,told frozen
 let X0:AH:=(List.replicate X'.length none).set o (some (.cells cs))
 have ol:=(B5.1 ho).1
 have get0:∀(i:Nat) (x:AObj),X0[i]?=some (some x)→i=o∧x=.cells cs:=by
  intro i x hi
  by_cases c:o=i
  ·subst c
   rw[KI (by simpa using ol)]at hi;injection hi with hi;injection hi with hi;exact⟨rfl,hi.symm⟩
  ·rw[Cg c,Ao3]at hi
   split at hi<;>cases hi
 have hX0:HR G' X0:=hX.fewer (by simp[X0]) λi x hi=>by
  obtain⟨rfl,rfl⟩:=get0 i x hi;exact ho
 have self0:X0[o]?=some (some (.cells cs)):=KI (by simpa using ol);obtain⟨n0,hf⟩:=EV X0 _ hn
 have hfz:NC X0 (n0+1) (.sl o off len sz cap)=some (.imm ((cs.drop off).take (len*sz)) len sz):=by
  simp only[NC,self0,hf n0 (Ah3 _),Ao6]
 have hcell:∀b v,cs0[k]?=some b→VR G' b v→VR (G'.less L2) (.imm ((cs.drop off).take (len*sz)) len sz) v:=by
  intro b v hb hv;rw[hk]at hb;injection hb with hb;subst hb;refine Yh (G':=G') (G'':=G'.less L2) rfl (λb hn hh=>hn (hh.imp (λz=>z.1) id)) hX0 ?_ (n0+1) _ v _ hv hfz;intro i x hi hh;obtain⟨rfl,rfl⟩:=get0 i x hi;rcases hh with hh | hh
  ·exact hh.2 rfl
  ·exact hX.dis _ (hX.live i _ ho) hh
 have hq':(X'.set o none)[q]?=some (some (.cells cs0)):=by rw[Cg hoq];exact hq
 have ql:=(B5.1 hq').1;refine⟨r',_,G'.less L2,v,rfl,rfl,hE2,hx.tr ht,?_,rfl,rfl⟩
 have back:∀(i:Nat) (x:AObj),((X'.set o none).set q (some (.cells (cs0.set k (.imm ((cs.drop off).take (len*sz)) len sz)))))[i]?=some (some x)→∃y,(X'.set o none)[i]?=some (some y):=by
  intro i x hi
  by_cases c:q=i
  ·subst c;exact⟨_,hq'⟩
  ·rw[Cg c]at hi;exact⟨_,hi⟩
 refine⟨by rw[Aj2];exact hF2.n,?_,?_,?_,hF2.lt,hF2.dis⟩
 ·intro i x hi
  by_cases c:q=i
  ·subst c
   rw[KI ql]at hi;injection hi with hi;injection hi with hi;subst hi;obtain⟨c,e,us,h1,h2,h3,h4,h5⟩:=hX.obj q _ hq;exact⟨c,e,us,h1,h2,by rw[Aj2];exact h3,VRs.setK ht k h4 hcell,h5⟩
  ·rw[Cg c]at hi
   exact hF2.obj i x hi
 ·intro i i' x x' hi hi' he
  obtain⟨y,hy⟩:=back i x hi;obtain⟨y',hy'⟩:=back i' x' hi';exact hF2.inj i i' y y' hy hy' he
 ·intro i x hi
  obtain⟨y,hy⟩:=back i x hi;exact hF2.live i y hy
end Go.Proofs.YtadghlcfbajamaaGreat.Av
end
