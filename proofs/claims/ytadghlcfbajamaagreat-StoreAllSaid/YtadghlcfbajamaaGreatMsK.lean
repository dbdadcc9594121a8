/- Texts of this proof, one behind the other, packed into one file by a program of this session. No condition. -/
import Derived.Test.YtadghlcfbajamaaGreatMsJ
import Derived.OrdersIn
import Derived.RangeFuncNested
set_option linter.unusedVariables false
set_option linter.unusedSimpArgs false
set_option maxRecDepth 100000
namespace Go.Proofs.YtadghlcfbajamaaGreat.Av
open Go Go.RowKit Go.Proofs.Tryz
section
structure DsC (s:StS)(os:Nat)(a b c d p:AV)(pv:List OpV)(H:AH):Prop where
 obj:H[os]?=some (some (.cells [a,b,c,d,p,I s.cap,I s.made,I s.armed,B s.off]))
 now:ImV s.now.1 s.now.2 (.agg [a,b])
 kept:ImV s.kept.1 s.kept.2 (.agg [c,d])
 pm:pv.map OpV.o=s.pend
 ps:Ad H 8 p=some (pv.flatMap HJ,pv.length)
 po:Bh p=true
 pi:os∉Bl p
def DsAt (s:StS)(os:Nat)(p:AV)(H:AH):Prop:=∃a b c d pv,DsC s os a b c d p pv H
theorem DsC.lt {s:StS}{os:Nat}{a b c d p:AV}{pv:List OpV}{H:AH}(h:DsC s os a b c d p pv H):os<H.length:=(B5.1 h.obj).1
theorem DsC.grew {s:StS}{os:Nat}{a b c d p:AV}{pv:List OpV}{H H':AH}(h:DsC s os a b c d p pv H)(g:Grew H H'):DsC s os a b c d p pv H':=
 ⟨g.cells h.obj,h.now,h.kept,h.pm,g.slice h.ps,h.po,h.pi⟩
theorem DsAt.grew {s:StS}{os:Nat}{p:AV}{H H':AH}(h:DsAt s os p H)(g:Grew H H'):DsAt s os p H':=by
 obtain⟨a,b,c,d,pv,h⟩:=h;exact⟨a,b,c,d,pv,h.grew g⟩
theorem DsAt.os_lt {s:StS}{os:Nat}{p:AV}{H:AH}(h:DsAt s os p H):os<H.length:=by
 obtain⟨a,b,c,d,pv,h⟩:=h;exact h.lt
theorem DsAt.p_lt {s:StS}{os:Nat}{p:AV}{H:AH}(h:DsAt s os p H):∀j∈Bl p,j<H.length:=by
 obtain⟨a,b,c,d,pv,h⟩:=h;exact λj q=>A7 h.ps j q
theorem DsAt.keep {s:StS}{os:Nat}{p:AV}{H H':AH}(h:DsAt s os p H)(k1:H'[os]?=H[os]?)(k2:∀i∈Bl p,H'[i]?=H[i]?):DsAt s os p H':=by
 obtain⟨a,b,c,d,pv,h⟩:=h;exact⟨a,b,c,d,pv,k1.trans h.obj,h.now,h.kept,h.pm,Af h.ps k2,h.po,h.pi⟩
theorem DsC.set {s s':StS}{os:Nat}{a b c d a' b' c' d' p:AV}{pv:List OpV}{H:AH}(h:DsC s os a b c d p pv H)(hn:ImV s'.now.1 s'.now.2 (.agg [a',b']))(hk:ImV s'.kept.1 s'.kept.2 (.agg [c',d']))(hp:s'.pend=s.pend):
  DsC s' os a' b' c' d' p pv (H.set os (some (.cells [a',b',c',d',p,I s'.cap,I s'.made,I s'.armed,B s'.off])))∧StF os p p H (H.set os (some (.cells [a',b',c',d',p,I s'.cap,I s'.made,I s'.armed,B s'.off]))):=by
 refine⟨⟨KI h.lt,hn,hk,by rw[hp];exact h.pm,Af h.ps λi q=>Cg (λe=>h.pi (by rw[e];exact q)),h.po,h.pi⟩,by simp,λj _ hne _=>Cg (Ak2 hne),λ_ q=>.inl q⟩
theorem sD (a b c d e f g h i:AV):Aq true 2 [a,b,c,d,e,f,g,h,i] 0=some (.agg [a,b])∧Aq true 2 [a,b,c,d,e,f,g,h,i] 2=some (.agg [c,d]):=⟨rfl,rfl⟩
theorem zdfnZ {H:AH}{os:Nat}{x0 x1 x2 x3 x4 x5 x6 x7 x8 a b:AV}(h:H[os]?=some (some (.cells [x0,x1,x2,x3,x4,x5,x6,x7,x8])))(ha:oneA a=true)(hb:oneA b=true):
  AJ 2 H (.ptr os 0) (.agg [a,b])=some (H.set os (some (.cells [a,b,x2,x3,x4,x5,x6,x7,x8])))∧AJ 2 H (.ptr os 2) (.agg [a,b])=some (H.set os (some (.cells [x0,x1,a,b,x4,x5,x6,x7,x8]))):=by
 constructor
 ·rw[AF (n:=2) (off:=0) (xs:=[a,b]) (by simp[ha,hb]) h rfl (by simp)];rfl
 ·rw[AF (n:=2) (off:=2) (xs:=[a,b]) (by simp[ha,hb]) h rfl (by simp)];rfl
theorem wF (room:Int)(H:AH)(hr:room≤9223372036854775807):∃r H',(r=.ptr H.length 0∧H'.length=H.length+1∧DsAt (KK room) H.length Ac H'∧Grew H H')∧BCall prog 12 [I room] H r H':=P5 (by
 unfold Lm;have e1:amm Wb [I room,(I 0)]=some (I (max room 0)):=by rw[NQ,Wc,At4]
 have e2:amm cZ [I (max room 0),(I 4096)]=some (I (min (max room 0) 4096)):=by rw[NQ,rD,Int.min_comm]
 have e3:E5 [Ac,Ac,Ac,Ac,Ac,(I 0),(I 0),(I 0),(B false)] [(5,1,I (min (max room 0) 4096)),(7,1,(I (-1)))]=some (.agg [Ac,Ac,Ac,Ac,Ac,I (min (max room 0) 4096),I 0,I (-1),B false]):=rfl;have e4:A9 H (.agg [Ac,Ac,Ac,Ac,Ac,I (min (max room 0) 4096),I 0,I (-1),B false])=some (.ptr H.length 0,H++[some (.cells [Ac,Ac,Ac,Ac,Ac,I (min (max room 0) 4096),I 0,I (-1),B false])]):=by simp
 rw[e1,Ab,e2,Ab,e3,Ab,e4,AA];have hI:ImV [] [] (.agg [Ac,Ac]):=⟨Ac,Ac,[],rfl,SV.nil,SV.nil,rfl⟩;exact⟨rfl,by simp,⟨Ac,Ac,Ac,Ac,[],⟨Da,hI,hI,rfl,rfl,rfl,by simp[Bl]⟩⟩,Grew.app _ _⟩)
theorem wD {s:StS}{os:Nat}{p:AV}{H:AH}(h:DsAt s os p H)(n:Int):∃r H',(r=.tup []∧DsAt (iH s n) os p H'∧StF os p p H H')∧BCall prog 16 [.ptr os 0,I n] H r H':=OH (by
 obtain⟨a,b,c,d,pv,h⟩:=h;unfold Kb;have e1:amm Wb [I n,(I (-1))]=some (I (max n (-1))):=by rw[NQ,Wc,At4]
 obtain⟨h2,h3⟩:=h.set (s':=iH s n) h.now h.kept rfl;have e2:AJ 1 H (.ptr os 7) (I (max n (-1)))=some (H.set os (some (.cells [a,b,c,d,p,I s.cap,I s.made,I (max n (-1)),B s.off]))):=cY h.obj (by simp) rfl;simp only[e1,Ab,A0,An,e2,AC];exact⟨by trivial,⟨a,b,c,d,pv,h2⟩,h3⟩)
theorem kH {s:StS}{os:Nat}{p:AV}{H:AH}(h:DsAt s os p H)(hb: -1≤s.armed∧s.armed≤9223372036854775807):∃r H',(r=B (A5 s).1∧DsAt (A5 s).2 os p H'∧StF os p p H H')∧BCall prog 113 [.ptr os 0] H r H':=NL (by
 obtain⟨a,b,c,d,pv,h⟩:=h;unfold J2;simp only[Ag3,Ah h.obj,Cp]
 have j3:∀(s':StS) (b0:Bool) (H':AH),DsC s' os a b c d p pv H'→StF os p p H H'→A5 s=(!s'.off,s')→Dw (.ptr os 0) H' (λr H'=>r=B (A5 s).1∧DsAt (A5 s).2 os p H'∧StF os p p H H'):=by
  intro s' b0 H' h' f e;rw[LC];unfold Gs;simp only[A0,Af2,Ah h'.obj,Bg,e];exact⟨by trivial,⟨a,b,c,d,pv,h'⟩,f⟩
 have j1:∀(s':StS) (H':AH),DsC s' os a b c d p pv H'→StF os p p H H'→(s'.off=true→A5 s=(false,s'))→(s'.off=false→s'=s∧s.armed≠0)→s'.armed=s.armed→Dv (.ptr os 0) H' (λr H'=>r=B (A5 s).1∧DsAt (A5 s).2 os p H'∧StF os p p H H'):=by
  intro s' H' h' f e1 e2 e3;rw[LB];unfold Gr;simp only[A0,Af2,Ah h'.obj,Bg,Bc];cases ho:s'.off with
  | true=>
   simp only[Aa2,show((false==true)=false)from rfl,Cf,A4,At];rw[Ga];unfold Ed;simp only[Al,Ao];exact j3 s' true H' h' f (by rw[ho];exact e1 ho)
  | false=>
   obtain⟨rfl,h0⟩:=e2 ho;have hn:¬(s'.off=true∨s'.armed=0):=by rintro(q | q);rw[ho]at q;cases q;exact h0 q
   simp only[Ac2,Pr,Af2,A0,Ah h'.obj,EH,A4];rw[Ga];unfold Ed
   by_cases hp:0<s'.armed
   ·have e:A5 s'=(true,{s' with armed:=s'.armed - 1}):=by unfold A5;rw[if_neg hn,if_pos hp]
    obtain⟨h2,h3⟩:=h'.set (s':={s' with armed:=s'.armed - 1}) h'.now h'.kept rfl;have q1:Ar .sub (I s'.armed) (I 1)=some (I (s'.armed - 1)):=Bv (by omega) (by omega);have q2:AJ 1 H' (.ptr os 7) (I (s'.armed - 1))=some (H'.set os (some (.cells [a,b,c,d,p,I s'.cap,I s'.made,I (s'.armed - 1),B s'.off]))):=cY h'.obj (by simp) rfl;simp only[hp,Ad7,Ag3,Ah h'.obj,q1,q2,AC];exact j3 _ true _ h2 (f.trans h3) (by simp only[ho,Ar7]at e⊢;exact e)
   ·have e:A5 s'=(true,s'):=by unfold A5;rw[if_neg hn,if_neg hp]
    simp only[hp,Ac1,Al];exact j3 s' true H' h' f (by rw[ho];exact e)
 by_cases h0:s.armed=0
 ·obtain⟨h2,h3⟩:=h.set (s':={s with off:=true}) h.now h.kept rfl
  have e2:AJ 1 H (.ptr os 8) (B true)=some (H.set os (some (.cells [a,b,c,d,p,I s.cap,I s.made,I s.armed,B true]))):=cY h.obj (by simp) rfl;simp only[h0,Ad7];rw[h0]at e2;simp only[e2,AC];have h2':=h2;simp only[h0]at h2 h3;exact j1 _ _ h2 h3 (λ_=>by unfold A5;rw[if_pos (.inr h0)];simp[h0]) (λq=>by cases q) h0.symm
 ·simp only[h0,Ac1]
  exact j1 s H h (.refl _ _ _) (λq=>by
   unfold A5;rw[if_pos (.inl q)]
   congr 1
   cases s;simp only at q;subst q
   rfl) (λ_=>⟨rfl,h0⟩) rfl)
theorem X3 {N:Nat}{s:StS}{os:Nat}{p bv:AV}{H:AH}{o:OpM}(h:DsAt s os p H)(hw:SW N s)(hN:N≤900000)(hb:SV IW 1 o.b bv)(ho:cX o):
  ∃r H',(r=I (G7 s o).1∧∃p',DsAt (G7 s o).2 os p' H'∧StF os p p' H H')∧BCall prog 62 [.ptr os 0,.agg (By o bv)] H r H':=by
 have h0:=h;obtain⟨a0,b0,c0,d0,pv0,hc0⟩:=h;have obv:=SV.oneA hb;have e1:A9 H (.agg (By o bv))=some (.ptr H.length 0,H++[some (.cells (By o bv))]):=by simp[By,obv]
 have g:=Grew.app H [some (.cells (By o bv))];obtain⟨r,H3,⟨rfl,h3,f3⟩,hc⟩:=kH (h0.grew g) hw.armed;have sm:=hw.now.sm (by omega);obtain⟨q1,q2,q3,q4,q5⟩:=D0 s;cases hd:(A5 s).1 with
 | false=>
  have e:G7 s o=(8,(A5 s).2):=by unfold G7;rw[if_neg (by rw[hd];simp)]
  rw[e];refine IQ ?_;unfold GR;rw[e1,AA];refine bC_of hc ?_;simp only[hd,Ag2,Aa8];exact⟨by trivial,p,h3,(StF.of_grew g).trans f3⟩
 | true=>
  have e:G7 s o=(0,{(A5 s).2 with now:=AG s.now.1 s.now.2 o,pend:=s.pend++[o]}):=by unfold G7;rw[if_pos hd]
  rw[e];have hos:os<H.length:=hc0.lt;have hid:∀j∈Bl p,j<H.length:=λj q=>A7 hc0.ps j q
  obtain⟨a,b,c,d,pv,h3⟩:=h3;have hl3:H.length+1≤H3.length:=by have:=f3.len;simpa using this
  have c3:H3[H.length]?=some (some (.cells (By o bv))):=by
   rw[f3.same H.length (by simp) (by omega) (λq=>by have:=hid _ q;omega)];exact Da
  obtain⟨R,hR,hp⟩:=Sn (o:=o) (bv:=bv) h3.now (by rw[q1];exact sm) hb (by have:=ho.1;omega) (by have:=ho.2.1;omega) (by have:=ho.2.2;omega);rw[q1]at hR;obtain⟨a',b',rfl,oa,ob⟩:=hR.agg2;have rd8:∀w:AV,Aq true 8 (By o w) 0=some (.agg (By o w)):=λ_=>rfl
  obtain⟨h4,f4⟩:=h3.set (s':={(A5 s).2 with now:=AG s.now.1 s.now.2 o}) hR h3.kept rfl;have c4:(H3.set os (some (AObj.cells [a',b',c,d,p,I (A5 s).2.cap,I (A5 s).2.made,I (A5 s).2.armed,B (A5 s).2.off])))[H.length]?=some (some (.cells (By o bv))):=by rw[Cg (by omega)];exact c3
  simp only at h4 f4;have hl4:(H3.set os (some (AObj.cells [a',b',c,d,p,I (A5 s).2.cap,I (A5 s).2.made,I (A5 s).2.armed,B (A5 s).2.off]))).length=H3.length:=by simp
  have q0:=(zdfnZ h3.obj oa ob).1;generalize hH4:H3.set os (some (AObj.cells [a',b',c,d,p,I (A5 s).2.cap,I (A5 s).2.made,I (A5 s).2.armed,B (A5 s).2.off]))=H4 at*;have hpl:pv.length=s.pend.length:=by rw[← q3,← h3.pm,Ai2]
  have hplN:=hw.plen;have hbb:=ho.1
  -- whatever the copy's value is
  have main:∀(w:AV) (H5:AH),oneA w=true→HG 1 1 H4 Ac bv=some (w,H5)→Grew H4 H5→
    ∃r H6,HG 8 96 (H5.set H.length (some (.cells (By o w)))) p (.imm (By o w) 1 8)=some (r,H6)∧Bh r=true∧Ad H6 8 r=some (pv.flatMap HJ++By o w,pv.length+1)∧H5.length≤H6.length∧
     (∀i,i<H5.length→i≠H.length→i∉Bl p→H6[i]?=H5[i]?)∧(∀i∈Bl r,i∈Bl p∨H5.length≤i)∧
     BCall prog 62 [.ptr os 0,.agg (By o bv)] H (I 0) (H6.set os (some (.cells [a',b',c,d,r,I (A5 s).2.cap,I (A5 s).2.made,I (A5 s).2.armed,B (A5 s).2.off]))):=by
   intro w H5 ow ha5 g5;have lt5:H.length<H5.length:=by have:=g5.1;omega
   have s5:AJ 1 H5 (.ptr H.length 7) w=some (H5.set H.length (some (.cells (By o w)))):=by
    rw[AF (n:=1) (xs:=[w]) (cs:=By o bv) (BE ow) (g5.cells c4) rfl (by simp[By])];simp[By,AZ]
   have c6:(H5.set H.length (some (AObj.cells (By o w))))[H.length]?=some (some (.cells (By o w))):=KI lt5
   have o6:(H5.set H.length (some (AObj.cells (By o w))))[os]?=some (some (.cells [a',b',c,d,p,I (A5 s).2.cap,I (A5 s).2.made,I (A5 s).2.armed,B (A5 s).2.off])):=by
    rw[Cg (by omega)];exact g5.cells h4.obj
   have p6:Ad (H5.set H.length (some (AObj.cells (By o w)))) 8 p=some (pv.flatMap HJ,pv.length):=Af (g5.slice h4.ps) λi q=>Cg (by have:=hid i q;omega)
   have e6:U3 8 1 (BI [(I 0),(I 0),(I 0),(I 0),(B false),(.lit (.string ⟨#[]⟩)),(.lit (.string ⟨#[]⟩)),Ac] 1) [(0,8,.agg (By o w))]=some (.imm (By o w) 1 8):=by
    simp[U3,BI,By,Mv,ow,AZ]
   have x1:Bm (H5.set H.length (some (AObj.cells (By o w)))) 8 (.imm (By o w) 1 8)=some (By o w,1):=A3 (by simp[Ad,By]);obtain⟨r,H6,a1,a2,a3,a4,a5,a6⟩:=CT (bytes:=96) p6 h4.po x1 (by omega);rw[Aj2]at a4 a6
   have a5':∀i,i<H5.length→i≠H.length→i∉Bl p→H6[i]?=H5[i]?:=λi hi hn hp=>by
    rw[a5 i (by rw[Aj2];exact hi) hp,Cg (Ak2 hn)]
   have c7:H6[os]?=some (some (.cells [a',b',c,d,p,I (A5 s).2.cap,I (A5 s).2.made,I (A5 s).2.armed,B (A5 s).2.off])):=by
    rw[a5' os (by omega) (by omega) h4.pi];exact g5.cells h4.obj
   have e7:AJ 1 H6 (.ptr os 4) r=some (H6.set os (some (.cells [a',b',c,d,r,I (A5 s).2.cap,I (A5 s).2.made,I (A5 s).2.armed,B (A5 s).2.off]))):=cY c7 (by simp) (AI a2);refine⟨r,H6,a1,a2,a3,a4,a5',a6,?_⟩
   obtain⟨r',H',⟨rfl,rfl⟩,hcall⟩:=IQ (a0:=.ptr os 0) (a1:=.agg (By o bv)) (H:=H) (K:=λr' H'=>r'=I 0∧H'=H6.set os (some (.cells [a',b',c,d,r,I (A5 s).2.cap,I (A5 s).2.made,I (A5 s).2.armed,B (A5 s).2.off]))) (by
    unfold GR;rw[e1,AA];refine bC_of hc ?_;simp only[hd,Ag4,A0,An,Ah h3.obj,(sD _ _ _ _ _ _ _ _ _).1,Ah c3,rd8];refine bP_of hp ?_;have i7:(By o bv)[7]?=some bv:=rfl;simp only[Ab,q0,AC,Ah c4,Ag,i7,ha5,AA,s5,Ah o6,Ab0,Ah c6,rd8,e6,a1,e7];exact⟨by trivial,by trivial⟩)
   exact hcall
  have bvl:=hb.bytes H4;have xa:Bm H4 1 bv=some (B2 o.b,o.b.length):=A3 bvl
  have fr:∀(H5 H6 X:AH) (r:AV),Grew H4 H5→H5.length≤H6.length→(∀i,i<H5.length→i≠H.length→i∉Bl p→H6[i]?=H5[i]?)→(∀i∈Bl r,i∈Bl p∨H5.length≤i)→X.length=H6.length→(∀j,j<H.length→j≠os→j∉Bl p→X[j]?=H6[j]?)→StF os p r H X:=by
   intro H5 H6 X r g5 a4 a5 a6 hx1 hx2
   have:=g5.1
   refine⟨by omega,λj hj hne hjp=>?_,λj hj=>(a6 j hj).imp id (λz=>by omega)⟩;rw[hx2 j hj hne hjp,a5 j (by omega) (by omega) hjp,g5.2 j (by omega),f4.same j (by omega) hne hjp,f3.same j (by simp;omega) hne hjp,g.2 j hj]
  rcases Al1 o.b.length with hz | hz
  ·have hnil:o.b=[]:=List.length_eq_zero_iff.1 hz
   have ha5:HG 1 1 H4 Ac bv=some (Ac,H4):=by
    unfold HG;rw[xa];simp only[NP,hz,if_true]
   obtain⟨r,H6,a1,a2,a3,a4,a5,a6,hcall⟩:=main Ac H4 rfl ha5 (Grew.refl _);have hsv:SV IW 1 o.b Ac:=by rw[hnil];exact SV.nil
   have hor:os∉Bl r:=λq=>(a6 os q).elim h4.pi (λq=>by omega)
   have hl6:os<H6.length:=by omega
   refine⟨_,_,⟨rfl,r,⟨a',b',c,d,pv++[⟨o,Ac,hsv⟩],KI hl6,hR,h3.kept,?_,?_,a2,hor⟩,?_⟩,hcall⟩
   ·rw[Aj4,h3.pm,q3];rfl
   ·have:=Af a3 (H':=H6.set os (some (.cells [a',b',c,d,r,I (A5 s).2.cap,I (A5 s).2.made,I (A5 s).2.armed,B (A5 s).2.off]))) λi q=>Cg (λe=>hor (by rw[e];exact q))
    rw[this];simp[HJ]
   ·exact fr H4 H6 _ r (Grew.refl _) a4 a5 a6 (by rw[Aj2]) λj hj hne hjp=>Cg (Ak2 hne)
  ·have ha5:HG 1 1 H4 Ac bv=some (.sl H4.length 0 o.b.length 1 (.ge o.b.length),H4++[some (.cells (B2 o.b))]):=by
    unfold HG;rw[xa];have:¬o.b.length=0:=by omega
    simp only[NP,this,if_false];rw[if_pos (by omega)]
   have g5:=Grew.app H4 [some (AObj.cells (B2 o.b))];have l5:(H4++[some (AObj.cells (B2 o.b))]).length=H4.length+1:=by simp
   have b5:(H4++[some (AObj.cells (B2 o.b))])[H4.length]?=some (some (AObj.cells (B2 o.b))):=Da;generalize (H4++[some (AObj.cells (B2 o.b))])=H5 at*;obtain⟨r,H6,a1,a2,a3,a4,a5,a6,hcall⟩:=main (.sl H4.length 0 o.b.length 1 (.ge o.b.length)) H5 rfl ha5 g5;have hor:os∉Bl r:=λq=>(a6 os q).elim h4.pi (λq=>by omega)
   have hl6:os<H6.length:=by omega
   obtain⟨q,off,cap,c1,rfl,hq,hfit,a31⟩:=HN a3 a2 (Nat.succ_pos _);have a31:=a31.symm
   have hlenp:(pv.flatMap HJ).length=pv.length*8:=by
    have:=BG h4.ps
    exact this
   have hqB:H4.length≠q:=λz=>by
    rcases a6 q (by simp[Bl])with y | y
    ·have:=hid q y;omega
    ·omega
   have hqo:q≠os:=λz=>hor (by simp[Bl,z])
   have hk:c1[off+(pv.length*8+7)]?=some (.sl H4.length 0 o.b.length 1 (.ge o.b.length)):=by
    have h1:((c1.drop off).take ((pv.length+1)*8))[pv.length*8+7]?=some (.sl H4.length 0 o.b.length 1 (.ge o.b.length)):=by
     rw[a31,Ah0 (by omega),hlenp,show pv.length*8+7 - pv.length*8=7 by omega];rfl
    rw[Ap1 (by omega),Ah6]at h1;exact h1
   have hX1:(H6.set os (some (AObj.cells [a',b',c,d,.sl q off (pv.length+1) 8 cap,I (A5 s).2.cap,I (A5 s).2.made,I (A5 s).2.armed,B (A5 s).2.off])))[q]?=some (some (.cells c1)):=by
    rw[Cg (Ak2 hqo)];exact hq
   have hB6:H6[H4.length]?=some (some (.cells (B2 o.b))):=by
    rw[a5 H4.length (by omega) (by omega) (λz=>by have:=hid _ z;omega)];exact b5
   have hBo:os≠H4.length:=by omega
   have hX2:(H6.set os (some (AObj.cells [a',b',c,d,.sl q off (pv.length+1) 8 cap,I (A5 s).2.cap,I (A5 s).2.made,I (A5 s).2.armed,B (A5 s).2.off])))[H4.length]?=some (some (.cells (B2 o.b))):=by
    rw[Cg hBo];exact hB6
   have hfz:=BCall.fzCell hcall hqB hX2 hX1 hk (by
    rw[Ak9,Ao0,Ah4 (by rw[CV];exact Ah3 _)];exact KL o.b)
   rw[Ak9,Ao0,Ah4 (by rw[CV];exact Ah3 _)]at hfz
   have hsv:SV IW 1 o.b (.imm (B2 o.b) o.b.length 1):=by
    have:=SV.imm (enc:=IW) (sz:=1) (l:=o.b) (λ_=>rfl) (λx hx=>rfl)
    rwa[Mq]at this
   have hql:q<((H6.set os (some (AObj.cells [a',b',c,d,.sl q off (pv.length+1) 8 cap,I (A5 s).2.cap,I (A5 s).2.made,I (A5 s).2.armed,B (A5 s).2.off]))).set H4.length none).length:=by
    rw[Aj2,Aj2];exact(B5.1 hq).1
   refine⟨_,_,⟨rfl,.sl q off (pv.length+1) 8 cap,⟨a',b',c,d,pv++[⟨o,.imm (B2 o.b) o.b.length 1,hsv⟩],?_,hR,h3.kept,?_,?_,rfl,hor⟩,?_⟩,hfz⟩
   ·rw[Cg hqo,Cg (Ak2 hBo)]
    exact KI hl6
   ·rw[Aj4,h3.pm,q3];rfl
   ·rw[Bo (KI hql) (by rw[Aj2];exact hfit),List.drop_set,if_neg (by omega),show off+(pv.length*8+7) - off=pv.length*8+7 by omega,List.take_set,a31,As7 _ _ (by omega),hlenp,show pv.length*8+7 - pv.length*8=7 by omega,Ak4,Ah9]
    rfl
   ·refine fr H5 H6 _ _ g5 a4 a5 a6 (by simp) λj hj hne hjp=>?_
    have hjq:q≠j:=λz=>by
     rcases a6 q (by simp[Bl])with y | y
     ·exact hjp (z▸y)
     ·omega
    rw[Cg hjq,Cg (by omega),Cg (Ak2 hne)]
theorem kG {N:Nat}{s:StS}{os:Nat}{p:AV}{H:AH}(h:DsAt s os p H)(hw:SW N s)(hN:N<900000){name:List UInt8}(hn:name.length≤9223372036854775807)(make:Bool):
  ∃r H',(r=.tup [I (DT s name make).1.1,I (DT s name make).1.2]∧∃p',DsAt (DT s name make).2 os p' H'∧StF os p p' H H')∧BCall prog 14 [.ptr os 0,S (B0 name),B make] H r H':=NI (by
 unfold Jy;have h':=h;obtain⟨a,b,c,d,pv,hc⟩:=h;have hmade:=hw.made
 have stop:∀x y:Int,Ce s name=(x,y)→y≠3→(∃p',DsAt (DT s name make).2 os p' H∧StF os p p' H H)∧DT s name make=((x,y),s):=by
  intro x y e e2;have:DT s name make=(Ce s name,s):=by unfold DT;rw[if_pos (.inl (by rw[e];exact e2))]
  rw[this,e];exact⟨⟨p,h',.refl _ _ _⟩,rfl⟩
 simp only[Ag3,Ah hc.obj];cases hoff:s.off with
 | true=>
  have e:Ce s name=(0,8):=by unfold Ce;rw[if_pos hoff]
  obtain⟨q1,q2⟩:=stop 0 8 e (by omega);simp only[Aw];exact⟨by rw[q2],q1⟩
 | false=>
  simp only[Ao];refine As (EX hn) ?_
  by_cases hm:DK name
  ·have hf:=jR hc.now (hw.now.sm (by omega)) name
   obtain⟨w1,w2⟩:=kY hw.now.1 name;rw[w1,show decide (SZ s.now.1 s.now.2 name)=decide (AT Nm.name s.now.1 name)from decide_eq_decide.2 w2]at hf;simp only[hm,DC,Ag4,(sD _ _ _ _ _ _ _ _ _).1];refine As hf ?_
   by_cases hk:AT Nm.name s.now.1 name
   ·have e:Ce s name=(CD s.now.1 name,0):=by unfold Ce;rw[if_neg (by rw[hoff];simp),if_neg (λq=>q hm),if_pos hk]
    obtain⟨q1,q2⟩:=stop _ _ e (by omega);simp only[Ac0,hk,Ad7];exact⟨by rw[q2],q1⟩
   ·have e3:Ce s name=(0,3):=by unfold Ce;rw[if_neg (by rw[hoff];simp),if_neg (λq=>q hm),if_neg hk]
    simp only[Ac0,hk,Ac1];cases make with
    | false=>
     have e:DT s name false=((0,3),s):=by unfold DT;rw[if_pos (.inr rfl),e3]
     rw[e];simp only[Aa3];exact⟨by trivial,p,h',.refl _ _ _⟩
    | true=>
     have hn0:¬((Ce s name).2≠3∨true=false):=by rintro(q | q);exact q (by rw[e3]);cases q
     obtain⟨a',b',dv,eab,sa,sb,-⟩:=hc.now;injection eab with eab;injection eab with ea eb;subst ea;simp only[Af5,sa.len,Xp]
     by_cases h16:16≤s.now.1.length
     ·have h16I:(16:Int)≤(s.now.1.length:Int):=by omega
      have e:DT s name true=((0,4),s):=by unfold DT;rw[if_neg hn0,if_pos h16]
      rw[e];simp only[h16I,Ad7];exact⟨by trivial,p,h',.refl _ _ _⟩
     ·have h16I:¬(16:Int)≤(s.now.1.length:Int):=by omega
      have ho:cX (Dq name (s.made+1)):=⟨by simp[Dq],hm.2.1,by simp[Dq]⟩;have e1:Ar .add (I s.made) (I 1)=some (I (s.made+1)):=Ax (by omega) (by omega);have e2:E5 [(I 0),(I 0),(I 0),(I 0),(B false),(.lit (.string ⟨#[]⟩)),(.lit (.string ⟨#[]⟩)),Ac] [(0,1,(I 1)),(5,1,S (B0 name)),(1,1,I (s.made+1))]=some (.agg (By (Dq name (s.made+1)) Ac)):=rfl;simp only[h16I,Ac1,Ab,e1,e2];obtain⟨r,H2,⟨rfl,p2,h2,f2⟩,hcall⟩:=X3 (bv:=Ac) h' hw (by omega) SV.nil ho;refine bC_of hcall ?_;simp only[C2,Aa8]
      by_cases hd:(G7 s (Dq name (s.made+1))).1=0
      ·have e:DT s name true=((s.made+1,0),{(G7 s (Dq name (s.made+1))).2 with made:=s.made+1}):=by unfold DT;rw[if_neg hn0,if_neg h16,if_neg (by rw[hd];simp)]
       rw[e]
       have emade:(G7 s (Dq name (s.made+1))).2.made=s.made:=by
        obtain⟨-,-,-,q4,-⟩:=D0 s;unfold G7;split<;>exact q4
       obtain⟨a2,b2,c2,d2,pv2,hc2⟩:=h2;obtain⟨h3',f3⟩:=hc2.set (s':={(G7 s (Dq name (s.made+1))).2 with made:=s.made+1}) hc2.now hc2.kept rfl;have e3:AJ 1 H2 (.ptr os 6) (I (s.made+1))=some (H2.set os (some (.cells [a2,b2,c2,d2,p2,I (G7 s (Dq name (s.made+1))).2.cap,I (s.made+1),I (G7 s (Dq name (s.made+1))).2.armed,B (G7 s (Dq name (s.made+1))).2.off]))):=cY hc2.obj (by simp) rfl;have hob:=hc2.obj;rw[emade]at hob;simp only[hd,Aa0,Ac1,Ab,Ah hob,Ag,Ab0,e1,e3,AC,Ah h3'.obj];exact⟨by trivial,p2,⟨a2,b2,c2,d2,pv2,h3'⟩,f2.trans f3⟩
      ·have e:DT s name true=((0,(G7 s (Dq name (s.made+1))).1),(G7 s (Dq name (s.made+1))).2):=by unfold DT;rw[if_neg hn0,if_neg h16,if_pos hd]
       rw[e];simp only[hd,Ab5,DC];exact⟨by trivial,p2,h2,f2⟩
  ·have e:Ce s name=(0,5):=by unfold Ce;rw[if_neg (by rw[hoff];simp),if_pos hm]
   obtain⟨q1,q2⟩:=stop 0 5 e (by omega);simp only[hm,E0,Ag2,Aa8];exact⟨by rw[q2],q1⟩)
theorem NO {N:Nat}{s:StS}{os:Nat}{p:AV}{H:AH}(h:DsAt s os p H)(hw:SW N s)(hN:N≤900000)(ino:Int):
  ∃R,SV A6 9 (Au s ino).1.2 R∧∃r H',(r=.tup [.agg [I (Au s ino).1.1,R],I (Au s ino).2]∧Grew H H')∧BCall prog 67 [.ptr os 0,I ino] H r H':=by
 obtain⟨a,b,c,d,pv,h⟩:=h;have e0:E5 [(I 0),Ac] []=some (.agg [I 0,Ac]):=rfl;have g:=Grew.app H [some (.cells [I 0,Ac])];cases ho:s.off with
 | true=>
  have e:Au s ino=((0,[]),8):=by unfold Au;rw[if_pos ho]
  rw[e];refine⟨Ac,SV.nil,EF ?_⟩;unfold Ee;simp only[Ae7,Ag3,Ah (g.cells h.obj),ho,Aw,e0,Hd H 0 (R:=Ac) rfl,AC,Ah Da,Y6];exact⟨by trivial,Grew.app _ _⟩
 | false=>
  have sm:=hw.now.sm (by omega);obtain⟨R,hR,hp⟩:=ZN h.now sm ino;have oR:=SV.oneA hR
  by_cases hg:Xa s.now.1 s.now.2 ino
  ·have e:Au s ino=(((Fl s.now.1 s.now.2 ino).size,(Fl s.now.1 s.now.2 ino).l),0):=by unfold Au;rw[if_neg (by rw[ho];simp),if_pos hg]
   rw[e];refine⟨R,hR,EF ?_⟩;unfold Ee;simp only[Ae7,Ag3,Ah (g.cells h.obj),ho,Ao,(sD _ _ _ _ _ _ _ _ _).1];refine As hp ?_;have g2:=Grew.app (H++[some (AObj.cells [I 0,Ac])]) [some (AObj.cells [I (Fl s.now.1 s.now.2 ino).size,R])]
   have e5:AJ 2 (H++[some (AObj.cells [I 0,Ac])]++[some (AObj.cells [I (Fl s.now.1 s.now.2 ino).size,R])]) (.ptr H.length 0) (.agg [I (Fl s.now.1 s.now.2 ino).size,R])=some (H++[some (AObj.cells [I (Fl s.now.1 s.now.2 ino).size,R])]++[some (AObj.cells [I (Fl s.now.1 s.now.2 ino).size,R])]):=by
    rw[AF (n:=2) (xs:=[I (Fl s.now.1 s.now.2 ino).size,R]) (cs:=[I 0,Ac]) (by simp[oR]) (g2.cells Da) rfl (by simp)];simp[AZ]
   have g3:=Grew.app (H++[some (AObj.cells [I (Fl s.now.1 s.now.2 ino).size,R])]) [some (AObj.cells [I (Fl s.now.1 s.now.2 ino).size,R])];simp only[Ac6,Ag4,Hd _ _ oR,AC,hg,DC,Ah Da,Y6,e5,Ah (g3.cells Da)];exact⟨by trivial,(Grew.app H _).trans g3⟩
  ·have e:Au s ino=((0,[]),3):=by unfold Au;rw[if_neg (by rw[ho];simp),if_neg hg]
   rw[e];refine⟨Ac,SV.nil,EF ?_⟩;unfold Ee;simp only[Ae7,Ag3,Ah (g.cells h.obj),ho,Ao,(sD _ _ _ _ _ _ _ _ _).1];refine As hp ?_;have g2:=Grew.app (H++[some (AObj.cells [I 0,Ac])]) [some (AObj.cells [I (Fl s.now.1 s.now.2 ino).size,R])]
   have e5:AJ 2 (H++[some (AObj.cells [I 0,Ac])]++[some (AObj.cells [I (Fl s.now.1 s.now.2 ino).size,R])]) (.ptr H.length 0) (.agg [I 0,Ac])=some (H++[some (AObj.cells [I 0,Ac])]++[some (AObj.cells [I (Fl s.now.1 s.now.2 ino).size,R])]):=by
    rw[AF (n:=2) (xs:=[I 0,Ac]) (cs:=[I 0,Ac]) rfl (g2.cells Da) rfl (by simp)];simp[AZ]
   simp only[Ac8,Hd _ _ oR,hg,E0,Ag2,e0,e5,Ah (g2.cells Da),Y6];exact⟨by trivial,g.trans g2⟩
section
variable {P : Program}
end
end
section
section
variable {P : Program}
variable {l : Nat} {G0 : Cfg}
end
end
section
theorem xV {N:Nat}{X:AH}{o:Nat}(hN:N≤o):(old N X)[o]?=X[o]?:=by
 unfold old;rw[Ah0 (by simpa using hN),As8,Ah6,show N+(o - N)=o by omega]
theorem BCall.fzS {P:Program}{f:FuncId}{args:List AV}{H X:AH}{r:AV}{sz m:Nat}{cs:List AV}(h:BCall P f args H r X)(g:Grew H X)(hs:Ad X sz r=some (cs,m))(hi:∀i∈Bl r,H.length≤i)(hn:Az cs=true):
  ∃R,(noIds R=true∧∀H,Ad H sz R=some (cs,m))∧BCall P f args H R H:=by
 have hs2:Ad (old H.length X) sz r=some (cs,m):=Af hs λi q=>xV (hi i q)
 obtain⟨R,n0,h1,h2,h3⟩:=VV hs2 hn;refine⟨R,⟨h1,h2⟩,ACalls.fzNew (R':=λr'=>r'=R) h ?_⟩;rintro r1 H1 ⟨rfl,rfl⟩;exact⟨g.1,g.2,n0,R,h3 n0 (Ah3 _),rfl⟩
theorem qK {H:AH}{v:AV}{l:List UInt8}(h:Ad H 1 v=some (B2 l,l.length))(hl:l.length≤1000000000):∃R,SV IW 1 l R∧BCall prog 89 [v] H R H:=by
 obtain⟨r,X,⟨hs,g,hi⟩,hc⟩:=N5 (a0:=v) (H:=H) (K:=λr X=>Ad X 1 r=some (B2 l,l.length)∧Grew H X∧∀i∈Bl r,H.length≤i) (by
  unfold IS;rcases Qd h with⟨rfl,e1,e2⟩ | hb
  ·have e:YO .eql Tc Ac Ac=some (B true):=rfl
   simp only[e,Aa8,Aw];exact⟨h,Grew.refl H,by simp[Bl]⟩
  ·simp only[hb,Aa8,Ao]
   have e:FC H 1 0 (BI [u0Z] 0) []=some (.sl H.length 0 0 1 (.ex 0),H++[some (.cells [])]):=rfl;simp only[e,AA];have g:=Grew.app H [some (.cells [])];have h0:Ad (H++[some (.cells [])]) 1 (.sl H.length 0 0 1 (.ex 0))=some ([],0):=by simp[Ad]
   obtain⟨r,H2,a1,a2,a3,a4,a5,a6⟩:=CT (sz:=1) (bytes:=1) (H:=H++[some (.cells [])]) (v:=.sl H.length 0 0 1 (.ex 0)) (cs:=[]) (n:=0) h0 rfl (A3 (g.slice h)) (by omega);simp only[a1,AA];refine⟨by simpa using a3,⟨by simp at a4;omega,λi hi=>?_⟩,λi hi=>?_⟩
   ·rw[a5 i (by simp;omega) (by simp[Bl];omega)]
    exact g.2 i hi
   ·rcases a6 i hi with h | h
    ·simp[Bl]at h;omega
    ·simp at h;omega)
 obtain⟨R,⟨h1,h2⟩,h3⟩:=BCall.fzS hc g hs hi (KL _);exact⟨R,⟨h1,λH=>by rw[h2 H,Mq]⟩,h3⟩
theorem uI:C3 prog 140=true:=by kernel_rfl
theorem xM (x:Ext)(no:Int):BPure prog 140 [.agg (A6 x),.ip [I no]] (B (decide (x.no=no))):=BPure.val (by simp[Az,noIds,G9]) rfl (YE (by
 unfold WO;have e1:A9 [] (.agg (A6 x))=some (.ptr 0 0,[some (.cells (A6 x))]):=by simp
 have e2:(A6 x)[0]?=some (I x.no):=rfl;have e3:([some (.cells (A6 x))]:AH)[0]?=some (some (.cells (A6 x))):=rfl;simp only[e1,AA,Ab3,Ah e3,e2,aI,Di,Cp]
 try trivial))
theorem zdezZ (x:Ext)(t:List AV):Aq true 9 (A6 x++t) 0=some (.agg (A6 x)):=by
 have:=AB x
 simp only[Aq,if_true,Ah9,this,Ak9];rw[if_pos (by omega),Aj1 (by omega),Ah4 (by omega)]
theorem rC {l:List Ext}{v:AV}(hv:SV A6 9 l v)(hl:l.length≤281474976710656)(no:Int):∃j:Int,(0≤j↔BP l no)∧BPure prog 173 [v,.fn (.func 140) [] [.ip [I no]]] (I j):=by
 have key:∃r X,(∃j:Int,r=I j∧(0≤j↔BP l no))∧BCall prog 173 [v,.fn (.func 140) [] [.ip [I no]]] [] r X:=DY (by
  unfold De;simp only[hv.len,Ab];refine Dt (λn x0 x1 x7 x8 H'=>∃k:Nat,k+n=l.length∧x0=v∧x1=.fn (.func 140) [] [.ip [I no]]∧x7=I l.length∧x8=I k∧∀(m:Nat) y,m<k→l[m]?=some y→y.no≠no) ?_ l.length ⟨0,by omega,rfl,rfl,rfl,rfl,by omega⟩;rintro n x0 x1 x7 x8 H R hR ⟨k,hk,rfl,rfl,rfl,rfl,hb⟩;unfold Cw;rcases Ah2 k l.length with h | h
  ·have hx:=DJ h
   generalize l[k]=y at hx;have kI:(k:Int)<(l.length:Int):=by omega
   simp only[Ad4,kI,Ad7,hv.idx AB hx rfl,aI,zdezZ,qE,uI,Bool.true_or,aO,Am1,An6];refine bC_of (xM y no H) ?_;simp only[Al]
   by_cases c:y.no=no
   ·simp only[c,Ad7]
    exact⟨k,rfl,by simp only[Int.natCast_nonneg,true_iff];exact⟨y,Ag9 hx,c⟩⟩
   ·simp only[c,Ac1,Ax (a:=k) (b:=1) (by omega) (by omega),Ab]
    refine hR (n - 1) _ _ _ _ _ (by omega) ⟨k+1,by omega,rfl,rfl,rfl,by simp,?_⟩;intro m z hm hz
    by_cases e:m=k
    ·rw[e,hx]at hz;injection hz with hz;rw[← hz];exact c
    ·exact hb m z (by omega) hz
  ·have kI:¬(k:Int)<(l.length:Int):=by omega
   simp only[Ag1,kI];refine⟨-1,rfl,by simp only[show ¬(0:Int)≤-1 by omega,false_iff];rintro⟨y,hy,e⟩;obtain⟨m,hm⟩:=Ai1.1 hy;exact hb m y (by have:=(B5.1 hm).1;omega) hm e⟩)
 obtain⟨r,X,⟨j,rfl,hj⟩,hc⟩:=key;exact⟨j,hj,BPure.val (by simp[Az,noIds,hv.1]) rfl ⟨_,_,rfl,hc⟩⟩
theorem gV {l:List Ext}{v:AV}(hv:SV A6 9 l v)(hl:l.length≤281474976710656)(no:Int):BPure prog 139 [v,.fn (.func 140) [] [.ip [I no]]] (B (decide (BP l no))):=by
 obtain⟨j,hj,hp⟩:=rC hv hl no;refine BPure.flat λH=>Gx ?_
 unfold DU;refine As hp ?_;simp only[Xp,Ab];exact⟨by congr 3;exact propext hj,by trivial⟩
theorem zdejZ {size:Int}{l:List Ext}{v:AV}(hv:SV A6 9 l v)(hl:l.length≤281474976710656)(no:Int):BPure prog 88 [.agg [I size,v],I no] (B (decide (BP l no))):=BPure.val (by simp[Az,noIds,hv.1]) rfl (cM (by
 have ov:=SV.oneA hv;unfold ZT;have e1:A9 [] (.agg [I size,v])=some (.ptr 0 0,[some (.cells [I size,v])]):=by simp[ov]
 have e2:A9 [some (.cells [I size,v])] (I no)=some (.ptr 1 0,[some (.cells [I size,v]),some (.cells [I no])]):=rfl;have e3:([some (.cells [I size,v]),some (.cells [I no])]:AH)[0]?=some (some (.cells [I size,v])):=rfl;simp only[e1,AA,e2,Af2,Ah e3]
 have hf:FZs [some (.cells [I size,v]),some (.cells [I no])] [v,.fn (.func 140) [] [.ptr 1 0]] [v,.fn (.func 140) [] [.ip [I no]]]:=by
  refine FZs.cons (FZ.same hv.1) (FZs.cons ⟨3,λn hn=>?_⟩ FZs.nil);obtain⟨n,rfl⟩:∃m,n=m+3:=⟨n - 3,by omega⟩;rfl
 refine bP_of (PCall.lend hf rfl (gV hv hl no)) ?_
 try trivial))
theorem kX:∀{f:Nat} {p n:Int} {q:Sp},0≤p→q∈DB f p n 8→p≤q.pos∧0<q.len∧q.len≤8∧q.pos+q.len≤p+n
 | 0,p,n,q,_,h=>by simp[DB]at h
 | f+1,p,n,q,hp,h=>by
  unfold DB at h;split at h
  ·rename_i hn
   have h1:=Ap6 p (show(0:Int)<8 by omega);have h2:=Ap7 p (show(8:Int)≠0 by omega);rcases Ak0.1 h with rfl | h
   ·simp only;omega
   ·have:=kX (by omega) h
    omega
  ·simp at h
def Fo (ino pos:Int)(b:List UInt8):OpM:=⟨2,ino,pos,0,false,[],[],b⟩
theorem Y4 {ino pos:Int}{b:List UInt8}(h:b.length≤8):cX (Fo ino pos b):=⟨by show b.length≤_;omega,by simp[Fo],by simp[Fo]⟩
def Eo (b:List UInt8)(pos:Int)(q:Sp):List UInt8:=(b.drop (q.pos - pos).toNat).take q.len.toNat
def ZW (c:List Ext)(ino pos:Int)(b:List UInt8):List Sp→StS→(Int×Int)×StS
 | [],s=>((b.length,0),s)
 | q::r,s=>
  if ¬BP c (q.pos/8)∧Oc s=0 then((q.pos - pos,4),s)
  else if(G7 s (Fo ino q.pos (Eo b pos q))).1≠0 then((q.pos - pos,(G7 s (Fo ino q.pos (Eo b pos q))).1),(G7 s (Fo ino q.pos (Eo b pos q))).2)
  else ZW c ino pos b r (G7 s (Fo ino q.pos (Eo b pos q))).2
def TF (pos:Int)(n:Nat):Prop:=0≤pos∧n≤4096∧pos≤1099511627776 - n
instance (pos:Int) (n:Nat):Decidable (TF pos n):=by unfold TF;infer_instance
def JE (s:StS)(ino pos:Int)(b:List UInt8):(Int×Int)×StS:=
 if(Au s ino).2≠0 then((0,(Au s ino).2),s)else if ¬TF pos b.length then((0,5),s)
 else ZW (Au s ino).1.2 ino pos b (Ep ⟨pos,b.length⟩ 8) s
theorem Y5 {pos:Int}{b:List UInt8}{q:Sp}(hf:TF pos b.length)(h:q∈Ep ⟨pos,b.length⟩ 8):pos≤q.pos∧0<q.len∧q.len≤8∧q.pos+q.len≤pos+b.length:=by
 unfold Ep at h;split at h
 ·exact kX hf.1 h
 ·simp at h
theorem Wh {b:List UInt8}{pos:Int}{q:Sp}(h:pos≤q.pos∧0<q.len∧q.len≤8∧q.pos+q.len≤pos+b.length):(Eo b pos q).length=q.len.toNat:=by
 unfold Eo;rw[Ah1,Ah8];omega
theorem vY {c:List Ext}{ino pos:Int}{b:List UInt8}:∀{l:List Sp} {N:Nat} {s:StS},(∀q∈l,pos≤q.pos∧0<q.len∧q.len≤8∧q.pos+q.len≤pos+b.length)→SW N s→SW (N+9*l.length) (ZW c ino pos b l s).2
 | [],N,s,_,h=>h
 | q::r,N,s,hq,h=>by
  have h1:=hq q (by simp);have hl:=Wh h1;have hd:=UE (o:=Fo ino q.pos (Eo b pos q)) h (Y4 (by omega))
  have hwt:wt (Fo ino q.pos (Eo b pos q))≤9:=by
   show 1+(Eo b pos q).length+(if(2:Int)=4 then 4098 else 0)≤9
   rw[if_neg (by omega)];omega
  unfold ZW;simp only[Al7]
  split
  ·exact h.mono (by omega)
  ·split
   ·exact hd.mono (by omega)
   ·exact(vY (λx hx=>hq x (by simp[hx])) hd).mono (by omega)
theorem Wi {pos:Int}{b:List UInt8}(hf:TF pos b.length):(Ep ⟨pos,b.length⟩ 8).length≤b.length:=by
 unfold Ep
 split
 ·have:∀(f:Nat) (p n:Int),(DB f p n 8).length≤f:=by
   intro f
   induction f with
   | zero=>intro p n;simp[DB]
   | succ f ih=>
    intro p n;unfold DB
    split
    ·simp only[Al7];have:=ih (p+min n (8 - p % 8)) (n - min n (8 - p % 8));omega
    ·simp
  have h2:=this (b.length:Int).toNat pos b.length;have e:((b.length:Int)).toNat=b.length:=by omega
  simp only;omega
 ·simp
theorem sZ {N:Nat}{s:StS}(h:SW N s)(ino pos:Int)(b:List UInt8):SW (N+9*b.length) (JE s ino pos b).2:=by
 unfold JE
 split
 ·exact h.mono (by omega)
 ·split
  ·exact h.mono (by omega)
  ·rename_i hf
   have hf:=Aj0 hf;exact(vY (λq hq=>Y5 hf hq) h).mono (by have:=Wi hf;omega)
theorem kJ {N:Nat}{s:StS}{os:Nat}{p v:AV}{H:AH}(h:StAt s os p H)(hw:SW N s)(ino pos:Int){b:List UInt8}(hN:N+9*b.length<900000)(hv:Ad H 1 v=some (B2 b,b.length))(hvi:∀j∈Bl v,j≠os∧j∉Bl p):
  ∃r H',(r=.tup [I (JE s ino pos b).1.1,I (JE s ino pos b).1.2]∧∃p',StAt (JE s ino pos b).2 os p' H'∧StF os p p' H H')∧BCall prog 34 [.ptr os 0,I ino,I pos,v] H r H':=Sy (by
 unfold O0;obtain⟨R,hR,r,H1,⟨rfl,g1⟩,hc⟩:=I4 h hw (by omega) ino;have hlen:=CC hw ino;refine bC_of hc ?_;unfold JE;generalize Au s ino=ct at*;have oR:=SV.oneA hR;have h1:=h.grew g1;have g2:=Grew.app H1 [some (.cells [I ct.1.1,R])];have h2:=h1.grew g2;have hv2:=g2.slice (g1.slice hv);have alv:AY v=some (I b.length):=CU hv;simp only[Af1,Hd _ _ oR]
 by_cases hc0:ct.2=0
 ·simp only[hc0,Ag7,alv,Ab]
  refine As (T7 pos b.length (by omega)) ?_
  by_cases hf:TF pos b.length
  ·have hf':0≤pos∧b.length≤4096∧pos≤1099511627776 - b.length:=hf
   have e1:E5 [(I 0),(I 0)] [(0,1,I pos),(1,1,I (b.length:Int))]=some (.agg (Br ⟨pos,b.length⟩)):=rfl;simp only[hf,hf',and_self,DC,Bg,Ag5,Al,Ab4,e1];obtain⟨V,hV,hp⟩:=WI ⟨pos,b.length⟩ (unit:=8) (by omega);refine As hp ?_;simp only[hV.len,Ab];have hin:∀q∈Ep ⟨pos,b.length⟩ 8,pos≤q.pos∧0<q.len∧q.len≤8∧q.pos+q.len≤pos+b.length:=λq hq=>Y5 hf hq
   have hpl:=Wi hf;generalize Ep ⟨pos,b.length⟩ 8=L at hV hin hpl;have c0:(H1++[some (AObj.cells [I ct.1.1,R])])[H1.length]?=some (some (.cells [I ct.1.1,R])):=Da;have f0:StF os p p H (H1++[some (AObj.cells [I ct.1.1,R])]):=.of_grew (g1.trans g2);have hosH:os<H.length:=by obtain⟨a,b',c,d,pv,hx⟩:=h;exact hx.lt
   have hpH:∀j∈Bl p,j<H.length:=by obtain⟨a,b',c,d,pv,hx⟩:=h;exact Ue hx
   have hvH:∀j∈Bl v,j<H.length:=λj q=>A7 hv j q
   have hH1:H.length≤H1.length:=g1.1;refine NN (λm x0 x1 x2 x3 x10 x36 x37 x38 H'=>∃(k:Nat) (s':StS) (p':AV),k+m=L.length∧x0=.ptr os 0∧x1=I ino∧x2=I pos∧x3=v∧x10=.ptr H1.length 0∧x36=V∧x37=I L.length∧x38=I k∧StAt s' os p' H'∧StF os p p' H H'∧SW (N+9*k) s'∧H'[H1.length]?=some (some (.cells [I ct.1.1,R]))∧H1.length∉Bl p'∧ZW ct.1.2 ino pos b (L.drop k) s'=ZW ct.1.2 ino pos b L s) ?_ L.length ⟨0,s,p,by omega,rfl,rfl,rfl,rfl,rfl,rfl,rfl,rfl,h2,f0,hw,c0,λq=>by have:=hpH _ q;omega,rfl⟩;rintro m x0 x1 x2 x3 x10 x36 x37 x38 H2 R2 hR2 ⟨k,s',p',hk,rfl,rfl,rfl,rfl,rfl,rfl,rfl,rfl,hs',fs',hws',cc,hcp,heq⟩;rw[← heq];unfold JA;rcases Ah2 k L.length with hlt | hge
   ·have hx:=DJ hlt
    have hq:=hin L[k] (As4 hlt);generalize L[k]=q at hx hq;obtain⟨q1,q2,q3,q4⟩:=hq;have kI:(k:Int)<(L.length:Int):=by omega
    have hdrop:L.drop k=q::L.drop (k+1):=Ek hx;rw[hdrop];generalize hW:ZW ct.1.2 ino pos b (q::L.drop (k+1)) s'=W;have rdq:Aq true 2 (Br q++(L.drop (k+1)).flatMap Br) 0=some (.agg (Br q)):=by simp[Aq,Br]
    have eA:(AV.agg (Br q))=.agg [I q.pos,I q.len]:=rfl;have n2:A9 H2 (.agg [(I 0),(I 0)])=some (.ptr H2.length 0,H2++[some (.cells [I 0,I 0])]):=by simp
    have t2:AJ 2 (H2++[some (.cells [I 0,I 0])]) (.ptr H2.length 0) (.agg [I q.pos,I q.len])=some (H2++[some (.cells [I q.pos,I q.len])]):=by
     rw[AF (n:=2) (xs:=[I q.pos,I q.len]) (cs:=[I 0,I 0]) rfl (by simp) rfl (by simp)];simp[AZ]
    have g3:=Grew.app H2 [some (.cells [I q.pos,I q.len])];have e2:Ar .sub (I q.pos) (I pos)=some (I (q.pos - pos)):=Bv (by omega) (by omega);have e3:Ar .quo (I q.pos) (I 8)=some (I (q.pos/8)):=Ky (by omega) (by omega) (by omega);simp only[Ad4,kI,Ad7,hV.idx VO hx rfl,aI,rdq,eA,n2,AA,t2,AC,Ab2,Ah Da,Di,e2,Ah (g3.cells cc),Y6,e3];refine As (zdejZ hR (by omega) (q.pos/8)) ?_;have hs3:=hs'.grew g3;have fs3:StF os p p' H (H2++[some (.cells [I q.pos,I q.len])]):=fs'.grew g3;have cc3:=g3.cells cc;have tq:(H2++[some (AObj.cells [I q.pos,I q.len])])[H2.length]?=some (some (.cells [I q.pos,I q.len])):=Da;have hl3:H2.length+1=(H2++[some (AObj.cells [I q.pos,I q.len])]).length:=by simp
    have hpid:∀j∈Bl p',j<H2.length:=by obtain⟨a,b',c,d,pv,hx⟩:=hs';exact Ue hx
    have hos2:os<H2.length:=by obtain⟨a,b',c,d,pv,hx⟩:=hs';exact hx.lt
    have hcl2:H1.length<H2.length:=(B5.1 cc).1;generalize (H2++[some (AObj.cells [I q.pos,I q.len])])=H3 at hs3 fs3 cc3 tq hl3
    -- the deed
    have deed:¬(¬BP ct.1.2 (q.pos/8)∧Oc s'=0)→bO (Aa 0 (.ptr H2.length 0)) (λv25=>bO (Am false 1 H3 v25) λv26=>bO (Aa 1 (.ptr H2.length 0)) λv27=>bO (Am false 1 H3 v27) λv28=>bO (Ar .add (I (q.pos - pos)) v28) λv29=>bO (Bj 1 x3 (some (I (q.pos - pos))) (some v29) none) λv30=>
      bC (BCall prog 89 [v30] H3) λv31 H32=>bO (E5 [(I 0),(I 0),(I 0),(I 0),(B false),(.lit (.string ⟨#[]⟩)),(.lit (.string ⟨#[]⟩)),Ac] [(0,1,(I 2)),(1,1,I ino),(2,1,v26),(7,1,v31)]) λv33=>
      bC (BCall prog 59 [.ptr os 0,v33] H32) λv34 H35=>(Am false 1 H32 v25=some v26)∧bO (Ar .neq v34 (I 0)) λv36=>bB v36 λt37=>bI t37
       (AV.tup [I (q.pos - pos),v34]=.tup [I W.1.1,I W.1.2]∧
        ∃p',StAt W.2 os p' H35∧StF os p p' H H35)
       (bO (Ar .add (I k) (I 1)) λv38=>R2 [.ptr os 0,I ino,I pos,x3,.ptr H1.length 0,x36,I L.length,v38] H35)):=by
     intro hno;have e4:Ar .add (I (q.pos - pos)) (I q.len)=some (I (q.pos - pos+q.len)):=Ax (by omega) (by omega)
     have hv3:Ad H3 1 x3=some (B2 b,b.length):=Af hv λj hj=>by
      have hne:=hvi j hj;exact fs3.same j (hvH j hj) hne.1 hne.2
     obtain⟨r5,s1,s2,s3,-⟩:=Gb hv3 (lo:=some (I (q.pos - pos))) (hi:=some (I (q.pos - pos+q.len))) (l:=(q.pos - pos).toNat) (k:=(q.pos - pos+q.len).toNat) (by simp only[CA];rw[if_pos (by omega)]) (by simp only[CA];rw[if_pos (by omega)]) (by omega) (by omega);have hpl2:=Wh (b:=b) (pos:=pos) (q:=q) ⟨q1,q2,q3,q4⟩
     have s2':Ad H3 1 r5=some (B2 (Eo b pos q),(Eo b pos q).length):=by
      rw[s2,hpl2];unfold Eo;rw[Ao0,Ao0,show(q.pos - pos+q.len).toNat - (q.pos - pos).toNat=q.len.toNat by omega];simp[B2,As2,As3]
     obtain⟨Rb,hRb,hcb⟩:=qK s2' (by omega);simp only[Af2,Ah tq,e4,s1];refine bC_of hcb ?_
     have e5:E5 [(I 0),(I 0),(I 0),(I 0),(B false),(.lit (.string ⟨#[]⟩)),(.lit (.string ⟨#[]⟩)),Ac] [(0,1,(I 2)),(1,1,I ino),(2,1,I q.pos),(7,1,Rb)]=some (.agg (By (Fo ino q.pos (Eo b pos q)) Rb)):=by
      have:=SV.oneA hRb
      simp[E5,By,Fo,BE this];rfl
     simp only[e5,Ab];obtain⟨r6,H6,⟨rfl,p6,h6,f6⟩,hcall⟩:=iN (o:=Fo ino q.pos (Eo b pos q)) hs3 hws' (by omega) hRb (Y4 (by omega));have hws6:=UE (o:=Fo ino q.pos (Eo b pos q)) hws' (Y4 (by omega));refine bC_of hcall ⟨by rw[Ah tq];rfl,?_⟩;simp only[C2,Aa8]
     by_cases hd:(G7 s' (Fo ino q.pos (Eo b pos q))).1=0
     ·simp only[hd,Aa0,Ac1,Ax (a:=k) (b:=1) (by omega) (by omega),Ab]
      have hwt:wt (Fo ino q.pos (Eo b pos q))≤9:=by
       show 1+(Eo b pos q).length+(if(2:Int)=4 then 4098 else 0)≤9
       rw[if_neg (by omega)];omega
      refine hR2 (m - 1) _ _ _ _ _ _ _ _ _ (by omega) ⟨k+1,_,p6,by omega,rfl,rfl,rfl,rfl,rfl,rfl,rfl,by simp,h6,fs3.trans f6,hws6.mono (by omega),?_,?_,?_⟩
      ·rw[f6.same H1.length (by omega) (by omega) hcp];exact cc3
      ·intro hh
       rcases f6.ids _ hh with hh | hh
       ·exact hcp hh
       ·omega
      ·rw[← heq,hdrop]
       conv=>rhs;unfold ZW
       rw[if_neg hno,if_neg (by rw[hd];simp)]
     ·have eW:W=((q.pos - pos,(G7 s' (Fo ino q.pos (Eo b pos q))).1),(G7 s' (Fo ino q.pos (Eo b pos q))).2):=by
       rw[← hW];unfold ZW;rw[if_neg hno,if_pos hd]
      rw[eW];simp only[hd,Ab5,DC];exact⟨by trivial,p6,h6,fs3.trans f6⟩
    by_cases hh:BP ct.1.2 (q.pos/8)
    ·simp only[hh,DC,Ag4,Bc,show((false==true)=false)from rfl,Cf,Yi,A4,At]
     exact deed (λx=>x.1 hh)
    ·simp only[hh,E0,Bg,Ar7,Ab,Ae4,aX]
     refine bC_of (pC hs3 hws' (by omega)) ?_;simp only[Cp,Ag0]
     by_cases hfr:Oc s'=0
     ·have eW:W=((q.pos - pos,4),s'):=by
       rw[← hW];unfold ZW;rw[if_pos ⟨hh,hfr⟩]
      rw[eW];simp only[hfr,Ad7];exact⟨by trivial,p',hs3,fs3⟩
     ·simp only[hfr,Ac1]
      exact deed (λx=>hfr x.2)
   ·have kI:¬(k:Int)<(L.length:Int):=by omega
    have hdrop:L.drop k=[]:=Aj8 hge;rw[hdrop];unfold ZW;simp only[Ag1,kI,alv];exact⟨by trivial,p',hs',fs'⟩
  ·have hf':¬(0≤pos∧b.length≤4096∧pos≤1099511627776 - b.length):=hf
   simp only[hf,hf',E0,Bg,Ac2,Aa8,Aa1];exact⟨by trivial,p,h2,.of_grew (g1.trans g2)⟩
 ·simp only[hc0,Ad8]
  exact⟨by trivial,p,h2,.of_grew (g1.trans g2)⟩)
def UH (i:Int):List AV:=[I i]
theorem qY (i:Int):(UH i).length=1:=rfl
theorem fI (l:List Int):Az (l.flatMap UH)=true:=Eh λx _=>rfl
theorem zdfaZ (x:Int)(t:List AV):Aq false 1 (UH x++t) 0=some (I x):=rfl
theorem xO {l:List Int}{v:AV}(hv:SV UH 1 l v)(hl:l.length≤281474976710656)(no:Int):∃j:Int,(0≤j↔no∈l)∧BPure prog 178 [v,I no] (I j):=by
 have key:∃r X,(∃j:Int,r=I j∧(0≤j↔no∈l))∧BCall prog 178 [v,I no] [] r X:=ON (by
  unfold Kk;simp only[hv.len,Ab];refine Lt (λn x0 x1 x7 x8 H'=>∃k:Nat,k+n=l.length∧x0=v∧x1=I no∧x7=I l.length∧x8=I k∧∀(m:Nat) y,m<k→l[m]?=some y→no≠y) ?_ l.length ⟨0,by omega,rfl,rfl,rfl,rfl,by omega⟩;rintro n x0 x1 x7 x8 H R hR ⟨k,hk,rfl,rfl,rfl,rfl,hb⟩;unfold GT;rcases Ah2 k l.length with h | h
  ·have hx:=DJ h
   generalize l[k]=y at hx;have kI:(k:Int)<(l.length:Int):=by omega
   simp only[Ad4,kI,Ad7,hv.idx qY hx rfl,aI,zdfaZ,Cp]
   by_cases c:no=y
   ·simp only[c,Ad7]
    exact⟨k,rfl,by simp only[Int.natCast_nonneg,true_iff];exact Ag9 hx⟩
   ·simp only[c,Ac1,Ax (a:=k) (b:=1) (by omega) (by omega),Ab]
    refine hR (n - 1) _ _ _ _ _ (by omega) ⟨k+1,by omega,rfl,rfl,rfl,by simp,?_⟩;intro m z hm hz
    by_cases e:m=k
    ·rw[e,hx]at hz;injection hz with hz;rw[← hz];exact c
    ·exact hb m z (by omega) hz
  ·have kI:¬(k:Int)<(l.length:Int):=by omega
   simp only[Ag1,kI];refine⟨-1,rfl,by simp only[show ¬(0:Int)≤-1 by omega,false_iff];intro hy;obtain⟨m,hm⟩:=Ai1.1 hy;exact hb m no (by have:=(B5.1 hm).1;omega) hm rfl⟩)
 obtain⟨r,X,⟨j,rfl,hj⟩,hc⟩:=key;exact⟨j,hj,BPure.val (by simp[Az,noIds,hv.1]) rfl ⟨_,_,rfl,hc⟩⟩
theorem dA {l:List Int}{v:AV}(hv:SV UH 1 l v)(hl:l.length≤281474976710656)(no:Int):BPure prog 144 [v,I no] (B (decide (no∈l))):=by
 obtain⟨j,hj,hp⟩:=xO hv hl no;refine BPure.val (by simp[Az,noIds,hv.1]) rfl (Mm ?_);unfold Ic;refine As hp ?_;simp only[Xp,Ab]
 congr 3;exact propext hj
def N7 (l:List Int)(o:OpM):Prop:=o.kind=1∨o.kind=6∨o.kind=7∨o.ino∈l
instance (l:List Int) (o:OpM):Decidable (N7 l o):=by unfold N7;infer_instance
theorem vF {o:OpM}{bv:AV}(hb:SV IW 1 o.b bv){l:List Int}{v:AV}(hv:SV UH 1 l v)(hl:l.length≤281474976710656):BPure prog 95 [.agg (By o bv),v] (B (decide (N7 l o))):=by
 have obv:=SV.oneA hb;have e1:A9 [] (.agg (By o bv))=some (.ptr 0 0,[some (.cells (By o bv))]):=by simp[By,obv]
 have e0:([some (.cells (By o bv))]:AH)[0]?=some (some (.cells (By o bv))):=rfl;have i0:(By o bv)[0]?=some (I o.kind):=rfl;have i1:(By o bv)[1]?=some (I o.ino):=rfl;refine BPure.val (by simp[Az,noIds,hv.1,hb.1,By]) rfl (YF ?_);unfold WP;simp only[e1,AA,Ab2,Aa8,Ah e0,i0,Cp]
 have last:∀c:Prop,∀_ :Decidable c,NA v (.ptr 0 0) [some (.cells (By o bv))] (λr H=>r=B (decide (o.ino∈l))):=by
  intro c _;rw[V7];unfold PP;simp only[Ab3,Ah e0,i1];exact As (dA hv hl o.ino) rfl
 unfold N7
 by_cases c1:o.kind=1
 ·simp only[c1,Ad7,true_or]
  rw[JD];unfold Hf;simp only[Al,Aw]
  try trivial
 ·simp only[c1,Ac1,false_or]
  by_cases c6:o.kind=6
  ·simp only[c6,Ad7,true_or]
   rw[JD];unfold Hf;simp only[Al,Aw]
   try trivial
  ·simp only[c6,Ac1,false_or]
   rw[JD];unfold Hf
   by_cases c7:o.kind=7
   ·simp only[c7,Ad7,Al,true_or]
    try trivial
   ·simp only[c7,Ac1,Al,false_or]
    exact last True inferInstance
def Fh (l:List Int):List OpM→U0×List OpM→U0×List OpM
 | [],x=>x
 | o::r,x=>if N7 l o then Fh l r (AG x.1.1 x.1.2 o,x.2)else Fh l r (x.1,x.2++[o])
def L0 (s:StS)(l:List Int):Int×StS:=
 if(A5 s).1=true then(0,{(A5 s).2 with kept:=(Fh l s.pend (s.kept,[])).1,pend:=(Fh l s.pend (s.kept,[])).2})else(8,(A5 s).2)
theorem cQ {l:List Int}{N:Nat}:∀{r:List OpM} {x:U0×List OpM},(∃a,Few1 a x.1∧a+KC x.2+KC r≤N)→(∃a,Few1 a (Fh l r x).1∧a+KC (Fh l r x).2≤N)
 | [],x,⟨a,h1,h2⟩=>⟨a,h1,by simp only[Fh];omega⟩
 | o::r,x,⟨a,h1,h2⟩=>by
  have e:KC (o::r)=wt o+KC r:=by simp[KC]
  unfold Fh
  split
  ·exact cQ ⟨a+wt o,h1.step o,by simp only;omega⟩
  ·exact cQ ⟨a,h1,by simp only[VB];omega⟩
theorem cO {l:List Int}:∀{r:List OpM} {x:U0×List OpM},(∀o∈x.2,cX o)→(∀o∈r,cX o)→∀o∈(Fh l r x).2,cX o
 | [],x,h1,h2,o,ho=>h1 o ho
 | q::r,x,h1,h2,o,ho=>by
  unfold Fh at ho;split at ho
  ·exact cO (x:=(AG x.1.1 x.1.2 q,x.2)) h1 (λz hz=>h2 z (by simp[hz])) o ho
  ·refine cO (x:=(x.1,x.2++[q])) ?_ (λz hz=>h2 z (by simp[hz])) o ho
   intro z hz;simp only[Aa9]at hz;rcases hz with hz | rfl
   ·exact h1 z hz
   ·exact h2 _ (by simp)
abbrev Af7:=And.intro @List.map_nil.{0,0} @List.sum_nil.{0}
theorem cR {N:Nat}{s:StS}(h:SW N s)(l:List Int):SW N (L0 s l).2:=by
 have hd:=Xt h;obtain⟨e1,e2,e3,e4,e5⟩:=D0 s;unfold L0
 split
 ·refine⟨by simp only[e1];exact h.now,?_,?_,hd.made,hd.cap,hd.armed⟩
  ·obtain⟨a,h1,h2⟩:=h.kept
   exact cQ ⟨a,h1,by simp only[KC,Af7];unfold KC at h2;omega⟩
  ·exact cO (x:=(s.kept,[])) (by simp) h.ob
 ·exact hd
theorem gZ {N:Nat}{s:StS}{os:Nat}{p v:AV}{H:AH}(h:StAt s os p H)(hw:SW N s)(hN:N≤900000){l:List Int}(hv:Ad H 1 v=some (l.flatMap UH,l.length))(hvi:∀j∈Bl v,j≠os∧j∉Bl p)(hl:l.length≤1000000):
  ∃r H',(r=I (L0 s l).1∧∃p',StAt (L0 s l).2 os p' H'∧StF os p p' H H')∧BCall prog 39 [.ptr os 0,v] H r H':=Tx (by
 unfold PL;obtain⟨r,H1,⟨rfl,h1,f1⟩,hc⟩:=qQ h hw.armed;refine bC_of hc ?_;obtain⟨e1,e2,e3,e4,e5⟩:=D0 s;have hwd:=Xt hw;have hpl:(A5 s).2.pend.length≤N:=by rw[e3];exact hw.plen
 have hob:∀o∈(A5 s).2.pend,cX o:=by rw[e3];exact hw.ob
 have hkw:∃a,Few1 a (A5 s).2.kept∧a+KC (A5 s).2.pend≤N:=by rw[e2,e3];exact hw.kept
 unfold L0;rw[← e2,← e3];simp only[Bg,Aa8];cases hd:(A5 s).1 with
 | false=>
  simp only[Aa3,At];exact⟨by trivial,p,h1,f1⟩
 | true=>
  have hv1:Ad H1 1 v=some (l.flatMap UH,l.length):=Af hv λj hj=>f1.same j (A7 hv j hj) (hvi j hj).1 (hvi j hj).2
  clear e1 e2 e3 e4 e5 hc;generalize (A5 s).2=s1 at*;simp only[if_true];obtain⟨a,b,c,d,pv,h1⟩:=h1;have hpn:pv.length=s1.pend.length:=by rw[← h1.pm,Ai2]
  have alv:AY p=some (I (s1.pend.length:Nat)):=by rw[← hpn];exact CU h1.ps
  simp only[Ae6,A0,Ab2,Ah h1.obj,Ab0,alv];have hos:os<H1.length:=h1.lt;have hH:H.length≤H1.length:=f1.len;generalize hres:Fh l s1.pend (s1.kept,[])=res;refine OO (λm x0 x1 x5 x14 x15 x16 H'=>∃(k:Nat) (ki:U0) (c' d':AV) (lv:List OpV),k+m=s1.pend.length∧x0=.ptr os 0∧x1=v∧x14=p∧x15=I s1.pend.length∧x16=I k∧StC {s1 with kept:=ki} os a b c' d' p pv H'∧StF os p p H1 H'∧Fh l (s1.pend.drop k) (ki,lv.map OpV.o)=res∧(∃a,Few1 a ki∧a+KC (lv.map OpV.o)+KC (s1.pend.drop k)≤N)∧Ad H' 8 x5=some (lv.flatMap HJ,lv.length)∧Bh x5=true∧CI x5 lv.length∧(∀j∈Bl x5,H1.length≤j)) ?_ s1.pend.length ⟨0,s1.kept,c,d,[],by omega,rfl,rfl,rfl,rfl,rfl,h1,.refl _ _ _,hres,by obtain⟨x,y,z⟩:=hkw;exact⟨x,y,by simp only[Ad0];simp only[KC,Af7]at*;omega⟩,rfl,rfl,by simp[CI],by simp[Bl]⟩;rintro m x0 x1 x5 x14 x15 x16 H2 R hR ⟨k,ki,c',d',lv,hk,rfl,rfl,rfl,rfl,rfl,h2,f2,hsy,hfew,ls,lo,lc,li⟩
  have lvN:lv.length≤N:=by
   obtain⟨x,-,y⟩:=hfew
   have:=cV (l:=lv.map OpV.o)
   rw[Ai2]at this;omega
  unfold Kl;rcases Ah2 k s1.pend.length with hlt | hge
  ·have hx:=DJ (show k<pv.length by omega)
   generalize pv[k]'(by omega)=x at hx;have hxo : s1.pend[k]? = some x.o:=by rw [← h1.pm,Ai6,hx]; rfl
   have hdrop:s1.pend.drop k=x.o::s1.pend.drop (k+1):=Ek hxo;have hxb:=hob x.o (Ag9 hxo);rw[hdrop]at hsy hfew;have ox:=SV.oneA x.h;have kI:(k:Int)<(s1.pend.length:Int):=by omega
   obtain⟨pp,q1,q2⟩:=lP h2.ps hx;have n8:A9 H2 (.agg [(I 0),(I 0),(I 0),(I 0),(B false),(.lit (.string ⟨#[]⟩)),(.lit (.string ⟨#[]⟩)),Ac])=some (.ptr H2.length 0,H2++[some (.cells [I 0,I 0,I 0,I 0,B false,S ⟨#[]⟩,S ⟨#[]⟩,Ac])]):=by simp
   have t8:AJ 8 (H2++[some (.cells [I 0,I 0,I 0,I 0,B false,S ⟨#[]⟩,S ⟨#[]⟩,Ac])]) (.ptr H2.length 0) (.agg (By x.o x.bv))=some (H2++[some (.cells (By x.o x.bv))]):=by
    rw[AF (n:=8) (xs:=By x.o x.bv) (cs:=[I 0,I 0,I 0,I 0,B false,S ⟨#[]⟩,S ⟨#[]⟩,Ac]) (by simp[By,ox]) (by simp) rfl (by simp)];simp[AZ,By]
   have g3:=Grew.app H2 [some (.cells (By x.o x.bv))];have rd8:Aq true 8 (By x.o x.bv) 0=some (.agg (By x.o x.bv)):=rfl;have h3:=h2.grew g3;have f3:StF os x14 x14 H1 (H2++[some (AObj.cells (By x.o x.bv))]):=f2.grew g3;have hl2:=f2.len
   have hv3:Ad (H2++[some (AObj.cells (By x.o x.bv))]) 1 x1=some (l.flatMap UH,l.length):=Af hv λj hj=>by
    have:=A7 hv j hj
    rw[f3.same j (by omega) (hvi j hj).1 (hvi j hj).2,f1.same j this (hvi j hj).1 (hvi j hj).2]
   obtain⟨Rv,hRv,fRv⟩:=FZ.sv hv3 (fI l);have ls3:=g3.slice ls;have sm:Sm ki.1 ki.2:=by obtain⟨x,y,z⟩:=hfew;exact y.sm (by omega)
   simp only[Ad4,kI,Ad7,q1,q2,n8,AA,t8,AC,Ah Da,rd8];refine bP_of (PCall.lend (FZs.cons (FZ.same (by simp[noIds,By,Az,x.h.1])) (FZs.cons fRv FZs.nil)) rfl (vF x.h hRv (by omega))) ?_;have topx:(H2++[some (AObj.cells (By x.o x.bv))])[H2.length]?=some (some (.cells (By x.o x.bv))):=Da;have hl3:(H2++[some (AObj.cells (By x.o x.bv))]).length=H2.length+1:=by simp
   generalize (H2++[some (AObj.cells (By x.o x.bv))])=H3 at*;simp only[Al]
   by_cases hst:N7 l x.o
   ·obtain⟨RA,hRA,hpA⟩:=ZX (o:=x.o) (bv:=x.bv) h3.kept sm x.h (by have:=hxb.1;omega) (by have:=hxb.2.1;omega) (by have:=hxb.2.2;omega)
    obtain⟨a',b',rfl,oa,ob⟩:=hRA.agg2;simp only[hst,Ad7,A0,Ab,An,Ah h3.obj,(tD _ _ _ _ _ _ _ _ _).2];refine bP_of hpA ?_;obtain⟨h4,f4⟩:=h3.set (s':={s1 with kept:=AG ki.1 ki.2 x.o}) h3.now hRA rfl;simp only[(zB h3.obj oa ob).2,AC];rw[IV];unfold FH;simp only[Ax (a:=k) (b:=1) (by omega) (by omega),Ab];refine hR (m - 1) _ _ _ _ _ _ _ (by omega) ⟨k+1,_,a',b',lv,by omega,rfl,rfl,rfl,rfl,by simp,h4,f3.trans f4,?_,?_,?_,lo,lc,li⟩
    ·rw[← hsy];conv=>rhs;unfold Fh
     rw[if_pos hst]
    ·obtain⟨y,z,w⟩:=hfew
     have e:KC (x.o::s1.pend.drop (k+1))=wt x.o+KC (s1.pend.drop (k+1)):=by simp[KC]
     exact⟨y+wt x.o,z.step x.o,by omega⟩
    ·exact Af ls3 λj hj=>by
      have:=li j hj
      exact f4.same j (by have:=A7 ls3 j hj;omega) (by omega) (λq=>by have:=Ue h1 j q;omega)
   ·have eA:FC H3 8 1 (BI [(I 0),(I 0),(I 0),(I 0),(B false),(.lit (.string ⟨#[]⟩)),(.lit (.string ⟨#[]⟩)),Ac] 1) [(0,8,.agg (By x.o x.bv))]=some (.sl H3.length 0 1 8 (.ex 1),H3++[some (.cells (HJ x))]):=by
     simp[FC,BI,HJ,By,Mv,ox,AZ]
    have g4:=Grew.app H3 [some (.cells (HJ x))];have x1':Bm (H3++[some (AObj.cells (HJ x))]) 8 (.sl H3.length 0 1 8 (.ex 1))=some (HJ x,1):=A3 (by simp[Ad,HJ,By]);obtain⟨r,H5,a1,a2,a3,a4,a5,a6⟩:=CT (bytes:=96) (g4.slice ls3) lo x1' (by omega);have a7:=PT (g4.slice ls3) lo x1' lc a1;simp only[hst,Ac1,eA,AA,a1];rw[IV];unfold FH;simp only[Ax (a:=k) (b:=1) (by omega) (by omega),Ab];have h4:=h3.grew g4;have f4:=f3.grew g4;have lt4:∀j,j<H1.length→j∉Bl x5:=λj hj q=>by have:=li j q;omega
    have len4:(H3++[some (AObj.cells (HJ x))]).length=H3.length+1:=by simp
    have k5:∀j,j<H1.length→H5[j]?=(H3++[some (AObj.cells (HJ x))])[j]?:=λj hj=>a5 j (by omega) (lt4 j hj)
    refine hR (m - 1) _ _ _ _ _ _ _ (by omega) ⟨k+1,ki,c',d',lv++[x],by omega,rfl,rfl,rfl,rfl,by simp,?_,?_,?_,?_,?_,a2,by simpa using a7,?_⟩
    ·exact⟨by rw[k5 os hos];exact h4.obj,h4.now,h4.kept,h4.pm,Af h4.ps λj hj=>k5 j (Ue h1 j hj),h4.po,h4.pi,h4.pc⟩
    ·exact⟨by omega,λj hj hne hjp=>by rw[k5 j hj];exact f4.same j hj hne hjp,λ_ q=>.inl q⟩
    ·rw[← hsy];conv=>rhs;unfold Fh
     rw[if_neg hst];simp
    ·obtain⟨y,z,w⟩:=hfew
     have e:KC (x.o::s1.pend.drop (k+1))=wt x.o+KC (s1.pend.drop (k+1)):=by simp[KC]
     exact⟨y,z,by rw[Aj4];simp only[Ad2,VB];omega⟩
    ·simpa using a3
    ·intro j hj
     rcases a6 j hj with q | q
     ·exact li j q
     ·omega
  ·have kI:¬(k:Int)<(s1.pend.length:Int):=by omega
   have hdrop:s1.pend.drop k=[]:=Aj8 hge;rw[hdrop]at hsy hfew;unfold Fh at hsy;rw[← hsy];have e7:AJ 1 H2 (.ptr os 5) x5=some (H2.set os (some (.cells [I s1.cap,a,b,c',d',x5,I s1.made,I s1.armed,B s1.off]))):=cY h2.obj (by simp) (AI lo);have hnx:os∉Bl x5:=λq=>by have:=li os q;omega
   simp only[Ag1,kI,A0,An,e7,AC];have hl2:=f2.len;refine⟨by trivial,x5,⟨a,b,c',d',lv,⟨KI h2.lt,h2.now,h2.kept,rfl,Af ls λj hj=>Cg (λe=>hnx (by rw[e];exact hj)),lo,hnx,lc⟩⟩,?_⟩;refine⟨by rw[Aj2];omega,λj hj hne hjp=>?_,λj hj=>.inr (by have:=li j hj;omega)⟩;rw[Cg (Ak2 hne),f2.same j (by omega) hne hjp,f1.same j hj hne hjp])
def NR (bits:List Bool)(i:Nat):Bool:=bits[i]?.getD false
def Hg (bits:List Bool):Nat→List OpM→U0→U0
 | _,[],x=>x
 | i,o::r,x=>Hg bits (i+1) r (if NR bits i=true then AG x.1 x.2 o else x)
def ME (s:StS)(bits:List Bool):StS:=
 {s with kept:=Hg bits 0 s.pend s.kept,now:=Hg bits 0 s.pend s.kept,pend:=[],off:=false,armed:=-1}
theorem bJ {bits:List Bool}{N:Nat}:∀{r:List OpM} {i:Nat} {x:U0},(∃a,Few1 a x∧a+KC r≤N)→Few1 N (Hg bits i r x)
 | [],i,x,⟨a,h1,h2⟩=>h1.mono (by omega)
 | o::r,i,x,⟨a,h1,h2⟩=>by
  have e:KC (o::r)=wt o+KC r:=by simp[KC]
  unfold Hg
  split
  ·exact bJ ⟨a+wt o,h1.step o,by omega⟩
  ·exact bJ ⟨a,h1,by omega⟩
theorem cG {N:Nat}{s:StS}(h:SW N s)(bits:List Bool):SW N (ME s bits):=by
 have hk:=bJ (bits:=bits) (i:=0) h.kept;exact⟨hk,⟨N,hk,by simp[ME,KC]⟩,by simp[ME],h.made,h.cap,by simp[ME]⟩
def WT (b:Bool):List AV:=[B b]
theorem qW (b:Bool):(WT b).length=1:=rfl
theorem xW {α:Type}{enc:α→List AV}{f:α→AV}(he:∀x,enc x=[f x]){H:AH}{w:AV}{l:List α}{k:Nat}{x:α}(hw:Ad H 1 w=some (l.flatMap enc,l.length))(hx:l[k]?=some x):∃p,Bq 1 w (I k)=some p∧Am false 1 H p=some (f x):=by
 have hk:=(B5.1 hx).1;obtain⟨p,c,h1,h2,h3,h4⟩:=S4 hw (i:=(k:Int)) rfl hk;have el:∀x,(enc x).length=1:=λx=>by rw[he];rfl
 have hc:c.take 1=[f x]:=by
  rw[h3,Gc el hx,Aj1 (by rw[el];exact Ah3 1),Ah4 (by rw[el];exact Ah3 1),he]
 refine⟨p,h1,?_⟩;rw[XC h2 (by omega) h4];cases c with
 | nil=>simp at hc
 | cons y t=>simp at hc;rw[hc];rfl
theorem VC {N:Nat}{s:StS}{os:Nat}{p v:AV}{H:AH}(h:StAt s os p H)(hw:SW N s)(hN:N≤900000){l:List Bool}(hv:Ad H 1 v=some (l.flatMap WT,l.length))(hvi:∀j∈Bl v,j≠os∧j∉Bl p)(hl:l.length≤1000000):
  ∃r H',(r=.tup []∧StAt (ME s l) os Ac H'∧StF os p Ac H H')∧BCall prog 40 [.ptr os 0,v] H r H':=Ql (by
 unfold LV;obtain⟨a,b,c,d,pv,h1⟩:=h;have hpl:=hw.plen;have hob:=hw.ob;have hpn:pv.length=s.pend.length:=by rw[← h1.pm,Ai2]
 have alv:AY p=some (I (s.pend.length:Nat)):=by rw[← hpn];exact CU h1.ps
 simp only[A0,Af2,Ah h1.obj,alv];unfold ME;generalize hres:Hg l 0 s.pend s.kept=res;have hos:os<H.length:=h1.lt;refine Mn (λm x0 x1 x9 x10 x11 H'=>∃(k:Nat) (ki:U0) (c' d':AV),k+m=s.pend.length∧x0=.ptr os 0∧x1=v∧p=x9∧x10=I s.pend.length∧x11=I k∧StC {s with kept:=ki} os a b c' d' p pv H'∧StF os p p H H'∧Hg l k (s.pend.drop k) ki=res∧(∃a,Few1 a ki∧a+KC (s.pend.drop k)≤N)) ?_ s.pend.length ⟨0,s.kept,c,d,by omega,rfl,rfl,rfl,rfl,rfl,h1,.refl _ _ _,hres,by simp only[Ak9];exact hw.kept⟩;rintro m x0 x1 x9 x10 x11 H2 R hR ⟨k,ki,c',d',hk,rfl,rfl,ep,rfl,rfl,h2,f2,hsy,hfew⟩;subst ep;unfold Io;rcases Ah2 k s.pend.length with hlt | hge
 ·have hx:=DJ (show k<pv.length by omega)
  generalize pv[k]'(by omega)=x at hx;have hxo : s.pend[k]? = some x.o:=by rw [← h1.pm,Ai6,hx]; rfl
  have hdrop:s.pend.drop k=x.o::s.pend.drop (k+1):=Ek hxo;have hxb:=hob x.o (Ag9 hxo);rw[hdrop]at hsy hfew;have ox:=SV.oneA x.h;have kI:(k:Int)<(s.pend.length:Int):=by omega
  obtain⟨pp,q1,q2⟩:=lP h2.ps hx;have n8:A9 H2 (.agg [(I 0),(I 0),(I 0),(I 0),(B false),(.lit (.string ⟨#[]⟩)),(.lit (.string ⟨#[]⟩)),Ac])=some (.ptr H2.length 0,H2++[some (.cells [I 0,I 0,I 0,I 0,B false,S ⟨#[]⟩,S ⟨#[]⟩,Ac])]):=by simp
  have t8:AJ 8 (H2++[some (.cells [I 0,I 0,I 0,I 0,B false,S ⟨#[]⟩,S ⟨#[]⟩,Ac])]) (.ptr H2.length 0) (.agg (By x.o x.bv))=some (H2++[some (.cells (By x.o x.bv))]):=by
   rw[AF (n:=8) (xs:=By x.o x.bv) (cs:=[I 0,I 0,I 0,I 0,B false,S ⟨#[]⟩,S ⟨#[]⟩,Ac]) (by simp[By,ox]) (by simp) rfl (by simp)];simp[AZ,By]
  have g3:=Grew.app H2 [some (.cells (By x.o x.bv))];have rd8:Aq true 8 (By x.o x.bv) 0=some (.agg (By x.o x.bv)):=rfl;have h3:=h2.grew g3;have f3:StF os p p H (H2++[some (AObj.cells (By x.o x.bv))]):=f2.grew g3;have hv3:Ad (H2++[some (AObj.cells (By x.o x.bv))]) 1 x1=some (l.flatMap WT,l.length):=Af hv λj hj=>f3.same j (A7 hv j hj) (hvi j hj).1 (hvi j hj).2
  have alb:AY x1=some (I (l.length:Nat)):=CU hv;have sm:Sm ki.1 ki.2:=by obtain⟨x,y,z⟩:=hfew;exact y.sm (by omega)
  have topx:(H2++[some (AObj.cells (By x.o x.bv))])[H2.length]?=some (some (.cells (By x.o x.bv))):=Da;simp only[Ad4,kI,Ad7,q1,q2,n8,AA,t8,AC,alb];generalize (H2++[some (AObj.cells (By x.o x.bv))])=H3 at*;have yes:NR l k=true→bO (Ae (.ptr os 0)) λv19=>bO (Aa 3 v19) λv20=>bO (Am true 2 H3 v20) λv21=>bO (Am true 8 H3 (.ptr H2.length 0)) λv22=>
    bP (BPure prog 96 [v21,v22]) λv23=>bO (Ae (.ptr os 0)) λv24=>bO (Aa 3 v24) λv25=>bS (AJ 2 H3 v25 v23) λH26=>
    Dm R (.ptr os 0) x1 p (I s.pend.length) (I k) H26 (λr H'=>r=.tup []∧StAt {s with kept:=res,now:=res,pend:=[],off:=false,armed:=-1} os Ac H'∧StF os p Ac H H'):=by
   intro hst;obtain⟨RA,hRA,hpA⟩:=ZX (o:=x.o) (bv:=x.bv) h3.kept sm x.h (by have:=hxb.1;omega) (by have:=hxb.2.1;omega) (by have:=hxb.2.2;omega);obtain⟨a',b',rfl,oa,ob⟩:=hRA.agg2;simp only[A0,Ab,An,Ah h3.obj,(tD _ _ _ _ _ _ _ _ _).2,Ah topx,rd8];refine bP_of hpA ?_;obtain⟨h4,f4⟩:=h3.set (s':={s with kept:=AG ki.1 ki.2 x.o}) h3.now hRA rfl;simp only[(zB h3.obj oa ob).2,AC];rw[Hw];unfold EZ;simp only[Ax (a:=k) (b:=1) (by omega) (by omega),Ab];refine hR (m - 1) _ _ _ _ _ _ (by omega) ⟨k+1,_,a',b',by omega,rfl,rfl,rfl,rfl,by simp,h4,f3.trans f4,?_,?_⟩
   ·rw[← hsy];conv=>rhs;unfold Hg
    rw[if_pos hst]
   ·obtain⟨y,z,w⟩:=hfew
    have e:KC (x.o::s.pend.drop (k+1))=wt x.o+KC (s.pend.drop (k+1)):=by simp[KC]
    exact⟨y+wt x.o,z.step x.o,by omega⟩
  have no:¬NR l k=true→Dm R (.ptr os 0) x1 p (I s.pend.length) (I k) H3 (λr H'=>r=.tup []∧StAt {s with kept:=res,now:=res,pend:=[],off:=false,armed:=-1} os Ac H'∧StF os p Ac H H'):=by
   intro hst;rw[Hw];unfold EZ;simp only[Ax (a:=k) (b:=1) (by omega) (by omega),Ab];refine hR (m - 1) _ _ _ _ _ _ (by omega) ⟨k+1,ki,c',d',by omega,rfl,rfl,rfl,rfl,by simp,h3,f3,?_,?_⟩
   ·rw[← hsy];conv=>rhs;unfold Hg
    rw[if_neg hst]
   ·obtain⟨y,z,w⟩:=hfew
    have e:KC (x.o::s.pend.drop (k+1))=wt x.o+KC (s.pend.drop (k+1)):=by simp[KC]
    exact⟨y,z,by omega⟩
  rcases Ah2 k l.length with hkl | hkl
  ·have hb:=DJ hkl
   generalize l[k]=bt at hb;have hbt:NR l k=bt:=by unfold NR;rw[hb];rfl
   obtain⟨pb,r1,r2⟩:=xW (f:=B) (λ_=>rfl) hv3 hb;have kl:(k:Int)<(l.length:Int):=by omega
   simp only[kl,Af0,Ac4,r1,r2];cases bt with
   | true=>simp only[Aw];exact yes hbt
   | false=>simp only[Ao];exact no (by rw[hbt];simp)
  ·have hbt:NR l k=false:=by unfold NR;rw[Am3 hkl];rfl
   have kl:¬(k:Int)<(l.length:Int):=by omega
   simp only[kl,Ac1,Bc,show((false==true)=false)from rfl,Cf,Af4];exact no (by rw[hbt];simp)
 ·have kI:¬(k:Int)<(s.pend.length:Int):=by omega
  have hdrop:s.pend.drop k=[]:=Aj8 hge;rw[hdrop]at hsy hfew;unfold Hg at hsy;subst hsy;have sm:Sm ki.1 ki.2:=by obtain⟨x,y,z⟩:=hfew;exact y.sm (by omega)
  obtain⟨RC,hRC,hpC⟩:=gW h2.kept sm;obtain⟨a',b',rfl,oa,ob⟩:=hRC.agg2;have l2:=h2.lt;simp only[Ag1,kI,A0,An,Ah h2.obj,(tD _ _ _ _ _ _ _ _ _).2];refine As hpC ?_;have s1:=(zB h2.obj oa ob).1;have c1:(H2.set os (some (AObj.cells [I s.cap,a',b',c',d',p,I s.made,I s.armed,B s.off])))[os]?=some (some (.cells [I s.cap,a',b',c',d',p,I s.made,I s.armed,B s.off])):=KI l2;have s2:=cY c1 (k:=5) (x:=Ac) (by simp) rfl;have c2:(H2.set os (some (AObj.cells [I s.cap,a',b',c',d',Ac,I s.made,I s.armed,B s.off])))[os]?=some (some (.cells [I s.cap,a',b',c',d',Ac,I s.made,I s.armed,B s.off])):=KI l2;have s3:=cY c2 (k:=8) (x:=B false) (by simp) rfl;have c3:(H2.set os (some (AObj.cells [I s.cap,a',b',c',d',Ac,I s.made,I s.armed,B false])))[os]?=some (some (.cells [I s.cap,a',b',c',d',Ac,I s.made,I s.armed,B false])):=KI l2;have s4:=cY c3 (k:=7) (x:=I (-1)) (by simp) rfl;simp only[List.set_set,Ar5,Ar4]at s2 s3 s4;simp only[s1,AC,s2,s3,s4];refine⟨by trivial,⟨a',b',c',d',[],⟨KI l2,hRC,h2.kept,rfl,rfl,rfl,by simp[Bl],by simp[CI]⟩⟩,?_⟩;refine⟨by rw[Aj2];exact f2.len,λj hj hne hjp=>?_,λj hj=>by simp[Bl]at hj⟩;rw[Cg (Ak2 hne),f2.same j hj hne hjp])
theorem StAt.os_lt {s:StS}{os:Nat}{p:AV}{H:AH}(h:StAt s os p H):os<H.length:=by obtain⟨a,b,c,d,pv,h⟩:=h;exact h.lt
theorem StAt.p_lt {s:StS}{os:Nat}{p:AV}{H:AH}(h:StAt s os p H):∀j∈Bl p,j<H.length:=by obtain⟨a,b,c,d,pv,h⟩:=h;exact Ue h
theorem Zq:isTrue (run prog iM (gU []) (gU []) 100000 100 29 [] [])=true:=by kernel_rfl
theorem WN:BPure prog 29 [] (B true):=.of_true (sK nF Zq)
theorem StAt.keepH {s:StS}{os:Nat}{p:AV}{H H':AH}(h:StAt s os p H)(k1:H'[os]?=H[os]?)(k2:∀i∈Bl p,H'[i]?=H[i]?):StAt s os p H':=by
 obtain⟨a,b,c,d,pv,h⟩:=h;exact⟨a,b,c,d,pv,k1.trans h.obj,h.now,h.kept,h.pm,Af h.ps k2,h.po,h.pi,h.pc⟩
structure Duo (s t:StS)(os od:Nat)(p q:AV)(H:AH):Prop where
 P:StAt s os p H
 D:DsAt t od q H
 ne:os≠od
 pd:od∉Bl p
 dp:os∉Bl q
 pq:∀i∈Bl p,i∉Bl q
 lo:∀i∈Bl p,os<i
theorem Duo.stepP {s s' t:StS}{os od:Nat}{p p' q:AV}{H H':AH}(h:Duo s t os od p q H)(k:StAt s' os p' H')(f:StF os p p' H H'):Duo s' t os od p' q H':=by
 have l1:=h.D.os_lt;have l2:=h.D.p_lt;exact⟨k,h.D.keep (f.same od l1 (Ak2 h.ne) h.pd) λi hi=>f.same i (l2 i hi) (λe=>h.dp (e▸hi)) (λz=>h.pq i z hi),h.ne,λz=>(f.ids od z).elim h.pd (λz=>by omega),h.dp,λi hi z=>(f.ids i hi).elim (λy=>h.pq i y z) (λy=>by have:=l2 i z;omega),λi hi=>(f.ids i hi).elim (h.lo i) (λy=>by have:=h.P.os_lt;omega)⟩
theorem Duo.stepD {s t t':StS}{os od:Nat}{p q q':AV}{H H':AH}(h:Duo s t os od p q H)(k:DsAt t' od q' H')(f:StF od q q' H H'):Duo s t' os od p q' H':=by
 obtain⟨a,b,c,d,pv,hc⟩:=h.P;have l1:=hc.lt;have l2:=Ue hc;exact⟨h.P.keepH (f.same os l1 h.ne h.dp) λi hi=>f.same i (l2 i hi) (λe=>h.pd (e▸hi)) (λz=>h.pq i hi z),k,h.ne,h.pd,λz=>(f.ids os z).elim h.dp (λz=>by omega),λi hi z=>(f.ids i z).elim (λy=>h.pq i hi y) (λy=>by have:=l2 i hi;omega),h.lo⟩
theorem Duo.grew {s t:StS}{os od:Nat}{p q:AV}{H H':AH}(h:Duo s t os od p q H)(g:Grew H H'):Duo s t os od p q H':=⟨h.P.grew g,h.D.grew g,h.ne,h.pd,h.dp,h.pq,h.lo⟩
theorem jX (ns:List Nm)(ds:List Nd):decide (ZQ ns ds ns ds)=true:=decide_eq_true ⟨rfl,rfl⟩
theorem uF {room:Int}{H H1 H2:AH}{p:AV}(h1:StAt (KK room) H.length p H1)(l1:H1.length=H.length+1)(hid:Bl p=[])(h2:DsAt (KK room) H1.length Ac H2)(g:Grew H1 H2):Duo (KK room) (KK room) H.length H1.length p Ac H2:=
 ⟨h1.grew g,h2,by omega,by rw[hid];simp,by simp[Bl],by rw[hid];simp,by rw[hid];simp⟩
theorem wH {N:Nat}{s:StS}{os:Nat}{p:AV}{H:AH}(h:StAt s os p H)(hw:SW N s)(hN:N≤900000)(ino:Int):∃r H',(r=.tup [I (Au s ino).1.1,I (Au s ino).2]∧Grew H H')∧BCall prog 46 [.ptr os 0,I ino] H r H':=Tw (by
 unfold PK;obtain⟨R,hR,r,H1,⟨rfl,g1⟩,hc⟩:=I4 h hw hN ino;have oR:=SV.oneA hR;refine bC_of hc ?_;have g2:=Grew.app H1 [some (AObj.cells [I (Au s ino).1.1,R])];simp only[Ac6,Ab3,Ae7,Hd _ _ oR,AC,Ah Da];exact⟨by trivial,g1.trans g2⟩)
end
end Go.Proofs.YtadghlcfbajamaaGreat.Av
