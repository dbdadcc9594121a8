/- Texts of this proof, one behind the other, packed into one file by a program of this session. No condition. -/
import Derived.Test.YtadghlcfbajamaaGreatMlK
set_option linter.unusedVariables false
set_option linter.unusedSimpArgs false
set_option maxRecDepth 100000
namespace Go.Proofs.YtadghlcfbajamaaGreat.Av
open Go Go.RowKit Go.Proofs.Tryz
section
structure DsC (s:StS)(os:Nat)(a b c d p:AV)(pv:List OpV)(H:AH):Prop where
 obj:H[os]?=some (some (.cells [a,b,c,d,p,I s.cap,I s.made,I s.armed,B s.off]))
 now:ImV s.now.1 s.now.2 (.agg [a,b])
 kept:ImV s.kept.1 s.kept.2 (.agg [c,d])
 pm:pv.map OpV.o=s.pend
 ps:Ac H 8 p=some (pv.flatMap I3,pv.length)
 po:AZ p=true
 pi:os∉AM p
def DsAt (s:StS)(os:Nat)(p:AV)(H:AH):Prop:=∃a b c d pv,DsC s os a b c d p pv H
theorem DsC.lt {s:StS}{os:Nat}{a b c d p:AV}{pv:List OpV}{H:AH}(h:DsC s os a b c d p pv H):os<H.length:=(BE.1 h.obj).1
theorem DsC.grew {s:StS}{os:Nat}{a b c d p:AV}{pv:List OpV}{H H':AH}(h:DsC s os a b c d p pv H)(g:Grew H H'):DsC s os a b c d p pv H':=
 ⟨g.cells h.obj,h.now,h.kept,h.pm,g.slice h.ps,h.po,h.pi⟩
theorem DsAt.grew {s:StS}{os:Nat}{p:AV}{H H':AH}(h:DsAt s os p H)(g:Grew H H'):DsAt s os p H':=by
 obtain⟨a,b,c,d,pv,h⟩:=h;exact⟨a,b,c,d,pv,h.grew g⟩
theorem DsAt.os_lt {s:StS}{os:Nat}{p:AV}{H:AH}(h:DsAt s os p H):os<H.length:=by
 obtain⟨a,b,c,d,pv,h⟩:=h;exact h.lt
theorem DsAt.p_lt {s:StS}{os:Nat}{p:AV}{H:AH}(h:DsAt s os p H):∀j∈AM p,j<H.length:=by
 obtain⟨a,b,c,d,pv,h⟩:=h;exact λj q=>Az h.ps j q
theorem DsAt.keep {s:StS}{os:Nat}{p:AV}{H H':AH}(h:DsAt s os p H)(k1:H'[os]?=H[os]?)(k2:∀i∈AM p,H'[i]?=H[i]?):DsAt s os p H':=by
 obtain⟨a,b,c,d,pv,h⟩:=h;exact⟨a,b,c,d,pv,k1.trans h.obj,h.now,h.kept,h.pm,Ae h.ps k2,h.po,h.pi⟩
theorem DsC.set {s s':StS}{os:Nat}{a b c d a' b' c' d' p:AV}{pv:List OpV}{H:AH}(h:DsC s os a b c d p pv H)(hn:ImV s'.now.1 s'.now.2 (.agg [a',b']))(hk:ImV s'.kept.1 s'.kept.2 (.agg [c',d']))(hp:s'.pend=s.pend):
  DsC s' os a' b' c' d' p pv (H.set os (some (.cells [a',b',c',d',p,I s'.cap,I s'.made,I s'.armed,B s'.off])))∧StF os p p H (H.set os (some (.cells [a',b',c',d',p,I s'.cap,I s'.made,I s'.armed,B s'.off]))):=by
 refine⟨⟨JY h.lt,hn,hk,by rw[hp];exact h.pm,Ae h.ps λi q=>Cc (λe=>h.pi (by rw[e];exact q)),h.po,h.pi⟩,by simp,λj _ hne _=>Cc (Aj4 hne),λ_ q=>.inl q⟩
theorem xD (a b c d e f g h i:AV):Ax true 2 [a,b,c,d,e,f,g,h,i] 0=some (.agg [a,b])∧Ax true 2 [a,b,c,d,e,f,g,h,i] 2=some (.agg [c,d]):=⟨rfl,rfl⟩
theorem zdoxZ {H:AH}{os:Nat}{x0 x1 x2 x3 x4 x5 x6 x7 x8 a b:AV}(h:H[os]?=some (some (.cells [x0,x1,x2,x3,x4,x5,x6,x7,x8])))(ha:oneA a=true)(hb:oneA b=true):
  AP 2 H (.ptr os 0) (.agg [a,b])=some (H.set os (some (.cells [a,b,x2,x3,x4,x5,x6,x7,x8])))∧AP 2 H (.ptr os 2) (.agg [a,b])=some (H.set os (some (.cells [x0,x1,a,b,x4,x5,x6,x7,x8]))):=by
 constructor
 ·rw[AK (n:=2) (off:=0) (xs:=[a,b]) (by simp[ha,hb]) h rfl (by simp)];rfl
 ·rw[AK (n:=2) (off:=2) (xs:=[a,b]) (by simp[ha,hb]) h rfl (by simp)];rfl
theorem zdirZ (room:Int)(H:AH)(hr:room≤9223372036854775807):∃r H',(r=.ptr H.length 0∧H'.length=H.length+1∧DsAt (SQ room) H.length Ad H'∧Grew H H')∧BCall prog 12 [I room] H r H':=QV (by
 unfold Mq;have e1:amm XX [I room,(I 0)]=some (I (max room 0)):=by rw[LD,Yx,Au1]
 have e2:amm Zn [I (max room 0),(I 4096)]=some (I (min (max room 0) 4096)):=by rw[LD,rC,Int.min_comm]
 have e3:En [Ad,Ad,Ad,Ad,Ad,(I 0),(I 0),(I 0),(B false)] [(5,1,I (min (max room 0) 4096)),(7,1,(I (-1)))]=some (.agg [Ad,Ad,Ad,Ad,Ad,I (min (max room 0) 4096),I 0,I (-1),B false]):=rfl;have e4:AC H (.agg [Ad,Ad,Ad,Ad,Ad,I (min (max room 0) 4096),I 0,I (-1),B false])=some (.ptr H.length 0,H++[some (.cells [Ad,Ad,Ad,Ad,Ad,I (min (max room 0) 4096),I 0,I (-1),B false])]):=by simp
 rw[e1,Aa,e2,Aa,e3,Aa,e4,A6];have hI:ImV [] [] (.agg [Ad,Ad]):=⟨Ad,Ad,[],rfl,SV.nil,SV.nil,rfl⟩;exact⟨rfl,by simp,⟨Ad,Ad,Ad,Ad,[],⟨Dk,hI,hI,rfl,rfl,rfl,by simp[AM]⟩⟩,Grew.app _ _⟩)
theorem xX {s:StS}{os:Nat}{p:AV}{H:AH}(h:DsAt s os p H)(n:Int):∃r H',(r=.tup []∧DsAt (mR s n) os p H'∧StF os p p H H')∧BCall prog 16 [.ptr os 0,I n] H r H':=Qc (by
 obtain⟨a,b,c,d,pv,h⟩:=h;unfold Li;have e1:amm XX [I n,(I (-1))]=some (I (max n (-1))):=by rw[LD,Yx,Au1]
 obtain⟨h2,h3⟩:=h.set (s':=mR s n) h.now h.kept rfl;have e2:AP 1 H (.ptr os 7) (I (max n (-1)))=some (H.set os (some (.cells [a,b,c,d,p,I s.cap,I s.made,I (max n (-1)),B s.off]))):=eJ h.obj (by simp) rfl;simp only[e1,Aa,A4,At,e2,AF];exact⟨by trivial,⟨a,b,c,d,pv,h2⟩,h3⟩)
theorem sP {s:StS}{os:Nat}{p:AV}{H:AH}(h:DsAt s os p H)(hb: -1≤s.armed∧s.armed≤9223372036854775807):∃r H',(r=B (A9 s).1∧DsAt (A9 s).2 os p H'∧StF os p p H H')∧BCall prog 113 [.ptr os 0] H r H':=Pa (by
 obtain⟨a,b,c,d,pv,h⟩:=h;unfold Kx;simp only[Ah1,Ai h.obj,BJ]
 have j3:∀(s':StS) (b0:Bool) (H':AH),DsC s' os a b c d p pv H'→StF os p p H H'→A9 s=(!s'.off,s')→D8 (.ptr os 0) H' (λr H'=>r=B (A9 s).1∧DsAt (A9 s).2 os p H'∧StF os p p H H'):=by
  intro s' b0 H' h' f e;rw[MG];unfold GQ;simp only[Ah5,Ai h'.obj,Bj,e];exact⟨by trivial,⟨a,b,c,d,pv,h'⟩,f⟩
 have j1:∀(s':StS) (H':AH),DsC s' os a b c d p pv H'→StF os p p H H'→(s'.off=true→A9 s=(false,s'))→(s'.off=false→s'=s∧s.armed≠0)→s'.armed=s.armed→D7 (.ptr os 0) H' (λr H'=>r=B (A9 s).1∧DsAt (A9 s).2 os p H'∧StF os p p H H'):=by
  intro s' H' h' f e1 e2 e3;rw[MF];unfold GP;simp only[Ah5,Ai h'.obj,Bj,AU];cases ho:s'.off with
  | true=>
   simp only[Aa2,show((false==true)=false)from rfl,BY,A2,An];rw[Gu];unfold Er;simp only[Aj,Ak];exact j3 s' true H' h' f (by rw[ho];exact e1 ho)
  | false=>
   obtain⟨rfl,h0⟩:=e2 ho;have hn:¬(s'.off=true∨s'.armed=0):=by rintro(q | q);rw[ho]at q;cases q;exact h0 q
   simp only[Ac5,Ac2,Ah5,Ai h'.obj,Du];rw[Gu];unfold Er
   by_cases hp:0<s'.armed
   ·have e:A9 s'=(true,{s' with armed:=s'.armed - 1}):=by unfold A9;rw[if_neg hn,if_pos hp]
    obtain⟨h2,h3⟩:=h'.set (s':={s' with armed:=s'.armed - 1}) h'.now h'.kept rfl;have q1:Ar .sub (I s'.armed) (I 1)=some (I (s'.armed - 1)):=B2 (by omega) (by omega);have q2:AP 1 H' (.ptr os 7) (I (s'.armed - 1))=some (H'.set os (some (.cells [a,b,c,d,p,I s'.cap,I s'.made,I (s'.armed - 1),B s'.off]))):=eJ h'.obj (by simp) rfl;simp only[hp,Ad1,Ah1,Ai h'.obj,q1,q2,AF];exact j3 _ true _ h2 (f.trans h3) (by simp only[ho,As7]at e⊢;exact e)
   ·have e:A9 s'=(true,s'):=by unfold A9;rw[if_neg hn,if_neg hp]
    simp only[hp,Ab7,Aj];exact j3 s' true H' h' f (by rw[ho];exact e)
 by_cases h0:s.armed=0
 ·obtain⟨h2,h3⟩:=h.set (s':={s with off:=true}) h.now h.kept rfl
  have e2:AP 1 H (.ptr os 8) (B true)=some (H.set os (some (.cells [a,b,c,d,p,I s.cap,I s.made,I s.armed,B true]))):=eJ h.obj (by simp) rfl;simp only[h0,Ad1];rw[h0]at e2;simp only[e2,AF];have h2':=h2;simp only[h0]at h2 h3;exact j1 _ _ h2 h3 (λ_=>by unfold A9;rw[if_pos (.inr h0)];simp[h0]) (λq=>by cases q) h0.symm
 ·simp only[h0,Ab7]
  exact j1 s H h (.refl _ _ _) (λq=>by
   unfold A9;rw[if_pos (.inl q)]
   congr 1
   cases s;simp only at q;subst q
   rfl) (λ_=>⟨rfl,h0⟩) rfl)
theorem aI {N:Nat}{s:StS}{os:Nat}{p bv:AV}{H:AH}{o:OpM}(h:DsAt s os p H)(hw:SW N s)(hN:N≤900000)(hb:SV FB 1 o.b bv)(ho:lV o):
  ∃r H',(r=I (HX s o).1∧∃p',DsAt (HX s o).2 os p' H'∧StF os p p' H H')∧BCall prog 62 [.ptr os 0,.agg (BD o bv)] H r H':=by
 have h0:=h;obtain⟨a0,b0,c0,d0,pv0,hc0⟩:=h;have obv:=SV.oneA hb;have e1:AC H (.agg (BD o bv))=some (.ptr H.length 0,H++[some (.cells (BD o bv))]):=by simp[BD,obv]
 have g:=Grew.app H [some (.cells (BD o bv))];obtain⟨r,H3,⟨rfl,h3,f3⟩,hc⟩:=sP (h0.grew g) hw.armed;have sm:=hw.now.sm (by omega);obtain⟨q1,q2,q3,q4,q5⟩:=Fa s;cases hd:(A9 s).1 with
 | false=>
  have e:HX s o=(8,(A9 s).2):=by unfold HX;rw[if_neg (by rw[hd];simp)]
  rw[e];refine JC ?_;unfold HC;rw[e1,A6];refine bC_of hc ?_;simp only[hd,Ag9,Aa6];exact⟨by trivial,p,h3,(StF.of_grew g).trans f3⟩
 | true=>
  have e:HX s o=(0,{(A9 s).2 with now:=Bi s.now.1 s.now.2 o,pend:=s.pend++[o]}):=by unfold HX;rw[if_pos hd]
  rw[e];have hos:os<H.length:=hc0.lt;have hid:∀j∈AM p,j<H.length:=λj q=>Az hc0.ps j q
  obtain⟨a,b,c,d,pv,h3⟩:=h3;have hl3:H.length+1≤H3.length:=by have:=f3.len;simpa using this
  have c3:H3[H.length]?=some (some (.cells (BD o bv))):=by
   rw[f3.same H.length (by simp) (by omega) (λq=>by have:=hid _ q;omega)];exact Dk
  obtain⟨R,hR,hp⟩:=Un (o:=o) (bv:=bv) h3.now (by rw[q1];exact sm) hb (by have:=ho.1;omega) (by have:=ho.2.1;omega) (by have:=ho.2.2;omega);rw[q1]at hR;obtain⟨a',b',rfl,oa,ob⟩:=hR.agg2;have rd8:∀w:AV,Ax true 8 (BD o w) 0=some (.agg (BD o w)):=λ_=>rfl
  obtain⟨h4,f4⟩:=h3.set (s':={(A9 s).2 with now:=Bi s.now.1 s.now.2 o}) hR h3.kept rfl;have c4:(H3.set os (some (AObj.cells [a',b',c,d,p,I (A9 s).2.cap,I (A9 s).2.made,I (A9 s).2.armed,B (A9 s).2.off])))[H.length]?=some (some (.cells (BD o bv))):=by rw[Cc (by omega)];exact c3
  simp only at h4 f4;have hl4:(H3.set os (some (AObj.cells [a',b',c,d,p,I (A9 s).2.cap,I (A9 s).2.made,I (A9 s).2.armed,B (A9 s).2.off]))).length=H3.length:=by simp
  have q0:=(zdoxZ h3.obj oa ob).1;generalize hH4:H3.set os (some (AObj.cells [a',b',c,d,p,I (A9 s).2.cap,I (A9 s).2.made,I (A9 s).2.armed,B (A9 s).2.off]))=H4 at*;have hpl:pv.length=s.pend.length:=by rw[← q3,← h3.pm,Aj1]
  have hplN:=hw.plen;have hbb:=ho.1
  -- whatever the copy's value is
  have main:∀(w:AV) (H5:AH),oneA w=true→HM 1 1 H4 Ad bv=some (w,H5)→Grew H4 H5→
    ∃r H6,HM 8 96 (H5.set H.length (some (.cells (BD o w)))) p (.imm (BD o w) 1 8)=some (r,H6)∧AZ r=true∧Ac H6 8 r=some (pv.flatMap I3++BD o w,pv.length+1)∧H5.length≤H6.length∧
     (∀i,i<H5.length→i≠H.length→i∉AM p→H6[i]?=H5[i]?)∧(∀i∈AM r,i∈AM p∨H5.length≤i)∧
     BCall prog 62 [.ptr os 0,.agg (BD o bv)] H (I 0) (H6.set os (some (.cells [a',b',c,d,r,I (A9 s).2.cap,I (A9 s).2.made,I (A9 s).2.armed,B (A9 s).2.off]))):=by
   intro w H5 ow ha5 g5;have lt5:H.length<H5.length:=by have:=g5.1;omega
   have s5:AP 1 H5 (.ptr H.length 7) w=some (H5.set H.length (some (.cells (BD o w)))):=by
    rw[AK (n:=1) (xs:=[w]) (cs:=BD o bv) (Bs ow) (g5.cells c4) rfl (by simp[BD])];simp[BD,Bm]
   have c6:(H5.set H.length (some (AObj.cells (BD o w))))[H.length]?=some (some (.cells (BD o w))):=JY lt5
   have o6:(H5.set H.length (some (AObj.cells (BD o w))))[os]?=some (some (.cells [a',b',c,d,p,I (A9 s).2.cap,I (A9 s).2.made,I (A9 s).2.armed,B (A9 s).2.off])):=by
    rw[Cc (by omega)];exact g5.cells h4.obj
   have p6:Ac (H5.set H.length (some (AObj.cells (BD o w)))) 8 p=some (pv.flatMap I3,pv.length):=Ae (g5.slice h4.ps) λi q=>Cc (by have:=hid i q;omega)
   have e6:Qo 8 1 (B4 [(I 0),(I 0),(I 0),(I 0),(B false),(.lit (.string ⟨#[]⟩)),(.lit (.string ⟨#[]⟩)),Ad] 1) [(0,8,.agg (BD o w))]=some (.imm (BD o w) 1 8):=by
    simp[Qo,B4,BD,N6,ow,Bm]
   have x1:Bu (H5.set H.length (some (AObj.cells (BD o w)))) 8 (.imm (BD o w) 1 8)=some (BD o w,1):=A1 (by simp[Ac,BD]);obtain⟨r,H6,a1,a2,a3,a4,a5,a6⟩:=BX (bytes:=96) p6 h4.po x1 (by omega);rw[Aj6]at a4 a6
   have a5':∀i,i<H5.length→i≠H.length→i∉AM p→H6[i]?=H5[i]?:=λi hi hn hp=>by
    rw[a5 i (by rw[Aj6];exact hi) hp,Cc (Aj4 hn)]
   have c7:H6[os]?=some (some (.cells [a',b',c,d,p,I (A9 s).2.cap,I (A9 s).2.made,I (A9 s).2.armed,B (A9 s).2.off])):=by
    rw[a5' os (by omega) (by omega) h4.pi];exact g5.cells h4.obj
   have e7:AP 1 H6 (.ptr os 4) r=some (H6.set os (some (.cells [a',b',c,d,r,I (A9 s).2.cap,I (A9 s).2.made,I (A9 s).2.armed,B (A9 s).2.off]))):=eJ c7 (by simp) (AD a2);refine⟨r,H6,a1,a2,a3,a4,a5',a6,?_⟩
   obtain⟨r',H',⟨rfl,rfl⟩,hcall⟩:=JC (a0:=.ptr os 0) (a1:=.agg (BD o bv)) (H:=H) (K:=λr' H'=>r'=I 0∧H'=H6.set os (some (.cells [a',b',c,d,r,I (A9 s).2.cap,I (A9 s).2.made,I (A9 s).2.armed,B (A9 s).2.off]))) (by
    unfold HC;rw[e1,A6];refine bC_of hc ?_;simp only[hd,Ag5,A4,At,Ai h3.obj,(xD _ _ _ _ _ _ _ _ _).1,Ai c3,rd8];refine bP_of hp ?_;have i7:(BD o bv)[7]?=some bv:=rfl;simp only[Ah2,q0,Ae5,Ai c4,i7,ha5,s5,Ai o6,Aa9,Ai c6,rd8,e6,a1,e7];exact⟨by trivial,by trivial⟩)
   exact hcall
  have bvl:=hb.bytes H4;have xa:Bu H4 1 bv=some (AY o.b,o.b.length):=A1 bvl
  have fr:∀(H5 H6 X:AH) (r:AV),Grew H4 H5→H5.length≤H6.length→(∀i,i<H5.length→i≠H.length→i∉AM p→H6[i]?=H5[i]?)→(∀i∈AM r,i∈AM p∨H5.length≤i)→X.length=H6.length→(∀j,j<H.length→j≠os→j∉AM p→X[j]?=H6[j]?)→StF os p r H X:=by
   intro H5 H6 X r g5 a4 a5 a6 hx1 hx2
   have:=g5.1
   refine⟨by omega,λj hj hne hjp=>?_,λj hj=>(a6 j hj).imp id (λz=>by omega)⟩;rw[hx2 j hj hne hjp,a5 j (by omega) (by omega) hjp,g5.2 j (by omega),f4.same j (by omega) hne hjp,f3.same j (by simp;omega) hne hjp,g.2 j hj]
  rcases Am1 o.b.length with hz | hz
  ·have hnil:o.b=[]:=List.length_eq_zero_iff.1 hz
   have ha5:HM 1 1 H4 Ad bv=some (Ad,H4):=by
    unfold HM;rw[xa];simp only[Pe,hz,if_true]
   obtain⟨r,H6,a1,a2,a3,a4,a5,a6,hcall⟩:=main Ad H4 rfl ha5 (Grew.refl _);have hsv:SV FB 1 o.b Ad:=by rw[hnil];exact SV.nil
   have hor:os∉AM r:=λq=>(a6 os q).elim h4.pi (λq=>by omega)
   have hl6:os<H6.length:=by omega
   refine⟨_,_,⟨rfl,r,⟨a',b',c,d,pv++[⟨o,Ad,hsv⟩],JY hl6,hR,h3.kept,?_,?_,a2,hor⟩,?_⟩,hcall⟩
   ·rw[Ak2,h3.pm,q3];rfl
   ·have:=Ae a3 (H':=H6.set os (some (.cells [a',b',c,d,r,I (A9 s).2.cap,I (A9 s).2.made,I (A9 s).2.armed,B (A9 s).2.off]))) λi q=>Cc (λe=>hor (by rw[e];exact q))
    rw[this];simp[I3]
   ·exact fr H4 H6 _ r (Grew.refl _) a4 a5 a6 (by rw[Aj6]) λj hj hne hjp=>Cc (Aj4 hne)
  ·have ha5:HM 1 1 H4 Ad bv=some (.sl H4.length 0 o.b.length 1 (.ge o.b.length),H4++[some (.cells (AY o.b))]):=by
    unfold HM;rw[xa];have:¬o.b.length=0:=by omega
    simp only[Pe,this,if_false];rw[if_pos (by omega)]
   have g5:=Grew.app H4 [some (AObj.cells (AY o.b))];have l5:(H4++[some (AObj.cells (AY o.b))]).length=H4.length+1:=by simp
   have b5:(H4++[some (AObj.cells (AY o.b))])[H4.length]?=some (some (AObj.cells (AY o.b))):=Dk;generalize (H4++[some (AObj.cells (AY o.b))])=H5 at*;obtain⟨r,H6,a1,a2,a3,a4,a5,a6,hcall⟩:=main (.sl H4.length 0 o.b.length 1 (.ge o.b.length)) H5 rfl ha5 g5;have hor:os∉AM r:=λq=>(a6 os q).elim h4.pi (λq=>by omega)
   have hl6:os<H6.length:=by omega
   obtain⟨q,off,cap,c1,rfl,hq,hfit,a31⟩:=I7 a3 a2 (Nat.succ_pos _);have a31:=a31.symm
   have hlenp:(pv.flatMap I3).length=pv.length*8:=by
    have:=B7 h4.ps
    exact this
   have hqB:H4.length≠q:=λz=>by
    rcases a6 q (by simp[AM])with y | y
    ·have:=hid q y;omega
    ·omega
   have hqo:q≠os:=λz=>hor (by simp[AM,z])
   have hk:c1[off+(pv.length*8+7)]?=some (.sl H4.length 0 o.b.length 1 (.ge o.b.length)):=by
    have h1:((c1.drop off).take ((pv.length+1)*8))[pv.length*8+7]?=some (.sl H4.length 0 o.b.length 1 (.ge o.b.length)):=by
     rw[a31,Ai1 (by omega),hlenp,show pv.length*8+7 - pv.length*8=7 by omega];rfl
    rw[Ao9 (by omega),Ai6]at h1;exact h1
   have hX1:(H6.set os (some (AObj.cells [a',b',c,d,.sl q off (pv.length+1) 8 cap,I (A9 s).2.cap,I (A9 s).2.made,I (A9 s).2.armed,B (A9 s).2.off])))[q]?=some (some (.cells c1)):=by
    rw[Cc (Aj4 hqo)];exact hq
   have hB6:H6[H4.length]?=some (some (.cells (AY o.b))):=by
    rw[a5 H4.length (by omega) (by omega) (λz=>by have:=hid _ z;omega)];exact b5
   have hBo:os≠H4.length:=by omega
   have hX2:(H6.set os (some (AObj.cells [a',b',c,d,.sl q off (pv.length+1) 8 cap,I (A9 s).2.cap,I (A9 s).2.made,I (A9 s).2.armed,B (A9 s).2.off])))[H4.length]?=some (some (.cells (AY o.b))):=by
    rw[Cc hBo];exact hB6
   have hfz:=BCall.fzCell hcall hqB hX2 hX1 hk (by
    rw[Ak9,An6,Ai2 (by rw[Dg];exact Ah9 _)];exact Jw o.b)
   rw[Ak9,An6,Ai2 (by rw[Dg];exact Ah9 _)]at hfz
   have hsv:SV FB 1 o.b (.imm (AY o.b) o.b.length 1):=by
    have:=SV.imm (enc:=FB) (sz:=1) (l:=o.b) (λ_=>rfl) (λx hx=>rfl)
    rwa[Jv]at this
   have hql:q<((H6.set os (some (AObj.cells [a',b',c,d,.sl q off (pv.length+1) 8 cap,I (A9 s).2.cap,I (A9 s).2.made,I (A9 s).2.armed,B (A9 s).2.off]))).set H4.length none).length:=by
    rw[Aj6,Aj6];exact(BE.1 hq).1
   refine⟨_,_,⟨rfl,.sl q off (pv.length+1) 8 cap,⟨a',b',c,d,pv++[⟨o,.imm (AY o.b) o.b.length 1,hsv⟩],?_,hR,h3.kept,?_,?_,rfl,hor⟩,?_⟩,hfz⟩
   ·rw[Cc hqo,Cc (Aj4 hBo)]
    exact JY hl6
   ·rw[Ak2,h3.pm,q3];rfl
   ·rw[Br (JY hql) (by rw[Aj6];exact hfit),List.drop_set,if_neg (by omega),show off+(pv.length*8+7) - off=pv.length*8+7 by omega,List.take_set,a31,At7 _ _ (by omega),hlenp,show pv.length*8+7 - pv.length*8=7 by omega,Al7,Ai3]
    rfl
   ·refine fr H5 H6 _ _ g5 a4 a5 a6 (by simp) λj hj hne hjp=>?_
    have hjq:q≠j:=λz=>by
     rcases a6 q (by simp[AM])with y | y
     ·exact hjp (z▸y)
     ·omega
    rw[Cc hjq,Cc (by omega),Cc (Aj4 hne)]
theorem iX {N:Nat}{s:StS}{os:Nat}{p:AV}{H:AH}(h:DsAt s os p H)(hw:SW N s)(hN:N<900000){name:List UInt8}(hn:name.length≤9223372036854775807)(make:Bool):
  ∃r H',(r=.tup [I (Bq s name make).1.1,I (Bq s name make).1.2]∧∃p',DsAt (Bq s name make).2 os p' H'∧StF os p p' H H')∧BCall prog 14 [.ptr os 0,S (B9 name),B make] H r H':=OX (by
 unfold Ks;have h':=h;obtain⟨a,b,c,d,pv,hc⟩:=h;have hmade:=hw.made
 have stop:∀x y:Int,Ct s name=(x,y)→y≠3→(∃p',DsAt (Bq s name make).2 os p' H∧StF os p p' H H)∧Bq s name make=((x,y),s):=by
  intro x y e e2;have:Bq s name make=(Ct s name,s):=by unfold Bq;rw[if_pos (.inl (by rw[e];exact e2))]
  rw[this,e];exact⟨⟨p,h',.refl _ _ _⟩,rfl⟩
 simp only[Ah1,Ai hc.obj];cases hoff:s.off with
 | true=>
  have e:Ct s name=(0,8):=by unfold Ct;rw[if_pos hoff]
  obtain⟨q1,q2⟩:=stop 0 8 e (by omega);simp only[As];exact⟨by rw[q2],q1⟩
 | false=>
  simp only[Ak];refine Ay (Fe hn) ?_
  by_cases hm:DE name
  ·have hf:=sB hc.now (hw.now.sm (by omega)) name
   obtain⟨w1,w2⟩:=tK hw.now.1 name;rw[w1,show decide (UW s.now.1 s.now.2 name)=decide (Be Nm.name s.now.1 name)from decide_eq_decide.2 w2]at hf;simp only[hm,CL,Ag5,(xD _ _ _ _ _ _ _ _ _).1];refine Ay hf ?_
   by_cases hk:Be Nm.name s.now.1 name
   ·have e:Ct s name=(Db s.now.1 name,0):=by unfold Ct;rw[if_neg (by rw[hoff];simp),if_neg (λq=>q hm),if_pos hk]
    obtain⟨q1,q2⟩:=stop _ _ e (by omega);simp only[Ab8,hk,Ad1];exact⟨by rw[q2],q1⟩
   ·have e3:Ct s name=(0,3):=by unfold Ct;rw[if_neg (by rw[hoff];simp),if_neg (λq=>q hm),if_neg hk]
    simp only[Ab8,hk,Ab7];cases make with
    | false=>
     have e:Bq s name false=((0,3),s):=by unfold Bq;rw[if_pos (.inr rfl),e3]
     rw[e];simp only[Aa5];exact⟨by trivial,p,h',.refl _ _ _⟩
    | true=>
     have hn0:¬((Ct s name).2≠3∨true=false):=by rintro(q | q);exact q (by rw[e3]);cases q
     obtain⟨a',b',dv,eab,sa,sb,-⟩:=hc.now;injection eab with eab;injection eab with ea eb;subst ea;simp only[Ag0,sa.len,ZP]
     by_cases h16:16≤s.now.1.length
     ·have h16I:(16:Int)≤(s.now.1.length:Int):=by omega
      have e:Bq s name true=((0,4),s):=by unfold Bq;rw[if_neg hn0,if_pos h16]
      rw[e];simp only[h16I,Ad1];exact⟨by trivial,p,h',.refl _ _ _⟩
     ·have h16I:¬(16:Int)≤(s.now.1.length:Int):=by omega
      have ho:lV (DY name (s.made+1)):=⟨by simp[DY],hm.2.1,by simp[DY]⟩;have e1:Ar .add (I s.made) (I 1)=some (I (s.made+1)):=Au (by omega) (by omega);have e2:En [(I 0),(I 0),(I 0),(I 0),(B false),(.lit (.string ⟨#[]⟩)),(.lit (.string ⟨#[]⟩)),Ad] [(0,1,(I 1)),(5,1,S (B9 name)),(1,1,I (s.made+1))]=some (.agg (BD (DY name (s.made+1)) Ad)):=rfl;simp only[h16I,Ab7,Aa,e1,e2];obtain⟨r,H2,⟨rfl,p2,h2,f2⟩,hcall⟩:=aI (bv:=Ad) h' hw (by omega) SV.nil ho;refine bC_of hcall ?_;simp only[B6,Aa6]
      by_cases hd:(HX s (DY name (s.made+1))).1=0
      ·have e:Bq s name true=((s.made+1,0),{(HX s (DY name (s.made+1))).2 with made:=s.made+1}):=by unfold Bq;rw[if_neg hn0,if_neg h16,if_neg (by rw[hd];simp)]
       rw[e]
       have emade:(HX s (DY name (s.made+1))).2.made=s.made:=by
        obtain⟨-,-,-,q4,-⟩:=Fa s;unfold HX;split<;>exact q4
       obtain⟨a2,b2,c2,d2,pv2,hc2⟩:=h2;obtain⟨h3',f3⟩:=hc2.set (s':={(HX s (DY name (s.made+1))).2 with made:=s.made+1}) hc2.now hc2.kept rfl;have e3:AP 1 H2 (.ptr os 6) (I (s.made+1))=some (H2.set os (some (.cells [a2,b2,c2,d2,p2,I (HX s (DY name (s.made+1))).2.cap,I (s.made+1),I (HX s (DY name (s.made+1))).2.armed,B (HX s (DY name (s.made+1))).2.off]))):=eJ hc2.obj (by simp) rfl;have hob:=hc2.obj;rw[emade]at hob;simp only[hd,Ag2,Ah2,Ai hob,Aa9,e1,e3,AF,Ai h3'.obj];exact⟨by trivial,p2,⟨a2,b2,c2,d2,pv2,h3'⟩,f2.trans f3⟩
      ·have e:Bq s name true=((0,(HX s (DY name (s.made+1))).1),(HX s (DY name (s.made+1))).2):=by unfold Bq;rw[if_neg hn0,if_neg h16,if_pos hd]
       rw[e];simp only[hd,Ab6,CL];exact⟨by trivial,p2,h2,f2⟩
  ·have e:Ct s name=(0,5):=by unfold Ct;rw[if_neg (by rw[hoff];simp),if_pos hm]
   obtain⟨q1,q2⟩:=stop 0 5 e (by omega);simp only[hm,Dd,Ag9,Aa6];exact⟨by rw[q2],q1⟩)
theorem Pd {N:Nat}{s:StS}{os:Nat}{p:AV}{H:AH}(h:DsAt s os p H)(hw:SW N s)(hN:N≤900000)(ino:Int):
  ∃R,SV AB 9 (Aq s ino).1.2 R∧∃r H',(r=.tup [.agg [I (Aq s ino).1.1,R],I (Aq s ino).2]∧Grew H H')∧BCall prog 67 [.ptr os 0,I ino] H r H':=by
 obtain⟨a,b,c,d,pv,h⟩:=h;have e0:En [(I 0),Ad] []=some (.agg [I 0,Ad]):=rfl;have g:=Grew.app H [some (.cells [I 0,Ad])];cases ho:s.off with
 | true=>
  have e:Aq s ino=((0,[]),8):=by unfold Aq;rw[if_pos ho]
  rw[e];refine⟨Ad,SV.nil,EH ?_⟩;unfold Es;simp only[Y8,Ae5,Ah1,Ai (g.cells h.obj),ho,As,e0,HU H 0 (R:=Ad) rfl,Ai Dk,dS];exact⟨by trivial,Grew.app _ _⟩
 | false=>
  have sm:=hw.now.sm (by omega);obtain⟨R,hR,hp⟩:=iJ h.now sm ino;have oR:=SV.oneA hR
  by_cases hg:Yr s.now.1 s.now.2 ino
  ·have e:Aq s ino=(((Fc s.now.1 s.now.2 ino).size,(Fc s.now.1 s.now.2 ino).l),0):=by unfold Aq;rw[if_neg (by rw[ho];simp),if_pos hg]
   rw[e];refine⟨R,hR,EH ?_⟩;unfold Es;simp only[Y8,A6,Ah1,Ai (g.cells h.obj),ho,Ak,(xD _ _ _ _ _ _ _ _ _).1];refine Ay hp ?_;have g2:=Grew.app (H++[some (AObj.cells [I 0,Ad])]) [some (AObj.cells [I (Fc s.now.1 s.now.2 ino).size,R])]
   have e5:AP 2 (H++[some (AObj.cells [I 0,Ad])]++[some (AObj.cells [I (Fc s.now.1 s.now.2 ino).size,R])]) (.ptr H.length 0) (.agg [I (Fc s.now.1 s.now.2 ino).size,R])=some (H++[some (AObj.cells [I (Fc s.now.1 s.now.2 ino).size,R])]++[some (AObj.cells [I (Fc s.now.1 s.now.2 ino).size,R])]):=by
    rw[AK (n:=2) (xs:=[I (Fc s.now.1 s.now.2 ino).size,R]) (cs:=[I 0,Ad]) (by simp[oR]) (g2.cells Dk) rfl (by simp)];simp[Bm]
   have g3:=Grew.app (H++[some (AObj.cells [I (Fc s.now.1 s.now.2 ino).size,R])]) [some (AObj.cells [I (Fc s.now.1 s.now.2 ino).size,R])];simp only[Ac4,Ag5,HU _ _ oR,AF,hg,CL,Ai Dk,dS,e5,Ai (g3.cells Dk)];exact⟨by trivial,(Grew.app H _).trans g3⟩
  ·have e:Aq s ino=((0,[]),3):=by unfold Aq;rw[if_neg (by rw[ho];simp),if_neg hg]
   rw[e];refine⟨Ad,SV.nil,EH ?_⟩;unfold Es;simp only[Y8,A6,Ah1,Ai (g.cells h.obj),ho,Ak,(xD _ _ _ _ _ _ _ _ _).1];refine Ay hp ?_;have g2:=Grew.app (H++[some (AObj.cells [I 0,Ad])]) [some (AObj.cells [I (Fc s.now.1 s.now.2 ino).size,R])]
   have e5:AP 2 (H++[some (AObj.cells [I 0,Ad])]++[some (AObj.cells [I (Fc s.now.1 s.now.2 ino).size,R])]) (.ptr H.length 0) (.agg [I 0,Ad])=some (H++[some (AObj.cells [I 0,Ad])]++[some (AObj.cells [I (Fc s.now.1 s.now.2 ino).size,R])]):=by
    rw[AK (n:=2) (xs:=[I 0,Ad]) (cs:=[I 0,Ad]) rfl (g2.cells Dk) rfl (by simp)];simp[Bm]
   simp only[Ab8,HU _ _ oR,AF,hg,Dd,Ag9,e0,e5,Ai (g2.cells Dk),dS];exact⟨by trivial,g.trans g2⟩
theorem StAt.keepH {s:StS}{os:Nat}{p:AV}{H H':AH}(h:StAt s os p H)(k1:H'[os]?=H[os]?)(k2:∀i∈AM p,H'[i]?=H[i]?):StAt s os p H':=by
 obtain⟨a,b,c,d,pv,h⟩:=h;exact⟨a,b,c,d,pv,k1.trans h.obj,h.now,h.kept,h.pm,Ae h.ps k2,h.po,h.pi,h.pc⟩
structure Duo (s t:StS)(os od:Nat)(p q:AV)(H:AH):Prop where
 P:StAt s os p H
 D:DsAt t od q H
 ne:os≠od
 pd:od∉AM p
 dp:os∉AM q
 pq:∀i∈AM p,i∉AM q
theorem Duo.stepP {s s' t:StS}{os od:Nat}{p p' q:AV}{H H':AH}(h:Duo s t os od p q H)(k:StAt s' os p' H')(f:StF os p p' H H'):Duo s' t os od p' q H':=by
 have l1:=h.D.os_lt;have l2:=h.D.p_lt;exact⟨k,h.D.keep (f.same od l1 (Aj4 h.ne) h.pd) λi hi=>f.same i (l2 i hi) (λe=>h.dp (e▸hi)) (λz=>h.pq i z hi),h.ne,λz=>(f.ids od z).elim h.pd (λz=>by omega),h.dp,λi hi z=>(f.ids i hi).elim (λy=>h.pq i y z) (λy=>by have:=l2 i z;omega)⟩
theorem Duo.stepD {s t t':StS}{os od:Nat}{p q q':AV}{H H':AH}(h:Duo s t os od p q H)(k:DsAt t' od q' H')(f:StF od q q' H H'):Duo s t' os od p q' H':=by
 obtain⟨a,b,c,d,pv,hc⟩:=h.P;have l1:=hc.lt;have l2:=Wf hc;exact⟨h.P.keepH (f.same os l1 h.ne h.dp) λi hi=>f.same i (l2 i hi) (λe=>h.pd (e▸hi)) (λz=>h.pq i hi z),k,h.ne,h.pd,λz=>(f.ids os z).elim h.dp (λz=>by omega),λi hi z=>(f.ids i z).elim (λy=>h.pq i hi y) (λy=>by have:=l2 i hi;omega)⟩
theorem Duo.grew {s t:StS}{os od:Nat}{p q:AV}{H H':AH}(h:Duo s t os od p q H)(g:Grew H H'):Duo s t os od p q H':=⟨h.P.grew g,h.D.grew g,h.ne,h.pd,h.dp,h.pq⟩
theorem sF (ns:List Nm)(ds:List Nd):decide (XL ns ds ns ds)=true:=decide_eq_true ⟨rfl,rfl⟩
theorem zdgkZ {room:Int}{H H1 H2:AH}{p:AV}(h1:StAt (SQ room) H.length p H1)(l1:H1.length=H.length+1)(hid:AM p=[])(h2:DsAt (SQ room) H1.length Ad H2)(g:Grew H1 H2):Duo (SQ room) (SQ room) H.length H1.length p Ad H2:=
 ⟨h1.grew g,h2,by omega,by rw[hid];simp,by simp[AM],by rw[hid];simp⟩
def dO (ino pos n:Int)(keep:Bool):OpM:=⟨4,ino,pos,n,keep,[],[],[]⟩
def kY (ino pos n:Int):OpM:=⟨5,ino,pos,n,false,[],[],[]⟩
theorem rS (ino pos n:Int)(keep:Bool):lV (dO ino pos n keep):=⟨by simp[dO],by simp[dO],by simp[dO]⟩
theorem rT (ino pos n:Int):lV (kY ino pos n):=⟨by simp[kY],by simp[kY],by simp[kY]⟩
def RX (s:StS)(ino pos n:Int):Int×StS:=
 if(Aq s ino).2≠0 then((Aq s ino).2,s)else if CM (Aq s ino).1 pos n=none then(5,s)else HX s (kY ino pos n)
def RF (s:StS)(ino pos n:Int)(keep:Bool):Int×StS:=
 if(Aq s ino).2≠0 then((Aq s ino).2,s)else if Cj (Aq s ino).1 pos n keep=none then(5,s)
 else if LV s<(cL (Cj (Aq s ino).1 pos n keep)).length - (Aq s ino).1.2.length then(4,s)else HX s (dO ino pos n keep)
theorem zdecZ {N:Nat}{s:StS}(h:SW N s)(ino pos n:Int):SW (N+1) (RX s ino pos n).2:=by
 unfold RX
 split
 ·exact h.mono (by omega)
 ·split
  ·exact h.mono (by omega)
  ·exact WH h (rT ino pos n)
theorem yQ {N:Nat}{s:StS}(h:SW N s)(ino pos n:Int)(keep:Bool):SW (N+4099) (RF s ino pos n keep).2:=by
 unfold RF
 split
 ·exact h.mono (by omega)
 ·split
  ·exact h.mono (by omega)
  ·split
   ·exact h.mono (by omega)
   ·exact WH h (rS ino pos n keep)
noncomputable def YR (s:StS)(ino pos:Int):Int×Int:=
 if(Aq s ino).2≠0 then(0,(Aq s ino).2)else match Qu (Aq s ino).1.1 (Aq s ino).1.2 pos with | none=>(0,5) | some n=>(n,0)
noncomputable def Zi (s:StS)(ino pos:Int):Int×Int:=
 if(Aq s ino).2≠0 then(0,(Aq s ino).2)else match WX (Aq s ino).1.1 (Aq s ino).1.2 pos with | none=>(0,5) | some n=>(n,0)
theorem gE {c:Lv}{pos n:Int}{keep:Bool}:(cL (Cj c pos n keep)).length≤c.2.length+4098:=by
 have h:=tF (o:=dO 0 pos n keep) (d:=⟨0,c.1,c.2⟩)
 simpa[GZ,dO]using h
theorem iW {N:Nat}{s:StS}{os:Nat}{p:AV}{H:AH}(h:DsAt s os p H)(hw:SW N s)(hN:N≤900000):BCall prog 110 [.ptr os 0] H (I (LV s)) H:=by
 obtain⟨r,H',⟨rfl,rfl⟩,hc⟩:=OV (a0:=.ptr os 0) (H:=H) (K:=λr H'=>r=I (LV s)∧H'=H) (by
  obtain⟨a,b,c,d,pv,h⟩:=h;unfold Kq;have hu:=sC h.now (hw.now.sm (by omega));rw[uW hw.now.1]at hu;have hs:=pH hw.now;have hcap:=hw.cap;have e1:Ar .sub (I s.cap) (I (LC s.now.2:Int))=some (I (s.cap - LC s.now.2)):=B2 (by omega) (by omega);have e2:amm XX [I (s.cap - LC s.now.2),(I 0)]=some (I (LV s)):=by rw[LD,Yx];rfl
  simp only[Ah5,Ai h.obj,(xD _ _ _ _ _ _ _ _ _).1];refine bP_of hu ?_;simp only[e1,Aa,e2];exact⟨by trivial,by trivial⟩)
 exact hc
theorem mA {N:Nat}{s:StS}{os:Nat}{p:AV}{H:AH}(h:DsAt s os p H)(hw:SW N s)(hN:N<900000)(ino size:Int):
  ∃r H',(r=I (DH s ino size).1∧∃p',DsAt (DH s ino size).2 os p' H'∧StF os p p' H H')∧BCall prog 70 [.ptr os 0,I ino,I size] H r H':=Mv (by
 unfold Hz;obtain⟨R,hR,r,H1,⟨rfl,g1⟩,hc⟩:=Pd h hw (by omega) ino;have hlen:=CN hw ino;refine bC_of hc ?_;unfold DH;generalize Aq s ino=ct at*;have oR:=SV.oneA hR;have h1:=h.grew g1;have g2:=Grew.app H1 [some (.cells [I ct.1.1,R])];have h2:=h1.grew g2;simp only[Af9,HU _ _ oR]
 by_cases hc0:ct.2=0
 ·simp only[hc0,Ag3,Ai Dk,dS,Aa]
  obtain⟨R2,hR2,hp⟩:=La (size0:=ct.1.1) hR (by omega) size;refine Ay hp ?_;have oR2:=SV.oneA hR2;have g3:=Grew.app (H1++[some (AObj.cells [I ct.1.1,R])]) [some (.cells [I (cS (Cl (ct.1.1,ct.1.2) size)),R2])];have h3:=h2.grew g3;have ff:StF os p p H (H1++[some (AObj.cells [I ct.1.1,R])]++[some (.cells [I (cS (Cl (ct.1.1,ct.1.2) size)),R2])]):=.of_grew ((g1.trans g2).trans g3);simp only[Ab8,HU _ _ oR2,AF,Bj];cases ht:Cl (ct.1.1,ct.1.2) size with
  | none=>
   have ht':Cl ct.1 size=none:=ht;rw[ht]at h3 ff;simp only[Ac1,Aa5];exact⟨by trivial,p,h3,ff⟩
  | some c2=>
   have ht':¬Cl ct.1 size=none:=by rw[show Cl ct.1 size=some c2 from ht];simp
   rw[ht]at h3 ff;have e2:En [(I 0),(I 0),(I 0),(I 0),(B false),(.lit (.string ⟨#[]⟩)),(.lit (.string ⟨#[]⟩)),Ad] [(0,1,(I 3)),(1,1,I ino),(3,1,I size)]=some (.agg (BD (Wo ino size) Ad)):=rfl;simp only[Ac6,Ak,e2];obtain⟨r,H2,⟨rfl,p2,h4,f4⟩,hcall⟩:=aI (bv:=Ad) (o:=Wo ino size) h3 hw (by omega) SV.nil (rU ino size);exact bC_of hcall ⟨rfl,p2,h4,ff.trans f4⟩
 ·simp only[hc0,Ad4]
  exact⟨by trivial,p,h2,.of_grew (g1.trans g2)⟩)
theorem zdfoZ {N:Nat}{s:StS}{os:Nat}{p:AV}{H:AH}(h:StAt s os p H)(hw:SW N s)(hN:N<900000)(ino pos n:Int):
  ∃r H',(r=I (RX s ino pos n).1∧∃p',StAt (RX s ino pos n).2 os p' H'∧StF os p p' H H')∧BCall prog 51 [.ptr os 0,I ino,I pos,I n] H r H':=Uy (by
 unfold PE;obtain⟨R,hR,r,H1,⟨rfl,g1⟩,hc⟩:=Ju h hw (by omega) ino;have hlen:=CN hw ino;refine bC_of hc ?_;unfold RX;generalize Aq s ino=ct at*;have oR:=SV.oneA hR;have h1:=h.grew g1;have g2:=Grew.app H1 [some (.cells [I ct.1.1,R])];have h2:=h1.grew g2;simp only[Af9,HU _ _ oR]
 by_cases hc0:ct.2=0
 ·simp only[hc0,Ag3,Ai Dk,dS,Aa]
  obtain⟨R2,hR2,hp⟩:=TG (size:=ct.1.1) hR (by omega) pos n;refine Ay hp ?_;have oR2:=SV.oneA hR2;have g3:=Grew.app (H1++[some (AObj.cells [I ct.1.1,R])]) [some (.cells [I (cS (CM (ct.1.1,ct.1.2) pos n)),R2])];have h3:=h2.grew g3;have ff:StF os p p H (H1++[some (AObj.cells [I ct.1.1,R])]++[some (.cells [I (cS (CM (ct.1.1,ct.1.2) pos n)),R2])]):=.of_grew ((g1.trans g2).trans g3);simp only[Ab8,HU _ _ oR2,AF,Bj];cases ht:CM (ct.1.1,ct.1.2) pos n with
  | none=>
   have ht':CM ct.1 pos n=none:=ht;rw[ht]at h3 ff;simp only[Ac1,Aa5];exact⟨by trivial,p,h3,ff⟩
  | some c2=>
   have ht':¬CM ct.1 pos n=none:=by rw[show CM ct.1 pos n=some c2 from ht];simp
   rw[ht]at h3 ff;have e2:En [(I 0),(I 0),(I 0),(I 0),(B false),(.lit (.string ⟨#[]⟩)),(.lit (.string ⟨#[]⟩)),Ad] [(0,1,(I 5)),(1,1,I ino),(2,1,I pos),(3,1,I n)]=some (.agg (BD (kY ino pos n) Ad)):=rfl;simp only[Ac6,Ak,e2];obtain⟨r,H2,⟨rfl,p2,h4,f4⟩,hcall⟩:=qS (bv:=Ad) (o:=kY ino pos n) h3 hw (by omega) SV.nil (rT ino pos n);exact bC_of hcall ⟨rfl,p2,h4,ff.trans f4⟩
 ·simp only[hc0,Ad4]
  exact⟨by trivial,p,h2,.of_grew (g1.trans g2)⟩)
theorem xY {N:Nat}{s:StS}{os:Nat}{p:AV}{H:AH}(h:DsAt s os p H)(hw:SW N s)(hN:N<900000)(ino pos n:Int):
  ∃r H',(r=I (RX s ino pos n).1∧∃p',DsAt (RX s ino pos n).2 os p' H'∧StF os p p' H H')∧BCall prog 72 [.ptr os 0,I ino,I pos,I n] H r H':=O4 (by
 unfold JA;obtain⟨R,hR,r,H1,⟨rfl,g1⟩,hc⟩:=Pd h hw (by omega) ino;have hlen:=CN hw ino;refine bC_of hc ?_;unfold RX;generalize Aq s ino=ct at*;have oR:=SV.oneA hR;have h1:=h.grew g1;have g2:=Grew.app H1 [some (.cells [I ct.1.1,R])];have h2:=h1.grew g2;simp only[Af9,HU _ _ oR]
 by_cases hc0:ct.2=0
 ·simp only[hc0,Ag3,Ai Dk,dS,Aa]
  obtain⟨R2,hR2,hp⟩:=NP (size:=ct.1.1) hR (by omega) pos n;refine Ay hp ?_;have oR2:=SV.oneA hR2;have g3:=Grew.app (H1++[some (AObj.cells [I ct.1.1,R])]) [some (.cells [I (cS (CM (ct.1.1,ct.1.2) pos n)),R2])];have h3:=h2.grew g3;have ff:StF os p p H (H1++[some (AObj.cells [I ct.1.1,R])]++[some (.cells [I (cS (CM (ct.1.1,ct.1.2) pos n)),R2])]):=.of_grew ((g1.trans g2).trans g3);simp only[Ab8,HU _ _ oR2,AF,Bj];cases ht:CM (ct.1.1,ct.1.2) pos n with
  | none=>
   have ht':CM ct.1 pos n=none:=ht;rw[ht]at h3 ff;simp only[Ac1,Aa5];exact⟨by trivial,p,h3,ff⟩
  | some c2=>
   have ht':¬CM ct.1 pos n=none:=by rw[show CM ct.1 pos n=some c2 from ht];simp
   rw[ht]at h3 ff;have e2:En [(I 0),(I 0),(I 0),(I 0),(B false),(.lit (.string ⟨#[]⟩)),(.lit (.string ⟨#[]⟩)),Ad] [(0,1,(I 5)),(1,1,I ino),(2,1,I pos),(3,1,I n)]=some (.agg (BD (kY ino pos n) Ad)):=rfl;simp only[Ac6,Ak,e2];obtain⟨r,H2,⟨rfl,p2,h4,f4⟩,hcall⟩:=aI (bv:=Ad) (o:=kY ino pos n) h3 hw (by omega) SV.nil (rT ino pos n);exact bC_of hcall ⟨rfl,p2,h4,ff.trans f4⟩
 ·simp only[hc0,Ad4]
  exact⟨by trivial,p,h2,.of_grew (g1.trans g2)⟩)
theorem zdfjZ {N:Nat}{s:StS}{os:Nat}{p:AV}{H:AH}(h:StAt s os p H)(hw:SW N s)(hN:N<900000)(ino pos n:Int)(keep:Bool):
  ∃r H',(r=I (RF s ino pos n keep).1∧∃p',StAt (RF s ino pos n keep).2 os p' H'∧StF os p p' H H')∧BCall prog 50 [.ptr os 0,I ino,I pos,I n,B keep] H r H':=Ri (by
 unfold M1;obtain⟨R,hR,r,H1,⟨rfl,g1⟩,hc⟩:=Ju h hw (by omega) ino;have hlen:=CN hw ino;refine bC_of hc ?_;unfold RF;generalize Aq s ino=ct at*;have oR:=SV.oneA hR;have h1:=h.grew g1;have g2:=Grew.app H1 [some (.cells [I ct.1.1,R])];have h2:=h1.grew g2;simp only[Af9,HU _ _ oR]
 by_cases hc0:ct.2=0
 ·simp only[hc0,Ag3,Ai Dk,dS,Aa]
  obtain⟨R2,hR2,hp⟩:=Pi (size:=ct.1.1) hR (by omega) pos n keep;refine Ay hp ?_;have oR2:=SV.oneA hR2;have g3:=Grew.app (H1++[some (AObj.cells [I ct.1.1,R])]) [some (.cells [I (cS (Cj (ct.1.1,ct.1.2) pos n keep)),R2])];have h3:=h2.grew g3;have ff:StF os p p H (H1++[some (AObj.cells [I ct.1.1,R])]++[some (.cells [I (cS (Cj (ct.1.1,ct.1.2) pos n keep)),R2])]):=.of_grew ((g1.trans g2).trans g3);simp only[Ab8,HU _ _ oR2,AF,Bj];cases ht:Cj (ct.1.1,ct.1.2) pos n keep with
  | none=>
   have ht':Cj ct.1 pos n keep=none:=ht;rw[ht]at h3 ff;simp only[Ac1,Aa5];exact⟨by trivial,p,h3,ff⟩
  | some c2=>
   have ht':¬Cj ct.1 pos n keep=none:=by rw[show Cj ct.1 pos n keep=some c2 from ht];simp
   have e2:En [(I 0),(I 0),(I 0),(I 0),(B false),(.lit (.string ⟨#[]⟩)),(.lit (.string ⟨#[]⟩)),Ad] [(0,1,(I 4)),(1,1,I ino),(2,1,I pos),(3,1,I n),(4,1,B keep)]=some (.agg (BD (dO ino pos n keep) Ad)):=rfl;have hb:=gE (c:=(ct.1.1,ct.1.2)) (pos:=pos) (n:=n) (keep:=keep);have hs:=hR2.len;have hs0:=hR.len;rw[ht]at hb hs h3 ff g3;simp only at hb;have e3:Ar .sub (I ((cL (some c2)).length:Int)) (I (ct.1.2.length:Int))=some (I (((cL (some c2)).length:Int) - (ct.1.2.length:Int))):=B2 (by omega) (by omega);have g23:=g3.cells (o:=H1.length) (x:=some (AObj.cells [I ct.1.1,R])) Dk;simp only[Ac6,Ab1,reduceCtorEq,Ab4,Ai Dk,Ai g23,Aa9,hs,hs0,e3];refine bC_of (pQ h3 hw (by omega)) ?_;simp only[Du,Ab0,Ai Dk,Ai g23,Ah,true_and]
   by_cases c4:LV s<((cL (some c2)).length:Int) - (ct.1.2.length:Int)
   ·simp only[c4,Aa4,As]
    exact⟨by trivial,p,h3,ff⟩
   ·simp only[c4,Af5,e2,Aa]
    obtain⟨r,H2,⟨rfl,p2,h4,f4⟩,hcall⟩:=qS (bv:=Ad) (o:=dO ino pos n keep) h3 hw (by omega) SV.nil (rS ino pos n keep);exact bC_of hcall ⟨rfl,p2,h4,ff.trans f4⟩
 ·simp only[hc0,Ad4]
  exact⟨by trivial,p,h2,.of_grew (g1.trans g2)⟩)
theorem xW {N:Nat}{s:StS}{os:Nat}{p:AV}{H:AH}(h:DsAt s os p H)(hw:SW N s)(hN:N<900000)(ino pos n:Int)(keep:Bool):
  ∃r H',(r=I (RF s ino pos n keep).1∧∃p',DsAt (RF s ino pos n keep).2 os p' H'∧StF os p p' H H')∧BCall prog 71 [.ptr os 0,I ino,I pos,I n,B keep] H r H':=Mt (by
 unfold Hv;obtain⟨R,hR,r,H1,⟨rfl,g1⟩,hc⟩:=Pd h hw (by omega) ino;have hlen:=CN hw ino;refine bC_of hc ?_;unfold RF;generalize Aq s ino=ct at*;have oR:=SV.oneA hR;have h1:=h.grew g1;have g2:=Grew.app H1 [some (.cells [I ct.1.1,R])];have h2:=h1.grew g2;simp only[Af9,HU _ _ oR]
 by_cases hc0:ct.2=0
 ·simp only[hc0,Ag3,Ai Dk,dS,Aa]
  obtain⟨R2,hR2,hp⟩:=KZ (size:=ct.1.1) hR (by omega) pos n keep;refine Ay hp ?_;have oR2:=SV.oneA hR2;have g3:=Grew.app (H1++[some (AObj.cells [I ct.1.1,R])]) [some (.cells [I (cS (Cj (ct.1.1,ct.1.2) pos n keep)),R2])];have h3:=h2.grew g3;have ff:StF os p p H (H1++[some (AObj.cells [I ct.1.1,R])]++[some (.cells [I (cS (Cj (ct.1.1,ct.1.2) pos n keep)),R2])]):=.of_grew ((g1.trans g2).trans g3);simp only[Ab8,HU _ _ oR2,AF,Bj];cases ht:Cj (ct.1.1,ct.1.2) pos n keep with
  | none=>
   have ht':Cj ct.1 pos n keep=none:=ht;rw[ht]at h3 ff;simp only[Ac1,Aa5];exact⟨by trivial,p,h3,ff⟩
  | some c2=>
   have ht':¬Cj ct.1 pos n keep=none:=by rw[show Cj ct.1 pos n keep=some c2 from ht];simp
   have e2:En [(I 0),(I 0),(I 0),(I 0),(B false),(.lit (.string ⟨#[]⟩)),(.lit (.string ⟨#[]⟩)),Ad] [(0,1,(I 4)),(1,1,I ino),(2,1,I pos),(3,1,I n),(4,1,B keep)]=some (.agg (BD (dO ino pos n keep) Ad)):=rfl;have hb:=gE (c:=(ct.1.1,ct.1.2)) (pos:=pos) (n:=n) (keep:=keep);have hs:=hR2.len;have hs0:=hR.len;rw[ht]at hb hs h3 ff g3;simp only at hb;have e3:Ar .sub (I ((cL (some c2)).length:Int)) (I (ct.1.2.length:Int))=some (I (((cL (some c2)).length:Int) - (ct.1.2.length:Int))):=B2 (by omega) (by omega);have g23:=g3.cells (o:=H1.length) (x:=some (AObj.cells [I ct.1.1,R])) Dk;simp only[Ac6,Ab1,reduceCtorEq,Ab4,Ai Dk,Ai g23,Aa9,hs,hs0,e3];refine bC_of (iW h3 hw (by omega)) ?_;simp only[Du,Ab0,Ai Dk,Ai g23,Ah,true_and]
   by_cases c4:LV s<((cL (some c2)).length:Int) - (ct.1.2.length:Int)
   ·simp only[c4,Aa4,As]
    exact⟨by trivial,p,h3,ff⟩
   ·simp only[c4,Af5,e2,Aa]
    obtain⟨r,H2,⟨rfl,p2,h4,f4⟩,hcall⟩:=aI (bv:=Ad) (o:=dO ino pos n keep) h3 hw (by omega) SV.nil (rS ino pos n keep);exact bC_of hcall ⟨rfl,p2,h4,ff.trans f4⟩
 ·simp only[hc0,Ad4]
  exact⟨by trivial,p,h2,.of_grew (g1.trans g2)⟩)
theorem zdfrZ {N:Nat}{s:StS}{os:Nat}{p:AV}{H:AH}(h:DsAt s os p H)(hw:SW N s)(hN:N≤900000)(ino pos:Int):
  ∃r H',(r=.tup [I (YR s ino pos).1,I (YR s ino pos).2]∧Grew H H')∧BCall prog 79 [.ptr os 0,I ino,I pos] H r H':=OU (by
 unfold Kp;obtain⟨R,hR,r,H1,⟨rfl,g1⟩,hc⟩:=Pd h hw (by omega) ino;have hlen:=CN hw ino;refine bC_of hc ?_;unfold YR;generalize Aq s ino=ct at*;have oR:=SV.oneA hR;have g2:=Grew.app H1 [some (.cells [I ct.1.1,R])];simp only[Af9,HU _ _ oR]
 by_cases hc0:ct.2=0
 ·simp only[hc0,Ag3,Ai Dk,dS,Aa]
  refine Ay (X7 hR (by omega) pos) ?_;cases ht:Qu ct.1.1 ct.1.2 pos with
  | none=>
   simp only[oI,Ab8,Ag9];exact⟨by trivial,g1.trans g2⟩
  | some n=>
   simp only[oI,Ac4,Ag5];exact⟨by trivial,g1.trans g2⟩
 ·simp only[hc0,Ad4]
  exact⟨by trivial,g1.trans g2⟩)
theorem xU {N:Nat}{s:StS}{os:Nat}{p:AV}{H:AH}(h:StAt s os p H)(hw:SW N s)(hN:N≤900000)(ino pos:Int):
  ∃r H',(r=.tup [I (YR s ino pos).1,I (YR s ino pos).2]∧Grew H H')∧BCall prog 78 [.ptr os 0,I ino,I pos] H r H':=Vj (by
 unfold Rj
 have key:∃r H',(r=.tup [I (YR s ino pos).1,I (YR s ino pos).2]∧Grew H H')∧BCall prog 128 [.ptr os 0,I ino,I pos,.fn (.func 129) [] []] H r H':=Lu (by
  unfold Js;obtain⟨R,hR,r,H1,⟨rfl,g1⟩,hc⟩:=Ju h hw (by omega) ino;have hlen:=CN hw ino;refine bC_of hc ?_;unfold YR;generalize Aq s ino=ct at*;have oR:=SV.oneA hR;have g2:=Grew.app H1 [some (.cells [I ct.1.1,R])];simp only[Af9,HU _ _ oR]
  by_cases hc0:ct.2=0
  ·have gf:BW prog 129=true:=by kernel_rfl
   simp only[hc0,Ag3,Ai Dk,dS,Aa2,yY,gf,Au9,jP,Am5,Al4];refine bC_of (eY hR (by omega) pos _) ?_;cases ht:Qu ct.1.1 ct.1.2 pos with
   | none=>
    simp only[oI,Ab8,Ag9];exact⟨by trivial,g1.trans g2⟩
   | some n=>
    simp only[oI,Ac4,Ag5];exact⟨by trivial,g1.trans g2⟩
  ·simp only[hc0,Ad4]
   exact⟨by trivial,g1.trans g2⟩)
 obtain⟨r,H',⟨rfl,g⟩,hc⟩:=key;refine bC_of hc ?_;simp only[Ad5];exact⟨by trivial,g⟩)
theorem zdfsZ {N:Nat}{s:StS}{os:Nat}{p:AV}{H:AH}(h:DsAt s os p H)(hw:SW N s)(hN:N≤900000)(ino pos:Int):
  ∃r H',(r=.tup [I (Zi s ino pos).1,I (Zi s ino pos).2]∧Grew H H')∧BCall prog 81 [.ptr os 0,I ino,I pos] H r H':=OW (by
 unfold Kr;obtain⟨R,hR,r,H1,⟨rfl,g1⟩,hc⟩:=Pd h hw (by omega) ino;have hlen:=CN hw ino;refine bC_of hc ?_;unfold Zi;generalize Aq s ino=ct at*;have oR:=SV.oneA hR;have g2:=Grew.app H1 [some (.cells [I ct.1.1,R])];simp only[Af9,HU _ _ oR]
 by_cases hc0:ct.2=0
 ·simp only[hc0,Ag3,Ai Dk,dS,Aa]
  refine Ay (X8 hR (by omega) pos) ?_;cases ht:WX ct.1.1 ct.1.2 pos with
  | none=>
   simp only[oI,Ab8,Ag9];exact⟨by trivial,g1.trans g2⟩
  | some n=>
   simp only[oI,Ac4,Ag5];exact⟨by trivial,g1.trans g2⟩
 ·simp only[hc0,Ad4]
  exact⟨by trivial,g1.trans g2⟩)
theorem xV {N:Nat}{s:StS}{os:Nat}{p:AV}{H:AH}(h:StAt s os p H)(hw:SW N s)(hN:N≤900000)(ino pos:Int):
  ∃r H',(r=.tup [I (Zi s ino pos).1,I (Zi s ino pos).2]∧Grew H H')∧BCall prog 80 [.ptr os 0,I ino,I pos] H r H':=Vl (by
 unfold Rm
 have key:∃r H',(r=.tup [I (Zi s ino pos).1,I (Zi s ino pos).2]∧Grew H H')∧BCall prog 128 [.ptr os 0,I ino,I pos,.fn (.func 131) [] []] H r H':=Lu (by
  unfold Js;obtain⟨R,hR,r,H1,⟨rfl,g1⟩,hc⟩:=Ju h hw (by omega) ino;have hlen:=CN hw ino;refine bC_of hc ?_;unfold Zi;generalize Aq s ino=ct at*;have oR:=SV.oneA hR;have g2:=Grew.app H1 [some (.cells [I ct.1.1,R])];simp only[Af9,HU _ _ oR]
  by_cases hc0:ct.2=0
  ·have gf:BW prog 131=true:=by kernel_rfl
   simp only[hc0,Ag3,Ai Dk,dS,Aa2,yY,gf,Au9,jP,Am5,Al4];refine bC_of (eZ hR (by omega) pos _) ?_;cases ht:WX ct.1.1 ct.1.2 pos with
   | none=>
    simp only[oI,Ab8,Ag9];exact⟨by trivial,g1.trans g2⟩
   | some n=>
    simp only[oI,Ac4,Ag5];exact⟨by trivial,g1.trans g2⟩
  ·simp only[hc0,Ad4]
   exact⟨by trivial,g1.trans g2⟩)
 obtain⟨r,H',⟨rfl,g⟩,hc⟩:=key;refine bC_of hc ?_;simp only[Ad5];exact⟨by trivial,g⟩)
theorem sO {N:Nat}{s:StS}{os:Nat}{p:AV}{H:AH}(h:DsAt s os p H)(hw:SW N s)(hN:N≤900000)(ino:Int):∃r H',(r=.tup [I (Aq s ino).1.1,I (Aq s ino).2]∧Grew H H')∧BCall prog 77 [.ptr os 0,I ino] H r H':=OY (by
 unfold Ku;obtain⟨R,hR,r,H1,⟨rfl,g1⟩,hc⟩:=Pd h hw hN ino;have oR:=SV.oneA hR;refine bC_of hc ?_;have g2:=Grew.app H1 [some (AObj.cells [I (Aq s ino).1.1,R])];simp only[Ac4,Ab5,Y8,Ae5,HU _ _ oR,Ai Dk];exact⟨by trivial,g1.trans g2⟩)
theorem sN {N:Nat}{s:StS}{os:Nat}{p:AV}{H:AH}(h:DsAt s os p H)(hw:SW N s)(hN:N<900000)(ino pos n:Int):
  ∃R,SV FB 1 (I8 s ino pos n).1 R∧∃r H',(r=.tup [R,I (I8 s ino pos n).2]∧Grew H H')∧BCall prog 25 [.ptr os 0,I ino,I pos,I n] H r H':=by
 obtain⟨R,hR,r,H1,⟨rfl,g1⟩,hc⟩:=Pd h hw (by omega) ino;have hlen:=CN hw ino;have oR:=SV.oneA hR;have g2:=Grew.app H1 [some (.cells [I (Aq s ino).1.1,R])]
 by_cases hc0:(Aq s ino).2=0
 ·obtain⟨d,hd,hdi,hdc,hoff⟩:=FE hw hc0
  by_cases hb:pos<0∨n<0∨4096<n
  ·have e:I8 s ino pos n=([],5):=by unfold I8;rw[if_neg (by rw[hc0];simp),if_pos hb]
   rw[e];refine⟨Ad,SV.nil,EG ?_⟩;unfold Ep;refine bC_of hc ?_;simp only[Af9,HU _ _ oR,hc0,Ag2,Bn,AU];have done:True∧Grew H (H1++[some (AObj.cells [I (Aq s ino).1.1,R])]):=⟨trivial,g1.trans g2⟩
   by_cases c1:pos<0
   ·simp only[c1,Aa4,show((true==false)=false)from rfl,BY,Af8,AU,As]
    exact done
   ·by_cases c2:n<0
    ·simp only[c1,Dd,Ae2,Ac0,c2,An,show((true==false)=false)from rfl,BY,As]
     exact done
    ·have c3:4096<n:=by omega
     simp only[c1,Dd,Ac8,Ac0,c2,An,Du,c3,Ad1];exact done
  ·have e:I8 s ino pos n=(Kh (Aq s ino).1.1 (Aq s ino).1.2 pos n,0):=by unfold I8;rw[if_neg (by rw[hc0];simp),if_neg hb]
   rw[e];have hmc:=hw.now.1.mc d hd;obtain⟨R2,hR2,hp⟩:=X9 hR (by omega) pos n;refine⟨R2,hR2,EG ?_⟩;unfold Ep;refine bC_of hc ?_;have c1:¬pos<0:=by omega
   have c2:¬n<0:=by omega
   have c3:¬4096<n:=by omega
   simp only[Af9,HU _ _ oR,hc0,Ag2,Bn,Ac8,c1,c2,Du,c3,An,Ai Dk,dS];exact Ay hp ⟨rfl,g1.trans g2⟩
 ·have e:I8 s ino pos n=([],(Aq s ino).2):=by unfold I8;rw[if_pos hc0]
  rw[e];refine⟨Ad,SV.nil,EG ?_⟩;unfold Ep;refine bC_of hc ?_;simp only[Af9,HU _ _ oR,hc0,Ab6,CL];exact⟨by trivial,g1.trans g2⟩
abbrev Ah4:=And.intro @Ab7 @not_true_eq_false
theorem vD {N:Nat}{s:StS}{os:Nat}{p:AV}{H:AH}(h:DsAt s os p H)(hw:SW N s)(hN:N<900000){name to:List UInt8}(hn:name.length≤9223372036854775807)(ht:to.length≤9223372036854775807):
  ∃r H',(r=I (NR s name to).1∧∃p',DsAt (NR s name to).2 os p' H'∧StF os p p' H H')∧BCall prog 73 [.ptr os 0,S (B9 name),S (B9 to)] H r H':=Nt (by
 unfold IR;have h':=h;obtain⟨a,b,c,d,pv,hc⟩:=h
 have stop:∀(x:Int),NR s name to=(x,s)→(I x:AV)=I (NR s name to).1∧∃p',DsAt (NR s name to).2 os p' H∧StF os p p' H H:=by
  intro x e;rw[e];exact⟨rfl,p,h',.refl _ _ _⟩
 simp only[Ah1,Ai hc.obj];cases ho:s.off with
 | true=>
  simp only[As]
  exact stop 8 (by
   have e:Ct s name=(0,8):=by unfold Ct;rw[if_pos ho]
   unfold NR;rw[if_neg (by rw[ho];simp),if_pos (.inl (by rw[e];simp)),e])
 | false=>
  simp only[Ak];refine Ay (Fe hn) ?_
  by_cases hm:DE name
  ·simp only[hm,CL,Bj,Aa2,AU,Aa0,ZW]
   refine Ay (Fe ht) ?_
   by_cases hm2:DE to
   ·have hf:=FH hc.now (hw.now.sm (by omega)) name
    simp only[hm2,CL,Ag5,A2,An,(xD _ _ _ _ _ _ _ _ _).1];refine Ay hf ?_;simp only[Ac0,HP]
    by_cases hk:Be Nm.name s.now.1 name
    ·have e:Ct s name=(Db s.now.1 name,0):=by unfold Ct;rw[if_neg (by rw[ho];simp),if_neg (λq=>q hm),if_pos hk]
     have eT:XZ .eql (S (B9 name)) (S (B9 to))=some (B (decide (name=to))):=Nh;simp only[hk,Ah4,eT,Aa6]
     by_cases he:name=to
     ·subst he
      simp only[eq_self,Ad1];exact stop 0 (by unfold NR;rw[if_neg (λq=>q.2 hm2),if_pos (.inr rfl),e])
     ·have hno:¬(s.off=false∧¬DE to):=λq=>q.2 hm2
      have hne:¬((Ct s name).2≠0∨name=to):=by rintro(q | q);exact q (by rw[e]);exact he q
      have er:NR s name to=HX s (Zx name to):=by unfold NR;rw[if_neg hno,if_neg hne]
      have e2:En [(I 0),(I 0),(I 0),(I 0),(B false),(.lit (.string ⟨#[]⟩)),(.lit (.string ⟨#[]⟩)),Ad] [(0,1,(I 6)),(5,1,S (B9 name)),(6,1,S (B9 to))]=some (.agg (BD (Zx name to) Ad)):=rfl;simp only[he,Ab7,e2,Aa];obtain⟨r,H2,⟨rfl,p2,h4,f4⟩,hcall⟩:=aI (bv:=Ad) (o:=Zx name to) h' hw (by omega) SV.nil (lI hno hne);rw[er];exact bC_of hcall ⟨rfl,p2,h4,f4⟩
    ·simp only[hk,Aa1,CL]
     exact stop 3 (by
      have e:Ct s name=(0,3):=by unfold Ct;rw[if_neg (by rw[ho];simp),if_neg (λq=>q hm),if_neg hk]
      unfold NR;rw[if_neg (λq=>q.2 hm2),if_pos (.inl (by rw[e];simp)),e])
   ·simp only[hm2,Dd,Ag9,Af8,An]
    exact stop 5 (by unfold NR;rw[if_pos ⟨ho,hm2⟩])
  ·simp only[hm,Dd,Ag9,Ag7,AU,show((true==false)=false)from rfl,BY,WV]
   exact stop 5 (by
    have e:Ct s name=(0,5):=by unfold Ct;rw[if_neg (by rw[ho];simp),if_pos hm]
    unfold NR
    by_cases hm2:DE to
    ·rw[if_neg (λq=>q.2 hm2),if_pos (.inl (by rw[e];simp)),e]
    ·rw[if_pos ⟨ho,hm2⟩]))
theorem vC {N:Nat}{s:StS}{os:Nat}{p:AV}{H:AH}(h:DsAt s os p H)(hw:SW N s)(hN:N<900000){name:List UInt8}(hn:name.length≤9223372036854775807):
  ∃r H',(r=I (XB s name).1∧∃p',DsAt (XB s name).2 os p' H'∧StF os p p' H H')∧BCall prog 74 [.ptr os 0,S (B9 name)] H r H':=Ns (by
 unfold IQ;have h':=h;obtain⟨a,b,c,d,pv,hc⟩:=h
 have stop:∀(x y:Int),Ct s name=(x,y)→y≠0→(I y:AV)=I (XB s name).1∧∃p',DsAt (XB s name).2 os p' H∧StF os p p' H H:=by
  intro x y e hy;have:XB s name=(y,s):=by unfold XB;rw[if_pos (by rw[e];exact hy),e]
  rw[this];exact⟨rfl,p,h',.refl _ _ _⟩
 simp only[Ah1,Ai hc.obj];cases ho:s.off with
 | true=>
  simp only[As];exact stop 0 8 (by unfold Ct;rw[if_pos ho]) (by omega)
 | false=>
  simp only[Ak];refine Ay (Fe hn) ?_
  by_cases hm:DE name
  ·have hf:=FH hc.now (hw.now.sm (by omega)) name
   simp only[hm,CL,Ag5,(xD _ _ _ _ _ _ _ _ _).1];refine Ay hf ?_;simp only[Ac0,HP]
   by_cases hk:Be Nm.name s.now.1 name
   ·have e:Ct s name=(Db s.now.1 name,0):=by unfold Ct;rw[if_neg (by rw[ho];simp),if_neg (λq=>q hm),if_pos hk]
    have er:XB s name=HX s (Xz name):=by unfold XB;rw[if_neg (by rw[e];simp)]
    have e2:En [(I 0),(I 0),(I 0),(I 0),(B false),(.lit (.string ⟨#[]⟩)),(.lit (.string ⟨#[]⟩)),Ad] [(0,1,(I 7)),(5,1,S (B9 name))]=some (.agg (BD (Xz name) Ad)):=rfl;simp only[hk,Ah4,e2,Aa];obtain⟨r,H2,⟨rfl,p2,h4,f4⟩,hcall⟩:=aI (bv:=Ad) (o:=Xz name) h' hw (by omega) SV.nil (kZ hm);rw[er];exact bC_of hcall ⟨rfl,p2,h4,f4⟩
   ·simp only[hk,Aa1,CL]
    exact stop 0 3 (by unfold Ct;rw[if_neg (by rw[ho];simp),if_neg (λq=>q hm),if_neg hk]) (by omega)
  ·simp only[hm,Dd,Ag9,Aa6]
   exact stop 0 5 (by unfold Ct;rw[if_neg (by rw[ho];simp),if_pos hm]) (by omega))
theorem lZ {N:Nat}{s:StS}{os:Nat}{p v:AV}{H:AH}(h:DsAt s os p H)(hw:SW N s)(hN:N≤900000){l:List Int}(hlen:AL v=some (I l.length))(hidx:∀Hx:AH,(∀i∈AM v,Hx[i]?=H[i]?)→∀(j:Nat) (z:Int),l[j]?=some z→∃q,Bo 1 v (I j)=some q∧Ap false 1 Hx q=some (I z))(hvi:∀i∈AM v,i<H.length∧i≠os∧i∉AM p)(hl:l.length≤1000000):
  ∃r H',(r=I (JH s l).1∧∃p',DsAt (JH s l).2 os p' H'∧StF os p p' H H')∧BCall prog 75 [.ptr os 0,v] H r H':=OZ (by
 unfold Kv;obtain⟨a0,b0,c0,d0,pv0,hc0⟩:=id h;simp only[Ah5,Ai hc0.obj,AU];cases ho:s.off with
 | true=>
  have e:JH s l=(8,s):=by
   have:A9 s=(false,s):=by
    unfold A9;rw[if_pos (.inl ho)]
    congr 1
    cases s;simp only at ho;subst ho;rfl
   unfold JH;rw[this];rfl
  rw[e];simp only[show((true==false)=false)from rfl,BY,cN,Ag7,As];exact⟨by trivial,p,h,.refl _ _ _⟩
 | false=>
 obtain⟨r,H1,⟨rfl,h1,f1⟩,hc⟩:=sP h hw.armed;simp only[Aa0,Ps,Aa];refine bC_of hc ?_;obtain⟨e1,e2,e3,e4,e5⟩:=Fa s;have hwd:=ZV hw;have hpl:(A9 s).2.pend.length≤N:=by rw[e3];exact hw.plen
 have hob:∀o∈(A9 s).2.pend,lV o:=by rw[e3];exact hw.ob
 have hkw:∃a,Few1 a (A9 s).2.kept∧a+LL (A9 s).2.pend≤N:=by rw[e2,e3];exact hw.kept
 unfold JH;rw[← e2,← e3];simp only[Bj,Af8,An];cases hd:(A9 s).1 with
 | false=>
  simp only[Aa5,An];exact⟨by trivial,p,h1,f1⟩
 | true=>
  clear e1 e2 e3 e4 e5 hc hc0 ho;generalize (A9 s).2=s1 at*;simp only[if_true];obtain⟨a,b,c,d,pv,h1⟩:=h1;have hpn:pv.length=s1.pend.length:=by rw[← h1.pm,Aj1]
  have hidp:∀j∈AM p,j<H1.length:=λj q=>Az h1.ps j q
  have hos:os<H1.length:=h1.lt;have hH:H.length≤H1.length:=f1.len;simp only[At3,Ak];generalize hres:Iu l s1.pend (s1.kept,[])=res;refine L9 (λm x0 x1 x5 x6 H'=>∃(k:Nat) (ki:eK) (c' d':AV) (lv:List OpV),k+m=s1.pend.length∧x0=.ptr os 0∧v=x1∧x6=I k∧DsC {s1 with kept:=ki} os a b c' d' p pv H'∧StF os p p H1 H'∧Iu l (s1.pend.drop k) (ki,lv.map OpV.o)=res∧(∃a,Few1 a ki∧a+LL (lv.map OpV.o)+LL (s1.pend.drop k)≤N)∧Ac H' 8 x5=some (lv.flatMap I3,lv.length)∧AZ x5=true∧(∀j∈AM x5,H1.length≤j)) ?_ s1.pend.length ⟨0,s1.kept,c,d,[],by omega,rfl,rfl,rfl,h1,.refl _ _ _,hres,by obtain⟨x,y,z⟩:=hkw;exact⟨x,y,by simp only[Ad2];simp only[LL,Ag4]at*;omega⟩,rfl,rfl,by simp[AM]⟩;rintro m x0 x1 x5 x6 H2 R hR ⟨k,ki,c',d',lv,hk,rfl,rfl,rfl,h2,f2,hsy,hfew,ls,lo,li⟩
  have lvN:lv.length≤N:=by
   obtain⟨x,-,y⟩:=hfew
   have:=lU (l:=lv.map OpV.o)
   rw[Aj1]at this;omega
  have alv:AL p=some (I (s1.pend.length:Nat)):=by rw[← hpn];exact By h2.ps
  have hl2:=f2.len;unfold GN;simp only[Ah1,Ai h2.obj,alv,Bn];rcases Ai0 k s1.pend.length with hlt | hge
  ·have hx:=DD (show k<pv.length by omega)
   generalize pv[k]'(by omega)=x at hx;have hxo : s1.pend[k]? = some x.o:=by rw [← h1.pm,Aj3,hx]; rfl
   have hdrop:s1.pend.drop k=x.o::s1.pend.drop (k+1):=Dy hxo;have hxb:=hob x.o (Ah7 hxo);rw[hdrop]at hsy hfew;have ox:=SV.oneA x.h;have kI:(k:Int)<(s1.pend.length:Int):=by omega
   obtain⟨pp,q1,q2⟩:=uD h2.ps hx;have n8:AC H2 (.agg [(I 0),(I 0),(I 0),(I 0),(B false),(.lit (.string ⟨#[]⟩)),(.lit (.string ⟨#[]⟩)),Ad])=some (.ptr H2.length 0,H2++[some (.cells [I 0,I 0,I 0,I 0,B false,S ⟨#[]⟩,S ⟨#[]⟩,Ad])]):=by simp
   have t8:AP 8 (H2++[some (.cells [I 0,I 0,I 0,I 0,B false,S ⟨#[]⟩,S ⟨#[]⟩,Ad])]) (.ptr H2.length 0) (.agg (BD x.o x.bv))=some (H2++[some (.cells (BD x.o x.bv))]):=by
    rw[AK (n:=8) (xs:=BD x.o x.bv) (cs:=[I 0,I 0,I 0,I 0,B false,S ⟨#[]⟩,S ⟨#[]⟩,Ad]) (by simp[BD,ox]) (by simp) rfl (by simp)];simp[Bm,BD]
   have g3:=Grew.app H2 [some (.cells (BD x.o x.bv))];have rd8:Ax true 8 (BD x.o x.bv) 0=some (.agg (BD x.o x.bv)):=rfl;have i0:(BD x.o x.bv)[0]?=some (I x.o.kind):=rfl;have i1:(BD x.o x.bv)[1]?=some (I x.o.ino):=rfl;have h3:=h2.grew g3;have f3:StF os p p H1 (H2++[some (AObj.cells (BD x.o x.bv))]):=f2.grew g3;have ls3:=g3.slice ls;have sm:Sm ki.1 ki.2:=by obtain⟨x,y,z⟩:=hfew;exact y.sm (by omega)
   have topx:(H2++[some (AObj.cells (BD x.o x.bv))])[H2.length]?=some (some (.cells (BD x.o x.bv))):=Dk;have hl3:(H2++[some (AObj.cells (BD x.o x.bv))]).length=H2.length+1:=by simp
   simp only[kI,Ad1,q1,q2,Aa,n8,Ae5,t8];generalize (H2++[some (AObj.cells (BD x.o x.bv))])=H3 at*;simp only[Ab5,Ai topx,i0,BJ,AU]
   have inner:E4 R (.ptr os 0) v x5 (I k) (.ptr H2.length 0) (B (decide (x.o.kind=1∨x.o.kind=6∨x.o.kind=7))) (I 0) H3 (λr H'=>r=I 0∧∃p',DsAt {s1 with kept:=res.1,pend:=res.2} os p' H'∧StF os p p' H H'):=by
    refine KR R (λn y0 y1 y5 y6 y7 y8 y9 H'=>∃j:Nat,j+n=l.length∧y0=.ptr os 0∧v=y1∧x5=y5∧y6=I k∧y7=.ptr H2.length 0∧y8=B (decide (x.o.kind=1∨x.o.kind=6∨x.o.kind=7∨x.o.ino∈l.take j))∧y9=I j∧H3=H') ?_ l.length ⟨0,by omega,rfl,rfl,rfl,rfl,rfl,by simp,rfl,rfl⟩;rintro n y0 y1 y5 y6 y7 y8 y9 H' T hT ⟨j,hj,rfl,rfl,rfl,rfl,rfl,rfl,rfl,rfl⟩;unfold Gt;simp only[hlen,Ac0];rcases Ai0 j l.length with hjl | hjl
    ·have hz:=DD hjl
     generalize l[j]=z at hz;have jI:(j:Int)<(l.length:Int):=by omega
     obtain⟨qq,qa,qb⟩:=hidx H3 (λi hi=>by
      obtain⟨k1,k2,k3⟩:=hvi i hi;rw[f3.same i (by omega) k2 k3,f1.same i k1 k2 k3]) j z hz
     have q2:Ar .add (I (j:Int)) (I 1)=some (I ((j+1:Nat):Int)):=by rw[Au (by omega) (by omega)];congr 3
     have htk:l.take (j+1)=l.take j++[z]:=by rw[Al0,hz];rfl
     by_cases hs:x.o.kind=1∨x.o.kind=6∨x.o.kind=7∨x.o.ino∈l.take j
     ·simp only[jI,hs,Aa4,As,AU,show((true==false)=false)from rfl,BY,Aa,A2,q2]
      refine hT (n - 1) _ _ _ _ _ _ _ _ (by omega) ⟨j+1,by omega,rfl,rfl,rfl,rfl,rfl,?_,rfl,rfl⟩;rw[decide_eq_true];rw[htk];rcases hs with q | q | q | q
      ·exact .inl q
      ·exact .inr (.inl q)
      ·exact .inr (.inr (.inl q))
      ·exact .inr (.inr (.inr (List.mem_append_left _ q)))
     ·simp only[jI,hs,Ad1,Dd,Ac8,Ab5,Ai topx,i1,qa,qb,BJ,An,q2]
      refine hT (n - 1) _ _ _ _ _ _ _ _ (by omega) ⟨j+1,by omega,rfl,rfl,rfl,rfl,rfl,?_,rfl,rfl⟩;rw[htk];refine congrArg (fun t:Bool=>(B t:AV)) (decide_eq_decide.2 ?_);simp only[Ab3]
      constructor
      ·intro q;exact .inr (.inr (.inr (.inr q)))
      ·rintro(q | q | q | q | q)
       ·exact absurd (.inl q) hs
       ·exact absurd (.inr (.inl q)) hs
       ·exact absurd (.inr (.inr (.inl q))) hs
       ·exact absurd (.inr (.inr (.inr q))) hs
       ·exact q
    ·have jI:¬(j:Int)<(l.length:Int):=by omega
     rw[Ai2 hjl];simp only[jI,Ab7]
     by_cases hst:OH l x.o
     ·have hst':x.o.kind=1∨x.o.kind=6∨x.o.kind=7∨x.o.ino∈l:=hst
      obtain⟨RA,hRA,hpA⟩:=Un (o:=x.o) (bv:=x.bv) h3.kept sm x.h (by have:=hxb.1;omega) (by have:=hxb.2.1;omega) (by have:=hxb.2.2;omega);obtain⟨a',b',rfl,oa,ob⟩:=hRA.agg2;simp only[hst',Ad1,A4,Aa,At,Ai h3.obj,(xD _ _ _ _ _ _ _ _ _).2,Ai topx,rd8];refine bP_of hpA ?_;obtain⟨h4,f4⟩:=h3.set (s':={s1 with kept:=Bi ki.1 ki.2 x.o}) h3.now hRA rfl;simp only[(zdoxZ h3.obj oa ob).2,AF];rw[FM];unfold Ef;simp only[Au (a:=k) (b:=1) (by omega) (by omega),Aa];refine hR (m - 1) _ _ _ _ _ (by omega) ⟨k+1,_,a',b',lv,by omega,rfl,rfl,by simp,h4,f3.trans f4,?_,?_,?_,lo,li⟩
      ·rw[← hsy];conv=>rhs;unfold Iu
       rw[if_pos hst]
      ·obtain⟨y,z,w⟩:=hfew
       have e:LL (x.o::s1.pend.drop (k+1))=wt x.o+LL (s1.pend.drop (k+1)):=by simp[LL]
       exact⟨y+wt x.o,z.step x.o,by omega⟩
      ·exact Ae ls3 λj hj=>by
        have:=li j hj
        exact f4.same j (by have:=Az ls3 j hj;omega) (by omega) (λq=>by have:=hidp j q;omega)
     ·have hst':¬(x.o.kind=1∨x.o.kind=6∨x.o.kind=7∨x.o.ino∈l):=hst
      have eA:D9 H3 8 1 (B4 [(I 0),(I 0),(I 0),(I 0),(B false),(.lit (.string ⟨#[]⟩)),(.lit (.string ⟨#[]⟩)),Ad] 1) [(0,8,.agg (BD x.o x.bv))]=some (.sl H3.length 0 1 8 (.ex 1),H3++[some (.cells (I3 x))]):=by
       simp[D9,B4,I3,BD,N6,ox,Bm]
      have g4:=Grew.app H3 [some (.cells (I3 x))];have x1':Bu (H3++[some (AObj.cells (I3 x))]) 8 (.sl H3.length 0 1 8 (.ex 1))=some (I3 x,1):=A1 (by simp[Ac,I3,BD]);obtain⟨r,H5,a1,a2,a3,a4,a5,a6⟩:=BX (bytes:=96) (g4.slice ls3) lo x1' (by omega);simp only[hst',Ab7,Ai topx,rd8,Aa,eA,A6,a1];rw[FM];unfold Ef;simp only[Au (a:=k) (b:=1) (by omega) (by omega),Aa];have h4:=h3.grew g4;have f4:=f3.grew g4;have lt4:∀j,j<H1.length→j∉AM x5:=λj hj q=>by have:=li j q;omega
      have len4:(H3++[some (AObj.cells (I3 x))]).length=H3.length+1:=by simp
      have k5:∀j,j<H1.length→H5[j]?=(H3++[some (AObj.cells (I3 x))])[j]?:=λj hj=>a5 j (by omega) (lt4 j hj)
      refine hR (m - 1) _ _ _ _ _ (by omega) ⟨k+1,ki,c',d',lv++[x],by omega,rfl,rfl,by simp,?_,?_,?_,?_,?_,a2,?_⟩
      ·exact⟨by rw[k5 os hos];exact h4.obj,h4.now,h4.kept,h4.pm,Ae h4.ps λj hj=>k5 j (hidp j hj),h4.po,h4.pi⟩
      ·exact⟨by omega,λj hj hne hjp=>by rw[k5 j hj];exact f4.same j hj hne hjp,λ_ q=>.inl q⟩
      ·rw[← hsy];conv=>rhs;unfold Iu
       rw[if_neg hst];simp
      ·obtain⟨y,z,w⟩:=hfew
       have e:LL (x.o::s1.pend.drop (k+1))=wt x.o+LL (s1.pend.drop (k+1)):=by simp[LL]
       exact⟨y,z,by rw[Ak2];simp only[Ae0,XW];omega⟩
      ·simpa using a3
      ·intro j hj
       rcases a6 j hj with q | q
       ·exact li j q
       ·omega
   by_cases c1:x.o.kind=1
   ·simp only[c1,Aa4,show((true==false)=false)from rfl,BY,Aa,A2,AU]
    simp only[c1,true_or,CL]at inner;exact inner
   ·by_cases c6:x.o.kind=6
    ·have n1:¬(6:Int)=1:=by omega
     simp only[c6,n1,Ae2,Dd,show((true==false)=false)from rfl,BY,Ah2,Ai topx,i0,BJ,An];simp only[c6,true_or,or_true,CL]at inner;exact inner
    ·simp only[c1,c6,Dd,Ac8,Ah2,Ai topx,i0,BJ,An]
     simp only[c1,c6,false_or]at inner;exact inner
  ·have kI:¬(k:Int)<(s1.pend.length:Int):=by omega
   have hdrop:s1.pend.drop k=[]:=Aj5 hge;rw[hdrop]at hsy hfew;unfold Iu at hsy;rw[← hsy];have e7:AP 1 H2 (.ptr os 4) x5=some (H2.set os (some (.cells [a,b,c',d',x5,I s1.cap,I s1.made,I s1.armed,B s1.off]))):=eJ h2.obj (by simp) (AD lo);have hnx:os∉AM x5:=λq=>by have:=li os q;omega
   simp only[kI,Ab7,e7,AF];refine⟨by trivial,x5,⟨a,b,c',d',lv,JY h2.lt,h2.now,h2.kept,rfl,Ae ls λj hj=>Cc (λe=>hnx (by rw[e];exact hj)),lo,hnx⟩,?_⟩;refine⟨by rw[Aj6];omega,λj hj hne hjp=>?_,λj hj=>.inr (by have:=li j hj;omega)⟩;rw[Cc (Aj4 hne),f2.same j (by omega) hne hjp,f1.same j hj hne hjp])
theorem iY {N:Nat}{s:StS}{os:Nat}{p v:AV}{H:AH}(h:DsAt s os p H)(hw:SW N s)(hN:N≤900000){l:List Int}(hv:SV UR 1 l v)(hl:l.length≤1000000):
  ∃r H',(r=I (JH s l).1∧∃p',DsAt (JH s l).2 os p' H'∧StF os p p' H H')∧BCall prog 75 [.ptr os 0,v] H r H':=
 lZ h hw hN hv.len (λ_ _ j z hz=>⟨_,hv.idx (λ_=>rfl) hz rfl,rfl⟩) (by rw[hv.noId];simp) hl
theorem zdfqZ {ns:List Nm}{ds:List Nd}{v:AV}(hv:ImV ns ds v)(hb:Sm ns ds):∃R,ImV ns ds R∧BPure prog 127 [v] R:=by
 have hids:=hv.noIds;obtain⟨a,b,dv,rfl,sa,sb,rfl⟩:=hv;have b1:=hb.1;have b2:=hb.2.1;rw[Aj1]at b2;obtain⟨r,X,⟨a',b',ew,rfl,hew,-,ow⟩,hc⟩:=YJ (H:=[]) sa sb (by omega) b2 (λd hd=>hb.2.2.2 d.nd (Ak1 hd));obtain⟨R,hR,fR⟩:=ow.lend;rw[hew]at hR;exact BPure.FZ hids ⟨_,X,⟨R,fR,hR⟩,hc⟩
theorem dC {bits:List Bool}:∀{r:List OpM} {i:Nat} {x:eK},bits.length≤i→LW bits i r x=x
 | [],i,x,h=>rfl
 | o::r,i,x,h=>by
  unfold LW;have:Tx bits i=false:=by unfold Tx;rw[An1 h];rfl
  rw[if_neg (by rw[this];simp)];exact dC (by omega)
theorem pW {N:Nat}{s:StS}{os:Nat}{p v:AV}{H:AH}(h:DsAt s os p H)(hw:SW N s)(hN:N≤900000){l:List Bool}(hv:SV eX 1 l v)(hl:l.length≤1000000):
  ∃r H',(r=.tup []∧DsAt (XD s l) os Ad H'∧StF os p Ad H H')∧BCall prog 76 [.ptr os 0,v] H r H':=ME (by
 unfold Im;obtain⟨a,b,c,d,pv,h1⟩:=h;have hpl:=hw.plen;have hob:=hw.ob;have hpn:pv.length=s.pend.length:=by rw[← h1.pm,Aj1]
 have alv:AL p=some (I (s.pend.length:Nat)):=by rw[← hpn];exact By h1.ps
 unfold XD;generalize hres:LW l 0 s.pend s.kept=res;have hos:os<H.length:=h1.lt;refine JO (λm x0 x1 x4 H'=>∃(k:Nat) (ki:eK) (c' d':AV),k+m=s.pend.length∧x0=.ptr os 0∧v=x1∧x4=I k∧DsC {s with kept:=ki} os a b c' d' p pv H'∧StF os p p H H'∧LW l k (s.pend.drop k) ki=res∧(∃a,Few1 a ki∧a+LL (s.pend.drop k)≤N)) ?_ s.pend.length ⟨0,s.kept,c,d,by omega,rfl,rfl,rfl,h1,.refl _ _ _,hres,by simp only[Ak9];exact hw.kept⟩;rintro m x0 x1 x4 H2 R hR ⟨k,ki,c',d',hk,rfl,rfl,rfl,h2,f2,hsy,hfew⟩;unfold F5;have sm:Sm ki.1 ki.2:=by obtain⟨x,y,z⟩:=hfew;exact y.sm (by omega)
 -- the end
 have fin:res=ki→bO (Af (.ptr os 0)) (λv30=>bO (Ab 2 v30) λv31=>bO (Ap true 2 H2 v31) λv32=>bC (BCall prog 127 [v32] H2) λv33 H34=>bO (Af (.ptr os 0)) λv35=>bO (Ab 0 v35) λv36=>bS (AP 2 H34 v36 v33) λH37=>
   bO (Af (.ptr os 0)) λv38=>bO (Ab 4 v38) λv39=>bS (AP 1 H37 v39 Ad) λH40=>bO (Af (.ptr os 0)) λv41=>bO (Ab 7 v41) λv42=>bS (AP 1 H40 v42 (I (-1))) λH43=>bO (Af (.ptr os 0)) λv44=>bO (Ab 8 v44) λv45=>bS (AP 1 H43 v45 (B false)) λH46=>
   AV.tup []=.tup []∧DsAt {s with kept:=res,now:=res,pend:=[],off:=false,armed:=-1} os Ad H46∧StF os p Ad H H46):=by
  rintro rfl;obtain⟨RC,hRC,hpC⟩:=zdfqZ h2.kept sm;obtain⟨a',b',rfl,oa,ob⟩:=hRC.agg2;have l2:=h2.lt;simp only[A4,Aa,At,Ai h2.obj,(xD _ _ _ _ _ _ _ _ _).2];refine bC_of (hpC H2) ?_;have s1:=(zdoxZ h2.obj oa ob).1;have c1:(H2.set os (some (AObj.cells [a',b',c',d',p,I s.cap,I s.made,I s.armed,B s.off])))[os]?=some (some (.cells [a',b',c',d',p,I s.cap,I s.made,I s.armed,B s.off])):=JY l2;have s2:=eJ c1 (k:=4) (x:=Ad) (by simp) rfl;have c2:(H2.set os (some (AObj.cells [a',b',c',d',Ad,I s.cap,I s.made,I s.armed,B s.off])))[os]?=some (some (.cells [a',b',c',d',Ad,I s.cap,I s.made,I s.armed,B s.off])):=JY l2;have s3:=eJ c2 (k:=7) (x:=I (-1)) (by simp) rfl;have c3:(H2.set os (some (AObj.cells [a',b',c',d',Ad,I s.cap,I s.made,I (-1),B s.off])))[os]?=some (some (.cells [a',b',c',d',Ad,I s.cap,I s.made,I (-1),B s.off])):=JY l2;have s4:=eJ c3 (k:=8) (x:=B false) (by simp) rfl;simp only[List.set_set,Aq9,Aq8]at s2 s3 s4;simp only[s1,AF,s2,s3,s4];refine⟨by trivial,⟨a',b',c',d',[],JY l2,hRC,h2.kept,rfl,rfl,rfl,by simp[AM]⟩,?_⟩;refine⟨by rw[Aj6];exact f2.len,λj hj hne hjp=>?_,λj hj=>by simp[AM]at hj⟩;rw[Cc (Aj4 hne),f2.same j hj hne hjp]
 simp only[Ah5,Ai h2.obj,alv,Bn,AU];simp only[A4,Aa,At]at fin;rcases Ai0 k s.pend.length with hlt | hge
 ·have hx:=DD (show k<pv.length by omega)
  generalize pv[k]'(by omega)=x at hx;have hxo : s.pend[k]? = some x.o:=by rw [← h1.pm,Aj3,hx]; rfl
  have hdrop:s.pend.drop k=x.o::s.pend.drop (k+1):=Dy hxo;have hxb:=hob x.o (Ah7 hxo);have kI:(k:Int)<(s.pend.length:Int):=by omega
  obtain⟨pp,q1,q2⟩:=uD h2.ps hx;rcases Ai0 k l.length with hkl | hkl
  ·rw[hdrop]at hsy hfew
   have hb:=DD hkl;generalize l[k]=bt at hb;have hbt:Tx l k=bt:=by unfold Tx;rw[hb];rfl
   have kl:(k:Int)<(l.length:Int):=by omega
   have q0:∀HH:AH,Ap false 1 HH (.ip (eX bt++(l.drop (k+1)).flatMap eX))=some (B bt):=λ_=>rfl
   simp only[kI,Aa4,Ac2,Ac0,hv.len,kl,As,hv.idx zV hb rfl,q0];cases bt with
   | true=>
    obtain⟨RA,hRA,hpA⟩:=Un (o:=x.o) (bv:=x.bv) h2.kept sm x.h (by have:=hxb.1;omega) (by have:=hxb.2.1;omega) (by have:=hxb.2.2;omega);obtain⟨a',b',rfl,oa,ob⟩:=hRA.agg2;have q2':Ap true 8 H2 pp=some (.agg (BD x.o x.bv)):=q2;simp only[As,Aa,(xD _ _ _ _ _ _ _ _ _).2,q1,q2'];refine bP_of hpA ?_;obtain⟨h4,f4⟩:=h2.set (s':={s with kept:=Bi ki.1 ki.2 x.o}) h2.now hRA rfl;simp only[(zdoxZ h2.obj oa ob).2,AF];rw[Fi];unfold DG;simp only[Au (a:=k) (b:=1) (by omega) (by omega),Aa];refine hR (m - 1) _ _ _ _ (by omega) ⟨k+1,_,a',b',by omega,rfl,rfl,by simp,h4,f2.trans f4,?_,?_⟩
    ·rw[← hsy];conv=>rhs;unfold LW
     rw[if_pos hbt]
    ·obtain⟨y,z,w⟩:=hfew
     have e:LL (x.o::s.pend.drop (k+1))=wt x.o+LL (s.pend.drop (k+1)):=by simp[LL]
     exact⟨y+wt x.o,z.step x.o,by omega⟩
   | false=>
    simp only[Ak];rw[Fi];unfold DG;simp only[Au (a:=k) (b:=1) (by omega) (by omega),Aa];refine hR (m - 1) _ _ _ _ (by omega) ⟨k+1,ki,c',d',by omega,rfl,rfl,by simp,h2,f2,?_,?_⟩
    ·rw[← hsy];conv=>rhs;unfold LW
     rw[if_neg (by rw[hbt];simp)]
    ·obtain⟨y,z,w⟩:=hfew
     have e:LL (x.o::s.pend.drop (k+1))=wt x.o+LL (s.pend.drop (k+1)):=by simp[LL]
     exact⟨y,z,by omega⟩
  ·have kl:¬(k:Int)<(l.length:Int):=by omega
   rw[dC hkl]at hsy;simp only[kI,Aa4,Ac2,Ae8,hv.len,kl]
   have:=fin hsy.symm
   simp only[Ai h2.obj]at this⊢;exact this
 ·have kI:¬(k:Int)<(s.pend.length:Int):=by omega
  have hdrop:s.pend.drop k=[]:=Aj5 hge;rw[hdrop]at hsy;unfold LW at hsy;simp only[kI,Ab7,show((false==true)=false)from rfl,BY,Af8,An]
  have:=fin hsy.symm
  simp only[Ai h2.obj]at this⊢;exact this)
theorem SV.cutG {b:List UInt8}{v:AV}(hv:SV FB 1 b v){l k:Nat}{lo hi:Option AV}(e1:Ci lo 0=some l)(e2:Ci hi b.length=some k)(h1:l≤k)(h2:k≤b.length):∃r,Bf 1 v lo hi none=some r∧SV FB 1 ((b.drop l).take (k - l)) r:=by
 have key:∀H:AH,∃r,Bf 1 v lo hi none=some r∧Ac H 1 r=some (((b.drop l).take (k - l)).flatMap FB,((b.drop l).take (k - l)).length)∧(noIds v=true→noIds r=true):=by
  intro H;obtain⟨r,s1,s2,-,-,s5⟩:=EI (hv.bytes H) (lo:=lo) (hi:=hi) (l:=l) (k:=k) e1 e2 h1 h2;refine⟨r,s1,?_,s5⟩;have hl:((b.drop l).take (k - l)).length=k - l:=by rw[Ah8,Ai5];omega
  rw[s2,Jv,hl];simp only[Qx,N0,An6]
 obtain⟨r,s1,s2,s5⟩:=key [];refine⟨r,s1,s5 hv.1,λH=>?_⟩;obtain⟨r2,t1,t2,-⟩:=key H;rw[s1]at t1;injection t1 with t1;rw[t1];exact t2
theorem SV.cutB {b:List UInt8}{v:AV}(hv:SV FB 1 b v){l k:Nat}{li ki:Int}(e1:li=l)(e2:ki=k)(h1:l≤k)(h2:k≤b.length):∃r,Bf 1 v (some (I li)) (some (I ki)) none=some r∧SV FB 1 ((b.drop l).take (k - l)) r:=
 hv.cutG (by subst e1;simp[Ci]) (by subst e2;simp[Ci]) h1 h2
theorem sJ {N:Nat}{s:StS}(hw:SW N s){ino p:Int}{bs:List UInt8}(h0:(Aq s ino).2=0)(hd:(HX s (EP ino p bs)).1=0):
  (Aq (HX s (EP ino p bs)).2 ino).2=0∧∀a,(∀x,p≤x→x<p+bs.length→a≠x/8)→(BG (Aq (HX s (EP ino p bs)).2 ino).1.2 a↔BG (Aq s ino).1.2 a):=by
 obtain⟨d,hmem,hino,hcont,hoff⟩:=FE hw h0
 have hdd:(A9 s).1=true:=by
  unfold HX at hd;split at hd
  ·assumption
  ·simp at hd
 have hoff2:(A9 s).2.off=false:=by
  unfold A9 at hdd⊢;split at hdd
  ·cases hdd
  ·rename_i hn
   rw[if_neg hn]
   split<;>exact hoff
 have e:HX s (EP ino p bs)=(0,{(A9 s).2 with now:=Bi s.now.1 s.now.2 (EP ino p bs),pend:=s.pend++[EP ino p bs]}):=by unfold HX;rw[if_pos hdd]
 have hmay:=hw.now.1
 have ea:Bi s.now.1 s.now.2 (EP ino p bs)=(s.now.1,PN s.now.2 (EP ino p bs)):=by
  unfold Bi;rw[if_pos (PS.2 hmay),if_neg (by simp[EP]),if_pos (.inl rfl)]
 have hM:=hmay.chg (o:=EP ino p bs) (.inl rfl)
 have hin:ino∈(PN s.now.2 (EP ino p bs)).map Nd.ino:=by
  rw[gK hmay.sd];exact Ak7.2 ⟨d,hmem,hino⟩
 obtain⟨d',hm',hi'⟩:=Ak7.1 hin;obtain⟨g1,g2⟩:=We hM hm';obtain⟨k1,k2⟩:=We hmay hmem;rw[hi']at g1 g2;rw[hino]at k1 k2
 have ec:Aq (HX s (EP ino p bs)).2 ino=((d'.size,d'.l),0):=by
  rw[e];unfold Aq;simp only[ea,hoff2];rw[if_neg (by simp),if_pos g2,g1]
 rw[ec,hcont];refine⟨rfl,λa ha=>?_⟩;rcases dI hmay.sd hm' with q | ⟨-,f,hf,hfi,hc⟩
 ·have:d'=d:=by
   obtain⟨z1,-⟩:=We hmay q;rw[hi',k1]at z1;exact z1.symm
  rw[this]
 ·have:f=d:=by
   obtain⟨z1,-⟩:=We hmay hf;rw[hfi]at z1;have z2:Fc s.now.1 s.now.2 ino=f:=z1;rw[k1]at z2;exact z2.symm
  subst this;unfold GZ at hc;rw[if_pos (show(EP ino p bs).kind=2 from rfl)]at hc;unfold Dx at hc;split at hc
  ·injection hc with hc
   by_cases hb:(EP ino p bs).b=[]
   ·rw[if_pos hb]at hc
    have:d'.l=f.l:=(congrArg Prod.snd hc).symm;rw[show((d'.size,d'.l):Lv).2=d'.l from rfl,this]
   ·rw[if_neg hb]at hc
    have:d'.l=BH f.l p bs:=(congrArg Prod.snd hc).symm;rw[show(((d'.size,d'.l),(0:Int)).1).2=d'.l from rfl,this,W3]
    constructor
    ·rintro(q | ⟨x,x1,x2,x3⟩)
     ·exact q
     ·exact absurd x3 (ha x x1 x2)
    ·exact .inl
  ·cases hc
theorem pN {N:Nat}{s:StS}(hw:SW N s){ino pos:Int}{b:List UInt8}(h0:(Aq s ino).2=0):(Dx ((Aq s ino).1.1,(Aq s ino).1.2) pos b).isSome=decide (V8 pos b.length):=by
 obtain⟨d,hmem,hino,hcont,hoff⟩:=FE hw h0;have hmc:=hw.now.1.mc d hmem;rw[hcont];unfold Dx V8
 by_cases h:0≤pos∧b.length≤4096∧pos≤1099511627776 - b.length
 ·rw[if_pos ⟨hmc,h⟩,decide_eq_true h];rfl
 ·rw[if_neg (λq=>h q.2),decide_eq_false h];rfl
theorem zO {f:Nat}{p n:Int}(h:Df f p n 8=[])(hf:n.toNat≤f):n≤0:=by
 cases f with
 | zero=>omega
 | succ f=>
  unfold Df at h;split at h
  ·simp at h
  ·omega
theorem wE {f:Nat}{p n:Int}{q:Sp}{r:List Sp}(h:Df f p n 8=q::r)(hp:0≤p):0<n∧q=⟨p,min n (8 - p % 8)⟩∧∃g,f=g+1∧r=Df g (p+min n (8 - p % 8)) (n - min n (8 - p % 8)) 8:=by
 cases f with
 | zero=>simp[Df]at h
 | succ f=>
  unfold Df at h;split at h
  ·rename_i hn
   injection h with h1 h2;exact⟨hn,h1.symm,f,rfl,h2.symm⟩
  ·simp at h
theorem aH {N:Nat}{s:StS}{os:Nat}{p v:AV}{H:AH}(h:DsAt s os p H)(hw:SW N s)(ino pos:Int){b:List UInt8}(hN:N+9*b.length<900000)(hv:SV FB 1 b v):
  ∃r H',(r=.tup [I (BI s ino pos b).1.1,I (BI s ino pos b).1.2]∧∃p',DsAt (BI s ino pos b).2 os p' H'∧StF os p p' H H')∧BCall prog 66 [.ptr os 0,I ino,I pos,v] H r H':=O5 (by
 unfold JB;obtain⟨R,hR,r,H1,⟨rfl,g1⟩,hc⟩:=Pd h hw (by omega) ino;have hlen:=CN hw ino;refine bC_of hc ?_;unfold BI;have hsome:=pN (pos:=pos) (b:=b) hw (ino:=ino);have h00:(Aq s ino).2=0→(Aq s ino).2=0:=id;have hkeep:Aq s ino=Aq s ino:=rfl;generalize hct:Aq s ino=ct at*;have oR:=SV.oneA hR;have h1:=h.grew g1;have g2:=Grew.app H1 [some (.cells [I ct.1.1,R])];have h2:=h1.grew g2;have alv:AL v=some (I b.length):=hv.len;simp only[Af9,HU _ _ oR]
 by_cases hc0:ct.2=0
 ·obtain⟨R2,hR2,hpW⟩:=NQ (size:=ct.1.1) hR (by omega) pos hv (by omega)
  have oR2:=SV.oneA hR2;rw[hsome hc0]at hpW;simp only[hc0,Ag3,Ai Dk,dS,Aa];refine Ay hpW ?_;generalize cS (Dx (ct.1.1,ct.1.2) pos b)=sz;have g3:=Grew.app (H1++[some (AObj.cells [I ct.1.1,R])]) [some (.cells [I sz,R2])];have h3:=h2.grew g3;have ff:StF os p p H (H1++[some (AObj.cells [I ct.1.1,R])]++[some (.cells [I sz,R2])]):=.of_grew ((g1.trans g2).trans g3);simp only[Ab8,HU _ _ oR2,AF,Bj]
  by_cases hf:V8 pos b.length
  ·have hf':0≤pos∧b.length≤4096∧pos≤1099511627776 - b.length:=hf
   have e1:En [(I 0),(I 0)] [(0,1,I pos),(1,1,I (b.length:Int))]=some (.agg (Bz ⟨pos,b.length⟩)):=rfl;obtain⟨V,hV,hp⟩:=lG ⟨pos,b.length⟩ (unit:=8) (by omega);simp only[hf,CL,Aa2,Ad3,alv,e1];refine Ay hp ?_
   have hpe:Ed ⟨pos,b.length⟩ 8=Df b.length pos b.length 8:=by
    unfold Ed;rw[if_pos ⟨⟨by unfold May;simp only;omega,by unfold May;simp only;omega,by simp only;omega⟩,by simp only;omega,by omega⟩]
    show Df ((b.length:Int)).toNat pos b.length 8=_
    rw[show((b.length:Int)).toNat=b.length by omega]
   have hin:∀q∈Ed ⟨pos,b.length⟩ 8,pos≤q.pos∧0<q.len∧q.len≤8∧q.pos+q.len≤pos+b.length:=λq hq=>X4 hf hq
   have hpl:=YA hf;generalize Ed ⟨pos,b.length⟩ 8=L at hV hin hpl hpe;have hosH:os<H.length:=h.os_lt;have hpH:=h.p_lt;have hH1:H.length≤H1.length:=g1.1;generalize (H1++[some (AObj.cells [I ct.1.1,R])]++[some (AObj.cells [I sz,R2])])=H0 at h3 ff;refine Kw (λm x0 x1 x3 x14 x15 x16 H'=>∃(k:Nat) (s':StS) (p':AV) (done:Int) (f:Nat),k+m=L.length∧x0=.ptr os 0∧x1=I ino∧v=x3∧V=x14∧x15=I done∧x16=I k∧DsAt s' os p' H'∧StF os p p' H H'∧SW (N+9*k) s'∧0≤done∧done≤b.length∧L.drop k=Df f (pos+done) (b.length - done) 8∧(b.length - done).toNat≤f∧(Aq s' ino).2=0∧(b.length≤done∨∀a,(pos+done)/8≤a→(BG (Aq s' ino).1.2 a↔BG ct.1.2 a))∧W2 ct.1.2 ino pos b (L.drop k) s'=W2 ct.1.2 ino pos b L s) ?_ L.length
    ⟨0,s,p,0,b.length,by omega,rfl,rfl,rfl,rfl,rfl,rfl,h3,ff,hw,by omega,by omega,by simpa using hpe,by omega,by rw[hct];exact hc0,.inr (λa _=>by rw[hct]),rfl⟩
   rintro m x0 x1 x3 x14 x15 x16 H2 R3 hR3 ⟨k,s',p',done,f,hk,rfl,rfl,rfl,rfl,rfl,rfl,hs',fs',hws',hd0,hd1,hdrop,hfl,hcs,hhas,heq⟩;rw[← heq];unfold FN;obtain⟨a,b',c,d,pv,hsc⟩:=id hs';have sm:=hws'.now.sm (by omega);rcases Ai0 k L.length with hlt | hge
   ·have hx:=DD hlt
    have hq:=hin L[k] (At4 hlt);generalize L[k]=q at hx hq;obtain⟨q1,q2,q3,q4⟩:=hq;have kI:(k:Int)<(L.length:Int):=by omega
    have hdr:L.drop k=q::L.drop (k+1):=Dy hx;rw[hdr]at hdrop⊢;obtain⟨c1,c2,g,rfl,c3⟩:=wE hdrop.symm (by omega);have hqp:q.pos=pos+done:=by rw[c2]
    have hql:q.len=min (b.length - done) (8 - (pos+done) % 8):=by rw[c2]
    have hmod:=Aq0 (pos+done) (show(8:Int)≠0 by omega);generalize hW:W2 ct.1.2 ino pos b (q::L.drop (k+1)) s'=W
    -- what is there now
    obtain⟨dd,hmem,hdi,hcont,hoff⟩:=FE hws' hcs;obtain⟨RG,hRG,hpG⟩:=iJ hsc.now sm ino;obtain⟨k1,k2⟩:=We hws'.now.1 hmem;rw[hdi]at k1 k2;rw[k1]at hRG hpG;rw[decide_eq_true k2]at hpG;have oRG:=SV.oneA hRG;have hsrt:=Jk (hws'.now.1.mc dd hmem).2.2;have hll:=hws'.now.2 dd hmem;have g5:=Grew.app H2 [some (.cells [I dd.size,RG])];have rq:Ap false 1 (H2++[some (AObj.cells [I dd.size,RG])]) (.ip (Bz q++(L.drop (k+1)).flatMap Bz))=some (I q.pos):=rfl;have e3:Ar .quo (I q.pos) (I 8)=some (I (q.pos/8)):=JS (by omega) (by omega) (by omega);have sh0:Ab 0 (.ip (Bz q++(L.drop (k+1)).flatMap Bz))=some (.ip (Bz q++(L.drop (k+1)).flatMap Bz)):=rfl;have sh1:Ab 1 (.ip (Bz q++(L.drop (k+1)).flatMap Bz))=some (.ip (I q.len::(L.drop (k+1)).flatMap Bz)):=rfl;simp only[hV.len,Ac0,kI,Ad1,A4,At,Ai hsc.obj,(xD _ _ _ _ _ _ _ _ _).1];refine Ay hpG ?_;simp only[Ad5,Y8,Ae5,HU _ _ oRG,Ai Dk,dS,hV.idx Yk hx rfl,sh0,rq,e3];refine bP_of (Wq (size:=dd.size) hRG hsrt (by omega) (q.pos/8)) ?_;have hs5:=hs'.grew g5;have fs5:StF os p p' H (H2++[some (AObj.cells [I dd.size,RG])]):=fs'.grew g5
    have hhq:BG dd.l (q.pos/8)↔BG ct.1.2 (q.pos/8):=by
     rcases hhas with z | z
     ·omega
     ·have:=z (q.pos/8) (by rw[hqp];exact Int.le_refl _)
      rwa[hcont]at this
    have efind:(if BG dd.l (q.pos/8)then(posL dd.l (q.pos/8):Int)else -1)<0↔¬BG ct.1.2 (q.pos/8):=by
     rw[← hhq]
     by_cases z:BG dd.l (q.pos/8)
     ·rw[if_pos z];constructor
      ·intro y;omega
      ·intro y;exact absurd z y
     ·rw[if_neg z];simp[z]
    generalize (H2++[some (AObj.cells [I dd.size,RG])])=H5 at hs5 fs5;have e4:Ar .add (I done) (I q.len)=some (I (done+q.len)):=Au (by omega) (by omega);have rl:∀HH:AH,Ap false 1 HH (.ip (I q.len::(L.drop (k+1)).flatMap Bz))=some (I q.len):=λ_=>rfl
    have deed:¬(¬BG ct.1.2 (q.pos/8)∧LV s'=0)→bO (Ap false 1 H5 (.ip (Bz q++(L.drop (k+1)).flatMap Bz))) (λv30=>bO (Ab 1 (.ip (Bz q++(L.drop (k+1)).flatMap Bz))) λv32=>bO (Ap false 1 H5 v32) λv33=>bO (Ar .add (I done) v33) λv34=>bO (Bf 1 v (some (I done)) (some v34) none) λv35=>
      bO (En [(I 0),(I 0),(I 0),(I 0),(B false),(.lit (.string ⟨#[]⟩)),(.lit (.string ⟨#[]⟩)),Ad] [(0,1,(I 2)),(1,1,I ino),(2,1,v30),(7,1,v35)]) λv36=>bC (BCall prog 62 [.ptr os 0,v36] H5) λv37 H38=>bO (Ar .neq v37 (I 0)) λv39=>bB v39 λt40=>bI t40
       (AV.tup [I done,v37]=.tup [I W.1.1,I W.1.2]∧∃p',DsAt W.2 os p' H38∧StF os p p' H H38)
       (bO (Ab 1 (.ip (Bz q++(L.drop (k+1)).flatMap Bz))) λv42=>bO (Ap false 1 H38 v42) λv43=>bO (Ar .add (I done) v43) λv44=>bO (Ar .add (I k) (I 1)) λv45=>R3 [.ptr os 0,I ino,v,V,v44,v45] H38)):=by
     intro hno;obtain⟨rb,s1,s2⟩:=hv.cutB (li:=done) (ki:=done+q.len) (l:=done.toNat) (k:=(done+q.len).toNat) (by omega) (by omega) (by omega) (by omega)
     have hpb:(b.drop done.toNat).take ((done+q.len).toNat - done.toNat)=Eh b pos q:=by
      unfold Eh;rw[hqp,show(pos+done - pos).toNat=done.toNat by omega,show(done+q.len).toNat - done.toNat=q.len.toNat by omega]
     rw[hpb]at s2;have hpl2:=Y9 (b:=b) (pos:=pos) (q:=q) ⟨q1,q2,q3,q4⟩
     have e5:En [(I 0),(I 0),(I 0),(I 0),(B false),(.lit (.string ⟨#[]⟩)),(.lit (.string ⟨#[]⟩)),Ad] [(0,1,(I 2)),(1,1,I ino),(2,1,I q.pos),(7,1,rb)]=some (.agg (BD (EP ino q.pos (Eh b pos q)) rb)):=by
      have:=SV.oneA s2
      simp[En,BD,EP,Bs this];rfl
     have rq5:Ap false 1 H5 (.ip (Bz q++(L.drop (k+1)).flatMap Bz))=some (I q.pos):=rfl;simp only[Aa,rq5,sh1,rl,e4,s1,e5];obtain⟨r6,H6,⟨rfl,p6,h6,f6⟩,hcall⟩:=aI (o:=EP ino q.pos (Eh b pos q)) hs5 hws' (by omega) s2 (dP (by omega));have hws6:=WH (o:=EP ino q.pos (Eh b pos q)) hws' (dP (by omega));refine bC_of hcall ?_;simp only[B6,Aa6]
     by_cases hd:(HX s' (EP ino q.pos (Eh b pos q))).1=0
     ·have hwt:wt (EP ino q.pos (Eh b pos q))≤9:=by
       show 1+(Eh b pos q).length+(if(2:Int)=4 then 4098 else 0)≤9
       rw[if_neg (by omega)];omega
      obtain⟨w1,w2⟩:=sJ hws' hcs hd;simp only[hd,Ag2,Aa,Au (a:=k) (b:=1) (by omega) (by omega)];refine hR3 (m - 1) _ _ _ _ _ _ _ (by omega) ⟨k+1,_,p6,done+q.len,g,by omega,rfl,rfl,rfl,rfl,rfl,by simp,h6,fs5.trans f6,hws6.mono (by omega),by omega,by omega,?_,by omega,w1,?_,?_⟩
      ·rw[c3,← hql]
       congr 1<;>omega
      ·rcases Ai0 (done+q.len).toNat b.length with z | z
       ·refine .inr λa ha=>?_
        have hdiv:(pos+(done+q.len))/8=q.pos/8+1:=by omega
        rw[w2 a (λx x1 x2=>by rw[hpl2]at x2;omega)];rcases hhas with y | y
        ·omega
        ·exact y a (by omega)
       ·exact .inl (by omega)
      ·rw[← heq,hdr]
       conv=>rhs;unfold W2
       rw[if_neg hno,if_neg (by rw[hd];simp)]
     ·have eW:W=((q.pos - pos,(HX s' (EP ino q.pos (Eh b pos q))).1),(HX s' (EP ino q.pos (Eh b pos q))).2):=by
       rw[← hW];unfold W2;rw[if_neg hno,if_pos hd]
      rw[eW];simp only[hd,Ab6,CL];exact⟨by rw[show q.pos - pos=done by omega],p6,h6,fs5.trans f6⟩
    simp only[Bn,Aa,AU,decide_eq_decide.2 efind]
    by_cases hh:BG ct.1.2 (q.pos/8)
    ·simp only[hh,Ah4,show((false==true)=false)from rfl,BY,cN,Af8,An]
     exact deed (λx=>x.1 hh)
    ·simp only[hh,not_false_eq_true,CL,Aa0,Ps,Aa]
     refine bC_of (iW hs5 hws' (by omega)) ?_;simp only[BJ,Ag7]
     by_cases hfr:LV s'=0
     ·have eW:W=((q.pos - pos,4),s'):=by
       rw[← hW];unfold W2;rw[if_pos ⟨hh,hfr⟩]
      rw[eW];simp only[hfr,Ad1];exact⟨by rw[show q.pos - pos=done by omega],p',hs5,fs5⟩
     ·simp only[hfr,Ab7]
      exact deed (λx=>hfr x.2)
   ·have kI:¬(k:Int)<(L.length:Int):=by omega
    have hdr:L.drop k=[]:=Aj5 hge;rw[hdr]at hdrop⊢
    have:=zO hdrop.symm hfl
    have hdn:done=b.length:=by omega
    unfold W2;simp only[Ae8,kI,hV.len,hdn];exact⟨by trivial,p',hs',fs'⟩
  ·simp only[hf,Dd,Ac5,Aa1]
   exact⟨by trivial,p,h3,ff⟩
 ·simp only[hc0,Ad4]
  exact⟨by trivial,p,h2,.of_grew (g1.trans g2)⟩)
theorem zdfcZ {c:List Ext}{ino pos:Int}{b:List UInt8}:∀{l:List Sp} {s:StS},(W2 c ino pos b l s).1.2=0→(W2 c ino pos b l s).1.1=b.length
 | [],s,h=>rfl
 | q::r,s,h=>by
  unfold W2 at h⊢
  split
  ·rename_i c1;rw[if_pos c1]at h;simp at h
  ·rename_i c1
   rw[if_neg c1]at h
   split
   ·rename_i c2;rw[if_pos c2]at h;exact absurd h c2
   ·rename_i c2;rw[if_neg c2]at h;exact zdfcZ h
theorem xQ {s:StS}{ino pos:Int}{b:List UInt8}(h:(BI s ino pos b).1.2=0):(BI s ino pos b).1.1=b.length:=by
 unfold BI at h⊢
 split
 ·rename_i c1;rw[if_pos c1]at h;exact absurd h c1
 ·rename_i c1
  rw[if_neg c1]at h
  split
  ·rename_i c2;rw[if_pos c2]at h;simp at h
  ·rename_i c2;rw[if_neg c2]at h;exact zdfcZ h
def Co (s:StS)(ino pos:Int)(b:List UInt8):(Int×Int)×StS:=if b=[]then((0,0),s)else BI s ino pos b
theorem wW (s:StS)(ino pos:Int)(b:List UInt8):0≤(Co s ino pos b).1.1∧(Co s ino pos b).1.1≤b.length:=by
 unfold Co
 split
 ·simp
 ·exact XU s ino pos b
theorem wX {N:Nat}{s:StS}(h:SW N s)(ino pos:Int)(b:List UInt8):SW (N+9*b.length) (Co s ino pos b).2:=by
 unfold Co
 split
 ·exact h.mono (by omega)
 ·exact XV h ino pos b
theorem vZ {b:List UInt8}(h1:b≠[])(h2:b.length≤4096):BK b=[b]:=by
 have hl:=List.length_pos_iff.2 h1;have hn:tD b.length 4096=1:=by unfold tD;omega
 unfold BK;rw[hn]
 show [(b.drop (0*4096)).take (min 4096 (b.length - 0*4096))]=[b]
 rw[As4,Ak9,Ar4,Nat.min_eq_right h2,Al2]
theorem wV {ino:Int}{b:List UInt8}{r:List (List UInt8)}{s:StS}{a m:Int}(hb:b.length≤4096):
  pcs ino (BK b++r) s a m=if(Co s ino a b).1.2=0 then pcs ino r (Co s ino a b).2 (a+(Co s ino a b).1.1) (m+(Co s ino a b).1.1)else(((Co s ino a b).2,a+(Co s ino a b).1.1,m+(Co s ino a b).1.1),(Co s ino a b).1.2):=by
 by_cases h:b=[]
 ·subst h
  have e:BK []=[]:=rfl;have p:Co s ino a []=((0,0),s):=if_pos rfl;rw[e,p,Am5];simp
 ·have p:Co s ino a b=BI s ino a b:=if_neg h
  rw[vZ h hb,p,List.singleton_append]
  conv=>lhs;unfold pcs
theorem vB {N:Nat}{s:StS}{os:Nat}{p v:AV}{H:AH}(h:DsAt s os p H)(hw:SW N s)(ino pos:Int)(hp: -9223372036854775808≤pos∧pos≤9223372036854775807){b:List UInt8}(hb:b.length≤4096)(hN:N+9*b.length<900000)(hv:SV FB 1 b v):
  ∃r H',(r=.tup [I (Co s ino pos b).1.1,I (Co s ino pos b).1.2]∧∃p',DsAt (Co s ino pos b).2 os p' H'∧StF os p p' H H')∧BCall prog 23 [.ptr os 0,I ino,I pos,v] H r H':=Nr (by
 unfold IP;refine Kt (λm x0 x1 x2 x3 x10 H'=>x0=.ptr os 0∧x1=I ino∧x2=I pos∧v=x3∧((m=1∧x10=I 0∧H=H')∨(m=0∧x10=I (b.length:Int)∧(Co s ino pos b).1=((b.length:Int),0)∧∃p',DsAt (Co s ino pos b).2 os p' H'∧StF os p p' H H'))) ?_ 1 ⟨rfl,rfl,rfl,rfl,.inl ⟨rfl,rfl,rfl⟩⟩;rintro m x0 x1 x2 x3 x10 H2 R hR ⟨rfl,rfl,rfl,rfl,⟨rfl,rfl,rfl⟩ | ⟨rfl,rfl,he,p',hs,hf⟩⟩
 ·unfold DS
  simp only[hv.len,Ac0]
  by_cases hz:b=[]
  ·have e:Co s ino pos b=((0,0),s):=if_pos hz
   have hl:¬(0:Int)<(b.length:Int):=by rw[hz];simp
   simp only[hl,Ab7,e];exact⟨by trivial,p,h,.refl _ _ _⟩
  ·have e:Co s ino pos b=BI s ino pos b:=if_neg hz
   have hpos:=List.length_pos_iff.2 hz;have hl:(0:Int)<(b.length:Int):=by omega
   have e1:Ar .add (I pos) (I 0)=some (I pos):=by rw[Au (by omega) (by omega),Int.add_zero]
   have e2:Ar .add (I 0) (I 4096)=some (I 4096):=rfl;have e3:amm Zn [I 4096,I (b.length:Int)]=some (I (b.length:Int)):=by rw[LD,rC];congr 3;omega
   obtain⟨rb,s1,s2⟩:=hv.cutB (li:=0) (ki:=(b.length:Int)) (l:=0) (k:=b.length) rfl rfl (by omega) (Ah9 _);rw[Ak9,Ar4,Al2]at s2;obtain⟨r,H3,⟨rfl,p',hs,hf⟩,hc⟩:=aH h hw ino pos hN s2;have hn:=XU s ino pos b;have e4:Ar .add (I 0) (I (BI s ino pos b).1.1)=some (I (BI s ino pos b).1.1):=by rw[Au (by omega) (by omega),Au2]
   simp only[hl,Ad1,e1,e2,Aa,e3,s1];refine bC_of hc ?_;simp only[Ad0,e4]
   by_cases hcode:(BI s ino pos b).1.2=0
   ·have hok:=xQ hcode
    simp only[hcode,Ag2];refine hR 0 _ _ _ _ _ _ (by omega) ⟨rfl,rfl,rfl,rfl,.inr ⟨rfl,by rw[hok],by rw[e];exact Prod.ext hok hcode,p',by rw[e];exact hs,hf⟩⟩
   ·simp only[hcode,Ab6,CL,e]
    exact⟨by trivial,p',hs,hf⟩
 ·unfold DS
  have hl:¬(b.length:Int)<(b.length:Int):=by omega
  simp only[hv.len,Ae8,hl];exact⟨by rw[he],p',hs,hf⟩)
structure Obj (x:Nat)(cs:List AV)(os od fo:Nat)(p q:AV)(H:AH):Prop where
 at':H[x]?=some (some (.cells cs))
 n1:x≠os
 n2:x≠od
 n3:x≠fo
 n4:x∉AM p
 n5:x∉AM q
section
variable {s s' t t' : StS} {os od fo x : Nat} {ino a a2 : Int} {p p' q q' : AV} {H H' : AH} {cs : List AV}
end
end
section
theorem zdfpZ {N:Nat}{s:StS}{os:Nat}{p:AV}{H:AH}(hst:DsAt s os p H)(hw:SW N s)(hN:N<900000)(ino:Int):
  ∃r H',(∃v,r=.tup [v,I (nA s ino).2]∧Ac H' 1 v=some (AY (nA s ino).1,(nA s ino).1.length)∧(∀i∈AM v,H.length≤i)∧Grew H H')∧BCall prog 57 [.ptr os 0,I ino] H r H':=Qd (by
 unfold Lj;obtain⟨r,H1,⟨rfl,g1⟩,hc⟩:=sO hst hw (by omega) ino;refine bC_of hc ?_;have nil1:∀H:AH,Ac H 1 Ad=some (AY [],([]:List UInt8).length):=λ_=>rfl
 unfold nA;simp only[Ad0,ne_eq]
 by_cases c0:(Aq s ino).2=0
 rotate_left
 ·simp only[c0,Aa1,Aa4]
  exact⟨_,by trivial,nil1 _,by simp[AM],g1⟩
 simp only[c0,Ad3,Dd,Du]
 by_cases c1:65536<(Aq s ino).1.1
 ·simp only[c1,Aa4]
  exact⟨_,by trivial,nil1 _,by simp[AM],g1⟩
 simp only[c1,Dd,if_false];have rn:=λj hj=>iI hw c0 (by omega) (j:=j) hj
 have h0:0≤(Aq s ino).1.1:=by
  obtain⟨d,hd,hi,e,-⟩:=FE hw c0
  have:=(RS.1 (hw.now.1.mc d hd)).1
  rw[e];exact this
 obtain⟨n,hn⟩:∃n:Nat,(Aq s ino).1.1=n:=⟨(Aq s ino).1.1.toNat,by omega⟩;generalize (Aq s ino).1.2=l at*;rw[hn]at rn c1⊢;simp only[As9]at rn⊢;refine Mu (λm x0 x1 x6 x8 H'=>∃j:Nat,j+m=n∧x0=.ptr os 0∧x1=I ino∧x6=I n∧Ac H' 1 x8=some (AY (CR l 0 j),j)∧AZ x8=true∧(∀i∈AM x8,H.length≤i)∧Grew H H') ?_ n ⟨0,by omega,rfl,rfl,rfl,rfl,rfl,by simp[AM],g1⟩;rintro m x0 x1 x6 x8 H2 R hR ⟨j,hj,rfl,rfl,rfl,hs,ho,hi,g2⟩;unfold Hw;have al:=By hs;simp only[al,Ac0]
 by_cases c:j<n
 ·have c':(j:Int)<(n:Int):=by omega
  have hr:=rn j c;obtain⟨Rb,hRb,r,H3,⟨rfl,g3⟩,hc⟩:=sN (hst.grew g2) hw hN ino (j:Int) 4096;rw[hr]at hRb hc;simp only[c',Ad1];refine bC_of hc ?_;have hlen:=EZ l (j:Int) (min 4096 (n - j));obtain⟨r,H4,a1,a2,a3,a4,a5,a6⟩:=BX (sz:=1) (bytes:=1) (g3.slice hs) ho (A1 (hRb.bytes H3)) (by rw[hlen];omega);simp only[Ad0,Ag2,a1,A6];refine hR (m - min 4096 (n - j)) _ _ _ _ _ (by omega) ⟨j+min 4096 (n - j),by omega,rfl,rfl,rfl,?_,a2,?_,?_⟩
  ·rw[a3,hlen,aU,Au2,AY,AY,AY,Ak2]
  ·intro i q
   rcases a6 i q with q | q
   ·exact hi i q
   ·have:=g2.1;have:=g3.1;omega
  ·refine⟨by have:=g2.1;have:=g3.1;omega,λi q=>?_⟩
   rw[a5 i (by have:=g2.1;have:=g3.1;omega) (λz=>by have:=hi i z;omega),g3.2 i (by have:=g2.1;omega),g2.2 i q]
 ·have c':¬(j:Int)<(n:Int):=by omega
  have ej:j=n:=by omega
  subst ej;simp only[c',Ab7];exact⟨x8,by trivial,by rw[EZ];exact hs,hi,g2⟩)
def ZK (ino:Int):List (List UInt8)→StS→Int→Int×StS
 | [],s,_=>(0,s)
 | b::r,s,a=>if(Co s ino a b).1.2=0 then ZK ino r (Co s ino a b).2 (a+(Co s ino a b).1.1)else((Co s ino a b).1.2,(Co s ino a b).2)
theorem oV {ino:Int}:∀{l:List (List UInt8)} {s:StS} {a m:Int},(∀b∈l,b.length≤4096)→(pcs ino (l.flatMap BK) s a m).2=(ZK ino l s a).1∧(pcs ino (l.flatMap BK) s a m).1.1=(ZK ino l s a).2
 | [],s,a,m,_=>⟨rfl,rfl⟩
 | b::r,s,a,m,h=>by
  rw[Aj9,wV (h b (by simp))];unfold ZK
  split
  ·exact oV λz hz=>h z (by simp[hz])
  ·exact⟨rfl,rfl⟩
def Z0 (s:StS)(nm:List UInt8)(l:List (List UInt8)):Int×StS:=
 if(Bq s nm true).1.2≠0 then((Bq s nm true).1.2,(Bq s nm true).2)
 else if(DH (Bq s nm true).2 (Bq s nm true).1.1 0).1≠0 then DH (Bq s nm true).2 (Bq s nm true).1.1 0
 else if(ZK (Bq s nm true).1.1 l (DH (Bq s nm true).2 (Bq s nm true).1.1 0).2 0).1≠0 then ZK (Bq s nm true).1.1 l (DH (Bq s nm true).2 (Bq s nm true).1.1 0).2 0
 else JH (ZK (Bq s nm true).1.1 l (DH (Bq s nm true).2 (Bq s nm true).1.1 0).2 0).2 [(Bq s nm true).1.1]
theorem pC {s:StS}{nm:List UInt8}{l:List (List UInt8)}(h:∀b∈l,b.length≤4096):lE s nm (l.flatMap BK)=Z0 s nm l:=by
 unfold lE Z0;obtain⟨e1,e2⟩:=oV (ino:=(Bq s nm true).1.1) (s:=(DH (Bq s nm true).2 (Bq s nm true).1.1 0).2) (a:=0) (m:=0) h;rw[e1,e2]
def zdglZ (x:AV×List UInt8):List AV:=[x.1]
def qY (ino e:Int)(l:List (List UInt8))(s:StS)(a:Int):Int×StS:=
 if e≠0 then(e,s)else if(ZK ino l s a).1≠0 then ZK ino l s a else JH (ZK ino l s a).2 [ino]
theorem zdisZ {N:Nat}{s:StS}{os:Nat}{p w:AV}{H:AH}{nm:List UInt8}{bl:List (AV×List UInt8)}(h:DsAt s os p H)(hw:SW N s)(hnm:nm.length≤9223372036854775807)
  (ha:SV zdglZ 1 bl w) (hb:∀x∈bl,SV FB 1 x.2 x.1∧x.2.length≤4096) (hbn:bl.length≤1000000) (hN:N+2+9*JK (bl.map Prod.snd)<900000):
  ∃r H',(r=I (Z0 s nm (bl.map Prod.snd)).1∧∃p',DsAt (Z0 s nm (bl.map Prod.snd)).2 os p' H'∧StF os p p' H H')∧BCall prog 54 [.ptr os 0,S (B9 nm),w] H r H':=MD (by
 generalize hRES:Z0 s nm (bl.map Prod.snd)=RES;unfold Il;obtain⟨r,H1,⟨rfl,p1,h1,f1⟩,hc⟩:=iX h hw (by omega) hnm true;have w1:=X2 hw nm true;refine bC_of hc ?_;have loop:∀(e:Int) (s2:StS) (p2:AV) (H2:AH) (ino:Int),DsAt s2 os p2 H2→StF os p p2 H H2→SW (N+2) s2→qY ino e (bl.map Prod.snd) s2 0=RES→
   CZ (.ptr os 0) w (I ino) (I e) H2 (λr H'=>r=I RES.1∧∃p',DsAt RES.2 os p' H'∧StF os p p' H H'):=by
  intro e s2 p2 H2 ino h2 f2 w2 hfin;rw[KM];unfold Fy;rw[KN];unfold Fz;rw[KQ];unfold F3;refine JN (λn x0 x2 x7 x8 x9 x10 H'=>∃(j:Nat) (e a:Int) (s':StS) (p':AV),j+n=bl.length∧x0=.ptr os 0∧w=x2∧x7=I ino∧x8=I e∧x9=I a∧x10=I j∧DsAt s' os p' H'∧StF os p p' H H'∧(∃M,SW M s'∧M+9*JK ((bl.drop j).map Prod.snd)<900000)∧(0≤a∧a+JK ((bl.drop j).map Prod.snd)≤1000000)∧qY ino e ((bl.drop j).map Prod.snd) s' a=RES) ?_ bl.length
   ⟨0,e,0,s2,p2,by omega,rfl,rfl,rfl,rfl,rfl,rfl,h2,f2,⟨N+2,w2,by simpa using hN⟩,by simp only[Ak9];omega,by simpa using hfin⟩
  rintro n x0 x2 x7 x8 x9 x10 H3 R hR ⟨j,e,a,s3,p3,hj,rfl,rfl,rfl,rfl,rfl,rfl,h3,f3,⟨M,w3,hM⟩,hab,hf⟩;unfold F4;simp only[ha.len,Aa,Bn,AU];have last:qY ino e [] s3 a=RES→bO (Ar .neq (I e) (I 0)) (λv16=>bB v16 λt17=>bI t17 ((λr H'=>r=I RES.1∧∃p',DsAt RES.2 os p' H'∧StF os p p' H H') (I e) H3)
    (bH (D9 H3 1 1 (B4 [(I 0)] 1) [(0,1,I ino)]) λv18 H19=>bC (BCall prog 75 [.ptr os 0,v18] H19) λv20 H21=>(λr H'=>r=I RES.1∧∃p',DsAt RES.2 os p' H'∧StF os p p' H H') v20 H21)):=by
   intro hf;unfold qY ZK at hf;simp only[B6,Aa6]
   by_cases he:e=0
   ·subst he
    simp only[Af3]at hf;have eA:D9 H3 1 1 (B4 [(I 0)] 1) [(0,1,I ino)]=some (.sl H3.length 0 1 1 (.ex 1),H3++[some (.cells [I ino])]):=rfl;have g4:=Grew.app H3 [some (AObj.cells [I ino])];have lo:=h3.os_lt;have lp:=h3.p_lt
    obtain⟨r,H5,⟨rfl,p5,h5,f5⟩,hc⟩:=lZ (h3.grew g4) w3 (by omega) (l:=[ino]) (v:=.sl H3.length 0 1 1 (.ex 1)) (by simp) (λHx hx j z hz=>by
     have hj:j=0:=by
      have:=(BE.1 hz).1
      simp at this;omega
     subst hj;simp only[C1,Ap1]at hz;subst hz
     have:=(hx H3.length (by simp[AM])).trans Dk
     exact⟨.ptr H3.length 0,rfl,by rw[Ai this];rfl⟩) (by
     intro i hi;simp only[AM,Ao4]at hi;subst hi;exact⟨by simp,by omega,λz=>by have:=lp _ z;omega⟩) (by simp)
    simp only[Ag2,eA,A6];refine bC_of hc ?_;rw[← hf];exact⟨by trivial,p5,h5,(f3.grew g4).trans f5⟩
   ·rw[if_pos he]at hf
    simp only[Ab6,he,CL];rw[← hf];exact⟨by trivial,p3,h3,f3⟩
  rcases Ai0 j bl.length with hlt | hge
  ·have hx:=DD hlt
   generalize bl[j]=x at hx;obtain⟨hb1,hb2⟩:=hb x (Ah7 hx);have hdrop:bl.drop j=x::bl.drop (j+1):=Dy hx;rw[hdrop,Ao8]at hM hab hf;have el:JK (x.2::(bl.drop (j+1)).map Prod.snd)=x.2.length+JK ((bl.drop (j+1)).map Prod.snd):=by simp[JK]
   rw[el]at hM hab
   by_cases he:e=0
   ·subst he
    have q0:∀t,Ap false 1 H3 (.ip (zdglZ x++t))=some x.1:=λ_=>rfl
    have q2:Ar .add (I (j:Int)) (I 1)=some (I ((j+1:Nat):Int)):=by rw[Au (by omega) (by omega)];congr 3
    obtain⟨r,H4,⟨rfl,p4,h4,f4⟩,hc⟩:=vB h3 w3 ino a (by omega) hb2 (by omega) hb1;have w4:=wX w3 ino a x.2;have hn:=wW s3 ino a x.2;have q3:Ar .add (I a) (I (Co s3 ino a x.2).1.1)=some (I (a+(Co s3 ino a x.2).1.1)):=Au (by omega) (by omega);simp only[show((j:Int)<(bl.length:Int)) by omega,Aa4,Ac2,Aa6,BJ,As,ha.idx (λ_=>rfl) hx rfl,q0];refine bC_of hc ?_;simp only[Ad5,q3,q2];refine hR (n - 1) _ _ _ _ _ _ _ (by omega) ⟨j+1,_,_,_,p4,by omega,rfl,rfl,rfl,rfl,rfl,rfl,h4,f3.trans f4,⟨_,w4,by omega⟩,by omega,?_⟩;rw[← hf];unfold qY;simp only[Af3]
    conv=>rhs;unfold ZK
    by_cases hc:(Co s3 ino a x.2).1.2=0
    ·simp only[hc,not_true_eq_false,if_false,if_true]
    ·simp only[hc,not_false_eq_true,if_true,if_false]
   ·simp only[show((j:Int)<(bl.length:Int)) by omega,Aa4,Ac2,Aa6,BJ,he,Ab7]
    refine last ?_;unfold qY at hf⊢;rw[if_pos he]at hf⊢;exact hf
  ·have ej:bl.drop j=[]:=Aj5 hge
   rw[ej]at hf;simp only[show ¬((j:Int)<(bl.length:Int)) by omega,Ab7,show((false==true)=false)from rfl,BY,Af8,An];exact last hf
 unfold Z0 at hRES;generalize Bq s nm true=O at*;simp only[Ab8,BJ]
 by_cases c1:O.1.2=0
 ·simp only[c1,Af3]at hRES
  obtain⟨r,H2,⟨rfl,p2,h2,f2⟩,hc⟩:=mA h1 w1 (by omega) O.1.1 0;simp only[c1,Ad1];refine bC_of hc ?_;refine loop _ _ p2 _ _ h2 (f1.trans f2) (XO w1 O.1.1 0) ?_;rw[← hRES];rfl
 ·rw[if_pos c1]at hRES
  simp only[c1,Ab7];refine loop _ _ p1 _ _ h1 f1 (w1.mono (by omega)) ?_;rw[← hRES];unfold qY;rw[if_pos c1])
def nameT:List (List UInt8):=[[97],[98],[99],[100,115,116],[109,97,112],[109,97,112,46,110,101,119],[120,45,49],[100,105,115,107],[],[65],[45,97],[97,47,98],[97,98,99,100,101,102,103,104,105,106,107,108,109,110,111,112,113,114,115,116],[97,98,99,100,101,102,103,104,105,106,107,108,109,110,111,112,113,114,115,116,117],[97,98,99,100,101,102,103,104,105,106,107,108,109,110,111,112],[97,98,99,100,101,102,103,104,105,106,107,108,109,110,111,112,113],[46],[48]]
def Ke (k:UInt8):List UInt8:=nameT.getD (k.toNat % 18) []
theorem pR (k:UInt8):BPure prog 38 [.lit (.int .u8 k.toNat)] (S (B9 (Ke k))):=BPure.val rfl rfl (Ws (by
 unfold Gf;have e1:D9 [] 1 18 (B4 [(.lit (.string ⟨#[]⟩))] 18) [(0,1,(.lit (.string ⟨#[97]⟩))),(1,1,(.lit (.string ⟨#[98]⟩))),(2,1,(.lit (.string ⟨#[99]⟩))),(3,1,(.lit (.string ⟨#[100,115,116]⟩))),(4,1,(.lit (.string ⟨#[109,97,112]⟩))),(5,1,(.lit (.string ⟨#[109,97,112,46,110,101,119]⟩))),(6,1,(.lit (.string ⟨#[120,45,49]⟩))),(7,1,(.lit (.string ⟨#[100,105,115,107]⟩))),(8,1,(.lit (.string ⟨#[]⟩))),(9,1,(.lit (.string ⟨#[65]⟩))),(10,1,(.lit (.string ⟨#[45,97]⟩))),(11,1,(.lit (.string ⟨#[97,47,98]⟩))),(12,1,(.lit (.string ⟨#[97,98,99,100,101,102,103,104,105,106,107,108,109,110,111,112,113,114,115,116]⟩))),(13,1,(.lit (.string ⟨#[97,98,99,100,101,102,103,104,105,106,107,108,109,110,111,112,113,114,115,116,117]⟩))),(14,1,(.lit (.string ⟨#[97,98,99,100,101,102,103,104,105,106,107,108,109,110,111,112]⟩))),(15,1,(.lit (.string ⟨#[97,98,99,100,101,102,103,104,105,106,107,108,109,110,111,112,113]⟩))),(16,1,(.lit (.string ⟨#[46]⟩))),(17,1,(.lit (.string ⟨#[48]⟩)))]=some (.sl 0 0 18 1 (.ex 18),[some (.cells (nameT.map λs=>S (B9 s)))]):=by rfl
 have hm:k.toNat % 18<18:=At8 _ (by omega)
 have e2:Ar .rem (.lit (.int .u8 k.toNat)) (.lit (.int .u8 18))=some (.lit (.int .u8 ((k.toNat % 18:Nat):Int))):=by
  simp[Ar,KV,Int.tmod_eq_emod_of_nonneg]
 rw[e1,e2];simp only[A6,Aa]
 have e3:Bo 1 (.sl 0 0 18 1 (.ex 18)) (.lit (.int .u8 ((k.toNat % 18:Nat):Int)))=some (.ptr 0 (k.toNat % 18)):=by
  simp[Bo,Ni];omega
 have e4:Ap false 1 [some (.cells (nameT.map λs=>S (B9 s)))] (.ptr 0 (k.toNat % 18))=some (S (B9 (Ke k))):=by
  rw[Ai (cs:=nameT.map λs=>S (B9 s)) rfl]
  have:nameT[k.toNat % 18]?=some (Ke k):=by
   unfold Ke;rw[Ai9,DD (show k.toNat % 18<nameT.length by simp[nameT];omega)];rfl
  simp[Ah,this]
 rw[e3];simp only[Aa,e4]))
structure Stp where
 kind:UInt8
 name:UInt8
 to:UInt8
 ino:Int
 pos:Int
 n:Int
 b:List UInt8
 keep:Bool
 bits:List Bool
 inos:List Int
structure StpV where
 s:Stp
 bv:AV
 tv:AV
 iv:AV
 hb:SV FB 1 s.b bv
 ht:SV eX 1 s.bits tv
 hi:SV UR 1 s.inos iv
def Dq (x:StpV):List AV:=[.lit (.int .u8 x.s.kind.toNat),.lit (.int .u8 x.s.name.toNat),.lit (.int .u8 x.s.to.toNat),I x.s.ino,I x.s.pos,I x.s.n,x.bv,B x.s.keep,x.tv,x.iv]
theorem bU (x:StpV):(Dq x).length=10:=rfl
theorem oH (x:StpV):A5 (Dq x)=true:=by simp[Dq,A5,noIds,x.hb.1,x.ht.1,x.hi.1]
def VO (x:Stp):Prop:=(60<x.b.length∧x.b.length≠4097)∨(200<x.n∧x.n≤32768)∨200<x.bits.length∨30<x.inos.length
instance (x:Stp):Decidable (VO x):=by unfold VO;infer_instance
def qU (l:List StpV)(most:Int):Prop:=(l.length:Int)≤most∧∀x∈l,¬VO x.s
instance (l:List StpV) (most:Int):Decidable (qU l most):=by unfold qU;infer_instance
theorem zdmlZ (H:AH):AC H (.agg [u0Z,u0Z,u0Z,(I 0),(I 0),(I 0),Ad,(B false),Ad,Ad])=some (.ptr H.length 0,H++[some (.cells [.lit (.int .u8 0),.lit (.int .u8 0),.lit (.int .u8 0),I 0,I 0,I 0,Ad,B false,Ad,Ad])]):=by simp
theorem zdplZ (H:AH)(x:StpV):AP 10 (H++[some (.cells [.lit (.int .u8 0),.lit (.int .u8 0),.lit (.int .u8 0),I 0,I 0,I 0,Ad,B false,Ad,Ad])]) (.ptr H.length 0) (.agg (Dq x))=some (H++[some (.cells (Dq x))]):=by
 have o1:=SV.oneA x.hb;have o2:=SV.oneA x.ht;have o3:=SV.oneA x.hi;rw[AK (n:=10) (xs:=Dq x) (cs:=[.lit (.int .u8 0),.lit (.int .u8 0),.lit (.int .u8 0),I 0,I 0,I 0,Ad,B false,Ad,Ad]) (by simp[Dq,o1,o2,o3]) (by simp) rfl (by simp)];simp[Bm,Dq]
theorem rdP (x:StpV)(t:List AV)(H:AH):Ap true 10 H (.ip (Dq x++t))=some (.agg (Dq x)):=rfl
theorem zddgZ {l:List StpV}{v:AV}(hv:SV Dq 10 l v)(hl:l.length≤9223372036854775807)(most:Int):BPure prog 28 [v,I most] (B (decide (qU l most))):=BPure.val (by simp[A5,noIds,hv.1]) rfl (Wt (by
 unfold SD;simp only[hv.len,Aa6,Du]
 by_cases c0:most<(l.length:Int)
 ·simp only[c0,Ad1]
  rw[decide_eq_false (λq=>by have:=q.1;omega)]
 ·simp only[c0,Ab7]
  refine QP (λm x0 x5 H'=>∃j:Nat,j+m=l.length∧v=x0∧x5=I j∧∀(i:Nat) y,i<j→l[i]?=some y→¬VO y.s) ?_ l.length ⟨0,by omega,rfl,rfl,by omega⟩;rintro m x0 x5 H2 R hR ⟨j,hj,rfl,rfl,hall⟩;unfold Ml;simp only[hv.len,Ac0];rcases Ai0 j l.length with hlt | hge
  ·have hx:=DD hlt
   generalize l[j]=x at hx;have jI:(j:Int)<(l.length:Int):=by omega
   have q2:Ar .add (I (j:Int)) (I 1)=some (I ((j+1:Nat):Int)):=by rw[Au (by omega) (by omega)];congr 3
   have i5:(Dq x)[5]?=some (I x.s.n):=rfl;have i6:(Dq x)[6]?=some x.bv:=rfl;have i8:(Dq x)[8]?=some x.tv:=rfl;have i9:(Dq x)[9]?=some x.iv:=rfl;simp only[jI,Ad1,hv.idx bU hx rfl,Ab5,rdP,zdmlZ,Ae5,zdplZ,Ai Dk,i6,x.hb.len,Du,AU]
   have no:VO x.s→B false=B (decide (qU l most)):=λh=>by
    rw[decide_eq_false (λq=>q.2 x (Ah7 hx) h)]
   have yes:¬VO x.s→∀H',R [v,I ((j+1:Nat):Int)] H':=λh H'=>hR (m - 1) _ _ _ (by omega) ⟨j+1,by omega,rfl,rfl,λi y hi hy=>by
    by_cases e:i=j
    ·subst e;rw[hx]at hy;injection hy with hy;subst hy;exact h
    ·exact hall i y (by omega) hy⟩
   -- bytes
   have rest:¬(60<x.s.b.length∧x.s.b.length≠4097)→¬(200<x.s.n∧x.s.n≤32768)→
     bO (some (B false)) (λv37=>bG v37 false λw38=>gO w38 (Ab 8 (.ptr H2.length 0)) λv39=>bG v37 false λw40=>gO w40 (Ap false 1 (H2++[some (AObj.cells (Dq x))]) v39) λv41=>bG v37 false λw42=>gO w42 (AL v41) λv43=>bG v37 false λw44=>gO w44 (Ar .gtr v43 (I 200)) λv45=>
     bO (A0 v37 (B true) v45) λv46=>bG v46 false λw47=>gO w47 (Ab 9 (.ptr H2.length 0)) λv48=>bG v46 false λw49=>gO w49 (Ap false 1 (H2++[some (AObj.cells (Dq x))]) v48) λv50=>bG v46 false λw51=>gO w51 (AL v50) λv52=>bG v46 false λw53=>gO w53 (Ar .gtr v52 (I 30)) λv54=>
     bO (A0 v46 (B true) v54) λv55=>bB v55 λt56=>bI t56 (B false=B (decide (qU l most))) (bO (Ar .add (I j) (I 1)) λv57=>R [v,v57] (H2++[some (AObj.cells (Dq x))]))):=by
    intro h1 h2
    by_cases h3:(200:Int)<(x.s.bits.length:Int)
    ·simp only[Aa6,Ae2,Ab4,Ai Dk,i8,x.ht.len,Du,h3,An,show((true==false)=false)from rfl,BY,As]
     exact no (.inr (.inr (.inl (by omega))))
    ·by_cases h4:(30:Int)<(x.s.inos.length:Int)
     ·simp only[Aa6,Ac8,Ab4,Ai Dk,i8,x.ht.len,Du,h3,Dd,An,i9,x.hi.len,h4,Ad1]
      exact no (.inr (.inr (.inr (by omega))))
     ·simp only[Aa6,Ac8,Ab4,Ai Dk,i8,x.ht.len,Du,h3,Ab7,An,i9,x.hi.len,h4,q2]
      exact yes (by rintro(q | q | q | q);exact h1 q;exact h2 q;omega;omega) _
   -- numbers
   have mid:¬(60<x.s.b.length∧x.s.b.length≠4097)→
     bO (some (B false)) (λv20=>bG v20 false λw21=>gO w21 (Ab 5 (.ptr H2.length 0)) λv22=>bG v20 false λw23=>gO w23 (Ap false 1 (H2++[some (AObj.cells (Dq x))]) v22) λv24=>bG v20 false λw25=>gO w25 (Ar .gtr v24 (I 200)) λv26=>bG v20 false λw27=>gO w27 (some v26) λv28=>bG v28 true λw29=>gO w29 (Ab 5 (.ptr H2.length 0)) λv30=>bG v28 true λw31=>gO w31 (Ap false 1 (H2++[some (AObj.cells (Dq x))]) v30) λv32=>bG v28 true λw33=>gO w33 (Ar .leq v32 (I 32768)) λv34=>bG v20 false λw35=>gO w35 (A0 v28 v34 (B false)) λv36=>bO (A0 v20 (B true) v36) λv37=>
     bG v37 false λw38=>gO w38 (Ab 8 (.ptr H2.length 0)) λv39=>bG v37 false λw40=>gO w40 (Ap false 1 (H2++[some (AObj.cells (Dq x))]) v39) λv41=>bG v37 false λw42=>gO w42 (AL v41) λv43=>bG v37 false λw44=>gO w44 (Ar .gtr v43 (I 200)) λv45=>
     bO (A0 v37 (B true) v45) λv46=>bG v46 false λw47=>gO w47 (Ab 9 (.ptr H2.length 0)) λv48=>bG v46 false λw49=>gO w49 (Ap false 1 (H2++[some (AObj.cells (Dq x))]) v48) λv50=>bG v46 false λw51=>gO w51 (AL v50) λv52=>bG v46 false λw53=>gO w53 (Ar .gtr v52 (I 30)) λv54=>
     bO (A0 v46 (B true) v54) λv55=>bB v55 λt56=>bI t56 (B false=B (decide (qU l most))) (bO (Ar .add (I j) (I 1)) λv57=>R [v,v57] (H2++[some (AObj.cells (Dq x))]))):=by
    intro h1
    by_cases h2:200<x.s.n
    ·by_cases h3:x.s.n≤32768
     ·simp only[Aa6,Ae2,Ab4,Ai Dk,i5,Du,h2,sS,h3,An,show((true==false)=false)from rfl,BY,As]
      exact no (.inr (.inl ⟨h2,h3⟩))
     ·simp only[Ab5,Ae2,Ai Dk,i5,Du,h2,sS,h3,Dd,An]
      have:=rest h1 (λq=>h3 q.2)
      simp only[Ab5,AU,Aa0,Ai Dk]at this⊢;exact this
    ·simp only[Ab5,Ac8,Ai Dk,i5,Du,h2,Dd,show((false==true)=false)from rfl,BY,An]
     have:=rest h1 (λq=>h2 q.1)
     simp only[Ab5,AU,Aa0,Ai Dk]at this⊢;exact this
   by_cases h1:(60:Int)<(x.s.b.length:Int)
   ·by_cases h2:(x.s.b.length:Int)=4097
    ·have e2:decide ((x.s.b.length:Int)≠4097)=false:=by simp[h2]
     have:=mid (λq=>by omega)
     simp only[h1,Ae2,Ab5,Ai Dk,i6,x.hb.len,B6,e2]at this⊢;exact this
    ·simp only[h1,Ad4,Ac8,Aa6,Ai Dk,Ah,i6,x.hb.len,B6,h2,yZ,show((true==false)=false)from rfl,BY]
     exact no (.inl ⟨by omega,by omega⟩)
   ·simp only[h1,Dd,show((false==true)=false)from rfl,BY,Aa,A2,An]
    have:=mid (λq=>by omega)
    simp only[Aa,AU,Aa0,At]at this⊢;exact this
  ·have jI:¬(j:Int)<(l.length:Int):=by omega
   simp only[jI,Ab7];rw[decide_eq_true];refine⟨by omega,λx hx=>?_⟩;obtain⟨i,hi⟩:=Aj2.1 hx;exact hall i x (by have:=(BE.1 hi).1;omega) hi))
def Eo (s:StS)(x:Stp):StS:=
 if x.kind.toNat % 16=0∨x.kind.toNat % 16=1 then(Bq s (Ke x.name) (decide (x.kind.toNat % 16=0))).2
 else if x.kind.toNat % 16=2∨x.kind.toNat % 16=3 then(BI s x.ino x.pos x.b).2
 else if x.kind.toNat % 16=5 then(DH s x.ino x.n).2
 else if x.kind.toNat % 16=6 then(RF s x.ino x.pos x.n x.keep).2
 else if x.kind.toNat % 16=7 then(RX s x.ino x.pos x.n).2
 else if x.kind.toNat % 16=8 then(NR s (Ke x.name) (Ke x.to)).2
 else if x.kind.toNat % 16=9 then(XB s (Ke x.name)).2
 else if x.kind.toNat % 16=10 then(JH s x.inos).2
 else if x.kind.toNat % 16=11 then(JH s []).2
 else if x.kind.toNat % 16=12 then(JH s [x.ino]).2
 else if x.kind.toNat % 16=13 then mR s x.n
 else if x.kind.toNat % 16=14 then XD s x.bits
 else s
theorem xR {N:Nat}{s:StS}(h:SW N s)(ino pos:Int){b:List UInt8}(hb:b.length≤60∨b.length=4097):SW (N+4099) (BI s ino pos b).2:=by
 rcases hb with hb | hb
 ·exact(XV h ino pos b).mono (by omega)
 ·unfold BI
  split
  ·exact h.mono (by omega)
  ·rw[if_pos (by unfold V8;omega)]
   exact h.mono (by omega)
theorem zS {N:Nat}{s:StS}(h:SW N s){x:Stp}(hx:¬VO x)(hn:x.n≤9223372036854775807):SW (N+4099) (Eo s x):=by
 unfold VO at hx;unfold Eo
 by_cases k0:x.kind.toNat % 16=0∨x.kind.toNat % 16=1
 ·rw[if_pos k0];exact(X2 h _ _).mono (by omega)
 rw[if_neg k0]
 by_cases k1:x.kind.toNat % 16=2∨x.kind.toNat % 16=3
 ·rw[if_pos k1];exact xR h _ _ (by omega)
 rw[if_neg k1]
 by_cases k2:x.kind.toNat % 16=5
 ·rw[if_pos k2];exact(XO h _ _).mono (by omega)
 rw[if_neg k2]
 by_cases k3:x.kind.toNat % 16=6
 ·rw[if_pos k3];exact yQ h _ _ _ _
 rw[if_neg k3]
 by_cases k4:x.kind.toNat % 16=7
 ·rw[if_pos k4];exact(zdecZ h _ _ _).mono (by omega)
 rw[if_neg k4]
 by_cases k5:x.kind.toNat % 16=8
 ·rw[if_pos k5];exact(zdkvZ h _ _).mono (by omega)
 rw[if_neg k5]
 by_cases k6:x.kind.toNat % 16=9
 ·rw[if_pos k6];exact(zdkuZ h _).mono (by omega)
 rw[if_neg k6]
 by_cases k7:x.kind.toNat % 16=10
 ·rw[if_pos k7];exact(aD h _).mono (by omega)
 rw[if_neg k7]
 by_cases k8:x.kind.toNat % 16=11
 ·rw[if_pos k8];exact(aD h _).mono (by omega)
 rw[if_neg k8]
 by_cases k9:x.kind.toNat % 16=12
 ·rw[if_pos k9];exact(aD h _).mono (by omega)
 rw[if_neg k9]
 by_cases k10:x.kind.toNat % 16=13
 ·rw[if_pos k10];exact(yV h hn).mono (by omega)
 rw[if_neg k10]
 by_cases k11:x.kind.toNat % 16=14
 ·rw[if_pos k11];exact(zdhaZ h _).mono (by omega)
 rw[if_neg k11];exact h.mono (by omega)
theorem Y5 (k:UInt8):(Ke k).length≤100:=by
 have hm:k.toNat % 18<18:=At8 _ (by omega);have:∀i,i<18→(nameT.getD i []).length≤100:=by decide
 exact this _ hm
theorem ZO {a b:Int}:Ar .eql (.lit (.int .u8 a)) (.lit (.int .u8 b))=some (B (decide (a=b))):=BJ
theorem CG:(∀(x:AV) (K:AV→Prop),bO (some x) K=K x)∧(∀(b:Bool) (K:Bool→Prop),bB (.lit (.bool b)) K=K b)∧(∀(a b:Prop),bI true a b=a)∧(∀(a b:Prop),bI false a b=b)∧(∀h:Decidable True,@decide True h=true)∧(∀h:Decidable False,@decide False h=false)∧(∀a b:Int,Ar .eql (.lit (.int .u8 a)) (.lit (.int .u8 b))=some (B (decide (a=b))))∧((0:Nat):Int)=0∧((1:Nat):Int)=1:=
 ⟨λ_ _=>Aa,λ_ _=>Aj,λ_ _=>As,λ_ _=>Ak,λ_=>decide_eq_true trivial,λ_=>decide_eq_false id,λ_ _=>BJ,rfl,rfl⟩
theorem fZ {x:Int}:Qo 1 1 (B4 [(I 0)] 1) [(0,1,I x)]=some (.imm [I x] 1 1):=by simp[Qo,B4,Bm]
abbrev Aa7:=And.intro @CG @Int.cast_ofNat_Int
abbrev Af0:=And.intro @Ab5 @Int.cast_ofNat_Int
abbrev Ah0:=And.intro (And.intro @Aa @true_and) @BJ
theorem zdoyZ {N:Nat}{s:StS}{os od:Nat}{p q:AV}{H:AH}(h:Duo s s os od p q H)(hw:SW N s)(hN:N+40000≤900000)(x:StpV)(hx:¬VO x.s)(hnn:x.s.n≤9223372036854775807):
  ∃r H',(r=B true∧∃p' q',Duo (Eo s x.s) (Eo s x.s) os od p' q' H')∧BCall prog 30 [.ptr os 0,.ptr od 0,.agg (Dq x)] H r H':=XH (by
 unfold Us;have o1:=SV.oneA x.hb;have o2:=SV.oneA x.ht;have o3:=SV.oneA x.hi;have hkt:=x.s.kind.toNat_lt;have e1:AC H (.agg (Dq x))=some (.ptr H.length 0,H++[some (.cells (Dq x))]):=by simp[Dq,o1,o2,o3]
 have g:=Grew.app H [some (.cells (Dq x))];have duo1:=h.grew g;have c5:(H++[some (AObj.cells (Dq x))])[H.length]?=some (some (.cells (Dq x))):=Dk;have xl:H.length<(H++[some (AObj.cells (Dq x))]).length:=by simp
 have xn:H.length≠os:=by have:=h.P.os_lt;omega
 have xp:H.length∉AM p:=λz=>by have:=h.P.p_lt _ z;omega
 have nb:=Y5 x.s.name;have nt:=Y5 x.s.to;have hbn:=x.hb.noId;have htn:=x.ht.noId;have hin:=x.hi.noId;unfold VO at hx;rw[e1,A6];generalize (H++[some (AObj.cells (Dq x))])=H1 at*;have i0:(Dq x)[0]?=some (.lit (.int .u8 x.s.kind.toNat)):=rfl;have i1:(Dq x)[1]?=some (.lit (.int .u8 x.s.name.toNat)):=rfl;have i2:(Dq x)[2]?=some (.lit (.int .u8 x.s.to.toNat)):=rfl;have i3:(Dq x)[3]?=some (I x.s.ino):=rfl;have i4:(Dq x)[4]?=some (I x.s.pos):=rfl;have i5:(Dq x)[5]?=some (I x.s.n):=rfl;have i6:(Dq x)[6]?=some (x.bv):=rfl;have i7:(Dq x)[7]?=some (B x.s.keep):=rfl;have i8:(Dq x)[8]?=some (x.tv):=rfl;have i9:(Dq x)[9]?=some (x.iv):=rfl
 have er:Ar .rem (.lit (.int .u8 x.s.kind.toNat)) (.lit (.int .u8 16))=some (.lit (.int .u8 ((x.s.kind.toNat % 16:Nat):Int))):=by
  have:Ar .rem (.lit (.int .u8 (x.s.kind.toNat:Int))) (.lit (.int .u8 (16:Nat)))=some (.lit (.int .u8 ((x.s.kind.toNat % 16:Nat):Int))):=by rw[U3 (by omega) (by omega)];congr 3
  exact this
 have hk16:x.s.kind.toNat % 16<16:=At8 _ (by omega);simp only[Ab5,Ai c5,i0,i1,i2];refine bP_of (pR x.s.name) ?_
 try simp only[Ab5,Ai c5,i0,i1,i2,i3,i4,i5,i6,i7,i8,i9]
 refine bP_of (pR x.s.to) ?_
 try simp only[Aa,er]
 have fin:∀(s':StS) (p' q':AV) (H':AH),Duo s' s' os od p' q' H'→Eo s x.s=s'→(B true:AV)=B true∧∃p' q',Duo (Eo s x.s) (Eo s x.s) os od p' q' H':=by
  intro s' p' q' H' hd e;rw[e];exact⟨rfl,p',q',hd⟩
 have hds:=Eo s x.s;obtain⟨k,hk⟩:∃k,x.s.kind.toNat % 16=k:=⟨_,rfl⟩;rw[hk]at hk16 er
 
 simp only[hk];have hcases:k=0∨k=1∨k=2∨k=3∨k=4∨k=5∨k=6∨k=7∨k=8∨k=9∨k=10∨k=11∨k=12∨k=13∨k=14∨k=15:=by omega
 rcases hcases with rfl | rfl | rfl | rfl | rfl | rfl | rfl | rfl | rfl | rfl | rfl | rfl | rfl | rfl | rfl | rfl
 ·simp only[Int.reduceEq,Aa7]
  rw[AX];unfold AW;simp only[Int.reduceEq,CG]
  try simp only[Af0,Ai c5,i0,er,ZO,CL]
  obtain⟨r,H2,⟨rfl,p2,st2,f2⟩,hc⟩:=pS duo1.P hw (by omega) (name:=Ke x.s.name) (by omega) true;refine bC_of hc ?_;have duo2:=duo1.stepP st2 f2;have c6:H2[H.length]?=some (some (.cells (Dq x))):=by rw[f2.same _ xl xn xp];exact c5
  simp only[Ad5];rw[Mj];unfold Iy
  try simp only[Af0,Ai c6,i0,er,ZO,CL]
  obtain⟨r,H3,⟨rfl,q3,ds3,f3⟩,hc⟩:=iX duo2.D hw (by omega) (name:=Ke x.s.name) (by omega) true;refine bC_of hc ?_;have duo3:=duo2.stepD ds3 f3;simp only[Ad5];rw[Mk];unfold Iz
  try simp only[Ah0,Ae2]
  exact(fin _ _ _ _ duo3 (by unfold Eo;simp[hk])).2
 ·simp only[Int.reduceEq,Aa7]
  rw[AX];unfold AW;simp only[Int.reduceEq,CG]
  try simp only[Af0,Ai c5,i0,er,ZO,Int.reduceEq,Dd]
  obtain⟨r,H2,⟨rfl,p2,st2,f2⟩,hc⟩:=pS duo1.P hw (by omega) (name:=Ke x.s.name) (by omega) false;refine bC_of hc ?_;have duo2:=duo1.stepP st2 f2;have c6:H2[H.length]?=some (some (.cells (Dq x))):=by rw[f2.same _ xl xn xp];exact c5
  simp only[Ad5];rw[Mj];unfold Iy
  try simp only[Af0,Ai c6,i0,er,ZO,Int.reduceEq,Dd]
  obtain⟨r,H3,⟨rfl,q3,ds3,f3⟩,hc⟩:=iX duo2.D hw (by omega) (name:=Ke x.s.name) (by omega) false;refine bC_of hc ?_;have duo3:=duo2.stepD ds3 f3;simp only[Ad5];rw[Mk];unfold Iz
  try simp only[Ah0,Ae2]
  exact(fin _ _ _ _ duo3 (by unfold Eo;simp[hk])).2
 ·simp only[Int.reduceEq,Aa7]
  rw[AX];unfold AW;simp only[CG];rw[Bc];unfold Ba;simp only[Int.reduceEq,CG];rw[Bh];unfold Bg;simp only[Int.reduceEq,CG]
  try simp only[Ab5,Ai c5,i3,i4,i6]
  obtain⟨r,H2,⟨rfl,p2,st2,f2⟩,hc⟩:=jA duo1.P hw x.s.ino x.s.pos (by omega) (x.hb.bytes _) (by rw[hbn];simp);refine bC_of hc ?_;have duo2:=duo1.stepP st2 f2;have c6:H2[H.length]?=some (some (.cells (Dq x))):=by rw[f2.same _ xl xn xp];exact c5
  simp only[Ad5];rw[Lb];unfold Hg
  try simp only[Ab5,Ai c6,i3,i4,i6]
  obtain⟨r,H3,⟨rfl,q3,ds3,f3⟩,hc⟩:=aH duo2.D hw x.s.ino x.s.pos (by omega) x.hb;refine bC_of hc ?_;have duo3:=duo2.stepD ds3 f3;simp only[Ad5];rw[Lc];unfold Hh
  try simp only[Ah0,Ae2]
  exact(fin _ _ _ _ duo3 (by unfold Eo;simp[hk])).2
 ·simp only[Int.reduceEq,Aa7]
  rw[AX];unfold AW;simp only[Int.reduceEq,CG];rw[Bc];unfold Ba;simp only[CG];rw[Bh];unfold Bg;simp only[Int.reduceEq,CG]
  try simp only[Ab5,Ai c5,i3,i4,i6]
  obtain⟨r,H2,⟨rfl,p2,st2,f2⟩,hc⟩:=jA duo1.P hw x.s.ino x.s.pos (by omega) (x.hb.bytes _) (by rw[hbn];simp);refine bC_of hc ?_;have duo2:=duo1.stepP st2 f2;have c6:H2[H.length]?=some (some (.cells (Dq x))):=by rw[f2.same _ xl xn xp];exact c5
  simp only[Ad5];rw[Lb];unfold Hg
  try simp only[Ab5,Ai c6,i3,i4,i6]
  obtain⟨r,H3,⟨rfl,q3,ds3,f3⟩,hc⟩:=aH duo2.D hw x.s.ino x.s.pos (by omega) x.hb;refine bC_of hc ?_;have duo3:=duo2.stepD ds3 f3;simp only[Ad5];rw[Lc];unfold Hh
  try simp only[Ah0,Ae2]
  exact(fin _ _ _ _ duo3 (by unfold Eo;simp[hk])).2
 ·simp only[Int.reduceEq,Aa7]
  rw[AX];unfold AW;simp only[Int.reduceEq,CG];rw[Bc];unfold Ba;simp only[Int.reduceEq,CG];rw[Bh];unfold Bg;simp only[CG];rw[Bp];unfold Bl;simp only[Int.reduceEq,CG];simp only[Ab5,Ai c5,i3,i4,i5];obtain⟨R1,hR1,r,H2,⟨rfl,g2⟩,hc⟩:=pX duo1.P hw (by omega) x.s.ino x.s.pos x.s.n;refine bC_of hc ?_;have duo2:=duo1.grew g2;have c6:=g2.cells c5;simp only[Ad5];rw[SS];unfold LY;simp only[Ab5,Ai c6,i3,i4,i5];obtain⟨R2,hR2,r,H3,⟨rfl,g3⟩,hc⟩:=sN duo2.D hw (by omega) x.s.ino x.s.pos x.s.n;refine bC_of hc ?_;simp only[Ad5];rw[ST];unfold LZ;simp only[Qp (hR1.bytes H3),Qp (hR2.bytes H3),Nh,Ah0,Ae2];exact(fin _ _ _ _ (duo2.grew g3) (by unfold Eo;simp[hk])).2
 ·simp only[Int.reduceEq,Aa7]
  rw[AX];unfold AW;simp only[Int.reduceEq,CG];rw[Bc];unfold Ba;simp only[Int.reduceEq,CG];rw[Bh];unfold Bg;simp only[Int.reduceEq,CG];rw[Bp];unfold Bl;simp only[CG];rw[Bw];unfold Bv;simp only[Int.reduceEq,CG]
  try simp only[Ab5,Ai c5,i3,i5]
  obtain⟨r,H2,⟨rfl,p2,st2,f2⟩,hc⟩:=sQ duo1.P hw (by omega) x.s.ino x.s.n;refine bC_of hc ?_;have duo2:=duo1.stepP st2 f2;have c6:H2[H.length]?=some (some (.cells (Dq x))):=by rw[f2.same _ xl xn xp];exact c5
  try simp only[Ah2,Ai c6,i3,i5]
  obtain⟨r,H3,⟨rfl,q3,ds3,f3⟩,hc⟩:=mA duo2.D hw (by omega) x.s.ino x.s.n;refine bC_of hc ?_;have duo3:=duo2.stepD ds3 f3
  try simp only[Ah0,CL]
  exact(fin _ _ _ _ duo3 (by unfold Eo;simp[hk])).2
 ·simp only[Int.reduceEq,Aa7]
  rw[AX];unfold AW;simp only[Int.reduceEq,CG];rw[Bc];unfold Ba;simp only[Int.reduceEq,CG];rw[Bh];unfold Bg;simp only[Int.reduceEq,CG];rw[Bp];unfold Bl;simp only[Int.reduceEq,CG];rw[Bw];unfold Bv;simp only[CG];rw[B3];unfold B1;simp only[Int.reduceEq,CG]
  try simp only[Ab5,Ai c5,i3,i4,i5,i7]
  obtain⟨r,H2,⟨rfl,p2,st2,f2⟩,hc⟩:=zdfjZ duo1.P hw (by omega) x.s.ino x.s.pos x.s.n x.s.keep;refine bC_of hc ?_;have duo2:=duo1.stepP st2 f2;have c6:H2[H.length]?=some (some (.cells (Dq x))):=by rw[f2.same _ xl xn xp];exact c5
  try simp only[Ah2,Ai c6,i3,i4,i5,i7]
  obtain⟨r,H3,⟨rfl,q3,ds3,f3⟩,hc⟩:=xW duo2.D hw (by omega) x.s.ino x.s.pos x.s.n x.s.keep;refine bC_of hc ?_;have duo3:=duo2.stepD ds3 f3
  try simp only[Ah0,CL]
  exact(fin _ _ _ _ duo3 (by unfold Eo;simp[hk])).2
 ·simp only[Int.reduceEq,Aa7]
  rw[AX];unfold AW;simp only[Int.reduceEq,CG];rw[Bc];unfold Ba;simp only[Int.reduceEq,CG];rw[Bh];unfold Bg;simp only[Int.reduceEq,CG];rw[Bp];unfold Bl;simp only[Int.reduceEq,CG];rw[Bw];unfold Bv;simp only[Int.reduceEq,CG];rw[B3];unfold B1;simp only[CG];rw[BF];unfold BB;simp only[Int.reduceEq,CG]
  try simp only[Ab5,Ai c5,i3,i4,i5]
  obtain⟨r,H2,⟨rfl,p2,st2,f2⟩,hc⟩:=zdfoZ duo1.P hw (by omega) x.s.ino x.s.pos x.s.n;refine bC_of hc ?_;have duo2:=duo1.stepP st2 f2;have c6:H2[H.length]?=some (some (.cells (Dq x))):=by rw[f2.same _ xl xn xp];exact c5
  try simp only[Ah2,Ai c6,i3,i4,i5]
  obtain⟨r,H3,⟨rfl,q3,ds3,f3⟩,hc⟩:=xY duo2.D hw (by omega) x.s.ino x.s.pos x.s.n;refine bC_of hc ?_;have duo3:=duo2.stepD ds3 f3
  try simp only[Ah0,CL]
  exact(fin _ _ _ _ duo3 (by unfold Eo;simp[hk])).2
 ·simp only[Int.reduceEq,Aa7]
  rw[AX];unfold AW;simp only[Int.reduceEq,CG];rw[Bc];unfold Ba;simp only[Int.reduceEq,CG];rw[Bh];unfold Bg;simp only[Int.reduceEq,CG];rw[Bp];unfold Bl;simp only[Int.reduceEq,CG];rw[Bw];unfold Bv;simp only[Int.reduceEq,CG];rw[B3];unfold B1;simp only[Int.reduceEq,CG];rw[BF];unfold BB;simp only[CG];rw[BO];unfold BM;simp only[Int.reduceEq,CG]
  try simp only[Ab5,Ai c5,i0,i1,i2,i3,i4,i5,i6,i7,i8,i9]
  obtain⟨r,H2,⟨rfl,p2,st2,f2⟩,hc⟩:=yA duo1.P hw (by omega) (name:=Ke x.s.name) (to:=Ke x.s.to) (by omega) (by omega);refine bC_of hc ?_;have duo2:=duo1.stepP st2 f2;have c6:H2[H.length]?=some (some (.cells (Dq x))):=by rw[f2.same _ xl xn xp];exact c5
  try simp only[Ab5,Ai c6,i0,i1,i2,i3,i4,i5,i6,i7,i8,i9]
  obtain⟨r,H3,⟨rfl,q3,ds3,f3⟩,hc⟩:=vD duo2.D hw (by omega) (name:=Ke x.s.name) (to:=Ke x.s.to) (by omega) (by omega);refine bC_of hc ?_;have duo3:=duo2.stepD ds3 f3
  try simp only[Ah0,CL]
  exact(fin _ _ _ _ duo3 (by unfold Eo;simp[hk])).2
 ·simp only[Int.reduceEq,Aa7]
  rw[AX];unfold AW;simp only[Int.reduceEq,CG];rw[Bc];unfold Ba;simp only[Int.reduceEq,CG];rw[Bh];unfold Bg;simp only[Int.reduceEq,CG];rw[Bp];unfold Bl;simp only[Int.reduceEq,CG];rw[Bw];unfold Bv;simp only[Int.reduceEq,CG];rw[B3];unfold B1;simp only[Int.reduceEq,CG];rw[BF];unfold BB;simp only[Int.reduceEq,CG];rw[BO];unfold BM;simp only[CG];rw[Cr];unfold BZ;simp only[Int.reduceEq,CG]
  try simp only[Ab5,Ai c5,i0,i1,i2,i3,i4,i5,i6,i7,i8,i9]
  obtain⟨r,H2,⟨rfl,p2,st2,f2⟩,hc⟩:=xZ duo1.P hw (by omega) (name:=Ke x.s.name) (by omega);refine bC_of hc ?_;have duo2:=duo1.stepP st2 f2;have c6:H2[H.length]?=some (some (.cells (Dq x))):=by rw[f2.same _ xl xn xp];exact c5
  try simp only[Ab5,Ai c6,i0,i1,i2,i3,i4,i5,i6,i7,i8,i9]
  obtain⟨r,H3,⟨rfl,q3,ds3,f3⟩,hc⟩:=vC duo2.D hw (by omega) (name:=Ke x.s.name) (by omega);refine bC_of hc ?_;have duo3:=duo2.stepD ds3 f3
  try simp only[Ah0,CL]
  exact(fin _ _ _ _ duo3 (by unfold Eo;simp[hk])).2
 ·simp only[Int.reduceEq,Aa7]
  rw[AX];unfold AW;simp only[Int.reduceEq,CG];rw[Bc];unfold Ba;simp only[Int.reduceEq,CG];rw[Bh];unfold Bg;simp only[Int.reduceEq,CG];rw[Bp];unfold Bl;simp only[Int.reduceEq,CG];rw[Bw];unfold Bv;simp only[Int.reduceEq,CG];rw[B3];unfold B1;simp only[Int.reduceEq,CG];rw[BF];unfold BB;simp only[Int.reduceEq,CG];rw[BO];unfold BM;simp only[Int.reduceEq,CG];rw[Cr];unfold BZ;simp only[CG];rw[CQ];unfold C6;simp only[Int.reduceEq,CG]
  try simp only[Ab5,Ai c5,i9]
  obtain⟨r,H2,⟨rfl,p2,st2,f2⟩,hc⟩:=iZ duo1.P hw (by omega) (x.hi.2 _) (by rw[hin];simp) (by omega);refine bC_of hc ?_;have duo2:=duo1.stepP st2 f2;have c6:H2[H.length]?=some (some (.cells (Dq x))):=by rw[f2.same _ xl xn xp];exact c5
  try simp only[Ah2,Ai c6,i9]
  obtain⟨r,H3,⟨rfl,q3,ds3,f3⟩,hc⟩:=iY duo2.D hw (by omega) x.hi (by omega);refine bC_of hc ?_;have duo3:=duo2.stepD ds3 f3
  try simp only[Ah0,CL]
  exact(fin _ _ _ _ duo3 (by unfold Eo;simp[hk])).2
 ·simp only[Int.reduceEq,Aa7]
  rw[AX];unfold AW;simp only[Int.reduceEq,CG];rw[Bc];unfold Ba;simp only[Int.reduceEq,CG];rw[Bh];unfold Bg;simp only[Int.reduceEq,CG];rw[Bp];unfold Bl;simp only[Int.reduceEq,CG];rw[Bw];unfold Bv;simp only[Int.reduceEq,CG];rw[B3];unfold B1;simp only[Int.reduceEq,CG];rw[BF];unfold BB;simp only[Int.reduceEq,CG];rw[BO];unfold BM;simp only[Int.reduceEq,CG];rw[Cr];unfold BZ;simp only[Int.reduceEq,CG];rw[CQ];unfold C6;simp only[CG];rw[DB];unfold Di;simp only[Int.reduceEq,CG]
  try simp only[Ab5,Ai c5,i0,i1,i2,i3,i4,i5,i6,i7,i8,i9]
  obtain⟨r,H2,⟨rfl,p2,st2,f2⟩,hc⟩:=iZ duo1.P hw (by omega) (l:=[]) (v:=Ad) rfl (by simp[AM]) (by simp);refine bC_of hc ?_;have duo2:=duo1.stepP st2 f2;have c6:H2[H.length]?=some (some (.cells (Dq x))):=by rw[f2.same _ xl xn xp];exact c5
  try simp only[Ab5,Ai c6,i0,i1,i2,i3,i4,i5,i6,i7,i8,i9]
  obtain⟨r,H3,⟨rfl,q3,ds3,f3⟩,hc⟩:=iY duo2.D hw (by omega) (l:=[]) (v:=Ad) SV.nil (by simp);refine bC_of hc ?_;have duo3:=duo2.stepD ds3 f3
  try simp only[Ah0,CL]
  exact(fin _ _ _ _ duo3 (by unfold Eo;simp[hk])).2
 ·simp only[Int.reduceEq,Aa7]
  rw[AX];unfold AW;simp only[Int.reduceEq,CG];rw[Bc];unfold Ba;simp only[Int.reduceEq,CG];rw[Bh];unfold Bg;simp only[Int.reduceEq,CG];rw[Bp];unfold Bl;simp only[Int.reduceEq,CG];rw[Bw];unfold Bv;simp only[Int.reduceEq,CG];rw[B3];unfold B1;simp only[Int.reduceEq,CG];rw[BF];unfold BB;simp only[Int.reduceEq,CG];rw[BO];unfold BM;simp only[Int.reduceEq,CG];rw[Cr];unfold BZ;simp only[Int.reduceEq,CG];rw[CQ];unfold C6;simp only[Int.reduceEq,CG];rw[DB];unfold Di;simp only[CG];rw[E8];unfold DQ;simp only[Int.reduceEq,CG]
  try simp only[Ab5,Ai c5,i3,fZ]
  obtain⟨r,H2,⟨rfl,p2,st2,f2⟩,hc⟩:=iZ duo1.P hw (by omega) (l:=[x.s.ino]) (v:=.imm [I x.s.ino] 1 1) rfl (by simp[AM]) (by simp);refine bC_of hc ?_;have duo2:=duo1.stepP st2 f2;have c6:H2[H.length]?=some (some (.cells (Dq x))):=by rw[f2.same _ xl xn xp];exact c5
  try simp only[Ah2,Ai c6,i3,fZ]
  obtain⟨r,H3,⟨rfl,q3,ds3,f3⟩,hc⟩:=iY duo2.D hw (by omega) (l:=[x.s.ino]) (v:=.imm [I x.s.ino] 1 1) ⟨rfl,λ_=>rfl⟩ (by simp);refine bC_of hc ?_;have duo3:=duo2.stepD ds3 f3
  try simp only[Ah0,CL]
  exact(fin _ _ _ _ duo3 (by unfold Eo;simp[hk])).2
 ·simp only[Int.reduceEq,Aa7]
  rw[AX];unfold AW;simp only[Int.reduceEq,CG];rw[Bc];unfold Ba;simp only[Int.reduceEq,CG];rw[Bh];unfold Bg;simp only[Int.reduceEq,CG];rw[Bp];unfold Bl;simp only[Int.reduceEq,CG];rw[Bw];unfold Bv;simp only[Int.reduceEq,CG];rw[B3];unfold B1;simp only[Int.reduceEq,CG];rw[BF];unfold BB;simp only[Int.reduceEq,CG];rw[BO];unfold BM;simp only[Int.reduceEq,CG];rw[Cr];unfold BZ;simp only[Int.reduceEq,CG];rw[CQ];unfold C6;simp only[Int.reduceEq,CG];rw[DB];unfold Di;simp only[Int.reduceEq,CG];rw[E8];unfold DQ;simp only[CG];rw[G7];unfold EQ;simp only[Int.reduceEq,CG];simp only[Ab5,Ai c5,i5];obtain⟨r,H2,⟨rfl,st2,f2⟩,hc⟩:=zdhoZ duo1.P x.s.n;refine bC_of hc ?_;have duo2:=duo1.stepP st2 f2;have c6:H2[H.length]?=some (some (.cells (Dq x))):=by rw[f2.same _ xl xn xp];exact c5
  rw[SU];unfold Mb;simp only[Ab5,Ai c6,i5];obtain⟨r,H3,⟨rfl,ds3,f3⟩,hc⟩:=xX duo2.D x.s.n;refine bC_of hc ?_;rw[Ma];unfold Ix;exact fin _ _ _ _ (duo2.stepD ds3 f3) (by unfold Eo;simp[hk])
 ·simp only[Int.reduceEq,Aa7]
  rw[AX];unfold AW;simp only[Int.reduceEq,CG];rw[Bc];unfold Ba;simp only[Int.reduceEq,CG];rw[Bh];unfold Bg;simp only[Int.reduceEq,CG];rw[Bp];unfold Bl;simp only[Int.reduceEq,CG];rw[Bw];unfold Bv;simp only[Int.reduceEq,CG];rw[B3];unfold B1;simp only[Int.reduceEq,CG];rw[BF];unfold BB;simp only[Int.reduceEq,CG];rw[BO];unfold BM;simp only[Int.reduceEq,CG];rw[Cr];unfold BZ;simp only[Int.reduceEq,CG];rw[CQ];unfold C6;simp only[Int.reduceEq,CG];rw[DB];unfold Di;simp only[Int.reduceEq,CG];rw[E8];unfold DQ;simp only[Int.reduceEq,CG];rw[G7];unfold EQ;simp only[CG];rw[Ld];unfold Hi;simp only[CG];simp only[Ab5,Ai c5,i8];obtain⟨r,H2,⟨rfl,st2,f2⟩,hc⟩:=vE duo1.P hw (by omega) (x.ht.2 _) (by rw[htn];simp) (by omega);refine bC_of hc ?_;have duo2:=duo1.stepP st2 f2;have c6:H2[H.length]?=some (some (.cells (Dq x))):=by rw[f2.same _ xl xn xp];exact c5
  rw[SX];unfold Mc;simp only[Ab5,Ai c6,i8];obtain⟨r,H3,⟨rfl,ds3,f3⟩,hc⟩:=pW duo2.D hw (by omega) x.ht (by omega);refine bC_of hc ?_;rw[Ma];unfold Ix;exact fin _ _ _ _ (duo2.stepD ds3 f3) (by unfold Eo;simp[hk])
 ·simp only[Int.reduceEq,Aa7]
  rw[AX];unfold AW;simp only[Int.reduceEq,CG];rw[Bc];unfold Ba;simp only[Int.reduceEq,CG];rw[Bh];unfold Bg;simp only[Int.reduceEq,CG];rw[Bp];unfold Bl;simp only[Int.reduceEq,CG];rw[Bw];unfold Bv;simp only[Int.reduceEq,CG];rw[B3];unfold B1;simp only[Int.reduceEq,CG];rw[BF];unfold BB;simp only[Int.reduceEq,CG];rw[BO];unfold BM;simp only[Int.reduceEq,CG];rw[Cr];unfold BZ;simp only[Int.reduceEq,CG];rw[CQ];unfold C6;simp only[Int.reduceEq,CG];rw[DB];unfold Di;simp only[Int.reduceEq,CG];rw[E8];unfold DQ;simp only[Int.reduceEq,CG];rw[G7];unfold EQ;simp only[Int.reduceEq,CG];rw[Ld];unfold Hi;simp only[CG];simp only[Ab5,Ai c5,i3];obtain⟨r,K1,⟨rfl,g1⟩,hc⟩:=pY duo1.P hw (by omega) x.s.ino;refine bC_of hc ?_;have duo2:=duo1.grew g1;have d1:=g1.cells c5;simp only[Ad5];rw[SY];unfold Md;simp only[Ab5,Ai d1,i3];obtain⟨r,K2,⟨rfl,g2⟩,hc⟩:=sO duo2.D hw (by omega) x.s.ino;refine bC_of hc ?_;have duo3:=duo2.grew g2;have d2:=g2.cells d1;simp only[Ad5];rw[SZ];unfold Me;simp only[Ab5,Ai d2,i3,i4];obtain⟨r,K3,⟨rfl,g3⟩,hc⟩:=xU duo3.P hw (by omega) x.s.ino x.s.pos;refine bC_of hc ?_;have duo4:=duo3.grew g3;have d3:=g3.cells d2;simp only[Ad5];rw[Ta];unfold Mf;simp only[Ab5,Ai d3,i3,i4];obtain⟨r,K4,⟨rfl,g4⟩,hc⟩:=zdfrZ duo4.D hw (by omega) x.s.ino x.s.pos;refine bC_of hc ?_;have duo5:=duo4.grew g4;have d4:=g4.cells d3;simp only[Ad5];rw[Tb];unfold Mg;simp only[Ab5,Ai d4,i3,i4];obtain⟨r,K5,⟨rfl,g5⟩,hc⟩:=xV duo5.P hw (by omega) x.s.ino x.s.pos;refine bC_of hc ?_;have duo6:=duo5.grew g5;have d5:=g5.cells d4;simp only[Ad5];rw[Tc];unfold Mh;simp only[Ab5,Ai d5,i3,i4];obtain⟨r,K6,⟨rfl,g6⟩,hc⟩:=zdfsZ duo6.D hw (by omega) x.s.ino x.s.pos;refine bC_of hc ?_;have duo7:=duo6.grew g6;have d6:=g6.cells d5;simp only[Ad5];rw[Td];unfold Mi;simp only[Ah0,Ae2];exact(fin _ _ _ _ duo7 (by unfold Eo;simp[hk])).2)
abbrev mB:=UInt8×(UInt8×(UInt8×(Int×(Int×(Int×((Sl UInt8)×(Bool×((Sl Bool)×((Sl Int)×Unit)))))))))
theorem zdlbZ (x:Sl Bool)(hn:x.nil=true→x.l=[]):SV eX 1 x.l (if x.nil then .lit (.slice none 0 0)else .imm (x.l.flatMap eX) x.l.length 1):=by
 cases hnil:x.nil with
 | true=>simp only[if_true];rw[hn hnil];exact SV.nil
 | false=>simp only[An];exact SV.imm (λ_=>rfl) (λx hx=>rfl)
theorem sH (x:Sl UInt8)(hn:x.nil=true→x.l=[]):SV FB 1 x.l (if x.nil then .lit (.slice none 0 0)else .imm (x.l.flatMap FB) x.l.length 1):=by
 cases hnil:x.nil with
 | true=>simp only[if_true];rw[hn hnil];exact SV.nil
 | false=>simp only[An];exact SV.imm (λ_=>rfl) (λx hx=>rfl)
theorem zdlcZ (x:Sl Int)(hn:x.nil=true→x.l=[]):SV UR 1 x.l (if x.nil then .lit (.slice none 0 0)else .imm (x.l.flatMap UR) x.l.length 1):=by
 cases hnil:x.nil with
 | true=>simp only[if_true];rw[hn hnil];exact SV.nil
 | false=>simp only[An];exact SV.imm (λ_=>rfl) (λx hx=>rfl)
def zdltZ (x:mB):Prop:=(x.2.2.2.2.2.2.1.nil=true→x.2.2.2.2.2.2.1.l=[])∧(x.2.2.2.2.2.2.2.2.1.nil=true→x.2.2.2.2.2.2.2.2.1.l=[])∧(x.2.2.2.2.2.2.2.2.2.1.nil=true→x.2.2.2.2.2.2.2.2.2.1.l=[])∧x.2.2.2.2.2.1≤9223372036854775807
def zdlhZ (x:mB)(h:zdltZ x):StpV:=⟨⟨x.1,x.2.1,x.2.2.1,x.2.2.2.1,x.2.2.2.2.1,x.2.2.2.2.2.1,x.2.2.2.2.2.2.1.l,x.2.2.2.2.2.2.2.1,x.2.2.2.2.2.2.2.2.1.l,x.2.2.2.2.2.2.2.2.2.1.l⟩,_,_,_,sH _ h.1,zdlbZ _ h.2.1,zdlcZ _ h.2.2.1⟩
def zW (x:mB):List AV:=[.lit (.int .u8 x.1.toNat)]++([.lit (.int .u8 x.2.1.toNat)]++([.lit (.int .u8 x.2.2.1.toNat)]++([I x.2.2.2.1]++([I x.2.2.2.2.1]++([I x.2.2.2.2.2.1]++([if x.2.2.2.2.2.2.1.nil then .lit (.slice none 0 0)else .imm (x.2.2.2.2.2.2.1.l.flatMap FB) x.2.2.2.2.2.2.1.l.length 1]++([B x.2.2.2.2.2.2.2.1]++([if x.2.2.2.2.2.2.2.2.1.nil then .lit (.slice none 0 0)else .imm (x.2.2.2.2.2.2.2.2.1.l.flatMap eX) x.2.2.2.2.2.2.2.2.1.l.length 1]++([if x.2.2.2.2.2.2.2.2.2.1.nil then .lit (.slice none 0 0)else .imm (x.2.2.2.2.2.2.2.2.2.1.l.flatMap UR) x.2.2.2.2.2.2.2.2.2.1.l.length 1]++[])))))))))
theorem iN:∀(l:List mB),(∀x∈l,zdltZ x)→∃m:List StpV,m.length=l.length∧(∀y∈m,y.s.n≤9223372036854775807)∧∀enc:mB→List AV,(∀x (h:zdltZ x),enc x=Dq (zdlhZ x h))→l.flatMap enc=m.flatMap Dq
 | [],_=>⟨[],rfl,by simp,λ_ _=>rfl⟩
 | x::l,h=>by
  obtain⟨m,h1,h2,h3⟩:=iN l λy hy=>h y (by simp[hy])
  have hx:=h x (by simp);refine⟨zdlhZ x hx::m,by simp[h1],λy hy=>?_,λenc he=>?_⟩
  ·rcases Ak6.1 hy with rfl | hy
   ·exact hx.2.2.2
   ·exact h2 y hy
  ·rw[Aj9,Aj9,h3 enc he,he x hx]
theorem zdevZ (s:Sl mB)(hn:s.nil=true→s.l=[])(h:∀x∈s.l,zdltZ x)(enc:mB→List AV)(he:∀x (h:zdltZ x),enc x=Dq (zdlhZ x h)):
  ∃m:List StpV,SV Dq 10 m (if s.nil then .lit (.slice none 0 0)else .imm (s.l.flatMap enc) s.l.length 10)∧m.length=s.l.length∧∀y∈m,y.s.n≤9223372036854775807:=by
 obtain⟨m,h1,h2,h3⟩:=iN s.l h;refine⟨m,?_,h1,h2⟩;cases hnil:s.nil with
 | true=>
  simp only[if_true]
  have:m=[]:=by
   have:=hn hnil
   rw[this]at h1;exact List.length_eq_zero_iff.1 h1
  rw[this];exact SV.nil
 | false=>
  simp only[An];rw[h3 enc he,← h1];exact SV.imm bU λx _=>oH x
theorem zdcyZ {n:Int}(h:IntKind.i64.min≤n∧n≤IntKind.i64.max): -9223372036854775808≤n∧n≤9223372036854775807:=by
 simpa[IntKind.min,IntKind.max,IntKind.signed,IntKind.bits]using h
theorem zdioZ {N:Nat}{s:StS}{os:Nat}{p:AV}{H:AH}(h:StAt s os p H)(hw:SW N s)(hN:N≤900000):∃R,ImV s.kept.1 s.kept.2 R∧∃r H',(r=R∧Grew H H')∧BCall prog 42 [.ptr os 0] H r H':=by
 obtain⟨a,b,c,d,pv,h⟩:=h;obtain⟨m,hm,hk⟩:=hw.kept;obtain⟨R,hR,hp⟩:=pP h.kept (hm.sm (by omega));refine⟨R,hR,Vm ?_⟩;unfold Ro;obtain⟨a',b',rfl,oa,ob⟩:=hR.agg2;have e1:AC H (.agg [Ad,Ad])=some (.ptr H.length 0,H++[some (.cells [Ad,Ad])]):=by simp
 have g:=Grew.app H [some (.cells [Ad,Ad])]
 have e2:AP 2 (H++[some (.cells [Ad,Ad])]) (.ptr H.length 0) (.agg [a',b'])=some (H++[some (.cells [a',b'])]):=by
  rw[AK (n:=2) (xs:=[a',b']) (cs:=[Ad,Ad]) (by simp[oa,ob]) (by simp) rfl (by simp)];simp[Bm]
 simp only[e1,A6,A4,Aa,At,Ai (g.cells h.obj),(zdfhZ _ _ _ _ _ _ _ _ _).2];refine Ay hp ?_;simp only[e2,AF,Ai Dk,dS,Aa];exact⟨by trivial,Grew.app _ _⟩
theorem pT {s:StS}{os:Nat}{p:AV}{H:AH}(h:StAt s os p H):BCall prog 43 [.ptr os 0] H (I s.pend.length) H:=by
 obtain⟨r,H',⟨rfl,rfl⟩,hc⟩:=Se (a0:=.ptr os 0) (H:=H) (K:=λr H'=>r=I s.pend.length∧H'=H) (by
  obtain⟨a,b,c,d,pv,h⟩:=h;have hpn:pv.length=s.pend.length:=by rw[← h.pm,Aj1]
  have alv:AL p=some (I (s.pend.length:Nat)):=by rw[← hpn];exact By h.ps
  unfold MZ;simp only[Ah5,Ai h.obj,alv];exact⟨by trivial,by trivial⟩)
 exact hc
theorem zdfiZ {N:Nat}{s:StS}{os od:Nat}{p q:AV}{H:AH}(h:Duo s s os od p q H)(hw:SW N s)(hN:N≤900000):∃r H',(r=B true∧Grew H H')∧BCall prog 55 [.ptr os 0,.ptr od 0] H r H':=Ur (by
 unfold P2;obtain⟨a,b,c,d,pv,hd⟩:=h.D;have hpn:pv.length=s.pend.length:=by rw[← hd.pm,Aj1]
 obtain⟨km,hkm,hkw⟩:=hw.kept;obtain⟨Rn,hRn,r,H1,⟨rfl,g1⟩,hc⟩:=zdmdZ h.P hw hN;refine bC_of hc ?_;have hP1:=h.P.grew g1;have hD1:=hd.grew g1;obtain⟨Rk,hRk,r,H2,⟨rfl,g2⟩,hc2⟩:=zdioZ hP1 hw hN;have hD2:=hD1.grew g2;have hP2:=hP1.grew g2;have p1:=SB hRn hd.now (hw.now.sm (by omega));have p2:=SB hRk hd.kept (hkm.sm (by omega));rw[sF]at p1 p2;have alw:AL q=some (I (s.pend.length:Nat)):=by rw[← hpn];exact By hd.ps
 have hF:=iW (h.grew (g1.trans g2)).D hw hN;simp only[A4,Aa,At,Ai hd.obj,Ai hD1.obj,xD];refine bP_of p1 ?_;simp only[AU,Aa0,Aa,Ps];refine bC_of hc2 ?_;simp only[A4,Aa,At,Ai hD1.obj,Ai hD2.obj,xD,ZW];refine bP_of p2 ?_;simp only[Ac8,Aa,Ps,if_true];refine bC_of (pT hP2) ?_;simp only[Ah5,Ai hD2.obj,alw,BJ,Ae2,Ps];refine bC_of (pQ hP2 hw hN) ?_;refine bC_of hF ?_;simp only[BJ,Ae2,Aa,Ps];refine bC_of (zdmeZ hP2) ?_;simp only[Ah5,Ai hD2.obj,zdfuZ,Ad1,true_and];exact g1.trans g2)
end
end Go.Proofs.YtadghlcfbajamaaGreat.Av
section
set_option maxHeartbeats 100000
namespace Go.Proofs.YtadghlcfbajamaaGreat.Av
open Go Go.RowKit Go.Proofs.Tryz
noncomputable def lfOps:List Oper:=(X3 (sub [true,true,true,true,true,true,true,false,true,false,false,true,false,false,true,true,false,false] (AG f9))).toList
def zdptZ (x2 x3 x11 x12 x14 x15 x16:AV):List AV:=Bt (mk 136 0 [2,3,11,12,14,15,16]) [x2,x3,x11,x12,x14,x15,x16]
theorem zddhZ:lfOps.length=27:=by kernel_rfl
theorem zdnsZ:ML lfOps=true:=by kernel_rfl
def lfQ (R20:List AV→AH→Prop)(K:AV→AH→Prop):Kf:=(AN (DJ (mk 136 0 [2,3,11,12,14,108]) (AA [true,true,true,true,true,true,true,false,true,false,false,true,false,false,true,true,false,true] 28)) (AN (AA [true,true,true,true,true,true,true,false,true,false,false,true,false,false,true,true,true] 29) (AS 3 (AN (AA [true,true,true,true,true,true,true,false,true,false,false,true,true] 38) (PP (mk 136 0 [2,3,11,12,14]) R20 (AS 2 (AN (AA [true,true,true,true,true,true,true,true] 38) (AR prog f9.results.toList K))))))))
theorem zdnuZ (R20:List AV→AH→Prop)(x2 x3 x11 x12 x14 x15 x16:AV){H:AH}{K:AV→AH→Prop}(h:ACode prog (.region 18 lfOps.toArray true) (lfQ R20 K) (zdptZ x2 x3 x11 x12 x14 x15 x16) H):D6 R20 x2 x3 x11 x12 x14 x15 x16 H K:=unR.mk h
theorem zdpuZ (R20:List AV→AH→Prop)(x2 x3 x11 x12 x14 x15 x16:AV)(vals:Nat→AV)(H:AH)(K:AV→AH→Prop):lfQ R20 K .normal (pt lfOps vals (λ_=>true) (zdptZ x2 x3 x11 x12 x14 x15 x16) 27) H=D5 R20 x2 x3 x11 x12 x14 (vals 26) H K:=by kernel_rfl
def lfNeed:List (List Nat):=[[],[],[],[],[2,3],[],[],[5,6],[4,7],[0,1,8],[],[],[],[],[12,13],[],[],[15,16],[14,17],[9,10,11,18],[9,19],[19,20],[21],[21],[21,22,23],[21,24],[21,25]]
def zdosZ (x2 x3 x11 x12 x14 x15 x16:AV):List ((Nat→AV)→AH→(AV→AH→Prop)→Prop):=[
 λvals H K=>K x11 H,
 λvals H K=>K x15 H,
 λvals H K=>K x3 H,
 λvals H K=>K x16 H,
 λvals H K=>bO (Bf 1 (vals 2) none (some (vals 3)) none) λv=>K v H,
 λvals H K=>K x3 H,
 λvals H K=>K x16 H,
 λvals H K=>bO (Bf 1 (vals 5) (some (vals 6)) none none) λv=>K v H,
 λvals H K=>bO (Qo 1 3 (B4 [Ad] 3) [(0,1,(vals 4)),(1,1,Ad),(2,1,(vals 7))]) λv=>K v H,
 λvals H K=>ACalls prog 53 [(vals 0),(vals 1),(vals 8)] H K,
 λvals H K=>K x12 H,
 λvals H K=>K x15 H,
 λvals H K=>K x3 H,
 λvals H K=>K x16 H,
 λvals H K=>bO (Bf 1 (vals 12) none (some (vals 13)) none) λv=>K v H,
 λvals H K=>K x3 H,
 λvals H K=>K x16 H,
 λvals H K=>bO (Bf 1 (vals 15) (some (vals 16)) none none) λv=>K v H,
 λvals H K=>bO (Qo 1 3 (B4 [Ad] 3) [(0,1,(vals 14)),(1,1,Ad),(2,1,(vals 17))]) λv=>K v H,
 λvals H K=>ACalls prog 54 [(vals 10),(vals 11),(vals 18)] H K,
 λvals H K=>bO (Ar .neq (vals 9) (vals 19)) λv=>K v H,
 λvals H K=>K (vals 20) H,
 λvals H K=>vals 21=B false∧K x11 H,
 λvals H K=>vals 21=B false∧K x12 H,
 λvals H K=>vals 21=B false∧ACalls prog 55 [(vals 22),(vals 23)] H K,
 λvals H K=>vals 21=B false∧bO (Em .not (vals 24)) λv=>K v H,
 λvals H K=>bO (A0 (vals 21) (B true) (vals 25)) λv=>K v H]
theorem zdpsZ (x2 x3 x11 x12 x14 x15 x16:AV):∀i,i<lfOps.length→OpIg prog lfOps (zdptZ x2 x3 x11 x12 x14 x15 x16) i (lfNeed.getD i []) ((zdosZ x2 x3 x11 x12 x14 x15 x16).getD i (λ_ _ _=>False)):=
 OpIg.all (ql:=SR) (fz:=true) zddhZ (by kernel_rfl) (λvals H K=>by kernel_rfl)
theorem zdgsZ (R20:List AV→AH→Prop)(x2 x3 x11 x12 x14 x15 x16:AV){H:AH}{K:AV→AH→Prop}(V:Nat→AV)(HI:(Nat→Bool)→AH→Prop)(h0:HI (λ_=>false) H)
  (hs:∀i,i<27→∀(S:Nat→Bool) (vals:Nat→AV) (Hc:AH),S i=false→(∀a,S a=true→∀b∈lfNeed.getD a [],S b=true)→(∀j∈lfNeed.getD i [],S j=true∧vals j=V j)→HI S Hc→(zdosZ x2 x3 x11 x12 x14 x15 x16).getD i (λ_ _ _=>False) vals Hc λr H'=>r=V i∧HI (HK S i) H')
  (last:∀(S:Nat→Bool) (vals:Nat→AV) (H:AH),(∀j,j<27→S j=true∧vals j=V j)→HI S H→D5 R20 x2 x3 x11 x12 x14 (vals 26) H K):D6 R20 x2 x3 x11 x12 x14 x15 x16 H K:=
 zdnuZ R20 x2 x3 x11 x12 x14 x15 x16 (ACode.told3 PT zdnsZ (λi=>lfNeed.getD i []) (λi=>(zdosZ x2 x3 x11 x12 x14 x15 x16).getD i (λ_ _ _=>False)) V HI (zdpsZ x2 x3 x11 x12 x14 x15 x16) h0 (λi hi=>hs i (by rw[zddhZ]at hi;exact hi)) (λS vals Hc hS hI=>by
  rw[zddhZ]at hS⊢;rw[zdpuZ];exact last S vals Hc hS hI))
def PO (s:Int×Int):List AV:=[I s.1,I s.2]
theorem bV (s:Int×Int):(PO s).length=2:=rfl
theorem Zt (l:List Int):A5 (l.flatMap Qy)=true:=D0 λx _=>rfl
theorem kR (l:List (Int×Int)):A5 (l.flatMap PO)=true:=D0 λx _=>rfl
def zdhpZ (H:AH)(cs:List AV)(n:Nat)(r:AV)(H':AH):Prop:=AZ r=true∧Ac H' 1 r=some (cs,n)∧Grew H H'∧∀i∈AM r,H.length≤i
theorem nD {H:AH}{v:AV}{cs:List AV}{n:Nat}(h:Ac H 1 v=some (cs,n))(hn:n≤1000000000):
  ∃r H',zdhpZ H cs n r H'∧BCall prog 89 [v] H r H':=HE (by
 unfold F9;rcases L0 h with⟨rfl,rfl,rfl⟩ | hb
 ·have e:ZQ .eql RV Ad Ad=some (B true):=rfl
  simp only[e,Aa6,As];exact⟨rfl,h,Grew.refl H,by simp[AM]⟩
 ·simp only[hb,Aa6,Ak]
  have e:D9 H 1 0 (B4 [u0Z] 0) []=some (.sl H.length 0 0 1 (.ex 0),H++[some (.cells [])]):=rfl;simp only[e,A6];have g:=Grew.app H [some (.cells [])];obtain⟨r,H2,a1,a2,a3,a4,a5,a6⟩:=BX (sz:=1) (bytes:=1) (H:=H++[some (.cells [])]) (v:=.sl H.length 0 0 1 (.ex 0)) (cs:=[]) (n:=0) (by simp[Ac]) rfl (A1 (g.slice h)) (by omega);simp only[a1,A6];refine⟨a2,by simpa using a3,⟨by simp at a4;omega,λi hi=>?_⟩,λi hi=>?_⟩
  ·rw[a5 i (by simp;omega) (by simp[AM];omega)]
   exact g.2 i hi
  ·rcases a6 i hi with h | h
   ·simp[AM]at h;omega
   ·simp at h;omega)
theorem zK {H:AH}{v:AV}{cs:List AV}{n:Nat}(h:Ac H 1 v=some (cs,n))(hn:n≤1000000000):
  ∃r H',zdhpZ H cs n r H'∧BCall prog 162 [v] H r H':=Qj (by
 unfold Lr;rcases L0 h with⟨rfl,rfl,rfl⟩ | hb
 ·have e:ZQ .eql RV Ad Ad=some (B true):=rfl
  simp only[e,Aa6,As];exact⟨rfl,h,Grew.refl H,by simp[AM]⟩
 ·simp only[hb,Aa6,Ak]
  have e:D9 H 1 0 (B4 [(I 0)] 0) []=some (.sl H.length 0 0 1 (.ex 0),H++[some (.cells [])]):=rfl;simp only[e,A6];have g:=Grew.app H [some (.cells [])];obtain⟨r,H2,a1,a2,a3,a4,a5,a6⟩:=BX (sz:=1) (bytes:=8) (H:=H++[some (.cells [])]) (v:=.sl H.length 0 0 1 (.ex 0)) (cs:=[]) (n:=0) (by simp[Ac]) rfl (A1 (g.slice h)) (by omega);simp only[a1,A6];refine⟨a2,by simpa using a3,⟨by simp at a4;omega,λi hi=>?_⟩,λi hi=>?_⟩
  ·rw[a5 i (by simp;omega) (by simp[AM];omega)]
   exact g.2 i hi
  ·rcases a6 i hi with h | h
   ·simp[AM]at h;omega
   ·simp at h;omega)
structure Dev where
 data:List UInt8
 bad:List Int
 soft:List (Int×Int)
 shorts:List Int
def Y3 (d:Dev):Prop:=d.data.length≤65536∧(∀b∈d.bad,0≤b)∧∀s∈d.soft,0≤s.1∧0≤s.2∧s.2≤20
instance (d:Dev):Decidable (Y3 d):=by unfold Y3;infer_instance
structure DevV (d:Dev)(a b c e:AV):Prop where
 data:SV FB 1 d.data a
 bad:SV Qy 1 d.bad b
 soft:SV PO 2 d.soft c
 shorts:SV Qy 1 d.shorts e
theorem noD {d:Dev}{a b c e:AV}(h:DevV d a b c e):A5 [.agg [a,b,c,e]]=true:=by
 simp[A5,noIds,h.data.1,h.bad.1,h.soft.1,h.shorts.1]
theorem zdkiZ (n:Int)(H:AH):BCall prog 184 [I n] H (B (decide (n<0))) H:=by
 obtain⟨r,H',⟨rfl,rfl⟩,h⟩:=eU (K:=λr H'=>r=B (decide (n<0))∧H'=H) (a0:=I n) (H:=H) (by unfold aZ;simp);exact h
def HL (s:Int×Int):Prop:=s.1<0∨s.2<0∨20<s.2
instance (s:Int×Int):Decidable (HL s):=by unfold HL;infer_instance
theorem zdkjZ (s:Int×Int)(H:AH):∃H',Grew H H'∧BCall prog 185 [.agg (PO s)] H (B (decide (HL s))) H':=by
 obtain⟨r,H',⟨rfl,g⟩,h⟩:=eV (K:=λr H'=>r=B (decide (HL s))∧Grew H H') (a0:=.agg (PO s)) (H:=H) (by
  unfold bD PO HL;have g:=Grew.app H [some (.cells [I s.1,I s.2])]
  by_cases h1:s.1<0
  ·simp[h1];exact g
  ·by_cases h2:s.2<0
   ·simp[h1,h2];exact g
   ·simp[h1,h2];exact g)
 exact⟨H',g,h⟩
theorem zdpkZ {p:Int→Bool}{l:List Int}{k:Nat}{x:Int}(hx:l[k]?=some x)(hm:∀(m:Nat) y,m<k→l[m]?=some y→p y=false)(h:p x=true):l.any p=true:=List.any_eq_true.2 ⟨x,Ah7 hx,h⟩
theorem mO {α:Type}{p:α→Bool}{l:List α}(hm:∀(m:Nat) y,m<l.length→l[m]?=some y→p y=false):l.any p=false:=by
 rw[List.any_eq_false];intro x hx;obtain⟨m,h⟩:=Aj2.1 hx;simp[hm m x (BE.1 h).1 h]
def zdozZ (q:Bool)(H:AH)(r:AV)(H':AH):Prop:=∃j:Int,r=I j∧H'=H∧(0≤j↔q=true)
def zdpaZ (q:Bool)(H:AH)(r:AV)(H':AH):Prop:=∃j:Int,r=I j∧Grew H H'∧(0≤j↔q=true)
theorem zdgiZ {l:List Int}{v:AV}(hv:SV Qy 1 l v)(hl:l.length≤281474976710656)(H:AH):
  BCall prog 186 [v,.fn (.func 184) [] []] H (B (l.any λn=>decide (n<0))) H:=by
 have hi:∃j:Int,(0≤j↔l.any (λn=>decide (n<0))=true)∧BCall prog 197 [v,.fn (.func 184) [] []] H (I j) H:=by
  obtain⟨r,H',⟨j,rfl,rfl,hj⟩,h⟩:=MH (K:=zdozZ (l.any λn=>decide (n<0)) H) (a0:=v) (a1:=.fn (.func 184) [] []) (H:=H) (by
   unfold Is;simp[hv.len];refine JP (λn x0 x1 x7 x8 H'=>∃k:Nat,k+n=l.length∧x0=v∧x1=.fn (.func 184) [] []∧x7=I l.length∧x8=I k∧H'=H∧∀(m:Nat) y,m<k→l[m]?=some y→decide (y<0)=false) ?_ l.length ⟨0,by simp,rfl,rfl,rfl,rfl,rfl,by simp⟩;rintro n x0 x1 x7 x8 H' R hR ⟨k,hk,rfl,rfl,rfl,rfl,rfl,hm⟩;unfold FA;rcases Ai0 k l.length with hlt | hge
   ·have hx:=DD hlt
    generalize l[k]=y at hx;have gf:BW prog 184=true:=by kernel_rfl
    simp[hlt,hv.idx T7 hx rfl,Qy,gf];refine bC_of (zdkiZ y _) ?_
    by_cases c:y<0
    ·have ha:l.any (λn=>decide (n<0))=true:=zdpkZ hx hm (by simp[c])
     simp[c];exact⟨k,rfl,rfl,by rw[ha];simp⟩
    ·simp[c,Au (a:=k) (b:=1) (by omega) (by omega)]
     refine hR (n - 1) _ _ _ _ _ (by omega) ⟨k+1,by omega,rfl,rfl,rfl,rfl,rfl,λm z hmk hz=>?_⟩
     by_cases h:m=k
     ·subst h;rw[hx]at hz;injection hz with hz;subst hz;simpa using c
     ·exact hm m z (by omega) hz
   ·have hkl:k=l.length:=by omega
    subst hkl;have ha:=mO hm;simp;exact⟨-1,rfl,rfl,by rw[ha];simp⟩)
  exact⟨j,hj,h⟩
 obtain⟨j,hj,hc⟩:=hi
 obtain⟨r,H',⟨rfl,rfl⟩,h⟩:=KU (K:=λr H'=>r=B (l.any λn=>decide (n<0))∧H'=H) (a0:=v) (a1:=.fn (.func 184) [] []) (H:=H) (by
  unfold Gw;refine bC_of hc ?_;simp
  by_cases c:0≤j
  ·simp[c,hj.1 c]
  ·have:l.any (λn=>decide (n<0))=false:=by
    cases ha:l.any (λn=>decide (n<0))with
    | false=>rfl
    | true=>exact absurd (hj.2 ha) c
   rw[this];simp[c])
 exact h
theorem zdgjZ {l:List (Int×Int)}{v:AV}(hv:SV PO 2 l v)(hl:l.length≤281474976710656)(H:AH):
  ∃H',Grew H H'∧BCall prog 187 [v,.fn (.func 185) [] []] H (B (l.any λs=>decide (HL s))) H':=by
 have hi:∃(j:Int) (H':AH),Grew H H'∧(0≤j↔l.any (λs=>decide (HL s))=true)∧BCall prog 198 [v,.fn (.func 185) [] []] H (I j) H':=by
  obtain⟨r,H',⟨j,rfl,g,hj⟩,h⟩:=HF (K:=zdpaZ (l.any λs=>decide (HL s)) H) (a0:=v) (a1:=.fn (.func 185) [] []) (H:=H) (by
   unfold Ex;simp[hv.len];refine FC (λn x0 x1 x7 x8 H'=>∃k:Nat,k+n=l.length∧x0=v∧x1=.fn (.func 185) [] []∧x7=I l.length∧x8=I k∧Grew H H'∧∀(m:Nat) y,m<k→l[m]?=some y→decide (HL y)=false) ?_ l.length ⟨0,by simp,rfl,rfl,rfl,rfl,Grew.refl H,by simp⟩;rintro n x0 x1 x7 x8 H' R hR ⟨k,hk,rfl,rfl,rfl,rfl,g,hm⟩;unfold DC;rcases Ai0 k l.length with hlt | hge
   ·have hx:=DD hlt
    generalize l[k]=y at hx;have gf:BW prog 185=true:=by kernel_rfl
    have e:Ax true 2 (PO y++List.flatMap PO (List.drop (k+1) l)) 0=some (.agg (PO y)):=by simp[Ax,PO]
    obtain⟨H2,g2,hc2⟩:=zdkjZ y H';simp[hlt,hv.idx bV hx rfl,e,gf];refine bC_of hc2 ?_
    by_cases c:HL y
    ·have ha:l.any (λs=>decide (HL s))=true:=List.any_eq_true.2 ⟨y,Ah7 hx,by simp[c]⟩
     simp[c];exact⟨k,rfl,g.trans g2,by rw[ha];simp⟩
    ·simp[c,Au (a:=k) (b:=1) (by omega) (by omega)]
     refine hR (n - 1) _ _ _ _ _ (by omega) ⟨k+1,by omega,rfl,rfl,rfl,rfl,g.trans g2,λm z hmk hz=>?_⟩
     by_cases h:m=k
     ·subst h;rw[hx]at hz;injection hz with hz;subst hz;simpa using c
     ·exact hm m z (by omega) hz
   ·have hkl:k=l.length:=by omega
    subst hkl;have ha:=mO hm;simp;exact⟨-1,rfl,g,by rw[ha];simp⟩)
  exact⟨j,H',g,hj,h⟩
 obtain⟨j,H1,g1,hj,hc⟩:=hi
 obtain⟨r,H',⟨rfl,g⟩,h⟩:=Gv (K:=λr H'=>r=B (l.any λs=>decide (HL s))∧Grew H H') (a0:=v) (a1:=.fn (.func 185) [] []) (H:=H) (by
  unfold DT;refine bC_of hc ?_;simp;refine⟨?_,g1⟩
  by_cases c:0≤j
  ·simp[c,hj.1 c]
  ·have:l.any (λs=>decide (HL s))=false:=by
    cases ha:l.any (λs=>decide (HL s))with
    | false=>rfl
    | true=>exact absurd (hj.2 ha) c
   rw[this];simp[c])
 exact⟨H',g,h⟩
theorem zddmZ (d:Dev):Y3 d↔d.data.length≤65536∧d.bad.any (λn=>decide (n<0))=false∧d.soft.any (λs=>decide (HL s))=false:=by
 unfold Y3;rw[List.any_eq_false,List.any_eq_false];refine and_congr Iff.rfl (and_congr ?_ ?_)
 ·exact forall_congr' λb=>forall_congr' λhb=>by simp
 ·refine forall_congr' λb=>forall_congr' λhb=>?_
  rw[decide_eq_true_iff];unfold HL;omega
theorem qQ {d:Dev}{a b c e:AV}(h:DevV d a b c e)(h1:d.bad.length≤281474976710656)(h2:d.soft.length≤281474976710656):BPure prog 161 [.agg [a,b,c,e]] (B (decide (Y3 d))):=BPure.val (noD h) rfl (nN (by
 unfold nM;have hm:=zddmZ d;simp[Cn h.data,Cn h.bad,Cn h.soft,Cn h.shorts,h.data.len]
 by_cases c1:d.data.length≤65536
 ·have c1':(d.data.length:Int)≤65536:=by omega
  simp[c1'];refine bC_of (zdgiZ h.bad h1 _) ?_;cases c2:d.bad.any (λn=>decide (n<0))with
  | true=>
   rw[c2]at hm;have:¬Y3 d:=by rw[hm];simp
   simp[this]
  | false=>
   obtain⟨H2,g2,hc2⟩:=zdgjZ h.soft h2 [some (.cells [a,b,c,e])];rw[c2]at hm;simp;refine bC_of hc2 ?_;cases c3:d.soft.any (λs=>decide (HL s))with
   | true=>
    rw[c3]at hm;have:¬Y3 d:=by rw[hm];simp
    simp[this]
   | false=>
    rw[c3]at hm;have:Y3 d:=by rw[hm];simp[c1]
    simp[this]
 ·have c1':¬(d.data.length:Int)≤65536:=by omega
  have:¬Y3 d:=λh=>c1 h.1
  simp[c1',this]))
def zdlmZ (d:Dev):Dev:=if Y3 d then d else⟨[],[],[],[]⟩
def Tn:List (Int×Int)→Int→Int
 | [],_=>0
 | s::r,k=>(if s.1=k then s.2 else 0)+Tn r k
def MapI (H:AH)(o:Nat)(z:AV)(f:Int→AV):Prop:=∃ps,H[o]?=some (some (.map (WK ps)))∧∀k,Wl z ps k=f k
theorem MapI.keep {H H':AH}{o:Nat}{z:AV}{f:Int→AV}(h:MapI H o z f)(hk:H'[o]?=H[o]?):MapI H' o z f:=by
 obtain⟨ps,h1,h2⟩:=h;exact⟨ps,by rw[hk];exact h1,h2⟩
structure DiskP (n0 n1:Nat)(H:AH)(o:Nat)(D:Dev)(L:Int→Int)(c:Int)(dv:AV)(bo lo:Nat)(sv:AV):Prop where
 obj:H[o]?=some (some (.cells [dv,.mp bo,.mp lo,sv,I c]))
 data:Ac H 1 dv=some (AY D.data,D.data.length)
 bad:MapI H bo (B false) (λk=>B (decide (k∈D.bad)))
 left:MapI H lo (I 0) (λk=>I (L k))
 shorts:Ac H 1 sv=some (D.shorts.flatMap Qy,D.shorts.length)
 ne:bo≠lo
 od:o∉AM dv
 os:o∉AM sv
 low:n0≤o∧n0≤bo∧n0≤lo∧(∀i∈AM dv,n0≤i)∧∀i∈AM sv,n0≤i
 high:o<n1∧bo<n1∧lo<n1∧(∀i∈AM dv,i<n1)∧∀i∈AM sv,i<n1
 top:n1≤H.length
 one:oneA dv=true∧oneA sv=true
def Keep (n0 n1:Nat)(H H':AH):Prop:=H.length≤H'.length∧∀i,i<H.length→¬(n0≤i∧i<n1)→H'[i]?=H[i]?
theorem Keep.trans {a b:Nat}{A B C:AH}(h:Keep a b A B)(k:Keep a b B C):Keep a b A C:=⟨Aj0 h.1 k.1,λi hi hn=>(k.2 i (Ak8 hi h.1) hn).trans (h.2 i hi hn)⟩
theorem Keep.of {a b:Nat}{A B:AH}(h:Grew A B):Keep a b A B:=⟨h.1,λi hi _=>h.2 i hi⟩
theorem DiskP.keep {a b c e:Nat}{H H':AH}{o:Nat}{D:Dev}{L:Int→Int}{cc:Int}{dv sv:AV}{bo lo:Nat}(h:DiskP a b H o D L cc dv bo lo sv)(k:Keep c e H H')(hd:b≤c∨e≤a):DiskP a b H' o D L cc dv bo lo sv:=by
 have hin:∀i,a≤i→i<b→H'[i]?=H[i]?:=λi h1 h2=>k.2 i (by have:=h.top;omega) (by omega)
 obtain⟨l1,l2,l3,l4,l5⟩:=h.low;obtain⟨g1,g2,g3,g4,g5⟩:=h.high;exact⟨(hin o l1 g1).trans h.obj,Ae h.data λi hi=>hin i (l4 i hi) (g4 i hi),h.bad.keep (hin _ l2 g2),h.left.keep (hin _ l3 g3),Ae h.shorts λi hi=>hin i (l5 i hi) (g5 i hi),h.ne,h.od,h.os,h.low,h.high,Aj0 h.top k.1,h.one⟩
noncomputable def newOps:List Oper:=(X3 (sub [true,true,false] (AG f106))).toList
def OS (x1:AV):List AV:=Bt (mk 54 0 [1]) [x1]
theorem op0 (x1:AV):OpIs prog newOps (OS x1) 0 [] λvals H K=>gO true (Ab 0 x1) λv=>K v H:=
 OpIs.op (newOps.getD 0 default) (by kernel_rfl) (by kernel_rfl) (by kernel_rfl) (by kernel_rfl) (λρ=>by kernel_rfl) (λvals H K h=>Eq.mpr (by kernel_rfl:NT prog To Aw false (B8 (pt newOps vals (λ_=>true) (OS x1) 0)) H (newOps.getD 0 default) true K=gO true (Ab 0 x1) λv=>K v H) h)
theorem op1 (x1:AV):OpIs prog newOps (OS x1) 1 [0] λvals H K=>gO true (Ap false 1 H (vals 0)) λv=>K v H:=
 OpIs.op (newOps.getD 1 default) (by kernel_rfl) (by kernel_rfl) (by kernel_rfl) (by kernel_rfl) (λρ=>by kernel_rfl) (λvals H K h=>Eq.mpr (by kernel_rfl:NT prog To Aw false (B8 (pt newOps vals (λ_=>true) (OS x1) 1)) H (newOps.getD 1 default) true K=gO true (Ap false 1 H (vals 0)) λv=>K v H) h)
theorem op2 (x1:AV):OpIs prog newOps (OS x1) 2 [1] λvals H K=>ACalls prog 89 [vals 1] H K:=
 OpIs.call (newOps.getD 2 default) (by kernel_rfl) (by kernel_rfl) (by kernel_rfl) _ (λvals=>[vals 1]) (by kernel_rfl) (λvals=>by kernel_rfl) (λvals H K h=>h)
theorem op3 (x1:AV):OpIs prog newOps (OS x1) 3 [] λvals H K=>gH true (jK H none) H K:=
 OpIs.op (newOps.getD 3 default) (by kernel_rfl) (by kernel_rfl) (by kernel_rfl) (by kernel_rfl) (λρ=>by kernel_rfl) (λvals H K h=>Eq.mpr (by kernel_rfl:NT prog To Aw false (B8 (pt newOps vals (λ_=>true) (OS x1) 3)) H (newOps.getD 3 default) true K=gH true (jK H none) H K) h)
theorem op4 (x1:AV):OpIs prog newOps (OS x1) 4 [] λvals H K=>gH true (jK H none) H K:=
 OpIs.op (newOps.getD 4 default) (by kernel_rfl) (by kernel_rfl) (by kernel_rfl) (by kernel_rfl) (λρ=>by kernel_rfl) (λvals H K h=>Eq.mpr (by kernel_rfl:NT prog To Aw false (B8 (pt newOps vals (λ_=>true) (OS x1) 4)) H (newOps.getD 4 default) true K=gH true (jK H none) H K) h)
theorem op5 (x1:AV):OpIs prog newOps (OS x1) 5 [] λvals H K=>gO true (Ab 3 x1) λv=>K v H:=
 OpIs.op (newOps.getD 5 default) (by kernel_rfl) (by kernel_rfl) (by kernel_rfl) (by kernel_rfl) (λρ=>by kernel_rfl) (λvals H K h=>Eq.mpr (by kernel_rfl:NT prog To Aw false (B8 (pt newOps vals (λ_=>true) (OS x1) 5)) H (newOps.getD 5 default) true K=gO true (Ab 3 x1) λv=>K v H) h)
theorem op6 (x1:AV):OpIs prog newOps (OS x1) 6 [5] λvals H K=>gO true (Ap false 1 H (vals 5)) λv=>K v H:=
 OpIs.op (newOps.getD 6 default) (by kernel_rfl) (by kernel_rfl) (by kernel_rfl) (by kernel_rfl) (λρ=>by kernel_rfl) (λvals H K h=>Eq.mpr (by kernel_rfl:NT prog To Aw false (B8 (pt newOps vals (λ_=>true) (OS x1) 6)) H (newOps.getD 6 default) true K=gO true (Ap false 1 H (vals 5)) λv=>K v H) h)
theorem op7 (x1:AV):OpIs prog newOps (OS x1) 7 [6] λvals H K=>ACalls prog 162 [vals 6] H K:=
 OpIs.call (newOps.getD 7 default) (by kernel_rfl) (by kernel_rfl) (by kernel_rfl) _ (λvals=>[vals 6]) (by kernel_rfl) (λvals=>by kernel_rfl) (λvals H K h=>h)
theorem op8 (x1:AV):OpIs prog newOps (OS x1) 8 [2,3,4,7] λvals H K=>gO true (En [Ad,.lit (.map none),.lit (.map none),Ad,I 0] [(0,1,vals 2),(1,1,vals 3),(2,1,vals 4),(3,1,vals 7)]) λv=>K v H:=
 OpIs.op (newOps.getD 8 default) (by kernel_rfl) (by kernel_rfl) (by kernel_rfl) (by kernel_rfl) (λρ=>by kernel_rfl) (λvals H K h=>Eq.mpr (by kernel_rfl:NT prog To Aw false (B8 (pt newOps vals (λ_=>true) (OS x1) 8)) H (newOps.getD 8 default) true K=gO true (En [Ad,.lit (.map none),.lit (.map none),Ad,I 0] [(0,1,vals 2),(1,1,vals 3),(2,1,vals 4),(3,1,vals 7)]) λv=>K v H) h)
theorem op9 (x1:AV):OpIs prog newOps (OS x1) 9 [8] λvals H K=>gH true (AC H (vals 8)) H K:=
 OpIs.op (newOps.getD 9 default) (by kernel_rfl) (by kernel_rfl) (by kernel_rfl) (by kernel_rfl) (λρ=>by kernel_rfl) (λvals H K h=>Eq.mpr (by kernel_rfl:NT prog To Aw false (B8 (pt newOps vals (λ_=>true) (OS x1) 9)) H (newOps.getD 9 default) true K=gH true (AC H (vals 8)) H K) h)
theorem zdqcZ (x1:AV):OpIs prog newOps (OS x1) 10 [9] λvals H K=>gO true (some (vals 9)) λv=>K v H:=
 OpIs.op (newOps.getD 10 default) (by kernel_rfl) (by kernel_rfl) (by kernel_rfl) (by kernel_rfl) (λρ=>by kernel_rfl) (λvals H K h=>Eq.mpr (by kernel_rfl:NT prog To Aw false (B8 (pt newOps vals (λ_=>true) (OS x1) 10)) H (newOps.getD 10 default) true K=gO true (some (vals 9)) λv=>K v H) h)
theorem rJ:newOps.length=11:=by kernel_rfl
theorem zdkmZ:ML newOps=true:=by kernel_rfl
theorem zdqbZ (x1:AV)(vals:Nat→AV)(H:AH)(K:AV→AH→Prop):(AN (DJ (mk 54 0 [1,3]) (FT [true,true,true] 4)) (AR prog f106.results.toList K)) .normal (pt newOps vals (λ_=>true) (OS x1) 11) H=Tz x1 (vals 10) H K:=by kernel_rfl
structure NewI (d:Dev)(H1:AH)(p:Nat)(a e:AV)(H:AH)(vals:Nat→AV)(S:Nat→Bool):Prop where
 g:Grew H1 H
 v0:S 0=true→vals 0=.ptr p 0
 v1:S 1=true→vals 1=a
 v2:S 2=true→Ac H 1 (vals 2)=some (AY d.data,d.data.length)∧AZ (vals 2)=true∧∀i∈AM (vals 2),H1.length≤i
 v3:S 3=true→∃m,vals 3=.mp m∧H[m]?=some (some (.map []))∧H1.length≤m
 v4:S 4=true→∃m,vals 4=.mp m∧H[m]?=some (some (.map []))∧H1.length≤m
 v34:S 3=true→S 4=true→vals 3≠vals 4
 v5:S 5=true→vals 5=.ptr p 3
 v6:S 6=true→vals 6=e
 v7:S 7=true→Ac H 1 (vals 7)=some (d.shorts.flatMap Qy,d.shorts.length)∧AZ (vals 7)=true∧∀i∈AM (vals 7),H1.length≤i
 v8:S 8=true→vals 8=.agg [vals 2,vals 3,vals 4,vals 7,I 0]
 v9:S 9=true→∃o,vals 9=.ptr o 0∧H[o]?=some (some (.cells [vals 2,vals 3,vals 4,vals 7,I 0]))∧H1.length≤o∧(∀i∈AM (vals 2),i≠o)∧∀i∈AM (vals 7),i≠o
 v10:S 10=true→vals 10=vals 9
 low:(S 8=true→S 2=true∧S 3=true∧S 4=true∧S 7=true)∧(S 9=true→S 8=true)∧(S 10=true→S 9=true)
theorem NewI.grew {d:Dev}{H1:AH}{p:Nat}{a e:AV}{H H':AH}{vals:Nat→AV}{S:Nat→Bool}(h:NewI d H1 p a e H vals S)(g:Grew H H'):NewI d H1 p a e H' vals S:=by
 refine⟨h.g.trans g,h.v0,h.v1,λc=>?_,λc=>?_,λc=>?_,h.v34,h.v5,h.v6,λc=>?_,h.v8,λc=>?_,h.v10,h.low⟩
 ·obtain⟨x,y⟩:=h.v2 c;exact⟨g.slice x,y⟩
 ·obtain⟨m,x,y,z⟩:=h.v3 c;exact⟨m,x,g.cells y,z⟩
 ·obtain⟨m,x,y,z⟩:=h.v4 c;exact⟨m,x,g.cells y,z⟩
 ·obtain⟨x,y⟩:=h.v7 c;exact⟨g.slice x,y⟩
 ·obtain⟨o,x,y,z⟩:=h.v9 c;exact⟨o,x,g.cells y,z⟩
theorem XP {S:Nat→Bool}{i j:Nat}(h:j≠i):HK S i j=S j:=by unfold HK;rw[if_neg h]
theorem Jg {vals:Nat→AV}{i j:Nat}{r:AV}(h:j≠i):OL vals i r j=vals j:=by unfold OL;rw[if_neg h]
theorem YI {vals:Nat→AV}{i:Nat}{r:AV}:OL vals i r i=r:=by unfold OL;rw[if_pos rfl]
theorem rK {d:Dev}{a b c e:AV}{H1:AH}{p:Nat}(hp:H1[p]?=some (some (.cells [a,b,c,e])))(ha:Ac H1 1 a=some (AY d.data,d.data.length))(he:Ac H1 1 e=some (d.shorts.flatMap Qy,d.shorts.length))(h1:d.data.length≤1000000)(h2:d.shorts.length≤1000000){K:AV→AH→Prop}
  (hK:∀H o dv m1 m2 sv,Grew H1 H→H[o]?=some (some (.cells [dv,.mp m1,.mp m2,sv,I 0]))→Ac H 1 dv=some (AY d.data,d.data.length)→Ac H 1 sv=some (d.shorts.flatMap Qy,d.shorts.length)→AZ dv=true→AZ sv=true→H[m1]?=some (some (.map []))→H[m2]?=some (some (.map []))→m1≠m2→
   H1.length≤o→H1.length≤m1→H1.length≤m2→(∀i∈AM dv,H1.length≤i∧i≠o)→(∀i∈AM sv,H1.length≤i∧i≠o)→Tz (.ptr p 0) (.ptr o 0) H K):YT (.ptr p 0) H1 K:=by
 refine unR.mk ?_
 show ACode prog (.region 3 newOps.toArray true) _ (OS (.ptr p 0)) H1
 refine ACode.told PT zdkmZ (NewI d H1 p a e) (λ_=>AO) ⟨Grew.refl H1,by simp,by simp,by simp,by simp,by simp,by simp,by simp,by simp,by simp,by simp,by simp,by simp,by simp⟩ ?_ ?_
 ·intro i hi
  rw[rJ]at hi;have hcases:i=0∨i=1∨i=2∨i=3∨i=4∨i=5∨i=6∨i=7∨i=8∨i=9∨i=10:=by omega
  -- the values of others stay
  have step:∀(i:Nat) (S:Nat→Bool) (Hc H':AH) (vals:Nat→AV) (r:AV),S i=false→NewI d H1 p a e Hc vals S→Grew Hc H'→(i=0→r=.ptr p 0)→(i=1→r=a)→
    (i=2→Ac H' 1 r=some (AY d.data,d.data.length)∧AZ r=true∧∀i∈AM r,H1.length≤i)→(i=3→∃m,r=.mp m∧H'[m]?=some (some (.map []))∧H1.length≤m∧(S 4=true→r≠vals 4))→(i=4→∃m,r=.mp m∧H'[m]?=some (some (.map []))∧H1.length≤m∧(S 3=true→vals 3≠r))→
    (i=5→r=.ptr p 3)→(i=6→r=e)→(i=7→Ac H' 1 r=some (d.shorts.flatMap Qy,d.shorts.length)∧AZ r=true∧∀i∈AM r,H1.length≤i)→(i=8→r=.agg [vals 2,vals 3,vals 4,vals 7,I 0]∧S 2=true∧S 3=true∧S 4=true∧S 7=true)→
    (i=9→S 8=true∧∃o,r=.ptr o 0∧H'[o]?=some (some (.cells [vals 2,vals 3,vals 4,vals 7,I 0]))∧H1.length≤o∧(∀i∈AM (vals 2),i≠o)∧∀i∈AM (vals 7),i≠o)→(i=10→r=vals 9∧S 9=true)→NewI d H1 p a e H' (OL vals i r) (HK S i):=by
   intro i S Hc H' vals r hS hI g q0 q1 q2 q3 q4 q5 q6 q7 q8 q9 q10;have hI:=hI.grew g
   have h8:S 8=true→i≠2∧i≠3∧i≠4∧i≠7:=λh=>by
    obtain⟨z1,z2,z3,z4⟩:=hI.low.1 h;refine⟨?_,?_,?_,?_⟩<;>(rintro rfl;simp_all)
   have h9:S 9=true→S 8=true:=hI.low.2.1
   have get:∀j,HK S i j=true→(j=i)∨(j≠i∧S j=true):=λj h=>by
    by_cases c:j=i
    ·exact .inl c
    ·rw[XP c]at h;exact .inr ⟨c,h⟩
   refine⟨hI.g,λc=>?_,λc=>?_,λc=>?_,λc=>?_,λc=>?_,λc c2=>?_,λc=>?_,λc=>?_,λc=>?_,λc=>?_,λc=>?_,λc=>?_,λc=>?_,λc=>?_,λc=>?_⟩
   ·rcases get 0 c with rfl | ⟨k,c⟩
    ·rw[YI];exact q0 rfl
    ·rw[Jg k];exact hI.v0 c
   ·rcases get 1 c with rfl | ⟨k,c⟩
    ·rw[YI];exact q1 rfl
    ·rw[Jg k];exact hI.v1 c
   ·rcases get 2 c with rfl | ⟨k,c⟩
    ·rw[YI];exact q2 rfl
    ·rw[Jg k];exact hI.v2 c
   ·rcases get 3 c with rfl | ⟨k,c⟩
    ·rw[YI];obtain⟨m,x,y,z,-⟩:=q3 rfl;exact⟨m,x,y,z⟩
    ·rw[Jg k];exact hI.v3 c
   ·rcases get 4 c with rfl | ⟨k,c⟩
    ·rw[YI];obtain⟨m,x,y,z,-⟩:=q4 rfl;exact⟨m,x,y,z⟩
    ·rw[Jg k];exact hI.v4 c
   ·rcases get 3 c with rfl | ⟨k,c⟩
    ·rw[YI,Jg (by omega)]
     obtain⟨m,x,y,z,t⟩:=q3 rfl;exact t (by rwa[XP (by omega)]at c2)
    ·rw[Jg k]
     rcases get 4 c2 with rfl | ⟨k2,c2⟩
     ·rw[YI]
      obtain⟨m,x,y,z,t⟩:=q4 rfl;exact t c
     ·rw[Jg k2];exact hI.v34 c c2
   ·rcases get 5 c with rfl | ⟨k,c⟩
    ·rw[YI];exact q5 rfl
    ·rw[Jg k];exact hI.v5 c
   ·rcases get 6 c with rfl | ⟨k,c⟩
    ·rw[YI];exact q6 rfl
    ·rw[Jg k];exact hI.v6 c
   ·rcases get 7 c with rfl | ⟨k,c⟩
    ·rw[YI];exact q7 rfl
    ·rw[Jg k];exact hI.v7 c
   ·rcases get 8 c with rfl | ⟨k,c⟩
    ·rw[YI,Jg (by omega),Jg (by omega),Jg (by omega),Jg (by omega)];exact(q8 rfl).1
    ·obtain⟨z1,z2,z3,z4⟩:=h8 c
     rw[Jg k,Jg (Aj4 z1),Jg (Aj4 z2),Jg (Aj4 z3),Jg (Aj4 z4)];exact hI.v8 c
   ·rcases get 9 c with rfl | ⟨k,c⟩
    ·rw[YI,Jg (by omega),Jg (by omega),Jg (by omega),Jg (by omega)];exact(q9 rfl).2
    ·obtain⟨z1,z2,z3,z4⟩:=h8 (h9 c)
     rw[Jg k,Jg (Aj4 z1),Jg (Aj4 z2),Jg (Aj4 z3),Jg (Aj4 z4)];exact hI.v9 c
   ·rcases get 10 c with rfl | ⟨k,c⟩
    ·rw[YI,Jg (by omega)];exact(q10 rfl).1
    ·rw[Jg k]
     by_cases c9:9=i
     ·subst c9
      have:=hI.low.2.2 c
      rw[hS]at this;cases this
     ·rw[Jg c9];exact hI.v10 c
   ·rcases get 8 c with rfl | ⟨k,c⟩
    ·obtain⟨-,z1,z2,z3,z4⟩:=q8 rfl
     exact⟨by rw[XP (by omega)];exact z1,by rw[XP (by omega)];exact z2,by rw[XP (by omega)];exact z3,by rw[XP (by omega)];exact z4⟩
    ·obtain⟨z1,z2,z3,z4⟩:=h8 c
     obtain⟨y1,y2,y3,y4⟩:=hI.low.1 c;exact⟨by rw[XP (Aj4 z1)];exact y1,by rw[XP (Aj4 z2)];exact y2,by rw[XP (Aj4 z3)];exact y3,by rw[XP (Aj4 z4)];exact y4⟩
   ·rcases get 9 c with rfl | ⟨k,c⟩
    ·rw[XP (by omega)];exact(q9 rfl).1
    ·have:=h9 c
     by_cases c8:8=i
     ·subst c8;rw[hS]at this;cases this
     ·rw[XP c8];exact this
   ·rcases get 10 c with rfl | ⟨k,c⟩
    ·rw[XP (by omega)];exact(q10 rfl).2
    ·have:=hI.low.2.2 c
     by_cases c9:9=i
     ·subst c9;rw[hS]at this;cases this
     ·rw[XP c9];exact this
  have hpl:=(BE.1 hp).1;rcases hcases with rfl | rfl | rfl | rfl | rfl | rfl | rfl | rfl | rfl | rfl | rfl
  ·refine⟨_,_,op0 _,λS Hc vals hS hn hI=>?_⟩
   simp only[Ad6,Al,Al8];exact step 0 S Hc Hc vals _ hS hI (Grew.refl _) (λ_=>rfl) (by omega) (by omega) (by omega) (by omega) (by omega) (by omega) (by omega) (by omega) (by omega) (by omega)
  ·refine⟨_,_,op1 _,λS Hc vals hS hn hI=>?_⟩
   have e0:=hI.v0 (hn 0 (by simp));simp only[Ad6,e0,Ai (hI.g.cells hp),Ah,C1];exact step 1 S Hc Hc vals _ hS hI (Grew.refl _) (by omega) (λ_=>rfl) (by omega) (by omega) (by omega) (by omega) (by omega) (by omega) (by omega) (by omega) (by omega)
  ·refine⟨_,_,op2 _,λS Hc vals hS hn hI=>?_⟩
   have e1:=hI.v1 (hn 1 (by simp));rw[e1];obtain⟨r,H',⟨c1,c2,c3,c4⟩,c5⟩:=nD (hI.g.slice ha) (by omega);refine c5.mono ?_;rintro r' H'' ⟨rfl,rfl⟩;exact step 2 S Hc _ vals _ hS hI c3 (by omega) (by omega) (λ_=>⟨c2,c1,λi hi=>Aj0 hI.g.1 (c4 i hi)⟩) (by omega) (by omega) (by omega) (by omega) (by omega) (by omega) (by omega) (by omega)
  ·refine⟨_,_,op3 _,λS Hc vals hS hn hI=>?_⟩
   rw[BQ];simp only[jK,A6];refine step 3 S Hc _ vals _ hS hI (Grew.app _ _) (by omega) (by omega) (by omega) (λ_=>⟨Hc.length,rfl,by simp,hI.g.1,λh4=>?_⟩) (by omega) (by omega) (by omega) (by omega) (by omega) (by omega) (by omega);obtain⟨m,x,y,z⟩:=hI.v4 h4;rw[x]
   have:=(BE.1 y).1
   intro h;injection h with h;omega
  ·refine⟨_,_,op4 _,λS Hc vals hS hn hI=>?_⟩
   rw[BQ];simp only[jK,A6];refine step 4 S Hc _ vals _ hS hI (Grew.app _ _) (by omega) (by omega) (by omega) (by omega) (λ_=>⟨Hc.length,rfl,by simp,hI.g.1,λh4=>?_⟩) (by omega) (by omega) (by omega) (by omega) (by omega) (by omega);obtain⟨m,x,y,z⟩:=hI.v3 h4;rw[x]
   have:=(BE.1 y).1
   intro h;injection h with h;omega
  ·refine⟨_,_,op5 _,λS Hc vals hS hn hI=>?_⟩
   simp only[Ad6,At];exact step 5 S Hc Hc vals _ hS hI (Grew.refl _) (by omega) (by omega) (by omega) (by omega) (by omega) (λ_=>rfl) (by omega) (by omega) (by omega) (by omega) (by omega)
  ·refine⟨_,_,op6 _,λS Hc vals hS hn hI=>?_⟩
   have e0:=hI.v5 (hn 5 (by simp));simp only[Ad6,e0,Ai (hI.g.cells hp),Ah,Aa9];exact step 6 S Hc Hc vals _ hS hI (Grew.refl _) (by omega) (by omega) (by omega) (by omega) (by omega) (by omega) (λ_=>rfl) (by omega) (by omega) (by omega) (by omega)
  ·refine⟨_,_,op7 _,λS Hc vals hS hn hI=>?_⟩
   have e1:=hI.v6 (hn 6 (by simp));rw[e1];obtain⟨r,H',⟨c1,c2,c3,c4⟩,c5⟩:=zK (hI.g.slice he) (by omega);refine c5.mono ?_;rintro r' H'' ⟨rfl,rfl⟩;exact step 7 S Hc _ vals _ hS hI c3 (by omega) (by omega) (by omega) (by omega) (by omega) (by omega) (by omega) (λ_=>⟨c2,c1,λi hi=>Aj0 hI.g.1 (c4 i hi)⟩) (by omega) (by omega) (by omega)
  ·refine⟨_,_,op8 _,λS Hc vals hS hn hI=>?_⟩
   have k2:=hn 2 (by simp);have k3:=hn 3 (by simp);have k4:=hn 4 (by simp);have k7:=hn 7 (by simp);obtain⟨-,w2,-⟩:=hI.v2 k2;obtain⟨-,w7,-⟩:=hI.v7 k7;obtain⟨m3,w3,-⟩:=hI.v3 k3;obtain⟨m4,w4,-⟩:=hI.v4 k4
   have e:En [Ad,.lit (.map none),.lit (.map none),Ad,I 0] [(0,1,vals 2),(1,1,vals 3),(2,1,vals 4),(3,1,vals 7)]=some (.agg [vals 2,vals 3,vals 4,vals 7,I 0]):=by
    simp[w3,w4,Bs (AD w2),Bs (AD w7)]
   simp only[Ad6,e];exact step 8 S Hc Hc vals _ hS hI (Grew.refl _) (by omega) (by omega) (by omega) (by omega) (by omega) (by omega) (by omega) (by omega) (λ_=>⟨rfl,k2,k3,k4,k7⟩) (by omega) (by omega)
  ·refine⟨_,_,op9 _,λS Hc vals hS hn hI=>?_⟩
   have k8:=hn 8 (by simp);obtain⟨k2,k3,k4,k7⟩:=hI.low.1 k8;obtain⟨u2,w2,-⟩:=hI.v2 k2;obtain⟨u7,w7,-⟩:=hI.v7 k7;obtain⟨m3,w3,-⟩:=hI.v3 k3;obtain⟨m4,w4,-⟩:=hI.v4 k4
   have e:AC Hc (vals 8)=some (.ptr Hc.length 0,Hc++[some (.cells [vals 2,vals 3,vals 4,vals 7,I 0])]):=by
    rw[hI.v8 k8];simp[w3,w4,AD w2,AD w7]
   simp only[BQ,e,A6]
   exact step 9 S Hc _ vals _ hS hI (Grew.app _ _) (by omega) (by omega) (by omega) (by omega) (by omega) (by omega) (by omega) (by omega) (by omega)
    (λ_=>⟨k8,Hc.length,rfl,by simp,hI.g.1,λi hi=>by have:=Az u2 i hi;omega,λi hi=>by have:=Az u7 i hi;omega⟩) (by omega)
  ·refine⟨_,_,zdqcZ _,λS Hc vals hS hn hI=>?_⟩
   simp only[Ad6];exact step 10 S Hc Hc vals _ hS hI (Grew.refl _) (by omega) (by omega) (by omega) (by omega) (by omega) (by omega) (by omega) (by omega) (by omega) (by omega) (λ_=>⟨rfl,hn 9 (by simp)⟩)
 ·intro Hc vals S hS hI
  rw[rJ];rw[rJ]at hS
  show(AN (DJ (mk 54 0 [1,3]) (FT [true,true,true] 4)) (AR prog f106.results.toList K)) .normal _ Hc
  rw[zdqbZ];obtain⟨o,x1,x2,x3,x4,x5⟩:=hI.v9 (hS 9 (by omega));obtain⟨m3,y1,y2,y3⟩:=hI.v3 (hS 3 (by omega));obtain⟨m4,z1,z2,z3⟩:=hI.v4 (hS 4 (by omega));obtain⟨u2,w2,t2⟩:=hI.v2 (hS 2 (by omega));obtain⟨u7,w7,t7⟩:=hI.v7 (hS 7 (by omega));have hne:=hI.v34 (hS 3 (by omega)) (hS 4 (by omega));rw[hI.v10 (hS 10 (by omega)),x1];rw[y1,z1]at x2 hne;exact hK Hc o (vals 2) m3 m4 (vals 7) hI.g x2 u2 u7 w2 w7 y2 z2 (λh=>hne (by rw[h])) x3 y3 z3 (λi hi=>⟨t2 i hi,x4 i hi⟩) (λi hi=>⟨t7 i hi,x5 i hi⟩)
end Go.Proofs.YtadghlcfbajamaaGreat.Av
end
