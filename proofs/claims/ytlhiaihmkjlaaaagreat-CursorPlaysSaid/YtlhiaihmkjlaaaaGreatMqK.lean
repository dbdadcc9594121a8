/- Texts of this proof, one behind the other, packed into one file by a program of this session. No condition. -/
import Derived.Test.YtlhiaihmkjlaaaaGreatMqJ
import Derived.OrdersIn
import Derived.RangeFuncNested
set_option linter.unusedVariables false
set_option linter.unusedSimpArgs false
set_option maxRecDepth 100000
section
namespace Go.Proofs.YtlhiaihmkjlaaaaGreat.Av
open Go Go.RowKit
structure DsC (s : StS) (os : Nat) (a b c d p : AV) (pv : List OpV) (H : AH) : Prop where
 obj : H[os]? = some (some (.cells [a,b,c,d,p,I s.cap,I s.made,I s.armed,B s.off]))
 now : ImV s.now.1 s.now.2 (.agg [a,b])
 kept : ImV s.kept.1 s.kept.2 (.agg [c,d])
 pm : pv.map OpV.o=s.pend
 ps : zbZ H 8 p=some (pv.flatMap encO,pv.length)
 po : zkbZ p=true
 pi : os ∉ idS p
def DsAt (s : StS) (os : Nat) (p : AV) (H : AH) : Prop:=∃ a b c d pv,DsC s os a b c d p pv H
theorem DsC.lt {s : StS} {os : Nat} {a b c d p : AV} {pv : List OpV} {H : AH} (h : DsC s os a b c d p pv H) : os < H.length:=(gSI.1 h.obj).1
theorem DsC.grew {s : StS} {os : Nat} {a b c d p : AV} {pv : List OpV} {H H' : AH} (h : DsC s os a b c d p pv H) (g : Grew H H') : DsC s os a b c d p pv H' :=
 ⟨g.cells h.obj,h.now,h.kept,h.pm,g.slice h.ps,h.po,h.pi⟩
theorem DsAt.grew {s : StS} {os : Nat} {p : AV} {H H' : AH} (h : DsAt s os p H) (g : Grew H H') : DsAt s os p H':=by
 obtain ⟨a,b,c,d,pv,h⟩:=h;exact ⟨a,b,c,d,pv,h.grew g⟩
theorem DsAt.os_lt {s : StS} {os : Nat} {p : AV} {H : AH} (h : DsAt s os p H) : os < H.length:=by
 obtain ⟨a,b,c,d,pv,h⟩:=h;exact h.lt
theorem DsAt.p_lt {s : StS} {os : Nat} {p : AV} {H : AH} (h : DsAt s os p H) : ∀ j ∈ idS p,j < H.length:=by
 obtain ⟨a,b,c,d,pv,h⟩:=h;exact λj q=>zqZ h.ps j q
theorem DsAt.keep {s : StS} {os : Nat} {p : AV} {H H' : AH} (h : DsAt s os p H) (k1 : H'[os]? = H[os]?) (k2 : ∀ i ∈ idS p,H'[i]? = H[i]?) : DsAt s os p H':=by
 obtain ⟨a,b,c,d,pv,h⟩:=h;exact ⟨a,b,c,d,pv,k1.trans h.obj,h.now,h.kept,h.pm,zcZ h.ps k2,h.po,h.pi⟩
theorem DsC.set {s s' : StS} {os : Nat} {a b c d a' b' c' d' p : AV} {pv : List OpV} {H : AH} (h : DsC s os a b c d p pv H) (hn : ImV s'.now.1 s'.now.2 (.agg [a',b'])) (hk : ImV s'.kept.1 s'.kept.2 (.agg [c',d'])) (hp : s'.pend=s.pend) :
  DsC s' os a' b' c' d' p pv (H.set os (some (.cells [a',b',c',d',p,I s'.cap,I s'.made,I s'.armed,B s'.off])))∧StF os p p H (H.set os (some (.cells [a',b',c',d',p,I s'.cap,I s'.made,I s'.armed,B s'.off]))):=by
 refine ⟨⟨gSS h.lt,hn,hk,by rw [hp]; exact h.pm,zcZ h.ps λi q=>gSN (λe=>h.pi (by rw [e]; exact q)),h.po,h.pi⟩,by simp,λj _ hne _=>gSN (Ne.symm hne),λ_ q=>.inl q⟩
theorem rdD (a b c d e f g h i : AV) : zrZ true 2 [a,b,c,d,e,f,g,h,i] 0=some (.agg [a,b])∧zrZ true 2 [a,b,c,d,e,f,g,h,i] 2=some (.agg [c,d]):=⟨rfl,rfl⟩
theorem stD {H : AH} {os : Nat} {x0 x1 x2 x3 x4 x5 x6 x7 x8 a b : AV} (h : H[os]? = some (some (.cells [x0,x1,x2,x3,x4,x5,x6,x7,x8]))) (ha : oneA a=true) (hb : oneA b=true) :
  ast 2 H (.ptr os 0) (.agg [a,b])=some (H.set os (some (.cells [a,b,x2,x3,x4,x5,x6,x7,x8])))∧ast 2 H (.ptr os 2) (.agg [a,b])=some (H.set os (some (.cells [x0,x1,a,b,x4,x5,x6,x7,x8]))):=by
 constructor
 ·rw [zceZ (n:=2) (off:=0) (xs:=[a,b]) (by simp [ha,hb]) h rfl (by simp)]; rfl
 ·rw [zceZ (n:=2) (off:=2) (xs:=[a,b]) (by simp [ha,hb]) h rfl (by simp)]; rfl
theorem RNew_c (room : Int) (H : AH) (hr : room≤9223372036854775807) : ∃ r H',(r = .ptr H.length 0∧H'.length=H.length + 1∧DsAt (newS room) H.length nilSl H'∧Grew H H')∧BCall Tryz.prog 31 [I room] H r H':=zveZ (by
 unfold zpnZ;have e1 : amm imx [I room,(I 0)]=some (I (max room 0)):=by rw [zbbqZ,imx_eq,Int.max_comm]
 have e2 : amm imn [I (max room 0),(I 4096)]=some (I (min (max room 0) 4096)):=by rw [zbbqZ,imn_eq,Int.min_comm]
 have e3 : abl [nilSl,nilSl,nilSl,nilSl,nilSl,(I 0),(I 0),(I 0),(B false)] [(5,1,I (min (max room 0) 4096)),(7,1,(I (-1)))]=some (.agg [nilSl,nilSl,nilSl,nilSl,nilSl,I (min (max room 0) 4096),I 0,I (-1),B false]):=rfl;have e4 : anew H (.agg [nilSl,nilSl,nilSl,nilSl,nilSl,I (min (max room 0) 4096),I 0,I (-1),B false])=some (.ptr H.length 0,H ++ [some (.cells [nilSl,nilSl,nilSl,nilSl,nilSl,I (min (max room 0) 4096),I 0,I (-1),B false])]):=by simp
 rw [e1,zdZ,e2,zdZ,e3,zdZ,e4,zbtZ];have hI : ImV [] [] (.agg [nilSl,nilSl]):=⟨nilSl,nilSl,[],rfl,SV.nil,SV.nil,rfl⟩;exact ⟨rfl,by simp,⟨nilSl,nilSl,nilSl,nilSl,[],⟨top1,hI,hI,rfl,rfl,rfl,by simp [idS]⟩⟩,Grew.app _ _⟩)
theorem RArm_c {s : StS} {os : Nat} {p : AV} {H : AH} (h : DsAt s os p H) (n : Int) : ∃ r H',(r = .tup []∧DsAt (armS s n) os p H'∧StF os p p H H')∧BCall Tryz.prog 42 [.ptr os 0,I n] H r H':=ztvZ (by
 obtain ⟨a,b,c,d,pv,h⟩:=h;unfold zozZ;have e1 : amm imx [I n,(I (-1))]=some (I (max n (-1))):=by rw [zbbqZ,imx_eq,Int.max_comm]
 obtain ⟨h2,h3⟩:=h.set (s':=armS s n) h.now h.kept rfl;have e2 : ast 1 H (.ptr os 7) (I (max n (-1)))=some (H.set os (some (.cells [a,b,c,d,p,I s.cap,I s.made,I (max n (-1)),B s.off]))):=fld h.obj (by simp) rfl;simp only [e1,zdZ,zgZ,ziZ,Nat.zero_add,e2,zcyZ];exact ⟨by trivial,⟨a,b,c,d,pv,h2⟩,h3⟩)
theorem Rdeed_c {s : StS} {os : Nat} {p : AV} {H : AH} (h : DsAt s os p H) (hb : -1≤s.armed∧s.armed≤9223372036854775807) : ∃ r H',(r=B (deedS s).1∧DsAt (deedS s).2 os p H'∧StF os p p H H')∧BCall Tryz.prog 138 [.ptr os 0] H r H':=zsgZ (by
 obtain ⟨a,b,c,d,pv,h⟩:=h;unfold znbZ;simp only [zgZ,zdZ,ziZ,Nat.zero_add,znZ h.obj,zhZ,gCS,gCZ,zbbsZ,zsZ]
 have j3 : ∀ (s' : StS) (b0 : Bool) (H' : AH),DsC s' os a b c d p pv H'→StF os p p H H'→deedS s=(!s'.off,s')→zdgZ (.ptr os 0) H' (λr H'=>r=B (deedS s).1∧DsAt (deedS s).2 os p H'∧StF os p p H H'):=by
  intro s' b0 H' h' f e;rw [zpgZ]; unfold zikZ;simp only [zgZ,zdZ,ziZ,Nat.zero_add,znZ h'.obj,zhZ,gCS,gCZ,zjxZ,e];exact ⟨by trivial,⟨a,b,c,d,pv,h'⟩,f⟩
 have j1 : ∀ (s' : StS) (H' : AH),DsC s' os a b c d p pv H'→StF os p p H H'→(s'.off=true→deedS s=(false,s'))→(s'.off=false→s'=s∧s.armed ≠ 0)→s'.armed=s.armed→zdcZ (.ptr os 0) H' (λr H'=>r=B (deedS s).1∧DsAt (deedS s).2 os p H'∧StF os p p H H'):=by
  intro s' H' h' f e1 e2 e3;rw [zpiZ]; unfold zhsZ;simp only [zgZ,zdZ,ziZ,Nat.zero_add,znZ h'.obj,zhZ,gCS,gCZ,zjxZ,zgsZ];cases ho : s'.off with
  | true =>
   simp only [Bool.not_true,show ((false == true)=false) from rfl,zrrZ,zdZ,zbcZ,if_false,Bool.false_eq_true];rw [zgyZ]; unfold zdzZ;simp only [zsZ,zmZ];exact j3 s' true H' h' f (by rw [ho]; exact e1 ho)
  | false =>
   obtain ⟨rfl,h0⟩:=e2 ho;have hn : ¬ (s'.off=true∨s'.armed=0):=by rintro (q | q); rw [ho] at q; cases q; exact h0 q
   simp only [Bool.not_false,beq_self_eq_true,zcpZ,zdZ,zgZ,ziZ,Nat.zero_add,znZ h'.obj,zhZ,gCS,gCZ,zbbmZ,zbcZ,if_true];rw [zgyZ]; unfold zdzZ
   by_cases hp : 0 < s'.armed
   ·have e : deedS s'=(true,{ s' with armed:=s'.armed - 1 }):=by unfold deedS; rw [if_neg hn,if_pos hp]
    obtain ⟨h2,h3⟩:=h'.set (s':={ s' with armed:=s'.armed - 1 }) h'.now h'.kept rfl;have q1 : abI .sub (I s'.armed) (I 1)=some (I (s'.armed - 1)):=zffZ (by omega) (by omega);have q2 : ast 1 H' (.ptr os 7) (I (s'.armed - 1))=some (H'.set os (some (.cells [a,b,c,d,p,I s'.cap,I s'.made,I (s'.armed - 1),B s'.off]))):=fld h'.obj (by simp) rfl;simp only [hp,dTt,zsZ,zbdZ,zgZ,zdZ,ziZ,Nat.zero_add,znZ h'.obj,zhZ,gCS,gCZ,q1,q2,zcyZ];exact j3 _ true _ h2 (f.trans h3) (by simp only [ho,Bool.not_false] at e ⊢; exact e)
   ·have e : deedS s'=(true,s'):=by unfold deedS; rw [if_neg hn,if_neg hp]
    simp only [hp,dFf,zsZ,zmZ];exact j3 s' true H' h' f (by rw [ho]; exact e)
 by_cases h0 : s.armed=0
 ·obtain ⟨h2,h3⟩:=h.set (s':={ s with off:=true }) h.now h.kept rfl
  have e2 : ast 1 H (.ptr os 8) (B true)=some (H.set os (some (.cells [a,b,c,d,p,I s.cap,I s.made,I s.armed,B true]))):=fld h.obj (by simp) rfl;simp only [h0,dTt,zbdZ];rw [h0] at e2;simp only [e2,zcyZ];have h2':=h2;simp only [h0] at h2 h3;exact j1 _ _ h2 h3 (λ_=>by unfold deedS; rw [if_pos (.inr h0)]; simp [h0]) (λq=>by cases q) h0.symm
 ·simp only [h0,dFf,zmZ]
  exact j1 s H h (.refl _ _ _) (λq=>by
   unfold deedS;rw [if_pos (.inl q)]
   congr 1
   cases s;simp only at q;subst q
   rfl) (λ_=>⟨rfl,h0⟩) rfl)
theorem Rdo_c {N : Nat} {s : StS} {os : Nat} {p bv : AV} {H : AH} {o : OpM} (h : DsAt s os p H) (hw : SW N s) (hN : N≤900000) (hb : SV encU 1 o.b bv) (ho : OpB o) :
  ∃ r H',(r=I (doS s o).1∧∃ p',DsAt (doS s o).2 os p' H'∧StF os p p' H H')∧BCall Tryz.prog 100 [.ptr os 0,.agg (opA o bv)] H r H':=by
 have h0:=h;obtain ⟨a0,b0,c0,d0,pv0,hc0⟩:=h;have obv:=SV.oneA hb;have e1 : anew H (.agg (opA o bv))=some (.ptr H.length 0,H ++ [some (.cells (opA o bv))]):=by simp [opA,obv]
 have g:=Grew.app H [some (.cells (opA o bv))];obtain ⟨r,H3,⟨rfl,h3,f3⟩,hc⟩:=Rdeed_c (h0.grew g) hw.armed;have sm:=hw.now.sm (by omega);obtain ⟨q1,q2,q3,q4,q5⟩:=zysZ s;cases hd : (deedS s).1 with
 | false =>
  have e : doS s o=(8,(deedS s).2):=by unfold doS; rw [if_neg (by rw [hd]; simp)]
  rw [e];refine zlxZ ?_;unfold zjlZ;rw [e1,zbtZ];refine bC_of hc ?_;simp only [hd,zjxZ,zdZ,zsZ,Bool.not_false,zbdZ];exact ⟨by trivial,p,h3,(StF.of_grew g).trans f3⟩
 | true =>
  have e : doS s o=(0,{ (deedS s).2 with now:=zmrZ s.now.1 s.now.2 o,pend:=s.pend ++ [o] }):=by unfold doS; rw [if_pos hd]
  rw [e];have hos : os < H.length:=hc0.lt;have hid : ∀ j ∈ idS p,j < H.length:=λj q=>zqZ hc0.ps j q
  obtain ⟨a,b,c,d,pv,h3⟩:=h3;have hl3 : H.length + 1≤H3.length:=by have:=f3.len; simpa using this
  have c3 : H3[H.length]? = some (some (.cells (opA o bv))):=by
   rw [f3.same H.length (by simp) (by omega) (λq=>by have:=hid _ q; omega)]; exact top1
  obtain ⟨R,hR,hp⟩:=ref_Apply_p (o:=o) (bv:=bv) h3.now (by rw [q1]; exact sm) hb (by have:=ho.1; omega) (by have:=ho.2.1; omega) (by have:=ho.2.2; omega);rw [q1] at hR;obtain ⟨a',b',rfl,oa,ob⟩:=hR.agg2;have rd8 : ∀ w : AV,zrZ true 8 (opA o w) 0=some (.agg (opA o w)):=λ_=>rfl
  obtain ⟨h4,f4⟩:=h3.set (s':={ (deedS s).2 with now:=zmrZ s.now.1 s.now.2 o }) hR h3.kept rfl;have c4 : (H3.set os (some (AObj.cells [a',b',c,d,p,I (deedS s).2.cap,I (deedS s).2.made,I (deedS s).2.armed,B (deedS s).2.off])))[H.length]? = some (some (.cells (opA o bv))):=by rw [gSN (by omega)]; exact c3
  simp only at h4 f4;have hl4 : (H3.set os (some (AObj.cells [a',b',c,d,p,I (deedS s).2.cap,I (deedS s).2.made,I (deedS s).2.armed,B (deedS s).2.off]))).length=H3.length:=by simp
  have q0:=(stD h3.obj oa ob).1;generalize hH4 : H3.set os (some (AObj.cells [a',b',c,d,p,I (deedS s).2.cap,I (deedS s).2.made,I (deedS s).2.armed,B (deedS s).2.off]))=H4 at *;have hpl : pv.length=s.pend.length:=by rw [← q3,← h3.pm,List.length_map]
  have hplN:=hw.plen;have hbb:=ho.1
  -- whatever the copy's value is
  have main : ∀ (w : AV) (H5 : AH),oneA w=true→aap 1 1 H4 nilSl bv=some (w,H5)→Grew H4 H5 →
    ∃ r H6,aap 8 96 (H5.set H.length (some (.cells (opA o w)))) p (.imm (opA o w) 1 8)=some (r,H6)∧zkbZ r=true∧zbZ H6 8 r=some (pv.flatMap encO ++ opA o w,pv.length + 1)∧H5.length≤H6.length ∧
     (∀ i,i < H5.length→i ≠ H.length→i ∉ idS p→H6[i]? = H5[i]?)∧(∀ i ∈ idS r,i ∈ idS p∨H5.length≤i) ∧
     BCall Tryz.prog 100 [.ptr os 0,.agg (opA o bv)] H (I 0) (H6.set os (some (.cells [a',b',c,d,r,I (deedS s).2.cap,I (deedS s).2.made,I (deedS s).2.armed,B (deedS s).2.off]))):=by
   intro w H5 ow ha5 g5;have lt5 : H.length < H5.length:=by have:=g5.1; omega
   have s5 : ast 1 H5 (.ptr H.length 7) w=some (H5.set H.length (some (.cells (opA o w)))):=by
    rw [zceZ (n:=1) (xs:=[w]) (cs:=opA o bv) (zzZ ow) (g5.cells c4) rfl (by simp [opA])];simp [opA,zlhZ]
   have c6 : (H5.set H.length (some (AObj.cells (opA o w))))[H.length]? = some (some (.cells (opA o w))):=gSS lt5
   have o6 : (H5.set H.length (some (AObj.cells (opA o w))))[os]? = some (some (.cells [a',b',c,d,p,I (deedS s).2.cap,I (deedS s).2.made,I (deedS s).2.armed,B (deedS s).2.off])):=by
    rw [gSN (by omega)]; exact g5.cells h4.obj
   have p6 : zbZ (H5.set H.length (some (AObj.cells (opA o w)))) 8 p=some (pv.flatMap encO,pv.length):=zcZ (g5.slice h4.ps) λi q=>gSN (by have:=hid i q; omega)
   have e6 : absf 8 1 (zrow [(I 0),(I 0),(I 0),(I 0),(B false),(.lit (.string ⟨#[]⟩)),(.lit (.string ⟨#[]⟩)),nilSl] 1) [(0,8,.agg (opA o w))]=some (.imm (opA o w) 1 8):=by
    simp [absf,zrow,opA,cellsA_agg,ow,zlhZ]
   have x1 : zcsZ (H5.set H.length (some (AObj.cells (opA o w)))) 8 (.imm (opA o w) 1 8)=some (opA o w,1):=zkZ (by simp [zbZ,opA]);obtain ⟨r,H6,a1,a2,a3,a4,a5,a6⟩:=zkuZ (bytes:=96) p6 h4.po x1 (by omega);rw [List.length_set] at a4 a6
   have a5' : ∀ i,i < H5.length→i ≠ H.length→i ∉ idS p→H6[i]? = H5[i]?:=λi hi hn hp=>by
    rw [a5 i (by rw [List.length_set]; exact hi) hp,gSN (Ne.symm hn)]
   have c7 : H6[os]? = some (some (.cells [a',b',c,d,p,I (deedS s).2.cap,I (deedS s).2.made,I (deedS s).2.armed,B (deedS s).2.off])):=by
    rw [a5' os (by omega) (by omega) h4.pi]; exact g5.cells h4.obj
   have e7 : ast 1 H6 (.ptr os 4) r=some (H6.set os (some (.cells [a',b',c,d,r,I (deedS s).2.cap,I (deedS s).2.made,I (deedS s).2.armed,B (deedS s).2.off]))):=fld c7 (by simp) (zxZ a2);refine ⟨r,H6,a1,a2,a3,a4,a5',a6, ?_⟩
   obtain ⟨r',H',⟨rfl,rfl⟩,hcall⟩:=zlxZ (a0:=.ptr os 0) (a1:=.agg (opA o bv)) (H:=H) (K:=λr' H'=>r'=I 0∧H'=H6.set os (some (.cells [a',b',c,d,r,I (deedS s).2.cap,I (deedS s).2.made,I (deedS s).2.armed,B (deedS s).2.off]))) (by
    unfold zjlZ;rw [e1,zbtZ];refine bC_of hc ?_;simp only [hd,zjxZ,zdZ,zsZ,Bool.not_true,zmZ,zgZ,ziZ,Nat.zero_add,znZ h3.obj,(rdD _ _ _ _ _ _ _ _ _).1,znZ c3,rd8];refine bP_of hp ?_;have i7 : (opA o bv)[7]? = some bv:=rfl;simp only [zgZ,zdZ,ziZ,Nat.zero_add,q0,zcyZ,znZ c4,zhZ,i7,ha5,zbtZ,s5,znZ o6,gCS,gCZ,znZ c6,rd8,e6,a1,e7];exact ⟨by trivial,by trivial⟩)
   exact hcall
  have bvl:=hb.bytes H4;have xa : zcsZ H4 1 bv=some (encB o.b,o.b.length):=zkZ bvl
  have fr : ∀ (H5 H6 X : AH) (r : AV),Grew H4 H5→H5.length≤H6.length→(∀ i,i < H5.length→i ≠ H.length→i ∉ idS p→H6[i]? = H5[i]?)→(∀ i ∈ idS r,i ∈ idS p∨H5.length≤i)→X.length=H6.length→(∀ j,j < H.length→j ≠ os→j ∉ idS p→X[j]? = H6[j]?)→StF os p r H X:=by
   intro H5 H6 X r g5 a4 a5 a6 hx1 hx2
   have:=g5.1
   refine ⟨by omega,λj hj hne hjp=>?_,λj hj=>(a6 j hj).imp id (λz=>by omega)⟩;rw [hx2 j hj hne hjp,a5 j (by omega) (by omega) hjp,g5.2 j (by omega),f4.same j (by omega) hne hjp,f3.same j (by simp; omega) hne hjp,g.2 j hj]
  rcases Nat.eq_zero_or_pos o.b.length with hz | hz
  ·have hnil : o.b=[]:=List.length_eq_zero_iff.1 hz
   have ha5 : aap 1 1 H4 nilSl bv=some (nilSl,H4):=by
    unfold aap; rw [xa]; simp only [aapp1,hz,if_true]
   obtain ⟨r,H6,a1,a2,a3,a4,a5,a6,hcall⟩:=main nilSl H4 rfl ha5 (Grew.refl _);have hsv : SV encU 1 o.b nilSl:=by rw [hnil]; exact SV.nil
   have hor : os ∉ idS r:=λq=>(a6 os q).elim h4.pi (λq=>by omega)
   have hl6 : os < H6.length:=by omega
   refine ⟨_,_,⟨rfl,r,⟨a',b',c,d,pv ++ [⟨o,nilSl,hsv⟩],gSS hl6,hR,h3.kept, ?_, ?_,a2,hor⟩, ?_⟩,hcall⟩
   ·rw [List.map_append,h3.pm,q3]; rfl
   ·have:=zcZ a3 (H':=H6.set os (some (.cells [a',b',c,d,r,I (deedS s).2.cap,I (deedS s).2.made,I (deedS s).2.armed,B (deedS s).2.off]))) λi q=>gSN (λe=>hor (by rw [e]; exact q))
    rw [this]; simp [encO]
   ·exact fr H4 H6 _ r (Grew.refl _) a4 a5 a6 (by rw [List.length_set]) λj hj hne hjp=>gSN (Ne.symm hne)
  ·have ha5 : aap 1 1 H4 nilSl bv=some (.sl H4.length 0 o.b.length 1 (.ge o.b.length),H4 ++ [some (.cells (encB o.b))]):=by
    unfold aap; rw [xa];have : ¬ o.b.length=0:=by omega
    simp only [aapp1,this,if_false];rw [if_pos (by omega)]
   have g5:=Grew.app H4 [some (AObj.cells (encB o.b))];have l5 : (H4 ++ [some (AObj.cells (encB o.b))]).length=H4.length + 1:=by simp
   have b5 : (H4 ++ [some (AObj.cells (encB o.b))])[H4.length]? = some (some (AObj.cells (encB o.b))):=top1;generalize (H4 ++ [some (AObj.cells (encB o.b))])=H5 at *;obtain ⟨r,H6,a1,a2,a3,a4,a5,a6,hcall⟩:=main (.sl H4.length 0 o.b.length 1 (.ge o.b.length)) H5 rfl ha5 g5;have hor : os ∉ idS r:=λq=>(a6 os q).elim h4.pi (λq=>by omega)
   have hl6 : os < H6.length:=by omega
   obtain ⟨q,off,cap,c1,rfl,hq,hfit,a31⟩:=zvvZ a3 a2 (Nat.succ_pos _);have a31:=a31.symm
   have hlenp : (pv.flatMap encO).length=pv.length * 8:=by
    have:=zbpZ h4.ps
    exact this
   have hqB : H4.length ≠ q:=λz=>by
    rcases a6 q (by simp [idS]) with y | y
    ·have:=hid q y; omega
    ·omega
   have hqo : q ≠ os:=λz=>hor (by simp [idS,z])
   have hk : c1[off + (pv.length * 8 + 7)]? = some (.sl H4.length 0 o.b.length 1 (.ge o.b.length)):=by
    have h1 : ((c1.drop off).take ((pv.length + 1) * 8))[pv.length * 8 + 7]? = some (.sl H4.length 0 o.b.length 1 (.ge o.b.length)):=by
     rw [a31,List.getElem?_append_right (by omega),hlenp,show pv.length * 8 + 7 - pv.length * 8=7 by omega];rfl
    rw [List.getElem?_take_of_lt (by omega),List.getElem?_drop] at h1;exact h1
   have hX1 : (H6.set os (some (AObj.cells [a',b',c,d,.sl q off (pv.length + 1) 8 cap,I (deedS s).2.cap,I (deedS s).2.made,I (deedS s).2.armed,B (deedS s).2.off])))[q]? = some (some (.cells c1)):=by
    rw [gSN (Ne.symm hqo)]; exact hq
   have hB6 : H6[H4.length]? = some (some (.cells (encB o.b))):=by
    rw [a5 H4.length (by omega) (by omega) (λz=>by have:=hid _ z; omega)]; exact b5
   have hBo : os ≠ H4.length:=by omega
   have hX2 : (H6.set os (some (AObj.cells [a',b',c,d,.sl q off (pv.length + 1) 8 cap,I (deedS s).2.cap,I (deedS s).2.made,I (deedS s).2.armed,B (deedS s).2.off])))[H4.length]? = some (some (.cells (encB o.b))):=by
    rw [gSN hBo]; exact hB6
   have hfz:=BCall.fzCell hcall hqB hX2 hX1 hk (by
    rw [List.drop_zero,Nat.mul_one,List.take_of_length_le (by rw [zjcZ]; exact Nat.le_refl _)];exact zuwZ o.b)
   rw [List.drop_zero,Nat.mul_one,List.take_of_length_le (by rw [zjcZ]; exact Nat.le_refl _)] at hfz
   have hsv : SV encU 1 o.b (.imm (encB o.b) o.b.length 1):=by
    have:=SV.imm (enc:=encU) (sz:=1) (l:=o.b) (λ_=>rfl) (λx hx=>rfl)
    rwa [zwyZ] at this
   have hql : q < ((H6.set os (some (AObj.cells [a',b',c,d,.sl q off (pv.length + 1) 8 cap,I (deedS s).2.cap,I (deedS s).2.made,I (deedS s).2.armed,B (deedS s).2.off]))).set H4.length none).length:=by
    rw [List.length_set,List.length_set]; exact (gSI.1 hq).1
   refine ⟨_,_,⟨rfl,.sl q off (pv.length + 1) 8 cap,⟨a',b',c,d,pv ++ [⟨o,.imm (encB o.b) o.b.length 1,hsv⟩], ?_,hR,h3.kept, ?_, ?_,rfl,hor⟩, ?_⟩,hfz⟩
   ·rw [gSN hqo,gSN (Ne.symm hBo)]
    exact gSS hl6
   ·rw [List.map_append,h3.pm,q3]; rfl
   ·rw [zbbZ (gSS hql) (by rw [List.length_set]; exact hfit),List.drop_set,if_neg (by omega),show off + (pv.length * 8 + 7) - off=pv.length * 8 + 7 by omega,List.take_set,a31,List.set_append_right _ _ (by omega),hlenp,show pv.length * 8 + 7 - pv.length * 8=7 by omega,List.flatMap_append,List.length_append]
    rfl
   ·refine fr H5 H6 _ _ g5 a4 a5 a6 (by simp) λj hj hne hjp=>?_
    have hjq : q ≠ j:=λz=>by
     rcases a6 q (by simp [idS]) with y | y
     ·exact hjp (z ▸ y)
     ·omega
    rw [gSN hjq,gSN (by omega),gSN (Ne.symm hne)]
theorem ROpen_c {N : Nat} {s : StS} {os : Nat} {p : AV} {H : AH} (h : DsAt s os p H) (hw : SW N s) (hN : N < 900000) {name : List UInt8} (hn : name.length≤9223372036854775807) (make : Bool) :
  ∃ r H',(r = .tup [I (openS s name make).1.1,I (openS s name make).1.2]∧∃ p',DsAt (openS s name make).2 os p' H'∧StF os p p' H H')∧BCall Tryz.prog 41 [.ptr os 0,S (bstr name),B make] H r H':=zskZ (by
 unfold zmvZ;have h':=h;obtain ⟨a,b,c,d,pv,hc⟩:=h;have hmade:=hw.made
 have stop : ∀ x y : Int,findS s name=(x,y)→y ≠ 3→(∃ p',DsAt (openS s name make).2 os p' H∧StF os p p' H H)∧openS s name make=((x,y),s):=by
  intro x y e e2;have : openS s name make=(findS s name,s):=by unfold openS; rw [if_pos (.inl (by rw [e]; exact e2))]
  rw [this,e];exact ⟨⟨p,h',.refl _ _ _⟩,rfl⟩
 simp only [zgZ,zdZ,ziZ,Nat.zero_add,znZ hc.obj,zhZ,gCS,gCZ,zsZ];cases hoff : s.off with
 | true =>
  have e : findS s name=(0,8):=by unfold findS; rw [if_pos hoff]
  obtain ⟨q1,q2⟩:=stop 0 8 e (by omega);simp only [zbdZ];exact ⟨by rw [q2],q1⟩
 | false =>
  simp only [zmZ];refine zyZ (zslZ hn) ?_
  by_cases hm : mayN name
  ·have hf:=ref_Find_p hc.now (hw.now.sm (by omega)) name
   obtain ⟨w1,w2⟩:=findI_w hw.now.1 name;rw [w1,show decide (hasI s.now.1 s.now.2 name)=decide (hasK Nm.name s.now.1 name) from decide_eq_decide.2 w2] at hf;simp only [hm,dTt,zjxZ,Bool.not_true,zdZ,zsZ,zmZ,zgZ,ziZ,Nat.zero_add,znZ hc.obj,(rdD _ _ _ _ _ _ _ _ _).1];refine zyZ hf ?_
   by_cases hk : hasK Nm.name s.now.1 name
   ·have e : findS s name=(nameI s.now.1 name,0):=by unfold findS; rw [if_neg (by rw [hoff]; simp),if_neg (λq=>q hm),if_pos hk]
    obtain ⟨q1,q2⟩:=stop _ _ e (by omega);simp only [zoZ,gCS,gCZ,zdZ,hk,dTt,zsZ,zbdZ];exact ⟨by rw [q2],q1⟩
   ·have e3 : findS s name=(0,3):=by unfold findS; rw [if_neg (by rw [hoff]; simp),if_neg (λq=>q hm),if_neg hk]
    simp only [zoZ,gCS,gCZ,zdZ,hk,dFf,zsZ,zmZ,zjxZ];cases make with
    | false =>
     have e : openS s name false=((0,3),s):=by unfold openS; rw [if_pos (.inr rfl),e3]
     rw [e];simp only [Bool.not_false,zbdZ];exact ⟨by trivial,p,h',.refl _ _ _⟩
    | true =>
     have hn0 : ¬ ((findS s name).2 ≠ 3∨true=false):=by rintro (q | q); exact q (by rw [e3]); cases q
     obtain ⟨a',b',dv,eab,sa,sb,-⟩:=hc.now;injection eab with eab; injection eab with ea eb;subst ea;simp only [Bool.not_true,zmZ,zgZ,zdZ,ziZ,Nat.zero_add,Nat.add_zero,znZ hc.obj,zhZ,gCS,gCZ,sa.len,abI_geq,zsZ]
     by_cases h16 : 16≤s.now.1.length
     ·have h16I : (16 : Int)≤(s.now.1.length : Int):=by omega
      have e : openS s name true=((0,4),s):=by unfold openS; rw [if_neg hn0,if_pos h16]
      rw [e];simp only [h16I,dTt,zbdZ];exact ⟨by trivial,p,h',.refl _ _ _⟩
     ·have h16I : ¬ (16 : Int)≤(s.now.1.length : Int):=by omega
      have ho : OpB (opCre name (s.made + 1)):=⟨by simp [opCre],hm.2.1,by simp [opCre]⟩;have e1 : abI .add (I s.made) (I 1)=some (I (s.made + 1)):=zuZ (by omega) (by omega);have e2 : abl [(I 0),(I 0),(I 0),(I 0),(B false),(.lit (.string ⟨#[]⟩)),(.lit (.string ⟨#[]⟩)),nilSl] [(0,1,(I 1)),(5,1,S (bstr name)),(1,1,I (s.made + 1))]=some (.agg (opA (opCre name (s.made + 1)) nilSl)):=rfl;simp only [h16I,dFf,zmZ,zgZ,zdZ,ziZ,Nat.zero_add,znZ hc.obj,zhZ,gCS,gCZ,e1,e2];obtain ⟨r,H2,⟨rfl,p2,h2,f2⟩,hcall⟩:=Rdo_c (bv:=nilSl) h' hw (by omega) SV.nil ho;refine bC_of hcall ?_;simp only [znvZ,zdZ,zsZ]
      by_cases hd : (doS s (opCre name (s.made + 1))).1=0
      ·have e : openS s name true=((s.made + 1,0),{ (doS s (opCre name (s.made + 1))).2 with made:=s.made + 1 }):=by unfold openS; rw [if_neg hn0,if_neg h16,if_neg (by rw [hd]; simp)]
       rw [e]
       have emade : (doS s (opCre name (s.made + 1))).2.made=s.made:=by
        obtain ⟨-,-,-,q4,-⟩:=zysZ s;unfold doS; split <;> exact q4
       obtain ⟨a2,b2,c2,d2,pv2,hc2⟩:=h2;obtain ⟨h3',f3⟩:=hc2.set (s':={ (doS s (opCre name (s.made + 1))).2 with made:=s.made + 1 }) hc2.now hc2.kept rfl;have e3 : ast 1 H2 (.ptr os 6) (I (s.made + 1))=some (H2.set os (some (.cells [a2,b2,c2,d2,p2,I (doS s (opCre name (s.made + 1))).2.cap,I (s.made + 1),I (doS s (opCre name (s.made + 1))).2.armed,B (doS s (opCre name (s.made + 1))).2.off]))):=fld hc2.obj (by simp) rfl;have hob:=hc2.obj;rw [emade] at hob;simp only [hd,ne_eq,not_true_eq_false,dFf,zmZ,zgZ,zdZ,ziZ,Nat.zero_add,znZ hob,zhZ,gCS,gCZ,e1,e3,zcyZ,znZ h3'.obj];exact ⟨by trivial,p2,⟨a2,b2,c2,d2,pv2,h3'⟩,f2.trans f3⟩
      ·have e : openS s name true=((0,(doS s (opCre name (s.made + 1))).1),(doS s (opCre name (s.made + 1))).2):=by unfold openS; rw [if_neg hn0,if_neg h16,if_pos hd]
       rw [e];simp only [hd,ne_eq,not_false_eq_true,dTt,zbdZ];exact ⟨by trivial,p2,h2,f2⟩
  ·have e : findS s name=(0,5):=by unfold findS; rw [if_neg (by rw [hoff]; simp),if_pos hm]
   obtain ⟨q1,q2⟩:=stop 0 5 e (by omega);simp only [hm,dFf,zjxZ,Bool.not_false,zdZ,zsZ,zbdZ];exact ⟨by rw [q2],q1⟩)
theorem Rfile_c {N : Nat} {s : StS} {os : Nat} {p : AV} {H : AH} (h : DsAt s os p H) (hw : SW N s) (hN : N≤900000) (ino : Int) :
  ∃ R,SV encE 9 (zwZ s ino).1.2 R∧∃ r H',(r = .tup [.agg [I (zwZ s ino).1.1,R],I (zwZ s ino).2]∧Grew H H')∧BCall Tryz.prog 103 [.ptr os 0,I ino] H r H':=by
 obtain ⟨a,b,c,d,pv,h⟩:=h;have e0 : abl [(I 0),nilSl] []=some (.agg [I 0,nilSl]):=rfl;have g:=Grew.app H [some (.cells [I 0,nilSl])];cases ho : s.off with
 | true =>
  have e : zwZ s ino=((0,[]),8):=by unfold zwZ; rw [if_pos ho]
  rw [e];refine ⟨nilSl,SV.nil,zfaZ ?_⟩;unfold zegZ;simp only [nwC,zbtZ,zgZ,zdZ,ziZ,Nat.zero_add,znZ (g.cells h.obj),zhZ,gCS,gCZ,ho,zsZ,zbdZ,e0,stC' H 0 (R:=nilSl) rfl,zcyZ,znZ top1,rd2];exact ⟨by trivial,Grew.app _ _⟩
 | false =>
  have sm:=hw.now.sm (by omega);obtain ⟨R,hR,hp⟩:=ref_Get_p h.now sm ino;have oR:=SV.oneA hR
  by_cases hg : hasG s.now.1 s.now.2 ino
  ·have e : zwZ s ino=(((getN s.now.1 s.now.2 ino).size,(getN s.now.1 s.now.2 ino).l),0):=by unfold zwZ; rw [if_neg (by rw [ho]; simp),if_pos hg]
   rw [e];refine ⟨R,hR,zfaZ ?_⟩;unfold zegZ;simp only [nwC,zbtZ,zgZ,zdZ,ziZ,Nat.zero_add,znZ (g.cells h.obj),zhZ,gCS,gCZ,ho,zsZ,zmZ,(rdD _ _ _ _ _ _ _ _ _).1];refine zyZ hp ?_;have g2:=Grew.app (H ++ [some (AObj.cells [I 0,nilSl])]) [some (AObj.cells [I (getN s.now.1 s.now.2 ino).size,R])]
   have e5 : ast 2 (H ++ [some (AObj.cells [I 0,nilSl])] ++ [some (AObj.cells [I (getN s.now.1 s.now.2 ino).size,R])]) (.ptr H.length 0) (.agg [I (getN s.now.1 s.now.2 ino).size,R])=some (H ++ [some (AObj.cells [I (getN s.now.1 s.now.2 ino).size,R])] ++ [some (AObj.cells [I (getN s.now.1 s.now.2 ino).size,R])]):=by
    rw [zceZ (n:=2) (xs:=[I (getN s.now.1 s.now.2 ino).size,R]) (cs:=[I 0,nilSl]) (by simp [oR]) (g2.cells top1) rfl (by simp)];simp [zlhZ]
   have g3:=Grew.app (H ++ [some (AObj.cells [I (getN s.now.1 s.now.2 ino).size,R])]) [some (AObj.cells [I (getN s.now.1 s.now.2 ino).size,R])];simp only [zoZ,gCS,gCZ,zdZ,nwC,zbtZ,stC' _ _ oR,zcyZ,hg,dTt,zjxZ,Bool.not_true,zsZ,zmZ,znZ top1,rd2,e5,znZ (g3.cells top1)];exact ⟨by trivial,(Grew.app H _).trans g3⟩
  ·have e : zwZ s ino=((0,[]),3):=by unfold zwZ; rw [if_neg (by rw [ho]; simp),if_neg hg]
   rw [e];refine ⟨nilSl,SV.nil,zfaZ ?_⟩;unfold zegZ;simp only [nwC,zbtZ,zgZ,zdZ,ziZ,Nat.zero_add,znZ (g.cells h.obj),zhZ,gCS,gCZ,ho,zsZ,zmZ,(rdD _ _ _ _ _ _ _ _ _).1];refine zyZ hp ?_;have g2:=Grew.app (H ++ [some (AObj.cells [I 0,nilSl])]) [some (AObj.cells [I (getN s.now.1 s.now.2 ino).size,R])]
   have e5 : ast 2 (H ++ [some (AObj.cells [I 0,nilSl])] ++ [some (AObj.cells [I (getN s.now.1 s.now.2 ino).size,R])]) (.ptr H.length 0) (.agg [I 0,nilSl])=some (H ++ [some (AObj.cells [I 0,nilSl])] ++ [some (AObj.cells [I (getN s.now.1 s.now.2 ino).size,R])]):=by
    rw [zceZ (n:=2) (xs:=[I 0,nilSl]) (cs:=[I 0,nilSl]) rfl (g2.cells top1) rfl (by simp)];simp [zlhZ]
   simp only [zoZ,gCS,gCZ,zdZ,nwC,zbtZ,stC' _ _ oR,zcyZ,hg,dFf,zjxZ,Bool.not_false,zsZ,zbdZ,e0,e5,znZ (g2.cells top1),rd2];exact ⟨by trivial,g.trans g2⟩
section
variable {P : Program}
structure RecAt (G : Cfg) (l : Nat) (r : Loop) : Prop where
 h : G.w.heap[l]? = some (.loop r)
 nl : ¬ G.L l
theorem RecAt.evo {G G' : Cfg} {l : Nat} {r : Loop} (h : RecAt G l r) (hE : Evo G G') : RecAt G' l r:=⟨(keep_get hE h.h h.nl).1,(keep_get hE h.h h.nl).2⟩
structure EvoX (l : Nat) (G G' : Cfg) : Prop where
 os : G'.w.os=G.w.os
 tape : G'.w.tape=G.w.tape
 output : G'.w.output=G.w.output
 size : G.w.heap.size≤G'.w.heap.size
 keep : ∀ k,k < G.w.heap.size→k ≠ l→¬ G.L k→G'.w.heap[k]? = G.w.heap[k]?∧¬ G'.L k
 n : G.n≤G'.n
 μ : ∀ o,o < G.n→G'.μ o=G.μ o
 K : G'.K=G.K
 has : ∀ ad vs,Has G ad vs→Has G' ad vs
theorem EvoX.tr {l : Nat} {G G' : Cfg} (h : EvoX l G G') : Tr G G':=⟨h.n,h.μ,h.has⟩
theorem Evo.x {l : Nat} {G G' : Cfg} (h : Evo G G') : EvoX l G G':=⟨h.os,h.tape,h.output,h.size,λk hk _ hL=>h.keep k hk hL,h.n,h.μ,h.K,λ_ _ hh=>hh.evo h⟩
theorem EvoX.trans {l : Nat} {A B C : Cfg} (h : EvoX l A B) (k : EvoX l B C) : EvoX l A C :=
 ⟨k.os.trans h.os,k.tape.trans h.tape,k.output.trans h.output,Nat.le_trans h.size k.size,λi hi hne hL=>by
  obtain ⟨a1,a2⟩:=h.keep i hi hne hL;obtain ⟨b1,b2⟩:=k.keep i (Nat.lt_of_lt_of_le hi h.size) hne a2;exact ⟨b1.trans a1,b2⟩,Nat.le_trans h.n k.n,λo ho=>(k.μ o (Nat.lt_of_lt_of_le ho h.n)).trans (h.μ o ho),k.K.trans h.K,λad vs hh=>k.has ad vs (h.has ad vs hh)⟩
theorem loop_nc {r : Loop} : ∀ c e f,Obj.loop r ≠ .cells c e f:=by intro c e f h; cases h
theorem put_size (w : World) (l : Nat) (x : Obj) : (w.putObj l x).heap.size=w.heap.size:=by simp [World.putObj]
theorem EvoX.put {l : Nat} {G : Cfg} {r : Loop} (h : G.w.heap[l]? = some (.loop r)) (x : Obj) : EvoX l G (G.put l x) :=
 ⟨rfl,rfl,rfl,by simp only [Cfg.put,put_size]; exact Nat.le_refl _,λk hk hne hL=>⟨by simp only [Cfg.put]; exact World.putObj_heap_other hne,hL⟩,Nat.le_refl _,λ_ _=>rfl,rfl,(Tr.put h loop_nc x).has⟩
theorem Evo.transX {l : Nat} {A B C : Cfg} (h : Evo A B) (hl : A.w.heap.size≤l) (k : EvoX l B C) : Evo A C :=
 ⟨k.os.trans h.os,k.tape.trans h.tape,k.output.trans h.output,Nat.le_trans h.size k.size,λi hi hL=>by
  obtain ⟨a1,a2⟩:=h.keep i hi hL;obtain ⟨b1,b2⟩:=k.keep i (Nat.lt_of_lt_of_le hi h.size) (by omega) a2;exact ⟨b1.trans a1,b2⟩,Nat.le_trans h.n k.n,λo ho=>(k.μ o (Nat.lt_of_lt_of_le ho h.n)).trans (h.μ o ho),k.K.trans h.K⟩
theorem DF.x {l : Nat} {G G' : Cfg} {ρ : Rnd} {a a' : Act} (h : DF G ρ a) (hE : EvoX l G G') (ha : a'.defers=a.defers) (hn : ∀ D,G.w.heap[D]? = some (.deferred (some []))→D ≠ l) (hr : ρ.1=some l→∃ r,G'.w.heap[l]? = some (.loop r)∧¬ G'.L l) : DF G' ρ a':=by
 obtain ⟨⟨Ds,h1,h2,h3⟩,h4,h5⟩:=h;refine ⟨⟨Ds,by rw [ha,h1],h2,λD hD=>?_⟩,λl' hl'=>?_,Nat.le_trans h5 hE.size⟩
 ·obtain ⟨a1,a2,a3⟩:=h3 D hD
  obtain ⟨b1,b2⟩:=hE.keep D (Array.getElem?_eq_some_iff.1 a3).1 (hn D a3) a2;exact ⟨a1,b2,by rw [b1]; exact a3⟩
 ·by_cases c : l'=l
  ·subst c; exact hr hl'
  ·obtain ⟨r,a1,a2⟩:=h4 l' hl'
   obtain ⟨b1,b2⟩:=hE.keep l' (Array.getElem?_eq_some_iff.1 a1).1 c a2;exact ⟨r,by rw [b1]; exact a1,b2⟩
def RndOk (P : Program) (assign body : Code) (T : List AV) (p : Tmp) (x : AV) (H : AH) (J : AH→Prop) (X : Code→AH→Prop) : Prop :=
 ∃ T1,BCode P assign (T.set p x) H .normal T1 H∧ACode P body (λe _ H'=>match e with
  | .normal => J H'
  | .ret => X .ret H'
  | .exit id => X (.exit id) H'
  | _ => False) T1 H
theorem zvqZ {w : World} {l : Nat} {r : Loop} (h : w.heap[l]? = some (.loop r)) : ∀ D,w.heap[D]? = some (.deferred (some []))→D ≠ l:=by
 rintro D hD rfl;rw [h] at hD; cases hD
theorem round_yield {G : Cfg} {l : Nat} {rec : Loop} {T : List AV} {p : Tmp} {x : AV} {v : Value} {H : AH} {J : AH→Prop} {X : Code→AH→Prop} (hH : HR G H) (hR : RecAt G l rec) (hrd : rec.state = .ready) (hpd : rec.pending=none) (hps : rec.params = #[p])
  (hT : VRs G T rec.tmps.toList) (hx : VR G x v) (h : RndOk P rec.assign rec.body T p x H J X) :
  YieldAt (FW none) 0 P l #[v] G.w λe W'=>∃ (G' : Cfg) (H' : AH),G'.w=W'∧EvoX l G G'∧HR G' H'∧((e = .returned (.bool true)∧RecAt G' l rec∧J H')∨(e = .returned (.bool false)∧∃ c,RecAt G' l { rec with state:=.done,pending:=some c }∧X c H')):=by
 refine ⟨rec.fn,_,rec.assign,rec.body,run_yield hR.h (by simp [hps]),roundIn_of_wpIn trivial ?_⟩;obtain ⟨T1,hA,hB⟩:=h
 have hF : FR G (T.set p x) { tmps:=(rec.params.zip #[v]).foldl (fun tmps (t,a) => tmps.setIfInBounds t a) rec.tmps,defers:=[] } := by
  show VRs G _ _
  rw [hps];simp only [Array.zip,Array.zipWith,List.size_toArray,List.length_cons,List.length_nil];have : (#[p].zip #[v]).foldl (fun tmps (x : Tmp × Value) => tmps.setIfInBounds x.1 x.2) rec.tmps=rec.tmps.setIfInBounds p v:=by simp
  refine (?_ : VRs G (T.set p x) ((#[p].zip #[v]).foldl (fun tmps (x : Tmp × Value) => tmps.setIfInBounds x.1 x.2) rec.tmps).toList);rw [this,Array.toList_setIfInBounds];exact hT.set p hx
 have w1:=hA G G _ (some l,0) (Evo.refl G) hF ⟨⟨[],rfl,List.nodup_nil,λ_ h=>(by cases h)⟩,λl' hl'=>(by injection hl' with hl'; subst hl'; exact ⟨rec,hR.h,hR.nl⟩),Nat.zero_le _⟩ hH;refine Code.wpIn_mono ?_ w1;rintro e a1 w1' ⟨T',H',G1,rfl,hE1,hF1,hd1,hH1,hq⟩;simp only [AQ.is,Prod.mk.injEq] at hq;obtain ⟨rfl,rfl,rfl⟩:=hq;have hR1:=hR.evo hE1;refine ⟨_,run_beginRound hR1.h hrd, ?_⟩;have live : ∀ {G : Cfg} {H : AH} {r : Loop},HR G H→RecAt G l r→∀ (o : Nat) (z : AObj),H[o]? = some (some z)→(G.μ o).1 ≠ l:=λhH hR o z ho e=>hR.nl (by have:=hH.live o z ho; rwa [e] at this)
 have hX2 : EvoX l G1 (G1.put l (.loop { rec with state:=.busy })):=EvoX.put hR1.h _;have hH2:=hH1.putO (live hH1 hR1) hR1.h loop_nc (.loop { rec with state:=.busy });have hR2 : RecAt (G1.put l (.loop { rec with state:=.busy })) l { rec with state:=.busy } := ⟨World.putObj_heap_same (Array.getElem?_eq_some_iff.1 hR1.h).1,hR1.nl⟩;have w2:=hB (G1.put l (.loop { rec with state:=.busy })) (G1.put l (.loop { rec with state:=.busy })) a1 (some l,0) (Evo.refl _) (VRs.tr hX2.tr hF1) (hd1.x hX2 rfl (zvqZ hR1.h) λ_=>⟨_,hR2.h,hR2.nl⟩) hH2;refine Code.wpIn_mono ?_ w2;rintro e a3 w3 ⟨T3,H3,G3,rfl,hE3,hF3,hd3,hH3,hq⟩;have hR3:=hR2.evo hE3;have fin : ∀ x,EvoX l G (G3.put l x):=λx=>(hE1.x.trans hX2).trans (hE3.x.trans (EvoX.put hR3.h x))
 have finR : ∀ r,RecAt (G3.put l (.loop r)) l r:=λr=>⟨World.putObj_heap_same (Array.getElem?_eq_some_iff.1 hR3.h).1,hR3.nl⟩
 have finH : ∀ x,HR (G3.put l x) H3:=λx=>hH3.putO (live hH3 hR3) hR3.h loop_nc x
 cases e with
 | normal =>
  refine ⟨_,_,run_endRound none hR3.h,G3.put l _,H3,rfl,fin _,finH _,.inl ⟨rfl, ?_,hq⟩⟩
  have : ({ { rec with state:=.busy } with state:=if (none : Option Code).isNone then .ready else .done,pending:=none } : Loop)=rec:=by
   obtain ⟨s,pe,f1,f2,f3,f4,f5,f6⟩:=rec;simp only at hrd hpd;subst hrd; subst hpd; rfl
  have h2:=finR ({ { rec with state:=.busy } with state:=if (none : Option Code).isNone then .ready else .done,pending:=none });rw [this] at h2 ⊢;exact h2
 | ret => exact ⟨_,_,run_endRound (some .ret) hR3.h,G3.put l _,H3,rfl,fin _,finH _,.inr ⟨rfl,.ret,finR _,hq⟩⟩
 | exit id => exact ⟨_,_,run_endRound (some (.exit id)) hR3.h,G3.put l _,H3,rfl,fin _,finH _,.inr ⟨rfl,.exit id,finR _,hq⟩⟩
 | goto t => exact hq.elim
 | panic ch => exact hq.elim
 | outgrown => exact hq.elim
def IterOk (P : Program) (k : FuncId) (cap : List AV) (Cap : AH→Prop) (xs : List AV) : Prop :=
 ∀ (G : Cfg) (l : Nat) (rec : Loop) (T : List AV) (p : Tmp) (H : AH) (vc : List Value) (J : Nat→AH→Prop) (X : Code→AH→Prop),HR G H→RecAt G l rec→rec.state = .ready→rec.pending=none→rec.params = #[p]→VRs G T rec.tmps.toList→VRs G cap vc→J 0 H →
  (∀ i H',J i H'→Cap H')→(∀ i x H',xs[i]? = some x→J i H'→RndOk P rec.assign rec.body T p x H' (J (i + 1)) X) →
  CallsIn (FW none) 0 P k (#[.func (.yield l) #[] #[]] ++ vc.toArray) G.w λe W'=>(∃ v,e = .returned v)∧∃ (G' : Cfg) (H' : AH),G'.w=W'∧EvoX l G G'∧HR G' H'∧((RecAt G' l rec∧J xs.length H')∨∃ c,RecAt G' l { rec with state:=.done,pending:=some c }∧X c H')
theorem HR.allocO {G : Cfg} {H : AH} (hr : HR G H) (x : Obj) : HR { G with w:=G.w.alloc x } H∧Evo G { G with w:=G.w.alloc x } := by
 have hE : Evo G { G with w:=G.w.alloc x } := ⟨rfl,rfl,rfl,by simp,λk hk hL=>⟨Below.heap_alloc _ _ _ hk,hL⟩,Nat.le_refl _,λ_ _=>rfl,rfl⟩;exact ⟨⟨hr.n,λo z ho=>OR.evo hE (hr.lt_n ho) (Below.heap_alloc _ _ _ (hr.lt _ (.inl (hr.live _ _ ho)))) (hr.obj o z ho),hr.inj,hr.live,λb hb=>by have:=hr.lt b hb; simp; omega,hr.dis⟩,hE⟩
theorem marks_inj : ∀ {A B : List Nat},A.map mark=B.map mark→A=B
 | [],[],_ => rfl
 | [],b :: B,h => by simp at h
 | a :: A,[],h => by simp at h
 | a :: A,b :: B,h => by
  simp only [List.map_cons,List.cons.injEq] at h
  have h1 : a=b:=by
   have:=h.1
   injection this with h2 _;injection h2
  rw [h1,marks_inj h.2]
theorem ACode.rangeF {g : Operand} {p : Tmp} {assign body : Code} {Q : AQ} {T : List AV} {H : AH} {k : FuncId} {cap xs : List AV} {Cap : AH→Prop} (hit : IterOk P k cap Cap xs) (hgo : zxdZ P k=true) (hg : aeval T g = .fn (.func k) [] cap)
  (J : Nat→AH→Prop) (X : Code→AH→Prop) (h0 : J 0 H) (hcap : ∀ i H',J i H'→Cap H') (hr : ∀ i x H',xs[i]? = some x→J i H'→RndOk P assign body T p x H' (J (i + 1)) X) (hdone : ∀ H',J xs.length H'→Q .normal T H')
  (hout : ∀ c H',X c H'→(c = .ret∧Q .ret T H')∨∃ id,c = .exit id∧Q (.exit id) T H') : ACode P (.rangeFunc g #[p] assign body) Q T H:=by
 intro G0 G a ρ hE hF hd hH;refine wpIn_rangeFunc ?_;intro fn _
 -- the record is laid
 obtain ⟨l,mk,G1,rec,e1,hE1,hH1,hR,hrd,hpd,hps,htm,has,hbd,hsz,hd1⟩ : ∃ (l : Nat) (mk : List Deferred) (G1 : Cfg) (rec : Loop),(Instr.enterLoop fn a.tmps #[p] assign body (FW ρ.1).round).run P G.w = .ok (l,mk) G1.w∧Evo G G1∧HR G1 H∧RecAt G1 l rec∧rec.state = .ready∧rec.pending=none ∧
   rec.params = #[p]∧rec.tmps=a.tmps∧rec.assign=assign∧rec.body=body∧G.w.heap.size≤l∧DF G1 ρ { a with defers:=mk ++ a.defers } := by
  have nL : ∀ b,G.w.heap.size≤b→¬ G.L b:=λb hb hL=>by have:=hH.lt b (.inl hL); omega
  cases hρ : ρ.1 with
  | none =>
   obtain ⟨k1,k2⟩:=hH.allocO (.deferred (some []));obtain ⟨k3,k4⟩:=k1.allocO (.loop { state:=.ready,pending:=none,fn,tmps:=a.tmps,params:=#[p],assign,body,defers:=G.w.heap.size });refine ⟨G.w.heap.size + 1,_,_,{ state:=.ready,pending:=none,fn,tmps:=a.tmps,params:=#[p],assign,body,defers:=G.w.heap.size },run_enterLoop_outer _ _ _ _ _,k2.trans k4,k3,⟨?_,nL _ (by omega)⟩,rfl,rfl,rfl,rfl,rfl,rfl,by omega, ?_⟩
   ·have:=World.alloc_heap_new (G.w.alloc (.deferred (some []))) (.loop { state:=.ready,pending:=none,fn,tmps:=a.tmps,params:=#[p],assign,body,defers:=G.w.heap.size })
    rwa [World.size_alloc] at this
   ·have hD : ((G.w.alloc (.deferred (some []))).alloc (.loop { state:=.ready,pending:=none,fn,tmps:=a.tmps,params:=#[p],assign,body,defers:=G.w.heap.size })).heap[G.w.heap.size]? = some (.deferred (some [])) :=
     (Below.heap_alloc _ _ _ (by simp)).trans (World.alloc_heap_new G.w _)
    obtain ⟨⟨Ds,h1,h2,h3⟩,h4,h5⟩:=hd.evo (k2.trans k4) (a':=a) rfl;refine ⟨⟨G.w.heap.size :: Ds,by simp [h1],List.nodup_cons.2 ⟨λhm=>?_,h2⟩,λD hDm=>?_⟩,h4,h5⟩
    ·obtain ⟨⟨Ds',h1',h2',h3'⟩,-,-⟩:=hd
     have : Ds'=Ds:=by
      rw [h1] at h1';exact (marks_inj h1').symm
     have:=(Array.getElem?_eq_some_iff.1 (h3' _ (by rw [this]; exact hm)).2.2).1
     omega
    ·rcases List.mem_cons.1 hDm with rfl | hDm
     ·exact ⟨hd.lb,nL _ (Nat.le_refl _),hD⟩
     ·exact h3 D hDm
  | some l0 =>
   obtain ⟨r0,hr0,hl0⟩:=hd.round l0 hρ;obtain ⟨k1,k2⟩:=hH.allocO (.loop { state:=.ready,pending:=none,fn,tmps:=a.tmps,params:=#[p],assign,body,defers:=r0.defers });exact ⟨G.w.heap.size,[],_,{ state:=.ready,pending:=none,fn,tmps:=a.tmps,params:=#[p],assign,body,defers:=r0.defers },run_enterLoop_inner hr0 _ _ _ _ _,k2,k1,⟨World.alloc_heap_new G.w _,nL _ (Nat.le_refl _)⟩,rfl,rfl,rfl,rfl,rfl,rfl,Nat.le_refl _,hd.evo k2 rfl⟩
 have hfv:=hF.eval g;rw [hg] at hfv;simp only [VR] at hfv;obtain ⟨va,vb,hv,hva,hvb⟩:=hfv;have : va = #[]:=by simp only [VRs] at hva; exact Array.toList_eq_nil_iff.1 hva
 subst this
 have hci : (invoke (.fn (.func k) vb) #[.func (.yield l) #[] #[]]).run P G1.w = .ok (.enter k (#[.func (.yield l) #[] #[]] ++ vb)) G1.w:=by
  unfold zxdZ at hgo;split at hgo
  ·rename_i f0 hfn'
   simp only [Bool.and_eq_true,Bool.not_eq_true'] at hgo;obtain ⟨b,hbody⟩:=Option.isSome_iff_exists.1 hgo.1;have hne : ¬ f0.name = "runtime.NumGoroutine" := by have := hgo.2; simpa using this
   simp [invoke,callFunc,hfn',hne,hbody]
  ·cases hgo
 refine ⟨l,mk,G1.w,{ target:=.fn (.func k) vb,args:=#[.func (.yield l) #[] #[]] },G1.w,k,#[.func (.yield l) #[] #[]] ++ vb,G1.w,e1, ?_,λ_ _=>trivial,hci,λhn=>(by simp [Fence.wide] at hn), ?_⟩
 ·simp only [resolve,hv]
  simp [go_sem]
 ·have hT1 : VRs G1 T rec.tmps.toList:=by rw [htm]; exact VRs.evo hE1 hF
  have hc:=hit G1 l rec T p H vb.toList J X hH1 hR hrd hpd hps hT1 (VRs.evo hE1 hvb) h0 hcap (by rw [has,hbd]; exact hr)
  have hc2 : CallsIn (FW ρ.1) 0 P k (#[.func (.yield l) #[] #[]] ++ vb) G1.w λe W'=>(∃ v,e = .returned v)∧∃ (G' : Cfg) (H' : AH),G'.w=W'∧EvoX l G1 G'∧HR G' H'∧((RecAt G' l rec∧J xs.length H')∨∃ c,RecAt G' l { rec with state:=.done,pending:=some c }∧X c H'):=by
   have h1 : (vb.toList.toArray)=vb:=by simp
   rw [h1] at hc;cases ρ.1 with
   | none => exact hc
   | some l0 => exact CallsIn.inRound l0 hc
  refine CallsIn.mono hc2 ?_;rintro e W' ⟨⟨v,rfl⟩,G2,H2,rfl,hX,hH2,hcase⟩;have fin : ∀ (r : Loop),RecAt G2 l r→∀ x,Evo G0 (G2.put l x):=λr hr x=>(hE.trans hE1).transX (Nat.le_trans hE.size hsz) (hX.trans (EvoX.put hr.h x))
  have ndf : ∀ D,G1.w.heap[D]? = some (.deferred (some []))→D ≠ l:=zvqZ hR.h;have finD : ∀ (r : Loop),RecAt G2 l r→∀ r',DF (G2.put l (.loop r')) ρ { a with defers:=mk ++ a.defers } := λr hr r'=>hd1.x (hX.trans (EvoX.put hr.h _)) rfl ndf (λ_=>⟨r',World.putObj_heap_same (Array.getElem?_eq_some_iff.1 hr.h).1,hr.nl⟩)
  have finH : ∀ (r : Loop),RecAt G2 l r→∀ x,HR (G2.put l x) H2:=λr hr x=>hH2.putO (λo z ho e=>hr.nl (by have:=hH2.live o z ho; rwa [e] at this)) hr.h loop_nc x
  have finF : ∀ (r : Loop),RecAt G2 l r→∀ x,FR (G2.put l x) T { a with defers:=mk ++ a.defers } := λr hr x=>VRs.tr (hX.trans (EvoX.put hr.h x)).tr (VRs.evo hE1 hF)
  rcases hcase with ⟨hr2,hj⟩ | ⟨c,hr2,hx⟩
  ·refine ⟨none,_, ?_,T,H2,G2.put l (.loop { rec with state:=.exhausted }),rfl,fin _ hr2 _,finF _ hr2 _,finD _ hr2 _,finH _ hr2 _,hdone H2 hj⟩
   have:=run_endLoop (P:=P) hr2.h (by rw [hrd]; simp)
   refine this.trans ?_;rw [hpd];rfl
  ·refine ⟨some c,_,run_endLoop (P:=P) hr2.h (by simp), ?_⟩
   rcases hout c H2 hx with ⟨rfl,hq⟩ | ⟨id,rfl,hq⟩
   ·exact wpIn_ret ⟨T,H2,G2.put l (.loop { { rec with state:=.done,pending:=some _ } with state:=.exhausted }),rfl,fin _ hr2 _,finF _ hr2 _,finD _ hr2 _,finH _ hr2 _,hq⟩
   ·exact wpIn_exit ⟨T,H2,G2.put l (.loop { { rec with state:=.done,pending:=some _ } with state:=.exhausted }),rfl,fin _ hr2 _,finF _ hr2 _,finD _ hr2 _,finH _ hr2 _,hq⟩
end
end Go.Proofs.YtlhiaihmkjlaaaaGreat.Av
end
section
namespace Go.Proofs.YtlhiaihmkjlaaaaGreat.Av
open Go Go.RowKit
section
variable {P : Program}
structure XSt (l : Nat) (G0 G : Cfg) (T : List AV) (H : AH) (r : Loop) (a : Act) : Prop where
 x : EvoX l G0 G
 f : FR G T a
 d : DF G (none,G0.w.heap.size) a
 h : HR G H
 ra : RecAt G l r
abbrev XQ:=Exit→List AV→AH→Loop→Prop
def XPost (l : Nat) (G0 : Cfg) (Q : XQ) : Exit→Act→World→Prop:=λe a w=>∃ (T : List AV) (H : AH) (G : Cfg) (r : Loop),G.w=w∧XSt l G0 G T H r a∧Q e T H r
def XCode (P : Program) (l : Nat) (G0 : Cfg) (c : Code) (Q : XQ) (T : List AV) (H : AH) (r : Loop) : Prop :=
 ∀ (G : Cfg) (a : Act),XSt l G0 G T H r a→c.wpIn (FW none) 0 P (XPost l G0 Q) a G.w
def XOps (P : Program) (l : Nat) (G0 : Cfg) (ops : Array Oper) (Q : XQ) (lst : List Oper) (T : List AV) (H : AH) (r : Loop) : Prop :=
 ∀ (G : Cfg) (a : Act),XSt l G0 G T H r a→wpListIn (FW none) 0 P ops (XPost l G0 Q) lst a G.w
variable {l : Nat} {G0 : Cfg}
theorem xpost_now {Q : XQ} {e : Exit} {T : List AV} {H : AH} {r : Loop} (h : Q e T H r) {G : Cfg} {a : Act} (hs : XSt l G0 G T H r a) : XPost l G0 Q e a G.w:=⟨T,H,G,r,rfl,hs,h⟩
theorem XCode.of {c : Code} {Q : XQ} {T : List AV} {H : AH} {r : Loop} (h : ACode P c (λe T H=>Q e T H r) T H) : XCode P l G0 c Q T H r:=by
 intro G a hs;refine Code.wpIn_mono ?_ (h G G a (none,G0.w.heap.size) (Evo.refl G) hs.f hs.d hs.h);rintro e a w ⟨T',H',G',rfl,hE,hF,hd,hH,hq⟩;exact ⟨T',H',G',r,rfl,⟨hs.x.trans hE.x,hF,hd,hH,hs.ra.evo hE⟩,hq⟩
def XQ.then (next : List AV→AH→Loop→Prop) (Q : XQ) : XQ
 | .normal,T,H,r => next T H r
 | e,T,H,r => Q e T H r
theorem XCode.seq {x y : Code} {Q : XQ} {T : List AV} {H : AH} {r : Loop} (h : XCode P l G0 x (XQ.then (XCode P l G0 y Q) Q) T H r) : XCode P l G0 (.seq x y) Q T H r:=by
 intro G a hs;refine wpIn_seq (Code.wpIn_mono ?_ (h G a hs));rintro e a' w' ⟨T',H',G',r',rfl,hs',hq⟩;cases e with
 | normal => exact hq G' a' hs'
 | _ => exact ⟨T',H',G',r',rfl,hs',hq⟩
theorem XCode.cond {c : Operand} {x y : Code} {Q : XQ} {T : List AV} {H : AH} {r : Loop} {b : Bool} (hc : aeval T c = .lit (.bool b)) (h : XCode P l G0 (if b then x else y) Q T H r) : XCode P l G0 (.cond c x y) Q T H r:=by
 intro G a hs
 have:=hs.f.eval c
 rw [hc] at this;simp only [VR] at this;exact wpIn_cond this (h G a hs)
theorem XCode.skip {Q : XQ} {T : List AV} {H : AH} {r : Loop} (h : Q .normal T H r) : XCode P l G0 .skip Q T H r:=λG a hs=>wpIn_skip (xpost_now h hs)
theorem XCode.exit {id : Nat} {Q : XQ} {T : List AV} {H : AH} {r : Loop} (h : Q (.exit id) T H r) : XCode P l G0 (.exit id) Q T H r:=λG a hs=>wpIn_exit (xpost_now h hs)
theorem XCode.ret {Q : XQ} {T : List AV} {H : AH} {r : Loop} (h : Q .ret T H r) : XCode P l G0 .ret Q T H r:=λG a hs=>wpIn_ret (xpost_now h hs)
def XQ.inBlock (id : Nat) (Q : XQ) : XQ
 | .exit id',T,H,r => if id'=id then Q .normal T H r else Q (.exit id') T H r
 | e,T,H,r => Q e T H r
theorem XCode.block {id : Nat} {c : Code} {Q : XQ} {T : List AV} {H : AH} {r : Loop} (h : XCode P l G0 c (Q.inBlock id) T H r) : XCode P l G0 (.block id c) Q T H r:=by
 intro G a hs;refine wpIn_block (Code.wpIn_mono ?_ (h G a hs));rintro e a' w' ⟨T',H',G',r',rfl,hs',hq⟩;cases e with
 | exit id' =>
  simp only [XQ.inBlock] at hq;simp only [Exit.inBlock]
  split
  ·rename_i he; rw [if_pos he] at hq; exact ⟨T',H',G',r',rfl,hs',hq⟩
  ·rename_i he; rw [if_neg he] at hq; exact ⟨T',H',G',r',rfl,hs',hq⟩
 | _ => exact ⟨T',H',G',r',rfl,hs',hq⟩
theorem XCode.loop {c : Code} {Q : XQ} {T : List AV} {H : AH} {r : Loop} (I : Nat→List AV→AH→Loop→Prop) (n0 : Nat) (h0 : I n0 T H r)
  (round : ∀ n T H r,I n T H r→XCode P l G0 c (XQ.then (λT' H' r'=>∃ n',n' < n∧I n' T' H' r') Q) T H r) : XCode P l G0 (.loop c) Q T H r:=by
 intro G a hs
 let J : Nat→Act→World→Prop:=λn a w=>∃ (T : List AV) (H : AH) (G' : Cfg) (r : Loop),G'.w=w∧XSt l G0 G' T H r a∧I n T H r
 have least : ∀ a w,(∃ n,J n a w)→∃ n,J n a w∧∀ m,J m a w→n≤m:=by
  intro a w ⟨n,hn⟩
  induction n using Nat.strongRecOn with
  | _ n ih =>
   by_cases h : ∃ m,m < n∧J m a w
   ·obtain ⟨m,hm,hj⟩:=h; exact ih m hm hj
   ·exact ⟨n,hn,λm hm=>Nat.le_of_not_lt λhlt=>h ⟨m,hlt,hm⟩⟩
 have hμ : ∃ μ : Act→World→Nat,∀ a w,(∃ n,J n a w)→J (μ a w) a w∧∀ m,J m a w→μ a w≤m:=by
  classical
  refine ⟨λa w=>if h : ∃ n,J n a w then Classical.choose (least a w h) else 0,λa w h=>?_⟩;simp only [dif_pos h];exact Classical.choose_spec (least a w h)
 obtain ⟨μ,hμ⟩:=hμ;refine wpIn_loop (λa w=>∃ n,J n a w) μ ⟨n0,T,H,G,r,rfl,hs,h0⟩ ?_;intro a w hJ;obtain ⟨⟨T1,H1,G1,r1,rfl,hs1,hI⟩,_⟩:=hμ a w hJ;refine Code.wpIn_mono ?_ (round _ T1 H1 r1 hI G1 a hs1);rintro e a' w' ⟨T',H',G',r',rfl,hs',hq⟩;cases e with
 | normal =>
  obtain ⟨n',hlt,hI'⟩:=hq;have hJ' : J n' a' G'.w:=⟨T',H',G',r',rfl,hs',hI'⟩;exact ⟨⟨n',hJ'⟩,Nat.lt_of_le_of_lt ((hμ a' G'.w ⟨n',hJ'⟩).2 _ hJ') hlt⟩
 | _ => exact ⟨T',H',G',r',rfl,hs',hq⟩
theorem XCode.weak {c : Code} {Q : XQ} {keep : List Bool} {T : List AV} {H : AH} {r : Loop} (hl : T.length=keep.length) (h : XCode P l G0 c Q (zmkZ keep (proj keep T)) H r) : XCode P l G0 c Q T H r :=
 λG a hs=>h G a ⟨hs.x,zokZ hl hs.f,hs.d,hs.h,hs.ra⟩
theorem XCode.region {id : Nat} {ops : Array Oper} {Q : XQ} {T : List AV} {H : AH} {r : Loop} (h : XOps P l G0 ops Q ops.toList T H r) : XCode P l G0 (.region id ops false) Q T H r :=
 λG a hs=>wpIn_region_list (h G a hs)
theorem XOps.nil {ops : Array Oper} {Q : XQ} {T : List AV} {H : AH} {r : Loop} (h : Q .normal T H r) : XOps P l G0 ops Q [] T H r:=λG a hs=>xpost_now h hs
theorem uponIn_q {F : Fence} {n : Nat} {o : Oper} {a : Act} {w : World} {K : Act→World→Prop} {Q Q' : Exit→Act→World→Prop} (hq : ∀ e a w,e ≠ .normal→Q e a w→Q' e a w) (hh : o.wpIn F n P a w K Q) : o.wpIn F n P a w K Q':=by
 have lo : LetsOut Q→LetsOut Q':=fun ⟨a,w,h⟩ => ⟨a,w,hq _ _ _ (by simp) h⟩
 unfold Oper.wpIn at *;refine ⟨hh.1, ?_⟩;have hh:=hh.2;generalize (o.semAt F.round a.eval).run P w=r at *;cases r with
 | ok x w' =>
  cases x <;> simp only [Oper.uponIn] at hh ⊢ <;>
   first
    | exact hh
    | exact ⟨hh.1,CallsIn.mono hh.2 (λe w'' he=>by cases e <;> first | exact he | exact hq _ _ _ (by simp) he | exact lo he)⟩
    | exact ⟨hh.1,RoundIn.mono hh.2 (λe w'' he=>by cases e <;> first | exact he | exact hq _ _ _ (by simp) he | exact lo he)⟩
 | halt x w' => cases x <;> simp only [Oper.uponIn] at hh ⊢ <;> first | exact hh | exact hq _ _ _ (by simp) hh
theorem wpList_app {F : Fence} {n : Nat} {ops : Array Oper} {Q1 Q : Exit→Act→World→Prop} {l2 : List Oper} (hn : ∀ a w,Q1 .normal a w→wpListIn F n P ops Q l2 a w) (he : ∀ e a w,e ≠ .normal→Q1 e a w→Q e a w) :
  ∀ (l1 : List Oper) (a : Act) (w : World),wpListIn F n P ops Q1 l1 a w→wpListIn F n P ops Q (l1 ++ l2) a w
 | [],a,w,h => hn a w h
 | o :: l1,a,w,h => by
  show wpListIn F n P ops Q (o :: (l1 ++ l2)) a w
  unfold wpListIn at h ⊢
  split
  ·rename_i hw
   rw [if_pos hw] at h;exact uponIn_q he (Oper.wpIn_mono (λa w=>wpList_app hn he l1 a w) h)
  ·rename_i hw
   rw [if_neg hw] at h;exact ⟨h.1,wpList_app hn he l1 _ _ h.2⟩
theorem XOps.pre {ql al : FuncId→Bool} {ops : Array Oper} {l1 l2 : List Oper} {Q : XQ} {T : List AV} {H : AH} {r : Loop} {K : List AV→AH→Prop} (h : sOps P ql al false ops l1 T H K) (hk : ∀ T' H',K T' H'→XOps P l G0 ops Q l2 T' H' r) : XOps P l G0 ops Q (l1 ++ l2) T H r:=by
 intro G a hs;have h1 : AOps P ops (λe T H=>match e with | .normal => K T H | _ => False) l1 T H:=sOps_ops l1 T H K (λ_ _ h=>h) h;refine wpList_app ?_ ?_ l1 a G.w (h1 G G a (none,G0.w.heap.size) (Evo.refl G) hs.f hs.d hs.h)
 ·rintro a w ⟨T',H',G',rfl,hE,hF,hd,hH,hq⟩
  exact hk T' H' hq G' a ⟨hs.x.trans hE.x,hF,hd,hH,hs.ra.evo hE⟩
 ·rintro e a w hne ⟨T',H',G',rfl,hE,hF,hd,hH,hq⟩
  cases e with
  | normal => exact absurd rfl hne
  | _ => exact hq.elim
theorem XOps.yield {ops : Array Oper} {Q : XQ} {o : Oper} {rest : List Oper} {T T0 : List AV} {H : AH} {rec : Loop} {p : Tmp} {f x : Operand} {ats : Array TypeId} {J : AH→Prop} {X : Code→AH→Prop}
  (ho : o.op = .call { callee:=.value f,args:=#[x],argTypes:=ats }) (hg : o.guard=none) (hf : aeval T f = .lit (.func (.yield l) #[] #[]))
  (hrd : rec.state = .ready) (hpd : rec.pending=none) (hps : rec.params = #[p]) (hT : ∀ G,EvoX l G0 G→VRs G T0 rec.tmps.toList) (hr : RndOk P rec.assign rec.body T0 p (aeval T x) H J X)
  (h1 : ∀ H',J H'→XOps P l G0 ops Q rest (aput T o.dst (B true)) H' rec) (h2 : ∀ c H',X c H'→XOps P l G0 ops Q rest (aput T o.dst (B false)) H' { rec with state:=.done,pending:=some c }) : XOps P l G0 ops Q (o :: rest) T H rec:=by
 intro G a hs;unfold wpListIn;have hw : Region.wanted o (yielded ops a.tmps)=true:=by unfold Region.wanted; rw [hg]
 rw [if_pos hw];have hfv:=hs.f.eval f;rw [hf] at hfv;simp only [VR] at hfv;obtain ⟨fn,tm,ag,bd,hy,hR⟩:=round_yield hs.h hs.ra hrd hpd hps (hT G hs.x) (hs.f.eval x) hr;have hnd : ∀ c,o.op ≠ .defer c:=λc hc=>by rw [ho] at hc; cases hc
 refine ⟨λ_ _=>trivial, ?_⟩;rw [Oper.semAt_eq _ _ _ hnd]
 have hrun : (execOp a.eval o).run P G.w = .ok (.round l fn tm ag bd) G.w:=by
  obtain ⟨dst,op,type,pos,after,guard⟩:=o;simp only at ho;subst ho;simp [execOp,resolve,hfv,Deferred.ofValue,invoke];exact hy
 rw [hrun];refine ⟨λhn=>(by simp [Fence.wide] at hn),RoundIn.mono hR ?_⟩;rintro e w' ⟨G',H',rfl,hX,hH',⟨rfl,hR',hj⟩ | ⟨rfl,c,hR',hx⟩⟩
 ·exact h1 H' hj G' _ ⟨hs.x.trans hX,FR.put (VRs.tr hX.tr hs.f) o.dst (by simp only [VR]),(hs.d.x (a':=a) hX rfl (zvqZ hs.ra.h) (λh=>by cases h)).put _ _,hH',hR'⟩
 ·exact h2 c H' hx G' _ ⟨hs.x.trans hX,FR.put (VRs.tr hX.tr hs.f) o.dst (by simp only [VR]),(hs.d.x (a':=a) hX rfl (zvqZ hs.ra.h) (λh=>by cases h)).put _ _,hH',hR'⟩
theorem leaves_marksX {fn : Func} {tmps : Array Value} {R : Ending→World→Prop} {T : List AV} {H : AH} {r : Loop} (hl : l < G0.w.heap.size) (K : ∀ G : Cfg,EvoX l G0 G→FR G T { tmps,defers:=[] }→HR G H→RecAt G l r→LeavesIn Fence.wide 0 P fn tmps R [] .returning G.w) :
  ∀ (Ds : List Nat) (G : Cfg),EvoX l G0 G→FR G T { tmps,defers:=[] }→HR G H→RecAt G l r→Ds.Nodup→(∀ D ∈ Ds,G0.w.heap.size≤D∧¬ G.L D∧G.w.heap[D]? = some (.deferred (some []))) →
   LeavesInM Fence.wide 0 P fn tmps R (Ds.map mark) .returning G.w
 | [],G,hE,hF,hH,hr,_,_ => K G hE hF hH hr
 | D :: Ds,G,hE,hF,hH,hr,hn,hD => by
  obtain ⟨h1,h2,h3⟩:=hD D (.head _);obtain ⟨hni,hn'⟩:=List.nodup_cons.1 hn;refine ⟨by simp,.inl ⟨D,_,rfl,run_takeDeferred h3, ?_⟩⟩;have hc : ∀ c e f,Obj.deferred (some []) ≠ .cells c e f:=by intro c e f h; cases h
  have ht:=Tr.put h3 hc (.deferred none);refine leaves_marksX hl K Ds (G.put D (.deferred none)) ?_ (VRs.tr ht hF) (hH.putO (fun o z ho (e : (G.μ o).1=D) => h2 (by have:=hH.live o z ho; rwa [e] at this)) h3 hc _) ⟨?_,hr.nl⟩ hn' λD' hD'=>?_
  ·refine ⟨hE.os,hE.tape,hE.output, ?_,λk hk hne hL=>?_,hE.n,hE.μ,hE.K,λad vs hh=>ht.has ad vs (hE.has ad vs hh)⟩
   ·simp only [Cfg.put,World.putObj]; simpa using hE.size
   ·obtain ⟨e1,l1⟩:=hE.keep k hk hne hL
    refine ⟨?_,l1⟩;simp only [Cfg.put];rw [World.putObj_heap_other (by omega)];exact e1
  ·simp only [Cfg.put]
   rw [World.putObj_heap_other (by omega)];exact hr.h
  ·obtain ⟨a1,a2,a3⟩:=hD D' (.tail _ hD')
   refine ⟨a1,a2, ?_⟩;simp only [Cfg.put];rw [World.putObj_heap_other (λe=>hni (by rw [← e]; exact hD'))];exact a3
theorem iter_of_body {k : FuncId} {fn : Func} {c : Code} {cap xs : List AV} {Cap : AH→Prop} (hf : P.funcs[k]? = some fn) (hb : fn.body=some c) (hres : fn.results = #[])
  (h : ∀ (l : Nat) (G0 : Cfg) (rec : Loop) (T : List AV) (p : Tmp) (H : AH) (J : Nat→AH→Prop) (X : Code→AH→Prop),rec.state = .ready→rec.pending=none→rec.params = #[p]→(∀ G,EvoX l G0 G→VRs G T rec.tmps.toList)→J 0 H→(∀ i H',J i H'→Cap H')→(∀ i x H',xs[i]? = some x→J i H'→RndOk P rec.assign rec.body T p x H' (J (i + 1)) X) →
   XCode P l G0 c (λe _ H' r=>(e = .normal∨e = .ret)∧((r=rec∧J xs.length H')∨∃ c,r = { rec with state:=.done,pending:=some c }∧X c H')) ((.lit (.func (.yield l) #[] #[]) :: cap) ++ List.replicate (fn.ntmps - (cap.length + 1)) zerZ) H rec) : IterOk P k cap Cap xs:=by
 intro G l rec T p H vc J X hH hR hrd hpd hps hT hvc h0 hcap hr;have hlen:=hvc.length;refine callsIn_of_wp_marks (F:=FW none) (n:=0) hf hb trivial ?_ rfl
 have hF : FR G ((.lit (.func (.yield l) #[] #[]) :: cap) ++ List.replicate (fn.ntmps - (cap.length + 1)) zerZ) { tmps:=(#[Value.func (.yield l) #[] #[]] ++ vc.toArray) ++ Array.replicate (fn.ntmps - (#[Value.func (.yield l) #[] #[]] ++ vc.toArray).size) undef,defers:=[] } := by
  unfold FR;simp only [Array.toList_append,Array.toList_replicate,Array.size_append,List.size_toArray];rw [hlen,show ([Value.func (.yield l) #[] #[]] : List Value).length + vc.length=vc.length + 1 by simp; omega];refine VRs.append ?_ (VRs.replicate (by simp only [zerZ,VR]) _);exact .cons (by simp only [VR]) hvc
 have hl : l < G.w.heap.size:=(Array.getElem?_eq_some_iff.1 hR.h).1;have hx:=h l G rec T p H J X hrd hpd hps (λG' hE=>VRs.tr hE.tr hT) h0 hcap hr G _ ⟨(Evo.refl G).x,hF,⟨⟨[],rfl,List.nodup_nil,λ_ h=>(by cases h)⟩,λ_ h=>(by cases h),Nat.le_refl _⟩,hH,hR⟩;refine Code.wpIn_mono ?_ hx;rintro e a w ⟨T',H',G',r',rfl,hs,he,hq⟩;obtain ⟨⟨Ds,e1,e2,e3⟩,-,-⟩:=hs.d;simp only at e3
 have : LeavesInM Fence.wide 0 P fn a.tmps (λe W'=>(∃ v,e = .returned v)∧∃ (G' : Cfg) (H' : AH),G'.w=W'∧EvoX l G G'∧HR G' H'∧((RecAt G' l rec∧J xs.length H')∨∃ c,RecAt G' l { rec with state:=.done,pending:=some c }∧X c H')) a.defers .returning G'.w:=by
  rw [e1];refine leaves_marksX (G0:=G) hl (λG2 hE2 hF2 hH2 hR2=>?_) Ds G' hs.x hs.f hs.h hs.ra e2 e3;obtain ⟨v,hrun,-⟩:=results_ok (P:=P) hH2 hF2 (fn:=fn) (xs:=[]) (by rw [hres]; rfl);refine ⟨v,hrun,⟨v,rfl⟩,G2,H',rfl,hE2,hH2, ?_⟩;rcases hq with ⟨rfl,hj⟩ | ⟨c,rfl,hx⟩
  ·exact .inl ⟨hR2,hj⟩
  ·exact .inr ⟨c,hR2,hx⟩
 rcases he with rfl | rfl <;> exact this
theorem XCode.seqP {fl : zyxZ} {ql al : FuncId→Bool} {un : Nat→Bool} {kp : Nat→Option (List Bool)} {x y : Code} {n : Nat} {keep : List Bool} {Q : XQ} {T : List AV} {H : AH} {r : Loop} (hm : P.follows .mixedOrders=true) (hc : zrfZ fl ql un x=true)
  (hQ : ∀ e T T' H,e ≠ .normal→Q e T H r→Q e T' H r) (h : sCode P fl ql al un kp x n T H (λe T H=>fP keep T λX=>(XQ.then (λT H r=>XCode P l G0 y Q T H r) Q) e (zmkZ keep X) H r)) : XCode P l G0 (.seq x y) Q T H r:=by
 refine XCode.seq (XCode.of ((zqxZ hm x n T H _ hc h).mono ?_));intro e T' H' hk;obtain ⟨hl,hk⟩:=zvhZ.1 hk;cases e with
 | normal => exact XCode.weak hl hk
 | _ => exact hQ _ _ _ _ (by simp) hk
theorem XCode.seqN {fl : zyxZ} {ql al : FuncId→Bool} {un : Nat→Bool} {kp : Nat→Option (List Bool)} {x y : Code} {n : Nat} {keep : List Bool} {Q : XQ} {T : List AV} {H : AH} {r : Loop} (hm : P.follows .mixedOrders=true) (hc : zrfZ fl ql un x=true)
  (h : sCode P fl ql al un kp x n T H (λe T H=>fP keep T λX=>e = .normal∧XCode P l G0 y Q (zmkZ keep X) H r)) : XCode P l G0 (.seq x y) Q T H r:=by
 refine XCode.seq (XCode.of ((zqxZ hm x n T H _ hc h).mono ?_));intro e T' H' hk;obtain ⟨hl,he,h2⟩:=zvhZ.1 hk;subst he;exact XCode.weak hl h2
theorem XOps.weak {ops : Array Oper} {Q : XQ} {keep : List Bool} {lst : List Oper} {T : List AV} {H : AH} {r : Loop} (hl : T.length=keep.length) (h : XOps P l G0 ops Q lst (zmkZ keep (proj keep T)) H r) : XOps P l G0 ops Q lst T H r :=
 λG a hs=>h G a ⟨hs.x,zokZ hl hs.f,hs.d,hs.h,hs.ra⟩
theorem XOps.preP {ql al : FuncId→Bool} {ops : Array Oper} {l1 l2 : List Oper} {Q : XQ} {keep : List Bool} {T : List AV} {H : AH} {r : Loop} (h : sOps P ql al false ops l1 T H (λT H=>fP keep T λX=>XOps P l G0 ops Q l2 (zmkZ keep X) H r)) : XOps P l G0 ops Q (l1 ++ l2) T H r :=
 XOps.pre h λT' H' hk=>by
  obtain ⟨hl,hk⟩:=zvhZ.1 hk;exact XOps.weak hl hk
end
end Go.Proofs.YtlhiaihmkjlaaaaGreat.Av
end
section
namespace Go.Proofs.YtlhiaihmkjlaaaaGreat.Av
open Go Go.RowKit
theorem old_eq {N : Nat} {X : AH} {o : Nat} (hN : N≤o) : (old N X)[o]? = X[o]?:=by
 unfold old;rw [List.getElem?_append_right (by simpa using hN),List.length_replicate,List.getElem?_drop,show N + (o - N)=o by omega]
theorem BCall.fzS {P : Program} {f : FuncId} {args : List AV} {H X : AH} {r : AV} {sz m : Nat} {cs : List AV} (h : BCall P f args H r X) (g : Grew H X) (hs : zbZ X sz r=some (cs,m)) (hi : ∀ i ∈ idS r,H.length≤i) (hn : zcuZ cs=true) :
  ∃ R,(noIds R=true∧∀ H,zbZ H sz R=some (cs,m))∧BCall P f args H R H:=by
 have hs2 : zbZ (old H.length X) sz r=some (cs,m):=zcZ hs λi q=>old_eq (hi i q)
 obtain ⟨R,n0,h1,h2,h3⟩:=frz_slice hs2 hn;refine ⟨R,⟨h1,h2⟩,ACalls.fzNew (R':=λr'=>r'=R) h ?_⟩;rintro r1 H1 ⟨rfl,rfl⟩;exact ⟨g.1,g.2,n0,R,h3 n0 (Nat.le_refl _),rfl⟩
theorem cloneB_z {H : AH} {v : AV} {l : List UInt8} (h : zbZ H 1 v=some (encB l,l.length)) (hl : l.length≤1000000000) : ∃ R,SV encU 1 l R∧BCall Tryz.prog 68 [v] H R H:=by
 obtain ⟨r,X,⟨hs,g,hi⟩,hc⟩:=zruZ (a0:=v) (H:=H) (K:=λr X=>zbZ X 1 r=some (encB l,l.length)∧Grew H X∧∀ i ∈ idS r,H.length≤i) (by
  unfold zlrZ;rcases zbauZ h with ⟨rfl,e1,e2⟩ | hb
  ·have e : abN .eql nilS nilSl nilSl=some (B true):=rfl
   simp only [e,zdZ,zsZ,zbdZ];exact ⟨h,Grew.refl H,by simp [idS]⟩
  ·simp only [hb,zdZ,zsZ,zmZ]
   have e : absl H 1 0 (zrow [(.lit (.int .u8 0))] 0) []=some (.sl H.length 0 0 1 (.ex 0),H ++ [some (.cells [])]):=rfl;simp only [e,zbtZ];have g:=Grew.app H [some (.cells [])];have h0 : zbZ (H ++ [some (.cells [])]) 1 (.sl H.length 0 0 1 (.ex 0))=some ([],0):=by simp [zbZ]
   obtain ⟨r,H2,a1,a2,a3,a4,a5,a6⟩:=zkuZ (sz:=1) (bytes:=1) (H:=H ++ [some (.cells [])]) (v:=.sl H.length 0 0 1 (.ex 0)) (cs:=[]) (n:=0) h0 rfl (zkZ (g.slice h)) (by omega);simp only [a1,zbtZ];refine ⟨by simpa using a3,⟨by simp at a4; omega,λi hi=>?_⟩,λi hi=>?_⟩
   ·rw [a5 i (by simp; omega) (by simp [idS]; omega)]
    exact g.2 i hi
   ·rcases a6 i hi with h | h
    ·simp [idS] at h; omega
    ·simp at h; omega)
 obtain ⟨R,⟨h1,h2⟩,h3⟩:=BCall.fzS hc g hs hi (zuwZ _);exact ⟨R,⟨h1,λH=>by rw [h2 H,zwyZ]⟩,h3⟩
theorem goF_has : zxdZ Tryz.prog 120=true:=by kernel_rfl
theorem has1_p (x : Ext) (no : Int) : BPure Tryz.prog 120 [.agg (encE x),.ip [I no]] (B (decide (x.no=no))):=BPure.val (by simp [zcuZ,noIds,zoyZ]) rfl (store_has_1_ok (by
 unfold store_has_1;have e1 : anew [] (.agg (encE x))=some (.ptr 0 0,[some (.cells (encE x))]):=by simp
 have e2 : (encE x)[0]? = some (I x.no):=rfl;have e3 : ([some (.cells (encE x))] : AH)[0]? = some (some (.cells (encE x))):=rfl;simp only [e1,zbtZ,ziZ,Nat.zero_add,zdZ,znZ e3,zhZ,e2,ald_ip,gCZ,zbbsZ]
 try trivial))
theorem rdh_E (x : Ext) (t : List AV) : zrZ true 9 (encE x ++ t) 0=some (.agg (encE x)):=by
 have:=zbaZ x
 simp only [zrZ,if_true,List.length_append,this,List.drop_zero];rw [if_pos (by omega),List.take_append_of_le_length (by omega),List.take_of_length_le (by omega)]
theorem idxHas_p {l : List Ext} {v : AV} (hv : SV encE 9 l v) (hl : l.length≤281474976710656) (no : Int) : ∃ j : Int,(0≤j ↔ hasL l no)∧BPure Tryz.prog 170 [v,.fn (.func 120) [] [.ip [I no]]] (I j):=by
 have key : ∃ r X,(∃ j : Int,r=I j∧(0≤j ↔ hasL l no))∧BCall Tryz.prog 170 [v,.fn (.func 120) [] [.ip [I no]]] [] r X:=zdtZ (by
  unfold zcrZ;simp only [hv.len,zdZ];refine zcwZ (λn x0 x1 x7 x8 H'=>∃ k : Nat,k + n=l.length∧x0=v∧x1 = .fn (.func 120) [] [.ip [I no]]∧x7=I l.length∧x8=I k∧∀ (m : Nat) y,m < k→l[m]? = some y→y.no ≠ no) ?_ l.length ⟨0,by omega,rfl,rfl,rfl,rfl,by omega⟩;rintro n x0 x1 x7 x8 H R hR ⟨k,hk,rfl,rfl,rfl,rfl,hb⟩;unfold zbvZ;rcases Nat.lt_or_ge k l.length with h | h
  ·have hx:=gEG h
   generalize l[k]=y at hx;have kI : (k : Int) < (l.length : Int):=by omega
   simp only [zkyZ,zdZ,zsZ,kI,dTt,zbdZ,hv.idx zbaZ hx rfl,ald_ip,rdh_E,bF_fn,goF_has,Bool.true_or,bT_true,List.nil_append,List.cons_append];refine bC_of (has1_p y no H) ?_;simp only [zsZ]
   by_cases c : y.no=no
   ·simp only [c,dTt,zbdZ]
    exact ⟨k,rfl,by simp only [Int.natCast_nonneg,true_iff]; exact ⟨y,List.mem_of_getElem? hx,c⟩⟩
   ·simp only [c,dFf,zmZ,zuZ (a:=k) (b:=1) (by omega) (by omega),zdZ]
    refine hR (n - 1) _ _ _ _ _ (by omega) ⟨k + 1,by omega,rfl,rfl,rfl,by simp, ?_⟩;intro m z hm hz
    by_cases e : m=k
    ·rw [e,hx] at hz; injection hz with hz; rw [← hz]; exact c
    ·exact hb m z (by omega) hz
  ·have kI : ¬ (k : Int) < (l.length : Int):=by omega
   simp only [zkyZ,zdZ,zsZ,kI,dFf,zmZ];refine ⟨-1,rfl,by simp only [show ¬ (0 : Int)≤-1 by omega,false_iff]; rintro ⟨y,hy,e⟩; obtain ⟨m,hm⟩:=List.mem_iff_getElem?.1 hy; exact hb m y (by have:=(gSI.1 hm).1; omega) hm e⟩)
 obtain ⟨r,X,⟨j,rfl,hj⟩,hc⟩:=key;exact ⟨j,hj,BPure.val (by simp [zcuZ,noIds,hv.1]) rfl ⟨_,_,rfl,hc⟩⟩
theorem Contains_p {l : List Ext} {v : AV} (hv : SV encE 9 l v) (hl : l.length≤281474976710656) (no : Int) : BPure Tryz.prog 119 [v,.fn (.func 120) [] [.ip [I no]]] (B (decide (hasL l no))):=by
 obtain ⟨j,hj,hp⟩:=idxHas_p hv hl no;refine BPure.flat λH=>zhcZ ?_
 unfold zdrZ;refine zyZ hp ?_;simp only [abI_geq,zdZ];exact ⟨by congr 3; exact propext hj,by trivial⟩
theorem has_p {size : Int} {l : List Ext} {v : AV} (hv : SV encE 9 l v) (hl : l.length≤281474976710656) (no : Int) : BPure Tryz.prog 67 [.agg [I size,v],I no] (B (decide (hasL l no))):=BPure.val (by simp [zcuZ,noIds,hv.1]) rfl (store_has_ok (by
 have ov:=SV.oneA hv;unfold store_has;have e1 : anew [] (.agg [I size,v])=some (.ptr 0 0,[some (.cells [I size,v])]):=by simp [ov]
 have e2 : anew [some (.cells [I size,v])] (I no)=some (.ptr 1 0,[some (.cells [I size,v]),some (.cells [I no])]):=rfl;have e3 : ([some (.cells [I size,v]),some (.cells [I no])] : AH)[0]? = some (some (.cells [I size,v])):=rfl;simp only [e1,zbtZ,e2,ziZ,Nat.zero_add,zdZ,znZ e3,zhZ,gCS,gCZ]
 have hf : FZs [some (.cells [I size,v]),some (.cells [I no])] [v,.fn (.func 120) [] [.ptr 1 0]] [v,.fn (.func 120) [] [.ip [I no]]]:=by
  refine FZs.cons (FZ.same hv.1) (FZs.cons ⟨3,λn hn=>?_⟩ FZs.nil);obtain ⟨n,rfl⟩ : ∃ m,n=m + 3:=⟨n - 3,by omega⟩;rfl
 refine bP_of (PCall.lend hf rfl (Contains_p hv hl no)) ?_
 try trivial))
theorem cuts_in : ∀ {f : Nat} {p n : Int} {q : Sp},0≤p→q ∈ cutsS f p n 8→p≤q.pos∧0 < q.len∧q.len≤8∧q.pos + q.len≤p + n
 | 0,p,n,q,_,h => by simp [cutsS] at h
 | f + 1,p,n,q,hp,h => by
  unfold cutsS at h;split at h
  ·rename_i hn
   have h1:=Int.emod_lt_of_pos p (show (0 : Int) < 8 by omega);have h2:=Int.emod_nonneg p (show (8 : Int) ≠ 0 by omega);rcases List.mem_cons.1 h with rfl | h
   ·simp only; omega
   ·have:=cuts_in (by omega) h
    omega
  ·simp at h
def opWr (ino pos : Int) (b : List UInt8) : OpM:=⟨2,ino,pos,0,false,[],[],b⟩
theorem opWr_b {ino pos : Int} {b : List UInt8} (h : b.length≤8) : OpB (opWr ino pos b):=⟨by show b.length≤_; omega,by simp [opWr],by simp [opWr]⟩
def partB (b : List UInt8) (pos : Int) (q : Sp) : List UInt8:=(b.drop (q.pos - pos).toNat).take q.len.toNat
def wrS (c : List Ext) (ino pos : Int) (b : List UInt8) : List Sp→StS→(Int × Int) × StS
 | [],s => ((b.length,0),s)
 | q :: r,s =>
  if ¬ hasL c (q.pos / 8)∧freeS s=0 then ((q.pos - pos,4),s)
  else if (doS s (opWr ino q.pos (partB b pos q))).1 ≠ 0 then ((q.pos - pos,(doS s (opWr ino q.pos (partB b pos q))).1),(doS s (opWr ino q.pos (partB b pos q))).2)
  else wrS c ino pos b r (doS s (opWr ino q.pos (partB b pos q))).2
def fitsW (pos : Int) (n : Nat) : Prop:=0≤pos∧n≤4096∧pos≤1099511627776 - n
instance (pos : Int) (n : Nat) : Decidable (fitsW pos n):=by unfold fitsW; infer_instance
def zpmZ (s : StS) (ino pos : Int) (b : List UInt8) : (Int × Int) × StS :=
 if (zwZ s ino).2 ≠ 0 then ((0,(zwZ s ino).2),s) else if ¬ fitsW pos b.length then ((0,5),s)
 else wrS (zwZ s ino).1.2 ino pos b (zbasZ ⟨pos,b.length⟩ 8) s
theorem parts_in {pos : Int} {b : List UInt8} {q : Sp} (hf : fitsW pos b.length) (h : q ∈ zbasZ ⟨pos,b.length⟩ 8) : pos≤q.pos∧0 < q.len∧q.len≤8∧q.pos + q.len≤pos + b.length:=by
 unfold zbasZ at h;split at h
 ·exact cuts_in hf.1 h
 ·simp at h
theorem partB_len {b : List UInt8} {pos : Int} {q : Sp} (h : pos≤q.pos∧0 < q.len∧q.len≤8∧q.pos + q.len≤pos + b.length) : (partB b pos q).length=q.len.toNat:=by
 unfold partB;rw [List.length_take,List.length_drop]; omega
theorem wrS_w {c : List Ext} {ino pos : Int} {b : List UInt8} : ∀ {l : List Sp} {N : Nat} {s : StS},(∀ q ∈ l,pos≤q.pos∧0 < q.len∧q.len≤8∧q.pos + q.len≤pos + b.length)→SW N s→SW (N + 9 * l.length) (wrS c ino pos b l s).2
 | [],N,s,_,h => h
 | q :: r,N,s,hq,h => by
  have h1:=hq q (by simp);have hl:=partB_len h1;have hd:=doS_w (o:=opWr ino q.pos (partB b pos q)) h (opWr_b (by omega))
  have hwt : wt (opWr ino q.pos (partB b pos q))≤9:=by
   show 1 + (partB b pos q).length + (if (2 : Int)=4 then 4098 else 0)≤9
   rw [if_neg (by omega)]; omega
  unfold wrS;simp only [List.length_cons]
  split
  ·exact h.mono (by omega)
  ·split
   ·exact hd.mono (by omega)
   ·exact (wrS_w (λx hx=>hq x (by simp [hx])) hd).mono (by omega)
theorem parts_len {pos : Int} {b : List UInt8} (hf : fitsW pos b.length) : (zbasZ ⟨pos,b.length⟩ 8).length≤b.length:=by
 unfold zbasZ
 split
 ·have : ∀ (f : Nat) (p n : Int),(cutsS f p n 8).length≤f:=by
   intro f
   induction f with
   | zero => intro p n; simp [cutsS]
   | succ f ih =>
    intro p n;unfold cutsS
    split
    ·simp only [List.length_cons]; have:=ih (p + min n (8 - p % 8)) (n - min n (8 - p % 8)); omega
    ·simp
  have h2:=this (b.length : Int).toNat pos b.length;have e : ((b.length : Int)).toNat=b.length:=by omega
  simp only;omega
 ·simp
theorem writeS_w {N : Nat} {s : StS} (h : SW N s) (ino pos : Int) (b : List UInt8) : SW (N + 9 * b.length) (zpmZ s ino pos b).2:=by
 unfold zpmZ
 split
 ·exact h.mono (by omega)
 ·split
  ·exact h.mono (by omega)
  ·rename_i hf
   have hf:=Decidable.byContradiction hf;exact (wrS_w (λq hq=>parts_in hf hq) h).mono (by have:=parts_len hf; omega)
theorem Write_c {N : Nat} {s : StS} {os : Nat} {p v : AV} {H : AH} (h : StAt s os p H) (hw : SW N s) (ino pos : Int) {b : List UInt8} (hN : N + 9 * b.length < 900000) (hv : zbZ H 1 v=some (encB b,b.length)) (hvi : ∀ j ∈ idS v,j ≠ os∧j ∉ idS p) :
  ∃ r H',(r = .tup [I (zpmZ s ino pos b).1.1,I (zpmZ s ino pos b).1.2]∧∃ p',StAt (zpmZ s ino pos b).2 os p' H'∧StF os p p' H H')∧BCall Tryz.prog 20 [.ptr os 0,I ino,I pos,v] H r H':=zylZ (by
 unfold zulZ;obtain ⟨R,hR,r,H1,⟨rfl,g1⟩,hc⟩:=content_c h hw (by omega) ino;have hlen:=zqzZ hw ino;refine bC_of hc ?_;unfold zpmZ;generalize zwZ s ino=ct at *;have oR:=SV.oneA hR;have h1:=h.grew g1;have g2:=Grew.app H1 [some (.cells [I ct.1.1,R])];have h2:=h1.grew g2;have hv2:=g2.slice (g1.slice hv);have alv : alnS v=some (I b.length):=zjmZ hv;simp only [zoZ,gCS,gCZ,zdZ,nwC,zbtZ,stC' _ _ oR,zcyZ,znvZ,zsZ]
 by_cases hc0 : ct.2=0
 ·simp only [hc0,ne_eq,not_true_eq_false,dFf,zmZ,if_false,alv,zdZ]
  refine zyZ (extent_Fits_p pos b.length (by omega)) ?_
  by_cases hf : fitsW pos b.length
  ·have hf' : 0≤pos∧b.length≤4096∧pos≤1099511627776 - b.length:=hf
   have e1 : abl [(I 0),(I 0)] [(0,1,I pos),(1,1,I (b.length : Int))]=some (.agg (encSp ⟨pos,b.length⟩)):=rfl;simp only [hf,hf',and_self,dTt,zjxZ,Bool.not_true,zdZ,zsZ,zmZ,not_true_eq_false,if_false,alv,e1];obtain ⟨V,hV,hp⟩:=off_Parts_p ⟨pos,b.length⟩ (unit:=8) (by omega);refine zyZ hp ?_;simp only [hV.len,zdZ];have hin : ∀ q ∈ zbasZ ⟨pos,b.length⟩ 8,pos≤q.pos∧0 < q.len∧q.len≤8∧q.pos + q.len≤pos + b.length:=λq hq=>parts_in hf hq
   have hpl:=parts_len hf;generalize zbasZ ⟨pos,b.length⟩ 8=L at hV hin hpl;have c0 : (H1 ++ [some (AObj.cells [I ct.1.1,R])])[H1.length]? = some (some (.cells [I ct.1.1,R])):=top1;have f0 : StF os p p H (H1 ++ [some (AObj.cells [I ct.1.1,R])]):=.of_grew (g1.trans g2);have hosH : os < H.length:=by obtain ⟨a,b',c,d,pv,hx⟩:=h; exact hx.lt
   have hpH : ∀ j ∈ idS p,j < H.length:=by obtain ⟨a,b',c,d,pv,hx⟩:=h; exact idS_lt hx
   have hvH : ∀ j ∈ idS v,j < H.length:=λj q=>zqZ hv j q
   have hH1 : H.length≤H1.length:=g1.1;refine zsiZ (λm x0 x1 x2 x3 x10 x36 x37 x38 H'=>∃ (k : Nat) (s' : StS) (p' : AV),k + m=L.length∧x0 = .ptr os 0∧x1=I ino∧x2=I pos∧x3=v∧x10 = .ptr H1.length 0∧x36=V∧x37=I L.length∧x38=I k∧StAt s' os p' H'∧StF os p p' H H'∧SW (N + 9 * k) s'∧H'[H1.length]? = some (some (.cells [I ct.1.1,R]))∧H1.length ∉ idS p'∧wrS ct.1.2 ino pos b (L.drop k) s'=wrS ct.1.2 ino pos b L s) ?_ L.length ⟨0,s,p,by omega,rfl,rfl,rfl,rfl,rfl,rfl,rfl,rfl,h2,f0,hw,c0,λq=>by have:=hpH _ q; omega,rfl⟩;rintro m x0 x1 x2 x3 x10 x36 x37 x38 H2 R2 hR2 ⟨k,s',p',hk,rfl,rfl,rfl,rfl,rfl,rfl,rfl,rfl,hs',fs',hws',cc,hcp,heq⟩;rw [← heq];unfold zmwZ;rcases Nat.lt_or_ge k L.length with hlt | hge
   ·have hx:=gEG hlt
    have hq:=hin L[k] (List.getElem_mem hlt);generalize L[k]=q at hx hq;obtain ⟨q1,q2,q3,q4⟩:=hq;have kI : (k : Int) < (L.length : Int):=by omega
    have hdrop : L.drop k=q :: L.drop (k + 1):=zseZ hx;rw [hdrop];generalize hW : wrS ct.1.2 ino pos b (q :: L.drop (k + 1)) s'=W;have rdq : zrZ true 2 (encSp q ++ (L.drop (k + 1)).flatMap encSp) 0=some (.agg (encSp q)):=by simp [zrZ,encSp]
    have eA : (AV.agg (encSp q)) = .agg [I q.pos,I q.len]:=rfl;have n2 : anew H2 (.agg [(I 0),(I 0)])=some (.ptr H2.length 0,H2 ++ [some (.cells [I 0,I 0])]):=by simp
    have t2 : ast 2 (H2 ++ [some (.cells [I 0,I 0])]) (.ptr H2.length 0) (.agg [I q.pos,I q.len])=some (H2 ++ [some (.cells [I q.pos,I q.len])]):=by
     rw [zceZ (n:=2) (xs:=[I q.pos,I q.len]) (cs:=[I 0,I 0]) rfl (by simp) rfl (by simp)];simp [zlhZ]
    have g3:=Grew.app H2 [some (.cells [I q.pos,I q.len])];have e2 : abI .sub (I q.pos) (I pos)=some (I (q.pos - pos)):=zffZ (by omega) (by omega);have e3 : abI .quo (I q.pos) (I 8)=some (I (q.pos / 8)):=abI_quo (by omega) (by omega) (by omega);simp only [zkyZ,zdZ,zsZ,kI,dTt,zbdZ,hV.idx zbboZ hx rfl,ald_ip,rdq,eA,n2,zbtZ,t2,zcyZ,ziZ,Nat.zero_add,znZ top1,zhZ,gCS,gCZ,e2,znZ (g3.cells cc),rd2,e3];refine zyZ (has_p hR (by omega) (q.pos / 8)) ?_;have hs3:=hs'.grew g3;have fs3 : StF os p p' H (H2 ++ [some (.cells [I q.pos,I q.len])]):=fs'.grew g3;have cc3:=g3.cells cc;have tq : (H2 ++ [some (AObj.cells [I q.pos,I q.len])])[H2.length]? = some (some (.cells [I q.pos,I q.len])):=top1;have hl3 : H2.length + 1=(H2 ++ [some (AObj.cells [I q.pos,I q.len])]).length:=by simp
    have hpid : ∀ j ∈ idS p',j < H2.length:=by obtain ⟨a,b',c,d,pv,hx⟩:=hs'; exact idS_lt hx
    have hos2 : os < H2.length:=by obtain ⟨a,b',c,d,pv,hx⟩:=hs'; exact hx.lt
    have hcl2 : H1.length < H2.length:=(gSI.1 cc).1;generalize (H2 ++ [some (AObj.cells [I q.pos,I q.len])])=H3 at hs3 fs3 cc3 tq hl3
    -- the deed
    have deed : ¬ (¬ hasL ct.1.2 (q.pos / 8)∧freeS s'=0)→bO (zfZ 0 (.ptr H2.length 0)) (λv25=>bO (ald false 1 H3 v25) λv26=>bO (zfZ 1 (.ptr H2.length 0)) λv27=>bO (ald false 1 H3 v27) λv28=>bO (abI .add (I (q.pos - pos)) v28) λv29=>bO (aslS 1 x3 (some (I (q.pos - pos))) (some v29) none) λv30=>
      bC (BCall Tryz.prog 68 [v30] H3) λv31 H32=>bO (abl [(I 0),(I 0),(I 0),(I 0),(B false),(.lit (.string ⟨#[]⟩)),(.lit (.string ⟨#[]⟩)),nilSl] [(0,1,(I 2)),(1,1,I ino),(2,1,v26),(7,1,v31)]) λv33=>
      bC (BCall Tryz.prog 63 [.ptr os 0,v33] H32) λv34 H35=>(ald false 1 H32 v25=some v26)∧bO (abI .neq v34 (I 0)) λv36=>bB v36 λt37=>bI t37
       (AV.tup [I (q.pos - pos),v34] = .tup [I W.1.1,I W.1.2] ∧
        ∃ p',StAt W.2 os p' H35∧StF os p p' H H35)
       (bO (abI .add (I k) (I 1)) λv38=>R2 [.ptr os 0,I ino,I pos,x3,.ptr H1.length 0,x36,I L.length,v38] H35)):=by
     intro hno;have e4 : abI .add (I (q.pos - pos)) (I q.len)=some (I (q.pos - pos + q.len)):=zuZ (by omega) (by omega)
     have hv3 : zbZ H3 1 x3=some (encB b,b.length):=zcZ hv λj hj=>by
      have hne:=hvi j hj;exact fs3.same j (hvH j hj) hne.1 hne.2
     obtain ⟨r5,s1,s2,s3,-⟩:=zojZ hv3 (lo:=some (I (q.pos - pos))) (hi:=some (I (q.pos - pos + q.len))) (l:=(q.pos - pos).toNat) (k:=(q.pos - pos + q.len).toNat) (by simp only [abnd]; rw [if_pos (by omega)]) (by simp only [abnd]; rw [if_pos (by omega)]) (by omega) (by omega);have hpl2:=partB_len (b:=b) (pos:=pos) (q:=q) ⟨q1,q2,q3,q4⟩
     have s2' : zbZ H3 1 r5=some (encB (partB b pos q),(partB b pos q).length):=by
      rw [s2,hpl2];unfold partB;rw [Nat.mul_one,Nat.mul_one,show (q.pos - pos + q.len).toNat - (q.pos - pos).toNat=q.len.toNat by omega];simp [encB,List.map_take,List.map_drop]
     obtain ⟨Rb,hRb,hcb⟩:=cloneB_z s2' (by omega);simp only [ziZ,Nat.zero_add,zdZ,znZ tq,zhZ,gCS,gCZ,e4,s1];refine bC_of hcb ?_
     have e5 : abl [(I 0),(I 0),(I 0),(I 0),(B false),(.lit (.string ⟨#[]⟩)),(.lit (.string ⟨#[]⟩)),nilSl] [(0,1,(I 2)),(1,1,I ino),(2,1,I q.pos),(7,1,Rb)]=some (.agg (opA (opWr ino q.pos (partB b pos q)) Rb)):=by
      have:=SV.oneA hRb
      simp [abl,opA,opWr,zzZ this];rfl
     simp only [e5,zdZ];obtain ⟨r6,H6,⟨rfl,p6,h6,f6⟩,hcall⟩:=do_c (o:=opWr ino q.pos (partB b pos q)) hs3 hws' (by omega) hRb (opWr_b (by omega));have hws6:=doS_w (o:=opWr ino q.pos (partB b pos q)) hws' (opWr_b (by omega));refine bC_of hcall ⟨by rw [znZ tq]; rfl, ?_⟩;simp only [znvZ,zdZ,zsZ]
     by_cases hd : (doS s' (opWr ino q.pos (partB b pos q))).1=0
     ·simp only [hd,ne_eq,not_true_eq_false,dFf,zmZ,zuZ (a:=k) (b:=1) (by omega) (by omega),zdZ]
      have hwt : wt (opWr ino q.pos (partB b pos q))≤9:=by
       show 1 + (partB b pos q).length + (if (2 : Int)=4 then 4098 else 0)≤9
       rw [if_neg (by omega)]; omega
      refine hR2 (m - 1) _ _ _ _ _ _ _ _ _ (by omega) ⟨k + 1,_,p6,by omega,rfl,rfl,rfl,rfl,rfl,rfl,rfl,by simp,h6,fs3.trans f6,hws6.mono (by omega), ?_, ?_, ?_⟩
      ·rw [f6.same H1.length (by omega) (by omega) hcp]; exact cc3
      ·intro hh
       rcases f6.ids _ hh with hh | hh
       ·exact hcp hh
       ·omega
      ·rw [← heq,hdrop]
       conv => rhs; unfold wrS
       rw [if_neg hno,if_neg (by rw [hd]; simp)]
     ·have eW : W=((q.pos - pos,(doS s' (opWr ino q.pos (partB b pos q))).1),(doS s' (opWr ino q.pos (partB b pos q))).2):=by
       rw [← hW]; unfold wrS; rw [if_neg hno,if_pos hd]
      rw [eW];simp only [hd,ne_eq,not_false_eq_true,dTt,zbdZ];exact ⟨by trivial,p6,h6,fs3.trans f6⟩
    by_cases hh : hasL ct.1.2 (q.pos / 8)
    ·simp only [hh,dTt,zjxZ,Bool.not_true,zdZ,zgsZ,show ((false == true)=false) from rfl,zrrZ,gC_false,zbcZ,if_false,Bool.false_eq_true,zsZ,zmZ]
     exact deed (λx=>x.1 hh)
    ·simp only [hh,dFf,zjxZ,Bool.not_false,zdZ,zgsZ,beq_self_eq_true,zcpZ,gC_true]
     refine bC_of (Free_c hs3 hws' (by omega)) ?_;simp only [zbbsZ,zdZ,zbcZ,if_true,zsZ]
     by_cases hfr : freeS s'=0
     ·have eW : W=((q.pos - pos,4),s'):=by
       rw [← hW]; unfold wrS; rw [if_pos ⟨hh,hfr⟩]
      rw [eW];simp only [hfr,dTt,zbdZ];exact ⟨by trivial,p',hs3,fs3⟩
     ·simp only [hfr,dFf,zmZ]
      exact deed (λx=>hfr x.2)
   ·have kI : ¬ (k : Int) < (L.length : Int):=by omega
    have hdrop : L.drop k=[]:=List.drop_of_length_le hge;rw [hdrop];unfold wrS;simp only [zkyZ,zdZ,zsZ,kI,dFf,zmZ,alv];exact ⟨by trivial,p',hs',fs'⟩
  ·have hf' : ¬ (0≤pos∧b.length≤4096∧pos≤1099511627776 - b.length):=hf
   simp only [hf,hf',dFf,zjxZ,Bool.not_false,zdZ,zsZ,zbdZ,not_false_eq_true,if_true];exact ⟨by trivial,p,h2,.of_grew (g1.trans g2)⟩
 ·simp only [hc0,ne_eq,not_false_eq_true,dTt,zbdZ,if_true]
  exact ⟨by trivial,p,h2,.of_grew (g1.trans g2)⟩)
def staysO (l : List Int) (o : OpM) : Prop:=o.kind=1∨o.kind=6∨o.kind=7∨o.ino ∈ l
instance (l : List Int) (o : OpM) : Decidable (staysO l o):=by unfold staysO; infer_instance
theorem one_at {α : Type} {enc : α→List AV} {f : α→AV} (he : ∀ x,enc x=[f x]) {H : AH} {w : AV} {l : List α} {k : Nat} {x : α} (hw : zbZ H 1 w=some (l.flatMap enc,l.length)) (hx : l[k]? = some x) : ∃ p,aixS 1 w (I k)=some p∧ald false 1 H p=some (f x):=by
 have hk:=(gSI.1 hx).1;obtain ⟨p,c,h1,h2,h3,h4⟩:=aixS_spec hw (i:=(k : Int)) rfl hk;have el : ∀ x,(enc x).length=1:=λx=>by rw [he]; rfl
 have hc : c.take 1=[f x]:=by
  rw [h3,zooZ el hx,List.take_append_of_le_length (by rw [el]; exact Nat.le_refl 1),List.take_of_length_le (by rw [el]; exact Nat.le_refl 1),he]
 refine ⟨p,h1, ?_⟩;rw [ald_at h2 (by omega) h4];cases c with
 | nil => simp at hc
 | cons y t => simp at hc; rw [hc]; rfl
theorem aslS_max {H : AH} {v : AV} {cs : List AV} {n l k : Nat} (h : zbZ H 1 v=some (cs,n)) (hlk : l < k) (hkn : k≤n) :
  ∃ r,aslS 1 v (some (I l)) (some (I k)) (some (I k))=some r∧(∀ H,zbZ H 1 v=some (cs,n)→zbZ H 1 r=some ((cs.drop l).take (k - l),k - l))∧∀ i ∈ idS r,i ∈ idS v:=by
 have b1 : abnd (some (I l)) 0=some l:=by simp [abnd]
 have b2 : ∀ d,abnd (some (I k)) d=some k:=λd=>by simp [abnd]
 have hcl:=zbpZ h;unfold zbZ at h;unfold aslS;split at h
 ·rename_i c len esz
  split at h
  ·rename_i hb
   obtain ⟨rfl,hb⟩:=hb;injection h with h; injection h with h1 h2;subst h1; subst h2;simp only [b1,b2,Option.isSome_some];rw [if_pos ⟨by omega,by omega,by omega,by trivial⟩,if_neg (by omega)];refine ⟨_,rfl,λH _=>?_,λi hi=>hi⟩;simp only [zbZ,true_and,Nat.mul_one];rw [if_pos (by rw [List.length_take,List.length_drop]; omega)]
  ·cases h
 ·rename_i o off len esz cap
  split at h
  ·rename_i c hoc
   split at h
   ·rename_i hb
    obtain ⟨rfl,hb⟩:=hb;injection h with h; injection h with h1 h2;subst h2;simp only [ne_eq,not_true_eq_false,if_false,b1,b2,Option.isSome_some];rw [if_pos ⟨by omega,by omega,by omega,by trivial⟩];refine ⟨_,rfl,λH h2=>?_,λi hi=>hi⟩;unfold zbZ at h2;simp only [true_and] at h2;split at h2
    ·rename_i c2 hoc2
     split at h2
     ·rename_i hb2
      injection h2 with h2; injection h2 with h3 h4;rw [zbbZ hoc2 (by omega),← h3];simp only [Nat.mul_one];rw [List.drop_take,List.drop_drop,List.take_take]
      congr 3
      omega
     ·cases h2
    ·cases h2
   ·cases h
  ·cases h
 all_goals (try (injection h with h; injection h with h1 h2; omega))
 all_goals cases h
noncomputable abbrev chB : Code:=zinZ Tryz.f158
noncomputable abbrev chO : Array Oper:=opsOf (sub [true,true,true,true,false,true,true,false] chB)
noncomputable abbrev chY : Oper := chO.toList.getD 10 ⟨none, .nilCheck (.tmp 0), 0, "", #[], none⟩
theorem ch_body : Tryz.f158.body=some (.seq (sub [false] chB) (.block 0 (.loop (.seq (.seq (sub [true,true,true,false,false] chB) (.cond (.tmp 9) .skip (.exit 0)))
  (.seq (.block 1 (.seq (sub [true,true,true,true,false,true,false] chB) (.seq (.region 4 chO false) (.cond (.tmp 30) .ret .skip)))) (sub [true,true,true,true,true] chB)))))):=by kernel_rfl
noncomputable abbrev chS (p : List Bool) (T : List AV) (H : AH) (K : Kf) : Prop:=sCode Tryz.prog (flOf []) none0 none0 none0 (kpOf []) (sub p chB) 0 T H K
theorem ch_p0 (x0 x1 x2 : AV) (H : AH) (Q : Exit→List AV→AH→Prop) : chS [false] ([x0,x1,x2] ++ List.replicate 28 zerZ) H (λe T H=>fP (mk 31 0 [0,1,2,4]) T λX=>Q e X H)=Q .normal [x0,x1,x2,I 0] H:=by kernel_rfl
theorem ch_p1 (x0 x1 x2 x4 : AV) (H : AH) (Q : Exit→List AV→AH→Prop) : chS [true,true,true,false,false] (zmkZ (mk 31 0 [0,1,2,4]) [x0,x1,x2,x4]) H (λe T H=>fP (mk 31 0 [0,1,2,4,9]) T λX=>Q e X H) =
  bO (ald false 1 H x1) λv7=>bO (alnS v7) λv8=>bO (abI .lss x4 v8) λv9=>Q .normal [x0,x1,x2,x4,v9] H:=by kernel_rfl
theorem ch_p3 (x0 x1 x2 x4 x9 : AV) (H : AH) (Q : Exit→List AV→AH→Prop) : chS [true,true,true,true,false,true,false] (zmkZ (mk 31 0 [0,1,2,4,9]) [x0,x1,x2,x4,x9]) H (λe T H=>fP (mk 31 0 [0,1,2,4,5]) T λX=>Q e X H) =
  bO (ald false 1 H x2) λv13=>bO (ald false 1 H x1) λv14=>bO (aslS 1 v14 (some x4) none none) λv16=>bO (alnS v16) λv17=>bO (amm imn [v13,v17]) λv18=>Q .normal [x0,x1,x2,x4,v18] H:=by kernel_rfl
theorem ch_p4 (x0 x1 x2 x4 x5 : AV) (H : AH) (Q : List AV→AH→Prop) : sOps Tryz.prog none0 none0 false chO (chO.toList.take 10) (zmkZ (mk 31 0 [0,1,2,4,5]) [x0,x1,x2,x4,x5]) H (λT H=>fP (mk 31 0 [0,1,2,4,19,28]) T λX=>Q X H) =
  bO (ald false 1 H x1) λv20=>bO (abI .add x4 x5) λv24=>bO (abI .add x4 x5) λv27=>bO (aslS 1 v20 (some x4) (some v24) (some v27)) λv28=>Q [x0,x1,x2,x4,x0,v28] H:=by kernel_rfl
theorem ch_p5 (x0 x1 x2 x4 x19 x28 x29 : AV) (H : AH) (Q : List AV→AH→Prop) : sOps Tryz.prog none0 none0 false chO (chO.toList.drop 11) (aput (zmkZ (mk 31 0 [0,1,2,4,19,28]) [x0,x1,x2,x4,x19,x28]) (some 29) x29) H (λT H=>fP (mk 31 0 [0,1,2,4,30]) T λX=>Q X H) =
  bO (aun .not x29) λv30=>Q [x0,x1,x2,x4,v30] H:=by kernel_rfl
theorem ch_p2 (x0 x1 x2 x4 x30 : AV) (H : AH) (Q : Exit→List AV→AH→Prop) : chS [true,true,true,true,true] (zmkZ (mk 31 0 [0,1,2,4,30]) [x0,x1,x2,x4,x30]) H (λe T H=>fP (mk 31 0 [0,1,2,4]) T λX=>Q e X H) =
  bO (ald false 1 H x2) λv11=>bO (abI .add x4 v11) λv12=>Q .normal [x0,x1,x2,v12] H:=by kernel_rfl
theorem ch_ops : chO.toList=chO.toList.take 10 ++ chY :: chO.toList.drop 11:=by kernel_rfl
noncomputable abbrev chA : Array TypeId:=match chY.op with
 | .call c => c.argTypes
 | _ => #[]
theorem ch_y : chY.op = .call { callee:=.value (.tmp 19),args:=#[.tmp 28],argTypes:=chA }∧chY.guard=none∧chY.dst=some 29:=⟨by kernel_rfl,by kernel_rfl,by kernel_rfl⟩
theorem ch_ok : zrfZ (flOf []) none0 none0 (sub [false] chB)=true∧zrfZ (flOf []) none0 none0 (sub [true,true,true,false,false] chB)=true∧zrfZ (flOf []) none0 none0 (sub [true,true,true,true,false,true,false] chB)=true∧zrfZ (flOf []) none0 none0 (sub [true,true,true,true,true] chB)=true:=⟨by kernel_rfl,by kernel_rfl,by kernel_rfl,by kernel_rfl⟩
def chX (s : AV) (len n j : Nat) : AV:=(aslS 1 s (some (I (j * n : Nat))) (some (I (j * n + min n (len - j * n) : Nat))) (some (I (j * n + min n (len - j * n) : Nat)))).getD zerZ
def chN (len n : Nat) : Nat:=(len + n - 1) / n
def chL (s : AV) (len n : Nat) : List AV:=(List.range (chN len n)).map (chX s len n)
theorem chL_len (s : AV) (len n : Nat) : (chL s len n).length=chN len n:=by simp [chL]
theorem chN_lt {len n k : Nat} (hn : 0 < n) : k < chN len n ↔ k * n < len:=by
 unfold chN;rw [show (k < (len + n - 1) / n)=(k + 1≤(len + n - 1) / n) from rfl,Nat.le_div_iff_mul_le hn,Nat.succ_mul];omega
theorem abnd_nat (a d : Nat) : abnd (some (I a)) d=some a:=by simp [abnd]
theorem imn_nat (a b : Nat) : imn (a : Int) b=((min a b : Nat) : Int):=by unfold imn; split <;> omega
theorem chunk_it {o1 o2 : Nat} {s : AV} {cs : List AV} {len n : Nat} (hn : 0 < n) (hn2 : n≤1099511627776) (hlen : len≤1099511627776) : IterOk Tryz.prog 158 [.ptr o1 0,.ptr o2 0] (λH=>H[o1]? = some (some (.cells [s]))∧H[o2]? = some (some (.cells [I n]))∧zbZ H 1 s=some (cs,len)) (chL s len n):=by
 have e31 : Tryz.f158.ntmps=31:=by kernel_rfl
 refine iter_of_body Tryz.func158 ch_body (by kernel_rfl) ?_;intro l G0 rec T p H J X hrd hpd hps hT h0 hcap hr;rw [e31,chL_len];generalize hY : (AV.lit (.func (.yield l) #[] #[]))=Y;refine XCode.seqP (fl:=flOf []) (ql:=none0) (al:=none0) (un:=none0) (kp:=kpOf []) (n:=0) (keep:=mk 31 0 [0,1,2,4]) mixP ch_ok.1 (λe T T' H he h=>by cases e <;> first | exact absurd rfl he | exact h) ?_;refine Eq.mpr (ch_p0 Y (.ptr o1 0) (.ptr o2 0) H _) ?_;refine (?_ : XCode _ l G0 (.block 0 _) _ _ _ _);refine XCode.block ?_;refine XCode.loop (λm T H r=>∃ k,k + m=chN len n∧r=rec∧T.length=31∧proj (mk 31 0 [0,1,2,4]) T=[Y,.ptr o1 0,.ptr o2 0,I (k * n : Nat)]∧J k H) (chN len n) ⟨0,by omega,rfl,rfl,by simp [mk,proj,zmkZ],h0⟩ ?_;rintro m T H r ⟨k,hk,rfl,hl,hT2,hj⟩;refine XCode.weak (keep:=mk 31 0 [0,1,2,4]) hl ?_;rw [hT2];obtain ⟨c1,c2,c3⟩:=hcap k H hj;have hkn:=chN_lt (len:=len) (k:=k) hn;refine XCode.seq ?_;refine XCode.seqP (fl:=flOf []) (ql:=none0) (al:=none0) (un:=none0) (kp:=kpOf []) (n:=0) (keep:=mk 31 0 [0,1,2,4,9]) mixP ch_ok.2.1 (λe T T' H he h=>by cases e <;> first | exact absurd rfl he | exact h) ?_;refine Eq.mpr (ch_p1 Y (.ptr o1 0) (.ptr o2 0) _ H _) ?_;have al : alnS s=some (I (len : Nat)):=zjmZ c3;simp only [znZ c1,zhZ,gCZ,zdZ,al,zkyZ];refine (?_ : XCode _ l G0 (.cond (.tmp 9) .skip (.exit 0)) _ _ _ _);refine XCode.cond (b:=decide (((k * n : Nat) : Int) < len)) rfl ?_
 by_cases h : k * n < len
 ·have hI : ((k * n : Nat) : Int) < (len : Int):=by omega
  simp only [hI,dTt,if_true];refine XCode.skip ?_;refine (?_ : XCode _ l G0 (.seq (.block 1 _) _) _ _ _ _);refine XCode.seq (XCode.block ?_);refine XCode.seqN (fl:=flOf []) (ql:=none0) (al:=none0) (un:=none0) (kp:=kpOf []) (n:=0) (keep:=mk 31 0 [0,1,2,4,5]) mixP ch_ok.2.2.1 ?_;refine Eq.mpr (ch_p3 Y (.ptr o1 0) (.ptr o2 0) _ _ H _) ?_;obtain ⟨r1,s1,s2,-⟩:=zojZ c3 (lo:=some (I (k * n : Nat))) (hi:=none) (l:=k * n) (k:=len) (abnd_nat _ _) rfl (by omega) (Nat.le_refl _);have al1 : alnS r1=some (I (len - k * n : Nat)):=zjmZ s2;have hmin : amm imn [I n,I (len - k * n : Nat)]=some (I (min n (len - k * n) : Nat)):=by rw [zbbqZ,imn_nat]
  simp only [znZ c2,znZ c1,zhZ,gCZ,zdZ,s1,al1,hmin];refine ⟨by trivial, ?_⟩;refine XCode.seq (XCode.region ?_);refine Eq.mpr (congrArg (λL=>XOps _ l G0 chO _ L _ _ _) ch_ops) ?_;refine XOps.preP (ql:=none0) (al:=none0) (keep:=mk 31 0 [0,1,2,4,19,28]) ?_;refine Eq.mpr (ch_p4 Y (.ptr o1 0) (.ptr o2 0) _ _ H _) ?_
  have hadd : abI .add (I (k * n : Nat)) (I (min n (len - k * n) : Nat))=some (I (k * n + min n (len - k * n) : Nat)):=by
   rw [zuZ (by omega) (by omega)]; congr 3
  have hlt : k * n < k * n + min n (len - k * n):=by omega
  obtain ⟨r2,t1,t2,-⟩:=aslS_max c3 hlt (show k * n + min n (len - k * n)≤len by omega)
  have hx : (chL s len n)[k]? = some r2:=by
   unfold chL;rw [List.getElem?_map,List.getElem?_range (hkn.2 h)]
   show some (chX s len n k)=some r2
   unfold chX;rw [t1]; rfl
  simp only [znZ c1,zhZ,gCZ,zdZ,hadd,t1];refine XOps.yield ch_y.1 ch_y.2.1 hY.symm hrd hpd hps hT (hr k r2 H hx hj) ?_ ?_
  ·intro H' hj'
   rw [ch_y.2.2];obtain ⟨d1,d2,d3⟩:=hcap (k + 1) H' hj';refine Eq.mpr (congrArg (λL=>XOps _ l G0 chO _ L _ _ _) (List.append_nil _).symm) ?_;refine XOps.preP (ql:=none0) (al:=none0) (keep:=mk 31 0 [0,1,2,4,30]) ?_;refine Eq.mpr (ch_p5 Y (.ptr o1 0) (.ptr o2 0) _ _ _ _ H' _) ?_;simp only [zjxZ,zdZ,Bool.not_true];refine XOps.nil ?_;refine (?_ : XCode _ l G0 (.cond (.tmp 30) .ret .skip) _ _ _ _);refine XCode.cond (b:=false) rfl ?_;simp only [Bool.false_eq_true,if_false];refine XCode.skip ?_;refine (?_ : XCode _ l G0 (sub [true,true,true,true,true] chB) _ _ _ _);refine XCode.of ((zqxZ (fl:=flOf []) (ql:=none0) (al:=none0) (un:=none0) (kp:=kpOf []) mixP _ 0 _ _ _ ch_ok.2.2.2 (Eq.mpr (ch_p2 Y (.ptr o1 0) (.ptr o2 0) _ _ H' (λe X H2=>e = .normal∧X=[Y,.ptr o1 0,.ptr o2 0,I ((k + 1) * n : Nat)]∧H2=H')) ?_)).mono ?_)
   ·have ha : abI .add (I (k * n : Nat)) (I n)=some (I ((k + 1) * n : Nat)):=by
     rw [zuZ (by omega) (by omega)]; congr 3; rw [Nat.succ_mul]; omega
    simp only [znZ d2,zhZ,gCZ,zdZ,ha];exact ⟨by trivial,by trivial,by trivial⟩
   ·intro e T' H2 hk2
    obtain ⟨hl2,rfl,hX,rfl⟩:=zvhZ.1 hk2;exact ⟨m - 1,by have:=hkn.2 h; omega,k + 1,by have:=hkn.2 h; omega,rfl,hl2,hX,hj'⟩
  ·intro c H' hx'
   rw [ch_y.2.2];refine Eq.mpr (congrArg (λL=>XOps _ l G0 chO _ L _ _ _) (List.append_nil _).symm) ?_;refine XOps.preP (ql:=none0) (al:=none0) (keep:=mk 31 0 [0,1,2,4,30]) ?_;refine Eq.mpr (ch_p5 Y (.ptr o1 0) (.ptr o2 0) _ _ _ _ H' _) ?_;simp only [zjxZ,zdZ,Bool.not_false];refine XOps.nil ?_;refine (?_ : XCode _ l G0 (.cond (.tmp 30) .ret .skip) _ _ _ _);refine XCode.cond (b:=true) rfl ?_;simp only [if_true];refine XCode.ret ?_;exact ⟨.inr rfl,.inr ⟨c,rfl,hx'⟩⟩
 ·have hI : ¬ ((k * n : Nat) : Int) < (len : Int):=by omega
  simp only [hI,dFf,Bool.false_eq_true,if_false];refine XCode.exit ?_
  have hkN : k=chN len n:=by
   have:=mt hkn.1 h
   omega
  exact ⟨.inl rfl,.inl ⟨rfl,by rw [← hkN]; exact hj⟩⟩
theorem StAt.keep {s : StS} {os : Nat} {p : AV} {H H' : AH} (h : StAt s os p H) (k : ∀ j,j=os∨j ∈ idS p→H'[j]? = H[j]?) : StAt s os p H':=by
 obtain ⟨a,b,c,d,pv,h⟩:=h;exact ⟨a,b,c,d,pv,by rw [k os (.inl rfl)]; exact h.obj,h.now,h.kept,h.pm,zcZ h.ps λi q=>k i (.inr q),h.po,h.pi,h.pc⟩
theorem StAt.os_lt {s : StS} {os : Nat} {p : AV} {H : AH} (h : StAt s os p H) : os < H.length:=by obtain ⟨a,b,c,d,pv,h⟩:=h; exact h.lt
theorem StAt.p_lt {s : StS} {os : Nat} {p : AV} {H : AH} (h : StAt s os p H) : ∀ j ∈ idS p,j < H.length:=by obtain ⟨a,b,c,d,pv,h⟩:=h; exact idS_lt h
theorem Chunk_c {H : AH} {v : AV} {cs : List AV} {m : Nat} (hv : zbZ H 1 v=some (cs,m)) (ho : oneA v=true) : BCall Tryz.prog 102 [v,I 4096] H (.fn (.func 158) [] [.ptr H.length 0,.ptr (H.length + 1) 0]) (H ++ [some (.cells [v]),some (.cells [I 4096])]):=by
 obtain ⟨r,H',⟨rfl,rfl⟩,hc⟩:=zrpZ (a0:=v) (a1:=I 4096) (H:=H) (K:=λr H'=>r = .fn (.func 158) [] [.ptr H.length 0,.ptr (H.length + 1) 0]∧H'=H ++ [some (.cells [v]),some (.cells [I 4096])]) (by
  unfold zlyZ;have e1 : anew H v=some (.ptr H.length 0,H ++ [some (.cells [v])]):=by unfold anew; rw [zzZ ho]; rfl
  have e2 : anew (H ++ [some (.cells [v])]) (I 4096)=some (.ptr (H.length + 1) 0,H ++ [some (.cells [v]),some (.cells [I 4096])]):=by unfold anew; rw [zzZ (v:=I 4096) rfl]; simp
  have c2 : (H ++ [some (AObj.cells [v]),some (.cells [I 4096])])[H.length + 1]? = some (some (.cells [I 4096])):=by simp
  simp only [e1,zbtZ,e2,znZ c2,zhZ,gCZ,zdZ,zkyZ,zsZ,show ¬ (4096 : Int) < 1 by omega,dFf,zmZ];exact ⟨by trivial,by trivial⟩)
 exact hc
def zufZ (b : List UInt8) : List (List UInt8):=(List.range (chN b.length 4096)).map λj=>(b.drop (j * 4096)).take (min 4096 (b.length - j * 4096))
def pcs (ino : Int) : List (List UInt8)→StS→Int→Int→(StS × Int × Int) × Int
 | [],s,at',sum => ((s,at',sum),0)
 | b :: r,s,at',sum =>
  if (zpmZ s ino at' b).1.2=0 then pcs ino r (zpmZ s ino at' b).2 (at' + (zpmZ s ino at' b).1.1) (sum + (zpmZ s ino at' b).1.1)
  else (((zpmZ s ino at' b).2,at' + (zpmZ s ino at' b).1.1,sum + (zpmZ s ino at' b).1.1),(zpmZ s ino at' b).1.2)
def lenB (l : List (List UInt8)) : Nat:=(l.map List.length).sum
theorem wrS_n {c : List Ext} {ino pos : Int} {b : List UInt8} : ∀ {l : List Sp} {s : StS},(∀ q ∈ l,pos≤q.pos∧0 < q.len∧q.len≤8∧q.pos + q.len≤pos + b.length)→0≤(wrS c ino pos b l s).1.1∧(wrS c ino pos b l s).1.1≤b.length
 | [],s,_ => by unfold wrS; simp only; omega
 | q :: r,s,hq => by
  have h1:=hq q (by simp);unfold wrS
  split
  ·simp only; omega
  ·split
   ·simp only; omega
   ·exact wrS_n λx hx=>hq x (by simp [hx])
theorem writeS_n (s : StS) (ino pos : Int) (b : List UInt8) : 0≤(zpmZ s ino pos b).1.1∧(zpmZ s ino pos b).1.1≤b.length:=by
 unfold zpmZ
 split
 ·simp only; omega
 ·split
  ·simp only; omega
  ·rename_i hf
   have hf:=Decidable.byContradiction hf;exact wrS_n λq hq=>parts_in hf hq
structure CwS (os fo b0 : Nat) (ino : Int) (s : StS) (at' sum : Int) (p : AV) (H : AH) : Prop where
 st : StAt s os p H
 file : H[fo]? = some (some (.cells [I at',.ptr os 0,I ino]))
 box : H[b0]? = some (some (.cells [.ptr fo 0]))
 r1 : ∃ a,H[b0 + 1]? = some (some (.cells [a]))
 r2 : ∃ a,H[b0 + 2]? = some (some (.cells [a]))
 sum : H[b0 + 3]? = some (some (.cells [I sum]))
 nf : fo ≠ os∧fo ∉ idS p∧fo < b0∧os < b0
 nb : ∀ j,b0≤j→j≤b0 + 3→j ∉ idS p
structure CwF (os fo b0 : Nat) (p p' : AV) (H H' : AH) : Prop where
 len : H.length≤H'.length
 same : ∀ j,j < H.length→j ≠ os→j ≠ fo→(j≤b0∨b0 + 3 < j)→j ∉ idS p→H'[j]? = H[j]?
 ids : ∀ j ∈ idS p',j ∈ idS p∨H.length≤j
theorem CwF.refl (os fo b0 : Nat) (p : AV) (H : AH) : CwF os fo b0 p p H H:=⟨Nat.le_refl _,λ_ _ _ _ _ _=>rfl,λ_ h=>.inl h⟩
theorem CwF.trans {os fo b0 : Nat} {p p' p'' : AV} {A B C : AH} (h : CwF os fo b0 p p' A B) (k : CwF os fo b0 p' p'' B C) : CwF os fo b0 p p'' A C :=
  ⟨Nat.le_trans h.len k.len,λj hj h1 h2 h3 hp=>by
    rw [k.same j (Nat.lt_of_lt_of_le hj h.len) h1 h2 h3 (λhp'=>(h.ids j hp').elim hp (λq=>by omega)),h.same j hj h1 h2 h3 hp],
   λj hj=>(k.ids j hj).elim (h.ids j) (λq=>.inr (Nat.le_trans h.len q))⟩
theorem CwF.of_grew {os fo b0 : Nat} {p : AV} {H H' : AH} (g : Grew H H') : CwF os fo b0 p p H H':=⟨g.1,λj hj _ _ _ _=>g.2 j hj,λ_ h=>.inl h⟩
theorem CwS.grew {os fo b0 : Nat} {ino : Int} {s : StS} {at' sum : Int} {p : AV} {H H' : AH} (h : CwS os fo b0 ino s at' sum p H) (g : Grew H H') : CwS os fo b0 ino s at' sum p H':=by
 obtain ⟨a,ha⟩:=h.r1;obtain ⟨b,hb⟩:=h.r2;exact ⟨h.st.grew g,g.cells h.file,g.cells h.box,⟨a,g.cells ha⟩,⟨b,g.cells hb⟩,g.cells h.sum,h.nf,h.nb⟩
theorem piece_c {os fo b0 : Nat} {ino : Int} {s : StS} {at' sum : Int} {p w : AV} {H : AH} {N : Nat} {b : List UInt8} {K0 : AV→AH→Prop} {J X : AH→Prop} (h : CwS os fo b0 ino s at' sum p H) (hw : SW N s) (hN : N + 9 * b.length < 900000)
  (hv : zbZ H 1 w=some (encB b,b.length)) (hvi : ∀ j ∈ idS w,j ≠ os∧j ∉ idS p) (ha : 0≤at'∧at' + b.length≤9223372036854775807) (hs : 0≤sum∧sum + b.length≤9223372036854775807)
  (hj : (zpmZ s ino at' b).1.2=0→∀ p' H',CwS os fo b0 ino (zpmZ s ino at' b).2 (at' + (zpmZ s ino at' b).1.1) (sum + (zpmZ s ino at' b).1.1) p' H'→CwF os fo b0 p p' H H'→J H')
  (hx : (zpmZ s ino at' b).1.2 ≠ 0→∀ p' H',CwS os fo b0 ino (zpmZ s ino at' b).2 (at' + (zpmZ s ino at' b).1.1) (sum + (zpmZ s ino at' b).1.1) p' H'→CwF os fo b0 p p' H H'→H'[b0 + 1]? = some (some (.cells [I (sum + (zpmZ s ino at' b).1.1)]))→H'[b0 + 2]? = some (some (.cells [I (zpmZ s ino at' b).1.2]))→X H') :
  zcxZ (λe H'=>match e with | .normal => J H' | .ret => X H' | _ => False) (.ptr b0 0) (.ptr (b0 + 1) 0) (.ptr (b0 + 2) 0) (.ptr (b0 + 3) 0) w H K0:=by
 unfold zcxZ;obtain ⟨n1,n2⟩:=writeS_n s ino at' b;obtain ⟨r,H1,⟨rfl,p',h1,f1⟩,hc⟩:=Write_c h.st hw ino at' hN hv hvi;generalize zpmZ s ino at' b=W at *;obtain ⟨d1,d2,d3,d4⟩:=h.nf;have hl3 : b0 + 3 < H.length:=(gSI.1 h.sum).1;have np : ∀ j,j < H.length→j ∉ idS p→j ∉ idS p':=λj hj hp q=>(f1.ids j q).elim hp (λq=>by omega)
 have kf : H1[fo]? = _:=(f1.same fo (by omega) d1 d2).trans h.file;have kb : H1[b0]? = _:=(f1.same b0 (by omega) (by omega) (h.nb b0 (by omega) (by omega))).trans h.box;have ks : H1[b0 + 3]? = _:=(f1.same (b0 + 3) (by omega) (by omega) (h.nb _ (by omega) (by omega))).trans h.sum;have k1:=f1.same (b0 + 1) (by omega) (by omega) (h.nb _ (by omega) (by omega));have k2:=f1.same (b0 + 2) (by omega) (by omega) (h.nb _ (by omega) (by omega));obtain ⟨a1,q1⟩:=h.r1;obtain ⟨a2,q2⟩:=h.r2;rw [q1] at k1;rw [q2] at k2;have e1 : abI .add (I at') (I W.1.1)=some (I (at' + W.1.1)):=zuZ (by omega) (by omega);have e2 : ast 1 H1 (.ptr fo 0) (I (at' + W.1.1))=some (H1.set fo (some (.cells [I (at' + W.1.1),.ptr os 0,I ino]))):=fld kf (by simp) rfl;simp only [znZ h.box,zhZ,gCS,gCZ,zdZ,zgZ,ziZ,Nat.zero_add,znZ h.file];refine bC_of hc ?_;have hlen:=f1.len;simp only [zoZ,gCS,gCZ,znZ kb,zhZ,zdZ,zgZ,ziZ,Nat.zero_add,znZ kf,e1,e2,zcyZ];generalize hH2 : H1.set fo (some (AObj.cells [I (at' + W.1.1),.ptr os 0,I ino]))=H2;have g2 : ∀ j,j ≠ fo→H2[j]? = H1[j]?:=λj hj=>by rw [← hH2]; exact gSN (Ne.symm hj)
 have gf : H2[fo]? = some (some (.cells [I (at' + W.1.1),.ptr os 0,I ino])):=by rw [← hH2]; exact gSS (by omega)
 have l2 : H2.length=H1.length:=by rw [← hH2,List.length_set]
 have ks2 : H2[b0 + 3]? = _:=(g2 _ (by omega)).trans ks;have e3 : abI .add (I sum) (I W.1.1)=some (I (sum + W.1.1)):=zuZ (by omega) (by omega);have e4 : ast 1 H2 (.ptr (b0 + 3) 0) (I (sum + W.1.1))=some (H2.set (b0 + 3) (some (.cells [I (sum + W.1.1)]))):=fld ks2 (by simp) rfl;simp only [znZ ks2,zhZ,gCZ,zdZ,e3,e4,zcyZ,znvZ,zsZ];generalize hH3 : H2.set (b0 + 3) (some (AObj.cells [I (sum + W.1.1)]))=H3;have g3 : ∀ j,j ≠ b0 + 3→H3[j]? = H2[j]?:=λj hj=>by rw [← hH3]; exact gSN (Ne.symm hj)
 have gs : H3[b0 + 3]? = some (some (.cells [I (sum + W.1.1)])):=by rw [← hH3]; exact gSS (by omega)
 have l3 : H3.length=H1.length:=by rw [← hH3,List.length_set,l2]
 have st3 : StAt W.2 os p' H3:=h1.keep λj hj=>by
  have hjf : j ≠ fo∧j ≠ b0 + 3:=by
   rcases hj with rfl | hj
   ·exact ⟨Ne.symm d1,by omega⟩
   ·exact ⟨λe=>np fo (by omega) d2 (by rw [← e]; exact hj),λe=>np (b0 + 3) (by omega) (h.nb _ (by omega) (by omega)) (by rw [← e]; exact hj)⟩
  rw [g3 j hjf.2,g2 j hjf.1]
 have S3 : CwS os fo b0 ino W.2 (at' + W.1.1) (sum + W.1.1) p' H3:=⟨st3,by rw [g3 fo (by omega)]; exact gf,by rw [g3 b0 (by omega),g2 b0 (by omega)]; exact kb,⟨a1,by rw [g3 _ (by omega),g2 _ (by omega)]; exact k1⟩,⟨a2,by rw [g3 _ (by omega),g2 _ (by omega)]; exact k2⟩,gs,⟨d1,np fo (by omega) d2,d3,d4⟩,λj hj1 hj2=>np j (by omega) (h.nb j hj1 hj2)⟩;have F3 : CwF os fo b0 p p' H H3:=⟨by omega,λj hj h1 h2 h3 hp=>by rw [g3 j (by omega),g2 j h2,f1.same j hj h1 hp],f1.ids⟩
 by_cases he : W.1.2=0
 ·simp only [he,ne_eq,not_true_eq_false,dFf,zmZ]
  exact hj he p' H3 S3 F3
 ·have c1 : H3[b0 + 1]? = _:=(g3 _ (by omega)).trans ((g2 _ (by omega)).trans k1)
  have e5 : ast 1 H3 (.ptr (b0 + 1) 0) (I (sum + W.1.1))=some (H3.set (b0 + 1) (some (.cells [I (sum + W.1.1)]))):=fld c1 (by simp) rfl;have c2 : (H3.set (b0 + 1) (some (AObj.cells [I (sum + W.1.1)])))[b0 + 2]? = some (some (.cells [a2])):=by rw [gSN (by omega),g3 _ (by omega),g2 _ (by omega)]; exact k2
  have e6:=fld c2 (k:=0) (x:=I W.1.2) (by simp) rfl;simp only [he,ne_eq,not_false_eq_true,dTt,zbdZ,znZ gs,zhZ,gCZ,zdZ,e5,zcyZ,e6,List.set_cons_zero];generalize hH4 : (H3.set (b0 + 1) (some (AObj.cells [I (sum + W.1.1)]))).set (b0 + 2) (some (AObj.cells [I W.1.2]))=H4;have g4 : ∀ j,j ≠ b0 + 1→j ≠ b0 + 2→H4[j]? = H3[j]?:=λj hj1 hj2=>by rw [← hH4,gSN (Ne.symm hj2),gSN (Ne.symm hj1)]
  have t1 : H4[b0 + 1]? = some (some (.cells [I (sum + W.1.1)])):=by rw [← hH4,gSN (by omega)]; exact gSS (by omega)
  have t2 : H4[b0 + 2]? = some (some (.cells [I W.1.2])):=by rw [← hH4]; exact gSS (by rw [List.length_set]; omega)
  have l4 : H4.length=H3.length:=by rw [← hH4,List.length_set,List.length_set]
  refine hx he p' H4 ⟨st3.keep λj hj=>?_,by rw [g4 fo (by omega) (by omega)]; exact S3.file,by rw [g4 b0 (by omega) (by omega)]; exact S3.box,⟨_,t1⟩,⟨_,t2⟩,by rw [g4 _ (by omega) (by omega)]; exact gs,S3.nf,S3.nb⟩ ⟨by have:=F3.len; omega,λj hj h1 h2 h3 hp=>by rw [g4 j (by omega) (by omega)]; exact F3.same j hj h1 h2 h3 hp,F3.ids⟩ t1 t2;rcases hj with rfl | hj
  ·exact g4 j (by omega) (by omega)
  ·exact g4 j (λe=>S3.nb (b0 + 1) (by omega) (by omega) (by rw [← e]; exact hj)) (λe=>S3.nb (b0 + 2) (by omega) (by omega) (by rw [← e]; exact hj))
noncomputable abbrev fwB : Code:=zinZ Tryz.f47
abbrev fwP : List Bool:=[true,true,false,true,false,false,true,true,false,false,true,true,false]
theorem fw_asg (x2 x4 x5 x6 x12 x13 x14 x19 x : AV) (H : AH) (Q : Exit→List AV→AH→Prop) : sCode Tryz.prog (flOf []) none0 none0 none0 (kpOf []) (asgOf (sub fwP fwB)) 0 ((zmkZ (mk 58 0 [2,4,5,6,12,13,14,19]) [x2,x4,x5,x6,x12,x13,x14,x19]).set 20 x) H (λe T H=>fP (mk 58 0 [2,4,5,6,9]) T λX=>Q e X H)=Q .normal [x2,x4,x5,x6,x] H:=by kernel_rfl
theorem fw_asg_ok : zbbyZ (flOf []) none0 (asgOf (sub fwP fwB))=true:=by kernel_rfl
theorem fw_bd_ok : zrfZ nofl pqe zjqZ (sub (fwP ++ [true]) fwB)=true:=by kernel_rfl
theorem fw_rnd {x2 x4 x5 x6 x12 x13 x14 x19 x : AV} {H : AH} {J X : AH→Prop} {K0 : AV→AH→Prop} (h : zcxZ (λe H'=>match e with | .normal => J H' | .ret => X H' | _ => False) x2 x4 x5 x6 x H K0) :
  RndOk Tryz.prog (asgOf (sub fwP fwB)) (sub (fwP ++ [true]) fwB) (zmkZ (mk 58 0 [2,4,5,6,12,13,14,19]) [x2,x4,x5,x6,x12,x13,x14,x19]) 20 x H J (λc H'=>c = .ret∧X H'):=by
 obtain ⟨e,T',H',hk,hb⟩:=zwoZ mixP (asgOf (sub fwP fwB)) 0 _ H _ fw_asg_ok (Eq.mpr (fw_asg x2 x4 x5 x6 x12 x13 x14 x19 x H (λe X H2=>e = .normal∧X=[x2,x4,x5,x6,x]∧H2=H)) ⟨rfl,rfl,rfl⟩);obtain ⟨hl,he,hX,hH⟩:=zvhZ.1 hk;subst he; subst hH;refine ⟨T',hb, ?_⟩;refine ACode.weak (λG a hF=>zokZ hl hF) ?_;rw [hX];refine (zqxZ mixP (sub (fwP ++ [true]) fwB) 11 _ _ _ fw_bd_ok (Eq.mpr (ztzZ (λe H'=>match e with | .normal => J H' | .ret => X H' | _ => False) x2 x4 x5 x6 x _ K0) h)).mono ?_;intro e T H2 hk;cases e with
 | normal => exact hk
 | ret => exact ⟨rfl,hk⟩
 | _ => exact hk.elim
theorem fw_F {R4 : List AV→AH→Prop} {x2 x4 x5 x6 x12 x13 x14 : AV} {H : AH} {K : AV→AH→Prop} {k : FuncId} {cap xs : List AV} {Cap : AH→Prop} (hit : IterOk Tryz.prog k cap Cap xs) (hgo : zxdZ Tryz.prog k=true) (J : Nat→AH→Prop) (X : AH→Prop) (h0 : J 0 H) (hcap : ∀ i H',J i H'→Cap H')
  (hr : ∀ i x H',xs[i]? = some x→J i H'→zcxZ (λe H'=>match e with | .normal => J (i + 1) H' | .ret => X H' | _ => False) x2 x4 x5 x6 x H' K)
  (hdone : ∀ H',J xs.length H'→bO (abI .add x14 (I 1)) λv6=>R4 [x2,x4,x5,x6,x12,x13,v6] H')
  (hout : ∀ H',X H'→bO (ald false 1 H' x4) λv7=>bO (ald false 1 H' x5) λv8=>K (.tup [v7,v8]) H') : zpeZ R4 x2 x4 x5 x6 x12 x13 x14 (.fn (.func k) [] cap) H K:=by
 refine ⟨?_⟩;rw [zrsZ];refine ACode.rangeF hit hgo rfl J (λc H'=>c = .ret∧X H') h0 hcap (λi x H' hx hj=>fw_rnd (hr i x H' hx hj)) (λH' hj=>?_) (λc H' hx=>.inl ⟨hx.1, ?_⟩)
 ·exact Eq.mpr (ztyZ R4 x2 x4 x5 x6 x12 x13 x14 (.fn (.func k) [] cap) H' K) (hdone H' hj)
 ·exact Eq.mpr (zttZ R4 x2 x4 x5 x6 x12 x13 x14 (.fn (.func k) [] cap) H' K) (hout H' hx.2)
def pieceB (b : List UInt8) (j : Nat) : List UInt8:=(b.drop (j * 4096)).take (min 4096 (b.length - j * 4096))
theorem chunkB_get {b : List UInt8} {i : Nat} (h : i < chN b.length 4096) : (zufZ b)[i]? = some (pieceB b i):=by
 unfold zufZ;rw [List.getElem?_map,List.getElem?_range h]; rfl
theorem chunkB_len (b : List UInt8) : (zufZ b).length=chN b.length 4096:=by simp [zufZ]
theorem chX_sl {H : AH} {v : AV} {b : List UInt8} {j : Nat} (hv : zbZ H 1 v=some (encB b,b.length)) (hj : j * 4096 < b.length) :
  zbZ H 1 (chX v b.length 4096 j)=some (encB (pieceB b j),(pieceB b j).length)∧∀ i ∈ idS (chX v b.length 4096 j),i ∈ idS v:=by
 obtain ⟨r,h1,h2,h3⟩:=aslS_max hv (l:=j * 4096) (k:=j * 4096 + min 4096 (b.length - j * 4096)) (by omega) (by omega);have e : chX v b.length 4096 j=r:=by unfold chX; rw [h1]; rfl
 rw [e];refine ⟨?_,h3⟩;rw [h2 H hv];unfold pieceB;rw [Nat.add_sub_cancel_left,List.length_take,List.length_drop];simp only [encB,List.map_take,List.map_drop]
 congr 2
 omega
structure Bd (NN : Nat) (rest : List (List UInt8)) (s : StS) (at' sum : Int) : Prop where
 w : ∃ M,SW M s∧M + 9 * lenB rest≤NN
 a : 0≤at'∧at' + lenB rest≤9223372036854775807
 s : 0≤sum∧sum + lenB rest≤9223372036854775807
theorem lenB_cons (b : List UInt8) (r : List (List UInt8)) : lenB (b :: r)=b.length + lenB r:=by simp [lenB]
theorem FWrite_a {N : Nat} {s : StS} {os fo : Nat} {p a1 : AV} {H : AH} {ino at' : Int} {bl : List (AV × List UInt8)} (hst : StAt s os p H) (hf : H[fo]? = some (some (.cells [I at',.ptr os 0,I ino]))) (hne : fo ≠ os∧fo ∉ idS p) (hw : SW N s)
  (ha : zbZ H 1 a1=some (bl.map Prod.fst,bl.length)) (hai : ∀ j ∈ idS a1,j ≠ os∧j ≠ fo∧j ∉ idS p) (hb : ∀ x ∈ bl,zbZ H 1 x.1=some (encB x.2,x.2.length)∧oneA x.1=true∧x.2.length≤1000000∧∀ j ∈ idS x.1,j ≠ os∧j ≠ fo∧j ∉ idS p) (hbn : bl.length≤1000000)
  (hN : N + 9 * lenB (bl.flatMap λx=>zufZ x.2) < 900000) (hat : 0≤at'∧at' + lenB (bl.flatMap λx=>zufZ x.2)≤9223372036854775807) :
  ACalls Tryz.prog 47 [.ptr fo 0,a1] H λr H'=>∃ p',r = .tup [I (pcs ino (bl.flatMap λx=>zufZ x.2) s at' 0).1.2.2,I (pcs ino (bl.flatMap λx=>zufZ x.2) s at' 0).2]∧StAt (pcs ino (bl.flatMap λx=>zufZ x.2) s at' 0).1.1 os p' H' ∧
   H'[fo]? = some (some (.cells [I (pcs ino (bl.flatMap λx=>zufZ x.2) s at' 0).1.2.1,.ptr os 0,I ino]))∧CwF os fo H.length p p' H H':=zyuZ (by
 generalize hRES : pcs ino (bl.flatMap λx=>zufZ x.2) s at' 0=RES;generalize hNN : N + 9 * lenB (bl.flatMap λx=>zufZ x.2)=NN at hN;unfold zorZ;have hfl : fo < H.length:=(gSI.1 hf).1;have n1 : ∀ (Z : AH) (x : AV),oneA x=true→anew Z x=some (.ptr Z.length 0,Z ++ [some (.cells [x])]):=λZ x hx=>by unfold anew; rw [zzZ hx]; rfl
 generalize hb0 : H.length=b0;have al : alnS a1=some (I (bl.length : Nat)):=zjmZ ha
 have s0 : ast 1 (H ++ [some (AObj.cells [.ptr fo 0])] ++ [some (.cells [I 0])] ++ [some (.cells [I 0])] ++ [some (.cells [I 0])]) (.ptr (b0 + 3) 0) (I 0)=some (H ++ [some (AObj.cells [.ptr fo 0])] ++ [some (.cells [I 0])] ++ [some (.cells [I 0])] ++ [some (.cells [I 0])]):=by
  rw [fld (cs:=[I 0]) (k:=0) (by rw [← hb0]; simp) (by simp) rfl]
  congr 1
  apply List.ext_getElem?;intro j
  by_cases c : j=b0 + 3
  ·subst c
   rw [gSS (by rw [← hb0]; simp),← hb0]; simp
  ·rw [gSN (Ne.symm c)]
 have l1 : (H ++ [some (AObj.cells [AV.ptr fo 0])]).length=b0 + 1:=by simp [hb0]
 have l2 : (H ++ [some (AObj.cells [AV.ptr fo 0])] ++ [some (AObj.cells [I 0])]).length=b0 + 2:=by simp [hb0]
 have l3 : (H ++ [some (AObj.cells [AV.ptr fo 0])] ++ [some (AObj.cells [I 0])] ++ [some (AObj.cells [I 0])]).length=b0 + 3:=by simp [hb0]
 simp only [n1 H (AV.ptr fo 0) rfl,zbtZ,n1 (H ++ [some (AObj.cells [AV.ptr fo 0])]) (I 0) rfl,n1 (H ++ [some (AObj.cells [AV.ptr fo 0])] ++ [some (AObj.cells [I 0])]) (I 0) rfl,n1 (H ++ [some (AObj.cells [AV.ptr fo 0])] ++ [some (AObj.cells [I 0])] ++ [some (AObj.cells [I 0])]) (I 0) rfl,hb0,l1,l2,l3,s0,zcyZ,al,zdZ]
 have g0 : Grew H (H ++ [some (AObj.cells [AV.ptr fo 0])] ++ [some (AObj.cells [I 0])] ++ [some (AObj.cells [I 0])] ++ [some (AObj.cells [I 0])]):=by
  simp only [List.append_assoc]; exact Grew.app H _
 have hplt:=hst.p_lt;have S0 : CwS os fo b0 ino s at' 0 p (H ++ [some (AObj.cells [AV.ptr fo 0])] ++ [some (AObj.cells [I 0])] ++ [some (AObj.cells [I 0])] ++ [some (AObj.cells [I 0])]) :=
  ⟨hst.grew g0,g0.cells hf,by rw [← hb0]; simp,⟨I 0,by rw [← hb0]; simp⟩,⟨I 0,by rw [← hb0]; simp⟩,by rw [← hb0]; simp,⟨hne.1,hne.2,by omega,by have:=hst.os_lt; omega⟩,λj hj _ q=>by have:=hplt j q; omega⟩
 have F0 : CwF os fo b0 p p H (H ++ [some (AObj.cells [AV.ptr fo 0])] ++ [some (AObj.cells [I 0])] ++ [some (AObj.cells [I 0])] ++ [some (AObj.cells [I 0])]):=.of_grew g0;have B0 : Bd NN (bl.flatMap λx=>zufZ x.2) s at' 0:=⟨⟨N,hw,by omega⟩,hat,by omega,by omega⟩;generalize (H ++ [some (AObj.cells [AV.ptr fo 0])] ++ [some (AObj.cells [I 0])] ++ [some (AObj.cells [I 0])] ++ [some (AObj.cells [I 0])])=HB at S0 F0;refine zsxZ (λm x2 x4 x5 x6 x12 x13 x14 H'=>∃ (k : Nat) (s : StS) (at' sum : Int) (p' : AV),k + m=bl.length∧x2 = .ptr b0 0∧x4 = .ptr (b0 + 1) 0∧x5 = .ptr (b0 + 2) 0∧x6 = .ptr (b0 + 3) 0∧a1=x12∧x13=I bl.length∧x14=I k ∧
  CwS os fo b0 ino s at' sum p' H'∧CwF os fo b0 p p' H H'∧pcs ino ((bl.drop k).flatMap λx=>zufZ x.2) s at' sum=RES∧Bd NN ((bl.drop k).flatMap λx=>zufZ x.2) s at' sum) ?_ bl.length ⟨0,s,at',0,p,by omega,rfl,rfl,rfl,rfl,rfl,rfl,rfl,S0,F0,hRES,B0⟩
 rintro m x2 x4 x5 x6 x12 x13 x14 H1 R hR ⟨k,s,at',sum,p1,hk,rfl,rfl,rfl,rfl,e12,rfl,rfl,S1,F1,hpc,hbd⟩;subst e12;unfold zmxZ;have keepS : ∀ {w : AV} {sz : Nat} {cs : List AV} {n : Nat} {p2 : AV} {H2 : AH},zbZ H sz w=some (cs,n)→(∀ j ∈ idS w,j ≠ os∧j ≠ fo∧j ∉ idS p)→CwF os fo b0 p p2 H H2→zbZ H2 sz w=some (cs,n):=λh1 h2 f=>zcZ h1 λj hj=>f.same j (zqZ h1 j hj) (h2 j hj).1 (h2 j hj).2.1 (by have:=zqZ h1 j hj; omega) (h2 j hj).2.2
 rcases Nat.lt_or_ge k bl.length with h | h
 ·have hx:=gEG h
  generalize bl[k]=vb at hx;obtain ⟨v,b⟩:=vb;obtain ⟨hb1,hb2,hb3,hb4⟩:=hb _ (List.mem_of_getElem? hx);simp only at hb1 hb2 hb3 hb4;have hdrop : bl.drop k=(v,b) :: bl.drop (k + 1):=zseZ hx;rw [hdrop] at hpc hbd;simp only [List.flatMap_cons] at hpc hbd;generalize hrest : (bl.drop (k + 1)).flatMap (λx=>zufZ x.2)=rest at hpc hbd;have kI : (k : Int) < (bl.length : Int):=by omega
  have ha1:=keepS ha hai F1;have hv1:=keepS hb1 hb4 F1;obtain ⟨pp,q1,q2⟩:=one_at (enc:=fun x : AV × List UInt8 => [x.1]) (f:=Prod.fst) (λ_=>rfl) (l:=bl) (by rw [← List.map_eq_flatMap]; exact ha1) hx;simp only [zkyZ,zdZ,zsZ,kI,dTt,zbdZ,q1,q2];refine bC_of (Chunk_c hv1 hb2) ?_;have g2:=Grew.app H1 [some (AObj.cells [v]),some (.cells [I 4096])];have S2:=S1.grew g2;have F2 : CwF os fo b0 p p1 H (H1 ++ [some (AObj.cells [v]),some (.cells [I 4096])]):=F1.trans (.of_grew g2);have t0 : (H1 ++ [some (AObj.cells [v]),some (.cells [I 4096])])[H1.length]? = some (some (.cells [v])):=by simp
  have t1 : (H1 ++ [some (AObj.cells [v]),some (.cells [I 4096])])[H1.length + 1]? = some (some (.cells [I 4096])):=by simp
  have hlc : (H1 ++ [some (AObj.cells [v]),some (.cells [I 4096])]).length=H1.length + 2:=by simp
  have hp1:=S1.st.p_lt;have hb03 : b0 + 3 < H1.length:=(gSI.1 S1.sum).1;obtain ⟨z1,z2,z3,z4⟩:=S1.nf;generalize (H1 ++ [some (AObj.cells [v]),some (.cells [I 4096])])=Hc at S2 F2 t0 t1 hlc
  refine fw_F (chunk_it (o1:=H1.length) (o2:=H1.length + 1) (s:=v) (cs:=encB b) (len:=b.length) (n:=4096) (by omega) (by omega) (by omega)) (by kernel_rfl)
   (λi H'=>∃ (s : StS) (at' sum : Int) (p' : AV),CwS os fo b0 ino s at' sum p' H'∧CwF os fo b0 p1 p' Hc H'∧pcs ino ((zufZ b).drop i ++ rest) s at' sum=RES∧Bd NN ((zufZ b).drop i ++ rest) s at' sum)
   (λH'=>∃ (s : StS) (at' sum : Int) (p' : AV) (e : Int),CwS os fo b0 ino s at' sum p' H'∧CwF os fo b0 p1 p' Hc H'∧H'[b0 + 1]? = some (some (.cells [I sum]))∧H'[b0 + 2]? = some (some (.cells [I e]))∧RES=((s,at',sum),e))
   ⟨s,at',sum,p1,S2,.refl _ _ _ _ _,by simpa using hpc,by simpa using hbd⟩ ?_ ?_ ?_ ?_
  ·rintro i H' ⟨s',at'',sum',p',S',F',-,-⟩
   refine ⟨(F'.same _ (by omega) (by omega) (by omega) (by omega) (λq=>by have:=hp1 _ q; omega)).trans t0,(F'.same _ (by omega) (by omega) (by omega) (by omega) (λq=>by have:=hp1 _ q; omega)).trans t1,keepS hb1 hb4 (F2.trans F')⟩
  ·rintro i x H' hxi ⟨s',at'',sum',p',S',F',hpc',hbd'⟩
   have hi : i < chN b.length 4096:=by
    have:=(gSI.1 hxi).1
    rwa [chL_len] at this
   have hil:=(chN_lt (len:=b.length) (k:=i) (show 0 < 4096 by omega)).1 hi
   have ex : x=chX v b.length 4096 i:=by
    unfold chL at hxi;rw [List.getElem?_map,List.getElem?_range hi] at hxi;injection hxi with hxi;exact hxi.symm
   subst ex;have hv':=keepS hb1 hb4 (F2.trans F');obtain ⟨c1,c2⟩:=chX_sl hv' hil;have hcd : (zufZ b).drop i=pieceB b i :: (zufZ b).drop (i + 1):=zseZ (chunkB_get hi);rw [hcd,List.cons_append] at hpc' hbd';obtain ⟨⟨M,w1,w2⟩,w3,w4⟩:=hbd';rw [lenB_cons] at w2 w3 w4
   have fp : ∀ j ∈ idS v,j ∉ idS p':=λj hj q=>by
    have hjl:=zqZ hb1 j hj;rcases (F2.trans F').ids j q with q | q
    ·exact (hb4 j hj).2.2 q
    ·omega
   have wn:=writeS_n s' ino at'' (pieceB b i);have ww:=writeS_w w1 ino at'' (pieceB b i);unfold pcs at hpc';refine piece_c S' w1 (by omega) c1 (λj hj=>⟨(hb4 j (c2 j hj)).1,fp j (c2 j hj)⟩) (by omega) (by omega) ?_ ?_
   ·intro he p2 H2 S2' F2'
    rw [if_pos he] at hpc';exact ⟨_,_,_,p2,S2',F'.trans F2',hpc',⟨⟨_,ww,by omega⟩,by omega,by omega⟩⟩
   ·intro he p2 H2 S2' F2' r1 r2
    rw [if_neg he] at hpc';exact ⟨_,_,_,p2,_,S2',F'.trans F2',r1,r2,hpc'.symm⟩
  ·rintro H' ⟨s',at'',sum',p',S',F',hpc',hbd'⟩
   rw [chL_len,← chunkB_len,List.drop_length,List.nil_append] at hpc' hbd';simp only [zuZ (a:=k) (b:=1) (by omega) (by omega),zdZ];exact hR (m - 1) _ _ _ _ _ _ _ _ (by omega) ⟨k + 1,s',at'',sum',p',by omega,rfl,rfl,rfl,rfl,rfl,rfl,by simp,S',F2.trans F',by rw [hrest]; exact hpc',by rw [hrest]; exact hbd'⟩
  ·rintro H' ⟨s',at'',sum',p',e,S',F',r1,r2,rfl⟩
   simp only [znZ r1,znZ r2,zhZ,gCZ,zdZ];exact ⟨p',by trivial,S'.st,S'.file,F2.trans F'⟩
 ·have kI : ¬ (k : Int) < (bl.length : Int):=by omega
  have hdrop : bl.drop k=[]:=List.drop_of_length_le h;rw [hdrop] at hpc;simp only [List.flatMap_nil] at hpc;unfold pcs at hpc;subst hpc;obtain ⟨a,r1⟩:=S1.r1;obtain ⟨c,r2⟩:=S1.r2;have hb03 : b0 + 3 < H1.length:=(gSI.1 S1.sum).1;obtain ⟨z1,z2,z3,z4⟩:=S1.nf;have e1:=fld r1 (k:=0) (x:=I sum) (by simp) rfl;have r2' : (H1.set (b0 + 1) (some (AObj.cells [I sum])))[b0 + 2]? = some (some (.cells [c])):=by rw [gSN (by omega)]; exact r2
  have e2:=fld r2' (k:=0) (x:=I 0) (by simp) rfl;simp only [List.set_cons_zero] at e1 e2;simp only [zkyZ,zdZ,zsZ,kI,dFf,zmZ,znZ S1.sum,zhZ,gCZ,e1,zcyZ,e2];generalize hH4 : (H1.set (b0 + 1) (some (AObj.cells [I sum]))).set (b0 + 2) (some (AObj.cells [I 0]))=H4;have g4 : ∀ j,j ≠ b0 + 1→j ≠ b0 + 2→H4[j]? = H1[j]?:=λj hj1 hj2=>by rw [← hH4,gSN (Ne.symm hj2),gSN (Ne.symm hj1)]
  have t1 : H4[b0 + 1]? = some (some (.cells [I sum])):=by rw [← hH4,gSN (by omega)]; exact gSS (by omega)
  have t2 : H4[b0 + 2]? = some (some (.cells [I 0])):=by rw [← hH4]; exact gSS (by rw [List.length_set]; omega)
  have l4 : H4.length=H1.length:=by rw [← hH4,List.length_set,List.length_set]
  simp only [znZ t1,znZ t2,zhZ,gCZ,zdZ];refine ⟨p1,by trivial,S1.st.keep λj hj=>?_,by rw [g4 fo (by omega) (by omega)]; exact S1.file,⟨by have:=F1.len; omega,λj hj h1 h2 h3 hp=>by rw [g4 j (by omega) (by omega)]; exact F1.same j hj h1 h2 h3 hp,F1.ids⟩⟩;rcases hj with rfl | hj
  ·exact g4 j (by omega) (by omega)
  ·exact g4 j (λe=>S1.nb (b0 + 1) (by omega) (by omega) (by rw [← e]; exact hj)) (λe=>S1.nb (b0 + 2) (by omega) (by omega) (by rw [← e]; exact hj)))
theorem pcs_w {ino : Int} : ∀ {l : List (List UInt8)} {N : Nat} {s : StS} {a m : Int},SW N s→SW (N + 9 * lenB l) (pcs ino l s a m).1.1
 | [],N,s,a,m,h => h
 | b :: r,N,s,a,m,h => by
  have h1:=writeS_w h ino a b;rw [lenB_cons];unfold pcs
  split
  ·exact (pcs_w h1).mono (by omega)
  ·exact h1.mono (by omega)
def oneN (nm : List UInt8) (size : Int) (l : List Ext) : Img:=([⟨nm,1⟩],[⟨1,size,l⟩])
theorem oneN_w {nm : List UInt8} {size : Int} {l : List Ext} (hn : mayN nm) (h : mayC size l) : MayW (oneN nm size l).1 (oneN nm size l).2:=by
 refine ⟨by simp [oneN], ?_,by simp [oneN,srtK],by simp [oneN],by simp [oneN,srtK],by simpa [oneN] using h,by simp [oneN,hasK]⟩;intro x hx;simp only [oneN,List.mem_singleton] at hx;subst hx;exact ⟨hn,by simp only; omega,by simp only; omega⟩
theorem oneN_apply {nm : List UInt8} {size : Int} {l : List Ext} {o : OpM} {c : Cont} (hn : mayN nm) (h : mayC size l) (hk : o.kind=2) (hi : o.ino=1) (hc : chgC o ⟨1,size,l⟩=some c) : zmrZ (oneN nm size l).1 (oneN nm size l).2 o=oneN nm c.1 c.2:=by
 unfold zmrZ;rw [if_pos (mayI_w.2 (oneN_w hn h)),if_neg (by omega),if_pos (by omega)];have e1 : atK Nd.ino (oneN nm size l).2 o.ino=some ⟨1,size,l⟩:=by rw [hi]; rfl
 have e2 : posK cmpI Nd.ino (oneN nm size l).2 o.ino=0:=by rw [hi]; rfl
 unfold chgD;rw [e1];simp only [hc,e2];rfl
structure ON (nm : List UInt8) (cap : Int) (size : Int) (l : List Ext) (s : StS) : Prop where
 now : s.now=oneN nm size l
 nm : mayN nm
 mc : mayC size l
 cap : s.cap=cap
 off : s.off=false
 armed : s.armed = -1
theorem ON.content {nm : List UInt8} {cap size : Int} {l : List Ext} {s : StS} (h : ON nm cap size l s) : zwZ s 1=((size,l),0):=by
 have hg : hasG s.now.1 s.now.2 1:=by
  rw [h.now];exact ⟨mayI_w.2 (oneN_w h.nm h.mc),by simp [oneN,hasK]⟩
 unfold zwZ;rw [if_neg (by rw [h.off]; simp),if_pos hg]
 have : getN s.now.1 s.now.2 1=⟨1,size,l⟩:=by
  unfold getN;rw [if_pos hg,h.now]; rfl
 rw [this]
theorem ON.free {nm : List UInt8} {cap size : Int} {l : List Ext} {s : StS} (h : ON nm cap size l s) (hl : (l.length : Int) < cap) : freeS s ≠ 0:=by
 unfold freeS;rw [h.cap,h.now];have : sumL (oneN nm size l).2=l.length:=by simp [sumL,oneN]
 rw [this]; omega
theorem ON.do {nm : List UInt8} {cap size : Int} {l : List Ext} {s : StS} (h : ON nm cap size l s) {p : Int} {bs : List UInt8} (hb : bs ≠ []) (hp : 0≤p) (hlen : bs.length≤4096) (hf : p≤1099511627776 - bs.length) :
  (doS s (opWr 1 p bs)).1=0∧ON nm cap (max size (p + bs.length)) (zpfZ l p bs) (doS s (opWr 1 p bs)).2:=by
 have hw : zxkZ (size,l) p bs=some (max size (p + bs.length),zpfZ l p bs):=by
  unfold zxkZ;rw [if_pos ⟨h.mc,hp,hlen,hf⟩,if_neg hb]
 have hd : deedS s=(true,s):=by
  unfold deedS;rw [if_neg (by rw [h.off,h.armed]; simp),if_neg (by rw [h.armed]; omega)]
 unfold doS;rw [hd];refine ⟨rfl, ?_,h.nm,may_write hw,h.cap,h.off,h.armed⟩
 show zmrZ s.now.1 s.now.2 (opWr 1 p bs)=_
 rw [h.now];refine oneN_apply (o:=opWr 1 p bs) (c:=(max size (p + bs.length),zpfZ l p bs)) h.nm h.mc rfl rfl ?_
 show (if (2 : Int)=2 then zxkZ (size,l) p bs else _)=_
 rw [if_pos rfl,hw]
theorem wr_one_len {l : List Ext} (hs : srt l) {p : Int} {bs : List UInt8} (h : p % 8 + bs.length≤8) (hb : bs ≠ []) : (zpfZ l p bs).length≤l.length + 1:=by
 rw [← wr_one hs h hb]
 have:=(need_len l (p / 8)).1
 simp only [zsdZ,putL,List.length_map];exact this
theorem ON.cuts {nm : List UInt8} {cap : Int} {c : List Ext} {pos : Int} {b : List UInt8} (hpos : 0≤pos) (hbl : b.length≤4096) (hf : pos≤1099511627776 - b.length) : ∀ (f k : Nat) {size : Int} {l : List Ext} {s : StS},k≤b.length→b.length - k≤f→ON nm cap size l s→(l.length : Int) + (b.length - k : Nat)≤cap →
  ∃ s',wrS c 1 pos b (cutsS f (pos + k) (b.length - k : Nat) 8) s=(((b.length : Int),0),s')∧∃ size' l',ON nm cap size' l' s'∧l'=zpfZ l (pos + k) (b.drop k)∧size'=(if b.length - k=0 then size else max size (pos + b.length))∧l'.length≤l.length + (b.length - k)
 | 0,k,size,l,s,hk,hfk,h,hc => by
  have e : b.drop k=[]:=List.drop_of_length_le (by omega);refine ⟨s,by simp [cutsS,wrS],size,l,h,by rw [e]; rfl,by rw [if_pos (by omega)],by omega⟩
 | f + 1,k,size,l,s,hk,hfk,h,hc => by
  by_cases h0 : b.length - k=0
  ·have e : b.drop k=[]:=List.drop_of_length_le (by omega)
   refine ⟨s, ?_,size,l,h,by rw [e]; rfl,by rw [if_pos h0],by omega⟩;unfold cutsS;rw [if_neg (by omega)];unfold wrS;rfl
  ·have m1:=Int.emod_lt_of_pos (pos + k) (show (0 : Int) < 8 by omega)
   have m2:=Int.emod_nonneg (pos + k) (show (8 : Int) ≠ 0 by omega);obtain ⟨n,hn⟩ : ∃ n : Nat,min ((b.length - k : Nat) : Int) (8 - (pos + k) % 8)=n:=⟨(min ((b.length - k : Nat) : Int) (8 - (pos + k) % 8)).toNat,by omega⟩;have n1 : 0 < n∧n≤8∧n≤b.length - k:=by omega
   unfold cutsS;rw [if_pos (by omega),hn]
   have hpb : partB b pos ⟨pos + k,n⟩=(b.drop k).take n:=by
    unfold partB;simp only;rw [show (pos + k - pos).toNat=k by omega,show ((n : Int)).toNat=n by omega]
   have hbs : ((b.drop k).take n).length=n:=by rw [List.length_take,List.length_drop]; omega
   have hne : (b.drop k).take n ≠ []:=by intro q; rw [q] at hbs; simp at hbs; omega
   obtain ⟨d1,d2⟩:=h.do hne (p:=pos + k) (by omega) (by omega) (by omega);unfold wrS;rw [if_neg (λq=>h.free (by omega) q.2),hpb];simp only;rw [if_neg (by rw [d1]; simp)];rw [hbs] at d2;have hl1:=wr_one_len (may_at.1 h.mc).2.2.1 (p:=pos + k) (bs:=(b.drop k).take n) (by omega) hne;obtain ⟨s',w1,size',l',w2,w3,w4,w5⟩:=ON.cuts (c:=c) hpos hbl hf f (k + n) (by omega) (by omega) d2 (by omega);refine ⟨s', ?_,size',l',w2, ?_, ?_,by omega⟩
   ·rw [show pos + (k : Int) + n=pos + (k + n : Nat) by omega,show ((b.length - k : Nat) : Int) - n=(b.length - (k + n) : Nat) by omega]
    exact w1
   ·rw [w3]
    conv => rhs; rw [← List.take_append_drop n (b.drop k)]
    rw [wr_app,hbs,List.drop_drop]
    congr 1
    omega
   ·rw [w4,if_neg h0]
    split <;> omega
theorem ON.write {nm : List UInt8} {cap size pos : Int} {l : List Ext} {s : StS} {b : List UInt8} (h : ON nm cap size l s) (hpos : 0≤pos) (hbl : b.length≤4096) (hf : pos≤1099511627776 - b.length) (hc : (l.length : Int) + b.length≤cap) :
  ∃ s',zpmZ s 1 pos b=(((b.length : Int),0),s')∧∃ size' l',ON nm cap size' l' s'∧l'=zpfZ l pos b∧size'=(if b.length=0 then size else max size (pos + b.length))∧l'.length≤l.length + b.length:=by
 unfold zpmZ;rw [h.content,if_neg (by simp),if_neg (λq=>q ⟨hpos,hbl,hf⟩)]
 have e : zbasZ ⟨pos,b.length⟩ 8=cutsS (b.length) pos b.length 8:=by
  unfold zbasZ;rw [if_pos ⟨⟨by unfold May; simp only; omega,by unfold May; simp only; omega,by simp only; omega⟩,by simp only; omega,by omega⟩]
  show cutsS ((b.length : Int)).toNat pos b.length 8=_
  rw [show ((b.length : Int)).toNat=b.length by omega]
 rw [e]
 have:=ON.cuts (c:=l) hpos hbl hf b.length 0 (by omega) (by omega) h (by omega)
 simpa using this
structure Txt (nm : List UInt8) (cap : Int) (t : List UInt8) (s : StS) : Prop where
 h : ∃ l,ON nm cap t.length l s∧(∀ q : Nat,q < t.length→atL l q=t.getD q 0)∧l.length≤t.length
theorem Txt.write {nm : List UInt8} {cap : Int} {t b : List UInt8} {s : StS} (h : Txt nm cap t s) (hbl : b.length≤4096) (hf : t.length + b.length≤1000000000) (hc : ((t.length + b.length : Nat) : Int)≤cap) :
  ∃ s',zpmZ s 1 t.length b=(((b.length : Int),0),s')∧Txt nm cap (t ++ b) s':=by
 obtain ⟨l,h1,h2,h3⟩:=h.h;obtain ⟨s',w1,size',l',w2,w3,w4,w5⟩:=h1.write (pos:=t.length) (b:=b) (by omega) hbl (by omega) (by omega);refine ⟨s',w1,⟨l', ?_,λq hq=>?_,by rw [List.length_append]; omega⟩⟩
 ·have : size'=((t ++ b).length : Nat):=by
   rw [w4,List.length_append]; split <;> omega
  rw [← this]; exact w2
 ·rw [List.length_append] at hq
  rw [w3,wr_at (may_at.1 h1.mc).2.2.1]
  by_cases c : q < t.length
  ·rw [if_neg (by omega),h2 q c,List.getD_eq_getElem?_getD,List.getD_eq_getElem?_getD,List.getElem?_append_left c]
  ·rw [if_pos (by omega),List.getD_eq_getElem?_getD,List.getD_eq_getElem?_getD,List.getElem?_append_right (by omega),show ((q : Int) - t.length).toNat=q - t.length by omega]
theorem Txt.read {nm : List UInt8} {cap : Int} {t : List UInt8} {s : StS} (h : Txt nm cap t s) {pos n : Nat} (hp : pos≤t.length) (hn : n≤4096) (hl : t.length≤1000000000) : readS s 1 pos n=((t.drop pos).take n,0):=by
 obtain ⟨l,h1,h2,h3⟩:=h.h;unfold readS;rw [h1.content,if_neg (by simp),if_neg (by omega)];simp only
 congr 1
 unfold readC
 by_cases hi : inC t.length l pos n
 ·rw [if_pos hi]
  refine List.ext_getElem? λi=>?_
  rw [zngZ]
  by_cases c : i < n∧pos + i < t.length
  ·rw [if_pos (by omega),List.getElem?_take,if_pos c.1,List.getElem?_drop,show (pos : Int) + i=(pos + i : Nat) by omega,h2 _ c.2,List.getD_eq_getElem?_getD,gEG c.2]; rfl
  ·rw [if_neg (by omega),List.getElem?_take]
   split
   ·rw [List.getElem?_drop,List.getElem?_eq_none (by omega)]
   ·rfl
 ·rw [if_neg hi]
  have hge : t.length≤pos:=by
   rcases Nat.lt_or_ge pos t.length with c | c
   ·exact absurd ⟨h1.mc,by omega,by omega,by omega,by omega⟩ hi
   ·exact c
  rw [List.drop_of_length_le hge]; simp
theorem Txt.pcs {nm : List UInt8} {cap : Int} : ∀ {l : List (List UInt8)} {t : List UInt8} {s : StS} {m : Int},Txt nm cap t s→(∀ b ∈ l,b.length≤4096)→t.length + lenB l≤1000000000→((t.length + lenB l : Nat) : Int)≤cap →
  ∃ s',Av.pcs 1 l s t.length m=((s',(((t ++ l.flatten).length : Nat) : Int),m + lenB l),(0 : Int))∧Txt nm cap (t ++ l.flatten) s'
 | [],t,s,m,h,_,_,_ => ⟨s,by simp [Av.pcs,lenB],by simpa using h⟩
 | b :: r,t,s,m,h,hb,hl,hc => by
  rw [lenB_cons] at hl hc;obtain ⟨s1,w1,w2⟩:=h.write (hb b (by simp)) (by omega) (by omega);obtain ⟨s2,p1,p2⟩:=Txt.pcs (l:=r) (m:=m + b.length) w2 (λx hx=>hb x (by simp [hx])) (by rw [List.length_append]; omega) (by rw [List.length_append]; omega);refine ⟨s2, ?_,by simpa using p2⟩;unfold Av.pcs;rw [w1];simp only [if_true];rw [show (t.length : Int) + b.length=((t ++ b).length : Nat) by rw [List.length_append]; omega,p1,lenB_cons];simp only [List.append_assoc,List.flatten_cons,Prod.mk.injEq,and_true,true_and];omega
theorem chunkB_small {b : List UInt8} (h : b.length≤4096) : zufZ b=if b=[] then [] else [b]:=by
 unfold zufZ chN
 by_cases hb : b=[]
 ·subst hb; rfl
 ·have : 0 < b.length:=List.length_pos_iff.2 hb
  rw [if_neg hb,show (b.length + 4096 - 1) / 4096=1 by omega];simp;rw [List.take_of_length_le (by omega)]
theorem zzjZ : ∀ {bl : List (AV × List UInt8)},(∀ x ∈ bl,x.2.length≤4096)→(bl.flatMap λx=>zufZ x.2).flatten=(bl.map Prod.snd).flatten∧(∀ b ∈ bl.flatMap λx=>zufZ x.2,b.length≤4096)∧lenB (bl.flatMap λx=>zufZ x.2)=((bl.map Prod.snd).flatten).length
 | [],_ => by simp [lenB]
 | x :: r,h => by
  obtain ⟨i1,i2,i3⟩:=zzjZ (bl:=r) λy hy=>h y (by simp [hy])
  have hx:=h x (by simp);have ec:=chunkB_small hx;simp only [List.flatMap_cons,List.map_cons,List.flatten_cons,List.flatten_append,List.length_append];refine ⟨?_, ?_, ?_⟩
  ·rw [i1,ec]; split
   ·rename_i e; rw [e]; rfl
   ·simp
  ·intro b hb
   rw [List.mem_append] at hb;rcases hb with hb | hb
   ·rw [ec] at hb
    split at hb
    ·simp at hb
    ·simp at hb; rw [hb]; exact hx
   ·exact i2 b hb
  ·have : lenB (zufZ x.2)=x.2.length:=by
    rw [ec]; split
    ·rename_i e; rw [e]; rfl
    ·simp [lenB]
   rw [← i3,← this];simp [lenB]
theorem Txt.first {nm : List UInt8} {cap : Int} {s : StS} (hn : s.now=oneN nm 0 []) (hm : mayN nm) (hc : s.cap=cap) (ho : s.off=false) (ha : s.armed = -1) : Txt nm cap [] s:=⟨[],⟨hn,hm,by decide,hc,ho,ha⟩,by simp,by simp⟩
def FAt (fo os : Nat) (ino at' : Int) (H : AH) : Prop:=H[fo]? = some (some (.cells [I at',.ptr os 0,I ino]))
theorem COpen_c {N : Nat} {s : StS} {os : Nat} {p : AV} {H : AH} (h : StAt s os p H) (hw : SW N s) (hN : N < 900000) {name : List UInt8} (hn : name.length≤9223372036854775807) (make : Bool) (h0 : (openS s name make).1.2=0) :
  ∃ r H',(∃ p' fo,r = .tup [.ptr fo 0,I 0]∧H.length≤fo∧FAt fo os (openS s name make).1.1 0 H'∧fo ∉ idS p'∧StAt (openS s name make).2 os p' H'∧StF os p p' H H')∧BCall Tryz.prog 43 [.ptr os 0,S (bstr name),B make] H r H':=cursor_Open_ok (by
 unfold cursor_Open;obtain ⟨r,H1,⟨rfl,p',h1,f1⟩,hc⟩:=Open_c h hw hN hn make;refine bC_of hc ?_;have e1 : abl [(I 0),(.lit (.pointer none)),(I 0)] [(1,1,.ptr os 0),(2,1,I (openS s name make).1.1)]=some (.agg [I 0,.ptr os 0,I (openS s name make).1.1]):=rfl;have e2 : anew H1 (.agg [I 0,.ptr os 0,I (openS s name make).1.1])=some (.ptr H1.length 0,H1 ++ [some (.cells [I 0,.ptr os 0,I (openS s name make).1.1])]):=by simp
 simp only [zoZ,gCS,gCZ,zdZ,h0,znvZ,ne_eq,not_true_eq_false,dFf,zsZ,zmZ,e1,e2,zbtZ];have g:=Grew.app H1 [some (.cells [I 0,.ptr os 0,I (openS s name make).1.1])];exact ⟨p',H1.length,by trivial,f1.len,top1,λq=>by have:=h1.p_lt _ q; omega,h1.grew g,f1.grew g⟩)
theorem Tell_c {fo os : Nat} {ino at' : Int} {H : AH} (h : FAt fo os ino at' H) : BCall Tryz.prog 45 [.ptr fo 0] H (I at') H:=by
 unfold FAt at h
 obtain ⟨r,H',⟨rfl,rfl⟩,hc⟩:=zxaZ (a0:=.ptr fo 0) (H:=H) (K:=λr H'=>r=I at'∧H'=H) (by
  unfold ztoZ;simp only [zgZ,zdZ,ziZ,Nat.zero_add,znZ h,zhZ,gCZ];exact ⟨by trivial,by trivial⟩)
 exact hc
theorem Ino_c {fo os : Nat} {ino at' : Int} {H : AH} (h : FAt fo os ino at' H) : BCall Tryz.prog 44 [.ptr fo 0] H (I ino) H:=by
 unfold FAt at h
 obtain ⟨r,H',⟨rfl,rfl⟩,hc⟩:=cursor_File_Ino_ok (a0:=.ptr fo 0) (H:=H) (K:=λr H'=>r=I ino∧H'=H) (by
  unfold zyaZ;simp only [zgZ,zdZ,ziZ,Nat.zero_add,znZ h,zhZ,gCS,gCZ];exact ⟨by trivial,by trivial⟩)
 exact hc
structure But (fo : Nat) (H H' : AH) : Prop where
 len : H.length≤H'.length
 same : ∀ j,j < H.length→j ≠ fo→H'[j]? = H[j]?
theorem Seek_c {fo os : Nat} {ino at' : Int} {H : AH} (h : FAt fo os ino at' H) {n : Int} (hn : 0≤n∧n≤1000000000) : ∃ r H',(r=B true∧FAt fo os ino n H'∧But fo H H')∧BCall Tryz.prog 51 [.ptr fo 0,I n] H r H':=zohZ (by
 unfold FAt at h;unfold zmiZ;refine zyZ (off_May_p n) ?_;have hm : May n:=by unfold May; omega
 have hl:=(gSI.1 h).1;have e1 : ast 1 H (.ptr fo 0) (I n)=some (H.set fo (some (.cells [I n,.ptr os 0,I ino]))):=fld h (by simp) rfl;simp only [hm,dTt,zjxZ,Bool.not_true,zdZ,zsZ,zmZ,zgZ,ziZ,Nat.zero_add,e1,zcyZ];exact ⟨by trivial,gSS hl,by simp,λj _ hne=>gSN (Ne.symm hne)⟩)
theorem CRead_c {N : Nat} {s : StS} {fo os : Nat} {p : AV} {ino at' : Int} {H : AH} (h : FAt fo os ino at' H) (hs : StAt s os p H) (hw : SW N s) (hN : N < 900000) (hne : fo ≠ os) (n : Int) (ha : 0≤at'∧at'≤1000000000) (hlen : (readS s ino at' n).1.length≤1000000) :
  ∃ R,SV encU 1 (readS s ino at' n).1 R∧∃ r H',(r = .tup [R,I (readS s ino at' n).2]∧FAt fo os ino (at' + (readS s ino at' n).1.length) H'∧But fo H H')∧BCall Tryz.prog 49 [.ptr fo 0,I n] H r H':=by
 obtain ⟨R,hR,r,H1,⟨rfl,g1⟩,hc⟩:=Read_c hs hw hN ino at' n;refine ⟨R,hR,zqoZ ?_⟩;unfold FAt at h ⊢;unfold zqmZ;simp only [zgZ,zdZ,ziZ,Nat.zero_add,znZ h,zhZ,gCS,gCZ];refine bC_of hc ?_;have h1:=g1.cells h;have hl:=(gSI.1 h1).1;have e0 : abI .add (I at') (I (readS s ino at' n).1.length)=some (I (at' + (readS s ino at' n).1.length)):=zuZ (by omega) (by omega);have e1 : ast 1 H1 (.ptr fo 0) (I (at' + (readS s ino at' n).1.length))=some (H1.set fo (some (.cells [I (at' + (readS s ino at' n).1.length),.ptr os 0,I ino]))):=fld h1 (by simp) rfl;simp only [zoZ,gCS,gCZ,zdZ,zgZ,ziZ,Nat.zero_add,znZ h1,zhZ,hR.len,e0,e1,zcyZ];exact ⟨by trivial,gSS hl,by rw [List.length_set]; exact g1.1,λj hj hne=>by rw [gSN (Ne.symm hne)]; exact g1.2 j hj⟩
theorem But.st {fo os : Nat} {s : StS} {p : AV} {H H' : AH} (b : But fo H H') (h : StAt s os p H) (hne : fo ≠ os) (hp : fo ∉ idS p) : StAt s os p H':=h.keep λj hj=>by
 rcases hj with rfl | hj
 ·exact b.same j h.os_lt (Ne.symm hne)
 ·exact b.same j (h.p_lt j hj) (λe=>hp (by rw [← e]; exact hj))
theorem StAt.keepH {s : StS} {os : Nat} {p : AV} {H H' : AH} (h : StAt s os p H) (k1 : H'[os]? = H[os]?) (k2 : ∀ i ∈ idS p,H'[i]? = H[i]?) : StAt s os p H':=by
 obtain ⟨a,b,c,d,pv,h⟩:=h;exact ⟨a,b,c,d,pv,k1.trans h.obj,h.now,h.kept,h.pm,zcZ h.ps k2,h.po,h.pi,h.pc⟩
structure Duo (s t : StS) (os od : Nat) (p q : AV) (H : AH) : Prop where
 P : StAt s os p H
 D : DsAt t od q H
 ne : os ≠ od
 pd : od ∉ idS p
 dp : os ∉ idS q
 pq : ∀ i ∈ idS p,i ∉ idS q
theorem Duo.stepP {s s' t : StS} {os od : Nat} {p p' q : AV} {H H' : AH} (h : Duo s t os od p q H) (k : StAt s' os p' H') (f : StF os p p' H H') : Duo s' t os od p' q H':=by
 have l1:=h.D.os_lt;have l2:=h.D.p_lt;exact ⟨k,h.D.keep (f.same od l1 (Ne.symm h.ne) h.pd) λi hi=>f.same i (l2 i hi) (λe=>h.dp (e ▸ hi)) (λz=>h.pq i z hi),h.ne,λz=>(f.ids od z).elim h.pd (λz=>by omega),h.dp,λi hi z=>(f.ids i hi).elim (λy=>h.pq i y z) (λy=>by have:=l2 i z; omega)⟩
theorem Duo.stepD {s t t' : StS} {os od : Nat} {p q q' : AV} {H H' : AH} (h : Duo s t os od p q H) (k : DsAt t' od q' H') (f : StF od q q' H H') : Duo s t' os od p q' H':=by
 obtain ⟨a,b,c,d,pv,hc⟩:=h.P;have l1:=hc.lt;have l2:=idS_lt hc;exact ⟨h.P.keepH (f.same os l1 h.ne h.dp) λi hi=>f.same i (l2 i hi) (λe=>h.pd (e ▸ hi)) (λz=>h.pq i hi z),k,h.ne,h.pd,λz=>(f.ids os z).elim h.dp (λz=>by omega),λi hi z=>(f.ids i z).elim (λy=>h.pq i hi y) (λy=>by have:=l2 i hi; omega)⟩
theorem Duo.grew {s t : StS} {os od : Nat} {p q : AV} {H H' : AH} (h : Duo s t os od p q H) (g : Grew H H') : Duo s t os od p q H':=⟨h.P.grew g,h.D.grew g,h.ne,h.pd,h.dp,h.pq⟩
theorem sameI_self (ns : List Nm) (ds : List Nd) : decide (sameI ns ds ns ds)=true:=decide_eq_true ⟨rfl,rfl⟩
theorem duo_new {room : Int} {H H1 H2 : AH} {p : AV} (h1 : StAt (newS room) H.length p H1) (l1 : H1.length=H.length + 1) (hid : idS p=[]) (h2 : DsAt (newS room) H1.length nilSl H2) (g : Grew H1 H2) : Duo (newS room) (newS room) H.length H1.length p nilSl H2 :=
 ⟨h1.grew g,h2,by omega,by rw [hid]; simp,by simp [idS],by rw [hid]; simp⟩
theorem duo_now {s t : StS} {os od : Nat} {p q : AV} {H : AH} (h : Duo s t os od p q H) : ∃ a b,ImV t.now.1 t.now.2 (.agg [a,b])∧ald true 2 H (.ptr od 0)=some (.agg [a,b]):=by
 obtain ⟨a,b,c,d,pv,hc⟩:=h.D;exact ⟨a,b,hc.now,by rw [znZ hc.obj]; rfl⟩
end Go.Proofs.YtlhiaihmkjlaaaaGreat.Av
end
