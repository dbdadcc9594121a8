/- Texts of this proof, one behind the other, packed into one file by a program of this session. No condition. -/
import Derived.Test.YtlhiaihmkjlaaaaGreatMrJ
import Derived.OrdersIn
import Derived.RangeFuncNested
set_option linter.unusedVariables false
set_option linter.unusedSimpArgs false
set_option maxRecDepth 100000
section
namespace Go.Proofs.YtlhiaihmkjlaaaaGreat.Av
open Go Go.RowKit
structure DsC (s : StS) (os : Nat) (a b c d p : AV) (pv : List OpV) (H : AH) : Prop where
 obj : H[os]? = some (some (.cells [a,b,c,d,p,I s.cap,I s.made,I s.armed,B s.off]))
 now : ImV s.now.1 s.now.2 (.agg [a,b])
 kept : ImV s.kept.1 s.kept.2 (.agg [c,d])
 pm : pv.map OpV.o=s.pend
 ps : zaZ H 8 p=some (pv.flatMap encO,pv.length)
 po : zjsZ p=true
 pi : os ∉ idS p
def DsAt (s : StS) (os : Nat) (p : AV) (H : AH) : Prop:=∃ a b c d pv,DsC s os a b c d p pv H
theorem DsC.lt {s : StS} {os : Nat} {a b c d p : AV} {pv : List OpV} {H : AH} (h : DsC s os a b c d p pv H) : os < H.length:=(gSI.1 h.obj).1
theorem DsC.grew {s : StS} {os : Nat} {a b c d p : AV} {pv : List OpV} {H H' : AH} (h : DsC s os a b c d p pv H) (g : Grew H H') : DsC s os a b c d p pv H' :=
 ⟨g.cells h.obj,h.now,h.kept,h.pm,g.slice h.ps,h.po,h.pi⟩
theorem DsAt.grew {s : StS} {os : Nat} {p : AV} {H H' : AH} (h : DsAt s os p H) (g : Grew H H') : DsAt s os p H':=by
 obtain ⟨a,b,c,d,pv,h⟩:=h;exact ⟨a,b,c,d,pv,h.grew g⟩
theorem DsAt.os_lt {s : StS} {os : Nat} {p : AV} {H : AH} (h : DsAt s os p H) : os < H.length:=by
 obtain ⟨a,b,c,d,pv,h⟩:=h;exact h.lt
theorem DsAt.p_lt {s : StS} {os : Nat} {p : AV} {H : AH} (h : DsAt s os p H) : ∀ j ∈ idS p,j < H.length:=by
 obtain ⟨a,b,c,d,pv,h⟩:=h;exact λj q=>zrZ h.ps j q
theorem DsAt.keep {s : StS} {os : Nat} {p : AV} {H H' : AH} (h : DsAt s os p H) (k1 : H'[os]? = H[os]?) (k2 : ∀ i ∈ idS p,H'[i]? = H[i]?) : DsAt s os p H':=by
 obtain ⟨a,b,c,d,pv,h⟩:=h;exact ⟨a,b,c,d,pv,k1.trans h.obj,h.now,h.kept,h.pm,zcZ h.ps k2,h.po,h.pi⟩
theorem DsC.set {s s' : StS} {os : Nat} {a b c d a' b' c' d' p : AV} {pv : List OpV} {H : AH} (h : DsC s os a b c d p pv H) (hn : ImV s'.now.1 s'.now.2 (.agg [a',b'])) (hk : ImV s'.kept.1 s'.kept.2 (.agg [c',d'])) (hp : s'.pend=s.pend) :
  DsC s' os a' b' c' d' p pv (H.set os (some (.cells [a',b',c',d',p,I s'.cap,I s'.made,I s'.armed,B s'.off])))∧StF os p p H (H.set os (some (.cells [a',b',c',d',p,I s'.cap,I s'.made,I s'.armed,B s'.off]))):=by
 refine ⟨⟨gSS h.lt,hn,hk,by rw [hp]; exact h.pm,zcZ h.ps λi q=>gSN (λe=>h.pi (by rw [e]; exact q)),h.po,h.pi⟩,by simp,λj _ hne _=>gSN (Ne.symm hne),λ_ q=>.inl q⟩
theorem rdD (a b c d e f g h i : AV) : ztZ true 2 [a,b,c,d,e,f,g,h,i] 0=some (.agg [a,b])∧ztZ true 2 [a,b,c,d,e,f,g,h,i] 2=some (.agg [c,d]):=⟨rfl,rfl⟩
theorem stD {H : AH} {os : Nat} {x0 x1 x2 x3 x4 x5 x6 x7 x8 a b : AV} (h : H[os]? = some (some (.cells [x0,x1,x2,x3,x4,x5,x6,x7,x8]))) (ha : oneA a=true) (hb : oneA b=true) :
  ast 2 H (.ptr os 0) (.agg [a,b])=some (H.set os (some (.cells [a,b,x2,x3,x4,x5,x6,x7,x8])))∧ast 2 H (.ptr os 2) (.agg [a,b])=some (H.set os (some (.cells [x0,x1,a,b,x4,x5,x6,x7,x8]))):=by
 constructor
 ·rw [zcoZ (n:=2) (off:=0) (xs:=[a,b]) (by simp [ha,hb]) h rfl (by simp)]; rfl
 ·rw [zcoZ (n:=2) (off:=2) (xs:=[a,b]) (by simp [ha,hb]) h rfl (by simp)]; rfl
theorem RNew_c (room : Int) (H : AH) (hr : room≤9223372036854775807) : ∃ r H',(r = .ptr H.length 0∧H'.length=H.length + 1∧DsAt (newS room) H.length nilSl H'∧Grew H H')∧BCall Tryz.prog 31 [I room] H r H':=zyfZ (by
 unfold zqqZ;have e1 : amm imx [I room,(I 0)]=some (I (max room 0)):=by rw [zbggZ,imx_eq,Int.max_comm]
 have e2 : amm imn [I (max room 0),(I 4096)]=some (I (min (max room 0) 4096)):=by rw [zbggZ,imn_eq,Int.min_comm]
 have e3 : abl [nilSl,nilSl,nilSl,nilSl,nilSl,(I 0),(I 0),(I 0),(B false)] [(5,1,I (min (max room 0) 4096)),(7,1,(I (-1)))]=some (.agg [nilSl,nilSl,nilSl,nilSl,nilSl,I (min (max room 0) 4096),I 0,I (-1),B false]):=rfl;have e4 : anew H (.agg [nilSl,nilSl,nilSl,nilSl,nilSl,I (min (max room 0) 4096),I 0,I (-1),B false])=some (.ptr H.length 0,H ++ [some (.cells [nilSl,nilSl,nilSl,nilSl,nilSl,I (min (max room 0) 4096),I 0,I (-1),B false])]):=by simp
 rw [e1,zbZ,e2,zbZ,e3,zbZ,e4,zbpZ];have hI : ImV [] [] (.agg [nilSl,nilSl]):=⟨nilSl,nilSl,[],rfl,SV.nil,SV.nil,rfl⟩;exact ⟨rfl,by simp,⟨nilSl,nilSl,nilSl,nilSl,[],⟨top1,hI,hI,rfl,rfl,rfl,by simp [idS]⟩⟩,Grew.app _ _⟩)
theorem RArm_c {s : StS} {os : Nat} {p : AV} {H : AH} (h : DsAt s os p H) (n : Int) : ∃ r H',(r = .tup []∧DsAt (armS s n) os p H'∧StF os p p H H')∧BCall Tryz.prog 42 [.ptr os 0,I n] H r H':=zwtZ (by
 obtain ⟨a,b,c,d,pv,h⟩:=h;unfold zpoZ;have e1 : amm imx [I n,(I (-1))]=some (I (max n (-1))):=by rw [zbggZ,imx_eq,Int.max_comm]
 obtain ⟨h2,h3⟩:=h.set (s':=armS s n) h.now h.kept rfl;have e2 : ast 1 H (.ptr os 7) (I (max n (-1)))=some (H.set os (some (.cells [a,b,c,d,p,I s.cap,I s.made,I (max n (-1)),B s.off]))):=fld h.obj (by simp) rfl;simp only [e1,zbZ,zkZ,zeZ,Nat.zero_add,e2,zcaZ];exact ⟨by trivial,⟨a,b,c,d,pv,h2⟩,h3⟩)
theorem Rdeed_c {s : StS} {os : Nat} {p : AV} {H : AH} (h : DsAt s os p H) (hb : -1≤s.armed∧s.armed≤9223372036854775807) : ∃ r H',(r=B (deedS s).1∧DsAt (deedS s).2 os p H'∧StF os p p H H')∧BCall Tryz.prog 138 [.ptr os 0] H r H':=zulZ (by
 obtain ⟨a,b,c,d,pv,h⟩:=h;unfold zofZ;simp only [zkZ,zbZ,zeZ,Nat.zero_add,zlZ h.obj,zdZ,gCS,gCZ,zjaZ,zpZ]
 have j3 : ∀ (s' : StS) (b0 : Bool) (H' : AH),DsC s' os a b c d p pv H'→StF os p p H H'→deedS s=(!s'.off,s')→zeaZ (.ptr os 0) H' (λr H'=>r=B (deedS s).1∧DsAt (deedS s).2 os p H'∧StF os p p H H'):=by
  intro s' b0 H' h' f e;rw [zqjZ]; unfold ziqZ;simp only [zkZ,zbZ,zeZ,Nat.zero_add,zlZ h'.obj,zdZ,gCS,gCZ,zduZ,e];exact ⟨by trivial,⟨a,b,c,d,pv,h'⟩,f⟩
 have j1 : ∀ (s' : StS) (H' : AH),DsC s' os a b c d p pv H'→StF os p p H H'→(s'.off=true→deedS s=(false,s'))→(s'.off=false→s'=s∧s.armed ≠ 0)→s'.armed=s.armed→zdyZ (.ptr os 0) H' (λr H'=>r=B (deedS s).1∧DsAt (deedS s).2 os p H'∧StF os p p H H'):=by
  intro s' H' h' f e1 e2 e3;rw [zqhZ]; unfold ziiZ;simp only [zkZ,zbZ,zeZ,Nat.zero_add,zlZ h'.obj,zdZ,gCS,gCZ,zduZ,zcrZ];cases ho : s'.off with
  | true =>
   simp only [Bool.not_true,show ((false == true)=false) from rfl,zfxZ,zbZ,zoZ,if_false,Bool.false_eq_true];rw [zhoZ]; unfold zexZ;simp only [zpZ,zmZ];exact j3 s' true H' h' f (by rw [ho]; exact e1 ho)
  | false =>
   obtain ⟨rfl,h0⟩:=e2 ho;have hn : ¬ (s'.off=true∨s'.armed=0):=by rintro (q | q); rw [ho] at q; cases q; exact h0 q
   simp only [Bool.not_false,beq_self_eq_true,zbrZ,zbZ,zkZ,zeZ,Nat.zero_add,zlZ h'.obj,zdZ,gCS,gCZ,ztmZ,zoZ,if_true];rw [zhoZ]; unfold zexZ
   by_cases hp : 0 < s'.armed
   ·have e : deedS s'=(true,{ s' with armed:=s'.armed - 1 }):=by unfold deedS; rw [if_neg hn,if_pos hp]
    obtain ⟨h2,h3⟩:=h'.set (s':={ s' with armed:=s'.armed - 1 }) h'.now h'.kept rfl;have q1 : abI .sub (I s'.armed) (I 1)=some (I (s'.armed - 1)):=zfpZ (by omega) (by omega);have q2 : ast 1 H' (.ptr os 7) (I (s'.armed - 1))=some (H'.set os (some (.cells [a,b,c,d,p,I s'.cap,I s'.made,I (s'.armed - 1),B s'.off]))):=fld h'.obj (by simp) rfl;simp only [hp,dTt,zpZ,zbcZ,zkZ,zbZ,zeZ,Nat.zero_add,zlZ h'.obj,zdZ,gCS,gCZ,q1,q2,zcaZ];exact j3 _ true _ h2 (f.trans h3) (by simp only [ho,Bool.not_false] at e ⊢; exact e)
   ·have e : deedS s'=(true,s'):=by unfold deedS; rw [if_neg hn,if_neg hp]
    simp only [hp,dFf,zpZ,zmZ];exact j3 s' true H' h' f (by rw [ho]; exact e)
 by_cases h0 : s.armed=0
 ·obtain ⟨h2,h3⟩:=h.set (s':={ s with off:=true }) h.now h.kept rfl
  have e2 : ast 1 H (.ptr os 8) (B true)=some (H.set os (some (.cells [a,b,c,d,p,I s.cap,I s.made,I s.armed,B true]))):=fld h.obj (by simp) rfl;simp only [h0,dTt,zbcZ];rw [h0] at e2;simp only [e2,zcaZ];have h2':=h2;simp only [h0] at h2 h3;exact j1 _ _ h2 h3 (λ_=>by unfold deedS; rw [if_pos (.inr h0)]; simp [h0]) (λq=>by cases q) h0.symm
 ·simp only [h0,dFf,zmZ]
  exact j1 s H h (.refl _ _ _) (λq=>by
   unfold deedS;rw [if_pos (.inl q)]
   congr 1
   cases s;simp only at q;subst q
   rfl) (λ_=>⟨rfl,h0⟩) rfl)
theorem Rdo_c {N : Nat} {s : StS} {os : Nat} {p bv : AV} {H : AH} {o : OpM} (h : DsAt s os p H) (hw : SW N s) (hN : N≤900000) (hb : SV encU 1 o.b bv) (ho : OpB o) :
  ∃ r H',(r=I (doS s o).1∧∃ p',DsAt (doS s o).2 os p' H'∧StF os p p' H H')∧BCall Tryz.prog 100 [.ptr os 0,.agg (opA o bv)] H r H':=by
 have h0:=h;obtain ⟨a0,b0,c0,d0,pv0,hc0⟩:=h;have obv:=SV.oneA hb;have e1 : anew H (.agg (opA o bv))=some (.ptr H.length 0,H ++ [some (.cells (opA o bv))]):=by simp [opA,obv]
 have g:=Grew.app H [some (.cells (opA o bv))];obtain ⟨r,H3,⟨rfl,h3,f3⟩,hc⟩:=Rdeed_c (h0.grew g) hw.armed;have sm:=hw.now.sm (by omega);obtain ⟨q1,q2,q3,q4,q5⟩:=zkeZ s;cases hd : (deedS s).1 with
 | false =>
  have e : doS s o=(8,(deedS s).2):=by unfold doS; rw [if_neg (by rw [hd]; simp)]
  rw [e];refine zneZ ?_;unfold zkgZ;rw [e1,zbpZ];refine bC_of hc ?_;simp only [hd,zduZ,zbZ,zpZ,Bool.not_false,zbcZ];exact ⟨by trivial,p,h3,(StF.of_grew g).trans f3⟩
 | true =>
  have e : doS s o=(0,{ (deedS s).2 with now:=ziaZ s.now.1 s.now.2 o,pend:=s.pend ++ [o] }):=by unfold doS; rw [if_pos hd]
  rw [e];have hos : os < H.length:=hc0.lt;have hid : ∀ j ∈ idS p,j < H.length:=λj q=>zrZ hc0.ps j q
  obtain ⟨a,b,c,d,pv,h3⟩:=h3;have hl3 : H.length + 1≤H3.length:=by have:=f3.len; simpa using this
  have c3 : H3[H.length]? = some (some (.cells (opA o bv))):=by
   rw [f3.same H.length (by simp) (by omega) (λq=>by have:=hid _ q; omega)]; exact top1
  obtain ⟨R,hR,hp⟩:=ref_Apply_p (o:=o) (bv:=bv) h3.now (by rw [q1]; exact sm) hb (by have:=ho.1; omega) (by have:=ho.2.1; omega) (by have:=ho.2.2; omega);rw [q1] at hR;obtain ⟨a',b',rfl,oa,ob⟩:=hR.agg2;have rd8 : ∀ w : AV,ztZ true 8 (opA o w) 0=some (.agg (opA o w)):=λ_=>rfl
  obtain ⟨h4,f4⟩:=h3.set (s':={ (deedS s).2 with now:=ziaZ s.now.1 s.now.2 o }) hR h3.kept rfl;have c4 : (H3.set os (some (AObj.cells [a',b',c,d,p,I (deedS s).2.cap,I (deedS s).2.made,I (deedS s).2.armed,B (deedS s).2.off])))[H.length]? = some (some (.cells (opA o bv))):=by rw [gSN (by omega)]; exact c3
  simp only at h4 f4;have hl4 : (H3.set os (some (AObj.cells [a',b',c,d,p,I (deedS s).2.cap,I (deedS s).2.made,I (deedS s).2.armed,B (deedS s).2.off]))).length=H3.length:=by simp
  have q0:=(stD h3.obj oa ob).1;generalize hH4 : H3.set os (some (AObj.cells [a',b',c,d,p,I (deedS s).2.cap,I (deedS s).2.made,I (deedS s).2.armed,B (deedS s).2.off]))=H4 at *;have hpl : pv.length=s.pend.length:=by rw [← q3,← h3.pm,List.length_map]
  have hplN:=hw.plen;have hbb:=ho.1
  -- whatever the copy's value is
  have main : ∀ (w : AV) (H5 : AH),oneA w=true→aap 1 1 H4 nilSl bv=some (w,H5)→Grew H4 H5 →
    ∃ r H6,aap 8 96 (H5.set H.length (some (.cells (opA o w)))) p (.imm (opA o w) 1 8)=some (r,H6)∧zjsZ r=true∧zaZ H6 8 r=some (pv.flatMap encO ++ opA o w,pv.length + 1)∧H5.length≤H6.length ∧
     (∀ i,i < H5.length→i ≠ H.length→i ∉ idS p→H6[i]? = H5[i]?)∧(∀ i ∈ idS r,i ∈ idS p∨H5.length≤i) ∧
     BCall Tryz.prog 100 [.ptr os 0,.agg (opA o bv)] H (I 0) (H6.set os (some (.cells [a',b',c,d,r,I (deedS s).2.cap,I (deedS s).2.made,I (deedS s).2.armed,B (deedS s).2.off]))):=by
   intro w H5 ow ha5 g5;have lt5 : H.length < H5.length:=by have:=g5.1; omega
   have s5 : ast 1 H5 (.ptr H.length 7) w=some (H5.set H.length (some (.cells (opA o w)))):=by
    rw [zcoZ (n:=1) (xs:=[w]) (cs:=opA o bv) (zbsZ ow) (g5.cells c4) rfl (by simp [opA])];simp [opA,zlaZ]
   have c6 : (H5.set H.length (some (AObj.cells (opA o w))))[H.length]? = some (some (.cells (opA o w))):=gSS lt5
   have o6 : (H5.set H.length (some (AObj.cells (opA o w))))[os]? = some (some (.cells [a',b',c,d,p,I (deedS s).2.cap,I (deedS s).2.made,I (deedS s).2.armed,B (deedS s).2.off])):=by
    rw [gSN (by omega)]; exact g5.cells h4.obj
   have p6 : zaZ (H5.set H.length (some (AObj.cells (opA o w)))) 8 p=some (pv.flatMap encO,pv.length):=zcZ (g5.slice h4.ps) λi q=>gSN (by have:=hid i q; omega)
   have e6 : absf 8 1 (zrow [(I 0),(I 0),(I 0),(I 0),(B false),(.lit (.string ⟨#[]⟩)),(.lit (.string ⟨#[]⟩)),nilSl] 1) [(0,8,.agg (opA o w))]=some (.imm (opA o w) 1 8):=by
    simp [absf,zrow,opA,zbcjZ,ow,zlaZ]
   have x1 : zdeZ (H5.set H.length (some (AObj.cells (opA o w)))) 8 (.imm (opA o w) 1 8)=some (opA o w,1):=znZ (by simp [zaZ,opA]);obtain ⟨r,H6,a1,a2,a3,a4,a5,a6⟩:=zjmZ (bytes:=96) p6 h4.po x1 (by omega);rw [List.length_set] at a4 a6
   have a5' : ∀ i,i < H5.length→i ≠ H.length→i ∉ idS p→H6[i]? = H5[i]?:=λi hi hn hp=>by
    rw [a5 i (by rw [List.length_set]; exact hi) hp,gSN (Ne.symm hn)]
   have c7 : H6[os]? = some (some (.cells [a',b',c,d,p,I (deedS s).2.cap,I (deedS s).2.made,I (deedS s).2.armed,B (deedS s).2.off])):=by
    rw [a5' os (by omega) (by omega) h4.pi]; exact g5.cells h4.obj
   have e7 : ast 1 H6 (.ptr os 4) r=some (H6.set os (some (.cells [a',b',c,d,r,I (deedS s).2.cap,I (deedS s).2.made,I (deedS s).2.armed,B (deedS s).2.off]))):=fld c7 (by simp) (zbiZ a2);refine ⟨r,H6,a1,a2,a3,a4,a5',a6, ?_⟩
   obtain ⟨r',H',⟨rfl,rfl⟩,hcall⟩:=zneZ (a0:=.ptr os 0) (a1:=.agg (opA o bv)) (H:=H) (K:=λr' H'=>r'=I 0∧H'=H6.set os (some (.cells [a',b',c,d,r,I (deedS s).2.cap,I (deedS s).2.made,I (deedS s).2.armed,B (deedS s).2.off]))) (by
    unfold zkgZ;rw [e1,zbpZ];refine bC_of hc ?_;simp only [hd,zduZ,zbZ,zpZ,Bool.not_true,zmZ,zkZ,zeZ,Nat.zero_add,zlZ h3.obj,(rdD _ _ _ _ _ _ _ _ _).1,zlZ c3,rd8];refine bP_of hp ?_;have i7 : (opA o bv)[7]? = some bv:=rfl;simp only [zkZ,zbZ,zeZ,Nat.zero_add,q0,zcaZ,zlZ c4,zdZ,i7,ha5,zbpZ,s5,zlZ o6,gCS,gCZ,zlZ c6,rd8,e6,a1,e7];exact ⟨by trivial,by trivial⟩)
   exact hcall
  have bvl:=hb.bytes H4;have xa : zdeZ H4 1 bv=some (encB o.b,o.b.length):=znZ bvl
  have fr : ∀ (H5 H6 X : AH) (r : AV),Grew H4 H5→H5.length≤H6.length→(∀ i,i < H5.length→i ≠ H.length→i ∉ idS p→H6[i]? = H5[i]?)→(∀ i ∈ idS r,i ∈ idS p∨H5.length≤i)→X.length=H6.length→(∀ j,j < H.length→j ≠ os→j ∉ idS p→X[j]? = H6[j]?)→StF os p r H X:=by
   intro H5 H6 X r g5 a4 a5 a6 hx1 hx2
   have:=g5.1
   refine ⟨by omega,λj hj hne hjp=>?_,λj hj=>(a6 j hj).imp id (λz=>by omega)⟩;rw [hx2 j hj hne hjp,a5 j (by omega) (by omega) hjp,g5.2 j (by omega),f4.same j (by omega) hne hjp,f3.same j (by simp; omega) hne hjp,g.2 j hj]
  rcases Nat.eq_zero_or_pos o.b.length with hz | hz
  ·have hnil : o.b=[]:=List.length_eq_zero_iff.1 hz
   have ha5 : aap 1 1 H4 nilSl bv=some (nilSl,H4):=by
    unfold aap; rw [xa]; simp only [aapp1,hz,if_true]
   obtain ⟨r,H6,a1,a2,a3,a4,a5,a6,hcall⟩:=main nilSl H4 rfl ha5 (Grew.refl _);have hsv : SV encU 1 o.b nilSl:=by rw [hnil]; exact SV.nil
   have hor : os ∉ idS r:=λq=>(a6 os q).elim h4.pi (λq=>by omega)
   have hl6 : os < H6.length:=by omega
   refine ⟨_,_,⟨rfl,r,⟨a',b',c,d,pv ++ [⟨o,nilSl,hsv⟩],gSS hl6,hR,h3.kept, ?_, ?_,a2,hor⟩, ?_⟩,hcall⟩
   ·rw [List.map_append,h3.pm,q3]; rfl
   ·have:=zcZ a3 (H':=H6.set os (some (.cells [a',b',c,d,r,I (deedS s).2.cap,I (deedS s).2.made,I (deedS s).2.armed,B (deedS s).2.off]))) λi q=>gSN (λe=>hor (by rw [e]; exact q))
    rw [this]; simp [encO]
   ·exact fr H4 H6 _ r (Grew.refl _) a4 a5 a6 (by rw [List.length_set]) λj hj hne hjp=>gSN (Ne.symm hne)
  ·have ha5 : aap 1 1 H4 nilSl bv=some (.sl H4.length 0 o.b.length 1 (.ge o.b.length),H4 ++ [some (.cells (encB o.b))]):=by
    unfold aap; rw [xa];have : ¬ o.b.length=0:=by omega
    simp only [aapp1,this,if_false];rw [if_pos (by omega)]
   have g5:=Grew.app H4 [some (AObj.cells (encB o.b))];have l5 : (H4 ++ [some (AObj.cells (encB o.b))]).length=H4.length + 1:=by simp
   have b5 : (H4 ++ [some (AObj.cells (encB o.b))])[H4.length]? = some (some (AObj.cells (encB o.b))):=top1;generalize (H4 ++ [some (AObj.cells (encB o.b))])=H5 at *;obtain ⟨r,H6,a1,a2,a3,a4,a5,a6,hcall⟩:=main (.sl H4.length 0 o.b.length 1 (.ge o.b.length)) H5 rfl ha5 g5;have hor : os ∉ idS r:=λq=>(a6 os q).elim h4.pi (λq=>by omega)
   have hl6 : os < H6.length:=by omega
   obtain ⟨q,off,cap,c1,rfl,hq,hfit,a31⟩:=zbabZ a3 a2 (Nat.succ_pos _);have a31:=a31.symm
   have hlenp : (pv.flatMap encO).length=pv.length * 8:=by
    have:=zcvZ h4.ps
    exact this
   have hqB : H4.length ≠ q:=λz=>by
    rcases a6 q (by simp [idS]) with y | y
    ·have:=hid q y; omega
    ·omega
   have hqo : q ≠ os:=λz=>hor (by simp [idS,z])
   have hk : c1[off + (pv.length * 8 + 7)]? = some (.sl H4.length 0 o.b.length 1 (.ge o.b.length)):=by
    have h1 : ((c1.drop off).take ((pv.length + 1) * 8))[pv.length * 8 + 7]? = some (.sl H4.length 0 o.b.length 1 (.ge o.b.length)):=by
     rw [a31,List.getElem?_append_right (by omega),hlenp,show pv.length * 8 + 7 - pv.length * 8=7 by omega];rfl
    rw [List.getElem?_take_of_lt (by omega),List.getElem?_drop] at h1;exact h1
   have hX1 : (H6.set os (some (AObj.cells [a',b',c,d,.sl q off (pv.length + 1) 8 cap,I (deedS s).2.cap,I (deedS s).2.made,I (deedS s).2.armed,B (deedS s).2.off])))[q]? = some (some (.cells c1)):=by
    rw [gSN (Ne.symm hqo)]; exact hq
   have hB6 : H6[H4.length]? = some (some (.cells (encB o.b))):=by
    rw [a5 H4.length (by omega) (by omega) (λz=>by have:=hid _ z; omega)]; exact b5
   have hBo : os ≠ H4.length:=by omega
   have hX2 : (H6.set os (some (AObj.cells [a',b',c,d,.sl q off (pv.length + 1) 8 cap,I (deedS s).2.cap,I (deedS s).2.made,I (deedS s).2.armed,B (deedS s).2.off])))[H4.length]? = some (some (.cells (encB o.b))):=by
    rw [gSN hBo]; exact hB6
   have hfz:=BCall.fzCell hcall hqB hX2 hX1 hk (by
    rw [List.drop_zero,Nat.mul_one,List.take_of_length_le (by rw [zjeZ]; exact Nat.le_refl _)];exact zynZ o.b)
   rw [List.drop_zero,Nat.mul_one,List.take_of_length_le (by rw [zjeZ]; exact Nat.le_refl _)] at hfz
   have hsv : SV encU 1 o.b (.imm (encB o.b) o.b.length 1):=by
    have:=SV.imm (enc:=encU) (sz:=1) (l:=o.b) (λ_=>rfl) (λx hx=>rfl)
    rwa [zbctZ] at this
   have hql : q < ((H6.set os (some (AObj.cells [a',b',c,d,.sl q off (pv.length + 1) 8 cap,I (deedS s).2.cap,I (deedS s).2.made,I (deedS s).2.armed,B (deedS s).2.off]))).set H4.length none).length:=by
    rw [List.length_set,List.length_set]; exact (gSI.1 hq).1
   refine ⟨_,_,⟨rfl,.sl q off (pv.length + 1) 8 cap,⟨a',b',c,d,pv ++ [⟨o,.imm (encB o.b) o.b.length 1,hsv⟩], ?_,hR,h3.kept, ?_, ?_,rfl,hor⟩, ?_⟩,hfz⟩
   ·rw [gSN hqo,gSN (Ne.symm hBo)]
    exact gSS hl6
   ·rw [List.map_append,h3.pm,q3]; rfl
   ·rw [zbuZ (gSS hql) (by rw [List.length_set]; exact hfit),List.drop_set,if_neg (by omega),show off + (pv.length * 8 + 7) - off=pv.length * 8 + 7 by omega,List.take_set,a31,List.set_append_right _ _ (by omega),hlenp,show pv.length * 8 + 7 - pv.length * 8=7 by omega,List.flatMap_append,List.length_append]
    rfl
   ·refine fr H5 H6 _ _ g5 a4 a5 a6 (by simp) λj hj hne hjp=>?_
    have hjq : q ≠ j:=λz=>by
     rcases a6 q (by simp [idS]) with y | y
     ·exact hjp (z ▸ y)
     ·omega
    rw [gSN hjq,gSN (by omega),gSN (Ne.symm hne)]
theorem ROpen_c {N : Nat} {s : StS} {os : Nat} {p : AV} {H : AH} (h : DsAt s os p H) (hw : SW N s) (hN : N < 900000) {name : List UInt8} (hn : name.length≤9223372036854775807) (make : Bool) :
  ∃ r H',(r = .tup [I (openS s name make).1.1,I (openS s name make).1.2]∧∃ p',DsAt (openS s name make).2 os p' H'∧StF os p p' H H')∧BCall Tryz.prog 41 [.ptr os 0,S (bstr name),B make] H r H':=ztuZ (by
 unfold zogZ;have h':=h;obtain ⟨a,b,c,d,pv,hc⟩:=h;have hmade:=hw.made
 have stop : ∀ x y : Int,findS s name=(x,y)→y ≠ 3→(∃ p',DsAt (openS s name make).2 os p' H∧StF os p p' H H)∧openS s name make=((x,y),s):=by
  intro x y e e2;have : openS s name make=(findS s name,s):=by unfold openS; rw [if_pos (.inl (by rw [e]; exact e2))]
  rw [this,e];exact ⟨⟨p,h',.refl _ _ _⟩,rfl⟩
 simp only [zkZ,zbZ,zeZ,Nat.zero_add,zlZ hc.obj,zdZ,gCS,gCZ,zpZ];cases hoff : s.off with
 | true =>
  have e : findS s name=(0,8):=by unfold findS; rw [if_pos hoff]
  obtain ⟨q1,q2⟩:=stop 0 8 e (by omega);simp only [zbcZ];exact ⟨by rw [q2],q1⟩
 | false =>
  simp only [zmZ];refine zyZ (ziwZ hn) ?_
  by_cases hm : mayN name
  ·have hf:=ref_Find_p hc.now (hw.now.sm (by omega)) name
   obtain ⟨w1,w2⟩:=findI_w hw.now.1 name;rw [w1,show decide (hasI s.now.1 s.now.2 name)=decide (hasK Nm.name s.now.1 name) from decide_eq_decide.2 w2] at hf;simp only [hm,dTt,zduZ,Bool.not_true,zbZ,zpZ,zmZ,zkZ,zeZ,Nat.zero_add,zlZ hc.obj,(rdD _ _ _ _ _ _ _ _ _).1];refine zyZ hf ?_
   by_cases hk : hasK Nm.name s.now.1 name
   ·have e : findS s name=(nameI s.now.1 name,0):=by unfold findS; rw [if_neg (by rw [hoff]; simp),if_neg (λq=>q hm),if_pos hk]
    obtain ⟨q1,q2⟩:=stop _ _ e (by omega);simp only [ziZ,gCS,gCZ,zbZ,hk,dTt,zpZ,zbcZ];exact ⟨by rw [q2],q1⟩
   ·have e3 : findS s name=(0,3):=by unfold findS; rw [if_neg (by rw [hoff]; simp),if_neg (λq=>q hm),if_neg hk]
    simp only [ziZ,gCS,gCZ,zbZ,hk,dFf,zpZ,zmZ,zduZ];cases make with
    | false =>
     have e : openS s name false=((0,3),s):=by unfold openS; rw [if_pos (.inr rfl),e3]
     rw [e];simp only [Bool.not_false,zbcZ];exact ⟨by trivial,p,h',.refl _ _ _⟩
    | true =>
     have hn0 : ¬ ((findS s name).2 ≠ 3∨true=false):=by rintro (q | q); exact q (by rw [e3]); cases q
     obtain ⟨a',b',dv,eab,sa,sb,-⟩:=hc.now;injection eab with eab; injection eab with ea eb;subst ea;simp only [Bool.not_true,zmZ,zkZ,zbZ,zeZ,Nat.zero_add,Nat.add_zero,zlZ hc.obj,zdZ,gCS,gCZ,sa.len,abI_geq,zpZ]
     by_cases h16 : 16≤s.now.1.length
     ·have h16I : (16 : Int)≤(s.now.1.length : Int):=by omega
      have e : openS s name true=((0,4),s):=by unfold openS; rw [if_neg hn0,if_pos h16]
      rw [e];simp only [h16I,dTt,zbcZ];exact ⟨by trivial,p,h',.refl _ _ _⟩
     ·have h16I : ¬ (16 : Int)≤(s.now.1.length : Int):=by omega
      have ho : OpB (opCre name (s.made + 1)):=⟨by simp [opCre],hm.2.1,by simp [opCre]⟩;have e1 : abI .add (I s.made) (I 1)=some (I (s.made + 1)):=zbdZ (by omega) (by omega);have e2 : abl [(I 0),(I 0),(I 0),(I 0),(B false),(.lit (.string ⟨#[]⟩)),(.lit (.string ⟨#[]⟩)),nilSl] [(0,1,(I 1)),(5,1,S (bstr name)),(1,1,I (s.made + 1))]=some (.agg (opA (opCre name (s.made + 1)) nilSl)):=rfl;simp only [h16I,dFf,zmZ,zkZ,zbZ,zeZ,Nat.zero_add,zlZ hc.obj,zdZ,gCS,gCZ,e1,e2];obtain ⟨r,H2,⟨rfl,p2,h2,f2⟩,hcall⟩:=Rdo_c (bv:=nilSl) h' hw (by omega) SV.nil ho;refine bC_of hcall ?_;simp only [zkuZ,zbZ,zpZ]
      by_cases hd : (doS s (opCre name (s.made + 1))).1=0
      ·have e : openS s name true=((s.made + 1,0),{ (doS s (opCre name (s.made + 1))).2 with made:=s.made + 1 }):=by unfold openS; rw [if_neg hn0,if_neg h16,if_neg (by rw [hd]; simp)]
       rw [e]
       have emade : (doS s (opCre name (s.made + 1))).2.made=s.made:=by
        obtain ⟨-,-,-,q4,-⟩:=zkeZ s;unfold doS; split <;> exact q4
       obtain ⟨a2,b2,c2,d2,pv2,hc2⟩:=h2;obtain ⟨h3',f3⟩:=hc2.set (s':={ (doS s (opCre name (s.made + 1))).2 with made:=s.made + 1 }) hc2.now hc2.kept rfl;have e3 : ast 1 H2 (.ptr os 6) (I (s.made + 1))=some (H2.set os (some (.cells [a2,b2,c2,d2,p2,I (doS s (opCre name (s.made + 1))).2.cap,I (s.made + 1),I (doS s (opCre name (s.made + 1))).2.armed,B (doS s (opCre name (s.made + 1))).2.off]))):=fld hc2.obj (by simp) rfl;have hob:=hc2.obj;rw [emade] at hob;simp only [hd,ne_eq,not_true_eq_false,dFf,zmZ,zkZ,zbZ,zeZ,Nat.zero_add,zlZ hob,zdZ,gCS,gCZ,e1,e3,zcaZ,zlZ h3'.obj];exact ⟨by trivial,p2,⟨a2,b2,c2,d2,pv2,h3'⟩,f2.trans f3⟩
      ·have e : openS s name true=((0,(doS s (opCre name (s.made + 1))).1),(doS s (opCre name (s.made + 1))).2):=by unfold openS; rw [if_neg hn0,if_neg h16,if_pos hd]
       rw [e];simp only [hd,ne_eq,not_false_eq_true,dTt,zbcZ];exact ⟨by trivial,p2,h2,f2⟩
  ·have e : findS s name=(0,5):=by unfold findS; rw [if_neg (by rw [hoff]; simp),if_pos hm]
   obtain ⟨q1,q2⟩:=stop 0 5 e (by omega);simp only [hm,dFf,zduZ,Bool.not_false,zbZ,zpZ,zbcZ];exact ⟨by rw [q2],q1⟩)
theorem Rfile_c {N : Nat} {s : StS} {os : Nat} {p : AV} {H : AH} (h : DsAt s os p H) (hw : SW N s) (hN : N≤900000) (ino : Int) :
  ∃ R,SV encE 9 (zsZ s ino).1.2 R∧∃ r H',(r = .tup [.agg [I (zsZ s ino).1.1,R],I (zsZ s ino).2]∧Grew H H')∧BCall Tryz.prog 103 [.ptr os 0,I ino] H r H':=by
 obtain ⟨a,b,c,d,pv,h⟩:=h;have e0 : abl [(I 0),nilSl] []=some (.agg [I 0,nilSl]):=rfl;have g:=Grew.app H [some (.cells [I 0,nilSl])];cases ho : s.off with
 | true =>
  have e : zsZ s ino=((0,[]),8):=by unfold zsZ; rw [if_pos ho]
  rw [e];refine ⟨nilSl,SV.nil,zgdZ ?_⟩;unfold zfcZ;simp only [nwC,zbpZ,zkZ,zbZ,zeZ,Nat.zero_add,zlZ (g.cells h.obj),zdZ,gCS,gCZ,ho,zpZ,zbcZ,e0,stC' H 0 (R:=nilSl) rfl,zcaZ,zlZ top1,rd2];exact ⟨by trivial,Grew.app _ _⟩
 | false =>
  have sm:=hw.now.sm (by omega);obtain ⟨R,hR,hp⟩:=ref_Get_p h.now sm ino;have oR:=SV.oneA hR
  by_cases hg : hasG s.now.1 s.now.2 ino
  ·have e : zsZ s ino=(((getN s.now.1 s.now.2 ino).size,(getN s.now.1 s.now.2 ino).l),0):=by unfold zsZ; rw [if_neg (by rw [ho]; simp),if_pos hg]
   rw [e];refine ⟨R,hR,zgdZ ?_⟩;unfold zfcZ;simp only [nwC,zbpZ,zkZ,zbZ,zeZ,Nat.zero_add,zlZ (g.cells h.obj),zdZ,gCS,gCZ,ho,zpZ,zmZ,(rdD _ _ _ _ _ _ _ _ _).1];refine zyZ hp ?_;have g2:=Grew.app (H ++ [some (AObj.cells [I 0,nilSl])]) [some (AObj.cells [I (getN s.now.1 s.now.2 ino).size,R])]
   have e5 : ast 2 (H ++ [some (AObj.cells [I 0,nilSl])] ++ [some (AObj.cells [I (getN s.now.1 s.now.2 ino).size,R])]) (.ptr H.length 0) (.agg [I (getN s.now.1 s.now.2 ino).size,R])=some (H ++ [some (AObj.cells [I (getN s.now.1 s.now.2 ino).size,R])] ++ [some (AObj.cells [I (getN s.now.1 s.now.2 ino).size,R])]):=by
    rw [zcoZ (n:=2) (xs:=[I (getN s.now.1 s.now.2 ino).size,R]) (cs:=[I 0,nilSl]) (by simp [oR]) (g2.cells top1) rfl (by simp)];simp [zlaZ]
   have g3:=Grew.app (H ++ [some (AObj.cells [I (getN s.now.1 s.now.2 ino).size,R])]) [some (AObj.cells [I (getN s.now.1 s.now.2 ino).size,R])];simp only [ziZ,gCS,gCZ,zbZ,nwC,zbpZ,stC' _ _ oR,zcaZ,hg,dTt,zduZ,Bool.not_true,zpZ,zmZ,zlZ top1,rd2,e5,zlZ (g3.cells top1)];exact ⟨by trivial,(Grew.app H _).trans g3⟩
  ·have e : zsZ s ino=((0,[]),3):=by unfold zsZ; rw [if_neg (by rw [ho]; simp),if_neg hg]
   rw [e];refine ⟨nilSl,SV.nil,zgdZ ?_⟩;unfold zfcZ;simp only [nwC,zbpZ,zkZ,zbZ,zeZ,Nat.zero_add,zlZ (g.cells h.obj),zdZ,gCS,gCZ,ho,zpZ,zmZ,(rdD _ _ _ _ _ _ _ _ _).1];refine zyZ hp ?_;have g2:=Grew.app (H ++ [some (AObj.cells [I 0,nilSl])]) [some (AObj.cells [I (getN s.now.1 s.now.2 ino).size,R])]
   have e5 : ast 2 (H ++ [some (AObj.cells [I 0,nilSl])] ++ [some (AObj.cells [I (getN s.now.1 s.now.2 ino).size,R])]) (.ptr H.length 0) (.agg [I 0,nilSl])=some (H ++ [some (AObj.cells [I 0,nilSl])] ++ [some (AObj.cells [I (getN s.now.1 s.now.2 ino).size,R])]):=by
    rw [zcoZ (n:=2) (xs:=[I 0,nilSl]) (cs:=[I 0,nilSl]) rfl (g2.cells top1) rfl (by simp)];simp [zlaZ]
   simp only [ziZ,gCS,gCZ,zbZ,nwC,zbpZ,stC' _ _ oR,zcaZ,hg,dFf,zduZ,Bool.not_false,zpZ,zbcZ,e0,e5,zlZ (g2.cells top1),rd2];exact ⟨by trivial,g.trans g2⟩
section
variable {P : Program}
end
end Go.Proofs.YtlhiaihmkjlaaaaGreat.Av
end
section
namespace Go.Proofs.YtlhiaihmkjlaaaaGreat.Av
open Go Go.RowKit
section
variable {P : Program}
variable {l : Nat} {G0 : Cfg}
end
end Go.Proofs.YtlhiaihmkjlaaaaGreat.Av
end
section
namespace Go.Proofs.YtlhiaihmkjlaaaaGreat.Av
open Go Go.RowKit
theorem old_eq {N : Nat} {X : AH} {o : Nat} (hN : N≤o) : (old N X)[o]? = X[o]?:=by
 unfold old;rw [List.getElem?_append_right (by simpa using hN),List.length_replicate,List.getElem?_drop,show N + (o - N)=o by omega]
theorem BCall.fzS {P : Program} {f : FuncId} {args : List AV} {H X : AH} {r : AV} {sz m : Nat} {cs : List AV} (h : BCall P f args H r X) (g : Grew H X) (hs : zaZ X sz r=some (cs,m)) (hi : ∀ i ∈ idS r,H.length≤i) (hn : zdcZ cs=true) :
  ∃ R,(noIds R=true∧∀ H,zaZ H sz R=some (cs,m))∧BCall P f args H R H:=by
 have hs2 : zaZ (old H.length X) sz r=some (cs,m):=zcZ hs λi q=>old_eq (hi i q)
 obtain ⟨R,n0,h1,h2,h3⟩:=frz_slice hs2 hn;refine ⟨R,⟨h1,h2⟩,ACalls.fzNew (R':=λr'=>r'=R) h ?_⟩;rintro r1 H1 ⟨rfl,rfl⟩;exact ⟨g.1,g.2,n0,R,h3 n0 (Nat.le_refl _),rfl⟩
theorem cloneB_z {H : AH} {v : AV} {l : List UInt8} (h : zaZ H 1 v=some (encB l,l.length)) (hl : l.length≤1000000000) : ∃ R,SV encU 1 l R∧BCall Tryz.prog 68 [v] H R H:=by
 obtain ⟨r,X,⟨hs,g,hi⟩,hc⟩:=ztoZ (a0:=v) (H:=H) (K:=λr X=>zaZ X 1 r=some (encB l,l.length)∧Grew H X∧∀ i ∈ idS r,H.length≤i) (by
  unfold zmvZ;rcases zbflZ h with ⟨rfl,e1,e2⟩ | hb
  ·have e : abN .eql nilS nilSl nilSl=some (B true):=rfl
   simp only [e,zbZ,zpZ,zbcZ];exact ⟨h,Grew.refl H,by simp [idS]⟩
  ·simp only [hb,zbZ,zpZ,zmZ]
   have e : absl H 1 0 (zrow [(.lit (.int .u8 0))] 0) []=some (.sl H.length 0 0 1 (.ex 0),H ++ [some (.cells [])]):=rfl;simp only [e,zbpZ];have g:=Grew.app H [some (.cells [])];have h0 : zaZ (H ++ [some (.cells [])]) 1 (.sl H.length 0 0 1 (.ex 0))=some ([],0):=by simp [zaZ]
   obtain ⟨r,H2,a1,a2,a3,a4,a5,a6⟩:=zjmZ (sz:=1) (bytes:=1) (H:=H ++ [some (.cells [])]) (v:=.sl H.length 0 0 1 (.ex 0)) (cs:=[]) (n:=0) h0 rfl (znZ (g.slice h)) (by omega);simp only [a1,zbpZ];refine ⟨by simpa using a3,⟨by simp at a4; omega,λi hi=>?_⟩,λi hi=>?_⟩
   ·rw [a5 i (by simp; omega) (by simp [idS]; omega)]
    exact g.2 i hi
   ·rcases a6 i hi with h | h
    ·simp [idS] at h; omega
    ·simp at h; omega)
 obtain ⟨R,⟨h1,h2⟩,h3⟩:=BCall.fzS hc g hs hi (zynZ _);exact ⟨R,⟨h1,λH=>by rw [h2 H,zbctZ]⟩,h3⟩
theorem goF_has : zbchZ Tryz.prog 120=true:=by kernel_rfl
theorem has1_p (x : Ext) (no : Int) : BPure Tryz.prog 120 [.agg (encE x),.ip [I no]] (B (decide (x.no=no))):=BPure.val (by simp [zdcZ,noIds,zpaZ]) rfl (store_has_1_ok (by
 unfold store_has_1;have e1 : anew [] (.agg (encE x))=some (.ptr 0 0,[some (.cells (encE x))]):=by simp
 have e2 : (encE x)[0]? = some (I x.no):=rfl;have e3 : ([some (.cells (encE x))] : AH)[0]? = some (some (.cells (encE x))):=rfl;simp only [e1,zbpZ,zeZ,Nat.zero_add,zbZ,zlZ e3,zdZ,e2,ald_ip,gCZ,zjaZ]
 try trivial))
theorem rdh_E (x : Ext) (t : List AV) : ztZ true 9 (encE x ++ t) 0=some (.agg (encE x)):=by
 have:=zbmZ x
 simp only [ztZ,if_true,List.length_append,this,List.drop_zero];rw [if_pos (by omega),List.take_append_of_le_length (by omega),List.take_of_length_le (by omega)]
theorem idxHas_p {l : List Ext} {v : AV} (hv : SV encE 9 l v) (hl : l.length≤281474976710656) (no : Int) : ∃ j : Int,(0≤j ↔ hasL l no)∧BPure Tryz.prog 170 [v,.fn (.func 120) [] [.ip [I no]]] (I j):=by
 have key : ∃ r X,(∃ j : Int,r=I j∧(0≤j ↔ hasL l no))∧BCall Tryz.prog 170 [v,.fn (.func 120) [] [.ip [I no]]] [] r X:=zemZ (by
  unfold zdkZ;simp only [hv.len,zbZ];refine zdqZ (λn x0 x1 x7 x8 H'=>∃ k : Nat,k + n=l.length∧x0=v∧x1 = .fn (.func 120) [] [.ip [I no]]∧x7=I l.length∧x8=I k∧∀ (m : Nat) y,m < k→l[m]? = some y→y.no ≠ no) ?_ l.length ⟨0,by omega,rfl,rfl,rfl,rfl,by omega⟩;rintro n x0 x1 x7 x8 H R hR ⟨k,hk,rfl,rfl,rfl,rfl,hb⟩;unfold zcjZ;rcases Nat.lt_or_ge k l.length with h | h
  ·have hx:=gEG h
   generalize l[k]=y at hx;have kI : (k : Int) < (l.length : Int):=by omega
   simp only [zglZ,zbZ,zpZ,kI,dTt,zbcZ,hv.idx zbmZ hx rfl,ald_ip,rdh_E,bF_fn,goF_has,Bool.true_or,bT_true,List.nil_append,List.cons_append];refine bC_of (has1_p y no H) ?_;simp only [zpZ]
   by_cases c : y.no=no
   ·simp only [c,dTt,zbcZ]
    exact ⟨k,rfl,by simp only [Int.natCast_nonneg,true_iff]; exact ⟨y,List.mem_of_getElem? hx,c⟩⟩
   ·simp only [c,dFf,zmZ,zbdZ (a:=k) (b:=1) (by omega) (by omega),zbZ]
    refine hR (n - 1) _ _ _ _ _ (by omega) ⟨k + 1,by omega,rfl,rfl,rfl,by simp, ?_⟩;intro m z hm hz
    by_cases e : m=k
    ·rw [e,hx] at hz; injection hz with hz; rw [← hz]; exact c
    ·exact hb m z (by omega) hz
  ·have kI : ¬ (k : Int) < (l.length : Int):=by omega
   simp only [zglZ,zbZ,zpZ,kI,dFf,zmZ];refine ⟨-1,rfl,by simp only [show ¬ (0 : Int)≤-1 by omega,false_iff]; rintro ⟨y,hy,e⟩; obtain ⟨m,hm⟩:=List.mem_iff_getElem?.1 hy; exact hb m y (by have:=(gSI.1 hm).1; omega) hm e⟩)
 obtain ⟨r,X,⟨j,rfl,hj⟩,hc⟩:=key;exact ⟨j,hj,BPure.val (by simp [zdcZ,noIds,hv.1]) rfl ⟨_,_,rfl,hc⟩⟩
theorem Contains_p {l : List Ext} {v : AV} (hv : SV encE 9 l v) (hl : l.length≤281474976710656) (no : Int) : BPure Tryz.prog 119 [v,.fn (.func 120) [] [.ip [I no]]] (B (decide (hasL l no))):=by
 obtain ⟨j,hj,hp⟩:=idxHas_p hv hl no;refine BPure.flat λH=>zhwZ ?_
 unfold zelZ;refine zyZ hp ?_;simp only [abI_geq,zbZ];exact ⟨by congr 3; exact propext hj,by trivial⟩
theorem has_p {size : Int} {l : List Ext} {v : AV} (hv : SV encE 9 l v) (hl : l.length≤281474976710656) (no : Int) : BPure Tryz.prog 67 [.agg [I size,v],I no] (B (decide (hasL l no))):=BPure.val (by simp [zdcZ,noIds,hv.1]) rfl (store_has_ok (by
 have ov:=SV.oneA hv;unfold store_has;have e1 : anew [] (.agg [I size,v])=some (.ptr 0 0,[some (.cells [I size,v])]):=by simp [ov]
 have e2 : anew [some (.cells [I size,v])] (I no)=some (.ptr 1 0,[some (.cells [I size,v]),some (.cells [I no])]):=rfl;have e3 : ([some (.cells [I size,v]),some (.cells [I no])] : AH)[0]? = some (some (.cells [I size,v])):=rfl;simp only [e1,zbpZ,e2,zeZ,Nat.zero_add,zbZ,zlZ e3,zdZ,gCS,gCZ]
 have hf : FZs [some (.cells [I size,v]),some (.cells [I no])] [v,.fn (.func 120) [] [.ptr 1 0]] [v,.fn (.func 120) [] [.ip [I no]]]:=by
  refine FZs.cons (FZ.same hv.1) (FZs.cons ⟨3,λn hn=>?_⟩ FZs.nil);obtain ⟨n,rfl⟩ : ∃ m,n=m + 3:=⟨n - 3,by omega⟩;rfl
 refine bP_of (PCall.lend hf rfl (Contains_p hv hl no)) ?_
 try trivial))
theorem cuts_in : ∀ {f : Nat} {p n : Int} {q : Sp},0≤p→q ∈ cutsS f p n 8→p≤q.pos∧0 < q.len∧q.len≤8∧q.pos + q.len≤p + n
 | 0,p,n,q,_,h => by simp [cutsS] at h
 | f + 1,p,n,q,hp,h => by
  unfold cutsS at h;split at h
  ·rename_i hn
   have h1:=Int.emod_lt_of_pos p (show (0 : Int) < 8 by omega);have h2:=Int.emod_nonneg p (show (8 : Int) ≠ 0 by omega);rcases List.mem_cons.1 h with rfl | h
   ·simp only; omega
   ·have:=cuts_in (by omega) h
    omega
  ·simp at h
def opWr (ino pos : Int) (b : List UInt8) : OpM:=⟨2,ino,pos,0,false,[],[],b⟩
theorem opWr_b {ino pos : Int} {b : List UInt8} (h : b.length≤8) : OpB (opWr ino pos b):=⟨by show b.length≤_; omega,by simp [opWr],by simp [opWr]⟩
def partB (b : List UInt8) (pos : Int) (q : Sp) : List UInt8:=(b.drop (q.pos - pos).toNat).take q.len.toNat
def wrS (c : List Ext) (ino pos : Int) (b : List UInt8) : List Sp→StS→(Int × Int) × StS
 | [],s => ((b.length,0),s)
 | q :: r,s =>
  if ¬ hasL c (q.pos / 8)∧freeS s=0 then ((q.pos - pos,4),s)
  else if (doS s (opWr ino q.pos (partB b pos q))).1 ≠ 0 then ((q.pos - pos,(doS s (opWr ino q.pos (partB b pos q))).1),(doS s (opWr ino q.pos (partB b pos q))).2)
  else wrS c ino pos b r (doS s (opWr ino q.pos (partB b pos q))).2
def fitsW (pos : Int) (n : Nat) : Prop:=0≤pos∧n≤4096∧pos≤1099511627776 - n
instance (pos : Int) (n : Nat) : Decidable (fitsW pos n):=by unfold fitsW; infer_instance
def zbgnZ (s : StS) (ino pos : Int) (b : List UInt8) : (Int × Int) × StS :=
 if (zsZ s ino).2 ≠ 0 then ((0,(zsZ s ino).2),s) else if ¬ fitsW pos b.length then ((0,5),s)
 else wrS (zsZ s ino).1.2 ino pos b (zbfhZ ⟨pos,b.length⟩ 8) s
theorem parts_in {pos : Int} {b : List UInt8} {q : Sp} (hf : fitsW pos b.length) (h : q ∈ zbfhZ ⟨pos,b.length⟩ 8) : pos≤q.pos∧0 < q.len∧q.len≤8∧q.pos + q.len≤pos + b.length:=by
 unfold zbfhZ at h;split at h
 ·exact cuts_in hf.1 h
 ·simp at h
theorem partB_len {b : List UInt8} {pos : Int} {q : Sp} (h : pos≤q.pos∧0 < q.len∧q.len≤8∧q.pos + q.len≤pos + b.length) : (partB b pos q).length=q.len.toNat:=by
 unfold partB;rw [List.length_take,List.length_drop]; omega
theorem wrS_w {c : List Ext} {ino pos : Int} {b : List UInt8} : ∀ {l : List Sp} {N : Nat} {s : StS},(∀ q ∈ l,pos≤q.pos∧0 < q.len∧q.len≤8∧q.pos + q.len≤pos + b.length)→SW N s→SW (N + 9 * l.length) (wrS c ino pos b l s).2
 | [],N,s,_,h => h
 | q :: r,N,s,hq,h => by
  have h1:=hq q (by simp);have hl:=partB_len h1;have hd:=doS_w (o:=opWr ino q.pos (partB b pos q)) h (opWr_b (by omega))
  have hwt : wt (opWr ino q.pos (partB b pos q))≤9:=by
   show 1 + (partB b pos q).length + (if (2 : Int)=4 then 4098 else 0)≤9
   rw [if_neg (by omega)]; omega
  unfold wrS;simp only [List.length_cons]
  split
  ·exact h.mono (by omega)
  ·split
   ·exact hd.mono (by omega)
   ·exact (wrS_w (λx hx=>hq x (by simp [hx])) hd).mono (by omega)
theorem parts_len {pos : Int} {b : List UInt8} (hf : fitsW pos b.length) : (zbfhZ ⟨pos,b.length⟩ 8).length≤b.length:=by
 unfold zbfhZ
 split
 ·have : ∀ (f : Nat) (p n : Int),(cutsS f p n 8).length≤f:=by
   intro f
   induction f with
   | zero => intro p n; simp [cutsS]
   | succ f ih =>
    intro p n;unfold cutsS
    split
    ·simp only [List.length_cons]; have:=ih (p + min n (8 - p % 8)) (n - min n (8 - p % 8)); omega
    ·simp
  have h2:=this (b.length : Int).toNat pos b.length;have e : ((b.length : Int)).toNat=b.length:=by omega
  simp only;omega
 ·simp
theorem writeS_w {N : Nat} {s : StS} (h : SW N s) (ino pos : Int) (b : List UInt8) : SW (N + 9 * b.length) (zbgnZ s ino pos b).2:=by
 unfold zbgnZ
 split
 ·exact h.mono (by omega)
 ·split
  ·exact h.mono (by omega)
  ·rename_i hf
   have hf:=Decidable.byContradiction hf;exact (wrS_w (λq hq=>parts_in hf hq) h).mono (by have:=parts_len hf; omega)
theorem Write_c {N : Nat} {s : StS} {os : Nat} {p v : AV} {H : AH} (h : StAt s os p H) (hw : SW N s) (ino pos : Int) {b : List UInt8} (hN : N + 9 * b.length < 900000) (hv : zaZ H 1 v=some (encB b,b.length)) (hvi : ∀ j ∈ idS v,j ≠ os∧j ∉ idS p) :
  ∃ r H',(r = .tup [I (zbgnZ s ino pos b).1.1,I (zbgnZ s ino pos b).1.2]∧∃ p',StAt (zbgnZ s ino pos b).2 os p' H'∧StF os p p' H H')∧BCall Tryz.prog 20 [.ptr os 0,I ino,I pos,v] H r H':=zbcbZ (by
 unfold zxpZ;obtain ⟨R,hR,r,H1,⟨rfl,g1⟩,hc⟩:=zwyZ h hw (by omega) ino;have hlen:=zesZ hw ino;refine bC_of hc ?_;unfold zbgnZ;generalize zsZ s ino=ct at *;have oR:=SV.oneA hR;have h1:=h.grew g1;have g2:=Grew.app H1 [some (.cells [I ct.1.1,R])];have h2:=h1.grew g2;have hv2:=g2.slice (g1.slice hv);have alv : alnS v=some (I b.length):=zhxZ hv;simp only [ziZ,gCS,gCZ,zbZ,nwC,zbpZ,stC' _ _ oR,zcaZ,zkuZ,zpZ]
 by_cases hc0 : ct.2=0
 ·simp only [hc0,ne_eq,not_true_eq_false,dFf,zmZ,if_false,alv,zbZ]
  refine zyZ (extent_Fits_p pos b.length (by omega)) ?_
  by_cases hf : fitsW pos b.length
  ·have hf' : 0≤pos∧b.length≤4096∧pos≤1099511627776 - b.length:=hf
   have e1 : abl [(I 0),(I 0)] [(0,1,I pos),(1,1,I (b.length : Int))]=some (.agg (encSp ⟨pos,b.length⟩)):=rfl;simp only [hf,hf',and_self,dTt,zduZ,Bool.not_true,zbZ,zpZ,zmZ,not_true_eq_false,if_false,alv,e1];obtain ⟨V,hV,hp⟩:=off_Parts_p ⟨pos,b.length⟩ (unit:=8) (by omega);refine zyZ hp ?_;simp only [hV.len,zbZ];have hin : ∀ q ∈ zbfhZ ⟨pos,b.length⟩ 8,pos≤q.pos∧0 < q.len∧q.len≤8∧q.pos + q.len≤pos + b.length:=λq hq=>parts_in hf hq
   have hpl:=parts_len hf;generalize zbfhZ ⟨pos,b.length⟩ 8=L at hV hin hpl;have c0 : (H1 ++ [some (AObj.cells [I ct.1.1,R])])[H1.length]? = some (some (.cells [I ct.1.1,R])):=top1;have f0 : StF os p p H (H1 ++ [some (AObj.cells [I ct.1.1,R])]):=.of_grew (g1.trans g2);have hosH : os < H.length:=by obtain ⟨a,b',c,d,pv,hx⟩:=h; exact hx.lt
   have hpH : ∀ j ∈ idS p,j < H.length:=by obtain ⟨a,b',c,d,pv,hx⟩:=h; exact idS_lt hx
   have hvH : ∀ j ∈ idS v,j < H.length:=λj q=>zrZ hv j q
   have hH1 : H.length≤H1.length:=g1.1;refine ztwZ (λm x0 x1 x2 x3 x10 x36 x37 x38 H'=>∃ (k : Nat) (s' : StS) (p' : AV),k + m=L.length∧x0 = .ptr os 0∧x1=I ino∧x2=I pos∧x3=v∧x10 = .ptr H1.length 0∧x36=V∧x37=I L.length∧x38=I k∧StAt s' os p' H'∧StF os p p' H H'∧SW (N + 9 * k) s'∧H'[H1.length]? = some (some (.cells [I ct.1.1,R]))∧H1.length ∉ idS p'∧wrS ct.1.2 ino pos b (L.drop k) s'=wrS ct.1.2 ino pos b L s) ?_ L.length ⟨0,s,p,by omega,rfl,rfl,rfl,rfl,rfl,rfl,rfl,rfl,h2,f0,hw,c0,λq=>by have:=hpH _ q; omega,rfl⟩;rintro m x0 x1 x2 x3 x10 x36 x37 x38 H2 R2 hR2 ⟨k,s',p',hk,rfl,rfl,rfl,rfl,rfl,rfl,rfl,rfl,hs',fs',hws',cc,hcp,heq⟩;rw [← heq];unfold zokZ;rcases Nat.lt_or_ge k L.length with hlt | hge
   ·have hx:=gEG hlt
    have hq:=hin L[k] (List.getElem_mem hlt);generalize L[k]=q at hx hq;obtain ⟨q1,q2,q3,q4⟩:=hq;have kI : (k : Int) < (L.length : Int):=by omega
    have hdrop : L.drop k=q :: L.drop (k + 1):=zmiZ hx;rw [hdrop];generalize hW : wrS ct.1.2 ino pos b (q :: L.drop (k + 1)) s'=W;have rdq : ztZ true 2 (encSp q ++ (L.drop (k + 1)).flatMap encSp) 0=some (.agg (encSp q)):=by simp [ztZ,encSp]
    have eA : (AV.agg (encSp q)) = .agg [I q.pos,I q.len]:=rfl;have n2 : anew H2 (.agg [(I 0),(I 0)])=some (.ptr H2.length 0,H2 ++ [some (.cells [I 0,I 0])]):=by simp
    have t2 : ast 2 (H2 ++ [some (.cells [I 0,I 0])]) (.ptr H2.length 0) (.agg [I q.pos,I q.len])=some (H2 ++ [some (.cells [I q.pos,I q.len])]):=by
     rw [zcoZ (n:=2) (xs:=[I q.pos,I q.len]) (cs:=[I 0,I 0]) rfl (by simp) rfl (by simp)];simp [zlaZ]
    have g3:=Grew.app H2 [some (.cells [I q.pos,I q.len])];have e2 : abI .sub (I q.pos) (I pos)=some (I (q.pos - pos)):=zfpZ (by omega) (by omega);have e3 : abI .quo (I q.pos) (I 8)=some (I (q.pos / 8)):=zbgjZ (by omega) (by omega) (by omega);simp only [zglZ,zbZ,zpZ,kI,dTt,zbcZ,hV.idx zbfuZ hx rfl,ald_ip,rdq,eA,n2,zbpZ,t2,zcaZ,zeZ,Nat.zero_add,zlZ top1,zdZ,gCS,gCZ,e2,zlZ (g3.cells cc),rd2,e3];refine zyZ (has_p hR (by omega) (q.pos / 8)) ?_;have hs3:=hs'.grew g3;have fs3 : StF os p p' H (H2 ++ [some (.cells [I q.pos,I q.len])]):=fs'.grew g3;have cc3:=g3.cells cc;have tq : (H2 ++ [some (AObj.cells [I q.pos,I q.len])])[H2.length]? = some (some (.cells [I q.pos,I q.len])):=top1;have hl3 : H2.length + 1=(H2 ++ [some (AObj.cells [I q.pos,I q.len])]).length:=by simp
    have hpid : ∀ j ∈ idS p',j < H2.length:=by obtain ⟨a,b',c,d,pv,hx⟩:=hs'; exact idS_lt hx
    have hos2 : os < H2.length:=by obtain ⟨a,b',c,d,pv,hx⟩:=hs'; exact hx.lt
    have hcl2 : H1.length < H2.length:=(gSI.1 cc).1;generalize (H2 ++ [some (AObj.cells [I q.pos,I q.len])])=H3 at hs3 fs3 cc3 tq hl3
    -- the deed
    have deed : ¬ (¬ hasL ct.1.2 (q.pos / 8)∧freeS s'=0)→bO (zhZ 0 (.ptr H2.length 0)) (λv25=>bO (ald false 1 H3 v25) λv26=>bO (zhZ 1 (.ptr H2.length 0)) λv27=>bO (ald false 1 H3 v27) λv28=>bO (abI .add (I (q.pos - pos)) v28) λv29=>bO (aslS 1 x3 (some (I (q.pos - pos))) (some v29) none) λv30=>
      bC (BCall Tryz.prog 68 [v30] H3) λv31 H32=>bO (abl [(I 0),(I 0),(I 0),(I 0),(B false),(.lit (.string ⟨#[]⟩)),(.lit (.string ⟨#[]⟩)),nilSl] [(0,1,(I 2)),(1,1,I ino),(2,1,v26),(7,1,v31)]) λv33=>
      bC (BCall Tryz.prog 63 [.ptr os 0,v33] H32) λv34 H35=>(ald false 1 H32 v25=some v26)∧bO (abI .neq v34 (I 0)) λv36=>bB v36 λt37=>bI t37
       (AV.tup [I (q.pos - pos),v34] = .tup [I W.1.1,I W.1.2] ∧
        ∃ p',StAt W.2 os p' H35∧StF os p p' H H35)
       (bO (abI .add (I k) (I 1)) λv38=>R2 [.ptr os 0,I ino,I pos,x3,.ptr H1.length 0,x36,I L.length,v38] H35)):=by
     intro hno;have e4 : abI .add (I (q.pos - pos)) (I q.len)=some (I (q.pos - pos + q.len)):=zbdZ (by omega) (by omega)
     have hv3 : zaZ H3 1 x3=some (encB b,b.length):=zcZ hv λj hj=>by
      have hne:=hvi j hj;exact fs3.same j (hvH j hj) hne.1 hne.2
     obtain ⟨r5,s1,s2,s3,-⟩:=zrvZ hv3 (lo:=some (I (q.pos - pos))) (hi:=some (I (q.pos - pos + q.len))) (l:=(q.pos - pos).toNat) (k:=(q.pos - pos + q.len).toNat) (by simp only [abnd]; rw [if_pos (by omega)]) (by simp only [abnd]; rw [if_pos (by omega)]) (by omega) (by omega);have hpl2:=partB_len (b:=b) (pos:=pos) (q:=q) ⟨q1,q2,q3,q4⟩
     have s2' : zaZ H3 1 r5=some (encB (partB b pos q),(partB b pos q).length):=by
      rw [s2,hpl2];unfold partB;rw [Nat.mul_one,Nat.mul_one,show (q.pos - pos + q.len).toNat - (q.pos - pos).toNat=q.len.toNat by omega];simp [encB,List.map_take,List.map_drop]
     obtain ⟨Rb,hRb,hcb⟩:=cloneB_z s2' (by omega);simp only [zeZ,Nat.zero_add,zbZ,zlZ tq,zdZ,gCS,gCZ,e4,s1];refine bC_of hcb ?_
     have e5 : abl [(I 0),(I 0),(I 0),(I 0),(B false),(.lit (.string ⟨#[]⟩)),(.lit (.string ⟨#[]⟩)),nilSl] [(0,1,(I 2)),(1,1,I ino),(2,1,I q.pos),(7,1,Rb)]=some (.agg (opA (opWr ino q.pos (partB b pos q)) Rb)):=by
      have:=SV.oneA hRb
      simp [abl,opA,opWr,zbsZ this];rfl
     simp only [e5,zbZ];obtain ⟨r6,H6,⟨rfl,p6,h6,f6⟩,hcall⟩:=do_c (o:=opWr ino q.pos (partB b pos q)) hs3 hws' (by omega) hRb (opWr_b (by omega));have hws6:=doS_w (o:=opWr ino q.pos (partB b pos q)) hws' (opWr_b (by omega));refine bC_of hcall ⟨by rw [zlZ tq]; rfl, ?_⟩;simp only [zkuZ,zbZ,zpZ]
     by_cases hd : (doS s' (opWr ino q.pos (partB b pos q))).1=0
     ·simp only [hd,ne_eq,not_true_eq_false,dFf,zmZ,zbdZ (a:=k) (b:=1) (by omega) (by omega),zbZ]
      have hwt : wt (opWr ino q.pos (partB b pos q))≤9:=by
       show 1 + (partB b pos q).length + (if (2 : Int)=4 then 4098 else 0)≤9
       rw [if_neg (by omega)]; omega
      refine hR2 (m - 1) _ _ _ _ _ _ _ _ _ (by omega) ⟨k + 1,_,p6,by omega,rfl,rfl,rfl,rfl,rfl,rfl,rfl,by simp,h6,fs3.trans f6,hws6.mono (by omega), ?_, ?_, ?_⟩
      ·rw [f6.same H1.length (by omega) (by omega) hcp]; exact cc3
      ·intro hh
       rcases f6.ids _ hh with hh | hh
       ·exact hcp hh
       ·omega
      ·rw [← heq,hdrop]
       conv => rhs; unfold wrS
       rw [if_neg hno,if_neg (by rw [hd]; simp)]
     ·have eW : W=((q.pos - pos,(doS s' (opWr ino q.pos (partB b pos q))).1),(doS s' (opWr ino q.pos (partB b pos q))).2):=by
       rw [← hW]; unfold wrS; rw [if_neg hno,if_pos hd]
      rw [eW];simp only [hd,ne_eq,not_false_eq_true,dTt,zbcZ];exact ⟨by trivial,p6,h6,fs3.trans f6⟩
    by_cases hh : hasL ct.1.2 (q.pos / 8)
    ·simp only [hh,dTt,zduZ,Bool.not_true,zbZ,zcrZ,show ((false == true)=false) from rfl,zfxZ,gC_false,zoZ,if_false,Bool.false_eq_true,zpZ,zmZ]
     exact deed (λx=>x.1 hh)
    ·simp only [hh,dFf,zduZ,Bool.not_false,zbZ,zcrZ,beq_self_eq_true,zbrZ,gC_true]
     refine bC_of (Free_c hs3 hws' (by omega)) ?_;simp only [zjaZ,zbZ,zoZ,if_true,zpZ]
     by_cases hfr : freeS s'=0
     ·have eW : W=((q.pos - pos,4),s'):=by
       rw [← hW]; unfold wrS; rw [if_pos ⟨hh,hfr⟩]
      rw [eW];simp only [hfr,dTt,zbcZ];exact ⟨by trivial,p',hs3,fs3⟩
     ·simp only [hfr,dFf,zmZ]
      exact deed (λx=>hfr x.2)
   ·have kI : ¬ (k : Int) < (L.length : Int):=by omega
    have hdrop : L.drop k=[]:=List.drop_of_length_le hge;rw [hdrop];unfold wrS;simp only [zglZ,zbZ,zpZ,kI,dFf,zmZ,alv];exact ⟨by trivial,p',hs',fs'⟩
  ·have hf' : ¬ (0≤pos∧b.length≤4096∧pos≤1099511627776 - b.length):=hf
   simp only [hf,hf',dFf,zduZ,Bool.not_false,zbZ,zpZ,zbcZ,not_false_eq_true,if_true];exact ⟨by trivial,p,h2,.of_grew (g1.trans g2)⟩
 ·simp only [hc0,ne_eq,not_false_eq_true,dTt,zbcZ,if_true]
  exact ⟨by trivial,p,h2,.of_grew (g1.trans g2)⟩)
def encZ (i : Int) : List AV:=[I i]
theorem encZ_len (i : Int) : (encZ i).length=1:=rfl
theorem noIdss_encZ (l : List Int) : zdcZ (l.flatMap encZ)=true:=zipZ λx _=>rfl
theorem rdh_Z (x : Int) (t : List AV) : ztZ false 1 (encZ x ++ t) 0=some (I x):=rfl
theorem idxZ_p {l : List Int} {v : AV} (hv : SV encZ 1 l v) (hl : l.length≤281474976710656) (no : Int) : ∃ j : Int,(0≤j ↔ no ∈ l)∧BPure Tryz.prog 165 [v,I no] (I j):=by
 have key : ∃ r X,(∃ j : Int,r=I j∧(0≤j ↔ no ∈ l))∧BCall Tryz.prog 165 [v,I no] [] r X:=zwuZ (by
  unfold zphZ;simp only [hv.len,zbZ];refine zqeZ (λn x0 x1 x7 x8 H'=>∃ k : Nat,k + n=l.length∧x0=v∧x1=I no∧x7=I l.length∧x8=I k∧∀ (m : Nat) y,m < k→l[m]? = some y→no ≠ y) ?_ l.length ⟨0,by omega,rfl,rfl,rfl,rfl,by omega⟩;rintro n x0 x1 x7 x8 H R hR ⟨k,hk,rfl,rfl,rfl,rfl,hb⟩;unfold zjdZ;rcases Nat.lt_or_ge k l.length with h | h
  ·have hx:=gEG h
   generalize l[k]=y at hx;have kI : (k : Int) < (l.length : Int):=by omega
   simp only [zglZ,zbZ,zpZ,kI,dTt,zbcZ,hv.idx encZ_len hx rfl,ald_ip,rdh_Z,zjaZ]
   by_cases c : no=y
   ·simp only [c,dTt,zbcZ]
    exact ⟨k,rfl,by simp only [Int.natCast_nonneg,true_iff]; exact List.mem_of_getElem? hx⟩
   ·simp only [c,dFf,zmZ,zbdZ (a:=k) (b:=1) (by omega) (by omega),zbZ]
    refine hR (n - 1) _ _ _ _ _ (by omega) ⟨k + 1,by omega,rfl,rfl,rfl,by simp, ?_⟩;intro m z hm hz
    by_cases e : m=k
    ·rw [e,hx] at hz; injection hz with hz; rw [← hz]; exact c
    ·exact hb m z (by omega) hz
  ·have kI : ¬ (k : Int) < (l.length : Int):=by omega
   simp only [zglZ,zbZ,zpZ,kI,dFf,zmZ];refine ⟨-1,rfl,by simp only [show ¬ (0 : Int)≤-1 by omega,false_iff]; intro hy; obtain ⟨m,hm⟩:=List.mem_iff_getElem?.1 hy; exact hb m no (by have:=(gSI.1 hm).1; omega) hm rfl⟩)
 obtain ⟨r,X,⟨j,rfl,hj⟩,hc⟩:=key;exact ⟨j,hj,BPure.val (by simp [zdcZ,noIds,hv.1]) rfl ⟨_,_,rfl,hc⟩⟩
theorem ContainsZ_p {l : List Int} {v : AV} (hv : SV encZ 1 l v) (hl : l.length≤281474976710656) (no : Int) : BPure Tryz.prog 111 [v,I no] (B (decide (no ∈ l))):=by
 obtain ⟨j,hj,hp⟩:=idxZ_p hv hl no;refine BPure.val (by simp [zdcZ,noIds,hv.1]) rfl (zsfZ ?_);unfold zlpZ;refine zyZ hp ?_;simp only [abI_geq,zbZ]
 congr 3; exact propext hj
def staysO (l : List Int) (o : OpM) : Prop:=o.kind=1∨o.kind=6∨o.kind=7∨o.ino ∈ l
instance (l : List Int) (o : OpM) : Decidable (staysO l o):=by unfold staysO; infer_instance
theorem stays_p {o : OpM} {bv : AV} (hb : SV encU 1 o.b bv) {l : List Int} {v : AV} (hv : SV encZ 1 l v) (hl : l.length≤281474976710656) : BPure Tryz.prog 59 [.agg (opA o bv),v] (B (decide (staysO l o))):=by
 have obv:=SV.oneA hb;have e1 : anew [] (.agg (opA o bv))=some (.ptr 0 0,[some (.cells (opA o bv))]):=by simp [opA,obv]
 have e0 : ([some (.cells (opA o bv))] : AH)[0]? = some (some (.cells (opA o bv))):=rfl;have i0 : (opA o bv)[0]? = some (I o.kind):=rfl;have i1 : (opA o bv)[1]? = some (I o.ino):=rfl;refine BPure.val (by simp [zdcZ,noIds,hv.1,hb.1,opA]) rfl (store_stays_ok ?_);unfold store_stays;simp only [e1,zbpZ,zeZ,Nat.zero_add,zbZ,zlZ e0,zdZ,i0,zjaZ,zpZ]
 have last : ∀ c : Prop,∀ _ : Decidable c,zxqZ v (.ptr 0 0) [some (.cells (opA o bv))] (λr H=>r=B (decide (o.ino ∈ l))):=by
  intro c _;rw [store_stays_J1_eq]; unfold zzuZ;simp only [zeZ,Nat.zero_add,zbZ,zlZ e0,zdZ,i1];exact zyZ (ContainsZ_p hv hl o.ino) rfl
 unfold staysO
 by_cases c1 : o.kind=1
 ·simp only [c1,dTt,zbcZ,true_or]
  rw [zpcZ]; unfold zmnZ;simp only [zpZ,zbcZ]
  try trivial
 ·simp only [c1,dFf,zmZ,false_or]
  by_cases c6 : o.kind=6
  ·simp only [c6,dTt,zbcZ,true_or]
   rw [zpcZ]; unfold zmnZ;simp only [zpZ,zbcZ]
   try trivial
  ·simp only [c6,dFf,zmZ,false_or]
   rw [zpcZ]; unfold zmnZ
   by_cases c7 : o.kind=7
   ·simp only [c7,dTt,zpZ,zbcZ,true_or]
    try trivial
   ·simp only [c7,dFf,zpZ,zmZ,false_or]
    exact last True inferInstance
def syncF (l : List Int) : List OpM→Img × List OpM→Img × List OpM
 | [],x => x
 | o :: r,x => if staysO l o then syncF l r (ziaZ x.1.1 x.1.2 o,x.2) else syncF l r (x.1,x.2 ++ [o])
def syncS (s : StS) (l : List Int) : Int × StS :=
 if (deedS s).1=true then (0,{ (deedS s).2 with kept:=(syncF l s.pend (s.kept,[])).1,pend:=(syncF l s.pend (s.kept,[])).2 }) else (8,(deedS s).2)
theorem syncF_w {l : List Int} {N : Nat} : ∀ {r : List OpM} {x : Img × List OpM},(∃ a,Few1 a x.1∧a + wts x.2 + wts r≤N)→(∃ a,Few1 a (syncF l r x).1∧a + wts (syncF l r x).2≤N)
 | [],x,⟨a,h1,h2⟩ => ⟨a,h1,by simp only [syncF]; omega⟩
 | o :: r,x,⟨a,h1,h2⟩ => by
  have e : wts (o :: r)=wt o + wts r:=by simp [wts]
  unfold syncF
  split
  ·exact syncF_w ⟨a + wt o,h1.step o,by simp only; omega⟩
  ·exact syncF_w ⟨a,h1,by simp only [wts_snoc]; omega⟩
theorem syncF_b {l : List Int} : ∀ {r : List OpM} {x : Img × List OpM},(∀ o ∈ x.2,OpB o)→(∀ o ∈ r,OpB o)→∀ o ∈ (syncF l r x).2,OpB o
 | [],x,h1,h2,o,ho => h1 o ho
 | q :: r,x,h1,h2,o,ho => by
  unfold syncF at ho;split at ho
  ·exact syncF_b (x:=(ziaZ x.1.1 x.1.2 q,x.2)) h1 (λz hz=>h2 z (by simp [hz])) o ho
  ·refine syncF_b (x:=(x.1,x.2 ++ [q])) ?_ (λz hz=>h2 z (by simp [hz])) o ho
   intro z hz;simp only [List.mem_append,List.mem_singleton] at hz;rcases hz with hz | rfl
   ·exact h1 z hz
   ·exact h2 _ (by simp)
theorem syncS_w {N : Nat} {s : StS} (h : SW N s) (l : List Int) : SW N (syncS s l).2:=by
 have hd:=deedS_w h;obtain ⟨e1,e2,e3,e4,e5⟩:=zkeZ s;unfold syncS
 split
 ·refine ⟨by simp only [e1]; exact h.now, ?_, ?_,hd.made,hd.cap,hd.armed⟩
  ·obtain ⟨a,h1,h2⟩:=h.kept
   exact syncF_w ⟨a,h1,by simp only [wts,List.map_nil,List.sum_nil]; unfold wts at h2; omega⟩
  ·exact syncF_b (x:=(s.kept,[])) (by simp) h.ob
 ·exact hd
theorem Sync_c {N : Nat} {s : StS} {os : Nat} {p v : AV} {H : AH} (h : StAt s os p H) (hw : SW N s) (hN : N≤900000) {l : List Int} (hv : zaZ H 1 v=some (l.flatMap encZ,l.length)) (hvi : ∀ j ∈ idS v,j ≠ os∧j ∉ idS p) (hl : l.length≤1000000) :
  ∃ r H',(r=I (syncS s l).1∧∃ p',StAt (syncS s l).2 os p' H'∧StF os p p' H H')∧BCall Tryz.prog 14 [.ptr os 0,v] H r H':=zbcwZ (by
 unfold zzjZ;obtain ⟨r,H1,⟨rfl,h1,f1⟩,hc⟩:=deed_c h hw.armed;refine bC_of hc ?_;obtain ⟨e1,e2,e3,e4,e5⟩:=zkeZ s;have hwd:=deedS_w hw;have hpl : (deedS s).2.pend.length≤N:=by rw [e3]; exact hw.plen
 have hob : ∀ o ∈ (deedS s).2.pend,OpB o:=by rw [e3]; exact hw.ob
 have hkw : ∃ a,Few1 a (deedS s).2.kept∧a + wts (deedS s).2.pend≤N:=by rw [e2,e3]; exact hw.kept
 unfold syncS;rw [← e2,← e3];simp only [zduZ,zbZ,zpZ];cases hd : (deedS s).1 with
 | false =>
  simp only [Bool.not_false,zbcZ,Bool.false_eq_true,if_false];exact ⟨by trivial,p,h1,f1⟩
 | true =>
  have hv1 : zaZ H1 1 v=some (l.flatMap encZ,l.length):=zcZ hv λj hj=>f1.same j (zrZ hv j hj) (hvi j hj).1 (hvi j hj).2
  clear e1 e2 e3 e4 e5 hc;generalize (deedS s).2=s1 at *;simp only [if_true];obtain ⟨a,b,c,d,pv,h1⟩:=h1;have hpn : pv.length=s1.pend.length:=by rw [← h1.pm,List.length_map]
  have alv : alnS p=some (I (s1.pend.length : Nat)):=by rw [← hpn]; exact zhxZ h1.ps
  simp only [Bool.not_true,zmZ,zkZ,zbZ,zeZ,Nat.zero_add,zlZ h1.obj,zdZ,gCS,gCZ,alv];have hos : os < H1.length:=h1.lt;have hH : H.length≤H1.length:=f1.len;generalize hres : syncF l s1.pend (s1.kept,[])=res;refine zwrZ (λm x0 x1 x5 x14 x15 x16 H'=>∃ (k : Nat) (ki : Img) (c' d' : AV) (lv : List OpV),k + m=s1.pend.length∧x0 = .ptr os 0∧x1=v∧x14=p∧x15=I s1.pend.length∧x16=I k∧StC { s1 with kept:=ki } os a b c' d' p pv H'∧StF os p p H1 H'∧syncF l (s1.pend.drop k) (ki,lv.map OpV.o)=res∧(∃ a,Few1 a ki∧a + wts (lv.map OpV.o) + wts (s1.pend.drop k)≤N)∧zaZ H' 8 x5=some (lv.flatMap encO,lv.length)∧zjsZ x5=true∧capOk x5 lv.length∧(∀ j ∈ idS x5,H1.length≤j)) ?_ s1.pend.length ⟨0,s1.kept,c,d,[],by omega,rfl,rfl,rfl,rfl,rfl,h1,.refl _ _ _,hres,by obtain ⟨x,y,z⟩:=hkw; exact ⟨x,y,by simp only [List.map_nil,List.drop_zero]; simp only [wts,List.map_nil,List.sum_nil] at *; omega⟩,rfl,rfl,by simp [capOk],by simp [idS]⟩;rintro m x0 x1 x5 x14 x15 x16 H2 R hR ⟨k,ki,c',d',lv,hk,rfl,rfl,rfl,rfl,rfl,h2,f2,hsy,hfew,ls,lo,lc,li⟩
  have lvN : lv.length≤N:=by
   obtain ⟨x,-,y⟩:=hfew
   have:=wts_len (l:=lv.map OpV.o)
   rw [List.length_map] at this;omega
  unfold zqbZ;rcases Nat.lt_or_ge k s1.pend.length with hlt | hge
  ·have hx:=gEG (show k < pv.length by omega)
   generalize pv[k]'(by omega)=x at hx;have hxo : s1.pend[k]? = some x.o:=by rw [← h1.pm,List.getElem?_map,hx]; rfl
   have hdrop : s1.pend.drop k=x.o :: s1.pend.drop (k + 1):=zmiZ hxo;have hxb:=hob x.o (List.mem_of_getElem? hxo);rw [hdrop] at hsy hfew;have ox:=SV.oneA x.h;have kI : (k : Int) < (s1.pend.length : Int):=by omega
   obtain ⟨pp,q1,q2⟩:=op_at h2.ps hx;have n8 : anew H2 (.agg [(I 0),(I 0),(I 0),(I 0),(B false),(.lit (.string ⟨#[]⟩)),(.lit (.string ⟨#[]⟩)),nilSl])=some (.ptr H2.length 0,H2 ++ [some (.cells [I 0,I 0,I 0,I 0,B false,S ⟨#[]⟩,S ⟨#[]⟩,nilSl])]):=by simp
   have t8 : ast 8 (H2 ++ [some (.cells [I 0,I 0,I 0,I 0,B false,S ⟨#[]⟩,S ⟨#[]⟩,nilSl])]) (.ptr H2.length 0) (.agg (opA x.o x.bv))=some (H2 ++ [some (.cells (opA x.o x.bv))]):=by
    rw [zcoZ (n:=8) (xs:=opA x.o x.bv) (cs:=[I 0,I 0,I 0,I 0,B false,S ⟨#[]⟩,S ⟨#[]⟩,nilSl]) (by simp [opA,ox]) (by simp) rfl (by simp)];simp [zlaZ,opA]
   have g3:=Grew.app H2 [some (.cells (opA x.o x.bv))];have rd8 : ztZ true 8 (opA x.o x.bv) 0=some (.agg (opA x.o x.bv)):=rfl;have h3:=h2.grew g3;have f3 : StF os x14 x14 H1 (H2 ++ [some (AObj.cells (opA x.o x.bv))]):=f2.grew g3;have hl2:=f2.len
   have hv3 : zaZ (H2 ++ [some (AObj.cells (opA x.o x.bv))]) 1 x1=some (l.flatMap encZ,l.length):=zcZ hv λj hj=>by
    have:=zrZ hv j hj
    rw [f3.same j (by omega) (hvi j hj).1 (hvi j hj).2,f1.same j this (hvi j hj).1 (hvi j hj).2]
   obtain ⟨Rv,hRv,fRv⟩:=FZ.sv hv3 (noIdss_encZ l);have ls3:=g3.slice ls;have sm : Sm ki.1 ki.2:=by obtain ⟨x,y,z⟩:=hfew; exact y.sm (by omega)
   simp only [zglZ,zbZ,zpZ,kI,dTt,zbcZ,q1,q2,n8,zbpZ,t8,zcaZ,zlZ top1,rd8];refine bP_of (PCall.lend (FZs.cons (FZ.same (by simp [noIds,opA,zdcZ,x.h.1])) (FZs.cons fRv FZs.nil)) rfl (stays_p x.h hRv (by omega))) ?_;have topx : (H2 ++ [some (AObj.cells (opA x.o x.bv))])[H2.length]? = some (some (.cells (opA x.o x.bv))):=top1;have hl3 : (H2 ++ [some (AObj.cells (opA x.o x.bv))]).length=H2.length + 1:=by simp
   generalize (H2 ++ [some (AObj.cells (opA x.o x.bv))])=H3 at *;simp only [zpZ]
   by_cases hst : staysO l x.o
   ·obtain ⟨RA,hRA,hpA⟩:=Apply_p (o:=x.o) (bv:=x.bv) h3.kept sm x.h (by have:=hxb.1; omega) (by have:=hxb.2.1; omega) (by have:=hxb.2.2; omega)
    obtain ⟨a',b',rfl,oa,ob⟩:=hRA.agg2;simp only [hst,dTt,zbcZ,zkZ,zbZ,zeZ,Nat.zero_add,zlZ h3.obj,(rd9 _ _ _ _ _ _ _ _ _).2,zlZ topx,rd8];refine bP_of hpA ?_;obtain ⟨h4,f4⟩:=h3.set (s':={ s1 with kept:=ziaZ ki.1 ki.2 x.o }) h3.now hRA rfl;simp only [zkZ,zbZ,zeZ,Nat.zero_add,(st9 h3.obj oa ob).2,zcaZ];rw [znkZ]; unfold zhvZ;simp only [zbdZ (a:=k) (b:=1) (by omega) (by omega),zbZ];refine hR (m - 1) _ _ _ _ _ _ _ (by omega) ⟨k + 1,_,a',b',lv,by omega,rfl,rfl,rfl,rfl,by simp,h4,f3.trans f4, ?_, ?_, ?_,lo,lc,li⟩
    ·rw [← hsy]; conv => rhs; unfold syncF
     rw [if_pos hst]
    ·obtain ⟨y,z,w⟩:=hfew
     have e : wts (x.o :: s1.pend.drop (k + 1))=wt x.o + wts (s1.pend.drop (k + 1)):=by simp [wts]
     exact ⟨y + wt x.o,z.step x.o,by omega⟩
    ·exact zcZ ls3 λj hj=>by
      have:=li j hj
      exact f4.same j (by have:=zrZ ls3 j hj; omega) (by omega) (λq=>by have:=idS_lt h1 j q; omega)
   ·have eA : absl H3 8 1 (zrow [(I 0),(I 0),(I 0),(I 0),(B false),(.lit (.string ⟨#[]⟩)),(.lit (.string ⟨#[]⟩)),nilSl] 1) [(0,8,.agg (opA x.o x.bv))]=some (.sl H3.length 0 1 8 (.ex 1),H3 ++ [some (.cells (encO x))]):=by
     simp [absl,absf,zrow,encO,opA,zbcjZ,ox,zlaZ]
    have g4:=Grew.app H3 [some (.cells (encO x))];have x1' : zdeZ (H3 ++ [some (AObj.cells (encO x))]) 8 (.sl H3.length 0 1 8 (.ex 1))=some (encO x,1):=znZ (by simp [zaZ,encO,opA]);obtain ⟨r,H5,a1,a2,a3,a4,a5,a6⟩:=zjmZ (bytes:=96) (g4.slice ls3) lo x1' (by omega);have a7:=aap_cap (g4.slice ls3) lo x1' lc a1;simp only [hst,dFf,zmZ,zlZ topx,rd8,zbZ,eA,zbpZ,a1];rw [znkZ]; unfold zhvZ;simp only [zbdZ (a:=k) (b:=1) (by omega) (by omega),zbZ];have h4:=h3.grew g4;have f4:=f3.grew g4;have lt4 : ∀ j,j < H1.length→j ∉ idS x5:=λj hj q=>by have:=li j q; omega
    have len4 : (H3 ++ [some (AObj.cells (encO x))]).length=H3.length + 1:=by simp
    have k5 : ∀ j,j < H1.length→H5[j]? = (H3 ++ [some (AObj.cells (encO x))])[j]?:=λj hj=>a5 j (by omega) (lt4 j hj)
    refine hR (m - 1) _ _ _ _ _ _ _ (by omega) ⟨k + 1,ki,c',d',lv ++ [x],by omega,rfl,rfl,rfl,rfl,by simp, ?_, ?_, ?_, ?_, ?_,a2,by simpa using a7, ?_⟩
    ·exact ⟨by rw [k5 os hos]; exact h4.obj,h4.now,h4.kept,h4.pm,zcZ h4.ps λj hj=>k5 j (idS_lt h1 j hj),h4.po,h4.pi,h4.pc⟩
    ·exact ⟨by omega,λj hj hne hjp=>by rw [k5 j hj]; exact f4.same j hj hne hjp,λ_ q=>.inl q⟩
    ·rw [← hsy]; conv => rhs; unfold syncF
     rw [if_neg hst];simp
    ·obtain ⟨y,z,w⟩:=hfew
     have e : wts (x.o :: s1.pend.drop (k + 1))=wt x.o + wts (s1.pend.drop (k + 1)):=by simp [wts]
     exact ⟨y,z,by rw [List.map_append]; simp only [List.map_cons,List.map_nil,wts_snoc]; omega⟩
    ·simpa using a3
    ·intro j hj
     rcases a6 j hj with q | q
     ·exact li j q
     ·omega
  ·have kI : ¬ (k : Int) < (s1.pend.length : Int):=by omega
   have hdrop : s1.pend.drop k=[]:=List.drop_of_length_le hge;rw [hdrop] at hsy hfew;unfold syncF at hsy;rw [← hsy];have e7 : ast 1 H2 (.ptr os 5) x5=some (H2.set os (some (.cells [I s1.cap,a,b,c',d',x5,I s1.made,I s1.armed,B s1.off]))):=fld h2.obj (by simp) (zbiZ lo);have hnx : os ∉ idS x5:=λq=>by have:=li os q; omega
   simp only [zglZ,zbZ,zpZ,kI,dFf,zmZ,zkZ,zeZ,Nat.zero_add,e7,zcaZ];have hl2:=f2.len;refine ⟨by trivial,x5,⟨a,b,c',d',lv,⟨gSS h2.lt,h2.now,h2.kept,rfl,zcZ ls λj hj=>gSN (λe=>hnx (by rw [e]; exact hj)),lo,hnx,lc⟩⟩, ?_⟩;refine ⟨by rw [List.length_set]; omega,λj hj hne hjp=>?_,λj hj=>.inr (by have:=li j hj; omega)⟩;rw [gSN (Ne.symm hne),f2.same j (by omega) hne hjp,f1.same j hj hne hjp])
def bitAt (bits : List Bool) (i : Nat) : Bool:=bits[i]?.getD false
def keepF (bits : List Bool) : Nat→List OpM→Img→Img
 | _,[],x => x
 | i,o :: r,x => keepF bits (i + 1) r (if bitAt bits i=true then ziaZ x.1 x.2 o else x)
def restS (s : StS) (bits : List Bool) : StS :=
 { s with kept:=keepF bits 0 s.pend s.kept,now:=keepF bits 0 s.pend s.kept,pend:=[],off:=false,armed:=-1 }
theorem keepF_w {bits : List Bool} {N : Nat} : ∀ {r : List OpM} {i : Nat} {x : Img},(∃ a,Few1 a x∧a + wts r≤N)→Few1 N (keepF bits i r x)
 | [],i,x,⟨a,h1,h2⟩ => h1.mono (by omega)
 | o :: r,i,x,⟨a,h1,h2⟩ => by
  have e : wts (o :: r)=wt o + wts r:=by simp [wts]
  unfold keepF
  split
  ·exact keepF_w ⟨a + wt o,h1.step o,by omega⟩
  ·exact keepF_w ⟨a,h1,by omega⟩
theorem restS_w {N : Nat} {s : StS} (h : SW N s) (bits : List Bool) : SW N (restS s bits):=by
 have hk:=keepF_w (bits:=bits) (i:=0) h.kept;exact ⟨hk,⟨N,hk,by simp [restS,wts]⟩,by simp [restS],h.made,h.cap,by simp [restS]⟩
def encT (b : Bool) : List AV:=[B b]
theorem encT_len (b : Bool) : (encT b).length=1:=rfl
theorem one_at {α : Type} {enc : α→List AV} {f : α→AV} (he : ∀ x,enc x=[f x]) {H : AH} {w : AV} {l : List α} {k : Nat} {x : α} (hw : zaZ H 1 w=some (l.flatMap enc,l.length)) (hx : l[k]? = some x) : ∃ p,aixS 1 w (I k)=some p∧ald false 1 H p=some (f x):=by
 have hk:=(gSI.1 hx).1;obtain ⟨p,c,h1,h2,h3,h4⟩:=aixS_spec hw (i:=(k : Int)) rfl hk;have el : ∀ x,(enc x).length=1:=λx=>by rw [he]; rfl
 have hc : c.take 1=[f x]:=by
  rw [h3,zlzZ el hx,List.take_append_of_le_length (by rw [el]; exact Nat.le_refl 1),List.take_of_length_le (by rw [el]; exact Nat.le_refl 1),he]
 refine ⟨p,h1, ?_⟩;rw [ald_at h2 (by omega) h4];cases c with
 | nil => simp at hc
 | cons y t => simp at hc; rw [hc]; rfl
theorem Restart_c {N : Nat} {s : StS} {os : Nat} {p v : AV} {H : AH} (h : StAt s os p H) (hw : SW N s) (hN : N≤900000) {l : List Bool} (hv : zaZ H 1 v=some (l.flatMap encT,l.length)) (hvi : ∀ j ∈ idS v,j ≠ os∧j ∉ idS p) (hl : l.length≤1000000) :
  ∃ r H',(r = .tup []∧StAt (restS s l) os nilSl H'∧StF os p nilSl H H')∧BCall Tryz.prog 38 [.ptr os 0,v] H r H':=zyvZ (by
 unfold zsyZ;obtain ⟨a,b,c,d,pv,h1⟩:=h;have hpl:=hw.plen;have hob:=hw.ob;have hpn : pv.length=s.pend.length:=by rw [← h1.pm,List.length_map]
 have alv : alnS p=some (I (s.pend.length : Nat)):=by rw [← hpn]; exact zhxZ h1.ps
 simp only [zkZ,zbZ,zeZ,Nat.zero_add,zlZ h1.obj,zdZ,gCS,gCZ,alv];unfold restS;generalize hres : keepF l 0 s.pend s.kept=res;have hos : os < H.length:=h1.lt;refine zsbZ (λm x0 x1 x9 x10 x11 H'=>∃ (k : Nat) (ki : Img) (c' d' : AV),k + m=s.pend.length∧x0 = .ptr os 0∧x1=v∧p=x9∧x10=I s.pend.length∧x11=I k∧StC { s with kept:=ki } os a b c' d' p pv H'∧StF os p p H H'∧keepF l k (s.pend.drop k) ki=res∧(∃ a,Few1 a ki∧a + wts (s.pend.drop k)≤N)) ?_ s.pend.length ⟨0,s.kept,c,d,by omega,rfl,rfl,rfl,rfl,rfl,h1,.refl _ _ _,hres,by simp only [List.drop_zero]; exact hw.kept⟩;rintro m x0 x1 x9 x10 x11 H2 R hR ⟨k,ki,c',d',hk,rfl,rfl,ep,rfl,rfl,h2,f2,hsy,hfew⟩;subst ep;unfold zluZ;rcases Nat.lt_or_ge k s.pend.length with hlt | hge
 ·have hx:=gEG (show k < pv.length by omega)
  generalize pv[k]'(by omega)=x at hx;have hxo : s.pend[k]? = some x.o:=by rw [← h1.pm,List.getElem?_map,hx]; rfl
  have hdrop : s.pend.drop k=x.o :: s.pend.drop (k + 1):=zmiZ hxo;have hxb:=hob x.o (List.mem_of_getElem? hxo);rw [hdrop] at hsy hfew;have ox:=SV.oneA x.h;have kI : (k : Int) < (s.pend.length : Int):=by omega
  obtain ⟨pp,q1,q2⟩:=op_at h2.ps hx;have n8 : anew H2 (.agg [(I 0),(I 0),(I 0),(I 0),(B false),(.lit (.string ⟨#[]⟩)),(.lit (.string ⟨#[]⟩)),nilSl])=some (.ptr H2.length 0,H2 ++ [some (.cells [I 0,I 0,I 0,I 0,B false,S ⟨#[]⟩,S ⟨#[]⟩,nilSl])]):=by simp
  have t8 : ast 8 (H2 ++ [some (.cells [I 0,I 0,I 0,I 0,B false,S ⟨#[]⟩,S ⟨#[]⟩,nilSl])]) (.ptr H2.length 0) (.agg (opA x.o x.bv))=some (H2 ++ [some (.cells (opA x.o x.bv))]):=by
   rw [zcoZ (n:=8) (xs:=opA x.o x.bv) (cs:=[I 0,I 0,I 0,I 0,B false,S ⟨#[]⟩,S ⟨#[]⟩,nilSl]) (by simp [opA,ox]) (by simp) rfl (by simp)];simp [zlaZ,opA]
  have g3:=Grew.app H2 [some (.cells (opA x.o x.bv))];have rd8 : ztZ true 8 (opA x.o x.bv) 0=some (.agg (opA x.o x.bv)):=rfl;have h3:=h2.grew g3;have f3 : StF os p p H (H2 ++ [some (AObj.cells (opA x.o x.bv))]):=f2.grew g3;have hv3 : zaZ (H2 ++ [some (AObj.cells (opA x.o x.bv))]) 1 x1=some (l.flatMap encT,l.length):=zcZ hv λj hj=>f3.same j (zrZ hv j hj) (hvi j hj).1 (hvi j hj).2
  have alb : alnS x1=some (I (l.length : Nat)):=zhxZ hv;have sm : Sm ki.1 ki.2:=by obtain ⟨x,y,z⟩:=hfew; exact y.sm (by omega)
  have topx : (H2 ++ [some (AObj.cells (opA x.o x.bv))])[H2.length]? = some (some (.cells (opA x.o x.bv))):=top1;simp only [zglZ,zbZ,zpZ,kI,dTt,zbcZ,q1,q2,n8,zbpZ,t8,zcaZ,alb];generalize (H2 ++ [some (AObj.cells (opA x.o x.bv))])=H3 at *;have yes : bitAt l k=true→bO (zgZ (.ptr os 0)) λv19=>bO (zhZ 3 v19) λv20=>bO (ald true 2 H3 v20) λv21=>bO (ald true 8 H3 (.ptr H2.length 0)) λv22=>
    bP (BPure Tryz.prog 60 [v21,v22]) λv23=>bO (zgZ (.ptr os 0)) λv24=>bO (zhZ 3 v24) λv25=>bS (ast 2 H3 v25 v23) λH26=>
    zdvZ R (.ptr os 0) x1 p (I s.pend.length) (I k) H26 (λr H'=>r = .tup []∧StAt { s with kept:=res,now:=res,pend:=[],off:=false,armed:=-1 } os nilSl H'∧StF os p nilSl H H'):=by
   intro hst;obtain ⟨RA,hRA,hpA⟩:=Apply_p (o:=x.o) (bv:=x.bv) h3.kept sm x.h (by have:=hxb.1; omega) (by have:=hxb.2.1; omega) (by have:=hxb.2.2; omega);obtain ⟨a',b',rfl,oa,ob⟩:=hRA.agg2;simp only [zkZ,zbZ,zeZ,Nat.zero_add,zlZ h3.obj,(rd9 _ _ _ _ _ _ _ _ _).2,zlZ topx,rd8];refine bP_of hpA ?_;obtain ⟨h4,f4⟩:=h3.set (s':={ s with kept:=ziaZ ki.1 ki.2 x.o }) h3.now hRA rfl;simp only [zkZ,zbZ,zeZ,Nat.zero_add,(st9 h3.obj oa ob).2,zcaZ];rw [zkqZ]; unfold zgnZ;simp only [zbdZ (a:=k) (b:=1) (by omega) (by omega),zbZ];refine hR (m - 1) _ _ _ _ _ _ (by omega) ⟨k + 1,_,a',b',by omega,rfl,rfl,rfl,rfl,by simp,h4,f3.trans f4, ?_, ?_⟩
   ·rw [← hsy]; conv => rhs; unfold keepF
    rw [if_pos hst]
   ·obtain ⟨y,z,w⟩:=hfew
    have e : wts (x.o :: s.pend.drop (k + 1))=wt x.o + wts (s.pend.drop (k + 1)):=by simp [wts]
    exact ⟨y + wt x.o,z.step x.o,by omega⟩
  have no : ¬ bitAt l k=true→zdvZ R (.ptr os 0) x1 p (I s.pend.length) (I k) H3 (λr H'=>r = .tup []∧StAt { s with kept:=res,now:=res,pend:=[],off:=false,armed:=-1 } os nilSl H'∧StF os p nilSl H H'):=by
   intro hst;rw [zkqZ]; unfold zgnZ;simp only [zbdZ (a:=k) (b:=1) (by omega) (by omega),zbZ];refine hR (m - 1) _ _ _ _ _ _ (by omega) ⟨k + 1,ki,c',d',by omega,rfl,rfl,rfl,rfl,by simp,h3,f3, ?_, ?_⟩
   ·rw [← hsy]; conv => rhs; unfold keepF
    rw [if_neg hst]
   ·obtain ⟨y,z,w⟩:=hfew
    have e : wts (x.o :: s.pend.drop (k + 1))=wt x.o + wts (s.pend.drop (k + 1)):=by simp [wts]
    exact ⟨y,z,by omega⟩
  rcases Nat.lt_or_ge k l.length with hkl | hkl
  ·have hb:=gEG hkl
   generalize l[k]=bt at hb;have hbt : bitAt l k=bt:=by unfold bitAt; rw [hb]; rfl
   obtain ⟨pb,r1,r2⟩:=one_at (f:=B) (λ_=>rfl) hv3 hb;have kl : (k : Int) < (l.length : Int):=by omega
   simp only [kl,dTt,zcrZ,beq_self_eq_true,zbrZ,zbZ,r1,r2,zoZ,if_true,zpZ];cases bt with
   | true => simp only [zbcZ]; exact yes hbt
   | false => simp only [zmZ]; exact no (by rw [hbt]; simp)
  ·have hbt : bitAt l k=false:=by unfold bitAt; rw [List.getElem?_eq_none hkl]; rfl
   have kl : ¬ (k : Int) < (l.length : Int):=by omega
   simp only [kl,dFf,zcrZ,show ((false == true)=false) from rfl,zfxZ,zbZ,zoZ,if_false,Bool.false_eq_true,zpZ,zmZ];exact no (by rw [hbt]; simp)
 ·have kI : ¬ (k : Int) < (s.pend.length : Int):=by omega
  have hdrop : s.pend.drop k=[]:=List.drop_of_length_le hge;rw [hdrop] at hsy hfew;unfold keepF at hsy;subst hsy;have sm : Sm ki.1 ki.2:=by obtain ⟨x,y,z⟩:=hfew; exact y.sm (by omega)
  obtain ⟨RC,hRC,hpC⟩:=Copy_p h2.kept sm;obtain ⟨a',b',rfl,oa,ob⟩:=hRC.agg2;have l2:=h2.lt;simp only [zglZ,zbZ,zpZ,kI,dFf,zmZ,zkZ,zeZ,Nat.zero_add,zlZ h2.obj,(rd9 _ _ _ _ _ _ _ _ _).2];refine zyZ hpC ?_;have s1:=(st9 h2.obj oa ob).1;have c1 : (H2.set os (some (AObj.cells [I s.cap,a',b',c',d',p,I s.made,I s.armed,B s.off])))[os]? = some (some (.cells [I s.cap,a',b',c',d',p,I s.made,I s.armed,B s.off])):=gSS l2;have s2:=fld c1 (k:=5) (x:=nilSl) (by simp) rfl;have c2 : (H2.set os (some (AObj.cells [I s.cap,a',b',c',d',nilSl,I s.made,I s.armed,B s.off])))[os]? = some (some (.cells [I s.cap,a',b',c',d',nilSl,I s.made,I s.armed,B s.off])):=gSS l2;have s3:=fld c2 (k:=8) (x:=B false) (by simp) rfl;have c3 : (H2.set os (some (AObj.cells [I s.cap,a',b',c',d',nilSl,I s.made,I s.armed,B false])))[os]? = some (some (.cells [I s.cap,a',b',c',d',nilSl,I s.made,I s.armed,B false])):=gSS l2;have s4:=fld c3 (k:=7) (x:=I (-1)) (by simp) rfl;simp only [List.set_set,List.set_cons_succ,List.set_cons_zero] at s2 s3 s4;simp only [zkZ,zbZ,zeZ,Nat.zero_add,s1,zcaZ,s2,s3,s4];refine ⟨by trivial,⟨a',b',c',d',[],⟨gSS l2,hRC,h2.kept,rfl,rfl,rfl,by simp [idS],by simp [capOk]⟩⟩, ?_⟩;refine ⟨by rw [List.length_set]; exact f2.len,λj hj hne hjp=>?_,λj hj=>by simp [idS] at hj⟩;rw [gSN (Ne.symm hne),f2.same j hj hne hjp])
theorem StAt.os_lt {s : StS} {os : Nat} {p : AV} {H : AH} (h : StAt s os p H) : os < H.length:=by obtain ⟨a,b,c,d,pv,h⟩:=h; exact h.lt
theorem StAt.p_lt {s : StS} {os : Nat} {p : AV} {H : AH} (h : StAt s os p H) : ∀ j ∈ idS p,j < H.length:=by obtain ⟨a,b,c,d,pv,h⟩:=h; exact idS_lt h
theorem storeRuns_ran : isTrue (run Tryz.prog cmpExt (inL []) (inL []) 100000 100 11 [] [])=true:=by kernel_rfl
theorem zxiZ : BPure Tryz.prog 11 [] (B true):=.of_true (run_true cmpExt_ok storeRuns_ran)
theorem StAt.keepH {s : StS} {os : Nat} {p : AV} {H H' : AH} (h : StAt s os p H) (k1 : H'[os]? = H[os]?) (k2 : ∀ i ∈ idS p,H'[i]? = H[i]?) : StAt s os p H':=by
 obtain ⟨a,b,c,d,pv,h⟩:=h;exact ⟨a,b,c,d,pv,k1.trans h.obj,h.now,h.kept,h.pm,zcZ h.ps k2,h.po,h.pi,h.pc⟩
structure Duo (s t : StS) (os od : Nat) (p q : AV) (H : AH) : Prop where
 P : StAt s os p H
 D : DsAt t od q H
 ne : os ≠ od
 pd : od ∉ idS p
 dp : os ∉ idS q
 pq : ∀ i ∈ idS p,i ∉ idS q
theorem Duo.stepP {s s' t : StS} {os od : Nat} {p p' q : AV} {H H' : AH} (h : Duo s t os od p q H) (k : StAt s' os p' H') (f : StF os p p' H H') : Duo s' t os od p' q H':=by
 have l1:=h.D.os_lt;have l2:=h.D.p_lt;exact ⟨k,h.D.keep (f.same od l1 (Ne.symm h.ne) h.pd) λi hi=>f.same i (l2 i hi) (λe=>h.dp (e ▸ hi)) (λz=>h.pq i z hi),h.ne,λz=>(f.ids od z).elim h.pd (λz=>by omega),h.dp,λi hi z=>(f.ids i hi).elim (λy=>h.pq i y z) (λy=>by have:=l2 i z; omega)⟩
theorem Duo.stepD {s t t' : StS} {os od : Nat} {p q q' : AV} {H H' : AH} (h : Duo s t os od p q H) (k : DsAt t' od q' H') (f : StF od q q' H H') : Duo s t' os od p q' H':=by
 obtain ⟨a,b,c,d,pv,hc⟩:=h.P;have l1:=hc.lt;have l2:=idS_lt hc;exact ⟨h.P.keepH (f.same os l1 h.ne h.dp) λi hi=>f.same i (l2 i hi) (λe=>h.pd (e ▸ hi)) (λz=>h.pq i hi z),k,h.ne,h.pd,λz=>(f.ids os z).elim h.dp (λz=>by omega),λi hi z=>(f.ids i z).elim (λy=>h.pq i hi y) (λy=>by have:=l2 i hi; omega)⟩
theorem Duo.grew {s t : StS} {os od : Nat} {p q : AV} {H H' : AH} (h : Duo s t os od p q H) (g : Grew H H') : Duo s t os od p q H':=⟨h.P.grew g,h.D.grew g,h.ne,h.pd,h.dp,h.pq⟩
theorem duo_new {room : Int} {H H1 H2 : AH} {p : AV} (h1 : StAt (newS room) H.length p H1) (l1 : H1.length=H.length + 1) (hid : idS p=[]) (h2 : DsAt (newS room) H1.length nilSl H2) (g : Grew H1 H2) : Duo (newS room) (newS room) H.length H1.length p nilSl H2 :=
 ⟨h1.grew g,h2,by omega,by rw [hid]; simp,by simp [idS],by rw [hid]; simp⟩
theorem Size_c {N : Nat} {s : StS} {os : Nat} {p : AV} {H : AH} (h : StAt s os p H) (hw : SW N s) (hN : N≤900000) (ino : Int) : ∃ r H',(r = .tup [I (zsZ s ino).1.1,I (zsZ s ino).2]∧Grew H H')∧BCall Tryz.prog 22 [.ptr os 0,I ino] H r H':=zbdbZ (by
 unfold zbaaZ;obtain ⟨R,hR,r,H1,⟨rfl,g1⟩,hc⟩:=zwyZ h hw hN ino;have oR:=SV.oneA hR;refine bC_of hc ?_;have g2:=Grew.app H1 [some (AObj.cells [I (zsZ s ino).1.1,R])];simp only [ziZ,gCS,gCZ,zbZ,nwC,zbpZ,stC' _ _ oR,zcaZ,zeZ,Nat.zero_add,zlZ top1,zdZ];exact ⟨by trivial,g1.trans g2⟩)
end Go.Proofs.YtlhiaihmkjlaaaaGreat.Av
end
