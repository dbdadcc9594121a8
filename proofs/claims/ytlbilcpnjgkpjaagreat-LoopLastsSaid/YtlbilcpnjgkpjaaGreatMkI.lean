/- Texts of this proof, one behind the other, packed into one file by a program of this session. No condition. -/
import Derived.Test.YtlbilcpnjgkpjaaGreatMkH
set_option linter.unusedVariables false
set_option linter.unusedSimpArgs false
set_option maxRecDepth 100000
section
namespace Go.Proofs.YtlbilcpnjgkpjaaGreat.Av
open Go Go.RowKit
structure RefP (n0 n1 : Nat) (H : AH) (o : Nat) (D : Dev) (gone : List Int) (c : Int) (a b s e gv : AV) : Prop where
 obj : H[o]? = some (some (.cells [a,b,s,e,gv,I c]))
 dev : DevV D a b s e
 gone : zaZ H 1 gv=some (gone.flatMap encI,gone.length)
 own : ownedS gv=true
 og : o ∉ idS gv
 low : n0≤o∧∀ i ∈ idS gv,n0≤i
 high : o < n1∧∀ i ∈ idS gv,i < n1
 top : n1≤H.length
theorem RefP.keep {a b c e : Nat} {H H' : AH} {o : Nat} {D : Dev} {g : List Int} {cc : Int} {x1 x2 x3 x4 gv : AV} (h : RefP a b H o D g cc x1 x2 x3 x4 gv) (k : Keep c e H H') (hd : b≤c∨e≤a) : RefP a b H' o D g cc x1 x2 x3 x4 gv:=by
 have hin : ∀ i,a≤i→i < b→H'[i]? = H[i]?:=fun i h1 h2 => k.2 i (by have:=h.top; omega) (by omega)
 exact ⟨(hin o h.low.1 h.high.1).trans h.obj,h.dev,zbZ h.gone fun i hi => hin i (h.low.2 i hi) (h.high.2 i hi),h.own,h.og,h.low,h.high,Nat.le_trans h.top k.1⟩
theorem zrow_ints (m : Nat) : zrow [(.lit (.int .i64 0))] m=(List.replicate m (0 : Int)).flatMap encI:=by
 unfold zrow
 induction m with
 | zero => rfl
 | succ m ih => rw [List.replicate_succ,List.replicate_succ,List.flatten_cons,List.flatMap_cons,ih]; rfl
def RNewK (H : AH) (d : Dev) (r : AV) (H' : AH) : Prop:=∃ o n1 a b s e gv,r = .ptr o 0∧RefP H.length n1 H' o (Eff d) (List.replicate (nsec (Eff d)).toNat 0) 0 a b s e gv∧Grew H H'
theorem ref_NewDisk_c {d : Dev} {a b c e : AV} (h : DevV d a b c e) (h1 : d.bad.length≤1000000) (h2 : d.soft.length≤1000000) (h3 : d.data.length≤1000000) (H : AH) :
  ∃ r H',RNewK H d r H'∧BCall Tryz.prog 19 [.agg [a,b,c,e]] H r H':=zuwZ (by
 unfold zlbZ
 simp [oneA_sv h.data,oneA_sv h.bad,oneA_sv h.soft,oneA_sv h.shorts,rdCells]
 refine bP_pure (ref_MayDevice_p h (by omega) (by omega)) ?_
 have main : ∀ (D : Dev) (a b c e : AV) (H1 : AH),D=Eff d→DevV D a b c e→D.data.length≤1000000→H1.length=H.length + 1→(∀ i,i < H.length→H1[i]? = H[i]?)→H1[H.length]? = some (some (.cells [a,b,c,e]))→zenZ (.ptr H.length 0) H1 (RNewK H d):=by
  intro D a b c e H1 hD hv b3 hlen hold hp
  rw [zroZ]
  unfold zkpZ
  have hn : nsec D=((nsec D).toNat : Int):=by unfold nsec; omega
  have hnb : nsec D≤1000000:=by unfold nsec; omega
  have hn0 : 0≤nsec D:=by unfold nsec; omega
  have e1 : ((D.data.length : Int) + 8 - 1) / 8=nsec D:=rfl
  have hp' : (H1 ++ [some (AObj.cells (zrow [(.lit (.int .i64 0))] (nsec D).toNat))])[H.length]? = some (some (.cells [a,b,c,e])):=by
   rw [List.getElem?_append_left (by omega)]; exact hp
  have g0:=Grew.app H1 [some (AObj.cells (zrow [(.lit (.int .i64 0))] (nsec D).toNat))]
  simp [hp,rdCells,hv.data.len,abI_add (a:=D.data.length) (b:=8) (by omega) (by omega),abI_sub (a:=(D.data.length : Int) + 8) (b:=1) (by omega) (by omega),abI_quo (a:=(D.data.length : Int) + 8 - 1) (b:=8) (by omega) (by omega) (by omega),e1,amk,hn0,show 8 * nsec D≤281474976710656 by omega,show nsec D≤9223372036854775807 by omega,oneA_sv hv.data,oneA_sv hv.bad,oneA_sv hv.soft,oneA_sv hv.shorts]
  rw [List.getElem?_append_left (by omega),hp]
  simp
  refine ⟨H.length + 2,H.length + 3,a,b,c,e,.sl (H.length + 1) 0 (nsec D).toNat 1 (.ex (nsec D).toNat),by rw [hlen], ?_,by simp; omega,fun i hi => ?_⟩
  ·rw [← hD]
   refine ⟨?_,hv, ?_,rfl,by simp [idS],⟨by omega,by simp [idS]⟩,⟨by omega,by simp [idS]⟩,by simp; omega⟩
   ·rw [List.getElem?_append_right (by omega)]; simp [hlen]
   ·rw [← zrow_ints]
    have hzl:=zfbZ [(AV.lit (.int .i64 0))] (nsec D).toNat
    simp only [List.length_cons,List.length_nil] at hzl
    rw [zyZ (c:=zrow [(.lit (.int .i64 0))] (nsec D).toNat) (by rw [List.getElem?_append_right (by omega)]; simp [hlen]) (by rw [hzl]; omega)]
    rw [List.drop_zero,List.take_of_length_le (by rw [hzl]; omega),List.length_replicate]
  ·rw [List.getElem?_append_left (by omega)]; exact hold i hi
 by_cases hm : mayD d
 ·simp [hm]
  exact main d a b c e _ (by unfold Eff; rw [if_pos hm]) h h3 (by simp) (fun i hi => List.getElem?_append_left hi) (by simp)
 ·simp [hm,ast]
  refine main ⟨[],[],[],[]⟩ nilSl nilSl nilSl nilSl _ (by unfold Eff; rw [if_neg hm]) ⟨SV.nil,SV.nil,SV.nil,SV.nil⟩ (by simp) (by simp) (fun i hi => ?_) ?_
  ·rw [List.getElem?_append_left hi]
  ·simp)
section
variable {n0 n1 : Nat} {H : AH} {o : Nat} {D : Dev} {gone : List Int} {c : Int} {a b s e gv : AV}
theorem ref_Bad_c (h : RefP n0 n1 H o D gone c a b s e gv) (hl : D.bad.length≤1000000) (k : Int) : BCall Tryz.prog 52 [.ptr o 0,I k] H (B (decide (k ∈ D.bad))) H:=by
 obtain ⟨r,H',⟨rfl,rfl⟩,hc⟩:=zttZ (K:=fun r H' => r=B (decide (k ∈ D.bad))∧H'=H) (a0:=.ptr o 0) (a1:=I k) (H:=H) (by
  unfold zjmZ
  refine znxZ (fun n x0 x1 x5 H' => ∃ j : Nat,j + n=D.bad.length∧x0 = .ptr o 0∧x1=I k∧x5=I j∧H'=H∧∀ (m : Nat) y,m < j→D.bad[m]? = some y→y ≠ k) ?_ D.bad.length ⟨0,by omega,rfl,rfl,rfl,rfl,by simp⟩
  rintro n x0 x1 x5 H' R hR ⟨j,hj,rfl,rfl,rfl,rfl,hm⟩
  unfold zetZ
  rcases Nat.lt_or_ge j D.bad.length with hlt | hge
  ·have hx:=List.getElem?_eq_getElem hlt
   generalize D.bad[j]=y at hx
   by_cases c1 : y=k
   ·have : k ∈ D.bad:=c1 ▸ List.mem_of_getElem? hx
    simp [h.obj,h.dev.bad.len,hlt,h.dev.bad.idx encI_len hx rfl,encI,c1,this]
   ·simp [h.obj,h.dev.bad.len,hlt,h.dev.bad.idx encI_len hx rfl,encI,c1,abI_add (a:=j) (b:=1) (by omega) (by omega)]
    refine hR (n - 1) _ _ _ _ (by omega) ⟨j + 1,by omega,rfl,rfl,rfl,rfl,fun m z hmj hz => ?_⟩
    by_cases hh : m=j
    ·subst hh; rw [hx] at hz; injection hz with hz; subst hz; exact c1
    ·exact hm m z (by omega) hz
  ·have : ¬ k ∈ D.bad:=fun hk => by
    obtain ⟨m,hm2⟩:=List.mem_iff_getElem?.1 hk
    exact hm m k (by have:=(List.getElem?_eq_some_iff.1 hm2).1; omega) hm2 rfl
   simp [h.obj,h.dev.bad.len,show ¬ j < D.bad.length by omega,this])
 exact hc
def remK (D : Dev) (gone : List Int) (k : Int) : Int:=sumS D.soft k - if k < 0 then 0 else (gone[k.toNat]?).getD 0
structure RFine (D : Dev) (gone : List Int) : Prop where
 may : mayD D
 bad : D.bad.length≤1000000
 soft : D.soft.length≤1000000
 shorts : D.shorts.length≤1000000
 len : (gone.length : Int)=nsec D
 g : ∀ x ∈ gone,0≤x∧x≤1000000000
theorem ref_Left_c (h : RefP n0 n1 H o D gone c a b s e gv) (hf : RFine D gone) (k : Int) : BCall Tryz.prog 53 [.ptr o 0,I k] H (I (leftS D (remK D gone) k)) H:=by
 have hfb:=hf.bad
 have hfs:=hf.soft
 obtain ⟨r,H',⟨rfl,rfl⟩,hc⟩:=ztgZ (K:=fun r H' => r=I (leftS D (remK D gone) k)∧H'=H) (a0:=.ptr o 0) (a1:=I k) (H:=H) (by
  unfold zhhZ
  by_cases h1 : k < 0
  ·simp [h1,leftS]
  ·by_cases h2 : (gone.length : Int)≤k
   ·have : leftS D (remK D gone) k=0:=if_pos (.inr (.inl (by rw [← hf.len]; exact h2)))
    simp [h1,h.obj,zcgZ h.gone,h2,this]
   ·simp [h1,h.obj,zcgZ h.gone,h2]
    refine bC_of (ref_Bad_c h hfb k) ?_
    by_cases h3 : k ∈ D.bad
    ·simp [h3,leftS]
    ·simp [h3]
     have hL : leftS D (remK D gone) k=remK D gone k:=if_neg (fun hh => by
      rcases hh with hh | hh | hh
      ·omega
      ·rw [← hf.len] at hh; omega
      ·exact h3 hh)
     refine zmsZ (fun n x0 x1 x5 x6 H' => ∃ j : Nat,j + n=D.soft.length∧x0 = .ptr o 0∧x1=I k∧x5=I (sumS (D.soft.take j) k)∧x6=I j∧H'=H) ?_ D.soft.length ⟨0,by omega,rfl,rfl,rfl,rfl,rfl⟩
     rintro n x0 x1 x5 x6 H' R hR ⟨j,hj,rfl,rfl,rfl,rfl,rfl⟩
     unfold zeiZ
     have hsum:=sumS_bnd (l:=D.soft.take j) (fun s hs => hf.may.2.2 s (List.mem_of_mem_take hs)) k
     have htl : (D.soft.take j).length≤D.soft.length:=by rw [List.length_take]; omega
     rcases Nat.lt_or_ge j D.soft.length with hlt | hge
     ·have hx:=List.getElem?_eq_getElem hlt
      generalize D.soft[j]=y at hx
      have hy:=hf.may.2.2 y (List.mem_of_getElem? hx)
      have hst : sumS (D.soft.take (j + 1)) k=sumS (D.soft.take j) k + if y.1=k then y.2 else 0:=by
       rw [List.take_add_one,hx,sumS_app]; simp [sumS]
      have nxt : ∀ q,q=sumS (D.soft.take (j + 1)) k→zdcZ R (.ptr o 0) (I k) (I q) (I j) H' (fun r H2 => r=I (leftS D (remK D gone) k)∧H2=H'):=by
       rintro q rfl
       rw [zolZ]
       unfold zgvZ
       simp [abI_add (a:=j) (b:=1) (by omega) (by omega)]
       exact hR (n - 1) _ _ _ _ _ (by omega) ⟨j + 1,by omega,rfl,rfl,rfl,rfl,rfl⟩
      by_cases c1 : y.1=k
      ·rw [if_pos c1] at hst
       simp [h.obj,h.dev.soft.len,hlt,h.dev.soft.idx encS_len hx rfl,encS,c1,abI_add (a:=sumS (D.soft.take j) k) (b:=y.2) (by omega) (by omega)]
       exact nxt _ hst.symm
      ·rw [if_neg c1] at hst
       simp [h.obj,h.dev.soft.len,hlt,h.dev.soft.idx encS_len hx rfl,encS,c1]
       exact nxt _ (by rw [hst]; omega)
     ·have : j=D.soft.length:=by omega
      subst this
      rw [List.take_length] at hsum ⊢
      have hx:=List.getElem?_eq_getElem (l:=gone) (i:=k.toNat) (by omega)
      have hgx:=hf.g _ (List.getElem_mem (l:=gone) (n:=k.toNat) (by omega))
      generalize gone[k.toNat]'(by omega)=y at hx hgx
      obtain ⟨p,e1,e2⟩:=aix_int h.gone hx (i:=k) (by omega)
      simp [h.obj,h.dev.soft.len,e1,e2,abI_sub (a:=sumS D.soft k) (b:=y) (by omega) (by omega)]
      rw [hL]; unfold remK; rw [hx,if_neg h1]; rfl)
 exact hc
theorem ref_fail {D : Dev} {gone : List Int} {k : Int} (h0 : 0≤k) (h1 : k < nsec D) : (k ∈ D.bad∨0 < leftS D (remK D gone) k) ↔ failS D (remK D gone) k:=by
 unfold failS leftS
 by_cases h3 : k ∈ D.bad
 ·simp [h3]
 ·rw [if_neg (fun hh => by rcases hh with hh | hh | hh; omega; omega; exact h3 hh)]
def RGetK (n0 n1 : Nat) (H : AH) (o : Nat) (D : Dev) (gone : List Int) (a b s e gv : AV) (res : List UInt8 × Int × (Int→Int) × Int) (r : AV) (H' : AH) : Prop :=
 ∃ v gone',r = .tup [v,I res.2.1]∧zaZ H' 1 v=some (encB res.1,res.1.length)∧RefP n0 n1 H' o D gone' res.2.2.2 a b s e gv∧remK D gone'=res.2.2.1∧(gone'.length : Int)=nsec D∧(∀ T : Int,(∀ x ∈ gone,0≤x∧x≤T)→∀ x ∈ gone',0≤x∧x≤T + 1)∧Keep n0 n1 H H'
theorem RefP.set (h : RefP n0 n1 H o D gone c a b s e gv) {c' : Int} : RefP n0 n1 (H.set o (some (.cells [a,b,s,e,gv,I c']))) o D gone c' a b s e gv∧Keep n0 n1 H (H.set o (some (.cells [a,b,s,e,gv,I c']))):=by
 have hol:=(List.getElem?_eq_some_iff.1 h.obj).1
 refine ⟨⟨List.getElem?_set_self hol,h.dev,zbZ h.gone fun i hi => List.getElem?_set_ne (fun (e : o=i) => h.og (e ▸ hi)),h.own,h.og,h.low,h.high,by simpa using h.top⟩,
  by simp,fun i hi hn => List.getElem?_set_ne (by have:=h.low.1; have:=h.high.1; omega)⟩
end
section
variable {n0 n1 : Nat} {H : AH} {o : Nat} {D : Dev} {gone : List Int} {c : Int} {a b s e gv : AV}
theorem sl_int {H : AH} {w : AV} {l : List Int} {n i : Nat} {q x : Int} (hw : zaZ H 1 w=some (l.flatMap encI,n)) (ho : ownedS w=true) (hi : i < l.length) (hq : q=i) :
  ∃ p H',aixS 1 w (I q)=some p∧ast 1 H p (I x)=some H'∧H'.length=H.length∧(∀ j,j ∉ idS w→H'[j]? = H[j]?)∧zaZ H' 1 w=some ((l.set i x).flatMap encI,n):=by
 have hn : n=l.length:=by have h1:=zboZ hw; have h2:=zsuZ encI_len l; omega
 obtain ⟨p,H',h1,h2,h3,h4,h5⟩:=ast_cell (x:=I x) hw ho hq (by omega) rfl
 refine ⟨p,H',h1,h2,h4,h5, ?_⟩
 rw [h3]
 congr 2
 have : ∀ (l : List Int) (i : Nat),(l.flatMap encI).set i (I x)=(l.set i x).flatMap encI:=by
  intro l
  induction l with
  | nil => intro i; rfl
  | cons y l ih => intro i; cases i with
   | zero => rfl
   | succ i => rw [List.flatMap_cons,List.set_cons_succ,List.flatMap_cons,← ih i]; rfl
 exact this l i
theorem ref_Get_c (h : RefP n0 n1 H o D gone c a b s e gv) (hf : RFine D gone) (hc0 : 0≤c∧c≤1000000000000) (pos n : Int) (hp : pos≤9223372036854775807) :
  ∃ r H',RGetK n0 n1 H o D gone a b s e gv (getS D (remK D gone) c pos n) r H'∧BCall Tryz.prog 34 [.ptr o 0,I pos,I n] H r H':=ztyZ (by
 unfold zjsZ
 have hd:=hf.may.1
 have hsh:=hf.shorts
 have hfb:=hf.bad
 have gb : ∀ T : Int,(∀ x ∈ gone,0≤x∧x≤T)→∀ x ∈ gone,0≤x∧x≤T + 1:=fun T h x hx => ⟨(h x hx).1,by have:=(h x hx).2; omega⟩
 have empty : ∀ (x : Int) c' H',RefP n0 n1 H' o D gone c' a b s e gv→Keep n0 n1 H H'→getS D (remK D gone) c pos n=([],x,remK D gone,c')→RGetK n0 n1 H o D gone a b s e gv (getS D (remK D gone) c pos n) (.tup [nilSl,I x]) H':=by
  intro x c' H' h1 h2 h3
  rw [h3]
  exact ⟨nilSl,gone,rfl,rfl,h1,rfl,hf.len,gb,h2⟩
 by_cases h1 : pos < 0
 ·simp [h1]
  exact empty 5 c H h ⟨Nat.le_refl _,fun _ _ _ => rfl⟩ (if_pos (.inl h1))
 ·by_cases h2 : n < 0
  ·simp [h1,h2]
   exact empty 5 c H h ⟨Nat.le_refl _,fun _ _ _ => rfl⟩ (if_pos (.inr (.inl h2)))
  ·by_cases h3 : 4096 < n
   ·simp [h1,h2,h3]
    exact empty 5 c H h ⟨Nat.le_refl _,fun _ _ _ => rfl⟩ (if_pos (.inr (.inr h3)))
   ·have hg : getS D (remK D gone) c pos n=_:=if_neg (fun hh => by omega)
    obtain ⟨b1,b2,b3⟩:=ask_bnd (D:=D) (c:=c) (pos:=pos) (n:=n) (by omega)
    simp [h1,h2,h3,h.obj,abI_add (a:=c) (b:=1) (by omega) (by omega)]
    rw [ast_ptr (n:=1) (off:=5) (xs:=[I (c + 1)]) rfl h.obj rfl (by simp)]
    simp
    obtain ⟨h',kp⟩:=h.set (c':=c + 1)
    generalize (H.set o (some (.cells [a,b,s,e,gv,I (c + 1)])))=H1 at h' kp
    have j7 : ∀ m,m=askS D c pos n→zdzZ (.ptr o 0) (I pos) (I m) H1 (RGetK n0 n1 H o D gone a b s e gv (getS D (remK D gone) c pos n)):=by
     rintro m rfl
     generalize hm : askS D c pos n=m at *
     rw [zqaZ]
     unfold zjcZ
     simp
     rw [zoyZ]
     unfold zigZ
     by_cases h4 : m=0
     ·rw [if_pos h4] at hg
      simp [h4]
      exact empty 0 (c + 1) H1 h' kp hg
     ·rw [if_neg h4] at hg
      have hpm:=b3 (by omega)
      have hns : nsec D=((D.data.length : Int) + 8 - 1) / 8:=rfl
      simp [h4]
      rw [zqrZ]
      unfold zjaZ
      simp [abI_quo (a:=pos) (b:=8) (by omega) (by omega) (by omega)]
      rw [zoxZ]
      unfold zhmZ
      refine bC_of (ref_Bad_c h' hfb (pos / 8)) ?_
      rw [zpdZ]
      unfold zhpZ
      have hff:=ref_fail (D:=D) (gone:=gone) (k:=pos / 8) (by omega) (by omega)
      by_cases h6 : pos / 8 ∈ D.bad
      ·rw [if_pos (.inl h6),if_pos h6] at hg
       simp [h6]
       exact empty 1 (c + 1) H1 h' kp hg
      ·simp [h6]
       rw [zplZ]
       unfold zgzZ
       refine bC_of (ref_Left_c h' hf (pos / 8)) ?_
       simp
       rw [zpbZ]
       unfold zihZ
       by_cases h7 : 0 < leftS D (remK D gone) (pos / 8)
       ·rw [if_pos (hff.1 (.inr h7)),if_neg h6] at hg
        have hx:=List.getElem?_eq_getElem (l:=gone) (i:=(pos / 8).toNat) (by have:=hf.len; omega)
        have hgx:=hf.g _ (List.getElem_mem (l:=gone) (n:=(pos / 8).toNat) (by have:=hf.len; omega))
        generalize gone[(pos / 8).toNat]'(by have:=hf.len; omega)=y at hx hgx
        obtain ⟨p1,e1,e2⟩:=aix_int h'.gone hx (i:=pos / 8) (by omega)
        obtain ⟨p2,H2,f1,f2,f3,f4,f5⟩:=sl_int (x:=y + 1) h'.gone h'.own (i:=(pos / 8).toNat) (q:=pos / 8) (List.getElem?_eq_some_iff.1 hx).1 (by omega)
        rw [e1] at f1
        injection f1 with f1
        subst f1
        simp [h7,h'.obj,e1,e2,abI_add (a:=y) (b:=1) (by omega) (by omega),f2]
        rw [zpaZ]
        unfold zhkZ
        rw [hg]
        have hkp : Keep n0 n1 H1 H2:=⟨by omega,fun i hi hn => f4 i (fun hm => hn ⟨h'.low.2 i hm,h'.high.2 i hm⟩)⟩
        have hgl : (gone.set (pos / 8).toNat (y + 1)).length=gone.length:=List.length_set
        have hmem : ∀ x ∈ gone.set (pos / 8).toNat (y + 1),x ∈ gone∨x=y + 1:=fun x hx => List.mem_or_eq_of_mem_set hx
        refine ⟨nilSl,gone.set (pos / 8).toNat (y + 1),rfl,rfl,⟨(f4 o h'.og).trans h'.obj,h'.dev,by rw [f5,hgl],h'.own,h'.og,h'.low,h'.high,by have:=h'.top; omega⟩, ?_,by rw [hgl]; exact hf.len,fun T hT x hx2 => ?_,kp.trans hkp⟩
        ·funext k
         unfold remK
         simp only
         by_cases k0 : k < 0
         ·rw [if_pos k0,if_neg (by omega),if_pos k0]
         ·rw [if_neg k0,List.getElem?_set]
          by_cases k1 : k=pos / 8
          ·subst k1
           rw [if_pos rfl,if_pos rfl,if_pos (List.getElem?_eq_some_iff.1 hx).1,if_neg k0,hx]
           simp; omega
          ·rw [if_neg (by omega),if_neg k1,if_neg k0]
        ·have hym:=List.mem_of_getElem? hx
         have hyT:=hT y hym
         rcases hmem x hx2 with hx2 | rfl
         ·have:=hT x hx2; omega
         ·omega
       ·have h5 : ¬ failS D (remK D gone) (pos / 8):=fun hh => (hff.2 hh).elim h6 h7
        rw [if_neg h5] at hg
        simp [h7]
        rw [zppZ]
        unfold zgxZ
        simp [abI_add (a:=pos / 8) (b:=1) (by omega) (by omega)]
        rw [zphZ]
        unfold zgyZ
        refine zmuZ (fun q x0 x1 x9 x11 H' => ∃ (k e : Int),q=(pos + m - k * 8).toNat∧x0 = .ptr o 0∧x1=I pos∧x9=I (e - pos)∧x11=I k∧H'=H1∧pos / 8 + 1≤k∧(e=pos + m∨∃ k2,pos / 8 + 1≤k2∧k2 < k∧e=k2 * 8∧k2 * 8 < pos + m∧failS D (remK D gone) k2)∧(∀ k2,pos / 8 + 1≤k2→k2 < k→k2 * 8 < e→¬ failS D (remK D gone) k2)∧k * 8≤pos + m + 8) ?_ (pos + m - (pos / 8 + 1) * 8).toNat
         ⟨pos / 8 + 1,pos + m,rfl,rfl,rfl,by rw [show pos + m - pos=m by omega],rfl,rfl,by omega,.inl rfl,fun k2 _ _ => by omega,by omega⟩
        rintro q x0 x1 x9 x11 H' R hR ⟨k,ee,rfl,rfl,rfl,rfl,rfl,rfl,k1,k2,k3,k4⟩
        unfold zelZ
        have hle : ee≤pos + m:=by rcases k2 with rfl | ⟨a,_,_,rfl,_,_⟩ <;> omega
        have hge0 : pos≤ee:=by rcases k2 with rfl | ⟨a,_,_,rfl,_,_⟩ <;> omega
        simp [abI_mul (a:=k) (b:=8) (by omega) (by omega),abI_add (a:=pos) (b:=ee - pos) (by omega) (by omega),show pos + (ee - pos)=ee by omega]
        by_cases c1 : k * 8 < ee
        ·have hfk:=ref_fail (D:=D) (gone:=gone) (k:=k) (by omega) (by omega)
         have nxt : ∀ q',q'=ee∧¬ failS D (remK D gone) k∨q'=k * 8∧failS D (remK D gone) k→zdrZ R (.ptr o 0) (I pos) (I (q' - pos)) (I k) H' (RGetK n0 n1 H o D gone a b s e gv (getS D (remK D gone) c pos n)):=by
          intro q' hq
          rw [zpcZ]
          unfold zinZ
          simp [abI_add (a:=k) (b:=1) (by omega) (by omega)]
          rcases hq with ⟨rfl,c2⟩ | ⟨rfl,c2⟩
          ·refine hR _ _ _ _ _ _ (by omega) ⟨k + 1,q',rfl,rfl,rfl,rfl,rfl,rfl,by omega,k2.imp id fun ⟨a,b,cc,d⟩ => ⟨a,b,by omega,d⟩,fun k2 h1 h2 h3 => ?_,by omega⟩
           by_cases hk : k2=k
           ·rw [hk]; exact c2
           ·exact k3 k2 h1 (by omega) h3
          ·exact hR _ _ _ _ _ _ (by omega) ⟨k + 1,k * 8,rfl,rfl,rfl,rfl,rfl,rfl,by omega,.inr ⟨k,k1,by omega,rfl,by omega,c2⟩,fun k2 h1 h2 h3 => k3 k2 h1 (by omega) (by omega),by omega⟩
         simp [c1]
         refine bC_of (ref_Bad_c h' hfb k) ?_
         by_cases d1 : k ∈ D.bad
         ·simp [d1,abI_mul (a:=k) (b:=8) (by omega) (by omega),abI_sub (a:=k * 8) (b:=pos) (by omega) (by omega)]
          exact nxt (k * 8) (.inr ⟨rfl,.inl d1⟩)
         ·simp [d1]
          refine bC_of (ref_Left_c h' hf k) ?_
          by_cases d2 : 0 < leftS D (remK D gone) k
          ·simp [d2,abI_mul (a:=k) (b:=8) (by omega) (by omega),abI_sub (a:=k * 8) (b:=pos) (by omega) (by omega)]
           exact nxt (k * 8) (.inr ⟨rfl,hfk.1 (.inr d2)⟩)
          ·simp [d2]
           exact nxt ee (.inl ⟨rfl,fun hh => (hfk.2 hh).elim d1 d2⟩)
        ·have hend : endP D (remK D gone) (pos / 8 + 1) (pos + m) ee:=⟨k2.imp id fun ⟨a,b,cc,d⟩ => ⟨a,b,d⟩,fun k2 h1 h2 => k3 k2 h1 (by omega) h2⟩
         have he:=hend.uniq (endS_spec D (remK D gone) (pos / 8 + 1) (pos + m))
         rw [← he] at hg
         obtain ⟨r10,s1,s2,-,-,-⟩:=aslS_spec (h'.dev.data.bytes H') (lo:=some (I pos)) (hi:=some (I ee)) (l:=pos.toNat) (k:=ee.toNat) (by simp [abnd]; omega) (by simp [abnd]; omega) (by omega) (by omega)
         obtain ⟨r,H2,q1,q2,q3,q4,q5,q6⟩:=zmhZ (sz:=1) (bytes:=1) (H:=H') (v:=nilSl) (cs:=[]) (n:=0) rfl rfl (zmZ s2) (by omega)
         have g2 : Grew H' H2:=⟨q4,fun i hi => q5 i hi (by simp [idS])⟩
         simp [c1,h'.obj,abI_add (a:=pos) (b:=ee - pos) (by omega) (by omega),show pos + (ee - pos)=ee by omega,s1,q1]
         rw [hg]
         have hl : (partD D.data pos ee).length=ee.toNat - pos.toNat:=by unfold partD; rw [List.length_take,List.length_drop]; omega
         refine ⟨r,gone,rfl, ?_,h'.keep (Keep.of (a:=n1) (b:=n1) g2) (.inl (Nat.le_refl _)),rfl,hf.len,gb,kp.trans (Keep.of g2)⟩
         rw [q3,hl]
         simp only [partD,encB_drop,encB_take,Nat.mul_one,List.nil_append,Nat.zero_add]
         rw [show (ee - pos).toNat=ee.toNat - pos.toNat by omega]
    have hmm : min (max 0 ((D.data.length : Int) - pos)) n=min n (max 0 (D.data.length - pos)):=by omega
    simp [h'.obj,h'.dev.data.len,abI_sub (a:=(D.data.length : Int)) (b:=pos) (by omega) (by omega),hmm,h'.dev.shorts.len]
    by_cases d1 : c < D.shorts.length
    ·have hx:=List.getElem?_eq_getElem (l:=D.shorts) (i:=c.toNat) (by omega)
     generalize D.shorts[c.toNat]'(by omega)=y at hx
     have hy : shortS D c=y:=by unfold shortS; rw [hx]; rfl
     obtain ⟨p,e1,e2⟩:=aix_int (h'.dev.shorts.2 H1) hx (i:=c) (by omega)
     by_cases d2 : 0 < y
     ·simp [d1,e1,e2,d2,h'.obj]
      exact j7 _ (by unfold askS; rw [if_pos ⟨d1,by rw [hy]; exact d2⟩,hy]; omega)
     ·simp [d1,e1,e2,d2,h'.obj]
      exact j7 _ (by unfold askS; rw [if_neg (fun h => d2 (by rw [← hy]; exact h.2))])
    ·simp [d1]
     exact j7 _ (by unfold askS; rw [if_neg (fun h => d1 h.1)]))
end
end Go.Proofs.YtlbilcpnjgkpjaaGreat.Av
end
section
namespace Go.Proofs.YtlbilcpnjgkpjaaGreat.Av
open Go Go.RowKit
def RFillK (n0 n1 : Nat) (H : AH) (o : Nat) (D : Dev) (gone : List Int) (a b s e gv : AV) (m : Int) (res : List UInt8 × Int × (Int→Int) × Int) (r : AV) (H' : AH) : Prop :=
 ∃ v gone',r = .tup [v,I res.2.1]∧zaZ H' 1 v=some (encB res.1,res.1.length)∧RefP n0 n1 H' o D gone' res.2.2.2 a b s e gv∧remK D gone'=res.2.2.1∧(gone'.length : Int)=nsec D∧(∀ T,(∀ x ∈ gone,0≤x∧x≤T)→∀ x ∈ gone',0≤x∧x≤T + m)∧Keep n0 n1 H H'
theorem ref_Fill_c {n0 n1 : Nat} {H : AH} {o : Nat} {D : Dev} {gone : List Int} {c : Int} {a b s e gv : AV} (h : RefP n0 n1 H o D gone c a b s e gv) (hf : RFine D gone) (hg9 : ∀ x ∈ gone,0≤x∧x≤900000000) (hc0 : 0≤c∧c≤900000000000) (hfD : Fine D (remK D gone) c) (pos n : Int) (hp : pos≤9223372036854775807) :
  ∃ r H',RFillK n0 n1 H o D gone a b s e gv 4097 (fillS D (remK D gone) c pos n) r H'∧BCall Tryz.prog 20 [.ptr o 0,I pos,I n] H r H':=salvorref11_Fill_ok (by
 unfold znqZ
 have hd:=hf.may.1
 have grow : ∀ (m : Int),0≤m→∀ T : Int,(∀ x ∈ gone,0≤x∧x≤T)→∀ x ∈ gone,0≤x∧x≤T + m:=fun m hm T h x hx => ⟨(h x hx).1,by have:=(h x hx).2; omega⟩
 have stop : pos < 0∨n < 0∨4096 < n→RFillK n0 n1 H o D gone a b s e gv 4097 (fillS D (remK D gone) c pos n) (.tup [nilSl,I 5]) H:=by
  intro q
  unfold fillS
  rw [if_pos q]
  exact ⟨nilSl,gone,rfl,rfl,h,rfl,hf.len,grow _ (by omega),⟨Nat.le_refl _,fun _ _ _ => rfl⟩⟩
 by_cases h1 : pos < 0
 ·simp [h1]
  exact stop (.inl h1)
 by_cases h2 : n < 0
 ·simp [h1,h2]
  exact stop (.inr (.inl h2))
 by_cases h3 : 4096 < n
 ·simp [h1,h2,h3]
  exact stop (.inr (.inr h3))
 simp only [abI_lss,abI_gtr,h1,h2,h3,decide_false,bO_some,bG_bool,show ((false == false)=true) from rfl,gO_true,zbnZ,if_false,Bool.false_eq_true,bB_bool,zpZ]
 have hS : fillS D (remK D gone) c pos n=fillF D pos n (n.toNat + 1) [] (remK D gone) c:=if_neg (by omega)
 refine zrlZ (fun m x0 x1 x2 x8 H' => ∃ (out : List UInt8) (gone' : List Int) (c' : Int),m=(n - out.length).toNat∧x0 = .ptr o 0∧x1=I pos∧x2=I n∧zaZ H' 1 x8=some (encB out,out.length)∧ownedS x8=true∧(∀ i ∈ idS x8,H.length≤i)∧RefP n0 n1 H' o D gone' c' a b s e gv∧Fine D (remK D gone') c'∧(gone'.length : Int)=nsec D∧(∀ T,(∀ x ∈ gone,0≤x∧x≤T)→∀ x ∈ gone',0≤x∧x≤T + out.length)∧Keep n0 n1 H H'∧(out=[]∨pos + out.length≤D.data.length)∧out.length≤n∧c' + m < 990000000000∧fillF D pos n (m + 1) out (remK D gone') c'=fillS D (remK D gone) c pos n) ?_ (n.toNat)
  ⟨[],gone,c,by simp,rfl,rfl,rfl,rfl,rfl,by simp [idS],h,hfD,hf.len,grow _ (by omega),⟨Nat.le_refl _,fun _ _ _ => rfl⟩,.inl rfl,by simp; omega,by omega,hS.symm⟩
 rintro m x0 x1 x2 x8 H2 R hR ⟨out,gone',c',hm,rfl,rfl,rfl,hs,hos,hi,hP,hF,hgl,hgb,hK,hdat,hol,hcm,hfe⟩
 unfold zgoZ
 have al:=zcgZ hs
 have hfc:=hF.c
 have e1 : abI .add (I pos) (I (out.length : Int))=some (I (pos + out.length)):=by
  rcases hdat with q | q
  ·subst q
   exact abI_add (by simp; omega) (by simp; omega)
  ·exact abI_add (by omega) (by omega)
 have e2 : abI .sub (I n) (I (out.length : Int))=some (I (n - out.length)):=abI_sub (by omega) (by omega)
 have hpl : pos + out.length≤9223372036854775807:=by
  rcases hdat with q | q
  ·subst q; simpa using hp
  ·omega
 have hlow:=h.low
 have hhigh:=h.high
 have htop:=h.top
 have hr' : RFine D gone':=⟨hf.may,hf.bad,hf.soft,hf.shorts,hgl,fun x hx => by have:=hgb _ hg9 x hx; omega⟩
 have j5 : ∀ (x : AV) (H' : AH) (K : AV→AH→Prop),K (.tup [x,I 0]) H'→zfiZ x H' K:=fun x H' K hk => by rw [zuaZ]; unfold zmmZ; exact hk
 rw [fillF_s] at hfe
 simp only [al,bO_some,abI_lss,bB_bool]
 by_cases c1 : (out.length : Int) < n
 ·rw [if_pos c1] at hfe
  obtain ⟨r,H3,⟨v,gone2,rfl,a1,a4,a6,a7,a8,a5⟩,hc⟩:=ref_Get_c hP hr' (by omega) (pos + out.length) (n - out.length) hpl
  obtain ⟨g1,g2,g3⟩:=hF.get (by omega) (pos + out.length) (n - out.length)
  obtain ⟨l1,l2⟩:=getS_len (D:=D) (L:=remK D gone') (c:=c') (pos:=pos + out.length) (n:=n - out.length) (by omega)
  have gc:=getS_code (D:=D) (L:=remK D gone') (c:=c') (pos:=pos + out.length) (n:=n - out.length)
  simp only [c1,decide_true,bI_true,e1,e2,bO_some]
  refine bC_of hc ?_
  generalize getS D (remK D gone') c' (pos + out.length) (n - out.length)=G at *
  have alv:=zcgZ a1
  have hs3 : zaZ H3 1 x8=some (encB out,out.length):=zbZ hs fun i q => a5.2 i (zfZ hs i q) (fun z => by have:=hi i q; omega)
  have hb4 : ∀ T,(∀ x ∈ gone,0≤x∧x≤T)→∀ x ∈ gone2,0≤x∧x≤T + (out.length + 1):=fun T hT x hx => by have:=a8 _ (hgb T hT) x hx; omega
  simp only [zvZ,List.getElem?_cons_succ,List.getElem?_cons_zero,bO_some,alv,abI_neq,abI_eql,bB_bool]
  by_cases c2 : G.1=[]
  ·rw [if_pos c2] at hfe
   have e0 : ((G.1.length : Int)=0):=by rw [c2]; rfl
   have fin : RFillK n0 n1 H o D gone a b s e gv 4097 (fillS D (remK D gone) c pos n) (.tup [x8,I G.2.1]) H3:=by
    rw [← hfe]
    exact ⟨x8,gone2,rfl,hs3,a4,a6,a7,fun T hT x hx => by have:=hb4 T hT x hx; omega,hK.trans a5⟩
   by_cases c3 : G.2.1=0
   ·simp only [c3,ne_eq,not_true_eq_false,decide_false,zpZ,e0,decide_true,bI_true]
    rw [c3] at fin
    exact j5 _ _ _ fin
   ·simp only [c3,ne_eq,not_false_eq_true,decide_true,bI_true]
    exact fin
  ·rw [if_neg c2] at hfe
   have hpos:=List.length_pos_iff.2 c2
   have e0 : ¬ ((G.1.length : Int)=0):=by omega
   have c3:=gc c2
   obtain ⟨r,H4,b1,b2,b3,b4,b5,b6⟩:=zmhZ (sz:=1) (bytes:=1) hs3 hos (zmZ a1) (by omega)
   simp only [c3,ne_eq,not_true_eq_false,e0,decide_false,zpZ,b1,bH_some]
   have hlen : H.length≤H3.length:=Nat.le_trans hK.1 a5.1
   have k4 : Keep H.length (H3.length + 1) H3 H4:=⟨b4,fun i q1 q2 => b5 i q1 (fun z => q2 ⟨hi i z,by omega⟩)⟩
   refine hR ((n - (out ++ G.1).length).toNat) _ _ _ _ _ (by rw [List.length_append]; omega) ⟨out ++ G.1,gone2,G.2.2.2,rfl,rfl,rfl,rfl, ?_,b2, ?_,a4.keep k4 (.inl htop),by rw [a6]; exact g1,a7, ?_, ?_,.inr ?_, ?_, ?_, ?_⟩
   ·rw [b3,List.length_append]
    simp [encB]
   ·intro i q
    rcases b6 i q with q | q
    ·exact hi i q
    ·omega
   ·intro T hT x hx
    have:=hb4 T hT x hx
    rw [List.length_append]
    omega
   ·exact ⟨by omega,fun i q1 q2 => by rw [b5 i (by omega) (fun z => by have:=hi i z; omega),a5.2 i (by have:=hK.1; omega) q2,hK.2 i q1 q2]⟩
   ·rw [List.length_append]; rcases l2 with q | q
    ·exact absurd q c2
    ·omega
   ·rw [List.length_append]; omega
   ·rw [List.length_append]; omega
   ·rw [a6]
    exact (fillF_more _ m (by omega) (by rw [List.length_append]; omega)).symm.trans hfe
 ·rw [if_neg c1] at hfe
  simp only [c1,decide_false,zpZ]
  refine j5 _ _ _ ?_
  rw [← hfe]
  exact ⟨x8,gone',rfl,hs,hP,rfl,hgl,fun T hT x hx => by have:=hgb T hT x hx; omega,hK⟩)
end Go.Proofs.YtlbilcpnjgkpjaaGreat.Av
end
section
namespace Go.Proofs.YtlbilcpnjgkpjaaGreat.Av
open Go Go.RowKit
theorem in64d {n : Int} (h : IntKind.i64.min≤n∧n≤IntKind.i64.max) : -9223372036854775808≤n∧n≤9223372036854775807:=by
 simpa [IntKind.min,IntKind.max,IntKind.signed,IntKind.bits] using h
theorem bytes_sv (s : Sl UInt8) (hn : s.nil=true→s.l=[]) : SV encU 1 s.l (if s.nil then .lit (.slice none 0 0) else .imm (s.l.flatMap encU) s.l.length 1):=by
 obtain ⟨l,nil⟩:=s
 cases nil with
 | true =>
  have:=hn rfl
  simp only at this
  subst this
  exact SV.nil
 | false => exact SV.imm encU_len (fun x _ => rfl)
theorem ints_sv (s : Sl Int) (hn : s.nil=true→s.l=[]) : SV encI 1 s.l (if s.nil then .lit (.slice none 0 0) else .imm (s.l.flatMap encI) s.l.length 1):=by
 obtain ⟨l,nil⟩:=s
 cases nil with
 | true =>
  have:=hn rfl
  simp only at this
  subst this
  exact SV.nil
 | false => exact SV.imm encI_len (fun x _ => rfl)
def senc (x : Int × Int × Unit) : List AV:=[I x.1] ++ ([I x.2.1] ++ [])
theorem softs_sv (s : Sl (Int × Int × Unit)) (hn : s.nil=true→s.l=[]) : SV encS 2 (s.l.map fun x => (x.1,x.2.1)) (if s.nil then .lit (.slice none 0 0) else .imm (s.l.flatMap senc) s.l.length 2):=by
 obtain ⟨l,nil⟩:=s
 cases nil with
 | true =>
  have:=hn rfl
  simp only at this
  subst this
  exact SV.nil
 | false =>
  have e : l.flatMap senc=(l.map fun x => (x.1,x.2.1)).flatMap encS:=by rw [List.flatMap_map]; rfl
  have h2:=SV.imm (enc:=encS) (sz:=2) (l:=l.map fun x => (x.1,x.2.1)) encS_len (fun x _ => rfl)
  rw [← e,List.length_map] at h2
  exact h2
theorem rem0 (D : Dev) (n : Nat) : remK D (List.replicate n 0)=sumS D.soft:=by
 funext k
 unfold remK
 rw [List.getElem?_replicate]
 split
 ·omega
 ·split <;> simp
structure PairI (d : Dev) (H1 : AH) (a b c e : AV) (H : AH) (vals : Nat→AV) (S : Nat→Bool) : Prop where
 g : Grew H1 H
 v0 : S 0=true→vals 0 = .agg [a,b,c,e]
 v1 : S 1=true→∃ o n1 dv bo lo sv,vals 1 = .ptr o 0∧DiskP H1.length n1 H o (Eff d) (sumS (Eff d).soft) 0 dv bo lo sv∧(S 3=true→∃ m0 m1 o2 a b s e gv,vals 3 = .ptr o2 0∧n1≤m0∧RefP m0 m1 H o2 (Eff d) (List.replicate (nsec (Eff d)).toNat 0) 0 a b s e gv)
 v2 : S 2=true→vals 2 = .agg [a,b,c,e]
 v4 : S 4=true→vals 4=vals 1
 v5 : S 5=true→vals 5=vals 3
 low : (S 3=true→S 1=true)∧(S 4=true→S 1=true∧S 3=true)∧(S 5=true→S 3=true)
theorem pair_region {id : Nat} {ops : List Oper} {T : List AV} {Q : AQ} {x a b c e : AV} {d : Dev} {H1 : AH} (hV : DevV d a b c e) (h1 : d.bad.length≤1000000) (h2 : d.soft.length≤1000000) (h3 : d.data.length≤1000000) (h4 : d.shorts.length≤1000000)
  (hord : ordOk ops=true) (hlen : ops.length=6) (hx : ∀ H,Grew H1 H→ald true 4 H x=some (.agg [a,b,c,e]))
  (o0 : OpIs Tryz.prog ops T 0 [] fun vals H K => gO true (ald true 4 H x) fun v => K v H) (o1 : OpIs Tryz.prog ops T 1 [0] fun vals H K => ACalls Tryz.prog 8 [vals 0] H K)
  (o2 : OpIs Tryz.prog ops T 2 [] fun vals H K => gO true (ald true 4 H x) fun v => K v H) (o3 : OpIs Tryz.prog ops T 3 [2,1] fun vals H K => ACalls Tryz.prog 19 [vals 2] H K)
  (o4 : OpIs Tryz.prog ops T 4 [1,3] fun vals H K => gO true (some (vals 1)) fun v => K v H) (o5 : OpIs Tryz.prog ops T 5 [3] fun vals H K => gO true (some (vals 3)) fun v => K v H)
  (last : ∀ H vals o n1 dv bo lo sv m0 m1 o2 a b s e gv,Grew H1 H→vals 4 = .ptr o 0→vals 5 = .ptr o2 0→DiskP H1.length n1 H o (Eff d) (sumS (Eff d).soft) 0 dv bo lo sv→n1≤m0→RefP m0 m1 H o2 (Eff d) (List.replicate (nsec (Eff d)).toNat 0) 0 a b s e gv→Q .normal (pt ops vals (fun _ => true) T 6) H) :
  ACode Tryz.prog (.region id ops.toArray true) Q T H1:=by
 refine ACode.told mixP hord (PairI d H1 a b c e) (fun _ => undefA) ⟨Grew.refl H1,by simp,by simp,by simp,by simp,by simp,by simp⟩ ?_ ?_
 ·intro i hi
  rw [hlen] at hi
  have hcases : i=0∨i=1∨i=2∨i=3∨i=4∨i=5:=by omega
  rcases hcases with rfl | rfl | rfl | rfl | rfl | rfl
  ·refine ⟨_,_,o0,fun S Hc vals hS hn hI => ?_⟩
   simp only [gO_true,hx Hc hI.g,bO_some]
   exact ⟨hI.g,fun _ => valE,fun c => by rw [updN (by omega)] at c; simpa only [valN (show (1 : Nat) ≠ 0 by omega),valN (show (3 : Nat) ≠ 0 by omega),updN (show (3 : Nat) ≠ 0 by omega)] using hI.v1 c,fun c => by rw [updN (by omega)] at c; rw [valN (by omega)]; exact hI.v2 c,
    fun c => by rw [updN (by omega)] at c; rw [valN (by omega),valN (by omega)]; exact hI.v4 c,fun c => by rw [updN (by omega)] at c; rw [valN (by omega),valN (by omega)]; exact hI.v5 c,by rw [updN (by omega),updN (by omega),updN (by omega),updN (by omega)]; exact hI.low⟩
  ·refine ⟨_,_,o1,fun S Hc vals hS hn hI => ?_⟩
   rw [hI.v0 (hn 0 (by simp))]
   refine (disk_New_a (hV.dh Hc) h1 h2 h3 h4).mono ?_
   rintro r H' ⟨o,n1,dv,bo,lo,sv,rfl,hP,g⟩
   have n3 : S 3=false:=by
    cases h : S 3 with
    | false => rfl
    | true => have:=hI.low.1 h; rw [hS] at this; cases this
   have n4 : S 4=false:=by
    cases h : S 4 with
    | false => rfl
    | true => have:=(hI.low.2.1 h).1; rw [hS] at this; cases this
   have n5 : S 5=false:=by
    cases h : S 5 with
    | false => rfl
    | true => have:=hI.low.2.2 h; rw [n3] at this; cases this
   have hlow : DiskP H1.length n1 H' o (Eff d) (sumS (Eff d).soft) 0 dv bo lo sv:=by
    have hg:=hI.g.1
    obtain ⟨l1,l2,l3,l4,l5⟩:=hP.low
    exact ⟨hP.obj,hP.data,hP.bad,hP.left,hP.shorts,hP.ne,hP.od,hP.os,⟨by omega,by omega,by omega,fun i hi => Nat.le_trans hg (l4 i hi),fun i hi => Nat.le_trans hg (l5 i hi)⟩,hP.high,hP.top,hP.one⟩
   exact ⟨hI.g.trans g,fun c => by rw [updN (by omega)] at c; rw [valN (by omega)]; exact hI.v0 c,fun _ => ⟨o,n1,dv,bo,lo,sv,valE,hlow,fun c => absurd c (by rw [updN (by omega),n3]; simp)⟩,fun c => by rw [updN (by omega)] at c; rw [valN (by omega)]; exact hI.v2 c,
    fun c => absurd c (by rw [updN (by omega),n4]; simp),fun c => absurd c (by rw [updN (by omega),n5]; simp),⟨fun c => absurd c (by rw [updN (by omega),n3]; simp),fun c => absurd c (by rw [updN (by omega),n4]; simp),fun c => absurd c (by rw [updN (by omega),n5]; simp)⟩⟩
  ·refine ⟨_,_,o2,fun S Hc vals hS hn hI => ?_⟩
   simp only [gO_true,hx Hc hI.g,bO_some]
   exact ⟨hI.g,fun c => by rw [updN (by omega)] at c; rw [valN (by omega)]; exact hI.v0 c,fun c => by rw [updN (by omega)] at c; simpa only [valN (show (1 : Nat) ≠ 2 by omega),valN (show (3 : Nat) ≠ 2 by omega),updN (show (3 : Nat) ≠ 2 by omega)] using hI.v1 c,fun _ => valE,
    fun c => by rw [updN (by omega)] at c; rw [valN (by omega),valN (by omega)]; exact hI.v4 c,fun c => by rw [updN (by omega)] at c; rw [valN (by omega),valN (by omega)]; exact hI.v5 c,by rw [updN (by omega),updN (by omega),updN (by omega),updN (by omega)]; exact hI.low⟩
  ·refine ⟨_,_,o3,fun S Hc vals hS hn hI => ?_⟩
   rw [hI.v2 (hn 2 (by simp))]
   have s1:=hn 1 (by simp)
   obtain ⟨r,H',⟨o2,m1,ra,rb,rs,re,gv,rfl,hR,g⟩,hc⟩:=ref_NewDisk_c hV h1 h2 h3 Hc
   refine hc.mono ?_
   rintro r' H'' ⟨rfl,rfl⟩
   obtain ⟨o,n1,dv,bo,lo,sv,e1,hP,-⟩:=hI.v1 s1
   have n4 : S 4=false:=by
    cases h : S 4 with
    | false => rfl
    | true => have:=(hI.low.2.1 h).2; rw [hS] at this; cases this
   have n5 : S 5=false:=by
    cases h : S 5 with
    | false => rfl
    | true => have:=hI.low.2.2 h; rw [hS] at this; cases this
   exact ⟨hI.g.trans g,fun c => by rw [updN (by omega)] at c; rw [valN (by omega)]; exact hI.v0 c,fun _ => ⟨o,n1,dv,bo,lo,sv,by rw [valN (by omega)]; exact e1,hP.keep (Keep.of (a:=n1) (b:=n1) g) (.inl (Nat.le_refl _)),fun _ => ⟨Hc.length,m1,o2,ra,rb,rs,re,gv,valE,hP.top,hR⟩⟩,fun c => by rw [updN (by omega)] at c; rw [valN (by omega)]; exact hI.v2 c,
    fun c => absurd c (by rw [updN (by omega),n4]; simp),fun c => absurd c (by rw [updN (by omega),n5]; simp),⟨fun _ => by rw [updN (by omega)]; exact s1,fun c => absurd c (by rw [updN (by omega),n4]; simp),fun c => absurd c (by rw [updN (by omega),n5]; simp)⟩⟩
  ·refine ⟨_,_,o4,fun S Hc vals hS hn hI => ?_⟩
   simp only [gO_true,bO_some]
   have s1:=hn 1 (by simp)
   have s3:=hn 3 (by simp)
   exact ⟨hI.g,fun c => by rw [updN (by omega)] at c; rw [valN (by omega)]; exact hI.v0 c,fun c => by rw [updN (by omega)] at c; simpa only [valN (show (1 : Nat) ≠ 4 by omega),valN (show (3 : Nat) ≠ 4 by omega),updN (show (3 : Nat) ≠ 4 by omega)] using hI.v1 c,fun c => by rw [updN (by omega)] at c; rw [valN (by omega)]; exact hI.v2 c,
    fun c => by rw [valE,valN (by omega)],fun c => by rw [updN (by omega)] at c; rw [valN (by omega),valN (by omega)]; exact hI.v5 c,⟨fun _ => by rw [updN (by omega)]; exact s1,fun _ => ⟨by rw [updN (by omega)]; exact s1,by rw [updN (by omega)]; exact s3⟩,fun _ => by rw [updN (by omega)]; exact s3⟩⟩
  ·refine ⟨_,_,o5,fun S Hc vals hS hn hI => ?_⟩
   simp only [gO_true,bO_some]
   have s3:=hn 3 (by simp)
   exact ⟨hI.g,fun c => by rw [updN (by omega)] at c; rw [valN (by omega)]; exact hI.v0 c,fun c => by rw [updN (by omega)] at c; simpa only [valN (show (1 : Nat) ≠ 5 by omega),valN (show (3 : Nat) ≠ 5 by omega),updN (show (3 : Nat) ≠ 5 by omega)] using hI.v1 c,fun c => by rw [updN (by omega)] at c; rw [valN (by omega)]; exact hI.v2 c,
    fun c => by rw [updN (by omega)] at c; rw [valN (by omega),valN (by omega)]; exact hI.v4 c,fun c => by rw [valE,valN (by omega)],by rw [updN (by omega),updN (by omega),updN (by omega)]; exact ⟨hI.low.1,hI.low.2.1,fun _ => s3⟩⟩
 ·intro Hc vals S hS hI
  rw [hlen] at hS ⊢
  obtain ⟨o,n1,dv,bo,lo,sv,e1,hP,hq⟩:=hI.v1 (hS 1 (by omega))
  obtain ⟨m0,m1,o2,ra,rb,rs,re,gv,e3,hm,hR⟩:=hq (hS 3 (by omega))
  exact last Hc vals o n1 dv bo lo sv m0 m1 o2 ra rb rs re gv hI.g ((hI.v4 (hS 4 (by omega))).trans e1) ((hI.v5 (hS 5 (by omega))).trans e3) hP hm hR
theorem eff_len (d : Dev) (h1 : d.bad.length≤1000000) (h2 : d.soft.length≤1000000) (h4 : d.shorts.length≤1000000) : (Eff d).bad.length≤1000000∧(Eff d).soft.length≤1000000∧(Eff d).shorts.length≤1000000:=by
 unfold Eff
 split
 ·exact ⟨h1,h2,h4⟩
 ·simp
end Go.Proofs.YtlbilcpnjgkpjaaGreat.Av
end
section
end
