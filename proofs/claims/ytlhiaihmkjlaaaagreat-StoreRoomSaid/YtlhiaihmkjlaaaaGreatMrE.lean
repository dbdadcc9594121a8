/- Texts of this proof, one behind the other, packed into one file by a program of this session. No condition. -/
import Derived.Test.YtlhiaihmkjlaaaaGreatMrD
import Derived.ChangeArms
import Derived.DataElems
import Derived.DataReads
import Derived.Laws.IdiomStrings
import Derived.Lib.Bytealg
import Derived.Lib.Overlaps
import Derived.OpenShut
set_option linter.unusedVariables false
set_option linter.unusedSimpArgs false
set_option maxRecDepth 100000
section
namespace Go.Proofs.YtlhiaihmkjlaaaaGreat.Av
open Go Go.RowKit
def May (n : Int) : Prop:=0≤n∧n≤4611686018427387904
instance (n : Int) : Decidable (May n):=by unfold May; infer_instance
def encI (n : Int) : List AV:=[I n]
theorem encI_len (n : Int) : (encI n).length=1:=rfl
def oI : Option Int→AV
 | some n => .tup [I n,B true]
 | none => .tup [I 0,B false]
def addS (l : List Int) : Option Int:=if (∀ n ∈ l,May n)∧l.sum≤4611686018427387904 then some l.sum else none
theorem off_May_p (n : Int) : BPure Tryz.prog 105 [I n] (B (decide (May n))):=BPure.flat λH=>off_May_ok (by
 unfold off_May
 by_cases h1 : 0≤n <;> by_cases h2 : n≤4611686018427387904 <;> simp [May,h1,h2])
theorem ref1_May_p (n : Int) : BPure Tryz.prog 201 [I n] (B (decide (May n))):=BPure.flat λH=>salvorref1_May_ok (by
 unfold zbfbZ
 by_cases h1 : 0≤n <;> by_cases h2 : n≤4611686018427387904 <;> simp [May,h1,h2])
structure Sp where
 pos : Int
 len : Int
 deriving DecidableEq,Inhabited
def encSp (s : Sp) : List AV:=[I s.pos,I s.len]
theorem zbfuZ (s : Sp) : (encSp s).length=2:=rfl
def MaySpan (s : Sp) : Prop:=May s.pos∧May s.len∧s.len≤4611686018427387904 - s.pos
instance (s : Sp) : Decidable (MaySpan s):=by unfold MaySpan; infer_instance
theorem zpsZ (s : Sp) : BPure Tryz.prog 118 [.agg (encSp s)] (B (decide (MaySpan s))):=BPure.val rfl rfl (off_MaySpan_ok (by
 unfold off_MaySpan;obtain ⟨p,n⟩:=s;simp [encSp,zhpZ];refine zyZ (off_May_p _) ?_
 by_cases h1 : May p
 ·have h1':=h1
  unfold May at h1';simp [h1];refine zyZ (off_May_p _) ?_
  by_cases h2 : May n
  ·simp [h2,zfpZ (a:=4611686018427387904) (b:=p) (by omega) (by omega),MaySpan,h1]
  ·simp [h2,MaySpan]
 ·simp [h1,MaySpan]))
def meet (a b : Sp) : Sp :=
 if MaySpan a∧MaySpan b∧max a.pos b.pos < min (a.pos + a.len) (b.pos + b.len) then ⟨max a.pos b.pos,min (a.pos + a.len) (b.pos + b.len) - max a.pos b.pos⟩ else ⟨0,0⟩
theorem off_Meet_p (a b : Sp) : BPure Tryz.prog 121 [.agg (encSp a),.agg (encSp b)] (.agg (encSp (meet a b))):=BPure.val rfl rfl (off_Meet_ok (by
 unfold off_Meet;simp [encSp,zhpZ,ztZ];refine zyZ (zpsZ a) ?_
 by_cases h1 : MaySpan a
 ·simp [h1]
  refine zyZ (zpsZ b) ?_
  by_cases h2 : MaySpan b
  ·have h1':=h1
   have h2':=h2;simp only [MaySpan,May] at h1' h2';obtain ⟨p,n⟩:=a;obtain ⟨q,m⟩:=b;simp only at h1' h2';simp [h2,zbdZ (a:=p) (b:=n) (by omega) (by omega),zbdZ (a:=q) (b:=m) (by omega) (by omega)]
   by_cases h3 : max p q < min (p + n) (q + m)
   ·have h3' : ¬ min (q + m) (p + n)≤max q p:=by omega
    simp [h3',zfpZ (a:=min (q + m) (p + n)) (b:=max q p) (by omega) (by omega),ast,meet,h1,h2,h3];omega
   ·have h3' : min (q + m) (p + n)≤max q p:=by omega
    simp [h3',ast,meet,h3]
  ·simp [h2,ast,meet]
 ·simp [h1,ast,meet]))
theorem eqSp_a (a b c d : Int) : abin Tryz.prog .eql 114 (.agg [I a,I b]) (.agg [I c,I d])=some (B (a == c && (b == d && true))):=by kernel_rfl
theorem sp_beq (x y : Sp) : (x.pos == y.pos && (x.len == y.len && true))=decide (x=y):=by
 obtain ⟨a,b⟩:=x;obtain ⟨c,d⟩:=y
 by_cases h1 : a=c <;> by_cases h2 : b=d <;> simp [h1,h2]
theorem eqSp (x y : Sp) : abin Tryz.prog .eql 114 (.agg (encSp x)) (.agg (encSp y))=some (B (decide (x=y))):=by rw [← sp_beq]; exact eqSp_a _ _ _ _
def Within (a b : Sp) : Prop:=MaySpan a∧MaySpan b∧(a.len=0∨meet a b=a)
instance (a b : Sp) : Decidable (Within a b):=by unfold Within; infer_instance
theorem off_Within_p (a b : Sp) : BPure Tryz.prog 129 [.agg (encSp a),.agg (encSp b)] (B (decide (Within a b))):=BPure.val rfl rfl (off_Within_ok (by
 unfold off_Within;simp [encSp,zhpZ,ztZ];refine zyZ (zpsZ a) ?_
 by_cases h1 : MaySpan a
 ·simp [h1]
  refine zyZ (zpsZ b) ?_
  by_cases h2 : MaySpan b
  ·by_cases h3 : a.len=0
   ·simp [h2,h3,Within,h1]
   ·simp [h2,h3,Within,h1]
    refine bP_of (off_Meet_p a b) ?_
    have:=eqSp (meet a b) a
    simp only [encSp] at this ⊢;simp [this]
  ·simp [h2,Within]
 ·simp [h1,Within]))
theorem sum_take {l : List Int} (h : ∀ n ∈ l,May n) (k : Nat) : 0≤(l.take k).sum∧(l.take k).sum≤l.sum:=by
 induction l generalizing k with
 | nil => simp
 | cons a l ih =>
  have ha:=h a (by simp)
  have:=ih (λn hn=>h n (by simp [hn]))
  cases k with
  | zero => have:=this l.length; simp at this ⊢; unfold May at ha; omega
  | succ k => have:=this k; simp; unfold May at ha; omega
theorem take_succ_sum {l : List Int} {k : Nat} {x : Int} (h : l[k]? = some x) : (l.take (k + 1)).sum=(l.take k).sum + x:=by
 rw [List.take_add_one,h]; simp
theorem ref1_Add_p {l : List Int} {v : AV} (hv : SV encI 1 l v) (hl : l.length≤281474976710656) : BPure Tryz.prog 194 [v] (oI (addS l)):=BPure.flat λH=>salvorref1_Add_ok (by
 unfold zbeyZ;refine zyxZ (λn x0 x4 x5 H'=>∃ k : Nat,k + n=l.length∧x0=v∧x4=I (l.take k).sum∧x5=I k∧H'=H∧(∀ m ∈ l.take k,May m)∧0≤(l.take k).sum∧(l.take k).sum≤4611686018427387904) ?_ l.length ⟨0,by simp,rfl,rfl,rfl,rfl,by simp,by simp,by simp⟩;rintro n x0 x4 x5 H' R hR ⟨k,hk,rfl,rfl,rfl,rfl,hm,hs0,hs1⟩;unfold zsnZ;rcases Nat.lt_or_ge k l.length with hlt | hge
 ·have hx:=gEG hlt
  generalize l[k]=y at hx;have hs:=take_succ_sum hx;simp [hv.len,hlt,hv.idx encI_len hx rfl,encI];refine zyZ (ref1_May_p _) ?_
  by_cases hM : May y
  ·have hM':=hM
   unfold May at hM';simp [hM,hv.idx encI_len hx rfl,encI,zfpZ (a:=4611686018427387904) (b:=(l.take k).sum) (by omega) (by omega)]
   by_cases hc : 4611686018427387904 - (l.take k).sum < y
   ·have : addS l=none:=if_neg (by
     rintro ⟨h1,h2⟩
     have:=sum_take h1 (k + 1)
     omega)
    simp [hc,this,oI]
   ·simp [hc,zbdZ (a:=(l.take k).sum) (b:=y) (by omega) (by omega),zbdZ (a:=k) (b:=1) (by omega) (by omega)]
    refine hR (n - 1) _ _ _ _ (by omega) ⟨k + 1,by omega,rfl,by rw [hs],rfl,rfl, ?_,by omega,by omega⟩;rw [List.take_add_one,hx];intro m hmm;simp at hmm;rcases hmm with h | rfl
    ·exact hm m h
    ·exact hM
  ·have : addS l=none:=if_neg (λh=>hM (h.1 y (List.mem_of_getElem? hx)))
   simp [hM,oI,this]
 ·have : k=l.length:=by omega
  subst this;simp at hm hs0 hs1;have : addS l=some l.sum:=if_pos ⟨hm,hs1⟩;simp [hv.len,this,oI])
theorem ref1_MaySpan_p (s : Sp) : BPure Tryz.prog 173 [.agg (encSp s)] (B (decide (MaySpan s))):=BPure.val rfl rfl (zbayZ (by
 unfold zuyZ;obtain ⟨p,n⟩:=s;have hv : SV encI 1 [p,n] (.imm [I p,I n] 2 1):=⟨rfl,λH=>rfl⟩;simp [encSp];refine bP_lend 2 (args':=[.imm [I p,I n] 2 1]) (by simp [mapO,frz]) ?_ (ref1_Add_p hv (by simp)) ?_
 ·cases h : addS [p,n] <;> rfl
 ·have : MaySpan ⟨p,n⟩ ↔ (addS [p,n]).isSome:=by
   unfold addS MaySpan;simp only [List.mem_cons,List.not_mem_nil,or_false,forall_eq_or_imp,forall_eq,List.sum_cons,List.sum_nil]
   split
   ·rename_i h; simp; exact ⟨h.1.1,h.1.2,by omega⟩
   ·rename_i h; simp; intro h1 h2; by_cases h3 : 4611686018427387904 - p < n; exact h3; exact absurd ⟨⟨h1,h2⟩,by omega⟩ h
  cases h : addS [p,n] <;> simp [oI,this,h]))
def cutsS : Nat→Int→Int→Int→List Sp
 | 0,_,_,_ => []
 | f + 1,pos,len,unit => if 0 < len then ⟨pos,min len (unit - pos % unit)⟩ :: cutsS f (pos + min len (unit - pos % unit)) (len - min len (unit - pos % unit)) unit else []
def zbfhZ (s : Sp) (unit : Int) : List Sp:=if MaySpan s∧s.len≤4096∧1≤unit then cutsS s.len.toNat s.pos s.len unit else []
theorem cutsS_step {f : Nat} {pos len unit : Int} (hf : len.toNat≤f) (hl : 0 < len) (hp : 0≤pos) (hu : 1≤unit) : cutsS f pos len unit=⟨pos,min len (unit - pos % unit)⟩ :: cutsS (len - min len (unit - pos % unit)).toNat (pos + min len (unit - pos % unit)) (len - min len (unit - pos % unit)) unit:=by
 induction f using Nat.strongRecOn generalizing pos len with
 | _ f ih =>
  have h1:=Int.emod_lt_of_pos pos (show 0 < unit by omega);have h2:=Int.emod_nonneg pos (show unit ≠ 0 by omega);cases f with
  | zero => omega
  | succ f =>
   simp only [cutsS,hl,if_true]
   congr 1
   have hm : 1≤min len (unit - pos % unit):=by omega
   generalize min len (unit - pos % unit)=m at *
   have more : ∀ (a b : Nat) (p n : Int),n.toNat≤a→n.toNat≤b→0≤p→cutsS a p n unit=cutsS b p n unit:=by
    intro a
    induction a with
    | zero =>
     intro b p n ha hb hp;cases b with
     | zero => rfl
     | succ b => simp only [cutsS]; rw [if_neg (by omega)]
    | succ a iha =>
     intro b p n ha hb hp;have h1:=Int.emod_lt_of_pos p (show 0 < unit by omega);have h2:=Int.emod_nonneg p (show unit ≠ 0 by omega);cases b with
     | zero => simp only [cutsS]; rw [if_neg (by omega)]
     | succ b =>
      simp only [cutsS]
      split
      ·rw [iha b _ _ (by omega) (by omega) (by omega)]
      ·rfl
   exact more _ _ _ _ (by omega) (by omega) (by omega)
theorem cutsS_stop {f : Nat} {pos len unit : Int} (hl : ¬ 0 < len) : cutsS f pos len unit=[]:=by
 cases f with
 | zero => rfl
 | succ f => simp only [cutsS,if_neg hl]
theorem noIdss_sp (l : List Sp) : zdcZ (l.flatMap encSp)=true:=by
 induction l with
 | nil => rfl
 | cons a l ih => rw [List.flatMap_cons]; simp [encSp,zdcZ,noIds]; simpa [encSp] using ih
theorem off_Parts_p (s : Sp) {unit : Int} (hu : unit≤9223372036854775807) : ∃ v,SV encSp 2 (zbfhZ s unit) v∧BPure Tryz.prog 66 [.agg (encSp s),I unit] v:=by
 refine BPure.sl (sz:=2) rfl (noIdss_sp _) (off_Parts_ok ?_);unfold off_Parts;obtain ⟨p,n⟩:=s;simp [encSp,ztZ];refine zyZ (zpsZ ⟨p,n⟩) ?_
 by_cases h1 : MaySpan ⟨p,n⟩
 ·simp [h1]
  by_cases h2 : 4096 < n
  ·have : zbfhZ ⟨p,n⟩ unit=[]:=if_neg (by simp only; omega)
   simp [h2,this,zaZ]
  ·simp [h2]
   by_cases h3 : unit < 1
   ·have : zbfhZ ⟨p,n⟩ unit=[]:=if_neg (by omega)
    simp [h3,this,zaZ]
   ·simp [h3]
    have hP : zbfhZ ⟨p,n⟩ unit=cutsS n.toNat p n unit:=if_pos ⟨h1,by simp only; omega,by omega⟩;simp only [MaySpan,May] at h1;refine off_Parts_L6_rule (λk x1 x2 x5 H=>∃ (pos len : Int) (l : List Sp),k=len.toNat∧x1=I unit∧x2 = .ptr 0 0∧H[0]? = some (some (.cells [I pos,I len]))∧zjsZ x5=true∧zaZ H 2 x5=some (l.flatMap encSp,l.length)∧0 ∉ idS x5 ∧
     0≤pos∧0≤len∧pos + len≤4611686018427387904∧(l.length : Int) + len≤4096∧l ++ cutsS len.toNat pos len unit=cutsS n.toNat p n unit) ?_ n.toNat
     ⟨p,n,[],rfl,rfl,rfl,rfl,rfl,rfl,by simp [idS],by omega,by omega,by omega,by simp; omega,rfl⟩
    rintro k x1 x2 x5 H R hR ⟨pos,len,l,rfl,rfl,rfl,hH,ho,hs,hid,hp,hl,hpl,hll,hc⟩;unfold zbewZ;have e1:=Int.emod_lt_of_pos pos (show 0 < unit by omega);have e2:=Int.emod_nonneg pos (show unit ≠ 0 by omega)
    by_cases hlen : 0 < len
    ·rw [cutsS_step (Nat.le_refl _) hlen hp (by omega)] at hc
     have hcomm : min (unit - pos % unit) len=min len (unit - pos % unit):=by omega
     have hm1 : 1≤min len (unit - pos % unit):=by omega
     have hm2 : min len (unit - pos % unit)≤len:=by omega
     generalize min len (unit - pos % unit)=m at hcomm hm1 hm2 hc;have hH0:=(gSI.1 hH).1;have hs1 : zaZ (H ++ [some (.cells [I pos,I m])]) 2 x5=some (l.flatMap encSp,l.length):=zcZ hs λi hi=>List.getElem?_append_left (zrZ hs i hi)
     obtain ⟨r,H2,a1,a2,a3,a4,a5,a6⟩:=zjmZ (bytes:=16) hs1 ho (znZ (v:=.sl H.length 0 1 2 (.ex 1)) (q:=([I pos,I m],1)) (by simp [zaZ])) (by omega)
     have hH2 : H2[0]? = some (some (.cells [I pos,I len])):=by
      rw [a5 0 (by simp) hid,List.getElem?_append_left hH0]; exact hH
     have hid2 : 0 ∉ idS r:=λhi=>(a6 0 hi).elim hid (by simp)
     have hH20:=(gSI.1 hH2).1
     have keep : ∀ c,zaZ (H2.set 0 c) 2 r=some ((l ++ [(⟨pos,m⟩ : Sp)]).flatMap encSp,(l ++ [(⟨pos,m⟩ : Sp)]).length):=λc=>by
      rw [zcZ a3 (λi hi=>gSN (by rintro rfl; exact hid2 hi))];simp [encSp]
     simp [hH,hlen,abI_rem (a:=pos) (b:=unit) (by omega) (by omega),zfpZ (a:=unit) (b:=pos % unit) (by omega) (by omega),hcomm,a1,hH2,zbdZ (a:=pos) (b:=m) (by omega) (by omega),zfpZ (a:=len) (b:=m) (by omega) (by omega),ast];refine hR (len - m).toNat _ _ _ _ (by omega) ?_;exact ⟨pos + m,len - m,l ++ [(⟨pos,m⟩ : Sp)],rfl,rfl,rfl,by simp [hH20],a2,keep _,hid2,by omega,by omega,by omega,by simp; omega,by simpa using hc⟩
    ·rw [cutsS_stop hlen,List.append_nil] at hc
     simp [hH,hlen];rw [hP,← hc];exact hs
 ·have : zbfhZ ⟨p,n⟩ unit=[]:=if_neg (λh=>h1 h.1)
  simp [h1,this,zaZ]
theorem ref1_Parts_p (s : Sp) {unit : Int} (hu : unit≤9223372036854775807) : ∃ v,SV encSp 2 (zbfhZ s unit) v∧BPure Tryz.prog 131 [.agg (encSp s),I unit] v:=by
 refine BPure.sl (sz:=2) rfl (noIdss_sp _) (zbdcZ ?_);unfold zyzZ;obtain ⟨p,n⟩:=s;simp [encSp,ztZ];refine zyZ (ref1_MaySpan_p ⟨p,n⟩) ?_
 by_cases h1 : MaySpan ⟨p,n⟩
 ·simp [h1]
  by_cases h2 : 4096 < n
  ·have : zbfhZ ⟨p,n⟩ unit=[]:=if_neg (by simp only; omega)
   simp [h2,this,zaZ]
  ·simp [h2]
   by_cases h3 : unit < 1
   ·have : zbfhZ ⟨p,n⟩ unit=[]:=if_neg (by omega)
    simp [h3,this,zaZ]
   ·simp [h3]
    have hP : zbfhZ ⟨p,n⟩ unit=cutsS n.toNat p n unit:=if_pos ⟨h1,by simp only; omega,by omega⟩;simp only [MaySpan,May] at h1;refine zwqZ (λk x1 x2 x5 H=>∃ (pos len : Int) (l : List Sp),k=len.toNat∧x1=I unit∧x2 = .ptr 0 0∧H[0]? = some (some (.cells [I pos,I len]))∧zjsZ x5=true∧zaZ H 2 x5=some (l.flatMap encSp,l.length)∧0 ∉ idS x5 ∧
     0≤pos∧0≤len∧pos + len≤4611686018427387904∧(l.length : Int) + len≤4096∧l ++ cutsS len.toNat pos len unit=cutsS n.toNat p n unit) ?_ n.toNat
     ⟨p,n,[],rfl,rfl,rfl,rfl,rfl,rfl,by simp [idS],by omega,by omega,by omega,by simp; omega,rfl⟩
    rintro k x1 x2 x5 H R hR ⟨pos,len,l,rfl,rfl,rfl,hH,ho,hs,hid,hp,hl,hpl,hll,hc⟩;unfold zppZ;have e1:=Int.emod_lt_of_pos pos (show 0 < unit by omega);have e2:=Int.emod_nonneg pos (show unit ≠ 0 by omega)
    by_cases hlen : 0 < len
    ·rw [cutsS_step (Nat.le_refl _) hlen hp (by omega)] at hc
     have hcomm : min (unit - pos % unit) len=min len (unit - pos % unit):=by omega
     have hm1 : 1≤min len (unit - pos % unit):=by omega
     have hm2 : min len (unit - pos % unit)≤len:=by omega
     generalize min len (unit - pos % unit)=m at hcomm hm1 hm2 hc;have hH0:=(gSI.1 hH).1;have hs1 : zaZ (H ++ [some (.cells [I pos,I m])]) 2 x5=some (l.flatMap encSp,l.length):=zcZ hs λi hi=>List.getElem?_append_left (zrZ hs i hi)
     obtain ⟨r,H2,a1,a2,a3,a4,a5,a6⟩:=zjmZ (bytes:=16) hs1 ho (znZ (v:=.sl H.length 0 1 2 (.ex 1)) (q:=([I pos,I m],1)) (by simp [zaZ])) (by omega)
     have hH2 : H2[0]? = some (some (.cells [I pos,I len])):=by
      rw [a5 0 (by simp) hid,List.getElem?_append_left hH0]; exact hH
     have hid2 : 0 ∉ idS r:=λhi=>(a6 0 hi).elim hid (by simp)
     have hH20:=(gSI.1 hH2).1
     have keep : ∀ c,zaZ (H2.set 0 c) 2 r=some ((l ++ [(⟨pos,m⟩ : Sp)]).flatMap encSp,(l ++ [(⟨pos,m⟩ : Sp)]).length):=λc=>by
      rw [zcZ a3 (λi hi=>gSN (by rintro rfl; exact hid2 hi))];simp [encSp]
     simp [hH,hlen,abI_rem (a:=pos) (b:=unit) (by omega) (by omega),zfpZ (a:=unit) (b:=pos % unit) (by omega) (by omega),hcomm,a1,hH2,zbdZ (a:=pos) (b:=m) (by omega) (by omega),zfpZ (a:=len) (b:=m) (by omega) (by omega),ast,gSS hH20];refine hR (len - m).toNat _ _ _ _ (by omega) ?_;exact ⟨pos + m,len - m,l ++ [(⟨pos,m⟩ : Sp)],rfl,rfl,rfl,by simp [hH20],a2,keep _,hid2,by omega,by omega,by omega,by simp; omega,by simpa using hc⟩
    ·rw [cutsS_stop hlen,List.append_nil] at hc
     simp [hH,hlen];rw [hP,← hc];exact hs
 ·have : zbfhZ ⟨p,n⟩ unit=[]:=if_neg (λh=>h1 h.1)
  simp [h1,this,zaZ]
def down (n unit : Int) : Int:=if May n∧1≤unit then n - n % unit else 0
def up (n unit : Int) : Option Int:=if May n∧1≤unit then if n % unit=0 then some n else if n - n % unit + unit≤4611686018427387904 then some (n - n % unit + unit) else none else none
def Within' (a b : Sp) : Prop:=MaySpan a∧MaySpan b∧(a.len=0∨(b.pos≤a.pos∧a.pos + a.len≤b.pos + b.len))
instance (a b : Sp) : Decidable (Within' a b):=by unfold Within'; infer_instance
theorem within_iff (a b : Sp) : Within a b ↔ Within' a b:=by
 unfold Within Within'
 by_cases h1 : MaySpan a <;> by_cases h2 : MaySpan b <;> simp [h1,h2]
 have h1':=h1;have h2':=h2;simp only [MaySpan,May] at h1' h2'
 by_cases h0 : a.len=0
 ·simp [h0]
 ·simp only [h0,false_or]
  unfold meet;obtain ⟨p,n⟩:=a;obtain ⟨q,m⟩:=b;simp only at h1' h2' h0 ⊢
  split
  ·rename_i h; simp only [Sp.mk.injEq]; omega
  ·rename_i h
   simp only [h1,h2,true_and] at h;simp only [Sp.mk.injEq];omega
def encB (l : List UInt8) : List AV:=l.map λb=>.lit (.int .u8 b.toNat)
theorem encB_app (a b : List UInt8) : encB (a ++ b)=encB a ++ encB b:=by simp [encB]
theorem zjeZ (a : List UInt8) : (encB a).length=a.length:=by simp [encB]
theorem zbgcZ (a : List UInt8) (n : Nat) : (encB a).take n=encB (a.take n):=by simp [encB]
theorem encB_drop (a : List UInt8) (n : Nat) : (encB a).drop n=encB (a.drop n):=by simp [encB]
theorem encB_get (a : List UInt8) (n : Nat) : (encB a)[n]? = (a[n]?).map λb=>.lit (.int .u8 b.toNat):=by simp [encB]
def encU (b : UInt8) : List AV:=[.lit (.int .u8 b.toNat)]
theorem zbctZ (l : List UInt8) : l.flatMap encU=encB l:=by
 induction l with
 | nil => rfl
 | cons a l ih => rw [List.flatMap_cons,ih]; rfl
theorem zynZ (l : List UInt8) : zdcZ (encB l)=true:=by
 induction l with
 | nil => rfl
 | cons a l ih => simpa [encB,zdcZ,noIds] using ih
def bstr (l : List UInt8) : ByteArray:=⟨l.toArray⟩
theorem zbbaZ (l : List UInt8) : (bstr l).size=l.length:=rfl
theorem toList_loop (s : ByteArray) : ∀ (n i : Nat) (r : List UInt8),s.size - i=n→ByteArray.toList.loop s i r=r.reverse ++ s.data.toList.drop i:=by
  intro n
  induction n with
  | zero =>
    intro i r h;unfold ByteArray.toList.loop
    rw [if_neg (by omega), List.drop_of_length_le (by have : s.data.toList.length = s.size := by rw [Array.length_toList]; rfl
                                                      omega)]
    simp
  | succ n ih =>
    intro i r h;unfold ByteArray.toList.loop;have hi : i < s.size:=by omega
    rw [if_pos hi,ih (i + 1) _ (by omega)];have hl : i < s.data.toList.length:=by rw [Array.length_toList]; exact hi
    rw [List.drop_eq_getElem_cons hl];simp [ByteArray.get!,getElem!_def];have : s.data[i]? = some s.data[i]:=Array.getElem?_eq_getElem hi;simp [this]
theorem toList_data (s : ByteArray) : s.toList=s.data.toList:=by
 unfold ByteArray.toList;rw [toList_loop s s.size 0 [] (by simp)];simp
theorem zbcmZ (l : List UInt8) : (bstr l).toList=l:=by rw [toList_data]; simp [bstr]
theorem avInts_encB (l : List UInt8) : avInts (encB l)=some (l.map λb=>(b.toNat : Int)):=by
 induction l with
 | nil => rfl
 | cons a l ih =>
  have : encB (a :: l) = .lit (.int .u8 a.toNat) :: encB l:=rfl;rw [this]; simp only [avInts,ih]; rfl
theorem pushAll_bytes (l : List UInt8) : pushAll (l.map λb=>(b.toNat : Int))=bstr l:=by
 unfold pushAll;rw [foldl_push_byteCells];unfold bstr
 have : (ByteArray.empty.data ++ l.toArray)=l.toArray:=by
  apply Array.ext';simp [ByteArray.empty,ByteArray.emptyWithCapacity]
  try rfl
 rw [this]
theorem acB_spec {H : AH} {x : AV} {l : List UInt8} {n : Nat} (h : zaZ H 1 x=some (encB l,n)) : acB H x=some (S (bstr l)):=by
 unfold acB
 split
 ·simp [zaZ] at h
 ·rw [h]; simp only [avInts_encB]; rw [← pushAll_bytes]; rfl
theorem abT_eql {a b : List UInt8} : abT .eql (S (bstr a)) (S (bstr b))=some (B (decide (a=b))):=by
 simp only [abT,astr2,zbcmZ,Option.map_some]
 by_cases h : a=b <;> simp [h]
theorem abT_neq {a b : List UInt8} : abT .neq (S (bstr a)) (S (bstr b))=some (B (decide (a ≠ b))):=by
 simp only [abT,astr2,zbcmZ,Option.map_some]
 by_cases h : a=b <;> simp [h]
theorem bstr_nil : (⟨#[]⟩ : ByteArray)=bstr []:=rfl
theorem SV.bytes {l : List UInt8} {v : AV} (h : SV encU 1 l v) (H : AH) : zaZ H 1 v=some (encB l,l.length):=by rw [h.2 H,zbctZ]
theorem SV.noId {α : Type} {enc : α→List AV} {sz : Nat} {l : List α} {v : AV} (h : SV enc sz l v) : idS v=[]:=by
 have:=h.1
 cases v <;> simp [idS,noIds] at this ⊢
theorem aix_byte {H : AH} {v : AV} {l : List UInt8} {n k : Nat} {i : Int} {b : UInt8} (h : zaZ H 1 v=some (encB l,n)) (hi : i=k) (hb : l[k]? = some b) : ∃ p,aixS 1 v (.lit (.int .i64 i))=some p∧(∃ c,rdAt H p=some c)∧ald false 1 H p=some (.lit (.int .u8 b.toNat)):=by
 have hl:=zcvZ h;rw [zjeZ] at hl;have hk:=(gSI.1 hb).1;obtain ⟨p,c,h1,h2,h3,h4⟩:=aixS_spec h hi (show k < n by omega);refine ⟨p,h1,⟨c,h2⟩, ?_⟩;rw [ald_at h2 (by omega) h4,zdZ]
 have:=congrArg (λl=>l[0]?) h3
 simp only [Nat.mul_one] at this;rw [List.getElem?_take_of_lt (by omega),List.getElem?_take_of_lt (by omega),List.getElem?_drop,Nat.add_zero,encB_get,hb] at this;exact this
structure Ext where
 no : Int
 b : List UInt8
 hb : b.length=8
 deriving DecidableEq
def encE (x : Ext) : List AV:=I x.no :: encB x.b
theorem zbmZ (x : Ext) : (encE x).length=9:=by simp [encE,zjeZ,x.hb]
theorem encB_all (l : List UInt8) : (encB l).all oneA=true:=by simp [encB]
@[simp] theorem encE_all (x : Ext) : (encE x).all oneA=true:=by
 show (oneA (I x.no) && (encB x.b).all oneA)=true
 rw [encB_all]; rfl
theorem zpaZ (x : Ext) : zdcZ (encE x)=true:=by
 show zdcZ (I x.no :: encB x.b)=true
 simp [zdcZ,noIds,zynZ]
@[simp] theorem encE_no (x : Ext) (t : List AV) : (encE x ++ t)[0]? = some (I x.no):=rfl
@[simp] theorem encE_no' (x : Ext) : (encE x)[0]? = some (I x.no):=rfl
@[simp] theorem rd_b (x : Ext) : ztZ true 8 (encE x) 1=some (.agg (encB x.b)):=by
 have:=x.hb
 simp [ztZ,encE,zjeZ,this,List.take_of_length_le]
@[simp] theorem rd_e (x : Ext) (t : List AV) : ztZ true 9 (encE x ++ t) 0=some (.agg (encE x)):=by
 have:=zbmZ x
 simp [ztZ,this,List.take_append_of_le_length]
@[simp] theorem rd_e' (x : Ext) : ztZ true 9 (encE x) 0=some (.agg (encE x)):=by
 have:=zbmZ x
 simp [ztZ,this,List.take_of_length_le]
theorem aiv_b {b : List UInt8} {k : Nat} {y : UInt8} (h : b[k]? = some y) (hk : k < 8) : aivA false 1 8 1 (.agg (encB b)) (I k)=some (.lit (.int .u8 y.toNat)):=by
 have : (k : Int) < 8:=by omega
 simp [aivA,aint,this,encB_get,h]
theorem ast_e {H : AH} {z : List AV} {x : Ext} {o : Nat} (ho : o=H.length) (hz : z.length=9) : ast 9 (H ++ [some (.cells z)]) (.ptr o 0) (.agg (encE x))=some (H ++ [some (.cells (encE x))]):=by
 have:=zbmZ x
 have e : zlaZ z 0 (encE x)=encE x:=by
  have hb : (encB x.b).length=8:=by rw [zjeZ,x.hb]
  unfold encE;cases hB : encB x.b with
  | nil => rw [hB] at hb; simp at hb
  | cons a r => rw [hB] at hb; simp at hb; simp [zlaZ,hz,hb]
 simp [ast,ho,this,hz,e,-zlaZ]
theorem u8z {y : UInt8} : (y.toNat=0)=(y=0):=by
 refine propext ⟨λh=>?_,λh=>by rw [h]; rfl⟩;apply UInt8.toNat_inj.1;rw [h]; rfl
def cleanB (size : Int) : Int→List UInt8→Prop
 | _,[] => True
 | p,b :: r => (b ≠ 0→p < size)∧cleanB size (p + 1) r
instance cleanB.dec (size : Int) : ∀ (p : Int) (l : List UInt8),Decidable (cleanB size p l)
 | _,[] => Decidable.isTrue True.intro
 | p,b :: r => by
  have:=cleanB.dec size (p + 1) r
  unfold cleanB; infer_instance
def zbgtZ (size : Int) (x : Ext) : Prop:=cleanB size (x.no * 8) x.b
instance (size : Int) (x : Ext) : Decidable (zbgtZ size x):=by unfold zbgtZ; infer_instance
def okL (size : Int) : Int→List Ext→Prop
 | _,[] => True
 | p,x :: r => p < x.no∧x.no < 137438953472∧zbgtZ size x∧okL size x.no r
instance okL.dec (size : Int) : ∀ (p : Int) (l : List Ext),Decidable (okL size p l)
 | _,[] => Decidable.isTrue True.intro
 | p,x :: r => by
  have:=okL.dec size x.no r
  unfold okL; infer_instance
theorem okL_cons {size p : Int} {x : Ext} {r : List Ext} : okL size p (x :: r)=(p < x.no∧x.no < 137438953472∧zbgtZ size x∧okL size x.no r):=rfl
theorem okL_nil {size p : Int} : okL size p []=True:=rfl
def mayC (size : Int) (l : List Ext) : Prop:=0≤size∧size≤1099511627776∧okL size (-1) l
instance (size : Int) (l : List Ext) : Decidable (mayC size l):=by unfold mayC; infer_instance
theorem zmiZ {α : Type} {l : List α} {k : Nat} {y : α} (h : l[k]? = some y) : l.drop k=y :: l.drop (k + 1):=by
 obtain ⟨hk,e⟩:=gSI.1 h;rw [List.drop_eq_getElem_cons hk,e]
theorem extent_clean_p (x : Ext) (size : Int) (h0 : -1≤x.no) (h1 : x.no < 137438953472) : BPure Tryz.prog 151 [.agg (encE x),I size] (B (decide (zbgtZ size x))):=BPure.val (by simp [zdcZ,noIds,zpaZ]) rfl (extent_clean_ok (by
 unfold extent_clean;simp;refine zbbkZ (λn x1 x2 x8 x9 H'=>∃ k : Nat,k + n=8∧x1=I size∧x2 = .ptr 0 0∧x8 = .agg (encB x.b)∧x9=I k∧H'=[some (.cells (encE x))]∧(zbgtZ size x ↔ cleanB size (x.no * 8 + k) (x.b.drop k))) ?_ 8 ⟨0,rfl,rfl,rfl,rfl,rfl,rfl,by simp [zbgtZ]⟩;rintro n x1 x2 x8 x9 H' R hR ⟨k,hk,rfl,rfl,rfl,rfl,rfl,hm⟩;unfold zxbZ;rcases Nat.lt_or_ge k 8 with hlt | hge
 ·have hlt' : (k : Int) < 8:=by omega
  have hx:=gEG (l:=x.b) (i:=k) (by rw [x.hb]; exact hlt);generalize x.b[k]'(by rw [x.hb]; exact hlt)=y at hx;rw [zmiZ hx] at hm;unfold cleanB at hm;simp [hlt',aiv_b hx hlt,u8z];have hkk : (k : Int) + 1=((k + 1 : Nat) : Int):=by omega
  by_cases hy : y=0
  ·simp [hy,zbdZ (a:=k) (b:=1) (by omega) (by omega)]
   refine hR (n - 1) _ _ _ _ _ (by omega) ⟨k + 1,by omega,rfl,rfl,rfl,rfl,rfl, ?_⟩;rw [hm];simp [hy,Int.add_assoc]
  ·simp [hy,zshZ (a:=x.no) (b:=8) (by omega) (by omega),zbdZ (a:=x.no * 8) (b:=k) (by omega) (by omega)]
   by_cases hs : size≤x.no * 8 + k
   ·have : ¬ zbgtZ size x:=by rw [hm]; intro h; have:=h.1 hy; omega
    simp [hs,this]
   ·simp [hs,zbdZ (a:=k) (b:=1) (by omega) (by omega)]
    refine hR (n - 1) _ _ _ _ _ (by omega) ⟨k + 1,by omega,rfl,rfl,rfl,rfl,rfl, ?_⟩;rw [hm];simp [hy,Int.add_assoc];omega
 ·have : k=8:=by omega
  subst this;have e : x.b.drop 8=[]:=by rw [List.drop_eq_nil_iff,x.hb]; omega
  rw [e] at hm;simp only [cleanB,iff_true] at hm;simp [hm]))
theorem znnZ {α : Type} {enc : α→List AV} {sz : Nat} {l : List α} {v : AV} (hv : SV enc sz l v) : oneA v=true:=by
 have h1:=hv.1;have h2:=hv.2 [];cases v with
 | lit a => cases a <;> first | rfl | (simp [zaZ] at h2)
 | _ => first | rfl | (simp [zaZ] at h2)
theorem zxwZ (no : Int) (h0 : 0≤no) (h1 : no < 137438953472) : BPure Tryz.prog 122 [I no] (.agg (encSp ⟨no * 8,8⟩)):=BPure.val (by simp [zdcZ,noIds]) rfl (extent_whole_ok (by
 unfold extent_whole;simp [zshZ (a:=no) (b:=8) (by omega) (by omega),ast,ztZ,encSp]))
theorem zjjZ {size : Int} {l : List Ext} {v : AV} (hv : SV encE 9 l v) (hl : l.length≤281474976710656) : BPure Tryz.prog 93 [.agg [I size,v]] (B (decide (mayC size l))):=BPure.val (by simp [zdcZ,noIds,hv.1]) rfl (extent_May_ok (by
 unfold extent_May;simp [znnZ hv]
 by_cases h1 : size < 0
 ·have : ¬ mayC size l:=λh=>by have:=h.1; omega
  simp [h1,this]
 ·by_cases h2 : 1099511627776 < size
  ·have : ¬ mayC size l:=λh=>by have:=h.2.1; omega
   simp [h1,h2,this]
  ·simp [h1,h2,hv.len]
   have hm : mayC size l ↔ okL size (-1) l:=by unfold mayC; constructor <;> intro h <;> simp_all <;> omega
   have e : decide (mayC size l)=decide (okL size (-1) l):=decide_eq_decide.2 hm;rw [e];refine extent_May_L7_rule (λn x1 x3 x15 x16 x17 H'=>∃ (k : Nat) (p : Int),k + n=l.length∧x1 = .ptr 0 0∧x3=I p∧x15=v∧x16=I l.length∧x17=I k∧(∃ X,H'=some (.cells [I size,v]) :: X)∧-1≤p∧(okL size (-1) l ↔ okL size p (l.drop k))) ?_ l.length ⟨0,-1,by simp,rfl,rfl,rfl,rfl,rfl,⟨[],rfl⟩,by omega,by simp⟩;rintro n x1 x3 x15 x16 x17 H' R hR ⟨k,p,hk,rfl,rfl,rfl,rfl,rfl,⟨X,rfl⟩,hp,hm⟩;unfold zbbgZ;rcases Nat.lt_or_ge k l.length with hlt | hge
   ·have hx:=gEG hlt
    generalize l[k]=y at hx;rw [zmiZ hx] at hm;rw [okL_cons] at hm;simp [hlt,hv.idx zbmZ hx rfl,-zhpZ];rw [← List.cons_append,ast_e (by simp) (by rfl)];simp
    by_cases c1 : y.no≤p
    ·have : ¬ okL size (-1) l:=by rw [hm]; intro h; omega
     simp [c1,this]
    ·by_cases c2 : 137438953472≤y.no
     ·have : ¬ okL size (-1) l:=by rw [hm]; intro h; omega
      simp [c1,c2,this]
     ·simp [c1,c2]
      refine zyZ (extent_clean_p y size (by omega) (by omega)) ?_
      by_cases c3 : zbgtZ size y
      ·simp [c3,zbdZ (a:=k) (b:=1) (by omega) (by omega)]
       refine hR (n - 1) _ _ _ _ _ _ (by omega) ⟨k + 1,y.no,by omega,rfl,rfl,rfl,rfl,rfl,⟨X ++ [some (.cells (encE y))],rfl⟩,by omega, ?_⟩;rw [hm];exact ⟨λh=>h.2.2.2,λh=>⟨by omega,by omega,c3,h⟩⟩
      ·have : ¬ okL size (-1) l:=by rw [hm]; intro h; exact c3 h.2.2.1
       simp [c3,this]
   ·have : k=l.length:=by omega
    subst this;rw [List.drop_length] at hm;simp only [okL_nil,iff_true] at hm;simp [hm]))
theorem aixA_b {b : List UInt8} {t : List AV} {k : Nat} {y : UInt8} {H : AH} (h : b[k]? = some y) (hk : k < 8) : ∃ q,aixA 8 1 (.ip (encB b ++ t)) (I k)=some q∧ald false 1 H q=some (.lit (.int .u8 y.toNat)):=by
 have hk' : (k : Int) < 8:=by omega
 have hl : k < b.length:=(gSI.1 h).1;refine ⟨.ip ((encB b ++ t).drop k),by simp [aixA,aint,hk'], ?_⟩;have hl' : k < (encB b).length:=by rw [zjeZ]; exact hl
 simp [List.getElem?_append_left hl',encB_get,h]
theorem zdoZ {size : Int} {l : List Ext} {v : AV} (hv : SV encE 9 l v) (hl : l.length≤281474976710656) : BPure Tryz.prog 159 [.agg [I size,v]] (B (decide (mayC size l))):=BPure.val (by simp [zdcZ,noIds,hv.1]) rfl (ztvZ (by
 unfold zopZ;simp [znnZ hv]
 by_cases h1 : size < 0
 ·have : ¬ mayC size l:=λh=>by have:=h.1; omega
  simp [h1,this]
 ·by_cases h2 : 1099511627776 < size
  ·have : ¬ mayC size l:=λh=>by have:=h.2.1; omega
   simp [h1,h2,this]
  ·simp [h1,h2]
   have hm : mayC size l ↔ okL size (-1) l:=by unfold mayC; constructor <;> intro h <;> simp_all <;> omega
   have e : decide (mayC size l)=decide (okL size (-1) l):=decide_eq_decide.2 hm;rw [e];refine zorZ (λn x1 x3 H'=>∃ (k : Nat) (p : Int),k + n=l.length∧x1 = .ptr 0 0∧x3=I k∧H'=[some (.cells [I size,v])]∧-1≤p∧(k=0→p = -1)∧(∀ z,0 < k→l[k - 1]? = some z→p=z.no)∧(okL size (-1) l ↔ okL size p (l.drop k))) ?_ l.length ⟨0,-1,by simp,rfl,rfl,rfl,by omega,by simp,by simp,by simp⟩;rintro n x1 x3 H' R hR ⟨k,p,hk,rfl,rfl,rfl,hp,hp0,hp1,hm⟩;unfold zifZ;rcases Nat.lt_or_ge k l.length with hlt | hge
   ·have hx:=gEG hlt
    generalize l[k]=y at hx;rw [zmiZ hx] at hm;rw [okL_cons] at hm;simp [hlt,hv.len,hv.idx zbmZ hx rfl]
    have fin : ¬ p < y.no∨¬ y.no < 137438953472→¬ okL size (-1) l:=by
     rw [hm]; intro h h'; omega
    have go : -1≤y.no→y.no < 137438953472→p < y.no→zfkZ R (.ptr 0 0) (I k) (I y.no) (I 0) [some (.cells [I size,v])] (λr H'=>r=B (decide (okL size (-1) l))):=by
     intro g1 g2 g3;refine znsZ R (λm x1 x3 x4 x5 H'=>∃ (j : Nat),j + m=8∧x1 = .ptr 0 0∧x3=I k∧x4=I y.no∧x5=I j∧H'=[some (.cells [I size,v])]∧(zbgtZ size y ↔ cleanB size (y.no * 8 + j) (y.b.drop j))) ?_ 8 ⟨0,rfl,rfl,rfl,rfl,rfl,rfl,by simp [zbgtZ]⟩;rintro m x1 x3 x4 x5 H' R2 hR2 ⟨j,hj,rfl,rfl,rfl,rfl,rfl,hc⟩;unfold zhqZ;rcases Nat.lt_or_ge j 8 with hlj | hgj
     ·have hlj' : (j : Int) < 8:=by omega
      have hy:=gEG (l:=y.b) (i:=j) (by rw [y.hb]; exact hlj);generalize y.b[j]'(by rw [y.hb]; exact hlj)=u at hy;rw [zmiZ hy] at hc;simp only [cleanB] at hc;simp [hlj',zshZ (a:=y.no) (b:=8) (by omega) (by omega),zbdZ (a:=y.no * 8) (b:=j) (by omega) (by omega)]
      have nxt : (u ≠ 0→y.no * 8 + j < size)→(bO (abI .add (I j) (I 1)) λv20=>R2 [.ptr 0 0,I k,I y.no,v20] [some (.cells [I size,v])]):=by
       intro hu;simp [zbdZ (a:=j) (b:=1) (by omega) (by omega)];refine hR2 (m - 1) _ _ _ _ _ (by omega) ⟨j + 1,by omega,rfl,rfl,rfl,rfl,rfl, ?_⟩;rw [hc];have : y.no * 8 + (j : Int) + 1=y.no * 8 + ((j + 1 : Nat) : Int):=by omega
       rw [this];exact ⟨λh=>h.2,λh=>⟨hu,h⟩⟩
      by_cases hs : size≤y.no * 8 + j
      ·obtain ⟨q,e1,e2⟩:=aixA_b (t:=(l.drop (k + 1)).flatMap encE) (H:=[some (.cells [I size,v])]) hy hlj
       have e0 : (encE y ++ (l.drop (k + 1)).flatMap encE).drop 1=encB y.b ++ (l.drop (k + 1)).flatMap encE:=rfl;simp [hs,hv.idx zbmZ hx rfl,e0,e1,e2,u8z]
       by_cases hu : u=0
       ·simp [hu]
        exact nxt (λh=>absurd hu h)
       ·have : ¬ okL size (-1) l:=by rw [hm]; intro h; have:=(hc.1 h.2.2.1).1 hu; omega
        simp [hu,this]
      ·simp [hs]
       exact nxt (λh=>by omega)
     ·have : j=8:=by omega
      subst this;have e : y.b.drop 8=[]:=by rw [List.drop_eq_nil_iff,y.hb]; omega
      rw [e] at hc;simp only [cleanB,iff_true] at hc;simp [zbdZ (a:=k) (b:=1) (by omega) (by omega)];refine hR (n - 1) _ _ _ (by omega) ⟨k + 1,y.no,by omega,rfl,rfl,rfl,by omega,by omega, ?_, ?_⟩
      ·intro z _ hz; simp [hx] at hz; rw [hz]
      ·rw [hm]
       exact ⟨λh=>h.2.2.2,λh=>⟨by omega,by omega,hc,h⟩⟩
    by_cases c1 : y.no < 0
    ·simp [c1,fin (.inl (by omega))]
    ·by_cases c2 : 137438953472≤y.no
     ·simp [c1,c2,fin (.inr (by omega))]
     ·simp [c1,c2]
      rcases Nat.eq_zero_or_pos k with k0 | k0
      ·subst k0
       simp
       have:=hp0 rfl
       exact go (by omega) (by omega) (by omega)
      ·have hxp:=gEG (l:=l) (i:=k - 1) (by omega)
       generalize l[k - 1]'(by omega)=z at hxp;have hpz:=hp1 z k0 hxp;simp [k0,zfpZ (a:=k) (b:=1) (by omega) (by omega),hv.idx zbmZ hxp (i:=(k : Int) - 1) (by omega)]
       by_cases c3 : y.no≤z.no
       ·simp [c3,fin (.inl (by omega))]
       ·simp [c3]
        exact go (by omega) (by omega) (by omega)
   ·have : k=l.length:=by omega
    subst this;rw [List.drop_length] at hm;simp only [okL_nil,iff_true] at hm;simp [hm,hv.len]))
def srt (l : List Ext) : Prop:=l.Pairwise λa b=>a.no < b.no
theorem zbgkZ {size : Int} : ∀ {l : List Ext} {p : Int},okL size p l→∀ x ∈ l,p < x.no∧x.no < 137438953472∧zbgtZ size x
 | [],p,h => by simp
 | a :: r,p,h => by
  rw [okL_cons] at h;intro x hx;rcases List.mem_cons.1 hx with rfl | hx
  ·exact ⟨h.1,h.2.1,h.2.2.1⟩
  ·have:=zbgkZ h.2.2.2 x hx
   exact ⟨by omega,this.2⟩
theorem zbfgZ {size : Int} : ∀ {l : List Ext} {p : Int},okL size p l→srt l
 | [],p,h => List.Pairwise.nil
 | a :: r,p,h => by
  rw [okL_cons] at h;exact List.Pairwise.cons (λb hb=>(zbgkZ h.2.2.2 b hb).1) (zbfgZ h.2.2.2)
theorem srt_get {l : List Ext} (h : srt l) {i j : Nat} {x y : Ext} (hi : l[i]? = some x) (hj : l[j]? = some y) (hij : i < j) : x.no < y.no:=by
 obtain ⟨h1,e1⟩:=gSI.1 hi;obtain ⟨h2,e2⟩:=gSI.1 hj
 have:=List.pairwise_iff_getElem.1 h i j h1 h2 hij
 rw [e1,e2] at this; exact this
def posL (l : List Ext) (no : Int) : Nat:=(l.takeWhile λx=>decide (x.no < no)).length
def hasL (l : List Ext) (no : Int) : Prop:=∃ x ∈ l,x.no=no
instance (l : List Ext) (no : Int) : Decidable (hasL l no):=by unfold hasL; infer_instance
theorem posL_eq {no : Int} : ∀ {l : List Ext} {i : Nat},i≤l.length→(∀ m x,m < i→l[m]? = some x→x.no < no)→(∀ x,l[i]? = some x→no≤x.no)→posL l no=i
 | [],i,hi,_,_ => by simp at hi; simp [posL,hi]
 | a :: r,0,_,_,h => by
  have:=h a (by simp)
  have : ¬ a.no < no:=by omega
  simp [posL,this]
 | a :: r,i + 1,hi,h1,h2 => by
  have:=h1 0 a (by omega) (by simp)
  have ih:=posL_eq (l:=r) (i:=i) (no:=no) (by simpa using hi) (λm x hm hx=>h1 (m + 1) x (by omega) (by simpa using hx)) (λx hx=>h2 x (by simpa using hx));unfold posL at ih ⊢;simp [this,ih]
theorem posL_le (l : List Ext) (no : Int) : posL l no≤l.length:=by
 unfold posL;exact (List.takeWhile_sublist _).length_le
theorem posL_lt {no : Int} : ∀ {l : List Ext} {m : Nat} {x : Ext},m < posL l no→l[m]? = some x→x.no < no
 | a :: r,m,x,hm,hx => by
  by_cases ha : a.no < no
  ·cases m with
   | zero => simp at hx; rw [← hx]; exact ha
   | succ m =>
    refine posL_lt (l:=r) (m:=m) ?_ (by simpa using hx);unfold posL at hm ⊢;simp [ha] at hm;exact hm
  ·unfold posL at hm
   simp [ha] at hm
 | [],m,x,hm,hx => by simp at hx
theorem posL_ge {no : Int} : ∀ {l : List Ext} {x : Ext},l[posL l no]? = some x→no≤x.no
 | a :: r,x,hx => by
  by_cases ha : a.no < no
  ·refine posL_ge (l:=r) ?_
   unfold posL at hx ⊢
   simpa [ha] using hx
  ·unfold posL at hx
   simp [ha] at hx;rw [← hx]; omega
 | [],x,hx => by simp at hx
theorem hasL_iff {l : List Ext} (h : srt l) {no : Int} : hasL l no ↔ ∃ x,l[posL l no]? = some x∧x.no=no:=by
 constructor
 ·rintro ⟨x,hx,rfl⟩
  obtain ⟨m,hm⟩:=List.mem_iff_getElem?.1 hx;refine ⟨x, ?_,rfl⟩;have : posL l x.no=m:=posL_eq (Nat.le_of_lt (gSI.1 hm).1) (λk y hk hy=>srt_get h hy hm hk) (λy hy=>by rw [hm] at hy; injection hy with hy; rw [hy]; omega);rw [this]; exact hm
 ·rintro ⟨x,hx,e⟩
  exact ⟨x,List.mem_of_getElem? hx,e⟩
def cmpI (a b : Int) : Int:=if a < b then -1 else if b < a then 1 else 0
theorem cmp_isNaN_p (a : Int) : BPure Tryz.prog 178 [I a] (B false):=BPure.flat λH=>cmp_isNaN_int_ok (by
 unfold cmp_isNaN_int
 simp)
theorem cmp_Compare_p (a b : Int) : BPure Tryz.prog 149 [I a,I b] (I (cmpI a b)):=BPure.flat λH=>cmp_Compare_int_ok (by
 unfold zbbrZ;refine zyZ (cmp_isNaN_p a) ?_;refine zyZ (cmp_isNaN_p b) ?_;unfold cmpI
 by_cases h1 : a < b
 ·simp [h1]
 ·by_cases h2 : b < a
  ·simp [h1,h2]
  ·simp [h1,h2])
theorem place1_p (x : Ext) (no : Int) : BPure Tryz.prog 180 [.agg (encE x),I no] (I (cmpI x.no no)):=BPure.val (by simp [zdcZ,noIds,zpaZ]) rfl (extent_place_1_ok (by
 unfold zbecZ;simp;refine zyZ (cmp_Compare_p x.no no) ?_
 rfl))
theorem acI_u64 {n : Int} {k : IntKind} (h1 : 0≤n) (h2 : n≤9223372036854775807) : acI .u64 (.lit (.int k n))=some (.lit (.int .u64 n)):=by
 have e1 : IntKind.u64.wrap n=n:=by
  simp [IntKind.wrap,IntKind.bits,IntKind.signed]; omega
 simp [acI,e1]
theorem abI_shr1 {n : Int} : abI .shr (.lit (.int .u64 n)) (.lit (.int .u64 1))=some (.lit (.int .u64 (n / 2))):=by
 have e2 : n.fdiv 2=n / 2:=Int.fdiv_eq_ediv_of_nonneg _ (by omega);simp [abI,ashiftOp,IntKind.bits,e2]
theorem goF55 : zbchZ Tryz.prog 180=true:=by kernel_rfl
theorem search_p {l : List Ext} {v : AV} (hv : SV encE 9 l v) (hs : srt l) (hl : l.length≤281474976710656) (no : Int) :
  BPure Tryz.prog 179 [v,I no,.fn (.func 180) [] []] (.tup [I (posL l no),B (decide (hasL l no))]):=BPure.val (by simp [zdcZ,noIds,hv.1]) rfl (zfjZ (by
 unfold zdfZ;simp [hv.len];refine zejZ (λn x0 x1 x2 x8 x9 x10 H'=>∃ i j : Nat,i + n=j∧j≤l.length∧x0=v∧x1=I no∧x2 = .fn (.func 180) [] []∧x8=I l.length∧x9=I i∧x10=I j∧H'=[]∧(∀ m x,m < i→l[m]? = some x→x.no < no)∧(∀ m x,j≤m→l[m]? = some x→no≤x.no)) ?_ l.length ⟨0,l.length,by simp,by omega,rfl,rfl,rfl,rfl,rfl,rfl,rfl,by simp,λm x hm hx=>by have:=(gSI.1 hx).1; omega⟩;rintro n x0 x1 x2 x8 x9 x10 H' R hR ⟨i,j,hij,hj,rfl,rfl,rfl,rfl,rfl,rfl,rfl,h1,h2⟩;unfold zckZ;rcases Nat.lt_or_ge i j with hlt | hge
 ·have hx:=gEG (l:=l) (i:=(i + j) / 2) (by omega)
  generalize l[(i + j) / 2]'(by omega)=y at hx;simp [hlt,zbdZ (a:=i) (b:=j) (by omega) (by omega),acI_u64 (n:=(i : Int) + j) (by omega) (by omega),abI_shr1,acI_i64 (a:=((i : Int) + j) / 2) (by omega) (by omega),hv.idx zbmZ hx (i:=((i : Int) + j) / 2) (by omega),goF55];refine bC_of (place1_p y no []) ?_;unfold cmpI
  by_cases c1 : y.no < no
  ·simp [c1,zbdZ (a:=((i : Int) + j) / 2) (b:=1) (by omega) (by omega)]
   refine hR (j - ((i + j) / 2 + 1)) _ _ _ _ _ _ _ (by omega) ⟨(i + j) / 2 + 1,j,by omega,hj,rfl,rfl,rfl,rfl,by simp,rfl,rfl, ?_,h2⟩;intro m x hm hmx
   by_cases hm2 : m=(i + j) / 2
   ·rw [hm2,hx] at hmx; injection hmx with e; rw [← e]; exact c1
   ·have:=srt_get hs hmx hx (by omega); omega
  ·have e : ¬ (if no < y.no then (1 : Int) else 0) < 0:=by split <;> omega
   simp [c1,e];refine hR ((i + j) / 2 - i) _ _ _ _ _ _ _ (by omega) ⟨i,(i + j) / 2,by omega,by omega,rfl,rfl,rfl,rfl,rfl,by simp,rfl,h1, ?_⟩;intro m x hm hmx
   by_cases hm2 : m=(i + j) / 2
   ·rw [hm2,hx] at hmx; injection hmx with e; rw [← e]; omega
   ·have:=srt_get hs hx hmx (by omega); omega
 ·have hi : i=j:=by omega
  subst hi;have hp : posL l no=i:=posL_eq (by omega) h1 (λx hx=>h2 i x (by omega) hx);rcases Nat.lt_or_ge i l.length with hil | hil
  ·have hx:=gEG (l:=l) (i:=i) hil
   generalize l[i]=y at hx
   have hh : hasL l no ↔ cmpI y.no no=0:=by
    rw [hasL_iff hs,hp]
    have:=h2 i y (by omega) hx
    constructor
    ·rintro ⟨z,hz,e⟩
     rw [hx] at hz; injection hz with hz; rw [hz,e]; unfold cmpI; simp
    ·intro e
     refine ⟨y,hx, ?_⟩;unfold cmpI at e;split at e
     ·omega
     ·split at e <;> omega
   simp [hil,hv.idx zbmZ hx rfl,goF55];refine bC_of (place1_p y no []) ?_;simp [hp,hh]
  ·have hn : ¬ hasL l no:=by
    rw [hasL_iff hs,hp];rintro ⟨z,hz,e⟩
    have:=(gSI.1 hz).1
    omega
   simp [show ¬ i < l.length by omega,hp,hn]))
theorem zbfeZ {l : List Ext} {v : AV} (hv : SV encE 9 l v) (hs : srt l) (hl : l.length≤281474976710656) (no : Int) :
  BPure Tryz.prog 152 [v,I no] (.tup [I (posL l no),B (decide (hasL l no))]):=BPure.val (by simp [zdcZ,noIds,hv.1]) rfl (extent_place_ok (by
 unfold extent_place;refine zyZ (search_p hv hs hl no) ?_
 simp))
theorem neExt_a (a c b0 b1 b2 b3 b4 b5 b6 b7 d0 d1 d2 d3 d4 d5 d6 d7 : Int) : abin Tryz.prog .neq 139 (.agg [I a,.lit (.int .u8 b0),.lit (.int .u8 b1),.lit (.int .u8 b2),.lit (.int .u8 b3),.lit (.int .u8 b4),.lit (.int .u8 b5),.lit (.int .u8 b6),.lit (.int .u8 b7)]) (.agg [I c,.lit (.int .u8 d0),.lit (.int .u8 d1),.lit (.int .u8 d2),.lit (.int .u8 d3),.lit (.int .u8 d4),.lit (.int .u8 d5),.lit (.int .u8 d6),.lit (.int .u8 d7)])=some (B !(a == c && ((b0 == d0 && (b1 == d1 && (b2 == d2 && (b3 == d3 && (b4 == d4 && (b5 == d5 && (b6 == d6 && (b7 == d7 && true)))))))) && true))):=by kernel_rfl
theorem u8i {a b : UInt8} : ((a.toNat : Int) == (b.toNat : Int))=decide (a=b):=by
 by_cases h : a=b
 ·subst h; simp
 ·have : ¬ (a.toNat : Int)=b.toNat:=λe=>h (UInt8.toNat_inj.1 (by omega))
  simp [h,this]
theorem neExt (x y : Ext) : abin Tryz.prog .neq 139 (.agg (encE x)) (.agg (encE y))=some (B (decide (x ≠ y))):=by
 obtain ⟨a,b,hb⟩:=x;obtain ⟨c,d,hd⟩:=y
 match b,d,hb,hd with
 | [b0,b1,b2,b3,b4,b5,b6,b7],[d0,d1,d2,d3,d4,d5,d6,d7],hb,hd =>
  refine (neExt_a a c b0.toNat b1.toNat b2.toNat b3.toNat b4.toNat b5.toNat b6.toNat b7.toNat d0.toNat d1.toNat d2.toNat d3.toNat d4.toNat d5.toNat d6.toNat d7.toNat).trans ?_;have e : (a == c)=decide (a=c):=by by_cases h : a=c <;> simp [h]
  simp only [u8i,e];simp
theorem extent_Equal_p {l m : List Ext} {v w : AV} (hv : SV encE 9 l v) (hw : SV encE 9 m w) (hl : l.length≤281474976710656) :
  BPure Tryz.prog 96 [v,w] (B (decide (l=m))):=BPure.val (by simp [zdcZ,noIds,hv.1,hw.1]) rfl (zmzZ (by
 unfold zgzZ;simp [hv.len,hw.len]
 by_cases h0 : l.length=m.length
 ·simp [h0]
  refine ziyZ (λn x0 x1 x12 x13 H'=>∃ k : Nat,k + n=l.length∧x0=v∧x1=w∧x12=I l.length∧x13=I k∧H'=[]∧l.take k=m.take k) ?_ l.length ⟨0,by simp,rfl,rfl,by rw [h0],rfl,rfl,rfl⟩;rintro n x0 x1 x12 x13 H' R hR ⟨k,hk,rfl,rfl,rfl,rfl,rfl,ht⟩;unfold zezZ;rcases Nat.lt_or_ge k l.length with hlt | hge
  ·have hx:=gEG hlt
   have hy:=gEG (l:=m) (i:=k) (by omega);generalize l[k]=x at hx;generalize m[k]'(by omega)=y at hy;simp [hlt,hv.idx zbmZ hx rfl,hw.idx zbmZ hy rfl,neExt]
   by_cases hxy : x=y
   ·simp [hxy,zbdZ (a:=k) (b:=1) (by omega) (by omega)]
    refine hR (n - 1) _ _ _ _ _ (by omega) ⟨k + 1,by omega,rfl,rfl,rfl,rfl,rfl, ?_⟩;rw [List.take_add_one,List.take_add_one,hx,hy,ht,hxy]
   ·have : l ≠ m:=by
     rintro rfl;rw [hx] at hy; injection hy with hy; exact hxy hy
    simp [hxy,this]
  ·have : k=l.length:=by omega
   subst this
   have e : l=m:=by
    rw [List.take_length,h0,List.take_length] at ht; exact ht
   simp [e]
 ·have : l ≠ m:=λh=>h0 (by rw [h])
  have h0' : ¬ (l.length : Int)=m.length:=by omega
  simp [h0,h0',this]))
def sameC (a : Int) (l : List Ext) (b : Int) (m : List Ext) : Prop:=a=b∧l=m
instance (a : Int) (l : List Ext) (b : Int) (m : List Ext) : Decidable (sameC a l b m):=by unfold sameC; infer_instance
theorem extent_Same_p {a b : Int} {l m : List Ext} {v w : AV} (hv : SV encE 9 l v) (hw : SV encE 9 m w) (hl : l.length≤281474976710656) :
  BPure Tryz.prog 37 [.agg [I a,v],.agg [I b,w]] (B (decide (sameC a l b m))):=BPure.val (by simp [zdcZ,noIds,hv.1,hw.1]) rfl (extent_Same_ok (by
 unfold extent_Same;simp [znnZ hv,znnZ hw]
 by_cases h : a=b
 ·simp [h]
  refine zyZ (extent_Equal_p hv hw hl) ?_;simp [sameC]
 ·simp [h,sameC]))
theorem posL_at {l : List Ext} (h : srt l) {k : Nat} {x : Ext} (hx : l[k]? = some x) : posL l x.no=k :=
 posL_eq (Nat.le_of_lt (gSI.1 hx).1) (λj y hj hy=>srt_get h hy hx hj) (λy hy=>by rw [hx] at hy; injection hy with hy; rw [hy]; omega)
theorem ref_find_p {size : Int} {l : List Ext} {v : AV} (hv : SV encE 9 l v) (hs : srt l) (hl : l.length≤281474976710656) (no : Int) :
  BPure Tryz.prog 133 [.agg [I size,v],I no] (I (if hasL l no then (posL l no : Int) else -1)):=BPure.val (by simp [zdcZ,noIds,hv.1]) rfl (zbdgZ (by
 unfold zbadZ;simp [znnZ hv];refine zwlZ (λn x1 x2 x5 H'=>∃ k : Nat,k + n=l.length∧x1=I no∧x2 = .ptr 0 0∧x5=I k∧H'=[some (.cells [I size,v])]∧∀ m x,m < k→l[m]? = some x→x.no ≠ no) ?_ l.length ⟨0,by simp,rfl,rfl,rfl,rfl,by simp⟩;rintro n x1 x2 x5 H' R hR ⟨k,hk,rfl,rfl,rfl,rfl,hm⟩;unfold zpdZ;rcases Nat.lt_or_ge k l.length with hlt | hge
 ·have hx:=gEG hlt
  generalize l[k]=x at hx;simp [hlt,hv.len,hv.idx zbmZ hx rfl]
  by_cases he : x.no=no
  ·have h1 : hasL l no:=⟨x,List.mem_of_getElem? hx,he⟩
   have h2:=posL_at hs hx;rw [he] at h2;simp [he,h1,h2]
  ·simp [he,zbdZ (a:=k) (b:=1) (by omega) (by omega)]
   refine hR (n - 1) _ _ _ _ (by omega) ⟨k + 1,by omega,rfl,rfl,rfl,rfl, ?_⟩;intro m y hmk hy
   by_cases hmk2 : m=k
   ·rw [hmk2,hx] at hy; injection hy with hy; rw [← hy]; exact he
   ·exact hm m y (by omega) hy
 ·have : ¬ hasL l no:=by
   rintro ⟨x,hx,he⟩;obtain ⟨m,hmx⟩:=List.mem_iff_getElem?.1 hx;exact hm m x (by have:=(gSI.1 hmx).1; omega) hmx he
  have hk' : k=l.length:=by omega
  simp [hk',hv.len,this]))
structure KO {κ : Type} (c : κ→κ→Int) : Prop where
 eq : ∀ a b,c a b=0 ↔ a=b
 anti : ∀ a b,c a b < 0 ↔ 0 < c b a
 trans : ∀ a b d,c a b < 0→c b d < 0→c a d < 0
section
variable {κ α : Type} {c : κ→κ→Int} {key : α→κ}
theorem KO.irr (h : KO c) (a : κ) : ¬ c a a < 0:=by have:=(h.eq a a).2 rfl; omega
theorem KO.tri (h : KO c) {a b : κ} (h1 : ¬ c a b < 0) (h2 : ¬ c b a < 0) : a=b:=by
 refine (h.eq a b).1 ?_;rw [h.anti] at h2;omega
def srtK (c : κ→κ→Int) (key : α→κ) (l : List α) : Prop:=l.Pairwise λa b=>c (key a) (key b) < 0
def posK (c : κ→κ→Int) (key : α→κ) (l : List α) (k : κ) : Nat:=(l.takeWhile λx=>decide (c (key x) k < 0)).length
def hasK (key : α→κ) (l : List α) (k : κ) : Prop:=∃ x ∈ l,key x=k
instance [DecidableEq κ] (key : α→κ) (l : List α) (k : κ) : Decidable (hasK key l k):=by unfold hasK; infer_instance
instance (c : κ→κ→Int) (key : α→κ) (l : List α) : Decidable (srtK c key l):=by unfold srtK; infer_instance
theorem zbfcZ {l : List α} (h : srtK c key l) {i j : Nat} {x y : α} (hi : l[i]? = some x) (hj : l[j]? = some y) (hij : i < j) : c (key x) (key y) < 0:=by
 obtain ⟨h1,e1⟩:=gSI.1 hi;obtain ⟨h2,e2⟩:=gSI.1 hj
 have:=List.pairwise_iff_getElem.1 h i j h1 h2 hij
 rw [e1,e2] at this; exact this
theorem posK_eq {k : κ} : ∀ {l : List α} {i : Nat},i≤l.length→(∀ m x,m < i→l[m]? = some x→c (key x) k < 0)→(∀ x,l[i]? = some x→¬ c (key x) k < 0)→posK c key l k=i
 | [],i,hi,_,_ => by simp at hi; simp [posK,hi]
 | a :: r,0,_,_,h => by
  have:=h a (by simp)
  simp [posK,this]
 | a :: r,i + 1,hi,h1,h2 => by
  have:=h1 0 a (by omega) (by simp)
  have ih:=posK_eq (l:=r) (i:=i) (k:=k) (by simpa using hi) (λm x hm hx=>h1 (m + 1) x (by omega) (by simpa using hx)) (λx hx=>h2 x (by simpa using hx));unfold posK at ih ⊢;simp [this,ih]
theorem posK_le (l : List α) (k : κ) : posK c key l k≤l.length:=by
 unfold posK;exact (List.takeWhile_sublist _).length_le
theorem posK_lt {k : κ} : ∀ {l : List α} {m : Nat} {x : α},m < posK c key l k→l[m]? = some x→c (key x) k < 0
 | a :: r,m,x,hm,hx => by
  by_cases ha : c (key a) k < 0
  ·cases m with
   | zero => simp at hx; rw [← hx]; exact ha
   | succ m =>
    refine posK_lt (l:=r) (m:=m) ?_ (by simpa using hx);unfold posK at hm ⊢;simp [ha] at hm;exact hm
  ·unfold posK at hm
   simp [ha] at hm
 | [],m,x,hm,hx => by simp at hx
theorem posK_ge {k : κ} : ∀ {l : List α} {x : α},l[posK c key l k]? = some x→¬ c (key x) k < 0
 | a :: r,x,hx => by
  by_cases ha : c (key a) k < 0
  ·refine posK_ge (l:=r) ?_
   unfold posK at hx ⊢
   simpa [ha] using hx
  ·unfold posK at hx
   simp [ha] at hx;rw [← hx]; exact ha
 | [],x,hx => by simp at hx
theorem posK_at (hc : KO c) {l : List α} (h : srtK c key l) {m : Nat} {x : α} (hm : l[m]? = some x) : posK c key l (key x)=m :=
 posK_eq (Nat.le_of_lt (gSI.1 hm).1) (λk y hk hy=>zbfcZ h hy hm hk) (λy hy=>by rw [hm] at hy; injection hy with hy; rw [hy]; exact hc.irr _)
theorem zbfsZ (hc : KO c) {l : List α} (h : srtK c key l) {k : κ} : hasK key l k ↔ ∃ x,l[posK c key l k]? = some x∧key x=k:=by
 constructor
 ·rintro ⟨x,hx,rfl⟩
  obtain ⟨m,hm⟩:=List.mem_iff_getElem?.1 hx;exact ⟨x,by rw [posK_at hc h hm]; exact hm,rfl⟩
 ·rintro ⟨x,hx,e⟩
  exact ⟨x,List.mem_of_getElem? hx,e⟩
theorem hasK_pos (hc : KO c) {l : List α} (h : srtK c key l) {k : κ} (hk : hasK key l k) : posK c key l k < l.length:=by
 obtain ⟨x,hx,-⟩:=(zbfsZ hc h).1 hk;exact (gSI.1 hx).1
theorem srtK_uniq (hc : KO c) {l : List α} (h : srtK c key l) {x y : α} (hx : x ∈ l) (hy : y ∈ l) (e : key x=key y) : x=y:=by
 obtain ⟨m,hm⟩:=List.mem_iff_getElem?.1 hx;obtain ⟨m',hm'⟩:=List.mem_iff_getElem?.1 hy;have h1:=posK_at hc h hm;have h2:=posK_at hc h hm';rw [e,h2] at h1;subst h1;rw [hm] at hm';injection hm'
def insK (c : κ→κ→Int) (key : α→κ) (l : List α) (x : α) : List α:=l.take (posK c key l (key x)) ++ x :: l.drop (posK c key l (key x))
def delK (c : κ→κ→Int) (key : α→κ) (l : List α) (k : κ) : List α:=l.take (posK c key l k) ++ l.drop (posK c key l k + 1)
theorem zuvZ {l : List α} {x y : α} : y ∈ insK c key l x ↔ y=x∨y ∈ l:=by
 unfold insK;rw [List.mem_append,List.mem_cons]
 constructor
 ·rintro (h | h | h)
  ·exact .inr (List.mem_of_mem_take h)
  ·exact .inl h
  ·exact .inr (List.mem_of_mem_drop h)
 ·rintro (h | h)
  ·exact .inr (.inl h)
  ·rw [← List.take_append_drop (posK c key l (key x)) l,List.mem_append] at h
   exact h.imp id .inr
theorem srtK_ins (hc : KO c) {l : List α} (h : srtK c key l) {x : α} (hn : ¬ hasK key l (key x)) : srtK c key (insK c key l x):=by
 unfold insK srtK
 have hl : ∀ y ∈ l.take (posK c key l (key x)),c (key y) (key x) < 0:=by
  intro y hy;obtain ⟨m,hm⟩:=List.mem_iff_getElem?.1 hy;rw [List.getElem?_take] at hm;split at hm
  ·rename_i h1; exact posK_lt h1 hm
  ·cases hm
 have hr : ∀ y ∈ l.drop (posK c key l (key x)),c (key x) (key y) < 0:=by
  intro y hy;obtain ⟨m,hm⟩:=List.mem_iff_getElem?.1 hy;rw [List.getElem?_drop] at hm
  have hg : ¬ c (key y) (key x) < 0:=by
   rcases Nat.eq_zero_or_pos m with rfl | hm0
   ·exact posK_ge hm
   ·intro h2
    have hlt : posK c key l (key x) < l.length:=by have:=(gSI.1 hm).1; omega
    have h3:=gEG hlt;exact posK_ge h3 (hc.trans _ _ _ (zbfcZ h h3 hm (by omega)) h2)
  by_cases h1 : c (key x) (key y) < 0
  ·exact h1
  ·exact absurd ⟨y,List.mem_of_getElem? hm,(hc.tri h1 hg).symm⟩ hn
 refine List.pairwise_append.2 ⟨h.sublist (List.take_sublist _ _),List.pairwise_cons.2 ⟨hr,h.sublist (List.drop_sublist _ _)⟩, ?_⟩;intro a ha b hb;rcases List.mem_cons.1 hb with rfl | hb
 ·exact hl a ha
 ·exact hc.trans _ _ _ (hl a ha) (hr b hb)
theorem delK_sub {l : List α} {k : κ} : (delK c key l k).Sublist l:=by
 unfold delK
 conv => rhs; rw [← List.take_append_drop (posK c key l k) l]
 refine List.Sublist.append (List.Sublist.refl _) ?_;rw [← List.drop_drop];exact List.drop_sublist _ _
theorem zrbZ {l : List α} (h : srtK c key l) {k : κ} : srtK c key (delK c key l k):=h.sublist delK_sub
theorem zzmZ (hc : KO c) {l : List α} (h : srtK c key l) {k : κ} (hk : hasK key l k) {y : α} : y ∈ delK c key l k ↔ y ∈ l∧key y ≠ k:=by
 obtain ⟨x,hx,rfl⟩:=(zbfsZ hc h).1 hk;have hlt:=(gSI.1 hx).1
 have e : l=l.take (posK c key l (key x)) ++ x :: l.drop (posK c key l (key x) + 1):=by
  conv => lhs; rw [← List.take_append_drop (posK c key l (key x)) l]
  rw [List.drop_eq_getElem_cons hlt,(gSI.1 hx).2]
 have hs:=h;unfold srtK at hs;generalize posK c key l (key x)=p at *;unfold delK;rw [posK_at hc h hx];rw [e] at hs;rw [List.pairwise_append,List.pairwise_cons] at hs
 constructor
 ·intro hy
  rw [List.mem_append] at hy;rcases hy with hy | hy
  ·exact ⟨List.mem_of_mem_take hy,λe2=>hc.irr (key x) (e2 ▸ hs.2.2 y hy x (by simp))⟩
  ·exact ⟨List.mem_of_mem_drop hy,λe2=>hc.irr (key x) (e2 ▸ hs.2.1.1 y hy)⟩
 ·rintro ⟨hy,hne⟩
  rw [e,List.mem_append,List.mem_cons] at hy;rw [List.mem_append];rcases hy with hy | rfl | hy
  ·exact .inl hy
  ·exact absurd rfl hne
  ·exact .inr hy
theorem insK_len {l : List α} {x : α} : (insK c key l x).length=l.length + 1:=by
 have:=posK_le (c:=c) (key:=key) l (key x)
 unfold insK;rw [List.length_append,List.length_cons,List.length_take,List.length_drop]; omega
theorem delK_len {l : List α} {k : κ} (h : posK c key l k < l.length) : (delK c key l k).length + 1=l.length:=by
 unfold delK;rw [List.length_append,List.length_take,List.length_drop]; omega
end
abbrev cmpN : List UInt8→List UInt8→Int:=Lib.compareBytes
theorem cmpN_eq : ∀ a b : List UInt8,cmpN a b=0 ↔ a=b
 | [],[] => by simp [cmpN,Lib.compareBytes]
 | [],_ :: _ => by simp [cmpN,Lib.compareBytes]
 | _ :: _,[] => by simp [cmpN,Lib.compareBytes]
 | x :: a,y :: b => by
  have ih:=cmpN_eq a b;simp only [cmpN] at ih ⊢;unfold Lib.compareBytes
  by_cases h1 : x < y
  ·have : x ≠ y:=λe=>by subst e; exact UInt8.lt_irrefl _ h1
   simp [h1,this]
  ·by_cases h2 : y < x
   ·have : x ≠ y:=λe=>by subst e; exact UInt8.lt_irrefl _ h2
    simp [h1,h2,this]
   ·have : x=y:=UInt8.le_antisymm (UInt8.not_lt.1 h2) (UInt8.not_lt.1 h1)
    simp [h1,h2,this,ih]
theorem cmpN_lt : ∀ a b : List UInt8,cmpN a b < 0 ↔ a < b
 | [],[] => by simp [cmpN,Lib.compareBytes]
 | [],_ :: _ => by simp [cmpN,Lib.compareBytes]
 | _ :: _,[] => by simp [cmpN,Lib.compareBytes]
 | x :: a,y :: b => by
  have ih:=cmpN_lt a b;simp only [cmpN] at ih ⊢;unfold Lib.compareBytes;rw [List.cons_lt_cons_iff]
  by_cases h1 : x < y
  ·simp [h1]
  ·by_cases h2 : y < x
   ·have : x ≠ y:=λe=>by subst e; exact UInt8.lt_irrefl _ h2
    simp [h1,h2,this]
   ·have : x=y:=UInt8.le_antisymm (UInt8.not_lt.1 h2) (UInt8.not_lt.1 h1)
    simp [h1,h2,this,ih]
theorem cmpN_gt : ∀ a b : List UInt8,0 < cmpN a b ↔ b < a
 | [],[] => by simp [cmpN,Lib.compareBytes]
 | [],_ :: _ => by simp [cmpN,Lib.compareBytes]
 | _ :: _,[] => by simp [cmpN,Lib.compareBytes]
 | x :: a,y :: b => by
  have ih:=cmpN_gt a b;simp only [cmpN] at ih ⊢;unfold Lib.compareBytes;rw [List.cons_lt_cons_iff]
  by_cases h1 : x < y
  ·have : ¬ y < x:=λh=>UInt8.lt_asymm h1 h
   have h3 : y ≠ x:=λe=>by subst e; exact UInt8.lt_irrefl _ h1
   simp [h1,this,h3]
  ·by_cases h2 : y < x
   ·simp [h1,h2]
   ·have : x=y:=UInt8.le_antisymm (UInt8.not_lt.1 h2) (UInt8.not_lt.1 h1)
    simp [h1,h2,this,ih]
theorem koN : KO cmpN where
 eq:=cmpN_eq
 anti a b:=by rw [cmpN_lt,cmpN_gt]
 trans a b d h1 h2:=by rw [cmpN_lt] at *; exact List.lt_trans h1 h2
theorem zbazZ : ∀ a b : List UInt8,Op.bytesLess a b=decide (cmpN a b < 0)
 | [],[] => by simp [Op.bytesLess,cmpN,Lib.compareBytes]
 | _ :: _,[] => by simp [Op.bytesLess,cmpN,Lib.compareBytes]
 | [],_ :: _ => by simp [Op.bytesLess,cmpN,Lib.compareBytes]
 | x :: a,y :: b => by
  have ih:=zbazZ a b;simp only [cmpN] at ih ⊢;unfold Op.bytesLess Lib.compareBytes;rw [ih]
  by_cases h1 : x < y
  ·simp [h1]
  ·by_cases h2 : y < x
   ·have : x ≠ y:=λe=>by subst e; exact UInt8.lt_irrefl _ h2
    simp [h1,h2,this]
   ·have : x=y:=UInt8.le_antisymm (UInt8.not_lt.1 h2) (UInt8.not_lt.1 h1)
    simp [h1,h2,this]
theorem abT_geq {a b : List UInt8} : abT .geq (S (bstr a)) (S (bstr b))=some (B (decide (¬ cmpN a b < 0))):=by
 simp only [abT,astr2,zbcmZ,Option.map_some,zbazZ]
 by_cases h : cmpN a b < 0 <;> simp [h]
theorem abT_lss {a b : List UInt8} : abT .lss (S (bstr a)) (S (bstr b))=some (B (decide (cmpN a b < 0))):=by
 simp only [abT,astr2,zbcmZ,Option.map_some,zbazZ]
theorem aivT_spec {l : List UInt8} {k : Nat} {i : Int} {y : UInt8} (hi : i=k) (h : l[k]? = some y) : aivT (S (bstr l)) (I i)=some (.lit (.int .u8 y.toNat)):=by
 subst hi
 have : (bstr l)[k]? = some y:=by
  obtain ⟨h1,h2⟩:=gSI.1 h;have hs : k < (bstr l).size:=by rw [zbbaZ]; exact h1
  rw [getElem?_pos (bstr l) k hs]
  congr 1
 simp [aivT,aint,this]
theorem alnT_spec {l : List UInt8} (h : l.length≤9223372036854775807) : alnT (S (bstr l))=some (I l.length):=by
 simp [alnT,zbbaZ]
end Go.Proofs.YtlhiaihmkjlaaaaGreat.Av
end
section
namespace Go.Proofs.YtlhiaihmkjlaaaaGreat.Av
open Go Go.RowKit
structure Sl (α : Type) where
 l : List α
 nil : Bool
structure Rd (P : Program) (t : TypeId) (α : Type) where
 size : Nat
 enc : α→List AV
 ok : α→Prop
 cells : P.cellsOf t=size
 read : ∀ {H : Type} {e : TypeId × Value→H} {W : World} {fuel : Nat} {cs : List Value} {d : DataW H × List MemPlace},DataW.trod e P W 0 (λ_=>true) true fuel t cs=some d →
  ∃ x,ok x∧cs.length=size∧VRs (Cfg.start W) (enc x) cs∧∀ u ∈ cs,u.oneCell'=true
section
variable {P : Program}
def Rd.int {t : TypeId} (k : IntKind) (hu : P.underlying t=some (.int k)) (hc : P.cellsOf t=1) : Rd P t Int where
 size:=1
 enc n:=[.lit (.int k n)]
 ok n:=k.min≤n∧n≤k.max
 cells:=hc
 read {H e W fuel cs d} h:=by
  obtain ⟨n,rfl,-,hw⟩:=DataW.trod_int hu h;refine ⟨n,by simpa [Lit.wf] using hw,rfl,.cons (by simp only [VR]) .nil,by simp [Value.oneCell']⟩
def Rd.bool {t : TypeId} (hu : P.underlying t=some .bool) (hc : P.cellsOf t=1) : Rd P t Bool where
 size:=1
 enc b:=[.lit (.bool b)]
 ok _:=True
 cells:=hc
 read {H e W fuel cs d} h:=by
  obtain ⟨b,rfl,-⟩:=DataW.trod_bool hu h;exact ⟨b,trivial,rfl,.cons (by simp only [VR]) .nil,by simp [Value.oneCell']⟩
theorem read_row {t : TypeId} {α : Type} (E : Rd P t α) {W : World} {a : Addr} {H : Type} {e : TypeId × Value→H} {fuel : Nat} : ∀ (n : Nat) (ds : List (DataW H × List MemPlace)),ds.length=n →
  (∀ i,i < n→(W.cells? 0 (a.add (i * P.cellsOf t)) (P.cellsOf t)).bind (DataW.trod e P W 0 (λ_=>true) true fuel t)=ds[i]?) →
  ∃ (xs : List α) (vs : List Value),xs.length=n∧(∀ x ∈ xs,E.ok x)∧vs.length=n * E.size∧VRs (Cfg.start W) (xs.flatMap E.enc) vs∧∀ (i : Nat) (v : Value),vs[i]? = some v→W.cell? (a.add i)=some v∧v.oneCell'=true
 | 0,ds,hl,h => ⟨[],[],rfl,by simp,by simp,.nil,by simp⟩
 | n + 1,ds,hl,h => by
  obtain ⟨xs,vs,h1,h2,h3,h4,h5⟩:=read_row E n (ds.take n) (by rw [List.length_take]; omega) (λi hi=>by
   rw [h i (by omega),List.getElem?_take,if_pos hi])
  have hn:=h n (by omega);rw [gEG (by omega)] at hn;obtain ⟨cs,hcs,htr⟩:=Option.bind_eq_some_iff.1 hn;obtain ⟨x,hx,hxl,hxv,hx1⟩:=E.read htr;obtain ⟨-,hcl,hcell⟩:=World.cells?_some hcs;refine ⟨xs ++ [x],vs ++ cs,by simp [h1], ?_, ?_, ?_, ?_⟩
  ·intro y hy
   simp only [List.mem_append,List.mem_singleton] at hy;rcases hy with hy | rfl
   ·exact h2 y hy
   ·exact hx
  ·rw [List.length_append,h3,hxl,Nat.succ_mul]
  ·rw [List.flatMap_append]
   simpa using h4.append hxv
  ·intro i v hv
   rcases Nat.lt_or_ge i vs.length with hlt | hge
   ·rw [List.getElem?_append_left hlt] at hv
    exact h5 i v hv
   ·rw [List.getElem?_append_right hge,h3] at hv
    have hlt:=(gSI.1 hv).1
    have:=hcell (i - n * E.size) (by rw [← hcl]; exact hlt)
    rw [hv,E.cells,Addr.add_add] at this;rw [show n * E.size + (i - n * E.size)=i by omega] at this;exact ⟨this,hx1 v (List.mem_of_getElem? hv)⟩
def Rd.slice {t e : TypeId} {α : Type} (E : Rd P e α) (hu : P.underlying t=some (.slice e)) (hc : P.cellsOf t=1) : Rd P t (Sl α) where
 size:=1
 enc s:=[if s.nil then .lit (.slice none 0 0) else .imm (s.l.flatMap E.enc) s.l.length E.size]
 ok s:=(s.nil=true→s.l=[])∧s.l.length≤maxLen∧∀ x ∈ s.l,E.ok x
 cells:=hc
 read {H e' W fuel cs d} h:=by
  rcases DataW.trod_slice hu h with ⟨rfl,-⟩ | ⟨a,len,cap,elems,rest,n,-,rfl,-,-,h1,h2,h3,h4,-,-⟩
  ·exact ⟨⟨[],true⟩,⟨λ_=>rfl,by simp,by simp⟩,rfl,.cons (by simp only [if_true,VR]) .nil,by simp [Value.oneCell']⟩
  ·obtain ⟨xs,vs,g1,g2,g3,g4,g5⟩:=read_row E len elems h3 h4
   refine ⟨⟨xs,false⟩,⟨by simp,by simp only; omega,g2⟩,rfl,.cons ?_ .nil,by simp [Value.oneCell']⟩;simp only [Bool.false_eq_true,if_false,VR];refine ⟨a,cap,vs,by rw [g1],by omega,.inr ⟨λhh=>hh.elim id id,g5⟩,g4⟩
structure Rds (P : Program) (fs : List Field) (off total : Nat) (α : Type) where
 enc : α→List AV
 ok : α→Prop
 le : off≤total
 read : ∀ {H : Type} {e : TypeId × Value→H} {W : World} {fuel : Nat} {cs : List Value} {ds : List (DataW H × List MemPlace)},cs.length=total→ds.length=fs.length →
  (∀ (i : Nat) (f : Field),fs[i]? = some f→DataW.trod e P W 0 (λ_=>true) true fuel f.type ((cs.drop f.offset).take (P.cellsOf f.type))=ds[i]?) →
  ∃ x,ok x∧VRs (Cfg.start W) (enc x) (cs.drop off)∧∀ u ∈ cs.drop off,u.oneCell'=true
def Rds.nil (P : Program) (total : Nat) : Rds P [] total total Unit where
 enc _:=[]
 ok _:=True
 le:=Nat.le_refl _
 read {H e W fuel cs ds} hl _ _:=⟨(),trivial,by rw [List.drop_of_length_le (by omega)]; exact .nil,by rw [List.drop_of_length_le (by omega)]; simp⟩
def Rds.cons {f : Field} {fs : List Field} {t : TypeId} {off total : Nat} {α β : Type} (E : Rd P t α) (R : Rds P fs (off + E.size) total β) (ht : f.type=t) (ho : f.offset=off) : Rds P (f :: fs) off total (α × β) where
 enc x:=E.enc x.1 ++ R.enc x.2
 ok x:=E.ok x.1∧R.ok x.2
 le:=Nat.le_trans (Nat.le_add_right _ _) R.le
 read {H e W fuel cs ds} hl hd h:=by
  subst ht;cases ds with
  | nil => simp at hd
  | cons d ds =>
   have h0:=h 0 f rfl;simp only [gCZ] at h0;obtain ⟨x,hx,hxl,hxv,hx1⟩:=E.read h0;obtain ⟨y,hy,hyv,hy1⟩:=R.read hl (by simpa using hd) (λi g hg=>by simpa using h (i + 1) g (by simpa using hg))
   have e1 : cs.drop off=(cs.drop f.offset).take (P.cellsOf f.type) ++ cs.drop (off + E.size):=by
    rw [ho,E.cells];rw [← List.drop_drop,List.take_append_drop]
   rw [e1];refine ⟨(x,y),⟨hx,hy⟩,hxv.append hyv, ?_⟩;intro u hu;rcases List.mem_append.1 hu with hu | hu
   ·exact hx1 u hu
   ·exact hy1 u hu
def Rd.struct {t : TypeId} {fs : Array Field} {total : Nat} {α : Type} (R : Rds P fs.toList 0 total α) (hu : P.underlying t=some (.struct fs)) (hc : P.cellsOf t=total) : Rd P t α where
 size:=total
 enc:=R.enc
 ok:=R.ok
 cells:=hc
 read {H e W fuel cs d} h:=by
  obtain ⟨xs,n,-,-,hl,hxl,hx⟩:=DataW.trod_struct hu h;rw [hc] at hl;obtain ⟨x,h1,h2,h3⟩:=R.read (ds:=xs) hl (by simpa using hxl) (λi f hf=>hx i f (by simpa using hf));exact ⟨x,h1,hl,by simpa using h2,by simpa using h3⟩
theorem Rd.arg1 {t : TypeId} {α : Type} (E : Rd P t α) {H : Type} {e : TypeId × Value→H} {W : World} {v : Value} {d : DataW H} {ps : List MemPlace} (hv : v.cells = #[v])
  (h : DataW.Trod e P W 0 (λ_=>true) true t v d ps) : ∃ x,E.ok x∧VRs (Cfg.start W) (E.enc x) [v]:=by
 obtain ⟨fuel,h⟩:=h;obtain ⟨x,h1,-,h2,-⟩:=E.read h;rw [hv] at h2;exact ⟨x,h1,h2⟩
end
end Go.Proofs.YtlhiaihmkjlaaaaGreat.Av
end
section
namespace Go.Proofs.YtlhiaihmkjlaaaaGreat.Av
open Go Go.RowKit
def Rd.byte {P : Program} {t : TypeId} (hu : P.underlying t=some (.int .u8)) (hc : P.cellsOf t=1) : Rd P t UInt8 where
 size:=1
 enc b:=[.lit (.int .u8 b.toNat)]
 ok _:=True
 cells:=hc
 read {H e W fuel cs d} h:=by
  obtain ⟨n,rfl,-,hw⟩:=DataW.trod_int hu h;have hb : 0≤n∧n≤255:=by simpa [Lit.wf,IntKind.min,IntKind.max,IntKind.signed,IntKind.bits] using hw
  refine ⟨UInt8.ofNat n.toNat,trivial,rfl,.cons ?_ .nil,by simp [Value.oneCell']⟩;simp only [VR]
  congr 1
  have : n.toNat < 256:=by omega
  rw [UInt8.toNat_ofNat_of_lt' this];omega
section
variable {P : Program} {f : FuncId} {args : List AV}
theorem BPure.of_true (h : ACalls P f [] [] λr _=>r=B true) : BPure P f [] (B true):=λH=>
 ACalls.pure (R':=λr=>r=B true) h (by simp only [Bels]) (λr X hr=>⟨1,r,by rw [hr]; rfl,hr⟩) H
theorem law_of {H : AH} (h : ∃ r H',r=B true∧BCall P f args H r H') : ACalls P f args H λr _=>r = .lit (.bool true):=by
 obtain ⟨r,H',rfl,h⟩:=h;exact h.mono λr1 H1 h1=>h1.1
end
end Go.Proofs.YtlhiaihmkjlaaaaGreat.Av
end
section
namespace Go.Proofs.YtlhiaihmkjlaaaaGreat.Av
open Go Go.RowKit
def FZ (X : AH) (v R : AV) : Prop:=∃ n0,∀ n,n0≤n→frz X n v=some R
def FZs (X : AH) (vs Rs : List AV) : Prop:=∃ n0,∀ n,n0≤n→mapO (frz X n) vs=some Rs
theorem FZs.nil {X : AH} : FZs X [] []:=⟨0,λ_ _=>rfl⟩
theorem FZs.cons {X : AH} {v R : AV} {vs Rs : List AV} (h : FZ X v R) (hs : FZs X vs Rs) : FZs X (v :: vs) (R :: Rs):=by
 obtain ⟨a,ha⟩:=h;obtain ⟨b,hb⟩:=hs;exact ⟨a + b,λn hn=>by simp only [mapO,ha n (by omega),hb n (by omega)]⟩
theorem FZ.agg {X : AH} {vs Rs : List AV} (hs : FZs X vs Rs) : FZ X (.agg vs) (.agg Rs):=by
 obtain ⟨b,hb⟩:=hs;refine ⟨b + 1,λn hn=>?_⟩;cases n with
 | zero => omega
 | succ n => simp only [frz,hb n (by omega)]; rfl
theorem FZ.tup {X : AH} {vs Rs : List AV} (hs : FZs X vs Rs) : FZ X (.tup vs) (.tup Rs):=by
 obtain ⟨b,hb⟩:=hs;refine ⟨b + 1,λn hn=>?_⟩;cases n with
 | zero => omega
 | succ n => simp only [frz,hb n (by omega)]; rfl
theorem FZ.lit {X : AH} (v : Value) : FZ X (.lit v) (.lit v):=⟨1,λn hn=>by cases n with
 | zero => omega
 | succ n => rfl⟩
theorem FZ.same {X : AH} {v : AV} (h : noIds v=true) : FZ X v v:=frz_noIds X v h
theorem FZ.sv {α : Type} {enc : α→List AV} {X : AH} {sz : Nat} {l : List α} {v : AV} (h : zaZ X sz v=some (l.flatMap enc,l.length)) (hc : zdcZ (l.flatMap enc)=true) : ∃ R,SV enc sz l R∧FZ X v R:=by
 obtain ⟨R,n0,h1,h2,h3⟩:=frz_slice h hc;exact ⟨R,⟨h1,h2⟩,n0,h3⟩
section
variable {P : Program} {f : FuncId} {args : List AV}
theorem BPure.FZ {Q : AV→Prop} (hb : zdcZ args=true) (h : ∃ r X,(∃ R,Av.FZ X r R∧Q R)∧BCall P f args [] r X) : ∃ R,Q R∧BPure P f args R:=by
 obtain ⟨r,X,⟨R,⟨n,hn⟩,hq⟩,h⟩:=h;exact BPure.fz hb ⟨r,X,⟨n,R,hn n (Nat.le_refl _),hq⟩,h⟩
theorem PCall.lend {H : AH} {args' : List AV} {x : AV} (hs : FZs H args args') (hx : flatA x=true) (h : BPure P f args' x) : PCall P f args H x:=by
 obtain ⟨n,hn⟩:=hs;exact .inr ⟨n,args',hn n (Nat.le_refl _),hx,h⟩
end
theorem noIdss_app : ∀ {a b : List AV},zdcZ a=true→zdcZ b=true→zdcZ (a ++ b)=true
 | [],b,_,h => h
 | x :: a,b,h1,h2 => by
  simp only [zdcZ,Bool.and_eq_true,List.cons_append] at h1 ⊢;exact ⟨h1.1,noIdss_app h1.2 h2⟩
theorem zipZ {α : Type} {enc : α→List AV} : ∀ {l : List α},(∀ x ∈ l,zdcZ (enc x)=true)→zdcZ (l.flatMap enc)=true
 | [],_ => rfl
 | a :: l,h => by
  rw [List.flatMap_cons];exact noIdss_app (h a (by simp)) (zipZ λx hx=>h x (by simp [hx]))
theorem zbabZ {H : AH} {sz n : Nat} {v : AV} {cs : List AV} (h : zaZ H sz v=some (cs,n)) (ho : zjsZ v=true) (hn : 0 < n) :
  ∃ o off cap cells,v = .sl o off n sz cap∧H[o]? = some (some (.cells cells))∧off + n * sz≤cells.length∧cs=(cells.drop off).take (n * sz):=by
 unfold zaZ at h;split at h
 ·simp [zjsZ] at ho
 ·rename_i o off len esz cap
  split at h
  ·rename_i c hoc
   split at h
   ·rename_i hb
    obtain ⟨rfl,hb⟩:=hb;injection h with h; injection h with h1 h2;subst h1; subst h2;exact ⟨o,off,cap,c,rfl,hoc,hb,rfl⟩
   ·cases h
  ·cases h
 ·injection h with h; injection h with h1 h2; omega
 ·injection h with h; injection h with h1 h2; omega
 ·cases h
theorem zzkZ {cs xs : List AV} {k : Nat} (h : k + xs.length≤cs.length) : (over cs k xs).length=cs.length:=by
 unfold over;simp only [List.length_append,List.length_take,List.length_drop]; omega
theorem zbebZ {cs xs : List AV} {k : Nat} (h : k + xs.length≤cs.length) (i : Nat) : (over cs k xs)[i]? = if k≤i∧i < k + xs.length then xs[i - k]? else cs[i]?:=by
 have h1 : (cs.take k).length=k:=by rw [List.length_take]; omega
 unfold over
 split
 ·rename_i c
  rw [List.getElem?_append_left (by rw [List.length_append]; omega),List.getElem?_append_right (by omega),h1]
 ·rename_i c
  by_cases c1 : i < k
  ·rw [List.append_assoc,List.getElem?_append_left (by omega),List.getElem?_take,if_pos c1]
  ·rw [List.getElem?_append_right (by rw [List.length_append]; omega),List.length_append,h1,List.getElem?_drop]
   congr 1; omega
theorem zbfwZ {cs xs : List AV} {off m k : Nat} (h1 : off + m≤cs.length) (h2 : k + xs.length≤m) : ((over cs (off + k) xs).drop off).take m=over ((cs.drop off).take m) k xs:=by
 refine List.ext_getElem? λi=>?_
 rw [List.getElem?_take,List.getElem?_drop,zbebZ (by omega),zbebZ (by rw [List.length_take,List.length_drop]; omega),List.getElem?_take,List.getElem?_drop]
 by_cases c : i < m
 ·rw [if_pos c]
  by_cases c2 : k≤i∧i < k + xs.length
  ·rw [if_pos c2,if_pos (by omega)]; congr 1; omega
  ·rw [if_neg c2,if_neg (by omega),if_pos c]
 ·rw [if_neg c,if_neg (by omega),if_neg c]
theorem zbfzZ {α : Type} {enc : α→List AV} {sz : Nat} (hsz : ∀ x,(enc x).length=sz) {l : List α} {k q : Nat} {x y : α} {xs : List AV} (hx : l[k]? = some x) (hy : enc y=over (enc x) q xs) (hq : q + xs.length≤sz) :
  over (l.flatMap enc) (k * sz + q) xs=(l.set k y).flatMap enc:=by
 induction l generalizing k with
 | nil => simp at hx
 | cons a l ih =>
  cases k with
  | zero =>
   simp at hx;subst hx;rw [List.set_cons_zero,List.flatMap_cons,List.flatMap_cons,hy];have ha:=hsz a;unfold over;rw [Nat.zero_mul,Nat.zero_add,List.take_append_of_le_length (by omega),List.drop_append_of_le_length (by omega)];simp [List.append_assoc]
  | succ k =>
   simp at hx;rw [List.set_cons_succ,List.flatMap_cons,List.flatMap_cons,← ih hx];have ha:=hsz a;unfold over;have e : (k + 1) * sz + q=(enc a).length + (k * sz + q):=by rw [ha,Nat.succ_mul]; omega
   rw [e,List.take_length_add_append,show (enc a).length + (k * sz + q) + xs.length=(enc a).length + (k * sz + q + xs.length) by omega,List.drop_length_add_append];simp [List.append_assoc]
end Go.Proofs.YtlhiaihmkjlaaaaGreat.Av
end
section
namespace Go.Proofs.YtlhiaihmkjlaaaaGreat.Av
open Go Go.RowKit
theorem ExtR.apart {P : Program} {k : FuncId} {fn : Func} {tS tR e : TypeId} {size : Nat} (hf : P.funcs[k]? = some fn) (hname : (fn.name == "runtime.NumGoroutine") = false) (hb : fn.body.isNone = true) (hn : Extern.findNext fn = none)
  (he : Extern.find fn=some (Extern.SlicesOverlaps.overlaps #[tS,tS] #[tR])) (ht : P.underlying tS=some (.slice e)) (hz : ∀ w,(Go.sizeOf e).run P w = .ok size w)
  {H : AH} {oa offa la ea ka ob offb lb eb kb : Nat} {ca cb : List AV} (ha : H[oa]? = some (some (.cells ca))) (hbo : H[ob]? = some (some (.cells cb))) (hne : oa ≠ ob) (hka : ka ≠ 0) (hkb : kb ≠ 0) (hcb : cb ≠ []) :
  ExtR P k [.sl oa offa la ea (.ex ka),.sl ob offb lb eb (.ex kb)] H (B false):=by
 intro G vs hr hv;simp only [VRs] at hv;obtain ⟨v,r,rfl,h1,v2,r2,rfl,h2,rfl⟩:=hv;simp only [VR] at h1 h2;obtain ⟨ho1,a,c,rfl,hl1,hs1⟩:=h1;obtain ⟨ho2,a2,c2,rfl,hl2,hs2⟩:=h2;have hc1 : c ≠ 0:=by simp only [SlAt] at hs1; omega
 have hc2 : c2 ≠ 0:=by simp only [SlAt] at hs2; omega
 obtain ⟨rfl,-⟩:=zrrZ hs1 hc1;obtain ⟨rfl,-⟩:=zrrZ hs2 hc2;obtain ⟨q1,e1,u1,p1,p2,p3,p4,p5⟩:=hr.obj _ _ ha;obtain ⟨q2,e2,u2,w1,w2,w3,w4,w5⟩:=hr.obj _ _ hbo;have hblk : (G.μ oa).1 ≠ (G.μ ob).1:=λh=>hne (hr.inj _ _ _ _ ha hbo h)
 have hlen : 0 < cb.length:=by cases cb with
  | nil => exact absurd rfl hcb
  | cons a r => simp
 refine ⟨.bool false, ?_,by simp only [VR]⟩;rw [run_callFunc_extern hf hname hb hn he]
 have:=Go.Lib.run_overlaps_apart (P:=P) G.w tS tR e ht size hz ⟨(G.μ oa).1,(G.μ oa).2.1 + offa,none⟩ ⟨(G.μ ob).1,(G.μ ob).2.1 + offb,none⟩ la c lb c2 hblk e1 e2 q1.size q2.size
  (by simp [World.shape?,p1]) (by simp [World.shape?,w1]) (by omega) (by simp [World.frozen?,p1]) (by simp [World.frozen?,p1])
 show (((Extern.SlicesOverlaps.overlaps #[tS,tS] #[tR]) _).run P G.w).andThen _=_
 have e : (#[Value.slice (some ⟨(G.μ oa).1,(G.μ oa).2.1 + offa,none⟩) la c,Value.slice (some ⟨(G.μ ob).1,(G.μ ob).2.1 + offb,none⟩) lb c2] : Array Value)=[Value.slice (some ⟨(G.μ oa).1,(G.μ oa).2.1 + offa,none⟩) la c,Value.slice (some ⟨(G.μ ob).1,(G.μ ob).2.1 + offb,none⟩) lb c2].toArray:=rfl;rw [← e,this];rfl
mutual
def AV.ren (σ : Nat→Nat × Nat) : AV→AV
 | .lit v => .lit v
 | .ptr o off => .ptr (σ o).1 ((σ o).2 + off)
 | .ip cs => .ip (rens σ cs)
 | .sl o off len esz cap => .sl (σ o).1 ((σ o).2 + off) len esz cap
 | .imm cs len esz => .imm (rens σ cs) len esz
 | .mp o => .mp (σ o).1
 | .agg cs => .agg (rens σ cs)
 | .tup cs => .tup (rens σ cs)
 | .fn f a b => .fn f (rens σ a) (rens σ b)
 | .emp => .emp
 | .junk => .junk
def rens (σ : Nat→Nat × Nat) : List AV→List AV
 | [] => []
 | a :: r => a.ren σ :: rens σ r
end
mutual
theorem ren_same {σ : Nat→Nat × Nat} {m : Nat} (h : ∀ o,o < m→σ o=(o,0)) : ∀ {a : AV},Bel m a→a.ren σ=a
 | .lit v,_ => rfl
 | .ptr o off,hb => by simp only [Bel] at hb; simp only [AV.ren,h o hb,Nat.zero_add]
 | .ip cs,hb => by simp only [Bel] at hb; simp only [AV.ren,znuZ h hb]
 | .sl o off len esz cap,hb => by simp only [Bel] at hb; simp only [AV.ren,h o hb,Nat.zero_add]
 | .imm cs len esz,hb => by simp only [Bel] at hb; simp only [AV.ren,znuZ h hb]
 | .mp o,hb => by simp only [Bel] at hb; simp only [AV.ren,h o hb]
 | .agg cs,hb => by simp only [Bel] at hb; simp only [AV.ren,znuZ h hb]
 | .tup cs,hb => by simp only [Bel] at hb; simp only [AV.ren,znuZ h hb]
 | .fn f a b,hb => by simp only [Bel] at hb; simp only [AV.ren,znuZ h hb.1,znuZ h hb.2]
 | .emp,_ => rfl
 | .junk,_ => rfl
theorem znuZ {σ : Nat→Nat × Nat} {m : Nat} (h : ∀ o,o < m→σ o=(o,0)) : ∀ {asx : List AV},Bels m asx→rens σ asx=asx
 | [],_ => rfl
 | a :: r,hb => by simp only [Bels] at hb; simp only [rens,ren_same h hb.1,znuZ h hb.2]
end
def Cfg.ren (G : Cfg) (σ : Nat→Nat × Nat) (lim : Nat→Option Nat) (n2 : Nat) : Cfg :=
 { w:=G.w,n:=n2,μ:=λo=>((G.μ (σ o).1).1,(G.μ (σ o).1).2.1 + (σ o).2,(lim o).getD ((G.μ (σ o).1).2.2 - (σ o).2)),L:=G.L,K:=G.K }
def noLim : Nat→Option Nat:=λ_=>none
theorem SlAt.ren {m : Nat × Nat × Nat} {sh off esz : Nat} {cap : Room} {a : Addr} {c : Nat} (h : SlAt m (sh + off) esz cap a c) : SlAt (m.1,m.2.1 + sh,m.2.2 - sh) off esz cap a c:=by
 unfold SlAt at h ⊢;cases cap with
 | ex k =>
  simp only at h ⊢;refine ⟨h.1,h.2.imp id λh2=>⟨by rw [h2.1,Nat.add_assoc],by have:=h2.2; omega⟩⟩
 | ge k =>
  simp only at h ⊢;refine ⟨h.1,h.2.imp id λh2=>⟨by rw [h2.1,Nat.add_assoc],by have:=h2.2; omega⟩⟩
mutual
theorem VR.ren {G : Cfg} {σ : Nat→Nat × Nat} {lim : Nat→Option Nat} {n2 m2 : Nat} (hl : ∀ o,o < m2→lim o=none) (hm : m2≤n2) : ∀ {a : AV} {v : Value},VR G (a.ren σ) v→Bel m2 a→VR (G.ren σ lim n2) a v
 | .lit _,_,h,_ => by simpa only [AV.ren,VR] using h
 | .ptr o off,v,h,hb => by
  simp only [AV.ren,VR] at h ⊢;simp only [Bel] at hb;exact ⟨Nat.lt_of_lt_of_le hb hm,by rw [h.2]; simp only [Cfg.ren,Nat.add_assoc]⟩
 | .ip cs,v,h,hb => by
  simp only [AV.ren,VR] at h ⊢;simp only [Bel] at hb;obtain ⟨ad,vs,e,hh,hr⟩:=h;exact ⟨ad,vs,e,hh,VRs.ren hl hm hr hb⟩
 | .sl o off len esz cap,v,h,hb => by
  simp only [AV.ren,VR] at h ⊢;simp only [Bel] at hb;obtain ⟨_,a,c,e,hlc,hs⟩:=h;refine ⟨Nat.lt_of_lt_of_le hb hm,a,c,e,hlc, ?_⟩
  have:=hs.ren
  simp only [Cfg.ren,hl o hb,Option.getD_none];exact this
 | .imm cs len esz,v,h,hb => by
  simp only [AV.ren,VR] at h ⊢;simp only [Bel] at hb;obtain ⟨ad,c,vs,e,hlc,hh,hr⟩:=h;exact ⟨ad,c,vs,e,hlc,hh,VRs.ren hl hm hr hb⟩
 | .mp o,v,h,hb => by
  simp only [AV.ren,VR] at h ⊢;simp only [Bel] at hb;exact ⟨Nat.lt_of_lt_of_le hb hm,h.2⟩
 | .agg cs,v,h,hb => by
  simp only [AV.ren,VR] at h ⊢;simp only [Bel] at hb;obtain ⟨vs,e,hr⟩:=h;exact ⟨vs,e,VRs.ren hl hm hr hb⟩
 | .tup cs,v,h,hb => by
  simp only [AV.ren,VR] at h ⊢;simp only [Bel] at hb;obtain ⟨vs,e,hr⟩:=h;exact ⟨vs,e,VRs.ren hl hm hr hb⟩
 | .fn f a b,v,h,hb => by
  simp only [AV.ren,VR] at h ⊢;simp only [Bel] at hb;obtain ⟨va,vb,e,h1,h2⟩:=h;exact ⟨va,vb,e,VRs.ren hl hm h1 hb.1,VRs.ren hl hm h2 hb.2⟩
 | .emp,_,h,_ => by simpa only [AV.ren,VR] using h
 | .junk,_,_,_ => by simp only [VR]
theorem VRs.ren {G : Cfg} {σ : Nat→Nat × Nat} {lim : Nat→Option Nat} {n2 m2 : Nat} (hl : ∀ o,o < m2→lim o=none) (hm : m2≤n2) : ∀ {asx : List AV} {vs : List Value},VRs G (rens σ asx) vs→Bels m2 asx→VRs (G.ren σ lim n2) asx vs
 | [],_,h,_ => by simpa only [rens,VRs] using h
 | a :: r,vs,h,hb => by
  simp only [rens,VRs] at h ⊢;simp only [Bels] at hb;obtain ⟨v,q,e,h1,h2⟩:=h;exact ⟨v,q,e,VR.ren hl hm h1 hb.1,VRs.ren hl hm h2 hb.2⟩
end
structure Canon (n0 m2 : Nat) (σ : Nat→Nat × Nat) (lim : Nat→Option Nat) (H1 H2 : AH) : Prop where
 len : n0≤H2.length
 top : m2≤H2.length
 old : ∀ o,o < n0→σ o=(o,0)∧lim o=none
 low : ∀ o,o < m2→lim o=none
 cells : ∀ (o : Nat) (cs : List AV),H2[o]? = some (some (.cells cs))→∃ cs1,H1[(σ o).1]? = some (some (.cells cs1))∧(σ o).2 + cs.length≤cs1.length∧rens σ cs=(cs1.drop (σ o).2).take cs.length∧Bels m2 cs∧∀ ℓ,lim o=some ℓ→cs.length≤ℓ
 maps : ∀ (o : Nat) (es : List (Value × AV)),H2[o]? = some (some (.map es))→(σ o).2=0∧∃ es1,H1[(σ o).1]? = some (some (.map es1))∧es1.map Prod.fst=es.map Prod.fst∧es1.map Prod.snd=rens σ (es.map Prod.snd)∧Bels m2 (es.map Prod.snd)
 inj : ∀ (o o' : Nat) (x x' : AObj),H2[o]? = some (some x)→H2[o']? = some (some x')→(σ o).1=(σ o').1→o=o'
theorem Canon.hr {n0 m2 : Nat} {σ : Nat→Nat × Nat} {lim : Nat→Option Nat} {H1 H2 : AH} (c : Canon n0 m2 σ lim H1 H2) {G : Cfg} (hr : HR G H1) (hlim : ∀ o ℓ,lim o=some ℓ→(σ o).2 + ℓ≤(G.μ (σ o).1).2.2) : HR (G.ren σ lim H2.length) H2:=by
 have src : ∀ (o : Nat) (x : AObj),H2[o]? = some (some x)→∃ x1,H1[(σ o).1]? = some (some x1):=by
  intro o x hx;cases x with
  | cells cs => obtain ⟨cs1,h1,_⟩:=c.cells o cs hx; exact ⟨_,h1⟩
  | map es => obtain ⟨_,es1,h1,_⟩:=c.maps o es hx; exact ⟨_,h1⟩
 refine ⟨rfl, ?_, ?_, ?_,hr.lt,hr.dis⟩
 ·intro o x hx
  cases x with
  | cells cs =>
   obtain ⟨cs1,h1,h2,h3,h4,h5⟩:=c.cells o cs hx;obtain ⟨cc,e,vs,q1,q2,q3,q4,q5⟩:=hr.obj _ _ h1;have hl:=q4.length
   have hlm : (lim o).getD ((G.μ (σ o).1).2.2 - (σ o).2) + (σ o).2≤(G.μ (σ o).1).2.2∧cs.length≤(lim o).getD ((G.μ (σ o).1).2.2 - (σ o).2):=by
    cases hlo : lim o with
    | none => simp only [Option.getD_none]; omega
    | some ℓ => have:=hlim o ℓ hlo; have:=h5 ℓ hlo; simp only [Option.getD_some]; omega
   refine ⟨cc,e,(vs.drop (σ o).2).take cs.length,q1, ?_,hlm.2, ?_, ?_⟩
   ·show (G.μ (σ o).1).2.1 + (σ o).2 + (lim o).getD ((G.μ (σ o).1).2.2 - (σ o).2)≤cc.size
    omega
   ·refine VRs.ren c.low c.top ?_ h4
    rw [h3];exact (q4.drop _).take _
   ·intro i v hv
    rw [List.getElem?_take] at hv;split at hv
    ·rw [List.getElem?_drop] at hv
     have:=q5 _ _ hv
     show cc[(G.μ (σ o).1).2.1 + (σ o).2 + i]? = some v∧_
     rw [Nat.add_assoc];exact this
    ·cases hv
  | map es =>
   obtain ⟨h0,es1,h1,h2,h3,h4⟩:=c.maps o es hx;obtain ⟨ents,q1,q2,q3,q4⟩:=hr.obj _ _ h1;refine ⟨ents,q1, ?_,by rw [q3,h2], ?_⟩
   ·refine VRs.ren c.low c.top ?_ h4
    rw [← h3]; exact q2
   ·rw [q4]
    congr 1
    have:=congrArg List.length h2
    simpa using this
 ·intro o o' x x' hx hx' he
  obtain ⟨x1,h1⟩:=src o x hx;obtain ⟨x2,h2⟩:=src o' x' hx';exact c.inj o o' x x' hx hx' (hr.inj _ _ _ _ h1 h2 he)
 ·intro o x hx
  obtain ⟨x1,h1⟩:=src o x hx;exact hr.live _ _ h1
theorem Canon.evo {n0 m2 : Nat} {σ : Nat→Nat × Nat} {lim : Nat→Option Nat} {H1 H2 : AH} (c : Canon n0 m2 σ lim H1 H2) {G0 G : Cfg} (h0 : G0.n=n0) (hE : Evo G0 G) : Evo G0 (G.ren σ lim H2.length) :=
 ⟨hE.os,hE.tape,hE.output,hE.size,hE.keep,by rw [h0]; exact c.len,λo ho=>by
  obtain ⟨hσ,hl⟩:=c.old o (by omega)
  have:=hE.μ o ho
  simp only [Cfg.ren,hσ,hl,Nat.add_zero,Nat.sub_zero,Option.getD_none];exact this,hE.K⟩
section
variable {P : Program}
def belH (H : AH) : Prop:=∀ (o : Nat) (x : AObj),H[o]? = some (some x)→x.bel H.length
theorem HR.belH {G : Cfg} {H : AH} (hr : HR G H) : belH H:=λo x hx=>by rw [← hr.n]; exact (hr.obj o x hx).bel
theorem ACalls.canon {f : FuncId} {args : List AV} {H H2 : AH} {R : AV→AH→Prop} {r2 : AV} (h : ACalls P f args H R)
  (hc : belH H→∀ r1 H1,R r1 H1→∃ m2 σ lim,Canon H.length m2 σ lim H1 H2∧∀ G v,HR G H1→VR G r1 v→VR (G.ren σ lim H2.length) r2 v∧∀ o ℓ,lim o=some ℓ→(σ o).2 + ℓ≤(G.μ (σ o).1).2.2) : BCall P f args H r2 H2:=by
 intro G vs hH hv;refine (h G vs hH hv).mono ?_;rintro e w' ⟨r1,H1,G',v,rfl,rfl,hE,hx,hX,hq⟩;obtain ⟨m2,σ,lim,c,hs⟩:=hc hH.belH r1 H1 hq;obtain ⟨hs1,hs2⟩:=hs G' v hX hx;exact ⟨r2,H2,G'.ren σ lim H2.length,v,rfl,rfl,c.evo hH.n hE,hs1,c.hr hX hs2,rfl,rfl⟩
theorem ACalls.room {f : FuncId} {o off len esz k : Nat} {args : List AV} {H : AH} {R : AV→AH→Prop} (h : ∀ c,k≤c→len≤c→ACalls P f (.sl o off len esz (.ex c) :: args) H R) : ACalls P f (.sl o off len esz (.ge k) :: args) H R:=by
 intro G vs hH hv;simp only [VRs] at hv;obtain ⟨v,r,rfl,h1,h2⟩:=hv;simp only [VR] at h1;obtain ⟨ho,a,c,rfl,hl,hs⟩:=h1;simp only [SlAt] at hs;refine h c hs.1 hl G _ hH (.cons ?_ h2);simp only [VR];refine ⟨ho,a,c,rfl,hl,rfl,hs.2.imp id λh3=>⟨h3.1,by have:=h3.2; omega⟩⟩
end
def idR : Nat→Nat × Nat:=λo=>(o,0)
def atR (n o off : Nat) : Nat→Nat × Nat:=λp=>if p=n then (o,off) else (p,0)
def atL' (n l : Nat) : Nat→Option Nat:=λp=>if p=n then some l else none
theorem Canon.grown {H : AH} (hb : belH H) {o : Nat} {N : List AV} (hN : Bels H.length N) : Canon H.length H.length idR noLim (H ++ [some (.cells N)]) (H.set o none ++ [some (.cells N)]):=by
 have get : ∀ (p : Nat) (x : AObj),(H.set o none ++ [some (.cells N)])[p]? = some (some x)→(H ++ [some (.cells N)])[p]? = some (some x)∧x.bel H.length:=by
  intro p x hx
  by_cases hp : p < H.length
  ·rw [List.getElem?_append_left (by simpa using hp),List.getElem?_set] at hx
   rw [List.getElem?_append_left hp];split at hx
   ·split at hx <;> simp at hx
   ·exact ⟨hx,hb p x hx⟩
  ·rw [List.getElem?_append_right (by simpa using hp)] at hx
   rw [List.getElem?_append_right (by omega)];simp only [List.length_set] at hx;refine ⟨hx, ?_⟩
   have : p - H.length=0:=by
    have:=(gSI.1 hx).1
    simp at this; omega
   rw [this] at hx;simp at hx;rw [← hx]; exact hN
 refine ⟨by simp,by simp,λp hp=>⟨rfl,rfl⟩,λp hp=>rfl, ?_, ?_, ?_⟩
 ·intro p cs hx
  obtain ⟨h1,h2⟩:=get p _ hx;refine ⟨cs,h1,by simp [idR], ?_,h2,λℓ h=>by cases h⟩;rw [znuZ (σ:=idR) (m:=H.length) (λ_ _=>rfl) h2];simp [idR]
 ·intro p es hx
  obtain ⟨h1,h2⟩:=get p _ hx;exact ⟨rfl,es,h1,rfl,(znuZ (σ:=idR) (m:=H.length) (λ_ _=>rfl) h2).symm,h2⟩
 ·intro p p' x x' _ _ h
  exact h
theorem Canon.placed {H : AH} (hb : belH H) {o off l : Nat} {N cs1 : List AV} (ho : o < H.length) (hN : Bels H.length N) (hl : off + N.length≤cs1.length) (he : (cs1.drop off).take N.length=N) (hll : N.length≤l) :
  Canon H.length H.length (atR H.length o off) (atL' H.length l) (H.set o (some (.cells cs1))) (H.set o none ++ [some (.cells N)]):=by
 have sm : ∀ p,p < H.length→atR H.length o off p=(p,0):=λp hp=>by unfold atR; rw [if_neg (by omega)]
 have sl : ∀ p,p < H.length→atL' H.length l p=none:=λp hp=>by unfold atL'; rw [if_neg (by omega)]
 have get : ∀ (p : Nat) (x : AObj),(H.set o none ++ [some (.cells N)])[p]? = some (some x)→(p < H.length∧p ≠ o∧(H.set o (some (.cells cs1)))[p]? = some (some x)∧x.bel H.length)∨(p=H.length∧x = .cells N):=by
  intro p x hx
  by_cases hp : p < H.length
  ·left
   rw [List.getElem?_append_left (by simpa using hp),List.getElem?_set] at hx;split at hx
   ·simp at hx
   ·rename_i hne
    exact ⟨hp,λh=>hne h.symm,by rw [gSN hne]; exact hx,hb p x hx⟩
  ·right
   rw [List.getElem?_append_right (by simpa using hp)] at hx;simp only [List.length_set] at hx
   have : p - H.length=0:=by
    have:=(gSI.1 hx).1
    simp at this; omega
   rw [this] at hx;simp at hx;exact ⟨by omega,hx.symm⟩
 refine ⟨by simp,by simp,λp hp=>⟨sm p hp,sl p hp⟩,sl, ?_, ?_, ?_⟩
 ·intro p cs hx
  rcases get p _ hx with ⟨h0,_,h1,h2⟩ | ⟨rfl,h⟩
  ·refine ⟨cs,by rw [sm p h0]; exact h1,by rw [sm p h0]; simp, ?_,h2,λℓ h=>by rw [sl p h0] at h; cases h⟩
   rw [znuZ sm h2,sm p h0];simp
  ·injection h with h
   subst h;have e : atR H.length o off H.length=(o,off):=if_pos rfl;refine ⟨cs1,by rw [e]; simp [ho],by rw [e]; exact hl, ?_,hN,λℓ h=>?_⟩
   ·rw [znuZ sm hN,e]; exact he.symm
   ·unfold atL' at h
    rw [if_pos rfl] at h;injection h with h;omega
 ·intro p es hx
  rcases get p _ hx with ⟨h0,_,h1,h2⟩ | ⟨_,h⟩
  ·exact ⟨by rw [sm p h0],es,by rw [sm p h0]; exact h1,rfl,(znuZ sm h2).symm,h2⟩
  ·cases h
 ·intro p p' x x' hx hx' h
  have e : atR H.length o off H.length=(o,off):=if_pos rfl;rcases get p _ hx with ⟨h0,h0',_,_⟩ | ⟨rfl,_⟩ <;> rcases get p' _ hx' with ⟨k0,k0',_,_⟩ | ⟨rfl,_⟩
  ·rw [sm p h0,sm p' k0] at h; exact h
  ·rw [sm p h0,e] at h; exact (h0' h).elim
  ·rw [sm p' k0,e] at h; exact (k0' h.symm).elim
  ·rfl
end Go.Proofs.YtlhiaihmkjlaaaaGreat.Av
end
section
namespace Go.Proofs.YtlhiaihmkjlaaaaGreat.Av
open Go Go.RowKit
section
variable {P : Program}
def insF (P : Program) (sz bytes : Nat) (zc : List AV) (ov rot : FuncId) (a0 a1 a2 : AV) (H : AH) (K : AV→AH→Prop) : Prop :=
bO (aslS sz a0 (some a1) none none) λv0=>
bO (alnS a2) λv1=>
bO (abI .eql v1 (I 0)) λv2=>
bB v2 λt3=>bI t3 (
K a0 H)
 (bO (alnS a0) λv4=>
bO (abI .eql a1 v4) λv5=>
bB v5 λt6=>bI t6 (
bH (aap sz bytes H a0 a2) λv7 H8=>
K v7 H8)
 (bO (abI .add v4 v1) λv9=>
bO (acpS a0) λv10=>
bO (abI .gtr v9 v10) λv11=>
bB v11 λt12=>bI t12 (
bO (aslS sz a0 none (some a1) none) λv13=>
bO (abI .add v4 v1) λv14=>
bO (abI .sub v14 a1) λv15=>
bH (aappZ1 H sz bytes zc v13 v15) λv16 H17=>
bO (aslS sz v16 (some a1) none none) λv18=>
bH (acp sz H17 v18 a2) λv19 H20=>
bO (abI .add a1 v1) λv21=>
bO (aslS sz v16 (some v21) none none) λv22=>
bO (aslS sz a0 (some a1) none none) λv23=>
bH (acp sz H20 v22 v23) λv24 H25=>
K v16 H25)
 (bO (abI .add v4 v1) λv26=>
bO (aslS sz a0 none (some v26) none) λv27=>
bO (abI .add a1 v1) λv28=>
bO (aslS sz v27 (some v28) none none) λv29=>
bP (ExtR P ov [a2,v29] H) λv30=>
bO (aun .not v30) λv31=>
bB v31 λt32=>bI t32 (
bO (abI .add a1 v1) λv33=>
bO (aslS sz v27 (some v33) none none) λv34=>
bO (aslS sz v27 (some a1) none none) λv35=>
bH (acp sz H v34 v35) λv36 H37=>
bO (aslS sz v27 (some a1) none none) λv38=>
bH (acp sz H37 v38 a2) λv39 H40=>
K v27 H40)
 (bO (aslS sz v27 (some v4) none none) λv41=>
bH (acp sz H v41 a2) λv42 H43=>
bO (aslS sz v27 (some a1) none none) λv44=>
bC (BCall P rot [v44,v1] H43) λv45 H46=>
K v27 H46))))
def capOk (s : AV) (n : Nat) : Prop:=match s with
 | .sl _ _ _ _ cap => n≤cap.least
 | _ => True
theorem acp_slG {H : AH} {sz o off len o2 off2 m : Nat} {cap cap2 : Room} {cs cs2 : List AV} (ho : H[o]? = some (some (.cells cs))) (h2 : H[o2]? = some (some (.cells cs2))) (hoff : off≤cs.length) (ht : off2 + min m len * sz≤cs2.length) :
  acp sz H (.sl o off len sz cap) (.sl o2 off2 m sz cap2)=some (I ((min m len : Nat) : Int),H.set o (some (.cells (over cs off ((cs2.drop off2).take (min m len * sz)))))):=by
 unfold acp acp0
 by_cases h : off2 + m * sz≤cs2.length
 ·have e : zdeZ H sz (.sl o2 off2 m sz cap2)=some ((cs2.drop off2).take (m * sz),m):=znZ (by simp [zaZ,h2,h])
  have hm : min (min m len * sz) (m * sz)=min m len * sz:=Nat.min_eq_left (Nat.mul_le_mul_right _ (Nat.min_le_left _ _));rw [e];simp only [ho,hoff,and_self,if_true,List.take_take,hm]
 ·have e : zdeZ H sz (.sl o2 off2 m sz cap2)=none:=by simp [zdeZ,zaZ,h2,h]
  rw [e];simp [acpT,ho,h2,hoff,ht]
theorem aap_cap {sz bytes : Nat} {H : AH} {s x r : AV} {H' : AH} {cs ds : List AV} {n m : Nat} (h1 : zaZ H sz s=some (cs,n)) (ho : zjsZ s=true) (h2 : zdeZ H sz x=some (ds,m)) (hc : capOk s n) (h : aap sz bytes H s x=some (r,H')) : capOk r (n + m):=by
 unfold aap at h;rw [h2] at h;simp only at h;unfold zaZ at h1;split at h1
 ·simp [zjsZ] at ho
 ·rename_i o off len esz cap
  split at h1
  ·rename_i c hoc
   split at h1
   ·rename_i hb1
    obtain ⟨rfl,hfit⟩:=hb1;injection h1 with h1;injection h1 with h3 h4;subst h3; subst h4;unfold aapp1 at h;simp only [hoc,ne_eq,not_true_eq_false,false_or,hfit,if_false] at h;cases cap with
    | ex k =>
     simp only at h;split at h
     ·injection h with h; injection h with h h'; subst h; simpa [capOk,Room.least]
     ·split at h
      ·injection h with h; injection h with h h'; subst h; simp [capOk,Room.least]
      ·cases h
    | ge k =>
     simp only at h;split at h
     ·rename_i hm
      injection h with h; injection h with h h'; subst h; subst hm; simpa using hc
     ·split at h
      ·injection h with h; injection h with h h'; subst h; simpa [capOk,Room.least]
      ·split at h
       ·injection h with h; injection h with h h'; subst h; simp [capOk,Room.least]
       ·cases h
   ·cases h1
  ·cases h1
 ·injection h1 with h1
  injection h1 with h3 h4;subst h3; subst h4;unfold aapp1 at h;simp only at h;split at h
  ·injection h with h; injection h with h h'; subst h; simp [capOk]
  ·split at h
   ·injection h with h; injection h with h h'; subst h; simp [capOk,Room.least]
   ·cases h
 ·injection h1 with h1
  injection h1 with h3 h4;subst h3; subst h4;unfold aapp1 at h;simp only at h;split at h
  ·injection h with h; injection h with h h'; subst h; simp [capOk]
  ·split at h
   ·injection h with h; injection h with h h'; subst h; simp [capOk,Room.least]
   ·cases h
 ·cases h1
def InsG (sz : Nat) (H : AH) (s : AV) (N : List AV) (n : Nat) (r : AV) (H' : AH) : Prop :=
 zjsZ r=true∧zaZ H' sz r=some (N,n + 1)∧H.length≤H'.length∧(∀ i,i < H.length→i ∉ idS s→H'[i]? = H[i]?)∧(∀ i ∈ idS r,i ∈ idS s∨H.length≤i)∧capOk r (n + 1)
theorem ins_end {sz bytes : Nat} {zc : List AV} {ov rot : FuncId} {H : AH} {s a2 : AV} {cs xs : List AV} {n : Nat} (hs : zaZ H sz s=some (cs,n)) (ho : zjsZ s=true) (hc : capOk s n) (ha : alnS a2=some (I 1)) (hx : zdeZ H sz a2=some (xs,1)) (hb : (n + 1) * bytes≤140737488355328) :
  ∃ r H',InsG sz H s (cs ++ xs) n r H'∧insF P sz bytes zc ov rot s (I n) a2 H λr' H''=>r'=r∧H''=H':=by
 obtain ⟨r0,a0,-⟩:=zrvZ hs (lo:=some (I n)) (hi:=none) (l:=n) (k:=n) (by simp [abnd]) rfl (Nat.le_refl _) (Nat.le_refl _);obtain ⟨r,H2,a1,a2',a3,a4,a5,a6⟩:=zjmZ (bytes:=bytes) hs ho hx hb;refine ⟨r,H2,⟨a2',a3,a4,a5,a6,aap_cap hs ho hx hc a1⟩, ?_⟩;unfold insF;simp [a0,ha,zhxZ hs,a1]
theorem ins_grow {sz bytes : Nat} {zc : List AV} {ov rot : FuncId} (hz : zc.length=sz) {H : AH} {o off n oj i : Nat} {cells xs : List AV} (hc : H[o]? = some (some (.cells cells))) (hl : off + n * sz≤cells.length) (hi : i < n) (hn : n≤100000000) (hv : H[oj]? = some (some (.cells xs))) (hxl : xs.length=sz) (hby : (n + 1) * bytes≤140737488355328) :
  insF P sz bytes zc ov rot (.sl o off n sz (.ex n)) (I i) (.sl oj 0 1 sz (.ex 1)) H λr H'=>r = .sl H.length 0 (n + 1) sz (.ge (n + 1)) ∧
   H'=H ++ [some (.cells ((cells.drop off).take (i * sz) ++ xs ++ (cells.drop (off + i * sz)).take ((n - i) * sz)))]:=by
 unfold insF;have h1 : ¬ (i : Int)=n:=by omega
 have hmi : i * sz≤n * sz:=Nat.mul_le_mul_right _ (by omega);have hmn : i * sz + (n - i) * sz=n * sz:=by rw [← Nat.add_mul]; congr 1; omega
 have hms : (i + 1) * sz=i * sz + sz:=Nat.succ_mul _ _;have hmr : (n + 1 - i) * sz=(n - i) * sz + sz:=by rw [show n + 1 - i=(n - i) + 1 by omega,Nat.succ_mul]
 simp [aslS,abnd,Room.least,Room.cut,acpS,goInt,h1,show i≤n by omega,zbdZ (a:=n) (b:=1) (by omega) (by omega),zfpZ (a:=(n : Int) + 1) (b:=i) (by omega) (by omega),aappZ1,hc,hl,zbdZ (a:=i) (b:=1) (by omega) (by omega),-zrow];have e1 : i + (n + 1 - i)=n + 1:=by omega
 have h2 : off + i * sz≤cells.length:=by omega
 simp only [e1];simp [h2,show (i : Int) < n + 1 by omega,show (n : Int) < n + 1 by omega,hby,show i≤n + 1 by omega,show i + 1≤n + 1 by omega,-zrow];have zl : (zrow zc (n + 1 - i)).length=(n + 1 - i) * sz:=by rw [zieZ,hz]
 generalize zrow zc (n + 1 - i)=Z at zl;have hA : (List.take (i * sz) (List.drop off cells)).length=i * sz:=by rw [List.length_take,List.length_drop]; omega
 generalize hAe : List.take (i * sz) (List.drop off cells)=A at hA;have hov:=(gSI.1 hv).1;have ho:=(gSI.1 hc).1;have m1 : min 1 (n + 1 - i)=1:=by omega
 rw [acp_slG (cs:=A ++ Z) (cs2:=xs) (by simp) (by rw [List.getElem?_append_left hov]; exact hv) (by simp [hA]) (by rw [m1]; omega)];simp [show (0 : Int)≤(i : Int) + 1 by omega,show i + 1≤n + 1 by omega]
 have o1 : over (A ++ Z) (i * sz) (List.take (min 1 (n + 1 - i) * sz) xs)=A ++ xs ++ Z.drop sz:=by
  rw [m1,List.take_of_length_le (by rw [hxl]; omega)];unfold over;rw [List.take_append_of_le_length (by omega),List.take_of_length_le (by omega),hxl,← hA,List.drop_append,Nat.add_sub_cancel_left,List.drop_eq_nil_of_le (by omega),List.nil_append]
 rw [o1,acp_slG (cs:=A ++ xs ++ Z.drop sz) (cs2:=cells) (by simp) (by rw [List.getElem?_append_left ho]; exact hc) (by simp [hA,hxl]; omega) (by rw [Nat.min_self]; omega)];have hB : (List.take ((n - i) * sz) (List.drop (off + i * sz) cells)).length=(n - i) * sz:=by rw [List.length_take,List.length_drop]; omega
 simp;generalize List.take ((n - i) * sz) (List.drop (off + i * sz) cells)=B' at hB;unfold over;have l1 : (A ++ xs).length=(i + 1) * sz:=by rw [List.length_append,hA,hxl]; omega
 rw [← List.append_assoc,List.take_append_of_le_length (by omega),List.take_of_length_le (by omega),List.drop_eq_nil_of_le (by rw [List.length_append,l1,List.length_drop,hB]; omega),List.append_nil,List.append_assoc]
theorem ins_place {sz bytes : Nat} {zc : List AV} {ov rot : FuncId} (h0 : 0 < sz) {H : AH} {o off n oj i c : Nat} {cells xs : List AV} (hc : H[o]? = some (some (.cells cells))) (hl : off + n * sz≤cells.length) (hi : i < n) (hn : n≤100000000) (hcn : n + 1≤c) (hv : H[oj]? = some (some (.cells xs))) (hxl : xs.length=sz) (hne : oj ≠ o)
  (hov : ∀ q l k,k ≠ 0→ExtR P ov [.sl oj 0 1 sz (.ex 1),.sl o q l sz (.ex k)] H (B false)) :
  insF P sz bytes zc ov rot (.sl o off n sz (.ex c)) (I i) (.sl oj 0 1 sz (.ex 1)) H λr H'=>r = .sl o off (n + 1) sz (.ex c) ∧
   ∃ rest,H'=H.set o (some (.cells (cells.take (off + i * sz) ++ xs ++ (cells.drop (off + i * sz)).take ((n - i) * sz) ++ rest))):=by
 unfold insF;have h1 : ¬ (i : Int)=n:=by omega
 have hmi : i * sz≤n * sz:=Nat.mul_le_mul_right _ (by omega);have hmn : i * sz + (n - i) * sz=n * sz:=by rw [← Nat.add_mul]; congr 1; omega
 have hms : (i + 1) * sz=i * sz + sz:=Nat.succ_mul _ _;have hms2 : (i + 1) * sz≤n * sz:=Nat.mul_le_mul_right _ (by omega);simp [aslS,abnd,Room.least,Room.cut,acpS,goInt,h1,show i≤n by omega,zbdZ (a:=n) (b:=1) (by omega) (by omega),zfpZ (a:=(n : Int) + 1) (b:=i) (by omega) (by omega),hc,hl,zbdZ (a:=i) (b:=1) (by omega) (by omega),show i≤c by omega,show n≤c by omega,show ¬ (c : Int) < n + 1 by omega,hcn,show (0 : Int)≤(n : Int) + 1 by omega,show (0 : Int)≤(i : Int) + 1 by omega,show i + 1≤n + 1 by omega,show i + 1≤c by omega];refine bP_of (hov _ _ _ (by omega)) ?_;simp;have ho:=(gSI.1 hc).1;have mm : min (n + 1 - i) (n - i)=n - i:=by omega
 have m1 : min 1 (n + 1 - i)=1:=by omega
 simp only [show i≤n + 1 by omega,if_true,zbZ];rw [acp_slG (cs:=cells) (cs2:=cells) hc hc (by omega) (by rw [mm]; omega),mm];have hB : (List.take ((n - i) * sz) (List.drop (off + i * sz) cells)).length=(n - i) * sz:=by rw [List.length_take,List.length_drop]; omega
 generalize List.take ((n - i) * sz) (List.drop (off + i * sz) cells)=B' at hB;simp only [zbpZ];have l1 : (cells.take (off + (i + 1) * sz)).length=off + (i + 1) * sz:=by rw [List.length_take]; omega
 rw [acp_slG (cs:=over cells (off + (i + 1) * sz) B') (cs2:=xs) (by simp [ho]) (by rw [gSN (Ne.symm hne)]; exact hv) (by unfold over; simp [l1]; omega) (by rw [m1]; omega),m1,List.take_of_length_le (l:=xs.drop 0) (by simp [hxl])];simp only [zbpZ,List.set_set,List.drop_zero];refine ⟨(cells.drop (off + (i + 1) * sz + B'.length)), ?_⟩
 congr 3
 unfold over;rw [hxl]
 have t1 : List.take (off + i * sz) (cells.take (off + (i + 1) * sz) ++ B' ++ cells.drop (off + (i + 1) * sz + B'.length))=cells.take (off + i * sz):=by
  rw [List.append_assoc,List.take_append_of_le_length (by omega),List.take_take,Nat.min_eq_left (by omega)]
 have t2 : List.drop (off + i * sz + sz) (cells.take (off + (i + 1) * sz) ++ B' ++ cells.drop (off + (i + 1) * sz + B'.length))=B' ++ cells.drop (off + (i + 1) * sz + B'.length):=by
  rw [List.append_assoc,show off + i * sz + sz=(cells.take (off + (i + 1) * sz)).length by omega,List.drop_left]
 rw [t1,t2,List.append_assoc]
theorem belsG_app {m : Nat} : ∀ {a b : List AV},Bels m a→Bels m b→Bels m (a ++ b)
 | [],b,_,h => h
 | x :: a,b,h1,h2 => by simp only [Bels,List.cons_append] at h1 ⊢; exact ⟨h1.1,belsG_app h1.2 h2⟩
theorem belsG_mem {m : Nat} : ∀ {a : List AV},Bels m a ↔ ∀ x ∈ a,Bel m x
 | [] => by simp [Bels]
 | x :: a => by simp only [Bels,List.mem_cons,forall_eq_or_imp,belsG_mem (a:=a)]
theorem ins_ok {sz bytes : Nat} {zc : List AV} {f ov rot : FuncId} (h0 : 0 < sz) (hz : zc.length=sz) (hF : ∀ a0 a1 a2 H K,insF P sz bytes zc ov rot a0 a1 a2 H K→ACalls P f [a0,a1,a2] H K) {H : AH} {s : AV} {cs xs : List AV} {n oj i : Nat} (hs : zaZ H sz s=some (cs,n)) (ho : zjsZ s=true) (hcap : capOk s n) (hi : i≤n) (hn : n≤1000000) (hby : bytes≤1000000) (hv : H[oj]? = some (some (.cells xs))) (hxl : xs.length=sz) (hne : oj ∉ idS s)
  (hxb : ∀ m,Bels m xs) (hov : ∀ {o q l k : Nat} {cells : List AV},H[o]? = some (some (.cells cells))→oj ≠ o→k ≠ 0→cells ≠ []→ExtR P ov [.sl oj 0 1 sz (.ex 1),.sl o q l sz (.ex k)] H (B false)) :
  ∃ r H',InsG sz H s (cs.take (i * sz) ++ xs ++ cs.drop (i * sz)) n r H'∧BCall P f [s,I i,.sl oj 0 1 sz (.ex 1)] H r H':=by
 have hcl:=zcvZ hs;have hbb : (n + 1) * bytes≤140737488355328:=Nat.le_trans (Nat.mul_le_mul (show n + 1≤1000001 by omega) hby) (by omega);rcases Nat.lt_or_ge i n with h | h
 ·obtain ⟨o,off,cap,cells,rfl,hc,hl,rfl⟩:=zbabZ hs ho (by omega)
  have hoj : oj ≠ o:=by simpa [idS] using hne
  have hol:=(gSI.1 hc).1;have hmi : i * sz≤n * sz:=Nat.mul_le_mul_right _ (by omega);have hmn : i * sz + (n - i) * sz=n * sz:=by rw [← Nat.add_mul]; congr 1; omega
  have hmn1 : (n + 1) * sz=n * sz + sz:=Nat.succ_mul _ _;have hsz1 : sz≤n * sz:=by have:=Nat.mul_le_mul_right sz (show 1≤n by omega); omega
  have hcne : cells ≠ []:=λhh=>by rw [hh] at hl; simp at hl; omega
  have e1 : ((cells.drop off).take (n * sz)).take (i * sz)=(cells.drop off).take (i * sz):=by rw [List.take_take]; congr 1; omega
  have e2 : ((cells.drop off).take (n * sz)).drop (i * sz)=(cells.drop (off + i * sz)).take ((n - i) * sz):=by rw [List.drop_take,List.drop_drop]; congr 1; omega
  rw [e1,e2];generalize hN : (cells.drop off).take (i * sz) ++ xs ++ (cells.drop (off + i * sz)).take ((n - i) * sz)=N
  have hNl : N.length=(n + 1) * sz:=by
   rw [← hN,List.length_append,List.length_append,hxl,List.length_take,List.length_take,List.length_drop,List.length_drop]; omega
  have hall : ∀ c,n≤c→ACalls P f [.sl o off n sz (.ex c),I i,.sl oj 0 1 sz (.ex 1)] H λr H'=>
    (r = .sl H.length 0 (n + 1) sz (.ge (n + 1))∧H'=H ++ [some (.cells N)])∨∃ c rest,n + 1≤c∧r = .sl o off (n + 1) sz (.ex c)∧H'=H.set o (some (.cells (cells.take off ++ N ++ rest))):=by
   intro c hcn;rcases Nat.lt_or_ge n c with h' | h'
   ·refine (hF _ _ _ _ _ (ins_place h0 hc hl h (by omega) h' hv hxl hoj λq l k hk=>hov hc hoj hk hcne)).mono ?_
    rintro r H' ⟨rfl,rest,rfl⟩;refine .inr ⟨c,rest,h',rfl, ?_⟩
    congr 3
    rw [← hN,Nat.add_comm off (i * sz),Nat.add_comm (i * sz) off];have : cells.take (off + i * sz)=cells.take off ++ (cells.drop off).take (i * sz):=by rw [List.take_add]
    rw [this];simp [List.append_assoc]
   ·have : c=n:=by omega
    subst this;refine (hF _ _ _ _ _ (ins_grow hz hc hl h (by omega) hv hxl hbb)).mono ?_;rintro r H' ⟨rfl,rfl⟩;exact .inl ⟨rfl,by rw [hN]⟩
  have hany : ACalls P f [.sl o off n sz cap,I i,.sl oj 0 1 sz (.ex 1)] H λr H'=>
    (r = .sl H.length 0 (n + 1) sz (.ge (n + 1))∧H'=H ++ [some (.cells N)])∨∃ c rest,n + 1≤c∧r = .sl o off (n + 1) sz (.ex c)∧H'=H.set o (some (.cells (cells.take off ++ N ++ rest))):=by
   cases cap with
   | ge k => exact ACalls.room λc _ h=>hall c h
   | ex c => exact hall c (by simpa [capOk,Room.least] using hcap)
  refine ⟨.sl H.length 0 (n + 1) sz (.ge (n + 1)),H.set o none ++ [some (.cells N)],⟨rfl, ?_,by simp,λj hj hn=>?_,λj hj=>.inr (by simp [idS] at hj; omega),by simp [capOk,Room.least]⟩, ?_⟩
  ·rw [zbuZ (c:=N) (by rw [List.getElem?_append_right (by simp)]; simp) (by omega)]
   rw [List.drop_zero,List.take_of_length_le (by omega)]
  ·rw [List.getElem?_append_left (by simpa using hj),gSN (by simp [idS] at hn; omega)]
  refine ACalls.canon hany ?_;rintro hb r1 H1 h1
  have hbN : Bels H.length N:=by
   have hbc : Bels H.length cells:=hb o _ hc;rw [belsG_mem] at hbc;rw [← hN];refine belsG_app (belsG_app ?_ (hxb _)) ?_
   ·rw [belsG_mem]; exact λa ha=>hbc a (List.mem_of_mem_drop (List.mem_of_mem_take ha))
   ·rw [belsG_mem]; exact λa ha=>hbc a (List.mem_of_mem_drop (List.mem_of_mem_take ha))
  rcases h1 with ⟨rfl,rfl⟩ | ⟨c,rest,hcn,rfl,rfl⟩
  ·refine ⟨_,_,_,Canon.grown hb hbN, ?_⟩
   intro G v hG hr;refine ⟨?_,λp ℓ h=>by cases h⟩;simp only [VR] at hr ⊢;obtain ⟨q0,a,c,rfl,hlc,hs⟩:=hr;refine ⟨by simp [Cfg.ren],a,c,rfl,hlc, ?_⟩
   simpa [Cfg.ren,idR,noLim] using hs
  ·have hcs : (n + 1) * sz≤c * sz:=Nat.mul_le_mul_right _ hcn
   refine ⟨_,_,_,Canon.placed (off:=off) (l:=c * sz) hb hol hbN (cs1:=cells.take off ++ N ++ rest) ?_ ?_ ?_, ?_⟩
   ·simp; omega
   ·have : (cells.take off).length=off:=by rw [List.length_take]; omega
    rw [List.append_assoc]
    conv => lhs; arg 2; arg 1; rw [← this]
    rw [List.drop_left,List.take_left]
   ·rw [hNl]; omega
   ·intro G v hG hr
    simp only [VR] at hr;obtain ⟨q0,a,c',rfl,hlc,hs⟩:=hr;simp only [SlAt] at hs;obtain ⟨rfl,hs⟩:=hs;have hs:=hs.resolve_left (by omega);obtain ⟨rfl,hs2⟩:=hs;have e : atR H.length o off H.length=(o,off):=if_pos rfl;have e2 : atL' H.length (c' * sz) H.length=some (c' * sz):=if_pos rfl;refine ⟨?_, ?_⟩
    ·simp only [VR]
     refine ⟨by simp [Cfg.ren],_,c',rfl,by omega, ?_⟩;simp only [SlAt];refine ⟨hcn,.inr ⟨by simp [Cfg.ren,e], ?_⟩⟩;simp [Cfg.ren,e2]
    ·intro p ℓ h
     unfold atL' at h;split at h
     ·rename_i hp
      injection h with h;subst hp; subst h;rw [e]; omega
     ·cases h
 ·have : i=n:=by omega
  subst this
  have hx : zdeZ H sz (.sl oj 0 1 sz (.ex 1))=some (xs,1):=znZ (by
   rw [show sz=1 * sz by omega] at hxl;rw [zbuZ hv (by omega),List.drop_zero,List.take_of_length_le (by omega)])
  obtain ⟨r,H',h1,h2⟩:=ins_end (P:=P) (zc:=zc) (ov:=ov) (rot:=rot) hs ho hcap rfl hx hbb;refine ⟨r,H', ?_,(hF _ _ _ _ _ h2)⟩;rw [List.take_of_length_le (by omega),List.drop_of_length_le (by omega),List.append_nil];exact h1
end
end Go.Proofs.YtlhiaihmkjlaaaaGreat.Av
end
section
namespace Go.Proofs.YtlhiaihmkjlaaaaGreat.Av
open Go Go.RowKit
mutual
theorem noIds_belG {m : Nat} : ∀ {a : AV},noIds a=true→Bel m a
 | .lit _,_ => by simp only [Bel]
 | .ptr ..,h => by simp [noIds] at h
 | .ip cs,h => by simp only [noIds] at h; simp only [Bel]; exact znpZ h
 | .sl ..,h => by simp [noIds] at h
 | .imm cs _ _,h => by simp only [noIds] at h; simp only [Bel]; exact znpZ h
 | .mp _,h => by simp [noIds] at h
 | .agg cs,h => by simp only [noIds] at h; simp only [Bel]; exact znpZ h
 | .tup cs,h => by simp only [noIds] at h; simp only [Bel]; exact znpZ h
 | .fn _ a b,h => by simp only [noIds,Bool.and_eq_true] at h; simp only [Bel]; exact ⟨znpZ h.1,znpZ h.2⟩
 | .emp,_ => by simp only [Bel]
 | .junk,_ => by simp only [Bel]
theorem znpZ {m : Nat} : ∀ {xs : List AV},zdcZ xs=true→Bels m xs
 | [],_ => by simp only [Bels]
 | a :: r,h => by simp only [zdcZ,Bool.and_eq_true] at h; simp only [Bels]; exact ⟨noIds_belG h.1,znpZ h.2⟩
end
section
variable {P : Program}
def delF (sz bytes : Nat) (zc : List AV) (a0 a1 a2 : AV) (H : AH) (K : AV→AH→Prop) : Prop :=
bO (alnS a0) λv0=>
bO (aslS sz a0 (some a1) (some a2) (some v0)) λv1=>
bO (abI .eql a1 a2) λv2=>
bB v2 λt3=>bI t3 (
K a0 H)
 (bO (alnS a0) λv4=>
bO (aslS sz a0 none (some a1) none) λv5=>
bO (aslS sz a0 (some a2) none none) λv6=>
bH (aap sz bytes H v5 v6) λv7 H8=>
bO (alnS v7) λv9=>
bO (aslS sz v7 (some v9) (some v4) none) λv10=>
bS (acl zc H8 v10) λH11=>
K v7 H11)
def DelG (sz : Nat) (H : AH) (s : AV) (N : List AV) (n : Nat) (r : AV) (H' : AH) : Prop :=
 zjsZ r=true∧zaZ H' sz r=some (N,n)∧H'.length=H.length∧(∀ i,i ∉ idS s→H'[i]? = H[i]?)∧idS r=idS s∧capOk r n
theorem del_ok {sz bytes : Nat} {zc : List AV} (h0 : 0 < sz) (hz : zc.length=sz) {H : AH} {s : AV} {cs : List AV} {n i : Nat} (hs : zaZ H sz s=some (cs,n + 1)) (ho : zjsZ s=true) (hcap : capOk s (n + 1)) (hi : i≤n) (hn : n≤1000000) (hby : bytes≤1000000) :
  ∃ r H',DelG sz H s (cs.take (i * sz) ++ cs.drop ((i + 1) * sz)) n r H'∧delF sz bytes zc s (I i) (I ((i : Int) + 1)) H λr' H''=>r'=r∧H''=H':=by
 obtain ⟨o,off,cap,cells,rfl,hc,hl,rfl⟩:=zbabZ hs ho (by omega);have hol:=(gSI.1 hc).1;have hms : (i + 1) * sz=i * sz + sz:=Nat.succ_mul _ _;have hns : (n + 1) * sz=n * sz + sz:=Nat.succ_mul _ _;have hmi : i * sz≤n * sz:=Nat.mul_le_mul_right _ (by omega);have hmn : (i + 1) * sz + (n - i) * sz=(n + 1) * sz:=by rw [← Nat.add_mul]; congr 1; omega
 obtain ⟨cap',hcap1,hcap2⟩ : ∃ cap',Room.cut (n + 1) 0 cap=cap'∧n + 1≤cap'.least:=by
  refine ⟨_,rfl, ?_⟩;cases cap <;> simp_all [Room.cut,Room.least,capOk] <;> omega
 have hap : ∃ H8,aap sz bytes H (.sl o off i sz cap') (.sl o (off + (i + 1) * sz) (n - i) sz (cap.cut (n + 1) (i + 1)))=some (.sl o off n sz cap',H8)∧H8.length=H.length∧(∀ j,j ≠ o→H8[j]? = H[j]?)∧H8[o]? = some (some (.cells (over cells (off + i * sz) ((cells.drop (off + (i + 1) * sz)).take ((n - i) * sz))))):=by
  have e : zdeZ H sz (.sl o (off + (i + 1) * sz) (n - i) sz (cap.cut (n + 1) (i + 1)))=some ((cells.drop (off + (i + 1) * sz)).take ((n - i) * sz),n - i):=znZ (by rw [zbuZ hc (by omega)]);unfold aap;rw [e];simp only [aapp1,hc];rw [if_neg (by simp; omega)];have hin : i + (n - i)=n:=by omega
  cases cap' with
  | ex k =>
   simp only [Room.least] at hcap2;simp only [hin,show n≤k by omega,if_true];exact ⟨_,rfl,by simp,λj hj=>by rw [gSN (Ne.symm hj)],by simp [hol]⟩
  | ge k =>
   simp only [Room.least] at hcap2
   by_cases h : n - i=0
   ·have : i=n:=by omega
    subst this;simp only [h,if_true];refine ⟨_,rfl,rfl,λ_ _=>rfl, ?_⟩;rw [hc]; simp [over]
   ·simp only [h,if_false,hin,show n≤k by omega,if_true]
    exact ⟨_,rfl,by simp,λj hj=>by rw [gSN (Ne.symm hj)],by simp [hol]⟩
 obtain ⟨H8,hA,hL,hO,hC⟩:=hap;have hDl : ((cells.drop (off + (i + 1) * sz)).take ((n - i) * sz)).length=(n - i) * sz:=by rw [List.length_take,List.length_drop]; omega
 have hcl : (over cells (off + i * sz) ((cells.drop (off + (i + 1) * sz)).take ((n - i) * sz))).length=cells.length:=zzkZ (by rw [hDl]; omega);have hol8 : o < H8.length:=by omega
 refine ⟨.sl o off n sz cap',H8.set o (some (.cells (over (over cells (off + i * sz) ((cells.drop (off + (i + 1) * sz)).take ((n - i) * sz))) (off + n * sz) (zrow zc 1)))),⟨rfl, ?_, ?_,λj hj=>?_,rfl,by simp only [capOk]; omega⟩, ?_⟩
 rotate_left 3
 ·unfold delF
  have q1 : ((i : Int) + 1)=((i + 1 : Nat) : Int):=by omega
  have w1 : alnS (.sl o off (n + 1) sz cap)=some (I ((n + 1 : Nat) : Int)):=rfl;have hcl' : n + 1≤cap.least:=hcap
  have w2 : ∃ v,aslS sz (.sl o off (n + 1) sz cap) (some (I i)) (some (I ((i + 1 : Nat) : Int))) (some (I ((n + 1 : Nat) : Int)))=some v:=by
   refine ⟨.sl o (off + i * sz) (i + 1 - i) sz (.ex (n + 1 - i)), ?_⟩;simp [aslS,abnd,goInt,show (0 : Int)≤(i : Int) + 1 by omega,show (0 : Int)≤(n : Int) + 1 by omega];omega
  obtain ⟨v,w2⟩:=w2
  have w3 : aslS sz (.sl o off (n + 1) sz cap) none (some (I i)) none=some (.sl o off i sz cap'):=by
   rw [← hcap1];simp [aslS,abnd,goInt];omega
  have w4 : aslS sz (.sl o off (n + 1) sz cap) (some (I ((i + 1 : Nat) : Int))) none none=some (.sl o (off + (i + 1) * sz) (n - i) sz (cap.cut (n + 1) (i + 1))):=by
   have : ((i : Int) + 1)=((i + 1 : Nat) : Int):=by omega
   simp [aslS,abnd,goInt,this,-Int.natCast_add];omega
  have w5 : aslS sz (.sl o off n sz cap') (some (I n)) (some (I ((n + 1 : Nat) : Int))) none=some (.sl o (off + n * sz) 1 sz (cap'.cut n n)):=by
   simp [aslS,abnd,goInt,show (0 : Int)≤(n : Int) + 1 by omega];omega
  have w6 : abI .eql (I i) (I ((i + 1 : Nat) : Int))=some (B false):=by simp; omega
  rw [q1,w1];simp only [zbZ,w2,w6,zpZ,zmZ,w3,w4,hA,zbpZ,alnS,w5];have zl : (zrow zc 1).length=sz:=by rw [zieZ,hz]; omega
  have w7 : acl zc H8 (.sl o (off + n * sz) 1 sz (cap'.cut n n))=some (H8.set o (some (.cells (over (over cells (off + i * sz) ((cells.drop (off + (i + 1) * sz)).take ((n - i) * sz))) (off + n * sz) (zrow zc 1))))):=by
   unfold acl;simp only [hC];rw [if_pos ⟨hz,by omega,by omega⟩,if_neg (by omega),zujZ _ _ _ (by omega)];rfl
  rw [w7];simp only [zcaZ];exact ⟨trivial,trivial⟩
 ·rw [zbuZ (c:=over (over cells (off + i * sz) ((cells.drop (off + (i + 1) * sz)).take ((n - i) * sz))) (off + n * sz) (zrow zc 1)) (by simp [hol8]) (by rw [zzkZ (by rw [zieZ,hz]; omega)]; omega)]
  congr 2
  have e1 : ((cells.drop off).take ((n + 1) * sz)).take (i * sz)=(cells.drop off).take (i * sz):=by rw [List.take_take]; congr 1; omega
  have e2 : ((cells.drop off).take ((n + 1) * sz)).drop ((i + 1) * sz)=(cells.drop (off + (i + 1) * sz)).take ((n - i) * sz):=by rw [List.drop_take,List.drop_drop]; congr 1; omega
  rw [e1,e2];have e3 : (n : Nat) * sz=i * sz + (n - i) * sz:=by rw [← Nat.add_mul]; congr 1; omega
  generalize (cells.drop (off + (i + 1) * sz)).take ((n - i) * sz)=D at *
  have h1 : ((over (over cells (off + i * sz) D) (off + n * sz) (zrow zc 1)).drop off).take (n * sz)=((over cells (off + i * sz) D).drop off).take (n * sz):=by
   refine List.ext_getElem? λk=>?_
   rw [List.getElem?_take,List.getElem?_take]
   by_cases c : k < n * sz
   ·rw [if_pos c,if_pos c,List.getElem?_drop,List.getElem?_drop,zbebZ (by rw [zieZ,hz]; omega),if_neg (by omega)]
   ·rw [if_neg c,if_neg c]
  rw [h1,e3]
  have:=(over_read cells off (i * sz) D (by omega)).1
  rw [hDl] at this;exact this
 ·simp [hL]
 ·rw [gSN (by simp [idS] at hj; omega)]; exact hO j (by simpa [idS] using hj)
end
end Go.Proofs.YtlhiaihmkjlaaaaGreat.Av
end
section
namespace Go.Proofs.YtlhiaihmkjlaaaaGreat.Av
open Go Go.RowKit
theorem compareString_calls (a b : ByteArray) (H : AH) : ACalls Tryz.prog 183 [.lit (.string a),.lit (.string b)] H λr H'=>r = .lit (.int .i64 (Lib.compareBytes a.data.toList b.data.toList))∧H'=H:=by
 refine ACalls.of_body Tryz.func183 rfl ?_;refine ACode.seq (ACode.region (AOps.op rfl rfl (AOps.nil ?_)));refine ACode.seq (ACode.region (AOps.op rfl rfl (AOps.op rfl rfl (AOps.extern rfl rfl (r:=.lit (.int .i64 (Lib.compareBytes a.data.toList b.data.toList))) ?_ (AOps.op rfl rfl (AOps.nil ?_))))))
 ·intro G vs hH hv
  have hv' : VRs G [.lit (.string a),.lit (.string b)] vs:=hv;simp only [VRs,VR] at hv';obtain ⟨_,_,rfl,rfl,_,_,rfl,rfl,rfl⟩:=hv';refine ⟨.int .i64 (Lib.compareBytes a.data.toList b.data.toList), ?_,by simp only [VR]⟩
  rw [run_callFunc_extern Tryz.func196 (by kernel_rfl) (by kernel_rfl) (by kernel_rfl) (e:=Extern.BytealgCompare.compare) (by kernel_rfl),
   Lib.run_compareString (P:=Tryz.prog) a b G.w]
  rfl
 ·exact ACode.ret ⟨.inr rfl,_,rfl,rfl,rfl⟩
def cmpExt : zbgmZ:=λf args H=>if f=183 then match args with
  | [.lit (.string a),.lit (.string b)] => some (.lit (.int .i64 (Lib.compareBytes a.data.toList b.data.toList)),H)
  | _ => none
 else none
theorem cmpExt_ok : zbgsZ Tryz.prog cmpExt:=by
 intro f args H r H' h;unfold cmpExt at h;split at h
 ·rename_i hf
  subst hf;split at h
  ·injection h with h
   injection h with h1 h2;subst h1; subst h2;exact compareString_calls _ _ _
  ·cases h
 ·cases h
end Go.Proofs.YtlhiaihmkjlaaaaGreat.Av
end
