/- Texts of this proof, one behind the other, packed into one file by a program of this session. No condition. -/
import Derived.Test.YtlhiaihmkjlaaaaGreatMrC
import Derived.KernelRfl
import Derived.OpenShut
import Derived.ProofKit
import Derived.SizedLaws
import Derived.Test.YtlhiaihmkjlaaaaGreatRows
import Derived.WalkKit
set_option linter.unusedVariables false
set_option linter.unusedSimpArgs false
set_option maxRecDepth 100000
section
namespace Go.Proofs.YtlhiaihmkjlaaaaGreat.Av
open Go Go.RowKit
def zjsZ : AV→Bool
 | .lit (.slice none _ _) => true
 | .emp => true
 | .sl _ _ _ _ _ => true
 | _ => false
def idS : AV→List Nat
 | .sl o _ _ _ _ => [o]
 | _ => []
theorem zcvZ {H : AH} {sz : Nat} {v : AV} {cs : List AV} {n : Nat} (h : zaZ H sz v=some (cs,n)) : cs.length=n * sz:=by
 unfold zaZ at h;split at h
 ·split at h
  ·rename_i hb
   injection h with h; injection h with h1 h2;subst h1; subst h2;exact hb.2
  ·cases h
 ·split at h
  ·split at h
   ·rename_i hb
    injection h with h; injection h with h1 h2;subst h1; subst h2;rw [List.length_take,List.length_drop]; omega
   ·cases h
  ·cases h
 ·injection h with h; injection h with h1 h2; subst h1; subst h2; simp
 ·injection h with h; injection h with h1 h2; subst h1; subst h2; simp
 ·cases h
theorem appended_len {H : AH} {sz : Nat} {v : AV} {cs : List AV} {n : Nat} (h : zdeZ H sz v=some (cs,n)) : cs.length=n * sz:=by
 unfold zdeZ at h;split at h
 ·split at h
  ·rename_i hs
   injection h with h; injection h with h1 h2;subst h1; subst h2; subst hs;simp
  ·cases h
 ·exact zcvZ h
theorem znZ {H : AH} {sz : Nat} {v : AV} {q : List AV × Nat} (h : zaZ H sz v=some q) : zdeZ H sz v=some q:=by
 unfold zdeZ
 split
 ·cases h
 ·exact h
theorem over_read (cs : List AV) (off l : Nat) (ds : List AV) (h : off + l≤cs.length) : ((over cs (off + l) ds).drop off).take (l + ds.length)=(cs.drop off).take l ++ ds∧off + (l + ds.length)≤(over cs (off + l) ds).length:=by
 unfold over
 constructor
 ·rw [List.append_assoc,List.drop_append_of_le_length (by rw [List.length_take]; omega),List.take_append]
  have e1 : ((cs.take (off + l)).drop off)=(cs.drop off).take l:=by rw [List.drop_take]; congr 1; omega
  rw [e1];have e2 : ((cs.drop off).take l).length=l:=by rw [List.length_take,List.length_drop]; omega
  rw [e2,List.take_of_length_le (by omega)]
  congr 1
  rw [show l + ds.length - l=ds.length by omega,List.take_left]
 ·simp only [List.length_append,List.length_take]; omega
theorem zbuZ {H : AH} {sz o off n : Nat} {cap : Room} {c : List AV} (ho : H[o]? = some (some (.cells c))) (hf : off + n * sz≤c.length) : zaZ H sz (.sl o off n sz cap)=some ((c.drop off).take (n * sz),n):=by
 simp [zaZ,ho,hf]
theorem zcZ {H H' : AH} {sz : Nat} {v : AV} {q : List AV × Nat} (h : zaZ H sz v=some q) (hk : ∀ i ∈ idS v,H'[i]? = H[i]?) : zaZ H' sz v=some q:=by
 cases v with
 | sl o off len esz cap =>
  have:=hk o (by simp [idS])
  simp only [zaZ] at h ⊢;rw [this]; exact h
 | lit u =>
  unfold zaZ at h ⊢;split at h <;> simp_all
 | imm cs len esz => simpa only [zaZ] using h
 | emp => simpa only [zaZ] using h
 | _ => simp [zaZ] at h
theorem zrZ {H : AH} {sz : Nat} {v : AV} {q : List AV × Nat} (h : zaZ H sz v=some q) : ∀ i ∈ idS v,i < H.length:=by
 intro i hi;cases v with
 | sl o off len esz cap =>
  simp only [idS,List.mem_singleton] at hi;subst hi;simp only [zaZ] at h;split at h
  ·rename_i ho
   exact (gSI.1 ho).1
  ·cases h
 | _ => simp [idS] at hi
section
variable {P : Program}
theorem aapp1_spec {sz bytes : Nat} {H : AH} {s : AV} {cs ds : List AV} {n m : Nat} (h1 : zaZ H sz s=some (cs,n)) (ho : zjsZ s=true) (hdl : ds.length=m * sz) (hb : (n + m) * bytes≤140737488355328) :
  ∃ r H',aapp1 H sz bytes s ds m=some (r,H')∧zjsZ r=true∧zaZ H' sz r=some (cs ++ ds,n + m)∧H.length≤H'.length∧(∀ i,i < H.length→i ∉ idS s→H'[i]? = H[i]?)∧∀ i ∈ idS r,i ∈ idS s∨H.length≤i:=by
 have hcl:=zcvZ h1
 have newc : zaZ (H ++ [some (.cells ds)]) sz (.sl H.length 0 m sz (.ge m))=some (ds,m):=by
  rw [zbuZ (c:=ds) (by simp) (by omega)];simp only [List.drop_zero];rw [List.take_of_length_le (by omega)]
 have keep : ∀ (X : AH) (i : Nat),i < H.length→(H ++ X)[i]? = H[i]?:=λX i hi=>List.getElem?_append_left hi
 have hnil : n=0→cs=[]:=λh0=>List.eq_nil_of_length_eq_zero (by rw [hcl,h0]; simp)
 unfold zaZ at h1;split at h1
 ·simp [zjsZ] at ho
 ·-- an object
  rename_i o off len esz cap;split at h1
  ·rename_i c hoc
   split at h1
   ·rename_i hb1
    obtain ⟨rfl,hfit⟩:=hb1;injection h1 with h1;injection h1 with h3 h4;subst h3; subst h4;have hol:=(gSI.1 hoc).1;have hadd : (len + m) * esz=len * esz + m * esz:=Nat.add_mul _ _ _;obtain ⟨ov1,ov2⟩:=over_read c off (len * esz) ds hfit
    have inplace : ∀ cap',zaZ (H.set o (some (.cells (over c (off + len * esz) ds)))) esz (.sl o off (len + m) esz cap')=some ((c.drop off).take (len * esz) ++ ds,len + m):=by
     intro cap';rw [zbuZ (c:=over c (off + len * esz) ds) (by rw [gSS hol]) (by rw [hadd,← hdl]; exact ov2)];rw [hadd,← hdl,ov1]
    have fresh : ∀ (H2 : AH) cap',H2.length=H.length→zaZ (H2 ++ [some (.cells ((c.drop off).take (len * esz) ++ ds))]) esz (.sl H.length 0 (len + m) esz cap')=some ((c.drop off).take (len * esz) ++ ds,len + m):=by
     intro H2 cap' hl;rw [zbuZ (c:=(c.drop off).take (len * esz) ++ ds) (by rw [← hl]; simp) (by rw [List.length_append,hcl,hdl]; omega)];simp only [List.drop_zero];rw [List.take_of_length_le (by rw [List.length_append,hcl,hdl]; omega)]
    have hkeep : ∀ (y : Option AObj) (X : AH) (i : Nat),i < H.length→i ∉ idS (.sl o off len esz cap)→(H.set o y ++ X)[i]? = H[i]?:=by
     intro y X i hi hn;rw [List.getElem?_append_left (by simpa using hi),gSN (by simp [idS] at hn; omega)]
    unfold aapp1;simp only [hoc,ne_eq,not_true_eq_false,false_or,hfit,if_false];cases cap with
    | ex k =>
     simp only
     by_cases hk : len + m≤k
     ·rw [if_pos hk]
      exact ⟨_,_,rfl,rfl,inplace _,by simp,λi hi hn=>by simpa using hkeep _ [] i hi hn,λi hi=>.inl (by simpa [idS] using hi)⟩
     ·rw [if_neg hk,if_pos hb]
      exact ⟨_,_,rfl,rfl,fresh H _ rfl,by simp,λi hi _=>keep _ i hi,λi hi=>.inr (by simp [idS] at hi; omega)⟩
    | ge k =>
     simp only
     by_cases hm : m=0
     ·subst hm
      have hd0 : ds=[]:=List.eq_nil_of_length_eq_zero (by rw [hdl]; simp);subst hd0;rw [if_pos rfl];exact ⟨_,_,rfl,rfl,by rw [zbuZ hoc hfit]; simp,Nat.le_refl _,λ_ _ _=>rfl,λi hi=>.inl hi⟩
     ·rw [if_neg hm]
      by_cases hk : len + m≤k
      ·rw [if_pos hk]
       exact ⟨_,_,rfl,rfl,inplace _,by simp,λi hi hn=>by simpa using hkeep _ [] i hi hn,λi hi=>.inl (by simpa [idS] using hi)⟩
      ·rw [if_neg hk,if_pos hb]
       exact ⟨_,_,rfl,rfl,fresh (H.set o none) _ (by simp),by simp,λi hi hn=>hkeep none _ i hi hn,λi hi=>.inr (by simp [idS] at hi; omega)⟩
   ·cases h1
  ·cases h1
 ·-- nil
  injection h1 with h1;injection h1 with h3 h4;subst h3; subst h4;unfold aapp1;simp only
  by_cases hm : m=0
  ·subst hm
   have hd0 : ds=[]:=List.eq_nil_of_length_eq_zero (by rw [hdl]; simp);subst hd0;rw [if_pos rfl];exact ⟨_,_,rfl,rfl,rfl,Nat.le_refl _,λ_ _ _=>rfl,λi hi=>.inl hi⟩
  ·rw [if_neg hm,if_pos (by simpa using hb)]
   exact ⟨_,_,rfl,rfl,by simpa using newc,by simp,λi hi _=>keep _ i hi,λi hi=>.inr (by simp [idS] at hi; omega)⟩
 ·-- empty
  injection h1 with h1;injection h1 with h3 h4;subst h3; subst h4;unfold aapp1;simp only
  by_cases hm : m=0
  ·subst hm
   have hd0 : ds=[]:=List.eq_nil_of_length_eq_zero (by rw [hdl]; simp);subst hd0;rw [if_pos rfl];exact ⟨_,_,rfl,rfl,rfl,Nat.le_refl _,λ_ _ _=>rfl,λi hi=>.inl hi⟩
  ·rw [if_neg hm,if_pos (by simpa using hb)]
   exact ⟨_,_,rfl,rfl,by simpa using newc,by simp,λi hi _=>keep _ i hi,λi hi=>.inr (by simp [idS] at hi; omega)⟩
 ·cases h1
end
end Go.Proofs.YtlhiaihmkjlaaaaGreat.Av
end
section
namespace Go.Proofs.YtlhiaihmkjlaaaaGreat.Av
open Go Go.RowKit
abbrev I (n : Int) : AV:=.lit (.int .i64 n)
abbrev B (b : Bool) : AV:=.lit (.bool b)
abbrev S (s : ByteArray) : AV:=.lit (.string s)
abbrev nilSl : AV:=.lit (.slice none 0 0)
@[congr] theorem bO_congr {x x' : Option AV} {K : AV→Prop} (h : x=x') : bO x K=bO x' K:=by rw [h]
@[congr] theorem bH_congr {x x' : Option (AV × AH)} {K : AV→AH→Prop} (h : x=x') : bH x K=bH x' K:=by rw [h]
@[congr] theorem bS_congr {x x' : Option AH} {K : AH→Prop} (h : x=x') : bS x K=bS x' K:=by rw [h]
@[congr] theorem bB_congr {v v' : AV} {K : Bool→Prop} (h : v=v') : bB v K=bB v' K:=by rw [h]
@[congr] theorem bI_congr {b b' : Bool} {A B : Prop} (h : b=b') : bI b A B=bI b' A B:=by rw [h]
@[congr] theorem bG_congr {v v' : AV} {w : Bool} {K : Bool→Prop} (h : v=v') : bG v w K=bG v' w K:=by rw [h]
@[congr] theorem bF_congr {w w' : Bool} {v v' : AV} {K : FuncId→List AV→List AV→Prop} (hw : w=w') (h : v=v') : bF w v K=bF w' v' K:=by rw [hw,h]
@[congr] theorem bT_congr {b b' : Bool} {A : Prop} (h : b=b') : bT b A=bT b' A:=by rw [h]
@[congr] theorem bC_congr {R : AV→AH→Prop} {K : AV→AH→Prop} : bC R K=bC R K:=rfl
@[congr] theorem bP_congr {R : AV→Prop} {K : AV→Prop} : bP R K=bP R K:=rfl
@[congr] theorem gO_congr {w w' : Bool} {x : Option AV} {K : AV→Prop} (h : w=w') : gO w x K=gO w' x K:=by rw [h]
@[congr] theorem gH_congr {w w' : Bool} {x : Option (AV × AH)} {H : AH} {K : AV→AH→Prop} (h : w=w') : gH w x H K=gH w' x H K:=by rw [h]
@[congr] theorem gS_congr {w w' : Bool} {x : Option AH} {H : AH} {K : AH→Prop} (h : w=w') : gS w x H K=gS w' x H K:=by rw [h]
@[congr] theorem gC_congr {w w' : Bool} {R : AV→AH→Prop} {H : AH} {K : AV→AH→Prop} (h : w=w') : gC w R H K=gC w' R H K:=by rw [h]
@[congr] theorem gP_congr {w w' : Bool} {R : AV→Prop} {K : AV→Prop} (h : w=w') : gP w R K=gP w' R K:=by rw [h]
@[simp] theorem zbZ {v : AV} {K : AV→Prop} : bO (some v) K=K v:=by unfold bO; exact Eq.refl _
@[simp] theorem zbpZ {v : AV} {H : AH} {K : AV→AH→Prop} : bH (some (v,H)) K=K v H:=by unfold bH; exact Eq.refl _
@[simp] theorem zcaZ {H : AH} {K : AH→Prop} : bS (some H) K=K H:=by unfold bS; exact Eq.refl _
@[simp] theorem zpZ {b : Bool} {K : Bool→Prop} : bB (.lit (.bool b)) K=K b:=by unfold bB; exact Eq.refl _
@[simp] theorem zbcZ {A B : Prop} : bI true A B=A:=by unfold bI; exact Eq.refl _
@[simp] theorem zmZ {A B : Prop} : bI false A B=B:=by unfold bI; exact Eq.refl _
@[simp] theorem zcrZ {b w : Bool} {K : Bool→Prop} : bG (.lit (.bool b)) w K=K (b == w):=by unfold bG; exact Eq.refl _
@[simp] theorem bG_undef {w : Bool} {K : Bool→Prop} : bG zgmZ w K=K false:=by unfold bG; exact Eq.refl _
@[simp] theorem bT_true {A : Prop} : bT true A=A:=by unfold bT; exact Eq.refl _
@[simp] theorem bF_fn {w : Bool} {k : FuncId} {a b : List AV} {K : FuncId→List AV→List AV→Prop} : bF w (.fn (.func k) a b) K=K k a b:=by unfold bF; exact Eq.refl _
@[simp] theorem bF_undef {K : FuncId→List AV→List AV→Prop} : bF false zgmZ K=K 0 [] []:=by unfold bF zgmZ; exact Eq.refl _
@[simp] theorem zbrZ {x : Option AV} {K : AV→Prop} : gO true x K=bO x K:=by unfold gO; exact Eq.refl _
@[simp] theorem zfxZ {x : Option AV} {K : AV→Prop} : gO false x K=K zgmZ:=by unfold gO; exact Eq.refl _
@[simp] theorem zjrZ {x : Option (AV × AH)} {H : AH} {K : AV→AH→Prop} : gH true x H K=bH x K:=by unfold gH; exact Eq.refl _
@[simp] theorem gH_false {x : Option (AV × AH)} {H : AH} {K : AV→AH→Prop} : gH false x H K=K zgmZ H:=by unfold gH; exact Eq.refl _
@[simp] theorem zjqZ {x : Option AH} {H : AH} {K : AH→Prop} : gS true x H K=bS x K:=by unfold gS; exact Eq.refl _
@[simp] theorem gS_false {x : Option AH} {H : AH} {K : AH→Prop} : gS false x H K=K H:=by unfold gS; exact Eq.refl _
@[simp] theorem gC_true {R : AV→AH→Prop} {H : AH} {K : AV→AH→Prop} : gC true R H K=bC R K:=by unfold gC; exact Eq.refl _
@[simp] theorem gC_false {R : AV→AH→Prop} {H : AH} {K : AV→AH→Prop} : gC false R H K=K zgmZ H:=by unfold gC; exact Eq.refl _
@[simp] theorem gP_true {R : AV→Prop} {K : AV→Prop} : gP true R K=bP R K:=by unfold gP; exact Eq.refl _
@[simp] theorem gP_false {R : AV→Prop} {K : AV→Prop} : gP false R K=K zgmZ:=by unfold gP; exact Eq.refl _
theorem bP_of {R : AV→Prop} {K : AV→Prop} {r : AV} (h : R r) (hk : K r) : bP R K:=⟨r,h,hk⟩
theorem zyZ {P : Program} {f : FuncId} {args : List AV} {H : AH} {K : AV→Prop} {r : AV} (h : BPure P f args r) (hk : K r) : bP (PCall P f args H) K:=⟨r,.inl h,hk⟩
theorem bP_lend {P : Program} {f : FuncId} {args args' : List AV} {H : AH} {K : AV→Prop} {r : AV} (n : Nat) (hf : mapO (frz H n) args=some args') (hr : flatA r=true) (h : BPure P f args' r) (hk : K r) : bP (PCall P f args H) K:=⟨r,.inr ⟨n,args',hf,hr,h⟩,hk⟩
theorem bC_of {R : AV→AH→Prop} {K : AV→AH→Prop} {r : AV} {H : AH} (h : R r H) (hk : K r H) : bC R K:=⟨r,H,h,hk⟩
theorem wrap64 {x : Int} (h1 : -9223372036854775808≤x) (h2 : x≤9223372036854775807) : IntKind.i64.wrap x=x:=by
 simp [IntKind.wrap,IntKind.bits,IntKind.signed]; omega
section
variable {k : IntKind} {a b : Int}
theorem zbdZ (h1 : -9223372036854775808≤a + b) (h2 : a + b≤9223372036854775807) : abI .add (I a) (I b)=some (I (a + b)):=by simp [abI,aint2,wrap64 h1 h2]
theorem zfpZ (h1 : -9223372036854775808≤a - b) (h2 : a - b≤9223372036854775807) : abI .sub (I a) (I b)=some (I (a - b)):=by simp [abI,aint2,wrap64 h1 h2]
theorem zshZ (h1 : -9223372036854775808≤a * b) (h2 : a * b≤9223372036854775807) : abI .mul (I a) (I b)=some (I (a * b)):=by simp [abI,aint2,wrap64 h1 h2]
theorem zbgjZ (h1 : 0≤a) (h2 : a≤9223372036854775807) (h3 : 0 < b) : abI .quo (I a) (I b)=some (I (a / b)):=by
 have e : a.tdiv b=a / b:=Int.tdiv_eq_ediv_of_nonneg h1;have h4 : 0≤a / b:=Int.ediv_nonneg h1 (by omega);have h5 : a / b≤a:=Int.ediv_le_self _ h1;simp [abI,aint2,e,wrap64 (x:=a / b) (by omega) (by omega)]; omega
theorem abI_rem (h1 : 0≤a) (h3 : 0 < b) : abI .rem (.lit (.int k a)) (.lit (.int k b))=some (.lit (.int k (a % b))):=by
 have e : a.tmod b=a % b:=Int.tmod_eq_emod_of_nonneg h1;simp [abI,aint2,e]; omega
@[simp] theorem zjaZ : abI .eql (.lit (.int k a)) (.lit (.int k b))=some (B (decide (a=b))):=by simp [abI,aint2]; rfl
@[simp] theorem zkuZ : abI .neq (.lit (.int k a)) (.lit (.int k b))=some (B (decide (a ≠ b))):=by
 simp [abI,aint2]
 by_cases h : a=b <;> simp [h]
@[simp] theorem zglZ : abI .lss (.lit (.int k a)) (.lit (.int k b))=some (B (decide (a < b))):=by simp [abI,aint2]
@[simp] theorem abI_leq : abI .leq (.lit (.int k a)) (.lit (.int k b))=some (B (decide (a≤b))):=by simp [abI,aint2]
@[simp] theorem ztmZ : abI .gtr (.lit (.int k a)) (.lit (.int k b))=some (B (decide (b < a))):=by simp [abI,aint2]
@[simp] theorem abI_geq : abI .geq (.lit (.int k a)) (.lit (.int k b))=some (B (decide (b≤a))):=by simp [abI,aint2]
@[simp] theorem abB_eql {x y : Bool} : abB .eql (.lit (.bool x)) (.lit (.bool y))=some (B (decide (x=y))):=by cases x <;> cases y <;> rfl
@[simp] theorem abB_neq {x y : Bool} : abB .neq (.lit (.bool x)) (.lit (.bool y))=some (B (decide (x ≠ y))):=by cases x <;> cases y <;> rfl
@[simp] theorem zduZ {x : Bool} : aun .not (.lit (.bool x))=some (B !x):=rfl
@[simp] theorem zoZ {t : Bool} {x y : AV} : apick (.lit (.bool t)) x y=some (if t then x else y):=rfl
@[simp] theorem imn_eq : imn a b=min b a:=by unfold imn; omega
@[simp] theorem imx_eq : imx a b=max b a:=by unfold imx; omega
@[simp] theorem zbggZ {f : Int→Int→Int} : amm f [.lit (.int k a),.lit (.int k b)]=some (.lit (.int k (f a b))):=rfl
theorem acI_i64 {k' : IntKind} (h1 : -9223372036854775808≤a) (h2 : a≤9223372036854775807) : acI .i64 (.lit (.int k' a))=some (I a):=by simp [acI,wrap64 h1 h2]
end
@[simp] theorem ziZ {vs : List AV} {i : Nat} : zjZ (.tup vs) i=vs[i]?:=rfl
@[simp] theorem zkZ {o off : Nat} : zgZ (.ptr o off)=some (.ptr o off):=rfl
@[simp] theorem anilCheck_ip {cs : List AV} : zgZ (.ip cs)=some (.ip cs):=rfl
@[simp] theorem zeZ {k o off : Nat} : zhZ k (.ptr o off)=some (.ptr o (off + k)):=rfl
@[simp] theorem ashift_ip {k : Nat} {cs : List AV} : zhZ k (.ip cs)=some (.ip (cs.drop k)):=rfl
@[simp] theorem ald_ip {g : Bool} {n : Nat} {H : AH} {cs : List AV} : ald g n H (.ip cs)=ztZ g n cs 0:=rfl
theorem zlZ {g : Bool} {n o off : Nat} {H : AH} {cs : List AV} (h : H[o]? = some (some (.cells cs))) : ald g n H (.ptr o off)=ztZ g n cs off:=by simp [ald,h]
@[simp] theorem zdZ {n : Nat} {cs : List AV} {off : Nat} : ztZ false n cs off=cs[off]?:=by simp [ztZ]
theorem rdCells_agg {n : Nat} {cs : List AV} {off : Nat} (h : off + n≤cs.length) : ztZ true n cs off=some (.agg ((cs.drop off).take n)):=by simp [ztZ,h]
@[simp] theorem aprt_agg {g : Bool} {n off : Nat} {cs : List AV} : aprt g n off (.agg cs)=ztZ g n cs off:=rfl
@[simp] theorem anew_agg {H : AH} {cs : List AV} : anew H (.agg cs)=if cs.all oneA then some (.ptr H.length 0,H ++ [some (.cells cs)]) else none:=by
 unfold anew zbdpZ;simp only
 split <;> simp
theorem anew_lit {H : AH} {v : Value} (h : oneA (.lit v)=true) : anew H (.lit v)=some (.ptr H.length 0,H ++ [some (.cells [.lit v])]):=by
 unfold anew zbdpZ;simp only [h,if_true];rfl
theorem zcoZ {n o off : Nat} {H : AH} {x : AV} {xs cs : List AV} (hx : zbdpZ x=some xs) (h : H[o]? = some (some (.cells cs))) (hl : xs.length=n) (hb : off + n≤cs.length) : ast n H (.ptr o off) x=some (H.set o (some (.cells (zlaZ cs off xs)))):=by
 simp [ast,hx,h,hl,hb]
@[simp] theorem oneA_int {k : IntKind} {n : Int} : oneA (.lit (.int k n))=true:=rfl
@[simp] theorem oneA_bool {b : Bool} : oneA (.lit (.bool b))=true:=rfl
@[simp] theorem oneA_str {s : ByteArray} : oneA (.lit (.string s))=true:=rfl
@[simp] theorem oneA_nil {n c : Nat} : oneA (.lit (.slice none n c))=true:=rfl
@[simp] theorem oneA_nilm : oneA (.lit (.map none))=true:=rfl
@[simp] theorem oneA_nilp : oneA (.lit (.pointer none))=true:=rfl
@[simp] theorem oneA_sl {o off len esz : Nat} {cap : Room} : oneA (.sl o off len esz cap)=true:=rfl
@[simp] theorem oneA_imm {cs : List AV} {len esz : Nat} : oneA (.imm cs len esz)=true:=rfl
@[simp] theorem oneA_ptr {o off : Nat} : oneA (.ptr o off)=true:=rfl
@[simp] theorem oneA_emp : oneA .emp=true:=rfl
@[simp] theorem oneA_mp {o : Nat} : oneA (.mp o)=true:=rfl
@[simp] theorem cellsA_int {k : IntKind} {n : Int} : zbdpZ (.lit (.int k n))=some [.lit (.int k n)]:=rfl
@[simp] theorem cellsA_bool {b : Bool} : zbdpZ (.lit (.bool b))=some [.lit (.bool b)]:=rfl
@[simp] theorem cellsA_str {s : ByteArray} : zbdpZ (.lit (.string s))=some [.lit (.string s)]:=rfl
@[simp] theorem cellsA_nil {n c : Nat} : zbdpZ (.lit (.slice none n c))=some [.lit (.slice none n c)]:=rfl
@[simp] theorem cellsA_nilm : zbdpZ (.lit (.map none))=some [.lit (.map none)]:=rfl
@[simp] theorem cellsA_nilp : zbdpZ (.lit (.pointer none))=some [.lit (.pointer none)]:=rfl
@[simp] theorem cellsA_sl {o off len esz : Nat} {cap : Room} : zbdpZ (.sl o off len esz cap)=some [.sl o off len esz cap]:=rfl
@[simp] theorem cellsA_imm {cs : List AV} {len esz : Nat} : zbdpZ (.imm cs len esz)=some [.imm cs len esz]:=rfl
@[simp] theorem cellsA_ptr {o off : Nat} : zbdpZ (.ptr o off)=some [.ptr o off]:=rfl
@[simp] theorem cellsA_emp : zbdpZ .emp=some [.emp]:=rfl
@[simp] theorem cellsA_mp {o : Nat} : zbdpZ (.mp o)=some [.mp o]:=rfl
@[simp] theorem zbcjZ {cs : List AV} : zbdpZ (.agg cs)=if cs.all oneA then some cs else none:=rfl
theorem zbsZ {v : AV} (h : oneA v=true) : zbdpZ v=some [v]:=by
 cases v <;> first
  | rfl
  | (rename_i u; cases u <;> first | rfl | simp [oneA] at h)
  | simp [oneA] at h
@[simp] theorem fillR_nil {cells : List AV} : fillR cells []=some cells:=rfl
@[simp] theorem fillR_cons {cells : List AV} {off size : Nat} {v : AV} {r : List (Nat × Nat × AV)} : fillR cells ((off,size,v) :: r)=match zbdpZ v with
  | some xs => if xs.length=size∧off + size≤cells.length then fillR (zlaZ cells off xs) r else none
  | none => none:=rfl
attribute [simp] abl absl absf zrow zlaZ LI0 LI1 LI2 LI3 LI4 LI5 LI6 LI7 LI8 LI9 LI10 LI11 LI12 LI13 LI14 LI15 LI16 LI17 LI18
@[simp] theorem zhpZ {g : Bool} {n o off : Nat} {H : AH} : ald g n H (.ptr o off)=match H[o]? with
  | some (some (.cells cs)) => ztZ g n cs off
  | _ => none:=rfl
@[simp] theorem alnS_imm {cs : List AV} {len esz : Nat} : alnS (.imm cs len esz)=some (I len):=rfl
@[simp] theorem alnS_nil : alnS (.lit (.slice none 0 0))=some (I 0):=rfl
@[simp] theorem alnS_sl {o off len esz : Nat} {cap : Room} : alnS (.sl o off len esz cap)=some (I len):=rfl
@[simp] theorem alnT_str {s : ByteArray} : alnT (.lit (.string s))=some (I s.size):=rfl
section
variable {P : Program} {f : FuncId} {args : List AV} {R : AV}
theorem BPure.flat (h : ∀ H,∃ r H',(r=R∧H'=H)∧BCall P f args H r H') : BPure P f args R:=λH=>by
 obtain ⟨r,H',⟨rfl,rfl⟩,h⟩:=h H;exact h
end
def SV {α : Type} (enc : α→List AV) (sz : Nat) (l : List α) (v : AV) : Prop:=noIds v=true∧∀ H,zaZ H sz v=some (l.flatMap enc,l.length)
section
variable {α : Type} {enc : α→List AV} {sz : Nat} {l : List α} {v : AV}
theorem SV.nil : SV enc sz [] nilSl:=⟨rfl,λ_=>rfl⟩
theorem SV.len (h : SV enc sz l v) : alnS v=some (I l.length):=by
 have h2:=h.2 [];unfold zaZ at h2;split at h2
 ·split at h2
  ·injection h2 with h2; injection h2 with e1 e2; rw [← e2]; rfl
  ·cases h2
 ·simp at h2
 ·injection h2 with h2; injection h2 with e1 e2; rw [← e2]; rfl
 ·injection h2 with h2; injection h2 with e1 e2; rw [← e2]; rfl
 ·cases h2
theorem zlzZ (hsz : ∀ x,(enc x).length=sz) : ∀ {l : List α} {k : Nat} {x : α},l[k]? = some x→(l.flatMap enc).drop (k * sz)=enc x ++ (l.drop (k + 1)).flatMap enc
 | [],k,x,h => by simp at h
 | a :: l,0,x,h => by simp at h; subst h; simp
 | a :: l,k + 1,x,h => by
  have:=zlzZ hsz (l:=l) (k:=k) (by simpa using h)
  rw [List.flatMap_cons,Nat.succ_mul,Nat.add_comm,← List.drop_drop,List.drop_left' (hsz a)]
  simpa using this
theorem flatMap_len (hsz : ∀ x,(enc x).length=sz) (l : List α) : (l.flatMap enc).length=l.length * sz:=by
 induction l with
 | nil => simp
 | cons a l ih => simp [List.flatMap_cons,hsz,ih,Nat.succ_mul]; omega
theorem SV.imm (hsz : ∀ x,(enc x).length=sz) (hn : ∀ x ∈ l,zdcZ (enc x)=true) : SV enc sz l (.imm (l.flatMap enc) l.length sz):=by
 refine ⟨?_,λH=>?_⟩
 ·simp only [noIds]
  induction l with
  | nil => rfl
  | cons a l ih =>
   rw [List.flatMap_cons];have h1:=hn a (by simp);have h2:=ih λx hx=>hn x (by simp [hx])
   generalize enc a=c at h1
   induction c with
   | nil => exact h2
   | cons b c ihc => simp only [zdcZ,Bool.and_eq_true,List.cons_append] at h1 ⊢; exact ⟨h1.1,ihc h1.2⟩
 ·simp [zaZ,flatMap_len hsz]
theorem SV.idx (h : SV enc sz l v) (hsz : ∀ x,(enc x).length=sz) {k : Nat} {x : α} {i : Int} (hk : l[k]? = some x) (hi : i=k) : aixS sz v (.lit (.int .i64 i))=some (.ip (enc x ++ (l.drop (k + 1)).flatMap enc)):=by
 subst hi;have hlt:=(gSI.1 hk).1;have h1:=h.1;have h2:=h.2 [];unfold zaZ at h2;split at h2
 ·rename_i cs len esz
  split at h2
  ·injection h2 with h2; injection h2 with e1 e2
   subst e1; subst e2;simp only [aixS,aint];rw [if_pos ⟨by omega,by omega⟩];simp [zlzZ hsz hk]
  ·cases h2
 ·simp [noIds] at h1
 ·injection h2 with h2; injection h2 with e1 e2; rw [← e2] at hlt; omega
 ·injection h2 with h2; injection h2 with e1 e2; rw [← e2] at hlt; omega
 ·cases h2
end
end Go.Proofs.YtlhiaihmkjlaaaaGreat.Av
end
section
namespace Go.Proofs.YtlhiaihmkjlaaaaGreat.Av
open Go Go.RowKit
section
variable {α : Type} {sz : Nat} {H : AH} {v : AV} {cs : List AV} {n : Nat}
theorem zhxZ (h : zaZ H sz v=some (cs,n)) : alnS v=some (I n):=by
 unfold zaZ at h;split at h
 ·split at h
  ·injection h with h; injection h with h1 h2; rw [← h2]; rfl
  ·cases h
 ·split at h
  ·split at h
   ·injection h with h; injection h with h1 h2; rw [← h2]; rfl
   ·cases h
  ·cases h
 ·injection h with h; injection h with h1 h2; rw [← h2]; rfl
 ·injection h with h; injection h with h1 h2; rw [← h2]; rfl
 ·cases h
theorem zjmZ {bytes : Nat} {x : AV} {ds : List AV} {m : Nat} (h1 : zaZ H sz v=some (cs,n)) (ho : zjsZ v=true) (h2 : zdeZ H sz x=some (ds,m)) (hb : (n + m) * bytes≤140737488355328) :
  ∃ r H',aap sz bytes H v x=some (r,H')∧zjsZ r=true∧zaZ H' sz r=some (cs ++ ds,n + m)∧H.length≤H'.length∧(∀ i,i < H.length→i ∉ idS v→H'[i]? = H[i]?)∧∀ i ∈ idS r,i ∈ idS v∨H.length≤i:=by
 obtain ⟨r,H',h⟩:=aapp1_spec h1 ho (appended_len h2) hb;exact ⟨r,H',by unfold aap; rw [h2]; exact h.1,h.2⟩
theorem zrvZ (h : zaZ H sz v=some (cs,n)) {lo hi : Option AV} {l k : Nat} (hl : abnd lo 0=some l) (hk : abnd hi n=some k) (hlk : l≤k) (hkn : k≤n) :
  ∃ r,aslS sz v lo hi none=some r∧zaZ H sz r=some ((cs.drop (l * sz)).take ((k - l) * sz),k - l)∧(∀ i ∈ idS r,i ∈ idS v)∧(zjsZ v=true→zjsZ r=true)∧(noIds v=true→noIds r=true):=by
 have hcl:=zcvZ h;have hmul : l * sz + (k - l) * sz=k * sz:=by rw [← Nat.add_mul]; congr 1; omega
 have hmul2 : k * sz≤n * sz:=Nat.mul_le_mul_right _ hkn;unfold zaZ at h;unfold aslS;split at h
 ·rename_i c len esz
  split at h
  ·rename_i hb
   obtain ⟨rfl,hb⟩:=hb;injection h with h; injection h with h1 h2;subst h1; subst h2;simp only [hl,hk,hlk,hkn,and_self,if_true];refine ⟨_,rfl, ?_,(λi hi=>hi),(λh=>by simp [zjsZ] at h),λh=>?_⟩
   ·simp only [zaZ,true_and]
    rw [if_pos (by rw [List.length_take,List.length_drop]; omega)]
   ·simp only [noIds] at h ⊢
    have key : ∀ (c : List AV) (a b : Nat),zdcZ c=true→zdcZ ((c.drop a).take b)=true:=by
     intro c
     induction c with
     | nil => intro a b _; simp [zdcZ]
     | cons x c ih =>
      intro a b hc;simp only [zdcZ,Bool.and_eq_true] at hc;cases a with
      | zero =>
       cases b with
       | zero => rfl
       | succ b => simp only [List.drop_zero,List.take_succ_cons,zdcZ,Bool.and_eq_true]; exact ⟨hc.1,by simpa using ih 0 b hc.2⟩
      | succ a => simpa using ih a b hc.2
    exact key _ _ _ h
  ·cases h
 ·rename_i o off len esz cap
  split at h
  ·rename_i c hoc
   split at h
   ·rename_i hb
    obtain ⟨rfl,hb⟩:=hb;injection h with h; injection h with h1 h2;subst h1; subst h2;simp only [ne_eq,not_true_eq_false,if_false,hl,hk];rw [if_pos ⟨hlk,by omega⟩];refine ⟨_,rfl, ?_,(λi hi=>hi),(λ_=>rfl),λh=>by simp [noIds] at h⟩;rw [zbuZ hoc (by omega),List.drop_take,List.drop_drop,List.take_take]
    congr 3
    omega
   ·cases h
  ·cases h
 ·injection h with h; injection h with h1 h2
  subst h1; subst h2;obtain rfl : k=0:=by omega
  obtain rfl : l=0:=by omega
  simp only [hl,hk];exact ⟨_,rfl,by simp [zaZ],(λi hi=>hi),(λ_=>rfl),λ_=>rfl⟩
 ·injection h with h; injection h with h1 h2
  subst h1; subst h2;obtain rfl : k=0:=by omega
  obtain rfl : l=0:=by omega
  simp only [hl,hk];exact ⟨_,rfl,by simp [zaZ],(λi hi=>hi),(λ_=>rfl),λ_=>rfl⟩
 ·cases h
def rdAt (H : AH) : AV→Option (List AV)
 | .ptr o off => match H[o]? with
  | some (some (.cells cs)) => some (cs.drop off)
  | _ => none
 | .ip cs => some cs
 | _ => none
theorem ald_at {g : Bool} {k : Nat} {p : AV} (h : rdAt H p=some cs) (hk : 0 < k) (hl : k≤cs.length) : ald g k H p=ztZ g k cs 0:=by
 unfold rdAt at h;unfold ald;split at h
 ·rename_i o off
  simp only;split at h
  ·rename_i c hc
   injection h with h;subst h;unfold ztZ;rw [List.length_drop] at hl;simp only [hc];cases g
   ·simp
   ·simp only [if_true]
    rw [if_pos (by omega),if_pos (by rw [List.length_drop]; omega)];simp
  ·cases h
 ·injection h with h
  subst h; rfl
 ·cases h
theorem ashift_at {k : Nat} {p : AV} (h : rdAt H p=some cs) : ∃ q,zhZ k p=some q∧rdAt H q=some (cs.drop k):=by
 unfold rdAt at h;split at h
 ·rename_i o off
  split at h
  ·rename_i c hc
   injection h with h;subst h;exact ⟨_,rfl,by simp [rdAt,hc]⟩
  ·cases h
 ·injection h with h
  subst h;exact ⟨_,rfl,rfl⟩
 ·cases h
theorem aixS_spec (h : zaZ H sz v=some (cs,n)) {k : Nat} {i : Int} (hi : i=k) (hk : k < n) : ∃ p c,aixS sz v (.lit (.int .i64 i))=some p∧rdAt H p=some c∧c.take sz=(cs.drop (k * sz)).take sz∧sz≤c.length:=by
 subst hi;have hcl:=zcvZ h;have hmul : k * sz + sz≤n * sz:=by rw [← Nat.succ_mul]; exact Nat.mul_le_mul_right _ hk
 unfold zaZ at h;unfold aixS;simp only [aint];split at h
 ·rename_i c len esz
  split at h
  ·rename_i hb
   obtain ⟨rfl,hb⟩:=hb;injection h with h; injection h with h1 h2;subst h1; subst h2;refine ⟨_,_,if_pos (by omega),rfl,by simp,by simp; omega⟩
  ·cases h
 ·rename_i o off len esz cap
  split at h
  ·rename_i c hoc
   split at h
   ·rename_i hb
    obtain ⟨rfl,hb⟩:=hb;injection h with h; injection h with h1 h2;subst h1; subst h2;refine ⟨_,c.drop (off + k * esz),if_pos (by omega),by simp [rdAt,hoc], ?_,by rw [List.length_drop]; omega⟩;rw [List.drop_take,List.drop_drop,List.take_take]
    congr 1
    omega
   ·cases h
  ·cases h
 ·injection h with h; injection h with h1 h2; omega
 ·injection h with h; injection h with h1 h2; omega
 ·cases h
end
mutual
theorem frz_noIds (X : AH) : ∀ (a : AV),noIds a=true→∃ n0,∀ n,n0≤n→frz X n a=some a
 | .lit v,_ => ⟨1,λn hn=>by cases n with
  | zero => omega
  | succ n => rfl⟩
 | .ip cs,h => by
  simp only [noIds] at h;obtain ⟨n0,h0⟩:=zmmZ X cs h;refine ⟨n0 + 1,λn hn=>?_⟩;cases n with
  | zero => omega
  | succ n => simp only [frz,h0 n (by omega)]; rfl
 | .imm cs len esz,h => by
  simp only [noIds] at h;obtain ⟨n0,h0⟩:=zmmZ X cs h;refine ⟨n0 + 1,λn hn=>?_⟩;cases n with
  | zero => omega
  | succ n => simp only [frz,h0 n (by omega)]; rfl
 | .agg cs,h => by
  simp only [noIds] at h;obtain ⟨n0,h0⟩:=zmmZ X cs h;refine ⟨n0 + 1,λn hn=>?_⟩;cases n with
  | zero => omega
  | succ n => simp only [frz,h0 n (by omega)]; rfl
 | .tup cs,h => by
  simp only [noIds] at h;obtain ⟨n0,h0⟩:=zmmZ X cs h;refine ⟨n0 + 1,λn hn=>?_⟩;cases n with
  | zero => omega
  | succ n => simp only [frz,h0 n (by omega)]; rfl
 | .fn f a b,h => by
  simp only [noIds,Bool.and_eq_true] at h;obtain ⟨n0,h0⟩:=zmmZ X a h.1;obtain ⟨n1,h1⟩:=zmmZ X b h.2;refine ⟨n0 + n1 + 1,λn hn=>?_⟩;cases n with
  | zero => omega
  | succ n => simp only [frz,h0 n (by omega),h1 n (by omega)]
 | .emp,_ => ⟨1,λn hn=>by cases n with
  | zero => omega
  | succ n => rfl⟩
 | .junk,_ => ⟨1,λn hn=>by cases n with
  | zero => omega
  | succ n => rfl⟩
 | .ptr ..,h => by simp [noIds] at h
 | .sl ..,h => by simp [noIds] at h
 | .mp ..,h => by simp [noIds] at h
theorem zmmZ (X : AH) : ∀ (asx : List AV),zdcZ asx=true→∃ n0,∀ n,n0≤n→mapO (frz X n) asx=some asx
 | [],_ => ⟨0,λ_ _=>rfl⟩
 | a :: asx,h => by
  simp only [zdcZ,Bool.and_eq_true] at h;obtain ⟨n0,h0⟩:=frz_noIds X a h.1;obtain ⟨n1,h1⟩:=zmmZ X asx h.2;exact ⟨n0 + n1,λn hn=>by simp only [mapO,h0 n (by omega),h1 n (by omega)]⟩
end
theorem frz_slice {X : AH} {sz : Nat} {r : AV} {cs : List AV} {m : Nat} (h : zaZ X sz r=some (cs,m)) (hc : zdcZ cs=true) : ∃ R n0,noIds R=true∧(∀ H,zaZ H sz R=some (cs,m))∧∀ n,n0≤n→frz X n r=some R:=by
 have hcl:=zcvZ h;unfold zaZ at h;split at h
 ·rename_i c len esz
  split at h
  ·rename_i hb
   injection h with h; injection h with h1 h2;subst h1; subst h2;obtain ⟨n0,h0⟩:=frz_noIds X (.imm c len esz) (by simpa only [noIds] using hc);exact ⟨_,n0,by simpa only [noIds] using hc,λH=>by simp [zaZ,hb.1,hb.2],h0⟩
  ·cases h
 ·rename_i o off len esz cap
  split at h
  ·rename_i c hoc
   split at h
   ·rename_i hb
    injection h with h; injection h with h1 h2;obtain ⟨n0,h0⟩:=zmmZ X cs hc;refine ⟨.imm cs len esz,n0 + 1,by simpa only [noIds] using hc,λH=>?_,λn hn=>?_⟩
    ·rw [← h2] at hcl ⊢
     simp [zaZ,hb.1,hcl]
    ·cases n with
     | zero => omega
     | succ n =>
      obtain ⟨rfl,-⟩:=hb;simp only [frz,hoc,h1,h0 n (by omega)];rfl
   ·cases h
  ·cases h
 ·injection h with h; injection h with h1 h2
  subst h1; subst h2
  exact ⟨_,1,rfl,λH=>rfl,λn hn=>by cases n with
   | zero => omega
   | succ n => rfl⟩
 ·injection h with h; injection h with h1 h2
  subst h1; subst h2
  exact ⟨_,1,rfl,λH=>rfl,λn hn=>by cases n with
   | zero => omega
   | succ n => rfl⟩
 ·cases h
section
variable {P : Program} {f : FuncId} {args : List AV}
theorem BPure.fz {Q : AV→Prop} (hb : zdcZ args=true) (h : ∃ r X,(∃ n R,frz X n r=some R∧Q R)∧BCall P f args [] r X) : ∃ R,Q R∧BPure P f args R:=by
 obtain ⟨r,X,⟨n,R,hf,hq⟩,h⟩:=h;exact ⟨R,hq,BPure.of h hb hf⟩
theorem BPure.val {R : AV} (hb : zdcZ args=true) (hR : noIds R=true) (h : ∃ r X,r=R∧BCall P f args [] r X) : BPure P f args R:=by
 obtain ⟨r,X,rfl,h⟩:=h;obtain ⟨n0,h0⟩:=frz_noIds X r hR;exact BPure.of h hb (h0 n0 (Nat.le_refl _))
theorem BPure.sl {sz : Nat} {cs : List AV} {m : Nat} (hb : zdcZ args=true) (hc : zdcZ cs=true) (h : ∃ r X,zaZ X sz r=some (cs,m)∧BCall P f args [] r X) : ∃ R,(noIds R=true∧∀ H,zaZ H sz R=some (cs,m))∧BPure P f args R:=by
 obtain ⟨r,X,h1,h⟩:=h;obtain ⟨R,n0,h2,h3,h4⟩:=frz_slice h1 hc;exact ⟨R,⟨h2,h3⟩,BPure.of h hb (h4 n0 (Nat.le_refl _))⟩
end
end Go.Proofs.YtlhiaihmkjlaaaaGreat.Av
end
section
namespace Go.Proofs.YtlhiaihmkjlaaaaGreat.Av
open Go Go.RowKit
section
variable {P : Program} {ql al : FuncId→Bool} {dr w : Bool} {ρ : Operand→AV} {H : AH}
end
end Go.Proofs.YtlhiaihmkjlaaaaGreat.Av
end
section
namespace Go.Proofs.YtlhiaihmkjlaaaaGreat.Av
open Go Go.RowKit
section
variable {P : Program}
def runOps (P : Program) (call : zbgmZ) (ops : Array Oper) : List Oper→List AV→AH→Option (List AV × AH)
 | [],T,H => some (T,H)
 | o :: l,T,H => match zmbZ ops T o with
  | none => none
  | some false => runOps P call ops l (aput T o.dst zgmZ) H
  | some true => match aop P (aeval T) H o with
   | some (r,H') => runOps P call ops l (aput T o.dst r) H'
   | none => match acall (aeval T) o with
    | some (f,args) => if zbchZ P f then match call f args H with
      | some (r,H') => runOps P call ops l (aput T o.dst r) H'
      | none => none
     else none
    | none => none
theorem runOps_ok {call : zbgmZ} (hc : zbgsZ P call) {ops : Array Oper} : ∀ (l : List Oper) (T T' : List AV) (H H' : AH),runOps P call ops l T H=some (T',H')→∀ {Q : AQ},Q .normal T' H'→AOps P ops Q l T H
 | [],T,T',H,H',h,Q,hq => by
  simp only [runOps] at h;injection h with h;injection h with h1 h2;subst h1; subst h2;exact AOps.nil hq
 | o :: l,T,T',H,H',h,Q,hq => by
  unfold runOps at h;split at h
  ·cases h
  ·rename_i hw
   exact AOps.unwanted hw (runOps_ok hc l _ _ _ _ h hq)
  ·rename_i hw
   split at h
   ·rename_i r H1 hop
    exact AOps.op hw hop (runOps_ok hc l _ _ _ _ h hq)
   ·split at h
    ·rename_i f args hcall
     split at h
     ·rename_i hgo
      split at h
      ·rename_i r H1 hcf
       refine AOps.call hw hcall hgo ((hc f args H r H1 hcf).mono ?_);rintro r' H'' ⟨rfl,rfl⟩;exact runOps_ok hc l _ _ _ _ h hq
      ·cases h
     ·cases h
    ·cases h
def exec (P : Program) (pl : FuncId→Bool) (pure : PureFn) (call : zbgmZ) : Nat→Code→List AV→AH→Option (Exit × List AV × AH)
 | 0,_,_,_ => none
 | n + 1,c,T,H => match c with
  | .skip => some (.normal,T,H)
  | .label _ => some (.normal,T,H)
  | .ret => some (.ret,T,H)
  | .exit id => some (.exit id,T,H)
  | .region _ ops false => (runOps P call ops ops.toList T H).map λp=>(.normal,p.1,p.2)
  | .region _ ops true => (runDraw P pl pure call ops.toList T H).map λp=>(.normal,p.1,p.2)
  | .seq a b => match exec P pl pure call n a T H with
   | some (.normal,T',H') => exec P pl pure call n b T' H'
   | r => r
  | .cond x a b => match aeval T x with
   | .lit (.bool t) => exec P pl pure call n (if t then a else b) T H
   | _ => none
  | .block id b => match exec P pl pure call n b T H with
   | some (.exit id',T',H') => if id'=id then some (.normal,T',H') else some (.exit id',T',H')
   | r => r
  | .loop b => match exec P pl pure call n b T H with
   | some (.normal,T',H') => exec P pl pure call n (.loop b) T' H'
   | r => r
  | _ => none
theorem exec_ok {pl : FuncId→Bool} {pure : PureFn} (hp : PureOk P pure) {call : zbgmZ} (hc : zbgsZ P call) : ∀ (n : Nat) (c : Code) (T : List AV) (H : AH) (r : Exit × List AV × AH),exec P pl pure call n c T H=some r→ACode P c (AQ.is r) T H:=by
 intro n
 induction n using Nat.strongRecOn with
 | _ n ih =>
 intro c T H r h;cases n with
 | zero => simp [exec] at h
 | succ n =>
 unfold exec at h;split at h
 ·injection h with h; exact ACode.skip (by rw [← h]; rfl)
 ·injection h with h; exact ACode.label (by rw [← h]; rfl)
 ·injection h with h; exact ACode.ret (by rw [← h]; rfl)
 ·injection h with h; exact ACode.exit (by rw [← h]; rfl)
 ·obtain ⟨⟨T',H'⟩,h1,rfl⟩:=Option.map_eq_some_iff.1 h
  exact ACode.region (runOps_ok hc _ _ _ _ _ h1 rfl)
 ·obtain ⟨⟨T',H'⟩,h1,rfl⟩:=Option.map_eq_some_iff.1 h
  rename_i ops
  have:=runDraw_ok hp hc (id:=0) h1 (Q:=AQ.is (.normal,T',H')) rfl
  have:=runDraw_ok hp hc (id:=by assumption) h1 (Q:=AQ.is (.normal,T',H')) rfl
  simpa using this
 ·rename_i a b
  refine ACode.seq ?_;split at h
  ·rename_i T' H' h1
   refine (ih n (by omega) a T H _ h1).mono ?_;rintro e T1 H1 he;simp only [AQ.is,Prod.mk.injEq] at he;obtain ⟨rfl,rfl,rfl⟩:=he;exact ih n (by omega) b _ _ r h
  ·rename_i hne
   refine (ih n (by omega) a T H r h).mono ?_;rintro e T1 H1 he;cases e with
   | normal =>
    simp only [AQ.is] at he;subst he;exact absurd h (hne T1 H1)
   | _ => exact he
 ·rename_i x a b
  split at h
  ·rename_i t ht
   exact ACode.cond ht (ih n (by omega) _ _ _ _ h)
  ·cases h
 ·rename_i id b
  refine ACode.block ?_;split at h
  ·rename_i id' T' H' h1
   refine (ih n (by omega) b T H _ h1).mono ?_;rintro e T1 H1 he;simp only [AQ.is,Prod.mk.injEq] at he;obtain ⟨rfl,rfl,rfl⟩:=he;simp only [AQ.inBlock];split at h <;> (injection h with h; rename_i hid)
   ·rw [if_pos hid]; exact h
   ·rw [if_neg hid]; exact h
  ·rename_i hne
   refine (ih n (by omega) b T H r h).mono ?_;rintro e T1 H1 he;cases e with
   | exit id' =>
    simp only [AQ.is] at he;subst he;exact absurd h (hne id' T1 H1)
   | _ => exact he
 ·rename_i b
  refine ACode.loop (λm T1 H1=>m≤n + 1∧exec P pl pure call m (.loop b) T1 H1=some r) (n + 1) ⟨Nat.le_refl _, ?_⟩ ?_
  ·unfold exec; exact h
  ·rintro m T1 H1 ⟨hm,h1⟩
   cases m with
   | zero => simp [exec] at h1
   | succ m =>
    unfold exec at h1;simp only at h1;split at h1
    ·rename_i T2 H2 h2
     refine (ih m (by omega) b T1 H1 _ h2).mono ?_;rintro e T3 H3 he;simp only [AQ.is,Prod.mk.injEq] at he;obtain ⟨rfl,rfl,rfl⟩:=he;exact ⟨m,by omega,by omega,h1⟩
    ·rename_i hne
     refine (ih m (by omega) b T1 H1 r h1).mono ?_;rintro e T3 H3 he;cases e with
     | normal =>
      simp only [AQ.is] at he;subst he;exact absurd h1 (hne T3 H3)
     | _ => exact he
 ·cases h
def pureOf (P : Program) (pl : FuncId→Bool) (call : zbgmZ) : PureFn:=λf args=>
 if pl f && zbchZ P f && zdcZ args then match call f args [] with
  | some (r,X) => frz X 64 r
  | none => none
 else none
theorem pureOf_ok {pl : FuncId→Bool} {call : zbgmZ} (hc : zbgsZ P call) : PureOk P (pureOf P pl call):=by
 intro f args r h;unfold pureOf at h;split at h
 ·rename_i hb
  simp only [Bool.and_eq_true] at hb;split at h
  ·rename_i r0 X hr
   refine ⟨hb.1.2,λH=>?_⟩;exact ACalls.pure (R':=λr'=>r'=r) (hc f args [] r0 X hr) (zmoZ hb.2) (λr1 X1 h1=>⟨64,r,by rw [h1.1,h1.2]; exact h,rfl⟩) H
  ·cases h
 ·cases h
def runBody (P : Program) (pl : FuncId→Bool) (call : zbgmZ) (fuel : Nat) (f : FuncId) (args : List AV) (H : AH) : Option (AV × AH) :=
 match P.funcs[f]? with
 | some fn => match fn.body with
  | some c => match exec P pl (pureOf P pl call) call fuel c (args ++ List.replicate (fn.ntmps - args.length) zgmZ) H with
   | some (e,T,H') => if isOut e then (ares P H' T fn.results.toList).map λxs=>(mkres xs,H') else none
   | none => none
  | none => none
 | none => none
theorem runBody_ok {pl : FuncId→Bool} {call : zbgmZ} (hc : zbgsZ P call) {fuel : Nat} : zbgsZ P (runBody P pl call fuel):=by
 intro f args H r H' h;unfold runBody at h;split at h
 ·rename_i fn hf
  split at h
  ·rename_i c hb
   split at h
   ·rename_i e T H1 he
    split at h
    ·rename_i ho
     obtain ⟨xs,hxs,heq⟩:=Option.map_eq_some_iff.1 h;injection heq with h1 h2;subst h1; subst h2;refine ACalls.of_body hf hb ((exec_ok (pureOf_ok hc) hc fuel c _ H _ he).mono ?_);rintro e' T' H' hq;simp only [AQ.is,Prod.mk.injEq] at hq;obtain ⟨rfl,rfl,rfl⟩:=hq;refine ⟨?_,xs,hxs,rfl,rfl⟩
     revert ho
     cases e' <;> simp [isOut]
    ·cases h
   ·cases h
  ·cases h
 ·cases h
def run (P : Program) (ext : zbgmZ) (pl ql : FuncId→Bool) (fuel : Nat) : Nat→zbgmZ
 | 0 => λ_ _ _=>none
 | n + 1 => λf args H=>match ext f args H with
  | some r => some r
  | none => if pl f && zdcZ args then match runBody P ql (run P ext pl ql fuel n) fuel f args [] with
    | some (r,X) => (frz X 64 r).map (·,H)
    | none => none
   else runBody P ql (run P ext pl ql fuel n) fuel f args H
theorem run_ok {ext : zbgmZ} (hx : zbgsZ P ext) {fuel : Nat} {pl ql : FuncId→Bool} : ∀ n,zbgsZ P (run P ext pl ql fuel n)
 | 0 => λf args H r H' h=>by cases h
 | n + 1 => λf args H r H' h=>by
  unfold run at h;split at h
  ·rename_i q hq
   injection h with h;subst h;exact hx f args H r H' hq
  ·split at h
   ·rename_i hb
    simp only [Bool.and_eq_true] at hb;split at h
    ·rename_i r0 X hr
     obtain ⟨r1,h1,h2⟩:=Option.map_eq_some_iff.1 h;injection h2 with h2 h3;subst h2; subst h3;exact ACalls.pure (R':=λr'=>r'=r1) (runBody_ok (run_ok hx n) f args [] r0 X hr) (zmoZ hb.2) (λr2 X2 h2=>⟨64,r1,by rw [h2.1,h2.2]; exact h1,rfl⟩) H
    ·cases h
   ·exact runBody_ok (run_ok hx n) f args H r H' h
def Cfg.start (W : World) : Cfg:={ w:=W,n:=0,μ:=λ_=>(0,0,0),L:=λ_=>False,K:=λ_=>False }
theorem HR.start (W : World) : HR (Cfg.start W) []:=⟨rfl,λo x h=>by simp at h,λo o' x x' h=>by simp at h,λo x h=>by simp at h,λb h=>h.elim (λh=>h.elim) (λh=>h.elim),λb h=>h.elim⟩
theorem Evo.below {G' : Cfg} {W : World} (h : Evo (Cfg.start W) G') : Below W.heap.size W G'.w:=⟨h.os,h.tape,h.output,h.size,λk hk=>(h.keep k hk (λh=>h)).1⟩
theorem law_calls {f : FuncId} {args : List AV} (h : ACalls P f args [] λr _=>r = .lit (.bool true)) (W : World) {vs : List Value} (hv : VRs (Cfg.start W) args vs) :
  Calls P f vs.toArray W λe W'=>e = .returned (.bool true)∧Below W.heap.size W W' :=
 (h (Cfg.start W) vs (HR.start W) hv).mono fun e w' ⟨r,H',G',v,he,hw,hE,hx,_,hr⟩ => by
  subst hr;simp only [VR] at hx;subst hx;rw [← hw];exact ⟨he,hE.below⟩
end
end Go.Proofs.YtlhiaihmkjlaaaaGreat.Av
end
section
namespace Go.Proofs.YtlhiaihmkjlaaaaGreat.Av
open Go
theorem own : ownKnob Tryz.prog.godebug=none:=by kernel_rfl
theorem laidOut : laidOutB Tryz.prog=true:=by kernel_rfl
def isTrue : Option (AV × AH)→Bool
 | some (.lit (.bool b),_) => b
 | _ => false
theorem run_true {P : Program} {ext : zbgmZ} (hx : zbgsZ P ext) {pl ql : FuncId→Bool} {fuel n : Nat} {f : FuncId} {args : List AV} (h : isTrue (run P ext pl ql fuel n f args [])=true) : ACalls P f args [] λr _=>r = .lit (.bool true):=by
 cases hr : run P ext pl ql fuel n f args [] with
 | none => rw [hr] at h; cases h
 | some q =>
  obtain ⟨r,H⟩:=q;rw [hr] at h;refine (run_ok hx n f args [] r H hr).mono ?_;rintro r' H' ⟨rfl,rfl⟩;unfold isTrue at h;split at h
  ·rename_i he
   injection he with he;injection he with h1 h2;rw [h1,h]
  ·cases h
abbrev tT:=true
abbrev fF:=false
abbrev KT:=AV→AH→Prop
abbrev RT:=List AV→AH→Prop
def nofl : zbcqZ:=flOf []
def nokp : Nat→Option (List Bool):=kpOf []
abbrev OKP (f : FuncId) (args : List AV) (H : AH) (K : KT) : Prop:=∃ r H',K r H'∧BCall Tryz.prog f args H r H'
def RL2 (b : RT→AV→AV→AH→Prop) (L : AV→AV→AH→Prop) : Prop:=∀ (I : Nat→AV→AV→AH→Prop) (round : ∀ (n : Nat) (x0 x1 : AV) (H : AH) (R : RT),(∀ (m : Nat) (y0 y1 : AV) (H' : AH),m < n→I m y0 y1 H'→R [y0,y1] H')→I n x0 x1 H→b R x0 x1 H) (n : Nat) {x0 x1 : AV} {H : AH} (h : I n x0 x1 H),L x0 x1 H
theorem lpr2 {keep : List Bool} {body : List AV→AH→Kf→Prop} {K0 : Kf} {b : RT→AV→AV→AH→Prop} (hb : One body) (he : ∀ (R : RT) (x0 x1 : AV) (H : AH),body (zzyZ keep [x0,x1]) H (kLp keep R K0)=b R x0 x1 H) : RL2 b (λx0 x1 H=>lp keep body [x0,x1] H K0):=by
 intro I round n x0 x1 H h;refine lp_upto hb (LI2 I) ?_ n h;intro n X H h;obtain ⟨x0,x1,rfl,h⟩:=h.elim;exact Eq.mpr (he _ x0 x1 H) (round n x0 x1 H (λX H'=>∃ m,m < n∧LI2 I m X H') (λm y0 y1 H' hm hi=>⟨m,hm,hi⟩) h)
def RL3 (b : RT→AV→AV→AV→AH→Prop) (L : AV→AV→AV→AH→Prop) : Prop:=∀ (I : Nat→AV→AV→AV→AH→Prop) (round : ∀ (n : Nat) (x0 x1 x2 : AV) (H : AH) (R : RT),(∀ (m : Nat) (y0 y1 y2 : AV) (H' : AH),m < n→I m y0 y1 y2 H'→R [y0,y1,y2] H')→I n x0 x1 x2 H→b R x0 x1 x2 H) (n : Nat) {x0 x1 x2 : AV} {H : AH} (h : I n x0 x1 x2 H),L x0 x1 x2 H
theorem lpr3 {keep : List Bool} {body : List AV→AH→Kf→Prop} {K0 : Kf} {b : RT→AV→AV→AV→AH→Prop} (hb : One body) (he : ∀ (R : RT) (x0 x1 x2 : AV) (H : AH),body (zzyZ keep [x0,x1,x2]) H (kLp keep R K0)=b R x0 x1 x2 H) : RL3 b (λx0 x1 x2 H=>lp keep body [x0,x1,x2] H K0):=by
 intro I round n x0 x1 x2 H h;refine lp_upto hb (LI3 I) ?_ n h;intro n X H h;obtain ⟨x0,x1,x2,rfl,h⟩:=h.elim;exact Eq.mpr (he _ x0 x1 x2 H) (round n x0 x1 x2 H (λX H'=>∃ m,m < n∧LI3 I m X H') (λm y0 y1 y2 H' hm hi=>⟨m,hm,hi⟩) h)
def RL4 (b : RT→AV→AV→AV→AV→AH→Prop) (L : AV→AV→AV→AV→AH→Prop) : Prop:=∀ (I : Nat→AV→AV→AV→AV→AH→Prop) (round : ∀ (n : Nat) (x0 x1 x2 x3 : AV) (H : AH) (R : RT),(∀ (m : Nat) (y0 y1 y2 y3 : AV) (H' : AH),m < n→I m y0 y1 y2 y3 H'→R [y0,y1,y2,y3] H')→I n x0 x1 x2 x3 H→b R x0 x1 x2 x3 H) (n : Nat) {x0 x1 x2 x3 : AV} {H : AH} (h : I n x0 x1 x2 x3 H),L x0 x1 x2 x3 H
theorem lpr4 {keep : List Bool} {body : List AV→AH→Kf→Prop} {K0 : Kf} {b : RT→AV→AV→AV→AV→AH→Prop} (hb : One body) (he : ∀ (R : RT) (x0 x1 x2 x3 : AV) (H : AH),body (zzyZ keep [x0,x1,x2,x3]) H (kLp keep R K0)=b R x0 x1 x2 x3 H) : RL4 b (λx0 x1 x2 x3 H=>lp keep body [x0,x1,x2,x3] H K0):=by
 intro I round n x0 x1 x2 x3 H h;refine lp_upto hb (LI4 I) ?_ n h;intro n X H h;obtain ⟨x0,x1,x2,x3,rfl,h⟩:=h.elim;exact Eq.mpr (he _ x0 x1 x2 x3 H) (round n x0 x1 x2 x3 H (λX H'=>∃ m,m < n∧LI4 I m X H') (λm y0 y1 y2 y3 H' hm hi=>⟨m,hm,hi⟩) h)
def RL5 (b : RT→AV→AV→AV→AV→AV→AH→Prop) (L : AV→AV→AV→AV→AV→AH→Prop) : Prop:=∀ (I : Nat→AV→AV→AV→AV→AV→AH→Prop) (round : ∀ (n : Nat) (x0 x1 x2 x3 x4 : AV) (H : AH) (R : RT),(∀ (m : Nat) (y0 y1 y2 y3 y4 : AV) (H' : AH),m < n→I m y0 y1 y2 y3 y4 H'→R [y0,y1,y2,y3,y4] H')→I n x0 x1 x2 x3 x4 H→b R x0 x1 x2 x3 x4 H) (n : Nat) {x0 x1 x2 x3 x4 : AV} {H : AH} (h : I n x0 x1 x2 x3 x4 H),L x0 x1 x2 x3 x4 H
theorem lpr5 {keep : List Bool} {body : List AV→AH→Kf→Prop} {K0 : Kf} {b : RT→AV→AV→AV→AV→AV→AH→Prop} (hb : One body) (he : ∀ (R : RT) (x0 x1 x2 x3 x4 : AV) (H : AH),body (zzyZ keep [x0,x1,x2,x3,x4]) H (kLp keep R K0)=b R x0 x1 x2 x3 x4 H) : RL5 b (λx0 x1 x2 x3 x4 H=>lp keep body [x0,x1,x2,x3,x4] H K0):=by
 intro I round n x0 x1 x2 x3 x4 H h;refine lp_upto hb (LI5 I) ?_ n h;intro n X H h;obtain ⟨x0,x1,x2,x3,x4,rfl,h⟩:=h.elim;exact Eq.mpr (he _ x0 x1 x2 x3 x4 H) (round n x0 x1 x2 x3 x4 H (λX H'=>∃ m,m < n∧LI5 I m X H') (λm y0 y1 y2 y3 y4 H' hm hi=>⟨m,hm,hi⟩) h)
def RL6 (b : RT→AV→AV→AV→AV→AV→AV→AH→Prop) (L : AV→AV→AV→AV→AV→AV→AH→Prop) : Prop:=∀ (I : Nat→AV→AV→AV→AV→AV→AV→AH→Prop) (round : ∀ (n : Nat) (x0 x1 x2 x3 x4 x5 : AV) (H : AH) (R : RT),(∀ (m : Nat) (y0 y1 y2 y3 y4 y5 : AV) (H' : AH),m < n→I m y0 y1 y2 y3 y4 y5 H'→R [y0,y1,y2,y3,y4,y5] H')→I n x0 x1 x2 x3 x4 x5 H→b R x0 x1 x2 x3 x4 x5 H) (n : Nat) {x0 x1 x2 x3 x4 x5 : AV} {H : AH} (h : I n x0 x1 x2 x3 x4 x5 H),L x0 x1 x2 x3 x4 x5 H
theorem lpr6 {keep : List Bool} {body : List AV→AH→Kf→Prop} {K0 : Kf} {b : RT→AV→AV→AV→AV→AV→AV→AH→Prop} (hb : One body) (he : ∀ (R : RT) (x0 x1 x2 x3 x4 x5 : AV) (H : AH),body (zzyZ keep [x0,x1,x2,x3,x4,x5]) H (kLp keep R K0)=b R x0 x1 x2 x3 x4 x5 H) : RL6 b (λx0 x1 x2 x3 x4 x5 H=>lp keep body [x0,x1,x2,x3,x4,x5] H K0):=by
 intro I round n x0 x1 x2 x3 x4 x5 H h;refine lp_upto hb (LI6 I) ?_ n h;intro n X H h;obtain ⟨x0,x1,x2,x3,x4,x5,rfl,h⟩:=h.elim;exact Eq.mpr (he _ x0 x1 x2 x3 x4 x5 H) (round n x0 x1 x2 x3 x4 x5 H (λX H'=>∃ m,m < n∧LI6 I m X H') (λm y0 y1 y2 y3 y4 y5 H' hm hi=>⟨m,hm,hi⟩) h)
def RL7 (b : RT→AV→AV→AV→AV→AV→AV→AV→AH→Prop) (L : AV→AV→AV→AV→AV→AV→AV→AH→Prop) : Prop:=∀ (I : Nat→AV→AV→AV→AV→AV→AV→AV→AH→Prop) (round : ∀ (n : Nat) (x0 x1 x2 x3 x4 x5 x6 : AV) (H : AH) (R : RT),(∀ (m : Nat) (y0 y1 y2 y3 y4 y5 y6 : AV) (H' : AH),m < n→I m y0 y1 y2 y3 y4 y5 y6 H'→R [y0,y1,y2,y3,y4,y5,y6] H')→I n x0 x1 x2 x3 x4 x5 x6 H→b R x0 x1 x2 x3 x4 x5 x6 H) (n : Nat) {x0 x1 x2 x3 x4 x5 x6 : AV} {H : AH} (h : I n x0 x1 x2 x3 x4 x5 x6 H),L x0 x1 x2 x3 x4 x5 x6 H
theorem lpr7 {keep : List Bool} {body : List AV→AH→Kf→Prop} {K0 : Kf} {b : RT→AV→AV→AV→AV→AV→AV→AV→AH→Prop} (hb : One body) (he : ∀ (R : RT) (x0 x1 x2 x3 x4 x5 x6 : AV) (H : AH),body (zzyZ keep [x0,x1,x2,x3,x4,x5,x6]) H (kLp keep R K0)=b R x0 x1 x2 x3 x4 x5 x6 H) : RL7 b (λx0 x1 x2 x3 x4 x5 x6 H=>lp keep body [x0,x1,x2,x3,x4,x5,x6] H K0):=by
 intro I round n x0 x1 x2 x3 x4 x5 x6 H h;refine lp_upto hb (LI7 I) ?_ n h;intro n X H h;obtain ⟨x0,x1,x2,x3,x4,x5,x6,rfl,h⟩:=h.elim;exact Eq.mpr (he _ x0 x1 x2 x3 x4 x5 x6 H) (round n x0 x1 x2 x3 x4 x5 x6 H (λX H'=>∃ m,m < n∧LI7 I m X H') (λm y0 y1 y2 y3 y4 y5 y6 H' hm hi=>⟨m,hm,hi⟩) h)
def RL8 (b : RT→AV→AV→AV→AV→AV→AV→AV→AV→AH→Prop) (L : AV→AV→AV→AV→AV→AV→AV→AV→AH→Prop) : Prop:=∀ (I : Nat→AV→AV→AV→AV→AV→AV→AV→AV→AH→Prop) (round : ∀ (n : Nat) (x0 x1 x2 x3 x4 x5 x6 x7 : AV) (H : AH) (R : RT),(∀ (m : Nat) (y0 y1 y2 y3 y4 y5 y6 y7 : AV) (H' : AH),m < n→I m y0 y1 y2 y3 y4 y5 y6 y7 H'→R [y0,y1,y2,y3,y4,y5,y6,y7] H')→I n x0 x1 x2 x3 x4 x5 x6 x7 H→b R x0 x1 x2 x3 x4 x5 x6 x7 H) (n : Nat) {x0 x1 x2 x3 x4 x5 x6 x7 : AV} {H : AH} (h : I n x0 x1 x2 x3 x4 x5 x6 x7 H),L x0 x1 x2 x3 x4 x5 x6 x7 H
theorem lpr8 {keep : List Bool} {body : List AV→AH→Kf→Prop} {K0 : Kf} {b : RT→AV→AV→AV→AV→AV→AV→AV→AV→AH→Prop} (hb : One body) (he : ∀ (R : RT) (x0 x1 x2 x3 x4 x5 x6 x7 : AV) (H : AH),body (zzyZ keep [x0,x1,x2,x3,x4,x5,x6,x7]) H (kLp keep R K0)=b R x0 x1 x2 x3 x4 x5 x6 x7 H) : RL8 b (λx0 x1 x2 x3 x4 x5 x6 x7 H=>lp keep body [x0,x1,x2,x3,x4,x5,x6,x7] H K0):=by
 intro I round n x0 x1 x2 x3 x4 x5 x6 x7 H h;refine lp_upto hb (LI8 I) ?_ n h;intro n X H h;obtain ⟨x0,x1,x2,x3,x4,x5,x6,x7,rfl,h⟩:=h.elim;exact Eq.mpr (he _ x0 x1 x2 x3 x4 x5 x6 x7 H) (round n x0 x1 x2 x3 x4 x5 x6 x7 H (λX H'=>∃ m,m < n∧LI8 I m X H') (λm y0 y1 y2 y3 y4 y5 y6 y7 H' hm hi=>⟨m,hm,hi⟩) h)
def RL9 (b : RT→AV→AV→AV→AV→AV→AV→AV→AV→AV→AH→Prop) (L : AV→AV→AV→AV→AV→AV→AV→AV→AV→AH→Prop) : Prop:=∀ (I : Nat→AV→AV→AV→AV→AV→AV→AV→AV→AV→AH→Prop) (round : ∀ (n : Nat) (x0 x1 x2 x3 x4 x5 x6 x7 x8 : AV) (H : AH) (R : RT),(∀ (m : Nat) (y0 y1 y2 y3 y4 y5 y6 y7 y8 : AV) (H' : AH),m < n→I m y0 y1 y2 y3 y4 y5 y6 y7 y8 H'→R [y0,y1,y2,y3,y4,y5,y6,y7,y8] H')→I n x0 x1 x2 x3 x4 x5 x6 x7 x8 H→b R x0 x1 x2 x3 x4 x5 x6 x7 x8 H) (n : Nat) {x0 x1 x2 x3 x4 x5 x6 x7 x8 : AV} {H : AH} (h : I n x0 x1 x2 x3 x4 x5 x6 x7 x8 H),L x0 x1 x2 x3 x4 x5 x6 x7 x8 H
theorem lpr9 {keep : List Bool} {body : List AV→AH→Kf→Prop} {K0 : Kf} {b : RT→AV→AV→AV→AV→AV→AV→AV→AV→AV→AH→Prop} (hb : One body) (he : ∀ (R : RT) (x0 x1 x2 x3 x4 x5 x6 x7 x8 : AV) (H : AH),body (zzyZ keep [x0,x1,x2,x3,x4,x5,x6,x7,x8]) H (kLp keep R K0)=b R x0 x1 x2 x3 x4 x5 x6 x7 x8 H) : RL9 b (λx0 x1 x2 x3 x4 x5 x6 x7 x8 H=>lp keep body [x0,x1,x2,x3,x4,x5,x6,x7,x8] H K0):=by
 intro I round n x0 x1 x2 x3 x4 x5 x6 x7 x8 H h;refine lp_upto hb (LI9 I) ?_ n h;intro n X H h;obtain ⟨x0,x1,x2,x3,x4,x5,x6,x7,x8,rfl,h⟩:=h.elim;exact Eq.mpr (he _ x0 x1 x2 x3 x4 x5 x6 x7 x8 H) (round n x0 x1 x2 x3 x4 x5 x6 x7 x8 H (λX H'=>∃ m,m < n∧LI9 I m X H') (λm y0 y1 y2 y3 y4 y5 y6 y7 y8 H' hm hi=>⟨m,hm,hi⟩) h)
def pql : FuncId→Bool:=inL [36,142,144,69,93,130,101,143,145,159,37,104,72,71,73,134,135,136,65,66,152,121,122,151,133,96,160,127,129,118,179,149,170,105,178,131,173,194,201]
def pqla : FuncId→Bool:=inL [181]
theorem mixP : Tryz.prog.follows .mixedOrders=true:=by kernel_rfl
theorem fok (fl : zbcqZ) (ql : FuncId→Bool) (kp : Nat→Option (List Bool)) {f : FuncId} {fn : Func} {args : List AV} {H : AH} {K : KT} {X : Prop} (hf : Tryz.prog.funcs[f]? = some fn) (hc : bodyOk fl ql fn=true) (he : sFun Tryz.prog fl ql none0 none0 kp fn args H K=X) (h : X) : OKP f args H K:=sFun_ok mixP hf hc (Eq.mpr he h)
def zbblZ : Nat→Option (List Bool):=kpOf [(10,mk 75 0 [1,2,3,6,33,34,35])]
def zbehZ (p : List Bool) (n : Nat) : List AV→AH→Kf→Prop:=sCode Tryz.prog nofl pql none0 none0 zbblZ (sub p (zhyZ Tryz.f36)) n
def zzqZ (x1 x2 x3 x6 x33 x34 x35 : AV) (H : AH) (K : KT) : Prop:=lp (mk 75 0 [1,2,3,6,33,34,35]) (zbehZ [tT,tT,tT,tT,fF,tT,fF,fF] 11) [x1,x2,x3,x6,x33,x34,x35] H (kBlk 0 (kSeq (zbehZ [tT,tT,tT,tT,tT] 17) (kRet Tryz.prog Tryz.f36.results.toList K)))
def zwbZ (R10 : RT) (x1 x2 x3 x6 x33 x34 x35 : AV) (H : AH) (K : KT) : Prop :=
bO (abI .lss x35 x34) λv0=>
bB v0 λt1=>bI t1 (
bO (aixS 2 x33 x35) λv2=>
bO (ald true 2 H v2) λv3=>
bH (anew H (.agg [(I 0),(I 0)])) λv4 H5=>
bS (ast 2 H5 v4 v3) λH6=>
bO (zhZ 0 v4) λv7=>
bO (ald false 1 H6 v7) λv8=>
bO (abI .quo v8 (I 8)) λv9=>
bC (BCall Tryz.prog 95 [x3,v9] H6) λv10 H11=>
bO (zhZ 1 x3) λv12=>
bO (ald false 1 H11 v12) λv13=>
bO (aixS 9 v13 v10) λv14=>
bO (zhZ 1 v14) λv15=>
bO (zhZ 0 v4) λv16=>
bO (ald false 1 H11 v16) λv17=>
bO (abI .mul v9 (I 8)) λv18=>
bO (abI .sub v17 v18) λv19=>
bO (aslA 8 1 H11 v15 (some v19) none) λv20=>
bO (zhZ 0 v4) λv21=>
bO (ald false 1 H11 v21) λv22=>
bO (abI .sub v22 x1) λv23=>
bO (aslS 1 x2 (some v23) none none) λv24=>
bO (zhZ 1 v4) λv25=>
bO (ald false 1 H11 v25) λv26=>
bO (aslS 1 v24 none (some v26) none) λv27=>
bH (acp 1 H11 v20 v27) λv28 H29=>
bO (abI .add x35 (I 1)) λv30=>
R10 [x1,x2,x3,x6,x33,x34,v30] H29)
 (bO (zhZ 0 x3) λv31=>
bO (ald false 1 H v31) λv32=>
bO (alnS x2) λv33=>
bO (abI .add x1 v33) λv34=>
bO (amm imx [v32,v34]) λv35=>
bO (zhZ 0 x3) λv36=>
bS (ast 1 H v36 v35) λH37=>
bO (ald true 2 H37 x3) λv38=>
bS (ast 2 H37 x6 v38) λH39=>
bO (ald true 2 H39 x6) λv40=>
K (.tup [v40,(B true)]) H39)
theorem zbasZ {K : KT} : RL7 (λR x1 x2 x3 x6 x33 x34 x35 H=>zwbZ R x1 x2 x3 x6 x33 x34 x35 H K) (λx1 x2 x3 x6 x33 x34 x35 H=>zzqZ x1 x2 x3 x6 x33 x34 x35 H K):=lpr7 (zvZ _ _) (λ_ _ _ _ _ _ _ _ _=>by kernel_rfl)
def extent_Write (a0 a1 a2 : AV) (H : AH) (K : KT) : Prop :=
bH (anew H a0) λv0 H1=>
bH (anew H1 (.agg [(I 0),nilSl])) λv2 H3=>
bO (ald true 2 H3 v0) λv4=>
bP (PCall Tryz.prog 93 [v4] H3) λv5=>
bO (aun .not v5) λv6=>
bG v6 false λw7=>
gO w7 (some a1) λv8=>
bG v6 false λw9=>
gO w9 (some a2) λv10=>
bG v6 false λw11=>
gO w11 (alnS v10) λv12=>
bG v6 false λw13=>
gP w13 (PCall Tryz.prog 65 [v8,v12] H3) λv14=>
bG v6 false λw15=>
gO w15 (aun .not v14) λv16=>
bO (apick v6 (B true) v16) λv17=>
bB v17 λt18=>bI t18 (
bO (abl [(I 0),nilSl] []) λv19=>
bS (ast 2 H3 v2 v19) λH20=>
bO (ald true 2 H20 v2) λv21=>
K (.tup [v21,(B false)]) H20)
 (bO (ald true 2 H3 v0) λv22=>
bC (BCall Tryz.prog 94 [v22] H3) λv23 H24=>
bS (ast 2 H24 v0 v23) λH25=>
bO (alnS a2) λv26=>
bO (abI .eql v26 (I 0)) λv27=>
bB v27 λt28=>bI t28 (
bO (ald true 2 H25 v0) λv29=>
bS (ast 2 H25 v2 v29) λH30=>
bO (ald true 2 H30 v2) λv31=>
K (.tup [v31,(B true)]) H30)
 (bO (alnS a2) λv32=>
bO (abl [(I 0),(I 0)] [(0,1,a1),(1,1,v32)]) λv33=>
bP (PCall Tryz.prog 66 [v33,(I 8)] H25) λv34=>
bO (alnS v34) λv35=>
zzqZ a1 a2 v0 v2 v34 v35 (I 0) H25 K))
theorem extent_Write_ok {a0 a1 a2 : AV} {H : AH} {K : KT} (h : extent_Write a0 a1 a2 H K) : OKP 36 [a0,a1,a2] H K :=
 fok nofl pql zbblZ Tryz.func36 (by kernel_rfl) (by kernel_rfl) h
def zbeuZ : Nat→Option (List Bool):=kpOf [(6,mk 39 0 [1,2,17,18,19])]
def extent_Data_c (p : List Bool) (n : Nat) : List AV→AH→Kf→Prop:=sCode Tryz.prog nofl pql none0 none0 zbeuZ (sub p (zhyZ Tryz.f142)) n
def zbesZ (x1 x2 x17 x18 x19 : AV) (H : AH) (K : KT) : Prop:=lp (mk 39 0 [1,2,17,18,19]) (extent_Data_c [tT,tT,fF,tT,fF,fF] 7) [x1,x2,x17,x18,x19] H (kBlk 0 (kSeq (extent_Data_c [tT,tT,tT] 14) (kRet Tryz.prog Tryz.f142.results.toList K)))
def zzfZ (R6 : RT) (x1 x2 x17 x18 x19 : AV) (H : AH) (K : KT) : Prop :=
bO (abI .lss x19 x18) λv0=>
bB v0 λt1=>bI t1 (
bO (aixS 9 x17 x19) λv2=>
bO (ald true 9 H v2) λv3=>
bH (anew H (.agg [(I 0),(.lit (.int .u8 0)),(.lit (.int .u8 0)),(.lit (.int .u8 0)),(.lit (.int .u8 0)),(.lit (.int .u8 0)),(.lit (.int .u8 0)),(.lit (.int .u8 0)),(.lit (.int .u8 0))])) λv4 H5=>
bS (ast 9 H5 v4 v3) λH6=>
bO (zhZ 0 v4) λv7=>
bO (ald false 1 H6 v7) λv8=>
bO (abI .mul v8 (I 8)) λv9=>
bO (amm imx [x1,v9]) λv10=>
bO (zhZ 0 x2) λv11=>
bO (ald false 1 H6 v11) λv12=>
bO (zhZ 0 v4) λv13=>
bO (ald false 1 H6 v13) λv14=>
bO (abI .add v14 (I 1)) λv15=>
bO (abI .mul v15 (I 8)) λv16=>
bO (amm imn [v12,v16]) λv17=>
bO (abI .lss v10 v17) λv18=>
bB v18 λt19=>bI t19 (
K (.tup [v10,(B true)]) H6)
 (bO (abI .add x19 (I 1)) λv20=>
R6 [x1,x2,x17,x18,v20] H6))
 (K (.tup [(I 0),(B false)]) H)
theorem zbcxZ {K : KT} : RL5 (λR x1 x2 x17 x18 x19 H=>zzfZ R x1 x2 x17 x18 x19 H K) (λx1 x2 x17 x18 x19 H=>zbesZ x1 x2 x17 x18 x19 H K):=lpr5 (zvZ _ _) (λ_ _ _ _ _ _ _=>by kernel_rfl)
def extent_Data (a0 a1 : AV) (H : AH) (K : KT) : Prop :=
bH (anew H a0) λv0 H1=>
bO (ald true 2 H1 v0) λv2=>
bP (PCall Tryz.prog 93 [v2] H1) λv3=>
bO (aun .not v3) λv4=>
bG v4 false λw5=>
gO w5 (some a1) λv6=>
bG v4 false λw7=>
gO w7 (abI .lss v6 (I 0)) λv8=>
bO (apick v4 (B true) v8) λv9=>
bB v9 λt10=>bI t10 (
K (.tup [(I 0),(B false)]) H1)
 (bO (zhZ 1 v0) λv11=>
bO (ald false 1 H1 v11) λv12=>
bO (alnS v12) λv13=>
zbesZ a1 v0 v12 v13 (I 0) H1 K)
theorem extent_Data_ok {a0 a1 : AV} {H : AH} {K : KT} (h : extent_Data a0 a1 H K) : OKP 142 [a0,a1] H K :=
 fok nofl pql zbeuZ Tryz.func142 (by kernel_rfl) (by kernel_rfl) h
def zbezZ : Nat→Option (List Bool):=kpOf [(6,mk 44 0 [2,6])]
def extent_Hole_c (p : List Bool) (n : Nat) : List AV→AH→Kf→Prop:=sCode Tryz.prog nofl pql none0 none0 zbezZ (sub p (zhyZ Tryz.f144)) n
def zbetZ (x2 x6 : AV) (H : AH) (K : KT) : Prop:=lp (mk 44 0 [2,6]) (extent_Hole_c [tT,tT,fF,tT,fF,fF] 7) [x2,x6] H (kBlk 0 (kSeq (extent_Hole_c [tT,tT,tT] 13) (kRet Tryz.prog Tryz.f144.results.toList K)))
def zzoZ (R6 : RT) (x2 x6 : AV) (H : AH) (K : KT) : Prop :=
bO (zhZ 0 x2) λv0=>
bO (ald false 1 H v0) λv1=>
bO (abI .lss x6 v1) λv2=>
bB v2 λt3=>bI t3 (
bO (zhZ 1 x2) λv4=>
bO (ald false 1 H v4) λv5=>
bO (abI .quo x6 (I 8)) λv6=>
bP (PCall Tryz.prog 152 [v5,v6] H) λv7=>
bO (zjZ v7 0) λv8=>
bO (zjZ v7 1) λv9=>
bO (aun .not v9) λv10=>
bB v10 λt11=>bI t11 (
K (.tup [x6,(B true)]) H)
 (bO (abI .quo x6 (I 8)) λv12=>
bO (abI .add v12 (I 1)) λv13=>
bO (abI .mul v13 (I 8)) λv14=>
R6 [x2,v14] H))
 (bO (zhZ 0 x2) λv15=>
bO (ald false 1 H v15) λv16=>
K (.tup [v16,(B true)]) H)
theorem zbcsZ {K : KT} : RL2 (λR x2 x6 H=>zzoZ R x2 x6 H K) (λx2 x6 H=>zbetZ x2 x6 H K):=lpr2 (zvZ _ _) (λ_ _ _ _=>by kernel_rfl)
def extent_Hole (a0 a1 : AV) (H : AH) (K : KT) : Prop :=
bH (anew H a0) λv0 H1=>
bO (ald true 2 H1 v0) λv2=>
bP (PCall Tryz.prog 93 [v2] H1) λv3=>
bO (aun .not v3) λv4=>
bG v4 false λw5=>
gO w5 (some a1) λv6=>
bG v4 false λw7=>
gO w7 (abI .lss v6 (I 0)) λv8=>
bO (apick v4 (B true) v8) λv9=>
bG v9 false λw10=>
gO w10 (some a1) λv11=>
bG v9 false λw12=>
gO w12 (zhZ 0 v0) λv13=>
bG v9 false λw14=>
gO w14 (ald false 1 H1 v13) λv15=>
bG v9 false λw16=>
gO w16 (abI .geq v11 v15) λv17=>
bO (apick v9 (B true) v17) λv18=>
bB v18 λt19=>bI t19 (
K (.tup [(I 0),(B false)]) H1)
 (zbetZ v0 a1 H1 K)
theorem extent_Hole_ok {a0 a1 : AV} {H : AH} {K : KT} (h : extent_Hole a0 a1 H K) : OKP 144 [a0,a1] H K :=
 fok nofl pql zbezZ Tryz.func144 (by kernel_rfl) (by kernel_rfl) h
def zbegZ : Nat→Option (List Bool):=kpOf [(11,mk 77 0 [1,2,7,41,42,43]),(8,mk 77 0 [1,2,7,41,42,43])]
def zuhZ (p : List Bool) (n : Nat) : List AV→AH→Kf→Prop:=sCode Tryz.prog nofl pql none0 none0 zbegZ (sub p (zhyZ Tryz.f69)) n
def zouZ (R8 : RT) (x1 x2 x7 x41 x42 x43 : AV) (H : AH) (K : KT) : Prop:=jn (mk 77 0 [1,2,7,41,42,43]) (zuhZ [tT,tT,tT,tT,fF,tT,fF,fF,tT,tT,tT] 15) [x1,x2,x7,x41,x42,x43] H (kLp (mk 77 0 [1,2,7,41,42,43]) R8 (kBlk 0 (kSeq (zuhZ [tT,tT,tT,tT,tT] 15) (kRet Tryz.prog Tryz.f69.results.toList K))))
def zbdyZ (x1 x2 x7 x41 x42 x43 : AV) (H : AH) (K : KT) : Prop:=lp (mk 77 0 [1,2,7,41,42,43]) (zuhZ [tT,tT,tT,tT,fF,tT,fF,fF] 9) [x1,x2,x7,x41,x42,x43] H (kBlk 0 (kSeq (zuhZ [tT,tT,tT,tT,tT] 15) (kRet Tryz.prog Tryz.f69.results.toList K)))
def zyoZ (R8 : RT) (x1 x2 x7 x41 x42 x43 : AV) (H : AH) (K : KT) : Prop :=
bO (abI .add x43 (I 1)) λv0=>
R8 [x1,x2,x7,x41,x42,v0] H
theorem extent_Read_J11_eq (R8 : RT) (x1 x2 x7 x41 x42 x43 : AV) (H : AH) (K : KT) : zouZ R8 x1 x2 x7 x41 x42 x43 H K=zyoZ R8 x1 x2 x7 x41 x42 x43 H K:=(jn_eq _ _ _ _ _).trans (by kernel_rfl)
def zziZ (R8 : RT) (x1 x2 x7 x41 x42 x43 : AV) (H : AH) (K : KT) : Prop :=
bO (abI .lss x43 x42) λv0=>
bB v0 λt1=>bI t1 (
bO (aixS 9 x41 x43) λv2=>
bO (ald true 9 H v2) λv3=>
bH (anew H (.agg [(I 0),(.lit (.int .u8 0)),(.lit (.int .u8 0)),(.lit (.int .u8 0)),(.lit (.int .u8 0)),(.lit (.int .u8 0)),(.lit (.int .u8 0)),(.lit (.int .u8 0)),(.lit (.int .u8 0))])) λv4 H5=>
bS (ast 9 H5 v4 v3) λH6=>
bO (zhZ 0 v4) λv7=>
bO (ald false 1 H6 v7) λv8=>
bP (PCall Tryz.prog 122 [v8] H6) λv9=>
bO (abl [(I 0),(I 0)] [(0,1,x1),(1,1,x2)]) λv10=>
bP (PCall Tryz.prog 121 [v9,v10] H6) λv11=>
bH (anew H6 (.agg [(I 0),(I 0)])) λv12 H13=>
bS (ast 2 H13 v12 v11) λH14=>
bO (zhZ 1 v12) λv15=>
bO (ald false 1 H14 v15) λv16=>
bO (abI .gtr v16 (I 0)) λv17=>
bB v17 λt18=>bI t18 (
bO (zhZ 0 v12) λv19=>
bO (ald false 1 H14 v19) λv20=>
bO (abI .sub v20 x1) λv21=>
bO (aslS 1 x7 (some v21) none none) λv22=>
bO (zhZ 1 v4) λv23=>
bO (zhZ 0 v12) λv24=>
bO (ald false 1 H14 v24) λv25=>
bO (zhZ 0 v4) λv26=>
bO (ald false 1 H14 v26) λv27=>
bO (abI .mul v27 (I 8)) λv28=>
bO (abI .sub v25 v28) λv29=>
bO (aslA 8 1 H14 v23 (some v29) none) λv30=>
bO (zhZ 1 v12) λv31=>
bO (ald false 1 H14 v31) λv32=>
bO (aslS 1 v30 none (some v32) none) λv33=>
bH (acp 1 H14 v22 v33) λv34 H35=>
zouZ R8 x1 x2 x7 x41 x42 x43 H35 K)
 (zouZ R8 x1 x2 x7 x41 x42 x43 H14 K))
 (K x7 H)
theorem zbdoZ {K : KT} : RL6 (λR x1 x2 x7 x41 x42 x43 H=>zziZ R x1 x2 x7 x41 x42 x43 H K) (λx1 x2 x7 x41 x42 x43 H=>zbdyZ x1 x2 x7 x41 x42 x43 H K):=lpr6 (zvZ _ _) (λ_ _ _ _ _ _ _ _=>by kernel_rfl)
def extent_Read (a0 a1 a2 : AV) (H : AH) (K : KT) : Prop :=
bH (anew H a0) λv0 H1=>
bO (ald true 2 H1 v0) λv2=>
bP (PCall Tryz.prog 93 [v2] H1) λv3=>
bO (aun .not v3) λv4=>
bG v4 false λw5=>
gO w5 (some a1) λv6=>
bG v4 false λw7=>
gO w7 (abI .lss v6 (I 0)) λv8=>
bO (apick v4 (B true) v8) λv9=>
bG v9 false λw10=>
gO w10 (some a2) λv11=>
bG v9 false λw12=>
gO w12 (abI .lss v11 (I 0)) λv13=>
bO (apick v9 (B true) v13) λv14=>
bG v14 false λw15=>
gO w15 (some a2) λv16=>
bG v14 false λw17=>
gO w17 (abI .gtr v16 (I 4096)) λv18=>
bO (apick v14 (B true) v18) λv19=>
bG v19 false λw20=>
gO w20 (some a1) λv21=>
bG v19 false λw22=>
gO w22 (zhZ 0 v0) λv23=>
bG v19 false λw24=>
gO w24 (ald false 1 H1 v23) λv25=>
bG v19 false λw26=>
gO w26 (abI .geq v21 v25) λv27=>
bO (apick v19 (B true) v27) λv28=>
bB v28 λt29=>bI t29 (
K nilSl H1)
 (bO (zhZ 0 v0) λv30=>
bO (ald false 1 H1 v30) λv31=>
bO (abI .sub v31 a1) λv32=>
bO (amm imn [a2,v32]) λv33=>
bH (amk 1 1 [(.lit (.int .u8 0))] H1 v33 v33) λv34 H35=>
bO (zhZ 1 v0) λv36=>
bO (ald false 1 H35 v36) λv37=>
bO (alnS v37) λv38=>
zbdyZ a1 v33 v34 v37 v38 (I 0) H35 K)
theorem extent_Read_ok {a0 a1 a2 : AV} {H : AH} {K : KT} (h : extent_Read a0 a1 a2 H K) : OKP 69 [a0,a1,a2] H K :=
 fok nofl pql zbegZ Tryz.func69 (by kernel_rfl) (by kernel_rfl) h
def extent_May_kp : Nat→Option (List Bool):=kpOf [(7,mk 40 0 [1,3,15,16,17])]
def extent_May_c (p : List Bool) (n : Nat) : List AV→AH→Kf→Prop:=sCode Tryz.prog nofl pql none0 none0 extent_May_kp (sub p (zhyZ Tryz.f93)) n
def extent_May_L7 (x1 x3 x15 x16 x17 : AV) (H : AH) (K : KT) : Prop:=lp (mk 40 0 [1,3,15,16,17]) (extent_May_c [tT,tT,tT,fF,tT,fF,fF] 8) [x1,x3,x15,x16,x17] H (kBlk 0 (kSeq (extent_May_c [tT,tT,tT,tT] 15) (kRet Tryz.prog Tryz.f93.results.toList K)))
def zbbgZ (R7 : RT) (x1 x3 x15 x16 x17 : AV) (H : AH) (K : KT) : Prop :=
bO (abI .lss x17 x16) λv0=>
bB v0 λt1=>bI t1 (
bO (aixS 9 x15 x17) λv2=>
bO (ald true 9 H v2) λv3=>
bH (anew H (.agg [(I 0),(.lit (.int .u8 0)),(.lit (.int .u8 0)),(.lit (.int .u8 0)),(.lit (.int .u8 0)),(.lit (.int .u8 0)),(.lit (.int .u8 0)),(.lit (.int .u8 0)),(.lit (.int .u8 0))])) λv4 H5=>
bS (ast 9 H5 v4 v3) λH6=>
bO (zhZ 0 v4) λv7=>
bO (ald false 1 H6 v7) λv8=>
bO (abI .leq v8 x3) λv9=>
bG v9 false λw10=>
gO w10 (zhZ 0 v4) λv11=>
bG v9 false λw12=>
gO w12 (ald false 1 H6 v11) λv13=>
bG v9 false λw14=>
gO w14 (abI .geq v13 (I 137438953472)) λv15=>
bO (apick v9 (B true) v15) λv16=>
bG v16 false λw17=>
gO w17 (ald true 9 H6 v4) λv18=>
bG v16 false λw19=>
gO w19 (zhZ 0 x1) λv20=>
bG v16 false λw21=>
gO w21 (ald false 1 H6 v20) λv22=>
bG v16 false λw23=>
gP w23 (PCall Tryz.prog 151 [v18,v22] H6) λv24=>
bG v16 false λw25=>
gO w25 (aun .not v24) λv26=>
bO (apick v16 (B true) v26) λv27=>
bB v27 λt28=>bI t28 (
K (B false) H6)
 (bO (zhZ 0 v4) λv29=>
bO (ald false 1 H6 v29) λv30=>
bO (abI .add x17 (I 1)) λv31=>
R7 [x1,v30,x15,x16,v31] H6))
 (K (B true) H)
theorem extent_May_L7_rule {K : KT} : RL5 (λR x1 x3 x15 x16 x17 H=>zbbgZ R x1 x3 x15 x16 x17 H K) (λx1 x3 x15 x16 x17 H=>extent_May_L7 x1 x3 x15 x16 x17 H K):=lpr5 (zvZ _ _) (λ_ _ _ _ _ _ _=>by kernel_rfl)
def extent_May (a0 : AV) (H : AH) (K : KT) : Prop :=
bH (anew H a0) λv0 H1=>
bO (zhZ 0 v0) λv2=>
bO (ald false 1 H1 v2) λv3=>
bO (abI .lss v3 (I 0)) λv4=>
bG v4 false λw5=>
gO w5 (zhZ 0 v0) λv6=>
bG v4 false λw7=>
gO w7 (ald false 1 H1 v6) λv8=>
bG v4 false λw9=>
gO w9 (abI .gtr v8 (I 1099511627776)) λv10=>
bO (apick v4 (B true) v10) λv11=>
bB v11 λt12=>bI t12 (
K (B false) H1)
 (bO (zhZ 1 v0) λv13=>
bO (ald false 1 H1 v13) λv14=>
bO (alnS v14) λv15=>
extent_May_L7 v0 (I (-1)) v14 v15 (I 0) H1 K)
theorem extent_May_ok {a0 : AV} {H : AH} {K : KT} (h : extent_May a0 H K) : OKP 93 [a0] H K :=
 fok nofl pql extent_May_kp Tryz.func93 (by kernel_rfl) (by kernel_rfl) h
def zijZ : Nat→Option (List Bool):=kpOf [(12,mk 69 0 [3,6]),(7,mk 69 0 [1,2,3,6,8])]
def zfiZ (p : List Bool) (n : Nat) : List AV→AH→Kf→Prop:=sCode Tryz.prog nofl pql none0 none0 zijZ (sub p (zhyZ Tryz.f130)) n
def zdiZ (x3 x6 : AV) (H : AH) (K : KT) : Prop:=jn (mk 69 0 [3,6]) (zfiZ [tT,tT,tT,tT,tT] 14) [x3,x6] H (kRet Tryz.prog Tryz.f130.results.toList K)
def zirZ (x1 x2 x3 x6 x8 : AV) (H : AH) (K : KT) : Prop:=lp (mk 69 0 [1,2,3,6,8]) (zfiZ [tT,tT,tT,fF,tT,fF,fF] 8) [x1,x2,x3,x6,x8] H (kBlk 0 (kSeq (zfiZ [tT,tT,tT,tT] 12) (kRet Tryz.prog Tryz.f130.results.toList K)))
def zgwZ (x3 x6 : AV) (H : AH) (K : KT) : Prop :=
bO (ald true 2 H x3) λv0=>
bS (ast 2 H x6 v0) λH1=>
bO (ald true 2 H1 x6) λv2=>
K (.tup [v2,(B true)]) H1
theorem znyZ (x3 x6 : AV) (H : AH) (K : KT) : zdiZ x3 x6 H K=zgwZ x3 x6 H K:=(jn_eq _ _ _ _ _).trans (by kernel_rfl)
def zhaZ (R7 : RT) (x1 x2 x3 x6 x8 : AV) (H : AH) (K : KT) : Prop :=
bO (alnS x2) λv0=>
bO (abI .lss x8 v0) λv1=>
bB v1 λt2=>bI t2 (
bO (abI .add x1 x8) λv3=>
bO (abI .quo v3 (I 8)) λv4=>
bC (BCall Tryz.prog 172 [x3,v4] H) λv5 H6=>
bO (zhZ 1 x3) λv7=>
bO (ald false 1 H6 v7) λv8=>
bO (abI .add x1 x8) λv9=>
bO (abI .rem v9 (I 8)) λv10=>
bO (aixS 1 x2 x8) λv11=>
bO (ald false 1 H6 v11) λv12=>
bO (aixS 9 v8 v5) λv13=>
bO (zhZ 1 v13) λv14=>
bO (aixA 8 1 v14 v10) λv15=>
bS (ast 1 H6 v15 v12) λH16=>
bO (abI .add x8 (I 1)) λv17=>
R7 [x1,x2,x3,x6,v17] H16)
 (bO (alnS x2) λv18=>
bO (abI .gtr v18 (I 0)) λv19=>
bB v19 λt20=>bI t20 (
bO (zhZ 0 x3) λv21=>
bO (ald false 1 H v21) λv22=>
bO (alnS x2) λv23=>
bO (abI .add x1 v23) λv24=>
bO (amm imx [v22,v24]) λv25=>
bO (zhZ 0 x3) λv26=>
bS (ast 1 H v26 v25) λH27=>
zdiZ x3 x6 H27 K)
 (zdiZ x3 x6 H K))
theorem znfZ {K : KT} : RL5 (λR x1 x2 x3 x6 x8 H=>zhaZ R x1 x2 x3 x6 x8 H K) (λx1 x2 x3 x6 x8 H=>zirZ x1 x2 x3 x6 x8 H K):=lpr5 (zvZ _ _) (λ_ _ _ _ _ _ _=>by kernel_rfl)
def zlxZ (a0 a1 a2 : AV) (H : AH) (K : KT) : Prop :=
bH (anew H a0) λv0 H1=>
bH (anew H1 (.agg [(I 0),nilSl])) λv2 H3=>
bO (ald true 2 H3 v0) λv4=>
bP (PCall Tryz.prog 159 [v4] H3) λv5=>
bO (aun .not v5) λv6=>
bG v6 false λw7=>
gO w7 (some a1) λv8=>
bG v6 false λw9=>
gO w9 (abI .lss v8 (I 0)) λv10=>
bO (apick v6 (B true) v10) λv11=>
bG v11 false λw12=>
gO w12 (some a2) λv13=>
bG v11 false λw14=>
gO w14 (alnS v13) λv15=>
bG v11 false λw16=>
gO w16 (abI .gtr v15 (I 4096)) λv17=>
bO (apick v11 (B true) v17) λv18=>
bG v18 false λw19=>
gO w19 (some a1) λv20=>
bG v18 false λw21=>
gO w21 (some a2) λv22=>
bG v18 false λw23=>
gO w23 (alnS v22) λv24=>
bG v18 false λw25=>
gO w25 (abI .sub (I 1099511627776) v24) λv26=>
bG v18 false λw27=>
gO w27 (abI .gtr v20 v26) λv28=>
bO (apick v18 (B true) v28) λv29=>
bB v29 λt30=>bI t30 (
bO (abl [(I 0),nilSl] []) λv31=>
bS (ast 2 H3 v2 v31) λH32=>
bO (ald true 2 H32 v2) λv33=>
K (.tup [v33,(B false)]) H32)
 (bO (ald true 2 H3 v0) λv34=>
bC (BCall Tryz.prog 171 [v34] H3) λv35 H36=>
bS (ast 2 H36 v0 v35) λH37=>
zirZ a1 a2 v0 v2 (I 0) H37 K)
theorem zryZ {a0 a1 a2 : AV} {H : AH} {K : KT} (h : zlxZ a0 a1 a2 H K) : OKP 130 [a0,a1,a2] H K :=
 fok nofl pql zijZ Tryz.func130 (by kernel_rfl) (by kernel_rfl) h
def zjgZ : Nat→Option (List Bool):=kpOf [(6,mk 48 0 [1,2,6])]
def zjwZ (p : List Bool) (n : Nat) : List AV→AH→Kf→Prop:=sCode Tryz.prog nofl pql none0 none0 zjgZ (sub p (zhyZ Tryz.f143)) n
def zjlZ (x1 x2 x6 : AV) (H : AH) (K : KT) : Prop:=lp (mk 48 0 [1,2,6]) (zjwZ [tT,tT,fF,tT,fF,fF] 7) [x1,x2,x6] H (kBlk 0 (kSeq (zjwZ [tT,tT,tT] 13) (kRet Tryz.prog Tryz.f143.results.toList K)))
def zhtZ (R6 : RT) (x1 x2 x6 : AV) (H : AH) (K : KT) : Prop :=
bO (zhZ 1 x2) λv0=>
bO (ald false 1 H v0) λv1=>
bO (alnS v1) λv2=>
bO (abI .lss x6 v2) λv3=>
bB v3 λt4=>bI t4 (
bO (zhZ 1 x2) λv5=>
bO (ald false 1 H v5) λv6=>
bO (aixS 9 v6 x6) λv7=>
bO (zhZ 0 v7) λv8=>
bO (ald false 1 H v8) λv9=>
bO (abI .mul v9 (I 8)) λv10=>
bO (amm imx [v10,x1]) λv11=>
bO (zhZ 1 x2) λv12=>
bO (ald false 1 H v12) λv13=>
bO (aixS 9 v13 x6) λv14=>
bO (zhZ 0 v14) λv15=>
bO (ald false 1 H v15) λv16=>
bO (abI .add v16 (I 1)) λv17=>
bO (abI .mul v17 (I 8)) λv18=>
bO (abI .lss v11 v18) λv19=>
bG v19 true λw20=>
gO w20 (some v11) λv21=>
bG v19 true λw22=>
gO w22 (zhZ 0 x2) λv23=>
bG v19 true λw24=>
gO w24 (ald false 1 H v23) λv25=>
bG v19 true λw26=>
gO w26 (abI .lss v21 v25) λv27=>
bO (apick v19 v27 (B false)) λv28=>
bB v28 λt29=>bI t29 (
K (.tup [v11,(B true)]) H)
 (bO (abI .add x6 (I 1)) λv30=>
R6 [x1,x2,v30] H))
 (K (.tup [(I 0),(B false)]) H)
theorem znzZ {K : KT} : RL3 (λR x1 x2 x6 H=>zhtZ R x1 x2 x6 H K) (λx1 x2 x6 H=>zjlZ x1 x2 x6 H K):=lpr3 (zvZ _ _) (λ_ _ _ _ _=>by kernel_rfl)
def zmtZ (a0 a1 : AV) (H : AH) (K : KT) : Prop :=
bH (anew H a0) λv0 H1=>
bO (ald true 2 H1 v0) λv2=>
bP (PCall Tryz.prog 159 [v2] H1) λv3=>
bO (aun .not v3) λv4=>
bG v4 false λw5=>
gO w5 (some a1) λv6=>
bG v4 false λw7=>
gO w7 (abI .lss v6 (I 0)) λv8=>
bO (apick v4 (B true) v8) λv9=>
bB v9 λt10=>bI t10 (
K (.tup [(I 0),(B false)]) H1)
 (zjlZ a1 v0 (I 0) H1 K)
theorem zteZ {a0 a1 : AV} {H : AH} {K : KT} (h : zmtZ a0 a1 H K) : OKP 143 [a0,a1] H K :=
 fok nofl pql zjgZ Tryz.func143 (by kernel_rfl) (by kernel_rfl) h
def zjfZ : Nat→Option (List Bool):=kpOf [(5,mk 32 0 [1,2])]
def zjuZ (p : List Bool) (n : Nat) : List AV→AH→Kf→Prop:=sCode Tryz.prog nofl pql none0 none0 zjfZ (sub p (zhyZ Tryz.f145)) n
def zjpZ (x1 x2 : AV) (H : AH) (K : KT) : Prop:=lp (mk 32 0 [1,2]) (zjuZ [tT,tT,fF,fF,fF] 6) [x1,x2] H (kBlk 0 (kSeq (zjuZ [tT,tT,tT] 8) (kRet Tryz.prog Tryz.f145.results.toList K)))
def zhsZ (R5 : RT) (x1 x2 : AV) (H : AH) (K : KT) : Prop :=
bO (ald true 2 H x2) λv0=>
bO (abI .quo x1 (I 8)) λv1=>
bP (PCall Tryz.prog 133 [v0,v1] H) λv2=>
bO (abI .geq v2 (I 0)) λv3=>
bB v3 λt4=>bI t4 (
bO (abI .quo x1 (I 8)) λv5=>
bO (abI .add v5 (I 1)) λv6=>
bO (abI .mul v6 (I 8)) λv7=>
R5 [v7,x2] H)
 (bO (zhZ 0 x2) λv8=>
bO (ald false 1 H v8) λv9=>
bO (amm imn [x1,v9]) λv10=>
K (.tup [v10,(B true)]) H)
theorem znwZ {K : KT} : RL2 (λR x1 x2 H=>zhsZ R x1 x2 H K) (λx1 x2 H=>zjpZ x1 x2 H K):=lpr2 (zvZ _ _) (λ_ _ _ _=>by kernel_rfl)
def zmxZ (a0 a1 : AV) (H : AH) (K : KT) : Prop :=
bH (anew H a0) λv0 H1=>
bO (ald true 2 H1 v0) λv2=>
bP (PCall Tryz.prog 159 [v2] H1) λv3=>
bO (aun .not v3) λv4=>
bG v4 false λw5=>
gO w5 (some a1) λv6=>
bG v4 false λw7=>
gO w7 (abI .lss v6 (I 0)) λv8=>
bO (apick v4 (B true) v8) λv9=>
bG v9 false λw10=>
gO w10 (some a1) λv11=>
bG v9 false λw12=>
gO w12 (zhZ 0 v0) λv13=>
bG v9 false λw14=>
gO w14 (ald false 1 H1 v13) λv15=>
bG v9 false λw16=>
gO w16 (abI .geq v11 v15) λv17=>
bO (apick v9 (B true) v17) λv18=>
bB v18 λt19=>bI t19 (
K (.tup [(I 0),(B false)]) H1)
 (zjpZ a1 v0 H1 K)
theorem ztjZ {a0 a1 : AV} {H : AH} {K : KT} (h : zmxZ a0 a1 H K) : OKP 145 [a0,a1] H K :=
 fok nofl pql zjfZ Tryz.func145 (by kernel_rfl) (by kernel_rfl) h
def zkpZ : Nat→Option (List Bool):=kpOf [(15,mk 70 0 [1,3,4,5]),(6,mk 70 0 [1,3])]
def zdjZ (p : List Bool) (n : Nat) : List AV→AH→Kf→Prop:=sCode Tryz.prog nofl pql none0 none0 zkpZ (sub p (zhyZ Tryz.f159)) n
def zfkZ (R6 : RT) (x1 x3 x4 x5 : AV) (H : AH) (K : KT) : Prop:=lp (mk 70 0 [1,3,4,5]) (zdjZ [tT,tT,fF,tT,fF,fF,tT,fF,fF,tT,tT,tT,fF,fF] 16) [x1,x3,x4,x5] H (kBlk 2 (kBlk 1 (kSeq (zdjZ [tT,tT,fF,tT,fF,fF,tT,tT] 21) (kLp (mk 70 0 [1,3]) R6 (kBlk 0 (kSeq (zdjZ [tT,tT,tT] 21) (kRet Tryz.prog Tryz.f159.results.toList K)))))))
def zkcZ (x1 x3 : AV) (H : AH) (K : KT) : Prop:=lp (mk 70 0 [1,3]) (zdjZ [tT,tT,fF,tT,fF,fF] 7) [x1,x3] H (kBlk 0 (kSeq (zdjZ [tT,tT,tT] 21) (kRet Tryz.prog Tryz.f159.results.toList K)))
def zhqZ (R6 : RT) (R15 : RT) (x1 x3 x4 x5 : AV) (H : AH) (K : KT) : Prop :=
bO (abI .lss x5 (I 8)) λv0=>
bB v0 λt1=>bI t1 (
bO (abI .mul x4 (I 8)) λv2=>
bO (abI .add v2 x5) λv3=>
bO (zhZ 0 x1) λv4=>
bO (ald false 1 H v4) λv5=>
bO (abI .geq v3 v5) λv6=>
bG v6 true λw7=>
gO w7 (zhZ 1 x1) λv8=>
bG v6 true λw9=>
gO w9 (ald false 1 H v8) λv10=>
bG v6 true λw11=>
gO w11 (some x3) λv12=>
bG v6 true λw13=>
gO w13 (some x5) λv14=>
bG v6 true λw15=>
gO w15 (aixS 9 v10 v12) λv16=>
bG v6 true λw17=>
gO w17 (zhZ 1 v16) λv18=>
bG v6 true λw19=>
gO w19 (aixA 8 1 v18 v14) λv20=>
bG v6 true λw21=>
gO w21 (ald false 1 H v20) λv22=>
bG v6 true λw23=>
gO w23 (abI .neq v22 (.lit (.int .u8 0))) λv24=>
bO (apick v6 v24 (B false)) λv25=>
bB v25 λt26=>bI t26 (
K (B false) H)
 (bO (abI .add x5 (I 1)) λv27=>
R15 [x1,x3,x4,v27] H))
 (bO (abI .add x3 (I 1)) λv28=>
R6 [x1,v28] H)
theorem znsZ (R6 : RT) {K : KT} : RL4 (λR x1 x3 x4 x5 H=>zhqZ R6 R x1 x3 x4 x5 H K) (λx1 x3 x4 x5 H=>zfkZ R6 x1 x3 x4 x5 H K):=lpr4 (zvZ _ _) (λ_ _ _ _ _ _=>by kernel_rfl)
def zifZ (R6 : RT) (x1 x3 : AV) (H : AH) (K : KT) : Prop :=
bO (zhZ 1 x1) λv0=>
bO (ald false 1 H v0) λv1=>
bO (alnS v1) λv2=>
bO (abI .lss x3 v2) λv3=>
bB v3 λt4=>bI t4 (
bO (zhZ 1 x1) λv5=>
bO (ald false 1 H v5) λv6=>
bO (aixS 9 v6 x3) λv7=>
bO (zhZ 0 v7) λv8=>
bO (ald false 1 H v8) λv9=>
bO (abI .lss v9 (I 0)) λv10=>
bG v10 false λw11=>
gO w11 (some v9) λv12=>
bG v10 false λw13=>
gO w13 (abI .geq v12 (I 137438953472)) λv14=>
bO (apick v10 (B true) v14) λv15=>
bG v15 false λw16=>
gO w16 (some x3) λv17=>
bG v15 false λw18=>
gO w18 (abI .gtr v17 (I 0)) λv19=>
bG v15 false λw20=>
gO w20 (some v19) λv21=>
bG v21 true λw22=>
gO w22 (zhZ 1 x1) λv23=>
bG v21 true λw24=>
gO w24 (ald false 1 H v23) λv25=>
bG v21 true λw26=>
gO w26 (some x3) λv27=>
bG v21 true λw28=>
gO w28 (abI .sub v27 (I 1)) λv29=>
bG v21 true λw30=>
gO w30 (aixS 9 v25 v29) λv31=>
bG v21 true λw32=>
gO w32 (zhZ 0 v31) λv33=>
bG v21 true λw34=>
gO w34 (ald false 1 H v33) λv35=>
bG v21 true λw36=>
gO w36 (some v9) λv37=>
bG v21 true λw38=>
gO w38 (abI .geq v35 v37) λv39=>
bG v15 false λw40=>
gO w40 (apick v21 v39 (B false)) λv41=>
bO (apick v15 (B true) v41) λv42=>
bB v42 λt43=>bI t43 (
K (B false) H)
 (zfkZ R6 x1 x3 v9 (I 0) H K))
 (K (B true) H)
theorem zorZ {K : KT} : RL2 (λR x1 x3 H=>zifZ R x1 x3 H K) (λx1 x3 H=>zkcZ x1 x3 H K):=lpr2 (zvZ _ _) (λ_ _ _ _=>by kernel_rfl)
def zopZ (a0 : AV) (H : AH) (K : KT) : Prop :=
bH (anew H a0) λv0 H1=>
bO (zhZ 0 v0) λv2=>
bO (ald false 1 H1 v2) λv3=>
bO (abI .lss v3 (I 0)) λv4=>
bG v4 false λw5=>
gO w5 (zhZ 0 v0) λv6=>
bG v4 false λw7=>
gO w7 (ald false 1 H1 v6) λv8=>
bG v4 false λw9=>
gO w9 (abI .gtr v8 (I 1099511627776)) λv10=>
bO (apick v4 (B true) v10) λv11=>
bB v11 λt12=>bI t12 (
K (B false) H1)
 (zkcZ v0 (I 0) H1 K)
theorem ztvZ {a0 : AV} {H : AH} {K : KT} (h : zopZ a0 H K) : OKP 159 [a0] H K :=
 fok nofl pql zkpZ Tryz.func159 (by kernel_rfl) (by kernel_rfl) h
def extent_Same (a0 a1 : AV) (H : AH) (K : KT) : Prop :=
bH (anew H a0) λv0 H1=>
bH (anew H1 a1) λv2 H3=>
bO (zhZ 0 v0) λv4=>
bO (ald false 1 H3 v4) λv5=>
bO (zhZ 0 v2) λv6=>
bO (ald false 1 H3 v6) λv7=>
bO (abI .eql v5 v7) λv8=>
bG v8 true λw9=>
gO w9 (zhZ 1 v0) λv10=>
bG v8 true λw11=>
gO w11 (ald false 1 H3 v10) λv12=>
bG v8 true λw13=>
gO w13 (zhZ 1 v2) λv14=>
bG v8 true λw15=>
gO w15 (ald false 1 H3 v14) λv16=>
bG v8 true λw17=>
gP w17 (PCall Tryz.prog 96 [v12,v16] H3) λv18=>
bO (apick v8 v18 (B false)) λv19=>
K v19 H3
theorem extent_Same_ok {a0 a1 : AV} {H : AH} {K : KT} (h : extent_Same a0 a1 H K) : OKP 37 [a0,a1] H K :=
 fok nofl pql nokp Tryz.func37 (by kernel_rfl) (by kernel_rfl) h
def zjkZ : Nat→Option (List Bool):=kpOf [(7,mk 47 0 [1,2,3,7,8])]
def zksZ (p : List Bool) (n : Nat) : List AV→AH→Kf→Prop:=sCode Tryz.prog nofl pql none0 none0 zjkZ (sub p (zhyZ Tryz.f104)) n
def zjnZ (x1 x2 x3 x7 x8 : AV) (H : AH) (K : KT) : Prop:=lp (mk 47 0 [1,2,3,7,8]) (zksZ [tT,tT,tT,fF,tT,fF,fF] 8) [x1,x2,x3,x7,x8] H (kBlk 0 (kSeq (zksZ [tT,tT,tT,tT] 11) (kRet Tryz.prog Tryz.f104.results.toList K)))
def zhlZ (R7 : RT) (x1 x2 x3 x7 x8 : AV) (H : AH) (K : KT) : Prop :=
bO (abI .lss x8 x2) λv0=>
bG v0 true λw1=>
gO w1 (some x1) λv2=>
bG v0 true λw3=>
gO w3 (zhZ 0 x3) λv4=>
bG v0 true λw5=>
gO w5 (ald false 1 H v4) λv6=>
bG v0 true λw7=>
gO w7 (some x8) λv8=>
bG v0 true λw9=>
gO w9 (abI .sub v6 v8) λv10=>
bG v0 true λw11=>
gO w11 (abI .lss v2 v10) λv12=>
bO (apick v0 v12 (B false)) λv13=>
bB v13 λt14=>bI t14 (
bO (ald true 2 H x3) λv15=>
bO (abI .add x1 x8) λv16=>
bP (PCall Tryz.prog 160 [v15,v16] H) λv17=>
bH (absl H 1 1 (zrow [(.lit (.int .u8 0))] 1) [(0,1,v17)]) λv18 H19=>
bH (aap 1 1 H19 x7 v18) λv20 H21=>
bO (abI .add x8 (I 1)) λv22=>
R7 [x1,x2,x3,v20,v22] H21)
 (K x7 H)
theorem zoaZ {K : KT} : RL5 (λR x1 x2 x3 x7 x8 H=>zhlZ R x1 x2 x3 x7 x8 H K) (λx1 x2 x3 x7 x8 H=>zjnZ x1 x2 x3 x7 x8 H K):=lpr5 (zvZ _ _) (λ_ _ _ _ _ _ _=>by kernel_rfl)
def znbZ (a0 a1 a2 : AV) (H : AH) (K : KT) : Prop :=
bH (anew H a0) λv0 H1=>
bO (ald true 2 H1 v0) λv2=>
bP (PCall Tryz.prog 159 [v2] H1) λv3=>
bO (aun .not v3) λv4=>
bG v4 false λw5=>
gO w5 (some a1) λv6=>
bG v4 false λw7=>
gO w7 (abI .lss v6 (I 0)) λv8=>
bO (apick v4 (B true) v8) λv9=>
bG v9 false λw10=>
gO w10 (some a2) λv11=>
bG v9 false λw12=>
gO w12 (abI .lss v11 (I 0)) λv13=>
bO (apick v9 (B true) v13) λv14=>
bG v14 false λw15=>
gO w15 (some a2) λv16=>
bG v14 false λw17=>
gO w17 (abI .gtr v16 (I 4096)) λv18=>
bO (apick v14 (B true) v18) λv19=>
bB v19 λt20=>bI t20 (
K nilSl H1)
 (zjnZ a1 a2 v0 nilSl (I 0) H1 K)
theorem ztgZ {a0 a1 a2 : AV} {H : AH} {K : KT} (h : znbZ a0 a1 a2 H K) : OKP 104 [a0,a1,a2] H K :=
 fok nofl pql zjkZ Tryz.func104 (by kernel_rfl) (by kernel_rfl) h
def zwaZ : Nat→Option (List Bool):=kpOf [(11,mk 50 0 [4,8]),(7,mk 50 0 [1,2,3,4,8,10])]
def zpmZ (p : List Bool) (n : Nat) : List AV→AH→Kf→Prop:=sCode Tryz.prog nofl pql none0 none0 zwaZ (sub p (zhyZ Tryz.f72)) n
def zhiZ (x4 x8 : AV) (H : AH) (K : KT) : Prop:=jn (mk 50 0 [4,8]) (zpmZ [tT,tT,tT,tT,tT] 13) [x4,x8] H (kRet Tryz.prog Tryz.f72.results.toList K)
def zvtZ (x1 x2 x3 x4 x8 x10 : AV) (H : AH) (K : KT) : Prop:=lp (mk 50 0 [1,2,3,4,8,10]) (zpmZ [tT,tT,tT,fF,tT,fF,fF] 8) [x1,x2,x3,x4,x8,x10] H (kBlk 0 (kSeq (zpmZ [tT,tT,tT,tT] 11) (kRet Tryz.prog Tryz.f72.results.toList K)))
def zqdZ (x4 x8 : AV) (H : AH) (K : KT) : Prop :=
bO (ald true 2 H x4) λv0=>
bS (ast 2 H x8 v0) λH1=>
bO (ald true 2 H1 x8) λv2=>
K (.tup [v2,(B true)]) H1
theorem zyyZ (x4 x8 : AV) (H : AH) (K : KT) : zhiZ x4 x8 H K=zqdZ x4 x8 H K:=(jn_eq _ _ _ _ _).trans (by kernel_rfl)
def zrlZ (R7 : RT) (x1 x2 x3 x4 x8 x10 : AV) (H : AH) (K : KT) : Prop :=
bO (abI .add x1 x2) λv0=>
bO (abI .sub v0 (I 1)) λv1=>
bO (abI .quo v1 (I 8)) λv2=>
bO (abI .leq x10 v2) λv3=>
bB v3 λt4=>bI t4 (
bC (BCall Tryz.prog 95 [x4,x10] H) λv5 H6=>
bO (abI .add x10 (I 1)) λv7=>
R7 [x1,x2,x3,x4,x8,v7] H6)
 (bO (aun .not x3) λv8=>
bB v8 λt9=>bI t9 (
bO (zhZ 0 x4) λv10=>
bO (ald false 1 H v10) λv11=>
bO (abI .add x1 x2) λv12=>
bO (amm imx [v11,v12]) λv13=>
bO (zhZ 0 x4) λv14=>
bS (ast 1 H v14 v13) λH15=>
zhiZ x4 x8 H15 K)
 (zhiZ x4 x8 H K))
theorem zygZ {K : KT} : RL6 (λR x1 x2 x3 x4 x8 x10 H=>zrlZ R x1 x2 x3 x4 x8 x10 H K) (λx1 x2 x3 x4 x8 x10 H=>zvtZ x1 x2 x3 x4 x8 x10 H K):=lpr6 (zvZ _ _) (λ_ _ _ _ _ _ _ _=>by kernel_rfl)
def zbccZ (a0 a1 a2 a3 : AV) (H : AH) (K : KT) : Prop :=
bH (anew H a0) λv0 H1=>
bH (anew H1 (.agg [(I 0),nilSl])) λv2 H3=>
bO (ald true 2 H3 v0) λv4=>
bP (PCall Tryz.prog 93 [v4] H3) λv5=>
bO (aun .not v5) λv6=>
bG v6 false λw7=>
gO w7 (some a1) λv8=>
bG v6 false λw9=>
gO w9 (some a2) λv10=>
bG v6 false λw11=>
gP w11 (PCall Tryz.prog 127 [v8,v10] H3) λv12=>
bG v6 false λw13=>
gO w13 (aun .not v12) λv14=>
bO (apick v6 (B true) v14) λv15=>
bG v15 false λw16=>
gO w16 (some a2) λv17=>
bG v15 false λw18=>
gO w18 (abI .gtr v17 (I 32768)) λv19=>
bO (apick v15 (B true) v19) λv20=>
bB v20 λt21=>bI t21 (
bO (abl [(I 0),nilSl] []) λv22=>
bS (ast 2 H3 v2 v22) λH23=>
bO (ald true 2 H23 v2) λv24=>
K (.tup [v24,(B false)]) H23)
 (bO (ald true 2 H3 v0) λv25=>
bC (BCall Tryz.prog 94 [v25] H3) λv26 H27=>
bS (ast 2 H27 v0 v26) λH28=>
bO (abI .quo a1 (I 8)) λv29=>
zvtZ a1 a2 a3 v0 v2 v29 H28 K)
theorem extent_Allocate_ok {a0 a1 a2 a3 : AV} {H : AH} {K : KT} (h : zbccZ a0 a1 a2 a3 H K) : OKP 72 [a0,a1,a2,a3] H K :=
 fok nofl pql zwaZ Tryz.func72 (by kernel_rfl) (by kernel_rfl) h
def zvyZ : Nat→Option (List Bool):=kpOf [(9,mk 45 0 [2,3,4,30,31])]
def zyjZ (p : List Bool) (n : Nat) : List AV→AH→Kf→Prop:=sCode Tryz.prog nofl pql none0 none0 zvyZ (sub p (zhyZ Tryz.f71)) n
def zwgZ (x2 x3 x4 x30 x31 : AV) (H : AH) (K : KT) : Prop:=lp (mk 45 0 [2,3,4,30,31]) (zyjZ [tT,tT,tT,tT,tT,fF,tT,fF,fF] 10) [x2,x3,x4,x30,x31] H (kBlk 0 (kSeq (zyjZ [tT,tT,tT,tT,tT,tT] 14) (kRet Tryz.prog Tryz.f71.results.toList K)))
def zqwZ (R9 : RT) (x2 x3 x4 x30 x31 : AV) (H : AH) (K : KT) : Prop :=
bO (abI .lss x31 x30) λv0=>
bB v0 λt1=>bI t1 (
bO (zhZ 1 x2) λv2=>
bO (ald false 1 H v2) λv3=>
bO (aixS 9 v3 x31) λv4=>
bO (ald false 1 H x3) λv5=>
bO (ald false 1 H x3) λv6=>
bO (abI .sub (I 1099511627776) v6) λv7=>
bO (abl [(I 0),(I 0)] [(0,1,v5),(1,1,v7)]) λv8=>
bC (BCall Tryz.prog 126 [v4,v8] H) λv9 H10=>
bO (abI .add x31 (I 1)) λv11=>
R9 [x2,x3,x4,x30,v11] H10)
 (bO (ald true 2 H x2) λv12=>
bS (ast 2 H x4 v12) λH13=>
bO (ald true 2 H13 x4) λv14=>
K (.tup [v14,(B true)]) H13)
theorem zxkZ {K : KT} : RL5 (λR x2 x3 x4 x30 x31 H=>zqwZ R x2 x3 x4 x30 x31 H K) (λx2 x3 x4 x30 x31 H=>zwgZ x2 x3 x4 x30 x31 H K):=lpr5 (zvZ _ _) (λ_ _ _ _ _ _ _=>by kernel_rfl)
def zbceZ (a0 a1 : AV) (H : AH) (K : KT) : Prop :=
bH (anew H a0) λv0 H1=>
bH (anew H1 a1) λv2 H3=>
bH (anew H3 (.agg [(I 0),nilSl])) λv4 H5=>
bO (ald true 2 H5 v0) λv6=>
bP (PCall Tryz.prog 93 [v6] H5) λv7=>
bO (aun .not v7) λv8=>
bG v8 false λw9=>
gO w9 (ald false 1 H5 v2) λv10=>
bG v8 false λw11=>
gO w11 (abI .lss v10 (I 0)) λv12=>
bO (apick v8 (B true) v12) λv13=>
bG v13 false λw14=>
gO w14 (ald false 1 H5 v2) λv15=>
bG v13 false λw16=>
gO w16 (abI .gtr v15 (I 1099511627776)) λv17=>
bO (apick v13 (B true) v17) λv18=>
bB v18 λt19=>bI t19 (
bO (abl [(I 0),nilSl] []) λv20=>
bS (ast 2 H5 v4 v20) λH21=>
bO (ald true 2 H21 v4) λv22=>
K (.tup [v22,(B false)]) H21)
 (bO (ald true 2 H5 v0) λv23=>
bC (BCall Tryz.prog 94 [v23] H5) λv24 H25=>
bS (ast 2 H25 v0 v24) λH26=>
bO (ald false 1 H26 v2) λv27=>
bO (zhZ 0 v0) λv28=>
bS (ast 1 H26 v28 v27) λH29=>
bO (zhZ 1 v0) λv30=>
bO (ald false 1 H29 v30) λv31=>
bC (BCall Tryz.prog 124 [v31,(.fn (.func 125) [] [v2])] H29) λv32 H33=>
bO (zhZ 1 v0) λv34=>
bS (ast 1 H33 v34 v32) λH35=>
bO (zhZ 1 v0) λv36=>
bO (ald false 1 H35 v36) λv37=>
bO (alnS v37) λv38=>
zwgZ v0 v2 v4 v38 (I 0) H35 K)
theorem extent_Truncate_ok {a0 a1 : AV} {H : AH} {K : KT} (h : zbceZ a0 a1 H K) : OKP 71 [a0,a1] H K :=
 fok nofl pql zvyZ Tryz.func71 (by kernel_rfl) (by kernel_rfl) h
def zbbsZ : Nat→Option (List Bool):=kpOf [(9,mk 44 0 [3,6,8,32,33])]
def zberZ (p : List Bool) (n : Nat) : List AV→AH→Kf→Prop:=sCode Tryz.prog nofl pql none0 none0 zbbsZ (sub p (zhyZ Tryz.f73)) n
def zbbzZ (x3 x6 x8 x32 x33 : AV) (H : AH) (K : KT) : Prop:=lp (mk 44 0 [3,6,8,32,33]) (zberZ [tT,tT,tT,tT,tT,fF,tT,fF,fF] 10) [x3,x6,x8,x32,x33] H (kBlk 0 (kSeq (zberZ [tT,tT,tT,tT,tT,tT] 14) (kRet Tryz.prog Tryz.f73.results.toList K)))
def zxrZ (R9 : RT) (x3 x6 x8 x32 x33 : AV) (H : AH) (K : KT) : Prop :=
bO (abI .lss x33 x32) λv0=>
bB v0 λt1=>bI t1 (
bO (zhZ 1 x3) λv2=>
bO (ald false 1 H v2) λv3=>
bO (aixS 9 v3 x33) λv4=>
bO (ald true 2 H x8) λv5=>
bC (BCall Tryz.prog 126 [v4,v5] H) λv6 H7=>
bO (abI .add x33 (I 1)) λv8=>
R9 [x3,x6,x8,x32,v8] H7)
 (bO (ald true 2 H x3) λv9=>
bS (ast 2 H x6 v9) λH10=>
bO (ald true 2 H10 x6) λv11=>
K (.tup [v11,(B true)]) H10)
theorem zbbpZ {K : KT} : RL5 (λR x3 x6 x8 x32 x33 H=>zxrZ R x3 x6 x8 x32 x33 H K) (λx3 x6 x8 x32 x33 H=>zbbzZ x3 x6 x8 x32 x33 H K):=lpr5 (zvZ _ _) (λ_ _ _ _ _ _ _=>by kernel_rfl)
def extent_Punch (a0 a1 a2 : AV) (H : AH) (K : KT) : Prop :=
bH (anew H a0) λv0 H1=>
bH (anew H1 (.agg [(I 0),nilSl])) λv2 H3=>
bO (ald true 2 H3 v0) λv4=>
bP (PCall Tryz.prog 93 [v4] H3) λv5=>
bO (aun .not v5) λv6=>
bG v6 false λw7=>
gO w7 (some a1) λv8=>
bG v6 false λw9=>
gO w9 (some a2) λv10=>
bG v6 false λw11=>
gP w11 (PCall Tryz.prog 127 [v8,v10] H3) λv12=>
bG v6 false λw13=>
gO w13 (aun .not v12) λv14=>
bO (apick v6 (B true) v14) λv15=>
bB v15 λt16=>bI t16 (
bO (abl [(I 0),nilSl] []) λv17=>
bS (ast 2 H3 v2 v17) λH18=>
bO (ald true 2 H18 v2) λv19=>
K (.tup [v19,(B false)]) H18)
 (bO (ald true 2 H3 v0) λv20=>
bC (BCall Tryz.prog 94 [v20] H3) λv21 H22=>
bS (ast 2 H22 v0 v21) λH23=>
bO (abl [(I 0),(I 0)] [(0,1,a1),(1,1,a2)]) λv24=>
bH (anew H23 (.agg [(I 0),(I 0)])) λv25 H26=>
bS (ast 2 H26 v25 v24) λH27=>
bO (zhZ 1 v0) λv28=>
bO (ald false 1 H27 v28) λv29=>
bC (BCall Tryz.prog 124 [v29,(.fn (.func 128) [] [v25])] H27) λv30 H31=>
bO (zhZ 1 v0) λv32=>
bS (ast 1 H31 v32 v30) λH33=>
bO (zhZ 1 v0) λv34=>
bO (ald false 1 H33 v34) λv35=>
bO (alnS v35) λv36=>
zbbzZ v0 v2 v25 v36 (I 0) H33 K)
theorem extent_Punch_ok {a0 a1 a2 : AV} {H : AH} {K : KT} (h : extent_Punch a0 a1 a2 H K) : OKP 73 [a0,a1,a2] H K :=
 fok nofl pql zbbsZ Tryz.func73 (by kernel_rfl) (by kernel_rfl) h
def zgxZ : Nat→Option (List Bool):=kpOf [(19,mk 62 0 [1,2,4,6,7,8,9]),(16,mk 62 0 [1,2,4,6,7,8,9]),(10,mk 62 0 [1,2,4,6,7]),(7,mk 62 0 [1,2,4,6,7])]
def zqZ (p : List Bool) (n : Nat) : List AV→AH→Kf→Prop:=sCode Tryz.prog nofl pql none0 none0 zgxZ (sub p (zhyZ Tryz.f134)) n
def zcqZ (R7 : RT) (x1 x2 x4 x6 x7 : AV) (H : AH) (K : KT) : Prop:=jn (mk 62 0 [1,2,4,6,7]) (zqZ [tT,tT,tT,fF,tT,fF,fF,tT,tT] 21) [x1,x2,x4,x6,x7] H (kLp (mk 62 0 [1,2,4,6,7]) R7 (kBlk 0 (kSeq (zqZ [tT,tT,tT,tT] 21) (kRet Tryz.prog Tryz.f134.results.toList K))))
def zcpZ (R16 : RT) (R7 : RT) (x1 x2 x4 x6 x7 x8 x9 : AV) (H : AH) (K : KT) : Prop:=jn (mk 62 0 [1,2,4,6,7,8,9]) (zqZ [tT,tT,tT,fF,tT,fF,fF,tT,fF,fF,tT,tT,fF,tT,fF,fF,tT,tT] 21) [x1,x2,x4,x6,x7,x8,x9] H (kLp (mk 62 0 [1,2,4,6,7,8,9]) R16 (kBlk 2 (kSeq (zqZ [tT,tT,tT,fF,tT,fF,fF,tT,fF,fF,tT,tT,tT] 21) (kBlk 1 (kSeq (cutC (mk 62 0 [1,2,4,6,7]) (zqZ [tT,tT,tT,fF,tT,fF,fF,tT,tT] 21)) (kLp (mk 62 0 [1,2,4,6,7]) R7 (kBlk 0 (kSeq (zqZ [tT,tT,tT,tT] 21) (kRet Tryz.prog Tryz.f134.results.toList K)))))))))
def zgkZ (R7 : RT) (x1 x2 x4 x6 x7 x8 x9 : AV) (H : AH) (K : KT) : Prop:=lp (mk 62 0 [1,2,4,6,7,8,9]) (zqZ [tT,tT,tT,fF,tT,fF,fF,tT,fF,fF,tT,tT,fF,tT,fF,fF] 17) [x1,x2,x4,x6,x7,x8,x9] H (kBlk 2 (kSeq (zqZ [tT,tT,tT,fF,tT,fF,fF,tT,fF,fF,tT,tT,tT] 21) (kBlk 1 (kSeq (cutC (mk 62 0 [1,2,4,6,7]) (zqZ [tT,tT,tT,fF,tT,fF,fF,tT,tT] 21)) (kLp (mk 62 0 [1,2,4,6,7]) R7 (kBlk 0 (kSeq (zqZ [tT,tT,tT,tT] 21) (kRet Tryz.prog Tryz.f134.results.toList K))))))))
def zgsZ (x1 x2 x4 x6 x7 : AV) (H : AH) (K : KT) : Prop:=lp (mk 62 0 [1,2,4,6,7]) (zqZ [tT,tT,tT,fF,tT,fF,fF] 8) [x1,x2,x4,x6,x7] H (kBlk 0 (kSeq (zqZ [tT,tT,tT,tT] 21) (kRet Tryz.prog Tryz.f134.results.toList K)))
def zflZ (R7 : RT) (x1 x2 x4 x6 x7 : AV) (H : AH) (K : KT) : Prop :=
bO (abI .add x7 (I 1)) λv0=>
R7 [x1,x2,x4,x6,v0] H
theorem zlfZ (R7 : RT) (x1 x2 x4 x6 x7 : AV) (H : AH) (K : KT) : zcqZ R7 x1 x2 x4 x6 x7 H K=zflZ R7 x1 x2 x4 x6 x7 H K:=(jn_eq _ _ _ _ _).trans (by kernel_rfl)
def zfgZ (R16 : RT) (R7 : RT) (x1 x2 x4 x6 x7 x8 x9 : AV) (H : AH) (K : KT) : Prop :=
bO (abI .add x9 (I 1)) λv0=>
R16 [x1,x2,x4,x6,x7,x8,v0] H
theorem zljZ (R16 : RT) (R7 : RT) (x1 x2 x4 x6 x7 x8 x9 : AV) (H : AH) (K : KT) : zcpZ R16 R7 x1 x2 x4 x6 x7 x8 x9 H K=zfgZ R16 R7 x1 x2 x4 x6 x7 x8 x9 H K:=(jn_eq _ _ _ _ _).trans (by kernel_rfl)
def zfeZ (R7 : RT) (R16 : RT) (x1 x2 x4 x6 x7 x8 x9 : AV) (H : AH) (K : KT) : Prop :=
bO (abI .lss x9 (I 8)) λv0=>
bB v0 λt1=>bI t1 (
bO (zhZ 0 x8) λv2=>
bO (ald false 1 H v2) λv3=>
bO (abI .mul v3 (I 8)) λv4=>
bO (abI .add v4 x9) λv5=>
bO (abI .geq v5 x1) λv6=>
bB v6 λt7=>bI t7 (
bO (zhZ 1 x8) λv8=>
bO (aixA 8 1 v8 x9) λv9=>
bS (ast 1 H v9 (.lit (.int .u8 0))) λH10=>
zcpZ R16 R7 x1 x2 x4 x6 x7 x8 x9 H10 K)
 (zcpZ R16 R7 x1 x2 x4 x6 x7 x8 x9 H K))
 (bO (zhZ 1 x6) λv11=>
bO (ald false 1 H v11) λv12=>
bO (ald true 9 H x8) λv13=>
bH (absl H 9 1 (zrow [(I 0),(.lit (.int .u8 0)),(.lit (.int .u8 0)),(.lit (.int .u8 0)),(.lit (.int .u8 0)),(.lit (.int .u8 0)),(.lit (.int .u8 0)),(.lit (.int .u8 0)),(.lit (.int .u8 0))] 1) [(0,9,v13)]) λv14 H15=>
bH (aap 9 16 H15 v12 v14) λv16 H17=>
bO (zhZ 1 x6) λv18=>
bS (ast 1 H17 v18 v16) λH19=>
zcqZ R7 x1 x2 x4 x6 x7 H19 K)
theorem zjtZ (R7 : RT) {K : KT} : RL7 (λR x1 x2 x4 x6 x7 x8 x9 H=>zfeZ R7 R x1 x2 x4 x6 x7 x8 x9 H K) (λx1 x2 x4 x6 x7 x8 x9 H=>zgkZ R7 x1 x2 x4 x6 x7 x8 x9 H K):=lpr7 (zvZ _ _) (λ_ _ _ _ _ _ _ _ _=>by kernel_rfl)
def zfqZ (R7 : RT) (x1 x2 x4 x6 x7 : AV) (H : AH) (K : KT) : Prop :=
bO (zhZ 1 x2) λv0=>
bO (ald false 1 H v0) λv1=>
bO (alnS v1) λv2=>
bO (abI .lss x7 v2) λv3=>
bB v3 λt4=>bI t4 (
bO (zhZ 1 x2) λv5=>
bO (ald false 1 H v5) λv6=>
bO (aixS 9 v6 x7) λv7=>
bO (ald true 9 H v7) λv8=>
bH (anew H (.agg [(I 0),(.lit (.int .u8 0)),(.lit (.int .u8 0)),(.lit (.int .u8 0)),(.lit (.int .u8 0)),(.lit (.int .u8 0)),(.lit (.int .u8 0)),(.lit (.int .u8 0)),(.lit (.int .u8 0))])) λv9 H10=>
bS (ast 9 H10 v9 v8) λH11=>
bO (zhZ 0 v9) λv12=>
bO (ald false 1 H11 v12) λv13=>
bO (abI .mul v13 (I 8)) λv14=>
bO (abI .geq v14 x1) λv15=>
bB v15 λt16=>bI t16 (
zcqZ R7 x1 x2 x4 x6 x7 H11 K)
 (zgkZ R7 x1 x2 x4 x6 x7 v9 (I 0) H11 K))
 (bO (ald true 2 H x6) λv17=>
bS (ast 2 H x4 v17) λH18=>
bO (ald true 2 H18 x4) λv19=>
K (.tup [v19,(B true)]) H18)
theorem zkiZ {K : KT} : RL5 (λR x1 x2 x4 x6 x7 H=>zfqZ R x1 x2 x4 x6 x7 H K) (λx1 x2 x4 x6 x7 H=>zgsZ x1 x2 x4 x6 x7 H K):=lpr5 (zvZ _ _) (λ_ _ _ _ _ _ _=>by kernel_rfl)
def zioZ (a0 a1 : AV) (H : AH) (K : KT) : Prop :=
bH (anew H a0) λv0 H1=>
bH (anew H1 (.agg [(I 0),nilSl])) λv2 H3=>
bO (ald true 2 H3 v0) λv4=>
bP (PCall Tryz.prog 159 [v4] H3) λv5=>
bO (aun .not v5) λv6=>
bG v6 false λw7=>
gO w7 (some a1) λv8=>
bG v6 false λw9=>
gO w9 (abI .lss v8 (I 0)) λv10=>
bO (apick v6 (B true) v10) λv11=>
bG v11 false λw12=>
gO w12 (some a1) λv13=>
bG v11 false λw14=>
gO w14 (abI .gtr v13 (I 1099511627776)) λv15=>
bO (apick v11 (B true) v15) λv16=>
bB v16 λt17=>bI t17 (
bO (abl [(I 0),nilSl] []) λv18=>
bS (ast 2 H3 v2 v18) λH19=>
bO (ald true 2 H19 v2) λv20=>
K (.tup [v20,(B false)]) H19)
 (bO (abl [(I 0),nilSl] [(0,1,a1)]) λv21=>
bH (anew H3 (.agg [(I 0),nilSl])) λv22 H23=>
bS (ast 2 H23 v22 v21) λH24=>
zgsZ a1 v0 v2 v22 (I 0) H24 K)
theorem zosZ {a0 a1 : AV} {H : AH} {K : KT} (h : zioZ a0 a1 H K) : OKP 134 [a0,a1] H K :=
 fok nofl pql zgxZ Tryz.func134 (by kernel_rfl) (by kernel_rfl) h
def zgtZ : Nat→Option (List Bool):=kpOf [(11,mk 57 0 [4,8]),(7,mk 57 0 [1,2,3,4,8,10])]
def zefZ (p : List Bool) (n : Nat) : List AV→AH→Kf→Prop:=sCode Tryz.prog nofl pql none0 none0 zgtZ (sub p (zhyZ Tryz.f135)) n
def zcsZ (x4 x8 : AV) (H : AH) (K : KT) : Prop:=jn (mk 57 0 [4,8]) (zefZ [tT,tT,tT,tT,tT] 13) [x4,x8] H (kRet Tryz.prog Tryz.f135.results.toList K)
def zgvZ (x1 x2 x3 x4 x8 x10 : AV) (H : AH) (K : KT) : Prop:=lp (mk 57 0 [1,2,3,4,8,10]) (zefZ [tT,tT,tT,fF,tT,fF,fF] 8) [x1,x2,x3,x4,x8,x10] H (kBlk 0 (kSeq (zefZ [tT,tT,tT,tT] 11) (kRet Tryz.prog Tryz.f135.results.toList K)))
def zfhZ (x4 x8 : AV) (H : AH) (K : KT) : Prop :=
bO (ald true 2 H x4) λv0=>
bS (ast 2 H x8 v0) λH1=>
bO (ald true 2 H1 x8) λv2=>
K (.tup [v2,(B true)]) H1
theorem zlgZ (x4 x8 : AV) (H : AH) (K : KT) : zcsZ x4 x8 H K=zfhZ x4 x8 H K:=(jn_eq _ _ _ _ _).trans (by kernel_rfl)
def zfsZ (R7 : RT) (x1 x2 x3 x4 x8 x10 : AV) (H : AH) (K : KT) : Prop :=
bO (abI .mul x10 (I 8)) λv0=>
bO (abI .add x1 x2) λv1=>
bO (abI .lss v0 v1) λv2=>
bB v2 λt3=>bI t3 (
bC (BCall Tryz.prog 172 [x4,x10] H) λv4 H5=>
bO (abI .add x10 (I 1)) λv6=>
R7 [x1,x2,x3,x4,x8,v6] H5)
 (bO (aun .not x3) λv7=>
bB v7 λt8=>bI t8 (
bO (zhZ 0 x4) λv9=>
bO (ald false 1 H v9) λv10=>
bO (abI .add x1 x2) λv11=>
bO (amm imx [v10,v11]) λv12=>
bO (zhZ 0 x4) λv13=>
bS (ast 1 H v13 v12) λH14=>
zcsZ x4 x8 H14 K)
 (zcsZ x4 x8 H K))
theorem zknZ {K : KT} : RL6 (λR x1 x2 x3 x4 x8 x10 H=>zfsZ R x1 x2 x3 x4 x8 x10 H K) (λx1 x2 x3 x4 x8 x10 H=>zgvZ x1 x2 x3 x4 x8 x10 H K):=lpr6 (zvZ _ _) (λ_ _ _ _ _ _ _ _=>by kernel_rfl)
def zibZ (a0 a1 a2 a3 : AV) (H : AH) (K : KT) : Prop :=
bH (anew H a0) λv0 H1=>
bH (anew H1 (.agg [(I 0),nilSl])) λv2 H3=>
bO (ald true 2 H3 v0) λv4=>
bP (PCall Tryz.prog 159 [v4] H3) λv5=>
bO (aun .not v5) λv6=>
bG v6 false λw7=>
gO w7 (some a1) λv8=>
bG v6 false λw9=>
gO w9 (abI .lss v8 (I 0)) λv10=>
bO (apick v6 (B true) v10) λv11=>
bG v11 false λw12=>
gO w12 (some a2) λv13=>
bG v11 false λw14=>
gO w14 (abI .lss v13 (I 1)) λv15=>
bO (apick v11 (B true) v15) λv16=>
bG v16 false λw17=>
gO w17 (some a2) λv18=>
bG v16 false λw19=>
gO w19 (abI .gtr v18 (I 32768)) λv20=>
bO (apick v16 (B true) v20) λv21=>
bG v21 false λw22=>
gO w22 (some a1) λv23=>
bG v21 false λw24=>
gO w24 (some a2) λv25=>
bG v21 false λw26=>
gO w26 (abI .sub (I 1099511627776) v25) λv27=>
bG v21 false λw28=>
gO w28 (abI .gtr v23 v27) λv29=>
bO (apick v21 (B true) v29) λv30=>
bB v30 λt31=>bI t31 (
bO (abl [(I 0),nilSl] []) λv32=>
bS (ast 2 H3 v2 v32) λH33=>
bO (ald true 2 H33 v2) λv34=>
K (.tup [v34,(B false)]) H33)
 (bO (ald true 2 H3 v0) λv35=>
bC (BCall Tryz.prog 171 [v35] H3) λv36 H37=>
bS (ast 2 H37 v0 v36) λH38=>
bO (abI .quo a1 (I 8)) λv39=>
zgvZ a1 a2 a3 v0 v2 v39 H38 K)
theorem zoxZ {a0 a1 a2 a3 : AV} {H : AH} {K : KT} (h : zibZ a0 a1 a2 a3 H K) : OKP 135 [a0,a1,a2,a3] H K :=
 fok nofl pql zgtZ Tryz.func135 (by kernel_rfl) (by kernel_rfl) h
def zihZ : Nat→Option (List Bool):=kpOf [(10,mk 84 0 [1,2,3,6,8,9]),(18,mk 84 0 [1,2,3,6,8,9,10,11,12]),(15,mk 84 0 [1,2,3,6,8,9,10,11,12]),(7,mk 84 0 [1,2,3,6,8,9])]
def zuZ (p : List Bool) (n : Nat) : List AV→AH→Kf→Prop:=sCode Tryz.prog nofl pql none0 none0 zihZ (sub p (zhyZ Tryz.f136)) n
def zdhZ (R15 : RT) (R7 : RT) (x1 x2 x3 x6 x8 x9 x10 x11 x12 : AV) (H : AH) (K : KT) : Prop:=jn (mk 84 0 [1,2,3,6,8,9,10,11,12]) (zuZ [tT,tT,tT,fF,tT,fF,fF,tT,fF,fF,tT,tT,fF,tT,fF,fF,tT,tT] 22) [x1,x2,x3,x6,x8,x9,x10,x11,x12] H (kLp (mk 84 0 [1,2,3,6,8,9,10,11,12]) R15 (kBlk 2 (kSeq (zuZ [tT,tT,tT,fF,tT,fF,fF,tT,fF,fF,tT,tT,tT] 22) (kBlk 1 (kSeq (cutC (mk 84 0 [1,2,3,6,8,9]) (zuZ [tT,tT,tT,fF,tT,fF,fF,tT,tT] 23)) (kLp (mk 84 0 [1,2,3,6,8,9]) R7 (kBlk 0 (kSeq (zuZ [tT,tT,tT,tT] 23) (kRet Tryz.prog Tryz.f136.results.toList K)))))))))
def zdgZ (R7 : RT) (x1 x2 x3 x6 x8 x9 : AV) (H : AH) (K : KT) : Prop:=jn (mk 84 0 [1,2,3,6,8,9]) (zuZ [tT,tT,tT,fF,tT,fF,fF,tT,tT] 23) [x1,x2,x3,x6,x8,x9] H (kLp (mk 84 0 [1,2,3,6,8,9]) R7 (kBlk 0 (kSeq (zuZ [tT,tT,tT,tT] 23) (kRet Tryz.prog Tryz.f136.results.toList K))))
def zhmZ (R7 : RT) (x1 x2 x3 x6 x8 x9 x10 x11 x12 : AV) (H : AH) (K : KT) : Prop:=lp (mk 84 0 [1,2,3,6,8,9,10,11,12]) (zuZ [tT,tT,tT,fF,tT,fF,fF,tT,fF,fF,tT,tT,fF,tT,fF,fF] 16) [x1,x2,x3,x6,x8,x9,x10,x11,x12] H (kBlk 2 (kSeq (zuZ [tT,tT,tT,fF,tT,fF,fF,tT,fF,fF,tT,tT,tT] 22) (kBlk 1 (kSeq (cutC (mk 84 0 [1,2,3,6,8,9]) (zuZ [tT,tT,tT,fF,tT,fF,fF,tT,tT] 23)) (kLp (mk 84 0 [1,2,3,6,8,9]) R7 (kBlk 0 (kSeq (zuZ [tT,tT,tT,tT] 23) (kRet Tryz.prog Tryz.f136.results.toList K))))))))
def zimZ (x1 x2 x3 x6 x8 x9 : AV) (H : AH) (K : KT) : Prop:=lp (mk 84 0 [1,2,3,6,8,9]) (zuZ [tT,tT,tT,fF,tT,fF,fF] 8) [x1,x2,x3,x6,x8,x9] H (kBlk 0 (kSeq (zuZ [tT,tT,tT,tT] 23) (kRet Tryz.prog Tryz.f136.results.toList K)))
def zgqZ (R15 : RT) (R7 : RT) (x1 x2 x3 x6 x8 x9 x10 x11 x12 : AV) (H : AH) (K : KT) : Prop :=
bO (abI .add x12 (I 1)) λv0=>
R15 [x1,x2,x3,x6,x8,x9,x10,x11,v0] H
theorem znvZ (R15 : RT) (R7 : RT) (x1 x2 x3 x6 x8 x9 x10 x11 x12 : AV) (H : AH) (K : KT) : zdhZ R15 R7 x1 x2 x3 x6 x8 x9 x10 x11 x12 H K=zgqZ R15 R7 x1 x2 x3 x6 x8 x9 x10 x11 x12 H K:=(jn_eq _ _ _ _ _).trans (by kernel_rfl)
def zgpZ (R7 : RT) (x1 x2 x3 x6 x8 x9 : AV) (H : AH) (K : KT) : Prop :=
bO (abI .add x9 (I 1)) λv0=>
R7 [x1,x2,x3,x6,x8,v0] H
theorem zntZ (R7 : RT) (x1 x2 x3 x6 x8 x9 : AV) (H : AH) (K : KT) : zdgZ R7 x1 x2 x3 x6 x8 x9 H K=zgpZ R7 x1 x2 x3 x6 x8 x9 H K:=(jn_eq _ _ _ _ _).trans (by kernel_rfl)
def zgrZ (R7 : RT) (R15 : RT) (x1 x2 x3 x6 x8 x9 x10 x11 x12 : AV) (H : AH) (K : KT) : Prop :=
bO (abI .lss x12 (I 8)) λv0=>
bB v0 λt1=>bI t1 (
bO (zhZ 0 x10) λv2=>
bO (ald false 1 H v2) λv3=>
bO (abI .mul v3 (I 8)) λv4=>
bO (abI .add v4 x12) λv5=>
bO (abI .geq v5 x1) λv6=>
bG v6 true λw7=>
gO w7 (some v5) λv8=>
bG v6 true λw9=>
gO w9 (some x1) λv10=>
bG v6 true λw11=>
gO w11 (some x2) λv12=>
bG v6 true λw13=>
gO w13 (abI .add v10 v12) λv14=>
bG v6 true λw15=>
gO w15 (abI .lss v8 v14) λv16=>
bO (apick v6 v16 (B false)) λv17=>
bB v17 λt18=>bI t18 (
bO (zhZ 1 x10) λv19=>
bO (aixA 8 1 v19 x12) λv20=>
bS (ast 1 H v20 (.lit (.int .u8 0))) λH21=>
bO (abI .add x11 (I 1)) λv22=>
zdhZ R15 R7 x1 x2 x3 x6 x8 x9 x10 v22 x12 H21 K)
 (zdhZ R15 R7 x1 x2 x3 x6 x8 x9 x10 x11 x12 H K))
 (bO (abI .lss x11 (I 8)) λv23=>
bB v23 λt24=>bI t24 (
bO (zhZ 1 x8) λv25=>
bO (ald false 1 H v25) λv26=>
bO (ald true 9 H x10) λv27=>
bH (absl H 9 1 (zrow [(I 0),(.lit (.int .u8 0)),(.lit (.int .u8 0)),(.lit (.int .u8 0)),(.lit (.int .u8 0)),(.lit (.int .u8 0)),(.lit (.int .u8 0)),(.lit (.int .u8 0)),(.lit (.int .u8 0))] 1) [(0,9,v27)]) λv28 H29=>
bH (aap 9 16 H29 v26 v28) λv30 H31=>
bO (zhZ 1 x8) λv32=>
bS (ast 1 H31 v32 v30) λH33=>
zdgZ R7 x1 x2 x3 x6 x8 x9 H33 K)
 (zdgZ R7 x1 x2 x3 x6 x8 x9 H K))
theorem zmfZ (R7 : RT) {K : KT} : RL9 (λR x1 x2 x3 x6 x8 x9 x10 x11 x12 H=>zgrZ R7 R x1 x2 x3 x6 x8 x9 x10 x11 x12 H K) (λx1 x2 x3 x6 x8 x9 x10 x11 x12 H=>zhmZ R7 x1 x2 x3 x6 x8 x9 x10 x11 x12 H K):=lpr9 (zvZ _ _) (λ_ _ _ _ _ _ _ _ _ _ _=>by kernel_rfl)
def zhcZ (R7 : RT) (x1 x2 x3 x6 x8 x9 : AV) (H : AH) (K : KT) : Prop :=
bO (zhZ 1 x3) λv0=>
bO (ald false 1 H v0) λv1=>
bO (alnS v1) λv2=>
bO (abI .lss x9 v2) λv3=>
bB v3 λt4=>bI t4 (
bO (zhZ 1 x3) λv5=>
bO (ald false 1 H v5) λv6=>
bO (aixS 9 v6 x9) λv7=>
bO (ald true 9 H v7) λv8=>
bH (anew H (.agg [(I 0),(.lit (.int .u8 0)),(.lit (.int .u8 0)),(.lit (.int .u8 0)),(.lit (.int .u8 0)),(.lit (.int .u8 0)),(.lit (.int .u8 0)),(.lit (.int .u8 0)),(.lit (.int .u8 0))])) λv9 H10=>
bS (ast 9 H10 v9 v8) λH11=>
zhmZ R7 x1 x2 x3 x6 x8 x9 v9 (I 0) (I 0) H11 K)
 (bO (ald true 2 H x8) λv12=>
bS (ast 2 H x6 v12) λH13=>
bO (ald true 2 H13 x6) λv14=>
K (.tup [v14,(B true)]) H13)
theorem znjZ {K : KT} : RL6 (λR x1 x2 x3 x6 x8 x9 H=>zhcZ R x1 x2 x3 x6 x8 x9 H K) (λx1 x2 x3 x6 x8 x9 H=>zimZ x1 x2 x3 x6 x8 x9 H K):=lpr6 (zvZ _ _) (λ_ _ _ _ _ _ _ _=>by kernel_rfl)
def zlvZ (a0 a1 a2 : AV) (H : AH) (K : KT) : Prop :=
bH (anew H a0) λv0 H1=>
bH (anew H1 (.agg [(I 0),nilSl])) λv2 H3=>
bO (ald true 2 H3 v0) λv4=>
bP (PCall Tryz.prog 159 [v4] H3) λv5=>
bO (aun .not v5) λv6=>
bG v6 false λw7=>
gO w7 (some a1) λv8=>
bG v6 false λw9=>
gO w9 (abI .lss v8 (I 0)) λv10=>
bO (apick v6 (B true) v10) λv11=>
bG v11 false λw12=>
gO w12 (some a2) λv13=>
bG v11 false λw14=>
gO w14 (abI .lss v13 (I 1)) λv15=>
bO (apick v11 (B true) v15) λv16=>
bG v16 false λw17=>
gO w17 (some a2) λv18=>
bG v16 false λw19=>
gO w19 (abI .gtr v18 (I 1099511627776)) λv20=>
bO (apick v16 (B true) v20) λv21=>
bG v21 false λw22=>
gO w22 (some a1) λv23=>
bG v21 false λw24=>
gO w24 (some a2) λv25=>
bG v21 false λw26=>
gO w26 (abI .sub (I 1099511627776) v25) λv27=>
bG v21 false λw28=>
gO w28 (abI .gtr v23 v27) λv29=>
bO (apick v21 (B true) v29) λv30=>
bB v30 λt31=>bI t31 (
bO (abl [(I 0),nilSl] []) λv32=>
bS (ast 2 H3 v2 v32) λH33=>
bO (ald true 2 H33 v2) λv34=>
K (.tup [v34,(B false)]) H33)
 (bO (zhZ 0 v0) λv35=>
bO (ald false 1 H3 v35) λv36=>
bO (abl [(I 0),nilSl] [(0,1,v36)]) λv37=>
bH (anew H3 (.agg [(I 0),nilSl])) λv38 H39=>
bS (ast 2 H39 v38 v37) λH40=>
zimZ a1 a2 v0 v2 v38 (I 0) H40 K)
theorem zscZ {a0 a1 a2 : AV} {H : AH} {K : KT} (h : zlvZ a0 a1 a2 H K) : OKP 136 [a0,a1,a2] H K :=
 fok nofl pql zihZ Tryz.func136 (by kernel_rfl) (by kernel_rfl) h
def extent_Fits (a0 a1 : AV) (H : AH) (K : KT) : Prop :=
bO (abI .geq a0 (I 0)) λv0=>
bG v0 true λw1=>
gO w1 (some a1) λv2=>
bG v0 true λw3=>
gO w3 (abI .leq v2 (I 4096)) λv4=>
bO (apick v0 v4 (B false)) λv5=>
bG v5 true λw6=>
gO w6 (some a0) λv7=>
bG v5 true λw8=>
gO w8 (some a1) λv9=>
bG v5 true λw10=>
gO w10 (abI .sub (I 1099511627776) v9) λv11=>
bG v5 true λw12=>
gO w12 (abI .leq v7 v11) λv13=>
bO (apick v5 v13 (B false)) λv14=>
K v14 H
theorem extent_Fits_ok {a0 a1 : AV} {H : AH} {K : KT} (h : extent_Fits a0 a1 H K) : OKP 65 [a0,a1] H K :=
 fok nofl pql nokp Tryz.func65 (by kernel_rfl) (by kernel_rfl) h
def extent_copied_fl : zbcqZ:=flOf [(1,[(1,some 4)])]
def extent_copied (a0 : AV) (H : AH) (K : KT) : Prop :=
bH (anew H a0) λv0 H1=>
bH (anew H1 (.agg [(I 0),nilSl])) λv2 H3=>
bO (zhZ 0 v0) λv4=>
bO (ald false 1 H3 v4) λv5=>
bO (zhZ 1 v0) λv6=>
bO (ald false 1 H3 v6) λv7=>
bC (BCall Tryz.prog 150 [v7] H3) λv8 H9=>
bO (abl [(I 0),nilSl] [(0,1,v5),(1,1,v8)]) λv10=>
bS (ast 2 H9 v2 v10) λH11=>
(ald false 1 H9 v4=some v5) ∧
bO (ald true 2 H11 v2) λv12=>
K v12 H11
theorem extent_copied_ok {a0 : AV} {H : AH} {K : KT} (h : extent_copied a0 H K) : OKP 94 [a0] H K :=
 fok extent_copied_fl pql nokp Tryz.func94 (by kernel_rfl) (by kernel_rfl) h
def off_Parts_kp : Nat→Option (List Bool):=kpOf [(6,mk 48 0 [1,2,5])]
def off_Parts_c (p : List Bool) (n : Nat) : List AV→AH→Kf→Prop:=sCode Tryz.prog nofl pql none0 none0 off_Parts_kp (sub p (zhyZ Tryz.f66)) n
def off_Parts_L6 (x1 x2 x5 : AV) (H : AH) (K : KT) : Prop:=lp (mk 48 0 [1,2,5]) (off_Parts_c [tT,tT,tT,fF,fF,fF] 7) [x1,x2,x5] H (kBlk 0 (kSeq (off_Parts_c [tT,tT,tT,tT] 11) (kRet Tryz.prog Tryz.f66.results.toList K)))
def zbewZ (R6 : RT) (x1 x2 x5 : AV) (H : AH) (K : KT) : Prop :=
bO (zhZ 1 x2) λv0=>
bO (ald false 1 H v0) λv1=>
bO (abI .gtr v1 (I 0)) λv2=>
bB v2 λt3=>bI t3 (
bO (zhZ 1 x2) λv4=>
bO (ald false 1 H v4) λv5=>
bO (zhZ 0 x2) λv6=>
bO (ald false 1 H v6) λv7=>
bO (abI .rem v7 x1) λv8=>
bO (abI .sub x1 v8) λv9=>
bO (amm imn [v5,v9]) λv10=>
bO (zhZ 0 x2) λv11=>
bO (ald false 1 H v11) λv12=>
bO (abl [(I 0),(I 0)] [(0,1,v12),(1,1,v10)]) λv13=>
bH (absl H 2 1 (zrow [(I 0),(I 0)] 1) [(0,2,v13)]) λv14 H15=>
bH (aap 2 16 H15 x5 v14) λv16 H17=>
bO (zhZ 0 x2) λv18=>
bO (ald false 1 H17 v18) λv19=>
bO (abI .add v19 v10) λv20=>
bO (zhZ 1 x2) λv21=>
bO (ald false 1 H17 v21) λv22=>
bO (abI .sub v22 v10) λv23=>
bO (abl [(I 0),(I 0)] [(0,1,v20),(1,1,v23)]) λv24=>
bS (ast 2 H17 x2 v24) λH25=>
R6 [x1,x2,v16] H25)
 (K x5 H)
theorem off_Parts_L6_rule {K : KT} : RL3 (λR x1 x2 x5 H=>zbewZ R x1 x2 x5 H K) (λx1 x2 x5 H=>off_Parts_L6 x1 x2 x5 H K):=lpr3 (zvZ _ _) (λ_ _ _ _ _=>by kernel_rfl)
def off_Parts (a0 a1 : AV) (H : AH) (K : KT) : Prop :=
bH (anew H a0) λv0 H1=>
bO (ald true 2 H1 v0) λv2=>
bP (PCall Tryz.prog 118 [v2] H1) λv3=>
bO (aun .not v3) λv4=>
bG v4 false λw5=>
gO w5 (zhZ 1 v0) λv6=>
bG v4 false λw7=>
gO w7 (ald false 1 H1 v6) λv8=>
bG v4 false λw9=>
gO w9 (abI .gtr v8 (I 4096)) λv10=>
bO (apick v4 (B true) v10) λv11=>
bG v11 false λw12=>
gO w12 (some a1) λv13=>
bG v11 false λw14=>
gO w14 (abI .lss v13 (I 1)) λv15=>
bO (apick v11 (B true) v15) λv16=>
bB v16 λt17=>bI t17 (
K nilSl H1)
 (off_Parts_L6 a1 v0 nilSl H1 K)
theorem off_Parts_ok {a0 a1 : AV} {H : AH} {K : KT} (h : off_Parts a0 a1 H K) : OKP 66 [a0,a1] H K :=
 fok nofl pql off_Parts_kp Tryz.func66 (by kernel_rfl) (by kernel_rfl) h
def zbefZ : Nat→Option (List Bool):=kpOf [(2,mk 31 0 [5])]
def extent_need_c (p : List Bool) (n : Nat) : List AV→AH→Kf→Prop:=sCode Tryz.prog nofl pql none0 none0 zbefZ (sub p (zhyZ Tryz.f95)) n
def zxxZ (x5 : AV) (H : AH) (K : KT) : Prop:=jn (mk 31 0 [5]) (extent_need_c [tT,tT,tT] 4) [x5] H (kRet Tryz.prog Tryz.f95.results.toList K)
def zsgZ (x5 : AV) (H : AH) (K : KT) : Prop :=
K x5 H
theorem zxyZ (x5 : AV) (H : AH) (K : KT) : zxxZ x5 H K=zsgZ x5 H K:=(jn_eq _ _ _ _ _).trans (by kernel_rfl)
def extent_need (a0 a1 : AV) (H : AH) (K : KT) : Prop :=
bO (zgZ a0) λv0=>
bO (zhZ 1 v0) λv1=>
bO (ald false 1 H v1) λv2=>
bP (PCall Tryz.prog 152 [v2,a1] H) λv3=>
bO (zjZ v3 0) λv4=>
bO (zjZ v3 1) λv5=>
bO (aun .not v5) λv6=>
bB v6 λt7=>bI t7 (
bO (zgZ a0) λv8=>
bO (zhZ 1 v8) λv9=>
bO (ald false 1 H v9) λv10=>
bO (abl [(I 0),(.lit (.int .u8 0)),(.lit (.int .u8 0)),(.lit (.int .u8 0)),(.lit (.int .u8 0)),(.lit (.int .u8 0)),(.lit (.int .u8 0)),(.lit (.int .u8 0)),(.lit (.int .u8 0))] [(0,1,a1)]) λv11=>
bH (absl H 9 1 (zrow [(I 0),(.lit (.int .u8 0)),(.lit (.int .u8 0)),(.lit (.int .u8 0)),(.lit (.int .u8 0)),(.lit (.int .u8 0)),(.lit (.int .u8 0)),(.lit (.int .u8 0)),(.lit (.int .u8 0))] 1) [(0,9,v11)]) λv12 H13=>
bC (BCall Tryz.prog 153 [v10,v4,v12] H13) λv14 H15=>
bO (zgZ a0) λv16=>
bO (zhZ 1 v16) λv17=>
bS (ast 1 H15 v17 v14) λH18=>
zxxZ v4 H18 K)
 (zxxZ v4 H K)
theorem extent_need_ok {a0 a1 : AV} {H : AH} {K : KT} (h : extent_need a0 a1 H K) : OKP 95 [a0,a1] H K :=
 fok nofl pql zbefZ Tryz.func95 (by kernel_rfl) (by kernel_rfl) h
def extent_place (a0 a1 : AV) (H : AH) (K : KT) : Prop :=
bP (PCall Tryz.prog 179 [a0,a1,(.fn (.func 180) [] [])] H) λv0=>
bO (zjZ v0 0) λv1=>
bO (zjZ v0 1) λv2=>
K (.tup [v1,v2]) H
theorem extent_place_ok {a0 a1 : AV} {H : AH} {K : KT} (h : extent_place a0 a1 H K) : OKP 152 [a0,a1] H K :=
 fok nofl pql nokp Tryz.func152 (by kernel_rfl) (by kernel_rfl) h
def off_Meet (a0 a1 : AV) (H : AH) (K : KT) : Prop :=
bH (anew H a0) λv0 H1=>
bH (anew H1 a1) λv2 H3=>
bH (anew H3 (.agg [(I 0),(I 0)])) λv4 H5=>
bO (ald true 2 H5 v0) λv6=>
bP (PCall Tryz.prog 118 [v6] H5) λv7=>
bO (aun .not v7) λv8=>
bG v8 false λw9=>
gO w9 (ald true 2 H5 v2) λv10=>
bG v8 false λw11=>
gP w11 (PCall Tryz.prog 118 [v10] H5) λv12=>
bG v8 false λw13=>
gO w13 (aun .not v12) λv14=>
bO (apick v8 (B true) v14) λv15=>
bB v15 λt16=>bI t16 (
bO (abl [(I 0),(I 0)] []) λv17=>
bS (ast 2 H5 v4 v17) λH18=>
bO (ald true 2 H18 v4) λv19=>
K v19 H18)
 (bO (zhZ 0 v0) λv20=>
bO (ald false 1 H5 v20) λv21=>
bO (zhZ 0 v2) λv22=>
bO (ald false 1 H5 v22) λv23=>
bO (amm imx [v21,v23]) λv24=>
bO (zhZ 0 v0) λv25=>
bO (ald false 1 H5 v25) λv26=>
bO (zhZ 1 v0) λv27=>
bO (ald false 1 H5 v27) λv28=>
bO (abI .add v26 v28) λv29=>
bO (zhZ 0 v2) λv30=>
bO (ald false 1 H5 v30) λv31=>
bO (zhZ 1 v2) λv32=>
bO (ald false 1 H5 v32) λv33=>
bO (abI .add v31 v33) λv34=>
bO (amm imn [v29,v34]) λv35=>
bO (abI .geq v24 v35) λv36=>
bB v36 λt37=>bI t37 (
bO (abl [(I 0),(I 0)] []) λv38=>
bS (ast 2 H5 v4 v38) λH39=>
bO (ald true 2 H39 v4) λv40=>
K v40 H39)
 (bO (abI .sub v35 v24) λv41=>
bO (abl [(I 0),(I 0)] [(0,1,v24),(1,1,v41)]) λv42=>
bS (ast 2 H5 v4 v42) λH43=>
bO (ald true 2 H43 v4) λv44=>
K v44 H43))
theorem off_Meet_ok {a0 a1 : AV} {H : AH} {K : KT} (h : off_Meet a0 a1 H K) : OKP 121 [a0,a1] H K :=
 fok nofl pql nokp Tryz.func121 (by kernel_rfl) (by kernel_rfl) h
def extent_whole (a0 : AV) (H : AH) (K : KT) : Prop :=
bH (anew H (.agg [(I 0),(I 0)])) λv0 H1=>
bO (abI .mul a0 (I 8)) λv2=>
bO (abl [(I 0),(I 0)] [(0,1,v2),(1,1,(I 8))]) λv3=>
bS (ast 2 H1 v0 v3) λH4=>
bO (ald true 2 H4 v0) λv5=>
K v5 H4
theorem extent_whole_ok {a0 : AV} {H : AH} {K : KT} (h : extent_whole a0 H K) : OKP 122 [a0] H K :=
 fok nofl pql nokp Tryz.func122 (by kernel_rfl) (by kernel_rfl) h
def zbcoZ : Nat→Option (List Bool):=kpOf [(3,mk 25 0 [1,2,8,9])]
def zbfaZ (p : List Bool) (n : Nat) : List AV→AH→Kf→Prop:=sCode Tryz.prog nofl pql none0 none0 zbcoZ (sub p (zhyZ Tryz.f151)) n
def zbbcZ (x1 x2 x8 x9 : AV) (H : AH) (K : KT) : Prop:=lp (mk 25 0 [1,2,8,9]) (zbfaZ [tT,fF,tT,fF,fF] 4) [x1,x2,x8,x9] H (kBlk 0 (kSeq (zbfaZ [tT,tT] 10) (kRet Tryz.prog Tryz.f151.results.toList K)))
def zxbZ (R3 : RT) (x1 x2 x8 x9 : AV) (H : AH) (K : KT) : Prop :=
bO (abI .lss x9 (I 8)) λv0=>
bB v0 λt1=>bI t1 (
bO (aivA false 1 8 1 x8 x9) λv2=>
bO (abI .neq v2 (.lit (.int .u8 0))) λv3=>
bG v3 true λw4=>
gO w4 (zhZ 0 x2) λv5=>
bG v3 true λw6=>
gO w6 (ald false 1 H v5) λv7=>
bG v3 true λw8=>
gO w8 (abI .mul v7 (I 8)) λv9=>
bG v3 true λw10=>
gO w10 (some x9) λv11=>
bG v3 true λw12=>
gO w12 (abI .add v9 v11) λv13=>
bG v3 true λw14=>
gO w14 (some x1) λv15=>
bG v3 true λw16=>
gO w16 (abI .geq v13 v15) λv17=>
bO (apick v3 v17 (B false)) λv18=>
bB v18 λt19=>bI t19 (
K (B false) H)
 (bO (abI .add x9 (I 1)) λv20=>
R3 [x1,x2,x8,v20] H))
 (K (B true) H)
theorem zbbkZ {K : KT} : RL4 (λR x1 x2 x8 x9 H=>zxbZ R x1 x2 x8 x9 H K) (λx1 x2 x8 x9 H=>zbbcZ x1 x2 x8 x9 H K):=lpr4 (zvZ _ _) (λ_ _ _ _ _ _=>by kernel_rfl)
def extent_clean (a0 a1 : AV) (H : AH) (K : KT) : Prop :=
bH (anew H a0) λv0 H1=>
bO (zhZ 1 v0) λv2=>
bO (ald true 8 H1 v2) λv3=>
zbbcZ a1 v0 v3 (I 0) H1 K
theorem extent_clean_ok {a0 a1 : AV} {H : AH} {K : KT} (h : extent_clean a0 a1 H K) : OKP 151 [a0,a1] H K :=
 fok nofl pql zbcoZ Tryz.func151 (by kernel_rfl) (by kernel_rfl) h
def zbahZ : zbcqZ:=flOf [(1,[(1,some 4)])]
def zvjZ (a0 : AV) (H : AH) (K : KT) : Prop :=
bH (anew H a0) λv0 H1=>
bH (anew H1 (.agg [(I 0),nilSl])) λv2 H3=>
bO (zhZ 0 v0) λv4=>
bO (ald false 1 H3 v4) λv5=>
bO (zhZ 1 v0) λv6=>
bO (ald false 1 H3 v6) λv7=>
bH (aap 9 16 H3 nilSl v7) λv8 H9=>
bO (abl [(I 0),nilSl] [(0,1,v5),(1,1,v8)]) λv10=>
bS (ast 2 H9 v2 v10) λH11=>
(ald false 1 H9 v4=some v5) ∧
bO (ald true 2 H11 v2) λv12=>
K v12 H11
theorem zbaeZ {a0 : AV} {H : AH} {K : KT} (h : zvjZ a0 H K) : OKP 171 [a0] H K :=
 fok zbahZ pql nokp Tryz.func171 (by kernel_rfl) (by kernel_rfl) h
def ztaZ : Nat→Option (List Bool):=kpOf [(3,mk 72 0 [0,1,5])]
def zwkZ (p : List Bool) (n : Nat) : List AV→AH→Kf→Prop:=sCode Tryz.prog nofl pql none0 none0 ztaZ (sub p (zhyZ Tryz.f172)) n
def zsmZ (x0 x1 x5 : AV) (H : AH) (K : KT) : Prop:=lp (mk 72 0 [0,1,5]) (zwkZ [tT,tT,fF,fF,fF] 4) [x0,x1,x5] H (kBlk 0 (kSeq (zwkZ [tT,tT,tT] 6) (kRet Tryz.prog Tryz.f172.results.toList K)))
def zpgZ (R3 : RT) (x0 x1 x5 : AV) (H : AH) (K : KT) : Prop :=
bO (zgZ x0) λv0=>
bO (zhZ 1 v0) λv1=>
bO (ald false 1 H v1) λv2=>
bO (alnS v2) λv3=>
bO (abI .lss x5 v3) λv4=>
bG v4 true λw5=>
gO w5 (some x0) λv6=>
bG v4 true λw7=>
gO w7 (zgZ v6) λv8=>
bG v4 true λw9=>
gO w9 (zhZ 1 v8) λv10=>
bG v4 true λw11=>
gO w11 (ald false 1 H v10) λv12=>
bG v4 true λw13=>
gO w13 (some x5) λv14=>
bG v4 true λw15=>
gO w15 (aixS 9 v12 v14) λv16=>
bG v4 true λw17=>
gO w17 (zhZ 0 v16) λv18=>
bG v4 true λw19=>
gO w19 (ald false 1 H v18) λv20=>
bG v4 true λw21=>
gO w21 (some x1) λv22=>
bG v4 true λw23=>
gO w23 (abI .lss v20 v22) λv24=>
bO (apick v4 v24 (B false)) λv25=>
bB v25 λt26=>bI t26 (
bO (abI .add x5 (I 1)) λv27=>
R3 [x0,x1,v27] H)
 (bO (zgZ x0) λv28=>
bO (zhZ 1 v28) λv29=>
bO (ald false 1 H v29) λv30=>
bO (alnS v30) λv31=>
bO (abI .lss x5 v31) λv32=>
bG v32 true λw33=>
gO w33 (some x0) λv34=>
bG v32 true λw35=>
gO w35 (zgZ v34) λv36=>
bG v32 true λw37=>
gO w37 (zhZ 1 v36) λv38=>
bG v32 true λw39=>
gO w39 (ald false 1 H v38) λv40=>
bG v32 true λw41=>
gO w41 (some x5) λv42=>
bG v32 true λw43=>
gO w43 (aixS 9 v40 v42) λv44=>
bG v32 true λw45=>
gO w45 (zhZ 0 v44) λv46=>
bG v32 true λw47=>
gO w47 (ald false 1 H v46) λv48=>
bG v32 true λw49=>
gO w49 (some x1) λv50=>
bG v32 true λw51=>
gO w51 (abI .eql v48 v50) λv52=>
bO (apick v32 v52 (B false)) λv53=>
bB v53 λt54=>bI t54 (
K x5 H)
 (bO (zgZ x0) λv55=>
bO (zhZ 1 v55) λv56=>
bO (ald false 1 H v56) λv57=>
bO (aslS 9 v57 none (some x5) none) λv58=>
bH (aap 9 16 H nilSl v58) λv59 H60=>
bO (abl [(I 0),(.lit (.int .u8 0)),(.lit (.int .u8 0)),(.lit (.int .u8 0)),(.lit (.int .u8 0)),(.lit (.int .u8 0)),(.lit (.int .u8 0)),(.lit (.int .u8 0)),(.lit (.int .u8 0))] [(0,1,x1)]) λv61=>
bH (absl H60 9 1 (zrow [(I 0),(.lit (.int .u8 0)),(.lit (.int .u8 0)),(.lit (.int .u8 0)),(.lit (.int .u8 0)),(.lit (.int .u8 0)),(.lit (.int .u8 0)),(.lit (.int .u8 0)),(.lit (.int .u8 0))] 1) [(0,9,v61)]) λv62 H63=>
bH (aap 9 16 H63 v59 v62) λv64 H65=>
bO (zgZ x0) λv66=>
bO (zhZ 1 v66) λv67=>
bO (ald false 1 H65 v67) λv68=>
bO (aslS 9 v68 (some x5) none none) λv69=>
bH (aap 9 16 H65 v64 v69) λv70 H71=>
bO (zgZ x0) λv72=>
bO (zhZ 1 v72) λv73=>
bS (ast 1 H71 v73 v70) λH74=>
K x5 H74))
theorem zwmZ {K : KT} : RL3 (λR x0 x1 x5 H=>zpgZ R x0 x1 x5 H K) (λx0 x1 x5 H=>zsmZ x0 x1 x5 H K):=lpr3 (zvZ _ _) (λ_ _ _ _ _=>by kernel_rfl)
def zzxZ (a0 a1 : AV) (H : AH) (K : KT) : Prop :=
zsmZ a0 a1 (I 0) H K
theorem zbdaZ {a0 a1 : AV} {H : AH} {K : KT} (h : zzxZ a0 a1 H K) : OKP 172 [a0,a1] H K :=
 fok nofl pql ztaZ Tryz.func172 (by kernel_rfl) (by kernel_rfl) h
def zsvZ : Nat→Option (List Bool):=kpOf [(3,mk 22 0 [1,2,5])]
def zvdZ (p : List Bool) (n : Nat) : List AV→AH→Kf→Prop:=sCode Tryz.prog nofl pql none0 none0 zsvZ (sub p (zhyZ Tryz.f133)) n
def zswZ (x1 x2 x5 : AV) (H : AH) (K : KT) : Prop:=lp (mk 22 0 [1,2,5]) (zvdZ [tT,fF,tT,fF,fF] 4) [x1,x2,x5] H (kBlk 0 (kSeq (zvdZ [tT,tT] 9) (kRet Tryz.prog Tryz.f133.results.toList K)))
def zpdZ (R3 : RT) (x1 x2 x5 : AV) (H : AH) (K : KT) : Prop :=
bO (zhZ 1 x2) λv0=>
bO (ald false 1 H v0) λv1=>
bO (alnS v1) λv2=>
bO (abI .lss x5 v2) λv3=>
bB v3 λt4=>bI t4 (
bO (zhZ 1 x2) λv5=>
bO (ald false 1 H v5) λv6=>
bO (aixS 9 v6 x5) λv7=>
bO (zhZ 0 v7) λv8=>
bO (ald false 1 H v8) λv9=>
bO (abI .eql v9 x1) λv10=>
bB v10 λt11=>bI t11 (
K x5 H)
 (bO (abI .add x5 (I 1)) λv12=>
R3 [x1,x2,v12] H))
 (K (I (-1)) H)
theorem zwlZ {K : KT} : RL3 (λR x1 x2 x5 H=>zpdZ R x1 x2 x5 H K) (λx1 x2 x5 H=>zswZ x1 x2 x5 H K):=lpr3 (zvZ _ _) (λ_ _ _ _ _=>by kernel_rfl)
def zbadZ (a0 a1 : AV) (H : AH) (K : KT) : Prop :=
bH (anew H a0) λv0 H1=>
zswZ a1 v0 (I 0) H1 K
theorem zbdgZ {a0 a1 : AV} {H : AH} {K : KT} (h : zbadZ a0 a1 H K) : OKP 133 [a0,a1] H K :=
 fok nofl pql zsvZ Tryz.func133 (by kernel_rfl) (by kernel_rfl) h
def zfwZ : Nat→Option (List Bool):=kpOf [(6,mk 26 0 [0,1,12,13])]
def zghZ (p : List Bool) (n : Nat) : List AV→AH→Kf→Prop:=sCode Tryz.prog nofl pql none0 none0 zfwZ (sub p (zhyZ Tryz.f96)) n
def zftZ (x0 x1 x12 x13 : AV) (H : AH) (K : KT) : Prop:=lp (mk 26 0 [0,1,12,13]) (zghZ [tT,tT,fF,tT,fF,fF] 7) [x0,x1,x12,x13] H (kBlk 0 (kSeq (zghZ [tT,tT,tT] 13) (kRet Tryz.prog Tryz.f96.results.toList K)))
def zezZ (R6 : RT) (x0 x1 x12 x13 : AV) (H : AH) (K : KT) : Prop :=
bO (abI .lss x13 x12) λv0=>
bB v0 λt1=>bI t1 (
bO (aixS 9 x0 x13) λv2=>
bO (ald true 9 H v2) λv3=>
bO (aixS 9 x1 x13) λv4=>
bO (ald true 9 H v4) λv5=>
bO (abin Tryz.prog .neq 139 v3 v5) λv6=>
bB v6 λt7=>bI t7 (
K (B false) H)
 (bO (abI .add x13 (I 1)) λv8=>
R6 [x0,x1,x12,v8] H))
 (K (B true) H)
theorem ziyZ {K : KT} : RL4 (λR x0 x1 x12 x13 H=>zezZ R x0 x1 x12 x13 H K) (λx0 x1 x12 x13 H=>zftZ x0 x1 x12 x13 H K):=lpr4 (zvZ _ _) (λ_ _ _ _ _ _=>by kernel_rfl)
def zgzZ (a0 a1 : AV) (H : AH) (K : KT) : Prop :=
bO (alnS a0) λv0=>
bO (alnS a1) λv1=>
bO (abI .neq v0 v1) λv2=>
bB v2 λt3=>bI t3 (
K (B false) H)
 (bO (alnS a0) λv4=>
zftZ a0 a1 v4 (I 0) H K)
theorem zmzZ {a0 a1 : AV} {H : AH} {K : KT} (h : zgzZ a0 a1 H K) : OKP 96 [a0,a1] H K :=
 fok nofl pql zfwZ Tryz.func96 (by kernel_rfl) (by kernel_rfl) h
def zbenZ (a0 a1 : AV) (H : AH) (K : KT) : Prop :=
bH (anew H a0) λv0 H1=>
bO (ald true 2 H1 v0) λv2=>
bO (abI .quo a1 (I 8)) λv3=>
bP (PCall Tryz.prog 133 [v2,v3] H1) λv4=>
bO (abI .lss v4 (I 0)) λv5=>
bB v5 λt6=>bI t6 (
K (.lit (.int .u8 0)) H1)
 (bO (zhZ 1 v0) λv7=>
bO (ald false 1 H1 v7) λv8=>
bO (abI .rem a1 (I 8)) λv9=>
bO (aixS 9 v8 v4) λv10=>
bO (zhZ 1 v10) λv11=>
bO (aixA 8 1 v11 v9) λv12=>
bO (ald false 1 H1 v12) λv13=>
K v13 H1)
theorem salvorref11_At_ok {a0 a1 : AV} {H : AH} {K : KT} (h : zbenZ a0 a1 H K) : OKP 160 [a0,a1] H K :=
 fok nofl pql nokp Tryz.func160 (by kernel_rfl) (by kernel_rfl) h
def extent_span (a0 a1 : AV) (H : AH) (K : KT) : Prop :=
bO (abI .geq a0 (I 0)) λv0=>
bG v0 true λw1=>
gO w1 (some a1) λv2=>
bG v0 true λw3=>
gO w3 (abI .geq v2 (I 1)) λv4=>
bO (apick v0 v4 (B false)) λv5=>
bG v5 true λw6=>
gO w6 (some a1) λv7=>
bG v5 true λw8=>
gO w8 (abI .leq v7 (I 1099511627776)) λv9=>
bO (apick v5 v9 (B false)) λv10=>
bG v10 true λw11=>
gO w11 (some a0) λv12=>
bG v10 true λw13=>
gO w13 (some a1) λv14=>
bG v10 true λw15=>
gO w15 (abI .sub (I 1099511627776) v14) λv16=>
bG v10 true λw17=>
gO w17 (abI .leq v12 v16) λv18=>
bO (apick v10 v18 (B false)) λv19=>
K v19 H
theorem extent_span_ok {a0 a1 : AV} {H : AH} {K : KT} (h : extent_span a0 a1 H K) : OKP 127 [a0,a1] H K :=
 fok nofl pql nokp Tryz.func127 (by kernel_rfl) (by kernel_rfl) h
def zegZ : Nat→Option (List Bool):=kpOf [(10,mk 42 0 [0,1,5,6]),(7,mk 42 0 [0,1,5,6])]
def zbwZ (p : List Bool) (n : Nat) : List AV→AH→Kf→Prop:=sCode Tryz.prog nofl pql none0 none0 zegZ (sub p (zhyZ Tryz.f124)) n
def zciZ (R7 : RT) (x0 x1 x5 x6 : AV) (H : AH) (K : KT) : Prop:=jn (mk 42 0 [0,1,5,6]) (zbwZ [tT,tT,tT,fF,tT,fF,fF,tT,tT] 14) [x0,x1,x5,x6] H (kLp (mk 42 0 [0,1,5,6]) R7 (kBlk 0 (kSeq (zbwZ [tT,tT,tT,tT] 14) (kRet Tryz.prog Tryz.f124.results.toList K))))
def zehZ (x0 x1 x5 x6 : AV) (H : AH) (K : KT) : Prop:=lp (mk 42 0 [0,1,5,6]) (zbwZ [tT,tT,tT,fF,tT,fF,fF] 8) [x0,x1,x5,x6] H (kBlk 0 (kSeq (zbwZ [tT,tT,tT,tT] 14) (kRet Tryz.prog Tryz.f124.results.toList K)))
def zceZ (R7 : RT) (x0 x1 x5 x6 : AV) (H : AH) (K : KT) : Prop :=
bO (abI .add x6 (I 1)) λv0=>
R7 [x0,x1,x5,v0] H
theorem zdpZ (R7 : RT) (x0 x1 x5 x6 : AV) (H : AH) (K : KT) : zciZ R7 x0 x1 x5 x6 H K=zceZ R7 x0 x1 x5 x6 H K:=(jn_eq _ _ _ _ _).trans (by kernel_rfl)
def zdwZ (R7 : RT) (x0 x1 x5 x6 : AV) (H : AH) (K : KT) : Prop :=
bO (alnS x0) λv0=>
bO (abI .lss x6 v0) λv1=>
bB v1 λt2=>bI t2 (
bO (aixS 9 x0 x6) λv3=>
bO (ald true 9 H v3) λv4=>
bH (anew H (.agg [(I 0),(.lit (.int .u8 0)),(.lit (.int .u8 0)),(.lit (.int .u8 0)),(.lit (.int .u8 0)),(.lit (.int .u8 0)),(.lit (.int .u8 0)),(.lit (.int .u8 0)),(.lit (.int .u8 0))])) λv5 H6=>
bS (ast 9 H6 v5 v4) λH7=>
bO (ald true 9 H7 v5) λv8=>
bF true x1 λk11 f11 c11=>
bT (zbchZ Tryz.prog k11 || !true) <|
bC (BCall Tryz.prog k11 (f11 ++ [v8] ++ c11) H7) λv9 H10=>
bO (aun .not v9) λv12=>
bB v12 λt13=>bI t13 (
bO (ald true 9 H10 v5) λv14=>
bO (aixS 9 x0 x5) λv15=>
bS (ast 9 H10 v15 v14) λH16=>
bO (abI .add x5 (I 1)) λv17=>
zciZ R7 x0 x1 v17 x6 H16 K)
 (zciZ R7 x0 x1 x5 x6 H10 K))
 (bO (aslS 9 x0 (some x5) none none) λv18=>
bS (acl [(I 0),(.lit (.int .u8 0)),(.lit (.int .u8 0)),(.lit (.int .u8 0)),(.lit (.int .u8 0)),(.lit (.int .u8 0)),(.lit (.int .u8 0)),(.lit (.int .u8 0)),(.lit (.int .u8 0))] H v18) λH19=>
bO (aslS 9 x0 none (some x5) none) λv20=>
K v20 H19)
theorem zgyZ {K : KT} : RL4 (λR x0 x1 x5 x6 H=>zdwZ R x0 x1 x5 x6 H K) (λx0 x1 x5 x6 H=>zehZ x0 x1 x5 x6 H K):=lpr4 (zvZ _ _) (λ_ _ _ _ _ _=>by kernel_rfl)
def zeyZ (a0 a1 : AV) (H : AH) (K : KT) : Prop :=
bP (PCall Tryz.prog 170 [a0,a1] H) λv0=>
bO (abI .eql v0 (I (-1))) λv1=>
bB v1 λt2=>bI t2 (
K a0 H)
 (bO (abI .add v0 (I 1)) λv3=>
zehZ a0 a1 v0 v3 H K)
theorem zitZ {a0 a1 : AV} {H : AH} {K : KT} (h : zeyZ a0 a1 H K) : OKP 124 [a0,a1] H K :=
 fok nofl pql zegZ Tryz.func124 (by kernel_rfl) (by kernel_rfl) h
def zxvZ (a0 a1 : AV) (H : AH) (K : KT) : Prop :=
bH (anew H a0) λv0 H1=>
bO (zhZ 0 v0) λv2=>
bO (ald false 1 H1 v2) λv3=>
bO (abI .mul v3 (I 8)) λv4=>
bO (ald false 1 H1 a1) λv5=>
bO (abI .geq v4 v5) λv6=>
K v6 H1
theorem zbbeZ {a0 a1 : AV} {H : AH} {K : KT} (h : zxvZ a0 a1 H K) : OKP 125 [a0,a1] H K :=
 fok nofl pql nokp Tryz.func125 (by kernel_rfl) (by kernel_rfl) h
def zbejZ : zbcqZ:=flOf [(1,[(3,some 7),(5,some 7)])]
def zbfdZ : Nat→Option (List Bool):=kpOf [(3,mk 33 0 [0,4,14,15])]
def extent_wipe_c (p : List Bool) (n : Nat) : List AV→AH→Kf→Prop:=sCode Tryz.prog zbejZ pql none0 none0 zbfdZ (sub p (zhyZ Tryz.f126)) n
def zbdzZ (x0 x4 x14 x15 : AV) (H : AH) (K : KT) : Prop:=lp (mk 33 0 [0,4,14,15]) (extent_wipe_c [tT,tT,tT,fF,fF] 4) [x0,x4,x14,x15] H (kBlk 0 (kRet Tryz.prog Tryz.f126.results.toList K))
def zbacZ (R3 : RT) (x0 x4 x14 x15 : AV) (H : AH) (K : KT) : Prop :=
bO (abI .lss x15 x14) λv0=>
bB v0 λt1=>bI t1 (
bO (zhZ 0 x4) λv2=>
bO (ald false 1 H v2) λv3=>
bO (zgZ x0) λv4=>
bO (zhZ 0 v4) λv5=>
bO (ald false 1 H v5) λv6=>
bO (abI .mul v6 (I 8)) λv7=>
bO (abI .sub v3 v7) λv8=>
bO (abI .add v8 x15) λv9=>
bO (zgZ x0) λv10=>
bO (zhZ 1 v10) λv11=>
bO (aixA 8 1 v11 v9) λv12=>
bS (ast 1 H v12 (.lit (.int .u8 0))) λH13=>
bO (abI .add x15 (I 1)) λv14=>
R3 [x0,x4,x14,v14] H13)
 (K (.tup []) H)
theorem zbdmZ {K : KT} : RL4 (λR x0 x4 x14 x15 H=>zbacZ R x0 x4 x14 x15 H K) (λx0 x4 x14 x15 H=>zbdzZ x0 x4 x14 x15 H K):=lpr4 (zvZ _ _) (λ_ _ _ _ _ _=>by kernel_rfl)
def extent_wipe (a0 a1 : AV) (H : AH) (K : KT) : Prop :=
bH (anew H a1) λv0 H1=>
bO (zgZ a0) λv2=>
bO (zhZ 0 v2) λv3=>
bO (ald false 1 H1 v3) λv4=>
bP (BPure Tryz.prog 122 [v4]) λv5=>
bO (ald true 2 H1 v0) λv6=>
bP (BPure Tryz.prog 121 [v5,v6]) λv7=>
bH (anew H1 (.agg [(I 0),(I 0)])) λv8 H9=>
bS (ast 2 H9 v8 v7) λH10=>
(ald false 1 H9 v3=some v4) ∧
(ald true 2 H9 v0=some v6) ∧
bO (zhZ 1 v8) λv11=>
bO (ald false 1 H10 v11) λv12=>
zbdzZ a0 v8 v12 (I 0) H10 K
theorem extent_wipe_ok {a0 a1 : AV} {H : AH} {K : KT} (h : extent_wipe a0 a1 H K) : OKP 126 [a0,a1] H K :=
 fok zbejZ pql zbfdZ Tryz.func126 (by kernel_rfl) (by kernel_rfl) h
def zbelZ (a0 a1 : AV) (H : AH) (K : KT) : Prop :=
bH (anew H a0) λv0 H1=>
bO (zhZ 0 v0) λv2=>
bO (ald false 1 H1 v2) λv3=>
bP (BPure Tryz.prog 122 [v3]) λv4=>
bO (ald true 2 H1 a1) λv5=>
bP (BPure Tryz.prog 129 [v4,v5]) λv6=>
K v6 H1
theorem extent_Punch_1_ok {a0 a1 : AV} {H : AH} {K : KT} (h : zbelZ a0 a1 H K) : OKP 128 [a0,a1] H K :=
 fok nofl pql nokp Tryz.func128 (by kernel_rfl) (by kernel_rfl) h
def off_Within (a0 a1 : AV) (H : AH) (K : KT) : Prop :=
bH (anew H a0) λv0 H1=>
bH (anew H1 a1) λv2 H3=>
bO (ald true 2 H3 v0) λv4=>
bP (PCall Tryz.prog 118 [v4] H3) λv5=>
bO (aun .not v5) λv6=>
bG v6 false λw7=>
gO w7 (ald true 2 H3 v2) λv8=>
bG v6 false λw9=>
gP w9 (PCall Tryz.prog 118 [v8] H3) λv10=>
bG v6 false λw11=>
gO w11 (aun .not v10) λv12=>
bO (apick v6 (B true) v12) λv13=>
bB v13 λt14=>bI t14 (
K (B false) H3)
 (bO (zhZ 1 v0) λv15=>
bO (ald false 1 H3 v15) λv16=>
bO (abI .eql v16 (I 0)) λv17=>
bG v17 false λw18=>
gO w18 (ald true 2 H3 v0) λv19=>
bG v17 false λw20=>
gO w20 (ald true 2 H3 v2) λv21=>
bG v17 false λw22=>
gP w22 (BPure Tryz.prog 121 [v19,v21]) λv23=>
bG v17 false λw24=>
gO w24 (ald true 2 H3 v0) λv25=>
bG v17 false λw26=>
gO w26 (abin Tryz.prog .eql 114 v23 v25) λv27=>
bO (apick v17 (B true) v27) λv28=>
K v28 H3)
theorem off_Within_ok {a0 a1 : AV} {H : AH} {K : KT} (h : off_Within a0 a1 H K) : OKP 129 [a0,a1] H K :=
 fok nofl pql nokp Tryz.func129 (by kernel_rfl) (by kernel_rfl) h
def zhdZ (a0 : AV) (H : AH) (K : KT) : Prop :=
bO (abN .eql nilS a0 nilSl) λv0=>
bB v0 λt1=>bI t1 (
K nilSl H)
 (bH (absl H 9 0 (zrow [(I 0),(.lit (.int .u8 0)),(.lit (.int .u8 0)),(.lit (.int .u8 0)),(.lit (.int .u8 0)),(.lit (.int .u8 0)),(.lit (.int .u8 0)),(.lit (.int .u8 0)),(.lit (.int .u8 0))] 0) []) λv2 H3=>
bH (aap 9 16 H3 v2 a0) λv4 H5=>
K v4 H5)
theorem zmsZ {a0 : AV} {H : AH} {K : KT} (h : zhdZ a0 H K) : OKP 150 [a0] H K :=
 fok nofl pql nokp Tryz.func150 (by kernel_rfl) (by kernel_rfl) h
def off_MaySpan (a0 : AV) (H : AH) (K : KT) : Prop :=
bH (anew H a0) λv0 H1=>
bO (zhZ 0 v0) λv2=>
bO (ald false 1 H1 v2) λv3=>
bP (PCall Tryz.prog 105 [v3] H1) λv4=>
bG v4 true λw5=>
gO w5 (zhZ 1 v0) λv6=>
bG v4 true λw7=>
gO w7 (ald false 1 H1 v6) λv8=>
bG v4 true λw9=>
gP w9 (PCall Tryz.prog 105 [v8] H1) λv10=>
bO (apick v4 v10 (B false)) λv11=>
bG v11 true λw12=>
gO w12 (zhZ 1 v0) λv13=>
bG v11 true λw14=>
gO w14 (ald false 1 H1 v13) λv15=>
bG v11 true λw16=>
gO w16 (zhZ 0 v0) λv17=>
bG v11 true λw18=>
gO w18 (ald false 1 H1 v17) λv19=>
bG v11 true λw20=>
gO w20 (abI .sub (I 4611686018427387904) v19) λv21=>
bG v11 true λw22=>
gO w22 (abI .leq v15 v21) λv23=>
bO (apick v11 v23 (B false)) λv24=>
K v24 H1
theorem off_MaySpan_ok {a0 : AV} {H : AH} {K : KT} (h : off_MaySpan a0 H K) : OKP 118 [a0] H K :=
 fok nofl pql nokp Tryz.func118 (by kernel_rfl) (by kernel_rfl) h
def zmcZ : Nat→Bool:=inL []
def zbyZ (a0 a1 a2 : AV) (H : AH) (K : KT) : Prop :=
bO (aslS 9 a0 (some a1) none none) λv0=>
bO (alnS a2) λv1=>
bO (abI .eql v1 (I 0)) λv2=>
bB v2 λt3=>bI t3 (
K a0 H)
 (bO (alnS a0) λv4=>
bO (abI .eql a1 v4) λv5=>
bB v5 λt6=>bI t6 (
bH (aap 9 16 H a0 a2) λv7 H8=>
K v7 H8)
 (bO (abI .add v4 v1) λv9=>
bO (acpS a0) λv10=>
bO (abI .gtr v9 v10) λv11=>
bB v11 λt12=>bI t12 (
bO (aslS 9 a0 none (some a1) none) λv13=>
bO (abI .add v4 v1) λv14=>
bO (abI .sub v14 a1) λv15=>
bH (aappZ1 H 9 16 [(I 0),(.lit (.int .u8 0)),(.lit (.int .u8 0)),(.lit (.int .u8 0)),(.lit (.int .u8 0)),(.lit (.int .u8 0)),(.lit (.int .u8 0)),(.lit (.int .u8 0)),(.lit (.int .u8 0))] v13 v15) λv16 H17=>
bO (aslS 9 v16 (some a1) none none) λv18=>
bH (acp 9 H17 v18 a2) λv19 H20=>
bO (abI .add a1 v1) λv21=>
bO (aslS 9 v16 (some v21) none none) λv22=>
bO (aslS 9 a0 (some a1) none none) λv23=>
bH (acp 9 H20 v22 v23) λv24 H25=>
K v16 H25)
 (bO (abI .add v4 v1) λv26=>
bO (aslS 9 a0 none (some v26) none) λv27=>
bO (abI .add a1 v1) λv28=>
bO (aslS 9 v27 (some v28) none none) λv29=>
bP (ExtR Tryz.prog 181 [a2,v29] H) λv30=>
bO (aun .not v30) λv31=>
bB v31 λt32=>bI t32 (
bO (abI .add a1 v1) λv33=>
bO (aslS 9 v27 (some v33) none none) λv34=>
bO (aslS 9 v27 (some a1) none none) λv35=>
bH (acp 9 H v34 v35) λv36 H37=>
bO (aslS 9 v27 (some a1) none none) λv38=>
bH (acp 9 H37 v38 a2) λv39 H40=>
K v27 H40)
 (bO (aslS 9 v27 (some v4) none none) λv41=>
bH (acp 9 H v41 a2) λv42 H43=>
bO (aslS 9 v27 (some a1) none none) λv44=>
bC (BCall Tryz.prog 182 [v44,v1] H43) λv45 H46=>
K v27 H46))))
theorem zmdZ (a0 a1 a2 : AV) (H : AH) (K : KT) : sFun Tryz.prog nofl pql pqla zmcZ nokp Tryz.f153 [a0,a1,a2] H K=zbyZ a0 a1 a2 H K:=by kernel_rfl
theorem zdmZ {a0 a1 a2 : AV} {H : AH} {K : KT} (h : zbyZ a0 a1 a2 H K) : ACalls Tryz.prog 153 [a0,a1,a2] H K :=
 sFun_wp mixP Tryz.func153 (by kernel_rfl) (Eq.mpr (zmdZ a0 a1 a2 H K) h)
def zcxZ : Nat→Option (List Bool):=kpOf [(4,mk 49 0 [0,1,2,8,9,10])]
def zczZ (p : List Bool) (n : Nat) : List AV→AH→Kf→Prop:=sCode Tryz.prog nofl pql none0 none0 zcxZ (sub p (zhyZ Tryz.f179)) n
def zcwZ (x0 x1 x2 x8 x9 x10 : AV) (H : AH) (K : KT) : Prop:=lp (mk 49 0 [0,1,2,8,9,10]) (zczZ [tT,tT,tT,fF,fF,fF] 5) [x0,x1,x2,x8,x9,x10] H (kBlk 0 (kSeq (zczZ [tT,tT,tT,tT] 9) (kRet Tryz.prog Tryz.f179.results.toList K)))
def zckZ (R4 : RT) (x0 x1 x2 x8 x9 x10 : AV) (H : AH) (K : KT) : Prop :=
bO (abI .lss x9 x10) λv0=>
bB v0 λt1=>bI t1 (
bO (abI .add x9 x10) λv2=>
bO (acI .u64 v2) λv3=>
bO (abI .shr v3 (.lit (.int .u64 1))) λv4=>
bO (acI .i64 v4) λv5=>
bO (aixS 9 x0 v5) λv6=>
bO (ald true 9 H v6) λv7=>
bF true x2 λk10 f10 c10=>
bT (zbchZ Tryz.prog k10 || !true) <|
bC (BCall Tryz.prog k10 (f10 ++ [v7,x1] ++ c10) H) λv8 H9=>
bO (abI .lss v8 (I 0)) λv11=>
bB v11 λt12=>bI t12 (
bO (abI .add v5 (I 1)) λv13=>
R4 [x0,x1,x2,x8,v13,x10] H9)
 (R4 [x0,x1,x2,x8,x9,v5] H9))
 (bO (abI .lss x9 x8) λv14=>
bG v14 true λw15=>
gO w15 (some x2) λv16=>
bG v14 true λw17=>
gO w17 (some x0) λv18=>
bG v14 true λw19=>
gO w19 (some x9) λv20=>
bG v14 true λw21=>
gO w21 (aixS 9 v18 v20) λv22=>
bG v14 true λw23=>
gO w23 (ald true 9 H v22) λv24=>
bG v14 true λw25=>
gO w25 (some x1) λv26=>
bG v14 true λw27=>
bF w27 v16 λk30 f30 c30=>
bT (zbchZ Tryz.prog k30 || !w27) <|
gC w27 (BCall Tryz.prog k30 (f30 ++ [v24,v26] ++ c30) H) H λv28 H29=>
bG v14 true λw31=>
gO w31 (abI .eql v28 (I 0)) λv32=>
bO (apick v14 v32 (B false)) λv33=>
K (.tup [x9,v33]) H29)
theorem zejZ {K : KT} : RL6 (λR x0 x1 x2 x8 x9 x10 H=>zckZ R x0 x1 x2 x8 x9 x10 H K) (λx0 x1 x2 x8 x9 x10 H=>zcwZ x0 x1 x2 x8 x9 x10 H K):=lpr6 (zvZ _ _) (λ_ _ _ _ _ _ _ _=>by kernel_rfl)
def zdfZ (a0 a1 a2 : AV) (H : AH) (K : KT) : Prop :=
bO (alnS a0) λv0=>
zcwZ a0 a1 a2 v0 (I 0) v0 H K
theorem zfjZ {a0 a1 a2 : AV} {H : AH} {K : KT} (h : zdfZ a0 a1 a2 H K) : OKP 179 [a0,a1,a2] H K :=
 fok nofl pql zcxZ Tryz.func179 (by kernel_rfl) (by kernel_rfl) h
def zbecZ (a0 a1 : AV) (H : AH) (K : KT) : Prop :=
bH (anew H a0) λv0 H1=>
bO (zhZ 0 v0) λv2=>
bO (ald false 1 H1 v2) λv3=>
bP (PCall Tryz.prog 149 [v3,a1] H1) λv4=>
K v4 H1
theorem extent_place_1_ok {a0 a1 : AV} {H : AH} {K : KT} (h : zbecZ a0 a1 H K) : OKP 180 [a0,a1] H K :=
 fok nofl pql nokp Tryz.func180 (by kernel_rfl) (by kernel_rfl) h
def zbbrZ (a0 a1 : AV) (H : AH) (K : KT) : Prop :=
bP (PCall Tryz.prog 178 [a0] H) λv0=>
bP (PCall Tryz.prog 178 [a1] H) λv1=>
bB v0 λt2=>bI t2 (
bB v1 λt3=>bI t3 (
K (I 0) H)
 (K (I (-1)) H))
 (bB v1 λt4=>bI t4 (
K (I 1) H)
 (bO (abI .lss a0 a1) λv5=>
bB v5 λt6=>bI t6 (
K (I (-1)) H)
 (bO (abI .gtr a0 a1) λv7=>
bB v7 λt8=>bI t8 (
K (I 1) H)
 (K (I 0) H))))
theorem cmp_Compare_int_ok {a0 a1 : AV} {H : AH} {K : KT} (h : zbbrZ a0 a1 H K) : OKP 149 [a0,a1] H K :=
 fok nofl pql nokp Tryz.func149 (by kernel_rfl) (by kernel_rfl) h
def zeoZ : Nat→Option (List Bool):=kpOf [(3,mk 19 0 [0,1,7,8])]
def zerZ (p : List Bool) (n : Nat) : List AV→AH→Kf→Prop:=sCode Tryz.prog nofl pql none0 none0 zeoZ (sub p (zhyZ Tryz.f170)) n
def zenZ (x0 x1 x7 x8 : AV) (H : AH) (K : KT) : Prop:=lp (mk 19 0 [0,1,7,8]) (zerZ [tT,fF,tT,fF,fF] 4) [x0,x1,x7,x8] H (kBlk 0 (kSeq (zerZ [tT,tT] 10) (kRet Tryz.prog Tryz.f170.results.toList K)))
def zcjZ (R3 : RT) (x0 x1 x7 x8 : AV) (H : AH) (K : KT) : Prop :=
bO (abI .lss x8 x7) λv0=>
bB v0 λt1=>bI t1 (
bO (aixS 9 x0 x8) λv2=>
bO (ald true 9 H v2) λv3=>
bF true x1 λk6 f6 c6=>
bT (zbchZ Tryz.prog k6 || !true) <|
bC (BCall Tryz.prog k6 (f6 ++ [v3] ++ c6) H) λv4 H5=>
bB v4 λt7=>bI t7 (
K x8 H5)
 (bO (abI .add x8 (I 1)) λv8=>
R3 [x0,x1,x7,v8] H5))
 (K (I (-1)) H)
theorem zdqZ {K : KT} : RL4 (λR x0 x1 x7 x8 H=>zcjZ R x0 x1 x7 x8 H K) (λx0 x1 x7 x8 H=>zenZ x0 x1 x7 x8 H K):=lpr4 (zvZ _ _) (λ_ _ _ _ _ _=>by kernel_rfl)
def zdkZ (a0 a1 : AV) (H : AH) (K : KT) : Prop :=
bO (alnS a0) λv0=>
zenZ a0 a1 v0 (I 0) H K
theorem zemZ {a0 a1 : AV} {H : AH} {K : KT} (h : zdkZ a0 a1 H K) : OKP 170 [a0,a1] H K :=
 fok nofl pql zeoZ Tryz.func170 (by kernel_rfl) (by kernel_rfl) h
def off_May (a0 : AV) (H : AH) (K : KT) : Prop :=
bO (abI .geq a0 (I 0)) λv0=>
bG v0 true λw1=>
gO w1 (some a0) λv2=>
bG v0 true λw3=>
gO w3 (abI .leq v2 (I 4611686018427387904)) λv4=>
bO (apick v0 v4 (B false)) λv5=>
K v5 H
theorem off_May_ok {a0 : AV} {H : AH} {K : KT} (h : off_May a0 H K) : OKP 105 [a0] H K :=
 fok nofl pql nokp Tryz.func105 (by kernel_rfl) (by kernel_rfl) h
def cmp_isNaN_int (a0 : AV) (H : AH) (K : KT) : Prop :=
bO (abI .neq a0 a0) λv0=>
K v0 H
theorem cmp_isNaN_int_ok {a0 : AV} {H : AH} {K : KT} (h : cmp_isNaN_int a0 H K) : OKP 178 [a0] H K :=
 fok nofl pql nokp Tryz.func178 (by kernel_rfl) (by kernel_rfl) h
def zskZ : Nat→Option (List Bool):=kpOf [(6,mk 50 0 [1,2,5])]
def zvlZ (p : List Bool) (n : Nat) : List AV→AH→Kf→Prop:=sCode Tryz.prog nofl pql none0 none0 zskZ (sub p (zhyZ Tryz.f131)) n
def ztkZ (x1 x2 x5 : AV) (H : AH) (K : KT) : Prop:=lp (mk 50 0 [1,2,5]) (zvlZ [tT,tT,tT,fF,fF,fF] 7) [x1,x2,x5] H (kBlk 0 (kSeq (zvlZ [tT,tT,tT,tT] 11) (kRet Tryz.prog Tryz.f131.results.toList K)))
def zppZ (R6 : RT) (x1 x2 x5 : AV) (H : AH) (K : KT) : Prop :=
bO (zhZ 1 x2) λv0=>
bO (ald false 1 H v0) λv1=>
bO (abI .gtr v1 (I 0)) λv2=>
bB v2 λt3=>bI t3 (
bO (zhZ 1 x2) λv4=>
bO (ald false 1 H v4) λv5=>
bO (zhZ 0 x2) λv6=>
bO (ald false 1 H v6) λv7=>
bO (abI .rem v7 x1) λv8=>
bO (abI .sub x1 v8) λv9=>
bO (amm imn [v5,v9]) λv10=>
bO (zhZ 0 x2) λv11=>
bO (ald false 1 H v11) λv12=>
bO (abl [(I 0),(I 0)] [(0,1,v12),(1,1,v10)]) λv13=>
bH (absl H 2 1 (zrow [(I 0),(I 0)] 1) [(0,2,v13)]) λv14 H15=>
bH (aap 2 16 H15 x5 v14) λv16 H17=>
bO (zhZ 0 x2) λv18=>
bO (ald false 1 H17 v18) λv19=>
bO (abI .add v19 v10) λv20=>
bO (zhZ 1 x2) λv21=>
bO (ald false 1 H17 v21) λv22=>
bO (abI .sub v22 v10) λv23=>
bO (zhZ 0 x2) λv24=>
bS (ast 1 H17 v24 v20) λH25=>
bO (zhZ 1 x2) λv26=>
bS (ast 1 H25 v26 v23) λH27=>
R6 [x1,x2,v16] H27)
 (K x5 H)
theorem zwqZ {K : KT} : RL3 (λR x1 x2 x5 H=>zppZ R x1 x2 x5 H K) (λx1 x2 x5 H=>ztkZ x1 x2 x5 H K):=lpr3 (zvZ _ _) (λ_ _ _ _ _=>by kernel_rfl)
def zyzZ (a0 a1 : AV) (H : AH) (K : KT) : Prop :=
bH (anew H a0) λv0 H1=>
bO (ald true 2 H1 v0) λv2=>
bP (PCall Tryz.prog 173 [v2] H1) λv3=>
bO (aun .not v3) λv4=>
bG v4 false λw5=>
gO w5 (zhZ 1 v0) λv6=>
bG v4 false λw7=>
gO w7 (ald false 1 H1 v6) λv8=>
bG v4 false λw9=>
gO w9 (abI .gtr v8 (I 4096)) λv10=>
bO (apick v4 (B true) v10) λv11=>
bG v11 false λw12=>
gO w12 (some a1) λv13=>
bG v11 false λw14=>
gO w14 (abI .lss v13 (I 1)) λv15=>
bO (apick v11 (B true) v15) λv16=>
bB v16 λt17=>bI t17 (
K nilSl H1)
 (ztkZ a1 v0 nilSl H1 K)
theorem zbdcZ {a0 a1 : AV} {H : AH} {K : KT} (h : zyzZ a0 a1 H K) : OKP 131 [a0,a1] H K :=
 fok nofl pql zskZ Tryz.func131 (by kernel_rfl) (by kernel_rfl) h
def zuyZ (a0 : AV) (H : AH) (K : KT) : Prop :=
bH (anew H a0) λv0 H1=>
bO (zhZ 0 v0) λv2=>
bO (ald false 1 H1 v2) λv3=>
bO (zhZ 1 v0) λv4=>
bO (ald false 1 H1 v4) λv5=>
bH (absl H1 1 2 (zrow [(I 0)] 2) [(0,1,v3),(1,1,v5)]) λv6 H7=>
bP (PCall Tryz.prog 194 [v6] H7) λv8=>
bO (zjZ v8 0) λv9=>
bO (zjZ v8 1) λv10=>
K v10 H7
theorem zbayZ {a0 : AV} {H : AH} {K : KT} (h : zuyZ a0 H K) : OKP 173 [a0] H K :=
 fok nofl pql nokp Tryz.func173 (by kernel_rfl) (by kernel_rfl) h
def zyhZ : Nat→Option (List Bool):=kpOf [(4,mk 34 0 [0,4,5])]
def zzwZ (p : List Bool) (n : Nat) : List AV→AH→Kf→Prop:=sCode Tryz.prog nofl pql none0 none0 zyhZ (sub p (zhyZ Tryz.f194)) n
def zxdZ (x0 x4 x5 : AV) (H : AH) (K : KT) : Prop:=lp (mk 34 0 [0,4,5]) (zzwZ [tT,tT,fF,tT,fF,fF] 5) [x0,x4,x5] H (kBlk 0 (kSeq (zzwZ [tT,tT,tT] 11) (kRet Tryz.prog Tryz.f194.results.toList K)))
def zsnZ (R4 : RT) (x0 x4 x5 : AV) (H : AH) (K : KT) : Prop :=
bO (alnS x0) λv0=>
bO (abI .lss x5 v0) λv1=>
bB v1 λt2=>bI t2 (
bO (aixS 1 x0 x5) λv3=>
bO (ald false 1 H v3) λv4=>
bP (PCall Tryz.prog 201 [v4] H) λv5=>
bO (aun .not v5) λv6=>
bG v6 false λw7=>
gO w7 (some x0) λv8=>
bG v6 false λw9=>
gO w9 (some x5) λv10=>
bG v6 false λw11=>
gO w11 (aixS 1 v8 v10) λv12=>
bG v6 false λw13=>
gO w13 (ald false 1 H v12) λv14=>
bG v6 false λw15=>
gO w15 (some x4) λv16=>
bG v6 false λw17=>
gO w17 (abI .sub (I 4611686018427387904) v16) λv18=>
bG v6 false λw19=>
gO w19 (abI .gtr v14 v18) λv20=>
bO (apick v6 (B true) v20) λv21=>
bB v21 λt22=>bI t22 (
K (.tup [(I 0),(B false)]) H)
 (bO (aixS 1 x0 x5) λv23=>
bO (ald false 1 H v23) λv24=>
bO (abI .add x4 v24) λv25=>
bO (abI .add x5 (I 1)) λv26=>
R4 [x0,v25,v26] H))
 (K (.tup [x4,(B true)]) H)
theorem zyxZ {K : KT} : RL3 (λR x0 x4 x5 H=>zsnZ R x0 x4 x5 H K) (λx0 x4 x5 H=>zxdZ x0 x4 x5 H K):=lpr3 (zvZ _ _) (λ_ _ _ _ _=>by kernel_rfl)
def zbeyZ (a0 : AV) (H : AH) (K : KT) : Prop :=
zxdZ a0 (I 0) (I 0) H K
theorem salvorref1_Add_ok {a0 : AV} {H : AH} {K : KT} (h : zbeyZ a0 H K) : OKP 194 [a0] H K :=
 fok nofl pql zyhZ Tryz.func194 (by kernel_rfl) (by kernel_rfl) h
def zbfbZ (a0 : AV) (H : AH) (K : KT) : Prop :=
bO (abI .geq a0 (I 0)) λv0=>
bG v0 true λw1=>
gO w1 (some a0) λv2=>
bG v0 true λw3=>
gO w3 (abI .leq v2 (I 4611686018427387904)) λv4=>
bO (apick v0 v4 (B false)) λv5=>
K v5 H
theorem salvorref1_May_ok {a0 : AV} {H : AH} {K : KT} (h : zbfbZ a0 H K) : OKP 201 [a0] H K :=
 fok nofl pql nokp Tryz.func201 (by kernel_rfl) (by kernel_rfl) h
end Go.Proofs.YtlhiaihmkjlaaaaGreat.Av
end
