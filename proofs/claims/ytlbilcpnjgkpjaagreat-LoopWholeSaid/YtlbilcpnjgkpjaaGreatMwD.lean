/- Texts of this proof, one behind the other, packed into one file by a program of this session. No condition. -/
import Derived.Test.YtlbilcpnjgkpjaaGreatMwC
import Derived.KernelRfl
import Derived.OpenShut
import Derived.OrdersIn
import Derived.ProofKit
import Derived.RangeFuncNested
import Derived.SizedLaws
import Derived.Test.YtlbilcpnjgkpjaaGreatRows
import Derived.WalkKit
set_option linter.unusedVariables false
set_option linter.unusedSimpArgs false
set_option maxRecDepth 100000
section
namespace Go.Proofs.YtlbilcpnjgkpjaaGreat.Av
open Go Go.RowKit
def ownedS : AV→Bool
 | .lit (.slice none _ _) => true
 | .emp => true
 | .sl _ _ _ _ _ => true
 | _ => false
def idS : AV→List Nat
 | .sl o _ _ _ _ => [o]
 | _ => []
theorem zbwZ {H : AH} {sz : Nat} {v : AV} {cs : List AV} {n : Nat} (h : zaZ H sz v=some (cs,n)) : cs.length=n * sz:=by
 unfold zaZ at h
 split at h
 ·split at h
  ·rename_i hb
   injection h with h; injection h with h1 h2
   subst h1; subst h2
   exact hb.2
  ·cases h
 ·split at h
  ·split at h
   ·rename_i hb
    injection h with h; injection h with h1 h2
    subst h1; subst h2
    rw [List.length_take,List.length_drop]; omega
   ·cases h
  ·cases h
 ·injection h with h; injection h with h1 h2; subst h1; subst h2; simp
 ·injection h with h; injection h with h1 h2; subst h1; subst h2; simp
 ·cases h
theorem appended_len {H : AH} {sz : Nat} {v : AV} {cs : List AV} {n : Nat} (h : zddZ H sz v=some (cs,n)) : cs.length=n * sz:=by
 unfold zddZ at h
 split at h
 ·split at h
  ·rename_i hs
   injection h with h; injection h with h1 h2
   subst h1; subst h2; subst hs
   simp
  ·cases h
 ·exact zbwZ h
theorem zjZ {H : AH} {sz : Nat} {v : AV} {q : List AV × Nat} (h : zaZ H sz v=some q) : zddZ H sz v=some q:=by
 unfold zddZ
 split
 ·cases h
 ·exact h
theorem over_read (cs : List AV) (off l : Nat) (ds : List AV) (h : off + l≤cs.length) : ((over cs (off + l) ds).drop off).take (l + ds.length)=(cs.drop off).take l ++ ds∧off + (l + ds.length)≤(over cs (off + l) ds).length:=by
 unfold over
 constructor
 ·rw [List.append_assoc,List.drop_append_of_le_length (by rw [List.length_take]; omega),List.take_append]
  have e1 : ((cs.take (off + l)).drop off)=(cs.drop off).take l:=by rw [List.drop_take]; congr 1; omega
  rw [e1]
  have e2 : ((cs.drop off).take l).length=l:=by rw [List.length_take,List.length_drop]; omega
  rw [e2,List.take_of_length_le (by omega)]
  congr 1
  rw [show l + ds.length - l=ds.length by omega,List.take_left]
 ·simp only [List.length_append,List.length_take]; omega
theorem zbdZ {H : AH} {sz o off n : Nat} {cap : Room} {c : List AV} (ho : H[o]? = some (some (.cells c))) (hf : off + n * sz≤c.length) : zaZ H sz (.sl o off n sz cap)=some ((c.drop off).take (n * sz),n):=by
 simp [zaZ,ho,hf]
theorem zbZ {H H' : AH} {sz : Nat} {v : AV} {q : List AV × Nat} (h : zaZ H sz v=some q) (hk : ∀ i ∈ idS v,H'[i]? = H[i]?) : zaZ H' sz v=some q:=by
 cases v with
 | sl o off len esz cap =>
  have:=hk o (by simp [idS])
  simp only [zaZ] at h ⊢
  rw [this]; exact h
 | lit u =>
  unfold zaZ at h ⊢
  split at h <;> simp_all
 | imm cs len esz => simpa only [zaZ] using h
 | emp => simpa only [zaZ] using h
 | _ => simp [zaZ] at h
theorem zcZ {H : AH} {sz : Nat} {v : AV} {q : List AV × Nat} (h : zaZ H sz v=some q) : ∀ i ∈ idS v,i < H.length:=by
 intro i hi
 cases v with
 | sl o off len esz cap =>
  simp only [idS,List.mem_singleton] at hi
  subst hi
  simp only [zaZ] at h
  split at h
  ·rename_i ho
   exact (List.getElem?_eq_some_iff.1 ho).1
  ·cases h
 | _ => simp [idS] at hi
section
variable {P : Program}
theorem aapp1_spec {sz bytes : Nat} {H : AH} {s : AV} {cs ds : List AV} {n m : Nat} (h1 : zaZ H sz s=some (cs,n)) (ho : ownedS s=true) (hdl : ds.length=m * sz) (hb : (n + m) * bytes≤140737488355328) :
  ∃ r H',aapp1 H sz bytes s ds m=some (r,H')∧ownedS r=true∧zaZ H' sz r=some (cs ++ ds,n + m)∧H.length≤H'.length∧(∀ i,i < H.length→i ∉ idS s→H'[i]? = H[i]?)∧∀ i ∈ idS r,i ∈ idS s∨H.length≤i:=by
 have hcl:=zbwZ h1
 have newc : zaZ (H ++ [some (.cells ds)]) sz (.sl H.length 0 m sz (.ge m))=some (ds,m):=by
  rw [zbdZ (c:=ds) (by simp) (by omega)]
  simp only [List.drop_zero]
  rw [List.take_of_length_le (by omega)]
 have keep : ∀ (X : AH) (i : Nat),i < H.length→(H ++ X)[i]? = H[i]?:=fun X i hi => List.getElem?_append_left hi
 have hnil : n=0→cs=[]:=fun h0 => List.eq_nil_of_length_eq_zero (by rw [hcl,h0]; simp)
 unfold zaZ at h1
 split at h1
 ·simp [ownedS] at ho
 ·
  rename_i o off len esz cap
  split at h1
  ·rename_i c hoc
   split at h1
   ·rename_i hb1
    obtain ⟨rfl,hfit⟩:=hb1
    injection h1 with h1
    injection h1 with h3 h4
    subst h3; subst h4
    have hol:=(List.getElem?_eq_some_iff.1 hoc).1
    have hadd : (len + m) * esz=len * esz + m * esz:=Nat.add_mul _ _ _
    obtain ⟨ov1,ov2⟩:=over_read c off (len * esz) ds hfit
    have inplace : ∀ cap',zaZ (H.set o (some (.cells (over c (off + len * esz) ds)))) esz (.sl o off (len + m) esz cap')=some ((c.drop off).take (len * esz) ++ ds,len + m):=by
     intro cap'
     rw [zbdZ (c:=over c (off + len * esz) ds) (by rw [List.getElem?_set_self hol]) (by rw [hadd,← hdl]; exact ov2)]
     rw [hadd,← hdl,ov1]
    have fresh : ∀ (H2 : AH) cap',H2.length=H.length→zaZ (H2 ++ [some (.cells ((c.drop off).take (len * esz) ++ ds))]) esz (.sl H.length 0 (len + m) esz cap')=some ((c.drop off).take (len * esz) ++ ds,len + m):=by
     intro H2 cap' hl
     rw [zbdZ (c:=(c.drop off).take (len * esz) ++ ds) (by rw [← hl]; simp) (by rw [List.length_append,hcl,hdl]; omega)]
     simp only [List.drop_zero]
     rw [List.take_of_length_le (by rw [List.length_append,hcl,hdl]; omega)]
    have hkeep : ∀ (y : Option AObj) (X : AH) (i : Nat),i < H.length→i ∉ idS (.sl o off len esz cap)→(H.set o y ++ X)[i]? = H[i]?:=by
     intro y X i hi hn
     rw [List.getElem?_append_left (by simpa using hi),List.getElem?_set_ne (by simp [idS] at hn; omega)]
    unfold aapp1
    simp only [hoc,ne_eq,not_true_eq_false,false_or,hfit,if_false]
    cases cap with
    | ex k =>
     simp only
     by_cases hk : len + m≤k
     ·rw [if_pos hk]
      exact ⟨_,_,rfl,rfl,inplace _,by simp,fun i hi hn => by simpa using hkeep _ [] i hi hn,fun i hi => .inl (by simpa [idS] using hi)⟩
     ·rw [if_neg hk,if_pos hb]
      exact ⟨_,_,rfl,rfl,fresh H _ rfl,by simp,fun i hi _ => keep _ i hi,fun i hi => .inr (by simp [idS] at hi; omega)⟩
    | ge k =>
     simp only
     by_cases hm : m=0
     ·subst hm
      have hd0 : ds=[]:=List.eq_nil_of_length_eq_zero (by rw [hdl]; simp)
      subst hd0
      rw [if_pos rfl]
      exact ⟨_,_,rfl,rfl,by rw [zbdZ hoc hfit]; simp,Nat.le_refl _,fun _ _ _ => rfl,fun i hi => .inl hi⟩
     ·rw [if_neg hm]
      by_cases hk : len + m≤k
      ·rw [if_pos hk]
       exact ⟨_,_,rfl,rfl,inplace _,by simp,fun i hi hn => by simpa using hkeep _ [] i hi hn,fun i hi => .inl (by simpa [idS] using hi)⟩
      ·rw [if_neg hk,if_pos hb]
       exact ⟨_,_,rfl,rfl,fresh (H.set o none) _ (by simp),by simp,fun i hi hn => hkeep none _ i hi hn,fun i hi => .inr (by simp [idS] at hi; omega)⟩
   ·cases h1
  ·cases h1
 ·
  injection h1 with h1
  injection h1 with h3 h4
  subst h3; subst h4
  unfold aapp1
  simp only
  by_cases hm : m=0
  ·subst hm
   have hd0 : ds=[]:=List.eq_nil_of_length_eq_zero (by rw [hdl]; simp)
   subst hd0
   rw [if_pos rfl]
   exact ⟨_,_,rfl,rfl,rfl,Nat.le_refl _,fun _ _ _ => rfl,fun i hi => .inl hi⟩
  ·rw [if_neg hm,if_pos (by simpa using hb)]
   exact ⟨_,_,rfl,rfl,by simpa using newc,by simp,fun i hi _ => keep _ i hi,fun i hi => .inr (by simp [idS] at hi; omega)⟩
 ·
  injection h1 with h1
  injection h1 with h3 h4
  subst h3; subst h4
  unfold aapp1
  simp only
  by_cases hm : m=0
  ·subst hm
   have hd0 : ds=[]:=List.eq_nil_of_length_eq_zero (by rw [hdl]; simp)
   subst hd0
   rw [if_pos rfl]
   exact ⟨_,_,rfl,rfl,rfl,Nat.le_refl _,fun _ _ _ => rfl,fun i hi => .inl hi⟩
  ·rw [if_neg hm,if_pos (by simpa using hb)]
   exact ⟨_,_,rfl,rfl,by simpa using newc,by simp,fun i hi _ => keep _ i hi,fun i hi => .inr (by simp [idS] at hi; omega)⟩
 ·cases h1
end
end Go.Proofs.YtlbilcpnjgkpjaaGreat.Av
end
section
namespace Go.Proofs.YtlbilcpnjgkpjaaGreat.Av
open Go Go.RowKit
abbrev I (n : Int) : AV:=.lit (.int .i64 n)
abbrev B (b : Bool) : AV:=.lit (.bool b)
abbrev S (s : ByteArray) : AV:=.lit (.string s)
abbrev nilSl : AV:=.lit (.slice none 0 0)
@[congr] theorem bO_congr {x x' : Option AV} {K : AV→Prop} (h : x=x') : bO x K=bO x' K:=by rw [h]
@[congr] theorem bH_congr {x x' : Option (AV × AH)} {K : AV→AH→Prop} (h : x=x') : bH x K=bH x' K:=by rw [h]
@[congr] theorem bS_congr {x x' : Option AH} {K : AH→Prop} (h : x=x') : bS x K=bS x' K:=by rw [h]
@[congr] theorem bB_congr {v v' : AV} {K : Bool→Prop} (h : v=v') : bB v K=bB v' K:=by rw [h]
@[congr] theorem bI_congr {b b' : Bool} {A B : Prop} (h : b=b') : bI b A B=bI b' A B:=by rw [h]
@[congr] theorem bG_congr {v v' : AV} {w : Bool} {K : Bool→Prop} (h : v=v') : bG v w K=bG v' w K:=by rw [h]
@[congr] theorem bF_congr {w w' : Bool} {v v' : AV} {K : FuncId→List AV→List AV→Prop} (hw : w=w') (h : v=v') : bF w v K=bF w' v' K:=by rw [hw,h]
@[congr] theorem bT_congr {b b' : Bool} {A : Prop} (h : b=b') : bT b A=bT b' A:=by rw [h]
@[congr] theorem bC_congr {R : AV→AH→Prop} {K : AV→AH→Prop} : bC R K=bC R K:=rfl
@[congr] theorem bP_congr {R : AV→Prop} {K : AV→Prop} : bP R K=bP R K:=rfl
@[congr] theorem gO_congr {w w' : Bool} {x : Option AV} {K : AV→Prop} (h : w=w') : gO w x K=gO w' x K:=by rw [h]
@[congr] theorem gH_congr {w w' : Bool} {x : Option (AV × AH)} {H : AH} {K : AV→AH→Prop} (h : w=w') : gH w x H K=gH w' x H K:=by rw [h]
@[congr] theorem gS_congr {w w' : Bool} {x : Option AH} {H : AH} {K : AH→Prop} (h : w=w') : gS w x H K=gS w' x H K:=by rw [h]
@[congr] theorem gC_congr {w w' : Bool} {R : AV→AH→Prop} {H : AH} {K : AV→AH→Prop} (h : w=w') : gC w R H K=gC w' R H K:=by rw [h]
@[congr] theorem gP_congr {w w' : Bool} {R : AV→Prop} {K : AV→Prop} (h : w=w') : gP w R K=gP w' R K:=by rw [h]
@[simp] theorem bO_some {v : AV} {K : AV→Prop} : bO (some v) K=K v:=by unfold bO; exact Eq.refl _
@[simp] theorem bH_some {v : AV} {H : AH} {K : AV→AH→Prop} : bH (some (v,H)) K=K v H:=by unfold bH; exact Eq.refl _
@[simp] theorem bS_some {H : AH} {K : AH→Prop} : bS (some H) K=K H:=by unfold bS; exact Eq.refl _
@[simp] theorem bB_bool {b : Bool} {K : Bool→Prop} : bB (.lit (.bool b)) K=K b:=by unfold bB; exact Eq.refl _
@[simp] theorem bI_true {A B : Prop} : bI true A B=A:=by unfold bI; exact Eq.refl _
@[simp] theorem zlZ {A B : Prop} : bI false A B=B:=by unfold bI; exact Eq.refl _
@[simp] theorem bG_bool {b w : Bool} {K : Bool→Prop} : bG (.lit (.bool b)) w K=K (b == w):=by unfold bG; exact Eq.refl _
@[simp] theorem bG_undef {w : Bool} {K : Bool→Prop} : bG undefA w K=K false:=by unfold bG; exact Eq.refl _
@[simp] theorem bT_true {A : Prop} : bT true A=A:=by unfold bT; exact Eq.refl _
@[simp] theorem bF_fn {w : Bool} {k : FuncId} {a b : List AV} {K : FuncId→List AV→List AV→Prop} : bF w (.fn (.func k) a b) K=K k a b:=by unfold bF; exact Eq.refl _
@[simp] theorem bF_undef {K : FuncId→List AV→List AV→Prop} : bF false undefA K=K 0 [] []:=by unfold bF undefA; exact Eq.refl _
@[simp] theorem gO_true {x : Option AV} {K : AV→Prop} : gO true x K=bO x K:=by unfold gO; exact Eq.refl _
@[simp] theorem gO_false {x : Option AV} {K : AV→Prop} : gO false x K=K undefA:=by unfold gO; exact Eq.refl _
@[simp] theorem gH_true {x : Option (AV × AH)} {H : AH} {K : AV→AH→Prop} : gH true x H K=bH x K:=by unfold gH; exact Eq.refl _
@[simp] theorem gH_false {x : Option (AV × AH)} {H : AH} {K : AV→AH→Prop} : gH false x H K=K undefA H:=by unfold gH; exact Eq.refl _
@[simp] theorem gS_true {x : Option AH} {H : AH} {K : AH→Prop} : gS true x H K=bS x K:=by unfold gS; exact Eq.refl _
@[simp] theorem gS_false {x : Option AH} {H : AH} {K : AH→Prop} : gS false x H K=K H:=by unfold gS; exact Eq.refl _
@[simp] theorem gC_true {R : AV→AH→Prop} {H : AH} {K : AV→AH→Prop} : gC true R H K=bC R K:=by unfold gC; exact Eq.refl _
@[simp] theorem gC_false {R : AV→AH→Prop} {H : AH} {K : AV→AH→Prop} : gC false R H K=K undefA H:=by unfold gC; exact Eq.refl _
@[simp] theorem gP_true {R : AV→Prop} {K : AV→Prop} : gP true R K=bP R K:=by unfold gP; exact Eq.refl _
@[simp] theorem gP_false {R : AV→Prop} {K : AV→Prop} : gP false R K=K undefA:=by unfold gP; exact Eq.refl _
theorem bP_of {R : AV→Prop} {K : AV→Prop} {r : AV} (h : R r) (hk : K r) : bP R K:=⟨r,h,hk⟩
theorem bP_pure {P : Program} {f : FuncId} {args : List AV} {H : AH} {K : AV→Prop} {r : AV} (h : BPure P f args r) (hk : K r) : bP (PCall P f args H) K:=⟨r,.inl h,hk⟩
theorem bC_of {R : AV→AH→Prop} {K : AV→AH→Prop} {r : AV} {H : AH} (h : R r H) (hk : K r H) : bC R K:=⟨r,H,h,hk⟩
theorem wrap64 {x : Int} (h1 : -9223372036854775808≤x) (h2 : x≤9223372036854775807) : IntKind.i64.wrap x=x:=by
 simp [IntKind.wrap,IntKind.bits,IntKind.signed]; omega
section
variable {k : IntKind} {a b : Int}
theorem abI_add (h1 : -9223372036854775808≤a + b) (h2 : a + b≤9223372036854775807) : abI .add (I a) (I b)=some (I (a + b)):=by simp [abI,aint2,wrap64 h1 h2]
theorem abI_sub (h1 : -9223372036854775808≤a - b) (h2 : a - b≤9223372036854775807) : abI .sub (I a) (I b)=some (I (a - b)):=by simp [abI,aint2,wrap64 h1 h2]
theorem abI_mul (h1 : -9223372036854775808≤a * b) (h2 : a * b≤9223372036854775807) : abI .mul (I a) (I b)=some (I (a * b)):=by simp [abI,aint2,wrap64 h1 h2]
theorem abI_quo (h1 : 0≤a) (h2 : a≤9223372036854775807) (h3 : 0 < b) : abI .quo (I a) (I b)=some (I (a / b)):=by
 have e : a.tdiv b=a / b:=Int.tdiv_eq_ediv_of_nonneg h1
 have h4 : 0≤a / b:=Int.ediv_nonneg h1 (by omega)
 have h5 : a / b≤a:=Int.ediv_le_self _ h1
 simp [abI,aint2,e,wrap64 (x:=a / b) (by omega) (by omega)]; omega
theorem abI_rem (h1 : 0≤a) (h3 : 0 < b) : abI .rem (.lit (.int k a)) (.lit (.int k b))=some (.lit (.int k (a % b))):=by
 have e : a.tmod b=a % b:=Int.tmod_eq_emod_of_nonneg h1
 simp [abI,aint2,e]; omega
@[simp] theorem abI_eql : abI .eql (.lit (.int k a)) (.lit (.int k b))=some (B (decide (a=b))):=by simp [abI,aint2]; rfl
@[simp] theorem abI_neq : abI .neq (.lit (.int k a)) (.lit (.int k b))=some (B (decide (a ≠ b))):=by
 simp [abI,aint2]
 by_cases h : a=b <;> simp [h]
@[simp] theorem abI_lss : abI .lss (.lit (.int k a)) (.lit (.int k b))=some (B (decide (a < b))):=by simp [abI,aint2]
@[simp] theorem abI_leq : abI .leq (.lit (.int k a)) (.lit (.int k b))=some (B (decide (a≤b))):=by simp [abI,aint2]
@[simp] theorem abI_gtr : abI .gtr (.lit (.int k a)) (.lit (.int k b))=some (B (decide (b < a))):=by simp [abI,aint2]
@[simp] theorem abI_geq : abI .geq (.lit (.int k a)) (.lit (.int k b))=some (B (decide (b≤a))):=by simp [abI,aint2]
@[simp] theorem abB_eql {x y : Bool} : abB .eql (.lit (.bool x)) (.lit (.bool y))=some (B (decide (x=y))):=by cases x <;> cases y <;> rfl
@[simp] theorem abB_neq {x y : Bool} : abB .neq (.lit (.bool x)) (.lit (.bool y))=some (B (decide (x ≠ y))):=by cases x <;> cases y <;> rfl
@[simp] theorem aun_not {x : Bool} : aun .not (.lit (.bool x))=some (B !x):=rfl
@[simp] theorem ztZ {t : Bool} {x y : AV} : apick (.lit (.bool t)) x y=some (if t then x else y):=rfl
@[simp] theorem imn_eq : imn a b=min b a:=by unfold imn; omega
@[simp] theorem imx_eq : imx a b=max b a:=by unfold imx; omega
@[simp] theorem amm_two {f : Int→Int→Int} : amm f [.lit (.int k a),.lit (.int k b)]=some (.lit (.int k (f a b))):=rfl
theorem acI_i64 {k' : IntKind} (h1 : -9223372036854775808≤a) (h2 : a≤9223372036854775807) : acI .i64 (.lit (.int k' a))=some (I a):=by simp [acI,wrap64 h1 h2]
end
@[simp] theorem zbcZ {vs : List AV} {i : Nat} : zhZ (.tup vs) i=vs[i]?:=rfl
@[simp] theorem zxZ {o off : Nat} : zdZ (.ptr o off)=some (.ptr o off):=rfl
@[simp] theorem anilCheck_ip {cs : List AV} : zdZ (.ip cs)=some (.ip cs):=rfl
@[simp] theorem znZ {k o off : Nat} : ashift k (.ptr o off)=some (.ptr o (off + k)):=rfl
@[simp] theorem ashift_ip {k : Nat} {cs : List AV} : ashift k (.ip cs)=some (.ip (cs.drop k)):=rfl
@[simp] theorem ald_ip {g : Bool} {n : Nat} {H : AH} {cs : List AV} : ald g n H (.ip cs)=rdCells g n cs 0:=rfl
theorem ald_ptr {g : Bool} {n o off : Nat} {H : AH} {cs : List AV} (h : H[o]? = some (some (.cells cs))) : ald g n H (.ptr o off)=rdCells g n cs off:=by simp [ald,h]
@[simp] theorem zeZ {n : Nat} {cs : List AV} {off : Nat} : rdCells false n cs off=cs[off]?:=by simp [rdCells]
theorem rdCells_agg {n : Nat} {cs : List AV} {off : Nat} (h : off + n≤cs.length) : rdCells true n cs off=some (.agg ((cs.drop off).take n)):=by simp [rdCells,h]
@[simp] theorem aprt_agg {g : Bool} {n off : Nat} {cs : List AV} : aprt g n off (.agg cs)=rdCells g n cs off:=rfl
@[simp] theorem anew_agg {H : AH} {cs : List AV} : anew H (.agg cs)=if cs.all oneA then some (.ptr H.length 0,H ++ [some (.cells cs)]) else none:=by
 unfold anew cellsA
 simp only
 split <;> simp
theorem anew_lit {H : AH} {v : Value} (h : oneA (.lit v)=true) : anew H (.lit v)=some (.ptr H.length 0,H ++ [some (.cells [.lit v])]):=by
 unfold anew cellsA
 simp only [h,if_true]
 rfl
theorem ast_ptr {n o off : Nat} {H : AH} {x : AV} {xs cs : List AV} (hx : cellsA x=some xs) (h : H[o]? = some (some (.cells cs))) (hl : xs.length=n) (hb : off + n≤cs.length) : ast n H (.ptr o off) x=some (H.set o (some (.cells (splice cs off xs)))):=by
 simp [ast,hx,h,hl,hb]
@[simp] theorem oneA_int {k : IntKind} {n : Int} : oneA (.lit (.int k n))=true:=rfl
@[simp] theorem oneA_bool {b : Bool} : oneA (.lit (.bool b))=true:=rfl
@[simp] theorem oneA_str {s : ByteArray} : oneA (.lit (.string s))=true:=rfl
@[simp] theorem oneA_nil {n c : Nat} : oneA (.lit (.slice none n c))=true:=rfl
@[simp] theorem oneA_nilm : oneA (.lit (.map none))=true:=rfl
@[simp] theorem oneA_nilp : oneA (.lit (.pointer none))=true:=rfl
@[simp] theorem oneA_sl {o off len esz : Nat} {cap : Room} : oneA (.sl o off len esz cap)=true:=rfl
@[simp] theorem oneA_imm {cs : List AV} {len esz : Nat} : oneA (.imm cs len esz)=true:=rfl
@[simp] theorem oneA_ptr {o off : Nat} : oneA (.ptr o off)=true:=rfl
@[simp] theorem oneA_emp : oneA .emp=true:=rfl
@[simp] theorem oneA_mp {o : Nat} : oneA (.mp o)=true:=rfl
@[simp] theorem cellsA_int {k : IntKind} {n : Int} : cellsA (.lit (.int k n))=some [.lit (.int k n)]:=rfl
@[simp] theorem cellsA_bool {b : Bool} : cellsA (.lit (.bool b))=some [.lit (.bool b)]:=rfl
@[simp] theorem cellsA_str {s : ByteArray} : cellsA (.lit (.string s))=some [.lit (.string s)]:=rfl
@[simp] theorem cellsA_nil {n c : Nat} : cellsA (.lit (.slice none n c))=some [.lit (.slice none n c)]:=rfl
@[simp] theorem cellsA_nilm : cellsA (.lit (.map none))=some [.lit (.map none)]:=rfl
@[simp] theorem cellsA_nilp : cellsA (.lit (.pointer none))=some [.lit (.pointer none)]:=rfl
@[simp] theorem cellsA_sl {o off len esz : Nat} {cap : Room} : cellsA (.sl o off len esz cap)=some [.sl o off len esz cap]:=rfl
@[simp] theorem cellsA_imm {cs : List AV} {len esz : Nat} : cellsA (.imm cs len esz)=some [.imm cs len esz]:=rfl
@[simp] theorem cellsA_ptr {o off : Nat} : cellsA (.ptr o off)=some [.ptr o off]:=rfl
@[simp] theorem cellsA_emp : cellsA .emp=some [.emp]:=rfl
@[simp] theorem cellsA_mp {o : Nat} : cellsA (.mp o)=some [.mp o]:=rfl
@[simp] theorem cellsA_agg {cs : List AV} : cellsA (.agg cs)=if cs.all oneA then some cs else none:=rfl
theorem zbuZ {v : AV} (h : oneA v=true) : cellsA v=some [v]:=by
 cases v <;> first
  | rfl
  | (rename_i u; cases u <;> first | rfl | simp [oneA] at h)
  | simp [oneA] at h
@[simp] theorem fillR_nil {cells : List AV} : fillR cells []=some cells:=rfl
@[simp] theorem fillR_cons {cells : List AV} {off size : Nat} {v : AV} {r : List (Nat × Nat × AV)} : fillR cells ((off,size,v) :: r)=match cellsA v with
  | some xs => if xs.length=size∧off + size≤cells.length then fillR (splice cells off xs) r else none
  | none => none:=rfl
attribute [simp] abl absl absf zrow splice LI0 LI1 LI2 LI3 LI4 LI5 LI6 LI7 LI8 LI9 LI10 LI11 LI12 LI13 LI14 LI15 LI16 LI17 LI18
@[simp] theorem ald_ptr' {g : Bool} {n o off : Nat} {H : AH} : ald g n H (.ptr o off)=match H[o]? with
  | some (some (.cells cs)) => rdCells g n cs off
  | _ => none:=rfl
@[simp] theorem alnS_imm {cs : List AV} {len esz : Nat} : alnS (.imm cs len esz)=some (I len):=rfl
@[simp] theorem alnS_nil : alnS (.lit (.slice none 0 0))=some (I 0):=rfl
@[simp] theorem alnS_sl {o off len esz : Nat} {cap : Room} : alnS (.sl o off len esz cap)=some (I len):=rfl
@[simp] theorem alnT_str {s : ByteArray} : alnT (.lit (.string s))=some (I s.size):=rfl
section
variable {P : Program} {f : FuncId} {args : List AV} {R : AV}
theorem BPure.flat (h : ∀ H,∃ r H',(r=R∧H'=H)∧BCall P f args H r H') : BPure P f args R:=fun H => by
 obtain ⟨r,H',⟨rfl,rfl⟩,h⟩:=h H
 exact h
end
def SV {α : Type} (enc : α→List AV) (sz : Nat) (l : List α) (v : AV) : Prop:=noIds v=true∧∀ H,zaZ H sz v=some (l.flatMap enc,l.length)
section
variable {α : Type} {enc : α→List AV} {sz : Nat} {l : List α} {v : AV}
theorem SV.nil : SV enc sz [] nilSl:=⟨rfl,fun _ => rfl⟩
theorem SV.len (h : SV enc sz l v) : alnS v=some (I l.length):=by
 have h2:=h.2 []
 unfold zaZ at h2
 split at h2
 ·split at h2
  ·injection h2 with h2; injection h2 with e1 e2; rw [← e2]; rfl
  ·cases h2
 ·simp at h2
 ·injection h2 with h2; injection h2 with e1 e2; rw [← e2]; rfl
 ·injection h2 with h2; injection h2 with e1 e2; rw [← e2]; rfl
 ·cases h2
theorem zelZ (hsz : ∀ x,(enc x).length=sz) : ∀ {l : List α} {k : Nat} {x : α},l[k]? = some x→(l.flatMap enc).drop (k * sz)=enc x ++ (l.drop (k + 1)).flatMap enc
 | [],k,x,h => by simp at h
 | a :: l,0,x,h => by simp at h; subst h; simp
 | a :: l,k + 1,x,h => by
  have:=zelZ hsz (l:=l) (k:=k) (by simpa using h)
  rw [List.flatMap_cons,Nat.succ_mul,Nat.add_comm,← List.drop_drop,List.drop_left' (hsz a)]
  simpa using this
theorem flatMap_len (hsz : ∀ x,(enc x).length=sz) (l : List α) : (l.flatMap enc).length=l.length * sz:=by
 induction l with
 | nil => simp
 | cons a l ih => simp [List.flatMap_cons,hsz,ih,Nat.succ_mul]; omega
theorem SV.imm (hsz : ∀ x,(enc x).length=sz) (hn : ∀ x ∈ l,noIdss (enc x)=true) : SV enc sz l (.imm (l.flatMap enc) l.length sz):=by
 refine ⟨?_,fun H => ?_⟩
 ·simp only [noIds]
  induction l with
  | nil => rfl
  | cons a l ih =>
   rw [List.flatMap_cons]
   have h1:=hn a (by simp)
   have h2:=ih fun x hx => hn x (by simp [hx])
   generalize enc a=c at h1
   induction c with
   | nil => exact h2
   | cons b c ihc => simp only [noIdss,Bool.and_eq_true,List.cons_append] at h1 ⊢; exact ⟨h1.1,ihc h1.2⟩
 ·simp [zaZ,flatMap_len hsz]
theorem SV.idx (h : SV enc sz l v) (hsz : ∀ x,(enc x).length=sz) {k : Nat} {x : α} {i : Int} (hk : l[k]? = some x) (hi : i=k) : aixS sz v (.lit (.int .i64 i))=some (.ip (enc x ++ (l.drop (k + 1)).flatMap enc)):=by
 subst hi
 have hlt:=(List.getElem?_eq_some_iff.1 hk).1
 have h1:=h.1
 have h2:=h.2 []
 unfold zaZ at h2
 split at h2
 ·rename_i cs len esz
  split at h2
  ·injection h2 with h2; injection h2 with e1 e2
   subst e1; subst e2
   simp only [aixS,aint]
   rw [if_pos ⟨by omega,by omega⟩]
   simp [zelZ hsz hk]
  ·cases h2
 ·simp [noIds] at h1
 ·injection h2 with h2; injection h2 with e1 e2; rw [← e2] at hlt; omega
 ·injection h2 with h2; injection h2 with e1 e2; rw [← e2] at hlt; omega
 ·cases h2
end
end Go.Proofs.YtlbilcpnjgkpjaaGreat.Av
end
section
namespace Go.Proofs.YtlbilcpnjgkpjaaGreat.Av
open Go Go.RowKit
section
variable {α : Type} {sz : Nat} {H : AH} {v : AV} {cs : List AV} {n : Nat}
theorem zbxZ (h : zaZ H sz v=some (cs,n)) : alnS v=some (I n):=by
 unfold zaZ at h
 split at h
 ·split at h
  ·injection h with h; injection h with h1 h2; rw [← h2]; rfl
  ·cases h
 ·split at h
  ·split at h
   ·injection h with h; injection h with h1 h2; rw [← h2]; rfl
   ·cases h
  ·cases h
 ·injection h with h; injection h with h1 h2; rw [← h2]; rfl
 ·injection h with h; injection h with h1 h2; rw [← h2]; rfl
 ·cases h
theorem zjcZ {bytes : Nat} {x : AV} {ds : List AV} {m : Nat} (h1 : zaZ H sz v=some (cs,n)) (ho : ownedS v=true) (h2 : zddZ H sz x=some (ds,m)) (hb : (n + m) * bytes≤140737488355328) :
  ∃ r H',aap sz bytes H v x=some (r,H')∧ownedS r=true∧zaZ H' sz r=some (cs ++ ds,n + m)∧H.length≤H'.length∧(∀ i,i < H.length→i ∉ idS v→H'[i]? = H[i]?)∧∀ i ∈ idS r,i ∈ idS v∨H.length≤i:=by
 obtain ⟨r,H',h⟩:=aapp1_spec h1 ho (appended_len h2) hb
 exact ⟨r,H',by unfold aap; rw [h2]; exact h.1,h.2⟩
theorem aslS_spec (h : zaZ H sz v=some (cs,n)) {lo hi : Option AV} {l k : Nat} (hl : abnd lo 0=some l) (hk : abnd hi n=some k) (hlk : l≤k) (hkn : k≤n) :
  ∃ r,aslS sz v lo hi none=some r∧zaZ H sz r=some ((cs.drop (l * sz)).take ((k - l) * sz),k - l)∧(∀ i ∈ idS r,i ∈ idS v)∧(ownedS v=true→ownedS r=true)∧(noIds v=true→noIds r=true):=by
 have hcl:=zbwZ h
 have hmul : l * sz + (k - l) * sz=k * sz:=by rw [← Nat.add_mul]; congr 1; omega
 have hmul2 : k * sz≤n * sz:=Nat.mul_le_mul_right _ hkn
 unfold zaZ at h
 unfold aslS
 split at h
 ·rename_i c len esz
  split at h
  ·rename_i hb
   obtain ⟨rfl,hb⟩:=hb
   injection h with h; injection h with h1 h2
   subst h1; subst h2
   simp only [hl,hk,hlk,hkn,and_self,if_true]
   refine ⟨_,rfl, ?_,(fun i hi => hi),(fun h => by simp [ownedS] at h),fun h => ?_⟩
   ·simp only [zaZ,true_and]
    rw [if_pos (by rw [List.length_take,List.length_drop]; omega)]
   ·simp only [noIds] at h ⊢
    have key : ∀ (c : List AV) (a b : Nat),noIdss c=true→noIdss ((c.drop a).take b)=true:=by
     intro c
     induction c with
     | nil => intro a b _; simp [noIdss]
     | cons x c ih =>
      intro a b hc
      simp only [noIdss,Bool.and_eq_true] at hc
      cases a with
      | zero =>
       cases b with
       | zero => rfl
       | succ b => simp only [List.drop_zero,List.take_succ_cons,noIdss,Bool.and_eq_true]; exact ⟨hc.1,by simpa using ih 0 b hc.2⟩
      | succ a => simpa using ih a b hc.2
    exact key _ _ _ h
  ·cases h
 ·rename_i o off len esz cap
  split at h
  ·rename_i c hoc
   split at h
   ·rename_i hb
    obtain ⟨rfl,hb⟩:=hb
    injection h with h; injection h with h1 h2
    subst h1; subst h2
    simp only [ne_eq,not_true_eq_false,if_false,hl,hk]
    rw [if_pos ⟨hlk,by omega⟩]
    refine ⟨_,rfl, ?_,(fun i hi => hi),(fun _ => rfl),fun h => by simp [noIds] at h⟩
    rw [zbdZ hoc (by omega),List.drop_take,List.drop_drop,List.take_take]
    congr 3
    omega
   ·cases h
  ·cases h
 ·injection h with h; injection h with h1 h2
  subst h1; subst h2
  obtain rfl : k=0:=by omega
  obtain rfl : l=0:=by omega
  simp only [hl,hk]
  exact ⟨_,rfl,by simp [zaZ],(fun i hi => hi),(fun _ => rfl),fun _ => rfl⟩
 ·injection h with h; injection h with h1 h2
  subst h1; subst h2
  obtain rfl : k=0:=by omega
  obtain rfl : l=0:=by omega
  simp only [hl,hk]
  exact ⟨_,rfl,by simp [zaZ],(fun i hi => hi),(fun _ => rfl),fun _ => rfl⟩
 ·cases h
def rdAt (H : AH) : AV→Option (List AV)
 | .ptr o off => match H[o]? with
  | some (some (.cells cs)) => some (cs.drop off)
  | _ => none
 | .ip cs => some cs
 | _ => none
theorem ald_at {g : Bool} {k : Nat} {p : AV} (h : rdAt H p=some cs) (hk : 0 < k) (hl : k≤cs.length) : ald g k H p=rdCells g k cs 0:=by
 unfold rdAt at h
 unfold ald
 split at h
 ·rename_i o off
  simp only
  split at h
  ·rename_i c hc
   injection h with h
   subst h
   unfold rdCells
   rw [List.length_drop] at hl
   simp only [hc]
   cases g
   ·simp
   ·simp only [if_true]
    rw [if_pos (by omega),if_pos (by rw [List.length_drop]; omega)]
    simp
  ·cases h
 ·injection h with h
  subst h; rfl
 ·cases h
theorem ashift_at {k : Nat} {p : AV} (h : rdAt H p=some cs) : ∃ q,ashift k p=some q∧rdAt H q=some (cs.drop k):=by
 unfold rdAt at h
 split at h
 ·rename_i o off
  split at h
  ·rename_i c hc
   injection h with h
   subst h
   exact ⟨_,rfl,by simp [rdAt,hc]⟩
  ·cases h
 ·injection h with h
  subst h
  exact ⟨_,rfl,rfl⟩
 ·cases h
theorem aixS_spec (h : zaZ H sz v=some (cs,n)) {k : Nat} {i : Int} (hi : i=k) (hk : k < n) : ∃ p c,aixS sz v (.lit (.int .i64 i))=some p∧rdAt H p=some c∧c.take sz=(cs.drop (k * sz)).take sz∧sz≤c.length:=by
 subst hi
 have hcl:=zbwZ h
 have hmul : k * sz + sz≤n * sz:=by rw [← Nat.succ_mul]; exact Nat.mul_le_mul_right _ hk
 unfold zaZ at h
 unfold aixS
 simp only [aint]
 split at h
 ·rename_i c len esz
  split at h
  ·rename_i hb
   obtain ⟨rfl,hb⟩:=hb
   injection h with h; injection h with h1 h2
   subst h1; subst h2
   refine ⟨_,_,if_pos (by omega),rfl,by simp,by simp; omega⟩
  ·cases h
 ·rename_i o off len esz cap
  split at h
  ·rename_i c hoc
   split at h
   ·rename_i hb
    obtain ⟨rfl,hb⟩:=hb
    injection h with h; injection h with h1 h2
    subst h1; subst h2
    refine ⟨_,c.drop (off + k * esz),if_pos (by omega),by simp [rdAt,hoc], ?_,by rw [List.length_drop]; omega⟩
    rw [List.drop_take,List.drop_drop,List.take_take]
    congr 1
    omega
   ·cases h
  ·cases h
 ·injection h with h; injection h with h1 h2; omega
 ·injection h with h; injection h with h1 h2; omega
 ·cases h
end
mutual
theorem frz_noIds (X : AH) : ∀ (a : AV),noIds a=true→∃ n0,∀ n,n0≤n→frz X n a=some a
 | .lit v,_ => ⟨1,fun n hn => by cases n with
  | zero => omega
  | succ n => rfl⟩
 | .ip cs,h => by
  simp only [noIds] at h
  obtain ⟨n0,h0⟩:=zjmZ X cs h
  refine ⟨n0 + 1,fun n hn => ?_⟩
  cases n with
  | zero => omega
  | succ n => simp only [frz,h0 n (by omega)]; rfl
 | .imm cs len esz,h => by
  simp only [noIds] at h
  obtain ⟨n0,h0⟩:=zjmZ X cs h
  refine ⟨n0 + 1,fun n hn => ?_⟩
  cases n with
  | zero => omega
  | succ n => simp only [frz,h0 n (by omega)]; rfl
 | .agg cs,h => by
  simp only [noIds] at h
  obtain ⟨n0,h0⟩:=zjmZ X cs h
  refine ⟨n0 + 1,fun n hn => ?_⟩
  cases n with
  | zero => omega
  | succ n => simp only [frz,h0 n (by omega)]; rfl
 | .tup cs,h => by
  simp only [noIds] at h
  obtain ⟨n0,h0⟩:=zjmZ X cs h
  refine ⟨n0 + 1,fun n hn => ?_⟩
  cases n with
  | zero => omega
  | succ n => simp only [frz,h0 n (by omega)]; rfl
 | .fn f a b,h => by
  simp only [noIds,Bool.and_eq_true] at h
  obtain ⟨n0,h0⟩:=zjmZ X a h.1
  obtain ⟨n1,h1⟩:=zjmZ X b h.2
  refine ⟨n0 + n1 + 1,fun n hn => ?_⟩
  cases n with
  | zero => omega
  | succ n => simp only [frz,h0 n (by omega),h1 n (by omega)]
 | .emp,_ => ⟨1,fun n hn => by cases n with
  | zero => omega
  | succ n => rfl⟩
 | .junk,_ => ⟨1,fun n hn => by cases n with
  | zero => omega
  | succ n => rfl⟩
 | .ptr ..,h => by simp [noIds] at h
 | .sl ..,h => by simp [noIds] at h
 | .mp ..,h => by simp [noIds] at h
theorem zjmZ (X : AH) : ∀ (asx : List AV),noIdss asx=true→∃ n0,∀ n,n0≤n→mapO (frz X n) asx=some asx
 | [],_ => ⟨0,fun _ _ => rfl⟩
 | a :: asx,h => by
  simp only [noIdss,Bool.and_eq_true] at h
  obtain ⟨n0,h0⟩:=frz_noIds X a h.1
  obtain ⟨n1,h1⟩:=zjmZ X asx h.2
  exact ⟨n0 + n1,fun n hn => by simp only [mapO,h0 n (by omega),h1 n (by omega)]⟩
end
theorem frz_slice {X : AH} {sz : Nat} {r : AV} {cs : List AV} {m : Nat} (h : zaZ X sz r=some (cs,m)) (hc : noIdss cs=true) : ∃ R n0,noIds R=true∧(∀ H,zaZ H sz R=some (cs,m))∧∀ n,n0≤n→frz X n r=some R:=by
 have hcl:=zbwZ h
 unfold zaZ at h
 split at h
 ·rename_i c len esz
  split at h
  ·rename_i hb
   injection h with h; injection h with h1 h2
   subst h1; subst h2
   obtain ⟨n0,h0⟩:=frz_noIds X (.imm c len esz) (by simpa only [noIds] using hc)
   exact ⟨_,n0,by simpa only [noIds] using hc,fun H => by simp [zaZ,hb.1,hb.2],h0⟩
  ·cases h
 ·rename_i o off len esz cap
  split at h
  ·rename_i c hoc
   split at h
   ·rename_i hb
    injection h with h; injection h with h1 h2
    obtain ⟨n0,h0⟩:=zjmZ X cs hc
    refine ⟨.imm cs len esz,n0 + 1,by simpa only [noIds] using hc,fun H => ?_,fun n hn => ?_⟩
    ·rw [← h2] at hcl ⊢
     simp [zaZ,hb.1,hcl]
    ·cases n with
     | zero => omega
     | succ n =>
      obtain ⟨rfl,-⟩:=hb
      simp only [frz,hoc,h1,h0 n (by omega)]
      rfl
   ·cases h
  ·cases h
 ·injection h with h; injection h with h1 h2
  subst h1; subst h2
  exact ⟨_,1,rfl,fun H => rfl,fun n hn => by cases n with
   | zero => omega
   | succ n => rfl⟩
 ·injection h with h; injection h with h1 h2
  subst h1; subst h2
  exact ⟨_,1,rfl,fun H => rfl,fun n hn => by cases n with
   | zero => omega
   | succ n => rfl⟩
 ·cases h
section
variable {P : Program} {f : FuncId} {args : List AV}
theorem BPure.fz {Q : AV→Prop} (hb : noIdss args=true) (h : ∃ r X,(∃ n R,frz X n r=some R∧Q R)∧BCall P f args [] r X) : ∃ R,Q R∧BPure P f args R:=by
 obtain ⟨r,X,⟨n,R,hf,hq⟩,h⟩:=h
 exact ⟨R,hq,BPure.of h hb hf⟩
theorem BPure.val {R : AV} (hb : noIdss args=true) (hR : noIds R=true) (h : ∃ r X,r=R∧BCall P f args [] r X) : BPure P f args R:=by
 obtain ⟨r,X,rfl,h⟩:=h
 obtain ⟨n0,h0⟩:=frz_noIds X r hR
 exact BPure.of h hb (h0 n0 (Nat.le_refl _))
theorem BPure.sl {sz : Nat} {cs : List AV} {m : Nat} (hb : noIdss args=true) (hc : noIdss cs=true) (h : ∃ r X,zaZ X sz r=some (cs,m)∧BCall P f args [] r X) : ∃ R,(noIds R=true∧∀ H,zaZ H sz R=some (cs,m))∧BPure P f args R:=by
 obtain ⟨r,X,h1,h⟩:=h
 obtain ⟨R,n0,h2,h3,h4⟩:=frz_slice h1 hc
 exact ⟨R,⟨h2,h3⟩,BPure.of h hb (h4 n0 (Nat.le_refl _))⟩
end
end Go.Proofs.YtlbilcpnjgkpjaaGreat.Av
end
section
namespace Go.Proofs.YtlbilcpnjgkpjaaGreat.Av
open Go Go.RowKit
section
variable {P : Program}
structure RecAt (G : Cfg) (l : Nat) (r : Loop) : Prop where
 h : G.w.heap[l]? = some (.loop r)
 nl : ¬ G.L l
theorem RecAt.evo {G G' : Cfg} {l : Nat} {r : Loop} (h : RecAt G l r) (hE : Evo G G') : RecAt G' l r:=⟨(keep_get hE h.h h.nl).1,(keep_get hE h.h h.nl).2⟩
structure EvoX (l : Nat) (G G' : Cfg) : Prop where
 os : G'.w.os=G.w.os
 tape : G'.w.tape=G.w.tape
 output : G'.w.output=G.w.output
 size : G.w.heap.size≤G'.w.heap.size
 keep : ∀ k,k < G.w.heap.size→k ≠ l→¬ G.L k→G'.w.heap[k]? = G.w.heap[k]?∧¬ G'.L k
 n : G.n≤G'.n
 μ : ∀ o,o < G.n→G'.μ o=G.μ o
 K : G'.K=G.K
 has : ∀ ad vs,Has G ad vs→Has G' ad vs
theorem EvoX.tr {l : Nat} {G G' : Cfg} (h : EvoX l G G') : Tr G G':=⟨h.n,h.μ,h.has⟩
theorem Evo.x {l : Nat} {G G' : Cfg} (h : Evo G G') : EvoX l G G':=⟨h.os,h.tape,h.output,h.size,fun k hk _ hL => h.keep k hk hL,h.n,h.μ,h.K,fun _ _ hh => hh.evo h⟩
theorem EvoX.trans {l : Nat} {A B C : Cfg} (h : EvoX l A B) (k : EvoX l B C) : EvoX l A C :=
 ⟨k.os.trans h.os,k.tape.trans h.tape,k.output.trans h.output,Nat.le_trans h.size k.size,fun i hi hne hL => by
  obtain ⟨a1,a2⟩:=h.keep i hi hne hL
  obtain ⟨b1,b2⟩:=k.keep i (Nat.lt_of_lt_of_le hi h.size) hne a2
  exact ⟨b1.trans a1,b2⟩,Nat.le_trans h.n k.n,fun o ho => (k.μ o (Nat.lt_of_lt_of_le ho h.n)).trans (h.μ o ho),k.K.trans h.K,fun ad vs hh => k.has ad vs (h.has ad vs hh)⟩
theorem loop_nc {r : Loop} : ∀ c e f,Obj.loop r ≠ .cells c e f:=by intro c e f h; cases h
theorem put_size (w : World) (l : Nat) (x : Obj) : (w.putObj l x).heap.size=w.heap.size:=by simp [World.putObj]
theorem EvoX.put {l : Nat} {G : Cfg} {r : Loop} (h : G.w.heap[l]? = some (.loop r)) (x : Obj) : EvoX l G (G.put l x) :=
 ⟨rfl,rfl,rfl,by simp only [Cfg.put,put_size]; exact Nat.le_refl _,fun k hk hne hL => ⟨by simp only [Cfg.put]; exact World.putObj_heap_other hne,hL⟩,Nat.le_refl _,fun _ _ => rfl,rfl,(Tr.put h loop_nc x).has⟩
theorem Evo.transX {l : Nat} {A B C : Cfg} (h : Evo A B) (hl : A.w.heap.size≤l) (k : EvoX l B C) : Evo A C :=
 ⟨k.os.trans h.os,k.tape.trans h.tape,k.output.trans h.output,Nat.le_trans h.size k.size,fun i hi hL => by
  obtain ⟨a1,a2⟩:=h.keep i hi hL
  obtain ⟨b1,b2⟩:=k.keep i (Nat.lt_of_lt_of_le hi h.size) (by omega) a2
  exact ⟨b1.trans a1,b2⟩,Nat.le_trans h.n k.n,fun o ho => (k.μ o (Nat.lt_of_lt_of_le ho h.n)).trans (h.μ o ho),k.K.trans h.K⟩
theorem DF.x {l : Nat} {G G' : Cfg} {ρ : Rnd} {a a' : Act} (h : DF G ρ a) (hE : EvoX l G G') (ha : a'.defers=a.defers) (hn : ∀ D,G.w.heap[D]? = some (.deferred (some []))→D ≠ l) (hr : ρ.1=some l→∃ r,G'.w.heap[l]? = some (.loop r)∧¬ G'.L l) : DF G' ρ a':=by
 obtain ⟨⟨Ds,h1,h2,h3⟩,h4,h5⟩:=h
 refine ⟨⟨Ds,by rw [ha,h1],h2,fun D hD => ?_⟩,fun l' hl' => ?_,Nat.le_trans h5 hE.size⟩
 ·obtain ⟨a1,a2,a3⟩:=h3 D hD
  obtain ⟨b1,b2⟩:=hE.keep D (Array.getElem?_eq_some_iff.1 a3).1 (hn D a3) a2
  exact ⟨a1,b2,by rw [b1]; exact a3⟩
 ·by_cases c : l'=l
  ·subst c; exact hr hl'
  ·obtain ⟨r,a1,a2⟩:=h4 l' hl'
   obtain ⟨b1,b2⟩:=hE.keep l' (Array.getElem?_eq_some_iff.1 a1).1 c a2
   exact ⟨r,by rw [b1]; exact a1,b2⟩
def RndOk (P : Program) (assign body : Code) (T : List AV) (p : Tmp) (x : AV) (H : AH) (J : AH→Prop) (X : Code→AH→Prop) : Prop :=
 ∃ T1,BCode P assign (T.set p x) H .normal T1 H∧ACode P body (fun e _ H' => match e with
  | .normal => J H'
  | .ret => X .ret H'
  | .exit id => X (.exit id) H'
  | _ => False) T1 H
theorem zpjZ {w : World} {l : Nat} {r : Loop} (h : w.heap[l]? = some (.loop r)) : ∀ D,w.heap[D]? = some (.deferred (some []))→D ≠ l:=by
 rintro D hD rfl
 rw [h] at hD; cases hD
theorem round_yield {G : Cfg} {l : Nat} {rec : Loop} {T : List AV} {p : Tmp} {x : AV} {v : Value} {H : AH} {J : AH→Prop} {X : Code→AH→Prop} (hH : HR G H) (hR : RecAt G l rec) (hrd : rec.state = .ready) (hpd : rec.pending=none) (hps : rec.params = #[p])
  (hT : VRs G T rec.tmps.toList) (hx : VR G x v) (h : RndOk P rec.assign rec.body T p x H J X) :
  YieldAt (FW none) 0 P l #[v] G.w fun e W' => ∃ (G' : Cfg) (H' : AH),G'.w=W'∧EvoX l G G'∧HR G' H'∧((e = .returned (.bool true)∧RecAt G' l rec∧J H')∨(e = .returned (.bool false)∧∃ c,RecAt G' l { rec with state:=.done,pending:=some c }∧X c H')):=by
 refine ⟨rec.fn,_,rec.assign,rec.body,run_yield hR.h (by simp [hps]),roundIn_of_wpIn trivial ?_⟩
 obtain ⟨T1,hA,hB⟩:=h
 have hF : FR G (T.set p x) { tmps:=(rec.params.zip #[v]).foldl (fun tmps (t,a) => tmps.setIfInBounds t a) rec.tmps,defers:=[] } := by
  show VRs G _ _
  rw [hps]
  simp only [Array.zip,Array.zipWith,List.size_toArray,List.length_cons,List.length_nil]
  have : (#[p].zip #[v]).foldl (fun tmps (x : Tmp × Value) => tmps.setIfInBounds x.1 x.2) rec.tmps=rec.tmps.setIfInBounds p v:=by simp
  refine (?_ : VRs G (T.set p x) ((#[p].zip #[v]).foldl (fun tmps (x : Tmp × Value) => tmps.setIfInBounds x.1 x.2) rec.tmps).toList)
  rw [this,Array.toList_setIfInBounds]
  exact hT.set p hx
 have w1:=hA G G _ (some l,0) (Evo.refl G) hF ⟨⟨[],rfl,List.nodup_nil,fun _ h => (by cases h)⟩,fun l' hl' => (by injection hl' with hl'; subst hl'; exact ⟨rec,hR.h,hR.nl⟩),Nat.zero_le _⟩ hH
 refine Code.wpIn_mono ?_ w1
 rintro e a1 w1' ⟨T',H',G1,rfl,hE1,hF1,hd1,hH1,hq⟩
 simp only [AQ.is,Prod.mk.injEq] at hq
 obtain ⟨rfl,rfl,rfl⟩:=hq
 have hR1:=hR.evo hE1
 refine ⟨_,run_beginRound hR1.h hrd, ?_⟩
 have live : ∀ {G : Cfg} {H : AH} {r : Loop},HR G H→RecAt G l r→∀ (o : Nat) (z : AObj),H[o]? = some (some z)→(G.μ o).1 ≠ l:=fun hH hR o z ho e => hR.nl (by have:=hH.live o z ho; rwa [e] at this)
 have hX2 : EvoX l G1 (G1.put l (.loop { rec with state:=.busy })):=EvoX.put hR1.h _
 have hH2:=hH1.putO (live hH1 hR1) hR1.h loop_nc (.loop { rec with state:=.busy })
 have hR2 : RecAt (G1.put l (.loop { rec with state:=.busy })) l { rec with state:=.busy } := ⟨World.putObj_heap_same (Array.getElem?_eq_some_iff.1 hR1.h).1,hR1.nl⟩
 have w2:=hB (G1.put l (.loop { rec with state:=.busy })) (G1.put l (.loop { rec with state:=.busy })) a1 (some l,0) (Evo.refl _) (VRs.tr hX2.tr hF1) (hd1.x hX2 rfl (zpjZ hR1.h) fun _ => ⟨_,hR2.h,hR2.nl⟩) hH2
 refine Code.wpIn_mono ?_ w2
 rintro e a3 w3 ⟨T3,H3,G3,rfl,hE3,hF3,hd3,hH3,hq⟩
 have hR3:=hR2.evo hE3
 have fin : ∀ x,EvoX l G (G3.put l x):=fun x => (hE1.x.trans hX2).trans (hE3.x.trans (EvoX.put hR3.h x))
 have finR : ∀ r,RecAt (G3.put l (.loop r)) l r:=fun r => ⟨World.putObj_heap_same (Array.getElem?_eq_some_iff.1 hR3.h).1,hR3.nl⟩
 have finH : ∀ x,HR (G3.put l x) H3:=fun x => hH3.putO (live hH3 hR3) hR3.h loop_nc x
 cases e with
 | normal =>
  refine ⟨_,_,run_endRound none hR3.h,G3.put l _,H3,rfl,fin _,finH _,.inl ⟨rfl, ?_,hq⟩⟩
  have : ({ { rec with state:=.busy } with state:=if (none : Option Code).isNone then .ready else .done,pending:=none } : Loop)=rec:=by
   obtain ⟨s,pe,f1,f2,f3,f4,f5,f6⟩:=rec
   simp only at hrd hpd
   subst hrd; subst hpd; rfl
  have h2:=finR ({ { rec with state:=.busy } with state:=if (none : Option Code).isNone then .ready else .done,pending:=none })
  rw [this] at h2 ⊢
  exact h2
 | ret => exact ⟨_,_,run_endRound (some .ret) hR3.h,G3.put l _,H3,rfl,fin _,finH _,.inr ⟨rfl,.ret,finR _,hq⟩⟩
 | exit id => exact ⟨_,_,run_endRound (some (.exit id)) hR3.h,G3.put l _,H3,rfl,fin _,finH _,.inr ⟨rfl,.exit id,finR _,hq⟩⟩
 | goto t => exact hq.elim
 | panic ch => exact hq.elim
 | outgrown => exact hq.elim
def IterOk (P : Program) (k : FuncId) (cap : List AV) (Cap : AH→Prop) (xs : List AV) : Prop :=
 ∀ (G : Cfg) (l : Nat) (rec : Loop) (T : List AV) (p : Tmp) (H : AH) (vc : List Value) (J : Nat→AH→Prop) (X : Code→AH→Prop),HR G H→RecAt G l rec→rec.state = .ready→rec.pending=none→rec.params = #[p]→VRs G T rec.tmps.toList→VRs G cap vc→J 0 H →
  (∀ i H',J i H'→Cap H')→(∀ i x H',xs[i]? = some x→J i H'→RndOk P rec.assign rec.body T p x H' (J (i + 1)) X) →
  CallsIn (FW none) 0 P k (#[.func (.yield l) #[] #[]] ++ vc.toArray) G.w fun e W' => (∃ v,e = .returned v)∧∃ (G' : Cfg) (H' : AH),G'.w=W'∧EvoX l G G'∧HR G' H'∧((RecAt G' l rec∧J xs.length H')∨∃ c,RecAt G' l { rec with state:=.done,pending:=some c }∧X c H')
theorem HR.allocO {G : Cfg} {H : AH} (hr : HR G H) (x : Obj) : HR { G with w:=G.w.alloc x } H∧Evo G { G with w:=G.w.alloc x } := by
 have hE : Evo G { G with w:=G.w.alloc x } := ⟨rfl,rfl,rfl,by simp,fun k hk hL => ⟨Below.heap_alloc _ _ _ hk,hL⟩,Nat.le_refl _,fun _ _ => rfl,rfl⟩
 exact ⟨⟨hr.n,fun o z ho => OR.evo hE (hr.lt_n ho) (Below.heap_alloc _ _ _ (hr.lt _ (.inl (hr.live _ _ ho)))) (hr.obj o z ho),hr.inj,hr.live,fun b hb => by have:=hr.lt b hb; simp; omega,hr.dis⟩,hE⟩
theorem marks_inj : ∀ {A B : List Nat},A.map mark=B.map mark→A=B
 | [],[],_ => rfl
 | [],b :: B,h => by simp at h
 | a :: A,[],h => by simp at h
 | a :: A,b :: B,h => by
  simp only [List.map_cons,List.cons.injEq] at h
  have h1 : a=b:=by
   have:=h.1
   injection this with h2 _
   injection h2
  rw [h1,marks_inj h.2]
theorem ACode.rangeF {g : Operand} {p : Tmp} {assign body : Code} {Q : AQ} {T : List AV} {H : AH} {k : FuncId} {cap xs : List AV} {Cap : AH→Prop} (hit : IterOk P k cap Cap xs) (hgo : goFunc P k=true) (hg : aeval T g = .fn (.func k) [] cap)
  (J : Nat→AH→Prop) (X : Code→AH→Prop) (h0 : J 0 H) (hcap : ∀ i H',J i H'→Cap H') (hr : ∀ i x H',xs[i]? = some x→J i H'→RndOk P assign body T p x H' (J (i + 1)) X) (hdone : ∀ H',J xs.length H'→Q .normal T H')
  (hout : ∀ c H',X c H'→(c = .ret∧Q .ret T H')∨∃ id,c = .exit id∧Q (.exit id) T H') : ACode P (.rangeFunc g #[p] assign body) Q T H:=by
 intro G0 G a ρ hE hF hd hH
 refine wpIn_rangeFunc ?_
 intro fn _
 -- the record is laid
 obtain ⟨l,mk,G1,rec,e1,hE1,hH1,hR,hrd,hpd,hps,htm,has,hbd,hsz,hd1⟩ : ∃ (l : Nat) (mk : List Deferred) (G1 : Cfg) (rec : Loop),(Instr.enterLoop fn a.tmps #[p] assign body (FW ρ.1).round).run P G.w = .ok (l,mk) G1.w∧Evo G G1∧HR G1 H∧RecAt G1 l rec∧rec.state = .ready∧rec.pending=none ∧
   rec.params = #[p]∧rec.tmps=a.tmps∧rec.assign=assign∧rec.body=body∧G.w.heap.size≤l∧DF G1 ρ { a with defers:=mk ++ a.defers } := by
  have nL : ∀ b,G.w.heap.size≤b→¬ G.L b:=fun b hb hL => by have:=hH.lt b (.inl hL); omega
  cases hρ : ρ.1 with
  | none =>
   obtain ⟨k1,k2⟩:=hH.allocO (.deferred (some []))
   obtain ⟨k3,k4⟩:=k1.allocO (.loop { state:=.ready,pending:=none,fn,tmps:=a.tmps,params:=#[p],assign,body,defers:=G.w.heap.size })
   refine ⟨G.w.heap.size + 1,_,_,{ state:=.ready,pending:=none,fn,tmps:=a.tmps,params:=#[p],assign,body,defers:=G.w.heap.size },run_enterLoop_outer _ _ _ _ _,k2.trans k4,k3,⟨?_,nL _ (by omega)⟩,rfl,rfl,rfl,rfl,rfl,rfl,by omega, ?_⟩
   ·have:=World.alloc_heap_new (G.w.alloc (.deferred (some []))) (.loop { state:=.ready,pending:=none,fn,tmps:=a.tmps,params:=#[p],assign,body,defers:=G.w.heap.size })
    rwa [World.size_alloc] at this
   ·have hD : ((G.w.alloc (.deferred (some []))).alloc (.loop { state:=.ready,pending:=none,fn,tmps:=a.tmps,params:=#[p],assign,body,defers:=G.w.heap.size })).heap[G.w.heap.size]? = some (.deferred (some [])) :=
     (Below.heap_alloc _ _ _ (by simp)).trans (World.alloc_heap_new G.w _)
    obtain ⟨⟨Ds,h1,h2,h3⟩,h4,h5⟩:=hd.evo (k2.trans k4) (a':=a) rfl
    refine ⟨⟨G.w.heap.size :: Ds,by simp [h1],List.nodup_cons.2 ⟨fun hm => ?_,h2⟩,fun D hDm => ?_⟩,h4,h5⟩
    ·obtain ⟨⟨Ds',h1',h2',h3'⟩,-,-⟩:=hd
     have : Ds'=Ds:=by
      rw [h1] at h1'
      exact (marks_inj h1').symm
     have:=(Array.getElem?_eq_some_iff.1 (h3' _ (by rw [this]; exact hm)).2.2).1
     omega
    ·rcases List.mem_cons.1 hDm with rfl | hDm
     ·exact ⟨hd.lb,nL _ (Nat.le_refl _),hD⟩
     ·exact h3 D hDm
  | some l0 =>
   obtain ⟨r0,hr0,hl0⟩:=hd.round l0 hρ
   obtain ⟨k1,k2⟩:=hH.allocO (.loop { state:=.ready,pending:=none,fn,tmps:=a.tmps,params:=#[p],assign,body,defers:=r0.defers })
   exact ⟨G.w.heap.size,[],_,{ state:=.ready,pending:=none,fn,tmps:=a.tmps,params:=#[p],assign,body,defers:=r0.defers },run_enterLoop_inner hr0 _ _ _ _ _,k2,k1,⟨World.alloc_heap_new G.w _,nL _ (Nat.le_refl _)⟩,rfl,rfl,rfl,rfl,rfl,rfl,Nat.le_refl _,hd.evo k2 rfl⟩
 have hfv:=hF.eval g
 rw [hg] at hfv
 simp only [VR] at hfv
 obtain ⟨va,vb,hv,hva,hvb⟩:=hfv
 have : va = #[]:=by simp only [VRs] at hva; exact Array.toList_eq_nil_iff.1 hva
 subst this
 have hci : (invoke (.fn (.func k) vb) #[.func (.yield l) #[] #[]]).run P G1.w = .ok (.enter k (#[.func (.yield l) #[] #[]] ++ vb)) G1.w:=by
  unfold goFunc at hgo
  split at hgo
  ·rename_i f0 hfn'
   simp only [Bool.and_eq_true,Bool.not_eq_true'] at hgo
   obtain ⟨b,hbody⟩:=Option.isSome_iff_exists.1 hgo.1
   have hne : ¬ f0.name = "runtime.NumGoroutine" := by have := hgo.2; simpa using this
   simp [invoke,callFunc,hfn',hne,hbody]
  ·cases hgo
 refine ⟨l,mk,G1.w,{ target:=.fn (.func k) vb,args:=#[.func (.yield l) #[] #[]] },G1.w,k,#[.func (.yield l) #[] #[]] ++ vb,G1.w,e1, ?_,fun _ _ => trivial,hci,fun hn => (by simp [Fence.wide] at hn), ?_⟩
 ·simp only [resolve,hv]
  simp [go_sem]
 ·have hT1 : VRs G1 T rec.tmps.toList:=by rw [htm]; exact VRs.evo hE1 hF
  have hc:=hit G1 l rec T p H vb.toList J X hH1 hR hrd hpd hps hT1 (VRs.evo hE1 hvb) h0 hcap (by rw [has,hbd]; exact hr)
  have hc2 : CallsIn (FW ρ.1) 0 P k (#[.func (.yield l) #[] #[]] ++ vb) G1.w fun e W' => (∃ v,e = .returned v)∧∃ (G' : Cfg) (H' : AH),G'.w=W'∧EvoX l G1 G'∧HR G' H'∧((RecAt G' l rec∧J xs.length H')∨∃ c,RecAt G' l { rec with state:=.done,pending:=some c }∧X c H'):=by
   have h1 : (vb.toList.toArray)=vb:=by simp
   rw [h1] at hc
   cases ρ.1 with
   | none => exact hc
   | some l0 => exact CallsIn.inRound l0 hc
  refine CallsIn.mono hc2 ?_
  rintro e W' ⟨⟨v,rfl⟩,G2,H2,rfl,hX,hH2,hcase⟩
  have fin : ∀ (r : Loop),RecAt G2 l r→∀ x,Evo G0 (G2.put l x):=fun r hr x => (hE.trans hE1).transX (Nat.le_trans hE.size hsz) (hX.trans (EvoX.put hr.h x))
  have ndf : ∀ D,G1.w.heap[D]? = some (.deferred (some []))→D ≠ l:=zpjZ hR.h
  have finD : ∀ (r : Loop),RecAt G2 l r→∀ r',DF (G2.put l (.loop r')) ρ { a with defers:=mk ++ a.defers } := fun r hr r' => hd1.x (hX.trans (EvoX.put hr.h _)) rfl ndf (fun _ => ⟨r',World.putObj_heap_same (Array.getElem?_eq_some_iff.1 hr.h).1,hr.nl⟩)
  have finH : ∀ (r : Loop),RecAt G2 l r→∀ x,HR (G2.put l x) H2:=fun r hr x => hH2.putO (fun o z ho e => hr.nl (by have:=hH2.live o z ho; rwa [e] at this)) hr.h loop_nc x
  have finF : ∀ (r : Loop),RecAt G2 l r→∀ x,FR (G2.put l x) T { a with defers:=mk ++ a.defers } := fun r hr x => VRs.tr (hX.trans (EvoX.put hr.h x)).tr (VRs.evo hE1 hF)
  rcases hcase with ⟨hr2,hj⟩ | ⟨c,hr2,hx⟩
  ·refine ⟨none,_, ?_,T,H2,G2.put l (.loop { rec with state:=.exhausted }),rfl,fin _ hr2 _,finF _ hr2 _,finD _ hr2 _,finH _ hr2 _,hdone H2 hj⟩
   have:=run_endLoop (P:=P) hr2.h (by rw [hrd]; simp)
   refine this.trans ?_
   rw [hpd]
   rfl
  ·refine ⟨some c,_,run_endLoop (P:=P) hr2.h (by simp), ?_⟩
   rcases hout c H2 hx with ⟨rfl,hq⟩ | ⟨id,rfl,hq⟩
   ·exact wpIn_ret ⟨T,H2,G2.put l (.loop { { rec with state:=.done,pending:=some _ } with state:=.exhausted }),rfl,fin _ hr2 _,finF _ hr2 _,finD _ hr2 _,finH _ hr2 _,hq⟩
   ·exact wpIn_exit ⟨T,H2,G2.put l (.loop { { rec with state:=.done,pending:=some _ } with state:=.exhausted }),rfl,fin _ hr2 _,finF _ hr2 _,finD _ hr2 _,finH _ hr2 _,hq⟩
end
end Go.Proofs.YtlbilcpnjgkpjaaGreat.Av
end
section
namespace Go.Proofs.YtlbilcpnjgkpjaaGreat.Av
open Go Go.RowKit
section
variable {P : Program}
structure XSt (l : Nat) (G0 G : Cfg) (T : List AV) (H : AH) (r : Loop) (a : Act) : Prop where
 x : EvoX l G0 G
 f : FR G T a
 d : DF G (none,G0.w.heap.size) a
 h : HR G H
 ra : RecAt G l r
abbrev XQ:=Exit→List AV→AH→Loop→Prop
def XPost (l : Nat) (G0 : Cfg) (Q : XQ) : Exit→Act→World→Prop:=fun e a w => ∃ (T : List AV) (H : AH) (G : Cfg) (r : Loop),G.w=w∧XSt l G0 G T H r a∧Q e T H r
def XCode (P : Program) (l : Nat) (G0 : Cfg) (c : Code) (Q : XQ) (T : List AV) (H : AH) (r : Loop) : Prop :=
 ∀ (G : Cfg) (a : Act),XSt l G0 G T H r a→c.wpIn (FW none) 0 P (XPost l G0 Q) a G.w
def XOps (P : Program) (l : Nat) (G0 : Cfg) (ops : Array Oper) (Q : XQ) (lst : List Oper) (T : List AV) (H : AH) (r : Loop) : Prop :=
 ∀ (G : Cfg) (a : Act),XSt l G0 G T H r a→wpListIn (FW none) 0 P ops (XPost l G0 Q) lst a G.w
variable {l : Nat} {G0 : Cfg}
theorem xpost_now {Q : XQ} {e : Exit} {T : List AV} {H : AH} {r : Loop} (h : Q e T H r) {G : Cfg} {a : Act} (hs : XSt l G0 G T H r a) : XPost l G0 Q e a G.w:=⟨T,H,G,r,rfl,hs,h⟩
theorem XCode.of {c : Code} {Q : XQ} {T : List AV} {H : AH} {r : Loop} (h : ACode P c (fun e T H => Q e T H r) T H) : XCode P l G0 c Q T H r:=by
 intro G a hs
 refine Code.wpIn_mono ?_ (h G G a (none,G0.w.heap.size) (Evo.refl G) hs.f hs.d hs.h)
 rintro e a w ⟨T',H',G',rfl,hE,hF,hd,hH,hq⟩
 exact ⟨T',H',G',r,rfl,⟨hs.x.trans hE.x,hF,hd,hH,hs.ra.evo hE⟩,hq⟩
def XQ.then (next : List AV→AH→Loop→Prop) (Q : XQ) : XQ
 | .normal,T,H,r => next T H r
 | e,T,H,r => Q e T H r
theorem XCode.seq {x y : Code} {Q : XQ} {T : List AV} {H : AH} {r : Loop} (h : XCode P l G0 x (XQ.then (XCode P l G0 y Q) Q) T H r) : XCode P l G0 (.seq x y) Q T H r:=by
 intro G a hs
 refine wpIn_seq (Code.wpIn_mono ?_ (h G a hs))
 rintro e a' w' ⟨T',H',G',r',rfl,hs',hq⟩
 cases e with
 | normal => exact hq G' a' hs'
 | _ => exact ⟨T',H',G',r',rfl,hs',hq⟩
theorem XCode.cond {c : Operand} {x y : Code} {Q : XQ} {T : List AV} {H : AH} {r : Loop} {b : Bool} (hc : aeval T c = .lit (.bool b)) (h : XCode P l G0 (if b then x else y) Q T H r) : XCode P l G0 (.cond c x y) Q T H r:=by
 intro G a hs
 have:=hs.f.eval c
 rw [hc] at this
 simp only [VR] at this
 exact wpIn_cond this (h G a hs)
theorem XCode.skip {Q : XQ} {T : List AV} {H : AH} {r : Loop} (h : Q .normal T H r) : XCode P l G0 .skip Q T H r:=fun G a hs => wpIn_skip (xpost_now h hs)
theorem XCode.exit {id : Nat} {Q : XQ} {T : List AV} {H : AH} {r : Loop} (h : Q (.exit id) T H r) : XCode P l G0 (.exit id) Q T H r:=fun G a hs => wpIn_exit (xpost_now h hs)
theorem XCode.ret {Q : XQ} {T : List AV} {H : AH} {r : Loop} (h : Q .ret T H r) : XCode P l G0 .ret Q T H r:=fun G a hs => wpIn_ret (xpost_now h hs)
def XQ.inBlock (id : Nat) (Q : XQ) : XQ
 | .exit id',T,H,r => if id'=id then Q .normal T H r else Q (.exit id') T H r
 | e,T,H,r => Q e T H r
theorem XCode.block {id : Nat} {c : Code} {Q : XQ} {T : List AV} {H : AH} {r : Loop} (h : XCode P l G0 c (Q.inBlock id) T H r) : XCode P l G0 (.block id c) Q T H r:=by
 intro G a hs
 refine wpIn_block (Code.wpIn_mono ?_ (h G a hs))
 rintro e a' w' ⟨T',H',G',r',rfl,hs',hq⟩
 cases e with
 | exit id' =>
  simp only [XQ.inBlock] at hq
  simp only [Exit.inBlock]
  split
  ·rename_i he; rw [if_pos he] at hq; exact ⟨T',H',G',r',rfl,hs',hq⟩
  ·rename_i he; rw [if_neg he] at hq; exact ⟨T',H',G',r',rfl,hs',hq⟩
 | _ => exact ⟨T',H',G',r',rfl,hs',hq⟩
theorem XCode.loop {c : Code} {Q : XQ} {T : List AV} {H : AH} {r : Loop} (I : Nat→List AV→AH→Loop→Prop) (n0 : Nat) (h0 : I n0 T H r)
  (round : ∀ n T H r,I n T H r→XCode P l G0 c (XQ.then (fun T' H' r' => ∃ n',n' < n∧I n' T' H' r') Q) T H r) : XCode P l G0 (.loop c) Q T H r:=by
 intro G a hs
 let J : Nat→Act→World→Prop:=fun n a w => ∃ (T : List AV) (H : AH) (G' : Cfg) (r : Loop),G'.w=w∧XSt l G0 G' T H r a∧I n T H r
 have least : ∀ a w,(∃ n,J n a w)→∃ n,J n a w∧∀ m,J m a w→n≤m:=by
  intro a w ⟨n,hn⟩
  induction n using Nat.strongRecOn with
  | _ n ih =>
   by_cases h : ∃ m,m < n∧J m a w
   ·obtain ⟨m,hm,hj⟩:=h; exact ih m hm hj
   ·exact ⟨n,hn,fun m hm => Nat.le_of_not_lt fun hlt => h ⟨m,hlt,hm⟩⟩
 have hμ : ∃ μ : Act→World→Nat,∀ a w,(∃ n,J n a w)→J (μ a w) a w∧∀ m,J m a w→μ a w≤m:=by
  classical
  refine ⟨fun a w => if h : ∃ n,J n a w then Classical.choose (least a w h) else 0,fun a w h => ?_⟩
  simp only [dif_pos h]
  exact Classical.choose_spec (least a w h)
 obtain ⟨μ,hμ⟩:=hμ
 refine wpIn_loop (fun a w => ∃ n,J n a w) μ ⟨n0,T,H,G,r,rfl,hs,h0⟩ ?_
 intro a w hJ
 obtain ⟨⟨T1,H1,G1,r1,rfl,hs1,hI⟩,_⟩:=hμ a w hJ
 refine Code.wpIn_mono ?_ (round _ T1 H1 r1 hI G1 a hs1)
 rintro e a' w' ⟨T',H',G',r',rfl,hs',hq⟩
 cases e with
 | normal =>
  obtain ⟨n',hlt,hI'⟩:=hq
  have hJ' : J n' a' G'.w:=⟨T',H',G',r',rfl,hs',hI'⟩
  exact ⟨⟨n',hJ'⟩,Nat.lt_of_le_of_lt ((hμ a' G'.w ⟨n',hJ'⟩).2 _ hJ') hlt⟩
 | _ => exact ⟨T',H',G',r',rfl,hs',hq⟩
theorem XCode.weak {c : Code} {Q : XQ} {keep : List Bool} {T : List AV} {H : AH} {r : Loop} (hl : T.length=keep.length) (h : XCode P l G0 c Q (expand keep (proj keep T)) H r) : XCode P l G0 c Q T H r :=
 fun G a hs => h G a ⟨hs.x,zjrZ hl hs.f,hs.d,hs.h,hs.ra⟩
theorem XCode.region {id : Nat} {ops : Array Oper} {Q : XQ} {T : List AV} {H : AH} {r : Loop} (h : XOps P l G0 ops Q ops.toList T H r) : XCode P l G0 (.region id ops false) Q T H r :=
 fun G a hs => wpIn_region_list (h G a hs)
theorem XOps.nil {ops : Array Oper} {Q : XQ} {T : List AV} {H : AH} {r : Loop} (h : Q .normal T H r) : XOps P l G0 ops Q [] T H r:=fun G a hs => xpost_now h hs
theorem uponIn_q {F : Fence} {n : Nat} {o : Oper} {a : Act} {w : World} {K : Act→World→Prop} {Q Q' : Exit→Act→World→Prop} (hq : ∀ e a w,e ≠ .normal→Q e a w→Q' e a w) (hh : o.wpIn F n P a w K Q) : o.wpIn F n P a w K Q':=by
 have lo : LetsOut Q→LetsOut Q':=fun ⟨a,w,h⟩ => ⟨a,w,hq _ _ _ (by simp) h⟩
 unfold Oper.wpIn at *
 refine ⟨hh.1, ?_⟩
 have hh:=hh.2
 generalize (o.semAt F.round a.eval).run P w=r at *
 cases r with
 | ok x w' =>
  cases x <;> simp only [Oper.uponIn] at hh ⊢ <;>
   first
    | exact hh
    | exact ⟨hh.1,CallsIn.mono hh.2 (fun e w'' he => by cases e <;> first | exact he | exact hq _ _ _ (by simp) he | exact lo he)⟩
    | exact ⟨hh.1,RoundIn.mono hh.2 (fun e w'' he => by cases e <;> first | exact he | exact hq _ _ _ (by simp) he | exact lo he)⟩
 | halt x w' => cases x <;> simp only [Oper.uponIn] at hh ⊢ <;> first | exact hh | exact hq _ _ _ (by simp) hh
theorem wpList_app {F : Fence} {n : Nat} {ops : Array Oper} {Q1 Q : Exit→Act→World→Prop} {l2 : List Oper} (hn : ∀ a w,Q1 .normal a w→wpListIn F n P ops Q l2 a w) (he : ∀ e a w,e ≠ .normal→Q1 e a w→Q e a w) :
  ∀ (l1 : List Oper) (a : Act) (w : World),wpListIn F n P ops Q1 l1 a w→wpListIn F n P ops Q (l1 ++ l2) a w
 | [],a,w,h => hn a w h
 | o :: l1,a,w,h => by
  show wpListIn F n P ops Q (o :: (l1 ++ l2)) a w
  unfold wpListIn at h ⊢
  split
  ·rename_i hw
   rw [if_pos hw] at h
   exact uponIn_q he (Oper.wpIn_mono (fun a w => wpList_app hn he l1 a w) h)
  ·rename_i hw
   rw [if_neg hw] at h
   exact ⟨h.1,wpList_app hn he l1 _ _ h.2⟩
theorem XOps.pre {ql al : FuncId→Bool} {ops : Array Oper} {l1 l2 : List Oper} {Q : XQ} {T : List AV} {H : AH} {r : Loop} {K : List AV→AH→Prop} (h : sOps P ql al false ops l1 T H K) (hk : ∀ T' H',K T' H'→XOps P l G0 ops Q l2 T' H' r) : XOps P l G0 ops Q (l1 ++ l2) T H r:=by
 intro G a hs
 have h1 : AOps P ops (fun e T H => match e with | .normal => K T H | _ => False) l1 T H:=sOps_ops l1 T H K (fun _ _ h => h) h
 refine wpList_app ?_ ?_ l1 a G.w (h1 G G a (none,G0.w.heap.size) (Evo.refl G) hs.f hs.d hs.h)
 ·rintro a w ⟨T',H',G',rfl,hE,hF,hd,hH,hq⟩
  exact hk T' H' hq G' a ⟨hs.x.trans hE.x,hF,hd,hH,hs.ra.evo hE⟩
 ·rintro e a w hne ⟨T',H',G',rfl,hE,hF,hd,hH,hq⟩
  cases e with
  | normal => exact absurd rfl hne
  | _ => exact hq.elim
theorem XOps.yield {ops : Array Oper} {Q : XQ} {o : Oper} {rest : List Oper} {T T0 : List AV} {H : AH} {rec : Loop} {p : Tmp} {f x : Operand} {ats : Array TypeId} {J : AH→Prop} {X : Code→AH→Prop}
  (ho : o.op = .call { callee:=.value f,args:=#[x],argTypes:=ats }) (hg : o.guard=none) (hf : aeval T f = .lit (.func (.yield l) #[] #[]))
  (hrd : rec.state = .ready) (hpd : rec.pending=none) (hps : rec.params = #[p]) (hT : ∀ G,EvoX l G0 G→VRs G T0 rec.tmps.toList) (hr : RndOk P rec.assign rec.body T0 p (aeval T x) H J X)
  (h1 : ∀ H',J H'→XOps P l G0 ops Q rest (aput T o.dst (B true)) H' rec) (h2 : ∀ c H',X c H'→XOps P l G0 ops Q rest (aput T o.dst (B false)) H' { rec with state:=.done,pending:=some c }) : XOps P l G0 ops Q (o :: rest) T H rec:=by
 intro G a hs
 unfold wpListIn
 have hw : Region.wanted o (yielded ops a.tmps)=true:=by unfold Region.wanted; rw [hg]
 rw [if_pos hw]
 have hfv:=hs.f.eval f
 rw [hf] at hfv
 simp only [VR] at hfv
 obtain ⟨fn,tm,ag,bd,hy,hR⟩:=round_yield hs.h hs.ra hrd hpd hps (hT G hs.x) (hs.f.eval x) hr
 have hnd : ∀ c,o.op ≠ .defer c:=fun c hc => by rw [ho] at hc; cases hc
 refine ⟨fun _ _ => trivial, ?_⟩
 rw [Oper.semAt_eq _ _ _ hnd]
 have hrun : (execOp a.eval o).run P G.w = .ok (.round l fn tm ag bd) G.w:=by
  obtain ⟨dst,op,type,pos,after,guard⟩:=o
  simp only at ho
  subst ho
  simp [execOp,resolve,hfv,Deferred.ofValue,invoke]
  exact hy
 rw [hrun]
 refine ⟨fun hn => (by simp [Fence.wide] at hn),RoundIn.mono hR ?_⟩
 rintro e w' ⟨G',H',rfl,hX,hH',⟨rfl,hR',hj⟩ | ⟨rfl,c,hR',hx⟩⟩
 ·exact h1 H' hj G' _ ⟨hs.x.trans hX,FR.put (VRs.tr hX.tr hs.f) o.dst (by simp only [VR]),(hs.d.x (a':=a) hX rfl (zpjZ hs.ra.h) (fun h => by cases h)).put _ _,hH',hR'⟩
 ·exact h2 c H' hx G' _ ⟨hs.x.trans hX,FR.put (VRs.tr hX.tr hs.f) o.dst (by simp only [VR]),(hs.d.x (a':=a) hX rfl (zpjZ hs.ra.h) (fun h => by cases h)).put _ _,hH',hR'⟩
theorem leaves_marksX {fn : Func} {tmps : Array Value} {R : Ending→World→Prop} {T : List AV} {H : AH} {r : Loop} (hl : l < G0.w.heap.size) (K : ∀ G : Cfg,EvoX l G0 G→FR G T { tmps,defers:=[] }→HR G H→RecAt G l r→LeavesIn Fence.wide 0 P fn tmps R [] .returning G.w) :
  ∀ (Ds : List Nat) (G : Cfg),EvoX l G0 G→FR G T { tmps,defers:=[] }→HR G H→RecAt G l r→Ds.Nodup→(∀ D ∈ Ds,G0.w.heap.size≤D∧¬ G.L D∧G.w.heap[D]? = some (.deferred (some []))) →
   LeavesInM Fence.wide 0 P fn tmps R (Ds.map mark) .returning G.w
 | [],G,hE,hF,hH,hr,_,_ => K G hE hF hH hr
 | D :: Ds,G,hE,hF,hH,hr,hn,hD => by
  obtain ⟨h1,h2,h3⟩:=hD D (.head _)
  obtain ⟨hni,hn'⟩:=List.nodup_cons.1 hn
  refine ⟨by simp,.inl ⟨D,_,rfl,run_takeDeferred h3, ?_⟩⟩
  have hc : ∀ c e f,Obj.deferred (some []) ≠ .cells c e f:=by intro c e f h; cases h
  have ht:=Tr.put h3 hc (.deferred none)
  refine leaves_marksX hl K Ds (G.put D (.deferred none)) ?_ (VRs.tr ht hF) (hH.putO (fun o z ho (e : (G.μ o).1=D) => h2 (by have:=hH.live o z ho; rwa [e] at this)) h3 hc _) ⟨?_,hr.nl⟩ hn' fun D' hD' => ?_
  ·refine ⟨hE.os,hE.tape,hE.output, ?_,fun k hk hne hL => ?_,hE.n,hE.μ,hE.K,fun ad vs hh => ht.has ad vs (hE.has ad vs hh)⟩
   ·simp only [Cfg.put,World.putObj]; simpa using hE.size
   ·obtain ⟨e1,l1⟩:=hE.keep k hk hne hL
    refine ⟨?_,l1⟩
    simp only [Cfg.put]
    rw [World.putObj_heap_other (by omega)]
    exact e1
  ·simp only [Cfg.put]
   rw [World.putObj_heap_other (by omega)]
   exact hr.h
  ·obtain ⟨a1,a2,a3⟩:=hD D' (.tail _ hD')
   refine ⟨a1,a2, ?_⟩
   simp only [Cfg.put]
   rw [World.putObj_heap_other (fun e => hni (by rw [← e]; exact hD'))]
   exact a3
theorem iter_of_body {k : FuncId} {fn : Func} {c : Code} {cap xs : List AV} {Cap : AH→Prop} (hf : P.funcs[k]? = some fn) (hb : fn.body=some c) (hres : fn.results = #[])
  (h : ∀ (l : Nat) (G0 : Cfg) (rec : Loop) (T : List AV) (p : Tmp) (H : AH) (J : Nat→AH→Prop) (X : Code→AH→Prop),rec.state = .ready→rec.pending=none→rec.params = #[p]→(∀ G,EvoX l G0 G→VRs G T rec.tmps.toList)→J 0 H→(∀ i H',J i H'→Cap H')→(∀ i x H',xs[i]? = some x→J i H'→RndOk P rec.assign rec.body T p x H' (J (i + 1)) X) →
   XCode P l G0 c (fun e _ H' r => (e = .normal∨e = .ret)∧((r=rec∧J xs.length H')∨∃ c,r = { rec with state:=.done,pending:=some c }∧X c H')) ((.lit (.func (.yield l) #[] #[]) :: cap) ++ List.replicate (fn.ntmps - (cap.length + 1)) undefA) H rec) : IterOk P k cap Cap xs:=by
 intro G l rec T p H vc J X hH hR hrd hpd hps hT hvc h0 hcap hr
 have hlen:=hvc.length
 refine callsIn_of_wp_marks (F:=FW none) (n:=0) hf hb trivial ?_ rfl
 have hF : FR G ((.lit (.func (.yield l) #[] #[]) :: cap) ++ List.replicate (fn.ntmps - (cap.length + 1)) undefA) { tmps:=(#[Value.func (.yield l) #[] #[]] ++ vc.toArray) ++ Array.replicate (fn.ntmps - (#[Value.func (.yield l) #[] #[]] ++ vc.toArray).size) undef,defers:=[] } := by
  unfold FR
  simp only [Array.toList_append,Array.toList_replicate,Array.size_append,List.size_toArray]
  rw [hlen,show ([Value.func (.yield l) #[] #[]] : List Value).length + vc.length=vc.length + 1 by simp; omega]
  refine VRs.append ?_ (VRs.replicate (by simp only [undefA,VR]) _)
  exact .cons (by simp only [VR]) hvc
 have hl : l < G.w.heap.size:=(Array.getElem?_eq_some_iff.1 hR.h).1
 have hx:=h l G rec T p H J X hrd hpd hps (fun G' hE => VRs.tr hE.tr hT) h0 hcap hr G _ ⟨(Evo.refl G).x,hF,⟨⟨[],rfl,List.nodup_nil,fun _ h => (by cases h)⟩,fun _ h => (by cases h),Nat.le_refl _⟩,hH,hR⟩
 refine Code.wpIn_mono ?_ hx
 rintro e a w ⟨T',H',G',r',rfl,hs,he,hq⟩
 obtain ⟨⟨Ds,e1,e2,e3⟩,-,-⟩:=hs.d
 simp only at e3
 have : LeavesInM Fence.wide 0 P fn a.tmps (fun e W' => (∃ v,e = .returned v)∧∃ (G' : Cfg) (H' : AH),G'.w=W'∧EvoX l G G'∧HR G' H'∧((RecAt G' l rec∧J xs.length H')∨∃ c,RecAt G' l { rec with state:=.done,pending:=some c }∧X c H')) a.defers .returning G'.w:=by
  rw [e1]
  refine leaves_marksX (G0:=G) hl (fun G2 hE2 hF2 hH2 hR2 => ?_) Ds G' hs.x hs.f hs.h hs.ra e2 e3
  obtain ⟨v,hrun,-⟩:=results_ok (P:=P) hH2 hF2 (fn:=fn) (xs:=[]) (by rw [hres]; rfl)
  refine ⟨v,hrun,⟨v,rfl⟩,G2,H',rfl,hE2,hH2, ?_⟩
  rcases hq with ⟨rfl,hj⟩ | ⟨c,rfl,hx⟩
  ·exact .inl ⟨hR2,hj⟩
  ·exact .inr ⟨c,hR2,hx⟩
 rcases he with rfl | rfl <;> exact this
theorem XCode.seqP {fl : Floats} {ql al : FuncId→Bool} {un : Nat→Bool} {kp : Nat→Option (List Bool)} {x y : Code} {n : Nat} {keep : List Bool} {Q : XQ} {T : List AV} {H : AH} {r : Loop} (hm : P.follows .mixedOrders=true) (hc : codeOkU fl ql un x=true)
  (hQ : ∀ e T T' H,e ≠ .normal→Q e T H r→Q e T' H r) (h : sCode P fl ql al un kp x n T H (fun e T H => fP keep T fun X => (XQ.then (fun T H r => XCode P l G0 y Q T H r) Q) e (expand keep X) H r)) : XCode P l G0 (.seq x y) Q T H r:=by
 refine XCode.seq (XCode.of ((sCode_wp hm x n T H _ hc h).mono ?_))
 intro e T' H' hk
 obtain ⟨hl,hk⟩:=fP_iff.1 hk
 cases e with
 | normal => exact XCode.weak hl hk
 | _ => exact hQ _ _ _ _ (by simp) hk
theorem XCode.seqN {fl : Floats} {ql al : FuncId→Bool} {un : Nat→Bool} {kp : Nat→Option (List Bool)} {x y : Code} {n : Nat} {keep : List Bool} {Q : XQ} {T : List AV} {H : AH} {r : Loop} (hm : P.follows .mixedOrders=true) (hc : codeOkU fl ql un x=true)
  (h : sCode P fl ql al un kp x n T H (fun e T H => fP keep T fun X => e = .normal∧XCode P l G0 y Q (expand keep X) H r)) : XCode P l G0 (.seq x y) Q T H r:=by
 refine XCode.seq (XCode.of ((sCode_wp hm x n T H _ hc h).mono ?_))
 intro e T' H' hk
 obtain ⟨hl,he,h2⟩:=fP_iff.1 hk
 subst he
 exact XCode.weak hl h2
theorem XOps.weak {ops : Array Oper} {Q : XQ} {keep : List Bool} {lst : List Oper} {T : List AV} {H : AH} {r : Loop} (hl : T.length=keep.length) (h : XOps P l G0 ops Q lst (expand keep (proj keep T)) H r) : XOps P l G0 ops Q lst T H r :=
 fun G a hs => h G a ⟨hs.x,zjrZ hl hs.f,hs.d,hs.h,hs.ra⟩
theorem XOps.preP {ql al : FuncId→Bool} {ops : Array Oper} {l1 l2 : List Oper} {Q : XQ} {keep : List Bool} {T : List AV} {H : AH} {r : Loop} (h : sOps P ql al false ops l1 T H (fun T H => fP keep T fun X => XOps P l G0 ops Q l2 (expand keep X) H r)) : XOps P l G0 ops Q (l1 ++ l2) T H r :=
 XOps.pre h fun T' H' hk => by
  obtain ⟨hl,hk⟩:=fP_iff.1 hk
  exact XOps.weak hl hk
end
end Go.Proofs.YtlbilcpnjgkpjaaGreat.Av
end
section
namespace Go.Proofs.YtlbilcpnjgkpjaaGreat.Av
open Go Go.RowKit
def MonoF (body : List AV→AH→Kf→Prop) : Prop:=∀ T H (K1 K2 : Kf),(∀ e T H,K1 e T H→K2 e T H)→body T H K1→body T H K2
theorem kLp_mono {keep : List Bool} {A B : List AV→AH→Prop} {K : Kf} (h : ∀ X H,A X H→B X H) : ∀ e T H,kLp keep A K e T H→kLp keep B K e T H:=by
 intro e T H hk
 cases e with
 | normal =>
  obtain ⟨hl,h1⟩:=fP_iff.1 hk
  exact fP_iff.2 ⟨hl,h _ _ h1⟩
 | _ => exact hk
theorem rnd_up {keep : List Bool} {body : List AV→AH→Kf→Prop} {K : Kf} (hb : MonoF body) : ∀ (m : Nat) X H,rnd keep body K m X H→rnd keep body K (m + 1) X H
 | 0,X,H,h => h.elim
 | m + 1,X,H,h => hb _ _ _ _ (kLp_mono fun X H => rnd_up hb m X H) h
theorem rnd_le {keep : List Bool} {body : List AV→AH→Kf→Prop} {K : Kf} (hb : MonoF body) {m n : Nat} (h : m≤n) {X : List AV} {H : AH} (hr : rnd keep body K m X H) : rnd keep body K n X H:=by
 induction h with
 | refl => exact hr
 | step _ ih => exact rnd_up hb _ _ _ ih
theorem lp_mono {keep : List Bool} {body : List AV→AH→Kf→Prop} {K : Kf} (hb : MonoF body) (J : Nat→List AV→AH→Prop)
  (round : ∀ n X H,J n X H→body (expand keep X) H (kLp keep (fun X' H' => ∃ m,m < n∧J m X' H') K)) : ∀ (n : Nat) {X : List AV} {H : AH},J n X H→lp keep body X H K:=by
 have key : ∀ n X H,J n X H→rnd keep body K (n + 1) X H:=by
  intro n
  induction n using Nat.strongRecOn with
  | _ n ih =>
   intro X H hJ
   refine hb _ _ _ _ (kLp_mono ?_) (round n X H hJ)
   rintro X' H' ⟨m,hm,hJ'⟩
   exact rnd_le hb (by omega) (ih m hm X' H' hJ')
 exact fun n X H hJ => ⟨n + 1,key n X H hJ⟩
section
variable {P : Program} {ql al : FuncId→Bool} {dr w : Bool} {ρ : Operand→AV} {H : AH}
theorem sOp_mono {o : Oper} {K1 K2 : AV→AH→Prop} (h : sOp P ql al dr ρ H o w K1) (hk : ∀ r H,K1 r H→K2 r H) : sOp P ql al dr ρ H o w K2:=by
 cases ha : pureOp al o.op with
 | false =>
  rw [sOp_al ha] at h ⊢
  obtain ⟨r,H',hk1,-,h2⟩:=sOp_one h
  exact h2 _ (hk _ _ hk1)
 | true =>
  obtain ⟨dst,op,type,pos,after,guard⟩:=o
  simp only at ha
  unfold pureOp at ha
  split at ha
  ·rename_i k args ats
   have ha' : pureOp al (.call { callee:=.value (.func k),args:=args,argTypes:=ats })=true:=ha
   unfold sOp bF at h ⊢
   simp only [ha'] at h ⊢
   generalize hx : ρ (.func k)=x at h ⊢
   split at h
   ·rename_i f a b
    cases dr with
    | true => exact h
    | false =>
     simp only at h ⊢
     cases hg : goFunc P f with
     | true =>
      rw [hg] at h
      cases w with
      | true =>
       obtain ⟨R,hR,hall⟩:=h
       exact ⟨R,hR,fun r H' hr => hk r H' (hall r H' hr)⟩
      | false => exact hk _ _ h
     | false =>
      rw [hg] at h
      cases w with
      | true =>
       obtain ⟨r,hr,h⟩:=h
       exact ⟨r,hr,hk _ _ h⟩
      | false => exact hk _ _ h
   ·cases w with
    | true => exact h.elim
    | false =>
     cases dr with
     | true => exact h.elim
     | false =>
      simp only at h ⊢
      cases hg : goFunc P 0 with
      | true => rw [hg] at h; exact hk _ _ h
      | false => rw [hg] at h; exact hk _ _ h
  ·cases ha
theorem sOps_mono {ops : Array Oper} : ∀ (l : List Oper) (T : List AV) (H : AH) {K1 K2 : List AV→AH→Prop},(∀ T H,K1 T H→K2 T H)→sOps P ql al dr ops l T H K1→sOps P ql al dr ops l T H K2
 | [],T,H,K1,K2,hk,h => hk _ _ h
 | o :: l,T,H,K1,K2,hk,h => by
  unfold sOps at h ⊢
  obtain ⟨w,hw,h,hw2⟩:=ziqZ h
  refine hw2 _ (sOp_mono h fun r H' hr => ?_)
  rw [fput_eq] at hr ⊢
  exact sOps_mono l _ _ hk hr
theorem sOpsD_mono {ops : Array Oper} {H0 : AH} {fl : List (Nat × Option Nat)} : ∀ (l : List Oper) (T : List AV) (H : AH) (lg : List (List AV × AH × AV)) {K1 K2 : List AV→AH→Prop},(∀ T H,K1 T H→K2 T H)→sOpsD P ql al ops H0 fl l T H lg K1→sOpsD P ql al ops H0 fl l T H lg K2
 | [],T,H,lg,K1,K2,hk,h => by
  obtain ⟨h1,h2⟩:=sFl_ok h
  exact sFl_k (K:=K1 T H) h (hk _ _ h2)
 | o :: l,T,H,lg,K1,K2,hk,h => by
  unfold sOpsD at h ⊢
  obtain ⟨w,hw,h,hw2⟩:=ziqZ h
  refine hw2 _ (sOp_mono h fun r H' hr => ?_)
  rw [fput_eq] at hr ⊢
  exact sOpsD_mono l _ _ _ hk hr
theorem MonoF.cut {keep : List Bool} {body : List AV→AH→Kf→Prop} (h : MonoF body) : MonoF (cutC keep body):=by
 intro T H K1 K2 hk hc
 obtain ⟨hl,hc⟩:=fP_iff.1 hc
 exact fP_iff.2 ⟨hl,⟨h _ _ _ _ hk hc.h⟩⟩
theorem MonoF.seq {a b : List AV→AH→Kf→Prop} (ha : MonoF a) (hb : MonoF b) : MonoF fun T H K => a T H (kSeq b K):=by
 intro T H K1 K2 hk h
 refine ha _ _ _ _ ?_ h
 intro e T' H' h'
 cases e with
 | normal => exact hb _ _ _ _ hk h'
 | _ => exact hk _ _ _ h'
theorem rnd_k {keep : List Bool} {body : List AV→AH→Kf→Prop} (hb : MonoF body) {K1 K2 : Kf} (hk : ∀ e T H,K1 e T H→K2 e T H) : ∀ (m : Nat) (X : List AV) (H : AH),rnd keep body K1 m X H→rnd keep body K2 m X H
 | 0,X,H,h => h.elim
 | m + 1,X,H,h => by
  refine hb _ _ _ _ ?_ h
  intro e T H h'
  cases e with
  | normal =>
   obtain ⟨hl,h1⟩:=fP_iff.1 h'
   exact fP_iff.2 ⟨hl,rnd_k hb hk m _ _ h1⟩
  | _ => exact hk _ _ _ h'
theorem zfmZ {fl : Floats} {un : Nat→Bool} {kp : Nat→Option (List Bool)} : ∀ (c : Code) (n : Nat),MonoF (sCode P fl ql al un kp c n)
 | .skip,n,T,H,K1,K2,hk,h => hk _ _ _ h
 | .label _,n,T,H,K1,K2,hk,h => hk _ _ _ h
 | .ret,n,T,H,K1,K2,hk,h => hk _ _ _ h
 | .exit _,n,T,H,K1,K2,hk,h => hk _ _ _ h
 | .region id ops dr,n,T,H,K1,K2,hk,h => by
  unfold sCode at h ⊢
  cases dr with
  | false => exact sOps_mono _ _ _ (hk .normal) h
  | true =>
   simp only at h ⊢
   split at h
   ·split at h
    ·obtain ⟨hl,h⟩:=fP_iff.1 h
     exact fP_iff.2 ⟨hl,⟨h.h.mono hk⟩⟩
    ·exact h.elim
   ·split at h
    ·exact sOps_mono _ _ _ (hk .normal) h
    ·exact sOpsD_mono _ _ _ _ (hk .normal) h
 | .seq a b,n,T,H,K1,K2,hk,h => by
  unfold sCode at h ⊢
  split at h
  ·exact MonoF.seq (zfmZ a _) (zfmZ b _) T H K1 K2 hk h
  ·exact MonoF.seq (zfmZ a _) (zfmZ b _).cut T H K1 K2 hk h
 | .cond c a b,n,T,H,K1,K2,hk,h => by
  unfold sCode bB at h ⊢
  split at h
  ·rename_i t ht
   cases t with
   | true => exact zfmZ a _ T H K1 K2 hk h
   | false => exact zfmZ b _ T H K1 K2 hk h
  ·exact h.elim
 | .block id b,n,T,H,K1,K2,hk,h => by
  unfold sCode at h ⊢
  refine zfmZ b _ T H _ _ ?_ h
  intro e T' H' h'
  cases e with
  | exit j =>
   simp only [kBlk] at h' ⊢
   split at h' <;> exact hk _ _ _ h'
  | _ => exact hk _ _ _ h'
 | .loop b,n,T,H,K1,K2,hk,h => by
  unfold sCode at h ⊢
  split at h
  ·obtain ⟨hl,⟨m,h⟩⟩:=fP_iff.1 h
   exact fP_iff.2 ⟨hl,⟨m,rnd_k (zfmZ b _) hk m _ _ h⟩⟩
  ·exact h.elim
 | .rangeFunc g ps a b,n,T,H,K1,K2,hk,h => by
  unfold sCode at h ⊢
  split at h
  ·split at h
   ·obtain ⟨hl,h⟩:=fP_iff.1 h
    exact fP_iff.2 ⟨hl,⟨h.h.mono hk⟩⟩
   ·exact h.elim
  ·exact h.elim
 | .scope _,_,_,_,_,_,_,h => h.elim
 | .goto _,_,_,_,_,_,_,h => h.elim
 | .refuse _,_,_,_,_,_,_,h => h.elim
end
end Go.Proofs.YtlbilcpnjgkpjaaGreat.Av
end
section
namespace Go.Proofs.YtlbilcpnjgkpjaaGreat.Av
open Go Go.RowKit
section
variable {P : Program}
def runOps (P : Program) (call : CallFn) (ops : Array Oper) : List Oper→List AV→AH→Option (List AV × AH)
 | [],T,H => some (T,H)
 | o :: l,T,H => match awanted ops T o with
  | none => none
  | some false => runOps P call ops l (aput T o.dst undefA) H
  | some true => match aop P (aeval T) H o with
   | some (r,H') => runOps P call ops l (aput T o.dst r) H'
   | none => match acall (aeval T) o with
    | some (f,args) => if goFunc P f then match call f args H with
      | some (r,H') => runOps P call ops l (aput T o.dst r) H'
      | none => none
     else none
    | none => none
def exec (P : Program) (pl : FuncId→Bool) (pure : PureFn) (call : CallFn) : Nat→Code→List AV→AH→Option (Exit × List AV × AH)
 | 0,_,_,_ => none
 | n + 1,c,T,H => match c with
  | .skip => some (.normal,T,H)
  | .label _ => some (.normal,T,H)
  | .ret => some (.ret,T,H)
  | .exit id => some (.exit id,T,H)
  | .region _ ops false => (runOps P call ops ops.toList T H).map fun p => (.normal,p.1,p.2)
  | .region _ ops true => (runDraw P pl pure call ops.toList T H).map fun p => (.normal,p.1,p.2)
  | .seq a b => match exec P pl pure call n a T H with
   | some (.normal,T',H') => exec P pl pure call n b T' H'
   | r => r
  | .cond x a b => match aeval T x with
   | .lit (.bool t) => exec P pl pure call n (if t then a else b) T H
   | _ => none
  | .block id b => match exec P pl pure call n b T H with
   | some (.exit id',T',H') => if id'=id then some (.normal,T',H') else some (.exit id',T',H')
   | r => r
  | .loop b => match exec P pl pure call n b T H with
   | some (.normal,T',H') => exec P pl pure call n (.loop b) T' H'
   | r => r
  | _ => none
def pureOf (P : Program) (pl : FuncId→Bool) (call : CallFn) : PureFn:=fun f args =>
 if pl f && goFunc P f && noIdss args then match call f args [] with
  | some (r,X) => frz X 64 r
  | none => none
 else none
def runBody (P : Program) (pl : FuncId→Bool) (call : CallFn) (fuel : Nat) (f : FuncId) (args : List AV) (H : AH) : Option (AV × AH) :=
 match P.funcs[f]? with
 | some fn => match fn.body with
  | some c => match exec P pl (pureOf P pl call) call fuel c (args ++ List.replicate (fn.ntmps - args.length) undefA) H with
   | some (e,T,H') => if isOut e then (ares P H' T fn.results.toList).map fun xs => (mkres xs,H') else none
   | none => none
  | none => none
 | none => none
def run (P : Program) (ext : CallFn) (pl ql : FuncId→Bool) (fuel : Nat) : Nat→CallFn
 | 0 => fun _ _ _ => none
 | n + 1 => fun f args H => match ext f args H with
  | some r => some r
  | none => if pl f && noIdss args then match runBody P ql (run P ext pl ql fuel n) fuel f args [] with
    | some (r,X) => (frz X 64 r).map (·,H)
    | none => none
   else runBody P ql (run P ext pl ql fuel n) fuel f args H
def Cfg.start (W : World) : Cfg:={ w:=W,n:=0,μ:=fun _ => (0,0,0),L:=fun _ => False,K:=fun _ => False }
theorem HR.start (W : World) : HR (Cfg.start W) []:=⟨rfl,fun o x h => by simp at h,fun o o' x x' h => by simp at h,fun o x h => by simp at h,fun b h => h.elim (fun h => h.elim) (fun h => h.elim),fun b h => h.elim⟩
theorem Evo.below {G' : Cfg} {W : World} (h : Evo (Cfg.start W) G') : Below W.heap.size W G'.w:=⟨h.os,h.tape,h.output,h.size,fun k hk => (h.keep k hk (fun h => h)).1⟩
theorem law_calls {f : FuncId} {args : List AV} (h : ACalls P f args [] fun r _ => r = .lit (.bool true)) (W : World) {vs : List Value} (hv : VRs (Cfg.start W) args vs) :
  Calls P f vs.toArray W fun e W' => e = .returned (.bool true)∧Below W.heap.size W W' :=
 (h (Cfg.start W) vs (HR.start W) hv).mono fun e w' ⟨r,H',G',v,he,hw,hE,hx,_,hr⟩ => by
  subst hr
  simp only [VR] at hx
  subst hx
  rw [← hw]
  exact ⟨he,hE.below⟩
end
end Go.Proofs.YtlbilcpnjgkpjaaGreat.Av
end
section
namespace Go.Proofs.YtlbilcpnjgkpjaaGreat.Av
open Go
theorem own : ownKnob Tryz.prog.godebug=none:=by kernel_rfl
theorem laidOut : laidOutB Tryz.prog=true:=by kernel_rfl
end Go.Proofs.YtlbilcpnjgkpjaaGreat.Av
end
section
namespace Go.Proofs.YtlbilcpnjgkpjaaGreat.Av
open Go
def pql : FuncId→Bool:=inL [85,51,67,86,46,87,73,74,118,78,79,92,110,112,94,123,104,93,113,115]
def pqla : FuncId→Bool:=inL [125]
theorem mixP : Tryz.prog.follows .mixedOrders=true:=by kernel_rfl
def extent_Write_fl : Floats:=flOf []
def extent_Write_kp : Nat→Option (List Bool):=kpOf [(10,mk 75 0 [1,2,3,6,33,34,35])]
def zkhZ (p : List Bool) (n : Nat) : List AV→AH→Kf→Prop:=sCode Tryz.prog extent_Write_fl pql none0 none0 extent_Write_kp (sub p (bodyOf Tryz.f85)) n
def zpwZ (x1 x2 x3 x6 x33 x34 x35 : AV) (H : AH) (K : AV→AH→Prop) : Prop:=lp (mk 75 0 [1,2,3,6,33,34,35]) (zkhZ [true,true,true,true,false,true,false,false] 11) [x1,x2,x3,x6,x33,x34,x35] H (kBlk 0 (kSeq (zkhZ [true,true,true,true,true] 17) (kRet Tryz.prog Tryz.f85.results.toList K)))
def ziwZ (R10 : List AV→AH→Prop) (x1 x2 x3 x6 x33 x34 x35 : AV) (H : AH) (K : AV→AH→Prop) : Prop :=
 bO (abI .lss x35 x34) fun v0 =>
 bB v0 fun t1 => bI t1 (
 bO (aixS 2 x33 x35) fun v2 =>
 bO (ald true 2 H v2) fun v3 =>
 bH (anew H (.agg [(.lit (.int .i64 0)),(.lit (.int .i64 0))])) fun v4 H5 =>
 bS (ast 2 H5 v4 v3) fun H6 =>
 bO (ashift 0 v4) fun v7 =>
 bO (ald false 1 H6 v7) fun v8 =>
 bO (abI .quo v8 (.lit (.int .i64 8))) fun v9 =>
 bC (BCall Tryz.prog 109 [x3,v9] H6) fun v10 H11 =>
 bO (ashift 1 x3) fun v12 =>
 bO (ald false 1 H11 v12) fun v13 =>
 bO (aixS 9 v13 v10) fun v14 =>
 bO (ashift 1 v14) fun v15 =>
 bO (ashift 0 v4) fun v16 =>
 bO (ald false 1 H11 v16) fun v17 =>
 bO (abI .mul v9 (.lit (.int .i64 8))) fun v18 =>
 bO (abI .sub v17 v18) fun v19 =>
 bO (aslA 8 1 H11 v15 (some v19) none) fun v20 =>
 bO (ashift 0 v4) fun v21 =>
 bO (ald false 1 H11 v21) fun v22 =>
 bO (abI .sub v22 x1) fun v23 =>
 bO (aslS 1 x2 (some v23) none none) fun v24 =>
 bO (ashift 1 v4) fun v25 =>
 bO (ald false 1 H11 v25) fun v26 =>
 bO (aslS 1 v24 none (some v26) none) fun v27 =>
 bH (acp 1 H11 v20 v27) fun v28 H29 =>
 bO (abI .add x35 (.lit (.int .i64 1))) fun v30 =>
 R10 [x1,x2,x3,x6,x33,x34,v30] H29)
 (bO (ashift 0 x3) fun v31 =>
 bO (ald false 1 H v31) fun v32 =>
 bO (alnS x2) fun v33 =>
 bO (abI .add x1 v33) fun v34 =>
 bO (amm imx [v32,v34]) fun v35 =>
 bO (ashift 0 x3) fun v36 =>
 bS (ast 1 H v36 v35) fun H37 =>
 bO (ald true 2 H37 x3) fun v38 =>
 bS (ast 2 H37 x6 v38) fun H39 =>
 bO (ald true 2 H39 x6) fun v40 =>
 K (.tup [v40,(.lit (.bool true))]) H39)
theorem extent_Write_L10_eq (R10 : List AV→AH→Prop) (x1 x2 x3 x6 x33 x34 x35 : AV) (H : AH) (K : AV→AH→Prop) : zkhZ [true,true,true,true,false,true,false,false] 11 (expand (mk 75 0 [1,2,3,6,33,34,35]) [x1,x2,x3,x6,x33,x34,x35]) H (kLp (mk 75 0 [1,2,3,6,33,34,35]) R10 (kBlk 0 (kSeq (zkhZ [true,true,true,true,true] 17) (kRet Tryz.prog Tryz.f85.results.toList K))))=ziwZ R10 x1 x2 x3 x6 x33 x34 x35 H K:=by kernel_rfl
theorem zqhZ {K : AV→AH→Prop} (I : Nat→AV→AV→AV→AV→AV→AV→AV→AH→Prop) (round : ∀ (n : Nat) (x1 x2 x3 x6 x33 x34 x35 : AV) (H : AH) (R : List AV→AH→Prop),(∀ (m : Nat) (y1 y2 y3 y6 y33 y34 y35 : AV) (H' : AH),m < n→I m y1 y2 y3 y6 y33 y34 y35 H'→R [y1,y2,y3,y6,y33,y34,y35] H')→I n x1 x2 x3 x6 x33 x34 x35 H→ziwZ R x1 x2 x3 x6 x33 x34 x35 H K) (n : Nat) {x1 x2 x3 x6 x33 x34 x35 : AV} {H : AH} (h : I n x1 x2 x3 x6 x33 x34 x35 H) : zpwZ x1 x2 x3 x6 x33 x34 x35 H K:=by
 refine lp_upto (zvZ _ _) (LI7 I) ?_ n h
 intro n X H h
 obtain ⟨x1,x2,x3,x6,x33,x34,x35,rfl,h⟩:=h.elim
 exact Eq.mpr (extent_Write_L10_eq _ x1 x2 x3 x6 x33 x34 x35 H K) (round n x1 x2 x3 x6 x33 x34 x35 H (fun X H' => ∃ m,m < n∧LI7 I m X H') (fun m y1 y2 y3 y6 y33 y34 y35 H' hm hi => ⟨m,hm,hi⟩) h)
def extent_Write (a0 a1 a2 : AV) (H : AH) (K : AV→AH→Prop) : Prop :=
 bH (anew H a0) fun v0 H1 =>
 bH (anew H1 (.agg [(.lit (.int .i64 0)),(.lit (.slice none 0 0))])) fun v2 H3 =>
 bO (ald true 2 H3 v0) fun v4 =>
 bP (PCall Tryz.prog 67 [v4] H3) fun v5 =>
 bO (aun .not v5) fun v6 =>
 bG v6 false fun w7 =>
 gO w7 (some a1) fun v8 =>
 bG v6 false fun w9 =>
 gO w9 (some a2) fun v10 =>
 bG v6 false fun w11 =>
 gO w11 (alnS v10) fun v12 =>
 bG v6 false fun w13 =>
 gP w13 (PCall Tryz.prog 73 [v8,v12] H3) fun v14 =>
 bG v6 false fun w15 =>
 gO w15 (aun .not v14) fun v16 =>
 bO (apick v6 (.lit (.bool true)) v16) fun v17 =>
 bB v17 fun t18 => bI t18 (
 bO (abl [(.lit (.int .i64 0)),(.lit (.slice none 0 0))] []) fun v19 =>
 bS (ast 2 H3 v2 v19) fun H20 =>
 bO (ald true 2 H20 v2) fun v21 =>
 K (.tup [v21,(.lit (.bool false))]) H20)
 (bO (ald true 2 H3 v0) fun v22 =>
 bC (BCall Tryz.prog 68 [v22] H3) fun v23 H24 =>
 bS (ast 2 H24 v0 v23) fun H25 =>
 bO (alnS a2) fun v26 =>
 bO (abI .eql v26 (.lit (.int .i64 0))) fun v27 =>
 bB v27 fun t28 => bI t28 (
 bO (ald true 2 H25 v0) fun v29 =>
 bS (ast 2 H25 v2 v29) fun H30 =>
 bO (ald true 2 H30 v2) fun v31 =>
 K (.tup [v31,(.lit (.bool true))]) H30)
 (bO (alnS a2) fun v32 =>
 bO (abl [(.lit (.int .i64 0)),(.lit (.int .i64 0))] [(0,1,a1),(1,1,v32)]) fun v33 =>
 bP (PCall Tryz.prog 74 [v33,(.lit (.int .i64 8))] H25) fun v34 =>
 bO (alnS v34) fun v35 =>
 zpwZ a1 a2 v0 v2 v34 v35 (.lit (.int .i64 0)) H25 K))
theorem extent_Write_eq (a0 a1 a2 : AV) (H : AH) (K : AV→AH→Prop) : sFun Tryz.prog extent_Write_fl pql none0 none0 extent_Write_kp Tryz.f85 [a0,a1,a2] H K=extent_Write a0 a1 a2 H K:=by kernel_rfl
theorem extent_Write_ok {a0 a1 a2 : AV} {H : AH} {K : AV→AH→Prop} (h : extent_Write a0 a1 a2 H K) : ∃ r H',K r H'∧BCall Tryz.prog 85 [a0,a1,a2] H r H' :=
 sFun_ok mixP Tryz.func85 (by kernel_rfl) (Eq.mpr (extent_Write_eq a0 a1 a2 H K) h)
def extent_Read_fl : Floats:=flOf []
def extent_Read_kp : Nat→Option (List Bool):=kpOf [(11,mk 77 0 [1,2,7,41,42,43]),(8,mk 77 0 [1,2,7,41,42,43])]
def zihZ (p : List Bool) (n : Nat) : List AV→AH→Kf→Prop:=sCode Tryz.prog extent_Read_fl pql none0 none0 extent_Read_kp (sub p (bodyOf Tryz.f51)) n
def zjeZ (R8 : List AV→AH→Prop) (x1 x2 x7 x41 x42 x43 : AV) (H : AH) (K : AV→AH→Prop) : Prop:=jn (mk 77 0 [1,2,7,41,42,43]) (zihZ [true,true,true,true,false,true,false,false,true,true,true] 15) [x1,x2,x7,x41,x42,x43] H (kLp (mk 77 0 [1,2,7,41,42,43]) R8 (kBlk 0 (kSeq (zihZ [true,true,true,true,true] 15) (kRet Tryz.prog Tryz.f51.results.toList K))))
def extent_Read_L8 (x1 x2 x7 x41 x42 x43 : AV) (H : AH) (K : AV→AH→Prop) : Prop:=lp (mk 77 0 [1,2,7,41,42,43]) (zihZ [true,true,true,true,false,true,false,false] 9) [x1,x2,x7,x41,x42,x43] H (kBlk 0 (kSeq (zihZ [true,true,true,true,true] 15) (kRet Tryz.prog Tryz.f51.results.toList K)))
def zoiZ (R8 : List AV→AH→Prop) (x1 x2 x7 x41 x42 x43 : AV) (H : AH) (K : AV→AH→Prop) : Prop :=
 bO (abI .add x43 (.lit (.int .i64 1))) fun v0 =>
 R8 [x1,x2,x7,x41,x42,v0] H
theorem extent_Read_J11_eq (R8 : List AV→AH→Prop) (x1 x2 x7 x41 x42 x43 : AV) (H : AH) (K : AV→AH→Prop) : zjeZ R8 x1 x2 x7 x41 x42 x43 H K=zoiZ R8 x1 x2 x7 x41 x42 x43 H K:=(jn_eq _ _ _ _ _).trans (by kernel_rfl)
def zlcZ (R8 : List AV→AH→Prop) (x1 x2 x7 x41 x42 x43 : AV) (H : AH) (K : AV→AH→Prop) : Prop :=
 bO (abI .lss x43 x42) fun v0 =>
 bB v0 fun t1 => bI t1 (
 bO (aixS 9 x41 x43) fun v2 =>
 bO (ald true 9 H v2) fun v3 =>
 bH (anew H (.agg [(.lit (.int .i64 0)),(.lit (.int .u8 0)),(.lit (.int .u8 0)),(.lit (.int .u8 0)),(.lit (.int .u8 0)),(.lit (.int .u8 0)),(.lit (.int .u8 0)),(.lit (.int .u8 0)),(.lit (.int .u8 0))])) fun v4 H5 =>
 bS (ast 9 H5 v4 v3) fun H6 =>
 bO (ashift 0 v4) fun v7 =>
 bO (ald false 1 H6 v7) fun v8 =>
 bP (PCall Tryz.prog 79 [v8] H6) fun v9 =>
 bO (abl [(.lit (.int .i64 0)),(.lit (.int .i64 0))] [(0,1,x1),(1,1,x2)]) fun v10 =>
 bP (PCall Tryz.prog 78 [v9,v10] H6) fun v11 =>
 bH (anew H6 (.agg [(.lit (.int .i64 0)),(.lit (.int .i64 0))])) fun v12 H13 =>
 bS (ast 2 H13 v12 v11) fun H14 =>
 bO (ashift 1 v12) fun v15 =>
 bO (ald false 1 H14 v15) fun v16 =>
 bO (abI .gtr v16 (.lit (.int .i64 0))) fun v17 =>
 bB v17 fun t18 => bI t18 (
 bO (ashift 0 v12) fun v19 =>
 bO (ald false 1 H14 v19) fun v20 =>
 bO (abI .sub v20 x1) fun v21 =>
 bO (aslS 1 x7 (some v21) none none) fun v22 =>
 bO (ashift 1 v4) fun v23 =>
 bO (ashift 0 v12) fun v24 =>
 bO (ald false 1 H14 v24) fun v25 =>
 bO (ashift 0 v4) fun v26 =>
 bO (ald false 1 H14 v26) fun v27 =>
 bO (abI .mul v27 (.lit (.int .i64 8))) fun v28 =>
 bO (abI .sub v25 v28) fun v29 =>
 bO (aslA 8 1 H14 v23 (some v29) none) fun v30 =>
 bO (ashift 1 v12) fun v31 =>
 bO (ald false 1 H14 v31) fun v32 =>
 bO (aslS 1 v30 none (some v32) none) fun v33 =>
 bH (acp 1 H14 v22 v33) fun v34 H35 =>
 zjeZ R8 x1 x2 x7 x41 x42 x43 H35 K)
 (zjeZ R8 x1 x2 x7 x41 x42 x43 H14 K))
 (K x7 H)
theorem extent_Read_L8_eq (R8 : List AV→AH→Prop) (x1 x2 x7 x41 x42 x43 : AV) (H : AH) (K : AV→AH→Prop) : zihZ [true,true,true,true,false,true,false,false] 9 (expand (mk 77 0 [1,2,7,41,42,43]) [x1,x2,x7,x41,x42,x43]) H (kLp (mk 77 0 [1,2,7,41,42,43]) R8 (kBlk 0 (kSeq (zihZ [true,true,true,true,true] 15) (kRet Tryz.prog Tryz.f51.results.toList K))))=zlcZ R8 x1 x2 x7 x41 x42 x43 H K:=by kernel_rfl
theorem extent_Read_L8_rule {K : AV→AH→Prop} (I : Nat→AV→AV→AV→AV→AV→AV→AH→Prop) (round : ∀ (n : Nat) (x1 x2 x7 x41 x42 x43 : AV) (H : AH) (R : List AV→AH→Prop),(∀ (m : Nat) (y1 y2 y7 y41 y42 y43 : AV) (H' : AH),m < n→I m y1 y2 y7 y41 y42 y43 H'→R [y1,y2,y7,y41,y42,y43] H')→I n x1 x2 x7 x41 x42 x43 H→zlcZ R x1 x2 x7 x41 x42 x43 H K) (n : Nat) {x1 x2 x7 x41 x42 x43 : AV} {H : AH} (h : I n x1 x2 x7 x41 x42 x43 H) : extent_Read_L8 x1 x2 x7 x41 x42 x43 H K:=by
 refine lp_upto (zvZ _ _) (LI6 I) ?_ n h
 intro n X H h
 obtain ⟨x1,x2,x7,x41,x42,x43,rfl,h⟩:=h.elim
 exact Eq.mpr (extent_Read_L8_eq _ x1 x2 x7 x41 x42 x43 H K) (round n x1 x2 x7 x41 x42 x43 H (fun X H' => ∃ m,m < n∧LI6 I m X H') (fun m y1 y2 y7 y41 y42 y43 H' hm hi => ⟨m,hm,hi⟩) h)
def extent_Read (a0 a1 a2 : AV) (H : AH) (K : AV→AH→Prop) : Prop :=
 bH (anew H a0) fun v0 H1 =>
 bO (ald true 2 H1 v0) fun v2 =>
 bP (PCall Tryz.prog 67 [v2] H1) fun v3 =>
 bO (aun .not v3) fun v4 =>
 bG v4 false fun w5 =>
 gO w5 (some a1) fun v6 =>
 bG v4 false fun w7 =>
 gO w7 (abI .lss v6 (.lit (.int .i64 0))) fun v8 =>
 bO (apick v4 (.lit (.bool true)) v8) fun v9 =>
 bG v9 false fun w10 =>
 gO w10 (some a2) fun v11 =>
 bG v9 false fun w12 =>
 gO w12 (abI .lss v11 (.lit (.int .i64 0))) fun v13 =>
 bO (apick v9 (.lit (.bool true)) v13) fun v14 =>
 bG v14 false fun w15 =>
 gO w15 (some a2) fun v16 =>
 bG v14 false fun w17 =>
 gO w17 (abI .gtr v16 (.lit (.int .i64 4096))) fun v18 =>
 bO (apick v14 (.lit (.bool true)) v18) fun v19 =>
 bG v19 false fun w20 =>
 gO w20 (some a1) fun v21 =>
 bG v19 false fun w22 =>
 gO w22 (ashift 0 v0) fun v23 =>
 bG v19 false fun w24 =>
 gO w24 (ald false 1 H1 v23) fun v25 =>
 bG v19 false fun w26 =>
 gO w26 (abI .geq v21 v25) fun v27 =>
 bO (apick v19 (.lit (.bool true)) v27) fun v28 =>
 bB v28 fun t29 => bI t29 (
 K (.lit (.slice none 0 0)) H1)
 (bO (ashift 0 v0) fun v30 =>
 bO (ald false 1 H1 v30) fun v31 =>
 bO (abI .sub v31 a1) fun v32 =>
 bO (amm imn [a2,v32]) fun v33 =>
 bH (amk 1 1 [(.lit (.int .u8 0))] H1 v33 v33) fun v34 H35 =>
 bO (ashift 1 v0) fun v36 =>
 bO (ald false 1 H35 v36) fun v37 =>
 bO (alnS v37) fun v38 =>
 extent_Read_L8 a1 v33 v34 v37 v38 (.lit (.int .i64 0)) H35 K)
theorem extent_Read_eq (a0 a1 a2 : AV) (H : AH) (K : AV→AH→Prop) : sFun Tryz.prog extent_Read_fl pql none0 none0 extent_Read_kp Tryz.f51 [a0,a1,a2] H K=extent_Read a0 a1 a2 H K:=by kernel_rfl
theorem extent_Read_ok {a0 a1 a2 : AV} {H : AH} {K : AV→AH→Prop} (h : extent_Read a0 a1 a2 H K) : ∃ r H',K r H'∧BCall Tryz.prog 51 [a0,a1,a2] H r H' :=
 sFun_ok mixP Tryz.func51 (by kernel_rfl) (Eq.mpr (extent_Read_eq a0 a1 a2 H K) h)
def extent_May_fl : Floats:=flOf []
def extent_May_kp : Nat→Option (List Bool):=kpOf [(7,mk 40 0 [1,3,15,16,17])]
def zpiZ (p : List Bool) (n : Nat) : List AV→AH→Kf→Prop:=sCode Tryz.prog extent_May_fl pql none0 none0 extent_May_kp (sub p (bodyOf Tryz.f67)) n
def extent_May_L7 (x1 x3 x15 x16 x17 : AV) (H : AH) (K : AV→AH→Prop) : Prop:=lp (mk 40 0 [1,3,15,16,17]) (zpiZ [true,true,true,false,true,false,false] 8) [x1,x3,x15,x16,x17] H (kBlk 0 (kSeq (zpiZ [true,true,true,true] 15) (kRet Tryz.prog Tryz.f67.results.toList K)))
def zmzZ (R7 : List AV→AH→Prop) (x1 x3 x15 x16 x17 : AV) (H : AH) (K : AV→AH→Prop) : Prop :=
 bO (abI .lss x17 x16) fun v0 =>
 bB v0 fun t1 => bI t1 (
 bO (aixS 9 x15 x17) fun v2 =>
 bO (ald true 9 H v2) fun v3 =>
 bH (anew H (.agg [(.lit (.int .i64 0)),(.lit (.int .u8 0)),(.lit (.int .u8 0)),(.lit (.int .u8 0)),(.lit (.int .u8 0)),(.lit (.int .u8 0)),(.lit (.int .u8 0)),(.lit (.int .u8 0)),(.lit (.int .u8 0))])) fun v4 H5 =>
 bS (ast 9 H5 v4 v3) fun H6 =>
 bO (ashift 0 v4) fun v7 =>
 bO (ald false 1 H6 v7) fun v8 =>
 bO (abI .leq v8 x3) fun v9 =>
 bG v9 false fun w10 =>
 gO w10 (ashift 0 v4) fun v11 =>
 bG v9 false fun w12 =>
 gO w12 (ald false 1 H6 v11) fun v13 =>
 bG v9 false fun w14 =>
 gO w14 (abI .geq v13 (.lit (.int .i64 137438953472))) fun v15 =>
 bO (apick v9 (.lit (.bool true)) v15) fun v16 =>
 bG v16 false fun w17 =>
 gO w17 (ald true 9 H6 v4) fun v18 =>
 bG v16 false fun w19 =>
 gO w19 (ashift 0 x1) fun v20 =>
 bG v16 false fun w21 =>
 gO w21 (ald false 1 H6 v20) fun v22 =>
 bG v16 false fun w23 =>
 gP w23 (PCall Tryz.prog 92 [v18,v22] H6) fun v24 =>
 bG v16 false fun w25 =>
 gO w25 (aun .not v24) fun v26 =>
 bO (apick v16 (.lit (.bool true)) v26) fun v27 =>
 bB v27 fun t28 => bI t28 (
 K (.lit (.bool false)) H6)
 (bO (ashift 0 v4) fun v29 =>
 bO (ald false 1 H6 v29) fun v30 =>
 bO (abI .add x17 (.lit (.int .i64 1))) fun v31 =>
 R7 [x1,v30,x15,x16,v31] H6))
 (K (.lit (.bool true)) H)
theorem extent_May_L7_eq (R7 : List AV→AH→Prop) (x1 x3 x15 x16 x17 : AV) (H : AH) (K : AV→AH→Prop) : zpiZ [true,true,true,false,true,false,false] 8 (expand (mk 40 0 [1,3,15,16,17]) [x1,x3,x15,x16,x17]) H (kLp (mk 40 0 [1,3,15,16,17]) R7 (kBlk 0 (kSeq (zpiZ [true,true,true,true] 15) (kRet Tryz.prog Tryz.f67.results.toList K))))=zmzZ R7 x1 x3 x15 x16 x17 H K:=by kernel_rfl
theorem extent_May_L7_rule {K : AV→AH→Prop} (I : Nat→AV→AV→AV→AV→AV→AH→Prop) (round : ∀ (n : Nat) (x1 x3 x15 x16 x17 : AV) (H : AH) (R : List AV→AH→Prop),(∀ (m : Nat) (y1 y3 y15 y16 y17 : AV) (H' : AH),m < n→I m y1 y3 y15 y16 y17 H'→R [y1,y3,y15,y16,y17] H')→I n x1 x3 x15 x16 x17 H→zmzZ R x1 x3 x15 x16 x17 H K) (n : Nat) {x1 x3 x15 x16 x17 : AV} {H : AH} (h : I n x1 x3 x15 x16 x17 H) : extent_May_L7 x1 x3 x15 x16 x17 H K:=by
 refine lp_upto (zvZ _ _) (LI5 I) ?_ n h
 intro n X H h
 obtain ⟨x1,x3,x15,x16,x17,rfl,h⟩:=h.elim
 exact Eq.mpr (extent_May_L7_eq _ x1 x3 x15 x16 x17 H K) (round n x1 x3 x15 x16 x17 H (fun X H' => ∃ m,m < n∧LI5 I m X H') (fun m y1 y3 y15 y16 y17 H' hm hi => ⟨m,hm,hi⟩) h)
def extent_May (a0 : AV) (H : AH) (K : AV→AH→Prop) : Prop :=
 bH (anew H a0) fun v0 H1 =>
 bO (ashift 0 v0) fun v2 =>
 bO (ald false 1 H1 v2) fun v3 =>
 bO (abI .lss v3 (.lit (.int .i64 0))) fun v4 =>
 bG v4 false fun w5 =>
 gO w5 (ashift 0 v0) fun v6 =>
 bG v4 false fun w7 =>
 gO w7 (ald false 1 H1 v6) fun v8 =>
 bG v4 false fun w9 =>
 gO w9 (abI .gtr v8 (.lit (.int .i64 1099511627776))) fun v10 =>
 bO (apick v4 (.lit (.bool true)) v10) fun v11 =>
 bB v11 fun t12 => bI t12 (
 K (.lit (.bool false)) H1)
 (bO (ashift 1 v0) fun v13 =>
 bO (ald false 1 H1 v13) fun v14 =>
 bO (alnS v14) fun v15 =>
 extent_May_L7 v0 (.lit (.int .i64 (-1))) v14 v15 (.lit (.int .i64 0)) H1 K)
theorem extent_May_eq (a0 : AV) (H : AH) (K : AV→AH→Prop) : sFun Tryz.prog extent_May_fl pql none0 none0 extent_May_kp Tryz.f67 [a0] H K=extent_May a0 H K:=by kernel_rfl
theorem extent_May_ok {a0 : AV} {H : AH} {K : AV→AH→Prop} (h : extent_May a0 H K) : ∃ r H',K r H'∧BCall Tryz.prog 67 [a0] H r H' :=
 sFun_ok mixP Tryz.func67 (by kernel_rfl) (Eq.mpr (extent_May_eq a0 H K) h)
def znjZ : Floats:=flOf []
def znfZ : Nat→Option (List Bool):=kpOf [(11,mk 50 0 [4,8]),(7,mk 50 0 [1,2,3,4,8,10])]
def zeiZ (p : List Bool) (n : Nat) : List AV→AH→Kf→Prop:=sCode Tryz.prog znjZ pql none0 none0 znfZ (sub p (bodyOf Tryz.f86)) n
def zesZ (x4 x8 : AV) (H : AH) (K : AV→AH→Prop) : Prop:=jn (mk 50 0 [4,8]) (zeiZ [true,true,true,true,true] 13) [x4,x8] H (kRet Tryz.prog Tryz.f86.results.toList K)
def zneZ (x1 x2 x3 x4 x8 x10 : AV) (H : AH) (K : AV→AH→Prop) : Prop:=lp (mk 50 0 [1,2,3,4,8,10]) (zeiZ [true,true,true,false,true,false,false] 8) [x1,x2,x3,x4,x8,x10] H (kBlk 0 (kSeq (zeiZ [true,true,true,true] 11) (kRet Tryz.prog Tryz.f86.results.toList K)))
def zjxZ (x4 x8 : AV) (H : AH) (K : AV→AH→Prop) : Prop :=
 bO (ald true 2 H x4) fun v0 =>
 bS (ast 2 H x8 v0) fun H1 =>
 bO (ald true 2 H1 x8) fun v2 =>
 K (.tup [v2,(.lit (.bool true))]) H1
theorem zpnZ (x4 x8 : AV) (H : AH) (K : AV→AH→Prop) : zesZ x4 x8 H K=zjxZ x4 x8 H K:=(jn_eq _ _ _ _ _).trans (by kernel_rfl)
def zgxZ (R7 : List AV→AH→Prop) (x1 x2 x3 x4 x8 x10 : AV) (H : AH) (K : AV→AH→Prop) : Prop :=
 bO (abI .add x1 x2) fun v0 =>
 bO (abI .sub v0 (.lit (.int .i64 1))) fun v1 =>
 bO (abI .quo v1 (.lit (.int .i64 8))) fun v2 =>
 bO (abI .leq x10 v2) fun v3 =>
 bB v3 fun t4 => bI t4 (
 bC (BCall Tryz.prog 109 [x4,x10] H) fun v5 H6 =>
 bO (abI .add x10 (.lit (.int .i64 1))) fun v7 =>
 R7 [x1,x2,x3,x4,x8,v7] H6)
 (bO (aun .not x3) fun v8 =>
 bB v8 fun t9 => bI t9 (
 bO (ashift 0 x4) fun v10 =>
 bO (ald false 1 H v10) fun v11 =>
 bO (abI .add x1 x2) fun v12 =>
 bO (amm imx [v11,v12]) fun v13 =>
 bO (ashift 0 x4) fun v14 =>
 bS (ast 1 H v14 v13) fun H15 =>
 zesZ x4 x8 H15 K)
 (zesZ x4 x8 H K))
theorem zqdZ (R7 : List AV→AH→Prop) (x1 x2 x3 x4 x8 x10 : AV) (H : AH) (K : AV→AH→Prop) : zeiZ [true,true,true,false,true,false,false] 8 (expand (mk 50 0 [1,2,3,4,8,10]) [x1,x2,x3,x4,x8,x10]) H (kLp (mk 50 0 [1,2,3,4,8,10]) R7 (kBlk 0 (kSeq (zeiZ [true,true,true,true] 11) (kRet Tryz.prog Tryz.f86.results.toList K))))=zgxZ R7 x1 x2 x3 x4 x8 x10 H K:=by kernel_rfl
theorem znyZ {K : AV→AH→Prop} (I : Nat→AV→AV→AV→AV→AV→AV→AH→Prop) (round : ∀ (n : Nat) (x1 x2 x3 x4 x8 x10 : AV) (H : AH) (R : List AV→AH→Prop),(∀ (m : Nat) (y1 y2 y3 y4 y8 y10 : AV) (H' : AH),m < n→I m y1 y2 y3 y4 y8 y10 H'→R [y1,y2,y3,y4,y8,y10] H')→I n x1 x2 x3 x4 x8 x10 H→zgxZ R x1 x2 x3 x4 x8 x10 H K) (n : Nat) {x1 x2 x3 x4 x8 x10 : AV} {H : AH} (h : I n x1 x2 x3 x4 x8 x10 H) : zneZ x1 x2 x3 x4 x8 x10 H K:=by
 refine lp_upto (zvZ _ _) (LI6 I) ?_ n h
 intro n X H h
 obtain ⟨x1,x2,x3,x4,x8,x10,rfl,h⟩:=h.elim
 exact Eq.mpr (zqdZ _ x1 x2 x3 x4 x8 x10 H K) (round n x1 x2 x3 x4 x8 x10 H (fun X H' => ∃ m,m < n∧LI6 I m X H') (fun m y1 y2 y3 y4 y8 y10 H' hm hi => ⟨m,hm,hi⟩) h)
def zmvZ (a0 a1 a2 a3 : AV) (H : AH) (K : AV→AH→Prop) : Prop :=
 bH (anew H a0) fun v0 H1 =>
 bH (anew H1 (.agg [(.lit (.int .i64 0)),(.lit (.slice none 0 0))])) fun v2 H3 =>
 bO (ald true 2 H3 v0) fun v4 =>
 bP (PCall Tryz.prog 67 [v4] H3) fun v5 =>
 bO (aun .not v5) fun v6 =>
 bG v6 false fun w7 =>
 gO w7 (some a1) fun v8 =>
 bG v6 false fun w9 =>
 gO w9 (some a2) fun v10 =>
 bG v6 false fun w11 =>
 gP w11 (PCall Tryz.prog 110 [v8,v10] H3) fun v12 =>
 bG v6 false fun w13 =>
 gO w13 (aun .not v12) fun v14 =>
 bO (apick v6 (.lit (.bool true)) v14) fun v15 =>
 bG v15 false fun w16 =>
 gO w16 (some a2) fun v17 =>
 bG v15 false fun w18 =>
 gO w18 (abI .gtr v17 (.lit (.int .i64 32768))) fun v19 =>
 bO (apick v15 (.lit (.bool true)) v19) fun v20 =>
 bB v20 fun t21 => bI t21 (
 bO (abl [(.lit (.int .i64 0)),(.lit (.slice none 0 0))] []) fun v22 =>
 bS (ast 2 H3 v2 v22) fun H23 =>
 bO (ald true 2 H23 v2) fun v24 =>
 K (.tup [v24,(.lit (.bool false))]) H23)
 (bO (ald true 2 H3 v0) fun v25 =>
 bC (BCall Tryz.prog 68 [v25] H3) fun v26 H27 =>
 bS (ast 2 H27 v0 v26) fun H28 =>
 bO (abI .quo a1 (.lit (.int .i64 8))) fun v29 =>
 zneZ a1 a2 a3 v0 v2 v29 H28 K)
theorem extent_Allocate_eq (a0 a1 a2 a3 : AV) (H : AH) (K : AV→AH→Prop) : sFun Tryz.prog znjZ pql none0 none0 znfZ Tryz.f86 [a0,a1,a2,a3] H K=zmvZ a0 a1 a2 a3 H K:=by kernel_rfl
theorem extent_Allocate_ok {a0 a1 a2 a3 : AV} {H : AH} {K : AV→AH→Prop} (h : zmvZ a0 a1 a2 a3 H K) : ∃ r H',K r H'∧BCall Tryz.prog 86 [a0,a1,a2,a3] H r H' :=
 sFun_ok mixP Tryz.func86 (by kernel_rfl) (Eq.mpr (extent_Allocate_eq a0 a1 a2 a3 H K) h)
def zngZ : Floats:=flOf []
def zncZ : Nat→Option (List Bool):=kpOf [(9,mk 45 0 [2,3,4,30,31])]
def zhdZ (p : List Bool) (n : Nat) : List AV→AH→Kf→Prop:=sCode Tryz.prog zngZ pql none0 none0 zncZ (sub p (bodyOf Tryz.f46)) n
def zniZ (x2 x3 x4 x30 x31 : AV) (H : AH) (K : AV→AH→Prop) : Prop:=lp (mk 45 0 [2,3,4,30,31]) (zhdZ [true,true,true,true,true,false,true,false,false] 10) [x2,x3,x4,x30,x31] H (kBlk 0 (kSeq (zhdZ [true,true,true,true,true,true] 14) (kRet Tryz.prog Tryz.f46.results.toList K)))
def zgrZ (R9 : List AV→AH→Prop) (x2 x3 x4 x30 x31 : AV) (H : AH) (K : AV→AH→Prop) : Prop :=
 bO (abI .lss x31 x30) fun v0 =>
 bB v0 fun t1 => bI t1 (
 bO (ashift 1 x2) fun v2 =>
 bO (ald false 1 H v2) fun v3 =>
 bO (aixS 9 v3 x31) fun v4 =>
 bO (ald false 1 H x3) fun v5 =>
 bO (ald false 1 H x3) fun v6 =>
 bO (abI .sub (.lit (.int .i64 1099511627776)) v6) fun v7 =>
 bO (abl [(.lit (.int .i64 0)),(.lit (.int .i64 0))] [(0,1,v5),(1,1,v7)]) fun v8 =>
 bC (BCall Tryz.prog 71 [v4,v8] H) fun v9 H10 =>
 bO (abI .add x31 (.lit (.int .i64 1))) fun v11 =>
 R9 [x2,x3,x4,x30,v11] H10)
 (bO (ald true 2 H x2) fun v12 =>
 bS (ast 2 H x4 v12) fun H13 =>
 bO (ald true 2 H13 x4) fun v14 =>
 K (.tup [v14,(.lit (.bool true))]) H13)
theorem zqgZ (R9 : List AV→AH→Prop) (x2 x3 x4 x30 x31 : AV) (H : AH) (K : AV→AH→Prop) : zhdZ [true,true,true,true,true,false,true,false,false] 10 (expand (mk 45 0 [2,3,4,30,31]) [x2,x3,x4,x30,x31]) H (kLp (mk 45 0 [2,3,4,30,31]) R9 (kBlk 0 (kSeq (zhdZ [true,true,true,true,true,true] 14) (kRet Tryz.prog Tryz.f46.results.toList K))))=zgrZ R9 x2 x3 x4 x30 x31 H K:=by kernel_rfl
theorem zorZ {K : AV→AH→Prop} (I : Nat→AV→AV→AV→AV→AV→AH→Prop) (round : ∀ (n : Nat) (x2 x3 x4 x30 x31 : AV) (H : AH) (R : List AV→AH→Prop),(∀ (m : Nat) (y2 y3 y4 y30 y31 : AV) (H' : AH),m < n→I m y2 y3 y4 y30 y31 H'→R [y2,y3,y4,y30,y31] H')→I n x2 x3 x4 x30 x31 H→zgrZ R x2 x3 x4 x30 x31 H K) (n : Nat) {x2 x3 x4 x30 x31 : AV} {H : AH} (h : I n x2 x3 x4 x30 x31 H) : zniZ x2 x3 x4 x30 x31 H K:=by
 refine lp_upto (zvZ _ _) (LI5 I) ?_ n h
 intro n X H h
 obtain ⟨x2,x3,x4,x30,x31,rfl,h⟩:=h.elim
 exact Eq.mpr (zqgZ _ x2 x3 x4 x30 x31 H K) (round n x2 x3 x4 x30 x31 H (fun X H' => ∃ m,m < n∧LI5 I m X H') (fun m y2 y3 y4 y30 y31 H' hm hi => ⟨m,hm,hi⟩) h)
def znaZ (a0 a1 : AV) (H : AH) (K : AV→AH→Prop) : Prop :=
 bH (anew H a0) fun v0 H1 =>
 bH (anew H1 a1) fun v2 H3 =>
 bH (anew H3 (.agg [(.lit (.int .i64 0)),(.lit (.slice none 0 0))])) fun v4 H5 =>
 bO (ald true 2 H5 v0) fun v6 =>
 bP (PCall Tryz.prog 67 [v6] H5) fun v7 =>
 bO (aun .not v7) fun v8 =>
 bG v8 false fun w9 =>
 gO w9 (ald false 1 H5 v2) fun v10 =>
 bG v8 false fun w11 =>
 gO w11 (abI .lss v10 (.lit (.int .i64 0))) fun v12 =>
 bO (apick v8 (.lit (.bool true)) v12) fun v13 =>
 bG v13 false fun w14 =>
 gO w14 (ald false 1 H5 v2) fun v15 =>
 bG v13 false fun w16 =>
 gO w16 (abI .gtr v15 (.lit (.int .i64 1099511627776))) fun v17 =>
 bO (apick v13 (.lit (.bool true)) v17) fun v18 =>
 bB v18 fun t19 => bI t19 (
 bO (abl [(.lit (.int .i64 0)),(.lit (.slice none 0 0))] []) fun v20 =>
 bS (ast 2 H5 v4 v20) fun H21 =>
 bO (ald true 2 H21 v4) fun v22 =>
 K (.tup [v22,(.lit (.bool false))]) H21)
 (bO (ald true 2 H5 v0) fun v23 =>
 bC (BCall Tryz.prog 68 [v23] H5) fun v24 H25 =>
 bS (ast 2 H25 v0 v24) fun H26 =>
 bO (ald false 1 H26 v2) fun v27 =>
 bO (ashift 0 v0) fun v28 =>
 bS (ast 1 H26 v28 v27) fun H29 =>
 bO (ashift 1 v0) fun v30 =>
 bO (ald false 1 H29 v30) fun v31 =>
 bC (BCall Tryz.prog 69 [v31,(.fn (.func 70) [] [v2])] H29) fun v32 H33 =>
 bO (ashift 1 v0) fun v34 =>
 bS (ast 1 H33 v34 v32) fun H35 =>
 bO (ashift 1 v0) fun v36 =>
 bO (ald false 1 H35 v36) fun v37 =>
 bO (alnS v37) fun v38 =>
 zniZ v0 v2 v4 v38 (.lit (.int .i64 0)) H35 K)
theorem extent_Truncate_eq (a0 a1 : AV) (H : AH) (K : AV→AH→Prop) : sFun Tryz.prog zngZ pql none0 none0 zncZ Tryz.f46 [a0,a1] H K=znaZ a0 a1 H K:=by kernel_rfl
theorem extent_Truncate_ok {a0 a1 : AV} {H : AH} {K : AV→AH→Prop} (h : znaZ a0 a1 H K) : ∃ r H',K r H'∧BCall Tryz.prog 46 [a0,a1] H r H' :=
 sFun_ok mixP Tryz.func46 (by kernel_rfl) (Eq.mpr (extent_Truncate_eq a0 a1 H K) h)
def extent_Punch_fl : Floats:=flOf []
def extent_Punch_kp : Nat→Option (List Bool):=kpOf [(9,mk 44 0 [3,6,8,32,33])]
def zkpZ (p : List Bool) (n : Nat) : List AV→AH→Kf→Prop:=sCode Tryz.prog extent_Punch_fl pql none0 none0 extent_Punch_kp (sub p (bodyOf Tryz.f87)) n
def extent_Punch_L9 (x3 x6 x8 x32 x33 : AV) (H : AH) (K : AV→AH→Prop) : Prop:=lp (mk 44 0 [3,6,8,32,33]) (zkpZ [true,true,true,true,true,false,true,false,false] 10) [x3,x6,x8,x32,x33] H (kBlk 0 (kSeq (zkpZ [true,true,true,true,true,true] 14) (kRet Tryz.prog Tryz.f87.results.toList K)))
def zjoZ (R9 : List AV→AH→Prop) (x3 x6 x8 x32 x33 : AV) (H : AH) (K : AV→AH→Prop) : Prop :=
 bO (abI .lss x33 x32) fun v0 =>
 bB v0 fun t1 => bI t1 (
 bO (ashift 1 x3) fun v2 =>
 bO (ald false 1 H v2) fun v3 =>
 bO (aixS 9 v3 x33) fun v4 =>
 bO (ald true 2 H x8) fun v5 =>
 bC (BCall Tryz.prog 71 [v4,v5] H) fun v6 H7 =>
 bO (abI .add x33 (.lit (.int .i64 1))) fun v8 =>
 R9 [x3,x6,x8,x32,v8] H7)
 (bO (ald true 2 H x3) fun v9 =>
 bS (ast 2 H x6 v9) fun H10 =>
 bO (ald true 2 H10 x6) fun v11 =>
 K (.tup [v11,(.lit (.bool true))]) H10)
theorem extent_Punch_L9_eq (R9 : List AV→AH→Prop) (x3 x6 x8 x32 x33 : AV) (H : AH) (K : AV→AH→Prop) : zkpZ [true,true,true,true,true,false,true,false,false] 10 (expand (mk 44 0 [3,6,8,32,33]) [x3,x6,x8,x32,x33]) H (kLp (mk 44 0 [3,6,8,32,33]) R9 (kBlk 0 (kSeq (zkpZ [true,true,true,true,true,true] 14) (kRet Tryz.prog Tryz.f87.results.toList K))))=zjoZ R9 x3 x6 x8 x32 x33 H K:=by kernel_rfl
theorem extent_Punch_L9_rule {K : AV→AH→Prop} (I : Nat→AV→AV→AV→AV→AV→AH→Prop) (round : ∀ (n : Nat) (x3 x6 x8 x32 x33 : AV) (H : AH) (R : List AV→AH→Prop),(∀ (m : Nat) (y3 y6 y8 y32 y33 : AV) (H' : AH),m < n→I m y3 y6 y8 y32 y33 H'→R [y3,y6,y8,y32,y33] H')→I n x3 x6 x8 x32 x33 H→zjoZ R x3 x6 x8 x32 x33 H K) (n : Nat) {x3 x6 x8 x32 x33 : AV} {H : AH} (h : I n x3 x6 x8 x32 x33 H) : extent_Punch_L9 x3 x6 x8 x32 x33 H K:=by
 refine lp_upto (zvZ _ _) (LI5 I) ?_ n h
 intro n X H h
 obtain ⟨x3,x6,x8,x32,x33,rfl,h⟩:=h.elim
 exact Eq.mpr (extent_Punch_L9_eq _ x3 x6 x8 x32 x33 H K) (round n x3 x6 x8 x32 x33 H (fun X H' => ∃ m,m < n∧LI5 I m X H') (fun m y3 y6 y8 y32 y33 H' hm hi => ⟨m,hm,hi⟩) h)
def extent_Punch (a0 a1 a2 : AV) (H : AH) (K : AV→AH→Prop) : Prop :=
 bH (anew H a0) fun v0 H1 =>
 bH (anew H1 (.agg [(.lit (.int .i64 0)),(.lit (.slice none 0 0))])) fun v2 H3 =>
 bO (ald true 2 H3 v0) fun v4 =>
 bP (PCall Tryz.prog 67 [v4] H3) fun v5 =>
 bO (aun .not v5) fun v6 =>
 bG v6 false fun w7 =>
 gO w7 (some a1) fun v8 =>
 bG v6 false fun w9 =>
 gO w9 (some a2) fun v10 =>
 bG v6 false fun w11 =>
 gP w11 (PCall Tryz.prog 110 [v8,v10] H3) fun v12 =>
 bG v6 false fun w13 =>
 gO w13 (aun .not v12) fun v14 =>
 bO (apick v6 (.lit (.bool true)) v14) fun v15 =>
 bB v15 fun t16 => bI t16 (
 bO (abl [(.lit (.int .i64 0)),(.lit (.slice none 0 0))] []) fun v17 =>
 bS (ast 2 H3 v2 v17) fun H18 =>
 bO (ald true 2 H18 v2) fun v19 =>
 K (.tup [v19,(.lit (.bool false))]) H18)
 (bO (ald true 2 H3 v0) fun v20 =>
 bC (BCall Tryz.prog 68 [v20] H3) fun v21 H22 =>
 bS (ast 2 H22 v0 v21) fun H23 =>
 bO (abl [(.lit (.int .i64 0)),(.lit (.int .i64 0))] [(0,1,a1),(1,1,a2)]) fun v24 =>
 bH (anew H23 (.agg [(.lit (.int .i64 0)),(.lit (.int .i64 0))])) fun v25 H26 =>
 bS (ast 2 H26 v25 v24) fun H27 =>
 bO (ashift 1 v0) fun v28 =>
 bO (ald false 1 H27 v28) fun v29 =>
 bC (BCall Tryz.prog 69 [v29,(.fn (.func 111) [] [v25])] H27) fun v30 H31 =>
 bO (ashift 1 v0) fun v32 =>
 bS (ast 1 H31 v32 v30) fun H33 =>
 bO (ashift 1 v0) fun v34 =>
 bO (ald false 1 H33 v34) fun v35 =>
 bO (alnS v35) fun v36 =>
 extent_Punch_L9 v0 v2 v25 v36 (.lit (.int .i64 0)) H33 K)
theorem extent_Punch_eq (a0 a1 a2 : AV) (H : AH) (K : AV→AH→Prop) : sFun Tryz.prog extent_Punch_fl pql none0 none0 extent_Punch_kp Tryz.f87 [a0,a1,a2] H K=extent_Punch a0 a1 a2 H K:=by kernel_rfl
theorem extent_Punch_ok {a0 a1 a2 : AV} {H : AH} {K : AV→AH→Prop} (h : extent_Punch a0 a1 a2 H K) : ∃ r H',K r H'∧BCall Tryz.prog 87 [a0,a1,a2] H r H' :=
 sFun_ok mixP Tryz.func87 (by kernel_rfl) (Eq.mpr (extent_Punch_eq a0 a1 a2 H K) h)
def extent_Fits_fl : Floats:=flOf []
def extent_Fits_kp : Nat→Option (List Bool):=kpOf []
def extent_Fits (a0 a1 : AV) (H : AH) (K : AV→AH→Prop) : Prop :=
 bO (abI .geq a0 (.lit (.int .i64 0))) fun v0 =>
 bG v0 true fun w1 =>
 gO w1 (some a1) fun v2 =>
 bG v0 true fun w3 =>
 gO w3 (abI .leq v2 (.lit (.int .i64 4096))) fun v4 =>
 bO (apick v0 v4 (.lit (.bool false))) fun v5 =>
 bG v5 true fun w6 =>
 gO w6 (some a0) fun v7 =>
 bG v5 true fun w8 =>
 gO w8 (some a1) fun v9 =>
 bG v5 true fun w10 =>
 gO w10 (abI .sub (.lit (.int .i64 1099511627776)) v9) fun v11 =>
 bG v5 true fun w12 =>
 gO w12 (abI .leq v7 v11) fun v13 =>
 bO (apick v5 v13 (.lit (.bool false))) fun v14 =>
 K v14 H
theorem extent_Fits_eq (a0 a1 : AV) (H : AH) (K : AV→AH→Prop) : sFun Tryz.prog extent_Fits_fl pql none0 none0 extent_Fits_kp Tryz.f73 [a0,a1] H K=extent_Fits a0 a1 H K:=by kernel_rfl
theorem extent_Fits_ok {a0 a1 : AV} {H : AH} {K : AV→AH→Prop} (h : extent_Fits a0 a1 H K) : ∃ r H',K r H'∧BCall Tryz.prog 73 [a0,a1] H r H' :=
 sFun_ok mixP Tryz.func73 (by kernel_rfl) (Eq.mpr (extent_Fits_eq a0 a1 H K) h)
def extent_copied_fl : Floats:=flOf [(1,[(1,some 4)])]
def extent_copied_kp : Nat→Option (List Bool):=kpOf []
def extent_copied (a0 : AV) (H : AH) (K : AV→AH→Prop) : Prop :=
 bH (anew H a0) fun v0 H1 =>
 bH (anew H1 (.agg [(.lit (.int .i64 0)),(.lit (.slice none 0 0))])) fun v2 H3 =>
 bO (ashift 0 v0) fun v4 =>
 bO (ald false 1 H3 v4) fun v5 =>
 bO (ashift 1 v0) fun v6 =>
 bO (ald false 1 H3 v6) fun v7 =>
 bC (BCall Tryz.prog 90 [v7] H3) fun v8 H9 =>
 bO (abl [(.lit (.int .i64 0)),(.lit (.slice none 0 0))] [(0,1,v5),(1,1,v8)]) fun v10 =>
 bS (ast 2 H9 v2 v10) fun H11 =>
(ald false 1 H9 v4=some v5) ∧
 bO (ald true 2 H11 v2) fun v12 =>
 K v12 H11
theorem extent_copied_eq (a0 : AV) (H : AH) (K : AV→AH→Prop) : sFun Tryz.prog extent_copied_fl pql none0 none0 extent_copied_kp Tryz.f68 [a0] H K=extent_copied a0 H K:=by kernel_rfl
theorem extent_copied_ok {a0 : AV} {H : AH} {K : AV→AH→Prop} (h : extent_copied a0 H K) : ∃ r H',K r H'∧BCall Tryz.prog 68 [a0] H r H' :=
 sFun_ok mixP Tryz.func68 (by kernel_rfl) (Eq.mpr (extent_copied_eq a0 H K) h)
def off_Parts_fl : Floats:=flOf []
def off_Parts_kp : Nat→Option (List Bool):=kpOf [(6,mk 48 0 [1,2,5])]
def off_Parts_c (p : List Bool) (n : Nat) : List AV→AH→Kf→Prop:=sCode Tryz.prog off_Parts_fl pql none0 none0 off_Parts_kp (sub p (bodyOf Tryz.f74)) n
def off_Parts_L6 (x1 x2 x5 : AV) (H : AH) (K : AV→AH→Prop) : Prop:=lp (mk 48 0 [1,2,5]) (off_Parts_c [true,true,true,false,false,false] 7) [x1,x2,x5] H (kBlk 0 (kSeq (off_Parts_c [true,true,true,true] 11) (kRet Tryz.prog Tryz.f74.results.toList K)))
def zopZ (R6 : List AV→AH→Prop) (x1 x2 x5 : AV) (H : AH) (K : AV→AH→Prop) : Prop :=
 bO (ashift 1 x2) fun v0 =>
 bO (ald false 1 H v0) fun v1 =>
 bO (abI .gtr v1 (.lit (.int .i64 0))) fun v2 =>
 bB v2 fun t3 => bI t3 (
 bO (ashift 1 x2) fun v4 =>
 bO (ald false 1 H v4) fun v5 =>
 bO (ashift 0 x2) fun v6 =>
 bO (ald false 1 H v6) fun v7 =>
 bO (abI .rem v7 x1) fun v8 =>
 bO (abI .sub x1 v8) fun v9 =>
 bO (amm imn [v5,v9]) fun v10 =>
 bO (ashift 0 x2) fun v11 =>
 bO (ald false 1 H v11) fun v12 =>
 bO (abl [(.lit (.int .i64 0)),(.lit (.int .i64 0))] [(0,1,v12),(1,1,v10)]) fun v13 =>
 bH (absl H 2 1 (zrow [(.lit (.int .i64 0)),(.lit (.int .i64 0))] 1) [(0,2,v13)]) fun v14 H15 =>
 bH (aap 2 16 H15 x5 v14) fun v16 H17 =>
 bO (ashift 0 x2) fun v18 =>
 bO (ald false 1 H17 v18) fun v19 =>
 bO (abI .add v19 v10) fun v20 =>
 bO (ashift 1 x2) fun v21 =>
 bO (ald false 1 H17 v21) fun v22 =>
 bO (abI .sub v22 v10) fun v23 =>
 bO (abl [(.lit (.int .i64 0)),(.lit (.int .i64 0))] [(0,1,v20),(1,1,v23)]) fun v24 =>
 bS (ast 2 H17 x2 v24) fun H25 =>
 R6 [x1,x2,v16] H25)
 (K x5 H)
theorem off_Parts_L6_eq (R6 : List AV→AH→Prop) (x1 x2 x5 : AV) (H : AH) (K : AV→AH→Prop) : off_Parts_c [true,true,true,false,false,false] 7 (expand (mk 48 0 [1,2,5]) [x1,x2,x5]) H (kLp (mk 48 0 [1,2,5]) R6 (kBlk 0 (kSeq (off_Parts_c [true,true,true,true] 11) (kRet Tryz.prog Tryz.f74.results.toList K))))=zopZ R6 x1 x2 x5 H K:=by kernel_rfl
theorem off_Parts_L6_rule {K : AV→AH→Prop} (I : Nat→AV→AV→AV→AH→Prop) (round : ∀ (n : Nat) (x1 x2 x5 : AV) (H : AH) (R : List AV→AH→Prop),(∀ (m : Nat) (y1 y2 y5 : AV) (H' : AH),m < n→I m y1 y2 y5 H'→R [y1,y2,y5] H')→I n x1 x2 x5 H→zopZ R x1 x2 x5 H K) (n : Nat) {x1 x2 x5 : AV} {H : AH} (h : I n x1 x2 x5 H) : off_Parts_L6 x1 x2 x5 H K:=by
 refine lp_upto (zvZ _ _) (LI3 I) ?_ n h
 intro n X H h
 obtain ⟨x1,x2,x5,rfl,h⟩:=h.elim
 exact Eq.mpr (off_Parts_L6_eq _ x1 x2 x5 H K) (round n x1 x2 x5 H (fun X H' => ∃ m,m < n∧LI3 I m X H') (fun m y1 y2 y5 H' hm hi => ⟨m,hm,hi⟩) h)
def off_Parts (a0 a1 : AV) (H : AH) (K : AV→AH→Prop) : Prop :=
 bH (anew H a0) fun v0 H1 =>
 bO (ald true 2 H1 v0) fun v2 =>
 bP (PCall Tryz.prog 94 [v2] H1) fun v3 =>
 bO (aun .not v3) fun v4 =>
 bG v4 false fun w5 =>
 gO w5 (ashift 1 v0) fun v6 =>
 bG v4 false fun w7 =>
 gO w7 (ald false 1 H1 v6) fun v8 =>
 bG v4 false fun w9 =>
 gO w9 (abI .gtr v8 (.lit (.int .i64 4096))) fun v10 =>
 bO (apick v4 (.lit (.bool true)) v10) fun v11 =>
 bG v11 false fun w12 =>
 gO w12 (some a1) fun v13 =>
 bG v11 false fun w14 =>
 gO w14 (abI .lss v13 (.lit (.int .i64 1))) fun v15 =>
 bO (apick v11 (.lit (.bool true)) v15) fun v16 =>
 bB v16 fun t17 => bI t17 (
 K (.lit (.slice none 0 0)) H1)
 (off_Parts_L6 a1 v0 (.lit (.slice none 0 0)) H1 K)
theorem off_Parts_eq (a0 a1 : AV) (H : AH) (K : AV→AH→Prop) : sFun Tryz.prog off_Parts_fl pql none0 none0 off_Parts_kp Tryz.f74 [a0,a1] H K=off_Parts a0 a1 H K:=by kernel_rfl
theorem off_Parts_ok {a0 a1 : AV} {H : AH} {K : AV→AH→Prop} (h : off_Parts a0 a1 H K) : ∃ r H',K r H'∧BCall Tryz.prog 74 [a0,a1] H r H' :=
 sFun_ok mixP Tryz.func74 (by kernel_rfl) (Eq.mpr (off_Parts_eq a0 a1 H K) h)
def extent_need_fl : Floats:=flOf []
def extent_need_kp : Nat→Option (List Bool):=kpOf [(2,mk 31 0 [5])]
def extent_need_c (p : List Bool) (n : Nat) : List AV→AH→Kf→Prop:=sCode Tryz.prog extent_need_fl pql none0 none0 extent_need_kp (sub p (bodyOf Tryz.f109)) n
def zolZ (x5 : AV) (H : AH) (K : AV→AH→Prop) : Prop:=jn (mk 31 0 [5]) (extent_need_c [true,true,true] 4) [x5] H (kRet Tryz.prog Tryz.f109.results.toList K)
def zlgZ (x5 : AV) (H : AH) (K : AV→AH→Prop) : Prop :=
 K x5 H
theorem zozZ (x5 : AV) (H : AH) (K : AV→AH→Prop) : zolZ x5 H K=zlgZ x5 H K:=(jn_eq _ _ _ _ _).trans (by kernel_rfl)
def extent_need (a0 a1 : AV) (H : AH) (K : AV→AH→Prop) : Prop :=
 bO (zdZ a0) fun v0 =>
 bO (ashift 1 v0) fun v1 =>
 bO (ald false 1 H v1) fun v2 =>
 bP (PCall Tryz.prog 118 [v2,a1] H) fun v3 =>
 bO (zhZ v3 0) fun v4 =>
 bO (zhZ v3 1) fun v5 =>
 bO (aun .not v5) fun v6 =>
 bB v6 fun t7 => bI t7 (
 bO (zdZ a0) fun v8 =>
 bO (ashift 1 v8) fun v9 =>
 bO (ald false 1 H v9) fun v10 =>
 bO (abl [(.lit (.int .i64 0)),(.lit (.int .u8 0)),(.lit (.int .u8 0)),(.lit (.int .u8 0)),(.lit (.int .u8 0)),(.lit (.int .u8 0)),(.lit (.int .u8 0)),(.lit (.int .u8 0)),(.lit (.int .u8 0))] [(0,1,a1)]) fun v11 =>
 bH (absl H 9 1 (zrow [(.lit (.int .i64 0)),(.lit (.int .u8 0)),(.lit (.int .u8 0)),(.lit (.int .u8 0)),(.lit (.int .u8 0)),(.lit (.int .u8 0)),(.lit (.int .u8 0)),(.lit (.int .u8 0)),(.lit (.int .u8 0))] 1) [(0,9,v11)]) fun v12 H13 =>
 bC (BCall Tryz.prog 119 [v10,v4,v12] H13) fun v14 H15 =>
 bO (zdZ a0) fun v16 =>
 bO (ashift 1 v16) fun v17 =>
 bS (ast 1 H15 v17 v14) fun H18 =>
 zolZ v4 H18 K)
 (zolZ v4 H K)
theorem extent_need_eq (a0 a1 : AV) (H : AH) (K : AV→AH→Prop) : sFun Tryz.prog extent_need_fl pql none0 none0 extent_need_kp Tryz.f109 [a0,a1] H K=extent_need a0 a1 H K:=by kernel_rfl
theorem extent_need_ok {a0 a1 : AV} {H : AH} {K : AV→AH→Prop} (h : extent_need a0 a1 H K) : ∃ r H',K r H'∧BCall Tryz.prog 109 [a0,a1] H r H' :=
 sFun_ok mixP Tryz.func109 (by kernel_rfl) (Eq.mpr (extent_need_eq a0 a1 H K) h)
def extent_place_fl : Floats:=flOf []
def extent_place_kp : Nat→Option (List Bool):=kpOf []
def extent_place (a0 a1 : AV) (H : AH) (K : AV→AH→Prop) : Prop :=
 bP (PCall Tryz.prog 123 [a0,a1,(.fn (.func 124) [] [])] H) fun v0 =>
 bO (zhZ v0 0) fun v1 =>
 bO (zhZ v0 1) fun v2 =>
 K (.tup [v1,v2]) H
theorem extent_place_eq (a0 a1 : AV) (H : AH) (K : AV→AH→Prop) : sFun Tryz.prog extent_place_fl pql none0 none0 extent_place_kp Tryz.f118 [a0,a1] H K=extent_place a0 a1 H K:=by kernel_rfl
theorem extent_place_ok {a0 a1 : AV} {H : AH} {K : AV→AH→Prop} (h : extent_place a0 a1 H K) : ∃ r H',K r H'∧BCall Tryz.prog 118 [a0,a1] H r H' :=
 sFun_ok mixP Tryz.func118 (by kernel_rfl) (Eq.mpr (extent_place_eq a0 a1 H K) h)
def off_Meet_fl : Floats:=flOf []
def off_Meet_kp : Nat→Option (List Bool):=kpOf []
def off_Meet (a0 a1 : AV) (H : AH) (K : AV→AH→Prop) : Prop :=
 bH (anew H a0) fun v0 H1 =>
 bH (anew H1 a1) fun v2 H3 =>
 bH (anew H3 (.agg [(.lit (.int .i64 0)),(.lit (.int .i64 0))])) fun v4 H5 =>
 bO (ald true 2 H5 v0) fun v6 =>
 bP (PCall Tryz.prog 94 [v6] H5) fun v7 =>
 bO (aun .not v7) fun v8 =>
 bG v8 false fun w9 =>
 gO w9 (ald true 2 H5 v2) fun v10 =>
 bG v8 false fun w11 =>
 gP w11 (PCall Tryz.prog 94 [v10] H5) fun v12 =>
 bG v8 false fun w13 =>
 gO w13 (aun .not v12) fun v14 =>
 bO (apick v8 (.lit (.bool true)) v14) fun v15 =>
 bB v15 fun t16 => bI t16 (
 bO (abl [(.lit (.int .i64 0)),(.lit (.int .i64 0))] []) fun v17 =>
 bS (ast 2 H5 v4 v17) fun H18 =>
 bO (ald true 2 H18 v4) fun v19 =>
 K v19 H18)
 (bO (ashift 0 v0) fun v20 =>
 bO (ald false 1 H5 v20) fun v21 =>
 bO (ashift 0 v2) fun v22 =>
 bO (ald false 1 H5 v22) fun v23 =>
 bO (amm imx [v21,v23]) fun v24 =>
 bO (ashift 0 v0) fun v25 =>
 bO (ald false 1 H5 v25) fun v26 =>
 bO (ashift 1 v0) fun v27 =>
 bO (ald false 1 H5 v27) fun v28 =>
 bO (abI .add v26 v28) fun v29 =>
 bO (ashift 0 v2) fun v30 =>
 bO (ald false 1 H5 v30) fun v31 =>
 bO (ashift 1 v2) fun v32 =>
 bO (ald false 1 H5 v32) fun v33 =>
 bO (abI .add v31 v33) fun v34 =>
 bO (amm imn [v29,v34]) fun v35 =>
 bO (abI .geq v24 v35) fun v36 =>
 bB v36 fun t37 => bI t37 (
 bO (abl [(.lit (.int .i64 0)),(.lit (.int .i64 0))] []) fun v38 =>
 bS (ast 2 H5 v4 v38) fun H39 =>
 bO (ald true 2 H39 v4) fun v40 =>
 K v40 H39)
 (bO (abI .sub v35 v24) fun v41 =>
 bO (abl [(.lit (.int .i64 0)),(.lit (.int .i64 0))] [(0,1,v24),(1,1,v41)]) fun v42 =>
 bS (ast 2 H5 v4 v42) fun H43 =>
 bO (ald true 2 H43 v4) fun v44 =>
 K v44 H43))
theorem off_Meet_eq (a0 a1 : AV) (H : AH) (K : AV→AH→Prop) : sFun Tryz.prog off_Meet_fl pql none0 none0 off_Meet_kp Tryz.f78 [a0,a1] H K=off_Meet a0 a1 H K:=by kernel_rfl
theorem off_Meet_ok {a0 a1 : AV} {H : AH} {K : AV→AH→Prop} (h : off_Meet a0 a1 H K) : ∃ r H',K r H'∧BCall Tryz.prog 78 [a0,a1] H r H' :=
 sFun_ok mixP Tryz.func78 (by kernel_rfl) (Eq.mpr (off_Meet_eq a0 a1 H K) h)
def extent_whole_fl : Floats:=flOf []
def extent_whole_kp : Nat→Option (List Bool):=kpOf []
def extent_whole (a0 : AV) (H : AH) (K : AV→AH→Prop) : Prop :=
 bH (anew H (.agg [(.lit (.int .i64 0)),(.lit (.int .i64 0))])) fun v0 H1 =>
 bO (abI .mul a0 (.lit (.int .i64 8))) fun v2 =>
 bO (abl [(.lit (.int .i64 0)),(.lit (.int .i64 0))] [(0,1,v2),(1,1,(.lit (.int .i64 8)))]) fun v3 =>
 bS (ast 2 H1 v0 v3) fun H4 =>
 bO (ald true 2 H4 v0) fun v5 =>
 K v5 H4
theorem extent_whole_eq (a0 : AV) (H : AH) (K : AV→AH→Prop) : sFun Tryz.prog extent_whole_fl pql none0 none0 extent_whole_kp Tryz.f79 [a0] H K=extent_whole a0 H K:=by kernel_rfl
theorem extent_whole_ok {a0 : AV} {H : AH} {K : AV→AH→Prop} (h : extent_whole a0 H K) : ∃ r H',K r H'∧BCall Tryz.prog 79 [a0] H r H' :=
 sFun_ok mixP Tryz.func79 (by kernel_rfl) (Eq.mpr (extent_whole_eq a0 H K) h)
def extent_clean_fl : Floats:=flOf []
def extent_clean_kp : Nat→Option (List Bool):=kpOf [(3,mk 25 0 [1,2,8,9])]
def zkiZ (p : List Bool) (n : Nat) : List AV→AH→Kf→Prop:=sCode Tryz.prog extent_clean_fl pql none0 none0 extent_clean_kp (sub p (bodyOf Tryz.f92)) n
def extent_clean_L3 (x1 x2 x8 x9 : AV) (H : AH) (K : AV→AH→Prop) : Prop:=lp (mk 25 0 [1,2,8,9]) (zkiZ [true,false,true,false,false] 4) [x1,x2,x8,x9] H (kBlk 0 (kSeq (zkiZ [true,true] 10) (kRet Tryz.prog Tryz.f92.results.toList K)))
def zjsZ (R3 : List AV→AH→Prop) (x1 x2 x8 x9 : AV) (H : AH) (K : AV→AH→Prop) : Prop :=
 bO (abI .lss x9 (.lit (.int .i64 8))) fun v0 =>
 bB v0 fun t1 => bI t1 (
 bO (aivA false 1 8 1 x8 x9) fun v2 =>
 bO (abI .neq v2 (.lit (.int .u8 0))) fun v3 =>
 bG v3 true fun w4 =>
 gO w4 (ashift 0 x2) fun v5 =>
 bG v3 true fun w6 =>
 gO w6 (ald false 1 H v5) fun v7 =>
 bG v3 true fun w8 =>
 gO w8 (abI .mul v7 (.lit (.int .i64 8))) fun v9 =>
 bG v3 true fun w10 =>
 gO w10 (some x9) fun v11 =>
 bG v3 true fun w12 =>
 gO w12 (abI .add v9 v11) fun v13 =>
 bG v3 true fun w14 =>
 gO w14 (some x1) fun v15 =>
 bG v3 true fun w16 =>
 gO w16 (abI .geq v13 v15) fun v17 =>
 bO (apick v3 v17 (.lit (.bool false))) fun v18 =>
 bB v18 fun t19 => bI t19 (
 K (.lit (.bool false)) H)
 (bO (abI .add x9 (.lit (.int .i64 1))) fun v20 =>
 R3 [x1,x2,x8,v20] H))
 (K (.lit (.bool true)) H)
theorem extent_clean_L3_eq (R3 : List AV→AH→Prop) (x1 x2 x8 x9 : AV) (H : AH) (K : AV→AH→Prop) : zkiZ [true,false,true,false,false] 4 (expand (mk 25 0 [1,2,8,9]) [x1,x2,x8,x9]) H (kLp (mk 25 0 [1,2,8,9]) R3 (kBlk 0 (kSeq (zkiZ [true,true] 10) (kRet Tryz.prog Tryz.f92.results.toList K))))=zjsZ R3 x1 x2 x8 x9 H K:=by kernel_rfl
theorem extent_clean_L3_rule {K : AV→AH→Prop} (I : Nat→AV→AV→AV→AV→AH→Prop) (round : ∀ (n : Nat) (x1 x2 x8 x9 : AV) (H : AH) (R : List AV→AH→Prop),(∀ (m : Nat) (y1 y2 y8 y9 : AV) (H' : AH),m < n→I m y1 y2 y8 y9 H'→R [y1,y2,y8,y9] H')→I n x1 x2 x8 x9 H→zjsZ R x1 x2 x8 x9 H K) (n : Nat) {x1 x2 x8 x9 : AV} {H : AH} (h : I n x1 x2 x8 x9 H) : extent_clean_L3 x1 x2 x8 x9 H K:=by
 refine lp_upto (zvZ _ _) (LI4 I) ?_ n h
 intro n X H h
 obtain ⟨x1,x2,x8,x9,rfl,h⟩:=h.elim
 exact Eq.mpr (extent_clean_L3_eq _ x1 x2 x8 x9 H K) (round n x1 x2 x8 x9 H (fun X H' => ∃ m,m < n∧LI4 I m X H') (fun m y1 y2 y8 y9 H' hm hi => ⟨m,hm,hi⟩) h)
def extent_clean (a0 a1 : AV) (H : AH) (K : AV→AH→Prop) : Prop :=
 bH (anew H a0) fun v0 H1 =>
 bO (ashift 1 v0) fun v2 =>
 bO (ald true 8 H1 v2) fun v3 =>
 extent_clean_L3 a1 v0 v3 (.lit (.int .i64 0)) H1 K
theorem extent_clean_eq (a0 a1 : AV) (H : AH) (K : AV→AH→Prop) : sFun Tryz.prog extent_clean_fl pql none0 none0 extent_clean_kp Tryz.f92 [a0,a1] H K=extent_clean a0 a1 H K:=by kernel_rfl
theorem extent_clean_ok {a0 a1 : AV} {H : AH} {K : AV→AH→Prop} (h : extent_clean a0 a1 H K) : ∃ r H',K r H'∧BCall Tryz.prog 92 [a0,a1] H r H' :=
 sFun_ok mixP Tryz.func92 (by kernel_rfl) (Eq.mpr (extent_clean_eq a0 a1 H K) h)
def extent_span_fl : Floats:=flOf []
def extent_span_kp : Nat→Option (List Bool):=kpOf []
def extent_span (a0 a1 : AV) (H : AH) (K : AV→AH→Prop) : Prop :=
 bO (abI .geq a0 (.lit (.int .i64 0))) fun v0 =>
 bG v0 true fun w1 =>
 gO w1 (some a1) fun v2 =>
 bG v0 true fun w3 =>
 gO w3 (abI .geq v2 (.lit (.int .i64 1))) fun v4 =>
 bO (apick v0 v4 (.lit (.bool false))) fun v5 =>
 bG v5 true fun w6 =>
 gO w6 (some a1) fun v7 =>
 bG v5 true fun w8 =>
 gO w8 (abI .leq v7 (.lit (.int .i64 1099511627776))) fun v9 =>
 bO (apick v5 v9 (.lit (.bool false))) fun v10 =>
 bG v10 true fun w11 =>
 gO w11 (some a0) fun v12 =>
 bG v10 true fun w13 =>
 gO w13 (some a1) fun v14 =>
 bG v10 true fun w15 =>
 gO w15 (abI .sub (.lit (.int .i64 1099511627776)) v14) fun v16 =>
 bG v10 true fun w17 =>
 gO w17 (abI .leq v12 v16) fun v18 =>
 bO (apick v10 v18 (.lit (.bool false))) fun v19 =>
 K v19 H
theorem extent_span_eq (a0 a1 : AV) (H : AH) (K : AV→AH→Prop) : sFun Tryz.prog extent_span_fl pql none0 none0 extent_span_kp Tryz.f110 [a0,a1] H K=extent_span a0 a1 H K:=by kernel_rfl
theorem extent_span_ok {a0 a1 : AV} {H : AH} {K : AV→AH→Prop} (h : extent_span a0 a1 H K) : ∃ r H',K r H'∧BCall Tryz.prog 110 [a0,a1] H r H' :=
 sFun_ok mixP Tryz.func110 (by kernel_rfl) (Eq.mpr (extent_span_eq a0 a1 H K) h)
def zcuZ : Floats:=flOf []
def zcsZ : Nat→Option (List Bool):=kpOf [(10,mk 42 0 [0,1,5,6]),(7,mk 42 0 [0,1,5,6])]
def ziZ (p : List Bool) (n : Nat) : List AV→AH→Kf→Prop:=sCode Tryz.prog zcuZ pql none0 none0 zcsZ (sub p (bodyOf Tryz.f69)) n
def zblZ (R7 : List AV→AH→Prop) (x0 x1 x5 x6 : AV) (H : AH) (K : AV→AH→Prop) : Prop:=jn (mk 42 0 [0,1,5,6]) (ziZ [true,true,true,false,true,false,false,true,true] 14) [x0,x1,x5,x6] H (kLp (mk 42 0 [0,1,5,6]) R7 (kBlk 0 (kSeq (ziZ [true,true,true,true] 14) (kRet Tryz.prog Tryz.f69.results.toList K))))
def zctZ (x0 x1 x5 x6 : AV) (H : AH) (K : AV→AH→Prop) : Prop:=lp (mk 42 0 [0,1,5,6]) (ziZ [true,true,true,false,true,false,false] 8) [x0,x1,x5,x6] H (kBlk 0 (kSeq (ziZ [true,true,true,true] 14) (kRet Tryz.prog Tryz.f69.results.toList K)))
def zbhZ (R7 : List AV→AH→Prop) (x0 x1 x5 x6 : AV) (H : AH) (K : AV→AH→Prop) : Prop :=
 bO (abI .add x6 (.lit (.int .i64 1))) fun v0 =>
 R7 [x0,x1,x5,v0] H
theorem zceZ (R7 : List AV→AH→Prop) (x0 x1 x5 x6 : AV) (H : AH) (K : AV→AH→Prop) : zblZ R7 x0 x1 x5 x6 H K=zbhZ R7 x0 x1 x5 x6 H K:=(jn_eq _ _ _ _ _).trans (by kernel_rfl)
def zbkZ (R7 : List AV→AH→Prop) (x0 x1 x5 x6 : AV) (H : AH) (K : AV→AH→Prop) : Prop :=
 bO (alnS x0) fun v0 =>
 bO (abI .lss x6 v0) fun v1 =>
 bB v1 fun t2 => bI t2 (
 bO (aixS 9 x0 x6) fun v3 =>
 bO (ald true 9 H v3) fun v4 =>
 bH (anew H (.agg [(.lit (.int .i64 0)),(.lit (.int .u8 0)),(.lit (.int .u8 0)),(.lit (.int .u8 0)),(.lit (.int .u8 0)),(.lit (.int .u8 0)),(.lit (.int .u8 0)),(.lit (.int .u8 0)),(.lit (.int .u8 0))])) fun v5 H6 =>
 bS (ast 9 H6 v5 v4) fun H7 =>
 bO (ald true 9 H7 v5) fun v8 =>
 bF true x1 fun k11 f11 c11 =>
 bT (goFunc Tryz.prog k11 || !true) <|
 bC (BCall Tryz.prog k11 (f11 ++ [v8] ++ c11) H7) fun v9 H10 =>
 bO (aun .not v9) fun v12 =>
 bB v12 fun t13 => bI t13 (
 bO (ald true 9 H10 v5) fun v14 =>
 bO (aixS 9 x0 x5) fun v15 =>
 bS (ast 9 H10 v15 v14) fun H16 =>
 bO (abI .add x5 (.lit (.int .i64 1))) fun v17 =>
 zblZ R7 x0 x1 v17 x6 H16 K)
 (zblZ R7 x0 x1 x5 x6 H10 K))
 (bO (aslS 9 x0 (some x5) none none) fun v18 =>
 bS (acl [(.lit (.int .i64 0)),(.lit (.int .u8 0)),(.lit (.int .u8 0)),(.lit (.int .u8 0)),(.lit (.int .u8 0)),(.lit (.int .u8 0)),(.lit (.int .u8 0)),(.lit (.int .u8 0)),(.lit (.int .u8 0))] H v18) fun H19 =>
 bO (aslS 9 x0 none (some x5) none) fun v20 =>
 K v20 H19)
theorem zevZ (R7 : List AV→AH→Prop) (x0 x1 x5 x6 : AV) (H : AH) (K : AV→AH→Prop) : ziZ [true,true,true,false,true,false,false] 8 (expand (mk 42 0 [0,1,5,6]) [x0,x1,x5,x6]) H (kLp (mk 42 0 [0,1,5,6]) R7 (kBlk 0 (kSeq (ziZ [true,true,true,true] 14) (kRet Tryz.prog Tryz.f69.results.toList K))))=zbkZ R7 x0 x1 x5 x6 H K:=by kernel_rfl
theorem zehZ {K : AV→AH→Prop} (I : Nat→AV→AV→AV→AV→AH→Prop) (round : ∀ (n : Nat) (x0 x1 x5 x6 : AV) (H : AH) (R : List AV→AH→Prop),(∀ (m : Nat) (y0 y1 y5 y6 : AV) (H' : AH),m < n→I m y0 y1 y5 y6 H'→R [y0,y1,y5,y6] H')→I n x0 x1 x5 x6 H→zbkZ R x0 x1 x5 x6 H K) (n : Nat) {x0 x1 x5 x6 : AV} {H : AH} (h : I n x0 x1 x5 x6 H) : zctZ x0 x1 x5 x6 H K:=by
 refine lp_upto (zvZ _ _) (LI4 I) ?_ n h
 intro n X H h
 obtain ⟨x0,x1,x5,x6,rfl,h⟩:=h.elim
 exact Eq.mpr (zevZ _ x0 x1 x5 x6 H K) (round n x0 x1 x5 x6 H (fun X H' => ∃ m,m < n∧LI4 I m X H') (fun m y0 y1 y5 y6 H' hm hi => ⟨m,hm,hi⟩) h)
def zbyZ (a0 a1 : AV) (H : AH) (K : AV→AH→Prop) : Prop :=
 bP (PCall Tryz.prog 93 [a0,a1] H) fun v0 =>
 bO (abI .eql v0 (.lit (.int .i64 (-1)))) fun v1 =>
 bB v1 fun t2 => bI t2 (
 K a0 H)
 (bO (abI .add v0 (.lit (.int .i64 1))) fun v3 =>
 zctZ a0 a1 v0 v3 H K)
theorem zfpZ (a0 a1 : AV) (H : AH) (K : AV→AH→Prop) : sFun Tryz.prog zcuZ pql none0 none0 zcsZ Tryz.f69 [a0,a1] H K=zbyZ a0 a1 H K:=by kernel_rfl
theorem zfqZ {a0 a1 : AV} {H : AH} {K : AV→AH→Prop} (h : zbyZ a0 a1 H K) : ∃ r H',K r H'∧BCall Tryz.prog 69 [a0,a1] H r H' :=
 sFun_ok mixP Tryz.func69 (by kernel_rfl) (Eq.mpr (zfpZ a0 a1 H K) h)
def extent_Truncate_1_fl : Floats:=flOf []
def extent_Truncate_1_kp : Nat→Option (List Bool):=kpOf []
def zjzZ (a0 a1 : AV) (H : AH) (K : AV→AH→Prop) : Prop :=
 bH (anew H a0) fun v0 H1 =>
 bO (ashift 0 v0) fun v2 =>
 bO (ald false 1 H1 v2) fun v3 =>
 bO (abI .mul v3 (.lit (.int .i64 8))) fun v4 =>
 bO (ald false 1 H1 a1) fun v5 =>
 bO (abI .geq v4 v5) fun v6 =>
 K v6 H1
theorem extent_Truncate_1_eq (a0 a1 : AV) (H : AH) (K : AV→AH→Prop) : sFun Tryz.prog extent_Truncate_1_fl pql none0 none0 extent_Truncate_1_kp Tryz.f70 [a0,a1] H K=zjzZ a0 a1 H K:=by kernel_rfl
theorem extent_Truncate_1_ok {a0 a1 : AV} {H : AH} {K : AV→AH→Prop} (h : zjzZ a0 a1 H K) : ∃ r H',K r H'∧BCall Tryz.prog 70 [a0,a1] H r H' :=
 sFun_ok mixP Tryz.func70 (by kernel_rfl) (Eq.mpr (extent_Truncate_1_eq a0 a1 H K) h)
def extent_wipe_fl : Floats:=flOf [(1,[(3,some 7),(5,some 7)])]
def extent_wipe_kp : Nat→Option (List Bool):=kpOf [(3,mk 33 0 [0,4,14,15])]
def extent_wipe_c (p : List Bool) (n : Nat) : List AV→AH→Kf→Prop:=sCode Tryz.prog extent_wipe_fl pql none0 none0 extent_wipe_kp (sub p (bodyOf Tryz.f71)) n
def extent_wipe_L3 (x0 x4 x14 x15 : AV) (H : AH) (K : AV→AH→Prop) : Prop:=lp (mk 33 0 [0,4,14,15]) (extent_wipe_c [true,true,true,false,false] 4) [x0,x4,x14,x15] H (kBlk 0 (kRet Tryz.prog Tryz.f71.results.toList K))
def zkyZ (R3 : List AV→AH→Prop) (x0 x4 x14 x15 : AV) (H : AH) (K : AV→AH→Prop) : Prop :=
 bO (abI .lss x15 x14) fun v0 =>
 bB v0 fun t1 => bI t1 (
 bO (ashift 0 x4) fun v2 =>
 bO (ald false 1 H v2) fun v3 =>
 bO (zdZ x0) fun v4 =>
 bO (ashift 0 v4) fun v5 =>
 bO (ald false 1 H v5) fun v6 =>
 bO (abI .mul v6 (.lit (.int .i64 8))) fun v7 =>
 bO (abI .sub v3 v7) fun v8 =>
 bO (abI .add v8 x15) fun v9 =>
 bO (zdZ x0) fun v10 =>
 bO (ashift 1 v10) fun v11 =>
 bO (aixA 8 1 v11 v9) fun v12 =>
 bS (ast 1 H v12 (.lit (.int .u8 0))) fun H13 =>
 bO (abI .add x15 (.lit (.int .i64 1))) fun v14 =>
 R3 [x0,x4,x14,v14] H13)
 (K (.tup []) H)
theorem extent_wipe_L3_eq (R3 : List AV→AH→Prop) (x0 x4 x14 x15 : AV) (H : AH) (K : AV→AH→Prop) : extent_wipe_c [true,true,true,false,false] 4 (expand (mk 33 0 [0,4,14,15]) [x0,x4,x14,x15]) H (kLp (mk 33 0 [0,4,14,15]) R3 (kBlk 0 (kRet Tryz.prog Tryz.f71.results.toList K)))=zkyZ R3 x0 x4 x14 x15 H K:=by kernel_rfl
theorem extent_wipe_L3_rule {K : AV→AH→Prop} (I : Nat→AV→AV→AV→AV→AH→Prop) (round : ∀ (n : Nat) (x0 x4 x14 x15 : AV) (H : AH) (R : List AV→AH→Prop),(∀ (m : Nat) (y0 y4 y14 y15 : AV) (H' : AH),m < n→I m y0 y4 y14 y15 H'→R [y0,y4,y14,y15] H')→I n x0 x4 x14 x15 H→zkyZ R x0 x4 x14 x15 H K) (n : Nat) {x0 x4 x14 x15 : AV} {H : AH} (h : I n x0 x4 x14 x15 H) : extent_wipe_L3 x0 x4 x14 x15 H K:=by
 refine lp_upto (zvZ _ _) (LI4 I) ?_ n h
 intro n X H h
 obtain ⟨x0,x4,x14,x15,rfl,h⟩:=h.elim
 exact Eq.mpr (extent_wipe_L3_eq _ x0 x4 x14 x15 H K) (round n x0 x4 x14 x15 H (fun X H' => ∃ m,m < n∧LI4 I m X H') (fun m y0 y4 y14 y15 H' hm hi => ⟨m,hm,hi⟩) h)
def extent_wipe (a0 a1 : AV) (H : AH) (K : AV→AH→Prop) : Prop :=
 bH (anew H a1) fun v0 H1 =>
 bO (zdZ a0) fun v2 =>
 bO (ashift 0 v2) fun v3 =>
 bO (ald false 1 H1 v3) fun v4 =>
 bP (BPure Tryz.prog 79 [v4]) fun v5 =>
 bO (ald true 2 H1 v0) fun v6 =>
 bP (BPure Tryz.prog 78 [v5,v6]) fun v7 =>
 bH (anew H1 (.agg [(.lit (.int .i64 0)),(.lit (.int .i64 0))])) fun v8 H9 =>
 bS (ast 2 H9 v8 v7) fun H10 =>
(ald false 1 H9 v3=some v4) ∧
(ald true 2 H9 v0=some v6) ∧
 bO (ashift 1 v8) fun v11 =>
 bO (ald false 1 H10 v11) fun v12 =>
 extent_wipe_L3 a0 v8 v12 (.lit (.int .i64 0)) H10 K
theorem extent_wipe_eq (a0 a1 : AV) (H : AH) (K : AV→AH→Prop) : sFun Tryz.prog extent_wipe_fl pql none0 none0 extent_wipe_kp Tryz.f71 [a0,a1] H K=extent_wipe a0 a1 H K:=by kernel_rfl
theorem extent_wipe_ok {a0 a1 : AV} {H : AH} {K : AV→AH→Prop} (h : extent_wipe a0 a1 H K) : ∃ r H',K r H'∧BCall Tryz.prog 71 [a0,a1] H r H' :=
 sFun_ok mixP Tryz.func71 (by kernel_rfl) (Eq.mpr (extent_wipe_eq a0 a1 H K) h)
def extent_Punch_1_fl : Floats:=flOf []
def extent_Punch_1_kp : Nat→Option (List Bool):=kpOf []
def zoeZ (a0 a1 : AV) (H : AH) (K : AV→AH→Prop) : Prop :=
 bH (anew H a0) fun v0 H1 =>
 bO (ashift 0 v0) fun v2 =>
 bO (ald false 1 H1 v2) fun v3 =>
 bP (BPure Tryz.prog 79 [v3]) fun v4 =>
 bO (ald true 2 H1 a1) fun v5 =>
 bP (BPure Tryz.prog 112 [v4,v5]) fun v6 =>
 K v6 H1
theorem extent_Punch_1_eq (a0 a1 : AV) (H : AH) (K : AV→AH→Prop) : sFun Tryz.prog extent_Punch_1_fl pql none0 none0 extent_Punch_1_kp Tryz.f111 [a0,a1] H K=zoeZ a0 a1 H K:=by kernel_rfl
theorem extent_Punch_1_ok {a0 a1 : AV} {H : AH} {K : AV→AH→Prop} (h : zoeZ a0 a1 H K) : ∃ r H',K r H'∧BCall Tryz.prog 111 [a0,a1] H r H' :=
 sFun_ok mixP Tryz.func111 (by kernel_rfl) (Eq.mpr (extent_Punch_1_eq a0 a1 H K) h)
def off_Within_fl : Floats:=flOf []
def off_Within_kp : Nat→Option (List Bool):=kpOf []
def off_Within (a0 a1 : AV) (H : AH) (K : AV→AH→Prop) : Prop :=
 bH (anew H a0) fun v0 H1 =>
 bH (anew H1 a1) fun v2 H3 =>
 bO (ald true 2 H3 v0) fun v4 =>
 bP (PCall Tryz.prog 94 [v4] H3) fun v5 =>
 bO (aun .not v5) fun v6 =>
 bG v6 false fun w7 =>
 gO w7 (ald true 2 H3 v2) fun v8 =>
 bG v6 false fun w9 =>
 gP w9 (PCall Tryz.prog 94 [v8] H3) fun v10 =>
 bG v6 false fun w11 =>
 gO w11 (aun .not v10) fun v12 =>
 bO (apick v6 (.lit (.bool true)) v12) fun v13 =>
 bB v13 fun t14 => bI t14 (
 K (.lit (.bool false)) H3)
 (bO (ashift 1 v0) fun v15 =>
 bO (ald false 1 H3 v15) fun v16 =>
 bO (abI .eql v16 (.lit (.int .i64 0))) fun v17 =>
 bG v17 false fun w18 =>
 gO w18 (ald true 2 H3 v0) fun v19 =>
 bG v17 false fun w20 =>
 gO w20 (ald true 2 H3 v2) fun v21 =>
 bG v17 false fun w22 =>
 gP w22 (BPure Tryz.prog 78 [v19,v21]) fun v23 =>
 bG v17 false fun w24 =>
 gO w24 (ald true 2 H3 v0) fun v25 =>
 bG v17 false fun w26 =>
 gO w26 (abin Tryz.prog .eql 136 v23 v25) fun v27 =>
 bO (apick v17 (.lit (.bool true)) v27) fun v28 =>
 K v28 H3)
theorem off_Within_eq (a0 a1 : AV) (H : AH) (K : AV→AH→Prop) : sFun Tryz.prog off_Within_fl pql none0 none0 off_Within_kp Tryz.f112 [a0,a1] H K=off_Within a0 a1 H K:=by kernel_rfl
theorem off_Within_ok {a0 a1 : AV} {H : AH} {K : AV→AH→Prop} (h : off_Within a0 a1 H K) : ∃ r H',K r H'∧BCall Tryz.prog 112 [a0,a1] H r H' :=
 sFun_ok mixP Tryz.func112 (by kernel_rfl) (Eq.mpr (off_Within_eq a0 a1 H K) h)
def zilZ : Floats:=flOf []
def zioZ : Nat→Option (List Bool):=kpOf []
def zcvZ (a0 : AV) (H : AH) (K : AV→AH→Prop) : Prop :=
 bO (abN .eql nilS a0 (.lit (.slice none 0 0))) fun v0 =>
 bB v0 fun t1 => bI t1 (
 K (.lit (.slice none 0 0)) H)
 (bH (absl H 9 0 (zrow [(.lit (.int .i64 0)),(.lit (.int .u8 0)),(.lit (.int .u8 0)),(.lit (.int .u8 0)),(.lit (.int .u8 0)),(.lit (.int .u8 0)),(.lit (.int .u8 0)),(.lit (.int .u8 0)),(.lit (.int .u8 0))] 0) []) fun v2 H3 =>
 bH (aap 9 16 H3 v2 a0) fun v4 H5 =>
 K v4 H5)
theorem zikZ (a0 : AV) (H : AH) (K : AV→AH→Prop) : sFun Tryz.prog zilZ pql none0 none0 zioZ Tryz.f90 [a0] H K=zcvZ a0 H K:=by kernel_rfl
theorem zipZ {a0 : AV} {H : AH} {K : AV→AH→Prop} (h : zcvZ a0 H K) : ∃ r H',K r H'∧BCall Tryz.prog 90 [a0] H r H' :=
 sFun_ok mixP Tryz.func90 (by kernel_rfl) (Eq.mpr (zikZ a0 H K) h)
def off_MaySpan_fl : Floats:=flOf []
def off_MaySpan_kp : Nat→Option (List Bool):=kpOf []
def off_MaySpan (a0 : AV) (H : AH) (K : AV→AH→Prop) : Prop :=
 bH (anew H a0) fun v0 H1 =>
 bO (ashift 0 v0) fun v2 =>
 bO (ald false 1 H1 v2) fun v3 =>
 bP (PCall Tryz.prog 113 [v3] H1) fun v4 =>
 bG v4 true fun w5 =>
 gO w5 (ashift 1 v0) fun v6 =>
 bG v4 true fun w7 =>
 gO w7 (ald false 1 H1 v6) fun v8 =>
 bG v4 true fun w9 =>
 gP w9 (PCall Tryz.prog 113 [v8] H1) fun v10 =>
 bO (apick v4 v10 (.lit (.bool false))) fun v11 =>
 bG v11 true fun w12 =>
 gO w12 (ashift 1 v0) fun v13 =>
 bG v11 true fun w14 =>
 gO w14 (ald false 1 H1 v13) fun v15 =>
 bG v11 true fun w16 =>
 gO w16 (ashift 0 v0) fun v17 =>
 bG v11 true fun w18 =>
 gO w18 (ald false 1 H1 v17) fun v19 =>
 bG v11 true fun w20 =>
 gO w20 (abI .sub (.lit (.int .i64 4611686018427387904)) v19) fun v21 =>
 bG v11 true fun w22 =>
 gO w22 (abI .leq v15 v21) fun v23 =>
 bO (apick v11 v23 (.lit (.bool false))) fun v24 =>
 K v24 H1
theorem off_MaySpan_eq (a0 : AV) (H : AH) (K : AV→AH→Prop) : sFun Tryz.prog off_MaySpan_fl pql none0 none0 off_MaySpan_kp Tryz.f94 [a0] H K=off_MaySpan a0 H K:=by kernel_rfl
theorem off_MaySpan_ok {a0 : AV} {H : AH} {K : AV→AH→Prop} (h : off_MaySpan a0 H K) : ∃ r H',K r H'∧BCall Tryz.prog 94 [a0] H r H' :=
 sFun_ok mixP Tryz.func94 (by kernel_rfl) (Eq.mpr (off_MaySpan_eq a0 H K) h)
def zicZ : Floats:=flOf []
def zieZ : Nat→Option (List Bool):=kpOf []
def zhyZ : Nat→Bool:=inL []
def zbbZ (a0 a1 a2 : AV) (H : AH) (K : AV→AH→Prop) : Prop :=
 bO (aslS 9 a0 (some a1) none none) fun v0 =>
 bO (alnS a2) fun v1 =>
 bO (abI .eql v1 (.lit (.int .i64 0))) fun v2 =>
 bB v2 fun t3 => bI t3 (
 K a0 H)
 (bO (alnS a0) fun v4 =>
 bO (abI .eql a1 v4) fun v5 =>
 bB v5 fun t6 => bI t6 (
 bH (aap 9 16 H a0 a2) fun v7 H8 =>
 K v7 H8)
 (bO (abI .add v4 v1) fun v9 =>
 bO (acpS a0) fun v10 =>
 bO (abI .gtr v9 v10) fun v11 =>
 bB v11 fun t12 => bI t12 (
 bO (aslS 9 a0 none (some a1) none) fun v13 =>
 bO (abI .add v4 v1) fun v14 =>
 bO (abI .sub v14 a1) fun v15 =>
 bH (aappZ1 H 9 16 [(.lit (.int .i64 0)),(.lit (.int .u8 0)),(.lit (.int .u8 0)),(.lit (.int .u8 0)),(.lit (.int .u8 0)),(.lit (.int .u8 0)),(.lit (.int .u8 0)),(.lit (.int .u8 0)),(.lit (.int .u8 0))] v13 v15) fun v16 H17 =>
 bO (aslS 9 v16 (some a1) none none) fun v18 =>
 bH (acp 9 H17 v18 a2) fun v19 H20 =>
 bO (abI .add a1 v1) fun v21 =>
 bO (aslS 9 v16 (some v21) none none) fun v22 =>
 bO (aslS 9 a0 (some a1) none none) fun v23 =>
 bH (acp 9 H20 v22 v23) fun v24 H25 =>
 K v16 H25)
 (bO (abI .add v4 v1) fun v26 =>
 bO (aslS 9 a0 none (some v26) none) fun v27 =>
 bO (abI .add a1 v1) fun v28 =>
 bO (aslS 9 v27 (some v28) none none) fun v29 =>
 bP (ExtR Tryz.prog 125 [a2,v29] H) fun v30 =>
 bO (aun .not v30) fun v31 =>
 bB v31 fun t32 => bI t32 (
 bO (abI .add a1 v1) fun v33 =>
 bO (aslS 9 v27 (some v33) none none) fun v34 =>
 bO (aslS 9 v27 (some a1) none none) fun v35 =>
 bH (acp 9 H v34 v35) fun v36 H37 =>
 bO (aslS 9 v27 (some a1) none none) fun v38 =>
 bH (acp 9 H37 v38 a2) fun v39 H40 =>
 K v27 H40)
 (bO (aslS 9 v27 (some v4) none none) fun v41 =>
 bH (acp 9 H v41 a2) fun v42 H43 =>
 bO (aslS 9 v27 (some a1) none none) fun v44 =>
 bC (BCall Tryz.prog 126 [v44,v1] H43) fun v45 H46 =>
 K v27 H46))))
theorem zidZ (a0 a1 a2 : AV) (H : AH) (K : AV→AH→Prop) : sFun Tryz.prog zicZ pql pqla zhyZ zieZ Tryz.f119 [a0,a1,a2] H K=zbbZ a0 a1 a2 H K:=by kernel_rfl
theorem zcaZ {a0 a1 a2 : AV} {H : AH} {K : AV→AH→Prop} (h : zbbZ a0 a1 a2 H K) : ACalls Tryz.prog 119 [a0,a1,a2] H K :=
 sFun_wp mixP Tryz.func119 (by kernel_rfl) (Eq.mpr (zidZ a0 a1 a2 H K) h)
def zbsZ : Floats:=flOf []
def zbqZ : Nat→Option (List Bool):=kpOf [(4,mk 49 0 [0,1,2,8,9,10])]
def zmZ (p : List Bool) (n : Nat) : List AV→AH→Kf→Prop:=sCode Tryz.prog zbsZ pql none0 none0 zbqZ (sub p (bodyOf Tryz.f123)) n
def zbrZ (x0 x1 x2 x8 x9 x10 : AV) (H : AH) (K : AV→AH→Prop) : Prop:=lp (mk 49 0 [0,1,2,8,9,10]) (zmZ [true,true,true,false,false,false] 5) [x0,x1,x2,x8,x9,x10] H (kBlk 0 (kSeq (zmZ [true,true,true,true] 9) (kRet Tryz.prog Tryz.f123.results.toList K)))
def zrZ (R4 : List AV→AH→Prop) (x0 x1 x2 x8 x9 x10 : AV) (H : AH) (K : AV→AH→Prop) : Prop :=
 bO (abI .lss x9 x10) fun v0 =>
 bB v0 fun t1 => bI t1 (
 bO (abI .add x9 x10) fun v2 =>
 bO (acI .u64 v2) fun v3 =>
 bO (abI .shr v3 (.lit (.int .u64 1))) fun v4 =>
 bO (acI .i64 v4) fun v5 =>
 bO (aixS 9 x0 v5) fun v6 =>
 bO (ald true 9 H v6) fun v7 =>
 bF true x2 fun k10 f10 c10 =>
 bT (goFunc Tryz.prog k10 || !true) <|
 bC (BCall Tryz.prog k10 (f10 ++ [v7,x1] ++ c10) H) fun v8 H9 =>
 bO (abI .lss v8 (.lit (.int .i64 0))) fun v11 =>
 bB v11 fun t12 => bI t12 (
 bO (abI .add v5 (.lit (.int .i64 1))) fun v13 =>
 R4 [x0,x1,x2,x8,v13,x10] H9)
 (R4 [x0,x1,x2,x8,x9,v5] H9))
 (bO (abI .lss x9 x8) fun v14 =>
 bG v14 true fun w15 =>
 gO w15 (some x2) fun v16 =>
 bG v14 true fun w17 =>
 gO w17 (some x0) fun v18 =>
 bG v14 true fun w19 =>
 gO w19 (some x9) fun v20 =>
 bG v14 true fun w21 =>
 gO w21 (aixS 9 v18 v20) fun v22 =>
 bG v14 true fun w23 =>
 gO w23 (ald true 9 H v22) fun v24 =>
 bG v14 true fun w25 =>
 gO w25 (some x1) fun v26 =>
 bG v14 true fun w27 =>
 bF w27 v16 fun k30 f30 c30 =>
 bT (goFunc Tryz.prog k30 || !w27) <|
 gC w27 (BCall Tryz.prog k30 (f30 ++ [v24,v26] ++ c30) H) H fun v28 H29 =>
 bG v14 true fun w31 =>
 gO w31 (abI .eql v28 (.lit (.int .i64 0))) fun v32 =>
 bO (apick v14 v32 (.lit (.bool false))) fun v33 =>
 K (.tup [x9,v33]) H29)
theorem zdiZ (R4 : List AV→AH→Prop) (x0 x1 x2 x8 x9 x10 : AV) (H : AH) (K : AV→AH→Prop) : zmZ [true,true,true,false,false,false] 5 (expand (mk 49 0 [0,1,2,8,9,10]) [x0,x1,x2,x8,x9,x10]) H (kLp (mk 49 0 [0,1,2,8,9,10]) R4 (kBlk 0 (kSeq (zmZ [true,true,true,true] 9) (kRet Tryz.prog Tryz.f123.results.toList K))))=zrZ R4 x0 x1 x2 x8 x9 x10 H K:=by kernel_rfl
theorem zcwZ {K : AV→AH→Prop} (I : Nat→AV→AV→AV→AV→AV→AV→AH→Prop) (round : ∀ (n : Nat) (x0 x1 x2 x8 x9 x10 : AV) (H : AH) (R : List AV→AH→Prop),(∀ (m : Nat) (y0 y1 y2 y8 y9 y10 : AV) (H' : AH),m < n→I m y0 y1 y2 y8 y9 y10 H'→R [y0,y1,y2,y8,y9,y10] H')→I n x0 x1 x2 x8 x9 x10 H→zrZ R x0 x1 x2 x8 x9 x10 H K) (n : Nat) {x0 x1 x2 x8 x9 x10 : AV} {H : AH} (h : I n x0 x1 x2 x8 x9 x10 H) : zbrZ x0 x1 x2 x8 x9 x10 H K:=by
 refine lp_upto (zvZ _ _) (LI6 I) ?_ n h
 intro n X H h
 obtain ⟨x0,x1,x2,x8,x9,x10,rfl,h⟩:=h.elim
 exact Eq.mpr (zdiZ _ x0 x1 x2 x8 x9 x10 H K) (round n x0 x1 x2 x8 x9 x10 H (fun X H' => ∃ m,m < n∧LI6 I m X H') (fun m y0 y1 y2 y8 y9 y10 H' hm hi => ⟨m,hm,hi⟩) h)
def zzZ (a0 a1 a2 : AV) (H : AH) (K : AV→AH→Prop) : Prop :=
 bO (alnS a0) fun v0 =>
 zbrZ a0 a1 a2 v0 (.lit (.int .i64 0)) v0 H K
theorem zdyZ (a0 a1 a2 : AV) (H : AH) (K : AV→AH→Prop) : sFun Tryz.prog zbsZ pql none0 none0 zbqZ Tryz.f123 [a0,a1,a2] H K=zzZ a0 a1 a2 H K:=by kernel_rfl
theorem zdvZ {a0 a1 a2 : AV} {H : AH} {K : AV→AH→Prop} (h : zzZ a0 a1 a2 H K) : ∃ r H',K r H'∧BCall Tryz.prog 123 [a0,a1,a2] H r H' :=
 sFun_ok mixP Tryz.func123 (by kernel_rfl) (Eq.mpr (zdyZ a0 a1 a2 H K) h)
def extent_place_1_fl : Floats:=flOf []
def extent_place_1_kp : Nat→Option (List Bool):=kpOf []
def znzZ (a0 a1 : AV) (H : AH) (K : AV→AH→Prop) : Prop :=
 bH (anew H a0) fun v0 H1 =>
 bO (ashift 0 v0) fun v2 =>
 bO (ald false 1 H1 v2) fun v3 =>
 bP (PCall Tryz.prog 104 [v3,a1] H1) fun v4 =>
 K v4 H1
theorem extent_place_1_eq (a0 a1 : AV) (H : AH) (K : AV→AH→Prop) : sFun Tryz.prog extent_place_1_fl pql none0 none0 extent_place_1_kp Tryz.f124 [a0,a1] H K=znzZ a0 a1 H K:=by kernel_rfl
theorem extent_place_1_ok {a0 a1 : AV} {H : AH} {K : AV→AH→Prop} (h : znzZ a0 a1 H K) : ∃ r H',K r H'∧BCall Tryz.prog 124 [a0,a1] H r H' :=
 sFun_ok mixP Tryz.func124 (by kernel_rfl) (Eq.mpr (extent_place_1_eq a0 a1 H K) h)
def cmp_Compare_int_fl : Floats:=flOf []
def cmp_Compare_int_kp : Nat→Option (List Bool):=kpOf []
def zmtZ (a0 a1 : AV) (H : AH) (K : AV→AH→Prop) : Prop :=
 bP (PCall Tryz.prog 115 [a0] H) fun v0 =>
 bP (PCall Tryz.prog 115 [a1] H) fun v1 =>
 bB v0 fun t2 => bI t2 (
 bB v1 fun t3 => bI t3 (
 K (.lit (.int .i64 0)) H)
 (K (.lit (.int .i64 (-1))) H))
 (bB v1 fun t4 => bI t4 (
 K (.lit (.int .i64 1)) H)
 (bO (abI .lss a0 a1) fun v5 =>
 bB v5 fun t6 => bI t6 (
 K (.lit (.int .i64 (-1))) H)
 (bO (abI .gtr a0 a1) fun v7 =>
 bB v7 fun t8 => bI t8 (
 K (.lit (.int .i64 1)) H)
 (K (.lit (.int .i64 0)) H))))
theorem cmp_Compare_int_eq (a0 a1 : AV) (H : AH) (K : AV→AH→Prop) : sFun Tryz.prog cmp_Compare_int_fl pql none0 none0 cmp_Compare_int_kp Tryz.f104 [a0,a1] H K=zmtZ a0 a1 H K:=by kernel_rfl
theorem cmp_Compare_int_ok {a0 a1 : AV} {H : AH} {K : AV→AH→Prop} (h : zmtZ a0 a1 H K) : ∃ r H',K r H'∧BCall Tryz.prog 104 [a0,a1] H r H' :=
 sFun_ok mixP Tryz.func104 (by kernel_rfl) (Eq.mpr (cmp_Compare_int_eq a0 a1 H K) h)
def zdbZ : Floats:=flOf []
def zdcZ : Nat→Option (List Bool):=kpOf [(3,mk 19 0 [0,1,7,8])]
def zbaZ (p : List Bool) (n : Nat) : List AV→AH→Kf→Prop:=sCode Tryz.prog zdbZ pql none0 none0 zdcZ (sub p (bodyOf Tryz.f93)) n
def zdaZ (x0 x1 x7 x8 : AV) (H : AH) (K : AV→AH→Prop) : Prop:=lp (mk 19 0 [0,1,7,8]) (zbaZ [true,false,true,false,false] 4) [x0,x1,x7,x8] H (kBlk 0 (kSeq (zbaZ [true,true] 10) (kRet Tryz.prog Tryz.f93.results.toList K)))
def zuZ (R3 : List AV→AH→Prop) (x0 x1 x7 x8 : AV) (H : AH) (K : AV→AH→Prop) : Prop :=
 bO (abI .lss x8 x7) fun v0 =>
 bB v0 fun t1 => bI t1 (
 bO (aixS 9 x0 x8) fun v2 =>
 bO (ald true 9 H v2) fun v3 =>
 bF true x1 fun k6 f6 c6 =>
 bT (goFunc Tryz.prog k6 || !true) <|
 bC (BCall Tryz.prog k6 (f6 ++ [v3] ++ c6) H) fun v4 H5 =>
 bB v4 fun t7 => bI t7 (
 K x8 H5)
 (bO (abI .add x8 (.lit (.int .i64 1))) fun v8 =>
 R3 [x0,x1,x7,v8] H5))
 (K (.lit (.int .i64 (-1))) H)
theorem zffZ (R3 : List AV→AH→Prop) (x0 x1 x7 x8 : AV) (H : AH) (K : AV→AH→Prop) : zbaZ [true,false,true,false,false] 4 (expand (mk 19 0 [0,1,7,8]) [x0,x1,x7,x8]) H (kLp (mk 19 0 [0,1,7,8]) R3 (kBlk 0 (kSeq (zbaZ [true,true] 10) (kRet Tryz.prog Tryz.f93.results.toList K))))=zuZ R3 x0 x1 x7 x8 H K:=by kernel_rfl
theorem zcdZ {K : AV→AH→Prop} (I : Nat→AV→AV→AV→AV→AH→Prop) (round : ∀ (n : Nat) (x0 x1 x7 x8 : AV) (H : AH) (R : List AV→AH→Prop),(∀ (m : Nat) (y0 y1 y7 y8 : AV) (H' : AH),m < n→I m y0 y1 y7 y8 H'→R [y0,y1,y7,y8] H')→I n x0 x1 x7 x8 H→zuZ R x0 x1 x7 x8 H K) (n : Nat) {x0 x1 x7 x8 : AV} {H : AH} (h : I n x0 x1 x7 x8 H) : zdaZ x0 x1 x7 x8 H K:=by
 refine lp_upto (zvZ _ _) (LI4 I) ?_ n h
 intro n X H h
 obtain ⟨x0,x1,x7,x8,rfl,h⟩:=h.elim
 exact Eq.mpr (zffZ _ x0 x1 x7 x8 H K) (round n x0 x1 x7 x8 H (fun X H' => ∃ m,m < n∧LI4 I m X H') (fun m y0 y1 y7 y8 H' hm hi => ⟨m,hm,hi⟩) h)
def zbiZ (a0 a1 : AV) (H : AH) (K : AV→AH→Prop) : Prop :=
 bO (alnS a0) fun v0 =>
 zdaZ a0 a1 v0 (.lit (.int .i64 0)) H K
theorem zgcZ (a0 a1 : AV) (H : AH) (K : AV→AH→Prop) : sFun Tryz.prog zdbZ pql none0 none0 zdcZ Tryz.f93 [a0,a1] H K=zbiZ a0 a1 H K:=by kernel_rfl
theorem zdeZ {a0 a1 : AV} {H : AH} {K : AV→AH→Prop} (h : zbiZ a0 a1 H K) : ∃ r H',K r H'∧BCall Tryz.prog 93 [a0,a1] H r H' :=
 sFun_ok mixP Tryz.func93 (by kernel_rfl) (Eq.mpr (zgcZ a0 a1 H K) h)
def off_May_fl : Floats:=flOf []
def off_May_kp : Nat→Option (List Bool):=kpOf []
def off_May (a0 : AV) (H : AH) (K : AV→AH→Prop) : Prop :=
 bO (abI .geq a0 (.lit (.int .i64 0))) fun v0 =>
 bG v0 true fun w1 =>
 gO w1 (some a0) fun v2 =>
 bG v0 true fun w3 =>
 gO w3 (abI .leq v2 (.lit (.int .i64 4611686018427387904))) fun v4 =>
 bO (apick v0 v4 (.lit (.bool false))) fun v5 =>
 K v5 H
theorem off_May_eq (a0 : AV) (H : AH) (K : AV→AH→Prop) : sFun Tryz.prog off_May_fl pql none0 none0 off_May_kp Tryz.f113 [a0] H K=off_May a0 H K:=by kernel_rfl
theorem off_May_ok {a0 : AV} {H : AH} {K : AV→AH→Prop} (h : off_May a0 H K) : ∃ r H',K r H'∧BCall Tryz.prog 113 [a0] H r H' :=
 sFun_ok mixP Tryz.func113 (by kernel_rfl) (Eq.mpr (off_May_eq a0 H K) h)
def cmp_isNaN_int_fl : Floats:=flOf []
def cmp_isNaN_int_kp : Nat→Option (List Bool):=kpOf []
def cmp_isNaN_int (a0 : AV) (H : AH) (K : AV→AH→Prop) : Prop :=
 bO (abI .neq a0 a0) fun v0 =>
 K v0 H
theorem cmp_isNaN_int_eq (a0 : AV) (H : AH) (K : AV→AH→Prop) : sFun Tryz.prog cmp_isNaN_int_fl pql none0 none0 cmp_isNaN_int_kp Tryz.f115 [a0] H K=cmp_isNaN_int a0 H K:=by kernel_rfl
theorem cmp_isNaN_int_ok {a0 : AV} {H : AH} {K : AV→AH→Prop} (h : cmp_isNaN_int a0 H K) : ∃ r H',K r H'∧BCall Tryz.prog 115 [a0] H r H' :=
 sFun_ok mixP Tryz.func115 (by kernel_rfl) (Eq.mpr (cmp_isNaN_int_eq a0 H K) h)
end Go.Proofs.YtlbilcpnjgkpjaaGreat.Av
end
