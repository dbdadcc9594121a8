/- Texts of this proof, one behind the other, packed into one file by a program of this session. No condition. -/
import Derived.Test.YtlhiaihmkjlaaaaGreatMrF
set_option linter.unusedVariables false
set_option linter.unusedSimpArgs false
set_option maxRecDepth 100000
section
namespace Go.Proofs.YtlhiaihmkjlaaaaGreat.Av
open Go Go.RowKit
section
variable {κ α : Type} {c : κ→κ→Int} {key : α→κ}
theorem srtK_snoc (hc : KO c) {l : List α} {x : α} : srtK c key (l ++ [x]) ↔ srtK c key l∧∀ y,l.getLast? = some y→c (key y) (key x) < 0:=by
 unfold srtK;rw [List.pairwise_append]
 constructor
 ·rintro ⟨h1,-,h3⟩
  exact ⟨h1,λy hy=>h3 y (List.mem_of_getLast? hy) x (by simp)⟩
 ·rintro ⟨h1,h2⟩
  refine ⟨h1,List.pairwise_singleton _ _,λa ha b hb=>?_⟩;rw [List.mem_singleton] at hb;subst hb;obtain ⟨m,hm⟩:=List.mem_iff_getElem?.1 ha;have hl:=(gSI.1 hm).1;have hy : l.getLast? = some (l[l.length - 1]):=by rw [List.getLast?_eq_getElem?,gEG (by omega)]
  have h3:=h2 _ hy;rcases Nat.lt_or_ge m (l.length - 1) with h | h
  ·exact hc.trans _ _ _ (zbfcZ h1 hm (gEG (by omega)) h) h3
  ·have : m=l.length - 1:=by omega
   subst this;rw [gEG (by omega)] at hm;injection hm with hm;rw [← hm]; exact h3
end
def okN (l : List Nm) : Prop:=(∀ x ∈ l,mayN x.name∧1≤x.ino∧x.ino≤4611686018427387904)∧srtK cmpN Nm.name l∧(l.map Nm.ino).Nodup
instance (l : List Nm) : Decidable (okN l):=by unfold okN; infer_instance
def mayNs (l : List Nm) : Prop:=l.length≤16∧okN l
instance (l : List Nm) : Decidable (mayNs l):=by unfold mayNs; infer_instance
theorem okN_snoc {l : List Nm} {x : Nm} : okN (l ++ [x]) ↔ okN l∧(mayN x.name∧(∀ y,l.getLast? = some y→cmpN y.name x.name < 0)∧1≤x.ino∧x.ino≤4611686018427387904∧¬ hasK Nm.ino l x.ino):=by
 unfold okN;rw [srtK_snoc koN,List.map_append,List.nodup_append];simp only [List.mem_append,List.mem_singleton,List.map_cons,List.map_nil,List.nodup_cons,List.not_mem_nil,not_false_eq_true,List.nodup_nil,and_self,true_and]
 constructor
 ·rintro ⟨h1,⟨h2,h3⟩,h4,h5⟩
  refine ⟨⟨λy hy=>h1 y (.inl hy),h2,h4⟩,(h1 x (.inr rfl)).1,h3,(h1 x (.inr rfl)).2.1,(h1 x (.inr rfl)).2.2, ?_⟩;rintro ⟨y,hy,e⟩;exact h5 y.ino (List.mem_map_of_mem hy) x.ino rfl e
 ·rintro ⟨⟨h1,h2,h4⟩,h5,h6,h7,h8,h9⟩
  refine ⟨?_,⟨h2,h6⟩,h4, ?_⟩
  ·rintro y (hy | rfl)
   ·exact h1 y hy
   ·exact ⟨h5,h7,h8⟩
  ·rintro a ha b rfl e
   obtain ⟨y,hy,e2⟩:=List.mem_map.1 ha;exact h9 ⟨y,hy,by rw [e2,e]⟩
theorem okN_app {a b : List Nm} (h : okN (a ++ b)) : okN a:=by
 unfold okN at h ⊢;refine ⟨λx hx=>h.1 x (by simp [hx]),(List.pairwise_append.1 h.2.1).1, ?_⟩
 have:=h.2.2
 rw [List.map_append,List.nodup_append] at this;exact this.1
def inoM (l : List Nm) : List (Int × AV):=l.map λx=>(x.ino,B true)
theorem look_inoM (l : List Nm) (k : Int) : look (B false) (inoM l) k=B (decide (hasK Nm.ino l k)):=by
 induction l with
 | nil => simp [look,inoM,hasK]
 | cons a l ih =>
  unfold look inoM at ih ⊢;rw [List.map_cons]
  by_cases h : a.ino=k
  ·rw [List.find?_cons_of_pos (by simp [h])]
   have : hasK Nm.ino (a :: l) k:=⟨a,by simp,h⟩;simp [this]
  ·rw [List.find?_cons_of_neg (by simp [h]),ih]
   have : hasK Nm.ino (a :: l) k ↔ hasK Nm.ino l k:=by
    unfold hasK;simp [h]
   simp [this]
theorem putM_inoM {l : List Nm} {x : Nm} (h : ¬ hasK Nm.ino l x.ino) : putM (inoM l) x.ino (B true)=inoM (l ++ [x]):=by
 unfold putM
 have : (inoM l).findIdx? (λp=>p.1 == x.ino)=none:=by
  rw [List.findIdx?_eq_none_iff];intro p hp;obtain ⟨y,hy,rfl⟩:=List.mem_map.1 hp;simp only [beq_eq_false_iff_ne,ne_eq];exact λe=>h ⟨y,hy,e⟩
 rw [this];simp [inoM]
def NmsK (H : AH) (l : List Nm) (r : AV) (H' : AH) : Prop:=Grew H H' ∧
 (mayNs l→∃ o,r = .tup [.mp o,B true]∧H'[o]? = some (some (.map (encM (inoM l)))))∧(¬ mayNs l→r = .tup [.lit (.map none),B false])
theorem names_c {H : AH} {l : List Nm} {v : AV} (hv : SV encN 2 l v) (hl : l.length≤281474976710656) (hs : ∀ x ∈ l,x.name.length≤9223372036854775807) : ∃ r H',NmsK H l r H'∧BCall Tryz.prog 146 [v] H r H':=image_names_ok (by
 unfold image_names
 by_cases h16 : l.length≤16
 ·have e16 : ¬ (16 : Int) < l.length:=by omega
  simp [hv.len,e16];refine zbdjZ (λn x0 x4 x11 x12 x13 H'=>∃ k : Nat,k + n=l.length∧x0=v∧x4 = .mp H.length∧x11=v∧x12=I l.length∧x13=I k∧Grew H H'∧H'[H.length]? = some (some (.map (encM (inoM (l.take k)))))∧okN (l.take k)) ?_ l.length ⟨0,by omega,rfl,rfl,rfl,rfl,rfl,Grew.app _ _,by simp; rfl,by simp [okN,srtK]⟩;rintro n x0 x4 x11 x12 x13 H' R hR ⟨k,hk,rfl,rfl,rfl,rfl,rfl,hg,hm,hok⟩;unfold zztZ;rcases Nat.lt_or_ge k l.length with h | h
  ·have hx:=gEG h
   generalize l[k]=x at hx;have htk : l.take (k + 1)=l.take k ++ [x]:=by rw [List.take_add_one,hx]; rfl
   have hgt : ∀ y,(l.take k).getLast? = some y ↔ 0 < k∧l[k - 1]? = some y:=by
    intro y;rw [List.getLast?_eq_getElem?,List.length_take,Nat.min_eq_left (by omega),List.getElem?_take]
    by_cases c : 0 < k
    ·rw [if_pos (by omega)]; exact ⟨λh=>⟨c,h⟩,λh=>h.2⟩
    ·rw [if_neg (by omega)]; exact ⟨λh=>(by cases h),λh=>absurd h.1 c⟩
   have hstep : mayNs l→mayN x.name∧(∀ y,0 < k∧l[k - 1]? = some y→cmpN y.name x.name < 0)∧1≤x.ino∧x.ino≤4611686018427387904∧¬ hasK Nm.ino (l.take k) x.ino:=by
    rintro ⟨-,ho⟩;rw [← List.take_append_drop (k + 1) l,htk] at ho
    have:=(okN_snoc.1 (okN_app ho)).2
    simpa only [hgt] using this
   have hsx:=hs x (List.mem_of_getElem? hx);have g1:=Grew.app H' [some (.cells (encN x))];have c1 : (H' ++ [some (AObj.cells [S (bstr x.name),I x.ino])])[H.length]? = some (some (.map (encM (inoM (l.take k))))):=g1.cells hm
   have ea : ast 2 (H' ++ [some (.cells [S (bstr []),I 0])]) (.ptr H'.length 0) (.agg (encN x))=some (H' ++ [some (.cells (encN x))]):=by
    simp [ast,encN,zlaZ]
   simp [h,hv.idx zgfZ hx rfl,rdh_N,bstr_nil,ea];simp [encN];refine bP_of (zbgdZ (s:=x.name) (by omega)) ?_;have hno : ¬ (mayN x.name∧(∀ y,0 < k∧l[k - 1]? = some y→cmpN y.name x.name < 0)∧1≤x.ino∧x.ino≤4611686018427387904∧¬ hasK Nm.ino (l.take k) x.ino)→NmsK H l (.tup [.lit (.map none),B false]) (H' ++ [some (.cells (encN x))]):=λhn=>⟨hg.trans g1,λhh=>absurd (hstep hh) hn,λ_=>rfl⟩
   have key : (∀ y,0 < k∧l[k - 1]? = some y→cmpN y.name x.name < 0)→mayN x.name→True:=λ_ _=>trivial
   by_cases a1 : mayN x.name
   ·have hal : alk (.int .i64) (.bool false) (H' ++ [some (AObj.cells [S (bstr x.name),I x.ino])]) (.mp H.length) (I x.ino) false=some (B (decide (hasK Nm.ino (l.take k) x.ino))):=by
     rw [alk_int c1]; exact congrArg some (look_inoM _ _)
    have ham : ¬ hasK Nm.ino (l.take k) x.ino→amu (.int .i64) (H' ++ [some (AObj.cells [S (bstr x.name),I x.ino])]) (.mp H.length) (I x.ino) (B true)=some ((H' ++ [some (AObj.cells [S (bstr x.name),I x.ino])]).set H.length (some (.map (encM (inoM (l.take k ++ [x])))))):=λhn=>by
     rw [amu_int c1,putM_inoM hn]
    have hol : H.length < H'.length:=(gSI.1 hm).1;rcases Nat.eq_zero_or_pos k with h0 | hk0
    ·have e0 : ¬ 0 < k:=by omega
     have a5 : ∀ y,(l.take k).getLast? = some y→cmpN y.name x.name < 0:=λy hy=>by have:=(hgt y).1 hy; omega
     by_cases a2 : x.ino < 1
     ·simp [a1,e0,a2]
      exact hno λhh=>by omega
     ·by_cases a3 : 4611686018427387904 < x.ino
      ·simp [a1,e0,a2,a3]
       exact hno λhh=>by omega
      ·by_cases a4 : hasK Nm.ino (l.take k) x.ino
       ·simp [a1,e0,a2,a3,hal,a4]
        exact hno λhh=>hh.2.2.2.2 a4
       ·simp [a1,e0,a2,a3,hal,a4,ham a4,zbdZ (a:=(k : Nat)) (b:=1) (by omega) (by omega)]
        refine hR (n - 1) _ _ _ _ _ _ (by omega) ⟨k + 1,by omega,rfl,rfl,rfl,rfl,by simp,⟨Nat.le_trans (hg.trans g1).1 (Nat.le_of_eq List.length_set.symm),λi hi=>(gSN (by omega)).trans ((hg.trans g1).2 i hi)⟩,by rw [htk,gSS (by simp; omega)],by rw [htk,okN_snoc]; exact ⟨hok,a1,a5,by omega,by omega,a4⟩⟩
    ·have e0 : 0 < k:=hk0
     have hy:=gEG (l:=l) (i:=k - 1) (by omega);generalize l[k - 1]=y at hy;have es : abI .sub (I k) (I 1)=some (I ((k - 1 : Nat) : Int)):=by rw [zfpZ (by omega) (by omega)]; congr 3; omega
     have ei:=hv.idx zgfZ hy (i:=((k - 1 : Nat) : Int)) rfl
     by_cases a6 : cmpN y.name x.name < 0
     ·have a5 : ∀ y,(l.take k).getLast? = some y→cmpN y.name x.name < 0:=λz hz=>by have:=((hgt z).1 hz).2; rw [hy] at this; injection this with this; rw [← this]; exact a6
      by_cases a2 : x.ino < 1
      ·simp [a1,e0,es,ei,encN_0,abT_geq,a6,a2]
       exact hno λhh=>by omega
      ·by_cases a3 : 4611686018427387904 < x.ino
       ·simp [a1,e0,es,ei,encN_0,abT_geq,a6,a2,a3]
        exact hno λhh=>by omega
       ·by_cases a4 : hasK Nm.ino (l.take k) x.ino
        ·simp [a1,e0,es,ei,encN_0,abT_geq,a6,a2,a3,hal,a4]
         exact hno λhh=>hh.2.2.2.2 a4
        ·simp [a1,e0,es,ei,encN_0,abT_geq,a6,a2,a3,hal,a4,ham a4,zbdZ (a:=(k : Nat)) (b:=1) (by omega) (by omega)]
         refine hR (n - 1) _ _ _ _ _ _ (by omega) ⟨k + 1,by omega,rfl,rfl,rfl,rfl,by simp,⟨Nat.le_trans (hg.trans g1).1 (Nat.le_of_eq List.length_set.symm),λi hi=>(gSN (by omega)).trans ((hg.trans g1).2 i hi)⟩,by rw [htk,gSS (by simp; omega)],by rw [htk,okN_snoc]; exact ⟨hok,a1,a5,by omega,by omega,a4⟩⟩
     ·simp [a1,e0,es,ei,encN_0,abT_geq,a6]
      exact hno λhh=>a6 (hh.2.1 y ⟨hk0,hy⟩)
   ·simp [a1]
    exact hno λhh=>a1 hh.1
  ·have : l.take k=l:=List.take_of_length_le (by omega)
   rw [this] at hm hok;simp [show ¬ k < l.length by omega];exact ⟨hg,λ_=>⟨_,rfl,hm⟩,λhn=>absurd ⟨h16,hok⟩ hn⟩
 ·have e16 : (16 : Int) < l.length:=by omega
  have : ¬ mayNs l:=λh=>h16 h.1
  simp [hv.len,e16];exact ⟨Grew.refl _,λh=>absurd h this,λ_=>rfl⟩)
end Go.Proofs.YtlhiaihmkjlaaaaGreat.Av
end
section
namespace Go.Proofs.YtlhiaihmkjlaaaaGreat.Av
open Go Go.RowKit
def okD (ns : List Nm) (ds : List Nd) : Prop:=srtK cmpI Nd.ino ds∧∀ d ∈ ds,hasK Nm.ino ns d.ino∧mayC d.size d.l
instance (ns : List Nm) (ds : List Nd) : Decidable (okD ns ds):=by unfold okD; infer_instance
def mayI (ns : List Nm) (ds : List Nd) : Prop:=mayNs ns∧ds.length=ns.length∧okD ns ds
instance (ns : List Nm) (ds : List Nd) : Decidable (mayI ns ds):=by unfold mayI; infer_instance
def Sm (ns : List Nm) (ds : List Nd) : Prop:=ns.length≤100000∧ds.length≤100000∧(∀ x ∈ ns,x.name.length≤9223372036854775807)∧∀ d ∈ ds,d.l.length≤1000000
def ImV (ns : List Nm) (ds : List Nd) (v : AV) : Prop:=∃ a b dv,v = .agg [a,b]∧SV encN 2 ns a∧SV encD 3 dv b∧dv.map NdV.nd=ds
theorem ImV.noIds {ns : List Nm} {ds : List Nd} {v : AV} (h : ImV ns ds v) : zdcZ [v]=true:=by
 obtain ⟨a,b,dv,rfl,h1,h2,rfl⟩:=h;simp [zdcZ,Av.noIds,h1.1,h2.1]
theorem okD_snoc {ns : List Nm} {ds : List Nd} {d : Nd} : okD ns (ds ++ [d]) ↔ okD ns ds∧(∀ y,ds.getLast? = some y→y.ino < d.ino)∧hasK Nm.ino ns d.ino∧mayC d.size d.l:=by
 unfold okD;rw [srtK_snoc koI];simp only [cmpI_lt,List.mem_append,List.mem_singleton]
 constructor
 ·rintro ⟨⟨h1,h2⟩,h3⟩
  exact ⟨⟨h1,λy hy=>h3 y (.inl hy)⟩,h2,h3 d (.inr rfl)⟩
 ·rintro ⟨⟨h1,h3⟩,h2,h4⟩
  refine ⟨⟨h1,h2⟩, ?_⟩;rintro y (hy | rfl)
  ·exact h3 y hy
  ·exact h4
theorem okD_app {ns : List Nm} {a b : List Nd} (h : okD ns (a ++ b)) : okD ns a :=
 ⟨(List.pairwise_append.1 h.1).1,λd hd=>h.2 d (by simp [hd])⟩
theorem ztfZ {α : Type} {l : List α} {k : Nat} (hk : k≤l.length) (y : α) : (l.take k).getLast? = some y ↔ 0 < k∧l[k - 1]? = some y:=by
 rw [List.getLast?_eq_getElem?,List.length_take,Nat.min_eq_left hk,List.getElem?_take]
 by_cases c : 0 < k
 ·rw [if_pos (by omega)]; exact ⟨λh=>⟨c,h⟩,λh=>h.2⟩
 ·rw [if_neg (by omega)]; exact ⟨λh=>(by cases h),λh=>absurd h.1 c⟩
theorem zxsZ {α : Type} {l : List α} {k : Nat} {x : α} (hx : l[k]? = some x) : l.take (k + 1)=l.take k ++ [x]:=by rw [List.take_add_one,hx]; rfl
theorem May_p {ns : List Nm} {ds : List Nd} {v : AV} (hv : ImV ns ds v) (hb : Sm ns ds) : BPure Tryz.prog 90 [v] (B (decide (mayI ns ds))):=BPure.val hv.noIds rfl (image_May_ok (by
 obtain ⟨a,b,dv,rfl,ha,hbv,rfl⟩:=hv;have b1:=hb.1;have b2:=hb.2.1;rw [List.length_map] at b2;unfold image_May;have oa:=SV.oneA ha;have ob:=SV.oneA hbv;simp [oa,ob];obtain ⟨r,H5,⟨hg,hy,hn⟩,hc⟩:=names_c (H:=[some (.cells [a,b])]) ha (by omega) (λx hx=>by have:=hb.2.2.1 x hx; omega);refine bC_of hc ?_;have c0 : H5[0]? = some (some (.cells [a,b])):=hg.cells rfl
 by_cases hm : mayNs ns
 ·obtain ⟨o,rfl,hmap⟩:=hy hm
  have hal : alnM H5 (.mp o)=some (I ns.length):=by
   simp [alnM,hmap,encM,inoM,goInt]
  simp [c0,hbv.len,hal]
  by_cases hlen : dv.length=ns.length
  ·have hlI : ¬ ((dv.length : Int) ≠ ns.length):=by omega
   simp [hlen,c0,hbv.len];refine image_May_L8_rule (λn x3 x5 x25 x26 x27 H'=>∃ k : Nat,k + n=dv.length∧x3 = .mp o∧(∃ last : Int,x5=I last∧0≤last∧(∀ y,(dv.take k).getLast? = some y→y.ino≤last)∧(last=0∨∃ y,(dv.take k).getLast? = some y∧y.ino=last))∧x25=b∧x26=I ns.length∧x27=I k∧Grew H5 H'∧okD ns ((dv.take k).map NdV.nd)) ?_ dv.length ⟨0,by omega,rfl,⟨0,rfl,by omega,by simp,.inl rfl⟩,rfl,rfl,rfl,Grew.refl _,by simp [okD,srtK]⟩;rintro n x3 x5 x25 x26 x27 H' R hR ⟨k,hk,rfl,⟨last,rfl,hl0,hl1,hl2⟩,rfl,rfl,rfl,hg2,hok⟩;unfold zbeaZ;rcases Nat.lt_or_ge k ns.length with h | h
   ·have hx:=gEG (l:=dv) (i:=k) (by omega)
    generalize dv[k]=d at hx
    have ea : ast 3 (H' ++ [some (.cells [I 0,I 0,nilSl])]) (.ptr H'.length 0) (.agg (encD d))=some (H' ++ [some (.cells (encD d))]):=by
     have:=SV.oneA d.h
     simp [ast,encD,zlaZ,this]
    have g1:=Grew.app H' [some (.cells (encD d))];have c1 : (H' ++ [some (AObj.cells [I d.nd.ino,I d.nd.size,d.R])])[o]? = some (some (.map (encM (inoM ns)))):=g1.cells (hg2.cells hmap)
    have hal2 : alk (.int .i64) (.bool false) (H' ++ [some (AObj.cells [I d.nd.ino,I d.nd.size,d.R])]) (.mp o) (I d.nd.ino) false=some (B (decide (hasK Nm.ino ns d.nd.ino))):=by
     rw [alk_int c1]; exact congrArg some (look_inoM _ _)
    have hdl : d.nd.l.length≤281474976710656:=by
     have:=hb.2.2.2 d.nd (List.mem_map_of_mem (List.mem_of_getElem? hx)); omega
    have htk:=zxsZ hx
    have hstep : mayI ns (dv.map NdV.nd)→last < d.nd.ino∧hasK Nm.ino ns d.nd.ino∧mayC d.nd.size d.nd.l:=by
     rintro ⟨-,-,ho⟩;rw [← List.take_append_drop (k + 1) dv,htk,List.map_append,List.map_append] at ho;have h3:=(okD_snoc.1 (okD_app ho)).2;refine ⟨?_,h3.2⟩;rcases hl2 with rfl | ⟨y,hy,rfl⟩
     ·obtain ⟨x,hx,e⟩:=h3.2.1
      have:=(hm.2.1 x hx).2.1
      omega
     ·exact h3.1 y.nd (by rw [List.getLast?_map,hy]; rfl)
    simp [h,hbv.idx zffZ hx rfl,rdh_D,ea];simp [encD]
    by_cases a1 : d.nd.ino≤last
    ·have : ¬ mayI ns (dv.map NdV.nd):=λhh=>by have:=(hstep hh).1; omega
     simp [a1,this]
    ·by_cases a2 : hasK Nm.ino ns d.nd.ino
     ·simp [a1,hal2,a2,ztZ]
      refine zyZ (zjjZ d.h hdl) ?_
      by_cases a3 : mayC d.nd.size d.nd.l
      ·simp [a3,zbdZ (a:=k) (b:=1) (by omega) (by omega)]
       refine hR (n - 1) _ _ _ _ _ _ (by omega) ⟨k + 1,by omega,rfl,⟨d.nd.ino,rfl,by omega, ?_,.inr ⟨d,by rw [htk]; simp,rfl⟩⟩,rfl,rfl,by simp,hg2.trans g1, ?_⟩
       ·intro y hy
        rw [htk] at hy;simp at hy;rw [← hy]; exact Int.le_refl _
       ·rw [htk,List.map_append]
        refine okD_snoc.2 ⟨hok,λy hy=>?_,a2,a3⟩;rw [List.getLast?_map] at hy;obtain ⟨z,hz,rfl⟩:=Option.map_eq_some_iff.1 hy;have h9 : z.nd.ino≤last:=hl1 z hz
        show z.nd.ino < d.nd.ino
        omega
      ·have : ¬ mayI ns (dv.map NdV.nd):=λhh=>a3 (hstep hh).2.2
       simp [a3,this]
     ·have : ¬ mayI ns (dv.map NdV.nd):=λhh=>a2 (hstep hh).2.1
      simp [a1,hal2,a2,this]
   ·have e : dv.take k=dv:=List.take_of_length_le (by omega)
    rw [e] at hok;have : mayI ns (dv.map NdV.nd):=⟨hm,by simp [hlen],hok⟩;simp [show ¬ k < ns.length by omega,this]
  ·have : ¬ mayI ns (dv.map NdV.nd):=λh=>hlen (by simpa using h.2.1)
   have hlI : ((dv.length : Int) ≠ ns.length):=by omega
   simp [hlI,this]
 ·have : ¬ mayI ns (dv.map NdV.nd):=λh=>hm h.1
  rw [hn hm];simp [this]))
theorem ziwZ {s : List UInt8} (hs : s.length≤9223372036854775807) : BPure Tryz.prog 98 [S (bstr s)] (B (decide (mayN s))):=BPure.flat λH=>zywZ (by
 unfold ztnZ;refine zsiZ (λn x0 x3 H'=>∃ k : Nat,k + n=s.length∧x0=S (bstr s)∧x3=I k∧H'=H∧(∀ m y,m < k→s[m]? = some y→mayB y)∧(0 < k→s[0]? ≠ some 45)) ?_ s.length ⟨0,by omega,rfl,rfl,rfl,by omega,by omega⟩;rintro n x0 x3 H' R hR ⟨k,hk,rfl,rfl,rfl,hb,h45⟩;unfold zlmZ;rw [alnT_spec (by omega)];rcases Nat.lt_or_ge k s.length with h | h
 ·have hx:=gEG h
  generalize s[k]=y at hx;have hno : ¬ (mayB y∧(k=0→¬ (y.toNat : Int)=45))→¬ mayN s:=λhn hm=>hn ⟨hm.2.2.2 y (List.mem_of_getElem? hx),λe0 e=>hm.2.2.1 (by rw [← e0,hx]; congr 1; exact (u8c (k:=45) rfl).mp e)⟩
  have next : mayB y→(k=0→¬ (y.toNat : Int)=45)→R [S (bstr s),I ((k : Int) + 1)] H':=λh1 h2=>hR (n - 1) _ _ _ (by omega) ⟨k + 1,by omega,rfl,by simp,rfl,λm z hm hz=>by
   by_cases c : m=k
   ·rw [c,hx] at hz; injection hz with hz; rw [← hz]; exact h1
   ·exact hb m z (by omega) hz,λ_=>by
   rcases Nat.eq_zero_or_pos k with rfl | h0
   ·rw [hx]; intro e; injection e with e; exact h2 rfl ((u8c (k:=45) rfl).mpr e)
   ·exact h45 h0⟩
  have e1:=zbdZ (a:=k) (b:=1) (by omega) (by omega);simp [h,aivT_spec rfl hx]
  by_cases c1 : (y.toNat : Int) < 97
  ·by_cases c2 : (y.toNat : Int) < 48
   ·by_cases c3 : (y.toNat : Int)=46
    ·simp [c1,c2,c3,e1]
     exact next (by unfold mayB; omega) (by omega)
    ·by_cases c4 : (y.toNat : Int)=45
     ·rcases Nat.eq_zero_or_pos k with h0 | h0
      ·have : ¬ mayN s:=hno λhh=>hh.2 h0 c4
       simp [c1,c2,c3,c4,h0,this]
      ·simp [c1,c2,c3,c4,e1,show ¬ k=0 by omega]
       exact next (by unfold mayB; omega) (by omega)
     ·have e95 : ¬ (y.toNat : Int)=95:=by omega
      have : ¬ mayN s:=hno λhh=>by unfold mayB at hh; omega
      simp [c1,c2,c3,c4,e95,this]
   ·by_cases c3 : (57 : Int) < y.toNat
    ·by_cases c4 : (y.toNat : Int)=95
     ·simp [c1,c2,c3,c4,e1]
      exact next (by unfold mayB; omega) (by omega)
     ·have e46 : ¬ (y.toNat : Int)=46:=by omega
      have e45 : ¬ (y.toNat : Int)=45:=by omega
      have : ¬ mayN s:=hno λhh=>by unfold mayB at hh; omega
      simp [c1,c2,c3,c4,e46,e45,this]
    ·simp [c1,c2,c3,e1]
     exact next (by unfold mayB; omega) (by omega)
  ·by_cases c2 : (122 : Int) < y.toNat
   ·have e48 : ¬ (y.toNat : Int) < 48:=by omega
    have e57 : (57 : Int) < y.toNat:=by omega
    have e46 : ¬ (y.toNat : Int)=46:=by omega
    have e95 : ¬ (y.toNat : Int)=95:=by omega
    have e45 : ¬ (y.toNat : Int)=45:=by omega
    have : ¬ mayN s:=hno λhh=>by unfold mayB at hh; omega
    simp [c1,c2,e48,e57,e46,e95,e45,this]
   ·simp [c1,c2,e1]
    exact next (by unfold mayB; omega) (by omega)
 ·have hall : ∀ b ∈ s,mayB b:=λb hb'=>by
   obtain ⟨m,hm⟩:=List.mem_iff_getElem?.1 hb'
   have:=(gSI.1 hm).1
   exact hb m b (by omega) hm
  have e0 : ¬ k < s.length:=by omega
  rcases Nat.eq_zero_or_pos s.length with h0 | h0
  ·have : ¬ mayN s:=λhm=>hm.1 (List.length_eq_zero_iff.1 h0)
   have e1 : ¬ (1 : Int)≤s.length:=by omega
   have e2 : ¬ 1≤s.length:=by omega
   simp only [zglZ,zbZ,zpZ,Int.ofNat_lt,e0,dFf,zmZ];simp [zbbaZ,h0,this]
  ·by_cases h20 : s.length≤20
   ·have : mayN s:=⟨λe=>by rw [e] at h0; simp at h0,h20,h45 (by omega),hall⟩
    have e1 : (1 : Int)≤s.length:=by omega
    have e2 : (s.length : Int)≤20:=by omega
    simp [e0,e1,e2,zbbaZ,this]
   ·have : ¬ mayN s:=λhm=>h20 hm.2.1
    have e1 : (1 : Int)≤s.length:=by omega
    have e2 : ¬ (s.length : Int)≤20:=by omega
    simp [e0,e1,e2,zbbaZ,this]
    try omega)
section
variable {κ α : Type} [DecidableEq κ] {c : κ→κ→Int} {key : α→κ}
def idxK (key : α→κ) (l : List α) (k : κ) : Int:=match l.findIdx? (λx=>decide (key x=k)) with
 | some j => j
 | none => -1
theorem idxK_none {l : List α} {k : κ} (h : ¬ hasK key l k) : idxK key l k = -1:=by
 unfold idxK
 have : l.findIdx? (λx=>decide (key x=k))=none:=by
  rw [List.findIdx?_eq_none_iff];intro x hx;simp only [decide_eq_false_iff_not];exact λe=>h ⟨x,hx,e⟩
 rw [this]
theorem idxK_at {l : List α} {k : κ} {j : Nat} {x : α} (hx : l[j]? = some x) (hk : key x=k) (hn : ∀ m y,m < j→l[m]? = some y→key y ≠ k) : idxK key l k=j:=by
 unfold idxK
 have : l.findIdx? (λx=>decide (key x=k))=some j:=by
  obtain ⟨h1,h2⟩:=gSI.1 hx;rw [List.findIdx?_eq_some_iff_getElem];refine ⟨h1,by rw [h2]; simp [hk],λm hm=>?_⟩
  have:=hn m _ hm (gEG (by omega))
  simp [this]
 rw [this]
theorem idxK_has {l : List α} {k : κ} (h : hasK key l k) : ∃ (j : Nat) (x : α),idxK key l k=j∧l[j]? = some x∧key x=k:=by
 unfold idxK;cases hf : l.findIdx? (λx=>decide (key x=k)) with
 | none =>
  rw [List.findIdx?_eq_none_iff] at hf;obtain ⟨x,hx,e⟩:=h
  have:=hf x hx
  simp [e] at this
 | some j =>
  obtain ⟨h1,h2,h3⟩:=List.findIdx?_eq_some_iff_getElem.1 hf;exact ⟨j,l[j],rfl,gEG h1,by simpa using h2⟩
theorem idxK_pos (hc : KO c) {l : List α} (hs : srtK c key l) {k : κ} (h : hasK key l k) : idxK key l k=posK c key l k:=by
 obtain ⟨j,x,h1,h2,rfl⟩:=idxK_has h;rw [h1,posK_at hc hs h2]
theorem zbcuZ {l : List α} {k : κ} : idxK key l k < 0 ↔ ¬ hasK key l k:=by
 constructor
 ·intro h hh
  obtain ⟨j,x,h1,h2,rfl⟩:=idxK_has hh;omega
 ·intro h; rw [idxK_none h]; omega
end
theorem znhZ {ns : List Nm} {ds : List Nd} {v : AV} (hv : ImV ns ds v) (hb : Sm ns ds) (s : List UInt8) : BPure Tryz.prog 137 [v,S (bstr s)] (I (idxK Nm.name ns s)):=BPure.val (by have:=hv.noIds; simpa [zdcZ,noIds] using this) rfl (zbbvZ (by
 obtain ⟨a,b,dv,rfl,ha,hbv,rfl⟩:=hv;have b1:=hb.1;unfold zydZ;have oa:=SV.oneA ha;have ob:=SV.oneA hbv;simp [oa,ob];refine zueZ (λn x1 x2 x5 H'=>∃ k : Nat,k + n=ns.length∧x1=S (bstr s)∧x2 = .ptr 0 0∧x5=I k∧H'=[some (.cells [a,b])]∧∀ m y,m < k→ns[m]? = some y→y.name ≠ s) ?_ ns.length ⟨0,by omega,rfl,rfl,rfl,rfl,by omega⟩;rintro n x1 x2 x5 H' R hR ⟨k,hk,rfl,rfl,rfl,rfl,hn⟩;unfold zoeZ;rcases Nat.lt_or_ge k ns.length with h | h
 ·have hx:=gEG h
  generalize ns[k]=x at hx;simp [ha.len,h,ha.idx zgfZ hx rfl,encN_0,abT_eql]
  by_cases c : x.name=s
  ·have:=idxK_at hx c hn
   simp [c,this]
  ·simp [c,zbdZ (a:=k) (b:=1) (by omega) (by omega)]
   exact hR (n - 1) _ _ _ _ (by omega) ⟨k + 1,by omega,rfl,rfl,by simp,rfl,λm y hm hy=>by
    by_cases c2 : m=k
    ·rw [c2,hx] at hy; injection hy with hy; rw [← hy]; exact c
    ·exact hn m y (by omega) hy⟩
 ·have : idxK Nm.name ns s = -1:=idxK_none (by
   rintro ⟨x,hx,e⟩;obtain ⟨m,hm⟩:=List.mem_iff_getElem?.1 hx
   have:=(gSI.1 hm).1
   exact hn m x (by omega) hm e)
  simp [ha.len,show ¬ k < ns.length by omega,this]))
theorem getElem?_map_nd {dv : List NdV} {k : Nat} {d : Nd} (h : (dv.map NdV.nd)[k]? = some d) : ∃ x,dv[k]? = some x∧x.nd=d:=by
 rw [List.getElem?_map] at h;exact Option.map_eq_some_iff.1 h
theorem ztyZ {ns : List Nm} {ds : List Nd} {v : AV} (hv : ImV ns ds v) (hb : Sm ns ds) (no : Int) : BPure Tryz.prog 174 [v,I no] (I (idxK Nd.ino ds no)):=BPure.val (by have:=hv.noIds; simpa [zdcZ,noIds] using this) rfl (zbdeZ (by
 obtain ⟨a,b,dv,rfl,ha,hbv,rfl⟩:=hv;have b1:=hb.2.1;rw [List.length_map] at b1;unfold zzgZ;have oa:=SV.oneA ha;have ob:=SV.oneA hbv;simp [oa,ob];refine zwoZ (λn x1 x2 x5 H'=>∃ k : Nat,k + n=dv.length∧x1=I no∧x2 = .ptr 0 0∧x5=I k∧H'=[some (.cells [a,b])]∧∀ m y,m < k→(dv.map NdV.nd)[m]? = some y→y.ino ≠ no) ?_ dv.length ⟨0,by omega,rfl,rfl,rfl,rfl,by omega⟩;rintro n x1 x2 x5 H' R hR ⟨k,hk,rfl,rfl,rfl,rfl,hn⟩;unfold zpiZ;rcases Nat.lt_or_ge k dv.length with h | h
 ·have hx:=gEG h
  generalize dv[k]=x at hx;have hx2 : (dv.map NdV.nd)[k]? = some x.nd:=by rw [List.getElem?_map,hx]; rfl
  simp [hbv.len,h,hbv.idx zffZ hx rfl,encD_0]
  by_cases c : x.nd.ino=no
  ·have:=idxK_at (key:=Nd.ino) hx2 c hn
   simp [c,this]
  ·simp [c,zbdZ (a:=k) (b:=1) (by omega) (by omega)]
   exact hR (n - 1) _ _ _ _ (by omega) ⟨k + 1,by omega,rfl,rfl,by simp,rfl,λm y hm hy=>by
    by_cases c2 : m=k
    ·rw [c2,hx2] at hy; injection hy with hy; rw [← hy]; exact c
    ·exact hn m y (by omega) hy⟩
 ·have : idxK Nd.ino (dv.map NdV.nd) no = -1:=idxK_none (by
   rintro ⟨x,hx,e⟩;obtain ⟨m,hm⟩:=List.mem_iff_getElem?.1 hx
   have:=(gSI.1 hm).1
   rw [List.length_map] at this;exact hn m x (by omega) hm e)
  simp [hbv.len,show ¬ k < dv.length by omega,this]))
theorem pigeon : ∀ {A B : List Int},A.Nodup→(∀ a ∈ A,a ∈ B)→B.length≤A.length→∀ b ∈ B,b ∈ A
 | [],B,_,_,hl,b,hb => by
  have : B=[]:=List.length_eq_zero_iff.1 (by simpa using hl);rw [this] at hb; exact hb
 | a :: A,B,hn,hs,hl,b,hb => by
  rw [List.nodup_cons] at hn
  by_cases e : b=a
  ·simp [e]
  ·have haB:=hs a (by simp)
   have hl2 : (B.erase a).length≤A.length:=by
    rw [List.length_erase_of_mem haB]; simp at hl; omega
   have:=pigeon (A:=A) (B:=B.erase a) hn.2 (λx hx=>(List.mem_erase_of_ne (fun (e2 : x=a) => hn.1 (e2 ▸ hx))).2 (hs x (by simp [hx]))) hl2 b ((List.mem_erase_of_ne e).2 hb)
   simp [this]
def okP (N : List Nd) (ns : List Nm) (ds : List Nd) : Prop:=okN ns∧srtK cmpI Nd.ino ds∧(∀ x ∈ ns,hasK Nd.ino N x.ino)∧∀ d ∈ ds,mayC d.size d.l
theorem mayI_doc {ns : List Nm} {ds : List Nd} : mayI ns ds ↔ ns.length≤16∧ds.length=ns.length∧okP ds ns ds:=by
 unfold mayI mayNs okD okP
 constructor
 ·rintro ⟨⟨h1,h2⟩,h3,h4,h5⟩
  refine ⟨h1,h3,h2,h4, ?_,λd hd=>(h5 d hd).2⟩
  have hn : (ds.map Nd.ino).Nodup:=by
   rw [List.Nodup,List.pairwise_map];exact h4.imp λh=>by rw [cmpI_lt] at h; omega
  have:=pigeon (A:=ds.map Nd.ino) (B:=ns.map Nm.ino) hn (λa ha=>by
   obtain ⟨d,hd,rfl⟩:=List.mem_map.1 ha;obtain ⟨x,hx,e⟩:=(h5 d hd).1;rw [← e]; exact List.mem_map_of_mem hx) (by simp [h3])
  intro x hx;obtain ⟨d,hd,e⟩:=List.mem_map.1 (this x.ino (List.mem_map_of_mem hx));exact ⟨d,hd,e⟩
 ·rintro ⟨h1,h3,h2,h4,h5,h6⟩
  refine ⟨⟨h1,h2⟩,h3,h4,λd hd=>⟨?_,h6 d hd⟩⟩
  have:=pigeon (A:=ns.map Nm.ino) (B:=ds.map Nd.ino) h2.2.2 (λa ha=>by
   obtain ⟨x,hx,rfl⟩:=List.mem_map.1 ha;obtain ⟨d,hd,e⟩:=h5 x hx;rw [← e]; exact List.mem_map_of_mem hd) (by simp [h3])
  obtain ⟨x,hx,e⟩:=List.mem_map.1 (this d.ino (List.mem_map_of_mem hd));exact ⟨x,hx,e⟩
theorem zmrZ {ns : List Nm} {ds : List Nd} {v : AV} (hv : ImV ns ds v) (hb : Sm ns ds) : BPure Tryz.prog 157 [v] (B (decide (mayI ns ds))):=BPure.val hv.noIds rfl (zxmZ (by
 have hv0:=hv;obtain ⟨a,b,dv,rfl,ha,hbv,rfl⟩:=hv;have b1:=hb.1;have b2:=hb.2.1;rw [List.length_map] at b2;unfold zquZ;have oa:=SV.oneA ha;have ob:=SV.oneA hbv;simp [oa,ob,ha.len,hbv.len]
 by_cases h16 : ns.length≤16
 ·have e16 : ¬ (16 : Int) < ns.length:=by omega
  by_cases hlen : dv.length=ns.length
  ·have hlI : ((ns.length : Int)=dv.length):=by omega
   simp [e16,show ¬ (16 : Int) < dv.length by omega,hlI,ha.len,hbv.len];refine zqkZ (λn x1 x3 H'=>∃ k : Nat,k + n=ns.length∧x1 = .ptr 0 0∧x3=I k∧Grew [some (.cells [a,b])] H'∧okP (dv.map NdV.nd) (ns.take k) ((dv.take k).map NdV.nd)) ?_ ns.length ⟨0,by omega,rfl,rfl,Grew.refl _,by simp [okP,okN,srtK]⟩;rintro n x1 x3 H' R hR ⟨k,hk,rfl,rfl,hg,hok⟩;unfold zkjZ;have c0 : H'[0]? = some (some (.cells [a,b])):=hg.cells rfl;rcases Nat.lt_or_ge k ns.length with h | h
   ·have hx:=gEG h
    generalize ns[k]=x at hx;have hd:=gEG (l:=dv) (i:=k) (by omega);generalize dv[k]=d at hd;have hsx:=hb.2.2.1 x (List.mem_of_getElem? hx);have htx:=zxsZ hx;have htd:=zxsZ hd
    have hdl : d.nd.l.length≤281474976710656:=by
     have:=hb.2.2.2 d.nd (List.mem_map_of_mem (List.mem_of_getElem? hd)); omega
    have hstep : mayI ns (dv.map NdV.nd)→(mayN x.name∧(∀ y,0 < k∧ns[k - 1]? = some y→cmpN y.name x.name < 0)∧1≤x.ino∧x.ino≤4611686018427387904∧¬ hasK Nm.ino (ns.take k) x.ino)∧(∀ y,0 < k∧dv[k - 1]? = some y→y.nd.ino < d.nd.ino)∧hasK Nd.ino (dv.map NdV.nd) x.ino∧mayC d.nd.size d.nd.l:=by
     intro hm;obtain ⟨-,-,o1,o2,o3,o4⟩:=mayI_doc.1 hm;refine ⟨?_, ?_,o3 x (List.mem_of_getElem? hx),o4 d.nd (List.mem_map_of_mem (List.mem_of_getElem? hd))⟩
     ·rw [← List.take_append_drop (k + 1) ns,htx] at o1
      have:=(okN_snoc.1 (okN_app o1)).2
      simpa only [ztfZ (show k≤ns.length by omega)] using this
     ·rintro y ⟨h0,hy⟩
      have:=zbfcZ o2 (i:=k - 1) (j:=k) (x:=y.nd) (y:=d.nd) (by rw [List.getElem?_map,hy]; rfl) (by rw [List.getElem?_map,hd]; rfl) (by omega)
      rwa [cmpI_lt] at this
    obtain ⟨X,ea,c1,c2,g2⟩ : ∃ X,ast 2 (H' ++ [some (.cells [S (bstr []),I 0])]) (.ptr H'.length 0) (.agg (encN x))=some X∧X[0]? = some (some (.cells [a,b]))∧X[H'.length]? = some (some (.cells [S (bstr x.name),I x.ino]))∧Grew H' X:=by
     have g1:=Grew.app H' [some (.cells (encN x))];exact ⟨_,by simp [ast,encN,zlaZ],g1.cells c0,by simp [encN],g1⟩
    simp [c0,ha.len,h,ha.idx zgfZ hx rfl,rdh_N,bstr_nil,ea];simp [c2];refine bP_of (ziwZ (s:=x.name) (by omega)) ?_
    by_cases a1 : mayN x.name
    ·by_cases a2 : x.ino < 1
     ·have : ¬ mayI ns (dv.map NdV.nd):=λhm=>by have:=(hstep hm).1.2.2.1; omega
      simp [c2,a1,a2,this]
     ·by_cases a3 : 4611686018427387904 < x.ino
      ·have : ¬ mayI ns (dv.map NdV.nd):=λhm=>by have:=(hstep hm).1.2.2.2.1; omega
       simp [c2,a1,a2,a3,this]
      ·rcases Nat.eq_zero_or_pos k with h0 | hk0
       ·have e0 : ¬ 0 < k:=by omega
        simp [c2,a1,a2,a3,e0,c1,ztZ];refine bP_of (ztyZ hv0 hb x.ino) ?_
        by_cases a4 : hasK Nd.ino (dv.map NdV.nd) x.ino
        ·have i4 : ¬ idxK Nd.ino (dv.map NdV.nd) x.ino < 0:=by rw [zbcuZ]; exact λh=>h a4
         simp [c2,i4];refine zhfZ _ (λn x1 x3 x4 x5 H''=>∃ j : Nat,j + n=k∧x1 = .ptr 0 0∧x3=I k∧x4 = .ptr H'.length 0∧x5=I j∧X=H''∧¬ hasK Nm.ino (ns.take j) x.ino) ?_ k ⟨0,by omega,rfl,rfl,rfl,rfl,rfl,by simp [c2,hasK]⟩;rintro n2 y1 y3 y4 y5 H2 R2 hR2 ⟨j,hj,rfl,rfl,rfl,rfl,rfl,hnj⟩;unfold zfnZ;rcases Nat.lt_or_ge j k with hjk | hjk
         ·have hz:=gEG (l:=ns) (i:=j) (by omega)
          generalize ns[j]=z at hz;simp [c2,hjk,c1,ha.idx zgfZ hz rfl,encN_1]
          by_cases cz : z.ino=x.ino
          ·have : ¬ mayI ns (dv.map NdV.nd):=λhm=>(hstep hm).1.2.2.2.2 ⟨z,List.mem_iff_getElem?.2 ⟨j,by rw [List.getElem?_take,if_pos hjk]; exact hz⟩,cz⟩
           simp [c2,cz,this]
          ·simp [c2,cz,zbdZ (a:=j) (b:=1) (by omega) (by omega)]
           refine hR2 (n2 - 1) _ _ _ _ _ (by omega) ⟨j + 1,by omega,rfl,rfl,rfl,by simp,rfl, ?_⟩;rw [zxsZ hz];rintro ⟨w,hw,e⟩;rcases List.mem_append.1 hw with hw | hw
           ·exact hnj ⟨w,hw,e⟩
           ·rw [List.mem_singleton] at hw; subst hw; exact cz e
         ·have ejk : j=k:=by omega
          subst ejk;have nj : ¬ j < j:=by omega
          have ei:=hbv.idx zffZ hd rfl
          have nxt : (∀ y,0 < j∧dv[j - 1]? = some y→y.nd.ino < d.nd.ino)→mayC d.nd.size d.nd.l→R [.ptr 0 0,I ((j : Int) + 1)] X:=λq1 q2=>by
           refine hR (n - 1) _ _ _ (by omega) ⟨j + 1,by omega,rfl,by simp,hg.trans g2, ?_⟩;rw [htx,htd,List.map_append];obtain ⟨o1,o2,o3,o4⟩:=hok;refine ⟨okN_snoc.2 ⟨o1,a1,(λy hy=>by have:=(ztfZ (by omega) y).1 hy; omega),by omega,by omega,hnj⟩,(srtK_snoc koI).2 ⟨o2, ?_⟩, ?_, ?_⟩
           ·intro y hy
            rw [List.getLast?_map] at hy;obtain ⟨w,hw,rfl⟩:=Option.map_eq_some_iff.1 hy;rw [cmpI_lt];exact q1 w ((ztfZ (by omega) w).1 hw)
           ·intro y hy
            rcases List.mem_append.1 hy with hy | hy
            ·exact o3 y hy
            ·rw [List.mem_singleton] at hy; subst hy; exact a4
           ·intro y hy
            rcases List.mem_append.1 hy with hy | hy
            ·exact o4 y hy
            ·simp at hy; subst hy; exact q2
          have n0 : ¬ 0 < j:=by omega
          simp [c2,n0,c1,ei,encD_c];refine bP_of (zdoZ d.h hdl) ?_
          by_cases q2 : mayC d.nd.size d.nd.l
          ·simp [c2,q2,zbdZ (a:=j) (b:=1) (by omega) (by omega)]
           exact nxt (λy hy=>by omega) q2
          ·have : ¬ mayI ns (dv.map NdV.nd):=λhm=>q2 (hstep hm).2.2.2
           simp [c2,q2,this]
        ·have i4 : idxK Nd.ino (dv.map NdV.nd) x.ino < 0:=zbcuZ.2 a4
         have : ¬ mayI ns (dv.map NdV.nd):=λhm=>a4 (hstep hm).2.2.1
         simp [c2,i4,this]
       ·have hy:=gEG (l:=ns) (i:=k - 1) (by omega)
        generalize ns[k - 1]=y at hy;have es : abI .sub (I k) (I 1)=some (I ((k - 1 : Nat) : Int)):=by rw [zfpZ (by omega) (by omega)]; congr 3; omega
        have eiy:=ha.idx zgfZ hy (i:=((k - 1 : Nat) : Int)) rfl;simp [c2,a1,a2,a3,hk0,c1,es,eiy,encN_0,abT_geq]
        by_cases a6 : cmpN y.name x.name < 0
        ·simp [c2,show ¬ 0≤cmpN y.name x.name by omega,c1,ztZ]
         refine bP_of (ztyZ hv0 hb x.ino) ?_
         by_cases a4 : hasK Nd.ino (dv.map NdV.nd) x.ino
         ·have i4 : ¬ idxK Nd.ino (dv.map NdV.nd) x.ino < 0:=by rw [zbcuZ]; exact λh=>h a4
          simp [c2,i4];refine zhfZ _ (λn x1 x3 x4 x5 H''=>∃ j : Nat,j + n=k∧x1 = .ptr 0 0∧x3=I k∧x4 = .ptr H'.length 0∧x5=I j∧X=H''∧¬ hasK Nm.ino (ns.take j) x.ino) ?_ k ⟨0,by omega,rfl,rfl,rfl,rfl,rfl,by simp [c2,hasK]⟩;rintro n2 y1 y3 y4 y5 H2 R2 hR2 ⟨j,hj,rfl,rfl,rfl,rfl,rfl,hnj⟩;unfold zfnZ;rcases Nat.lt_or_ge j k with hjk | hjk
          ·have hz:=gEG (l:=ns) (i:=j) (by omega)
           generalize ns[j]=z at hz;simp [c2,hjk,c1,ha.idx zgfZ hz rfl,encN_1]
           by_cases cz : z.ino=x.ino
           ·have : ¬ mayI ns (dv.map NdV.nd):=λhm=>(hstep hm).1.2.2.2.2 ⟨z,List.mem_iff_getElem?.2 ⟨j,by rw [List.getElem?_take,if_pos hjk]; exact hz⟩,cz⟩
            simp [c2,cz,this]
           ·simp [c2,cz,zbdZ (a:=j) (b:=1) (by omega) (by omega)]
            refine hR2 (n2 - 1) _ _ _ _ _ (by omega) ⟨j + 1,by omega,rfl,rfl,rfl,by simp,rfl, ?_⟩;rw [zxsZ hz];rintro ⟨w,hw,e⟩;rcases List.mem_append.1 hw with hw | hw
            ·exact hnj ⟨w,hw,e⟩
            ·rw [List.mem_singleton] at hw; subst hw; exact cz e
          ·have ejk : j=k:=by omega
           subst ejk;have nj : ¬ j < j:=by omega
           have ei:=hbv.idx zffZ hd rfl
           have nxt : (∀ y,0 < j∧dv[j - 1]? = some y→y.nd.ino < d.nd.ino)→mayC d.nd.size d.nd.l→R [.ptr 0 0,I ((j : Int) + 1)] X:=λq1 q2=>by
            refine hR (n - 1) _ _ _ (by omega) ⟨j + 1,by omega,rfl,by simp,hg.trans g2, ?_⟩;rw [htx,htd,List.map_append];obtain ⟨o1,o2,o3,o4⟩:=hok;refine ⟨okN_snoc.2 ⟨o1,a1,(λz hz=>by have:=((ztfZ (by omega) z).1 hz).2; rw [hy] at this; injection this with this; rw [← this]; exact a6),by omega,by omega,hnj⟩,(srtK_snoc koI).2 ⟨o2, ?_⟩, ?_, ?_⟩
            ·intro y hy
             rw [List.getLast?_map] at hy;obtain ⟨w,hw,rfl⟩:=Option.map_eq_some_iff.1 hy;rw [cmpI_lt];exact q1 w ((ztfZ (by omega) w).1 hw)
            ·intro y hy
             rcases List.mem_append.1 hy with hy | hy
             ·exact o3 y hy
             ·rw [List.mem_singleton] at hy; subst hy; exact a4
            ·intro y hy
             rcases List.mem_append.1 hy with hy | hy
             ·exact o4 y hy
             ·simp at hy; subst hy; exact q2
           have hw:=gEG (l:=dv) (i:=j - 1) (by omega);generalize dv[j - 1]=w at hw;have es : abI .sub (I j) (I 1)=some (I ((j - 1 : Nat) : Int)):=by rw [zfpZ (by omega) (by omega)]; congr 3; omega
           have ew:=hbv.idx zffZ hw (i:=((j - 1 : Nat) : Int)) rfl;simp [c2,hk0,c1,es,ew,ei,encD_0]
           by_cases q1 : d.nd.ino≤w.nd.ino
           ·have : ¬ mayI ns (dv.map NdV.nd):=λhm=>by have:=(hstep hm).2.1 w ⟨hk0,hw⟩; omega
            simp [c2,q1,this]
           ·simp [c2,q1,c1,ei,encD_c]
            refine bP_of (zdoZ d.h hdl) ?_
            by_cases q2 : mayC d.nd.size d.nd.l
            ·simp [c2,q2,zbdZ (a:=j) (b:=1) (by omega) (by omega)]
             exact nxt (λy hy=>by have:=hy.2; rw [hw] at this; injection this with this; rw [← this]; omega) q2
            ·have : ¬ mayI ns (dv.map NdV.nd):=λhm=>q2 (hstep hm).2.2.2
             simp [c2,q2,this]
         ·have i4 : idxK Nd.ino (dv.map NdV.nd) x.ino < 0:=zbcuZ.2 a4
          have : ¬ mayI ns (dv.map NdV.nd):=λhm=>a4 (hstep hm).2.2.1
          simp [c2,i4,this]
        ·have : ¬ mayI ns (dv.map NdV.nd):=λhm=>a6 ((hstep hm).1.2.1 y ⟨hk0,hy⟩)
         simp [c2,show 0≤cmpN y.name x.name by omega,this]
    ·have : ¬ mayI ns (dv.map NdV.nd):=λhm=>a1 (hstep hm).1.1
     simp [c2,a1,this]
   ·have e1 : ns.take k=ns:=List.take_of_length_le (by omega)
    have e2 : dv.take k=dv:=List.take_of_length_le (by omega);rw [e1,e2] at hok;have : mayI ns (dv.map NdV.nd):=mayI_doc.2 ⟨h16,by simp [hlen],hok⟩;simp [c0,ha.len,show ¬ k < ns.length by omega,this]
  ·have : ¬ mayI ns (dv.map NdV.nd):=λh=>hlen (by simpa using h.2.1)
   have hlI : ¬ ((ns.length : Int)=dv.length):=by omega
   simp [e16,hlI,ha.len,hbv.len,this]
 ·have : ¬ mayI ns (dv.map NdV.nd):=λh=>h16 h.1.1
  have e16 : (16 : Int) < ns.length:=by omega
  simp [e16,this]))
end Go.Proofs.YtlhiaihmkjlaaaaGreat.Av
end
section
namespace Go.Proofs.YtlhiaihmkjlaaaaGreat.Av
open Go Go.RowKit
def cS (o : Option Cont) : Int:=(o.getD (0,[])).1
def cL (o : Option Cont) : List Ext:=(o.getD (0,[])).2
theorem noIdss_exts (l : List Ext) : zdcZ (l.flatMap encE)=true:=zipZ λx _=>zpaZ x
def ContK (res : Option Cont) (r : AV) (X : AH) : Prop:=∃ w,r = .tup [.agg [I (cS res),w],B res.isSome]∧zaZ X 9 w=some ((cL res).flatMap encE,(cL res).length)
theorem ContK.none {res : Option Cont} (h : res=none) {X : AH} : ContK res (.tup [.agg [I 0,nilSl],B false]) X:=by
 subst h; exact ⟨_,rfl,rfl⟩
theorem ContK.some {res : Option Cont} {s : Int} {l : List Ext} (h : res=some (s,l)) {X : AH} {w : AV} (hw : zaZ X 9 w=some (l.flatMap encE,l.length)) : ContK res (.tup [.agg [I s,w],B true]) X:=by
 subst h; exact ⟨_,rfl,hw⟩
theorem BPure.cont {P : Program} {f : FuncId} {args : List AV} {res : Option Cont} (hb : zdcZ args=true) (h : ∃ r X,ContK res r X∧BCall P f args [] r X) :
  ∃ R,SV encE 9 (cL res) R∧BPure P f args (.tup [.agg [I (cS res),R],B res.isSome]):=by
 obtain ⟨r,X,⟨w,rfl,hw⟩,h⟩:=h;obtain ⟨R,hR,fR⟩:=FZ.sv hw (noIdss_exts _);obtain ⟨R',⟨rfl,_⟩,h2⟩:=BPure.FZ (Q:=λR'=>R' = .tup [.agg [I (cS res),R],B res.isSome]∧True) hb ⟨_,X,⟨_,FZ.tup (FZs.cons (FZ.agg (FZs.cons (FZ.lit _) (FZs.cons fR FZs.nil))) (FZs.cons (FZ.lit _) FZs.nil)),rfl,trivial⟩,h⟩;exact ⟨R,hR,h2⟩
theorem encE_put {x : Ext} {k : Nat} {bs : List UInt8} (h : k + bs.length≤8) : encE (putE x k bs)=over (encE x) (1 + k) (encB bs):=by
 have e : over (encE x) (1 + k) (encB bs)=I x.no :: over (encB x.b) k (encB bs):=by
  unfold over encE;rw [Nat.add_comm 1 k,List.take_succ_cons,show k + 1 + (encB bs).length=(k + (encB bs).length) + 1 by omega,List.drop_succ_cons];rfl
 rw [e,over_encB];unfold encE;rw [putE_no,putE_b h]
theorem sl_copy {H : AH} {w s : AV} {l : List Ext} {bs : List UInt8} {x : Ext} {i k m : Nat} {a b : Int} (hw : zaZ H 9 w=some (l.flatMap encE,l.length)) (ho : zjsZ w=true) (hx : l[i]? = some x) (hs : zaZ H 1 s=some (encB bs,m)) (hk : k + bs.length≤8) (ha : a=i) (hb : b=k) :
  ∃ p q d H',aixS 9 w (I a)=some p∧zhZ 1 p=some q∧aslA 8 1 H q (some (I b)) none=some d∧acp 1 H d s=some (I bs.length,H')∧H'.length=H.length∧(∀ j,j ∉ idS w→H'[j]? = H[j]?)∧zaZ H' 9 w=some ((l.set i (putE x k bs)).flatMap encE,l.length):=by
 subst ha; subst hb;have hi:=(gSI.1 hx).1;obtain ⟨o,off,cap,cells,rfl,h1,h2,h3⟩:=zbabZ hw ho (by omega);have hol:=(gSI.1 h1).1;have hm : m=bs.length:=by have:=zcvZ hs; rw [zjeZ] at this; omega
 subst hm;have hmul : i * 9 + 9≤l.length * 9:=by rw [← Nat.succ_mul]; exact Nat.mul_le_mul_right _ hi
 have e1 : min bs.length (8 - k)=bs.length:=by omega
 refine ⟨.ptr o (off + i * 9),.ptr o (off + i * 9 + 1),.sl o (off + i * 9 + 1 + k) (8 - k) 1 (.ex (8 - k)),H.set o (some (.cells (over cells (off + (i * 9 + (1 + k))) (encB bs)))), ?_,rfl, ?_, ?_,by simp,λj hj=>gSN (by simp [idS] at hj; omega), ?_⟩
 ·simp only [aixS,aint]
  rw [if_pos ⟨by omega,by omega⟩]; simp
 ·simp [aslA,abnd,h1]; omega
 ·unfold acp acp0
  rw [znZ hs];simp only [h1];rw [if_pos ⟨trivial,by omega⟩,e1,Nat.mul_one,List.take_of_length_le (by rw [zjeZ]; omega)];simp only [show off + i * 9 + 1 + k=off + (i * 9 + (1 + k)) by omega]
 ·rw [zbuZ (c:=over cells (off + (i * 9 + (1 + k))) (encB bs)) (by simp [hol]) (by rw [zzkZ (by rw [zjeZ]; omega)]; exact h2)]
  rw [zbfwZ h2 (by rw [zjeZ]; omega),← h3,zbfzZ zbmZ hx (encE_put hk) (by rw [zjeZ]; omega)]
theorem extent_Fits_p (pos : Int) (n : Nat) (hn : n≤281474976710656) : BPure Tryz.prog 65 [I pos,I n] (B (decide (0≤pos∧n≤4096∧pos≤1099511627776 - n))):=BPure.flat λH=>extent_Fits_ok (by
 unfold extent_Fits
 by_cases h1 : 0≤pos
 ·by_cases h2 : n≤4096
  ·have : (n : Int)≤4096:=by omega
   simp [h1,h2,this,zfpZ (a:=1099511627776) (b:=n) (by omega) (by omega)]
  ·have : ¬ (n : Int)≤4096:=by omega
   simp [h1,h2,this]
 ·simp [h1])
theorem zbevZ {size : Int} {l : List Ext} {v bv : AV} {bs : List UInt8} (hv : SV encE 9 l v) (hl : l.length≤1000000) (pos : Int) (hb : SV encU 1 bs bv) (hbl : bs.length≤281474976710656) :
  ∃ R,SV encE 9 (cL (ztsZ (size,l) pos bs)) R∧BPure Tryz.prog 36 [.agg [I size,v],I pos,bv] (.tup [.agg [I (cS (ztsZ (size,l) pos bs)),R],B (ztsZ (size,l) pos bs).isSome]):=by
 refine BPure.cont (by simp [zdcZ,noIds,hv.1,hb.1]) (extent_Write_ok ?_);unfold extent_Write;simp [znnZ hv,ztZ];refine zyZ (zjjZ hv (by omega)) ?_
 by_cases h1 : mayC size l
 ·simp [h1,hb.len]
  refine zyZ (extent_Fits_p pos bs.length hbl) ?_
  by_cases h2 : 0≤pos∧bs.length≤4096∧pos≤1099511627776 - bs.length
  ·have hw : ztsZ (size,l) pos bs=some (if bs=[] then (size,l) else (max size (pos + bs.length),ztdZ l pos bs)):=if_pos ⟨h1,h2⟩
   obtain ⟨g1,g2,g3⟩:=h2;simp [g1,g2,g3];obtain ⟨r,H2,⟨w,rfl,a2,a3,a4,a5⟩,a1⟩:=copied_c (size:=size) (hv.2 [some (.cells [I size,v]),some (.cells [I 0,nilSl])]) (znnZ hv) (by omega);refine bC_of a1 ?_;have c0:=a4.cells (o:=0) (x:=some (.cells [I size,v])) rfl;have c1:=a4.cells (o:=1) (x:=some (.cells [I 0,nilSl])) rfl;have hl2:=a4.1;simp only [List.length_cons,List.length_nil] at hl2;have hwo:=zbiZ a2;have id0 : ∀ j,j < 2→j ∉ idS w:=λj hj h=>by have:=a5 j h; simp at this; omega
   rw [zcoZ (n:=2) (off:=0) (x:=.agg [I size,w]) (xs:=[I size,w]) (by simp [hwo]) c0 rfl (by simp)];simp
   by_cases hbs : bs=[]
   ·subst hbs
    simp [show 0 < H2.length by omega];rw [zcoZ (n:=2) (off:=0) (x:=.agg [I size,w]) (xs:=[I size,w]) (cs:=[I 0,nilSl]) (by simp [hwo]) (by rw [gSN (by omega)]; exact c1) rfl (by simp)];simp [show 1 < H2.length by omega]
    exact ContK.some hw (zcZ a3 λi hi=>by
     have h2 : 2≤i:=Nat.le_of_not_lt λh=>id0 i h hi
     rw [gSN (by omega),gSN (by omega)])
   ·have hlen : 0 < bs.length:=List.length_pos_iff.2 hbs
    rw [if_neg hbs] at hw;simp [hbs];obtain ⟨pv,hpv,pq⟩:=off_Parts_p ⟨pos,bs.length⟩ (unit:=8) (by omega);refine zyZ pq ?_;have hP : zbfhZ ⟨pos,bs.length⟩ 8=cutsS bs.length pos bs.length 8:=if_pos ⟨by simp only [MaySpan,May]; omega,by simp only; omega,by omega⟩;generalize zbfhZ ⟨pos,(bs.length : Int)⟩ 8=parts at hpv hP;simp [hpv.len];have hs0:=zbfgZ h1.2.2;refine zbasZ (λn x1 x2 x3 x6 x33 x34 x35 H=>∃ (j d : Nat) (w : AV),j + n=parts.length∧x1=I pos∧x2=bv∧x3 = .ptr 0 0∧x6 = .ptr 1 0∧x33=pv∧x34=I parts.length∧x35=I j∧H[0]? = some (some (.cells [I size,w]))∧H[1]? = some (some (.cells [I 0,nilSl])) ∧
     zaZ H 9 w=some ((ztdZ l pos (bs.take d)).flatMap encE,(ztdZ l pos (bs.take d)).length)∧zjsZ w=true∧(∀ j,j < 2→j ∉ idS w)∧d≤bs.length∧parts.drop j=cutsS (bs.length - d) (pos + d) (bs.length - d : Nat) 8∧j≤d) ?_ parts.length
     ⟨0,0,w,by simp,rfl,rfl,rfl,rfl,rfl,rfl,rfl,gSS (by omega),(gSN (by omega)).trans c1, ?_,a2,id0,by omega,by simpa using hP,by omega⟩
    ·rintro n x1 x2 x3 x6 x33 x34 x35 H R hR ⟨j,d,w,hj,rfl,rfl,rfl,rfl,rfl,rfl,rfl,k0,k1,kw,ko,kid,kd,kp,kj⟩
     unfold zwbZ
     by_cases hd : d < bs.length
     ·rw [cutsS_step (by omega) (by omega) (by omega) (by omega)] at kp
      obtain ⟨m,hm⟩ : ∃ m : Nat,(m : Int)=min ((bs.length - d : Nat) : Int) (8 - (pos + d) % 8):=⟨(min ((bs.length - d : Nat) : Int) (8 - (pos + d) % 8)).toNat,by omega⟩;rw [← hm] at kp
      have hpj : parts[j]? = some ⟨pos + d,m⟩:=by
       have:=congrArg (λq=>q[0]?) kp
       simpa using this
      have hjl:=(gSI.1 hpj).1;simp [hjl,hpv.idx zbfuZ hpj rfl,encSp,ztZ,ast,zbgjZ (a:=pos + d) (b:=8) (by omega) (by omega) (by omega)];have g:=Grew.app H [some (.cells [I (pos + d),I m])];have hlL:=wr_len (bs:=bs.take d) (l:=l) (p:=pos);have htl : (bs.take d).length=d:=by rw [List.length_take]; omega
      have hws:=wr_srt (bs:=bs.take d) hs0 pos;generalize hL : ztdZ l pos (bs.take d)=L at kw hlL hws;have hH0:=(gSI.1 k0).1;have hH1:=(gSI.1 k1).1;obtain ⟨H11,⟨w',q1,q2,q3,q4,q5,q6,q7⟩,q8⟩:=zbedZ (no:=(pos + d) / 8) (g.cells k0) (g.slice kw) ko (kid 0 (by omega)) hws (by omega);refine bC_of q8 ?_;have hid' : ∀ i,i < H.length→i ∉ idS w→i ∉ idS w':=λi h1 h2 h3=>(q7 i h3).elim h2 (λh=>by simp at h; omega)
      have z1 : H11[1]? = some (some (.cells [I 0,nilSl])):=by
       rw [q6 1 (by simp; omega) (by omega) (kid 1 (by omega))]; exact g.cells k1
      have z2 : H11[H.length]? = some (some (.cells [I (pos + d),I m])):=by
       rw [q6 H.length (by simp) (by omega) (λh=>by have:=zrZ kw _ h; omega)]; simp
      obtain ⟨x,hx,hxn⟩:=need_get hws ((pos + d) / 8);obtain ⟨r24,s1,s2,-,-,s3⟩:=zrvZ (H:=H11) (hb.bytes H11) (lo:=some (I d)) (hi:=none) (l:=d) (k:=bs.length) (by simp [abnd]) rfl kd (Nat.le_refl _);obtain ⟨r27,t1,t2,-,-,-⟩:=zrvZ (H:=H11) s2 (lo:=none) (hi:=some (I m)) (l:=0) (k:=m) rfl (by simp [abnd]) (by omega) (by omega)
      have t3 : zaZ H11 1 r27=some (encB ((bs.drop d).take m),m):=by
       rw [t2];simp [zbgcZ,encB_drop];rw [List.take_of_length_le (l:=bs.drop d) (by simp)]
      have hbl2 : ((bs.drop d).take m).length=m:=by rw [List.length_take,List.length_drop]; omega
      obtain ⟨p,q,dd,H29,u1,u2,u3,u4,u5,u6,u7⟩:=sl_copy (a:=posL L ((pos + d) / 8)) (b:=pos + d - (pos + d) / 8 * 8) (k:=((pos + d) % 8).toNat) q2 q3 hx t3 (by omega) rfl (by omega);rw [hbl2] at u4;simp [q1,z2,u1,u2,zshZ (a:=(pos + d) / 8) (b:=8) (by omega) (by omega),zfpZ (a:=pos + d) (b:=(pos + d) / 8 * 8) (by omega) (by omega),u3,zfpZ (a:=pos + d) (b:=pos) (by omega) (by omega),show pos + (d : Int) - pos=d by omega,s1,t1,u4,zbdZ (a:=j) (b:=1) (by omega) (by omega)];rw [put_set (zbbjZ hws _) hx,hxn] at u7
      have hnp : putL (needL L ((pos + d) / 8)) ((pos + d) / 8) ((pos + d) % 8).toNat ((bs.drop d).take m)=ztdZ l pos (bs.take (d + m)):=by
       show zspZ L (pos + d) _=_
       rw [wr_one hws (by omega) (λh=>by rw [h] at hbl2; simp at hbl2; omega),← hL,List.take_add,wr_app,htl]
      rw [hnp] at u7;have hll : (needL L ((pos + d) / 8)).length=(ztdZ l pos (bs.take (d + m))).length:=by rw [← hnp]; simp [putL]
      rw [hll] at u7;refine hR (n - 1) _ _ _ _ _ _ _ _ (by omega) ⟨j + 1,d + m,w',by omega,rfl,rfl,rfl,rfl,rfl,rfl,rfl, ?_, ?_,u7,q3,λi hi=>hid' i (by omega) (kid i hi),by omega, ?_,by omega⟩
      ·rw [u6 0 (hid' 0 (by omega) (kid 0 (by omega)))]; exact q1
      ·rw [u6 1 (hid' 1 (by omega) (kid 1 (by omega)))]; exact z1
      ·have:=congrArg List.tail kp
       rw [List.tail_drop] at this;rw [this,List.tail_cons,show pos + (d : Int) + m=pos + ((d + m : Nat) : Int) by omega,show ((bs.length - d : Nat) : Int) - m=((bs.length - (d + m) : Nat) : Int) by omega];rfl
     ·have hd' : d=bs.length:=by omega
      subst hd';rw [cutsS_stop (by omega)] at kp
      have hjl : ¬ j < parts.length:=λh=>by
       have:=congrArg List.length kp
       rw [List.length_drop] at this; simp at this; omega
      rw [List.take_length] at kw;have hH0:=(gSI.1 k0).1;have hH1:=(gSI.1 k1).1;have hko:=zbiZ ko;have hmx : max (pos + (bs.length : Int)) size=max size (pos + bs.length):=by omega
      simp [hjl,k0,hb.len,zbdZ (a:=pos) (b:=bs.length) (by omega) (by omega),hmx];rw [zcoZ (n:=1) (off:=0) (xs:=[I (max size (pos + bs.length))]) (cs:=[I size,w]) rfl k0 rfl (by simp)];simp [hH0,ztZ];rw [zcoZ (n:=2) (off:=0) (xs:=[I (max size (pos + bs.length)),w]) (cs:=[I 0,nilSl]) (by simp [hko]) ((gSN (by omega)).trans k1) rfl (by simp)];simp [hH1]
      exact ContK.some hw (zcZ kw λi hi=>by
       have h2 : 2≤i:=Nat.le_of_not_lt λh=>kid i h hi
       rw [gSN (by omega),gSN (by omega)])
    ·simp only [List.take_zero,ztdZ]
     exact zcZ a3 λi hi=>by
      have h2 : 2≤i:=Nat.le_of_not_lt λh=>id0 i h hi
      rw [gSN (by omega)]
  ·have hn : ztsZ (size,l) pos bs=none:=if_neg (λh=>h2 h.2)
   have h2' : ¬ (0≤pos∧bs.length≤4096∧pos≤1099511627776 - bs.length):=h2;simp [h2',ast];exact ContK.none hn
 ·have hn : ztsZ (size,l) pos bs=none:=if_neg (λh=>h1 h.1)
  simp [h1,ast];exact ContK.none hn
theorem sl_no {H : AH} {w : AV} {l : List Ext} {n k : Nat} {a : Int} {x : Ext} (hw : zaZ H 9 w=some (l.flatMap encE,n)) (hx : l[k]? = some x) (ha : a=k) :
  ∃ p q,aixS 9 w (I a)=some p∧zhZ 0 p=some q∧ald false 1 H q=some (I x.no)∧ald true 9 H p=some (.agg (encE x)):=by
 have hk:=(gSI.1 hx).1;have hn : n=l.length:=by have h1:=zcvZ hw; have h2:=flatMap_len zbmZ l; omega
 obtain ⟨p,c,h1,h2,h3,h4⟩:=aixS_spec hw ha (show k < n by omega);obtain ⟨q,h5,h6⟩:=ashift_at (k:=0) h2
 have hc : c.take 9=encE x:=by
  rw [h3,zlzZ zbmZ hx,List.take_append_of_le_length (by rw [zbmZ]; omega),List.take_of_length_le (by rw [zbmZ]; omega)]
 refine ⟨p,q,h1,h5, ?_, ?_⟩
 ·rw [ald_at h6 (by omega) (by simp; omega),zdZ]
  have:=congrArg (λl=>l[0]?) hc
  simp only [List.drop_zero] at this ⊢;rw [List.getElem?_take_of_lt (by omega)] at this;exact this
 ·rw [ald_at h2 (by omega) h4,rdCells_agg (by omega),List.drop_zero,hc]
theorem sl_byte {H : AH} {w : AV} {l : List Ext} {y : UInt8} {x : Ext} {i k : Nat} {a b : Int} (hw : zaZ H 9 w=some (l.flatMap encE,l.length)) (ho : zjsZ w=true) (hx : l[i]? = some x) (hk : k < 8) (ha : a=i) (hb : b=k) :
  ∃ p q d H',aixS 9 w (I a)=some p∧zhZ 1 p=some q∧aixA 8 1 q (I b)=some d∧ast 1 H d (.lit (.int .u8 y.toNat))=some H'∧H'.length=H.length∧(∀ j,j ∉ idS w→H'[j]? = H[j]?)∧zaZ H' 9 w=some ((l.set i (putE x k [y])).flatMap encE,l.length):=by
 subst ha; subst hb;have hi:=(gSI.1 hx).1;obtain ⟨o,off,cap,cells,rfl,h1,h2,h3⟩:=zbabZ hw ho (by omega);have hol:=(gSI.1 h1).1;have hmul : i * 9 + 9≤l.length * 9:=by rw [← Nat.succ_mul]; exact Nat.mul_le_mul_right _ hi
 refine ⟨.ptr o (off + i * 9),.ptr o (off + i * 9 + 1),.ptr o (off + (i * 9 + (1 + k))),H.set o (some (.cells (over cells (off + (i * 9 + (1 + k))) (encB [y])))), ?_,rfl, ?_, ?_,by simp,λj hj=>gSN (by simp [idS] at hj; omega), ?_⟩
 ·simp only [aixS,aint]
  rw [if_pos ⟨by omega,by omega⟩]; simp
 ·simp only [aixA,aint]
  rw [if_pos ⟨by omega,by omega⟩];simp only [zeZ,Int.toNat_natCast,Nat.mul_one];rw [show off + i * 9 + 1 + k=off + (i * 9 + (1 + k)) by omega]
 ·rw [zcoZ (n:=1) (off:=off + (i * 9 + (1 + k))) (xs:=encB [y]) rfl h1 rfl (by omega),zujZ _ _ _ (by rw [zjeZ]; simp; omega)]; rfl
 ·rw [zbuZ (c:=over cells (off + (i * 9 + (1 + k))) (encB [y])) (by simp [hol]) (by rw [zzkZ (by rw [zjeZ]; simp; omega)]; exact h2)]
  rw [zbfwZ h2 (by rw [zjeZ]; simp; omega),← h3,zbfzZ zbmZ hx (encE_put (by simp; omega)) (by rw [zjeZ]; simp; omega)]
theorem zbdvZ {H : AH} {size : Int} {v : AV} {cs : List AV} {n : Nat} (h : zaZ H 9 v=some (cs,n)) (h1 : oneA v=true) (hn : n≤1000000000) :
  ∃ r H',(∃ w,r = .agg [I size,w]∧zjsZ w=true∧zaZ H' 9 w=some (cs,n)∧Grew H H'∧∀ i ∈ idS w,H.length≤i)∧BCall Tryz.prog 171 [.agg [I size,v]] H r H':=zbaeZ (by
 unfold zvjZ;have g:=Grew.app H [some (.cells [I size,v]),some (.cells [I 0,nilSl])];obtain ⟨w,H2,a1,a2,a3,a4,a5,a6⟩:=zjmZ (sz:=9) (bytes:=16) (H:=H ++ [some (.cells [I size,v]),some (.cells [I 0,nilSl])]) (v:=nilSl) (cs:=[]) (n:=0) rfl rfl (znZ (g.slice h)) (by omega);have g2 : Grew (H ++ [some (.cells [I size,v]),some (.cells [I 0,nilSl])]) H2:=⟨a4,λi hi=>a5 i hi (by simp [idS])⟩;have c0:=g2.cells (o:=H.length) (x:=some (.cells [I size,v])) (by simp);have c1:=g2.cells (o:=H.length + 1) (x:=some (.cells [I 0,nilSl])) (by rw [List.getElem?_append_right (by omega)]; simp);have l2 : H.length + 2≤H2.length:=by simpa using a4
 have hw:=zbiZ a2;have a6' : ∀ i ∈ idS w,H.length + 2≤i:=λi hi=>(a6 i hi).elim (by simp [idS]) (λh=>by simpa using h)
 simp [h1,a1,zbsZ hw];rw [zcoZ (n:=2) (off:=0) (x:=.agg [I size,w]) (xs:=[I size,w]) (cs:=[I 0,nilSl]) (by simp [hw]) c1 rfl (by simp)];simp [show H.length + 1 < H2.length by omega,c0,ztZ];refine ⟨a2,by simpa using (zcZ a3 λi hi=>gSN (by have:=a6' i hi; omega)), ?_,λi hi=>?_⟩
 ·refine ⟨by simp; omega,λi hi=>?_⟩
  rw [gSN (by omega),g2.2 i (by simp; omega),g.2 i hi]
 ·have:=a6' i hi; omega)
theorem ref_need_c' {H : AH} {oc : Nat} {size no : Int} {v : AV} {l : List Ext} (hc : H[oc]? = some (some (.cells [I size,v]))) (hv : zaZ H 9 v=some (l.flatMap encE,l.length)) (ho : zjsZ v=true) (hne : oc ∉ idS v) (hs : srt l) (hl : l.length≤100000000) :
    ∃ H',ContP H oc size v (needL l no) H'∧BCall Tryz.prog 172 [.ptr oc 0,I no] H (I (posL l no)) H':=by
  have key : ∃ r H',(r=I (posL l no)∧ContP H oc size v (needL l no) H')∧BCall Tryz.prog 172 [.ptr oc 0,I no] H r H':=zbdaZ (by
    unfold zzxZ;have hol:=(gSI.1 hc).1;refine zwmZ (λn x0 x1 x5 H'=>∃ k : Nat,k + n=l.length∧x0 = .ptr oc 0∧x1=I no∧x5=I k∧H'=H∧∀ m x,m < k→l[m]? = some x→x.no < no) ?_ l.length ⟨0,by simp,rfl,rfl,rfl,rfl,by simp⟩;rintro n x0 x1 x5 H' R hR ⟨k,hk,rfl,rfl,rfl,hHe,hm⟩
    replace hHe:=hHe.symm
    subst hHe;unfold zpgZ
    have hcase : (∃ y,l[k]? = some y∧y.no < no)∨(∃ y,l[k]? = some y∧y.no=no)∨(∃ y,l[k]? = some y∧no < y.no)∨k=l.length:=by
      rcases Nat.lt_or_ge k l.length with h | h
      · have hx:=gEG h;rcases Int.lt_trichotomy (l[k]).no no with c | c | c
        · exact .inl ⟨_,hx,c⟩
        · exact .inr (.inl ⟨_,hx,c⟩)
        · exact .inr (.inr (.inl ⟨_,hx,c⟩))
      · exact .inr (.inr (.inr (by omega)))
    have hlen:=zhxZ hv;rcases hcase with ⟨y,hy,c⟩ | ⟨y,hy,c⟩ | h3 | h3
    · obtain ⟨p,q,e1,e2,e3,-⟩:=sl_no (a:=k) hv hy rfl;have hkl:=(gSI.1 hy).1;simp [hc,hlen,hkl,e1,e2,e3,c,-zhpZ,zlZ hc];simp [zbdZ (a:=k) (b:=1) (by omega) (by omega)];refine hR (n - 1) _ _ _ _ (by omega) ⟨k + 1,by omega,rfl,rfl,rfl,rfl,λm x hmk hx=>?_⟩
      by_cases h : m=k
      · subst h; rw [hy] at hx; injection hx with hx; rw [← hx]; exact c
      · exact hm m x (by omega) hx
    · obtain ⟨p,q,e1,e2,e3,-⟩:=sl_no (a:=k) hv hy rfl;have hkl:=(gSI.1 hy).1;have hh : hasL l no:=⟨y,List.mem_of_getElem? hy,c⟩;have hp : posL l no=k:=by rw [← c]; exact posL_at hs hy
      have e : needL l no=l:=if_pos hh;simp [hc,hlen,hkl,e1,e2,e3,c,-zhpZ,zlZ hc];rw [hp,e];exact ⟨rfl,v,hc,hv,ho,hne,Nat.le_refl _,λ_ _ _ _=>rfl,λi hi=>.inl hi⟩
    all_goals
      have h : (∃ y,l[k]? = some y∧no < y.no)∨k=l.length:=by first | exact .inl h3 | exact .inr h3
      have hp : posL l no=k:=by
        rcases h with ⟨y,hy,c⟩ | h
        · exact posL_eq (by omega) hm (λx hx=>by rw [hy] at hx; injection hx with hx; rw [← hx]; omega)
        · exact posL_eq (by omega) hm (λx hx=>by have:=(gSI.1 hx).1; omega)
      have hh : ¬ hasL l no:=by
        rw [hasL_iff hs,hp];rintro ⟨z,hz,e⟩;rcases h with ⟨y,hy,c⟩ | h
        · rw [hy] at hz; injection hz with hz; rw [hz] at c; omega
        · have:=(gSI.1 hz).1; omega
      have e : needL l no=l.take k ++ newE no :: l.drop k:=by rw [← hp]; exact if_neg hh
      obtain ⟨r1,f1,f2,f3,f4,-⟩:=zrvZ hv (lo:=none) (hi:=some (I k)) (l:=0) (k:=k) rfl (by simp [abnd]) (by omega) (by omega);simp only [Nat.zero_mul,List.drop_zero,Nat.sub_zero,zttZ zbmZ] at f2;obtain ⟨r2,H2,a1,a2,a3,a4,a5,a6⟩:=zjmZ (sz:=9) (bytes:=16) (H:=H) (v:=nilSl) (cs:=[]) (n:=0) rfl rfl (znZ f2) (by omega);have g2 : Grew H H2:=⟨a4,λi hi=>a5 i hi (by simp [idS])⟩;have g3:=Grew.app H2 [some (.cells (encE (newE no)))];obtain ⟨r3,H3,b1,b2,b3,b4,b5,b6⟩:=zjmZ (sz:=9) (bytes:=16) (g3.slice a3) a2 (znZ (v:=.sl H2.length 0 1 9 (.ex 1)) (q:=(encE (newE no),1)) (by simp [zaZ,zbmZ,List.take_of_length_le])) (by omega);have hid2 : ∀ i ∈ idS r2,H.length≤i:=λi hi=>(a6 i hi).elim (by simp [idS]) id
      have g4 : ∀ i,i < H.length→H3[i]? = H[i]?:=λi hi=>by
        rw [b5 i (by simp; omega) (λh=>by have:=hid2 i h; omega),g3.2 i (by omega),g2.2 i hi]
      have c3 : H3[oc]? = some (some (.cells [I size,v])):=by rw [g4 oc hol]; exact hc
      have hv3 : zaZ H3 9 v=some (l.flatMap encE,l.length):=zcZ hv λi hi=>g4 i (zrZ hv i hi)
      obtain ⟨r4,d1,d2,d3,d4,-⟩:=zrvZ hv3 (lo:=some (I k)) (hi:=none) (l:=k) (k:=l.length) (by simp [abnd]) rfl (by omega) (by omega);rw [zseZ zbmZ,List.take_of_length_le (by rw [flatMap_len zbmZ,List.length_drop]; omega)] at d2;obtain ⟨r5,H5,j1,j2,j3,j4,j5,j6⟩:=zjmZ (sz:=9) (bytes:=16) b3 b2 (znZ d2) (by omega);have hid3 : ∀ i ∈ idS r3,H.length≤i:=λi hi=>(b6 i hi).elim (hid2 i) (λh=>by simp at h; omega)
      have hid5 : ∀ i ∈ idS r5,H.length≤i:=λi hi=>(j6 i hi).elim (hid3 i) (λh=>by simp at b4; omega)
      have g5 : ∀ i,i < H.length→H5[i]? = H[i]?:=λi hi=>by
        rw [j5 i (by simp at b4; omega) (λh=>by have:=hid3 i h; omega),g4 i hi]
      have c5 : H5[oc]? = some (some (.cells [I size,v])):=by rw [g5 oc hol]; exact hc
      have hol5:=(gSI.1 c5).1;have hle : H.length≤H5.length:=by simp at b4; omega
      rw [encE_new] at b1
      first
        | (obtain ⟨y,hy,c⟩:=h3
           obtain ⟨p,q,e1,e2,e3,-⟩:=sl_no (a:=k) hv hy rfl;have hkl:=(gSI.1 hy).1;simp [hlen,hkl,e1,e2,e3,show ¬ y.no < no by omega,show ¬ y.no=no by omega,-zhpZ,zlZ hc])
        | (have hkl : ¬ k < l.length:=by omega
           simp [hlen,hkl,-zhpZ,zlZ hc])
      simp [f1,a1,-zhpZ];simp [b1,zlZ c3,d1,j1,-zhpZ];rw [zcoZ (n:=1) (off:=1) (xs:=[r5]) (cs:=[I size,v]) (zbsZ (zbiZ j2)) c5 rfl (by simp)];simp;have hoc : oc ∉ idS r5:=λh=>by have:=hid5 oc h; omega
      refine ⟨by rw [hp],r5,by simp [hol5], ?_,j2,hoc,by simp; omega,λi hi h1 h2=>?_,λi hi=>.inr (hid5 i hi)⟩
      · rw [zcZ j3 (λi hi=>gSN (fun (h : oc=i) => hoc (h ▸ hi))),e];simp [List.flatMap_append];omega
      · rw [gSN (by omega),g5 i hi])
  obtain ⟨r,H',⟨rfl,h1⟩,h2⟩:=key;exact ⟨H',h1,h2⟩
theorem zwfZ {size : Int} {l : List Ext} {v bv : AV} {bs : List UInt8} (hv : SV encE 9 l v) (hl : l.length≤1000000) (pos : Int) (hb : SV encU 1 bs bv) (hbl : bs.length≤281474976710656) :
  ∃ R,SV encE 9 (cL (ztsZ (size,l) pos bs)) R∧BPure Tryz.prog 130 [.agg [I size,v],I pos,bv] (.tup [.agg [I (cS (ztsZ (size,l) pos bs)),R],B (ztsZ (size,l) pos bs).isSome]):=by
 refine BPure.cont (by simp [zdcZ,noIds,hv.1,hb.1]) (zryZ ?_);unfold zlxZ;simp [znnZ hv,ztZ];refine zyZ (zdoZ hv (by omega)) ?_
 by_cases h1 : mayC size l
 ·by_cases h0 : pos < 0
  ·have hn : ztsZ (size,l) pos bs=none:=if_neg (λh=>by omega)
   simp [h1,h0,ast];exact ContK.none hn
  ·by_cases h2 : 4096 < bs.length
   ·have hn : ztsZ (size,l) pos bs=none:=if_neg (λh=>by omega)
    simp [h1,h0,hb.len,show (4096 : Int) < bs.length by omega,ast];exact ContK.none hn
   ·simp [h1,h0,hb.len,show ¬ (4096 : Int) < bs.length by omega,zfpZ (a:=1099511627776) (b:=bs.length) (by omega) (by omega)]
    by_cases h3 : 1099511627776 - (bs.length : Int) < pos
    ·have hn : ztsZ (size,l) pos bs=none:=if_neg (λh=>by omega)
     simp [h3,ast];exact ContK.none hn
    ·have hw : ztsZ (size,l) pos bs=some (if bs=[] then (size,l) else (max size (pos + bs.length),ztdZ l pos bs)):=if_pos ⟨h1,by omega,by omega,by omega⟩
     simp [h3];obtain ⟨r,H2,⟨w,rfl,a2,a3,a4,a5⟩,a1⟩:=zbdvZ (size:=size) (hv.2 [some (.cells [I size,v]),some (.cells [I 0,nilSl])]) (znnZ hv) (by omega);refine bC_of a1 ?_;have c0:=a4.cells (o:=0) (x:=some (.cells [I size,v])) rfl;have c1:=a4.cells (o:=1) (x:=some (.cells [I 0,nilSl])) rfl;have hl2:=a4.1;simp only [List.length_cons,List.length_nil] at hl2;have hwo:=zbiZ a2;have id0 : ∀ j,j < 2→j ∉ idS w:=λj hj h=>by have:=a5 j h; simp at this; omega
     rw [zcoZ (n:=2) (off:=0) (x:=.agg [I size,w]) (xs:=[I size,w]) (by simp [hwo]) c0 rfl (by simp)];simp;have hs0:=zbfgZ h1.2.2;refine znfZ (λn x1 x2 x3 x6 x8 H=>∃ (d : Nat) (w : AV),d + n=bs.length∧x1=I pos∧x2=bv∧x3 = .ptr 0 0∧x6 = .ptr 1 0∧x8=I d∧H[0]? = some (some (.cells [I size,w]))∧H[1]? = some (some (.cells [I 0,nilSl])) ∧
      zaZ H 9 w=some ((ztdZ l pos (bs.take d)).flatMap encE,(ztdZ l pos (bs.take d)).length)∧zjsZ w=true∧(∀ j,j < 2→j ∉ idS w)) ?_ bs.length
      ⟨0,w,by simp,rfl,rfl,rfl,rfl,rfl,gSS (by omega),(gSN (by omega)).trans c1, ?_,a2,id0⟩
     ·rintro n x1 x2 x3 x6 x8 H R hR ⟨d,w,hdn,rfl,rfl,rfl,rfl,rfl,k0,k1,kw,ko,kid⟩
      unfold zhaZ
      by_cases hd : d < bs.length
      ·have hlL:=wr_len (bs:=bs.take d) (l:=l) (p:=pos)
       have htl : (bs.take d).length=d:=by rw [List.length_take]; omega
       have hws:=wr_srt (bs:=bs.take d) hs0 pos;generalize hL : ztdZ l pos (bs.take d)=L at kw hlL hws;have hy:=gEG hd;generalize bs[d]=y at hy;simp [hb.len,hd,zbdZ (a:=pos) (b:=d) (by omega) (by omega),zbgjZ (a:=pos + d) (b:=8) (by omega) (by omega) (by omega)];obtain ⟨H11,⟨w',q1,q2,q3,q4,q5,q6,q7⟩,q8⟩:=ref_need_c' (no:=(pos + d) / 8) k0 kw ko (kid 0 (by omega)) hws (by omega);refine bC_of q8 ?_;have hH0:=(gSI.1 k0).1;have hH1:=(gSI.1 k1).1;have hid' : ∀ i,i < H.length→i ∉ idS w→i ∉ idS w':=λi h1 h2 h3=>(q7 i h3).elim h2 (λh=>by omega)
       have z1 : H11[1]? = some (some (.cells [I 0,nilSl])):=by
        rw [q6 1 hH1 (by omega) (kid 1 (by omega))]; exact k1
       obtain ⟨x,hx,hxn⟩:=need_get hws ((pos + d) / 8);obtain ⟨p,q,dd,H29,u1,u2,u3,u4,u5,u6,u7⟩:=sl_byte (y:=y) (a:=posL L ((pos + d) / 8)) (b:=(pos + d) % 8) (k:=((pos + d) % 8).toNat) q2 q3 hx (by omega) rfl (by omega);obtain ⟨p2,s1,-,s2⟩:=aix_byte (H:=H11) (hb.bytes H11) (i:=d) (k:=d) rfl hy;simp [q1,abI_rem (a:=pos + d) (b:=8) (by omega) (by omega),s1,s2,u1,u2,u3,u4,zbdZ (a:=d) (b:=1) (by omega) (by omega),-zhpZ,zlZ q1];rw [put_set (zbbjZ hws _) hx,hxn] at u7
       have hnp : putL (needL L ((pos + d) / 8)) ((pos + d) / 8) ((pos + d) % 8).toNat [y]=ztdZ l pos (bs.take (d + 1)):=by
        show zspZ L (pos + d) _=_
        rw [wr_one hws (by simp; omega) (by simp),← hL,List.take_add_one,hy,wr_app,htl];rfl
       rw [hnp] at u7;have hll : (needL L ((pos + d) / 8)).length=(ztdZ l pos (bs.take (d + 1))).length:=by rw [← hnp]; simp [putL]
       rw [hll] at u7;refine hR (n - 1) _ _ _ _ _ _ (by omega) ⟨d + 1,w',by omega,rfl,rfl,rfl,rfl,rfl, ?_, ?_,u7,q3,λi hi=>hid' i (by omega) (kid i hi)⟩
       ·rw [u6 0 (hid' 0 (by omega) (kid 0 (by omega)))]; exact q1
       ·rw [u6 1 (hid' 1 (by omega) (kid 1 (by omega)))]; exact z1
      ·have hd' : d=bs.length:=by omega
       subst hd';rw [List.take_length] at kw;have hH0:=(gSI.1 k0).1;have hH1:=(gSI.1 k1).1;have hko:=zbiZ ko
       have tail : ∀ s H2,H2.length=H.length→H2[0]? = some (some (.cells [I s,w]))→H2[1]? = some (some (.cells [I 0,nilSl]))→zaZ H2 9 w=some ((ztdZ l pos bs).flatMap encE,(ztdZ l pos bs).length)→ztsZ (size,l) pos bs=some (s,ztdZ l pos bs)→zdiZ (.ptr 0 0) (.ptr 1 0) H2 (ContK (ztsZ (size,l) pos bs)):=by
        intro s H2 hl2 e0 e1 e2 e3;rw [znyZ];unfold zgwZ;simp [-zhpZ,zlZ e0,ztZ];rw [zcoZ (n:=2) (off:=0) (xs:=[I s,w]) (cs:=[I 0,nilSl]) (by simp [hko]) e1 rfl (by simp)];simp [show 1 < H2.length by omega,ztZ]
        exact ContK.some e3 (zcZ e2 λi hi=>by
         have h2 : 2≤i:=Nat.le_of_not_lt λh=>kid i h hi
         rw [gSN (by omega)])
       by_cases hbs : bs=[]
       ·rw [if_pos hbs] at hw
        have h00 : ¬ 0 < bs.length:=by rw [hbs]; simp
        simp only [hb.len,zbZ,ztmZ,zglZ,Int.lt_irrefl,zpZ,show ¬ (0 : Int) < bs.length by omega,dFf,zmZ];refine tail size H rfl k0 k1 kw ?_;rw [hw,hbs]; rfl
       ·rw [if_neg hbs] at hw
        have hlen : 0 < bs.length:=List.length_pos_iff.2 hbs;have hmx : max (pos + (bs.length : Int)) size=max size (pos + bs.length):=by omega
        simp [hb.len,hlen,-zhpZ,zlZ k0,zbdZ (a:=pos) (b:=bs.length) (by omega) (by omega),hmx];rw [zcoZ (n:=1) (off:=0) (xs:=[I (max size (pos + bs.length))]) (cs:=[I size,w]) rfl k0 rfl (by simp)];simp
        refine tail _ _ (by simp) (gSS hH0) ((gSN (by omega)).trans k1) (zcZ kw λi hi=>by
         have h2 : 2≤i:=Nat.le_of_not_lt λh=>kid i h hi
         rw [gSN (by omega)]) hw
     ·simp only [List.take_zero,ztdZ]
      exact zcZ a3 λi hi=>by
       have h2 : 2≤i:=Nat.le_of_not_lt λh=>id0 i h hi
       rw [gSN (by omega)]
 ·have hn : ztsZ (size,l) pos bs=none:=if_neg (λh=>h1 h.1)
  simp [h1,ast];exact ContK.none hn
section
variable {κ α : Type} [DecidableEq κ] {c : κ→κ→Int} {key : α→κ}
def atK (key : α→κ) (l : List α) (k : κ) : Option α:=l.find? (λx=>decide (key x=k))
theorem atK_has {l : List α} {k : κ} (h : hasK key l k) : ∃ x,atK key l k=some x∧x ∈ l∧key x=k:=by
 obtain ⟨y,hy,e⟩:=h;unfold atK;cases hf : l.find? (λx=>decide (key x=k)) with
 | none => rw [List.find?_eq_none] at hf; have:=hf y hy; simp [e] at this
 | some x => exact ⟨x,rfl,List.mem_of_find?_eq_some hf,by simpa using List.find?_some hf⟩
theorem atK_none {l : List α} {k : κ} (h : ¬ hasK key l k) : atK key l k=none:=by
 unfold atK;rw [List.find?_eq_none];intro x hx;simp only [decide_eq_true_eq];exact λe=>h ⟨x,hx,e⟩
theorem atK_eq (hc : KO c) {l : List α} (hs : srtK c key l) {x : α} (hx : x ∈ l) : atK key l (key x)=some x:=by
 obtain ⟨y,h1,h2,h3⟩:=atK_has (l:=l) (k:=key x) ⟨x,hx,rfl⟩;rw [h1,srtK_uniq hc hs h2 hx h3]
theorem zypZ (hc : KO c) {l : List α} (hs : srtK c key l) {k : κ} (h : hasK key l k) : ∃ x,l[posK c key l k]? = some x∧atK key l k=some x∧key x=k:=by
 obtain ⟨x,h1,rfl⟩:=(zbfsZ hc hs).1 h;exact ⟨x,h1,atK_eq hc hs (List.mem_of_getElem? h1),rfl⟩
end
theorem zbgbZ {l : List NdV} : srtK cmpI Nd.ino (l.map NdV.nd) ↔ srtK cmpI NdV.ino l:=by
 unfold srtK; rw [List.pairwise_map]
theorem zbbmZ {l : List NdV} {k : Int} : hasK Nd.ino (l.map NdV.nd) k ↔ hasK NdV.ino l k:=by
 constructor
 ·rintro ⟨x,hx,e⟩
  obtain ⟨y,hy,rfl⟩:=List.mem_map.1 hx;exact ⟨y,hy,e⟩
 ·rintro ⟨y,hy,e⟩
  exact ⟨y.nd,List.mem_map_of_mem hy,e⟩
theorem zbfyZ {l : List NdV} {k : Int} : posK cmpI Nd.ino (l.map NdV.nd) k=posK cmpI NdV.ino l k:=by
 unfold posK;rw [List.takeWhile_map,List.length_map];rfl
theorem named_p {ns : List Nm} {a b : AV} {dv : List NdV} (ha : SV encN 2 ns a) (hb : SV encD 3 dv b) (hs : srtK cmpN Nm.name ns) (hl : ns.length≤281474976710656) (s : List UInt8) :
  BPure Tryz.prog 97 [.agg [a,b],S (bstr s)] (.tup [I (posK cmpN Nm.name ns s),B (decide (hasK Nm.name ns s))]):=BPure.val (by simp [zdcZ,noIds,ha.1,hb.1]) rfl (image_named_ok (by
 unfold image_named;have oa:=SV.oneA ha;have ob:=SV.oneA hb;simp [oa,ob];refine zyZ (srch_N ha hs hl s) ?_
 simp))
theorem node_p {ns : List Nm} {a b : AV} {dv : List NdV} (ha : SV encN 2 ns a) (hb : SV encD 3 dv b) (hs : srtK cmpI NdV.ino dv) (hl : dv.length≤281474976710656) (no : Int) :
  BPure Tryz.prog 91 [.agg [a,b],I no] (.tup [I (posK cmpI NdV.ino dv no),B (decide (hasK NdV.ino dv no))]):=BPure.val (by simp [zdcZ,noIds,ha.1,hb.1]) rfl (image_node_ok (by
 unfold image_node;have oa:=SV.oneA ha;have ob:=SV.oneA hb;simp [oa,ob];refine zyZ (srch_D hb hs hl no) ?_
 simp))
theorem cloneE_p {l : List Ext} {v : AV} (hv : SV encE 9 l v) (hl : l.length≤1000000000) : ∃ R,SV encE 9 l R∧BPure Tryz.prog 150 [v] R:=by
 obtain ⟨r,X,⟨-,h1,-,-⟩,h2⟩:=ext_Clone_c (hv.2 []) hl;exact BPure.sl (by simp [zdcZ,hv.1]) (zipZ λx _=>zpaZ x) ⟨r,X,h1,h2⟩
theorem copied_p {l : List Ext} {v : AV} {size : Int} (hv : SV encE 9 l v) (hl : l.length≤1000000000) : ∃ R,SV encE 9 l R∧BPure Tryz.prog 92 [.agg [I size,v]] (.agg [I size,R]):=by
 obtain ⟨R,hR,hc⟩:=cloneE_p hv hl;refine ⟨R,hR,BPure.val (by simp [zdcZ,noIds,hv.1]) (by simp [noIds,zdcZ,hR.1]) (image_copied_ok ?_)⟩;unfold image_copied;have o1:=SV.oneA hv;have o2:=SV.oneA hR;simp [o1];refine bP_of hc ?_;simp [o2,zbsZ o2,ast,zlaZ,ztZ]
theorem copyOf_p {l : List Ext} {v : AV} {size : Int} (hv : SV encE 9 l v) (hl : l.length≤1000000000) : ∃ R,SV encE 9 l R∧BPure Tryz.prog 171 [.agg [I size,v]] (.agg [I size,R]):=by
 obtain ⟨r,X,⟨w,rfl,h3,h1,-,-⟩,h2⟩:=zbdvZ (size:=size) (hv.2 []) (SV.oneA hv) hl;obtain ⟨R,hR,fR⟩:=FZ.sv h1 (zipZ λx _=>zpaZ x);obtain ⟨R2,rfl,h⟩:=BPure.FZ (Q:=λR'=>R' = .agg [I size,R]) (by simp [zdcZ,noIds,hv.1]) ⟨_,X,⟨_,FZ.agg (FZs.cons (FZ.lit _) (FZs.cons fR FZs.nil)),rfl⟩,h2⟩;exact ⟨R,hR,h⟩
def nameI (ns : List Nm) (s : List UInt8) : Int:=match atK Nm.name ns s with
 | some x => x.ino
 | none => 0
def hasI (ns : List Nm) (ds : List Nd) (s : List UInt8) : Prop:=mayI ns ds∧hasK Nm.name ns s
instance (ns : List Nm) (ds : List Nd) (s : List UInt8) : Decidable (hasI ns ds s):=by unfold hasI; infer_instance
def findI (ns : List Nm) (ds : List Nd) (s : List UInt8) : Int:=if hasI ns ds s then nameI ns s else 0
theorem Find_p {ns : List Nm} {ds : List Nd} {v : AV} (hv : ImV ns ds v) (hb : Sm ns ds) (s : List UInt8) : BPure Tryz.prog 39 [v,S (bstr s)] (.tup [I (findI ns ds s),B (decide (hasI ns ds s))]):=BPure.val (by have:=hv.noIds; simpa [zdcZ,noIds] using this) rfl (image_Find_ok (by
 have hv0:=hv;obtain ⟨a,b,dv,rfl,ha,hbv,rfl⟩:=hv;unfold image_Find;have oa:=SV.oneA ha;have ob:=SV.oneA hbv;simp [oa,ob,ztZ];refine zyZ (May_p hv0 hb) ?_
 by_cases hm : mayI ns (dv.map NdV.nd)
 ·simp [hm,ztZ]
  refine bC_of (named_p ha hbv hm.1.2.2.1 (by have:=hb.1; omega) s _) ?_
  by_cases hh : hasK Nm.name ns s
  ·obtain ⟨x,h1,h2,h3⟩:=zypZ koN hm.1.2.2.1 hh
   have e : findI ns (dv.map NdV.nd) s=x.ino:=by unfold findI nameI; rw [if_pos ⟨hm,hh⟩,h2]
   have e2 : hasI ns (dv.map NdV.nd) s:=⟨hm,hh⟩;simp [hh,ha.idx zgfZ h1 rfl,encN_1,e,e2]
  ·have e2 : ¬ hasI ns (dv.map NdV.nd) s:=λh=>hh h.2
   have e : findI ns (dv.map NdV.nd) s=0:=if_neg e2;simp [hh,e,e2]
 ·have e2 : ¬ hasI ns (dv.map NdV.nd) s:=λh=>hm h.1
  have e : findI ns (dv.map NdV.nd) s=0:=if_neg e2;simp [hm,e,e2]))
theorem ref_Find_p {ns : List Nm} {ds : List Nd} {v : AV} (hv : ImV ns ds v) (hb : Sm ns ds) (s : List UInt8) : BPure Tryz.prog 99 [v,S (bstr s)] (.tup [I (findI ns ds s),B (decide (hasI ns ds s))]):=BPure.val (by have:=hv.noIds; simpa [zdcZ,noIds] using this) rfl (zbdnZ (by
 have hv0:=hv;obtain ⟨a,b,dv,rfl,ha,hbv,rfl⟩:=hv;unfold zzvZ;have oa:=SV.oneA ha;have ob:=SV.oneA hbv;simp [oa,ob,ztZ];refine zyZ (znhZ hv0 hb s) ?_;refine zyZ (zmrZ hv0 hb) ?_
 by_cases hm : mayI ns (dv.map NdV.nd)
 ·by_cases hh : hasK Nm.name ns s
  ·obtain ⟨x,h1,h2,h3⟩:=zypZ koN hm.1.2.2.1 hh
   have e : findI ns (dv.map NdV.nd) s=x.ino:=by unfold findI nameI; rw [if_pos ⟨hm,hh⟩,h2]
   have e2 : hasI ns (dv.map NdV.nd) s:=⟨hm,hh⟩;have e3:=idxK_pos koN hm.1.2.2.1 hh;have e4 : ¬ idxK Nm.name ns s < 0:=by omega
   simp [hm,e3,show ¬ ((posK cmpN Nm.name ns s : Nat) : Int) < 0 by omega,ha.idx zgfZ h1 rfl,encN_1,e,e2]
  ·have e2 : ¬ hasI ns (dv.map NdV.nd) s:=λh=>hh h.2
   have e : findI ns (dv.map NdV.nd) s=0:=if_neg e2;have e4 : idxK Nm.name ns s < 0:=zbcuZ.2 hh;simp [hm,e4,e,e2]
 ·have e2 : ¬ hasI ns (dv.map NdV.nd) s:=λh=>hm h.1
  have e : findI ns (dv.map NdV.nd) s=0:=if_neg e2;simp [hm,e,e2]))
end Go.Proofs.YtlhiaihmkjlaaaaGreat.Av
end
section
namespace Go.Proofs.YtlhiaihmkjlaaaaGreat.Av
open Go Go.RowKit
def hasG (ns : List Nm) (ds : List Nd) (no : Int) : Prop:=mayI ns ds∧hasK Nd.ino ds no
instance (ns : List Nm) (ds : List Nd) (no : Int) : Decidable (hasG ns ds no):=by unfold hasG; infer_instance
def getN (ns : List Nm) (ds : List Nd) (no : Int) : Nd:=if hasG ns ds no then (atK Nd.ino ds no).getD ⟨0,0,[]⟩ else ⟨0,0,[]⟩
theorem atK_map {dv : List NdV} {no : Int} {x : NdV} (h : atK NdV.ino dv no=some x) : atK Nd.ino (dv.map NdV.nd) no=some x.nd:=by
 unfold atK at h ⊢;rw [List.find?_map]
 show Option.map NdV.nd (dv.find? λx=>decide (x.nd.ino=no))=_
 rw [show (dv.find? λx=>decide (x.nd.ino=no))=some x from h];rfl
theorem Get_p {ns : List Nm} {ds : List Nd} {v : AV} (hv : ImV ns ds v) (hb : Sm ns ds) (no : Int) : ∃ R,SV encE 9 (getN ns ds no).l R∧BPure Tryz.prog 35 [v,I no] (.tup [.agg [I (getN ns ds no).size,R],B (decide (hasG ns ds no))]):=by
 have hv0:=hv;obtain ⟨a,b,dv,rfl,ha,hbv,rfl⟩:=hv;have oa:=SV.oneA ha;have ob:=SV.oneA hbv
 by_cases hh : hasG ns (dv.map NdV.nd) no
 ·have hm:=hh.1
  have hs:=zbgbZ.1 hm.2.2.1;have hk:=zbbmZ.1 hh.2;obtain ⟨x,h1,h2,h3⟩:=zypZ koI hs hk;have e : getN ns (dv.map NdV.nd) no=x.nd:=by unfold getN; rw [if_pos hh,atK_map h2]; rfl
  rw [e];obtain ⟨R,hR,hc⟩:=copied_p (size:=x.nd.size) x.h (by have:=hb.2.2.2 x.nd (List.mem_map_of_mem (List.mem_of_getElem? h1)); omega);refine ⟨R,hR,BPure.val (by have:=hv0.noIds; simpa [zdcZ,noIds] using this) (by simp [noIds,zdcZ,hR.1]) (image_Get_ok ?_)⟩;unfold image_Get;simp [oa,ob,ztZ];refine zyZ (May_p hv0 hb) ?_;simp [hm,ztZ];refine bC_of (node_p ha hbv hs (by have:=hb.2.1; simp at this; omega) no _) ?_;simp [hk,hbv.idx zffZ h1 rfl,encD_c];refine zyZ hc ?_;have o2:=SV.oneA hR;simp [o2,zbsZ o2,ast,zlaZ,ztZ,hh]
 ·have e : getN ns (dv.map NdV.nd) no=⟨0,0,[]⟩:=if_neg hh
  rw [e];refine ⟨nilSl,SV.nil,BPure.val (by have:=hv0.noIds; simpa [zdcZ,noIds] using this) rfl (image_Get_ok ?_)⟩;unfold image_Get;simp [oa,ob,ztZ];refine zyZ (May_p hv0 hb) ?_
  by_cases hm : mayI ns (dv.map NdV.nd)
  ·have hs:=zbgbZ.1 hm.2.2.1
   have hk : ¬ hasK NdV.ino dv no:=λh=>hh ⟨hm,zbbmZ.2 h⟩
   simp [hm,ztZ];refine bC_of (node_p ha hbv hs (by have:=hb.2.1; simp at this; omega) no _) ?_;simp [hk,ast,zlaZ,ztZ,hh]
  ·simp [hm,ast,zlaZ,ztZ,hh]
theorem ref_Get_p {ns : List Nm} {ds : List Nd} {v : AV} (hv : ImV ns ds v) (hb : Sm ns ds) (no : Int) : ∃ R,SV encE 9 (getN ns ds no).l R∧BPure Tryz.prog 132 [v,I no] (.tup [.agg [I (getN ns ds no).size,R],B (decide (hasG ns ds no))]):=by
 have hv0:=hv;obtain ⟨a,b,dv,rfl,ha,hbv,rfl⟩:=hv;have oa:=SV.oneA ha;have ob:=SV.oneA hbv
 by_cases hh : hasG ns (dv.map NdV.nd) no
 ·have hm:=hh.1
  have hs:=zbgbZ.1 hm.2.2.1;have hk:=zbbmZ.1 hh.2;obtain ⟨x,h1,h2,h3⟩:=zypZ koI hs hk;have e : getN ns (dv.map NdV.nd) no=x.nd:=by unfold getN; rw [if_pos hh,atK_map h2]; rfl
  rw [e];obtain ⟨R,hR,hc⟩:=copyOf_p (size:=x.nd.size) x.h (by have:=hb.2.2.2 x.nd (List.mem_map_of_mem (List.mem_of_getElem? h1)); omega);refine ⟨R,hR,BPure.val (by have:=hv0.noIds; simpa [zdcZ,noIds] using this) (by simp [noIds,zdcZ,hR.1]) (zvmZ ?_)⟩;unfold zuaZ;simp [oa,ob,ztZ];refine zyZ (ztyZ hv0 hb no) ?_;refine zyZ (zmrZ hv0 hb) ?_;have e3 : idxK Nd.ino (dv.map NdV.nd) no=posK cmpI NdV.ino dv no:=by rw [idxK_pos koI hm.2.2.1 hh.2,zbfyZ]
  simp [hm,e3,show ¬ ((posK cmpI NdV.ino dv no : Nat) : Int) < 0 by omega,hbv.idx zffZ h1 rfl,encD_c];refine zyZ hc ?_;have o2:=SV.oneA hR;simp [o2,zbsZ o2,ast,zlaZ,ztZ,hh]
 ·have e : getN ns (dv.map NdV.nd) no=⟨0,0,[]⟩:=if_neg hh
  rw [e];refine ⟨nilSl,SV.nil,BPure.val (by have:=hv0.noIds; simpa [zdcZ,noIds] using this) rfl (zvmZ ?_)⟩;unfold zuaZ;simp [oa,ob,ztZ];refine zyZ (ztyZ hv0 hb no) ?_;refine zyZ (zmrZ hv0 hb) ?_
  by_cases hm : mayI ns (dv.map NdV.nd)
  ·have hk : ¬ hasK Nd.ino (dv.map NdV.nd) no:=λh=>hh ⟨hm,h⟩
   have e4:=(zbcuZ (key:=Nd.ino)).2 hk;simp [hm,e4,ast,zlaZ,ztZ,hh]
  ·simp [hm,ast,zlaZ,ztZ,hh]
def sumL (ds : List Nd) : Nat:=(ds.map λd=>d.l.length).sum
def usedI (ns : List Nm) (ds : List Nd) : Int:=if mayI ns ds then sumL ds else 0
theorem sumL_snoc {ds : List Nd} {d : Nd} : sumL (ds ++ [d])=sumL ds + d.l.length:=by simp [sumL]
theorem sumL_le {N : Nat} : ∀ {ds : List Nd},(∀ d ∈ ds,d.l.length≤N)→sumL ds≤ds.length * N
 | [],_ => by simp [sumL]
 | d :: ds,h => by
  have ih:=sumL_le (ds:=ds) λx hx=>h x (by simp [hx])
  have:=h d (by simp)
  unfold sumL at ih ⊢;rw [List.map_cons,List.sum_cons,List.length_cons,Nat.succ_mul];omega
theorem sumL_take {ds : List Nd} (h : ∀ d ∈ ds,d.l.length≤1000000) (hn : ds.length≤100000) (k : Nat) : sumL (ds.take k)≤100000000000:=by
 have h1:=sumL_le (N:=1000000) (ds:=ds.take k) λd hd=>h d (List.mem_of_mem_take hd)
 have : (ds.take k).length≤100000:=by rw [List.length_take]; omega
 have:=Nat.mul_le_mul_right 1000000 this
 omega
theorem Used_p {ns : List Nm} {ds : List Nd} {v : AV} (hv : ImV ns ds v) (hb : Sm ns ds) : BPure Tryz.prog 33 [v] (I (usedI ns ds)):=BPure.val hv.noIds rfl (image_Used_ok (by
 have hv0:=hv;obtain ⟨a,b,dv,rfl,ha,hbv,rfl⟩:=hv;have oa:=SV.oneA ha;have ob:=SV.oneA hbv;have b2:=hb.2.1;unfold image_Used;simp [oa,ob,ztZ];refine zyZ (May_p hv0 hb) ?_
 by_cases hm : mayI ns (dv.map NdV.nd)
 ·simp [hm,hbv.len]
  have e : usedI ns (dv.map NdV.nd)=sumL (dv.map NdV.nd):=if_pos hm;rw [e];refine image_Used_L7_rule (λn x3 x10 x11 x12 H'=>∃ k : Nat,k + n=dv.length∧x3=I (sumL ((dv.map NdV.nd).take k))∧x10=b∧x11=I dv.length∧x12=I k) ?_ dv.length ⟨0,by omega,rfl,rfl,rfl,rfl⟩;rintro n x3 x10 x11 x12 H' R hR ⟨k,hk,rfl,rfl,rfl,rfl⟩;unfold zbbxZ;rw [List.length_map] at b2;rcases Nat.lt_or_ge k dv.length with h | h
  ·have hx:=gEG h
   generalize dv[k]=d at hx;have hx2 : (dv.map NdV.nd)[k]? = some d.nd:=by rw [List.getElem?_map,hx]; rfl
   have h1:=sumL_take hb.2.2.2 (by simpa using b2) k;have h2:=hb.2.2.2 d.nd (List.mem_of_getElem? hx2)
   have ea : ast 3 (H' ++ [some (.cells [I 0,I 0,nilSl])]) (.ptr H'.length 0) (.agg (encD d))=some (H' ++ [some (.cells (encD d))]):=by
    have:=SV.oneA d.h
    simp [ast,encD,zlaZ,this]
   simp [h,hbv.idx zffZ hx rfl,rdh_D,ea];simp [encD,d.h.len,zbdZ (a:=k) (b:=1) (by omega) (by omega),zbdZ (a:=(sumL (List.take k (dv.map NdV.nd)) : Int)) (b:=d.nd.l.length) (by omega) (by omega)];exact hR (n - 1) _ _ _ _ _ (by omega) ⟨k + 1,by omega,by rw [zxsZ hx2,sumL_snoc]; simp,rfl,rfl,by simp⟩
  ·have : (dv.map NdV.nd).take k=dv.map NdV.nd:=List.take_of_length_le (by simp; omega)
   simp [show ¬ k < dv.length by omega,this]
 ·have e : usedI ns (dv.map NdV.nd)=0:=if_neg hm
  simp [hm,e]))
theorem ref_Used_p {ns : List Nm} {ds : List Nd} {v : AV} (hv : ImV ns ds v) (hb : Sm ns ds) : BPure Tryz.prog 164 [v] (I (usedI ns ds)):=BPure.val hv.noIds rfl (zbdsZ (by
 have hv0:=hv;obtain ⟨a,b,dv,rfl,ha,hbv,rfl⟩:=hv;have oa:=SV.oneA ha;have ob:=SV.oneA hbv;have b2:=hb.2.1;rw [List.length_map] at b2;unfold zzaZ;simp [oa,ob,ztZ];refine zwnZ (λn x1 x3 x4 H'=>∃ k : Nat,k + n=dv.length∧x1 = .ptr 0 0∧x3=I (sumL ((dv.map NdV.nd).take k))∧x4=I k∧H'=[some (.cells [a,b])]∧(0 < k→mayI ns (dv.map NdV.nd))) ?_ dv.length ⟨0,by omega,rfl,rfl,rfl,rfl,by omega⟩;rintro n x1 x3 x4 H' R hR ⟨k,hk,rfl,rfl,rfl,rfl,h0⟩;unfold zpvZ;rcases Nat.lt_or_ge k dv.length with h | h
 ·have hx:=gEG h
  generalize dv[k]=d at hx;have hx2 : (dv.map NdV.nd)[k]? = some d.nd:=by rw [List.getElem?_map,hx]; rfl
  have h1:=sumL_take hb.2.2.2 (by simpa using b2) k;have h2:=hb.2.2.2 d.nd (List.mem_of_getElem? hx2);simp [h,hbv.len,ztZ];refine zyZ (zmrZ hv0 hb) ?_
  by_cases hm : mayI ns (dv.map NdV.nd)
  ·simp [hm,hbv.idx zffZ hx rfl,encD_2,d.h.len,zbdZ (a:=k) (b:=1) (by omega) (by omega),zbdZ (a:=(sumL (List.take k (dv.map NdV.nd)) : Int)) (b:=d.nd.l.length) (by omega) (by omega)]
   exact hR (n - 1) _ _ _ _ (by omega) ⟨k + 1,by omega,rfl,by rw [zxsZ hx2,sumL_snoc]; simp,by simp,rfl,λ_=>hm⟩
  ·have e : usedI ns (dv.map NdV.nd)=0:=if_neg hm
   have : k=0:=by
    rcases Nat.eq_zero_or_pos k with h | h
    ·exact h
    ·exact absurd (h0 h) hm
   simp [hm,e,this,sumL]
 ·have : (dv.map NdV.nd).take k=dv.map NdV.nd:=List.take_of_length_le (by simp; omega)
  have e : usedI ns (dv.map NdV.nd)=sumL (dv.map NdV.nd):=by
   unfold usedI
   by_cases hm : mayI ns (dv.map NdV.nd)
   ·rw [if_pos hm]
   ·rcases Nat.eq_zero_or_pos k with h | h
    ·have : dv=[]:=List.length_eq_zero_iff.1 (by omega)
     rw [if_neg hm,this]; rfl
    ·exact absurd (h0 h) hm
  simp [hbv.len,show ¬ k < dv.length by omega,this,e]))
def sameI (ns : List Nm) (ds : List Nd) (ms : List Nm) (es : List Nd) : Prop:=ns=ms∧ds=es
instance (ns : List Nm) (ds : List Nd) (ms : List Nm) (es : List Nd) : Decidable (sameI ns ds ms es):=by unfold sameI; infer_instance
theorem own_at {α : Type} {enc : α→List AV} {sz : Nat} (hsz : ∀ x,(enc x).length=sz) (h0 : 0 < sz) {H : AH} {v : AV} {l : List α} {k : Nat} {x : α} (hs : zaZ H sz v=some (l.flatMap enc,l.length)) (ho : zjsZ v=true) (hx : l[k]? = some x) :
  ∃ o off cells,aixS sz v (I k)=some (.ptr o off)∧o ∈ idS v∧H[o]? = some (some (.cells cells))∧off + sz≤cells.length∧(∀ j,j < sz→cells[off + j]? = (enc x)[j]?) ∧
   ∀ y q xs,enc y=over (enc x) q xs→q + xs.length≤sz→zaZ (H.set o (some (.cells (zlaZ cells (off + q) xs)))) sz v=some ((l.set k y).flatMap enc,l.length):=by
 have hk:=(gSI.1 hx).1;obtain ⟨o,off,cap,cells,rfl,h1,h2,h3⟩:=zbabZ hs ho (by omega);have hol:=(gSI.1 h1).1;have hmul : (k + 1) * sz≤l.length * sz:=Nat.mul_le_mul_right _ (by omega);have hms : (k + 1) * sz=k * sz + sz:=Nat.succ_mul _ _;refine ⟨o,off + k * sz,cells, ?_,by simp [idS],h1,by omega,λj hj=>?_,λy q xs hy hq=>?_⟩
 ·simp [aixS,aint]
  omega
 ·have e : (l.flatMap enc)[k * sz + j]? = cells[off + k * sz + j]?:=by
   rw [h3,List.getElem?_take,if_pos (by omega),List.getElem?_drop]; congr 1; omega
  rw [← e];have e2:=zseZ hsz l k;have e3 : (l.flatMap enc)[k * sz + j]? = ((l.flatMap enc).drop (k * sz))[j]?:=by rw [List.getElem?_drop]
  rw [e3,e2,List.drop_eq_getElem_cons hk,(gSI.1 hx).2,List.flatMap_cons,List.getElem?_append_left (by rw [hsz]; exact hj)]
 ·have hxs : off + k * sz + q + xs.length≤cells.length:=by omega
  rw [zujZ _ _ _ hxs]
  show zaZ (H.set o (some (.cells (over cells (off + k * sz + q) xs)))) sz _=_
  rw [Nat.add_assoc,zbuZ (c:=over cells (off + (k * sz + q)) xs) (by simp [hol]) (by rw [zzkZ (by omega)]; exact h2)];rw [zbfwZ h2 (by omega),← h3,zbfzZ hsz hx hy hq]
theorem size_nm (w : World) : (Go.sizeOf 124).run Tryz.prog w = .ok 2 w:=zdxZ (by kernel_rfl)
theorem size_nd (w : World) : (Go.sizeOf 127).run Tryz.prog w = .ok 3 w:=zdxZ (by kernel_rfl)
theorem ov_nm {H : AH} {oa offa la ea ka ob offb lb eb kb : Nat} {ca cb : List AV} (ha : H[oa]? = some (some (.cells ca))) (hbo : H[ob]? = some (some (.cells cb))) (hne : oa ≠ ob) (hka : ka ≠ 0) (hkb : kb ≠ 0) (hcb : cb ≠ []) :
  ExtR Tryz.prog 190 [.sl oa offa la ea (.ex ka),.sl ob offb lb eb (.ex kb)] H (B false) :=
 ExtR.apart (tS:=30) (tR:=4) (fn:=Tryz.f190) (by kernel_rfl) (by kernel_rfl) (by kernel_rfl) (by kernel_rfl) (by kernel_rfl) (by kernel_rfl) size_nm ha hbo hne hka hkb hcb
theorem ov_nd {H : AH} {oa offa la ea ka ob offb lb eb kb : Nat} {ca cb : List AV} (ha : H[oa]? = some (some (.cells ca))) (hbo : H[ob]? = some (some (.cells cb))) (hne : oa ≠ ob) (hka : ka ≠ 0) (hkb : kb ≠ 0) (hcb : cb ≠ []) :
  ExtR Tryz.prog 192 [.sl oa offa la ea (.ex ka),.sl ob offb lb eb (.ex kb)] H (B false) :=
 ExtR.apart (tS:=31) (tR:=4) (fn:=Tryz.f192) (by kernel_rfl) (by kernel_rfl) (by kernel_rfl) (by kernel_rfl) (by kernel_rfl) (by kernel_rfl) size_nd ha hbo hne hka hkb hcb
def zN : List AV:=[S ⟨#[]⟩,I 0]
def zD : List AV:=[I 0,I 0,nilSl]
theorem insN_c {H : AH} {s : AV} {l : List Nm} {i oj : Nat} {x : Nm} (hs : zaZ H 2 s=some (l.flatMap encN,l.length)) (ho : zjsZ s=true) (hc : capOk s l.length) (hi : i≤l.length) (hn : l.length≤1000000) (hv : H[oj]? = some (some (.cells (encN x)))) (hne : oj ∉ idS s) :
  ∃ r H',InsG 2 H s ((l.take i ++ x :: l.drop i).flatMap encN) l.length r H'∧BCall Tryz.prog 166 [s,I i,.sl oj 0 1 2 (.ex 1)] H r H':=by
 have:=ins_ok (P:=Tryz.prog) (sz:=2) (bytes:=24) (zc:=zN) (f:=166) (ov:=190) (rot:=191) (by omega) rfl
  (λa0 a1 a2 H K h=>zkwZ h) hs ho hc hi hn (by omega) hv (zgfZ x) hne (λm=>by simp [encN,Bels,Bel]) (λh1 h2 h3 h4=>ov_nm hv h1 h2 (by omega) h3 h4)
 rwa [zttZ zgfZ,zseZ zgfZ,List.append_assoc,show encN x ++ (l.drop i).flatMap encN=(x :: l.drop i).flatMap encN from rfl,← List.flatMap_append] at this
theorem insD_c {H : AH} {s : AV} {l : List NdV} {i oj : Nat} {x : NdV} (hs : zaZ H 3 s=some (l.flatMap encD,l.length)) (ho : zjsZ s=true) (hc : capOk s l.length) (hi : i≤l.length) (hn : l.length≤1000000) (hv : H[oj]? = some (some (.cells (encD x)))) (hne : oj ∉ idS s) :
  ∃ r H',InsG 3 H s ((l.take i ++ x :: l.drop i).flatMap encD) l.length r H'∧BCall Tryz.prog 167 [s,I i,.sl oj 0 1 3 (.ex 1)] H r H':=by
 have:=ins_ok (P:=Tryz.prog) (sz:=3) (bytes:=40) (zc:=zD) (f:=167) (ov:=192) (rot:=193) (by omega) rfl
  (λa0 a1 a2 H K h=>zktZ h) hs ho hc hi hn (by omega) hv (zffZ x) hne (λm=>znpZ (zbcaZ x)) (λh1 h2 h3 h4=>ov_nd hv h1 h2 (by omega) h3 h4)
 rwa [zttZ zffZ,zseZ zffZ,List.append_assoc,show encD x ++ (l.drop i).flatMap encD=(x :: l.drop i).flatMap encD from rfl,← List.flatMap_append] at this
theorem delN_c {H : AH} {s : AV} {l : List Nm} {i : Nat} (hs : zaZ H 2 s=some (l.flatMap encN,l.length)) (ho : zjsZ s=true) (hc : capOk s l.length) (hi : i < l.length) (hn : l.length≤1000000) :
  ∃ r H',DelG 2 H s ((l.take i ++ l.drop (i + 1)).flatMap encN) (l.length - 1) r H'∧BCall Tryz.prog 168 [s,I i,I ((i : Int) + 1)] H r H':=by
 obtain ⟨m,hm⟩ : ∃ m,l.length=m + 1:=⟨l.length - 1,by omega⟩;rw [hm] at hs hc;obtain ⟨r,H',h1,h2⟩:=del_ok (sz:=2) (bytes:=24) (zc:=zN) (by omega) rfl hs ho hc (show i≤m by omega) (by omega) (by omega);have h2' : zfuZ s (I i) (I ((i : Int) + 1)) H λr' H''=>r'=r∧H''=H':=h2
 obtain ⟨r2,H2,⟨rfl,rfl⟩,h3⟩:=zldZ h2';rw [zttZ zgfZ,zseZ zgfZ,← List.flatMap_append] at h1;exact ⟨_,_,by rw [hm]; exact h1,h3⟩
theorem delD_c {H : AH} {s : AV} {l : List NdV} {i : Nat} (hs : zaZ H 3 s=some (l.flatMap encD,l.length)) (ho : zjsZ s=true) (hc : capOk s l.length) (hi : i < l.length) (hn : l.length≤1000000) :
  ∃ r H',DelG 3 H s ((l.take i ++ l.drop (i + 1)).flatMap encD) (l.length - 1) r H'∧BCall Tryz.prog 169 [s,I i,I ((i : Int) + 1)] H r H':=by
 obtain ⟨m,hm⟩ : ∃ m,l.length=m + 1:=⟨l.length - 1,by omega⟩;rw [hm] at hs hc;obtain ⟨r,H',h1,h2⟩:=del_ok (sz:=3) (bytes:=40) (zc:=zD) (by omega) rfl hs ho hc (show i≤m by omega) (by omega) (by omega);have h2' : zfvZ s (I i) (I ((i : Int) + 1)) H λr' H''=>r'=r∧H''=H':=h2
 obtain ⟨r2,H2,⟨rfl,rfl⟩,h3⟩:=zjvZ h2';rw [zttZ zffZ,zseZ zffZ,← List.flatMap_append] at h1;exact ⟨_,_,by rw [hm]; exact h1,h3⟩
structure ImH (L oi : Nat) (ns : List Nm) (dv : List NdV) (a b : AV) (H : AH) : Prop where
 obj : H[oi]? = some (some (.cells [a,b]))
 lo : oi ∉ idS a∧oi ∉ idS b
 len : L≤H.length
 sa : zaZ H 2 a=some (ns.flatMap encN,ns.length)
 oa : zjsZ a=true
 ca : capOk a ns.length
 ia : ∀ i ∈ idS a,L≤i
 sb : zaZ H 3 b=some (dv.flatMap encD,dv.length)
 ob : zjsZ b=true
 cb : capOk b dv.length
 ib : ∀ i ∈ idS b,L≤i
 ab : ∀ i ∈ idS a,i ∉ idS b
def FrL (L oi : Nat) (H H' : AH) : Prop:=H.length≤H'.length∧∀ j,j < L→j ≠ oi→H'[j]? = H[j]?
theorem FrL.refl (L oi : Nat) (H : AH) : FrL L oi H H:=⟨Nat.le_refl _,λ_ _ _=>rfl⟩
theorem FrL.trans {L oi : Nat} {A B C : AH} (h : FrL L oi A B) (k : FrL L oi B C) : FrL L oi A C:=⟨Nat.le_trans h.1 k.1,λj h1 h2=>(k.2 j h1 h2).trans (h.2 j h1 h2)⟩
theorem ImH.noA {L oi : Nat} {ns : List Nm} {dv : List NdV} {a b : AV} {H : AH} (h : ImH L oi ns dv a b H) : oi ∉ idS a:=h.lo.1
theorem ImH.noB {L oi : Nat} {ns : List Nm} {dv : List NdV} {a b : AV} {H : AH} (h : ImH L oi ns dv a b H) : oi ∉ idS b:=h.lo.2
theorem ImH.lend {L oi : Nat} {ns : List Nm} {dv : List NdV} {a b : AV} {H : AH} (h : ImH L oi ns dv a b H) : ∃ Ra Rb,SV encN 2 ns Ra∧SV encD 3 dv Rb∧FZ H (.agg [a,b]) (.agg [Ra,Rb]):=by
 obtain ⟨Ra,h1,f1⟩:=FZ.sv h.sa (zipZ λx _=>noIdss_encN x);obtain ⟨Rb,h2,f2⟩:=FZ.sv h.sb (zipZ λx _=>zbcaZ x);exact ⟨Ra,Rb,h1,h2,FZ.agg (FZs.cons f1 (FZs.cons f2 FZs.nil))⟩
theorem ImH.grew {L oi : Nat} {ns : List Nm} {dv : List NdV} {a b : AV} {H H' : AH} (h : ImH L oi ns dv a b H) (g : Grew H H') : ImH L oi ns dv a b H' :=
 ⟨g.cells h.obj,h.lo,Nat.le_trans h.len g.1,g.slice h.sa,h.oa,h.ca,h.ia,g.slice h.sb,h.ob,h.cb,h.ib,h.ab⟩
theorem ImH.newA {L oi : Nat} {ns ms : List Nm} {dv : List NdV} {a b r : AV} {H H' : AH} (h : ImH L oi ns dv a b H) (hl : H.length≤H'.length) (hk : ∀ i,i < H.length→i ∉ idS a→H'[i]? = H[i]?) (h1 : zaZ H' 2 r=some (ms.flatMap encN,ms.length)) (h2 : zjsZ r=true) (h3 : capOk r ms.length) (h4 : ∀ i ∈ idS r,i ∈ idS a∨H.length≤i) :
  ∃ H2,ast 1 H' (.ptr oi 0) r=some H2∧ImH L oi ms dv r b H2∧FrL L oi H H2:=by
 have c0 : H'[oi]? = some (some (.cells [a,b])):=by rw [hk oi (gSI.1 h.obj).1 h.noA]; exact h.obj
 have hr:=zbiZ h2;have hol1:=(gSI.1 h.obj).1;have nro : oi ∉ idS r:=λq=>(h4 oi q).elim h.noA (λq=>by omega)
 have hle:=h.len;have hol:=(gSI.1 c0).1;have nr : ∀ i ∈ idS r,L≤i:=λi hi=>(h4 i hi).elim (h.ia i) (λq=>by omega)
 refine ⟨H'.set oi (some (.cells [r,b])), ?_,⟨by simp [hol],⟨nro,h.noB⟩,by simp; omega, ?_,h2,h3,nr, ?_,h.ob,h.cb,h.ib,λi hi hb=>?_⟩,⟨by simp; omega,λj h5 h6=>?_⟩⟩
 ·rw [zcoZ (n:=1) (off:=0) (xs:=[r]) (cs:=[a,b]) (zbsZ hr) c0 rfl (by simp)]; rfl
 ·exact zcZ h1 λi hi=>gSN (fun (e : oi=i) => nro (e ▸ hi))
 ·refine zcZ h.sb λi hi=>?_
  rw [gSN (fun (e : oi=i) => h.noB (e ▸ hi))];exact hk i (zrZ h.sb i hi) λq=>h.ab i q hi
 ·rcases h4 i hi with q | q
  ·exact h.ab i q hb
  ·have:=zrZ h.sb i hb; omega
 ·rw [gSN (by omega)]
  exact hk j (by omega) λq=>by have:=h.ia j q; omega
theorem ImH.newB {L oi : Nat} {ns : List Nm} {dv ew : List NdV} {a b r : AV} {H H' : AH} (h : ImH L oi ns dv a b H) (hl : H.length≤H'.length) (hk : ∀ i,i < H.length→i ∉ idS b→H'[i]? = H[i]?) (h1 : zaZ H' 3 r=some (ew.flatMap encD,ew.length)) (h2 : zjsZ r=true) (h3 : capOk r ew.length) (h4 : ∀ i ∈ idS r,i ∈ idS b∨H.length≤i) :
  ∃ H2,ast 1 H' (.ptr oi 1) r=some H2∧ImH L oi ns ew a r H2∧FrL L oi H H2:=by
 have c0 : H'[oi]? = some (some (.cells [a,b])):=by rw [hk oi (gSI.1 h.obj).1 h.noB]; exact h.obj
 have hr:=zbiZ h2;have hol1:=(gSI.1 h.obj).1;have nro : oi ∉ idS r:=λq=>(h4 oi q).elim h.noB (λq=>by omega)
 have hle:=h.len;have hol:=(gSI.1 c0).1;have nr : ∀ i ∈ idS r,L≤i:=λi hi=>(h4 i hi).elim (h.ib i) (λq=>by omega)
 refine ⟨H'.set oi (some (.cells [a,r])), ?_,⟨by simp [hol],⟨h.noA,nro⟩,by simp; omega, ?_,h.oa,h.ca,h.ia, ?_,h2,h3,nr,λi ha hi=>?_⟩,⟨by simp; omega,λj h5 h6=>?_⟩⟩
 ·rw [zcoZ (n:=1) (off:=1) (xs:=[r]) (cs:=[a,b]) (zbsZ hr) c0 rfl (by simp)]; rfl
 ·refine zcZ h.sa λi hi=>?_
  rw [gSN (fun (e : oi=i) => h.noA (e ▸ hi))];exact hk i (zrZ h.sa i hi) λq=>h.ab i hi q
 ·exact zcZ h1 λi hi=>gSN (fun (e : oi=i) => nro (e ▸ hi))
 ·rcases h4 i hi with q | q
  ·exact h.ab i ha q
  ·have:=zrZ h.sa i ha; omega
 ·rw [gSN (by omega)]
  exact hk j (by omega) λq=>by have:=h.ib j q; omega
section
variable {P : Program}
def OpIs (P : Program) (ops : List Oper) (T : List AV) (i : Nat) (need : List Nat) (F : (Nat→AV)→AH→(AV→AH→Prop)→Prop) : Prop :=
 ∃ o,ops[i]? = some o∧o.guard=none∧(∀ j ∈ need,∃ e ∈ o.after,Region.binds .any e=true∧e.on=j)∧∀ vals H K,F vals H K→AStep P (pt ops vals (λ_=>true) T i) H o K
def needsB (o : Oper) (need : List Nat) : Bool:=need.all λj=>o.after.toList.any λe=>Region.binds .any e && Nat.beq e.on j
theorem needsB_ok {o : Oper} {need : List Nat} (h : needsB o need=true) : ∀ j ∈ need,∃ e ∈ o.after,Region.binds .any e=true∧e.on=j:=by
 intro j hj
 have:=List.all_eq_true.1 h j hj
 obtain ⟨e,he,hb⟩:=List.any_eq_true.1 this;simp only [Bool.and_eq_true] at hb;exact ⟨e,by simpa using he,hb.1,Nat.eq_of_beq_eq_true hb.2⟩
theorem OpIs.call {ops : List Oper} {T : List AV} {i : Nat} {need : List Nat} {F : (Nat→AV)→AH→(AV→AH→Prop)→Prop} (o : Oper) (ho : ops[i]? = some o) (hg : o.guard=none) (hn : needsB o need=true) (k : FuncId) (args : (Nat→AV)→List AV) (hk : zbchZ P k=true)
  (hc : ∀ vals,acall (aeval (pt ops vals (λ_=>true) T i)) o=some (k,args vals)) (hF : ∀ vals H K,F vals H K→ACalls P k (args vals) H K) : OpIs P ops T i need F :=
 ⟨o,ho,hg,needsB_ok hn,λvals H K h=>.inr (.inr ⟨k,args vals,hc vals,hk,hF vals H K h⟩)⟩
def valUp (vals : Nat→AV) (i : Nat) (r : AV) : Nat→AV:=λj=>if j=i then r else vals j
theorem ACode.told {id : Nat} {ops : List Oper} {Q : AQ} {T : List AV} {H : AH} (hm : P.follows .mixedOrders=true) (hk : ordOk ops=true) (Inv : AH→(Nat→AV)→(Nat→Bool)→Prop) (v0 : Nat→AV) (h0 : Inv H v0 (λ_=>false))
  (hs : ∀ i,i < ops.length→∃ need F,OpIs P ops T i need F∧∀ (S : Nat→Bool) Hc vals,S i=false→(∀ j ∈ need,S j=true)→Inv Hc vals S→F vals Hc λr H'=>Inv H' (valUp vals i r) (upd S i))
  (last : ∀ Hc vals S,(∀ j,j < ops.length→S j=true)→Inv Hc vals S→Q .normal (pt ops vals (λ_=>true) T ops.length) Hc) : ACode P (.region id ops.toArray true) Q T H:=by
 refine ACode.drawn hm hk (Ω:=AH × (Nat→AV)) (λω S=>Inv ω.1 ω.2 S) (λω=>ω.2) (λω _=>ω.1) (H,v0) h0 rfl ?_ (λω S hS hI=>last ω.1 ω.2 S hS hI);intro ω S i o hr hI;obtain ⟨ho,hcl,hSi,haft⟩:=hr;obtain ⟨need,F,⟨o',ho',hg,hn,hF⟩,hstep⟩:=hs i (gSI.1 ho).1;rw [ho] at ho';injection ho' with ho';subst ho';refine ⟨true,by unfold zmbZ; rw [hg],λ_=>?_,λh=>by cases h⟩
 have h1:=hF ω.2 ω.1 _ (hstep S ω.1 ω.2 hSi (λj hj=>by
  obtain ⟨e,he,hb,rfl⟩:=hn j hj;exact haft e he hb) hI)
 have conv : ∀ r H',Inv H' (valUp ω.2 i r) (upd S i)→∃ ω' : AH × (Nat→AV),Inv ω'.1 ω'.2 (upd S i)∧(∀ j,S j=true→ω'.2 j=ω.2 j)∧ω'.2 i=r∧ω'.1=H':=by
  intro r H' h;refine ⟨(H',valUp ω.2 i r),h,λj hj=>?_,by simp [valUp],rfl⟩;have : j ≠ i:=by rintro rfl; rw [hSi] at hj; cases hj
  simp [valUp,this]
 rcases h1 with ⟨r,H',h2,h3⟩ | ⟨r,h2,h3⟩ | ⟨k,args,h2,h3,h4⟩
 ·exact .inl ⟨r,H',h2,conv _ _ h3⟩
 ·exact .inr (.inl ⟨r,h2,conv _ _ h3⟩)
 ·exact .inr (.inr ⟨k,args,h2,h3,h4.mono conv⟩)
end
end Go.Proofs.YtlhiaihmkjlaaaaGreat.Av
end
section
namespace Go.Proofs.YtlhiaihmkjlaaaaGreat.Av
open Go Go.RowKit
section
variable {P : Program}
theorem OpIs.opB {ql : FuncId→Bool} {ops : List Oper} {T : List AV} {i : Nat} {need : List Nat} {F : (Nat→AV)→AH→(AV→AH→Prop)→Prop} (o : Oper) (ho : ops[i]? = some o) (hg : o.guard=none) (hn : needsB o need=true) (hc : ∀ ρ,acall ρ o=none)
  (hF : ∀ vals H K,F vals H K→sOp P ql none0 false (aeval (pt ops vals (λ_=>true) T i)) H o true K) : OpIs P ops T i need F:=by
 refine ⟨o,ho,hg,needsB_ok hn,λvals H K h=>?_⟩;obtain ⟨r,H',h1,h2,-⟩:=sOp_one (hF vals H K h);rcases h2 with ⟨-,h2 | ⟨h2,h3⟩⟩ | ⟨h2,-⟩
 ·have e : opD P false (aeval (pt ops vals (λ_=>true) T i)) H o=aop P (aeval (pt ops vals (λ_=>true) T i)) H o:=by unfold opD; simp
  rw [e] at h2;exact .inl ⟨r,H',h2,h1⟩
 ·exfalso
  unfold wCall at h3;rw [hc] at h3; exact h3
 ·cases h2
theorem ACode.told2 {id : Nat} {ops : List Oper} {Q : AQ} {T : List AV} {H : AH} (hm : P.follows .mixedOrders=true) (hk : ordOk ops=true) (need : Nat→List Nat) (F : Nat→(Nat→AV)→AH→(AV→AH→Prop)→Prop) (V : Nat→AV) (hp : (Nat→Bool)→AH)
  (ho : ∀ i,i < ops.length→OpIs P ops T i (need i) (F i)) (h0 : hp (λ_=>false)=H)
  (hs : ∀ i,i < ops.length→∀ (S : Nat→Bool) vals,S i=false→(∀ a,S a=true→∀ b ∈ need a,S b=true)→(∀ j ∈ need i,S j=true∧vals j=V j)→F i vals (hp S) λr H'=>r=V i∧H'=hp (upd S i))
  (last : ∀ (S : Nat→Bool) vals,(∀ j,j < ops.length→S j=true∧vals j=V j)→Q .normal (pt ops vals (λ_=>true) T ops.length) (hp S)) : ACode P (.region id ops.toArray true) Q T H:=by
 refine ACode.told hm hk (λHc vals S=>Hc=hp S∧(∀ j,S j=true→vals j=V j)∧∀ a,S a=true→∀ b ∈ need a,S b=true) (λ_=>zgmZ) ⟨h0.symm,by simp,by simp⟩ ?_ ?_
 ·intro i hi
  obtain ⟨o,h1,h2,h3,h4⟩:=ho i hi
  -- whatever F tells for one K,it tells for a greater one
  refine ⟨need i,λvals Hc K=>∃ S,Hc=hp S∧S i=false∧(∀ a,S a=true→∀ b ∈ need a,S b=true)∧(∀ j ∈ need i,S j=true∧vals j=V j)∧K (V i) (hp (upd S i)),⟨o,h1,h2,h3, ?_⟩, ?_⟩
  ·rintro vals Hc K ⟨S,rfl,hS,hcl,hn,hK⟩
   have:=h4 vals (hp S) _ (hs i hi S vals hS hcl hn)
   rcases this with ⟨r,H',a1,rfl,rfl⟩ | ⟨r,a1,rfl,a2⟩ | ⟨k,args,a1,a2,a3⟩
   ·exact .inl ⟨_,_,a1,hK⟩
   ·exact .inr (.inl ⟨_,a1,by rw [a2]; exact hK⟩)
   ·exact .inr (.inr ⟨k,args,a1,a2,a3.mono (by rintro r H' ⟨rfl,rfl⟩; exact hK)⟩)
  ·rintro S Hc vals hSi hn ⟨rfl,hv,hcl⟩
   refine ⟨S,rfl,hSi,hcl,λj hj=>⟨hn j hj,hv j (hn j hj)⟩,rfl,λj hj=>?_,λa ha b hb=>?_⟩
   ·unfold valUp
    by_cases c : j=i
    ·rw [if_pos c,c]
    ·rw [if_neg c]
     unfold upd at hj;rw [if_neg c] at hj;exact hv j hj
   ·unfold upd at ha ⊢
    by_cases c : b=i
    ·rw [if_pos c]
    ·rw [if_neg c]
     by_cases c2 : a=i
     ·subst c2; exact hn b hb
     ·rw [if_neg c2] at ha; exact hcl a ha b hb
 ·rintro Hc vals S hS ⟨rfl,h1,h2⟩
  exact last S vals λj hj=>⟨hS j hj,h1 j (hS j hj)⟩
end
end Go.Proofs.YtlhiaihmkjlaaaaGreat.Av
end
section
namespace Go.Proofs.YtlhiaihmkjlaaaaGreat.Av
open Go Go.RowKit
noncomputable def crNOps : List Oper:=(opsOf (sub [true,true,true,true,false] (zhyZ Tryz.f112))).toList
def crNT (x0 x3 x4 x6 : AV) : List AV:=zzyZ (mk 82 0 [0,3,4,6]) [x0,x3,x4,x6]
theorem crNLen : crNOps.length=16:=by kernel_rfl
theorem crNOrd : ordOk crNOps=true:=by kernel_rfl
theorem crN_e0 (x0 x3 x4 x6 : AV) (vals : Nat→AV) (H : AH) (K : AV→AH→Prop) : sOp Tryz.prog pqb none0 false (aeval (pt crNOps vals (λ_=>true) (crNT x0 x3 x4 x6) 0)) H (crNOps.getD 0 default) true K=gO true (some x0) λv=>K v H:=by kernel_rfl
theorem crN_op0 (x0 x3 x4 x6 : AV) : OpIs Tryz.prog crNOps (crNT x0 x3 x4 x6) 0 [] λvals H K=>gO true (some x0) λv=>K v H:=by
 refine OpIs.opB (ql:=pqb) (crNOps.getD 0 default) (by kernel_rfl) (by kernel_rfl) (by kernel_rfl) (λρ=>by kernel_rfl) ?_;intro vals H K h;rw [crN_e0];exact h
theorem crN_e1 (x0 x3 x4 x6 : AV) (vals : Nat→AV) (H : AH) (K : AV→AH→Prop) : sOp Tryz.prog pqb none0 false (aeval (pt crNOps vals (λ_=>true) (crNT x0 x3 x4 x6) 1)) H (crNOps.getD 1 default) true K=gO true (some x0) λv=>K v H:=by kernel_rfl
theorem crN_op1 (x0 x3 x4 x6 : AV) : OpIs Tryz.prog crNOps (crNT x0 x3 x4 x6) 1 [] λvals H K=>gO true (some x0) λv=>K v H:=by
 refine OpIs.opB (ql:=pqb) (crNOps.getD 1 default) (by kernel_rfl) (by kernel_rfl) (by kernel_rfl) (λρ=>by kernel_rfl) ?_;intro vals H K h;rw [crN_e1];exact h
theorem crN_e2 (x0 x3 x4 x6 : AV) (vals : Nat→AV) (H : AH) (K : AV→AH→Prop) : sOp Tryz.prog pqb none0 false (aeval (pt crNOps vals (λ_=>true) (crNT x0 x3 x4 x6) 2)) H (crNOps.getD 2 default) true K=gO true (zgZ (vals 1)) λv=>K v H:=by kernel_rfl
theorem crN_op2 (x0 x3 x4 x6 : AV) : OpIs Tryz.prog crNOps (crNT x0 x3 x4 x6) 2 [1] λvals H K=>gO true (zgZ (vals 1)) λv=>K v H:=by
 refine OpIs.opB (ql:=pqb) (crNOps.getD 2 default) (by kernel_rfl) (by kernel_rfl) (by kernel_rfl) (λρ=>by kernel_rfl) ?_;intro vals H K h;rw [crN_e2];exact h
theorem crN_e3 (x0 x3 x4 x6 : AV) (vals : Nat→AV) (H : AH) (K : AV→AH→Prop) : sOp Tryz.prog pqb none0 false (aeval (pt crNOps vals (λ_=>true) (crNT x0 x3 x4 x6) 3)) H (crNOps.getD 3 default) true K=gO true (zhZ 0 (vals 2)) λv=>K v H:=by kernel_rfl
theorem crN_op3 (x0 x3 x4 x6 : AV) : OpIs Tryz.prog crNOps (crNT x0 x3 x4 x6) 3 [2] λvals H K=>gO true (zhZ 0 (vals 2)) λv=>K v H:=by
 refine OpIs.opB (ql:=pqb) (crNOps.getD 3 default) (by kernel_rfl) (by kernel_rfl) (by kernel_rfl) (λρ=>by kernel_rfl) ?_;intro vals H K h;rw [crN_e3];exact h
theorem crN_e4 (x0 x3 x4 x6 : AV) (vals : Nat→AV) (H : AH) (K : AV→AH→Prop) : sOp Tryz.prog pqb none0 false (aeval (pt crNOps vals (λ_=>true) (crNT x0 x3 x4 x6) 4)) H (crNOps.getD 4 default) true K=gO true (ald false 1 H (vals 3)) λv=>K v H:=by kernel_rfl
theorem crN_op4 (x0 x3 x4 x6 : AV) : OpIs Tryz.prog crNOps (crNT x0 x3 x4 x6) 4 [3] λvals H K=>gO true (ald false 1 H (vals 3)) λv=>K v H:=by
 refine OpIs.opB (ql:=pqb) (crNOps.getD 4 default) (by kernel_rfl) (by kernel_rfl) (by kernel_rfl) (λρ=>by kernel_rfl) ?_;intro vals H K h;rw [crN_e4];exact h
theorem crN_e5 (x0 x3 x4 x6 : AV) (vals : Nat→AV) (H : AH) (K : AV→AH→Prop) : sOp Tryz.prog pqb none0 false (aeval (pt crNOps vals (λ_=>true) (crNT x0 x3 x4 x6) 5)) H (crNOps.getD 5 default) true K=gO true (some x4) λv=>K v H:=by kernel_rfl
theorem crN_op5 (x0 x3 x4 x6 : AV) : OpIs Tryz.prog crNOps (crNT x0 x3 x4 x6) 5 [] λvals H K=>gO true (some x4) λv=>K v H:=by
 refine OpIs.opB (ql:=pqb) (crNOps.getD 5 default) (by kernel_rfl) (by kernel_rfl) (by kernel_rfl) (λρ=>by kernel_rfl) ?_;intro vals H K h;rw [crN_e5];exact h
theorem crN_e6 (x0 x3 x4 x6 : AV) (vals : Nat→AV) (H : AH) (K : AV→AH→Prop) : sOp Tryz.prog pqb none0 false (aeval (pt crNOps vals (λ_=>true) (crNT x0 x3 x4 x6) 6)) H (crNOps.getD 6 default) true K=gO true (zhZ 5 x3) λv=>K v H:=by kernel_rfl
theorem crN_op6 (x0 x3 x4 x6 : AV) : OpIs Tryz.prog crNOps (crNT x0 x3 x4 x6) 6 [] λvals H K=>gO true (zhZ 5 x3) λv=>K v H:=by
 refine OpIs.opB (ql:=pqb) (crNOps.getD 6 default) (by kernel_rfl) (by kernel_rfl) (by kernel_rfl) (λρ=>by kernel_rfl) ?_;intro vals H K h;rw [crN_e6];exact h
theorem crN_e7 (x0 x3 x4 x6 : AV) (vals : Nat→AV) (H : AH) (K : AV→AH→Prop) : sOp Tryz.prog pqb none0 false (aeval (pt crNOps vals (λ_=>true) (crNT x0 x3 x4 x6) 7)) H (crNOps.getD 7 default) true K=gO true (ald false 1 H (vals 6)) λv=>K v H:=by kernel_rfl
theorem crN_op7 (x0 x3 x4 x6 : AV) : OpIs Tryz.prog crNOps (crNT x0 x3 x4 x6) 7 [6] λvals H K=>gO true (ald false 1 H (vals 6)) λv=>K v H:=by
 refine OpIs.opB (ql:=pqb) (crNOps.getD 7 default) (by kernel_rfl) (by kernel_rfl) (by kernel_rfl) (λρ=>by kernel_rfl) ?_;intro vals H K h;rw [crN_e7];exact h
theorem crN_e8 (x0 x3 x4 x6 : AV) (vals : Nat→AV) (H : AH) (K : AV→AH→Prop) : sOp Tryz.prog pqb none0 false (aeval (pt crNOps vals (λ_=>true) (crNT x0 x3 x4 x6) 8)) H (crNOps.getD 8 default) true K=gO true (zhZ 1 x3) λv=>K v H:=by kernel_rfl
theorem crN_op8 (x0 x3 x4 x6 : AV) : OpIs Tryz.prog crNOps (crNT x0 x3 x4 x6) 8 [] λvals H K=>gO true (zhZ 1 x3) λv=>K v H:=by
 refine OpIs.opB (ql:=pqb) (crNOps.getD 8 default) (by kernel_rfl) (by kernel_rfl) (by kernel_rfl) (λρ=>by kernel_rfl) ?_;intro vals H K h;rw [crN_e8];exact h
theorem crN_e9 (x0 x3 x4 x6 : AV) (vals : Nat→AV) (H : AH) (K : AV→AH→Prop) : sOp Tryz.prog pqb none0 false (aeval (pt crNOps vals (λ_=>true) (crNT x0 x3 x4 x6) 9)) H (crNOps.getD 9 default) true K=gO true (ald false 1 H (vals 8)) λv=>K v H:=by kernel_rfl
theorem crN_op9 (x0 x3 x4 x6 : AV) : OpIs Tryz.prog crNOps (crNT x0 x3 x4 x6) 9 [8] λvals H K=>gO true (ald false 1 H (vals 8)) λv=>K v H:=by
 refine OpIs.opB (ql:=pqb) (crNOps.getD 9 default) (by kernel_rfl) (by kernel_rfl) (by kernel_rfl) (λρ=>by kernel_rfl) ?_;intro vals H K h;rw [crN_e9];exact h
theorem crN_e10 (x0 x3 x4 x6 : AV) (vals : Nat→AV) (H : AH) (K : AV→AH→Prop) : sOp Tryz.prog pqb none0 false (aeval (pt crNOps vals (λ_=>true) (crNT x0 x3 x4 x6) 10)) H (crNOps.getD 10 default) true K=gO true (abl zN [(0,1,(vals 7)),(1,1,(vals 9))]) λv=>K v H:=by kernel_rfl
theorem crN_op10 (x0 x3 x4 x6 : AV) : OpIs Tryz.prog crNOps (crNT x0 x3 x4 x6) 10 [7,9] λvals H K=>gO true (abl zN [(0,1,(vals 7)),(1,1,(vals 9))]) λv=>K v H:=by
 refine OpIs.opB (ql:=pqb) (crNOps.getD 10 default) (by kernel_rfl) (by kernel_rfl) (by kernel_rfl) (λρ=>by kernel_rfl) ?_;intro vals H K h;rw [crN_e10];exact h
theorem crN_e11 (x0 x3 x4 x6 : AV) (vals : Nat→AV) (H : AH) (K : AV→AH→Prop) : sOp Tryz.prog pqb none0 false (aeval (pt crNOps vals (λ_=>true) (crNT x0 x3 x4 x6) 11)) H (crNOps.getD 11 default) true K=gH true (absl H 2 1 (zrow zN 1) [(0,2,(vals 10))]) H K:=by kernel_rfl
theorem crN_op11 (x0 x3 x4 x6 : AV) : OpIs Tryz.prog crNOps (crNT x0 x3 x4 x6) 11 [10] λvals H K=>gH true (absl H 2 1 (zrow zN 1) [(0,2,(vals 10))]) H K:=by
 refine OpIs.opB (ql:=pqb) (crNOps.getD 11 default) (by kernel_rfl) (by kernel_rfl) (by kernel_rfl) (λρ=>by kernel_rfl) ?_;intro vals H K h;rw [crN_e11];exact h
theorem crN_op12 (x0 x3 x4 x6 : AV) : OpIs Tryz.prog crNOps (crNT x0 x3 x4 x6) 12 [4,5,11] λvals H K=>ACalls Tryz.prog 166 [(vals 4),(vals 5),(vals 11)] H K :=
 OpIs.call (crNOps.getD 12 default) (by kernel_rfl) (by kernel_rfl) (by kernel_rfl) _ (λvals=>[(vals 4),(vals 5),(vals 11)]) (by kernel_rfl) (λvals=>by kernel_rfl) (λvals H K h=>h)
theorem crN_e13 (x0 x3 x4 x6 : AV) (vals : Nat→AV) (H : AH) (K : AV→AH→Prop) : sOp Tryz.prog pqb none0 false (aeval (pt crNOps vals (λ_=>true) (crNT x0 x3 x4 x6) 13)) H (crNOps.getD 13 default) true K=gO true (zgZ (vals 0)) λv=>K v H:=by kernel_rfl
theorem crN_op13 (x0 x3 x4 x6 : AV) : OpIs Tryz.prog crNOps (crNT x0 x3 x4 x6) 13 [0,1,2,3,4,5,6,7,8,9,10,11,12] λvals H K=>gO true (zgZ (vals 0)) λv=>K v H:=by
 refine OpIs.opB (ql:=pqb) (crNOps.getD 13 default) (by kernel_rfl) (by kernel_rfl) (by kernel_rfl) (λρ=>by kernel_rfl) ?_;intro vals H K h;rw [crN_e13];exact h
theorem crN_e14 (x0 x3 x4 x6 : AV) (vals : Nat→AV) (H : AH) (K : AV→AH→Prop) : sOp Tryz.prog pqb none0 false (aeval (pt crNOps vals (λ_=>true) (crNT x0 x3 x4 x6) 14)) H (crNOps.getD 14 default) true K=gO true (zhZ 0 (vals 13)) λv=>K v H:=by kernel_rfl
theorem crN_op14 (x0 x3 x4 x6 : AV) : OpIs Tryz.prog crNOps (crNT x0 x3 x4 x6) 14 [0,1,2,3,4,5,6,7,8,9,10,11,12,13] λvals H K=>gO true (zhZ 0 (vals 13)) λv=>K v H:=by
 refine OpIs.opB (ql:=pqb) (crNOps.getD 14 default) (by kernel_rfl) (by kernel_rfl) (by kernel_rfl) (λρ=>by kernel_rfl) ?_;intro vals H K h;rw [crN_e14];exact h
theorem crN_e15 (x0 x3 x4 x6 : AV) (vals : Nat→AV) (H : AH) (K : AV→AH→Prop) : sOp Tryz.prog pqb none0 false (aeval (pt crNOps vals (λ_=>true) (crNT x0 x3 x4 x6) 15)) H (crNOps.getD 15 default) true K=gS true (ast 1 H (vals 14) (vals 12)) H λH'=>K zgmZ H':=by kernel_rfl
theorem crN_op15 (x0 x3 x4 x6 : AV) : OpIs Tryz.prog crNOps (crNT x0 x3 x4 x6) 15 [0,1,2,3,4,5,6,7,8,9,10,11,12,14] λvals H K=>gS true (ast 1 H (vals 14) (vals 12)) H λH'=>K zgmZ H':=by
 refine OpIs.opB (ql:=pqb) (crNOps.getD 15 default) (by kernel_rfl) (by kernel_rfl) (by kernel_rfl) (λρ=>by kernel_rfl) ?_;intro vals H K h;rw [crN_e15];exact h
def crNNeed : List (List Nat):=[[],[],[1],[2],[3],[],[],[6],[],[8],[7,9],[10],[4,5,11],[0,1,2,3,4,5,6,7,8,9,10,11,12],[0,1,2,3,4,5,6,7,8,9,10,11,12,13],[0,1,2,3,4,5,6,7,8,9,10,11,12,14]]
def crNF (x0 x3 x4 x6 : AV) : List ((Nat→AV)→AH→(AV→AH→Prop)→Prop):=[
 λvals H K=>gO true (some x0) λv=>K v H,
 λvals H K=>gO true (some x0) λv=>K v H,
 λvals H K=>gO true (zgZ (vals 1)) λv=>K v H,
 λvals H K=>gO true (zhZ 0 (vals 2)) λv=>K v H,
 λvals H K=>gO true (ald false 1 H (vals 3)) λv=>K v H,
 λvals H K=>gO true (some x4) λv=>K v H,
 λvals H K=>gO true (zhZ 5 x3) λv=>K v H,
 λvals H K=>gO true (ald false 1 H (vals 6)) λv=>K v H,
 λvals H K=>gO true (zhZ 1 x3) λv=>K v H,
 λvals H K=>gO true (ald false 1 H (vals 8)) λv=>K v H,
 λvals H K=>gO true (abl zN [(0,1,(vals 7)),(1,1,(vals 9))]) λv=>K v H,
 λvals H K=>gH true (absl H 2 1 (zrow zN 1) [(0,2,(vals 10))]) H K,
 λvals H K=>ACalls Tryz.prog 166 [(vals 4),(vals 5),(vals 11)] H K,
 λvals H K=>gO true (zgZ (vals 0)) λv=>K v H,
 λvals H K=>gO true (zhZ 0 (vals 13)) λv=>K v H,
 λvals H K=>gS true (ast 1 H (vals 14) (vals 12)) H λH'=>K zgmZ H']
theorem crNIs (x0 x3 x4 x6 : AV) : ∀ i,i < crNOps.length→OpIs Tryz.prog crNOps (crNT x0 x3 x4 x6) i (crNNeed.getD i []) ((crNF x0 x3 x4 x6).getD i (λ_ _ _=>False)):=by
 intro i hi;rw [crNLen] at hi;have : i=0∨i=1∨i=2∨i=3∨i=4∨i=5∨i=6∨i=7∨i=8∨i=9∨i=10∨i=11∨i=12∨i=13∨i=14∨i=15:=by omega
 rcases this with rfl | rfl | rfl | rfl | rfl | rfl | rfl | rfl | rfl | rfl | rfl | rfl | rfl | rfl | rfl | rfl
 ·exact crN_op0 x0 x3 x4 x6
 ·exact crN_op1 x0 x3 x4 x6
 ·exact crN_op2 x0 x3 x4 x6
 ·exact crN_op3 x0 x3 x4 x6
 ·exact crN_op4 x0 x3 x4 x6
 ·exact crN_op5 x0 x3 x4 x6
 ·exact crN_op6 x0 x3 x4 x6
 ·exact crN_op7 x0 x3 x4 x6
 ·exact crN_op8 x0 x3 x4 x6
 ·exact crN_op9 x0 x3 x4 x6
 ·exact crN_op10 x0 x3 x4 x6
 ·exact crN_op11 x0 x3 x4 x6
 ·exact crN_op12 x0 x3 x4 x6
 ·exact crN_op13 x0 x3 x4 x6
 ·exact crN_op14 x0 x3 x4 x6
 ·exact crN_op15 x0 x3 x4 x6
noncomputable def crDOps : List Oper:=(opsOf (sub [true,true,true,true,true] (zhyZ Tryz.f112))).toList
def crDT (x0 x3 x6 : AV) : List AV:=zzyZ (mk 82 0 [0,3,6]) [x0,x3,x6]
theorem crDLen : crDOps.length=14:=by kernel_rfl
theorem crDOrd : ordOk crDOps=true:=by kernel_rfl
theorem crD_e0 (x0 x3 x6 : AV) (vals : Nat→AV) (H : AH) (K : AV→AH→Prop) : sOp Tryz.prog pqb none0 false (aeval (pt crDOps vals (λ_=>true) (crDT x0 x3 x6) 0)) H (crDOps.getD 0 default) true K=gO true (some x0) λv=>K v H:=by kernel_rfl
theorem crD_op0 (x0 x3 x6 : AV) : OpIs Tryz.prog crDOps (crDT x0 x3 x6) 0 [] λvals H K=>gO true (some x0) λv=>K v H:=by
 refine OpIs.opB (ql:=pqb) (crDOps.getD 0 default) (by kernel_rfl) (by kernel_rfl) (by kernel_rfl) (λρ=>by kernel_rfl) ?_;intro vals H K h;rw [crD_e0];exact h
theorem crD_e1 (x0 x3 x6 : AV) (vals : Nat→AV) (H : AH) (K : AV→AH→Prop) : sOp Tryz.prog pqb none0 false (aeval (pt crDOps vals (λ_=>true) (crDT x0 x3 x6) 1)) H (crDOps.getD 1 default) true K=gO true (some x0) λv=>K v H:=by kernel_rfl
theorem crD_op1 (x0 x3 x6 : AV) : OpIs Tryz.prog crDOps (crDT x0 x3 x6) 1 [] λvals H K=>gO true (some x0) λv=>K v H:=by
 refine OpIs.opB (ql:=pqb) (crDOps.getD 1 default) (by kernel_rfl) (by kernel_rfl) (by kernel_rfl) (λρ=>by kernel_rfl) ?_;intro vals H K h;rw [crD_e1];exact h
theorem crD_e2 (x0 x3 x6 : AV) (vals : Nat→AV) (H : AH) (K : AV→AH→Prop) : sOp Tryz.prog pqb none0 false (aeval (pt crDOps vals (λ_=>true) (crDT x0 x3 x6) 2)) H (crDOps.getD 2 default) true K=gO true (zgZ (vals 1)) λv=>K v H:=by kernel_rfl
theorem crD_op2 (x0 x3 x6 : AV) : OpIs Tryz.prog crDOps (crDT x0 x3 x6) 2 [1] λvals H K=>gO true (zgZ (vals 1)) λv=>K v H:=by
 refine OpIs.opB (ql:=pqb) (crDOps.getD 2 default) (by kernel_rfl) (by kernel_rfl) (by kernel_rfl) (λρ=>by kernel_rfl) ?_;intro vals H K h;rw [crD_e2];exact h
theorem crD_e3 (x0 x3 x6 : AV) (vals : Nat→AV) (H : AH) (K : AV→AH→Prop) : sOp Tryz.prog pqb none0 false (aeval (pt crDOps vals (λ_=>true) (crDT x0 x3 x6) 3)) H (crDOps.getD 3 default) true K=gO true (zhZ 1 (vals 2)) λv=>K v H:=by kernel_rfl
theorem crD_op3 (x0 x3 x6 : AV) : OpIs Tryz.prog crDOps (crDT x0 x3 x6) 3 [2] λvals H K=>gO true (zhZ 1 (vals 2)) λv=>K v H:=by
 refine OpIs.opB (ql:=pqb) (crDOps.getD 3 default) (by kernel_rfl) (by kernel_rfl) (by kernel_rfl) (λρ=>by kernel_rfl) ?_;intro vals H K h;rw [crD_e3];exact h
theorem crD_e4 (x0 x3 x6 : AV) (vals : Nat→AV) (H : AH) (K : AV→AH→Prop) : sOp Tryz.prog pqb none0 false (aeval (pt crDOps vals (λ_=>true) (crDT x0 x3 x6) 4)) H (crDOps.getD 4 default) true K=gO true (ald false 1 H (vals 3)) λv=>K v H:=by kernel_rfl
theorem crD_op4 (x0 x3 x6 : AV) : OpIs Tryz.prog crDOps (crDT x0 x3 x6) 4 [3] λvals H K=>gO true (ald false 1 H (vals 3)) λv=>K v H:=by
 refine OpIs.opB (ql:=pqb) (crDOps.getD 4 default) (by kernel_rfl) (by kernel_rfl) (by kernel_rfl) (λρ=>by kernel_rfl) ?_;intro vals H K h;rw [crD_e4];exact h
theorem crD_e5 (x0 x3 x6 : AV) (vals : Nat→AV) (H : AH) (K : AV→AH→Prop) : sOp Tryz.prog pqb none0 false (aeval (pt crDOps vals (λ_=>true) (crDT x0 x3 x6) 5)) H (crDOps.getD 5 default) true K=gO true (some x6) λv=>K v H:=by kernel_rfl
theorem crD_op5 (x0 x3 x6 : AV) : OpIs Tryz.prog crDOps (crDT x0 x3 x6) 5 [] λvals H K=>gO true (some x6) λv=>K v H:=by
 refine OpIs.opB (ql:=pqb) (crDOps.getD 5 default) (by kernel_rfl) (by kernel_rfl) (by kernel_rfl) (λρ=>by kernel_rfl) ?_;intro vals H K h;rw [crD_e5];exact h
theorem crD_e6 (x0 x3 x6 : AV) (vals : Nat→AV) (H : AH) (K : AV→AH→Prop) : sOp Tryz.prog pqb none0 false (aeval (pt crDOps vals (λ_=>true) (crDT x0 x3 x6) 6)) H (crDOps.getD 6 default) true K=gO true (zhZ 1 x3) λv=>K v H:=by kernel_rfl
theorem crD_op6 (x0 x3 x6 : AV) : OpIs Tryz.prog crDOps (crDT x0 x3 x6) 6 [] λvals H K=>gO true (zhZ 1 x3) λv=>K v H:=by
 refine OpIs.opB (ql:=pqb) (crDOps.getD 6 default) (by kernel_rfl) (by kernel_rfl) (by kernel_rfl) (λρ=>by kernel_rfl) ?_;intro vals H K h;rw [crD_e6];exact h
theorem crD_e7 (x0 x3 x6 : AV) (vals : Nat→AV) (H : AH) (K : AV→AH→Prop) : sOp Tryz.prog pqb none0 false (aeval (pt crDOps vals (λ_=>true) (crDT x0 x3 x6) 7)) H (crDOps.getD 7 default) true K=gO true (ald false 1 H (vals 6)) λv=>K v H:=by kernel_rfl
theorem crD_op7 (x0 x3 x6 : AV) : OpIs Tryz.prog crDOps (crDT x0 x3 x6) 7 [6] λvals H K=>gO true (ald false 1 H (vals 6)) λv=>K v H:=by
 refine OpIs.opB (ql:=pqb) (crDOps.getD 7 default) (by kernel_rfl) (by kernel_rfl) (by kernel_rfl) (λρ=>by kernel_rfl) ?_;intro vals H K h;rw [crD_e7];exact h
theorem crD_e8 (x0 x3 x6 : AV) (vals : Nat→AV) (H : AH) (K : AV→AH→Prop) : sOp Tryz.prog pqb none0 false (aeval (pt crDOps vals (λ_=>true) (crDT x0 x3 x6) 8)) H (crDOps.getD 8 default) true K=gO true (abl zD [(0,1,(vals 7))]) λv=>K v H:=by kernel_rfl
theorem crD_op8 (x0 x3 x6 : AV) : OpIs Tryz.prog crDOps (crDT x0 x3 x6) 8 [7] λvals H K=>gO true (abl zD [(0,1,(vals 7))]) λv=>K v H:=by
 refine OpIs.opB (ql:=pqb) (crDOps.getD 8 default) (by kernel_rfl) (by kernel_rfl) (by kernel_rfl) (λρ=>by kernel_rfl) ?_;intro vals H K h;rw [crD_e8];exact h
theorem crD_e9 (x0 x3 x6 : AV) (vals : Nat→AV) (H : AH) (K : AV→AH→Prop) : sOp Tryz.prog pqb none0 false (aeval (pt crDOps vals (λ_=>true) (crDT x0 x3 x6) 9)) H (crDOps.getD 9 default) true K=gH true (absl H 3 1 (zrow zD 1) [(0,3,(vals 8))]) H K:=by kernel_rfl
theorem crD_op9 (x0 x3 x6 : AV) : OpIs Tryz.prog crDOps (crDT x0 x3 x6) 9 [8] λvals H K=>gH true (absl H 3 1 (zrow zD 1) [(0,3,(vals 8))]) H K:=by
 refine OpIs.opB (ql:=pqb) (crDOps.getD 9 default) (by kernel_rfl) (by kernel_rfl) (by kernel_rfl) (λρ=>by kernel_rfl) ?_;intro vals H K h;rw [crD_e9];exact h
theorem crD_op10 (x0 x3 x6 : AV) : OpIs Tryz.prog crDOps (crDT x0 x3 x6) 10 [4,5,9] λvals H K=>ACalls Tryz.prog 167 [(vals 4),(vals 5),(vals 9)] H K :=
 OpIs.call (crDOps.getD 10 default) (by kernel_rfl) (by kernel_rfl) (by kernel_rfl) _ (λvals=>[(vals 4),(vals 5),(vals 9)]) (by kernel_rfl) (λvals=>by kernel_rfl) (λvals H K h=>h)
theorem crD_e11 (x0 x3 x6 : AV) (vals : Nat→AV) (H : AH) (K : AV→AH→Prop) : sOp Tryz.prog pqb none0 false (aeval (pt crDOps vals (λ_=>true) (crDT x0 x3 x6) 11)) H (crDOps.getD 11 default) true K=gO true (zgZ (vals 0)) λv=>K v H:=by kernel_rfl
theorem crD_op11 (x0 x3 x6 : AV) : OpIs Tryz.prog crDOps (crDT x0 x3 x6) 11 [0,1,2,3,4,5,6,7,8,9,10] λvals H K=>gO true (zgZ (vals 0)) λv=>K v H:=by
 refine OpIs.opB (ql:=pqb) (crDOps.getD 11 default) (by kernel_rfl) (by kernel_rfl) (by kernel_rfl) (λρ=>by kernel_rfl) ?_;intro vals H K h;rw [crD_e11];exact h
theorem crD_e12 (x0 x3 x6 : AV) (vals : Nat→AV) (H : AH) (K : AV→AH→Prop) : sOp Tryz.prog pqb none0 false (aeval (pt crDOps vals (λ_=>true) (crDT x0 x3 x6) 12)) H (crDOps.getD 12 default) true K=gO true (zhZ 1 (vals 11)) λv=>K v H:=by kernel_rfl
theorem crD_op12 (x0 x3 x6 : AV) : OpIs Tryz.prog crDOps (crDT x0 x3 x6) 12 [0,1,2,3,4,5,6,7,8,9,10,11] λvals H K=>gO true (zhZ 1 (vals 11)) λv=>K v H:=by
 refine OpIs.opB (ql:=pqb) (crDOps.getD 12 default) (by kernel_rfl) (by kernel_rfl) (by kernel_rfl) (λρ=>by kernel_rfl) ?_;intro vals H K h;rw [crD_e12];exact h
theorem crD_e13 (x0 x3 x6 : AV) (vals : Nat→AV) (H : AH) (K : AV→AH→Prop) : sOp Tryz.prog pqb none0 false (aeval (pt crDOps vals (λ_=>true) (crDT x0 x3 x6) 13)) H (crDOps.getD 13 default) true K=gS true (ast 1 H (vals 12) (vals 10)) H λH'=>K zgmZ H':=by kernel_rfl
theorem crD_op13 (x0 x3 x6 : AV) : OpIs Tryz.prog crDOps (crDT x0 x3 x6) 13 [0,1,2,3,4,5,6,7,8,9,10,12] λvals H K=>gS true (ast 1 H (vals 12) (vals 10)) H λH'=>K zgmZ H':=by
 refine OpIs.opB (ql:=pqb) (crDOps.getD 13 default) (by kernel_rfl) (by kernel_rfl) (by kernel_rfl) (λρ=>by kernel_rfl) ?_;intro vals H K h;rw [crD_e13];exact h
def crDNeed : List (List Nat):=[[],[],[1],[2],[3],[],[],[6],[7],[8],[4,5,9],[0,1,2,3,4,5,6,7,8,9,10],[0,1,2,3,4,5,6,7,8,9,10,11],[0,1,2,3,4,5,6,7,8,9,10,12]]
def crDF (x0 x3 x6 : AV) : List ((Nat→AV)→AH→(AV→AH→Prop)→Prop):=[
 λvals H K=>gO true (some x0) λv=>K v H,
 λvals H K=>gO true (some x0) λv=>K v H,
 λvals H K=>gO true (zgZ (vals 1)) λv=>K v H,
 λvals H K=>gO true (zhZ 1 (vals 2)) λv=>K v H,
 λvals H K=>gO true (ald false 1 H (vals 3)) λv=>K v H,
 λvals H K=>gO true (some x6) λv=>K v H,
 λvals H K=>gO true (zhZ 1 x3) λv=>K v H,
 λvals H K=>gO true (ald false 1 H (vals 6)) λv=>K v H,
 λvals H K=>gO true (abl zD [(0,1,(vals 7))]) λv=>K v H,
 λvals H K=>gH true (absl H 3 1 (zrow zD 1) [(0,3,(vals 8))]) H K,
 λvals H K=>ACalls Tryz.prog 167 [(vals 4),(vals 5),(vals 9)] H K,
 λvals H K=>gO true (zgZ (vals 0)) λv=>K v H,
 λvals H K=>gO true (zhZ 1 (vals 11)) λv=>K v H,
 λvals H K=>gS true (ast 1 H (vals 12) (vals 10)) H λH'=>K zgmZ H']
theorem crDIs (x0 x3 x6 : AV) : ∀ i,i < crDOps.length→OpIs Tryz.prog crDOps (crDT x0 x3 x6) i (crDNeed.getD i []) ((crDF x0 x3 x6).getD i (λ_ _ _=>False)):=by
 intro i hi;rw [crDLen] at hi;have : i=0∨i=1∨i=2∨i=3∨i=4∨i=5∨i=6∨i=7∨i=8∨i=9∨i=10∨i=11∨i=12∨i=13:=by omega
 rcases this with rfl | rfl | rfl | rfl | rfl | rfl | rfl | rfl | rfl | rfl | rfl | rfl | rfl | rfl
 ·exact crD_op0 x0 x3 x6
 ·exact crD_op1 x0 x3 x6
 ·exact crD_op2 x0 x3 x6
 ·exact crD_op3 x0 x3 x6
 ·exact crD_op4 x0 x3 x6
 ·exact crD_op5 x0 x3 x6
 ·exact crD_op6 x0 x3 x6
 ·exact crD_op7 x0 x3 x6
 ·exact crD_op8 x0 x3 x6
 ·exact crD_op9 x0 x3 x6
 ·exact crD_op10 x0 x3 x6
 ·exact crD_op11 x0 x3 x6
 ·exact crD_op12 x0 x3 x6
 ·exact crD_op13 x0 x3 x6
structure OpM where
 kind : Int
 ino : Int
 pos : Int
 size : Int
 keep : Bool
 name : List UInt8
 to : List UInt8
 b : List UInt8
 deriving DecidableEq
def opA (o : OpM) (bv : AV) : List AV:=[I o.kind,I o.ino,I o.pos,I o.size,B o.keep,S (bstr o.name),S (bstr o.to),bv]
theorem crN_K (x0 x3 x4 x6 : AV) (vals : Nat→AV) (H : AH) (K : AV→AH→Prop) : (kSeq (cutC (mk 82 0 [0,3,6]) (zriZ [true,true,true,true,true] 6)) (kRet Tryz.prog Tryz.f112.results.toList K)) .normal (pt crNOps vals (λ_=>true) (crNT x0 x3 x4 x6) 16) H=zucZ x0 x3 x6 H K:=by kernel_rfl
theorem crD_K (x0 x3 x6 : AV) (vals : Nat→AV) (H : AH) (K : AV→AH→Prop) : (kRet Tryz.prog Tryz.f112.results.toList K) .normal (pt crDOps vals (λ_=>true) (crDT x0 x3 x6) 14) H=K (.tup []) H:=by kernel_rfl
theorem crN_acode (x0 x3 x4 x6 : AV) (H : AH) (K : AV→AH→Prop) (h : ACode Tryz.prog (.region 4 crNOps.toArray true) (kSeq (cutC (mk 82 0 [0,3,6]) (zriZ [true,true,true,true,true] 6)) (kRet Tryz.prog Tryz.f112.results.toList K)) (crNT x0 x3 x4 x6) H) : zowZ x0 x3 x4 x6 H K:=unR.mk h
theorem crD_acode (x0 x3 x6 : AV) (H : AH) (K : AV→AH→Prop) (h : ACode Tryz.prog (.region 5 crDOps.toArray true) (kRet Tryz.prog Tryz.f112.results.toList K) (crDT x0 x3 x6) H) : zunZ x0 x3 x6 H K:=unR.mk h
def hp3 (i j k : Nat) (A B C D : AH) (S : Nat→Bool) : AH:=if S k=true then D else if S j=true then C else if S i=true then B else A
theorem hp3_u {i j k : Nat} {A B C D : AH} {S : Nat→Bool} {q : Nat} (h1 : q ≠ i) (h2 : q ≠ j) (h3 : q ≠ k) : hp3 i j k A B C D (upd S q)=hp3 i j k A B C D S:=by
 unfold hp3 upd;rw [if_neg (Ne.symm h3),if_neg (Ne.symm h2),if_neg (Ne.symm h1)]
theorem create_U4 {L oi p k : Nat} {ns : List Nm} {dv : List NdV} {a b bv : AV} {H : AH} {o : OpM} (h : ImH L oi ns dv a b H) (hp : H[p]? = some (some (.cells (opA o bv)))) (hpo : p ≠ oi) (hpa : p ∉ idS a) (hk : k≤ns.length) (hn : ns.length≤100000) :
  ∃ r H2,ImH L oi (ns.take k ++ ⟨o.name,o.ino⟩ :: ns.drop k) dv r b H2∧FrL L oi H H2∧H2[p]? = H[p]?∧∀ x6 K,zucZ (.ptr oi 0) (.ptr p 0) x6 H2 K→zowZ (.ptr oi 0) (.ptr p 0) (I k) x6 H K:=by
 have g:=Grew.app H [some (.cells (encN ⟨o.name,o.ino⟩))];have hg:=h.grew g;have hpl:=(gSI.1 hp).1;obtain ⟨r,H12,hI,hc⟩:=insN_c (x:=⟨o.name,o.ino⟩) (oj:=H.length) hg.sa hg.oa hg.ca hk (by omega) (by simp) (λhh=>by have:=zrZ h.sa _ hh; omega);obtain ⟨i1,i2,i3,i4,i5,i6⟩:=hI;have el : (ns.take k ++ (⟨o.name,o.ino⟩ : Nm) :: ns.drop k).length=ns.length + 1:=by simp; omega
 obtain ⟨H2,e2,n1,n2⟩:=hg.newA (ms:=ns.take k ++ ⟨o.name,o.ino⟩ :: ns.drop k) i3 i4 (by rw [el]; exact i2) i1 (by rw [el]; exact i6) i5
 have hp2 : H2[p]? = H[p]?:=by
  have c0 : H12[oi]? = some (some (.cells [a,b])):=by rw [i4 oi (gSI.1 hg.obj).1 hg.noA]; exact hg.obj
  rw [zcoZ (n:=1) (off:=0) (xs:=[r]) (cs:=[a,b]) (zbsZ (zbiZ i1)) c0 rfl (by simp)] at e2;injection e2 with e2;rw [← e2,gSN (Ne.symm hpo),i4 p (by simp; omega) hpa,g.2 p hpl]
 have hfr : FrL L oi H H2:=by
  have hle:=h.len;exact ⟨Nat.le_trans g.1 n2.1,λj h5 h6=>(n2.2 j h5 h6).trans (g.2 j (by omega))⟩
 let V : Nat→AV:=λi=>([.ptr oi 0,.ptr oi 0,.ptr oi 0,.ptr oi 0,a,I k,.ptr p 5,S (bstr o.name),.ptr p 1,I o.ino,.agg (encN ⟨o.name,o.ino⟩),.sl H.length 0 1 2 (.ex 1),r,.ptr oi 0,.ptr oi 0,zgmZ] : List AV).getD i zgmZ
 refine ⟨r,H2,n1,hfr,hp2,λx6 K hK=>crN_acode _ _ _ _ _ _ ?_⟩;refine ACode.told2 mixP crNOrd (λi=>crNNeed.getD i []) (λi=>(crNF (.ptr oi 0) (.ptr p 0) (I k) x6).getD i (λ_ _ _=>False)) V (hp3 11 12 15 H (H ++ [some (.cells (encN ⟨o.name,o.ino⟩))]) H12 H2) (crNIs _ _ _ _) rfl ?_ ?_
 ·intro i hi S vals hS cl hn
  rw [crNLen] at hi
  have n12 : S 4=false→S 12=false:=λh4=>by
   cases h : S 12 with
   | false => rfl
   | true => have:=cl 12 h 4 (by simp [crNNeed]); rw [h4] at this; cases this
  have n15 : S 12=false→S 15=false:=λh4=>by
   cases h : S 15 with
   | false => rfl
   | true => have:=cl 15 h 12 (by simp [crNNeed]); rw [h4] at this; cases this
  have n12' : S 11=false→S 12=false:=λh4=>by
   cases h : S 12 with
   | false => rfl
   | true => have:=cl 12 h 11 (by simp [crNNeed]); rw [h4] at this; cases this
  have n11 : ∀ j,j=7∨j=9→S j=false→S 11=false:=λj hj h4=>by
   cases h : S 11 with
   | false => rfl
   | true =>
    have h10:=cl 11 h 10 (by simp [crNNeed])
    have:=cl 10 h10 j (by rcases hj with rfl | rfl <;> simp [crNNeed])
    rw [h4] at this; cases this
  have hcase : i=0∨i=1∨i=2∨i=3∨i=4∨i=5∨i=6∨i=7∨i=8∨i=9∨i=10∨i=11∨i=12∨i=13∨i=14∨i=15:=by omega
  rcases hcase with rfl | rfl | rfl | rfl | rfl | rfl | rfl | rfl | rfl | rfl | rfl | rfl | rfl | rfl | rfl | rfl
  ·simp only [crNF,List.getD_cons_succ,List.getD_cons_zero,zbrZ,zjrZ,zjqZ,zbZ]
   exact ⟨rfl,(hp3_u (by omega) (by omega) (by omega)).symm⟩
  ·simp only [crNF,List.getD_cons_succ,List.getD_cons_zero,zbrZ,zjrZ,zjqZ,zbZ]
   exact ⟨rfl,(hp3_u (by omega) (by omega) (by omega)).symm⟩
  ·simp only [crNF,List.getD_cons_succ,List.getD_cons_zero,zbrZ,zjrZ,zjqZ,zbZ]
   have v1:=(hn 1 (by simp [crNNeed])).2;rw [v1];exact ⟨rfl,(hp3_u (by omega) (by omega) (by omega)).symm⟩
  ·simp only [crNF,List.getD_cons_succ,List.getD_cons_zero,zbrZ,zjrZ,zjqZ,zbZ]
   have v2:=(hn 2 (by simp [crNNeed])).2;rw [v2];exact ⟨rfl,(hp3_u (by omega) (by omega) (by omega)).symm⟩
  ·simp only [crNF,List.getD_cons_succ,List.getD_cons_zero,zbrZ,zjrZ,zjqZ,zbZ]
   have v3:=(hn 3 (by simp [crNNeed])).2;rw [v3]
   have e : ald false 1 (hp3 11 12 15 H (H ++ [some (.cells (encN ⟨o.name,o.ino⟩))]) H12 H2 S) (V 3)=some a:=by
    have q12:=n12 hS;have q15:=n15 q12
    have : (hp3 11 12 15 H (H ++ [some (.cells (encN ⟨o.name,o.ino⟩))]) H12 H2 S)[oi]? = some (some (.cells [a,b])):=by
     unfold hp3;rw [q15,q12];cases S 11 with
     | true => exact hg.obj
     | false => exact h.obj
    show ald false 1 _ (.ptr oi 0)=_
    rw [zlZ this]; rfl
   rw [e];exact ⟨rfl,(hp3_u (by omega) (by omega) (by omega)).symm⟩
  ·simp only [crNF,List.getD_cons_succ,List.getD_cons_zero,zbrZ,zjrZ,zjqZ,zbZ]
   exact ⟨rfl,(hp3_u (by omega) (by omega) (by omega)).symm⟩
  ·simp only [crNF,List.getD_cons_succ,List.getD_cons_zero,zbrZ,zjrZ,zjqZ,zbZ]
   exact ⟨rfl,(hp3_u (by omega) (by omega) (by omega)).symm⟩
  ·simp only [crNF,List.getD_cons_succ,List.getD_cons_zero,zbrZ,zjrZ,zjqZ,zbZ]
   have v6:=(hn 6 (by simp [crNNeed])).2;rw [v6]
   have e : ald false 1 (hp3 11 12 15 H (H ++ [some (.cells (encN ⟨o.name,o.ino⟩))]) H12 H2 S) (V 6)=some (.lit (.string (bstr o.name))):=by
    have q11:=n11 7 (by omega) hS;have q12:=n12' q11;have q15:=n15 q12;unfold hp3;rw [q15,q12,q11]
    show ald false 1 H (.ptr p 5)=_
    rw [zlZ hp]; rfl
   rw [e];exact ⟨rfl,(hp3_u (by omega) (by omega) (by omega)).symm⟩
  ·simp only [crNF,List.getD_cons_succ,List.getD_cons_zero,zbrZ,zjrZ,zjqZ,zbZ]
   exact ⟨rfl,(hp3_u (by omega) (by omega) (by omega)).symm⟩
  ·simp only [crNF,List.getD_cons_succ,List.getD_cons_zero,zbrZ,zjrZ,zjqZ,zbZ]
   have v8:=(hn 8 (by simp [crNNeed])).2;rw [v8]
   have e : ald false 1 (hp3 11 12 15 H (H ++ [some (.cells (encN ⟨o.name,o.ino⟩))]) H12 H2 S) (V 8)=some (I o.ino):=by
    have q11:=n11 9 (by omega) hS;have q12:=n12' q11;have q15:=n15 q12;unfold hp3;rw [q15,q12,q11]
    show ald false 1 H (.ptr p 1)=_
    rw [zlZ hp]; rfl
   rw [e];exact ⟨rfl,(hp3_u (by omega) (by omega) (by omega)).symm⟩
  ·simp only [crNF,List.getD_cons_succ,List.getD_cons_zero,zbrZ,zjrZ,zjqZ,zbZ]
   have v7:=(hn 7 (by simp [crNNeed])).2;have v9:=(hn 9 (by simp [crNNeed])).2;rw [v7,v9];exact ⟨rfl,(hp3_u (by omega) (by omega) (by omega)).symm⟩
  ·simp only [crNF,List.getD_cons_succ,List.getD_cons_zero,zbrZ,zjrZ,zjqZ,zbZ]
   have v10:=(hn 10 (by simp [crNNeed])).2;rw [v10];have q12:=n12' hS;have q15:=n15 q12;have e : hp3 11 12 15 H (H ++ [some (.cells (encN ⟨o.name,o.ino⟩))]) H12 H2 S=H:=by unfold hp3; rw [q15,q12,hS]; rfl
   have e2 : hp3 11 12 15 H (H ++ [some (.cells (encN ⟨o.name,o.ino⟩))]) H12 H2 (upd S 11)=H ++ [some (.cells (encN ⟨o.name,o.ino⟩))]:=by unfold hp3; simp [upd,q15,q12]
   rw [e,e2];exact ⟨rfl,rfl⟩
  ·simp only [crNF,List.getD_cons_succ,List.getD_cons_zero,zbrZ,zjrZ,zjqZ,zbZ]
   have v4:=(hn 4 (by simp [crNNeed])).2;have v5:=(hn 5 (by simp [crNNeed])).2;have v11:=(hn 11 (by simp [crNNeed])).2;rw [v4,v5,v11];have q15:=n15 hS;have e : hp3 11 12 15 H (H ++ [some (.cells (encN ⟨o.name,o.ino⟩))]) H12 H2 S=H ++ [some (.cells (encN ⟨o.name,o.ino⟩))]:=by unfold hp3; rw [q15,hS,(hn 11 (by simp [crNNeed])).1]; rfl
   have e2 : hp3 11 12 15 H (H ++ [some (.cells (encN ⟨o.name,o.ino⟩))]) H12 H2 (upd S 12)=H12:=by unfold hp3; simp [upd,q15]
   rw [e,e2];exact hc
  ·simp only [crNF,List.getD_cons_succ,List.getD_cons_zero,zbrZ,zjrZ,zjqZ,zbZ]
   have v0:=(hn 0 (by simp [crNNeed])).2;rw [v0];exact ⟨rfl,(hp3_u (by omega) (by omega) (by omega)).symm⟩
  ·simp only [crNF,List.getD_cons_succ,List.getD_cons_zero,zbrZ,zjrZ,zjqZ,zbZ]
   have v13:=(hn 13 (by simp [crNNeed])).2;rw [v13];exact ⟨rfl,(hp3_u (by omega) (by omega) (by omega)).symm⟩
  ·simp only [crNF,List.getD_cons_succ,List.getD_cons_zero,zbrZ,zjrZ,zjqZ,zbZ]
   have v14:=(hn 14 (by simp [crNNeed])).2;have v12:=(hn 12 (by simp [crNNeed])).2;rw [v14,v12];have e : hp3 11 12 15 H (H ++ [some (.cells (encN ⟨o.name,o.ino⟩))]) H12 H2 S=H12:=by unfold hp3; rw [hS,(hn 12 (by simp [crNNeed])).1]; rfl
   have e3 : hp3 11 12 15 H (H ++ [some (.cells (encN ⟨o.name,o.ino⟩))]) H12 H2 (upd S 15)=H2:=by unfold hp3; simp [upd]
   rw [e,e3]
   show bS (ast 1 H12 (.ptr oi 0) r) _
   rw [e2,zcaZ];exact ⟨rfl,rfl⟩
 ·intro S vals hS
  rw [crNLen,crN_K];have : hp3 11 12 15 H (H ++ [some (.cells (encN ⟨o.name,o.ino⟩))]) H12 H2 S=H2:=by unfold hp3; rw [if_pos (hS 15 (by rw [crNLen]; omega)).1]
  rw [this];exact hK
def newD (ino : Int) : NdV:=⟨⟨ino,0,[]⟩,nilSl,SV.nil⟩
theorem create_U5 {L oi p k : Nat} {ns : List Nm} {dv : List NdV} {a b bv : AV} {H : AH} {o : OpM} (h : ImH L oi ns dv a b H) (hp : H[p]? = some (some (.cells (opA o bv)))) (hk : k≤dv.length) (hn : dv.length≤100000) :
  ∃ r H2,ImH L oi ns (dv.take k ++ newD o.ino :: dv.drop k) a r H2∧FrL L oi H H2∧∀ K : AV→AH→Prop,K (.tup []) H2→zunZ (.ptr oi 0) (.ptr p 0) (I k) H K:=by
 have g:=Grew.app H [some (.cells (encD (newD o.ino)))];have hg:=h.grew g;have hpl:=(gSI.1 hp).1;obtain ⟨r,H10,hI,hc⟩:=insD_c (x:=newD o.ino) (oj:=H.length) hg.sb hg.ob hg.cb hk (by omega) (by simp) (λhh=>by have:=zrZ h.sb _ hh; omega);obtain ⟨i1,i2,i3,i4,i5,i6⟩:=hI;have el : (dv.take k ++ newD o.ino :: dv.drop k).length=dv.length + 1:=by simp; omega
 obtain ⟨H2,e2,n1,n2⟩:=hg.newB (ew:=dv.take k ++ newD o.ino :: dv.drop k) i3 i4 (by rw [el]; exact i2) i1 (by rw [el]; exact i6) i5
 have hfr : FrL L oi H H2:=by
  have hle:=h.len;exact ⟨Nat.le_trans g.1 n2.1,λj h5 h6=>(n2.2 j h5 h6).trans (g.2 j (by omega))⟩
 let V : Nat→AV:=λi=>([.ptr oi 0,.ptr oi 0,.ptr oi 0,.ptr oi 1,b,I k,.ptr p 1,I o.ino,.agg (encD (newD o.ino)),.sl H.length 0 1 3 (.ex 1),r,.ptr oi 0,.ptr oi 1,zgmZ] : List AV).getD i zgmZ
 refine ⟨r,H2,n1,hfr,λK hK=>crD_acode _ _ _ _ _ ?_⟩;refine ACode.told2 mixP crDOrd (λi=>crDNeed.getD i []) (λi=>(crDF (.ptr oi 0) (.ptr p 0) (I k)).getD i (λ_ _ _=>False)) V (hp3 9 10 13 H (H ++ [some (.cells (encD (newD o.ino)))]) H10 H2) (crDIs _ _ _) rfl ?_ ?_
 ·intro i hi S vals hS cl hn
  rw [crDLen] at hi
  have n12 : S 4=false→S 10=false:=λh4=>by
   cases h : S 10 with
   | false => rfl
   | true => have:=cl 10 h 4 (by simp [crDNeed]); rw [h4] at this; cases this
  have n15 : S 10=false→S 13=false:=λh4=>by
   cases h : S 13 with
   | false => rfl
   | true => have:=cl 13 h 10 (by simp [crDNeed]); rw [h4] at this; cases this
  have n12' : S 9=false→S 10=false:=λh4=>by
   cases h : S 10 with
   | false => rfl
   | true => have:=cl 10 h 9 (by simp [crDNeed]); rw [h4] at this; cases this
  have n11 : S 7=false→S 9=false:=λh4=>by
   cases h : S 9 with
   | false => rfl
   | true =>
    have h8:=cl 9 h 8 (by simp [crDNeed])
    have:=cl 8 h8 7 (by simp [crDNeed])
    rw [h4] at this; cases this
  have hcase : i=0∨i=1∨i=2∨i=3∨i=4∨i=5∨i=6∨i=7∨i=8∨i=9∨i=10∨i=11∨i=12∨i=13:=by omega
  rcases hcase with rfl | rfl | rfl | rfl | rfl | rfl | rfl | rfl | rfl | rfl | rfl | rfl | rfl | rfl
  ·simp only [crDF,List.getD_cons_succ,List.getD_cons_zero,zbrZ,zjrZ,zjqZ,zbZ]
   exact ⟨rfl,(hp3_u (by omega) (by omega) (by omega)).symm⟩
  ·simp only [crDF,List.getD_cons_succ,List.getD_cons_zero,zbrZ,zjrZ,zjqZ,zbZ]
   exact ⟨rfl,(hp3_u (by omega) (by omega) (by omega)).symm⟩
  ·simp only [crDF,List.getD_cons_succ,List.getD_cons_zero,zbrZ,zjrZ,zjqZ,zbZ]
   have v1:=(hn 1 (by simp [crDNeed])).2;rw [v1];exact ⟨rfl,(hp3_u (by omega) (by omega) (by omega)).symm⟩
  ·simp only [crDF,List.getD_cons_succ,List.getD_cons_zero,zbrZ,zjrZ,zjqZ,zbZ]
   have v2:=(hn 2 (by simp [crDNeed])).2;rw [v2];exact ⟨rfl,(hp3_u (by omega) (by omega) (by omega)).symm⟩
  ·simp only [crDF,List.getD_cons_succ,List.getD_cons_zero,zbrZ,zjrZ,zjqZ,zbZ]
   have v3:=(hn 3 (by simp [crDNeed])).2;rw [v3]
   have e : ald false 1 (hp3 9 10 13 H (H ++ [some (.cells (encD (newD o.ino)))]) H10 H2 S) (V 3)=some b:=by
    have q12:=n12 hS;have q15:=n15 q12
    have : (hp3 9 10 13 H (H ++ [some (.cells (encD (newD o.ino)))]) H10 H2 S)[oi]? = some (some (.cells [a,b])):=by
     unfold hp3;rw [q15,q12];cases S 9 with
     | true => exact hg.obj
     | false => exact h.obj
    show ald false 1 _ (.ptr oi 1)=_
    rw [zlZ this]; rfl
   rw [e];exact ⟨rfl,(hp3_u (by omega) (by omega) (by omega)).symm⟩
  ·simp only [crDF,List.getD_cons_succ,List.getD_cons_zero,zbrZ,zjrZ,zjqZ,zbZ]
   exact ⟨rfl,(hp3_u (by omega) (by omega) (by omega)).symm⟩
  ·simp only [crDF,List.getD_cons_succ,List.getD_cons_zero,zbrZ,zjrZ,zjqZ,zbZ]
   exact ⟨rfl,(hp3_u (by omega) (by omega) (by omega)).symm⟩
  ·simp only [crDF,List.getD_cons_succ,List.getD_cons_zero,zbrZ,zjrZ,zjqZ,zbZ]
   have v6:=(hn 6 (by simp [crDNeed])).2;rw [v6]
   have e : ald false 1 (hp3 9 10 13 H (H ++ [some (.cells (encD (newD o.ino)))]) H10 H2 S) (V 6)=some (I o.ino):=by
    have q11:=n11 hS;have q12:=n12' q11;have q15:=n15 q12;unfold hp3;rw [q15,q12,q11]
    show ald false 1 H (.ptr p 1)=_
    rw [zlZ hp]; rfl
   rw [e];exact ⟨rfl,(hp3_u (by omega) (by omega) (by omega)).symm⟩
  ·simp only [crDF,List.getD_cons_succ,List.getD_cons_zero,zbrZ,zjrZ,zjqZ,zbZ]
   have v7:=(hn 7 (by simp [crDNeed])).2;rw [v7];exact ⟨rfl,(hp3_u (by omega) (by omega) (by omega)).symm⟩
  ·simp only [crDF,List.getD_cons_succ,List.getD_cons_zero,zbrZ,zjrZ,zjqZ,zbZ]
   have v8:=(hn 8 (by simp [crDNeed])).2;rw [v8];have q12:=n12' hS;have q15:=n15 q12;have e : hp3 9 10 13 H (H ++ [some (.cells (encD (newD o.ino)))]) H10 H2 S=H:=by unfold hp3; rw [q15,q12,hS]; rfl
   have e2 : hp3 9 10 13 H (H ++ [some (.cells (encD (newD o.ino)))]) H10 H2 (upd S 9)=H ++ [some (.cells (encD (newD o.ino)))]:=by unfold hp3; simp [upd,q15,q12]
   rw [e,e2];exact ⟨rfl,rfl⟩
  ·simp only [crDF,List.getD_cons_succ,List.getD_cons_zero,zbrZ,zjrZ,zjqZ,zbZ]
   have v4:=(hn 4 (by simp [crDNeed])).2;have v5:=(hn 5 (by simp [crDNeed])).2;have v9:=(hn 9 (by simp [crDNeed])).2;rw [v4,v5,v9];have q15:=n15 hS;have e : hp3 9 10 13 H (H ++ [some (.cells (encD (newD o.ino)))]) H10 H2 S=H ++ [some (.cells (encD (newD o.ino)))]:=by unfold hp3; rw [q15,hS,(hn 9 (by simp [crDNeed])).1]; rfl
   have e2 : hp3 9 10 13 H (H ++ [some (.cells (encD (newD o.ino)))]) H10 H2 (upd S 10)=H10:=by unfold hp3; simp [upd,q15]
   rw [e,e2];exact hc
  ·simp only [crDF,List.getD_cons_succ,List.getD_cons_zero,zbrZ,zjrZ,zjqZ,zbZ]
   have v0:=(hn 0 (by simp [crDNeed])).2;rw [v0];exact ⟨rfl,(hp3_u (by omega) (by omega) (by omega)).symm⟩
  ·simp only [crDF,List.getD_cons_succ,List.getD_cons_zero,zbrZ,zjrZ,zjqZ,zbZ]
   have v11:=(hn 11 (by simp [crDNeed])).2;rw [v11];exact ⟨rfl,(hp3_u (by omega) (by omega) (by omega)).symm⟩
  ·simp only [crDF,List.getD_cons_succ,List.getD_cons_zero,zbrZ,zjrZ,zjqZ,zbZ]
   have v12:=(hn 12 (by simp [crDNeed])).2;have v10:=(hn 10 (by simp [crDNeed])).2;rw [v12,v10];have e : hp3 9 10 13 H (H ++ [some (.cells (encD (newD o.ino)))]) H10 H2 S=H10:=by unfold hp3; rw [hS,(hn 10 (by simp [crDNeed])).1]; rfl
   have e3 : hp3 9 10 13 H (H ++ [some (.cells (encD (newD o.ino)))]) H10 H2 (upd S 13)=H2:=by unfold hp3; simp [upd]
   rw [e,e3]
   show bS (ast 1 H10 (.ptr oi 1) r) _
   rw [e2,zcaZ];exact ⟨rfl,rfl⟩
 ·intro S vals hS
  rw [crDLen,crD_K];have : hp3 9 10 13 H (H ++ [some (.cells (encD (newD o.ino)))]) H10 H2 S=H2:=by unfold hp3; rw [if_pos (hS 13 (by rw [crDLen]; omega)).1]
  rw [this];exact hK
def ImP (L oi : Nat) (H : AH) (ns : List Nm) (dv : List NdV) (r : AV) (H' : AH) : Prop:=r = .tup []∧∃ a b,ImH L oi ns dv a b H'∧FrL L oi H H'
def creOk (ns : List Nm) (dv : List NdV) (o : OpM) : Prop:=¬ hasK Nm.name ns o.name∧¬ hasK NdV.ino dv o.ino∧mayN o.name∧1≤o.ino∧o.ino≤4611686018427387904∧ns.length < 16
instance (ns : List Nm) (dv : List NdV) (o : OpM) : Decidable (creOk ns dv o):=by unfold creOk; infer_instance
def creNs (ns : List Nm) (dv : List NdV) (o : OpM) : List Nm:=if creOk ns dv o then insK cmpN Nm.name ns ⟨o.name,o.ino⟩ else ns
def creDv (ns : List Nm) (dv : List NdV) (o : OpM) : List NdV:=if creOk ns dv o then insK cmpI NdV.ino dv (newD o.ino) else dv
theorem op_new {L oi : Nat} {ns : List Nm} {dv : List NdV} {a b : AV} {H : AH} (h : ImH L oi ns dv a b H) (o : OpM) {bv : AV} (hb : oneA bv=true) : ∃ H1,anew H (.agg (opA o bv))=some (.ptr H.length 0,H1)∧H1[H.length]? = some (some (.cells (opA o bv)))∧ImH L oi ns dv a b H1∧FrL L oi H H1:=by
 have g:=Grew.app H [some (.cells (opA o bv))];have hle:=h.len;exact ⟨_,by simp [opA,hb],by simp,h.grew g,g.1,λj h1 h2=>g.2 j (by omega)⟩
theorem create_w {L oi : Nat} {ns : List Nm} {dv : List NdV} {a b bv : AV} {H H1 : AH} {o : OpM} (h : ImH L oi ns dv a b H) (e1 : anew H (.agg (opA o bv))=some (.ptr H.length 0,H1)) (hp : H1[H.length]? = some (some (.cells (opA o bv)))) (h1 : ImH L oi ns dv a b H1)
  (hs : srtK cmpN Nm.name ns) (hd : srtK cmpI NdV.ino dv) (hn : ns.length≤100000) (hm : dv.length≤100000) (hnm : o.name.length≤1000000000) {K : AV→AH→Prop} (hno : ¬ creOk ns dv o→K (.tup []) H1) (hyes : creOk ns dv o→zowZ (.ptr oi 0) (.ptr H.length 0) (I (posK cmpN Nm.name ns o.name)) (I (posK cmpI NdV.ino dv o.ino)) H1 K) :
  zysZ (.ptr oi 0) (.agg (opA o bv)) H K:=by
 obtain ⟨Ra,Rb,sa,sb,fz⟩:=h1.lend;have c0:=h1.obj;unfold zysZ;simp only [e1,zbpZ];have b0 : ztZ true 2 [a,b] 0=some (.agg [a,b]):=rfl;simp [hp,c0,b0,opA];refine bC_of (PCall.lend (FZs.cons fz (FZs.cons (FZ.lit _) FZs.nil)) rfl (named_p sa sb hs (by omega) o.name)).call ?_;simp [hp,c0,b0,opA];refine bC_of (PCall.lend (FZs.cons fz (FZs.cons (FZ.lit _) FZs.nil)) rfl (node_p sa sb hd (by omega) o.ino)).call ?_
 by_cases q1 : hasK Nm.name ns o.name
 ·simp [q1]
  exact hno λhc=>hc.1 q1
 ·by_cases q2 : hasK NdV.ino dv o.ino
  ·simp [q1,q2]
   exact hno λhc=>hc.2.1 q2
  ·simp [q1,q2,hp,opA]
   refine zyZ (zbgdZ (s:=o.name) (by omega)) ?_
   by_cases q3 : mayN o.name
   ·by_cases q4 : o.ino < 1
    ·simp [q3,q4,hp,opA]
     exact hno λhc=>by have:=hc.2.2.2.1; omega
    ·by_cases q5 : 4611686018427387904 < o.ino
     ·simp [q3,q4,q5,hp,opA]
      exact hno λhc=>by have:=hc.2.2.2.2.1; omega
     ·have ln:=zhxZ h1.sa
      by_cases q6 : 16≤ns.length
      ·have q6' : (16 : Int)≤ns.length:=by omega
       simp [q3,q4,q5,hp,opA,c0,ln,q6'];exact hno λhc=>by have:=hc.2.2.2.2.2; omega
      ·have q6' : ¬ (16 : Int)≤ns.length:=by omega
       simp [q3,q4,q5,hp,opA,c0,ln,q6'];exact hyes ⟨q1,q2,q3,by omega,by omega,by omega⟩
   ·simp [q3]
    exact hno λhc=>q3 hc.2.2.1
theorem create_c {L oi : Nat} {ns : List Nm} {dv : List NdV} {a b bv : AV} {H : AH} {o : OpM} (h : ImH L oi ns dv a b H) (hs : srtK cmpN Nm.name ns) (hd : srtK cmpI NdV.ino dv) (hb : oneA bv=true) (hn : ns.length≤100000) (hm : dv.length≤100000) (hnm : o.name.length≤1000000000) :
  ∃ r H',ImP L oi H (creNs ns dv o) (creDv ns dv o) r H'∧BCall Tryz.prog 112 [.ptr oi 0,.agg (opA o bv)] H r H':=by
 obtain ⟨H1,e1,hp,h1,f1⟩:=op_new h o hb;have hpl : H.length ≠ oi:=by have:=(gSI.1 h.obj).1; omega
 have hpa : H.length ∉ idS a:=λhh=>by have:=zrZ h.sa _ hh; omega
 by_cases hc : creOk ns dv o
 ·obtain ⟨r,H2,h2,f2,g2,w2⟩:=create_U4 h1 hp hpl hpa (posK_le (c:=cmpN) (key:=Nm.name) ns o.name) hn
  obtain ⟨r2,H3,h3,f3,w3⟩:=create_U5 h2 (g2.trans hp) (posK_le (c:=cmpI) (key:=NdV.ino) dv o.ino) hm;refine ⟨.tup [],H3,⟨rfl,r,r2, ?_,f1.trans (f2.trans f3)⟩,zbbdZ (create_w h e1 hp h1 hs hd hn hm hnm (λq=>absurd hc q) λ_=>w2 _ _ ?_)⟩
  ·unfold creNs creDv
   rw [if_pos hc,if_pos hc]; exact h3
  ·rw [image_create_J5_eq]
   unfold zxcZ;exact w3 _ ⟨rfl,rfl⟩
 ·refine ⟨.tup [],H1,⟨rfl,a,b, ?_,f1⟩,zbbdZ (create_w h e1 hp h1 hs hd hn hm hnm (λ_=>⟨rfl,rfl⟩) λq=>absurd q hc)⟩
  unfold creNs creDv;rw [if_neg hc,if_neg hc]; exact h1
def remNs (ns : List Nm) (s : List UInt8) : List Nm:=if hasK Nm.name ns s then delK cmpN Nm.name ns s else ns
def remDv (ns : List Nm) (dv : List NdV) (s : List UInt8) : List NdV:=if hasK Nm.name ns s then delK cmpI NdV.ino dv (nameI ns s) else dv
theorem remove_c {L oi : Nat} {ns : List Nm} {dv : List NdV} {a b : AV} {H : AH} {s : List UInt8} (h : ImH L oi ns dv a b H) (hs : srtK cmpN Nm.name ns) (hd : srtK cmpI NdV.ino dv) (hx : ∀ x ∈ ns,hasK NdV.ino dv x.ino) (hn : ns.length≤100000) (hm : dv.length≤100000) :
  ∃ r H',ImP L oi H (remNs ns s) (remDv ns dv s) r H'∧BCall Tryz.prog 115 [.ptr oi 0,S (bstr s)] H r H':=image_remove_ok (by
 obtain ⟨Ra,Rb,sa,sb,fz⟩:=h.lend;have c0:=h.obj;unfold image_remove;have b0 : ztZ true 2 [a,b] 0=some (.agg [a,b]):=rfl;simp [c0,b0];refine bC_of (PCall.lend (FZs.cons fz (FZs.cons (FZ.lit _) FZs.nil)) rfl (named_p sa sb hs (by omega) s)).call ?_
 by_cases q : hasK Nm.name ns s
 ·obtain ⟨x,hx1,hx2,hx3⟩:=zypZ koN hs q
  obtain ⟨o,off,cells,u1,u2,u3,u4,u5,-⟩:=own_at zgfZ (by omega) h.sa h.oa hx1;have u51:=u5 1 (by omega);have hk:=hx x (List.mem_of_getElem? hx1);have hkl:=hasK_pos koI hd hk;have hpl:=(gSI.1 hx1).1;have e1 : remNs ns s=delK cmpN Nm.name ns s:=if_pos q;have e2 : remDv ns dv s=delK cmpI NdV.ino dv x.ino:=by unfold remDv nameI; rw [if_pos q,hx2]
  simp [q,c0,b0,u1,u3,u51,encN];refine bC_of (PCall.lend (FZs.cons fz (FZs.cons (FZ.lit _) FZs.nil)) rfl (node_p sa sb hd (by omega) x.ino)).call ?_;simp [c0,zbdZ (a:=(posK cmpN Nm.name ns s : Nat)) (b:=1) (by omega) (by omega)];obtain ⟨r1,H2,⟨d1,d2,d3,d4,d5,d6⟩,d7⟩:=delN_c h.sa h.oa h.ca hpl (by omega);refine bC_of d7 ?_;have l1:=delK_len (c:=cmpN) (key:=Nm.name) (k:=s) hpl;obtain ⟨H3,e3,n1,n2⟩:=h.newA (ms:=delK cmpN Nm.name ns s) (Nat.le_of_eq d3.symm) (λi _ hi=>d4 i hi) (by rw [show (delK cmpN Nm.name ns s).length=ns.length - 1 by omega]; exact d2) d1 (by rw [show (delK cmpN Nm.name ns s).length=ns.length - 1 by omega]; exact d6) (λi hi=>.inl (d5 ▸ hi));have c3:=n1.obj;simp [e3,c3,zbdZ (a:=(posK cmpI NdV.ino dv x.ino : Nat)) (b:=1) (by omega) (by omega)];obtain ⟨r2,H4,⟨g1,g2,g3,g4,g5,g6⟩,g7⟩:=delD_c n1.sb n1.ob n1.cb hkl (by omega);refine bC_of g7 ?_;have l2:=delK_len (c:=cmpI) (key:=NdV.ino) (k:=x.ino) hkl;obtain ⟨H5,e5,m1,m2⟩:=n1.newB (ew:=delK cmpI NdV.ino dv x.ino) (Nat.le_of_eq g3.symm) (λi _ hi=>g4 i hi) (by rw [show (delK cmpI NdV.ino dv x.ino).length=dv.length - 1 by omega]; exact g2) g1 (by rw [show (delK cmpI NdV.ino dv x.ino).length=dv.length - 1 by omega]; exact g6) (λi hi=>.inl (g5 ▸ hi));simp [e5];rw [e1,e2];exact ⟨rfl,_,_,m1,n2.trans m2⟩
 ·simp [q]
  refine ⟨rfl,a,b, ?_,FrL.refl _ _ _⟩;unfold remNs remDv;rw [if_neg q,if_neg q]; exact h)
def maySp (pos n : Int) : Prop:=0≤pos∧1≤n∧n≤1099511627776∧pos≤1099511627776 - n
instance (pos n : Int) : Decidable (maySp pos n):=by unfold maySp; infer_instance
theorem extent_span_p (pos n : Int) : BPure Tryz.prog 127 [I pos,I n] (B (decide (maySp pos n))):=BPure.flat λH=>extent_span_ok (by
 unfold extent_span maySp
 by_cases h1 : 0≤pos
 ·by_cases h2 : 1≤n
  ·by_cases h3 : n≤1099511627776
   ·simp [h1,h2,h3,zfpZ (a:=1099511627776) (b:=n) (by omega) (by omega)]
   ·simp [h1,h2,h3]
  ·simp [h1,h2]
 ·simp [h1])
theorem zycZ {size : Int} {l : List Ext} {v : AV} (hv : SV encE 9 l v) (hl : l.length≤1000000) (pos n : Int) (keep : Bool) :
  ∃ R,SV encE 9 (cL (ztqZ (size,l) pos n keep)) R∧BPure Tryz.prog 72 [.agg [I size,v],I pos,I n,B keep] (.tup [.agg [I (cS (ztqZ (size,l) pos n keep)),R],B (ztqZ (size,l) pos n keep).isSome]):=by
 refine BPure.cont (by simp [zdcZ,noIds,hv.1]) (extent_Allocate_ok ?_);unfold zbccZ;simp [znnZ hv,ztZ];refine zyZ (zjjZ hv (by omega)) ?_
 by_cases h1 : mayC size l
 ·simp [h1]
  refine zyZ (extent_span_p pos n) ?_
  by_cases h2 : maySp pos n
  ·by_cases h3 : 32768 < n
   ·have hn : ztqZ (size,l) pos n keep=none:=if_neg (λh=>by omega)
    simp [h2,h3,ast];exact ContK.none hn
   ·obtain ⟨g1,g2,g3,g4⟩:=h2
    have hw : ztqZ (size,l) pos n keep=some (if keep then size else max size (pos + n),allocL l pos n):=if_pos ⟨h1,g1,g2,by omega,g4⟩;simp [show maySp pos n from ⟨g1,g2,g3,g4⟩,h3];obtain ⟨r,H2,⟨w,rfl,a2,a3,a4,a5⟩,a1⟩:=copied_c (size:=size) (hv.2 [some (.cells [I size,v]),some (.cells [I 0,nilSl])]) (znnZ hv) (by omega);refine bC_of a1 ?_;have c0:=a4.cells (o:=0) (x:=some (.cells [I size,v])) rfl;have c1:=a4.cells (o:=1) (x:=some (.cells [I 0,nilSl])) rfl;have hl2:=a4.1;simp only [List.length_cons,List.length_nil] at hl2;have hwo:=zbiZ a2;have id0 : ∀ j,j < 2→j ∉ idS w:=λj hj h=>by have:=a5 j h; simp at this; omega
    rw [zcoZ (n:=2) (off:=0) (x:=.agg [I size,w]) (xs:=[I size,w]) (by simp [hwo]) c0 rfl (by simp)];simp [zbgjZ (a:=pos) (b:=8) (by omega) (by omega) (by omega)];have hs0:=zbfgZ h1.2.2;have hN : allocN pos n≤4098:=by unfold allocN; omega
    refine zygZ (λm x1 x2 x3 x4 x8 x10 H=>∃ (d : Nat) (w : AV),d + m=allocN pos n∧x1=I pos∧x2=I n∧x3=B keep∧x4 = .ptr 0 0∧x8 = .ptr 1 0∧x10=I (pos / 8 + d)∧H[0]? = some (some (.cells [I size,w]))∧H[1]? = some (some (.cells [I 0,nilSl])) ∧
     zaZ H 9 w=some ((needs l (pos / 8) d).flatMap encE,(needs l (pos / 8) d).length)∧zjsZ w=true∧(∀ j,j < 2→j ∉ idS w)) ?_ (allocN pos n)
     ⟨0,w,by simp,rfl,rfl,rfl,rfl,rfl,by simp,gSS (by omega),(gSN (by omega)).trans c1, ?_,a2,id0⟩
    ·rintro m x1 x2 x3 x4 x8 x10 H R hR ⟨d,w,hdn,rfl,rfl,rfl,rfl,rfl,rfl,k0,k1,kw,ko,kid⟩
     unfold zrlZ;have hH0:=(gSI.1 k0).1;have hH1:=(gSI.1 k1).1;simp [zbdZ (a:=pos) (b:=n) (by omega) (by omega),zfpZ (a:=pos + n) (b:=1) (by omega) (by omega),zbgjZ (a:=pos + n - 1) (b:=8) (by omega) (by omega) (by omega)]
     by_cases hd : d < allocN pos n
     ·have hc : pos / 8 + (d : Int)≤(pos + n - 1) / 8:=by unfold allocN at hd; omega
      have hws:=ns_srt (k:=d) hs0 (pos / 8);have hlen:=ns_len (k:=d) (l:=l) (no:=pos / 8);obtain ⟨H11,⟨w',q1,q2,q3,q4,q5,q6,q7⟩,q8⟩:=zbedZ (no:=pos / 8 + d) k0 kw ko (kid 0 (by omega)) hws (by omega);simp [hc];refine bC_of q8 ?_;have hid' : ∀ i,i < H.length→i ∉ idS w→i ∉ idS w':=λi h1 h2 h3=>(q7 i h3).elim h2 (λh=>by omega)
      simp [zbdZ (a:=pos / 8 + d) (b:=1) (by omega) (by omega)];refine hR (m - 1) _ _ _ _ _ _ _ (by omega) ⟨d + 1,w',by omega,rfl,rfl,rfl,rfl,rfl,by rw [show pos / 8 + (d : Int) + 1=pos / 8 + ((d + 1 : Nat) : Int) by omega],q1, ?_, ?_,q3,λi hi=>hid' i (by omega) (kid i hi)⟩
      ·rw [q6 1 hH1 (by omega) (kid 1 (by omega))]; exact k1
      ·rw [ns_succ]; exact q2
     ·have hd' : d=allocN pos n:=by omega
      subst hd';have hc : ¬ pos / 8 + ((allocN pos n : Nat) : Int)≤(pos + n - 1) / 8:=by unfold allocN; omega
      have hko:=zbiZ ko
      have tail : ∀ s H2,H2.length=H.length→H2[0]? = some (some (.cells [I s,w]))→H2[1]? = some (some (.cells [I 0,nilSl]))→zaZ H2 9 w=some ((allocL l pos n).flatMap encE,(allocL l pos n).length)→ztqZ (size,l) pos n keep=some (s,allocL l pos n)→zhiZ (.ptr 0 0) (.ptr 1 0) H2 (ContK (ztqZ (size,l) pos n keep)):=by
       intro s H2 hl2 e0 e1 e2 e3;rw [zyyZ];unfold zqdZ;simp [-zhpZ,zlZ e0,ztZ];rw [zcoZ (n:=2) (off:=0) (xs:=[I s,w]) (cs:=[I 0,nilSl]) (by simp [hko]) e1 rfl (by simp)];simp [show 1 < H2.length by omega,ztZ]
       exact ContK.some e3 (zcZ e2 λi hi=>by
        have h2 : 2≤i:=Nat.le_of_not_lt λh=>kid i h hi
        rw [gSN (by omega)])
      simp [hc];cases keep with
      | true =>
       simp;exact tail size H rfl k0 k1 kw hw
      | false =>
       have hmx : max (pos + n) size=max size (pos + n):=by omega
       simp [k0,zbdZ (a:=pos) (b:=n) (by omega) (by omega),hmx];rw [zcoZ (n:=1) (off:=0) (xs:=[I (max size (pos + n))]) (cs:=[I size,w]) rfl k0 rfl (by simp)];simp
       refine tail _ _ (by simp) (gSS hH0) ((gSN (by omega)).trans k1) (zcZ kw λi hi=>by
        have h2 : 2≤i:=Nat.le_of_not_lt λh=>kid i h hi
        rw [gSN (by omega)]) hw
    ·exact zcZ a3 λi hi=>by
      have h2 : 2≤i:=Nat.le_of_not_lt λh=>id0 i h hi
      rw [gSN (by omega)]
  ·have hn : ztqZ (size,l) pos n keep=none:=if_neg (λh=>h2 ⟨h.2.1,h.2.2.1,by omega,h.2.2.2.2⟩)
   simp [h2,ast];exact ContK.none hn
 ·have hn : ztqZ (size,l) pos n keep=none:=if_neg (λh=>h1 h.1)
  simp [h1,ast];exact ContK.none hn
theorem zpqZ {size : Int} {l : List Ext} {v : AV} (hv : SV encE 9 l v) (hl : l.length≤1000000) (pos n : Int) (keep : Bool) :
  ∃ R,SV encE 9 (cL (ztqZ (size,l) pos n keep)) R∧BPure Tryz.prog 135 [.agg [I size,v],I pos,I n,B keep] (.tup [.agg [I (cS (ztqZ (size,l) pos n keep)),R],B (ztqZ (size,l) pos n keep).isSome]):=by
 refine BPure.cont (by simp [zdcZ,noIds,hv.1]) (zoxZ ?_);unfold zibZ;simp [znnZ hv,ztZ];refine zyZ (zdoZ hv (by omega)) ?_
 by_cases h1 : mayC size l
 ·by_cases h2 : maySp pos n
  ·by_cases h3 : 32768 < n
   ·have hn : ztqZ (size,l) pos n keep=none:=if_neg (λh=>by omega)
    obtain ⟨g1,g2,g3,g4⟩:=h2;simp [h1,show ¬ pos < 0 by omega,show ¬ n < 1 by omega,h3,ast];exact ContK.none hn
   ·obtain ⟨g1,g2,g3,g4⟩:=h2
    have hw : ztqZ (size,l) pos n keep=some (if keep then size else max size (pos + n),allocL l pos n):=if_pos ⟨h1,g1,g2,by omega,g4⟩;simp [h1,show ¬ pos < 0 by omega,show ¬ n < 1 by omega,h3,zfpZ (a:=1099511627776) (b:=n) (by omega) (by omega),show ¬ 1099511627776 - n < pos by omega];obtain ⟨r,H2,⟨w,rfl,a2,a3,a4,a5⟩,a1⟩:=zbdvZ (size:=size) (hv.2 [some (.cells [I size,v]),some (.cells [I 0,nilSl])]) (znnZ hv) (by omega);refine bC_of a1 ?_;have c0:=a4.cells (o:=0) (x:=some (.cells [I size,v])) rfl;have c1:=a4.cells (o:=1) (x:=some (.cells [I 0,nilSl])) rfl;have hl2:=a4.1;simp only [List.length_cons,List.length_nil] at hl2;have hwo:=zbiZ a2;have id0 : ∀ j,j < 2→j ∉ idS w:=λj hj h=>by have:=a5 j h; simp at this; omega
    rw [zcoZ (n:=2) (off:=0) (x:=.agg [I size,w]) (xs:=[I size,w]) (by simp [hwo]) c0 rfl (by simp)];simp [zbgjZ (a:=pos) (b:=8) (by omega) (by omega) (by omega)];have hs0:=zbfgZ h1.2.2;have hN : allocN pos n≤4098:=by unfold allocN; omega
    refine zknZ (λm x1 x2 x3 x4 x8 x10 H=>∃ (d : Nat) (w : AV),d + m=allocN pos n∧x1=I pos∧x2=I n∧x3=B keep∧x4 = .ptr 0 0∧x8 = .ptr 1 0∧x10=I (pos / 8 + d)∧H[0]? = some (some (.cells [I size,w]))∧H[1]? = some (some (.cells [I 0,nilSl])) ∧
     zaZ H 9 w=some ((needs l (pos / 8) d).flatMap encE,(needs l (pos / 8) d).length)∧zjsZ w=true∧(∀ j,j < 2→j ∉ idS w)) ?_ (allocN pos n)
     ⟨0,w,by simp,rfl,rfl,rfl,rfl,rfl,by simp,gSS (by omega),(gSN (by omega)).trans c1, ?_,a2,id0⟩
    ·rintro m x1 x2 x3 x4 x8 x10 H R hR ⟨d,w,hdn,rfl,rfl,rfl,rfl,rfl,rfl,k0,k1,kw,ko,kid⟩
     unfold zfsZ;have hH0:=(gSI.1 k0).1;have hH1:=(gSI.1 k1).1;have hub : allocN pos n=((pos + n - 1) / 8 - pos / 8 + 1).toNat:=rfl;simp [zbdZ (a:=pos) (b:=n) (by omega) (by omega),zshZ (a:=pos / 8 + d) (b:=8) (by omega) (by omega)]
     by_cases hd : d < allocN pos n
     ·have hc : (pos / 8 + (d : Int)) * 8 < pos + n:=by unfold allocN at hd; omega
      have hws:=ns_srt (k:=d) hs0 (pos / 8);have hlen:=ns_len (k:=d) (l:=l) (no:=pos / 8);obtain ⟨H11,⟨w',q1,q2,q3,q4,q5,q6,q7⟩,q8⟩:=ref_need_c' (no:=pos / 8 + d) k0 kw ko (kid 0 (by omega)) hws (by omega);simp [hc];refine bC_of q8 ?_;have hid' : ∀ i,i < H.length→i ∉ idS w→i ∉ idS w':=λi h1 h2 h3=>(q7 i h3).elim h2 (λh=>by omega)
      simp [zbdZ (a:=pos / 8 + d) (b:=1) (by omega) (by omega)];refine hR (m - 1) _ _ _ _ _ _ _ (by omega) ⟨d + 1,w',by omega,rfl,rfl,rfl,rfl,rfl,by rw [show pos / 8 + (d : Int) + 1=pos / 8 + ((d + 1 : Nat) : Int) by omega],q1, ?_, ?_,q3,λi hi=>hid' i (by omega) (kid i hi)⟩
      ·rw [q6 1 hH1 (by omega) (kid 1 (by omega))]; exact k1
      ·rw [ns_succ]; exact q2
     ·have hd' : d=allocN pos n:=by omega
      subst hd';have hc : ¬ (pos / 8 + ((allocN pos n : Nat) : Int)) * 8 < pos + n:=by unfold allocN; omega
      have hko:=zbiZ ko
      have tail : ∀ s H2,H2.length=H.length→H2[0]? = some (some (.cells [I s,w]))→H2[1]? = some (some (.cells [I 0,nilSl]))→zaZ H2 9 w=some ((allocL l pos n).flatMap encE,(allocL l pos n).length)→ztqZ (size,l) pos n keep=some (s,allocL l pos n)→zcsZ (.ptr 0 0) (.ptr 1 0) H2 (ContK (ztqZ (size,l) pos n keep)):=by
       intro s H2 hl2 e0 e1 e2 e3;rw [zlgZ];unfold zfhZ;simp [-zhpZ,zlZ e0,ztZ];rw [zcoZ (n:=2) (off:=0) (xs:=[I s,w]) (cs:=[I 0,nilSl]) (by simp [hko]) e1 rfl (by simp)];simp [show 1 < H2.length by omega,ztZ]
       exact ContK.some e3 (zcZ e2 λi hi=>by
        have h2 : 2≤i:=Nat.le_of_not_lt λh=>kid i h hi
        rw [gSN (by omega)])
      simp [hc];cases keep with
      | true =>
       simp;exact tail size H rfl k0 k1 kw hw
      | false =>
       have hmx : max (pos + n) size=max size (pos + n):=by omega
       simp [k0,zbdZ (a:=pos) (b:=n) (by omega) (by omega),hmx];rw [zcoZ (n:=1) (off:=0) (xs:=[I (max size (pos + n))]) (cs:=[I size,w]) rfl k0 rfl (by simp)];simp
       refine tail _ _ (by simp) (gSS hH0) ((gSN (by omega)).trans k1) (zcZ kw λi hi=>by
        have h2 : 2≤i:=Nat.le_of_not_lt λh=>kid i h hi
        rw [gSN (by omega)]) hw
    ·exact zcZ a3 λi hi=>by
      have h2 : 2≤i:=Nat.le_of_not_lt λh=>id0 i h hi
      rw [gSN (by omega)]
  ·have hn : ztqZ (size,l) pos n keep=none:=if_neg (λh=>h2 ⟨h.2.1,h.2.2.1,by omega,h.2.2.2.2⟩)
   by_cases g1 : pos < 0
   ·simp [h1,g1,ast]
    exact ContK.none hn
   ·by_cases g2 : n < 1
    ·simp [h1,g1,g2,ast]
     exact ContK.none hn
    ·by_cases g3 : 32768 < n
     ·simp [h1,g1,g2,g3,ast]
      exact ContK.none hn
     ·have g4 : 1099511627776 - n < pos:=Int.lt_of_not_ge λh=>h2 ⟨by omega,by omega,by omega,h⟩
      simp [h1,g1,g2,g3,zfpZ (a:=1099511627776) (b:=n) (by omega) (by omega),g4,ast];exact ContK.none hn
 ·have hn : ztqZ (size,l) pos n keep=none:=if_neg (λh=>h1 h.1)
  simp [h1,ast];exact ContK.none hn
theorem FZ.fn {X : AH} {k : Fn} {a b a' b' : List AV} (ha : FZs X a a') (hb : FZs X b b') : FZ X (.fn k a b) (.fn k a' b'):=by
 obtain ⟨n0,h0⟩:=ha;obtain ⟨n1,h1⟩:=hb;refine ⟨n0 + n1 + 1,λn hn=>?_⟩;cases n with
 | zero => omega
 | succ n => simp only [frz,h0 n (by omega),h1 n (by omega)]
theorem FZs.same {X : AH} {vs : List AV} (h : zdcZ vs=true) : FZs X vs vs:=zmmZ X vs h
theorem FZ.ptr {X : AH} {o off : Nat} {cs Rs : List AV} (ho : X[o]? = some (some (.cells cs))) (h : FZs X (cs.drop off) Rs) : FZ X (.ptr o off) (.ip Rs):=by
 obtain ⟨n0,h0⟩:=h;refine ⟨n0 + 1,λn hn=>?_⟩;cases n with
 | zero => omega
 | succ n => simp only [frz,ho,h0 n (by omega)]; rfl
theorem sl_put {α : Type} {enc : α→List AV} {sz : Nat} (hsz : ∀ x,(enc x).length=sz) (h0 : 0 < sz) {H : AH} {w x : AV} {l : List α} {y : α} {i : Nat} {a : Int} (hw : zaZ H sz w=some (l.flatMap enc,l.length)) (ho : zjsZ w=true) (hi : i < l.length) (ha : a=i) (hx : zbdpZ x=some (enc y)) :
  ∃ p H',aixS sz w (I a)=some p∧ast sz H p x=some H'∧H'.length=H.length∧(∀ j,j ∉ idS w→H'[j]? = H[j]?)∧zaZ H' sz w=some ((l.set i y).flatMap enc,l.length):=by
 subst ha;obtain ⟨o,off,cap,cells,rfl,h1,h2,h3⟩:=zbabZ hw ho (by omega);have hol:=(gSI.1 h1).1;have hmul : i * sz + sz≤l.length * sz:=by rw [← Nat.succ_mul]; exact Nat.mul_le_mul_right _ hi
 have hy:=hsz y;have hl:=gEG hi;have hll:=hsz (l[i]);refine ⟨.ptr o (off + i * sz),H.set o (some (.cells (over cells (off + (i * sz + 0)) (enc y)))), ?_, ?_,by simp,λj hj=>gSN (by simp [idS] at hj; omega), ?_⟩
 ·simp only [aixS,aint]
  rw [if_pos ⟨by omega,by omega⟩]; simp
 ·rw [zcoZ (n:=sz) (off:=off + i * sz) (xs:=enc y) hx h1 hy (by omega),zujZ _ _ _ (by omega)]; rfl
 ·rw [zbuZ (c:=over cells (off + (i * sz + 0)) (enc y)) (by simp [hol]) (by rw [zzkZ (by omega)]; exact h2)]
  rw [zbfwZ h2 (by omega),← h3,zbfzZ (q:=0) hsz hl (by unfold over; rw [List.take_zero,List.nil_append,List.drop_of_length_le (by omega),List.append_nil]) (by omega)]
def firstI (p : Ext→Bool) (l : List Ext) : Int:=match l.findIdx? p with
 | some i => i
 | none => -1
def DelP (k : FuncId) (oc : Nat) (c : List AV) (l : List Ext) (p : Ext→Bool) : Prop :=
 zbchZ Tryz.prog k=true∧zdcZ c=true∧∀ x ∈ l,∀ (H : AH) (a : AV),(a = .ip c∨(a = .ptr oc 0∧H[oc]? = some (some (.cells c))))→∃ H',Grew H H'∧BCall Tryz.prog k [.agg (encE x),a] H (B (p x)) H'
theorem ext_IndexFunc_p {k : FuncId} {oc : Nat} {c : List AV} {l : List Ext} {p : Ext→Bool} {R : AV} (hR : SV encE 9 l R) (hl : l.length≤281474976710656) (hd : DelP k oc c l p) :
  BPure Tryz.prog 170 [R,.fn (.func k) [] [.ip c]] (I (firstI p l)):=BPure.val (by simp [zdcZ,noIds,hR.1,hd.2.1]) rfl (zemZ (by
 unfold zdkZ;simp [hR.len];refine zdqZ (λn x0 x1 x7 x8 H=>∃ j : Nat,j + n=l.length∧x0=R∧x1 = .fn (.func k) [] [.ip c]∧x7=I l.length∧x8=I j∧∀ m x,m < j→l[m]? = some x→p x=false) ?_ l.length ⟨0,by simp,rfl,rfl,rfl,rfl,by simp⟩;rintro n x0 x1 x7 x8 H R' hR' ⟨j,hj,rfl,rfl,rfl,rfl,hm⟩;unfold zcjZ;rcases Nat.lt_or_ge j l.length with hlt | hge
 ·have hx:=gEG hlt
  generalize l[j]=y at hx;obtain ⟨H',g,hc⟩:=hd.2.2 y (List.mem_of_getElem? hx) H (.ip c) (.inl rfl);simp [hlt,hR.idx zbmZ hx rfl,hd.1];refine bC_of hc ?_;cases hp : p y with
  | true =>
   have : l.findIdx? p=some j:=by
    rw [List.findIdx?_eq_some_iff_getElem];obtain ⟨h1,h2⟩:=gSI.1 hx;refine ⟨h1,by rw [h2]; exact hp,λi hi=>?_⟩
    have:=hm i _ hi (gEG (by omega))
    simp [this]
   simp [firstI,this]
  | false =>
   simp [zbdZ (a:=j) (b:=1) (by omega) (by omega)];refine hR' (n - 1) _ _ _ _ _ (by omega) ⟨j + 1,by omega,rfl,rfl,rfl,rfl,λm x hmj hx2=>?_⟩
   by_cases h : m=j
   ·subst h; rw [hx] at hx2; injection hx2 with hx2; rw [← hx2]; exact hp
   ·exact hm m x (by omega) hx2
 ·have : l.findIdx? p=none:=by
   rw [List.findIdx?_eq_none_iff];intro x hx;obtain ⟨m,hmx⟩:=List.mem_iff_getElem?.1 hx;exact hm m x (by have:=(gSI.1 hmx).1; omega) hmx
  have hjl : ¬ j < l.length:=by omega
  simp [hjl,firstI,this]))
theorem filter_none {p : Ext→Bool} {l : List Ext} (h : ∀ x ∈ l,p x=false) : l.filter (λx=>!p x)=l:=List.filter_eq_self.2 λx hx=>by simp [h x hx]
theorem zzcZ {H : AH} {v : AV} {l : List Ext} {k : FuncId} {oc : Nat} {c : List AV} {p : Ext→Bool} (hv : zaZ H 9 v=some (l.flatMap encE,l.length)) (ho : zjsZ v=true) (hl : l.length≤1000000) (hc : H[oc]? = some (some (.cells c))) (hne : oc ∉ idS v) (hd : DelP k oc c l p) :
  ∃ r H',(zjsZ r=true∧zaZ H' 9 r=some ((l.filter λx=>!p x).flatMap encE,(l.filter λx=>!p x).length)∧H.length≤H'.length∧(∀ i,i < H.length→i ∉ idS v→H'[i]? = H[i]?)∧∀ i ∈ idS r,i ∈ idS v) ∧
   BCall Tryz.prog 124 [v,.fn (.func k) [] [.ptr oc 0]] H r H':=zitZ (by
 unfold zeyZ;obtain ⟨R,hR,fR⟩:=FZ.sv hv (noIdss_exts l);have fc : FZ H (.fn (.func k) [] [.ptr oc 0]) (.fn (.func k) [] [.ip c]):=FZ.fn FZs.nil (FZs.cons (FZ.ptr hc (FZs.same hd.2.1)) FZs.nil);refine bP_of (PCall.lend (FZs.cons fR (FZs.cons fc FZs.nil)) rfl (ext_IndexFunc_p hR (by omega) hd)) ?_;cases hf : l.findIdx? p with
 | none =>
  rw [List.findIdx?_eq_none_iff] at hf;simp [firstI,List.findIdx?_eq_none_iff.2 hf];rw [filter_none hf];exact ⟨ho,hv⟩
 | some i0 =>
  obtain ⟨h1,h2,h3⟩:=List.findIdx?_eq_some_iff_getElem.1 hf;have hoc:=(gSI.1 hc).1;simp [firstI,hf,show ¬ (i0 : Int) = -1 by omega,zbdZ (a:=i0) (b:=1) (by omega) (by omega)]
  have ht : (l.take (i0 + 1)).filter (λx=>!p x)=l.take i0:=by
   rw [List.take_add_one,List.filter_append,gEG h1];simp [h2];intro x hx;obtain ⟨m,hm⟩:=List.mem_iff_getElem?.1 hx;have hml:=(gSI.1 hm).1;rw [List.length_take] at hml;rw [List.getElem?_take,if_pos (by omega)] at hm
   have:=h3 m (by omega)
   obtain ⟨q1,q2⟩:=gSI.1 hm;rw [q2] at this
   simpa using this
  refine zgyZ (λn x0 x1 x5 x6 H'=>∃ (i j : Nat) (M : List Ext),j + n=l.length∧i < j∧x0=v∧x1 = .fn (.func k) [] [.ptr oc 0]∧x5=I i∧x6=I j∧M.length=l.length∧M.take i=(l.take j).filter (λx=>!p x)∧M.drop j=l.drop j ∧
   zaZ H' 9 v=some (M.flatMap encE,M.length)∧H'[oc]? = some (some (.cells c))∧H.length≤H'.length∧∀ i,i < H.length→i ∉ idS v→H'[i]? = H[i]?) ?_ (l.length - (i0 + 1))
   ⟨i0,i0 + 1,l,by omega,by omega,rfl,rfl,rfl,rfl,rfl,ht.symm,rfl,hv,hc,Nat.le_refl _,λ_ _ _=>rfl⟩
  rintro n x0 x1 x5 x6 H' R' hR' ⟨i,j,M,hj,hij,rfl,rfl,rfl,rfl,hM,hMt,hMd,hw,hc',hle,hk⟩;unfold zdwZ;rcases Nat.lt_or_ge j l.length with hlt | hge
  ·have hx:=gEG hlt
   generalize l[j]=y at hx
   have hMx : M[j]? = some y:=by
    have:=congrArg (λq=>q[0]?) hMd
    simp only [List.getElem?_drop,Nat.add_zero] at this;rw [this]; exact hx
   obtain ⟨q,-,e1,-,-,e2⟩:=sl_no (a:=j) hw hMx rfl;have hoc':=(gSI.1 hc').1;have gA:=Grew.app H' [some (.cells (encE y))];obtain ⟨H10,g,hcl⟩:=hd.2.2 y (List.mem_of_getElem? hx) (H' ++ [some (.cells (encE y))]) (.ptr oc 0) (.inr ⟨rfl,gA.cells hc'⟩);have gB:=gA.trans g;have z:=g.cells (o:=H'.length) (x:=some (.cells (encE y))) (by simp);simp [zhxZ hw,hM,hlt,e1,e2,hd.1,-zhpZ];rw [ast_e (by simp) (by rfl)];simp;refine bC_of hcl ?_
   have hdrop : M.drop (j + 1)=l.drop (j + 1):=by
    have:=congrArg (List.drop 1) hMd
    rw [List.drop_drop,List.drop_drop] at this;exact this
   have hkeepB : ∀ i,i < H.length→i ∉ idS x0→H10[i]? = H[i]?:=λi h1 h2=>by rw [gB.2 i (by omega),hk i h1 h2]
   cases hp : p y with
   | true =>
    simp;rw [zdpZ];unfold zceZ;simp [zbdZ (a:=j) (b:=1) (by omega) (by omega)];refine hR' (n - 1) _ _ _ _ _ (by omega) ⟨i,j + 1,M,by omega,by omega,rfl,rfl,rfl,rfl,hM, ?_,hdrop,gB.slice hw,gB.cells hc',by have:=gB.1; omega,hkeepB⟩;rw [List.take_add_one,List.filter_append,← hMt,hx];simp [hp]
   | false =>
    obtain ⟨q2,H16,f1,f2,f3,f4,f5⟩:=sl_put (x:=.agg (encE y)) (y:=y) (i:=i) (a:=i) zbmZ (by omega) (gB.slice hw) ho (by omega) rfl (by simp);simp [z,f1,f2,zbdZ (a:=i) (b:=1) (by omega) (by omega)];rw [zdpZ];unfold zceZ;simp [zbdZ (a:=j) (b:=1) (by omega) (by omega)];refine hR' (n - 1) _ _ _ _ _ (by omega) ⟨i + 1,j + 1,M.set i y,by omega,by omega,rfl,rfl,rfl,rfl,by simpa using hM, ?_, ?_,by simpa using f5, ?_,by have:=gB.1; omega,λi h1 h2=>by rw [f4 i h2]; exact hkeepB i h1 h2⟩
    ·rw [List.take_add_one (l:=l),List.filter_append,← hMt,hx,List.take_add_one,gSS (by omega),List.take_set_of_le (Nat.le_refl _)]
     simp [hp]
    ·rw [List.drop_set_of_lt (by omega)]; exact hdrop
    ·rw [f4 oc hne]; exact gB.cells hc'
  ·have hjl : j=l.length:=by omega
   subst hjl;rw [List.take_length] at hMt;have hil : i≤M.length:=by omega
   have hfl : (l.filter λx=>!p x).length=i:=by rw [← hMt,List.length_take]; omega
   obtain ⟨o,off,cap,cells,rfl,w1,w2,w3⟩:=zbabZ hw ho (by omega);have hol:=(gSI.1 w1).1;have hmul : i * 9≤M.length * 9:=Nat.mul_le_mul_right _ hil;have hmul2 : i * 9 + (M.length - i) * 9=M.length * 9:=by rw [← Nat.add_mul]; congr 1; omega
   have hz : (zrow (encE (newE 0)) (M.length - i)).length=(M.length - i) * 9:=by rw [zieZ]; rfl
   have e3 : aslS 9 (.sl o off M.length 9 cap) (some (I i)) none none=some (.sl o (off + i * 9) (M.length - i) 9 (cap.cut M.length i)):=by
    simp [aslS,abnd]; omega
   have e4 : aslS 9 (.sl o off M.length 9 cap) none (some (I i)) none=some (.sl o off i 9 (cap.cut M.length 0)):=by
    simp [aslS,abnd]; omega
   have e5 : acl (encE (newE 0)) H' (.sl o (off + i * 9) (M.length - i) 9 (cap.cut M.length i))=some (H'.set o (some (.cells (over cells (off + i * 9) (zrow (encE (newE 0)) (M.length - i)))))):=by
    simp only [acl,w1];rw [if_pos ⟨rfl,by omega,by omega⟩,if_neg (by omega),zujZ _ _ _ (by rw [hz]; omega)];rfl
   rw [← encE_new];have hnl : ¬ (l.length : Int) < M.length:=by omega
   simp only [alnS_sl,zbZ,zglZ,hnl,dFf,zpZ,zmZ,e3,e5,zcaZ,e4];refine ⟨rfl, ?_,by simpa using hle,λa h1 h2=>?_,by simp [idS]⟩
   ·have hov : (over cells (off + i * 9) (zrow (encE (newE 0)) (M.length - i))).length=cells.length:=zzkZ (by rw [hz]; omega)
    rw [hfl,zbuZ (c:=over cells (off + i * 9) (zrow (encE (newE 0)) (M.length - i))) (by simp [hol]) (by rw [hov]; omega)]
    congr 2
    rw [← hMt,← zttZ zbmZ,w3,List.take_take,Nat.min_eq_left hmul];refine List.ext_getElem? λq=>?_
    rw [List.getElem?_take,List.getElem?_take]
    split
    ·rw [List.getElem?_drop,List.getElem?_drop,zbebZ (by rw [hz]; omega),if_neg (by omega)]
    ·rfl
   ·rw [gSN (by simp [idS] at h2; omega)]
    exact hk a h1 h2)
theorem over_same {cs xs : List AV} {k : Nat} (h : (cs.drop k).take xs.length=xs) (hl : k + xs.length≤cs.length) : over cs k xs=cs:=by
 refine List.ext_getElem? λi=>?_
 rw [zbebZ hl]
 split
 ·rename_i c
  rw [← h,List.getElem?_take,if_pos (by omega),List.getElem?_drop,show k + (i - k)=i by omega]
 ·rfl
theorem encE_get (x : Ext) {j : Nat} (hj : j < 8) : (encE x)[j + 1]? = some (.lit (.int .u8 (x.b.getD j 0).toNat)):=by
 have hb:=x.hb;unfold encE;rw [gCS,encB_get,List.getD_eq_getElem?_getD,gEG (by omega)];rfl
theorem wipe_step {x : Ext} {a : Int} {i j : Nat} (hj : (j : Int)=a - x.no * 8 + i) (hj8 : j < 8) : (encE (wipeE x a (a + i))).set (1 + j) (.lit (.int .u8 0))=encE (wipeE x a (a + (i + 1 : Nat))):=by
 refine List.ext_getElem? λq=>?_
 rw [List.getElem?_set];cases q with
 | zero => rw [if_neg (by omega)]; rfl
 | succ q =>
  by_cases hq : q < 8
  ·rw [encE_get _ hq,encE_get _ hq,zhgZ hq,zhgZ hq,zbmZ]
   by_cases c : 1 + j=q + 1
   ·rw [if_pos c,if_pos (by omega),if_pos (by omega)]; rfl
   ·rw [if_neg c]
    by_cases c2 : a≤x.no * 8 + (q : Int)∧x.no * 8 + (q : Int) < a + i
    ·rw [if_pos c2,if_pos (by omega)]
    ·rw [if_neg c2,if_neg (by omega)]
  ·rw [List.getElem?_eq_none (by rw [zbmZ]; omega),List.getElem?_eq_none (by rw [zbmZ]; omega),zbmZ]
   rw [if_neg (by omega)]
theorem wipe_c {H : AH} {o q : Nat} {cells : List AV} {x : Ext} {s : Sp} (hc : H[o]? = some (some (.cells cells))) (hx : (cells.drop q).take 9=encE x) (hq : q + 9≤cells.length) (hs : MaySpan s) (h0 : 0≤x.no) (h1 : x.no < 137438953472) :
  ∃ H',(H'[o]? = some (some (.cells (over cells q (encE (wipeE x s.pos (s.pos + s.len))))))∧H.length≤H'.length∧∀ i,i < H.length→i ≠ o→H'[i]? = H[i]?)∧BCall Tryz.prog 126 [.ptr o q,.agg (encSp s)] H (.tup []) H':=by
 have key : ∃ r H',(r = .tup []∧(H'[o]? = some (some (.cells (over cells q (encE (wipeE x s.pos (s.pos + s.len))))))∧H.length≤H'.length∧∀ i,i < H.length→i ≠ o→H'[i]? = H[i]?))∧BCall Tryz.prog 126 [.ptr o q,.agg (encSp s)] H r H':=extent_wipe_ok (by
  unfold extent_wipe;have ho:=(gSI.1 hc).1
  have hno : cells[q]? = some (I x.no):=by
   have:=congrArg (λl=>l[0]?) hx
   simp only [List.getElem?_take,List.getElem?_drop,Nat.add_zero] at this
   simpa [encE] using this
  have g1:=Grew.app H [some (.cells (encSp s))];have c1:=g1.cells hc;have c1' : H[o]? = some (some (.cells cells)):=hc;obtain ⟨p,n⟩:=s;simp only [encSp] at c1 g1 ⊢;simp [List.getElem?_append_left ho,hc,hno,ztZ];refine bP_of (zxwZ x.no h0 h1) ?_;refine bP_of (off_Meet_p ⟨x.no * 8,8⟩ ⟨p,n⟩) ?_;have hwm : MaySpan ⟨x.no * 8,8⟩:=by simp only [MaySpan,May]; omega
  have hm : meet ⟨x.no * 8,8⟩ ⟨p,n⟩=if max (x.no * 8) p < min (x.no * 8 + 8) (p + n) then ⟨max (x.no * 8) p,min (x.no * 8 + 8) (p + n) - max (x.no * 8) p⟩ else ⟨0,0⟩:=by
   unfold meet;simp only
   by_cases c : max (x.no * 8) p < min (x.no * 8 + 8) (p + n)
   ·rw [if_pos ⟨hwm,hs,c⟩,if_pos c]
   ·rw [if_neg (λh=>c h.2.2),if_neg c]
  -- what is wiped
  have hres : ∀ m : Nat,(m : Int)=(meet ⟨x.no * 8,8⟩ ⟨p,n⟩).len→wipeE x (meet ⟨x.no * 8,8⟩ ⟨p,n⟩).pos ((meet ⟨x.no * 8,8⟩ ⟨p,n⟩).pos + m)=wipeE x p (p + n):=by
   intro m he;refine ext_eq rfl λk hk=>?_
   rw [zhgZ hk,zhgZ hk];rw [hm] at he ⊢
   by_cases c : max (x.no * 8) p < min (x.no * 8 + 8) (p + n)
   ·rw [if_pos c] at he ⊢
    simp only at he ⊢
    by_cases c2 : p≤x.no * 8 + (k : Int)∧x.no * 8 + (k : Int) < p + n
    ·rw [if_pos c2,if_pos (by omega)]
    ·rw [if_neg c2,if_neg (by omega)]
   ·rw [if_neg c] at he ⊢
    simp only at he ⊢;rw [if_neg (by omega),if_neg (by omega)]
  have hml : ∃ m : Nat,(m : Int)=(meet ⟨x.no * 8,8⟩ ⟨p,n⟩).len∧(0 < m→x.no * 8≤(meet ⟨x.no * 8,8⟩ ⟨p,n⟩).pos∧(meet ⟨x.no * 8,8⟩ ⟨p,n⟩).pos + m≤x.no * 8 + 8):=by
   rw [hm]
   split
   ·exact ⟨(min (x.no * 8 + 8) (p + n) - max (x.no * 8) p).toNat,by simp only; omega,λ_=>by simp only; omega⟩
   ·exact ⟨0,rfl,λh=>by omega⟩
  obtain ⟨m,hmm,hmb⟩:=hml;have hres:=hres m hmm;generalize meet ⟨x.no * 8,8⟩ ⟨p,n⟩=M at hmm hmb hres;obtain ⟨a,ml⟩:=M;simp only at hmm hmb hres;subst hmm;have hxl:=zbmZ x;simp [encSp,List.getElem?_append_left ho,hc,hno,ast];have hz0 : wipeE x a (a + (0 : Nat))=x:=ext_eq rfl λk hk=>by rw [zhgZ hk,if_neg (by omega)]
  refine zbdmZ (λt x0 x4 x14 x15 H'=>∃ i : Nat,i + t=m∧x0 = .ptr o q∧x4 = .ptr (H.length + 1) 0∧x14=I m∧x15=I i∧H'[o]? = some (some (.cells (over cells q (encE (wipeE x a (a + i))))))∧H'[H.length + 1]? = some (some (.cells [I a,I m]))∧H.length≤H'.length∧∀ i,i < H.length→i ≠ o→H'[i]? = H[i]?) ?_ m
   ⟨0,by omega,rfl,rfl,rfl,rfl, ?_, ?_,by simp,λi hi _=>List.getElem?_append_left hi⟩
  ·rintro t x0 x4 x14 x15 H' R hR ⟨i,hi,rfl,rfl,rfl,rfl,d0,d1,d2,d3⟩
   unfold zbacZ
   by_cases hlt : i < m
   ·obtain ⟨b1,b2⟩:=hmb (by omega)
    obtain ⟨j,hj⟩ : ∃ j : Nat,(j : Int)=a - x.no * 8 + i:=⟨(a - x.no * 8 + i).toNat,by omega⟩;have ho':=(gSI.1 d0).1;have hwl:=zbmZ (wipeE x a (a + i))
    have hno' : (over cells q (encE (wipeE x a (a + i))))[q]? = some (I x.no):=by
     rw [zbebZ (by omega),if_pos (by omega),Nat.sub_self]; rfl
    simp [hlt,d1,d0,hno',zshZ (a:=x.no) (b:=8) (by omega) (by omega),zfpZ (a:=a) (b:=x.no * 8) (by omega) (by omega),zbdZ (a:=a - x.no * 8) (b:=i) (by omega) (by omega),← hj]
    have e1 : aixA 8 1 (.ptr o (q + 1)) (I j)=some (.ptr o (q + 1 + j)):=by
     simp [aixA,aint]; omega
    rw [e1];simp only [zbZ];rw [zcoZ (n:=1) (off:=q + 1 + j) (xs:=[.lit (.int .u8 0)]) rfl d0 rfl (by rw [zzkZ (by omega)]; omega)];simp [zbdZ (a:=i) (b:=1) (by omega) (by omega)];refine hR (t - 1) _ _ _ _ _ (by omega) ⟨i + 1,by omega,rfl,rfl,rfl,rfl, ?_, ?_,by simpa using d2,λy h1 h2=>?_⟩
    ·rw [gSS ho',← wipe_step hj (by omega)]
     congr 3
     refine List.ext_getElem? λy=>?_
     rw [List.getElem?_set,zzkZ (by omega),zbebZ (by omega),zbebZ (by simp; omega),List.getElem?_set,List.length_set]
     by_cases c : q + 1 + j=y
     ·subst c
      rw [if_pos rfl,if_pos (by omega),if_pos (by omega),if_pos (by omega),if_pos (by omega)]
     ·rw [if_neg c]
      split
      ·rw [if_neg (by omega)]
      ·rfl
    ·rw [gSN (by omega)]; exact d1
    ·rw [gSN (by omega)]; exact d3 y h1 h2
   ·have : i=m:=by omega
    subst this;simp [hlt];rw [hres] at d0;exact ⟨d0,d2,d3⟩
  ·rw [List.getElem?_append_left ho,hz0,over_same (by rw [hxl]; exact hx) (by omega)]
   exact hc
  ·rw [List.getElem?_append_right (by omega)]; simp)
 obtain ⟨r,H',⟨rfl,h1⟩,h2⟩:=key;exact ⟨H',h1,h2⟩
theorem sl_wipe {H : AH} {w : AV} {l : List Ext} {i : Nat} {a : Int} {x : Ext} {s : Sp} (hw : zaZ H 9 w=some (l.flatMap encE,l.length)) (ho : zjsZ w=true) (hx : l[i]? = some x) (ha : a=i) (hs : MaySpan s) (h0 : 0≤x.no) (h1 : x.no < 137438953472) :
  ∃ p H',aixS 9 w (I a)=some p∧BCall Tryz.prog 126 [p,.agg (encSp s)] H (.tup []) H'∧H.length≤H'.length∧(∀ j,j < H.length→j ∉ idS w→H'[j]? = H[j]?)∧zaZ H' 9 w=some ((l.set i (wipeE x s.pos (s.pos + s.len))).flatMap encE,l.length):=by
 subst ha;have hi:=(gSI.1 hx).1;obtain ⟨o,off,cap,cells,rfl,h2,h3,h4⟩:=zbabZ hw ho (by omega);have hol:=(gSI.1 h2).1;have hmul : i * 9 + 9≤l.length * 9:=by rw [← Nat.succ_mul]; exact Nat.mul_le_mul_right _ hi
 have hxl:=zbmZ x;have hwl:=zbmZ (wipeE x s.pos (s.pos + s.len))
 have hpart : (cells.drop (off + i * 9)).take 9=encE x:=by
  have e : ((l.flatMap encE).drop (i * 9)).take 9=encE x:=by
   rw [zlzZ zbmZ hx,List.take_append_of_le_length (by omega),List.take_of_length_le (by omega)]
  rw [h4,List.drop_take,List.drop_drop,List.take_take,Nat.min_eq_left (by omega)] at e;exact e
 obtain ⟨H',⟨k1,k2,k3⟩,k4⟩:=wipe_c (q:=off + i * 9) h2 hpart (by omega) hs h0 h1;refine ⟨.ptr o (off + i * 9),H', ?_,k4,k2,λj h5 h6=>k3 j h5 (by simp [idS] at h6; omega), ?_⟩
 ·simp only [aixS,aint]
  rw [if_pos ⟨by omega,by omega⟩]; simp
 ·rw [zbuZ k1 (by rw [zzkZ (by omega)]; exact h3)]
  rw [show off + i * 9=off + (i * 9 + 0) by omega,zbfwZ h3 (by omega),← h4,zbfzZ (q:=0) zbmZ hx (by unfold over; rw [List.take_zero,List.nil_append,List.drop_of_length_le (by omega),List.append_nil]) (by omega)]
theorem map_set {f : Ext→Ext} {l : List Ext} {i : Nat} {x : Ext} (hx : l[i]? = some x) : ((l.take i).map f ++ l.drop i).set i (f x)=(l.take (i + 1)).map f ++ l.drop (i + 1):=by
 have hi:=(gSI.1 hx).1;rw [zmiZ hx,List.set_append_right _ _ (by rw [List.length_map,List.length_take]; omega),List.take_add_one,hx];simp [show i - min i l.length=0 by omega]
theorem map_get {f : Ext→Ext} {l : List Ext} {i : Nat} {x : Ext} (hx : l[i]? = some x) : ((l.take i).map f ++ l.drop i)[i]? = some x:=by
 have hi:=(gSI.1 hx).1;rw [List.getElem?_append_right (by rw [List.length_map,List.length_take]; omega),List.getElem?_drop];simp only [List.length_map,List.length_take];rw [show i + (i - min i l.length)=i by omega]; exact hx
theorem map_len {f : Ext→Ext} {l : List Ext} {i : Nat} : ((l.take i).map f ++ l.drop i).length=l.length:=by
 simp; omega
theorem trunc_del (size : Int) (l : List Ext) (h : ∀ x ∈ l,-1≤x.no∧x.no < 137438953472) : DelP 125 1 [I size] l (λx=>decide (size≤x.no * 8)):=by
 refine ⟨by kernel_rfl,rfl,λx hx H a ha=>?_⟩;obtain ⟨h1,h2⟩:=h x hx
 have key : ∃ r H',(r=B (decide (size≤x.no * 8))∧Grew H H')∧BCall Tryz.prog 125 [.agg (encE x),a] H r H':=zbbeZ (by
  unfold zxvZ;have g:=Grew.app H [some (.cells (encE x))];rcases ha with rfl | ⟨rfl,hc⟩
  ·simp [zshZ (a:=x.no) (b:=8) (by omega) (by omega)]
   exact g
  ·have h1':=(gSI.1 hc).1
   have hc':=g.cells hc;simp [zshZ (a:=x.no) (b:=8) (by omega) (by omega),hc'];exact g)
 obtain ⟨r,H',⟨rfl,g⟩,hc⟩:=key;exact ⟨H',g,hc⟩
theorem punch_del (oc : Nat) (s : Sp) (l : List Ext) (h : ∀ x ∈ l,0≤x.no∧x.no < 137438953472) : DelP 128 oc (encSp s) l (λx=>decide (Within ⟨x.no * 8,8⟩ s)):=by
 refine ⟨by kernel_rfl,rfl,λx hx H a ha=>?_⟩;obtain ⟨h1,h2⟩:=h x hx
 have key : ∃ r H',(r=B (decide (Within ⟨x.no * 8,8⟩ s))∧Grew H H')∧BCall Tryz.prog 128 [.agg (encE x),a] H r H':=extent_Punch_1_ok (by
  unfold zbelZ;have g:=Grew.app H [some (.cells (encE x))];simp;refine bP_of (zxwZ x.no h1 h2) ?_
  have ha' : ald true 2 (H ++ [some (.cells (encE x))]) a=some (.agg (encSp s)):=by
   rcases ha with rfl | ⟨rfl,hc⟩
   ·rfl
   ·rw [zlZ (g.cells hc)]; rfl
  rw [ha'];simp;refine bP_of (off_Within_p ⟨x.no * 8,8⟩ s) ?_;exact ⟨rfl,g⟩)
 obtain ⟨r,H',⟨rfl,g⟩,hc⟩:=key;exact ⟨H',g,hc⟩
theorem zxaZ {size0 : Int} {l : List Ext} {v : AV} (hv : SV encE 9 l v) (hl : l.length≤1000000) (size : Int) :
  ∃ R,SV encE 9 (cL (zvnZ (size0,l) size)) R∧BPure Tryz.prog 71 [.agg [I size0,v],I size] (.tup [.agg [I (cS (zvnZ (size0,l) size)),R],B (zvnZ (size0,l) size).isSome]):=by
 refine BPure.cont (by simp [zdcZ,noIds,hv.1]) (extent_Truncate_ok ?_);unfold zbceZ;simp [znnZ hv,ztZ,anew_lit];refine zyZ (zjjZ hv (by omega)) ?_
 by_cases h1 : mayC size0 l
 ·by_cases h2 : size < 0
  ·have hn : zvnZ (size0,l) size=none:=if_neg (λh=>by omega)
   simp [h1,h2,ast];exact ContK.none hn
  ·by_cases h3 : 1099511627776 < size
   ·have hn : zvnZ (size0,l) size=none:=if_neg (λh=>by omega)
    simp [h1,h2,h3,ast];exact ContK.none hn
   ·have hw : zvnZ (size0,l) size=some (size,zbgfZ l size):=if_pos ⟨h1,by omega,by omega⟩
    simp [h1,h2,h3];obtain ⟨r,H2,⟨w,rfl,a2,a3,a4,a5⟩,a1⟩:=copied_c (size:=size0) (hv.2 [some (.cells [I size0,v]),some (.cells [I size]),some (.cells [I 0,nilSl])]) (znnZ hv) (by omega);refine bC_of a1 ?_;have c0:=a4.cells (o:=0) (x:=some (.cells [I size0,v])) rfl;have c1:=a4.cells (o:=1) (x:=some (.cells [I size])) rfl;have c2:=a4.cells (o:=2) (x:=some (.cells [I 0,nilSl])) rfl;have hl2:=a4.1;simp only [List.length_cons,List.length_nil] at hl2;have hwo:=zbiZ a2;have id0 : ∀ j,j < 3→j ∉ idS w:=λj hj h=>by have:=a5 j h; simp at this; omega
    have hs0:=zbfgZ h1.2.2;have hno:=λx hx=>(zbgkZ h1.2.2 x hx)
    rw [zcoZ (n:=2) (off:=0) (x:=.agg [I size0,w]) (xs:=[I size0,w]) (by simp [hwo]) c0 rfl (by simp)];simp [c1];rw [zcoZ (n:=1) (off:=0) (xs:=[I size]) (cs:=[I size0,w]) rfl (gSS (by omega)) rfl (by simp)];simp [show 0 < H2.length by omega];have keep0 : ∀ j x,j ≠ 0→(H2.set 0 x)[j]? = H2[j]?:=λj x hj=>gSN (by omega)
    have hw1 : zaZ (H2.set 0 (some (.cells [I size,w]))) 9 w=some (l.flatMap encE,l.length):=zcZ a3 λi hi=>keep0 i _ (λh=>id0 0 (by omega) (h ▸ hi))
    obtain ⟨r2,H3,⟨b1,b2,b3,b4,b5⟩,b6⟩:=zzcZ (k:=125) hw1 a2 (by omega) (oc:=1) (c:=[I size]) (by rw [keep0 1 _ (by omega)]; exact c1) (id0 1 (by omega)) (trunc_del size l λx hx=>by have:=hno x hx; omega)
    have hfe : (l.filter λx=>!decide (size≤x.no * 8))=l.filter λx=>decide (x.no * 8 < size):=List.filter_congr λx _=>by
     by_cases c : size≤x.no * 8
     ·simp [c,show ¬ x.no * 8 < size by omega]
     ·simp [c,show x.no * 8 < size by omega]
    rw [hfe] at b2;refine bC_of b6 ?_;simp at b3;have id3 : ∀ j,j < 3→j ∉ idS r2:=λj hj h=>id0 j hj (b5 j h)
    have d0 : H3[0]? = some (some (.cells [I size,w])):=by rw [b4 0 (by simp; omega) (id0 0 (by omega))]; exact gSS (by omega)
    have d1 : H3[1]? = some (some (.cells [I size])):=by rw [b4 1 (by simp; omega) (id0 1 (by omega)),keep0 1 _ (by omega)]; exact c1
    have d2 : H3[2]? = some (some (.cells [I 0,nilSl])):=by rw [b4 2 (by simp; omega) (id0 2 (by omega)),keep0 2 _ (by omega)]; exact c2
    have hr2:=zbiZ b1;rw [zcoZ (n:=1) (off:=1) (xs:=[r2]) (cs:=[I size,w]) (zbsZ hr2) d0 rfl (by simp)];have hfl : (l.filter λx=>decide (x.no * 8 < size)).length≤l.length:=List.length_filter_le _ _
    have hfm : ∀ x ∈ (l.filter λx=>decide (x.no * 8 < size)),0≤x.no∧x.no < 137438953472:=λx hx=>by
     have:=hno x (List.mem_filter.1 hx).1; omega
    have hte : zbgfZ l size=(l.filter λx=>decide (x.no * 8 < size)).map λx=>wipeE x size 1099511627776:=rfl
    generalize (l.filter λx=>decide (x.no * 8 < size))=F at b2 hfl hfm hte;simp [show 0 < H3.length by omega,zhxZ b2];have hsp : MaySpan ⟨size,1099511627776 - size⟩:=by simp only [MaySpan,May]; omega
    refine zxkZ (λt x2 x3 x4 x30 x31 H=>∃ i : Nat,i + t=F.length∧x2 = .ptr 0 0∧x3 = .ptr 1 0∧x4 = .ptr 2 0∧x30=I F.length∧x31=I i∧H[0]? = some (some (.cells [I size,r2]))∧H[1]? = some (some (.cells [I size]))∧H[2]? = some (some (.cells [I 0,nilSl])) ∧
     zaZ H 9 r2=some (((F.take i).map (λx=>wipeE x size 1099511627776) ++ F.drop i).flatMap encE,((F.take i).map (λx=>wipeE x size 1099511627776) ++ F.drop i).length)) ?_ F.length
     ⟨0,by omega,rfl,rfl,rfl,rfl,rfl,gSS (by omega),(gSN (by omega)).trans d1,(gSN (by omega)).trans d2, ?_⟩
    ·rintro t x2 x3 x4 x30 x31 H R hR ⟨i,hi,rfl,rfl,rfl,rfl,rfl,e0,e1,e2,e3⟩
     unfold zqwZ;have hH0:=(gSI.1 e0).1;have hH1:=(gSI.1 e1).1;have hH2:=(gSI.1 e2).1;rcases Nat.lt_or_ge i F.length with hlt | hge
     ·have hx:=gEG hlt
      generalize F[i]=x at hx;obtain ⟨x0,x1⟩:=hfm x (List.mem_of_getElem? hx);obtain ⟨p,H',f1,f2,f3,f4,f5⟩:=sl_wipe (s:=⟨size,1099511627776 - size⟩) e3 b1 (map_get hx) (a:=i) rfl hsp x0 x1;simp only [show size + (1099511627776 - size)=1099511627776 by omega] at f5;rw [map_set (f:=λx=>wipeE x size 1099511627776) hx] at f5;simp [hlt,e0,e1,f1,zfpZ (a:=1099511627776) (b:=size) (by omega) (by omega)];refine bC_of f2 ?_;simp [zbdZ (a:=i) (b:=1) (by omega) (by omega)];refine hR (t - 1) _ _ _ _ _ _ (by omega) ⟨i + 1,by omega,rfl,rfl,rfl,rfl,rfl,by rw [f4 0 hH0 (id3 0 (by omega))]; exact e0,by rw [f4 1 hH1 (id3 1 (by omega))]; exact e1,by rw [f4 2 hH2 (id3 2 (by omega))]; exact e2,by rw [f5,map_len,map_len]⟩
     ·have : i=F.length:=by omega
      subst this;simp [e0,ztZ];rw [zcoZ (n:=2) (off:=0) (xs:=[I size,r2]) (cs:=[I 0,nilSl]) (by simp [hr2]) e2 rfl (by simp)];simp [hH2];rw [List.take_length,List.drop_length,List.append_nil,← hte] at e3
      exact ContK.some hw (zcZ e3 λi hi=>by
       have h2 : 3≤i:=Nat.le_of_not_lt λh=>id3 i h hi
       rw [gSN (by omega)])
    ·simp only [List.take_zero,List.map_nil,List.nil_append,List.drop_zero]
     exact zcZ b2 λi hi=>by
      have h2 : 3≤i:=Nat.le_of_not_lt λh=>id3 i h hi
      rw [gSN (by omega)]
 ·have hn : zvnZ (size0,l) size=none:=if_neg (λh=>h1 h.1)
  simp [h1,ast];exact ContK.none hn
theorem within_gone {no pos n : Int} (h : maySp pos n) (h0 : 0≤no) (h1 : no < 137438953472) : (!decide (Within ⟨no * 8,8⟩ ⟨pos,n⟩)) = !gone pos n no:=by
 have e : Within ⟨no * 8,8⟩ ⟨pos,n⟩ ↔ (pos≤no * 8∧no * 8 + 8≤pos + n):=by
  rw [within_iff];unfold Within' MaySpan May;unfold maySp at h;simp only;omega
 unfold gone
 by_cases c1 : pos≤no * 8 <;> by_cases c2 : no * 8 + 8≤pos + n <;> simp [e,c1,c2]
theorem zbeiZ {size : Int} {l : List Ext} {v : AV} (hv : SV encE 9 l v) (hl : l.length≤1000000) (pos n : Int) :
  ∃ R,SV encE 9 (cL (zwxZ (size,l) pos n)) R∧BPure Tryz.prog 73 [.agg [I size,v],I pos,I n] (.tup [.agg [I (cS (zwxZ (size,l) pos n)),R],B (zwxZ (size,l) pos n).isSome]):=by
 refine BPure.cont (by simp [zdcZ,noIds,hv.1]) (extent_Punch_ok ?_);unfold extent_Punch;simp [znnZ hv,ztZ];refine zyZ (zjjZ hv (by omega)) ?_
 by_cases h1 : mayC size l
 ·simp [h1]
  refine zyZ (extent_span_p pos n) ?_
  by_cases h2 : maySp pos n
  ·have hw : zwxZ (size,l) pos n=some (size,zbglZ l pos n):=if_pos ⟨h1,h2⟩
   have h2':=h2;obtain ⟨g1,g2,g3,g4⟩:=h2';simp [h2];obtain ⟨r,H2,⟨w,rfl,a2,a3,a4,a5⟩,a1⟩:=copied_c (size:=size) (hv.2 [some (.cells [I size,v]),some (.cells [I 0,nilSl])]) (znnZ hv) (by omega);refine bC_of a1 ?_;have c0:=a4.cells (o:=0) (x:=some (.cells [I size,v])) rfl;have c2:=a4.cells (o:=1) (x:=some (.cells [I 0,nilSl])) rfl;have hl2:=a4.1;simp only [List.length_cons,List.length_nil] at hl2;have hwo:=zbiZ a2;have id0 : ∀ j,j < 2→j ∉ idS w:=λj hj h=>by have:=a5 j h; simp at this; omega
   have hs0:=zbfgZ h1.2.2;have hno:=λx hx=>(zbgkZ h1.2.2 x hx)
   rw [zcoZ (n:=2) (off:=0) (x:=.agg [I size,w]) (xs:=[I size,w]) (by simp [hwo]) c0 rfl (by simp)];simp;rw [zcoZ (n:=2) (off:=0) (x:=.agg [I pos,I n]) (xs:=[I pos,I n]) (cs:=[I 0,I 0]) (by simp) (by rw [List.getElem?_append_right (by simp)]; simp) rfl (by simp)]
   have hset : ((H2.set 0 (some (AObj.cells [I size,w]))) ++ [some (AObj.cells [I 0,I 0])]).set H2.length (some (AObj.cells (zlaZ [I 0,I 0] 0 [I pos,I n])))=(H2.set 0 (some (AObj.cells [I size,w]))) ++ [some (AObj.cells [I pos,I n])]:=by
    rw [List.set_append_right _ _ (by simp)]; simp
   rw [hset];have g:=Grew.app (H2.set 0 (some (AObj.cells [I size,w]))) [some (.cells [I pos,I n])];have keep0 : ∀ j x,j ≠ 0→(H2.set 0 x)[j]? = H2[j]?:=λj x hj=>gSN (by omega)
   have z0:=g.cells (o:=0) (x:=some (.cells [I size,w])) (gSS (by omega));have z1:=g.cells (o:=1) (x:=some (.cells [I 0,nilSl])) (by rw [keep0 1 _ (by omega)]; exact c2);have z2 : (H2.set 0 (some (AObj.cells [I size,w])) ++ [some (AObj.cells [I pos,I n])])[H2.length]? = some (some (.cells [I pos,I n])):=by rw [List.getElem?_append_right (by simp)]; simp
   have zid : H2.length ∉ idS w:=λh=>by have:=zrZ a3 _ h; omega
   have hlen3 : (H2.set 0 (some (AObj.cells [I size,w])) ++ [some (AObj.cells [I pos,I n])]).length=H2.length + 1:=by simp
   have hw1:=g.slice (zcZ (H':=H2.set 0 (some (AObj.cells [I size,w]))) a3 λi hi=>keep0 i _ (λh=>id0 0 (by omega) (h ▸ hi)));generalize hH3 : (H2.set 0 (some (AObj.cells [I size,w])) ++ [some (AObj.cells [I pos,I n])])=H3 at g z0 z1 z2 hw1 hlen3;generalize H2.length=so at z2 zid hlen3 hl2;simp [z0];obtain ⟨r2,H4,⟨b1,b2,b3,b4,b5⟩,b6⟩:=zzcZ (k:=128) hw1 a2 (by omega) (oc:=so) (c:=encSp ⟨pos,n⟩) z2 zid (punch_del so ⟨pos,n⟩ l λx hx=>by have:=hno x hx; omega)
   have hfe : (l.filter λx=>!decide (Within ⟨x.no * 8,8⟩ ⟨pos,n⟩))=l.filter λx=>!gone pos n x.no:=List.filter_congr λx hx=>by
    have:=hno x hx
    exact within_gone h2 (by omega) (by omega)
   rw [hfe] at b2;refine bC_of b6 ?_;have id3 : ∀ j,j < 2→j ∉ idS r2:=λj hj h=>id0 j hj (b5 j h)
   have id4 : so ∉ idS r2:=λh=>zid (b5 so h)
   have d0 : H4[0]? = some (some (.cells [I size,w])):=by rw [b4 0 (by omega) (id0 0 (by omega))]; exact z0
   have d1 : H4[1]? = some (some (.cells [I 0,nilSl])):=by rw [b4 1 (by omega) (id0 1 (by omega))]; exact z1
   have d2 : H4[so]? = some (some (.cells [I pos,I n])):=by rw [b4 so (by omega) zid]; exact z2
   have hr2:=zbiZ b1;rw [zcoZ (n:=1) (off:=1) (xs:=[r2]) (cs:=[I size,w]) (zbsZ hr2) d0 rfl (by simp)];have hfl : (l.filter λx=>!gone pos n x.no).length≤l.length:=List.length_filter_le _ _
   have hfm : ∀ x ∈ (l.filter λx=>!gone pos n x.no),0≤x.no∧x.no < 137438953472:=λx hx=>by
    have:=hno x (List.mem_filter.1 hx).1; omega
   have hte : zbglZ l pos n=(l.filter λx=>!gone pos n x.no).map λx=>wipeE x pos (pos + n):=rfl
   generalize (l.filter λx=>!gone pos n x.no)=F at b2 hfl hfm hte;simp [show 0 < H4.length by omega,zhxZ b2];have hsp : MaySpan ⟨pos,n⟩:=by simp only [MaySpan,May]; omega
   refine zbbpZ (λt x3 x6 x8 x32 x33 H=>∃ i : Nat,i + t=F.length∧x3 = .ptr 0 0∧x6 = .ptr 1 0∧x8 = .ptr so 0∧x32=I F.length∧x33=I i∧H[0]? = some (some (.cells [I size,r2]))∧H[1]? = some (some (.cells [I 0,nilSl]))∧H[so]? = some (some (.cells [I pos,I n])) ∧
    zaZ H 9 r2=some (((F.take i).map (λx=>wipeE x pos (pos + n)) ++ F.drop i).flatMap encE,((F.take i).map (λx=>wipeE x pos (pos + n)) ++ F.drop i).length)) ?_ F.length
    ⟨0,by omega,rfl,rfl,rfl,rfl,rfl,gSS (by omega),(gSN (by omega)).trans d1,(gSN (by omega)).trans d2, ?_⟩
   ·rintro t x3 x6 x8 x32 x33 H R hR ⟨i,hi,rfl,rfl,rfl,rfl,rfl,e0,e1,e2,e3⟩
    unfold zxrZ;have hH0:=(gSI.1 e0).1;have hH1:=(gSI.1 e1).1;have hH2:=(gSI.1 e2).1;rcases Nat.lt_or_ge i F.length with hlt | hge
    ·have hx:=gEG hlt
     generalize F[i]=x at hx;obtain ⟨x0,x1⟩:=hfm x (List.mem_of_getElem? hx);obtain ⟨p,H',f1,f2,f3,f4,f5⟩:=sl_wipe (s:=⟨pos,n⟩) e3 b1 (map_get hx) (a:=i) rfl hsp x0 x1;rw [map_set (f:=λx=>wipeE x pos (pos + n)) hx] at f5;simp [hlt,e0,e2,f1,ztZ];refine bC_of f2 ?_;simp [zbdZ (a:=i) (b:=1) (by omega) (by omega)];refine hR (t - 1) _ _ _ _ _ _ (by omega) ⟨i + 1,by omega,rfl,rfl,rfl,rfl,rfl,by rw [f4 0 hH0 (id3 0 (by omega))]; exact e0,by rw [f4 1 hH1 (id3 1 (by omega))]; exact e1,by rw [f4 so hH2 id4]; exact e2,by rw [f5,map_len,map_len]⟩
    ·have : i=F.length:=by omega
     subst this;simp [e0,ztZ];rw [zcoZ (n:=2) (off:=0) (xs:=[I size,r2]) (cs:=[I 0,nilSl]) (by simp [hr2]) e1 rfl (by simp)];simp [hH1];rw [List.take_length,List.drop_length,List.append_nil,← hte] at e3
     exact ContK.some hw (zcZ e3 λi hi=>by
      have h2 : 2≤i:=Nat.le_of_not_lt λh=>id3 i h hi
      rw [gSN (by omega)])
   ·simp only [List.take_zero,List.map_nil,List.nil_append,List.drop_zero]
    exact zcZ b2 λi hi=>by
     have h2 : 2≤i:=Nat.le_of_not_lt λh=>id3 i h hi
     rw [gSN (by omega)]
  ·have hn : zwxZ (size,l) pos n=none:=if_neg (λh=>h2 h.2)
   simp [h2,ast];exact ContK.none hn
 ·have hn : zwxZ (size,l) pos n=none:=if_neg (λh=>h1 h.1)
  simp [h1,ast];exact ContK.none hn
def renOk (ns : List Nm) (s t : List UInt8) : Prop:=hasK Nm.name ns s∧mayN t∧s ≠ t
instance (ns : List Nm) (s t : List UInt8) : Decidable (renOk ns s t):=by unfold renOk; infer_instance
def renNs (ns : List Nm) (s t : List UInt8) : List Nm:=if renOk ns s t then insK cmpN Nm.name (remNs (delK cmpN Nm.name ns s) t) ⟨t,nameI ns s⟩ else ns
def renDv (ns : List Nm) (dv : List NdV) (s t : List UInt8) : List NdV:=if renOk ns s t then remDv (delK cmpN Nm.name ns s) dv t else dv
theorem remNs_srt {ns : List Nm} {t : List UInt8} (h : srtK cmpN Nm.name ns) : srtK cmpN Nm.name (remNs ns t):=by
 unfold remNs
 split
 ·exact zrbZ h
 ·exact h
theorem remNs_len {ns : List Nm} {t : List UInt8} : (remNs ns t).length≤ns.length:=by
 unfold remNs
 split
 ·exact delK_sub.length_le
 ·exact Nat.le_refl _
theorem rename_c {L oi : Nat} {ns : List Nm} {dv : List NdV} {a b : AV} {H : AH} {s t : List UInt8} (h : ImH L oi ns dv a b H) (hs : srtK cmpN Nm.name ns) (hd : srtK cmpI NdV.ino dv) (hx : ∀ x ∈ ns,hasK NdV.ino dv x.ino) (hn : ns.length≤100000) (hm : dv.length≤100000) (ht : t.length≤1000000000) :
  ∃ r H',ImP L oi H (renNs ns s t) (renDv ns dv s t) r H'∧BCall Tryz.prog 114 [.ptr oi 0,S (bstr s),S (bstr t)] H r H':=image_rename_ok (by
 obtain ⟨Ra,Rb,sa,sb,fz⟩:=h.lend;have c0:=h.obj;unfold image_rename;have b0 : ∀ a b : AV,ztZ true 2 [a,b] 0=some (.agg [a,b]):=λ_ _=>rfl
 have hno : ¬ renOk ns s t→ImP L oi H (renNs ns s t) (renDv ns dv s t) (.tup []) H:=λhc=>by
  unfold renNs renDv;rw [if_neg hc,if_neg hc];exact ⟨rfl,a,b,h,FrL.refl _ _ _⟩
 simp [c0,b0];refine bC_of (PCall.lend (FZs.cons fz (FZs.cons (FZ.lit _) FZs.nil)) rfl (named_p sa sb hs (by omega) s)).call ?_
 by_cases q1 : hasK Nm.name ns s
 ·simp [q1]
  refine zyZ (zbgdZ (s:=t) (by omega)) ?_
  by_cases q2 : mayN t
  ·by_cases q3 : s=t
   ·simp [q2,abT_eql,q3]
    rw [← q3] at hno ⊢;exact hno λhc=>hc.2.2 rfl
   ·have hc : renOk ns s t:=⟨q1,q2,q3⟩
    unfold renNs renDv;rw [if_pos hc,if_pos hc];obtain ⟨x,hx1,hx2,hx3⟩:=zypZ koN hs q1;obtain ⟨o,off,cells,u1,u2,u3,u4,u5,-⟩:=own_at zgfZ (by omega) h.sa h.oa hx1;have u51:=u5 1 (by omega);have hpl:=(gSI.1 hx1).1;have e1 : nameI ns s=x.ino:=by unfold nameI; rw [hx2]
    simp [q2,abT_eql,q3,c0,b0,u1,u3,u51,encN,zbdZ (a:=(posK cmpN Nm.name ns s : Nat)) (b:=1) (by omega) (by omega)];obtain ⟨r1,H2,⟨d1,d2,d3,d4,d5,d6⟩,d7⟩:=delN_c h.sa h.oa h.ca hpl (by omega);refine bC_of d7 ?_;have l1:=delK_len (c:=cmpN) (key:=Nm.name) (k:=s) hpl;obtain ⟨H3,e3,n1,n2⟩:=h.newA (ms:=delK cmpN Nm.name ns s) (Nat.le_of_eq d3.symm) (λi _ hi=>d4 i hi) (by rw [show (delK cmpN Nm.name ns s).length=ns.length - 1 by omega]; exact d2) d1 (by rw [show (delK cmpN Nm.name ns s).length=ns.length - 1 by omega]; exact d6) (λi hi=>.inl (d5 ▸ hi));simp [e3];have hs1 : srtK cmpN Nm.name (delK cmpN Nm.name ns s):=zrbZ hs;obtain ⟨r4,H4,⟨rfl,a4,b4,m1,m2⟩,m3⟩:=remove_c (s:=t) n1 hs1 hd (λy hy=>hx y (delK_sub.subset hy)) (by omega) hm;refine bC_of m3 ?_;have c4:=m1.obj;obtain ⟨Sa,Sb,ta,tb,gz⟩:=m1.lend;have hs2:=remNs_srt (t:=t) hs1;have hl2:=remNs_len (ns:=delK cmpN Nm.name ns s) (t:=t);simp [c4,b0];refine bC_of (PCall.lend (FZs.cons gz (FZs.cons (FZ.lit _) FZs.nil)) rfl (named_p ta tb hs2 (by omega) t)).call ?_;have g5:=Grew.app H4 [some (.cells (encN ⟨t,x.ino⟩))];have m5:=m1.grew g5;have e5 : absl H4 2 1 (zrow [(.lit (.string ⟨#[]⟩)),(I 0)] 1) [(0,2,.agg (encN ⟨t,x.ino⟩))]=some (.sl H4.length 0 1 2 (.ex 1),H4 ++ [some (.cells (encN ⟨t,x.ino⟩))]):=rfl;have e6 : abl [(.lit (.string ⟨#[]⟩)),(I 0)] [(0,1,S (bstr t)),(1,1,I x.ino)]=some (.agg (encN ⟨t,x.ino⟩)):=rfl;simp [c4,e5,e6];obtain ⟨r7,H7,⟨k1,k2,k3,k4,k5,k6⟩,k7⟩:=insN_c (x:=⟨t,x.ino⟩) (oj:=H4.length) m5.sa m5.oa m5.ca (posK_le (c:=cmpN) (key:=Nm.name) _ t) (by omega) (by simp) (λhh=>by have:=zrZ m1.sa _ hh; omega);refine bC_of k7 ?_;have el:=insK_len (c:=cmpN) (key:=Nm.name) (l:=remNs (delK cmpN Nm.name ns s) t) (x:=⟨t,x.ino⟩);obtain ⟨H8,e8,p1,p2⟩:=m5.newA (ms:=insK cmpN Nm.name (remNs (delK cmpN Nm.name ns s) t) ⟨t,x.ino⟩) k3 k4 (by rw [el]; exact k2) k1 (by rw [el]; exact k6) k5;simp [e8];rw [e1];have hle:=m1.len;exact ⟨rfl,_,_,p1,n2.trans (m2.trans ⟨Nat.le_trans g5.1 p2.1,λj h1 h2=>(p2.2 j h1 h2).trans (g5.2 j (by omega))⟩)⟩
  ·simp [q2]
   exact hno λhc=>q2 hc.2.1
 ·simp [q1]
  exact hno λhc=>q1 hc.1)
def chgC (o : OpM) (d : Nd) : Option Cont:=if o.kind=2 then ztsZ (d.size,d.l) o.pos o.b else if o.kind=3 then zvnZ (d.size,d.l) o.size else if o.kind=4 then ztqZ (d.size,d.l) o.pos o.size o.keep else if o.kind=5 then zwxZ (d.size,d.l) o.pos o.size else none
def chgD (ds : List Nd) (o : OpM) : List Nd:=match atK Nd.ino ds o.ino with
 | some d => match chgC o d with
  | some c => ds.set (posK cmpI Nd.ino ds o.ino) ⟨d.ino,c.1,c.2⟩
  | none => ds
 | none => ds
theorem change_tail {L oi k q : Nat} {ns : List Nm} {dv : List NdV} {a b R : AV} {H : AH} {x : NdV} {sz : Int} {l : List Ext} (h : ImH L oi ns dv a b H) (hx : dv[k]? = some x) (hR : SV encE 9 l R) (hq : H[q]? = some (some (.cells [I sz,R]))) (ok : Bool) :
  ∃ H',ImH L oi ns (if ok=true then dv.set k ⟨⟨x.nd.ino,sz,l⟩,R,hR⟩ else dv) a b H'∧FrL L oi H H'∧∀ K : AV→AH→Prop,K (.tup []) H'→zetZ (.ptr oi 0) (I k) (B ok) (.ptr q 0) H K:=by
 cases ok with
 | false =>
  refine ⟨H,h,FrL.refl _ _ _,λK hK=>?_⟩;rw [zwjZ]; unfold zqgZ;rw [zszZ]; unfold znxZ
  simpa using hK
 | true =>
  obtain ⟨o,off,cells,u1,u2,u3,u4,u5,u6⟩:=own_at zffZ (by omega) h.sb h.ob hx;have oL:=h.ib o u2;have hoo : o ≠ oi:=λe=>h.noB (e ▸ u2)
  have hle:=h.len;have o2:=SV.oneA hR;have c0:=h.obj;have hol:=(gSI.1 u3).1
  have e1 : ast 2 H (.ptr o (off + 1)) (.agg [I sz,R])=some (H.set o (some (.cells (zlaZ cells (off + 1) [I sz,R])))):=by
   rw [zcoZ (n:=2) (xs:=[I sz,R]) (by simp [o2]) u3 rfl (by omega)]
  refine ⟨H.set o (some (.cells (zlaZ cells (off + 1) [I sz,R]))),⟨?_,h.lo,by simp; omega, ?_,h.oa,h.ca,h.ia, ?_,h.ob,by simpa using h.cb,h.ib,h.ab⟩,⟨by simp,λj h1 h2=>gSN (by omega)⟩,λK hK=>?_⟩
  ·rw [gSN (by omega)]; exact c0
  ·exact zcZ h.sa λi hi=>gSN (fun (e : o=i) => h.ab i hi (e ▸ u2))
  ·have:=u6 ⟨⟨x.nd.ino,sz,l⟩,R,hR⟩ 1 [I sz,R] rfl (by simp)
   simpa using this
  ·rw [zwjZ]; unfold zqgZ
   rw [zszZ]; unfold znxZ;have b0 : ztZ true 2 [I sz,R] 0=some (.agg [I sz,R]):=rfl;simp only [zpZ,zbcZ];have e3 : ald false 1 H (.ptr oi 1)=some b:=by rw [zlZ c0]; rfl
   have e4 : ald true 2 H (.ptr q 0)=some (.agg [I sz,R]):=by rw [zlZ hq]; rfl
   show bO (some (AV.ptr oi 0)) _
   simp only [zbZ]
   show bO (some (AV.ptr oi 1)) _
   simp only [zbZ,e3,e4,u1]
   show bO (some (AV.ptr o (off + 1))) _
   simp only [zbZ,e1,zcaZ];exact hK
def ChP (L oi : Nat) (H : AH) (ns : List Nm) (ds : List Nd) (r : AV) (H' : AH) : Prop:=r = .tup []∧∃ a b dv,dv.map NdV.nd=ds∧ImH L oi ns dv a b H'∧FrL L oi H H'
theorem change_c {L oi : Nat} {ns : List Nm} {dv : List NdV} {a b bv : AV} {H : AH} {o : OpM} (h : ImH L oi ns dv a b H) (hs : srtK cmpN Nm.name ns) (hd : srtK cmpI NdV.ino dv) (hb : SV encU 1 o.b bv) (hm : dv.length≤100000) (hbl : o.b.length≤281474976710656) (hl : ∀ d ∈ dv,d.nd.l.length≤1000000) (hk : o.kind=2∨o.kind=3∨o.kind=4∨o.kind=5) :
  ∃ r H',ChP L oi H ns (chgD (dv.map NdV.nd) o) r H'∧BCall Tryz.prog 113 [.ptr oi 0,.agg (opA o bv)] H r H':=image_change_ok (by
 obtain ⟨H1,e1,hp,h1,f1⟩:=op_new h o (SV.oneA hb);obtain ⟨Ra,Rb,sa,sb,fz⟩:=h1.lend;have c0:=h1.obj;unfold image_change;simp only [e1,zbpZ];have b0 : ztZ true 2 [a,b] 0=some (.agg [a,b]):=rfl;simp [hp,c0,b0,opA];refine bC_of (PCall.lend (FZs.cons fz (FZs.cons (FZ.lit _) FZs.nil)) rfl (node_p sa sb hd (by omega) o.ino)).call ?_
 by_cases q1 : hasK NdV.ino dv o.ino
 ·obtain ⟨x,hx1,hx2,hx3⟩:=zypZ koI hd q1
  obtain ⟨oo,off,cells,u1,u2,u3,u4,u5,u6⟩:=own_at zffZ (by omega) h1.sb h1.ob hx1;have hxl:=hl x (List.mem_of_getElem? hx1)
  have rd1 : ztZ true 2 cells (off + 1)=some (.agg [I x.nd.size,x.R]):=by
   have e51:=u5 1 (by omega);have e52:=u5 2 (by omega);have l2 : off + 1 + 2≤cells.length:=by omega
   have : (cells.drop (off + 1)).take 2=[I x.nd.size,x.R]:=by
    rw [List.drop_eq_getElem_cons (by omega),List.drop_eq_getElem_cons (by omega)];rw [gEG (by omega)] at e51 e52;simp [encD] at e51 e52;simp [e51,e52]
   simp [ztZ,l2,this]
  have o1:=SV.oneA x.h
  have fin : ∀ (res : Option Cont) (R : AV) (Hc : AH) (sR : SV encE 9 (cL res) R),chgC o x.nd=res→ImH L oi ns dv a b Hc→FrL L oi H1 Hc→∀ q,Hc[q]? = some (some (.cells [I (cS res),R]))→zetZ (.ptr oi 0) (I (posK cmpI NdV.ino dv o.ino)) (B res.isSome) (.ptr q 0) Hc (ChP L oi H ns (chgD (dv.map NdV.nd) o)):=by
   intro res R Hc sR hr hc fc q hq;obtain ⟨H9,w1,w2,w3⟩:=change_tail hc hx1 sR hq res.isSome;refine w3 _ ⟨rfl,_,_,_, ?_,w1,f1.trans (fc.trans w2)⟩;unfold chgD;rw [atK_map hx2];simp only [hr];cases res with
   | none => rfl
   | some c =>
    simp only [Option.isSome_some,if_true,List.map_set,zbfyZ];rfl
  simp [q1,c0,u1,u3,rd1]
  obtain ⟨H2,e2,hq2,hp2,h2,f2⟩ : ∃ H2,ast 2 (H1 ++ [some (.cells [I 0,nilSl])]) (.ptr H1.length 0) (.agg [I x.nd.size,x.R])=some H2∧H2[H1.length]? = some (some (.cells [I x.nd.size,x.R]))∧H2[H.length]? = some (some (.cells (opA o bv)))∧ImH L oi ns dv a b H2∧FrL L oi H1 H2:=by
   have g:=Grew.app H1 [some (.cells [I x.nd.size,x.R])];have hle:=h1.len;exact ⟨_,by simp [ast,zlaZ,o1,zbsZ o1],by simp,g.cells hp,h1.grew g,g.1,λj i1 i2=>g.2 j (by omega)⟩
  have hol2:=(gSI.1 hq2).1;have hql : L≤H1.length:=h1.len
  have put : ∀ (sz : Int) (R : AV),oneA R=true→ast 2 H2 (.ptr H1.length 0) (.agg [I sz,R])=some (H2.set H1.length (some (.cells [I sz,R])))∧ImH L oi ns dv a b (H2.set H1.length (some (.cells [I sz,R])))∧FrL L oi H1 (H2.set H1.length (some (.cells [I sz,R])))∧(H2.set H1.length (some (.cells [I sz,R])))[H1.length]? = some (some (.cells [I sz,R])):=by
   intro sz R hR;have hlo:=(gSI.1 h1.obj).1;refine ⟨?_,⟨?_,h2.lo,by simpa using h2.len, ?_,h2.oa,h2.ca,h2.ia, ?_,h2.ob,h2.cb,h2.ib,h2.ab⟩,⟨by simpa using f2.1,λj i1 i2=>?_⟩,by simp [hol2]⟩
   ·rw [zcoZ (n:=2) (off:=0) (xs:=[I sz,R]) (by simp [hR]) hq2 rfl (by simp)]; rfl
   ·rw [gSN (by omega)]; exact h2.obj
   ·exact zcZ h2.sa λi hi=>gSN (by have:=zrZ h1.sa i hi; omega)
   ·exact zcZ h2.sb λi hi=>gSN (by have:=zrZ h1.sb i hi; omega)
   ·rw [gSN (by omega)]; exact f2.2 j i1 i2
  have b1 : ∀ (s : Int) (R : AV),ztZ true 2 [I s,R] 0=some (.agg [I s,R]):=λ_ _=>rfl
  simp [e2,hp2,opA];rcases hk with hk | hk | hk | hk
  ·simp [hk,hq2,b1,hp2,opA]
   obtain ⟨R,s1,p1⟩:=zbevZ x.h hxl o.pos hb hbl;refine zyZ p1 ?_;obtain ⟨t1,t2,t3,t4⟩:=put (cS (ztsZ (x.nd.size,x.nd.l) o.pos o.b)) R (SV.oneA s1);simp [t1];exact fin _ R _ s1 (by unfold chgC; rw [if_pos hk]) t2 t3 _ t4
  ·simp [hk,hq2,b1,hp2,opA]
   obtain ⟨R,s1,p1⟩:=zxaZ (size0:=x.nd.size) x.h hxl o.size;refine zyZ p1 ?_;obtain ⟨t1,t2,t3,t4⟩:=put (cS (zvnZ (x.nd.size,x.nd.l) o.size)) R (SV.oneA s1);simp [t1];exact fin _ R _ s1 (by unfold chgC; rw [if_neg (by omega),if_pos hk]) t2 t3 _ t4
  ·simp [hk,hq2,b1,hp2,opA]
   obtain ⟨R,s1,p1⟩:=zycZ (size:=x.nd.size) x.h hxl o.pos o.size o.keep;refine zyZ p1 ?_;obtain ⟨t1,t2,t3,t4⟩:=put (cS (ztqZ (x.nd.size,x.nd.l) o.pos o.size o.keep)) R (SV.oneA s1);simp [t1];exact fin _ R _ s1 (by unfold chgC; rw [if_neg (by omega),if_neg (by omega),if_pos hk]) t2 t3 _ t4
  ·simp [hk,hq2,b1,hp2,opA]
   obtain ⟨R,s1,p1⟩:=zbeiZ (size:=x.nd.size) x.h hxl o.pos o.size;refine zyZ p1 ?_;obtain ⟨t1,t2,t3,t4⟩:=put (cS (zwxZ (x.nd.size,x.nd.l) o.pos o.size)) R (SV.oneA s1);simp [t1];exact fin _ R _ s1 (by unfold chgC; rw [if_neg (by omega),if_neg (by omega),if_neg (by omega),if_pos hk]) t2 t3 _ t4
 ·simp [q1]
  refine ⟨rfl,a,b,dv, ?_,h1,f1⟩;unfold chgD;rw [atK_none (λhh=>q1 (zbbmZ.1 hh))])
end Go.Proofs.YtlhiaihmkjlaaaaGreat.Av
end
