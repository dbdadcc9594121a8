/- Texts of this proof, one behind the other, packed into one file by a program of this session. No condition. -/
import Derived.Test.YtlbilcpnjgkpjaaGreatMwE
import Derived.KernelRfl
set_option linter.unusedVariables false
set_option linter.unusedSimpArgs false
set_option maxRecDepth 100000
section
namespace Go.Proofs.YtlbilcpnjgkpjaaGreat.Av
open Go Go.RowKit
structure Nm where
 name : List UInt8
 ino : Int
 deriving DecidableEq
def encN (x : Nm) : List AV:=[S (bstr x.name),I x.ino]
theorem encN_len (x : Nm) : (encN x).length=2:=rfl
theorem noIdss_encN (x : Nm) : noIdss (encN x)=true:=rfl
structure Nd where
 ino : Int
 size : Int
 l : List Ext
 deriving DecidableEq
structure NdV where
 nd : Nd
 R : AV
 h : SV encE 9 nd.l R
abbrev NdV.ino (x : NdV) : Int:=x.nd.ino
def encD (x : NdV) : List AV:=[I x.nd.ino,I x.nd.size,x.R]
theorem encD_len (x : NdV) : (encD x).length=3:=rfl
theorem noIdss_encD (x : NdV) : noIdss (encD x)=true:=by simp [encD,noIdss,noIds,x.h.1]
theorem encN_0 (x : Nm) (t : List AV) : (encN x ++ t)[0]? = some (S (bstr x.name)):=rfl
theorem encN_1 (x : Nm) (t : List AV) : (encN x ++ t)[1]? = some (I x.ino):=rfl
theorem encD_c (x : NdV) (t : List AV) : rdCells true 2 (encD x ++ t) 1=some (.agg [I x.nd.size,x.R]):=by simp [rdCells,encD]
theorem koI : KO cmpI where
 eq a b:=by unfold cmpI; split <;> (try split) <;> omega
 anti a b:=by unfold cmpI; split <;> (try split) <;> (try split) <;> omega
 trans a b d:=by unfold cmpI; intro h1 h2; split at h1 <;> split at h2 <;> (try split at h1) <;> (try split at h2) <;> split <;> omega
theorem cmpI_lt {a b : Int} : cmpI a b < 0 ↔ a < b:=by unfold cmpI; split <;> (try split) <;> omega
theorem SV.oneA {α : Type} {enc : α→List AV} {sz : Nat} {l : List α} {v : AV} (h : SV enc sz l v) : oneA v=true:=by
 have h2:=h.2 []
 unfold zaZ at h2
 split at h2
 all_goals first | rfl | cases h2
def mayB (y : UInt8) : Prop:=(97≤(y.toNat : Int)∧(y.toNat : Int)≤122)∨(48≤(y.toNat : Int)∧(y.toNat : Int)≤57)∨(y.toNat : Int)=46∨(y.toNat : Int)=95∨(y.toNat : Int)=45
instance (y : UInt8) : Decidable (mayB y):=by unfold mayB; infer_instance
def mayN (s : List UInt8) : Prop:=s ≠ []∧s.length≤20∧s[0]? ≠ some 45∧∀ b ∈ s,mayB b
instance (s : List UInt8) : Decidable (mayN s):=by unfold mayN; infer_instance
theorem may_p (y : UInt8) : BPure Tryz.prog 91 [.lit (.int .u8 y.toNat)] (B (decide (mayB y))):=BPure.flat fun H => image_may_ok (by
 unfold image_may
 unfold mayB
 by_cases c1 : (97 : Int)≤y.toNat
 ·by_cases c2 : (y.toNat : Int)≤122
  ·simp [c1,c2]
  ·have e1 : ¬ (y.toNat : Int)≤57:=by omega
   have e2 : ¬ (y.toNat : Int)=46:=by omega
   have e3 : ¬ (y.toNat : Int)=95:=by omega
   have e4 : ¬ (y.toNat : Int)=45:=by omega
   simp [c1,c2,e1,e2,e3,e4,show (48 : Int)≤y.toNat by omega]
 ·by_cases c2 : (48 : Int)≤y.toNat
  ·by_cases c3 : (y.toNat : Int)≤57
   ·simp [c1,c2,c3]
   ·by_cases c4 : (y.toNat : Int)=95
    ·simp [c1,c2,c3,c4]
    ·have e2 : ¬ (y.toNat : Int)=46:=by omega
     have e4 : ¬ (y.toNat : Int)=45:=by omega
     simp [c1,c2,c3,c4,e2,e4]
  ·by_cases c4 : (y.toNat : Int)=46
   ·simp [c1,c2,c4]
   ·by_cases c5 : (y.toNat : Int)=95
    ·simp [c1,c2,c4,c5]
    ·by_cases c6 : (y.toNat : Int)=45
     ·simp [c1,c2,c4,c5,c6]
     ·simp [c1,c2,c4,c5,c6])
theorem u8c {y : UInt8} {k : UInt8} {n : Int} (h : (k.toNat : Int)=n) : ((y.toNat : Int)=n)=(y=k):=by
 refine propext ⟨fun e => UInt8.toNat_inj.1 (by omega),fun e => by rw [e]; exact h⟩
theorem MayName_p {s : List UInt8} (hs : s.length≤9223372036854775807) : BPure Tryz.prog 62 [S (bstr s)] (B (decide (mayN s))):=BPure.flat fun H => image_MayName_ok (by
 unfold image_MayName
 rw [bstr_nil,abT_eql,alnT_spec hs]
 have hl : ∀ t : List UInt8,t=s→0 < t.length→t.length≤20→t[0]? ≠ some 45→zliZ (S (bstr t)) (I t.length) (I 0) H fun r H' => r=B (decide (mayN t))∧H'=H:=by
  intro t _ h0 h20 h45
  refine zqeZ (fun n x0 x17 x18 H' => ∃ k : Nat,k + n=t.length∧x0=S (bstr t)∧x17=I t.length∧x18=I k∧H'=H∧∀ m y,m < k→t[m]? = some y→mayB y) ?_ t.length ⟨0,by omega,rfl,rfl,rfl,rfl,by omega⟩
  rintro n x0 x17 x18 H' R hR ⟨k,hk,rfl,rfl,rfl,rfl,hb⟩
  unfold zivZ
  rcases Nat.lt_or_ge k t.length with h | h
  ·have hx:=List.getElem?_eq_getElem h
   generalize t[k]=y at hx
   simp [h,aivT_spec rfl hx]
   refine bP_pure (may_p y) ?_
   by_cases hy : mayB y
   ·simp [hy,abI_add (a:=k) (b:=1) (by omega) (by omega)]
    refine hR (n - 1) _ _ _ _ (by omega) ⟨k + 1,by omega,rfl,rfl,by simp,rfl, ?_⟩
    intro m z hm hz
    by_cases c : m=k
    ·rw [c,hx] at hz; injection hz with hz; rw [← hz]; exact hy
    ·exact hb m z (by omega) hz
   ·have : ¬ mayN t:=fun hm => hy (hm.2.2.2 y (List.mem_of_getElem? hx))
    simp [hy,this]
  ·have : mayN t:=⟨fun e => by rw [e] at h0; simp at h0,h20,h45,fun b hb' => by
    obtain ⟨m,hm⟩:=List.mem_iff_getElem?.1 hb'
    have:=(List.getElem?_eq_some_iff.1 hm).1
    exact hb m b (by omega) hm⟩
   simp [show ¬ k < t.length by omega,this]
 by_cases h0 : s=[]
 ·subst h0
  simp [mayN]
 ·have hlen : 0 < s.length:=List.length_pos_iff.2 h0
  by_cases h1 : s.length≤20
  ·have hx:=List.getElem?_eq_getElem hlen
   have e20 : ¬ (20 : Int) < s.length:=by omega
   generalize s[0]=y at hx
   simp [h0,bstr_size,e20,aivT_spec (k:=0) (i:=0) rfl hx]
   have e45 : ((y.toNat : Int)=45)=(y=45):=u8c rfl
   by_cases h2 : (y.toNat : Int)=45
   ·have : ¬ mayN s:=fun hm => hm.2.2.1 (by rw [hx,e45.mp h2])
    simp [h2,this]
   ·simp [h2]
    exact hl s rfl hlen h1 (by rw [hx]; intro e; injection e with e; exact h2 (e45.mpr e))
  ·have e20 : (20 : Int) < s.length:=by omega
   have : ¬ mayN s:=fun hm => h1 hm.2.1
   simp [h0,bstr_size,e20,this])
theorem Compare_p (a b : List UInt8) : BPure Tryz.prog 101 [S (bstr a),S (bstr b)] (I (cmpN a b)):=BPure.flat fun H => strings_Compare_ok (by
 unfold zmwZ
 exact bP_pure (fun H => by have:=compareString_calls (bstr a) (bstr b) H; exact this) ⟨rfl,rfl⟩)
theorem named1_p (x : Nm) (s : List UInt8) : BPure Tryz.prog 100 [.agg (encN x),S (bstr s)] (I (cmpN x.name s)):=BPure.val (by simp [noIdss,noIds,noIdss_encN]) rfl (image_named_1_ok (by
 unfold image_named_1
 unfold encN
 simp
 refine bP_pure (Compare_p x.name s) ?_
 rfl))
theorem node1_p (x : NdV) (no : Int) : BPure Tryz.prog 103 [.agg (encD x),I no] (I (cmpI x.nd.ino no)):=BPure.val (by simp [noIdss,noIds,noIdss_encD]) rfl (image_node_1_ok (by
 unfold image_node_1
 unfold encD
 have h1:=SV.oneA x.h
 simp [h1]
 refine bP_pure (cmp_Compare_p x.nd.ino no) ?_
 rfl))
theorem rdh_N (x : Nm) (t : List AV) : rdCells true 2 (encN x ++ t) 0=some (.agg (encN x)):=by
 simp [rdCells,encN]
theorem rdh_D (x : NdV) (t : List AV) : rdCells true 3 (encD x ++ t) 0=some (.agg (encD x)):=by
 simp [rdCells,encD]
theorem goF_N : goFunc Tryz.prog 100=true:=by kernel_rfl
theorem srch_N {l : List Nm} {v : AV} (hv : SV encN 2 l v) (hs : srtK cmpN Nm.name l) (hl : l.length≤281474976710656) (no : List UInt8) :
  BPure Tryz.prog 99 [v,S (bstr no),.fn (.func 100) [] []] (.tup [I (posK cmpN Nm.name l no),B (decide (hasK Nm.name l no))]):=BPure.val (by simp [noIdss,noIds,hv.1]) rfl (zczZ (by
 unfold zsZ
 simp [hv.len]
 refine zciZ (fun n x0 x1 x2 x8 x9 x10 H' => ∃ i j : Nat,i + n=j∧j≤l.length∧x0=v∧x1=S (bstr no)∧x2 = .fn (.func 100) [] []∧x8=I l.length∧x9=I i∧x10=I j∧H'=[]∧(∀ m x,m < i→l[m]? = some x→cmpN (Nm.name x) no < 0)∧(∀ m x,j≤m→l[m]? = some x→¬ cmpN (Nm.name x) no < 0)) ?_ l.length ⟨0,l.length,by simp,by omega,rfl,rfl,rfl,rfl,rfl,rfl,rfl,by simp,fun m x hm hx => by have:=(List.getElem?_eq_some_iff.1 hx).1; omega⟩
 rintro n x0 x1 x2 x8 x9 x10 H' R hR ⟨i,j,hij,hj,rfl,rfl,rfl,rfl,rfl,rfl,rfl,h1,h2⟩
 unfold zoZ
 rcases Nat.lt_or_ge i j with hlt | hge
 ·have hx:=List.getElem?_eq_getElem (l:=l) (i:=(i + j) / 2) (by omega)
  generalize l[(i + j) / 2]'(by omega)=y at hx
  simp [hlt,abI_add (a:=i) (b:=j) (by omega) (by omega),acI_u64 (n:=(i : Int) + j) (by omega) (by omega),abI_shr1,acI_i64 (a:=((i : Int) + j) / 2) (by omega) (by omega),hv.idx encN_len hx (i:=((i : Int) + j) / 2) (by omega),goF_N,rdh_N]
  refine bC_of (named1_p y no []) ?_
  by_cases c1 : cmpN (Nm.name y) no < 0
  ·simp [c1,abI_add (a:=((i : Int) + j) / 2) (b:=1) (by omega) (by omega)]
   refine hR (j - ((i + j) / 2 + 1)) _ _ _ _ _ _ _ (by omega) ⟨(i + j) / 2 + 1,j,by omega,hj,rfl,rfl,rfl,rfl,by simp,rfl,rfl, ?_,h2⟩
   intro m x hm hmx
   by_cases hm2 : m=(i + j) / 2
   ·rw [hm2,hx] at hmx; injection hmx with e; rw [← e]; exact c1
   ·exact koN.trans _ _ _ (srtK_get hs hmx hx (by omega)) c1
  ·simp [c1]
   refine hR ((i + j) / 2 - i) _ _ _ _ _ _ _ (by omega) ⟨i,(i + j) / 2,by omega,by omega,rfl,rfl,rfl,rfl,rfl,by simp,rfl,h1, ?_⟩
   intro m x hm hmx
   by_cases hm2 : m=(i + j) / 2
   ·rw [hm2,hx] at hmx; injection hmx with e; rw [← e]; exact c1
   ·intro c2
    exact c1 (koN.trans _ _ _ (srtK_get hs hx hmx (by omega)) c2)
 ·have hi : i=j:=by omega
  subst hi
  have hp : posK cmpN Nm.name l no=i:=posK_eq (by omega) h1 (fun x hx => h2 i x (by omega) hx)
  rcases Nat.lt_or_ge i l.length with hil | hil
  ·have hx:=List.getElem?_eq_getElem (l:=l) (i:=i) hil
   generalize l[i]=y at hx
   have hh : hasK Nm.name l no ↔ cmpN (Nm.name y) no=0:=by
    rw [hasK_iff koN hs,hp,koN.eq]
    constructor
    ·rintro ⟨z,hz,e⟩
     rw [hx] at hz; injection hz with hz; rw [hz,e]
    ·intro e
     exact ⟨y,hx,e⟩
   simp [hil,hv.idx encN_len hx rfl,goF_N,rdh_N]
   refine bC_of (named1_p y no []) ?_
   simp [hp,hh]
  ·have hn : ¬ hasK Nm.name l no:=by
    rw [hasK_iff koN hs,hp]
    rintro ⟨z,hz,e⟩
    have:=(List.getElem?_eq_some_iff.1 hz).1
    omega
   simp [show ¬ i < l.length by omega,hp,hn]))
theorem goF_D : goFunc Tryz.prog 103=true:=by kernel_rfl
theorem srch_D {l : List NdV} {v : AV} (hv : SV encD 3 l v) (hs : srtK cmpI NdV.ino l) (hl : l.length≤281474976710656) (no : Int) :
  BPure Tryz.prog 102 [v,I no,.fn (.func 103) [] []] (.tup [I (posK cmpI NdV.ino l no),B (decide (hasK NdV.ino l no))]):=BPure.val (by simp [noIdss,noIds,hv.1]) rfl (zdrZ (by
 unfold zwZ
 simp [hv.len]
 refine zcrZ (fun n x0 x1 x2 x8 x9 x10 H' => ∃ i j : Nat,i + n=j∧j≤l.length∧x0=v∧x1=I no∧x2 = .fn (.func 103) [] []∧x8=I l.length∧x9=I i∧x10=I j∧H'=[]∧(∀ m x,m < i→l[m]? = some x→cmpI (NdV.ino x) no < 0)∧(∀ m x,j≤m→l[m]? = some x→¬ cmpI (NdV.ino x) no < 0)) ?_ l.length ⟨0,l.length,by simp,by omega,rfl,rfl,rfl,rfl,rfl,rfl,rfl,by simp,fun m x hm hx => by have:=(List.getElem?_eq_some_iff.1 hx).1; omega⟩
 rintro n x0 x1 x2 x8 x9 x10 H' R hR ⟨i,j,hij,hj,rfl,rfl,rfl,rfl,rfl,rfl,rfl,h1,h2⟩
 unfold zqZ
 rcases Nat.lt_or_ge i j with hlt | hge
 ·have hx:=List.getElem?_eq_getElem (l:=l) (i:=(i + j) / 2) (by omega)
  generalize l[(i + j) / 2]'(by omega)=y at hx
  simp [hlt,abI_add (a:=i) (b:=j) (by omega) (by omega),acI_u64 (n:=(i : Int) + j) (by omega) (by omega),abI_shr1,acI_i64 (a:=((i : Int) + j) / 2) (by omega) (by omega),hv.idx encD_len hx (i:=((i : Int) + j) / 2) (by omega),goF_D,rdh_D]
  refine bC_of (node1_p y no []) ?_
  by_cases c1 : cmpI (NdV.ino y) no < 0
  ·simp [c1,abI_add (a:=((i : Int) + j) / 2) (b:=1) (by omega) (by omega)]
   refine hR (j - ((i + j) / 2 + 1)) _ _ _ _ _ _ _ (by omega) ⟨(i + j) / 2 + 1,j,by omega,hj,rfl,rfl,rfl,rfl,by simp,rfl,rfl, ?_,h2⟩
   intro m x hm hmx
   by_cases hm2 : m=(i + j) / 2
   ·rw [hm2,hx] at hmx; injection hmx with e; rw [← e]; exact c1
   ·exact koI.trans _ _ _ (srtK_get hs hmx hx (by omega)) c1
  ·simp [c1]
   refine hR ((i + j) / 2 - i) _ _ _ _ _ _ _ (by omega) ⟨i,(i + j) / 2,by omega,by omega,rfl,rfl,rfl,rfl,rfl,by simp,rfl,h1, ?_⟩
   intro m x hm hmx
   by_cases hm2 : m=(i + j) / 2
   ·rw [hm2,hx] at hmx; injection hmx with e; rw [← e]; exact c1
   ·intro c2
    exact c1 (koI.trans _ _ _ (srtK_get hs hx hmx (by omega)) c2)
 ·have hi : i=j:=by omega
  subst hi
  have hp : posK cmpI NdV.ino l no=i:=posK_eq (by omega) h1 (fun x hx => h2 i x (by omega) hx)
  rcases Nat.lt_or_ge i l.length with hil | hil
  ·have hx:=List.getElem?_eq_getElem (l:=l) (i:=i) hil
   generalize l[i]=y at hx
   have hh : hasK NdV.ino l no ↔ cmpI (NdV.ino y) no=0:=by
    rw [hasK_iff koI hs,hp,koI.eq]
    constructor
    ·rintro ⟨z,hz,e⟩
     rw [hx] at hz; injection hz with hz; rw [hz,e]
    ·intro e
     exact ⟨y,hx,e⟩
   simp [hil,hv.idx encD_len hx rfl,goF_D,rdh_D]
   refine bC_of (node1_p y no []) ?_
   simp [hp,hh]
  ·have hn : ¬ hasK NdV.ino l no:=by
    rw [hasK_iff koI hs,hp]
    rintro ⟨z,hz,e⟩
    have:=(List.getElem?_eq_some_iff.1 hz).1
    omega
   simp [show ¬ i < l.length by omega,hp,hn]))
end Go.Proofs.YtlbilcpnjgkpjaaGreat.Av
end
section
namespace Go.Proofs.YtlbilcpnjgkpjaaGreat.Av
open Go Go.RowKit
def encM (ps : List (Int × AV)) : List (Value × AV):=ps.map fun p => (.int .i64 p.1,p.2)
def look (z : AV) (ps : List (Int × AV)) (k : Int) : AV:=match ps.find? (fun p => p.1 == k) with
 | some p => p.2
 | none => z
theorem same_int (a b : Int) : Instr.sameNow (.int .i64) (.int .i64 a) (.int .i64 b)=some (a == b):=rfl
theorem findA_int (k : Int) : ∀ (ps : List (Int × AV)) (i : Nat),findA (.int .i64) (.int .i64 k) (encM ps) i=some ((ps.findIdx? (fun p => p.1 == k)).bind fun j => (ps[j]?).map fun p => (i + j,p.2))
 | [],i => rfl
 | p :: ps,i => by
  show (match Instr.sameNow (.int .i64) (.int .i64 k) (.int .i64 p.1) with
   | some true => some (some (i,p.2))
   | some false => findA (.int .i64) (.int .i64 k) (encM ps) (i + 1)
   | none => none)=_
  rw [same_int,List.findIdx?_cons]
  by_cases h : p.1=k
  ·have h' : (k == p.1)=true:=by simp [h]
   have h2 : (p.1 == k)=true:=by simp [h]
   simp [h',h2]
  ·have h' : (k == p.1)=false:=by simp; omega
   have h2 : (p.1 == k)=false:=by simp [h]
   simp only [h',h2]
   rw [findA_int k ps (i + 1)]
   cases ps.findIdx? (fun p => p.1 == k) with
   | none => rfl
   | some j =>
    simp
    cases ps[j]? with
    | none => rfl
    | some q => simp; omega
theorem look_none {z : AV} {ps : List (Int × AV)} {k : Int} (h : ps.findIdx? (fun p => p.1 == k)=none) : look z ps k=z:=by
 have : ps.find? (fun p => p.1 == k)=none:=by
  rw [List.find?_eq_none]
  intro x hx
  rw [List.findIdx?_eq_none_iff] at h
  simpa using h x hx
 unfold look; rw [this]
theorem look_some {z : AV} {ps : List (Int × AV)} {k : Int} {j : Nat} (h : ps.findIdx? (fun p => p.1 == k)=some j) : ∃ p,ps[j]? = some p∧p.1=k∧look z ps k=p.2:=by
 obtain ⟨h1,h2,h3⟩:=List.findIdx?_eq_some_iff_getElem.1 h
 refine ⟨ps[j],List.getElem?_eq_getElem h1,by simpa using h2, ?_⟩
 have : ps.find? (fun p => p.1 == k)=some ps[j]:=by
  rw [List.find?_eq_some_iff_getElem]
  exact ⟨h2,j,h1,rfl,fun i hi => by simpa using h3 i hi⟩
 unfold look; rw [this]
theorem alk_int {H : AH} {o : Nat} {zv : Value} {ps : List (Int × AV)} {k : Int} (h : H[o]? = some (some (.map (encM ps)))) : alk (.int .i64) zv H (.mp o) (.lit (.int .i64 k)) false=some (look (.ofV zv) ps k):=by
 have hk : keyB (.int .i64) (.int .i64 k)=true:=rfl
 unfold alk entriesA
 simp only [h,hk,if_true,findA_int]
 cases hf : ps.findIdx? (fun p => p.1 == k) with
 | none => rw [look_none hf]; rfl
 | some j =>
  obtain ⟨p,h1,h2,h3⟩:=look_some (z:=.ofV zv) hf
  simp [h1,h3]
def putM (ps : List (Int × AV)) (k : Int) (v : AV) : List (Int × AV):=match ps.findIdx? (fun p => p.1 == k) with
 | some j => ps.set j (k,v)
 | none => ps ++ [(k,v)]
theorem amu_int {H : AH} {o : Nat} {ps : List (Int × AV)} {k : Int} {v : AV} (h : H[o]? = some (some (.map (encM ps)))) : amu (.int .i64) H (.mp o) (.lit (.int .i64 k)) v=some (H.set o (some (.map (encM (putM ps k v))))):=by
 have hk : keyB (.int .i64) (.int .i64 k)=true:=rfl
 unfold amu putM
 simp only [h,hk,if_true,findA_int]
 cases hf : ps.findIdx? (fun p => p.1 == k) with
 | none => simp [encM]
 | some j =>
  obtain ⟨p,h1,h2,h3⟩:=look_some (z:=.junk) hf
  simp [h1,encM,List.map_set]
theorem putM_look {z : AV} {ps : List (Int × AV)} {k : Int} {v : AV} (k2 : Int) : look z (putM ps k v) k2=if k2=k then v else look z ps k2:=by
 unfold putM
 cases hf : ps.findIdx? (fun p => p.1 == k) with
 | none =>
  rw [List.findIdx?_eq_none_iff] at hf
  unfold look
  simp only [List.find?_append]
  by_cases h : k2=k
  ·subst h
   rw [if_pos rfl]
   have : ps.find? (fun p => p.1 == k2)=none:=by
    rw [List.find?_eq_none]; intro x hx; simpa using hf x hx
   rw [this]; simp
  ·rw [if_neg h]
   cases ps.find? (fun p => p.1 == k2) with
   | none => simp [show ¬ k=k2 by omega]
   | some q => rfl
 | some j =>
  obtain ⟨h1,h2,h3⟩:=List.findIdx?_eq_some_iff_getElem.1 hf
  have hkj : ps[j].1=k:=by simpa using h2
  clear hf
  induction ps generalizing j with
  | nil => simp at h1
  | cons p ps ih =>
   cases j with
   | zero =>
    simp at hkj
    simp only [List.set_cons_zero]
    unfold look
    by_cases h : k2=k
    ·subst h; simp
    ·rw [if_neg h,List.find?_cons_of_neg (by simp; omega),List.find?_cons_of_neg (by simp; omega)]
   | succ j =>
    simp only [List.set_cons_succ]
    have hp : p.1 ≠ k:=by have:=h3 0 (by omega); simpa using this
    have ih:=ih j (by simpa using h1) (by simpa using h2) (fun i hi => by have:=h3 (i + 1) (by omega); simpa using this) (by simpa using hkj)
    unfold look at ih ⊢
    by_cases h : p.1=k2
    ·have : k2 ≠ k:=by omega
     rw [if_neg this,List.find?_cons_of_pos (by simp [h]),List.find?_cons_of_pos (by simp [h])]
    ·rw [List.find?_cons_of_neg (by simp [h]),List.find?_cons_of_neg (by simp [h])]
     exact ih
end Go.Proofs.YtlbilcpnjgkpjaaGreat.Av
end
section
namespace Go.Proofs.YtlbilcpnjgkpjaaGreat.Av
open Go Go.RowKit
end Go.Proofs.YtlbilcpnjgkpjaaGreat.Av
end
section
namespace Go.Proofs.YtlbilcpnjgkpjaaGreat.Av
open Go Go.RowKit
def atL (l : List Ext) (p : Int) : UInt8:=match l.find? fun x => decide (x.no=p / 8) with
 | some x => x.b.getD (p % 8).toNat 0
 | none => 0
theorem atL_none {l : List Ext} {p : Int} (h : ¬ hasL l (p / 8)) : atL l p=0:=by
 have : l.find? (fun x => decide (x.no=p / 8))=none:=by
  rw [List.find?_eq_none]
  intro x hx he
  exact h ⟨x,hx,by simpa using he⟩
 unfold atL; rw [this]
theorem atL_some {l : List Ext} (hs : srt l) {p : Int} {k : Nat} {x : Ext} (hx : l[k]? = some x) (he : x.no=p / 8) : atL l p=x.b.getD (p % 8).toNat 0:=by
 have : l.find? (fun x => decide (x.no=p / 8))=some x:=by
  rw [List.find?_eq_some_iff_getElem]
  obtain ⟨h1,h2⟩:=List.getElem?_eq_some_iff.1 hx
  refine ⟨by simp [he],k,h1,h2, ?_⟩
  intro j hj
  have:=srt_get hs (List.getElem?_eq_getElem (Nat.lt_trans hj h1)) hx hj
  simp; omega
 unfold atL; rw [this]
def inC (size : Int) (l : List Ext) (pos n : Int) : Prop:=mayC size l∧0≤pos∧0≤n∧n≤4096∧pos < size
instance (size : Int) (l : List Ext) (pos n : Int) : Decidable (inC size l pos n):=by unfold inC; infer_instance
def bytesL (l : List Ext) (pos : Int) (k : Nat) : List UInt8:=(List.range k).map fun (i : Nat) => atL l (pos + (i : Int))
theorem bytesL_len (l : List Ext) (pos : Int) (k : Nat) : (bytesL l pos k).length=k:=by simp [bytesL]
def readC (size : Int) (l : List Ext) (pos n : Int) : List UInt8:=if inC size l pos n then bytesL l pos (min n (size - pos)).toNat else []
theorem srt_take {l : List Ext} (h : srt l) (k : Nat) : srt (l.take k):=List.Pairwise.sublist (List.take_sublist k l) h
theorem atL_succ {l : List Ext} (hs : srt l) {k : Nat} {y : Ext} (hx : l[k]? = some y) (p : Int) : atL (l.take (k + 1)) p=if y.no=p / 8 then y.b.getD (p % 8).toNat 0 else atL (l.take k) p:=by
 split
 ·rename_i h
  exact atL_some (srt_take hs (k + 1)) (k:=k) (by rw [List.getElem?_take,if_pos (by omega)]; exact hx) h
 ·rename_i h
  unfold atL
  rw [List.take_add_one,hx,List.find?_append]
  simp [h]
theorem zjgZ {l : List Ext} {pos : Int} {m i : Nat} : (bytesL l pos m)[i]? = if i < m then some (atL l (pos + i)) else none:=by
 unfold bytesL
 rw [List.getElem?_map]
 by_cases h : i < m
 ·simp [h]
 ·simp [h]
theorem read_skip {l : List Ext} (hs : srt l) {k m : Nat} {y : Ext} (hx : l[k]? = some y) {pos : Int} (h : ¬ max (y.no * 8) pos < min (y.no * 8 + 8) (pos + m)) : bytesL (l.take (k + 1)) pos m=bytesL (l.take k) pos m:=by
 refine List.ext_getElem? fun i => ?_
 rw [zjgZ,zjgZ]
 split
 ·rw [atL_succ hs hx,if_neg (by omega)]
 ·rfl
theorem read_step {l : List Ext} (hs : srt l) {k m : Nat} {y : Ext} (hx : l[k]? = some y) {pos : Int} {off from' mlen : Nat} (h : max (y.no * 8) pos < min (y.no * 8 + 8) (pos + m))
  (h1 : (off : Int)=max (y.no * 8) pos - pos) (h2 : (from' : Int)=max (y.no * 8) pos - y.no * 8) (h3 : (mlen : Int)=min (y.no * 8 + 8) (pos + m) - max (y.no * 8) pos) :
  (bytesL (l.take k) pos m).take off ++ ((y.b.drop from').take mlen) ++ (bytesL (l.take k) pos m).drop (off + mlen)=bytesL (l.take (k + 1)) pos m:=by
 have hb:=y.hb
 refine List.ext_getElem? fun i => ?_
 have hl1 : ((bytesL (l.take k) pos m).take off).length=off:=by rw [List.length_take,bytesL_len]; omega
 have hl2 : ((y.b.drop from').take mlen).length=mlen:=by rw [List.length_take,List.length_drop]; omega
 by_cases c1 : i < off
 ·rw [List.append_assoc,List.getElem?_append_left (by omega),List.getElem?_take,if_pos c1,zjgZ,zjgZ]
  split
  ·rw [atL_succ hs hx,if_neg (by omega)]
  ·rfl
 ·by_cases c2 : i < off + mlen
  ·rw [List.getElem?_append_left (by rw [List.length_append]; omega),List.getElem?_append_right (by omega),hl1,List.getElem?_take,if_pos (by omega),List.getElem?_drop,zjgZ,if_pos (by omega),atL_succ hs hx,if_pos (by omega)]
   rw [show ((pos + (i : Int)) % 8).toNat=from' + (i - off) by omega]
   rw [List.getD_eq_getElem?_getD,List.getElem?_eq_getElem (by omega)]
   simp
  ·rw [List.getElem?_append_right (by rw [List.length_append]; omega),List.length_append,hl1,hl2,List.getElem?_drop,zjgZ,zjgZ,show off + mlen + (i - (off + mlen))=i by omega]
   split
   ·rw [atL_succ hs hx,if_neg (by omega)]
   ·rfl
theorem over_encB (a b : List UInt8) (off : Nat) : over (encB a) off (encB b)=encB (a.take off ++ b ++ a.drop (off + b.length)):=by
 unfold over
 rw [zknZ,encB_take,encB_drop,encB_app,encB_app]
theorem zrow_bytes (l : List Ext) (pos : Int) (m : Nat) : List.replicate m (AV.lit (.int .u8 0))=encB (bytesL (l.take 0) pos m):=by
 refine List.ext_getElem? fun i => ?_
 rw [encB_get,zjgZ,List.getElem?_replicate]
 by_cases h : i < m
 ·rw [if_pos h,if_pos h]
  simp [atL]
 ·rw [if_neg h,if_neg h]
  rfl
theorem extent_Read_p {size : Int} {l : List Ext} {v : AV} (hv : SV encE 9 l v) (hl : l.length≤281474976710656) (pos n : Int) :
  ∃ r,SV encU 1 (readC size l pos n) r∧BPure Tryz.prog 51 [.agg [I size,v],I pos,I n] r:=by
 unfold SV
 simp only [flat_encU]
 have : ∃ r,(noIds r=true∧∀ H,zaZ H 1 r=some (encB (readC size l pos n),(readC size l pos n).length))∧BPure Tryz.prog 51 [.agg [I size,v],I pos,I n] r:=by
  refine BPure.sl (sz:=1) (by simp [noIdss,noIds,hv.1]) (zodZ _) (extent_Read_ok ?_)
  unfold extent_Read
  simp [oneA_sv hv,rdCells]
  refine bP_pure (zjnZ hv hl) ?_
  have nix : ∀ H,¬ inC size l pos n→zaZ H 1 (.lit (.slice none 0 0))=some (encB (readC size l pos n),(readC size l pos n).length):=by
   intro H h
   have : readC size l pos n=[]:=if_neg h
   rw [this]; rfl
  by_cases h1 : mayC size l
  ·by_cases h2 : pos < 0
   ·simp [h1,h2,nix _ (fun h => by have:=h.2.1; omega)]
   ·by_cases h3 : n < 0
    ·simp [h1,h2,h3,nix _ (fun h => by have:=h.2.2.1; omega)]
    ·by_cases h4 : 4096 < n
     ·simp [h1,h2,h3,h4,nix _ (fun h => by have:=h.2.2.2.1; omega)]
     ·by_cases h5 : size≤pos
      ·simp [h1,h2,h3,h4,h5,nix _ (fun h => by have:=h.2.2.2.2; omega)]
      ·have hs:=okL_srt h1.2.2
       have hsz:=h1.2.1
       have hsz0:=h1.1
       have hr : readC size l pos n=bytesL l pos (min n (size - pos)).toNat:=if_pos ⟨h1,by omega,by omega,by omega,by omega⟩
       rw [hr,bytesL_len]
       obtain ⟨m,hm⟩ : ∃ m : Nat,(m : Int)=min n (size - pos):=⟨(min n (size - pos)).toNat,by omega⟩
       have hm' : min (size - pos) n=(m : Int):=by omega
       rw [show (min n (size - pos)).toNat=m by omega]
       simp [h1,h2,h3,h4,h5,abI_sub (a:=size) (b:=pos) (by omega) (by omega),hm',amk,show (m : Int)≤281474976710656 by omega,show (m : Int)≤9223372036854775807 by omega,hv.len]
       have hz:=zrow_bytes l pos m
       refine extent_Read_L8_rule (fun q x1 x2 x7 x41 x42 x43 H' => ∃ k : Nat,k + q=l.length∧x1=I pos∧x2=I m∧x7 = .sl 1 0 m 1 (.ex m)∧x41=v∧x42=I l.length∧x43=I k∧∃ X,H'=some (.cells [I size,v]) :: some (.cells (encB (bytesL (l.take k) pos m))) :: X) ?_ l.length ⟨0,by omega,rfl,rfl,rfl,rfl,rfl,rfl,[],by rw [← hz]⟩
       rintro q x1 x2 x7 x41 x42 x43 H R hR ⟨k,hk,rfl,rfl,rfl,rfl,rfl,rfl,X,rfl⟩
       unfold zlcZ
       rcases Nat.lt_or_ge k l.length with hlt | hge
       ·have hx:=List.getElem?_eq_getElem hlt
        generalize l[k]=y at hx
        have hy:=okL_all h1.2.2 y (List.mem_of_getElem? hx)
        simp [hlt,hv.idx zcbZ hx rfl,-ald_ptr']
        rw [← List.cons_append,← List.cons_append,ast_e (by simp) (by rfl)]
        simp
        refine bP_pure (zogZ y.no (by omega) (by omega)) ?_
        have nxt : ∀ Y,(zjeZ R (I pos) (I m) (.sl 1 0 m 1 (.ex m)) x41 (I l.length) (I k) (some (.cells [I size,x41]) :: some (.cells (encB (bytesL (l.take (k + 1)) pos m))) :: Y) fun r H' => zaZ H' 1 r=some (encB (bytesL l pos m),m)):=by
         intro Y
         rw [extent_Read_J11_eq]
         unfold zoiZ
         simp [abI_add (a:=k) (b:=1) (by omega) (by omega)]
         exact hR (q - 1) _ _ _ _ _ _ _ (by omega) ⟨k + 1,by omega,rfl,rfl,rfl,rfl,rfl,rfl,Y,rfl⟩
        have w1 : MaySpan ⟨y.no * 8,8⟩:=by simp only [MaySpan,May]; omega
        have w2 : MaySpan ⟨pos,m⟩:=by simp only [MaySpan,May]; omega
        refine bP_pure (off_Meet_p ⟨y.no * 8,8⟩ ⟨pos,m⟩) ?_
        by_cases c : max (y.no * 8) pos < min (y.no * 8 + 8) (pos + m)
        ·have e : meet ⟨y.no * 8,8⟩ ⟨pos,m⟩=⟨max (y.no * 8) pos,min (y.no * 8 + 8) (pos + m) - max (y.no * 8) pos⟩:=if_pos ⟨w1,w2,c⟩
         rw [e]
         obtain ⟨off,ho⟩ : ∃ off : Nat,(off : Int)=max (y.no * 8) pos - pos:=⟨(max (y.no * 8) pos - pos).toNat,by omega⟩
         obtain ⟨fr,hf⟩ : ∃ fr : Nat,(fr : Int)=max (y.no * 8) pos - y.no * 8:=⟨(max (y.no * 8) pos - y.no * 8).toNat,by omega⟩
         obtain ⟨ml,hml⟩ : ∃ ml : Nat,(ml : Int)=min (y.no * 8 + 8) (pos + m) - max (y.no * 8) pos:=⟨(min (y.no * 8 + 8) (pos + m) - max (y.no * 8) pos).toNat,by omega⟩
         have hst:=read_step hs hx c ho hf hml
         have hb:=y.hb
         have e1 : aslS 1 (.sl 1 0 m 1 (.ex m)) (some (I off)) none none=some (.sl 1 off (m - off) 1 (.ex (m - off))):=by
          simp [aslS,abnd,Room.least,Room.cut]; omega
         have e3 : ∀ o,aslS 1 (.sl o (1 + fr) (8 - fr) 1 (.ex (8 - fr))) none (some (I ml)) none=some (.sl o (1 + fr) ml 1 (.ex (8 - fr))):=by
          intro o
          simp [aslS,abnd,Room.least,Room.cut]; omega
         have key : ∀ (HH Y : AH) (o : Nat),HH=some (.cells [I size,x41]) :: some (.cells (encB (bytesL (l.take k) pos m))) :: Y→HH[o]? = some (some (.cells (encE y))) →
           aslA 8 1 HH (.ptr o 1) (some (I fr)) none=some (.sl o (1 + fr) (8 - fr) 1 (.ex (8 - fr))) ∧
           acp 1 HH (.sl 1 off (m - off) 1 (.ex (m - off))) (.sl o (1 + fr) ml 1 (.ex (8 - fr)))=some (I ml,some (.cells [I size,x41]) :: some (.cells (encB (bytesL (l.take (k + 1)) pos m))) :: Y):=by
          intro HH Y o hHH hHo
          refine ⟨by simp [aslA,abnd,hHo,zcbZ]; omega, ?_⟩
          have a1 : zaZ HH 1 (.sl o (1 + fr) ml 1 (.ex (8 - fr)))=some (encB ((y.b.drop fr).take ml),ml):=by
           have : (encE y).drop (1 + fr)=encB (y.b.drop fr):=by
            rw [Nat.add_comm]
            show (encB y.b).drop fr=_
            rw [encB_drop]
           simp [zaZ,hHo,zcbZ,this,encB_take]
           omega
          unfold acp acp0
          rw [zjZ a1,hHH]
          have a2 : min ml (m - off)=ml:=by omega
          have a3 : ((y.b.drop fr).take ml).length=ml:=by simp; omega
          have hle : off≤m:=by omega
          simp [zknZ,bytesL_len,a2,encB_take,hle]
          have a4 : List.take ml (List.take ml (y.b.drop fr))=(y.b.drop fr).take ml:=by rw [List.take_take,Nat.min_self]
          rw [a4,over_encB,a3,hst]
         simp [encSp,ast,c,abI_sub (a:=max (y.no * 8) pos) (b:=pos) (by omega) (by omega),← ho,e1,abI_mul (a:=y.no) (b:=8) (by omega) (by omega),abI_sub (a:=max (y.no * 8) pos) (b:=y.no * 8) (by omega) (by omega),← hf,← hml]
         obtain ⟨k1,k2⟩:=key _ (X ++ [some (.cells (encE y)),some (.cells [I (max (y.no * 8) pos),I ml])]) (X.length + 1 + 1) rfl (by simp)
         rw [k1]
         simp [e3]
         rw [k2]
         simp [show 0 < ml by omega]
         exact nxt _
        ·have e : meet ⟨y.no * 8,8⟩ ⟨pos,m⟩=⟨0,0⟩:=if_neg (fun h => c h.2.2)
         rw [e]
         simp [encSp,ast]
         rw [← read_skip hs hx c]
         exact nxt _
       ·have : k=l.length:=by omega
        subst this
        rw [List.take_length]
        simp [zaZ,zknZ,bytesL_len]
        rw [List.take_of_length_le (by rw [zknZ,bytesL_len]; omega)]
  ·simp [h1,nix _ (fun h => h1 h.1)]
 exact this
end Go.Proofs.YtlbilcpnjgkpjaaGreat.Av
end
section
namespace Go.Proofs.YtlbilcpnjgkpjaaGreat.Av
open Go Go.RowKit
theorem acp_sl {H : AH} {sz o off len o2 off2 m : Nat} {cap cap2 : Room} {cs cs2 : List AV} (ho : H[o]? = some (some (.cells cs))) (h2 : H[o2]? = some (some (.cells cs2))) (hoff : off≤cs.length) (ht : off2 + min m len * sz≤cs2.length) :
  acp sz H (.sl o off len sz cap) (.sl o2 off2 m sz cap2)=some (I ((min m len : Nat) : Int),H.set o (some (.cells (over cs off ((cs2.drop off2).take (min m len * sz)))))):=by
 unfold acp acp0
 by_cases h : off2 + m * sz≤cs2.length
 ·have e : zddZ H sz (.sl o2 off2 m sz cap2)=some ((cs2.drop off2).take (m * sz),m):=zjZ (by simp [zaZ,h2,h])
  have hm : min (min m len * sz) (m * sz)=min m len * sz:=Nat.min_eq_left (Nat.mul_le_mul_right _ (Nat.min_le_left _ _))
  rw [e]
  simp only [ho,hoff,and_self,if_true,List.take_take,hm]
 ·have e : zddZ H sz (.sl o2 off2 m sz cap2)=none:=by simp [zddZ,zaZ,h2,h]
  rw [e]
  simp [acpT,ho,h2,hoff,ht]
theorem size_ext (w : World) : (Go.sizeOf 131).run Tryz.prog w = .ok 9 w:=zcmZ (by kernel_rfl)
theorem overlaps_no {H : AH} {oa offa la ea ka ob offb lb eb kb : Nat} {ca cb : List AV} (ha : H[oa]? = some (some (.cells ca))) (hbo : H[ob]? = some (some (.cells cb))) (hne : oa ≠ ob) (hka : ka ≠ 0) (hkb : kb ≠ 0) (hcb : cb ≠ []) :
  ExtR Tryz.prog 125 [.sl oa offa la ea (.ex ka),.sl ob offb lb eb (.ex kb)] H (B false) :=
 ExtR.apart (tS:=95) (tR:=4) (fn:=Tryz.f125) (by kernel_rfl) (by kernel_rfl) (by kernel_rfl) (by kernel_rfl) (by kernel_rfl) (by kernel_rfl) size_ext ha hbo hne hka hkb hcb
def InsP (H : AH) (s : AV) (N : List AV) (n : Nat) (r : AV) (H' : AH) : Prop :=
 ownedS r=true∧zaZ H' 9 r=some (N,n + 1)∧H.length≤H'.length∧(∀ i,i < H.length→i ∉ idS s→H'[i]? = H[i]?)∧∀ i ∈ idS r,i ∈ idS s∨H.length≤i
theorem insE_end {H : AH} {s : AV} {cs : List AV} {n ov : Nat} {x : Ext} (hs : zaZ H 9 s=some (cs,n)) (ho : ownedS s=true) (hn : n≤100000000) (hv : H[ov]? = some (some (.cells (encE x)))) :
  ∃ r H',InsP H s (cs ++ encE x) n r H'∧BCall Tryz.prog 119 [s,I n,.sl ov 0 1 9 (.ex 1)] H r H':=by
 obtain ⟨r0,a0,-⟩:=aslS_spec hs (lo:=some (I n)) (hi:=none) (l:=n) (k:=n) (by simp [abnd]) rfl (Nat.le_refl _) (Nat.le_refl _)
 have hl:=zcbZ x
 obtain ⟨r,H2,a1,a2,a3,a4,a5,a6⟩:=zjcZ (bytes:=16) hs ho (zjZ (v:=.sl ov 0 1 9 (.ex 1)) (q:=(encE x,1)) (by simp [zaZ,hv,hl,List.take_of_length_le])) (by omega)
 refine ⟨r,H2,⟨a2,a3,a4,a5,a6⟩,zcaZ ?_⟩
 unfold zbbZ
 simp [a0,zbxZ hs,a1]
theorem insE_grow {H : AH} {o off n ov i : Nat} {cells : List AV} {x : Ext} (hc : H[o]? = some (some (.cells cells))) (hl : off + n * 9≤cells.length) (hi : i < n) (hn : n≤100000000) (hv : H[ov]? = some (some (.cells (encE x)))) :
  ACalls Tryz.prog 119 [.sl o off n 9 (.ex n),I i,.sl ov 0 1 9 (.ex 1)] H fun r H' => r = .sl H.length 0 (n + 1) 9 (.ge (n + 1)) ∧
   H'=H ++ [some (.cells ((cells.drop off).take (i * 9) ++ encE x ++ (cells.drop (off + i * 9)).take ((n - i) * 9)))]:=by
 refine zcaZ ?_
 unfold zbbZ
 have h1 : ¬ (i : Int)=n:=by omega
 have hxl:=zcbZ x
 simp [aslS,abnd,Room.least,Room.cut,acpS,goInt,h1,show i≤n by omega,abI_add (a:=n) (b:=1) (by omega) (by omega),abI_sub (a:=(n : Int) + 1) (b:=i) (by omega) (by omega),aappZ1,hc,hl,abI_add (a:=i) (b:=1) (by omega) (by omega)]
 have e1 : i + (n + 1 - i)=n + 1:=by omega
 have h2 : off + i * 9≤cells.length:=by omega
 simp only [e1]
 simp [h2,show (i : Int) < n + 1 by omega,show (n : Int) < n + 1 by omega,show (n + 1) * 16≤140737488355328 by omega,show i≤n + 1 by omega,show i + 1≤n + 1 by omega]
 have zl : ((List.replicate (n + 1 - i) [AV.lit (Value.int IntKind.i64 0),AV.lit (Value.int IntKind.u8 0),AV.lit (Value.int IntKind.u8 0),AV.lit (Value.int IntKind.u8 0),AV.lit (Value.int IntKind.u8 0),AV.lit (Value.int IntKind.u8 0),AV.lit (Value.int IntKind.u8 0),AV.lit (Value.int IntKind.u8 0),AV.lit (Value.int IntKind.u8 0)]).flatten).length=(n + 1 - i) * 9:=zfiZ _ _
 generalize (List.replicate (n + 1 - i) [AV.lit (Value.int IntKind.i64 0),AV.lit (Value.int IntKind.u8 0),AV.lit (Value.int IntKind.u8 0),AV.lit (Value.int IntKind.u8 0),AV.lit (Value.int IntKind.u8 0),AV.lit (Value.int IntKind.u8 0),AV.lit (Value.int IntKind.u8 0),AV.lit (Value.int IntKind.u8 0),AV.lit (Value.int IntKind.u8 0)]).flatten=Z at zl
 have hA : (List.take (i * 9) (List.drop off cells)).length=i * 9:=by rw [List.length_take,List.length_drop]; omega
 generalize hAe : List.take (i * 9) (List.drop off cells)=A at hA
 have hov:=(List.getElem?_eq_some_iff.1 hv).1
 have ho:=(List.getElem?_eq_some_iff.1 hc).1
 rw [acp_sl (cs:=A ++ Z) (cs2:=encE x) (by simp) (by rw [List.getElem?_append_left hov]; exact hv) (by simp [hA]) (by omega)]
 simp [show (0 : Int)≤(i : Int) + 1 by omega,show i + 1≤n + 1 by omega]
 have m1 : min 1 (n + 1 - i)=1:=by omega
 have o1 : over (A ++ Z) (i * 9) (List.take (min 1 (n + 1 - i) * 9) (encE x))=A ++ encE x ++ Z.drop 9:=by
  rw [m1,List.take_of_length_le (by rw [hxl]; omega)]
  unfold over
  rw [List.take_append_of_le_length (by omega),List.take_of_length_le (by omega),hxl,← hA,List.drop_append,Nat.add_sub_cancel_left,List.drop_eq_nil_of_le (by omega),List.nil_append]
 rw [o1,acp_sl (cs:=A ++ encE x ++ Z.drop 9) (cs2:=cells) (by simp) (by rw [List.getElem?_append_left ho]; exact hc) (by simp [hA,hxl]; omega) (by rw [Nat.min_self]; omega)]
 have hB : (List.take ((n - i) * 9) (List.drop (off + i * 9) cells)).length=(n - i) * 9:=by rw [List.length_take,List.length_drop]; omega
 simp
 generalize List.take ((n - i) * 9) (List.drop (off + i * 9) cells)=B' at hB
 unfold over
 have l1 : (A ++ encE x).length=(i + 1) * 9:=by rw [List.length_append,hA,hxl]; omega
 rw [← List.append_assoc,List.take_append_of_le_length (by omega),List.take_of_length_le (by omega),List.drop_eq_nil_of_le (by rw [List.length_append,l1,List.length_drop,hB]; omega),List.append_nil,List.append_assoc]
theorem insE_place {H : AH} {o off n ov i c : Nat} {cells : List AV} {x : Ext} (hc : H[o]? = some (some (.cells cells))) (hl : off + n * 9≤cells.length) (hi : i < n) (hn : n≤100000000) (hcn : n + 1≤c) (hv : H[ov]? = some (some (.cells (encE x)))) (hne : ov ≠ o) :
  ACalls Tryz.prog 119 [.sl o off n 9 (.ex c),I i,.sl ov 0 1 9 (.ex 1)] H fun r H' => r = .sl o off (n + 1) 9 (.ex c) ∧
   ∃ rest,H'=H.set o (some (.cells (cells.take (off + i * 9) ++ encE x ++ (cells.drop (off + i * 9)).take ((n - i) * 9) ++ rest))):=by
 refine zcaZ ?_
 unfold zbbZ
 have h1 : ¬ (i : Int)=n:=by omega
 have hxl:=zcbZ x
 simp [aslS,abnd,Room.least,Room.cut,acpS,goInt,h1,show i≤n by omega,abI_add (a:=n) (b:=1) (by omega) (by omega),abI_sub (a:=(n : Int) + 1) (b:=i) (by omega) (by omega),hc,hl,abI_add (a:=i) (b:=1) (by omega) (by omega),show i≤c by omega,show n≤c by omega,show ¬ (c : Int) < n + 1 by omega,hcn,show (0 : Int)≤(n : Int) + 1 by omega,show (0 : Int)≤(i : Int) + 1 by omega,show i + 1≤n + 1 by omega,show i + 1≤c by omega]
 refine bP_of (overlaps_no hv hc hne (by omega) (by omega) (by intro h; rw [h] at hl; simp at hl; omega)) ?_
 simp
 have ho:=(List.getElem?_eq_some_iff.1 hc).1
 have mm : min (n + 1 - i) (n - i)=n - i:=by omega
 have m1 : min 1 (n + 1 - i)=1:=by omega
 simp only [show i≤n + 1 by omega,if_true,bO_some]
 rw [acp_sl (cs:=cells) (cs2:=cells) hc hc (by omega) (by rw [mm]; omega),mm]
 have hB : (List.take ((n - i) * 9) (List.drop (off + i * 9) cells)).length=(n - i) * 9:=by rw [List.length_take,List.length_drop]; omega
 generalize List.take ((n - i) * 9) (List.drop (off + i * 9) cells)=B' at hB
 simp only [bH_some]
 have l1 : (cells.take (off + (i + 1) * 9)).length=off + (i + 1) * 9:=by rw [List.length_take]; omega
 rw [acp_sl (cs:=over cells (off + (i + 1) * 9) B') (cs2:=encE x) (by simp [ho]) (by rw [List.getElem?_set_ne (Ne.symm hne)]; exact hv) (by unfold over; simp [l1]; omega) (by omega),m1,List.take_of_length_le (l:=(encE x).drop 0) (by simp [hxl])]
 simp only [bH_some,List.set_set,List.drop_zero]
 refine ⟨(cells.drop (off + (i + 1) * 9 + B'.length)), ?_⟩
 congr 3
 unfold over
 rw [hxl]
 have t1 : List.take (off + i * 9) (cells.take (off + (i + 1) * 9) ++ B' ++ cells.drop (off + (i + 1) * 9 + B'.length))=cells.take (off + i * 9):=by
  rw [List.append_assoc,List.take_append_of_le_length (by omega),List.take_take,Nat.min_eq_left (by omega)]
 have t2 : List.drop (off + i * 9 + 9) (cells.take (off + (i + 1) * 9) ++ B' ++ cells.drop (off + (i + 1) * 9 + B'.length))=B' ++ cells.drop (off + (i + 1) * 9 + B'.length):=by
  rw [List.append_assoc,show off + i * 9 + 9=(cells.take (off + (i + 1) * 9)).length by omega,List.drop_left]
 rw [t1,t2,List.append_assoc]
theorem bels_app {m : Nat} : ∀ {a b : List AV},Bels m a→Bels m b→Bels m (a ++ b)
 | [],b,_,h => h
 | x :: a,b,h1,h2 => by simp only [Bels,List.cons_append] at h1 ⊢; exact ⟨h1.1,bels_app h1.2 h2⟩
theorem bels_mem {m : Nat} : ∀ {a : List AV},Bels m a ↔ ∀ x ∈ a,Bel m x
 | [] => by simp [Bels]
 | x :: a => by simp only [Bels,List.mem_cons,forall_eq_or_imp,bels_mem (a:=a)]
theorem bels_enc (x : Ext) (m : Nat) : Bels m (encE x):=by
 rw [bels_mem]
 intro a ha
 simp only [encE,encB,List.mem_cons,List.mem_map] at ha
 rcases ha with rfl | ⟨b,_,rfl⟩ <;> simp only [Bel]
theorem insE_mid {H : AH} {o off n ov i : Nat} {cap : Room} {cells : List AV} {x : Ext} (hc : H[o]? = some (some (.cells cells))) (hl : off + n * 9≤cells.length) (hi : i < n) (hn : n≤100000000) (hv : H[ov]? = some (some (.cells (encE x)))) (hne : ov ≠ o) :
  BCall Tryz.prog 119 [.sl o off n 9 cap,I i,.sl ov 0 1 9 (.ex 1)] H (.sl H.length 0 (n + 1) 9 (.ge (n + 1)))
   (H.set o none ++ [some (.cells ((cells.drop off).take (i * 9) ++ encE x ++ (cells.drop (off + i * 9)).take ((n - i) * 9)))]):=by
 have ho:=(List.getElem?_eq_some_iff.1 hc).1
 have hxl:=zcbZ x
 generalize hN : (cells.drop off).take (i * 9) ++ encE x ++ (cells.drop (off + i * 9)).take ((n - i) * 9)=N
 have hNl : N.length=(n + 1) * 9:=by
  rw [← hN,List.length_append,List.length_append,hxl,List.length_take,List.length_take,List.length_drop,List.length_drop]; omega
 have hall : ∀ c,n≤c→ACalls Tryz.prog 119 [.sl o off n 9 (.ex c),I i,.sl ov 0 1 9 (.ex 1)] H fun r H' =>
   (r = .sl H.length 0 (n + 1) 9 (.ge (n + 1))∧H'=H ++ [some (.cells N)])∨∃ c rest,n + 1≤c∧r = .sl o off (n + 1) 9 (.ex c)∧H'=H.set o (some (.cells (cells.take off ++ N ++ rest))):=by
  intro c hcn
  rcases Nat.lt_or_ge n c with h | h
  ·refine (insE_place hc hl hi hn h hv hne).mono ?_
   rintro r H' ⟨rfl,rest,rfl⟩
   refine .inr ⟨c,rest,h,rfl, ?_⟩
   congr 3
   rw [← hN,Nat.add_comm off (i * 9),Nat.add_comm (i * 9) off]
   have : cells.take (off + i * 9)=cells.take off ++ (cells.drop off).take (i * 9):=by rw [List.take_add]
   rw [this]
   simp [List.append_assoc]
  ·have : c=n:=by omega
   subst this
   refine (insE_grow hc hl hi hn hv).mono ?_
   rintro r H' ⟨rfl,rfl⟩
   exact .inl ⟨rfl,by rw [hN]⟩
 have hany : ACalls Tryz.prog 119 [.sl o off n 9 cap,I i,.sl ov 0 1 9 (.ex 1)] H fun r H' =>
   (r = .sl H.length 0 (n + 1) 9 (.ge (n + 1))∧H'=H ++ [some (.cells N)])∨∃ c rest,n + 1≤c∧r = .sl o off (n + 1) 9 (.ex c)∧H'=H.set o (some (.cells (cells.take off ++ N ++ rest))):=by
  cases cap with
  | ge k => exact ACalls.room fun c _ h => hall c h
  | ex c =>
   rcases Nat.lt_or_ge c n with h | h
   ·intro G vs hH hv
    exfalso
    simp only [VRs] at hv
    obtain ⟨v,r,rfl,h1,h2⟩:=hv
    simp only [VR] at h1
    obtain ⟨_,a,c',rfl,hlc,hs⟩:=h1
    simp only [SlAt] at hs
    omega
   ·exact hall c h
 refine ACalls.canon hany ?_
 rintro hb r1 H1 h1
 have hbN : Bels H.length N:=by
  have hbc : Bels H.length cells:=hb o _ hc
  rw [bels_mem] at hbc
  rw [← hN]
  refine bels_app (bels_app ?_ (bels_enc x _)) ?_
  ·rw [bels_mem]; exact fun a ha => hbc a (List.mem_of_mem_drop (List.mem_of_mem_take ha))
  ·rw [bels_mem]; exact fun a ha => hbc a (List.mem_of_mem_drop (List.mem_of_mem_take ha))
 rcases h1 with ⟨rfl,rfl⟩ | ⟨c,rest,hcn,rfl,rfl⟩
 ·refine ⟨_,_,_,Canon.grown hb hbN, ?_⟩
  intro G v hG hr
  refine ⟨?_,fun p ℓ h => by cases h⟩
  simp only [VR] at hr ⊢
  obtain ⟨q0,a,c,rfl,hlc,hs⟩:=hr
  refine ⟨by simp [Cfg.ren],a,c,rfl,hlc, ?_⟩
  simpa [Cfg.ren,idR,noLim] using hs
 ·refine ⟨_,_,_,Canon.placed (off:=off) (l:=c * 9) hb ho hbN (cs1:=cells.take off ++ N ++ rest) ?_ ?_ ?_, ?_⟩
  ·simp; omega
  ·have : (cells.take off).length=off:=by rw [List.length_take]; omega
   rw [List.append_assoc]
   conv => lhs; arg 2; arg 1; rw [← this]
   rw [List.drop_left,List.take_left]
  ·rw [hNl]; omega
  ·intro G v hG hr
   simp only [VR] at hr
   obtain ⟨q0,a,c',rfl,hlc,hs⟩:=hr
   simp only [SlAt] at hs
   obtain ⟨rfl,hs⟩:=hs
   have hs:=hs.resolve_left (by omega)
   obtain ⟨rfl,hs2⟩:=hs
   have e : atR H.length o off H.length=(o,off):=if_pos rfl
   have e2 : atL' H.length (c' * 9) H.length=some (c' * 9):=if_pos rfl
   refine ⟨?_, ?_⟩
   ·simp only [VR]
    refine ⟨by simp [Cfg.ren],_,c',rfl,by omega, ?_⟩
    simp only [SlAt]
    refine ⟨hcn,.inr ⟨by simp [Cfg.ren,e], ?_⟩⟩
    simp [Cfg.ren,e2]
   ·intro p ℓ h
    unfold atL' at h
    split at h
    ·rename_i hp
     injection h with h
     subst hp; subst h
     rw [e]; omega
    ·cases h
end Go.Proofs.YtlbilcpnjgkpjaaGreat.Av
end
section
namespace Go.Proofs.YtlbilcpnjgkpjaaGreat.Av
open Go Go.RowKit
theorem srt_mem : ∀ {l m : List Ext},srt l→srt m→(∀ x,x ∈ l ↔ x ∈ m)→l=m
 | [],[],_,_,_ => rfl
 | [],y :: m,_,_,h => by have:=(h y).2 (by simp); simp at this
 | x :: l,[],_,_,h => by have:=(h x).1 (by simp); simp at this
 | x :: l,y :: m,hl,hm,h => by
  have hl':=List.pairwise_cons.1 hl
  have hm':=List.pairwise_cons.1 hm
  have e : x=y:=by
   rcases List.mem_cons.1 ((h x).1 (by simp)) with e | h1
   ·exact e
   ·rcases List.mem_cons.1 ((h y).2 (by simp)) with e | h2
    ·exact e.symm
    ·have:=hm'.1 x h1; have:=hl'.1 y h2; omega
  subst e
  refine congrArg _ (srt_mem hl'.2 hm'.2 fun z => ?_)
  constructor
  ·intro hz
   rcases List.mem_cons.1 ((h z).1 (by simp [hz])) with e | h1
   ·have:=hl'.1 z hz; rw [e] at this; omega
   ·exact h1
  ·intro hz
   rcases List.mem_cons.1 ((h z).2 (by simp [hz])) with e | h1
   ·have:=hm'.1 z hz; rw [e] at this; omega
   ·exact h1
theorem ext_eq {x y : Ext} (h1 : x.no=y.no) (h2 : ∀ k,k < 8→x.b.getD k 0=y.b.getD k 0) : x=y:=by
 obtain ⟨a,b,hb⟩:=x
 obtain ⟨c,d,hd⟩:=y
 simp only at h1 h2
 subst h1
 have : b=d:=by
  refine List.ext_getElem (by omega) fun k hk1 hk2 => ?_
  have:=h2 k (by omega)
  rw [List.getD_eq_getElem?_getD,List.getD_eq_getElem?_getD,List.getElem?_eq_getElem hk1,List.getElem?_eq_getElem hk2] at this
  simpa using this
 subst this; rfl
theorem mem_get {l : List Ext} {x : Ext} (h : x ∈ l) : ∃ k : Nat,l[k]? = some x:=List.mem_iff_getElem?.1 h
theorem at_blk {l : List Ext} (hs : srt l) {x : Ext} (hx : x ∈ l) {k : Nat} (hk : k < 8) : atL l (x.no * 8 + k)=x.b.getD k 0:=by
 obtain ⟨i,hi⟩:=mem_get hx
 rw [atL_some hs hi (by omega),show ((x.no * 8 + (k : Int)) % 8).toNat=k by omega]
theorem srt_ext {l m : List Ext} (hl : srt l) (hm : srt m) (h1 : ∀ no,hasL l no ↔ hasL m no) (h2 : ∀ p,atL l p=atL m p) : l=m:=by
 have key : ∀ {l m : List Ext},srt l→srt m→(∀ no,hasL l no ↔ hasL m no)→(∀ p,atL l p=atL m p)→∀ x,x ∈ l→x ∈ m:=by
  intro l m hl hm h1 h2 x hx
  obtain ⟨y,hy,e⟩:=(h1 x.no).1 ⟨x,hx,rfl⟩
  have : x=y:=ext_eq e.symm fun k hk => by
   rw [← at_blk hl hx hk,← at_blk hm hy hk,h2,e]
  rw [this]; exact hy
 exact srt_mem hl hm fun x => ⟨key hl hm h1 h2 x,key hm hl (fun no => (h1 no).symm) (fun p => (h2 p).symm) x⟩
def newE (no : Int) : Ext:=⟨no,List.replicate 8 0,by simp⟩
def needL (l : List Ext) (no : Int) : List Ext:=if hasL l no then l else l.take (posL l no) ++ newE no :: l.drop (posL l no)
theorem posL_mem_lt {l : List Ext} {no : Int} {x : Ext} (h : x ∈ l.take (posL l no)) : x.no < no:=by
 obtain ⟨k,hk⟩:=mem_get h
 have h1:=(List.getElem?_eq_some_iff.1 hk).1
 rw [List.length_take] at h1
 rw [List.getElem?_take,if_pos (by omega)] at hk
 exact posL_lt (by omega) hk
theorem posL_mem_ge {l : List Ext} (hs : srt l) {no : Int} {x : Ext} (h : x ∈ l.drop (posL l no)) : no≤x.no:=by
 obtain ⟨k,hk⟩:=mem_get h
 rw [List.getElem?_drop] at hk
 cases h0 : l[posL l no]? with
 | none =>
  have h1:=(List.getElem?_eq_some_iff.1 hk).1
  rw [List.getElem?_eq_none_iff] at h0; omega
 | some y =>
  have h2:=posL_ge h0
  rcases Nat.eq_zero_or_pos k with h3 | h3
  ·subst h3; rw [Nat.add_zero,h0] at hk; injection hk with hk; rw [← hk]; exact h2
  ·have:=srt_get hs h0 hk (by omega); omega
theorem need_srt {l : List Ext} (hs : srt l) (no : Int) : srt (needL l no):=by
 unfold needL
 split
 ·exact hs
 ·rename_i h
  have hd : ∀ x ∈ l.drop (posL l no),no < x.no:=by
   intro x hx
   have h1:=posL_mem_ge hs hx
   have h2 : x.no ≠ no:=fun e => h ⟨x,List.mem_of_mem_drop hx,e⟩
   omega
  refine List.pairwise_append.2 ⟨List.Pairwise.sublist (List.take_sublist _ l) hs,List.pairwise_cons.2 ⟨hd,List.Pairwise.sublist (List.drop_sublist _ l) hs⟩, ?_⟩
  intro a ha b hb
  have h1:=posL_mem_lt ha
  rcases List.mem_cons.1 hb with rfl | hb
  ·exact h1
  ·have:=hd b hb; omega
theorem need_mem {l : List Ext} {no : Int} {x : Ext} : x ∈ needL l no ↔ x ∈ l∨(¬ hasL l no∧x=newE no):=by
 unfold needL
 split
 ·rename_i h; simp [h]
 ·rename_i h
  rw [List.mem_append,List.mem_cons]
  have : x ∈ l ↔ x ∈ l.take (posL l no)∨x ∈ l.drop (posL l no):=by rw [← List.mem_append,List.take_append_drop]
  rw [this]
  constructor
  ·rintro (h1 | h1 | h1)
   ·exact .inl (.inl h1)
   ·exact .inr ⟨h,h1⟩
   ·exact .inl (.inr h1)
  ·rintro ((h1 | h1) | ⟨_,h1⟩)
   ·exact .inl h1
   ·exact .inr (.inr h1)
   ·exact .inr (.inl h1)
theorem need_has {l : List Ext} {no a : Int} : hasL (needL l no) a ↔ hasL l a∨a=no:=by
 unfold hasL
 constructor
 ·rintro ⟨x,hx,e⟩
  rcases need_mem.1 hx with h | ⟨_,rfl⟩
  ·exact .inl ⟨x,h,e⟩
  ·exact .inr e.symm
 ·rintro (⟨x,hx,e⟩ | rfl)
  ·exact ⟨x,need_mem.2 (.inl hx),e⟩
  ·by_cases h : hasL l a
   ·obtain ⟨x,hx,e⟩:=h
    exact ⟨x,need_mem.2 (.inl hx),e⟩
   ·exact ⟨newE a,need_mem.2 (.inr ⟨h,rfl⟩),rfl⟩
theorem at_mem {l : List Ext} (hs : srt l) {x : Ext} (hx : x ∈ l) {p : Int} (h : x.no=p / 8) : atL l p=x.b.getD (p % 8).toNat 0:=by
 obtain ⟨k,hk⟩:=mem_get hx
 exact atL_some hs hk h
theorem need_at {l : List Ext} (hs : srt l) (no p : Int) : atL (needL l no) p=atL l p:=by
 by_cases h : hasL l (p / 8)
 ·obtain ⟨x,hx,e⟩:=h
  rw [at_mem hs hx e,at_mem (need_srt hs no) (need_mem.2 (.inl hx)) e]
 ·rw [atL_none h]
  by_cases h2 : p / 8=no
  ·rw [at_mem (need_srt hs no) (need_mem.2 (.inr ⟨h2 ▸ h,rfl⟩)) h2.symm]
   have : (p % 8).toNat < 8:=by omega
   simp only [newE]
   rw [List.getD_eq_getElem?_getD,List.getElem?_replicate,if_pos this]; rfl
  ·exact atL_none (fun h3 => (need_has.1 h3).elim h h2)
theorem need_pos {l : List Ext} (hs : srt l) (no : Int) : posL (needL l no) no=posL l no:=by
 unfold needL
 split
 ·rfl
 ·rename_i h
  have hp:=posL_le l no
  refine posL_eq (by simp; omega) ?_ ?_
  ·intro m x hm hx
   rw [List.getElem?_append_left (by rw [List.length_take]; omega),List.getElem?_take,if_pos hm] at hx
   exact posL_lt hm hx
  ·intro x hx
   rw [List.getElem?_append_right (by rw [List.length_take]; omega),List.length_take,show posL l no - min (posL l no) l.length=0 by omega] at hx
   simp at hx; rw [← hx]; simp [newE]
theorem need_get {l : List Ext} (hs : srt l) (no : Int) : ∃ x,(needL l no)[posL l no]? = some x∧x.no=no:=by
 have:=(hasL_iff (need_srt hs no) (no:=no)).1 (need_has.2 (.inr rfl))
 rwa [need_pos hs] at this
theorem need_len (l : List Ext) (no : Int) : (needL l no).length≤l.length + 1∧l.length≤(needL l no).length:=by
 have hp:=posL_le l no
 unfold needL
 split
 ·omega
 ·simp; omega
def putE (x : Ext) (off : Nat) (bs : List UInt8) : Ext:=if h : off + bs.length≤8 then ⟨x.no,x.b.take off ++ bs ++ x.b.drop (off + bs.length),by have:=x.hb; simp; omega⟩ else x
theorem putE_no (x : Ext) (off : Nat) (bs : List UInt8) : (putE x off bs).no=x.no:=by unfold putE; split <;> rfl
theorem putE_b {x : Ext} {off : Nat} {bs : List UInt8} (h : off + bs.length≤8) : (putE x off bs).b=x.b.take off ++ bs ++ x.b.drop (off + bs.length):=by unfold putE; rw [dif_pos h]
theorem putE_get {x : Ext} {off : Nat} {bs : List UInt8} (h : off + bs.length≤8) {k : Nat} (hk : k < 8) : (putE x off bs).b.getD k 0=if off≤k∧k < off + bs.length then bs.getD (k - off) 0 else x.b.getD k 0:=by
 have hb:=x.hb
 have h1 : (x.b.take off).length=off:=by rw [List.length_take]; omega
 rw [putE_b h]
 simp only [List.getD_eq_getElem?_getD]
 split
 ·rename_i c
  rw [List.getElem?_append_left (by rw [List.length_append]; omega),List.getElem?_append_right (by omega),h1]
 ·rename_i c
  by_cases c1 : k < off
  ·rw [List.append_assoc,List.getElem?_append_left (by omega),List.getElem?_take,if_pos c1]
  ·rw [List.getElem?_append_right (by rw [List.length_append]; omega),List.length_append,h1,List.getElem?_drop]
   congr 2; omega
def putL (l : List Ext) (no : Int) (off : Nat) (bs : List UInt8) : List Ext:=l.map fun x => if x.no=no then putE x off bs else x
theorem put_no (no : Int) (off : Nat) (bs : List UInt8) (x : Ext) : (if x.no=no then putE x off bs else x).no=x.no:=by split; exact putE_no ..; rfl
theorem srt_map {l : List Ext} {f : Ext→Ext} (hf : ∀ x ∈ l,(f x).no=x.no) (hs : srt l) : srt (l.map f):=by
 unfold srt at *
 rw [List.pairwise_map]
 refine hs.imp_of_mem fun ha hb h => ?_
 rw [hf _ ha,hf _ hb]; exact h
theorem map_has {l : List Ext} {f : Ext→Ext} (hf : ∀ x ∈ l,(f x).no=x.no) {no : Int} : hasL (l.map f) no ↔ hasL l no:=by
 unfold hasL
 constructor
 ·rintro ⟨y,hy,e⟩
  obtain ⟨x,hx,rfl⟩:=List.mem_map.1 hy
  exact ⟨x,hx,by rw [← e,hf x hx]⟩
 ·rintro ⟨x,hx,e⟩
  exact ⟨f x,List.mem_map.2 ⟨x,hx,rfl⟩,by rw [← e,hf x hx]⟩
theorem put_srt {l : List Ext} (hs : srt l) (no : Int) (off : Nat) (bs : List UInt8) : srt (putL l no off bs):=srt_map (fun x _ => put_no ..) hs
theorem put_has {l : List Ext} {no a : Int} {off : Nat} {bs : List UInt8} : hasL (putL l no off bs) a ↔ hasL l a:=map_has (fun x _ => put_no ..)
theorem put_at {l : List Ext} (hs : srt l) {no : Int} {off : Nat} {bs : List UInt8} (h : off + bs.length≤8) (hn : hasL l no) (p : Int) :
  atL (putL l no off bs) p=if no * 8 + off≤p∧p < no * 8 + off + bs.length then bs.getD (p - (no * 8 + off)).toNat 0 else atL l p:=by
 by_cases h0 : hasL l (p / 8)
 ·obtain ⟨x,hx,e⟩:=h0
  rw [at_mem (x:=if x.no=no then putE x off bs else x) (put_srt hs no off bs) (List.mem_map.2 ⟨x,hx,rfl⟩) (by rw [put_no]; exact e),at_mem hs hx e]
  by_cases c : x.no=no
  ·rw [if_pos c,putE_get h (by omega)]
   by_cases c2 : no * 8 + off≤p∧p < no * 8 + off + bs.length
   ·rw [if_pos c2,if_pos (by omega)]; congr 1; omega
   ·rw [if_neg c2,if_neg (by omega)]
  ·rw [if_neg c,if_neg (by omega)]
 ·rw [atL_none (by rw [put_has]; exact h0),atL_none h0,if_neg]
  intro c
  have : p / 8=no:=by omega
  exact h0 (this ▸ hn)
theorem put_set {l : List Ext} (hs : srt l) {k : Nat} {x : Ext} (hx : l[k]? = some x) (off : Nat) (bs : List UInt8) : l.set k (putE x off bs)=putL l x.no off bs:=by
 refine List.ext_getElem? fun i => ?_
 unfold putL
 rw [List.getElem?_map,List.getElem?_set]
 have hk:=(List.getElem?_eq_some_iff.1 hx).1
 by_cases h : k=i
 ·subst h
  obtain ⟨h1,h2⟩:=List.getElem?_eq_some_iff.1 hx
  simp [hk,h2]
 ·rw [if_neg h]
  cases hi : l[i]? with
  | none => rfl
  | some y =>
   have : y.no ≠ x.no:=by
    rcases Nat.lt_or_gt_of_ne h with h | h
    ·have:=srt_get hs hx hi h; omega
    ·have:=srt_get hs hi hx h; omega
   simp [this]
def needPut (l : List Ext) (p : Int) (bs : List UInt8) : List Ext:=putL (needL l (p / 8)) (p / 8) (p % 8).toNat bs
theorem np_srt {l : List Ext} (hs : srt l) (p : Int) (bs : List UInt8) : srt (needPut l p bs):=put_srt (need_srt hs _) ..
theorem np_has {l : List Ext} {p a : Int} {bs : List UInt8} : hasL (needPut l p bs) a ↔ hasL l a∨a=p / 8:=by unfold needPut; rw [put_has,need_has]
theorem np_at {l : List Ext} (hs : srt l) {p : Int} {bs : List UInt8} (h : p % 8 + bs.length≤8) (q : Int) : atL (needPut l p bs) q=if p≤q∧q < p + bs.length then bs.getD (q - p).toNat 0 else atL l q:=by
 unfold needPut
 rw [put_at (need_srt hs _) (by omega) (need_has.2 (.inr rfl)),need_at hs,show p / 8 * 8 + ((p % 8).toNat : Int)=p by omega]
def writeL (l : List Ext) (p : Int) : List UInt8→List Ext
 | [] => l
 | b :: r => writeL (needPut l p [b]) (p + 1) r
theorem wr_srt : ∀ {bs : List UInt8} {l : List Ext} (hs : srt l) (p : Int),srt (writeL l p bs)
 | [],l,hs,p => hs
 | b :: r,l,hs,p => wr_srt (np_srt hs p [b]) (p + 1)
theorem wr_has : ∀ {bs : List UInt8} {l : List Ext} {p a : Int},hasL (writeL l p bs) a ↔ hasL l a∨∃ q,p≤q∧q < p + bs.length∧a=q / 8
 | [],l,p,a => by
  unfold writeL
  simp only [List.length_nil]
  exact ⟨.inl,fun h => h.elim id fun ⟨q,h1,h2,_⟩ => by omega⟩
 | b :: r,l,p,a => by
  unfold writeL
  rw [wr_has,np_has]
  simp only [List.length_cons]
  constructor
  ·rintro ((h | h) | ⟨q,h1,h2,h3⟩)
   ·exact .inl h
   ·exact .inr ⟨p,by omega,by omega,h⟩
   ·exact .inr ⟨q,by omega,by omega,h3⟩
  ·rintro (h | ⟨q,h1,h2,h3⟩)
   ·exact .inl (.inl h)
   ·by_cases c : q=p
    ·exact .inl (.inr (c ▸ h3))
    ·exact .inr ⟨q,by omega,by omega,h3⟩
theorem wr_at : ∀ {bs : List UInt8} {l : List Ext} (hs : srt l) (p q : Int),atL (writeL l p bs) q=if p≤q∧q < p + bs.length then bs.getD (q - p).toNat 0 else atL l q
 | [],l,hs,p,q => by
  unfold writeL
  rw [if_neg (by simp only [List.length_nil]; omega)]
 | b :: r,l,hs,p,q => by
  unfold writeL
  rw [wr_at (np_srt hs p [b]),np_at hs (by simp only [List.length_cons,List.length_nil]; omega)]
  simp only [List.length_cons,List.length_nil]
  by_cases c : p + 1≤q∧q < p + 1 + r.length
  ·rw [if_pos c,if_pos (by omega),show (q - p).toNat=(q - (p + 1)).toNat + 1 by omega]; rfl
  ·rw [if_neg c]
   by_cases c2 : p=q
   ·subst c2
    rw [if_pos (by omega),if_pos (by omega)]; simp
   ·rw [if_neg (by omega),if_neg (by omega)]
theorem wr_app : ∀ {bs cs : List UInt8} {l : List Ext} {p : Int},writeL l p (bs ++ cs)=writeL (writeL l p bs) (p + bs.length) cs
 | [],cs,l,p => by simp [writeL]
 | b :: r,cs,l,p => by
  show writeL (needPut l p [b]) (p + 1) (r ++ cs)=writeL (writeL (needPut l p [b]) (p + 1) r) (p + (r.length + 1 : Nat)) cs
  rw [wr_app]; congr 1; omega
theorem wr_one {l : List Ext} (hs : srt l) {p : Int} {bs : List UInt8} (h : p % 8 + bs.length≤8) (hb : bs ≠ []) : needPut l p bs=writeL l p bs:=by
 have hlen : 0 < bs.length:=List.length_pos_iff.2 hb
 refine srt_ext (np_srt hs p bs) (wr_srt hs p) (fun a => ?_) (fun q => ?_)
 ·rw [np_has,wr_has]
  refine or_congr_right ⟨fun h1 => ⟨p,by omega,by omega,h1⟩, ?_⟩
  rintro ⟨q,h1,h2,rfl⟩; omega
 ·rw [np_at hs h,wr_at hs]
theorem wr_len : ∀ {bs : List UInt8} {l : List Ext} {p : Int},(writeL l p bs).length≤l.length + bs.length
 | [],l,p => by simp [writeL]
 | b :: r,l,p => by
  unfold writeL
  have h1:=wr_len (bs:=r) (l:=needPut l p [b]) (p:=p + 1)
  have h2 : (needPut l p [b]).length=(needL l (p / 8)).length:=by simp [needPut,putL]
  have h3:=(need_len l (p / 8)).1
  simp only [List.length_cons]; omega
theorem cleanB_iff {size : Int} : ∀ {b : List UInt8} {p : Int},cleanB size p b ↔ ∀ k : Nat,k < b.length→size≤p + k→b.getD k 0=0
 | [],p => by simp [cleanB]
 | x :: r,p => by
  unfold cleanB
  rw [cleanB_iff]
  constructor
  ·rintro ⟨h1,h2⟩ k hk hs
   cases k with
   | zero =>
    simp
    by_cases c : x=0
    ·exact c
    ·have:=h1 c; omega
   | succ k =>
    have:=h2 k (by simpa using hk) (by omega)
    simpa using this
  ·intro h
   refine ⟨fun hx => ?_,fun k hk hs => ?_⟩
   ·have:=h 0 (by simp)
    simp at this
    by_cases c : p < size
    ·exact c
    ·exact absurd (this (by omega)) hx
   ·have:=h (k + 1) (by simpa using hk) (by omega)
    simpa using this
theorem cleanE_iff {size : Int} {x : Ext} : cleanE size x ↔ ∀ k : Nat,k < 8→size≤x.no * 8 + k→x.b.getD k 0=0:=by
 have:=cleanB_iff (size:=size) (b:=x.b) (p:=x.no * 8)
 rw [x.hb] at this; exact this
theorem okL_iff {size : Int} : ∀ {l : List Ext} {p : Int},okL size p l ↔ srt l∧∀ x ∈ l,p < x.no∧x.no < 137438953472∧cleanE size x
 | [],p => by simp [okL,srt]
 | x :: r,p => by
  rw [okL_cons,okL_iff]
  constructor
  ·rintro ⟨h1,h2,h3,h4,h5⟩
   refine ⟨List.pairwise_cons.2 ⟨fun y hy => (h5 y hy).1,h4⟩,fun y hy => ?_⟩
   rcases List.mem_cons.1 hy with rfl | hy
   ·exact ⟨h1,h2,h3⟩
   ·have:=h5 y hy; exact ⟨by omega,this.2⟩
  ·rintro ⟨h1,h2⟩
   have h1':=List.pairwise_cons.1 h1
   have h3:=h2 x (by simp)
   refine ⟨h3.1,h3.2.1,h3.2.2,h1'.2,fun y hy => ?_⟩
   have:=h2 y (by simp [hy])
   exact ⟨h1'.1 y hy,this.2⟩
theorem okL_at {size : Int} {l : List Ext} : okL size (-1) l ↔ srt l∧(∀ no,hasL l no→0≤no∧no < 137438953472)∧∀ p,size≤p→atL l p=0:=by
 rw [okL_iff]
 constructor
 ·rintro ⟨hs,h⟩
  refine ⟨hs, ?_,fun p hp => ?_⟩
  ·rintro no ⟨x,hx,rfl⟩
   have:=h x hx; omega
  ·by_cases c : hasL l (p / 8)
   ·obtain ⟨x,hx,e⟩:=c
    rw [at_mem hs hx e]
    exact cleanE_iff.1 (h x hx).2.2 _ (by omega) (by omega)
   ·exact atL_none c
 ·rintro ⟨hs,h1,h2⟩
  refine ⟨hs,fun x hx => ?_⟩
  have:=h1 x.no ⟨x,hx,rfl⟩
  refine ⟨by omega,this.2,cleanE_iff.2 fun k hk hz => ?_⟩
  rw [← at_blk hs hx hk]; exact h2 _ hz
def wipeE (x : Ext) (a b : Int) : Ext:=⟨x.no,x.b.mapIdx fun k y => if a≤x.no * 8 + (k : Int)∧x.no * 8 + (k : Int) < b then 0 else y,by have:=x.hb; simpa using this⟩
theorem wipeE_get {x : Ext} {a b : Int} {k : Nat} (hk : k < 8) : (wipeE x a b).b.getD k 0=if a≤x.no * 8 + (k : Int)∧x.no * 8 + (k : Int) < b then 0 else x.b.getD k 0:=by
 have hb:=x.hb
 unfold wipeE
 simp only [List.getD_eq_getElem?_getD,List.getElem?_mapIdx]
 rw [List.getElem?_eq_getElem (show k < x.b.length by omega)]
 rfl
def wipeL (l : List Ext) (a b : Int) : List Ext:=l.map fun x => wipeE x a b
theorem wipe_srt {l : List Ext} (hs : srt l) (a b : Int) : srt (wipeL l a b):=srt_map (fun _ _ => rfl) hs
theorem wipe_has {l : List Ext} {a b no : Int} : hasL (wipeL l a b) no ↔ hasL l no:=map_has (f:=fun x => wipeE x a b) (fun _ _ => rfl)
theorem wipe_at {l : List Ext} (hs : srt l) (a b p : Int) : atL (wipeL l a b) p=if a≤p∧p < b then 0 else atL l p:=by
 by_cases h : hasL l (p / 8)
 ·obtain ⟨x,hx,e⟩:=h
  rw [at_mem (x:=wipeE x a b) (wipe_srt hs a b) (List.mem_map.2 ⟨x,hx,rfl⟩) e,at_mem hs hx e,wipeE_get (by omega)]
  rw [show x.no * 8 + ((p % 8).toNat : Int)=p by omega]
 ·rw [atL_none h,atL_none (by rw [wipe_has]; exact h)]; split <;> rfl
theorem filter_srt {l : List Ext} (hs : srt l) (f : Ext→Bool) : srt (l.filter f):=List.Pairwise.filter f hs
theorem filter_has {l : List Ext} {f : Int→Bool} {no : Int} : hasL (l.filter fun x => f x.no) no ↔ hasL l no∧f no=true:=by
 unfold hasL
 constructor
 ·rintro ⟨x,hx,rfl⟩
  rw [List.mem_filter] at hx
  exact ⟨⟨x,hx.1,rfl⟩,hx.2⟩
 ·rintro ⟨⟨x,hx,rfl⟩,h⟩
  exact ⟨x,List.mem_filter.2 ⟨hx,h⟩,rfl⟩
theorem filter_at {l : List Ext} (hs : srt l) {f : Int→Bool} (p : Int) : atL (l.filter fun x => f x.no) p=if f (p / 8)=true then atL l p else 0:=by
 by_cases h : hasL l (p / 8)
 ·obtain ⟨x,hx,e⟩:=h
  split
  ·rename_i c
   rw [at_mem (filter_srt hs _) (List.mem_filter.2 ⟨hx,by rw [e]; exact c⟩) e,at_mem hs hx e]
  ·rename_i c
   exact atL_none (fun h2 => c (filter_has.1 h2).2)
 ·rw [atL_none h,atL_none (fun h2 => h (filter_has.1 h2).1)]; split <;> rfl
def truncL (l : List Ext) (size : Int) : List Ext:=wipeL (l.filter fun x => decide (x.no * 8 < size)) size 1099511627776
theorem tr_srt {l : List Ext} (hs : srt l) (size : Int) : srt (truncL l size):=wipe_srt (filter_srt hs _) _ _
theorem tr_has {l : List Ext} {size no : Int} : hasL (truncL l size) no ↔ hasL l no∧no * 8 < size:=by
 unfold truncL
 rw [wipe_has,filter_has (f:=fun no => decide (no * 8 < size))]; simp
theorem tr_at {l : List Ext} (hs : srt l) {size : Int} (h : ∀ no,hasL l no→no < 137438953472) (p : Int) : atL (truncL l size) p=if p < size then atL l p else 0:=by
 unfold truncL
 rw [wipe_at (filter_srt hs _),filter_at hs (f:=fun no => decide (no * 8 < size))]
 by_cases c : p < size
 ·rw [if_neg (by omega),if_pos c,if_pos (by simp; omega)]
 ·rw [if_neg c]
  by_cases c2 : p < 1099511627776
  ·rw [if_pos ⟨by omega,c2⟩]
  ·rw [if_neg (by omega),atL_none]
   ·split <;> rfl
   ·intro h2; have:=h _ h2; omega
def gone (pos n no : Int) : Bool:=decide (pos≤no * 8) && decide (no * 8 + 8≤pos + n)
def punchL (l : List Ext) (pos n : Int) : List Ext:=wipeL (l.filter fun x => !gone pos n x.no) pos (pos + n)
theorem pu_srt {l : List Ext} (hs : srt l) (pos n : Int) : srt (punchL l pos n):=wipe_srt (filter_srt hs _) _ _
theorem pu_has {l : List Ext} {pos n no : Int} : hasL (punchL l pos n) no ↔ hasL l no∧¬ (pos≤no * 8∧no * 8 + 8≤pos + n):=by
 unfold punchL
 rw [wipe_has,filter_has (f:=fun no => !gone pos n no)]; simp [gone]; intro _; omega
theorem pu_at {l : List Ext} (hs : srt l) (pos n p : Int) : atL (punchL l pos n) p=if pos≤p∧p < pos + n then 0 else atL l p:=by
 unfold punchL
 rw [wipe_at (filter_srt hs _),filter_at hs (f:=fun no => !gone pos n no)]
 split
 ·rfl
 ·rename_i c
  split
  ·rfl
  ·rename_i c2
   simp [gone] at c2
   omega
def needs (l : List Ext) (no : Int) : Nat→List Ext
 | 0 => l
 | k + 1 => needs (needL l no) (no + 1) k
theorem ns_srt : ∀ {k : Nat} {l : List Ext} (hs : srt l) (no : Int),srt (needs l no k)
 | 0,l,hs,no => hs
 | k + 1,l,hs,no => ns_srt (k:=k) (need_srt hs no) (no + 1)
theorem ns_has : ∀ {k : Nat} {l : List Ext} {no a : Int},hasL (needs l no k) a ↔ hasL l a∨(no≤a∧a < no + k)
 | 0,l,no,a => by unfold needs; exact ⟨.inl,fun h => h.elim id fun h => by omega⟩
 | k + 1,l,no,a => by
  unfold needs
  rw [ns_has,need_has]
  constructor
  ·rintro ((h | h) | h)
   ·exact .inl h
   ·exact .inr (by omega)
   ·exact .inr (by omega)
  ·rintro (h | h)
   ·exact .inl (.inl h)
   ·by_cases c : a=no
    ·exact .inl (.inr c)
    ·exact .inr (by omega)
theorem ns_at : ∀ {k : Nat} {l : List Ext} (hs : srt l) (no p : Int),atL (needs l no k) p=atL l p
 | 0,l,hs,no,p => rfl
 | k + 1,l,hs,no,p => by
  unfold needs
  rw [ns_at (need_srt hs no),need_at hs]
theorem ns_succ : ∀ {k : Nat} {l : List Ext} {no : Int},needs l no (k + 1)=needL (needs l no k) (no + k)
 | 0,l,no => by simp [needs]
 | k + 1,l,no => by
  show needs (needL l no) (no + 1) (k + 1)=_
  rw [ns_succ (k:=k)]
  show needL (needs (needL l no) (no + 1) k) (no + 1 + k)=needL (needs (needL l no) (no + 1) k) (no + (k + 1 : Nat))
  congr 1; omega
theorem ns_len : ∀ {k : Nat} {l : List Ext} {no : Int},(needs l no k).length≤l.length + k∧l.length≤(needs l no k).length
 | 0,l,no => by simp [needs]
 | k + 1,l,no => by
  unfold needs
  have h1:=ns_len (k:=k) (l:=needL l no) (no:=no + 1)
  have h2:=need_len l no
  omega
def allocN (pos n : Int) : Nat:=((pos + n - 1) / 8 - pos / 8 + 1).toNat
def allocL (l : List Ext) (pos n : Int) : List Ext:=needs l (pos / 8) (allocN pos n)
abbrev Cont:=Int × List Ext
def writeC (c : Cont) (pos : Int) (bs : List UInt8) : Option Cont :=
 if mayC c.1 c.2∧0≤pos∧bs.length≤4096∧pos≤1099511627776 - bs.length then some (if bs=[] then c else (max c.1 (pos + bs.length),writeL c.2 pos bs)) else none
def truncC (c : Cont) (size : Int) : Option Cont:=if mayC c.1 c.2∧0≤size∧size≤1099511627776 then some (size,truncL c.2 size) else none
def allocC (c : Cont) (pos n : Int) (keep : Bool) : Option Cont :=
 if mayC c.1 c.2∧0≤pos∧1≤n∧n≤32768∧pos≤1099511627776 - n then some (if keep then c.1 else max c.1 (pos + n),allocL c.2 pos n) else none
def punchC (c : Cont) (pos n : Int) : Option Cont :=
 if mayC c.1 c.2∧0≤pos∧1≤n∧n≤1099511627776∧pos≤1099511627776 - n then some (c.1,punchL c.2 pos n) else none
theorem may_at {size : Int} {l : List Ext} : mayC size l ↔ 0≤size∧size≤1099511627776∧srt l∧(∀ no,hasL l no→0≤no∧no < 137438953472)∧∀ p,size≤p→atL l p=0:=by
 unfold mayC; rw [okL_at]
theorem may_write {c d : Cont} {pos : Int} {bs : List UInt8} (h : writeC c pos bs=some d) : mayC d.1 d.2:=by
 unfold writeC at h
 split at h
 ·rename_i g
  injection h with h
  subst h
  split
  ·exact g.1
  ·rename_i hb
   have hlen : 0 < bs.length:=List.length_pos_iff.2 hb
   obtain ⟨g1,g2,g3,g4⟩:=g
   rw [may_at] at g1 ⊢
   obtain ⟨a1,a2,a3,a4,a5⟩:=g1
   refine ⟨by simp only; omega,by simp only; omega,wr_srt a3 pos, ?_, ?_⟩
   ·intro no hno
    rcases wr_has.1 hno with h | ⟨q,h1,h2,h3⟩
    ·exact a4 no h
    ·omega
   ·intro p hp
    simp only at hp
    rw [wr_at a3,if_neg (by omega)]
    exact a5 p (by omega)
 ·cases h
theorem may_trunc {c d : Cont} {size : Int} (h : truncC c size=some d) : mayC d.1 d.2:=by
 unfold truncC at h
 split at h
 ·rename_i g
  injection h with h
  subst h
  obtain ⟨g1,g2,g3⟩:=g
  rw [may_at] at g1 ⊢
  obtain ⟨a1,a2,a3,a4,a5⟩:=g1
  refine ⟨g2,g3,tr_srt a3 size,fun no hno => a4 no (tr_has.1 hno).1,fun p hp => ?_⟩
  rw [tr_at a3 (fun no h => (a4 no h).2),if_neg (by simp only at hp; omega)]
 ·cases h
theorem may_alloc {c d : Cont} {pos n : Int} {keep : Bool} (h : allocC c pos n keep=some d) : mayC d.1 d.2:=by
 unfold allocC at h
 split at h
 ·rename_i g
  injection h with h
  subst h
  obtain ⟨g1,g2,g3,g4,g5⟩:=g
  rw [may_at] at g1 ⊢
  obtain ⟨a1,a2,a3,a4,a5⟩:=g1
  refine ⟨by simp only; split <;> omega,by simp only; split <;> omega,ns_srt a3 _,fun no hno => ?_,fun p hp => ?_⟩
  ·rcases ns_has.1 hno with h | h
   ·exact a4 no h
   ·unfold allocN at h; omega
  ·unfold allocL
   rw [ns_at a3]
   refine a5 p ?_
   simp only at hp
   split at hp <;> omega
 ·cases h
theorem may_punch {c d : Cont} {pos n : Int} (h : punchC c pos n=some d) : mayC d.1 d.2:=by
 unfold punchC at h
 split at h
 ·rename_i g
  injection h with h
  subst h
  obtain ⟨g1,g2,g3,g4,g5⟩:=g
  rw [may_at] at g1 ⊢
  obtain ⟨a1,a2,a3,a4,a5⟩:=g1
  refine ⟨a1,a2,pu_srt a3 _ _,fun no hno => a4 no (pu_has.1 hno).1,fun p hp => ?_⟩
  rw [pu_at a3]
  split
  ·rfl
  ·exact a5 p hp
 ·cases h
end Go.Proofs.YtlbilcpnjgkpjaaGreat.Av
end
section
namespace Go.Proofs.YtlbilcpnjgkpjaaGreat.Av
open Go Go.RowKit
theorem zpZ {v : AV} (h : ownedS v=true) : oneA v=true:=by
 unfold ownedS at h
 split at h
 ·rfl
 ·rfl
 ·rfl
 ·cases h
theorem flat_take {α : Type} {enc : α→List AV} {sz : Nat} (hsz : ∀ x,(enc x).length=sz) : ∀ (l : List α) (i : Nat),(l.flatMap enc).take (i * sz)=(l.take i).flatMap enc
 | [],i => by simp
 | a :: l,0 => by simp
 | a :: l,i + 1 => by
  have ha:=hsz a
  rw [List.take_succ_cons,List.flatMap_cons,List.flatMap_cons,← flat_take hsz l i,show (i + 1) * sz=(enc a).length + i * sz by rw [ha,Nat.succ_mul]; omega,List.take_length_add_append]
theorem flat_drop {α : Type} {enc : α→List AV} {sz : Nat} (hsz : ∀ x,(enc x).length=sz) : ∀ (l : List α) (i : Nat),(l.flatMap enc).drop (i * sz)=(l.drop i).flatMap enc
 | [],i => by simp
 | a :: l,0 => by simp
 | a :: l,i + 1 => by
  have ha:=hsz a
  rw [List.drop_succ_cons,List.flatMap_cons,← flat_drop hsz l i,show (i + 1) * sz=(enc a).length + i * sz by rw [ha,Nat.succ_mul]; omega,List.drop_length_add_append]
def Grew (H H' : AH) : Prop:=H.length≤H'.length∧∀ i,i < H.length→H'[i]? = H[i]?
theorem Grew.refl (H : AH) : Grew H H:=⟨Nat.le_refl _,fun _ _ => rfl⟩
theorem Grew.trans {A B C : AH} (h : Grew A B) (k : Grew B C) : Grew A C:=⟨Nat.le_trans h.1 k.1,fun i hi => (k.2 i (Nat.lt_of_lt_of_le hi h.1)).trans (h.2 i hi)⟩
theorem Grew.app (H X : AH) : Grew H (H ++ X):=⟨by simp,fun i hi => List.getElem?_append_left hi⟩
theorem Grew.cells {H H' : AH} (h : Grew H H') {o : Nat} {x : Option AObj} (ho : H[o]? = some x) : H'[o]? = some x:=by
 rw [h.2 o (List.getElem?_eq_some_iff.1 ho).1]; exact ho
theorem Grew.slice {H H' : AH} (h : Grew H H') {sz : Nat} {v : AV} {q : List AV × Nat} (hv : zaZ H sz v=some q) : zaZ H' sz v=some q :=
 zbZ hv fun i hi => h.2 i (zcZ hv i hi)
theorem nilS_slice {H : AH} {sz : Nat} {v : AV} {cs : List AV} {n : Nat} (h : zaZ H sz v=some (cs,n)) : (v=nilSl∧cs=[]∧n=0)∨abN .eql nilS v nilSl=some (B false):=by
 unfold zaZ at h
 split at h
 ·exact .inr rfl
 ·exact .inr rfl
 ·injection h with h; injection h with h1 h2; exact .inl ⟨rfl,h1.symm,h2.symm⟩
 ·exact .inr rfl
 ·cases h
theorem ext_Clone_c {H : AH} {v : AV} {cs : List AV} {n : Nat} (h : zaZ H 9 v=some (cs,n)) (hn : n≤1000000000) :
  ∃ r H',(ownedS r=true∧zaZ H' 9 r=some (cs,n)∧Grew H H'∧∀ i ∈ idS r,H.length≤i)∧BCall Tryz.prog 90 [v] H r H':=zipZ (by
 unfold zcvZ
 rcases nilS_slice h with ⟨rfl,rfl,rfl⟩ | hb
 ·have e : abN .eql nilS nilSl nilSl=some (B true):=rfl
  simp only [e,bO_some,bB_bool,bI_true]
  exact ⟨rfl,h,Grew.refl H,by simp [idS]⟩
 ·simp only [hb,bO_some,bB_bool,zlZ]
  have e : absl H 9 0 (zrow [(.lit (.int .i64 0)),(.lit (.int .u8 0)),(.lit (.int .u8 0)),(.lit (.int .u8 0)),(.lit (.int .u8 0)),(.lit (.int .u8 0)),(.lit (.int .u8 0)),(.lit (.int .u8 0)),(.lit (.int .u8 0))] 0) []=some (.sl H.length 0 0 9 (.ex 0),H ++ [some (.cells [])]):=rfl
  simp only [e,bH_some]
  have g:=Grew.app H [some (.cells [])]
  obtain ⟨r,H2,a1,a2,a3,a4,a5,a6⟩:=zjcZ (sz:=9) (bytes:=16) (H:=H ++ [some (.cells [])]) (v:=.sl H.length 0 0 9 (.ex 0)) (cs:=[]) (n:=0) (by simp [zaZ]) rfl (zjZ (g.slice h)) (by omega)
  simp only [a1,bH_some]
  refine ⟨a2,by simpa using a3,⟨by simp at a4; omega,fun i hi => ?_⟩,fun i hi => ?_⟩
  ·rw [a5 i (by simp; omega) (by simp [idS]; omega)]
   exact g.2 i hi
  ·rcases a6 i hi with h | h
   ·simp [idS] at h; omega
   ·simp at h; omega)
theorem copied_c {H : AH} {size : Int} {v : AV} {cs : List AV} {n : Nat} (h : zaZ H 9 v=some (cs,n)) (h1 : oneA v=true) (hn : n≤1000000000) :
  ∃ r H',(∃ w,r = .agg [I size,w]∧ownedS w=true∧zaZ H' 9 w=some (cs,n)∧Grew H H'∧∀ i ∈ idS w,H.length≤i)∧BCall Tryz.prog 68 [.agg [I size,v]] H r H':=extent_copied_ok (by
 unfold extent_copied
 have g:=Grew.app H [some (.cells [I size,v]),some (.cells [I 0,nilSl])]
 obtain ⟨w,H2,⟨a2,a3,a4,a5⟩,a1⟩:=ext_Clone_c (g.slice h) hn
 have c0:=a4.cells (o:=H.length) (x:=some (.cells [I size,v])) (by simp)
 have c1:=a4.cells (o:=H.length + 1) (x:=some (.cells [I 0,nilSl])) (by rw [List.getElem?_append_right (by omega)]; simp)
 have l2 : H.length + 2≤H2.length:=by have:=a4.1; simpa using this
 have hw:=zpZ a2
 simp [h1]
 refine bC_of a1 ?_
 simp [zbuZ hw]
 rw [ast_ptr (n:=2) (off:=0) (x:=.agg [I size,w]) (xs:=[I size,w]) (cs:=[I 0,nilSl]) (by simp [hw]) c1 rfl (by simp)]
 simp [show H.length + 1 < H2.length by omega,c0,rdCells]
 refine ⟨a2,zbZ a3 fun i hi => List.getElem?_set_ne ?_, ?_,fun i hi => ?_⟩
 ·have:=a5 i hi; simp at this; omega
 ·refine ⟨by simp; omega,fun i hi => ?_⟩
  rw [List.getElem?_set_ne (by omega),a4.2 i (by simp; omega),g.2 i hi]
 ·have:=a5 i hi; simp at this; omega)
theorem insE_ok {H : AH} {s : AV} {cs : List AV} {n ov i : Nat} {x : Ext} (hs : zaZ H 9 s=some (cs,n)) (ho : ownedS s=true) (hi : i≤n) (hn : n≤100000000) (hv : H[ov]? = some (some (.cells (encE x)))) (hne : ov ∉ idS s) :
  ∃ r H',InsP H s (cs.take (i * 9) ++ encE x ++ cs.drop (i * 9)) n r H'∧BCall Tryz.prog 119 [s,I i,.sl ov 0 1 9 (.ex 1)] H r H':=by
 have hcl:=zbwZ hs
 rcases Nat.lt_or_ge i n with h | h
 ·obtain ⟨o,off,cap,cells,rfl,h1,h2,rfl⟩:=owned_sl hs ho (by omega)
  have hov : ov ≠ o:=by simpa [idS] using hne
  have hol:=(List.getElem?_eq_some_iff.1 h1).1
  have hxl:=zcbZ x
  have e1 : ((cells.drop off).take (n * 9)).take (i * 9)=(cells.drop off).take (i * 9):=by rw [List.take_take]; congr 1; omega
  have e2 : ((cells.drop off).take (n * 9)).drop (i * 9)=(cells.drop (off + i * 9)).take ((n - i) * 9):=by rw [List.drop_take,List.drop_drop]; congr 1; omega
  refine ⟨_,_, ?_,insE_mid h1 h2 h hn hv hov⟩
  rw [e1,e2]
  refine ⟨rfl, ?_,by simp,fun j hj hn => ?_,fun j hj => .inr (by simp [idS] at hj; omega)⟩
  ·rw [zbdZ (c:=(cells.drop off).take (i * 9) ++ encE x ++ (cells.drop (off + i * 9)).take ((n - i) * 9)) (by rw [List.getElem?_append_right (by simp)]; simp) (by simp; omega)]
   rw [List.drop_zero,List.take_of_length_le (by simp; omega)]
  ·rw [List.getElem?_append_left (by simpa using hj),List.getElem?_set_ne (by simp [idS] at hn; omega)]
 ·have : i=n:=by omega
  subst this
  obtain ⟨r,H',h1,h2⟩:=insE_end hs ho hn hv
  refine ⟨r,H', ?_,h2⟩
  rw [List.take_of_length_le (by omega),List.drop_of_length_le (by omega),List.append_nil]
  exact h1
def ContP (H : AH) (oc : Nat) (size : Int) (v : AV) (l : List Ext) (H' : AH) : Prop :=
 ∃ v',H'[oc]? = some (some (.cells [I size,v']))∧zaZ H' 9 v'=some (l.flatMap encE,l.length)∧ownedS v'=true∧oc ∉ idS v'∧H.length≤H'.length∧(∀ i,i < H.length→i ≠ oc→i ∉ idS v→H'[i]? = H[i]?)∧∀ i ∈ idS v',i ∈ idS v∨H.length≤i
theorem encE_new (no : Int) : encE (newE no)=[I no,.lit (.int .u8 0),.lit (.int .u8 0),.lit (.int .u8 0),.lit (.int .u8 0),.lit (.int .u8 0),.lit (.int .u8 0),.lit (.int .u8 0),.lit (.int .u8 0)]:=rfl
theorem extent_need_c' {H : AH} {oc : Nat} {size no : Int} {v : AV} {l : List Ext} (hc : H[oc]? = some (some (.cells [I size,v]))) (hv : zaZ H 9 v=some (l.flatMap encE,l.length)) (ho : ownedS v=true) (hne : oc ∉ idS v) (hs : srt l) (hl : l.length≤100000000) :
  ∃ H',ContP H oc size v (needL l no) H'∧BCall Tryz.prog 109 [.ptr oc 0,I no] H (I (posL l no)) H':=by
 have key : ∃ r H',(r=I (posL l no)∧ContP H oc size v (needL l no) H')∧BCall Tryz.prog 109 [.ptr oc 0,I no] H r H':=extent_need_ok (by
  unfold extent_need
  have hol:=(List.getElem?_eq_some_iff.1 hc).1
  obtain ⟨R,hR,fR⟩:=FZ.sv hv (zgiZ fun x _ => zluZ x)
  have h1:=zpZ ho
  simp [hc]
  refine bP_of (PCall.lend (FZs.cons fR (FZs.cons (FZ.lit _) FZs.nil)) rfl (extent_place_p hR hs (by omega) no)) ?_
  simp
  by_cases hh : hasL l no
  ·have e : needL l no=l:=if_pos hh
   simp [hh]
   rw [zozZ]
   unfold zlgZ
   rw [e]
   exact ⟨rfl,v,hc,hv,ho,hne,Nat.le_refl _,fun _ _ _ _ => rfl,fun i hi => .inl hi⟩
  ·have e : needL l no=l.take (posL l no) ++ newE no :: l.drop (posL l no):=if_neg hh
   simp [hh]
   have g:=Grew.app H [some (.cells (encE (newE no)))]
   obtain ⟨r,H2,⟨b1,b2,b3,b4,b5⟩,a1⟩:=insE_ok (x:=newE no) (ov:=H.length) (g.slice hv) ho (posL_le l no) hl (by simp) (fun h => by have:=zcZ hv _ h; omega)
   rw [← encE_new]
   refine bC_of a1 ?_
   have c2 : H2[oc]? = some (some (.cells [I size,v])):=by
    rw [b4 oc (by simp; omega) hne]; exact g.cells hc
   have hr:=zpZ b1
   have hol2:=(List.getElem?_eq_some_iff.1 c2).1
   rw [ast_ptr (n:=1) (off:=1) (xs:=[r]) (cs:=[I size,v]) (zbuZ hr) c2 rfl (by simp)]
   simp
   rw [zozZ]
   unfold zlgZ
   have hoc : oc ∉ idS r:=fun h => (b5 oc h).elim hne (fun h => by simp at h; omega)
   refine ⟨rfl,r,by simp [hol2], ?_,b1,hoc,by simp at b3; simp; omega,fun i hi h1 h2 => ?_,fun i hi => (b5 i hi).imp id (fun h => by simp at h; omega)⟩
   ·rw [zbZ b2 (fun i hi => List.getElem?_set_ne (fun (h : oc=i) => hoc (h ▸ hi)))]
    rw [flat_take zcbZ,flat_drop zcbZ,e,List.flatMap_append,List.flatMap_cons,List.append_assoc]
    have:=posL_le l no
    simp; omega
   ·rw [List.getElem?_set_ne (by omega),b4 i (by simp; omega) h2]
    exact g.2 i hi)
 obtain ⟨r,H',⟨rfl,h1⟩,h2⟩:=key
 exact ⟨H',h1,h2⟩
end Go.Proofs.YtlbilcpnjgkpjaaGreat.Av
end
section
namespace Go.Proofs.YtlbilcpnjgkpjaaGreat.Av
open Go Go.RowKit
section
variable {κ α : Type} {c : κ→κ→Int} {key : α→κ}
theorem srtK_snoc (hc : KO c) {l : List α} {x : α} : srtK c key (l ++ [x]) ↔ srtK c key l∧∀ y,l.getLast? = some y→c (key y) (key x) < 0:=by
 unfold srtK
 rw [List.pairwise_append]
 constructor
 ·rintro ⟨h1,-,h3⟩
  exact ⟨h1,fun y hy => h3 y (List.mem_of_getLast? hy) x (by simp)⟩
 ·rintro ⟨h1,h2⟩
  refine ⟨h1,List.pairwise_singleton _ _,fun a ha b hb => ?_⟩
  rw [List.mem_singleton] at hb
  subst hb
  obtain ⟨m,hm⟩:=List.mem_iff_getElem?.1 ha
  have hl:=(List.getElem?_eq_some_iff.1 hm).1
  have hy : l.getLast? = some (l[l.length - 1]):=by rw [List.getLast?_eq_getElem?,List.getElem?_eq_getElem (by omega)]
  have h3:=h2 _ hy
  rcases Nat.lt_or_ge m (l.length - 1) with h | h
  ·exact hc.trans _ _ _ (srtK_get h1 hm (List.getElem?_eq_getElem (by omega)) h) h3
  ·have : m=l.length - 1:=by omega
   subst this
   rw [List.getElem?_eq_getElem (by omega)] at hm
   injection hm with hm
   rw [← hm]; exact h3
end
def okN (l : List Nm) : Prop:=(∀ x ∈ l,mayN x.name∧1≤x.ino∧x.ino≤4611686018427387904)∧srtK cmpN Nm.name l∧(l.map Nm.ino).Nodup
instance (l : List Nm) : Decidable (okN l):=by unfold okN; infer_instance
def mayNs (l : List Nm) : Prop:=l.length≤16∧okN l
instance (l : List Nm) : Decidable (mayNs l):=by unfold mayNs; infer_instance
theorem okN_snoc {l : List Nm} {x : Nm} : okN (l ++ [x]) ↔ okN l∧(mayN x.name∧(∀ y,l.getLast? = some y→cmpN y.name x.name < 0)∧1≤x.ino∧x.ino≤4611686018427387904∧¬ hasK Nm.ino l x.ino):=by
 unfold okN
 rw [srtK_snoc koN,List.map_append,List.nodup_append]
 simp only [List.mem_append,List.mem_singleton,List.map_cons,List.map_nil,List.nodup_cons,List.not_mem_nil,not_false_eq_true,List.nodup_nil,and_self,true_and]
 constructor
 ·rintro ⟨h1,⟨h2,h3⟩,h4,h5⟩
  refine ⟨⟨fun y hy => h1 y (.inl hy),h2,h4⟩,(h1 x (.inr rfl)).1,h3,(h1 x (.inr rfl)).2.1,(h1 x (.inr rfl)).2.2, ?_⟩
  rintro ⟨y,hy,e⟩
  exact h5 y.ino (List.mem_map_of_mem hy) x.ino rfl e
 ·rintro ⟨⟨h1,h2,h4⟩,h5,h6,h7,h8,h9⟩
  refine ⟨?_,⟨h2,h6⟩,h4, ?_⟩
  ·rintro y (hy | rfl)
   ·exact h1 y hy
   ·exact ⟨h5,h7,h8⟩
  ·rintro a ha b rfl e
   obtain ⟨y,hy,e2⟩:=List.mem_map.1 ha
   exact h9 ⟨y,hy,by rw [e2,e]⟩
theorem okN_app {a b : List Nm} (h : okN (a ++ b)) : okN a:=by
 unfold okN at h ⊢
 refine ⟨fun x hx => h.1 x (by simp [hx]),(List.pairwise_append.1 h.2.1).1, ?_⟩
 have:=h.2.2
 rw [List.map_append,List.nodup_append] at this
 exact this.1
def inoM (l : List Nm) : List (Int × AV):=l.map fun x => (x.ino,B true)
theorem look_inoM (l : List Nm) (k : Int) : look (B false) (inoM l) k=B (decide (hasK Nm.ino l k)):=by
 induction l with
 | nil => simp [look,inoM,hasK]
 | cons a l ih =>
  unfold look inoM at ih ⊢
  rw [List.map_cons]
  by_cases h : a.ino=k
  ·rw [List.find?_cons_of_pos (by simp [h])]
   have : hasK Nm.ino (a :: l) k:=⟨a,by simp,h⟩
   simp [this]
  ·rw [List.find?_cons_of_neg (by simp [h]),ih]
   have : hasK Nm.ino (a :: l) k ↔ hasK Nm.ino l k:=by
    unfold hasK
    simp [h]
   simp [this]
theorem putM_inoM {l : List Nm} {x : Nm} (h : ¬ hasK Nm.ino l x.ino) : putM (inoM l) x.ino (B true)=inoM (l ++ [x]):=by
 unfold putM
 have : (inoM l).findIdx? (fun p => p.1 == x.ino)=none:=by
  rw [List.findIdx?_eq_none_iff]
  intro p hp
  obtain ⟨y,hy,rfl⟩:=List.mem_map.1 hp
  simp only [beq_eq_false_iff_ne,ne_eq]
  exact fun e => h ⟨y,hy,e⟩
 rw [this]
 simp [inoM]
def NmsK (H : AH) (l : List Nm) (r : AV) (H' : AH) : Prop:=Grew H H' ∧
 (mayNs l→∃ o,r = .tup [.mp o,B true]∧H'[o]? = some (some (.map (encM (inoM l)))))∧(¬ mayNs l→r = .tup [.lit (.map none),B false])
theorem names_c {H : AH} {l : List Nm} {v : AV} (hv : SV encN 2 l v) (hl : l.length≤281474976710656) (hs : ∀ x ∈ l,x.name.length≤9223372036854775807) : ∃ r H',NmsK H l r H'∧BCall Tryz.prog 80 [v] H r H':=image_names_ok (by
 unfold image_names
 by_cases h16 : l.length≤16
 ·have e16 : ¬ (16 : Int) < l.length:=by omega
  simp [hv.len,e16]
  refine image_names_L7_rule (fun n x0 x4 x11 x12 x13 H' => ∃ k : Nat,k + n=l.length∧x0=v∧x4 = .mp H.length∧x11=v∧x12=I l.length∧x13=I k∧Grew H H'∧H'[H.length]? = some (some (.map (encM (inoM (l.take k)))))∧okN (l.take k)) ?_ l.length ⟨0,by omega,rfl,rfl,rfl,rfl,rfl,Grew.app _ _,by simp; rfl,by simp [okN,srtK]⟩
  rintro n x0 x4 x11 x12 x13 H' R hR ⟨k,hk,rfl,rfl,rfl,rfl,rfl,hg,hm,hok⟩
  unfold zkvZ
  rcases Nat.lt_or_ge k l.length with h | h
  ·have hx:=List.getElem?_eq_getElem h
   generalize l[k]=x at hx
   have htk : l.take (k + 1)=l.take k ++ [x]:=by rw [List.take_add_one,hx]; rfl
   have hgt : ∀ y,(l.take k).getLast? = some y ↔ 0 < k∧l[k - 1]? = some y:=by
    intro y
    rw [List.getLast?_eq_getElem?,List.length_take,Nat.min_eq_left (by omega),List.getElem?_take]
    by_cases c : 0 < k
    ·rw [if_pos (by omega)]; exact ⟨fun h => ⟨c,h⟩,fun h => h.2⟩
    ·rw [if_neg (by omega)]; exact ⟨fun h => (by cases h),fun h => absurd h.1 c⟩
   have hstep : mayNs l→mayN x.name∧(∀ y,0 < k∧l[k - 1]? = some y→cmpN y.name x.name < 0)∧1≤x.ino∧x.ino≤4611686018427387904∧¬ hasK Nm.ino (l.take k) x.ino:=by
    rintro ⟨-,ho⟩
    rw [← List.take_append_drop (k + 1) l,htk] at ho
    have:=(okN_snoc.1 (okN_app ho)).2
    simpa only [hgt] using this
   have hsx:=hs x (List.mem_of_getElem? hx)
   have g1:=Grew.app H' [some (.cells (encN x))]
   have c1 : (H' ++ [some (AObj.cells [S (bstr x.name),I x.ino])])[H.length]? = some (some (.map (encM (inoM (l.take k))))):=g1.cells hm
   have ea : ast 2 (H' ++ [some (.cells [S (bstr []),I 0])]) (.ptr H'.length 0) (.agg (encN x))=some (H' ++ [some (.cells (encN x))]):=by
    simp [ast,encN,splice]
   simp [h,hv.idx encN_len hx rfl,rdh_N,bstr_nil,ea]
   simp [encN]
   refine bP_of (MayName_p (s:=x.name) (by omega)) ?_
   have hno : ¬ (mayN x.name∧(∀ y,0 < k∧l[k - 1]? = some y→cmpN y.name x.name < 0)∧1≤x.ino∧x.ino≤4611686018427387904∧¬ hasK Nm.ino (l.take k) x.ino)→NmsK H l (.tup [.lit (.map none),B false]) (H' ++ [some (.cells (encN x))]):=fun hn => ⟨hg.trans g1,fun hh => absurd (hstep hh) hn,fun _ => rfl⟩
   have key : (∀ y,0 < k∧l[k - 1]? = some y→cmpN y.name x.name < 0)→mayN x.name→True:=fun _ _ => trivial
   by_cases a1 : mayN x.name
   ·have hal : alk (.int .i64) (.bool false) (H' ++ [some (AObj.cells [S (bstr x.name),I x.ino])]) (.mp H.length) (I x.ino) false=some (B (decide (hasK Nm.ino (l.take k) x.ino))):=by
     rw [alk_int c1]; exact congrArg some (look_inoM _ _)
    have ham : ¬ hasK Nm.ino (l.take k) x.ino→amu (.int .i64) (H' ++ [some (AObj.cells [S (bstr x.name),I x.ino])]) (.mp H.length) (I x.ino) (.lit (.bool true))=some ((H' ++ [some (AObj.cells [S (bstr x.name),I x.ino])]).set H.length (some (.map (encM (inoM (l.take k ++ [x])))))):=fun hn => by
     rw [amu_int c1,putM_inoM hn]
    have hol : H.length < H'.length:=(List.getElem?_eq_some_iff.1 hm).1
    rcases Nat.eq_zero_or_pos k with h0 | hk0
    ·have e0 : ¬ 0 < k:=by omega
     have a5 : ∀ y,(l.take k).getLast? = some y→cmpN y.name x.name < 0:=fun y hy => by have:=(hgt y).1 hy; omega
     by_cases a2 : x.ino < 1
     ·simp [a1,e0,a2]
      exact hno fun hh => by omega
     ·by_cases a3 : 4611686018427387904 < x.ino
      ·simp [a1,e0,a2,a3]
       exact hno fun hh => by omega
      ·by_cases a4 : hasK Nm.ino (l.take k) x.ino
       ·simp [a1,e0,a2,a3,hal,a4]
        exact hno fun hh => hh.2.2.2.2 a4
       ·simp [a1,e0,a2,a3,hal,a4,ham a4,abI_add (a:=(k : Nat)) (b:=1) (by omega) (by omega)]
        refine hR (n - 1) _ _ _ _ _ _ (by omega) ⟨k + 1,by omega,rfl,rfl,rfl,rfl,by simp,⟨Nat.le_trans (hg.trans g1).1 (Nat.le_of_eq List.length_set.symm),fun i hi => (List.getElem?_set_ne (by omega)).trans ((hg.trans g1).2 i hi)⟩,by rw [htk,List.getElem?_set_self (by simp; omega)],by rw [htk,okN_snoc]; exact ⟨hok,a1,a5,by omega,by omega,a4⟩⟩
    ·have e0 : 0 < k:=hk0
     have hy:=List.getElem?_eq_getElem (l:=l) (i:=k - 1) (by omega)
     generalize l[k - 1]=y at hy
     have es : abI .sub (I k) (.lit (.int .i64 1))=some (I ((k - 1 : Nat) : Int)):=by rw [abI_sub (by omega) (by omega)]; congr 3; omega
     have ei:=hv.idx encN_len hy (i:=((k - 1 : Nat) : Int)) rfl
     by_cases a6 : cmpN y.name x.name < 0
     ·have a5 : ∀ y,(l.take k).getLast? = some y→cmpN y.name x.name < 0:=fun z hz => by have:=((hgt z).1 hz).2; rw [hy] at this; injection this with this; rw [← this]; exact a6
      by_cases a2 : x.ino < 1
      ·simp [a1,e0,es,ei,encN_0,abT_geq,a6,a2]
       exact hno fun hh => by omega
      ·by_cases a3 : 4611686018427387904 < x.ino
       ·simp [a1,e0,es,ei,encN_0,abT_geq,a6,a2,a3]
        exact hno fun hh => by omega
       ·by_cases a4 : hasK Nm.ino (l.take k) x.ino
        ·simp [a1,e0,es,ei,encN_0,abT_geq,a6,a2,a3,hal,a4]
         exact hno fun hh => hh.2.2.2.2 a4
        ·simp [a1,e0,es,ei,encN_0,abT_geq,a6,a2,a3,hal,a4,ham a4,abI_add (a:=(k : Nat)) (b:=1) (by omega) (by omega)]
         refine hR (n - 1) _ _ _ _ _ _ (by omega) ⟨k + 1,by omega,rfl,rfl,rfl,rfl,by simp,⟨Nat.le_trans (hg.trans g1).1 (Nat.le_of_eq List.length_set.symm),fun i hi => (List.getElem?_set_ne (by omega)).trans ((hg.trans g1).2 i hi)⟩,by rw [htk,List.getElem?_set_self (by simp; omega)],by rw [htk,okN_snoc]; exact ⟨hok,a1,a5,by omega,by omega,a4⟩⟩
     ·simp [a1,e0,es,ei,encN_0,abT_geq,a6]
      exact hno fun hh => a6 (hh.2.1 y ⟨hk0,hy⟩)
   ·simp [a1]
    exact hno fun hh => a1 hh.1
  ·have : l.take k=l:=List.take_of_length_le (by omega)
   rw [this] at hm hok
   simp [show ¬ k < l.length by omega]
   exact ⟨hg,fun _ => ⟨_,rfl,hm⟩,fun hn => absurd ⟨h16,hok⟩ hn⟩
 ·have e16 : (16 : Int) < l.length:=by omega
  have : ¬ mayNs l:=fun h => h16 h.1
  simp [hv.len,e16]
  exact ⟨Grew.refl _,fun h => absurd h this,fun _ => rfl⟩)
end Go.Proofs.YtlbilcpnjgkpjaaGreat.Av
end
section
namespace Go.Proofs.YtlbilcpnjgkpjaaGreat.Av
open Go Go.RowKit
def okD (ns : List Nm) (ds : List Nd) : Prop:=srtK cmpI Nd.ino ds∧∀ d ∈ ds,hasK Nm.ino ns d.ino∧mayC d.size d.l
instance (ns : List Nm) (ds : List Nd) : Decidable (okD ns ds):=by unfold okD; infer_instance
def mayI (ns : List Nm) (ds : List Nd) : Prop:=mayNs ns∧ds.length=ns.length∧okD ns ds
instance (ns : List Nm) (ds : List Nd) : Decidable (mayI ns ds):=by unfold mayI; infer_instance
def Sm (ns : List Nm) (ds : List Nd) : Prop:=ns.length≤100000∧ds.length≤100000∧(∀ x ∈ ns,x.name.length≤9223372036854775807)∧∀ d ∈ ds,d.l.length≤1000000
def ImV (ns : List Nm) (ds : List Nd) (v : AV) : Prop:=∃ a b dv,v = .agg [a,b]∧SV encN 2 ns a∧SV encD 3 dv b∧dv.map NdV.nd=ds
theorem ImV.noIds {ns : List Nm} {ds : List Nd} {v : AV} (h : ImV ns ds v) : noIdss [v]=true:=by
 obtain ⟨a,b,dv,rfl,h1,h2,rfl⟩:=h
 simp [noIdss,Av.noIds,h1.1,h2.1]
theorem okD_snoc {ns : List Nm} {ds : List Nd} {d : Nd} : okD ns (ds ++ [d]) ↔ okD ns ds∧(∀ y,ds.getLast? = some y→y.ino < d.ino)∧hasK Nm.ino ns d.ino∧mayC d.size d.l:=by
 unfold okD
 rw [srtK_snoc koI]
 simp only [cmpI_lt,List.mem_append,List.mem_singleton]
 constructor
 ·rintro ⟨⟨h1,h2⟩,h3⟩
  exact ⟨⟨h1,fun y hy => h3 y (.inl hy)⟩,h2,h3 d (.inr rfl)⟩
 ·rintro ⟨⟨h1,h3⟩,h2,h4⟩
  refine ⟨⟨h1,h2⟩, ?_⟩
  rintro y (hy | rfl)
  ·exact h3 y hy
  ·exact h4
theorem okD_app {ns : List Nm} {a b : List Nd} (h : okD ns (a ++ b)) : okD ns a :=
 ⟨(List.pairwise_append.1 h.1).1,fun d hd => h.2 d (by simp [hd])⟩
theorem take_snoc {α : Type} {l : List α} {k : Nat} {x : α} (hx : l[k]? = some x) : l.take (k + 1)=l.take k ++ [x]:=by rw [List.take_add_one,hx]; rfl
theorem May_p {ns : List Nm} {ds : List Nd} {v : AV} (hv : ImV ns ds v) (hb : Sm ns ds) : BPure Tryz.prog 54 [v] (B (decide (mayI ns ds))):=BPure.val hv.noIds rfl (image_May_ok (by
 obtain ⟨a,b,dv,rfl,ha,hbv,rfl⟩:=hv
 have b1:=hb.1
 have b2:=hb.2.1
 rw [List.length_map] at b2
 unfold image_May
 have oa:=SV.oneA ha
 have ob:=SV.oneA hbv
 simp [oa,ob]
 obtain ⟨r,H5,⟨hg,hy,hn⟩,hc⟩:=names_c (H:=[some (.cells [a,b])]) ha (by omega) (fun x hx => by have:=hb.2.2.1 x hx; omega)
 refine bC_of hc ?_
 have c0 : H5[0]? = some (some (.cells [a,b])):=hg.cells rfl
 by_cases hm : mayNs ns
 ·obtain ⟨o,rfl,hmap⟩:=hy hm
  have hal : alnM H5 (.mp o)=some (I ns.length):=by
   simp [alnM,hmap,encM,inoM,goInt]
  simp [c0,hbv.len,hal]
  by_cases hlen : dv.length=ns.length
  ·have hlI : ¬ ((dv.length : Int) ≠ ns.length):=by omega
   simp [hlen,c0,hbv.len]
   refine image_May_L8_rule (fun n x3 x5 x25 x26 x27 H' => ∃ k : Nat,k + n=dv.length∧x3 = .mp o∧(∃ last : Int,x5=I last∧0≤last∧(∀ y,(dv.take k).getLast? = some y→y.ino≤last)∧(last=0∨∃ y,(dv.take k).getLast? = some y∧y.ino=last))∧x25=b∧x26=I ns.length∧x27=I k∧Grew H5 H'∧okD ns ((dv.take k).map NdV.nd)) ?_ dv.length ⟨0,by omega,rfl,⟨0,rfl,by omega,by simp,.inl rfl⟩,rfl,rfl,rfl,Grew.refl _,by simp [okD,srtK]⟩
   rintro n x3 x5 x25 x26 x27 H' R hR ⟨k,hk,rfl,⟨last,rfl,hl0,hl1,hl2⟩,rfl,rfl,rfl,hg2,hok⟩
   unfold zowZ
   rcases Nat.lt_or_ge k ns.length with h | h
   ·have hx:=List.getElem?_eq_getElem (l:=dv) (i:=k) (by omega)
    generalize dv[k]=d at hx
    have ea : ast 3 (H' ++ [some (.cells [I 0,I 0,nilSl])]) (.ptr H'.length 0) (.agg (encD d))=some (H' ++ [some (.cells (encD d))]):=by
     have:=SV.oneA d.h
     simp [ast,encD,splice,this]
    have g1:=Grew.app H' [some (.cells (encD d))]
    have c1 : (H' ++ [some (AObj.cells [I d.nd.ino,I d.nd.size,d.R])])[o]? = some (some (.map (encM (inoM ns)))):=g1.cells (hg2.cells hmap)
    have hal2 : alk (.int .i64) (.bool false) (H' ++ [some (AObj.cells [I d.nd.ino,I d.nd.size,d.R])]) (.mp o) (I d.nd.ino) false=some (B (decide (hasK Nm.ino ns d.nd.ino))):=by
     rw [alk_int c1]; exact congrArg some (look_inoM _ _)
    have hdl : d.nd.l.length≤281474976710656:=by
     have:=hb.2.2.2 d.nd (List.mem_map_of_mem (List.mem_of_getElem? hx)); omega
    have htk:=take_snoc hx
    have hstep : mayI ns (dv.map NdV.nd)→last < d.nd.ino∧hasK Nm.ino ns d.nd.ino∧mayC d.nd.size d.nd.l:=by
     rintro ⟨-,-,ho⟩
     rw [← List.take_append_drop (k + 1) dv,htk,List.map_append,List.map_append] at ho
     have h3:=(okD_snoc.1 (okD_app ho)).2
     refine ⟨?_,h3.2⟩
     rcases hl2 with rfl | ⟨y,hy,rfl⟩
     ·obtain ⟨x,hx,e⟩:=h3.2.1
      have:=(hm.2.1 x hx).2.1
      omega
     ·exact h3.1 y.nd (by rw [List.getLast?_map,hy]; rfl)
    simp [h,hbv.idx encD_len hx rfl,rdh_D,ea]
    simp [encD]
    by_cases a1 : d.nd.ino≤last
    ·have : ¬ mayI ns (dv.map NdV.nd):=fun hh => by have:=(hstep hh).1; omega
     simp [a1,this]
    ·by_cases a2 : hasK Nm.ino ns d.nd.ino
     ·simp [a1,hal2,a2,rdCells]
      refine bP_pure (zjnZ d.h hdl) ?_
      by_cases a3 : mayC d.nd.size d.nd.l
      ·simp [a3,abI_add (a:=k) (b:=1) (by omega) (by omega)]
       refine hR (n - 1) _ _ _ _ _ _ (by omega) ⟨k + 1,by omega,rfl,⟨d.nd.ino,rfl,by omega, ?_,.inr ⟨d,by rw [htk]; simp,rfl⟩⟩,rfl,rfl,by simp,hg2.trans g1, ?_⟩
       ·intro y hy
        rw [htk] at hy
        simp at hy
        rw [← hy]; exact Int.le_refl _
       ·rw [htk,List.map_append]
        refine okD_snoc.2 ⟨hok,fun y hy => ?_,a2,a3⟩
        rw [List.getLast?_map] at hy
        obtain ⟨z,hz,rfl⟩:=Option.map_eq_some_iff.1 hy
        have h9 : z.nd.ino≤last:=hl1 z hz
        show z.nd.ino < d.nd.ino
        omega
      ·have : ¬ mayI ns (dv.map NdV.nd):=fun hh => a3 (hstep hh).2.2
       simp [a3,this]
     ·have : ¬ mayI ns (dv.map NdV.nd):=fun hh => a2 (hstep hh).2.1
      simp [a1,hal2,a2,this]
   ·have e : dv.take k=dv:=List.take_of_length_le (by omega)
    rw [e] at hok
    have : mayI ns (dv.map NdV.nd):=⟨hm,by simp [hlen],hok⟩
    simp [show ¬ k < ns.length by omega,this]
  ·have : ¬ mayI ns (dv.map NdV.nd):=fun h => hlen (by simpa using h.2.1)
   have hlI : ((dv.length : Int) ≠ ns.length):=by omega
   simp [hlI,this]
 ·have : ¬ mayI ns (dv.map NdV.nd):=fun h => hm h.1
  rw [hn hm]
  simp [this]))
end Go.Proofs.YtlbilcpnjgkpjaaGreat.Av
end
section
namespace Go.Proofs.YtlbilcpnjgkpjaaGreat.Av
open Go Go.RowKit
section
variable {κ α : Type} [DecidableEq κ] {c : κ→κ→Int} {key : α→κ}
end
theorem pigeon : ∀ {A B : List Int},A.Nodup→(∀ a ∈ A,a ∈ B)→B.length≤A.length→∀ b ∈ B,b ∈ A
 | [],B,_,_,hl,b,hb => by
  have : B=[]:=List.length_eq_zero_iff.1 (by simpa using hl)
  rw [this] at hb; exact hb
 | a :: A,B,hn,hs,hl,b,hb => by
  rw [List.nodup_cons] at hn
  by_cases e : b=a
  ·simp [e]
  ·have haB:=hs a (by simp)
   have hl2 : (B.erase a).length≤A.length:=by
    rw [List.length_erase_of_mem haB]; simp at hl; omega
   have:=pigeon (A:=A) (B:=B.erase a) hn.2 (fun x hx => (List.mem_erase_of_ne (fun (e2 : x=a) => hn.1 (e2 ▸ hx))).2 (hs x (by simp [hx]))) hl2 b ((List.mem_erase_of_ne e).2 hb)
   simp [this]
def okP (N : List Nd) (ns : List Nm) (ds : List Nd) : Prop:=okN ns∧srtK cmpI Nd.ino ds∧(∀ x ∈ ns,hasK Nd.ino N x.ino)∧∀ d ∈ ds,mayC d.size d.l
theorem mayI_doc {ns : List Nm} {ds : List Nd} : mayI ns ds ↔ ns.length≤16∧ds.length=ns.length∧okP ds ns ds:=by
 unfold mayI mayNs okD okP
 constructor
 ·rintro ⟨⟨h1,h2⟩,h3,h4,h5⟩
  refine ⟨h1,h3,h2,h4, ?_,fun d hd => (h5 d hd).2⟩
  have hn : (ds.map Nd.ino).Nodup:=by
   rw [List.Nodup,List.pairwise_map]
   exact h4.imp fun h => by rw [cmpI_lt] at h; omega
  have:=pigeon (A:=ds.map Nd.ino) (B:=ns.map Nm.ino) hn (fun a ha => by
   obtain ⟨d,hd,rfl⟩:=List.mem_map.1 ha
   obtain ⟨x,hx,e⟩:=(h5 d hd).1
   rw [← e]; exact List.mem_map_of_mem hx) (by simp [h3])
  intro x hx
  obtain ⟨d,hd,e⟩:=List.mem_map.1 (this x.ino (List.mem_map_of_mem hx))
  exact ⟨d,hd,e⟩
 ·rintro ⟨h1,h3,h2,h4,h5,h6⟩
  refine ⟨⟨h1,h2⟩,h3,h4,fun d hd => ⟨?_,h6 d hd⟩⟩
  have:=pigeon (A:=ns.map Nm.ino) (B:=ds.map Nd.ino) h2.2.2 (fun a ha => by
   obtain ⟨x,hx,rfl⟩:=List.mem_map.1 ha
   obtain ⟨d,hd,e⟩:=h5 x hx
   rw [← e]; exact List.mem_map_of_mem hd) (by simp [h3])
  obtain ⟨x,hx,e⟩:=List.mem_map.1 (this d.ino (List.mem_map_of_mem hd))
  exact ⟨x,hx,e⟩
end Go.Proofs.YtlbilcpnjgkpjaaGreat.Av
end
section
namespace Go.Proofs.YtlbilcpnjgkpjaaGreat.Av
open Go Go.RowKit
def cS (o : Option Cont) : Int:=(o.getD (0,[])).1
def cL (o : Option Cont) : List Ext:=(o.getD (0,[])).2
theorem noIdss_exts (l : List Ext) : noIdss (l.flatMap encE)=true:=zgiZ fun x _ => zluZ x
def ContK (res : Option Cont) (r : AV) (X : AH) : Prop:=∃ w,r = .tup [.agg [I (cS res),w],B res.isSome]∧zaZ X 9 w=some ((cL res).flatMap encE,(cL res).length)
theorem ContK.none {res : Option Cont} (h : res=none) {X : AH} : ContK res (.tup [.agg [I 0,nilSl],B false]) X:=by
 subst h; exact ⟨_,rfl,rfl⟩
theorem ContK.some {res : Option Cont} {s : Int} {l : List Ext} (h : res=some (s,l)) {X : AH} {w : AV} (hw : zaZ X 9 w=some (l.flatMap encE,l.length)) : ContK res (.tup [.agg [I s,w],B true]) X:=by
 subst h; exact ⟨_,rfl,hw⟩
theorem BPure.cont {P : Program} {f : FuncId} {args : List AV} {res : Option Cont} (hb : noIdss args=true) (h : ∃ r X,ContK res r X∧BCall P f args [] r X) :
  ∃ R,SV encE 9 (cL res) R∧BPure P f args (.tup [.agg [I (cS res),R],B res.isSome]):=by
 obtain ⟨r,X,⟨w,rfl,hw⟩,h⟩:=h
 obtain ⟨R,hR,fR⟩:=FZ.sv hw (noIdss_exts _)
 obtain ⟨R',⟨rfl,_⟩,h2⟩:=BPure.FZ (Q:=fun R' => R' = .tup [.agg [I (cS res),R],B res.isSome]∧True) hb ⟨_,X,⟨_,FZ.tup (FZs.cons (FZ.agg (FZs.cons (FZ.lit _) (FZs.cons fR FZs.nil))) (FZs.cons (FZ.lit _) FZs.nil)),rfl,trivial⟩,h⟩
 exact ⟨R,hR,h2⟩
theorem encE_put {x : Ext} {k : Nat} {bs : List UInt8} (h : k + bs.length≤8) : encE (putE x k bs)=over (encE x) (1 + k) (encB bs):=by
 have e : over (encE x) (1 + k) (encB bs)=I x.no :: over (encB x.b) k (encB bs):=by
  unfold over encE
  rw [Nat.add_comm 1 k,List.take_succ_cons,show k + 1 + (encB bs).length=(k + (encB bs).length) + 1 by omega,List.drop_succ_cons]
  rfl
 rw [e,over_encB]
 unfold encE
 rw [putE_no,putE_b h]
theorem sl_copy {H : AH} {w s : AV} {l : List Ext} {bs : List UInt8} {x : Ext} {i k m : Nat} {a b : Int} (hw : zaZ H 9 w=some (l.flatMap encE,l.length)) (ho : ownedS w=true) (hx : l[i]? = some x) (hs : zaZ H 1 s=some (encB bs,m)) (hk : k + bs.length≤8) (ha : a=i) (hb : b=k) :
  ∃ p q d H',aixS 9 w (I a)=some p∧ashift 1 p=some q∧aslA 8 1 H q (some (I b)) none=some d∧acp 1 H d s=some (I bs.length,H')∧H'.length=H.length∧(∀ j,j ∉ idS w→H'[j]? = H[j]?)∧zaZ H' 9 w=some ((l.set i (putE x k bs)).flatMap encE,l.length):=by
 subst ha; subst hb
 have hi:=(List.getElem?_eq_some_iff.1 hx).1
 obtain ⟨o,off,cap,cells,rfl,h1,h2,h3⟩:=owned_sl hw ho (by omega)
 have hol:=(List.getElem?_eq_some_iff.1 h1).1
 have hm : m=bs.length:=by have:=zbwZ hs; rw [zknZ] at this; omega
 subst hm
 have hmul : i * 9 + 9≤l.length * 9:=by rw [← Nat.succ_mul]; exact Nat.mul_le_mul_right _ hi
 have e1 : min bs.length (8 - k)=bs.length:=by omega
 refine ⟨.ptr o (off + i * 9),.ptr o (off + i * 9 + 1),.sl o (off + i * 9 + 1 + k) (8 - k) 1 (.ex (8 - k)),H.set o (some (.cells (over cells (off + (i * 9 + (1 + k))) (encB bs)))), ?_,rfl, ?_, ?_,by simp,fun j hj => List.getElem?_set_ne (by simp [idS] at hj; omega), ?_⟩
 ·simp only [aixS,aint]
  rw [if_pos ⟨by omega,by omega⟩]; simp
 ·simp [aslA,abnd,h1]; omega
 ·unfold acp acp0
  rw [zjZ hs]
  simp only [h1]
  rw [if_pos ⟨trivial,by omega⟩,e1,Nat.mul_one,List.take_of_length_le (by rw [zknZ]; omega)]
  simp only [show off + i * 9 + 1 + k=off + (i * 9 + (1 + k)) by omega]
 ·rw [zbdZ (c:=over cells (off + (i * 9 + (1 + k))) (encB bs)) (by simp [hol]) (by rw [over_len (by rw [zknZ]; omega)]; exact h2)]
  rw [over_part h2 (by rw [zknZ]; omega),← h3,over_flat zcbZ hx (encE_put hk) (by rw [zknZ]; omega)]
theorem extent_Fits_p (pos : Int) (n : Nat) (hn : n≤281474976710656) : BPure Tryz.prog 73 [I pos,I n] (B (decide (0≤pos∧n≤4096∧pos≤1099511627776 - n))):=BPure.flat fun H => extent_Fits_ok (by
 unfold extent_Fits
 by_cases h1 : 0≤pos
 ·by_cases h2 : n≤4096
  ·have : (n : Int)≤4096:=by omega
   simp [h1,h2,this,abI_sub (a:=1099511627776) (b:=n) (by omega) (by omega)]
  ·have : ¬ (n : Int)≤4096:=by omega
   simp [h1,h2,this]
 ·simp [h1])
theorem extent_Write_p {size : Int} {l : List Ext} {v bv : AV} {bs : List UInt8} (hv : SV encE 9 l v) (hl : l.length≤1000000) (pos : Int) (hb : SV encU 1 bs bv) (hbl : bs.length≤281474976710656) :
  ∃ R,SV encE 9 (cL (writeC (size,l) pos bs)) R∧BPure Tryz.prog 85 [.agg [I size,v],I pos,bv] (.tup [.agg [I (cS (writeC (size,l) pos bs)),R],B (writeC (size,l) pos bs).isSome]):=by
 refine BPure.cont (by simp [noIdss,noIds,hv.1,hb.1]) (extent_Write_ok ?_)
 unfold extent_Write
 simp [oneA_sv hv,rdCells]
 refine bP_pure (zjnZ hv (by omega)) ?_
 by_cases h1 : mayC size l
 ·simp [h1,hb.len]
  refine bP_pure (extent_Fits_p pos bs.length hbl) ?_
  by_cases h2 : 0≤pos∧bs.length≤4096∧pos≤1099511627776 - bs.length
  ·have hw : writeC (size,l) pos bs=some (if bs=[] then (size,l) else (max size (pos + bs.length),writeL l pos bs)):=if_pos ⟨h1,h2⟩
   obtain ⟨g1,g2,g3⟩:=h2
   simp [g1,g2,g3]
   obtain ⟨r,H2,⟨w,rfl,a2,a3,a4,a5⟩,a1⟩:=copied_c (size:=size) (hv.2 [some (.cells [I size,v]),some (.cells [I 0,nilSl])]) (oneA_sv hv) (by omega)
   refine bC_of a1 ?_
   have c0:=a4.cells (o:=0) (x:=some (.cells [I size,v])) rfl
   have c1:=a4.cells (o:=1) (x:=some (.cells [I 0,nilSl])) rfl
   have hl2:=a4.1
   simp only [List.length_cons,List.length_nil] at hl2
   have hwo:=zpZ a2
   have id0 : ∀ j,j < 2→j ∉ idS w:=fun j hj h => by have:=a5 j h; simp at this; omega
   rw [ast_ptr (n:=2) (off:=0) (x:=.agg [I size,w]) (xs:=[I size,w]) (by simp [hwo]) c0 rfl (by simp)]
   simp
   by_cases hbs : bs=[]
   ·subst hbs
    simp [show 0 < H2.length by omega]
    rw [ast_ptr (n:=2) (off:=0) (x:=.agg [I size,w]) (xs:=[I size,w]) (cs:=[I 0,nilSl]) (by simp [hwo]) (by rw [List.getElem?_set_ne (by omega)]; exact c1) rfl (by simp)]
    simp [show 1 < H2.length by omega]
    exact ContK.some hw (zbZ a3 fun i hi => by
     have h2 : 2≤i:=Nat.le_of_not_lt fun h => id0 i h hi
     rw [List.getElem?_set_ne (by omega),List.getElem?_set_ne (by omega)])
   ·have hlen : 0 < bs.length:=List.length_pos_iff.2 hbs
    rw [if_neg hbs] at hw
    simp [hbs]
    obtain ⟨pv,hpv,pq⟩:=off_Parts_p ⟨pos,bs.length⟩ (unit:=8) (by omega)
    refine bP_pure pq ?_
    have hP : partsS ⟨pos,bs.length⟩ 8=cutsS bs.length pos bs.length 8:=if_pos ⟨by simp only [MaySpan,May]; omega,by simp only; omega,by omega⟩
    generalize partsS ⟨pos,(bs.length : Int)⟩ 8=parts at hpv hP
    simp [hpv.len]
    have hs0:=okL_srt h1.2.2
    refine zqhZ (fun n x1 x2 x3 x6 x33 x34 x35 H => ∃ (j d : Nat) (w : AV),j + n=parts.length∧x1=I pos∧x2=bv∧x3 = .ptr 0 0∧x6 = .ptr 1 0∧x33=pv∧x34=I parts.length∧x35=I j∧H[0]? = some (some (.cells [I size,w]))∧H[1]? = some (some (.cells [I 0,nilSl])) ∧
     zaZ H 9 w=some ((writeL l pos (bs.take d)).flatMap encE,(writeL l pos (bs.take d)).length)∧ownedS w=true∧(∀ j,j < 2→j ∉ idS w)∧d≤bs.length∧parts.drop j=cutsS (bs.length - d) (pos + d) (bs.length - d : Nat) 8∧j≤d) ?_ parts.length
     ⟨0,0,w,by simp,rfl,rfl,rfl,rfl,rfl,rfl,rfl,List.getElem?_set_self (by omega),(List.getElem?_set_ne (by omega)).trans c1, ?_,a2,id0,by omega,by simpa using hP,by omega⟩
    ·rintro n x1 x2 x3 x6 x33 x34 x35 H R hR ⟨j,d,w,hj,rfl,rfl,rfl,rfl,rfl,rfl,rfl,k0,k1,kw,ko,kid,kd,kp,kj⟩
     unfold ziwZ
     by_cases hd : d < bs.length
     ·rw [cutsS_step (by omega) (by omega) (by omega) (by omega)] at kp
      obtain ⟨m,hm⟩ : ∃ m : Nat,(m : Int)=min ((bs.length - d : Nat) : Int) (8 - (pos + d) % 8):=⟨(min ((bs.length - d : Nat) : Int) (8 - (pos + d) % 8)).toNat,by omega⟩
      rw [← hm] at kp
      have hpj : parts[j]? = some ⟨pos + d,m⟩:=by
       have:=congrArg (fun q => q[0]?) kp
       simpa using this
      have hjl:=(List.getElem?_eq_some_iff.1 hpj).1
      simp [hjl,hpv.idx encSp_len hpj rfl,encSp,rdCells,ast,abI_quo (a:=pos + d) (b:=8) (by omega) (by omega) (by omega)]
      have g:=Grew.app H [some (.cells [I (pos + d),I m])]
      have hlL:=wr_len (bs:=bs.take d) (l:=l) (p:=pos)
      have htl : (bs.take d).length=d:=by rw [List.length_take]; omega
      have hws:=wr_srt (bs:=bs.take d) hs0 pos
      generalize hL : writeL l pos (bs.take d)=L at kw hlL hws
      have hH0:=(List.getElem?_eq_some_iff.1 k0).1
      have hH1:=(List.getElem?_eq_some_iff.1 k1).1
      obtain ⟨H11,⟨w',q1,q2,q3,q4,q5,q6,q7⟩,q8⟩:=extent_need_c' (no:=(pos + d) / 8) (g.cells k0) (g.slice kw) ko (kid 0 (by omega)) hws (by omega)
      refine bC_of q8 ?_
      have hid' : ∀ i,i < H.length→i ∉ idS w→i ∉ idS w':=fun i h1 h2 h3 => (q7 i h3).elim h2 (fun h => by simp at h; omega)
      have z1 : H11[1]? = some (some (.cells [I 0,nilSl])):=by
       rw [q6 1 (by simp; omega) (by omega) (kid 1 (by omega))]; exact g.cells k1
      have z2 : H11[H.length]? = some (some (.cells [I (pos + d),I m])):=by
       rw [q6 H.length (by simp) (by omega) (fun h => by have:=zcZ kw _ h; omega)]; simp
      obtain ⟨x,hx,hxn⟩:=need_get hws ((pos + d) / 8)
      obtain ⟨r24,s1,s2,-,-,s3⟩:=aslS_spec (H:=H11) (hb.bytes H11) (lo:=some (I d)) (hi:=none) (l:=d) (k:=bs.length) (by simp [abnd]) rfl kd (Nat.le_refl _)
      obtain ⟨r27,t1,t2,-,-,-⟩:=aslS_spec (H:=H11) s2 (lo:=none) (hi:=some (I m)) (l:=0) (k:=m) rfl (by simp [abnd]) (by omega) (by omega)
      have t3 : zaZ H11 1 r27=some (encB ((bs.drop d).take m),m):=by
       rw [t2]
       simp [encB_take,encB_drop]
       rw [List.take_of_length_le (l:=bs.drop d) (by simp)]
      have hbl2 : ((bs.drop d).take m).length=m:=by rw [List.length_take,List.length_drop]; omega
      obtain ⟨p,q,dd,H29,u1,u2,u3,u4,u5,u6,u7⟩:=sl_copy (a:=posL L ((pos + d) / 8)) (b:=pos + d - (pos + d) / 8 * 8) (k:=((pos + d) % 8).toNat) q2 q3 hx t3 (by omega) rfl (by omega)
      rw [hbl2] at u4
      simp [q1,z2,u1,u2,abI_mul (a:=(pos + d) / 8) (b:=8) (by omega) (by omega),abI_sub (a:=pos + d) (b:=(pos + d) / 8 * 8) (by omega) (by omega),u3,abI_sub (a:=pos + d) (b:=pos) (by omega) (by omega),show pos + (d : Int) - pos=d by omega,s1,t1,u4,abI_add (a:=j) (b:=1) (by omega) (by omega)]
      rw [put_set (need_srt hws _) hx,hxn] at u7
      have hnp : putL (needL L ((pos + d) / 8)) ((pos + d) / 8) ((pos + d) % 8).toNat ((bs.drop d).take m)=writeL l pos (bs.take (d + m)):=by
       show needPut L (pos + d) _=_
       rw [wr_one hws (by omega) (fun h => by rw [h] at hbl2; simp at hbl2; omega),← hL,List.take_add,wr_app,htl]
      rw [hnp] at u7
      have hll : (needL L ((pos + d) / 8)).length=(writeL l pos (bs.take (d + m))).length:=by rw [← hnp]; simp [putL]
      rw [hll] at u7
      refine hR (n - 1) _ _ _ _ _ _ _ _ (by omega) ⟨j + 1,d + m,w',by omega,rfl,rfl,rfl,rfl,rfl,rfl,rfl, ?_, ?_,u7,q3,fun i hi => hid' i (by omega) (kid i hi),by omega, ?_,by omega⟩
      ·rw [u6 0 (hid' 0 (by omega) (kid 0 (by omega)))]; exact q1
      ·rw [u6 1 (hid' 1 (by omega) (kid 1 (by omega)))]; exact z1
      ·have:=congrArg List.tail kp
       rw [List.tail_drop] at this
       rw [this,List.tail_cons,show pos + (d : Int) + m=pos + ((d + m : Nat) : Int) by omega,show ((bs.length - d : Nat) : Int) - m=((bs.length - (d + m) : Nat) : Int) by omega]
       rfl
     ·have hd' : d=bs.length:=by omega
      subst hd'
      rw [cutsS_stop (by omega)] at kp
      have hjl : ¬ j < parts.length:=fun h => by
       have:=congrArg List.length kp
       rw [List.length_drop] at this; simp at this; omega
      rw [List.take_length] at kw
      have hH0:=(List.getElem?_eq_some_iff.1 k0).1
      have hH1:=(List.getElem?_eq_some_iff.1 k1).1
      have hko:=zpZ ko
      have hmx : max (pos + (bs.length : Int)) size=max size (pos + bs.length):=by omega
      simp [hjl,k0,hb.len,abI_add (a:=pos) (b:=bs.length) (by omega) (by omega),hmx]
      rw [ast_ptr (n:=1) (off:=0) (xs:=[I (max size (pos + bs.length))]) (cs:=[I size,w]) rfl k0 rfl (by simp)]
      simp [hH0,rdCells]
      rw [ast_ptr (n:=2) (off:=0) (xs:=[I (max size (pos + bs.length)),w]) (cs:=[I 0,nilSl]) (by simp [hko]) ((List.getElem?_set_ne (by omega)).trans k1) rfl (by simp)]
      simp [hH1]
      exact ContK.some hw (zbZ kw fun i hi => by
       have h2 : 2≤i:=Nat.le_of_not_lt fun h => kid i h hi
       rw [List.getElem?_set_ne (by omega),List.getElem?_set_ne (by omega)])
    ·simp only [List.take_zero,writeL]
     exact zbZ a3 fun i hi => by
      have h2 : 2≤i:=Nat.le_of_not_lt fun h => id0 i h hi
      rw [List.getElem?_set_ne (by omega)]
  ·have hn : writeC (size,l) pos bs=none:=if_neg (fun h => h2 h.2)
   have h2' : ¬ (0≤pos∧bs.length≤4096∧pos≤1099511627776 - bs.length):=h2
   simp [h2',ast]
   exact ContK.none hn
 ·have hn : writeC (size,l) pos bs=none:=if_neg (fun h => h1 h.1)
  simp [h1,ast]
  exact ContK.none hn
end Go.Proofs.YtlbilcpnjgkpjaaGreat.Av
end
section
namespace Go.Proofs.YtlbilcpnjgkpjaaGreat.Av
open Go Go.RowKit
theorem sl_no {H : AH} {w : AV} {l : List Ext} {n k : Nat} {a : Int} {x : Ext} (hw : zaZ H 9 w=some (l.flatMap encE,n)) (hx : l[k]? = some x) (ha : a=k) :
  ∃ p q,aixS 9 w (I a)=some p∧ashift 0 p=some q∧ald false 1 H q=some (I x.no)∧ald true 9 H p=some (.agg (encE x)):=by
 have hk:=(List.getElem?_eq_some_iff.1 hx).1
 have hn : n=l.length:=by have h1:=zbwZ hw; have h2:=flatMap_len zcbZ l; omega
 obtain ⟨p,c,h1,h2,h3,h4⟩:=aixS_spec hw ha (show k < n by omega)
 obtain ⟨q,h5,h6⟩:=ashift_at (k:=0) h2
 have hc : c.take 9=encE x:=by
  rw [h3,zelZ zcbZ hx,List.take_append_of_le_length (by rw [zcbZ]; omega),List.take_of_length_le (by rw [zcbZ]; omega)]
 refine ⟨p,q,h1,h5, ?_, ?_⟩
 ·rw [ald_at h6 (by omega) (by simp; omega),zeZ]
  have:=congrArg (fun l => l[0]?) hc
  simp only [List.drop_zero] at this ⊢
  rw [List.getElem?_take_of_lt (by omega)] at this
  exact this
 ·rw [ald_at h2 (by omega) h4,rdCells_agg (by omega),List.drop_zero,hc]
end Go.Proofs.YtlbilcpnjgkpjaaGreat.Av
end
section
namespace Go.Proofs.YtlbilcpnjgkpjaaGreat.Av
open Go Go.RowKit
section
variable {κ α : Type} [DecidableEq κ] {c : κ→κ→Int} {key : α→κ}
def atK (key : α→κ) (l : List α) (k : κ) : Option α:=l.find? (fun x => decide (key x=k))
theorem atK_has {l : List α} {k : κ} (h : hasK key l k) : ∃ x,atK key l k=some x∧x ∈ l∧key x=k:=by
 obtain ⟨y,hy,e⟩:=h
 unfold atK
 cases hf : l.find? (fun x => decide (key x=k)) with
 | none => rw [List.find?_eq_none] at hf; have:=hf y hy; simp [e] at this
 | some x => exact ⟨x,rfl,List.mem_of_find?_eq_some hf,by simpa using List.find?_some hf⟩
theorem atK_none {l : List α} {k : κ} (h : ¬ hasK key l k) : atK key l k=none:=by
 unfold atK
 rw [List.find?_eq_none]
 intro x hx
 simp only [decide_eq_true_eq]
 exact fun e => h ⟨x,hx,e⟩
theorem atK_eq (hc : KO c) {l : List α} (hs : srtK c key l) {x : α} (hx : x ∈ l) : atK key l (key x)=some x:=by
 obtain ⟨y,h1,h2,h3⟩:=atK_has (l:=l) (k:=key x) ⟨x,hx,rfl⟩
 rw [h1,srtK_uniq hc hs h2 hx h3]
theorem posK_atK (hc : KO c) {l : List α} (hs : srtK c key l) {k : κ} (h : hasK key l k) : ∃ x,l[posK c key l k]? = some x∧atK key l k=some x∧key x=k:=by
 obtain ⟨x,h1,rfl⟩:=(hasK_iff hc hs).1 h
 exact ⟨x,h1,atK_eq hc hs (List.mem_of_getElem? h1),rfl⟩
end
theorem srtK_map {l : List NdV} : srtK cmpI Nd.ino (l.map NdV.nd) ↔ srtK cmpI NdV.ino l:=by
 unfold srtK; rw [List.pairwise_map]
theorem hasK_map {l : List NdV} {k : Int} : hasK Nd.ino (l.map NdV.nd) k ↔ hasK NdV.ino l k:=by
 constructor
 ·rintro ⟨x,hx,e⟩
  obtain ⟨y,hy,rfl⟩:=List.mem_map.1 hx
  exact ⟨y,hy,e⟩
 ·rintro ⟨y,hy,e⟩
  exact ⟨y.nd,List.mem_map_of_mem hy,e⟩
theorem posK_map {l : List NdV} {k : Int} : posK cmpI Nd.ino (l.map NdV.nd) k=posK cmpI NdV.ino l k:=by
 unfold posK
 rw [List.takeWhile_map,List.length_map]
 rfl
theorem named_p {ns : List Nm} {a b : AV} {dv : List NdV} (ha : SV encN 2 ns a) (hb : SV encD 3 dv b) (hs : srtK cmpN Nm.name ns) (hl : ns.length≤281474976710656) (s : List UInt8) :
  BPure Tryz.prog 81 [.agg [a,b],S (bstr s)] (.tup [I (posK cmpN Nm.name ns s),B (decide (hasK Nm.name ns s))]):=BPure.val (by simp [noIdss,noIds,ha.1,hb.1]) rfl (image_named_ok (by
 unfold image_named
 have oa:=SV.oneA ha
 have ob:=SV.oneA hb
 simp [oa,ob]
 refine bP_pure (srch_N ha hs hl s) ?_
 simp))
theorem node_p {ns : List Nm} {a b : AV} {dv : List NdV} (ha : SV encN 2 ns a) (hb : SV encD 3 dv b) (hs : srtK cmpI NdV.ino dv) (hl : dv.length≤281474976710656) (no : Int) :
  BPure Tryz.prog 82 [.agg [a,b],I no] (.tup [I (posK cmpI NdV.ino dv no),B (decide (hasK NdV.ino dv no))]):=BPure.val (by simp [noIdss,noIds,ha.1,hb.1]) rfl (image_node_ok (by
 unfold image_node
 have oa:=SV.oneA ha
 have ob:=SV.oneA hb
 simp [oa,ob]
 refine bP_pure (srch_D hb hs hl no) ?_
 simp))
theorem cloneE_p {l : List Ext} {v : AV} (hv : SV encE 9 l v) (hl : l.length≤1000000000) : ∃ R,SV encE 9 l R∧BPure Tryz.prog 90 [v] R:=by
 obtain ⟨r,X,⟨-,h1,-,-⟩,h2⟩:=ext_Clone_c (hv.2 []) hl
 exact BPure.sl (by simp [noIdss,hv.1]) (zgiZ fun x _ => zluZ x) ⟨r,X,h1,h2⟩
theorem copied_p {l : List Ext} {v : AV} {size : Int} (hv : SV encE 9 l v) (hl : l.length≤1000000000) : ∃ R,SV encE 9 l R∧BPure Tryz.prog 61 [.agg [I size,v]] (.agg [I size,R]):=by
 obtain ⟨R,hR,hc⟩:=cloneE_p hv hl
 refine ⟨R,hR,BPure.val (by simp [noIdss,noIds,hv.1]) (by simp [noIds,noIdss,hR.1]) (image_copied_ok ?_)⟩
 unfold image_copied
 have o1:=SV.oneA hv
 have o2:=SV.oneA hR
 simp [o1]
 refine bP_of hc ?_
 simp [o2,zbuZ o2,ast,splice,rdCells]
def nameI (ns : List Nm) (s : List UInt8) : Int:=match atK Nm.name ns s with
 | some x => x.ino
 | none => 0
def hasI (ns : List Nm) (ds : List Nd) (s : List UInt8) : Prop:=mayI ns ds∧hasK Nm.name ns s
instance (ns : List Nm) (ds : List Nd) (s : List UInt8) : Decidable (hasI ns ds s):=by unfold hasI; infer_instance
def findI (ns : List Nm) (ds : List Nd) (s : List UInt8) : Int:=if hasI ns ds s then nameI ns s else 0
theorem Find_p {ns : List Nm} {ds : List Nd} {v : AV} (hv : ImV ns ds v) (hb : Sm ns ds) (s : List UInt8) : BPure Tryz.prog 63 [v,S (bstr s)] (.tup [I (findI ns ds s),B (decide (hasI ns ds s))]):=BPure.val (by have:=hv.noIds; simpa [noIdss,noIds] using this) rfl (image_Find_ok (by
 have hv0:=hv
 obtain ⟨a,b,dv,rfl,ha,hbv,rfl⟩:=hv
 unfold image_Find
 have oa:=SV.oneA ha
 have ob:=SV.oneA hbv
 simp [oa,ob,rdCells]
 refine bP_pure (May_p hv0 hb) ?_
 by_cases hm : mayI ns (dv.map NdV.nd)
 ·simp [hm,rdCells]
  refine bC_of (named_p ha hbv hm.1.2.2.1 (by have:=hb.1; omega) s _) ?_
  by_cases hh : hasK Nm.name ns s
  ·obtain ⟨x,h1,h2,h3⟩:=posK_atK koN hm.1.2.2.1 hh
   have e : findI ns (dv.map NdV.nd) s=x.ino:=by unfold findI nameI; rw [if_pos ⟨hm,hh⟩,h2]
   have e2 : hasI ns (dv.map NdV.nd) s:=⟨hm,hh⟩
   simp [hh,ha.idx encN_len h1 rfl,encN_1,e,e2]
  ·have e2 : ¬ hasI ns (dv.map NdV.nd) s:=fun h => hh h.2
   have e : findI ns (dv.map NdV.nd) s=0:=if_neg e2
   simp [hh,e,e2]
 ·have e2 : ¬ hasI ns (dv.map NdV.nd) s:=fun h => hm h.1
  have e : findI ns (dv.map NdV.nd) s=0:=if_neg e2
  simp [hm,e,e2]))
end Go.Proofs.YtlbilcpnjgkpjaaGreat.Av
end
section
namespace Go.Proofs.YtlbilcpnjgkpjaaGreat.Av
open Go Go.RowKit
def hasG (ns : List Nm) (ds : List Nd) (no : Int) : Prop:=mayI ns ds∧hasK Nd.ino ds no
instance (ns : List Nm) (ds : List Nd) (no : Int) : Decidable (hasG ns ds no):=by unfold hasG; infer_instance
def getN (ns : List Nm) (ds : List Nd) (no : Int) : Nd:=if hasG ns ds no then (atK Nd.ino ds no).getD ⟨0,0,[]⟩ else ⟨0,0,[]⟩
theorem atK_map {dv : List NdV} {no : Int} {x : NdV} (h : atK NdV.ino dv no=some x) : atK Nd.ino (dv.map NdV.nd) no=some x.nd:=by
 unfold atK at h ⊢
 rw [List.find?_map]
 show Option.map NdV.nd (dv.find? fun x => decide (x.nd.ino=no))=_
 rw [show (dv.find? fun x => decide (x.nd.ino=no))=some x from h]
 rfl
theorem Get_p {ns : List Nm} {ds : List Nd} {v : AV} (hv : ImV ns ds v) (hb : Sm ns ds) (no : Int) : ∃ R,SV encE 9 (getN ns ds no).l R∧BPure Tryz.prog 66 [v,I no] (.tup [.agg [I (getN ns ds no).size,R],B (decide (hasG ns ds no))]):=by
 have hv0:=hv
 obtain ⟨a,b,dv,rfl,ha,hbv,rfl⟩:=hv
 have oa:=SV.oneA ha
 have ob:=SV.oneA hbv
 by_cases hh : hasG ns (dv.map NdV.nd) no
 ·have hm:=hh.1
  have hs:=srtK_map.1 hm.2.2.1
  have hk:=hasK_map.1 hh.2
  obtain ⟨x,h1,h2,h3⟩:=posK_atK koI hs hk
  have e : getN ns (dv.map NdV.nd) no=x.nd:=by unfold getN; rw [if_pos hh,atK_map h2]; rfl
  rw [e]
  obtain ⟨R,hR,hc⟩:=copied_p (size:=x.nd.size) x.h (by have:=hb.2.2.2 x.nd (List.mem_map_of_mem (List.mem_of_getElem? h1)); omega)
  refine ⟨R,hR,BPure.val (by have:=hv0.noIds; simpa [noIdss,noIds] using this) (by simp [noIds,noIdss,hR.1]) (image_Get_ok ?_)⟩
  unfold image_Get
  simp [oa,ob,rdCells]
  refine bP_pure (May_p hv0 hb) ?_
  simp [hm,rdCells]
  refine bC_of (node_p ha hbv hs (by have:=hb.2.1; simp at this; omega) no _) ?_
  simp [hk,hbv.idx encD_len h1 rfl,encD_c]
  refine bP_pure hc ?_
  have o2:=SV.oneA hR
  simp [o2,zbuZ o2,ast,splice,rdCells,hh]
 ·have e : getN ns (dv.map NdV.nd) no=⟨0,0,[]⟩:=if_neg hh
  rw [e]
  refine ⟨nilSl,SV.nil,BPure.val (by have:=hv0.noIds; simpa [noIdss,noIds] using this) rfl (image_Get_ok ?_)⟩
  unfold image_Get
  simp [oa,ob,rdCells]
  refine bP_pure (May_p hv0 hb) ?_
  by_cases hm : mayI ns (dv.map NdV.nd)
  ·have hs:=srtK_map.1 hm.2.2.1
   have hk : ¬ hasK NdV.ino dv no:=fun h => hh ⟨hm,hasK_map.2 h⟩
   simp [hm,rdCells]
   refine bC_of (node_p ha hbv hs (by have:=hb.2.1; simp at this; omega) no _) ?_
   simp [hk,ast,splice,rdCells,hh]
  ·simp [hm,ast,splice,rdCells,hh]
def sumL (ds : List Nd) : Nat:=(ds.map fun d => d.l.length).sum
def usedI (ns : List Nm) (ds : List Nd) : Int:=if mayI ns ds then sumL ds else 0
theorem sumL_snoc {ds : List Nd} {d : Nd} : sumL (ds ++ [d])=sumL ds + d.l.length:=by simp [sumL]
theorem sumL_le {N : Nat} : ∀ {ds : List Nd},(∀ d ∈ ds,d.l.length≤N)→sumL ds≤ds.length * N
 | [],_ => by simp [sumL]
 | d :: ds,h => by
  have ih:=sumL_le (ds:=ds) fun x hx => h x (by simp [hx])
  have:=h d (by simp)
  unfold sumL at ih ⊢
  rw [List.map_cons,List.sum_cons,List.length_cons,Nat.succ_mul]
  omega
theorem sumL_take {ds : List Nd} (h : ∀ d ∈ ds,d.l.length≤1000000) (hn : ds.length≤100000) (k : Nat) : sumL (ds.take k)≤100000000000:=by
 have h1:=sumL_le (N:=1000000) (ds:=ds.take k) fun d hd => h d (List.mem_of_mem_take hd)
 have : (ds.take k).length≤100000:=by rw [List.length_take]; omega
 have:=Nat.mul_le_mul_right 1000000 this
 omega
theorem Used_p {ns : List Nm} {ds : List Nd} {v : AV} (hv : ImV ns ds v) (hb : Sm ns ds) : BPure Tryz.prog 97 [v] (I (usedI ns ds)):=BPure.val hv.noIds rfl (image_Used_ok (by
 have hv0:=hv
 obtain ⟨a,b,dv,rfl,ha,hbv,rfl⟩:=hv
 have oa:=SV.oneA ha
 have ob:=SV.oneA hbv
 have b2:=hb.2.1
 unfold image_Used
 simp [oa,ob,rdCells]
 refine bP_pure (May_p hv0 hb) ?_
 by_cases hm : mayI ns (dv.map NdV.nd)
 ·simp [hm,hbv.len]
  have e : usedI ns (dv.map NdV.nd)=sumL (dv.map NdV.nd):=if_pos hm
  rw [e]
  refine image_Used_L7_rule (fun n x3 x10 x11 x12 H' => ∃ k : Nat,k + n=dv.length∧x3=I (sumL ((dv.map NdV.nd).take k))∧x10=b∧x11=I dv.length∧x12=I k) ?_ dv.length ⟨0,by omega,rfl,rfl,rfl,rfl⟩
  rintro n x3 x10 x11 x12 H' R hR ⟨k,hk,rfl,rfl,rfl,rfl⟩
  unfold zmjZ
  rw [List.length_map] at b2
  rcases Nat.lt_or_ge k dv.length with h | h
  ·have hx:=List.getElem?_eq_getElem h
   generalize dv[k]=d at hx
   have hx2 : (dv.map NdV.nd)[k]? = some d.nd:=by rw [List.getElem?_map,hx]; rfl
   have h1:=sumL_take hb.2.2.2 (by simpa using b2) k
   have h2:=hb.2.2.2 d.nd (List.mem_of_getElem? hx2)
   have ea : ast 3 (H' ++ [some (.cells [I 0,I 0,nilSl])]) (.ptr H'.length 0) (.agg (encD d))=some (H' ++ [some (.cells (encD d))]):=by
    have:=SV.oneA d.h
    simp [ast,encD,splice,this]
   simp [h,hbv.idx encD_len hx rfl,rdh_D,ea]
   simp [encD,d.h.len,abI_add (a:=k) (b:=1) (by omega) (by omega),abI_add (a:=(sumL (List.take k (dv.map NdV.nd)) : Int)) (b:=d.nd.l.length) (by omega) (by omega)]
   exact hR (n - 1) _ _ _ _ _ (by omega) ⟨k + 1,by omega,by rw [take_snoc hx2,sumL_snoc]; simp,rfl,rfl,by simp⟩
  ·have : (dv.map NdV.nd).take k=dv.map NdV.nd:=List.take_of_length_le (by simp; omega)
   simp [show ¬ k < dv.length by omega,this]
 ·have e : usedI ns (dv.map NdV.nd)=0:=if_neg hm
  simp [hm,e]))
def sameI (ns : List Nm) (ds : List Nd) (ms : List Nm) (es : List Nd) : Prop:=ns=ms∧ds=es
instance (ns : List Nm) (ds : List Nd) (ms : List Nm) (es : List Nd) : Decidable (sameI ns ds ms es):=by unfold sameI; infer_instance
end Go.Proofs.YtlbilcpnjgkpjaaGreat.Av
end
section
namespace Go.Proofs.YtlbilcpnjgkpjaaGreat.Av
open Go Go.RowKit
theorem own_at {α : Type} {enc : α→List AV} {sz : Nat} (hsz : ∀ x,(enc x).length=sz) (h0 : 0 < sz) {H : AH} {v : AV} {l : List α} {k : Nat} {x : α} (hs : zaZ H sz v=some (l.flatMap enc,l.length)) (ho : ownedS v=true) (hx : l[k]? = some x) :
  ∃ o off cells,aixS sz v (I k)=some (.ptr o off)∧o ∈ idS v∧H[o]? = some (some (.cells cells))∧off + sz≤cells.length∧(∀ j,j < sz→cells[off + j]? = (enc x)[j]?) ∧
   ∀ y q xs,enc y=over (enc x) q xs→q + xs.length≤sz→zaZ (H.set o (some (.cells (splice cells (off + q) xs)))) sz v=some ((l.set k y).flatMap enc,l.length):=by
 have hk:=(List.getElem?_eq_some_iff.1 hx).1
 obtain ⟨o,off,cap,cells,rfl,h1,h2,h3⟩:=owned_sl hs ho (by omega)
 have hol:=(List.getElem?_eq_some_iff.1 h1).1
 have hmul : (k + 1) * sz≤l.length * sz:=Nat.mul_le_mul_right _ (by omega)
 have hms : (k + 1) * sz=k * sz + sz:=Nat.succ_mul _ _
 refine ⟨o,off + k * sz,cells, ?_,by simp [idS],h1,by omega,fun j hj => ?_,fun y q xs hy hq => ?_⟩
 ·simp [aixS,aint]
  omega
 ·have e : (l.flatMap enc)[k * sz + j]? = cells[off + k * sz + j]?:=by
   rw [h3,List.getElem?_take,if_pos (by omega),List.getElem?_drop]; congr 1; omega
  rw [← e]
  have e2:=flat_drop hsz l k
  have e3 : (l.flatMap enc)[k * sz + j]? = ((l.flatMap enc).drop (k * sz))[j]?:=by rw [List.getElem?_drop]
  rw [e3,e2,List.drop_eq_getElem_cons hk,(List.getElem?_eq_some_iff.1 hx).2,List.flatMap_cons,List.getElem?_append_left (by rw [hsz]; exact hj)]
 ·have hxs : off + k * sz + q + xs.length≤cells.length:=by omega
  rw [splice_eq _ _ _ hxs]
  show zaZ (H.set o (some (.cells (over cells (off + k * sz + q) xs)))) sz _=_
  rw [Nat.add_assoc,zbdZ (c:=over cells (off + (k * sz + q)) xs) (by simp [hol]) (by rw [over_len (by omega)]; exact h2)]
  rw [over_part h2 (by omega),← h3,over_flat hsz hx hy hq]
theorem size_nm (w : World) : (Go.sizeOf 116).run Tryz.prog w = .ok 2 w:=zcmZ (by kernel_rfl)
theorem size_nd (w : World) : (Go.sizeOf 119).run Tryz.prog w = .ok 3 w:=zcmZ (by kernel_rfl)
theorem ov_nm {H : AH} {oa offa la ea ka ob offb lb eb kb : Nat} {ca cb : List AV} (ha : H[oa]? = some (some (.cells ca))) (hbo : H[ob]? = some (some (.cells cb))) (hne : oa ≠ ob) (hka : ka ≠ 0) (hkb : kb ≠ 0) (hcb : cb ≠ []) :
  ExtR Tryz.prog 105 [.sl oa offa la ea (.ex ka),.sl ob offb lb eb (.ex kb)] H (B false) :=
 ExtR.apart (tS:=70) (tR:=4) (fn:=Tryz.f105) (by kernel_rfl) (by kernel_rfl) (by kernel_rfl) (by kernel_rfl) (by kernel_rfl) (by kernel_rfl) size_nm ha hbo hne hka hkb hcb
theorem ov_nd {H : AH} {oa offa la ea ka ob offb lb eb kb : Nat} {ca cb : List AV} (ha : H[oa]? = some (some (.cells ca))) (hbo : H[ob]? = some (some (.cells cb))) (hne : oa ≠ ob) (hka : ka ≠ 0) (hkb : kb ≠ 0) (hcb : cb ≠ []) :
  ExtR Tryz.prog 107 [.sl oa offa la ea (.ex ka),.sl ob offb lb eb (.ex kb)] H (B false) :=
 ExtR.apart (tS:=71) (tR:=4) (fn:=Tryz.f107) (by kernel_rfl) (by kernel_rfl) (by kernel_rfl) (by kernel_rfl) (by kernel_rfl) (by kernel_rfl) size_nd ha hbo hne hka hkb hcb
def zN : List AV:=[S ⟨#[]⟩,I 0]
def zD : List AV:=[I 0,I 0,nilSl]
theorem insN_c {H : AH} {s : AV} {l : List Nm} {i oj : Nat} {x : Nm} (hs : zaZ H 2 s=some (l.flatMap encN,l.length)) (ho : ownedS s=true) (hc : capOk s l.length) (hi : i≤l.length) (hn : l.length≤1000000) (hv : H[oj]? = some (some (.cells (encN x)))) (hne : oj ∉ idS s) :
  ∃ r H',InsG 2 H s ((l.take i ++ x :: l.drop i).flatMap encN) l.length r H'∧BCall Tryz.prog 83 [s,I i,.sl oj 0 1 2 (.ex 1)] H r H':=by
 have:=ins_ok (P:=Tryz.prog) (sz:=2) (bytes:=24) (zc:=zN) (f:=83) (ov:=105) (rot:=106) (by omega) rfl
  (fun a0 a1 a2 H K h => zgtZ h) hs ho hc hi hn (by omega) hv (encN_len x) hne (fun m => by simp [encN,Bels,Bel]) (fun h1 h2 h3 h4 => ov_nm hv h1 h2 (by omega) h3 h4)
 rwa [flat_take encN_len,flat_drop encN_len,List.append_assoc,show encN x ++ (l.drop i).flatMap encN=(x :: l.drop i).flatMap encN from rfl,← List.flatMap_append] at this
theorem insD_c {H : AH} {s : AV} {l : List NdV} {i oj : Nat} {x : NdV} (hs : zaZ H 3 s=some (l.flatMap encD,l.length)) (ho : ownedS s=true) (hc : capOk s l.length) (hi : i≤l.length) (hn : l.length≤1000000) (hv : H[oj]? = some (some (.cells (encD x)))) (hne : oj ∉ idS s) :
  ∃ r H',InsG 3 H s ((l.take i ++ x :: l.drop i).flatMap encD) l.length r H'∧BCall Tryz.prog 84 [s,I i,.sl oj 0 1 3 (.ex 1)] H r H':=by
 have:=ins_ok (P:=Tryz.prog) (sz:=3) (bytes:=40) (zc:=zD) (f:=84) (ov:=107) (rot:=108) (by omega) rfl
  (fun a0 a1 a2 H K h => zhbZ h) hs ho hc hi hn (by omega) hv (encD_len x) hne (fun m => zimZ (noIdss_encD x)) (fun h1 h2 h3 h4 => ov_nd hv h1 h2 (by omega) h3 h4)
 rwa [flat_take encD_len,flat_drop encD_len,List.append_assoc,show encD x ++ (l.drop i).flatMap encD=(x :: l.drop i).flatMap encD from rfl,← List.flatMap_append] at this
theorem delN_c {H : AH} {s : AV} {l : List Nm} {i : Nat} (hs : zaZ H 2 s=some (l.flatMap encN,l.length)) (ho : ownedS s=true) (hc : capOk s l.length) (hi : i < l.length) (hn : l.length≤1000000) :
  ∃ r H',DelG 2 H s ((l.take i ++ l.drop (i + 1)).flatMap encN) (l.length - 1) r H'∧BCall Tryz.prog 88 [s,I i,I ((i : Int) + 1)] H r H':=by
 obtain ⟨m,hm⟩ : ∃ m,l.length=m + 1:=⟨l.length - 1,by omega⟩
 rw [hm] at hs hc
 obtain ⟨r,H',h1,h2⟩:=del_ok (sz:=2) (bytes:=24) (zc:=zN) (by omega) rfl hs ho hc (show i≤m by omega) (by omega) (by omega)
 have h2' : zcgZ s (I i) (I ((i : Int) + 1)) H fun r' H'' => r'=r∧H''=H':=h2
 obtain ⟨r2,H2,⟨rfl,rfl⟩,h3⟩:=zgsZ h2'
 rw [flat_take encN_len,flat_drop encN_len,← List.flatMap_append] at h1
 exact ⟨_,_,by rw [hm]; exact h1,h3⟩
theorem delD_c {H : AH} {s : AV} {l : List NdV} {i : Nat} (hs : zaZ H 3 s=some (l.flatMap encD,l.length)) (ho : ownedS s=true) (hc : capOk s l.length) (hi : i < l.length) (hn : l.length≤1000000) :
  ∃ r H',DelG 3 H s ((l.take i ++ l.drop (i + 1)).flatMap encD) (l.length - 1) r H'∧BCall Tryz.prog 89 [s,I i,I ((i : Int) + 1)] H r H':=by
 obtain ⟨m,hm⟩ : ∃ m,l.length=m + 1:=⟨l.length - 1,by omega⟩
 rw [hm] at hs hc
 obtain ⟨r,H',h1,h2⟩:=del_ok (sz:=3) (bytes:=40) (zc:=zD) (by omega) rfl hs ho hc (show i≤m by omega) (by omega) (by omega)
 have h2' : zcfZ s (I i) (I ((i : Int) + 1)) H fun r' H'' => r'=r∧H''=H':=h2
 obtain ⟨r2,H2,⟨rfl,rfl⟩,h3⟩:=zhaZ h2'
 rw [flat_take encD_len,flat_drop encD_len,← List.flatMap_append] at h1
 exact ⟨_,_,by rw [hm]; exact h1,h3⟩
structure ImH (L oi : Nat) (ns : List Nm) (dv : List NdV) (a b : AV) (H : AH) : Prop where
 obj : H[oi]? = some (some (.cells [a,b]))
 lo : oi ∉ idS a∧oi ∉ idS b
 len : L≤H.length
 sa : zaZ H 2 a=some (ns.flatMap encN,ns.length)
 oa : ownedS a=true
 ca : capOk a ns.length
 ia : ∀ i ∈ idS a,L≤i
 sb : zaZ H 3 b=some (dv.flatMap encD,dv.length)
 ob : ownedS b=true
 cb : capOk b dv.length
 ib : ∀ i ∈ idS b,L≤i
 ab : ∀ i ∈ idS a,i ∉ idS b
def FrL (L oi : Nat) (H H' : AH) : Prop:=H.length≤H'.length∧∀ j,j < L→j ≠ oi→H'[j]? = H[j]?
theorem FrL.refl (L oi : Nat) (H : AH) : FrL L oi H H:=⟨Nat.le_refl _,fun _ _ _ => rfl⟩
theorem FrL.trans {L oi : Nat} {A B C : AH} (h : FrL L oi A B) (k : FrL L oi B C) : FrL L oi A C:=⟨Nat.le_trans h.1 k.1,fun j h1 h2 => (k.2 j h1 h2).trans (h.2 j h1 h2)⟩
theorem ImH.noA {L oi : Nat} {ns : List Nm} {dv : List NdV} {a b : AV} {H : AH} (h : ImH L oi ns dv a b H) : oi ∉ idS a:=h.lo.1
theorem ImH.noB {L oi : Nat} {ns : List Nm} {dv : List NdV} {a b : AV} {H : AH} (h : ImH L oi ns dv a b H) : oi ∉ idS b:=h.lo.2
theorem ImH.lend {L oi : Nat} {ns : List Nm} {dv : List NdV} {a b : AV} {H : AH} (h : ImH L oi ns dv a b H) : ∃ Ra Rb,SV encN 2 ns Ra∧SV encD 3 dv Rb∧FZ H (.agg [a,b]) (.agg [Ra,Rb]):=by
 obtain ⟨Ra,h1,f1⟩:=FZ.sv h.sa (zgiZ fun x _ => noIdss_encN x)
 obtain ⟨Rb,h2,f2⟩:=FZ.sv h.sb (zgiZ fun x _ => noIdss_encD x)
 exact ⟨Ra,Rb,h1,h2,FZ.agg (FZs.cons f1 (FZs.cons f2 FZs.nil))⟩
theorem ImH.grew {L oi : Nat} {ns : List Nm} {dv : List NdV} {a b : AV} {H H' : AH} (h : ImH L oi ns dv a b H) (g : Grew H H') : ImH L oi ns dv a b H' :=
 ⟨g.cells h.obj,h.lo,Nat.le_trans h.len g.1,g.slice h.sa,h.oa,h.ca,h.ia,g.slice h.sb,h.ob,h.cb,h.ib,h.ab⟩
theorem ImH.newA {L oi : Nat} {ns ms : List Nm} {dv : List NdV} {a b r : AV} {H H' : AH} (h : ImH L oi ns dv a b H) (hl : H.length≤H'.length) (hk : ∀ i,i < H.length→i ∉ idS a→H'[i]? = H[i]?) (h1 : zaZ H' 2 r=some (ms.flatMap encN,ms.length)) (h2 : ownedS r=true) (h3 : capOk r ms.length) (h4 : ∀ i ∈ idS r,i ∈ idS a∨H.length≤i) :
  ∃ H2,ast 1 H' (.ptr oi 0) r=some H2∧ImH L oi ms dv r b H2∧FrL L oi H H2:=by
 have c0 : H'[oi]? = some (some (.cells [a,b])):=by rw [hk oi (List.getElem?_eq_some_iff.1 h.obj).1 h.noA]; exact h.obj
 have hr:=zpZ h2
 have hol1:=(List.getElem?_eq_some_iff.1 h.obj).1
 have nro : oi ∉ idS r:=fun q => (h4 oi q).elim h.noA (fun q => by omega)
 have hle:=h.len
 have hol:=(List.getElem?_eq_some_iff.1 c0).1
 have nr : ∀ i ∈ idS r,L≤i:=fun i hi => (h4 i hi).elim (h.ia i) (fun q => by omega)
 refine ⟨H'.set oi (some (.cells [r,b])), ?_,⟨by simp [hol],⟨nro,h.noB⟩,by simp; omega, ?_,h2,h3,nr, ?_,h.ob,h.cb,h.ib,fun i hi hb => ?_⟩,⟨by simp; omega,fun j h5 h6 => ?_⟩⟩
 ·rw [ast_ptr (n:=1) (off:=0) (xs:=[r]) (cs:=[a,b]) (zbuZ hr) c0 rfl (by simp)]; rfl
 ·exact zbZ h1 fun i hi => List.getElem?_set_ne (fun (e : oi=i) => nro (e ▸ hi))
 ·refine zbZ h.sb fun i hi => ?_
  rw [List.getElem?_set_ne (fun (e : oi=i) => h.noB (e ▸ hi))]
  exact hk i (zcZ h.sb i hi) fun q => h.ab i q hi
 ·rcases h4 i hi with q | q
  ·exact h.ab i q hb
  ·have:=zcZ h.sb i hb; omega
 ·rw [List.getElem?_set_ne (by omega)]
  exact hk j (by omega) fun q => by have:=h.ia j q; omega
theorem ImH.newB {L oi : Nat} {ns : List Nm} {dv ew : List NdV} {a b r : AV} {H H' : AH} (h : ImH L oi ns dv a b H) (hl : H.length≤H'.length) (hk : ∀ i,i < H.length→i ∉ idS b→H'[i]? = H[i]?) (h1 : zaZ H' 3 r=some (ew.flatMap encD,ew.length)) (h2 : ownedS r=true) (h3 : capOk r ew.length) (h4 : ∀ i ∈ idS r,i ∈ idS b∨H.length≤i) :
  ∃ H2,ast 1 H' (.ptr oi 1) r=some H2∧ImH L oi ns ew a r H2∧FrL L oi H H2:=by
 have c0 : H'[oi]? = some (some (.cells [a,b])):=by rw [hk oi (List.getElem?_eq_some_iff.1 h.obj).1 h.noB]; exact h.obj
 have hr:=zpZ h2
 have hol1:=(List.getElem?_eq_some_iff.1 h.obj).1
 have nro : oi ∉ idS r:=fun q => (h4 oi q).elim h.noB (fun q => by omega)
 have hle:=h.len
 have hol:=(List.getElem?_eq_some_iff.1 c0).1
 have nr : ∀ i ∈ idS r,L≤i:=fun i hi => (h4 i hi).elim (h.ib i) (fun q => by omega)
 refine ⟨H'.set oi (some (.cells [a,r])), ?_,⟨by simp [hol],⟨h.noA,nro⟩,by simp; omega, ?_,h.oa,h.ca,h.ia, ?_,h2,h3,nr,fun i ha hi => ?_⟩,⟨by simp; omega,fun j h5 h6 => ?_⟩⟩
 ·rw [ast_ptr (n:=1) (off:=1) (xs:=[r]) (cs:=[a,b]) (zbuZ hr) c0 rfl (by simp)]; rfl
 ·refine zbZ h.sa fun i hi => ?_
  rw [List.getElem?_set_ne (fun (e : oi=i) => h.noA (e ▸ hi))]
  exact hk i (zcZ h.sa i hi) fun q => h.ab i hi q
 ·exact zbZ h1 fun i hi => List.getElem?_set_ne (fun (e : oi=i) => nro (e ▸ hi))
 ·rcases h4 i hi with q | q
  ·exact h.ab i ha q
  ·have:=zcZ h.sa i ha; omega
 ·rw [List.getElem?_set_ne (by omega)]
  exact hk j (by omega) fun q => by have:=h.ib j q; omega
end Go.Proofs.YtlbilcpnjgkpjaaGreat.Av
end
section
namespace Go.Proofs.YtlbilcpnjgkpjaaGreat.Av
open Go Go.RowKit
section
variable {P : Program}
def OpIs (P : Program) (ops : List Oper) (T : List AV) (i : Nat) (need : List Nat) (F : (Nat→AV)→AH→(AV→AH→Prop)→Prop) : Prop :=
 ∃ o,ops[i]? = some o∧o.guard=none∧(∀ j ∈ need,∃ e ∈ o.after,Region.binds .any e=true∧e.on=j)∧∀ vals H K,F vals H K→AStep P (pt ops vals (fun _ => true) T i) H o K
def needsB (o : Oper) (need : List Nat) : Bool:=need.all fun j => o.after.toList.any fun e => Region.binds .any e && Nat.beq e.on j
theorem needsB_ok {o : Oper} {need : List Nat} (h : needsB o need=true) : ∀ j ∈ need,∃ e ∈ o.after,Region.binds .any e=true∧e.on=j:=by
 intro j hj
 have:=List.all_eq_true.1 h j hj
 obtain ⟨e,he,hb⟩:=List.any_eq_true.1 this
 simp only [Bool.and_eq_true] at hb
 exact ⟨e,by simpa using he,hb.1,Nat.eq_of_beq_eq_true hb.2⟩
theorem OpIs.op {ql : FuncId→Bool} {ops : List Oper} {T : List AV} {i : Nat} {need : List Nat} {F : (Nat→AV)→AH→(AV→AH→Prop)→Prop} (o : Oper) (ho : ops[i]? = some o) (hg : o.guard=none) (hn : needsB o need=true) (hb : isBS o.op=false) (hc : ∀ ρ,acall ρ o=none)
  (hF : ∀ vals H K,F vals H K→sOp P ql none0 false (aeval (pt ops vals (fun _ => true) T i)) H o true K) : OpIs P ops T i need F:=by
 refine ⟨o,ho,hg,needsB_ok hn,fun vals H K h => ?_⟩
 obtain ⟨r,H',h1,h2,-⟩:=sOp_one (hF vals H K h)
 rcases h2 with ⟨-,h2 | ⟨h2,h3⟩⟩ | ⟨h2,-⟩
 ·rw [opD_aop hb] at h2
  exact .inl ⟨r,H',h2,h1⟩
 ·exfalso
  unfold wCall at h3
  rw [hc] at h3; exact h3
 ·cases h2
theorem OpIs.call {ops : List Oper} {T : List AV} {i : Nat} {need : List Nat} {F : (Nat→AV)→AH→(AV→AH→Prop)→Prop} (o : Oper) (ho : ops[i]? = some o) (hg : o.guard=none) (hn : needsB o need=true) (k : FuncId) (args : (Nat→AV)→List AV) (hk : goFunc P k=true)
  (hc : ∀ vals,acall (aeval (pt ops vals (fun _ => true) T i)) o=some (k,args vals)) (hF : ∀ vals H K,F vals H K→ACalls P k (args vals) H K) : OpIs P ops T i need F :=
 ⟨o,ho,hg,needsB_ok hn,fun vals H K h => .inr (.inr ⟨k,args vals,hc vals,hk,hF vals H K h⟩)⟩
def valUp (vals : Nat→AV) (i : Nat) (r : AV) : Nat→AV:=fun j => if j=i then r else vals j
theorem ACode.told {id : Nat} {ops : List Oper} {Q : AQ} {T : List AV} {H : AH} (hm : P.follows .mixedOrders=true) (hk : ordOk ops=true) (Inv : AH→(Nat→AV)→(Nat→Bool)→Prop) (v0 : Nat→AV) (h0 : Inv H v0 (fun _ => false))
  (hs : ∀ i,i < ops.length→∃ need F,OpIs P ops T i need F∧∀ (S : Nat→Bool) Hc vals,S i=false→(∀ j ∈ need,S j=true)→Inv Hc vals S→F vals Hc fun r H' => Inv H' (valUp vals i r) (upd S i))
  (last : ∀ Hc vals S,(∀ j,j < ops.length→S j=true)→Inv Hc vals S→Q .normal (pt ops vals (fun _ => true) T ops.length) Hc) : ACode P (.region id ops.toArray true) Q T H:=by
 refine ACode.drawn hm hk (Ω:=AH × (Nat→AV)) (fun ω S => Inv ω.1 ω.2 S) (fun ω => ω.2) (fun ω _ => ω.1) (H,v0) h0 rfl ?_ (fun ω S hS hI => last ω.1 ω.2 S hS hI)
 intro ω S i o hr hI
 obtain ⟨ho,hcl,hSi,haft⟩:=hr
 obtain ⟨need,F,⟨o',ho',hg,hn,hF⟩,hstep⟩:=hs i (List.getElem?_eq_some_iff.1 ho).1
 rw [ho] at ho'
 injection ho' with ho'
 subst ho'
 refine ⟨true,by unfold awanted; rw [hg],fun _ => ?_,fun h => by cases h⟩
 have h1:=hF ω.2 ω.1 _ (hstep S ω.1 ω.2 hSi (fun j hj => by
  obtain ⟨e,he,hb,rfl⟩:=hn j hj
  exact haft e he hb) hI)
 have conv : ∀ r H',Inv H' (valUp ω.2 i r) (upd S i)→∃ ω' : AH × (Nat→AV),Inv ω'.1 ω'.2 (upd S i)∧(∀ j,S j=true→ω'.2 j=ω.2 j)∧ω'.2 i=r∧ω'.1=H':=by
  intro r H' h
  refine ⟨(H',valUp ω.2 i r),h,fun j hj => ?_,by simp [valUp],rfl⟩
  have : j ≠ i:=by rintro rfl; rw [hSi] at hj; cases hj
  simp [valUp,this]
 rcases h1 with ⟨r,H',h2,h3⟩ | ⟨r,h2,h3⟩ | ⟨k,args,h2,h3,h4⟩
 ·exact .inl ⟨r,H',h2,conv _ _ h3⟩
 ·exact .inr (.inl ⟨r,h2,conv _ _ h3⟩)
 ·exact .inr (.inr ⟨k,args,h2,h3,h4.mono conv⟩)
end
end Go.Proofs.YtlbilcpnjgkpjaaGreat.Av
end
section
namespace Go.Proofs.YtlbilcpnjgkpjaaGreat.Av
open Go Go.RowKit
section
variable {P : Program}
theorem OpIs.opB {ql : FuncId→Bool} {ops : List Oper} {T : List AV} {i : Nat} {need : List Nat} {F : (Nat→AV)→AH→(AV→AH→Prop)→Prop} (o : Oper) (ho : ops[i]? = some o) (hg : o.guard=none) (hn : needsB o need=true) (hc : ∀ ρ,acall ρ o=none)
  (hF : ∀ vals H K,F vals H K→sOp P ql none0 false (aeval (pt ops vals (fun _ => true) T i)) H o true K) : OpIs P ops T i need F:=by
 refine ⟨o,ho,hg,needsB_ok hn,fun vals H K h => ?_⟩
 obtain ⟨r,H',h1,h2,-⟩:=sOp_one (hF vals H K h)
 rcases h2 with ⟨-,h2 | ⟨h2,h3⟩⟩ | ⟨h2,-⟩
 ·have e : opD P false (aeval (pt ops vals (fun _ => true) T i)) H o=aop P (aeval (pt ops vals (fun _ => true) T i)) H o:=by unfold opD; simp
  rw [e] at h2
  exact .inl ⟨r,H',h2,h1⟩
 ·exfalso
  unfold wCall at h3
  rw [hc] at h3; exact h3
 ·cases h2
theorem ACode.told2 {id : Nat} {ops : List Oper} {Q : AQ} {T : List AV} {H : AH} (hm : P.follows .mixedOrders=true) (hk : ordOk ops=true) (need : Nat→List Nat) (F : Nat→(Nat→AV)→AH→(AV→AH→Prop)→Prop) (V : Nat→AV) (hp : (Nat→Bool)→AH)
  (ho : ∀ i,i < ops.length→OpIs P ops T i (need i) (F i)) (h0 : hp (fun _ => false)=H)
  (hs : ∀ i,i < ops.length→∀ (S : Nat→Bool) vals,S i=false→(∀ a,S a=true→∀ b ∈ need a,S b=true)→(∀ j ∈ need i,S j=true∧vals j=V j)→F i vals (hp S) fun r H' => r=V i∧H'=hp (upd S i))
  (last : ∀ (S : Nat→Bool) vals,(∀ j,j < ops.length→S j=true∧vals j=V j)→Q .normal (pt ops vals (fun _ => true) T ops.length) (hp S)) : ACode P (.region id ops.toArray true) Q T H:=by
 refine ACode.told hm hk (fun Hc vals S => Hc=hp S∧(∀ j,S j=true→vals j=V j)∧∀ a,S a=true→∀ b ∈ need a,S b=true) (fun _ => undefA) ⟨h0.symm,by simp,by simp⟩ ?_ ?_
 ·intro i hi
  obtain ⟨o,h1,h2,h3,h4⟩:=ho i hi
  -- whatever F tells for one K,it tells for a greater one
  refine ⟨need i,fun vals Hc K => ∃ S,Hc=hp S∧S i=false∧(∀ a,S a=true→∀ b ∈ need a,S b=true)∧(∀ j ∈ need i,S j=true∧vals j=V j)∧K (V i) (hp (upd S i)),⟨o,h1,h2,h3, ?_⟩, ?_⟩
  ·rintro vals Hc K ⟨S,rfl,hS,hcl,hn,hK⟩
   have:=h4 vals (hp S) _ (hs i hi S vals hS hcl hn)
   rcases this with ⟨r,H',a1,rfl,rfl⟩ | ⟨r,a1,rfl,a2⟩ | ⟨k,args,a1,a2,a3⟩
   ·exact .inl ⟨_,_,a1,hK⟩
   ·exact .inr (.inl ⟨_,a1,by rw [a2]; exact hK⟩)
   ·exact .inr (.inr ⟨k,args,a1,a2,a3.mono (by rintro r H' ⟨rfl,rfl⟩; exact hK)⟩)
  ·rintro S Hc vals hSi hn ⟨rfl,hv,hcl⟩
   refine ⟨S,rfl,hSi,hcl,fun j hj => ⟨hn j hj,hv j (hn j hj)⟩,rfl,fun j hj => ?_,fun a ha b hb => ?_⟩
   ·unfold valUp
    by_cases c : j=i
    ·rw [if_pos c,c]
    ·rw [if_neg c]
     unfold upd at hj
     rw [if_neg c] at hj
     exact hv j hj
   ·unfold upd at ha ⊢
    by_cases c : b=i
    ·rw [if_pos c]
    ·rw [if_neg c]
     by_cases c2 : a=i
     ·subst c2; exact hn b hb
     ·rw [if_neg c2] at ha; exact hcl a ha b hb
 ·rintro Hc vals S hS ⟨rfl,h1,h2⟩
  exact last S vals fun j hj => ⟨hS j hj,h1 j (hS j hj)⟩
end
end Go.Proofs.YtlbilcpnjgkpjaaGreat.Av
end
section
namespace Go.Proofs.YtlbilcpnjgkpjaaGreat.Av
open Go Go.RowKit
noncomputable def crNOps : List Oper:=(opsOf (sub [true,true,true,true,false] (bodyOf Tryz.f55))).toList
def crNT (x0 x3 x4 x6 : AV) : List AV:=expand (mk 82 0 [0,3,4,6]) [x0,x3,x4,x6]
theorem crNLen : crNOps.length=16:=by kernel_rfl
theorem crNOrd : ordOk crNOps=true:=by kernel_rfl
theorem crN_e0 (x0 x3 x4 x6 : AV) (vals : Nat→AV) (H : AH) (K : AV→AH→Prop) : sOp Tryz.prog pqb none0 false (aeval (pt crNOps vals (fun _ => true) (crNT x0 x3 x4 x6) 0)) H (crNOps.getD 0 default) true K=gO true (some x0) fun v => K v H:=by kernel_rfl
theorem crN_op0 (x0 x3 x4 x6 : AV) : OpIs Tryz.prog crNOps (crNT x0 x3 x4 x6) 0 [] fun vals H K => gO true (some x0) fun v => K v H:=by
 refine OpIs.opB (ql:=pqb) (crNOps.getD 0 default) (by kernel_rfl) (by kernel_rfl) (by kernel_rfl) (fun ρ => by kernel_rfl) ?_
 intro vals H K h
 rw [crN_e0]
 exact h
theorem crN_e1 (x0 x3 x4 x6 : AV) (vals : Nat→AV) (H : AH) (K : AV→AH→Prop) : sOp Tryz.prog pqb none0 false (aeval (pt crNOps vals (fun _ => true) (crNT x0 x3 x4 x6) 1)) H (crNOps.getD 1 default) true K=gO true (some x0) fun v => K v H:=by kernel_rfl
theorem crN_op1 (x0 x3 x4 x6 : AV) : OpIs Tryz.prog crNOps (crNT x0 x3 x4 x6) 1 [] fun vals H K => gO true (some x0) fun v => K v H:=by
 refine OpIs.opB (ql:=pqb) (crNOps.getD 1 default) (by kernel_rfl) (by kernel_rfl) (by kernel_rfl) (fun ρ => by kernel_rfl) ?_
 intro vals H K h
 rw [crN_e1]
 exact h
theorem crN_e2 (x0 x3 x4 x6 : AV) (vals : Nat→AV) (H : AH) (K : AV→AH→Prop) : sOp Tryz.prog pqb none0 false (aeval (pt crNOps vals (fun _ => true) (crNT x0 x3 x4 x6) 2)) H (crNOps.getD 2 default) true K=gO true (zdZ (vals 1)) fun v => K v H:=by kernel_rfl
theorem crN_op2 (x0 x3 x4 x6 : AV) : OpIs Tryz.prog crNOps (crNT x0 x3 x4 x6) 2 [1] fun vals H K => gO true (zdZ (vals 1)) fun v => K v H:=by
 refine OpIs.opB (ql:=pqb) (crNOps.getD 2 default) (by kernel_rfl) (by kernel_rfl) (by kernel_rfl) (fun ρ => by kernel_rfl) ?_
 intro vals H K h
 rw [crN_e2]
 exact h
theorem crN_e3 (x0 x3 x4 x6 : AV) (vals : Nat→AV) (H : AH) (K : AV→AH→Prop) : sOp Tryz.prog pqb none0 false (aeval (pt crNOps vals (fun _ => true) (crNT x0 x3 x4 x6) 3)) H (crNOps.getD 3 default) true K=gO true (ashift 0 (vals 2)) fun v => K v H:=by kernel_rfl
theorem crN_op3 (x0 x3 x4 x6 : AV) : OpIs Tryz.prog crNOps (crNT x0 x3 x4 x6) 3 [2] fun vals H K => gO true (ashift 0 (vals 2)) fun v => K v H:=by
 refine OpIs.opB (ql:=pqb) (crNOps.getD 3 default) (by kernel_rfl) (by kernel_rfl) (by kernel_rfl) (fun ρ => by kernel_rfl) ?_
 intro vals H K h
 rw [crN_e3]
 exact h
theorem crN_e4 (x0 x3 x4 x6 : AV) (vals : Nat→AV) (H : AH) (K : AV→AH→Prop) : sOp Tryz.prog pqb none0 false (aeval (pt crNOps vals (fun _ => true) (crNT x0 x3 x4 x6) 4)) H (crNOps.getD 4 default) true K=gO true (ald false 1 H (vals 3)) fun v => K v H:=by kernel_rfl
theorem crN_op4 (x0 x3 x4 x6 : AV) : OpIs Tryz.prog crNOps (crNT x0 x3 x4 x6) 4 [3] fun vals H K => gO true (ald false 1 H (vals 3)) fun v => K v H:=by
 refine OpIs.opB (ql:=pqb) (crNOps.getD 4 default) (by kernel_rfl) (by kernel_rfl) (by kernel_rfl) (fun ρ => by kernel_rfl) ?_
 intro vals H K h
 rw [crN_e4]
 exact h
theorem crN_e5 (x0 x3 x4 x6 : AV) (vals : Nat→AV) (H : AH) (K : AV→AH→Prop) : sOp Tryz.prog pqb none0 false (aeval (pt crNOps vals (fun _ => true) (crNT x0 x3 x4 x6) 5)) H (crNOps.getD 5 default) true K=gO true (some x4) fun v => K v H:=by kernel_rfl
theorem crN_op5 (x0 x3 x4 x6 : AV) : OpIs Tryz.prog crNOps (crNT x0 x3 x4 x6) 5 [] fun vals H K => gO true (some x4) fun v => K v H:=by
 refine OpIs.opB (ql:=pqb) (crNOps.getD 5 default) (by kernel_rfl) (by kernel_rfl) (by kernel_rfl) (fun ρ => by kernel_rfl) ?_
 intro vals H K h
 rw [crN_e5]
 exact h
theorem crN_e6 (x0 x3 x4 x6 : AV) (vals : Nat→AV) (H : AH) (K : AV→AH→Prop) : sOp Tryz.prog pqb none0 false (aeval (pt crNOps vals (fun _ => true) (crNT x0 x3 x4 x6) 6)) H (crNOps.getD 6 default) true K=gO true (ashift 5 x3) fun v => K v H:=by kernel_rfl
theorem crN_op6 (x0 x3 x4 x6 : AV) : OpIs Tryz.prog crNOps (crNT x0 x3 x4 x6) 6 [] fun vals H K => gO true (ashift 5 x3) fun v => K v H:=by
 refine OpIs.opB (ql:=pqb) (crNOps.getD 6 default) (by kernel_rfl) (by kernel_rfl) (by kernel_rfl) (fun ρ => by kernel_rfl) ?_
 intro vals H K h
 rw [crN_e6]
 exact h
theorem crN_e7 (x0 x3 x4 x6 : AV) (vals : Nat→AV) (H : AH) (K : AV→AH→Prop) : sOp Tryz.prog pqb none0 false (aeval (pt crNOps vals (fun _ => true) (crNT x0 x3 x4 x6) 7)) H (crNOps.getD 7 default) true K=gO true (ald false 1 H (vals 6)) fun v => K v H:=by kernel_rfl
theorem crN_op7 (x0 x3 x4 x6 : AV) : OpIs Tryz.prog crNOps (crNT x0 x3 x4 x6) 7 [6] fun vals H K => gO true (ald false 1 H (vals 6)) fun v => K v H:=by
 refine OpIs.opB (ql:=pqb) (crNOps.getD 7 default) (by kernel_rfl) (by kernel_rfl) (by kernel_rfl) (fun ρ => by kernel_rfl) ?_
 intro vals H K h
 rw [crN_e7]
 exact h
theorem crN_e8 (x0 x3 x4 x6 : AV) (vals : Nat→AV) (H : AH) (K : AV→AH→Prop) : sOp Tryz.prog pqb none0 false (aeval (pt crNOps vals (fun _ => true) (crNT x0 x3 x4 x6) 8)) H (crNOps.getD 8 default) true K=gO true (ashift 1 x3) fun v => K v H:=by kernel_rfl
theorem crN_op8 (x0 x3 x4 x6 : AV) : OpIs Tryz.prog crNOps (crNT x0 x3 x4 x6) 8 [] fun vals H K => gO true (ashift 1 x3) fun v => K v H:=by
 refine OpIs.opB (ql:=pqb) (crNOps.getD 8 default) (by kernel_rfl) (by kernel_rfl) (by kernel_rfl) (fun ρ => by kernel_rfl) ?_
 intro vals H K h
 rw [crN_e8]
 exact h
theorem crN_e9 (x0 x3 x4 x6 : AV) (vals : Nat→AV) (H : AH) (K : AV→AH→Prop) : sOp Tryz.prog pqb none0 false (aeval (pt crNOps vals (fun _ => true) (crNT x0 x3 x4 x6) 9)) H (crNOps.getD 9 default) true K=gO true (ald false 1 H (vals 8)) fun v => K v H:=by kernel_rfl
theorem crN_op9 (x0 x3 x4 x6 : AV) : OpIs Tryz.prog crNOps (crNT x0 x3 x4 x6) 9 [8] fun vals H K => gO true (ald false 1 H (vals 8)) fun v => K v H:=by
 refine OpIs.opB (ql:=pqb) (crNOps.getD 9 default) (by kernel_rfl) (by kernel_rfl) (by kernel_rfl) (fun ρ => by kernel_rfl) ?_
 intro vals H K h
 rw [crN_e9]
 exact h
theorem crN_e10 (x0 x3 x4 x6 : AV) (vals : Nat→AV) (H : AH) (K : AV→AH→Prop) : sOp Tryz.prog pqb none0 false (aeval (pt crNOps vals (fun _ => true) (crNT x0 x3 x4 x6) 10)) H (crNOps.getD 10 default) true K=gO true (abl zN [(0,1,(vals 7)),(1,1,(vals 9))]) fun v => K v H:=by kernel_rfl
theorem crN_op10 (x0 x3 x4 x6 : AV) : OpIs Tryz.prog crNOps (crNT x0 x3 x4 x6) 10 [7,9] fun vals H K => gO true (abl zN [(0,1,(vals 7)),(1,1,(vals 9))]) fun v => K v H:=by
 refine OpIs.opB (ql:=pqb) (crNOps.getD 10 default) (by kernel_rfl) (by kernel_rfl) (by kernel_rfl) (fun ρ => by kernel_rfl) ?_
 intro vals H K h
 rw [crN_e10]
 exact h
theorem crN_e11 (x0 x3 x4 x6 : AV) (vals : Nat→AV) (H : AH) (K : AV→AH→Prop) : sOp Tryz.prog pqb none0 false (aeval (pt crNOps vals (fun _ => true) (crNT x0 x3 x4 x6) 11)) H (crNOps.getD 11 default) true K=gH true (absl H 2 1 (zrow zN 1) [(0,2,(vals 10))]) H K:=by kernel_rfl
theorem crN_op11 (x0 x3 x4 x6 : AV) : OpIs Tryz.prog crNOps (crNT x0 x3 x4 x6) 11 [10] fun vals H K => gH true (absl H 2 1 (zrow zN 1) [(0,2,(vals 10))]) H K:=by
 refine OpIs.opB (ql:=pqb) (crNOps.getD 11 default) (by kernel_rfl) (by kernel_rfl) (by kernel_rfl) (fun ρ => by kernel_rfl) ?_
 intro vals H K h
 rw [crN_e11]
 exact h
theorem crN_op12 (x0 x3 x4 x6 : AV) : OpIs Tryz.prog crNOps (crNT x0 x3 x4 x6) 12 [4,5,11] fun vals H K => ACalls Tryz.prog 83 [(vals 4),(vals 5),(vals 11)] H K :=
 OpIs.call (crNOps.getD 12 default) (by kernel_rfl) (by kernel_rfl) (by kernel_rfl) _ (fun vals => [(vals 4),(vals 5),(vals 11)]) (by kernel_rfl) (fun vals => by kernel_rfl) (fun vals H K h => h)
theorem crN_e13 (x0 x3 x4 x6 : AV) (vals : Nat→AV) (H : AH) (K : AV→AH→Prop) : sOp Tryz.prog pqb none0 false (aeval (pt crNOps vals (fun _ => true) (crNT x0 x3 x4 x6) 13)) H (crNOps.getD 13 default) true K=gO true (zdZ (vals 0)) fun v => K v H:=by kernel_rfl
theorem crN_op13 (x0 x3 x4 x6 : AV) : OpIs Tryz.prog crNOps (crNT x0 x3 x4 x6) 13 [0,1,2,3,4,5,6,7,8,9,10,11,12] fun vals H K => gO true (zdZ (vals 0)) fun v => K v H:=by
 refine OpIs.opB (ql:=pqb) (crNOps.getD 13 default) (by kernel_rfl) (by kernel_rfl) (by kernel_rfl) (fun ρ => by kernel_rfl) ?_
 intro vals H K h
 rw [crN_e13]
 exact h
theorem crN_e14 (x0 x3 x4 x6 : AV) (vals : Nat→AV) (H : AH) (K : AV→AH→Prop) : sOp Tryz.prog pqb none0 false (aeval (pt crNOps vals (fun _ => true) (crNT x0 x3 x4 x6) 14)) H (crNOps.getD 14 default) true K=gO true (ashift 0 (vals 13)) fun v => K v H:=by kernel_rfl
theorem crN_op14 (x0 x3 x4 x6 : AV) : OpIs Tryz.prog crNOps (crNT x0 x3 x4 x6) 14 [0,1,2,3,4,5,6,7,8,9,10,11,12,13] fun vals H K => gO true (ashift 0 (vals 13)) fun v => K v H:=by
 refine OpIs.opB (ql:=pqb) (crNOps.getD 14 default) (by kernel_rfl) (by kernel_rfl) (by kernel_rfl) (fun ρ => by kernel_rfl) ?_
 intro vals H K h
 rw [crN_e14]
 exact h
theorem crN_e15 (x0 x3 x4 x6 : AV) (vals : Nat→AV) (H : AH) (K : AV→AH→Prop) : sOp Tryz.prog pqb none0 false (aeval (pt crNOps vals (fun _ => true) (crNT x0 x3 x4 x6) 15)) H (crNOps.getD 15 default) true K=gS true (ast 1 H (vals 14) (vals 12)) H fun H' => K undefA H':=by kernel_rfl
theorem crN_op15 (x0 x3 x4 x6 : AV) : OpIs Tryz.prog crNOps (crNT x0 x3 x4 x6) 15 [0,1,2,3,4,5,6,7,8,9,10,11,12,14] fun vals H K => gS true (ast 1 H (vals 14) (vals 12)) H fun H' => K undefA H':=by
 refine OpIs.opB (ql:=pqb) (crNOps.getD 15 default) (by kernel_rfl) (by kernel_rfl) (by kernel_rfl) (fun ρ => by kernel_rfl) ?_
 intro vals H K h
 rw [crN_e15]
 exact h
def crNNeed : List (List Nat):=[[],[],[1],[2],[3],[],[],[6],[],[8],[7,9],[10],[4,5,11],[0,1,2,3,4,5,6,7,8,9,10,11,12],[0,1,2,3,4,5,6,7,8,9,10,11,12,13],[0,1,2,3,4,5,6,7,8,9,10,11,12,14]]
def crNF (x0 x3 x4 x6 : AV) : List ((Nat→AV)→AH→(AV→AH→Prop)→Prop):=[
 fun vals H K => gO true (some x0) fun v => K v H,
 fun vals H K => gO true (some x0) fun v => K v H,
 fun vals H K => gO true (zdZ (vals 1)) fun v => K v H,
 fun vals H K => gO true (ashift 0 (vals 2)) fun v => K v H,
 fun vals H K => gO true (ald false 1 H (vals 3)) fun v => K v H,
 fun vals H K => gO true (some x4) fun v => K v H,
 fun vals H K => gO true (ashift 5 x3) fun v => K v H,
 fun vals H K => gO true (ald false 1 H (vals 6)) fun v => K v H,
 fun vals H K => gO true (ashift 1 x3) fun v => K v H,
 fun vals H K => gO true (ald false 1 H (vals 8)) fun v => K v H,
 fun vals H K => gO true (abl zN [(0,1,(vals 7)),(1,1,(vals 9))]) fun v => K v H,
 fun vals H K => gH true (absl H 2 1 (zrow zN 1) [(0,2,(vals 10))]) H K,
 fun vals H K => ACalls Tryz.prog 83 [(vals 4),(vals 5),(vals 11)] H K,
 fun vals H K => gO true (zdZ (vals 0)) fun v => K v H,
 fun vals H K => gO true (ashift 0 (vals 13)) fun v => K v H,
 fun vals H K => gS true (ast 1 H (vals 14) (vals 12)) H fun H' => K undefA H']
theorem crNIs (x0 x3 x4 x6 : AV) : ∀ i,i < crNOps.length→OpIs Tryz.prog crNOps (crNT x0 x3 x4 x6) i (crNNeed.getD i []) ((crNF x0 x3 x4 x6).getD i (fun _ _ _ => False)):=by
 intro i hi
 rw [crNLen] at hi
 have : i=0∨i=1∨i=2∨i=3∨i=4∨i=5∨i=6∨i=7∨i=8∨i=9∨i=10∨i=11∨i=12∨i=13∨i=14∨i=15:=by omega
 rcases this with rfl | rfl | rfl | rfl | rfl | rfl | rfl | rfl | rfl | rfl | rfl | rfl | rfl | rfl | rfl | rfl
 ·exact crN_op0 x0 x3 x4 x6
 ·exact crN_op1 x0 x3 x4 x6
 ·exact crN_op2 x0 x3 x4 x6
 ·exact crN_op3 x0 x3 x4 x6
 ·exact crN_op4 x0 x3 x4 x6
 ·exact crN_op5 x0 x3 x4 x6
 ·exact crN_op6 x0 x3 x4 x6
 ·exact crN_op7 x0 x3 x4 x6
 ·exact crN_op8 x0 x3 x4 x6
 ·exact crN_op9 x0 x3 x4 x6
 ·exact crN_op10 x0 x3 x4 x6
 ·exact crN_op11 x0 x3 x4 x6
 ·exact crN_op12 x0 x3 x4 x6
 ·exact crN_op13 x0 x3 x4 x6
 ·exact crN_op14 x0 x3 x4 x6
 ·exact crN_op15 x0 x3 x4 x6
noncomputable def crDOps : List Oper:=(opsOf (sub [true,true,true,true,true] (bodyOf Tryz.f55))).toList
def crDT (x0 x3 x6 : AV) : List AV:=expand (mk 82 0 [0,3,6]) [x0,x3,x6]
theorem crDLen : crDOps.length=14:=by kernel_rfl
theorem crDOrd : ordOk crDOps=true:=by kernel_rfl
theorem crD_e0 (x0 x3 x6 : AV) (vals : Nat→AV) (H : AH) (K : AV→AH→Prop) : sOp Tryz.prog pqb none0 false (aeval (pt crDOps vals (fun _ => true) (crDT x0 x3 x6) 0)) H (crDOps.getD 0 default) true K=gO true (some x0) fun v => K v H:=by kernel_rfl
theorem crD_op0 (x0 x3 x6 : AV) : OpIs Tryz.prog crDOps (crDT x0 x3 x6) 0 [] fun vals H K => gO true (some x0) fun v => K v H:=by
 refine OpIs.opB (ql:=pqb) (crDOps.getD 0 default) (by kernel_rfl) (by kernel_rfl) (by kernel_rfl) (fun ρ => by kernel_rfl) ?_
 intro vals H K h
 rw [crD_e0]
 exact h
theorem crD_e1 (x0 x3 x6 : AV) (vals : Nat→AV) (H : AH) (K : AV→AH→Prop) : sOp Tryz.prog pqb none0 false (aeval (pt crDOps vals (fun _ => true) (crDT x0 x3 x6) 1)) H (crDOps.getD 1 default) true K=gO true (some x0) fun v => K v H:=by kernel_rfl
theorem crD_op1 (x0 x3 x6 : AV) : OpIs Tryz.prog crDOps (crDT x0 x3 x6) 1 [] fun vals H K => gO true (some x0) fun v => K v H:=by
 refine OpIs.opB (ql:=pqb) (crDOps.getD 1 default) (by kernel_rfl) (by kernel_rfl) (by kernel_rfl) (fun ρ => by kernel_rfl) ?_
 intro vals H K h
 rw [crD_e1]
 exact h
theorem crD_e2 (x0 x3 x6 : AV) (vals : Nat→AV) (H : AH) (K : AV→AH→Prop) : sOp Tryz.prog pqb none0 false (aeval (pt crDOps vals (fun _ => true) (crDT x0 x3 x6) 2)) H (crDOps.getD 2 default) true K=gO true (zdZ (vals 1)) fun v => K v H:=by kernel_rfl
theorem crD_op2 (x0 x3 x6 : AV) : OpIs Tryz.prog crDOps (crDT x0 x3 x6) 2 [1] fun vals H K => gO true (zdZ (vals 1)) fun v => K v H:=by
 refine OpIs.opB (ql:=pqb) (crDOps.getD 2 default) (by kernel_rfl) (by kernel_rfl) (by kernel_rfl) (fun ρ => by kernel_rfl) ?_
 intro vals H K h
 rw [crD_e2]
 exact h
theorem crD_e3 (x0 x3 x6 : AV) (vals : Nat→AV) (H : AH) (K : AV→AH→Prop) : sOp Tryz.prog pqb none0 false (aeval (pt crDOps vals (fun _ => true) (crDT x0 x3 x6) 3)) H (crDOps.getD 3 default) true K=gO true (ashift 1 (vals 2)) fun v => K v H:=by kernel_rfl
theorem crD_op3 (x0 x3 x6 : AV) : OpIs Tryz.prog crDOps (crDT x0 x3 x6) 3 [2] fun vals H K => gO true (ashift 1 (vals 2)) fun v => K v H:=by
 refine OpIs.opB (ql:=pqb) (crDOps.getD 3 default) (by kernel_rfl) (by kernel_rfl) (by kernel_rfl) (fun ρ => by kernel_rfl) ?_
 intro vals H K h
 rw [crD_e3]
 exact h
theorem crD_e4 (x0 x3 x6 : AV) (vals : Nat→AV) (H : AH) (K : AV→AH→Prop) : sOp Tryz.prog pqb none0 false (aeval (pt crDOps vals (fun _ => true) (crDT x0 x3 x6) 4)) H (crDOps.getD 4 default) true K=gO true (ald false 1 H (vals 3)) fun v => K v H:=by kernel_rfl
theorem crD_op4 (x0 x3 x6 : AV) : OpIs Tryz.prog crDOps (crDT x0 x3 x6) 4 [3] fun vals H K => gO true (ald false 1 H (vals 3)) fun v => K v H:=by
 refine OpIs.opB (ql:=pqb) (crDOps.getD 4 default) (by kernel_rfl) (by kernel_rfl) (by kernel_rfl) (fun ρ => by kernel_rfl) ?_
 intro vals H K h
 rw [crD_e4]
 exact h
theorem crD_e5 (x0 x3 x6 : AV) (vals : Nat→AV) (H : AH) (K : AV→AH→Prop) : sOp Tryz.prog pqb none0 false (aeval (pt crDOps vals (fun _ => true) (crDT x0 x3 x6) 5)) H (crDOps.getD 5 default) true K=gO true (some x6) fun v => K v H:=by kernel_rfl
theorem crD_op5 (x0 x3 x6 : AV) : OpIs Tryz.prog crDOps (crDT x0 x3 x6) 5 [] fun vals H K => gO true (some x6) fun v => K v H:=by
 refine OpIs.opB (ql:=pqb) (crDOps.getD 5 default) (by kernel_rfl) (by kernel_rfl) (by kernel_rfl) (fun ρ => by kernel_rfl) ?_
 intro vals H K h
 rw [crD_e5]
 exact h
theorem crD_e6 (x0 x3 x6 : AV) (vals : Nat→AV) (H : AH) (K : AV→AH→Prop) : sOp Tryz.prog pqb none0 false (aeval (pt crDOps vals (fun _ => true) (crDT x0 x3 x6) 6)) H (crDOps.getD 6 default) true K=gO true (ashift 1 x3) fun v => K v H:=by kernel_rfl
theorem crD_op6 (x0 x3 x6 : AV) : OpIs Tryz.prog crDOps (crDT x0 x3 x6) 6 [] fun vals H K => gO true (ashift 1 x3) fun v => K v H:=by
 refine OpIs.opB (ql:=pqb) (crDOps.getD 6 default) (by kernel_rfl) (by kernel_rfl) (by kernel_rfl) (fun ρ => by kernel_rfl) ?_
 intro vals H K h
 rw [crD_e6]
 exact h
theorem crD_e7 (x0 x3 x6 : AV) (vals : Nat→AV) (H : AH) (K : AV→AH→Prop) : sOp Tryz.prog pqb none0 false (aeval (pt crDOps vals (fun _ => true) (crDT x0 x3 x6) 7)) H (crDOps.getD 7 default) true K=gO true (ald false 1 H (vals 6)) fun v => K v H:=by kernel_rfl
theorem crD_op7 (x0 x3 x6 : AV) : OpIs Tryz.prog crDOps (crDT x0 x3 x6) 7 [6] fun vals H K => gO true (ald false 1 H (vals 6)) fun v => K v H:=by
 refine OpIs.opB (ql:=pqb) (crDOps.getD 7 default) (by kernel_rfl) (by kernel_rfl) (by kernel_rfl) (fun ρ => by kernel_rfl) ?_
 intro vals H K h
 rw [crD_e7]
 exact h
theorem crD_e8 (x0 x3 x6 : AV) (vals : Nat→AV) (H : AH) (K : AV→AH→Prop) : sOp Tryz.prog pqb none0 false (aeval (pt crDOps vals (fun _ => true) (crDT x0 x3 x6) 8)) H (crDOps.getD 8 default) true K=gO true (abl zD [(0,1,(vals 7))]) fun v => K v H:=by kernel_rfl
theorem crD_op8 (x0 x3 x6 : AV) : OpIs Tryz.prog crDOps (crDT x0 x3 x6) 8 [7] fun vals H K => gO true (abl zD [(0,1,(vals 7))]) fun v => K v H:=by
 refine OpIs.opB (ql:=pqb) (crDOps.getD 8 default) (by kernel_rfl) (by kernel_rfl) (by kernel_rfl) (fun ρ => by kernel_rfl) ?_
 intro vals H K h
 rw [crD_e8]
 exact h
theorem crD_e9 (x0 x3 x6 : AV) (vals : Nat→AV) (H : AH) (K : AV→AH→Prop) : sOp Tryz.prog pqb none0 false (aeval (pt crDOps vals (fun _ => true) (crDT x0 x3 x6) 9)) H (crDOps.getD 9 default) true K=gH true (absl H 3 1 (zrow zD 1) [(0,3,(vals 8))]) H K:=by kernel_rfl
theorem crD_op9 (x0 x3 x6 : AV) : OpIs Tryz.prog crDOps (crDT x0 x3 x6) 9 [8] fun vals H K => gH true (absl H 3 1 (zrow zD 1) [(0,3,(vals 8))]) H K:=by
 refine OpIs.opB (ql:=pqb) (crDOps.getD 9 default) (by kernel_rfl) (by kernel_rfl) (by kernel_rfl) (fun ρ => by kernel_rfl) ?_
 intro vals H K h
 rw [crD_e9]
 exact h
theorem crD_op10 (x0 x3 x6 : AV) : OpIs Tryz.prog crDOps (crDT x0 x3 x6) 10 [4,5,9] fun vals H K => ACalls Tryz.prog 84 [(vals 4),(vals 5),(vals 9)] H K :=
 OpIs.call (crDOps.getD 10 default) (by kernel_rfl) (by kernel_rfl) (by kernel_rfl) _ (fun vals => [(vals 4),(vals 5),(vals 9)]) (by kernel_rfl) (fun vals => by kernel_rfl) (fun vals H K h => h)
theorem crD_e11 (x0 x3 x6 : AV) (vals : Nat→AV) (H : AH) (K : AV→AH→Prop) : sOp Tryz.prog pqb none0 false (aeval (pt crDOps vals (fun _ => true) (crDT x0 x3 x6) 11)) H (crDOps.getD 11 default) true K=gO true (zdZ (vals 0)) fun v => K v H:=by kernel_rfl
theorem crD_op11 (x0 x3 x6 : AV) : OpIs Tryz.prog crDOps (crDT x0 x3 x6) 11 [0,1,2,3,4,5,6,7,8,9,10] fun vals H K => gO true (zdZ (vals 0)) fun v => K v H:=by
 refine OpIs.opB (ql:=pqb) (crDOps.getD 11 default) (by kernel_rfl) (by kernel_rfl) (by kernel_rfl) (fun ρ => by kernel_rfl) ?_
 intro vals H K h
 rw [crD_e11]
 exact h
theorem crD_e12 (x0 x3 x6 : AV) (vals : Nat→AV) (H : AH) (K : AV→AH→Prop) : sOp Tryz.prog pqb none0 false (aeval (pt crDOps vals (fun _ => true) (crDT x0 x3 x6) 12)) H (crDOps.getD 12 default) true K=gO true (ashift 1 (vals 11)) fun v => K v H:=by kernel_rfl
theorem crD_op12 (x0 x3 x6 : AV) : OpIs Tryz.prog crDOps (crDT x0 x3 x6) 12 [0,1,2,3,4,5,6,7,8,9,10,11] fun vals H K => gO true (ashift 1 (vals 11)) fun v => K v H:=by
 refine OpIs.opB (ql:=pqb) (crDOps.getD 12 default) (by kernel_rfl) (by kernel_rfl) (by kernel_rfl) (fun ρ => by kernel_rfl) ?_
 intro vals H K h
 rw [crD_e12]
 exact h
theorem crD_e13 (x0 x3 x6 : AV) (vals : Nat→AV) (H : AH) (K : AV→AH→Prop) : sOp Tryz.prog pqb none0 false (aeval (pt crDOps vals (fun _ => true) (crDT x0 x3 x6) 13)) H (crDOps.getD 13 default) true K=gS true (ast 1 H (vals 12) (vals 10)) H fun H' => K undefA H':=by kernel_rfl
theorem crD_op13 (x0 x3 x6 : AV) : OpIs Tryz.prog crDOps (crDT x0 x3 x6) 13 [0,1,2,3,4,5,6,7,8,9,10,12] fun vals H K => gS true (ast 1 H (vals 12) (vals 10)) H fun H' => K undefA H':=by
 refine OpIs.opB (ql:=pqb) (crDOps.getD 13 default) (by kernel_rfl) (by kernel_rfl) (by kernel_rfl) (fun ρ => by kernel_rfl) ?_
 intro vals H K h
 rw [crD_e13]
 exact h
def crDNeed : List (List Nat):=[[],[],[1],[2],[3],[],[],[6],[7],[8],[4,5,9],[0,1,2,3,4,5,6,7,8,9,10],[0,1,2,3,4,5,6,7,8,9,10,11],[0,1,2,3,4,5,6,7,8,9,10,12]]
def crDF (x0 x3 x6 : AV) : List ((Nat→AV)→AH→(AV→AH→Prop)→Prop):=[
 fun vals H K => gO true (some x0) fun v => K v H,
 fun vals H K => gO true (some x0) fun v => K v H,
 fun vals H K => gO true (zdZ (vals 1)) fun v => K v H,
 fun vals H K => gO true (ashift 1 (vals 2)) fun v => K v H,
 fun vals H K => gO true (ald false 1 H (vals 3)) fun v => K v H,
 fun vals H K => gO true (some x6) fun v => K v H,
 fun vals H K => gO true (ashift 1 x3) fun v => K v H,
 fun vals H K => gO true (ald false 1 H (vals 6)) fun v => K v H,
 fun vals H K => gO true (abl zD [(0,1,(vals 7))]) fun v => K v H,
 fun vals H K => gH true (absl H 3 1 (zrow zD 1) [(0,3,(vals 8))]) H K,
 fun vals H K => ACalls Tryz.prog 84 [(vals 4),(vals 5),(vals 9)] H K,
 fun vals H K => gO true (zdZ (vals 0)) fun v => K v H,
 fun vals H K => gO true (ashift 1 (vals 11)) fun v => K v H,
 fun vals H K => gS true (ast 1 H (vals 12) (vals 10)) H fun H' => K undefA H']
theorem crDIs (x0 x3 x6 : AV) : ∀ i,i < crDOps.length→OpIs Tryz.prog crDOps (crDT x0 x3 x6) i (crDNeed.getD i []) ((crDF x0 x3 x6).getD i (fun _ _ _ => False)):=by
 intro i hi
 rw [crDLen] at hi
 have : i=0∨i=1∨i=2∨i=3∨i=4∨i=5∨i=6∨i=7∨i=8∨i=9∨i=10∨i=11∨i=12∨i=13:=by omega
 rcases this with rfl | rfl | rfl | rfl | rfl | rfl | rfl | rfl | rfl | rfl | rfl | rfl | rfl | rfl
 ·exact crD_op0 x0 x3 x6
 ·exact crD_op1 x0 x3 x6
 ·exact crD_op2 x0 x3 x6
 ·exact crD_op3 x0 x3 x6
 ·exact crD_op4 x0 x3 x6
 ·exact crD_op5 x0 x3 x6
 ·exact crD_op6 x0 x3 x6
 ·exact crD_op7 x0 x3 x6
 ·exact crD_op8 x0 x3 x6
 ·exact crD_op9 x0 x3 x6
 ·exact crD_op10 x0 x3 x6
 ·exact crD_op11 x0 x3 x6
 ·exact crD_op12 x0 x3 x6
 ·exact crD_op13 x0 x3 x6
end Go.Proofs.YtlbilcpnjgkpjaaGreat.Av
end
section
namespace Go.Proofs.YtlbilcpnjgkpjaaGreat.Av
open Go Go.RowKit
structure OpM where
 kind : Int
 ino : Int
 pos : Int
 size : Int
 keep : Bool
 name : List UInt8
 to : List UInt8
 b : List UInt8
 deriving DecidableEq
def opA (o : OpM) (bv : AV) : List AV:=[I o.kind,I o.ino,I o.pos,I o.size,B o.keep,S (bstr o.name),S (bstr o.to),bv]
theorem crN_K (x0 x3 x4 x6 : AV) (vals : Nat→AV) (H : AH) (K : AV→AH→Prop) : (kSeq (cutC (mk 82 0 [0,3,6]) (zkjZ [true,true,true,true,true] 6)) (kRet Tryz.prog Tryz.f55.results.toList K)) .normal (pt crNOps vals (fun _ => true) (crNT x0 x3 x4 x6) 16) H=zmxZ x0 x3 x6 H K:=by kernel_rfl
theorem crD_K (x0 x3 x6 : AV) (vals : Nat→AV) (H : AH) (K : AV→AH→Prop) : (kRet Tryz.prog Tryz.f55.results.toList K) .normal (pt crDOps vals (fun _ => true) (crDT x0 x3 x6) 14) H=K (.tup []) H:=by kernel_rfl
theorem crN_acode (x0 x3 x4 x6 : AV) (H : AH) (K : AV→AH→Prop) (h : ACode Tryz.prog (.region 4 crNOps.toArray true) (kSeq (cutC (mk 82 0 [0,3,6]) (zkjZ [true,true,true,true,true] 6)) (kRet Tryz.prog Tryz.f55.results.toList K)) (crNT x0 x3 x4 x6) H) : zjfZ x0 x3 x4 x6 H K:=unR.mk h
theorem crD_acode (x0 x3 x6 : AV) (H : AH) (K : AV→AH→Prop) (h : ACode Tryz.prog (.region 5 crDOps.toArray true) (kRet Tryz.prog Tryz.f55.results.toList K) (crDT x0 x3 x6) H) : zmpZ x0 x3 x6 H K:=unR.mk h
def hp3 (i j k : Nat) (A B C D : AH) (S : Nat→Bool) : AH:=if S k=true then D else if S j=true then C else if S i=true then B else A
theorem hp3_u {i j k : Nat} {A B C D : AH} {S : Nat→Bool} {q : Nat} (h1 : q ≠ i) (h2 : q ≠ j) (h3 : q ≠ k) : hp3 i j k A B C D (upd S q)=hp3 i j k A B C D S:=by
 unfold hp3 upd
 rw [if_neg (Ne.symm h3),if_neg (Ne.symm h2),if_neg (Ne.symm h1)]
theorem create_U4 {L oi p k : Nat} {ns : List Nm} {dv : List NdV} {a b bv : AV} {H : AH} {o : OpM} (h : ImH L oi ns dv a b H) (hp : H[p]? = some (some (.cells (opA o bv)))) (hpo : p ≠ oi) (hpa : p ∉ idS a) (hk : k≤ns.length) (hn : ns.length≤100000) :
  ∃ r H2,ImH L oi (ns.take k ++ ⟨o.name,o.ino⟩ :: ns.drop k) dv r b H2∧FrL L oi H H2∧H2[p]? = H[p]?∧∀ x6 K,zmxZ (.ptr oi 0) (.ptr p 0) x6 H2 K→zjfZ (.ptr oi 0) (.ptr p 0) (I k) x6 H K:=by
 have g:=Grew.app H [some (.cells (encN ⟨o.name,o.ino⟩))]
 have hg:=h.grew g
 have hpl:=(List.getElem?_eq_some_iff.1 hp).1
 obtain ⟨r,H12,hI,hc⟩:=insN_c (x:=⟨o.name,o.ino⟩) (oj:=H.length) hg.sa hg.oa hg.ca hk (by omega) (by simp) (fun hh => by have:=zcZ h.sa _ hh; omega)
 obtain ⟨i1,i2,i3,i4,i5,i6⟩:=hI
 have el : (ns.take k ++ (⟨o.name,o.ino⟩ : Nm) :: ns.drop k).length=ns.length + 1:=by simp; omega
 obtain ⟨H2,e2,n1,n2⟩:=hg.newA (ms:=ns.take k ++ ⟨o.name,o.ino⟩ :: ns.drop k) i3 i4 (by rw [el]; exact i2) i1 (by rw [el]; exact i6) i5
 have hp2 : H2[p]? = H[p]?:=by
  have c0 : H12[oi]? = some (some (.cells [a,b])):=by rw [i4 oi (List.getElem?_eq_some_iff.1 hg.obj).1 hg.noA]; exact hg.obj
  rw [ast_ptr (n:=1) (off:=0) (xs:=[r]) (cs:=[a,b]) (zbuZ (zpZ i1)) c0 rfl (by simp)] at e2
  injection e2 with e2
  rw [← e2,List.getElem?_set_ne (Ne.symm hpo),i4 p (by simp; omega) hpa,g.2 p hpl]
 have hfr : FrL L oi H H2:=by
  have hle:=h.len
  exact ⟨Nat.le_trans g.1 n2.1,fun j h5 h6 => (n2.2 j h5 h6).trans (g.2 j (by omega))⟩
 let V : Nat→AV:=fun i => ([.ptr oi 0,.ptr oi 0,.ptr oi 0,.ptr oi 0,a,I k,.ptr p 5,S (bstr o.name),.ptr p 1,I o.ino,.agg (encN ⟨o.name,o.ino⟩),.sl H.length 0 1 2 (.ex 1),r,.ptr oi 0,.ptr oi 0,undefA] : List AV).getD i undefA
 refine ⟨r,H2,n1,hfr,hp2,fun x6 K hK => crN_acode _ _ _ _ _ _ ?_⟩
 refine ACode.told2 mixP crNOrd (fun i => crNNeed.getD i []) (fun i => (crNF (.ptr oi 0) (.ptr p 0) (I k) x6).getD i (fun _ _ _ => False)) V (hp3 11 12 15 H (H ++ [some (.cells (encN ⟨o.name,o.ino⟩))]) H12 H2) (crNIs _ _ _ _) rfl ?_ ?_
 ·intro i hi S vals hS cl hn
  rw [crNLen] at hi
  have n12 : S 4=false→S 12=false:=fun h4 => by
   cases h : S 12 with
   | false => rfl
   | true => have:=cl 12 h 4 (by simp [crNNeed]); rw [h4] at this; cases this
  have n15 : S 12=false→S 15=false:=fun h4 => by
   cases h : S 15 with
   | false => rfl
   | true => have:=cl 15 h 12 (by simp [crNNeed]); rw [h4] at this; cases this
  have n12' : S 11=false→S 12=false:=fun h4 => by
   cases h : S 12 with
   | false => rfl
   | true => have:=cl 12 h 11 (by simp [crNNeed]); rw [h4] at this; cases this
  have n11 : ∀ j,j=7∨j=9→S j=false→S 11=false:=fun j hj h4 => by
   cases h : S 11 with
   | false => rfl
   | true =>
    have h10:=cl 11 h 10 (by simp [crNNeed])
    have:=cl 10 h10 j (by rcases hj with rfl | rfl <;> simp [crNNeed])
    rw [h4] at this; cases this
  have hcase : i=0∨i=1∨i=2∨i=3∨i=4∨i=5∨i=6∨i=7∨i=8∨i=9∨i=10∨i=11∨i=12∨i=13∨i=14∨i=15:=by omega
  rcases hcase with rfl | rfl | rfl | rfl | rfl | rfl | rfl | rfl | rfl | rfl | rfl | rfl | rfl | rfl | rfl | rfl
  ·simp only [crNF,List.getD_cons_succ,List.getD_cons_zero,gO_true,gH_true,gS_true,bO_some]
   exact ⟨rfl,(hp3_u (by omega) (by omega) (by omega)).symm⟩
  ·simp only [crNF,List.getD_cons_succ,List.getD_cons_zero,gO_true,gH_true,gS_true,bO_some]
   exact ⟨rfl,(hp3_u (by omega) (by omega) (by omega)).symm⟩
  ·simp only [crNF,List.getD_cons_succ,List.getD_cons_zero,gO_true,gH_true,gS_true,bO_some]
   have v1:=(hn 1 (by simp [crNNeed])).2
   rw [v1]
   exact ⟨rfl,(hp3_u (by omega) (by omega) (by omega)).symm⟩
  ·simp only [crNF,List.getD_cons_succ,List.getD_cons_zero,gO_true,gH_true,gS_true,bO_some]
   have v2:=(hn 2 (by simp [crNNeed])).2
   rw [v2]
   exact ⟨rfl,(hp3_u (by omega) (by omega) (by omega)).symm⟩
  ·simp only [crNF,List.getD_cons_succ,List.getD_cons_zero,gO_true,gH_true,gS_true,bO_some]
   have v3:=(hn 3 (by simp [crNNeed])).2
   rw [v3]
   have e : ald false 1 (hp3 11 12 15 H (H ++ [some (.cells (encN ⟨o.name,o.ino⟩))]) H12 H2 S) (V 3)=some a:=by
    have q12:=n12 hS
    have q15:=n15 q12
    have : (hp3 11 12 15 H (H ++ [some (.cells (encN ⟨o.name,o.ino⟩))]) H12 H2 S)[oi]? = some (some (.cells [a,b])):=by
     unfold hp3
     rw [q15,q12]
     cases S 11 with
     | true => exact hg.obj
     | false => exact h.obj
    show ald false 1 _ (.ptr oi 0)=_
    rw [ald_ptr this]; rfl
   rw [e]
   exact ⟨rfl,(hp3_u (by omega) (by omega) (by omega)).symm⟩
  ·simp only [crNF,List.getD_cons_succ,List.getD_cons_zero,gO_true,gH_true,gS_true,bO_some]
   exact ⟨rfl,(hp3_u (by omega) (by omega) (by omega)).symm⟩
  ·simp only [crNF,List.getD_cons_succ,List.getD_cons_zero,gO_true,gH_true,gS_true,bO_some]
   exact ⟨rfl,(hp3_u (by omega) (by omega) (by omega)).symm⟩
  ·simp only [crNF,List.getD_cons_succ,List.getD_cons_zero,gO_true,gH_true,gS_true,bO_some]
   have v6:=(hn 6 (by simp [crNNeed])).2
   rw [v6]
   have e : ald false 1 (hp3 11 12 15 H (H ++ [some (.cells (encN ⟨o.name,o.ino⟩))]) H12 H2 S) (V 6)=some (.lit (.string (bstr o.name))):=by
    have q11:=n11 7 (by omega) hS
    have q12:=n12' q11
    have q15:=n15 q12
    unfold hp3
    rw [q15,q12,q11]
    show ald false 1 H (.ptr p 5)=_
    rw [ald_ptr hp]; rfl
   rw [e]
   exact ⟨rfl,(hp3_u (by omega) (by omega) (by omega)).symm⟩
  ·simp only [crNF,List.getD_cons_succ,List.getD_cons_zero,gO_true,gH_true,gS_true,bO_some]
   exact ⟨rfl,(hp3_u (by omega) (by omega) (by omega)).symm⟩
  ·simp only [crNF,List.getD_cons_succ,List.getD_cons_zero,gO_true,gH_true,gS_true,bO_some]
   have v8:=(hn 8 (by simp [crNNeed])).2
   rw [v8]
   have e : ald false 1 (hp3 11 12 15 H (H ++ [some (.cells (encN ⟨o.name,o.ino⟩))]) H12 H2 S) (V 8)=some (I o.ino):=by
    have q11:=n11 9 (by omega) hS
    have q12:=n12' q11
    have q15:=n15 q12
    unfold hp3
    rw [q15,q12,q11]
    show ald false 1 H (.ptr p 1)=_
    rw [ald_ptr hp]; rfl
   rw [e]
   exact ⟨rfl,(hp3_u (by omega) (by omega) (by omega)).symm⟩
  ·simp only [crNF,List.getD_cons_succ,List.getD_cons_zero,gO_true,gH_true,gS_true,bO_some]
   have v7:=(hn 7 (by simp [crNNeed])).2
   have v9:=(hn 9 (by simp [crNNeed])).2
   rw [v7,v9]
   exact ⟨rfl,(hp3_u (by omega) (by omega) (by omega)).symm⟩
  ·simp only [crNF,List.getD_cons_succ,List.getD_cons_zero,gO_true,gH_true,gS_true,bO_some]
   have v10:=(hn 10 (by simp [crNNeed])).2
   rw [v10]
   have q12:=n12' hS
   have q15:=n15 q12
   have e : hp3 11 12 15 H (H ++ [some (.cells (encN ⟨o.name,o.ino⟩))]) H12 H2 S=H:=by unfold hp3; rw [q15,q12,hS]; rfl
   have e2 : hp3 11 12 15 H (H ++ [some (.cells (encN ⟨o.name,o.ino⟩))]) H12 H2 (upd S 11)=H ++ [some (.cells (encN ⟨o.name,o.ino⟩))]:=by unfold hp3; simp [upd,q15,q12]
   rw [e,e2]
   exact ⟨rfl,rfl⟩
  ·simp only [crNF,List.getD_cons_succ,List.getD_cons_zero,gO_true,gH_true,gS_true,bO_some]
   have v4:=(hn 4 (by simp [crNNeed])).2
   have v5:=(hn 5 (by simp [crNNeed])).2
   have v11:=(hn 11 (by simp [crNNeed])).2
   rw [v4,v5,v11]
   have q15:=n15 hS
   have e : hp3 11 12 15 H (H ++ [some (.cells (encN ⟨o.name,o.ino⟩))]) H12 H2 S=H ++ [some (.cells (encN ⟨o.name,o.ino⟩))]:=by unfold hp3; rw [q15,hS,(hn 11 (by simp [crNNeed])).1]; rfl
   have e2 : hp3 11 12 15 H (H ++ [some (.cells (encN ⟨o.name,o.ino⟩))]) H12 H2 (upd S 12)=H12:=by unfold hp3; simp [upd,q15]
   rw [e,e2]
   exact hc
  ·simp only [crNF,List.getD_cons_succ,List.getD_cons_zero,gO_true,gH_true,gS_true,bO_some]
   have v0:=(hn 0 (by simp [crNNeed])).2
   rw [v0]
   exact ⟨rfl,(hp3_u (by omega) (by omega) (by omega)).symm⟩
  ·simp only [crNF,List.getD_cons_succ,List.getD_cons_zero,gO_true,gH_true,gS_true,bO_some]
   have v13:=(hn 13 (by simp [crNNeed])).2
   rw [v13]
   exact ⟨rfl,(hp3_u (by omega) (by omega) (by omega)).symm⟩
  ·simp only [crNF,List.getD_cons_succ,List.getD_cons_zero,gO_true,gH_true,gS_true,bO_some]
   have v14:=(hn 14 (by simp [crNNeed])).2
   have v12:=(hn 12 (by simp [crNNeed])).2
   rw [v14,v12]
   have e : hp3 11 12 15 H (H ++ [some (.cells (encN ⟨o.name,o.ino⟩))]) H12 H2 S=H12:=by unfold hp3; rw [hS,(hn 12 (by simp [crNNeed])).1]; rfl
   have e3 : hp3 11 12 15 H (H ++ [some (.cells (encN ⟨o.name,o.ino⟩))]) H12 H2 (upd S 15)=H2:=by unfold hp3; simp [upd]
   rw [e,e3]
   show bS (ast 1 H12 (.ptr oi 0) r) _
   rw [e2,bS_some]
   exact ⟨rfl,rfl⟩
 ·intro S vals hS
  rw [crNLen,crN_K]
  have : hp3 11 12 15 H (H ++ [some (.cells (encN ⟨o.name,o.ino⟩))]) H12 H2 S=H2:=by unfold hp3; rw [if_pos (hS 15 (by rw [crNLen]; omega)).1]
  rw [this]
  exact hK
def newD (ino : Int) : NdV:=⟨⟨ino,0,[]⟩,nilSl,SV.nil⟩
theorem create_U5 {L oi p k : Nat} {ns : List Nm} {dv : List NdV} {a b bv : AV} {H : AH} {o : OpM} (h : ImH L oi ns dv a b H) (hp : H[p]? = some (some (.cells (opA o bv)))) (hk : k≤dv.length) (hn : dv.length≤100000) :
  ∃ r H2,ImH L oi ns (dv.take k ++ newD o.ino :: dv.drop k) a r H2∧FrL L oi H H2∧∀ K : AV→AH→Prop,K (.tup []) H2→zmpZ (.ptr oi 0) (.ptr p 0) (I k) H K:=by
 have g:=Grew.app H [some (.cells (encD (newD o.ino)))]
 have hg:=h.grew g
 have hpl:=(List.getElem?_eq_some_iff.1 hp).1
 obtain ⟨r,H10,hI,hc⟩:=insD_c (x:=newD o.ino) (oj:=H.length) hg.sb hg.ob hg.cb hk (by omega) (by simp) (fun hh => by have:=zcZ h.sb _ hh; omega)
 obtain ⟨i1,i2,i3,i4,i5,i6⟩:=hI
 have el : (dv.take k ++ newD o.ino :: dv.drop k).length=dv.length + 1:=by simp; omega
 obtain ⟨H2,e2,n1,n2⟩:=hg.newB (ew:=dv.take k ++ newD o.ino :: dv.drop k) i3 i4 (by rw [el]; exact i2) i1 (by rw [el]; exact i6) i5
 have hfr : FrL L oi H H2:=by
  have hle:=h.len
  exact ⟨Nat.le_trans g.1 n2.1,fun j h5 h6 => (n2.2 j h5 h6).trans (g.2 j (by omega))⟩
 let V : Nat→AV:=fun i => ([.ptr oi 0,.ptr oi 0,.ptr oi 0,.ptr oi 1,b,I k,.ptr p 1,I o.ino,.agg (encD (newD o.ino)),.sl H.length 0 1 3 (.ex 1),r,.ptr oi 0,.ptr oi 1,undefA] : List AV).getD i undefA
 refine ⟨r,H2,n1,hfr,fun K hK => crD_acode _ _ _ _ _ ?_⟩
 refine ACode.told2 mixP crDOrd (fun i => crDNeed.getD i []) (fun i => (crDF (.ptr oi 0) (.ptr p 0) (I k)).getD i (fun _ _ _ => False)) V (hp3 9 10 13 H (H ++ [some (.cells (encD (newD o.ino)))]) H10 H2) (crDIs _ _ _) rfl ?_ ?_
 ·intro i hi S vals hS cl hn
  rw [crDLen] at hi
  have n12 : S 4=false→S 10=false:=fun h4 => by
   cases h : S 10 with
   | false => rfl
   | true => have:=cl 10 h 4 (by simp [crDNeed]); rw [h4] at this; cases this
  have n15 : S 10=false→S 13=false:=fun h4 => by
   cases h : S 13 with
   | false => rfl
   | true => have:=cl 13 h 10 (by simp [crDNeed]); rw [h4] at this; cases this
  have n12' : S 9=false→S 10=false:=fun h4 => by
   cases h : S 10 with
   | false => rfl
   | true => have:=cl 10 h 9 (by simp [crDNeed]); rw [h4] at this; cases this
  have n11 : S 7=false→S 9=false:=fun h4 => by
   cases h : S 9 with
   | false => rfl
   | true =>
    have h8:=cl 9 h 8 (by simp [crDNeed])
    have:=cl 8 h8 7 (by simp [crDNeed])
    rw [h4] at this; cases this
  have hcase : i=0∨i=1∨i=2∨i=3∨i=4∨i=5∨i=6∨i=7∨i=8∨i=9∨i=10∨i=11∨i=12∨i=13:=by omega
  rcases hcase with rfl | rfl | rfl | rfl | rfl | rfl | rfl | rfl | rfl | rfl | rfl | rfl | rfl | rfl
  ·simp only [crDF,List.getD_cons_succ,List.getD_cons_zero,gO_true,gH_true,gS_true,bO_some]
   exact ⟨rfl,(hp3_u (by omega) (by omega) (by omega)).symm⟩
  ·simp only [crDF,List.getD_cons_succ,List.getD_cons_zero,gO_true,gH_true,gS_true,bO_some]
   exact ⟨rfl,(hp3_u (by omega) (by omega) (by omega)).symm⟩
  ·simp only [crDF,List.getD_cons_succ,List.getD_cons_zero,gO_true,gH_true,gS_true,bO_some]
   have v1:=(hn 1 (by simp [crDNeed])).2
   rw [v1]
   exact ⟨rfl,(hp3_u (by omega) (by omega) (by omega)).symm⟩
  ·simp only [crDF,List.getD_cons_succ,List.getD_cons_zero,gO_true,gH_true,gS_true,bO_some]
   have v2:=(hn 2 (by simp [crDNeed])).2
   rw [v2]
   exact ⟨rfl,(hp3_u (by omega) (by omega) (by omega)).symm⟩
  ·simp only [crDF,List.getD_cons_succ,List.getD_cons_zero,gO_true,gH_true,gS_true,bO_some]
   have v3:=(hn 3 (by simp [crDNeed])).2
   rw [v3]
   have e : ald false 1 (hp3 9 10 13 H (H ++ [some (.cells (encD (newD o.ino)))]) H10 H2 S) (V 3)=some b:=by
    have q12:=n12 hS
    have q15:=n15 q12
    have : (hp3 9 10 13 H (H ++ [some (.cells (encD (newD o.ino)))]) H10 H2 S)[oi]? = some (some (.cells [a,b])):=by
     unfold hp3
     rw [q15,q12]
     cases S 9 with
     | true => exact hg.obj
     | false => exact h.obj
    show ald false 1 _ (.ptr oi 1)=_
    rw [ald_ptr this]; rfl
   rw [e]
   exact ⟨rfl,(hp3_u (by omega) (by omega) (by omega)).symm⟩
  ·simp only [crDF,List.getD_cons_succ,List.getD_cons_zero,gO_true,gH_true,gS_true,bO_some]
   exact ⟨rfl,(hp3_u (by omega) (by omega) (by omega)).symm⟩
  ·simp only [crDF,List.getD_cons_succ,List.getD_cons_zero,gO_true,gH_true,gS_true,bO_some]
   exact ⟨rfl,(hp3_u (by omega) (by omega) (by omega)).symm⟩
  ·simp only [crDF,List.getD_cons_succ,List.getD_cons_zero,gO_true,gH_true,gS_true,bO_some]
   have v6:=(hn 6 (by simp [crDNeed])).2
   rw [v6]
   have e : ald false 1 (hp3 9 10 13 H (H ++ [some (.cells (encD (newD o.ino)))]) H10 H2 S) (V 6)=some (I o.ino):=by
    have q11:=n11 hS
    have q12:=n12' q11
    have q15:=n15 q12
    unfold hp3
    rw [q15,q12,q11]
    show ald false 1 H (.ptr p 1)=_
    rw [ald_ptr hp]; rfl
   rw [e]
   exact ⟨rfl,(hp3_u (by omega) (by omega) (by omega)).symm⟩
  ·simp only [crDF,List.getD_cons_succ,List.getD_cons_zero,gO_true,gH_true,gS_true,bO_some]
   have v7:=(hn 7 (by simp [crDNeed])).2
   rw [v7]
   exact ⟨rfl,(hp3_u (by omega) (by omega) (by omega)).symm⟩
  ·simp only [crDF,List.getD_cons_succ,List.getD_cons_zero,gO_true,gH_true,gS_true,bO_some]
   have v8:=(hn 8 (by simp [crDNeed])).2
   rw [v8]
   have q12:=n12' hS
   have q15:=n15 q12
   have e : hp3 9 10 13 H (H ++ [some (.cells (encD (newD o.ino)))]) H10 H2 S=H:=by unfold hp3; rw [q15,q12,hS]; rfl
   have e2 : hp3 9 10 13 H (H ++ [some (.cells (encD (newD o.ino)))]) H10 H2 (upd S 9)=H ++ [some (.cells (encD (newD o.ino)))]:=by unfold hp3; simp [upd,q15,q12]
   rw [e,e2]
   exact ⟨rfl,rfl⟩
  ·simp only [crDF,List.getD_cons_succ,List.getD_cons_zero,gO_true,gH_true,gS_true,bO_some]
   have v4:=(hn 4 (by simp [crDNeed])).2
   have v5:=(hn 5 (by simp [crDNeed])).2
   have v9:=(hn 9 (by simp [crDNeed])).2
   rw [v4,v5,v9]
   have q15:=n15 hS
   have e : hp3 9 10 13 H (H ++ [some (.cells (encD (newD o.ino)))]) H10 H2 S=H ++ [some (.cells (encD (newD o.ino)))]:=by unfold hp3; rw [q15,hS,(hn 9 (by simp [crDNeed])).1]; rfl
   have e2 : hp3 9 10 13 H (H ++ [some (.cells (encD (newD o.ino)))]) H10 H2 (upd S 10)=H10:=by unfold hp3; simp [upd,q15]
   rw [e,e2]
   exact hc
  ·simp only [crDF,List.getD_cons_succ,List.getD_cons_zero,gO_true,gH_true,gS_true,bO_some]
   have v0:=(hn 0 (by simp [crDNeed])).2
   rw [v0]
   exact ⟨rfl,(hp3_u (by omega) (by omega) (by omega)).symm⟩
  ·simp only [crDF,List.getD_cons_succ,List.getD_cons_zero,gO_true,gH_true,gS_true,bO_some]
   have v11:=(hn 11 (by simp [crDNeed])).2
   rw [v11]
   exact ⟨rfl,(hp3_u (by omega) (by omega) (by omega)).symm⟩
  ·simp only [crDF,List.getD_cons_succ,List.getD_cons_zero,gO_true,gH_true,gS_true,bO_some]
   have v12:=(hn 12 (by simp [crDNeed])).2
   have v10:=(hn 10 (by simp [crDNeed])).2
   rw [v12,v10]
   have e : hp3 9 10 13 H (H ++ [some (.cells (encD (newD o.ino)))]) H10 H2 S=H10:=by unfold hp3; rw [hS,(hn 10 (by simp [crDNeed])).1]; rfl
   have e3 : hp3 9 10 13 H (H ++ [some (.cells (encD (newD o.ino)))]) H10 H2 (upd S 13)=H2:=by unfold hp3; simp [upd]
   rw [e,e3]
   show bS (ast 1 H10 (.ptr oi 1) r) _
   rw [e2,bS_some]
   exact ⟨rfl,rfl⟩
 ·intro S vals hS
  rw [crDLen,crD_K]
  have : hp3 9 10 13 H (H ++ [some (.cells (encD (newD o.ino)))]) H10 H2 S=H2:=by unfold hp3; rw [if_pos (hS 13 (by rw [crDLen]; omega)).1]
  rw [this]
  exact hK
end Go.Proofs.YtlbilcpnjgkpjaaGreat.Av
end
section
namespace Go.Proofs.YtlbilcpnjgkpjaaGreat.Av
open Go Go.RowKit
def ImP (L oi : Nat) (H : AH) (ns : List Nm) (dv : List NdV) (r : AV) (H' : AH) : Prop:=r = .tup []∧∃ a b,ImH L oi ns dv a b H'∧FrL L oi H H'
def creOk (ns : List Nm) (dv : List NdV) (o : OpM) : Prop:=¬ hasK Nm.name ns o.name∧¬ hasK NdV.ino dv o.ino∧mayN o.name∧1≤o.ino∧o.ino≤4611686018427387904∧ns.length < 16
instance (ns : List Nm) (dv : List NdV) (o : OpM) : Decidable (creOk ns dv o):=by unfold creOk; infer_instance
def creNs (ns : List Nm) (dv : List NdV) (o : OpM) : List Nm:=if creOk ns dv o then insK cmpN Nm.name ns ⟨o.name,o.ino⟩ else ns
def creDv (ns : List Nm) (dv : List NdV) (o : OpM) : List NdV:=if creOk ns dv o then insK cmpI NdV.ino dv (newD o.ino) else dv
theorem op_new {L oi : Nat} {ns : List Nm} {dv : List NdV} {a b : AV} {H : AH} (h : ImH L oi ns dv a b H) (o : OpM) {bv : AV} (hb : oneA bv=true) : ∃ H1,anew H (.agg (opA o bv))=some (.ptr H.length 0,H1)∧H1[H.length]? = some (some (.cells (opA o bv)))∧ImH L oi ns dv a b H1∧FrL L oi H H1:=by
 have g:=Grew.app H [some (.cells (opA o bv))]
 have hle:=h.len
 exact ⟨_,by simp [opA,hb],by simp,h.grew g,g.1,fun j h1 h2 => g.2 j (by omega)⟩
theorem create_w {L oi : Nat} {ns : List Nm} {dv : List NdV} {a b bv : AV} {H H1 : AH} {o : OpM} (h : ImH L oi ns dv a b H) (e1 : anew H (.agg (opA o bv))=some (.ptr H.length 0,H1)) (hp : H1[H.length]? = some (some (.cells (opA o bv)))) (h1 : ImH L oi ns dv a b H1)
  (hs : srtK cmpN Nm.name ns) (hd : srtK cmpI NdV.ino dv) (hn : ns.length≤100000) (hm : dv.length≤100000) (hnm : o.name.length≤1000000000) {K : AV→AH→Prop} (hno : ¬ creOk ns dv o→K (.tup []) H1) (hyes : creOk ns dv o→zjfZ (.ptr oi 0) (.ptr H.length 0) (I (posK cmpN Nm.name ns o.name)) (I (posK cmpI NdV.ino dv o.ino)) H1 K) :
  zplZ (.ptr oi 0) (.agg (opA o bv)) H K:=by
 obtain ⟨Ra,Rb,sa,sb,fz⟩:=h1.lend
 have c0:=h1.obj
 unfold zplZ
 simp only [e1,bH_some]
 have b0 : rdCells true 2 [a,b] 0=some (.agg [a,b]):=rfl
 simp [hp,c0,b0,opA]
 refine bC_of (PCall.lend (FZs.cons fz (FZs.cons (FZ.lit _) FZs.nil)) rfl (named_p sa sb hs (by omega) o.name)).call ?_
 simp [hp,c0,b0,opA]
 refine bC_of (PCall.lend (FZs.cons fz (FZs.cons (FZ.lit _) FZs.nil)) rfl (node_p sa sb hd (by omega) o.ino)).call ?_
 by_cases q1 : hasK Nm.name ns o.name
 ·simp [q1]
  exact hno fun hc => hc.1 q1
 ·by_cases q2 : hasK NdV.ino dv o.ino
  ·simp [q1,q2]
   exact hno fun hc => hc.2.1 q2
  ·simp [q1,q2,hp,opA]
   refine bP_pure (MayName_p (s:=o.name) (by omega)) ?_
   by_cases q3 : mayN o.name
   ·by_cases q4 : o.ino < 1
    ·simp [q3,q4,hp,opA]
     exact hno fun hc => by have:=hc.2.2.2.1; omega
    ·by_cases q5 : 4611686018427387904 < o.ino
     ·simp [q3,q4,q5,hp,opA]
      exact hno fun hc => by have:=hc.2.2.2.2.1; omega
     ·have ln:=zbxZ h1.sa
      by_cases q6 : 16≤ns.length
      ·have q6' : (16 : Int)≤ns.length:=by omega
       simp [q3,q4,q5,hp,opA,c0,ln,q6']
       exact hno fun hc => by have:=hc.2.2.2.2.2; omega
      ·have q6' : ¬ (16 : Int)≤ns.length:=by omega
       simp [q3,q4,q5,hp,opA,c0,ln,q6']
       exact hyes ⟨q1,q2,q3,by omega,by omega,by omega⟩
   ·simp [q3]
    exact hno fun hc => q3 hc.2.2.1
theorem create_c {L oi : Nat} {ns : List Nm} {dv : List NdV} {a b bv : AV} {H : AH} {o : OpM} (h : ImH L oi ns dv a b H) (hs : srtK cmpN Nm.name ns) (hd : srtK cmpI NdV.ino dv) (hb : oneA bv=true) (hn : ns.length≤100000) (hm : dv.length≤100000) (hnm : o.name.length≤1000000000) :
  ∃ r H',ImP L oi H (creNs ns dv o) (creDv ns dv o) r H'∧BCall Tryz.prog 55 [.ptr oi 0,.agg (opA o bv)] H r H':=by
 obtain ⟨H1,e1,hp,h1,f1⟩:=op_new h o hb
 have hpl : H.length ≠ oi:=by have:=(List.getElem?_eq_some_iff.1 h.obj).1; omega
 have hpa : H.length ∉ idS a:=fun hh => by have:=zcZ h.sa _ hh; omega
 by_cases hc : creOk ns dv o
 ·obtain ⟨r,H2,h2,f2,g2,w2⟩:=create_U4 h1 hp hpl hpa (posK_le (c:=cmpN) (key:=Nm.name) ns o.name) hn
  obtain ⟨r2,H3,h3,f3,w3⟩:=create_U5 h2 (g2.trans hp) (posK_le (c:=cmpI) (key:=NdV.ino) dv o.ino) hm
  refine ⟨.tup [],H3,⟨rfl,r,r2, ?_,f1.trans (f2.trans f3)⟩,image_create_ok (create_w h e1 hp h1 hs hd hn hm hnm (fun q => absurd hc q) fun _ => w2 _ _ ?_)⟩
  ·unfold creNs creDv
   rw [if_pos hc,if_pos hc]; exact h3
  ·rw [image_create_J5_eq]
   unfold zojZ
   exact w3 _ ⟨rfl,rfl⟩
 ·refine ⟨.tup [],H1,⟨rfl,a,b, ?_,f1⟩,image_create_ok (create_w h e1 hp h1 hs hd hn hm hnm (fun _ => ⟨rfl,rfl⟩) fun q => absurd q hc)⟩
  unfold creNs creDv
  rw [if_neg hc,if_neg hc]; exact h1
def remNs (ns : List Nm) (s : List UInt8) : List Nm:=if hasK Nm.name ns s then delK cmpN Nm.name ns s else ns
def remDv (ns : List Nm) (dv : List NdV) (s : List UInt8) : List NdV:=if hasK Nm.name ns s then delK cmpI NdV.ino dv (nameI ns s) else dv
theorem remove_c {L oi : Nat} {ns : List Nm} {dv : List NdV} {a b : AV} {H : AH} {s : List UInt8} (h : ImH L oi ns dv a b H) (hs : srtK cmpN Nm.name ns) (hd : srtK cmpI NdV.ino dv) (hx : ∀ x ∈ ns,hasK NdV.ino dv x.ino) (hn : ns.length≤100000) (hm : dv.length≤100000) :
  ∃ r H',ImP L oi H (remNs ns s) (remDv ns dv s) r H'∧BCall Tryz.prog 58 [.ptr oi 0,S (bstr s)] H r H':=image_remove_ok (by
 obtain ⟨Ra,Rb,sa,sb,fz⟩:=h.lend
 have c0:=h.obj
 unfold image_remove
 have b0 : rdCells true 2 [a,b] 0=some (.agg [a,b]):=rfl
 simp [c0,b0]
 refine bC_of (PCall.lend (FZs.cons fz (FZs.cons (FZ.lit _) FZs.nil)) rfl (named_p sa sb hs (by omega) s)).call ?_
 by_cases q : hasK Nm.name ns s
 ·obtain ⟨x,hx1,hx2,hx3⟩:=posK_atK koN hs q
  obtain ⟨o,off,cells,u1,u2,u3,u4,u5,-⟩:=own_at encN_len (by omega) h.sa h.oa hx1
  have u51:=u5 1 (by omega)
  have hk:=hx x (List.mem_of_getElem? hx1)
  have hkl:=hasK_pos koI hd hk
  have hpl:=(List.getElem?_eq_some_iff.1 hx1).1
  have e1 : remNs ns s=delK cmpN Nm.name ns s:=if_pos q
  have e2 : remDv ns dv s=delK cmpI NdV.ino dv x.ino:=by unfold remDv nameI; rw [if_pos q,hx2]
  simp [q,c0,b0,u1,u3,u51,encN]
  refine bC_of (PCall.lend (FZs.cons fz (FZs.cons (FZ.lit _) FZs.nil)) rfl (node_p sa sb hd (by omega) x.ino)).call ?_
  simp [c0,abI_add (a:=(posK cmpN Nm.name ns s : Nat)) (b:=1) (by omega) (by omega)]
  obtain ⟨r1,H2,⟨d1,d2,d3,d4,d5,d6⟩,d7⟩:=delN_c h.sa h.oa h.ca hpl (by omega)
  refine bC_of d7 ?_
  have l1:=delK_len (c:=cmpN) (key:=Nm.name) (k:=s) hpl
  obtain ⟨H3,e3,n1,n2⟩:=h.newA (ms:=delK cmpN Nm.name ns s) (Nat.le_of_eq d3.symm) (fun i _ hi => d4 i hi) (by rw [show (delK cmpN Nm.name ns s).length=ns.length - 1 by omega]; exact d2) d1 (by rw [show (delK cmpN Nm.name ns s).length=ns.length - 1 by omega]; exact d6) (fun i hi => .inl (d5 ▸ hi))
  have c3:=n1.obj
  simp [e3,c3,abI_add (a:=(posK cmpI NdV.ino dv x.ino : Nat)) (b:=1) (by omega) (by omega)]
  obtain ⟨r2,H4,⟨g1,g2,g3,g4,g5,g6⟩,g7⟩:=delD_c n1.sb n1.ob n1.cb hkl (by omega)
  refine bC_of g7 ?_
  have l2:=delK_len (c:=cmpI) (key:=NdV.ino) (k:=x.ino) hkl
  obtain ⟨H5,e5,m1,m2⟩:=n1.newB (ew:=delK cmpI NdV.ino dv x.ino) (Nat.le_of_eq g3.symm) (fun i _ hi => g4 i hi) (by rw [show (delK cmpI NdV.ino dv x.ino).length=dv.length - 1 by omega]; exact g2) g1 (by rw [show (delK cmpI NdV.ino dv x.ino).length=dv.length - 1 by omega]; exact g6) (fun i hi => .inl (g5 ▸ hi))
  simp [e5]
  rw [e1,e2]
  exact ⟨rfl,_,_,m1,n2.trans m2⟩
 ·simp [q]
  refine ⟨rfl,a,b, ?_,FrL.refl _ _ _⟩
  unfold remNs remDv
  rw [if_neg q,if_neg q]; exact h)
end Go.Proofs.YtlbilcpnjgkpjaaGreat.Av
end
section
namespace Go.Proofs.YtlbilcpnjgkpjaaGreat.Av
open Go Go.RowKit
def maySp (pos n : Int) : Prop:=0≤pos∧1≤n∧n≤1099511627776∧pos≤1099511627776 - n
instance (pos n : Int) : Decidable (maySp pos n):=by unfold maySp; infer_instance
theorem extent_span_p (pos n : Int) : BPure Tryz.prog 110 [I pos,I n] (B (decide (maySp pos n))):=BPure.flat fun H => extent_span_ok (by
 unfold extent_span maySp
 by_cases h1 : 0≤pos
 ·by_cases h2 : 1≤n
  ·by_cases h3 : n≤1099511627776
   ·simp [h1,h2,h3,abI_sub (a:=1099511627776) (b:=n) (by omega) (by omega)]
   ·simp [h1,h2,h3]
  ·simp [h1,h2]
 ·simp [h1])
theorem extent_Allocate_p {size : Int} {l : List Ext} {v : AV} (hv : SV encE 9 l v) (hl : l.length≤1000000) (pos n : Int) (keep : Bool) :
  ∃ R,SV encE 9 (cL (allocC (size,l) pos n keep)) R∧BPure Tryz.prog 86 [.agg [I size,v],I pos,I n,B keep] (.tup [.agg [I (cS (allocC (size,l) pos n keep)),R],B (allocC (size,l) pos n keep).isSome]):=by
 refine BPure.cont (by simp [noIdss,noIds,hv.1]) (extent_Allocate_ok ?_)
 unfold zmvZ
 simp [oneA_sv hv,rdCells]
 refine bP_pure (zjnZ hv (by omega)) ?_
 by_cases h1 : mayC size l
 ·simp [h1]
  refine bP_pure (extent_span_p pos n) ?_
  by_cases h2 : maySp pos n
  ·by_cases h3 : 32768 < n
   ·have hn : allocC (size,l) pos n keep=none:=if_neg (fun h => by omega)
    simp [h2,h3,ast]
    exact ContK.none hn
   ·obtain ⟨g1,g2,g3,g4⟩:=h2
    have hw : allocC (size,l) pos n keep=some (if keep then size else max size (pos + n),allocL l pos n):=if_pos ⟨h1,g1,g2,by omega,g4⟩
    simp [show maySp pos n from ⟨g1,g2,g3,g4⟩,h3]
    obtain ⟨r,H2,⟨w,rfl,a2,a3,a4,a5⟩,a1⟩:=copied_c (size:=size) (hv.2 [some (.cells [I size,v]),some (.cells [I 0,nilSl])]) (oneA_sv hv) (by omega)
    refine bC_of a1 ?_
    have c0:=a4.cells (o:=0) (x:=some (.cells [I size,v])) rfl
    have c1:=a4.cells (o:=1) (x:=some (.cells [I 0,nilSl])) rfl
    have hl2:=a4.1
    simp only [List.length_cons,List.length_nil] at hl2
    have hwo:=zpZ a2
    have id0 : ∀ j,j < 2→j ∉ idS w:=fun j hj h => by have:=a5 j h; simp at this; omega
    rw [ast_ptr (n:=2) (off:=0) (x:=.agg [I size,w]) (xs:=[I size,w]) (by simp [hwo]) c0 rfl (by simp)]
    simp [abI_quo (a:=pos) (b:=8) (by omega) (by omega) (by omega)]
    have hs0:=okL_srt h1.2.2
    have hN : allocN pos n≤4098:=by unfold allocN; omega
    refine znyZ (fun m x1 x2 x3 x4 x8 x10 H => ∃ (d : Nat) (w : AV),d + m=allocN pos n∧x1=I pos∧x2=I n∧x3=B keep∧x4 = .ptr 0 0∧x8 = .ptr 1 0∧x10=I (pos / 8 + d)∧H[0]? = some (some (.cells [I size,w]))∧H[1]? = some (some (.cells [I 0,nilSl])) ∧
     zaZ H 9 w=some ((needs l (pos / 8) d).flatMap encE,(needs l (pos / 8) d).length)∧ownedS w=true∧(∀ j,j < 2→j ∉ idS w)) ?_ (allocN pos n)
     ⟨0,w,by simp,rfl,rfl,rfl,rfl,rfl,by simp,List.getElem?_set_self (by omega),(List.getElem?_set_ne (by omega)).trans c1, ?_,a2,id0⟩
    ·rintro m x1 x2 x3 x4 x8 x10 H R hR ⟨d,w,hdn,rfl,rfl,rfl,rfl,rfl,rfl,k0,k1,kw,ko,kid⟩
     unfold zgxZ
     have hH0:=(List.getElem?_eq_some_iff.1 k0).1
     have hH1:=(List.getElem?_eq_some_iff.1 k1).1
     simp [abI_add (a:=pos) (b:=n) (by omega) (by omega),abI_sub (a:=pos + n) (b:=1) (by omega) (by omega),abI_quo (a:=pos + n - 1) (b:=8) (by omega) (by omega) (by omega)]
     by_cases hd : d < allocN pos n
     ·have hc : pos / 8 + (d : Int)≤(pos + n - 1) / 8:=by unfold allocN at hd; omega
      have hws:=ns_srt (k:=d) hs0 (pos / 8)
      have hlen:=ns_len (k:=d) (l:=l) (no:=pos / 8)
      obtain ⟨H11,⟨w',q1,q2,q3,q4,q5,q6,q7⟩,q8⟩:=extent_need_c' (no:=pos / 8 + d) k0 kw ko (kid 0 (by omega)) hws (by omega)
      simp [hc]
      refine bC_of q8 ?_
      have hid' : ∀ i,i < H.length→i ∉ idS w→i ∉ idS w':=fun i h1 h2 h3 => (q7 i h3).elim h2 (fun h => by omega)
      simp [abI_add (a:=pos / 8 + d) (b:=1) (by omega) (by omega)]
      refine hR (m - 1) _ _ _ _ _ _ _ (by omega) ⟨d + 1,w',by omega,rfl,rfl,rfl,rfl,rfl,by rw [show pos / 8 + (d : Int) + 1=pos / 8 + ((d + 1 : Nat) : Int) by omega],q1, ?_, ?_,q3,fun i hi => hid' i (by omega) (kid i hi)⟩
      ·rw [q6 1 hH1 (by omega) (kid 1 (by omega))]; exact k1
      ·rw [ns_succ]; exact q2
     ·have hd' : d=allocN pos n:=by omega
      subst hd'
      have hc : ¬ pos / 8 + ((allocN pos n : Nat) : Int)≤(pos + n - 1) / 8:=by unfold allocN; omega
      have hko:=zpZ ko
      have tail : ∀ s H2,H2.length=H.length→H2[0]? = some (some (.cells [I s,w]))→H2[1]? = some (some (.cells [I 0,nilSl]))→zaZ H2 9 w=some ((allocL l pos n).flatMap encE,(allocL l pos n).length)→allocC (size,l) pos n keep=some (s,allocL l pos n)→zesZ (.ptr 0 0) (.ptr 1 0) H2 (ContK (allocC (size,l) pos n keep)):=by
       intro s H2 hl2 e0 e1 e2 e3
       rw [zpnZ]
       unfold zjxZ
       simp [-ald_ptr',ald_ptr e0,rdCells]
       rw [ast_ptr (n:=2) (off:=0) (xs:=[I s,w]) (cs:=[I 0,nilSl]) (by simp [hko]) e1 rfl (by simp)]
       simp [show 1 < H2.length by omega,rdCells]
       exact ContK.some e3 (zbZ e2 fun i hi => by
        have h2 : 2≤i:=Nat.le_of_not_lt fun h => kid i h hi
        rw [List.getElem?_set_ne (by omega)])
      simp [hc]
      cases keep with
      | true =>
       simp
       exact tail size H rfl k0 k1 kw hw
      | false =>
       have hmx : max (pos + n) size=max size (pos + n):=by omega
       simp [k0,abI_add (a:=pos) (b:=n) (by omega) (by omega),hmx]
       rw [ast_ptr (n:=1) (off:=0) (xs:=[I (max size (pos + n))]) (cs:=[I size,w]) rfl k0 rfl (by simp)]
       simp
       refine tail _ _ (by simp) (List.getElem?_set_self hH0) ((List.getElem?_set_ne (by omega)).trans k1) (zbZ kw fun i hi => by
        have h2 : 2≤i:=Nat.le_of_not_lt fun h => kid i h hi
        rw [List.getElem?_set_ne (by omega)]) hw
    ·exact zbZ a3 fun i hi => by
      have h2 : 2≤i:=Nat.le_of_not_lt fun h => id0 i h hi
      rw [List.getElem?_set_ne (by omega)]
  ·have hn : allocC (size,l) pos n keep=none:=if_neg (fun h => h2 ⟨h.2.1,h.2.2.1,by omega,h.2.2.2.2⟩)
   simp [h2,ast]
   exact ContK.none hn
 ·have hn : allocC (size,l) pos n keep=none:=if_neg (fun h => h1 h.1)
  simp [h1,ast]
  exact ContK.none hn
end Go.Proofs.YtlbilcpnjgkpjaaGreat.Av
end
section
namespace Go.Proofs.YtlbilcpnjgkpjaaGreat.Av
open Go Go.RowKit
theorem FZ.fn {X : AH} {k : Fn} {a b a' b' : List AV} (ha : FZs X a a') (hb : FZs X b b') : FZ X (.fn k a b) (.fn k a' b'):=by
 obtain ⟨n0,h0⟩:=ha
 obtain ⟨n1,h1⟩:=hb
 refine ⟨n0 + n1 + 1,fun n hn => ?_⟩
 cases n with
 | zero => omega
 | succ n => simp only [frz,h0 n (by omega),h1 n (by omega)]
theorem FZs.same {X : AH} {vs : List AV} (h : noIdss vs=true) : FZs X vs vs:=zjmZ X vs h
theorem FZ.ptr {X : AH} {o off : Nat} {cs Rs : List AV} (ho : X[o]? = some (some (.cells cs))) (h : FZs X (cs.drop off) Rs) : FZ X (.ptr o off) (.ip Rs):=by
 obtain ⟨n0,h0⟩:=h
 refine ⟨n0 + 1,fun n hn => ?_⟩
 cases n with
 | zero => omega
 | succ n => simp only [frz,ho,h0 n (by omega)]; rfl
theorem sl_put {α : Type} {enc : α→List AV} {sz : Nat} (hsz : ∀ x,(enc x).length=sz) (h0 : 0 < sz) {H : AH} {w x : AV} {l : List α} {y : α} {i : Nat} {a : Int} (hw : zaZ H sz w=some (l.flatMap enc,l.length)) (ho : ownedS w=true) (hi : i < l.length) (ha : a=i) (hx : cellsA x=some (enc y)) :
  ∃ p H',aixS sz w (I a)=some p∧ast sz H p x=some H'∧H'.length=H.length∧(∀ j,j ∉ idS w→H'[j]? = H[j]?)∧zaZ H' sz w=some ((l.set i y).flatMap enc,l.length):=by
 subst ha
 obtain ⟨o,off,cap,cells,rfl,h1,h2,h3⟩:=owned_sl hw ho (by omega)
 have hol:=(List.getElem?_eq_some_iff.1 h1).1
 have hmul : i * sz + sz≤l.length * sz:=by rw [← Nat.succ_mul]; exact Nat.mul_le_mul_right _ hi
 have hy:=hsz y
 have hl:=List.getElem?_eq_getElem hi
 have hll:=hsz (l[i])
 refine ⟨.ptr o (off + i * sz),H.set o (some (.cells (over cells (off + (i * sz + 0)) (enc y)))), ?_, ?_,by simp,fun j hj => List.getElem?_set_ne (by simp [idS] at hj; omega), ?_⟩
 ·simp only [aixS,aint]
  rw [if_pos ⟨by omega,by omega⟩]; simp
 ·rw [ast_ptr (n:=sz) (off:=off + i * sz) (xs:=enc y) hx h1 hy (by omega),splice_eq _ _ _ (by omega)]; rfl
 ·rw [zbdZ (c:=over cells (off + (i * sz + 0)) (enc y)) (by simp [hol]) (by rw [over_len (by omega)]; exact h2)]
  rw [over_part h2 (by omega),← h3,over_flat (q:=0) hsz hl (by unfold over; rw [List.take_zero,List.nil_append,List.drop_of_length_le (by omega),List.append_nil]) (by omega)]
def firstI (p : Ext→Bool) (l : List Ext) : Int:=match l.findIdx? p with
 | some i => i
 | none => -1
def DelP (k : FuncId) (oc : Nat) (c : List AV) (l : List Ext) (p : Ext→Bool) : Prop :=
 goFunc Tryz.prog k=true∧noIdss c=true∧∀ x ∈ l,∀ (H : AH) (a : AV),(a = .ip c∨(a = .ptr oc 0∧H[oc]? = some (some (.cells c))))→∃ H',Grew H H'∧BCall Tryz.prog k [.agg (encE x),a] H (B (p x)) H'
theorem ext_IndexFunc_p {k : FuncId} {oc : Nat} {c : List AV} {l : List Ext} {p : Ext→Bool} {R : AV} (hR : SV encE 9 l R) (hl : l.length≤281474976710656) (hd : DelP k oc c l p) :
  BPure Tryz.prog 93 [R,.fn (.func k) [] [.ip c]] (I (firstI p l)):=BPure.val (by simp [noIdss,noIds,hR.1,hd.2.1]) rfl (zdeZ (by
 unfold zbiZ
 simp [hR.len]
 refine zcdZ (fun n x0 x1 x7 x8 H => ∃ j : Nat,j + n=l.length∧x0=R∧x1 = .fn (.func k) [] [.ip c]∧x7=I l.length∧x8=I j∧∀ m x,m < j→l[m]? = some x→p x=false) ?_ l.length ⟨0,by simp,rfl,rfl,rfl,rfl,by simp⟩
 rintro n x0 x1 x7 x8 H R' hR' ⟨j,hj,rfl,rfl,rfl,rfl,hm⟩
 unfold zuZ
 rcases Nat.lt_or_ge j l.length with hlt | hge
 ·have hx:=List.getElem?_eq_getElem hlt
  generalize l[j]=y at hx
  obtain ⟨H',g,hc⟩:=hd.2.2 y (List.mem_of_getElem? hx) H (.ip c) (.inl rfl)
  simp [hlt,hR.idx zcbZ hx rfl,hd.1]
  refine bC_of hc ?_
  cases hp : p y with
  | true =>
   have : l.findIdx? p=some j:=by
    rw [List.findIdx?_eq_some_iff_getElem]
    obtain ⟨h1,h2⟩:=List.getElem?_eq_some_iff.1 hx
    refine ⟨h1,by rw [h2]; exact hp,fun i hi => ?_⟩
    have:=hm i _ hi (List.getElem?_eq_getElem (by omega))
    simp [this]
   simp [firstI,this]
  | false =>
   simp [abI_add (a:=j) (b:=1) (by omega) (by omega)]
   refine hR' (n - 1) _ _ _ _ _ (by omega) ⟨j + 1,by omega,rfl,rfl,rfl,rfl,fun m x hmj hx2 => ?_⟩
   by_cases h : m=j
   ·subst h; rw [hx] at hx2; injection hx2 with hx2; rw [← hx2]; exact hp
   ·exact hm m x (by omega) hx2
 ·have : l.findIdx? p=none:=by
   rw [List.findIdx?_eq_none_iff]
   intro x hx
   obtain ⟨m,hmx⟩:=List.mem_iff_getElem?.1 hx
   exact hm m x (by have:=(List.getElem?_eq_some_iff.1 hmx).1; omega) hmx
  have hjl : ¬ j < l.length:=by omega
  simp [hjl,firstI,this]))
theorem filter_none {p : Ext→Bool} {l : List Ext} (h : ∀ x ∈ l,p x=false) : l.filter (fun x => !p x)=l:=List.filter_eq_self.2 fun x hx => by simp [h x hx]
theorem zqaZ {H : AH} {v : AV} {l : List Ext} {k : FuncId} {oc : Nat} {c : List AV} {p : Ext→Bool} (hv : zaZ H 9 v=some (l.flatMap encE,l.length)) (ho : ownedS v=true) (hl : l.length≤1000000) (hc : H[oc]? = some (some (.cells c))) (hne : oc ∉ idS v) (hd : DelP k oc c l p) :
  ∃ r H',(ownedS r=true∧zaZ H' 9 r=some ((l.filter fun x => !p x).flatMap encE,(l.filter fun x => !p x).length)∧H.length≤H'.length∧(∀ i,i < H.length→i ∉ idS v→H'[i]? = H[i]?)∧∀ i ∈ idS r,i ∈ idS v) ∧
   BCall Tryz.prog 69 [v,.fn (.func k) [] [.ptr oc 0]] H r H':=zfqZ (by
 unfold zbyZ
 obtain ⟨R,hR,fR⟩:=FZ.sv hv (noIdss_exts l)
 have fc : FZ H (.fn (.func k) [] [.ptr oc 0]) (.fn (.func k) [] [.ip c]):=FZ.fn FZs.nil (FZs.cons (FZ.ptr hc (FZs.same hd.2.1)) FZs.nil)
 refine bP_of (PCall.lend (FZs.cons fR (FZs.cons fc FZs.nil)) rfl (ext_IndexFunc_p hR (by omega) hd)) ?_
 cases hf : l.findIdx? p with
 | none =>
  rw [List.findIdx?_eq_none_iff] at hf
  simp [firstI,List.findIdx?_eq_none_iff.2 hf]
  rw [filter_none hf]
  exact ⟨ho,hv⟩
 | some i0 =>
  obtain ⟨h1,h2,h3⟩:=List.findIdx?_eq_some_iff_getElem.1 hf
  have hoc:=(List.getElem?_eq_some_iff.1 hc).1
  simp [firstI,hf,show ¬ (i0 : Int) = -1 by omega,abI_add (a:=i0) (b:=1) (by omega) (by omega)]
  have ht : (l.take (i0 + 1)).filter (fun x => !p x)=l.take i0:=by
   rw [List.take_add_one,List.filter_append,List.getElem?_eq_getElem h1]
   simp [h2]
   intro x hx
   obtain ⟨m,hm⟩:=List.mem_iff_getElem?.1 hx
   have hml:=(List.getElem?_eq_some_iff.1 hm).1
   rw [List.length_take] at hml
   rw [List.getElem?_take,if_pos (by omega)] at hm
   have:=h3 m (by omega)
   obtain ⟨q1,q2⟩:=List.getElem?_eq_some_iff.1 hm
   rw [q2] at this
   simpa using this
  refine zehZ (fun n x0 x1 x5 x6 H' => ∃ (i j : Nat) (M : List Ext),j + n=l.length∧i < j∧x0=v∧x1 = .fn (.func k) [] [.ptr oc 0]∧x5=I i∧x6=I j∧M.length=l.length∧M.take i=(l.take j).filter (fun x => !p x)∧M.drop j=l.drop j ∧
   zaZ H' 9 v=some (M.flatMap encE,M.length)∧H'[oc]? = some (some (.cells c))∧H.length≤H'.length∧∀ i,i < H.length→i ∉ idS v→H'[i]? = H[i]?) ?_ (l.length - (i0 + 1))
   ⟨i0,i0 + 1,l,by omega,by omega,rfl,rfl,rfl,rfl,rfl,ht.symm,rfl,hv,hc,Nat.le_refl _,fun _ _ _ => rfl⟩
  rintro n x0 x1 x5 x6 H' R' hR' ⟨i,j,M,hj,hij,rfl,rfl,rfl,rfl,hM,hMt,hMd,hw,hc',hle,hk⟩
  unfold zbkZ
  rcases Nat.lt_or_ge j l.length with hlt | hge
  ·have hx:=List.getElem?_eq_getElem hlt
   generalize l[j]=y at hx
   have hMx : M[j]? = some y:=by
    have:=congrArg (fun q => q[0]?) hMd
    simp only [List.getElem?_drop,Nat.add_zero] at this
    rw [this]; exact hx
   obtain ⟨q,-,e1,-,-,e2⟩:=sl_no (a:=j) hw hMx rfl
   have hoc':=(List.getElem?_eq_some_iff.1 hc').1
   have gA:=Grew.app H' [some (.cells (encE y))]
   obtain ⟨H10,g,hcl⟩:=hd.2.2 y (List.mem_of_getElem? hx) (H' ++ [some (.cells (encE y))]) (.ptr oc 0) (.inr ⟨rfl,gA.cells hc'⟩)
   have gB:=gA.trans g
   have z:=g.cells (o:=H'.length) (x:=some (.cells (encE y))) (by simp)
   simp [zbxZ hw,hM,hlt,e1,e2,hd.1,-ald_ptr']
   rw [ast_e (by simp) (by rfl)]
   simp
   refine bC_of hcl ?_
   have hdrop : M.drop (j + 1)=l.drop (j + 1):=by
    have:=congrArg (List.drop 1) hMd
    rw [List.drop_drop,List.drop_drop] at this
    exact this
   have hkeepB : ∀ i,i < H.length→i ∉ idS x0→H10[i]? = H[i]?:=fun i h1 h2 => by rw [gB.2 i (by omega),hk i h1 h2]
   cases hp : p y with
   | true =>
    simp
    rw [zceZ]
    unfold zbhZ
    simp [abI_add (a:=j) (b:=1) (by omega) (by omega)]
    refine hR' (n - 1) _ _ _ _ _ (by omega) ⟨i,j + 1,M,by omega,by omega,rfl,rfl,rfl,rfl,hM, ?_,hdrop,gB.slice hw,gB.cells hc',by have:=gB.1; omega,hkeepB⟩
    rw [List.take_add_one,List.filter_append,← hMt,hx]
    simp [hp]
   | false =>
    obtain ⟨q2,H16,f1,f2,f3,f4,f5⟩:=sl_put (x:=.agg (encE y)) (y:=y) (i:=i) (a:=i) zcbZ (by omega) (gB.slice hw) ho (by omega) rfl (by simp)
    simp [z,f1,f2,abI_add (a:=i) (b:=1) (by omega) (by omega)]
    rw [zceZ]
    unfold zbhZ
    simp [abI_add (a:=j) (b:=1) (by omega) (by omega)]
    refine hR' (n - 1) _ _ _ _ _ (by omega) ⟨i + 1,j + 1,M.set i y,by omega,by omega,rfl,rfl,rfl,rfl,by simpa using hM, ?_, ?_,by simpa using f5, ?_,by have:=gB.1; omega,fun i h1 h2 => by rw [f4 i h2]; exact hkeepB i h1 h2⟩
    ·rw [List.take_add_one (l:=l),List.filter_append,← hMt,hx,List.take_add_one,List.getElem?_set_self (by omega),List.take_set_of_le (Nat.le_refl _)]
     simp [hp]
    ·rw [List.drop_set_of_lt (by omega)]; exact hdrop
    ·rw [f4 oc hne]; exact gB.cells hc'
  ·have hjl : j=l.length:=by omega
   subst hjl
   rw [List.take_length] at hMt
   have hil : i≤M.length:=by omega
   have hfl : (l.filter fun x => !p x).length=i:=by rw [← hMt,List.length_take]; omega
   obtain ⟨o,off,cap,cells,rfl,w1,w2,w3⟩:=owned_sl hw ho (by omega)
   have hol:=(List.getElem?_eq_some_iff.1 w1).1
   have hmul : i * 9≤M.length * 9:=Nat.mul_le_mul_right _ hil
   have hmul2 : i * 9 + (M.length - i) * 9=M.length * 9:=by rw [← Nat.add_mul]; congr 1; omega
   have hz : (zrow (encE (newE 0)) (M.length - i)).length=(M.length - i) * 9:=by rw [zfiZ]; rfl
   have e3 : aslS 9 (.sl o off M.length 9 cap) (some (I i)) none none=some (.sl o (off + i * 9) (M.length - i) 9 (cap.cut M.length i)):=by
    simp [aslS,abnd]; omega
   have e4 : aslS 9 (.sl o off M.length 9 cap) none (some (I i)) none=some (.sl o off i 9 (cap.cut M.length 0)):=by
    simp [aslS,abnd]; omega
   have e5 : acl (encE (newE 0)) H' (.sl o (off + i * 9) (M.length - i) 9 (cap.cut M.length i))=some (H'.set o (some (.cells (over cells (off + i * 9) (zrow (encE (newE 0)) (M.length - i)))))):=by
    simp only [acl,w1]
    rw [if_pos ⟨rfl,by omega,by omega⟩,if_neg (by omega),splice_eq _ _ _ (by rw [hz]; omega)]
    rfl
   rw [← encE_new]
   have hnl : ¬ (l.length : Int) < M.length:=by omega
   simp only [alnS_sl,bO_some,abI_lss,hnl,decide_false,bB_bool,zlZ,e3,e5,bS_some,e4]
   refine ⟨rfl, ?_,by simpa using hle,fun a h1 h2 => ?_,by simp [idS]⟩
   ·have hov : (over cells (off + i * 9) (zrow (encE (newE 0)) (M.length - i))).length=cells.length:=over_len (by rw [hz]; omega)
    rw [hfl,zbdZ (c:=over cells (off + i * 9) (zrow (encE (newE 0)) (M.length - i))) (by simp [hol]) (by rw [hov]; omega)]
    congr 2
    rw [← hMt,← flat_take zcbZ,w3,List.take_take,Nat.min_eq_left hmul]
    refine List.ext_getElem? fun q => ?_
    rw [List.getElem?_take,List.getElem?_take]
    split
    ·rw [List.getElem?_drop,List.getElem?_drop,over_get (by rw [hz]; omega),if_neg (by omega)]
    ·rfl
   ·rw [List.getElem?_set_ne (by simp [idS] at h2; omega)]
    exact hk a h1 h2)
theorem over_same {cs xs : List AV} {k : Nat} (h : (cs.drop k).take xs.length=xs) (hl : k + xs.length≤cs.length) : over cs k xs=cs:=by
 refine List.ext_getElem? fun i => ?_
 rw [over_get hl]
 split
 ·rename_i c
  rw [← h,List.getElem?_take,if_pos (by omega),List.getElem?_drop,show k + (i - k)=i by omega]
 ·rfl
theorem encE_get (x : Ext) {j : Nat} (hj : j < 8) : (encE x)[j + 1]? = some (.lit (.int .u8 (x.b.getD j 0).toNat)):=by
 have hb:=x.hb
 unfold encE
 rw [List.getElem?_cons_succ,encB_get,List.getD_eq_getElem?_getD,List.getElem?_eq_getElem (by omega)]
 rfl
theorem wipe_step {x : Ext} {a : Int} {i j : Nat} (hj : (j : Int)=a - x.no * 8 + i) (hj8 : j < 8) : (encE (wipeE x a (a + i))).set (1 + j) (.lit (.int .u8 0))=encE (wipeE x a (a + (i + 1 : Nat))):=by
 refine List.ext_getElem? fun q => ?_
 rw [List.getElem?_set]
 cases q with
 | zero => rw [if_neg (by omega)]; rfl
 | succ q =>
  by_cases hq : q < 8
  ·rw [encE_get _ hq,encE_get _ hq,wipeE_get hq,wipeE_get hq,zcbZ]
   by_cases c : 1 + j=q + 1
   ·rw [if_pos c,if_pos (by omega),if_pos (by omega)]; rfl
   ·rw [if_neg c]
    by_cases c2 : a≤x.no * 8 + (q : Int)∧x.no * 8 + (q : Int) < a + i
    ·rw [if_pos c2,if_pos (by omega)]
    ·rw [if_neg c2,if_neg (by omega)]
  ·rw [List.getElem?_eq_none (by rw [zcbZ]; omega),List.getElem?_eq_none (by rw [zcbZ]; omega),zcbZ]
   rw [if_neg (by omega)]
theorem wipe_c {H : AH} {o q : Nat} {cells : List AV} {x : Ext} {s : Sp} (hc : H[o]? = some (some (.cells cells))) (hx : (cells.drop q).take 9=encE x) (hq : q + 9≤cells.length) (hs : MaySpan s) (h0 : 0≤x.no) (h1 : x.no < 137438953472) :
  ∃ H',(H'[o]? = some (some (.cells (over cells q (encE (wipeE x s.pos (s.pos + s.len))))))∧H.length≤H'.length∧∀ i,i < H.length→i ≠ o→H'[i]? = H[i]?)∧BCall Tryz.prog 71 [.ptr o q,.agg (encSp s)] H (.tup []) H':=by
 have key : ∃ r H',(r = .tup []∧(H'[o]? = some (some (.cells (over cells q (encE (wipeE x s.pos (s.pos + s.len))))))∧H.length≤H'.length∧∀ i,i < H.length→i ≠ o→H'[i]? = H[i]?))∧BCall Tryz.prog 71 [.ptr o q,.agg (encSp s)] H r H':=extent_wipe_ok (by
  unfold extent_wipe
  have ho:=(List.getElem?_eq_some_iff.1 hc).1
  have hno : cells[q]? = some (I x.no):=by
   have:=congrArg (fun l => l[0]?) hx
   simp only [List.getElem?_take,List.getElem?_drop,Nat.add_zero] at this
   simpa [encE] using this
  have g1:=Grew.app H [some (.cells (encSp s))]
  have c1:=g1.cells hc
  have c1' : H[o]? = some (some (.cells cells)):=hc
  obtain ⟨p,n⟩:=s
  simp only [encSp] at c1 g1 ⊢
  simp [List.getElem?_append_left ho,hc,hno,rdCells]
  refine bP_of (zogZ x.no h0 h1) ?_
  refine bP_of (off_Meet_p ⟨x.no * 8,8⟩ ⟨p,n⟩) ?_
  have hwm : MaySpan ⟨x.no * 8,8⟩:=by simp only [MaySpan,May]; omega
  have hm : meet ⟨x.no * 8,8⟩ ⟨p,n⟩=if max (x.no * 8) p < min (x.no * 8 + 8) (p + n) then ⟨max (x.no * 8) p,min (x.no * 8 + 8) (p + n) - max (x.no * 8) p⟩ else ⟨0,0⟩:=by
   unfold meet
   simp only
   by_cases c : max (x.no * 8) p < min (x.no * 8 + 8) (p + n)
   ·rw [if_pos ⟨hwm,hs,c⟩,if_pos c]
   ·rw [if_neg (fun h => c h.2.2),if_neg c]
  -- what is wiped
  have hres : ∀ m : Nat,(m : Int)=(meet ⟨x.no * 8,8⟩ ⟨p,n⟩).len→wipeE x (meet ⟨x.no * 8,8⟩ ⟨p,n⟩).pos ((meet ⟨x.no * 8,8⟩ ⟨p,n⟩).pos + m)=wipeE x p (p + n):=by
   intro m he
   refine ext_eq rfl fun k hk => ?_
   rw [wipeE_get hk,wipeE_get hk]
   rw [hm] at he ⊢
   by_cases c : max (x.no * 8) p < min (x.no * 8 + 8) (p + n)
   ·rw [if_pos c] at he ⊢
    simp only at he ⊢
    by_cases c2 : p≤x.no * 8 + (k : Int)∧x.no * 8 + (k : Int) < p + n
    ·rw [if_pos c2,if_pos (by omega)]
    ·rw [if_neg c2,if_neg (by omega)]
   ·rw [if_neg c] at he ⊢
    simp only at he ⊢
    rw [if_neg (by omega),if_neg (by omega)]
  have hml : ∃ m : Nat,(m : Int)=(meet ⟨x.no * 8,8⟩ ⟨p,n⟩).len∧(0 < m→x.no * 8≤(meet ⟨x.no * 8,8⟩ ⟨p,n⟩).pos∧(meet ⟨x.no * 8,8⟩ ⟨p,n⟩).pos + m≤x.no * 8 + 8):=by
   rw [hm]
   split
   ·exact ⟨(min (x.no * 8 + 8) (p + n) - max (x.no * 8) p).toNat,by simp only; omega,fun _ => by simp only; omega⟩
   ·exact ⟨0,rfl,fun h => by omega⟩
  obtain ⟨m,hmm,hmb⟩:=hml
  have hres:=hres m hmm
  generalize meet ⟨x.no * 8,8⟩ ⟨p,n⟩=M at hmm hmb hres
  obtain ⟨a,ml⟩:=M
  simp only at hmm hmb hres
  subst hmm
  have hxl:=zcbZ x
  simp [encSp,List.getElem?_append_left ho,hc,hno,ast]
  have hz0 : wipeE x a (a + (0 : Nat))=x:=ext_eq rfl fun k hk => by rw [wipeE_get hk,if_neg (by omega)]
  refine extent_wipe_L3_rule (fun t x0 x4 x14 x15 H' => ∃ i : Nat,i + t=m∧x0 = .ptr o q∧x4 = .ptr (H.length + 1) 0∧x14=I m∧x15=I i∧H'[o]? = some (some (.cells (over cells q (encE (wipeE x a (a + i))))))∧H'[H.length + 1]? = some (some (.cells [I a,I m]))∧H.length≤H'.length∧∀ i,i < H.length→i ≠ o→H'[i]? = H[i]?) ?_ m
   ⟨0,by omega,rfl,rfl,rfl,rfl, ?_, ?_,by simp,fun i hi _ => List.getElem?_append_left hi⟩
  ·rintro t x0 x4 x14 x15 H' R hR ⟨i,hi,rfl,rfl,rfl,rfl,d0,d1,d2,d3⟩
   unfold zkyZ
   by_cases hlt : i < m
   ·obtain ⟨b1,b2⟩:=hmb (by omega)
    obtain ⟨j,hj⟩ : ∃ j : Nat,(j : Int)=a - x.no * 8 + i:=⟨(a - x.no * 8 + i).toNat,by omega⟩
    have ho':=(List.getElem?_eq_some_iff.1 d0).1
    have hwl:=zcbZ (wipeE x a (a + i))
    have hno' : (over cells q (encE (wipeE x a (a + i))))[q]? = some (I x.no):=by
     rw [over_get (by omega),if_pos (by omega),Nat.sub_self]; rfl
    simp [hlt,d1,d0,hno',abI_mul (a:=x.no) (b:=8) (by omega) (by omega),abI_sub (a:=a) (b:=x.no * 8) (by omega) (by omega),abI_add (a:=a - x.no * 8) (b:=i) (by omega) (by omega),← hj]
    have e1 : aixA 8 1 (.ptr o (q + 1)) (I j)=some (.ptr o (q + 1 + j)):=by
     simp [aixA,aint]; omega
    rw [e1]
    simp only [bO_some]
    rw [ast_ptr (n:=1) (off:=q + 1 + j) (xs:=[.lit (.int .u8 0)]) rfl d0 rfl (by rw [over_len (by omega)]; omega)]
    simp [abI_add (a:=i) (b:=1) (by omega) (by omega)]
    refine hR (t - 1) _ _ _ _ _ (by omega) ⟨i + 1,by omega,rfl,rfl,rfl,rfl, ?_, ?_,by simpa using d2,fun y h1 h2 => ?_⟩
    ·rw [List.getElem?_set_self ho',← wipe_step hj (by omega)]
     congr 3
     refine List.ext_getElem? fun y => ?_
     rw [List.getElem?_set,over_len (by omega),over_get (by omega),over_get (by simp; omega),List.getElem?_set,List.length_set]
     by_cases c : q + 1 + j=y
     ·subst c
      rw [if_pos rfl,if_pos (by omega),if_pos (by omega),if_pos (by omega),if_pos (by omega)]
     ·rw [if_neg c]
      split
      ·rw [if_neg (by omega)]
      ·rfl
    ·rw [List.getElem?_set_ne (by omega)]; exact d1
    ·rw [List.getElem?_set_ne (by omega)]; exact d3 y h1 h2
   ·have : i=m:=by omega
    subst this
    simp [hlt]
    rw [hres] at d0
    exact ⟨d0,d2,d3⟩
  ·rw [List.getElem?_append_left ho,hz0,over_same (by rw [hxl]; exact hx) (by omega)]
   exact hc
  ·rw [List.getElem?_append_right (by omega)]; simp)
 obtain ⟨r,H',⟨rfl,h1⟩,h2⟩:=key
 exact ⟨H',h1,h2⟩
end Go.Proofs.YtlbilcpnjgkpjaaGreat.Av
end
section
namespace Go.Proofs.YtlbilcpnjgkpjaaGreat.Av
open Go Go.RowKit
theorem sl_wipe {H : AH} {w : AV} {l : List Ext} {i : Nat} {a : Int} {x : Ext} {s : Sp} (hw : zaZ H 9 w=some (l.flatMap encE,l.length)) (ho : ownedS w=true) (hx : l[i]? = some x) (ha : a=i) (hs : MaySpan s) (h0 : 0≤x.no) (h1 : x.no < 137438953472) :
  ∃ p H',aixS 9 w (I a)=some p∧BCall Tryz.prog 71 [p,.agg (encSp s)] H (.tup []) H'∧H.length≤H'.length∧(∀ j,j < H.length→j ∉ idS w→H'[j]? = H[j]?)∧zaZ H' 9 w=some ((l.set i (wipeE x s.pos (s.pos + s.len))).flatMap encE,l.length):=by
 subst ha
 have hi:=(List.getElem?_eq_some_iff.1 hx).1
 obtain ⟨o,off,cap,cells,rfl,h2,h3,h4⟩:=owned_sl hw ho (by omega)
 have hol:=(List.getElem?_eq_some_iff.1 h2).1
 have hmul : i * 9 + 9≤l.length * 9:=by rw [← Nat.succ_mul]; exact Nat.mul_le_mul_right _ hi
 have hxl:=zcbZ x
 have hwl:=zcbZ (wipeE x s.pos (s.pos + s.len))
 have hpart : (cells.drop (off + i * 9)).take 9=encE x:=by
  have e : ((l.flatMap encE).drop (i * 9)).take 9=encE x:=by
   rw [zelZ zcbZ hx,List.take_append_of_le_length (by omega),List.take_of_length_le (by omega)]
  rw [h4,List.drop_take,List.drop_drop,List.take_take,Nat.min_eq_left (by omega)] at e
  exact e
 obtain ⟨H',⟨k1,k2,k3⟩,k4⟩:=wipe_c (q:=off + i * 9) h2 hpart (by omega) hs h0 h1
 refine ⟨.ptr o (off + i * 9),H', ?_,k4,k2,fun j h5 h6 => k3 j h5 (by simp [idS] at h6; omega), ?_⟩
 ·simp only [aixS,aint]
  rw [if_pos ⟨by omega,by omega⟩]; simp
 ·rw [zbdZ k1 (by rw [over_len (by omega)]; exact h3)]
  rw [show off + i * 9=off + (i * 9 + 0) by omega,over_part h3 (by omega),← h4,over_flat (q:=0) zcbZ hx (by unfold over; rw [List.take_zero,List.nil_append,List.drop_of_length_le (by omega),List.append_nil]) (by omega)]
theorem map_set {f : Ext→Ext} {l : List Ext} {i : Nat} {x : Ext} (hx : l[i]? = some x) : ((l.take i).map f ++ l.drop i).set i (f x)=(l.take (i + 1)).map f ++ l.drop (i + 1):=by
 have hi:=(List.getElem?_eq_some_iff.1 hx).1
 rw [drop_cons hx,List.set_append_right _ _ (by rw [List.length_map,List.length_take]; omega),List.take_add_one,hx]
 simp [show i - min i l.length=0 by omega]
theorem map_get {f : Ext→Ext} {l : List Ext} {i : Nat} {x : Ext} (hx : l[i]? = some x) : ((l.take i).map f ++ l.drop i)[i]? = some x:=by
 have hi:=(List.getElem?_eq_some_iff.1 hx).1
 rw [List.getElem?_append_right (by rw [List.length_map,List.length_take]; omega),List.getElem?_drop]
 simp only [List.length_map,List.length_take]
 rw [show i + (i - min i l.length)=i by omega]; exact hx
theorem map_len {f : Ext→Ext} {l : List Ext} {i : Nat} : ((l.take i).map f ++ l.drop i).length=l.length:=by
 simp; omega
theorem trunc_del (size : Int) (l : List Ext) (h : ∀ x ∈ l,-1≤x.no∧x.no < 137438953472) : DelP 70 1 [I size] l (fun x => decide (size≤x.no * 8)):=by
 refine ⟨by kernel_rfl,rfl,fun x hx H a ha => ?_⟩
 obtain ⟨h1,h2⟩:=h x hx
 have key : ∃ r H',(r=B (decide (size≤x.no * 8))∧Grew H H')∧BCall Tryz.prog 70 [.agg (encE x),a] H r H':=extent_Truncate_1_ok (by
  unfold zjzZ
  have g:=Grew.app H [some (.cells (encE x))]
  rcases ha with rfl | ⟨rfl,hc⟩
  ·simp [abI_mul (a:=x.no) (b:=8) (by omega) (by omega)]
   exact g
  ·have h1':=(List.getElem?_eq_some_iff.1 hc).1
   have hc':=g.cells hc
   simp [abI_mul (a:=x.no) (b:=8) (by omega) (by omega),hc']
   exact g)
 obtain ⟨r,H',⟨rfl,g⟩,hc⟩:=key
 exact ⟨H',g,hc⟩
theorem punch_del (oc : Nat) (s : Sp) (l : List Ext) (h : ∀ x ∈ l,0≤x.no∧x.no < 137438953472) : DelP 111 oc (encSp s) l (fun x => decide (Within ⟨x.no * 8,8⟩ s)):=by
 refine ⟨by kernel_rfl,rfl,fun x hx H a ha => ?_⟩
 obtain ⟨h1,h2⟩:=h x hx
 have key : ∃ r H',(r=B (decide (Within ⟨x.no * 8,8⟩ s))∧Grew H H')∧BCall Tryz.prog 111 [.agg (encE x),a] H r H':=extent_Punch_1_ok (by
  unfold zoeZ
  have g:=Grew.app H [some (.cells (encE x))]
  simp
  refine bP_of (zogZ x.no h1 h2) ?_
  have ha' : ald true 2 (H ++ [some (.cells (encE x))]) a=some (.agg (encSp s)):=by
   rcases ha with rfl | ⟨rfl,hc⟩
   ·rfl
   ·rw [ald_ptr (g.cells hc)]; rfl
  rw [ha']
  simp
  refine bP_of (off_Within_p ⟨x.no * 8,8⟩ s) ?_
  exact ⟨rfl,g⟩)
 obtain ⟨r,H',⟨rfl,g⟩,hc⟩:=key
 exact ⟨H',g,hc⟩
theorem zpcZ {size0 : Int} {l : List Ext} {v : AV} (hv : SV encE 9 l v) (hl : l.length≤1000000) (size : Int) :
  ∃ R,SV encE 9 (cL (truncC (size0,l) size)) R∧BPure Tryz.prog 46 [.agg [I size0,v],I size] (.tup [.agg [I (cS (truncC (size0,l) size)),R],B (truncC (size0,l) size).isSome]):=by
 refine BPure.cont (by simp [noIdss,noIds,hv.1]) (extent_Truncate_ok ?_)
 unfold znaZ
 simp [oneA_sv hv,rdCells,anew_lit]
 refine bP_pure (zjnZ hv (by omega)) ?_
 by_cases h1 : mayC size0 l
 ·by_cases h2 : size < 0
  ·have hn : truncC (size0,l) size=none:=if_neg (fun h => by omega)
   simp [h1,h2,ast]
   exact ContK.none hn
  ·by_cases h3 : 1099511627776 < size
   ·have hn : truncC (size0,l) size=none:=if_neg (fun h => by omega)
    simp [h1,h2,h3,ast]
    exact ContK.none hn
   ·have hw : truncC (size0,l) size=some (size,truncL l size):=if_pos ⟨h1,by omega,by omega⟩
    simp [h1,h2,h3]
    obtain ⟨r,H2,⟨w,rfl,a2,a3,a4,a5⟩,a1⟩:=copied_c (size:=size0) (hv.2 [some (.cells [I size0,v]),some (.cells [I size]),some (.cells [I 0,nilSl])]) (oneA_sv hv) (by omega)
    refine bC_of a1 ?_
    have c0:=a4.cells (o:=0) (x:=some (.cells [I size0,v])) rfl
    have c1:=a4.cells (o:=1) (x:=some (.cells [I size])) rfl
    have c2:=a4.cells (o:=2) (x:=some (.cells [I 0,nilSl])) rfl
    have hl2:=a4.1
    simp only [List.length_cons,List.length_nil] at hl2
    have hwo:=zpZ a2
    have id0 : ∀ j,j < 3→j ∉ idS w:=fun j hj h => by have:=a5 j h; simp at this; omega
    have hs0:=okL_srt h1.2.2
    have hno:=fun x hx => (okL_all h1.2.2 x hx)
    rw [ast_ptr (n:=2) (off:=0) (x:=.agg [I size0,w]) (xs:=[I size0,w]) (by simp [hwo]) c0 rfl (by simp)]
    simp [c1]
    rw [ast_ptr (n:=1) (off:=0) (xs:=[I size]) (cs:=[I size0,w]) rfl (List.getElem?_set_self (by omega)) rfl (by simp)]
    simp [show 0 < H2.length by omega]
    have keep0 : ∀ j x,j ≠ 0→(H2.set 0 x)[j]? = H2[j]?:=fun j x hj => List.getElem?_set_ne (by omega)
    have hw1 : zaZ (H2.set 0 (some (.cells [I size,w]))) 9 w=some (l.flatMap encE,l.length):=zbZ a3 fun i hi => keep0 i _ (fun h => id0 0 (by omega) (h ▸ hi))
    obtain ⟨r2,H3,⟨b1,b2,b3,b4,b5⟩,b6⟩:=zqaZ (k:=70) hw1 a2 (by omega) (oc:=1) (c:=[I size]) (by rw [keep0 1 _ (by omega)]; exact c1) (id0 1 (by omega)) (trunc_del size l fun x hx => by have:=hno x hx; omega)
    have hfe : (l.filter fun x => !decide (size≤x.no * 8))=l.filter fun x => decide (x.no * 8 < size):=List.filter_congr fun x _ => by
     by_cases c : size≤x.no * 8
     ·simp [c,show ¬ x.no * 8 < size by omega]
     ·simp [c,show x.no * 8 < size by omega]
    rw [hfe] at b2
    refine bC_of b6 ?_
    simp at b3
    have id3 : ∀ j,j < 3→j ∉ idS r2:=fun j hj h => id0 j hj (b5 j h)
    have d0 : H3[0]? = some (some (.cells [I size,w])):=by rw [b4 0 (by simp; omega) (id0 0 (by omega))]; exact List.getElem?_set_self (by omega)
    have d1 : H3[1]? = some (some (.cells [I size])):=by rw [b4 1 (by simp; omega) (id0 1 (by omega)),keep0 1 _ (by omega)]; exact c1
    have d2 : H3[2]? = some (some (.cells [I 0,nilSl])):=by rw [b4 2 (by simp; omega) (id0 2 (by omega)),keep0 2 _ (by omega)]; exact c2
    have hr2:=zpZ b1
    rw [ast_ptr (n:=1) (off:=1) (xs:=[r2]) (cs:=[I size,w]) (zbuZ hr2) d0 rfl (by simp)]
    have hfl : (l.filter fun x => decide (x.no * 8 < size)).length≤l.length:=List.length_filter_le _ _
    have hfm : ∀ x ∈ (l.filter fun x => decide (x.no * 8 < size)),0≤x.no∧x.no < 137438953472:=fun x hx => by
     have:=hno x (List.mem_filter.1 hx).1; omega
    have hte : truncL l size=(l.filter fun x => decide (x.no * 8 < size)).map fun x => wipeE x size 1099511627776:=rfl
    generalize (l.filter fun x => decide (x.no * 8 < size))=F at b2 hfl hfm hte
    simp [show 0 < H3.length by omega,zbxZ b2]
    have hsp : MaySpan ⟨size,1099511627776 - size⟩:=by simp only [MaySpan,May]; omega
    refine zorZ (fun t x2 x3 x4 x30 x31 H => ∃ i : Nat,i + t=F.length∧x2 = .ptr 0 0∧x3 = .ptr 1 0∧x4 = .ptr 2 0∧x30=I F.length∧x31=I i∧H[0]? = some (some (.cells [I size,r2]))∧H[1]? = some (some (.cells [I size]))∧H[2]? = some (some (.cells [I 0,nilSl])) ∧
     zaZ H 9 r2=some (((F.take i).map (fun x => wipeE x size 1099511627776) ++ F.drop i).flatMap encE,((F.take i).map (fun x => wipeE x size 1099511627776) ++ F.drop i).length)) ?_ F.length
     ⟨0,by omega,rfl,rfl,rfl,rfl,rfl,List.getElem?_set_self (by omega),(List.getElem?_set_ne (by omega)).trans d1,(List.getElem?_set_ne (by omega)).trans d2, ?_⟩
    ·rintro t x2 x3 x4 x30 x31 H R hR ⟨i,hi,rfl,rfl,rfl,rfl,rfl,e0,e1,e2,e3⟩
     unfold zgrZ
     have hH0:=(List.getElem?_eq_some_iff.1 e0).1
     have hH1:=(List.getElem?_eq_some_iff.1 e1).1
     have hH2:=(List.getElem?_eq_some_iff.1 e2).1
     rcases Nat.lt_or_ge i F.length with hlt | hge
     ·have hx:=List.getElem?_eq_getElem hlt
      generalize F[i]=x at hx
      obtain ⟨x0,x1⟩:=hfm x (List.mem_of_getElem? hx)
      obtain ⟨p,H',f1,f2,f3,f4,f5⟩:=sl_wipe (s:=⟨size,1099511627776 - size⟩) e3 b1 (map_get hx) (a:=i) rfl hsp x0 x1
      simp only [show size + (1099511627776 - size)=1099511627776 by omega] at f5
      rw [map_set (f:=fun x => wipeE x size 1099511627776) hx] at f5
      simp [hlt,e0,e1,f1,abI_sub (a:=1099511627776) (b:=size) (by omega) (by omega)]
      refine bC_of f2 ?_
      simp [abI_add (a:=i) (b:=1) (by omega) (by omega)]
      refine hR (t - 1) _ _ _ _ _ _ (by omega) ⟨i + 1,by omega,rfl,rfl,rfl,rfl,rfl,by rw [f4 0 hH0 (id3 0 (by omega))]; exact e0,by rw [f4 1 hH1 (id3 1 (by omega))]; exact e1,by rw [f4 2 hH2 (id3 2 (by omega))]; exact e2,by rw [f5,map_len,map_len]⟩
     ·have : i=F.length:=by omega
      subst this
      simp [e0,rdCells]
      rw [ast_ptr (n:=2) (off:=0) (xs:=[I size,r2]) (cs:=[I 0,nilSl]) (by simp [hr2]) e2 rfl (by simp)]
      simp [hH2]
      rw [List.take_length,List.drop_length,List.append_nil,← hte] at e3
      exact ContK.some hw (zbZ e3 fun i hi => by
       have h2 : 3≤i:=Nat.le_of_not_lt fun h => id3 i h hi
       rw [List.getElem?_set_ne (by omega)])
    ·simp only [List.take_zero,List.map_nil,List.nil_append,List.drop_zero]
     exact zbZ b2 fun i hi => by
      have h2 : 3≤i:=Nat.le_of_not_lt fun h => id3 i h hi
      rw [List.getElem?_set_ne (by omega)]
 ·have hn : truncC (size0,l) size=none:=if_neg (fun h => h1 h.1)
  simp [h1,ast]
  exact ContK.none hn
theorem within_gone {no pos n : Int} (h : maySp pos n) (h0 : 0≤no) (h1 : no < 137438953472) : (!decide (Within ⟨no * 8,8⟩ ⟨pos,n⟩)) = !gone pos n no:=by
 have e : Within ⟨no * 8,8⟩ ⟨pos,n⟩ ↔ (pos≤no * 8∧no * 8 + 8≤pos + n):=by
  rw [within_iff]
  unfold Within' MaySpan May
  unfold maySp at h
  simp only
  omega
 unfold gone
 by_cases c1 : pos≤no * 8 <;> by_cases c2 : no * 8 + 8≤pos + n <;> simp [e,c1,c2]
theorem extent_Punch_p {size : Int} {l : List Ext} {v : AV} (hv : SV encE 9 l v) (hl : l.length≤1000000) (pos n : Int) :
  ∃ R,SV encE 9 (cL (punchC (size,l) pos n)) R∧BPure Tryz.prog 87 [.agg [I size,v],I pos,I n] (.tup [.agg [I (cS (punchC (size,l) pos n)),R],B (punchC (size,l) pos n).isSome]):=by
 refine BPure.cont (by simp [noIdss,noIds,hv.1]) (extent_Punch_ok ?_)
 unfold extent_Punch
 simp [oneA_sv hv,rdCells]
 refine bP_pure (zjnZ hv (by omega)) ?_
 by_cases h1 : mayC size l
 ·simp [h1]
  refine bP_pure (extent_span_p pos n) ?_
  by_cases h2 : maySp pos n
  ·have hw : punchC (size,l) pos n=some (size,punchL l pos n):=if_pos ⟨h1,h2⟩
   have h2':=h2
   obtain ⟨g1,g2,g3,g4⟩:=h2'
   simp [h2]
   obtain ⟨r,H2,⟨w,rfl,a2,a3,a4,a5⟩,a1⟩:=copied_c (size:=size) (hv.2 [some (.cells [I size,v]),some (.cells [I 0,nilSl])]) (oneA_sv hv) (by omega)
   refine bC_of a1 ?_
   have c0:=a4.cells (o:=0) (x:=some (.cells [I size,v])) rfl
   have c2:=a4.cells (o:=1) (x:=some (.cells [I 0,nilSl])) rfl
   have hl2:=a4.1
   simp only [List.length_cons,List.length_nil] at hl2
   have hwo:=zpZ a2
   have id0 : ∀ j,j < 2→j ∉ idS w:=fun j hj h => by have:=a5 j h; simp at this; omega
   have hs0:=okL_srt h1.2.2
   have hno:=fun x hx => (okL_all h1.2.2 x hx)
   rw [ast_ptr (n:=2) (off:=0) (x:=.agg [I size,w]) (xs:=[I size,w]) (by simp [hwo]) c0 rfl (by simp)]
   simp
   rw [ast_ptr (n:=2) (off:=0) (x:=.agg [I pos,I n]) (xs:=[I pos,I n]) (cs:=[I 0,I 0]) (by simp) (by rw [List.getElem?_append_right (by simp)]; simp) rfl (by simp)]
   have hset : ((H2.set 0 (some (AObj.cells [I size,w]))) ++ [some (AObj.cells [I 0,I 0])]).set H2.length (some (AObj.cells (splice [I 0,I 0] 0 [I pos,I n])))=(H2.set 0 (some (AObj.cells [I size,w]))) ++ [some (AObj.cells [I pos,I n])]:=by
    rw [List.set_append_right _ _ (by simp)]; simp
   rw [hset]
   have g:=Grew.app (H2.set 0 (some (AObj.cells [I size,w]))) [some (.cells [I pos,I n])]
   have keep0 : ∀ j x,j ≠ 0→(H2.set 0 x)[j]? = H2[j]?:=fun j x hj => List.getElem?_set_ne (by omega)
   have z0:=g.cells (o:=0) (x:=some (.cells [I size,w])) (List.getElem?_set_self (by omega))
   have z1:=g.cells (o:=1) (x:=some (.cells [I 0,nilSl])) (by rw [keep0 1 _ (by omega)]; exact c2)
   have z2 : (H2.set 0 (some (AObj.cells [I size,w])) ++ [some (AObj.cells [I pos,I n])])[H2.length]? = some (some (.cells [I pos,I n])):=by rw [List.getElem?_append_right (by simp)]; simp
   have zid : H2.length ∉ idS w:=fun h => by have:=zcZ a3 _ h; omega
   have hlen3 : (H2.set 0 (some (AObj.cells [I size,w])) ++ [some (AObj.cells [I pos,I n])]).length=H2.length + 1:=by simp
   have hw1:=g.slice (zbZ (H':=H2.set 0 (some (AObj.cells [I size,w]))) a3 fun i hi => keep0 i _ (fun h => id0 0 (by omega) (h ▸ hi)))
   generalize hH3 : (H2.set 0 (some (AObj.cells [I size,w])) ++ [some (AObj.cells [I pos,I n])])=H3 at g z0 z1 z2 hw1 hlen3
   generalize H2.length=so at z2 zid hlen3 hl2
   simp [z0]
   obtain ⟨r2,H4,⟨b1,b2,b3,b4,b5⟩,b6⟩:=zqaZ (k:=111) hw1 a2 (by omega) (oc:=so) (c:=encSp ⟨pos,n⟩) z2 zid (punch_del so ⟨pos,n⟩ l fun x hx => by have:=hno x hx; omega)
   have hfe : (l.filter fun x => !decide (Within ⟨x.no * 8,8⟩ ⟨pos,n⟩))=l.filter fun x => !gone pos n x.no:=List.filter_congr fun x hx => by
    have:=hno x hx
    exact within_gone h2 (by omega) (by omega)
   rw [hfe] at b2
   refine bC_of b6 ?_
   have id3 : ∀ j,j < 2→j ∉ idS r2:=fun j hj h => id0 j hj (b5 j h)
   have id4 : so ∉ idS r2:=fun h => zid (b5 so h)
   have d0 : H4[0]? = some (some (.cells [I size,w])):=by rw [b4 0 (by omega) (id0 0 (by omega))]; exact z0
   have d1 : H4[1]? = some (some (.cells [I 0,nilSl])):=by rw [b4 1 (by omega) (id0 1 (by omega))]; exact z1
   have d2 : H4[so]? = some (some (.cells [I pos,I n])):=by rw [b4 so (by omega) zid]; exact z2
   have hr2:=zpZ b1
   rw [ast_ptr (n:=1) (off:=1) (xs:=[r2]) (cs:=[I size,w]) (zbuZ hr2) d0 rfl (by simp)]
   have hfl : (l.filter fun x => !gone pos n x.no).length≤l.length:=List.length_filter_le _ _
   have hfm : ∀ x ∈ (l.filter fun x => !gone pos n x.no),0≤x.no∧x.no < 137438953472:=fun x hx => by
    have:=hno x (List.mem_filter.1 hx).1; omega
   have hte : punchL l pos n=(l.filter fun x => !gone pos n x.no).map fun x => wipeE x pos (pos + n):=rfl
   generalize (l.filter fun x => !gone pos n x.no)=F at b2 hfl hfm hte
   simp [show 0 < H4.length by omega,zbxZ b2]
   have hsp : MaySpan ⟨pos,n⟩:=by simp only [MaySpan,May]; omega
   refine extent_Punch_L9_rule (fun t x3 x6 x8 x32 x33 H => ∃ i : Nat,i + t=F.length∧x3 = .ptr 0 0∧x6 = .ptr 1 0∧x8 = .ptr so 0∧x32=I F.length∧x33=I i∧H[0]? = some (some (.cells [I size,r2]))∧H[1]? = some (some (.cells [I 0,nilSl]))∧H[so]? = some (some (.cells [I pos,I n])) ∧
    zaZ H 9 r2=some (((F.take i).map (fun x => wipeE x pos (pos + n)) ++ F.drop i).flatMap encE,((F.take i).map (fun x => wipeE x pos (pos + n)) ++ F.drop i).length)) ?_ F.length
    ⟨0,by omega,rfl,rfl,rfl,rfl,rfl,List.getElem?_set_self (by omega),(List.getElem?_set_ne (by omega)).trans d1,(List.getElem?_set_ne (by omega)).trans d2, ?_⟩
   ·rintro t x3 x6 x8 x32 x33 H R hR ⟨i,hi,rfl,rfl,rfl,rfl,rfl,e0,e1,e2,e3⟩
    unfold zjoZ
    have hH0:=(List.getElem?_eq_some_iff.1 e0).1
    have hH1:=(List.getElem?_eq_some_iff.1 e1).1
    have hH2:=(List.getElem?_eq_some_iff.1 e2).1
    rcases Nat.lt_or_ge i F.length with hlt | hge
    ·have hx:=List.getElem?_eq_getElem hlt
     generalize F[i]=x at hx
     obtain ⟨x0,x1⟩:=hfm x (List.mem_of_getElem? hx)
     obtain ⟨p,H',f1,f2,f3,f4,f5⟩:=sl_wipe (s:=⟨pos,n⟩) e3 b1 (map_get hx) (a:=i) rfl hsp x0 x1
     rw [map_set (f:=fun x => wipeE x pos (pos + n)) hx] at f5
     simp [hlt,e0,e2,f1,rdCells]
     refine bC_of f2 ?_
     simp [abI_add (a:=i) (b:=1) (by omega) (by omega)]
     refine hR (t - 1) _ _ _ _ _ _ (by omega) ⟨i + 1,by omega,rfl,rfl,rfl,rfl,rfl,by rw [f4 0 hH0 (id3 0 (by omega))]; exact e0,by rw [f4 1 hH1 (id3 1 (by omega))]; exact e1,by rw [f4 so hH2 id4]; exact e2,by rw [f5,map_len,map_len]⟩
    ·have : i=F.length:=by omega
     subst this
     simp [e0,rdCells]
     rw [ast_ptr (n:=2) (off:=0) (xs:=[I size,r2]) (cs:=[I 0,nilSl]) (by simp [hr2]) e1 rfl (by simp)]
     simp [hH1]
     rw [List.take_length,List.drop_length,List.append_nil,← hte] at e3
     exact ContK.some hw (zbZ e3 fun i hi => by
      have h2 : 2≤i:=Nat.le_of_not_lt fun h => id3 i h hi
      rw [List.getElem?_set_ne (by omega)])
   ·simp only [List.take_zero,List.map_nil,List.nil_append,List.drop_zero]
    exact zbZ b2 fun i hi => by
     have h2 : 2≤i:=Nat.le_of_not_lt fun h => id3 i h hi
     rw [List.getElem?_set_ne (by omega)]
  ·have hn : punchC (size,l) pos n=none:=if_neg (fun h => h2 h.2)
   simp [h2,ast]
   exact ContK.none hn
 ·have hn : punchC (size,l) pos n=none:=if_neg (fun h => h1 h.1)
  simp [h1,ast]
  exact ContK.none hn
end Go.Proofs.YtlbilcpnjgkpjaaGreat.Av
end
