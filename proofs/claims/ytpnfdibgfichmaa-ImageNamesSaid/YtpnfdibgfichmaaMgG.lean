/- Texts of this proof, one behind the other, packed into one file by a program of this session. No condition. -/
import Derived.Test.YtpnfdibgfichmaaMgF
/-! YtpnfdibgfichmaaAvIh -/
section
/- Chapter 12: images that are changed: a name or a file more, or less. -/
set_option linter.unusedVariables false
set_option linter.unusedSimpArgs false
set_option maxRecDepth 100000
namespace Go.Proofs.Ytpnfdibgfichmaa.Av
open Go Go.RowKit

theorem own_at {α : Type} {enc : α → List AV} {sz : Nat} (hsz : ∀ x, (enc x).length = sz) (h0 : 0 < sz) {H : AH} {v : AV} {l : List α} {k : Nat} {x : α} (hs : zaZ H sz v = some (l.flatMap enc, l.length)) (ho : ownedS v = true) (hx : l[k]? = some x) :
  ∃ o off cells, aixS sz v (I k) = some (.ptr o off) ∧ o ∈ idS v ∧ H[o]? = some (some (.cells cells)) ∧ off + sz ≤ cells.length ∧ (∀ j, j < sz → cells[off + j]? = (enc x)[j]?) ∧
   ∀ y q xs, enc y = over (enc x) q xs → q + xs.length ≤ sz → zaZ (H.set o (some (.cells (splice cells (off + q) xs)))) sz v = some ((l.set k y).flatMap enc, l.length) := by
 have hk := (List.getElem?_eq_some_iff.1 hx).1
 obtain ⟨o, off, cap, cells, rfl, h1, h2, h3⟩ := owned_sl hs ho (by omega)
 have hol := (List.getElem?_eq_some_iff.1 h1).1
 have hmul : (k + 1) * sz ≤ l.length * sz := Nat.mul_le_mul_right _ (by omega)
 have hms : (k + 1) * sz = k * sz + sz := Nat.succ_mul _ _
 refine ⟨o, off + k * sz, cells, ?_, by simp [idS], h1, by omega, fun j hj => ?_, fun y q xs hy hq => ?_⟩
 ·simp [aixS, aint]
  omega
 ·have e : (l.flatMap enc)[k * sz + j]? = cells[off + k * sz + j]? := by
   rw [h3, List.getElem?_take, if_pos (by omega), List.getElem?_drop]; congr 1; omega
  rw [← e]
  have e2 := zqlZ hsz l k
  have e3 : (l.flatMap enc)[k * sz + j]? = ((l.flatMap enc).drop (k * sz))[j]? := by rw [List.getElem?_drop]
  rw [e3, e2, List.drop_eq_getElem_cons hk, (List.getElem?_eq_some_iff.1 hx).2, List.flatMap_cons, List.getElem?_append_left (by rw [hsz]; exact hj)]
 ·have hxs : off + k * sz + q + xs.length ≤ cells.length := by omega
  rw [zqpZ _ _ _ hxs]
  show zaZ (H.set o (some (.cells (over cells (off + k * sz + q) xs)))) sz _ = _
  rw [Nat.add_assoc, zxZ (c := over cells (off + (k * sz + q)) xs) (by simp [hol]) (by rw [over_len (by omega)]; exact h2)]
  rw [over_part h2 (by omega), ← h3, over_flat hsz hx hy hq]
theorem size_nm (w : World) : (Go.sizeOf 57).run Try.prog w = .ok 2 w := zdpZ (by kernel_rfl)
theorem size_nd (w : World) : (Go.sizeOf 67).run Try.prog w = .ok 3 w := zdpZ (by kernel_rfl)
theorem ov_nm {H : AH} {oa offa la ea ka ob offb lb eb kb : Nat} {ca cb : List AV} (ha : H[oa]? = some (some (.cells ca))) (hbo : H[ob]? = some (some (.cells cb))) (hne : oa ≠ ob) (hka : ka ≠ 0) (hkb : kb ≠ 0) (hcb : cb ≠ []) :
  ExtR Try.prog 85 [.sl oa offa la ea (.ex ka), .sl ob offb lb eb (.ex kb)] H (B false) :=
 ExtR.apart (tS := 22) (tR := 4) (fn := Try.f85) (by kernel_rfl) (by kernel_rfl) (by kernel_rfl) (by kernel_rfl) (by kernel_rfl) (by kernel_rfl) size_nm ha hbo hne hka hkb hcb
theorem ov_nd {H : AH} {oa offa la ea ka ob offb lb eb kb : Nat} {ca cb : List AV} (ha : H[oa]? = some (some (.cells ca))) (hbo : H[ob]? = some (some (.cells cb))) (hne : oa ≠ ob) (hka : ka ≠ 0) (hkb : kb ≠ 0) (hcb : cb ≠ []) :
  ExtR Try.prog 87 [.sl oa offa la ea (.ex ka), .sl ob offb lb eb (.ex kb)] H (B false) :=
 ExtR.apart (tS := 23) (tR := 4) (fn := Try.f87) (by kernel_rfl) (by kernel_rfl) (by kernel_rfl) (by kernel_rfl) (by kernel_rfl) (by kernel_rfl) size_nd ha hbo hne hka hkb hcb
def zN : List AV := [S ⟨#[]⟩, I 0]
def zD : List AV := [I 0, I 0, nilSl]
theorem insN_c {H : AH} {s : AV} {l : List Nm} {i oj : Nat} {x : Nm} (hs : zaZ H 2 s = some (l.flatMap encN, l.length)) (ho : ownedS s = true) (hc : capOk s l.length) (hi : i ≤ l.length) (hn : l.length ≤ 1000000) (hv : H[oj]? = some (some (.cells (encN x)))) (hne : oj ∉ idS s) :
  ∃ r H', InsG 2 H s ((l.take i ++ x :: l.drop i).flatMap encN) l.length r H' ∧ BCall Try.prog 69 [s, I i, .sl oj 0 1 2 (.ex 1)] H r H' := by
 have := ins_ok (P := Try.prog) (sz := 2) (bytes := 24) (zc := zN) (f := 69) (ov := 85) (rot := 86) (by omega) rfl
  (fun a0 a1 a2 H K h => zkjZ h) hs ho hc hi hn (by omega) hv (zejZ x) hne (fun m => by simp [encN, Bels, Bel]) (fun h1 h2 h3 h4 => ov_nm hv h1 h2 (by omega) h3 h4)
 rwa [zsvZ zejZ, zqlZ zejZ, List.append_assoc, show encN x ++ (l.drop i).flatMap encN = (x :: l.drop i).flatMap encN from rfl, ← List.flatMap_append] at this
theorem insD_c {H : AH} {s : AV} {l : List NdV} {i oj : Nat} {x : NdV} (hs : zaZ H 3 s = some (l.flatMap encD, l.length)) (ho : ownedS s = true) (hc : capOk s l.length) (hi : i ≤ l.length) (hn : l.length ≤ 1000000) (hv : H[oj]? = some (some (.cells (encD x)))) (hne : oj ∉ idS s) :
  ∃ r H', InsG 3 H s ((l.take i ++ x :: l.drop i).flatMap encD) l.length r H' ∧ BCall Try.prog 70 [s, I i, .sl oj 0 1 3 (.ex 1)] H r H' := by
 have := ins_ok (P := Try.prog) (sz := 3) (bytes := 40) (zc := zD) (f := 70) (ov := 87) (rot := 88) (by omega) rfl
  (fun a0 a1 a2 H K h => zjuZ h) hs ho hc hi hn (by omega) hv (zehZ x) hne (fun m => zmhZ (zpcZ x)) (fun h1 h2 h3 h4 => ov_nd hv h1 h2 (by omega) h3 h4)
 rwa [zsvZ zehZ, zqlZ zehZ, List.append_assoc, show encD x ++ (l.drop i).flatMap encD = (x :: l.drop i).flatMap encD from rfl, ← List.flatMap_append] at this
theorem delN_c {H : AH} {s : AV} {l : List Nm} {i : Nat} (hs : zaZ H 2 s = some (l.flatMap encN, l.length)) (ho : ownedS s = true) (hc : capOk s l.length) (hi : i < l.length) (hn : l.length ≤ 1000000) :
  ∃ r H', DelG 2 H s ((l.take i ++ l.drop (i + 1)).flatMap encN) (l.length - 1) r H' ∧ BCall Try.prog 75 [s, I i, I ((i : Int) + 1)] H r H' := by
 obtain ⟨m, hm⟩ : ∃ m, l.length = m + 1 := ⟨l.length - 1, by omega⟩
 rw [hm] at hs hc
 obtain ⟨r, H', h1, h2⟩ := del_ok (sz := 2) (bytes := 24) (zc := zN) (by omega) rfl hs ho hc (show i ≤ m by omega) (by omega) (by omega)
 have h2' : zdbZ s (I i) (I ((i : Int) + 1)) H fun r' H'' => r' = r ∧ H'' = H' := h2
 obtain ⟨r2, H2, ⟨rfl, rfl⟩, h3⟩ := zjyZ h2'
 rw [zsvZ zejZ, zqlZ zejZ, ← List.flatMap_append] at h1
 exact ⟨_, _, by rw [hm]; exact h1, h3⟩
theorem delD_c {H : AH} {s : AV} {l : List NdV} {i : Nat} (hs : zaZ H 3 s = some (l.flatMap encD, l.length)) (ho : ownedS s = true) (hc : capOk s l.length) (hi : i < l.length) (hn : l.length ≤ 1000000) :
  ∃ r H', DelG 3 H s ((l.take i ++ l.drop (i + 1)).flatMap encD) (l.length - 1) r H' ∧ BCall Try.prog 76 [s, I i, I ((i : Int) + 1)] H r H' := by
 obtain ⟨m, hm⟩ : ∃ m, l.length = m + 1 := ⟨l.length - 1, by omega⟩
 rw [hm] at hs hc
 obtain ⟨r, H', h1, h2⟩ := del_ok (sz := 3) (bytes := 40) (zc := zD) (by omega) rfl hs ho hc (show i ≤ m by omega) (by omega) (by omega)
 have h2' : zdcZ s (I i) (I ((i : Int) + 1)) H fun r' H'' => r' = r ∧ H'' = H' := h2
 obtain ⟨r2, H2, ⟨rfl, rfl⟩, h3⟩ := zjkZ h2'
 rw [zsvZ zehZ, zqlZ zehZ, ← List.flatMap_append] at h1
 exact ⟨_, _, by rw [hm]; exact h1, h3⟩
/-! an image of one's own -/
structure ImH (L oi : Nat) (ns : List Nm) (dv : List NdV) (a b : AV) (H : AH) : Prop where
 obj : H[oi]? = some (some (.cells [a, b]))
 lo : oi ∉ idS a ∧ oi ∉ idS b
 len : L ≤ H.length
 sa : zaZ H 2 a = some (ns.flatMap encN, ns.length)
 oa : ownedS a = true
 ca : capOk a ns.length
 ia : ∀ i ∈ idS a, L ≤ i
 sb : zaZ H 3 b = some (dv.flatMap encD, dv.length)
 ob : ownedS b = true
 cb : capOk b dv.length
 ib : ∀ i ∈ idS b, L ≤ i
 ab : ∀ i ∈ idS a, i ∉ idS b
def FrL (L oi : Nat) (H H' : AH) : Prop := H.length ≤ H'.length ∧ ∀ j, j < L → j ≠ oi → H'[j]? = H[j]?
theorem FrL.refl (L oi : Nat) (H : AH) : FrL L oi H H := ⟨Nat.le_refl _, fun _ _ _ => rfl⟩
theorem FrL.trans {L oi : Nat} {A B C : AH} (h : FrL L oi A B) (k : FrL L oi B C) : FrL L oi A C := ⟨Nat.le_trans h.1 k.1, fun j h1 h2 => (k.2 j h1 h2).trans (h.2 j h1 h2)⟩
theorem ImH.noA {L oi : Nat} {ns : List Nm} {dv : List NdV} {a b : AV} {H : AH} (h : ImH L oi ns dv a b H) : oi ∉ idS a := h.lo.1
theorem ImH.noB {L oi : Nat} {ns : List Nm} {dv : List NdV} {a b : AV} {H : AH} (h : ImH L oi ns dv a b H) : oi ∉ idS b := h.lo.2
theorem ImH.lend {L oi : Nat} {ns : List Nm} {dv : List NdV} {a b : AV} {H : AH} (h : ImH L oi ns dv a b H) : ∃ Ra Rb, SV encN 2 ns Ra ∧ SV encD 3 dv Rb ∧ FZ H (.agg [a, b]) (.agg [Ra, Rb]) := by
 obtain ⟨Ra, h1, f1⟩ := FZ.sv h.sa (zgaZ fun x _ => zugZ x)
 obtain ⟨Rb, h2, f2⟩ := FZ.sv h.sb (zgaZ fun x _ => zpcZ x)
 exact ⟨Ra, Rb, h1, h2, FZ.agg (FZs.cons f1 (FZs.cons f2 FZs.nil))⟩
theorem ImH.grew {L oi : Nat} {ns : List Nm} {dv : List NdV} {a b : AV} {H H' : AH} (h : ImH L oi ns dv a b H) (g : Grew H H') : ImH L oi ns dv a b H' :=
 ⟨g.cells h.obj, h.lo, Nat.le_trans h.len g.1, g.slice h.sa, h.oa, h.ca, h.ia, g.slice h.sb, h.ob, h.cb, h.ib, h.ab⟩
theorem ImH.newA {L oi : Nat} {ns ms : List Nm} {dv : List NdV} {a b r : AV} {H H' : AH} (h : ImH L oi ns dv a b H) (hl : H.length ≤ H'.length) (hk : ∀ i, i < H.length → i ∉ idS a → H'[i]? = H[i]?) (h1 : zaZ H' 2 r = some (ms.flatMap encN, ms.length)) (h2 : ownedS r = true) (h3 : capOk r ms.length) (h4 : ∀ i ∈ idS r, i ∈ idS a ∨ H.length ≤ i) :
  ∃ H2, ast 1 H' (.ptr oi 0) r = some H2 ∧ ImH L oi ms dv r b H2 ∧ FrL L oi H H2 := by
 have c0 : H'[oi]? = some (some (.cells [a, b])) := by rw [hk oi (List.getElem?_eq_some_iff.1 h.obj).1 h.noA]; exact h.obj
 have hr := zrZ h2
 have hol1 := (List.getElem?_eq_some_iff.1 h.obj).1
 have nro : oi ∉ idS r := fun q => (h4 oi q).elim h.noA (fun q => by omega)
 have hle := h.len
 have hol := (List.getElem?_eq_some_iff.1 c0).1
 have nr : ∀ i ∈ idS r, L ≤ i := fun i hi => (h4 i hi).elim (h.ia i) (fun q => by omega)
 refine ⟨H'.set oi (some (.cells [r, b])), ?_, ⟨by simp [hol], ⟨nro, h.noB⟩, by simp; omega, ?_, h2, h3, nr, ?_, h.ob, h.cb, h.ib, fun i hi hb => ?_⟩, ⟨by simp; omega, fun j h5 h6 => ?_⟩⟩
 ·rw [ast_ptr (n := 1) (off := 0) (xs := [r]) (cs := [a, b]) (zbhZ hr) c0 rfl (by simp)]; rfl
 ·exact zbZ h1 fun i hi => List.getElem?_set_ne (fun (e : oi = i) => nro (e ▸ hi))
 ·refine zbZ h.sb fun i hi => ?_
  rw [List.getElem?_set_ne (fun (e : oi = i) => h.noB (e ▸ hi))]
  exact hk i (zmZ h.sb i hi) fun q => h.ab i q hi
 ·rcases h4 i hi with q | q
  ·exact h.ab i q hb
  ·have := zmZ h.sb i hb; omega
 ·rw [List.getElem?_set_ne (by omega)]
  exact hk j (by omega) fun q => by have := h.ia j q; omega
theorem ImH.newB {L oi : Nat} {ns : List Nm} {dv ew : List NdV} {a b r : AV} {H H' : AH} (h : ImH L oi ns dv a b H) (hl : H.length ≤ H'.length) (hk : ∀ i, i < H.length → i ∉ idS b → H'[i]? = H[i]?) (h1 : zaZ H' 3 r = some (ew.flatMap encD, ew.length)) (h2 : ownedS r = true) (h3 : capOk r ew.length) (h4 : ∀ i ∈ idS r, i ∈ idS b ∨ H.length ≤ i) :
  ∃ H2, ast 1 H' (.ptr oi 1) r = some H2 ∧ ImH L oi ns ew a r H2 ∧ FrL L oi H H2 := by
 have c0 : H'[oi]? = some (some (.cells [a, b])) := by rw [hk oi (List.getElem?_eq_some_iff.1 h.obj).1 h.noB]; exact h.obj
 have hr := zrZ h2
 have hol1 := (List.getElem?_eq_some_iff.1 h.obj).1
 have nro : oi ∉ idS r := fun q => (h4 oi q).elim h.noB (fun q => by omega)
 have hle := h.len
 have hol := (List.getElem?_eq_some_iff.1 c0).1
 have nr : ∀ i ∈ idS r, L ≤ i := fun i hi => (h4 i hi).elim (h.ib i) (fun q => by omega)
 refine ⟨H'.set oi (some (.cells [a, r])), ?_, ⟨by simp [hol], ⟨h.noA, nro⟩, by simp; omega, ?_, h.oa, h.ca, h.ia, ?_, h2, h3, nr, fun i ha hi => ?_⟩, ⟨by simp; omega, fun j h5 h6 => ?_⟩⟩
 ·rw [ast_ptr (n := 1) (off := 1) (xs := [r]) (cs := [a, b]) (zbhZ hr) c0 rfl (by simp)]; rfl
 ·refine zbZ h.sa fun i hi => ?_
  rw [List.getElem?_set_ne (fun (e : oi = i) => h.noA (e ▸ hi))]
  exact hk i (zmZ h.sa i hi) fun q => h.ab i hi q
 ·exact zbZ h1 fun i hi => List.getElem?_set_ne (fun (e : oi = i) => nro (e ▸ hi))
 ·rcases h4 i hi with q | q
  ·exact h.ab i ha q
  ·have := zmZ h.sa i ha; omega
 ·rw [List.getElem?_set_ne (by omega)]
  exact hk j (by omega) fun q => by have := h.ib j q; omega
end Go.Proofs.Ytpnfdibgfichmaa.Av
end
/-! YtpnfdibgfichmaaAvDr -/
section
/- A region in whatever order is drawn, told operation by operation. -/
set_option linter.unusedVariables false
set_option linter.unusedSimpArgs false
namespace Go.Proofs.Ytpnfdibgfichmaa.Av
open Go Go.RowKit
section
variable {P : Program}
def OpIs (P : Program) (ops : List Oper) (T : List AV) (i : Nat) (need : List Nat) (F : (Nat → AV) → AH → (AV → AH → Prop) → Prop) : Prop :=
 ∃ o, ops[i]? = some o ∧ o.guard = none ∧ (∀ j ∈ need, ∃ e ∈ o.after, Region.binds .any e = true ∧ e.on = j) ∧ ∀ vals H K, F vals H K → AStep P (pt ops vals (fun _ => true) T i) H o K
def needsB (o : Oper) (need : List Nat) : Bool := need.all fun j => o.after.toList.any fun e => Region.binds .any e && Nat.beq e.on j
theorem needsB_ok {o : Oper} {need : List Nat} (h : needsB o need = true) : ∀ j ∈ need, ∃ e ∈ o.after, Region.binds .any e = true ∧ e.on = j := by
 intro j hj
 have := List.all_eq_true.1 h j hj
 obtain ⟨e, he, hb⟩ := List.any_eq_true.1 this
 simp only [Bool.and_eq_true] at hb
 exact ⟨e, by simpa using he, hb.1, Nat.eq_of_beq_eq_true hb.2⟩
theorem OpIs.op {ql : FuncId → Bool} {ops : List Oper} {T : List AV} {i : Nat} {need : List Nat} {F : (Nat → AV) → AH → (AV → AH → Prop) → Prop} (o : Oper) (ho : ops[i]? = some o) (hg : o.guard = none) (hn : needsB o need = true) (hb : isBS o.op = false) (hc : ∀ ρ, acall ρ o = none)
  (hF : ∀ vals H K, F vals H K → sOp P ql none0 false (aeval (pt ops vals (fun _ => true) T i)) H o true K) : OpIs P ops T i need F := by
 refine ⟨o, ho, hg, needsB_ok hn, fun vals H K h => ?_⟩
 obtain ⟨r, H', h1, h2, -⟩ := sOp_one (hF vals H K h)
 rcases h2 with ⟨-, h2 | ⟨h2, h3⟩⟩ | ⟨h2, -⟩
 ·rw [opD_aop hb] at h2
  exact .inl ⟨r, H', h2, h1⟩
 ·exfalso
  unfold wCall at h3
  rw [hc] at h3; exact h3
 ·cases h2
theorem OpIs.call {ops : List Oper} {T : List AV} {i : Nat} {need : List Nat} {F : (Nat → AV) → AH → (AV → AH → Prop) → Prop} (o : Oper) (ho : ops[i]? = some o) (hg : o.guard = none) (hn : needsB o need = true) (k : FuncId) (args : (Nat → AV) → List AV) (hk : goFunc P k = true)
  (hc : ∀ vals, acall (aeval (pt ops vals (fun _ => true) T i)) o = some (k, args vals)) (hF : ∀ vals H K, F vals H K → ACalls P k (args vals) H K) : OpIs P ops T i need F :=
 ⟨o, ho, hg, needsB_ok hn, fun vals H K h => .inr (.inr ⟨k, args vals, hc vals, hk, hF vals H K h⟩)⟩
def valUp (vals : Nat → AV) (i : Nat) (r : AV) : Nat → AV := fun j => if j = i then r else vals j
theorem ACode.told {id : Nat} {ops : List Oper} {Q : AQ} {T : List AV} {H : AH} (hm : P.follows .mixedOrders = true) (hk : ordOk ops = true) (Inv : AH → (Nat → AV) → (Nat → Bool) → Prop) (v0 : Nat → AV) (h0 : Inv H v0 (fun _ => false))
  (hs : ∀ i, i < ops.length → ∃ need F, OpIs P ops T i need F ∧ ∀ (S : Nat → Bool) Hc vals, S i = false → (∀ j ∈ need, S j = true) → Inv Hc vals S → F vals Hc fun r H' => Inv H' (valUp vals i r) (upd S i))
  (last : ∀ Hc vals S, (∀ j, j < ops.length → S j = true) → Inv Hc vals S → Q .normal (pt ops vals (fun _ => true) T ops.length) Hc) : ACode P (.region id ops.toArray true) Q T H := by
 refine ACode.drawn hm hk (Ω := AH × (Nat → AV)) (fun ω S => Inv ω.1 ω.2 S) (fun ω => ω.2) (fun ω _ => ω.1) (H, v0) h0 rfl ?_ (fun ω S hS hI => last ω.1 ω.2 S hS hI)
 intro ω S i o hr hI
 obtain ⟨ho, hcl, hSi, haft⟩ := hr
 obtain ⟨need, F, ⟨o', ho', hg, hn, hF⟩, hstep⟩ := hs i (List.getElem?_eq_some_iff.1 ho).1
 rw [ho] at ho'
 injection ho' with ho'
 subst ho'
 refine ⟨true, by unfold awanted; rw [hg], fun _ => ?_, fun h => by cases h⟩
 have h1 := hF ω.2 ω.1 _ (hstep S ω.1 ω.2 hSi (fun j hj => by
  obtain ⟨e, he, hb, rfl⟩ := hn j hj
  exact haft e he hb) hI)
 have conv : ∀ r H', Inv H' (valUp ω.2 i r) (upd S i) → ∃ ω' : AH × (Nat → AV), Inv ω'.1 ω'.2 (upd S i) ∧ (∀ j, S j = true → ω'.2 j = ω.2 j) ∧ ω'.2 i = r ∧ ω'.1 = H' := by
  intro r H' h
  refine ⟨(H', valUp ω.2 i r), h, fun j hj => ?_, by simp [valUp], rfl⟩
  have : j ≠ i := by rintro rfl; rw [hSi] at hj; cases hj
  simp [valUp, this]
 rcases h1 with ⟨r, H', h2, h3⟩ | ⟨r, h2, h3⟩ | ⟨k, args, h2, h3, h4⟩
 ·exact .inl ⟨r, H', h2, conv _ _ h3⟩
 ·exact .inr (.inl ⟨r, h2, conv _ _ h3⟩)
 ·exact .inr (.inr ⟨k, args, h2, h3, h4.mono conv⟩)
end
end Go.Proofs.Ytpnfdibgfichmaa.Av
end
/-! YtpnfdibgfichmaaAvDo -/
section
/- A drawn region whose operations' answers are told ahead. -/
set_option linter.unusedVariables false
set_option linter.unusedSimpArgs false
namespace Go.Proofs.Ytpnfdibgfichmaa.Av
open Go Go.RowKit
section
variable {P : Program}
theorem OpIs.opB {ql : FuncId → Bool} {ops : List Oper} {T : List AV} {i : Nat} {need : List Nat} {F : (Nat → AV) → AH → (AV → AH → Prop) → Prop} (o : Oper) (ho : ops[i]? = some o) (hg : o.guard = none) (hn : needsB o need = true) (hc : ∀ ρ, acall ρ o = none)
  (hF : ∀ vals H K, F vals H K → sOp P ql none0 false (aeval (pt ops vals (fun _ => true) T i)) H o true K) : OpIs P ops T i need F := by
 refine ⟨o, ho, hg, needsB_ok hn, fun vals H K h => ?_⟩
 obtain ⟨r, H', h1, h2, -⟩ := sOp_one (hF vals H K h)
 rcases h2 with ⟨-, h2 | ⟨h2, h3⟩⟩ | ⟨h2, -⟩
 ·have e : opD P false (aeval (pt ops vals (fun _ => true) T i)) H o = aop P (aeval (pt ops vals (fun _ => true) T i)) H o := by unfold opD; simp
  rw [e] at h2
  exact .inl ⟨r, H', h2, h1⟩
 ·exfalso
  unfold wCall at h3
  rw [hc] at h3; exact h3
 ·cases h2
theorem ACode.told2 {id : Nat} {ops : List Oper} {Q : AQ} {T : List AV} {H : AH} (hm : P.follows .mixedOrders = true) (hk : ordOk ops = true) (need : Nat → List Nat) (F : Nat → (Nat → AV) → AH → (AV → AH → Prop) → Prop) (V : Nat → AV) (hp : (Nat → Bool) → AH)
  (ho : ∀ i, i < ops.length → OpIs P ops T i (need i) (F i)) (h0 : hp (fun _ => false) = H)
  (hs : ∀ i, i < ops.length → ∀ (S : Nat → Bool) vals, S i = false → (∀ a, S a = true → ∀ b ∈ need a, S b = true) → (∀ j ∈ need i, S j = true ∧ vals j = V j) → F i vals (hp S) fun r H' => r = V i ∧ H' = hp (upd S i))
  (last : ∀ (S : Nat → Bool) vals, (∀ j, j < ops.length → S j = true ∧ vals j = V j) → Q .normal (pt ops vals (fun _ => true) T ops.length) (hp S)) : ACode P (.region id ops.toArray true) Q T H := by
 refine ACode.told hm hk (fun Hc vals S => Hc = hp S ∧ (∀ j, S j = true → vals j = V j) ∧ ∀ a, S a = true → ∀ b ∈ need a, S b = true) (fun _ => undefA) ⟨h0.symm, by simp, by simp⟩ ?_ ?_
 ·intro i hi
  obtain ⟨o, h1, h2, h3, h4⟩ := ho i hi
  -- whatever F tells for one K, it tells for a greater one
  refine ⟨need i, fun vals Hc K => ∃ S, Hc = hp S ∧ S i = false ∧ (∀ a, S a = true → ∀ b ∈ need a, S b = true) ∧ (∀ j ∈ need i, S j = true ∧ vals j = V j) ∧ K (V i) (hp (upd S i)), ⟨o, h1, h2, h3, ?_⟩, ?_⟩
  ·rintro vals Hc K ⟨S, rfl, hS, hcl, hn, hK⟩
   have := h4 vals (hp S) _ (hs i hi S vals hS hcl hn)
   rcases this with ⟨r, H', a1, rfl, rfl⟩ | ⟨r, a1, rfl, a2⟩ | ⟨k, args, a1, a2, a3⟩
   ·exact .inl ⟨_, _, a1, hK⟩
   ·exact .inr (.inl ⟨_, a1, by rw [a2]; exact hK⟩)
   ·exact .inr (.inr ⟨k, args, a1, a2, a3.mono (by rintro r H' ⟨rfl, rfl⟩; exact hK)⟩)
  ·rintro S Hc vals hSi hn ⟨rfl, hv, hcl⟩
   refine ⟨S, rfl, hSi, hcl, fun j hj => ⟨hn j hj, hv j (hn j hj)⟩, rfl, fun j hj => ?_, fun a ha b hb => ?_⟩
   ·unfold valUp
    by_cases c : j = i
    ·rw [if_pos c, c]
    ·rw [if_neg c]
     unfold upd at hj
     rw [if_neg c] at hj
     exact hv j hj
   ·unfold upd at ha ⊢
    by_cases c : b = i
    ·rw [if_pos c]
    ·rw [if_neg c]
     by_cases c2 : a = i
     ·subst c2; exact hn b hb
     ·rw [if_neg c2] at ha; exact hcl a ha b hb
 ·rintro Hc vals S hS ⟨rfl, h1, h2⟩
  exact last S vals fun j hj => ⟨hS j hj, h1 j (hS j hj)⟩
end
end Go.Proofs.Ytpnfdibgfichmaa.Av
end
/-! YtpnfdibgfichmaaAvIu -/
section
/- Chapter 12: the two drawn regions that make a file, told operation by operation (printed by opis.py). -/
set_option linter.unusedVariables false
set_option linter.unusedSimpArgs false
set_option maxRecDepth 100000
namespace Go.Proofs.Ytpnfdibgfichmaa.Av
open Go Go.RowKit
noncomputable def crNOps : List Oper := (opsOf (sub [true, true, true, true, false] (bodyOf Try.f38))).toList
def crNT (x0 x3 x4 x6 : AV) : List AV := expand (mk 82 0 [0, 3, 4, 6]) [x0, x3, x4, x6]
theorem crNLen : crNOps.length = 16 := by kernel_rfl
theorem crNOrd : ordOk crNOps = true := by kernel_rfl
theorem crN_e0 (x0 x3 x4 x6 : AV) (vals : Nat → AV) (H : AH) (K : AV → AH → Prop) : sOp Try.prog pqb none0 false (aeval (pt crNOps vals (fun _ => true) (crNT x0 x3 x4 x6) 0)) H (crNOps.getD 0 default) true K = gO true (some x0) fun v => K v H := by kernel_rfl
theorem crN_op0 (x0 x3 x4 x6 : AV) : OpIs Try.prog crNOps (crNT x0 x3 x4 x6) 0 [] fun vals H K => gO true (some x0) fun v => K v H := by
 refine OpIs.opB (ql := pqb) (crNOps.getD 0 default) (by kernel_rfl) (by kernel_rfl) (by kernel_rfl) (fun ρ => by kernel_rfl) ?_
 intro vals H K h
 rw [crN_e0]
 exact h
theorem crN_e1 (x0 x3 x4 x6 : AV) (vals : Nat → AV) (H : AH) (K : AV → AH → Prop) : sOp Try.prog pqb none0 false (aeval (pt crNOps vals (fun _ => true) (crNT x0 x3 x4 x6) 1)) H (crNOps.getD 1 default) true K = gO true (some x0) fun v => K v H := by kernel_rfl
theorem crN_op1 (x0 x3 x4 x6 : AV) : OpIs Try.prog crNOps (crNT x0 x3 x4 x6) 1 [] fun vals H K => gO true (some x0) fun v => K v H := by
 refine OpIs.opB (ql := pqb) (crNOps.getD 1 default) (by kernel_rfl) (by kernel_rfl) (by kernel_rfl) (fun ρ => by kernel_rfl) ?_
 intro vals H K h
 rw [crN_e1]
 exact h
theorem crN_e2 (x0 x3 x4 x6 : AV) (vals : Nat → AV) (H : AH) (K : AV → AH → Prop) : sOp Try.prog pqb none0 false (aeval (pt crNOps vals (fun _ => true) (crNT x0 x3 x4 x6) 2)) H (crNOps.getD 2 default) true K = gO true (zgZ (vals 1)) fun v => K v H := by kernel_rfl
theorem crN_op2 (x0 x3 x4 x6 : AV) : OpIs Try.prog crNOps (crNT x0 x3 x4 x6) 2 [1] fun vals H K => gO true (zgZ (vals 1)) fun v => K v H := by
 refine OpIs.opB (ql := pqb) (crNOps.getD 2 default) (by kernel_rfl) (by kernel_rfl) (by kernel_rfl) (fun ρ => by kernel_rfl) ?_
 intro vals H K h
 rw [crN_e2]
 exact h
theorem crN_e3 (x0 x3 x4 x6 : AV) (vals : Nat → AV) (H : AH) (K : AV → AH → Prop) : sOp Try.prog pqb none0 false (aeval (pt crNOps vals (fun _ => true) (crNT x0 x3 x4 x6) 3)) H (crNOps.getD 3 default) true K = gO true (ashift 0 (vals 2)) fun v => K v H := by kernel_rfl
theorem crN_op3 (x0 x3 x4 x6 : AV) : OpIs Try.prog crNOps (crNT x0 x3 x4 x6) 3 [2] fun vals H K => gO true (ashift 0 (vals 2)) fun v => K v H := by
 refine OpIs.opB (ql := pqb) (crNOps.getD 3 default) (by kernel_rfl) (by kernel_rfl) (by kernel_rfl) (fun ρ => by kernel_rfl) ?_
 intro vals H K h
 rw [crN_e3]
 exact h
theorem crN_e4 (x0 x3 x4 x6 : AV) (vals : Nat → AV) (H : AH) (K : AV → AH → Prop) : sOp Try.prog pqb none0 false (aeval (pt crNOps vals (fun _ => true) (crNT x0 x3 x4 x6) 4)) H (crNOps.getD 4 default) true K = gO true (ald false 1 H (vals 3)) fun v => K v H := by kernel_rfl
theorem crN_op4 (x0 x3 x4 x6 : AV) : OpIs Try.prog crNOps (crNT x0 x3 x4 x6) 4 [3] fun vals H K => gO true (ald false 1 H (vals 3)) fun v => K v H := by
 refine OpIs.opB (ql := pqb) (crNOps.getD 4 default) (by kernel_rfl) (by kernel_rfl) (by kernel_rfl) (fun ρ => by kernel_rfl) ?_
 intro vals H K h
 rw [crN_e4]
 exact h
theorem crN_e5 (x0 x3 x4 x6 : AV) (vals : Nat → AV) (H : AH) (K : AV → AH → Prop) : sOp Try.prog pqb none0 false (aeval (pt crNOps vals (fun _ => true) (crNT x0 x3 x4 x6) 5)) H (crNOps.getD 5 default) true K = gO true (some x4) fun v => K v H := by kernel_rfl
theorem crN_op5 (x0 x3 x4 x6 : AV) : OpIs Try.prog crNOps (crNT x0 x3 x4 x6) 5 [] fun vals H K => gO true (some x4) fun v => K v H := by
 refine OpIs.opB (ql := pqb) (crNOps.getD 5 default) (by kernel_rfl) (by kernel_rfl) (by kernel_rfl) (fun ρ => by kernel_rfl) ?_
 intro vals H K h
 rw [crN_e5]
 exact h
theorem crN_e6 (x0 x3 x4 x6 : AV) (vals : Nat → AV) (H : AH) (K : AV → AH → Prop) : sOp Try.prog pqb none0 false (aeval (pt crNOps vals (fun _ => true) (crNT x0 x3 x4 x6) 6)) H (crNOps.getD 6 default) true K = gO true (ashift 5 x3) fun v => K v H := by kernel_rfl
theorem crN_op6 (x0 x3 x4 x6 : AV) : OpIs Try.prog crNOps (crNT x0 x3 x4 x6) 6 [] fun vals H K => gO true (ashift 5 x3) fun v => K v H := by
 refine OpIs.opB (ql := pqb) (crNOps.getD 6 default) (by kernel_rfl) (by kernel_rfl) (by kernel_rfl) (fun ρ => by kernel_rfl) ?_
 intro vals H K h
 rw [crN_e6]
 exact h
theorem crN_e7 (x0 x3 x4 x6 : AV) (vals : Nat → AV) (H : AH) (K : AV → AH → Prop) : sOp Try.prog pqb none0 false (aeval (pt crNOps vals (fun _ => true) (crNT x0 x3 x4 x6) 7)) H (crNOps.getD 7 default) true K = gO true (ald false 1 H (vals 6)) fun v => K v H := by kernel_rfl
theorem crN_op7 (x0 x3 x4 x6 : AV) : OpIs Try.prog crNOps (crNT x0 x3 x4 x6) 7 [6] fun vals H K => gO true (ald false 1 H (vals 6)) fun v => K v H := by
 refine OpIs.opB (ql := pqb) (crNOps.getD 7 default) (by kernel_rfl) (by kernel_rfl) (by kernel_rfl) (fun ρ => by kernel_rfl) ?_
 intro vals H K h
 rw [crN_e7]
 exact h
theorem crN_e8 (x0 x3 x4 x6 : AV) (vals : Nat → AV) (H : AH) (K : AV → AH → Prop) : sOp Try.prog pqb none0 false (aeval (pt crNOps vals (fun _ => true) (crNT x0 x3 x4 x6) 8)) H (crNOps.getD 8 default) true K = gO true (ashift 1 x3) fun v => K v H := by kernel_rfl
theorem crN_op8 (x0 x3 x4 x6 : AV) : OpIs Try.prog crNOps (crNT x0 x3 x4 x6) 8 [] fun vals H K => gO true (ashift 1 x3) fun v => K v H := by
 refine OpIs.opB (ql := pqb) (crNOps.getD 8 default) (by kernel_rfl) (by kernel_rfl) (by kernel_rfl) (fun ρ => by kernel_rfl) ?_
 intro vals H K h
 rw [crN_e8]
 exact h
theorem crN_e9 (x0 x3 x4 x6 : AV) (vals : Nat → AV) (H : AH) (K : AV → AH → Prop) : sOp Try.prog pqb none0 false (aeval (pt crNOps vals (fun _ => true) (crNT x0 x3 x4 x6) 9)) H (crNOps.getD 9 default) true K = gO true (ald false 1 H (vals 8)) fun v => K v H := by kernel_rfl
theorem crN_op9 (x0 x3 x4 x6 : AV) : OpIs Try.prog crNOps (crNT x0 x3 x4 x6) 9 [8] fun vals H K => gO true (ald false 1 H (vals 8)) fun v => K v H := by
 refine OpIs.opB (ql := pqb) (crNOps.getD 9 default) (by kernel_rfl) (by kernel_rfl) (by kernel_rfl) (fun ρ => by kernel_rfl) ?_
 intro vals H K h
 rw [crN_e9]
 exact h
theorem crN_e10 (x0 x3 x4 x6 : AV) (vals : Nat → AV) (H : AH) (K : AV → AH → Prop) : sOp Try.prog pqb none0 false (aeval (pt crNOps vals (fun _ => true) (crNT x0 x3 x4 x6) 10)) H (crNOps.getD 10 default) true K = gO true (abl zN [(0, 1, (vals 7)), (1, 1, (vals 9))]) fun v => K v H := by kernel_rfl
theorem crN_op10 (x0 x3 x4 x6 : AV) : OpIs Try.prog crNOps (crNT x0 x3 x4 x6) 10 [7, 9] fun vals H K => gO true (abl zN [(0, 1, (vals 7)), (1, 1, (vals 9))]) fun v => K v H := by
 refine OpIs.opB (ql := pqb) (crNOps.getD 10 default) (by kernel_rfl) (by kernel_rfl) (by kernel_rfl) (fun ρ => by kernel_rfl) ?_
 intro vals H K h
 rw [crN_e10]
 exact h
theorem crN_e11 (x0 x3 x4 x6 : AV) (vals : Nat → AV) (H : AH) (K : AV → AH → Prop) : sOp Try.prog pqb none0 false (aeval (pt crNOps vals (fun _ => true) (crNT x0 x3 x4 x6) 11)) H (crNOps.getD 11 default) true K = gH true (absl H 2 1 (zrow zN 1) [(0, 2, (vals 10))]) H K := by kernel_rfl
theorem crN_op11 (x0 x3 x4 x6 : AV) : OpIs Try.prog crNOps (crNT x0 x3 x4 x6) 11 [10] fun vals H K => gH true (absl H 2 1 (zrow zN 1) [(0, 2, (vals 10))]) H K := by
 refine OpIs.opB (ql := pqb) (crNOps.getD 11 default) (by kernel_rfl) (by kernel_rfl) (by kernel_rfl) (fun ρ => by kernel_rfl) ?_
 intro vals H K h
 rw [crN_e11]
 exact h
theorem crN_op12 (x0 x3 x4 x6 : AV) : OpIs Try.prog crNOps (crNT x0 x3 x4 x6) 12 [4, 5, 11] fun vals H K => ACalls Try.prog 69 [(vals 4), (vals 5), (vals 11)] H K :=
 OpIs.call (crNOps.getD 12 default) (by kernel_rfl) (by kernel_rfl) (by kernel_rfl) _ (fun vals => [(vals 4), (vals 5), (vals 11)]) (by kernel_rfl) (fun vals => by kernel_rfl) (fun vals H K h => h)
theorem crN_e13 (x0 x3 x4 x6 : AV) (vals : Nat → AV) (H : AH) (K : AV → AH → Prop) : sOp Try.prog pqb none0 false (aeval (pt crNOps vals (fun _ => true) (crNT x0 x3 x4 x6) 13)) H (crNOps.getD 13 default) true K = gO true (zgZ (vals 0)) fun v => K v H := by kernel_rfl
theorem crN_op13 (x0 x3 x4 x6 : AV) : OpIs Try.prog crNOps (crNT x0 x3 x4 x6) 13 [0, 1, 2, 3, 4, 5, 6, 7, 8, 9, 10, 11, 12] fun vals H K => gO true (zgZ (vals 0)) fun v => K v H := by
 refine OpIs.opB (ql := pqb) (crNOps.getD 13 default) (by kernel_rfl) (by kernel_rfl) (by kernel_rfl) (fun ρ => by kernel_rfl) ?_
 intro vals H K h
 rw [crN_e13]
 exact h
theorem crN_e14 (x0 x3 x4 x6 : AV) (vals : Nat → AV) (H : AH) (K : AV → AH → Prop) : sOp Try.prog pqb none0 false (aeval (pt crNOps vals (fun _ => true) (crNT x0 x3 x4 x6) 14)) H (crNOps.getD 14 default) true K = gO true (ashift 0 (vals 13)) fun v => K v H := by kernel_rfl
theorem crN_op14 (x0 x3 x4 x6 : AV) : OpIs Try.prog crNOps (crNT x0 x3 x4 x6) 14 [0, 1, 2, 3, 4, 5, 6, 7, 8, 9, 10, 11, 12, 13] fun vals H K => gO true (ashift 0 (vals 13)) fun v => K v H := by
 refine OpIs.opB (ql := pqb) (crNOps.getD 14 default) (by kernel_rfl) (by kernel_rfl) (by kernel_rfl) (fun ρ => by kernel_rfl) ?_
 intro vals H K h
 rw [crN_e14]
 exact h
theorem crN_e15 (x0 x3 x4 x6 : AV) (vals : Nat → AV) (H : AH) (K : AV → AH → Prop) : sOp Try.prog pqb none0 false (aeval (pt crNOps vals (fun _ => true) (crNT x0 x3 x4 x6) 15)) H (crNOps.getD 15 default) true K = gS true (ast 1 H (vals 14) (vals 12)) H fun H' => K undefA H' := by kernel_rfl
theorem crN_op15 (x0 x3 x4 x6 : AV) : OpIs Try.prog crNOps (crNT x0 x3 x4 x6) 15 [0, 1, 2, 3, 4, 5, 6, 7, 8, 9, 10, 11, 12, 14] fun vals H K => gS true (ast 1 H (vals 14) (vals 12)) H fun H' => K undefA H' := by
 refine OpIs.opB (ql := pqb) (crNOps.getD 15 default) (by kernel_rfl) (by kernel_rfl) (by kernel_rfl) (fun ρ => by kernel_rfl) ?_
 intro vals H K h
 rw [crN_e15]
 exact h
def crNNeed : List (List Nat) := [[], [], [1], [2], [3], [], [], [6], [], [8], [7, 9], [10], [4, 5, 11], [0, 1, 2, 3, 4, 5, 6, 7, 8, 9, 10, 11, 12], [0, 1, 2, 3, 4, 5, 6, 7, 8, 9, 10, 11, 12, 13], [0, 1, 2, 3, 4, 5, 6, 7, 8, 9, 10, 11, 12, 14]]
def crNF (x0 x3 x4 x6 : AV) : List ((Nat → AV) → AH → (AV → AH → Prop) → Prop) := [
 fun vals H K => gO true (some x0) fun v => K v H,
 fun vals H K => gO true (some x0) fun v => K v H,
 fun vals H K => gO true (zgZ (vals 1)) fun v => K v H,
 fun vals H K => gO true (ashift 0 (vals 2)) fun v => K v H,
 fun vals H K => gO true (ald false 1 H (vals 3)) fun v => K v H,
 fun vals H K => gO true (some x4) fun v => K v H,
 fun vals H K => gO true (ashift 5 x3) fun v => K v H,
 fun vals H K => gO true (ald false 1 H (vals 6)) fun v => K v H,
 fun vals H K => gO true (ashift 1 x3) fun v => K v H,
 fun vals H K => gO true (ald false 1 H (vals 8)) fun v => K v H,
 fun vals H K => gO true (abl zN [(0, 1, (vals 7)), (1, 1, (vals 9))]) fun v => K v H,
 fun vals H K => gH true (absl H 2 1 (zrow zN 1) [(0, 2, (vals 10))]) H K,
 fun vals H K => ACalls Try.prog 69 [(vals 4), (vals 5), (vals 11)] H K,
 fun vals H K => gO true (zgZ (vals 0)) fun v => K v H,
 fun vals H K => gO true (ashift 0 (vals 13)) fun v => K v H,
 fun vals H K => gS true (ast 1 H (vals 14) (vals 12)) H fun H' => K undefA H']
theorem crNIs (x0 x3 x4 x6 : AV) : ∀ i, i < crNOps.length → OpIs Try.prog crNOps (crNT x0 x3 x4 x6) i (crNNeed.getD i []) ((crNF x0 x3 x4 x6).getD i (fun _ _ _ => False)) := by
 intro i hi
 rw [crNLen] at hi
 have : i = 0 ∨ i = 1 ∨ i = 2 ∨ i = 3 ∨ i = 4 ∨ i = 5 ∨ i = 6 ∨ i = 7 ∨ i = 8 ∨ i = 9 ∨ i = 10 ∨ i = 11 ∨ i = 12 ∨ i = 13 ∨ i = 14 ∨ i = 15 := by omega
 rcases this with rfl | rfl | rfl | rfl | rfl | rfl | rfl | rfl | rfl | rfl | rfl | rfl | rfl | rfl | rfl | rfl
 ·exact crN_op0 x0 x3 x4 x6
 ·exact crN_op1 x0 x3 x4 x6
 ·exact crN_op2 x0 x3 x4 x6
 ·exact crN_op3 x0 x3 x4 x6
 ·exact crN_op4 x0 x3 x4 x6
 ·exact crN_op5 x0 x3 x4 x6
 ·exact crN_op6 x0 x3 x4 x6
 ·exact crN_op7 x0 x3 x4 x6
 ·exact crN_op8 x0 x3 x4 x6
 ·exact crN_op9 x0 x3 x4 x6
 ·exact crN_op10 x0 x3 x4 x6
 ·exact crN_op11 x0 x3 x4 x6
 ·exact crN_op12 x0 x3 x4 x6
 ·exact crN_op13 x0 x3 x4 x6
 ·exact crN_op14 x0 x3 x4 x6
 ·exact crN_op15 x0 x3 x4 x6
noncomputable def crDOps : List Oper := (opsOf (sub [true, true, true, true, true] (bodyOf Try.f38))).toList
def crDT (x0 x3 x6 : AV) : List AV := expand (mk 82 0 [0, 3, 6]) [x0, x3, x6]
theorem crDLen : crDOps.length = 14 := by kernel_rfl
theorem crDOrd : ordOk crDOps = true := by kernel_rfl
theorem crD_e0 (x0 x3 x6 : AV) (vals : Nat → AV) (H : AH) (K : AV → AH → Prop) : sOp Try.prog pqb none0 false (aeval (pt crDOps vals (fun _ => true) (crDT x0 x3 x6) 0)) H (crDOps.getD 0 default) true K = gO true (some x0) fun v => K v H := by kernel_rfl
theorem crD_op0 (x0 x3 x6 : AV) : OpIs Try.prog crDOps (crDT x0 x3 x6) 0 [] fun vals H K => gO true (some x0) fun v => K v H := by
 refine OpIs.opB (ql := pqb) (crDOps.getD 0 default) (by kernel_rfl) (by kernel_rfl) (by kernel_rfl) (fun ρ => by kernel_rfl) ?_
 intro vals H K h
 rw [crD_e0]
 exact h
theorem crD_e1 (x0 x3 x6 : AV) (vals : Nat → AV) (H : AH) (K : AV → AH → Prop) : sOp Try.prog pqb none0 false (aeval (pt crDOps vals (fun _ => true) (crDT x0 x3 x6) 1)) H (crDOps.getD 1 default) true K = gO true (some x0) fun v => K v H := by kernel_rfl
theorem crD_op1 (x0 x3 x6 : AV) : OpIs Try.prog crDOps (crDT x0 x3 x6) 1 [] fun vals H K => gO true (some x0) fun v => K v H := by
 refine OpIs.opB (ql := pqb) (crDOps.getD 1 default) (by kernel_rfl) (by kernel_rfl) (by kernel_rfl) (fun ρ => by kernel_rfl) ?_
 intro vals H K h
 rw [crD_e1]
 exact h
theorem crD_e2 (x0 x3 x6 : AV) (vals : Nat → AV) (H : AH) (K : AV → AH → Prop) : sOp Try.prog pqb none0 false (aeval (pt crDOps vals (fun _ => true) (crDT x0 x3 x6) 2)) H (crDOps.getD 2 default) true K = gO true (zgZ (vals 1)) fun v => K v H := by kernel_rfl
theorem crD_op2 (x0 x3 x6 : AV) : OpIs Try.prog crDOps (crDT x0 x3 x6) 2 [1] fun vals H K => gO true (zgZ (vals 1)) fun v => K v H := by
 refine OpIs.opB (ql := pqb) (crDOps.getD 2 default) (by kernel_rfl) (by kernel_rfl) (by kernel_rfl) (fun ρ => by kernel_rfl) ?_
 intro vals H K h
 rw [crD_e2]
 exact h
theorem crD_e3 (x0 x3 x6 : AV) (vals : Nat → AV) (H : AH) (K : AV → AH → Prop) : sOp Try.prog pqb none0 false (aeval (pt crDOps vals (fun _ => true) (crDT x0 x3 x6) 3)) H (crDOps.getD 3 default) true K = gO true (ashift 1 (vals 2)) fun v => K v H := by kernel_rfl
theorem crD_op3 (x0 x3 x6 : AV) : OpIs Try.prog crDOps (crDT x0 x3 x6) 3 [2] fun vals H K => gO true (ashift 1 (vals 2)) fun v => K v H := by
 refine OpIs.opB (ql := pqb) (crDOps.getD 3 default) (by kernel_rfl) (by kernel_rfl) (by kernel_rfl) (fun ρ => by kernel_rfl) ?_
 intro vals H K h
 rw [crD_e3]
 exact h
theorem crD_e4 (x0 x3 x6 : AV) (vals : Nat → AV) (H : AH) (K : AV → AH → Prop) : sOp Try.prog pqb none0 false (aeval (pt crDOps vals (fun _ => true) (crDT x0 x3 x6) 4)) H (crDOps.getD 4 default) true K = gO true (ald false 1 H (vals 3)) fun v => K v H := by kernel_rfl
theorem crD_op4 (x0 x3 x6 : AV) : OpIs Try.prog crDOps (crDT x0 x3 x6) 4 [3] fun vals H K => gO true (ald false 1 H (vals 3)) fun v => K v H := by
 refine OpIs.opB (ql := pqb) (crDOps.getD 4 default) (by kernel_rfl) (by kernel_rfl) (by kernel_rfl) (fun ρ => by kernel_rfl) ?_
 intro vals H K h
 rw [crD_e4]
 exact h
theorem crD_e5 (x0 x3 x6 : AV) (vals : Nat → AV) (H : AH) (K : AV → AH → Prop) : sOp Try.prog pqb none0 false (aeval (pt crDOps vals (fun _ => true) (crDT x0 x3 x6) 5)) H (crDOps.getD 5 default) true K = gO true (some x6) fun v => K v H := by kernel_rfl
theorem crD_op5 (x0 x3 x6 : AV) : OpIs Try.prog crDOps (crDT x0 x3 x6) 5 [] fun vals H K => gO true (some x6) fun v => K v H := by
 refine OpIs.opB (ql := pqb) (crDOps.getD 5 default) (by kernel_rfl) (by kernel_rfl) (by kernel_rfl) (fun ρ => by kernel_rfl) ?_
 intro vals H K h
 rw [crD_e5]
 exact h
theorem crD_e6 (x0 x3 x6 : AV) (vals : Nat → AV) (H : AH) (K : AV → AH → Prop) : sOp Try.prog pqb none0 false (aeval (pt crDOps vals (fun _ => true) (crDT x0 x3 x6) 6)) H (crDOps.getD 6 default) true K = gO true (ashift 1 x3) fun v => K v H := by kernel_rfl
theorem crD_op6 (x0 x3 x6 : AV) : OpIs Try.prog crDOps (crDT x0 x3 x6) 6 [] fun vals H K => gO true (ashift 1 x3) fun v => K v H := by
 refine OpIs.opB (ql := pqb) (crDOps.getD 6 default) (by kernel_rfl) (by kernel_rfl) (by kernel_rfl) (fun ρ => by kernel_rfl) ?_
 intro vals H K h
 rw [crD_e6]
 exact h
theorem crD_e7 (x0 x3 x6 : AV) (vals : Nat → AV) (H : AH) (K : AV → AH → Prop) : sOp Try.prog pqb none0 false (aeval (pt crDOps vals (fun _ => true) (crDT x0 x3 x6) 7)) H (crDOps.getD 7 default) true K = gO true (ald false 1 H (vals 6)) fun v => K v H := by kernel_rfl
theorem crD_op7 (x0 x3 x6 : AV) : OpIs Try.prog crDOps (crDT x0 x3 x6) 7 [6] fun vals H K => gO true (ald false 1 H (vals 6)) fun v => K v H := by
 refine OpIs.opB (ql := pqb) (crDOps.getD 7 default) (by kernel_rfl) (by kernel_rfl) (by kernel_rfl) (fun ρ => by kernel_rfl) ?_
 intro vals H K h
 rw [crD_e7]
 exact h
theorem crD_e8 (x0 x3 x6 : AV) (vals : Nat → AV) (H : AH) (K : AV → AH → Prop) : sOp Try.prog pqb none0 false (aeval (pt crDOps vals (fun _ => true) (crDT x0 x3 x6) 8)) H (crDOps.getD 8 default) true K = gO true (abl zD [(0, 1, (vals 7))]) fun v => K v H := by kernel_rfl
theorem crD_op8 (x0 x3 x6 : AV) : OpIs Try.prog crDOps (crDT x0 x3 x6) 8 [7] fun vals H K => gO true (abl zD [(0, 1, (vals 7))]) fun v => K v H := by
 refine OpIs.opB (ql := pqb) (crDOps.getD 8 default) (by kernel_rfl) (by kernel_rfl) (by kernel_rfl) (fun ρ => by kernel_rfl) ?_
 intro vals H K h
 rw [crD_e8]
 exact h
theorem crD_e9 (x0 x3 x6 : AV) (vals : Nat → AV) (H : AH) (K : AV → AH → Prop) : sOp Try.prog pqb none0 false (aeval (pt crDOps vals (fun _ => true) (crDT x0 x3 x6) 9)) H (crDOps.getD 9 default) true K = gH true (absl H 3 1 (zrow zD 1) [(0, 3, (vals 8))]) H K := by kernel_rfl
theorem crD_op9 (x0 x3 x6 : AV) : OpIs Try.prog crDOps (crDT x0 x3 x6) 9 [8] fun vals H K => gH true (absl H 3 1 (zrow zD 1) [(0, 3, (vals 8))]) H K := by
 refine OpIs.opB (ql := pqb) (crDOps.getD 9 default) (by kernel_rfl) (by kernel_rfl) (by kernel_rfl) (fun ρ => by kernel_rfl) ?_
 intro vals H K h
 rw [crD_e9]
 exact h
theorem crD_op10 (x0 x3 x6 : AV) : OpIs Try.prog crDOps (crDT x0 x3 x6) 10 [4, 5, 9] fun vals H K => ACalls Try.prog 70 [(vals 4), (vals 5), (vals 9)] H K :=
 OpIs.call (crDOps.getD 10 default) (by kernel_rfl) (by kernel_rfl) (by kernel_rfl) _ (fun vals => [(vals 4), (vals 5), (vals 9)]) (by kernel_rfl) (fun vals => by kernel_rfl) (fun vals H K h => h)
theorem crD_e11 (x0 x3 x6 : AV) (vals : Nat → AV) (H : AH) (K : AV → AH → Prop) : sOp Try.prog pqb none0 false (aeval (pt crDOps vals (fun _ => true) (crDT x0 x3 x6) 11)) H (crDOps.getD 11 default) true K = gO true (zgZ (vals 0)) fun v => K v H := by kernel_rfl
theorem crD_op11 (x0 x3 x6 : AV) : OpIs Try.prog crDOps (crDT x0 x3 x6) 11 [0, 1, 2, 3, 4, 5, 6, 7, 8, 9, 10] fun vals H K => gO true (zgZ (vals 0)) fun v => K v H := by
 refine OpIs.opB (ql := pqb) (crDOps.getD 11 default) (by kernel_rfl) (by kernel_rfl) (by kernel_rfl) (fun ρ => by kernel_rfl) ?_
 intro vals H K h
 rw [crD_e11]
 exact h
theorem crD_e12 (x0 x3 x6 : AV) (vals : Nat → AV) (H : AH) (K : AV → AH → Prop) : sOp Try.prog pqb none0 false (aeval (pt crDOps vals (fun _ => true) (crDT x0 x3 x6) 12)) H (crDOps.getD 12 default) true K = gO true (ashift 1 (vals 11)) fun v => K v H := by kernel_rfl
theorem crD_op12 (x0 x3 x6 : AV) : OpIs Try.prog crDOps (crDT x0 x3 x6) 12 [0, 1, 2, 3, 4, 5, 6, 7, 8, 9, 10, 11] fun vals H K => gO true (ashift 1 (vals 11)) fun v => K v H := by
 refine OpIs.opB (ql := pqb) (crDOps.getD 12 default) (by kernel_rfl) (by kernel_rfl) (by kernel_rfl) (fun ρ => by kernel_rfl) ?_
 intro vals H K h
 rw [crD_e12]
 exact h
theorem crD_e13 (x0 x3 x6 : AV) (vals : Nat → AV) (H : AH) (K : AV → AH → Prop) : sOp Try.prog pqb none0 false (aeval (pt crDOps vals (fun _ => true) (crDT x0 x3 x6) 13)) H (crDOps.getD 13 default) true K = gS true (ast 1 H (vals 12) (vals 10)) H fun H' => K undefA H' := by kernel_rfl
theorem crD_op13 (x0 x3 x6 : AV) : OpIs Try.prog crDOps (crDT x0 x3 x6) 13 [0, 1, 2, 3, 4, 5, 6, 7, 8, 9, 10, 12] fun vals H K => gS true (ast 1 H (vals 12) (vals 10)) H fun H' => K undefA H' := by
 refine OpIs.opB (ql := pqb) (crDOps.getD 13 default) (by kernel_rfl) (by kernel_rfl) (by kernel_rfl) (fun ρ => by kernel_rfl) ?_
 intro vals H K h
 rw [crD_e13]
 exact h
def crDNeed : List (List Nat) := [[], [], [1], [2], [3], [], [], [6], [7], [8], [4, 5, 9], [0, 1, 2, 3, 4, 5, 6, 7, 8, 9, 10], [0, 1, 2, 3, 4, 5, 6, 7, 8, 9, 10, 11], [0, 1, 2, 3, 4, 5, 6, 7, 8, 9, 10, 12]]
def crDF (x0 x3 x6 : AV) : List ((Nat → AV) → AH → (AV → AH → Prop) → Prop) := [
 fun vals H K => gO true (some x0) fun v => K v H,
 fun vals H K => gO true (some x0) fun v => K v H,
 fun vals H K => gO true (zgZ (vals 1)) fun v => K v H,
 fun vals H K => gO true (ashift 1 (vals 2)) fun v => K v H,
 fun vals H K => gO true (ald false 1 H (vals 3)) fun v => K v H,
 fun vals H K => gO true (some x6) fun v => K v H,
 fun vals H K => gO true (ashift 1 x3) fun v => K v H,
 fun vals H K => gO true (ald false 1 H (vals 6)) fun v => K v H,
 fun vals H K => gO true (abl zD [(0, 1, (vals 7))]) fun v => K v H,
 fun vals H K => gH true (absl H 3 1 (zrow zD 1) [(0, 3, (vals 8))]) H K,
 fun vals H K => ACalls Try.prog 70 [(vals 4), (vals 5), (vals 9)] H K,
 fun vals H K => gO true (zgZ (vals 0)) fun v => K v H,
 fun vals H K => gO true (ashift 1 (vals 11)) fun v => K v H,
 fun vals H K => gS true (ast 1 H (vals 12) (vals 10)) H fun H' => K undefA H']
theorem crDIs (x0 x3 x6 : AV) : ∀ i, i < crDOps.length → OpIs Try.prog crDOps (crDT x0 x3 x6) i (crDNeed.getD i []) ((crDF x0 x3 x6).getD i (fun _ _ _ => False)) := by
 intro i hi
 rw [crDLen] at hi
 have : i = 0 ∨ i = 1 ∨ i = 2 ∨ i = 3 ∨ i = 4 ∨ i = 5 ∨ i = 6 ∨ i = 7 ∨ i = 8 ∨ i = 9 ∨ i = 10 ∨ i = 11 ∨ i = 12 ∨ i = 13 := by omega
 rcases this with rfl | rfl | rfl | rfl | rfl | rfl | rfl | rfl | rfl | rfl | rfl | rfl | rfl | rfl
 ·exact crD_op0 x0 x3 x6
 ·exact crD_op1 x0 x3 x6
 ·exact crD_op2 x0 x3 x6
 ·exact crD_op3 x0 x3 x6
 ·exact crD_op4 x0 x3 x6
 ·exact crD_op5 x0 x3 x6
 ·exact crD_op6 x0 x3 x6
 ·exact crD_op7 x0 x3 x6
 ·exact crD_op8 x0 x3 x6
 ·exact crD_op9 x0 x3 x6
 ·exact crD_op10 x0 x3 x6
 ·exact crD_op11 x0 x3 x6
 ·exact crD_op12 x0 x3 x6
 ·exact crD_op13 x0 x3 x6
end Go.Proofs.Ytpnfdibgfichmaa.Av
end
/-! YtpnfdibgfichmaaAvIv -/
section
/- Chapter 12: a file is made. -/
set_option linter.unusedVariables false
set_option linter.unusedSimpArgs false
set_option maxRecDepth 100000
namespace Go.Proofs.Ytpnfdibgfichmaa.Av
open Go Go.RowKit

structure OpM where
 kind : Int
 ino : Int
 pos : Int
 size : Int
 keep : Bool
 name : List UInt8
 to : List UInt8
 b : List UInt8
 deriving DecidableEq
def opA (o : OpM) (bv : AV) : List AV := [I o.kind, I o.ino, I o.pos, I o.size, B o.keep, S (bstr o.name), S (bstr o.to), bv]
theorem crN_K (x0 x3 x4 x6 : AV) (vals : Nat → AV) (H : AH) (K : AV → AH → Prop) : (kSeq (cutC (mk 82 0 [0, 3, 6]) (zptZ [true, true, true, true, true] 6)) (kRet Try.prog Try.f38.results.toList K)) .normal (pt crNOps vals (fun _ => true) (crNT x0 x3 x4 x6) 16) H = zssZ x0 x3 x6 H K := by kernel_rfl
theorem crD_K (x0 x3 x6 : AV) (vals : Nat → AV) (H : AH) (K : AV → AH → Prop) : (kRet Try.prog Try.f38.results.toList K) .normal (pt crDOps vals (fun _ => true) (crDT x0 x3 x6) 14) H = K (.tup []) H := by kernel_rfl
theorem crN_acode (x0 x3 x4 x6 : AV) (H : AH) (K : AV → AH → Prop) (h : ACode Try.prog (.region 4 crNOps.toArray true) (kSeq (cutC (mk 82 0 [0, 3, 6]) (zptZ [true, true, true, true, true] 6)) (kRet Try.prog Try.f38.results.toList K)) (crNT x0 x3 x4 x6) H) : znrZ x0 x3 x4 x6 H K := unR.mk h
theorem crD_acode (x0 x3 x6 : AV) (H : AH) (K : AV → AH → Prop) (h : ACode Try.prog (.region 5 crDOps.toArray true) (kRet Try.prog Try.f38.results.toList K) (crDT x0 x3 x6) H) : zrxZ x0 x3 x6 H K := unR.mk h
def hp3 (i j k : Nat) (A B C D : AH) (S : Nat → Bool) : AH := if S k = true then D else if S j = true then C else if S i = true then B else A
theorem hp3_u {i j k : Nat} {A B C D : AH} {S : Nat → Bool} {q : Nat} (h1 : q ≠ i) (h2 : q ≠ j) (h3 : q ≠ k) : hp3 i j k A B C D (upd S q) = hp3 i j k A B C D S := by
 unfold hp3 upd
 rw [if_neg (Ne.symm h3), if_neg (Ne.symm h2), if_neg (Ne.symm h1)]
theorem create_U4 {L oi p k : Nat} {ns : List Nm} {dv : List NdV} {a b bv : AV} {H : AH} {o : OpM} (h : ImH L oi ns dv a b H) (hp : H[p]? = some (some (.cells (opA o bv)))) (hpo : p ≠ oi) (hpa : p ∉ idS a) (hk : k ≤ ns.length) (hn : ns.length ≤ 100000) :
  ∃ r H2, ImH L oi (ns.take k ++ ⟨o.name, o.ino⟩ :: ns.drop k) dv r b H2 ∧ FrL L oi H H2 ∧ H2[p]? = H[p]? ∧ ∀ x6 K, zssZ (.ptr oi 0) (.ptr p 0) x6 H2 K → znrZ (.ptr oi 0) (.ptr p 0) (I k) x6 H K := by
 have g := Grew.app H [some (.cells (encN ⟨o.name, o.ino⟩))]
 have hg := h.grew g
 have hpl := (List.getElem?_eq_some_iff.1 hp).1
 obtain ⟨r, H12, hI, hc⟩ := insN_c (x := ⟨o.name, o.ino⟩) (oj := H.length) hg.sa hg.oa hg.ca hk (by omega) (by simp) (fun hh => by have := zmZ h.sa _ hh; omega)
 obtain ⟨i1, i2, i3, i4, i5, i6⟩ := hI
 have el : (ns.take k ++ (⟨o.name, o.ino⟩ : Nm) :: ns.drop k).length = ns.length + 1 := by simp; omega
 obtain ⟨H2, e2, n1, n2⟩ := hg.newA (ms := ns.take k ++ ⟨o.name, o.ino⟩ :: ns.drop k) i3 i4 (by rw [el]; exact i2) i1 (by rw [el]; exact i6) i5
 have hp2 : H2[p]? = H[p]? := by
  have c0 : H12[oi]? = some (some (.cells [a, b])) := by rw [i4 oi (List.getElem?_eq_some_iff.1 hg.obj).1 hg.noA]; exact hg.obj
  rw [ast_ptr (n := 1) (off := 0) (xs := [r]) (cs := [a, b]) (zbhZ (zrZ i1)) c0 rfl (by simp)] at e2
  injection e2 with e2
  rw [← e2, List.getElem?_set_ne (Ne.symm hpo), i4 p (by simp; omega) hpa, g.2 p hpl]
 have hfr : FrL L oi H H2 := by
  have hle := h.len
  exact ⟨Nat.le_trans g.1 n2.1, fun j h5 h6 => (n2.2 j h5 h6).trans (g.2 j (by omega))⟩
 let V : Nat → AV := fun i => ([.ptr oi 0, .ptr oi 0, .ptr oi 0, .ptr oi 0, a, I k, .ptr p 5, S (bstr o.name), .ptr p 1, I o.ino, .agg (encN ⟨o.name, o.ino⟩), .sl H.length 0 1 2 (.ex 1), r, .ptr oi 0, .ptr oi 0, undefA] : List AV).getD i undefA
 refine ⟨r, H2, n1, hfr, hp2, fun x6 K hK => crN_acode _ _ _ _ _ _ ?_⟩
 refine ACode.told2 mixP crNOrd (fun i => crNNeed.getD i []) (fun i => (crNF (.ptr oi 0) (.ptr p 0) (I k) x6).getD i (fun _ _ _ => False)) V (hp3 11 12 15 H (H ++ [some (.cells (encN ⟨o.name, o.ino⟩))]) H12 H2) (crNIs _ _ _ _) rfl ?_ ?_
 ·intro i hi S vals hS cl hn
  rw [crNLen] at hi
  have n12 : S 4 = false → S 12 = false := fun h4 => by
   cases h : S 12 with
   | false => rfl
   | true => have := cl 12 h 4 (by simp [crNNeed]); rw [h4] at this; cases this
  have n15 : S 12 = false → S 15 = false := fun h4 => by
   cases h : S 15 with
   | false => rfl
   | true => have := cl 15 h 12 (by simp [crNNeed]); rw [h4] at this; cases this
  have n12' : S 11 = false → S 12 = false := fun h4 => by
   cases h : S 12 with
   | false => rfl
   | true => have := cl 12 h 11 (by simp [crNNeed]); rw [h4] at this; cases this
  have n11 : ∀ j, j = 7 ∨ j = 9 → S j = false → S 11 = false := fun j hj h4 => by
   cases h : S 11 with
   | false => rfl
   | true =>
    have h10 := cl 11 h 10 (by simp [crNNeed])
    have := cl 10 h10 j (by rcases hj with rfl | rfl <;> simp [crNNeed])
    rw [h4] at this; cases this
  have hcase : i = 0 ∨ i = 1 ∨ i = 2 ∨ i = 3 ∨ i = 4 ∨ i = 5 ∨ i = 6 ∨ i = 7 ∨ i = 8 ∨ i = 9 ∨ i = 10 ∨ i = 11 ∨ i = 12 ∨ i = 13 ∨ i = 14 ∨ i = 15 := by omega
  rcases hcase with rfl | rfl | rfl | rfl | rfl | rfl | rfl | rfl | rfl | rfl | rfl | rfl | rfl | rfl | rfl | rfl
  ·simp only [crNF, List.getD_cons_succ, List.getD_cons_zero, gO_true, gH_true, gS_true, bO_some]
   exact ⟨rfl, (hp3_u (by omega) (by omega) (by omega)).symm⟩
  ·simp only [crNF, List.getD_cons_succ, List.getD_cons_zero, gO_true, gH_true, gS_true, bO_some]
   exact ⟨rfl, (hp3_u (by omega) (by omega) (by omega)).symm⟩
  ·simp only [crNF, List.getD_cons_succ, List.getD_cons_zero, gO_true, gH_true, gS_true, bO_some]
   have v1 := (hn 1 (by simp [crNNeed])).2
   rw [v1]
   exact ⟨rfl, (hp3_u (by omega) (by omega) (by omega)).symm⟩
  ·simp only [crNF, List.getD_cons_succ, List.getD_cons_zero, gO_true, gH_true, gS_true, bO_some]
   have v2 := (hn 2 (by simp [crNNeed])).2
   rw [v2]
   exact ⟨rfl, (hp3_u (by omega) (by omega) (by omega)).symm⟩
  ·simp only [crNF, List.getD_cons_succ, List.getD_cons_zero, gO_true, gH_true, gS_true, bO_some]
   have v3 := (hn 3 (by simp [crNNeed])).2
   rw [v3]
   have e : ald false 1 (hp3 11 12 15 H (H ++ [some (.cells (encN ⟨o.name, o.ino⟩))]) H12 H2 S) (V 3) = some a := by
    have q12 := n12 hS
    have q15 := n15 q12
    have : (hp3 11 12 15 H (H ++ [some (.cells (encN ⟨o.name, o.ino⟩))]) H12 H2 S)[oi]? = some (some (.cells [a, b])) := by
     unfold hp3
     rw [q15, q12]
     cases S 11 with
     | true => exact hg.obj
     | false => exact h.obj
    show ald false 1 _ (.ptr oi 0) = _
    rw [ald_ptr this]; rfl
   rw [e]
   exact ⟨rfl, (hp3_u (by omega) (by omega) (by omega)).symm⟩
  ·simp only [crNF, List.getD_cons_succ, List.getD_cons_zero, gO_true, gH_true, gS_true, bO_some]
   exact ⟨rfl, (hp3_u (by omega) (by omega) (by omega)).symm⟩
  ·simp only [crNF, List.getD_cons_succ, List.getD_cons_zero, gO_true, gH_true, gS_true, bO_some]
   exact ⟨rfl, (hp3_u (by omega) (by omega) (by omega)).symm⟩
  ·simp only [crNF, List.getD_cons_succ, List.getD_cons_zero, gO_true, gH_true, gS_true, bO_some]
   have v6 := (hn 6 (by simp [crNNeed])).2
   rw [v6]
   have e : ald false 1 (hp3 11 12 15 H (H ++ [some (.cells (encN ⟨o.name, o.ino⟩))]) H12 H2 S) (V 6) = some (.lit (.string (bstr o.name))) := by
    have q11 := n11 7 (by omega) hS
    have q12 := n12' q11
    have q15 := n15 q12
    unfold hp3
    rw [q15, q12, q11]
    show ald false 1 H (.ptr p 5) = _
    rw [ald_ptr hp]; rfl
   rw [e]
   exact ⟨rfl, (hp3_u (by omega) (by omega) (by omega)).symm⟩
  ·simp only [crNF, List.getD_cons_succ, List.getD_cons_zero, gO_true, gH_true, gS_true, bO_some]
   exact ⟨rfl, (hp3_u (by omega) (by omega) (by omega)).symm⟩
  ·simp only [crNF, List.getD_cons_succ, List.getD_cons_zero, gO_true, gH_true, gS_true, bO_some]
   have v8 := (hn 8 (by simp [crNNeed])).2
   rw [v8]
   have e : ald false 1 (hp3 11 12 15 H (H ++ [some (.cells (encN ⟨o.name, o.ino⟩))]) H12 H2 S) (V 8) = some (I o.ino) := by
    have q11 := n11 9 (by omega) hS
    have q12 := n12' q11
    have q15 := n15 q12
    unfold hp3
    rw [q15, q12, q11]
    show ald false 1 H (.ptr p 1) = _
    rw [ald_ptr hp]; rfl
   rw [e]
   exact ⟨rfl, (hp3_u (by omega) (by omega) (by omega)).symm⟩
  ·simp only [crNF, List.getD_cons_succ, List.getD_cons_zero, gO_true, gH_true, gS_true, bO_some]
   have v7 := (hn 7 (by simp [crNNeed])).2
   have v9 := (hn 9 (by simp [crNNeed])).2
   rw [v7, v9]
   exact ⟨rfl, (hp3_u (by omega) (by omega) (by omega)).symm⟩
  ·simp only [crNF, List.getD_cons_succ, List.getD_cons_zero, gO_true, gH_true, gS_true, bO_some]
   have v10 := (hn 10 (by simp [crNNeed])).2
   rw [v10]
   have q12 := n12' hS
   have q15 := n15 q12
   have e : hp3 11 12 15 H (H ++ [some (.cells (encN ⟨o.name, o.ino⟩))]) H12 H2 S = H := by unfold hp3; rw [q15, q12, hS]; rfl
   have e2 : hp3 11 12 15 H (H ++ [some (.cells (encN ⟨o.name, o.ino⟩))]) H12 H2 (upd S 11) = H ++ [some (.cells (encN ⟨o.name, o.ino⟩))] := by unfold hp3; simp [upd, q15, q12]
   rw [e, e2]
   exact ⟨rfl, rfl⟩
  ·simp only [crNF, List.getD_cons_succ, List.getD_cons_zero, gO_true, gH_true, gS_true, bO_some]
   have v4 := (hn 4 (by simp [crNNeed])).2
   have v5 := (hn 5 (by simp [crNNeed])).2
   have v11 := (hn 11 (by simp [crNNeed])).2
   rw [v4, v5, v11]
   have q15 := n15 hS
   have e : hp3 11 12 15 H (H ++ [some (.cells (encN ⟨o.name, o.ino⟩))]) H12 H2 S = H ++ [some (.cells (encN ⟨o.name, o.ino⟩))] := by unfold hp3; rw [q15, hS, (hn 11 (by simp [crNNeed])).1]; rfl
   have e2 : hp3 11 12 15 H (H ++ [some (.cells (encN ⟨o.name, o.ino⟩))]) H12 H2 (upd S 12) = H12 := by unfold hp3; simp [upd, q15]
   rw [e, e2]
   exact hc
  ·simp only [crNF, List.getD_cons_succ, List.getD_cons_zero, gO_true, gH_true, gS_true, bO_some]
   have v0 := (hn 0 (by simp [crNNeed])).2
   rw [v0]
   exact ⟨rfl, (hp3_u (by omega) (by omega) (by omega)).symm⟩
  ·simp only [crNF, List.getD_cons_succ, List.getD_cons_zero, gO_true, gH_true, gS_true, bO_some]
   have v13 := (hn 13 (by simp [crNNeed])).2
   rw [v13]
   exact ⟨rfl, (hp3_u (by omega) (by omega) (by omega)).symm⟩
  ·simp only [crNF, List.getD_cons_succ, List.getD_cons_zero, gO_true, gH_true, gS_true, bO_some]
   have v14 := (hn 14 (by simp [crNNeed])).2
   have v12 := (hn 12 (by simp [crNNeed])).2
   rw [v14, v12]
   have e : hp3 11 12 15 H (H ++ [some (.cells (encN ⟨o.name, o.ino⟩))]) H12 H2 S = H12 := by unfold hp3; rw [hS, (hn 12 (by simp [crNNeed])).1]; rfl
   have e3 : hp3 11 12 15 H (H ++ [some (.cells (encN ⟨o.name, o.ino⟩))]) H12 H2 (upd S 15) = H2 := by unfold hp3; simp [upd]
   rw [e, e3]
   show bS (ast 1 H12 (.ptr oi 0) r) _
   rw [e2, bS_some]
   exact ⟨rfl, rfl⟩
 ·intro S vals hS
  rw [crNLen, crN_K]
  have : hp3 11 12 15 H (H ++ [some (.cells (encN ⟨o.name, o.ino⟩))]) H12 H2 S = H2 := by unfold hp3; rw [if_pos (hS 15 (by rw [crNLen]; omega)).1]
  rw [this]
  exact hK
def newD (ino : Int) : NdV := ⟨⟨ino, 0, []⟩, nilSl, SV.nil⟩
theorem create_U5 {L oi p k : Nat} {ns : List Nm} {dv : List NdV} {a b bv : AV} {H : AH} {o : OpM} (h : ImH L oi ns dv a b H) (hp : H[p]? = some (some (.cells (opA o bv)))) (hk : k ≤ dv.length) (hn : dv.length ≤ 100000) :
  ∃ r H2, ImH L oi ns (dv.take k ++ newD o.ino :: dv.drop k) a r H2 ∧ FrL L oi H H2 ∧ ∀ K : AV → AH → Prop, K (.tup []) H2 → zrxZ (.ptr oi 0) (.ptr p 0) (I k) H K := by
 have g := Grew.app H [some (.cells (encD (newD o.ino)))]
 have hg := h.grew g
 have hpl := (List.getElem?_eq_some_iff.1 hp).1
 obtain ⟨r, H10, hI, hc⟩ := insD_c (x := newD o.ino) (oj := H.length) hg.sb hg.ob hg.cb hk (by omega) (by simp) (fun hh => by have := zmZ h.sb _ hh; omega)
 obtain ⟨i1, i2, i3, i4, i5, i6⟩ := hI
 have el : (dv.take k ++ newD o.ino :: dv.drop k).length = dv.length + 1 := by simp; omega
 obtain ⟨H2, e2, n1, n2⟩ := hg.newB (ew := dv.take k ++ newD o.ino :: dv.drop k) i3 i4 (by rw [el]; exact i2) i1 (by rw [el]; exact i6) i5
 have hfr : FrL L oi H H2 := by
  have hle := h.len
  exact ⟨Nat.le_trans g.1 n2.1, fun j h5 h6 => (n2.2 j h5 h6).trans (g.2 j (by omega))⟩
 let V : Nat → AV := fun i => ([.ptr oi 0, .ptr oi 0, .ptr oi 0, .ptr oi 1, b, I k, .ptr p 1, I o.ino, .agg (encD (newD o.ino)), .sl H.length 0 1 3 (.ex 1), r, .ptr oi 0, .ptr oi 1, undefA] : List AV).getD i undefA
 refine ⟨r, H2, n1, hfr, fun K hK => crD_acode _ _ _ _ _ ?_⟩
 refine ACode.told2 mixP crDOrd (fun i => crDNeed.getD i []) (fun i => (crDF (.ptr oi 0) (.ptr p 0) (I k)).getD i (fun _ _ _ => False)) V (hp3 9 10 13 H (H ++ [some (.cells (encD (newD o.ino)))]) H10 H2) (crDIs _ _ _) rfl ?_ ?_
 ·intro i hi S vals hS cl hn
  rw [crDLen] at hi
  have n12 : S 4 = false → S 10 = false := fun h4 => by
   cases h : S 10 with
   | false => rfl
   | true => have := cl 10 h 4 (by simp [crDNeed]); rw [h4] at this; cases this
  have n15 : S 10 = false → S 13 = false := fun h4 => by
   cases h : S 13 with
   | false => rfl
   | true => have := cl 13 h 10 (by simp [crDNeed]); rw [h4] at this; cases this
  have n12' : S 9 = false → S 10 = false := fun h4 => by
   cases h : S 10 with
   | false => rfl
   | true => have := cl 10 h 9 (by simp [crDNeed]); rw [h4] at this; cases this
  have n11 : S 7 = false → S 9 = false := fun h4 => by
   cases h : S 9 with
   | false => rfl
   | true =>
    have h8 := cl 9 h 8 (by simp [crDNeed])
    have := cl 8 h8 7 (by simp [crDNeed])
    rw [h4] at this; cases this
  have hcase : i = 0 ∨ i = 1 ∨ i = 2 ∨ i = 3 ∨ i = 4 ∨ i = 5 ∨ i = 6 ∨ i = 7 ∨ i = 8 ∨ i = 9 ∨ i = 10 ∨ i = 11 ∨ i = 12 ∨ i = 13 := by omega
  rcases hcase with rfl | rfl | rfl | rfl | rfl | rfl | rfl | rfl | rfl | rfl | rfl | rfl | rfl | rfl
  ·simp only [crDF, List.getD_cons_succ, List.getD_cons_zero, gO_true, gH_true, gS_true, bO_some]
   exact ⟨rfl, (hp3_u (by omega) (by omega) (by omega)).symm⟩
  ·simp only [crDF, List.getD_cons_succ, List.getD_cons_zero, gO_true, gH_true, gS_true, bO_some]
   exact ⟨rfl, (hp3_u (by omega) (by omega) (by omega)).symm⟩
  ·simp only [crDF, List.getD_cons_succ, List.getD_cons_zero, gO_true, gH_true, gS_true, bO_some]
   have v1 := (hn 1 (by simp [crDNeed])).2
   rw [v1]
   exact ⟨rfl, (hp3_u (by omega) (by omega) (by omega)).symm⟩
  ·simp only [crDF, List.getD_cons_succ, List.getD_cons_zero, gO_true, gH_true, gS_true, bO_some]
   have v2 := (hn 2 (by simp [crDNeed])).2
   rw [v2]
   exact ⟨rfl, (hp3_u (by omega) (by omega) (by omega)).symm⟩
  ·simp only [crDF, List.getD_cons_succ, List.getD_cons_zero, gO_true, gH_true, gS_true, bO_some]
   have v3 := (hn 3 (by simp [crDNeed])).2
   rw [v3]
   have e : ald false 1 (hp3 9 10 13 H (H ++ [some (.cells (encD (newD o.ino)))]) H10 H2 S) (V 3) = some b := by
    have q12 := n12 hS
    have q15 := n15 q12
    have : (hp3 9 10 13 H (H ++ [some (.cells (encD (newD o.ino)))]) H10 H2 S)[oi]? = some (some (.cells [a, b])) := by
     unfold hp3
     rw [q15, q12]
     cases S 9 with
     | true => exact hg.obj
     | false => exact h.obj
    show ald false 1 _ (.ptr oi 1) = _
    rw [ald_ptr this]; rfl
   rw [e]
   exact ⟨rfl, (hp3_u (by omega) (by omega) (by omega)).symm⟩
  ·simp only [crDF, List.getD_cons_succ, List.getD_cons_zero, gO_true, gH_true, gS_true, bO_some]
   exact ⟨rfl, (hp3_u (by omega) (by omega) (by omega)).symm⟩
  ·simp only [crDF, List.getD_cons_succ, List.getD_cons_zero, gO_true, gH_true, gS_true, bO_some]
   exact ⟨rfl, (hp3_u (by omega) (by omega) (by omega)).symm⟩
  ·simp only [crDF, List.getD_cons_succ, List.getD_cons_zero, gO_true, gH_true, gS_true, bO_some]
   have v6 := (hn 6 (by simp [crDNeed])).2
   rw [v6]
   have e : ald false 1 (hp3 9 10 13 H (H ++ [some (.cells (encD (newD o.ino)))]) H10 H2 S) (V 6) = some (I o.ino) := by
    have q11 := n11 hS
    have q12 := n12' q11
    have q15 := n15 q12
    unfold hp3
    rw [q15, q12, q11]
    show ald false 1 H (.ptr p 1) = _
    rw [ald_ptr hp]; rfl
   rw [e]
   exact ⟨rfl, (hp3_u (by omega) (by omega) (by omega)).symm⟩
  ·simp only [crDF, List.getD_cons_succ, List.getD_cons_zero, gO_true, gH_true, gS_true, bO_some]
   have v7 := (hn 7 (by simp [crDNeed])).2
   rw [v7]
   exact ⟨rfl, (hp3_u (by omega) (by omega) (by omega)).symm⟩
  ·simp only [crDF, List.getD_cons_succ, List.getD_cons_zero, gO_true, gH_true, gS_true, bO_some]
   have v8 := (hn 8 (by simp [crDNeed])).2
   rw [v8]
   have q12 := n12' hS
   have q15 := n15 q12
   have e : hp3 9 10 13 H (H ++ [some (.cells (encD (newD o.ino)))]) H10 H2 S = H := by unfold hp3; rw [q15, q12, hS]; rfl
   have e2 : hp3 9 10 13 H (H ++ [some (.cells (encD (newD o.ino)))]) H10 H2 (upd S 9) = H ++ [some (.cells (encD (newD o.ino)))] := by unfold hp3; simp [upd, q15, q12]
   rw [e, e2]
   exact ⟨rfl, rfl⟩
  ·simp only [crDF, List.getD_cons_succ, List.getD_cons_zero, gO_true, gH_true, gS_true, bO_some]
   have v4 := (hn 4 (by simp [crDNeed])).2
   have v5 := (hn 5 (by simp [crDNeed])).2
   have v9 := (hn 9 (by simp [crDNeed])).2
   rw [v4, v5, v9]
   have q15 := n15 hS
   have e : hp3 9 10 13 H (H ++ [some (.cells (encD (newD o.ino)))]) H10 H2 S = H ++ [some (.cells (encD (newD o.ino)))] := by unfold hp3; rw [q15, hS, (hn 9 (by simp [crDNeed])).1]; rfl
   have e2 : hp3 9 10 13 H (H ++ [some (.cells (encD (newD o.ino)))]) H10 H2 (upd S 10) = H10 := by unfold hp3; simp [upd, q15]
   rw [e, e2]
   exact hc
  ·simp only [crDF, List.getD_cons_succ, List.getD_cons_zero, gO_true, gH_true, gS_true, bO_some]
   have v0 := (hn 0 (by simp [crDNeed])).2
   rw [v0]
   exact ⟨rfl, (hp3_u (by omega) (by omega) (by omega)).symm⟩
  ·simp only [crDF, List.getD_cons_succ, List.getD_cons_zero, gO_true, gH_true, gS_true, bO_some]
   have v11 := (hn 11 (by simp [crDNeed])).2
   rw [v11]
   exact ⟨rfl, (hp3_u (by omega) (by omega) (by omega)).symm⟩
  ·simp only [crDF, List.getD_cons_succ, List.getD_cons_zero, gO_true, gH_true, gS_true, bO_some]
   have v12 := (hn 12 (by simp [crDNeed])).2
   have v10 := (hn 10 (by simp [crDNeed])).2
   rw [v12, v10]
   have e : hp3 9 10 13 H (H ++ [some (.cells (encD (newD o.ino)))]) H10 H2 S = H10 := by unfold hp3; rw [hS, (hn 10 (by simp [crDNeed])).1]; rfl
   have e3 : hp3 9 10 13 H (H ++ [some (.cells (encD (newD o.ino)))]) H10 H2 (upd S 13) = H2 := by unfold hp3; simp [upd]
   rw [e, e3]
   show bS (ast 1 H10 (.ptr oi 1) r) _
   rw [e2, bS_some]
   exact ⟨rfl, rfl⟩
 ·intro S vals hS
  rw [crDLen, crD_K]
  have : hp3 9 10 13 H (H ++ [some (.cells (encD (newD o.ino)))]) H10 H2 S = H2 := by unfold hp3; rw [if_pos (hS 13 (by rw [crDLen]; omega)).1]
  rw [this]
  exact hK
end Go.Proofs.Ytpnfdibgfichmaa.Av
end
/-! YtpnfdibgfichmaaAvIw -/
section
/- Chapter 12: files that are made, and removed; names that are changed. -/
set_option linter.unusedVariables false
set_option linter.unusedSimpArgs false
set_option maxRecDepth 100000
namespace Go.Proofs.Ytpnfdibgfichmaa.Av
open Go Go.RowKit

def ImP (L oi : Nat) (H : AH) (ns : List Nm) (dv : List NdV) (r : AV) (H' : AH) : Prop := r = .tup [] ∧ ∃ a b, ImH L oi ns dv a b H' ∧ FrL L oi H H'
def creOk (ns : List Nm) (dv : List NdV) (o : OpM) : Prop := ¬ hasK Nm.name ns o.name ∧ ¬ hasK NdV.ino dv o.ino ∧ mayN o.name ∧ 1 ≤ o.ino ∧ o.ino ≤ 4611686018427387904 ∧ ns.length < 16
instance (ns : List Nm) (dv : List NdV) (o : OpM) : Decidable (creOk ns dv o) := by unfold creOk; infer_instance
def creNs (ns : List Nm) (dv : List NdV) (o : OpM) : List Nm := if creOk ns dv o then insK cmpN Nm.name ns ⟨o.name, o.ino⟩ else ns
def creDv (ns : List Nm) (dv : List NdV) (o : OpM) : List NdV := if creOk ns dv o then insK cmpI NdV.ino dv (newD o.ino) else dv
theorem op_new {L oi : Nat} {ns : List Nm} {dv : List NdV} {a b : AV} {H : AH} (h : ImH L oi ns dv a b H) (o : OpM) {bv : AV} (hb : oneA bv = true) : ∃ H1, anew H (.agg (opA o bv)) = some (.ptr H.length 0, H1) ∧ H1[H.length]? = some (some (.cells (opA o bv))) ∧ ImH L oi ns dv a b H1 ∧ FrL L oi H H1 := by
 have g := Grew.app H [some (.cells (opA o bv))]
 have hle := h.len
 exact ⟨_, by simp [opA, hb], by simp, h.grew g, g.1, fun j h1 h2 => g.2 j (by omega)⟩
theorem create_w {L oi : Nat} {ns : List Nm} {dv : List NdV} {a b bv : AV} {H H1 : AH} {o : OpM} (h : ImH L oi ns dv a b H) (e1 : anew H (.agg (opA o bv)) = some (.ptr H.length 0, H1)) (hp : H1[H.length]? = some (some (.cells (opA o bv)))) (h1 : ImH L oi ns dv a b H1)
  (hs : srtK cmpN Nm.name ns) (hd : srtK cmpI NdV.ino dv) (hn : ns.length ≤ 100000) (hm : dv.length ≤ 100000) (hnm : o.name.length ≤ 1000000000) {K : AV → AH → Prop} (hno : ¬ creOk ns dv o → K (.tup []) H1) (hyes : creOk ns dv o → znrZ (.ptr oi 0) (.ptr H.length 0) (I (posK cmpN Nm.name ns o.name)) (I (posK cmpI NdV.ino dv o.ino)) H1 K) :
  zupZ (.ptr oi 0) (.agg (opA o bv)) H K := by
 obtain ⟨Ra, Rb, sa, sb, fz⟩ := h1.lend
 have c0 := h1.obj
 unfold zupZ
 simp only [e1, bH_some]
 have b0 : rdCells true 2 [a, b] 0 = some (.agg [a, b]) := rfl
 simp [hp, c0, b0, opA]
 refine bC_of (PCall.lend (FZs.cons fz (FZs.cons (FZ.lit _) FZs.nil)) rfl (named_p sa sb hs (by omega) o.name)).call ?_
 simp [hp, c0, b0, opA]
 refine bC_of (PCall.lend (FZs.cons fz (FZs.cons (FZ.lit _) FZs.nil)) rfl (node_p sa sb hd (by omega) o.ino)).call ?_
 by_cases q1 : hasK Nm.name ns o.name
 ·simp [q1]
  exact hno fun hc => hc.1 q1
 ·by_cases q2 : hasK NdV.ino dv o.ino
  ·simp [q1, q2]
   exact hno fun hc => hc.2.1 q2
  ·simp [q1, q2, hp, opA]
   refine bP_pure (MayName_p (s := o.name) (by omega)) ?_
   by_cases q3 : mayN o.name
   ·by_cases q4 : o.ino < 1
    ·simp [q3, q4, hp, opA]
     exact hno fun hc => by have := hc.2.2.2.1; omega
    ·by_cases q5 : 4611686018427387904 < o.ino
     ·simp [q3, q4, q5, hp, opA]
      exact hno fun hc => by have := hc.2.2.2.2.1; omega
     ·have ln := zosZ h1.sa
      by_cases q6 : 16 ≤ ns.length
      ·have q6' : (16 : Int) ≤ ns.length := by omega
       simp [q3, q4, q5, hp, opA, c0, ln, q6']
       exact hno fun hc => by have := hc.2.2.2.2.2; omega
      ·have q6' : ¬ (16 : Int) ≤ ns.length := by omega
       simp [q3, q4, q5, hp, opA, c0, ln, q6']
       exact hyes ⟨q1, q2, q3, by omega, by omega, by omega⟩
   ·simp [q3]
    exact hno fun hc => q3 hc.2.2.1
theorem create_c {L oi : Nat} {ns : List Nm} {dv : List NdV} {a b bv : AV} {H : AH} {o : OpM} (h : ImH L oi ns dv a b H) (hs : srtK cmpN Nm.name ns) (hd : srtK cmpI NdV.ino dv) (hb : oneA bv = true) (hn : ns.length ≤ 100000) (hm : dv.length ≤ 100000) (hnm : o.name.length ≤ 1000000000) :
  ∃ r H', ImP L oi H (creNs ns dv o) (creDv ns dv o) r H' ∧ BCall Try.prog 38 [.ptr oi 0, .agg (opA o bv)] H r H' := by
 obtain ⟨H1, e1, hp, h1, f1⟩ := op_new h o hb
 have hpl : H.length ≠ oi := by have := (List.getElem?_eq_some_iff.1 h.obj).1; omega
 have hpa : H.length ∉ idS a := fun hh => by have := zmZ h.sa _ hh; omega
 by_cases hc : creOk ns dv o
 ·obtain ⟨r, H2, h2, f2, g2, w2⟩ := create_U4 h1 hp hpl hpa (posK_le (c := cmpN) (key := Nm.name) ns o.name) hn
  obtain ⟨r2, H3, h3, f3, w3⟩ := create_U5 h2 (g2.trans hp) (posK_le (c := cmpI) (key := NdV.ino) dv o.ino) hm
  refine ⟨.tup [], H3, ⟨rfl, r, r2, ?_, f1.trans (f2.trans f3)⟩, image_create_ok (create_w h e1 hp h1 hs hd hn hm hnm (fun q => absurd hc q) fun _ => w2 _ _ ?_)⟩
  ·unfold creNs creDv
   rw [if_pos hc, if_pos hc]; exact h3
  ·rw [image_create_J5_eq]
   unfold ztsZ
   exact w3 _ ⟨rfl, rfl⟩
 ·refine ⟨.tup [], H1, ⟨rfl, a, b, ?_, f1⟩, image_create_ok (create_w h e1 hp h1 hs hd hn hm hnm (fun _ => ⟨rfl, rfl⟩) fun q => absurd q hc)⟩
  unfold creNs creDv
  rw [if_neg hc, if_neg hc]; exact h1
/-! removed -/
def remNs (ns : List Nm) (s : List UInt8) : List Nm := if hasK Nm.name ns s then delK cmpN Nm.name ns s else ns
def remDv (ns : List Nm) (dv : List NdV) (s : List UInt8) : List NdV := if hasK Nm.name ns s then delK cmpI NdV.ino dv (nameI ns s) else dv
theorem remove_c {L oi : Nat} {ns : List Nm} {dv : List NdV} {a b : AV} {H : AH} {s : List UInt8} (h : ImH L oi ns dv a b H) (hs : srtK cmpN Nm.name ns) (hd : srtK cmpI NdV.ino dv) (hx : ∀ x ∈ ns, hasK NdV.ino dv x.ino) (hn : ns.length ≤ 100000) (hm : dv.length ≤ 100000) :
  ∃ r H', ImP L oi H (remNs ns s) (remDv ns dv s) r H' ∧ BCall Try.prog 41 [.ptr oi 0, S (bstr s)] H r H' := image_remove_ok (by
 obtain ⟨Ra, Rb, sa, sb, fz⟩ := h.lend
 have c0 := h.obj
 unfold image_remove
 have b0 : rdCells true 2 [a, b] 0 = some (.agg [a, b]) := rfl
 simp [c0, b0]
 refine bC_of (PCall.lend (FZs.cons fz (FZs.cons (FZ.lit _) FZs.nil)) rfl (named_p sa sb hs (by omega) s)).call ?_
 by_cases q : hasK Nm.name ns s
 ·obtain ⟨x, hx1, hx2, hx3⟩ := posK_atK koN hs q
  obtain ⟨o, off, cells, u1, u2, u3, u4, u5, -⟩ := own_at zejZ (by omega) h.sa h.oa hx1
  have u51 := u5 1 (by omega)
  have hk := hx x (List.mem_of_getElem? hx1)
  have hkl := hasK_pos koI hd hk
  have hpl := (List.getElem?_eq_some_iff.1 hx1).1
  have e1 : remNs ns s = delK cmpN Nm.name ns s := if_pos q
  have e2 : remDv ns dv s = delK cmpI NdV.ino dv x.ino := by unfold remDv nameI; rw [if_pos q, hx2]
  simp [q, c0, b0, u1, u3, u51, encN]
  refine bC_of (PCall.lend (FZs.cons fz (FZs.cons (FZ.lit _) FZs.nil)) rfl (node_p sa sb hd (by omega) x.ino)).call ?_
  simp [c0, abI_add (a := (posK cmpN Nm.name ns s : Nat)) (b := 1) (by omega) (by omega)]
  obtain ⟨r1, H2, ⟨d1, d2, d3, d4, d5, d6⟩, d7⟩ := delN_c h.sa h.oa h.ca hpl (by omega)
  refine bC_of d7 ?_
  have l1 := delK_len (c := cmpN) (key := Nm.name) (k := s) hpl
  obtain ⟨H3, e3, n1, n2⟩ := h.newA (ms := delK cmpN Nm.name ns s) (Nat.le_of_eq d3.symm) (fun i _ hi => d4 i hi) (by rw [show (delK cmpN Nm.name ns s).length = ns.length - 1 by omega]; exact d2) d1 (by rw [show (delK cmpN Nm.name ns s).length = ns.length - 1 by omega]; exact d6) (fun i hi => .inl (d5 ▸ hi))
  have c3 := n1.obj
  simp [e3, c3, abI_add (a := (posK cmpI NdV.ino dv x.ino : Nat)) (b := 1) (by omega) (by omega)]
  obtain ⟨r2, H4, ⟨g1, g2, g3, g4, g5, g6⟩, g7⟩ := delD_c n1.sb n1.ob n1.cb hkl (by omega)
  refine bC_of g7 ?_
  have l2 := delK_len (c := cmpI) (key := NdV.ino) (k := x.ino) hkl
  obtain ⟨H5, e5, m1, m2⟩ := n1.newB (ew := delK cmpI NdV.ino dv x.ino) (Nat.le_of_eq g3.symm) (fun i _ hi => g4 i hi) (by rw [show (delK cmpI NdV.ino dv x.ino).length = dv.length - 1 by omega]; exact g2) g1 (by rw [show (delK cmpI NdV.ino dv x.ino).length = dv.length - 1 by omega]; exact g6) (fun i hi => .inl (g5 ▸ hi))
  simp [e5]
  rw [e1, e2]
  exact ⟨rfl, _, _, m1, n2.trans m2⟩
 ·simp [q]
  refine ⟨rfl, a, b, ?_, FrL.refl _ _ _⟩
  unfold remNs remDv
  rw [if_neg q, if_neg q]; exact h)
end Go.Proofs.Ytpnfdibgfichmaa.Av
end
/-! YtpnfdibgfichmaaAvExtA -/
section
/- Chapter 11: room, and the document's own. -/
set_option linter.unusedVariables false
set_option linter.unusedSimpArgs false
set_option maxRecDepth 100000
namespace Go.Proofs.Ytpnfdibgfichmaa.Av
open Go Go.RowKit
def maySp (pos n : Int) : Prop := 0 ≤ pos ∧ 1 ≤ n ∧ n ≤ 1099511627776 ∧ pos ≤ 1099511627776 - n
instance (pos n : Int) : Decidable (maySp pos n) := by unfold maySp; infer_instance
theorem extent_span_p (pos n : Int) : BPure Try.prog 96 [I pos, I n] (B (decide (maySp pos n))) := BPure.flat fun H => extent_span_ok (by
 unfold extent_span maySp
 by_cases h1 : 0 ≤ pos
 ·by_cases h2 : 1 ≤ n
  ·by_cases h3 : n ≤ 1099511627776
   ·simp [h1, h2, h3, abI_sub (a := 1099511627776) (b := n) (by omega) (by omega)]
   ·simp [h1, h2, h3]
  ·simp [h1, h2]
 ·simp [h1])
theorem extent_Allocate_p {size : Int} {l : List Ext} {v : AV} (hv : SV encE 9 l v) (hl : l.length ≤ 1000000) (pos n : Int) (keep : Bool) :
  ∃ R, SV encE 9 (cL (allocC (size, l) pos n keep)) R ∧ BPure Try.prog 73 [.agg [I size, v], I pos, I n, B keep] (.tup [.agg [I (cS (allocC (size, l) pos n keep)), R], B (allocC (size, l) pos n keep).isSome]) := by
 refine BPure.cont (by simp [noIdss, noIds, hv.1]) (extent_Allocate_ok ?_)
 unfold zscZ
 simp [oneA_sv hv, rdCells]
 refine bP_pure (zraZ hv (by omega)) ?_
 by_cases h1 : mayC size l
 ·simp [h1]
  refine bP_pure (extent_span_p pos n) ?_
  by_cases h2 : maySp pos n
  ·by_cases h3 : 32768 < n
   ·have hn : allocC (size, l) pos n keep = none := if_neg (fun h => by omega)
    simp [h2, h3, ast]
    exact ContK.none hn
   ·obtain ⟨g1, g2, g3, g4⟩ := h2
    have hw : allocC (size, l) pos n keep = some (if keep then size else max size (pos + n), allocL l pos n) := if_pos ⟨h1, g1, g2, by omega, g4⟩
    simp [show maySp pos n from ⟨g1, g2, g3, g4⟩, h3]
    obtain ⟨r, H2, ⟨w, rfl, a2, a3, a4, a5⟩, a1⟩ := copied_c (size := size) (hv.2 [some (.cells [I size, v]), some (.cells [I 0, nilSl])]) (oneA_sv hv) (by omega)
    refine bC_of a1 ?_
    have c0 := a4.cells (o := 0) (x := some (.cells [I size, v])) rfl
    have c1 := a4.cells (o := 1) (x := some (.cells [I 0, nilSl])) rfl
    have hl2 := a4.1
    simp only [List.length_cons, List.length_nil] at hl2
    have hwo := zrZ a2
    have id0 : ∀ j, j < 2 → j ∉ idS w := fun j hj h => by have := a5 j h; simp at this; omega
    rw [ast_ptr (n := 2) (off := 0) (x := .agg [I size, w]) (xs := [I size, w]) (by simp [hwo]) c0 rfl (by simp)]
    simp [abI_quo (a := pos) (b := 8) (by omega) (by omega) (by omega)]
    have hs0 := okL_srt h1.2.2
    have hN : allocN pos n ≤ 4098 := by unfold allocN; omega
    refine zunZ (fun m x1 x2 x3 x4 x8 x10 H => ∃ (d : Nat) (w : AV), d + m = allocN pos n ∧ x1 = I pos ∧ x2 = I n ∧ x3 = B keep ∧ x4 = .ptr 0 0 ∧ x8 = .ptr 1 0 ∧ x10 = I (pos / 8 + d) ∧ H[0]? = some (some (.cells [I size, w])) ∧ H[1]? = some (some (.cells [I 0, nilSl])) ∧
     zaZ H 9 w = some ((needs l (pos / 8) d).flatMap encE, (needs l (pos / 8) d).length) ∧ ownedS w = true ∧ (∀ j, j < 2 → j ∉ idS w)) ?_ (allocN pos n)
     ⟨0, w, by simp, rfl, rfl, rfl, rfl, rfl, by simp, List.getElem?_set_self (by omega), (List.getElem?_set_ne (by omega)).trans c1, ?_, a2, id0⟩
    ·rintro m x1 x2 x3 x4 x8 x10 H R hR ⟨d, w, hdn, rfl, rfl, rfl, rfl, rfl, rfl, k0, k1, kw, ko, kid⟩
     unfold zjqZ
     have hH0 := (List.getElem?_eq_some_iff.1 k0).1
     have hH1 := (List.getElem?_eq_some_iff.1 k1).1
     simp [abI_add (a := pos) (b := n) (by omega) (by omega), abI_sub (a := pos + n) (b := 1) (by omega) (by omega), abI_quo (a := pos + n - 1) (b := 8) (by omega) (by omega) (by omega)]
     by_cases hd : d < allocN pos n
     ·have hc : pos / 8 + (d : Int) ≤ (pos + n - 1) / 8 := by unfold allocN at hd; omega
      have hws := ns_srt (k := d) hs0 (pos / 8)
      have hlen := ns_len (k := d) (l := l) (no := pos / 8)
      obtain ⟨H11, ⟨w', q1, q2, q3, q4, q5, q6, q7⟩, q8⟩ := extent_need_c' (no := pos / 8 + d) k0 kw ko (kid 0 (by omega)) hws (by omega)
      simp [hc]
      refine bC_of q8 ?_
      have hid' : ∀ i, i < H.length → i ∉ idS w → i ∉ idS w' := fun i h1 h2 h3 => (q7 i h3).elim h2 (fun h => by omega)
      simp [abI_add (a := pos / 8 + d) (b := 1) (by omega) (by omega)]
      refine hR (m - 1) _ _ _ _ _ _ _ (by omega) ⟨d + 1, w', by omega, rfl, rfl, rfl, rfl, rfl, by rw [show pos / 8 + (d : Int) + 1 = pos / 8 + ((d + 1 : Nat) : Int) by omega], q1, ?_, ?_, q3, fun i hi => hid' i (by omega) (kid i hi)⟩
      ·rw [q6 1 hH1 (by omega) (kid 1 (by omega))]; exact k1
      ·rw [ns_succ]; exact q2
     ·have hd' : d = allocN pos n := by omega
      subst hd'
      have hc : ¬ pos / 8 + ((allocN pos n : Nat) : Int) ≤ (pos + n - 1) / 8 := by unfold allocN; omega
      have hko := zrZ ko
      have tail : ∀ s H2, H2.length = H.length → H2[0]? = some (some (.cells [I s, w])) → H2[1]? = some (some (.cells [I 0, nilSl])) → zaZ H2 9 w = some ((allocL l pos n).flatMap encE, (allocL l pos n).length) → allocC (size, l) pos n keep = some (s, allocL l pos n) → zhgZ (.ptr 0 0) (.ptr 1 0) H2 (ContK (allocC (size, l) pos n keep)) := by
       intro s H2 hl2 e0 e1 e2 e3
       rw [zuwZ]
       unfold zowZ
       simp [-zizZ, ald_ptr e0, rdCells]
       rw [ast_ptr (n := 2) (off := 0) (xs := [I s, w]) (cs := [I 0, nilSl]) (by simp [hko]) e1 rfl (by simp)]
       simp [show 1 < H2.length by omega, rdCells]
       exact ContK.some e3 (zbZ e2 fun i hi => by
        have h2 : 2 ≤ i := Nat.le_of_not_lt fun h => kid i h hi
        rw [List.getElem?_set_ne (by omega)])
      simp [hc]
      cases keep with
      | true =>
       simp
       exact tail size H rfl k0 k1 kw hw
      | false =>
       have hmx : max (pos + n) size = max size (pos + n) := by omega
       simp [k0, abI_add (a := pos) (b := n) (by omega) (by omega), hmx]
       rw [ast_ptr (n := 1) (off := 0) (xs := [I (max size (pos + n))]) (cs := [I size, w]) rfl k0 rfl (by simp)]
       simp
       refine tail _ _ (by simp) (List.getElem?_set_self hH0) ((List.getElem?_set_ne (by omega)).trans k1) (zbZ kw fun i hi => by
        have h2 : 2 ≤ i := Nat.le_of_not_lt fun h => kid i h hi
        rw [List.getElem?_set_ne (by omega)]) hw
    ·exact zbZ a3 fun i hi => by
      have h2 : 2 ≤ i := Nat.le_of_not_lt fun h => id0 i h hi
      rw [List.getElem?_set_ne (by omega)]
  ·have hn : allocC (size, l) pos n keep = none := if_neg (fun h => h2 ⟨h.2.1, h.2.2.1, by omega, h.2.2.2.2⟩)
   simp [h2, ast]
   exact ContK.none hn
 ·have hn : allocC (size, l) pos n keep = none := if_neg (fun h => h1 h.1)
  simp [h1, ast]
  exact ContK.none hn
theorem zvuZ {size : Int} {l : List Ext} {v : AV} (hv : SV encE 9 l v) (hl : l.length ≤ 1000000) (pos n : Int) (keep : Bool) :
  ∃ R, SV encE 9 (cL (allocC (size, l) pos n keep)) R ∧ BPure Try.prog 79 [.agg [I size, v], I pos, I n, B keep] (.tup [.agg [I (cS (allocC (size, l) pos n keep)), R], B (allocC (size, l) pos n keep).isSome]) := by
 refine BPure.cont (by simp [noIdss, noIds, hv.1]) (zoaZ ?_)
 unfold zexZ
 simp [oneA_sv hv, rdCells]
 refine bP_pure (zgdZ hv (by omega)) ?_
 by_cases h1 : mayC size l
 ·by_cases h2 : maySp pos n
  ·by_cases h3 : 32768 < n
   ·have hn : allocC (size, l) pos n keep = none := if_neg (fun h => by omega)
    obtain ⟨g1, g2, g3, g4⟩ := h2
    simp [h1, show ¬ pos < 0 by omega, show ¬ n < 1 by omega, h3, ast]
    exact ContK.none hn
   ·obtain ⟨g1, g2, g3, g4⟩ := h2
    have hw : allocC (size, l) pos n keep = some (if keep then size else max size (pos + n), allocL l pos n) := if_pos ⟨h1, g1, g2, by omega, g4⟩
    simp [h1, show ¬ pos < 0 by omega, show ¬ n < 1 by omega, h3, abI_sub (a := 1099511627776) (b := n) (by omega) (by omega), show ¬ 1099511627776 - n < pos by omega]
    obtain ⟨r, H2, ⟨w, rfl, a2, a3, a4, a5⟩, a1⟩ := ref_copyOf_c (size := size) (hv.2 [some (.cells [I size, v]), some (.cells [I 0, nilSl])]) (oneA_sv hv) (by omega)
    refine bC_of a1 ?_
    have c0 := a4.cells (o := 0) (x := some (.cells [I size, v])) rfl
    have c1 := a4.cells (o := 1) (x := some (.cells [I 0, nilSl])) rfl
    have hl2 := a4.1
    simp only [List.length_cons, List.length_nil] at hl2
    have hwo := zrZ a2
    have id0 : ∀ j, j < 2 → j ∉ idS w := fun j hj h => by have := a5 j h; simp at this; omega
    rw [ast_ptr (n := 2) (off := 0) (x := .agg [I size, w]) (xs := [I size, w]) (by simp [hwo]) c0 rfl (by simp)]
    simp [abI_quo (a := pos) (b := 8) (by omega) (by omega) (by omega)]
    have hs0 := okL_srt h1.2.2
    have hN : allocN pos n ≤ 4098 := by unfold allocN; omega
    refine zjjZ (fun m x1 x2 x3 x4 x8 x10 H => ∃ (d : Nat) (w : AV), d + m = allocN pos n ∧ x1 = I pos ∧ x2 = I n ∧ x3 = B keep ∧ x4 = .ptr 0 0 ∧ x8 = .ptr 1 0 ∧ x10 = I (pos / 8 + d) ∧ H[0]? = some (some (.cells [I size, w])) ∧ H[1]? = some (some (.cells [I 0, nilSl])) ∧
     zaZ H 9 w = some ((needs l (pos / 8) d).flatMap encE, (needs l (pos / 8) d).length) ∧ ownedS w = true ∧ (∀ j, j < 2 → j ∉ idS w)) ?_ (allocN pos n)
     ⟨0, w, by simp, rfl, rfl, rfl, rfl, rfl, by simp, List.getElem?_set_self (by omega), (List.getElem?_set_ne (by omega)).trans c1, ?_, a2, id0⟩
    ·rintro m x1 x2 x3 x4 x8 x10 H R hR ⟨d, w, hdn, rfl, rfl, rfl, rfl, rfl, rfl, k0, k1, kw, ko, kid⟩
     unfold zcyZ
     have hH0 := (List.getElem?_eq_some_iff.1 k0).1
     have hH1 := (List.getElem?_eq_some_iff.1 k1).1
     have hub : allocN pos n = ((pos + n - 1) / 8 - pos / 8 + 1).toNat := rfl
     simp [abI_add (a := pos) (b := n) (by omega) (by omega), abI_mul (a := pos / 8 + d) (b := 8) (by omega) (by omega)]
     by_cases hd : d < allocN pos n
     ·have hc : (pos / 8 + (d : Int)) * 8 < pos + n := by unfold allocN at hd; omega
      have hws := ns_srt (k := d) hs0 (pos / 8)
      have hlen := ns_len (k := d) (l := l) (no := pos / 8)
      obtain ⟨H11, ⟨w', q1, q2, q3, q4, q5, q6, q7⟩, q8⟩ := ref_need_c' (no := pos / 8 + d) k0 kw ko (kid 0 (by omega)) hws (by omega)
      simp [hc]
      refine bC_of q8 ?_
      have hid' : ∀ i, i < H.length → i ∉ idS w → i ∉ idS w' := fun i h1 h2 h3 => (q7 i h3).elim h2 (fun h => by omega)
      simp [abI_add (a := pos / 8 + d) (b := 1) (by omega) (by omega)]
      refine hR (m - 1) _ _ _ _ _ _ _ (by omega) ⟨d + 1, w', by omega, rfl, rfl, rfl, rfl, rfl, by rw [show pos / 8 + (d : Int) + 1 = pos / 8 + ((d + 1 : Nat) : Int) by omega], q1, ?_, ?_, q3, fun i hi => hid' i (by omega) (kid i hi)⟩
      ·rw [q6 1 hH1 (by omega) (kid 1 (by omega))]; exact k1
      ·rw [ns_succ]; exact q2
     ·have hd' : d = allocN pos n := by omega
      subst hd'
      have hc : ¬ (pos / 8 + ((allocN pos n : Nat) : Int)) * 8 < pos + n := by unfold allocN; omega
      have hko := zrZ ko
      have tail : ∀ s H2, H2.length = H.length → H2[0]? = some (some (.cells [I s, w])) → H2[1]? = some (some (.cells [I 0, nilSl])) → zaZ H2 9 w = some ((allocL l pos n).flatMap encE, (allocL l pos n).length) → allocC (size, l) pos n keep = some (s, allocL l pos n) → zcaZ (.ptr 0 0) (.ptr 1 0) H2 (ContK (allocC (size, l) pos n keep)) := by
       intro s H2 hl2 e0 e1 e2 e3
       rw [zkyZ]
       unfold zffZ
       simp [-zizZ, ald_ptr e0, rdCells]
       rw [ast_ptr (n := 2) (off := 0) (xs := [I s, w]) (cs := [I 0, nilSl]) (by simp [hko]) e1 rfl (by simp)]
       simp [show 1 < H2.length by omega, rdCells]
       exact ContK.some e3 (zbZ e2 fun i hi => by
        have h2 : 2 ≤ i := Nat.le_of_not_lt fun h => kid i h hi
        rw [List.getElem?_set_ne (by omega)])
      simp [hc]
      cases keep with
      | true =>
       simp
       exact tail size H rfl k0 k1 kw hw
      | false =>
       have hmx : max (pos + n) size = max size (pos + n) := by omega
       simp [k0, abI_add (a := pos) (b := n) (by omega) (by omega), hmx]
       rw [ast_ptr (n := 1) (off := 0) (xs := [I (max size (pos + n))]) (cs := [I size, w]) rfl k0 rfl (by simp)]
       simp
       refine tail _ _ (by simp) (List.getElem?_set_self hH0) ((List.getElem?_set_ne (by omega)).trans k1) (zbZ kw fun i hi => by
        have h2 : 2 ≤ i := Nat.le_of_not_lt fun h => kid i h hi
        rw [List.getElem?_set_ne (by omega)]) hw
    ·exact zbZ a3 fun i hi => by
      have h2 : 2 ≤ i := Nat.le_of_not_lt fun h => id0 i h hi
      rw [List.getElem?_set_ne (by omega)]
  ·have hn : allocC (size, l) pos n keep = none := if_neg (fun h => h2 ⟨h.2.1, h.2.2.1, by omega, h.2.2.2.2⟩)
   by_cases g1 : pos < 0
   ·simp [h1, g1, ast]
    exact ContK.none hn
   ·by_cases g2 : n < 1
    ·simp [h1, g1, g2, ast]
     exact ContK.none hn
    ·by_cases g3 : 32768 < n
     ·simp [h1, g1, g2, g3, ast]
      exact ContK.none hn
     ·have g4 : 1099511627776 - n < pos := Int.lt_of_not_ge fun h => h2 ⟨by omega, by omega, by omega, h⟩
      simp [h1, g1, g2, g3, abI_sub (a := 1099511627776) (b := n) (by omega) (by omega), g4, ast]
      exact ContK.none hn
 ·have hn : allocC (size, l) pos n keep = none := if_neg (fun h => h1 h.1)
  simp [h1, ast]
  exact ContK.none hn
end Go.Proofs.Ytpnfdibgfichmaa.Av
end
/-! YtpnfdibgfichmaaAvExtF -/
section
/- Chapter 11: another size, and holes. -/
set_option linter.unusedVariables false
set_option linter.unusedSimpArgs false
set_option maxRecDepth 100000
namespace Go.Proofs.Ytpnfdibgfichmaa.Av
open Go Go.RowKit

theorem FZ.fn {X : AH} {k : Fn} {a b a' b' : List AV} (ha : FZs X a a') (hb : FZs X b b') : FZ X (.fn k a b) (.fn k a' b') := by
 obtain ⟨n0, h0⟩ := ha
 obtain ⟨n1, h1⟩ := hb
 refine ⟨n0 + n1 + 1, fun n hn => ?_⟩
 cases n with
 | zero => omega
 | succ n => simp only [frz, h0 n (by omega), h1 n (by omega)]
theorem FZs.same {X : AH} {vs : List AV} (h : noIdss vs = true) : FZs X vs vs := zlzZ X vs h
theorem FZ.ptr {X : AH} {o off : Nat} {cs Rs : List AV} (ho : X[o]? = some (some (.cells cs))) (h : FZs X (cs.drop off) Rs) : FZ X (.ptr o off) (.ip Rs) := by
 obtain ⟨n0, h0⟩ := h
 refine ⟨n0 + 1, fun n hn => ?_⟩
 cases n with
 | zero => omega
 | succ n => simp only [frz, ho, h0 n (by omega)]; rfl
theorem sl_put {α : Type} {enc : α → List AV} {sz : Nat} (hsz : ∀ x, (enc x).length = sz) (h0 : 0 < sz) {H : AH} {w x : AV} {l : List α} {y : α} {i : Nat} {a : Int} (hw : zaZ H sz w = some (l.flatMap enc, l.length)) (ho : ownedS w = true) (hi : i < l.length) (ha : a = i) (hx : cellsA x = some (enc y)) :
  ∃ p H', aixS sz w (I a) = some p ∧ ast sz H p x = some H' ∧ H'.length = H.length ∧ (∀ j, j ∉ idS w → H'[j]? = H[j]?) ∧ zaZ H' sz w = some ((l.set i y).flatMap enc, l.length) := by
 subst ha
 obtain ⟨o, off, cap, cells, rfl, h1, h2, h3⟩ := owned_sl hw ho (by omega)
 have hol := (List.getElem?_eq_some_iff.1 h1).1
 have hmul : i * sz + sz ≤ l.length * sz := by rw [← Nat.succ_mul]; exact Nat.mul_le_mul_right _ hi
 have hy := hsz y
 have hl := List.getElem?_eq_getElem hi
 have hll := hsz (l[i])
 refine ⟨.ptr o (off + i * sz), H.set o (some (.cells (over cells (off + (i * sz + 0)) (enc y)))), ?_, ?_, by simp, fun j hj => List.getElem?_set_ne (by simp [idS] at hj; omega), ?_⟩
 ·simp only [aixS, aint]
  rw [if_pos ⟨by omega, by omega⟩]; simp
 ·rw [ast_ptr (n := sz) (off := off + i * sz) (xs := enc y) hx h1 hy (by omega), zqpZ _ _ _ (by omega)]; rfl
 ·rw [zxZ (c := over cells (off + (i * sz + 0)) (enc y)) (by simp [hol]) (by rw [over_len (by omega)]; exact h2)]
  rw [over_part h2 (by omega), ← h3, over_flat (q := 0) hsz hl (by unfold over; rw [List.take_zero, List.nil_append, List.drop_of_length_le (by omega), List.append_nil]) (by omega)]

/-! which blocks go -/
def firstI (p : Ext → Bool) (l : List Ext) : Int := match l.findIdx? p with
 | some i => i
 | none => -1
def DelP (k : FuncId) (oc : Nat) (c : List AV) (l : List Ext) (p : Ext → Bool) : Prop :=
 goFunc Try.prog k = true ∧ noIdss c = true ∧ ∀ x ∈ l, ∀ (H : AH) (a : AV), (a = .ip c ∨ (a = .ptr oc 0 ∧ H[oc]? = some (some (.cells c)))) → ∃ H', Grew H H' ∧ BCall Try.prog k [.agg (encE x), a] H (B (p x)) H'
theorem ext_IndexFunc_p {k : FuncId} {oc : Nat} {c : List AV} {l : List Ext} {p : Ext → Bool} {R : AV} (hR : SV encE 9 l R) (hl : l.length ≤ 281474976710656) (hd : DelP k oc c l p) :
  BPure Try.prog 107 [R, .fn (.func k) [] [.ip c]] (I (firstI p l)) := BPure.val (by simp [noIdss, noIds, hR.1, hd.2.1]) rfl (zjeZ (by
 unfold zcuZ
 simp [hR.len]
 refine zhbZ (fun n x0 x1 x7 x8 H => ∃ j : Nat, j + n = l.length ∧ x0 = R ∧ x1 = .fn (.func k) [] [.ip c] ∧ x7 = I l.length ∧ x8 = I j ∧ ∀ m x, m < j → l[m]? = some x → p x = false) ?_ l.length ⟨0, by simp, rfl, rfl, rfl, rfl, by simp⟩
 rintro n x0 x1 x7 x8 H R' hR' ⟨j, hj, rfl, rfl, rfl, rfl, hm⟩
 unfold zbzZ
 rcases Nat.lt_or_ge j l.length with hlt | hge
 ·have hx := List.getElem?_eq_getElem hlt
  generalize l[j] = y at hx
  obtain ⟨H', g, hc⟩ := hd.2.2 y (List.mem_of_getElem? hx) H (.ip c) (.inl rfl)
  simp [hlt, hR.idx zzZ hx rfl, hd.1]
  refine bC_of hc ?_
  cases hp : p y with
  | true =>
   have : l.findIdx? p = some j := by
    rw [List.findIdx?_eq_some_iff_getElem]
    obtain ⟨h1, h2⟩ := List.getElem?_eq_some_iff.1 hx
    refine ⟨h1, by rw [h2]; exact hp, fun i hi => ?_⟩
    have := hm i _ hi (List.getElem?_eq_getElem (by omega))
    simp [this]
   simp [firstI, this]
  | false =>
   simp [abI_add (a := j) (b := 1) (by omega) (by omega)]
   refine hR' (n - 1) _ _ _ _ _ (by omega) ⟨j + 1, by omega, rfl, rfl, rfl, rfl, fun m x hmj hx2 => ?_⟩
   by_cases h : m = j
   ·subst h; rw [hx] at hx2; injection hx2 with hx2; rw [← hx2]; exact hp
   ·exact hm m x (by omega) hx2
 ·have : l.findIdx? p = none := by
   rw [List.findIdx?_eq_none_iff]
   intro x hx
   obtain ⟨m, hmx⟩ := List.mem_iff_getElem?.1 hx
   exact hm m x (by have := (List.getElem?_eq_some_iff.1 hmx).1; omega) hmx
  have hjl : ¬ j < l.length := by omega
  simp [hjl, firstI, this]))
theorem filter_none {p : Ext → Bool} {l : List Ext} (h : ∀ x ∈ l, p x = false) : l.filter (fun x => !p x) = l := List.filter_eq_self.2 fun x hx => by simp [h x hx]
theorem zveZ {H : AH} {v : AV} {l : List Ext} {k : FuncId} {oc : Nat} {c : List AV} {p : Ext → Bool} (hv : zaZ H 9 v = some (l.flatMap encE, l.length)) (ho : ownedS v = true) (hl : l.length ≤ 1000000) (hc : H[oc]? = some (some (.cells c))) (hne : oc ∉ idS v) (hd : DelP k oc c l p) :
  ∃ r H', (ownedS r = true ∧ zaZ H' 9 r = some ((l.filter fun x => !p x).flatMap encE, (l.filter fun x => !p x).length) ∧ H.length ≤ H'.length ∧ (∀ i, i < H.length → i ∉ idS v → H'[i]? = H[i]?) ∧ ∀ i ∈ idS r, i ∈ idS v) ∧
   BCall Try.prog 93 [v, .fn (.func k) [] [.ptr oc 0]] H r H' := zioZ (by
 unfold zcmZ
 obtain ⟨R, hR, fR⟩ := FZ.sv hv (noIdss_exts l)
 have fc : FZ H (.fn (.func k) [] [.ptr oc 0]) (.fn (.func k) [] [.ip c]) := FZ.fn FZs.nil (FZs.cons (FZ.ptr hc (FZs.same hd.2.1)) FZs.nil)
 refine bP_of (PCall.lend (FZs.cons fR (FZs.cons fc FZs.nil)) rfl (ext_IndexFunc_p hR (by omega) hd)) ?_
 cases hf : l.findIdx? p with
 | none =>
  rw [List.findIdx?_eq_none_iff] at hf
  simp [firstI, List.findIdx?_eq_none_iff.2 hf]
  rw [filter_none hf]
  exact ⟨ho, hv⟩
 | some i0 =>
  obtain ⟨h1, h2, h3⟩ := List.findIdx?_eq_some_iff_getElem.1 hf
  have hoc := (List.getElem?_eq_some_iff.1 hc).1
  simp [firstI, hf, show ¬ (i0 : Int) = -1 by omega, abI_add (a := i0) (b := 1) (by omega) (by omega)]
  have ht : (l.take (i0 + 1)).filter (fun x => !p x) = l.take i0 := by
   rw [List.take_add_one, List.filter_append, List.getElem?_eq_getElem h1]
   simp [h2]
   intro x hx
   obtain ⟨m, hm⟩ := List.mem_iff_getElem?.1 hx
   have hml := (List.getElem?_eq_some_iff.1 hm).1
   rw [List.length_take] at hml
   rw [List.getElem?_take, if_pos (by omega)] at hm
   have := h3 m (by omega)
   obtain ⟨q1, q2⟩ := List.getElem?_eq_some_iff.1 hm
   rw [q2] at this
   simpa using this
  refine zgtZ (fun n x0 x1 x5 x6 H' => ∃ (i j : Nat) (M : List Ext), j + n = l.length ∧ i < j ∧ x0 = v ∧ x1 = .fn (.func k) [] [.ptr oc 0] ∧ x5 = I i ∧ x6 = I j ∧ M.length = l.length ∧ M.take i = (l.take j).filter (fun x => !p x) ∧ M.drop j = l.drop j ∧
   zaZ H' 9 v = some (M.flatMap encE, M.length) ∧ H'[oc]? = some (some (.cells c)) ∧ H.length ≤ H'.length ∧ ∀ i, i < H.length → i ∉ idS v → H'[i]? = H[i]?) ?_ (l.length - (i0 + 1))
   ⟨i0, i0 + 1, l, by omega, by omega, rfl, rfl, rfl, rfl, rfl, ht.symm, rfl, hv, hc, Nat.le_refl _, fun _ _ _ => rfl⟩
  rintro n x0 x1 x5 x6 H' R' hR' ⟨i, j, M, hj, hij, rfl, rfl, rfl, rfl, hM, hMt, hMd, hw, hc', hle, hk⟩
  unfold zbuZ
  rcases Nat.lt_or_ge j l.length with hlt | hge
  ·have hx := List.getElem?_eq_getElem hlt
   generalize l[j] = y at hx
   have hMx : M[j]? = some y := by
    have := congrArg (fun q => q[0]?) hMd
    simp only [List.getElem?_drop, Nat.add_zero] at this
    rw [this]; exact hx
   obtain ⟨q, -, e1, -, -, e2⟩ := sl_no (a := j) hw hMx rfl
   have hoc' := (List.getElem?_eq_some_iff.1 hc').1
   have gA := Grew.app H' [some (.cells (encE y))]
   obtain ⟨H10, g, hcl⟩ := hd.2.2 y (List.mem_of_getElem? hx) (H' ++ [some (.cells (encE y))]) (.ptr oc 0) (.inr ⟨rfl, gA.cells hc'⟩)
   have gB := gA.trans g
   have z := g.cells (o := H'.length) (x := some (.cells (encE y))) (by simp)
   simp [zosZ hw, hM, hlt, e1, e2, hd.1, -zizZ]
   rw [ast_e (by simp) (by rfl)]
   simp
   refine bC_of hcl ?_
   have hdrop : M.drop (j + 1) = l.drop (j + 1) := by
    have := congrArg (List.drop 1) hMd
    rw [List.drop_drop, List.drop_drop] at this
    exact this
   have hkeepB : ∀ i, i < H.length → i ∉ idS x0 → H10[i]? = H[i]? := fun i h1 h2 => by rw [gB.2 i (by omega), hk i h1 h2]
   cases hp : p y with
   | true =>
    simp
    rw [zczZ]
    unfold zbsZ
    simp [abI_add (a := j) (b := 1) (by omega) (by omega)]
    refine hR' (n - 1) _ _ _ _ _ (by omega) ⟨i, j + 1, M, by omega, by omega, rfl, rfl, rfl, rfl, hM, ?_, hdrop, gB.slice hw, gB.cells hc', by have := gB.1; omega, hkeepB⟩
    rw [List.take_add_one, List.filter_append, ← hMt, hx]
    simp [hp]
   | false =>
    obtain ⟨q2, H16, f1, f2, f3, f4, f5⟩ := sl_put (x := .agg (encE y)) (y := y) (i := i) (a := i) zzZ (by omega) (gB.slice hw) ho (by omega) rfl (by simp)
    simp [z, f1, f2, abI_add (a := i) (b := 1) (by omega) (by omega)]
    rw [zczZ]
    unfold zbsZ
    simp [abI_add (a := j) (b := 1) (by omega) (by omega)]
    refine hR' (n - 1) _ _ _ _ _ (by omega) ⟨i + 1, j + 1, M.set i y, by omega, by omega, rfl, rfl, rfl, rfl, by simpa using hM, ?_, ?_, by simpa using f5, ?_, by have := gB.1; omega, fun i h1 h2 => by rw [f4 i h2]; exact hkeepB i h1 h2⟩
    ·rw [List.take_add_one (l := l), List.filter_append, ← hMt, hx, List.take_add_one, List.getElem?_set_self (by omega), List.take_set_of_le (Nat.le_refl _)]
     simp [hp]
    ·rw [List.drop_set_of_lt (by omega)]; exact hdrop
    ·rw [f4 oc hne]; exact gB.cells hc'
  ·have hjl : j = l.length := by omega
   subst hjl
   rw [List.take_length] at hMt
   have hil : i ≤ M.length := by omega
   have hfl : (l.filter fun x => !p x).length = i := by rw [← hMt, List.length_take]; omega
   obtain ⟨o, off, cap, cells, rfl, w1, w2, w3⟩ := owned_sl hw ho (by omega)
   have hol := (List.getElem?_eq_some_iff.1 w1).1
   have hmul : i * 9 ≤ M.length * 9 := Nat.mul_le_mul_right _ hil
   have hmul2 : i * 9 + (M.length - i) * 9 = M.length * 9 := by rw [← Nat.add_mul]; congr 1; omega
   have hz : (zrow (encE (newE 0)) (M.length - i)).length = (M.length - i) * 9 := by rw [zieZ]; rfl
   have e3 : aslS 9 (.sl o off M.length 9 cap) (some (I i)) none none = some (.sl o (off + i * 9) (M.length - i) 9 (cap.cut M.length i)) := by
    simp [aslS, abnd]; omega
   have e4 : aslS 9 (.sl o off M.length 9 cap) none (some (I i)) none = some (.sl o off i 9 (cap.cut M.length 0)) := by
    simp [aslS, abnd]; omega
   have e5 : acl (encE (newE 0)) H' (.sl o (off + i * 9) (M.length - i) 9 (cap.cut M.length i)) = some (H'.set o (some (.cells (over cells (off + i * 9) (zrow (encE (newE 0)) (M.length - i)))))) := by
    simp only [acl, w1]
    rw [if_pos ⟨rfl, by omega, by omega⟩, if_neg (by omega), zqpZ _ _ _ (by rw [hz]; omega)]
    rfl
   rw [← encE_new]
   have hnl : ¬ (l.length : Int) < M.length := by omega
   simp only [alnS_sl, bO_some, abI_lss, hnl, decide_false, bB_bool, zdlZ, e3, e5, bS_some, e4]
   refine ⟨rfl, ?_, by simpa using hle, fun a h1 h2 => ?_, by simp [idS]⟩
   ·have hov : (over cells (off + i * 9) (zrow (encE (newE 0)) (M.length - i))).length = cells.length := over_len (by rw [hz]; omega)
    rw [hfl, zxZ (c := over cells (off + i * 9) (zrow (encE (newE 0)) (M.length - i))) (by simp [hol]) (by rw [hov]; omega)]
    congr 2
    rw [← hMt, ← zsvZ zzZ, w3, List.take_take, Nat.min_eq_left hmul]
    refine List.ext_getElem? fun q => ?_
    rw [List.getElem?_take, List.getElem?_take]
    split
    ·rw [List.getElem?_drop, List.getElem?_drop, over_get (by rw [hz]; omega), if_neg (by omega)]
    ·rfl
   ·rw [List.getElem?_set_ne (by simp [idS] at h2; omega)]
    exact hk a h1 h2)

/-! bytes of a block that are taken -/
theorem over_same {cs xs : List AV} {k : Nat} (h : (cs.drop k).take xs.length = xs) (hl : k + xs.length ≤ cs.length) : over cs k xs = cs := by
 refine List.ext_getElem? fun i => ?_
 rw [over_get hl]
 split
 ·rename_i c
  rw [← h, List.getElem?_take, if_pos (by omega), List.getElem?_drop, show k + (i - k) = i by omega]
 ·rfl
theorem encE_get (x : Ext) {j : Nat} (hj : j < 8) : (encE x)[j + 1]? = some (.lit (.int .u8 (x.b.getD j 0).toNat)) := by
 have hb := x.hb
 unfold encE
 rw [List.getElem?_cons_succ, encB_get, List.getD_eq_getElem?_getD, List.getElem?_eq_getElem (by omega)]
 rfl
theorem wipe_step {x : Ext} {a : Int} {i j : Nat} (hj : (j : Int) = a - x.no * 8 + i) (hj8 : j < 8) : (encE (wipeE x a (a + i))).set (1 + j) (.lit (.int .u8 0)) = encE (wipeE x a (a + (i + 1 : Nat))) := by
 refine List.ext_getElem? fun q => ?_
 rw [List.getElem?_set]
 cases q with
 | zero => rw [if_neg (by omega)]; rfl
 | succ q =>
  by_cases hq : q < 8
  ·rw [encE_get _ hq, encE_get _ hq, zhdZ hq, zhdZ hq, zzZ]
   by_cases c : 1 + j = q + 1
   ·rw [if_pos c, if_pos (by omega), if_pos (by omega)]; rfl
   ·rw [if_neg c]
    by_cases c2 : a ≤ x.no * 8 + (q : Int) ∧ x.no * 8 + (q : Int) < a + i
    ·rw [if_pos c2, if_pos (by omega)]
    ·rw [if_neg c2, if_neg (by omega)]
  ·rw [List.getElem?_eq_none (by rw [zzZ]; omega), List.getElem?_eq_none (by rw [zzZ]; omega), zzZ]
   rw [if_neg (by omega)]
theorem wipe_c {H : AH} {o q : Nat} {cells : List AV} {x : Ext} {s : Sp} (hc : H[o]? = some (some (.cells cells))) (hx : (cells.drop q).take 9 = encE x) (hq : q + 9 ≤ cells.length) (hs : MaySpan s) (h0 : 0 ≤ x.no) (h1 : x.no < 137438953472) :
  ∃ H', (H'[o]? = some (some (.cells (over cells q (encE (wipeE x s.pos (s.pos + s.len)))))) ∧ H.length ≤ H'.length ∧ ∀ i, i < H.length → i ≠ o → H'[i]? = H[i]?) ∧ BCall Try.prog 95 [.ptr o q, .agg (encSp s)] H (.tup []) H' := by
 have key : ∃ r H', (r = .tup [] ∧ (H'[o]? = some (some (.cells (over cells q (encE (wipeE x s.pos (s.pos + s.len)))))) ∧ H.length ≤ H'.length ∧ ∀ i, i < H.length → i ≠ o → H'[i]? = H[i]?)) ∧ BCall Try.prog 95 [.ptr o q, .agg (encSp s)] H r H' := extent_wipe_ok (by
  unfold extent_wipe
  have ho := (List.getElem?_eq_some_iff.1 hc).1
  have hno : cells[q]? = some (I x.no) := by
   have := congrArg (fun l => l[0]?) hx
   simp only [List.getElem?_take, List.getElem?_drop, Nat.add_zero] at this
   simpa [encE] using this
  have g1 := Grew.app H [some (.cells (encSp s))]
  have c1 := g1.cells hc
  have c1' : H[o]? = some (some (.cells cells)) := hc
  obtain ⟨p, n⟩ := s
  simp only [encSp] at c1 g1 ⊢
  simp [List.getElem?_append_left ho, hc, hno, rdCells]
  refine bP_of (extent_whole_p x.no h0 h1) ?_
  refine bP_of (off_Meet_p ⟨x.no * 8, 8⟩ ⟨p, n⟩) ?_
  have hwm : MaySpan ⟨x.no * 8, 8⟩ := by simp only [MaySpan, May]; omega
  have hm : meet ⟨x.no * 8, 8⟩ ⟨p, n⟩ = if max (x.no * 8) p < min (x.no * 8 + 8) (p + n) then ⟨max (x.no * 8) p, min (x.no * 8 + 8) (p + n) - max (x.no * 8) p⟩ else ⟨0, 0⟩ := by
   unfold meet
   simp only
   by_cases c : max (x.no * 8) p < min (x.no * 8 + 8) (p + n)
   ·rw [if_pos ⟨hwm, hs, c⟩, if_pos c]
   ·rw [if_neg (fun h => c h.2.2), if_neg c]
  -- what is wiped
  have hres : ∀ m : Nat, (m : Int) = (meet ⟨x.no * 8, 8⟩ ⟨p, n⟩).len → wipeE x (meet ⟨x.no * 8, 8⟩ ⟨p, n⟩).pos ((meet ⟨x.no * 8, 8⟩ ⟨p, n⟩).pos + m) = wipeE x p (p + n) := by
   intro m he
   refine ext_eq rfl fun k hk => ?_
   rw [zhdZ hk, zhdZ hk]
   rw [hm] at he ⊢
   by_cases c : max (x.no * 8) p < min (x.no * 8 + 8) (p + n)
   ·rw [if_pos c] at he ⊢
    simp only at he ⊢
    by_cases c2 : p ≤ x.no * 8 + (k : Int) ∧ x.no * 8 + (k : Int) < p + n
    ·rw [if_pos c2, if_pos (by omega)]
    ·rw [if_neg c2, if_neg (by omega)]
   ·rw [if_neg c] at he ⊢
    simp only at he ⊢
    rw [if_neg (by omega), if_neg (by omega)]
  have hml : ∃ m : Nat, (m : Int) = (meet ⟨x.no * 8, 8⟩ ⟨p, n⟩).len ∧ (0 < m → x.no * 8 ≤ (meet ⟨x.no * 8, 8⟩ ⟨p, n⟩).pos ∧ (meet ⟨x.no * 8, 8⟩ ⟨p, n⟩).pos + m ≤ x.no * 8 + 8) := by
   rw [hm]
   split
   ·exact ⟨(min (x.no * 8 + 8) (p + n) - max (x.no * 8) p).toNat, by simp only; omega, fun _ => by simp only; omega⟩
   ·exact ⟨0, rfl, fun h => by omega⟩
  obtain ⟨m, hmm, hmb⟩ := hml
  have hres := hres m hmm
  generalize meet ⟨x.no * 8, 8⟩ ⟨p, n⟩ = M at hmm hmb hres
  obtain ⟨a, ml⟩ := M
  simp only at hmm hmb hres
  subst hmm
  have hxl := zzZ x
  simp [encSp, List.getElem?_append_left ho, hc, hno, ast]
  have hz0 : wipeE x a (a + (0 : Nat)) = x := ext_eq rfl fun k hk => by rw [zhdZ hk, if_neg (by omega)]
  refine extent_wipe_L3_rule (fun t x0 x4 x14 x15 H' => ∃ i : Nat, i + t = m ∧ x0 = .ptr o q ∧ x4 = .ptr (H.length + 1) 0 ∧ x14 = I m ∧ x15 = I i ∧ H'[o]? = some (some (.cells (over cells q (encE (wipeE x a (a + i)))))) ∧ H'[H.length + 1]? = some (some (.cells [I a, I m])) ∧ H.length ≤ H'.length ∧ ∀ i, i < H.length → i ≠ o → H'[i]? = H[i]?) ?_ m
   ⟨0, by omega, rfl, rfl, rfl, rfl, ?_, ?_, by simp, fun i hi _ => List.getElem?_append_left hi⟩
  ·rintro t x0 x4 x14 x15 H' R hR ⟨i, hi, rfl, rfl, rfl, rfl, d0, d1, d2, d3⟩
   unfold zqzZ
   by_cases hlt : i < m
   ·obtain ⟨b1, b2⟩ := hmb (by omega)
    obtain ⟨j, hj⟩ : ∃ j : Nat, (j : Int) = a - x.no * 8 + i := ⟨(a - x.no * 8 + i).toNat, by omega⟩
    have ho' := (List.getElem?_eq_some_iff.1 d0).1
    have hwl := zzZ (wipeE x a (a + i))
    have hno' : (over cells q (encE (wipeE x a (a + i))))[q]? = some (I x.no) := by
     rw [over_get (by omega), if_pos (by omega), Nat.sub_self]; rfl
    simp [hlt, d1, d0, hno', abI_mul (a := x.no) (b := 8) (by omega) (by omega), abI_sub (a := a) (b := x.no * 8) (by omega) (by omega), abI_add (a := a - x.no * 8) (b := i) (by omega) (by omega), ← hj]
    have e1 : aixA 8 1 (.ptr o (q + 1)) (I j) = some (.ptr o (q + 1 + j)) := by
     simp [aixA, aint]; omega
    rw [e1]
    simp only [bO_some]
    rw [ast_ptr (n := 1) (off := q + 1 + j) (xs := [.lit (.int .u8 0)]) rfl d0 rfl (by rw [over_len (by omega)]; omega)]
    simp [abI_add (a := i) (b := 1) (by omega) (by omega)]
    refine hR (t - 1) _ _ _ _ _ (by omega) ⟨i + 1, by omega, rfl, rfl, rfl, rfl, ?_, ?_, by simpa using d2, fun y h1 h2 => ?_⟩
    ·rw [List.getElem?_set_self ho', ← wipe_step hj (by omega)]
     congr 3
     refine List.ext_getElem? fun y => ?_
     rw [List.getElem?_set, over_len (by omega), over_get (by omega), over_get (by simp; omega), List.getElem?_set, List.length_set]
     by_cases c : q + 1 + j = y
     ·subst c
      rw [if_pos rfl, if_pos (by omega), if_pos (by omega), if_pos (by omega), if_pos (by omega)]
     ·rw [if_neg c]
      split
      ·rw [if_neg (by omega)]
      ·rfl
    ·rw [List.getElem?_set_ne (by omega)]; exact d1
    ·rw [List.getElem?_set_ne (by omega)]; exact d3 y h1 h2
   ·have : i = m := by omega
    subst this
    simp [hlt]
    rw [hres] at d0
    exact ⟨d0, d2, d3⟩
  ·rw [List.getElem?_append_left ho, hz0, over_same (by rw [hxl]; exact hx) (by omega)]
   exact hc
  ·rw [List.getElem?_append_right (by omega)]; simp)
 obtain ⟨r, H', ⟨rfl, h1⟩, h2⟩ := key
 exact ⟨H', h1, h2⟩
end Go.Proofs.Ytpnfdibgfichmaa.Av
end
/-! YtpnfdibgfichmaaAvExtG -/
section
/- Chapter 11: Truncate and Punch. -/
set_option linter.unusedVariables false
set_option linter.unusedSimpArgs false
set_option maxRecDepth 100000
namespace Go.Proofs.Ytpnfdibgfichmaa.Av
open Go Go.RowKit
theorem sl_wipe {H : AH} {w : AV} {l : List Ext} {i : Nat} {a : Int} {x : Ext} {s : Sp} (hw : zaZ H 9 w = some (l.flatMap encE, l.length)) (ho : ownedS w = true) (hx : l[i]? = some x) (ha : a = i) (hs : MaySpan s) (h0 : 0 ≤ x.no) (h1 : x.no < 137438953472) :
  ∃ p H', aixS 9 w (I a) = some p ∧ BCall Try.prog 95 [p, .agg (encSp s)] H (.tup []) H' ∧ H.length ≤ H'.length ∧ (∀ j, j < H.length → j ∉ idS w → H'[j]? = H[j]?) ∧ zaZ H' 9 w = some ((l.set i (wipeE x s.pos (s.pos + s.len))).flatMap encE, l.length) := by
 subst ha
 have hi := (List.getElem?_eq_some_iff.1 hx).1
 obtain ⟨o, off, cap, cells, rfl, h2, h3, h4⟩ := owned_sl hw ho (by omega)
 have hol := (List.getElem?_eq_some_iff.1 h2).1
 have hmul : i * 9 + 9 ≤ l.length * 9 := by rw [← Nat.succ_mul]; exact Nat.mul_le_mul_right _ hi
 have hxl := zzZ x
 have hwl := zzZ (wipeE x s.pos (s.pos + s.len))
 have hpart : (cells.drop (off + i * 9)).take 9 = encE x := by
  have e : ((l.flatMap encE).drop (i * 9)).take 9 = encE x := by
   rw [zolZ zzZ hx, List.take_append_of_le_length (by omega), List.take_of_length_le (by omega)]
  rw [h4, List.drop_take, List.drop_drop, List.take_take, Nat.min_eq_left (by omega)] at e
  exact e
 obtain ⟨H', ⟨k1, k2, k3⟩, k4⟩ := wipe_c (q := off + i * 9) h2 hpart (by omega) hs h0 h1
 refine ⟨.ptr o (off + i * 9), H', ?_, k4, k2, fun j h5 h6 => k3 j h5 (by simp [idS] at h6; omega), ?_⟩
 ·simp only [aixS, aint]
  rw [if_pos ⟨by omega, by omega⟩]; simp
 ·rw [zxZ k1 (by rw [over_len (by omega)]; exact h3)]
  rw [show off + i * 9 = off + (i * 9 + 0) by omega, over_part h3 (by omega), ← h4, over_flat (q := 0) zzZ hx (by unfold over; rw [List.take_zero, List.nil_append, List.drop_of_length_le (by omega), List.append_nil]) (by omega)]
theorem map_set {f : Ext → Ext} {l : List Ext} {i : Nat} {x : Ext} (hx : l[i]? = some x) : ((l.take i).map f ++ l.drop i).set i (f x) = (l.take (i + 1)).map f ++ l.drop (i + 1) := by
 have hi := (List.getElem?_eq_some_iff.1 hx).1
 rw [drop_cons hx, List.set_append_right _ _ (by rw [List.length_map, List.length_take]; omega), List.take_add_one, hx]
 simp [show i - min i l.length = 0 by omega]
theorem map_get {f : Ext → Ext} {l : List Ext} {i : Nat} {x : Ext} (hx : l[i]? = some x) : ((l.take i).map f ++ l.drop i)[i]? = some x := by
 have hi := (List.getElem?_eq_some_iff.1 hx).1
 rw [List.getElem?_append_right (by rw [List.length_map, List.length_take]; omega), List.getElem?_drop]
 simp only [List.length_map, List.length_take]
 rw [show i + (i - min i l.length) = i by omega]; exact hx
theorem map_len {f : Ext → Ext} {l : List Ext} {i : Nat} : ((l.take i).map f ++ l.drop i).length = l.length := by
 simp; omega
theorem trunc_del (size : Int) (l : List Ext) (h : ∀ x ∈ l, -1 ≤ x.no ∧ x.no < 137438953472) : DelP 94 1 [I size] l (fun x => decide (size ≤ x.no * 8)) := by
 refine ⟨by kernel_rfl, rfl, fun x hx H a ha => ?_⟩
 obtain ⟨h1, h2⟩ := h x hx
 have key : ∃ r H', (r = B (decide (size ≤ x.no * 8)) ∧ Grew H H') ∧ BCall Try.prog 94 [.agg (encE x), a] H r H' := extent_Truncate_1_ok (by
  unfold zotZ
  have g := Grew.app H [some (.cells (encE x))]
  rcases ha with rfl | ⟨rfl, hc⟩
  ·simp [abI_mul (a := x.no) (b := 8) (by omega) (by omega)]
   exact g
  ·have h1' := (List.getElem?_eq_some_iff.1 hc).1
   have hc' := g.cells hc
   simp [abI_mul (a := x.no) (b := 8) (by omega) (by omega), hc']
   exact g)
 obtain ⟨r, H', ⟨rfl, g⟩, hc⟩ := key
 exact ⟨H', g, hc⟩
theorem punch_del (oc : Nat) (s : Sp) (l : List Ext) (h : ∀ x ∈ l, 0 ≤ x.no ∧ x.no < 137438953472) : DelP 97 oc (encSp s) l (fun x => decide (Within ⟨x.no * 8, 8⟩ s)) := by
 refine ⟨by kernel_rfl, rfl, fun x hx H a ha => ?_⟩
 obtain ⟨h1, h2⟩ := h x hx
 have key : ∃ r H', (r = B (decide (Within ⟨x.no * 8, 8⟩ s)) ∧ Grew H H') ∧ BCall Try.prog 97 [.agg (encE x), a] H r H' := extent_Punch_1_ok (by
  unfold zumZ
  have g := Grew.app H [some (.cells (encE x))]
  simp
  refine bP_of (extent_whole_p x.no h1 h2) ?_
  have ha' : ald true 2 (H ++ [some (.cells (encE x))]) a = some (.agg (encSp s)) := by
   rcases ha with rfl | ⟨rfl, hc⟩
   ·rfl
   ·rw [ald_ptr (g.cells hc)]; rfl
  rw [ha']
  simp
  refine bP_of (off_Within_p ⟨x.no * 8, 8⟩ s) ?_
  exact ⟨rfl, g⟩)
 obtain ⟨r, H', ⟨rfl, g⟩, hc⟩ := key
 exact ⟨H', g, hc⟩
theorem extent_Truncate_p {size0 : Int} {l : List Ext} {v : AV} (hv : SV encE 9 l v) (hl : l.length ≤ 1000000) (size : Int) :
  ∃ R, SV encE 9 (cL (truncC (size0, l) size)) R ∧ BPure Try.prog 72 [.agg [I size0, v], I size] (.tup [.agg [I (cS (truncC (size0, l) size)), R], B (truncC (size0, l) size).isSome]) := by
 refine BPure.cont (by simp [noIdss, noIds, hv.1]) (extent_Truncate_ok ?_)
 unfold zsgZ
 simp [oneA_sv hv, rdCells, anew_lit]
 refine bP_pure (zraZ hv (by omega)) ?_
 by_cases h1 : mayC size0 l
 ·by_cases h2 : size < 0
  ·have hn : truncC (size0, l) size = none := if_neg (fun h => by omega)
   simp [h1, h2, ast]
   exact ContK.none hn
  ·by_cases h3 : 1099511627776 < size
   ·have hn : truncC (size0, l) size = none := if_neg (fun h => by omega)
    simp [h1, h2, h3, ast]
    exact ContK.none hn
   ·have hw : truncC (size0, l) size = some (size, truncL l size) := if_pos ⟨h1, by omega, by omega⟩
    simp [h1, h2, h3]
    obtain ⟨r, H2, ⟨w, rfl, a2, a3, a4, a5⟩, a1⟩ := copied_c (size := size0) (hv.2 [some (.cells [I size0, v]), some (.cells [I size]), some (.cells [I 0, nilSl])]) (oneA_sv hv) (by omega)
    refine bC_of a1 ?_
    have c0 := a4.cells (o := 0) (x := some (.cells [I size0, v])) rfl
    have c1 := a4.cells (o := 1) (x := some (.cells [I size])) rfl
    have c2 := a4.cells (o := 2) (x := some (.cells [I 0, nilSl])) rfl
    have hl2 := a4.1
    simp only [List.length_cons, List.length_nil] at hl2
    have hwo := zrZ a2
    have id0 : ∀ j, j < 3 → j ∉ idS w := fun j hj h => by have := a5 j h; simp at this; omega
    have hs0 := okL_srt h1.2.2
    have hno := fun x hx => (okL_all h1.2.2 x hx)
    rw [ast_ptr (n := 2) (off := 0) (x := .agg [I size0, w]) (xs := [I size0, w]) (by simp [hwo]) c0 rfl (by simp)]
    simp [c1]
    rw [ast_ptr (n := 1) (off := 0) (xs := [I size]) (cs := [I size0, w]) rfl (List.getElem?_set_self (by omega)) rfl (by simp)]
    simp [show 0 < H2.length by omega]
    have keep0 : ∀ j x, j ≠ 0 → (H2.set 0 x)[j]? = H2[j]? := fun j x hj => List.getElem?_set_ne (by omega)
    have hw1 : zaZ (H2.set 0 (some (.cells [I size, w]))) 9 w = some (l.flatMap encE, l.length) := zbZ a3 fun i hi => keep0 i _ (fun h => id0 0 (by omega) (h ▸ hi))
    obtain ⟨r2, H3, ⟨b1, b2, b3, b4, b5⟩, b6⟩ := zveZ (k := 94) hw1 a2 (by omega) (oc := 1) (c := [I size]) (by rw [keep0 1 _ (by omega)]; exact c1) (id0 1 (by omega)) (trunc_del size l fun x hx => by have := hno x hx; omega)
    have hfe : (l.filter fun x => !decide (size ≤ x.no * 8)) = l.filter fun x => decide (x.no * 8 < size) := List.filter_congr fun x _ => by
     by_cases c : size ≤ x.no * 8
     ·simp [c, show ¬ x.no * 8 < size by omega]
     ·simp [c, show x.no * 8 < size by omega]
    rw [hfe] at b2
    refine bC_of b6 ?_
    simp at b3
    have id3 : ∀ j, j < 3 → j ∉ idS r2 := fun j hj h => id0 j hj (b5 j h)
    have d0 : H3[0]? = some (some (.cells [I size, w])) := by rw [b4 0 (by simp; omega) (id0 0 (by omega))]; exact List.getElem?_set_self (by omega)
    have d1 : H3[1]? = some (some (.cells [I size])) := by rw [b4 1 (by simp; omega) (id0 1 (by omega)), keep0 1 _ (by omega)]; exact c1
    have d2 : H3[2]? = some (some (.cells [I 0, nilSl])) := by rw [b4 2 (by simp; omega) (id0 2 (by omega)), keep0 2 _ (by omega)]; exact c2
    have hr2 := zrZ b1
    rw [ast_ptr (n := 1) (off := 1) (xs := [r2]) (cs := [I size, w]) (zbhZ hr2) d0 rfl (by simp)]
    have hfl : (l.filter fun x => decide (x.no * 8 < size)).length ≤ l.length := List.length_filter_le _ _
    have hfm : ∀ x ∈ (l.filter fun x => decide (x.no * 8 < size)), 0 ≤ x.no ∧ x.no < 137438953472 := fun x hx => by
     have := hno x (List.mem_filter.1 hx).1; omega
    have hte : truncL l size = (l.filter fun x => decide (x.no * 8 < size)).map fun x => wipeE x size 1099511627776 := rfl
    generalize (l.filter fun x => decide (x.no * 8 < size)) = F at b2 hfl hfm hte
    simp [show 0 < H3.length by omega, zosZ b2]
    have hsp : MaySpan ⟨size, 1099511627776 - size⟩ := by simp only [MaySpan, May]; omega
    refine ztyZ (fun t x2 x3 x4 x30 x31 H => ∃ i : Nat, i + t = F.length ∧ x2 = .ptr 0 0 ∧ x3 = .ptr 1 0 ∧ x4 = .ptr 2 0 ∧ x30 = I F.length ∧ x31 = I i ∧ H[0]? = some (some (.cells [I size, r2])) ∧ H[1]? = some (some (.cells [I size])) ∧ H[2]? = some (some (.cells [I 0, nilSl])) ∧
     zaZ H 9 r2 = some (((F.take i).map (fun x => wipeE x size 1099511627776) ++ F.drop i).flatMap encE, ((F.take i).map (fun x => wipeE x size 1099511627776) ++ F.drop i).length)) ?_ F.length
     ⟨0, by omega, rfl, rfl, rfl, rfl, rfl, List.getElem?_set_self (by omega), (List.getElem?_set_ne (by omega)).trans d1, (List.getElem?_set_ne (by omega)).trans d2, ?_⟩
    ·rintro t x2 x3 x4 x30 x31 H R hR ⟨i, hi, rfl, rfl, rfl, rfl, rfl, e0, e1, e2, e3⟩
     unfold zjoZ
     have hH0 := (List.getElem?_eq_some_iff.1 e0).1
     have hH1 := (List.getElem?_eq_some_iff.1 e1).1
     have hH2 := (List.getElem?_eq_some_iff.1 e2).1
     rcases Nat.lt_or_ge i F.length with hlt | hge
     ·have hx := List.getElem?_eq_getElem hlt
      generalize F[i] = x at hx
      obtain ⟨x0, x1⟩ := hfm x (List.mem_of_getElem? hx)
      obtain ⟨p, H', f1, f2, f3, f4, f5⟩ := sl_wipe (s := ⟨size, 1099511627776 - size⟩) e3 b1 (map_get hx) (a := i) rfl hsp x0 x1
      simp only [show size + (1099511627776 - size) = 1099511627776 by omega] at f5
      rw [map_set (f := fun x => wipeE x size 1099511627776) hx] at f5
      simp [hlt, e0, e1, f1, abI_sub (a := 1099511627776) (b := size) (by omega) (by omega)]
      refine bC_of f2 ?_
      simp [abI_add (a := i) (b := 1) (by omega) (by omega)]
      refine hR (t - 1) _ _ _ _ _ _ (by omega) ⟨i + 1, by omega, rfl, rfl, rfl, rfl, rfl, by rw [f4 0 hH0 (id3 0 (by omega))]; exact e0, by rw [f4 1 hH1 (id3 1 (by omega))]; exact e1, by rw [f4 2 hH2 (id3 2 (by omega))]; exact e2, by rw [f5, map_len, map_len]⟩
     ·have : i = F.length := by omega
      subst this
      simp [e0, rdCells]
      rw [ast_ptr (n := 2) (off := 0) (xs := [I size, r2]) (cs := [I 0, nilSl]) (by simp [hr2]) e2 rfl (by simp)]
      simp [hH2]
      rw [List.take_length, List.drop_length, List.append_nil, ← hte] at e3
      exact ContK.some hw (zbZ e3 fun i hi => by
       have h2 : 3 ≤ i := Nat.le_of_not_lt fun h => id3 i h hi
       rw [List.getElem?_set_ne (by omega)])
    ·simp only [List.take_zero, List.map_nil, List.nil_append, List.drop_zero]
     exact zbZ b2 fun i hi => by
      have h2 : 3 ≤ i := Nat.le_of_not_lt fun h => id3 i h hi
      rw [List.getElem?_set_ne (by omega)]
 ·have hn : truncC (size0, l) size = none := if_neg (fun h => h1 h.1)
  simp [h1, ast]
  exact ContK.none hn
theorem within_gone {no pos n : Int} (h : maySp pos n) (h0 : 0 ≤ no) (h1 : no < 137438953472) : (!decide (Within ⟨no * 8, 8⟩ ⟨pos, n⟩)) = !gone pos n no := by
 have e : Within ⟨no * 8, 8⟩ ⟨pos, n⟩ ↔ (pos ≤ no * 8 ∧ no * 8 + 8 ≤ pos + n) := by
  rw [within_iff]
  unfold Within' MaySpan May
  unfold maySp at h
  simp only
  omega
 unfold gone
 by_cases c1 : pos ≤ no * 8 <;> by_cases c2 : no * 8 + 8 ≤ pos + n <;> simp [e, c1, c2]
theorem extent_Punch_p {size : Int} {l : List Ext} {v : AV} (hv : SV encE 9 l v) (hl : l.length ≤ 1000000) (pos n : Int) :
  ∃ R, SV encE 9 (cL (punchC (size, l) pos n)) R ∧ BPure Try.prog 74 [.agg [I size, v], I pos, I n] (.tup [.agg [I (cS (punchC (size, l) pos n)), R], B (punchC (size, l) pos n).isSome]) := by
 refine BPure.cont (by simp [noIdss, noIds, hv.1]) (extent_Punch_ok ?_)
 unfold extent_Punch
 simp [oneA_sv hv, rdCells]
 refine bP_pure (zraZ hv (by omega)) ?_
 by_cases h1 : mayC size l
 ·simp [h1]
  refine bP_pure (extent_span_p pos n) ?_
  by_cases h2 : maySp pos n
  ·have hw : punchC (size, l) pos n = some (size, punchL l pos n) := if_pos ⟨h1, h2⟩
   have h2' := h2
   obtain ⟨g1, g2, g3, g4⟩ := h2'
   simp [h2]
   obtain ⟨r, H2, ⟨w, rfl, a2, a3, a4, a5⟩, a1⟩ := copied_c (size := size) (hv.2 [some (.cells [I size, v]), some (.cells [I 0, nilSl])]) (oneA_sv hv) (by omega)
   refine bC_of a1 ?_
   have c0 := a4.cells (o := 0) (x := some (.cells [I size, v])) rfl
   have c2 := a4.cells (o := 1) (x := some (.cells [I 0, nilSl])) rfl
   have hl2 := a4.1
   simp only [List.length_cons, List.length_nil] at hl2
   have hwo := zrZ a2
   have id0 : ∀ j, j < 2 → j ∉ idS w := fun j hj h => by have := a5 j h; simp at this; omega
   have hs0 := okL_srt h1.2.2
   have hno := fun x hx => (okL_all h1.2.2 x hx)
   rw [ast_ptr (n := 2) (off := 0) (x := .agg [I size, w]) (xs := [I size, w]) (by simp [hwo]) c0 rfl (by simp)]
   simp
   rw [ast_ptr (n := 2) (off := 0) (x := .agg [I pos, I n]) (xs := [I pos, I n]) (cs := [I 0, I 0]) (by simp) (by rw [List.getElem?_append_right (by simp)]; simp) rfl (by simp)]
   have hset : ((H2.set 0 (some (AObj.cells [I size, w]))) ++ [some (AObj.cells [I 0, I 0])]).set H2.length (some (AObj.cells (splice [I 0, I 0] 0 [I pos, I n]))) = (H2.set 0 (some (AObj.cells [I size, w]))) ++ [some (AObj.cells [I pos, I n])] := by
    rw [List.set_append_right _ _ (by simp)]; simp
   rw [hset]
   have g := Grew.app (H2.set 0 (some (AObj.cells [I size, w]))) [some (.cells [I pos, I n])]
   have keep0 : ∀ j x, j ≠ 0 → (H2.set 0 x)[j]? = H2[j]? := fun j x hj => List.getElem?_set_ne (by omega)
   have z0 := g.cells (o := 0) (x := some (.cells [I size, w])) (List.getElem?_set_self (by omega))
   have z1 := g.cells (o := 1) (x := some (.cells [I 0, nilSl])) (by rw [keep0 1 _ (by omega)]; exact c2)
   have z2 : (H2.set 0 (some (AObj.cells [I size, w])) ++ [some (AObj.cells [I pos, I n])])[H2.length]? = some (some (.cells [I pos, I n])) := by rw [List.getElem?_append_right (by simp)]; simp
   have zid : H2.length ∉ idS w := fun h => by have := zmZ a3 _ h; omega
   have hlen3 : (H2.set 0 (some (AObj.cells [I size, w])) ++ [some (AObj.cells [I pos, I n])]).length = H2.length + 1 := by simp
   have hw1 := g.slice (zbZ (H' := H2.set 0 (some (AObj.cells [I size, w]))) a3 fun i hi => keep0 i _ (fun h => id0 0 (by omega) (h ▸ hi)))
   generalize hH3 : (H2.set 0 (some (AObj.cells [I size, w])) ++ [some (AObj.cells [I pos, I n])]) = H3 at g z0 z1 z2 hw1 hlen3
   generalize H2.length = so at z2 zid hlen3 hl2
   simp [z0]
   obtain ⟨r2, H4, ⟨b1, b2, b3, b4, b5⟩, b6⟩ := zveZ (k := 97) hw1 a2 (by omega) (oc := so) (c := encSp ⟨pos, n⟩) z2 zid (punch_del so ⟨pos, n⟩ l fun x hx => by have := hno x hx; omega)
   have hfe : (l.filter fun x => !decide (Within ⟨x.no * 8, 8⟩ ⟨pos, n⟩)) = l.filter fun x => !gone pos n x.no := List.filter_congr fun x hx => by
    have := hno x hx
    exact within_gone h2 (by omega) (by omega)
   rw [hfe] at b2
   refine bC_of b6 ?_
   have id3 : ∀ j, j < 2 → j ∉ idS r2 := fun j hj h => id0 j hj (b5 j h)
   have id4 : so ∉ idS r2 := fun h => zid (b5 so h)
   have d0 : H4[0]? = some (some (.cells [I size, w])) := by rw [b4 0 (by omega) (id0 0 (by omega))]; exact z0
   have d1 : H4[1]? = some (some (.cells [I 0, nilSl])) := by rw [b4 1 (by omega) (id0 1 (by omega))]; exact z1
   have d2 : H4[so]? = some (some (.cells [I pos, I n])) := by rw [b4 so (by omega) zid]; exact z2
   have hr2 := zrZ b1
   rw [ast_ptr (n := 1) (off := 1) (xs := [r2]) (cs := [I size, w]) (zbhZ hr2) d0 rfl (by simp)]
   have hfl : (l.filter fun x => !gone pos n x.no).length ≤ l.length := List.length_filter_le _ _
   have hfm : ∀ x ∈ (l.filter fun x => !gone pos n x.no), 0 ≤ x.no ∧ x.no < 137438953472 := fun x hx => by
    have := hno x (List.mem_filter.1 hx).1; omega
   have hte : punchL l pos n = (l.filter fun x => !gone pos n x.no).map fun x => wipeE x pos (pos + n) := rfl
   generalize (l.filter fun x => !gone pos n x.no) = F at b2 hfl hfm hte
   simp [show 0 < H4.length by omega, zosZ b2]
   have hsp : MaySpan ⟨pos, n⟩ := by simp only [MaySpan, May]; omega
   refine extent_Punch_L9_rule (fun t x3 x6 x8 x32 x33 H => ∃ i : Nat, i + t = F.length ∧ x3 = .ptr 0 0 ∧ x6 = .ptr 1 0 ∧ x8 = .ptr so 0 ∧ x32 = I F.length ∧ x33 = I i ∧ H[0]? = some (some (.cells [I size, r2])) ∧ H[1]? = some (some (.cells [I 0, nilSl])) ∧ H[so]? = some (some (.cells [I pos, I n])) ∧
    zaZ H 9 r2 = some (((F.take i).map (fun x => wipeE x pos (pos + n)) ++ F.drop i).flatMap encE, ((F.take i).map (fun x => wipeE x pos (pos + n)) ++ F.drop i).length)) ?_ F.length
    ⟨0, by omega, rfl, rfl, rfl, rfl, rfl, List.getElem?_set_self (by omega), (List.getElem?_set_ne (by omega)).trans d1, (List.getElem?_set_ne (by omega)).trans d2, ?_⟩
   ·rintro t x3 x6 x8 x32 x33 H R hR ⟨i, hi, rfl, rfl, rfl, rfl, rfl, e0, e1, e2, e3⟩
    unfold zomZ
    have hH0 := (List.getElem?_eq_some_iff.1 e0).1
    have hH1 := (List.getElem?_eq_some_iff.1 e1).1
    have hH2 := (List.getElem?_eq_some_iff.1 e2).1
    rcases Nat.lt_or_ge i F.length with hlt | hge
    ·have hx := List.getElem?_eq_getElem hlt
     generalize F[i] = x at hx
     obtain ⟨x0, x1⟩ := hfm x (List.mem_of_getElem? hx)
     obtain ⟨p, H', f1, f2, f3, f4, f5⟩ := sl_wipe (s := ⟨pos, n⟩) e3 b1 (map_get hx) (a := i) rfl hsp x0 x1
     rw [map_set (f := fun x => wipeE x pos (pos + n)) hx] at f5
     simp [hlt, e0, e2, f1, rdCells]
     refine bC_of f2 ?_
     simp [abI_add (a := i) (b := 1) (by omega) (by omega)]
     refine hR (t - 1) _ _ _ _ _ _ (by omega) ⟨i + 1, by omega, rfl, rfl, rfl, rfl, rfl, by rw [f4 0 hH0 (id3 0 (by omega))]; exact e0, by rw [f4 1 hH1 (id3 1 (by omega))]; exact e1, by rw [f4 so hH2 id4]; exact e2, by rw [f5, map_len, map_len]⟩
    ·have : i = F.length := by omega
     subst this
     simp [e0, rdCells]
     rw [ast_ptr (n := 2) (off := 0) (xs := [I size, r2]) (cs := [I 0, nilSl]) (by simp [hr2]) e1 rfl (by simp)]
     simp [hH1]
     rw [List.take_length, List.drop_length, List.append_nil, ← hte] at e3
     exact ContK.some hw (zbZ e3 fun i hi => by
      have h2 : 2 ≤ i := Nat.le_of_not_lt fun h => id3 i h hi
      rw [List.getElem?_set_ne (by omega)])
   ·simp only [List.take_zero, List.map_nil, List.nil_append, List.drop_zero]
    exact zbZ b2 fun i hi => by
     have h2 : 2 ≤ i := Nat.le_of_not_lt fun h => id3 i h hi
     rw [List.getElem?_set_ne (by omega)]
  ·have hn : punchC (size, l) pos n = none := if_neg (fun h => h2 h.2)
   simp [h2, ast]
   exact ContK.none hn
 ·have hn : punchC (size, l) pos n = none := if_neg (fun h => h1 h.1)
  simp [h1, ast]
  exact ContK.none hn
end Go.Proofs.Ytpnfdibgfichmaa.Av
end
/-! YtpnfdibgfichmaaAvIx -/
section
/- Chapter 12: a file is called otherwise; its content is changed. -/
set_option linter.unusedVariables false
set_option linter.unusedSimpArgs false
set_option maxRecDepth 100000
namespace Go.Proofs.Ytpnfdibgfichmaa.Av
open Go Go.RowKit

def renOk (ns : List Nm) (s t : List UInt8) : Prop := hasK Nm.name ns s ∧ mayN t ∧ s ≠ t
instance (ns : List Nm) (s t : List UInt8) : Decidable (renOk ns s t) := by unfold renOk; infer_instance
def renNs (ns : List Nm) (s t : List UInt8) : List Nm := if renOk ns s t then insK cmpN Nm.name (remNs (delK cmpN Nm.name ns s) t) ⟨t, nameI ns s⟩ else ns
def renDv (ns : List Nm) (dv : List NdV) (s t : List UInt8) : List NdV := if renOk ns s t then remDv (delK cmpN Nm.name ns s) dv t else dv
theorem remNs_srt {ns : List Nm} {t : List UInt8} (h : srtK cmpN Nm.name ns) : srtK cmpN Nm.name (remNs ns t) := by
 unfold remNs
 split
 ·exact zqbZ h
 ·exact h
theorem remNs_len {ns : List Nm} {t : List UInt8} : (remNs ns t).length ≤ ns.length := by
 unfold remNs
 split
 ·exact delK_sub.length_le
 ·exact Nat.le_refl _
theorem rename_c {L oi : Nat} {ns : List Nm} {dv : List NdV} {a b : AV} {H : AH} {s t : List UInt8} (h : ImH L oi ns dv a b H) (hs : srtK cmpN Nm.name ns) (hd : srtK cmpI NdV.ino dv) (hx : ∀ x ∈ ns, hasK NdV.ino dv x.ino) (hn : ns.length ≤ 100000) (hm : dv.length ≤ 100000) (ht : t.length ≤ 1000000000) :
  ∃ r H', ImP L oi H (renNs ns s t) (renDv ns dv s t) r H' ∧ BCall Try.prog 40 [.ptr oi 0, S (bstr s), S (bstr t)] H r H' := image_rename_ok (by
 obtain ⟨Ra, Rb, sa, sb, fz⟩ := h.lend
 have c0 := h.obj
 unfold image_rename
 have b0 : ∀ a b : AV, rdCells true 2 [a, b] 0 = some (.agg [a, b]) := fun _ _ => rfl
 have hno : ¬ renOk ns s t → ImP L oi H (renNs ns s t) (renDv ns dv s t) (.tup []) H := fun hc => by
  unfold renNs renDv
  rw [if_neg hc, if_neg hc]
  exact ⟨rfl, a, b, h, FrL.refl _ _ _⟩
 simp [c0, b0]
 refine bC_of (PCall.lend (FZs.cons fz (FZs.cons (FZ.lit _) FZs.nil)) rfl (named_p sa sb hs (by omega) s)).call ?_
 by_cases q1 : hasK Nm.name ns s
 ·simp [q1]
  refine bP_pure (MayName_p (s := t) (by omega)) ?_
  by_cases q2 : mayN t
  ·by_cases q3 : s = t
   ·simp [q2, abT_eql, q3]
    rw [← q3] at hno ⊢
    exact hno fun hc => hc.2.2 rfl
   ·have hc : renOk ns s t := ⟨q1, q2, q3⟩
    unfold renNs renDv
    rw [if_pos hc, if_pos hc]
    obtain ⟨x, hx1, hx2, hx3⟩ := posK_atK koN hs q1
    obtain ⟨o, off, cells, u1, u2, u3, u4, u5, -⟩ := own_at zejZ (by omega) h.sa h.oa hx1
    have u51 := u5 1 (by omega)
    have hpl := (List.getElem?_eq_some_iff.1 hx1).1
    have e1 : nameI ns s = x.ino := by unfold nameI; rw [hx2]
    simp [q2, abT_eql, q3, c0, b0, u1, u3, u51, encN, abI_add (a := (posK cmpN Nm.name ns s : Nat)) (b := 1) (by omega) (by omega)]
    obtain ⟨r1, H2, ⟨d1, d2, d3, d4, d5, d6⟩, d7⟩ := delN_c h.sa h.oa h.ca hpl (by omega)
    refine bC_of d7 ?_
    have l1 := delK_len (c := cmpN) (key := Nm.name) (k := s) hpl
    obtain ⟨H3, e3, n1, n2⟩ := h.newA (ms := delK cmpN Nm.name ns s) (Nat.le_of_eq d3.symm) (fun i _ hi => d4 i hi) (by rw [show (delK cmpN Nm.name ns s).length = ns.length - 1 by omega]; exact d2) d1 (by rw [show (delK cmpN Nm.name ns s).length = ns.length - 1 by omega]; exact d6) (fun i hi => .inl (d5 ▸ hi))
    simp [e3]
    have hs1 : srtK cmpN Nm.name (delK cmpN Nm.name ns s) := zqbZ hs
    obtain ⟨r4, H4, ⟨rfl, a4, b4, m1, m2⟩, m3⟩ := remove_c (s := t) n1 hs1 hd (fun y hy => hx y (delK_sub.subset hy)) (by omega) hm
    refine bC_of m3 ?_
    have c4 := m1.obj
    obtain ⟨Sa, Sb, ta, tb, gz⟩ := m1.lend
    have hs2 := remNs_srt (t := t) hs1
    have hl2 := remNs_len (ns := delK cmpN Nm.name ns s) (t := t)
    simp [c4, b0]
    refine bC_of (PCall.lend (FZs.cons gz (FZs.cons (FZ.lit _) FZs.nil)) rfl (named_p ta tb hs2 (by omega) t)).call ?_
    have g5 := Grew.app H4 [some (.cells (encN ⟨t, x.ino⟩))]
    have m5 := m1.grew g5
    have e5 : absl H4 2 1 (zrow [(.lit (.string ⟨#[]⟩)), (.lit (.int .i64 0))] 1) [(0, 2, .agg (encN ⟨t, x.ino⟩))] = some (.sl H4.length 0 1 2 (.ex 1), H4 ++ [some (.cells (encN ⟨t, x.ino⟩))]) := rfl
    have e6 : abl [(.lit (.string ⟨#[]⟩)), (.lit (.int .i64 0))] [(0, 1, S (bstr t)), (1, 1, I x.ino)] = some (.agg (encN ⟨t, x.ino⟩)) := rfl
    simp [c4, e5, e6]
    obtain ⟨r7, H7, ⟨k1, k2, k3, k4, k5, k6⟩, k7⟩ := insN_c (x := ⟨t, x.ino⟩) (oj := H4.length) m5.sa m5.oa m5.ca (posK_le (c := cmpN) (key := Nm.name) _ t) (by omega) (by simp) (fun hh => by have := zmZ m1.sa _ hh; omega)
    refine bC_of k7 ?_
    have el := insK_len (c := cmpN) (key := Nm.name) (l := remNs (delK cmpN Nm.name ns s) t) (x := ⟨t, x.ino⟩)
    obtain ⟨H8, e8, p1, p2⟩ := m5.newA (ms := insK cmpN Nm.name (remNs (delK cmpN Nm.name ns s) t) ⟨t, x.ino⟩) k3 k4 (by rw [el]; exact k2) k1 (by rw [el]; exact k6) k5
    simp [e8]
    rw [e1]
    have hle := m1.len
    exact ⟨rfl, _, _, p1, n2.trans (m2.trans ⟨Nat.le_trans g5.1 p2.1, fun j h1 h2 => (p2.2 j h1 h2).trans (g5.2 j (by omega))⟩)⟩
  ·simp [q2]
   exact hno fun hc => q2 hc.2.1
 ·simp [q1]
  exact hno fun hc => q1 hc.1)
/-! a content is changed -/
def chgC (o : OpM) (d : Nd) : Option Cont := if o.kind = 2 then writeC (d.size, d.l) o.pos o.b else if o.kind = 3 then truncC (d.size, d.l) o.size else if o.kind = 4 then allocC (d.size, d.l) o.pos o.size o.keep else if o.kind = 5 then punchC (d.size, d.l) o.pos o.size else none
def chgD (ds : List Nd) (o : OpM) : List Nd := match atK Nd.ino ds o.ino with
 | some d => match chgC o d with
  | some c => ds.set (posK cmpI Nd.ino ds o.ino) ⟨d.ino, c.1, c.2⟩
  | none => ds
 | none => ds
theorem change_tail {L oi k q : Nat} {ns : List Nm} {dv : List NdV} {a b R : AV} {H : AH} {x : NdV} {sz : Int} {l : List Ext} (h : ImH L oi ns dv a b H) (hx : dv[k]? = some x) (hR : SV encE 9 l R) (hq : H[q]? = some (some (.cells [I sz, R]))) (ok : Bool) :
  ∃ H', ImH L oi ns (if ok = true then dv.set k ⟨⟨x.nd.ino, sz, l⟩, R, hR⟩ else dv) a b H' ∧ FrL L oi H H' ∧ ∀ K : AV → AH → Prop, K (.tup []) H' → zesZ (.ptr oi 0) (I k) (B ok) (.ptr q 0) H K := by
 cases ok with
 | false =>
  refine ⟨H, h, FrL.refl _ _ _, fun K hK => ?_⟩
  rw [zszZ]; unfold zozZ
  rw [zrnZ]; unfold zmzZ
  simpa using hK
 | true =>
  obtain ⟨o, off, cells, u1, u2, u3, u4, u5, u6⟩ := own_at zehZ (by omega) h.sb h.ob hx
  have oL := h.ib o u2
  have hoo : o ≠ oi := fun e => h.noB (e ▸ u2)
  have hle := h.len
  have o2 := SV.oneA hR
  have c0 := h.obj
  have hol := (List.getElem?_eq_some_iff.1 u3).1
  have e1 : ast 2 H (.ptr o (off + 1)) (.agg [I sz, R]) = some (H.set o (some (.cells (splice cells (off + 1) [I sz, R])))) := by
   rw [ast_ptr (n := 2) (xs := [I sz, R]) (by simp [o2]) u3 rfl (by omega)]
  refine ⟨H.set o (some (.cells (splice cells (off + 1) [I sz, R]))), ⟨?_, h.lo, by simp; omega, ?_, h.oa, h.ca, h.ia, ?_, h.ob, by simpa using h.cb, h.ib, h.ab⟩, ⟨by simp, fun j h1 h2 => List.getElem?_set_ne (by omega)⟩, fun K hK => ?_⟩
  ·rw [List.getElem?_set_ne (by omega)]; exact c0
  ·exact zbZ h.sa fun i hi => List.getElem?_set_ne (fun (e : o = i) => h.ab i hi (e ▸ u2))
  ·have := u6 ⟨⟨x.nd.ino, sz, l⟩, R, hR⟩ 1 [I sz, R] rfl (by simp)
   simpa using this
  ·rw [zszZ]; unfold zozZ
   rw [zrnZ]; unfold zmzZ
   have b0 : rdCells true 2 [I sz, R] 0 = some (.agg [I sz, R]) := rfl
   simp only [bB_bool, bI_true]
   have e3 : ald false 1 H (.ptr oi 1) = some b := by rw [ald_ptr c0]; rfl
   have e4 : ald true 2 H (.ptr q 0) = some (.agg [I sz, R]) := by rw [ald_ptr hq]; rfl
   show bO (some (AV.ptr oi 0)) _
   simp only [bO_some]
   show bO (some (AV.ptr oi 1)) _
   simp only [bO_some, e3, e4, u1]
   show bO (some (AV.ptr o (off + 1))) _
   simp only [bO_some, e1, bS_some]
   exact hK
def ChP (L oi : Nat) (H : AH) (ns : List Nm) (ds : List Nd) (r : AV) (H' : AH) : Prop := r = .tup [] ∧ ∃ a b dv, dv.map NdV.nd = ds ∧ ImH L oi ns dv a b H' ∧ FrL L oi H H'
theorem change_c {L oi : Nat} {ns : List Nm} {dv : List NdV} {a b bv : AV} {H : AH} {o : OpM} (h : ImH L oi ns dv a b H) (hs : srtK cmpN Nm.name ns) (hd : srtK cmpI NdV.ino dv) (hb : SV encU 1 o.b bv) (hm : dv.length ≤ 100000) (hbl : o.b.length ≤ 281474976710656) (hl : ∀ d ∈ dv, d.nd.l.length ≤ 1000000) (hk : o.kind = 2 ∨ o.kind = 3 ∨ o.kind = 4 ∨ o.kind = 5) :
  ∃ r H', ChP L oi H ns (chgD (dv.map NdV.nd) o) r H' ∧ BCall Try.prog 39 [.ptr oi 0, .agg (opA o bv)] H r H' := image_change_ok (by
 obtain ⟨H1, e1, hp, h1, f1⟩ := op_new h o (SV.oneA hb)
 obtain ⟨Ra, Rb, sa, sb, fz⟩ := h1.lend
 have c0 := h1.obj
 unfold image_change
 simp only [e1, bH_some]
 have b0 : rdCells true 2 [a, b] 0 = some (.agg [a, b]) := rfl
 simp [hp, c0, b0, opA]
 refine bC_of (PCall.lend (FZs.cons fz (FZs.cons (FZ.lit _) FZs.nil)) rfl (node_p sa sb hd (by omega) o.ino)).call ?_
 by_cases q1 : hasK NdV.ino dv o.ino
 ·obtain ⟨x, hx1, hx2, hx3⟩ := posK_atK koI hd q1
  obtain ⟨oo, off, cells, u1, u2, u3, u4, u5, u6⟩ := own_at zehZ (by omega) h1.sb h1.ob hx1
  have hxl := hl x (List.mem_of_getElem? hx1)
  have rd1 : rdCells true 2 cells (off + 1) = some (.agg [I x.nd.size, x.R]) := by
   have e51 := u5 1 (by omega)
   have e52 := u5 2 (by omega)
   have l2 : off + 1 + 2 ≤ cells.length := by omega
   have : (cells.drop (off + 1)).take 2 = [I x.nd.size, x.R] := by
    rw [List.drop_eq_getElem_cons (by omega), List.drop_eq_getElem_cons (by omega)]
    rw [List.getElem?_eq_getElem (by omega)] at e51 e52
    simp [encD] at e51 e52
    simp [e51, e52]
   simp [rdCells, l2, this]
  have o1 := SV.oneA x.h
  have fin : ∀ (res : Option Cont) (R : AV) (Hc : AH) (sR : SV encE 9 (cL res) R), chgC o x.nd = res → ImH L oi ns dv a b Hc → FrL L oi H1 Hc → ∀ q, Hc[q]? = some (some (.cells [I (cS res), R])) → zesZ (.ptr oi 0) (I (posK cmpI NdV.ino dv o.ino)) (B res.isSome) (.ptr q 0) Hc (ChP L oi H ns (chgD (dv.map NdV.nd) o)) := by
   intro res R Hc sR hr hc fc q hq
   obtain ⟨H9, w1, w2, w3⟩ := change_tail hc hx1 sR hq res.isSome
   refine w3 _ ⟨rfl, _, _, _, ?_, w1, f1.trans (fc.trans w2)⟩
   unfold chgD
   rw [atK_map hx2]
   simp only [hr]
   cases res with
   | none => rfl
   | some c =>
    simp only [Option.isSome_some, if_true, List.map_set, posK_map]
    rfl
  simp [q1, c0, u1, u3, rd1]
  obtain ⟨H2, e2, hq2, hp2, h2, f2⟩ : ∃ H2, ast 2 (H1 ++ [some (.cells [I 0, nilSl])]) (.ptr H1.length 0) (.agg [I x.nd.size, x.R]) = some H2 ∧ H2[H1.length]? = some (some (.cells [I x.nd.size, x.R])) ∧ H2[H.length]? = some (some (.cells (opA o bv))) ∧ ImH L oi ns dv a b H2 ∧ FrL L oi H1 H2 := by
   have g := Grew.app H1 [some (.cells [I x.nd.size, x.R])]
   have hle := h1.len
   exact ⟨_, by simp [ast, splice, o1, zbhZ o1], by simp, g.cells hp, h1.grew g, g.1, fun j i1 i2 => g.2 j (by omega)⟩
  have hol2 := (List.getElem?_eq_some_iff.1 hq2).1
  have hql : L ≤ H1.length := h1.len
  have put : ∀ (sz : Int) (R : AV), oneA R = true → ast 2 H2 (.ptr H1.length 0) (.agg [I sz, R]) = some (H2.set H1.length (some (.cells [I sz, R]))) ∧ ImH L oi ns dv a b (H2.set H1.length (some (.cells [I sz, R]))) ∧ FrL L oi H1 (H2.set H1.length (some (.cells [I sz, R]))) ∧ (H2.set H1.length (some (.cells [I sz, R])))[H1.length]? = some (some (.cells [I sz, R])) := by
   intro sz R hR
   have hlo := (List.getElem?_eq_some_iff.1 h1.obj).1
   refine ⟨?_, ⟨?_, h2.lo, by simpa using h2.len, ?_, h2.oa, h2.ca, h2.ia, ?_, h2.ob, h2.cb, h2.ib, h2.ab⟩, ⟨by simpa using f2.1, fun j i1 i2 => ?_⟩, by simp [hol2]⟩
   ·rw [ast_ptr (n := 2) (off := 0) (xs := [I sz, R]) (by simp [hR]) hq2 rfl (by simp)]; rfl
   ·rw [List.getElem?_set_ne (by omega)]; exact h2.obj
   ·exact zbZ h2.sa fun i hi => List.getElem?_set_ne (by have := zmZ h1.sa i hi; omega)
   ·exact zbZ h2.sb fun i hi => List.getElem?_set_ne (by have := zmZ h1.sb i hi; omega)
   ·rw [List.getElem?_set_ne (by omega)]; exact f2.2 j i1 i2
  have b1 : ∀ (s : Int) (R : AV), rdCells true 2 [I s, R] 0 = some (.agg [I s, R]) := fun _ _ => rfl
  simp [e2, hp2, opA]
  rcases hk with hk | hk | hk | hk
  ·simp [hk, hq2, b1, hp2, opA]
   obtain ⟨R, s1, p1⟩ := extent_Write_p x.h hxl o.pos hb hbl
   refine bP_pure p1 ?_
   obtain ⟨t1, t2, t3, t4⟩ := put (cS (writeC (x.nd.size, x.nd.l) o.pos o.b)) R (SV.oneA s1)
   simp [t1]
   exact fin _ R _ s1 (by unfold chgC; rw [if_pos hk]) t2 t3 _ t4
  ·simp [hk, hq2, b1, hp2, opA]
   obtain ⟨R, s1, p1⟩ := extent_Truncate_p (size0 := x.nd.size) x.h hxl o.size
   refine bP_pure p1 ?_
   obtain ⟨t1, t2, t3, t4⟩ := put (cS (truncC (x.nd.size, x.nd.l) o.size)) R (SV.oneA s1)
   simp [t1]
   exact fin _ R _ s1 (by unfold chgC; rw [if_neg (by omega), if_pos hk]) t2 t3 _ t4
  ·simp [hk, hq2, b1, hp2, opA]
   obtain ⟨R, s1, p1⟩ := extent_Allocate_p (size := x.nd.size) x.h hxl o.pos o.size o.keep
   refine bP_pure p1 ?_
   obtain ⟨t1, t2, t3, t4⟩ := put (cS (allocC (x.nd.size, x.nd.l) o.pos o.size o.keep)) R (SV.oneA s1)
   simp [t1]
   exact fin _ R _ s1 (by unfold chgC; rw [if_neg (by omega), if_neg (by omega), if_pos hk]) t2 t3 _ t4
  ·simp [hk, hq2, b1, hp2, opA]
   obtain ⟨R, s1, p1⟩ := extent_Punch_p (size := x.nd.size) x.h hxl o.pos o.size
   refine bP_pure p1 ?_
   obtain ⟨t1, t2, t3, t4⟩ := put (cS (punchC (x.nd.size, x.nd.l) o.pos o.size)) R (SV.oneA s1)
   simp [t1]
   exact fin _ R _ s1 (by unfold chgC; rw [if_neg (by omega), if_neg (by omega), if_neg (by omega), if_pos hk]) t2 t3 _ t4
 ·simp [q1]
  refine ⟨rfl, a, b, dv, ?_, h1, f1⟩
  unfold chgD
  rw [atK_none (fun hh => q1 (hasK_map.1 hh))])
end Go.Proofs.Ytpnfdibgfichmaa.Av
end
/-! YtpnfdibgfichmaaAvIy -/
section
/- Chapter 12: an image is copied; a change of it. -/
set_option linter.unusedVariables false
set_option linter.unusedSimpArgs false
set_option maxRecDepth 100000
namespace Go.Proofs.Ytpnfdibgfichmaa.Av
open Go Go.RowKit

theorem cloneN_c {H : AH} {v : AV} {cs : List AV} {n : Nat} (h : zaZ H 2 v = some (cs, n)) (hn : n ≤ 1000000000) :
  ∃ r H', (ownedS r = true ∧ zaZ H' 2 r = some (cs, n) ∧ Grew H H' ∧ (∀ i ∈ idS r, H.length ≤ i) ∧ capOk r n) ∧ BCall Try.prog 60 [v] H r H' := zlbZ (by
 unfold zdjZ
 rcases nilS_slice h with ⟨rfl, rfl, rfl⟩ | hb
 ·have e : abN .eql nilS nilSl nilSl = some (B true) := rfl
  simp only [e, bO_some, bB_bool, bI_true]
  exact ⟨rfl, h, Grew.refl H, by simp [idS], by simp [capOk]⟩
 ·simp only [hb, bO_some, bB_bool, zdlZ]
  have e : absl H 2 0 (zrow [(.lit (.string ⟨#[]⟩)), (.lit (.int .i64 0))] 0) [] = some (.sl H.length 0 0 2 (.ex 0), H ++ [some (.cells [])]) := rfl
  simp only [e, bH_some]
  have g := Grew.app H [some (.cells [])]
  have h0 : zaZ (H ++ [some (.cells [])]) 2 (.sl H.length 0 0 2 (.ex 0)) = some ([], 0) := by simp [zaZ]
  obtain ⟨r, H2, a1, a2, a3, a4, a5, a6⟩ := zpuZ (sz := 2) (bytes := 24) (H := H ++ [some (.cells [])]) (v := .sl H.length 0 0 2 (.ex 0)) (cs := []) (n := 0) h0 rfl (zfZ (g.slice h)) (by omega)
  have a7 := aap_cap h0 rfl (zfZ (g.slice h)) (by simp [capOk]) a1
  simp only [a1, bH_some]
  refine ⟨a2, by simpa using a3, ⟨by simp at a4; omega, fun i hi => ?_⟩, fun i hi => ?_, by simpa using a7⟩
  ·rw [a5 i (by simp; omega) (by simp [idS]; omega)]
   exact g.2 i hi
  ·rcases a6 i hi with h | h
   ·simp [idS] at h; omega
   ·simp at h; omega)
theorem cloneD_c {H : AH} {v : AV} {cs : List AV} {n : Nat} (h : zaZ H 3 v = some (cs, n)) (hn : n ≤ 1000000000) :
  ∃ r H', (ownedS r = true ∧ zaZ H' 3 r = some (cs, n) ∧ Grew H H' ∧ (∀ i ∈ idS r, H.length ≤ i) ∧ capOk r n) ∧ BCall Try.prog 61 [v] H r H' := zkuZ (by
 unfold zdgZ
 rcases nilS_slice h with ⟨rfl, rfl, rfl⟩ | hb
 ·have e : abN .eql nilS nilSl nilSl = some (B true) := rfl
  simp only [e, bO_some, bB_bool, bI_true]
  exact ⟨rfl, h, Grew.refl H, by simp [idS], by simp [capOk]⟩
 ·simp only [hb, bO_some, bB_bool, zdlZ]
  have e : absl H 3 0 (zrow [(.lit (.int .i64 0)), (.lit (.int .i64 0)), (.lit (.slice none 0 0))] 0) [] = some (.sl H.length 0 0 3 (.ex 0), H ++ [some (.cells [])]) := rfl
  simp only [e, bH_some]
  have g := Grew.app H [some (.cells [])]
  have h0 : zaZ (H ++ [some (.cells [])]) 3 (.sl H.length 0 0 3 (.ex 0)) = some ([], 0) := by simp [zaZ]
  obtain ⟨r, H2, a1, a2, a3, a4, a5, a6⟩ := zpuZ (sz := 3) (bytes := 40) (H := H ++ [some (.cells [])]) (v := .sl H.length 0 0 3 (.ex 0)) (cs := []) (n := 0) h0 rfl (zfZ (g.slice h)) (by omega)
  have a7 := aap_cap h0 rfl (zfZ (g.slice h)) (by simp [capOk]) a1
  simp only [a1, bH_some]
  refine ⟨a2, by simpa using a3, ⟨by simp at a4; omega, fun i hi => ?_⟩, fun i hi => ?_, by simpa using a7⟩
  ·rw [a5 i (by simp; omega) (by simp [idS]; omega)]
   exact g.2 i hi
  ·rcases a6 i hi with h | h
   ·simp [idS] at h; omega
   ·simp at h; omega)
structure OwI (L : Nat) (ns : List Nm) (dv : List NdV) (a b : AV) (H : AH) : Prop where
 sa : zaZ H 2 a = some (ns.flatMap encN, ns.length)
 oa : ownedS a = true
 ca : capOk a ns.length
 ia : ∀ i ∈ idS a, L ≤ i
 sb : zaZ H 3 b = some (dv.flatMap encD, dv.length)
 ob : ownedS b = true
 cb : capOk b dv.length
 ib : ∀ i ∈ idS b, L ≤ i
 ab : ∀ i ∈ idS a, i ∉ idS b
def CopyK (H : AH) (ns : List Nm) (ds : List Nd) (r : AV) (H' : AH) : Prop := ∃ a b dv, r = .agg [a, b] ∧ dv.map NdV.nd = ds ∧ Grew H H' ∧ OwI H.length ns dv a b H'
theorem ImH.putD {L oi k : Nat} {ns : List Nm} {dv : List NdV} {a b R : AV} {H : AH} {x : NdV} {sz : Int} {l : List Ext} (h : ImH L oi ns dv a b H) (hx : dv[k]? = some x) (hR : SV encE 9 l R) :
  ∃ o off cells H', aixS 3 b (I k) = some (.ptr o off) ∧ H[o]? = some (some (.cells cells)) ∧ rdCells true 2 cells (off + 1) = some (.agg [I x.nd.size, x.R]) ∧ ast 2 H (.ptr o (off + 1)) (.agg [I sz, R]) = some H' ∧ ImH L oi ns (dv.set k ⟨⟨x.nd.ino, sz, l⟩, R, hR⟩) a b H' ∧ FrL L oi H H' := by
 obtain ⟨o, off, cells, u1, u2, u3, u4, u5, u6⟩ := own_at zehZ (by omega) h.sb h.ob hx
 have oL := h.ib o u2
 have hoo : o ≠ oi := fun e => h.noB (e ▸ u2)
 have hle := h.len
 have o2 := SV.oneA hR
 have hol := (List.getElem?_eq_some_iff.1 u3).1
 have rd1 : rdCells true 2 cells (off + 1) = some (.agg [I x.nd.size, x.R]) := by
  have e51 := u5 1 (by omega)
  have e52 := u5 2 (by omega)
  have l2 : off + 1 + 2 ≤ cells.length := by omega
  have : (cells.drop (off + 1)).take 2 = [I x.nd.size, x.R] := by
   rw [List.drop_eq_getElem_cons (by omega), List.drop_eq_getElem_cons (by omega)]
   rw [List.getElem?_eq_getElem (by omega)] at e51 e52
   simp [encD] at e51 e52
   simp [e51, e52]
  simp [rdCells, l2, this]
 refine ⟨o, off, cells, H.set o (some (.cells (splice cells (off + 1) [I sz, R]))), u1, u3, rd1, ?_, ⟨?_, h.lo, by simp; omega, ?_, h.oa, h.ca, h.ia, ?_, h.ob, by simpa using h.cb, h.ib, h.ab⟩, ⟨by simp, fun j h1 h2 => List.getElem?_set_ne (by omega)⟩⟩
 ·rw [ast_ptr (n := 2) (xs := [I sz, R]) (by simp [o2]) u3 rfl (by omega)]
 ·rw [List.getElem?_set_ne (by omega)]; exact h.obj
 ·exact zbZ h.sa fun i hi => List.getElem?_set_ne (fun (e : o = i) => h.ab i hi (e ▸ u2))
 ·have := u6 ⟨⟨x.nd.ino, sz, l⟩, R, hR⟩ 1 [I sz, R] rfl (by simp)
  simpa using this
theorem Copy_c {H : AH} {ns : List Nm} {dv : List NdV} {a b : AV} (sa : SV encN 2 ns a) (sb : SV encD 3 dv b) (hn : ns.length ≤ 100000) (hm : dv.length ≤ 100000) (hl : ∀ d ∈ dv, d.nd.l.length ≤ 1000000) :
  ∃ r H', CopyK H ns (dv.map NdV.nd) r H' ∧ BCall Try.prog 33 [.agg [a, b]] H r H' := image_Copy_ok (by
 unfold image_Copy
 have oa := SV.oneA sa
 have ob := SV.oneA sb
 obtain ⟨H3, e3, c0, c1, g3, l3⟩ : ∃ H3, anew (H ++ [some (.cells [a, b])]) (.agg [nilSl, nilSl]) = some (.ptr (H.length + 1) 0, H3) ∧ H3[H.length]? = some (some (.cells [a, b])) ∧ H3[H.length + 1]? = some (some (.cells [nilSl, nilSl])) ∧ Grew H H3 ∧ H3.length = H.length + 2 := by
  refine ⟨H ++ [some (.cells [a, b]), some (.cells [nilSl, nilSl])], by simp, by simp, by rw [List.getElem?_append_right (by omega)]; simp, Grew.app _ _, by simp⟩
 simp [oa, ob, e3, c0]
 obtain ⟨ra, H7, ⟨p1, p2, p3, p4, p5⟩, p6⟩ := cloneN_c (sa.2 H3) (by omega)
 refine bC_of p6 ?_
 have c7 := p3.cells c0
 simp [c7]
 obtain ⟨rb, H11, ⟨q1, q2, q3, q4, q5⟩, q6⟩ := cloneD_c (sb.2 H7) (by omega)
 refine bC_of q6 ?_
 have c8 := q3.cells c7
 have ra1 := zrZ p1
 have rb1 := zrZ q1
 have l7 := p3.1
 have l11 := q3.1
 have i0 : ImH (H.length + 2) H.length ns dv ra rb (H11.set H.length (some (.cells [ra, rb]))) := by
  refine ⟨by rw [List.getElem?_set_self (by omega)], ⟨fun q => by have := p4 _ q; omega, fun q => by have := q4 _ q; omega⟩, by rw [List.length_set]; omega, ?_, p1, p5, fun i hi => by have := p4 i hi; omega, ?_, q1, q5, fun i hi => by have := q4 i hi; omega, fun i hi hh => ?_⟩
  ·exact zbZ (q3.slice p2) fun i hi => List.getElem?_set_ne (by have := p4 i hi; omega)
  ·exact zbZ q2 fun i hi => List.getElem?_set_ne (by have := q4 i hi; omega)
  ·have := q4 i hh; have := zmZ p2 i hi; omega
 have e13 : ast 2 H11 (.ptr H.length 0) (.agg [ra, rb]) = some (H11.set H.length (some (.cells [ra, rb]))) := by
  rw [ast_ptr (n := 2) (off := 0) (xs := [ra, rb]) (by simp [ra1, rb1]) c8 rfl (by simp)]; rfl
 have g13 : Grew H (H11.set H.length (some (.cells [ra, rb]))) := ⟨by simp; omega, fun i hi => by rw [List.getElem?_set_ne (by omega), (g3.trans (p3.trans q3)).2 i hi]⟩
 have c13 : (H11.set H.length (some (.cells [ra, rb])))[H.length + 1]? = some (some (.cells [nilSl, nilSl])) := by
  rw [List.getElem?_set_ne (by omega)]; exact q3.cells (p3.cells c1)
 generalize H11.set H.length (some (.cells [ra, rb])) = H13 at i0 e13 g13 c13
 have d0 := i0.obj
 simp [zbhZ ra1, zbhZ rb1, e13]
 have ln := zosZ i0.sb
 simp [d0, ln]
 refine image_Copy_L4_rule (fun n x1 x2 x13 x14 H' => ∃ (k : Nat) (ew : List NdV), k + n = dv.length ∧ x1 = .ptr H.length 0 ∧ x2 = .ptr (H.length + 1) 0 ∧ x13 = I dv.length ∧ x14 = I k ∧ ew.map NdV.nd = dv.map NdV.nd ∧ ImH (H.length + 2) H.length ns ew ra rb H' ∧ Grew H H' ∧ H'[H.length + 1]? = some (some (.cells [nilSl, nilSl]))) ?_ dv.length ⟨0, dv, by omega, rfl, rfl, rfl, rfl, rfl, i0, g13, c13⟩
 rintro n x1 x2 x13 x14 H' R hR ⟨k, ew, hk, rfl, rfl, rfl, rfl, hew, hi, hg, hc⟩
 unfold zryZ
 have el : ew.length = dv.length := by have := congrArg List.length hew; simpa using this
 have e0 := hi.obj
 rcases Nat.lt_or_ge k dv.length with h | h
 ·have hx := List.getElem?_eq_getElem (l := ew) (i := k) (by omega)
  generalize ew[k] = x at hx
  have hxl : x.nd.l.length ≤ 1000000 := by
   have h1 : x.nd ∈ ew.map NdV.nd := List.mem_map_of_mem (List.mem_of_getElem? hx)
   rw [hew] at h1
   obtain ⟨d, hd, e⟩ := List.mem_map.1 h1
   rw [← e]; exact hl d hd
  obtain ⟨R2, s2, p2⟩ := copied_p (size := x.nd.size) x.h (by omega)
  obtain ⟨o, off, cells, H2, w1, w2, w3, w4, w5, w6⟩ := hi.putD (sz := x.nd.size) hx s2
  simp [h, e0, w1, w2, w3]
  refine bP_of p2 ?_
  simp [w4, abI_add (a := k) (b := 1) (by omega) (by omega)]
  refine hR (n - 1) _ _ _ _ _ (by omega) ⟨k + 1, _, by omega, rfl, rfl, rfl, by simp, ?_, w5, ⟨by have := hg.1; have := w6.1; omega, fun i hi2 => by rw [w6.2 i (by omega) (by omega), hg.2 i hi2]⟩, by rw [w6.2 _ (by omega) (by omega)]; exact hc⟩
  rw [← hew, List.map_set]
  refine List.ext_getElem? fun j => ?_
  rw [List.getElem?_set]
  split
  ·rename_i hj
   subst hj
   rw [List.getElem?_map, hx]
   simp; omega
  ·rfl
 ·have b0 : rdCells true 2 [ra, rb] 0 = some (.agg [ra, rb]) := rfl
  have hcl := (List.getElem?_eq_some_iff.1 hc).1
  have e5 : ast 2 H' (.ptr (H.length + 1) 0) (.agg [ra, rb]) = some (H'.set (H.length + 1) (some (.cells [ra, rb]))) := by
   rw [ast_ptr (n := 2) (off := 0) (xs := [ra, rb]) (by simp [ra1, rb1]) hc rfl (by simp)]; rfl
  simp [show ¬ k < dv.length by omega, e0, b0, e5, hcl]
  refine ⟨ra, rb, ew, rfl, hew, ⟨by simpa using hg.1, fun i hi2 => by rw [List.getElem?_set_ne (by omega), hg.2 i hi2]⟩, ⟨?_, hi.oa, hi.ca, fun i q => by have := hi.ia i q; omega, ?_, hi.ob, hi.cb, fun i q => by have := hi.ib i q; omega, hi.ab⟩⟩
  ·exact zbZ hi.sa fun i q => List.getElem?_set_ne (by have := hi.ia i q; omega)
  ·exact zbZ hi.sb fun i q => List.getElem?_set_ne (by have := hi.ib i q; omega))
/-! a change -/
def creI (ns : List Nm) (ds : List Nd) (o : OpM) : Prop := ¬ hasK Nm.name ns o.name ∧ ¬ hasK Nd.ino ds o.ino ∧ mayN o.name ∧ 1 ≤ o.ino ∧ o.ino ≤ 4611686018427387904 ∧ ns.length < 16
instance (ns : List Nm) (ds : List Nd) (o : OpM) : Decidable (creI ns ds o) := by unfold creI; infer_instance
def remD (ns : List Nm) (ds : List Nd) (s : List UInt8) : List Nd := if hasK Nm.name ns s then delK cmpI Nd.ino ds (nameI ns s) else ds
def applyI (ns : List Nm) (ds : List Nd) (o : OpM) : List Nm × List Nd :=
 if mayI ns ds then
  if o.kind = 1 then (if creI ns ds o then (insK cmpN Nm.name ns ⟨o.name, o.ino⟩, insK cmpI Nd.ino ds ⟨o.ino, 0, []⟩) else (ns, ds))
  else if o.kind = 2 ∨ o.kind = 3 ∨ o.kind = 4 ∨ o.kind = 5 then (ns, chgD ds o)
  else if o.kind = 6 then (if renOk ns o.name o.to then (insK cmpN Nm.name (remNs (delK cmpN Nm.name ns o.name) o.to) ⟨o.to, nameI ns o.name⟩, remD (delK cmpN Nm.name ns o.name) ds o.to) else (ns, ds))
  else if o.kind = 7 then (remNs ns o.name, remD ns ds o.name)
  else (ns, ds)
 else (ns, ds)
theorem insK_map {dv : List NdV} {i : Int} : (insK cmpI NdV.ino dv (newD i)).map NdV.nd = insK cmpI Nd.ino (dv.map NdV.nd) ⟨i, 0, []⟩ := by
 unfold insK
 rw [posK_map, List.map_append, List.map_cons, List.map_take, List.map_drop]
 rfl
theorem delK_map {dv : List NdV} {k : Int} : (delK cmpI NdV.ino dv k).map NdV.nd = delK cmpI Nd.ino (dv.map NdV.nd) k := by
 unfold delK
 rw [posK_map, List.map_append, List.map_take, List.map_drop]
theorem remDv_map {ns : List Nm} {dv : List NdV} {s : List UInt8} : (remDv ns dv s).map NdV.nd = remD ns (dv.map NdV.nd) s := by
 unfold remDv remD
 split
 ·exact delK_map
 ·rfl
theorem creOk_map {ns : List Nm} {dv : List NdV} {o : OpM} : creI ns (dv.map NdV.nd) o ↔ creOk ns dv o := by
 unfold creI creOk
 rw [hasK_map]
def ApK (p : List Nm × List Nd) (r : AV) (X : AH) : Prop := ∃ R, FZ X r R ∧ ImV p.1 p.2 R
theorem apply_fin {ns : List Nm} {dv : List NdV} {a b : AV} {H : AH} {p : List Nm × List Nd} (h : ImH 3 0 ns dv a b H) (h2 : H[2]? = some (some (.cells [nilSl, nilSl]))) (hp : p = (ns, dv.map NdV.nd)) : zgwZ (.ptr 0 0) (.ptr 2 0) H (ApK p) := by
 rw [ztvZ]; unfold zqmZ
 have c0 := h.obj
 have b0 : rdCells true 2 [a, b] 0 = some (.agg [a, b]) := rfl
 have ra1 := zrZ h.oa
 have rb1 := zrZ h.ob
 have hcl := (List.getElem?_eq_some_iff.1 h2).1
 have e5 : ast 2 H (.ptr 2 0) (.agg [a, b]) = some (H.set 2 (some (.cells [a, b]))) := by
  rw [ast_ptr (n := 2) (off := 0) (xs := [a, b]) (by simp [ra1, rb1]) h2 rfl (by simp)]; rfl
 simp [c0, b0, e5, hcl]
 have h3 : ImH 3 0 ns dv a b (H.set 2 (some (.cells [a, b]))) := ⟨by rw [List.getElem?_set_ne (by omega)]; exact c0, h.lo, by simpa using h.len, zbZ h.sa fun i q => List.getElem?_set_ne (by have := h.ia i q; omega), h.oa, h.ca, h.ia, zbZ h.sb fun i q => List.getElem?_set_ne (by have := h.ib i q; omega), h.ob, h.cb, h.ib, h.ab⟩
 obtain ⟨Ra, Rb, sa, sb, fz⟩ := h3.lend
 subst hp
 exact ⟨_, fz, Ra, Rb, dv, rfl, sa, sb, rfl⟩
theorem Apply_p {ns : List Nm} {ds : List Nd} {v bv : AV} {o : OpM} (hv : ImV ns ds v) (hb : Sm ns ds) (hbv : SV encU 1 o.b bv) (hbl : o.b.length ≤ 281474976710656) (hn : o.name.length ≤ 1000000000) (ht : o.to.length ≤ 1000000000) :
  ∃ R, ImV (applyI ns ds o).1 (applyI ns ds o).2 R ∧ BPure Try.prog 18 [v, .agg (opA o bv)] R := by
 have hids := hv.noIds
 refine BPure.FZ (by simp [noIdss] at hids ⊢; exact ⟨hids, by simp [opA, noIds, noIdss, hbv.1]⟩) (image_Apply_ok (K := ApK (applyI ns ds o)) ?_)
 obtain ⟨a, b, dv, rfl, sa, sb, rfl⟩ := hv
 have b1 := hb.1
 have b2 := hb.2.1
 rw [List.length_map] at b2
 have oa := SV.oneA sa
 have ob := SV.oneA sb
 have o3 := SV.oneA hbv
 unfold image_Apply
 obtain ⟨H5, e5, c0, c1, c2, l5⟩ : ∃ H5, anew [some (.cells [a, b]), some (.cells (opA o bv))] (.agg [nilSl, nilSl]) = some (.ptr 2 0, H5) ∧ H5[0]? = some (some (.cells [a, b])) ∧ H5[1]? = some (some (.cells (opA o bv))) ∧ H5[2]? = some (some (.cells [nilSl, nilSl])) ∧ H5.length = 3 :=
  ⟨[some (.cells [a, b]), some (.cells (opA o bv)), some (.cells [nilSl, nilSl])], by simp, rfl, rfl, rfl, rfl⟩
 have e4 : anew [some (.cells [a, b])] (.agg (opA o bv)) = some (.ptr 1 0, [some (.cells [a, b]), some (.cells (opA o bv))]) := by simp [opA, o3]
 have b0 : ∀ x y : AV, rdCells true 2 [x, y] 0 = some (.agg [x, y]) := fun _ _ => rfl
 simp [oa, ob, e4, e5, c0, b0]
 obtain ⟨r, H8, ⟨a', b', ew, rfl, hew, hg, ow⟩, hc⟩ := Copy_c (H := H5) sa sb (by omega) b2 (fun d hd => hb.2.2.2 d.nd (List.mem_map_of_mem hd))
 refine bC_of hc ?_
 have a1 := zrZ ow.oa
 have a2 := zrZ ow.ob
 have l8 := hg.1
 rw [l5] at ow
 have e9 : ast 2 H8 (.ptr 0 0) (.agg [a', b']) = some (H8.set 0 (some (.cells [a', b']))) := by
  rw [ast_ptr (n := 2) (off := 0) (xs := [a', b']) (by simp [a1, a2]) (hg.cells c0) rfl (by simp)]; rfl
 have i9 : ImH 3 0 ns ew a' b' (H8.set 0 (some (.cells [a', b']))) := ⟨by rw [List.getElem?_set_self (by omega)], ⟨fun q => by have := ow.ia _ q; omega, fun q => by have := ow.ib _ q; omega⟩, by rw [List.length_set]; omega, zbZ ow.sa fun i q => List.getElem?_set_ne (by have := ow.ia i q; omega), ow.oa, ow.ca, ow.ia, zbZ ow.sb fun i q => List.getElem?_set_ne (by have := ow.ib i q; omega), ow.ob, ow.cb, ow.ib, ow.ab⟩
 have k1 : (H8.set 0 (some (.cells [a', b'])))[1]? = some (some (.cells (opA o bv))) := by rw [List.getElem?_set_ne (by omega)]; exact hg.cells c1
 have k2 : (H8.set 0 (some (.cells [a', b'])))[2]? = some (some (.cells [nilSl, nilSl])) := by rw [List.getElem?_set_ne (by omega)]; exact hg.cells c2
 simp only [e9, bS_some]
 generalize H8.set 0 (some (.cells [a', b'])) = H9 at i9 k1 k2
 have d0 := i9.obj
 obtain ⟨Ra, Rb, ta, tb, fz⟩ := i9.lend
 have hsm : Sm ns (ew.map NdV.nd) := by rw [hew]; exact hb
 have keep : ∀ {H' : AH}, FrL 3 0 H9 H' → H'[2]? = some (some (.cells [nilSl, nilSl])) := fun f => by rw [f.2 2 (by omega) (by omega)]; exact k2
 rw [← hew]
 have b8 : rdCells true 8 (opA o bv) 0 = some (.agg (opA o bv)) := rfl
 have el : ew.length = dv.length := by have := congrArg List.length hew; simpa using this
 have hlw : ∀ d ∈ ew, d.nd.l.length ≤ 1000000 := fun d hd => hsm.2.2.2 d.nd (List.mem_map_of_mem hd)
 simp [d0, b0]
 refine bP_of (PCall.lend (FZs.cons fz FZs.nil) rfl (May_p ⟨Ra, Rb, ew, rfl, ta, tb, rfl⟩ hsm)) ?_
 by_cases hm : mayI ns (ew.map NdV.nd)
 ·have hs := hm.1.2.2.1
  have hd := srtK_map.1 hm.2.2.1
  have hx : ∀ x ∈ ns, hasK NdV.ino ew x.ino := fun x hx => hasK_map.1 ((mayI_doc.1 hm).2.2.2.2.1 x hx)
  simp [hm, k1, opA]
  by_cases q1 : o.kind = 1
  ·have e : applyI ns (ew.map NdV.nd) o = (creNs ns ew o, (creDv ns ew o).map NdV.nd) := by
    unfold applyI creNs creDv
    rw [if_pos hm, if_pos q1]
    by_cases hc : creOk ns ew o
    ·rw [if_pos hc, if_pos hc, if_pos (creOk_map.2 hc), insK_map]
    ·rw [if_neg hc, if_neg hc, if_neg (fun h => hc (creOk_map.1 h))]
   rw [decide_eq_true q1]
   simp only [bI_true]
   obtain ⟨r2, H2, ⟨rfl, a3, b3, i3, f3⟩, w3⟩ := create_c i9 hs hd o3 b1 (by omega) hn
   refine bC_of w3 ?_
   exact apply_fin i3 (keep f3) e
  ·have hJ8 : ∀ t : Bool, (t = true ↔ (o.kind = 2 ∨ o.kind = 3 ∨ o.kind = 4 ∨ o.kind = 5)) → zjaZ (.ptr 0 0) (.ptr 1 0) (.ptr 2 0) (I o.kind) (B t) H9 (ApK (applyI ns (ew.map NdV.nd) o)) := by
    intro t htt
    rw [image_Apply_J8_eq]; unfold zvaZ
    by_cases q2 : o.kind = 2 ∨ o.kind = 3 ∨ o.kind = 4 ∨ o.kind = 5
    ·rw [htt.2 q2]
     have e : applyI ns (ew.map NdV.nd) o = (ns, chgD (ew.map NdV.nd) o) := by
      unfold applyI
      rw [if_pos hm, if_neg q1, if_pos q2]
     simp [k1, b8]
     obtain ⟨r2, H2, ⟨rfl, a3, b3, dw, hdw, i3, f3⟩, w3⟩ := change_c i9 hs hd hbv (by omega) hbl hlw q2
     refine bC_of w3 ?_
     exact apply_fin i3 (keep f3) (by rw [hdw]; exact e)
    ·have : t = false := by cases t with
      | true => exact absurd (htt.1 rfl) q2
      | false => rfl
     subst this
     simp
     rw [image_Apply_J12_eq]; unfold ztzZ
     by_cases q6 : o.kind = 6
     ·have e : applyI ns (ew.map NdV.nd) o = (renNs ns o.name o.to, (renDv ns ew o.name o.to).map NdV.nd) := by
       unfold applyI renNs renDv
       rw [if_pos hm, if_neg q1, if_neg q2, if_pos q6]
       by_cases hc : renOk ns o.name o.to
       ·rw [if_pos hc, if_pos hc, if_pos hc, remDv_map]
       ·rw [if_neg hc, if_neg hc, if_neg hc]
      simp [q6, k1, opA]
      obtain ⟨r2, H2, ⟨rfl, a3, b3, i3, f3⟩, w3⟩ := rename_c (s := o.name) (t := o.to) i9 hs hd hx b1 (by omega) ht
      refine bC_of w3 ?_
      exact apply_fin i3 (keep f3) e
     ·simp [q6]
      rw [image_Apply_J13_eq]; unfold zudZ
      by_cases q7 : o.kind = 7
      ·have e : applyI ns (ew.map NdV.nd) o = (remNs ns o.name, (remDv ns ew o.name).map NdV.nd) := by
        unfold applyI
        rw [if_pos hm, if_neg q1, if_neg q2, if_neg q6, if_pos q7, remDv_map]
       simp [q7, k1, opA]
       obtain ⟨r2, H2, ⟨rfl, a3, b3, i3, f3⟩, w3⟩ := remove_c (s := o.name) i9 hs hd hx b1 (by omega)
       refine bC_of w3 ?_
       exact apply_fin i3 (keep f3) e
      ·have e : applyI ns (ew.map NdV.nd) o = (ns, ew.map NdV.nd) := by
        unfold applyI
        rw [if_pos hm, if_neg q1, if_neg q2, if_neg q6, if_neg q7]
       simp [q7]
       exact apply_fin i9 k2 e
   simp [q1]
   by_cases w2 : o.kind = 2
   ·simp [w2]
    have := hJ8 true (by simp [w2]); rwa [w2] at this
   ·by_cases w3 : o.kind = 3
    ·simp [w3]
     have := hJ8 true (by simp [w3]); rwa [w3] at this
    ·by_cases w4 : o.kind = 4
     ·simp [w4]
      have := hJ8 true (by simp [w4]); rwa [w4] at this
     ·simp [w2, w3, w4]
      exact hJ8 (decide (o.kind = 5)) (by simp [w2, w3, w4])
 ·have e : applyI ns (ew.map NdV.nd) o = (ns, ew.map NdV.nd) := by unfold applyI; rw [if_neg hm]
  have := apply_fin i9 k2 e
  rw [ztvZ] at this; unfold zqmZ at this
  simp [d0, b0] at this
  simp [hm]
  exact this
end Go.Proofs.Ytpnfdibgfichmaa.Av
end
/-! YtpnfdibgfichmaaAvExtH -/
section
/- Chapter 11: the document's own other size, and holes. -/
set_option linter.unusedVariables false
set_option linter.unusedSimpArgs false
set_option maxRecDepth 100000
namespace Go.Proofs.Ytpnfdibgfichmaa.Av
open Go Go.RowKit
theorem enc_set0 {x y : Ext} {j : Nat} (hn : y.no = x.no) (hj : j < 8) (h : ∀ k, k < 8 → y.b.getD k 0 = if k = j then 0 else x.b.getD k 0) : (encE x).set (1 + j) (.lit (.int .u8 0)) = encE y := by
 refine List.ext_getElem? fun q => ?_
 rw [List.getElem?_set]
 cases q with
 | zero => rw [if_neg (by omega)]; simp [encE, hn]
 | succ q =>
  by_cases hq : q < 8
  ·rw [encE_get _ hq, encE_get _ hq, h q hq, zzZ]
   by_cases c : 1 + j = q + 1
   ·rw [if_pos c, if_pos (by omega), if_pos (by omega)]; rfl
   ·rw [if_neg c, if_neg (by omega)]
  ·rw [List.getElem?_eq_none (by rw [zzZ]; omega), List.getElem?_eq_none (by rw [zzZ]; omega), zzZ]
   rw [if_neg (by omega)]
theorem wipe_none {x : Ext} {a b : Int} (h : b ≤ a ∨ b ≤ x.no * 8 ∨ x.no * 8 + 8 ≤ a) : wipeE x a b = x := ext_eq rfl fun k hk => by rw [zhdZ hk, if_neg (by omega)]
def BuildP (a v : AV) (s : Int) (F : List Ext) (w : AV) (H : AH) : Prop :=
 H[0]? = some (some (.cells [a, v])) ∧ H[1]? = some (some (.cells [I 0, nilSl])) ∧ H[2]? = some (some (.cells [I s, w])) ∧ zaZ H 9 w = some (F.flatMap encE, F.length) ∧ ownedS w = true ∧ ∀ j, j < 3 → j ∉ idS w
theorem BuildP.grew {a v w : AV} {s : Int} {F : List Ext} {H H' : AH} (h : BuildP a v s F w H) (g : Grew H H') : BuildP a v s F w H' := by
 obtain ⟨h0, h1, h2, h3, h4, h5⟩ := h
 exact ⟨g.cells h0, g.cells h1, g.cells h2, g.slice h3, h4, h5⟩
theorem BuildP.other {a v w : AV} {s : Int} {F : List Ext} {H : AH} (h : BuildP a v s F w H) {o : Nat} {x : Option AObj} (ho : 3 ≤ o) (hw : o ∉ idS w) : BuildP a v s F w (H.set o x) := by
 obtain ⟨h0, h1, h2, h3, h4, h5⟩ := h
 exact ⟨(List.getElem?_set_ne (by omega)).trans h0, (List.getElem?_set_ne (by omega)).trans h1, (List.getElem?_set_ne (by omega)).trans h2, zbZ h3 fun i hi => List.getElem?_set_ne (fun (e : o = i) => hw (e ▸ hi)), h4, h5⟩
theorem BuildP.add {a v w : AV} {s : Int} {F : List Ext} {H : AH} (h : BuildP a v s F w H) (Y : Ext) (hF : F.length ≤ 10000000) :
  ∃ r H2 H3, aap 9 16 (H ++ [some (.cells (encE Y))]) w (.sl H.length 0 1 9 (.ex 1)) = some (r, H2) ∧ H2[2]? = some (some (.cells [I s, w])) ∧ oneA r = true ∧ H3 = H2.set 2 (some (.cells [I s, r])) ∧ BuildP a v s (F ++ [Y]) r H3 ∧ H.length ≤ H3.length := by
 obtain ⟨h0, h1, h2, h3, h4, h5⟩ := h
 have g := Grew.app H [some (.cells (encE Y))]
 obtain ⟨r, H2, b1, b2, b3, b4, b5, b6⟩ := zpuZ (sz := 9) (bytes := 16) (g.slice h3) h4 (zfZ (v := .sl H.length 0 1 9 (.ex 1)) (q := (encE Y, 1)) (by simp [zaZ, zzZ, List.take_of_length_le])) (by omega)
 have hl := (List.getElem?_eq_some_iff.1 h2).1
 have k : ∀ j, j < 3 → H2[j]? = H[j]? := fun j hj => by rw [b5 j (by simp; omega) (h5 j hj), g.2 j (by omega)]
 have hid : ∀ j, j < 3 → j ∉ idS r := fun j hj h => (b6 j h).elim (h5 j hj) (fun h => by simp at h; omega)
 have hl2 : 2 < H2.length := by simp at b4; omega
 refine ⟨r, H2, _, b1, by rw [k 2 (by omega)]; exact h2, zrZ b2, rfl, ⟨?_, ?_, List.getElem?_set_self hl2, ?_, b2, hid⟩, by simp at b4; simp; omega⟩
 ·rw [List.getElem?_set_ne (by omega), k 0 (by omega)]; exact h0
 ·rw [List.getElem?_set_ne (by omega), k 1 (by omega)]; exact h1
 ·rw [zbZ b3 fun i hi => List.getElem?_set_ne (fun (e : 2 = i) => hid 2 (by omega) (e ▸ hi))]
  simp [List.flatMap_append]
theorem absl_e {H : AH} (Y : Ext) : absl H 9 1 (zrow [(.lit (.int .i64 0)), (.lit (.int .u8 0)), (.lit (.int .u8 0)), (.lit (.int .u8 0)), (.lit (.int .u8 0)), (.lit (.int .u8 0)), (.lit (.int .u8 0)), (.lit (.int .u8 0)), (.lit (.int .u8 0))] 1) [(0, 9, .agg (encE Y))] = some (.sl H.length 0 1 9 (.ex 1), H ++ [some (.cells (encE Y))]) := by
 have hl := zzZ Y
 have e : zrow [(.lit (.int .i64 0)), (.lit (.int .u8 0)), (.lit (.int .u8 0)), (.lit (.int .u8 0)), (.lit (.int .u8 0)), (.lit (.int .u8 0)), (.lit (.int .u8 0)), (.lit (.int .u8 0)), (.lit (.int .u8 0))] 1 = encE (newE 0) := rfl
 rw [e]
 have hz := zzZ (newE 0)
 have : fillR (encE (newE 0)) [(0, 9, .agg (encE Y))] = some (encE Y) := by
  rw [fillR_cons]
  simp only [cellsA_agg, encE_all, if_true]
  rw [if_pos ⟨hl, by omega⟩, zqpZ _ _ _ (by omega), List.take_zero, List.nil_append, List.drop_of_length_le (by omega), List.append_nil]
  rfl
 unfold absl
 rw [this]; rfl
theorem zvqZ {size0 : Int} {l : List Ext} {v : AV} (hv : SV encE 9 l v) (hl : l.length ≤ 1000000) (size : Int) :
  ∃ R, SV encE 9 (cL (truncC (size0, l) size)) R ∧ BPure Try.prog 78 [.agg [I size0, v], I size] (.tup [.agg [I (cS (truncC (size0, l) size)), R], B (truncC (size0, l) size).isSome]) := by
 refine BPure.cont (by simp [noIdss, noIds, hv.1]) (znuZ ?_)
 unfold zeyZ
 simp [oneA_sv hv, rdCells]
 refine bP_pure (zgdZ hv (by omega)) ?_
 by_cases h1 : mayC size0 l
 ·by_cases h2 : size < 0
  ·have hn : truncC (size0, l) size = none := if_neg (fun h => by omega)
   simp [h1, h2, ast]
   exact ContK.none hn
  ·by_cases h3 : 1099511627776 < size
   ·have hn : truncC (size0, l) size = none := if_neg (fun h => by omega)
    simp [h1, h2, h3, ast]
    exact ContK.none hn
   ·have hw : truncC (size0, l) size = some (size, truncL l size) := if_pos ⟨h1, by omega, by omega⟩
    simp [h1, h2, h3, ast]
    have hno := fun x hx => (okL_all h1.2.2 x hx)
    have hstep : ∀ (k : Nat) (y : Ext), l[k]? = some y → truncL (l.take (k + 1)) size = truncL (l.take k) size ++ if y.no * 8 < size then [wipeE y size 1099511627776] else [] := by
     intro k y hy
     unfold truncL wipeL
     rw [List.take_add_one, hy, List.filter_append, List.map_append]
     congr 1
     split <;> simp [*]
    have hlenF : ∀ k, (truncL (l.take k) size).length ≤ l.length := fun k => by
     unfold truncL wipeL
     rw [List.length_map]
     exact Nat.le_trans (List.length_filter_le _ _) (by rw [List.length_take]; omega)
    refine zkhZ (fun t x1 x2 x4 x6 x7 H => ∃ (k : Nat) (w : AV), k + t = l.length ∧ x1 = I size ∧ x2 = .ptr 0 0 ∧ x4 = .ptr 1 0 ∧ x6 = .ptr 2 0 ∧ x7 = I k ∧ BuildP (I size0) v size (truncL (l.take k) size) w H) ?_ l.length
     ⟨0, nilSl, by omega, rfl, rfl, rfl, rfl, rfl, rfl, rfl, rfl, rfl, rfl, by simp [idS]⟩
    rintro t x1 x2 x4 x6 x7 H R hR ⟨k, w, hk, rfl, rfl, rfl, rfl, rfl, hB⟩
    unfold zdaZ
    have hB' := hB
    obtain ⟨e0, e1, e2, e3, e4, e5⟩ := hB'
    have hH2 := (List.getElem?_eq_some_iff.1 e2).1
    rcases Nat.lt_or_ge k l.length with hlt | hge
    ·have hx := List.getElem?_eq_getElem hlt
     generalize l[k] = y at hx
     have hy := hno y (List.mem_of_getElem? hx)
     have g := Grew.app H [some (.cells (encE y))]
     simp [e0, hv.len, hlt, hv.idx zzZ hx rfl, -zizZ, ald_ptr e0]
     rw [ast_e (by simp) (by rfl)]
     have nxt : ∀ H2 w2, BuildP (I size0) v size (truncL (l.take (k + 1)) size) w2 H2 → zcbZ R (I size) (.ptr 0 0) (.ptr 1 0) (.ptr 2 0) (I k) H2 (ContK (truncC (size0, l) size)) := by
      intro H2 w2 h2
      rw [zkxZ]
      unfold zfhZ
      simp [abI_add (a := k) (b := 1) (by omega) (by omega)]
      exact hR (t - 1) _ _ _ _ _ _ (by omega) ⟨k + 1, w2, by omega, rfl, rfl, rfl, rfl, rfl, h2⟩
     by_cases hc : size ≤ y.no * 8
     ·simp [abI_mul (a := y.no) (b := 8) (by omega) (by omega), hc]
      refine nxt _ w ?_
      rw [hstep k y hx, if_neg (by omega), List.append_nil]
      exact hB.grew g
     ·simp [abI_mul (a := y.no) (b := 8) (by omega) (by omega), hc]
      have hxo : H.length ∉ idS w := fun h => by have := zmZ e3 _ h; omega
      refine zjfZ R (fun q z1 z2 z4 z6 z7 z8 z9 H2 => ∃ j : Nat, j + q = 8 ∧ z1 = I size ∧ z2 = .ptr 0 0 ∧ z4 = .ptr 1 0 ∧ z6 = .ptr 2 0 ∧ z7 = I k ∧ z8 = .ptr H.length 0 ∧ z9 = I j ∧ BuildP (I size0) v size (truncL (l.take k) size) w H2 ∧ H2[H.length]? = some (some (.cells (encE (wipeE y size (y.no * 8 + j)))))) ?_ 8
       ⟨0, rfl, rfl, rfl, rfl, rfl, rfl, rfl, rfl, hB.grew g, by rw [wipe_none (.inr (.inl (by omega)))]; simp⟩
      rintro q z1 z2 z4 z6 z7 z8 z9 H2 R2 hR2 ⟨j, hj, rfl, rfl, rfl, rfl, rfl, rfl, rfl, hB2, hxc⟩
      unfold zcvZ
      have hxol := (List.getElem?_eq_some_iff.1 hxc).1
      have nxt2 : ∀ H3, BuildP (I size0) v size (truncL (l.take k) size) w H3 → H3[H.length]? = some (some (.cells (encE (wipeE y size (y.no * 8 + ((j + 1 : Nat) : Int)))))) → j < 8 → zccZ R2 R (I size) (.ptr 0 0) (.ptr 1 0) (.ptr 2 0) (I k) (.ptr H.length 0) (I j) H3 (ContK (truncC (size0, l) size)) := by
       intro H3 h1 h2 h3
       rw [zktZ]
       unfold zfmZ
       simp [abI_add (a := j) (b := 1) (by omega) (by omega)]
       exact hR2 (q - 1) _ _ _ _ _ _ _ _ (by omega) ⟨j + 1, by omega, rfl, rfl, rfl, rfl, rfl, rfl, rfl, h1, h2⟩
      rcases Nat.lt_or_ge j 8 with hlj | hgj
      ·have hlj' : (j : Int) < 8 := by omega
       have hn0 : (encE (wipeE y size (y.no * 8 + j)))[0]? = some (I y.no) := rfl
       simp [hlj', hxc, hn0, abI_mul (a := y.no) (b := 8) (by omega) (by omega), abI_add (a := y.no * 8) (b := j) (by omega) (by omega)]
       by_cases hs : size ≤ y.no * 8 + j
       ·have e1 : aixA 8 1 (.ptr H.length 1) (I j) = some (.ptr H.length (1 + j)) := by
         simp [aixA, aint]; omega
        have hwl := zzZ (wipeE y size (y.no * 8 + j))
        simp [hs, e1]
        rw [ast_ptr (n := 1) (off := 1 + j) (xs := [.lit (.int .u8 0)]) rfl hxc rfl (by omega)]
        simp
        refine nxt2 _ (hB2.other (by omega) hxo) ?_ hlj
        rw [List.getElem?_set_self hxol, enc_set0 (x := wipeE y size (y.no * 8 + j)) (y := wipeE y size (y.no * 8 + ((j + 1 : Nat) : Int))) rfl hlj]
        intro a ha
        rw [zhdZ ha, zhdZ ha]
        by_cases c1 : a = j
        ·rw [if_pos c1, if_pos (by omega)]
        ·rw [if_neg c1]
         by_cases c2 : size ≤ y.no * 8 + (a : Int) ∧ y.no * 8 + (a : Int) < y.no * 8 + j
         ·rw [if_pos c2, if_pos (by omega)]
         ·rw [if_neg c2, if_neg (by omega)]
       ·simp [hs]
        refine nxt2 _ hB2 ?_ hlj
        rw [hxc, wipe_none (.inl (by omega)), wipe_none (.inl (by omega))]
      ·have : j = 8 := by omega
       subst this
       have hY : wipeE y size (y.no * 8 + ((8 : Nat) : Int)) = wipeE y size 1099511627776 := ext_eq rfl fun a ha => by
        rw [zhdZ ha, zhdZ ha]
        by_cases c2 : size ≤ y.no * 8 + (a : Int)
        ·rw [if_pos (by omega), if_pos (by omega)]
        ·rw [if_neg (by omega), if_neg (by omega)]
       rw [hY] at hxc
       obtain ⟨d0, d1, d2, d3, d4, d5⟩ := hB2
       obtain ⟨r, H4, H5, q1, q2, q3, q4, q5, q6⟩ := BuildP.add ⟨d0, d1, d2, d3, d4, d5⟩ (wipeE y size 1099511627776) (by have := hlenF k; omega)
       simp only [show ¬ ((8 : Nat) : Int) < 8 by omega, abI_lss, bO_some, decide_false, bB_bool, zdlZ, zdnZ, Nat.zero_add, Nat.add_zero, ald_ptr d2, zbcZ, ald_ptr hxc, rd_e']
       simp only [List.getElem?_cons_succ, List.getElem?_cons_zero, bO_some, absl_e, bH_some, q1]
       rw [ast_ptr (n := 1) (off := 1) (xs := [r]) (cs := [I size, w]) (zbhZ q3) q2 rfl (by simp)]
       simp
       refine nxt _ r ?_
       rw [hstep k y hx, if_pos (by omega)]
       rw [q4] at q5
       exact q5
    ·have : k = l.length := by omega
     subst this
     have hko := zrZ e4
     simp [hv.len, -zizZ, ald_ptr e0, ald_ptr e2, rdCells]
     rw [ast_ptr (n := 2) (off := 0) (xs := [I size, w]) (cs := [I 0, nilSl]) (by simp [hko]) e1 rfl (by simp)]
     simp [show 1 < H.length by omega, rdCells]
     rw [List.take_length] at e3
     exact ContK.some hw (zbZ e3 fun i hi => by
      have h2 : 3 ≤ i := Nat.le_of_not_lt fun h => e5 i h hi
      rw [List.getElem?_set_ne (by omega)])
 ·have hn : truncC (size0, l) size = none := if_neg (fun h => h1 h.1)
  simp [h1, ast]
  exact ContK.none hn
theorem ref_PunchContent_p {size : Int} {l : List Ext} {v : AV} (hv : SV encE 9 l v) (hl : l.length ≤ 1000000) (pos n : Int) :
  ∃ R, SV encE 9 (cL (punchC (size, l) pos n)) R ∧ BPure Try.prog 80 [.agg [I size, v], I pos, I n] (.tup [.agg [I (cS (punchC (size, l) pos n)), R], B (punchC (size, l) pos n).isSome]) := by
 refine BPure.cont (by simp [noIdss, noIds, hv.1]) (zqsZ ?_)
 unfold zggZ
 simp [oneA_sv hv, rdCells]
 refine bP_pure (zgdZ hv (by omega)) ?_
 by_cases h1 : mayC size l
 ·by_cases h2 : maySp pos n
  ·have hw : punchC (size, l) pos n = some (size, punchL l pos n) := if_pos ⟨h1, h2⟩
   obtain ⟨g1, g2, g3, g4⟩ := h2
   simp [h1, show ¬ pos < 0 by omega, show ¬ n < 1 by omega, show ¬ 1099511627776 < n by omega, abI_sub (a := 1099511627776) (b := n) (by omega) (by omega), show ¬ 1099511627776 - n < pos by omega, ast]
   have hno := fun x hx => (okL_all h1.2.2 x hx)
   have hstep : ∀ (k : Nat) (y : Ext), l[k]? = some y → punchL (l.take (k + 1)) pos n = punchL (l.take k) pos n ++ if pos ≤ y.no * 8 ∧ y.no * 8 + 8 ≤ pos + n then [] else [wipeE y pos (pos + n)] := by
    intro k y hy
    unfold punchL wipeL gone
    rw [List.take_add_one, hy, List.filter_append, List.map_append]
    congr 1
    by_cases c1 : pos ≤ y.no * 8 <;> by_cases c2 : y.no * 8 + 8 ≤ pos + n <;> simp [c1, c2]
   have hlenF : ∀ k, (punchL (l.take k) pos n).length ≤ l.length := fun k => by
    unfold punchL wipeL
    rw [List.length_map]
    exact Nat.le_trans (List.length_filter_le _ _) (by rw [List.length_take]; omega)
   refine zmfZ (fun t x1 x2 x3 x6 x8 x9 H => ∃ (k : Nat) (w : AV), k + t = l.length ∧ x1 = I pos ∧ x2 = I n ∧ x3 = .ptr 0 0 ∧ x6 = .ptr 1 0 ∧ x8 = .ptr 2 0 ∧ x9 = I k ∧ BuildP (I size) v size (punchL (l.take k) pos n) w H) ?_ l.length
    ⟨0, nilSl, by omega, rfl, rfl, rfl, rfl, rfl, rfl, rfl, rfl, rfl, rfl, rfl, by simp [idS]⟩
   rintro t x1 x2 x3 x6 x8 x9 H R hR ⟨k, w, hk, rfl, rfl, rfl, rfl, rfl, rfl, hB⟩
   unfold zdyZ
   have hB' := hB
   obtain ⟨e0, e1, e2, e3, e4, e5⟩ := hB'
   have hH2 := (List.getElem?_eq_some_iff.1 e2).1
   rcases Nat.lt_or_ge k l.length with hlt | hge
   ·have hx := List.getElem?_eq_getElem hlt
    generalize l[k] = y at hx
    have hy := hno y (List.mem_of_getElem? hx)
    have g := Grew.app H [some (.cells (encE y))]
    simp [e0, hv.len, hlt, hv.idx zzZ hx rfl, -zizZ, ald_ptr e0]
    rw [ast_e (by simp) (by rfl)]
    simp
    have nxt : ∀ H2 w2, BuildP (I size) v size (punchL (l.take (k + 1)) pos n) w2 H2 → zcoZ R (I pos) (I n) (.ptr 0 0) (.ptr 1 0) (.ptr 2 0) (I k) H2 (ContK (punchC (size, l) pos n)) := by
     intro H2 w2 h2
     rw [znaZ]
     unfold zgjZ
     simp [abI_add (a := k) (b := 1) (by omega) (by omega)]
     exact hR (t - 1) _ _ _ _ _ _ _ (by omega) ⟨k + 1, w2, by omega, rfl, rfl, rfl, rfl, rfl, rfl, h2⟩
    have hxo : H.length ∉ idS w := fun h => by have := zmZ e3 _ h; omega
    refine zlwZ R (fun q z1 z2 z3 z6 z8 z9 z10 z11 z12 H2 => ∃ j : Nat, j + q = 8 ∧ z1 = I pos ∧ z2 = I n ∧ z3 = .ptr 0 0 ∧ z6 = .ptr 1 0 ∧ z8 = .ptr 2 0 ∧ z9 = I k ∧ z10 = .ptr H.length 0 ∧ z11 = I (max 0 (min (pos + n) (y.no * 8 + j) - max pos (y.no * 8))) ∧ z12 = I j ∧ BuildP (I size) v size (punchL (l.take k) pos n) w H2 ∧
     H2[H.length]? = some (some (.cells (encE (wipeE y pos (min (pos + n) (y.no * 8 + j))))))) ?_ 8
     ⟨0, rfl, rfl, rfl, rfl, rfl, rfl, rfl, rfl, by rw [show max 0 (min (pos + n) (y.no * 8 + ((0 : Nat) : Int)) - max pos (y.no * 8)) = 0 by omega], rfl, hB.grew g, by rw [wipe_none (by omega)]; simp⟩
    rintro q z1 z2 z3 z6 z8 z9 z10 z11 z12 H2 R2 hR2 ⟨j, hj, rfl, rfl, rfl, rfl, rfl, rfl, rfl, rfl, rfl, hB2, hxc⟩
    unfold zdqZ
    have hxol := (List.getElem?_eq_some_iff.1 hxc).1
    have nxt2 : ∀ H3 c, c = max 0 (min (pos + n) (y.no * 8 + ((j + 1 : Nat) : Int)) - max pos (y.no * 8)) → BuildP (I size) v size (punchL (l.take k) pos n) w H3 → H3[H.length]? = some (some (.cells (encE (wipeE y pos (min (pos + n) (y.no * 8 + ((j + 1 : Nat) : Int))))))) → j < 8 → zcqZ R2 R (I pos) (I n) (.ptr 0 0) (.ptr 1 0) (.ptr 2 0) (I k) (.ptr H.length 0) (I c) (I j) H3 (ContK (punchC (size, l) pos n)) := by
     rintro H3 c rfl h1 h2 h3
     rw [znhZ]
     unfold zgmZ
     simp [abI_add (a := j) (b := 1) (by omega) (by omega)]
     exact hR2 (q - 1) _ _ _ _ _ _ _ _ _ _ (by omega) ⟨j + 1, by omega, rfl, rfl, rfl, rfl, rfl, rfl, rfl, rfl, rfl, h1, h2⟩
    rcases Nat.lt_or_ge j 8 with hlj | hgj
    ·have hlj' : (j : Int) < 8 := by omega
     have hn0 : (encE (wipeE y pos (min (pos + n) (y.no * 8 + j))))[0]? = some (I y.no) := rfl
     by_cases hs : pos ≤ y.no * 8 + j ∧ y.no * 8 + j < pos + n
     ·have e1 : aixA 8 1 (.ptr H.length 1) (I j) = some (.ptr H.length (1 + j)) := by
       simp [aixA, aint]; omega
      have hwl := zzZ (wipeE y pos (min (pos + n) (y.no * 8 + j)))
      simp [hlj', hxc, hn0, abI_mul (a := y.no) (b := 8) (by omega) (by omega), abI_add (a := y.no * 8) (b := j) (by omega) (by omega), abI_add (a := pos) (b := n) (by omega) (by omega), hs.1, hs.2, e1]
      rw [ast_ptr (n := 1) (off := 1 + j) (xs := [.lit (.int .u8 0)]) rfl hxc rfl (by omega)]
      simp
      rw [abI_add (by omega) (by omega)]
      simp
      refine nxt2 _ _ (by omega) (hB2.other (by omega) hxo) ?_ hlj
      rw [List.getElem?_set_self hxol, enc_set0 (x := wipeE y pos (min (pos + n) (y.no * 8 + j))) (y := wipeE y pos (min (pos + n) (y.no * 8 + ((j + 1 : Nat) : Int)))) rfl hlj]
      intro a ha
      rw [zhdZ ha, zhdZ ha]
      by_cases c1 : a = j
      ·rw [if_pos c1, if_pos (by omega)]
      ·rw [if_neg c1]
       by_cases c2 : pos ≤ y.no * 8 + (a : Int) ∧ y.no * 8 + (a : Int) < min (pos + n) (y.no * 8 + j)
       ·rw [if_pos c2, if_pos (by omega)]
       ·rw [if_neg c2, if_neg (by omega)]
     ·have hsame : encE (wipeE y pos (min (pos + n) (y.no * 8 + ((j + 1 : Nat) : Int)))) = encE (wipeE y pos (min (pos + n) (y.no * 8 + j))) := by
       congr 1
       refine ext_eq rfl fun a ha => ?_
       rw [zhdZ ha, zhdZ ha]
       by_cases c2 : pos ≤ y.no * 8 + (a : Int) ∧ y.no * 8 + (a : Int) < min (pos + n) (y.no * 8 + j)
       ·rw [if_pos c2, if_pos (by omega)]
       ·rw [if_neg c2, if_neg (by omega)]
      by_cases hs1 : pos ≤ y.no * 8 + j
      ·have hs2 : ¬ y.no * 8 + j < pos + n := fun h => hs ⟨hs1, h⟩
       simp [hlj', hxc, hn0, abI_mul (a := y.no) (b := 8) (by omega) (by omega), abI_add (a := y.no * 8) (b := j) (by omega) (by omega), abI_add (a := pos) (b := n) (by omega) (by omega), hs1, hs2]
       exact nxt2 _ _ (by omega) hB2 (by rw [hsame]; exact hxc) hlj
      ·simp [hlj', hxc, hn0, abI_mul (a := y.no) (b := 8) (by omega) (by omega), abI_add (a := y.no * 8) (b := j) (by omega) (by omega), abI_add (a := pos) (b := n) (by omega) (by omega), hs1]
       exact nxt2 _ _ (by omega) hB2 (by rw [hsame]; exact hxc) hlj
    ·have : j = 8 := by omega
     subst this
     have hY : wipeE y pos (min (pos + n) (y.no * 8 + ((8 : Nat) : Int))) = wipeE y pos (pos + n) := ext_eq rfl fun a ha => by
      rw [zhdZ ha, zhdZ ha]
      by_cases c2 : pos ≤ y.no * 8 + (a : Int) ∧ y.no * 8 + (a : Int) < pos + n
      ·rw [if_pos (by omega), if_pos (by omega)]
      ·rw [if_neg (by omega), if_neg (by omega)]
     rw [hY] at hxc
     simp only [show ¬ ((8 : Nat) : Int) < 8 by omega, abI_lss, bO_some, decide_false, bB_bool, zdlZ]
     by_cases hg : pos ≤ y.no * 8 ∧ y.no * 8 + 8 ≤ pos + n
     ·have hc : ¬ max 0 (min (pos + n) (y.no * 8 + ((8 : Nat) : Int)) - max pos (y.no * 8)) < 8 := by omega
      simp only [hc, decide_false, zdlZ]
      refine nxt _ w ?_
      rw [hstep k y hx, if_pos hg, List.append_nil]
      exact hB2
     ·have hc : max 0 (min (pos + n) (y.no * 8 + ((8 : Nat) : Int)) - max pos (y.no * 8)) < 8 := by omega
      simp only [hc, decide_true, bI_true]
      obtain ⟨d0, d1, d2, d3, d4, d5⟩ := hB2
      obtain ⟨r, H4, H5, q1, q2, q3, q4, q5, q6⟩ := BuildP.add ⟨d0, d1, d2, d3, d4, d5⟩ (wipeE y pos (pos + n)) (by have := hlenF k; omega)
      simp only [zdnZ, Nat.zero_add, Nat.add_zero, ald_ptr d2, zbcZ, ald_ptr hxc, rd_e']
      simp only [List.getElem?_cons_succ, List.getElem?_cons_zero, bO_some, absl_e, bH_some, q1]
      rw [ald_ptr d2]
      simp only [zbcZ, List.getElem?_cons_succ, List.getElem?_cons_zero, bO_some, bH_some, q1]
      rw [ast_ptr (n := 1) (off := 1) (xs := [r]) (cs := [I size, w]) (zbhZ q3) q2 rfl (by simp)]
      simp
      refine nxt _ r ?_
      rw [hstep k y hx, if_neg hg]
      rw [q4] at q5
      exact q5
   ·have : k = l.length := by omega
    subst this
    have hko := zrZ e4
    simp [hv.len, -zizZ, ald_ptr e0, ald_ptr e2, rdCells]
    rw [ast_ptr (n := 2) (off := 0) (xs := [I size, w]) (cs := [I 0, nilSl]) (by simp [hko]) e1 rfl (by simp)]
    simp [show 1 < H.length by omega, rdCells]
    rw [List.take_length] at e3
    exact ContK.some hw (zbZ e3 fun i hi => by
     have h2 : 3 ≤ i := Nat.le_of_not_lt fun h => e5 i h hi
     rw [List.getElem?_set_ne (by omega)])
  ·have hn : punchC (size, l) pos n = none := if_neg (fun h => h2 h.2)
   by_cases g1 : pos < 0
   ·simp [h1, g1, ast]
    exact ContK.none hn
   ·by_cases g2 : n < 1
    ·simp [h1, g1, g2, ast]
     exact ContK.none hn
    ·by_cases g3 : 1099511627776 < n
     ·simp [h1, g1, g2, g3, ast]
      exact ContK.none hn
     ·have g4 : 1099511627776 - n < pos := Int.lt_of_not_ge fun h => h2 ⟨by omega, by omega, by omega, h⟩
      simp [h1, g1, g2, g3, abI_sub (a := 1099511627776) (b := n) (by omega) (by omega), g4, ast]
      exact ContK.none hn
 ·have hn : punchC (size, l) pos n = none := if_neg (fun h => h1 h.1)
  simp [h1, ast]
  exact ContK.none hn
end Go.Proofs.Ytpnfdibgfichmaa.Av
end
/-! YtpnfdibgfichmaaAvIz -/
section
/- Chapter 12: the document's changes. -/
set_option linter.unusedVariables false
set_option linter.unusedSimpArgs false
set_option maxRecDepth 100000
namespace Go.Proofs.Ytpnfdibgfichmaa.Av
open Go Go.RowKit

def GrN (N : Nat) (H H' : AH) : Prop := H.length ≤ H'.length ∧ ∀ i, i < N → H'[i]? = H[i]?
theorem GrN.refl (N : Nat) (H : AH) : GrN N H H := ⟨Nat.le_refl _, fun _ _ => rfl⟩
theorem GrN.trans {N : Nat} {A B C : AH} (h : GrN N A B) (k : GrN N B C) : GrN N A C := ⟨Nat.le_trans h.1 k.1, fun i hi => (k.2 i hi).trans (h.2 i hi)⟩
theorem GrN.of {N : Nat} {A B : AH} (h : Grew A B) (hN : N ≤ A.length) : GrN N A B := ⟨h.1, fun i hi => h.2 i (by omega)⟩
structure OwN (N sz : Nat) (cs : List AV) (n : Nat) (r : AV) (H : AH) : Prop where
 s : zaZ H sz r = some (cs, n)
 o : ownedS r = true
 i : ∀ i ∈ idS r, N ≤ i
 c : capOk r n
theorem app0 {sz bytes : Nat} {H : AH} {x : AV} {ds : List AV} {m : Nat} (hx : zcwZ H sz x = some (ds, m)) (hb : m * bytes ≤ 140737488355328) : ∃ r H', aap sz bytes H nilSl x = some (r, H') ∧ OwN H.length sz ds m r H' ∧ Grew H H' := by
 have h0 : zaZ H sz nilSl = some ([], 0) := rfl
 obtain ⟨r, H2, a1, a2, a3, a4, a5, a6⟩ := zpuZ (bytes := bytes) h0 rfl hx (by rw [Nat.zero_add]; exact hb)
 have a7 := aap_cap h0 rfl hx (by simp [capOk]) a1
 exact ⟨r, H2, a1, ⟨by simpa using a3, a2, fun i hi => (a6 i hi).elim (by simp [idS]) id, by simpa using a7⟩, a4, fun i hi => a5 i hi (by simp [idS])⟩
theorem app1 {N sz bytes : Nat} {H : AH} {s x : AV} {cs ds : List AV} {n m : Nat} (hs : OwN N sz cs n s H) (hx : zcwZ H sz x = some (ds, m)) (hN : N ≤ H.length) (hb : (n + m) * bytes ≤ 140737488355328) : ∃ r H', aap sz bytes H s x = some (r, H') ∧ OwN N sz (cs ++ ds) (n + m) r H' ∧ GrN N H H' := by
 obtain ⟨r, H2, a1, a2, a3, a4, a5, a6⟩ := zpuZ (bytes := bytes) hs.s hs.o hx hb
 have a7 := aap_cap hs.s hs.o hx hs.c a1
 exact ⟨r, H2, a1, ⟨a3, a2, fun i hi => (a6 i hi).elim (hs.i i) (fun q => by omega), a7⟩, a4, fun i hi => a5 i (by omega) (fun q => by have := hs.i i q; omega)⟩
theorem OwN.grew {N sz n : Nat} {cs : List AV} {r : AV} {H H' : AH} (h : OwN N sz cs n r H) (g : Grew H H') : OwN N sz cs n r H' := ⟨g.slice h.s, h.o, h.i, h.c⟩
theorem part_spec {α : Type} {enc : α → List AV} {sz : Nat} (hsz : ∀ x, (enc x).length = sz) {H : AH} {v : AV} {l : List α} (h : zaZ H sz v = some (l.flatMap enc, l.length)) {k : Nat} (hk : k ≤ l.length) :
  (∃ r, aslS sz v none (some (I k)) none = some r ∧ zaZ H sz r = some ((l.take k).flatMap enc, k) ∧ ∀ i ∈ idS r, i ∈ idS v) ∧ ∃ r, aslS sz v (some (I k)) none none = some r ∧ zaZ H sz r = some ((l.drop k).flatMap enc, l.length - k) ∧ ∀ i ∈ idS r, i ∈ idS v := by
 constructor
 ·obtain ⟨r, h1, h2, h3, -⟩ := aslS_spec h (lo := none) (hi := some (I k)) (l := 0) (k := k) rfl (by simp [abnd]) (by omega) hk
  refine ⟨r, h1, ?_, h3⟩
  rw [h2, Nat.zero_mul, List.drop_zero, Nat.sub_zero, zsvZ hsz]
 ·obtain ⟨r, h1, h2, h3, -⟩ := aslS_spec h (lo := some (I k)) (hi := none) (l := k) (k := l.length) (by simp [abnd]) rfl hk (Nat.le_refl _)
  refine ⟨r, h1, ?_, h3⟩
  rw [h2, zqlZ hsz, List.take_of_length_le]
  rw [zclZ h2 |> fun e => (by
   have := zqlZ hsz l k
   rw [← this, List.length_drop, zclZ h, Nat.mul_comm, ← Nat.mul_comm sz, ← Nat.mul_sub, Nat.mul_comm] : ((l.drop k).flatMap enc).length = (l.length - k) * sz)]
  exact Nat.le_refl _
theorem called_c {L oi : Nat} {ns : List Nm} {dv : List NdV} {a b : AV} {H : AH} {s : List UInt8} {no : Int} (h : ImH L oi ns dv a b H) (hn : ns.length ≤ 100000) :
  ∃ r H', ImP L oi H (insK cmpN Nm.name ns ⟨s, no⟩) dv r H' ∧ BCall Try.prog 45 [.ptr oi 0, S (bstr s), I no] H r H' := zvoZ (by
 unfold znbZ
 have c0 := h.obj
 refine zriZ (fun n x0 x1 x2 x6 H' => ∃ k : Nat, k + n = ns.length ∧ x0 = .ptr oi 0 ∧ x1 = S (bstr s) ∧ x2 = I no ∧ x6 = I k ∧ H' = H ∧ ∀ m y, m < k → ns[m]? = some y → cmpN y.name s < 0) ?_ ns.length ⟨0, by omega, rfl, rfl, rfl, rfl, rfl, by omega⟩
 rintro n x0 x1 x2 x6 H' R hR ⟨k, hk, rfl, rfl, rfl, rfl, rfl, hlt⟩
 unfold zguZ
 have ln := zosZ h.sa
 have fin : posK cmpN Nm.name ns s = k →
   bO (aslS 2 a none (some (I k)) none) (fun v31 => bH (aap 2 24 H' (.lit (.slice none 0 0)) v31) fun v32 H33 =>
    bO (abl [(.lit (.string ⟨#[]⟩)), (.lit (.int .i64 0))] [(0, 1, S (bstr s)), (1, 1, I no)]) fun v34 => bH (absl H33 2 1 (zrow [(.lit (.string ⟨#[]⟩)), (.lit (.int .i64 0))] 1) [(0, 2, v34)]) fun v35 H36 => bH (aap 2 24 H36 v32 v35) fun v37 H38 =>
    bO (zgZ (.ptr oi 0)) fun v39 => bO (ashift 0 v39) fun v40 => bO (ald false 1 H38 v40) fun v41 => bO (aslS 2 v41 (some (I k)) none none) fun v42 => bH (aap 2 24 H38 v37 v42) fun v43 H44 =>
    bO (zgZ (.ptr oi 0)) fun v45 => bO (ashift 0 v45) fun v46 => bS (ast 1 H44 v46 v43) fun H47 => ImP L oi H' (insK cmpN Nm.name ns ⟨s, no⟩) dv (.tup []) H47) := by
  intro hp
  obtain ⟨⟨s1, e1, t1, i1⟩, -⟩ := part_spec zejZ h.sa (show k ≤ ns.length by omega)
  obtain ⟨r1, H1, e2, w1, g1⟩ := app0 (bytes := 24) (zfZ t1) (by omega)
  have g2 := Grew.app H1 [some (.cells (encN ⟨s, no⟩))]
  have w2 := w1.grew g2
  have hl1 := g1.1
  have x1 : zcwZ (H1 ++ [some (.cells (encN ⟨s, no⟩))]) 2 (.sl H1.length 0 1 2 (.ex 1)) = some (encN ⟨s, no⟩, 1) := zfZ (by rw [zxZ (c := encN ⟨s, no⟩) (by simp) (by simp [encN])]; rfl)
  obtain ⟨r2, H2, e3, w3, g3⟩ := app1 (bytes := 24) w2 x1 (by simp; omega) (by omega)
  have gg : GrN H'.length H' H2 := (GrN.of (g1.trans g2) (Nat.le_refl _)).trans g3
  have hol := (List.getElem?_eq_some_iff.1 c0).1
  have c2 : H2[oi]? = some (some (.cells [a, b])) := by rw [gg.2 oi hol]; exact c0
  have sa2 : zaZ H2 2 a = some (ns.flatMap encN, ns.length) := zbZ h.sa fun i hi => gg.2 i (zmZ h.sa i hi)
  obtain ⟨-, ⟨s2, e4, t2, i2⟩⟩ := part_spec zejZ sa2 (show k ≤ ns.length by omega)
  obtain ⟨r3, H3, e5, w4, g4⟩ := app1 (bytes := 24) w3 (zfZ t2) gg.1 (by omega)
  have el := insK_len (c := cmpN) (key := Nm.name) (l := ns) (x := ⟨s, no⟩)
  have ev : (ns.take k).flatMap encN ++ encN ⟨s, no⟩ ++ (ns.drop k).flatMap encN = (insK cmpN Nm.name ns ⟨s, no⟩).flatMap encN := by
   unfold insK
   rw [show posK cmpN Nm.name ns (Nm.name ⟨s, no⟩) = k from hp, List.flatMap_append, List.flatMap_cons, List.append_assoc]
  have en : k + 1 + (ns.length - k) = (insK cmpN Nm.name ns ⟨s, no⟩).length := by omega
  have g5 := gg.trans g4
  obtain ⟨H4, e6, n1, n2⟩ := h.newA (ms := insK cmpN Nm.name ns ⟨s, no⟩) (H' := H3) (r := r3) g5.1 (fun i hi _ => g5.2 i hi) (by rw [← ev, ← en]; exact w4.s) w4.o (by rw [← en]; exact w4.c) (fun i hi => .inr (w4.i i hi))
  have e7 : absl H1 2 1 (zrow [(.lit (.string ⟨#[]⟩)), (.lit (.int .i64 0))] 1) [(0, 2, .agg (encN ⟨s, no⟩))] = some (.sl H1.length 0 1 2 (.ex 1), H1 ++ [some (.cells (encN ⟨s, no⟩))]) := rfl
  have e8 : abl [(.lit (.string ⟨#[]⟩)), (.lit (.int .i64 0))] [(0, 1, S (bstr s)), (1, 1, I no)] = some (.agg (encN ⟨s, no⟩)) := rfl
  have e9 : ald false 1 H2 (.ptr oi 0) = some a := by rw [ald_ptr c2]; rfl
  simp only [e1, bO_some, e2, bH_some, e8, e7, e3]
  show bO (some (AV.ptr oi 0)) _
  simp only [bO_some]
  show bO (some (AV.ptr oi 0)) _
  simp only [bO_some, e9, e4, e5, bH_some]
  show bO (some (AV.ptr oi 0)) _
  simp only [bO_some]
  show bO (some (AV.ptr oi 0)) _
  simp only [bO_some, e6, bS_some]
  exact ⟨rfl, r3, b, n1, n2⟩
 rcases Nat.lt_or_ge k ns.length with hkl | hkl
 ·have hx := List.getElem?_eq_getElem hkl
  generalize ns[k] = x at hx
  obtain ⟨o, off, cells, u1, u2, u3, u4, u5, -⟩ := own_at zejZ (by omega) h.sa h.oa hx
  have u50 := u5 0 (by omega)
  rw [Nat.add_zero] at u50
  by_cases hc : cmpN x.name s < 0
  ·simp [c0, ln, hkl, u1, u3, u50, encN, abT_lss, hc, abI_add (a := k) (b := 1) (by omega) (by omega)]
   exact hR (n - 1) _ _ _ _ _ (by omega) ⟨k + 1, by omega, rfl, rfl, rfl, by simp, rfl, fun m y hm hy => by
    by_cases c2 : m = k
    ·rw [c2, hx] at hy; injection hy with hy; rw [← hy]; exact hc
    ·exact hlt m y (by omega) hy⟩
  ·have := fin (posK_eq (by omega) hlt (fun y hy => by rw [hx] at hy; injection hy with hy; rw [← hy]; exact hc))
   simp [c0] at this
   simp [c0, ln, hkl, u1, u3, u50, encN, abT_lss, hc]
   exact this
 ·have := fin (posK_eq (by omega) hlt (fun y hy => by have := (List.getElem?_eq_some_iff.1 hy).1; omega))
  simp [c0] at this
  simp [c0, ln, show ¬ k < ns.length by omega]
  exact this)
theorem Sm.sub {ns ms : List Nm} {ds es : List Nd} (h : Sm ns ds) (h1 : ms.Sublist ns) (h2 : es.Sublist ds) : Sm ms es :=
 ⟨Nat.le_trans h1.length_le h.1, Nat.le_trans h2.length_le h.2.1, fun x hx => h.2.2.1 x (h1.subset hx), fun d hd => h.2.2.2 d (h2.subset hd)⟩
theorem cutN {L oi k : Nat} {ns : List Nm} {dv : List NdV} {a b : AV} {H : AH} (h : ImH L oi ns dv a b H) (hk : k < ns.length) (hn : ns.length ≤ 100000) :
  ∃ s1 r1 H1 s2 r2 H2 H3, aslS 2 a none (some (I k)) none = some s1 ∧ aap 2 24 H nilSl s1 = some (r1, H1) ∧ H1[oi]? = some (some (.cells [a, b])) ∧ aslS 2 a (some (I ((k : Int) + 1))) none none = some s2 ∧ aap 2 24 H1 r1 s2 = some (r2, H2) ∧ ast 1 H2 (.ptr oi 0) r2 = some H3 ∧ ImH L oi (ns.take k ++ ns.drop (k + 1)) dv r2 b H3 ∧ FrL L oi H H3 := by
 have c0 := h.obj
 obtain ⟨⟨s1, e1, t1, i1⟩, -⟩ := part_spec zejZ h.sa (show k ≤ ns.length by omega)
 obtain ⟨r1, H1, e2, w1, g1⟩ := app0 (bytes := 24) (zfZ t1) (by omega)
 have sa1 := g1.slice h.sa
 obtain ⟨-, ⟨s2, e4, t2, i2⟩⟩ := part_spec zejZ sa1 (show k + 1 ≤ ns.length by omega)
 obtain ⟨r2, H2, e5, w4, g4⟩ := app1 (bytes := 24) w1 (zfZ t2) g1.1 (by omega)
 have g5 := (GrN.of g1 (Nat.le_refl _)).trans g4
 have en : k + (ns.length - (k + 1)) = (ns.take k ++ ns.drop (k + 1)).length := by simp; omega
 obtain ⟨H3, e6, n1, n2⟩ := h.newA (ms := ns.take k ++ ns.drop (k + 1)) (H' := H2) (r := r2) g5.1 (fun i hi _ => g5.2 i hi) (by rw [List.flatMap_append, ← en]; exact w4.s) w4.o (by rw [← en]; exact w4.c) (fun i hi => .inr (w4.i i hi))
 exact ⟨s1, r1, H1, s2, r2, H2, H3, e1, e2, g1.cells c0, e4, e5, e6, n1, n2⟩
theorem cutD {L oi k : Nat} {ns : List Nm} {dv : List NdV} {a b : AV} {H : AH} (h : ImH L oi ns dv a b H) (hk : k < dv.length) (hn : dv.length ≤ 100000) :
  ∃ s1 r1 H1 s2 r2 H2 H3, aslS 3 b none (some (I k)) none = some s1 ∧ aap 3 40 H nilSl s1 = some (r1, H1) ∧ H1[oi]? = some (some (.cells [a, b])) ∧ aslS 3 b (some (I ((k : Int) + 1))) none none = some s2 ∧ aap 3 40 H1 r1 s2 = some (r2, H2) ∧ ast 1 H2 (.ptr oi 1) r2 = some H3 ∧ ImH L oi ns (dv.take k ++ dv.drop (k + 1)) a r2 H3 ∧ FrL L oi H H3 := by
 have c0 := h.obj
 obtain ⟨⟨s1, e1, t1, i1⟩, -⟩ := part_spec zehZ h.sb (show k ≤ dv.length by omega)
 obtain ⟨r1, H1, e2, w1, g1⟩ := app0 (bytes := 40) (zfZ t1) (by omega)
 have sa1 := g1.slice h.sb
 obtain ⟨-, ⟨s2, e4, t2, i2⟩⟩ := part_spec zehZ sa1 (show k + 1 ≤ dv.length by omega)
 obtain ⟨r2, H2, e5, w4, g4⟩ := app1 (bytes := 40) w1 (zfZ t2) g1.1 (by omega)
 have g5 := (GrN.of g1 (Nat.le_refl _)).trans g4
 have en : k + (dv.length - (k + 1)) = (dv.take k ++ dv.drop (k + 1)).length := by simp; omega
 obtain ⟨H3, e6, n1, n2⟩ := h.newB (ew := dv.take k ++ dv.drop (k + 1)) (H' := H2) (r := r2) g5.1 (fun i hi _ => g5.2 i hi) (by rw [List.flatMap_append, ← en]; exact w4.s) w4.o (by rw [← en]; exact w4.c) (fun i hi => .inr (w4.i i hi))
 exact ⟨s1, r1, H1, s2, r2, H2, H3, e1, e2, g1.cells c0, e4, e5, e6, n1, n2⟩
theorem gone_c {L oi : Nat} {ns : List Nm} {dv : List NdV} {a b : AV} {H : AH} {s : List UInt8} (h : ImH L oi ns dv a b H) (hs : srtK cmpN Nm.name ns) (hd : srtK cmpI NdV.ino dv) (hb : Sm ns (dv.map NdV.nd)) (q : hasK Nm.name ns s) (f : Bool) (hk : f = true → hasK NdV.ino dv (nameI ns s)) :
  ∃ r H', ImP L oi H (delK cmpN Nm.name ns s) (if f = true then delK cmpI NdV.ino dv (nameI ns s) else dv) r H' ∧ BCall Try.prog 46 [.ptr oi 0, S (bstr s), B f] H r H' := salvorref11_gone_ok (by
 have b1 := hb.1
 have b2 := hb.2.1
 rw [List.length_map] at b2
 obtain ⟨Ra, Rb, sa, sb, fz⟩ := h.lend
 have c0 := h.obj
 have b0 : ∀ x y : AV, rdCells true 2 [x, y] 0 = some (.agg [x, y]) := fun _ _ => rfl
 unfold zqgZ
 simp [c0, b0]
 refine bP_of (PCall.lend (FZs.cons fz (FZs.cons (FZ.lit _) FZs.nil)) rfl (ztxZ ⟨Ra, Rb, dv, rfl, sa, sb, rfl⟩ hb s)) ?_
 rw [idxK_pos koN hs q]
 obtain ⟨x, hx1, hx2, hx3⟩ := posK_atK koN hs q
 have en : nameI ns s = x.ino := by unfold nameI; rw [hx2]
 rw [en] at hk ⊢
 obtain ⟨o, off, cells, u1, u2, u3, u4, u5, -⟩ := own_at zejZ (by omega) h.sa h.oa hx1
 have u51 := u5 1 (by omega)
 have hpl := (List.getElem?_eq_some_iff.1 hx1).1
 obtain ⟨s1, r1, H1, s2, r2, H2, H3, e1, e2, e3, e4, e5, e6, n1, n2⟩ := cutN h hpl b1
 have c3 := n1.obj
 have n1' : ImH L oi (delK cmpN Nm.name ns s) dv r2 b H3 := n1
 obtain ⟨Sa, Sb, ta, tb, gz⟩ := n1'.lend
 have hb2 : Sm (delK cmpN Nm.name ns s) (dv.map NdV.nd) := hb.sub delK_sub (List.Sublist.refl _)
 simp [c0, u1, u3, u51, encN, e1, e2, e3, abI_add (a := (posK cmpN Nm.name ns s : Nat)) (b := 1) (by omega) (by omega), e4, e5, e6, c3, b0]
 refine bP_of (PCall.lend (FZs.cons gz (FZs.cons (FZ.lit _) FZs.nil)) rfl (ref_node_p ⟨Sa, Sb, dv, rfl, ta, tb, rfl⟩ hb2 x.ino)) ?_
 cases f with
 | false =>
  simp
  exact ⟨rfl, _, _, n1', n2⟩
 | true =>
  have hk := hk rfl
  rw [idxK_pos koI (srtK_map.2 hd) (hasK_map.2 hk), posK_map]
  have hdl := hasK_pos koI hd hk
  obtain ⟨s3, r3, H4, s4, r4, H5, H6, f1, f2, f3, f4, f5, f6, m1, m2⟩ := cutD n1' hdl b2
  simp [c3, f1, f2, f3, abI_add (a := (posK cmpI NdV.ino dv x.ino : Nat)) (b := 1) (by omega) (by omega), f4, f5, f6]
  exact ⟨rfl, _, _, m1, n2.trans m2⟩)
end Go.Proofs.Ytpnfdibgfichmaa.Av
end
/-! YtpnfdibgfichmaaAvKi -/
section
/- Contents, made of small numbers. -/
set_option linter.unusedVariables false
set_option linter.unusedSimpArgs false
set_option maxRecDepth 100000
namespace Go.Proofs.Ytpnfdibgfichmaa.Av
open Go Go.RowKit

abbrev Bk := UInt8 × UInt8
def encBk (x : Bk) : List AV := [.lit (.int .u8 x.1.toNat), .lit (.int .u8 x.2.toNat)]
theorem encBk_len (x : Bk) : (encBk x).length = 2 := rfl
theorem encBk_0 (x : Bk) (t : List AV) : (encBk x ++ t)[0]? = some (.lit (.int .u8 x.1.toNat)) := rfl
def blkB (sz no : Nat) (s : UInt8) (m : Nat) : List UInt8 := (List.range 8).map fun k => if k < m ∧ no * 8 + k < sz then byteK s.toNat k else 0
theorem blkB_len (sz no : Nat) (s : UInt8) (m : Nat) : (blkB sz no s m).length = 8 := by simp [blkB]
def exK (sz no : Nat) (s : UInt8) : Ext := ⟨no, blkB sz no s 8, blkB_len _ _ _ _⟩
def contK (sz : Nat) : List Bk → Nat → List Ext
 | [], _ => []
 | x :: r, p => exK sz (p + x.1.toNat % 3) x.2 :: contK sz r (p + x.1.toNat % 3 + 1)
def nextK : List Bk → Nat → Nat
 | [], p => p
 | x :: r, p => nextK r (p + x.1.toNat % 3 + 1)
theorem contK_snoc {sz : Nat} {x : Bk} : ∀ {l : List Bk} {p : Nat}, contK sz (l ++ [x]) p = contK sz l p ++ [exK sz (nextK l p + x.1.toNat % 3) x.2]
 | [], p => rfl
 | y :: r, p => by simp only [List.cons_append, contK, nextK, contK_snoc]
theorem nextK_snoc {x : Bk} : ∀ {l : List Bk} {p : Nat}, nextK (l ++ [x]) p = nextK l p + x.1.toNat % 3 + 1
 | [], p => rfl
 | y :: r, p => by simp only [List.cons_append, nextK, nextK_snoc]
theorem nextK_le : ∀ {l : List Bk} {p : Nat}, nextK l p ≤ p + 3 * l.length
 | [], p => by simp [nextK]
 | y :: r, p => by
  have := nextK_le (l := r) (p := p + y.1.toNat % 3 + 1)
  have := Nat.mod_lt y.1.toNat (show 3 > 0 by omega)
  simp only [nextK, List.length_cons]; omega
theorem contK_len {sz : Nat} : ∀ {l : List Bk} {p : Nat}, (contK sz l p).length = l.length
 | [], p => rfl
 | y :: r, p => by simp [contK, contK_len]
theorem blkB_zero (sz no : Nat) (s : UInt8) : encB (blkB sz no s 0) = [(.lit (.int .u8 0)), (.lit (.int .u8 0)), (.lit (.int .u8 0)), (.lit (.int .u8 0)), (.lit (.int .u8 0)), (.lit (.int .u8 0)), (.lit (.int .u8 0)), (.lit (.int .u8 0))] := by
 simp [blkB, encB, List.range_succ]
theorem blkB_set {sz no : Nat} {s : UInt8} {k : Nat} (hk : k < 8) (h : no * 8 + k < sz) : (blkB sz no s k).set k (byteK s.toNat k) = blkB sz no s (k + 1) := by
 apply List.ext_getElem?
 intro j
 rw [List.getElem?_set]
 by_cases c : k = j
 ·subst c
  simp [blkB, hk, h]
 ·rw [if_neg c]
  simp only [blkB, List.getElem?_map]
  rcases Nat.lt_or_ge j 8 with hj | hj
  ·rw [List.getElem?_range hj]
   simp only [Option.map_some]
   have : (j < k + 1) ↔ (j < k) := by omega
   simp only [this]
  ·rw [List.getElem?_eq_none (by simpa using hj)]; rfl
theorem blkB_same {sz no : Nat} {s : UInt8} {k : Nat} (h : ¬ no * 8 + k < sz) : blkB sz no s k = blkB sz no s (k + 1) := by
 unfold blkB
 apply List.map_congr_left
 intro j _
 by_cases c : j = k
 ·subst c; simp [h]
 ·have : (j < k + 1) ↔ (j < k) := by omega
  simp only [this]
theorem bytesK_get {s n k : Nat} (h : k < n) : (bytesK s n)[k]? = some (byteK s k) := by
 simp [bytesK, h]
theorem Content_p {l : List Bk} {v : AV} (hv : SV encBk 2 l v) (n : Nat) : ∃ R, SV encE 9 (contK (n % 500) (l.take 30) 0) R ∧ BPure Try.prog 48 [v, .lit (.int .u16 n)] (.agg [I ((n % 500 : Nat) : Int), R]) := by
 have hsz : n % 500 < 500 := Nat.mod_lt _ (by omega)
 have e0 : abI .rem (.lit (.int .u16 n)) (.lit (.int .u16 500)) = some (.lit (.int .u16 ((n % 500 : Nat) : Int))) := by
  have : abI .rem (.lit (.int .u16 n)) (.lit (.int .u16 (500 : Nat))) = some (.lit (.int .u16 ((n % 500 : Nat) : Int))) := by
   rw [abI_rem (by omega) (by omega)]; congr 3
  exact this
 generalize n % 500 = sz at hsz e0
 have key : ∃ r X, (∃ R, FZ X r R ∧ ∃ R', R = .agg [I sz, R'] ∧ SV encE 9 (contK sz (l.take 30) 0) R') ∧ BCall Try.prog 48 [v, .lit (.int .u16 n)] [] r X := zvvZ (by
  unfold zniZ
  have e1 : acI .i64 (.lit (.int .u16 ((sz : Nat) : Int))) = some (I sz) := acI_i64 (by omega) (by omega)
  have e2 : abl [(.lit (.int .i64 0)), (.lit (.slice none 0 0))] [(0, 1, I sz)] = some (.agg [I sz, nilSl]) := rfl
  have e3 : ast 2 [some (.cells [I 0, nilSl]), some (.cells [I 0, nilSl])] (.ptr 1 0) (.agg [I sz, nilSl]) = some [some (.cells [I 0, nilSl]), some (.cells [I sz, nilSl])] := rfl
  simp only [anew_agg, List.all_cons, List.all_nil, oneA_int, oneA_nil, Bool.and_self, if_true, bH_some, bO_some, e0, e1, e2, List.nil_append, List.length_nil, List.length_cons, List.cons_append, e3, bS_some, Nat.zero_add]
  refine zrwZ (fun m x0 x4 x5 x6 x7 H' => ∃ i : Nat, i + m = 30 ∧ i ≤ l.length ∧ x0 = v ∧ x4 = .ptr 0 0 ∧ x5 = .ptr 1 0 ∧ x6 = I ((nextK (l.take i) 0 : Nat) - 1 : Int) ∧ x7 = I i ∧ ∃ w, H'[0]? = some (some (.cells [I 0, nilSl])) ∧ H'[1]? = some (some (.cells [I sz, w])) ∧ OwN 2 9 ((contK sz (l.take i) 0).flatMap encE) i w H') ?_ 30 ⟨0, by omega, by omega, rfl, rfl, rfl, rfl, rfl, nilSl, rfl, rfl, ⟨rfl, rfl, by simp [idS], by simp [capOk]⟩⟩
  rintro m x0 x4 x5 x6 x7 H R hR ⟨i, him, hil, rfl, rfl, rfl, rfl, rfl, w, c0, c1, ow⟩
  have hlH : 1 < H.length := (List.getElem?_eq_some_iff.1 c1).1
  unfold zhaZ
  have fin : ¬ (i < l.length ∧ i < 30) → bO (ald true 2 H (.ptr 1 0)) (fun v23 => bS (ast 2 H (.ptr 0 0) v23) fun H24 => bO (ald true 2 H24 (.ptr 0 0)) fun v25 => ∃ R, FZ H24 v25 R ∧ ∃ R', R = .agg [I sz, R'] ∧ SV encE 9 (contK sz (l.take 30) 0) R') := by
   intro hn
   have b0 : ∀ x y : AV, rdCells true 2 [x, y] 0 = some (.agg [x, y]) := fun _ _ => rfl
   have ow1 := zrZ ow.o
   have e5 : ast 2 H (.ptr 0 0) (.agg [I sz, w]) = some (H.set 0 (some (.cells [I sz, w]))) := by
    rw [ast_ptr (n := 2) (off := 0) (xs := [I sz, w]) (by simp [ow1]) c0 rfl (by simp)]; rfl
   have c0' : (H.set 0 (some (.cells [I sz, w])))[0]? = some (some (.cells [I sz, w])) := List.getElem?_set_self (by omega)
   rw [ald_ptr c1, b0, bO_some, e5, bS_some, ald_ptr c0', b0, bO_some]
   have hs2 : zaZ (H.set 0 (some (.cells [I sz, w]))) 9 w = some ((contK sz (l.take i) 0).flatMap encE, (contK sz (l.take i) 0).length) := by
    rw [contK_len, List.length_take, Nat.min_eq_left hil]
    exact zbZ ow.s fun j q => List.getElem?_set_ne (by have := ow.i j q; omega)
   obtain ⟨R', h1, h2⟩ := FZ.sv hs2 (zgaZ fun x _ => zpeZ x)
   have et : l.take 30 = l.take i := by
    rcases Nat.lt_or_ge i l.length with h | h
    ·rw [show i = 30 by omega]
    ·rw [List.take_of_length_le h, List.take_of_length_le (by omega)]
   rw [et]
   exact ⟨_, FZ.agg (.cons (.lit _) (.cons h2 .nil)), R', rfl, h1⟩
  by_cases h : i < l.length ∧ i < 30
  ·obtain ⟨h, h30⟩ := h
   have hx := List.getElem?_eq_getElem h
   generalize l[i] = x at hx
   have hnx := nextK_le (l := l.take i) (p := 0)
   have hlt : (l.take i).length = i := by rw [List.length_take]; omega
   rw [hlt] at hnx
   have et : l.take (i + 1) = l.take i ++ [x] := zgzZ hx
   have hn2 : nextK (l.take (i + 1)) 0 = nextK (l.take i) 0 + x.1.toNat % 3 + 1 := by rw [et, nextK_snoc]
   have hc2 : contK sz (l.take (i + 1)) 0 = contK sz (l.take i) 0 ++ [exK sz (nextK (l.take i) 0 + x.1.toNat % 3) x.2] := by rw [et, contK_snoc]
   have hg3 : x.1.toNat % 3 < 3 := Nat.mod_lt _ (by omega)
   generalize nextK (l.take i) 0 = p at hnx hn2 hc2
   generalize hg : x.1.toNat % 3 = g at hg3 hn2 hc2
   have e4 : abI .add (I ((p : Int) - 1)) (.lit (.int .i64 1)) = some (I p) := by
    rw [abI_add (by omega) (by omega)]; congr 3; omega
   have e5 : abI .rem (.lit (.int .u8 x.1.toNat)) (.lit (.int .u8 3)) = some (.lit (.int .u8 (g : Int))) := by
    have : abI .rem (.lit (.int .u8 x.1.toNat)) (.lit (.int .u8 (3 : Nat))) = some (.lit (.int .u8 (g : Int))) := by
     rw [abI_rem (by omega) (by omega)]; congr 3; omega
    exact this
   have e6 : acI .i64 (.lit (.int .u8 (g : Int))) = some (I g) := acI_i64 (by omega) (by omega)
   have e7 : abI .add (I p) (I g) = some (I ((p + g : Nat) : Int)) := by
    rw [abI_add (by omega) (by omega)]; congr 3
   have e8 : abl [(.lit (.int .i64 0)), (.lit (.int .u8 0)), (.lit (.int .u8 0)), (.lit (.int .u8 0)), (.lit (.int .u8 0)), (.lit (.int .u8 0)), (.lit (.int .u8 0)), (.lit (.int .u8 0)), (.lit (.int .u8 0))] [(0, 1, I ((p + g : Nat) : Int))] = some (.agg (I ((p + g : Nat) : Int) :: encB (blkB sz (p + g) x.2 0))) := by rw [blkB_zero]; rfl
   have e9 : anew H (.agg [(.lit (.int .i64 0)), (.lit (.int .u8 0)), (.lit (.int .u8 0)), (.lit (.int .u8 0)), (.lit (.int .u8 0)), (.lit (.int .u8 0)), (.lit (.int .u8 0)), (.lit (.int .u8 0)), (.lit (.int .u8 0))]) = some (.ptr H.length 0, H ++ [some (.cells [(.lit (.int .i64 0)), (.lit (.int .u8 0)), (.lit (.int .u8 0)), (.lit (.int .u8 0)), (.lit (.int .u8 0)), (.lit (.int .u8 0)), (.lit (.int .u8 0)), (.lit (.int .u8 0)), (.lit (.int .u8 0))])]) := by simp
   have e10 : ast 9 (H ++ [some (.cells [(.lit (.int .i64 0)), (.lit (.int .u8 0)), (.lit (.int .u8 0)), (.lit (.int .u8 0)), (.lit (.int .u8 0)), (.lit (.int .u8 0)), (.lit (.int .u8 0)), (.lit (.int .u8 0)), (.lit (.int .u8 0))])]) (.ptr H.length 0) (.agg (I ((p + g : Nat) : Int) :: encB (blkB sz (p + g) x.2 0))) = some (H ++ [some (.cells (I ((p + g : Nat) : Int) :: encB (blkB sz (p + g) x.2 0)))]) := by
    rw [ast_ptr (n := 9) (off := 0) (xs := I ((p + g : Nat) : Int) :: encB (blkB sz (p + g) x.2 0)) (by rw [blkB_zero]; rfl) (cs := [(.lit (.int .i64 0)), (.lit (.int .u8 0)), (.lit (.int .u8 0)), (.lit (.int .u8 0)), (.lit (.int .u8 0)), (.lit (.int .u8 0)), (.lit (.int .u8 0)), (.lit (.int .u8 0)), (.lit (.int .u8 0))]) (by simp) (by rw [blkB_zero]; rfl) (by simp)]
    rw [blkB_zero]
    simp [splice]
   have hlI : ((i : Int) < (l.length : Int)) := by omega
   have h30I : ((i : Int) < 30) := by omega
   simp only [hv.len, bO_some, abI_lss, bG_bool, decide_true, hlI, h30I, beq_self_eq_true, gO_true, zcpZ, if_true, bB_bool, bI_true, e4, hv.idx encBk_len hx rfl, ashift_ip, ald_ip, zbcZ, List.drop_zero, encBk_0, e5, e6, e7, e8, e9, bH_some, e10, bS_some]
   obtain ⟨Rb, hRb, hpb⟩ := Bytes_p x.2 (n := 8) (by omega)
   have e11 : (List.drop 1 (encBk x ++ List.flatMap encBk (List.drop (i + 1) l)))[0]? = some (.lit (.int .u8 x.2.toNat)) := rfl
   simp only [e11, bO_some]
   refine bP_pure hpb ?_
   refine zqoZ R (fun m2 y0 y4 y5 y6 y7 y8 y9 y10 H' => ∃ k : Nat, k + m2 = 8 ∧ y0 = x0 ∧ y4 = .ptr 0 0 ∧ y5 = .ptr 1 0 ∧ y6 = I ((p + g : Nat) : Int) ∧ y7 = I i ∧ y8 = .ptr H.length 0 ∧ y9 = Rb ∧ y10 = I k ∧ H' = H ++ [some (.cells (I ((p + g : Nat) : Int) :: encB (blkB sz (p + g) x.2 k)))]) ?_ 8 ⟨0, by omega, rfl, rfl, rfl, rfl, rfl, rfl, rfl, rfl, rfl⟩
   rintro m2 y0 y4 y5 y6 y7 y8 y9 y10 H' R2 hR2 ⟨k, hk, rfl, rfl, rfl, rfl, rfl, rfl, rfl, rfl, rfl⟩
   unfold zgfZ
   have g1 := Grew.app H [some (.cells (I ((p + g : Nat) : Int) :: encB (blkB sz (p + g) x.2 k)))]
   have d1 : (H ++ [some (.cells (I ((p + g : Nat) : Int) :: encB (blkB sz (p + g) x.2 k)))])[1]? = some (some (.cells [I sz, w])) := g1.cells c1
   rcases Nat.lt_or_ge k 8 with hk8 | hk8
   ·have hkI : (k : Int) < 8 := by omega
    have f1 : abI .mul (I ((p + g : Nat) : Int)) (.lit (.int .i64 8)) = some (I (((p + g) * 8 : Nat) : Int)) := by rw [abI_mul (by omega) (by omega)]; congr 3
    have f2 : abI .add (I (((p + g) * 8 : Nat) : Int)) (I k) = some (I (((p + g) * 8 + k : Nat) : Int)) := by rw [abI_add (by omega) (by omega)]; congr 3
    simp only [abI_lss, bO_some, bB_bool, hkI, decide_true, bI_true, f1, f2, zdnZ, ald_ptr d1, zbcZ, Nat.add_zero, List.getElem?_cons_zero, Int.ofNat_lt]
    have done : ∀ H2, H2 = H ++ [some (.cells (I ((p + g : Nat) : Int) :: encB (blkB sz (p + g) x.2 (k + 1))))] → zfdZ R2 R y0 (.ptr 0 0) (.ptr 1 0) (I ((p + g : Nat) : Int)) (I i) (.ptr H.length 0) y9 (I k) H2 (fun r X => ∃ R, FZ X r R ∧ ∃ R', R = .agg [I sz, R'] ∧ SV encE 9 (contK sz (l.take 30) 0) R') := by
     rintro H2 rfl
     rw [zsqZ]; unfold zlpZ
     simp only [abI_add (a := k) (b := 1) (by omega) (by omega), bO_some]
     exact hR2 (m2 - 1) _ _ _ _ _ _ _ _ _ (by omega) ⟨k + 1, by omega, rfl, rfl, rfl, rfl, rfl, rfl, rfl, by simp, rfl⟩
    by_cases c : (p + g) * 8 + k < sz
    ·simp only [c, decide_true, bI_true]
     have gb : (bytesK x.2.toNat 8)[k]? = some (byteK x.2.toNat k) := bytesK_get hk8
     have f3 := hRb.idx (i := (k : Int)) encU_len gb rfl
     have f4 : aixA 8 1 (.ptr H.length 1) (I k) = some (.ptr H.length (1 + k)) := by simp [aixA, aint]; omega
     have f5 : ast 1 (H ++ [some (.cells (I ((p + g : Nat) : Int) :: encB (blkB sz (p + g) x.2 k)))]) (.ptr H.length (1 + k)) (.lit (.int .u8 (byteK x.2.toNat k).toNat)) = some (H ++ [some (.cells (I ((p + g : Nat) : Int) :: encB (blkB sz (p + g) x.2 (k + 1))))]) := by
      rw [ast_ptr (n := 1) (xs := [.lit (.int .u8 (byteK x.2.toNat k).toNat)]) (cs := I ((p + g : Nat) : Int) :: encB (blkB sz (p + g) x.2 k)) rfl (by simp) rfl (by simp [zlmZ, blkB_len]; omega), ← blkB_set hk8 c]
      have : splice (I ((p + g : Nat) : Int) :: encB (blkB sz (p + g) x.2 k)) (1 + k) [.lit (.int .u8 (byteK x.2.toNat k).toNat)] = I ((p + g : Nat) : Int) :: encB ((blkB sz (p + g) x.2 k).set k (byteK x.2.toNat k)) := by
       rw [Nat.add_comm 1 k]
       simp [splice, encB, List.map_set]
      rw [this]
      simp
     have f6 : (encU (byteK x.2.toNat k) ++ List.flatMap encU (List.drop (k + 1) (bytesK x.2.toNat 8)))[0]? = some (.lit (.int .u8 (byteK x.2.toNat k).toNat)) := rfl
     simp only [f3, bO_some, ald_ip, zbcZ, f6, f4, f5, bS_some, Nat.zero_add]
     exact done _ rfl
    ·simp only [c, decide_false, zdlZ]
     refine done _ ?_
     rw [blkB_same c]
   ·have hk' : k = 8 := by omega
    subst hk'
    have hkI : ¬ (((8 : Nat) : Int) < 8) := by omega
    have ex : (I ((p + g : Nat) : Int) :: encB (blkB sz (p + g) x.2 8)) = encE (exK sz (p + g) x.2) := rfl
    rw [ex] at g1 d1 ⊢
    have dx : (H ++ [some (AObj.cells (encE (exK sz (p + g) x.2)))])[H.length]? = some (some (.cells (encE (exK sz (p + g) x.2)))) := by simp
    have f1 : rdCells true 9 (encE (exK sz (p + g) x.2)) 0 = some (.agg (encE (exK sz (p + g) x.2))) := by
     simp [rdCells, zzZ]
     rw [List.take_of_length_le (by rw [zzZ]; omega)]
    generalize exK sz (p + g) x.2 = ex' at *
    have f2 : absl (H ++ [some (.cells (encE ex'))]) 9 1 (zrow [(.lit (.int .i64 0)), (.lit (.int .u8 0)), (.lit (.int .u8 0)), (.lit (.int .u8 0)), (.lit (.int .u8 0)), (.lit (.int .u8 0)), (.lit (.int .u8 0)), (.lit (.int .u8 0)), (.lit (.int .u8 0))] 1) [(0, 9, .agg (encE ex'))] = some (.sl (H.length + 1) 0 1 9 (.ex 1), H ++ [some (.cells (encE ex'))] ++ [some (.cells (encE ex'))]) := by
     have hr : fillR (zrow [(.lit (.int .i64 0)), (.lit (.int .u8 0)), (.lit (.int .u8 0)), (.lit (.int .u8 0)), (.lit (.int .u8 0)), (.lit (.int .u8 0)), (.lit (.int .u8 0)), (.lit (.int .u8 0)), (.lit (.int .u8 0))] 1) [(0, 9, .agg (encE ex'))] = some (encE ex') := by
      have hz : (zrow [(.lit (.int .i64 0)), (.lit (.int .u8 0)), (.lit (.int .u8 0)), (.lit (.int .u8 0)), (.lit (.int .u8 0)), (.lit (.int .u8 0)), (.lit (.int .u8 0)), (.lit (.int .u8 0)), (.lit (.int .u8 0))] 1).length = 9 := rfl
      have hl := zzZ ex'
      rw [fillR_cons, cellsA_agg, if_pos (encE_all ex')]
      generalize zrow [(.lit (.int .i64 0)), (.lit (.int .u8 0)), (.lit (.int .u8 0)), (.lit (.int .u8 0)), (.lit (.int .u8 0)), (.lit (.int .u8 0)), (.lit (.int .u8 0)), (.lit (.int .u8 0)), (.lit (.int .u8 0))] 1 = z at hz
      generalize encE ex' = q at hl
      simp only [fillR_nil, zqpZ z 0 q (by omega), List.take_zero, List.nil_append, Nat.zero_add]
      rw [List.drop_of_length_le (by omega), List.append_nil, if_pos ⟨hl, by omega⟩]
     unfold absl
     rw [hr]
     simp [encE_all]
    have g2 := Grew.app (H ++ [some (.cells (encE ex'))]) [some (.cells (encE ex'))]
    have ow2 := (ow.grew g1).grew g2
    have x1 : zcwZ (H ++ [some (.cells (encE ex'))] ++ [some (.cells (encE ex'))]) 9 (.sl (H.length + 1) 0 1 9 (.ex 1)) = some (encE ex', 1) := zfZ (by
     rw [zxZ (c := encE ex') (by simp) (by rw [zzZ]; omega), List.drop_zero, List.take_of_length_le (by rw [zzZ]; omega)])
    obtain ⟨r3, H3, a1, a2, a3⟩ := app1 (bytes := 16) ow2 x1 (by simp) (by omega)
    have d3 : H3[1]? = some (some (.cells [I sz, w])) := by rw [a3.2 1 (by omega)]; exact g2.cells (g1.cells c1)
    have d0 : H3[0]? = some (some (.cells [I 0, nilSl])) := by rw [a3.2 0 (by omega)]; exact g2.cells (g1.cells c0)
    have r1 := zrZ a2.o
    have hl3 : 1 < H3.length := (List.getElem?_eq_some_iff.1 d3).1
    have f5 : ast 1 H3 (.ptr 1 1) r3 = some (H3.set 1 (some (.cells [I sz, r3]))) := by
     rw [ast_ptr (n := 1) (xs := [r3]) (cs := [I sz, w]) (zbhZ r1) d3 rfl (by simp)]; rfl
    have f6 : ([I sz, w] : List AV)[1]? = some w := rfl
    simp only [abI_lss, bO_some, bB_bool, hkI, decide_false, zdlZ, zdnZ, Nat.zero_add, ald_ptr d1, zbcZ, f6, ald_ptr dx, f1, f2, bH_some, a1, f5, bS_some, abI_add (a := i) (b := 1) (by omega) (by omega)]
    refine hR (m - 1) _ _ _ _ _ _ (by omega) ⟨i + 1, by omega, by omega, rfl, rfl, rfl, by rw [hn2]; congr 2; omega, by simp, r3, ?_, ?_, ?_⟩
    ·rw [List.getElem?_set_ne (by omega)]; exact d0
    ·exact List.getElem?_set_self (by omega)
    ·rw [hc2]
     exact ⟨by
      rw [List.flatMap_append]
      have e := zbZ a2.s (H' := H3.set 1 (some (.cells [I sz, r3]))) fun j q => List.getElem?_set_ne (by have := a2.i j q; omega)
      simpa using e, a2.o, a2.i, a2.c⟩
  ·have hne : ¬ (i < l.length ∧ i < 30) := h
   have f := fin h
   have e1 : (decide ((i : Int) < (l.length : Int))) = decide (i < l.length) := by simp
   simp only [hv.len, bO_some, abI_lss, bG_bool, e1]
   by_cases c : i < l.length
   ·have c30 : ¬ ((i : Int) < 30) := by omega
    simp only [c, decide_true, beq_self_eq_true, gO_true, bO_some, abI_lss, c30, decide_false, zcpZ, if_true, bB_bool, zdlZ]
    exact f
   ·simp only [c, decide_false, zcpZ, show ((false == true) = false) from rfl, gO_false, bO_some, if_false, bB_bool, zdlZ, Bool.false_eq_true]
    exact f)
 obtain ⟨r, X, hk, hc⟩ := key
 obtain ⟨R, ⟨R', rfl, h2⟩, hp⟩ := BPure.FZ (by simp [noIdss, noIds, hv.1]) ⟨r, X, hk, hc⟩
 exact ⟨R', h2, hp⟩
end Go.Proofs.Ytpnfdibgfichmaa.Av
end
/-! YtpnfdibgfichmaaAvLm -/
section
/- A loop's rule where a round may come to more than one outcome. -/
set_option linter.unusedVariables false
set_option linter.unusedSimpArgs false
namespace Go.Proofs.Ytpnfdibgfichmaa.Av
open Go Go.RowKit
def MonoF (body : List AV → AH → Kf → Prop) : Prop := ∀ T H (K1 K2 : Kf), (∀ e T H, K1 e T H → K2 e T H) → body T H K1 → body T H K2
theorem kLp_mono {keep : List Bool} {A B : List AV → AH → Prop} {K : Kf} (h : ∀ X H, A X H → B X H) : ∀ e T H, kLp keep A K e T H → kLp keep B K e T H := by
 intro e T H hk
 cases e with
 | normal =>
  obtain ⟨hl, h1⟩ := fP_iff.1 hk
  exact fP_iff.2 ⟨hl, h _ _ h1⟩
 | _ => exact hk
theorem rnd_up {keep : List Bool} {body : List AV → AH → Kf → Prop} {K : Kf} (hb : MonoF body) : ∀ (m : Nat) X H, rnd keep body K m X H → rnd keep body K (m + 1) X H
 | 0, X, H, h => h.elim
 | m + 1, X, H, h => hb _ _ _ _ (kLp_mono fun X H => rnd_up hb m X H) h
theorem rnd_le {keep : List Bool} {body : List AV → AH → Kf → Prop} {K : Kf} (hb : MonoF body) {m n : Nat} (h : m ≤ n) {X : List AV} {H : AH} (hr : rnd keep body K m X H) : rnd keep body K n X H := by
 induction h with
 | refl => exact hr
 | step _ ih => exact rnd_up hb _ _ _ ih
theorem lp_mono {keep : List Bool} {body : List AV → AH → Kf → Prop} {K : Kf} (hb : MonoF body) (J : Nat → List AV → AH → Prop)
  (round : ∀ n X H, J n X H → body (expand keep X) H (kLp keep (fun X' H' => ∃ m, m < n ∧ J m X' H') K)) : ∀ (n : Nat) {X : List AV} {H : AH}, J n X H → lp keep body X H K := by
 have key : ∀ n X H, J n X H → rnd keep body K (n + 1) X H := by
  intro n
  induction n using Nat.strongRecOn with
  | _ n ih =>
   intro X H hJ
   refine hb _ _ _ _ (kLp_mono ?_) (round n X H hJ)
   rintro X' H' ⟨m, hm, hJ'⟩
   exact rnd_le hb (by omega) (ih m hm X' H' hJ')
 exact fun n X H hJ => ⟨n + 1, key n X H hJ⟩
section
variable {P : Program} {ql al : FuncId → Bool} {dr w : Bool} {ρ : Operand → AV} {H : AH}
theorem sOp_mono {o : Oper} {K1 K2 : AV → AH → Prop} (h : sOp P ql al dr ρ H o w K1) (hk : ∀ r H, K1 r H → K2 r H) : sOp P ql al dr ρ H o w K2 := by
 cases ha : pureOp al o.op with
 | false =>
  rw [sOp_al ha] at h ⊢
  obtain ⟨r, H', hk1, -, h2⟩ := sOp_one h
  exact h2 _ (hk _ _ hk1)
 | true =>
  obtain ⟨dst, op, type, pos, after, guard⟩ := o
  simp only at ha
  unfold pureOp at ha
  split at ha
  ·rename_i k args ats
   have ha' : pureOp al (.call { callee := .value (.func k), args := args, argTypes := ats }) = true := ha
   unfold sOp bF at h ⊢
   simp only [ha'] at h ⊢
   generalize hx : ρ (.func k) = x at h ⊢
   split at h
   ·rename_i f a b
    cases dr with
    | true => exact h
    | false =>
     simp only at h ⊢
     cases hg : goFunc P f with
     | true =>
      rw [hg] at h
      cases w with
      | true =>
       obtain ⟨R, hR, hall⟩ := h
       exact ⟨R, hR, fun r H' hr => hk r H' (hall r H' hr)⟩
      | false => exact hk _ _ h
     | false =>
      rw [hg] at h
      cases w with
      | true =>
       obtain ⟨r, hr, h⟩ := h
       exact ⟨r, hr, hk _ _ h⟩
      | false => exact hk _ _ h
   ·cases w with
    | true => exact h.elim
    | false =>
     cases dr with
     | true => exact h.elim
     | false => 
      simp only at h ⊢
      cases hg : goFunc P 0 with
      | true => rw [hg] at h; exact hk _ _ h
      | false => rw [hg] at h; exact hk _ _ h
  ·cases ha
theorem sOps_mono {ops : Array Oper} : ∀ (l : List Oper) (T : List AV) (H : AH) {K1 K2 : List AV → AH → Prop}, (∀ T H, K1 T H → K2 T H) → sOps P ql al dr ops l T H K1 → sOps P ql al dr ops l T H K2
 | [], T, H, K1, K2, hk, h => hk _ _ h
 | o :: l, T, H, K1, K2, hk, h => by
  unfold sOps at h ⊢
  obtain ⟨w, hw, h, hw2⟩ := zmpZ h
  refine hw2 _ (sOp_mono h fun r H' hr => ?_)
  rw [fput_eq] at hr ⊢
  exact sOps_mono l _ _ hk hr
theorem sOpsD_mono {ops : Array Oper} {H0 : AH} {fl : List (Nat × Option Nat)} : ∀ (l : List Oper) (T : List AV) (H : AH) (lg : List (List AV × AH × AV)) {K1 K2 : List AV → AH → Prop}, (∀ T H, K1 T H → K2 T H) → sOpsD P ql al ops H0 fl l T H lg K1 → sOpsD P ql al ops H0 fl l T H lg K2
 | [], T, H, lg, K1, K2, hk, h => by
  obtain ⟨h1, h2⟩ := sFl_ok h
  exact sFl_k (K := K1 T H) h (hk _ _ h2)
 | o :: l, T, H, lg, K1, K2, hk, h => by
  unfold sOpsD at h ⊢
  obtain ⟨w, hw, h, hw2⟩ := zmpZ h
  refine hw2 _ (sOp_mono h fun r H' hr => ?_)
  rw [fput_eq] at hr ⊢
  exact sOpsD_mono l _ _ _ hk hr
theorem MonoF.cut {keep : List Bool} {body : List AV → AH → Kf → Prop} (h : MonoF body) : MonoF (cutC keep body) := by
 intro T H K1 K2 hk hc
 obtain ⟨hl, hc⟩ := fP_iff.1 hc
 exact fP_iff.2 ⟨hl, ⟨h _ _ _ _ hk hc.h⟩⟩
theorem MonoF.seq {a b : List AV → AH → Kf → Prop} (ha : MonoF a) (hb : MonoF b) : MonoF fun T H K => a T H (kSeq b K) := by
 intro T H K1 K2 hk h
 refine ha _ _ _ _ ?_ h
 intro e T' H' h'
 cases e with
 | normal => exact hb _ _ _ _ hk h'
 | _ => exact hk _ _ _ h'
theorem rnd_k {keep : List Bool} {body : List AV → AH → Kf → Prop} (hb : MonoF body) {K1 K2 : Kf} (hk : ∀ e T H, K1 e T H → K2 e T H) : ∀ (m : Nat) (X : List AV) (H : AH), rnd keep body K1 m X H → rnd keep body K2 m X H
 | 0, X, H, h => h.elim
 | m + 1, X, H, h => by
  refine hb _ _ _ _ ?_ h
  intro e T H h'
  cases e with
  | normal =>
   obtain ⟨hl, h1⟩ := fP_iff.1 h'
   exact fP_iff.2 ⟨hl, rnd_k hb hk m _ _ h1⟩
  | _ => exact hk _ _ _ h'
theorem zmaZ {fl : Floats} {un : Nat → Bool} {kp : Nat → Option (List Bool)} : ∀ (c : Code) (n : Nat), MonoF (sCode P fl ql al un kp c n)
 | .skip, n, T, H, K1, K2, hk, h => hk _ _ _ h
 | .label _, n, T, H, K1, K2, hk, h => hk _ _ _ h
 | .ret, n, T, H, K1, K2, hk, h => hk _ _ _ h
 | .exit _, n, T, H, K1, K2, hk, h => hk _ _ _ h
 | .region id ops dr, n, T, H, K1, K2, hk, h => by
  unfold sCode at h ⊢
  cases dr with
  | false => exact sOps_mono _ _ _ (hk .normal) h
  | true =>
   simp only at h ⊢
   split at h
   ·split at h
    ·obtain ⟨hl, h⟩ := fP_iff.1 h
     exact fP_iff.2 ⟨hl, ⟨h.h.mono hk⟩⟩
    ·exact h.elim
   ·split at h
    ·exact sOps_mono _ _ _ (hk .normal) h
    ·exact sOpsD_mono _ _ _ _ (hk .normal) h
 | .seq a b, n, T, H, K1, K2, hk, h => by
  unfold sCode at h ⊢
  split at h
  ·exact MonoF.seq (zmaZ a _) (zmaZ b _) T H K1 K2 hk h
  ·exact MonoF.seq (zmaZ a _) (zmaZ b _).cut T H K1 K2 hk h
 | .cond c a b, n, T, H, K1, K2, hk, h => by
  unfold sCode bB at h ⊢
  split at h
  ·rename_i t ht
   cases t with
   | true => exact zmaZ a _ T H K1 K2 hk h
   | false => exact zmaZ b _ T H K1 K2 hk h
  ·exact h.elim
 | .block id b, n, T, H, K1, K2, hk, h => by
  unfold sCode at h ⊢
  refine zmaZ b _ T H _ _ ?_ h
  intro e T' H' h'
  cases e with
  | exit j =>
   simp only [kBlk] at h' ⊢
   split at h' <;> exact hk _ _ _ h'
  | _ => exact hk _ _ _ h'
 | .loop b, n, T, H, K1, K2, hk, h => by
  unfold sCode at h ⊢
  split at h
  ·obtain ⟨hl, ⟨m, h⟩⟩ := fP_iff.1 h
   exact fP_iff.2 ⟨hl, ⟨m, rnd_k (zmaZ b _) hk m _ _ h⟩⟩
  ·exact h.elim
 | .rangeFunc .., _, _, _, _, _, _, h => h.elim
 | .scope _, _, _, _, _, _, _, h => h.elim
 | .goto _, _, _, _, _, _, _, h => h.elim
 | .refuse _, _, _, _, _, _, _, h => h.elim
end
end Go.Proofs.Ytpnfdibgfichmaa.Av
end
/-! YtpnfdibgfichmaaPd -/
section
/- Formulas of functions of the program: printed by a program of this session (wip/tools/Pr.lean.txt), each checked by the kernel. -/
set_option linter.unusedVariables false
set_option maxRecDepth 100000
namespace Go.Proofs.Ytpnfdibgfichmaa.Av
open Go
def pqd : FuncId → Bool := inL [32,48,20]
def pqda : FuncId → Bool := inL []
/-! salvor/salvorkeep.ImageOf -/
def zpdZ : Floats := flOf []
def zokZ : Nat → Option (List Bool) := kpOf [(100011, mk 64 0 [0, 2, 3, 4, 6]), (7, mk 64 0 [0, 2, 3, 4]), (16, mk 64 0 [0, 2, 3, 4]), (10, mk 64 0 [0, 2, 3, 4, 5, 6]), (4, mk 64 0 [0, 2, 3, 4])]
def zouZ : Nat → Bool := inL [11]
def zdZ (p : List Bool) (n : Nat) : List AV → AH → Kf → Prop := sCode Try.prog zpdZ pqd pqda zouZ zokZ (sub p (bodyOf Try.f20)) n
def zdwZ (R4 : List AV → AH → Prop) (x0 x2 x3 x4 : AV) (H : AH) (K : AV → AH → Prop) : Prop := jn (mk 64 0 [0, 2, 3, 4]) (zdZ [true, true, false, true, false, false, true, true] 17) [x0, x2, x3, x4] H (kLp (mk 64 0 [0, 2, 3, 4]) R4 (kBlk 0 (kSeq (zdZ [true, true, true] 17) (kRet Try.prog Try.f20.results.toList K))))
def zhoZ (R10 : List AV → AH → Prop) (R4 : List AV → AH → Prop) (x0 x2 x3 x4 : AV) (H : AH) (K : AV → AH → Prop) : Prop := jn (mk 64 0 [0, 2, 3, 4]) (zdZ [true, true, false, true, false, false, true, false, false, true, true, false, false, true, false, false, true, false, true, true] 17) [x0, x2, x3, x4] H (kBlk 3 (kSeq (zdZ [true, true, false, true, false, false, true, false, false, true, true, false, false, true, true] 17) (kLp (mk 64 0 [0, 2, 3, 4, 5, 6]) R10 (kBlk 2 (kBlk 1 (kSeq (cutC (mk 64 0 [0, 2, 3, 4]) (zdZ [true, true, false, true, false, false, true, true] 17)) (kLp (mk 64 0 [0, 2, 3, 4]) R4 (kBlk 0 (kSeq (zdZ [true, true, true] 17) (kRet Try.prog Try.f20.results.toList K))))))))))
def zhpZ (R10 : List AV → AH → Prop) (R4 : List AV → AH → Prop) (x0 x2 x3 x4 x6 : AV) (H : AH) (K : AV → AH → Prop) : Prop := unR Try.prog 11 (opsOf (sub [true, true, false, true, false, false, true, false, false, true, true, false, false, true, false, false, true, false, true, false] (bodyOf Try.f20))) (expand (mk 64 0 [0, 2, 3, 4, 6]) [x0, x2, x3, x4, x6]) H (kSeq (cutC (mk 64 0 [0, 2, 3, 4]) (zdZ [true, true, false, true, false, false, true, false, false, true, true, false, false, true, false, false, true, false, true, true] 17)) (kBlk 3 (kSeq (zdZ [true, true, false, true, false, false, true, false, false, true, true, false, false, true, true] 17) (kLp (mk 64 0 [0, 2, 3, 4, 5, 6]) R10 (kBlk 2 (kBlk 1 (kSeq (cutC (mk 64 0 [0, 2, 3, 4]) (zdZ [true, true, false, true, false, false, true, true] 17)) (kLp (mk 64 0 [0, 2, 3, 4]) R4 (kBlk 0 (kSeq (zdZ [true, true, true] 17) (kRet Try.prog Try.f20.results.toList K)))))))))))
def znpZ (R4 : List AV → AH → Prop) (x0 x2 x3 x4 x5 x6 : AV) (H : AH) (K : AV → AH → Prop) : Prop := lp (mk 64 0 [0, 2, 3, 4, 5, 6]) (zdZ [true, true, false, true, false, false, true, false, false, true, true, false, false] 11) [x0, x2, x3, x4, x5, x6] H (kBlk 2 (kBlk 1 (kSeq (cutC (mk 64 0 [0, 2, 3, 4]) (zdZ [true, true, false, true, false, false, true, true] 17)) (kLp (mk 64 0 [0, 2, 3, 4]) R4 (kBlk 0 (kSeq (zdZ [true, true, true] 17) (kRet Try.prog Try.f20.results.toList K)))))))
def zogZ (x0 x2 x3 x4 : AV) (H : AH) (K : AV → AH → Prop) : Prop := lp (mk 64 0 [0, 2, 3, 4]) (zdZ [true, true, false, true, false, false] 5) [x0, x2, x3, x4] H (kBlk 0 (kSeq (zdZ [true, true, true] 17) (kRet Try.prog Try.f20.results.toList K)))
def zmqZ (R4 : List AV → AH → Prop) (x0 x2 x3 x4 : AV) (H : AH) (K : AV → AH → Prop) : Prop :=
 bO (abI .add x4 (.lit (.int .u8 1))) fun v0 =>
 R4 [x0, x2, x3, v0] H
theorem ztiZ (R4 : List AV → AH → Prop) (x0 x2 x3 x4 : AV) (H : AH) (K : AV → AH → Prop) : zdwZ R4 x0 x2 x3 x4 H K = zmqZ R4 x0 x2 x3 x4 H K := (jn_eq _ _ _ _ _).trans (by kernel_rfl)
def zljZ (R10 : List AV → AH → Prop) (R4 : List AV → AH → Prop) (x0 x2 x3 x4 : AV) (H : AH) (K : AV → AH → Prop) : Prop :=
 zdwZ R4 x0 x2 x3 x4 H K
theorem zsiZ (R10 : List AV → AH → Prop) (R4 : List AV → AH → Prop) (x0 x2 x3 x4 : AV) (H : AH) (K : AV → AH → Prop) : zhoZ R10 R4 x0 x2 x3 x4 H K = zljZ R10 R4 x0 x2 x3 x4 H K := (jn_eq _ _ _ _ _).trans (by kernel_rfl)
def zgiZ (R4 : List AV → AH → Prop) (R10 : List AV → AH → Prop) (x0 x2 x3 x4 x5 x6 : AV) (H : AH) (K : AV → AH → Prop) : Prop :=
 bO (alnS x0) fun v0 =>
 bO (abI .lss x6 v0) fun v1 =>
 bG v1 true fun w2 =>
 gO w2 (some x6) fun v3 =>
 bG v1 true fun w4 =>
 gO w4 (abI .lss v3 (.lit (.int .i64 12))) fun v5 =>
 bO (apick v1 v5 (.lit (.bool false))) fun v6 =>
 bB v6 fun t7 => bI t7 (
 bO (aixS 3 x0 x6) fun v8 =>
 bO (ashift 0 v8) fun v9 =>
 bO (ald false 1 H v9) fun v10 =>
 bP (PCall Try.prog 32 [v10] H) fun v11 =>
 bO (abT .eql v11 x5) fun v12 =>
 bB v12 fun t13 => bI t13 (
 bO (ashift 0 x3) fun v14 =>
 bO (ald false 1 H v14) fun v15 =>
 bO (acI .i64 x4) fun v16 =>
 bO (abI .sub (.lit (.int .i64 10)) v16) fun v17 =>
 bO (abl [(.lit (.string ⟨#[]⟩)), (.lit (.int .i64 0))] [(0, 1, x5), (1, 1, v17)]) fun v18 =>
 bH (absl H 2 1 (zrow [(.lit (.string ⟨#[]⟩)), (.lit (.int .i64 0))] 1) [(0, 2, v18)]) fun v19 H20 =>
 bH (aap 2 24 H20 v15 v19) fun v21 H22 =>
 bO (ashift 0 x3) fun v23 =>
 bS (ast 1 H22 v23 v21) fun H24 =>
 zhpZ R10 R4 x0 x2 x3 x4 x6 H24 K)
 (bO (abI .add x6 (.lit (.int .i64 1))) fun v25 =>
 R10 [x0, x2, x3, x4, x5, v25] H))
 (zdwZ R4 x0 x2 x3 x4 H K)
theorem zsnZ (R4 : List AV → AH → Prop) (R10 : List AV → AH → Prop) (x0 x2 x3 x4 x5 x6 : AV) (H : AH) (K : AV → AH → Prop) : zdZ [true, true, false, true, false, false, true, false, false, true, true, false, false] 11 (expand (mk 64 0 [0, 2, 3, 4, 5, 6]) [x0, x2, x3, x4, x5, x6]) H (kLp (mk 64 0 [0, 2, 3, 4, 5, 6]) R10 (kBlk 2 (kBlk 1 (kSeq (cutC (mk 64 0 [0, 2, 3, 4]) (zdZ [true, true, false, true, false, false, true, true] 17)) (kLp (mk 64 0 [0, 2, 3, 4]) R4 (kBlk 0 (kSeq (zdZ [true, true, true] 17) (kRet Try.prog Try.f20.results.toList K)))))))) = zgiZ R4 R10 x0 x2 x3 x4 x5 x6 H K := by kernel_rfl
theorem zqqZ (R4 : List AV → AH → Prop) {K : AV → AH → Prop} (I : Nat → AV → AV → AV → AV → AV → AV → AH → Prop) (round : ∀ (n : Nat) (x0 x2 x3 x4 x5 x6 : AV) (H : AH) (R : List AV → AH → Prop), (∀ (m : Nat) (y0 y2 y3 y4 y5 y6 : AV) (H' : AH), m < n → I m y0 y2 y3 y4 y5 y6 H' → R [y0, y2, y3, y4, y5, y6] H') → I n x0 x2 x3 x4 x5 x6 H → zgiZ R4 R x0 x2 x3 x4 x5 x6 H K) (n : Nat) {x0 x2 x3 x4 x5 x6 : AV} {H : AH} (h : I n x0 x2 x3 x4 x5 x6 H) : znpZ R4 x0 x2 x3 x4 x5 x6 H K := by
 refine lp_mono (zmaZ _ _) (LI6 I) ?_ n h
 intro n X H h
 obtain ⟨x0, x2, x3, x4, x5, x6, rfl, h⟩ := h.elim
 exact Eq.mpr (zsnZ R4 _ x0 x2 x3 x4 x5 x6 H K) (round n x0 x2 x3 x4 x5 x6 H (fun X H' => ∃ m, m < n ∧ LI6 I m X H') (fun m y0 y2 y3 y4 y5 y6 H' hm hi => ⟨m, hm, hi⟩) h)
def zgyZ (R4 : List AV → AH → Prop) (x0 x2 x3 x4 : AV) (H : AH) (K : AV → AH → Prop) : Prop :=
 bO (abI .lss x4 (.lit (.int .u8 6))) fun v0 =>
 bB v0 fun t1 => bI t1 (
 bH (absl H 1 6 (zrow [(.lit (.string ⟨#[]⟩))] 6) [(0, 1, (.lit (.string ⟨#[97]⟩))), (1, 1, (.lit (.string ⟨#[98]⟩))), (2, 1, (.lit (.string ⟨#[99]⟩))), (3, 1, (.lit (.string ⟨#[100, 115, 116]⟩))), (4, 1, (.lit (.string ⟨#[109, 97, 112]⟩))), (5, 1, (.lit (.string ⟨#[120, 45, 49]⟩)))]) fun v2 H3 =>
 bO (aixS 1 v2 x4) fun v4 =>
 bO (ald false 1 H3 v4) fun v5 =>
 znpZ R4 x0 x2 x3 x4 v5 (.lit (.int .i64 0)) H3 K)
 (bO (ald true 2 H x3) fun v6 =>
 bS (ast 2 H x2 v6) fun H7 =>
 bO (ald true 2 H7 x2) fun v8 =>
 K v8 H7)
theorem zthZ (R4 : List AV → AH → Prop) (x0 x2 x3 x4 : AV) (H : AH) (K : AV → AH → Prop) : zdZ [true, true, false, true, false, false] 5 (expand (mk 64 0 [0, 2, 3, 4]) [x0, x2, x3, x4]) H (kLp (mk 64 0 [0, 2, 3, 4]) R4 (kBlk 0 (kSeq (zdZ [true, true, true] 17) (kRet Try.prog Try.f20.results.toList K)))) = zgyZ R4 x0 x2 x3 x4 H K := by kernel_rfl
theorem zrcZ {K : AV → AH → Prop} (I : Nat → AV → AV → AV → AV → AH → Prop) (round : ∀ (n : Nat) (x0 x2 x3 x4 : AV) (H : AH) (R : List AV → AH → Prop), (∀ (m : Nat) (y0 y2 y3 y4 : AV) (H' : AH), m < n → I m y0 y2 y3 y4 H' → R [y0, y2, y3, y4] H') → I n x0 x2 x3 x4 H → zgyZ R x0 x2 x3 x4 H K) (n : Nat) {x0 x2 x3 x4 : AV} {H : AH} (h : I n x0 x2 x3 x4 H) : zogZ x0 x2 x3 x4 H K := by
 refine lp_mono (zmaZ _ _) (LI4 I) ?_ n h
 intro n X H h
 obtain ⟨x0, x2, x3, x4, rfl, h⟩ := h.elim
 exact Eq.mpr (zthZ _ x0 x2 x3 x4 H K) (round n x0 x2 x3 x4 H (fun X H' => ∃ m, m < n ∧ LI4 I m X H') (fun m y0 y2 y3 y4 H' hm hi => ⟨m, hm, hi⟩) h)
def zncZ (a0 : AV) (H : AH) (K : AV → AH → Prop) : Prop :=
 bH (anew H (.agg [(.lit (.slice none 0 0)), (.lit (.slice none 0 0))])) fun v0 H1 =>
 bH (anew H1 (.agg [(.lit (.slice none 0 0)), (.lit (.slice none 0 0))])) fun v2 H3 =>
 zogZ a0 v0 v2 (.lit (.int .u8 0)) H3 K
theorem zvpZ (a0 : AV) (H : AH) (K : AV → AH → Prop) : sFun Try.prog zpdZ pqd pqda zouZ zokZ Try.f20 [a0] H K = zncZ a0 H K := by kernel_rfl
theorem zviZ {a0 : AV} {H : AH} {K : AV → AH → Prop} (h : zncZ a0 H K) : ACalls Try.prog 20 [a0] H K :=
 sFun_wp mixP Try.func20 (by kernel_rfl) (Eq.mpr (zvpZ a0 H K) h)
end Go.Proofs.Ytpnfdibgfichmaa.Av
end
/-! YtpnfdibgfichmaaAvKj -/
section
/- Images of small numbers: the region that makes a file, told operation by operation (printed by opis.py). -/
set_option linter.unusedVariables false
set_option linter.unusedSimpArgs false
set_option maxRecDepth 100000
namespace Go.Proofs.Ytpnfdibgfichmaa.Av
open Go Go.RowKit
noncomputable def imOOps : List Oper := (opsOf (sub [true, true, false, true, false, false, true, false, false, true, true, false, false, true, false, false, true, false, true, false] (bodyOf Try.f20))).toList
def imOT (x0 x2 x3 x4 x6 : AV) : List AV := expand (mk 64 0 [0, 2, 3, 4, 6]) [x0, x2, x3, x4, x6]
theorem imOLen : imOOps.length = 21 := by kernel_rfl
theorem imOOrd : ordOk imOOps = true := by kernel_rfl
theorem imO_e0 (x0 x2 x3 x4 x6 : AV) (vals : Nat → AV) (H : AH) (K : AV → AH → Prop) : sOp Try.prog pqd none0 false (aeval (pt imOOps vals (fun _ => true) (imOT x0 x2 x3 x4 x6) 0)) H (imOOps.getD 0 default) true K = gO true (some x4) fun v => K v H := by kernel_rfl
theorem imO_op0 (x0 x2 x3 x4 x6 : AV) : OpIs Try.prog imOOps (imOT x0 x2 x3 x4 x6) 0 [] fun vals H K => gO true (some x4) fun v => K v H := by
 refine OpIs.opB (ql := pqd) (imOOps.getD 0 default) (by kernel_rfl) (by kernel_rfl) (by kernel_rfl) (fun ρ => by kernel_rfl) ?_
 intro vals H K h
 rw [imO_e0]
 exact h
theorem imO_e1 (x0 x2 x3 x4 x6 : AV) (vals : Nat → AV) (H : AH) (K : AV → AH → Prop) : sOp Try.prog pqd none0 false (aeval (pt imOOps vals (fun _ => true) (imOT x0 x2 x3 x4 x6) 1)) H (imOOps.getD 1 default) true K = gO true (acI .i64 (vals 0)) fun v => K v H := by kernel_rfl
theorem imO_op1 (x0 x2 x3 x4 x6 : AV) : OpIs Try.prog imOOps (imOT x0 x2 x3 x4 x6) 1 [0] fun vals H K => gO true (acI .i64 (vals 0)) fun v => K v H := by
 refine OpIs.opB (ql := pqd) (imOOps.getD 1 default) (by kernel_rfl) (by kernel_rfl) (by kernel_rfl) (fun ρ => by kernel_rfl) ?_
 intro vals H K h
 rw [imO_e1]
 exact h
theorem imO_e2 (x0 x2 x3 x4 x6 : AV) (vals : Nat → AV) (H : AH) (K : AV → AH → Prop) : sOp Try.prog pqd none0 false (aeval (pt imOOps vals (fun _ => true) (imOT x0 x2 x3 x4 x6) 2)) H (imOOps.getD 2 default) true K = gO true (abI .sub (I 10) (vals 1)) fun v => K v H := by kernel_rfl
theorem imO_op2 (x0 x2 x3 x4 x6 : AV) : OpIs Try.prog imOOps (imOT x0 x2 x3 x4 x6) 2 [1] fun vals H K => gO true (abI .sub (I 10) (vals 1)) fun v => K v H := by
 refine OpIs.opB (ql := pqd) (imOOps.getD 2 default) (by kernel_rfl) (by kernel_rfl) (by kernel_rfl) (fun ρ => by kernel_rfl) ?_
 intro vals H K h
 rw [imO_e2]
 exact h
theorem imO_e3 (x0 x2 x3 x4 x6 : AV) (vals : Nat → AV) (H : AH) (K : AV → AH → Prop) : sOp Try.prog pqd none0 false (aeval (pt imOOps vals (fun _ => true) (imOT x0 x2 x3 x4 x6) 3)) H (imOOps.getD 3 default) true K = gO true (some x0) fun v => K v H := by kernel_rfl
theorem imO_op3 (x0 x2 x3 x4 x6 : AV) : OpIs Try.prog imOOps (imOT x0 x2 x3 x4 x6) 3 [] fun vals H K => gO true (some x0) fun v => K v H := by
 refine OpIs.opB (ql := pqd) (imOOps.getD 3 default) (by kernel_rfl) (by kernel_rfl) (by kernel_rfl) (fun ρ => by kernel_rfl) ?_
 intro vals H K h
 rw [imO_e3]
 exact h
theorem imO_e4 (x0 x2 x3 x4 x6 : AV) (vals : Nat → AV) (H : AH) (K : AV → AH → Prop) : sOp Try.prog pqd none0 false (aeval (pt imOOps vals (fun _ => true) (imOT x0 x2 x3 x4 x6) 4)) H (imOOps.getD 4 default) true K = gO true (some x6) fun v => K v H := by kernel_rfl
theorem imO_op4 (x0 x2 x3 x4 x6 : AV) : OpIs Try.prog imOOps (imOT x0 x2 x3 x4 x6) 4 [] fun vals H K => gO true (some x6) fun v => K v H := by
 refine OpIs.opB (ql := pqd) (imOOps.getD 4 default) (by kernel_rfl) (by kernel_rfl) (by kernel_rfl) (fun ρ => by kernel_rfl) ?_
 intro vals H K h
 rw [imO_e4]
 exact h
theorem imO_e5 (x0 x2 x3 x4 x6 : AV) (vals : Nat → AV) (H : AH) (K : AV → AH → Prop) : sOp Try.prog pqd none0 false (aeval (pt imOOps vals (fun _ => true) (imOT x0 x2 x3 x4 x6) 5)) H (imOOps.getD 5 default) true K = gO true (aixS 3 (vals 3) (vals 4)) fun v => K v H := by kernel_rfl
theorem imO_op5 (x0 x2 x3 x4 x6 : AV) : OpIs Try.prog imOOps (imOT x0 x2 x3 x4 x6) 5 [3, 4] fun vals H K => gO true (aixS 3 (vals 3) (vals 4)) fun v => K v H := by
 refine OpIs.opB (ql := pqd) (imOOps.getD 5 default) (by kernel_rfl) (by kernel_rfl) (by kernel_rfl) (fun ρ => by kernel_rfl) ?_
 intro vals H K h
 rw [imO_e5]
 exact h
theorem imO_e6 (x0 x2 x3 x4 x6 : AV) (vals : Nat → AV) (H : AH) (K : AV → AH → Prop) : sOp Try.prog pqd none0 false (aeval (pt imOOps vals (fun _ => true) (imOT x0 x2 x3 x4 x6) 6)) H (imOOps.getD 6 default) true K = gO true (ashift 2 (vals 5)) fun v => K v H := by kernel_rfl
theorem imO_op6 (x0 x2 x3 x4 x6 : AV) : OpIs Try.prog imOOps (imOT x0 x2 x3 x4 x6) 6 [5] fun vals H K => gO true (ashift 2 (vals 5)) fun v => K v H := by
 refine OpIs.opB (ql := pqd) (imOOps.getD 6 default) (by kernel_rfl) (by kernel_rfl) (by kernel_rfl) (fun ρ => by kernel_rfl) ?_
 intro vals H K h
 rw [imO_e6]
 exact h
theorem imO_e7 (x0 x2 x3 x4 x6 : AV) (vals : Nat → AV) (H : AH) (K : AV → AH → Prop) : sOp Try.prog pqd none0 false (aeval (pt imOOps vals (fun _ => true) (imOT x0 x2 x3 x4 x6) 7)) H (imOOps.getD 7 default) true K = gO true (ald false 1 H (vals 6)) fun v => K v H := by kernel_rfl
theorem imO_op7 (x0 x2 x3 x4 x6 : AV) : OpIs Try.prog imOOps (imOT x0 x2 x3 x4 x6) 7 [6] fun vals H K => gO true (ald false 1 H (vals 6)) fun v => K v H := by
 refine OpIs.opB (ql := pqd) (imOOps.getD 7 default) (by kernel_rfl) (by kernel_rfl) (by kernel_rfl) (fun ρ => by kernel_rfl) ?_
 intro vals H K h
 rw [imO_e7]
 exact h
theorem imO_e8 (x0 x2 x3 x4 x6 : AV) (vals : Nat → AV) (H : AH) (K : AV → AH → Prop) : sOp Try.prog pqd none0 false (aeval (pt imOOps vals (fun _ => true) (imOT x0 x2 x3 x4 x6) 8)) H (imOOps.getD 8 default) true K = gO true (some x0) fun v => K v H := by kernel_rfl
theorem imO_op8 (x0 x2 x3 x4 x6 : AV) : OpIs Try.prog imOOps (imOT x0 x2 x3 x4 x6) 8 [] fun vals H K => gO true (some x0) fun v => K v H := by
 refine OpIs.opB (ql := pqd) (imOOps.getD 8 default) (by kernel_rfl) (by kernel_rfl) (by kernel_rfl) (fun ρ => by kernel_rfl) ?_
 intro vals H K h
 rw [imO_e8]
 exact h
theorem imO_e9 (x0 x2 x3 x4 x6 : AV) (vals : Nat → AV) (H : AH) (K : AV → AH → Prop) : sOp Try.prog pqd none0 false (aeval (pt imOOps vals (fun _ => true) (imOT x0 x2 x3 x4 x6) 9)) H (imOOps.getD 9 default) true K = gO true (some x6) fun v => K v H := by kernel_rfl
theorem imO_op9 (x0 x2 x3 x4 x6 : AV) : OpIs Try.prog imOOps (imOT x0 x2 x3 x4 x6) 9 [] fun vals H K => gO true (some x6) fun v => K v H := by
 refine OpIs.opB (ql := pqd) (imOOps.getD 9 default) (by kernel_rfl) (by kernel_rfl) (by kernel_rfl) (fun ρ => by kernel_rfl) ?_
 intro vals H K h
 rw [imO_e9]
 exact h
theorem imO_e10 (x0 x2 x3 x4 x6 : AV) (vals : Nat → AV) (H : AH) (K : AV → AH → Prop) : sOp Try.prog pqd none0 false (aeval (pt imOOps vals (fun _ => true) (imOT x0 x2 x3 x4 x6) 10)) H (imOOps.getD 10 default) true K = gO true (aixS 3 (vals 8) (vals 9)) fun v => K v H := by kernel_rfl
theorem imO_op10 (x0 x2 x3 x4 x6 : AV) : OpIs Try.prog imOOps (imOT x0 x2 x3 x4 x6) 10 [8, 9] fun vals H K => gO true (aixS 3 (vals 8) (vals 9)) fun v => K v H := by
 refine OpIs.opB (ql := pqd) (imOOps.getD 10 default) (by kernel_rfl) (by kernel_rfl) (by kernel_rfl) (fun ρ => by kernel_rfl) ?_
 intro vals H K h
 rw [imO_e10]
 exact h
theorem imO_e11 (x0 x2 x3 x4 x6 : AV) (vals : Nat → AV) (H : AH) (K : AV → AH → Prop) : sOp Try.prog pqd none0 false (aeval (pt imOOps vals (fun _ => true) (imOT x0 x2 x3 x4 x6) 11)) H (imOOps.getD 11 default) true K = gO true (ashift 1 (vals 10)) fun v => K v H := by kernel_rfl
theorem imO_op11 (x0 x2 x3 x4 x6 : AV) : OpIs Try.prog imOOps (imOT x0 x2 x3 x4 x6) 11 [10] fun vals H K => gO true (ashift 1 (vals 10)) fun v => K v H := by
 refine OpIs.opB (ql := pqd) (imOOps.getD 11 default) (by kernel_rfl) (by kernel_rfl) (by kernel_rfl) (fun ρ => by kernel_rfl) ?_
 intro vals H K h
 rw [imO_e11]
 exact h
theorem imO_e12 (x0 x2 x3 x4 x6 : AV) (vals : Nat → AV) (H : AH) (K : AV → AH → Prop) : sOp Try.prog pqd none0 false (aeval (pt imOOps vals (fun _ => true) (imOT x0 x2 x3 x4 x6) 12)) H (imOOps.getD 12 default) true K = gO true (ald false 1 H (vals 11)) fun v => K v H := by kernel_rfl
theorem imO_op12 (x0 x2 x3 x4 x6 : AV) : OpIs Try.prog imOOps (imOT x0 x2 x3 x4 x6) 12 [11] fun vals H K => gO true (ald false 1 H (vals 11)) fun v => K v H := by
 refine OpIs.opB (ql := pqd) (imOOps.getD 12 default) (by kernel_rfl) (by kernel_rfl) (by kernel_rfl) (fun ρ => by kernel_rfl) ?_
 intro vals H K h
 rw [imO_e12]
 exact h
theorem imO_op13 (x0 x2 x3 x4 x6 : AV) : OpIs Try.prog imOOps (imOT x0 x2 x3 x4 x6) 13 [7, 12] fun vals H K => ACalls Try.prog 48 [(vals 7), (vals 12)] H K :=
 OpIs.call (imOOps.getD 13 default) (by kernel_rfl) (by kernel_rfl) (by kernel_rfl) _ (fun vals => [(vals 7), (vals 12)]) (by kernel_rfl) (fun vals => by kernel_rfl) (fun vals H K h => h)
theorem imO_e14 (x0 x2 x3 x4 x6 : AV) (vals : Nat → AV) (H : AH) (K : AV → AH → Prop) : sOp Try.prog pqd none0 false (aeval (pt imOOps vals (fun _ => true) (imOT x0 x2 x3 x4 x6) 14)) H (imOOps.getD 14 default) true K = gO true (abl zD [(0, 1, (vals 2)), (1, 2, (vals 13))]) fun v => K v H := by kernel_rfl
theorem imO_op14 (x0 x2 x3 x4 x6 : AV) : OpIs Try.prog imOOps (imOT x0 x2 x3 x4 x6) 14 [2, 13] fun vals H K => gO true (abl zD [(0, 1, (vals 2)), (1, 2, (vals 13))]) fun v => K v H := by
 refine OpIs.opB (ql := pqd) (imOOps.getD 14 default) (by kernel_rfl) (by kernel_rfl) (by kernel_rfl) (fun ρ => by kernel_rfl) ?_
 intro vals H K h
 rw [imO_e14]
 exact h
theorem imO_e15 (x0 x2 x3 x4 x6 : AV) (vals : Nat → AV) (H : AH) (K : AV → AH → Prop) : sOp Try.prog pqd none0 false (aeval (pt imOOps vals (fun _ => true) (imOT x0 x2 x3 x4 x6) 15)) H (imOOps.getD 15 default) true K = gH true (absl H 3 1 (zrow zD 1) [(0, 3, (vals 14))]) H K := by kernel_rfl
theorem imO_op15 (x0 x2 x3 x4 x6 : AV) : OpIs Try.prog imOOps (imOT x0 x2 x3 x4 x6) 15 [14] fun vals H K => gH true (absl H 3 1 (zrow zD 1) [(0, 3, (vals 14))]) H K := by
 refine OpIs.opB (ql := pqd) (imOOps.getD 15 default) (by kernel_rfl) (by kernel_rfl) (by kernel_rfl) (fun ρ => by kernel_rfl) ?_
 intro vals H K h
 rw [imO_e15]
 exact h
theorem imO_e16 (x0 x2 x3 x4 x6 : AV) (vals : Nat → AV) (H : AH) (K : AV → AH → Prop) : sOp Try.prog pqd none0 false (aeval (pt imOOps vals (fun _ => true) (imOT x0 x2 x3 x4 x6) 16)) H (imOOps.getD 16 default) true K = gO true (ashift 1 x3) fun v => K v H := by kernel_rfl
theorem imO_op16 (x0 x2 x3 x4 x6 : AV) : OpIs Try.prog imOOps (imOT x0 x2 x3 x4 x6) 16 [] fun vals H K => gO true (ashift 1 x3) fun v => K v H := by
 refine OpIs.opB (ql := pqd) (imOOps.getD 16 default) (by kernel_rfl) (by kernel_rfl) (by kernel_rfl) (fun ρ => by kernel_rfl) ?_
 intro vals H K h
 rw [imO_e16]
 exact h
theorem imO_e17 (x0 x2 x3 x4 x6 : AV) (vals : Nat → AV) (H : AH) (K : AV → AH → Prop) : sOp Try.prog pqd none0 false (aeval (pt imOOps vals (fun _ => true) (imOT x0 x2 x3 x4 x6) 17)) H (imOOps.getD 17 default) true K = gO true (ald false 1 H (vals 16)) fun v => K v H := by kernel_rfl
theorem imO_op17 (x0 x2 x3 x4 x6 : AV) : OpIs Try.prog imOOps (imOT x0 x2 x3 x4 x6) 17 [16] fun vals H K => gO true (ald false 1 H (vals 16)) fun v => K v H := by
 refine OpIs.opB (ql := pqd) (imOOps.getD 17 default) (by kernel_rfl) (by kernel_rfl) (by kernel_rfl) (fun ρ => by kernel_rfl) ?_
 intro vals H K h
 rw [imO_e17]
 exact h
theorem imO_e18 (x0 x2 x3 x4 x6 : AV) (vals : Nat → AV) (H : AH) (K : AV → AH → Prop) : sOp Try.prog pqd none0 false (aeval (pt imOOps vals (fun _ => true) (imOT x0 x2 x3 x4 x6) 18)) H (imOOps.getD 18 default) true K = gH true (aap 3 40 H (vals 15) (vals 17)) H K := by kernel_rfl
theorem imO_op18 (x0 x2 x3 x4 x6 : AV) : OpIs Try.prog imOOps (imOT x0 x2 x3 x4 x6) 18 [13, 15, 17] fun vals H K => gH true (aap 3 40 H (vals 15) (vals 17)) H K := by
 refine OpIs.opB (ql := pqd) (imOOps.getD 18 default) (by kernel_rfl) (by kernel_rfl) (by kernel_rfl) (fun ρ => by kernel_rfl) ?_
 intro vals H K h
 rw [imO_e18]
 exact h
theorem imO_e19 (x0 x2 x3 x4 x6 : AV) (vals : Nat → AV) (H : AH) (K : AV → AH → Prop) : sOp Try.prog pqd none0 false (aeval (pt imOOps vals (fun _ => true) (imOT x0 x2 x3 x4 x6) 19)) H (imOOps.getD 19 default) true K = gO true (ashift 1 x3) fun v => K v H := by kernel_rfl
theorem imO_op19 (x0 x2 x3 x4 x6 : AV) : OpIs Try.prog imOOps (imOT x0 x2 x3 x4 x6) 19 [0, 1, 2, 3, 4, 5, 6, 7, 8, 9, 10, 11, 12, 13, 14, 15, 16, 17, 18] fun vals H K => gO true (ashift 1 x3) fun v => K v H := by
 refine OpIs.opB (ql := pqd) (imOOps.getD 19 default) (by kernel_rfl) (by kernel_rfl) (by kernel_rfl) (fun ρ => by kernel_rfl) ?_
 intro vals H K h
 rw [imO_e19]
 exact h
theorem imO_e20 (x0 x2 x3 x4 x6 : AV) (vals : Nat → AV) (H : AH) (K : AV → AH → Prop) : sOp Try.prog pqd none0 false (aeval (pt imOOps vals (fun _ => true) (imOT x0 x2 x3 x4 x6) 20)) H (imOOps.getD 20 default) true K = gS true (ast 1 H (vals 19) (vals 18)) H fun H' => K undefA H' := by kernel_rfl
theorem imO_op20 (x0 x2 x3 x4 x6 : AV) : OpIs Try.prog imOOps (imOT x0 x2 x3 x4 x6) 20 [0, 1, 2, 3, 4, 5, 6, 7, 8, 9, 10, 11, 12, 13, 14, 15, 16, 17, 18, 19] fun vals H K => gS true (ast 1 H (vals 19) (vals 18)) H fun H' => K undefA H' := by
 refine OpIs.opB (ql := pqd) (imOOps.getD 20 default) (by kernel_rfl) (by kernel_rfl) (by kernel_rfl) (fun ρ => by kernel_rfl) ?_
 intro vals H K h
 rw [imO_e20]
 exact h
def imONeed : List (List Nat) := [[], [0], [1], [], [], [3, 4], [5], [6], [], [], [8, 9], [10], [11], [7, 12], [2, 13], [14], [], [16], [13, 15, 17], [0, 1, 2, 3, 4, 5, 6, 7, 8, 9, 10, 11, 12, 13, 14, 15, 16, 17, 18], [0, 1, 2, 3, 4, 5, 6, 7, 8, 9, 10, 11, 12, 13, 14, 15, 16, 17, 18, 19]]
def imOF (x0 x2 x3 x4 x6 : AV) : List ((Nat → AV) → AH → (AV → AH → Prop) → Prop) := [
 fun vals H K => gO true (some x4) fun v => K v H,
 fun vals H K => gO true (acI .i64 (vals 0)) fun v => K v H,
 fun vals H K => gO true (abI .sub (I 10) (vals 1)) fun v => K v H,
 fun vals H K => gO true (some x0) fun v => K v H,
 fun vals H K => gO true (some x6) fun v => K v H,
 fun vals H K => gO true (aixS 3 (vals 3) (vals 4)) fun v => K v H,
 fun vals H K => gO true (ashift 2 (vals 5)) fun v => K v H,
 fun vals H K => gO true (ald false 1 H (vals 6)) fun v => K v H,
 fun vals H K => gO true (some x0) fun v => K v H,
 fun vals H K => gO true (some x6) fun v => K v H,
 fun vals H K => gO true (aixS 3 (vals 8) (vals 9)) fun v => K v H,
 fun vals H K => gO true (ashift 1 (vals 10)) fun v => K v H,
 fun vals H K => gO true (ald false 1 H (vals 11)) fun v => K v H,
 fun vals H K => ACalls Try.prog 48 [(vals 7), (vals 12)] H K,
 fun vals H K => gO true (abl zD [(0, 1, (vals 2)), (1, 2, (vals 13))]) fun v => K v H,
 fun vals H K => gH true (absl H 3 1 (zrow zD 1) [(0, 3, (vals 14))]) H K,
 fun vals H K => gO true (ashift 1 x3) fun v => K v H,
 fun vals H K => gO true (ald false 1 H (vals 16)) fun v => K v H,
 fun vals H K => gH true (aap 3 40 H (vals 15) (vals 17)) H K,
 fun vals H K => gO true (ashift 1 x3) fun v => K v H,
 fun vals H K => gS true (ast 1 H (vals 19) (vals 18)) H fun H' => K undefA H']
theorem imOIs (x0 x2 x3 x4 x6 : AV) : ∀ i, i < imOOps.length → OpIs Try.prog imOOps (imOT x0 x2 x3 x4 x6) i (imONeed.getD i []) ((imOF x0 x2 x3 x4 x6).getD i (fun _ _ _ => False)) := by
 intro i hi
 rw [imOLen] at hi
 have : i = 0 ∨ i = 1 ∨ i = 2 ∨ i = 3 ∨ i = 4 ∨ i = 5 ∨ i = 6 ∨ i = 7 ∨ i = 8 ∨ i = 9 ∨ i = 10 ∨ i = 11 ∨ i = 12 ∨ i = 13 ∨ i = 14 ∨ i = 15 ∨ i = 16 ∨ i = 17 ∨ i = 18 ∨ i = 19 ∨ i = 20 := by omega
 rcases this with rfl | rfl | rfl | rfl | rfl | rfl | rfl | rfl | rfl | rfl | rfl | rfl | rfl | rfl | rfl | rfl | rfl | rfl | rfl | rfl | rfl
 ·exact imO_op0 x0 x2 x3 x4 x6
 ·exact imO_op1 x0 x2 x3 x4 x6
 ·exact imO_op2 x0 x2 x3 x4 x6
 ·exact imO_op3 x0 x2 x3 x4 x6
 ·exact imO_op4 x0 x2 x3 x4 x6
 ·exact imO_op5 x0 x2 x3 x4 x6
 ·exact imO_op6 x0 x2 x3 x4 x6
 ·exact imO_op7 x0 x2 x3 x4 x6
 ·exact imO_op8 x0 x2 x3 x4 x6
 ·exact imO_op9 x0 x2 x3 x4 x6
 ·exact imO_op10 x0 x2 x3 x4 x6
 ·exact imO_op11 x0 x2 x3 x4 x6
 ·exact imO_op12 x0 x2 x3 x4 x6
 ·exact imO_op13 x0 x2 x3 x4 x6
 ·exact imO_op14 x0 x2 x3 x4 x6
 ·exact imO_op15 x0 x2 x3 x4 x6
 ·exact imO_op16 x0 x2 x3 x4 x6
 ·exact imO_op17 x0 x2 x3 x4 x6
 ·exact imO_op18 x0 x2 x3 x4 x6
 ·exact imO_op19 x0 x2 x3 x4 x6
 ·exact imO_op20 x0 x2 x3 x4 x6
end Go.Proofs.Ytpnfdibgfichmaa.Av
end
