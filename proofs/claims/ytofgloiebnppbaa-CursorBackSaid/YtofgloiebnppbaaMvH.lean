/- Texts of this proof, one behind the other, packed into one file by a program of this session. No condition. -/
import Derived.Test.YtofgloiebnppbaaMvG
/-! YtofgloiebnppbaaAvCu -/
section
/- Chapter 14: a file at a place, its writing. -/
set_option linter.unusedVariables false
set_option linter.unusedSimpArgs false
set_option maxRecDepth 100000
namespace Go.Proofs.Ytofgloiebnppbaa.Av
open Go Go.RowKit

theorem StAt.keep {s : StS} {os : Nat} {p : AV} {H H' : AH} (h : StAt s os p H) (k : ∀ j, j = os ∨ j ∈ idS p → H'[j]? = H[j]?) : StAt s os p H' := by
 obtain ⟨a, b, c, d, pv, h⟩ := h
 exact ⟨a, b, c, d, pv, by rw [k os (.inl rfl)]; exact h.obj, h.now, h.kept, h.pm, zbZ h.ps fun i q => k i (.inr q), h.po, h.pi, h.pc⟩
theorem StAt.os_lt {s : StS} {os : Nat} {p : AV} {H : AH} (h : StAt s os p H) : os < H.length := by obtain ⟨a, b, c, d, pv, h⟩ := h; exact h.lt
theorem StAt.p_lt {s : StS} {os : Nat} {p : AV} {H : AH} (h : StAt s os p H) : ∀ j ∈ idS p, j < H.length := by obtain ⟨a, b, c, d, pv, h⟩ := h; exact idS_lt h
theorem Chunk_c {H : AH} {v : AV} {cs : List AV} {m : Nat} (hv : zaZ H 1 v = some (cs, m)) (ho : oneA v = true) : BCall Try.prog 45 [v, I 4096] H (.fn (.func 68) [] [.ptr H.length 0, .ptr (H.length + 1) 0]) (H ++ [some (.cells [v]), some (.cells [I 4096])]) := by
 obtain ⟨r, H', ⟨rfl, rfl⟩, hc⟩ := zizZ (a0 := v) (a1 := I 4096) (H := H) (K := fun r H' => r = .fn (.func 68) [] [.ptr H.length 0, .ptr (H.length + 1) 0] ∧ H' = H ++ [some (.cells [v]), some (.cells [I 4096])]) (by
  unfold zdnZ
  have e1 : anew H v = some (.ptr H.length 0, H ++ [some (.cells [v])]) := by unfold anew; rw [zcnZ ho]; rfl
  have e2 : anew (H ++ [some (.cells [v])]) (I 4096) = some (.ptr (H.length + 1) 0, H ++ [some (.cells [v]), some (.cells [I 4096])]) := by unfold anew; rw [zcnZ (v := I 4096) rfl]; simp
  have c2 : (H ++ [some (AObj.cells [v]), some (.cells [I 4096])])[H.length + 1]? = some (some (.cells [I 4096])) := by simp
  simp only [e1, bH_some, e2, ald_ptr c2, zjZ, List.getElem?_cons_zero, bO_some, abI_lss, bB_bool, show ¬ (4096 : Int) < 1 by omega, decide_false, zbaZ]
  exact ⟨by trivial, by trivial⟩)
 exact hc
/-! what is written, piece by piece -/
def chunkB (b : List UInt8) : List (List UInt8) := (List.range (chN b.length 4096)).map fun j => (b.drop (j * 4096)).take (min 4096 (b.length - j * 4096))
def pcs (ino : Int) : List (List UInt8) → StS → Int → Int → (StS × Int × Int) × Int
 | [], s, at', sum => ((s, at', sum), 0)
 | b :: r, s, at', sum =>
  if (writeS s ino at' b).1.2 = 0 then pcs ino r (writeS s ino at' b).2 (at' + (writeS s ino at' b).1.1) (sum + (writeS s ino at' b).1.1)
  else (((writeS s ino at' b).2, at' + (writeS s ino at' b).1.1, sum + (writeS s ino at' b).1.1), (writeS s ino at' b).1.2)
def lenB (l : List (List UInt8)) : Nat := (l.map List.length).sum
theorem wrS_n {c : List Ext} {ino pos : Int} {b : List UInt8} : ∀ {l : List Sp} {s : StS}, (∀ q ∈ l, pos ≤ q.pos ∧ 0 < q.len ∧ q.len ≤ 8 ∧ q.pos + q.len ≤ pos + b.length) → 0 ≤ (wrS c ino pos b l s).1.1 ∧ (wrS c ino pos b l s).1.1 ≤ b.length
 | [], s, _ => by unfold wrS; simp only; omega
 | q :: r, s, hq => by
  have h1 := hq q (by simp)
  unfold wrS
  split
  ·simp only; omega
  ·split
   ·simp only; omega
   ·exact wrS_n fun x hx => hq x (by simp [hx])
theorem writeS_n (s : StS) (ino pos : Int) (b : List UInt8) : 0 ≤ (writeS s ino pos b).1.1 ∧ (writeS s ino pos b).1.1 ≤ b.length := by
 unfold writeS
 split
 ·simp only; omega
 ·split
  ·simp only; omega
  ·rename_i hf
   have hf := Decidable.byContradiction hf
   exact wrS_n fun q hq => parts_in hf hq
structure CwS (os fo b0 : Nat) (ino : Int) (s : StS) (at' sum : Int) (p : AV) (H : AH) : Prop where
 st : StAt s os p H
 file : H[fo]? = some (some (.cells [I at', .ptr os 0, I ino]))
 box : H[b0]? = some (some (.cells [.ptr fo 0]))
 r1 : ∃ a, H[b0 + 1]? = some (some (.cells [a]))
 r2 : ∃ a, H[b0 + 2]? = some (some (.cells [a]))
 sum : H[b0 + 3]? = some (some (.cells [I sum]))
 nf : fo ≠ os ∧ fo ∉ idS p ∧ fo < b0 ∧ os < b0
 nb : ∀ j, b0 ≤ j → j ≤ b0 + 3 → j ∉ idS p
structure CwF (os fo b0 : Nat) (p p' : AV) (H H' : AH) : Prop where
 len : H.length ≤ H'.length
 same : ∀ j, j < H.length → j ≠ os → j ≠ fo → (j ≤ b0 ∨ b0 + 3 < j) → j ∉ idS p → H'[j]? = H[j]?
 ids : ∀ j ∈ idS p', j ∈ idS p ∨ H.length ≤ j
theorem CwF.refl (os fo b0 : Nat) (p : AV) (H : AH) : CwF os fo b0 p p H H := ⟨Nat.le_refl _, fun _ _ _ _ _ _ => rfl, fun _ h => .inl h⟩
theorem CwF.trans {os fo b0 : Nat} {p p' p'' : AV} {A B C : AH} (h : CwF os fo b0 p p' A B) (k : CwF os fo b0 p' p'' B C) : CwF os fo b0 p p'' A C :=
  ⟨Nat.le_trans h.len k.len, fun j hj h1 h2 h3 hp => by
    rw [k.same j (Nat.lt_of_lt_of_le hj h.len) h1 h2 h3 (fun hp' => (h.ids j hp').elim hp (fun q => by omega)), h.same j hj h1 h2 h3 hp],
   fun j hj => (k.ids j hj).elim (h.ids j) (fun q => .inr (Nat.le_trans h.len q))⟩
theorem CwF.of_grew {os fo b0 : Nat} {p : AV} {H H' : AH} (g : Grew H H') : CwF os fo b0 p p H H' := ⟨g.1, fun j hj _ _ _ _ => g.2 j hj, fun _ h => .inl h⟩
theorem CwS.grew {os fo b0 : Nat} {ino : Int} {s : StS} {at' sum : Int} {p : AV} {H H' : AH} (h : CwS os fo b0 ino s at' sum p H) (g : Grew H H') : CwS os fo b0 ino s at' sum p H' := by
 obtain ⟨a, ha⟩ := h.r1
 obtain ⟨b, hb⟩ := h.r2
 exact ⟨h.st.grew g, g.cells h.file, g.cells h.box, ⟨a, g.cells ha⟩, ⟨b, g.cells hb⟩, g.cells h.sum, h.nf, h.nb⟩
theorem piece_c {os fo b0 : Nat} {ino : Int} {s : StS} {at' sum : Int} {p w : AV} {H : AH} {N : Nat} {b : List UInt8} {K0 : AV → AH → Prop} {J X : AH → Prop} (h : CwS os fo b0 ino s at' sum p H) (hw : SW N s) (hN : N + 9 * b.length < 900000)
  (hv : zaZ H 1 w = some (encB b, b.length)) (hvi : ∀ j ∈ idS w, j ≠ os ∧ j ∉ idS p) (ha : 0 ≤ at' ∧ at' + b.length ≤ 4611686018427387904) (hs : 0 ≤ sum ∧ sum + b.length ≤ 4611686018427387904)
  (hj : (writeS s ino at' b).1.2 = 0 → ∀ p' H', CwS os fo b0 ino (writeS s ino at' b).2 (at' + (writeS s ino at' b).1.1) (sum + (writeS s ino at' b).1.1) p' H' → CwF os fo b0 p p' H H' → J H')
  (hx : (writeS s ino at' b).1.2 ≠ 0 → ∀ p' H', CwS os fo b0 ino (writeS s ino at' b).2 (at' + (writeS s ino at' b).1.1) (sum + (writeS s ino at' b).1.1) p' H' → CwF os fo b0 p p' H H' → H'[b0 + 1]? = some (some (.cells [I (sum + (writeS s ino at' b).1.1)])) → H'[b0 + 2]? = some (some (.cells [I (writeS s ino at' b).1.2])) → X H') :
  zbzZ (fun e H' => match e with | .normal => J H' | .ret => X H' | _ => False) (.ptr b0 0) (.ptr (b0 + 1) 0) (.ptr (b0 + 2) 0) (.ptr (b0 + 3) 0) w H K0 := by
 unfold zbzZ
 obtain ⟨n1, n2⟩ := writeS_n s ino at' b
 obtain ⟨r, H1, ⟨rfl, p', h1, f1⟩, hc⟩ := Write_c h.st hw ino at' hN hv hvi
 generalize writeS s ino at' b = W at *
 obtain ⟨d1, d2, d3, d4⟩ := h.nf
 have hl3 : b0 + 3 < H.length := (List.getElem?_eq_some_iff.1 h.sum).1
 have np : ∀ j, j < H.length → j ∉ idS p → j ∉ idS p' := fun j hj hp q => (f1.ids j q).elim hp (fun q => by omega)
 have kf : H1[fo]? = _ := (f1.same fo (by omega) d1 d2).trans h.file
 have kb : H1[b0]? = _ := (f1.same b0 (by omega) (by omega) (h.nb b0 (by omega) (by omega))).trans h.box
 have ks : H1[b0 + 3]? = _ := (f1.same (b0 + 3) (by omega) (by omega) (h.nb _ (by omega) (by omega))).trans h.sum
 have k1 := f1.same (b0 + 1) (by omega) (by omega) (h.nb _ (by omega) (by omega))
 have k2 := f1.same (b0 + 2) (by omega) (by omega) (h.nb _ (by omega) (by omega))
 obtain ⟨a1, q1⟩ := h.r1
 obtain ⟨a2, q2⟩ := h.r2
 rw [q1] at k1
 rw [q2] at k2
 have e1 : abI .add (I at') (I W.1.1) = some (I (at' + W.1.1)) := abI_add (by omega) (by omega)
 have e2 : ast 1 H1 (.ptr fo 0) (I (at' + W.1.1)) = some (H1.set fo (some (.cells [I (at' + W.1.1), .ptr os 0, I ino]))) := fld kf (by simp) rfl
 simp only [ald_ptr h.box, zjZ, List.getElem?_cons_succ, List.getElem?_cons_zero, bO_some, zeZ, zqZ, Nat.zero_add, ald_ptr h.file]
 refine bC_of hc ?_
 have hlen := f1.len
 simp only [zmZ, List.getElem?_cons_succ, List.getElem?_cons_zero, ald_ptr kb, zjZ, bO_some, zeZ, zqZ, Nat.zero_add, ald_ptr kf, e1, e2, bS_some]
 generalize hH2 : H1.set fo (some (AObj.cells [I (at' + W.1.1), .ptr os 0, I ino])) = H2
 have g2 : ∀ j, j ≠ fo → H2[j]? = H1[j]? := fun j hj => by rw [← hH2]; exact List.getElem?_set_ne (Ne.symm hj)
 have gf : H2[fo]? = some (some (.cells [I (at' + W.1.1), .ptr os 0, I ino])) := by rw [← hH2]; exact List.getElem?_set_self (by omega)
 have l2 : H2.length = H1.length := by rw [← hH2, List.length_set]
 have ks2 : H2[b0 + 3]? = _ := (g2 _ (by omega)).trans ks
 have e3 : abI .add (I sum) (I W.1.1) = some (I (sum + W.1.1)) := abI_add (by omega) (by omega)
 have e4 : ast 1 H2 (.ptr (b0 + 3) 0) (I (sum + W.1.1)) = some (H2.set (b0 + 3) (some (.cells [I (sum + W.1.1)]))) := fld ks2 (by simp) rfl
 simp only [ald_ptr ks2, zjZ, List.getElem?_cons_zero, bO_some, e3, e4, bS_some, abI_neq, bB_bool]
 generalize hH3 : H2.set (b0 + 3) (some (AObj.cells [I (sum + W.1.1)])) = H3
 have g3 : ∀ j, j ≠ b0 + 3 → H3[j]? = H2[j]? := fun j hj => by rw [← hH3]; exact List.getElem?_set_ne (Ne.symm hj)
 have gs : H3[b0 + 3]? = some (some (.cells [I (sum + W.1.1)])) := by rw [← hH3]; exact List.getElem?_set_self (by omega)
 have l3 : H3.length = H1.length := by rw [← hH3, List.length_set, l2]
 have st3 : StAt W.2 os p' H3 := h1.keep fun j hj => by
  have hjf : j ≠ fo ∧ j ≠ b0 + 3 := by
   rcases hj with rfl | hj
   ·exact ⟨Ne.symm d1, by omega⟩
   ·exact ⟨fun e => np fo (by omega) d2 (by rw [← e]; exact hj), fun e => np (b0 + 3) (by omega) (h.nb _ (by omega) (by omega)) (by rw [← e]; exact hj)⟩
  rw [g3 j hjf.2, g2 j hjf.1]
 have S3 : CwS os fo b0 ino W.2 (at' + W.1.1) (sum + W.1.1) p' H3 := ⟨st3, by rw [g3 fo (by omega)]; exact gf, by rw [g3 b0 (by omega), g2 b0 (by omega)]; exact kb, ⟨a1, by rw [g3 _ (by omega), g2 _ (by omega)]; exact k1⟩, ⟨a2, by rw [g3 _ (by omega), g2 _ (by omega)]; exact k2⟩, gs, ⟨d1, np fo (by omega) d2, d3, d4⟩, fun j hj1 hj2 => np j (by omega) (h.nb j hj1 hj2)⟩
 have F3 : CwF os fo b0 p p' H H3 := ⟨by omega, fun j hj h1 h2 h3 hp => by rw [g3 j (by omega), g2 j h2, f1.same j hj h1 hp], f1.ids⟩
 by_cases he : W.1.2 = 0
 ·simp only [he, ne_eq, not_true_eq_false, decide_false, zbaZ]
  exact hj he p' H3 S3 F3
 ·have c1 : H3[b0 + 1]? = _ := (g3 _ (by omega)).trans ((g2 _ (by omega)).trans k1)
  have e5 : ast 1 H3 (.ptr (b0 + 1) 0) (I (sum + W.1.1)) = some (H3.set (b0 + 1) (some (.cells [I (sum + W.1.1)]))) := fld c1 (by simp) rfl
  have c2 : (H3.set (b0 + 1) (some (AObj.cells [I (sum + W.1.1)])))[b0 + 2]? = some (some (.cells [a2])) := by rw [List.getElem?_set_ne (by omega), g3 _ (by omega), g2 _ (by omega)]; exact k2
  have e6 := fld c2 (k := 0) (x := I W.1.2) (by simp) rfl
  simp only [he, ne_eq, not_false_eq_true, decide_true, bI_true, ald_ptr gs, zjZ, List.getElem?_cons_zero, bO_some, e5, bS_some, e6, List.set_cons_zero]
  generalize hH4 : (H3.set (b0 + 1) (some (AObj.cells [I (sum + W.1.1)]))).set (b0 + 2) (some (AObj.cells [I W.1.2])) = H4
  have g4 : ∀ j, j ≠ b0 + 1 → j ≠ b0 + 2 → H4[j]? = H3[j]? := fun j hj1 hj2 => by rw [← hH4, List.getElem?_set_ne (Ne.symm hj2), List.getElem?_set_ne (Ne.symm hj1)]
  have t1 : H4[b0 + 1]? = some (some (.cells [I (sum + W.1.1)])) := by rw [← hH4, List.getElem?_set_ne (by omega)]; exact List.getElem?_set_self (by omega)
  have t2 : H4[b0 + 2]? = some (some (.cells [I W.1.2])) := by rw [← hH4]; exact List.getElem?_set_self (by rw [List.length_set]; omega)
  have l4 : H4.length = H3.length := by rw [← hH4, List.length_set, List.length_set]
  refine hx he p' H4 ⟨st3.keep fun j hj => ?_, by rw [g4 fo (by omega) (by omega)]; exact S3.file, by rw [g4 b0 (by omega) (by omega)]; exact S3.box, ⟨_, t1⟩, ⟨_, t2⟩, by rw [g4 _ (by omega) (by omega)]; exact gs, S3.nf, S3.nb⟩ ⟨by have := F3.len; omega, fun j hj h1 h2 h3 hp => by rw [g4 j (by omega) (by omega)]; exact F3.same j hj h1 h2 h3 hp, F3.ids⟩ t1 t2
  rcases hj with rfl | hj
  ·exact g4 j (by omega) (by omega)
  ·exact g4 j (fun e => S3.nb (b0 + 1) (by omega) (by omega) (by rw [← e]; exact hj)) (fun e => S3.nb (b0 + 2) (by omega) (by omega) (by rw [← e]; exact hj))
end Go.Proofs.Ytofgloiebnppbaa.Av
end
/-! YtofgloiebnppbaaAvCv -/
section
/- Chapter 14: all the pieces. -/
set_option linter.unusedVariables false
set_option linter.unusedSimpArgs false
set_option maxRecDepth 100000
namespace Go.Proofs.Ytofgloiebnppbaa.Av
open Go Go.RowKit

noncomputable abbrev fwB : Code := bodyOf Try.f21
abbrev fwP : List Bool := [true, true, false, true, false, false, true, true, false, false, true, true, false]
theorem fw_asg (x2 x4 x5 x6 x12 x13 x14 x19 x : AV) (H : AH) (Q : Exit → List AV → AH → Prop) : sCode Try.prog (flOf []) none0 none0 none0 (kpOf []) (asgOf (sub fwP fwB)) 0 ((expand (mk 58 0 [2, 4, 5, 6, 12, 13, 14, 19]) [x2, x4, x5, x6, x12, x13, x14, x19]).set 20 x) H (fun e T H => fP (mk 58 0 [2, 4, 5, 6, 9]) T fun X => Q e X H) = Q .normal [x2, x4, x5, x6, x] H := by kernel_rfl
theorem fw_asg_ok : codeOk (flOf []) none0 (asgOf (sub fwP fwB)) = true := by kernel_rfl
theorem fw_bd_ok : codeOkU zfpZ pqe zfkZ (sub (fwP ++ [true]) fwB) = true := by kernel_rfl
theorem fw_rnd {x2 x4 x5 x6 x12 x13 x14 x19 x : AV} {H : AH} {J X : AH → Prop} {K0 : AV → AH → Prop} (h : zbzZ (fun e H' => match e with | .normal => J H' | .ret => X H' | _ => False) x2 x4 x5 x6 x H K0) :
  RndOk Try.prog (asgOf (sub fwP fwB)) (sub (fwP ++ [true]) fwB) (expand (mk 58 0 [2, 4, 5, 6, 12, 13, 14, 19]) [x2, x4, x5, x6, x12, x13, x14, x19]) 20 x H J (fun c H' => c = .ret ∧ X H') := by
 obtain ⟨e, T', H', hk, hb⟩ := sCode_ok mixP (asgOf (sub fwP fwB)) 0 _ H _ fw_asg_ok (Eq.mpr (fw_asg x2 x4 x5 x6 x12 x13 x14 x19 x H (fun e X H2 => e = .normal ∧ X = [x2, x4, x5, x6, x] ∧ H2 = H)) ⟨rfl, rfl, rfl⟩)
 obtain ⟨hl, he, hX, hH⟩ := fP_iff.1 hk
 subst he; subst hH
 refine ⟨T', hb, ?_⟩
 refine ACode.weak (fun G a hF => zhqZ hl hF) ?_
 rw [hX]
 refine (sCode_wp mixP (sub (fwP ++ [true]) fwB) 11 _ _ _ fw_bd_ok (Eq.mpr (zkoZ (fun e H' => match e with | .normal => J H' | .ret => X H' | _ => False) x2 x4 x5 x6 x _ K0) h)).mono ?_
 intro e T H2 hk
 cases e with
 | normal => exact hk
 | ret => exact ⟨rfl, hk⟩
 | _ => exact hk.elim
theorem fw_F {R4 : List AV → AH → Prop} {x2 x4 x5 x6 x12 x13 x14 : AV} {H : AH} {K : AV → AH → Prop} {k : FuncId} {cap xs : List AV} {Cap : AH → Prop} (hit : IterOk Try.prog k cap Cap xs) (hgo : goFunc Try.prog k = true) (J : Nat → AH → Prop) (X : AH → Prop) (h0 : J 0 H) (hcap : ∀ i H', J i H' → Cap H')
  (hr : ∀ i x H', xs[i]? = some x → J i H' → zbzZ (fun e H' => match e with | .normal => J (i + 1) H' | .ret => X H' | _ => False) x2 x4 x5 x6 x H' K)
  (hdone : ∀ H', J xs.length H' → bO (abI .add x14 (.lit (.int .i64 1))) fun v6 => R4 [x2, x4, x5, x6, x12, x13, v6] H')
  (hout : ∀ H', X H' → bO (ald false 1 H' x4) fun v7 => bO (ald false 1 H' x5) fun v8 => K (.tup [v7, v8]) H') : zheZ R4 x2 x4 x5 x6 x12 x13 x14 (.fn (.func k) [] cap) H K := by
 refine ⟨?_⟩
 rw [ziqZ]
 refine ACode.rangeF hit hgo rfl J (fun c H' => c = .ret ∧ X H') h0 hcap (fun i x H' hx hj => fw_rnd (hr i x H' hx hj)) (fun H' hj => ?_) (fun c H' hx => .inl ⟨hx.1, ?_⟩)
 ·exact Eq.mpr (zkpZ R4 x2 x4 x5 x6 x12 x13 x14 (.fn (.func k) [] cap) H' K) (hdone H' hj)
 ·exact Eq.mpr (zklZ R4 x2 x4 x5 x6 x12 x13 x14 (.fn (.func k) [] cap) H' K) (hout H' hx.2)
def pieceB (b : List UInt8) (j : Nat) : List UInt8 := (b.drop (j * 4096)).take (min 4096 (b.length - j * 4096))
theorem chunkB_get {b : List UInt8} {i : Nat} (h : i < chN b.length 4096) : (chunkB b)[i]? = some (pieceB b i) := by
 unfold chunkB
 rw [List.getElem?_map, List.getElem?_range h]; rfl
theorem chunkB_len (b : List UInt8) : (chunkB b).length = chN b.length 4096 := by simp [chunkB]
theorem chX_sl {H : AH} {v : AV} {b : List UInt8} {j : Nat} (hv : zaZ H 1 v = some (encB b, b.length)) (hj : j * 4096 < b.length) :
  zaZ H 1 (chX v b.length 4096 j) = some (encB (pieceB b j), (pieceB b j).length) ∧ ∀ i ∈ idS (chX v b.length 4096 j), i ∈ idS v := by
 obtain ⟨r, h1, h2, h3⟩ := aslS_max hv (l := j * 4096) (k := j * 4096 + min 4096 (b.length - j * 4096)) (by omega) (by omega)
 have e : chX v b.length 4096 j = r := by unfold chX; rw [h1]; rfl
 rw [e]
 refine ⟨?_, h3⟩
 rw [h2 H hv]
 unfold pieceB
 rw [Nat.add_sub_cancel_left, List.length_take, List.length_drop]
 simp only [encB, List.map_take, List.map_drop]
 congr 2
 omega
structure Bd (NN : Nat) (rest : List (List UInt8)) (s : StS) (at' sum : Int) : Prop where
 w : ∃ M, SW M s ∧ M + 9 * lenB rest ≤ NN
 a : 0 ≤ at' ∧ at' + lenB rest ≤ 4611686018427387904
 s : 0 ≤ sum ∧ sum + lenB rest ≤ 4611686018427387904
theorem lenB_cons (b : List UInt8) (r : List (List UInt8)) : lenB (b :: r) = b.length + lenB r := by simp [lenB]
theorem FWrite_a {N : Nat} {s : StS} {os fo : Nat} {p a1 : AV} {H : AH} {ino at' : Int} {bl : List (AV × List UInt8)} (hst : StAt s os p H) (hf : H[fo]? = some (some (.cells [I at', .ptr os 0, I ino]))) (hne : fo ≠ os ∧ fo ∉ idS p) (hw : SW N s)
  (ha : zaZ H 1 a1 = some (bl.map Prod.fst, bl.length)) (hai : ∀ j ∈ idS a1, j ≠ os ∧ j ≠ fo ∧ j ∉ idS p) (hb : ∀ x ∈ bl, zaZ H 1 x.1 = some (encB x.2, x.2.length) ∧ oneA x.1 = true ∧ x.2.length ≤ 1000000 ∧ ∀ j ∈ idS x.1, j ≠ os ∧ j ≠ fo ∧ j ∉ idS p) (hbn : bl.length ≤ 1000000)
  (hN : N + 9 * lenB (bl.flatMap fun x => chunkB x.2) < 900000) (hat : 0 ≤ at' ∧ at' + lenB (bl.flatMap fun x => chunkB x.2) ≤ 4611686018427387904) :
  ACalls Try.prog 21 [.ptr fo 0, a1] H fun r H' => ∃ p', r = .tup [I (pcs ino (bl.flatMap fun x => chunkB x.2) s at' 0).1.2.2, I (pcs ino (bl.flatMap fun x => chunkB x.2) s at' 0).2] ∧ StAt (pcs ino (bl.flatMap fun x => chunkB x.2) s at' 0).1.1 os p' H' ∧
   H'[fo]? = some (some (.cells [I (pcs ino (bl.flatMap fun x => chunkB x.2) s at' 0).1.2.1, .ptr os 0, I ino])) ∧ CwF os fo H.length p p' H H' := cursor_File_Write_ok (by
 generalize hRES : pcs ino (bl.flatMap fun x => chunkB x.2) s at' 0 = RES
 generalize hNN : N + 9 * lenB (bl.flatMap fun x => chunkB x.2) = NN at hN
 unfold zhoZ
 have hfl : fo < H.length := (List.getElem?_eq_some_iff.1 hf).1
 have n1 : ∀ (Z : AH) (x : AV), oneA x = true → anew Z x = some (.ptr Z.length 0, Z ++ [some (.cells [x])]) := fun Z x hx => by unfold anew; rw [zcnZ hx]; rfl
 generalize hb0 : H.length = b0
 have al : alnS a1 = some (I (bl.length : Nat)) := zhiZ ha
 have s0 : ast 1 (H ++ [some (AObj.cells [.ptr fo 0])] ++ [some (.cells [I 0])] ++ [some (.cells [I 0])] ++ [some (.cells [I 0])]) (.ptr (b0 + 3) 0) (I 0) = some (H ++ [some (AObj.cells [.ptr fo 0])] ++ [some (.cells [I 0])] ++ [some (.cells [I 0])] ++ [some (.cells [I 0])]) := by
  rw [fld (cs := [I 0]) (k := 0) (by rw [← hb0]; simp) (by simp) rfl]
  congr 1
  apply List.ext_getElem?
  intro j
  by_cases c : j = b0 + 3
  ·subst c
   rw [List.getElem?_set_self (by rw [← hb0]; simp), ← hb0]; simp
  ·rw [List.getElem?_set_ne (Ne.symm c)]
 have l1 : (H ++ [some (AObj.cells [AV.ptr fo 0])]).length = b0 + 1 := by simp [hb0]
 have l2 : (H ++ [some (AObj.cells [AV.ptr fo 0])] ++ [some (AObj.cells [I 0])]).length = b0 + 2 := by simp [hb0]
 have l3 : (H ++ [some (AObj.cells [AV.ptr fo 0])] ++ [some (AObj.cells [I 0])] ++ [some (AObj.cells [I 0])]).length = b0 + 3 := by simp [hb0]
 simp only [n1 H (AV.ptr fo 0) rfl, bH_some, n1 (H ++ [some (AObj.cells [AV.ptr fo 0])]) (I 0) rfl, n1 (H ++ [some (AObj.cells [AV.ptr fo 0])] ++ [some (AObj.cells [I 0])]) (I 0) rfl, n1 (H ++ [some (AObj.cells [AV.ptr fo 0])] ++ [some (AObj.cells [I 0])] ++ [some (AObj.cells [I 0])]) (I 0) rfl, hb0, l1, l2, l3, s0, bS_some, al, bO_some]
 have g0 : Grew H (H ++ [some (AObj.cells [AV.ptr fo 0])] ++ [some (AObj.cells [I 0])] ++ [some (AObj.cells [I 0])] ++ [some (AObj.cells [I 0])]) := by
  simp only [List.append_assoc]; exact Grew.app H _
 have hplt := hst.p_lt
 have S0 : CwS os fo b0 ino s at' 0 p (H ++ [some (AObj.cells [AV.ptr fo 0])] ++ [some (AObj.cells [I 0])] ++ [some (AObj.cells [I 0])] ++ [some (AObj.cells [I 0])]) :=
  ⟨hst.grew g0, g0.cells hf, by rw [← hb0]; simp, ⟨I 0, by rw [← hb0]; simp⟩, ⟨I 0, by rw [← hb0]; simp⟩, by rw [← hb0]; simp, ⟨hne.1, hne.2, by omega, by have := hst.os_lt; omega⟩, fun j hj _ q => by have := hplt j q; omega⟩
 have F0 : CwF os fo b0 p p H (H ++ [some (AObj.cells [AV.ptr fo 0])] ++ [some (AObj.cells [I 0])] ++ [some (AObj.cells [I 0])] ++ [some (AObj.cells [I 0])]) := .of_grew g0
 have B0 : Bd NN (bl.flatMap fun x => chunkB x.2) s at' 0 := ⟨⟨N, hw, by omega⟩, hat, by omega, by omega⟩
 generalize (H ++ [some (AObj.cells [AV.ptr fo 0])] ++ [some (AObj.cells [I 0])] ++ [some (AObj.cells [I 0])] ++ [some (AObj.cells [I 0])]) = HB at S0 F0
 refine zjfZ (fun m x2 x4 x5 x6 x12 x13 x14 H' => ∃ (k : Nat) (s : StS) (at' sum : Int) (p' : AV), k + m = bl.length ∧ x2 = .ptr b0 0 ∧ x4 = .ptr (b0 + 1) 0 ∧ x5 = .ptr (b0 + 2) 0 ∧ x6 = .ptr (b0 + 3) 0 ∧ a1 = x12 ∧ x13 = I bl.length ∧ x14 = I k ∧
  CwS os fo b0 ino s at' sum p' H' ∧ CwF os fo b0 p p' H H' ∧ pcs ino ((bl.drop k).flatMap fun x => chunkB x.2) s at' sum = RES ∧ Bd NN ((bl.drop k).flatMap fun x => chunkB x.2) s at' sum) ?_ bl.length ⟨0, s, at', 0, p, by omega, rfl, rfl, rfl, rfl, rfl, rfl, rfl, S0, F0, hRES, B0⟩
 rintro m x2 x4 x5 x6 x12 x13 x14 H1 R hR ⟨k, s, at', sum, p1, hk, rfl, rfl, rfl, rfl, e12, rfl, rfl, S1, F1, hpc, hbd⟩
 subst e12
 unfold zdvZ
 have keepS : ∀ {w : AV} {sz : Nat} {cs : List AV} {n : Nat} {p2 : AV} {H2 : AH}, zaZ H sz w = some (cs, n) → (∀ j ∈ idS w, j ≠ os ∧ j ≠ fo ∧ j ∉ idS p) → CwF os fo b0 p p2 H H2 → zaZ H2 sz w = some (cs, n) := fun h1 h2 f => zbZ h1 fun j hj => f.same j (zoZ h1 j hj) (h2 j hj).1 (h2 j hj).2.1 (by have := zoZ h1 j hj; omega) (h2 j hj).2.2
 rcases Nat.lt_or_ge k bl.length with h | h
 ·have hx := List.getElem?_eq_getElem h
  generalize bl[k] = vb at hx
  obtain ⟨v, b⟩ := vb
  obtain ⟨hb1, hb2, hb3, hb4⟩ := hb _ (List.mem_of_getElem? hx)
  simp only at hb1 hb2 hb3 hb4
  have hdrop : bl.drop k = (v, b) :: bl.drop (k + 1) := drop_cons hx
  rw [hdrop] at hpc hbd
  simp only [List.flatMap_cons] at hpc hbd
  generalize hrest : (bl.drop (k + 1)).flatMap (fun x => chunkB x.2) = rest at hpc hbd
  have kI : (k : Int) < (bl.length : Int) := by omega
  have ha1 := keepS ha hai F1
  have hv1 := keepS hb1 hb4 F1
  obtain ⟨pp, q1, q2⟩ := one_at (enc := fun x : AV × List UInt8 => [x.1]) (f := Prod.fst) (fun _ => rfl) (l := bl) (by rw [← List.map_eq_flatMap]; exact ha1) hx
  simp only [abI_lss, bO_some, bB_bool, kI, decide_true, bI_true, q1, q2]
  refine bC_of (Chunk_c hv1 hb2) ?_
  have g2 := Grew.app H1 [some (AObj.cells [v]), some (.cells [I 4096])]
  have S2 := S1.grew g2
  have F2 : CwF os fo b0 p p1 H (H1 ++ [some (AObj.cells [v]), some (.cells [I 4096])]) := F1.trans (.of_grew g2)
  have t0 : (H1 ++ [some (AObj.cells [v]), some (.cells [I 4096])])[H1.length]? = some (some (.cells [v])) := by simp
  have t1 : (H1 ++ [some (AObj.cells [v]), some (.cells [I 4096])])[H1.length + 1]? = some (some (.cells [I 4096])) := by simp
  have hlc : (H1 ++ [some (AObj.cells [v]), some (.cells [I 4096])]).length = H1.length + 2 := by simp
  have hp1 := S1.st.p_lt
  have hb03 : b0 + 3 < H1.length := (List.getElem?_eq_some_iff.1 S1.sum).1
  obtain ⟨z1, z2, z3, z4⟩ := S1.nf
  generalize (H1 ++ [some (AObj.cells [v]), some (.cells [I 4096])]) = Hc at S2 F2 t0 t1 hlc
  refine fw_F (chunk_it (o1 := H1.length) (o2 := H1.length + 1) (s := v) (cs := encB b) (len := b.length) (n := 4096) (by omega) (by omega) (by omega)) (by kernel_rfl)
   (fun i H' => ∃ (s : StS) (at' sum : Int) (p' : AV), CwS os fo b0 ino s at' sum p' H' ∧ CwF os fo b0 p1 p' Hc H' ∧ pcs ino ((chunkB b).drop i ++ rest) s at' sum = RES ∧ Bd NN ((chunkB b).drop i ++ rest) s at' sum)
   (fun H' => ∃ (s : StS) (at' sum : Int) (p' : AV) (e : Int), CwS os fo b0 ino s at' sum p' H' ∧ CwF os fo b0 p1 p' Hc H' ∧ H'[b0 + 1]? = some (some (.cells [I sum])) ∧ H'[b0 + 2]? = some (some (.cells [I e])) ∧ RES = ((s, at', sum), e))
   ⟨s, at', sum, p1, S2, .refl _ _ _ _ _, by simpa using hpc, by simpa using hbd⟩ ?_ ?_ ?_ ?_
  ·rintro i H' ⟨s', at'', sum', p', S', F', -, -⟩
   refine ⟨(F'.same _ (by omega) (by omega) (by omega) (by omega) (fun q => by have := hp1 _ q; omega)).trans t0, (F'.same _ (by omega) (by omega) (by omega) (by omega) (fun q => by have := hp1 _ q; omega)).trans t1, keepS hb1 hb4 (F2.trans F')⟩
  ·rintro i x H' hxi ⟨s', at'', sum', p', S', F', hpc', hbd'⟩
   have hi : i < chN b.length 4096 := by
    have := (List.getElem?_eq_some_iff.1 hxi).1
    rwa [chL_len] at this
   have hil := (chN_lt (len := b.length) (k := i) (show 0 < 4096 by omega)).1 hi
   have ex : x = chX v b.length 4096 i := by
    unfold chL at hxi
    rw [List.getElem?_map, List.getElem?_range hi] at hxi
    injection hxi with hxi
    exact hxi.symm
   subst ex
   have hv' := keepS hb1 hb4 (F2.trans F')
   obtain ⟨c1, c2⟩ := chX_sl hv' hil
   have hcd : (chunkB b).drop i = pieceB b i :: (chunkB b).drop (i + 1) := drop_cons (chunkB_get hi)
   rw [hcd, List.cons_append] at hpc' hbd'
   obtain ⟨⟨M, w1, w2⟩, w3, w4⟩ := hbd'
   rw [lenB_cons] at w2 w3 w4
   have fp : ∀ j ∈ idS v, j ∉ idS p' := fun j hj q => by
    have hjl := zoZ hb1 j hj
    rcases (F2.trans F').ids j q with q | q
    ·exact (hb4 j hj).2.2 q
    ·omega
   have wn := writeS_n s' ino at'' (pieceB b i)
   have ww := writeS_w w1 ino at'' (pieceB b i)
   unfold pcs at hpc'
   refine piece_c S' w1 (by omega) c1 (fun j hj => ⟨(hb4 j (c2 j hj)).1, fp j (c2 j hj)⟩) (by omega) (by omega) ?_ ?_
   ·intro he p2 H2 S2' F2'
    rw [if_pos he] at hpc'
    exact ⟨_, _, _, p2, S2', F'.trans F2', hpc', ⟨⟨_, ww, by omega⟩, by omega, by omega⟩⟩
   ·intro he p2 H2 S2' F2' r1 r2
    rw [if_neg he] at hpc'
    exact ⟨_, _, _, p2, _, S2', F'.trans F2', r1, r2, hpc'.symm⟩
  ·rintro H' ⟨s', at'', sum', p', S', F', hpc', hbd'⟩
   rw [chL_len, ← chunkB_len, List.drop_length, List.nil_append] at hpc' hbd'
   simp only [abI_add (a := k) (b := 1) (by omega) (by omega), bO_some]
   exact hR (m - 1) _ _ _ _ _ _ _ _ (by omega) ⟨k + 1, s', at'', sum', p', by omega, rfl, rfl, rfl, rfl, rfl, rfl, by simp, S', F2.trans F', by rw [hrest]; exact hpc', by rw [hrest]; exact hbd'⟩
  ·rintro H' ⟨s', at'', sum', p', e, S', F', r1, r2, rfl⟩
   simp only [ald_ptr r1, ald_ptr r2, zjZ, List.getElem?_cons_zero, bO_some]
   exact ⟨p', by trivial, S'.st, S'.file, F2.trans F'⟩
 ·have kI : ¬ (k : Int) < (bl.length : Int) := by omega
  have hdrop : bl.drop k = [] := List.drop_of_length_le h
  rw [hdrop] at hpc
  simp only [List.flatMap_nil] at hpc
  unfold pcs at hpc
  subst hpc
  obtain ⟨a, r1⟩ := S1.r1
  obtain ⟨c, r2⟩ := S1.r2
  have hb03 : b0 + 3 < H1.length := (List.getElem?_eq_some_iff.1 S1.sum).1
  obtain ⟨z1, z2, z3, z4⟩ := S1.nf
  have e1 := fld r1 (k := 0) (x := I sum) (by simp) rfl
  have r2' : (H1.set (b0 + 1) (some (AObj.cells [I sum])))[b0 + 2]? = some (some (.cells [c])) := by rw [List.getElem?_set_ne (by omega)]; exact r2
  have e2 := fld r2' (k := 0) (x := I 0) (by simp) rfl
  simp only [List.set_cons_zero] at e1 e2
  simp only [abI_lss, bO_some, bB_bool, kI, decide_false, zbaZ, ald_ptr S1.sum, zjZ, List.getElem?_cons_zero, e1, bS_some, e2]
  generalize hH4 : (H1.set (b0 + 1) (some (AObj.cells [I sum]))).set (b0 + 2) (some (AObj.cells [I 0])) = H4
  have g4 : ∀ j, j ≠ b0 + 1 → j ≠ b0 + 2 → H4[j]? = H1[j]? := fun j hj1 hj2 => by rw [← hH4, List.getElem?_set_ne (Ne.symm hj2), List.getElem?_set_ne (Ne.symm hj1)]
  have t1 : H4[b0 + 1]? = some (some (.cells [I sum])) := by rw [← hH4, List.getElem?_set_ne (by omega)]; exact List.getElem?_set_self (by omega)
  have t2 : H4[b0 + 2]? = some (some (.cells [I 0])) := by rw [← hH4]; exact List.getElem?_set_self (by rw [List.length_set]; omega)
  have l4 : H4.length = H1.length := by rw [← hH4, List.length_set, List.length_set]
  simp only [ald_ptr t1, ald_ptr t2, zjZ, List.getElem?_cons_zero, bO_some]
  refine ⟨p1, by trivial, S1.st.keep fun j hj => ?_, by rw [g4 fo (by omega) (by omega)]; exact S1.file, ⟨by have := F1.len; omega, fun j hj h1 h2 h3 hp => by rw [g4 j (by omega) (by omega)]; exact F1.same j hj h1 h2 h3 hp, F1.ids⟩⟩
  rcases hj with rfl | hj
  ·exact g4 j (by omega) (by omega)
  ·exact g4 j (fun e => S1.nb (b0 + 1) (by omega) (by omega) (by rw [← e]; exact hj)) (fun e => S1.nb (b0 + 2) (by omega) (by omega) (by rw [← e]; exact hj)))
end Go.Proofs.Ytofgloiebnppbaa.Av
end
/-! YtofgloiebnppbaaAvSr -/
section
/- Chapter 13: its closed sentence. -/
namespace Go.Proofs.Ytofgloiebnppbaa.Av
open Go Go.RowKit
set_option maxRecDepth 100000
end Go.Proofs.Ytofgloiebnppbaa.Av
end
/-! YtofgloiebnppbaaAvSd -/
section
/- Chapter 13: one file, and the power that goes. -/
set_option linter.unusedVariables false
set_option linter.unusedSimpArgs false
set_option maxRecDepth 100000
namespace Go.Proofs.Ytofgloiebnppbaa.Av
open Go Go.RowKit

def oneI (size : Int) (l : List Ext) : Img := ([⟨[97], 1⟩], [⟨1, size, l⟩])
theorem oneI_w {size : Int} {l : List Ext} (h : mayC size l) : MayW (oneI size l).1 (oneI size l).2 := by
 refine ⟨by simp [oneI], ?_, by simp [oneI, srtK], by simp [oneI], by simp [oneI, srtK], by simpa [oneI] using h, by simp [oneI, hasK]⟩
 intro x hx
 simp only [oneI, List.mem_singleton] at hx
 subst hx
 exact ⟨by decide, by decide, by decide⟩
theorem oneI_apply {size : Int} {l : List Ext} {o : OpM} {c : Cont} (h : mayC size l) (hk : o.kind = 2 ∨ o.kind = 3) (hi : o.ino = 1) (hc : chgC o ⟨1, size, l⟩ = some c) : applyI (oneI size l).1 (oneI size l).2 o = oneI c.1 c.2 := by
 unfold applyI
 rw [if_pos (mayI_w.2 (oneI_w h)), if_neg (by omega), if_pos (by omega)]
 have e1 : atK Nd.ino (oneI size l).2 o.ino = some ⟨1, size, l⟩ := by rw [hi]; rfl
 have e2 : posK cmpI Nd.ino (oneI size l).2 o.ino = 0 := by rw [hi]; rfl
 unfold chgD
 rw [e1]
 simp only [hc, e2]
 rfl
structure DS (k : Nat) (n d : Int) (s : StS) : Prop where
 now : ∃ size l, s.now = oneI size l ∧ mayC size l ∧ l.length ≤ k
 cap : s.cap = 100
 st : (s.off = false ∧ 0 ≤ s.armed ∧ s.armed = n - d) ∨ (s.off = true ∧ d = n)
theorem DS.mono {k k' : Nat} {n d : Int} {s : StS} (h : DS k n d s) (hk : k ≤ k') : DS k' n d s := by
 obtain ⟨size, l, a, b, c⟩ := h.now
 exact ⟨⟨size, l, a, b, by omega⟩, h.cap, h.st⟩
theorem DS.deed {k : Nat} {n d : Int} {s : StS} (h : DS k n d s) : ((deedS s).1 = true ∧ DS k n (d + 1) (deedS s).2) ∨ ((deedS s).1 = false ∧ (deedS s).2.off = true ∧ d = n ∧ DS k n d (deedS s).2) := by
 unfold deedS
 split
 ·rename_i h1
  have hd : d = n := by
   rcases h1 with h1 | h1
   ·rcases h.st with h2 | h2
    ·rw [h2.1] at h1; cases h1
    ·exact h2.2
   ·rcases h.st with h2 | h2
    ·omega
    ·exact h2.2
  exact .inr ⟨rfl, rfl, hd, h.now, h.cap, .inr ⟨rfl, hd⟩⟩
 ·rename_i h1
  have hoff : s.off = false := by cases ho : s.off with
   | true => exact absurd (.inl ho) h1
   | false => rfl
  rcases h.st with h2 | h2
  ·have : s.armed ≠ 0 := fun q => h1 (.inr q)
   rw [if_pos (by omega)]
   exact .inl ⟨rfl, h.now, h.cap, .inl ⟨hoff, by simp only; omega, by simp only; omega⟩⟩
  ·rw [hoff] at h2; cases h2.1
theorem DS.do {k : Nat} {n d : Int} {s : StS} {o : OpM} (h : DS k n d s) (hk : o.kind = 2 ∨ o.kind = 3) (hi : o.ino = 1) (hc : ∀ size l, s.now = oneI size l → mayC size l → l.length ≤ k → ∃ c, chgC o ⟨1, size, l⟩ = some c ∧ mayC c.1 c.2 ∧ c.2.length ≤ k + 1) :
  ((doS s o).1 = 0 ∧ DS (k + 1) n (d + 1) (doS s o).2) ∨ ((doS s o).1 = 8 ∧ (doS s o).2.off = true ∧ d = n ∧ DS (k + 1) n d (doS s o).2) := by
 obtain ⟨e1, e2, e3, e4, e5⟩ := deedS_same s
 unfold doS
 rcases h.deed with ⟨a, b⟩ | ⟨a, b, c, e⟩
 ·rw [if_pos a]
  obtain ⟨size, l, q1, q2, q3⟩ := h.now
  obtain ⟨c, r1, r2, r3⟩ := hc size l q1 q2 q3
  refine .inl ⟨rfl, ⟨c.1, c.2, ?_, r2, r3⟩, b.cap, b.st⟩
  simp only
  rw [q1]
  exact oneI_apply q2 hk hi r1
 ·rw [if_neg (by rw [a]; simp)]
  exact .inr ⟨rfl, b, c, e.mono (by omega)⟩
theorem DS.content {k : Nat} {n d : Int} {s : StS} (h : DS k n d s) : (s.off = true ∧ (zcaZ s 1).2 = 8) ∨ (s.off = false ∧ ∃ size l, s.now = oneI size l ∧ mayC size l ∧ l.length ≤ k ∧ zcaZ s 1 = ((size, l), 0)) := by
 cases ho : s.off with
 | true => exact .inl ⟨rfl, by unfold zcaZ; rw [if_pos ho]⟩
 | false =>
  obtain ⟨size, l, q1, q2, q3⟩ := h.now
  refine .inr ⟨rfl, size, l, q1, q2, q3, ?_⟩
  have hg : hasG s.now.1 s.now.2 1 := by
   rw [q1]
   exact ⟨mayI_w.2 (oneI_w q2), by simp [oneI, hasK]⟩
  unfold zcaZ
  rw [if_neg (by rw [ho]; simp), if_pos hg]
  have : getN s.now.1 s.now.2 1 = ⟨1, size, l⟩ := by
   unfold getN
   rw [if_pos hg, q1]; rfl
  rw [this]
theorem DS.off {k : Nat} {n d : Int} {s : StS} (h : DS k n d s) (ho : s.off = true) : d = n := by
 rcases h.st with h2 | h2
 ·rw [ho] at h2; cases h2.1
 ·exact h2.2
theorem parts_one (i : Int) (h0 : 0 ≤ i) (h1 : i ≤ 1000) : partsS ⟨i, 1⟩ 8 = [⟨i, 1⟩] := by
 unfold partsS
 rw [if_pos ⟨⟨by unfold May; simp only; omega, by unfold May; simp only; omega, by simp only; omega⟩, by simp only; omega, by omega⟩]
 show cutsS 1 i 1 8 = _
 unfold cutsS
 rw [if_pos (by omega)]
 have : min (1 : Int) (8 - i % 8) = 1 := by omega
 rw [this]
 unfold cutsS
 rfl
theorem DS.write {k : Nat} {n d : Int} {s : StS} (h : DS k n d s) (hk : k < 90) {i : Nat} (hi : i ≤ 100) (y : UInt8) :
  (((writeS s 1 i [y]).1 = (1, 0)) ∧ DS (k + 1) n (d + 1) (writeS s 1 i [y]).2) ∨ ((writeS s 1 i [y]).1.2 = 8 ∧ (writeS s 1 i [y]).2.off = true ∧ d = n ∧ DS (k + 1) n d (writeS s 1 i [y]).2) := by
 unfold writeS
 rcases h.content with ⟨a, b⟩ | ⟨a, size, l, q1, q2, q3, b⟩
 ·rw [if_pos (by rw [b]; simp)]
  exact .inr ⟨b, a, h.off a, h.mono (by omega)⟩
 ·rw [b, if_neg (by simp), if_neg (fun q => q ⟨by omega, by simp, by simp; omega⟩)]
  show (((wrS l 1 i [y] (partsS ⟨i, 1⟩ 8) s).1 = (1, 0)) ∧ DS (k + 1) n (d + 1) (wrS l 1 i [y] (partsS ⟨i, 1⟩ 8) s).2) ∨ ((wrS l 1 i [y] (partsS ⟨i, 1⟩ 8) s).1.2 = 8 ∧ (wrS l 1 i [y] (partsS ⟨i, 1⟩ 8) s).2.off = true ∧ d = n ∧ DS (k + 1) n d (wrS l 1 i [y] (partsS ⟨i, 1⟩ 8) s).2)
  rw [parts_one i (by omega) (by omega)]
  unfold wrS
  have hfree : freeS s ≠ 0 := by
   unfold freeS
   rw [h.cap, q1]
   have : sumL (oneI size l).2 = l.length := by simp [sumL, oneI]
   rw [this]; omega
  have hpb : partB [y] i ⟨(i : Int), 1⟩ = [y] := by
   unfold partB
   simp
  rw [if_neg (fun q => hfree q.2)]
  rw [hpb]
  rcases h.do (o := opWr 1 i [y]) (.inl rfl) rfl (fun size l e1 e2 e3 => by
   refine ⟨(max size (i + ([y] : List UInt8).length), writeL l i [y]), ?_, ?_, ?_⟩
   ·show (if (2 : Int) = 2 then writeC (size, l) i [y] else _) = _
    rw [if_pos rfl]
    unfold writeC
    rw [if_pos ⟨e2, by omega, by simp, by simp; omega⟩, if_neg (by simp)]
   ·refine may_write (c := (size, l)) (pos := i) (bs := [y]) ?_
    unfold writeC
    rw [if_pos ⟨e2, by omega, by simp, by simp; omega⟩, if_neg (by simp)]
   ·have := wr_len12 (bs := [y]) (l := l) (p := i)
    simp only [List.length_cons, List.length_nil] at this
    simp only; omega) with ⟨r1, r2⟩ | ⟨r1, r2, r3, r4⟩
  ·rw [if_neg (by rw [r1]; simp)]
   unfold wrS
   exact .inl ⟨rfl, r2⟩
  ·rw [if_pos (by rw [r1]; omega)]
   exact .inr ⟨r1, r2, r3, r4⟩
theorem DS.ren {k : Nat} {n d : Int} {s : StS} (h : DS k n d s) : (renS s [97] [97]).2 = s ∧ (((renS s [97] [97]).1 = 0) ∨ ((renS s [97] [97]).1 = 8 ∧ s.off = true ∧ d = n)) := by
 have hm : mayN [97] := by decide
 unfold renS
 rw [if_neg (fun q => q.2 hm), if_pos (.inr rfl)]
 refine ⟨rfl, ?_⟩
 simp only
 unfold findS
 cases ho : s.off with
 | true => exact .inr ⟨by simp, rfl, h.off ho⟩
 | false =>
  obtain ⟨size, l, q1, q2, q3⟩ := h.now
  have : hasK Nm.name s.now.1 [97] := by rw [q1]; simp [oneI, hasK]
  exact .inl (by simp [hm, this])
end Go.Proofs.Ytofgloiebnppbaa.Av
end
/-! YtofgloiebnppbaaAvCx -/
section
/- Chapter 14, in plain terms: one file, written at its end, read. -/
set_option linter.unusedVariables false
set_option linter.unusedSimpArgs false
set_option maxRecDepth 100000
namespace Go.Proofs.Ytofgloiebnppbaa.Av
open Go Go.RowKit

theorem pcs_w {ino : Int} : ∀ {l : List (List UInt8)} {N : Nat} {s : StS} {a m : Int}, SW N s → SW (N + 9 * lenB l) (pcs ino l s a m).1.1
 | [], N, s, a, m, h => h
 | b :: r, N, s, a, m, h => by
  have h1 := writeS_w h ino a b
  rw [lenB_cons]
  unfold pcs
  split
  ·exact (pcs_w h1).mono (by omega)
  ·exact h1.mono (by omega)
def oneN (nm : List UInt8) (size : Int) (l : List Ext) : Img := ([⟨nm, 1⟩], [⟨1, size, l⟩])
theorem oneN_w {nm : List UInt8} {size : Int} {l : List Ext} (hn : mayN nm) (h : mayC size l) : MayW (oneN nm size l).1 (oneN nm size l).2 := by
 refine ⟨by simp [oneN], ?_, by simp [oneN, srtK], by simp [oneN], by simp [oneN, srtK], by simpa [oneN] using h, by simp [oneN, hasK]⟩
 intro x hx
 simp only [oneN, List.mem_singleton] at hx
 subst hx
 exact ⟨hn, by simp only; omega, by simp only; omega⟩
theorem oneN_apply {nm : List UInt8} {size : Int} {l : List Ext} {o : OpM} {c : Cont} (hn : mayN nm) (h : mayC size l) (hk : o.kind = 2) (hi : o.ino = 1) (hc : chgC o ⟨1, size, l⟩ = some c) : applyI (oneN nm size l).1 (oneN nm size l).2 o = oneN nm c.1 c.2 := by
 unfold applyI
 rw [if_pos (mayI_w.2 (oneN_w hn h)), if_neg (by omega), if_pos (by omega)]
 have e1 : atK Nd.ino (oneN nm size l).2 o.ino = some ⟨1, size, l⟩ := by rw [hi]; rfl
 have e2 : posK cmpI Nd.ino (oneN nm size l).2 o.ino = 0 := by rw [hi]; rfl
 unfold chgD
 rw [e1]
 simp only [hc, e2]
 rfl
structure ON (nm : List UInt8) (cap : Int) (size : Int) (l : List Ext) (s : StS) : Prop where
 now : s.now = oneN nm size l
 nm : mayN nm
 mc : mayC size l
 cap : s.cap = cap
 off : s.off = false
 armed : s.armed = -1
theorem ON.content {nm : List UInt8} {cap size : Int} {l : List Ext} {s : StS} (h : ON nm cap size l s) : zcaZ s 1 = ((size, l), 0) := by
 have hg : hasG s.now.1 s.now.2 1 := by
  rw [h.now]
  exact ⟨mayI_w.2 (oneN_w h.nm h.mc), by simp [oneN, hasK]⟩
 unfold zcaZ
 rw [if_neg (by rw [h.off]; simp), if_pos hg]
 have : getN s.now.1 s.now.2 1 = ⟨1, size, l⟩ := by
  unfold getN
  rw [if_pos hg, h.now]; rfl
 rw [this]
theorem ON.free {nm : List UInt8} {cap size : Int} {l : List Ext} {s : StS} (h : ON nm cap size l s) (hl : (l.length : Int) < cap) : freeS s ≠ 0 := by
 unfold freeS
 rw [h.cap, h.now]
 have : sumL (oneN nm size l).2 = l.length := by simp [sumL, oneN]
 rw [this]; omega
theorem ON.do {nm : List UInt8} {cap size : Int} {l : List Ext} {s : StS} (h : ON nm cap size l s) {p : Int} {bs : List UInt8} (hb : bs ≠ []) (hp : 0 ≤ p) (hlen : bs.length ≤ 4096) (hf : p ≤ 1099511627776 - bs.length) :
  (doS s (opWr 1 p bs)).1 = 0 ∧ ON nm cap (max size (p + bs.length)) (writeL l p bs) (doS s (opWr 1 p bs)).2 := by
 have hw : writeC (size, l) p bs = some (max size (p + bs.length), writeL l p bs) := by
  unfold writeC
  rw [if_pos ⟨h.mc, hp, hlen, hf⟩, if_neg hb]
 have hd : deedS s = (true, s) := by
  unfold deedS
  rw [if_neg (by rw [h.off, h.armed]; simp), if_neg (by rw [h.armed]; omega)]
 unfold doS
 rw [hd]
 refine ⟨rfl, ?_, h.nm, may_write hw, h.cap, h.off, h.armed⟩
 show applyI s.now.1 s.now.2 (opWr 1 p bs) = _
 rw [h.now]
 refine oneN_apply (o := opWr 1 p bs) (c := (max size (p + bs.length), writeL l p bs)) h.nm h.mc rfl rfl ?_
 show (if (2 : Int) = 2 then writeC (size, l) p bs else _) = _
 rw [if_pos rfl, hw]
theorem wr_one_len {l : List Ext} (hs : srt l) {p : Int} {bs : List UInt8} (h : p % 8 + bs.length ≤ 8) (hb : bs ≠ []) : (writeL l p bs).length ≤ l.length + 1 := by
 rw [← wr_one hs h hb]
 have := (need_len l (p / 8)).1
 simp only [needPut, putL, List.length_map]
 exact this
theorem ON.cuts {nm : List UInt8} {cap : Int} {c : List Ext} {pos : Int} {b : List UInt8} (hpos : 0 ≤ pos) (hbl : b.length ≤ 4096) (hf : pos ≤ 1099511627776 - b.length) : ∀ (f k : Nat) {size : Int} {l : List Ext} {s : StS}, k ≤ b.length → b.length - k ≤ f → ON nm cap size l s → (l.length : Int) + (b.length - k : Nat) ≤ cap →
  ∃ s', wrS c 1 pos b (cutsS f (pos + k) (b.length - k : Nat) 8) s = (((b.length : Int), 0), s') ∧ ∃ size' l', ON nm cap size' l' s' ∧ l' = writeL l (pos + k) (b.drop k) ∧ size' = (if b.length - k = 0 then size else max size (pos + b.length)) ∧ l'.length ≤ l.length + (b.length - k)
 | 0, k, size, l, s, hk, hfk, h, hc => by
  have e : b.drop k = [] := List.drop_of_length_le (by omega)
  refine ⟨s, by simp [cutsS, wrS], size, l, h, by rw [e]; rfl, by rw [if_pos (by omega)], by omega⟩
 | f + 1, k, size, l, s, hk, hfk, h, hc => by
  by_cases h0 : b.length - k = 0
  ·have e : b.drop k = [] := List.drop_of_length_le (by omega)
   refine ⟨s, ?_, size, l, h, by rw [e]; rfl, by rw [if_pos h0], by omega⟩
   unfold cutsS
   rw [if_neg (by omega)]
   unfold wrS
   rfl
  ·have m1 := Int.emod_lt_of_pos (pos + k) (show (0 : Int) < 8 by omega)
   have m2 := Int.emod_nonneg (pos + k) (show (8 : Int) ≠ 0 by omega)
   obtain ⟨n, hn⟩ : ∃ n : Nat, min ((b.length - k : Nat) : Int) (8 - (pos + k) % 8) = n := ⟨(min ((b.length - k : Nat) : Int) (8 - (pos + k) % 8)).toNat, by omega⟩
   have n1 : 0 < n ∧ n ≤ 8 ∧ n ≤ b.length - k := by omega
   unfold cutsS
   rw [if_pos (by omega), hn]
   have hpb : partB b pos ⟨pos + k, n⟩ = (b.drop k).take n := by
    unfold partB
    simp only
    rw [show (pos + k - pos).toNat = k by omega, show ((n : Int)).toNat = n by omega]
   have hbs : ((b.drop k).take n).length = n := by rw [List.length_take, List.length_drop]; omega
   have hne : (b.drop k).take n ≠ [] := by intro q; rw [q] at hbs; simp at hbs; omega
   obtain ⟨d1, d2⟩ := h.do hne (p := pos + k) (by omega) (by omega) (by omega)
   unfold wrS
   rw [if_neg (fun q => h.free (by omega) q.2), hpb]
   simp only
   rw [if_neg (by rw [d1]; simp)]
   rw [hbs] at d2
   have hl1 := wr_one_len (may_at.1 h.mc).2.2.1 (p := pos + k) (bs := (b.drop k).take n) (by omega) hne
   obtain ⟨s', w1, size', l', w2, w3, w4, w5⟩ := ON.cuts (c := c) hpos hbl hf f (k + n) (by omega) (by omega) d2 (by omega)
   refine ⟨s', ?_, size', l', w2, ?_, ?_, by omega⟩
   ·rw [show pos + (k : Int) + n = pos + (k + n : Nat) by omega, show ((b.length - k : Nat) : Int) - n = (b.length - (k + n) : Nat) by omega]
    exact w1
   ·rw [w3]
    conv => rhs; rw [← List.take_append_drop n (b.drop k)]
    rw [wr_app, hbs, List.drop_drop]
    congr 1
    omega
   ·rw [w4, if_neg h0]
    split <;> omega
theorem ON.write {nm : List UInt8} {cap size pos : Int} {l : List Ext} {s : StS} {b : List UInt8} (h : ON nm cap size l s) (hpos : 0 ≤ pos) (hbl : b.length ≤ 4096) (hf : pos ≤ 1099511627776 - b.length) (hc : (l.length : Int) + b.length ≤ cap) :
  ∃ s', writeS s 1 pos b = (((b.length : Int), 0), s') ∧ ∃ size' l', ON nm cap size' l' s' ∧ l' = writeL l pos b ∧ size' = (if b.length = 0 then size else max size (pos + b.length)) ∧ l'.length ≤ l.length + b.length := by
 unfold writeS
 rw [h.content, if_neg (by simp), if_neg (fun q => q ⟨hpos, hbl, hf⟩)]
 have e : partsS ⟨pos, b.length⟩ 8 = cutsS (b.length) pos b.length 8 := by
  unfold partsS
  rw [if_pos ⟨⟨by unfold May; simp only; omega, by unfold May; simp only; omega, by simp only; omega⟩, by simp only; omega, by omega⟩]
  show cutsS ((b.length : Int)).toNat pos b.length 8 = _
  rw [show ((b.length : Int)).toNat = b.length by omega]
 rw [e]
 have := ON.cuts (c := l) hpos hbl hf b.length 0 (by omega) (by omega) h (by omega)
 simpa using this
structure Txt (nm : List UInt8) (cap : Int) (t : List UInt8) (s : StS) : Prop where
 h : ∃ l, ON nm cap t.length l s ∧ (∀ q : Nat, q < t.length → atL l q = t.getD q 0) ∧ l.length ≤ t.length
theorem Txt.write {nm : List UInt8} {cap : Int} {t b : List UInt8} {s : StS} (h : Txt nm cap t s) (hbl : b.length ≤ 4096) (hf : t.length + b.length ≤ 1000000000) (hc : ((t.length + b.length : Nat) : Int) ≤ cap) :
  ∃ s', writeS s 1 t.length b = (((b.length : Int), 0), s') ∧ Txt nm cap (t ++ b) s' := by
 obtain ⟨l, h1, h2, h3⟩ := h.h
 obtain ⟨s', w1, size', l', w2, w3, w4, w5⟩ := h1.write (pos := t.length) (b := b) (by omega) hbl (by omega) (by omega)
 refine ⟨s', w1, ⟨l', ?_, fun q hq => ?_, by rw [List.length_append]; omega⟩⟩
 ·have : size' = ((t ++ b).length : Nat) := by
   rw [w4, List.length_append]; split <;> omega
  rw [← this]; exact w2
 ·rw [List.length_append] at hq
  rw [w3, wr_at (may_at.1 h1.mc).2.2.1]
  by_cases c : q < t.length
  ·rw [if_neg (by omega), h2 q c, List.getD_eq_getElem?_getD, List.getD_eq_getElem?_getD, List.getElem?_append_left c]
  ·rw [if_pos (by omega), List.getD_eq_getElem?_getD, List.getD_eq_getElem?_getD, List.getElem?_append_right (by omega), show ((q : Int) - t.length).toNat = q - t.length by omega]
theorem Txt.read {nm : List UInt8} {cap : Int} {t : List UInt8} {s : StS} (h : Txt nm cap t s) {pos n : Nat} (hp : pos ≤ t.length) (hn : n ≤ 4096) (hl : t.length ≤ 1000000000) : readS s 1 pos n = ((t.drop pos).take n, 0) := by
 obtain ⟨l, h1, h2, h3⟩ := h.h
 unfold readS
 rw [h1.content, if_neg (by simp), if_neg (by omega)]
 simp only
 congr 1
 unfold readC
 by_cases hi : inC t.length l pos n
 ·rw [if_pos hi]
  refine List.ext_getElem? fun i => ?_
  rw [zgzZ]
  by_cases c : i < n ∧ pos + i < t.length
  ·rw [if_pos (by omega), List.getElem?_take, if_pos c.1, List.getElem?_drop, show (pos : Int) + i = (pos + i : Nat) by omega, h2 _ c.2, List.getD_eq_getElem?_getD, List.getElem?_eq_getElem c.2]; rfl
  ·rw [if_neg (by omega), List.getElem?_take]
   split
   ·rw [List.getElem?_drop, List.getElem?_eq_none (by omega)]
   ·rfl
 ·rw [if_neg hi]
  have hge : t.length ≤ pos := by
   rcases Nat.lt_or_ge pos t.length with c | c
   ·exact absurd ⟨h1.mc, by omega, by omega, by omega, by omega⟩ hi
   ·exact c
  rw [List.drop_of_length_le hge]; simp
theorem Txt.pcs {nm : List UInt8} {cap : Int} : ∀ {l : List (List UInt8)} {t : List UInt8} {s : StS} {m : Int}, Txt nm cap t s → (∀ b ∈ l, b.length ≤ 4096) → t.length + lenB l ≤ 1000000000 → ((t.length + lenB l : Nat) : Int) ≤ cap →
  ∃ s', Av.pcs 1 l s t.length m = ((s', (((t ++ l.flatten).length : Nat) : Int), m + lenB l), (0 : Int)) ∧ Txt nm cap (t ++ l.flatten) s'
 | [], t, s, m, h, _, _, _ => ⟨s, by simp [Av.pcs, lenB], by simpa using h⟩
 | b :: r, t, s, m, h, hb, hl, hc => by
  rw [lenB_cons] at hl hc
  obtain ⟨s1, w1, w2⟩ := h.write (hb b (by simp)) (by omega) (by omega)
  obtain ⟨s2, p1, p2⟩ := Txt.pcs (l := r) (m := m + b.length) w2 (fun x hx => hb x (by simp [hx])) (by rw [List.length_append]; omega) (by rw [List.length_append]; omega)
  refine ⟨s2, ?_, by simpa using p2⟩
  unfold Av.pcs
  rw [w1]
  simp only [if_true]
  rw [show (t.length : Int) + b.length = ((t ++ b).length : Nat) by rw [List.length_append]; omega, p1, lenB_cons]
  simp only [List.append_assoc, List.flatten_cons, Prod.mk.injEq, and_true, true_and]
  omega
theorem chunkB_small {b : List UInt8} (h : b.length ≤ 4096) : chunkB b = if b = [] then [] else [b] := by
 unfold chunkB chN
 by_cases hb : b = []
 ·subst hb; rfl
 ·have : 0 < b.length := List.length_pos_iff.2 hb
  rw [if_neg hb, show (b.length + 4096 - 1) / 4096 = 1 by omega]
  simp
  rw [List.take_of_length_le (by omega)]
theorem chunks_small : ∀ {bl : List (AV × List UInt8)}, (∀ x ∈ bl, x.2.length ≤ 4096) → (bl.flatMap fun x => chunkB x.2).flatten = (bl.map Prod.snd).flatten ∧ (∀ b ∈ bl.flatMap fun x => chunkB x.2, b.length ≤ 4096) ∧ lenB (bl.flatMap fun x => chunkB x.2) = ((bl.map Prod.snd).flatten).length
 | [], _ => by simp [lenB]
 | x :: r, h => by
  obtain ⟨i1, i2, i3⟩ := chunks_small (bl := r) fun y hy => h y (by simp [hy])
  have hx := h x (by simp)
  have ec := chunkB_small hx
  simp only [List.flatMap_cons, List.map_cons, List.flatten_cons, List.flatten_append, List.length_append]
  refine ⟨?_, ?_, ?_⟩
  ·rw [i1, ec]; split
   ·rename_i e; rw [e]; rfl
   ·simp
  ·intro b hb
   rw [List.mem_append] at hb
   rcases hb with hb | hb
   ·rw [ec] at hb
    split at hb
    ·simp at hb
    ·simp at hb; rw [hb]; exact hx
   ·exact i2 b hb
  ·have : lenB (chunkB x.2) = x.2.length := by
    rw [ec]; split
    ·rename_i e; rw [e]; rfl
    ·simp [lenB]
   rw [← i3, ← this]
   simp [lenB]
theorem Txt.first {nm : List UInt8} {cap : Int} {s : StS} (hn : s.now = oneN nm 0 []) (hm : mayN nm) (hc : s.cap = cap) (ho : s.off = false) (ha : s.armed = -1) : Txt nm cap [] s := ⟨[], ⟨hn, hm, by decide, hc, ho, ha⟩, by simp, by simp⟩
end Go.Proofs.Ytofgloiebnppbaa.Av
end
/-! YtofgloiebnppbaaAvCw -/
section
/- Chapter 14: the calls. -/
set_option linter.unusedVariables false
set_option linter.unusedSimpArgs false
set_option maxRecDepth 100000
namespace Go.Proofs.Ytofgloiebnppbaa.Av
open Go Go.RowKit

def FAt (fo os : Nat) (ino at' : Int) (H : AH) : Prop := H[fo]? = some (some (.cells [I at', .ptr os 0, I ino]))
theorem COpen_c {N : Nat} {s : StS} {os : Nat} {p : AV} {H : AH} (h : StAt s os p H) (hw : SW N s) (hN : N < 900000) {name : List UInt8} (hn : name.length ≤ 9223372036854775807) (make : Bool) (h0 : (openS s name make).1.2 = 0) :
  ∃ r H', (∃ p' fo, r = .tup [.ptr fo 0, I 0] ∧ H.length ≤ fo ∧ FAt fo os (openS s name make).1.1 0 H' ∧ fo ∉ idS p' ∧ StAt (openS s name make).2 os p' H' ∧ StF os p p' H H') ∧ BCall Try.prog 20 [.ptr os 0, S (bstr name), B make] H r H' := cursor_Open_ok (by
 unfold cursor_Open
 obtain ⟨r, H1, ⟨rfl, p', h1, f1⟩, hc⟩ := Open_c h hw hN hn make
 refine bC_of hc ?_
 have e1 : abl [(.lit (.int .i64 0)), (.lit (.pointer none)), (.lit (.int .i64 0))] [(1, 1, .ptr os 0), (2, 1, I (openS s name make).1.1)] = some (.agg [I 0, .ptr os 0, I (openS s name make).1.1]) := rfl
 have e2 : anew H1 (.agg [I 0, .ptr os 0, I (openS s name make).1.1]) = some (.ptr H1.length 0, H1 ++ [some (.cells [I 0, .ptr os 0, I (openS s name make).1.1])]) := by simp
 simp only [zmZ, List.getElem?_cons_succ, List.getElem?_cons_zero, bO_some, h0, abI_neq, ne_eq, not_true_eq_false, decide_false, bB_bool, zbaZ, e1, e2, bH_some]
 have g := Grew.app H1 [some (.cells [I 0, .ptr os 0, I (openS s name make).1.1])]
 exact ⟨p', H1.length, by trivial, f1.len, top1, fun q => by have := h1.p_lt _ q; omega, h1.grew g, f1.grew g⟩)
theorem Tell_c {fo os : Nat} {ino at' : Int} {H : AH} (h : FAt fo os ino at' H) : BCall Try.prog 22 [.ptr fo 0] H (I at') H := by
 unfold FAt at h
 obtain ⟨r, H', ⟨rfl, rfl⟩, hc⟩ := zmeZ (a0 := .ptr fo 0) (H := H) (K := fun r H' => r = I at' ∧ H' = H) (by
  unfold zguZ
  simp only [zeZ, bO_some, zqZ, Nat.zero_add, ald_ptr h, zjZ, List.getElem?_cons_zero]
  exact ⟨by trivial, by trivial⟩)
 exact hc
theorem Ino_c {fo os : Nat} {ino at' : Int} {H : AH} (h : FAt fo os ino at' H) : BCall Try.prog 25 [.ptr fo 0] H (I ino) H := by
 unfold FAt at h
 obtain ⟨r, H', ⟨rfl, rfl⟩, hc⟩ := cursor_File_Ino_ok (a0 := .ptr fo 0) (H := H) (K := fun r H' => r = I ino ∧ H' = H) (by
  unfold zjuZ
  simp only [zeZ, bO_some, zqZ, Nat.zero_add, ald_ptr h, zjZ, List.getElem?_cons_succ, List.getElem?_cons_zero]
  exact ⟨by trivial, by trivial⟩)
 exact hc
structure But (fo : Nat) (H H' : AH) : Prop where
 len : H.length ≤ H'.length
 same : ∀ j, j < H.length → j ≠ fo → H'[j]? = H[j]?
theorem Seek_c {fo os : Nat} {ino at' : Int} {H : AH} (h : FAt fo os ino at' H) {n : Int} (hn : 0 ≤ n ∧ n ≤ 1000000000) : ∃ r H', (r = B true ∧ FAt fo os ino n H' ∧ But fo H H') ∧ BCall Try.prog 23 [.ptr fo 0, I n] H r H' := zmcZ (by
 unfold FAt at h
 unfold zgsZ
 refine bP_pure (off_May_p n) ?_
 have hm : May n := by unfold May; omega
 have hl := (List.getElem?_eq_some_iff.1 h).1
 have e1 : ast 1 H (.ptr fo 0) (I n) = some (H.set fo (some (.cells [I n, .ptr os 0, I ino]))) := fld h (by simp) rfl
 simp only [hm, decide_true, aun_not, Bool.not_true, bO_some, bB_bool, zbaZ, zeZ, zqZ, Nat.zero_add, e1, bS_some]
 exact ⟨by trivial, List.getElem?_set_self hl, by simp, fun j _ hne => List.getElem?_set_ne (Ne.symm hne)⟩)
theorem CRead_c {N : Nat} {s : StS} {fo os : Nat} {p : AV} {ino at' : Int} {H : AH} (h : FAt fo os ino at' H) (hs : StAt s os p H) (hw : SW N s) (hN : N < 900000) (hne : fo ≠ os) (n : Int) (ha : 0 ≤ at' ∧ at' ≤ 1000000000) (hlen : (readS s ino at' n).1.length ≤ 1000000) :
  ∃ R, SV encU 1 (readS s ino at' n).1 R ∧ ∃ r H', (r = .tup [R, I (readS s ino at' n).2] ∧ FAt fo os ino (at' + (readS s ino at' n).1.length) H' ∧ But fo H H') ∧ BCall Try.prog 24 [.ptr fo 0, I n] H r H' := by
 obtain ⟨R, hR, r, H1, ⟨rfl, g1⟩, hc⟩ := Read_c hs hw hN ino at' n
 refine ⟨R, hR, cursor_File_Read_ok ?_⟩
 unfold FAt at h ⊢
 unfold zilZ
 simp only [zeZ, bO_some, zqZ, Nat.zero_add, ald_ptr h, zjZ, List.getElem?_cons_succ, List.getElem?_cons_zero]
 refine bC_of hc ?_
 have h1 := g1.cells h
 have hl := (List.getElem?_eq_some_iff.1 h1).1
 have e0 : abI .add (I at') (I (readS s ino at' n).1.length) = some (I (at' + (readS s ino at' n).1.length)) := abI_add (by omega) (by omega)
 have e1 : ast 1 H1 (.ptr fo 0) (I (at' + (readS s ino at' n).1.length)) = some (H1.set fo (some (.cells [I (at' + (readS s ino at' n).1.length), .ptr os 0, I ino]))) := fld h1 (by simp) rfl
 simp only [zmZ, List.getElem?_cons_succ, List.getElem?_cons_zero, bO_some, zeZ, zqZ, Nat.zero_add, ald_ptr h1, zjZ, hR.len, e0, e1, bS_some]
 exact ⟨by trivial, List.getElem?_set_self hl, by rw [List.length_set]; exact g1.1, fun j hj hne => by rw [List.getElem?_set_ne (Ne.symm hne)]; exact g1.2 j hj⟩
theorem But.st {fo os : Nat} {s : StS} {p : AV} {H H' : AH} (b : But fo H H') (h : StAt s os p H) (hne : fo ≠ os) (hp : fo ∉ idS p) : StAt s os p H' := h.keep fun j hj => by
 rcases hj with rfl | hj
 ·exact b.same j h.os_lt (Ne.symm hne)
 ·exact b.same j (h.p_lt j hj) (fun e => hp (by rw [← e]; exact hj))
theorem But.at {fo go os : Nat} {ino at' : Int} {H H' : AH} (b : But fo H H') (h : FAt go os ino at' H) (hne : go ≠ fo) : FAt go os ino at' H' := (b.same go (List.getElem?_eq_some_iff.1 h).1 hne).trans h
end Go.Proofs.Ytofgloiebnppbaa.Av
end
/-! YtofgloiebnppbaaAvCr -/
section
/- Chapter 14: its closed sentence. -/
set_option linter.unusedVariables false
set_option linter.unusedSimpArgs false
set_option maxRecDepth 100000
set_option maxHeartbeats 2000000
namespace Go.Proofs.Ytofgloiebnppbaa.Av
open Go Go.RowKit

theorem TWrite_a {nm : List UInt8} {cap : Int} {t : List UInt8} {N : Nat} {s : StS} {os fo : Nat} {p a1 : AV} {H : AH} {bl : List (AV × List UInt8)} (h : Txt nm cap t s) (hst : StAt s os p H) (hf : FAt fo os 1 t.length H) (hne : fo ≠ os ∧ fo ∉ idS p) (hw : SW N s)
  (ha : zaZ H 1 a1 = some (bl.map Prod.fst, bl.length)) (hai : ∀ j ∈ idS a1, j ≠ os ∧ j ≠ fo ∧ j ∉ idS p) (hb : ∀ x ∈ bl, zaZ H 1 x.1 = some (encB x.2, x.2.length) ∧ oneA x.1 = true ∧ x.2.length ≤ 4096 ∧ ∀ j ∈ idS x.1, j ≠ os ∧ j ≠ fo ∧ j ∉ idS p) (hbn : bl.length ≤ 1000000)
  (hN : N + 9 * ((bl.map Prod.snd).flatten).length < 900000) (hc : ((t.length + ((bl.map Prod.snd).flatten).length : Nat) : Int) ≤ cap) (ht : t.length + ((bl.map Prod.snd).flatten).length ≤ 1000000) :
  ACalls Try.prog 21 [.ptr fo 0, a1] H fun r H' => ∃ s' p', r = .tup [I ((bl.map Prod.snd).flatten).length, I 0] ∧ Txt nm cap (t ++ (bl.map Prod.snd).flatten) s' ∧ SW (N + 9 * ((bl.map Prod.snd).flatten).length) s' ∧ StAt s' os p' H' ∧ FAt fo os 1 (t ++ (bl.map Prod.snd).flatten).length H' ∧ fo ∉ idS p' ∧ CwF os fo H.length p p' H H' := by
 obtain ⟨c1, c2, c3⟩ := chunks_small (bl := bl) fun x hx => (hb x hx).2.2.1
 have hA := FWrite_a (ino := 1) (bl := bl) hst hf hne hw ha hai (fun x hx => ⟨(hb x hx).1, (hb x hx).2.1, by have := (hb x hx).2.2.1; omega, (hb x hx).2.2.2⟩) hbn (by rw [c3]; exact hN) (by rw [c3]; omega)
 obtain ⟨s', p1, p2⟩ := Txt.pcs (m := 0) h c2 (by rw [c3]; omega) (by rw [c3]; exact hc)
 have pw := pcs_w (ino := 1) (l := bl.flatMap fun x => chunkB x.2) (a := t.length) (m := 0) hw
 rw [p1] at hA pw
 rw [c1] at hA p2
 rw [c3] at hA pw
 refine hA.mono ?_
 rintro r H' ⟨p', rfl, h1, h2, h3⟩
 have hfl := (List.getElem?_eq_some_iff.1 hf).1
 exact ⟨s', p', by simp, p2, pw, h1, h2, fun q => (h3.ids fo q).elim hne.2 (fun q => by omega), h3⟩
theorem open9 : ∃ s, openS (newS 9) [97] true = ((1, 0), s) ∧ s.off = false ∧ s.now = oneN [97] 0 [] ∧ s.cap = 9 ∧ s.armed = -1 := ⟨_, rfl, rfl, by decide, rfl, rfl⟩
theorem cursorRuns_a : ACalls Try.prog 5 [] [] fun r _ => r = B true := zjvZ (by
 unfold zduZ
 obtain ⟨r, H1, ⟨p, rfl, h1, h2, g, hid⟩, hc⟩ := New_c 9 [] (by omega)
 refine bC_of hc ?_
 have e1 : abN .eql nilP (.ptr ([] : AH).length 0) (.lit (.pointer none)) = some (B false) := rfl
 simp only [e1, bO_some, bB_bool, zbaZ]
 obtain ⟨s1, o1, o2, o3, o4, o5⟩ := open9
 have hw1 := openS_w (newS_w 9) [97] true
 obtain ⟨r, H5, ⟨p1, fo, rfl, hfo, hF, hfp, hst, hSt⟩, hc⟩ := COpen_c h2 (newS_w 9) (by omega) (name := [97]) (by simp) true (by rw [o1])
 rw [o1] at hw1 hst hF
 refine bC_of hc ?_
 have e2 : abN .eql nilP (.ptr fo 0) (.lit (.pointer none)) = some (B false) := rfl
 simp only [zmZ, List.getElem?_cons_succ, List.getElem?_cons_zero, bO_some, e2, bG_bool, beq_self_eq_true, gO_true, abI_neq, ne_eq, not_true_eq_false, decide_false, zbhZ, if_false, Bool.false_eq_true, bB_bool, zbaZ]
 have hT : Txt [97] 9 [] s1 := Txt.first o3 (by decide) o4 o2 o5
 have a1 : absl H5 1 2 (zrow [(.lit (.int .u8 0))] 2) [(0, 1, (.lit (.int .u8 1))), (1, 1, (.lit (.int .u8 2)))] = some (.sl H5.length 0 2 1 (.ex 2), H5 ++ [some (.cells [.lit (.int .u8 1), .lit (.int .u8 2)])]) := rfl
 have a2 : absl (H5 ++ [some (.cells [.lit (.int .u8 1), .lit (.int .u8 2)])]) 1 1 (zrow [(.lit (.int .u8 0))] 1) [(0, 1, (.lit (.int .u8 3)))] = some (.sl (H5.length + 1) 0 1 1 (.ex 1), H5 ++ [some (.cells [.lit (.int .u8 1), .lit (.int .u8 2)]), some (.cells [.lit (.int .u8 3)])]) := by
  have : absl (H5 ++ [some (AObj.cells [.lit (.int .u8 1), .lit (.int .u8 2)])]) 1 1 (zrow [(.lit (.int .u8 0))] 1) [(0, 1, (.lit (.int .u8 3)))] = some (.sl (H5 ++ [some (AObj.cells [.lit (.int .u8 1), .lit (.int .u8 2)])]).length 0 1 1 (.ex 1), (H5 ++ [some (AObj.cells [.lit (.int .u8 1), .lit (.int .u8 2)])]) ++ [some (.cells [.lit (.int .u8 3)])]) := rfl
  rw [this]; simp
 have a3 : absl (H5 ++ [some (AObj.cells [.lit (.int .u8 1), .lit (.int .u8 2)]), some (.cells [.lit (.int .u8 3)])]) 1 2 (zrow [(.lit (.slice none 0 0))] 2) [(0, 1, .sl H5.length 0 2 1 (.ex 2)), (1, 1, .sl (H5.length + 1) 0 1 1 (.ex 1))] = some (.sl (H5.length + 2) 0 2 1 (.ex 2), H5 ++ [some (.cells [.lit (.int .u8 1), .lit (.int .u8 2)]), some (.cells [.lit (.int .u8 3)]), some (.cells [.sl H5.length 0 2 1 (.ex 2), .sl (H5.length + 1) 0 1 1 (.ex 1)])]) := by
  have : absl (H5 ++ [some (AObj.cells [.lit (.int .u8 1), .lit (.int .u8 2)]), some (.cells [.lit (.int .u8 3)])]) 1 2 (zrow [(.lit (.slice none 0 0))] 2) [(0, 1, .sl H5.length 0 2 1 (.ex 2)), (1, 1, .sl (H5.length + 1) 0 1 1 (.ex 1))] = some (.sl (H5 ++ [some (AObj.cells [.lit (.int .u8 1), .lit (.int .u8 2)]), some (.cells [.lit (.int .u8 3)])]).length 0 2 1 (.ex 2), (H5 ++ [some (AObj.cells [.lit (.int .u8 1), .lit (.int .u8 2)]), some (.cells [.lit (.int .u8 3)])]) ++ [some (.cells [.sl H5.length 0 2 1 (.ex 2), .sl (H5.length + 1) 0 1 1 (.ex 1)])]) := rfl
  rw [this]; simp
 simp only [a1, bH_some, a2, a3]
 have g6 := Grew.app H5 [some (AObj.cells [.lit (.int .u8 1), .lit (.int .u8 2)]), some (.cells [.lit (.int .u8 3)]), some (.cells [.sl H5.length 0 2 1 (.ex 2), .sl (H5.length + 1) 0 1 1 (.ex 1)])]
 have l0 := hst.os_lt
 have lp := hst.p_lt
 have lf := (List.getElem?_eq_some_iff.1 hF).1
 have k1 : zaZ (H5 ++ [some (AObj.cells [.lit (.int .u8 1), .lit (.int .u8 2)]), some (.cells [.lit (.int .u8 3)]), some (.cells [.sl H5.length 0 2 1 (.ex 2), .sl (H5.length + 1) 0 1 1 (.ex 1)])]) 1 (.sl (H5.length + 2) 0 2 1 (.ex 2)) = some ([.sl H5.length 0 2 1 (.ex 2), .sl (H5.length + 1) 0 1 1 (.ex 1)], 2) := by simp [zaZ]
 have k2 : zaZ (H5 ++ [some (AObj.cells [.lit (.int .u8 1), .lit (.int .u8 2)]), some (.cells [.lit (.int .u8 3)]), some (.cells [.sl H5.length 0 2 1 (.ex 2), .sl (H5.length + 1) 0 1 1 (.ex 1)])]) 1 (.sl H5.length 0 2 1 (.ex 2)) = some (encB [1, 2], 2) := by simp [zaZ, encB]
 have k3 : zaZ (H5 ++ [some (AObj.cells [.lit (.int .u8 1), .lit (.int .u8 2)]), some (.cells [.lit (.int .u8 3)]), some (.cells [.sl H5.length 0 2 1 (.ex 2), .sl (H5.length + 1) 0 1 1 (.ex 1)])]) 1 (.sl (H5.length + 1) 0 1 1 (.ex 1)) = some (encB [3], 1) := by simp [zaZ, encB]
 have hlen6 : (H5 ++ [some (AObj.cells [.lit (.int .u8 1), .lit (.int .u8 2)]), some (.cells [.lit (.int .u8 3)]), some (.cells [.sl H5.length 0 2 1 (.ex 2), .sl (H5.length + 1) 0 1 1 (.ex 1)])]).length = H5.length + 3 := by simp
 have hst6 := hst.grew g6
 have hF6 : FAt fo 0 1 0 _ := g6.cells hF
 generalize (H5 ++ [some (AObj.cells [.lit (.int .u8 1), .lit (.int .u8 2)]), some (.cells [.lit (.int .u8 3)]), some (.cells [.sl H5.length 0 2 1 (.ex 2), .sl (H5.length + 1) 0 1 1 (.ex 1)])]) = H6 at *
 have fresh : ∀ j, H5.length ≤ j → j ≠ 0 ∧ j ≠ fo ∧ j ∉ idS p1 := fun j hj => ⟨by omega, by omega, fun q => by have := lp j q; omega⟩
 have hne : fo ≠ 0 := by have : H1.length = 1 := h1; omega
 refine ⟨_, TWrite_a (bl := [(.sl H5.length 0 2 1 (.ex 2), [1, 2]), (.sl (H5.length + 1) 0 1 1 (.ex 1), [3])]) hT hst6 hF6 ⟨hne, hfp⟩ hw1 k1 (by intro j hj; simp [idS] at hj; exact fresh j (by omega)) (by
  intro x hx
  simp only [List.mem_cons, List.not_mem_nil, or_false] at hx
  rcases hx with rfl | rfl
  ·exact ⟨k2, rfl, by simp, by intro j hj; simp [idS] at hj; exact fresh j (by omega)⟩
  ·exact ⟨k3, rfl, by simp, by intro j hj; simp [idS] at hj; exact fresh j (by omega)⟩) (by simp) (by simp) (by simp) (by simp), ?_⟩
 rintro r H7 ⟨s2, p2, rfl, t2, w2, st2, F2, fp2, cw⟩
 simp only [List.map_cons, List.map_nil, List.flatten_cons, List.flatten_nil, List.append_nil, List.nil_append, List.cons_append, List.length_cons, List.length_nil] at t2 w2 F2
 simp only [zmZ, List.getElem?_cons_succ, List.getElem?_cons_zero, bO_some, zeZ, zqZ, Nat.zero_add]
 refine bC_of (Tell_c F2) ?_
 simp only [zeZ, bO_some, zqZ, Nat.zero_add]
 obtain ⟨r, H8, ⟨rfl, F3, b3⟩, hc⟩ := Seek_c F2 (n := 1) (by omega)
 refine bC_of hc ?_
 have st3 := b3.st st2 hne fp2
 have hrd := t2.read (pos := 1) (n := 9) (by simp) (by omega) (by simp)
 obtain ⟨R, hR, r, H9, ⟨rfl, F4, b4⟩, hc⟩ := CRead_c (N := 1 + 9 * 3) F3 st3 (w2.mono (by simp)) (by omega) hne 9 (by omega) (by have : readS s2 1 1 9 = _ := hrd; rw [this]; simp)
 have hrd' : readS s2 1 1 9 = ([2, 3], 0) := hrd
 rw [hrd'] at hR F4 hc
 refine bC_of hc ?_
 have eB : acB H9 R = some (S (bstr [2, 3])) := by
  have := acB_spec (H := H9) (x := R) (l := [2, 3]) (n := 2) (by have := hR.2 H9; rw [flat_encU] at this; exact this)
  exact this
 have eS : (AV.lit (.string ⟨#[2, 3]⟩)) = S (bstr [2, 3]) := rfl
 have q1 : (I ((([(AV.sl H5.length 0 2 1 (.ex 2), ([1, 2] : List UInt8)), (.sl (H5.length + 1) 0 1 1 (.ex 1), [3])].map Prod.snd).flatten).length) : AV) = I 3 := rfl
 simp only [zmZ, List.getElem?_cons_succ, List.getElem?_cons_zero, bO_some, q1, abI_eql, decide_true, bG_bool, beq_self_eq_true, gO_true, zbhZ, if_true, eB, eS, abT_eql, zeZ, zqZ, Nat.zero_add, Nat.reduceAdd, Int.cast_ofNat_Int, gC_true]
 have F5 : FAt fo 0 1 3 H9 := F4
 refine bC_of (Tell_c F5) ?_
 simp only [abI_eql, decide_true, bO_some, bG_bool, beq_self_eq_true, gO_true, gC_true]
 refine bC_of (Ino_c F5) ?_
 simp only [abI_eql, decide_true, bO_some, bG_bool, beq_self_eq_true, gO_true, zbhZ, if_true])
theorem zhcZ : BPure Try.prog 5 [] (B true) := .of_true cursorRuns_a
end Go.Proofs.Ytofgloiebnppbaa.Av
end
