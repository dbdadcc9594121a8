/- Texts of this proof, one behind the other, packed into one file by a program of this session. No condition. -/
import Derived.Test.YtpnfdibgfichmaaMgG
/-! YtpnfdibgfichmaaAvKk -/
section
/- Images, made of small numbers. -/
set_option linter.unusedVariables false
set_option linter.unusedSimpArgs false
set_option maxRecDepth 100000
namespace Go.Proofs.Ytpnfdibgfichmaa.Av
open Go Go.RowKit

structure IxV where
 name : UInt8
 size : Nat
 l : List Bk
 v : AV
 h : SV encBk 2 l v
def encX (x : IxV) : List AV := [.lit (.int .u8 x.name.toNat), .lit (.int .u16 x.size), x.v]
theorem encX_len (x : IxV) : (encX x).length = 3 := rfl
theorem noIdss_encX (x : IxV) : noIdss (encX x) = true := by simp [encX, noIdss, noIds, x.h.1]
noncomputable def nodeK (ino : Int) (x : IxV) : NdV := ⟨⟨ino, ((x.size % 500 : Nat) : Int), contK (x.size % 500) (x.l.take 30) 0⟩, Classical.choose (Content_p x.h x.size), (Classical.choose_spec (Content_p x.h x.size)).1⟩
theorem nodeK_p (ino : Int) (x : IxV) : BPure Try.prog 48 [x.v, .lit (.int .u16 x.size)] (.agg [I ((x.size % 500 : Nat) : Int), (nodeK ino x).R]) := (Classical.choose_spec (Content_p x.h x.size)).2
def pickK (l : List IxV) (k : Nat) : Option IxV := (l.take 12).find? fun x => decide (x.name.toNat % 6 = k)
def nmK (l : List IxV) : Nat → List Nm
 | 0 => []
 | k + 1 => match pickK l k with
  | some _ => nmK l k ++ [⟨rightT.getD k [], 10 - (k : Int)⟩]
  | none => nmK l k
noncomputable def ndK (l : List IxV) : Nat → List NdV
 | 0 => []
 | k + 1 => match pickK l k with
  | some x => nodeK (10 - (k : Int)) x :: ndK l k
  | none => ndK l k
theorem imO_K (x0 x2 x3 x4 x6 : AV) (vals : Nat → AV) (R10 R4 : List AV → AH → Prop) (H : AH) (K : AV → AH → Prop) : (kSeq (cutC (mk 64 0 [0, 2, 3, 4]) (zdZ [true, true, false, true, false, false, true, false, false, true, true, false, false, true, false, false, true, false, true, true] 17)) (kBlk 3 (kSeq (zdZ [true, true, false, true, false, false, true, false, false, true, true, false, false, true, true] 17) (kLp (mk 64 0 [0, 2, 3, 4, 5, 6]) R10 (kBlk 2 (kBlk 1 (kSeq (cutC (mk 64 0 [0, 2, 3, 4]) (zdZ [true, true, false, true, false, false, true, true] 17)) (kLp (mk 64 0 [0, 2, 3, 4]) R4 (kBlk 0 (kSeq (zdZ [true, true, true] 17) (kRet Try.prog Try.f20.results.toList K))))))))))) .normal (pt imOOps vals (fun _ => true) (imOT x0 x2 x3 x4 x6) 21) H = zhoZ R10 R4 x0 x2 x3 x4 H K := by kernel_rfl
theorem imO_acode (x0 x2 x3 x4 x6 : AV) (R10 R4 : List AV → AH → Prop) (H : AH) (K : AV → AH → Prop) (h : ACode Try.prog (.region 11 imOOps.toArray true) (kSeq (cutC (mk 64 0 [0, 2, 3, 4]) (zdZ [true, true, false, true, false, false, true, false, false, true, true, false, false, true, false, false, true, false, true, true] 17)) (kBlk 3 (kSeq (zdZ [true, true, false, true, false, false, true, false, false, true, true, false, false, true, true] 17) (kLp (mk 64 0 [0, 2, 3, 4, 5, 6]) R10 (kBlk 2 (kBlk 1 (kSeq (cutC (mk 64 0 [0, 2, 3, 4]) (zdZ [true, true, false, true, false, false, true, true] 17)) (kLp (mk 64 0 [0, 2, 3, 4]) R4 (kBlk 0 (kSeq (zdZ [true, true, true] 17) (kRet Try.prog Try.f20.results.toList K))))))))))) (imOT x0 x2 x3 x4 x6) H) : zhpZ R10 R4 x0 x2 x3 x4 x6 H K := unR.mk h
theorem img_U11 {l : List IxV} {v a b : AV} {H : AH} {i k m : Nat} {x : IxV} {cs : List AV} (hv : SV encX 3 l v) (hx : l[i]? = some x) (hk : k < 6) (h1 : H[1]? = some (some (.cells [a, b]))) (ha : oneA a = true) (hb : OwN 2 3 cs m b H) (hm : m ≤ 100) :
  ∃ r H3, H3[0]? = H[0]? ∧ H3[1]? = some (some (.cells [a, r])) ∧ (∀ j, 2 ≤ j → j < H.length → H3[j]? = H[j]?) ∧ OwN H.length 3 (encD (nodeK (10 - (k : Int)) x) ++ cs) (m + 1) r H3 ∧ ∀ R10 R4 x2 K, zhoZ R10 R4 v x2 (.ptr 1 0) (.lit (.int .u8 k)) H3 K → zhpZ R10 R4 v x2 (.ptr 1 0) (.lit (.int .u8 k)) (I i) H K := by
 have hpl := (List.getElem?_eq_some_iff.1 h1).1
 generalize hd : nodeK (10 - (k : Int)) x = d
 have hino : d.nd.ino = 10 - (k : Int) := by rw [← hd]; rfl
 have hsz : d.nd.size = ((x.size % 500 : Nat) : Int) := by rw [← hd]; rfl
 have hpu : BPure Try.prog 48 [x.v, .lit (.int .u16 x.size)] (.agg [I d.nd.size, d.R]) := by rw [hsz, ← hd]; exact nodeK_p _ _
 have g := Grew.app H [some (.cells (encD d))]
 have s1 : zaZ (H ++ [some (.cells (encD d))]) 3 (.sl H.length 0 1 3 (.ex 1)) = some (encD d, 1) := by
  rw [zxZ (c := encD d) (by simp) (by simp [encD])]; rfl
 have ow1 : OwN H.length 3 (encD d) 1 (.sl H.length 0 1 3 (.ex 1)) (H ++ [some (.cells (encD d))]) := ⟨s1, rfl, by simp [idS], by simp [capOk, Room.least]⟩
 obtain ⟨r, H2, a1, a2, a3⟩ := app1 (bytes := 40) ow1 (zfZ (g.slice hb.s)) (by simp) (by omega)
 have d1 : H2[1]? = some (some (.cells [a, b])) := by rw [a3.2 1 hpl]; exact g.cells h1
 have r1 := zrZ a2.o
 have hl2 : H.length + 1 ≤ H2.length := by have := a3.1; simpa using this
 have e20 : ast 1 H2 (.ptr 1 1) r = some (H2.set 1 (some (.cells [a, r]))) := by
  rw [ast_ptr (n := 1) (xs := [r]) (cs := [a, b]) (zbhZ r1) d1 rfl (by simp)]; rfl
 have keep : ∀ j, j ≠ 1 → j < H.length → (H2.set 1 (some (.cells [a, r])))[j]? = H[j]? := fun j h2 hj => by
  rw [List.getElem?_set_ne (Ne.symm h2), a3.2 j hj, g.2 j hj]
 refine ⟨r, H2.set 1 (some (.cells [a, r])), keep 0 (by omega) (by omega), List.getElem?_set_self (by omega), fun j h2 hj => keep j (by omega) hj, ?_, fun R10 R4 x2 K hK => imO_acode _ _ _ _ _ _ _ _ _ ?_⟩
 ·exact ⟨by
   rw [Nat.add_comm m 1]
   exact zbZ a2.s fun j q => List.getElem?_set_ne (by have := a2.i j q; omega), a2.o, a2.i, by rw [Nat.add_comm m 1]; exact a2.c⟩
 have ix := hv.idx (i := (i : Int)) encX_len hx rfl
 let V : Nat → AV := fun n => ([.lit (.int .u8 k), I k, I d.nd.ino, v, I i, .ip (encX x ++ (l.drop (i + 1)).flatMap encX), .ip ((encX x ++ (l.drop (i + 1)).flatMap encX).drop 2), x.v, v, I i, .ip (encX x ++ (l.drop (i + 1)).flatMap encX), .ip ((encX x ++ (l.drop (i + 1)).flatMap encX).drop 1), .lit (.int .u16 x.size), .agg [I d.nd.size, d.R], .agg (encD d), .sl H.length 0 1 3 (.ex 1), .ptr 1 1, b, r, .ptr 1 1, undefA] : List AV).getD n undefA
 refine ACode.told2 mixP imOOrd (fun i => imONeed.getD i []) (fun j => (imOF v x2 (.ptr 1 0) (.lit (.int .u8 k)) (I i)).getD j (fun _ _ _ => False)) V (hp3 15 18 20 H (H ++ [some (.cells (encD d))]) H2 (H2.set 1 (some (.cells [a, r])))) (imOIs _ _ _ _ _) rfl ?_ ?_
 ·intro j hj S vals hS cl hn
  rw [imOLen] at hj
  have up : ∀ p q, q ∈ imONeed.getD p [] → S q = false → S p = false := fun p q hq h => by
   cases hp : S p with
   | false => rfl
   | true => have := cl p hp q hq; rw [h] at this; cases this
  have n18 : S 15 = false → S 18 = false := up 18 15 (by simp [imONeed])
  have n18' : S 17 = false → S 18 = false := up 18 17 (by simp [imONeed])
  have n20 : S 18 = false → S 20 = false := up 20 18 (by simp [imONeed])
  have same : ∀ q, q ≠ 15 → q ≠ 18 → q ≠ 20 → hp3 15 18 20 H (H ++ [some (.cells (encD d))]) H2 (H2.set 1 (some (.cells [a, r]))) S = hp3 15 18 20 H (H ++ [some (.cells (encD d))]) H2 (H2.set 1 (some (.cells [a, r]))) (upd S q) := fun q q1 q2 q3 => (hp3_u q1 q2 q3).symm
  have hcase : j = 0 ∨ j = 1 ∨ j = 2 ∨ j = 3 ∨ j = 4 ∨ j = 5 ∨ j = 6 ∨ j = 7 ∨ j = 8 ∨ j = 9 ∨ j = 10 ∨ j = 11 ∨ j = 12 ∨ j = 13 ∨ j = 14 ∨ j = 15 ∨ j = 16 ∨ j = 17 ∨ j = 18 ∨ j = 19 ∨ j = 20 := by omega
  rcases hcase with rfl | rfl | rfl | rfl | rfl | rfl | rfl | rfl | rfl | rfl | rfl | rfl | rfl | rfl | rfl | rfl | rfl | rfl | rfl | rfl | rfl
  all_goals simp only [imOF, List.getD_cons_succ, List.getD_cons_zero, gO_true, gH_true, gS_true, bO_some]
  ·exact ⟨rfl, same 0 (by omega) (by omega) (by omega)⟩
  ·have e : acI .i64 (V 0) = some (V 1) := acI_i64 (by omega) (by omega)
   rw [(hn 0 (by simp [imONeed])).2, e]
   exact ⟨rfl, same 1 (by omega) (by omega) (by omega)⟩
  ·have e : abI .sub (I 10) (V 1) = some (V 2) := by
    show abI .sub (I 10) (I k) = some (I d.nd.ino)
    rw [abI_sub (by omega) (by omega), hino]
   rw [(hn 1 (by simp [imONeed])).2, e]
   exact ⟨rfl, same 2 (by omega) (by omega) (by omega)⟩
  ·exact ⟨rfl, same 3 (by omega) (by omega) (by omega)⟩
  ·exact ⟨rfl, same 4 (by omega) (by omega) (by omega)⟩
  ·have e : aixS 3 (V 3) (V 4) = some (V 5) := ix
   rw [(hn 3 (by simp [imONeed])).2, (hn 4 (by simp [imONeed])).2, e]
   exact ⟨rfl, same 5 (by omega) (by omega) (by omega)⟩
  ·rw [(hn 5 (by simp [imONeed])).2]
   exact ⟨rfl, same 6 (by omega) (by omega) (by omega)⟩
  ·rw [(hn 6 (by simp [imONeed])).2]
   exact ⟨rfl, same 7 (by omega) (by omega) (by omega)⟩
  ·exact ⟨rfl, same 8 (by omega) (by omega) (by omega)⟩
  ·exact ⟨rfl, same 9 (by omega) (by omega) (by omega)⟩
  ·have e : aixS 3 (V 8) (V 9) = some (V 10) := ix
   rw [(hn 8 (by simp [imONeed])).2, (hn 9 (by simp [imONeed])).2, e]
   exact ⟨rfl, same 10 (by omega) (by omega) (by omega)⟩
  ·rw [(hn 10 (by simp [imONeed])).2]
   exact ⟨rfl, same 11 (by omega) (by omega) (by omega)⟩
  ·rw [(hn 11 (by simp [imONeed])).2]
   exact ⟨rfl, same 12 (by omega) (by omega) (by omega)⟩
  ·rw [(hn 7 (by simp [imONeed])).2, (hn 12 (by simp [imONeed])).2]
   have hpu' : ∀ H, ACalls Try.prog 48 [V 7, V 12] H fun r' H'' => r' = V 13 ∧ H'' = H := hpu
   refine ACalls.mono (hpu' (hp3 15 18 20 H (H ++ [some (.cells (encD d))]) H2 (H2.set 1 (some (.cells [a, r]))) S)) ?_
   rintro r' H' ⟨rfl, rfl⟩
   exact ⟨rfl, same 13 (by omega) (by omega) (by omega)⟩
  ·have e : abl zD [(0, 1, V 2), (1, 2, V 13)] = some (V 14) := by
    show abl zD [(0, 1, I d.nd.ino), (1, 2, .agg [I d.nd.size, d.R])] = some (.agg (encD d))
    have := SV.oneA d.h
    simp [zD, encD, abl, cellsA_agg, this, splice]
   rw [(hn 2 (by simp [imONeed])).2, (hn 13 (by simp [imONeed])).2, e]
   exact ⟨rfl, same 14 (by omega) (by omega) (by omega)⟩
  ·rw [(hn 14 (by simp [imONeed])).2]
   have q18 := n18 hS
   have q20 := n20 q18
   have e0 : hp3 15 18 20 H (H ++ [some (.cells (encD d))]) H2 (H2.set 1 (some (.cells [a, r]))) S = H := by unfold hp3; rw [q20, q18, hS]; rfl
   have e1 : hp3 15 18 20 H (H ++ [some (.cells (encD d))]) H2 (H2.set 1 (some (.cells [a, r]))) (upd S 15) = H ++ [some (.cells (encD d))] := by
    simp [hp3, upd, q20, q18]
   have e2 : absl H 3 1 (zrow zD 1) [(0, 3, V 14)] = some (.sl H.length 0 1 3 (.ex 1), H ++ [some (.cells (encD d))]) := by
    show absl H 3 1 (zrow zD 1) [(0, 3, .agg (encD d))] = _
    have := SV.oneA d.h
    simp [zD, encD, absl, zrow, cellsA_agg, this, splice]
   rw [e0, e1, e2, bH_some]
   exact ⟨rfl, rfl⟩
  ·exact ⟨rfl, same 16 (by omega) (by omega) (by omega)⟩
  ·rw [(hn 16 (by simp [imONeed])).2]
   have e : ald false 1 (hp3 15 18 20 H (H ++ [some (.cells (encD d))]) H2 (H2.set 1 (some (.cells [a, r]))) S) (V 16) = some b := by
    have q18 := n18' hS
    have q20 := n20 q18
    have : (hp3 15 18 20 H (H ++ [some (.cells (encD d))]) H2 (H2.set 1 (some (.cells [a, r]))) S)[1]? = some (some (.cells [a, b])) := by
     unfold hp3
     rw [q20, q18]
     cases S 15 with
     | true => exact g.cells h1
     | false => exact h1
    show ald false 1 _ (.ptr 1 1) = _
    rw [ald_ptr this]; rfl
   rw [e]
   exact ⟨rfl, same 17 (by omega) (by omega) (by omega)⟩
  ·have s15 := (hn 15 (by simp [imONeed])).1
   rw [(hn 15 (by simp [imONeed])).2, (hn 17 (by simp [imONeed])).2]
   have q20 := n20 hS
   have e0 : hp3 15 18 20 H (H ++ [some (.cells (encD d))]) H2 (H2.set 1 (some (.cells [a, r]))) S = H ++ [some (.cells (encD d))] := by unfold hp3; rw [q20, hS, s15]; rfl
   have e1 : hp3 15 18 20 H (H ++ [some (.cells (encD d))]) H2 (H2.set 1 (some (.cells [a, r]))) (upd S 18) = H2 := by
    simp [hp3, upd, q20]
   have e2 : aap 3 40 (H ++ [some (.cells (encD d))]) (V 15) (V 17) = some (r, H2) := a1
   rw [e0, e1, e2, bH_some]
   exact ⟨rfl, rfl⟩
  ·exact ⟨rfl, same 19 (by omega) (by omega) (by omega)⟩
  ·have s18 := (hn 18 (by simp [imONeed])).1
   rw [(hn 19 (by simp [imONeed])).2, (hn 18 (by simp [imONeed])).2]
   have e0 : hp3 15 18 20 H (H ++ [some (.cells (encD d))]) H2 (H2.set 1 (some (.cells [a, r]))) S = H2 := by unfold hp3; rw [hS, s18]; rfl
   have e1 : hp3 15 18 20 H (H ++ [some (.cells (encD d))]) H2 (H2.set 1 (some (.cells [a, r]))) (upd S 20) = H2.set 1 (some (.cells [a, r])) := by
    simp [hp3, upd]
   have e2 : ast 1 H2 (V 19) (V 18) = some (H2.set 1 (some (.cells [a, r]))) := e20
   rw [e0, e1, e2, bS_some]
   exact ⟨rfl, rfl⟩
 ·intro S vals hall
  have e : hp3 15 18 20 H (H ++ [some (.cells (encD d))]) H2 (H2.set 1 (some (.cells [a, r]))) S = H2.set 1 (some (.cells [a, r])) := by
   unfold hp3; rw [(hall 20 (by rw [imOLen]; omega)).1]; rfl
  rw [e, imOLen, imO_K]
  exact hK
end Go.Proofs.Ytpnfdibgfichmaa.Av
end
/-! YtpnfdibgfichmaaAvKl -/
section
/- Images, made of small numbers: the whole. -/
set_option linter.unusedVariables false
set_option linter.unusedSimpArgs false
set_option maxRecDepth 100000
namespace Go.Proofs.Ytpnfdibgfichmaa.Av
open Go Go.RowKit

def slR (cs : List AV) (n sz : Nat) : AV := if n = 0 then nilSl else .imm cs n sz
theorem FZ.slR {X : AH} {sz n : Nat} {cs : List AV} {v : AV} (h : zaZ X sz v = some (cs, n)) (ho : ownedS v = true) (hn : n = 0 → v = nilSl) (hc : noIdss cs = true) : FZ X v (slR cs n sz) := by
 unfold Av.slR
 by_cases c : n = 0
 ·rw [if_pos c, hn c]; exact .lit _
 ·rw [if_neg c]
  obtain ⟨o, off, cap, cells, rfl, h1, h2, rfl⟩ := owned_sl h ho (by omega)
  obtain ⟨n0, hf⟩ := zlzZ X _ hc
  refine ⟨n0 + 1, fun m hm => ?_⟩
  obtain ⟨m, rfl⟩ : ∃ m', m = m' + 1 := ⟨m - 1, by omega⟩
  simp only [frz, h1, hf m (by omega), Option.map_some]
theorem slR_sv {α : Type} {enc : α → List AV} {sz : Nat} {l : List α} (hsz : ∀ x, (enc x).length = sz) (hc : ∀ x ∈ l, noIdss (enc x) = true) : SV enc sz l (slR (l.flatMap enc) l.length sz) := by
 unfold slR
 by_cases c : l.length = 0
 ·rw [if_pos c, List.length_eq_zero_iff.1 c]; exact SV.nil
 ·rw [if_neg c]; exact SV.imm hsz hc
theorem pick_some {l : List IxV} {i k : Nat} {x : IxV} (hx : l[i]? = some x) (hi : i < 12) (he : x.name.toNat % 6 = k) (hb : ∀ (j : Nat) y, j < i → l[j]? = some y → y.name.toNat % 6 ≠ k) : pickK l k = some x := by
 unfold pickK
 rw [List.find?_eq_some_iff_getElem]
 refine ⟨by simpa using he, i, ?_, ?_, ?_⟩
 ·have := (List.getElem?_eq_some_iff.1 hx).1
  rw [List.length_take]; omega
 ·rw [List.getElem_take]; exact (List.getElem?_eq_some_iff.1 hx).2
 ·intro j hj
  have hjl : j < l.length := by have := (List.getElem?_eq_some_iff.1 hx).1; omega
  have := hb j l[j] hj (List.getElem?_eq_getElem hjl)
  rw [List.getElem_take]
  simpa using this
theorem pick_none {l : List IxV} {i k : Nat} (hn : ¬ (i < l.length ∧ i < 12)) (hb : ∀ (j : Nat) y, j < i → l[j]? = some y → y.name.toNat % 6 ≠ k) : pickK l k = none := by
 unfold pickK
 rw [List.find?_eq_none]
 intro x hx
 obtain ⟨j, hj⟩ := List.mem_iff_getElem?.1 hx
 rw [List.getElem?_take] at hj
 split at hj
 ·rename_i h12
  have := (List.getElem?_eq_some_iff.1 hj).1
  have := hb j x (by omega) hj
  simpa using this
 ·cases hj
theorem nmK_len {l : List IxV} : ∀ k, (nmK l k).length ≤ k ∧ (ndK l k).length = (nmK l k).length
 | 0 => ⟨by simp [nmK], rfl⟩
 | k + 1 => by
  obtain ⟨h1, h2⟩ := nmK_len (l := l) k
  unfold nmK ndK
  split
  ·simp [h2]; omega
  ·exact ⟨by omega, h2⟩
theorem rightT_inj : ∀ a, a < 6 → ∀ b, b < 6 → (rightT.getD a [] = rightT.getD b [] ↔ a = b) := by decide
noncomputable def imgR (l : List IxV) : AV := .agg [slR ((nmK l 6).flatMap encN) (nmK l 6).length 2, slR ((ndK l 6).flatMap encD) (ndK l 6).length 3]
def imgJ (l : List IxV) (k : Nat) (H : AH) : Prop := ∃ a b, H[0]? = some (some (.cells [nilSl, nilSl])) ∧ H[1]? = some (some (.cells [a, b])) ∧ OwN 2 2 ((nmK l k).flatMap encN) (nmK l k).length a H ∧ OwN 2 3 ((ndK l k).flatMap encD) (ndK l k).length b H ∧ (∀ j ∈ idS a, j ∉ idS b) ∧ ((nmK l k).length = 0 → a = nilSl) ∧ ((ndK l k).length = 0 → b = nilSl)
theorem ImageOf_p {l : List IxV} {v : AV} (hv : SV encX 3 l v) : BPure Try.prog 20 [v] (imgR l) := by
 have key : ACalls Try.prog 20 [v] [] fun r X => FZ X r (imgR l) := zviZ (by
  unfold zncZ
  have e1 : anew [] (.agg [(.lit (.slice none 0 0)), (.lit (.slice none 0 0))]) = some (.ptr 0 0, [some (.cells [nilSl, nilSl])]) := rfl
  have e2 : anew [some (.cells [nilSl, nilSl])] (.agg [(.lit (.slice none 0 0)), (.lit (.slice none 0 0))]) = some (.ptr 1 0, [some (.cells [nilSl, nilSl]), some (.cells [nilSl, nilSl])]) := rfl
  rw [e1, bH_some, e2, bH_some]
  refine zrcZ (fun m x0 x2 x3 x4 H' => ∃ k : Nat, k + m = 6 ∧ x0 = v ∧ x2 = .ptr 0 0 ∧ x3 = .ptr 1 0 ∧ x4 = .lit (.int .u8 k) ∧ imgJ l k H') ?_ 6 ⟨0, by omega, rfl, rfl, rfl, rfl, nilSl, nilSl, rfl, rfl, ⟨rfl, rfl, by simp [idS], by simp [nmK, capOk]⟩, ⟨rfl, rfl, by simp [idS], by simp [ndK, capOk]⟩, by simp [idS], fun _ => rfl, fun _ => rfl⟩
  rintro m x0 x2 x3 x4 H R hR ⟨k, hk, rfl, rfl, rfl, rfl, a, b, c0, c1, oa, ob, hab, na, nb⟩
  unfold zgyZ
  have hl1 : 1 < H.length := (List.getElem?_eq_some_iff.1 c1).1
  obtain ⟨nl1, nl2⟩ := nmK_len (l := l) k
  have ra := zrZ oa.o
  have rb := zrZ ob.o
  rcases Nat.lt_or_ge k 6 with h6 | h6
  ·have h6I : (k : Int) < 6 := by omega
   have e3 : absl H 1 6 (zrow [(.lit (.string ⟨#[]⟩))] 6) [(0, 1, (.lit (.string ⟨#[97]⟩))), (1, 1, (.lit (.string ⟨#[98]⟩))), (2, 1, (.lit (.string ⟨#[99]⟩))), (3, 1, (.lit (.string ⟨#[100, 115, 116]⟩))), (4, 1, (.lit (.string ⟨#[109, 97, 112]⟩))), (5, 1, (.lit (.string ⟨#[120, 45, 49]⟩)))] = some (.sl H.length 0 6 1 (.ex 6), H ++ [some (.cells (rightT.map fun s => S (bstr s)))]) := rfl
   have e4 : aixS 1 (.sl H.length 0 6 1 (.ex 6)) (.lit (.int .u8 (k : Int))) = some (.ptr H.length k) := by
    simp [aixS, aint]; omega
   have g := Grew.app H [some (.cells (rightT.map fun s => S (bstr s)))]
   have e5 : ald false 1 (H ++ [some (.cells (rightT.map fun s => S (bstr s)))]) (.ptr H.length k) = some (S (bstr (rightT.getD k []))) := by
    rw [ald_ptr (cs := rightT.map fun s => S (bstr s)) (by simp), zbcZ, List.getElem?_map, List.getD_eq_getElem?_getD, List.getElem?_eq_getElem (show k < rightT.length by simp [rightT]; omega)]
    rfl
   simp only [abI_lss, bO_some, bB_bool, h6I, decide_true, bI_true, e3, bH_some, e4, e5]
   have oa1 := oa.grew g
   have ob1 := ob.grew g
   have d0 := g.cells c0
   have d1 := g.cells c1
   have hlg : (H ++ [some (AObj.cells (rightT.map fun s => S (bstr s)))]).length = H.length + 1 := by simp
   generalize hH1 : H ++ [some (AObj.cells (rightT.map fun s => S (bstr s)))] = H1 at *
   -- behind the inner loop
   have next : ∀ H2, imgJ l (k + 1) H2 → zdwZ R x0 (.ptr 0 0) (.ptr 1 0) (.lit (.int .u8 k)) H2 (fun r X => FZ X r (imgR l)) := by
    intro H2 h2
    rw [ztiZ]; unfold zmqZ
    have : abI .add (.lit (.int .u8 (k : Int))) (.lit (.int .u8 1)) = some (.lit (.int .u8 ((k + 1 : Nat) : Int))) := by
     have : abI .add (.lit (.int .u8 (k : Int))) (.lit (.int .u8 ((1 : Nat) : Int))) = some (.lit (.int .u8 ((k + 1 : Nat) : Int))) := by
      simp [abI, aint2, IntKind.wrap, IntKind.bits, IntKind.signed]; omega
     exact this
    rw [this, bO_some]
    exact hR (m - 1) _ _ _ _ _ (by omega) ⟨k + 1, by omega, rfl, rfl, rfl, rfl, h2⟩
   refine zqqZ R (fun m2 y0 y2 y3 y4 y5 y6 H' => ∃ i : Nat, i + m2 = 12 ∧ y0 = x0 ∧ y2 = .ptr 0 0 ∧ y3 = .ptr 1 0 ∧ y4 = .lit (.int .u8 k) ∧ y5 = S (bstr (rightT.getD k [])) ∧ y6 = I i ∧ H' = H1 ∧ ∀ (j : Nat) y, j < i → l[j]? = some y → y.name.toNat % 6 ≠ k) ?_ 12 ⟨0, by omega, rfl, rfl, rfl, rfl, rfl, rfl, rfl, by omega⟩
   rintro m2 y0 y2 y3 y4 y5 y6 H' R2 hR2 ⟨i, hi, rfl, rfl, rfl, rfl, rfl, rfl, rfl, hbef⟩
   unfold zgiZ
   have stop : ¬ (i < l.length ∧ i < 12) → zdwZ R y0 (.ptr 0 0) (.ptr 1 0) (.lit (.int .u8 k)) H' (fun r X => FZ X r (imgR l)) := by
    intro hn
    refine next H' ?_
    have hp := pick_none hn hbef
    have e1 : nmK l (k + 1) = nmK l k := by rw [nmK]; simp [hp]
    have e2 : ndK l (k + 1) = ndK l k := by rw [ndK]; simp [hp]
    unfold imgJ
    rw [e1, e2]
    exact ⟨a, b, d0, d1, oa1, ob1, hab, na, nb⟩
   by_cases h : i < l.length ∧ i < 12
   ·obtain ⟨h, h12⟩ := h
    have hx := List.getElem?_eq_getElem h
    generalize l[i] = x at hx
    have hlI : ((i : Int) < (l.length : Int)) := by omega
    have h12I : ((i : Int) < 12) := by omega
    have f1 : (encX x ++ (l.drop (i + 1)).flatMap encX)[0]? = some (.lit (.int .u8 x.name.toNat)) := rfl
    simp only [hv.len, bO_some, abI_lss, bG_bool, decide_true, hlI, h12I, beq_self_eq_true, gO_true, zcpZ, if_true, bB_bool, bI_true, hv.idx encX_len hx rfl, ashift_ip, ald_ip, zbcZ, List.drop_zero, f1]
    refine bP_pure (Right_p x.name) ?_
    have hm6 : x.name.toNat % 6 < 6 := Nat.mod_lt _ (by omega)
    have f2 : abT .eql (S (bstr (rightK x.name))) (S (bstr (rightT.getD k []))) = some (B (decide (x.name.toNat % 6 = k))) := by
     rw [abT_eql]
     congr 2
     unfold rightK
     exact decide_eq_decide.2 (rightT_inj _ hm6 _ h6)
    rw [f2]
    simp only [bO_some, bB_bool]
    by_cases hc : x.name.toNat % 6 = k
    ·simp only [hc, decide_true, bI_true]
     have hp := pick_some hx h12 hc hbef
     have q1 : nmK l (k + 1) = nmK l k ++ [⟨rightT.getD k [], 10 - (k : Int)⟩] := by rw [nmK]; simp [hp]
     have q2 : ndK l (k + 1) = nodeK (10 - (k : Int)) x :: ndK l k := by rw [ndK]; simp [hp]
     have f3 : acI .i64 (.lit (.int .u8 (k : Int))) = some (I k) := acI_i64 (by omega) (by omega)
     have f4 : abI .sub (.lit (.int .i64 10)) (I k) = some (I (10 - (k : Int))) := abI_sub (by omega) (by omega)
     have f5 : abl [(.lit (.string ⟨#[]⟩)), (.lit (.int .i64 0))] [(0, 1, S (bstr (rightT.getD k []))), (1, 1, I (10 - (k : Int)))] = some (.agg (encN ⟨rightT.getD k [], 10 - (k : Int)⟩)) := rfl
     generalize hnm : (⟨rightT.getD k [], 10 - (k : Int)⟩ : Nm) = nm at q1 f5
     have f6 : absl H' 2 1 (zrow [(.lit (.string ⟨#[]⟩)), (.lit (.int .i64 0))] 1) [(0, 2, .agg (encN nm))] = some (.sl H'.length 0 1 2 (.ex 1), H' ++ [some (.cells (encN nm))]) := by rfl
     have g1 := Grew.app H' [some (.cells (encN nm))]
     have x1 : zcwZ (H' ++ [some (.cells (encN nm))]) 2 (.sl H'.length 0 1 2 (.ex 1)) = some (encN nm, 1) := zfZ (by rw [zxZ (c := encN nm) (by simp) (by simp [encN])]; rfl)
     have oa2 := oa1.grew g1
     obtain ⟨r, H2, a1, a2, a3, a4, a5, a6⟩ := zpuZ (bytes := 24) oa2.s oa2.o x1 (by omega)
     have a7 := aap_cap oa2.s oa2.o x1 oa2.c a1
     have hlg1 : (H' ++ [some (AObj.cells (encN nm))]).length = H'.length + 1 := by simp
     rw [hlg1] at a4 a5 a6
     have k0 : ∀ j, j < H'.length → j ∉ idS a → H2[j]? = H'[j]? := fun j hj hja => by rw [a5 j (by omega) hja, g1.2 j hj]
     have n0 : ∀ j, j < 2 → j ∉ idS a := fun j hj q => by have := oa.i j q; omega
     have c01 : H2[1]? = some (some (.cells [a, b])) := by rw [k0 1 (by omega) (n0 1 (by omega))]; exact d1
     have r1 := zrZ a2
     have f7 : ast 1 H2 (.ptr 1 0) r = some (H2.set 1 (some (.cells [r, b]))) := by
      rw [ast_ptr (n := 1) (xs := [r]) (cs := [a, b]) (zbhZ r1) c01 rfl (by simp)]; rfl
     have hlb : ∀ j ∈ idS b, j < H'.length := fun j q => zmZ ob1.s j q
     have c11 : (H2.set 1 (some (.cells [r, b])))[1]? = some (some (.cells [r, b])) := List.getElem?_set_self (by omega)
     have ob2 : OwN 2 3 ((ndK l k).flatMap encD) (ndK l k).length b (H2.set 1 (some (.cells [r, b]))) := ⟨zbZ ob1.s fun j q => by
       have := ob.i j q
       rw [List.getElem?_set_ne (by omega), k0 j (hlb j q) (fun qa => hab j qa q)], ob.o, ob.i, ob.c⟩
     have hr2 : ∀ j ∈ idS r, 2 ≤ j ∧ j ∉ idS b := fun j q => (a6 j q).elim (fun qa => ⟨oa.i j qa, hab j qa⟩) (fun h => ⟨by omega, fun qb => by have := hlb j qb; omega⟩)
     simp only [f3, bO_some, f4, f5, f6, bH_some, zdnZ, Nat.zero_add, ald_ptr (g1.cells d1), ald_ptr d1, zbcZ, List.getElem?_cons_zero, a1, f7, bS_some]
     have hlr : ∀ j ∈ idS r, j < H2.length := fun j q => zmZ a3 j q
     obtain ⟨r3, H3, b0, b1, b2, b3, b4⟩ := img_U11 hv hx h6 c11 r1 ob2 (by omega)
     rw [List.length_set] at b2 b3
     refine b4 _ _ _ _ ?_
     rw [zsiZ]; unfold zljZ
     refine next H3 ?_
     unfold imgJ
     rw [q1, q2]
     refine ⟨r, r3, ?_, b1, ⟨?_, a2, fun j q => (hr2 j q).1, by simpa using a7⟩, ⟨by simpa using b3.s, b3.o, fun j q => by have := b3.i j q; omega, by simpa using b3.c⟩, fun j q q2 => ?_, by simp, by simp⟩
     ·rw [b0, List.getElem?_set_ne (by omega), k0 0 (by omega) (n0 0 (by omega))]; exact d0
     ·have := zbZ a3 (H' := H3) fun j q => by
       have h2 := (hr2 j q).1
       rw [b2 j h2 (hlr j q), List.getElem?_set_ne (by omega)]
      simpa using this
     ·have := b3.i j q2
      have := hlr j q
      omega
    ·simp only [hc, decide_false, zdlZ, abI_add (a := i) (b := 1) (by omega) (by omega), bO_some]
     refine hR2 (m2 - 1) _ _ _ _ _ _ _ (by omega) ⟨i + 1, by omega, rfl, rfl, rfl, rfl, rfl, by simp, rfl, fun j y hj hy => ?_⟩
     by_cases e : j = i
     ·rw [e, hx] at hy; injection hy with hy; rw [← hy]; exact hc
     ·exact hbef j y (by omega) hy
   ·have f := stop h
    have e1 : (decide ((i : Int) < (l.length : Int))) = decide (i < l.length) := by simp
    simp only [hv.len, bO_some, abI_lss, bG_bool, e1]
    by_cases c : i < l.length
    ·have c30 : ¬ ((i : Int) < 12) := by omega
     simp only [c, decide_true, beq_self_eq_true, gO_true, bO_some, abI_lss, c30, decide_false, zcpZ, if_true, bB_bool, zdlZ]
     exact f
    ·simp only [c, decide_false, zcpZ, show ((false == true) = false) from rfl, gO_false, bO_some, if_false, bB_bool, zdlZ, Bool.false_eq_true]
     exact f
  ·have hk6 : k = 6 := by omega
   subst hk6
   have h6I : ¬ (((6 : Nat) : Int) < 6) := by omega
   have b0 : ∀ x y : AV, rdCells true 2 [x, y] 0 = some (.agg [x, y]) := fun _ _ => rfl
   have e5 : ast 2 H (.ptr 0 0) (.agg [a, b]) = some (H.set 0 (some (.cells [a, b]))) := by
    rw [ast_ptr (n := 2) (off := 0) (xs := [a, b]) (by simp [ra, rb]) c0 rfl (by simp)]; rfl
   have c0' : (H.set 0 (some (.cells [a, b])))[0]? = some (some (.cells [a, b])) := List.getElem?_set_self (by omega)
   simp only [abI_lss, bO_some, bB_bool, h6I, decide_false, zdlZ, ald_ptr c1, b0, e5, bS_some, ald_ptr c0']
   have sa := zbZ oa.s (H' := H.set 0 (some (.cells [a, b]))) fun j q => List.getElem?_set_ne (by have := oa.i j q; omega)
   have sb := zbZ ob.s (H' := H.set 0 (some (.cells [a, b]))) fun j q => List.getElem?_set_ne (by have := ob.i j q; omega)
   exact FZ.agg (.cons (FZ.slR sa oa.o na (zgaZ fun x _ => zugZ x)) (.cons (FZ.slR sb ob.o nb (zgaZ fun x _ => zpcZ x)) .nil)))
 exact fun H => ACalls.pure (R' := fun r' => r' = imgR l) key (zjxZ (by simp [noIdss, hv.1])) (fun r1 X1 ⟨n, h1⟩ => ⟨n, _, h1 n (Nat.le_refl _), rfl⟩) H
end Go.Proofs.Ytpnfdibgfichmaa.Av
end
/-! YtpnfdibgfichmaaAvJa -/
section
/- Chapter 12: the document's copy of an image; its changes. -/
set_option linter.unusedVariables false
set_option linter.unusedSimpArgs false
set_option maxRecDepth 100000
namespace Go.Proofs.Ytpnfdibgfichmaa.Av
open Go Go.RowKit

theorem CopyImage_c {H : AH} {ns : List Nm} {dv : List NdV} {a b : AV} (sa : SV encN 2 ns a) (sb : SV encD 3 dv b) (hn : ns.length ≤ 100000) (hm : dv.length ≤ 100000) (hl : ∀ d ∈ dv, d.nd.l.length ≤ 1000000) :
  ∃ r H', CopyK H ns (dv.map NdV.nd) r H' ∧ BCall Try.prog 42 [.agg [a, b]] H r H' := ztnZ (by
 unfold ziiZ
 have oa := SV.oneA sa
 have ob := SV.oneA sb
 obtain ⟨H3, e3, c0, c1, g3, l3⟩ : ∃ H3, anew (H ++ [some (.cells [a, b])]) (.agg [nilSl, nilSl]) = some (.ptr (H.length + 1) 0, H3) ∧ H3[H.length]? = some (some (.cells [a, b])) ∧ H3[H.length + 1]? = some (some (.cells [nilSl, nilSl])) ∧ Grew H H3 ∧ H3.length = H.length + 2 := by
  refine ⟨H ++ [some (.cells [a, b]), some (.cells [nilSl, nilSl])], by simp, by simp, by rw [List.getElem?_append_right (by omega)]; simp, Grew.app _ _, by simp⟩
 simp [oa, ob, e3, c0]
 obtain ⟨ra, H7, e7, w7, g7⟩ := app0 (bytes := 24) (zfZ (sa.2 H3)) (by omega)
 have ra1 := zrZ w7.o
 have l7 := g7.1
 have w7i := w7.i
 simp [e7, zbhZ ra1]
 -- the new image
 obtain ⟨H11, e11, d9, g11, l11⟩ : ∃ H11, ast 2 (H7 ++ [some (.cells [nilSl, nilSl])]) (.ptr H7.length 0) (.agg [ra, nilSl]) = some H11 ∧ H11[H7.length]? = some (some (.cells [ra, nilSl])) ∧ Grew H7 H11 ∧ H11.length = H7.length + 1 := by
  exact ⟨H7 ++ [some (.cells [ra, nilSl])], by simp [ast, splice, ra1, zbhZ ra1], by simp, Grew.app _ _, by simp⟩
 simp [e11]
 have sra := g11.slice w7.s
 have d0 := g11.cells (g7.cells c0)
 have d1 := g11.cells (g7.cells c1)
 have gall : Grew H H11 := g3.trans (g7.trans g11)
 refine zoqZ (fun n x1 x2 x3 x4 H' => ∃ (k : Nat) (ew : List NdV) (rb : AV), k + n = dv.length ∧ x1 = .ptr H.length 0 ∧ x2 = .ptr (H.length + 1) 0 ∧ x3 = .ptr H7.length 0 ∧ x4 = I k ∧ ew.map NdV.nd = (dv.map NdV.nd).take k ∧ H'[H7.length]? = some (some (.cells [ra, rb])) ∧ OwN H11.length 3 (ew.flatMap encD) ew.length rb H' ∧ H11.length ≤ H'.length ∧ ∀ i, i < H11.length → i ≠ H7.length → H'[i]? = H11[i]?) ?_ dv.length ⟨0, [], nilSl, by omega, rfl, rfl, rfl, rfl, rfl, d9, ⟨rfl, rfl, by simp [idS], by simp [capOk]⟩, Nat.le_refl _, fun _ _ _ => rfl⟩
 rintro n x1 x2 x3 x4 H' R hR ⟨k, ew, rb, hk, rfl, rfl, rfl, rfl, hew, h9, hrb, hlen, hfr⟩
 unfold zflZ
 have f0 : H'[H.length]? = some (some (.cells [a, b])) := by rw [hfr _ (by omega) (by omega)]; exact d0
 have el : ew.length = k := by have := congrArg List.length hew; simp at this; omega
 have rb1 := zrZ hrb.o
 rcases Nat.lt_or_ge k dv.length with h | h
 ·have hx := List.getElem?_eq_getElem h
  generalize dv[k] = x at hx
  have hxl := hl x (List.mem_of_getElem? hx)
  obtain ⟨R2, s2, p2⟩ := copyOf_p (size := x.nd.size) x.h (by omega)
  have ei := sb.idx zehZ hx rfl
  have o2 := SV.oneA s2
  simp [f0, sb.len, h, h9, ei, encD_0, encD_c]
  refine bP_of p2 ?_
  have ap : zcwZ H' 3 (.imm [I x.nd.ino, I x.nd.size, R2] 1 3) = some (encD ⟨x.nd, R2, s2⟩, 1) := zfZ (by simp [zaZ, encD])
  obtain ⟨r4, H4, e4, w4, g4⟩ := app1 (bytes := 40) hrb ap hlen (by omega)
  have hH7 : H7.length < H11.length := by omega
  have k9 : H4[H7.length]? = some (some (.cells [ra, rb])) := by rw [g4.2 _ hH7]; exact h9
  have r41 := zrZ w4.o
  have e5 : ast 1 H4 (.ptr H7.length 1) r4 = some (H4.set H7.length (some (.cells [ra, r4]))) := by
   rw [ast_ptr (n := 1) (off := 1) (xs := [r4]) (cs := [ra, rb]) (zbhZ r41) k9 rfl (by simp)]; rfl
  have k9l := (List.getElem?_eq_some_iff.1 k9).1
  simp [zbhZ o2, o2, e4, e5, absf, zrow, abI_add (a := k) (b := 1) (by omega) (by omega)]
  refine hR (n - 1) _ _ _ _ _ (by omega) ⟨k + 1, ew ++ [⟨x.nd, R2, s2⟩], r4, by omega, rfl, rfl, rfl, by simp, ?_, by simp [k9l], ⟨?_, w4.o, w4.i, by simpa using w4.c⟩, by rw [List.length_set]; have := g4.1; omega, fun i i1 i2 => ?_⟩
  ·rw [List.map_append, hew, zgzZ (x := x.nd) (by rw [List.getElem?_map, hx]; rfl)]; rfl
  ·have := w4.s
   rw [List.flatMap_append, List.flatMap_singleton, List.length_append, List.length_singleton]
   exact zbZ this fun i hi => List.getElem?_set_ne (by have := w4.i i hi; omega)
  ·rw [List.getElem?_set_ne (Ne.symm i2), g4.2 i i1, hfr i i1 i2]
 ·have ek : (dv.map NdV.nd).take k = dv.map NdV.nd := List.take_of_length_le (by simp; omega)
  rw [ek] at hew
  have b0 : rdCells true 2 [ra, rb] 0 = some (.agg [ra, rb]) := rfl
  have f1 : H'[H.length + 1]? = some (some (.cells [nilSl, nilSl])) := by rw [hfr _ (by omega) (by omega)]; exact d1
  have f1l := (List.getElem?_eq_some_iff.1 f1).1
  have e5 : ast 2 H' (.ptr (H.length + 1) 0) (.agg [ra, rb]) = some (H'.set (H.length + 1) (some (.cells [ra, rb]))) := by
   rw [ast_ptr (n := 2) (off := 0) (xs := [ra, rb]) (by simp [ra1, rb1]) f1 rfl (by simp)]; rfl
  simp [f0, sb.len, show ¬ k < dv.length by omega, h9, b0, e5, f1l]
  have lta := zmZ w7.s
  refine ⟨ra, rb, ew, rfl, hew, ⟨by rw [List.length_set]; omega, fun i hi => by rw [List.getElem?_set_ne (by omega), hfr i (by omega) (by omega)]; exact gall.2 i hi⟩, ⟨?_, w7.o, w7.c, fun i q => by have := w7i i q; omega, ?_, hrb.o, hrb.c, fun i q => by have := hrb.i i q; omega, fun i q1 q2 => by have := hrb.i i q2; have := lta i q1; omega⟩⟩
  ·refine zbZ sra fun i q => ?_
   have h1 := w7i i q
   have h2 := lta i q
   rw [List.getElem?_set_ne (by omega), hfr i (by omega) (by omega)]
  ·exact zbZ hrb.s fun i q => List.getElem?_set_ne (by have := hrb.i i q; omega))
theorem ref_change_p {d : Nd} {R bv : AV} {o : OpM} (hv : SV encE 9 d.l R) (hl : d.l.length ≤ 1000000) (hb : SV encU 1 o.b bv) (hbl : o.b.length ≤ 281474976710656) :
  ∃ R', SV encE 9 (cL (chgC o d)) R' ∧ BPure Try.prog 47 [.agg [I d.size, R], .agg (opA o bv)] (.tup [.agg [I (cS (chgC o d)), R'], B (chgC o d).isSome]) := by
 have o1 := SV.oneA hv
 have o3 := SV.oneA hb
 have hids : noIdss [.agg [I d.size, R], .agg (opA o bv)] = true := by simp [noIdss, noIds, hv.1, opA, hb.1]
 have wk : ∀ (res : Option Cont) (R' : AV), chgC o d = res → SV encE 9 (cL res) R' → zckZ (.agg [I d.size, R]) (.agg (opA o bv)) [] (fun r _ => r = .tup [.agg [I (cS res), R'], B res.isSome]) → ∃ R', SV encE 9 (cL (chgC o d)) R' ∧ BPure Try.prog 47 [.agg [I d.size, R], .agg (opA o bv)] (.tup [.agg [I (cS (chgC o d)), R'], B (chgC o d).isSome]) := by
  intro res R' hr h1 h2
  rw [hr]
  exact ⟨R', h1, BPure.val hids (by simp [noIds, noIdss, h1.1]) (zvtZ h2)⟩
 have b8 : rdCells true 8 (opA o bv) 0 = some (.agg (opA o bv)) := rfl
 by_cases k2 : o.kind = 2
 ·obtain ⟨R', s1, p1⟩ := ref_WriteContent_p (size := d.size) hv hl o.pos hb hbl
  refine wk _ R' (by unfold chgC; rw [if_pos k2]) s1 ?_
  have o2 := SV.oneA s1
  unfold zckZ
  simp [o1, o3, opA, k2, rdCells]
  refine bP_pure p1 ?_
  simp [o2, zbhZ o2, ast, splice, rdCells]
 ·by_cases k3 : o.kind = 3
  ·obtain ⟨R', s1, p1⟩ := zvqZ (size0 := d.size) hv hl o.size
   refine wk _ R' (by unfold chgC; rw [if_neg k2, if_pos k3]) s1 ?_
   have o2 := SV.oneA s1
   unfold zckZ
   simp [o1, o3, opA, k3, rdCells]
   refine bP_pure p1 ?_
   simp [o2, zbhZ o2, ast, splice, rdCells]
  ·by_cases k4 : o.kind = 4
   ·obtain ⟨R', s1, p1⟩ := zvuZ (size := d.size) hv hl o.pos o.size o.keep
    refine wk _ R' (by unfold chgC; rw [if_neg k2, if_neg k3, if_pos k4]) s1 ?_
    have o2 := SV.oneA s1
    unfold zckZ
    simp [o1, o3, opA, k4, rdCells]
    refine bP_pure p1 ?_
    simp [o2, zbhZ o2, ast, splice, rdCells]
   ·by_cases k5 : o.kind = 5
    ·obtain ⟨R', s1, p1⟩ := ref_PunchContent_p (size := d.size) hv hl o.pos o.size
     refine wk _ R' (by unfold chgC; rw [if_neg k2, if_neg k3, if_neg k4, if_pos k5]) s1 ?_
     have o2 := SV.oneA s1
     unfold zckZ
     simp [o1, o3, opA, k5, rdCells]
     refine bP_pure p1 ?_
     simp [o2, zbhZ o2, ast, splice, rdCells]
    ·refine wk none nilSl (by unfold chgC; rw [if_neg k2, if_neg k3, if_neg k4, if_neg k5]) SV.nil ?_
     unfold zckZ
     simp [o1, o3, opA, k2, k3, k4, k5, ast, splice, rdCells, cS]
theorem chgD_other {ds : List Nd} {o : OpM} (h : ¬ (o.kind = 2 ∨ o.kind = 3 ∨ o.kind = 4 ∨ o.kind = 5)) : chgD ds o = ds := by
 have hn : ∀ d, chgC o d = none := fun d => by
  unfold chgC
  rw [if_neg (by omega), if_neg (by omega), if_neg (by omega), if_neg (by omega)]
 unfold chgD
 split
 ·rw [hn]
 ·rfl
theorem zewZ {oi : Nat} {ns : List Nm} {dv : List NdV} {a b : AV} {H : AH} {p : List Nm × List Nd} (h : ImH 3 oi ns dv a b H) (hoi : 3 ≤ oi) (h2 : H[2]? = some (some (.cells [nilSl, nilSl]))) (hp : p = (ns, dv.map NdV.nd)) : zjZ (.ptr 2 0) (.ptr oi 0) H (ApK p) := by
 rw [zmmZ]; unfold zhwZ
 have c0 := h.obj
 have b0 : rdCells true 2 [a, b] 0 = some (.agg [a, b]) := rfl
 have ra1 := zrZ h.oa
 have rb1 := zrZ h.ob
 have hcl := (List.getElem?_eq_some_iff.1 h2).1
 have e5 : ast 2 H (.ptr 2 0) (.agg [a, b]) = some (H.set 2 (some (.cells [a, b]))) := by
  rw [ast_ptr (n := 2) (off := 0) (xs := [a, b]) (by simp [ra1, rb1]) h2 rfl (by simp)]; rfl
 simp [c0, b0, e5, hcl]
 have h3 : ImH 3 oi ns dv a b (H.set 2 (some (.cells [a, b]))) := ⟨by rw [List.getElem?_set_ne (by omega)]; exact c0, h.lo, by simpa using h.len, zbZ h.sa fun i q => List.getElem?_set_ne (by have := h.ia i q; omega), h.oa, h.ca, h.ia, zbZ h.sb fun i q => List.getElem?_set_ne (by have := h.ib i q; omega), h.ob, h.cb, h.ib, h.ab⟩
 obtain ⟨Ra, Rb, sa, sb, fz⟩ := h3.lend
 subst hp
 exact ⟨_, fz, Ra, Rb, dv, rfl, sa, sb, rfl⟩
theorem ref_ins {oi : Nat} {ns : List Nm} {dv : List NdV} {a b bv : AV} {H : AH} {o : OpM} {K : AV → AH → Prop} (h : ImH 3 oi ns dv a b H) (hp : H[1]? = some (some (.cells (opA o bv)))) (hoi : 3 ≤ oi) (hm : dv.length ≤ 100000)
  (hK : ∀ r H', ImH 3 oi ns (insK cmpI NdV.ino dv (newD o.ino)) a r H' → FrL 3 oi H H' → zjZ (.ptr 2 0) (.ptr oi 0) H' K) : zirZ (.ptr 1 0) (.ptr 2 0) (.ptr oi 0) (I 0) H K := by
 have c0 := h.obj
 refine zrhZ (fun n x3 x4 x5 x6 H' => ∃ k : Nat, k + n = dv.length ∧ x3 = .ptr 1 0 ∧ x4 = .ptr 2 0 ∧ x5 = .ptr oi 0 ∧ x6 = I k ∧ H = H' ∧ ∀ m y, m < k → dv[m]? = some y → cmpI y.ino o.ino < 0) ?_ dv.length ⟨0, by omega, rfl, rfl, rfl, rfl, rfl, by omega⟩
 rintro n x3 x4 x5 x6 H' R hR ⟨k, hk, rfl, rfl, rfl, rfl, rfl, hlt⟩
 unfold zgxZ
 have ln := zosZ h.sb
 have fin : posK cmpI NdV.ino dv o.ino = k →
   bO (aslS 3 b none (some (I k)) none) (fun v27 => bH (aap 3 40 H (.lit (.slice none 0 0)) v27) fun v28 H29 =>
    bO (ashift 1 (.ptr 1 0)) fun v30 => bO (ald false 1 H29 v30) fun v31 => bO (abl [(.lit (.int .i64 0)), (.lit (.int .i64 0)), (.lit (.slice none 0 0))] [(0, 1, v31)]) fun v32 => bH (absl H29 3 1 (zrow [(.lit (.int .i64 0)), (.lit (.int .i64 0)), (.lit (.slice none 0 0))] 1) [(0, 3, v32)]) fun v33 H34 => bH (aap 3 40 H34 v28 v33) fun v35 H36 =>
    bO (ashift 1 (.ptr oi 0)) fun v37 => bO (ald false 1 H36 v37) fun v38 => bO (aslS 3 v38 (some (I k)) none none) fun v39 => bH (aap 3 40 H36 v35 v39) fun v40 H41 =>
    bO (ashift 1 (.ptr oi 0)) fun v42 => bS (ast 1 H41 v42 v40) fun H43 => zjZ (.ptr 2 0) (.ptr oi 0) H43 K) := by
  intro hp0
  have hol := (List.getElem?_eq_some_iff.1 c0).1
  obtain ⟨⟨s1, e1, t1, i1⟩, -⟩ := part_spec zehZ h.sb (show k ≤ dv.length by omega)
  obtain ⟨r1, H1, e2, w1, g1⟩ := app0 (bytes := 40) (zfZ t1) (by omega)
  have p1 := g1.cells hp
  have g2 := Grew.app H1 [some (.cells (encD (newD o.ino)))]
  have w2 := w1.grew g2
  have hl1 := g1.1
  have x1 : zcwZ (H1 ++ [some (.cells (encD (newD o.ino)))]) 3 (.sl H1.length 0 1 3 (.ex 1)) = some (encD (newD o.ino), 1) := zfZ (by rw [zxZ (c := encD (newD o.ino)) (by simp) (by simp [encD])]; rfl)
  obtain ⟨r2, H2, e3, w3, g3⟩ := app1 (bytes := 40) w2 x1 (by simp; omega) (by omega)
  have gg : GrN H.length H H2 := (GrN.of (g1.trans g2) (Nat.le_refl _)).trans g3
  have c2 : H2[oi]? = some (some (.cells [a, b])) := by rw [gg.2 oi hol]; exact c0
  have sb2 : zaZ H2 3 b = some (dv.flatMap encD, dv.length) := zbZ h.sb fun i hi => gg.2 i (zmZ h.sb i hi)
  obtain ⟨-, ⟨s2, e4, t2, i2⟩⟩ := part_spec zehZ sb2 (show k ≤ dv.length by omega)
  obtain ⟨r3, H3, e5, w4, g4⟩ := app1 (bytes := 40) w3 (zfZ t2) gg.1 (by omega)
  have el := insK_len (c := cmpI) (key := NdV.ino) (l := dv) (x := newD o.ino)
  have ev : (dv.take k).flatMap encD ++ encD (newD o.ino) ++ (dv.drop k).flatMap encD = (insK cmpI NdV.ino dv (newD o.ino)).flatMap encD := by
   unfold insK
   rw [show posK cmpI NdV.ino dv (NdV.ino (newD o.ino)) = k from hp0, List.flatMap_append, List.flatMap_cons, List.append_assoc]
  have en : k + 1 + (dv.length - k) = (insK cmpI NdV.ino dv (newD o.ino)).length := by omega
  have g5 := gg.trans g4
  obtain ⟨H4, e6, n1, n2⟩ := h.newB (ew := insK cmpI NdV.ino dv (newD o.ino)) (H' := H3) (r := r3) g5.1 (fun i hi _ => g5.2 i hi) (by rw [← ev, ← en]; exact w4.s) w4.o (by rw [← en]; exact w4.c) (fun i hi => .inr (w4.i i hi))
  have e7 : absl H1 3 1 (zrow [(.lit (.int .i64 0)), (.lit (.int .i64 0)), (.lit (.slice none 0 0))] 1) [(0, 3, .agg (encD (newD o.ino)))] = some (.sl H1.length 0 1 3 (.ex 1), H1 ++ [some (.cells (encD (newD o.ino)))]) := rfl
  have e8 : abl [(.lit (.int .i64 0)), (.lit (.int .i64 0)), (.lit (.slice none 0 0))] [(0, 1, I o.ino)] = some (.agg (encD (newD o.ino))) := rfl
  have e9 : ald false 1 H2 (.ptr oi 1) = some b := by rw [ald_ptr c2]; rfl
  have e10 : ald false 1 H1 (.ptr 1 1) = some (I o.ino) := by rw [ald_ptr p1]; rfl
  simp only [e1, bO_some, e2, bH_some]
  show bO (some (AV.ptr 1 1)) _
  simp only [bO_some, e10, e8, e7, bH_some, e3]
  show bO (some (AV.ptr oi 1)) _
  simp only [bO_some, e9, e4, e5, bH_some]
  show bO (some (AV.ptr oi 1)) _
  simp only [bO_some, e6, bS_some]
  exact hK r3 H4 n1 n2
 rcases Nat.lt_or_ge k dv.length with hkl | hkl
 ·have hx := List.getElem?_eq_getElem hkl
  generalize dv[k] = x at hx
  obtain ⟨o', off, cells, u1, u2, u3, u4, u5, -⟩ := own_at zehZ (by omega) h.sb h.ob hx
  have u50 := u5 0 (by omega)
  rw [Nat.add_zero] at u50
  by_cases hc : cmpI x.ino o.ino < 0
  ·have hc' : x.nd.ino < o.ino := cmpI_lt.1 hc
   simp [c0, hp, opA, ln, hkl, u1, u3, u50, encD, hc', abI_add (a := k) (b := 1) (by omega) (by omega)]
   exact hR (n - 1) _ _ _ _ _ (by omega) ⟨k + 1, by omega, rfl, rfl, rfl, by simp, rfl, fun m y hm hy => by
    by_cases c2 : m = k
    ·rw [c2, hx] at hy; injection hy with hy; rw [← hy]; exact hc
    ·exact hlt m y (by omega) hy⟩
  ·have := fin (posK_eq (by omega) hlt (fun y hy => by rw [hx] at hy; injection hy with hy; rw [← hy]; exact hc))
   have hc' : ¬ x.nd.ino < o.ino := fun q => hc (cmpI_lt.2 q)
   simp [c0] at this
   simp [c0, hp, opA, ln, hkl, u1, u3, u50, encD, hc']
   exact this
 ·have := fin (posK_eq (by omega) hlt (fun y hy => by have := (List.getElem?_eq_some_iff.1 hy).1; omega))
  simp [c0] at this
  simp [c0, ln, show ¬ k < dv.length by omega]
  exact this
/-! two names that go -/
section
variable {κ α : Type} {c : κ → κ → Int} {key : α → κ}
theorem srtK_ext (hc : KO c) : ∀ {l m : List α}, srtK c key l → srtK c key m → (∀ x, x ∈ l ↔ x ∈ m) → l = m
 | [], [], _, _, _ => rfl
 | [], b :: m, _, _, h => by have := (h b).2 (by simp); simp at this
 | a :: l, [], _, _, h => by have := (h a).1 (by simp); simp at this
 | a :: l, b :: m, h1, h2, h => by
  have k1 := List.pairwise_cons.1 h1
  have k2 := List.pairwise_cons.1 h2
  have e : a = b := by
   rcases List.mem_cons.1 ((h a).1 (by simp)) with e | q1
   ·exact e
   ·rcases List.mem_cons.1 ((h b).2 (by simp)) with e | q2
    ·exact e.symm
    ·exact absurd (hc.trans _ _ _ (k1.1 b q2) (k2.1 a q1)) (hc.irr _)
  subst e
  congr 1
  refine srtK_ext hc k1.2 k2.2 fun x => ?_
  have irr : ∀ y, y ∈ l ∨ y ∈ m → y ≠ a := by
   rintro y (q | q) rfl
   ·exact hc.irr _ (k1.1 y q)
   ·exact hc.irr _ (k2.1 y q)
  constructor
  ·intro q
   rcases List.mem_cons.1 ((h x).1 (by simp [q])) with e | q2
   ·exact absurd e (irr x (.inl q))
   ·exact q2
  ·intro q
   rcases List.mem_cons.1 ((h x).2 (by simp [q])) with e | q2
   ·exact absurd e (irr x (.inr q))
   ·exact q2
theorem hasK_del (hc : KO c) {l : List α} (h : srtK c key l) {k k2 : κ} (hk : hasK key l k) (hne : k2 ≠ k) : hasK key (delK c key l k) k2 ↔ hasK key l k2 := by
 constructor
 ·rintro ⟨x, hx, e⟩
  exact ⟨x, delK_sub.subset hx, e⟩
 ·rintro ⟨x, hx, e⟩
  exact ⟨x, (mem_delK hc h hk).2 ⟨hx, by rw [e]; exact hne⟩, e⟩
theorem delK_comm (hc : KO c) {l : List α} (h : srtK c key l) {k k2 : κ} (hk : hasK key l k) (hk2 : hasK key l k2) (hne : k ≠ k2) : delK c key (delK c key l k) k2 = delK c key (delK c key l k2) k := by
 refine srtK_ext hc (zqbZ (zqbZ h)) (zqbZ (zqbZ h)) fun x => ?_
 rw [mem_delK hc (zqbZ h) ((hasK_del hc h hk (Ne.symm hne)).2 hk2), mem_delK hc h hk, mem_delK hc (zqbZ h) ((hasK_del hc h hk2 hne).2 hk), mem_delK hc h hk2, and_right_comm]
end
theorem nameI_del {ns : List Nm} (hs : srtK cmpN Nm.name ns) {s t : List UInt8} (hk : hasK Nm.name ns s) (ht : hasK Nm.name ns t) (hne : t ≠ s) : nameI (delK cmpN Nm.name ns s) t = nameI ns t := by
 obtain ⟨x, h1, h2, rfl⟩ := atK_has ht
 unfold nameI
 rw [h1, atK_eq koN (zqbZ hs) ((mem_delK koN hs hk).2 ⟨h2, hne⟩)]
end Go.Proofs.Ytpnfdibgfichmaa.Av
end
/-! YtpnfdibgfichmaaAvJb -/
section
/- Chapter 12: the document's Apply. -/
set_option linter.unusedVariables false
set_option linter.unusedSimpArgs false
set_option maxRecDepth 100000
namespace Go.Proofs.Ytpnfdibgfichmaa.Av
open Go Go.RowKit

theorem idxK_ge {κ α : Type} [DecidableEq κ] {key : α → κ} {l : List α} {k : κ} : 0 ≤ idxK key l k ↔ hasK key l k := by
 constructor
 ·intro h
  refine Classical.byContradiction fun q => ?_
  have := idxK_lt.2 q
  omega
 ·intro h
  obtain ⟨j, x, h1, -⟩ := idxK_has h
  omega
theorem renOk_doc {ns : List Nm} {ds : List Nd} {o : OpM} (hm : mayI ns ds) (h1 : ¬ o.kind = 1) (h2 : ¬ (o.kind = 2 ∨ o.kind = 3 ∨ o.kind = 4 ∨ o.kind = 5)) (h6 : o.kind = 6) (hc : renOk ns o.name o.to) :
  applyI ns ds o = (insK cmpN Nm.name (delK cmpN Nm.name (if hasK Nm.name ns o.to then delK cmpN Nm.name ns o.to else ns) o.name) ⟨o.to, nameI ns o.name⟩, if hasK Nm.name ns o.to then delK cmpI Nd.ino ds (nameI ns o.to) else ds) := by
 unfold applyI
 rw [if_pos hm, if_neg h1, if_neg h2, if_pos h6, if_pos hc]
 have hs := hm.1.2.2.1
 unfold remNs remD
 have hd := hasK_del koN hs hc.1 (Ne.symm hc.2.2)
 by_cases ht : hasK Nm.name ns o.to
 ·rw [if_pos ht, if_pos (hd.2 ht), if_pos ht, if_pos (hd.2 ht), delK_comm koN hs hc.1 ht hc.2.2, nameI_del hs hc.1 ht (Ne.symm hc.2.2)]
 ·rw [if_neg ht, if_neg (fun h => ht (hd.1 h)), if_neg ht, if_neg (fun h => ht (hd.1 h))]
theorem ref_Apply_p {ns : List Nm} {ds : List Nd} {v bv : AV} {o : OpM} (hv : ImV ns ds v) (hb : Sm ns ds) (hbv : SV encU 1 o.b bv) (hbl : o.b.length ≤ 281474976710656) (hn : o.name.length ≤ 1000000000) (ht : o.to.length ≤ 1000000000) :
  ∃ R, ImV (applyI ns ds o).1 (applyI ns ds o).2 R ∧ BPure Try.prog 19 [v, .agg (opA o bv)] R := by
 have hids := hv.noIds
 refine BPure.FZ (by simp [noIdss] at hids ⊢; exact ⟨hids, by simp [opA, noIds, noIdss, hbv.1]⟩) (salvorref11_Apply_ok (K := ApK (applyI ns ds o)) ?_)
 have hv0 := hv
 obtain ⟨a, b, dv, rfl, sa, sb, rfl⟩ := hv
 have b1 := hb.1
 have b2 := hb.2.1
 rw [List.length_map] at b2
 have oa := SV.oneA sa
 have ob := SV.oneA sb
 have o3 := SV.oneA hbv
 unfold zohZ
 obtain ⟨H5, e5, c0, c1, c2, l5⟩ : ∃ H5, anew [some (.cells [a, b]), some (.cells (opA o bv))] (.agg [nilSl, nilSl]) = some (.ptr 2 0, H5) ∧ H5[0]? = some (some (.cells [a, b])) ∧ H5[1]? = some (some (.cells (opA o bv))) ∧ H5[2]? = some (some (.cells [nilSl, nilSl])) ∧ H5.length = 3 :=
  ⟨[some (.cells [a, b]), some (.cells (opA o bv)), some (.cells [nilSl, nilSl])], by simp, rfl, rfl, rfl, rfl⟩
 have e4 : anew [some (.cells [a, b])] (.agg (opA o bv)) = some (.ptr 1 0, [some (.cells [a, b]), some (.cells (opA o bv))]) := by simp [opA, o3]
 have b0 : ∀ x y : AV, rdCells true 2 [x, y] 0 = some (.agg [x, y]) := fun _ _ => rfl
 have e0 : anew [] (.agg [a, b]) = some (.ptr 0 0, [some (.cells [a, b])]) := by simp [oa, ob]
 simp [-anew_agg, e0, e4, e5, c0, b0]
 obtain ⟨r, H8, ⟨a', b', ew, rfl, hew, hg, ow⟩, hc⟩ := CopyImage_c (H := H5) sa sb (by omega) b2 (fun d hd => hb.2.2.2 d.nd (List.mem_map_of_mem hd))
 refine bC_of hc ?_
 have a1 := zrZ ow.oa
 have a2 := zrZ ow.ob
 have l8 := hg.1
 rw [l5] at ow l8
 obtain ⟨H11, e11, i9, g11, l11⟩ : ∃ H11, ast 2 (H8 ++ [some (.cells [nilSl, nilSl])]) (.ptr H8.length 0) (.agg [a', b']) = some H11 ∧ ImH 3 H8.length ns ew a' b' H11 ∧ Grew H8 H11 ∧ H11.length = H8.length + 1 := by
  have g := Grew.app H8 [some (.cells [a', b'])]
  refine ⟨H8 ++ [some (.cells [a', b'])], by simp [ast, splice, a1, a2, zbhZ a1, zbhZ a2], ⟨by simp, ⟨fun q => by have := zmZ ow.sa _ q; omega, fun q => by have := zmZ ow.sb _ q; omega⟩, by simp; omega, g.slice ow.sa, ow.oa, ow.ca, ow.ia, g.slice ow.sb, ow.ob, ow.cb, ow.ib, ow.ab⟩, g, by simp⟩
 have e10 : anew H8 (.agg [nilSl, nilSl]) = some (.ptr H8.length 0, H8 ++ [some (.cells [nilSl, nilSl])]) := by simp
 simp [-anew_agg, e10, e11]
 have k0 := g11.cells (hg.cells c0)
 have k1 := g11.cells (hg.cells c1)
 have k2 := g11.cells (hg.cells c2)
 have hoi : 3 ≤ H8.length := l8
 generalize H8.length = oi at *
 have d0 := i9.obj
 have el : ew.length = dv.length := by have := congrArg List.length hew; simpa using this
 have keep : ∀ {H' : AH}, FrL 3 oi H11 H' → H'[0]? = some (some (.cells [a, b])) ∧ H'[1]? = some (some (.cells (opA o bv))) ∧ H'[2]? = some (some (.cells [nilSl, nilSl])) := fun f => by
  rw [f.2 0 (by omega) (by omega), f.2 1 (by omega) (by omega), f.2 2 (by omega) (by omega)]; exact ⟨k0, k1, k2⟩
 have hsm : Sm ns (ew.map NdV.nd) := by rw [hew]; exact hb
 simp [-anew_agg, k0, b0]
 refine bP_pure (ref_MayImage_p hv0 hb) ?_
 by_cases hm : mayI ns (dv.map NdV.nd)
 ·have hs := hm.1.2.2.1
  have hdd := hm.2.2.1
  have hd : srtK cmpI NdV.ino ew := by rw [← srtK_map, hew]; exact hdd
  have hx : ∀ x ∈ ns, hasK NdV.ino ew x.ino := fun x hx => by rw [← hasK_map, hew]; exact (mayI_doc.1 hm).2.2.2.2.1 x hx
  simp [-anew_agg, hm, k1, opA]
  by_cases q1 : o.kind = 1
  ·
   have hno : ¬ creI ns (dv.map NdV.nd) o → zjZ (.ptr 2 0) (.ptr oi 0) H11 (ApK (applyI ns (dv.map NdV.nd) o)) := fun hc => zewZ i9 hoi k2 (by unfold applyI; rw [if_pos hm, if_pos q1, if_neg hc, hew])
   rw [decide_eq_true q1]
   simp only [bI_true]
   refine bP_pure (ref_MayName_p (s := o.name) (by omega)) ?_
   by_cases q3 : mayN o.name
   ·simp [q3, k0, k1, b0, opA]
    refine bP_pure (ztxZ hv0 hb o.name) ?_
    by_cases q4 : hasK Nm.name ns o.name
    ·have i4 : ¬ idxK Nm.name ns o.name < 0 := by rw [idxK_lt]; exact fun h => h q4
     simp [i4]
     exact hno fun hc => hc.1 q4
    ·have i4 : idxK Nm.name ns o.name < 0 := idxK_lt.2 q4
     simp [i4, k1, opA]
     by_cases q5 : 1 ≤ o.ino
     ·by_cases q6 : o.ino ≤ 4611686018427387904
      ·simp [q5, q6, k0, k1, b0, opA]
       refine bP_pure (ref_node_p hv0 hb o.ino) ?_
       by_cases q7 : hasK Nd.ino (dv.map NdV.nd) o.ino
       ·have i7 : ¬ idxK Nd.ino (dv.map NdV.nd) o.ino < 0 := by rw [idxK_lt]; exact fun h => h q7
        simp [i7]
        exact hno fun hc => hc.2.1 q7
       ·have i7 : idxK Nd.ino (dv.map NdV.nd) o.ino < 0 := idxK_lt.2 q7
        by_cases q8 : ns.length < 16
        ·have q8' : (ns.length : Int) < 16 := by omega
         have hc : creI ns (dv.map NdV.nd) o := ⟨q4, q7, q3, q5, q6, q8⟩
         have e : applyI ns (dv.map NdV.nd) o = (insK cmpN Nm.name ns ⟨o.name, o.ino⟩, (insK cmpI NdV.ino ew (newD o.ino)).map NdV.nd) := by
          unfold applyI; rw [if_pos hm, if_pos q1, if_pos hc, insK_map, hew]
         simp [i7, k0, sa.len, q8', k1, opA]
         obtain ⟨r2, H2, ⟨rfl, a3, b3, i3, f3⟩, w3⟩ := called_c (s := o.name) (no := o.ino) i9 b1
         refine bC_of w3 ?_
         refine ref_ins i3 (keep f3).2.1 hoi (by omega) fun r4 H4 i4 f4 => ?_
         exact zewZ i4 hoi (keep (f3.trans f4)).2.2 e
        ·have q8' : ¬ (ns.length : Int) < 16 := by omega
         simp [i7, k0, sa.len, q8']
         exact hno fun hc => q8 hc.2.2.2.2.2
      ·simp [q5, q6, k1, opA]
       exact hno fun hc => q6 hc.2.2.2.2.1
     ·simp [q5]
      exact hno fun hc => q5 hc.2.2.2.1
   ·simp [q3]
    exact hno fun hc => q3 hc.2.2.1
  ·by_cases q6 : o.kind = 6
   ·have q2 : ¬ (o.kind = 2 ∨ o.kind = 3 ∨ o.kind = 4 ∨ o.kind = 5) := by omega
    have hno : ¬ renOk ns o.name o.to → zjZ (.ptr 2 0) (.ptr oi 0) H11 (ApK (applyI ns (dv.map NdV.nd) o)) := fun hc => zewZ i9 hoi k2 (by unfold applyI; rw [if_pos hm, if_neg q1, if_neg q2, if_pos q6, if_neg hc, hew])
    rw [decide_eq_false q1]
    simp only [zdlZ]
    simp [q6, k0, k1, b0, opA]
    refine bP_pure (ztxZ hv0 hb o.name) ?_
    by_cases q3 : hasK Nm.name ns o.name
    ·have i3 : 0 ≤ idxK Nm.name ns o.name := idxK_ge.2 q3
     simp [i3, k1, opA]
     refine bP_pure (ref_MayName_p (s := o.to) (by omega)) ?_
     by_cases q4 : mayN o.to
     ·simp [q4, k1, opA, abT_neq]
      by_cases q5 : o.to = o.name
      ·simp [q5]
       exact hno fun hc => hc.2.2 q5.symm
      ·have hc : renOk ns o.name o.to := ⟨q3, q4, Ne.symm q5⟩
       have e := renOk_doc hm q1 q2 q6 hc
       obtain ⟨Ra, Rb, ta, tb, fz⟩ := i9.lend
       have hJ : ∀ ns1 dw a1 b1 Hc, ImH 3 oi ns1 dw a1 b1 Hc → FrL 3 oi H11 Hc → srtK cmpN Nm.name ns1 → srtK cmpI NdV.ino dw → Sm ns1 (dw.map NdV.nd) → hasK Nm.name ns1 o.name → applyI ns (dv.map NdV.nd) o = (insK cmpN Nm.name (delK cmpN Nm.name ns1 o.name) ⟨o.to, nameI ns o.name⟩, dw.map NdV.nd) → zfuZ (.ptr 0 0) (.ptr 1 0) (.ptr 2 0) (.ptr oi 0) (I (idxK Nm.name ns o.name)) Hc (ApK (applyI ns (dv.map NdV.nd) o)) := by
        intro ns1 dw a1 b1 Hc hi hf hs1 hd1 hb1 hk1 he
        rw [ztkZ]; unfold zmjZ
        obtain ⟨g0, g1, g2⟩ := keep hf
        simp [g1, opA]
        obtain ⟨r2, H2, ⟨rfl, a3, b3, i3, f3⟩, w3⟩ := gone_c (s := o.name) hi hs1 hd1 hb1 hk1 false (by simp)
        refine bC_of w3 ?_
        rw [zteZ]; unfold zmgZ
        obtain ⟨g0, g1, g2⟩ := keep (hf.trans f3)
        rw [idxK_pos koN hs q3]
        obtain ⟨x, hx1, hx2, hx3⟩ := posK_atK koN hs q3
        have en : nameI ns o.name = x.ino := by unfold nameI; rw [hx2]
        simp [g0, g1, opA, sa.idx zejZ hx1 rfl, encN_1]
        obtain ⟨r4, H4, ⟨rfl, a5, b5, i5, f5⟩, w5⟩ := called_c (s := o.to) (no := x.ino) i3 (Nat.le_trans delK_sub.length_le hb1.1)
        refine bC_of w5 ?_
        rw [en] at he
        exact zewZ i5 hoi (keep ((hf.trans f3).trans f5)).2.2 he
       simp [q5, d0, b0, k1, opA]
       refine bP_of (PCall.lend (FZs.cons fz (FZs.cons (FZ.lit _) FZs.nil)) rfl (ztxZ ⟨Ra, Rb, ew, rfl, ta, tb, rfl⟩ hsm o.to)) ?_
       by_cases q7 : hasK Nm.name ns o.to
       ·have i7 := idxK_ge.2 q7
        rw [if_pos q7, if_pos q7] at e
        have hk7 : hasK NdV.ino ew (nameI ns o.to) := by
         obtain ⟨y, y1, y2, y3⟩ := atK_has q7
         have : nameI ns o.to = y.ino := by unfold nameI; rw [y1]
         rw [this]; exact hx y y2
        simp [i7, k1, opA]
        obtain ⟨r2, H2, ⟨rfl, a3, b3, i3, f3⟩, w3⟩ := gone_c (s := o.to) i9 hs hd hsm q7 true (fun _ => hk7)
        refine bC_of w3 ?_
        refine hJ _ _ _ _ _ i3 f3 (zqbZ hs) (by simpa using zqbZ hd) (hsm.sub delK_sub (by simpa using delK_sub.map NdV.nd)) ((hasK_del koN hs q7 (Ne.symm q5)).2 q3) ?_
        rw [e, ← hew]
        simp [delK_map]
       ·have i7 : ¬ 0 ≤ idxK Nm.name ns o.to := fun h => q7 (idxK_ge.1 h)
        rw [if_neg q7, if_neg q7] at e
        simp [i7]
        exact hJ _ _ _ _ _ i9 (FrL.refl _ _ _) hs hd hsm q3 (by rw [e, hew])
     ·simp [q4]
      exact hno fun hc => q4 hc.2.1
    ·have i3 : ¬ 0 ≤ idxK Nm.name ns o.name := fun h => q3 (idxK_ge.1 h)
     simp [i3]
     exact hno fun hc => q3 hc.1
   ·by_cases q7 : o.kind = 7
    ·have q2 : ¬ (o.kind = 2 ∨ o.kind = 3 ∨ o.kind = 4 ∨ o.kind = 5) := by omega
     have e : applyI ns (dv.map NdV.nd) o = (remNs ns o.name, (remDv ns ew o.name).map NdV.nd) := by
      unfold applyI
      rw [if_pos hm, if_neg q1, if_neg q2, if_neg q6, if_pos q7, remDv_map, hew]
     rw [decide_eq_false q1]
     simp only [zdlZ]
     simp [q7, k0, k1, b0, opA]
     refine bP_pure (ztxZ hv0 hb o.name) ?_
     by_cases q3 : hasK Nm.name ns o.name
     ·have i3 := idxK_ge.2 q3
      have hk7 : hasK NdV.ino ew (nameI ns o.name) := by
       obtain ⟨y, y1, y2, y3⟩ := atK_has q3
       have : nameI ns o.name = y.ino := by unfold nameI; rw [y1]
       rw [this]; exact hx y y2
      simp [i3, k1, opA]
      obtain ⟨r2, H2, ⟨rfl, a3, b3, i3, f3⟩, w3⟩ := gone_c (s := o.name) i9 hs hd hsm q3 true (fun _ => hk7)
      refine bC_of w3 ?_
      refine zewZ i3 hoi (keep f3).2.2 (e.trans ?_)
      unfold remNs remDv
      rw [if_pos q3, if_pos q3]; rfl
     ·have i3 : ¬ 0 ≤ idxK Nm.name ns o.name := fun h => q3 (idxK_ge.1 h)
      simp [i3]
      refine zewZ i9 hoi k2 (e.trans ?_)
      unfold remNs remDv
      rw [if_neg q3, if_neg q3]
    ·have e : applyI ns (dv.map NdV.nd) o = (ns, chgD (ew.map NdV.nd) o) := by
      unfold applyI
      rw [if_pos hm, if_neg q1, if_neg q6, if_neg q7, hew]
      by_cases q2 : o.kind = 2 ∨ o.kind = 3 ∨ o.kind = 4 ∨ o.kind = 5
      ·rw [if_pos q2]
      ·rw [if_neg q2, chgD_other q2]
     rw [decide_eq_false q1]
     simp only [zdlZ]
     simp [-anew_agg, q6, q7, k0, k1, b0, opA]
     refine bP_pure (ref_node_p hv0 hb o.ino) ?_
     by_cases q3 : hasK Nd.ino (dv.map NdV.nd) o.ino
     ·have i3 := idxK_ge.2 q3
      have hdv : srtK cmpI NdV.ino dv := srtK_map.1 hdd
      have ek := idxK_pos koI hdd q3
      rw [posK_map] at ek
      obtain ⟨x, hx1, hx2, hx3⟩ := posK_atK koI hdv (hasK_map.1 q3)
      have hxl := hb.2.2.2 x.nd (List.mem_map_of_mem (List.mem_of_getElem? hx1))
      obtain ⟨R2, s2, p2⟩ := ref_change_p (d := x.nd) (o := o) x.h hxl hbv hbl
      have o2 := SV.oneA s2
      obtain ⟨y, hy1, hy2⟩ : ∃ y, ew[posK cmpI NdV.ino dv o.ino]? = some y ∧ y.nd = x.nd := by
       have h1 : (ew.map NdV.nd)[posK cmpI NdV.ino dv o.ino]? = some x.nd := by rw [hew, List.getElem?_map, hx1]; rfl
       exact getElem?_map_nd h1
      have b8 : rdCells true 8 (opA o bv) 0 = some (.agg (opA o bv)) := rfl
      have ei := sb.idx zehZ hx1 rfl
      obtain ⟨H1, f1, f2, f3, f4, f5⟩ : ∃ H1, anew H11 (.agg [I 0, nilSl]) = some (.ptr H11.length 0, H1) ∧ H1[0]? = some (some (.cells [a, b])) ∧ H1[1]? = some (some (.cells (opA o bv))) ∧ H1 = H11 ++ [some (.cells [I 0, nilSl])] ∧ Grew H11 H1 := by
       have g := Grew.app H11 [some (.cells [I 0, nilSl])]
       exact ⟨_, by simp, g.cells k0, g.cells k1, rfl, g⟩
      obtain ⟨H2, f6, f7, f8⟩ : ∃ H2, ast 2 H1 (.ptr H11.length 0) (.agg [I (cS (chgC o x.nd)), R2]) = some H2 ∧ H2[H11.length]? = some (some (.cells [I (cS (chgC o x.nd)), R2])) ∧ Grew H11 H2 := by
       subst f4
       exact ⟨H11 ++ [some (.cells [I (cS (chgC o x.nd)), R2])], by simp [ast, splice, o2, zbhZ o2], by simp, Grew.app _ _⟩
      have i2 := i9.grew f8
      have d2 := i2.obj
      have fr2 : FrL 3 oi H11 H2 := ⟨f8.1, fun j j1 j2 => f8.2 j (by have := i9.len; omega)⟩
      have hat : atK Nd.ino (dv.map NdV.nd) o.ino = some x.nd := atK_map hx2
      simp [-anew_agg, i3, ek, k0, k1, b8, ei, encD_c]
      refine bP_of p2 ?_
      simp only [zkZ, bO_some, List.getElem?_cons_zero, List.getElem?_cons_succ, f1, bH_some, f6, bS_some]
      simp [f2, f3, b8, ei, encD_c]
      cases hr : chgC o x.nd with
      | none =>
       simp
       refine ⟨by simp [rdCells, encD], rfl, ?_⟩
       refine zewZ i2 hoi (keep fr2).2.2 (e.trans ?_)
       unfold chgD
       rw [hew, hat]
       simp only [hr]
      | some c =>
       rw [hr] at s2 f7
       obtain ⟨o', off, cells, H4, w1, w2, w3, w4, w5, w6⟩ := i2.putD (sz := cS (some c)) hy1 s2
       simp [d2, f7, w1, rdCells, w4]
       refine ⟨by rw [zehZ]; omega, rfl, ?_⟩
       refine zewZ w5 hoi (keep (fr2.trans w6)).2.2 (e.trans ?_)
       unfold chgD
       rw [hew, hat]
       simp only [hr, posK_map]
       rw [List.map_set, hew]
       congr 2
       rw [← hy2]; rfl
     ·have i3 : ¬ 0 ≤ idxK Nd.ino (dv.map NdV.nd) o.ino := fun h => q3 (idxK_ge.1 h)
      simp [i3]
      refine zewZ i9 hoi k2 (e.trans ?_)
      unfold chgD
      rw [hew, atK_none q3]
 ·have e : applyI ns (dv.map NdV.nd) o = (ns, ew.map NdV.nd) := by unfold applyI; rw [if_neg hm, hew]
  have := zewZ i9 hoi k2 e
  rw [zmmZ] at this; unfold zhwZ at this
  simp [d0, b0] at this
  simp [hm, d0, b0]
  exact this
end Go.Proofs.Ytpnfdibgfichmaa.Av
end
/-! YtpnfdibgfichmaaAvJc -/
section
/- Chapter 12: how long names, lists and contents are behind a change. -/
set_option linter.unusedVariables false
set_option linter.unusedSimpArgs false
set_option maxRecDepth 100000
namespace Go.Proofs.Ytpnfdibgfichmaa.Av
open Go Go.RowKit

theorem wr_len12 : ∀ {bs : List UInt8} {l : List Ext} {p : Int}, (writeL l p bs).length ≤ l.length + bs.length
 | [], l, p => Nat.le_refl _
 | b :: r, l, p => by
  show (writeL (needPut l p [b]) (p + 1) r).length ≤ _
  have ih := wr_len12 (bs := r) (l := needPut l p [b]) (p := p + 1)
  have h : (needPut l p [b]).length ≤ l.length + 1 := by
   unfold needPut
   have := need_len l (p / 8)
   simp [putL]
   omega
  simp only [List.length_cons]; omega
theorem chg_len {o : OpM} {d : Nd} : (cL (chgC o d)).length ≤ d.l.length + o.b.length + 4098 := by
 unfold chgC
 split
 ·unfold writeC
  split
  ·split
   ·simp only [cL, Option.getD_some]; omega
   ·simp only [cL, Option.getD_some]
    have := wr_len12 (bs := o.b) (l := d.l) (p := o.pos)
    omega
  ·simp [cL]
 ·split
  ·unfold truncC
   split
   ·simp only [cL, Option.getD_some, truncL, wipeL, List.length_map]
    exact Nat.le_trans (List.length_filter_le _ _) (by omega)
   ·simp [cL]
  ·split
   ·unfold allocC
    split
    ·simp only [cL, Option.getD_some, allocL]
     have := (ns_len (k := allocN o.pos o.size) (l := d.l) (no := o.pos / 8)).1
     have hN : allocN o.pos o.size ≤ 4098 := by unfold allocN; omega
     omega
    ·simp [cL]
   ·split
    ·unfold punchC
     split
     ·simp only [cL, Option.getD_some, punchL, wipeL, List.length_map]
      exact Nat.le_trans (List.length_filter_le _ _) (by omega)
     ·simp [cL]
    ·simp [cL]
theorem chgD_mem {ds : List Nd} {o : OpM} {d : Nd} (h : d ∈ chgD ds o) : d ∈ ds ∨ ∃ e ∈ ds, d.l.length ≤ e.l.length + o.b.length + 4098 := by
 unfold chgD at h
 split at h
 ·rename_i e he
  split at h
  ·rename_i c hc
   rcases List.mem_or_eq_of_mem_set h with h | h
   ·exact .inl h
   ·refine .inr ⟨e, List.mem_of_find?_eq_some he, ?_⟩
    have := chg_len (o := o) (d := e)
    rw [hc] at this
    rw [h]; exact this
  ·exact .inl h
 ·exact .inl h
theorem remNs_sub {ns : List Nm} {s : List UInt8} : (remNs ns s).Sublist ns := by
 unfold remNs
 split
 ·exact delK_sub
 ·exact List.Sublist.refl _
theorem remD_sub {ns : List Nm} {ds : List Nd} {s : List UInt8} : (remD ns ds s).Sublist ds := by
 unfold remD
 split
 ·exact delK_sub
 ·exact List.Sublist.refl _
theorem chgD_len {ds : List Nd} {o : OpM} : (chgD ds o).length = ds.length := by
 unfold chgD
 split
 ·split
  ·simp
  ·rfl
 ·rfl
theorem applyI_len {ns : List Nm} {ds : List Nd} {o : OpM} : (applyI ns ds o).1.length ≤ ns.length + 1 ∧ (applyI ns ds o).2.length ≤ ds.length + 1 ∧ (∀ x ∈ (applyI ns ds o).1, x ∈ ns ∨ x.name = o.name ∨ x.name = o.to) ∧ ∀ d ∈ (applyI ns ds o).2, d ∈ ds ∨ d.l = [] ∨ ∃ e ∈ ds, d.l.length ≤ e.l.length + o.b.length + 4098 := by
 have base : (ns, ds).1.length ≤ ns.length + 1 ∧ (ns, ds).2.length ≤ ds.length + 1 ∧ (∀ x ∈ (ns, ds).1, x ∈ ns ∨ x.name = o.name ∨ x.name = o.to) ∧ ∀ d ∈ (ns, ds).2, d ∈ ds ∨ d.l = [] ∨ ∃ e ∈ ds, d.l.length ≤ e.l.length + o.b.length + 4098 := ⟨Nat.le_succ _, Nat.le_succ _, fun x h => .inl h, fun d h => .inl h⟩
 unfold applyI
 split
 ·split
  ·split
   ·refine ⟨Nat.le_of_eq insK_len, Nat.le_of_eq insK_len, fun x h => ?_, fun d h => ?_⟩
    ·rcases zoxZ.1 h with rfl | h
     ·exact .inr (.inl rfl)
     ·exact .inl h
    ·rcases zoxZ.1 h with rfl | h
     ·exact .inr (.inl rfl)
     ·exact .inl h
   ·exact base
  ·split
   ·refine ⟨Nat.le_succ _, by show (chgD ds o).length ≤ _; rw [chgD_len]; omega, fun x h => .inl h, fun d h => (chgD_mem h).imp id .inr⟩
   ·split
    ·split
     ·have h1 := (remNs_sub (ns := delK cmpN Nm.name ns o.name) (s := o.to)).trans delK_sub
      have h2 := remD_sub (ns := delK cmpN Nm.name ns o.name) (ds := ds) (s := o.to)
      refine ⟨?_, Nat.le_succ_of_le h2.length_le, fun x h => ?_, fun d h => .inl (h2.subset h)⟩
      ·show (insK _ _ _ _).length ≤ _
       rw [insK_len]
       have := h1.length_le
       omega
      ·rcases zoxZ.1 h with rfl | h
       ·exact .inr (.inr rfl)
       ·exact .inl (h1.subset h)
     ·exact base
    ·split
     ·exact ⟨Nat.le_succ_of_le remNs_sub.length_le, Nat.le_succ_of_le remD_sub.length_le, fun x h => .inl (remNs_sub.subset h), fun d h => .inl (remD_sub.subset h)⟩
     ·exact base
 ·exact base
end Go.Proofs.Ytpnfdibgfichmaa.Av
end
/-! YtpnfdibgfichmaaAvJd -/
section
/- Chapter 12: changes, one behind the other. -/
set_option linter.unusedVariables false
set_option linter.unusedSimpArgs false
set_option maxRecDepth 100000
namespace Go.Proofs.Ytpnfdibgfichmaa.Av
open Go Go.RowKit

theorem OwI.lend {L : Nat} {ns : List Nm} {dv : List NdV} {a b : AV} {H : AH} (h : OwI L ns dv a b H) : ∃ R, ImV ns (dv.map NdV.nd) R ∧ FZ H (.agg [a, b]) R := by
 obtain ⟨Ra, h1, f1⟩ := FZ.sv h.sa (zgaZ fun x _ => zugZ x)
 obtain ⟨Rb, h2, f2⟩ := FZ.sv h.sb (zgaZ fun x _ => zpcZ x)
 exact ⟨_, ⟨Ra, Rb, dv, rfl, h1, h2, rfl⟩, FZ.agg (FZs.cons f1 (FZs.cons f2 FZs.nil))⟩
theorem Copy_p {ns : List Nm} {ds : List Nd} {v : AV} (hv : ImV ns ds v) (hb : Sm ns ds) : ∃ R, ImV ns ds R ∧ BPure Try.prog 33 [v] R := by
 have hids := hv.noIds
 obtain ⟨a, b, dv, rfl, sa, sb, rfl⟩ := hv
 have b2 := hb.2.1
 rw [List.length_map] at b2
 obtain ⟨r, X, ⟨a', b', ew, rfl, hew, -, ow⟩, hc⟩ := Copy_c (H := []) sa sb hb.1 b2 (fun d hd => hb.2.2.2 d.nd (List.mem_map_of_mem hd))
 obtain ⟨R, hR, fR⟩ := ow.lend
 rw [hew] at hR
 exact BPure.FZ hids ⟨_, X, ⟨R, fR, hR⟩, hc⟩
structure OpV where
 o : OpM
 bv : AV
 h : SV encU 1 o.b bv
def encO (x : OpV) : List AV := opA x.o x.bv
theorem encO_len (x : OpV) : (encO x).length = 8 := rfl
def allI (ns : List Nm) (ds : List Nd) (l : List OpM) : List Nm × List Nd := l.foldl (fun p o => applyI p.1 p.2 o) (ns, ds)
def Fit (k : Nat) (ns : List Nm) (ds : List Nd) : Prop := ns.length ≤ 100 + k ∧ ds.length ≤ 100 + k ∧ (∀ x ∈ ns, x.name.length ≤ 1000000) ∧ ∀ d ∈ ds, d.l.length ≤ 1000 + k * 5000
def OpFew (o : OpM) : Prop := o.b.length ≤ 200 ∧ o.name.length ≤ 100 ∧ o.to.length ≤ 100
theorem Fit.sm {k : Nat} {ns : List Nm} {ds : List Nd} (h : Fit k ns ds) (hk : k ≤ 100) : Sm ns ds :=
 ⟨by have := h.1; omega, by have := h.2.1; omega, fun x hx => by have := h.2.2.1 x hx; omega, fun d hd => by have := h.2.2.2 d hd; omega⟩
theorem Fit.step {k : Nat} {ns : List Nm} {ds : List Nd} {o : OpM} (h : Fit k ns ds) (ho : OpFew o) : Fit (k + 1) (applyI ns ds o).1 (applyI ns ds o).2 := by
 obtain ⟨l1, l2, l3, l4⟩ := applyI_len (ns := ns) (ds := ds) (o := o)
 obtain ⟨h1, h2, h3, h4⟩ := h
 obtain ⟨o1, o2, o3⟩ := ho
 refine ⟨by omega, by omega, fun x hx => ?_, fun d hd => ?_⟩
 ·rcases l3 x hx with h | h | h
  ·exact h3 x h
  ·rw [h]; omega
  ·rw [h]; omega
 ·rcases l4 d hd with h | h | ⟨e, h, h5⟩
  ·have := h4 d h; omega
  ·rw [h]; simp
  ·have := h4 e h; omega
theorem op_at {H : AH} {w : AV} {l : List OpV} {k : Nat} {x : OpV} (hw : zaZ H 8 w = some (l.flatMap encO, l.length)) (hx : l[k]? = some x) : ∃ p, aixS 8 w (I k) = some p ∧ ald true 8 H p = some (.agg (opA x.o x.bv)) := by
 have hk := (List.getElem?_eq_some_iff.1 hx).1
 obtain ⟨p, c, h1, h2, h3, h4⟩ := aixS_spec hw (i := (k : Int)) rfl hk
 have hc : c.take 8 = encO x := by
  rw [h3, zolZ encO_len hx, List.take_append_of_le_length (by rw [encO_len]; omega), List.take_of_length_le (by rw [encO_len]; omega)]
 exact ⟨p, h1, by rw [ald_at h2 (by omega) h4, rdCells_agg (by omega), List.drop_zero, hc]; rfl⟩
theorem All_c {H : AH} {ns : List Nm} {ds : List Nd} {v lv : AV} {l : List OpV} (hv : ImV ns ds v) (hb : Fit 0 ns ds) (hl : zaZ H 8 lv = some (l.flatMap encO, l.length)) (hn : l.length ≤ 100) (ho : ∀ x ∈ l, OpFew x.o) :
  ∃ r H', (ImV (allI ns ds (l.map OpV.o)).1 (allI ns ds (l.map OpV.o)).2 r ∧ Grew H H') ∧ BCall Try.prog 10 [v, lv] H r H' := image_All_ok (by
 obtain ⟨R0, hR0, pc⟩ := Copy_p hv (hb.sm (by omega))
 obtain ⟨a, b, dv, rfl, sa, sb, rfl⟩ := hv
 obtain ⟨a1, b1, dv1, rfl, sa1, sb1, e1⟩ := hR0
 have oa := SV.oneA sa
 have ob := SV.oneA sb
 have oa1 := SV.oneA sa1
 have ob1 := SV.oneA sb1
 unfold image_All
 have b0 : ∀ x y : AV, rdCells true 2 [x, y] 0 = some (.agg [x, y]) := fun _ _ => rfl
 have ln := zosZ hl
 obtain ⟨H3, e3, c0, c1, g3, l3⟩ : ∃ H3, anew (H ++ [some (.cells [a, b])]) (.agg [nilSl, nilSl]) = some (.ptr (H.length + 1) 0, H3) ∧ H3[H.length]? = some (some (.cells [a, b])) ∧ H3[H.length + 1]? = some (some (.cells [nilSl, nilSl])) ∧ Grew H H3 ∧ H3.length = H.length + 2 := by
  refine ⟨H ++ [some (.cells [a, b]), some (.cells [nilSl, nilSl])], by simp, by simp, by rw [List.getElem?_append_right (by omega)]; simp, Grew.app _ _, by simp⟩
 have e6 : ast 2 H3 (.ptr H.length 0) (.agg [a1, b1]) = some (H3.set H.length (some (.cells [a1, b1]))) := by
  rw [ast_ptr (n := 2) (off := 0) (xs := [a1, b1]) (by simp [oa1, ob1]) c0 rfl (by simp)]; rfl
 simp [oa, ob, e3, c0, b0]
 refine bP_pure pc ?_
 simp only [e6, bS_some, ln, bO_some]
 refine image_All_L4_rule (fun n x2 x4 x9 x10 x11 H' => ∃ (k : Nat) (c d : AV), k + n = l.length ∧ x2 = .ptr H.length 0 ∧ x4 = .ptr (H.length + 1) 0 ∧ x9 = lv ∧ x10 = I l.length ∧ x11 = I k ∧ H.length + 2 ≤ H'.length ∧ (∀ i, i < H.length → H'[i]? = H[i]?) ∧ H'[H.length]? = some (some (.cells [c, d])) ∧ H'[H.length + 1]? = some (some (.cells [nilSl, nilSl])) ∧ ImV (allI ns (dv.map NdV.nd) ((l.take k).map OpV.o)).1 (allI ns (dv.map NdV.nd) ((l.take k).map OpV.o)).2 (.agg [c, d]) ∧ Fit k (allI ns (dv.map NdV.nd) ((l.take k).map OpV.o)).1 (allI ns (dv.map NdV.nd) ((l.take k).map OpV.o)).2) ?_ l.length ⟨0, a1, b1, by omega, rfl, rfl, rfl, rfl, rfl, by rw [List.length_set]; omega, fun i hi => by rw [List.getElem?_set_ne (by omega)]; exact g3.2 i hi, by rw [List.getElem?_set_self (by omega)], by rw [List.getElem?_set_ne (by omega)]; exact c1, ⟨a1, b1, dv1, rfl, sa1, sb1, e1⟩, hb⟩
 rintro n x2 x4 x9 x10 x11 H' R hR ⟨k, c, d, hk, rfl, rfl, rfl, rfl, rfl, hlen, hfr, c0, c1, hI, hF⟩
 unfold zuhZ
 have hl' : zaZ H' 8 x9 = some (l.flatMap encO, l.length) := zbZ hl fun i hi => hfr i (zmZ hl i hi)
 rcases Nat.lt_or_ge k l.length with h | h
 ·have hx := List.getElem?_eq_getElem h
  generalize l[k] = x at hx
  have hos := ho x (List.mem_of_getElem? hx)
  have ox := SV.oneA x.h
  obtain ⟨R2, i2, p2⟩ := Apply_p (o := x.o) hI (hF.sm (by omega)) x.h (by have := hos.1; omega) (by have := hos.2.1; omega) (by have := hos.2.2; omega)
  obtain ⟨p, p1, p3⟩ := op_at hl' hx
  obtain ⟨H2, e2, k0, k1, k2, l2, f2⟩ : ∃ H2, ast 8 (H' ++ [some (.cells [I 0, I 0, I 0, I 0, B false, S ⟨#[]⟩, S ⟨#[]⟩, nilSl])]) (.ptr H'.length 0) (.agg (opA x.o x.bv)) = some H2 ∧ H2[H.length]? = some (some (.cells [c, d])) ∧ H2[H.length + 1]? = some (some (.cells [nilSl, nilSl])) ∧ H2[H'.length]? = some (some (.cells (opA x.o x.bv))) ∧ H2.length = H'.length + 1 ∧ ∀ i, i < H'.length → H2[i]? = H'[i]? := by
   have g := Grew.app H' [some (.cells (opA x.o x.bv))]
   exact ⟨_, by simp [ast, opA, splice, ox], g.cells c0, g.cells c1, by simp, by simp, g.2⟩
  have r8 : rdCells true 8 (opA x.o x.bv) 0 = some (.agg (opA x.o x.bv)) := rfl
  have eal : allI ns (dv.map NdV.nd) ((l.take (k + 1)).map OpV.o) = applyI (allI ns (dv.map NdV.nd) ((l.take k).map OpV.o)).1 (allI ns (dv.map NdV.nd) ((l.take k).map OpV.o)).2 x.o := by
   rw [zgzZ hx, List.map_append]
   unfold allI
   rw [List.foldl_append]; rfl
  obtain ⟨c2, d2, dv2, rfl, sc2, sd2, e3⟩ := i2
  have oc2 := SV.oneA sc2
  have od2 := SV.oneA sd2
  have e4 : ast 2 H2 (.ptr H.length 0) (.agg [c2, d2]) = some (H2.set H.length (some (.cells [c2, d2]))) := by
   rw [ast_ptr (n := 2) (off := 0) (xs := [c2, d2]) (by simp [oc2, od2]) k0 rfl (by simp)]; rfl
  have q1 : ald true 2 H2 (.ptr H.length 0) = some (.agg [c, d]) := by rw [ald_ptr k0]; rfl
  have q2 : ald true 8 H2 (.ptr H'.length 0) = some (.agg (opA x.o x.bv)) := by rw [ald_ptr k2]; rfl
  have q3 : anew H' (.agg [I 0, I 0, I 0, I 0, B false, S ⟨#[]⟩, S ⟨#[]⟩, nilSl]) = some (.ptr H'.length 0, H' ++ [some (.cells [I 0, I 0, I 0, I 0, B false, S ⟨#[]⟩, S ⟨#[]⟩, nilSl])]) := by simp
  simp only [abI_lss, Int.ofNat_lt, h, decide_true, bO_some, bB_bool, bI_true, p1, p3, q3, bH_some, e2, bS_some, q1, q2]
  refine bP_pure p2 ?_
  simp only [e4, bS_some, abI_add (a := k) (b := 1) (by omega) (by omega), bO_some]
  refine hR (n - 1) _ _ _ _ _ _ (by omega) ⟨k + 1, c2, d2, by omega, rfl, rfl, rfl, rfl, by simp, by rw [List.length_set]; omega, fun i hi => by rw [List.getElem?_set_ne (by omega), f2 i (by omega)]; exact hfr i hi, by rw [List.getElem?_set_self (by omega)], by rw [List.getElem?_set_ne (by omega)]; exact k1, ?_, ?_⟩
  ·rw [eal]; exact ⟨c2, d2, dv2, rfl, sc2, sd2, e3⟩
  ·rw [eal]; exact hF.step hos
 ·have ek : l.take k = l := List.take_of_length_le (by omega)
  rw [ek] at hI
  obtain ⟨c', d', dv2, e5, sc2, sd2, e3⟩ := hI
  injection e5 with e5; injection e5 with e5 e6; injection e6 with e6
  subst e5; subst e6
  have oc2 := SV.oneA sc2
  have od2 := SV.oneA sd2
  have k1l := (List.getElem?_eq_some_iff.1 c1).1
  have e4 : ast 2 H' (.ptr (H.length + 1) 0) (.agg [c, d]) = some (H'.set (H.length + 1) (some (.cells [c, d]))) := by
   rw [ast_ptr (n := 2) (off := 0) (xs := [c, d]) (by simp [oc2, od2]) c1 rfl (by simp)]; rfl
  simp [show ¬ k < l.length by omega, c0, b0, e4, k1l]
  exact ⟨⟨c, d, dv2, rfl, sc2, sd2, e3⟩, by rw [List.length_set]; omega, fun i hi => by rw [List.getElem?_set_ne (by omega)]; exact hfr i hi⟩)
end Go.Proofs.Ytpnfdibgfichmaa.Av
end
/-! YtpnfdibgfichmaaAvLa -/
section
/- Images: what a change keeps, what is found behind it. No program in sight. -/
set_option linter.unusedVariables false
set_option linter.unusedSimpArgs false
set_option maxRecDepth 100000
namespace Go.Proofs.Ytpnfdibgfichmaa.Av
open Go Go.RowKit

section
variable {α κ ι : Type} {c : κ → κ → Int} {key : α → κ}
theorem hasK_ins {f : α → ι} {l : List α} {x : α} {i : ι} : hasK f (insK c key l x) i ↔ f x = i ∨ hasK f l i := by
 unfold hasK
 constructor
 ·rintro ⟨y, hy, e⟩
  rcases zoxZ.1 hy with rfl | hy
  ·exact .inl e
  ·exact .inr ⟨y, hy, e⟩
 ·rintro (e | ⟨y, hy, e⟩)
  ·exact ⟨x, zoxZ.2 (.inl rfl), e⟩
  ·exact ⟨y, zoxZ.2 (.inr hy), e⟩
theorem hasK_delf (hc : KO c) {f : α → ι} {l : List α} (h : srtK c key l) {k : κ} (hk : hasK key l k) {i : ι} : hasK f (delK c key l k) i ↔ ∃ y ∈ l, key y ≠ k ∧ f y = i := by
 unfold hasK
 constructor
 ·rintro ⟨y, hy, e⟩
  obtain ⟨h1, h2⟩ := (mem_delK hc h hk).1 hy
  exact ⟨y, h1, h2, e⟩
 ·rintro ⟨y, hy, h2, e⟩
  exact ⟨y, (mem_delK hc h hk).2 ⟨hy, h2⟩, e⟩
theorem nodup_inj {β : Type} {f : α → β} : ∀ {l : List α}, l.Nodup → ((l.map f).Nodup ↔ ∀ x ∈ l, ∀ y ∈ l, f x = f y → x = y)
 | [], _ => by simp
 | a :: l, h => by
  obtain ⟨h1, h2⟩ := List.nodup_cons.1 h
  rw [List.map_cons, List.nodup_cons, nodup_inj h2]
  constructor
  ·rintro ⟨h3, h4⟩ x hx y hy e
   rcases List.mem_cons.1 hx with hx1 | hx1 <;> rcases List.mem_cons.1 hy with hy1 | hy1
   ·rw [hx1, hy1]
   ·rw [hx1] at e; exact absurd (List.mem_map.2 ⟨y, hy1, e.symm⟩) h3
   ·rw [hy1] at e; exact absurd (List.mem_map.2 ⟨x, hx1, e⟩) h3
   ·exact h4 x hx1 y hy1 e
  ·intro h3
   refine ⟨fun hm => ?_, fun x hx y hy => h3 x (by simp [hx]) y (by simp [hy])⟩
   obtain ⟨y, hy, e⟩ := List.mem_map.1 hm
   have := h3 y (by simp [hy]) a (by simp) e
   exact h1 (this ▸ hy)
theorem srtK_nodup (hc : KO c) {l : List α} (h : srtK c key l) : l.Nodup := by
 refine List.Pairwise.imp ?_ h
 rintro a b hab rfl
 exact hc.irr _ hab
end
structure MayW (ns : List Nm) (ds : List Nd) : Prop where
 len : ns.length ≤ 16
 nm : ∀ x ∈ ns, mayN x.name ∧ 1 ≤ x.ino ∧ x.ino ≤ 4611686018427387904
 srt : srtK cmpN Nm.name ns
 inj : ∀ x ∈ ns, ∀ y ∈ ns, x.ino = y.ino → x = y
 sd : srtK cmpI Nd.ino ds
 mc : ∀ d ∈ ds, mayC d.size d.l
 ino : ∀ i, hasK Nd.ino ds i ↔ hasK Nm.ino ns i
theorem inos_nodup {ds : List Nd} (h : srtK cmpI Nd.ino ds) : (ds.map Nd.ino).Nodup := by
 rw [List.Nodup, List.pairwise_map]
 exact h.imp fun h => by rw [cmpI_lt] at h; omega
theorem mayI_w {ns : List Nm} {ds : List Nd} : mayI ns ds ↔ MayW ns ds := by
 constructor
 ·intro h
  have h2 := mayI_doc.1 h
  obtain ⟨h21, h22, ⟨h23, h24, h25⟩, h26, h27, h28⟩ := h2
  refine ⟨h21, h23, h24, (nodup_inj (srtK_nodup koN h24)).1 h25, h26, h28, fun i => ⟨?_, ?_⟩⟩
  ·rintro ⟨d, hd, rfl⟩
   exact (h.2.2.2 d hd).1
  ·rintro ⟨x, hx, rfl⟩
   exact h27 x hx
 ·intro h
  refine ⟨⟨h.len, h.nm, h.srt, (nodup_inj (srtK_nodup koN h.srt)).2 h.inj⟩, ?_, h.sd, fun d hd => ⟨(h.ino d.ino).1 ⟨d, hd, rfl⟩, h.mc d hd⟩⟩
  have hp := (List.perm_ext_iff_of_nodup (inos_nodup h.sd) ((nodup_inj (srtK_nodup koN h.srt)).2 h.inj)).2 fun i => by
   have := h.ino i
   unfold hasK at this
   simpa [List.mem_map] using this
  have := hp.length_eq
  simpa using this
theorem nameI_mem {ns : List Nm} (hs : srtK cmpN Nm.name ns) {x : Nm} (hx : x ∈ ns) : nameI ns x.name = x.ino := by
 unfold nameI
 rw [atK_eq koN hs hx]
theorem nameI_no {ns : List Nm} {s : List UInt8} (h : ¬ hasK Nm.name ns s) : nameI ns s = 0 := by
 unfold nameI
 rw [atK_none h]
theorem MayW.rem {ns : List Nm} {ds : List Nd} {s : List UInt8} (h : MayW ns ds) (hk : hasK Nm.name ns s) : MayW (delK cmpN Nm.name ns s) (delK cmpI Nd.ino ds (nameI ns s)) := by
 obtain ⟨x, hx, rfl⟩ := hk
 have hk : hasK Nm.name ns x.name := ⟨x, hx, rfl⟩
 rw [nameI_mem h.srt hx]
 have hd : hasK Nd.ino ds x.ino := (h.ino _).2 ⟨x, hx, rfl⟩
 have sub : ∀ y, y ∈ delK cmpN Nm.name ns x.name → y ∈ ns := fun y hy => delK_sub.subset hy
 have hl := delK_len (hasK_pos koN h.srt hk)
 have := h.len
 refine ⟨by omega, fun y hy => h.nm y (sub y hy), zqbZ h.srt, fun y hy z hz => h.inj y (sub y hy) z (sub z hz), zqbZ h.sd, fun d hd => h.mc d (delK_sub.subset hd), fun i => ?_⟩
 rw [hasK_delf koI h.sd hd, hasK_delf koN h.srt hk]
 constructor
 ·rintro ⟨d, hd1, hd2, rfl⟩
  obtain ⟨y, hy, e⟩ := (h.ino d.ino).1 ⟨d, hd1, rfl⟩
  exact ⟨y, hy, fun e2 => hd2 (by rw [← e, srtK_uniq koN h.srt hy hx e2]), e⟩
 ·rintro ⟨y, hy, hne, rfl⟩
  obtain ⟨d, hd1, e⟩ := (h.ino y.ino).2 ⟨y, hy, rfl⟩
  exact ⟨d, hd1, fun e2 => hne (by rw [h.inj y hy x hx (by rw [← e, e2])]), e⟩
theorem MayW.ren {ns : List Nm} {ds : List Nd} {s t : List UInt8} (h : MayW ns ds) (hk : hasK Nm.name ns s) (ht : ¬ hasK Nm.name ns t) (hm : mayN t) : MayW (insK cmpN Nm.name (delK cmpN Nm.name ns s) ⟨t, nameI ns s⟩) ds := by
 obtain ⟨x, hx, rfl⟩ := hk
 have hk : hasK Nm.name ns x.name := ⟨x, hx, rfl⟩
 rw [nameI_mem h.srt hx]
 have mem : ∀ y, y ∈ insK cmpN Nm.name (delK cmpN Nm.name ns x.name) ⟨t, x.ino⟩ ↔ y = ⟨t, x.ino⟩ ∨ (y ∈ ns ∧ y.name ≠ x.name) := fun y => by rw [zoxZ, mem_delK koN h.srt hk]
 have hl := delK_len (hasK_pos koN h.srt hk)
 have := h.len
 refine ⟨by rw [insK_len]; omega, ?_, srtK_ins koN (zqbZ h.srt) (fun hh => ht ?_), ?_, h.sd, h.mc, fun i => ?_⟩
 ·intro y hy
  rcases (mem y).1 hy with rfl | ⟨hy, -⟩
  ·exact ⟨hm, (h.nm x hx).2⟩
  ·exact h.nm y hy
 ·obtain ⟨y, hy, e⟩ := hh
  exact ⟨y, delK_sub.subset hy, e⟩
 ·intro y hy z hz e
  rcases (mem y).1 hy with rfl | ⟨hy, hny⟩ <;> rcases (mem z).1 hz with rfl | ⟨hz, hnz⟩
  ·rfl
  ·exact absurd (by rw [h.inj x hx z hz e]) hnz
  ·exact absurd (by rw [h.inj y hy x hx e]) hny
  ·exact h.inj y hy z hz e
 ·rw [h.ino i, hasK_ins, hasK_delf koN h.srt hk]
  constructor
  ·rintro ⟨y, hy, rfl⟩
   by_cases c : y.name = x.name
   ·exact .inl (by rw [srtK_uniq koN h.srt hy hx c])
   ·exact .inr ⟨y, hy, c, rfl⟩
  ·rintro (rfl | ⟨y, hy, -, rfl⟩)
   ·exact ⟨x, hx, rfl⟩
   ·exact ⟨y, hy, rfl⟩
theorem mayC_nil : mayC 0 [] := by decide
theorem MayW.cre {ns : List Nm} {ds : List Nd} {o : OpM} (h : MayW ns ds) (hc : creI ns ds o) : MayW (insK cmpN Nm.name ns ⟨o.name, o.ino⟩) (insK cmpI Nd.ino ds ⟨o.ino, 0, []⟩) := by
 obtain ⟨h1, h2, h3, h4, h5, h6⟩ := hc
 have hn : ¬ hasK Nm.ino ns o.ino := fun hh => h2 ((h.ino _).2 hh)
 refine ⟨by rw [insK_len]; omega, ?_, srtK_ins koN h.srt h1, ?_, srtK_ins koI h.sd h2, ?_, fun i => by rw [hasK_ins, hasK_ins, h.ino]⟩
 ·intro y hy
  rcases zoxZ.1 hy with rfl | hy
  ·exact ⟨h3, h4, h5⟩
  ·exact h.nm y hy
 ·intro y hy z hz e
  rcases zoxZ.1 hy with rfl | hy <;> rcases zoxZ.1 hz with rfl | hz
  ·rfl
  ·exact absurd ⟨z, hz, e.symm⟩ hn
  ·exact absurd ⟨y, hy, e⟩ hn
  ·exact h.inj y hy z hz e
 ·intro d hd
  rcases zoxZ.1 hd with rfl | hd
  ·exact mayC_nil
  ·exact h.mc d hd
/-! contents -/
theorem chgC_may {o : OpM} {d : Nd} {c : Cont} (hk : o.kind = 2 ∨ o.kind = 3 ∨ o.kind = 4 ∨ o.kind = 5) (h : chgC o d = some c) : mayC c.1 c.2 := by
 unfold chgC at h
 split at h
 ·exact may_write h
 ·split at h
  ·exact may_trunc h
  ·split at h
   ·exact may_alloc h
   ·split at h
    ·exact may_punch h
    ·omega
theorem chgD_inos {ds : List Nd} {o : OpM} (hs : srtK cmpI Nd.ino ds) : (chgD ds o).map Nd.ino = ds.map Nd.ino := by
 unfold chgD
 split
 ·rename_i d hd
  split
  ·rename_i c hc
   have hk : hasK Nd.ino ds o.ino := ⟨d, List.mem_of_find?_eq_some hd, by simpa using List.find?_some hd⟩
   obtain ⟨y, h1, h2, h3⟩ := posK_atK koI hs hk
   have e : y = d := by rw [hd] at h2; injection h2 with h2; exact h2.symm
   rw [List.map_set, ← e]
   apply List.ext_getElem?
   intro j
   rw [List.getElem?_set]
   split
   ·rename_i hj
    subst hj
    split
    ·rw [List.getElem?_map, h1]; rfl
    ·rename_i hl
     rw [List.getElem?_map, h1] 
     have := (List.getElem?_eq_some_iff.1 h1).1
     simp at hl; omega
   ·rfl
  ·rfl
 ·rfl
theorem srt_inos {ds es : List Nd} (e : ds.map Nd.ino = es.map Nd.ino) (h : srtK cmpI Nd.ino es) : srtK cmpI Nd.ino ds := by
 unfold srtK at h ⊢
 have h1 : (es.map Nd.ino).Pairwise fun a b => cmpI a b < 0 := List.pairwise_map.2 h
 rw [← e] at h1
 exact List.pairwise_map.1 h1
theorem has_inos {ds es : List Nd} (e : ds.map Nd.ino = es.map Nd.ino) (i : Int) : hasK Nd.ino ds i ↔ hasK Nd.ino es i := by
 have a : ∀ l : List Nd, hasK Nd.ino l i ↔ i ∈ l.map Nd.ino := fun l => by unfold hasK; simp [List.mem_map]
 rw [a, a, e]
theorem mem_chgD {ds : List Nd} {o : OpM} (hs : srtK cmpI Nd.ino ds) {d : Nd} (h : d ∈ chgD ds o) : d ∈ ds ∨ (d.ino = o.ino ∧ ∃ e ∈ ds, e.ino = o.ino ∧ chgC o e = some (d.size, d.l)) := by
 unfold chgD at h
 split at h
 ·rename_i e he
  split at h
  ·rename_i c hc
   have e1 := List.mem_of_find?_eq_some he
   have e2 : e.ino = o.ino := by simpa using List.find?_some he
   rcases List.mem_or_eq_of_mem_set h with h | h
   ·exact .inl h
   ·exact .inr ⟨by rw [h]; exact e2, e, e1, e2, by rw [h]; exact hc⟩
  ·exact .inl h
 ·exact .inl h
theorem mem_chgD_ne {ds : List Nd} {o : OpM} (hs : srtK cmpI Nd.ino ds) {d : Nd} (hn : d.ino ≠ o.ino) : d ∈ chgD ds o ↔ d ∈ ds := by
 constructor
 ·intro h
  rcases mem_chgD hs h with h | ⟨h, -⟩
  ·exact h
  ·exact absurd h hn
 ·intro h
  have hi := chgD_inos (o := o) hs
  obtain ⟨d2, h2, e2⟩ : hasK Nd.ino (chgD ds o) d.ino := (has_inos hi d.ino).2 ⟨d, h, rfl⟩
  rcases mem_chgD hs h2 with h3 | ⟨h3, -⟩
  ·rw [← srtK_uniq koI hs h3 h e2]; exact h2
  ·exact absurd (e2 ▸ h3) hn
theorem MayW.chg {ns : List Nm} {ds : List Nd} {o : OpM} (h : MayW ns ds) (hk : o.kind = 2 ∨ o.kind = 3 ∨ o.kind = 4 ∨ o.kind = 5) : MayW ns (chgD ds o) := by
 have hi := chgD_inos (o := o) h.sd
 refine ⟨h.len, h.nm, h.srt, h.inj, srt_inos hi h.sd, fun d hd => ?_, fun i => by rw [has_inos hi, h.ino]⟩
 rcases mem_chgD h.sd hd with hd | ⟨-, e, -, -, he⟩
 ·exact h.mc d hd
 ·exact chgC_may hk he
theorem ren_eq {ns : List Nm} {ds : List Nd} {s t : List UInt8} (h : MayW ns ds) (hk : hasK Nm.name ns s) (hne : s ≠ t) :
  (insK cmpN Nm.name (remNs (delK cmpN Nm.name ns s) t) ⟨t, nameI ns s⟩, remD (delK cmpN Nm.name ns s) ds t) = (insK cmpN Nm.name (delK cmpN Nm.name (remNs ns t) s) ⟨t, nameI (remNs ns t) s⟩, remD ns ds t) := by
 unfold remNs remD
 by_cases c : hasK Nm.name ns t
 ·have c1 : hasK Nm.name (delK cmpN Nm.name ns s) t := (hasK_del koN h.srt hk (Ne.symm hne)).2 c
  rw [if_pos c1, if_pos c, if_pos c1, if_pos c, delK_comm koN h.srt hk c hne, nameI_del h.srt hk c (Ne.symm hne), nameI_del h.srt c hk hne]
 ·have c1 : ¬ hasK Nm.name (delK cmpN Nm.name ns s) t := fun hh => c ((hasK_del koN h.srt hk (Ne.symm hne)).1 hh)
  rw [if_neg c1, if_neg c, if_neg c1, if_neg c]
theorem MayW.remN {ns : List Nm} {ds : List Nd} (h : MayW ns ds) (t : List UInt8) : MayW (remNs ns t) (remD ns ds t) ∧ ¬ hasK Nm.name (remNs ns t) t := by
 unfold remNs remD
 by_cases c : hasK Nm.name ns t
 ·rw [if_pos c, if_pos c]
  refine ⟨h.rem c, ?_⟩
  rintro ⟨y, hy, e⟩
  exact ((mem_delK koN h.srt c).1 hy).2 e
 ·rw [if_neg c, if_neg c]; exact ⟨h, c⟩
theorem has_remN {ns : List Nm} (hs : srtK cmpN Nm.name ns) {s t : List UInt8} (hne : s ≠ t) : hasK Nm.name (remNs ns t) s ↔ hasK Nm.name ns s := by
 unfold remNs
 split
 ·rename_i c; exact hasK_del koN hs c hne
 ·rfl
theorem applyI_w {ns : List Nm} {ds : List Nd} (h : MayW ns ds) (o : OpM) : MayW (applyI ns ds o).1 (applyI ns ds o).2 := by
 unfold applyI
 rw [if_pos (mayI_w.2 h)]
 split
 ·split
  ·rename_i hc; exact h.cre hc
  ·exact h
 ·split
  ·rename_i hk; exact h.chg hk
  ·split
   ·split
    ·rename_i hr
     obtain ⟨h1, h2, h3⟩ := hr
     rw [ren_eq h h1 h3]
     obtain ⟨g1, g2⟩ := h.remN o.to
     exact g1.ren ((has_remN h.srt h3).2 h1) g2 h2
    ·exact h
   ·split
    ·exact (h.remN o.name).1
    ·exact h
theorem allI_w {ns : List Nm} {ds : List Nd} (h : MayW ns ds) : ∀ (l : List OpM), MayW (allI ns ds l).1 (allI ns ds l).2 := by
 intro l
 induction l generalizing ns ds with
 | nil => exact h
 | cons o l ih => exact ih (applyI_w h o)
/-! what is found -/
theorem findI_w {ns : List Nm} {ds : List Nd} (h : MayW ns ds) (s : List UInt8) : findI ns ds s = nameI ns s ∧ (hasI ns ds s ↔ hasK Nm.name ns s) := by
 have hm := mayI_w.2 h
 have hi : hasI ns ds s ↔ hasK Nm.name ns s := ⟨fun hh => hh.2, fun hh => ⟨hm, hh⟩⟩
 refine ⟨?_, hi⟩
 unfold findI
 by_cases c : hasI ns ds s
 ·rw [if_pos c]
 ·rw [if_neg c, nameI_no (fun hh => c (hi.2 hh))]
theorem getN_w {ns : List Nm} {ds : List Nd} (h : MayW ns ds) {d : Nd} (hd : d ∈ ds) : getN ns ds d.ino = d ∧ hasG ns ds d.ino := by
 have hg : hasG ns ds d.ino := ⟨mayI_w.2 h, d, hd, rfl⟩
 refine ⟨?_, hg⟩
 unfold getN
 rw [if_pos hg, atK_eq koI h.sd hd]; rfl
theorem getN_no {ns : List Nm} {ds : List Nd} {i : Int} (h : ¬ hasK Nd.ino ds i) : getN ns ds i = ⟨0, 0, []⟩ ∧ ¬ hasG ns ds i := by
 have hg : ¬ hasG ns ds i := fun g => h g.2
 refine ⟨?_, hg⟩
 unfold getN
 rw [if_neg hg]
theorem usedI_w {ns : List Nm} {ds : List Nd} (h : MayW ns ds) : usedI ns ds = sumL ds := by unfold usedI; rw [if_pos (mayI_w.2 h)]
theorem sumL_ins {ds : List Nd} {d : Nd} : sumL (insK cmpI Nd.ino ds d) = sumL ds + d.l.length := by
 unfold sumL insK
 have := List.take_append_drop (posK cmpI Nd.ino ds d.ino) ds
 conv => rhs; rw [← this]
 simp only [List.map_append, List.map_cons, List.sum_append, List.sum_cons]
 omega
theorem sumL_del {ds : List Nd} (hs : srtK cmpI Nd.ino ds) {d : Nd} (hd : d ∈ ds) : sumL (delK cmpI Nd.ino ds d.ino) + d.l.length = sumL ds := by
 obtain ⟨m, hm⟩ := List.mem_iff_getElem?.1 hd
 have hp := posK_at koI hs hm
 unfold sumL delK
 rw [hp]
 have := List.take_append_drop m ds
 conv => rhs; rw [← this, drop_cons hm]
 simp only [List.map_append, List.map_cons, List.sum_append, List.sum_cons]
 omega
end Go.Proofs.Ytpnfdibgfichmaa.Av
end
/-! YtpnfdibgfichmaaAvLb -/
section
/- Images, made of small numbers: they may be. -/
set_option linter.unusedVariables false
set_option linter.unusedSimpArgs false
set_option maxRecDepth 100000
namespace Go.Proofs.Ytpnfdibgfichmaa.Av
open Go Go.RowKit

theorem cleanB_of {size : Int} : ∀ {l : List UInt8} {p : Int}, (∀ (k : Nat) y, l[k]? = some y → y ≠ 0 → p + k < size) → cleanB size p l
 | [], _, _ => trivial
 | b :: r, p, h => by
  refine ⟨fun hb => by have := h 0 b rfl hb; simpa using this, cleanB_of fun k y hy h0 => ?_⟩
  have := h (k + 1) y hy h0
  omega
theorem clean_exK {sz no : Nat} {s : UInt8} : cleanE sz (exK sz no s) := by
 refine cleanB_of fun k y hy h0 => ?_
 have hk : k < 8 := by have := (List.getElem?_eq_some_iff.1 hy).1; rw [(exK sz no s).hb] at this; exact this
 have e : (exK sz no s).b = blkB sz no s 8 := rfl
 rw [e] at hy
 unfold blkB at hy
 rw [List.getElem?_map, List.getElem?_range hk] at hy
 simp only [Option.map_some, Option.some.injEq] at hy
 by_cases c : k < 8 ∧ no * 8 + k < sz
 ·show ((no : Int)) * 8 + k < sz
  omega
 ·rw [if_neg c] at hy; exact absurd hy.symm h0
theorem okL_contK {sz : Nat} : ∀ {l : List Bk} {p : Nat} {q : Int}, q < p → p + 3 * l.length ≤ 1000 → okL sz q (contK sz l p)
 | [], _, _, _, _ => trivial
 | x :: r, p, q, h, hl => by
  have := Nat.mod_lt x.1.toNat (show 3 > 0 by omega)
  simp only [List.length_cons] at hl
  have e : (exK sz (p + x.1.toNat % 3) x.2).no = ((p + x.1.toNat % 3 : Nat) : Int) := rfl
  refine ⟨by rw [e]; omega, by rw [e]; omega, clean_exK, okL_contK (by rw [e]; omega) (by omega)⟩
theorem nodeK_may (ino : Int) (x : IxV) : mayC (nodeK ino x).nd.size (nodeK ino x).nd.l := by
 have h : x.size % 500 < 500 := Nat.mod_lt _ (by omega)
 show mayC ((x.size % 500 : Nat) : Int) (contK (x.size % 500) (x.l.take 30) 0)
 refine ⟨by omega, by omega, okL_contK (by omega) ?_⟩
 have : (x.l.take 30).length ≤ 30 := by rw [List.length_take]; omega
 omega
theorem nodeK_len (ino : Int) (x : IxV) : (nodeK ino x).nd.l.length ≤ 30 := by
 show (contK (x.size % 500) (x.l.take 30) 0).length ≤ 30
 rw [contK_len, List.length_take]; omega
theorem rightT_lt : ∀ b, b < 6 → ∀ a, a < b → cmpN (rightT.getD a []) (rightT.getD b []) < 0 := by decide
theorem rightT_may : ∀ a, a < 6 → mayN (rightT.getD a []) := by decide
theorem rightT_len : ∀ a, a < 6 → (rightT.getD a []).length ≤ 3 := by decide
theorem img_inv (l : List IxV) : ∀ k, k ≤ 6 → (∀ x ∈ nmK l k, ∃ j, j < k ∧ x = ⟨rightT.getD j [], 10 - (j : Int)⟩) ∧ srtK cmpN Nm.name (nmK l k) ∧ (∀ d ∈ ndK l k, (∃ j : Nat, j < k ∧ d.nd.ino = 10 - (j : Int)) ∧ mayC d.nd.size d.nd.l ∧ d.nd.l.length ≤ 30) ∧ srtK cmpI NdV.ino (ndK l k) ∧ ∀ i, hasK NdV.ino (ndK l k) i ↔ hasK Nm.ino (nmK l k) i
 | 0, _ => ⟨by simp [nmK], by simp [nmK, srtK], by simp [ndK], by simp [ndK, srtK], fun i => by simp [nmK, ndK, hasK]⟩
 | k + 1, h6 => by
  obtain ⟨h1, h2, h3, h4, h5⟩ := img_inv l k (by omega)
  cases hp : pickK l k with
  | none =>
   have e1 : nmK l (k + 1) = nmK l k := by rw [nmK]; simp [hp]
   have e2 : ndK l (k + 1) = ndK l k := by rw [ndK]; simp [hp]
   rw [e1, e2]
   exact ⟨fun x hx => by obtain ⟨j, hj, e⟩ := h1 x hx; exact ⟨j, by omega, e⟩, h2, fun d hd => by obtain ⟨⟨j, hj, e⟩, h⟩ := h3 d hd; exact ⟨⟨j, by omega, e⟩, h⟩, h4, h5⟩
  | some x =>
   have e1 : nmK l (k + 1) = nmK l k ++ [⟨rightT.getD k [], 10 - (k : Int)⟩] := by rw [nmK]; simp [hp]
   have e2 : ndK l (k + 1) = nodeK (10 - (k : Int)) x :: ndK l k := by rw [ndK]; simp [hp]
   rw [e1, e2]
   refine ⟨?_, ?_, ?_, ?_, ?_⟩
   ·intro y hy
    rcases List.mem_append.1 hy with hy | hy
    ·obtain ⟨j, hj, e⟩ := h1 y hy; exact ⟨j, by omega, e⟩
    ·rw [List.mem_singleton] at hy; exact ⟨k, by omega, hy⟩
   ·refine List.pairwise_append.2 ⟨h2, List.pairwise_singleton _ _, fun a ha b hb => ?_⟩
    rw [List.mem_singleton] at hb
    obtain ⟨j, hj, rfl⟩ := h1 a ha
    rw [hb]
    exact rightT_lt k (by omega) j hj
   ·intro d hd
    rcases List.mem_cons.1 hd with rfl | hd
    ·exact ⟨⟨k, by omega, rfl⟩, nodeK_may _ _, nodeK_len _ _⟩
    ·obtain ⟨⟨j, hj, e⟩, h⟩ := h3 d hd; exact ⟨⟨j, by omega, e⟩, h⟩
   ·refine List.pairwise_cons.2 ⟨fun d hd => ?_, h4⟩
    obtain ⟨⟨j, hj, e⟩, -⟩ := h3 d hd
    rw [cmpI_lt]
    show (10 - (k : Int)) < d.nd.ino
    omega
   ·intro i
    have a1 : hasK NdV.ino (nodeK (10 - (k : Int)) x :: ndK l k) i ↔ (10 - (k : Int) = i ∨ hasK NdV.ino (ndK l k) i) := by
     unfold hasK
     simp only [List.mem_cons, exists_eq_or_imp]
     exact Iff.rfl
    have a2 : hasK Nm.ino (nmK l k ++ [⟨rightT.getD k [], 10 - (k : Int)⟩]) i ↔ (10 - (k : Int) = i ∨ hasK Nm.ino (nmK l k) i) := by
     unfold hasK
     simp only [List.mem_append, List.mem_singleton, or_and_right, exists_or, exists_eq_left]
     exact or_comm
    rw [a1, a2, h5]
abbrev imN (l : List IxV) : List Nm := nmK l 6
noncomputable abbrev imD (l : List IxV) : List Nd := (ndK l 6).map NdV.nd
theorem img_w (l : List IxV) : MayW (imN l) (imD l) := by
 obtain ⟨h1, h2, h3, h4, h5⟩ := img_inv l 6 (by omega)
 have hl := (nmK_len (l := l) 6).1
 refine ⟨Nat.le_trans hl (by omega), ?_, h2, ?_, srtK_map.2 h4, ?_, fun i => by rw [hasK_map, h5]⟩
 ·intro x hx
  obtain ⟨j, hj, rfl⟩ := h1 x hx
  exact ⟨rightT_may j hj, by simp only; omega, by simp only; omega⟩
 ·intro x hx y hy e
  obtain ⟨j, hj, rfl⟩ := h1 x hx
  obtain ⟨i, hi, rfl⟩ := h1 y hy
  simp only at e
  have : i = j := by omega
  rw [this]
 ·intro d hd
  obtain ⟨d', hd', rfl⟩ := List.mem_map.1 hd
  exact (h3 d' hd').2.1
theorem img_fit (l : List IxV) : Fit 0 (imN l) (imD l) := by
 obtain ⟨h1, h2, h3, h4, h5⟩ := img_inv l 6 (by omega)
 obtain ⟨hl, hl2⟩ := nmK_len (l := l) 6
 refine ⟨Nat.le_trans hl (by omega), by rw [List.length_map]; omega, ?_, ?_⟩
 ·intro x hx
  obtain ⟨j, hj, rfl⟩ := h1 x hx
  have := rightT_len j hj
  simp only; omega
 ·intro d hd
  obtain ⟨d', hd', rfl⟩ := List.mem_map.1 hd
  have := (h3 d' hd').2.2
  omega
theorem img_ino (l : List IxV) : (imN l).length ≤ 6 ∧ ∀ i, hasK Nd.ino (imD l) i → 5 ≤ i ∧ i ≤ 10 := by
 obtain ⟨h1, h2, h3, h4, h5⟩ := img_inv l 6 (by omega)
 refine ⟨(nmK_len (l := l) 6).1, fun i hi => ?_⟩
 rw [hasK_map] at hi
 obtain ⟨d, hd, rfl⟩ := hi
 obtain ⟨⟨j, hj, e⟩, -⟩ := h3 d hd
 show 5 ≤ d.nd.ino ∧ d.nd.ino ≤ 10
 omega
theorem img_v (l : List IxV) : ImV (imN l) (imD l) (imgR l) := ⟨_, _, ndK l 6, rfl, slR_sv zejZ (fun x _ => zugZ x), slR_sv zehZ (fun x _ => zpcZ x), rfl⟩
end Go.Proofs.Ytpnfdibgfichmaa.Av
end
/-! YtpnfdibgfichmaaAvKo -/
section
/- Chapter 12's changes, made of small numbers. -/
set_option linter.unusedVariables false
set_option linter.unusedSimpArgs false
set_option maxRecDepth 100000
namespace Go.Proofs.Ytpnfdibgfichmaa.Av
open Go Go.RowKit

structure OpX where
 kind : UInt8
 name : UInt8
 to : UInt8
 ino : UInt8
 pos : Nat
 n : Nat
 keep : Bool
def opX (x : OpX) : List AV := [.lit (.int .u8 x.kind.toNat), .lit (.int .u8 x.name.toNat), .lit (.int .u8 x.to.toNat), .lit (.int .u8 x.ino.toNat), .lit (.int .u16 x.pos), .lit (.int .u16 x.n), B x.keep]
def opK (x : OpX) : OpM := ⟨(x.kind.toNat % 9 : Nat), (x.ino.toNat % 14 : Nat), (x.pos % 200 : Nat), (x.n % 200 : Nat), x.keep, nameK x.name, nameK x.to, bytesK x.ino.toNat (x.n % 40)⟩
theorem Op_p (x : OpX) : ∃ bv, SV encU 1 (opK x).b bv ∧ BPure Try.prog 21 [.agg (opX x)] (.agg (opA (opK x) bv)) := by
 have h40 : x.n % 40 < 40 := Nat.mod_lt _ (by omega)
 obtain ⟨R, hR, hp⟩ := Bytes_p x.ino (n := x.n % 40) (by omega)
 have oR := SV.oneA hR
 refine ⟨R, hR, BPure.val rfl (by simp [noIds, noIdss, opA, hR.1]) (salvorlaw12_Op_op_ok ?_)⟩
 unfold zofZ
 have h1 : x.kind.toNat < 256 := x.kind.toNat_lt
 have h2 : x.ino.toNat < 256 := x.ino.toNat_lt
 have r : ∀ (k : IntKind) (a b : Nat), 0 < b → abI .rem (.lit (.int k a)) (.lit (.int k b)) = some (.lit (.int k ((a % b : Nat) : Int))) := by
  intro k a b hb
  rw [abI_rem (by omega) (by omega)]
  congr 3
 have c : ∀ (k : IntKind) (a : Nat), a < 300 → acI .i64 (.lit (.int k a)) = some (I a) := fun k a ha => acI_i64 (by omega) (by omega)
 have e1 : abI .rem (.lit (.int .u8 x.kind.toNat)) (.lit (.int .u8 9)) = some (.lit (.int .u8 ((x.kind.toNat % 9 : Nat) : Int))) := r .u8 x.kind.toNat 9 (by omega)
 have e2 := c .u8 (x.kind.toNat % 9) (by have := Nat.mod_lt x.kind.toNat (show 9 > 0 by omega); omega)
 have e3 : abI .rem (.lit (.int .u8 x.ino.toNat)) (.lit (.int .u8 14)) = some (.lit (.int .u8 ((x.ino.toNat % 14 : Nat) : Int))) := r .u8 x.ino.toNat 14 (by omega)
 have e4 := c .u8 (x.ino.toNat % 14) (by have := Nat.mod_lt x.ino.toNat (show 14 > 0 by omega); omega)
 have e5 : abI .rem (.lit (.int .u16 x.pos)) (.lit (.int .u16 200)) = some (.lit (.int .u16 ((x.pos % 200 : Nat) : Int))) := r .u16 x.pos 200 (by omega)
 have e6 := c .u16 (x.pos % 200) (by have := Nat.mod_lt x.pos (show 200 > 0 by omega); omega)
 have e7 : abI .rem (.lit (.int .u16 x.n)) (.lit (.int .u16 200)) = some (.lit (.int .u16 ((x.n % 200 : Nat) : Int))) := r .u16 x.n 200 (by omega)
 have e8 := c .u16 (x.n % 200) (by have := Nat.mod_lt x.n (show 200 > 0 by omega); omega)
 have e9 : abI .rem (.lit (.int .u16 x.n)) (.lit (.int .u16 40)) = some (.lit (.int .u16 ((x.n % 40 : Nat) : Int))) := r .u16 x.n 40 (by omega)
 have e10 := c .u16 (x.n % 40) (by omega)
 have a1 : anew [] (.agg (opX x)) = some (.ptr 0 0, [some (.cells (opX x))]) := by simp [opX]
 have a2 : anew [some (.cells (opX x))] (.agg [I 0, I 0, I 0, I 0, B false, S ⟨#[]⟩, S ⟨#[]⟩, nilSl]) = some (.ptr 1 0, [some (.cells (opX x)), some (.cells [I 0, I 0, I 0, I 0, B false, S ⟨#[]⟩, S ⟨#[]⟩, nilSl])]) := by simp
 have ld : ∀ j, ald false 1 [some (.cells (opX x)), some (.cells [I 0, I 0, I 0, I 0, B false, S ⟨#[]⟩, S ⟨#[]⟩, nilSl])] (.ptr 0 j) = (opX x)[j]? := by
  intro j
  rw [ald_ptr (cs := opX x) rfl, zbcZ]
 have sh : ∀ j o, ashift j (.ptr o 0) = some (.ptr o j) := fun j o => by simp [ashift]
 have g0 : (opX x)[0]? = some (.lit (.int .u8 x.kind.toNat)) := rfl
 have g1 : (opX x)[1]? = some (.lit (.int .u8 x.name.toNat)) := rfl
 have g2 : (opX x)[2]? = some (.lit (.int .u8 x.to.toNat)) := rfl
 have g3 : (opX x)[3]? = some (.lit (.int .u8 x.ino.toNat)) := rfl
 have g4 : (opX x)[4]? = some (.lit (.int .u16 x.pos)) := rfl
 have g5 : (opX x)[5]? = some (.lit (.int .u16 x.n)) := rfl
 have g6 : (opX x)[6]? = some (B x.keep) := rfl
 simp only [a1, bH_some, a2, sh, bO_some, ld, g0, g1, e1, e2]
 refine bP_of (Name_p x.name) ?_
 simp only [bO_some, ld, g2]
 refine bP_of (Name_p x.to) ?_
 simp only [bO_some, ld, g3, e3, e4, g4, e5, e6, g5, e7, e8, g6, e9, e10]
 refine bP_of hp ?_
 have b1 : abl [(.lit (.int .i64 0)), (.lit (.int .i64 0)), (.lit (.int .i64 0)), (.lit (.int .i64 0)), (.lit (.bool false)), (.lit (.string ⟨#[]⟩)), (.lit (.string ⟨#[]⟩)), (.lit (.slice none 0 0))] [(0, 1, I ((x.kind.toNat % 9 : Nat) : Int)), (5, 1, S (bstr (nameK x.name))), (6, 1, S (bstr (nameK x.to))), (1, 1, I ((x.ino.toNat % 14 : Nat) : Int)), (2, 1, I ((x.pos % 200 : Nat) : Int)), (3, 1, I ((x.n % 200 : Nat) : Int)), (4, 1, B x.keep), (7, 1, R)] = some (.agg (opA (opK x) R)) := by
  simp [zbhZ oR, opA, opK]
 rw [b1]
 have b2 : ast 8 [some (.cells (opX x)), some (.cells [I 0, I 0, I 0, I 0, B false, S ⟨#[]⟩, S ⟨#[]⟩, nilSl])] (.ptr 1 0) (.agg (opA (opK x) R)) = some [some (.cells (opX x)), some (.cells (opA (opK x) R))] := by
  rw [ast_ptr (n := 8) (off := 0) (xs := opA (opK x) R) (by simp [opA, oR]) rfl rfl (by simp)]
  simp [splice, opA]
 simp only [bO_some, b2, bS_some]
 rfl
end Go.Proofs.Ytpnfdibgfichmaa.Av
end
/-! YtpnfdibgfichmaaAvLc -/
section
/- Rows of small numbers that are handed, and changes of small numbers. -/
set_option linter.unusedVariables false
set_option linter.unusedSimpArgs false
set_option maxRecDepth 100000
namespace Go.Proofs.Ytpnfdibgfichmaa.Av
open Go Go.RowKit

abbrev XB := UInt8 × (UInt8 × Unit)
abbrev XR := UInt8 × (Int × (Sl XB × Unit))
def xbEnc (x : XB) : List AV := [AV.lit (.int .u8 x.1.toNat)] ++ ([AV.lit (.int .u8 x.2.1.toNat)] ++ [])
def slB (s : Sl XB) : AV := if s.nil then .lit (.slice none 0 0) else .imm (s.l.flatMap xbEnc) s.l.length 2
def xrEnc (x : XR) : List AV := [AV.lit (.int .u8 x.1.toNat)] ++ ([AV.lit (.int .u16 x.2.1)] ++ ([slB x.2.2.1] ++ []))
theorem blks_sv (s : Sl XB) (h : s.nil = true → s.l = []) : ∃ l : List Bk, SV encBk 2 l (slB s) := by
 obtain ⟨l, nil⟩ := s
 unfold slB
 simp only at h ⊢
 cases nil with
 | true => exact ⟨[], SV.nil⟩
 | false =>
  refine ⟨l.map fun x => (x.1, x.2.1), ?_⟩
  have e : l.flatMap xbEnc = (l.map fun x : XB => ((x.1, x.2.1) : Bk)).flatMap encBk := by rw [List.flatMap_map]; rfl
  have := SV.imm (enc := encBk) (sz := 2) (l := l.map fun x : XB => ((x.1, x.2.1) : Bk)) encBk_len (fun x _ => rfl)
  rw [← e, List.length_map] at this
  exact this
def okR (x : XR) : Prop := (0 ≤ x.2.1 ∧ x.2.1 ≤ 65535) ∧ (x.2.2.1.nil = true → x.2.2.1.l = [])
theorem row_ex (x : XR) (h : okR x) : ∃ d : IxV, encX d = xrEnc x := by
 obtain ⟨l, hl⟩ := blks_sv x.2.2.1 h.2
 refine ⟨⟨x.1, x.2.1.toNat, l, _, hl⟩, ?_⟩
 unfold encX xrEnc
 have : ((x.2.1.toNat : Nat) : Int) = x.2.1 := Int.toNat_of_nonneg h.1.1
 simp only [this]
 rfl
theorem rows_ex : ∀ (l : List XR), (∀ x ∈ l, okR x) → ∃ dv : List IxV, dv.length = l.length ∧ dv.flatMap encX = l.flatMap xrEnc
 | [], _ => ⟨[], rfl, rfl⟩
 | x :: l, h => by
  obtain ⟨d, hd⟩ := row_ex x (h x (by simp))
  obtain ⟨dv, h1, h2⟩ := rows_ex l fun y hy => h y (by simp [hy])
  exact ⟨d :: dv, by simp [h1], by simp [hd, h2]⟩
theorem rows_sv (s : Sl XR) (h1 : s.nil = true → s.l = []) (h2 : ∀ x ∈ s.l, okR x) : ∃ xs : List IxV, SV encX 3 xs (if s.nil then .lit (.slice none 0 0) else .imm (s.l.flatMap xrEnc) s.l.length 3) := by
 obtain ⟨l, nil⟩ := s
 simp only at h1 h2 ⊢
 cases nil with
 | true => exact ⟨[], SV.nil⟩
 | false =>
  obtain ⟨dv, e1, e2⟩ := rows_ex l h2
  refine ⟨dv, ?_⟩
  have := SV.imm (enc := encX) (sz := 3) (l := dv) encX_len (fun x _ => noIdss_encX x)
  rw [e1, e2] at this
  exact this
theorem opK_few (x : OpX) : OpFew (opK x) := by
 have h : x.n % 40 < 40 := Nat.mod_lt _ (by omega)
 have hn : ∀ k : UInt8, (nameK k).length ≤ 100 := by
  intro k
  unfold nameK
  have : k.toNat % 18 < 18 := Nat.mod_lt _ (by omega)
  have : ∀ i, i < 18 → (nameT.getD i []).length ≤ 100 := by decide
  exact this _ (by omega)
 exact ⟨by show (bytesK x.ino.toNat (x.n % 40)).length ≤ 200; rw [znyZ]; omega, hn _, hn _⟩
abbrev XOp := UInt8 × (UInt8 × (UInt8 × (UInt8 × (Int × (Int × (Bool × Unit))))))
def xopEnc (x : XOp) : List AV := [AV.lit (.int .u8 x.1.toNat)] ++ ([AV.lit (.int .u8 x.2.1.toNat)] ++ ([AV.lit (.int .u8 x.2.2.1.toNat)] ++ ([AV.lit (.int .u8 x.2.2.2.1.toNat)] ++ ([AV.lit (.int .u16 x.2.2.2.2.1)] ++ ([AV.lit (.int .u16 x.2.2.2.2.2.1)] ++ ([AV.lit (.bool x.2.2.2.2.2.2.1)] ++ []))))))
def okO (x : XOp) : Prop := (0 ≤ x.2.2.2.2.1 ∧ x.2.2.2.2.1 ≤ 65535) ∧ (0 ≤ x.2.2.2.2.2.1 ∧ x.2.2.2.2.2.1 ≤ 65535)
theorem xop_ex (x : XOp) (h : okO x) : ∃ o : OpX, opX o = xopEnc x := by
 obtain ⟨a, b, c, d, e, f, g, u⟩ := x
 refine ⟨⟨a, b, c, d, e.toNat, f.toNat, g⟩, ?_⟩
 have h1 : ((e.toNat : Nat) : Int) = e := Int.toNat_of_nonneg h.1.1
 have h2 : ((f.toNat : Nat) : Int) = f := Int.toNat_of_nonneg h.2.1
 unfold opX xopEnc
 simp only [h1, h2]
 rfl
end Go.Proofs.Ytpnfdibgfichmaa.Av
end
/-! YtpnfdibgfichmaaAvLd -/
section
/- Images: a rename; a file removed, and made anew. No program in sight. -/
set_option linter.unusedVariables false
set_option linter.unusedSimpArgs false
set_option maxRecDepth 100000
set_option maxHeartbeats 2000000
namespace Go.Proofs.Ytpnfdibgfichmaa.Av
open Go Go.RowKit

def renO (s t : List UInt8) : OpM := ⟨6, 0, 0, 0, false, s, t, []⟩
def remO (s : List UInt8) : OpM := ⟨7, 0, 0, 0, false, s, [], []⟩
def creO (s : List UInt8) (i : Int) : OpM := ⟨1, i, 0, 0, false, s, [], []⟩
theorem get_name {ns : List Nm} {ds : List Nd} (h : MayW ns ds) {s : List UInt8} (hk : hasK Nm.name ns s) : ∃ d ∈ ds, d.ino = nameI ns s ∧ getN ns ds (nameI ns s) = d ∧ hasG ns ds (nameI ns s) := by
 obtain ⟨x, hx, rfl⟩ := hk
 rw [nameI_mem h.srt hx]
 obtain ⟨d, hd, e⟩ := (h.ino x.ino).2 ⟨x, hx, rfl⟩
 have := getN_w h hd
 rw [e] at this
 exact ⟨d, hd, e, this⟩
theorem no_zero {ns : List Nm} {ds : List Nd} (h : MayW ns ds) : ¬ hasK Nd.ino ds 0 := by
 intro hh
 obtain ⟨x, hx, e⟩ := (h.ino 0).1 hh
 have := (h.nm x hx).2.1
 omega
theorem has_delN {ns : List Nm} {ds : List Nd} {s : List UInt8} (h : MayW ns ds) (hk : hasK Nm.name ns s) : ¬ hasK Nd.ino (delK cmpI Nd.ino ds (nameI ns s)) (nameI ns s) := by
 obtain ⟨d, hd, e, -⟩ := get_name h hk
 rintro ⟨y, hy, e2⟩
 exact ((mem_delK koI h.sd ⟨d, hd, e⟩).1 hy).2 e2
theorem ren_facts {ns : List Nm} {ds : List Nd} {s t : List UInt8} (h : MayW ns ds) (hk : hasK Nm.name ns s) (hne : s ≠ t) (ht : mayN t) :
  MayW (applyI ns ds (renO s t)).1 (applyI ns ds (renO s t)).2 ∧ hasK Nm.name (applyI ns ds (renO s t)).1 t ∧ nameI (applyI ns ds (renO s t)).1 t = nameI ns s ∧ ¬ hasK Nm.name (applyI ns ds (renO s t)).1 s ∧
   (∃ d ∈ ds, d.ino = nameI ns s ∧ d ∈ (applyI ns ds (renO s t)).2) ∧ (hasK Nm.name ns t → ¬ hasK Nd.ino (applyI ns ds (renO s t)).2 (nameI ns t)) ∧
   sumL (applyI ns ds (renO s t)).2 + (if hasK Nm.name ns t then (getN ns ds (nameI ns t)).l.length else 0) = sumL ds := by
 have hw := applyI_w h (renO s t)
 have e : applyI ns ds (renO s t) = (insK cmpN Nm.name (delK cmpN Nm.name (remNs ns t) s) ⟨t, nameI (remNs ns t) s⟩, remD ns ds t) := by
  rw [← ren_eq h hk hne]
  unfold applyI
  rw [if_pos (mayI_w.2 h)]
  show (if (6 : Int) = 1 then _ else if (6 : Int) = 2 ∨ (6 : Int) = 3 ∨ (6 : Int) = 4 ∨ (6 : Int) = 5 then _ else if (6 : Int) = 6 then (if renOk ns s t then _ else _) else _) = _
  rw [if_neg (by omega), if_neg (by omega), if_pos rfl, if_pos ⟨hk, ht, hne⟩]
  rfl
 rw [e] at hw ⊢
 obtain ⟨g1, g2⟩ := h.remN t
 have hk2 := (has_remN h.srt hne).2 hk
 have en : nameI (remNs ns t) s = nameI ns s := by
  unfold remNs
  split
  ·rename_i c; exact nameI_del h.srt c hk hne
  ·rfl
 have hin : (⟨t, nameI (remNs ns t) s⟩ : Nm) ∈ insK cmpN Nm.name (delK cmpN Nm.name (remNs ns t) s) ⟨t, nameI (remNs ns t) s⟩ := zoxZ.2 (.inl rfl)
 refine ⟨hw, ⟨_, hin, rfl⟩, ?_, ?_, ?_, ?_, ?_⟩
 ·have := nameI_mem hw.srt hin
  exact this.trans en
 ·rintro ⟨y, hy, e2⟩
  rcases zoxZ.1 hy with rfl | hy
  ·exact hne e2.symm
  ·exact ((mem_delK koN g1.srt hk2).1 hy).2 e2
 ·obtain ⟨d, hd, e1, -⟩ := get_name h hk
  refine ⟨d, hd, e1, ?_⟩
  unfold remD
  split
  ·rename_i c
   obtain ⟨d2, hd2, e2, -⟩ := get_name h c
   refine (mem_delK koI h.sd ⟨d2, hd2, e2⟩).2 ⟨hd, fun e3 => ?_⟩
   obtain ⟨x, hx, rfl⟩ := hk
   obtain ⟨y, hy, rfl⟩ := c
   rw [nameI_mem h.srt hx] at e1
   rw [nameI_mem h.srt hy] at e3
   exact hne (by rw [h.inj x hx y hy (by omega)])
  ·exact hd
 ·intro c
  show ¬ hasK Nd.ino (remD ns ds t) _
  unfold remD
  rw [if_pos c]
  exact has_delN h c
 ·show sumL (remD ns ds t) + _ = _
  unfold remD
  by_cases c : hasK Nm.name ns t
  ·rw [if_pos c, if_pos c]
   obtain ⟨d, hd, e1, e2, -⟩ := get_name h c
   rw [e2, ← e1]
   exact sumL_del h.sd hd
  ·rw [if_neg c, if_neg c]; omega
theorem renI_same {ns : List Nm} {ds : List Nd} {s t : List UInt8} (h : MayW ns ds) (hk : ¬ (hasK Nm.name ns s ∧ s ≠ t)) : applyI ns ds (renO s t) = (ns, ds) := by
 unfold applyI
 rw [if_pos (mayI_w.2 h)]
 show (if (6 : Int) = 1 then _ else if (6 : Int) = 2 ∨ (6 : Int) = 3 ∨ (6 : Int) = 4 ∨ (6 : Int) = 5 then _ else if (6 : Int) = 6 then (if renOk ns s t then _ else _) else _) = _
 rw [if_neg (by omega), if_neg (by omega), if_pos rfl, if_neg (fun hr => hk ⟨hr.1, hr.2.2⟩)]
theorem remcre_facts {ns : List Nm} {ds : List Nd} {s : List UInt8} (h : MayW ns ds) (hs : mayN s) (hl : ns.length < 16) (h77 : ¬ hasK Nd.ino ds 77) :
  MayW (allI ns ds [remO s, creO s 77]).1 (allI ns ds [remO s, creO s 77]).2 ∧ hasK Nm.name (allI ns ds [remO s, creO s 77]).1 s ∧ nameI (allI ns ds [remO s, creO s 77]).1 s = 77 ∧ (⟨77, 0, []⟩ : Nd) ∈ (allI ns ds [remO s, creO s 77]).2 ∧
   sumL (allI ns ds [remO s, creO s 77]).2 + (getN ns ds (nameI ns s)).l.length = sumL ds := by
 have hw := allI_w h [remO s, creO s 77]
 obtain ⟨g1, g2⟩ := h.remN s
 have e1 : applyI ns ds (remO s) = (remNs ns s, remD ns ds s) := by
  unfold applyI
  rw [if_pos (mayI_w.2 h)]
  show (if (7 : Int) = 1 then _ else if (7 : Int) = 2 ∨ (7 : Int) = 3 ∨ (7 : Int) = 4 ∨ (7 : Int) = 5 then _ else if (7 : Int) = 6 then _ else if (7 : Int) = 7 then _ else _) = _
  rw [if_neg (by omega), if_neg (by omega), if_neg (by omega), if_pos rfl]
  rfl
 have hc : creI (remNs ns s) (remD ns ds s) (creO s 77) := by
  refine ⟨g2, fun hh => h77 ?_, hs, by show (1 : Int) ≤ 77; omega, by show (77 : Int) ≤ _; omega, by have := remNs_len (ns := ns) (t := s); omega⟩
  unfold remD at hh
  split at hh
  ·obtain ⟨y, hy, e⟩ := hh
   exact ⟨y, delK_sub.subset hy, e⟩
  ·exact hh
 have e2 : applyI (remNs ns s) (remD ns ds s) (creO s 77) = (insK cmpN Nm.name (remNs ns s) ⟨s, 77⟩, insK cmpI Nd.ino (remD ns ds s) ⟨77, 0, []⟩) := by
  unfold applyI
  rw [if_pos (mayI_w.2 g1)]
  show (if (1 : Int) = 1 then (if creI (remNs ns s) (remD ns ds s) (creO s 77) then _ else _) else _) = _
  rw [if_pos rfl, if_pos hc]
  rfl
 have e : allI ns ds [remO s, creO s 77] = (insK cmpN Nm.name (remNs ns s) ⟨s, 77⟩, insK cmpI Nd.ino (remD ns ds s) ⟨77, 0, []⟩) := by
  unfold allI
  simp only [List.foldl_cons, List.foldl_nil, e1, e2]
 rw [e] at hw ⊢
 have hin : (⟨s, 77⟩ : Nm) ∈ insK cmpN Nm.name (remNs ns s) ⟨s, 77⟩ := zoxZ.2 (.inl rfl)
 refine ⟨hw, ⟨_, hin, rfl⟩, nameI_mem hw.srt hin, zoxZ.2 (.inl rfl), ?_⟩
 show sumL (insK cmpI Nd.ino (remD ns ds s) ⟨77, 0, []⟩) + _ = _
 rw [sumL_ins]
 unfold remD
 by_cases c : hasK Nm.name ns s
 ·rw [if_pos c]
  obtain ⟨d, hd, f1, f2, -⟩ := get_name h c
  rw [f2, ← f1]
  have := sumL_del h.sd hd
  simp only [List.length_nil]; omega
 ·rw [if_neg c, nameI_no c, (getN_no (no_zero h)).1]
  simp
theorem rightK_may (k : UInt8) : mayN (rightK k) := rightT_may _ (Nat.mod_lt _ (by omega))
end Go.Proofs.Ytpnfdibgfichmaa.Av
end
