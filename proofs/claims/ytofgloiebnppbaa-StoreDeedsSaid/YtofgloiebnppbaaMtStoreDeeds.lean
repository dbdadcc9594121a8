/- The law and its row. No condition. -/
import Derived.Test.YtofgloiebnppbaaMtG
import Derived.Below
import Derived.Carry
import Derived.ChangeOld
import Derived.OpenShut
import Derived.ProofKit
import Derived.ShutString
import Derived.SizedLaws
import Derived.Test.YtofgloiebnppbaaRows
import Derived.WalkKit
/-! YtofgloiebnppbaaLStoreDeeds -/
section
/- The row of the law StoreDeeds, out of what a call of it comes to. No condition. Printed by a program of this session. -/
set_option linter.unusedVariables false
namespace Go.Proofs.Ytofgloiebnppbaa.Av
open Go Go.RowKit
noncomputable def storeDeeds_r0 : Rd Try.prog 5 UInt8 := (Rd.byte Try.underlying5 (by kernel_rfl))
noncomputable def storeDeeds_r1 : Rd Try.prog 28 (Sl UInt8) := (Rd.slice (Rd.byte Try.underlying5 (by kernel_rfl)) Try.underlying28 (by kernel_rfl))
end Go.Proofs.Ytofgloiebnppbaa.Av
namespace Go.Proofs.Ytofgloiebnppbaa
open Go.ChangeShapes Go.WideShapes Go.ChangeAt Go.RowKit
namespace storeDeeds
set_option maxRecDepth 100000 in
theorem lifted (calls : ∀ (x0 : UInt8), Av.storeDeeds_r0.ok x0 → ∀ (x1 : (Av.Sl UInt8)), Av.storeDeeds_r1.ok x1 → Av.ACalls Try.prog 8 (Av.storeDeeds_r0.enc x0 ++ Av.storeDeeds_r1.enc x1) [] fun r _ => r = .lit (.bool true)) (os : Os) (started : os.Started) (H : Type) (enc : TypeId × Value → H) :
  ReturnsInHanded {} Try.checked os 8 .any (Rows.storeDeedsSpec.pre6 enc Try.prog Try.f8 Rows.storeDeedsRow.domain false) (Rows.storeDeedsSpec.post enc Try.prog Try.f8 false true false false) := by
 refine returnsInHanded_of_change_sized (C := Try.checked) Av.own started (by kernel_rfl) Try.func8
  (ChangeSpec.witness6 (enc := enc) (C := Try.checked) false ⟨#[], #[.int .u8 0, .slice none 0 0], []⟩ 8 (by kernel_rfl) (by kernel_rfl) (by kernel_rfl) (by kernel_rfl)) ?_
 intro W base args ds gs before hval0 hW hcnd hsz0 _
 have hval : ∀ (j : Nat) t v, Try.f8.params[j]? = some t → args[j]? = some v → Value.okWide Try.prog W .any base t v := hval0
 have hW' := hW
 obtain ⟨p, q, hA0, hV, rfl, hfz, hnd⟩ := hW
 have hA : DataW.TrodAll enc Try.prog W 0 (fun _ => true) true Try.f8.params.toList args.toList ds p := hA0
 rw [Try.params8] at hA hval
 obtain ⟨v0, vs0, d0, ds0, p0, q0, hargs, rfl, rfl, h0, r0⟩ := trodAll_cons hA
 obtain ⟨v1, vs1, d1, ds1, p1, q1, rfl, rfl, rfl, h1, r1⟩ := trodAll_cons r0
 obtain ⟨rfl, rfl, rfl⟩ := trodAll_nil r1
 obtain rfl : args = #[v0, v1] := by cases args; simp_all
 obtain ⟨rfl, rfl⟩ := trodVars_none hV
 obtain ⟨b0, rfl⟩ := okWide_int Try.underlying5 (hval 0 5 v0 rfl rfl)
 have lt0 : ∀ x ∈ p0, x.block < W.heap.size := by obtain ⟨m, hm⟩ := h0; exact DataW.trod_lt m _ _ _ hm
 obtain ⟨x0, ok0, vr0⟩ := Av.storeDeeds_r0.arg1 rfl h0
 obtain ⟨b1, len1, cap1, rfl⟩ := okWide_slice Try.underlying28 (hval 1 28 v1 rfl rfl)
 have lt1 : ∀ x ∈ p1, x.block < W.heap.size := by obtain ⟨m, hm⟩ := h1; exact DataW.trod_lt m _ _ _ hm
 obtain ⟨x1, ok1, vr1⟩ := Av.storeDeeds_r1.arg1 rfl h1
 refine (Av.law_calls (calls x0 ok0 x1 ok1) W (vr0.append vr1)).mono fun e W' ⟨he, bel⟩ => ?_
 subst he
 exact ⟨_, rfl, _, _, _, [], _, [], hW', trodAll_mk1 (shut_bool Try.underlying4 _), (trodAll_cons_mk (Below.trod Av.laidOut (by kernel_rfl) (of_decide_eq_true (by kernel_rfl)) h0 bel lt0) (trodAll_cons_mk (Below.trod Av.laidOut (by kernel_rfl) (of_decide_eq_true (by kernel_rfl)) h1 bel lt1) trodAll_mk0)), rfl, bel.frame _, fun h => by cases h⟩
end storeDeeds
theorem storeDeeds_of (calls : ∀ (x0 : UInt8), Av.storeDeeds_r0.ok x0 → ∀ (x1 : (Av.Sl UInt8)), Av.storeDeeds_r1.ok x1 → Av.ACalls Try.prog 8 (Av.storeDeeds_r0.enc x0 ++ Av.storeDeeds_r1.enc x1) [] fun r _ => r = .lit (.bool true)) : Rows.StoreDeedsSaid :=
 OpenClaim.holds_of_wide 8 Try.f8 rfl rfl rfl rfl rfl rfl rfl ⟨rfl, rfl, rfl, rfl, rfl⟩ rfl rfl rfl rfl rfl (by kernel_rfl) Try.func8 (by kernel_rfl)
  (of_decide_eq_true (by kernel_rfl)) (by unfold Func.isWrapper; first | (rw [if_pos (by decide +kernel)]; kernel_rfl) | (rw [if_neg (by decide +kernel)]; exact ⟨rfl, rfl⟩))
  (fun os started H enc _ => storeDeeds.lifted calls os started H enc)
end Go.Proofs.Ytofgloiebnppbaa
end
/-! YtofgloiebnppbaaAvStoreDeeds -/
section
/- The law StoreDeeds: as many deeds are done as were armed, and not one more. No condition. -/
set_option linter.unusedVariables false
set_option linter.unusedSimpArgs false
set_option maxRecDepth 100000
set_option maxHeartbeats 2000000
namespace Go.Proofs.Ytofgloiebnppbaa.Av
open Go Go.RowKit

theorem rdh_U (x : UInt8) (t : List AV) : rdCells false 1 (encU x ++ t) 0 = some (.lit (.int .u8 x.toNat)) := rfl
theorem storeDeeds_calls (x0 : UInt8) (h0 : storeDeeds_r0.ok x0) (x1 : Sl UInt8) (h1 : storeDeeds_r1.ok x1) : ACalls Try.prog 8 (storeDeeds_r0.enc x0 ++ storeDeeds_r1.enc x1) [] fun r _ => r = .lit (.bool true) := by
 obtain ⟨hn, hlen, -⟩ := h1
 have hv : SV encU 1 x1.l (if x1.nil then .lit (.slice none 0 0) else .imm (x1.l.flatMap encU) x1.l.length 1) := by
  cases hnil : x1.nil with
  | true => simp only [if_true]; rw [hn hnil]; exact SV.nil
  | false => simp only [Bool.false_eq_true, if_false]; exact SV.imm (fun _ => rfl) (fun x hx => rfl)
 have hargs : storeDeeds_r0.enc x0 ++ storeDeeds_r1.enc x1 = [.lit (.int .u8 x0.toNat), if x1.nil then .lit (.slice none 0 0) else .imm (x1.l.flatMap encU) x1.l.length 1] := rfl
 rw [hargs]
 generalize (if x1.nil then AV.lit (.slice none 0 0) else .imm (x1.l.flatMap encU) x1.l.length 1) = v at hv
 generalize x1.l = L at *
 clear hargs hlen hn h0
 refine law_of (zjqZ ?_)
 unfold zeeZ
 simp only [hv.len, bO_some, abI_gtr, bB_bool]
 by_cases hl : 60 < L.length
 ·have hl' : (60 : Int) < (L.length : Int) := by omega
  simp only [hl', decide_true, bI_true]
  exact bP_pure storeRuns_p (by trivial)
 have hl' : ¬ (60 : Int) < (L.length : Int) := by omega
 simp only [hl', decide_false, zwZ]
 have hn8 := x0.toNat_lt
 generalize hN : x0.toNat = n at *
 obtain ⟨r, H1, ⟨p, rfl, h1, h2, g, hid⟩, hc⟩ := New_c 100 [] (by omega)
 refine bC_of hc ?_
 have e1 : abN .eql nilP (.ptr ([] : AH).length 0) (.lit (.pointer none)) = some (B false) := rfl
 have e2 : acI .i64 (.lit (.int .u8 (n : Int))) = some (I (n : Int)) := acI_i64 (by omega) (by omega)
 simp only [e1, bO_some, bB_bool, zwZ]
 obtain ⟨s1, o1, o2, o3, o4⟩ := open_first
 have hw1 := openS_w (newS_w 100) [97] true
 obtain ⟨r, H2, ⟨rfl, p2, h3, f3⟩, hc⟩ := Open_c h2 (newS_w 100) (by omega) (name := [97]) (by simp) true
 rw [o1] at hw1 h3 hc
 refine bC_of hc ?_
 simp only [zddZ, List.getElem?_cons_succ, List.getElem?_cons_zero, bO_some, e2]
 obtain ⟨r, H4, ⟨rfl, h4, f4⟩, hc⟩ := Arm_c h3 (n : Int)
 refine bC_of hc ?_
 have hw2 := armS_w hw1 (n := (n : Int)) (by omega)
 have hd : DS 0 n 0 (armS s1 n) := ⟨⟨0, [], o3, by decide, by simp⟩, o4, .inl ⟨o2, by simp only [armS]; omega, by simp only [armS]; omega⟩⟩
 refine zgxZ (fun m y0 y1 x5 x6 x7 x8 x9 H' => ∃ (k : Nat) (s : StS) (p : AV) (d : Int), k + m = L.length ∧ y0 = .lit (.int .u8 (n : Int)) ∧ y1 = v ∧ x5 = .ptr 0 0 ∧ x6 = I 1 ∧ x7 = I 0 ∧ x8 = I d ∧ x9 = I k ∧ StAt s 0 p H' ∧ SW (1 + 9 * k) s ∧ DS k n d s ∧ 0 ≤ d ∧ d ≤ n) ?_ L.length ⟨0, armS s1 n, p2, 0, by omega, rfl, rfl, rfl, rfl, rfl, rfl, rfl, h4, hw2, hd, by omega, by omega⟩
 rintro m y0 y1 x5 x6 x7 x8 x9 H R hR ⟨k, s, p, d, hk, rfl, rfl, rfl, rfl, rfl, rfl, rfl, hs, hw, hds, hd0, hdn⟩
 unfold zcsZ
 rcases Nat.lt_or_ge k L.length with h | h
 ·have hx := List.getElem?_eq_getElem h
  generalize L[k] = y at hx
  have kI : (k : Int) < (L.length : Int) := by omega
  have hb := y.toNat_lt
  have e3 : abI .rem (.lit (.int .u8 y.toNat)) (.lit (.int .u8 4)) = some (.lit (.int .u8 ((y.toNat % 4 : Nat) : Int))) := by
   have : abI .rem (.lit (.int .u8 (y.toNat : Int))) (.lit (.int .u8 (4 : Nat))) = some (.lit (.int .u8 ((y.toNat % 4 : Nat) : Int))) := by
    rw [abI_rem (by omega) (by omega)]; congr 3
   exact this
  have hJ : ∀ (s' : StS) (p' : AV) (H' : AH) (d' : Int), StAt s' 0 p' H' → SW (1 + 9 * (k + 1)) s' → DS (k + 1) n d' s' → 0 ≤ d' → zbwZ R (.lit (.int .u8 (n : Int))) y1 (.ptr 0 0) (I 1) (I 0) (I d') (I k) H' fun r H' => r = B true := by
   rintro s' p' H' d' a b c e
   rw [zhqZ]; unfold zdzZ
   simp only [abI_add (a := k) (b := 1) (by omega) (by omega), bO_some]
   have : d' ≤ n := by rcases c.st with q | q <;> omega
   exact hR (m - 1) _ _ _ _ _ _ _ _ (by omega) ⟨k + 1, s', p', d', by omega, rfl, rfl, rfl, rfl, rfl, rfl, by simp, a, b, c, e, this⟩
  -- the deed is done, or the power is gone
  have hT : ∀ (s' : StS) (p' : AV) (H' : AH) (d' : Int), StAt s' 0 p' H' → SW (1 + 9 * (k + 1)) s' → DS (k + 1) n (d' + 1) s' → -1 ≤ d' → d' ≤ 1000 → zjZ R (.lit (.int .u8 (n : Int))) y1 (.ptr 0 0) (I 1) (I 0) (I d') (I k) (B true) H' fun r H' => r = B true := by
   rintro s' p' H' d' a b c e e'
   rw [zdqZ]; unfold zctZ
   rw [zdvZ]; unfold zcuZ
   simp only [bB_bool, bI_true, abI_add (a := d') (b := 1) (by omega) (by omega), bO_some]
   exact hJ s' p' H' (d' + 1) a b c (by omega)
  have hF : ∀ (s' : StS) (p' : AV) (H' : AH), StAt s' 0 p' H' → SW (1 + 9 * (k + 1)) s' → DS (k + 1) n d s' → s'.off = true → d = n → zjZ R (.lit (.int .u8 (n : Int))) y1 (.ptr 0 0) (I 1) (I 0) (I d) (I k) (B false) H' fun r H' => r = B true := by
   rintro s' p' H' a b c ho hdn
   rw [zdqZ]; unfold zctZ
   rw [zdvZ]; unfold zcuZ
   simp only [bB_bool, zwZ]
   refine bC_of (Off_c a) ?_
   simp only [ho, aun_not, Bool.not_true, bO_some, bG_bool, beq_self_eq_true, gO_true, e2, abI_neq, hdn, ne_eq, not_true_eq_false, decide_false, zdlZ, if_false, Bool.false_eq_true]
   rw [zhpZ]; unfold zeaZ
   simp only [bB_bool, zwZ]
   exact hJ s' p' H' n a b (by rw [hdn] at c; exact c) (by omega)
  simp only [hv.len, abI_lss, bO_some, bB_bool, kI, decide_true, bI_true, hv.idx encU_len hx rfl, ald_ip, rdh_U, e3, abI_eql]
  have hr4 : y.toNat % 4 < 4 := Nat.mod_lt _ (by omega)
  generalize y.toNat % 4 = z at hr4
  by_cases c0 : (z : Int) = 0
  ·simp only [c0, decide_true, bI_true]
   have eA : absl H 1 1 (zrow [(.lit (.int .u8 0))] 1) [(0, 1, (.lit (.int .u8 y.toNat)))] = some (.sl H.length 0 1 1 (.ex 1), H ++ [some (.cells [.lit (.int .u8 y.toNat)])]) := rfl
   have g2 := Grew.app H [some (AObj.cells [.lit (.int .u8 y.toNat)])]
   have hsl : zaZ (H ++ [some (AObj.cells [.lit (.int .u8 y.toNat)])]) 1 (.sl H.length 0 1 1 (.ex 1)) = some (encB [y], ([y] : List UInt8).length) := by simp [zaZ, encB]
   have hlt : 0 < H.length ∧ ∀ j ∈ idS p, j < H.length := by obtain ⟨a, b', c, d, pv, hx⟩ := hs; exact ⟨hx.lt, idS_lt hx⟩
   obtain ⟨r, H3, ⟨rfl, p3, a3, f3⟩, hc⟩ := Write_c (b := [y]) (hs.grew g2) hw 1 (k : Int) (by simp; omega) hsl (by
    intro j hj
    simp [idS] at hj
    subst hj
    exact ⟨by omega, fun q => by have := hlt.2 _ q; omega⟩)
   simp only [eA, bH_some]
   refine bC_of hc ?_
   have hw3 := writeS_w hw 1 (k : Int) [y]
   simp only [zddZ, List.getElem?_cons_succ, List.getElem?_cons_zero, bO_some, abI_eql, bG_bool]
   rcases hds.write (by omega) (i := k) (by omega) y with ⟨q1, q2⟩ | ⟨q1, q2, q3, q4⟩
   ·have q11 : (writeS s 1 (k : Int) [y]).1.1 = 1 := by rw [q1]
    have q12 : (writeS s 1 (k : Int) [y]).1.2 = 0 := by rw [q1]
    simp only [q11, q12, decide_true, beq_self_eq_true, gO_true, bO_some, abI_eql, zdlZ, if_true]
    exact hT _ _ _ _ a3 (hw3.mono (by simp; omega)) q2 (by omega) (by omega)
   ·simp only [q1, show ¬ (8 : Int) = 0 by omega, decide_false, show ((false == true) = false) from rfl, gO_false, bO_some, zdlZ, if_false, Bool.false_eq_true]
    exact hF _ _ _ a3 (hw3.mono (by simp; omega)) q4 q2 q3
  simp only [c0, decide_false, zwZ]
  by_cases c1 : (z : Int) = 1
  ·simp only [c1, decide_true, bI_true]
   have eA : absl H 1 1 (zrow [(.lit (.int .i64 0))] 1) [(0, 1, I 1)] = some (.sl H.length 0 1 1 (.ex 1), H ++ [some (.cells [I 1])]) := rfl
   have g2 := Grew.app H [some (AObj.cells [I 1])]
   have hsl : zaZ (H ++ [some (AObj.cells [I 1])]) 1 (.sl H.length 0 1 1 (.ex 1)) = some (([1] : List Int).flatMap encZ, ([1] : List Int).length) := by simp [zaZ, encZ]
   have hlt : 0 < H.length ∧ ∀ j ∈ idS p, j < H.length := by obtain ⟨a, b', c, d, pv, hx⟩ := hs; exact ⟨hx.lt, idS_lt hx⟩
   obtain ⟨r, H3, ⟨rfl, p3, a3, f3⟩, hc⟩ := Sync_c (hs.grew g2) hw (by omega) hsl (by
    intro j hj
    simp [idS] at hj
    subst hj
    exact ⟨by omega, fun q => by have := hlt.2 _ q; omega⟩) (by simp)
   simp only [eA, bH_some]
   refine bC_of hc ?_
   have hw3 := syncS_w hw [1]
   simp only [abI_eql, bO_some]
   rcases hds.sync [1] with ⟨q1, q2⟩ | ⟨q1, q2, q3, q4⟩
   ·simp only [q1, decide_true]
    exact hT _ _ _ _ a3 (hw3.mono (by omega)) q2 (by omega) (by omega)
   ·simp only [q1, show ¬ (8 : Int) = 0 by omega, decide_false]
    exact hF _ _ _ a3 (hw3.mono (by omega)) q4 q2 q3
  simp only [c1, decide_false, zwZ]
  by_cases c2 : (z : Int) = 2
  ·simp only [c2, decide_true, bI_true]
   obtain ⟨r, H3, ⟨rfl, p3, a3, f3⟩, hc⟩ := Trunc_c hs hw (by omega) 1 (k : Int)
   refine bC_of hc ?_
   have hw3 := truncS_w hw 1 (k : Int)
   simp only [abI_eql, bO_some]
   rcases hds.trunc (i := k) (by omega) with ⟨q1, q2⟩ | ⟨q1, q2, q3, q4⟩
   ·simp only [q1, decide_true]
    exact hT _ _ _ _ a3 (hw3.mono (by omega)) q2 (by omega) (by omega)
   ·simp only [q1, show ¬ (8 : Int) = 0 by omega, decide_false]
    exact hF _ _ _ a3 (hw3.mono (by omega)) q4 q2 q3
  simp only [c2, decide_false, zwZ]
  obtain ⟨r, H3, ⟨rfl, p3, a3, f3⟩, hc⟩ := Rename_c hs hw (by omega) (name := [97]) (to := [97]) (by simp) (by simp)
  refine bC_of hc ?_
  obtain ⟨q0, q⟩ := hds.ren
  rw [q0] at a3
  simp only [abI_eql, bO_some, bB_bool]
  rcases q with q1 | ⟨q1, q2, q3⟩
  ·have e5 : abI .sub (I d) (.lit (.int .i64 1)) = some (I (d - 1)) := abI_sub (by omega) (by omega)
   simp only [q1, decide_true, bI_true, e5, bO_some]
   exact hT _ _ _ _ a3 (hw.mono (by omega)) (by rw [show d - 1 + 1 = d by omega]; exact hds.mono (by omega)) (by omega) (by omega)
  ·simp only [q1, show ¬ (8 : Int) = 0 by omega, decide_false, zwZ]
   exact hF _ _ _ a3 (hw.mono (by omega)) (hds.mono (by omega)) q2 q3
 ·have kI : ¬ (k : Int) < (L.length : Int) := by omega
  have e6 : d ≤ (n : Int) := hdn
  simp only [hv.len, abI_lss, bO_some, bB_bool, kI, decide_false, zwZ, abI_eql, decide_true, bG_bool, beq_self_eq_true, gO_true, e2, abI_leq, e6, zdlZ, if_true, gP_true]
  exact bP_pure storeRuns_p (by trivial)
end Go.Proofs.Ytofgloiebnppbaa.Av
namespace Go.Proofs.Ytofgloiebnppbaa
theorem storeDeeds_holds : Rows.StoreDeedsSaid := storeDeeds_of Av.storeDeeds_calls
#print axioms storeDeeds_holds
end Go.Proofs.Ytofgloiebnppbaa
end
