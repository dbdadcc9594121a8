/- The law and its row. No condition. -/
import Derived.Test.YtofgloiebnppbaaMsG
import Derived.Below
import Derived.Carry
import Derived.ChangeOld
import Derived.OpenShut
import Derived.ProofKit
import Derived.ShutString
import Derived.SizedLaws
import Derived.Test.YtofgloiebnppbaaRows
import Derived.WalkKit
/-! YtofgloiebnppbaaLStoreNumbers -/
section
/- The row of the law StoreNumbers, out of what a call of it comes to. No condition. Printed by a program of this session. -/
set_option linter.unusedVariables false
namespace Go.Proofs.Ytofgloiebnppbaa.Av
open Go Go.RowKit
noncomputable def storeNumbers_r0 : Rd Try.prog 28 (Sl UInt8) := (Rd.slice (Rd.byte Try.underlying5 (by kernel_rfl)) Try.underlying28 (by kernel_rfl))
end Go.Proofs.Ytofgloiebnppbaa.Av
namespace Go.Proofs.Ytofgloiebnppbaa
open Go.ChangeShapes Go.WideShapes Go.ChangeAt Go.RowKit
namespace storeNumbers
set_option maxRecDepth 100000 in
theorem lifted (calls : ∀ (x0 : (Av.Sl UInt8)), Av.storeNumbers_r0.ok x0 → Av.ACalls Try.prog 4 (Av.storeNumbers_r0.enc x0) [] fun r _ => r = .lit (.bool true)) (os : Os) (started : os.Started) (H : Type) (enc : TypeId × Value → H) :
  ReturnsInHanded {} Try.checked os 4 .any (Rows.storeNumbersSpec.pre6 enc Try.prog Try.f4 Rows.storeNumbersRow.domain false) (Rows.storeNumbersSpec.post enc Try.prog Try.f4 false true false false) := by
 refine returnsInHanded_of_change_sized (C := Try.checked) Av.own started (by kernel_rfl) Try.func4
  (ChangeSpec.witness6 (enc := enc) (C := Try.checked) false ⟨#[], #[.slice none 0 0], []⟩ 8 (by kernel_rfl) (by kernel_rfl) (by kernel_rfl) (by kernel_rfl)) ?_
 intro W base args ds gs before hval0 hW hcnd hsz0 _
 have hval : ∀ (j : Nat) t v, Try.f4.params[j]? = some t → args[j]? = some v → Value.okWide Try.prog W .any base t v := hval0
 have hW' := hW
 obtain ⟨p, q, hA0, hV, rfl, hfz, hnd⟩ := hW
 have hA : DataW.TrodAll enc Try.prog W 0 (fun _ => true) true Try.f4.params.toList args.toList ds p := hA0
 rw [Try.params4] at hA hval
 obtain ⟨v0, vs0, d0, ds0, p0, q0, hargs, rfl, rfl, h0, r0⟩ := trodAll_cons hA
 obtain ⟨rfl, rfl, rfl⟩ := trodAll_nil r0
 obtain rfl : args = #[v0] := by cases args; simp_all
 obtain ⟨rfl, rfl⟩ := trodVars_none hV
 obtain ⟨b0, len0, cap0, rfl⟩ := okWide_slice Try.underlying28 (hval 0 28 v0 rfl rfl)
 have lt0 : ∀ x ∈ p0, x.block < W.heap.size := by obtain ⟨m, hm⟩ := h0; exact DataW.trod_lt m _ _ _ hm
 obtain ⟨x0, ok0, vr0⟩ := Av.storeNumbers_r0.arg1 rfl h0
 refine (Av.law_calls (calls x0 ok0) W vr0).mono fun e W' ⟨he, bel⟩ => ?_
 subst he
 exact ⟨_, rfl, _, _, _, [], _, [], hW', trodAll_mk1 (shut_bool Try.underlying4 _), (trodAll_cons_mk (Below.trod Av.laidOut (by kernel_rfl) (of_decide_eq_true (by kernel_rfl)) h0 bel lt0) trodAll_mk0), rfl, bel.frame _, fun h => by cases h⟩
end storeNumbers
theorem storeNumbers_of (calls : ∀ (x0 : (Av.Sl UInt8)), Av.storeNumbers_r0.ok x0 → Av.ACalls Try.prog 4 (Av.storeNumbers_r0.enc x0) [] fun r _ => r = .lit (.bool true)) : Rows.StoreNumbersSaid :=
 OpenClaim.holds_of_wide 4 Try.f4 rfl rfl rfl rfl rfl rfl rfl ⟨rfl, rfl, rfl, rfl, rfl⟩ rfl rfl rfl rfl rfl (by kernel_rfl) Try.func4 (by kernel_rfl)
  (of_decide_eq_true (by kernel_rfl)) (by unfold Func.isWrapper; first | (rw [if_pos (by decide +kernel)]; kernel_rfl) | (rw [if_neg (by decide +kernel)]; exact ⟨rfl, rfl⟩))
  (fun os started H enc _ => storeNumbers.lifted calls os started H enc)
end Go.Proofs.Ytofgloiebnppbaa
end
/-! YtofgloiebnppbaaAvStoreNumbers -/
section
/- The law StoreNumbers: files are numbered as they are made. No condition. -/
set_option linter.unusedVariables false
set_option linter.unusedSimpArgs false
set_option maxRecDepth 100000
set_option maxHeartbeats 2000000
namespace Go.Proofs.Ytofgloiebnppbaa.Av
open Go Go.RowKit

theorem rightK_mem (k : UInt8) : rightK k ∈ rightT := by
 unfold rightK
 have hm : k.toNat % 6 < 6 := Nat.mod_lt _ (by omega)
 rw [List.getD_eq_getElem?_getD, List.getElem?_eq_getElem (show k.toNat % 6 < rightT.length by simp [rightT]; omega)]
 exact List.getElem_mem _
theorem rdh_U (x : UInt8) (t : List AV) : rdCells false 1 (encU x ++ t) 0 = some (.lit (.int .u8 x.toNat)) := rfl
theorem imx_max (a b : Int) : imx a b = max a b := by unfold imx; split <;> omega
theorem storeNumbers_calls (x0 : Sl UInt8) (h0 : storeNumbers_r0.ok x0) : ACalls Try.prog 4 (storeNumbers_r0.enc x0) [] fun r _ => r = .lit (.bool true) := by
 obtain ⟨hn, hlen, -⟩ := h0
 have hv : SV encU 1 x0.l (if x0.nil then .lit (.slice none 0 0) else .imm (x0.l.flatMap encU) x0.l.length 1) := by
  cases hnil : x0.nil with
  | true => simp only [if_true]; rw [hn hnil]; exact SV.nil
  | false => simp only [Bool.false_eq_true, if_false]; exact SV.imm (fun _ => rfl) (fun x hx => rfl)
 have hargs : storeNumbers_r0.enc x0 = [if x0.nil then .lit (.slice none 0 0) else .imm (x0.l.flatMap encU) x0.l.length 1] := rfl
 rw [hargs]
 generalize (if x0.nil then AV.lit (.slice none 0 0) else .imm (x0.l.flatMap encU) x0.l.length 1) = v at hv
 generalize x0.l = L at *
 clear hargs hlen hn
 refine law_of (zigZ ?_)
 unfold zdiZ
 simp only [hv.len, bO_some, abI_gtr, bB_bool]
 by_cases hl : 60 < L.length
 ·have hl' : (60 : Int) < (L.length : Int) := by omega
  simp only [hl', decide_true, bI_true]
  exact bP_pure storeRuns_p (by trivial)
 have hl' : ¬ (60 : Int) < (L.length : Int) := by omega
 simp only [hl', decide_false, zbtZ]
 obtain ⟨r, H1, ⟨p, rfl, h1, h2, g, hid⟩, hc⟩ := New_c 3 [] (by omega)
 refine bC_of hc ?_
 have e1 : abN .eql nilP (.ptr ([] : AH).length 0) (.lit (.pointer none)) = some (B false) := rfl
 simp only [e1, bO_some, bB_bool, zbtZ]
 refine zfwZ (fun m y0 x3 x4 x5 H' => ∃ (k : Nat) (s : StS) (p : AV), k + m = L.length ∧ y0 = v ∧ x3 = .ptr 0 0 ∧ x4 = I s.made ∧ x5 = I k ∧ StAt s 0 p H' ∧ SW k s ∧ NumS s) ?_ L.length ⟨0, newS 3, p, by omega, rfl, rfl, rfl, rfl, h2, newS_w 3, NumS.new 3⟩
 rintro m y0 x3 x4 x5 H R hR ⟨k, s, p, hk, rfl, rfl, rfl, rfl, hs, hw, hnm⟩
 unfold zcaZ
 rcases Nat.lt_or_ge k L.length with h | h
 ·have hx := List.getElem?_eq_getElem h
  generalize L[k] = y at hx
  have kI : (k : Int) < (L.length : Int) := by omega
  have hb := y.toNat_lt
  have e2 : abI .quo (.lit (.int .u8 y.toNat)) (.lit (.int .u8 8)) = some (.lit (.int .u8 ((y.toNat / 8 : Nat) : Int))) := by
   have e : IntKind.u8.wrap ((y.toNat : Int) / 8) = ((y.toNat / 8 : Nat) : Int) := by
    simp [IntKind.wrap, IntKind.bits, IntKind.signed]; omega
   simp [abI, aint2, Int.tdiv_eq_ediv_of_nonneg, e]
  have e3 : abI .rem (.lit (.int .u8 ((y.toNat / 8 : Nat) : Int))) (.lit (.int .u8 5)) = some (.lit (.int .u8 ((y.toNat / 8 % 5 : Nat) : Int))) := by
   have : abI .rem (.lit (.int .u8 ((y.toNat / 8 : Nat) : Int))) (.lit (.int .u8 (5 : Nat))) = some (.lit (.int .u8 ((y.toNat / 8 % 5 : Nat) : Int))) := by
    rw [abI_rem (by omega) (by omega)]; congr 3
   exact this
  have hJ : ∀ (s' : StS) (p' : AV) (H' : AH) (x : Int), x = s'.made → StAt s' 0 p' H' → SW (k + 1) s' → NumS s' → zoZ R y0 (.ptr 0 0) (I x) (I k) H' fun r H' => r = B true := by
   rintro s' p' H' x rfl a b c
   rw [zgkZ]; unfold zdkZ
   simp only [abI_add (a := k) (b := 1) (by omega) (by omega), bO_some]
   exact hR (m - 1) _ _ _ _ _ (by omega) ⟨k + 1, s', p', by omega, rfl, rfl, rfl, by simp, a, b, c⟩
  have hrl : (rightK y).length ≤ 9223372036854775807 := by have := (right_may _ (rightK_mem y)).2.1; omega
  simp only [hv.len, abI_lss, bO_some, bB_bool, kI, decide_true, bI_true, hv.idx encU_len hx rfl, ald_ip, rdh_U]
  refine bP_pure (Right_p y) ?_
  simp only [e2, e3, bO_some, abI_eql, bB_bool]
  have hr5 : y.toNat / 8 % 5 < 5 := Nat.mod_lt _ (by omega)
  generalize y.toNat / 8 % 5 = z at hr5
  by_cases c0 : (z : Int) = 0
  ·obtain ⟨r, H3, ⟨rfl, p3, a3, f3⟩, hc⟩ := Remove_c hs hw (by omega) (name := rightK y) hrl
   simp only [c0, decide_true, bI_true]
   refine bC_of hc ?_
   exact hJ _ _ _ _ (hnm.rem _).2.symm a3 (remS_w hw _) (hnm.rem _).1
  simp only [c0, decide_false, zbtZ]
  by_cases c1 : (z : Int) = 1
  ·obtain ⟨r, H3, ⟨rfl, a3, f3⟩, hc⟩ := Restart_c hs hw (by omega) (v := nilSl) (l := []) rfl (by simp [idS]) (by simp)
   simp only [c1, decide_true, bI_true]
   refine bC_of hc ?_
   exact hJ (restS s []) _ _ _ rfl a3 ((restS_w hw _).mono (by omega)) (hnm.rest _)
  simp only [c1, decide_false, zbtZ]
  by_cases c2 : (z : Int) = 2
  ·obtain ⟨r, H3, ⟨rfl, p3, a3, f3⟩, hc⟩ := Sync_c hs hw (by omega) (v := nilSl) (l := []) rfl (by simp [idS]) (by simp)
   simp only [c2, decide_true, bI_true]
   refine bC_of hc ?_
   exact hJ _ _ _ _ (by unfold syncS; rw [hnm.deed]; rfl) a3 ((syncS_w hw _).mono (by omega)) (hnm.sync _)
  simp only [c2, decide_false, zbtZ]
  obtain ⟨R0, hR0, r, H3, ⟨rfl, g3⟩, hc⟩ := Now_c hs hw (by omega)
  refine bC_of hc ?_
  have hfp := Find_p hR0 (hw.now.sm (by omega)) (rightK y)
  obtain ⟨w1, w2⟩ := findI_w hw.now.1 (rightK y)
  rw [w1, show decide (hasI s.now.1 s.now.2 (rightK y)) = decide (hasK Nm.name s.now.1 (rightK y)) from decide_eq_decide.2 w2] at hfp
  refine bP_pure hfp ?_
  simp only [zgxZ, List.getElem?_cons_succ, List.getElem?_cons_zero, bO_some]
  obtain ⟨r, H4, ⟨rfl, p4, a4, f4⟩, hc⟩ := Open_c (hs.grew g3) hw (by omega) (name := rightK y) hrl true
  refine bC_of hc ?_
  obtain ⟨n1, n2, n3⟩ := hnm.open hw (rightK_mem y)
  have hw4 := openS_w hw (rightK y) true
  have hmd := hw.made
  have e4 : abI .add (I s.made) (.lit (.int .i64 1)) = some (I (s.made + 1)) := abI_add (by omega) (by omega)
  generalize openS s (rightK y) true = res at *
  obtain ⟨⟨rn, re⟩, s4⟩ := res
  simp only at n1 n2 n3 hw4
  subst n2
  simp only [zgxZ, List.getElem?_cons_succ, List.getElem?_cons_zero, bO_some, abI_neq, ne_eq, not_true_eq_false, decide_false, bG_bool, beq_self_eq_true, gO_true, aun_not]
  rcases n3 with ⟨hk, n3, n4⟩ | ⟨hk, n3, n4⟩
  ·have e5 : ¬ s.made < rn := by omega
   have e6 : amm imx [I s.made, I rn] = some (I s4.made) := by rw [amm_two, imx_max]; congr 3; omega
   simp only [hk, decide_true, Bool.not_true, bG_bool, show ((false == true) = false) from rfl, gO_false, gO_true, bO_some, zhgZ, if_false, if_true, Bool.false_eq_true, beq_self_eq_true, abI_gtr, e5, decide_false, bB_bool, zbtZ, e6]
   exact hJ _ _ _ _ rfl a4 hw4 n1
  ·have e6 : amm imx [I s.made, I rn] = some (I s4.made) := by rw [amm_two, imx_max]; congr 3; omega
   simp only [hk, decide_false, Bool.not_false, bG_bool, show ((false == true) = false) from rfl, beq_self_eq_true, gO_false, gO_true, bO_some, e4, zhgZ, if_false, if_true, Bool.false_eq_true, abI_neq, n3, ne_eq, not_true_eq_false, bB_bool, zbtZ, e6]
   rw [n3] at e6
   simp only [e6, bO_some]
   exact hJ _ _ _ _ rfl a4 hw4 n1
 ·have kI : ¬ (k : Int) < (L.length : Int) := by omega
  simp only [hv.len, abI_lss, bO_some, bB_bool, kI, decide_false, zbtZ]
  exact bP_pure storeRuns_p (by trivial)
end Go.Proofs.Ytofgloiebnppbaa.Av
namespace Go.Proofs.Ytofgloiebnppbaa
theorem storeNumbers_holds : Rows.StoreNumbersSaid := storeNumbers_of Av.storeNumbers_calls
#print axioms storeNumbers_holds
end Go.Proofs.Ytofgloiebnppbaa
end
