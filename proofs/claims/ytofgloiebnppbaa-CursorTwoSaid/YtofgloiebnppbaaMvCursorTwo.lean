/- The law and its row. No condition. -/
import Derived.Test.YtofgloiebnppbaaMvH
import Derived.Below
import Derived.Carry
import Derived.ChangeOld
import Derived.OpenShut
import Derived.ProofKit
import Derived.ShutString
import Derived.SizedLaws
import Derived.Test.YtofgloiebnppbaaRows
import Derived.WalkKit
/-! YtofgloiebnppbaaLCursorTwo -/
section
/- The row of the law CursorTwo, out of what a call of it comes to. No condition. Printed by a program of this session. -/
set_option linter.unusedVariables false
namespace Go.Proofs.Ytofgloiebnppbaa.Av
open Go Go.RowKit
noncomputable def cursorTwo_r0 : Rd Try.prog 28 (Sl UInt8) := (Rd.slice (Rd.byte Try.underlying5 (by kernel_rfl)) Try.underlying28 (by kernel_rfl))
noncomputable def cursorTwo_r1 : Rd Try.prog 28 (Sl UInt8) := (Rd.slice (Rd.byte Try.underlying5 (by kernel_rfl)) Try.underlying28 (by kernel_rfl))
noncomputable def cursorTwo_r2 : Rd Try.prog 5 UInt8 := (Rd.byte Try.underlying5 (by kernel_rfl))
end Go.Proofs.Ytofgloiebnppbaa.Av
namespace Go.Proofs.Ytofgloiebnppbaa
open Go.ChangeShapes Go.WideShapes Go.ChangeAt Go.RowKit
namespace cursorTwo
set_option maxRecDepth 100000 in
theorem lifted (calls : ∀ (x0 : (Av.Sl UInt8)), Av.cursorTwo_r0.ok x0 → ∀ (x1 : (Av.Sl UInt8)), Av.cursorTwo_r1.ok x1 → ∀ (x2 : UInt8), Av.cursorTwo_r2.ok x2 → Av.ACalls Try.prog 7 (Av.cursorTwo_r0.enc x0 ++ Av.cursorTwo_r1.enc x1 ++ Av.cursorTwo_r2.enc x2) [] fun r _ => r = .lit (.bool true)) (os : Os) (started : os.Started) (H : Type) (enc : TypeId × Value → H) :
  ReturnsInHanded {} Try.checked os 7 .any (Rows.cursorTwoSpec.pre6 enc Try.prog Try.f7 Rows.cursorTwoRow.domain false) (Rows.cursorTwoSpec.post enc Try.prog Try.f7 false true false false) := by
 refine returnsInHanded_of_change_sized (C := Try.checked) Av.own started (by kernel_rfl) Try.func7
  (ChangeSpec.witness6 (enc := enc) (C := Try.checked) false ⟨#[], #[.slice none 0 0, .slice none 0 0, .int .u8 0], []⟩ 8 (by kernel_rfl) (by kernel_rfl) (by kernel_rfl) (by kernel_rfl)) ?_
 intro W base args ds gs before hval0 hW hcnd hsz0 _
 have hval : ∀ (j : Nat) t v, Try.f7.params[j]? = some t → args[j]? = some v → Value.okWide Try.prog W .any base t v := hval0
 have hW' := hW
 obtain ⟨p, q, hA0, hV, rfl, hfz, hnd⟩ := hW
 have hA : DataW.TrodAll enc Try.prog W 0 (fun _ => true) true Try.f7.params.toList args.toList ds p := hA0
 rw [Try.params7] at hA hval
 obtain ⟨v0, vs0, d0, ds0, p0, q0, hargs, rfl, rfl, h0, r0⟩ := trodAll_cons hA
 obtain ⟨v1, vs1, d1, ds1, p1, q1, rfl, rfl, rfl, h1, r1⟩ := trodAll_cons r0
 obtain ⟨v2, vs2, d2, ds2, p2, q2, rfl, rfl, rfl, h2, r2⟩ := trodAll_cons r1
 obtain ⟨rfl, rfl, rfl⟩ := trodAll_nil r2
 obtain rfl : args = #[v0, v1, v2] := by cases args; simp_all
 obtain ⟨rfl, rfl⟩ := trodVars_none hV
 obtain ⟨b0, len0, cap0, rfl⟩ := okWide_slice Try.underlying28 (hval 0 28 v0 rfl rfl)
 have lt0 : ∀ x ∈ p0, x.block < W.heap.size := by obtain ⟨m, hm⟩ := h0; exact DataW.trod_lt m _ _ _ hm
 obtain ⟨x0, ok0, vr0⟩ := Av.cursorTwo_r0.arg1 rfl h0
 obtain ⟨b1, len1, cap1, rfl⟩ := okWide_slice Try.underlying28 (hval 1 28 v1 rfl rfl)
 have lt1 : ∀ x ∈ p1, x.block < W.heap.size := by obtain ⟨m, hm⟩ := h1; exact DataW.trod_lt m _ _ _ hm
 obtain ⟨x1, ok1, vr1⟩ := Av.cursorTwo_r1.arg1 rfl h1
 obtain ⟨b2, rfl⟩ := okWide_int Try.underlying5 (hval 2 5 v2 rfl rfl)
 have lt2 : ∀ x ∈ p2, x.block < W.heap.size := by obtain ⟨m, hm⟩ := h2; exact DataW.trod_lt m _ _ _ hm
 obtain ⟨x2, ok2, vr2⟩ := Av.cursorTwo_r2.arg1 rfl h2
 refine (Av.law_calls (calls x0 ok0 x1 ok1 x2 ok2) W ((vr0.append vr1).append vr2)).mono fun e W' ⟨he, bel⟩ => ?_
 subst he
 exact ⟨_, rfl, _, _, _, [], _, [], hW', trodAll_mk1 (shut_bool Try.underlying4 _), (trodAll_cons_mk (Below.trod Av.laidOut (by kernel_rfl) (of_decide_eq_true (by kernel_rfl)) h0 bel lt0) (trodAll_cons_mk (Below.trod Av.laidOut (by kernel_rfl) (of_decide_eq_true (by kernel_rfl)) h1 bel lt1) (trodAll_cons_mk (Below.trod Av.laidOut (by kernel_rfl) (of_decide_eq_true (by kernel_rfl)) h2 bel lt2) trodAll_mk0))), rfl, bel.frame _, fun h => by cases h⟩
end cursorTwo
theorem cursorTwo_of (calls : ∀ (x0 : (Av.Sl UInt8)), Av.cursorTwo_r0.ok x0 → ∀ (x1 : (Av.Sl UInt8)), Av.cursorTwo_r1.ok x1 → ∀ (x2 : UInt8), Av.cursorTwo_r2.ok x2 → Av.ACalls Try.prog 7 (Av.cursorTwo_r0.enc x0 ++ Av.cursorTwo_r1.enc x1 ++ Av.cursorTwo_r2.enc x2) [] fun r _ => r = .lit (.bool true)) : Rows.CursorTwoSaid :=
 OpenClaim.holds_of_wide 7 Try.f7 rfl rfl rfl rfl rfl rfl rfl ⟨rfl, rfl, rfl, rfl, rfl⟩ rfl rfl rfl rfl rfl (by kernel_rfl) Try.func7 (by kernel_rfl)
  (of_decide_eq_true (by kernel_rfl)) (by unfold Func.isWrapper; first | (rw [if_pos (by decide +kernel)]; kernel_rfl) | (rw [if_neg (by decide +kernel)]; exact ⟨rfl, rfl⟩))
  (fun os started H enc _ => cursorTwo.lifted calls os started H enc)
end Go.Proofs.Ytofgloiebnppbaa
end
/-! YtofgloiebnppbaaAvCursorTwo -/
section
/- The law CursorTwo: two places in one file are apart; what the one writes the other reads. No condition. -/
set_option linter.unusedVariables false
set_option linter.unusedSimpArgs false
set_option maxRecDepth 100000
set_option maxHeartbeats 2000000
namespace Go.Proofs.Ytofgloiebnppbaa.Av
open Go Go.RowKit

theorem open200 : ∃ s, openS (newS 200) [97] true = ((1, 0), s) ∧ s.off = false ∧ s.now = oneN [97] 0 [] ∧ s.cap = 200 ∧ s.armed = -1 := ⟨_, rfl, rfl, by decide, rfl, rfl⟩
theorem Txt.again {nm : List UInt8} {cap : Int} {t : List UInt8} {s : StS} (h : Txt nm cap t s) : openS s nm false = ((1, 0), s) := by
 obtain ⟨l, h1, -⟩ := h.h
 have hk : hasK Nm.name s.now.1 nm := by rw [h1.now]; simp [oneN, hasK]
 have e : findS s nm = (1, 0) := by
  unfold findS
  rw [if_neg (by rw [h1.off]; simp), if_neg (fun q => q h1.nm), if_pos hk]
  have : nameI s.now.1 nm = 1 := by rw [h1.now]; simp [nameI, atK, oneN]
  rw [this]
 unfold openS
 rw [e, if_pos (.inr rfl)]
theorem absl_one {H : AH} {v : AV} (h : oneA v = true) : absl H 1 1 (zrow [(.lit (.slice none 0 0))] 1) [(0, 1, v)] = some (.sl H.length 0 1 1 (.ex 1), H ++ [some (.cells [v])]) := by
 simp [absl, absf, zrow, zcnZ h, splice]
theorem sl_hv (x : Sl UInt8) (hn : x.nil = true → x.l = []) : SV encU 1 x.l (if x.nil then .lit (.slice none 0 0) else .imm (x.l.flatMap encU) x.l.length 1) := by
 cases hnil : x.nil with
 | true => simp only [if_true]; rw [hn hnil]; exact SV.nil
 | false => simp only [Bool.false_eq_true, if_false]; exact SV.imm (fun _ => rfl) (fun x hx => rfl)
theorem svB {l : List UInt8} {v : AV} (h : SV encU 1 l v) (H : AH) : zaZ H 1 v = some (encB l, l.length) := by have := h.2 H; rw [flat_encU] at this; exact this
theorem noIds_idS : ∀ {v : AV}, noIds v = true → idS v = [] := by
 intro v h
 cases v <;> simp [noIds, idS] at h ⊢
theorem cursorTwo_calls (x0 : Sl UInt8) (h0 : cursorTwo_r0.ok x0) (x1 : Sl UInt8) (h1 : cursorTwo_r1.ok x1) (x2 : UInt8) (h2 : cursorTwo_r2.ok x2) : ACalls Try.prog 7 (cursorTwo_r0.enc x0 ++ cursorTwo_r1.enc x1 ++ cursorTwo_r2.enc x2) [] fun r _ => r = .lit (.bool true) := by
 have hv := sl_hv x0 h0.1
 have hu := sl_hv x1 h1.1
 have hargs : cursorTwo_r0.enc x0 ++ cursorTwo_r1.enc x1 ++ cursorTwo_r2.enc x2 = [if x0.nil then .lit (.slice none 0 0) else .imm (x0.l.flatMap encU) x0.l.length 1, if x1.nil then .lit (.slice none 0 0) else .imm (x1.l.flatMap encU) x1.l.length 1, .lit (.int .u8 x2.toNat)] := rfl
 rw [hargs]
 generalize (if x0.nil then AV.lit (.slice none 0 0) else .imm (x0.l.flatMap encU) x0.l.length 1) = v at hv
 generalize (if x1.nil then AV.lit (.slice none 0 0) else .imm (x1.l.flatMap encU) x1.l.length 1) = u at hu
 generalize x0.l = A at *
 generalize x1.l = C at *
 clear hargs h0 h1 h2
 refine zknZ ?_
 unfold zeiZ
 simp only [hv.len, bO_some, abI_gtr, bG_bool]
 have few : ¬ (100 < A.length ∨ 100 < C.length) ∨ (100 < A.length ∨ 100 < C.length) := (Classical.em _).symm
 rcases few with few | few
 case inr =>
  by_cases c : 100 < A.length
  ·have c' : (100 : Int) < (A.length : Int) := by omega
   simp only [c', decide_true, show ((true == false) = false) from rfl, gO_false, bO_some, zbhZ, if_true, bB_bool, bI_true]
   exact bP_pure zhcZ (by trivial)
  ·have c' : ¬ (100 : Int) < (A.length : Int) := by omega
   have d' : (100 : Int) < (C.length : Int) := by omega
   simp only [c', decide_false, beq_self_eq_true, gO_true, bO_some, hu.len, abI_gtr, d', decide_true, zbhZ, if_false, Bool.false_eq_true, bB_bool, bI_true]
   exact bP_pure zhcZ (by trivial)
 have hA : A.length ≤ 100 := by omega
 have hC : C.length ≤ 100 := by omega
 have c' : ¬ (100 : Int) < (A.length : Int) := by omega
 have d' : ¬ (100 : Int) < (C.length : Int) := by omega
 simp only [c', d', decide_false, beq_self_eq_true, gO_true, bO_some, hu.len, abI_gtr, zbhZ, if_false, Bool.false_eq_true, bB_bool, zbaZ]
 obtain ⟨r, H1, ⟨p, rfl, l1, st0, g, hid⟩, hc⟩ := New_c 200 [] (by omega)
 refine bC_of hc ?_
 have e1 : abN .eql nilP (.ptr ([] : AH).length 0) (.lit (.pointer none)) = some (B false) := rfl
 have el1 : H1.length = 1 := l1
 simp only [e1, bO_some, bB_bool, zbaZ]
 obtain ⟨s1, o1, o2, o3, o4, o5⟩ := open200
 have hw1 := openS_w (newS_w 200) [97] true
 obtain ⟨r, H5, ⟨p1, fo, rfl, hfo, F1, fp1, st1, sf1⟩, hc⟩ := COpen_c st0 (newS_w 200) (by omega) (name := [97]) (by simp) true (by rw [o1])
 rw [o1] at hw1 st1 F1
 have t1 : Txt [97] 200 [] s1 := Txt.first o3 (by decide) o4 o2 o5
 refine bC_of hc ?_
 have ag := t1.again
 have hw2 := openS_w hw1 [97] false
 obtain ⟨r, H6, ⟨p2, go, rfl, hgo, G1, gp1, st2, sf2⟩, hc⟩ := COpen_c st1 hw1 (by omega) (name := [97]) (by simp) false (by rw [ag])
 rw [ag] at hw2 st2 G1
 simp only [zmZ, List.getElem?_cons_succ, List.getElem?_cons_zero, bO_some]
 refine bC_of hc ?_
 have e2 : ∀ o, abN .eql nilP (.ptr o 0) (.lit (.pointer none)) = some (B false) := fun _ => rfl
 simp only [zmZ, List.getElem?_cons_succ, List.getElem?_cons_zero, bO_some, e2, bG_bool, beq_self_eq_true, gO_true, abI_neq, ne_eq, not_true_eq_false, decide_false, zbhZ, if_false, Bool.false_eq_true, bB_bool, zbaZ]
 have lfo := (List.getElem?_eq_some_iff.1 F1).1
 have hne : fo ≠ 0 := by omega
 have hge : go ≠ 0 := by omega
 have hfg : go ≠ fo := by omega
 have F2 : FAt fo 0 1 0 H6 := (sf2.same fo lfo hne fp1).trans F1
 have fp2 : fo ∉ idS p2 := fun q => (sf2.ids fo q).elim fp1 (fun q => by omega)
 -- the first is written
 rw [absl_one (SV.oneA hv), bH_some]
 have g3 := Grew.app H6 [some (AObj.cells [v])]
 have iv := noIds_idS hv.1
 have iu := noIds_idS hu.1
 have lst2 := st2.p_lt
 have lg6 := (List.getElem?_eq_some_iff.1 G1).1
 refine ⟨_, TWrite_a (bl := [(v, A)]) t1 (st2.grew g3) (g3.cells F2) ⟨hne, fp2⟩ hw2 (by simp [zaZ]) (by intro j hj; simp [idS] at hj; subst hj; exact ⟨by omega, by omega, fun q => by have := lst2 _ q; omega⟩) (by
  intro x hx
  simp only [List.mem_singleton] at hx
  subst hx
  exact ⟨svB hv _, SV.oneA hv, by simp only; omega, by simp only [iv]; simp⟩) (by simp) (by simp; omega) (by simp; omega) (by simp; omega), ?_⟩
 rintro r H7 ⟨s2, p3, rfl, t2, w2, st3, F3, fp3, cw⟩
 simp only [List.map_cons, List.map_nil, List.flatten_cons, List.flatten_nil, List.append_nil, List.nil_append] at t2 w2 F3
 have hl7 : (H6 ++ [some (AObj.cells [v])]).length = H6.length + 1 := by simp
 have G3 : FAt go 0 1 0 H7 := (cw.same go (by omega) hge hfg (by omega) gp1).trans (g3.cells G1)
 have gp3 : go ∉ idS p3 := fun q => (cw.ids go q).elim gp1 (fun q => by omega)
 have hb := x2.toNat_lt
 have ek1 : acI .i64 (.lit (.int .u8 (x2.toNat : Int))) = some (I (x2.toNat : Int)) := acI_i64 (by omega) (by omega)
 have ek2 : abI .add (I (A.length : Int)) (.lit (.int .i64 1)) = some (I ((A.length + 1 : Nat) : Int)) := by rw [abI_add (by omega) (by omega)]; congr 3
 have ek3 : abI .rem (I (x2.toNat : Int)) (I ((A.length + 1 : Nat) : Int)) = some (I ((x2.toNat % (A.length + 1) : Nat) : Int)) := by rw [abI_rem (by omega) (by omega)]; congr 3
 have hk : x2.toNat % (A.length + 1) ≤ A.length := by have := Nat.mod_lt x2.toNat (show A.length + 1 > 0 by omega); omega
 simp only [ek1, bO_some, hv.len, ek2, ek3, zeZ, zqZ, Nat.zero_add]
 generalize x2.toNat % (A.length + 1) = k at hk
 obtain ⟨r, H8, ⟨rfl, G4, b4⟩, hc⟩ := Seek_c G3 (n := (k : Int)) (by omega)
 refine bC_of hc ?_
 have st4 := b4.st st3 hge gp3
 have F4 := b4.at F3 (Ne.symm hfg)
 have hr1 : readS s2 1 k 200 = (A.drop k, 0) := by
  have := t2.read (pos := k) (n := 200) hk (by omega) (by omega)
  rw [List.take_of_length_le (by rw [List.length_drop]; omega)] at this
  exact this
 obtain ⟨R1, hR1, r, H9, ⟨rfl, G5, b5⟩, hc⟩ := CRead_c G4 st4 w2 (by omega) hge 200 (by omega) (by rw [hr1]; simp only [List.length_drop]; omega)
 rw [hr1] at hR1 G5 hc
 refine bC_of hc ?_
 have st5 := b5.st st4 hge gp3
 have F5 := b5.at F4 (Ne.symm hfg)
 simp only [zmZ, List.getElem?_cons_succ, List.getElem?_cons_zero, bO_some]
 have hr2 : readS s2 1 (A.length : Int) 200 = ([], 0) := by
  have := t2.read (pos := A.length) (n := 200) (Nat.le_refl _) (by omega) (by omega)
  rw [List.drop_length] at this
  simpa using this
 obtain ⟨R2, hR2, r, H10, ⟨rfl, F6, b6⟩, hc⟩ := CRead_c F5 st5 w2 (by omega) hne 200 (by omega) (by rw [hr2]; simp)
 rw [hr2] at hR2 F6 hc
 refine bC_of hc ?_
 have st6 := b6.st st5 hne fp3
 have G6 := b6.at G5 hfg
 have F6' : FAt fo 0 1 A.length H10 := by simpa using F6
 have G6' : FAt go 0 1 A.length H10 := by
  have e : (k : Int) + (A.drop k).length = A.length := by rw [List.length_drop]; omega
  rw [e] at G6; exact G6
 simp only [zmZ, List.getElem?_cons_succ, List.getElem?_cons_zero, bO_some]
 -- the first is written again
 rw [absl_one (SV.oneA hu), bH_some]
 have g7 := Grew.app H10 [some (AObj.cells [u])]
 have lst6 := st6.p_lt
 have lf10 := (List.getElem?_eq_some_iff.1 F6').1
 have lg10 := (List.getElem?_eq_some_iff.1 G6').1
 have lo10 := st6.os_lt
 refine ⟨_, TWrite_a (bl := [(u, C)]) t2 (st6.grew g7) (g7.cells F6') ⟨hne, fp3⟩ w2 (by simp [zaZ]) (by intro j hj; simp [idS] at hj; subst hj; exact ⟨by omega, by omega, fun q => by have := lst6 _ q; omega⟩) (by
  intro x hx
  simp only [List.mem_singleton] at hx
  subst hx
  exact ⟨svB hu _, SV.oneA hu, by simp only; omega, by simp only [iu]; simp⟩) (by simp) (by simp; omega) (by simp; omega) (by simp; omega), ?_⟩
 rintro r H11 ⟨s3, p4, rfl, t3, w3, st7, F7, fp4, cw2⟩
 simp only [List.map_cons, List.map_nil, List.flatten_cons, List.flatten_nil, List.append_nil, List.nil_append] at t3 w3 F7
 have hl11 : (H10 ++ [some (AObj.cells [u])]).length = H10.length + 1 := by simp
 have G7 : FAt go 0 1 A.length H11 := (cw2.same go (by omega) hge hfg (by omega) gp3).trans (g7.cells G6')
 have gp4 : go ∉ idS p4 := fun q => (cw2.ids go q).elim gp3 (fun q => by omega)
 have hr3 : readS s3 1 (A.length : Int) 200 = (C, 0) := by
  have := t3.read (pos := A.length) (n := 200) (by simp) (by omega) (by rw [List.length_append]; omega)
  rw [List.drop_left, List.take_of_length_le (by omega)] at this
  exact this
 simp only [zmZ, List.getElem?_cons_succ, List.getElem?_cons_zero, bO_some]
 obtain ⟨R3, hR3, r, H12, ⟨rfl, G8, b8⟩, hc⟩ := CRead_c G7 st7 w3 (by omega) hge 200 (by omega) (by rw [hr3]; simp only; omega)
 rw [hr3] at hR3 G8 hc
 refine bC_of hc ?_
 have F8 := b8.at F7 (Ne.symm hfg)
 obtain ⟨r1, sl1, sl2, -⟩ := aslS_spec (svB hv H12) (lo := some (I (k : Int))) (hi := none) (l := k) (k := A.length) (abnd_nat _ _) rfl hk (Nat.le_refl _)
 have sl3 : zaZ H12 1 r1 = some (encB (A.drop k), A.length - k) := by
  rw [sl2, Nat.mul_one, Nat.mul_one, encB, ← List.map_drop, List.take_of_length_le (by rw [List.length_map, List.length_drop]; omega)]; rfl
 have F9 : FAt fo 0 1 ((A.length + C.length : Nat) : Int) H12 := by
  have e : (((A ++ C).length : Nat) : Int) = ((A.length + C.length : Nat) : Int) := by rw [List.length_append]
  rw [← e]; exact F8
 have G9 : FAt go 0 1 ((A.length + C.length : Nat) : Int) H12 := by
  have e : (A.length : Int) + C.length = ((A.length + C.length : Nat) : Int) := by omega
  rw [← e]; exact G8
 have ea : abI .add (I (A.length : Int)) (I (C.length : Int)) = some (I ((A.length + C.length : Nat) : Int)) := by rw [abI_add (by omega) (by omega)]; congr 3
 have lC : ((([(u, C)] : List (AV × List UInt8)).map Prod.snd).flatten).length = C.length := by simp
 simp only [zmZ, List.getElem?_cons_succ, List.getElem?_cons_zero, bO_some, bG_bool, beq_self_eq_true, gO_true, acB_spec (svB hR1 H12), sl1, acB_spec sl3, abT_eql, decide_true, zbhZ, if_true, hR2.len, List.length_nil, Int.natCast_zero, abI_eql, lC, hu.len, hv.len, acB_spec (svB hR3 H12), acB_spec (svB hu H12), zeZ, zqZ, Nat.zero_add, gC_true]
 refine bC_of (Tell_c F9) ?_
 simp only [bG_bool, beq_self_eq_true, gO_true, bO_some, hv.len, hu.len, ea, abI_eql, decide_true, zbhZ, if_true, zeZ, zqZ, Nat.zero_add, gC_true]
 refine bC_of (Tell_c G9) ?_
 refine bC_of (Tell_c F9) ?_
 simp only [abI_eql, decide_true, bO_some, bG_bool, beq_self_eq_true, gP_true, bI_true]
 refine bP_of zhcZ ?_
 simp only [zbhZ, if_true, bO_some]
 exact ⟨trivial, trivial, by trivial⟩
end Go.Proofs.Ytofgloiebnppbaa.Av
namespace Go.Proofs.Ytofgloiebnppbaa
theorem cursorTwo_holds : Rows.CursorTwoSaid := cursorTwo_of Av.cursorTwo_calls
#print axioms cursorTwo_holds
end Go.Proofs.Ytofgloiebnppbaa
end
