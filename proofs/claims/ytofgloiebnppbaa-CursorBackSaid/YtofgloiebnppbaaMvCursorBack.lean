/- The law and its row. No condition. -/
import Derived.Test.YtofgloiebnppbaaMvH
import Derived.Below
import Derived.Carry
import Derived.ChangeOld
import Derived.OpenShut
import Derived.ProofKit
import Derived.ShutString
import Derived.SizedLaws
import Derived.Test.YtofgloiebnppbaaRows
import Derived.WalkKit
/-! YtofgloiebnppbaaLCursorBack -/
section
/- The row of the law CursorBack, out of what a call of it comes to. No condition. Printed by a program of this session. -/
set_option linter.unusedVariables false
namespace Go.Proofs.Ytofgloiebnppbaa.Av
open Go Go.RowKit
noncomputable def cursorBack_r0 : Rd Try.prog 55 (Sl (Sl UInt8)) := (Rd.slice (Rd.slice (Rd.byte Try.underlying5 (by kernel_rfl)) Try.underlying28 (by kernel_rfl)) Try.underlying55 (by kernel_rfl))
noncomputable def cursorBack_r1 : Rd Try.prog 5 UInt8 := (Rd.byte Try.underlying5 (by kernel_rfl))
end Go.Proofs.Ytofgloiebnppbaa.Av
namespace Go.Proofs.Ytofgloiebnppbaa
open Go.ChangeShapes Go.WideShapes Go.ChangeAt Go.RowKit
namespace cursorBack
set_option maxRecDepth 100000 in
theorem lifted (calls : ∀ (x0 : (Av.Sl (Av.Sl UInt8))), Av.cursorBack_r0.ok x0 → ∀ (x1 : UInt8), Av.cursorBack_r1.ok x1 → Av.ACalls Try.prog 6 (Av.cursorBack_r0.enc x0 ++ Av.cursorBack_r1.enc x1) [] fun r _ => r = .lit (.bool true)) (os : Os) (started : os.Started) (H : Type) (enc : TypeId × Value → H) :
  ReturnsInHanded {} Try.checked os 6 .any (Rows.cursorBackSpec.pre6 enc Try.prog Try.f6 Rows.cursorBackRow.domain false) (Rows.cursorBackSpec.post enc Try.prog Try.f6 false true false false) := by
 refine returnsInHanded_of_change_sized (C := Try.checked) Av.own started (by kernel_rfl) Try.func6
  (ChangeSpec.witness6 (enc := enc) (C := Try.checked) false ⟨#[], #[.slice none 0 0, .int .u8 0], []⟩ 8 (by kernel_rfl) (by kernel_rfl) (by kernel_rfl) (by kernel_rfl)) ?_
 intro W base args ds gs before hval0 hW hcnd hsz0 _
 have hval : ∀ (j : Nat) t v, Try.f6.params[j]? = some t → args[j]? = some v → Value.okWide Try.prog W .any base t v := hval0
 have hW' := hW
 obtain ⟨p, q, hA0, hV, rfl, hfz, hnd⟩ := hW
 have hA : DataW.TrodAll enc Try.prog W 0 (fun _ => true) true Try.f6.params.toList args.toList ds p := hA0
 rw [Try.params6] at hA hval
 obtain ⟨v0, vs0, d0, ds0, p0, q0, hargs, rfl, rfl, h0, r0⟩ := trodAll_cons hA
 obtain ⟨v1, vs1, d1, ds1, p1, q1, rfl, rfl, rfl, h1, r1⟩ := trodAll_cons r0
 obtain ⟨rfl, rfl, rfl⟩ := trodAll_nil r1
 obtain rfl : args = #[v0, v1] := by cases args; simp_all
 obtain ⟨rfl, rfl⟩ := trodVars_none hV
 obtain ⟨b0, len0, cap0, rfl⟩ := okWide_slice Try.underlying55 (hval 0 55 v0 rfl rfl)
 have lt0 : ∀ x ∈ p0, x.block < W.heap.size := by obtain ⟨m, hm⟩ := h0; exact DataW.trod_lt m _ _ _ hm
 obtain ⟨x0, ok0, vr0⟩ := Av.cursorBack_r0.arg1 rfl h0
 obtain ⟨b1, rfl⟩ := okWide_int Try.underlying5 (hval 1 5 v1 rfl rfl)
 have lt1 : ∀ x ∈ p1, x.block < W.heap.size := by obtain ⟨m, hm⟩ := h1; exact DataW.trod_lt m _ _ _ hm
 obtain ⟨x1, ok1, vr1⟩ := Av.cursorBack_r1.arg1 rfl h1
 refine (Av.law_calls (calls x0 ok0 x1 ok1) W (vr0.append vr1)).mono fun e W' ⟨he, bel⟩ => ?_
 subst he
 exact ⟨_, rfl, _, _, _, [], _, [], hW', trodAll_mk1 (shut_bool Try.underlying4 _), (trodAll_cons_mk (Below.trod Av.laidOut (by kernel_rfl) (of_decide_eq_true (by kernel_rfl)) h0 bel lt0) (trodAll_cons_mk (Below.trod Av.laidOut (by kernel_rfl) (of_decide_eq_true (by kernel_rfl)) h1 bel lt1) trodAll_mk0)), rfl, bel.frame _, fun h => by cases h⟩
end cursorBack
theorem cursorBack_of (calls : ∀ (x0 : (Av.Sl (Av.Sl UInt8))), Av.cursorBack_r0.ok x0 → ∀ (x1 : UInt8), Av.cursorBack_r1.ok x1 → Av.ACalls Try.prog 6 (Av.cursorBack_r0.enc x0 ++ Av.cursorBack_r1.enc x1) [] fun r _ => r = .lit (.bool true)) : Rows.CursorBackSaid :=
 OpenClaim.holds_of_wide 6 Try.f6 rfl rfl rfl rfl rfl rfl rfl ⟨rfl, rfl, rfl, rfl, rfl⟩ rfl rfl rfl rfl rfl (by kernel_rfl) Try.func6 (by kernel_rfl)
  (of_decide_eq_true (by kernel_rfl)) (by unfold Func.isWrapper; first | (rw [if_pos (by decide +kernel)]; kernel_rfl) | (rw [if_neg (by decide +kernel)]; exact ⟨rfl, rfl⟩))
  (fun os started H enc _ => cursorBack.lifted calls os started H enc)
end Go.Proofs.Ytofgloiebnppbaa
end
/-! YtofgloiebnppbaaAvCursorBack -/
section
/- The law CursorBack: what is written, in any pieces, is read from the beginning on, in any pieces. No condition. -/
set_option linter.unusedVariables false
set_option linter.unusedSimpArgs false
set_option maxRecDepth 100000
set_option maxHeartbeats 2000000
namespace Go.Proofs.Ytofgloiebnppbaa.Av
open Go Go.RowKit

theorem openX : ∃ s, openS (newS 4096) [120, 45, 49] true = ((1, 0), s) ∧ s.off = false ∧ s.now = oneN [120, 45, 49] 0 [] ∧ s.cap = 4096 ∧ s.armed = -1 := ⟨_, rfl, rfl, by decide, rfl, rfl⟩
def slB (y : Sl UInt8) : AV := if y.nil then .lit (.slice none 0 0) else .imm (y.l.flatMap encU) y.l.length 1
theorem slB_sv (x : Sl UInt8) (hn : x.nil = true → x.l = []) : SV encU 1 x.l (slB x) := by
 unfold slB
 cases hnil : x.nil with
 | true => simp only [if_true]; rw [hn hnil]; exact SV.nil
 | false => simp only [Bool.false_eq_true, if_false]; exact SV.imm (fun _ => rfl) (fun x hx => rfl)
def encS (y : Sl UInt8) : List AV := [slB y]
theorem encS_len (y : Sl UInt8) : (encS y).length = 1 := rfl
theorem slB_noIds (x : Sl UInt8) : noIds (slB x) = true := by
 unfold slB
 split
 ·rfl
 ·simp only [noIds]; exact zfcZ fun _ _ => rfl
theorem rdh_S (x : Sl UInt8) (t : List AV) : rdCells false 1 (encS x ++ t) 0 = some (slB x) := rfl
def flS (l : List (Sl UInt8)) : List UInt8 := (l.map Sl.l).flatten
theorem flS_len {l : List (Sl UInt8)} : (∀ y ∈ l, y.l.length ≤ 100) → (flS l).length ≤ 100 * l.length := by
 intro h
 induction l with
 | nil => simp [flS]
 | cons y l ih =>
  have h1 := h y (by simp)
  have h2 := ih fun z hz => h z (by simp [hz])
  unfold flS at h2 ⊢
  simp only [List.map_cons, List.flatten_cons, List.length_append, List.length_cons]
  omega
theorem cursorBack_calls (x0 : Sl (Sl UInt8)) (h0 : cursorBack_r0.ok x0) (x1 : UInt8) (h1 : cursorBack_r1.ok x1) : ACalls Try.prog 6 (cursorBack_r0.enc x0 ++ cursorBack_r1.enc x1) [] fun r _ => r = .lit (.bool true) := by
 obtain ⟨hn, hlen, hel⟩ := h0
 have hv : SV encS 1 x0.l (if x0.nil then .lit (.slice none 0 0) else .imm (x0.l.flatMap encS) x0.l.length 1) := by
  cases hnil : x0.nil with
  | true => simp only [if_true]; rw [hn hnil]; exact SV.nil
  | false => simp only [Bool.false_eq_true, if_false]; exact SV.imm (fun _ => rfl) (fun x hx => by simp only [encS, noIdss, slB_noIds]; rfl)
 have hargs : cursorBack_r0.enc x0 ++ cursorBack_r1.enc x1 = [if x0.nil then .lit (.slice none 0 0) else .imm (x0.l.flatMap encS) x0.l.length 1, .lit (.int .u8 x1.toNat)] := rfl
 rw [hargs]
 generalize (if x0.nil then AV.lit (.slice none 0 0) else .imm (x0.l.flatMap encS) x0.l.length 1) = v at hv
 have hok : ∀ y ∈ x0.l, SV encU 1 y.l (slB y) := fun y hy => slB_sv y (hel y hy).1
 generalize x0.l = L at *
 clear hargs hel hlen hn h1
 have hb8 := x1.toNat_lt
 generalize x1.toNat = n at hb8
 refine zjjZ ?_
 unfold zdzZ
 simp only [hv.len, bO_some, abI_gtr, bB_bool]
 by_cases hl : 30 < L.length
 ·have hl' : (30 : Int) < (L.length : Int) := by omega
  simp only [hl', decide_true, bI_true]
  exact bP_pure zhcZ (by trivial)
 have hl' : ¬ (30 : Int) < (L.length : Int) := by omega
 simp only [hl', decide_false, zbaZ]
 obtain ⟨r, H1, ⟨p, rfl, l1, st0, g, hid⟩, hc⟩ := New_c 4096 [] (by omega)
 refine bC_of hc ?_
 have el1 : H1.length = 1 := l1
 have e2 : ∀ o, abN .eql nilP (.ptr o 0) (.lit (.pointer none)) = some (B false) := fun _ => rfl
 simp only [e2, bO_some, bB_bool, zbaZ]
 obtain ⟨s1, o1, o2, o3, o4, o5⟩ := openX
 have hw1 := openS_w (newS_w 4096) [120, 45, 49] true
 obtain ⟨r, H5, ⟨p1, fo, rfl, hfo, F1, fp1, st1, sf1⟩, hc⟩ := COpen_c st0 (newS_w 4096) (by omega) (name := [120, 45, 49]) (by simp) true (by rw [o1])
 rw [o1] at hw1 st1 F1
 have t1 : Txt [120, 45, 49] 4096 [] s1 := Txt.first o3 (by decide) o4 o2 o5
 refine bC_of hc ?_
 simp only [zmZ, List.getElem?_cons_succ, List.getElem?_cons_zero, bO_some, e2, bG_bool, beq_self_eq_true, gO_true, abI_neq, ne_eq, not_true_eq_false, decide_false, zbhZ, if_false, Bool.false_eq_true, bB_bool, zbaZ]
 have hne : fo ≠ 0 := by omega
 refine zgvZ (fun m y0 y1 x6 x8 x9 H' => ∃ k : Nat, k + m = L.length ∧ v = y0 ∧ y1 = .lit (.int .u8 (n : Int)) ∧ x6 = .ptr fo 0 ∧ x8 = S (bstr (flS (L.take k))) ∧ x9 = I k ∧ H' = H5 ∧ ∀ y ∈ L.take k, y.l.length ≤ 100) ?_ L.length ⟨0, by omega, rfl, rfl, rfl, rfl, rfl, rfl, by simp⟩
 rintro m y0 y1 x6 x8 x9 H' R hR ⟨k, hk, ev, rfl, rfl, rfl, rfl, rfl, hsm⟩
 subst ev
 unfold zcxZ
 have hfl := flS_len hsm
 have htk : (L.take k).length ≤ 30 := by rw [List.length_take]; omega
 rcases Nat.lt_or_ge k L.length with h | h
 ·have hx := List.getElem?_eq_getElem h
  have hy := hok L[k] (List.getElem_mem h)
  generalize L[k] = y at hx hy
  have kI : (k : Int) < (L.length : Int) := by omega
  simp only [hv.len, abI_lss, bO_some, bB_bool, kI, decide_true, bI_true, hv.idx encS_len hx rfl, ald_ip, rdh_S, hy.len, abI_gtr]
  by_cases c : 100 < y.l.length
  ·have c' : (100 : Int) < (y.l.length : Int) := by omega
   simp only [c', decide_true, bI_true]
   exact bP_pure zhcZ (by trivial)
  ·have c' : ¬ (100 : Int) < (y.l.length : Int) := by omega
   simp only [c', decide_false, zbaZ, acB_spec (hy.bytes _), bO_some, abT_add (a := flS (L.take k)) (b := y.l) (by omega), abI_add (a := k) (b := 1) (by omega) (by omega)]
   refine hR (m - 1) _ _ _ _ _ _ (by omega) ⟨k + 1, by omega, rfl, rfl, rfl, ?_, by simp, rfl, ?_⟩
   ·rw [take_snoc hx]; unfold flS; simp
   ·rw [take_snoc hx]
    intro z hz
    simp only [List.mem_append, List.mem_singleton] at hz
    rcases hz with hz | rfl
    ·exact hsm z hz
    ·omega
 have kI : ¬ (k : Int) < (L.length : Int) := by omega
 have ek : L.take k = L := List.take_of_length_le h
 rw [ek] at hsm hfl ⊢
 simp only [hv.len, abI_lss, bO_some, bB_bool, kI, decide_false, zbaZ]
 have efl : ((L.map fun y => (slB y, y.l)).map Prod.snd).flatten = flS L := by unfold flS; rw [List.map_map]; rfl
 generalize hT : flS L = T at *
 have hT3 : T.length ≤ 3000 := by omega
 refine ⟨_, TWrite_a (bl := L.map fun y => (slB y, y.l)) t1 st1 F1 ⟨hne, fp1⟩ hw1 (by
  have := hv.2 H'
  rw [this, List.map_map, List.length_map]
  congr 2
  rw [List.map_eq_flatMap]; rfl) (by rw [hv.noId]; simp) (by
  intro x hx
  obtain ⟨y, hy, rfl⟩ := List.mem_map.1 hx
  exact ⟨(hok y hy).bytes _, SV.oneA (hok y hy), by have := hsm y hy; simp only; omega, by simp only [(hok y hy).noId]; simp⟩) (by rw [List.length_map]; omega) (by rw [efl]; omega) (by rw [efl]; simp; omega) (by rw [efl]; simp; omega), ?_⟩
 rintro r H7 ⟨s2, p3, rfl, t2, w2, st3, F3, fp3, cw⟩
 rw [efl] at t2 w2 F3 ⊢
 rw [List.nil_append] at t2 F3
 have eT : alnT (S (bstr T)) = some (I (T.length : Nat)) := alnT_spec (by omega)
 simp only [zmZ, List.getElem?_cons_succ, List.getElem?_cons_zero, bO_some, eT, abI_neq, ne_eq, not_true_eq_false, decide_false, bG_bool, beq_self_eq_true, gO_true, zbhZ, if_false, Bool.false_eq_true, zeZ, zqZ, Nat.zero_add, gC_true]
 refine bC_of (Tell_c F3) ?_
 simp only [bO_some, eT, abI_neq, ne_eq, not_true_eq_false, decide_false, bG_bool, beq_self_eq_true, gO_true, zbhZ, if_false, Bool.false_eq_true, zeZ, zqZ, Nat.zero_add, gC_true]
 obtain ⟨r, H8, ⟨rfl, F4, b4⟩, hc⟩ := Seek_c F3 (n := 0) (by omega)
 refine bC_of hc ?_
 have st4 := b4.st st3 hne fp3
 simp only [aun_not, Bool.not_true, bO_some, gO_true, zbhZ, if_false, Bool.false_eq_true, bB_bool, zbaZ]
 refine zgoZ (fun m y1 x6 x8 x12 H' => ∃ j : Nat, j + m = T.length ∧ y1 = .lit (.int .u8 (n : Int)) ∧ x6 = .ptr fo 0 ∧ x8 = S (bstr T) ∧ x12 = S (bstr (T.take j)) ∧ StAt s2 0 p3 H' ∧ FAt fo 0 1 j H') ?_ T.length ⟨0, by omega, rfl, rfl, rfl, rfl, st4, F4⟩
 rintro m y1 x6 x8 x12 H9 R hR ⟨j, hj, rfl, rfl, rfl, rfl, st5, F5⟩
 unfold zcwZ
 have eO : alnT (S (bstr (T.take j))) = some (I ((T.take j).length : Nat)) := alnT_spec (by rw [List.length_take]; omega)
 have ej : (T.take j).length = j := by rw [List.length_take]; omega
 rw [ej] at eO
 simp only [eO, eT, bO_some, abI_lss, bB_bool]
 by_cases c : j < T.length
 ·have c' : (j : Int) < (T.length : Int) := by omega
  have e3 : abI .rem (.lit (.int .u8 (n : Int))) (.lit (.int .u8 50)) = some (.lit (.int .u8 ((n % 50 : Nat) : Int))) := by
   have : abI .rem (.lit (.int .u8 (n : Int))) (.lit (.int .u8 (50 : Nat))) = some (.lit (.int .u8 ((n % 50 : Nat) : Int))) := by
    rw [abI_rem (by omega) (by omega)]; congr 3
   exact this
  have hn50 : n % 50 < 50 := Nat.mod_lt _ (by omega)
  have e4 : acI .i64 (.lit (.int .u8 ((n % 50 : Nat) : Int))) = some (I ((n % 50 : Nat) : Int)) := acI_i64 (by omega) (by omega)
  have e5 : abI .add (I ((n % 50 : Nat) : Int)) (.lit (.int .i64 1)) = some (I ((n % 50 + 1 : Nat) : Int)) := by rw [abI_add (by omega) (by omega)]; congr 3
  simp only [c', decide_true, bI_true, e3, e4, e5, bO_some]
  generalize hm : n % 50 + 1 = q
  have hr := t2.read (pos := j) (n := q) (by omega) (by omega) (by omega)
  have hlen : ((T.drop j).take q).length = min q (T.length - j) := by rw [List.length_take, List.length_drop]
  obtain ⟨Rb, hRb, r, H10, ⟨rfl, F6, b6⟩, hc⟩ := CRead_c F5 st5 w2 (by omega) hne (q : Int) (by omega) (by rw [hr]; simp only [hlen]; omega)
  rw [hr] at hRb F6 hc
  refine bC_of hc ?_
  have nz : ¬ (((T.drop j).take q).length : Int) = 0 := by omega
  have ea : abT .add (S (bstr (T.take j))) (S (bstr ((T.drop j).take q))) = some (S (bstr (T.take j ++ (T.drop j).take q))) := abT_add (by rw [ej, hlen]; omega)
  simp only [zmZ, List.getElem?_cons_succ, List.getElem?_cons_zero, bO_some, abI_neq, ne_eq, not_true_eq_false, decide_false, bG_bool, beq_self_eq_true, gO_true, hRb.len, abI_eql, nz, zbhZ, if_false, Bool.false_eq_true, bB_bool, zbaZ, acB_spec (hRb.bytes H10), ea]
  refine hR (m - min q (T.length - j)) _ _ _ _ _ (by omega) ⟨j + min q (T.length - j), by omega, rfl, rfl, rfl, ?_, b6.st st5 hne fp3, ?_⟩
  ·congr 3
   rw [List.take_add]
   congr 1
   rw [List.take_eq_take_iff, List.length_drop]
   omega
  ·have e : (j : Int) + ((T.drop j).take q).length = ((j + min q (T.length - j) : Nat) : Int) := by omega
   rw [e] at F6
   exact F6
 ·have c' : ¬ (j : Int) < (T.length : Int) := by omega
  have ejT : j = T.length := by omega
  subst ejT
  simp only [c', decide_false, zbaZ]
  have hr : readS s2 1 (T.length : Int) 9 = ([], 0) := by
   have := t2.read (pos := T.length) (n := 9) (by omega) (by omega) (by omega)
   rw [List.drop_length] at this
   simpa using this
  obtain ⟨Rb, hRb, r, H10, ⟨rfl, F6, b6⟩, hc⟩ := CRead_c F5 st5 w2 (by omega) hne 9 (by omega) (by rw [hr]; simp)
  rw [hr] at hRb F6 hc
  refine bC_of hc ?_
  rw [List.take_length]
  simp only [zmZ, List.getElem?_cons_succ, List.getElem?_cons_zero, bO_some, abT_eql, decide_true, bG_bool, beq_self_eq_true, gO_true, hRb.len, List.length_nil, Int.natCast_zero, abI_eql, zbhZ, if_true, gP_true]
  exact bP_pure zhcZ (by trivial)
end Go.Proofs.Ytofgloiebnppbaa.Av
namespace Go.Proofs.Ytofgloiebnppbaa
theorem cursorBack_holds : Rows.CursorBackSaid := cursorBack_of Av.cursorBack_calls
#print axioms cursorBack_holds
end Go.Proofs.Ytofgloiebnppbaa
end
