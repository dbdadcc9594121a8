/- Walking a text with symbols: code, loops, whole functions. -/
import Derived.Test.YthgkepaadkmhoaaAvXd
import Derived.LoopN
set_option linter.unusedVariables false
set_option linter.unusedSimpArgs false
namespace Go.Proofs.Ythgkepaadkmhoaa.Av
open Go Go.RowKit

section
variable {P : Program}
/-- A loop comes to just that, within n rounds. -/
def BRounds (P : Program) (b : Code) (e : Exit) (T' : List AV) (H' : AH) : Nat → List AV → AH → Prop
  | 0, _, _ => False
  | n + 1, T, H => (∃ T1 H1, BCode P b T H .normal T1 H1 ∧ BRounds P b e T' H' n T1 H1) ∨ (e ≠ .normal ∧ BCode P b T H e T' H')
theorem BRounds.code {b : Code} {e : Exit} {T' : List AV} {H' : AH} {n : Nat} {T : List AV} {H : AH} (h : BRounds P b e T' H' n T H) : BCode P (.loop b) T H e T' H' := by
  intro G0 G a hE hF hd hH
  refine wp_loop_rounds n ?_
  induction n generalizing T H G a with
  | zero => exact h.elim
  | succ n ih =>
    rw [rounds_succ]
    rcases h with ⟨T1, H1, hb, hr⟩ | ⟨hne, hb⟩
    · refine Code.wp_mono ?_ (hb G0 G a hE hF hd hH)
      rintro e' a' w' ⟨T2, H2, G', rfl, hE', hF', hd', hH', hq⟩
      simp only [AQ.is, Prod.mk.injEq] at hq
      obtain ⟨rfl, rfl, rfl⟩ := hq
      exact ih hr G' a' hE' hF' hd' hH'
    · refine Code.wp_mono ?_ (hb G0 G a hE hF hd hH)
      rintro e' a' w' ⟨T2, H2, G', rfl, hE', hF', hd', hH', hq⟩
      have hq' := hq
      simp only [AQ.is, Prod.mk.injEq] at hq'
      obtain ⟨rfl, rfl, rfl⟩ := hq'
      cases e' with
      | normal => exact absurd rfl hne
      | _ => exact ⟨_, _, G', rfl, hE', hF', hd', hH', hq⟩
/-- A loop, told. -/
def WLoop (P : Program) (b : Code) (T : List AV) (H : AH) (K : Exit → List AV → AH → Prop) : Prop := ∃ e T' H' n, K e T' H' ∧ BRounds P b e T' H' n T H
/-- What floats in each region (by its number). -/
abbrev Floats := Nat → List (Nat × Option Nat)
def noFloats : Floats := fun _ => []
/-- Each drawn region of a text may be walked as it is written. -/
def codeOk (fl : Floats) (ql : FuncId → Bool) : Code → Bool
  | .region id ops true => ordOk ops.toList && chainOk ql ops.toList && decide (floats ql ops.toList = fl id)
  | .seq a b => codeOk fl ql a && codeOk fl ql b
  | .cond _ a b => codeOk fl ql a && codeOk fl ql b
  | .block _ b => codeOk fl ql b
  | .loop b => codeOk fl ql b
  | _ => true
def wCode (P : Program) (fl : Floats) (ql : FuncId → Bool) : Code → List AV → AH → (Exit → List AV → AH → Prop) → Prop
  | .skip, T, H, K => K .normal T H
  | .label _, T, H, K => K .normal T H
  | .ret, T, H, K => K .ret T H
  | .exit id, T, H, K => K (.exit id) T H
  | .region _ ops false, T, H, K => wOps P ql false ops ops.toList T H (K .normal)
  | .region id ops true, T, H, K => match fl id with
    | [] => wOps P ql true ops ops.toList T H (K .normal)
    | f => wOpsD P ql ops H f ops.toList T H [] (K .normal)
  | .seq a b, T, H, K => wCode P fl ql a T H fun e T' H' => match e with
    | .normal => wCode P fl ql b T' H' K
    | e => K e T' H'
  | .cond c a b, T, H, K => match aeval T c with
    | .lit (.bool t) => if t then wCode P fl ql a T H K else wCode P fl ql b T H K
    | _ => False
  | .block id b, T, H, K => wCode P fl ql b T H fun e T' H' => match e with
    | .exit j => if j = id then K .normal T' H' else K (.exit j) T' H'
    | e => K e T' H'
  | .loop b, T, H, K => WLoop P b T H K
  | _, _, _, _ => False
theorem wOps_still' {ql : FuncId → Bool} {ops : Array Oper} (l : List Oper) (T : List AV) (H : AH) (K : List AV → AH → Prop) (h : wOps P ql false ops l T H K) : ∃ T' H', K T' H' ∧ AOps P ops (AQ.is (.normal, T', H')) l T H := wOps_still l T H K h
theorem wOps_log {ql : FuncId → Bool} {ops : Array Oper} {H0 : AH} : ∀ (l : List Oper) (T : List AV) (H : AH) (lg : List (List AV × AH × AV)) (K : List AV → AH → Prop), wOps P ql true ops l T H K → wOpsD P ql ops H0 [] l T H lg K
  | [], T, H, lg, K, h => ⟨trivial, h⟩
  | o :: l, T, H, lg, K, h => by
    unfold wOps at h
    unfold wOpsD
    split at h
    · exact h.elim
    · exact wOps_log l _ _ _ K h
    · split at h
      · exact wOps_log l _ _ _ K h
      · obtain ⟨r, H1, hc, h⟩ := h
        exact ⟨r, H1, hc, wOps_log l _ _ _ K h⟩
theorem wCode_ok {fl : Floats} {ql : FuncId → Bool} (hm : P.follows .mixedOrders = true) : ∀ (c : Code) (T : List AV) (H : AH) (K : Exit → List AV → AH → Prop), codeOk fl ql c = true → wCode P fl ql c T H K → ∃ e T' H', K e T' H' ∧ BCode P c T H e T' H'
  | .skip, T, H, K, _, h => ⟨_, _, _, h, ACode.skip rfl⟩
  | .label _, T, H, K, _, h => ⟨_, _, _, h, ACode.label rfl⟩
  | .ret, T, H, K, _, h => ⟨_, _, _, h, ACode.ret rfl⟩
  | .exit id, T, H, K, _, h => ⟨_, _, _, h, ACode.exit rfl⟩
  | .region id ops false, T, H, K, _, h => by
    obtain ⟨T', H', hk, ha⟩ := wOps_still _ _ _ _ h
    exact ⟨_, T', H', hk, ACode.region ha⟩
  | .region id ops true, T, H, K, hc, h => by
    obtain ⟨T', H', hk, ha⟩ := BCode.draw (P := P) ql (id := id) (ops := ops.toList) (fl := fl id) hm (by simpa only [codeOk] using hc) (by
      simp only [wCode] at h
      split at h
      · rename_i hfl; rw [hfl]; exact wOps_log _ _ _ _ _ h
      · exact h)
    exact ⟨_, T', H', hk, by simpa using ha⟩
  | .seq a b, T, H, K, hc, h => by
    simp only [codeOk, Bool.and_eq_true] at hc
    obtain ⟨e, T1, H1, hk, ha⟩ := wCode_ok hm a T H _ hc.1 h
    cases e with
    | normal =>
      obtain ⟨e, T2, H2, hk, hb⟩ := wCode_ok hm b T1 H1 K hc.2 hk
      refine ⟨e, T2, H2, hk, ACode.seq (ha.mono ?_)⟩
      rintro e' T3 H3 hq
      simp only [AQ.is, Prod.mk.injEq] at hq
      obtain ⟨rfl, rfl, rfl⟩ := hq
      exact hb
    | _ =>
      refine ⟨_, T1, H1, hk, ACode.seq (ha.mono ?_)⟩
      rintro e' T3 H3 hq
      have hq' := hq
      simp only [AQ.is, Prod.mk.injEq] at hq'
      obtain ⟨rfl, rfl, rfl⟩ := hq'
      exact hq
  | .cond c a b, T, H, K, hc, h => by
    simp only [codeOk, Bool.and_eq_true] at hc
    unfold wCode at h
    split at h
    · rename_i t ht
      split at h
      · rename_i htt
        obtain ⟨e, T1, H1, hk, ha⟩ := wCode_ok hm a T H K hc.1 h
        refine ⟨e, T1, H1, hk, ACode.cond ht ?_⟩
        rw [if_pos htt]; exact ha
      · rename_i htt
        obtain ⟨e, T1, H1, hk, ha⟩ := wCode_ok hm b T H K hc.2 h
        refine ⟨e, T1, H1, hk, ACode.cond ht ?_⟩
        rw [if_neg htt]; exact ha
    · exact h.elim
  | .block id b, T, H, K, hc, h => by
    simp only [codeOk] at hc
    obtain ⟨e, T1, H1, hk, ha⟩ := wCode_ok hm b T H _ hc h
    cases e with
    | exit j =>
      simp only at hk
      split at hk
      · rename_i hj
        refine ⟨_, T1, H1, hk, ACode.block (ha.mono ?_)⟩
        rintro e' T3 H3 hq
        simp only [AQ.is, Prod.mk.injEq] at hq
        obtain ⟨rfl, rfl, rfl⟩ := hq
        simp only [AQ.inBlock, if_pos hj]
        rfl
      · rename_i hj
        refine ⟨_, T1, H1, hk, ACode.block (ha.mono ?_)⟩
        rintro e' T3 H3 hq
        simp only [AQ.is, Prod.mk.injEq] at hq
        obtain ⟨rfl, rfl, rfl⟩ := hq
        simp only [AQ.inBlock, if_neg hj]
        rfl
    | _ =>
      refine ⟨_, T1, H1, hk, ACode.block (ha.mono ?_)⟩
      rintro e' T3 H3 hq
      simp only [AQ.is, Prod.mk.injEq] at hq
      obtain ⟨rfl, rfl, rfl⟩ := hq
      rfl
  | .loop b, T, H, K, hc, h => by
    obtain ⟨e, T', H', n, hk, hr⟩ := h
    exact ⟨e, T', H', hk, hr.code⟩
  | .rangeFunc .., _, _, _, _, h => h.elim
  | .scope _, _, _, _, _, h => h.elim
  | .goto _, _, _, _, _, h => h.elim
  | .refuse _, _, _, _, _, h => h.elim
/-- One round of a loop. -/
theorem WLoop.round {fl : Floats} {ql : FuncId → Bool} (hm : P.follows .mixedOrders = true) {b : Code} {T : List AV} {H : AH} {K : Exit → List AV → AH → Prop} (hc : codeOk fl ql b = true)
    (h : wCode P fl ql b T H fun e T1 H1 => match e with
      | .normal => WLoop P b T1 H1 K
      | e => K e T1 H1) : WLoop P b T H K := by
  obtain ⟨e, T1, H1, hk, hb⟩ := wCode_ok hm b T H _ hc h
  cases e with
  | normal =>
    obtain ⟨e, T', H', n, hk, hr⟩ := hk
    exact ⟨e, T', H', n + 1, hk, .inl ⟨T1, H1, hb, hr⟩⟩
  | _ => exact ⟨_, T1, H1, 1, hk, .inr ⟨by simp, hb⟩⟩
/-- A loop, by what holds at each round's head, n going down. -/
theorem WLoop.upto {fl : Floats} {ql : FuncId → Bool} (hm : P.follows .mixedOrders = true) {b : Code} {K : Exit → List AV → AH → Prop} (hc : codeOk fl ql b = true) (I : Nat → List AV → AH → Prop)
    (round : ∀ n T H, I n T H → wCode P fl ql b T H fun e T1 H1 => match e with
      | .normal => ∃ m, m < n ∧ I m T1 H1
      | e => K e T1 H1) : ∀ (n : Nat) {T : List AV} {H : AH}, I n T H → WLoop P b T H K := by
  intro n
  induction n using Nat.strongRecOn with
  | _ n ih =>
    intro T H hI
    obtain ⟨e, T1, H1, hk, hb⟩ := wCode_ok hm b T H _ hc (round n T H hI)
    cases e with
    | normal =>
      obtain ⟨m, hlt, hI'⟩ := hk
      obtain ⟨e, T', H', k, hk, hr⟩ := ih m hlt hI'
      exact ⟨e, T', H', k + 1, hk, .inl ⟨T1, H1, hb, hr⟩⟩
    | _ => exact ⟨_, T1, H1, 1, hk, .inr ⟨by simp, hb⟩⟩
theorem WLoop.mono {b : Code} {T : List AV} {H : AH} {K K' : Exit → List AV → AH → Prop} (h : WLoop P b T H K) (hk : ∀ e T H, K e T H → K' e T H) : WLoop P b T H K' := by
  obtain ⟨e, T', H', n, k, hr⟩ := h
  exact ⟨e, T', H', n, hk _ _ _ k, hr⟩
/-- What is returned, handed on. -/
def wRet (P : Program) (res : List ResultVar) (K : AV → AH → Prop) (e : Exit) (T : List AV) (H : AH) : Prop :=
  isOut e = true ∧ match ares P H T res with
    | some xs => K (mkres xs) H
    | none => False
/-- A function's call, by its text. -/
theorem BCall.walk (fl : Floats) (ql : FuncId → Bool) (hm : P.follows .mixedOrders = true) {f : FuncId} {fn : Func} {c : Code} {args : List AV} {H : AH} {K : AV → AH → Prop} (hf : P.funcs[f]? = some fn) (hb : fn.body = some c) (hc : codeOk fl ql c = true)
    (h : wCode P fl ql c (args ++ List.replicate (fn.ntmps - args.length) undefA) H (wRet P fn.results.toList K)) : ∃ r H', K r H' ∧ BCall P f args H r H' := by
  obtain ⟨e, T', H', hk, hb'⟩ := wCode_ok hm c _ H _ hc h
  unfold wRet at hk
  obtain ⟨ho, hk⟩ := hk
  split at hk
  · rename_i xs hxs
    refine ⟨_, H', hk, ACalls.of_body hf hb (hb'.mono ?_)⟩
    rintro e' T1 H1 hq
    simp only [AQ.is, Prod.mk.injEq] at hq
    obtain ⟨rfl, rfl, rfl⟩ := hq
    refine ⟨?_, xs, hxs, rfl, rfl⟩
    revert ho
    cases e' <;> simp [isOut]
  · exact hk.elim
end
end Go.Proofs.Ythgkepaadkmhoaa.Av
