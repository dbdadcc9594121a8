/- The abstract machine, run: what it comes to is what the program comes to. -/
import Derived.Test.YthgkepaadkmhoaaAvXe
set_option linter.unusedVariables false
set_option linter.unusedSimpArgs false
namespace Go.Proofs.Ythgkepaadkmhoaa.Av
open Go Go.RowKit

section
variable {P : Program}

def runOps (P : Program) (call : CallFn) (ops : Array Oper) : List Oper → List AV → AH → Option (List AV × AH)
  | [], T, H => some (T, H)
  | o :: l, T, H => match awanted ops T o with
    | none => none
    | some false => runOps P call ops l (aput T o.dst undefA) H
    | some true => match aop P (aeval T) H o with
      | some (r, H') => runOps P call ops l (aput T o.dst r) H'
      | none => match acall (aeval T) o with
        | some (f, args) => if goFunc P f then match call f args H with
            | some (r, H') => runOps P call ops l (aput T o.dst r) H'
            | none => none
          else none
        | none => none
def noCall : CallFn := fun _ _ _ => none
theorem noCall_ok : CallOk P noCall := fun f args H r H' h => by cases h
theorem runOps_ok {call : CallFn} (hc : CallOk P call) {ops : Array Oper} : ∀ (l : List Oper) (T T' : List AV) (H H' : AH), runOps P call ops l T H = some (T', H') → ∀ {Q : AQ}, Q .normal T' H' → AOps P ops Q l T H
  | [], T, T', H, H', h, Q, hq => by
    simp only [runOps] at h
    injection h with h
    injection h with h1 h2
    subst h1; subst h2
    exact AOps.nil hq
  | o :: l, T, T', H, H', h, Q, hq => by
    unfold runOps at h
    split at h
    · cases h
    · rename_i hw
      exact AOps.unwanted hw (runOps_ok hc l _ _ _ _ h hq)
    · rename_i hw
      split at h
      · rename_i r H1 hop
        exact AOps.op hw hop (runOps_ok hc l _ _ _ _ h hq)
      · split at h
        · rename_i f args hcall
          split at h
          · rename_i hgo
            split at h
            · rename_i r H1 hcf
              refine AOps.call hw hcall hgo ((hc f args H r H1 hcf).mono ?_)
              rintro r' H'' ⟨rfl, rfl⟩
              exact runOps_ok hc l _ _ _ _ h hq
            · cases h
          · cases h
        · cases h
def exec (P : Program) (pl : FuncId → Bool) (pure : PureFn) (call : CallFn) : Nat → Code → List AV → AH → Option (Exit × List AV × AH)
  | 0, _, _, _ => none
  | n + 1, c, T, H => match c with
    | .skip => some (.normal, T, H)
    | .label _ => some (.normal, T, H)
    | .ret => some (.ret, T, H)
    | .exit id => some (.exit id, T, H)
    | .region _ ops false => (runOps P call ops ops.toList T H).map fun p => (.normal, p.1, p.2)
    | .region _ ops true => (runDraw P pl pure call ops.toList T H).map fun p => (.normal, p.1, p.2)
    | .seq a b => match exec P pl pure call n a T H with
      | some (.normal, T', H') => exec P pl pure call n b T' H'
      | r => r
    | .cond x a b => match aeval T x with
      | .lit (.bool t) => exec P pl pure call n (if t then a else b) T H
      | _ => none
    | .block id b => match exec P pl pure call n b T H with
      | some (.exit id', T', H') => if id' = id then some (.normal, T', H') else some (.exit id', T', H')
      | r => r
    | .loop b => match exec P pl pure call n b T H with
      | some (.normal, T', H') => exec P pl pure call n (.loop b) T' H'
      | r => r
    | _ => none
theorem exec_ok {pl : FuncId → Bool} {pure : PureFn} (hp : PureOk P pure) {call : CallFn} (hc : CallOk P call) : ∀ (n : Nat) (c : Code) (T : List AV) (H : AH) (r : Exit × List AV × AH), exec P pl pure call n c T H = some r → ACode P c (AQ.is r) T H := by
  intro n
  induction n using Nat.strongRecOn with
  | _ n ih =>
  intro c T H r h
  cases n with
  | zero => simp [exec] at h
  | succ n =>
  unfold exec at h
  split at h
  · injection h with h; exact ACode.skip (by rw [← h]; rfl)
  · injection h with h; exact ACode.label (by rw [← h]; rfl)
  · injection h with h; exact ACode.ret (by rw [← h]; rfl)
  · injection h with h; exact ACode.exit (by rw [← h]; rfl)
  · obtain ⟨⟨T', H'⟩, h1, rfl⟩ := Option.map_eq_some_iff.1 h
    exact ACode.region (runOps_ok hc _ _ _ _ _ h1 rfl)
  · obtain ⟨⟨T', H'⟩, h1, rfl⟩ := Option.map_eq_some_iff.1 h
    rename_i ops
    have := runDraw_ok hp hc (id := 0) h1 (Q := AQ.is (.normal, T', H')) rfl
    have := runDraw_ok hp hc (id := by assumption) h1 (Q := AQ.is (.normal, T', H')) rfl
    simpa using this
  · rename_i a b
    refine ACode.seq ?_
    split at h
    · rename_i T' H' h1
      refine (ih n (by omega) a T H _ h1).mono ?_
      rintro e T1 H1 he
      simp only [AQ.is, Prod.mk.injEq] at he
      obtain ⟨rfl, rfl, rfl⟩ := he
      exact ih n (by omega) b _ _ r h
    · rename_i hne
      refine (ih n (by omega) a T H r h).mono ?_
      rintro e T1 H1 he
      cases e with
      | normal =>
        simp only [AQ.is] at he
        subst he
        exact absurd h (hne T1 H1)
      | _ => exact he
  · rename_i x a b
    split at h
    · rename_i t ht
      exact ACode.cond ht (ih n (by omega) _ _ _ _ h)
    · cases h
  · rename_i id b
    refine ACode.block ?_
    split at h
    · rename_i id' T' H' h1
      refine (ih n (by omega) b T H _ h1).mono ?_
      rintro e T1 H1 he
      simp only [AQ.is, Prod.mk.injEq] at he
      obtain ⟨rfl, rfl, rfl⟩ := he
      simp only [AQ.inBlock]
      split at h <;> (injection h with h; rename_i hid)
      · rw [if_pos hid]; exact h
      · rw [if_neg hid]; exact h
    · rename_i hne
      refine (ih n (by omega) b T H r h).mono ?_
      rintro e T1 H1 he
      cases e with
      | exit id' =>
        simp only [AQ.is] at he
        subst he
        exact absurd h (hne id' T1 H1)
      | _ => exact he
  · rename_i b
    refine ACode.loop (fun m T1 H1 => m ≤ n + 1 ∧ exec P pl pure call m (.loop b) T1 H1 = some r) (n + 1) ⟨Nat.le_refl _, ?_⟩ ?_
    · unfold exec; exact h
    · rintro m T1 H1 ⟨hm, h1⟩
      cases m with
      | zero => simp [exec] at h1
      | succ m =>
        unfold exec at h1
        simp only at h1
        split at h1
        · rename_i T2 H2 h2
          refine (ih m (by omega) b T1 H1 _ h2).mono ?_
          rintro e T3 H3 he
          simp only [AQ.is, Prod.mk.injEq] at he
          obtain ⟨rfl, rfl, rfl⟩ := he
          exact ⟨m, by omega, by omega, h1⟩
        · rename_i hne
          refine (ih m (by omega) b T1 H1 r h1).mono ?_
          rintro e T3 H3 he
          cases e with
          | normal =>
            simp only [AQ.is] at he
            subst he
            exact absurd h1 (hne T3 H3)
          | _ => exact he
  · cases h
/-- A call as if it left nothing: from the empty heap, what it made frozen. -/
def pureOf (P : Program) (pl : FuncId → Bool) (call : CallFn) : PureFn := fun f args =>
  if pl f && goFunc P f && noIdss args then match call f args [] with
    | some (r, X) => frz X 64 r
    | none => none
  else none
theorem pureOf_ok {pl : FuncId → Bool} {call : CallFn} (hc : CallOk P call) : PureOk P (pureOf P pl call) := by
  intro f args r h
  unfold pureOf at h
  split at h
  · rename_i hb
    simp only [Bool.and_eq_true] at hb
    split at h
    · rename_i r0 X hr
      refine ⟨hb.1.2, fun H => ?_⟩
      exact ACalls.pure (R' := fun r' => r' = r) (hc f args [] r0 X hr) (noIdss_bel hb.2) (fun r1 X1 h1 => ⟨64, r, by rw [h1.1, h1.2]; exact h, rfl⟩) H
    · cases h
  · cases h
/-- A function's own text, run. -/
def runBody (P : Program) (pl : FuncId → Bool) (call : CallFn) (fuel : Nat) (f : FuncId) (args : List AV) (H : AH) : Option (AV × AH) :=
  match P.funcs[f]? with
  | some fn => match fn.body with
    | some c => match exec P pl (pureOf P pl call) call fuel c (args ++ List.replicate (fn.ntmps - args.length) undefA) H with
      | some (e, T, H') => if isOut e then (ares P H' T fn.results.toList).map fun xs => (mkres xs, H') else none
      | none => none
    | none => none
  | none => none
theorem runBody_ok {pl : FuncId → Bool} {call : CallFn} (hc : CallOk P call) {fuel : Nat} : CallOk P (runBody P pl call fuel) := by
  intro f args H r H' h
  unfold runBody at h
  split at h
  · rename_i fn hf
    split at h
    · rename_i c hb
      split at h
      · rename_i e T H1 he
        split at h
        · rename_i ho
          obtain ⟨xs, hxs, heq⟩ := Option.map_eq_some_iff.1 h
          injection heq with h1 h2
          subst h1; subst h2
          refine ACalls.of_body hf hb ((exec_ok (pureOf_ok hc) hc fuel c _ H _ he).mono ?_)
          rintro e' T' H' hq
          simp only [AQ.is, Prod.mk.injEq] at hq
          obtain ⟨rfl, rfl, rfl⟩ := hq
          refine ⟨?_, xs, hxs, rfl, rfl⟩
          revert ho
          cases e' <;> simp [isOut]
        · cases h
      · cases h
    · cases h
  · cases h
/-- A call, run: 'ext' first (functions whose contracts are proved beside), then as if it left nothing (functions of pl), else the function's own text. ql: those of pl that may stand anywhere in a drawn region. -/
def run (P : Program) (ext : CallFn) (pl ql : FuncId → Bool) (fuel : Nat) : Nat → CallFn
  | 0 => fun _ _ _ => none
  | n + 1 => fun f args H => match ext f args H with
    | some r => some r
    | none => if pl f && noIdss args then match runBody P ql (run P ext pl ql fuel n) fuel f args [] with
        | some (r, X) => (frz X 64 r).map (·, H)
        | none => none
      else runBody P ql (run P ext pl ql fuel n) fuel f args H
theorem run_ok {ext : CallFn} (hx : CallOk P ext) {fuel : Nat} {pl ql : FuncId → Bool} : ∀ n, CallOk P (run P ext pl ql fuel n)
  | 0 => fun f args H r H' h => by cases h
  | n + 1 => fun f args H r H' h => by
    unfold run at h
    split at h
    · rename_i q hq
      injection h with h
      subst h
      exact hx f args H r H' hq
    · split at h
      · rename_i hb
        simp only [Bool.and_eq_true] at hb
        split at h
        · rename_i r0 X hr
          obtain ⟨r1, h1, h2⟩ := Option.map_eq_some_iff.1 h
          injection h2 with h2 h3
          subst h2; subst h3
          exact ACalls.pure (R' := fun r' => r' = r1) (runBody_ok (run_ok hx n) f args [] r0 X hr) (noIdss_bel hb.2) (fun r2 X2 h2 => ⟨64, r1, by rw [h2.1, h2.2]; exact h1, rfl⟩) H
        · cases h
      · exact runBody_ok (run_ok hx n) f args H r H' h

/-- At the start: nothing is told of memory. -/
def Cfg.start (W : World) : Cfg := { w := W, n := 0, μ := fun _ => (0, 0, 0), L := fun _ => False, K := fun _ => False }
theorem HR.start (W : World) : HR (Cfg.start W) [] := ⟨rfl, fun o x h => by simp at h, fun o o' x x' h => by simp at h, fun o x h => by simp at h, fun b h => h.elim (fun h => h.elim) (fun h => h.elim)⟩
theorem Evo.below {G' : Cfg} {W : World} (h : Evo (Cfg.start W) G') : Below W.heap.size W G'.w := ⟨h.os, h.tape, h.output, h.size, fun k hk => (h.keep k hk (fun h => h)).1⟩
/-- A law: whatever is read, it returns true, and what was there is as it was. -/
theorem law_calls {f : FuncId} {args : List AV} (h : ACalls P f args [] fun r _ => r = .lit (.bool true)) (W : World) {vs : List Value} (hv : VRs (Cfg.start W) args vs) :
    Calls P f vs.toArray W fun e W' => e = .returned (.bool true) ∧ Below W.heap.size W W' :=
  (h (Cfg.start W) vs (HR.start W) hv).mono fun e w' ⟨r, H', G', v, he, hw, hE, hx, _, hr⟩ => by
    subst hr
    simp only [VR] at hx
    subst hx
    rw [← hw]
    exact ⟨he, hE.below⟩
end
end Go.Proofs.Ythgkepaadkmhoaa.Av
