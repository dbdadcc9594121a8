/- The logic of the abstract machine: code, operations in their order, calls. -/
import Derived.Test.YthgkepaadkmhoaaAvV
set_option linter.unusedVariables false
set_option linter.unusedSimpArgs false
namespace Go.Proofs.Ythgkepaadkmhoaa.Av
open Go Go.RowKit

section
variable {P : Program}

abbrev AQ := Exit → List AV → AH → Prop
/-- From abstract arguments and heap the call returns; R: of what it returns and leaves. -/
def ACalls (P : Program) (f : FuncId) (args : List AV) (H : AH) (R : AV → AH → Prop) : Prop :=
  ∀ (G : Cfg) (vs : List Value), HR G H → VRs G args vs →
    Calls P f vs.toArray G.w fun e w' => ∃ (r : AV) (H' : AH) (G' : Cfg) (v : Value), e = .returned v ∧ G'.w = w' ∧ Evo G G' ∧ VR G' r v ∧ HR G' H' ∧ R r H'
def APost (G : Cfg) (Q : AQ) : Exit → Act → World → Prop :=
  fun e a w => ∃ (T : List AV) (H : AH) (G' : Cfg), G'.w = w ∧ Evo G G' ∧ FR G' T a ∧ a.defers = [] ∧ HR G' H ∧ Q e T H
def ACode (P : Program) (c : Code) (Q : AQ) (T : List AV) (H : AH) : Prop :=
  ∀ (G0 G : Cfg) (a : Act), Evo G0 G → FR G T a → a.defers = [] → HR G H → c.wp P (APost G0 Q) a G.w
def AOps (P : Program) (ops : Array Oper) (Q : AQ) (l : List Oper) (T : List AV) (H : AH) : Prop :=
  ∀ (G0 G : Cfg) (a : Act), Evo G0 G → FR G T a → a.defers = [] → HR G H → wpList P ops (APost G0 Q) l a G.w

theorem ACalls.mono {f : FuncId} {args : List AV} {H : AH} {R R' : AV → AH → Prop} (h : ACalls P f args H R) (hr : ∀ r H', R r H' → R' r H') : ACalls P f args H R' :=
  fun G vs hH hv => (h G vs hH hv).mono fun e w' ⟨r, H', G', v, a, b, c, d, e', q⟩ => ⟨r, H', G', v, a, b, c, d, e', hr _ _ q⟩
theorem ACode.mono {c : Code} {Q Q' : AQ} {T : List AV} {H : AH} (h : ACode P c Q T H) (hq : ∀ e T H, Q e T H → Q' e T H) : ACode P c Q' T H :=
  fun G0 G a hE hF hd hH => Code.wp_mono (fun e a w ⟨T, H, G', a1, a2, a3, a4, a5, a6⟩ => ⟨T, H, G', a1, a2, a3, a4, a5, hq _ _ _ a6⟩) (h G0 G a hE hF hd hH)

theorem post_now {Q : AQ} {e : Exit} {T : List AV} {H : AH} (h : Q e T H) {G0 G : Cfg} {a : Act} (hE : Evo G0 G) (hF : FR G T a) (hd : a.defers = []) (hH : HR G H) : APost G0 Q e a G.w := ⟨T, H, G, rfl, hE, hF, hd, hH, h⟩

theorem ACode.skip {Q : AQ} {T : List AV} {H : AH} (h : Q .normal T H) : ACode P .skip Q T H := fun G0 G a hE hF hd hH => wp_skip (post_now h hE hF hd hH)
theorem ACode.label {l : Nat} {Q : AQ} {T : List AV} {H : AH} (h : Q .normal T H) : ACode P (.label l) Q T H := fun G0 G a hE hF hd hH => wp_label (post_now h hE hF hd hH)
theorem ACode.exit {id : Nat} {Q : AQ} {T : List AV} {H : AH} (h : Q (.exit id) T H) : ACode P (.exit id) Q T H := fun G0 G a hE hF hd hH => wp_exit (post_now h hE hF hd hH)
theorem ACode.ret {Q : AQ} {T : List AV} {H : AH} (h : Q .ret T H) : ACode P .ret Q T H := fun G0 G a hE hF hd hH => wp_ret (post_now h hE hF hd hH)
/-- What follows on the normal way. -/
def AQ.then (next : List AV → AH → Prop) (Q : AQ) : AQ
  | .normal, T, H => next T H
  | e, T, H => Q e T H
theorem ACode.seq {x y : Code} {Q : AQ} {T : List AV} {H : AH} (h : ACode P x (AQ.then (ACode P y Q) Q) T H) : ACode P (.seq x y) Q T H := by
  intro G0 G a hE hF hd hH
  refine wp_seq (Code.wp_mono ?_ (h G0 G a hE hF hd hH))
  rintro e a' w' ⟨T', H', G', rfl, hE', hF', hd', hH', hq⟩
  cases e with
  | normal => exact hq G0 G' a' hE' hF' hd' hH'
  | _ => exact ⟨T', H', G', rfl, hE', hF', hd', hH', hq⟩
theorem ACode.cond {c : Operand} {x y : Code} {Q : AQ} {T : List AV} {H : AH} {b : Bool} (hc : aeval T c = .lit (.bool b)) (h : ACode P (if b then x else y) Q T H) : ACode P (.cond c x y) Q T H := by
  intro G0 G a hE hF hd hH
  have := hF.eval c
  rw [hc] at this
  simp only [VR] at this
  exact wp_cond this (h G0 G a hE hF hd hH)
theorem ACode.ite {c : Operand} {x y : Code} {Q : AQ} {T : List AV} {H : AH} {b : Bool} (hc : aeval T c = .lit (.bool b)) (h1 : b = true → ACode P x Q T H) (h2 : b = false → ACode P y Q T H) : ACode P (.cond c x y) Q T H := by
  refine ACode.cond hc ?_
  cases b
  · exact h2 rfl
  · exact h1 rfl
def AQ.inBlock (id : Nat) (Q : AQ) : AQ
  | .exit id', T, H => if id' = id then Q .normal T H else Q (.exit id') T H
  | e, T, H => Q e T H
theorem ACode.block {id : Nat} {c : Code} {Q : AQ} {T : List AV} {H : AH} (h : ACode P c (Q.inBlock id) T H) : ACode P (.block id c) Q T H := by
  intro G0 G a hE hF hd hH
  refine wp_block (Code.wp_mono ?_ (h G0 G a hE hF hd hH))
  rintro e a' w' ⟨T', H', G', rfl, hE', hF', hd', hH', hq⟩
  cases e with
  | exit id' =>
    simp only [AQ.inBlock] at hq
    simp only [Exit.inBlock]
    split
    · rename_i he; rw [if_pos he] at hq; exact ⟨T', H', G', rfl, hE', hF', hd', hH', hq⟩
    · rename_i he; rw [if_neg he] at hq; exact ⟨T', H', G', rfl, hE', hF', hd', hH', hq⟩
  | _ => exact ⟨T', H', G', rfl, hE', hF', hd', hH', hq⟩
/-- A loop: I n: what holds at a round's head, n going down. -/
theorem ACode.loop {c : Code} {Q : AQ} {T : List AV} {H : AH} (I : Nat → List AV → AH → Prop) (n0 : Nat) (h0 : I n0 T H)
    (round : ∀ n T H, I n T H → ACode P c (AQ.then (fun T' H' => ∃ n', n' < n ∧ I n' T' H') Q) T H) : ACode P (.loop c) Q T H := by
  intro G0 G a hE hF hd hH
  let J : Nat → Act → World → Prop := fun n a w => ∃ (T : List AV) (H : AH) (G' : Cfg), G'.w = w ∧ Evo G0 G' ∧ FR G' T a ∧ a.defers = [] ∧ HR G' H ∧ I n T H
  have least : ∀ a w, (∃ n, J n a w) → ∃ n, J n a w ∧ ∀ m, J m a w → n ≤ m := by
    intro a w ⟨n, hn⟩
    induction n using Nat.strongRecOn with
    | _ n ih =>
      by_cases h : ∃ m, m < n ∧ J m a w
      · obtain ⟨m, hm, hj⟩ := h; exact ih m hm hj
      · exact ⟨n, hn, fun m hm => Nat.le_of_not_lt fun hlt => h ⟨m, hlt, hm⟩⟩
  have hμ : ∃ μ : Act → World → Nat, ∀ a w, (∃ n, J n a w) → J (μ a w) a w ∧ ∀ m, J m a w → μ a w ≤ m := by
    classical
    refine ⟨fun a w => if h : ∃ n, J n a w then Classical.choose (least a w h) else 0, fun a w h => ?_⟩
    simp only [dif_pos h]
    exact Classical.choose_spec (least a w h)
  obtain ⟨μ, hμ⟩ := hμ
  refine wp_loop (fun a w => ∃ n, J n a w) μ ⟨n0, T, H, G, rfl, hE, hF, hd, hH, h0⟩ ?_
  intro a w hJ
  obtain ⟨⟨T1, H1, G1, rfl, hE1, hF1, hd1, hH1, hI⟩, _⟩ := hμ a w hJ
  refine Code.wp_mono ?_ (round _ T1 H1 hI G0 G1 a hE1 hF1 hd1 hH1)
  rintro e a' w' ⟨T', H', G', rfl, hE', hF', hd', hH', hq⟩
  cases e with
  | normal =>
    obtain ⟨n', hlt, hI'⟩ := hq
    have hJ' : J n' a' G'.w := ⟨T', H', G', rfl, hE', hF', hd', hH', hI'⟩
    exact ⟨⟨n', hJ'⟩, Nat.lt_of_le_of_lt ((hμ a' G'.w ⟨n', hJ'⟩).2 _ hJ') hlt⟩
  | _ => exact ⟨T', H', G', rfl, hE', hF', hd', hH', hq⟩
/-! ### operations, one behind the other -/
theorem ACode.region {id : Nat} {ops : Array Oper} {Q : AQ} {T : List AV} {H : AH} (h : AOps P ops Q ops.toList T H) : ACode P (.region id ops false) Q T H :=
  fun G0 G a hE hF hd hH => wp_region_list (h G0 G a hE hF hd hH)
theorem AOps.nil {ops : Array Oper} {Q : AQ} {T : List AV} {H : AH} (h : Q .normal T H) : AOps P ops Q [] T H := fun G0 G a hE hF hd hH => post_now h hE hF hd hH
def ayield (ops : Array Oper) (T : List AV) (j : Nat) : Option (Option Bool) :=
  match (ops[j]?).bind (·.dst) with
  | some d => match T[d]? with
    | some (.lit (.bool b)) => some (some b)
    | some (.lit _) => some none
    | _ => none
  | none => none
theorem ayield_ok {G : Cfg} {ops : Array Oper} {T : List AV} {a : Act} (hF : FR G T a) {j : Nat} {b : Option Bool} (h : ayield ops T j = some b) : yielded ops a.tmps j = b := by
  unfold ayield at h
  unfold yielded
  split at h
  · rename_i d hd
    rw [hd]
    split at h
    · rename_i b' hb
      injection h with h
      subst h
      obtain ⟨v, hv, hx⟩ := VRs.get hF hb
      simp only [VR] at hx
      subst hx
      simp only [Array.getElem?_toList] at hv
      simp [hv]
    · rename_i v' hne hb
      injection h with h
      subst h
      obtain ⟨v, hv, hx⟩ := VRs.get hF hb
      simp only [VR] at hx
      subst hx
      simp only [Array.getElem?_toList] at hv
      cases v <;> first
        | (simp [hv]; done)
        | exact absurd rfl (hne _)
    · cases h
  · cases h
/-- Is the operation wanted? -/
def awanted (ops : Array Oper) (T : List AV) (o : Oper) : Option Bool :=
  match o.guard with
  | none => some true
  | some (j, want) => (ayield ops T j).map (· == some want)
theorem awanted_ok {G : Cfg} {ops : Array Oper} {T : List AV} {a : Act} (hF : FR G T a) {o : Oper} {b : Bool} (h : awanted ops T o = some b) : Region.wanted o (yielded ops a.tmps) = b := by
  unfold awanted at h
  unfold Region.wanted
  split at h
  · rename_i hg
    injection h with h
    rw [hg]
    exact h
  · rename_i j want hg
    rw [hg]
    show (yielded ops a.tmps j == some want) = b
    obtain ⟨c, hc, rfl⟩ := Option.map_eq_some_iff.1 h
    rw [ayield_ok hF hc]
theorem AOps.op {ops : Array Oper} {Q : AQ} {o : Oper} {rest : List Oper} {T : List AV} {H H' : AH} {r : AV} (hw : awanted ops T o = some true) (h : aop P (aeval T) H o = some (r, H')) (hr : AOps P ops Q rest (aput T o.dst r) H') :
    AOps P ops Q (o :: rest) T H := by
  intro G0 G a hE hF hd hH
  unfold wpList
  rw [if_pos (awanted_ok hF hw)]
  left
  obtain ⟨G', u, hrun, hE', hx, hH'⟩ := aop_ok hH (fun x => hF.eval x) h
  have hF' := (FR.evo hE' hF).put o.dst hx
  have q := hr G0 G' (a.put o.dst u) (hE.trans hE') hF' (by cases o.dst <;> exact hd) hH'
  unfold Oper.wp
  rcases hrun with hrun | ⟨hrun, rfl⟩ <;> rw [hrun] <;> exact q
theorem AOps.unwanted {ops : Array Oper} {Q : AQ} {o : Oper} {rest : List Oper} {T : List AV} {H : AH} (hw : awanted ops T o = some false) (hr : AOps P ops Q rest (aput T o.dst undefA) H) : AOps P ops Q (o :: rest) T H := by
  intro G0 G a hE hF hd hH
  unfold wpList
  rw [if_neg (by rw [awanted_ok hF hw]; simp)]
  exact hr G0 G _ hE (hF.put o.dst (by simp only [undefA, VR])) (by cases o.dst <;> exact hd) hH
/-- A call of a Go function: which, with what. -/
def acall (ρ : Operand → AV) (o : Oper) : Option (FuncId × List AV) :=
  match o.op with
  | .call { callee := .value f, args, argTypes := _ } => match ρ f with
    | .fn (.func k) first cap => some (k, first ++ args.toList.map ρ ++ cap)
    | _ => none
  | _ => none
def goFunc (P : Program) (k : FuncId) : Bool :=
  match P.funcs[k]? with
  | some fn => fn.body.isSome && !(fn.name == "runtime.NumGoroutine")
  | none => false
theorem acall_ok {G : Cfg} {ρ : Operand → AV} {ρc : Operand → Value} (hf : ∀ x, VR G (ρ x) (ρc x)) {o : Oper} {k : FuncId} {args : List AV} (h : acall ρ o = some (k, args)) (hk : goFunc P k = true) (w : World) :
    ∃ vs : List Value, VRs G args vs ∧ (execOp ρc o).run P w = .ok (.enter k vs.toArray) w := by
  obtain ⟨dst, op, type, pos, after, guard⟩ := o
  unfold acall at h
  split at h
  · rename_i f args' ats hop
    simp only at hop
    subst hop
    split at h
    · rename_i k' first cap hfn
      injection h with h
      injection h with h1 h2
      subst h1; subst h2
      have hv := hf f
      rw [hfn] at hv
      simp only [VR] at hv
      obtain ⟨va, vb, hv, ha, hb⟩ := hv
      have hm := VRs.map_ops hf args'.toList
      refine ⟨va.toList ++ args'.toList.map ρc ++ vb.toList, (ha.append hm).append hb, ?_⟩
      unfold goFunc at hk
      split at hk
      · rename_i fn hfn'
        simp only [Bool.and_eq_true, Bool.not_eq_true'] at hk
        obtain ⟨b, hbody⟩ := Option.isSome_iff_exists.1 hk.1
        have he : (va.toList ++ args'.toList.map ρc ++ vb.toList).toArray = va ++ args'.map ρc ++ vb := by
          apply Array.ext'
          simp
        rw [he]
        have hne : ¬ fn.name = "runtime.NumGoroutine" := by have := hk.2; simpa using this
        simp [execOp, resolve, hv, Deferred.ofValue, invoke, callFunc, hfn', hne, hbody]
      · cases hk
    · cases h
  · cases h
theorem AOps.call {ops : Array Oper} {Q : AQ} {o : Oper} {rest : List Oper} {T : List AV} {H : AH} {k : FuncId} {args : List AV} (hw : awanted ops T o = some true) (h : acall (aeval T) o = some (k, args)) (hk : goFunc P k = true)
    (hc : ACalls P k args H fun r H' => AOps P ops Q rest (aput T o.dst r) H') : AOps P ops Q (o :: rest) T H := by
  intro G0 G a hE hF hd hH
  unfold wpList
  rw [if_pos (awanted_ok hF hw)]
  left
  obtain ⟨vs, hvs, hrun⟩ := acall_ok (P := P) (fun x => hF.eval x) h hk G.w
  unfold Oper.wp
  rw [hrun]
  refine (hc G vs hH hvs).mono ?_
  rintro e w' ⟨r, H', G', v, rfl, rfl, hE', hx, hH', hq⟩
  exact hq G0 G' _ (hE.trans hE') ((FR.evo hE' hF).put o.dst hx) (by cases o.dst <;> exact hd) hH'

/-! ### a function's body -/
def ares (P : Program) (H : AH) (T : List AV) : List ResultVar → Option (List AV)
  | [] => some []
  | .tmp t :: r => (ares P H T r).map (T.getD t undefA :: ·)
  | .cell a t :: r => match aload P H t (T.getD a undefA), ares P H T r with
    | some x, some xs => some (x :: xs)
    | _, _ => none
def mkres : List AV → AV
  | [x] => x
  | l => .tup l
theorem aload_ptr {G : Cfg} {H : AH} {t : TypeId} {a r : AV} {v : Value} (hv : VR G a v) (h : aload P H t a = some r) : ∃ ad, v = .pointer (some ad) := by
  unfold aload at h
  split at h
  · split at h
    · simp only [VR] at hv; exact ⟨_, hv.2⟩
    · simp only [VR] at hv; obtain ⟨ad, vs, e, _⟩ := hv; exact ⟨_, e⟩
    · cases h
  · cases h
def resOf (tmps : Array Value) : ResultVar → Sem Value
  | .tmp t => pure (tmps.getD t undef)
  | .cell ad t => do loadVar t (← asAddr (tmps.getD ad undef))
theorem ares_ok {G : Cfg} {H : AH} (hr : HR G H) {T : List AV} {a : Act} (hF : FR G T a) : ∀ (l : List ResultVar) (xs : List AV), ares P H T l = some xs →
    ∃ vs : List Value, VRs G xs vs ∧ (l.mapM (resOf a.tmps)).run P G.w = .ok vs G.w
  | [], xs, h => by simp only [ares] at h; injection h with h; subst h; exact ⟨[], .nil, by simp⟩
  | .tmp t :: r, xs, h => by
    simp only [ares] at h
    obtain ⟨ys, hy, rfl⟩ := Option.map_eq_some_iff.1 h
    obtain ⟨vs, hv, hrun⟩ := ares_ok hr hF r ys hy
    refine ⟨a.tmps.getD t undef :: vs, .cons (hF.eval (.tmp t)) hv, ?_⟩
    simp only [List.mapM_cons, resOf, Sem.run_bind, Sem.run_pure, Result.andThen_ok, hrun]
  | .cell ad t :: r, xs, h => by
    simp only [ares] at h
    split at h
    · rename_i x ys hx hy
      injection h with h
      subst h
      obtain ⟨vs, hv, hrun⟩ := ares_ok hr hF r ys hy
      have hp : VR G (T.getD ad undefA) (a.tmps.getD ad undef) := hF.eval (.tmp ad)
      obtain ⟨p, hpe⟩ := aload_ptr hp hx
      obtain ⟨u, hu, hxu⟩ := aload_ok (P := P) hr hp hx
      refine ⟨u :: vs, .cons hxu hv, ?_⟩
      rw [hpe] at hu
      simp only [Instr.loadAt, Instr.sureAddr, Sem.run_bind, Sem.run_pure, Result.andThen_ok] at hu
      simp only [List.mapM_cons, resOf, Sem.run_bind, Sem.run_pure, Result.andThen_ok, hpe, asAddr, hu, hrun]
    · cases h
theorem results_ok {G : Cfg} {H : AH} (hr : HR G H) {T : List AV} {a : Act} (hF : FR G T a) {fn : Func} {xs : List AV} (h : ares P H T fn.results.toList = some xs) :
    ∃ v, (results fn a.tmps).run P G.w = .ok v G.w ∧ VR G (mkres xs) v := by
  obtain ⟨vs, hv, hrun⟩ := ares_ok (P := P) hr hF _ _ h
  refine ⟨if h : vs.toArray.size = 1 then vs.toArray[0] else .tuple vs.toArray, ?_, ?_⟩
  · unfold results
    have e2 : ∀ (f : ResultVar → Sem Value), (∀ x, f x = resOf a.tmps x) → (List.mapM f fn.results.toList).run P G.w = .ok vs G.w := fun f hf => by
      rw [show f = resOf a.tmps from funext hf]; exact hrun
    rw [Array.mapM_eq_mapM_toList]
    simp only [Sem.run_bind, Sem.run_map]
    rw [e2 _ (by intro x; cases x <;> rfl)]
    simp only [Result.andThen_ok, Sem.run_pure]
  · unfold mkres
    split
    · rename_i x
      simp only [VRs] at hv
      obtain ⟨v, r, rfl, hx, rfl⟩ := hv
      simpa using hx
    · rename_i hne
      have hl := hv.length
      rw [dif_neg]
      · simp only [VR]; exact ⟨_, rfl, by simpa using hv⟩
      · intro h1
        have h2 : xs.length = 1 := by rw [hl]; simpa using h1
        match xs, h2 with
        | [x], _ => exact hne x rfl
theorem ACalls.of_body {f : FuncId} {fn : Func} {c : Code} {args : List AV} {H : AH} {R : AV → AH → Prop} (hf : P.funcs[f]? = some fn) (hb : fn.body = some c)
    (h : ACode P c (fun e T H' => (e = .normal ∨ e = .ret) ∧ ∃ xs, ares P H' T fn.results.toList = some xs ∧ R (mkres xs) H') (args ++ List.replicate (fn.ntmps - args.length) undefA) H) : ACalls P f args H R := by
  intro G vs hH hv
  refine calls_of_wp hf hb ?_
  have hl := hv.length
  have hF : FR G (args ++ List.replicate (fn.ntmps - args.length) undefA) { tmps := vs.toArray ++ Array.replicate (fn.ntmps - vs.toArray.size) undef, defers := [] } := by
    unfold FR
    simp only [Array.toList_append, Array.toList_replicate, List.size_toArray]
    rw [hl]
    exact hv.append (VRs.replicate (by simp only [undefA, VR]) _)
  refine Code.wp_mono ?_ (h G G _ (Evo.refl G) hF rfl hH)
  rintro e a w ⟨T', H', G', rfl, hE, hF', hd, hH', he, xs, hxs, hR⟩
  obtain ⟨v, hrun, hx⟩ := results_ok (P := P) hH' hF' hxs
  have : a.defers = [] ∧ ∃ v, (results fn a.tmps).run P G'.w = .ok v G'.w ∧ ∃ (r : AV) (H'' : AH) (G'' : Cfg) (u : Value), Ending.returned v = .returned u ∧ G''.w = G'.w ∧ Evo G G'' ∧ VR G'' r u ∧ HR G'' H'' ∧ R r H'' :=
    ⟨hd, v, hrun, _, H', G', v, rfl, rfl, hE, hx, hH', hR⟩
  rcases he with rfl | rfl <;> exact this
end
end Go.Proofs.Ythgkepaadkmhoaa.Av
