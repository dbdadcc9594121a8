/- A region in whatever order is drawn, told operation by operation. -/
import Derived.Test.YthgkepaadkmhoaaAvG
import Derived.Test.YthgkepaadkmhoaaAvN2
set_option linter.unusedVariables false
set_option linter.unusedSimpArgs false
namespace Go.Proofs.Ythgkepaadkmhoaa.Av
open Go Go.RowKit
section
variable {P : Program}
/-- Operation i of a region: those of 'need' are done ahead of it; it comes to K where F holds. -/
def OpIs (P : Program) (ops : List Oper) (T : List AV) (i : Nat) (need : List Nat) (F : (Nat → AV) → AH → (AV → AH → Prop) → Prop) : Prop :=
  ∃ o, ops[i]? = some o ∧ o.guard = none ∧ (∀ j ∈ need, ∃ e ∈ o.after, Region.binds .any e = true ∧ e.on = j) ∧ ∀ vals H K, F vals H K → AStep P (pt ops vals (fun _ => true) T i) H o K
def needsB (o : Oper) (need : List Nat) : Bool := need.all fun j => o.after.toList.any fun e => Region.binds .any e && Nat.beq e.on j
theorem needsB_ok {o : Oper} {need : List Nat} (h : needsB o need = true) : ∀ j ∈ need, ∃ e ∈ o.after, Region.binds .any e = true ∧ e.on = j := by
  intro j hj
  have := List.all_eq_true.1 h j hj
  obtain ⟨e, he, hb⟩ := List.any_eq_true.1 this
  simp only [Bool.and_eq_true] at hb
  exact ⟨e, by simpa using he, hb.1, Nat.eq_of_beq_eq_true hb.2⟩
theorem OpIs.op {ql : FuncId → Bool} {ops : List Oper} {T : List AV} {i : Nat} {need : List Nat} {F : (Nat → AV) → AH → (AV → AH → Prop) → Prop} (o : Oper) (ho : ops[i]? = some o) (hg : o.guard = none) (hn : needsB o need = true) (hb : isBS o.op = false) (hc : ∀ ρ, acall ρ o = none)
    (hF : ∀ vals H K, F vals H K → sOp P ql none0 false (aeval (pt ops vals (fun _ => true) T i)) H o true K) : OpIs P ops T i need F := by
  refine ⟨o, ho, hg, needsB_ok hn, fun vals H K h => ?_⟩
  obtain ⟨r, H', h1, h2, -⟩ := sOp_one (hF vals H K h)
  rcases h2 with ⟨-, h2 | ⟨h2, h3⟩⟩ | ⟨h2, -⟩
  · rw [opD_aop hb] at h2
    exact .inl ⟨r, H', h2, h1⟩
  · exfalso
    unfold wCall at h3
    rw [hc] at h3; exact h3
  · cases h2
theorem OpIs.call {ops : List Oper} {T : List AV} {i : Nat} {need : List Nat} {F : (Nat → AV) → AH → (AV → AH → Prop) → Prop} (o : Oper) (ho : ops[i]? = some o) (hg : o.guard = none) (hn : needsB o need = true) (k : FuncId) (args : (Nat → AV) → List AV) (hk : goFunc P k = true)
    (hc : ∀ vals, acall (aeval (pt ops vals (fun _ => true) T i)) o = some (k, args vals)) (hF : ∀ vals H K, F vals H K → ACalls P k (args vals) H K) : OpIs P ops T i need F :=
  ⟨o, ho, hg, needsB_ok hn, fun vals H K h => .inr (.inr ⟨k, args vals, hc vals, hk, hF vals H K h⟩)⟩
def valUp (vals : Nat → AV) (i : Nat) (r : AV) : Nat → AV := fun j => if j = i then r else vals j
theorem ACode.told {id : Nat} {ops : List Oper} {Q : AQ} {T : List AV} {H : AH} (hm : P.follows .mixedOrders = true) (hk : ordOk ops = true) (Inv : AH → (Nat → AV) → (Nat → Bool) → Prop) (v0 : Nat → AV) (h0 : Inv H v0 (fun _ => false))
    (hs : ∀ i, i < ops.length → ∃ need F, OpIs P ops T i need F ∧ ∀ (S : Nat → Bool) Hc vals, S i = false → (∀ j ∈ need, S j = true) → Inv Hc vals S → F vals Hc fun r H' => Inv H' (valUp vals i r) (upd S i))
    (last : ∀ Hc vals S, (∀ j, j < ops.length → S j = true) → Inv Hc vals S → Q .normal (pt ops vals (fun _ => true) T ops.length) Hc) : ACode P (.region id ops.toArray true) Q T H := by
  refine ACode.drawn hm hk (Ω := AH × (Nat → AV)) (fun ω S => Inv ω.1 ω.2 S) (fun ω => ω.2) (fun ω _ => ω.1) (H, v0) h0 rfl ?_ (fun ω S hS hI => last ω.1 ω.2 S hS hI)
  intro ω S i o hr hI
  obtain ⟨ho, hcl, hSi, haft⟩ := hr
  obtain ⟨need, F, ⟨o', ho', hg, hn, hF⟩, hstep⟩ := hs i (List.getElem?_eq_some_iff.1 ho).1
  rw [ho] at ho'
  injection ho' with ho'
  subst ho'
  refine ⟨true, by unfold awanted; rw [hg], fun _ => ?_, fun h => by cases h⟩
  have h1 := hF ω.2 ω.1 _ (hstep S ω.1 ω.2 hSi (fun j hj => by
    obtain ⟨e, he, hb, rfl⟩ := hn j hj
    exact haft e he hb) hI)
  have conv : ∀ r H', Inv H' (valUp ω.2 i r) (upd S i) → ∃ ω' : AH × (Nat → AV), Inv ω'.1 ω'.2 (upd S i) ∧ (∀ j, S j = true → ω'.2 j = ω.2 j) ∧ ω'.2 i = r ∧ ω'.1 = H' := by
    intro r H' h
    refine ⟨(H', valUp ω.2 i r), h, fun j hj => ?_, by simp [valUp], rfl⟩
    have : j ≠ i := by rintro rfl; rw [hSi] at hj; cases hj
    simp [valUp, this]
  rcases h1 with ⟨r, H', h2, h3⟩ | ⟨r, h2, h3⟩ | ⟨k, args, h2, h3, h4⟩
  · exact .inl ⟨r, H', h2, conv _ _ h3⟩
  · exact .inr (.inl ⟨r, h2, conv _ _ h3⟩)
  · exact .inr (.inr ⟨k, args, h2, h3, h4.mono conv⟩)
end
end Go.Proofs.Ythgkepaadkmhoaa.Av
