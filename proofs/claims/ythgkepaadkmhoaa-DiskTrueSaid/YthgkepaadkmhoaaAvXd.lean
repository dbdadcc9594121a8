/- Walking a text with symbols. A call's outcome is told whole (BCall), so that whatever order a region draws comes to one thing. -/
import Derived.Test.YthgkepaadkmhoaaAvXc
set_option linter.unusedVariables false
set_option linter.unusedSimpArgs false
namespace Go.Proofs.Ythgkepaadkmhoaa.Av
open Go Go.RowKit

def isOut : Exit → Bool
  | .normal | .ret => true
  | _ => false
section
variable {P : Program}
/-- A call comes to just that. -/
def BCall (P : Program) (f : FuncId) (args : List AV) (H : AH) (r : AV) (H' : AH) : Prop := ACalls P f args H fun r' H'' => r' = r ∧ H'' = H'
/-- A call comes to just that, whatever heap there is, and leaves it. -/
def BPure (P : Program) (f : FuncId) (args : List AV) (r : AV) : Prop := ∀ H, BCall P f args H r H
theorem BPure.of {f : FuncId} {args : List AV} {r0 r : AV} {X : AH} (h : BCall P f args [] r0 X) (hb : noIdss args = true) {n : Nat} (hf : frz X n r0 = some r) : BPure P f args r :=
  fun H => ACalls.pure (R' := fun r' => r' = r) h (noIdss_bel hb) (fun r1 X1 h1 => ⟨n, r, by rw [h1.1, h1.2]; exact hf, rfl⟩) H
inductive TraceR (P : Program) (ql : FuncId → Bool) (ops : Array Oper) : List Oper → List AV → AH → List (AV × AH) → List AV → AH → Prop
  | nil (T : List AV) (H : AH) : TraceR P ql ops [] T H [] T H
  | skip {o : Oper} {l : List Oper} {T T' : List AV} {H H' : AH} {tl : List (AV × AH)} (hw : awanted ops T o = some false) (hr : TraceR P ql ops l (aput T o.dst undefA) H tl T' H') : TraceR P ql ops (o :: l) T H ((undefA, H) :: tl) T' H'
  | step {o : Oper} {l : List Oper} {T T' : List AV} {H H1 H' : AH} {r : AV} {tl : List (AV × AH)} (hw : awanted ops T o = some true) (hs : ∃ pure call, PureOk P pure ∧ CallOk P call ∧ stepD P ql pure call T H o = some (r, H1))
      (hr : TraceR P ql ops l (aput T o.dst r) H1 tl T' H') : TraceR P ql ops (o :: l) T H ((r, H1) :: tl) T' H'
theorem traceR_told {ql : FuncId → Bool} {ops : List Oper} {T : List AV} {H : AH} {tr : List (AV × AH)} : ∀ (l : List Oper) (tl : List (AV × AH)) (k : Nat) (Tk : List AV) (Hk : AH) (T' : List AV) (H' : AH), (∀ (j : Nat) (o : Oper), l[j]? = some o → ops[k + j]? = some o) → (∀ j, tl[j]? = tr[k + j]?) →
    pt ops (valsOf tr) (fun _ => true) T k = Tk → hs ql ops tr H (fun _ => true) k = Hk → TraceR P ql ops.toArray l Tk Hk tl T' H' →
    pt ops (valsOf tr) (fun _ => true) T (k + l.length) = T' ∧ hs ql ops tr H (fun _ => true) (k + l.length) = H' ∧ ∀ (j : Nat) (o : Oper), l[j]? = some o → Told P ql ops tr T H (k + j) o := by
  intro l
  induction l with
  | nil =>
    intro tl k Tk Hk T' H' hl ht hT hH h
    cases h
    exact ⟨by simpa using hT, by simpa using hH, fun j o hj => by simp at hj⟩
  | cons o l ih =>
    intro tl k Tk Hk T' H' hl ht hT hH h
    have ho : ops[k]? = some o := by simpa using hl 0 o rfl
    have step : ∀ (r : AV) (H1 : AH) (t2 : List (AV × AH)), tl = (r, H1) :: t2 → TraceR P ql ops.toArray l (aput Tk o.dst r) H1 t2 T' H' → (quiet ql o.op = true → H1 = Hk) → (Told P ql ops tr T H k o) →
        pt ops (valsOf tr) (fun _ => true) T (k + (o :: l).length) = T' ∧ hs ql ops tr H (fun _ => true) (k + (o :: l).length) = H' ∧ ∀ (j : Nat) (o1 : Oper), (o :: l)[j]? = some o1 → Told P ql ops tr T H (k + j) o1 := by
      intro r H1 t2 htl h2 hq htold
      subst htl
      have h0 := ht 0
      simp only [List.getElem?_cons_zero, Nat.add_zero] at h0
      have hv : valsOf tr k = r := by unfold valsOf; rw [← h0]; rfl
      have hh : heapOf tr k = H1 := by unfold heapOf; rw [← h0]; rfl
      obtain ⟨e1, e2, e3⟩ := ih t2 (k + 1) (aput Tk o.dst r) H1 T' H' (fun j o' hj => by
          rw [show k + 1 + j = k + (j + 1) by omega]; exact hl (j + 1) o' (by simpa using hj)) (fun j => by
          have := ht (j + 1)
          rw [show k + 1 + j = k + (j + 1) by omega, ← this]
          simp) (by
          simp only [pt, if_true]
          rw [hT, hv]
          simp [dstOf, ho]) (by
          have hcn : chn ql ops k = !quiet ql o.op := by unfold chn; rw [ho]
          simp only [hs, Bool.true_and, hcn]
          by_cases hqo : quiet ql o.op = true
          · rw [if_neg (by simp [hqo]), hq hqo]; exact hH
          · rw [if_pos (by simpa using hqo)]; exact hh) h2
      have hkl : k + (o :: l).length = k + 1 + l.length := by simp; omega
      rw [hkl]
      refine ⟨e1, e2, fun j o1 hj => ?_⟩
      cases j with
      | zero => simp only [List.getElem?_cons_zero] at hj; injection hj with hj; subst hj; exact htold
      | succ j => rw [show k + (j + 1) = k + 1 + j by omega]; exact e3 j o1 (by simpa using hj)
    have h00 : ∀ (r : AV) (H1 : AH) (t2 : List (AV × AH)), tl = (r, H1) :: t2 → valsOf tr k = r ∧ heapOf tr k = H1 := by
      intro r H1 t2 htl
      have h0 := ht 0
      rw [htl] at h0
      simp only [List.getElem?_cons_zero, Nat.add_zero] at h0
      exact ⟨by unfold valsOf; rw [← h0]; rfl, by unfold heapOf; rw [← h0]; rfl⟩
    cases h with
    | skip hw hr =>
      obtain ⟨a1, a2⟩ := h00 _ _ _ rfl
      exact step _ _ _ rfl hr (fun _ => rfl) ⟨false, by rw [hT]; exact hw, (fun _ => ⟨a1, by rw [a2, hH]⟩), (fun h => by cases h)⟩
    | step hw hs hr =>
      obtain ⟨pu, cl, hp, hc, hst⟩ := hs
      obtain ⟨a1, a2⟩ := h00 _ _ _ rfl
      exact step _ _ _ rfl hr (fun hq => (stepD_quiet hp hq hst).1) ⟨true, by rw [hT]; exact hw, (fun h => by cases h), (fun _ => ⟨pu, cl, hp, hc, by rw [hT, hH, a1, a2]; exact hst⟩)⟩
theorem blind_quiet {ql : FuncId → Bool} {op : Op} (h : blind op = true) : quiet ql op = true := by
  cases op <;> first
    | rfl
    | cases h
/-- Each operation that looks at the heap has its place among those that change it. -/
def fixOk (ql : FuncId → Bool) (ops : List Oper) : Bool :=
  let b := masks ops []
  ops.zipIdx.all fun p => blind p.1.op || pureOp ql p.1.op || (List.range ops.length).all fun j => !(chn ql ops j) || decide (j = p.2) || (b.getD (max p.2 j) 0).testBit (min p.2 j)
theorem drawn_told {ql : FuncId → Bool} {id : Nat} {ops : List Oper} {T : List AV} {H : AH} {tr : List (AV × AH)} (hm : P.follows .mixedOrders = true) (hord : ordOk ops = true) (hfix : fixOk ql ops = true)
    (htold : ∀ (i : Nat) (o : Oper), ops[i]? = some o → Told P ql ops tr T H i o) {Q : AQ} (hq : Q .normal (pt ops (valsOf tr) (fun _ => true) T ops.length) (hs ql ops tr H (fun _ => true) ops.length)) : ACode P (.region id ops.toArray true) Q T H := by
  have hk := ordOk_ok hord
  refine ACode.drawn hm hord (Ω := Unit) (fun _ _ => True) (fun _ => valsOf tr) (fun _ S => hs ql ops tr H S ops.length) () trivial ?_ ?_ ?_
  · rw [hs_congr (S' := fun _ => false) _ (fun _ _ _ => rfl)]
    have : ∀ m, hs ql ops tr H (fun _ => false) m = H := by
      intro m
      induction m with
      | zero => rfl
      | succ m ih => simp only [hs, Bool.false_and, Bool.false_eq_true, if_false]; exact ih
    exact this _
  · intro _ S i o ⟨ho, hcl, hSi, hmet⟩ _
    have hil := (List.getElem?_eq_some_iff.1 ho).1
    obtain ⟨b, hw, hw0, hw1⟩ := htold i o ho
    have before : ∀ j, (((masks ops []).getD i 0).testBit j = true) → S j = true := fun j hj => mask_met hk.down hcl i o ho hmet j hj
    have behind : ∀ c, S c = true → c < ops.length → ((masks ops []).getD c 0).testBit i = true → False := by
      intro c hc hcl' hbit
      have := mask_met hk.down hcl c _ (List.getElem?_eq_getElem hcl') (fun e he hb' => hcl c _ (List.getElem?_eq_getElem hcl') hc e he hb') i hbit
      rw [hSi] at this
      cases this
    have R0 : ∀ (r : AV) (H1 : AH), valsOf tr i = r → hs ql ops tr H (upd S i) ops.length = H1 → ∃ ω' : Unit, True ∧ (∀ j, S j = true → valsOf tr j = valsOf tr j) ∧ valsOf tr i = r ∧ hs ql ops tr H (upd S i) ops.length = H1 :=
      fun r H1 a1 a2 => ⟨(), trivial, fun _ _ => rfl, a1, a2⟩
    have still : chn ql ops i = false → hs ql ops tr H (upd S i) ops.length = hs ql ops tr H S ops.length := by
      intro hci
      refine hs_congr _ fun j _ hj => ?_
      unfold upd
      split
      · rename_i he; rw [he, hci] at hj; cases hj
      · rfl
    have fixed : (∀ j, j < ops.length → chn ql ops j = true → j ≠ i → ((masks ops []).getD (max i j) 0).testBit (min i j) = true) → hs ql ops tr H S ops.length = hs ql ops tr H (fun _ => true) i ∧
        (∀ j, i ≤ j → j < ops.length → ¬ (S j = true ∧ chn ql ops j = true)) := by
      intro hf
      have above : ∀ j, i ≤ j → j < ops.length → ¬ (S j = true ∧ chn ql ops j = true) := by
        rintro j hj hjl ⟨h1, h2⟩
        rcases Nat.eq_or_lt_of_le hj with rfl | hlt
        · rw [hSi] at h1; cases h1
        · have := hf j hjl h2 (by omega)
          rw [Nat.max_eq_right (by omega), Nat.min_eq_left (by omega)] at this
          exact behind j h1 hjl this
      refine ⟨?_, above⟩
      rw [hs_stop ops.length (by omega) above]
      refine hs_congr _ fun j hj hcj => ?_
      have := hf j (by omega) hcj (by omega)
      rw [Nat.max_eq_left (by omega), Nat.min_eq_right (by omega)] at this
      exact before j this
    have hfx := List.all_eq_true.1 hfix _ (zip_mem ho)
    simp only [Bool.or_eq_true] at hfx
    have unfix : (blind o.op = false ∧ pureOp ql o.op = false) → ∀ j, j < ops.length → chn ql ops j = true → j ≠ i → ((masks ops []).getD (max i j) 0).testBit (min i j) = true := by
      rintro ⟨h1, h2⟩ j hj hcj hne
      rcases hfx with (h | h) | h
      · rw [h1] at h; cases h
      · rw [h2] at h; cases h
      · have := List.all_eq_true.1 h j (List.mem_range.2 hj)
        simpa [hcj, hne] using this
    have chNot : chn ql ops i = true → blind o.op = false ∧ pureOp ql o.op = false ∧ quiet ql o.op = false := by
      intro hci
      have hq0 : quiet ql o.op = false := by unfold chn at hci; rw [ho] at hci; simpa using hci
      refine ⟨?_, ?_, hq0⟩
      · cases hb : blind o.op with
        | false => rfl
        | true =>
          exfalso
          rw [blind_quiet hb] at hq0
          cases hq0
      · unfold quiet at hq0
        simp only [Bool.or_eq_false_iff] at hq0
        exact hq0.1.2
    have e2 : chn ql ops i = true → hs ql ops tr H (upd S i) ops.length = heapOf tr i := by
      intro hci
      obtain ⟨c1, c2, -⟩ := chNot hci
      obtain ⟨-, above⟩ := fixed (unfix ⟨c1, c2⟩)
      rw [hs_stop (i := i + 1) ops.length (by omega) (fun j h1 h2 h3 => above j (by omega) h2 ⟨by have := h3.1; unfold upd at this; rwa [if_neg (by omega)] at this, h3.2⟩)]
      simp only [hs]
      rw [if_pos (by simp [upd, hci])]
    refine ⟨b, hw, fun hb => ?_, fun hb => ?_⟩
    · subst hb
      obtain ⟨pu, cl, hpu, hcl1, hst⟩ := hw1 rfl
      cases hqi : quiet ql o.op with
      | true =>
        have hci : chn ql ops i = false := by unfold chn; rw [ho]; simp [hqi]
        obtain ⟨_, hz | ⟨hpo, f, args, hca, hgo, hal⟩ | ⟨hz, hstill, hnp⟩⟩ := stepD_quiet hpu hqi hst
        · exact .inr (.inl ⟨_, hz, R0 _ _ rfl (still hci)⟩)
        · refine .inr (.inr ⟨f, args, hca, hgo, (hal _).mono ?_⟩)
          rintro r' H'' ⟨rfl, rfl⟩
          exact R0 _ _ rfl (still hci)
        · left
          by_cases hbl : blind o.op = true
          · exact ⟨_, _, blind_any hbl hstill hz, R0 _ _ rfl (still hci)⟩
          · have := (fixed (unfix ⟨by simpa using hbl, hnp⟩)).1
            refine ⟨_, _, ?_, R0 _ _ rfl (still hci)⟩
            show aop P _ (hs ql ops tr H S ops.length) o = _
            rw [this]
            exact hz
      | false =>
        have hci : chn ql ops i = true := by unfold chn; rw [ho]; simp [hqi]
        obtain ⟨c1, c2, -⟩ := chNot hci
        have e1 := (fixed (unfix ⟨c1, c2⟩)).1
        show AStep P _ (hs ql ops tr H S ops.length) o _
        rw [e1]
        unfold stepD at hst
        split at hst
        · rename_i hbs; unfold quiet at hqi; simp [hbs] at hqi
        · rw [if_neg (by simp [c2])] at hst
          split at hst
          · rename_i x hx
            injection hst with hst
            subst hst
            exact .inl ⟨_, _, hx, R0 _ _ rfl (e2 hci)⟩
          · split at hst
            · rename_i f args hcall
              split at hst
              · rename_i hgo
                refine .inr (.inr ⟨f, args, hcall, hgo, (hcl1 f args _ _ _ hst).mono ?_⟩)
                rintro r' H'' ⟨rfl, rfl⟩
                exact R0 _ _ rfl (e2 hci)
              · cases hst
            · cases hst
    · subst hb
      obtain ⟨a1, a2⟩ := hw0 rfl
      refine R0 _ _ a1 ?_
      cases hci : chn ql ops i with
      | false => exact still hci
      | true =>
        obtain ⟨c1, c2, -⟩ := chNot hci
        rw [e2 hci, a2]
        exact (fixed (unfix ⟨c1, c2⟩)).1.symm
  · intro _ S hall _
    show Q .normal (pt ops (valsOf tr) (fun _ => true) T ops.length) (hs ql ops tr H S ops.length)
    rw [hs_congr (S' := fun _ => true) _ (fun j hj _ => hall j hj)]
    exact hq

/-- A drawn region, by its trace in the text's order: 'hins': what looks at the heap would see the same at each heap that it may meet. -/
theorem drawn_ins {pl : FuncId → Bool} {id : Nat} {ops : List Oper} {T : List AV} {H : AH} {tr : List (AV × AH)} (hm : P.follows .mixedOrders = true) (hord : ordOk ops = true) (hch : chainOk pl ops = true)
    (htold : ∀ (i : Nat) (o : Oper), ops[i]? = some o → Told P pl ops tr T H i o)
    (hins : ∀ (i : Nat) (o : Oper), ops[i]? = some o → quiet pl o.op = true → blind o.op = false → pureOp pl o.op = false → awanted ops.toArray (pt ops (valsOf tr) (fun _ => true) T i) o = some true →
      ∀ (c : Option Nat), (c = none ∨ ∃ d, c = some d ∧ d < ops.length ∧ chn pl ops d = true) → mayMeet pl ops (masks ops []) i c = true →
        ∃ H2, aop P (aeval (pt ops (valsOf tr) (fun _ => true) T i)) (match c with | some c => heapOf tr c | none => H) o = some (valsOf tr i, H2))
    {Q : AQ} (hq : Q .normal (pt ops (valsOf tr) (fun _ => true) T ops.length) (hs pl ops tr H (fun _ => true) ops.length)) : ACode P (.region id ops.toArray true) Q T H := by
  have hk := ordOk_ok hord
  refine ACode.drawn hm hord (Ω := Unit) (fun _ _ => True) (fun _ => valsOf tr) (fun _ S => hs pl ops tr H S ops.length) () trivial ?_ ?_ ?_
  · rw [hs_congr (S' := fun _ => false) _ (fun _ _ _ => rfl)]
    have : ∀ m, hs pl ops tr H (fun _ => false) m = H := by
      intro m
      induction m with
      | zero => rfl
      | succ m ih => simp only [hs, Bool.false_and, Bool.false_eq_true, if_false]; exact ih
    exact this _
  · intro _ S i o ⟨ho, hcl, hSi, hmet⟩ _
    have hil := (List.getElem?_eq_some_iff.1 ho).1
    obtain ⟨b, hw, hw0, hw1⟩ := htold i o ho
    have before : ∀ j, (((masks ops []).getD i 0).testBit j = true) → S j = true := fun j hj => mask_met hk.down hcl i o ho hmet j hj
    have behind : ∀ c, S c = true → c < ops.length → ((masks ops []).getD c 0).testBit i = true → False := by
      intro c hc hcl' hbit
      have := mask_met hk.down hcl c _ (List.getElem?_eq_getElem hcl') (fun e he hb' => hcl c _ (List.getElem?_eq_getElem hcl') hc e he hb') i hbit
      rw [hSi] at this
      cases this
    have chain : ∀ c d, c < d → d < ops.length → chn pl ops c = true → chn pl ops d = true → ((masks ops []).getD d 0).testBit c = true := by
      intro c d hcd hd h1 h2
      have := List.all_eq_true.1 hch _ (zip_mem (List.getElem?_eq_getElem hd))
      simp only [h2, Bool.not_true, Bool.false_or] at this
      have := List.all_eq_true.1 this c (List.mem_range.2 hcd)
      simpa [h1] using this
    have R0 : ∀ (r : AV) (H1 : AH), valsOf tr i = r → hs pl ops tr H (upd S i) ops.length = H1 → ∃ ω' : Unit, True ∧ (∀ j, S j = true → valsOf tr j = valsOf tr j) ∧ valsOf tr i = r ∧ hs pl ops tr H (upd S i) ops.length = H1 :=
      fun r H1 a1 a2 => ⟨(), trivial, fun _ _ => rfl, a1, a2⟩
    refine ⟨b, hw, fun hb => ?_, fun hb => ?_⟩
    · subst hb
      obtain ⟨pu, cl, hpu, hcl1, hst⟩ := hw1 rfl
      cases hqi : quiet pl o.op with
      | true =>
        have hci : chn pl ops i = false := by unfold chn; rw [ho]; simp [hqi]
        have hsame : hs pl ops tr H (upd S i) ops.length = hs pl ops tr H S ops.length := by
          refine hs_congr _ fun j _ hj => ?_
          unfold upd
          split
          · rename_i he; rw [he, hci] at hj; cases hj
          · rfl
        obtain ⟨_, hz | ⟨hpo, f, args, hca, hgo, hal⟩ | ⟨hz, hstill, hnp⟩⟩ := stepD_quiet hpu hqi hst
        · exact .inr (.inl ⟨_, hz, R0 _ _ rfl hsame⟩)
        · refine .inr (.inr ⟨f, args, hca, hgo, (hal _).mono ?_⟩)
          rintro r' H'' ⟨rfl, rfl⟩
          exact R0 _ _ rfl hsame
        · left
          by_cases hbl : blind o.op = true
          · exact ⟨_, _, blind_any hbl hstill hz, R0 _ _ rfl hsame⟩
          · have stage : ∀ (c : Option Nat), (c = none ∨ ∃ d, c = some d ∧ d < ops.length ∧ chn pl ops d = true) → mayMeet pl ops (masks ops []) i c = true →
                ∃ H2, aop P (aeval (pt ops (valsOf tr) (fun _ => true) T i)) (match c with | some c => heapOf tr c | none => H) o = some (valsOf tr i, H2) := hins i o ho hqi (by simpa using hbl) hnp hw
            have fin : ∃ H2, aop P (aeval (pt ops (valsOf tr) (fun _ => true) T i)) (hs pl ops tr H S ops.length) o = some (valsOf tr i, H2) := by
              rcases hs_last (ops := ops) (tr := tr) (H := H) (S := S) ops.length with ⟨e1, e2⟩ | ⟨c, e1, e2, e3, e4, e5⟩
              · rw [e1]
                refine stage none (.inl rfl) ?_
                unfold mayMeet
                simp only [Bool.and_true]
                refine List.all_eq_true.2 fun j hj => ?_
                have hj := List.mem_range.1 hj
                simp only [Bool.or_false, Bool.not_eq_true', Bool.and_eq_false_iff]
                cases hcj : chn pl ops j with
                | false => exact .inl rfl
                | true =>
                  right
                  cases hbj : ((masks ops []).getD i 0).testBit j with
                  | false => rfl
                  | true => exact absurd ⟨before j hbj, hcj⟩ (e2 j hj)
              · rw [e4]
                refine stage (some c) (.inr ⟨c, rfl, e1, e3⟩) ?_
                unfold mayMeet
                simp only [Bool.and_eq_true]
                refine ⟨List.all_eq_true.2 fun j hj => ?_, ?_, ?_⟩
                · have hj := List.mem_range.1 hj
                  simp only [Bool.or_eq_true, Bool.not_eq_true', Bool.and_eq_false_iff, decide_eq_true_eq]
                  cases hcj : chn pl ops j with
                  | false => exact .inl (.inl rfl)
                  | true =>
                    cases hbj : ((masks ops []).getD i 0).testBit j with
                    | false => exact .inl (.inr rfl)
                    | true =>
                      right
                      rcases Nat.lt_or_ge c j with hlt | hge
                      · exact absurd ⟨before j hbj, hcj⟩ (e5 j hlt hj)
                      · exact hge
                · cases hbc : ((masks ops []).getD c 0).testBit i with
                  | false => rfl
                  | true => exact (behind c e2 e1 hbc).elim
                · refine decide_eq_true ?_
                  rintro rfl
                  rw [hSi] at e2
                  cases e2
            obtain ⟨H2, hH2⟩ := fin
            have := still_heap hstill hH2
            subst this
            exact ⟨_, _, hH2, R0 _ _ rfl hsame⟩
      | false =>
        have hci : chn pl ops i = true := by unfold chn; rw [ho]; simp [hqi]
        have below : ∀ j, j < i → chn pl ops j = true → S j = true := fun j hj hcj => before j (chain j i hj hil hcj hci)
        have above : ∀ j, i ≤ j → j < ops.length → ¬ (S j = true ∧ chn pl ops j = true) := by
          rintro j hj hjl ⟨h1, h2⟩
          rcases Nat.eq_or_lt_of_le hj with rfl | hlt
          · rw [hSi] at h1; cases h1
          · exact behind j h1 hjl (chain i j hlt hjl hci h2)
        have e1 : hs pl ops tr H S ops.length = hs pl ops tr H (fun _ => true) i := by
          rw [hs_stop ops.length (by omega) above]
          exact hs_congr _ fun j hj hcj => below j hj hcj
        have e2 : hs pl ops tr H (upd S i) ops.length = heapOf tr i := by
          rw [hs_stop (i := i + 1) ops.length (by omega) (fun j h1 h2 h3 => above j (by omega) h2 ⟨by have := h3.1; unfold upd at this; rwa [if_neg (by omega)] at this, h3.2⟩)]
          simp only [hs]
          rw [if_pos (by simp [upd, hci])]
        show AStep P _ (hs pl ops tr H S ops.length) o _
        rw [e1]
        unfold stepD at hst
        split at hst
        · rename_i hbs; unfold quiet at hqi; simp [hbs] at hqi
        · have hnp : pureOp pl o.op = false := by
            unfold quiet at hqi
            simp only [Bool.or_eq_false_iff] at hqi
            exact hqi.1.2
          rw [if_neg (by simp [hnp])] at hst
          split at hst
          · rename_i x hx
            injection hst with hst
            subst hst
            exact .inl ⟨_, _, hx, R0 _ _ rfl e2⟩
          · split at hst
            · rename_i f args hcall
              split at hst
              · rename_i hgo
                refine .inr (.inr ⟨f, args, hcall, hgo, (hcl1 f args _ _ _ hst).mono ?_⟩)
                rintro r' H'' ⟨rfl, rfl⟩
                exact R0 _ _ rfl e2
              · cases hst
            · cases hst
    · subst hb
      obtain ⟨a1, a2⟩ := hw0 rfl
      refine R0 _ _ a1 ?_
      cases hci : chn pl ops i with
      | false =>
        refine hs_congr _ fun j _ hj => ?_
        unfold upd
        split
        · rename_i he; rw [he, hci] at hj; cases hj
        · rfl
      | true =>
        have below : ∀ j, j < i → chn pl ops j = true → S j = true := fun j hj hcj => before j (chain j i hj hil hcj hci)
        have above : ∀ j, i ≤ j → j < ops.length → ¬ (S j = true ∧ chn pl ops j = true) := by
          rintro j hj hjl ⟨h1, h2⟩
          rcases Nat.eq_or_lt_of_le hj with rfl | hlt
          · rw [hSi] at h1; cases h1
          · exact behind j h1 hjl (chain i j hlt hjl hci h2)
        have e1 : hs pl ops tr H S ops.length = hs pl ops tr H (fun _ => true) i := by
          rw [hs_stop ops.length (by omega) above]
          exact hs_congr _ fun j hj hcj => below j hj hcj
        rw [hs_stop (i := i + 1) ops.length (by omega) (fun j h1 h2 h3 => above j (by omega) h2 ⟨by have := h3.1; unfold upd at this; rwa [if_neg (by omega)] at this, h3.2⟩)]
        simp only [hs]
        rw [if_pos (by simp [upd, hci]), a2, e1]
  · intro _ S hall _
    show Q .normal (pt ops (valsOf tr) (fun _ => true) T ops.length) (hs pl ops tr H S ops.length)
    rw [hs_congr (S' := fun _ => true) _ (fun j hj _ => hall j hj)]
    exact hq

/-! ### what must hold ahead, for simp -/
/-- A call, told whole. -/
def wCall (P : Program) (ql : FuncId → Bool) (dr : Bool) (ρ : Operand → AV) (o : Oper) (H : AH) (r : AV) (H' : AH) : Prop :=
  match acall ρ o with
  | some (k, args) => goFunc P k = true ∧ if dr && pureOp ql o.op then BPure P k args r ∧ H' = H else BCall P k args H r H'
  | none => False
def isBS : Op → Bool
  | .buildSlice .. => true
  | _ => false
def opD (P : Program) (dr : Bool) (ρ : Operand → AV) (H : AH) (o : Oper) : Option (AV × AH) :=
  if dr && isBS o.op then (afrozen P ρ o).map (·, H) else aop P ρ H o
def wOps (P : Program) (ql : FuncId → Bool) (dr : Bool) (ops : Array Oper) : List Oper → List AV → AH → (List AV → AH → Prop) → Prop
  | [], T, H, K => K T H
  | o :: l, T, H, K => match awanted ops T o with
    | none => False
    | some false => wOps P ql dr ops l (aput T o.dst undefA) H K
    | some true => match opD P dr (aeval T) H o with
      | some (r, H') => wOps P ql dr ops l (aput T o.dst r) H' K
      | none => ∃ r H', wCall P ql dr (aeval T) o H r H' ∧ wOps P ql dr ops l (aput T o.dst r) H' K
theorem wOps_still {ql : FuncId → Bool} {ops : Array Oper} : ∀ (l : List Oper) (T : List AV) (H : AH) (K : List AV → AH → Prop), wOps P ql false ops l T H K → ∃ T' H', K T' H' ∧ AOps P ops (AQ.is (.normal, T', H')) l T H
  | [], T, H, K, h => ⟨T, H, h, AOps.nil rfl⟩
  | o :: l, T, H, K, h => by
    unfold wOps at h
    split at h
    · exact h.elim
    · rename_i hw
      obtain ⟨T', H', hk, ha⟩ := wOps_still l _ _ K h
      exact ⟨T', H', hk, AOps.unwanted hw ha⟩
    · rename_i hw
      split at h
      · rename_i r H1 ho
        obtain ⟨T', H', hk, ha⟩ := wOps_still l _ _ K h
        exact ⟨T', H', hk, AOps.op hw (by simpa [opD] using ho) ha⟩
      · obtain ⟨r, H1, hc, h⟩ := h
        obtain ⟨T', H', hk, ha⟩ := wOps_still l _ _ K h
        unfold wCall at hc
        split at hc
        · rename_i k args hcall
          simp only [Bool.false_and, Bool.false_eq_true, if_false] at hc
          refine ⟨T', H', hk, AOps.call hw hcall hc.1 (hc.2.mono ?_)⟩
          rintro r' H'' ⟨rfl, rfl⟩
          exact ha
        · exact hc.elim
theorem opD_none {dr : Bool} {T : List AV} {H : AH} {o : Oper} {q : FuncId × List AV} (hc : acall (aeval T) o = some q) : aop P (aeval T) H o = none ∧ isBS o.op = false := by
  obtain ⟨dst, op, type, pos, after, guard⟩ := o
  unfold acall at hc
  split at hc
  · rename_i hop
    simp only at hop
    subst hop
    exact ⟨rfl, rfl⟩
  · cases hc
theorem wOps_draw {ql : FuncId → Bool} {ops : Array Oper} : ∀ (l : List Oper) (T : List AV) (H : AH) (K : List AV → AH → Prop), wOps P ql true ops l T H K → ∃ tl T' H', K T' H' ∧ TraceR P ql ops l T H tl T' H'
  | [], T, H, K, h => ⟨[], T, H, h, .nil _ _⟩
  | o :: l, T, H, K, h => by
    have none_ok : PureOk P (fun _ _ => none) := fun _ _ _ h => by cases h
    have none_ok' : CallOk P (fun _ _ _ => none) := fun _ _ _ _ _ h => by cases h
    unfold wOps at h
    split at h
    · exact h.elim
    · rename_i hw
      obtain ⟨tl, T', H', hk, ha⟩ := wOps_draw l _ _ K h
      exact ⟨_, T', H', hk, .skip hw ha⟩
    · rename_i hw
      split at h
      · rename_i r H1 ho
        obtain ⟨tl, T', H', hk, ha⟩ := wOps_draw l _ _ K h
        refine ⟨_, T', H', hk, .step hw ⟨fun _ _ => none, fun _ _ _ => none, none_ok, none_ok', ?_⟩ ha⟩
        unfold opD at ho
        simp only [Bool.true_and] at ho
        unfold stepD
        split at ho
        · rename_i hbs
          split
          · exact ho
          · rename_i hne
            exfalso
            revert hbs
            unfold isBS
            split
            · rename_i h1; exact fun _ => hne _ _ _ h1
            · simp
        · rename_i hbs
          split
          · rename_i h1; rw [h1] at hbs; simp [isBS] at hbs
          · have hnp : pureOp ql o.op = false := by
              cases hpo : pureOp ql o.op with
              | false => rfl
              | true =>
                exfalso
                obtain ⟨dst, op, type, pos, after, guard⟩ := o
                unfold pureOp at hpo
                split at hpo
                · rename_i hop; simp only at hop; subst hop; cases ho
                · cases hpo
            rw [if_neg (by simp [hnp]), ho]
      · obtain ⟨r, H1, hc, h⟩ := h
        obtain ⟨tl, T', H', hk, ha⟩ := wOps_draw l _ _ K h
        unfold wCall at hc
        split at hc
        · rename_i k args hcall
          obtain ⟨hgo, hc⟩ := hc
          obtain ⟨n1, n2⟩ := opD_none (P := P) (dr := true) (H := H) hcall
          simp only [Bool.true_and] at hc
          split at hc
          · rename_i hpo
            obtain ⟨hp, rfl⟩ := hc
            classical
            refine ⟨_, T', H', hk, .step hw ⟨fun f a => if f = k ∧ a = args then some r else none, fun _ _ _ => none, ?_, none_ok', ?_⟩ ha⟩
            · intro f a r1 h1
              dsimp only at h1
              split at h1
              · rename_i he
                injection h1 with h1
                obtain ⟨rfl, rfl⟩ := he
                subst h1
                exact ⟨hgo, hp⟩
              · cases h1
            · unfold stepD
              split
              · rename_i h1; rw [h1] at n2; cases n2
              · rw [if_pos hpo, hcall]
                simp
          · rename_i hpo
            classical
            refine ⟨_, T', H', hk, .step hw ⟨fun _ _ => none, fun f a H2 => if f = k ∧ a = args ∧ H2 = H then some (r, H1) else none, none_ok, ?_, ?_⟩ ha⟩
            · intro f a H2 r1 H3 h1
              dsimp only at h1
              split at h1
              · rename_i he
                injection h1 with h1
                injection h1 with h1 h2
                obtain ⟨rfl, rfl, rfl⟩ := he
                subst h1; subst h2
                exact hc
              · cases h1
            · unfold stepD
              split
              · rename_i h1; rw [h1] at n2; cases n2
              · rw [if_neg hpo, n1, hcall]
                simp [hgo]
        · exact hc.elim
/-! ### what looks at the heap and may stand elsewhere -/
def lastCh (ql : FuncId → Bool) (ops : List Oper) : Nat → Option Nat
  | 0 => none
  | m + 1 => if chn ql ops m then some m else lastCh ql ops m
theorem hs_lastCh {ql : FuncId → Bool} {ops : List Oper} {tr : List (AV × AH)} {H : AH} : ∀ m, hs ql ops tr H (fun _ => true) m = match lastCh ql ops m with
    | some c => heapOf tr c
    | none => H
  | 0 => rfl
  | m + 1 => by
    simp only [hs, lastCh, Bool.true_and]
    by_cases h : chn ql ops m = true
    · rw [if_pos h, if_pos h]
    · rw [if_neg h, if_neg h]; exact hs_lastCh m
/-- Which operations may meet which other heap (that an operation left, or the first). -/
def floats (ql : FuncId → Bool) (ops : List Oper) : List (Nat × Option Nat) :=
  let b := masks ops []
  let stages := none :: ((List.range ops.length).filter (chn ql ops)).map some
  (List.range ops.length).flatMap fun i => match ops[i]? with
    | some o => if quiet ql o.op && !blind o.op && !pureOp ql o.op then (stages.filter fun c => mayMeet ql ops b i c && decide (c ≠ lastCh ql ops i)).map (i, ·) else []
    | none => []
def FloatsOk (P : Program) (ops : Array Oper) (H : AH) (lg : List (List AV × AH × AV)) : List (Nat × Option Nat) → Prop
  | [] => True
  | (i, c) :: r => (match ops[i]?, lg[i]? with
    | some o, some (Ti, _, v) => awanted ops Ti o = some true → (aop P (aeval Ti) (match c with
      | some c => ((lg[c]?).map (·.2.1)).getD []
      | none => H) o).map Prod.fst = some v
    | _, _ => False) ∧ FloatsOk P ops H lg r
theorem FloatsOk.mem {ops : Array Oper} {H : AH} {lg : List (List AV × AH × AV)} : ∀ {fl : List (Nat × Option Nat)}, FloatsOk P ops H lg fl → ∀ {i : Nat} {c : Option Nat}, (i, c) ∈ fl → ∃ o Ti h v, ops[i]? = some o ∧ lg[i]? = some (Ti, h, v) ∧
    (awanted ops Ti o = some true → (aop P (aeval Ti) (match c with
      | some c => ((lg[c]?).map (·.2.1)).getD []
      | none => H) o).map Prod.fst = some v)
  | (i, c) :: r, h, j, d, hm => by
    simp only [FloatsOk] at h
    rcases List.mem_cons.1 hm with he | hm
    · injection he with h1 h2
      subst h1; subst h2
      have h1 := h.1
      split at h1
      · rename_i o Ti hh v ho hl
        exact ⟨o, Ti, hh, v, ho, hl, h1⟩
      · exact h1.elim
    · exact h.2.mem hm
def logOf : List Oper → List (AV × AH) → List AV → List (List AV × AH × AV)
  | o :: l, (r, h) :: tr, T => (T, h, r) :: logOf l tr (aput T o.dst r)
  | _, _, _ => []
theorem logOf_get {ops : List Oper} {tr : List (AV × AH)} {T : List AV} : ∀ (l : List Oper) (tl : List (AV × AH)) (k : Nat) (Tk : List AV), (∀ (j : Nat) (o : Oper), l[j]? = some o → ops[k + j]? = some o) → (∀ j, tl[j]? = tr[k + j]?) →
    pt ops (valsOf tr) (fun _ => true) T k = Tk → ∀ (j : Nat) (x : List AV × AH × AV), (logOf l tl Tk)[j]? = some x → x = (pt ops (valsOf tr) (fun _ => true) T (k + j), heapOf tr (k + j), valsOf tr (k + j))
  | [], tl, k, Tk, hl, ht, hT, j, x, h => by simp [logOf] at h
  | o :: l, [], k, Tk, hl, ht, hT, j, x, h => by simp [logOf] at h
  | o :: l, (r, H') :: tl, k, Tk, hl, ht, hT, j, x, h => by
    simp only [logOf] at h
    have h0 := ht 0
    simp only [List.getElem?_cons_zero, Nat.add_zero] at h0
    have hv : valsOf tr k = r := by unfold valsOf; rw [← h0]; rfl
    have hh : heapOf tr k = H' := by unfold heapOf; rw [← h0]; rfl
    cases j with
    | zero => simp only [List.getElem?_cons_zero] at h; injection h with h; rw [← h, Nat.add_zero, hT, hv, hh]
    | succ j =>
      have ho : ops[k]? = some o := by simpa using hl 0 o rfl
      rw [show k + (j + 1) = k + 1 + j by omega]
      refine logOf_get l tl (k + 1) (aput Tk o.dst r) (fun j o' hj => by
          rw [show k + 1 + j = k + (j + 1) by omega]; exact hl (j + 1) o' (by simpa using hj)) (fun j => by
          have := ht (j + 1)
          rw [show k + 1 + j = k + (j + 1) by omega, ← this]
          simp) (by
          simp only [pt, if_true]
          rw [hT, hv]
          simp [dstOf, ho]) j x (by simpa using h)
theorem logOf_len {ql : FuncId → Bool} {ops : Array Oper} {l : List Oper} {T T' : List AV} {H H' : AH} {tl : List (AV × AH)} (h : TraceR P ql ops l T H tl T' H') : (logOf l tl T).length = l.length := by
  induction h with
  | nil => rfl
  | skip hw hr ih => simp only [logOf, List.length_cons, ih]
  | step hw hs hr ih => simp only [logOf, List.length_cons, ih]
/-- A drawn region, walked as it is written; fl: what floats. -/
def wOpsD (P : Program) (ql : FuncId → Bool) (ops : Array Oper) (H0 : AH) (fl : List (Nat × Option Nat)) : List Oper → List AV → AH → List (List AV × AH × AV) → (List AV → AH → Prop) → Prop
  | [], T, H, lg, K => FloatsOk P ops H0 lg.reverse fl ∧ K T H
  | o :: l, T, H, lg, K => match awanted ops T o with
    | none => False
    | some false => wOpsD P ql ops H0 fl l (aput T o.dst undefA) H ((T, H, undefA) :: lg) K
    | some true => match opD P true (aeval T) H o with
      | some (r, H') => wOpsD P ql ops H0 fl l (aput T o.dst r) H' ((T, H', r) :: lg) K
      | none => ∃ r H', wCall P ql true (aeval T) o H r H' ∧ wOpsD P ql ops H0 fl l (aput T o.dst r) H' ((T, H', r) :: lg) K
theorem wOpsD_ok {ql : FuncId → Bool} {ops : Array Oper} {H0 : AH} {fl : List (Nat × Option Nat)} : ∀ (l : List Oper) (T : List AV) (H : AH) (lg : List (List AV × AH × AV)) (K : List AV → AH → Prop), wOpsD P ql ops H0 fl l T H lg K →
    ∃ tl T' H', K T' H' ∧ TraceR P ql ops l T H tl T' H' ∧ FloatsOk P ops H0 (lg.reverse ++ logOf l tl T) fl
  | [], T, H, lg, K, h => ⟨[], T, H, h.2, .nil _ _, by simpa [logOf] using h.1⟩
  | o :: l, T, H, lg, K, h => by
    unfold wOpsD at h
    split at h
    · exact h.elim
    · rename_i hw
      obtain ⟨tl, T', H', hk, ha, hf⟩ := wOpsD_ok l _ _ _ K h
      exact ⟨_, T', H', hk, .skip hw ha, by simpa [logOf] using hf⟩
    · rename_i hw
      split at h
      · rename_i r H1 ho
        obtain ⟨tl, T', H', hk, ha, hf⟩ := wOpsD_ok l _ _ _ K h
        obtain ⟨tl1, T1, H2, h1, h2⟩ := wOps_draw (P := P) (ql := ql) (ops := ops) [o] T H (fun T' H' => T' = aput T o.dst r ∧ H' = H1) (by unfold wOps; rw [hw]; simp only [ho]; unfold wOps; exact ⟨rfl, rfl⟩)
        cases h2 with
        | skip hw' _ => rw [hw] at hw'; cases hw'
        | step hw' hs hr =>
          cases hr
          obtain ⟨e1, rfl⟩ := h1
          rename_i r'
          have hr : r' = r := by
            obtain ⟨pu, cl, hp, hc, hst⟩ := hs
            unfold opD at ho
            unfold stepD at hst
            simp only [Bool.true_and] at ho
            split at ho
            · rename_i hbs
              split at hst
              · rw [ho] at hst; injection hst with hst; injection hst with h1 _; exact h1.symm
              · rename_i hne
                exfalso
                revert hbs
                unfold isBS
                split
                · rename_i h1; exact fun _ => hne _ _ _ h1
                · simp
            · rename_i hbs
              split at hst
              · rename_i h1; rw [h1] at hbs; simp [isBS] at hbs
              · have hnp : pureOp ql o.op = false := by
                  cases hpo : pureOp ql o.op with
                  | false => rfl
                  | true =>
                    exfalso
                    obtain ⟨dst, op, type, pos, after, guard⟩ := o
                    unfold pureOp at hpo
                    split at hpo
                    · rename_i hop; simp only at hop; subst hop; cases ho
                    · cases hpo
                rw [if_neg (by simp [hnp]), ho] at hst
                injection hst with hst; injection hst with h1 _; exact h1.symm
          subst hr
          exact ⟨_, T', H', hk, .step hw hs ha, by simpa [logOf] using hf⟩
      · rename_i ho
        obtain ⟨r, H1, hc, h⟩ := h
        obtain ⟨tl, T', H', hk, ha, hf⟩ := wOpsD_ok l _ _ _ K h
        have hstep : ∃ pure call, PureOk P pure ∧ CallOk P call ∧ stepD P ql pure call T H o = some (r, H1) := by
          have none_ok : PureOk P (fun _ _ => none) := fun _ _ _ h => by cases h
          have none_ok' : CallOk P (fun _ _ _ => none) := fun _ _ _ _ _ h => by cases h
          unfold wCall at hc
          split at hc
          · rename_i k args hcall
            obtain ⟨hgo, hc⟩ := hc
            obtain ⟨n1, n2⟩ := opD_none (P := P) (dr := true) (H := H) hcall
            simp only [Bool.true_and] at hc
            split at hc
            · rename_i hpo
              obtain ⟨hp, rfl⟩ := hc
              classical
              refine ⟨fun f a => if f = k ∧ a = args then some r else none, fun _ _ _ => none, ?_, none_ok', ?_⟩
              · intro f a r1 h1
                dsimp only at h1
                split at h1
                · rename_i he
                  injection h1 with h1
                  obtain ⟨rfl, rfl⟩ := he
                  subst h1
                  exact ⟨hgo, hp⟩
                · cases h1
              · unfold stepD
                split
                · rename_i h1; rw [h1] at n2; cases n2
                · rw [if_pos hpo, hcall]
                  simp
            · rename_i hpo
              classical
              refine ⟨fun _ _ => none, fun f a H2 => if f = k ∧ a = args ∧ H2 = H then some (r, H1) else none, none_ok, ?_, ?_⟩
              · intro f a H2 r1 H3 h1
                dsimp only at h1
                split at h1
                · rename_i he
                  injection h1 with h1
                  injection h1 with h1 h2
                  obtain ⟨rfl, rfl, rfl⟩ := he
                  subst h1; subst h2
                  exact hc
                · cases h1
              · unfold stepD
                split
                · rename_i h1; rw [h1] at n2; cases n2
                · rw [if_neg hpo, n1, hcall]
                  simp [hgo]
          · exact hc.elim
        exact ⟨_, T', H', hk, .step hw hstep ha, by simpa [logOf] using hf⟩
/-- Code comes to just that. -/
def BCode (P : Program) (c : Code) (T : List AV) (H : AH) (e : Exit) (T' : List AV) (H' : AH) : Prop := ACode P c (AQ.is (e, T', H')) T H
theorem BCode.reg {id : Nat} {ops : Array Oper} {T : List AV} {H : AH} {K : List AV → AH → Prop} (h : wOps P (fun _ => false) false ops ops.toList T H K) : ∃ T' H', K T' H' ∧ BCode P (.region id ops false) T H .normal T' H' := by
  obtain ⟨T', H', hk, ha⟩ := wOps_still _ _ _ _ h
  exact ⟨T', H', hk, ACode.region ha⟩
theorem BCode.draw (ql : FuncId → Bool) {id : Nat} {ops : List Oper} {T : List AV} {H : AH} {fl : List (Nat × Option Nat)} {K : List AV → AH → Prop} (hm : P.follows .mixedOrders = true) (hs : (ordOk ops && chainOk ql ops && decide (floats ql ops = fl)) = true) (h : wOpsD P ql ops.toArray H fl ops T H [] K) :
    ∃ T' H', K T' H' ∧ BCode P (.region id ops.toArray true) T H .normal T' H' := by
  simp only [Bool.and_eq_true, decide_eq_true_eq] at hs
  obtain ⟨⟨hs1, hs2⟩, rfl⟩ := hs
  obtain ⟨tl, T', H', hk, ha, hf⟩ := wOpsD_ok _ _ _ _ _ h
  have hlen := logOf_len ha
  obtain ⟨e1, e2, e3⟩ := traceR_told (ops := ops) (T := T) (H := H) (tr := tl) ops tl 0 T H T' H' (fun j o hj => by simpa using hj) (fun j => by simp) rfl rfl ha
  simp only [Nat.zero_add] at e1 e2 e3
  refine ⟨T', H', hk, drawn_ins hm hs1 hs2 (fun i o hi => e3 i o hi) ?_ (by rw [e1, e2]; rfl)⟩
  intro i o ho hq hb hp hw c hcc hmm
  have hil := (List.getElem?_eq_some_iff.1 ho).1
  have lget := logOf_get (ops := ops) (tr := tl) (T := T) ops tl 0 T (fun j o hj => by simpa using hj) (fun j => by simp) rfl
  simp only [Nat.zero_add] at lget
  simp only [List.reverse_nil, List.nil_append] at hf
  by_cases hl : c = lastCh ql ops i
  · obtain ⟨b, hw', -, h1⟩ := e3 i o ho
    rw [hw] at hw'
    injection hw' with hw'
    obtain ⟨pu, cl, hpu, hcl, hst⟩ := h1 hw'.symm
    rw [hs_lastCh] at hst
    have := hl
    subst this
    obtain ⟨_, hz | ⟨hpo, _⟩ | ⟨hz, _, _⟩⟩ := stepD_quiet hpu hq hst
    · exfalso
      obtain ⟨dst, op, type, pos, after, guard⟩ := o
      unfold afrozen at hz
      split at hz
      · rename_i hop; simp only at hop; subst hop; simp [blind] at hb
      · cases hz
    · rw [hp] at hpo; cases hpo
    · exact ⟨_, hz⟩
  · have hmem : (i, c) ∈ floats ql ops := by
      unfold floats
      simp only
      refine List.mem_flatMap.2 ⟨i, List.mem_range.2 hil, ?_⟩
      rw [ho]
      simp only [hq, hb, hp, Bool.not_false, Bool.and_self, if_true]
      refine List.mem_map.2 ⟨c, List.mem_filter.2 ⟨?_, by simp [hmm, hl]⟩, rfl⟩
      rcases hcc with rfl | ⟨d, rfl, hd, hcd⟩
      · simp
      · simp [List.mem_filter, hd, hcd]
    obtain ⟨o', Ti, hh, v, ho', hlg, hval⟩ := hf.mem hmem
    have hoo : o' = o := by
      have : ops.toArray[i]? = some o := by simpa using ho
      rw [this] at ho'; injection ho' with h; exact h.symm
    subst hoo
    have := lget i _ hlg
    simp only [Prod.mk.injEq] at this
    obtain ⟨rfl, -, rfl⟩ := this
    have hv := hval hw
    obtain ⟨⟨r2, H2⟩, h2, h3⟩ := Option.map_eq_some_iff.1 hv
    simp only at h3
    subst h3
    cases c with
    | none => exact ⟨H2, h2⟩
    | some d =>
      rcases hcc with h | ⟨d', hd', hdl, -⟩
      · cases h
      · injection hd' with hd'
        subst hd'
        have hld : d < (logOf ops tl T).length := by rw [hlen]; exact hdl
        have hg := lget d _ (List.getElem?_eq_getElem hld)
        have : (((logOf ops tl T)[d]?).map (·.2.1)).getD [] = heapOf tl d := by
          rw [List.getElem?_eq_getElem hld, hg]; rfl
        simp only [this] at h2
        exact ⟨H2, h2⟩
end
end Go.Proofs.Ythgkepaadkmhoaa.Av
