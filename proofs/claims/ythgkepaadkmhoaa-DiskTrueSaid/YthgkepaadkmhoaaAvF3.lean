/- One operation as a formula: it says enough, and one outcome alone. -/
import Derived.Test.YthgkepaadkmhoaaAvF2
set_option linter.unusedVariables false
set_option linter.unusedSimpArgs false
namespace Go.Proofs.Ythgkepaadkmhoaa.Av
open Go Go.RowKit

section
variable {P : Program}
theorem lenI_ok {t : TypeId} {x : LK} (h : lenI P t = some x) : match x with
    | .str => P.underlying t = some .string
    | .sl => ∃ e, P.underlying t = some (.slice e)
    | .arr n => ∃ e, P.underlying t = some (.array n e)
    | .mp => ∃ k e, P.underlying t = some (.map k e) := by
  unfold lenI at h
  split at h
  · rename_i hu; injection h with h; subst h; exact hu
  · rename_i e hu; injection h with h; subst h; exact ⟨e, hu⟩
  · rename_i n e hu; injection h with h; subst h; exact ⟨e, hu⟩
  · rename_i k e hu; injection h with h; subst h; exact ⟨k, e, hu⟩
  · cases h
theorem sliceI_ok {t : TypeId} {x : SK} (h : sliceI P t = some x) : match x with
    | .str => P.underlying t = some .string
    | .sl sz => ∃ e, P.underlying t = some (.slice e) ∧ tSize P e = some sz
    | .arr n sz => ∃ e, P.underlying t = some (.array n e) ∧ tSize P e = some sz := by
  unfold sliceI at h
  split at h
  · rename_i hu; injection h with h; subst h; exact hu
  · rename_i e hu
    obtain ⟨s, hs, rfl⟩ := Option.map_eq_some_iff.1 h
    exact ⟨e, hu, hs⟩
  · rename_i n e hu
    obtain ⟨s, hs, rfl⟩ := Option.map_eq_some_iff.1 h
    exact ⟨e, hu, hs⟩
  · cases h
theorem indexI_ok {t : TypeId} {x : IK} (h : indexI P t = some x) : match x with
    | .sl sz => ∃ e, P.underlying t = some (.slice e) ∧ tSize P e = some sz
    | .arr n sz => ∃ e, P.underlying t = some (.array n e) ∧ tSize P e = some sz := by
  unfold indexI at h
  split at h
  · rename_i e hu
    obtain ⟨s, hs, rfl⟩ := Option.map_eq_some_iff.1 h
    exact ⟨e, hu, hs⟩
  · rename_i n e hu
    obtain ⟨s, hs, rfl⟩ := Option.map_eq_some_iff.1 h
    exact ⟨e, hu, hs⟩
  · cases h
theorem ivI_ok {t : TypeId} {x : VK} (h : ivI P t = some x) : match x with
    | .str => P.underlying t = some .string
    | .arr g n len sz => ∃ e, P.underlying t = some (.array len e) ∧ tAgg P e = some g ∧ tSize P e = some n ∧ sz = n := by
  unfold ivI at h
  split at h
  · rename_i hu; injection h with h; subst h; exact hu
  · rename_i len e hu
    split at h
    · rename_i g n hg hn; injection h with h; subst h; exact ⟨e, hu, hg, hn, rfl⟩
    · cases h
  · cases h
theorem convI_ok {s d : TypeId} {x : CK} (h : convI P s d = some x) : match x with
    | .int k => P.underlying d = some (.int k) ∧ ∃ y, P.underlying s = some y
    | .str => P.underlying d = some .string ∧ P.underlying s = some .string
    | .ofB => P.underlying d = some .string ∧ ∃ e, P.underlying s = some (.slice e) ∧ P.underlying e = some (.int .u8)
    | .toB => P.underlying s = some .string ∧ ∃ e, P.underlying d = some (.slice e) ∧ P.underlying e = some (.int .u8) := by
  unfold convI at h
  split at h
  · rename_i k y h1 h2; injection h with h; subst h; exact ⟨h1, y, h2⟩
  · rename_i h1 h2; injection h with h; subst h; exact ⟨h1, h2⟩
  · rename_i e h1 h2
    split at h
    · rename_i h3; injection h with h; subst h; exact ⟨h1, e, h2, h3⟩
    · cases h
  · rename_i e h1 h2
    split at h
    · rename_i h3; injection h with h; subst h; exact ⟨h2, e, h1, h3⟩
    · cases h
  · cases h
theorem fieldI_ok {s : TypeId} {f : Nat} {g : Bool} {n off : Nat} (h : fieldI P s f = some (g, n, off)) (x : AV) : afield P s x f = aprt g n off x := by
  unfold fieldI at h
  unfold afield
  split at h
  · rename_i fields hu
    rw [hu]
    simp only
    split at h
    · rename_i fl hfl
      rw [hfl]
      simp only
      split at h
      · rename_i g' n' hg hn
        injection h with h; injection h with h1 h2; injection h2 with h2 h3
        subst h1; subst h2; subst h3
        unfold apart aprt
        rw [hg, hn]
        cases x <;> rfl
      · cases h
    · cases h
  · cases h
theorem aap_ok {t u : TypeId} {sz by' : Nat} {zc : List AV} {H : AH} {s x : AV} (ht : elemI P t = some (sz, by', zc)) (hu : (∃ e, P.underlying u = some (.slice e)) ∨ P.underlying u = some .string) : aappend P H t u s x = aap sz by' H s x := by
  obtain ⟨e, i, z, h1, h2, h3, rfl, rfl, rfl, h4, h5, h6, h7⟩ := elemI_ok ht
  unfold aappend aap
  rcases hu with ⟨e', hu⟩ | hu <;> rw [h1, hu] <;> simp only [h2, h3]
  · cases appended H i.size x with
    | none => rfl
    | some q => simp [h4, h5, h6]
  · cases appended H i.size x with
    | none => rfl
    | some q => simp [h4, h5, h6]

theorem aeq_ptr {d : Nat} {t e : TypeId} (hu : P.underlying t = some (.pointer e)) (x y : AV) : aeq P (d + 1) t x y = anil2 (nilP x) (nilP y) := by simp only [aeq, hu]
theorem aeq_sl {d : Nat} {t e : TypeId} (hu : P.underlying t = some (.slice e)) (x y : AV) : aeq P (d + 1) t x y = anil2 (nilS x) (nilS y) := by simp only [aeq, hu]
theorem aeq_fn {d : Nat} {t : TypeId} {ps rs : Array TypeId} {v : Bool} (hu : P.underlying t = some (.func ps rs v)) (x y : AV) : aeq P (d + 1) t x y = anil2 (nilF x) (nilF y) := by simp only [aeq, hu]
theorem aeq_mp {d : Nat} {t k e : TypeId} (hu : P.underlying t = some (.map k e)) (x y : AV) : aeq P (d + 1) t x y = anil2 (nilM x) (nilM y) := by simp only [aeq, hu]
variable {ql : FuncId → Bool} {dr : Bool} {ρ : Operand → AV} {H : AH} {w : Bool} {K : AV → AH → Prop}
theorem sBuiltin_one {dst : Option Tmp} {b : Builtin} {args : Array Operand} {ats : Array TypeId} {type : TypeId} {pos : String} {after : Array Edge} {guard : Option (Nat × Bool)}
    (h : sBuiltin P H w b ats.toList (args.toList.map ρ) K) :
    ∃ r H', K r H' ∧ StepR P ql dr ρ H ⟨dst, .call { callee := .builtin b, args, argTypes := ats }, type, pos, after, guard⟩ w r H' ∧ ∀ K2 : AV → AH → Prop, K2 r H' → sBuiltin P H w b ats.toList (args.toList.map ρ) K2 := by
  have hop : opD P dr ρ H ⟨dst, .call { callee := .builtin b, args, argTypes := ats }, type, pos, after, guard⟩ = abuiltin P H b ats.toList (args.toList.map ρ) := (opD_aop rfl).trans rfl
  generalize ats.toList = ts at *
  generalize args.toList.map ρ = xs at *
  unfold sBuiltin at h ⊢
  split at h
  · rename_i t x
    (try simp only)
    split at h
    · rename_i hl
      have hl' := lenI_ok hl
      (try simp only [hl])
      refine gO_one h fun r hr => hop.trans ?_
      unfold alnT at hr
      split at hr
      · injection hr with hr; subst hr
        simp [abuiltin, alen, hl']
      · cases hr
    · rename_i hl
      obtain ⟨e, hl'⟩ := lenI_ok hl
      (try simp only [hl])
      refine gO_one h fun r hr => hop.trans ?_
      unfold alnS at hr
      split at hr <;> first
        | (cases hr; done)
        | (injection hr with hr; subst hr; simp [abuiltin, alen, hl'])
    · rename_i n hl
      obtain ⟨e, hl'⟩ := lenI_ok hl
      (try simp only [hl])
      refine gO_one h fun r hr => hop.trans ?_
      injection hr with hr; subst hr
      simp [abuiltin, alen, hl']
    · rename_i hl
      obtain ⟨k, e, hl'⟩ := lenI_ok hl
      (try simp only [hl])
      refine gO_one h fun r hr => hop.trans ?_
      unfold alnM at hr
      split at hr
      · injection hr with hr; subst hr
        simp [abuiltin, alen, hl']
      · simp only [abuiltin, alen, hl', amapLen]
        first
          | (exact congrArg (Option.map fun v => (v, H)) hr)
          | ((try simp only [hr]); rfl)
      · cases hr
    · exact h.elim
  · rename_i t x
    (try simp only)
    split at h
    · rename_i hl
      obtain ⟨e, hl'⟩ := lenI_ok hl
      (try simp only [hl])
      refine gO_one h fun r hr => hop.trans ?_
      unfold acpS at hr
      split at hr <;> first
        | (cases hr; done)
        | (injection hr with hr; subst hr; simp [abuiltin, acap, hl'])
    · rename_i n hl
      obtain ⟨e, hl'⟩ := lenI_ok hl
      (try simp only [hl])
      refine gO_one h fun r hr => hop.trans ?_
      injection hr with hr; subst hr
      simp [abuiltin, acap, hl']
    · exact h.elim
  · rename_i t x
    (try simp only)
    split at h
    · rename_i sz by' zc hl
      obtain ⟨e, i, z, h1, h2, h3, rfl, rfl, rfl, h4, h5, h6, h7⟩ := elemI_ok hl
      (try simp only [hl])
      refine gS_one h fun r hr => hop.trans ?_
      unfold acl at hr
      unfold abuiltin aclear
      simp only [h1, h2]
      split at hr
      · injection hr with hr; subst hr; rfl
      · rename_i o off len esz cap
        simp only
        split at hr
        · rename_i cs hcs
          simp only [hcs, h3]
          split at hr
          · rename_i hc
            injection hr with hr
            subst hr
            simp only [h2, h3]
            rw [if_pos (show z.cells.size = esz ∧ esz ≠ 0 ∧ allOne z = true ∧ off + len * esz ≤ cs.length from ⟨by simpa using hc.1, hc.2.1, h7, hc.2.2⟩)]
            rfl
          · cases hr
        · cases hr
      · cases hr
    · exact h.elim
  · rename_i t u s x
    (try simp only)
    split at h
    · rename_i sz by' zc h1 h2
      (try simp only [h1, h2])
      obtain ⟨e, h2'⟩ := lenI_ok h2
      exact gH_one h fun r hr => hop.trans (by simp only [abuiltin]; rw [aap_ok h1 (.inl ⟨e, h2'⟩), hr])
    · rename_i sz by' zc h1 h2
      (try simp only [h1, h2])
      have h2' := lenI_ok h2
      exact gH_one h fun r hr => hop.trans (by simp only [abuiltin]; rw [aap_ok h1 (.inr h2'), hr])
    · rename_i sz by' zc h1 h2
      (try simp only [h1, h2])
      split at h
      · rename_i k hu
        (try simp only [hu])
        refine gH_one h fun r hr => hop.trans ?_
        obtain ⟨e, i, z, q1, q2, q3, rfl, rfl, rfl, q4, q5, q6, q7⟩ := elemI_ok h1
        have e1 : aappend P H t u s x = none := by unfold aappend; rw [q1, hu]
        have e2 : aappendZ P H t u s x = aappZ1 H i.size i.bytes (z.cells.toList.map .lit) s x := by
          unfold aappendZ
          simp only [q1, hu, q2, q3]
          rw [if_neg (by simp [q4, q5, q6, q7])]
        simp only [abuiltin, e1, e2, hr]
      · exact h.elim
    · exact h.elim
  · rename_i t u d s
    (try simp only)
    split at h
    · rename_i sz hl
      obtain ⟨e, h1, h2⟩ := sliceI_ok hl
      (try simp only [hl])
      refine gH_one h fun r hr => hop.trans ?_
      show acopy P H t d s = _
      unfold acopy
      simp only [h1, h2]
      exact hr
    · exact h.elim
  · exact gO_one h fun r hr => hop.trans (by simp [abuiltin, hr])
  · exact gO_one h fun r hr => hop.trans (by simp [abuiltin, hr])
  · exact h.elim

theorem pureOp_none (op : Op) : pureOp none0 op = false := by
  unfold pureOp
  split <;> rfl
set_option maxHeartbeats 2000000 in
theorem sOp_one {o : Oper} (h : sOp P ql none0 dr ρ H o w K) : ∃ r H', K r H' ∧ StepR P ql dr ρ H o w r H' ∧ ∀ K2 : AV → AH → Prop, K2 r H' → sOp P ql none0 dr ρ H o w K2 := by
  obtain ⟨dst, op, type, pos, after, guard⟩ := o
  cases op
  case move x => exact gO_one h fun r hr => by injection hr with hr; subst hr; exact (opD_aop rfl).trans rfl
  case assign x => exact gO_one h fun r hr => by injection hr with hr; subst hr; exact (opD_aop rfl).trans rfl
  case pick c a b =>
    refine gO_one h fun r hr => (opD_aop rfl).trans ?_
    unfold apick at hr
    split at hr
    · rename_i t ht
      injection hr with hr; subst hr
      simp [aop, ht]
    · cases hr
  case alloc e =>
    unfold sOp at h ⊢
    simp only at h ⊢
    split at h
    · rename_i z hz
      (try simp only [hz])
      exact gH_one h fun r hr => (opD_aop rfl).trans (by simp [aop, hz, hr])
    · exact h.elim
  case box e x => exact gH_one h fun r hr => (opD_aop rfl).trans (by simp [aop, hr])
  case build t parts =>
    unfold sOp at h ⊢
    simp only at h ⊢
    split at h
    · rename_i zc pl hz
      (try simp only [hz])
      split at h
      · rename_i l hl
        (try simp only [hl])
        refine gO_one h fun r hr => (opD_aop rfl).trans ?_
        unfold abl at hr
        simp [aop, buildZ_ok hz, places_ok _ _ zc hl, hr]
      · exact h.elim
    · exact h.elim
  case buildSlice t len parts =>
    unfold sOp at h ⊢
    simp only at h ⊢
    split at h
    · rename_i sz by' zc hz
      (try simp only [hz])
      obtain ⟨e, i, z, h1, h2, h3, rfl, rfl, rfl, h4, h5, h6, h7⟩ := elemI_ok hz
      split at h
      · rename_i hle
        (try simp only [hle])
        have hle := Nat.le_of_ble_eq_true hle
        split at h
        · rename_i l hl
          (try simp only [hl])
          cases dr with
          | true =>
            simp only at h ⊢
            refine gO_one h fun r hr => ?_
            unfold absf at hr
            obtain ⟨cs, hcs, rfl⟩ := Option.map_eq_some_iff.1 hr
            simp only [opD, isBS, Bool.and_self, if_true, afrozen, abuildSlice, h1, h2, h3]
            rw [if_pos ⟨hle, h6, h4, h7⟩, places_ok _ _ _ hl, hcs]
            rfl
          | false =>
            simp only at h ⊢
            refine gH_one h fun r hr => ?_
            unfold absl at hr
            obtain ⟨cs, hcs, rfl⟩ := Option.map_eq_some_iff.1 hr
            simp only [opD, Bool.false_and, Bool.false_eq_true, if_false, aop, abuildSlice, h1, h2, h3]
            rw [if_pos ⟨hle, h6, h4, h7⟩, places_ok _ _ _ hl, hcs]
            rfl
        · exact h.elim
      · exact h.elim
    · exact h.elim
  case load t a =>
    unfold sOp at h ⊢
    simp only at h ⊢
    split at h
    · rename_i g n hg hn
      (try simp only [hg, hn])
      exact gO_one h fun r hr => (opD_aop rfl).trans (by simp [aop, ald_ok hg hn, hr])
    · exact h.elim
  case store t a x =>
    unfold sOp at h ⊢
    simp only at h ⊢
    split at h
    · rename_i n hn
      (try simp only [hn])
      exact gS_one' h fun r hr => (opD_aop rfl).trans (by simp [aop, ast_ok hn, hr])
    · exact h.elim
  case nilCheck x => exact gO_one h fun r hr => (opD_aop rfl).trans (by simp [aop, hr])
  case binOp op t x y yt =>
    unfold sOp at h ⊢
    simp only at h ⊢
    split at h
    · rename_i hu; (try simp only [hu])
      exact gO_one h fun r hr => (opD_aop rfl).trans (by simp [aop, abI_ok hr])
    · rename_i hu; (try simp only [hu])
      exact gO_one h fun r hr => (opD_aop rfl).trans (by simp [aop, abT_ok hr])
    · rename_i hu; (try simp only [hu])
      exact gO_one h fun r hr => (opD_aop rfl).trans (by simp [aop, abB_ok hu hr])
    · rename_i hu; (try simp only [hu])
      exact gO_one h fun r hr => (opD_aop rfl).trans (by simp [aop, abN_ok (by rintro v hv (⟨k, n, rfl⟩ | ⟨s, rfl⟩) <;> rw [hv] <;> rfl) (aeq_ptr hu) hr])
    · rename_i hu; (try simp only [hu])
      exact gO_one h fun r hr => (opD_aop rfl).trans (by simp [aop, abN_ok (by rintro v hv (⟨k, n, rfl⟩ | ⟨s, rfl⟩) <;> rw [hv] <;> rfl) (aeq_sl hu) hr])
    · rename_i hu; (try simp only [hu])
      exact gO_one h fun r hr => (opD_aop rfl).trans (by simp [aop, abN_ok (by rintro v hv (⟨k, n, rfl⟩ | ⟨s, rfl⟩) <;> rw [hv] <;> rfl) (aeq_fn hu) hr])
    · rename_i hu; (try simp only [hu])
      exact gO_one h fun r hr => (opD_aop rfl).trans (by simp [aop, abN_ok (by rintro v hv (⟨k, n, rfl⟩ | ⟨s, rfl⟩) <;> rw [hv] <;> rfl) (aeq_mp hu) hr])
    · obtain ⟨r, H', h1, h2, h3⟩ := gO_one (P := P) (ql := ql) (dr := dr) (ρ := ρ) (o := ⟨dst, .binOp op t x y yt, type, pos, after, guard⟩) h fun r hr => (opD_aop rfl).trans (by simp [aop, hr])
      refine ⟨r, H', h1, h2, fun K2 hk => ?_⟩
      exact h3 K2 hk
  case unOp op t x => exact gO_one h fun r hr => (opD_aop rfl).trans (by simp [aop, hr])
  case convert s d x =>
    unfold sOp at h ⊢
    simp only at h ⊢
    split at h
    · rename_i k hc
      obtain ⟨h1, y, h2⟩ := convI_ok hc
      (try simp only [hc])
      refine gO_one h fun r hr => (opD_aop rfl).trans ?_
      unfold acI at hr
      split at hr
      · rename_i hx
        injection hr with hr; subst hr
        simp [aop, aconvert, h1, h2, hx]
      · cases hr
    · rename_i hc
      obtain ⟨h1, h2⟩ := convI_ok hc
      (try simp only [hc])
      refine gO_one h fun r hr => (opD_aop rfl).trans ?_
      unfold acS at hr
      split at hr
      · rename_i hx
        injection hr with hr; subst hr
        simp [aop, aconvert, h1, h2, hx]
      · cases hr
    · rename_i hc
      obtain ⟨h1, e, h2, h3⟩ := convI_ok hc
      (try simp only [hc])
      refine gO_one h fun r hr => (opD_aop rfl).trans ?_
      unfold acB at hr
      split at hr
      · cases hr
      · rename_i hx
        have : aconvert P H s d (ρ x) = some r := by
          unfold aconvert
          simp only [h1, h2]
          split at hr
          · rename_i cs n hs
            simp only [h3, hs]
            exact hr
          · cases hr
        simp [aop, this]
    · rename_i hc
      obtain ⟨h1, e, h2, h3⟩ := convI_ok hc
      (try simp only [hc])
      refine gO_one h fun r hr => (opD_aop rfl).trans ?_
      unfold acT at hr
      split at hr
      · rename_i t hx
        injection hr with hr; subst hr
        simp [aop, aconvert, h1, h2, h3, hx, abytes]
      · cases hr
    · exact h.elim
  case makeFunc fn f c => exact gO_one h fun r hr => by injection hr with hr; subst hr; exact (opD_aop rfl).trans rfl
  case makeSlice t l c =>
    unfold sOp at h ⊢
    simp only at h ⊢
    split at h
    · rename_i sz by' zc hz
      (try simp only [hz])
      obtain ⟨e, i, z, h1, h2, h3, rfl, rfl, rfl, h4, h5, h6, h7⟩ := elemI_ok hz
      refine gH_one h fun r hr => (opD_aop rfl).trans ?_
      unfold amk at hr
      split at hr
      · rename_i k n k' m hn hm
        split at hr
        · rename_i hb
          injection hr with hr; subst hr
          simp only [aop, amake, h1, hn, hm, h2, h3]
          rw [if_pos ⟨hb.1, hb.2.1, hb.2.2.1, hb.2.2.2, h6, h4, h7⟩]
        · cases hr
      · cases hr
    · exact h.elim
  case slice t x lo hi mx =>
    unfold sOp at h ⊢
    simp only at h ⊢
    split at h
    · rename_i hl
      have h1 := sliceI_ok hl
      (try simp only [hl])
      refine gO_one h fun r hr => (opD_aop rfl).trans ?_
      unfold aslT at hr
      split at hr
      · rename_i s hs
        simp only [aop, aslice, h1, hs, Option.map_none]
        exact congrArg (Option.map fun v => (v, H)) hr
      · cases hr
    · rename_i sz hl
      obtain ⟨e, h1, h2⟩ := sliceI_ok hl
      (try simp only [hl])
      refine gO_one h fun r hr => (opD_aop rfl).trans ?_
      unfold aslS at hr
      simp only [aop, aslice, h1, h2]
      split at hr
      · rename_i hx; rw [hx]; exact congrArg (Option.map fun v => (v, H)) hr
      · rename_i hx; rw [hx]; exact congrArg (Option.map fun v => (v, H)) hr
      · rename_i hx; rw [hx]; exact congrArg (Option.map fun v => (v, H)) hr
      · rename_i hx; rw [hx]; exact congrArg (Option.map fun v => (v, H)) hr
      · cases hr
    · rename_i n sz hl
      obtain ⟨e, h1, h2⟩ := sliceI_ok hl
      (try simp only [hl])
      refine gO_one h fun r hr => (opD_aop rfl).trans ?_
      unfold aslA at hr
      simp only [aop, aslice, h1, h2, Option.map_none]
      exact congrArg (Option.map fun v => (v, H)) hr
    · exact h.elim
  case fieldAddr s x f =>
    unfold sOp at h ⊢
    simp only at h ⊢
    split at h
    · rename_i k hk
      (try simp only [hk])
      exact gO_one h fun r hr => (opD_aop rfl).trans (by simp [aop, afieldAddr, hk, hr])
    · exact h.elim
  case field s x f =>
    unfold sOp at h ⊢
    simp only at h ⊢
    split at h
    · rename_i g n off hk
      (try simp only [hk])
      exact gO_one h fun r hr => (opD_aop rfl).trans (by simp [aop, fieldI_ok hk, hr])
    · exact h.elim
  case indexAddr t x i =>
    unfold sOp at h ⊢
    simp only at h ⊢
    split at h
    · rename_i sz hl
      obtain ⟨e, h1, h2⟩ := indexI_ok hl
      (try simp only [hl])
      refine gO_one h fun r hr => (opD_aop rfl).trans ?_
      unfold aixS at hr
      simp only [aop, aindexAddr, h1, h2]
      exact congrArg (Option.map fun v => (v, H)) hr
    · rename_i len sz hl
      obtain ⟨e, h1, h2⟩ := indexI_ok hl
      (try simp only [hl])
      refine gO_one h fun r hr => (opD_aop rfl).trans ?_
      unfold aixA at hr
      simp only [aop, aindexAddr, h1, h2]
      exact congrArg (Option.map fun v => (v, H)) hr
    · exact h.elim
  case index t x i =>
    unfold sOp at h ⊢
    simp only at h ⊢
    split at h
    · rename_i hl
      have h1 := ivI_ok hl
      (try simp only [hl])
      refine gO_one h fun r hr => (opD_aop rfl).trans ?_
      unfold aivT at hr
      simp only [aop, aindex, h1]
      exact congrArg (Option.map fun v => (v, H)) hr
    · rename_i g n len sz hl
      obtain ⟨e, h1, h2, h3, rfl⟩ := ivI_ok hl
      (try simp only [hl])
      refine gO_one h fun r hr => (opD_aop rfl).trans ?_
      unfold aivA aprt at hr
      simp only [aop, aindex, h1, h2, h3, apart]
      cases hi : aint (ρ i) with
      | none => rw [hi] at hr; cases hr
      | some m =>
        rw [hi] at hr
        simp only at hr ⊢
        split at hr
        · rename_i hb
          rw [if_pos hb]
          cases hx : ρ x <;> rw [hx] at hr <;> first
            | (simp only at hr ⊢; exact congrArg (Option.map fun v => (v, H)) hr)
            | cases hr
        · cases hr
    · exact h.elim
  case extract t i => exact gO_one h fun r hr => (opD_aop rfl).trans (by simp [aop, hr])
  case makeMap t l =>
    unfold sOp at h ⊢
    simp only at h ⊢
    split at h
    · rename_i q hl
      obtain ⟨d, z⟩ := q
      obtain ⟨key, elem, h1, h2, h3⟩ := mapI_ok hl
      (try simp only [hl])
      refine gH_one h fun r hr => (opD_aop rfl).trans ?_
      unfold amkM at hr
      simp only [aop, amakeMap, h1]
      split at hr
      · rename_i he; rw [he]; exact hr
      · rename_i he; rw [he]; exact hr
      · cases hr
    · exact h.elim
  case lookup t x k co =>
    unfold sOp at h ⊢
    simp only at h ⊢
    split at h
    · rename_i d z hl
      obtain ⟨key, elem, h1, h2, h3⟩ := mapI_ok hl
      (try simp only [hl])
      refine gO_one h fun r hr => (opD_aop rfl).trans ?_
      unfold alk at hr
      simp only [aop, alookup, h1]
      split at hr
      · rename_i es kv he hk
        simp only [he, hk, h2, h3]
        exact congrArg (Option.map fun v => (v, H)) hr
      · cases hr
    · exact h.elim
  case mapUpdate t m k x =>
    unfold sOp at h ⊢
    simp only at h ⊢
    split at h
    · rename_i d z hl
      obtain ⟨key, elem, h1, h2, h3⟩ := mapI_ok hl
      (try simp only [hl])
      refine gS_one' h fun r hr => (opD_aop rfl).trans ?_
      unfold amu at hr
      simp only [aop, amapUpdate, h1]
      split at hr
      · rename_i o kv he hk
        simp only [he, hk, h2]
        split at hr
        · rename_i es hes
          simp only [hes]
          exact congrArg (Option.map fun v => (undefA, v)) hr
        · cases hr
      · cases hr
    · exact h.elim
  case mapEntry t m k =>
    unfold sOp at h ⊢
    simp only at h ⊢
    split at h
    · rename_i d z hl
      obtain ⟨key, elem, h1, h2, h3⟩ := mapI_ok hl
      (try simp only [hl])
      refine gH_one h fun r hr => (opD_aop rfl).trans ?_
      unfold ame at hr
      simp only [aop, amapEntry, h1]
      split at hr
      · rename_i o kv he hk
        simp only [he, hk, h2]
        split at hr
        · rename_i es hes
          simp only [hes, h3]
          exact hr
        · cases hr
      · cases hr
    · exact h.elim
  case entryStore t m s x => exact gS_one' h fun r hr => (opD_aop rfl).trans (by simp [aop, hr])
  case call c =>
    obtain ⟨callee, args, ats⟩ := c
    cases callee with
    | builtin b => exact sBuiltin_one h
    | invoke r m => exact h.elim
    | value f =>
      have hn : opD P dr ρ H ⟨dst, .call { callee := .value f, args, argTypes := ats }, type, pos, after, guard⟩ = none := (opD_aop rfl).trans rfl
      have hal : pureOp none0 (.call { callee := .value f, args, argTypes := ats }) = false := pureOp_none _
      cases w with
      | false =>
        have key : ∀ K2 : AV → AH → Prop, sOp P ql none0 dr ρ H ⟨dst, .call { callee := .value f, args, argTypes := ats }, type, pos, after, guard⟩ false K2 = K2 undefA H := by
          intro K2
          unfold sOp bF
          simp only [hal, Bool.not_false, Bool.or_true]
          unfold bT
          simp only []
          cases pureOp ql (Op.call { callee := .value f, args, argTypes := ats }) <;> cases dr <;> simp only [gC, gP] <;> split <;> rfl
        rw [key] at h
        exact ⟨undefA, H, h, .inr ⟨rfl, rfl, rfl⟩, fun K2 h2 => by rw [key]; exact h2⟩
      | true =>
      unfold sOp bF at h ⊢
      simp only [hal, Bool.not_true, Bool.or_false] at h ⊢
      split at h
      · rename_i k first cap hf
        (try simp only [hf])
        unfold bT at h ⊢
        split at h
        · rename_i hg
          (try simp only [hg])
          split at h
          · rename_i hp
            (try simp only [hp])
            cases dr with
            | true =>
              obtain ⟨r, hr, hk⟩ := h
              refine ⟨r, H, hk, .inl ⟨rfl, .inr ⟨hn, ?_⟩⟩, fun K2 hk => ⟨r, hr, hk⟩⟩
              unfold wCall acall
              simp only [hf]
              refine ⟨hg, ?_⟩
              rw [if_pos (by simp [hp])]
              exact ⟨hr, trivial⟩
            | false =>
              obtain ⟨r, hr, hk⟩ := h
              refine ⟨r, H, hk, .inl ⟨rfl, .inr ⟨hn, ?_⟩⟩, fun K2 hk => ⟨r, hr, hk⟩⟩
              unfold wCall acall
              simp only [hf]
              refine ⟨hg, ?_⟩
              rw [if_neg (by simp)]
              exact hr.call
          · rename_i hp
            (try simp only [hp])
            obtain ⟨r, H', hr, hk⟩ := h
            refine ⟨r, H', hk, .inl ⟨rfl, .inr ⟨hn, ?_⟩⟩, fun K2 hk => ⟨r, H', hr, hk⟩⟩
            unfold wCall acall
            simp only [hf]
            refine ⟨hg, ?_⟩
            rw [if_neg (by simp only [hp, Bool.and_false]; simp)]
            exact hr
        · exact h.elim
      · exact h.elim
  all_goals exact h.elim
/-- Calls that are told otherwise (al) apart, all is as without. -/
theorem sOp_al {al : FuncId → Bool} {o : Oper} (ha : pureOp al o.op = false) : sOp P ql al dr ρ H o w K = sOp P ql none0 dr ρ H o w K := by
  obtain ⟨dst, op, type, pos, after, guard⟩ := o
  simp only at ha
  cases op
  case call c =>
    obtain ⟨callee, args, ats⟩ := c
    cases callee with
    | value f =>
      have hal : pureOp none0 (.call { callee := .value f, args, argTypes := ats }) = false := pureOp_none _
      unfold sOp
      simp only [ha, hal]
    | builtin b => rfl
    | invoke r m => rfl
  all_goals rfl
theorem sOp_dr {al : FuncId → Bool} {o : Oper} (h : sOp P ql al true ρ H o w K) : sOp P ql none0 true ρ H o w K := by
  cases ha : pureOp al o.op with
  | false => rwa [sOp_al ha] at h
  | true =>
    obtain ⟨dst, op, type, pos, after, guard⟩ := o
    simp only at ha
    unfold pureOp at ha
    split at ha
    · rename_i k args ats
      exfalso
      have ha' : pureOp al (.call { callee := .value (.func k), args := args, argTypes := ats }) = true := ha
      unfold sOp bF at h
      simp only [ha'] at h
      split at h
      · exact h
      · split at h <;> exact h
    · cases ha
theorem sOp_ops {al : FuncId → Bool} {ops : Array Oper} {Q : AQ} {T : List AV} {o : Oper} {l : List Oper} (hw : awanted ops T o = some w) (h : sOp P ql al false (aeval T) H o w K) (hk : ∀ r H', K r H' → AOps P ops Q l (aput T o.dst r) H') : AOps P ops Q (o :: l) T H := by
  cases ha : pureOp al o.op with
  | false =>
    rw [sOp_al ha] at h
    obtain ⟨r, H', hk1, hs, -⟩ := sOp_one h
    have hr := hk r H' hk1
    rcases hs with ⟨rfl, ho | ⟨ho, hc⟩⟩ | ⟨rfl, rfl, rfl⟩
    · exact AOps.op hw (by simpa [opD] using ho) hr
    · unfold wCall at hc
      split at hc
      · rename_i k args hcall
        simp only [Bool.false_and, Bool.false_eq_true, if_false] at hc
        refine AOps.call hw hcall hc.1 (hc.2.mono ?_)
        rintro r' H'' ⟨rfl, rfl⟩
        exact hr
      · exact hc.elim
    · exact AOps.unwanted hw hr
  | true =>
    obtain ⟨dst, op, type, pos, after, guard⟩ := o
    simp only at ha
    unfold pureOp at ha
    split at ha
    · rename_i k args ats
      have ha' : pureOp al (.call { callee := .value (.func k), args := args, argTypes := ats }) = true := ha
      unfold sOp bF at h
      simp only [ha'] at h
      split at h
      · rename_i k' first cap hf
        simp only [aeval] at hf
        injection hf with h1 h2 h3
        injection h1 with h1
        subst h1; subst h2; subst h3
        split at h
        · rename_i hg
          cases w with
          | true =>
            obtain ⟨R, hR, hall⟩ := h
            exact AOps.call (args := [] ++ args.toList.map (aeval T) ++ []) hw rfl hg (hR.mono fun r H' hr => hk r H' (hall r H' hr))
          | false => exact AOps.unwanted hw (hk _ _ h)
        · cases w with
          | true =>
            obtain ⟨r, hr, h⟩ := h
            exact AOps.extern (args := [] ++ args.toList.map (aeval T) ++ []) hw rfl (fun G vs hH hv => hr G vs hH hv) (hk _ _ h)
          | false => exact AOps.unwanted hw (hk _ _ h)
      · rename_i hne
        exact (hne k [] [] rfl).elim
    · cases ha
end
end Go.Proofs.Ythgkepaadkmhoaa.Av
