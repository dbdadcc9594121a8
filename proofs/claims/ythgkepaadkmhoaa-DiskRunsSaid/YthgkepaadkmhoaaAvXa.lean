/- Regions whose order is drawn, in general: whatever order is drawn, what each operation gives and leaves is told (vals, HS), for each outcome of its calls. -/
import Derived.Test.YthgkepaadkmhoaaAvX
import Derived.Test.YthgkepaadkmhoaaAvWa
set_option linter.unusedVariables false
set_option linter.unusedSimpArgs false
namespace Go.Proofs.Ythgkepaadkmhoaa.Av
open Go Go.RowKit

section
variable {P : Program}

theorem acall_congr {ρ ρ' : Operand → AV} {o : Oper} (h : ∀ x ∈ o.op.operands.toList, ρ x = ρ' x) : acall ρ o = acall ρ' o := by
  obtain ⟨dst, op, type, pos, after, guard⟩ := o
  cases op
  case call c =>
    obtain ⟨callee, args, ats⟩ := c
    cases callee
    case value f =>
      simp only [acall]
      rw [h f (by simp [Op.operands, Call.operands]), map_congr_ops args.toList (fun x hx => h x (by simp [Op.operands, Call.operands]; exact .inr (Array.mem_toList_iff.1 hx)))]
    all_goals rfl
  all_goals rfl
/-- A slice that is listed, as memory that nobody will write. -/
def afrozen (P : Program) (ρ : Operand → AV) (o : Oper) : Option AV :=
  match o.op with
  | .buildSlice t len parts => match abuildSlice P [] t len (parts.toList.map fun p => (p.1, ρ p.2)) with
    | some (.sl _ _ l esz _, [some (.cells cs)]) => some (.imm cs l esz)
    | _ => none
  | _ => none
theorem afrozen_ok {G : Cfg} {ρ : Operand → AV} {ρc : Operand → Value} {H : AH} (hr : HR G H) (hf : ∀ x, VR G (ρ x) (ρc x)) {o : Oper} {r : AV} (h : afrozen P ρ o = some r) :
    ∃ (G' : Cfg) (u : Value), (execOp ρc o).run P G.w = .ok (.value u) G'.w ∧ Evo G G' ∧ VR G' r u ∧ HR G' H := by
  obtain ⟨dst, op, type, pos, after, guard⟩ := o
  unfold afrozen at h
  split at h
  · rename_i t len parts hop
    simp only at hop
    subst hop
    obtain ⟨e1, e2⟩ := VRs.map_parts hf parts.toList
    split at h
    · rename_i l esz cs hb
      injection h with h
      subst h
      unfold abuildSlice at hb
      split at hb
      · rename_i e hu
        split at hb
        · rename_i i hi
          split at hb
          · rename_i z hz
            split at hb
            · rename_i hbb
              obtain ⟨h0, h4, h5, h6⟩ := hbb
              obtain ⟨cs', hcs, he⟩ := Option.map_eq_some_iff.1 hb
              simp only [Prod.mk.injEq, AV.sl.injEq, List.nil_append, List.cons.injEq, Option.some.injEq, AObj.cells.injEq, and_true] at he
              obtain ⟨⟨-, -, rfl, rfl, -⟩, rfl⟩ := he
              have hz0 : z.cells.size ≠ 0 := by rw [h4]; exact h5
              have hv := zrow_made (G := G) (z := z.cells) len hz0
              rw [h4] at hv
              obtain ⟨us, hus, hR⟩ := afill_ok (parts.toList.map fun p => (p.1, ρ p.2)) (parts.map fun (i, x) => (i, ρc x)).toList _ (madeCells z.cells (len * i.size)) cs' (by rw [Array.toList_map]; exact e1) (by rw [Array.toList_map]; exact e2) hv hcs
              have hone := fill_one _ _ us (afill_parts_one (by rw [Array.toList_map]; exact e2) hcs) (made_one _ (fun u hu => List.all_eq_true.1 h6 u hu) hz0) hus
              let G1 : Cfg := { G with w := G.w.alloc (.cells us e) }
              have hE : Evo G G1 := ⟨rfl, rfl, rfl, by simp [G1], fun k hk hL => ⟨Below.heap_alloc _ _ _ hk, hL⟩, Nat.le_refl _, fun _ _ => rfl, rfl⟩
              refine ⟨G1, .slice (some ⟨G.w.heap.size, 0, none⟩) len len, ?_, hE, ?_, ?_⟩
              · have hzi : (P.info? e).bind (·.zero) = some z := by rw [hi]; exact hz
                have hn : ¬ (16777216 < len * i.size) := by omega
                by_cases hl : len * i.size = 0
                · have hm0 : madeCells z.cells 0 = #[] := by simp [madeCells]
                  rw [hl, hm0] at hus
                  have hr0 : Array.range 0 = #[] := rfl
                  simp at hus
                  simp [execOp, hr0, Instr.buildSlice, run_underlying hu, sizeOf, typeInfo, hi, hl, hus, newRow, G1]
                · have := hus
                  unfold madeCells at this
                  simp at this
                  simp [execOp, Instr.buildSlice, run_underlying hu, sizeOf, typeInfo, hi, hn, hl, run_zeroValue hzi, this, newRow, G1]
              · simp only [VR]
                refine ⟨_, _, us.toList, rfl, Nat.le_refl _, .inr ⟨fun hL => ?_, fun i v hv => ?_⟩, hR.evo hE⟩
                · have := hr.lt _ hL; simp at this
                · refine ⟨?_, hone v (List.mem_of_getElem? hv)⟩
                  rw [Addr.add_lit]
                  unfold World.cell?
                  rw [show G1.w.heap[G.w.heap.size]? = some (.cells us e) from heap_alloc_new G.w _]
                  simpa using hv
              · exact ⟨hr.n, fun o x ho => OR.evo hE (hr.lt_n ho) (Below.heap_alloc _ _ _ (hr.lt _ (.inl (hr.live _ _ ho)))) (hr.obj o x ho), hr.inj, hr.live, fun b hb => by have := hr.lt b hb; simp [G1]; omega⟩
            · cases hb
          · cases hb
        · cases hb
      · cases hb
    · cases h
  · cases h
theorem afrozen_congr {ρ ρ' : Operand → AV} {o : Oper} (h : ∀ x ∈ o.op.operands.toList, ρ x = ρ' x) : afrozen P ρ o = afrozen P ρ' o := by
  obtain ⟨dst, op, type, pos, after, guard⟩ := o
  cases op
  case buildSlice t n ps =>
    have : (ps.toList.map fun p => (p.1, ρ p.2)) = (ps.toList.map fun p => (p.1, ρ' p.2)) :=
      List.map_congr_left fun p hm => by rw [h p.2 (by simp [Op.operands]; exact ⟨p.1, by simpa using hm⟩)]
    simp only [afrozen]
    rw [this]
  all_goals rfl
/-- One operation, run. -/
def AStep (P : Program) (T : List AV) (H : AH) (o : Oper) (R : AV → AH → Prop) : Prop :=
  (∃ r H', aop P (aeval T) H o = some (r, H') ∧ R r H') ∨ (∃ r, afrozen P (aeval T) o = some r ∧ R r H) ∨ ∃ k args, acall (aeval T) o = some (k, args) ∧ goFunc P k = true ∧ ACalls P k args H R
structure Ord (ops : List Oper) : Prop where
  down : edgesDown ops = true
  ord : ∀ i j oi oj d, ops[i]? = some oi → ops[j]? = some oj → i ≠ j → oj.dst = some d → d ∈ looks ops oi → ((masks ops []).getD (max i j) 0).testBit (min i j) = true
def ordOk (ops : List Oper) : Bool :=
  let b := masks ops []
  edgesDown ops &&
  (ops.zipIdx.all fun p => ops.zipIdx.all fun q => (p.2 == q.2) || (match q.1.dst with
    | some d => !(looks ops p.1).contains d || (b.getD (max p.2 q.2) 0).testBit (min p.2 q.2)
    | none => true))
theorem ordOk_ok {ops : List Oper} (h : ordOk ops = true) : Ord ops := by
  unfold ordOk at h
  simp only [Bool.and_eq_true] at h
  obtain ⟨h1, h3⟩ := h
  refine ⟨h1, fun i j oi oj d hi hj hne hd hl => ?_⟩
  have := List.all_eq_true.1 (List.all_eq_true.1 h3 _ (zip_mem hi)) _ (zip_mem hj)
  simp only [hd] at this
  simp only [Bool.or_eq_true, beq_iff_eq, Bool.not_eq_true', List.contains_eq_mem, decide_eq_false_iff_not] at this
  rcases this with h | h | h
  · exact absurd h hne
  · exact absurd hl h
  · exact h
/-- Is the operation's turn? -/
def Ready (ops : List Oper) (S : Nat → Bool) (i : Nat) (o : Oper) : Prop :=
  ops[i]? = some o ∧ ClosedL ops S ∧ S i = false ∧ ∀ e ∈ o.after, Region.binds .any e = true → S e.on = true
def Steps (P : Program) (ops : List Oper) (T : List AV) {Ω : Type} (Ok : Ω → (Nat → Bool) → Prop) (vals : Ω → Nat → AV) (HS : Ω → (Nat → Bool) → AH) : Prop :=
  ∀ ω S i o, Ready ops S i o → Ok ω S →
    ∃ b, awanted ops.toArray (pt ops (vals ω) (fun _ => true) T i) o = some b ∧
      (b = true → AStep P (pt ops (vals ω) (fun _ => true) T i) (HS ω S) o fun r H' => ∃ ω', Ok ω' (upd S i) ∧ (∀ j, S j = true → vals ω' j = vals ω j) ∧ vals ω' i = r ∧ HS ω' (upd S i) = H') ∧
      (b = false → ∃ ω', Ok ω' (upd S i) ∧ (∀ j, S j = true → vals ω' j = vals ω j) ∧ vals ω' i = undefA ∧ HS ω' (upd S i) = HS ω S)
theorem pt_vals {ops : List Oper} {vals vals' : Nat → AV} {lst : Nat → Bool} {T : List AV} (h : ∀ j, lst j = true → vals' j = vals j) : ∀ n, pt ops vals' lst T n = pt ops vals lst T n
  | 0 => rfl
  | n + 1 => by
    simp only [pt, pt_vals h n]
    split
    · rename_i hn; rw [h n hn]
    · rfl
theorem steps_any {ops : List Oper} (hk : Ord ops) {T : List AV} {Ω : Type} {Ok : Ω → (Nat → Bool) → Prop} {vals : Ω → Nat → AV} {HS : Ω → (Nat → Bool) → AH} (hs : Steps P ops T Ok vals HS) {Q : AQ} {G0 : Cfg}
    (last : ∀ ω S, (∀ j, j < ops.length → S j = true) → Ok ω S → Q .normal (pt ops (vals ω) (fun _ => true) T ops.length) (HS ω S)) :
    ∀ (d : Nat) (listed : Array Bool) (a : Act) (G : Cfg) (ω : Ω), listed.size = ops.length → listed.toList.countP (fun b => !b) = d →
      ClosedL ops (fun j => listed.getD j false) → Ok ω (fun j => listed.getD j false) → Evo G0 G → FR G (pt ops (vals ω) (fun j => listed.getD j false) T ops.length) a → a.defers = [] → HR G (HS ω fun j => listed.getD j false) →
      wpAny P .any ops.toArray (APost G0 Q) d listed a G.w := by
  intro d
  induction d with
  | zero =>
    intro listed a G ω hsz hcnt hcl hok hE hF hd hH
    have all : ∀ j, j < ops.length → listed.getD j false = true := by
      intro j hj
      have hs : j < listed.size := by omega
      have := List.countP_eq_zero.1 hcnt listed[j] (by simp)
      simp only [Array.getD_eq_getD_getElem?, Array.getElem?_eq_getElem hs, Option.getD_some]
      simpa using this
    refine ⟨?_, ?_⟩
    · rw [List.eq_nil_iff_forall_not_mem]
      intro i hi
      obtain ⟨h0, o, ho, _⟩ := mem_ready.1 hi
      have hlt : i < ops.length := by simpa using (Array.getElem?_eq_some_iff.1 ho).1
      rw [getD_true_false (by omega), all i hlt] at h0
      cases h0
    · have e : pt ops (vals ω) (fun j => listed.getD j false) T ops.length = pt ops (vals ω) (fun _ => true) T ops.length :=
        pt_congr _ fun m hm => all m hm
      rw [e] at hF
      exact post_now (last ω _ all hok) hE hF hd hH
  | succ d ih =>
    intro listed a G ω hsz hcnt hcl hok hE hF hd hH
    have hex : ∃ j, j < ops.length ∧ listed.getD j false = false ∧ ∀ i, i < j → listed.getD i false = true := by
      have : ∃ j, j < ops.length ∧ listed.getD j false = false := by
        apply Decidable.byContradiction
        intro hn
        have : listed.toList.countP (fun b => !b) = 0 := by
          refine List.countP_eq_zero.2 fun b hb => ?_
          obtain ⟨j, hj, rfl⟩ := List.mem_iff_getElem.1 hb
          have hj' : j < listed.size := by simpa using hj
          cases h : listed[j] with
          | true => simp [h]
          | false =>
            exfalso
            refine hn ⟨j, by omega, ?_⟩
            simp [Array.getD_eq_getD_getElem?, hj', h]
        omega
      obtain ⟨j, hj⟩ := this
      induction j using Nat.strongRecOn with
      | _ j ihj =>
        by_cases h : ∃ i, i < j ∧ listed.getD i false = false
        · obtain ⟨i, h1, h2⟩ := h
          exact ihj i h1 ⟨by omega, h2⟩
        · exact ⟨j, hj.1, hj.2, fun i hi => by
            cases h' : listed.getD i false with
            | true => rfl
            | false => exact absurd ⟨i, hi, h'⟩ h⟩
    obtain ⟨j0, hlt, hj0, hbelow⟩ := hex
    refine ⟨fun hnil => ?_, fun i hi => ?_⟩
    · exfalso
      have hin : j0 ∈ Region.ready .any ops.toArray listed := by
        refine mem_ready.2 ⟨by rw [getD_true_false (by omega)]; exact hj0, ops[j0], by simp [hlt], fun e he hb => ?_⟩
        exact hbelow _ (edgesDown_ok hk.down (List.getElem?_eq_getElem hlt) he hb)
      rw [hnil] at hin
      cases hin
    · obtain ⟨h0, o, ho, hmet⟩ := mem_ready.1 hi
      have ho' : ops[i]? = some o := by simpa using ho
      have hil : i < ops.length := (List.getElem?_eq_some_iff.1 ho').1
      have his : i < listed.size := by omega
      rw [getD_true_false his] at h0
      have hord : ∀ (j : Nat) (t : Tmp), j < ops.length → dstOf ops j = some t → t ∈ looks ops o → listed.getD j false = decide (j < i) := by
        intro j t hj hdj ht
        have hoj : ops[j]? = some ops[j] := List.getElem?_eq_getElem hj
        have hdst : ops[j].dst = some t := by
          unfold dstOf at hdj
          rw [hoj] at hdj
          exact hdj
        rcases Nat.lt_trichotomy j i with h | h | h
        · have hb := hk.ord i j o _ t ho' hoj (by omega) hdst ht
          rw [Nat.max_eq_left (by omega), Nat.min_eq_right (by omega)] at hb
          have := mask_met hk.down hcl i o ho' hmet j hb
          try simp only at this
          rw [this]; simp [h]
        · subst h; rw [h0]; simp
        · have hb := hk.ord i j o _ t ho' hoj (by omega) hdst ht
          rw [Nat.max_eq_right (by omega), Nat.min_eq_left (by omega)] at hb
          cases hlj : listed.getD j false with
          | false => simp; omega
          | true =>
            exfalso
            have := mask_met hk.down hcl j _ hoj (fun e he hb' => hcl j _ hoj hlj e he hb') i hb
            try simp only at this
            rw [h0] at this; cases this
      have hget : ∀ t ∈ looks ops o, (pt ops (vals ω) (fun j => listed.getD j false) T ops.length)[t]? = (pt ops (vals ω) (fun _ => true) T i)[t]? := by
        intro t ht
        rw [← pt_prefix (i := i) ops.length (by omega)]
        exact pt_get ops.length (fun j hj hdj => hord j t hj hdj ht)
      obtain ⟨b, hb, hb1, hb0⟩ := hs ω (fun j => listed.getD j false) i o ⟨ho', hcl, h0, hmet⟩ hok
      rw [← awanted_congr hget] at hb
      have hlst' : (fun j => (listed.setIfInBounds i true).getD j false) = upd (fun j => listed.getD j false) i := by
        funext j
        unfold upd
        by_cases hji : j = i
        · subst hji; simp [Array.getD_eq_getD_getElem?, his]
        · rw [if_neg hji, getD_set_ne false (Ne.symm hji)]
      have hadd : ∀ ω', (∀ j, listed.getD j false = true → vals ω' j = vals ω j) → pt ops (vals ω') (upd (fun j => listed.getD j false) i) T ops.length = aput (pt ops (vals ω) (fun j => listed.getD j false) T ops.length) o.dst (vals ω' i) := by
        intro ω' hv
        rw [pt_add (by simpa using h0) ops.length, if_pos hil, pt_vals hv]
        · simp [dstOf, ho']
        · intro j h1 h2 h3 x hx hxj
          have hdx : o.dst = some x := by simpa [dstOf, ho'] using hx
          have := hord j x h2 hxj (by unfold looks; simp [hdx])
          try simp only at h3
          rw [h3] at this
          simp at this; omega
      have next : ∀ (ω' : Ω) (a' : Act) (G' : Cfg), Ok ω' (upd (fun j => listed.getD j false) i) → (∀ j, listed.getD j false = true → vals ω' j = vals ω j) → Evo G0 G' →
          FR G' (aput (pt ops (vals ω) (fun j => listed.getD j false) T ops.length) o.dst (vals ω' i)) a' → a'.defers = [] → HR G' (HS ω' (upd (fun j => listed.getD j false) i)) →
          wpAny P .any ops.toArray (APost G0 Q) d (listed.setIfInBounds i true) a' G'.w := by
        intro ω' a' G' hok' hv hE' hF' hd' hH'
        refine ih _ a' G' ω' (by simpa using hsz) ?_ ?_ (by rw [hlst']; exact hok') hE' ?_ hd' (by rw [hlst']; exact hH')
        · rw [Array.toList_setIfInBounds, List.countP_set (by simpa using his)]
          have hli : listed.toList[i]'(by simpa using his) = false := by
            simp only [Array.getD_eq_getD_getElem?, Array.getElem?_eq_getElem his, Option.getD_some] at h0
            simpa using h0
          rw [hli]
          simp only [Bool.not_false, if_true, Bool.not_true, Bool.false_eq_true, if_false]
          omega
        · intro j oj hoj hlj e he hbe
          have hlj : upd (fun j => listed.getD j false) i j = true := (congrFun hlst' j).symm.trans hlj
          refine (congrFun hlst' e.on).trans ?_
          unfold upd at hlj ⊢
          split
          · rfl
          · by_cases hji : j = i
            · subst hji
              rw [ho'] at hoj
              injection hoj with hoj
              subst hoj
              exact hmet e he hbe
            · rw [if_neg hji] at hlj
              exact hcl j oj hoj hlj e he hbe
        · rw [hlst', hadd ω' hv]; exact hF'
      unfold wpOp
      simp only [ho]
      cases b with
      | true =>
        rw [if_pos (awanted_ok hF hb)]
        left
        rcases hb1 rfl with ⟨r, H', hop, ω', hok', hv, rfl, rfl⟩ | ⟨r, hop, ω', hok', hv, rfl, hH1⟩ | ⟨k, args, hcall, hgo, hc⟩
        · rw [← aop_congr (aeval_congr hget)] at hop
          obtain ⟨G', u, hrun, hE', hx, hH'⟩ := aop_ok hH (fun x => hF.eval x) hop
          unfold Oper.wp
          rcases hrun with hrun | ⟨hrun, rfl⟩ <;> rw [hrun] <;> exact next ω' _ G' hok' hv (hE.trans hE') ((FR.evo hE' hF).put o.dst hx) (by cases o.dst <;> exact hd) hH'
        · rw [← afrozen_congr (aeval_congr hget)] at hop
          obtain ⟨G', u, hrun, hE', hx, hH'⟩ := afrozen_ok hH (fun x => hF.eval x) hop
          unfold Oper.wp
          rw [hrun]
          exact next ω' _ G' hok' hv (hE.trans hE') ((FR.evo hE' hF).put o.dst hx) (by cases o.dst <;> exact hd) (by rw [hH1]; exact hH')
        · rw [← acall_congr (aeval_congr hget)] at hcall
          obtain ⟨vs, hvs, hrun⟩ := acall_ok (P := P) (fun x => hF.eval x) hcall hgo G.w
          unfold Oper.wp
          rw [hrun]
          refine (hc G vs hH hvs).mono ?_
          rintro e w' ⟨r, H', G', v, rfl, rfl, hE', hx, hH', ω', hok', hv, rfl, rfl⟩
          exact next ω' _ G' hok' hv (hE.trans hE') ((FR.evo hE' hF).put o.dst hx) (by cases o.dst <;> exact hd) hH'
      | false =>
        rw [if_neg (by rw [awanted_ok hF hb]; simp)]
        obtain ⟨ω', hok', hv, hu, hH'⟩ := hb0 rfl
        refine next ω' _ G hok' hv hE ?_ (by cases o.dst <;> exact hd) (by rw [hH']; exact hH)
        rw [hu]
        exact hF.put o.dst (by simp only [undefA, VR])
/-- A region in whatever order the model draws. -/
theorem ACode.drawn {id : Nat} {ops : List Oper} {Q : AQ} {T : List AV} {H : AH} (hm : P.follows .mixedOrders = true) (hk : ordOk ops = true) {Ω : Type} (Ok : Ω → (Nat → Bool) → Prop) (vals : Ω → Nat → AV) (HS : Ω → (Nat → Bool) → AH)
    (ω0 : Ω) (h0 : Ok ω0 (fun _ => false)) (hH0 : HS ω0 (fun _ => false) = H) (hs : Steps P ops T Ok vals HS)
    (last : ∀ ω S, (∀ j, j < ops.length → S j = true) → Ok ω S → Q .normal (pt ops (vals ω) (fun _ => true) T ops.length) (HS ω S)) : ACode P (.region id ops.toArray true) Q T H := by
  intro G0 G a hE hF hd hH
  refine wp_region_any hm ?_
  have hz0 : (fun j => (Array.replicate ops.toArray.size false).getD j false) = fun _ => false := by
    funext j
    simp only [Array.getD_eq_getD_getElem?, Array.getElem?_replicate]
    split <;> simp
  have hF0 : FR { G with w := G.w.drew } (pt ops (vals ω0) (fun j => (Array.replicate ops.toArray.size false).getD j false) T ops.length) a := by
    have hz : ∀ m, pt ops (vals ω0) (fun _ => false) T m = T := by
      intro m
      induction m with
      | zero => rfl
      | succ m ih => simp only [pt]; rw [if_neg (by simp), ih]
    rw [hz0, hz]
    exact FR.evo (Evo.drew G) hF
  refine steps_any (ordOk_ok hk) hs last ops.toArray.size (Array.replicate ops.toArray.size false) a { G with w := G.w.drew } ω0 (by simp) (by simp [List.countP_replicate]) ?_ ?_ (hE.trans (Evo.drew G)) hF0 hd ?_
  · intro j o _ hl
    rw [hz0] at hl
    cases hl
  · rw [hz0]; exact h0
  · rw [hz0, hH0]; exact hH.drew
end
end Go.Proofs.Ythgkepaadkmhoaa.Av
