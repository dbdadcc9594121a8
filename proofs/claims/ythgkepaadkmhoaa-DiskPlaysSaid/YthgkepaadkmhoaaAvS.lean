/- The abstract machine's operations, fifth part: what writes and what makes memory. -/
import Derived.Test.YthgkepaadkmhoaaAvR
import Derived.Laws.MakeOwn
set_option linter.unusedVariables false
set_option linter.unusedSimpArgs false
namespace Go.Proofs.Ythgkepaadkmhoaa.Av
open Go Go.RowKit

section
variable {P : Program} {G : Cfg}

def oneA : AV → Bool
  | .agg _ | .tup _ | .junk | .lit (.agg _) | .lit (.tuple _) => false
  | _ => true
theorem oneA_ok {a : AV} {v : Value} (h : VR G a v) (h1 : oneA a = true) : v.oneCell' = true ∧ v.cells = #[v] := by
  unfold oneA at h1
  split at h1 <;> first
    | (simp at h1; done)
    | skip
  cases a <;> simp only [VR] at h <;> try (simp_all; done)
  · subst h
    rename_i h2 h3
    revert h2 h3
    generalize v = v0
    cases v0 <;> intro h2 h3 <;> simp_all [Value.oneCell', Value.cells]
  · obtain ⟨_, rfl⟩ := h; exact ⟨rfl, rfl⟩
  · obtain ⟨_, _, rfl, _⟩ := h; exact ⟨rfl, rfl⟩
  · obtain ⟨_, _, _, rfl, _⟩ := h; exact ⟨rfl, rfl⟩
  · obtain ⟨_, _, _, rfl, _⟩ := h; exact ⟨rfl, rfl⟩
  · obtain ⟨_, rfl⟩ := h; exact ⟨rfl, rfl⟩
  · obtain ⟨_, _, rfl, _⟩ := h; exact ⟨rfl, rfl⟩
  · obtain ⟨_, rfl⟩ := h; exact ⟨rfl, rfl⟩
/-- A value's cells. -/
def cellsA : AV → Option (List AV)
  | .agg cs => if cs.all oneA then some cs else none
  | a => if oneA a then some [a] else none
theorem cellsA_ok {a : AV} {v : Value} {xs : List AV} (h : VR G a v) (hc : cellsA a = some xs) : VRs G xs v.cells.toList ∧ ∀ u ∈ v.cells.toList, u.oneCell' = true := by
  unfold cellsA at hc
  split at hc
  · rename_i cs
    split at hc
    · rename_i hall
      injection hc with hc
      subst hc
      simp only [VR] at h
      obtain ⟨vs, rfl, hs⟩ := h
      refine ⟨hs, fun u hu => ?_⟩
      obtain ⟨i, hi, rfl⟩ := List.mem_iff_getElem.1 hu
      have hil : i < cs.length := by rw [hs.length]; exact hi
      obtain ⟨v, hv, hx⟩ := hs.get (List.getElem?_eq_getElem hil)
      have he : (Value.agg vs).cells.toList[i] = v := by
        have hv' : (Value.agg vs).cells.toList[i]? = some v := hv
        rw [List.getElem?_eq_getElem hi] at hv'
        exact Option.some.inj hv'
      rw [he]
      exact (oneA_ok hx (List.all_eq_true.1 hall _ (List.getElem_mem hil))).1
    · cases hc
  · split at hc
    · rename_i h1
      injection hc with hc
      subst hc
      obtain ⟨h2, h3⟩ := oneA_ok h h1
      rw [h3]
      exact ⟨.cons h .nil, by simpa using h2⟩
    · cases hc

def splice (cs : List AV) (off : Nat) : List AV → List AV
  | [x] => cs.set off x
  | xs => cs.take off ++ xs ++ cs.drop (off + xs.length)
theorem splice_eq (cs : List AV) (off : Nat) (xs : List AV) (h : off + xs.length ≤ cs.length) : splice cs off xs = cs.take off ++ xs ++ cs.drop (off + xs.length) := by
  unfold splice
  split
  · rename_i x
    simp only [List.length_cons, List.length_nil] at h
    rw [List.set_eq_take_append_cons_drop, if_pos (by omega)]
    simp
  · rfl
theorem splice_length (cs : List AV) (off : Nat) (xs : List AV) (h : off + xs.length ≤ cs.length) : (splice cs off xs).length = cs.length := by
  rw [splice_eq _ _ _ h]
  simp only [List.length_append, List.length_take, List.length_drop]
  omega

/-- A store of some cells into an object. -/
theorem HR.store {H : AH} (hr : HR G H) {o off : Nat} {cs xs : List AV} (ho : H[o]? = some (some (.cells cs))) (hoff : off + xs.length ≤ cs.length) {vs : List Value} (hv : VRs G xs vs) (h1 : ∀ u ∈ vs, u.oneCell' = true) :
    ∃ G' : Cfg, (storeCells ⟨(G.μ o).1, (G.μ o).2.1 + off, none⟩ vs).run P G.w = .ok () G'.w ∧ Evo G G' ∧ G'.n = G.n ∧ G'.μ = G.μ ∧ HR G' (H.set o (some (.cells (splice cs off xs)))) := by
  obtain ⟨c, e, us, hb, hlim, hcl, hus, hcell⟩ := hr.obj _ _ ho
  have hlen := hv.length
  have hst := run_storeCells_at P (G.μ o).1 ((G.μ o).2.1 + off) e vs 0 c G.w hb (by omega) h1
  simp only [Nat.add_zero] at hst
  generalize hc' : (c.toList.take ((G.μ o).2.1 + off) ++ vs ++ c.toList.drop ((G.μ o).2.1 + off + vs.length)).toArray = c' at hst
  have hsize : c'.size = c.size := by
    rw [← hc']
    simp only [List.size_toArray, List.length_append, List.length_take, List.length_drop, Array.length_toList]
    omega
  have hE : Evo G { G with w := G.w.setRow (G.μ o).1 c' } :=
    ⟨rfl, rfl, rfl, by simp, fun k hk hL => ⟨setRow_other _ _ _ _ (fun he => hL (by rw [he]; exact hr.live _ _ ho)), hL⟩, Nat.le_refl _, fun _ _ => rfl, rfl⟩
  refine ⟨{ G with w := G.w.setRow (G.μ o).1 c' }, hst, hE, rfl, rfl, ?_⟩
  refine hr.update hE rfl rfl ho _ (fun k hk => setRow_other _ _ _ _ hk) (by simp) ?_
  have hl2 := hus.length
  refine ⟨c', e, us.take off ++ vs ++ us.drop (off + vs.length), setRow_heap _ _ _ _ _ _ hb, by rw [hsize]; exact hlim, by rw [splice_length _ _ _ hoff]; exact hcl, ?_, ?_⟩
  · rw [splice_eq _ _ _ hoff, hlen]
    exact (((hus.evo hE).take off).append (hv.evo hE)).append ((hus.evo hE).drop _)
  · intro i v hi
    rw [← hc']
    simp only [List.getElem?_toArray]
    have hcl' : ((us.take off ++ vs ++ us.drop (off + vs.length))).length = us.length := by
      simp only [List.length_append, List.length_take, List.length_drop]; omega
    have hil : i < us.length := by rw [← hcl']; exact (List.getElem?_eq_some_iff.1 hi).1
    have t1 : (us.take off).length = off := by rw [List.length_take]; omega
    have t2 : (c.toList.take ((G.μ o).2.1 + off)).length = (G.μ o).2.1 + off := by rw [List.length_take, Array.length_toList]; omega
    rw [List.append_assoc] at hi ⊢
    rcases Nat.lt_or_ge i off with hlt | hge
    · rw [List.getElem?_append_left (by rw [t1]; exact hlt), List.getElem?_take, if_pos hlt] at hi
      rw [List.getElem?_append_left (by rw [t2]; omega), List.getElem?_take, if_pos (by omega)]
      simpa using hcell i v hi
    · rw [List.getElem?_append_right (by rw [t1]; exact hge), t1] at hi
      rw [List.getElem?_append_right (by rw [t2]; omega), t2, show (G.μ o).2.1 + i - ((G.μ o).2.1 + off) = i - off by omega]
      rcases Nat.lt_or_ge (i - off) vs.length with hlt | hge'
      · rw [List.getElem?_append_left hlt] at hi ⊢
        exact ⟨hi, h1 _ (List.mem_of_getElem? hi)⟩
      · rw [List.getElem?_append_right hge', List.getElem?_drop] at hi ⊢
        rw [show off + vs.length + (i - off - vs.length) = i by omega] at hi
        rw [show (G.μ o).2.1 + off + vs.length + (i - off - vs.length) = (G.μ o).2.1 + i by omega]
        simpa using hcell i v hi

def over (cs : List AV) (off : Nat) (xs : List AV) : List AV := cs.take off ++ xs ++ cs.drop (off + xs.length)
/-- .. that may go on behind what is told of it. -/
theorem HR.put {H : AH} (hr : HR G H) {o off : Nat} {cs xs : List AV} (ho : H[o]? = some (some (.cells cs))) (hoff : off ≤ cs.length) (hfit : off + xs.length ≤ (G.μ o).2.2) {vs : List Value} (hv : VRs G xs vs) (h1 : ∀ u ∈ vs, u.oneCell' = true) :
    ∃ G' : Cfg, (storeCells ⟨(G.μ o).1, (G.μ o).2.1 + off, none⟩ vs).run P G.w = .ok () G'.w ∧ Evo G G' ∧ G'.n = G.n ∧ G'.μ = G.μ ∧ HR G' (H.set o (some (.cells (over cs off xs)))) := by
  obtain ⟨c, e, us, hb, hlim, hcl, hus, hcell⟩ := hr.obj _ _ ho
  have hlen := hv.length
  have hst := run_storeCells_at P (G.μ o).1 ((G.μ o).2.1 + off) e vs 0 c G.w hb (by omega) h1
  simp only [Nat.add_zero] at hst
  generalize hc' : (c.toList.take ((G.μ o).2.1 + off) ++ vs ++ c.toList.drop ((G.μ o).2.1 + off + vs.length)).toArray = c' at hst
  have hsize : c'.size = c.size := by
    rw [← hc']
    simp only [List.size_toArray, List.length_append, List.length_take, List.length_drop, Array.length_toList]
    omega
  have hE : Evo G { G with w := G.w.setRow (G.μ o).1 c' } :=
    ⟨rfl, rfl, rfl, by simp, fun k hk hL => ⟨setRow_other _ _ _ _ (fun he => hL (by rw [he]; exact hr.live _ _ ho)), hL⟩, Nat.le_refl _, fun _ _ => rfl, rfl⟩
  refine ⟨{ G with w := G.w.setRow (G.μ o).1 c' }, hst, hE, rfl, rfl, ?_⟩
  refine hr.update hE rfl rfl ho _ (fun k hk => setRow_other _ _ _ _ hk) (by simp) ?_
  have hl2 := hus.length
  refine ⟨c', e, us.take off ++ vs ++ us.drop (off + vs.length), setRow_heap _ _ _ _ _ _ hb, by rw [hsize]; exact hlim, by unfold over; simp only [List.length_append, List.length_take, List.length_drop]; omega, ?_, ?_⟩
  · unfold over; rw [hlen]
    exact (((hus.evo hE).take off).append (hv.evo hE)).append ((hus.evo hE).drop _)
  · intro i v hi
    rw [← hc']
    simp only [List.getElem?_toArray]
    have t1 : (us.take off).length = off := by rw [List.length_take]; omega
    have t2 : (c.toList.take ((G.μ o).2.1 + off)).length = (G.μ o).2.1 + off := by rw [List.length_take, Array.length_toList]; omega
    rw [List.append_assoc] at hi ⊢
    rcases Nat.lt_or_ge i off with hlt | hge
    · rw [List.getElem?_append_left (by rw [t1]; exact hlt), List.getElem?_take, if_pos hlt] at hi
      rw [List.getElem?_append_left (by rw [t2]; omega), List.getElem?_take, if_pos (by omega)]
      simpa using hcell i v hi
    · rw [List.getElem?_append_right (by rw [t1]; exact hge), t1] at hi
      rw [List.getElem?_append_right (by rw [t2]; omega), t2, show (G.μ o).2.1 + i - ((G.μ o).2.1 + off) = i - off by omega]
      rcases Nat.lt_or_ge (i - off) vs.length with hlt | hge'
      · rw [List.getElem?_append_left hlt] at hi ⊢
        exact ⟨hi, h1 _ (List.mem_of_getElem? hi)⟩
      · rw [List.getElem?_append_right hge', List.getElem?_drop] at hi ⊢
        rw [show off + vs.length + (i - off - vs.length) = i by omega] at hi
        rw [show (G.μ o).2.1 + off + vs.length + (i - off - vs.length) = (G.μ o).2.1 + i by omega]
        simpa using hcell i v hi

def astore (P : Program) (H : AH) (t : TypeId) (a x : AV) : Option AH :=
  match tSize P t, cellsA x, a with
  | some n, some xs, .ptr o off => match H[o]? with
    | some (some (.cells cs)) => if xs.length = n ∧ off + n ≤ cs.length then some (H.set o (some (.cells (splice cs off xs)))) else none
    | _ => none
  | _, _, _ => none
theorem astore_ok {H H' : AH} (hr : HR G H) {t : TypeId} {a x : AV} {va vx : Value} (ha : VR G a va) (hx : VR G x vx) (h : astore P H t a x = some H') :
    ∃ G' : Cfg, (Instr.storeAt t va vx).run P G.w = .ok () G'.w ∧ Evo G G' ∧ HR G' H' := by
  unfold astore at h
  split at h
  · rename_i n xs o off hn hxs
    split at h
    · rename_i cs ho
      split at h
      · rename_i hb
        injection h with h
        subst h
        obtain ⟨hv, h1⟩ := cellsA_ok hx hxs
        simp only [VR] at ha
        obtain ⟨_, rfl⟩ := ha
        obtain ⟨G', q, hE, _, _, hH⟩ := hr.store (P := P) ho (by rw [hb.1]; exact hb.2) hv h1
        refine ⟨G', ?_, hE, hH⟩
        have hs : vx.cells.size = n := by rw [← Array.length_toList, ← hv.length, hb.1]
        simp [Instr.storeAt, Instr.sureAddr, storeVar, run_sizeOf hn, hs, q]
      · cases h
    · cases h
  · cases h

/-! ### new objects -/
theorem HR.fresh {H : AH} (hr : HR G H) (c : Array Value) (e : TypeId) {as : List AV} {vs : List Value} (h : VRs G as vs) (hcs : vs = c.toList) (h1 : ∀ u ∈ vs, u.oneCell' = true) :
    HR (G.new (.cells c e) c.size) (H ++ [some (.cells as)]) ∧ Evo G (G.new (.cells c e) c.size) ∧ (G.new (.cells c e) c.size).μ H.length = (G.w.heap.size, 0, c.size) ∧ H.length < (G.new (.cells c e) c.size).n := by
  refine ⟨hr.newCells c e (Nat.le_refl _) (by rw [h.length, hcs]; simp) h (fun i v hv => ⟨by rw [hcs] at hv; simpa using hv, h1 _ (List.mem_of_getElem? hv)⟩), Evo.new _ _ _, by simp [Cfg.new, hr.n], by simp [Cfg.new, hr.n]⟩
def tZero (P : Program) (t : TypeId) : Option Value := (P.info? t).bind (·.zero)
theorem run_zeroValue {t : TypeId} {z : Value} (h : tZero P t = some z) (w : World) : (zeroValue t).run P w = .ok z w := by
  unfold tZero at h
  obtain ⟨i, hi, hz⟩ := Option.bind_eq_some_iff.1 h
  simp [zeroValue, typeInfo, hi, hz]
def anew (H : AH) (x : AV) : Option (AV × AH) := (cellsA x).map fun cs => (.ptr H.length 0, H ++ [some (.cells cs)])
theorem anew_ok {H H' : AH} (hr : HR G H) {e : TypeId} {x r : AV} {v : Value} (hx : VR G x v) (h : anew H x = some (r, H')) :
    ∃ (G' : Cfg) (u : Addr), (newVar e v).run P G.w = .ok u G'.w ∧ Evo G G' ∧ VR G' r (.pointer (some u)) ∧ HR G' H' := by
  obtain ⟨cs, hcs, he⟩ := Option.map_eq_some_iff.1 h
  injection he with h1 h2
  subst h1; subst h2
  obtain ⟨hv, ho⟩ := cellsA_ok hx hcs
  obtain ⟨a, b, c, d⟩ := hr.fresh v.cells e hv rfl ho
  refine ⟨_, ⟨G.w.heap.size, 0, none⟩, ?_, b, ?_, a⟩
  · simp [newVar, newRow, Cfg.new]
  · simp only [VR]
    rw [c]
    exact ⟨d, rfl⟩

/-! ### composite values -/
def afill (place : Nat → Option (Nat × Nat)) (cells : List AV) : List (Nat × AV) → Option (List AV)
  | [] => some cells
  | (i, v) :: rest => match place i, cellsA v with
    | some (off, size), some xs => if xs.length = size ∧ off + size ≤ cells.length then afill place (splice cells off xs) rest else none
    | _, _ => none
theorem foldl_setIf (xs : List Value) : ∀ (k off : Nat) (cells : Array Value), off + k + xs.length ≤ cells.size →
    (((xs.zipIdx k).foldl (fun cs (c, j) => cs.setIfInBounds (off + j) c) cells)).toList = cells.toList.take (off + k) ++ xs ++ cells.toList.drop (off + k + xs.length) := by
  induction xs with
  | nil => intro k off cells _; simp
  | cons x xs ih =>
    intro k off cells h
    simp only [List.length_cons] at h
    rw [List.zipIdx_cons, List.foldl_cons, ih (k + 1) off _ (by simp; omega), Array.toList_setIfInBounds]
    have e1 : (cells.toList.set (off + k) x).take (off + (k + 1)) = cells.toList.take (off + k) ++ [x] := by
      rw [show off + (k + 1) = off + k + 1 by omega, List.take_succ_eq_append_getElem (by simp; omega)]
      simp [List.take_set_of_le]
    have e2 : (cells.toList.set (off + k) x).drop (off + (k + 1) + xs.length) = cells.toList.drop (off + k + (x :: xs).length) := by
      rw [List.drop_set_of_lt (by omega)]
      congr 1
      simp only [List.length_cons]; omega
    rw [e1, e2, List.append_assoc, List.append_assoc, List.append_assoc]
    rfl
theorem afill_ok {place : Nat → Option (Nat × Nat)} : ∀ (parts : List (Nat × AV)) (vparts : List (Nat × Value)) (cells : List AV) (vcells : Array Value) (rs : List AV),
    (parts.map Prod.fst = vparts.map Prod.fst) → VRs G (parts.map Prod.snd) (vparts.map Prod.snd) → VRs G cells vcells.toList → afill place cells parts = some rs →
    ∃ us, Instr.fill place vcells vparts = some us ∧ VRs G rs us.toList
  | [], vparts, cells, vcells, rs, hk, hp, hc, h => by
    cases vparts with
    | cons _ _ => simp at hk
    | nil => simp only [afill] at h; injection h with h; subst h; exact ⟨vcells, rfl, hc⟩
  | (i, x) :: rest, vparts, cells, vcells, rs, hk, hp, hc, h => by
    cases vparts with
    | nil => simp at hk
    | cons q vrest =>
      obtain ⟨j, v⟩ := q
      simp only [List.map_cons, List.cons.injEq] at hk hp
      obtain ⟨rfl, hk⟩ := hk
      simp only [VRs] at hp
      obtain ⟨_, _, he, hx, hr⟩ := hp
      injection he with he1 he2
      subst he1; subst he2
      simp only [afill] at h
      split at h
      · rename_i off size xs hpl hxs
        split at h
        · rename_i hb
          obtain ⟨hv, _⟩ := cellsA_ok hx hxs
          have hsz : v.cells.size = size := by rw [← Array.length_toList, ← hv.length, hb.1]
          have hcl : cells.length = vcells.size := by rw [← Array.length_toList]; exact hc.length
          have hxl : xs.length = v.cells.size := by rw [← Array.length_toList]; exact hv.length
          have hfold := foldl_setIf v.cells.toList 0 off vcells (by rw [Array.length_toList]; omega)
          simp only [Nat.add_zero] at hfold
          obtain ⟨us, hus, hR⟩ := afill_ok rest vrest (splice cells off xs) ((v.cells.toList.zipIdx).foldl (fun cs (c, j) => cs.setIfInBounds (off + j) c) vcells) rs hk hr (by
            rw [hfold, splice_eq _ _ _ (by omega), hv.length]
            exact ((hc.take off).append hv).append (hc.drop _)) h
          refine ⟨us, ?_, hR⟩
          rw [← hus]
          conv => lhs; unfold Instr.fill
          simp only [hpl]
          rw [if_neg (by simp; omega)]
          congr 1
          rw [← Array.foldl_toList, Array.toList_zipIdx]
        · cases h
      · cases h

def abuild (P : Program) (t : TypeId) (parts : List (Nat × AV)) : Option AV :=
  match tZero P t, P.underlying t with
  | some z, some (.struct fields) =>
    if fields.toList.all fun f => (tSize P f.type).isSome then
      (afill (fun i => (fields[i]?).bind fun f => (tSize P f.type).map fun n => (f.offset, n)) (z.cells.toList.map .lit) parts).map .agg
    else none
  | some z, some (.array _ e) => match tSize P e with
    | some sz => (afill (fun i => some (i * sz, sz)) (z.cells.toList.map .lit) parts).map .agg
    | none => none
  | _, _ => none
theorem run_mapM_places (fields : Array Field) (h : fields.toList.all (fun f => (tSize P f.type).isSome) = true) (w : World) :
    (fields.mapM fun f => (do pure (f.offset, ← sizeOf f.type) : Sem (Nat × Nat))).run P w = .ok (fields.map fun f => (f.offset, (tSize P f.type).getD 0)) w := by
  obtain ⟨l⟩ := fields
  simp only [List.mapM_toArray]
  have : ∀ (l : List Field), l.all (fun f => (tSize P f.type).isSome) = true → (l.mapM fun f => (Prod.mk f.offset <$> sizeOf f.type : Sem (Nat × Nat))).run P w = .ok (l.map fun f => (f.offset, (tSize P f.type).getD 0)) w := by
    intro l hl
    induction l with
    | nil => simp
    | cons f l ih =>
      simp only [List.all_cons, Bool.and_eq_true] at hl
      obtain ⟨n, hn⟩ := Option.isSome_iff_exists.1 hl.1
      simp [run_sizeOf hn, ih hl.2, hn]
  simp [this l h]
theorem abuild_ok {t : TypeId} {parts : List (Nat × AV)} {vparts : Array (Nat × Value)} {r : AV} (hk : parts.map Prod.fst = vparts.toList.map Prod.fst) (hp : VRs G (parts.map Prod.snd) (vparts.toList.map Prod.snd)) (h : abuild P t parts = some r) (w : World) :
    ∃ u, (Instr.build t vparts).run P w = .ok u w ∧ VR G r u := by
  unfold abuild at h
  split at h
  · rename_i z fields hz hu
    split at h
    · rename_i hall
      obtain ⟨rs, hrs, rfl⟩ := Option.map_eq_some_iff.1 h
      obtain ⟨us, hus, hR⟩ := afill_ok parts vparts.toList _ z.cells rs hk hp (VRs.lits _) hrs
      have e : (fun (i : Nat) => (fields[i]?).bind fun f => (tSize P f.type).map fun n => (f.offset, n)) = fun (i : Nat) => (fields.map fun f => (f.offset, (tSize P f.type).getD 0))[i]? := by
        funext i
        rw [Array.getElem?_map]
        cases hf : fields[i]? with
        | none => rfl
        | some f =>
          have hm : f ∈ fields.toList := by
            rw [← Array.getElem?_toList] at hf
            exact List.mem_of_getElem? hf
          obtain ⟨n, hn⟩ := Option.isSome_iff_exists.1 (List.all_eq_true.1 hall f hm)
          simp [hn]
      rw [e] at hus
      refine ⟨.agg us, ?_, by simp only [VR]; exact ⟨_, rfl, hR⟩⟩
      simp only [Instr.build, Sem.run_bind, run_zeroValue hz, run_underlying hu, Result.andThen_ok, run_mapM_places fields hall]
      rw [hus]
      rfl
    · cases h
  · rename_i z n e hz hu
    split at h
    · rename_i sz hsz
      obtain ⟨rs, hrs, rfl⟩ := Option.map_eq_some_iff.1 h
      obtain ⟨us, hus, hR⟩ := afill_ok parts vparts.toList _ z.cells rs hk hp (VRs.lits _) hrs
      refine ⟨.agg us, ?_, by simp only [VR]; exact ⟨_, rfl, hR⟩⟩
      simp only [Instr.build, Sem.run_bind, run_zeroValue hz, run_underlying hu, Result.andThen_ok, run_sizeOf hsz]
      simp [hus]
    · cases h
  · cases h
end
end Go.Proofs.Ythgkepaadkmhoaa.Av
