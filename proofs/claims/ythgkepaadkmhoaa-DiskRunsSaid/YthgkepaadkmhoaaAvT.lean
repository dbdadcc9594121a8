/- The abstract machine's operations, sixth part: slices that are made, appended to, copied into. -/
import Derived.Test.YthgkepaadkmhoaaAvS
set_option linter.unusedVariables false
set_option linter.unusedSimpArgs false
namespace Go.Proofs.Ythgkepaadkmhoaa.Av
open Go Go.RowKit

section
variable {P : Program} {G : Cfg}

theorem getElem?_madeCells (z : Array Value) (n i : Nat) : (madeCells z n)[i]? = if i < n then some (z[i % z.size]!) else none := by
  unfold madeCells
  rw [Array.getElem?_map, Array.getElem?_range]
  split <;> simp
/-- n elements' zero cells. -/
def zrow (z : List AV) (n : Nat) : List AV := (List.replicate n z).flatten
theorem zrow_length (z : List AV) (n : Nat) : (zrow z n).length = n * z.length := by
  induction n with
  | zero => simp [zrow]
  | succ n ih =>
    unfold zrow at ih ⊢
    rw [List.replicate_succ, List.flatten_cons, List.length_append, ih, Nat.succ_mul]; omega
theorem zrow_get (z : List AV) (n i : Nat) (h : i < n * z.length) : (zrow z n)[i]? = z[i % z.length]? := by
  induction n generalizing i with
  | zero => simp at h
  | succ n ih =>
    unfold zrow at ih ⊢
    rw [List.replicate_succ, List.flatten_cons]
    rcases Nat.lt_or_ge i z.length with hi | hi
    · rw [List.getElem?_append_left hi, Nat.mod_eq_of_lt hi]
    · rw [List.getElem?_append_right hi, ih (i - z.length) (by rw [Nat.succ_mul] at h; omega)]
      congr 1
      rw [Nat.mod_eq_sub_mod hi]
theorem zrow_made {z : Array Value} (n : Nat) (hz : z.size ≠ 0) : VRs G (zrow (z.toList.map .lit) n) (madeCells z (n * z.size)).toList := by
  refine VRs.of_get (by rw [zrow_length]; simp [size_madeCells]) fun i a v ha hv => ?_
  have hl : i < n * z.size := by
    have := (List.getElem?_eq_some_iff.1 ha).1
    rw [zrow_length] at this; simpa using this
  rw [zrow_get _ _ _ (by simpa using hl)] at ha
  rw [Array.getElem?_toList, getElem?_madeCells, if_pos hl] at hv
  injection hv with hv
  have hm : i % z.size < z.size := Nat.mod_lt _ (by omega)
  rw [List.getElem?_map] at ha
  simp only [List.length_map, Array.length_toList, Array.getElem?_toList, Array.getElem?_eq_getElem hm, Option.map_some] at ha
  injection ha with ha
  subst ha
  rw [← hv]
  simp only [VR]
  simp [hm]
theorem made_one {z : Array Value} (n : Nat) (h1 : ∀ u ∈ z.toList, u.oneCell' = true) (hz : z.size ≠ 0) : ∀ u ∈ (madeCells z n).toList, u.oneCell' = true := by
  intro u hu
  obtain ⟨i, hi, rfl⟩ := List.mem_iff_getElem.1 hu
  have : (madeCells z n)[i]? = some ((madeCells z n).toList[i]) := by rw [← Array.getElem?_toList]; exact List.getElem?_eq_getElem hi
  rw [getElem?_madeCells] at this
  split at this
  · injection this with this
    rw [← this]
    have hm : i % z.size < z.size := Nat.mod_lt _ (by omega)
    refine h1 _ ?_
    simp only [hm, getElem!_pos]
    exact Array.getElem_mem_toList hm
  · cases this
def allOne (z : Value) : Bool := z.cells.toList.all Value.oneCell'
def amake (P : Program) (H : AH) (t : TypeId) (l c : AV) : Option (AV × AH) :=
  match P.underlying t, l, c with
  | some (.slice e), .lit (.int _ n), .lit (.int _ m) =>
    match P.info? e with
    | some i => match i.zero with
      | some z => if 0 ≤ n ∧ n ≤ m ∧ (i.bytes : Int) * m ≤ 281474976710656 ∧ m ≤ 9223372036854775807 ∧ z.cells.size = i.size ∧ i.size ≠ 0 ∧ allOne z = true then
          some (.sl H.length 0 n.toNat i.size (.ex m.toNat), H ++ [some (.cells (zrow (z.cells.toList.map .lit) m.toNat))]) else none
      | none => none
    | none => none
  | _, _, _ => none
theorem amake_ok {H H' : AH} (hr : HR G H) {t : TypeId} {l c r : AV} {vl vc : Value} (hl : VR G l vl) (hc : VR G c vc) (h : amake P H t l c = some (r, H')) :
    ∃ (G' : Cfg) (u : Value), (Instr.makeSlice t vl vc).run P G.w = .ok u G'.w ∧ Evo G G' ∧ VR G' r u ∧ HR G' H' := by
  unfold amake at h
  split at h
  · rename_i e kl n kc m hu
    split at h
    · rename_i i hi
      split at h
      · rename_i z hz
        split at h
        · rename_i hb
          obtain ⟨h0, h1, h2, h3, h4, h5, h6⟩ := hb
          injection h with h
          injection h with ha hb'
          subst ha; subst hb'
          simp only [VR] at hl hc
          subst hl; subst hc
          have q := run_make (P := P) G.w t e i z hu hi hz kl kc n m h0 h1 h2 h3
          have hsz : m.toNat * i.size = m.toNat * z.cells.size := by rw [h4]
          have hz0 : z.cells.size ≠ 0 := by rw [h4]; exact h5
          obtain ⟨a, b, d, f⟩ := hr.fresh (madeCells z.cells (m.toNat * i.size)) e (by rw [hsz]; exact zrow_made m.toNat hz0) rfl (made_one _ (fun u hu => List.all_eq_true.1 h6 u hu) hz0)
          refine ⟨_, _, q, b, ?_, a⟩
          simp only [VR]
          refine ⟨f, _, _, rfl, by omega, ?_⟩
          rw [d]
          refine ⟨rfl, .inr ⟨rfl, ?_⟩⟩
          simp [size_madeCells]
        · cases h
      · cases h
    · cases h
  · cases h
def abuildSlice (P : Program) (H : AH) (t : TypeId) (len : Nat) (parts : List (Nat × AV)) : Option (AV × AH) :=
  match P.underlying t with
  | some (.slice e) => match P.info? e with
    | some i => match i.zero with
      | some z => if len * i.size ≤ 16777216 ∧ z.cells.size = i.size ∧ i.size ≠ 0 ∧ allOne z = true then
          (afill (fun j => some (j * i.size, i.size)) (zrow (z.cells.toList.map .lit) len) parts).map fun cs => (.sl H.length 0 len i.size (.ex len), H ++ [some (.cells cs)])
        else none
      | none => none
    | none => none
  | _ => none
theorem afill_length {place : Nat → Option (Nat × Nat)} : ∀ {parts : List (Nat × AV)} {cells rs : List AV}, afill place cells parts = some rs → rs.length = cells.length
  | [], cells, rs, h => by simp only [afill] at h; injection h with h; rw [h]
  | (i, v) :: rest, cells, rs, h => by
    simp only [afill] at h
    split at h
    · split at h
      · rename_i hb
        rw [afill_length h, splice_length _ _ _ (by omega)]
      · cases h
    · cases h
theorem fill_one {place : Nat → Option (Nat × Nat)} : ∀ (vparts : List (Nat × Value)) (vcells us : Array Value), (∀ p ∈ vparts, ∀ u ∈ p.2.cells.toList, u.oneCell' = true) → (∀ u ∈ vcells.toList, u.oneCell' = true) →
    Instr.fill place vcells vparts = some us → ∀ u ∈ us.toList, u.oneCell' = true
  | [], vcells, us, _, hc, h => by simp only [Instr.fill] at h; injection h with h; subst h; exact hc
  | (i, v) :: rest, vcells, us, hp, hc, h => by
    unfold Instr.fill at h
    split at h
    · cases h
    · rename_i off size hpl
      split at h
      · cases h
      · rename_i hb
        simp at hb
        refine fill_one rest _ us (fun p hp' => hp p (by simp [hp'])) ?_ h
        intro u hu
        rw [← Array.foldl_toList, Array.toList_zipIdx, foldl_setIf _ 0 off vcells (by rw [Array.length_toList]; omega)] at hu
        simp only [List.mem_append] at hu
        rcases hu with (hu | hu) | hu
        · exact hc u (List.mem_of_mem_take hu)
        · exact hp (i, v) (by simp) u hu
        · exact hc u (List.mem_of_mem_drop hu)
theorem afill_parts_one {place : Nat → Option (Nat × Nat)} : ∀ {parts : List (Nat × AV)} {vparts : List (Nat × Value)} {cells rs : List AV}, VRs G (parts.map Prod.snd) (vparts.map Prod.snd) → afill place cells parts = some rs →
    ∀ p ∈ vparts, ∀ u ∈ p.2.cells.toList, u.oneCell' = true
  | [], vparts, cells, rs, hp, h => by
    cases vparts with
    | nil => simp
    | cons q r => simp [VRs] at hp
  | (i, x) :: rest, vparts, cells, rs, hp, h => by
    cases vparts with
    | nil => simp
    | cons q vrest =>
      simp only [List.map_cons, VRs] at hp
      obtain ⟨_, _, he, hx, hr⟩ := hp
      simp only [List.cons.injEq] at he
      obtain ⟨he1, he2⟩ := he
      subst he1; subst he2
      simp only [afill] at h
      split at h
      · rename_i off size xs hpl hxs
        split at h
        · intro p hp u hu
          rcases List.mem_cons.1 hp with rfl | hp
          · exact (cellsA_ok hx hxs).2 u hu
          · exact afill_parts_one hr h p hp u hu
        · cases h
      · cases h
theorem abuildSlice_ok {H H' : AH} (hr : HR G H) {t : TypeId} {len : Nat} {parts : List (Nat × AV)} {vparts : Array (Nat × Value)} {r : AV} (hk : parts.map Prod.fst = vparts.toList.map Prod.fst)
    (hp : VRs G (parts.map Prod.snd) (vparts.toList.map Prod.snd)) (h : abuildSlice P H t len parts = some (r, H')) :
    ∃ (G' : Cfg) (u : Value), (Instr.buildSlice t len vparts).run P G.w = .ok u G'.w ∧ Evo G G' ∧ VR G' r u ∧ HR G' H' := by
  unfold abuildSlice at h
  split at h
  · rename_i e hu
    split at h
    · rename_i i hi
      split at h
      · rename_i z hz
        split at h
        · rename_i hb
          obtain ⟨h0, h4, h5, h6⟩ := hb
          obtain ⟨cs, hcs, he⟩ := Option.map_eq_some_iff.1 h
          injection he with ha hb'
          subst ha; subst hb'
          have hz0 : z.cells.size ≠ 0 := by rw [h4]; exact h5
          have hv := zrow_made (G := G) (z := z.cells) len hz0
          rw [h4] at hv
          obtain ⟨us, hus, hR⟩ := afill_ok parts vparts.toList _ (madeCells z.cells (len * i.size)) cs hk hp hv hcs
          have hone := fill_one vparts.toList _ us (afill_parts_one hp hcs) (made_one _ (fun u hu => List.all_eq_true.1 h6 u hu) hz0) hus
          obtain ⟨a, b, d, f⟩ := hr.fresh us e hR rfl hone
          have hsz : us.size = len * i.size := by
            rw [← Array.length_toList, ← hR.length, afill_length hcs, zrow_length]; simp [h4]
          refine ⟨_, .slice (some ⟨G.w.heap.size, 0, none⟩) len len, ?_, b, ?_, a⟩
          · have hzi : (P.info? e).bind (·.zero) = some z := by rw [hi]; exact hz
            have hn : ¬ (16777216 < len * i.size) := by omega
            by_cases hl : len * i.size = 0
            · have hm0 : madeCells z.cells 0 = #[] := by simp [madeCells]
              rw [hl, hm0] at hus
              have hr0 : Array.range 0 = #[] := rfl
              simp [hr0, Instr.buildSlice, run_underlying hu, sizeOf, typeInfo, hi, hl, hus, newRow, Cfg.new]
            · have := hus
              unfold madeCells at this
              simp [Instr.buildSlice, run_underlying hu, sizeOf, typeInfo, hi, hn, hl, run_zeroValue hzi, this, newRow, Cfg.new]
          · simp only [VR]
            refine ⟨f, _, _, rfl, Nat.le_refl _, ?_⟩
            rw [d]
            refine ⟨rfl, .inr ⟨rfl, ?_⟩⟩
            simp [hsz]
        · cases h
      · cases h
    · cases h
  · cases h

/-! ### append, copy, clear -/
def tBytes (P : Program) (t : TypeId) : Option Nat := (P.info? t).map (·.bytes)
/-- What is appended: cells, how many elements. -/
def appended (H : AH) (sz : Nat) (x : AV) : Option (List AV × Nat) :=
  match x with
  | .lit (.string s) => if sz = 1 then some (s.data.toList.map fun b => .lit (.int .u8 b.toNat), s.size) else none
  | x => sliceCells H sz x
theorem appended_ok {H : AH} (hr : HR G H) {tx : TypeId} {sz : Nat} {x : AV} {v : Value} {cs : List AV} {n : Nat} (hx : VR G x v) (hk : (∃ e', P.underlying tx = some (.slice e')) ∨ P.underlying tx = some .string) (h : appended H sz x = some (cs, n)) :
    cs.length = n * sz ∧ ∃ vs, VRs G cs vs ∧ Src P sz tx v n vs G.w := by
  unfold appended at h
  split at h
  · rename_i s
    split at h
    · rename_i hs
      subst hs
      injection h with h
      injection h with h1 h2
      subst h1; subst h2
      simp only [VR] at hx
      subst hx
      refine ⟨by simp, byteCells s, ?_, ?_⟩
      · unfold byteCells
        have := VRs.lits (G := G) (s.data.toList.map fun b => Value.int .u8 b.toNat)
        simpa [List.map_map, Function.comp_def] using this
      · exact ⟨hk, fun _ => rfl, firstCells_string s G.w, firstCells_string s _, by rw [byteCells_length, Nat.mul_one], fun u hu => by
          unfold byteCells at hu
          obtain ⟨_, _, rfl⟩ := List.mem_map.1 hu
          rfl⟩
    · cases h
  · obtain ⟨hl, a, c, vs, rfl, hv, hnone, hsome⟩ := sliceCells_ok hr hx h
    refine ⟨hl, vs, hv, ?_⟩
    have hvl : vs.length = n * sz := by rw [← hv.length, hl]
    cases a with
    | none =>
      obtain ⟨rfl, rfl, rfl⟩ := hnone rfl
      exact ⟨hk, fun _ => rfl, run_firstCells_none G.w sz 0 0 0, run_firstCells_none _ sz 0 0 0, by simp, fun _ h => by cases h⟩
    | some ad =>
      exact ⟨hk, fun _ => rfl, run_firstCells_some G.w sz n ad n c vs hvl fun j v hj => (hsome ad rfl j v hj).1,
        run_firstCells_some G.w.drew sz n ad n c vs hvl fun j v hj => by simpa using (hsome ad rfl j v hj).1, hvl, fun u hu => by
          obtain ⟨j, hj, rfl⟩ := List.mem_iff_getElem.1 hu
          exact (hsome ad rfl j _ (List.getElem?_eq_getElem hj)).2⟩
/-- append, its first argument looked at. -/
def aapp1 (H : AH) (size bytes : Nat) (s : AV) (news : List AV) (n : Nat) : Option (AV × AH) :=
  match s with
  | .lit (.slice none 0 0) =>
    if n = 0 then some (.lit (.slice none 0 0), H) else
    if n * bytes ≤ 140737488355328 then some (.sl H.length 0 n size (.ge n), H ++ [some (.cells news)]) else none
  | .sl o off len esz cap => match H[o]? with
    | some (some (.cells cs)) =>
      if esz ≠ size ∨ ¬ off + len * esz ≤ cs.length then none else
      match cap with
      | .ex k =>
        if len + n ≤ k then
          some (.sl o off (len + n) esz (.ex k), H.set o (some (.cells (over cs (off + len * esz) news))))
        else if (len + n) * bytes ≤ 140737488355328 then some (.sl H.length 0 (len + n) size (.ge (len + n)), H ++ [some (.cells ((cs.drop off).take (len * esz) ++ news))]) else none
      | .ge k =>
        if n = 0 then some (.sl o off len esz (.ge k), H) else
        if len + n ≤ k then
          some (.sl o off (len + n) esz (.ge k), H.set o (some (.cells (over cs (off + len * esz) news))))
        else if (len + n) * bytes ≤ 140737488355328 then some (.sl H.length 0 (len + n) size (.ge (len + n)), H.set o none ++ [some (.cells ((cs.drop off).take (len * esz) ++ news))]) else none
    | _ => none
  | .imm cs len esz => if n = 0 then some (.imm cs len esz, H) else none
  | .emp => if n = 0 then some (.emp, H) else
    if n * bytes ≤ 140737488355328 then some (.sl H.length 0 n size (.ge n), H ++ [some (.cells news)]) else none
  | _ => none
def aappend (P : Program) (H : AH) (ts tx : TypeId) (s x : AV) : Option (AV × AH) :=
  match P.underlying ts, P.underlying tx with
  | some (.slice e), some (.slice _) | some (.slice e), some .string =>
    match P.info? e with
    | none => none
    | some i => match i.zero with
      | none => none
      | some z => match appended H i.size x with
        | none => none
        | some (news, n) =>
          if i.size = 0 ∨ i.bytes = 0 ∨ z.cells.size ≠ i.size then none else
          aapp1 H i.size i.bytes s news n
  | _, _ => none

theorem run_append_room' {t tx ty e : TypeId} {i : TypeInfo} (ht : P.underlying t = some (.slice e)) (hi : P.info? e = some i) {b off sLen sCap : Nat} {x : Value} {n : Nat} {news : List Value} {w w' : World} (hs : Src P i.size tx x n news w)
    (hroom : sLen + n ≤ sCap) (hst : (storeCells ⟨b, off + sLen * i.size, none⟩ news).run P w = .ok () w') :
    (Builtin.append_ #[t, tx] ty #[.slice (some ⟨b, off, none⟩) sLen sCap, x]).run P w = .ok (.slice (some ⟨b, off, none⟩) (sLen + n) sCap) w' := by
  rcases hs.kind with ⟨e', hk⟩ | hk <;> simp [Builtin.append_, run_underlying ht, run_underlying hk, sizeOf, typeInfo, hi, hs.len, hroom, hs.cells, Addr.add_lit, hst]
theorem run_append_zero {t tx ty e : TypeId} {i : TypeInfo} (ht : P.underlying t = some (.slice e)) (hi : P.info? e = some i) {a : Option Addr} {sLen sCap : Nat} {x : Value} {w : World} (hs : Src P i.size tx x 0 [] w)
    (hroom : sLen ≤ sCap) : (Builtin.append_ #[t, tx] ty #[.slice a sLen sCap, x]).run P w = .ok (.slice a sLen sCap) w := by
  rcases hs.kind with ⟨e', hk⟩ | hk <;> cases a <;> simp [Builtin.append_, run_underlying ht, run_underlying hk, sizeOf, typeInfo, hi, hs.len, hroom, hs.cells, storeCells]
/-- The arm that grows: a new object. -/
theorem append_grows {H : AH} (hr : HR G H) {t tx ty e : TypeId} {i : TypeInfo} {z : Value} (ht : P.underlying t = some (.slice e)) (hi : P.info? e = some i) (hz : i.zero = some z) (hs0 : i.size ≠ 0) (hb0 : i.bytes ≠ 0) (hzs : z.cells.size = i.size)
    {a : Option Addr} {sLen sCap : Nat} {x : Value} {n : Nat} {olds news : List Value} {as bs : List AV} (hold : VRs G as olds) (hnew : VRs G bs news)
    (holds : ∀ ad, a = some ad → ∀ (j : Nat) (u : Value), olds[j]? = some u → G.w.cell? (ad.add j) = some u ∧ u.oneCell' = true) (hnone : a = none → olds = []) (hol : olds.length = sLen * i.size) (hs : Src P i.size tx x n news G.w)
    (hg : sCap < sLen + n) (hbytes : (sLen + n) * i.bytes ≤ 140737488355328) :
    ∃ (G' : Cfg) (u : Value), (Builtin.append_ #[t, tx] ty #[.slice a sLen sCap, x]).run P G.w = .ok u G'.w ∧ Evo G G' ∧ VR G' (.sl H.length 0 (sLen + n) i.size (.ge (sLen + n))) u ∧ HR G' (H ++ [some (.cells (as ++ bs))]) := by
  have hn63 : ((sLen + n : Nat) : Int) ≤ 9223372036854775807 := by
    have : (sLen + n) * 1 ≤ (sLen + n) * i.bytes := Nat.mul_le_mul_left _ (by omega)
    omega
  have hfc : (Builtin.firstCells i.size sLen (.slice a sLen sCap)).run P G.w.drew = .ok olds.toArray G.w.drew := by
    cases a with
    | none => rw [hnone rfl]; exact run_firstCells_none G.w.drew i.size sLen sLen sCap
    | some ad => exact run_firstCells_some G.w.drew i.size sLen ad sLen sCap olds hol fun j v hj => by simpa using (holds ad rfl j v hj).1
  have q := run_append_grow_src (P := P) G.w t tx ty e i z ht hi hz a sLen sCap olds hfc x n news hs hg hn63 (growslice_fits hg hbytes)
  generalize hcap : grownCap G.w (sLen + n) sCap e = cap at q
  have hge : sLen + n ≤ cap := by rw [← hcap]; exact grownCap_ge _ _ _ _
  generalize hc : (olds ++ news).toArray ++ Builtin.zeroCells z.cells (cap - (sLen + n)) = c at q
  have hsize : c.size = cap * i.size := by
    rw [← hc]
    simp only [Array.size_append, List.size_toArray, List.length_append, size_zeroCells, hzs, hol, hs.newsLen, ← Nat.add_mul]
    congr 1
    omega
  have hl := hold.length
  have hl' := hnew.length
  let G1 : Cfg := { G with w := G.w.drew }
  have hr1 : HR G1 H := hr.drew
  have hR : HR (G1.new (.cells c e) (cap * i.size)) (H ++ [some (.cells (as ++ bs))]) := by
    refine hr1.newCells c e (by rw [hsize]; exact Nat.le_refl _) ?_ ((hold.append hnew).evo (Evo.drew G)) ?_
    · rw [List.length_append, hl, hl', hol, hs.newsLen, ← Nat.add_mul]
      exact Nat.mul_le_mul_right _ hge
    · intro j v hj
      refine ⟨?_, ?_⟩
      · rw [← hc, Array.getElem?_append_left (by simpa using (List.getElem?_eq_some_iff.1 hj).1)]
        simpa using hj
      · rcases List.mem_append.1 (List.mem_of_getElem? hj) with hm | hm
        · cases a with
          | none => rw [hnone rfl] at hm; cases hm
          | some ad =>
            obtain ⟨k, hk, rfl⟩ := List.mem_iff_getElem.1 hm
            exact (holds ad rfl k _ (List.getElem?_eq_getElem hk)).2
        · exact hs.one _ hm
  have hμ : (G1.new (.cells c e) (cap * i.size)).μ H.length = (G.w.heap.size, 0, cap * i.size) := by simp [Cfg.new, G1, hr.n]
  refine ⟨G1.new (.cells c e) (cap * i.size), _, q, (Evo.drew G).trans (Evo.new G1 _ _), ?_, hR⟩
  simp only [VR]
  refine ⟨by simp [Cfg.new, G1, hr.n], _, _, rfl, hge, ?_⟩
  rw [hμ]
  exact ⟨hge, .inr ⟨rfl, by simp⟩⟩

theorem Src.zero {sz : Nat} {tx : TypeId} {v : Value} {vs : List Value} {w : World} (h : Src P sz tx v 0 vs w) : vs = [] := List.eq_nil_of_length_eq_zero (by rw [h.newsLen]; simp)
theorem set_same {α : Type} {l : List α} {i : Nat} {x : α} (h : l[i]? = some x) : l.set i x = l := by
  apply List.ext_getElem?
  intro j
  rw [List.getElem?_set]
  split
  · rename_i hij; subst hij; rw [h]; rw [if_pos (List.getElem?_eq_some_iff.1 h).1]
  · rfl
theorem aapp1_ok {H H' : AH} (hr : HR G H) {ts tx ty e : TypeId} {s x r : AV} {vs vx : Value} (hs : VR G s vs) (hx : VR G x vx) (hu : P.underlying ts = some (.slice e)) (hk : (∃ e', P.underlying tx = some (.slice e')) ∨ P.underlying tx = some .string)
    {i : TypeInfo} (hi : P.info? e = some i) {z : Value} (hz : i.zero = some z) {news : List AV} {n : Nat} (happ : appended H i.size x = some (news, n)) (hs0 : i.size ≠ 0) (hb0 : i.bytes ≠ 0) (hzs : z.cells.size = i.size)
    (h : aapp1 H i.size i.bytes s news n = some (r, H')) :
    ∃ (G' : Cfg) (u : Value), (Builtin.append_ #[ts, tx] ty #[vs, vx]).run P G.w = .ok u G'.w ∧ Evo G G' ∧ VR G' r u ∧ HR G' H' := by
  obtain ⟨hnl, nvs, hnv, hsrc⟩ := appended_ok hr hx hk happ
  unfold aapp1 at h
  split at h
  · -- nil
    simp only [VR] at hs
    subst hs
    split at h
    · rename_i hn
      subst hn
      injection h with h
      injection h with h1 h2
      subst h1; subst h2
      have := Src.zero hsrc
      subst this
      exact ⟨G, _, run_append_zero hu hi hsrc (Nat.le_refl _), Evo.refl G, by simp only [VR], hr⟩
    · rename_i hn
      split at h
      · rename_i hbd
        injection h with h
        injection h with h1 h2
        subst h1; subst h2
        have := append_grows hr (ty := ty) hu hi hz hs0 hb0 hzs (a := none) (sLen := 0) (sCap := 0) (olds := []) (as := []) .nil hnv (by simp) (by simp) (by simp) hsrc (by omega) (by simpa using hbd)
        simpa using this
      · cases h
  · -- an object
    rename_i o off len esz cap
    split at h
    · rename_i cs ho
      split at h
      · cases h
      rename_i hcond
      have hcond : esz = i.size ∧ off + len * esz ≤ cs.length := by
        rw [not_or] at hcond; exact ⟨Decidable.byContradiction hcond.1, Decidable.byContradiction hcond.2⟩
      obtain ⟨rfl, hfit⟩ := hcond
      simp only [VR] at hs
      obtain ⟨hon, a, c, rfl, hlc, hat⟩ := hs
      obtain ⟨ovs, hov, hmem⟩ := slice_mem hr ho hat hlc hfit
      have hol : ovs.length = len * i.size := by rw [← hov.length, List.length_take, List.length_drop]; omega
      split at h
      · -- exact capacity
        rename_i k
        have hck : c = k := by simp only [SlAt] at hat; exact hat.1
        subst hck
        split at h
        · rename_i hroom
          injection h with h
          injection h with h1 h2
          subst h1; subst h2
          by_cases hc0 : c = 0
          · have hn0 : n = 0 := by omega
            have hl0 : len = 0 := by omega
            subst hn0; subst hl0; subst hc0
            have := Src.zero hsrc
            subst this
            have hnews : news = [] := List.eq_nil_of_length_eq_zero (by rw [hnl]; simp)
            subst hnews
            refine ⟨G, _, run_append_zero hu hi hsrc (Nat.le_refl _), Evo.refl G, by simp only [VR]; exact ⟨hon, a, 0, rfl, Nat.le_refl _, hat⟩, ?_⟩
            unfold over
            simp only [List.append_nil, List.length_nil, Nat.add_zero, List.take_append_drop]
            rw [set_same ho]
            exact hr
          · obtain ⟨rfl, hle⟩ := slat_exact hat hc0
            have hmul : (len + n) * i.size ≤ c * i.size := Nat.mul_le_mul_right _ hroom
            have hadd : (len + n) * i.size = len * i.size + n * i.size := Nat.add_mul _ _ _
            obtain ⟨G', q, hE, hn, hμ, hH⟩ := hr.put (P := P) ho (off := off + len * i.size) (xs := news) (by omega) (by omega) hnv hsrc.one
            refine ⟨G', _, run_append_room' hu hi hsrc hroom (by rw [Nat.add_assoc]; exact q), hE, ?_, hH⟩
            simp only [VR]
            rw [hn, hμ]
            refine ⟨hon, _, _, rfl, hroom, rfl, .inr ⟨rfl, ?_⟩⟩
            exact hle
        · rename_i hroom
          split at h
          · rename_i hbd
            injection h with h
            injection h with h1 h2
            subst h1; subst h2
            exact append_grows hr (ty := ty) hu hi hz hs0 hb0 hzs hov hnv (fun ad he j u hj => by injection he with he; subst he; exact hmem j u hj) (by simp) hol hsrc (by omega) hbd
          · cases h
      · -- whatever capacity
        rename_i kk
        split at h
        · rename_i hn
          subst hn
          injection h with h
          injection h with h1 h2
          subst h1; subst h2
          have := Src.zero hsrc
          subst this
          exact ⟨G, _, run_append_zero hu hi hsrc hlc, Evo.refl G, by simp only [VR]; exact ⟨hon, a, c, rfl, hlc, hat⟩, hr⟩
        · rename_i hn
          split at h
          · rename_i hroom
            injection h with h
            injection h with h1 h2
            subst h1; subst h2
            have hkc : kk ≤ c := by simp only [SlAt] at hat; exact hat.1
            have hc0 : c ≠ 0 := by omega
            have hroom' : len + n ≤ c := by omega
            have hat2 := hat
            obtain ⟨rfl, hle⟩ := slat_exact hat hc0
            have hmul : (len + n) * i.size ≤ c * i.size := Nat.mul_le_mul_right _ hroom'
            have hadd : (len + n) * i.size = len * i.size + n * i.size := Nat.add_mul _ _ _
            obtain ⟨G', q, hE, hn', hμ, hH⟩ := hr.put (P := P) ho (off := off + len * i.size) (xs := news) (by omega) (by omega) hnv hsrc.one
            refine ⟨G', _, run_append_room' hu hi hsrc hroom' (by rw [Nat.add_assoc]; exact q), hE, ?_, hH⟩
            simp only [VR]
            rw [hn', hμ]
            exact ⟨hon, _, _, rfl, hroom', hat2⟩
          rename_i hroomk
          split at h
          · rename_i hbd
            injection h with h
            injection h with h1 h2
            subst h1; subst h2
            have hrk := hr.kill o
            have hlen : (H.set o none).length = H.length := by simp
            by_cases hroom : len + n ≤ c
            · -- in place
              have hc0 : c ≠ 0 := by omega
              obtain ⟨rfl, _⟩ := slat_exact hat hc0
              have hat' : off + c * i.size = (G.μ o).2.2 := by
                simp only [SlAt] at hat
                rcases hat with ⟨_, h | h⟩
                · omega
                · exact h.2
              obtain ⟨cc, e', us, hb, hlim, hcl, hus, hcell⟩ := hr.obj _ _ ho
              have hnvl : nvs.length = n * i.size := by rw [← hnv.length, hnl]
              have hmul : (len + n) * i.size ≤ c * i.size := Nat.mul_le_mul_right _ hroom
              have hadd : (len + n) * i.size = len * i.size + n * i.size := Nat.add_mul _ _ _
              have hst := run_storeCells_at P (G.μ o).1 ((G.μ o).2.1 + off + len * i.size) e' nvs 0 cc G.w hb (by omega) hsrc.one
              simp only [Nat.add_zero] at hst
              generalize hc' : (cc.toList.take ((G.μ o).2.1 + off + len * i.size) ++ nvs ++ cc.toList.drop ((G.μ o).2.1 + off + len * i.size + nvs.length)).toArray = c' at hst
              have hsize : c'.size = cc.size := by
                rw [← hc']
                simp only [List.size_toArray, List.length_append, List.length_take, List.length_drop, Array.length_toList]
                omega
              let G1 : Cfg := { w := G.w.setRow (G.μ o).1 c', n := G.n + 1, μ := fun j => if j = G.n then ((G.μ o).1, (G.μ o).2.1 + off, (G.μ o).2.2 - off) else G.μ j, L := G.L, K := G.K }
              have hE : Evo G G1 :=
                ⟨rfl, rfl, rfl, by simp [G1], fun k hk hL => ⟨setRow_other _ _ _ _ (fun he => hL (by rw [he]; exact hr.live _ _ ho)), hL⟩, by simp [G1], (fun j hj => by simp only [G1]; rw [if_neg (by omega)]), rfl⟩
              refine ⟨G1, _, run_append_room' hu hi hsrc hroom hst, hE, ?_, ?_⟩
              · simp only [VR]
                have hμ : G1.μ H.length = ((G.μ o).1, (G.μ o).2.1 + off, (G.μ o).2.2 - off) := by simp [G1, hr.n]
                rw [hμ]
                refine ⟨by simp [G1, hr.n], _, _, rfl, hroom, hroom, .inr ⟨rfl, ?_⟩⟩
                simp only; omega
              · have hget : ∀ (j : Nat) (y : AObj), (H.set o none ++ [some (.cells ((cs.drop off).take (len * i.size) ++ news))])[j]? = some (some y) → (j = H.length ∧ y = .cells ((cs.drop off).take (len * i.size) ++ news)) ∨ (j < H.length ∧ j ≠ o ∧ H[j]? = some (some y)) := by
                  intro j y hj
                  rcases Nat.lt_or_ge j H.length with h | h
                  · rw [List.getElem?_append_left (by simpa using h)] at hj
                    by_cases hjo : j = o
                    · subst hjo; rw [List.getElem?_set_self h] at hj; simp at hj
                    · rw [List.getElem?_set_ne (Ne.symm hjo)] at hj
                      exact .inr ⟨h, hjo, hj⟩
                  · rw [List.getElem?_append_right (by simpa using h)] at hj
                    have : j - (H.set o none).length = 0 := by
                      rcases Nat.eq_zero_or_pos (j - (H.set o none).length) with h0 | h0
                      · exact h0
                      · rw [List.getElem?_eq_none (by simp at h0 ⊢; omega)] at hj; cases hj
                    rw [this] at hj
                    rw [hlen] at this
                    exact .inl ⟨by omega, by simpa using hj.symm⟩
                have hμn : G1.μ H.length = ((G.μ o).1, (G.μ o).2.1 + off, (G.μ o).2.2 - off) := by simp [G1, hr.n]
                have hμo : ∀ j, j < H.length → G1.μ j = G.μ j := fun j hj => hE.μ j (by rw [hr.n]; exact hj)
                refine ⟨by simp [G1, hr.n], ?_, ?_, ?_, ?_⟩
                · intro j y hj
                  rcases hget j y hj with ⟨rfl, rfl⟩ | ⟨hjl, hjo, hj'⟩
                  · have hov' : VRs G ((cs.drop off).take (len * i.size)) ((us.drop off).take (len * i.size)) := (hus.drop _).take _
                    refine ⟨c', e', (us.drop off).take (len * i.size) ++ nvs, ?_, ?_, ?_, (hov'.append hnv).evo hE, ?_⟩ <;> rw [hμn]
                    · exact setRow_heap _ _ _ _ _ _ hb
                    · simp only; rw [hsize]; omega
                    · simp only [List.length_append, List.length_take, List.length_drop]; omega
                    · intro q v hq
                      have hul := hus.length
                      have t1 : ((us.drop off).take (len * i.size)).length = len * i.size := by rw [List.length_take, List.length_drop]; omega
                      have t2 : (cc.toList.take ((G.μ o).2.1 + off + len * i.size)).length = (G.μ o).2.1 + off + len * i.size := by rw [List.length_take, Array.length_toList]; omega
                      rw [← hc']
                      simp only [List.getElem?_toArray]
                      rw [List.append_assoc]
                      rcases Nat.lt_or_ge q (len * i.size) with hlt | hge
                      · rw [List.getElem?_append_left (by rw [t1]; exact hlt), List.getElem?_take, if_pos hlt, List.getElem?_drop] at hq
                        rw [List.getElem?_append_left (by rw [t2]; omega), List.getElem?_take, if_pos (by omega)]
                        have := hcell _ _ hq
                        rw [show (G.μ o).2.1 + (off + q) = (G.μ o).2.1 + off + q by omega] at this
                        simpa using this
                      · rw [List.getElem?_append_right (by rw [t1]; exact hge), t1] at hq
                        have hql := (List.getElem?_eq_some_iff.1 hq).1
                        rw [List.getElem?_append_right (by rw [t2]; omega), t2, show (G.μ o).2.1 + off + q - ((G.μ o).2.1 + off + len * i.size) = q - len * i.size by omega, List.getElem?_append_left hql]
                        exact ⟨hq, hsrc.one _ (List.mem_of_getElem? hq)⟩
                  · exact OR.evo hE (hr.lt_n hj') (setRow_other _ _ _ _ fun he => hjo (hr.inj _ _ _ _ hj' ho he)) (hr.obj _ _ hj')
                · intro j j' y y' hj hj' he
                  rcases hget j y hj with ⟨rfl, rfl⟩ | ⟨hjl, hjo, hj1⟩ <;> rcases hget j' y' hj' with ⟨rfl, rfl⟩ | ⟨hjl', hjo', hj1'⟩
                  · rfl
                  · rw [hμn, hμo _ hjl'] at he
                    exact absurd (hr.inj _ _ _ _ ho hj1' he).symm hjo'
                  · rw [hμn, hμo _ hjl] at he
                    exact absurd (hr.inj _ _ _ _ hj1 ho he) hjo
                  · rw [hμo _ hjl, hμo _ hjl'] at he
                    exact hr.inj _ _ _ _ hj1 hj1' he
                · intro j y hj
                  rcases hget j y hj with ⟨rfl, rfl⟩ | ⟨hjl, hjo, hj1⟩
                  · rw [hμn]; exact hr.live _ _ ho
                  · rw [hμo _ hjl]; exact hr.live _ _ hj1
                · intro b hb'
                  simp only [G1] at hb' ⊢
                  rw [size_setRow]
                  exact hr.lt b hb'
            · have := append_grows hrk (ty := ty) hu hi hz hs0 hb0 hzs hov hnv (a := some a) (sCap := c) (fun ad he j u hj => by injection he with he; subst he; exact hmem j u hj) (by simp) hol hsrc (by omega) hbd
              rw [hlen] at this
              exact this
          · cases h
    · cases h
  · -- memory that stays
    rename_i cs len esz
    split at h
    · rename_i hn
      subst hn
      injection h with h
      injection h with h1 h2
      subst h1; subst h2
      have := Src.zero hsrc
      subst this
      have hs' := hs
      simp only [VR] at hs'
      obtain ⟨ad, c, vs, rfl, hlc, hh, hvs⟩ := hs'
      exact ⟨G, _, run_append_zero hu hi hsrc hlc, Evo.refl G, hs, hr⟩
    · cases h
  · -- empty, without room
    have hs' := hs
    simp only [VR] at hs
    obtain ⟨ad, rfl⟩ := hs
    split at h
    · rename_i hn
      subst hn
      injection h with h
      injection h with h1 h2
      subst h1; subst h2
      have := Src.zero hsrc
      subst this
      exact ⟨G, _, run_append_zero hu hi hsrc (Nat.le_refl _), Evo.refl G, hs', hr⟩
    · rename_i hn
      split at h
      · rename_i hbd
        injection h with h
        injection h with h1 h2
        subst h1; subst h2
        have := append_grows hr (ty := ty) hu hi hz hs0 hb0 hzs (a := some ad) (sLen := 0) (sCap := 0) (olds := []) (as := []) .nil hnv (by simp) (by simp) (by simp) hsrc (by omega) (by simpa using hbd)
        simpa using this
      · cases h
  · cases h
theorem aappend_ok {H H' : AH} (hr : HR G H) {ts tx ty : TypeId} {s x r : AV} {vs vx : Value} (hs : VR G s vs) (hx : VR G x vx) (h : aappend P H ts tx s x = some (r, H')) :
    ∃ (G' : Cfg) (u : Value), (Builtin.append_ #[ts, tx] ty #[vs, vx]).run P G.w = .ok u G'.w ∧ Evo G G' ∧ VR G' r u ∧ HR G' H' := by
  unfold aappend at h
  split at h
  · rename_i e e' hu hux
    split at h
    · cases h
    rename_i i hi
    split at h
    · cases h
    rename_i z hz
    split at h
    · cases h
    rename_i news n happ
    split at h
    · cases h
    rename_i hc
    rw [not_or, not_or] at hc
    exact aapp1_ok hr hs hx hu (.inl ⟨e', hux⟩) hi hz happ hc.1 hc.2.1 (Decidable.byContradiction hc.2.2) h
  · rename_i e hu hux
    split at h
    · cases h
    rename_i i hi
    split at h
    · cases h
    rename_i z hz
    split at h
    · cases h
    rename_i news n happ
    split at h
    · cases h
    rename_i hc
    rw [not_or, not_or] at hc
    exact aapp1_ok hr hs hx hu (.inr hux) hi hz happ hc.1 hc.2.1 (Decidable.byContradiction hc.2.2) h
  · cases h
end
end Go.Proofs.Ythgkepaadkmhoaa.Av
