/- The abstract machine's maps (keys: integers, texts, truth values), clear, cap. -/
import Derived.Test.YthgkepaadkmhoaaAvU
import Derived.MapKept
set_option linter.unusedVariables false
set_option linter.unusedSimpArgs false
namespace Go.Proofs.Ythgkepaadkmhoaa.Av
open Go Go.RowKit

section
variable {P : Program} {G : Cfg}

def keyB : TypeDesc → Value → Bool
  | .bool, .bool _ => true
  | .int k, .int k' _ => decide (k' = k)
  | .string, .string _ => true
  | _, _ => false
theorem keyB_ok {d : TypeDesc} {k : Value} (h : keyB d k = true) : MapKept.IsKey d k := by
  unfold keyB at h
  split at h <;> simp_all [MapKept.IsKey]
/-- Where a key is: its place and what lies there. -/
def findA (d : TypeDesc) (k : Value) : List (Value × AV) → Nat → Option (Option (Nat × AV))
  | [], _ => some none
  | (k', a) :: es, i => match Instr.sameNow d k k' with
    | some true => some (some (i, a))
    | some false => findA d k es (i + 1)
    | none => none
theorem sameNow_eq {d : TypeDesc} {k k' : Value} (hk : MapKept.IsKey d k) (h : Instr.sameNow d k k' = some true) : k' = k := by
  unfold Instr.sameNow at h
  split at h <;> simp_all [MapKept.IsKey, MapKept.bytes_beq]
theorem findA_ok {d : TypeDesc} {k : Value} (hk : MapKept.IsKey d k) : ∀ {es : List (Value × AV)} {ents : List MapEntry} {i : Nat} {r : Option (Nat × AV)}, VRs G (es.map Prod.snd) (ents.map (·.val)) → ents.map (·.key) = es.map Prod.fst → findA d k es i = some r →
    match r with
    | none => Instr.findNow d k ents i = some none
    | some (j, a) => ∃ e, i ≤ j ∧ ents[j - i]? = some e ∧ Instr.findNow d k ents i = some (some (j, e.val)) ∧ VR G a e.val ∧ e.key = k
  | [], ents, i, r, hv, hks, h => by
    simp only [findA] at h
    injection h with h
    subst h
    cases ents with
    | nil => rfl
    | cons e l => simp at hks
  | (k', a) :: es, ents, i, r, hv, hks, h => by
    cases ents with
    | nil => simp at hks
    | cons e l =>
      simp only [List.map_cons, List.cons.injEq] at hks
      obtain ⟨hk1, hk2⟩ := hks
      simp only [List.map_cons, VRs] at hv
      obtain ⟨v, rr, he, hx, hrest⟩ := hv
      simp only [List.cons.injEq] at he
      obtain ⟨he1, he2⟩ := he
      subst he1; subst he2
      simp only [findA] at h
      split at h
      · rename_i hs
        injection h with h
        subst h
        refine ⟨e, Nat.le_refl _, by simp, ?_, hx, by rw [hk1]; exact sameNow_eq hk hs⟩
        unfold Instr.findNow
        rw [hk1, hs]
      · rename_i hs
        have ih := findA_ok hk hrest hk2 h
        have hstep : Instr.findNow d k (e :: l) i = Instr.findNow d k l (i + 1) := by
          conv => lhs; unfold Instr.findNow
          rw [hk1, hs]
        cases r with
        | none => rw [hstep]; exact ih
        | some q =>
          obtain ⟨j, a'⟩ := q
          obtain ⟨e', h1, h2, h3, h4, h5⟩ := ih
          refine ⟨e', by omega, ?_, by rw [hstep]; exact h3, h4, h5⟩
          rw [show j - i = (j - (i + 1)) + 1 by omega]
          simpa using h2
      · cases h
/-- A map's entries have changed. -/
theorem HR.setMap {H : AH} (hr : HR G H) {o : Nat} {es es' : List (Value × AV)} (ho : H[o]? = some (some (.map es))) {ents' : Array MapEntry} (h1 : VRs G (es'.map Prod.snd) (ents'.toList.map (·.val)))
    (h2 : ents'.toList.map (·.key) = es'.map Prod.fst) (h3 : ents'.toList.map (·.born) = List.range es'.length) :
    ∃ G' : Cfg, G'.w = { G.w with heap := G.w.heap.setIfInBounds (G.μ o).1 (.map ents' ents'.size) } ∧ Evo G G' ∧ HR G' (H.set o (some (.map es'))) := by
  obtain ⟨ents, hb, -, -, -⟩ := hr.obj _ _ ho
  have hlt : (G.μ o).1 < G.w.heap.size := (Array.getElem?_eq_some_iff.1 hb).1
  let G' : Cfg := { G with w := { G.w with heap := G.w.heap.setIfInBounds (G.μ o).1 (.map ents' ents'.size) } }
  have hset := MapKept.heap_set (o' := Obj.map ents' ents'.size) hb
  have hE : Evo G G' := ⟨rfl, rfl, rfl, by simp [G'], fun k hk hL => ⟨hset.2 k (fun he => hL (by rw [he]; exact hr.live _ _ ho)), hL⟩, Nat.le_refl _, fun _ _ => rfl, rfl⟩
  refine ⟨G', rfl, hE, hr.update hE rfl rfl ho _ (fun k hk => hset.2 k hk) (by simp [G']) ?_⟩
  exact ⟨ents', hset.1, h1.evo hE, h2, h3⟩

def entriesA (H : AH) : AV → Option (List (Value × AV))
  | .lit (.map none) => some []
  | .mp o => match H[o]? with
    | some (some (.map es)) => some es
    | _ => none
  | _ => none
def alookup (P : Program) (H : AH) (t : TypeId) (x k : AV) (commaOk : Bool) : Option AV :=
  match P.underlying t, entriesA H x, k with
  | some (.map key elem), some es, .lit kv => match P.underlying key with
    | some d => if keyB d kv then match findA d kv es 0 with
        | some (some (_, a)) => some (if commaOk then .tup [a, .lit (.bool true)] else a)
        | some none => match tZero P elem with
          | some z => some (if commaOk then .tup [.ofV z, .lit (.bool false)] else .ofV z)
          | none => none
        | none => none
      else none
    | none => none
  | _, _, _ => none
theorem VRs.two {a b : AV} {u v : Value} (h : VR G a u) (k : VR G b v) : VRs G [a, b] [u, v] := .cons h (.cons k .nil)
theorem alookup_ok {H : AH} (hr : HR G H) {t : TypeId} {x k r : AV} {vx vk : Value} {co : Bool} (hx : VR G x vx) (hk : VR G k vk) (h : alookup P H t x k co = some r) :
    ∃ u, (Instr.lookup t vx vk co).run P G.w = .ok u G.w ∧ VR G r u := by
  unfold alookup at h
  split at h
  · rename_i key elem es kv hu hes
    split at h
    · rename_i d hd
      split at h
      · rename_i hkb
        simp only [VR] at hk
        have hik := keyB_ok hkb
        rw [← hk] at hik h
        have hents : ∃ ents : Array MapEntry, ((vx = .map none ∧ ents = #[]) ∨ ∃ b cl, vx = .map (some b) ∧ G.w.heap[b]? = some (.map ents cl)) ∧ VRs G (es.map Prod.snd) (ents.toList.map (·.val)) ∧ ents.toList.map (·.key) = es.map Prod.fst := by
          unfold entriesA at hes
          split at hes
          · injection hes with hes
            subst hes
            simp only [VR] at hx
            exact ⟨#[], .inl ⟨hx, rfl⟩, .nil, rfl⟩
          · split at hes
            · rename_i o es' ho
              injection hes with hes
              subst hes
              simp only [VR] at hx
              obtain ⟨ents, hb, h1, h2, h3⟩ := hr.obj _ _ ho
              exact ⟨ents, .inr ⟨_, _, hx.2, hb⟩, h1, h2⟩
            · cases hes
          · cases hes
        obtain ⟨ents, hrun, h1, h2⟩ := hents
        have hfind : ∀ rr, findA d vk es 0 = some rr → _ := fun rr hrr => findA_ok (r := rr) hik h1 h2 hrr
        split at h
        · rename_i j a hf
          injection h with h
          subst h
          obtain ⟨e, -, -, h4, h5, -⟩ := hfind _ hf
          refine ⟨if co then .tuple #[e.val, .bool true] else e.val, ?_, ?_⟩
          · rcases hrun with ⟨rfl, rfl⟩ | ⟨b, cl, rfl, hb⟩
            · simp [Instr.findNow] at h4
            · simp [Instr.lookup, run_underlying hu, MapKept.run_getObj_map hb, MapKept.run_checkKey hd hik, MapKept.run_findKey hd h4]
          · cases co
            · simpa using h5
            · simp only [if_true, VR]
              exact ⟨_, rfl, .two h5 (by simp only [VR])⟩
        · rename_i hf
          have h4 := hfind _ hf
          simp only at h4
          split at h
          · rename_i z hz
            injection h with h
            subst h
            refine ⟨if co then .tuple #[z, .bool false] else z, ?_, ?_⟩
            · rcases hrun with ⟨rfl, rfl⟩ | ⟨b, cl, rfl, hb⟩
              · have h5 : Instr.findNow d vk [] 0 = some none := rfl
                simp [Instr.lookup, run_underlying hu, MapKept.run_checkKey hd hik, MapKept.run_findKey hd h5, run_zeroValue hz]
              · simp [Instr.lookup, run_underlying hu, MapKept.run_getObj_map hb, MapKept.run_checkKey hd hik, MapKept.run_findKey hd h4, run_zeroValue hz]
            · cases co
              · simpa using VR.ofV G z
              · simp only [if_true, VR]
                exact ⟨_, rfl, .two (VR.ofV G z) (by simp only [VR])⟩
          · cases h
        · cases h
      · cases h
    · cases h
  · cases h
theorem range_push (n : Nat) : List.range (n + 1) = List.range n ++ [n] := List.range_succ
theorem entries_modify {ents : Array MapEntry} {es : List (Value × AV)} {j : Nat} {e : MapEntry} {k v : Value} {a : AV} (h1 : VRs G (es.map Prod.snd) (ents.toList.map (·.val))) (h2 : ents.toList.map (·.key) = es.map Prod.fst)
    (h3 : ents.toList.map (·.born) = List.range es.length) (he : ents[j]? = some e) (hk : e.key = k) (hv : VR G a v) (f : MapEntry → MapEntry) (hf : ∀ e' : MapEntry, ents[j]? = some e' → f e' = { e' with key := k, val := v }) :
    VRs G ((es.set j (k, a)).map Prod.snd) ((ents.modify j f).toList.map (·.val)) ∧ (ents.modify j f).toList.map (·.key) = (es.set j (k, a)).map Prod.fst ∧
    (ents.modify j f).toList.map (·.born) = List.range (es.set j (k, a)).length := by
  have hj : j < ents.size := (Array.getElem?_eq_some_iff.1 he).1
  have hm : (ents.modify j f).toList = ents.toList.set j { e with key := k, val := v } := by
    apply List.ext_getElem?
    intro i
    rw [Array.getElem?_toList, Array.getElem?_modify]
    by_cases hij : j = i
    · subst hij
      rw [if_pos rfl, he, List.getElem?_set_self (by simpa using hj)]
      simp [hf e he]
    · rw [if_neg hij, List.getElem?_set_ne hij, Array.getElem?_toList]
  rw [hm]
  simp only [List.map_set]
  refine ⟨h1.set j hv, by rw [h2], ?_⟩
  rw [h3, List.length_set]
  apply List.ext_getElem?
  intro i
  by_cases hij : j = i
  · subst hij
    have hl : j < es.length := by
      have := congrArg List.length h2
      simp at this; omega
    rw [List.getElem?_set_self (by simpa using hl)]
    have : (ents.toList.map (·.born))[j]? = some e.born := by rw [List.getElem?_map, Array.getElem?_toList, he]; rfl
    rw [h3] at this
    rw [this]
  · rw [List.getElem?_set_ne hij]
theorem entries_push {ents : Array MapEntry} {es : List (Value × AV)} {k v : Value} {a : AV} (h1 : VRs G (es.map Prod.snd) (ents.toList.map (·.val))) (h2 : ents.toList.map (·.key) = es.map Prod.fst)
    (h3 : ents.toList.map (·.born) = List.range es.length) (hv : VR G a v) :
    VRs G ((es ++ [(k, a)]).map Prod.snd) ((ents.push { key := k, val := v, born := ents.size }).toList.map (·.val)) ∧ (ents.push { key := k, val := v, born := ents.size }).toList.map (·.key) = (es ++ [(k, a)]).map Prod.fst ∧
    (ents.push { key := k, val := v, born := ents.size }).toList.map (·.born) = List.range (es ++ [(k, a)]).length := by
  have hl : es.length = ents.size := by
    have := congrArg List.length h2
    simp at this; omega
  simp only [Array.toList_push, List.map_append, List.map_cons, List.map_nil, List.length_append, List.length_cons, List.length_nil]
  refine ⟨h1.append (.cons hv .nil), by rw [h2], ?_⟩
  rw [h3, range_push, hl]
def amapUpdate (P : Program) (H : AH) (t : TypeId) (m k x : AV) : Option AH :=
  match P.underlying t, m, k with
  | some (.map key _), .mp o, .lit kv => match P.underlying key, H[o]? with
    | some d, some (some (.map es)) => if keyB d kv then match findA d kv es 0 with
        | some (some (j, _)) => some (H.set o (some (.map (es.set j (kv, x)))))
        | some none => some (H.set o (some (.map (es ++ [(kv, x)]))))
        | none => none
      else none
    | _, _ => none
  | _, _, _ => none
theorem amapUpdate_ok {H H' : AH} (hr : HR G H) {t : TypeId} {m k x : AV} {vm vk vx : Value} (hm : VR G m vm) (hk : VR G k vk) (hx : VR G x vx) (h : amapUpdate P H t m k x = some H') :
    ∃ G' : Cfg, (Instr.mapUpdate t vm vk vx).run P G.w = .ok () G'.w ∧ Evo G G' ∧ HR G' H' := by
  unfold amapUpdate at h
  split at h
  · rename_i key elem o kv hu
    split at h
    · rename_i d es hd ho
      split at h
      · rename_i hkb
        simp only [VR] at hk hm
        subst hk
        obtain ⟨hon, rfl⟩ := hm
        have hik := keyB_ok hkb
        obtain ⟨ents, hb, h1, h2, h3⟩ := hr.obj _ _ ho
        split at h
        · rename_i j a hf
          injection h with h
          subst h
          obtain ⟨e, -, he, h4, -, hek⟩ := findA_ok hik h1 h2 hf
          simp only [Nat.sub_zero, Array.getElem?_toList] at he
          obtain ⟨a1, a2, a3⟩ := entries_modify h1 h2 h3 he hek hx (fun e' => { e' with key := vk, val := vx }) (fun _ _ => rfl)
          have hsz : (ents.modify j fun e' => { e' with key := vk, val := vx }).size = ents.size := by simp
          obtain ⟨G', hw, hE, hH⟩ := hr.setMap ho a1 a2 a3
          rw [hsz] at hw
          refine ⟨G', ?_, hE, hH⟩
          rw [hw]
          simp [Instr.mapUpdate, run_underlying hu, MapKept.run_getObj_map hb, MapKept.run_checkKey hd hik, MapKept.run_findKey hd h4, he, hek, MapKept.run_keyThatStays hik, MapKept.run_setObj_map _ hb]
        · rename_i hf
          injection h with h
          subst h
          have h4 := findA_ok hik h1 h2 hf
          simp only at h4
          obtain ⟨a1, a2, a3⟩ := entries_push (k := vk) h1 h2 h3 hx
          obtain ⟨G', hw, hE, hH⟩ := hr.setMap ho a1 a2 a3
          refine ⟨G', ?_, hE, hH⟩
          rw [hw]
          simp [Instr.mapUpdate, run_underlying hu, MapKept.run_getObj_map hb, MapKept.run_checkKey hd hik, MapKept.run_findKey hd h4, MapKept.run_setObj_map _ hb]
        · cases h
      · cases h
    · cases h
  · cases h
def amapEntry (P : Program) (H : AH) (t : TypeId) (m k : AV) : Option (AV × AH) :=
  match P.underlying t, m, k with
  | some (.map key elem), .mp o, .lit kv => match P.underlying key, H[o]? with
    | some d, some (some (.map es)) => if keyB d kv then match findA d kv es 0 with
        | some (some (j, a)) => some (.tup [a, .lit (goInt j)], H)
        | some none => match tZero P elem with
          | some z => some (.tup [.ofV z, .lit (goInt es.length)], H.set o (some (.map (es ++ [(kv, .ofV z)]))))
          | none => none
        | none => none
      else none
    | _, _ => none
  | _, _, _ => none
theorem born_at {ents : Array MapEntry} {es : List (Value × AV)} (h3 : ents.toList.map (·.born) = List.range es.length) {j : Nat} {e : MapEntry} (he : ents[j]? = some e) : e.born = j := by
  have : (ents.toList.map (·.born))[j]? = some e.born := by rw [List.getElem?_map, Array.getElem?_toList, he]; rfl
  rw [h3] at this
  have h1 := (List.getElem?_eq_some_iff.1 this).1
  rw [List.getElem?_range (by simpa using h1)] at this
  injection this with this
  exact this.symm
theorem amapEntry_ok {H H' : AH} (hr : HR G H) {t : TypeId} {m k r : AV} {vm vk : Value} (hm : VR G m vm) (hk : VR G k vk) (h : amapEntry P H t m k = some (r, H')) :
    ∃ (G' : Cfg) (u : Value), (Instr.mapEntry t vm vk).run P G.w = .ok u G'.w ∧ Evo G G' ∧ VR G' r u ∧ HR G' H' := by
  unfold amapEntry at h
  split at h
  · rename_i key elem o kv hu
    split at h
    · rename_i d es hd ho
      split at h
      · rename_i hkb
        simp only [VR] at hk hm
        subst hk
        obtain ⟨hon, rfl⟩ := hm
        have hik := keyB_ok hkb
        obtain ⟨ents, hb, h1, h2, h3⟩ := hr.obj _ _ ho
        split at h
        · rename_i j a hf
          injection h with h
          injection h with e1 e2
          subst e1; subst e2
          obtain ⟨e, -, he, h4, h5, hek⟩ := findA_ok hik h1 h2 hf
          simp only [Nat.sub_zero, Array.getElem?_toList] at he
          have hmod : (ents.modify j fun e' => { e' with key := vk }) = ents := by
            apply Array.ext_getElem?
            intro i
            rw [Array.getElem?_modify]
            split
            · rename_i hji
              subst hji
              rw [he]
              simp [← hek]
            · rfl
          have hset : ({ G.w with heap := G.w.heap.setIfInBounds (G.μ o).1 (.map ents ents.size) } : World) = G.w := by
            have : G.w.heap.setIfInBounds (G.μ o).1 (.map ents ents.size) = G.w.heap := by
              apply Array.ext_getElem?
              intro i
              by_cases hi : i = (G.μ o).1
              · subst hi
                rw [(MapKept.heap_set hb).1, hb]
              · exact (MapKept.heap_set hb).2 i hi
            rw [this]
          refine ⟨G, .tuple #[e.val, goInt j], ?_, Evo.refl G, ?_, hr⟩
          · simp [Instr.mapEntry, run_underlying hu, MapKept.run_getObj_map hb, MapKept.run_checkKey hd hik, MapKept.run_findKey hd h4, he, hek, MapKept.run_keyThatStays hik, MapKept.run_setObj_map _ hb, hmod, hset, born_at h3 he]
          · simp only [VR]
            exact ⟨_, rfl, .two h5 (by simp only [VR])⟩
        · rename_i hf
          split at h
          · rename_i z hz
            injection h with h
            injection h with e1 e2
            subst e1; subst e2
            have h4 := findA_ok hik h1 h2 hf
            simp only at h4
            obtain ⟨a1, a2, a3⟩ := entries_push (k := vk) h1 h2 h3 (VR.ofV G z)
            obtain ⟨G', hw, hE, hH⟩ := hr.setMap ho a1 a2 a3
            have hl : es.length = ents.size := by
              have := congrArg List.length h2
              simp at this; omega
            refine ⟨G', .tuple #[z, goInt ents.size], ?_, hE, ?_, hH⟩
            · rw [hw]
              simp [Instr.mapEntry, run_underlying hu, MapKept.run_getObj_map hb, MapKept.run_checkKey hd hik, MapKept.run_findKey hd h4, run_zeroValue hz, MapKept.run_setObj_map _ hb]
            · simp only [VR]
              rw [hl]
              exact ⟨_, rfl, .two (VR.ofV _ z) (by simp only [VR])⟩
          · cases h
        · cases h
      · cases h
    · cases h
  · cases h
def aentryStore (H : AH) (m s x : AV) : Option AH :=
  match m, s with
  | .mp o, .lit (.int _ n) => match H[o]? with
    | some (some (.map es)) => match es[n.toNat]? with
      | some (k, _) => if 0 ≤ n then some (H.set o (some (.map (es.set n.toNat (k, x))))) else none
      | none => none
    | _ => none
  | _, _ => none
theorem aentryStore_ok {H H' : AH} (hr : HR G H) {t : TypeId} {m s x : AV} {vm vs vx : Value} (hm : VR G m vm) (hs : VR G s vs) (hx : VR G x vx) (h : aentryStore H m s x = some H') :
    ∃ G' : Cfg, (Instr.entryStore t vm vs vx).run P G.w = .ok () G'.w ∧ Evo G G' ∧ HR G' H' := by
  unfold aentryStore at h
  split at h
  · rename_i o ik n
    split at h
    · rename_i es ho
      split at h
      · rename_i k a hes
        split at h
        · rename_i hn
          injection h with h
          subst h
          simp only [VR] at hs hm
          subst hs
          obtain ⟨hon, rfl⟩ := hm
          obtain ⟨ents, hb, h1, h2, h3⟩ := hr.obj _ _ ho
          have hl : es.length = ents.size := by
            have := congrArg List.length h2
            simp at this; omega
          have hj : n.toNat < ents.size := by rw [← hl]; exact (List.getElem?_eq_some_iff.1 hes).1
          have he : ents[n.toNat]? = some ents[n.toNat] := Array.getElem?_eq_getElem hj
          have hek : ents[n.toNat].key = k := by
            have e1 : (ents.toList.map (·.key))[n.toNat]? = some ents[n.toNat].key := by rw [List.getElem?_map, Array.getElem?_toList, he]; rfl
            rw [h2, List.getElem?_map, hes] at e1
            simpa using e1.symm
          obtain ⟨a1, a2, a3⟩ := entries_modify (k := k) h1 h2 h3 he hek hx (fun e' => { e' with val := vx }) (fun e' he' => by
            rw [he] at he'; injection he' with he'; rw [← he', ← hek])
          have hsz : (ents.modify n.toNat fun e' => { e' with val := vx }).size = ents.size := by simp
          obtain ⟨G', hw, hE, hH⟩ := hr.setMap ho a1 a2 a3
          rw [hsz] at hw
          refine ⟨G', ?_, hE, hH⟩
          have hfi : ents.findIdx? (fun e => decide ((e.born : Int) = n)) = some n.toNat := by
            rw [Array.findIdx?_eq_some_iff_getElem]
            refine ⟨hj, ?_, fun i hi => ?_⟩
            · have := born_at h3 he
              simp only [decide_eq_true_eq, this]; omega
            · have := born_at h3 (Array.getElem?_eq_getElem (show i < ents.size by omega))
              simp only [decide_eq_true_eq, this]; omega
          have hfi' : ents.findIdx? (fun e => (e.born : Int) == n) = some n.toNat := by
            rw [← hfi]; congr 1
          rw [hw]
          simp [Instr.entryStore, MapKept.run_getObj_map hb, asInt, asIntOf, hfi', hfi, MapKept.run_setObj_map _ hb]
        · cases h
      · cases h
    · cases h
  · cases h
/-- clear of a slice that lies wholly in what is told. -/
def aclear (P : Program) (H : AH) (t : TypeId) (x : AV) : Option AH :=
  match P.underlying t, x with
  | some (.slice _), .lit (.slice none _ _) => some H
  | some (.slice e), .sl o off len esz _ => match P.info? e, H[o]? with
    | some i, some (some (.cells cs)) => match i.zero with
      | some z => if z.cells.size = esz ∧ esz ≠ 0 ∧ allOne z = true ∧ off + len * esz ≤ cs.length then
          some (if len = 0 then H else H.set o (some (.cells (splice cs off (zrow (z.cells.toList.map .lit) len))))) else none
      | none => none
    | _, _ => none
  | _, _ => none
theorem aclear_ok {H H' : AH} (hr : HR G H) {t ty : TypeId} {x : AV} {vx : Value} (hx : VR G x vx) (h : aclear P H t x = some H') :
    ∃ G' : Cfg, (Builtin.clear_ #[t] ty #[vx]).run P G.w = .ok (.tuple #[]) G'.w ∧ Evo G G' ∧ HR G' H' := by
  unfold aclear at h
  split at h
  · rename_i hu
    injection h with h
    subst h
    simp only [VR] at hx
    subst hx
    exact ⟨G, by simp [Builtin.clear_, run_underlying hu], Evo.refl G, hr⟩
  · rename_i e o off len esz cap hu
    split at h
    · rename_i i cs hi ho
      split at h
      · rename_i z hz
        split at h
        · rename_i hb
          obtain ⟨rfl, h0, h1, h2⟩ := hb
          injection h with h
          subst h
          simp only [VR] at hx
          obtain ⟨hon, a, c, rfl, hlc, hat⟩ := hx
          split
          · rename_i hl
            subst hl
            exact ⟨G, by simp [Builtin.clear_, run_underlying hu], Evo.refl G, hr⟩
          · rename_i hl
            have hv := zrow_made (G := G) (z := z.cells) len h0
            have hlen : (zrow (z.cells.toList.map .lit) len).length = len * z.cells.size := by rw [zrow_length]; simp
            obtain ⟨G', q, hE, hn, hμ, hH⟩ := hr.store (P := P) ho (off := off) (xs := zrow (z.cells.toList.map .lit) len) (by omega) hv (made_one _ (fun u hu => List.all_eq_true.1 h1 u hu) h0)
            obtain ⟨rfl, _⟩ := slat_exact hat (by omega)
            refine ⟨G', ?_, hE, hH⟩
            have hzi : (P.info? e).bind (·.zero) = some z := by rw [hi]; exact hz
            have hzc : Builtin.zeroCells z.cells len = madeCells z.cells (len * z.cells.size) := rfl
            obtain ⟨len', rfl⟩ : ∃ l, len = l + 1 := ⟨len - 1, by omega⟩
            simp [Builtin.clear_, run_underlying hu, run_zeroValue hzi, hzc, q]
        · cases h
      · cases h
    · cases h
  · cases h
def amakeMap (P : Program) (H : AH) (t : TypeId) (l : Option AV) : Option (AV × AH) :=
  match P.underlying t, l with
  | some (.map _ _), none => some (.mp H.length, H ++ [some (.map [])])
  | some (.map _ _), some (.lit (.int _ _)) => some (.mp H.length, H ++ [some (.map [])])
  | _, _ => none
theorem amakeMap_ok {H H' : AH} (hr : HR G H) {t : TypeId} {l : Option AV} {vl : Option Value} {r : AV} (hl : VRo G l vl) (h : amakeMap P H t l = some (r, H')) :
    ∃ (G' : Cfg) (u : Value), (Instr.makeMap t vl).run P G.w = .ok u G'.w ∧ Evo G G' ∧ VR G' r u ∧ HR G' H' := by
  have key : ∀ {vl : Option Value}, (Instr.makeMap t vl).run P G.w = .ok (.map (some G.w.heap.size)) (G.w.alloc (.map #[] 0)) →
      ∃ (G' : Cfg) (u : Value), (Instr.makeMap t vl).run P G.w = .ok u G'.w ∧ Evo G G' ∧ VR G' (.mp H.length) u ∧ HR G' (H ++ [some (.map [])]) := by
    intro vl hrun
    have hμn : (G.new (.map #[] 0) 0).μ H.length = (G.w.heap.size, 0, 0) := by simp [Cfg.new, hr.n]
    refine ⟨G.new (.map #[] 0) 0, _, hrun, Evo.new _ _ _, ?_, hr.new _ _ _ ?_⟩
    · simp only [VR]
      rw [hμn]
      exact ⟨by simp [Cfg.new, hr.n], rfl⟩
    · refine ⟨#[], ?_, .nil, rfl, rfl⟩
      rw [hμn]
      simpa [Cfg.new] using heap_alloc_new G.w (.map #[] 0)
  unfold amakeMap at h
  split at h
  · rename_i hu
    injection h with h
    injection h with e1 e2
    subst e1; subst e2
    cases vl with
    | none => exact key (by simp [Instr.makeMap])
    | some v => simp [VRo] at hl
  · rename_i ik n hu
    injection h with h
    injection h with e1 e2
    subst e1; subst e2
    cases vl with
    | none => simp [VRo] at hl
    | some v =>
      simp only [VRo, VR] at hl
      subst hl
      exact key (by simp [Instr.makeMap, run_underlying hu, asInt, asIntOf])
  · cases h
def acap (P : Program) (t : TypeId) (x : AV) : Option AV :=
  match P.underlying t, x with
  | some (.slice _), .sl _ _ _ _ (.ex k) => some (.lit (goInt k))
  | some (.slice _), .lit (.slice none _ c) => some (.lit (goInt c))
  | some (.slice _), .emp => some (.lit (goInt 0))
  | some (.array n _), _ => some (.lit (goInt n))
  | _, _ => none
theorem acap_ok {t ty : TypeId} {x r : AV} {v : Value} (hx : VR G x v) (h : acap P t x = some r) (w : World) : ∃ u, (Builtin.cap_ #[t] ty #[v]).run P w = .ok u w ∧ VR G r u := by
  unfold acap at h
  split at h
  · rename_i k hu
    injection h with h
    subst h
    simp only [VR] at hx
    obtain ⟨_, a, c, rfl, _, hs⟩ := hx
    simp only [SlAt] at hs
    obtain ⟨rfl, _⟩ := hs
    exact ⟨_, by simp [Builtin.cap_, run_underlying hu]; rfl, by simp only [VR]⟩
  · rename_i c hu
    injection h with h
    subst h
    simp only [VR] at hx
    subst hx
    exact ⟨_, by simp [Builtin.cap_, run_underlying hu]; rfl, by simp only [VR]⟩
  · rename_i hu
    injection h with h
    subst h
    simp only [VR] at hx
    obtain ⟨a, rfl⟩ := hx
    exact ⟨_, by simp [Builtin.cap_, run_underlying hu]; rfl, by simp only [VR]⟩
  · rename_i n e hu
    injection h with h
    subst h
    exact ⟨goInt n, by simp [Builtin.cap_, run_underlying hu], by simp only [VR]⟩
  · cases h
/-- len of a map. -/
def amapLen (P : Program) (H : AH) (t : TypeId) (x : AV) : Option AV :=
  match P.underlying t, x with
  | some (.map _ _), .mp o => match H[o]? with
    | some (some (.map es)) => some (.lit (goInt es.length))
    | _ => none
  | _, _ => none
theorem amapLen_ok {H : AH} (hr : HR G H) {t ty : TypeId} {x r : AV} {v : Value} (hx : VR G x v) (h : amapLen P H t x = some r) : ∃ u, (Builtin.len_ #[t] ty #[v]).run P G.w = .ok u G.w ∧ VR G r u := by
  unfold amapLen at h
  split at h
  · rename_i key elem o hu
    split at h
    · rename_i es ho
      injection h with h
      subst h
      simp only [VR] at hx
      obtain ⟨_, rfl⟩ := hx
      obtain ⟨ents, hb, h1, h2, h3⟩ := hr.obj _ _ ho
      have hl : es.length = ents.size := by
        have := congrArg List.length h2
        simp at this; omega
      exact ⟨goInt ents.size, by simp [Builtin.len_, run_underlying hu, MapKept.run_getObj_map hb], by simp only [VR, hl]⟩
    · cases h
  · cases h
end
end Go.Proofs.Ythgkepaadkmhoaa.Av
