/- The abstract machine's operations, seventh part: copy, clear, len, cap, min, max; a text's bytes. -/
import Derived.Test.YthgkepaadkmhoaaAvT
set_option linter.unusedVariables false
set_option linter.unusedSimpArgs false
namespace Go.Proofs.Ythgkepaadkmhoaa.Av
open Go Go.RowKit

section
variable {P : Program} {G : Cfg}

theorem lenOf_ok {H : AH} (hr : HR G H) {sz : Nat} {x : AV} {v : Value} {cs : List AV} {n : Nat} (hx : VR G x v) (h : appended H sz x = some (cs, n)) (w : World) : (Builtin.lenOf v).run P w = .ok n w := by
  unfold appended at h
  split at h
  · split at h
    · injection h with h
      injection h with h1 h2
      subst h2
      simp only [VR] at hx
      subst hx
      rfl
    · cases h
  · obtain ⟨hl, a, c, vs, rfl, _⟩ := sliceCells_ok hr hx h
    rfl
theorem firstCells_le {H : AH} (hr : HR G H) {sz : Nat} {x : AV} {v : Value} {cs : List AV} {n k : Nat} (hx : VR G x v) (h : appended H sz x = some (cs, n)) (hk : k ≤ n) :
    ∃ vs, VRs G (cs.take (k * sz)) vs ∧ vs.length = k * sz ∧ (Builtin.firstCells sz k v).run P G.w = .ok vs.toArray G.w ∧ ∀ u ∈ vs, u.oneCell' = true := by
  unfold appended at h
  split at h
  · rename_i s
    split at h
    · rename_i hs
      subst hs
      injection h with h
      injection h with h1 h2
      subst h1; subst h2
      simp only [VR] at hx
      subst hx
      refine ⟨(byteCells s).take k, ?_, ?_, ?_, ?_⟩
      · rw [Nat.mul_one]
        refine VRs.take ?_ k
        unfold byteCells
        have := VRs.lits (G := G) (s.data.toList.map fun b => Value.int .u8 b.toNat)
        simpa [List.map_map, Function.comp_def] using this
      · rw [List.length_take, byteCells_length, Nat.mul_one]; omega
      · simp [Builtin.firstCells, byteCells]
        apply Array.ext'
        simp [List.map_take]
      · intro u hu
        have := List.mem_of_mem_take hu
        unfold byteCells at this
        obtain ⟨_, _, rfl⟩ := List.mem_map.1 this
        rfl
    · cases h
  · obtain ⟨hl, a, c, vs, rfl, hv, hnone, hsome⟩ := sliceCells_ok hr hx h
    have hvl : vs.length = n * sz := by rw [← hv.length, hl]
    have hmul : k * sz ≤ n * sz := Nat.mul_le_mul_right _ hk
    refine ⟨vs.take (k * sz), hv.take _, by rw [List.length_take]; omega, ?_, ?_⟩
    · cases a with
      | none =>
        obtain ⟨rfl, _, _⟩ := hnone rfl
        simp [Builtin.firstCells]
      | some ad =>
        exact run_firstCells_some G.w sz k ad n c _ (by rw [List.length_take]; omega) fun j v hj => by
          rw [List.getElem?_take] at hj
          split at hj
          · exact (hsome ad rfl j v hj).1
          · cases hj
    · intro u hu
      cases a with
      | none => obtain ⟨rfl, _, _⟩ := hnone rfl; simp at hu
      | some ad =>
        obtain ⟨j, hj, rfl⟩ := List.mem_iff_getElem.1 (List.mem_of_mem_take hu)
        exact (hsome ad rfl j _ (List.getElem?_eq_getElem hj)).2
/-- Copy: from what is told whole. -/
def acp0 (sz : Nat) (H : AH) (dst src : AV) : Option (AV × AH) := match appended H sz src, dst with
  | some (news, m), .sl o off len esz _ => match H[o]? with
    | some (some (.cells cs)) =>
      if esz = sz ∧ off ≤ cs.length then
        some (.lit (.int .i64 (min m len : Nat)), H.set o (some (.cells (over cs off (news.take (min m len * sz))))))
      else none
    | _ => none
  | some (_, _), .lit (.slice none 0 0) => some (.lit (.int .i64 0), H)
  | _, _ => none
/-- .. from what is told as far as it is copied. -/
def acpT (sz : Nat) (H : AH) (dst src : AV) : Option (AV × AH) := match src, dst with
  | .sl o2 off2 m esz2 _, .sl o off len esz _ => match H[o2]?, H[o]? with
    | some (some (.cells cs2)), some (some (.cells cs)) =>
      if esz2 = sz ∧ esz = sz ∧ off ≤ cs.length ∧ off2 + min m len * sz ≤ cs2.length then
        some (.lit (.int .i64 (min m len : Nat)), H.set o (some (.cells (over cs off ((cs2.drop off2).take (min m len * sz))))))
      else none
    | _, _ => none
  | _, _ => none
def acp (sz : Nat) (H : AH) (dst src : AV) : Option (AV × AH) := match acp0 sz H dst src with
  | some r => some r
  | none => acpT sz H dst src
def acopy (P : Program) (H : AH) (td : TypeId) (dst src : AV) : Option (AV × AH) :=
  match P.underlying td with
  | some (.slice e) => match tSize P e with
    | some sz => acp sz H dst src
    | none => none
  | _ => none
theorem copied_to {H : AH} (hr : HR G H) {o off len esz k : Nat} {cap : Room} {cs xs : List AV} {vd : Value} (hd : VR G (.sl o off len esz cap) vd) (ho : H[o]? = some (some (.cells cs))) (hfit : off ≤ cs.length)
    {us : List Value} (hus : VRs G xs us) (hul : us.length = k * esz) (hk : k ≤ len) (hone : ∀ u ∈ us, u.oneCell' = true) :
    ∃ a c, vd = .slice (some a) len c ∧ ∃ G'' : Cfg, (storeCells a us).run P G.w = .ok () G''.w ∧ Evo G G'' ∧ HR G'' (H.set o (some (.cells (over cs off xs)))) := by
  simp only [VR] at hd
  obtain ⟨hon, a, c, rfl, hlc, hat⟩ := hd
  have hnl : xs.length = k * esz := by rw [hus.length, hul]
  have hmul : k * esz ≤ len * esz := Nat.mul_le_mul_right _ hk
  refine ⟨a, c, rfl, ?_⟩
  by_cases hc : c = 0
  · have hk0 : k = 0 := by omega
    subst hk0
    have hu0 : us = [] := List.eq_nil_of_length_eq_zero (by rw [hul]; simp)
    subst hu0
    have hn0 : xs = [] := List.eq_nil_of_length_eq_zero (by rw [hnl]; simp)
    rw [hn0]
    unfold over
    simp only [List.append_nil, List.length_nil, Nat.add_zero, List.take_append_drop]
    rw [set_same ho]
    exact ⟨G, rfl, Evo.refl G, hr⟩
  · obtain ⟨rfl, hle⟩ := slat_exact hat hc
    have hlc' : len * esz ≤ c * esz := Nat.mul_le_mul_right _ hlc
    obtain ⟨G', q, hE, hn, hμ, hH⟩ := hr.put (P := P) ho (off := off) (xs := xs) hfit (by omega) hus hone
    exact ⟨G', q, hE, hH⟩
theorem acopy_ok {H H' : AH} (hr : HR G H) {td ts ty : TypeId} {dst src r : AV} {vd vs : Value} (hd : VR G dst vd) (hs : VR G src vs) (h : acopy P H td dst src = some (r, H')) :
    ∃ (G' : Cfg) (u : Value), (Builtin.copy_ #[td, ts] ty #[vd, vs]).run P G.w = .ok u G'.w ∧ Evo G G' ∧ VR G' r u ∧ HR G' H' := by
  unfold acopy at h
  split at h
  · rename_i e hu
    split at h
    · rename_i sz hsz
      unfold acp at h
      split at h
      · rename_i r0 h0
        injection h with h
        subst h
        unfold acp0 at h0
        split at h0
        · rename_i news m o off len esz cap happ
          split at h0
          · rename_i cs ho
            split at h0
            · rename_i hb
              obtain ⟨rfl, hfit⟩ := hb
              injection h0 with h0
              injection h0 with h1 h2
              subst h1; subst h2
              obtain ⟨us, hus, hul, hfc, hone⟩ := firstCells_le (P := P) hr hs happ (k := min m len) (Nat.min_le_left _ _)
              have hlen := lenOf_ok (P := P) hr hs happ G.w
              have hmin : Nat.min m len = min m len := rfl
              obtain ⟨a, c, rfl, G'', q'', hE'', hH''⟩ := copied_to (P := P) hr hd ho hfit hus hul (Nat.min_le_right _ _) hone
              refine ⟨G'', .int .i64 ((min m len : Nat) : Int), ?_, hE'', by simp only [VR], hH''⟩
              simp [Builtin.copy_, run_underlying hu, hlen, run_sizeOf hsz, hmin, hfc, q'', goInt]
            · cases h0
          · cases h0
        · rename_i news m happ
          injection h0 with h0
          injection h0 with h1 h2
          subst h1; subst h2
          simp only [VR] at hd
          subst hd
          obtain ⟨us, hus, hul, hfc, hone⟩ := firstCells_le (P := P) hr hs happ (k := 0) (Nat.zero_le _)
          have hlen := lenOf_ok (P := P) hr hs happ G.w
          have hmin : Nat.min m 0 = 0 := Nat.min_zero m
          refine ⟨G, .int .i64 0, ?_, Evo.refl G, by simp only [VR], hr⟩
          simp [Builtin.copy_, run_underlying hu, hlen, run_sizeOf hsz, hmin, hfc, goInt]
        · cases h0
      · unfold acpT at h
        split at h
        · rename_i o2 off2 m esz2 cap2 o off len esz cap hz
          split at h
          · rename_i cs2 cs ho2 ho
            split at h
            · rename_i hb
              obtain ⟨rfl, rfl, hfit, htold⟩ := hb
              injection h with h
              injection h with h1 h2
              subst h1; subst h2
              simp only [VR] at hs
              obtain ⟨hon2, a2, c2, rfl, hlc2, hat2⟩ := hs
              obtain ⟨us, hus, hus2⟩ := slice_mem hr ho2 hat2 (Nat.le_trans (Nat.min_le_left m len) hlc2) htold
              have hul : us.length = min m len * esz := by
                rw [← hus.length, List.length_take, List.length_drop]; omega
              have hone : ∀ u ∈ us, u.oneCell' = true := by
                intro u hu
                obtain ⟨j, hj, rfl⟩ := List.mem_iff_getElem.1 hu
                exact (hus2 j _ (List.getElem?_eq_getElem hj)).2
              have hfc := run_firstCells_some (P := P) G.w esz (min m len) a2 m c2 us hul (fun j v hj => (hus2 j v hj).1)
              have hmin : Nat.min m len = min m len := rfl
              obtain ⟨a, c, rfl, G'', q'', hE'', hH''⟩ := copied_to (P := P) hr hd ho hfit hus hul (Nat.min_le_right _ _) hone
              refine ⟨G'', .int .i64 ((min m len : Nat) : Int), ?_, hE'', by simp only [VR], hH''⟩
              have hlen : (Builtin.lenOf (.slice (some a2) m c2)).run P G.w = .ok m G.w := rfl
              simp [Builtin.copy_, run_underlying hu, hlen, run_sizeOf hsz, hmin, hfc, q'', goInt]
            · cases h
          · cases h
        · cases h
    · cases h
  · cases h
def alen (P : Program) (t : TypeId) (x : AV) : Option AV :=
  match P.underlying t, x with
  | some .string, .lit (.string s) => some (.lit (.int .i64 s.size))
  | some (.slice _), .sl _ _ len _ _ => some (.lit (.int .i64 len))
  | some (.slice _), .imm _ len _ => some (.lit (.int .i64 len))
  | some (.slice _), .lit (.slice none n _) => some (.lit (.int .i64 n))
  | some (.slice _), .emp => some (.lit (.int .i64 0))
  | some (.array n _), _ => some (.lit (.int .i64 n))
  | some (.map _ _), .lit (.map none) => some (.lit (.int .i64 0))
  | _, _ => none
theorem alen_fin {v : Value} {s : Sem Value} {w : World} (h : s.run P w = .ok v w) : ∃ u, s.run P w = .ok u w ∧ VR G (.lit v) u := ⟨v, h, by simp only [VR]⟩
theorem alen_ok {t ty : TypeId} {x r : AV} {v : Value} (hx : VR G x v) (h : alen P t x = some r) (w : World) : ∃ u, (Builtin.len_ #[t] ty #[v]).run P w = .ok u w ∧ VR G r u := by
  unfold alen at h
  split at h <;> first
    | (injection h with h; subst h; simp only [VR] at hx)
    | cases h
  · subst hx; exact alen_fin (by simp [Builtin.len_, underlying, goInt, *])
  · obtain ⟨_, a, c, rfl, _⟩ := hx; exact alen_fin (by simp [Builtin.len_, underlying, goInt, *])
  · obtain ⟨a, c, vs, rfl, _⟩ := hx; exact alen_fin (by simp [Builtin.len_, underlying, goInt, *])
  · subst hx; exact alen_fin (by simp [Builtin.len_, underlying, goInt, *])
  · obtain ⟨a, rfl⟩ := hx; exact alen_fin (by simp [Builtin.len_, underlying, goInt, *])
  · rename_i n e hu
    exact ⟨goInt n, by simp [Builtin.len_, underlying, hu], by simp only [VR, goInt]⟩
  · subst hx; exact alen_fin (by simp [Builtin.len_, underlying, goInt, *])
def amm (f : Int → Int → Int) : List AV → Option AV
  | .lit (.int k a) :: r => go k a r
  | _ => none
where
  go (k : IntKind) (a : Int) : List AV → Option AV
  | [] => some (.lit (.int k a))
  | .lit (.int _ b) :: r => go k (f a b) r
  | _ => none
def imn (a b : Int) : Int := if b < a then b else a
def imx (a b : Int) : Int := if a < b then b else a
theorem amm_min {xs : List AV} {vs : Array Value} {r : AV} {ts : Array TypeId} {ty : TypeId} (hx : VRs G xs vs.toList) (h : amm imn xs = some r) (w : World) : ∃ u, (Builtin.min_ ts ty vs).run P w = .ok u w ∧ VR G r u := by
  obtain ⟨vs⟩ := vs
  have go : ∀ (xs : List AV) (vs : List Value) (k : IntKind) (a : Int), VRs G xs vs → amm.go imn k a xs = some r → ∃ u, (vs.foldlM Builtin.min2 (.int k a)).run P w = .ok u w ∧ VR G r u := by
    intro xs
    induction xs with
    | nil => intro vs k a hx h; simp only [VRs] at hx; subst hx; simp only [amm.go] at h; injection h with h; subst h; exact ⟨_, rfl, by simp only [VR]⟩
    | cons x xs ih =>
      intro vs k a hx h
      simp only [VRs] at hx
      obtain ⟨v, r', rfl, h1, h2⟩ := hx
      unfold amm.go at h
      split at h
      · rename_i he; cases he
      · rename_i b r'' he
        injection he with he1 he2
        subst he1; subst he2
        simp only [VR] at h1
        subst h1
        obtain ⟨u, hu, hr⟩ := ih r' k (imn a b) h2 h
        refine ⟨u, ?_, hr⟩
        simp only [List.foldlM_cons, Sem.run_bind, Builtin.min2, Sem.run_pure, Result.andThen_ok]
        exact hu
      · cases h
  unfold amm at h
  split at h
  · rename_i k a r'
    simp only [VRs] at hx
    obtain ⟨v, vr, he, h1, h2⟩ := hx
    subst he
    simp only [VR] at h1
    subst h1
    exact go _ _ k a h2 h
  · cases h
theorem amm_max {xs : List AV} {vs : Array Value} {r : AV} {ts : Array TypeId} {ty : TypeId} (hx : VRs G xs vs.toList) (h : amm imx xs = some r) (w : World) : ∃ u, (Builtin.max_ ts ty vs).run P w = .ok u w ∧ VR G r u := by
  obtain ⟨vs⟩ := vs
  have go : ∀ (xs : List AV) (vs : List Value) (k : IntKind) (a : Int), VRs G xs vs → amm.go imx k a xs = some r → ∃ u, (vs.foldlM Builtin.max2 (.int k a)).run P w = .ok u w ∧ VR G r u := by
    intro xs
    induction xs with
    | nil => intro vs k a hx h; simp only [VRs] at hx; subst hx; simp only [amm.go] at h; injection h with h; subst h; exact ⟨_, rfl, by simp only [VR]⟩
    | cons x xs ih =>
      intro vs k a hx h
      simp only [VRs] at hx
      obtain ⟨v, r', rfl, h1, h2⟩ := hx
      unfold amm.go at h
      split at h
      · rename_i he; cases he
      · rename_i b r'' he
        injection he with he1 he2
        subst he1; subst he2
        simp only [VR] at h1
        subst h1
        obtain ⟨u, hu, hr⟩ := ih r' k (imx a b) h2 h
        refine ⟨u, ?_, hr⟩
        simp only [List.foldlM_cons, Sem.run_bind, Builtin.max2, Sem.run_pure, Result.andThen_ok]
        exact hu
      · cases h
  unfold amm at h
  split at h
  · rename_i k a r'
    simp only [VRs] at hx
    obtain ⟨v, vr, he, h1, h2⟩ := hx
    subst he
    simp only [VR] at h1
    subst h1
    exact go _ _ k a h2 h
  · cases h
end
end Go.Proofs.Ythgkepaadkmhoaa.Av
