/- The abstract machine's operations, second part: slicing, operators, comparisons, conversions of scalars. -/
import Derived.Test.YthgkepaadkmhoaaAvO
set_option linter.unusedVariables false
set_option linter.unusedSimpArgs false
namespace Go.Proofs.Ythgkepaadkmhoaa.Av
open Go Go.RowKit

section
variable {P : Program} {G : Cfg} {w : World}

/-! ### slicing -/
def abnd : Option AV → Nat → Option Nat
  | none, d => some d
  | some (.lit (.int _ n)), _ => if 0 ≤ n then some n.toNat else none
  | _, _ => none
def VRo (G : Cfg) : Option AV → Option Value → Prop
  | none, none => True
  | some a, some v => VR G a v
  | _, _ => False
theorem abnd_ok {x : Option AV} {v : Option Value} {d l : Nat} (hv : VRo G x v) (h : abnd x d = some l) : (v = none ∧ l = d) ∨ ∃ k, v = some (.int k (l : Int)) := by
  unfold abnd at h
  split at h
  · injection h with h
    cases v with
    | none => exact .inl ⟨rfl, h.symm⟩
    | some _ => exact hv.elim
  · rename_i k n
    split at h
    · rename_i h0
      injection h with h
      cases v with
      | none => exact hv.elim
      | some u =>
        simp only [VRo, VR] at hv
        exact .inr ⟨k, by rw [hv, ← h, Int.toNat_of_nonneg h0]⟩
    · cases h
  · cases h
theorem run_sliceBound {k : IntKind} {n y : Nat} {code : BoundsCode} (h : n ≤ y) : (Instr.sliceBound (.int k (n : Int)) y code).run P w = .ok n w := by
  have : (0 : Int) ≤ n ∧ (n : Int) ≤ y := by omega
  simp [Instr.sliceBound, asIntOf, this]
/-- low, high, max: in bounds (c: the concrete capacity). -/
theorem run_sliceBounds {isSlice : Bool} {len c : Nat} {xl xh xm : Option AV} {vl vh vm : Option Value} {l h m : Nat} (hl : VRo G xl vl) (hh : VRo G xh vh) (hm : VRo G xm vm)
    (el : abnd xl 0 = some l) (eh : abnd xh len = some h) (em : abnd xm c = some m) (hmx : xm = none ∨ xh ≠ none) (h1 : l ≤ h) (h2 : h ≤ m) (h3 : m ≤ c) :
    (Instr.sliceBounds isSlice len c vl vh vm).run P w = .ok (l, h, m) w := by
  rcases abnd_ok hl el with ⟨rfl, rfl⟩ | ⟨kl, rfl⟩ <;> rcases abnd_ok hh eh with ⟨rfl, rfl⟩ | ⟨kh, rfl⟩ <;> rcases abnd_ok hm em with ⟨rfl, rfl⟩ | ⟨km, rfl⟩ <;>
    first
    | (simp [Instr.sliceBounds, run_sliceBound h3, run_sliceBound h2, run_sliceBound h1]; done)
    | (rcases hmx with rfl | hmx
       · exact hm.elim
       · cases xh with
         | none => exact absurd rfl hmx
         | some _ => exact hh.elim)

def Room.cut (len l : Nat) : Room → Room
  | .ex k => .ex (k - l)
  | .ge k => .ge (max len k - l)
def aslice (P : Program) (H : AH) (t : TypeId) (x : AV) (lo hi mx : Option AV) : Option AV :=
  match P.underlying t with
  | some .string => match x, mx with
    | .lit (.string s), none => match abnd lo 0, abnd hi s.size with
      | some l, some h => if l ≤ h ∧ h ≤ s.size then some (.lit (.string (s.extract l h))) else none
      | _, _ => none
    | _, _ => none
  | some (.slice e) => match tSize P e, x with
    | some sz, .sl o off len esz cap => if sz ≠ esz then none else
      match abnd lo 0, abnd hi len, mx with
      | some l, some h, none => if l ≤ h ∧ h ≤ max len cap.least then some (.sl o (off + l * esz) (h - l) esz (cap.cut len l)) else none
      | some l, some h, some m => match abnd (some m) 0 with
        | some m => if l ≤ h ∧ h ≤ m ∧ m ≤ max len cap.least ∧ hi.isSome then some (.sl o (off + l * esz) (h - l) esz (.ex (m - l))) else none
        | none => none
      | _, _, _ => none
    | some sz, .imm cs len esz => match abnd lo 0, abnd hi len, mx with
      | some l, some h, none => if l ≤ h ∧ h ≤ len then some (.imm ((cs.drop (l * sz)).take ((h - l) * sz)) (h - l) esz) else none
      | some l, some h, some m => match abnd (some m) 0 with
        | some m => if l ≤ h ∧ h ≤ m ∧ m ≤ len ∧ hi.isSome then some (if m = l then .emp else .imm ((cs.drop (l * sz)).take ((h - l) * sz)) (h - l) esz) else none
        | none => none
      | _, _, _ => none
    | some _, .emp => match abnd lo 0, abnd hi 0, mx with
      | some 0, some 0, none => some .emp
      | _, _, _ => none
    | some _, .lit (.slice none 0 0) => match abnd lo 0, abnd hi 0, mx with
      | some 0, some 0, none => some (.lit (.slice none 0 0))
      | _, _, _ => none
    | _, _ => none
  | some (.array n e) => match tSize P e, mx with
    | some sz, none => match abnd lo 0, abnd hi n, x with
      | some l, some h, .ptr o off => match H[o]? with
        | some (some (.cells cs)) => if l ≤ h ∧ h ≤ n ∧ off + n * sz ≤ cs.length then some (.sl o (off + l * sz) (h - l) sz (.ex (n - l))) else none
        | _ => none
      | some l, some h, .ip cs => if l ≤ h ∧ h ≤ n then some (.imm ((cs.drop (l * sz)).take ((h - l) * sz)) (h - l) sz) else none
      | _, _, _ => none
    | _, _ => none
  | _ => none

theorem Has.nil (G : Cfg) (ad : Addr) : Has G ad [] := .inl rfl
theorem cut_imm {ad : Addr} {vs : List Value} {cs : List AV} (hh : Has G ad vs) (hs : VRs G cs vs) {l h m sz esz c : Nat} (h1 : l ≤ h) (h2 : h ≤ m) :
    VR G (.imm ((cs.drop (l * sz)).take ((h - l) * sz)) (h - l) esz) (.slice (some (if m = l then ad else ad.add (l * sz))) (h - l) (m - l)) := by
  simp only [VR]
  refine ⟨_, _, (vs.drop (l * sz)).take ((h - l) * sz), rfl, by omega, ?_, (hs.drop _).take _⟩
  split
  · rename_i he
    have : h - l = 0 := by omega
    rw [this]
    simp only [Nat.zero_mul, List.take_zero]
    exact .nil _ _
  · exact (hh.shift _).take _
theorem aslice_ok {H : AH} (hr : HR G H) {t : TypeId} {x r : AV} {lo hi mx : Option AV} {v : Value} {vl vh vm : Option Value} (hv : VR G x v) (hl : VRo G lo vl) (hh : VRo G hi vh) (hm : VRo G mx vm)
    (h : aslice P H t x lo hi mx = some r) : ∃ u, (Instr.sliceAt t v vl vh vm).run P w = .ok u w ∧ VR G r u := by
  unfold aslice at h
  split at h
  · -- a string
    rename_i hu
    split at h
    · rename_i s
      split at h
      · rename_i l hh' el eh
        split at h
        · rename_i hb
          injection h with h
          subst h
          simp only [VR] at hv
          subst hv
          cases vm with
          | some _ => exact hm.elim
          | none =>
            have := run_sliceBounds (P := P) (w := w) (isSlice := false) (xm := none) (vm := none) (c := s.size) (m := s.size) hl hh trivial el eh rfl (.inl rfl) hb.1 hb.2 (Nat.le_refl _)
            exact ⟨.string (s.extract l hh'), by simp [Instr.sliceAt, Instr.slice, run_underlying hu, this], by simp only [VR]⟩
        · cases h
      · cases h
    · cases h
  · -- a slice
    rename_i e hu
    have go : ∀ (a : Option Addr) (len c : Nat) (l h m sz : Nat), tSize P e = some sz → (Instr.sliceBounds true len c vl vh vm).run P w = .ok (l, h, m) w →
        (Instr.sliceAt t (.slice a len c) vl vh vm).run P w = .ok (.slice (if m = l then a else a.map (·.add (l * sz))) (h - l) (m - l)) w := by
      intro a len c l h m sz hsz hb
      simp [Instr.sliceAt, Instr.slice, run_underlying hu, hb, run_sizeOf hsz]
    split at h
    · rename_i sz o off len esz cap hsz
      split at h
      · cases h
      rename_i hse
      have hse : sz = esz := Decidable.byContradiction hse
      subst hse
      simp only [VR] at hv
      obtain ⟨ho, a, c, rfl, hlc, hat⟩ := hv
      have hcap : max len cap.least ≤ c := by
        unfold SlAt at hat
        split at hat
        · simp only [Room.least]; omega
        · simp only [Room.least]; omega
      have res : ∀ l h m k, l ≤ h → h ≤ m → m ≤ c → (k = .ex (m - l) ∨ (∃ j j', k = .ge j ∧ cap = .ge j' ∧ j ≤ c - l ∧ m = c)) →
          VR G (.sl o (off + l * sz) (h - l) sz k) (.slice (if m = l then some a else (some a).map (·.add (l * sz))) (h - l) (m - l)) := by
        intro l h m k h1 h2 h3 hk
        simp only [VR]
        have e1 : (if m = l then some a else (some a).map (·.add (l * sz))) = some (if m = l then a else a.add (l * sz)) := by split <;> rfl
        rw [e1]
        refine ⟨ho, _, _, rfl, by omega, ?_⟩
        by_cases hml : m = l
        · subst hml
          rcases hk with rfl | ⟨j, j', rfl, _, hj, rfl⟩
          · simp [SlAt]
          · simp only [SlAt]; exact ⟨by omega, .inl (by omega)⟩
        · rw [if_neg hml]
          have hlt : l < m := by omega
          have hmul : l * sz + (m - l) * sz = m * sz := by rw [← Nat.add_mul]; congr 1; omega
          unfold SlAt at hat
          split at hat
          · rename_i k0
            obtain ⟨rfl, h0 | ⟨rfl, hle⟩⟩ := hat
            · omega
            · have hmc : m * sz ≤ c * sz := Nat.mul_le_mul_right _ h3
              rcases hk with rfl | ⟨_, _, _, hc, _⟩
              · refine ⟨rfl, .inr ⟨by rw [Addr.add_lit, Nat.add_assoc], by omega⟩⟩
              · cases hc
          · rcases hat with ⟨_, h0 | ⟨rfl, hle⟩⟩
            · omega
            · have hmc : m * sz ≤ c * sz := Nat.mul_le_mul_right _ h3
              rcases hk with rfl | ⟨j, j', rfl, _, hj, rfl⟩
              · refine ⟨rfl, .inr ⟨by rw [Addr.add_lit, Nat.add_assoc], by omega⟩⟩
              · exact ⟨hj, .inr ⟨by rw [Addr.add_lit, Nat.add_assoc], by omega⟩⟩
      split at h
      · rename_i l h' el eh
        split at h
        · rename_i hb
          injection h with h
          subst h
          cases vm with
          | some _ => exact hm.elim
          | none =>
            have hbd := run_sliceBounds (P := P) (w := w) (isSlice := true) (xm := none) (vm := none) (c := c) (m := c) hl hh trivial el eh rfl (.inl rfl) hb.1 (by omega) (Nat.le_refl _)
            refine ⟨_, go _ _ _ _ _ _ _ hsz hbd, res _ _ _ _ hb.1 (by omega) (Nat.le_refl _) ?_⟩
            cases cap with
            | ge k => exact .inr ⟨_, _, rfl, rfl, by simp only [Room.least] at hcap; omega, rfl⟩
            | ex k => left; simp only [SlAt] at hat; simp [hat.1, Room.cut]
        · cases h
      · rename_i l h' ma el eh
        split at h
        · rename_i m em
          split at h
          · rename_i hb
            injection h with h
            subst h
            have em' : abnd (some ma) c = some m := by
              revert em
              cases ma <;> simp [abnd]
              rename_i u
              cases u <;> simp [abnd]
            have hbd := run_sliceBounds (P := P) (w := w) (isSlice := true) (c := c) (m := m) hl hh hm el eh em' (.inr (by intro he; rw [he] at hb; simp at hb)) hb.1 hb.2.1 (by omega)
            exact ⟨_, go _ _ _ _ _ _ _ hsz hbd, res _ _ _ _ hb.1 hb.2.1 (by omega) (.inl rfl)⟩
          · cases h
        · cases h
      · cases h
    · rename_i sz cs len esz hsz
      simp only [VR] at hv
      obtain ⟨ad, c, vs, rfl, hlc, hHas, hs⟩ := hv
      split at h
      · rename_i l h' el eh
        split at h
        · rename_i hb
          injection h with h
          subst h
          cases vm with
          | some _ => exact hm.elim
          | none =>
            have hbd := run_sliceBounds (P := P) (w := w) (isSlice := true) (xm := none) (vm := none) (c := c) (m := c) hl hh trivial el eh rfl (.inl rfl) hb.1 (by omega) (Nat.le_refl _)
            refine ⟨_, go _ _ _ _ _ _ _ hsz hbd, ?_⟩
            have := cut_imm (sz := sz) (esz := esz) (c := c) hHas hs hb.1 (m := c) (by omega)
            rw [show (if c = l then some ad else (some ad).map (·.add (l * sz))) = some (if c = l then ad else ad.add (l * sz)) by split <;> rfl]
            exact this
        · cases h
      · rename_i l h' ma el eh
        split at h
        · rename_i m em
          split at h
          · rename_i hb
            injection h with h
            subst h
            have em' : abnd (some ma) c = some m := by
              revert em
              cases ma <;> simp [abnd]
              rename_i u
              cases u <;> simp [abnd]
            have hbd := run_sliceBounds (P := P) (w := w) (isSlice := true) (c := c) (m := m) hl hh hm el eh em' (.inr (by intro he; rw [he] at hb; simp at hb)) hb.1 hb.2.1 (by omega)
            refine ⟨_, go _ _ _ _ _ _ _ hsz hbd, ?_⟩
            have e1 : (if m = l then some ad else (some ad).map (·.add (l * sz))) = some (if m = l then ad else ad.add (l * sz)) := by split <;> rfl
            rw [e1]
            by_cases hml : m = l
            · subst hml
              have : h' - m = 0 := by omega
              rw [this, if_pos rfl, if_pos rfl]
              simp only [VR, Nat.sub_self]
              exact ⟨_, rfl⟩
            · have := cut_imm (sz := sz) (esz := esz) (c := c) hHas hs hb.1 hb.2.1
              rw [if_neg hml] at this ⊢
              rw [if_neg hml]
              exact this
          · cases h
        · cases h
      · cases h
    · rename_i sz hsz
      simp only [VR] at hv
      obtain ⟨ad, rfl⟩ := hv
      split at h
      · rename_i el eh
        injection h with h
        subst h
        cases vm with
        | some _ => exact hm.elim
        | none =>
          have hbd := run_sliceBounds (P := P) (w := w) (isSlice := true) (xm := none) (vm := none) (c := 0) (m := 0) hl hh trivial el eh rfl (.inl rfl) (Nat.le_refl _) (Nat.le_refl _) (Nat.le_refl _)
          exact ⟨_, go _ _ _ _ _ _ _ hsz hbd, by simp only [VR]; simp⟩
      · cases h
    · rename_i sz hsz
      simp only [VR] at hv
      subst hv
      split at h
      · rename_i el eh
        injection h with h
        subst h
        cases vm with
        | some _ => exact hm.elim
        | none =>
          have hbd := run_sliceBounds (P := P) (w := w) (isSlice := true) (xm := none) (vm := none) (c := 0) (m := 0) hl hh trivial el eh rfl (.inl rfl) (Nat.le_refl _) (Nat.le_refl _) (Nat.le_refl _)
          exact ⟨_, go _ _ _ _ _ _ _ hsz hbd, by simp only [VR]; simp⟩
      · cases h
    · cases h
  · -- an array
    rename_i n e hu
    have go : ∀ (a : Addr) (l h m sz : Nat), tSize P e = some sz → (Instr.sliceBounds false n n vl vh vm).run P w = .ok (l, h, m) w →
        (Instr.sliceAt t (.pointer (some a)) vl vh vm).run P w = .ok (.slice (some (if m = l then a else a.add (l * sz))) (h - l) (m - l)) w := by
      intro a l h m sz hsz hb
      simp [Instr.sliceAt, Instr.sureAddr, run_underlying hu, hb, run_sizeOf hsz]
    split at h
    · rename_i sz hsz
      cases vm with
      | some _ => exact hm.elim
      | none =>
        split at h
        · rename_i l h' o off el eh
          split at h
          · rename_i cs ho
            split at h
            · rename_i hb
              injection h with h
              subst h
              simp only [VR] at hv
              obtain ⟨hon, rfl⟩ := hv
              have hbd := run_sliceBounds (P := P) (w := w) (isSlice := false) (xm := none) (vm := none) (c := n) (m := n) hl hh trivial el eh rfl (.inl rfl) hb.1 hb.2.1 (Nat.le_refl _)
              refine ⟨_, go _ _ _ _ _ hsz hbd, ?_⟩
              simp only [VR]
              refine ⟨hon, _, _, rfl, by omega, ?_⟩
              refine ⟨rfl, ?_⟩
              by_cases hnl : n = l
              · left; omega
              · right
                rw [if_neg hnl, Addr.add_lit, Nat.add_assoc]
                refine ⟨rfl, ?_⟩
                obtain ⟨c, e', vs, _, _, h3, _, _⟩ := hr.obj _ _ ho
                have hmul : l * sz + (n - l) * sz = n * sz := by rw [← Nat.add_mul]; congr 1; omega
                omega
            · cases h
          · cases h
        · rename_i l h' cs el eh
          split at h
          · rename_i hb
            injection h with h
            subst h
            simp only [VR] at hv
            obtain ⟨ad, vs, rfl, hHas, hs⟩ := hv
            have hbd := run_sliceBounds (P := P) (w := w) (isSlice := false) (xm := none) (vm := none) (c := n) (m := n) hl hh trivial el eh rfl (.inl rfl) hb.1 hb.2 (Nat.le_refl _)
            exact ⟨_, go _ _ _ _ _ hsz hbd, cut_imm (c := n) hHas hs hb.1 hb.2⟩
          · cases h
        · cases h
    · cases h
  · cases h

end
end Go.Proofs.Ythgkepaadkmhoaa.Av
