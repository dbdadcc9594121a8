/- Moving along formulas: what simp uses. -/
import Derived.Test.YthgkepaadkmhoaaAvG
import Derived.Test.YthgkepaadkmhoaaAvL
set_option linter.unusedVariables false
set_option linter.unusedSimpArgs false
namespace Go.Proofs.Ythgkepaadkmhoaa.Av
open Go Go.RowKit

abbrev I (n : Int) : AV := .lit (.int .i64 n)
abbrev B (b : Bool) : AV := .lit (.bool b)
abbrev U8 (n : Int) : AV := .lit (.int .u8 n)
abbrev S (s : ByteArray) : AV := .lit (.string s)
abbrev nilSl : AV := .lit (.slice none 0 0)

/-! only the head is looked at -/
@[congr] theorem bO_congr {x x' : Option AV} {K : AV → Prop} (h : x = x') : bO x K = bO x' K := by rw [h]
@[congr] theorem bH_congr {x x' : Option (AV × AH)} {K : AV → AH → Prop} (h : x = x') : bH x K = bH x' K := by rw [h]
@[congr] theorem bS_congr {x x' : Option AH} {K : AH → Prop} (h : x = x') : bS x K = bS x' K := by rw [h]
@[congr] theorem bB_congr {v v' : AV} {K : Bool → Prop} (h : v = v') : bB v K = bB v' K := by rw [h]
@[congr] theorem bI_congr {b b' : Bool} {A B : Prop} (h : b = b') : bI b A B = bI b' A B := by rw [h]
@[congr] theorem bG_congr {v v' : AV} {w : Bool} {K : Bool → Prop} (h : v = v') : bG v w K = bG v' w K := by rw [h]
@[congr] theorem bF_congr {w w' : Bool} {v v' : AV} {K : FuncId → List AV → List AV → Prop} (hw : w = w') (h : v = v') : bF w v K = bF w' v' K := by rw [hw, h]
@[congr] theorem bT_congr {b b' : Bool} {A : Prop} (h : b = b') : bT b A = bT b' A := by rw [h]
@[congr] theorem bC_congr {R : AV → AH → Prop} {K : AV → AH → Prop} : bC R K = bC R K := rfl
@[congr] theorem bP_congr {R : AV → Prop} {K : AV → Prop} : bP R K = bP R K := rfl
@[congr] theorem gO_congr {w w' : Bool} {x : Option AV} {K : AV → Prop} (h : w = w') : gO w x K = gO w' x K := by rw [h]
@[congr] theorem gH_congr {w w' : Bool} {x : Option (AV × AH)} {H : AH} {K : AV → AH → Prop} (h : w = w') : gH w x H K = gH w' x H K := by rw [h]
@[congr] theorem gS_congr {w w' : Bool} {x : Option AH} {H : AH} {K : AH → Prop} (h : w = w') : gS w x H K = gS w' x H K := by rw [h]
@[congr] theorem gC_congr {w w' : Bool} {R : AV → AH → Prop} {H : AH} {K : AV → AH → Prop} (h : w = w') : gC w R H K = gC w' R H K := by rw [h]
@[congr] theorem gP_congr {w w' : Bool} {R : AV → Prop} {K : AV → Prop} (h : w = w') : gP w R K = gP w' R K := by rw [h]

@[simp] theorem bO_some {v : AV} {K : AV → Prop} : bO (some v) K = K v := by unfold bO; exact Eq.refl _
@[simp] theorem bH_some {v : AV} {H : AH} {K : AV → AH → Prop} : bH (some (v, H)) K = K v H := by unfold bH; exact Eq.refl _
@[simp] theorem bS_some {H : AH} {K : AH → Prop} : bS (some H) K = K H := by unfold bS; exact Eq.refl _
@[simp] theorem bB_bool {b : Bool} {K : Bool → Prop} : bB (.lit (.bool b)) K = K b := by unfold bB; exact Eq.refl _
@[simp] theorem bI_true {A B : Prop} : bI true A B = A := by unfold bI; exact Eq.refl _
@[simp] theorem bI_false {A B : Prop} : bI false A B = B := by unfold bI; exact Eq.refl _
@[simp] theorem bG_bool {b w : Bool} {K : Bool → Prop} : bG (.lit (.bool b)) w K = K (b == w) := by unfold bG; exact Eq.refl _
@[simp] theorem bG_undef {w : Bool} {K : Bool → Prop} : bG undefA w K = K false := by unfold bG; exact Eq.refl _
@[simp] theorem bT_true {A : Prop} : bT true A = A := by unfold bT; exact Eq.refl _
@[simp] theorem bF_fn {w : Bool} {k : FuncId} {a b : List AV} {K : FuncId → List AV → List AV → Prop} : bF w (.fn (.func k) a b) K = K k a b := by unfold bF; exact Eq.refl _
@[simp] theorem bF_undef {K : FuncId → List AV → List AV → Prop} : bF false undefA K = K 0 [] [] := by unfold bF undefA; exact Eq.refl _
@[simp] theorem gO_true {x : Option AV} {K : AV → Prop} : gO true x K = bO x K := by unfold gO; exact Eq.refl _
@[simp] theorem gO_false {x : Option AV} {K : AV → Prop} : gO false x K = K undefA := by unfold gO; exact Eq.refl _
@[simp] theorem gH_true {x : Option (AV × AH)} {H : AH} {K : AV → AH → Prop} : gH true x H K = bH x K := by unfold gH; exact Eq.refl _
@[simp] theorem gH_false {x : Option (AV × AH)} {H : AH} {K : AV → AH → Prop} : gH false x H K = K undefA H := by unfold gH; exact Eq.refl _
@[simp] theorem gS_true {x : Option AH} {H : AH} {K : AH → Prop} : gS true x H K = bS x K := by unfold gS; exact Eq.refl _
@[simp] theorem gS_false {x : Option AH} {H : AH} {K : AH → Prop} : gS false x H K = K H := by unfold gS; exact Eq.refl _
@[simp] theorem gC_true {R : AV → AH → Prop} {H : AH} {K : AV → AH → Prop} : gC true R H K = bC R K := by unfold gC; exact Eq.refl _
@[simp] theorem gC_false {R : AV → AH → Prop} {H : AH} {K : AV → AH → Prop} : gC false R H K = K undefA H := by unfold gC; exact Eq.refl _
@[simp] theorem gP_true {R : AV → Prop} {K : AV → Prop} : gP true R K = bP R K := by unfold gP; exact Eq.refl _
@[simp] theorem gP_false {R : AV → Prop} {K : AV → Prop} : gP false R K = K undefA := by unfold gP; exact Eq.refl _
theorem bI_dec {p : Prop} [Decidable p] {A B : Prop} (h1 : p → A) (h2 : ¬ p → B) : bI (decide p) A B := by
  by_cases h : p
  · rw [decide_eq_true h]; exact h1 h
  · rw [decide_eq_false h]; exact h2 h
theorem bI_cases {b : Bool} {A B : Prop} (h1 : b = true → A) (h2 : b = false → B) : bI b A B := by
  cases b
  · exact h2 rfl
  · exact h1 rfl
theorem bP_of {R : AV → Prop} {K : AV → Prop} {r : AV} (h : R r) (hk : K r) : bP R K := ⟨r, h, hk⟩
theorem bP_pure {P : Program} {f : FuncId} {args : List AV} {H : AH} {K : AV → Prop} {r : AV} (h : BPure P f args r) (hk : K r) : bP (PCall P f args H) K := ⟨r, .inl h, hk⟩
theorem bP_lend {P : Program} {f : FuncId} {args args' : List AV} {H : AH} {K : AV → Prop} {r : AV} (n : Nat) (hf : mapO (frz H n) args = some args') (hr : flatA r = true) (h : BPure P f args' r) (hk : K r) : bP (PCall P f args H) K := ⟨r, .inr ⟨n, args', hf, hr, h⟩, hk⟩
theorem bC_of {R : AV → AH → Prop} {K : AV → AH → Prop} {r : AV} {H : AH} (h : R r H) (hk : K r H) : bC R K := ⟨r, H, h, hk⟩

/-! numbers -/
theorem emod_le_self {n u : Int} (h : 0 ≤ n) (hu : 0 < u) : n % u ≤ n := by
  have h1 := Int.mul_ediv_add_emod n u
  have h2 := Int.mul_nonneg (Int.le_of_lt hu) (Int.ediv_nonneg h (Int.le_of_lt hu))
  omega
theorem wrap64 {x : Int} (h1 : -9223372036854775808 ≤ x) (h2 : x ≤ 9223372036854775807) : IntKind.i64.wrap x = x := by
  simp [IntKind.wrap, IntKind.bits, IntKind.signed]; omega
theorem wrap8 {x : Int} (h1 : 0 ≤ x) (h2 : x ≤ 255) : IntKind.u8.wrap x = x := by
  simp [IntKind.wrap, IntKind.bits, IntKind.signed]; omega
section
variable {k : IntKind} {a b : Int}
theorem abI_add (h1 : -9223372036854775808 ≤ a + b) (h2 : a + b ≤ 9223372036854775807) : abI .add (I a) (I b) = some (I (a + b)) := by simp [abI, aint2, wrap64 h1 h2]
theorem abI_sub (h1 : -9223372036854775808 ≤ a - b) (h2 : a - b ≤ 9223372036854775807) : abI .sub (I a) (I b) = some (I (a - b)) := by simp [abI, aint2, wrap64 h1 h2]
theorem abI_mul (h1 : -9223372036854775808 ≤ a * b) (h2 : a * b ≤ 9223372036854775807) : abI .mul (I a) (I b) = some (I (a * b)) := by simp [abI, aint2, wrap64 h1 h2]
theorem abI_quo (h1 : 0 ≤ a) (h2 : a ≤ 9223372036854775807) (h3 : 0 < b) : abI .quo (I a) (I b) = some (I (a / b)) := by
  have e : a.tdiv b = a / b := Int.tdiv_eq_ediv_of_nonneg h1
  have h4 : 0 ≤ a / b := Int.ediv_nonneg h1 (by omega)
  have h5 : a / b ≤ a := Int.ediv_le_self _ h1
  simp [abI, aint2, e, wrap64 (x := a / b) (by omega) (by omega)]; omega
theorem abI_rem (h1 : 0 ≤ a) (h3 : 0 < b) : abI .rem (.lit (.int k a)) (.lit (.int k b)) = some (.lit (.int k (a % b))) := by
  have e : a.tmod b = a % b := Int.tmod_eq_emod_of_nonneg h1
  simp [abI, aint2, e]; omega
@[simp] theorem abI_eql : abI .eql (.lit (.int k a)) (.lit (.int k b)) = some (B (decide (a = b))) := by simp [abI, aint2]; rfl
@[simp] theorem abI_neq : abI .neq (.lit (.int k a)) (.lit (.int k b)) = some (B (decide (a ≠ b))) := by
  simp [abI, aint2]
  by_cases h : a = b <;> simp [h]
@[simp] theorem abI_lss : abI .lss (.lit (.int k a)) (.lit (.int k b)) = some (B (decide (a < b))) := by simp [abI, aint2]
@[simp] theorem abI_leq : abI .leq (.lit (.int k a)) (.lit (.int k b)) = some (B (decide (a ≤ b))) := by simp [abI, aint2]
@[simp] theorem abI_gtr : abI .gtr (.lit (.int k a)) (.lit (.int k b)) = some (B (decide (b < a))) := by simp [abI, aint2]
@[simp] theorem abI_geq : abI .geq (.lit (.int k a)) (.lit (.int k b)) = some (B (decide (b ≤ a))) := by simp [abI, aint2]
@[simp] theorem abB_eql {x y : Bool} : abB .eql (.lit (.bool x)) (.lit (.bool y)) = some (B (decide (x = y))) := by cases x <;> cases y <;> rfl
@[simp] theorem abB_neq {x y : Bool} : abB .neq (.lit (.bool x)) (.lit (.bool y)) = some (B (decide (x ≠ y))) := by cases x <;> cases y <;> rfl
@[simp] theorem aun_not {x : Bool} : aun .not (.lit (.bool x)) = some (B !x) := rfl
@[simp] theorem apick_bool {t : Bool} {x y : AV} : apick (.lit (.bool t)) x y = some (if t then x else y) := rfl
@[simp] theorem imn_eq : imn a b = min b a := by unfold imn; omega
@[simp] theorem imx_eq : imx a b = max b a := by unfold imx; omega
@[simp] theorem amm_two {f : Int → Int → Int} : amm f [.lit (.int k a), .lit (.int k b)] = some (.lit (.int k (f a b))) := rfl
theorem acI_i64 {k' : IntKind} (h1 : -9223372036854775808 ≤ a) (h2 : a ≤ 9223372036854775807) : acI .i64 (.lit (.int k' a)) = some (I a) := by simp [acI, wrap64 h1 h2]
end
@[simp] theorem aextract_tup {vs : List AV} {i : Nat} : aextract (.tup vs) i = vs[i]? := rfl
@[simp] theorem anilCheck_ptr {o off : Nat} : anilCheck (.ptr o off) = some (.ptr o off) := rfl
@[simp] theorem anilCheck_ip {cs : List AV} : anilCheck (.ip cs) = some (.ip cs) := rfl
@[simp] theorem ashift_ptr {k o off : Nat} : ashift k (.ptr o off) = some (.ptr o (off + k)) := rfl
@[simp] theorem ashift_ip {k : Nat} {cs : List AV} : ashift k (.ip cs) = some (.ip (cs.drop k)) := rfl
@[simp] theorem ald_ip {g : Bool} {n : Nat} {H : AH} {cs : List AV} : ald g n H (.ip cs) = rdCells g n cs 0 := rfl
theorem ald_ptr {g : Bool} {n o off : Nat} {H : AH} {cs : List AV} (h : H[o]? = some (some (.cells cs))) : ald g n H (.ptr o off) = rdCells g n cs off := by simp [ald, h]
@[simp] theorem rdCells_one {n : Nat} {cs : List AV} {off : Nat} : rdCells false n cs off = cs[off]? := by simp [rdCells]
theorem rdCells_agg {n : Nat} {cs : List AV} {off : Nat} (h : off + n ≤ cs.length) : rdCells true n cs off = some (.agg ((cs.drop off).take n)) := by simp [rdCells, h]
@[simp] theorem aprt_agg {g : Bool} {n off : Nat} {cs : List AV} : aprt g n off (.agg cs) = rdCells g n cs off := rfl
@[simp] theorem anew_agg {H : AH} {cs : List AV} : anew H (.agg cs) = if cs.all oneA then some (.ptr H.length 0, H ++ [some (.cells cs)]) else none := by
  unfold anew cellsA
  simp only
  split <;> simp
theorem anew_lit {H : AH} {v : Value} (h : oneA (.lit v) = true) : anew H (.lit v) = some (.ptr H.length 0, H ++ [some (.cells [.lit v])]) := by
  unfold anew cellsA
  simp only [h, if_true]
  rfl
theorem ast_ptr {n o off : Nat} {H : AH} {x : AV} {xs cs : List AV} (hx : cellsA x = some xs) (h : H[o]? = some (some (.cells cs))) (hl : xs.length = n) (hb : off + n ≤ cs.length) : ast n H (.ptr o off) x = some (H.set o (some (.cells (splice cs off xs)))) := by
  simp [ast, hx, h, hl, hb]
@[simp] theorem oneA_int {k : IntKind} {n : Int} : oneA (.lit (.int k n)) = true := rfl
@[simp] theorem oneA_bool {b : Bool} : oneA (.lit (.bool b)) = true := rfl
@[simp] theorem oneA_str {s : ByteArray} : oneA (.lit (.string s)) = true := rfl
@[simp] theorem oneA_nil {n c : Nat} : oneA (.lit (.slice none n c)) = true := rfl
@[simp] theorem oneA_nilm : oneA (.lit (.map none)) = true := rfl
@[simp] theorem oneA_nilp : oneA (.lit (.pointer none)) = true := rfl
@[simp] theorem oneA_sl {o off len esz : Nat} {cap : Room} : oneA (.sl o off len esz cap) = true := rfl
@[simp] theorem oneA_imm {cs : List AV} {len esz : Nat} : oneA (.imm cs len esz) = true := rfl
@[simp] theorem oneA_ptr {o off : Nat} : oneA (.ptr o off) = true := rfl
@[simp] theorem oneA_emp : oneA .emp = true := rfl
@[simp] theorem oneA_mp {o : Nat} : oneA (.mp o) = true := rfl
@[simp] theorem cellsA_int {k : IntKind} {n : Int} : cellsA (.lit (.int k n)) = some [.lit (.int k n)] := rfl
@[simp] theorem cellsA_bool {b : Bool} : cellsA (.lit (.bool b)) = some [.lit (.bool b)] := rfl
@[simp] theorem cellsA_str {s : ByteArray} : cellsA (.lit (.string s)) = some [.lit (.string s)] := rfl
@[simp] theorem cellsA_nil {n c : Nat} : cellsA (.lit (.slice none n c)) = some [.lit (.slice none n c)] := rfl
@[simp] theorem cellsA_nilm : cellsA (.lit (.map none)) = some [.lit (.map none)] := rfl
@[simp] theorem cellsA_nilp : cellsA (.lit (.pointer none)) = some [.lit (.pointer none)] := rfl
@[simp] theorem cellsA_sl {o off len esz : Nat} {cap : Room} : cellsA (.sl o off len esz cap) = some [.sl o off len esz cap] := rfl
@[simp] theorem cellsA_imm {cs : List AV} {len esz : Nat} : cellsA (.imm cs len esz) = some [.imm cs len esz] := rfl
@[simp] theorem cellsA_ptr {o off : Nat} : cellsA (.ptr o off) = some [.ptr o off] := rfl
@[simp] theorem cellsA_emp : cellsA .emp = some [.emp] := rfl
@[simp] theorem cellsA_mp {o : Nat} : cellsA (.mp o) = some [.mp o] := rfl
@[simp] theorem cellsA_agg {cs : List AV} : cellsA (.agg cs) = if cs.all oneA then some cs else none := rfl
theorem cellsA_one {v : AV} (h : oneA v = true) : cellsA v = some [v] := by
  cases v <;> first
    | rfl
    | (rename_i u; cases u <;> first | rfl | simp [oneA] at h)
    | simp [oneA] at h
@[simp] theorem fillR_nil {cells : List AV} : fillR cells [] = some cells := rfl
@[simp] theorem fillR_cons {cells : List AV} {off size : Nat} {v : AV} {r : List (Nat × Nat × AV)} : fillR cells ((off, size, v) :: r) = match cellsA v with
    | some xs => if xs.length = size ∧ off + size ≤ cells.length then fillR (splice cells off xs) r else none
    | none => none := rfl
attribute [simp] abl absl absf zrow splice LI0 LI1 LI2 LI3 LI4 LI5 LI6 LI7 LI8 LI9 LI10 LI11 LI12 LI13 LI14 LI15 LI16 LI17 LI18
@[simp] theorem ald_ptr' {g : Bool} {n o off : Nat} {H : AH} : ald g n H (.ptr o off) = match H[o]? with
    | some (some (.cells cs)) => rdCells g n cs off
    | _ => none := rfl
@[simp] theorem alnS_imm {cs : List AV} {len esz : Nat} : alnS (.imm cs len esz) = some (I len) := rfl
@[simp] theorem alnS_nil : alnS (.lit (.slice none 0 0)) = some (I 0) := rfl
@[simp] theorem alnS_sl {o off len esz : Nat} {cap : Room} : alnS (.sl o off len esz cap) = some (I len) := rfl
@[simp] theorem alnT_str {s : ByteArray} : alnT (.lit (.string s)) = some (I s.size) := rfl

/-! ### contracts -/
section
variable {P : Program} {f : FuncId} {args : List AV} {R : AV}
theorem BPure.flat (h : ∀ H, ∃ r H', (r = R ∧ H' = H) ∧ BCall P f args H r H') : BPure P f args R := fun H => by
  obtain ⟨r, H', ⟨rfl, rfl⟩, h⟩ := h H
  exact h
theorem BPure.frozen (hb : noIdss args = true) (h : ∃ r X, (∃ n, frz X n r = some R) ∧ BCall P f args [] r X) : BPure P f args R := by
  obtain ⟨r, X, ⟨n, hf⟩, h⟩ := h
  exact BPure.of h hb hf
end

/-! ### slices that name no object -/
/-- v holds the list l, each element in sz cells, and names no object. -/
def SV {α : Type} (enc : α → List AV) (sz : Nat) (l : List α) (v : AV) : Prop := noIds v = true ∧ ∀ H, sliceCells H sz v = some (l.flatMap enc, l.length)
section
variable {α : Type} {enc : α → List AV} {sz : Nat} {l : List α} {v : AV}
theorem SV.nil : SV enc sz [] nilSl := ⟨rfl, fun _ => rfl⟩
theorem SV.len (h : SV enc sz l v) : alnS v = some (I l.length) := by
  have h2 := h.2 []
  unfold sliceCells at h2
  split at h2
  · split at h2
    · injection h2 with h2; injection h2 with e1 e2; rw [← e2]; rfl
    · cases h2
  · simp at h2
  · injection h2 with h2; injection h2 with e1 e2; rw [← e2]; rfl
  · injection h2 with h2; injection h2 with e1 e2; rw [← e2]; rfl
  · cases h2
theorem flatMap_split (hsz : ∀ x, (enc x).length = sz) : ∀ {l : List α} {k : Nat} {x : α}, l[k]? = some x → (l.flatMap enc).drop (k * sz) = enc x ++ (l.drop (k + 1)).flatMap enc
  | [], k, x, h => by simp at h
  | a :: l, 0, x, h => by simp at h; subst h; simp
  | a :: l, k + 1, x, h => by
    have := flatMap_split hsz (l := l) (k := k) (by simpa using h)
    rw [List.flatMap_cons, Nat.succ_mul, Nat.add_comm, ← List.drop_drop, List.drop_left' (hsz a)]
    simpa using this
theorem flatMap_len (hsz : ∀ x, (enc x).length = sz) (l : List α) : (l.flatMap enc).length = l.length * sz := by
  induction l with
  | nil => simp
  | cons a l ih => simp [List.flatMap_cons, hsz, ih, Nat.succ_mul]; omega
theorem SV.imm (hsz : ∀ x, (enc x).length = sz) (hn : ∀ x ∈ l, noIdss (enc x) = true) : SV enc sz l (.imm (l.flatMap enc) l.length sz) := by
  refine ⟨?_, fun H => ?_⟩
  · simp only [noIds]
    induction l with
    | nil => rfl
    | cons a l ih =>
      rw [List.flatMap_cons]
      have h1 := hn a (by simp)
      have h2 := ih fun x hx => hn x (by simp [hx])
      generalize enc a = c at h1
      induction c with
      | nil => exact h2
      | cons b c ihc => simp only [noIdss, Bool.and_eq_true, List.cons_append] at h1 ⊢; exact ⟨h1.1, ihc h1.2⟩
  · simp [sliceCells, flatMap_len hsz]
/-- The element k, as memory that nobody writes. -/
theorem SV.idx (h : SV enc sz l v) (hsz : ∀ x, (enc x).length = sz) {k : Nat} {x : α} {i : Int} (hk : l[k]? = some x) (hi : i = k) : aixS sz v (.lit (.int .i64 i)) = some (.ip (enc x ++ (l.drop (k + 1)).flatMap enc)) := by
  subst hi
  have hlt := (List.getElem?_eq_some_iff.1 hk).1
  have h1 := h.1
  have h2 := h.2 []
  unfold sliceCells at h2
  split at h2
  · rename_i cs len esz
    split at h2
    · injection h2 with h2; injection h2 with e1 e2
      subst e1; subst e2
      simp only [aixS, aint]
      rw [if_pos ⟨by omega, by omega⟩]
      simp [flatMap_split hsz hk]
    · cases h2
  · simp [noIds] at h1
  · injection h2 with h2; injection h2 with e1 e2; rw [← e2] at hlt; omega
  · injection h2 with h2; injection h2 with e1 e2; rw [← e2] at hlt; omega
  · cases h2
end
end Go.Proofs.Ythgkepaadkmhoaa.Av
