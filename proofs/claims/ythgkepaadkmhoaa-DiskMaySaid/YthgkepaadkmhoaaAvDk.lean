/- Chapter 10: what a disk is made of; which may be. -/
import Derived.Test.YthgkepaadkmhoaaPa
import Derived.Test.YthgkepaadkmhoaaAvMp
import Derived.Test.YthgkepaadkmhoaaAvDr
set_option linter.unusedVariables false
set_option linter.unusedSimpArgs false
set_option maxRecDepth 100000
namespace Go.Proofs.Ythgkepaadkmhoaa.Av
open Go Go.RowKit
def encI (n : Int) : List AV := [I n]
theorem encI_len (n : Int) : (encI n).length = 1 := rfl
def encS (s : Int × Int) : List AV := [I s.1, I s.2]
theorem encS_len (s : Int × Int) : (encS s).length = 2 := rfl
theorem noIdss_ints (l : List Int) : noIdss (l.flatMap encI) = true := noIdss_flat fun x _ => rfl
theorem noIdss_softs (l : List (Int × Int)) : noIdss (l.flatMap encS) = true := noIdss_flat fun x _ => rfl
theorem oneA_sv {α : Type} {enc : α → List AV} {sz : Nat} {l : List α} {v : AV} (hv : SV enc sz l v) : oneA v = true := by
  have h2 := hv.2 []
  cases v with
  | lit a => cases a <;> first | rfl | (simp [sliceCells] at h2)
  | _ => first | rfl | (simp [sliceCells] at h2)
theorem oneA_owned {v : AV} (h : ownedS v = true) : oneA v = true := by
  unfold ownedS at h
  split at h
  · rfl
  · rfl
  · rfl
  · cases h
/-- What was there is as it was. -/
def Grew (H H' : AH) : Prop := H.length ≤ H'.length ∧ ∀ i, i < H.length → H'[i]? = H[i]?
theorem Grew.refl (H : AH) : Grew H H := ⟨Nat.le_refl _, fun _ _ => rfl⟩
theorem Grew.trans {A B C : AH} (h : Grew A B) (k : Grew B C) : Grew A C := ⟨Nat.le_trans h.1 k.1, fun i hi => (k.2 i (Nat.lt_of_lt_of_le hi h.1)).trans (h.2 i hi)⟩
theorem Grew.app (H X : AH) : Grew H (H ++ X) := ⟨by simp, fun i hi => List.getElem?_append_left hi⟩
theorem Grew.cells {H H' : AH} (h : Grew H H') {o : Nat} {x : Option AObj} (ho : H[o]? = some x) : H'[o]? = some x := by
  rw [h.2 o (List.getElem?_eq_some_iff.1 ho).1]; exact ho
theorem Grew.slice {H H' : AH} (h : Grew H H') {sz : Nat} {v : AV} {q : List AV × Nat} (hv : sliceCells H sz v = some q) : sliceCells H' sz v = some q :=
  sliceCells_keep hv fun i hi => h.2 i (sliceCells_lt hv i hi)
theorem nilS_slice {H : AH} {sz : Nat} {v : AV} {cs : List AV} {n : Nat} (h : sliceCells H sz v = some (cs, n)) : (v = nilSl ∧ cs = [] ∧ n = 0) ∨ abN .eql nilS v nilSl = some (B false) := by
  unfold sliceCells at h
  split at h
  · exact .inr rfl
  · exact .inr rfl
  · injection h with h; injection h with h1 h2; exact .inl ⟨rfl, h1.symm, h2.symm⟩
  · exact .inr rfl
  · cases h
/-- A slice that is a copy. -/
def ClonP (H : AH) (cs : List AV) (n : Nat) (r : AV) (H' : AH) : Prop := ownedS r = true ∧ sliceCells H' 1 r = some (cs, n) ∧ Grew H H' ∧ ∀ i ∈ idS r, H.length ≤ i
theorem cloneB_c {H : AH} {v : AV} {cs : List AV} {n : Nat} (h : sliceCells H 1 v = some (cs, n)) (hn : n ≤ 1000000000) :
    ∃ r H', ClonP H cs n r H' ∧ BCall Try.prog 21 [v] H r H' := slices_Clone_Lbyte_byte_ok (by
  unfold slices_Clone_Lbyte_byte
  rcases nilS_slice h with ⟨rfl, rfl, rfl⟩ | hb
  · have e : abN .eql nilS nilSl nilSl = some (B true) := rfl
    simp only [e, bO_some, bB_bool, bI_true]
    exact ⟨rfl, h, Grew.refl H, by simp [idS]⟩
  · simp only [hb, bO_some, bB_bool, bI_false]
    have e : absl H 1 0 (zrow [(.lit (.int .u8 0))] 0) [] = some (.sl H.length 0 0 1 (.ex 0), H ++ [some (.cells [])]) := rfl
    simp only [e, bH_some]
    have g := Grew.app H [some (.cells [])]
    obtain ⟨r, H2, a1, a2, a3, a4, a5, a6⟩ := aap_spec (sz := 1) (bytes := 1) (H := H ++ [some (.cells [])]) (v := .sl H.length 0 0 1 (.ex 0)) (cs := []) (n := 0) (by simp [sliceCells]) rfl (appended_slice (g.slice h)) (by omega)
    simp only [a1, bH_some]
    refine ⟨a2, by simpa using a3, ⟨by simp at a4; omega, fun i hi => ?_⟩, fun i hi => ?_⟩
    · rw [a5 i (by simp; omega) (by simp [idS]; omega)]
      exact g.2 i hi
    · rcases a6 i hi with h | h
      · simp [idS] at h; omega
      · simp at h; omega)
theorem cloneI_c {H : AH} {v : AV} {cs : List AV} {n : Nat} (h : sliceCells H 1 v = some (cs, n)) (hn : n ≤ 1000000000) :
    ∃ r H', ClonP H cs n r H' ∧ BCall Try.prog 22 [v] H r H' := slices_Clone_Lint_int_ok (by
  unfold slices_Clone_Lint_int
  rcases nilS_slice h with ⟨rfl, rfl, rfl⟩ | hb
  · have e : abN .eql nilS nilSl nilSl = some (B true) := rfl
    simp only [e, bO_some, bB_bool, bI_true]
    exact ⟨rfl, h, Grew.refl H, by simp [idS]⟩
  · simp only [hb, bO_some, bB_bool, bI_false]
    have e : absl H 1 0 (zrow [(.lit (.int .i64 0))] 0) [] = some (.sl H.length 0 0 1 (.ex 0), H ++ [some (.cells [])]) := rfl
    simp only [e, bH_some]
    have g := Grew.app H [some (.cells [])]
    obtain ⟨r, H2, a1, a2, a3, a4, a5, a6⟩ := aap_spec (sz := 1) (bytes := 8) (H := H ++ [some (.cells [])]) (v := .sl H.length 0 0 1 (.ex 0)) (cs := []) (n := 0) (by simp [sliceCells]) rfl (appended_slice (g.slice h)) (by omega)
    simp only [a1, bH_some]
    refine ⟨a2, by simpa using a3, ⟨by simp at a4; omega, fun i hi => ?_⟩, fun i hi => ?_⟩
    · rw [a5 i (by simp; omega) (by simp [idS]; omega)]
      exact g.2 i hi
    · rcases a6 i hi with h | h
      · simp [idS] at h; omega
      · simp at h; omega)
/-- What a disk is made of. -/
structure Dev where
  data : List UInt8
  bad : List Int
  soft : List (Int × Int)
  shorts : List Int
def mayD (d : Dev) : Prop := d.data.length ≤ 65536 ∧ (∀ b ∈ d.bad, 0 ≤ b) ∧ ∀ s ∈ d.soft, 0 ≤ s.1 ∧ 0 ≤ s.2 ∧ s.2 ≤ 20
instance (d : Dev) : Decidable (mayD d) := by unfold mayD; infer_instance
/-- Its parts, as values. -/
structure DevV (d : Dev) (a b c e : AV) : Prop where
  data : SV encU 1 d.data a
  bad : SV encI 1 d.bad b
  soft : SV encS 2 d.soft c
  shorts : SV encI 1 d.shorts e
theorem noD {d : Dev} {a b c e : AV} (h : DevV d a b c e) : noIdss [.agg [a, b, c, e]] = true := by
  simp [noIdss, noIds, h.data.1, h.bad.1, h.soft.1, h.shorts.1]
theorem law10_Few_p {d : Dev} {a b c e : AV} (h : DevV d a b c e) : BPure Try.prog 13 [.agg [a, b, c, e]] (B (decide (d.data.length ≤ 400 ∧ d.bad.length ≤ 60 ∧ d.soft.length ≤ 60 ∧ d.shorts.length ≤ 200))) := BPure.val (noD h) rfl (salvorlaw10_Few_ok (by
  unfold salvorlaw10_Few
  have e1 : ((d.data.length : Int) ≤ 400) = (d.data.length ≤ 400) := propext (by omega)
  have e2 : ((d.bad.length : Int) ≤ 60) = (d.bad.length ≤ 60) := propext (by omega)
  have e3 : ((d.soft.length : Int) ≤ 60) = (d.soft.length ≤ 60) := propext (by omega)
  have e4 : ((d.shorts.length : Int) ≤ 200) = (d.shorts.length ≤ 200) := propext (by omega)
  by_cases c1 : d.data.length ≤ 400
  · by_cases c2 : d.bad.length ≤ 60
    · by_cases c3 : d.soft.length ≤ 60
      · simp [oneA_sv h.data, oneA_sv h.bad, oneA_sv h.soft, oneA_sv h.shorts, h.data.len, h.bad.len, h.soft.len, h.shorts.len, e1, e2, e3, e4, c1, c2, c3]
      · simp [oneA_sv h.data, oneA_sv h.bad, oneA_sv h.soft, oneA_sv h.shorts, h.data.len, h.bad.len, h.soft.len, h.shorts.len, e1, e2, e3, e4, c1, c2, c3]
    · simp [oneA_sv h.data, oneA_sv h.bad, oneA_sv h.soft, oneA_sv h.shorts, h.data.len, h.bad.len, h.soft.len, h.shorts.len, e1, e2, e3, e4, c1, c2]
  · simp [oneA_sv h.data, oneA_sv h.bad, oneA_sv h.soft, oneA_sv h.shorts, h.data.len, h.bad.len, h.soft.len, h.shorts.len, e1, e2, e3, e4, c1]))
theorem may1_c (n : Int) (H : AH) : BCall Try.prog 27 [I n] H (B (decide (n < 0))) H := by
  obtain ⟨r, H', ⟨rfl, rfl⟩, h⟩ := disk_May_1_ok (K := fun r H' => r = B (decide (n < 0)) ∧ H' = H) (a0 := I n) (H := H) (by unfold disk_May_1; simp)
  exact h
def wrongS (s : Int × Int) : Prop := s.1 < 0 ∨ s.2 < 0 ∨ 20 < s.2
instance (s : Int × Int) : Decidable (wrongS s) := by unfold wrongS; infer_instance
theorem may2_c (s : Int × Int) (H : AH) : ∃ H', Grew H H' ∧ BCall Try.prog 28 [.agg (encS s)] H (B (decide (wrongS s))) H' := by
  obtain ⟨r, H', ⟨rfl, g⟩, h⟩ := disk_May_2_ok (K := fun r H' => r = B (decide (wrongS s)) ∧ Grew H H') (a0 := .agg (encS s)) (H := H) (by
    unfold disk_May_2 encS wrongS
    have g := Grew.app H [some (.cells [I s.1, I s.2])]
    by_cases h1 : s.1 < 0
    · simp [h1]; exact g
    · by_cases h2 : s.2 < 0
      · simp [h1, h2]; exact g
      · simp [h1, h2]; exact g)
  exact ⟨H', g, h⟩
theorem anyI {p : Int → Bool} {l : List Int} {k : Nat} {x : Int} (hx : l[k]? = some x) (hm : ∀ (m : Nat) y, m < k → l[m]? = some y → p y = false) (h : p x = true) : l.any p = true := List.any_eq_true.2 ⟨x, List.mem_of_getElem? hx, h⟩
theorem any_none {α : Type} {p : α → Bool} {l : List α} (hm : ∀ (m : Nat) y, m < l.length → l[m]? = some y → p y = false) : l.any p = false := by
  rw [List.any_eq_false]
  intro x hx
  obtain ⟨m, h⟩ := List.mem_iff_getElem?.1 hx
  simp [hm m x (List.getElem?_eq_some_iff.1 h).1 h]
/-- A place that is found, or a number below 0. -/
def IdxE (q : Bool) (H : AH) (r : AV) (H' : AH) : Prop := ∃ j : Int, r = I j ∧ H' = H ∧ (0 ≤ j ↔ q = true)
def IdxK (q : Bool) (H : AH) (r : AV) (H' : AH) : Prop := ∃ j : Int, r = I j ∧ Grew H H' ∧ (0 ≤ j ↔ q = true)
theorem contI_c {l : List Int} {v : AV} (hv : SV encI 1 l v) (hl : l.length ≤ 281474976710656) (H : AH) :
    BCall Try.prog 29 [v, .fn (.func 27) [] []] H (B (l.any fun n => decide (n < 0))) H := by
  have hi : ∃ j : Int, (0 ≤ j ↔ l.any (fun n => decide (n < 0)) = true) ∧ BCall Try.prog 31 [v, .fn (.func 27) [] []] H (I j) H := by
    obtain ⟨r, H', ⟨j, rfl, rfl, hj⟩, h⟩ := slices_IndexFunc_Lint_int_ok (K := IdxE (l.any fun n => decide (n < 0)) H) (a0 := v) (a1 := .fn (.func 27) [] []) (H := H) (by
      unfold slices_IndexFunc_Lint_int
      simp [hv.len]
      refine slices_IndexFunc_Lint_int_L3_rule (fun n x0 x1 x7 x8 H' => ∃ k : Nat, k + n = l.length ∧ x0 = v ∧ x1 = .fn (.func 27) [] [] ∧ x7 = I l.length ∧ x8 = I k ∧ H' = H ∧ ∀ (m : Nat) y, m < k → l[m]? = some y → decide (y < 0) = false) ?_ l.length ⟨0, by simp, rfl, rfl, rfl, rfl, rfl, by simp⟩
      rintro n x0 x1 x7 x8 H' R hR ⟨k, hk, rfl, rfl, rfl, rfl, rfl, hm⟩
      unfold slices_IndexFunc_Lint_int_L3_b
      rcases Nat.lt_or_ge k l.length with hlt | hge
      · have hx := List.getElem?_eq_getElem hlt
        generalize l[k] = y at hx
        have gf : goFunc Try.prog 27 = true := by kernel_rfl
        simp [hlt, hv.idx encI_len hx rfl, encI, gf]
        refine bC_of (may1_c y _) ?_
        by_cases c : y < 0
        · have ha : l.any (fun n => decide (n < 0)) = true := anyI hx hm (by simp [c])
          simp [c]
          exact ⟨k, rfl, rfl, by rw [ha]; simp⟩
        · simp [c, abI_add (a := k) (b := 1) (by omega) (by omega)]
          refine hR (n - 1) _ _ _ _ _ (by omega) ⟨k + 1, by omega, rfl, rfl, rfl, rfl, rfl, fun m z hmk hz => ?_⟩
          by_cases h : m = k
          · subst h; rw [hx] at hz; injection hz with hz; subst hz; simpa using c
          · exact hm m z (by omega) hz
      · have hkl : k = l.length := by omega
        subst hkl
        have ha := any_none hm
        simp
        exact ⟨-1, rfl, rfl, by rw [ha]; simp⟩)
    exact ⟨j, hj, h⟩
  obtain ⟨j, hj, hc⟩ := hi
  obtain ⟨r, H', ⟨rfl, rfl⟩, h⟩ := slices_ContainsFunc_Lint_int_ok (K := fun r H' => r = B (l.any fun n => decide (n < 0)) ∧ H' = H) (a0 := v) (a1 := .fn (.func 27) [] []) (H := H) (by
    unfold slices_ContainsFunc_Lint_int
    refine bC_of hc ?_
    simp
    by_cases c : 0 ≤ j
    · simp [c, hj.1 c]
    · have : l.any (fun n => decide (n < 0)) = false := by
        cases ha : l.any (fun n => decide (n < 0)) with
        | false => rfl
        | true => exact absurd (hj.2 ha) c
      rw [this]; simp [c])
  exact h
theorem contS_c {l : List (Int × Int)} {v : AV} (hv : SV encS 2 l v) (hl : l.length ≤ 281474976710656) (H : AH) :
    ∃ H', Grew H H' ∧ BCall Try.prog 30 [v, .fn (.func 28) [] []] H (B (l.any fun s => decide (wrongS s))) H' := by
  have hi : ∃ (j : Int) (H' : AH), Grew H H' ∧ (0 ≤ j ↔ l.any (fun s => decide (wrongS s)) = true) ∧ BCall Try.prog 32 [v, .fn (.func 28) [] []] H (I j) H' := by
    obtain ⟨r, H', ⟨j, rfl, g, hj⟩, h⟩ := slices_IndexFunc_Lapi_Soft_api_Soft_ok (K := IdxK (l.any fun s => decide (wrongS s)) H) (a0 := v) (a1 := .fn (.func 28) [] []) (H := H) (by
      unfold slices_IndexFunc_Lapi_Soft_api_Soft
      simp [hv.len]
      refine slices_IndexFunc_Lapi_Soft_api_Soft_L3_rule (fun n x0 x1 x7 x8 H' => ∃ k : Nat, k + n = l.length ∧ x0 = v ∧ x1 = .fn (.func 28) [] [] ∧ x7 = I l.length ∧ x8 = I k ∧ Grew H H' ∧ ∀ (m : Nat) y, m < k → l[m]? = some y → decide (wrongS y) = false) ?_ l.length ⟨0, by simp, rfl, rfl, rfl, rfl, Grew.refl H, by simp⟩
      rintro n x0 x1 x7 x8 H' R hR ⟨k, hk, rfl, rfl, rfl, rfl, g, hm⟩
      unfold slices_IndexFunc_Lapi_Soft_api_Soft_L3_b
      rcases Nat.lt_or_ge k l.length with hlt | hge
      · have hx := List.getElem?_eq_getElem hlt
        generalize l[k] = y at hx
        have gf : goFunc Try.prog 28 = true := by kernel_rfl
        have e : rdCells true 2 (encS y ++ List.flatMap encS (List.drop (k + 1) l)) 0 = some (.agg (encS y)) := by simp [rdCells, encS]
        obtain ⟨H2, g2, hc2⟩ := may2_c y H'
        simp [hlt, hv.idx encS_len hx rfl, e, gf]
        refine bC_of hc2 ?_
        by_cases c : wrongS y
        · have ha : l.any (fun s => decide (wrongS s)) = true := List.any_eq_true.2 ⟨y, List.mem_of_getElem? hx, by simp [c]⟩
          simp [c]
          exact ⟨k, rfl, g.trans g2, by rw [ha]; simp⟩
        · simp [c, abI_add (a := k) (b := 1) (by omega) (by omega)]
          refine hR (n - 1) _ _ _ _ _ (by omega) ⟨k + 1, by omega, rfl, rfl, rfl, rfl, g.trans g2, fun m z hmk hz => ?_⟩
          by_cases h : m = k
          · subst h; rw [hx] at hz; injection hz with hz; subst hz; simpa using c
          · exact hm m z (by omega) hz
      · have hkl : k = l.length := by omega
        subst hkl
        have ha := any_none hm
        simp
        exact ⟨-1, rfl, g, by rw [ha]; simp⟩)
    exact ⟨j, H', g, hj, h⟩
  obtain ⟨j, H1, g1, hj, hc⟩ := hi
  obtain ⟨r, H', ⟨rfl, g⟩, h⟩ := slices_ContainsFunc_Lapi_Soft_api_Soft_ok (K := fun r H' => r = B (l.any fun s => decide (wrongS s)) ∧ Grew H H') (a0 := v) (a1 := .fn (.func 28) [] []) (H := H) (by
    unfold slices_ContainsFunc_Lapi_Soft_api_Soft
    refine bC_of hc ?_
    simp
    refine ⟨?_, g1⟩
    by_cases c : 0 ≤ j
    · simp [c, hj.1 c]
    · have : l.any (fun s => decide (wrongS s)) = false := by
        cases ha : l.any (fun s => decide (wrongS s)) with
        | false => rfl
        | true => exact absurd (hj.2 ha) c
      rw [this]; simp [c])
  exact ⟨H', g, h⟩
theorem mayD_iff (d : Dev) : mayD d ↔ d.data.length ≤ 65536 ∧ d.bad.any (fun n => decide (n < 0)) = false ∧ d.soft.any (fun s => decide (wrongS s)) = false := by
  unfold mayD
  rw [List.any_eq_false, List.any_eq_false]
  refine and_congr Iff.rfl (and_congr ?_ ?_)
  · exact forall_congr' fun b => forall_congr' fun hb => by simp
  · refine forall_congr' fun b => forall_congr' fun hb => ?_
    rw [decide_eq_true_iff]; unfold wrongS; omega
theorem disk_May_p {d : Dev} {a b c e : AV} (h : DevV d a b c e) (h1 : d.bad.length ≤ 281474976710656) (h2 : d.soft.length ≤ 281474976710656) : BPure Try.prog 17 [.agg [a, b, c, e]] (B (decide (mayD d))) := BPure.val (noD h) rfl (disk_May_ok (by
  unfold disk_May
  have hm := mayD_iff d
  simp [oneA_sv h.data, oneA_sv h.bad, oneA_sv h.soft, oneA_sv h.shorts, h.data.len]
  by_cases c1 : d.data.length ≤ 65536
  · have c1' : (d.data.length : Int) ≤ 65536 := by omega
    simp [c1']
    refine bC_of (contI_c h.bad h1 _) ?_
    cases c2 : d.bad.any (fun n => decide (n < 0)) with
    | true =>
      rw [c2] at hm
      have : ¬ mayD d := by rw [hm]; simp
      simp [this]
    | false =>
      obtain ⟨H2, g2, hc2⟩ := contS_c h.soft h2 [some (.cells [a, b, c, e])]
      rw [c2] at hm
      simp
      refine bC_of hc2 ?_
      cases c3 : d.soft.any (fun s => decide (wrongS s)) with
      | true =>
        rw [c3] at hm
        have : ¬ mayD d := by rw [hm]; simp
        simp [this]
      | false =>
        rw [c3] at hm
        have : mayD d := by rw [hm]; simp [c1]
        simp [this]
  · have c1' : ¬ (d.data.length : Int) ≤ 65536 := by omega
    have : ¬ mayD d := fun h => c1 h.1
    simp [c1', this]))
theorem ref_MayDevice_p {d : Dev} {a b c e : AV} (h : DevV d a b c e) (h1 : d.bad.length ≤ 281474976710656) (h2 : d.soft.length ≤ 281474976710656) : BPure Try.prog 18 [.agg [a, b, c, e]] (B (decide (mayD d))) := BPure.val (noD h) rfl (salvorref6_MayDevice_ok (by
  unfold salvorref6_MayDevice
  simp [oneA_sv h.data, oneA_sv h.bad, oneA_sv h.soft, oneA_sv h.shorts]
  refine salvorref6_MayDevice_L3_rule (fun n x1 x3 H' => ∃ k : Nat, k + n = d.bad.length ∧ x1 = .ptr 0 0 ∧ x3 = I k ∧ H' = [some (.cells [a, b, c, e])] ∧ ∀ (m : Nat) y, m < k → d.bad[m]? = some y → 0 ≤ y) ?_ d.bad.length ⟨0, by simp, rfl, rfl, rfl, by simp⟩
  rintro n x1 x3 H' R hR ⟨k, hk, rfl, rfl, rfl, hm⟩
  unfold salvorref6_MayDevice_L3_b
  rcases Nat.lt_or_ge k d.bad.length with hlt | hge
  · have hx := List.getElem?_eq_getElem hlt
    generalize d.bad[k] = y at hx
    by_cases c1 : y < 0
    · have : ¬ mayD d := fun h => by have := h.2.1 y (List.mem_of_getElem? hx); omega
      simp [h.bad.len, hlt, h.bad.idx encI_len hx rfl, encI, c1, this]
    · simp [h.bad.len, hlt, h.bad.idx encI_len hx rfl, encI, c1, abI_add (a := k) (b := 1) (by omega) (by omega)]
      refine hR (n - 1) _ _ _ (by omega) ⟨k + 1, by omega, rfl, rfl, rfl, fun m z hmk hz => ?_⟩
      by_cases h : m = k
      · subst h; rw [hx] at hz; injection hz with hz; omega
      · exact hm m z (by omega) hz
  · have hkl : k = d.bad.length := by omega
    subst hkl
    have hbad : ∀ b ∈ d.bad, 0 ≤ b := fun b hb => by
      obtain ⟨m, hm2⟩ := List.mem_iff_getElem?.1 hb
      exact hm m b (List.getElem?_eq_some_iff.1 hm2).1 hm2
    simp [h.bad.len]
    refine salvorref6_MayDevice_L11_rule (fun n x1 x4 H' => ∃ k : Nat, k + n = d.soft.length ∧ x1 = .ptr 0 0 ∧ x4 = I k ∧ H' = [some (.cells [a, b, c, e])] ∧ ∀ (m : Nat) y, m < k → d.soft[m]? = some y → ¬ wrongS y) ?_ d.soft.length ⟨0, by simp, rfl, rfl, rfl, by simp⟩
    rintro n x1 x4 H' R hR ⟨k, hk, rfl, rfl, rfl, hm⟩
    unfold salvorref6_MayDevice_L11_b
    rcases Nat.lt_or_ge k d.soft.length with hlt | hge
    · have hx := List.getElem?_eq_getElem hlt
      generalize d.soft[k] = y at hx
      have bad : wrongS y → ¬ mayD d := fun hw h => by
        have := h.2.2 y (List.mem_of_getElem? hx)
        unfold wrongS at hw; omega
      unfold wrongS at bad
      by_cases c1 : y.1 < 0
      · simp [h.soft.len, hlt, h.soft.idx encS_len hx rfl, encS, c1, bad (.inl c1)]
      · by_cases c2 : y.2 < 0
        · simp [h.soft.len, hlt, h.soft.idx encS_len hx rfl, encS, c1, c2, bad (.inr (.inl c2))]
        · by_cases c3 : 20 < y.2
          · simp [h.soft.len, hlt, h.soft.idx encS_len hx rfl, encS, c1, c2, c3, bad (.inr (.inr c3))]
          · simp [h.soft.len, hlt, h.soft.idx encS_len hx rfl, encS, c1, c2, c3, abI_add (a := k) (b := 1) (by omega) (by omega)]
            refine hR (n - 1) _ _ _ (by omega) ⟨k + 1, by omega, rfl, rfl, rfl, fun m z hmk hz => ?_⟩
            by_cases h : m = k
            · subst h; rw [hx] at hz; injection hz with hz; subst hz; unfold wrongS; omega
            · exact hm m z (by omega) hz
    · have hkl : k = d.soft.length := by omega
      subst hkl
      have e : mayD d ↔ d.data.length ≤ 65536 := by
        refine ⟨And.left, fun h0 => ⟨h0, hbad, fun s hs => ?_⟩⟩
        obtain ⟨m, hm2⟩ := List.mem_iff_getElem?.1 hs
        have := hm m s (List.getElem?_eq_some_iff.1 hm2).1 hm2
        unfold wrongS at this; omega
      have e2 : ((d.data.length : Int) ≤ 65536) = mayD d := propext (by rw [e]; omega)
      simp [h.soft.len, h.data.len, e2]))
end Go.Proofs.Ythgkepaadkmhoaa.Av
