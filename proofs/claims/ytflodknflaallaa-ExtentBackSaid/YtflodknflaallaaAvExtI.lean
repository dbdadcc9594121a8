/- Chapter 11: slices.Insert. -/
import Derived.Test.YtflodknflaallaaAvExtT
import Derived.Test.YtflodknflaallaaAvEx
import Derived.Test.YtflodknflaallaaAvC
import Derived.KernelRfl
set_option linter.unusedVariables false
set_option linter.unusedSimpArgs false
set_option maxRecDepth 100000
namespace Go.Proofs.Ytflodknflaallaa.Av
open Go Go.RowKit
/-- Copy between two slices, both told as far as it needs. -/
theorem acp_sl {H : AH} {sz o off len o2 off2 m : Nat} {cap cap2 : Room} {cs cs2 : List AV} (ho : H[o]? = some (some (.cells cs))) (h2 : H[o2]? = some (some (.cells cs2))) (hoff : off ≤ cs.length) (ht : off2 + min m len * sz ≤ cs2.length) :
    acp sz H (.sl o off len sz cap) (.sl o2 off2 m sz cap2) = some (I ((min m len : Nat) : Int), H.set o (some (.cells (over cs off ((cs2.drop off2).take (min m len * sz)))))) := by
  unfold acp acp0
  by_cases h : off2 + m * sz ≤ cs2.length
  · have e : appended H sz (.sl o2 off2 m sz cap2) = some ((cs2.drop off2).take (m * sz), m) := appended_slice (by simp [sliceCells, h2, h])
    have hm : min (min m len * sz) (m * sz) = min m len * sz := Nat.min_eq_left (Nat.mul_le_mul_right _ (Nat.min_le_left _ _))
    rw [e]
    simp only [ho, hoff, and_self, if_true, List.take_take, hm]
  · have e : appended H sz (.sl o2 off2 m sz cap2) = none := by simp [appended, sliceCells, h2, h]
    rw [e]
    simp [acpT, ho, h2, hoff, ht]
theorem size_ext (w : World) : (Go.sizeOf 32).run Try.prog w = .ok 9 w := run_sizeOf (by kernel_rfl)
theorem overlaps_no {H : AH} {oa offa la ea ka ob offb lb eb kb : Nat} {ca cb : List AV} (ha : H[oa]? = some (some (.cells ca))) (hbo : H[ob]? = some (some (.cells cb))) (hne : oa ≠ ob) (hka : ka ≠ 0) (hkb : kb ≠ 0) (hcb : cb ≠ []) :
    ExtR Try.prog 59 [.sl oa offa la ea (.ex ka), .sl ob offb lb eb (.ex kb)] H (B false) :=
  ExtR.apart (tS := 22) (tR := 4) (fn := Try.f59) (by kernel_rfl) (by kernel_rfl) (by kernel_rfl) (by kernel_rfl) (by kernel_rfl) (by kernel_rfl) size_ext ha hbo hne hka hkb hcb

/-- What Insert leaves: a slice of one's own with one block more; all other objects as they were. -/
def InsP (H : AH) (s : AV) (N : List AV) (n : Nat) (r : AV) (H' : AH) : Prop :=
  ownedS r = true ∧ sliceCells H' 9 r = some (N, n + 1) ∧ H.length ≤ H'.length ∧ (∀ i, i < H.length → i ∉ idS s → H'[i]? = H[i]?) ∧ ∀ i ∈ idS r, i ∈ idS s ∨ H.length ≤ i
theorem insE_end {H : AH} {s : AV} {cs : List AV} {n ov : Nat} {x : Ext} (hs : sliceCells H 9 s = some (cs, n)) (ho : ownedS s = true) (hn : n ≤ 100000000) (hv : H[ov]? = some (some (.cells (encE x)))) :
    ∃ r H', InsP H s (cs ++ encE x) n r H' ∧ BCall Try.prog 53 [s, I n, .sl ov 0 1 9 (.ex 1)] H r H' := by
  obtain ⟨r0, a0, -⟩ := aslS_spec hs (lo := some (I n)) (hi := none) (l := n) (k := n) (by simp [abnd]) rfl (Nat.le_refl _) (Nat.le_refl _)
  have hl := encE_len x
  obtain ⟨r, H2, a1, a2, a3, a4, a5, a6⟩ := aap_spec (bytes := 16) hs ho (appended_slice (v := .sl ov 0 1 9 (.ex 1)) (q := (encE x, 1)) (by simp [sliceCells, hv, hl, List.take_of_length_le])) (by omega)
  refine ⟨r, H2, ⟨a2, a3, a4, a5, a6⟩, slices_Insert_Lapi_Ext_api_Ext_ok ?_⟩
  unfold slices_Insert_Lapi_Ext_api_Ext
  simp [a0, alnS_spec hs, a1]
/-- Into the middle of a slice whose room is used up. -/
theorem insE_grow {H : AH} {o off n ov i : Nat} {cells : List AV} {x : Ext} (hc : H[o]? = some (some (.cells cells))) (hl : off + n * 9 ≤ cells.length) (hi : i < n) (hn : n ≤ 100000000) (hv : H[ov]? = some (some (.cells (encE x)))) :
    ACalls Try.prog 53 [.sl o off n 9 (.ex n), I i, .sl ov 0 1 9 (.ex 1)] H fun r H' => r = .sl H.length 0 (n + 1) 9 (.ge (n + 1)) ∧
      H' = H ++ [some (.cells ((cells.drop off).take (i * 9) ++ encE x ++ (cells.drop (off + i * 9)).take ((n - i) * 9)))] := by
  refine slices_Insert_Lapi_Ext_api_Ext_ok ?_
  unfold slices_Insert_Lapi_Ext_api_Ext
  have h1 : ¬ (i : Int) = n := by omega
  have hxl := encE_len x
  simp [aslS, abnd, Room.least, Room.cut, acpS, goInt, h1, show i ≤ n by omega, abI_add (a := n) (b := 1) (by omega) (by omega), abI_sub (a := (n : Int) + 1) (b := i) (by omega) (by omega), aappZ1, hc, hl, abI_add (a := i) (b := 1) (by omega) (by omega)]
  have e1 : i + (n + 1 - i) = n + 1 := by omega
  have h2 : off + i * 9 ≤ cells.length := by omega
  simp only [e1]
  simp [h2, show (i : Int) < n + 1 by omega, show (n : Int) < n + 1 by omega, show (n + 1) * 16 ≤ 140737488355328 by omega, show i ≤ n + 1 by omega, show i + 1 ≤ n + 1 by omega]
  have zl : ((List.replicate (n + 1 - i) [AV.lit (Value.int IntKind.i64 0), AV.lit (Value.int IntKind.u8 0), AV.lit (Value.int IntKind.u8 0), AV.lit (Value.int IntKind.u8 0), AV.lit (Value.int IntKind.u8 0), AV.lit (Value.int IntKind.u8 0), AV.lit (Value.int IntKind.u8 0), AV.lit (Value.int IntKind.u8 0), AV.lit (Value.int IntKind.u8 0)]).flatten).length = (n + 1 - i) * 9 := zrow_length _ _
  generalize (List.replicate (n + 1 - i) [AV.lit (Value.int IntKind.i64 0), AV.lit (Value.int IntKind.u8 0), AV.lit (Value.int IntKind.u8 0), AV.lit (Value.int IntKind.u8 0), AV.lit (Value.int IntKind.u8 0), AV.lit (Value.int IntKind.u8 0), AV.lit (Value.int IntKind.u8 0), AV.lit (Value.int IntKind.u8 0), AV.lit (Value.int IntKind.u8 0)]).flatten = Z at zl
  have hA : (List.take (i * 9) (List.drop off cells)).length = i * 9 := by rw [List.length_take, List.length_drop]; omega
  generalize hAe : List.take (i * 9) (List.drop off cells) = A at hA
  have hov := (List.getElem?_eq_some_iff.1 hv).1
  have ho := (List.getElem?_eq_some_iff.1 hc).1
  rw [acp_sl (cs := A ++ Z) (cs2 := encE x) (by simp) (by rw [List.getElem?_append_left hov]; exact hv) (by simp [hA]) (by omega)]
  simp [show (0 : Int) ≤ (i : Int) + 1 by omega, show i + 1 ≤ n + 1 by omega]
  have m1 : min 1 (n + 1 - i) = 1 := by omega
  have o1 : over (A ++ Z) (i * 9) (List.take (min 1 (n + 1 - i) * 9) (encE x)) = A ++ encE x ++ Z.drop 9 := by
    rw [m1, List.take_of_length_le (by rw [hxl]; omega)]
    unfold over
    rw [List.take_append_of_le_length (by omega), List.take_of_length_le (by omega), hxl, ← hA, List.drop_append, Nat.add_sub_cancel_left, List.drop_eq_nil_of_le (by omega), List.nil_append]
  rw [o1, acp_sl (cs := A ++ encE x ++ Z.drop 9) (cs2 := cells) (by simp) (by rw [List.getElem?_append_left ho]; exact hc) (by simp [hA, hxl]; omega) (by rw [Nat.min_self]; omega)]
  have hB : (List.take ((n - i) * 9) (List.drop (off + i * 9) cells)).length = (n - i) * 9 := by rw [List.length_take, List.length_drop]; omega
  simp
  generalize List.take ((n - i) * 9) (List.drop (off + i * 9) cells) = B' at hB
  unfold over
  have l1 : (A ++ encE x).length = (i + 1) * 9 := by rw [List.length_append, hA, hxl]; omega
  rw [← List.append_assoc, List.take_append_of_le_length (by omega), List.take_of_length_le (by omega), List.drop_eq_nil_of_le (by rw [List.length_append, l1, List.length_drop, hB]; omega), List.append_nil, List.append_assoc]

/-- .. of a slice that has room. -/
theorem insE_place {H : AH} {o off n ov i c : Nat} {cells : List AV} {x : Ext} (hc : H[o]? = some (some (.cells cells))) (hl : off + n * 9 ≤ cells.length) (hi : i < n) (hn : n ≤ 100000000) (hcn : n + 1 ≤ c) (hv : H[ov]? = some (some (.cells (encE x)))) (hne : ov ≠ o) :
    ACalls Try.prog 53 [.sl o off n 9 (.ex c), I i, .sl ov 0 1 9 (.ex 1)] H fun r H' => r = .sl o off (n + 1) 9 (.ex c) ∧
      ∃ rest, H' = H.set o (some (.cells (cells.take (off + i * 9) ++ encE x ++ (cells.drop (off + i * 9)).take ((n - i) * 9) ++ rest))) := by
  refine slices_Insert_Lapi_Ext_api_Ext_ok ?_
  unfold slices_Insert_Lapi_Ext_api_Ext
  have h1 : ¬ (i : Int) = n := by omega
  have hxl := encE_len x
  simp [aslS, abnd, Room.least, Room.cut, acpS, goInt, h1, show i ≤ n by omega, abI_add (a := n) (b := 1) (by omega) (by omega), abI_sub (a := (n : Int) + 1) (b := i) (by omega) (by omega), hc, hl, abI_add (a := i) (b := 1) (by omega) (by omega), show i ≤ c by omega, show n ≤ c by omega, show ¬ (c : Int) < n + 1 by omega, hcn, show (0 : Int) ≤ (n : Int) + 1 by omega, show (0 : Int) ≤ (i : Int) + 1 by omega, show i + 1 ≤ n + 1 by omega, show i + 1 ≤ c by omega]
  refine bP_of (overlaps_no hv hc hne (by omega) (by omega) (by intro h; rw [h] at hl; simp at hl; omega)) ?_
  simp
  have ho := (List.getElem?_eq_some_iff.1 hc).1
  have mm : min (n + 1 - i) (n - i) = n - i := by omega
  have m1 : min 1 (n + 1 - i) = 1 := by omega
  simp only [show i ≤ n + 1 by omega, if_true, bO_some]
  rw [acp_sl (cs := cells) (cs2 := cells) hc hc (by omega) (by rw [mm]; omega), mm]
  have hB : (List.take ((n - i) * 9) (List.drop (off + i * 9) cells)).length = (n - i) * 9 := by rw [List.length_take, List.length_drop]; omega
  generalize List.take ((n - i) * 9) (List.drop (off + i * 9) cells) = B' at hB
  simp only [bH_some]
  have l1 : (cells.take (off + (i + 1) * 9)).length = off + (i + 1) * 9 := by rw [List.length_take]; omega
  rw [acp_sl (cs := over cells (off + (i + 1) * 9) B') (cs2 := encE x) (by simp [ho]) (by rw [List.getElem?_set_ne (Ne.symm hne)]; exact hv) (by unfold over; simp [l1]; omega) (by omega), m1, List.take_of_length_le (l := (encE x).drop 0) (by simp [hxl])]
  simp only [bH_some, List.set_set, List.drop_zero]
  refine ⟨(cells.drop (off + (i + 1) * 9 + B'.length)), ?_⟩
  congr 3
  unfold over
  rw [hxl]
  have t1 : List.take (off + i * 9) (cells.take (off + (i + 1) * 9) ++ B' ++ cells.drop (off + (i + 1) * 9 + B'.length)) = cells.take (off + i * 9) := by
    rw [List.append_assoc, List.take_append_of_le_length (by omega), List.take_take, Nat.min_eq_left (by omega)]
  have t2 : List.drop (off + i * 9 + 9) (cells.take (off + (i + 1) * 9) ++ B' ++ cells.drop (off + (i + 1) * 9 + B'.length)) = B' ++ cells.drop (off + (i + 1) * 9 + B'.length) := by
    rw [List.append_assoc, show off + i * 9 + 9 = (cells.take (off + (i + 1) * 9)).length by omega, List.drop_left]
  rw [t1, t2, List.append_assoc]

theorem bels_app {m : Nat} : ∀ {a b : List AV}, Bels m a → Bels m b → Bels m (a ++ b)
  | [], b, _, h => h
  | x :: a, b, h1, h2 => by simp only [Bels, List.cons_append] at h1 ⊢; exact ⟨h1.1, bels_app h1.2 h2⟩
theorem bels_mem {m : Nat} : ∀ {a : List AV}, Bels m a ↔ ∀ x ∈ a, Bel m x
  | [] => by simp [Bels]
  | x :: a => by simp only [Bels, List.mem_cons, forall_eq_or_imp, bels_mem (a := a)]
theorem bels_enc (x : Ext) (m : Nat) : Bels m (encE x) := by
  rw [bels_mem]
  intro a ha
  simp only [encE, encB, List.mem_cons, List.mem_map] at ha
  rcases ha with rfl | ⟨b, _, rfl⟩ <;> simp only [Bel]
/-- Into the middle: one form, whatever room there is. -/
theorem insE_mid {H : AH} {o off n ov i : Nat} {cap : Room} {cells : List AV} {x : Ext} (hc : H[o]? = some (some (.cells cells))) (hl : off + n * 9 ≤ cells.length) (hi : i < n) (hn : n ≤ 100000000) (hv : H[ov]? = some (some (.cells (encE x)))) (hne : ov ≠ o) :
    BCall Try.prog 53 [.sl o off n 9 cap, I i, .sl ov 0 1 9 (.ex 1)] H (.sl H.length 0 (n + 1) 9 (.ge (n + 1)))
      (H.set o none ++ [some (.cells ((cells.drop off).take (i * 9) ++ encE x ++ (cells.drop (off + i * 9)).take ((n - i) * 9)))]) := by
  have ho := (List.getElem?_eq_some_iff.1 hc).1
  have hxl := encE_len x
  generalize hN : (cells.drop off).take (i * 9) ++ encE x ++ (cells.drop (off + i * 9)).take ((n - i) * 9) = N
  have hNl : N.length = (n + 1) * 9 := by
    rw [← hN, List.length_append, List.length_append, hxl, List.length_take, List.length_take, List.length_drop, List.length_drop]; omega
  have hall : ∀ c, n ≤ c → ACalls Try.prog 53 [.sl o off n 9 (.ex c), I i, .sl ov 0 1 9 (.ex 1)] H fun r H' =>
      (r = .sl H.length 0 (n + 1) 9 (.ge (n + 1)) ∧ H' = H ++ [some (.cells N)]) ∨ ∃ c rest, n + 1 ≤ c ∧ r = .sl o off (n + 1) 9 (.ex c) ∧ H' = H.set o (some (.cells (cells.take off ++ N ++ rest))) := by
    intro c hcn
    rcases Nat.lt_or_ge n c with h | h
    · refine (insE_place hc hl hi hn h hv hne).mono ?_
      rintro r H' ⟨rfl, rest, rfl⟩
      refine .inr ⟨c, rest, h, rfl, ?_⟩
      congr 3
      rw [← hN, Nat.add_comm off (i * 9), Nat.add_comm (i * 9) off]
      have : cells.take (off + i * 9) = cells.take off ++ (cells.drop off).take (i * 9) := by rw [List.take_add]
      rw [this]
      simp [List.append_assoc]
    · have : c = n := by omega
      subst this
      refine (insE_grow hc hl hi hn hv).mono ?_
      rintro r H' ⟨rfl, rfl⟩
      exact .inl ⟨rfl, by rw [hN]⟩
  have hany : ACalls Try.prog 53 [.sl o off n 9 cap, I i, .sl ov 0 1 9 (.ex 1)] H fun r H' =>
      (r = .sl H.length 0 (n + 1) 9 (.ge (n + 1)) ∧ H' = H ++ [some (.cells N)]) ∨ ∃ c rest, n + 1 ≤ c ∧ r = .sl o off (n + 1) 9 (.ex c) ∧ H' = H.set o (some (.cells (cells.take off ++ N ++ rest))) := by
    cases cap with
    | ge k => exact ACalls.room fun c _ h => hall c h
    | ex c =>
      rcases Nat.lt_or_ge c n with h | h
      · intro G vs hH hv
        exfalso
        simp only [VRs] at hv
        obtain ⟨v, r, rfl, h1, h2⟩ := hv
        simp only [VR] at h1
        obtain ⟨_, a, c', rfl, hlc, hs⟩ := h1
        simp only [SlAt] at hs
        omega
      · exact hall c h
  refine ACalls.canon hany ?_
  rintro hb r1 H1 h1
  have hbN : Bels H.length N := by
    have hbc : Bels H.length cells := hb o _ hc
    rw [bels_mem] at hbc
    rw [← hN]
    refine bels_app (bels_app ?_ (bels_enc x _)) ?_
    · rw [bels_mem]; exact fun a ha => hbc a (List.mem_of_mem_drop (List.mem_of_mem_take ha))
    · rw [bels_mem]; exact fun a ha => hbc a (List.mem_of_mem_drop (List.mem_of_mem_take ha))
  rcases h1 with ⟨rfl, rfl⟩ | ⟨c, rest, hcn, rfl, rfl⟩
  · refine ⟨_, _, _, Canon.grown hb hbN, ?_⟩
    intro G v hG hr
    refine ⟨?_, fun p ℓ h => by cases h⟩
    simp only [VR] at hr ⊢
    obtain ⟨q0, a, c, rfl, hlc, hs⟩ := hr
    refine ⟨by simp [Cfg.ren], a, c, rfl, hlc, ?_⟩
    simpa [Cfg.ren, idR, noLim] using hs
  · refine ⟨_, _, _, Canon.placed (off := off) (l := c * 9) hb ho hbN (cs1 := cells.take off ++ N ++ rest) ?_ ?_ ?_, ?_⟩
    · simp; omega
    · have : (cells.take off).length = off := by rw [List.length_take]; omega
      rw [List.append_assoc]
      conv => lhs; arg 2; arg 1; rw [← this]
      rw [List.drop_left, List.take_left]
    · rw [hNl]; omega
    · intro G v hG hr
      simp only [VR] at hr
      obtain ⟨q0, a, c', rfl, hlc, hs⟩ := hr
      simp only [SlAt] at hs
      obtain ⟨rfl, hs⟩ := hs
      have hs := hs.resolve_left (by omega)
      obtain ⟨rfl, hs2⟩ := hs
      have e : atR H.length o off H.length = (o, off) := if_pos rfl
      have e2 : atL' H.length (c' * 9) H.length = some (c' * 9) := if_pos rfl
      refine ⟨?_, ?_⟩
      · simp only [VR]
        refine ⟨by simp [Cfg.ren], _, c', rfl, by omega, ?_⟩
        simp only [SlAt]
        refine ⟨hcn, .inr ⟨by simp [Cfg.ren, e], ?_⟩⟩
        simp [Cfg.ren, e2]
      · intro p ℓ h
        unfold atL' at h
        split at h
        · rename_i hp
          injection h with h
          subst hp; subst h
          rw [e]; omega
        · cases h
end Go.Proofs.Ytflodknflaallaa.Av
