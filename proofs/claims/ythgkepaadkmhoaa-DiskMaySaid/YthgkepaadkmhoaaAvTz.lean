/- append of so many noughts, where there is no room for them. -/
import Derived.Test.YthgkepaadkmhoaaAvT
import Derived.Lib.AppendZerosOnto
set_option linter.unusedVariables false
set_option linter.unusedSimpArgs false
namespace Go.Proofs.Ythgkepaadkmhoaa.Av
open Go Go.RowKit
section
variable {P : Program} {G : Cfg}
/-- append(s, make([]T, n)...), growing. -/
def aappZ1 (H : AH) (size bytes : Nat) (zc : List AV) (s x : AV) : Option (AV × AH) :=
  match s, x with
  | .sl o off len esz (.ex k), .lit (.int _ n) => match H[o]? with
    | some (some (.cells cs)) =>
      if esz = size ∧ off + len * esz ≤ cs.length ∧ 0 < n ∧ k < len + n.toNat ∧ (len + n.toNat) * bytes ≤ 140737488355328 then
        some (.sl H.length 0 (len + n.toNat) size (.ge (len + n.toNat)), H ++ [some (.cells ((cs.drop off).take (len * esz) ++ zrow zc n.toNat))])
      else none
    | _ => none
  | _, _ => none
def aappendZ (P : Program) (H : AH) (ts tx : TypeId) (s x : AV) : Option (AV × AH) :=
  match P.underlying ts, P.underlying tx with
  | some (.slice e), some (.int _) =>
    match P.info? e with
    | none => none
    | some i => match i.zero with
      | none => none
      | some z => if i.size = 0 ∨ i.bytes = 0 ∨ z.cells.size ≠ i.size ∨ allOne z = false then none else
        aappZ1 H i.size i.bytes (z.cells.toList.map .lit) s x
  | _, _ => none
theorem aappendZ_ok {H H' : AH} (hr : HR G H) {ts tx ty : TypeId} {s x r : AV} {vs vx : Value} (hs : VR G s vs) (hx : VR G x vx) (h : aappendZ P H ts tx s x = some (r, H')) :
    ∃ (G' : Cfg) (u : Value), (Builtin.append_ #[ts, tx] ty #[vs, vx]).run P G.w = .ok u G'.w ∧ Evo G G' ∧ VR G' r u ∧ HR G' H' := by
  unfold aappendZ at h
  split at h
  · rename_i e kn hu hux
    split at h
    · cases h
    rename_i i hi
    split at h
    · cases h
    rename_i z hz
    split at h
    · cases h
    rename_i hc
    rw [not_or, not_or, not_or] at hc
    obtain ⟨hs0, hb0, hzs, hone⟩ := hc
    have hzs := Decidable.byContradiction hzs
    have hone : allOne z = true := by simpa using hone
    unfold aappZ1 at h
    split at h
    · rename_i o off len esz k kq n
      split at h
      · rename_i cs hcs
        split at h
        · rename_i hb
          obtain ⟨rfl, hfit, hn0, hg, hbytes⟩ := hb
          injection h with h; injection h with h1 h2
          subst h1; subst h2
          simp only [VR] at hs hx
          subst hx
          obtain ⟨ho, a, c, rfl, hlc, hck, hsl⟩ := hs
          subst hck
          obtain ⟨m, rfl⟩ : ∃ m : Nat, n = m := ⟨n.toNat, by omega⟩
          simp only [Int.toNat_natCast] at hg hbytes ⊢
          have hm0 : 0 < m := by omega
          obtain ⟨cc, ce, vs, q1, q2, q3, q4, q5⟩ := hr.obj o _ hcs
          -- what the slice holds
          have hol : ((vs.drop off).take (len * i.size)).length = len * i.size := by
            have := q4.length
            rw [List.length_take, List.length_drop]; omega
          have hfc : (Builtin.firstCells i.size len (.slice (some a) len c)).run P G.w.drew = .ok ((vs.drop off).take (len * i.size)).toArray G.w.drew := by
            refine run_firstCells_some G.w.drew i.size len a len c _ hol fun j v hj => ?_
            rcases hsl with h0 | ⟨rfl, hfit2⟩
            · subst h0
              have : len = 0 := by omega
              subst this
              simp at hj
            · rw [List.getElem?_take, List.getElem?_drop] at hj
              split at hj
              · have := (q5 _ _ hj).1
                show World.cell? _ _ = _
                simp only [Addr.add_lit]
                unfold World.cell?
                have e1 : G.w.drew.heap = G.w.heap := rfl
                simp only [e1, q1]
                rw [show (G.μ o).2.1 + off + j = (G.μ o).2.1 + (off + j) by omega]
                exact this
              · cases hj
          have hn63 : ((len + m : Nat) : Int) ≤ 9223372036854775807 := by
            have : (len + m) * 1 ≤ (len + m) * i.bytes := Nat.mul_le_mul_left _ (by omega)
            omega
          have hmb : m * i.bytes ≤ 281474976710656 := by
            have : m * i.bytes ≤ (len + m) * i.bytes := Nat.mul_le_mul_right _ (by omega)
            omega
          have q := Go.Lib.run_append_grow_zeros (P := P) (ty := ty) G.w ts tx e i z kq kn hu hux hi hz (some a) len c _ hfc m hm0 (by omega) hg hn63 hmb (growslice_fits hg hbytes)
          generalize hcap : grownCap G.w (len + m) c e = cap at q
          have hge : len + m ≤ cap := by rw [← hcap]; exact grownCap_ge _ _ _ _
          generalize hrow : ((vs.drop off).take (len * i.size)).toArray ++ Builtin.zeroCells z.cells m ++ Builtin.zeroCells z.cells (cap - (len + m)) = row at q
          have hsize : row.size = cap * i.size := by
            rw [← hrow]
            simp only [Array.size_append, List.size_toArray, size_zeroCells, hzs, hol, ← Nat.add_mul]
            congr 1
            omega
          have hzm : (Builtin.zeroCells z.cells m).toList = (madeCells z.cells (m * i.size)).toList := by
            rw [← hzs]
            apply List.ext_getElem?
            intro j
            have : z.cells.size ≠ 0 := by rw [hzs]; exact hs0
            rw [Array.getElem?_toList, Array.getElem?_toList, getElem?_madeCells]
            unfold Builtin.zeroCells
            simp only [Array.getElem?_map]
            by_cases hj : j < m * z.cells.size
            · rw [if_pos hj]
              simp [hj]
            · rw [if_neg hj]
              simp [hj]
          have hzr : VRs G (zrow (z.cells.toList.map .lit) m) (Builtin.zeroCells z.cells m).toList := by
            rw [hzm, ← hzs]
            exact zrow_made m (by rw [hzs]; exact hs0)
          have hall : VRs G ((cs.drop off).take (len * i.size) ++ zrow (z.cells.toList.map .lit) m) ((vs.drop off).take (len * i.size) ++ (Builtin.zeroCells z.cells m).toList) := ((q4.drop off).take _).append hzr
          have hlen := hall.length
          let G1 : Cfg := { G with w := G.w.drew }
          have hr1 : HR G1 H := hr.drew
          have hR : HR (G1.new (.cells row e) (cap * i.size)) (H ++ [some (.cells ((cs.drop off).take (len * i.size) ++ zrow (z.cells.toList.map .lit) m))]) := by
            refine hr1.newCells row e (by rw [hsize]; exact Nat.le_refl _) ?_ (hall.evo (Evo.drew G)) ?_
            · rw [hlen, List.length_append, hol, Array.length_toList, size_zeroCells, hzs, ← Nat.add_mul]
              exact Nat.mul_le_mul_right _ hge
            · intro j v hj
              refine ⟨?_, ?_⟩
              · have hj' : (((vs.drop off).take (len * i.size)).toArray ++ Builtin.zeroCells z.cells m)[j]? = some v := by
                  rw [← Array.getElem?_toList, Array.toList_append]; exact hj
                rw [← hrow, Array.getElem?_append_left (Array.getElem?_eq_some_iff.1 hj').1]
                exact hj'
              · rcases List.mem_append.1 (List.mem_of_getElem? hj) with hm | hm
                · obtain ⟨k', hk'⟩ := List.mem_iff_getElem?.1 (List.mem_of_mem_take hm)
                  rw [List.getElem?_drop] at hk'
                  exact (q5 _ _ hk').2
                · rw [hzm] at hm
                  exact made_one _ (fun u hu => List.all_eq_true.1 hone u hu) (by rw [hzs]; exact hs0) v hm
          have hμ : (G1.new (.cells row e) (cap * i.size)).μ H.length = (G.w.heap.size, 0, cap * i.size) := by simp [Cfg.new, G1, hr.n]
          refine ⟨G1.new (.cells row e) (cap * i.size), _, q, (Evo.drew G).trans (Evo.new G1 _ _), ?_, hR⟩
          simp only [VR]
          refine ⟨by simp [Cfg.new, G1, hr.n], _, _, rfl, hge, ?_⟩
          rw [hμ]
          exact ⟨hge, .inr ⟨rfl, by simp⟩⟩
        · cases h
      · cases h
    · cases h
  · cases h
end
end Go.Proofs.Ythgkepaadkmhoaa.Av
