/- Calls that leave nothing behind: what a function answers from an empty heap it answers from any, and what it made is frozen. -/
import Derived.Test.YthgkepaadkmhoaaAvW
set_option linter.unusedVariables false
set_option linter.unusedSimpArgs false
namespace Go.Proofs.Ythgkepaadkmhoaa.Av
open Go Go.RowKit

def mapO (f : AV → Option AV) : List AV → Option (List AV)
  | [] => some []
  | a :: r => match f a, mapO f r with
    | some x, some xs => some (x :: xs)
    | _, _ => none
/-- A value, with all that it names in the heap X, as memory that nobody writes. -/
def frz (X : AH) : Nat → AV → Option AV
  | 0, _ => none
  | n + 1, a => match a with
    | .lit v => some (.lit v)
    | .ptr o off => match X[o]? with
      | some (some (.cells cs)) => (mapO (frz X n) (cs.drop off)).map .ip
      | _ => none
    | .ip cs => (mapO (frz X n) cs).map .ip
    | .sl o off len esz _ => match X[o]? with
      | some (some (.cells cs)) => (mapO (frz X n) ((cs.drop off).take (len * esz))).map (.imm · len esz)
      | _ => none
    | .imm cs len esz => (mapO (frz X n) cs).map (.imm · len esz)
    | .mp _ => none
    | .agg cs => (mapO (frz X n) cs).map .agg
    | .tup cs => (mapO (frz X n) cs).map .tup
    | .fn f a b => match mapO (frz X n) a, mapO (frz X n) b with
      | some a, some b => some (.fn f a b)
      | _, _ => none
    | .emp => some .emp
    | .junk => some .junk
theorem mapO_ok {G' G'' : Cfg} {f : AV → Option AV} (hf : ∀ a v r, VR G' a v → f a = some r → VR G'' r v) : ∀ {as rs : List AV} {vs : List Value}, VRs G' as vs → mapO f as = some rs → VRs G'' rs vs
  | [], rs, vs, h, he => by
    simp only [mapO] at he
    injection he with he
    subst he
    simpa only [VRs] using h
  | a :: as, rs, vs, h, he => by
    simp only [mapO] at he
    split at he
    · rename_i x xs hx hxs
      injection he with he
      subst he
      simp only [VRs] at h ⊢
      obtain ⟨v, r, e, h1, h2⟩ := h
      exact ⟨v, r, e, hf _ _ _ h1 hx, mapO_ok hf h2 hxs⟩
    · cases he
theorem Has.move {G' G'' : Cfg} (hw : G''.w = G'.w) (hp : ∀ b, ¬ (G'.L b ∨ G'.K b) → ¬ (G''.L b ∨ G''.K b)) {ad : Addr} {vs : List Value} (h : Has G' ad vs) : Has G'' ad vs := by
  rcases h with h | ⟨h1, h2⟩
  · exact .inl h
  · refine .inr ⟨hp _ h1, ?_⟩
    rw [hw]; exact h2
theorem Has.of_obj {G' G'' : Cfg} (hw : G''.w = G'.w) {X : AH} (hr : HR G' X) {o : Nat} {cs : List AV} (ho : X[o]? = some (some (.cells cs))) (hN : ¬ (G''.L (G'.μ o).1 ∨ G''.K (G'.μ o).1)) (off : Nat) :
    ∃ vs, VRs G' (cs.drop off) vs ∧ Has G'' ⟨(G'.μ o).1, (G'.μ o).2.1 + off, none⟩ vs := by
  obtain ⟨c, e, vs, h1, h2, h3, h4, h5⟩ := hr.obj o _ ho
  refine ⟨vs.drop off, h4.drop off, .inr ⟨hN, fun i v hv => ?_⟩⟩
  rw [List.getElem?_drop] at hv
  obtain ⟨a, b⟩ := h5 _ _ hv
  refine ⟨?_, b⟩
  rw [Addr.add_lit, hw]
  unfold World.cell?
  rw [h1]
  simpa [Nat.add_assoc] using a
theorem frz_ok {G' G'' : Cfg} (hw : G''.w = G'.w) (hp : ∀ b, ¬ (G'.L b ∨ G'.K b) → ¬ (G''.L b ∨ G''.K b)) {X : AH} (hr : HR G' X) (hX : ∀ (o : Nat) (x : AObj), X[o]? = some (some x) → ¬ (G''.L (G'.μ o).1 ∨ G''.K (G'.μ o).1)) :
    ∀ (n : Nat) (a : AV) (v : Value) (r : AV), VR G' a v → frz X n a = some r → VR G'' r v
  | 0, a, v, r, h, he => by cases he
  | n + 1, a, v, r, h, he => by
    have ih := frz_ok hw hp hr hX n
    cases a with
    | lit u => simp only [frz] at he; injection he with he; subst he; simpa only [VR] using h
    | ptr o off =>
      simp only [frz] at he
      split at he
      · rename_i cs ho
        obtain ⟨rs, hrs, rfl⟩ := Option.map_eq_some_iff.1 he
        simp only [VR] at h ⊢
        obtain ⟨vs, h1, h2⟩ := Has.of_obj hw hr ho (hX _ _ ho) off
        exact ⟨_, vs, h.2, h2, mapO_ok ih h1 hrs⟩
      · cases he
    | ip cs =>
      simp only [frz] at he
      obtain ⟨rs, hrs, rfl⟩ := Option.map_eq_some_iff.1 he
      simp only [VR] at h ⊢
      obtain ⟨ad, vs, e, h1, h2⟩ := h
      exact ⟨ad, vs, e, h1.move hw hp, mapO_ok ih h2 hrs⟩
    | sl o off len esz cap =>
      simp only [frz] at he
      split at he
      · rename_i cs ho
        obtain ⟨rs, hrs, rfl⟩ := Option.map_eq_some_iff.1 he
        simp only [VR] at h ⊢
        obtain ⟨ho', a, c, rfl, hlc, hs⟩ := h
        obtain ⟨vs, h1, h2⟩ := Has.of_obj hw hr ho (hX _ _ ho) off
        by_cases hz : len * esz = 0
        · rw [hz] at hrs
          simp only [List.take_zero, mapO] at hrs
          injection hrs with hrs
          subst hrs
          exact ⟨a, c, [], rfl, hlc, .inl rfl, .nil⟩
        · have ha : a = ⟨(G'.μ o).1, (G'.μ o).2.1 + off, none⟩ := by
            have hlen : len ≠ 0 := fun h0 => hz (by rw [h0, Nat.zero_mul])
            unfold SlAt at hs
            split at hs
            · obtain ⟨rfl, h0 | h0⟩ := hs
              · omega
              · exact h0.1
            · rcases hs with ⟨_, h0 | h0⟩
              · omega
              · exact h0.1
          refine ⟨a, c, vs.take (len * esz), rfl, hlc, ?_, mapO_ok ih (h1.take _) hrs⟩
          rw [ha]
          exact h2.take _
      · cases he
    | imm cs len esz =>
      simp only [frz] at he
      obtain ⟨rs, hrs, rfl⟩ := Option.map_eq_some_iff.1 he
      simp only [VR] at h ⊢
      obtain ⟨ad, c, vs, e, hl, h1, h2⟩ := h
      exact ⟨ad, c, vs, e, hl, h1.move hw hp, mapO_ok ih h2 hrs⟩
    | mp o => cases he
    | agg cs =>
      simp only [frz] at he
      obtain ⟨rs, hrs, rfl⟩ := Option.map_eq_some_iff.1 he
      simp only [VR] at h ⊢
      obtain ⟨vs, e, h2⟩ := h
      exact ⟨vs, e, mapO_ok ih h2 hrs⟩
    | tup cs =>
      simp only [frz] at he
      obtain ⟨rs, hrs, rfl⟩ := Option.map_eq_some_iff.1 he
      simp only [VR] at h ⊢
      obtain ⟨vs, e, h2⟩ := h
      exact ⟨vs, e, mapO_ok ih h2 hrs⟩
    | fn f a b =>
      simp only [frz] at he
      split at he
      · rename_i x y hx hy
        injection he with he
        subst he
        simp only [VR] at h ⊢
        obtain ⟨va, vb, e, h1, h2⟩ := h
        exact ⟨va, vb, e, mapO_ok ih h1 hx, mapO_ok ih h2 hy⟩
      · cases he
    | emp => simp only [frz] at he; injection he with he; subst he; simpa only [VR] using h
    | junk => simp only [frz] at he; injection he with he; subst he; simp only [VR]

mutual
/-- Values that name no object. -/
def noIds : AV → Bool
  | .lit _ => true
  | .ptr .. => false
  | .ip cs => noIdss cs
  | .sl .. => false
  | .imm cs _ _ => noIdss cs
  | .mp _ => false
  | .agg cs => noIdss cs
  | .tup cs => noIdss cs
  | .fn _ a b => noIdss a && noIdss b
  | .emp => true
  | .junk => true
def noIdss : List AV → Bool
  | [] => true
  | a :: r => noIds a && noIdss r
end
mutual
theorem noIds_bel : ∀ {a : AV}, noIds a = true → Bel 0 a
  | .lit _, _ => by simp only [Bel]
  | .ptr .., h => by simp [noIds] at h
  | .ip cs, h => by simp only [noIds] at h; simp only [Bel]; exact noIdss_bel h
  | .sl .., h => by simp [noIds] at h
  | .imm cs _ _, h => by simp only [noIds] at h; simp only [Bel]; exact noIdss_bel h
  | .mp _, h => by simp [noIds] at h
  | .agg cs, h => by simp only [noIds] at h; simp only [Bel]; exact noIdss_bel h
  | .tup cs, h => by simp only [noIds] at h; simp only [Bel]; exact noIdss_bel h
  | .fn _ a b, h => by simp only [noIds, Bool.and_eq_true] at h; simp only [Bel]; exact ⟨noIdss_bel h.1, noIdss_bel h.2⟩
  | .emp, _ => by simp only [Bel]
  | .junk, _ => by simp only [Bel]
theorem noIdss_bel : ∀ {as : List AV}, noIdss as = true → Bels 0 as
  | [], _ => by simp only [Bels]
  | a :: r, h => by simp only [noIdss, Bool.and_eq_true] at h; simp only [Bels]; exact ⟨noIds_bel h.1, noIdss_bel h.2⟩
end

section
variable {P : Program}
theorem alien_has {G : Cfg} {G' : Cfg} (hw : G'.w = G.w) (hL : ∀ b, ¬ G'.L b) (hK : ∀ b, G'.K b → G.L b ∨ G.K b) {ad : Addr} {vs : List Value} (h : Has G ad vs) : Has G' ad vs :=
  Has.move hw (fun b hn hh => hn (hh.elim (fun h => (hL b h).elim) (hK b))) h
/-- Everything that was there belongs to others now. -/
def Cfg.alien (G : Cfg) : Cfg := { w := G.w, n := 0, μ := G.μ, L := fun _ => False, K := fun b => G.L b ∨ G.K b }
mutual
theorem VR.alien {G : Cfg} : ∀ {a : AV} {v : Value}, VR G a v → Bel 0 a → VR G.alien a v
  | .lit _, _, hv, _ => by simpa only [VR] using hv
  | .ptr o off, v, hv, hb => by simp only [Bel] at hb; omega
  | .ip cs, v, hv, hb => by simp only [VR] at hv ⊢; simp only [Bel] at hb; obtain ⟨x, y, z, t, h⟩ := hv; exact ⟨x, y, z, alien_has (G := G) (G' := G.alien) rfl (fun _ h => h) (fun _ h => h) t, VRs.alien h hb⟩
  | .sl o off len esz cap, v, hv, hb => by simp only [Bel] at hb; omega
  | .imm cs len esz, v, hv, hb => by simp only [VR] at hv ⊢; simp only [Bel] at hb; obtain ⟨x, y, z, t, u, s, h⟩ := hv; exact ⟨x, y, z, t, u, alien_has (G := G) (G' := G.alien) rfl (fun _ h => h) (fun _ h => h) s, VRs.alien h hb⟩
  | .mp o, v, hv, hb => by simp only [Bel] at hb; omega
  | .agg cs, v, hv, hb => by simp only [VR] at hv ⊢; simp only [Bel] at hb; obtain ⟨x, y, h⟩ := hv; exact ⟨x, y, VRs.alien h hb⟩
  | .tup cs, v, hv, hb => by simp only [VR] at hv ⊢; simp only [Bel] at hb; obtain ⟨x, y, h⟩ := hv; exact ⟨x, y, VRs.alien h hb⟩
  | .fn f a b, v, hv, hb => by simp only [VR] at hv ⊢; simp only [Bel] at hb; obtain ⟨x, y, z, h, k⟩ := hv; exact ⟨x, y, z, VRs.alien h hb.1, VRs.alien k hb.2⟩
  | .emp, _, hv, _ => by simpa only [VR] using hv
  | .junk, _, _, _ => by simp only [VR]
theorem VRs.alien {G : Cfg} : ∀ {as : List AV} {vs : List Value}, VRs G as vs → Bels 0 as → VRs G.alien as vs
  | [], _, hv, _ => by simpa only [VRs] using hv
  | a :: as, vs, hv, hb => by simp only [VRs] at hv ⊢; simp only [Bels] at hb; obtain ⟨x, y, z, h, k⟩ := hv; exact ⟨x, y, z, VR.alien h hb.1, VRs.alien k hb.2⟩
end
/-- What is answered from an empty heap is answered from any, and the heap is as it was. -/
theorem ACalls.pure {f : FuncId} {args : List AV} {R : AV → AH → Prop} {R' : AV → Prop} (h : ACalls P f args [] R) (hb : Bels 0 args) (hR : ∀ r X, R r X → ∃ n r', frz X n r = some r' ∧ R' r') (H : AH) :
    ACalls P f args H fun r' H' => R' r' ∧ H' = H := by
  intro G vs hH hv
  have h0 : HR G.alien [] := ⟨rfl, fun o x h => by simp at h, fun o o' x x' h => by simp at h, fun o x h => by simp at h, fun b h => by
    rcases h with h | h
    · exact h.elim
    · exact hH.lt b h⟩
  refine (h G.alien vs h0 (hv.alien hb)).mono ?_
  rintro e w' ⟨r, X, G', v, rfl, rfl, hE, hx, hX, hq⟩
  obtain ⟨n, r', hf, hr'⟩ := hR r X hq
  have keep : ∀ k, k < G.w.heap.size → G'.w.heap[k]? = G.w.heap[k]? ∧ ¬ G'.L k := fun k hk => hE.keep k hk (fun h => h)
  let G'' : Cfg := { w := G'.w, n := G.n, μ := G.μ, L := G.L, K := G.K }
  have hE' : Evo G G'' := ⟨hE.os, hE.tape, hE.output, hE.size, fun k hk hL => ⟨(keep k hk).1, hL⟩, Nat.le_refl _, fun _ _ => rfl, rfl⟩
  refine ⟨r', H, G'', v, rfl, rfl, hE', ?_, ?_, hr', rfl⟩
  · refine frz_ok (G' := G') (G'' := G'') rfl ?_ hX ?_ n r v r' hx hf
    · intro b hn hh
      refine hn (.inr ?_)
      rw [hE.K]
      exact hh
    · intro o x ho hh
      have h1 := hX.live o x ho
      have h2 : (G'.μ o).1 < G.w.heap.size := hH.lt _ hh
      exact (keep _ h2).2 h1
  · exact ⟨hH.n, fun o x ho => OR.evo hE' (hH.lt_n ho) (keep _ (hH.lt _ (.inl (hH.live _ _ ho)))).1 (hH.obj o x ho), hH.inj, hH.live, fun b hb => Nat.lt_of_lt_of_le (hH.lt b hb) hE.size⟩
theorem acall_run {G : Cfg} {ρ : Operand → AV} {ρc : Operand → Value} (hf : ∀ x, VR G (ρ x) (ρc x)) {o : Oper} {k : FuncId} {args : List AV} (h : acall ρ o = some (k, args)) (w : World) :
    ∃ vs : List Value, VRs G args vs ∧ (execOp ρc o).run P w = (callFunc k vs.toArray).run P w := by
  obtain ⟨dst, op, type, pos, after, guard⟩ := o
  unfold acall at h
  split at h
  · rename_i f args' ats hop
    simp only at hop
    subst hop
    split at h
    · rename_i k' first cap hfn
      injection h with h
      injection h with h1 h2
      subst h1; subst h2
      have hv := hf f
      rw [hfn] at hv
      simp only [VR] at hv
      obtain ⟨va, vb, hv, ha, hb⟩ := hv
      have hm := VRs.map_ops hf args'.toList
      refine ⟨va.toList ++ args'.toList.map ρc ++ vb.toList, (ha.append hm).append hb, ?_⟩
      have he : (va.toList ++ args'.toList.map ρc ++ vb.toList).toArray = va ++ args'.map ρc ++ vb := by
        apply Array.ext'
        simp
      rw [he]
      simp [execOp, resolve, hv, Deferred.ofValue, invoke]
    · cases h
  · cases h
/-- A call of a function without a text, whose answer the model tells. -/
theorem AOps.extern {ops : Array Oper} {Q : AQ} {o : Oper} {rest : List Oper} {T : List AV} {H : AH} {k : FuncId} {args : List AV} {r : AV} (hw : awanted ops T o = some true) (h : acall (aeval T) o = some (k, args))
    (hk : ∀ (G : Cfg) (vs : List Value), HR G H → VRs G args vs → ∃ u, (callFunc k vs.toArray).run P G.w = .ok (.value u) G.w ∧ VR G r u) (hr : AOps P ops Q rest (aput T o.dst r) H) : AOps P ops Q (o :: rest) T H := by
  intro G0 G a hE hF hd hH
  unfold wpList
  rw [if_pos (awanted_ok hF hw)]
  left
  obtain ⟨vs, hvs, hrun⟩ := acall_run (P := P) (fun x => hF.eval x) h G.w
  obtain ⟨u, hu, hx⟩ := hk G vs hH hvs
  unfold Oper.wp
  rw [hrun, hu]
  exact hr G0 G _ hE (hF.put o.dst hx) (by cases o.dst <;> exact hd) hH
end
end Go.Proofs.Ythgkepaadkmhoaa.Av
