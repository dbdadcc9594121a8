/- The abstract machine's operations that leave the heap alone, each with its soundness: the model's run gives a value that the abstract one stands for. -/
import Derived.Test.YthgkepaadkmhoaaAvH
import Derived.Laws.Cells
import Derived.Laws.StructEq
import Derived.Laws.BytesString
set_option linter.unusedVariables false
set_option linter.unusedSimpArgs false
namespace Go.Proofs.Ythgkepaadkmhoaa.Av
open Go Go.RowKit

def undefA : AV := .lit undef
def AV.ofV : Value → AV
  | .agg cs => .agg (cs.toList.map .lit)
  | v => .lit v
theorem VR.ofV (G : Cfg) (v : Value) : VR G (.ofV v) v := by
  cases v <;> simp only [AV.ofV, VR]
  exact ⟨_, rfl, .lits _⟩
def aeval (T : List AV) : Operand → AV
  | .tmp t => T.getD t undefA
  | .const v => .ofV v
  | .global g => .lit (.pointer (some ⟨g, 0, none⟩))
  | .func f => .fn (.func f) [] []
/-- The frame's slots. -/
def FR (G : Cfg) (T : List AV) (a : Act) : Prop := VRs G T a.tmps.toList
theorem FR.eval {G : Cfg} {T : List AV} {a : Act} (h : FR G T a) (x : Operand) : VR G (aeval T x) (a.eval x) := by
  cases x with
  | tmp t =>
    simp only [aeval, Act.eval]
    have := VRs.getD h t (a := undefA) (v := undef) (by simp only [undefA, VR])
    simpa [Array.getD_eq_getD_getElem?, List.getD_eq_getElem?_getD] using this
  | const v => exact .ofV G v
  | global g => simp only [aeval, Act.eval, VR]
  | func f => simp only [aeval, Act.eval, VR]; exact ⟨_, _, rfl, .nil, .nil⟩
def aput (T : List AV) : Option Tmp → AV → List AV
  | some d, v => T.set d v
  | none, _ => T
theorem FR.put {G : Cfg} {T : List AV} {a : Act} (h : FR G T a) (dst : Option Tmp) {x : AV} {v : Value} (hx : VR G x v) : FR G (aput T dst x) (a.put dst v) := by
  cases dst with
  | none => exact h
  | some d =>
    show VRs G _ (a.tmps.setIfInBounds d v).toList
    rw [Array.toList_setIfInBounds]
    exact VRs.set h d hx
theorem FR.evo {G G' : Cfg} {T : List AV} {a : Act} (hE : Evo G G') (h : FR G T a) : FR G' T a := VRs.evo hE h

/-! ### types -/
def tSize (P : Program) (t : TypeId) : Option Nat := (P.info? t).map (·.size)
def isAggD : TypeDesc → Bool
  | .struct _ | .array _ _ => true
  | _ => false
def tAgg (P : Program) (t : TypeId) : Option Bool := (P.underlying t).map isAggD

section
variable {P : Program} {G : Cfg} {w : World}
theorem run_sizeOf {t : TypeId} {n : Nat} (h : tSize P t = some n) : (sizeOf t).run P w = .ok n w := by
  unfold tSize at h
  obtain ⟨i, hi, rfl⟩ := Option.map_eq_some_iff.1 h
  simp [sizeOf, typeInfo, hi]
theorem run_isAgg {t : TypeId} {g : Bool} (h : tAgg P t = some g) : (isAgg t).run P w = .ok g w := by
  unfold tAgg at h
  obtain ⟨d, hd, rfl⟩ := Option.map_eq_some_iff.1 h
  unfold isAgg
  simp only [Sem.run_bind, run_underlying hd, Result.andThen_ok]
  cases d <;> rfl

/-! ### cells read -/
def rdCells (agg : Bool) (size : Nat) (cs : List AV) (off : Nat) : Option AV :=
  if agg then (if off + size ≤ cs.length then some (.agg ((cs.drop off).take size)) else none) else cs[off]?

theorem add_add (a : Addr) (i j : Nat) : (a.add i).add j = a.add (i + j) := by
  unfold Addr.add
  by_cases hi : i = 0
  · subst hi; simp
  · by_cases hj : j = 0
    · subst hj; simp [hi]
    · have : i + j ≠ 0 := by omega
      simp [hi, hj, this, Nat.add_assoc]
theorem Has.shift {ad : Addr} {vs : List Value} (h : Has G ad vs) (k : Nat) : Has G (ad.add k) (vs.drop k) := by
  rcases h with rfl | ⟨hL, hc⟩
  · exact .inl (by simp)
  · refine .inr ⟨by rw [add_block]; exact hL, fun i v hv => ?_⟩
    rw [add_add]
    rw [List.getElem?_drop] at hv
    exact hc _ _ hv
theorem Has.take {ad : Addr} {vs : List Value} (h : Has G ad vs) (k : Nat) : Has G ad (vs.take k) := by
  rcases h with rfl | ⟨hL, hc⟩
  · exact .inl (by simp)
  · refine .inr ⟨hL, fun i v hv => ?_⟩
    rw [List.getElem?_take] at hv
    split at hv
    · exact hc _ _ hv
    · cases hv
theorem run_loadVar {t : TypeId} {g : Bool} {n : Nat} (hg : tAgg P t = some g) (hn : tSize P t = some n) {ad : Addr} {vs : List Value} {cs : List AV}
    (hc : ∀ (i : Nat) (v : Value), vs[i]? = some v → w.cell? (ad.add i) = some v) (hv : VRs G cs vs) {off : Nat} {r : AV} (hr : rdCells g n cs off = some r) :
    ∃ u, (loadVar t (ad.add off)).run P w = .ok u w ∧ VR G r u := by
  unfold rdCells at hr
  cases g with
  | true =>
    simp only [if_true] at hr
    split at hr
    · rename_i hle
      injection hr with hr
      subst hr
      have hl := hv.length
      refine ⟨.agg ((vs.drop off).take n).toArray, ?_, ?_⟩
      · have h := run_loadCells_list (P := P) w (ad.add off) ((vs.drop off).take n) (fun j v hj => by
          rw [add_add]
          rw [List.getElem?_take] at hj
          split at hj
          · rw [List.getElem?_drop] at hj; exact hc _ _ hj
          · cases hj)
        rw [show ((vs.drop off).take n).length = n by rw [List.length_take, List.length_drop]; omega] at h
        simp only [loadVar, Sem.run_bind, run_isAgg hg, Result.andThen_ok, if_true, run_sizeOf hn, h, Sem.run_pure]
      · simp only [VR]
        exact ⟨_, rfl, by simpa using (hv.drop off).take n⟩
    · cases hr
  | false =>
    simp only [Bool.false_eq_true, if_false] at hr
    obtain ⟨u, hu, hx⟩ := hv.get hr
    refine ⟨u, ?_, hx⟩
    simp only [loadVar, Sem.run_bind, run_isAgg hg, Result.andThen_ok, Bool.false_eq_true, if_false, run_load, hc _ _ hu]

/-- An object's cells, in the world. -/
theorem HR.cells {H : AH} (hr : HR G H) {o : Nat} {cs : List AV} (ho : H[o]? = some (some (.cells cs))) :
    ∃ vs, VRs G cs vs ∧ ∀ (i : Nat) (v : Value), vs[i]? = some v → G.w.cell? ((⟨(G.μ o).1, (G.μ o).2.1, none⟩ : Addr).add i) = some v ∧ v.oneCell' = true := by
  obtain ⟨c, e, vs, h1, h2, h3, h4, h5⟩ := hr.obj _ _ ho
  refine ⟨vs, h4, fun i v hv => ?_⟩
  obtain ⟨this, h6⟩ := h5 i v hv
  refine ⟨?_, h6⟩
  rw [Addr.add_lit]
  simp [World.cell?, h1, this]

def aload (P : Program) (H : AH) (t : TypeId) (a : AV) : Option AV :=
  match tAgg P t, tSize P t with
  | some g, some n => match a with
    | .ptr o off => match H[o]? with
      | some (some (.cells cs)) => rdCells g n cs off
      | _ => none
    | .ip cs => rdCells g n cs 0
    | _ => none
  | _, _ => none
theorem aload_ok {H : AH} (hr : HR G H) {t : TypeId} {a r : AV} {v : Value} (hv : VR G a v) (h : aload P H t a = some r) :
    ∃ u, (Instr.loadAt t v).run P G.w = .ok u G.w ∧ VR G r u := by
  unfold aload at h
  split at h
  · rename_i g n hg hn
    split at h
    · rename_i o off
      split at h
      · rename_i cs ho
        simp only [VR] at hv
        obtain ⟨_, rfl⟩ := hv
        obtain ⟨vs, h1, h2⟩ := hr.cells ho
        obtain ⟨u, hu, hx⟩ := run_loadVar (w := G.w) hg hn (fun i v hv => (h2 i v hv).1) h1 h
        rw [Addr.add_lit] at hu
        exact ⟨u, by simpa [Instr.loadAt, Instr.sureAddr] using hu, hx⟩
      · cases h
    · rename_i cs
      simp only [VR] at hv
      obtain ⟨ad, vs, rfl, hh, hs⟩ := hv
      have hc : ∀ (i : Nat) (v : Value), vs[i]? = some v → G.w.cell? (ad.add i) = some v := by
        rcases hh with rfl | ⟨_, hc⟩
        · intro i v hv; simp at hv
        · exact fun i v hv => (hc i v hv).1
      obtain ⟨u, hu, hx⟩ := run_loadVar (w := G.w) hg hn hc hs h
      rw [show ad.add 0 = ad from rfl] at hu
      exact ⟨u, by simpa [Instr.loadAt, Instr.sureAddr] using hu, hx⟩
    · cases h
  · cases h

/-! ### addresses -/
def afieldAt (P : Program) (s : TypeId) (f : Nat) : Option Nat :=
  match P.underlying s with
  | some (.struct fields) => match fields[f]? with
    | some fl => match tSize P fl.type with
      | some (_ + 1) => some fl.offset
      | _ => none
    | none => none
  | _ => none
def ashift (k : Nat) : AV → Option AV
  | .ptr o off => some (.ptr o (off + k))
  | .ip cs => some (.ip (cs.drop k))
  | _ => none
theorem ashift_ok {k : Nat} {a r : AV} {v : Value} (hv : VR G a v) (h : ashift k a = some r) : ∃ ad : Addr, v = .pointer (some ad) ∧ VR G r (.pointer (some (ad.add k))) := by
  unfold ashift at h
  split at h
  · injection h with h
    subst h
    simp only [VR] at hv ⊢
    obtain ⟨ho, rfl⟩ := hv
    exact ⟨_, rfl, ho, by rw [Addr.add_lit, Nat.add_assoc]⟩
  · injection h with h
    subst h
    simp only [VR] at hv ⊢
    obtain ⟨ad, vs, rfl, hh, hs⟩ := hv
    exact ⟨_, rfl, _, _, rfl, hh.shift k, hs.drop k⟩
  · cases h
def afieldAddr (P : Program) (s : TypeId) (a : AV) (f : Nat) : Option AV := (afieldAt P s f).bind fun k => ashift k a
theorem afieldAddr_ok {s : TypeId} {f : Nat} {a r : AV} {v : Value} (hv : VR G a v) (h : afieldAddr P s a f = some r) :
    ∃ u, (Instr.fieldAt s v f).run P w = .ok u w ∧ VR G r u := by
  unfold afieldAddr at h
  obtain ⟨k, hk, h⟩ := Option.bind_eq_some_iff.1 h
  obtain ⟨ad, rfl, hr⟩ := ashift_ok hv h
  refine ⟨_, ?_, hr⟩
  unfold afieldAt at hk
  split at hk
  · rename_i fields hu
    split at hk
    · rename_i fl hf
      split at hk
      · rename_i m hm
        injection hk with hk
        subst hk
        simp [Instr.fieldAt, run_underlying hu, hf, Instr.sureAddr, fieldPlace, run_sizeOf hm]
      · cases hk
    · cases hk
  · cases hk
def aint : AV → Option Int
  | .lit (.int _ n) => some n
  | _ => none
theorem aint_ok {a : AV} {v : Value} {n : Int} (hv : VR G a v) (h : aint a = some n) : ∃ k, v = .int k n := by
  unfold aint at h
  split at h
  · injection h with h; subst h; simp only [VR] at hv; exact ⟨_, hv⟩
  · cases h
def aindexAddr (P : Program) (t : TypeId) (x i : AV) : Option AV :=
  match aint i with
  | none => none
  | some n => match P.underlying t with
    | some (.slice e) => match tSize P e with
      | none => none
      | some sz => match x with
        | .sl o off len _ _ => if 0 ≤ n ∧ n < len then some (.ptr o (off + n.toNat * sz)) else none
        | .imm cs len _ => if 0 ≤ n ∧ n < len then some (.ip (cs.drop (n.toNat * sz))) else none
        | _ => none
    | some (.array len e) => match tSize P e with
      | none => none
      | some sz => if 0 ≤ n ∧ n < len then ashift (n.toNat * sz) x else none
    | _ => none
theorem aindexAddr_ok {t : TypeId} {x i r : AV} {v vi : Value} (hv : VR G x v) (hi : VR G i vi) (h : aindexAddr P t x i = some r) :
    ∃ u, (Instr.indexAt t v vi).run P w = .ok u w ∧ VR G r u := by
  unfold aindexAddr at h
  split at h
  · cases h
  rename_i n hn
  obtain ⟨k, rfl⟩ := aint_ok hi hn
  split at h
  · rename_i e hu
    split at h
    · cases h
    rename_i sz hsz
    split at h
    · rename_i o off len esz cap
      split at h
      · rename_i hb
        injection h with h
        subst h
        simp only [VR] at hv
        obtain ⟨ho, a, c, rfl, hlc, hat⟩ := hv
        have ha : a = ⟨(G.μ o).1, (G.μ o).2.1 + off, none⟩ := by
          unfold SlAt at hat
          split at hat
          · obtain ⟨rfl, h0 | h0⟩ := hat
            · omega
            · exact h0.1
          · rcases hat with ⟨_, h0 | h0⟩
            · omega
            · exact h0.1
        subst ha
        refine ⟨.pointer (some ((⟨(G.μ o).1, (G.μ o).2.1 + off, none⟩ : Addr).add (n.toNat * sz))), ?_, ?_⟩
        · simp [Instr.indexAt, asIntOf, run_underlying hu, hb, run_sizeOf hsz]
        · simp only [VR, Addr.add_lit]
          exact ⟨ho, by simp [Nat.add_assoc]⟩
      · cases h
    · rename_i cs len esz
      split at h
      · rename_i hb
        injection h with h
        subst h
        simp only [VR] at hv
        obtain ⟨ad, c, vs, rfl, hlc, hh, hs⟩ := hv
        refine ⟨.pointer (some (ad.add (n.toNat * sz))), ?_, ?_⟩
        · simp [Instr.indexAt, asIntOf, run_underlying hu, hb, run_sizeOf hsz]
        · simp only [VR]
          exact ⟨_, _, rfl, hh.shift _, hs.drop _⟩
      · cases h
    · cases h
  · rename_i len e hu
    split at h
    · cases h
    rename_i sz hsz
    split at h
    · rename_i hb
      obtain ⟨ad, rfl, hr⟩ := ashift_ok hv h
      exact ⟨_, by simp [Instr.indexAt, asIntOf, run_underlying hu, hb, run_sizeOf hsz, Instr.sureAddr], hr⟩
    · cases h
  · cases h

/-! ### parts of values -/
def apart (P : Program) (t : TypeId) (x : AV) (off : Nat) : Option AV :=
  match tAgg P t, tSize P t, x with
  | some g, some n, .agg cs => rdCells g n cs off
  | _, _, _ => none
theorem run_part {t : TypeId} {x r : AV} {v : Value} {off : Nat} (hv : VR G x v) (h : apart P t x off = some r) :
    ∃ vs u, v = .agg vs ∧ (part t vs off).run P w = .ok u w ∧ VR G r u := by
  unfold apart at h
  split at h
  · rename_i g n cs hg hn
    simp only [VR] at hv
    obtain ⟨vs, rfl, hs⟩ := hv
    unfold rdCells at h
    cases g with
    | true =>
      simp only [if_true] at h
      split at h
      · injection h with h
        subst h
        refine ⟨vs, .agg (vs.extract off (off + n)), rfl, ?_, ?_⟩
        · simp [part, run_isAgg hg, run_sizeOf hn]
        · simp only [VR]
          refine ⟨_, rfl, ?_⟩
          rw [Array.toList_extract, List.extract_eq_take_drop, Nat.add_sub_cancel_left]
          exact (hs.drop off).take n
      · cases h
    | false =>
      simp only [Bool.false_eq_true, if_false] at h
      obtain ⟨u, hu, hx⟩ := hs.get h
      refine ⟨vs, u, rfl, ?_, hx⟩
      have hu' : vs[off]? = some u := by simpa using hu
      simp [part, run_isAgg hg, hu']
  · cases h
def afield (P : Program) (s : TypeId) (x : AV) (f : Nat) : Option AV :=
  match P.underlying s with
  | some (.struct fields) => match fields[f]? with
    | some fl => apart P fl.type x fl.offset
    | none => none
  | _ => none
theorem afield_ok {s : TypeId} {f : Nat} {x r : AV} {v : Value} (hv : VR G x v) (h : afield P s x f = some r) :
    ∃ u, (Instr.field s v f).run P w = .ok u w ∧ VR G r u := by
  unfold afield at h
  split at h
  · rename_i fields hu
    split at h
    · rename_i fl hf
      obtain ⟨vs, u, rfl, hp, hx⟩ := run_part (w := w) hv h
      exact ⟨u, by simp [Instr.field, run_underlying hu, hf, asAgg, hp], hx⟩
    · cases h
  · cases h
def aindex (P : Program) (t : TypeId) (x i : AV) : Option AV :=
  match aint i with
  | none => none
  | some n => match P.underlying t with
    | some (.array len e) => match tSize P e with
      | none => none
      | some sz => if 0 ≤ n ∧ n < len then apart P e x (n.toNat * sz) else none
    | some .string => match x with
      | .lit (.string s) => if 0 ≤ n then (s[n.toNat]?).map fun b => .lit (.int .u8 b.toNat) else none
      | _ => none
    | _ => none
theorem aindex_ok {t : TypeId} {x i r : AV} {v vi : Value} (hv : VR G x v) (hi : VR G i vi) (h : aindex P t x i = some r) :
    ∃ u, (Instr.index t v vi).run P w = .ok u w ∧ VR G r u := by
  unfold aindex at h
  split at h
  · cases h
  rename_i n hn
  obtain ⟨k, rfl⟩ := aint_ok hi hn
  split at h
  · rename_i len e hu
    split at h
    · cases h
    rename_i sz hsz
    split at h
    · rename_i hb
      obtain ⟨vs, u, rfl, hp, hx⟩ := run_part (w := w) hv h
      exact ⟨u, by simp [Instr.index, asIntOf, run_underlying hu, hb, run_sizeOf hsz, hp], hx⟩
    · cases h
  · rename_i hu
    split at h
    · rename_i s
      split at h
      · rename_i h0
        obtain ⟨b, hb, rfl⟩ := Option.map_eq_some_iff.1 h
        simp only [VR] at hv
        subst hv
        refine ⟨.int .u8 b.toNat, ?_, by simp only [VR]⟩
        simp [Instr.index, asIntOf, run_underlying hu, h0, hb]
      · cases h
    · cases h
  · cases h
end
end Go.Proofs.Ythgkepaadkmhoaa.Av
