/- A text's walk as a formula: one operation, with all that its types say worked out. -/
import Derived.Test.YthgkepaadkmhoaaAvXe
set_option linter.unusedVariables false
set_option linter.unusedSimpArgs false
namespace Go.Proofs.Ythgkepaadkmhoaa.Av
open Go Go.RowKit

/-! ### what a formula is made of -/
def bO (x : Option AV) (K : AV → Prop) : Prop := match x with
  | some v => K v
  | none => False
def bH (x : Option (AV × AH)) (K : AV → AH → Prop) : Prop := match x with
  | some (v, H) => K v H
  | none => False
def bS (x : Option AH) (K : AH → Prop) : Prop := match x with
  | some H => K H
  | none => False
def bB (v : AV) (K : Bool → Prop) : Prop := match v with
  | .lit (.bool b) => K b
  | _ => False
def bI (b : Bool) (A B : Prop) : Prop := match b with
  | true => A
  | false => B
def bC (R : AV → AH → Prop) (K : AV → AH → Prop) : Prop := ∃ r H', R r H' ∧ K r H'
def bP (R : AV → Prop) (K : AV → Prop) : Prop := ∃ r, R r ∧ K r
def bF (w : Bool) (f : AV) (K : FuncId → List AV → List AV → Prop) : Prop := match f with
  | .fn (.func k) a b => K k a b
  | _ => match w with
    | true => False
    | false => K 0 [] []
def bG (v : AV) (want : Bool) (K : Bool → Prop) : Prop := match v with
  | .lit (.bool b) => K (b == want)
  | .lit _ => K false
  | _ => False
def gO (w : Bool) (x : Option AV) (K : AV → Prop) : Prop := match w with
  | true => bO x K
  | false => K undefA
def gH (w : Bool) (x : Option (AV × AH)) (H : AH) (K : AV → AH → Prop) : Prop := match w with
  | true => bH x K
  | false => K undefA H
def gS (w : Bool) (x : Option AH) (H : AH) (K : AH → Prop) : Prop := match w with
  | true => bS x K
  | false => K H
def gC (w : Bool) (R : AV → AH → Prop) (H : AH) (K : AV → AH → Prop) : Prop := match w with
  | true => bC R K
  | false => K undefA H
def gP (w : Bool) (R : AV → Prop) (K : AV → Prop) : Prop := match w with
  | true => bP R K
  | false => K undefA
/-- A call of which it is told what may come of it. -/
def bA (C : (AV → AH → Prop) → Prop) (K : AV → AH → Prop) : Prop := ∃ R, C R ∧ ∀ r H', R r H' → K r H'
def gA (w : Bool) (C : (AV → AH → Prop) → Prop) (H : AH) (K : AV → AH → Prop) : Prop := match w with
  | true => bA C K
  | false => K undefA H
/-- A function without a text, whose answer the model tells; it changes nothing. -/
def ExtR (P : Program) (k : FuncId) (args : List AV) (H : AH) (r : AV) : Prop := ∀ (G : Cfg) (vs : List Value), HR G H → VRs G args vs → ∃ u, (callFunc k vs.toArray).run P G.w = .ok (.value u) G.w ∧ VR G r u
def none0 : Nat → Bool := fun _ => false
def bT (b : Bool) (A : Prop) : Prop := match b with
  | true => A
  | false => False

/-! ### operations, their types worked out -/
def apick (c a b : AV) : Option AV := match c with
  | .lit (.bool t) => some (if t then a else b)
  | _ => none
def fillR (cells : List AV) : List (Nat × Nat × AV) → Option (List AV)
  | [] => some cells
  | (off, size, v) :: rest => match cellsA v with
    | some xs => if xs.length = size ∧ off + size ≤ cells.length then fillR (splice cells off xs) rest else none
    | none => none
def places (place : Nat → Option (Nat × Nat)) (ρ : Operand → AV) : List (Nat × Operand) → Option (List (Nat × Nat × AV))
  | [] => some []
  | (i, x) :: r => match place i, places place ρ r with
    | some (o, s), some l => some ((o, s, ρ x) :: l)
    | _, _ => none
theorem places_ok {place : Nat → Option (Nat × Nat)} {ρ : Operand → AV} : ∀ (ps : List (Nat × Operand)) (l : List (Nat × Nat × AV)) (cells : List AV), places place ρ ps = some l → afill place cells (ps.map fun p => (p.1, ρ p.2)) = fillR cells l
  | [], l, cells, h => by simp only [places] at h; injection h with h; subst h; rfl
  | (i, x) :: r, l, cells, h => by
    simp only [places] at h
    split at h
    · rename_i o s l' h1 h2
      injection h with h
      subst h
      simp only [List.map_cons, afill, fillR, h1]
      cases hc : cellsA (ρ x) with
      | none => rfl
      | some xs =>
        simp only
        split
        · exact places_ok r l' _ h2
        · rfl
    · cases h
def abl (zc : List AV) (l : List (Nat × Nat × AV)) : Option AV := (fillR zc l).map .agg
def buildZ (P : Program) (t : TypeId) : Option (List AV × (Nat → Option (Nat × Nat))) :=
  match tZero P t, P.underlying t with
  | some z, some (.struct fields) => match fields.toList.all fun f => (tSize P f.type).isSome with
    | true => some (z.cells.toList.map .lit, fun i => (fields[i]?).bind fun f => (tSize P f.type).map fun n => (f.offset, n))
    | false => none
  | some z, some (.array _ e) => match tSize P e with
    | some sz => some (z.cells.toList.map .lit, fun i => some (i * sz, sz))
    | none => none
  | _, _ => none
theorem buildZ_ok {P : Program} {t : TypeId} {zc : List AV} {pl : Nat → Option (Nat × Nat)} (h : buildZ P t = some (zc, pl)) (parts : List (Nat × AV)) : abuild P t parts = (afill pl zc parts).map .agg := by
  unfold buildZ at h
  unfold abuild
  split at h
  · rename_i z fields hz hu
    rw [hz, hu]
    simp only
    split at h
    · rename_i ha
      injection h with h; injection h with h1 h2
      subst h1; subst h2
      rw [if_pos ha]
    · cases h
  · rename_i z n e hz hu
    rw [hz, hu]
    simp only
    split at h
    · rename_i sz hs
      injection h with h; injection h with h1 h2
      subst h1; subst h2
      rw [hs]
    · cases h
  · cases h
/-- A slice's element: cells, bytes, noughts. -/
def elemI (P : Program) (t : TypeId) : Option (Nat × Nat × List AV) :=
  match P.underlying t with
  | some (.slice e) => match P.info? e with
    | some i => match i.zero with
      | some z => match !(Nat.beq i.size 0) && !(Nat.beq i.bytes 0) && Nat.beq z.cells.size i.size && allOne z with
        | true => some (i.size, i.bytes, z.cells.toList.map .lit)
        | false => none
      | none => none
    | none => none
  | _ => none
theorem elemI_ok {P : Program} {t : TypeId} {sz by' : Nat} {zc : List AV} (h : elemI P t = some (sz, by', zc)) :
    ∃ e i z, P.underlying t = some (.slice e) ∧ P.info? e = some i ∧ i.zero = some z ∧ i.size = sz ∧ i.bytes = by' ∧ z.cells.toList.map .lit = zc ∧ sz ≠ 0 ∧ by' ≠ 0 ∧ z.cells.size = sz ∧ allOne z = true := by
  unfold elemI at h
  split at h
  · rename_i e hu
    split at h
    · rename_i i hi
      split at h
      · rename_i z hz
        split at h
        · rename_i hb
          injection h with h; injection h with h1 h2; injection h2 with h2 h3
          simp only [Bool.and_eq_true, Bool.not_eq_true'] at hb
          obtain ⟨⟨⟨b1, b2⟩, b3⟩, b4⟩ := hb
          have b3 := Nat.eq_of_beq_eq_true b3
          refine ⟨e, i, z, hu, hi, hz, h1, h2, h3, ?_, ?_, by rw [← h1]; exact b3, b4⟩
          · rw [← h1]; exact fun h0 => by rw [h0] at b1; cases b1
          · rw [← h2]; exact fun h0 => by rw [h0] at b2; cases b2
        · cases h
      · cases h
    · cases h
  · cases h
def absl (H : AH) (size len : Nat) (cells : List AV) (l : List (Nat × Nat × AV)) : Option (AV × AH) := (fillR cells l).map fun cs => (.sl H.length 0 len size (.ex len), H ++ [some (.cells cs)])
def absf (size len : Nat) (cells : List AV) (l : List (Nat × Nat × AV)) : Option AV := (fillR cells l).map fun cs => .imm cs len size
def ald (g : Bool) (n : Nat) (H : AH) (a : AV) : Option AV := match a with
  | .ptr o off => match H[o]? with
    | some (some (.cells cs)) => rdCells g n cs off
    | _ => none
  | .ip cs => rdCells g n cs 0
  | _ => none
def ast (n : Nat) (H : AH) (a x : AV) : Option AH := match cellsA x, a with
  | some xs, .ptr o off => match H[o]? with
    | some (some (.cells cs)) => if xs.length = n ∧ off + n ≤ cs.length then some (H.set o (some (.cells (splice cs off xs)))) else none
    | _ => none
  | _, _ => none
def abI (op : BinOp) (x y : AV) : Option AV := match x, y with
  | .lit (.int k a), .lit (.int k' b) => match op with
    | .shl | .shr => (ashiftOp op k a b).map .lit
    | _ => if k = k' then (aint2 op k a b).map .lit else none
  | _, _ => none
def abT (op : BinOp) (x y : AV) : Option AV := match x, y with
  | .lit (.string a), .lit (.string b) => (astr2 op a b).map .lit
  | _, _ => none
def aEq (op : BinOp) (e : Option Bool) : Option AV := match op with
  | .eql => e.map fun b => .lit (.bool b)
  | .neq => e.map fun b => .lit (.bool !b)
  | _ => none
def abB (op : BinOp) (x y : AV) : Option AV := match x, y with
  | .lit (.bool a), .lit (.bool b) => aEq op (some (a == b))
  | _, _ => none
/-- Pointers, slices, functions, maps against nil. -/
def abN (op : BinOp) (f : AV → Option Bool) (x y : AV) : Option AV := match x, y with
  | .agg _, .agg _ => none
  | .lit .nilIface, _ | _, .lit .nilIface => none
  | x, y => aEq op (anil2 (f x) (f y))
inductive CK where
  | int (k : IntKind)
  | str
  | ofB
  | toB
def convI (P : Program) (s d : TypeId) : Option CK :=
  match P.underlying d, P.underlying s with
  | some (.int k), some _ => some (.int k)
  | some .string, some .string => some .str
  | some .string, some (.slice e) => match P.underlying e with
    | some (.int .u8) => some .ofB
    | _ => none
  | some (.slice e), some .string => match P.underlying e with
    | some (.int .u8) => some .toB
    | _ => none
  | _, _ => none
def acI (k : IntKind) (x : AV) : Option AV := match x with
  | .lit (.int _ n) => some (.lit (.int k (k.wrap n)))
  | _ => none
def acS (x : AV) : Option AV := match x with
  | .lit (.string s) => some (.lit (.string s))
  | _ => none
def acB (H : AH) (x : AV) : Option AV := match x with
  | .lit (.string _) => none
  | x => match sliceCells H 1 x with
    | some (cs, _) => (avInts cs).map fun ns => .lit (.string (pushAll ns))
    | none => none
def acT (x : AV) : Option AV := match x with
  | .lit (.string s) => some (.imm (s.data.toList.map fun b => .lit (.int .u8 b.toNat)) s.size 1)
  | _ => none
def amk (sz bytes : Nat) (zc : List AV) (H : AH) (l c : AV) : Option (AV × AH) := match l, c with
  | .lit (.int _ n), .lit (.int _ m) => if 0 ≤ n ∧ n ≤ m ∧ (bytes : Int) * m ≤ 281474976710656 ∧ m ≤ 9223372036854775807 then
      some (.sl H.length 0 n.toNat sz (.ex m.toNat), H ++ [some (.cells (zrow zc m.toNat))]) else none
  | _, _ => none
def aslT (x : AV) (lo hi : Option AV) : Option AV := match x with
  | .lit (.string s) => match abnd lo 0, abnd hi s.size with
    | some l, some h => if l ≤ h ∧ h ≤ s.size then some (.lit (.string (s.extract l h))) else none
    | _, _ => none
  | _ => none
def aslS (sz : Nat) (x : AV) (lo hi mx : Option AV) : Option AV := match x with
  | .sl o off len esz cap => if sz ≠ esz then none else
      match abnd lo 0, abnd hi len, mx with
      | some l, some h, none => if l ≤ h ∧ h ≤ max len cap.least then some (.sl o (off + l * esz) (h - l) esz (cap.cut len l)) else none
      | some l, some h, some m => match abnd (some m) 0 with
        | some m => if l ≤ h ∧ h ≤ m ∧ m ≤ max len cap.least ∧ hi.isSome then some (.sl o (off + l * esz) (h - l) esz (.ex (m - l))) else none
        | none => none
      | _, _, _ => none
  | .imm cs len esz => match abnd lo 0, abnd hi len, mx with
      | some l, some h, none => if l ≤ h ∧ h ≤ len then some (.imm ((cs.drop (l * sz)).take ((h - l) * sz)) (h - l) esz) else none
      | some l, some h, some m => match abnd (some m) 0 with
        | some m => if l ≤ h ∧ h ≤ m ∧ m ≤ len ∧ hi.isSome then some (if m = l then .emp else .imm ((cs.drop (l * sz)).take ((h - l) * sz)) (h - l) esz) else none
        | none => none
      | _, _, _ => none
  | .emp => match abnd lo 0, abnd hi 0, mx with
      | some 0, some 0, none => some .emp
      | _, _, _ => none
  | .lit (.slice none 0 0) => match abnd lo 0, abnd hi 0, mx with
      | some 0, some 0, none => some (.lit (.slice none 0 0))
      | _, _, _ => none
  | _ => none
def aslA (n sz : Nat) (H : AH) (x : AV) (lo hi : Option AV) : Option AV := match abnd lo 0, abnd hi n, x with
  | some l, some h, .ptr o off => match H[o]? with
    | some (some (.cells cs)) => if l ≤ h ∧ h ≤ n ∧ off + n * sz ≤ cs.length then some (.sl o (off + l * sz) (h - l) sz (.ex (n - l))) else none
    | _ => none
  | some l, some h, .ip cs => if l ≤ h ∧ h ≤ n then some (.imm ((cs.drop (l * sz)).take ((h - l) * sz)) (h - l) sz) else none
  | _, _, _ => none
def aprt (g : Bool) (n off : Nat) (x : AV) : Option AV := match x with
  | .agg cs => rdCells g n cs off
  | _ => none
def fieldI (P : Program) (s : TypeId) (f : Nat) : Option (Bool × Nat × Nat) :=
  match P.underlying s with
  | some (.struct fields) => match fields[f]? with
    | some fl => match tAgg P fl.type, tSize P fl.type with
      | some g, some n => some (g, n, fl.offset)
      | _, _ => none
    | none => none
  | _ => none
def aixS (sz : Nat) (x i : AV) : Option AV := match aint i with
  | none => none
  | some n => match x with
    | .sl o off len _ _ => if 0 ≤ n ∧ n < len then some (.ptr o (off + n.toNat * sz)) else none
    | .imm cs len _ => if 0 ≤ n ∧ n < len then some (.ip (cs.drop (n.toNat * sz))) else none
    | _ => none
def aixA (len sz : Nat) (x i : AV) : Option AV := match aint i with
  | none => none
  | some n => if 0 ≤ n ∧ n < len then ashift (n.toNat * sz) x else none
def aivA (g : Bool) (n' len sz : Nat) (x i : AV) : Option AV := match aint i with
  | none => none
  | some n => if 0 ≤ n ∧ n < len then aprt g n' (n.toNat * sz) x else none
def aivT (x i : AV) : Option AV := match aint i with
  | none => none
  | some n => match x with
    | .lit (.string s) => if 0 ≤ n then (s[n.toNat]?).map fun b => .lit (.int .u8 b.toNat) else none
    | _ => none
def mapI (P : Program) (t : TypeId) : Option (TypeDesc × Value) :=
  match P.underlying t with
  | some (.map key elem) => match P.underlying key, tZero P elem with
    | some d, some z => some (d, z)
    | _, _ => none
  | _ => none
theorem mapI_ok {P : Program} {t : TypeId} {d : TypeDesc} {z : Value} (h : mapI P t = some (d, z)) : ∃ key elem, P.underlying t = some (.map key elem) ∧ P.underlying key = some d ∧ tZero P elem = some z := by
  unfold mapI at h
  split at h
  · rename_i key elem hu
    split at h
    · rename_i d' z' h1 h2
      injection h with h; injection h with e1 e2
      subst e1; subst e2
      exact ⟨key, elem, hu, h1, h2⟩
    · cases h
  · cases h
def amkM (H : AH) (l : Option AV) : Option (AV × AH) := match l with
  | none => some (.mp H.length, H ++ [some (.map [])])
  | some (.lit (.int _ _)) => some (.mp H.length, H ++ [some (.map [])])
  | _ => none
def alk (d : TypeDesc) (z : Value) (H : AH) (x k : AV) (co : Bool) : Option AV := match entriesA H x, k with
  | some es, .lit kv => if keyB d kv then match findA d kv es 0 with
      | some (some (_, a)) => some (if co then .tup [a, .lit (.bool true)] else a)
      | some none => some (if co then .tup [.ofV z, .lit (.bool false)] else .ofV z)
      | none => none
    else none
  | _, _ => none
def amu (d : TypeDesc) (H : AH) (m k x : AV) : Option AH := match m, k with
  | .mp o, .lit kv => match H[o]? with
    | some (some (.map es)) => if keyB d kv then match findA d kv es 0 with
        | some (some (j, _)) => some (H.set o (some (.map (es.set j (kv, x)))))
        | some none => some (H.set o (some (.map (es ++ [(kv, x)]))))
        | none => none
      else none
    | _ => none
  | _, _ => none
def ame (d : TypeDesc) (z : Value) (H : AH) (m k : AV) : Option (AV × AH) := match m, k with
  | .mp o, .lit kv => match H[o]? with
    | some (some (.map es)) => if keyB d kv then match findA d kv es 0 with
        | some (some (j, a)) => some (.tup [a, .lit (goInt j)], H)
        | some none => some (.tup [.ofV z, .lit (goInt es.length)], H.set o (some (.map (es ++ [(kv, .ofV z)]))))
        | none => none
      else none
    | _ => none
  | _, _ => none
inductive LK where
  | str
  | sl
  | arr (n : Nat)
  | mp
def lenI (P : Program) (t : TypeId) : Option LK :=
  match P.underlying t with
  | some .string => some .str
  | some (.slice _) => some .sl
  | some (.array n _) => some (.arr n)
  | some (.map _ _) => some .mp
  | _ => none
def alnT (x : AV) : Option AV := match x with
  | .lit (.string s) => some (.lit (.int .i64 s.size))
  | _ => none
def alnS (x : AV) : Option AV := match x with
  | .sl _ _ len _ _ => some (.lit (.int .i64 len))
  | .imm _ len _ => some (.lit (.int .i64 len))
  | .lit (.slice none n _) => some (.lit (.int .i64 n))
  | .emp => some (.lit (.int .i64 0))
  | _ => none
def alnM (H : AH) (x : AV) : Option AV := match x with
  | .lit (.map none) => some (.lit (.int .i64 0))
  | .mp o => match H[o]? with
    | some (some (.map es)) => some (.lit (goInt es.length))
    | _ => none
  | _ => none
def acpS (x : AV) : Option AV := match x with
  | .sl _ _ _ _ (.ex k) => some (.lit (goInt k))
  | .lit (.slice none _ c) => some (.lit (goInt c))
  | .emp => some (.lit (goInt 0))
  | _ => none
def aap (size bytes : Nat) (H : AH) (s x : AV) : Option (AV × AH) := match appended H size x with
  | none => none
  | some (news, n) => aapp1 H size bytes s news n
def acl (zc : List AV) (H : AH) (x : AV) : Option AH := match x with
  | .lit (.slice none _ _) => some H
  | .sl o off len esz _ => match H[o]? with
    | some (some (.cells cs)) => if zc.length = esz ∧ esz ≠ 0 ∧ off + len * esz ≤ cs.length then some (if len = 0 then H else H.set o (some (.cells (splice cs off (zrow zc len))))) else none
    | _ => none
  | _ => none
inductive SK where
  | str
  | sl (sz : Nat)
  | arr (n sz : Nat)
def sliceI (P : Program) (t : TypeId) : Option SK :=
  match P.underlying t with
  | some .string => some .str
  | some (.slice e) => (tSize P e).map .sl
  | some (.array n e) => (tSize P e).map (.arr n)
  | _ => none
inductive IK where
  | sl (sz : Nat)
  | arr (n sz : Nat)
def indexI (P : Program) (t : TypeId) : Option IK :=
  match P.underlying t with
  | some (.slice e) => (tSize P e).map .sl
  | some (.array n e) => (tSize P e).map (.arr n)
  | _ => none
inductive VK where
  | str
  | arr (g : Bool) (n len sz : Nat)
def ivI (P : Program) (t : TypeId) : Option VK :=
  match P.underlying t with
  | some .string => some .str
  | some (.array len e) => match tAgg P e, tSize P e with
    | some g, some n => some (.arr g n len n)
    | _, _ => none
  | _ => none
/-! ### values without references -/
mutual
/-- Nothing in it points anywhere. -/
def flatA : AV → Bool
  | .lit _ => true
  | .agg cs => flatAs cs
  | .tup cs => flatAs cs
  | .emp => true
  | _ => false
def flatAs : List AV → Bool
  | [] => true
  | a :: r => flatA a && flatAs r
end
mutual
theorem flatA_vr {G G' : Cfg} : ∀ {a : AV} {v : Value}, flatA a = true → VR G a v → VR G' a v
  | .lit _, _, _, hv => by simpa only [VR] using hv
  | .agg cs, v, h, hv => by
    simp only [flatA] at h
    simp only [VR] at hv ⊢
    obtain ⟨vs, e, hr⟩ := hv
    exact ⟨vs, e, flatAs_vr h hr⟩
  | .tup cs, v, h, hv => by
    simp only [flatA] at h
    simp only [VR] at hv ⊢
    obtain ⟨vs, e, hr⟩ := hv
    exact ⟨vs, e, flatAs_vr h hr⟩
  | .emp, _, _, hv => by simpa only [VR] using hv
  | .ptr .., _, h, _ => by simp [flatA] at h
  | .ip .., _, h, _ => by simp [flatA] at h
  | .sl .., _, h, _ => by simp [flatA] at h
  | .imm .., _, h, _ => by simp [flatA] at h
  | .mp .., _, h, _ => by simp [flatA] at h
  | .fn .., _, h, _ => by simp [flatA] at h
  | .junk, _, h, _ => by simp [flatA] at h
theorem flatAs_vr {G G' : Cfg} : ∀ {as : List AV} {vs : List Value}, flatAs as = true → VRs G as vs → VRs G' as vs
  | [], _, _, hv => by simpa only [VRs] using hv
  | a :: as, vs, h, hv => by
    simp only [flatAs, Bool.and_eq_true] at h
    simp only [VRs] at hv ⊢
    obtain ⟨v, r, e, h1, h2⟩ := hv
    exact ⟨v, r, e, flatA_vr h.1 h1, flatAs_vr h.2 h2⟩
end
section
variable {P : Program}
/-- What belongs to the caller may be lent: the callee sees it as memory that nobody writes, if nothing that it answers points anywhere. -/
theorem BPure.lent {f : FuncId} {args args' : List AV} {H : AH} {r : AV} {n : Nat} (hf : mapO (frz H n) args = some args') (hr : flatA r = true) (h : BPure P f args' r) : BCall P f args H r H := by
  intro G vs hH hv
  let G1 : Cfg := { w := G.w, n := 0, μ := G.μ, L := fun _ => False, K := fun b => G.K b ∧ ¬ G.L b }
  have h0 : HR G1 [] := ⟨rfl, fun o x h => by simp at h, fun o o' x x' h => by simp at h, fun o x h => by simp at h, fun b h => by
    rcases h with h | h
    · exact h.elim
    · exact hH.lt b (.inr h.1)⟩
  have hv' : VRs G1 args' vs := mapO_ok (fun a v r hx he => frz_ok (G' := G) (G'' := G1) rfl (fun b hn hh => hn (.inr (hh.elim False.elim And.left))) hH (fun o x ho hh => hh.elim False.elim fun hk => hk.2 (hH.live o x ho)) n a v r hx he) hv hf
  refine ((h []) G1 vs h0 hv').mono ?_
  rintro e w' ⟨r', X, G', v, rfl, rfl, hE, hx, hX, rfl, rfl⟩
  have keep : ∀ k, k < G.w.heap.size → G'.w.heap[k]? = G.w.heap[k]? := fun k hk => (hE.keep k hk (fun h => h)).1
  let G2 : Cfg := { w := G'.w, n := G.n, μ := G.μ, L := G.L, K := G.K }
  have hE' : Evo G G2 := ⟨hE.os, hE.tape, hE.output, hE.size, fun k hk hL => ⟨keep k hk, hL⟩, Nat.le_refl _, fun _ _ => rfl, rfl⟩
  exact ⟨r', H, G2, v, rfl, rfl, hE', flatA_vr hr hx, ⟨hH.n, fun o x ho => OR.evo hE' (hH.lt_n ho) (keep _ (hH.lt _ (.inl (hH.live _ _ ho)))) (hH.obj o x ho), hH.inj, hH.live, fun b hb => Nat.lt_of_lt_of_le (hH.lt b hb) hE.size⟩, rfl, rfl⟩
/-- A pure call's outcome: as always, or with what is lent. -/
def PCall (P : Program) (f : FuncId) (args : List AV) (H : AH) (r : AV) : Prop := BPure P f args r ∨ ∃ n args', mapO (frz H n) args = some args' ∧ flatA r = true ∧ BPure P f args' r
theorem PCall.call {f : FuncId} {args : List AV} {H : AH} {r : AV} (h : PCall P f args H r) : BCall P f args H r H := by
  rcases h with h | ⟨n, args', h1, h2, h3⟩
  · exact h H
  · exact BPure.lent h1 h2 h3
end
end Go.Proofs.Ythgkepaadkmhoaa.Av
