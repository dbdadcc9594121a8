/- Chapter 4's functions, told: the program's and the reference's. -/
import Derived.Test.YtmokogdcikdlfaaAvZ
import Derived.Test.YtmokogdcikdlfaaAvL
import Derived.Test.YtmokogdcikdlfaaAvJ
set_option linter.unusedVariables false
set_option linter.unusedSimpArgs false
namespace Go.Proofs.Ytmokogdcikdlfaa.Av
open Go Go.RowKit

/-- What has changed: of what was there, at most what lies in F; what lies in F' is of F, or new. -/
structure Fr (H H' : AH) (F F' : List Nat) : Prop where
  le : H.length ≤ H'.length
  keep : ∀ i, i < H.length → i ∉ F → H'[i]? = H[i]?
  new : ∀ i ∈ F', i ∈ F ∨ H.length ≤ i
theorem cellsA_owned {v : AV} (h : ownedS v = true) : cellsA v = some [v] := by
  unfold ownedS at h
  split at h <;> first | rfl | cases h
/-- A fifo lies at o. -/
def FifoAt (H : AH) (o : Nat) (size : Nat) (l : List UInt8) (F : List Nat) : Prop :=
  ∃ v, H[o]? = some (some (.cells [.lit (.int .i64 size), v])) ∧ ownedS v = true ∧ sliceCells H 1 v = some (encB l, l.length) ∧ F = o :: idS v ∧ o ∉ idS v
theorem FifoAt.frame {H H' : AH} {o size : Nat} {l : List UInt8} {F : List Nat} (h : FifoAt H o size l F) (hk : ∀ i ∈ F, H'[i]? = H[i]?) : FifoAt H' o size l F := by
  obtain ⟨v, h1, h2, h3, rfl, h5⟩ := h
  exact ⟨v, by rw [hk o (by simp)]; exact h1, h2, sliceCells_keep h3 (fun i hi => hk i (by simp [hi])), rfl, h5⟩
theorem FifoAt.lt {H : AH} {o size : Nat} {l : List UInt8} {F : List Nat} (h : FifoAt H o size l F) : ∀ i ∈ F, i < H.length := by
  obtain ⟨v, h1, h2, h3, rfl, h5⟩ := h
  intro i hi
  rcases List.mem_cons.1 hi with rfl | hi
  · exact (List.getElem?_eq_some_iff.1 h1).1
  · exact sliceCells_lt h3 i hi

theorem mix : Try.prog.follows .mixedOrders = true := by kernel_rfl
theorem zB : tSize Try.prog 25 = some 1 := by kernel_rfl
theorem aB : tAgg Try.prog 25 = some false := by kernel_rfl
theorem zI : tSize Try.prog 3 = some 1 := by kernel_rfl
theorem aI : tAgg Try.prog 3 = some false := by kernel_rfl
theorem zu8 : tSize Try.prog 5 = some 1 := by kernel_rfl
theorem eu8 : elemOkB Try.prog 5 1 1 = true := by kernel_rfl
theorem fF0 : afieldAt Try.prog 43 0 = some 0 := by kernel_rfl
theorem fF1 : afieldAt Try.prog 43 1 = some 1 := by kernel_rfl
theorem fR0 : afieldAt Try.prog 39 0 = some 0 := by kernel_rfl
theorem fR1 : afieldAt Try.prog 39 1 = some 1 := by kernel_rfl

theorem fifoLen_ok {H : AH} {o size : Nat} {l : List UInt8} {F : List Nat} (h : FifoAt H o size l F) : ∃ r H', (r = .lit (.int .i64 l.length) ∧ H' = H) ∧ BCall Try.prog 10 [.ptr o 0] H r H' := by
  obtain ⟨v, h1, h2, h3, rfl, h5⟩ := h
  have hl := alen_spec (P := Try.prog) Try.underlying25 h3
  refine BCall.walk noFloats (fun _ => false) mix Try.func10 rfl (by kernel_rfl) ?_
  simp [Try.f10, wCode, wOps, wOpsD, FloatsOk, noFloats, opD, isBS, awanted, aop, aeval, aput, AV.ofV, undefA, anilCheck, afieldAddr, fF1, ashift, aload, zB, aB, h1, rdCells, abuiltin, hl, wRet, isOut, ares, mkres]
theorem refPut_ok {H : AH} {o size : Nat} {l : List UInt8} {F : List Nat} (h : FifoAt H o size l F) {b : AV} {d : List UInt8} (hb : sliceCells H 1 b = some (encB d, d.length)) (hsz : l.length + d.length ≤ 140737488355328) :
    ∃ r H', (∃ F', FifoAt H' o size (l ++ d) F' ∧ Fr H H' F F') ∧ BCall Try.prog 14 [.ptr o 0, b] H r H' := by
  obtain ⟨v, h1, h2, h3, rfl, h5⟩ := h
  obtain ⟨r1, H1, e1, e2, e3, e4, e5, e6⟩ := aappend_spec (P := Try.prog) (ts := 25) (tx := 25) Try.underlying25 (.inl ⟨_, Try.underlying25⟩) eu8 h3 h2 (appended_slice hb) (by omega)
  have ho := (List.getElem?_eq_some_iff.1 h1).1
  have h1' : H1[o]? = some (some (.cells [.lit (.int .i64 size), v])) := by rw [e5 o ho h5]; exact h1
  refine BCall.walk noFloats (fun _ => false) mix Try.func14 rfl (by kernel_rfl) ?_
  simp [Try.f14, wCode, wOps, wOpsD, FloatsOk, noFloats, opD, isBS, awanted, aop, aeval, aput, AV.ofV, undefA, anilCheck, afieldAddr, fR1, ashift, aload, zB, aB, h1, rdCells, abuiltin, e1, wRet, isOut, ares, mkres, astore, cellsA_owned e2, h1', splice]
  have ho1 := (List.getElem?_eq_some_iff.1 h1').1
  have hne : o ∉ idS r1 := fun hi => (e6 o hi).elim h5 (by omega)
  refine ⟨o :: idS r1, ⟨r1, by rw [List.getElem?_set_self ho1], e2, ?_, rfl, hne⟩, ⟨by simpa using e4, ?_, ?_⟩⟩
  · rw [encB_app, List.length_append]
    exact sliceCells_keep e3 (fun i hi => List.getElem?_set_ne (by rintro rfl; exact hne hi))
  · intro i hi hn
    simp only [List.mem_cons, not_or] at hn
    rw [List.getElem?_set_ne (Ne.symm hn.1)]
    exact e5 i hi hn.2
  · intro i hi
    rcases List.mem_cons.1 hi with rfl | hi
    · exact .inl (by simp)
    · rcases e6 i hi with h | h
      · exact .inl (by simp [h])
      · exact .inr h
def kOf (n : Int) : Nat := (min (max n 1) 4096).toNat
theorem kOf_eq (n : Int) : (kOf n : Int) = imn (imx n 1) 4096 := by unfold kOf imn imx; split <;> split <;> omega
theorem kOf_pos (n : Int) : 1 ≤ kOf n ∧ kOf n ≤ 4096 := by unfold kOf; omega
theorem bFi (n : Int) : abuild Try.prog 43 [(0, .lit (.int .i64 n))] = some (.agg [.lit (.int .i64 n), .lit (.slice none 0 0)]) := by kernel_rfl
theorem bRi (n : Int) : abuild Try.prog 39 [(0, .lit (.int .i64 n))] = some (.agg [.lit (.int .i64 n), .lit (.slice none 0 0)]) := by kernel_rfl
theorem fifoNew_at (H : AH) (n : Int) : FifoAt (H ++ [some (.cells [.lit (.int .i64 (kOf n)), .lit (.slice none 0 0)])]) H.length (kOf n) [] [H.length] ∧ Fr H (H ++ [some (.cells [.lit (.int .i64 (kOf n)), .lit (.slice none 0 0)])]) [] [H.length] :=
  ⟨⟨.lit (.slice none 0 0), by simp, rfl, rfl, rfl, by simp [idS]⟩, ⟨by simp, fun i hi _ => List.getElem?_append_left hi, by simp⟩⟩
theorem fifoNew_ok (H : AH) (n : Int) : ∃ r H', (r = .ptr H.length 0 ∧ FifoAt H' H.length (kOf n) [] [H.length] ∧ Fr H H' [] [H.length]) ∧ BCall Try.prog 7 [.lit (.int .i64 n)] H r H' := by
  obtain ⟨a1, a2⟩ := fifoNew_at H n
  refine BCall.walk noFloats (fun _ => false) mix Try.func7 rfl (by kernel_rfl) ?_
  simp [-imn_eq, -imx_eq, Try.f7, wCode, wOps, wOpsD, FloatsOk, noFloats, opD, isBS, awanted, aop, aeval, aput, AV.ofV, undefA, abuiltin, amm, amm.go, bFi, anew, cellsA, oneA, wRet, isOut, ares, mkres, ← kOf_eq, a1, a2]
theorem refNew_ok (H : AH) (n : Int) : ∃ r H', (r = .ptr H.length 0 ∧ FifoAt H' H.length (kOf n) [] [H.length] ∧ Fr H H' [] [H.length]) ∧ BCall Try.prog 13 [.lit (.int .i64 n)] H r H' := by
  obtain ⟨a1, a2⟩ := fifoNew_at H n
  refine BCall.walk noFloats (fun _ => false) mix Try.func13 rfl (by kernel_rfl) ?_
  simp [-imn_eq, -imx_eq, Try.f13, wCode, wOps, wOpsD, FloatsOk, noFloats, opD, isBS, awanted, aop, aeval, aput, AV.ofV, undefA, abuiltin, amm, amm.go, bRi, anew, cellsA, oneA, wRet, isOut, ares, mkres, ← kOf_eq, a1, a2]
theorem bs0 (H : AH) : abuildSlice Try.prog H 25 0 [] = some (.sl H.length 0 0 1 (.ex 0), H ++ [some (.cells [])]) := by kernel_rfl
theorem uB : Try.prog.underlying 25 = some (.slice 5) := Try.underlying25
theorem abin_nil {v : AV} {b : Bool} (h : nilS v = some b) : abin Try.prog .eql 25 v (.lit (.slice none 0 0)) = some (.lit (.bool b)) := by
  unfold nilS at h
  split at h
  · injection h with h; subst h; simp [abin, aeq, uB, nilS, anil2]
  · injection h with h; subst h; simp [abin, aeq, uB, nilS, anil2]
  · injection h with h; subst h; simp [abin, aeq, uB, nilS, anil2]
  · injection h with h; subst h; simp [abin, aeq, uB, nilS, anil2]
  · cases h
theorem nilS_slice {H : AH} {sz : Nat} {v : AV} {q : List AV × Nat} (h : sliceCells H sz v = some q) : (nilS v = some true ∧ q = ([], 0) ∧ v = .lit (.slice none 0 0)) ∨ nilS v = some false := by
  unfold sliceCells at h
  split at h
  · exact .inr rfl
  · exact .inr rfl
  · injection h with h; exact .inl ⟨rfl, h.symm, rfl⟩
  · exact .inr rfl
  · cases h
/-- slices.Clone of bytes. -/
theorem clone_ok {H : AH} {v : AV} {cs : List AV} {n : Nat} (h : sliceCells H 1 v = some (cs, n)) (hn : n ≤ 140737488355328) :
    ∃ r H', (ownedS r = true ∧ sliceCells H' 1 r = some (cs, n) ∧ Fr H H' [] (idS r)) ∧ BCall Try.prog 17 [v] H r H' := by
  have h' : sliceCells (H ++ [some (.cells [])]) 1 v = some (cs, n) := sliceCells_keep h fun i hi => List.getElem?_append_left (sliceCells_lt h i hi)
  have he : sliceCells (H ++ [some (.cells [])]) 1 (.sl H.length 0 0 1 (.ex 0)) = some ([], 0) := by simp [sliceCells]
  obtain ⟨r1, H1, e1, e2, e3, e4, e5, e6⟩ := aappend_spec (P := Try.prog) (ts := 25) (tx := 25) uB (.inl ⟨_, uB⟩) eu8 he rfl (appended_slice h') (by omega)
  simp only [List.nil_append, Nat.zero_add] at e3
  have a2 : Fr H H1 [] (idS r1) := ⟨by simp at e4; omega, fun i hi _ => by
      rw [e5 i (by simp; omega) (by simp [idS]; omega)]
      exact List.getElem?_append_left hi, fun i hi => by
      rcases e6 i hi with h | h
      · simp [idS] at h; exact .inr (by omega)
      · simp at h; exact .inr (by omega)⟩
  refine BCall.walk noFloats (fun _ => false) mix Try.func17 rfl (by kernel_rfl) ?_
  rcases nilS_slice h with ⟨hnil, hq, rfl⟩ | hnil
  · injection hq with h1 h2
    subst h1; subst h2
    simp [Try.f17, wCode, wOps, wOpsD, FloatsOk, noFloats, opD, isBS, awanted, aop, aeval, aput, AV.ofV, undefA, abin_nil hnil, wRet, isOut, ares, mkres, ownedS, sliceCells, idS]
    exact ⟨Nat.le_refl _, fun _ _ _ => rfl, by simp⟩
  · simp [Try.f17, wCode, wOps, wOpsD, FloatsOk, noFloats, opD, isBS, awanted, aop, aeval, aput, AV.ofV, undefA, abin_nil hnil, wRet, isOut, ares, mkres, bs0, abuiltin, e1, e2, e3, a2]
/-- A store into a fifo's second field. -/
theorem FifoAt.store {H1 : AH} {o size : Nat} {v r : AV} {l : List UInt8} (ho : H1[o]? = some (some (.cells [.lit (.int .i64 size), v]))) (hr : ownedS r = true) (hs : sliceCells H1 1 r = some (encB l, l.length)) (hne : o ∉ idS r) :
    FifoAt (H1.set o (some (.cells [.lit (.int .i64 size), r]))) o size l (o :: idS r) := by
  have ho1 := (List.getElem?_eq_some_iff.1 ho).1
  exact ⟨r, by rw [List.getElem?_set_self ho1], hr, sliceCells_keep hs (fun i hi => List.getElem?_set_ne (by rintro rfl; exact hne hi)), rfl, hne⟩
theorem fifoTake_no {H : AH} {o size : Nat} {l : List UInt8} {F : List Nat} (h : FifoAt H o size l F) (hlt : l.length < size) :
    ∃ r H', (r = .tup [.lit (.slice none 0 0), .lit (.bool false)] ∧ H' = H) ∧ BCall Try.prog 9 [.ptr o 0] H r H' := by
  obtain ⟨v, h1, h2, h3, rfl, h5⟩ := h
  have hl := alen_spec (P := Try.prog) uB h3
  refine BCall.walk noFloats (fun _ => false) mix Try.func9 rfl (by kernel_rfl) ?_
  simp [Try.f9, wCode, wOps, wOpsD, FloatsOk, noFloats, opD, isBS, awanted, aop, aeval, aput, AV.ofV, undefA, anilCheck, afieldAddr, fF0, fF1, ashift, aload, zB, aB, zI, aI, h1, rdCells, abuiltin, hl, abin, aint2, hlt, wRet, isOut, ares, mkres]
theorem refTake_no {H : AH} {o size : Nat} {l : List UInt8} {F : List Nat} (h : FifoAt H o size l F) (hlt : l.length < size) :
    ∃ r H', (r = .tup [.lit (.slice none 0 0), .lit (.bool false)] ∧ H' = H) ∧ BCall Try.prog 15 [.ptr o 0] H r H' := by
  obtain ⟨v, h1, h2, h3, rfl, h5⟩ := h
  have hl := alen_spec (P := Try.prog) uB h3
  refine BCall.walk noFloats (fun _ => false) mix Try.func15 rfl (by kernel_rfl) ?_
  simp [Try.f15, wCode, wOps, wOpsD, FloatsOk, noFloats, opD, isBS, awanted, aop, aeval, aput, AV.ofV, undefA, anilCheck, afieldAddr, fR0, fR1, ashift, aload, zB, aB, zI, aI, h1, rdCells, abuiltin, hl, abin, aint2, hlt, wRet, isOut, ares, mkres]
/-- What Take answers, and leaves. -/
def Taken (H H' : AH) (o size : Nat) (l : List UInt8) (F : List Nat) (r : AV) : Prop :=
  ∃ b F', r = .tup [b, .lit (.bool true)] ∧ ownedS b = true ∧ sliceCells H' 1 b = some (encB (l.take size), size) ∧ FifoAt H' o size (l.drop size) F' ∧ Fr H H' F (F' ++ idS b) ∧ (∀ i ∈ idS b, i ∉ F' ∧ H.length ≤ i)
theorem fifoTake_yes {H : AH} {o size : Nat} {l : List UInt8} {F : List Nat} (h : FifoAt H o size l F) (hge : size ≤ l.length) (hn : l.length ≤ 140737488355328) :
    ∃ r H', Taken H H' o size l F r ∧ BCall Try.prog 9 [.ptr o 0] H r H' := by
  obtain ⟨v, h1, h2, h3, rfl, h5⟩ := h
  have hl := alen_spec (P := Try.prog) uB h3
  have ho := (List.getElem?_eq_some_iff.1 h1).1
  obtain ⟨r1, s1, s2, s3, s4⟩ := aslice_spec (P := Try.prog) (t := 25) uB zu8 h3 (lo := none) (hi := some (.lit (.int .i64 size))) (l := 0) (k := size) rfl (by simp [abnd]) (Nat.zero_le _) hge
  simp only [Nat.zero_mul, List.drop_zero, Nat.sub_zero, Nat.mul_one, encB_take] at s2
  obtain ⟨r2, H2, ⟨c1, c2, c3⟩, c4⟩ := clone_ok s2 (by omega)
  have h1' : H2[o]? = some (some (.cells [.lit (.int .i64 size), v])) := by rw [c3.keep o ho (by simp)]; exact h1
  have h3' : sliceCells H2 1 v = some (encB l, l.length) := sliceCells_keep h3 fun i hi => c3.keep i (sliceCells_lt h3 i hi) (by simp)
  obtain ⟨r3, t1, t2, t3, t4⟩ := aslice_spec (P := Try.prog) (t := 25) uB zu8 h3' (lo := some (.lit (.int .i64 size))) (hi := none) (l := size) (k := l.length) (by simp [abnd]) rfl hge (Nat.le_refl _)
  have t2' : sliceCells H2 1 r3 = some (encB (l.drop size), (l.drop size).length) := by
    rw [t2, List.length_drop, Nat.mul_one, Nat.mul_one, encB_drop, encB_take, List.take_of_length_le (by simp)]
  have hne : o ∉ idS r3 := fun hi => h5 (t3 o hi)
  have hst := FifoAt.store h1' (t4 h2) t2' hne
  have hlt : ¬ l.length < size := by omega
  refine BCall.walk noFloats (fun _ => false) mix Try.func9 rfl (by kernel_rfl) ?_
  simp [Try.f9, wCode, wOps, wOpsD, FloatsOk, noFloats, opD, isBS, awanted, aop, aeval, aput, AV.ofV, undefA, anilCheck, afieldAddr, fF0, fF1, ashift, aload, zB, aB, zI, aI, h1, rdCells, abuiltin, hl, abin, aint2, hlt, wRet, isOut, ares, mkres, s1, wCall, acall]
  refine ⟨r2, H2, ⟨by kernel_rfl, c4⟩, ?_⟩
  simp [h1', t1, astore, zB, cellsA_owned (t4 h2), splice]
  refine ⟨r2, o :: idS r3, rfl, c1, ?_, hst, ⟨by simpa using c3.le, ?_, ?_⟩, ?_⟩
  · rw [sliceCells_keep c2 (fun i hi => List.getElem?_set_ne (by
      rintro rfl
      rcases c3.new _ hi with h | h
      · cases h
      · omega))]
  · intro i hi hn
    simp only [List.mem_cons, not_or] at hn
    rw [List.getElem?_set_ne (Ne.symm hn.1)]
    exact c3.keep i hi (by simp)
  · intro i hi
    simp only [List.cons_append, List.mem_cons, List.mem_append] at hi ⊢
    rcases hi with rfl | hi | hi
    · exact .inl (.inl rfl)
    · exact .inl (.inr (t3 i hi))
    · rcases c3.new i hi with h | h
      · cases h
      · exact .inr h
  · intro i hi
    rcases c3.new i hi with h | h
    · cases h
    · refine ⟨?_, h⟩
      simp only [List.mem_cons, not_or]
      exact ⟨by omega, fun hh => by have := sliceCells_lt h3 i (t3 i hh); omega⟩
/-- append to nil: a copy of one's own. -/
theorem append_nil {H : AH} {x : AV} {ds : List AV} {m : Nat} (h2 : sliceCells H 1 x = some (ds, m)) (hb : m ≤ 140737488355328) :
    ∃ r H', aappend Try.prog H 25 25 (.lit (.slice none 0 0)) x = some (r, H') ∧ ownedS r = true ∧ sliceCells H' 1 r = some (ds, m) ∧ Fr H H' [] (idS r) := by
  obtain ⟨r, H', e1, e2, e3, e4, e5, e6⟩ := aappend_spec (P := Try.prog) (ts := 25) (tx := 25) uB (.inl ⟨_, uB⟩) eu8 (H := H) (s := .lit (.slice none 0 0)) (cs := []) (n := 0) rfl rfl (appended_slice h2) (by omega)
  exact ⟨r, H', e1, e2, by simpa using e3, e4, fun i hi hn => e5 i hi (by simp [idS]), fun i hi => by simpa [idS] using e6 i hi⟩
theorem refTake_yes {H : AH} {o size : Nat} {l : List UInt8} {F : List Nat} (h : FifoAt H o size l F) (hge : size ≤ l.length) (hn : l.length ≤ 140737488355328) :
    ∃ r H', Taken H H' o size l F r ∧ BCall Try.prog 15 [.ptr o 0] H r H' := by
  obtain ⟨v, h1, h2, h3, rfl, h5⟩ := h
  have hl := alen_spec (P := Try.prog) uB h3
  have ho := (List.getElem?_eq_some_iff.1 h1).1
  obtain ⟨r1, s1, s2, s3, s4⟩ := aslice_spec (P := Try.prog) (t := 25) uB zu8 h3 (lo := none) (hi := some (.lit (.int .i64 size))) (l := 0) (k := size) rfl (by simp [abnd]) (Nat.zero_le _) hge
  simp only [Nat.zero_mul, List.drop_zero, Nat.sub_zero, Nat.mul_one, encB_take] at s2
  obtain ⟨r2, H2, c0, c1, c2, c3⟩ := append_nil s2 (by omega)
  have h1' : H2[o]? = some (some (.cells [.lit (.int .i64 size), v])) := by rw [c3.keep o ho (by simp)]; exact h1
  have h3' : sliceCells H2 1 v = some (encB l, l.length) := sliceCells_keep h3 fun i hi => c3.keep i (sliceCells_lt h3 i hi) (by simp)
  obtain ⟨r3, t1, t2, t3, t4⟩ := aslice_spec (P := Try.prog) (t := 25) uB zu8 h3' (lo := some (.lit (.int .i64 size))) (hi := none) (l := size) (k := l.length) (by simp [abnd]) rfl hge (Nat.le_refl _)
  have t2' : sliceCells H2 1 r3 = some (encB (l.drop size), (l.drop size).length) := by
    rw [t2, List.length_drop, Nat.mul_one, Nat.mul_one, encB_drop, encB_take, List.take_of_length_le (by simp)]
  obtain ⟨r4, H4, d0, d1, d2, d3⟩ := append_nil t2' (by simp; omega)
  have ho2 := (List.getElem?_eq_some_iff.1 h1').1
  have h1'' : H4[o]? = some (some (.cells [.lit (.int .i64 size), v])) := by rw [d3.keep o ho2 (by simp)]; exact h1'
  have hne : o ∉ idS r4 := fun hi => by
    rcases d3.new _ hi with h | h
    · cases h
    · omega
  have hst := FifoAt.store h1'' d1 d2 hne
  have hlt : ¬ l.length < size := by omega
  have r2new : ∀ i ∈ idS r2, H.length ≤ i ∧ i < H2.length := fun i hi => by
    rcases c3.new i hi with h | h
    · cases h
    · exact ⟨h, sliceCells_lt c2 i hi⟩
  have r4new : ∀ i ∈ idS r4, H2.length ≤ i := fun i hi => by
    rcases d3.new i hi with h | h
    · cases h
    · exact h
  refine BCall.walk noFloats (fun _ => false) mix Try.func15 rfl (by kernel_rfl) ?_
  simp [Try.f15, wCode, wOps, wOpsD, FloatsOk, noFloats, opD, isBS, awanted, aop, aeval, aput, AV.ofV, undefA, anilCheck, afieldAddr, fR0, fR1, ashift, aload, zB, aB, zI, aI, h1, rdCells, abuiltin, hl, abin, aint2, hlt, wRet, isOut, ares, mkres, s1, c0, h1', t1, d0, h1'', astore, cellsA_owned d1, splice]
  refine ⟨r2, o :: idS r4, rfl, c1, ?_, hst, ⟨by have := c3.le; have := d3.le; simp; omega, ?_, ?_⟩, ?_⟩
  · refine sliceCells_keep c2 fun i hi => ?_
    rw [List.getElem?_set_ne (by rintro rfl; have := (r2new _ hi).1; omega)]
    exact d3.keep i (r2new i hi).2 (by simp)
  · intro i hi hn
    simp only [List.mem_cons, not_or] at hn
    rw [List.getElem?_set_ne (Ne.symm hn.1), d3.keep i (by have := c3.le; omega) (by simp)]
    exact c3.keep i hi (by simp)
  · intro i hi
    simp only [List.cons_append, List.mem_cons, List.mem_append] at hi ⊢
    rcases hi with rfl | hi | hi
    · exact .inl (.inl rfl)
    · have := r4new i hi; have := c3.le; exact .inr (by omega)
    · exact .inr (r2new i hi).1
  · intro i hi
    have := r2new i hi
    refine ⟨?_, this.1⟩
    simp only [List.mem_cons, not_or]
    exact ⟨by omega, fun hh => by have := r4new i hh; omega⟩
/-- What Rest answers, and leaves. -/
def Rested (H H' : AH) (o size : Nat) (l : List UInt8) (F : List Nat) (r : AV) : Prop :=
  ∃ F', sliceCells H' 1 r = some (encB l, l.length) ∧ FifoAt H' o size [] F' ∧ Fr H H' F F' ∧ Fr H H' F (idS r) ∧ ∀ i ∈ idS r, i ∉ F'
theorem refRest_ok {H : AH} {o size : Nat} {l : List UInt8} {F : List Nat} (h : FifoAt H o size l F) : ∃ r H', Rested H H' o size l F r ∧ BCall Try.prog 16 [.ptr o 0] H r H' := by
  obtain ⟨v, h1, h2, h3, rfl, h5⟩ := h
  have ho := (List.getElem?_eq_some_iff.1 h1).1
  have hst := FifoAt.store (r := .lit (.slice none 0 0)) (l := []) h1 rfl rfl (by simp [idS])
  have hk : ∀ i, i < H.length → i ∉ o :: idS v → (H.set o (some (.cells [.lit (.int .i64 size), .lit (.slice none 0 0)])))[i]? = H[i]? := fun i hi hn => List.getElem?_set_ne (by simp only [List.mem_cons, not_or] at hn; exact Ne.symm hn.1)
  refine BCall.walk noFloats (fun _ => false) mix Try.func16 rfl (by kernel_rfl) ?_
  simp [Try.f16, wCode, wOps, wOpsD, FloatsOk, noFloats, opD, isBS, awanted, aop, aeval, aput, AV.ofV, undefA, anilCheck, afieldAddr, fR1, ashift, aload, zB, aB, h1, rdCells, wRet, isOut, ares, mkres, astore, cellsA, oneA, splice]
  exact ⟨_, sliceCells_keep h3 (fun i hi => List.getElem?_set_ne (by rintro rfl; exact h5 hi)), hst, ⟨by simp, hk, fun i hi => by simp [idS] at hi; exact .inl (by simp [hi])⟩, ⟨by simp, hk, fun i hi => .inl (by simp [hi])⟩, fun i hi => by simp [idS]; rintro rfl; exact h5 hi⟩
theorem fifoRest_ok {H : AH} {o size : Nat} {l : List UInt8} {F : List Nat} (h : FifoAt H o size l F) (hn : l.length ≤ 140737488355328) : ∃ r H', Rested H H' o size l F r ∧ BCall Try.prog 11 [.ptr o 0] H r H' := by
  obtain ⟨v, h1, h2, h3, rfl, h5⟩ := h
  have ho := (List.getElem?_eq_some_iff.1 h1).1
  obtain ⟨r2, H2, ⟨c1, c2, c3⟩, c4⟩ := clone_ok h3 hn
  have h1' : H2[o]? = some (some (.cells [.lit (.int .i64 size), v])) := by rw [c3.keep o ho (by simp)]; exact h1
  have hst := FifoAt.store (r := .lit (.slice none 0 0)) (l := []) h1' rfl rfl (by simp [idS])
  have hk : ∀ i, i < H.length → i ∉ o :: idS v → (H2.set o (some (.cells [.lit (.int .i64 size), .lit (.slice none 0 0)])))[i]? = H[i]? := fun i hi hn => by
    rw [List.getElem?_set_ne (by simp only [List.mem_cons, not_or] at hn; exact Ne.symm hn.1)]
    exact c3.keep i hi (by simp)
  have r2new : ∀ i ∈ idS r2, H.length ≤ i := fun i hi => by
    rcases c3.new i hi with h | h
    · cases h
    · exact h
  refine BCall.walk noFloats (fun _ => false) mix Try.func11 rfl (by kernel_rfl) ?_
  simp [Try.f11, wCode, wOps, wOpsD, FloatsOk, noFloats, opD, isBS, awanted, aop, aeval, aput, AV.ofV, undefA, anilCheck, afieldAddr, fF1, ashift, aload, zB, aB, h1, rdCells, wRet, isOut, ares, mkres, wCall, acall]
  refine ⟨r2, H2, ⟨by kernel_rfl, c4⟩, ?_⟩
  simp [h1', astore, zB, cellsA, oneA, splice]
  exact ⟨_, sliceCells_keep c2 (fun i hi => List.getElem?_set_ne (by rintro rfl; have := r2new _ hi; omega)), hst, ⟨by simpa using c3.le, hk, fun i hi => by simp [idS] at hi; exact .inl (by simp [hi])⟩, ⟨by simpa using c3.le, hk, fun i hi => .inr (r2new i hi)⟩, fun i hi => by simp [idS]; rintro rfl; have := r2new _ hi; omega⟩
theorem uBB : Try.prog.underlying 44 = some (.slice 25) := Try.underlying44
/-- Put of any lists. -/
theorem fifoPut_ok {H : AH} {o size : Nat} {l : List UInt8} {F : List Nat} (h : FifoAt H o size l F) {b : AV} {bs : List AV} {ds : List (List UInt8)} (hb : sliceCells H 1 b = some (bs, ds.length))
    (hbs : ∀ (k : Nat) (x : AV), bs[k]? = some x → ∃ d, ds[k]? = some d ∧ sliceCells H 1 x = some (encB d, d.length) ∧ ∀ i ∈ idS x, i ∉ F) (hbF : ∀ i ∈ idS b, i ∉ F) (hsz : (l ++ ds.flatten).length ≤ 140737488355328) (hdl : ds.length ≤ 140737488355328) :
    ∃ r H', (∃ F', FifoAt H' o size (l ++ ds.flatten) F' ∧ Fr H H' F F') ∧ BCall Try.prog 8 [.ptr o 0, b] H r H' := by
  have hbl := sliceCells_len hb
  have hlen := alen_spec (P := Try.prog) uBB hb
  refine BCall.walk noFloats (fun _ => false) mix Try.func8 rfl (by kernel_rfl) ?_
  simp [Try.f8, wCode, wOps, wOpsD, FloatsOk, noFloats, opD, isBS, awanted, aop, aeval, aput, AV.ofV, undefA, abuiltin, hlen]
  refine WLoop.upto (fl := noFloats) (ql := fun _ => false) mix (by kernel_rfl) (fun n T H' => ∃ (k : Nat) (F' : List Nat) (x2 x3 x4 x5 x9 x10 x11 x12 x13 x14 x15 x16 x17 x18 x19 x20 x21 : AV), k + n = ds.length ∧
    T = [.ptr o 0, b, x2, x3, x4, x5, b, .lit (.int .i64 ds.length), .lit (.int .i64 k), x9, x10, x11, x12, x13, x14, x15, x16, x17, x18, x19, x20, x21] ∧ FifoAt H' o size (l ++ (ds.take k).flatten) F' ∧ Fr H H' F F') ?_ ds.length
    ⟨0, F, _, _, _, _, _, _, _, _, _, _, _, _, _, _, _, _, _, by simp, rfl, by simpa using h, ⟨Nat.le_refl _, fun _ _ _ => rfl, fun i hi => .inl hi⟩⟩
  rintro n T H1 ⟨k, F1, x2, x3, x4, x5, x9, x10, x11, x12, x13, x14, x15, x16, x17, x18, x19, x20, x21, hk, rfl, hat, hfr⟩
  by_cases hkn : k < ds.length
  · have hx : bs[k]? = some bs[k] := List.getElem?_eq_getElem (by omega)
    obtain ⟨d, hd, hxs, hxF⟩ := hbs k _ hx
    generalize bs[k] = x at hx hxs hxF
    have hxs1 : sliceCells H1 1 x = some (encB d, d.length) := sliceCells_keep hxs fun i hi => hfr.keep i (sliceCells_lt hxs i hi) (hxF i hi)
    have hb1 : sliceCells H1 1 b = some (bs, ds.length) := sliceCells_keep hb fun i hi => hfr.keep i (sliceCells_lt hb i hi) (hbF i hi)
    obtain ⟨ia, i1, i2⟩ := index_spec (P := Try.prog) (ik := .i64) uBB zB aB hb1 hx
    obtain ⟨v, h1, h2, h3, rfl, h5⟩ := hat
    have hld : aload Try.prog H1 25 (.ptr o 1) = some v := by simp [aload, zB, aB, h1, rdCells]
    have hflat : (ds.take (k + 1)).flatten = (ds.take k).flatten ++ d := by rw [List.take_add_one, hd]; simp
    have hle : ((ds.take k).flatten ++ d).length ≤ ds.flatten.length := by
      rw [← hflat]
      have : ds.flatten = (ds.take (k + 1)).flatten ++ (ds.drop (k + 1)).flatten := by rw [← List.flatten_append, List.take_append_drop]
      rw [this, List.length_append]; omega
    simp only [List.length_append] at hle hsz
    obtain ⟨r1, H2, e1, e2, e3, e4, e5, e6⟩ := aappend_spec (P := Try.prog) (ts := 25) (tx := 25) uB (.inl ⟨_, uB⟩) eu8 h3 h2 (appended_slice hxs1) (by rw [List.length_append]; omega)
    have ho := (List.getElem?_eq_some_iff.1 h1).1
    have h1' : H2[o]? = some (some (.cells [.lit (.int .i64 size), v])) := by rw [e5 o ho h5]; exact h1
    have hne : o ∉ idS r1 := fun hi => (e6 o hi).elim h5 (by omega)
    have hst := FifoAt.store (l := l ++ (ds.take (k + 1)).flatten) h1' e2 (by rw [hflat, ← List.append_assoc, encB_app, List.length_append]; exact e3) hne
    have hfr2 : Fr H (H2.set o (some (.cells [.lit (.int .i64 size), r1]))) F (o :: idS r1) := ⟨by have := hfr.le; simp; omega, fun i hi hn => by
        have hio : i ≠ o := by
          rintro rfl
          rcases hfr.new i (by simp) with h | h
          · exact hn h
          · omega
        rw [List.getElem?_set_ne (Ne.symm hio), e5 i (by have := hfr.le; omega) (fun hv => by
          rcases hfr.new i (by simp [hv]) with h | h
          · exact hn h
          · omega)]
        exact hfr.keep i hi hn, fun i hi => by
        rcases List.mem_cons.1 hi with rfl | hi
        · exact hfr.new _ (by simp)
        · rcases e6 i hi with h | h
          · exact hfr.new _ (by simp [h])
          · exact .inr (by have := hfr.le; omega)⟩
    have hk1 : IntKind.i64.wrap ((k : Int) + 1) = (k : Int) + 1 := by simp [IntKind.wrap, IntKind.bits, IntKind.signed]; omega
    simp [wCode, wOps, wOpsD, FloatsOk, noFloats, opD, isBS, awanted, aop, aeval, aput, AV.ofV, undefA, abin, aint2, hkn, hk1, i1, i2, anilCheck, afieldAddr, fF1, ashift, hld, abuiltin, e1, astore, zB, cellsA_owned e2, h1', splice]
    exact ⟨n - 1, by omega, k + 1, by omega, by omega, o :: idS r1, hst, hfr2⟩
  · have hkn' : k = ds.length := by omega
    subst hkn'
    simp [wCode, wOps, wOpsD, FloatsOk, noFloats, opD, isBS, awanted, aop, aeval, aput, AV.ofV, undefA, abin, aint2, wRet, isOut, ares, mkres]
    exact ⟨F1, by simpa using hat, hfr⟩
end Go.Proofs.Ytmokogdcikdlfaa.Av
