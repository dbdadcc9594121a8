/- Texts of this proof, one behind the other, packed into one file by a program of this session. No condition. -/
import Derived.Test.YtofgloiebnppbaaMtD
import Derived.KernelRfl
import Derived.Lib.Bytealg
/-! YtofgloiebnppbaaAvDel -/
section
/- slices.Delete of one element. -/
set_option linter.unusedVariables false
set_option linter.unusedSimpArgs false
set_option maxRecDepth 100000
namespace Go.Proofs.Ytofgloiebnppbaa.Av
open Go Go.RowKit
/- What names no object belongs to any heap. -/
mutual
theorem noIds_belG {m : Nat} : ∀ {a : AV}, noIds a = true → Bel m a
 | .lit _, _ => by simp only [Bel]
 | .ptr .., h => by simp [noIds] at h
 | .ip cs, h => by simp only [noIds] at h; simp only [Bel]; exact zgtZ h
 | .sl .., h => by simp [noIds] at h
 | .imm cs _ _, h => by simp only [noIds] at h; simp only [Bel]; exact zgtZ h
 | .mp _, h => by simp [noIds] at h
 | .agg cs, h => by simp only [noIds] at h; simp only [Bel]; exact zgtZ h
 | .tup cs, h => by simp only [noIds] at h; simp only [Bel]; exact zgtZ h
 | .fn _ a b, h => by simp only [noIds, Bool.and_eq_true] at h; simp only [Bel]; exact ⟨zgtZ h.1, zgtZ h.2⟩
 | .emp, _ => by simp only [Bel]
 | .junk, _ => by simp only [Bel]
theorem zgtZ {m : Nat} : ∀ {xs : List AV}, noIdss xs = true → Bels m xs
 | [], _ => by simp only [Bels]
 | a :: r, h => by simp only [noIdss, Bool.and_eq_true] at h; simp only [Bels]; exact ⟨noIds_belG h.1, zgtZ h.2⟩
end
section
variable {P : Program}
def delF (sz bytes : Nat) (zc : List AV) (a0 a1 a2 : AV) (H : AH) (K : AV → AH → Prop) : Prop :=
bO (alnS a0) fun v0 =>
bO (aslS sz a0 (some a1) (some a2) (some v0)) fun v1 =>
bO (abI .eql a1 a2) fun v2 =>
bB v2 fun t3 => bI t3 (
K a0 H)
 (bO (alnS a0) fun v4 =>
bO (aslS sz a0 none (some a1) none) fun v5 =>
bO (aslS sz a0 (some a2) none none) fun v6 =>
bH (aap sz bytes H v5 v6) fun v7 H8 =>
bO (alnS v7) fun v9 =>
bO (aslS sz v7 (some v9) (some v4) none) fun v10 =>
bS (acl zc H8 v10) fun H11 =>
K v7 H11)
def DelG (sz : Nat) (H : AH) (s : AV) (N : List AV) (n : Nat) (r : AV) (H' : AH) : Prop :=
 ownedS r = true ∧ zaZ H' sz r = some (N, n) ∧ H'.length = H.length ∧ (∀ i, i ∉ idS s → H'[i]? = H[i]?) ∧ idS r = idS s ∧ capOk r n
theorem del_ok {sz bytes : Nat} {zc : List AV} (h0 : 0 < sz) (hz : zc.length = sz) {H : AH} {s : AV} {cs : List AV} {n i : Nat} (hs : zaZ H sz s = some (cs, n + 1)) (ho : ownedS s = true) (hcap : capOk s (n + 1)) (hi : i ≤ n) (hn : n ≤ 1000000) (hby : bytes ≤ 1000000) :
  ∃ r H', DelG sz H s (cs.take (i * sz) ++ cs.drop ((i + 1) * sz)) n r H' ∧ delF sz bytes zc s (I i) (I ((i : Int) + 1)) H fun r' H'' => r' = r ∧ H'' = H' := by
 obtain ⟨o, off, cap, cells, rfl, hc, hl, rfl⟩ := owned_sl hs ho (by omega)
 have hol := (List.getElem?_eq_some_iff.1 hc).1
 have hms : (i + 1) * sz = i * sz + sz := Nat.succ_mul _ _
 have hns : (n + 1) * sz = n * sz + sz := Nat.succ_mul _ _
 have hmi : i * sz ≤ n * sz := Nat.mul_le_mul_right _ (by omega)
 have hmn : (i + 1) * sz + (n - i) * sz = (n + 1) * sz := by rw [← Nat.add_mul]; congr 1; omega
 obtain ⟨cap', hcap1, hcap2⟩ : ∃ cap', Room.cut (n + 1) 0 cap = cap' ∧ n + 1 ≤ cap'.least := by
  refine ⟨_, rfl, ?_⟩
  cases cap <;> simp_all [Room.cut, Room.least, capOk] <;> omega
 have hap : ∃ H8, aap sz bytes H (.sl o off i sz cap') (.sl o (off + (i + 1) * sz) (n - i) sz (cap.cut (n + 1) (i + 1))) = some (.sl o off n sz cap', H8) ∧ H8.length = H.length ∧ (∀ j, j ≠ o → H8[j]? = H[j]?) ∧ H8[o]? = some (some (.cells (over cells (off + i * sz) ((cells.drop (off + (i + 1) * sz)).take ((n - i) * sz))))) := by
  have e : zcoZ H sz (.sl o (off + (i + 1) * sz) (n - i) sz (cap.cut (n + 1) (i + 1))) = some ((cells.drop (off + (i + 1) * sz)).take ((n - i) * sz), n - i) := ztZ (by rw [zbjZ hc (by omega)])
  unfold aap
  rw [e]
  simp only [aapp1, hc]
  rw [if_neg (by simp; omega)]
  have hin : i + (n - i) = n := by omega
  cases cap' with
  | ex k =>
   simp only [Room.least] at hcap2
   simp only [hin, show n ≤ k by omega, if_true]
   exact ⟨_, rfl, by simp, fun j hj => by rw [List.getElem?_set_ne (Ne.symm hj)], by simp [hol]⟩
  | ge k =>
   simp only [Room.least] at hcap2
   by_cases h : n - i = 0
   ·have : i = n := by omega
    subst this
    simp only [h, if_true]
    refine ⟨_, rfl, rfl, fun _ _ => rfl, ?_⟩
    rw [hc]; simp [over]
   ·simp only [h, if_false, hin, show n ≤ k by omega, if_true]
    exact ⟨_, rfl, by simp, fun j hj => by rw [List.getElem?_set_ne (Ne.symm hj)], by simp [hol]⟩
 obtain ⟨H8, hA, hL, hO, hC⟩ := hap
 have hDl : ((cells.drop (off + (i + 1) * sz)).take ((n - i) * sz)).length = (n - i) * sz := by rw [List.length_take, List.length_drop]; omega
 have hcl : (over cells (off + i * sz) ((cells.drop (off + (i + 1) * sz)).take ((n - i) * sz))).length = cells.length := over_len (by rw [hDl]; omega)
 have hol8 : o < H8.length := by omega
 refine ⟨.sl o off n sz cap', H8.set o (some (.cells (over (over cells (off + i * sz) ((cells.drop (off + (i + 1) * sz)).take ((n - i) * sz))) (off + n * sz) (zrow zc 1)))), ⟨rfl, ?_, ?_, fun j hj => ?_, rfl, by simp only [capOk]; omega⟩, ?_⟩
 rotate_left 3
 ·unfold delF
  have q1 : ((i : Int) + 1) = ((i + 1 : Nat) : Int) := by omega
  have w1 : alnS (.sl o off (n + 1) sz cap) = some (I ((n + 1 : Nat) : Int)) := rfl
  have hcl' : n + 1 ≤ cap.least := hcap
  have w2 : ∃ v, aslS sz (.sl o off (n + 1) sz cap) (some (I i)) (some (I ((i + 1 : Nat) : Int))) (some (I ((n + 1 : Nat) : Int))) = some v := by
   refine ⟨.sl o (off + i * sz) (i + 1 - i) sz (.ex (n + 1 - i)), ?_⟩
   simp [aslS, abnd, goInt, show (0 : Int) ≤ (i : Int) + 1 by omega, show (0 : Int) ≤ (n : Int) + 1 by omega]
   omega
  obtain ⟨v, w2⟩ := w2
  have w3 : aslS sz (.sl o off (n + 1) sz cap) none (some (I i)) none = some (.sl o off i sz cap') := by
   rw [← hcap1]
   simp [aslS, abnd, goInt]
   omega
  have w4 : aslS sz (.sl o off (n + 1) sz cap) (some (I ((i + 1 : Nat) : Int))) none none = some (.sl o (off + (i + 1) * sz) (n - i) sz (cap.cut (n + 1) (i + 1))) := by
   have : ((i : Int) + 1) = ((i + 1 : Nat) : Int) := by omega
   simp [aslS, abnd, goInt, this, -Int.natCast_add]
   omega
  have w5 : aslS sz (.sl o off n sz cap') (some (I n)) (some (I ((n + 1 : Nat) : Int))) none = some (.sl o (off + n * sz) 1 sz (cap'.cut n n)) := by
   simp [aslS, abnd, goInt, show (0 : Int) ≤ (n : Int) + 1 by omega]
   omega
  have w6 : abI .eql (I i) (I ((i + 1 : Nat) : Int)) = some (B false) := by simp; omega
  rw [q1, w1]
  simp only [bO_some, w2, w6, bB_bool, zwZ, w3, w4, hA, bH_some, alnS, w5]
  have zl : (zrow zc 1).length = sz := by rw [zekZ, hz]; omega
  have w7 : acl zc H8 (.sl o (off + n * sz) 1 sz (cap'.cut n n)) = some (H8.set o (some (.cells (over (over cells (off + i * sz) ((cells.drop (off + (i + 1) * sz)).take ((n - i) * sz))) (off + n * sz) (zrow zc 1))))) := by
   unfold acl
   simp only [hC]
   rw [if_pos ⟨hz, by omega, by omega⟩, if_neg (by omega), splice_eq _ _ _ (by omega)]
   rfl
  rw [w7]
  simp only [bS_some]
  exact ⟨trivial, trivial⟩
 ·rw [zbjZ (c := over (over cells (off + i * sz) ((cells.drop (off + (i + 1) * sz)).take ((n - i) * sz))) (off + n * sz) (zrow zc 1)) (by simp [hol8]) (by rw [over_len (by rw [zekZ, hz]; omega)]; omega)]
  congr 2
  have e1 : ((cells.drop off).take ((n + 1) * sz)).take (i * sz) = (cells.drop off).take (i * sz) := by rw [List.take_take]; congr 1; omega
  have e2 : ((cells.drop off).take ((n + 1) * sz)).drop ((i + 1) * sz) = (cells.drop (off + (i + 1) * sz)).take ((n - i) * sz) := by rw [List.drop_take, List.drop_drop]; congr 1; omega
  rw [e1, e2]
  have e3 : (n : Nat) * sz = i * sz + (n - i) * sz := by rw [← Nat.add_mul]; congr 1; omega
  generalize (cells.drop (off + (i + 1) * sz)).take ((n - i) * sz) = D at *
  have h1 : ((over (over cells (off + i * sz) D) (off + n * sz) (zrow zc 1)).drop off).take (n * sz) = ((over cells (off + i * sz) D).drop off).take (n * sz) := by
   refine List.ext_getElem? fun k => ?_
   rw [List.getElem?_take, List.getElem?_take]
   by_cases c : k < n * sz
   ·rw [if_pos c, if_pos c, List.getElem?_drop, List.getElem?_drop, over_get (by rw [zekZ, hz]; omega), if_neg (by omega)]
   ·rw [if_neg c, if_neg c]
  rw [h1, e3]
  have := (over_read cells off (i * sz) D (by omega)).1
  rw [hDl] at this
  exact this
 ·simp [hL]
 ·rw [List.getElem?_set_ne (by simp [idS] at hj; omega)]; exact hO j (by simpa [idS] using hj)
end
end Go.Proofs.Ytofgloiebnppbaa.Av
end
/-! YtofgloiebnppbaaAvEc -/
section
/- strings.Compare's inner call: what two texts are to one another. -/
set_option linter.unusedVariables false
namespace Go.Proofs.Ytofgloiebnppbaa.Av
open Go Go.RowKit
theorem compareString_calls (a b : ByteArray) (H : AH) : ACalls Try.prog 86 [.lit (.string a), .lit (.string b)] H fun r H' => r = .lit (.int .i64 (Lib.compareBytes a.data.toList b.data.toList)) ∧ H' = H := by
 refine ACalls.of_body Try.func86 rfl ?_
 refine ACode.seq (ACode.region (AOps.op rfl rfl (AOps.nil ?_)))
 refine ACode.seq (ACode.region (AOps.op rfl rfl (AOps.op rfl rfl (AOps.extern rfl rfl (r := .lit (.int .i64 (Lib.compareBytes a.data.toList b.data.toList))) ?_ (AOps.op rfl rfl (AOps.nil ?_))))))
 ·intro G vs hH hv
  have hv' : VRs G [.lit (.string a), .lit (.string b)] vs := hv
  simp only [VRs, VR] at hv'
  obtain ⟨_, _, rfl, rfl, _, _, rfl, rfl, rfl⟩ := hv'
  refine ⟨.int .i64 (Lib.compareBytes a.data.toList b.data.toList), ?_, by simp only [VR]⟩
  rw [run_callFunc_extern Try.func98 (by kernel_rfl) (by kernel_rfl) (by kernel_rfl) (e := Extern.BytealgCompare.compare) (by kernel_rfl),
   Lib.run_compareString (P := Try.prog) a b G.w]
  rfl
 ·exact ACode.ret ⟨.inr rfl, _, rfl, rfl, rfl⟩
def cmpExt : CallFn := fun f args H => if f = 86 then match args with
  | [.lit (.string a), .lit (.string b)] => some (.lit (.int .i64 (Lib.compareBytes a.data.toList b.data.toList)), H)
  | _ => none
 else none
theorem cmpExt_ok : CallOk Try.prog cmpExt := by
 intro f args H r H' h
 unfold cmpExt at h
 split at h
 ·rename_i hf
  subst hf
  split at h
  ·injection h with h
   injection h with h1 h2
   subst h1; subst h2
   exact compareString_calls _ _ _
  ·cases h
 ·cases h
end Go.Proofs.Ytofgloiebnppbaa.Av
end
/-! YtofgloiebnppbaaPb -/
section
/- Formulas of functions of the program: printed by a program of this session (wip/tools/Pr.lean.txt), each checked by the kernel. -/
set_option linter.unusedVariables false
set_option maxRecDepth 100000
namespace Go.Proofs.Ytofgloiebnppbaa.Av
open Go
def pqb : FuncId → Bool := inL [79,61,80,47,81,89,60,84,18,49,42,48,39,43,73,65,67,87,86]
def pqba : FuncId → Bool := inL [90,92]
/-! salvor/image.copied -/
def image_copied_fl : Floats := flOf []
def image_copied_kp : Nat → Option (List Bool) := kpOf []
def image_copied (a0 : AV) (H : AH) (K : AV → AH → Prop) : Prop :=
bH (anew H a0) fun v0 H1 =>
bH (anew H1 (.agg [(.lit (.int .i64 0)), (.lit (.slice none 0 0))])) fun v2 H3 =>
bO (ashift 0 v0) fun v4 =>
bO (ald false 1 H3 v4) fun v5 =>
bO (ashift 1 v0) fun v6 =>
bO (ald false 1 H3 v6) fun v7 =>
bP (BPure Try.prog 84 [v7]) fun v8 =>
bO (abl [(.lit (.int .i64 0)), (.lit (.slice none 0 0))] [(0, 1, v5), (1, 1, v8)]) fun v9 =>
bS (ast 2 H3 v2 v9) fun H10 =>
bO (ald true 2 H10 v2) fun v11 =>
K v11 H10
theorem image_copied_eq (a0 : AV) (H : AH) (K : AV → AH → Prop) : sFun Try.prog image_copied_fl pqb none0 none0 image_copied_kp Try.f60 [a0] H K = image_copied a0 H K := by kernel_rfl
theorem image_copied_ok {a0 : AV} {H : AH} {K : AV → AH → Prop} (h : image_copied a0 H K) : ∃ r H', K r H' ∧ BCall Try.prog 60 [a0] H r H' :=
 sFun_ok mixP Try.func60 (by kernel_rfl) (Eq.mpr (image_copied_eq a0 H K) h)
/-! salvor/image.Find -/
def image_Find_fl : Floats := flOf []
def image_Find_kp : Nat → Option (List Bool) := kpOf []
def image_Find (a0 a1 : AV) (H : AH) (K : AV → AH → Prop) : Prop :=
bH (anew H a0) fun v0 H1 =>
bO (ald true 2 H1 v0) fun v2 =>
bP (PCall Try.prog 43 [v2] H1) fun v3 =>
bO (aun .not v3) fun v4 =>
bB v4 fun t5 => bI t5 (
K (.tup [(.lit (.int .i64 0)), (.lit (.bool false))]) H1)
 (bO (ald true 2 H1 v0) fun v6 =>
bC (BCall Try.prog 44 [v6, a1] H1) fun v7 H8 =>
bO (zkZ v7 0) fun v9 =>
bO (zkZ v7 1) fun v10 =>
bO (aun .not v10) fun v11 =>
bB v11 fun t12 => bI t12 (
K (.tup [(.lit (.int .i64 0)), (.lit (.bool false))]) H8)
 (bO (ashift 0 v0) fun v13 =>
bO (ald false 1 H8 v13) fun v14 =>
bO (aixS 2 v14 v9) fun v15 =>
bO (ashift 1 v15) fun v16 =>
bO (ald false 1 H8 v16) fun v17 =>
K (.tup [v17, (.lit (.bool true))]) H8))
theorem image_Find_eq (a0 a1 : AV) (H : AH) (K : AV → AH → Prop) : sFun Try.prog image_Find_fl pqb none0 none0 image_Find_kp Try.f18 [a0, a1] H K = image_Find a0 a1 H K := by kernel_rfl
theorem image_Find_ok {a0 a1 : AV} {H : AH} {K : AV → AH → Prop} (h : image_Find a0 a1 H K) : ∃ r H', K r H' ∧ BCall Try.prog 18 [a0, a1] H r H' :=
 sFun_ok mixP Try.func18 (by kernel_rfl) (Eq.mpr (image_Find_eq a0 a1 H K) h)
/-! salvor/image.Get -/
def image_Get_fl : Floats := flOf []
def image_Get_kp : Nat → Option (List Bool) := kpOf []
def image_Get (a0 a1 : AV) (H : AH) (K : AV → AH → Prop) : Prop :=
bH (anew H a0) fun v0 H1 =>
bH (anew H1 (.agg [(.lit (.int .i64 0)), (.lit (.slice none 0 0))])) fun v2 H3 =>
bO (ald true 2 H3 v0) fun v4 =>
bP (PCall Try.prog 43 [v4] H3) fun v5 =>
bO (aun .not v5) fun v6 =>
bB v6 fun t7 => bI t7 (
bO (abl [(.lit (.int .i64 0)), (.lit (.slice none 0 0))] []) fun v8 =>
bS (ast 2 H3 v2 v8) fun H9 =>
bO (ald true 2 H9 v2) fun v10 =>
K (.tup [v10, (.lit (.bool false))]) H9)
 (bO (ald true 2 H3 v0) fun v11 =>
bC (BCall Try.prog 74 [v11, a1] H3) fun v12 H13 =>
bO (zkZ v12 0) fun v14 =>
bO (zkZ v12 1) fun v15 =>
bO (aun .not v15) fun v16 =>
bB v16 fun t17 => bI t17 (
bO (abl [(.lit (.int .i64 0)), (.lit (.slice none 0 0))] []) fun v18 =>
bS (ast 2 H13 v2 v18) fun H19 =>
bO (ald true 2 H19 v2) fun v20 =>
K (.tup [v20, (.lit (.bool false))]) H19)
 (bO (ashift 1 v0) fun v21 =>
bO (ald false 1 H13 v21) fun v22 =>
bO (aixS 3 v22 v14) fun v23 =>
bO (ashift 1 v23) fun v24 =>
bO (ald true 2 H13 v24) fun v25 =>
bP (PCall Try.prog 60 [v25] H13) fun v26 =>
bS (ast 2 H13 v2 v26) fun H27 =>
bO (ald true 2 H27 v2) fun v28 =>
K (.tup [v28, (.lit (.bool true))]) H27))
theorem image_Get_eq (a0 a1 : AV) (H : AH) (K : AV → AH → Prop) : sFun Try.prog image_Get_fl pqb none0 none0 image_Get_kp Try.f49 [a0, a1] H K = image_Get a0 a1 H K := by kernel_rfl
theorem image_Get_ok {a0 a1 : AV} {H : AH} {K : AV → AH → Prop} (h : image_Get a0 a1 H K) : ∃ r H', K r H' ∧ BCall Try.prog 49 [a0, a1] H r H' :=
 sFun_ok mixP Try.func49 (by kernel_rfl) (Eq.mpr (image_Get_eq a0 a1 H K) h)
/-! salvor/image.Used -/
def image_Used_fl : Floats := flOf []
def image_Used_kp : Nat → Option (List Bool) := kpOf [(7, mk 24 0 [3, 10, 11, 12])]
def zljZ (p : List Bool) (n : Nat) : List AV → AH → Kf → Prop := sCode Try.prog image_Used_fl pqb none0 none0 image_Used_kp (sub p (bodyOf Try.f42)) n
def image_Used_L7 (x3 x10 x11 x12 : AV) (H : AH) (K : AV → AH → Prop) : Prop := lp (mk 24 0 [3, 10, 11, 12]) (zljZ [true, true, true, false, true, false, false] 8) [x3, x10, x11, x12] H (kBlk 0 (kSeq (zljZ [true, true, true, true] 12) (kRet Try.prog Try.f42.results.toList K)))
def zjiZ (R7 : List AV → AH → Prop) (x3 x10 x11 x12 : AV) (H : AH) (K : AV → AH → Prop) : Prop :=
bO (abI .lss x12 x11) fun v0 =>
bB v0 fun t1 => bI t1 (
bO (aixS 3 x10 x12) fun v2 =>
bO (ald true 3 H v2) fun v3 =>
bH (anew H (.agg [(.lit (.int .i64 0)), (.lit (.int .i64 0)), (.lit (.slice none 0 0))])) fun v4 H5 =>
bS (ast 3 H5 v4 v3) fun H6 =>
bO (ashift 1 v4) fun v7 =>
bO (ashift 1 v7) fun v8 =>
bO (ald false 1 H6 v8) fun v9 =>
bO (alnS v9) fun v10 =>
bO (abI .add x3 v10) fun v11 =>
bO (abI .add x12 (.lit (.int .i64 1))) fun v12 =>
R7 [v11, x10, x11, v12] H6)
 (K x3 H)
theorem image_Used_L7_eq (R7 : List AV → AH → Prop) (x3 x10 x11 x12 : AV) (H : AH) (K : AV → AH → Prop) : zljZ [true, true, true, false, true, false, false] 8 (expand (mk 24 0 [3, 10, 11, 12]) [x3, x10, x11, x12]) H (kLp (mk 24 0 [3, 10, 11, 12]) R7 (kBlk 0 (kSeq (zljZ [true, true, true, true] 12) (kRet Try.prog Try.f42.results.toList K)))) = zjiZ R7 x3 x10 x11 x12 H K := by kernel_rfl
theorem image_Used_L7_rule {K : AV → AH → Prop} (I : Nat → AV → AV → AV → AV → AH → Prop) (round : ∀ (n : Nat) (x3 x10 x11 x12 : AV) (H : AH) (R : List AV → AH → Prop), (∀ (m : Nat) (y3 y10 y11 y12 : AV) (H' : AH), m < n → I m y3 y10 y11 y12 H' → R [y3, y10, y11, y12] H') → I n x3 x10 x11 x12 H → zjiZ R x3 x10 x11 x12 H K) (n : Nat) {x3 x10 x11 x12 : AV} {H : AH} (h : I n x3 x10 x11 x12 H) : image_Used_L7 x3 x10 x11 x12 H K := by
 refine lp_upto (zbnZ _ _) (LI4 I) ?_ n h
 intro n X H h
 obtain ⟨x3, x10, x11, x12, rfl, h⟩ := h.elim
 exact Eq.mpr (image_Used_L7_eq _ x3 x10 x11 x12 H K) (round n x3 x10 x11 x12 H (fun X H' => ∃ m, m < n ∧ LI4 I m X H') (fun m y3 y10 y11 y12 H' hm hi => ⟨m, hm, hi⟩) h)
def image_Used (a0 : AV) (H : AH) (K : AV → AH → Prop) : Prop :=
bH (anew H a0) fun v0 H1 =>
bO (ald true 2 H1 v0) fun v2 =>
bP (PCall Try.prog 43 [v2] H1) fun v3 =>
bO (aun .not v3) fun v4 =>
bB v4 fun t5 => bI t5 (
K (.lit (.int .i64 0)) H1)
 (bO (ashift 1 v0) fun v6 =>
bO (ald false 1 H1 v6) fun v7 =>
bO (alnS v7) fun v8 =>
image_Used_L7 (.lit (.int .i64 0)) v7 v8 (.lit (.int .i64 0)) H1 K)
theorem image_Used_eq (a0 : AV) (H : AH) (K : AV → AH → Prop) : sFun Try.prog image_Used_fl pqb none0 none0 image_Used_kp Try.f42 [a0] H K = image_Used a0 H K := by kernel_rfl
theorem image_Used_ok {a0 : AV} {H : AH} {K : AV → AH → Prop} (h : image_Used a0 H K) : ∃ r H', K r H' ∧ BCall Try.prog 42 [a0] H r H' :=
 sFun_ok mixP Try.func42 (by kernel_rfl) (Eq.mpr (image_Used_eq a0 H K) h)
/-! salvor/image.MayName -/
def zlyZ : Floats := flOf []
def zlwZ : Nat → Option (List Bool) := kpOf [(6, mk 27 0 [0, 17, 18])]
def zheZ (p : List Bool) (n : Nat) : List AV → AH → Kf → Prop := sCode Try.prog zlyZ pqb none0 none0 zlwZ (sub p (bodyOf Try.f48)) n
def zikZ (x0 x17 x18 : AV) (H : AH) (K : AV → AH → Prop) : Prop := lp (mk 27 0 [0, 17, 18]) (zheZ [true, true, false, true, false, false] 7) [x0, x17, x18] H (kBlk 0 (kSeq (zheZ [true, true, true] 13) (kRet Try.prog Try.f48.results.toList K)))
def zgzZ (R6 : List AV → AH → Prop) (x0 x17 x18 : AV) (H : AH) (K : AV → AH → Prop) : Prop :=
bO (abI .lss x18 x17) fun v0 =>
bB v0 fun t1 => bI t1 (
bO (aivT x0 x18) fun v2 =>
bP (PCall Try.prog 73 [v2] H) fun v3 =>
bO (aun .not v3) fun v4 =>
bB v4 fun t5 => bI t5 (
K (.lit (.bool false)) H)
 (bO (abI .add x18 (.lit (.int .i64 1))) fun v6 =>
R6 [x0, x17, v6] H))
 (K (.lit (.bool true)) H)
theorem image_MayName_L6_eq (R6 : List AV → AH → Prop) (x0 x17 x18 : AV) (H : AH) (K : AV → AH → Prop) : zheZ [true, true, false, true, false, false] 7 (expand (mk 27 0 [0, 17, 18]) [x0, x17, x18]) H (kLp (mk 27 0 [0, 17, 18]) R6 (kBlk 0 (kSeq (zheZ [true, true, true] 13) (kRet Try.prog Try.f48.results.toList K)))) = zgzZ R6 x0 x17 x18 H K := by kernel_rfl
theorem zmdZ {K : AV → AH → Prop} (I : Nat → AV → AV → AV → AH → Prop) (round : ∀ (n : Nat) (x0 x17 x18 : AV) (H : AH) (R : List AV → AH → Prop), (∀ (m : Nat) (y0 y17 y18 : AV) (H' : AH), m < n → I m y0 y17 y18 H' → R [y0, y17, y18] H') → I n x0 x17 x18 H → zgzZ R x0 x17 x18 H K) (n : Nat) {x0 x17 x18 : AV} {H : AH} (h : I n x0 x17 x18 H) : zikZ x0 x17 x18 H K := by
 refine lp_upto (zbnZ _ _) (LI3 I) ?_ n h
 intro n X H h
 obtain ⟨x0, x17, x18, rfl, h⟩ := h.elim
 exact Eq.mpr (image_MayName_L6_eq _ x0 x17 x18 H K) (round n x0 x17 x18 H (fun X H' => ∃ m, m < n ∧ LI3 I m X H') (fun m y0 y17 y18 H' hm hi => ⟨m, hm, hi⟩) h)
def image_MayName (a0 : AV) (H : AH) (K : AV → AH → Prop) : Prop :=
bO (abT .eql a0 (.lit (.string ⟨#[]⟩))) fun v0 =>
bG v0 false fun w1 =>
gO w1 (some a0) fun v2 =>
bG v0 false fun w3 =>
gO w3 (alnT v2) fun v4 =>
bG v0 false fun w5 =>
gO w5 (abI .gtr v4 (.lit (.int .i64 20))) fun v6 =>
bO (apick v0 (.lit (.bool true)) v6) fun v7 =>
bG v7 false fun w8 =>
gO w8 (some a0) fun v9 =>
bG v7 false fun w10 =>
gO w10 (aivT v9 (.lit (.int .i64 0))) fun v11 =>
bG v7 false fun w12 =>
gO w12 (abI .eql v11 (.lit (.int .u8 45))) fun v13 =>
bO (apick v7 (.lit (.bool true)) v13) fun v14 =>
bB v14 fun t15 => bI t15 (
K (.lit (.bool false)) H)
 (bO (alnT a0) fun v16 =>
zikZ a0 v16 (.lit (.int .i64 0)) H K)
theorem image_MayName_eq (a0 : AV) (H : AH) (K : AV → AH → Prop) : sFun Try.prog zlyZ pqb none0 none0 zlwZ Try.f48 [a0] H K = image_MayName a0 H K := by kernel_rfl
theorem image_MayName_ok {a0 : AV} {H : AH} {K : AV → AH → Prop} (h : image_MayName a0 H K) : ∃ r H', K r H' ∧ BCall Try.prog 48 [a0] H r H' :=
 sFun_ok mixP Try.func48 (by kernel_rfl) (Eq.mpr (image_MayName_eq a0 H K) h)
/-! salvor/image.Apply -/
def image_Apply_fl : Floats := flOf []
def image_Apply_kp : Nat → Option (List Bool) := kpOf [(13, mk 37 0 [2, 3, 4, 31]), (12, mk 37 0 [2, 3, 4, 12, 24]), (8, mk 37 0 [2, 3, 4, 12, 17]), (5, mk 37 0 [2, 4])]
def zepZ (p : List Bool) (n : Nat) : List AV → AH → Kf → Prop := sCode Try.prog image_Apply_fl pqb none0 none0 image_Apply_kp (sub p (bodyOf Try.f39)) n
def zdsZ (x2 x4 : AV) (H : AH) (K : AV → AH → Prop) : Prop := jn (mk 37 0 [2, 4]) (zepZ [true, true, true, true] 14) [x2, x4] H (kRet Try.prog Try.f39.results.toList K)
def image_Apply_J13 (x2 x3 x4 x31 : AV) (H : AH) (K : AV → AH → Prop) : Prop := jn (mk 37 0 [2, 3, 4, 31]) (zepZ [true, true, true, false, true, false, true, true, true, true, true, true, true] 14) [x2, x3, x4, x31] H (kBlk 0 (kSeq (cutC (mk 37 0 [2, 4]) (zepZ [true, true, true, true] 14)) (kRet Try.prog Try.f39.results.toList K)))
def image_Apply_J12 (x2 x3 x4 x12 x24 : AV) (H : AH) (K : AV → AH → Prop) : Prop := jn (mk 37 0 [2, 3, 4, 12, 24]) (zepZ [true, true, true, false, true, false, true, true, true, true, true] 13) [x2, x3, x4, x12, x24] H (kBlk 0 (kSeq (cutC (mk 37 0 [2, 4]) (zepZ [true, true, true, true] 14)) (kRet Try.prog Try.f39.results.toList K)))
def zesZ (x2 x3 x4 x12 x17 : AV) (H : AH) (K : AV → AH → Prop) : Prop := jn (mk 37 0 [2, 3, 4, 12, 17]) (zepZ [true, true, true, false, true, false, true, true, true] 12) [x2, x3, x4, x12, x17] H (kBlk 0 (kSeq (cutC (mk 37 0 [2, 4]) (zepZ [true, true, true, true] 14)) (kRet Try.prog Try.f39.results.toList K)))
def zinZ (x2 x4 : AV) (H : AH) (K : AV → AH → Prop) : Prop :=
bO (ald true 2 H x2) fun v0 =>
bS (ast 2 H x4 v0) fun H1 =>
bO (ald true 2 H1 x4) fun v2 =>
K v2 H1
theorem zkwZ (x2 x4 : AV) (H : AH) (K : AV → AH → Prop) : zdsZ x2 x4 H K = zinZ x2 x4 H K := (jn_eq _ _ _ _ _).trans (by kernel_rfl)
def zldZ (x2 x3 x4 x31 : AV) (H : AH) (K : AV → AH → Prop) : Prop :=
bB x31 fun t0 => bI t0 (
bO (ashift 5 x3) fun v1 =>
bO (ald false 1 H v1) fun v2 =>
bC (BCall Try.prog 57 [x2, v2] H) fun v3 H4 =>
zdsZ x2 x4 H4 K)
 (zdsZ x2 x4 H K)
theorem image_Apply_J13_eq (x2 x3 x4 x31 : AV) (H : AH) (K : AV → AH → Prop) : image_Apply_J13 x2 x3 x4 x31 H K = zldZ x2 x3 x4 x31 H K := (jn_eq _ _ _ _ _).trans (by kernel_rfl)
def zlhZ (x2 x3 x4 x12 x24 : AV) (H : AH) (K : AV → AH → Prop) : Prop :=
bB x24 fun t0 => bI t0 (
bO (ashift 5 x3) fun v1 =>
bO (ald false 1 H v1) fun v2 =>
bO (ashift 6 x3) fun v3 =>
bO (ald false 1 H v3) fun v4 =>
bC (BCall Try.prog 56 [x2, v2, v4] H) fun v5 H6 =>
zdsZ x2 x4 H6 K)
 (bO (abI .eql x12 (.lit (.int .i64 7))) fun v7 =>
image_Apply_J13 x2 x3 x4 v7 H K)
theorem image_Apply_J12_eq (x2 x3 x4 x12 x24 : AV) (H : AH) (K : AV → AH → Prop) : image_Apply_J12 x2 x3 x4 x12 x24 H K = zlhZ x2 x3 x4 x12 x24 H K := (jn_eq _ _ _ _ _).trans (by kernel_rfl)
def zlvZ (x2 x3 x4 x12 x17 : AV) (H : AH) (K : AV → AH → Prop) : Prop :=
bB x17 fun t0 => bI t0 (
bO (ald true 8 H x3) fun v1 =>
bC (BCall Try.prog 55 [x2, v1] H) fun v2 H3 =>
zdsZ x2 x4 H3 K)
 (bO (abI .eql x12 (.lit (.int .i64 6))) fun v4 =>
image_Apply_J12 x2 x3 x4 x12 v4 H K)
theorem image_Apply_J8_eq (x2 x3 x4 x12 x17 : AV) (H : AH) (K : AV → AH → Prop) : zesZ x2 x3 x4 x12 x17 H K = zlvZ x2 x3 x4 x12 x17 H K := (jn_eq _ _ _ _ _).trans (by kernel_rfl)
def image_Apply (a0 a1 : AV) (H : AH) (K : AV → AH → Prop) : Prop :=
bH (anew H a0) fun v0 H1 =>
bH (anew H1 a1) fun v2 H3 =>
bH (anew H3 (.agg [(.lit (.slice none 0 0)), (.lit (.slice none 0 0))])) fun v4 H5 =>
bO (ald true 2 H5 v0) fun v6 =>
bC (BCall Try.prog 40 [v6] H5) fun v7 H8 =>
bS (ast 2 H8 v0 v7) fun H9 =>
bO (ald true 2 H9 v0) fun v10 =>
bP (PCall Try.prog 43 [v10] H9) fun v11 =>
bO (aun .not v11) fun v12 =>
bB v12 fun t13 => bI t13 (
bO (ald true 2 H9 v0) fun v14 =>
bS (ast 2 H9 v4 v14) fun H15 =>
bO (ald true 2 H15 v4) fun v16 =>
K v16 H15)
 (bO (ashift 0 v2) fun v17 =>
bO (ald false 1 H9 v17) fun v18 =>
bO (abI .eql v18 (.lit (.int .i64 1))) fun v19 =>
bB v19 fun t20 => bI t20 (
bO (ald true 8 H9 v2) fun v21 =>
bC (BCall Try.prog 54 [v0, v21] H9) fun v22 H23 =>
zdsZ v0 v4 H23 K)
 (bO (abI .eql v18 (.lit (.int .i64 2))) fun v24 =>
bB v24 fun t25 => bI t25 (
zesZ v0 v2 v4 v18 v24 H9 K)
 (bO (abI .eql v18 (.lit (.int .i64 3))) fun v26 =>
bB v26 fun t27 => bI t27 (
zesZ v0 v2 v4 v18 v26 H9 K)
 (bO (abI .eql v18 (.lit (.int .i64 4))) fun v28 =>
bB v28 fun t29 => bI t29 (
zesZ v0 v2 v4 v18 v28 H9 K)
 (bO (abI .eql v18 (.lit (.int .i64 5))) fun v30 =>
zesZ v0 v2 v4 v18 v30 H9 K)))))
theorem image_Apply_eq (a0 a1 : AV) (H : AH) (K : AV → AH → Prop) : sFun Try.prog image_Apply_fl pqb none0 none0 image_Apply_kp Try.f39 [a0, a1] H K = image_Apply a0 a1 H K := by kernel_rfl
theorem image_Apply_ok {a0 a1 : AV} {H : AH} {K : AV → AH → Prop} (h : image_Apply a0 a1 H K) : ∃ r H', K r H' ∧ BCall Try.prog 39 [a0, a1] H r H' :=
 sFun_ok mixP Try.func39 (by kernel_rfl) (Eq.mpr (image_Apply_eq a0 a1 H K) h)
/-! salvor/image.May -/
def image_May_fl : Floats := flOf []
def image_May_kp : Nat → Option (List Bool) := kpOf [(8, mk 51 0 [3, 5, 25, 26, 27])]
def image_May_c (p : List Bool) (n : Nat) : List AV → AH → Kf → Prop := sCode Try.prog image_May_fl pqb none0 none0 image_May_kp (sub p (bodyOf Try.f43)) n
def image_May_L8 (x3 x5 x25 x26 x27 : AV) (H : AH) (K : AV → AH → Prop) : Prop := lp (mk 51 0 [3, 5, 25, 26, 27]) (image_May_c [true, true, true, true, false, true, false, false] 9) [x3, x5, x25, x26, x27] H (kBlk 0 (kSeq (image_May_c [true, true, true, true, true] 16) (kRet Try.prog Try.f43.results.toList K)))
def zkzZ (R8 : List AV → AH → Prop) (x3 x5 x25 x26 x27 : AV) (H : AH) (K : AV → AH → Prop) : Prop :=
bO (abI .lss x27 x26) fun v0 =>
bB v0 fun t1 => bI t1 (
bO (aixS 3 x25 x27) fun v2 =>
bO (ald true 3 H v2) fun v3 =>
bH (anew H (.agg [(.lit (.int .i64 0)), (.lit (.int .i64 0)), (.lit (.slice none 0 0))])) fun v4 H5 =>
bS (ast 3 H5 v4 v3) fun H6 =>
bO (ashift 0 v4) fun v7 =>
bO (ald false 1 H6 v7) fun v8 =>
bO (abI .leq v8 x5) fun v9 =>
bG v9 false fun w10 =>
gO w10 (some x3) fun v11 =>
bG v9 false fun w12 =>
gO w12 (ashift 0 v4) fun v13 =>
bG v9 false fun w14 =>
gO w14 (ald false 1 H6 v13) fun v15 =>
bG v9 false fun w16 =>
gO w16 (alk (.int .i64) (.bool false) H6 v11 v15 false) fun v17 =>
bG v9 false fun w18 =>
gO w18 (aun .not v17) fun v19 =>
bO (apick v9 (.lit (.bool true)) v19) fun v20 =>
bG v20 false fun w21 =>
gO w21 (ashift 1 v4) fun v22 =>
bG v20 false fun w23 =>
gO w23 (ald true 2 H6 v22) fun v24 =>
bG v20 false fun w25 =>
gP w25 (PCall Try.prog 61 [v24] H6) fun v26 =>
bG v20 false fun w27 =>
gO w27 (aun .not v26) fun v28 =>
bO (apick v20 (.lit (.bool true)) v28) fun v29 =>
bB v29 fun t30 => bI t30 (
K (.lit (.bool false)) H6)
 (bO (ashift 0 v4) fun v31 =>
bO (ald false 1 H6 v31) fun v32 =>
bO (abI .add x27 (.lit (.int .i64 1))) fun v33 =>
R8 [x3, v32, x25, x26, v33] H6))
 (K (.lit (.bool true)) H)
theorem image_May_L8_eq (R8 : List AV → AH → Prop) (x3 x5 x25 x26 x27 : AV) (H : AH) (K : AV → AH → Prop) : image_May_c [true, true, true, true, false, true, false, false] 9 (expand (mk 51 0 [3, 5, 25, 26, 27]) [x3, x5, x25, x26, x27]) H (kLp (mk 51 0 [3, 5, 25, 26, 27]) R8 (kBlk 0 (kSeq (image_May_c [true, true, true, true, true] 16) (kRet Try.prog Try.f43.results.toList K)))) = zkzZ R8 x3 x5 x25 x26 x27 H K := by kernel_rfl
theorem image_May_L8_rule {K : AV → AH → Prop} (I : Nat → AV → AV → AV → AV → AV → AH → Prop) (round : ∀ (n : Nat) (x3 x5 x25 x26 x27 : AV) (H : AH) (R : List AV → AH → Prop), (∀ (m : Nat) (y3 y5 y25 y26 y27 : AV) (H' : AH), m < n → I m y3 y5 y25 y26 y27 H' → R [y3, y5, y25, y26, y27] H') → I n x3 x5 x25 x26 x27 H → zkzZ R x3 x5 x25 x26 x27 H K) (n : Nat) {x3 x5 x25 x26 x27 : AV} {H : AH} (h : I n x3 x5 x25 x26 x27 H) : image_May_L8 x3 x5 x25 x26 x27 H K := by
 refine lp_upto (zbnZ _ _) (LI5 I) ?_ n h
 intro n X H h
 obtain ⟨x3, x5, x25, x26, x27, rfl, h⟩ := h.elim
 exact Eq.mpr (image_May_L8_eq _ x3 x5 x25 x26 x27 H K) (round n x3 x5 x25 x26 x27 H (fun X H' => ∃ m, m < n ∧ LI5 I m X H') (fun m y3 y5 y25 y26 y27 H' hm hi => ⟨m, hm, hi⟩) h)
def image_May (a0 : AV) (H : AH) (K : AV → AH → Prop) : Prop :=
bH (anew H a0) fun v0 H1 =>
bO (ashift 0 v0) fun v2 =>
bO (ald false 1 H1 v2) fun v3 =>
bC (BCall Try.prog 64 [v3] H1) fun v4 H5 =>
bO (zkZ v4 0) fun v6 =>
bO (zkZ v4 1) fun v7 =>
bO (aun .not v7) fun v8 =>
bG v8 false fun w9 =>
gO w9 (ashift 1 v0) fun v10 =>
bG v8 false fun w11 =>
gO w11 (ald false 1 H5 v10) fun v12 =>
bG v8 false fun w13 =>
gO w13 (alnS v12) fun v14 =>
bG v8 false fun w15 =>
gO w15 (some v6) fun v16 =>
bG v8 false fun w17 =>
gO w17 (alnM H5 v16) fun v18 =>
bG v8 false fun w19 =>
gO w19 (abI .neq v14 v18) fun v20 =>
bO (apick v8 (.lit (.bool true)) v20) fun v21 =>
bB v21 fun t22 => bI t22 (
K (.lit (.bool false)) H5)
 (bO (ashift 1 v0) fun v23 =>
bO (ald false 1 H5 v23) fun v24 =>
bO (alnS v24) fun v25 =>
image_May_L8 v6 (.lit (.int .i64 0)) v24 v25 (.lit (.int .i64 0)) H5 K)
theorem image_May_eq (a0 : AV) (H : AH) (K : AV → AH → Prop) : sFun Try.prog image_May_fl pqb none0 none0 image_May_kp Try.f43 [a0] H K = image_May a0 H K := by kernel_rfl
theorem image_May_ok {a0 : AV} {H : AH} {K : AV → AH → Prop} (h : image_May a0 H K) : ∃ r H', K r H' ∧ BCall Try.prog 43 [a0] H r H' :=
 sFun_ok mixP Try.func43 (by kernel_rfl) (Eq.mpr (image_May_eq a0 H K) h)
/-! salvor/image.Copy -/
def image_Copy_fl : Floats := flOf [(1, [(4, none)])]
def image_Copy_kp : Nat → Option (List Bool) := kpOf [(4, mk 31 0 [1, 2, 13, 14])]
def zlmZ (p : List Bool) (n : Nat) : List AV → AH → Kf → Prop := sCode Try.prog image_Copy_fl pqb none0 none0 image_Copy_kp (sub p (bodyOf Try.f40)) n
def image_Copy_L4 (x1 x2 x13 x14 : AV) (H : AH) (K : AV → AH → Prop) : Prop := lp (mk 31 0 [1, 2, 13, 14]) (zlmZ [true, true, false, true, false, false] 5) [x1, x2, x13, x14] H (kBlk 0 (kSeq (zlmZ [true, true, true] 9) (kRet Try.prog Try.f40.results.toList K)))
def zjlZ (R4 : List AV → AH → Prop) (x1 x2 x13 x14 : AV) (H : AH) (K : AV → AH → Prop) : Prop :=
bO (abI .lss x14 x13) fun v0 =>
bB v0 fun t1 => bI t1 (
bO (ashift 1 x1) fun v2 =>
bO (ald false 1 H v2) fun v3 =>
bO (ashift 1 x1) fun v4 =>
bO (ald false 1 H v4) fun v5 =>
bO (aixS 3 v5 x14) fun v6 =>
bO (ashift 1 v6) fun v7 =>
bO (ald true 2 H v7) fun v8 =>
bP (BPure Try.prog 60 [v8]) fun v9 =>
bO (aixS 3 v3 x14) fun v10 =>
bO (ashift 1 v10) fun v11 =>
bS (ast 2 H v11 v9) fun H12 =>
bO (abI .add x14 (.lit (.int .i64 1))) fun v13 =>
R4 [x1, x2, x13, v13] H12)
 (bO (ald true 2 H x1) fun v14 =>
bS (ast 2 H x2 v14) fun H15 =>
bO (ald true 2 H15 x2) fun v16 =>
K v16 H15)
theorem image_Copy_L4_eq (R4 : List AV → AH → Prop) (x1 x2 x13 x14 : AV) (H : AH) (K : AV → AH → Prop) : zlmZ [true, true, false, true, false, false] 5 (expand (mk 31 0 [1, 2, 13, 14]) [x1, x2, x13, x14]) H (kLp (mk 31 0 [1, 2, 13, 14]) R4 (kBlk 0 (kSeq (zlmZ [true, true, true] 9) (kRet Try.prog Try.f40.results.toList K)))) = zjlZ R4 x1 x2 x13 x14 H K := by kernel_rfl
theorem image_Copy_L4_rule {K : AV → AH → Prop} (I : Nat → AV → AV → AV → AV → AH → Prop) (round : ∀ (n : Nat) (x1 x2 x13 x14 : AV) (H : AH) (R : List AV → AH → Prop), (∀ (m : Nat) (y1 y2 y13 y14 : AV) (H' : AH), m < n → I m y1 y2 y13 y14 H' → R [y1, y2, y13, y14] H') → I n x1 x2 x13 x14 H → zjlZ R x1 x2 x13 x14 H K) (n : Nat) {x1 x2 x13 x14 : AV} {H : AH} (h : I n x1 x2 x13 x14 H) : image_Copy_L4 x1 x2 x13 x14 H K := by
 refine lp_upto (zbnZ _ _) (LI4 I) ?_ n h
 intro n X H h
 obtain ⟨x1, x2, x13, x14, rfl, h⟩ := h.elim
 exact Eq.mpr (image_Copy_L4_eq _ x1 x2 x13 x14 H K) (round n x1 x2 x13 x14 H (fun X H' => ∃ m, m < n ∧ LI4 I m X H') (fun m y1 y2 y13 y14 H' hm hi => ⟨m, hm, hi⟩) h)
def image_Copy (a0 : AV) (H : AH) (K : AV → AH → Prop) : Prop :=
bH (anew H a0) fun v0 H1 =>
bH (anew H1 (.agg [(.lit (.slice none 0 0)), (.lit (.slice none 0 0))])) fun v2 H3 =>
bO (ashift 0 v0) fun v4 =>
bO (ald false 1 H3 v4) fun v5 =>
bC (BCall Try.prog 58 [v5] H3) fun v6 H7 =>
bO (ashift 1 v0) fun v8 =>
bO (ald false 1 H7 v8) fun v9 =>
bC (BCall Try.prog 59 [v9] H7) fun v10 H11 =>
bO (abl [(.lit (.slice none 0 0)), (.lit (.slice none 0 0))] [(0, 1, v6), (1, 1, v10)]) fun v12 =>
bS (ast 2 H11 v0 v12) fun H13 =>
(ald false 1 H3 v8 = some v9) ∧
bO (ashift 1 v0) fun v14 =>
bO (ald false 1 H13 v14) fun v15 =>
bO (alnS v15) fun v16 =>
image_Copy_L4 v0 v2 v16 (.lit (.int .i64 0)) H13 K
theorem image_Copy_eq (a0 : AV) (H : AH) (K : AV → AH → Prop) : sFun Try.prog image_Copy_fl pqb none0 none0 image_Copy_kp Try.f40 [a0] H K = image_Copy a0 H K := by kernel_rfl
theorem image_Copy_ok {a0 : AV} {H : AH} {K : AV → AH → Prop} (h : image_Copy a0 H K) : ∃ r H', K r H' ∧ BCall Try.prog 40 [a0] H r H' :=
 sFun_ok mixP Try.func40 (by kernel_rfl) (Eq.mpr (image_Copy_eq a0 H K) h)
/-! salvor/image.named -/
def image_named_fl : Floats := flOf []
def image_named_kp : Nat → Option (List Bool) := kpOf []
def image_named (a0 a1 : AV) (H : AH) (K : AV → AH → Prop) : Prop :=
bH (anew H a0) fun v0 H1 =>
bO (ashift 0 v0) fun v2 =>
bO (ald false 1 H1 v2) fun v3 =>
bP (PCall Try.prog 65 [v3, a1, (.fn (.func 66) [] [])] H1) fun v4 =>
bO (zkZ v4 0) fun v5 =>
bO (zkZ v4 1) fun v6 =>
K (.tup [v5, v6]) H1
theorem image_named_eq (a0 a1 : AV) (H : AH) (K : AV → AH → Prop) : sFun Try.prog image_named_fl pqb none0 none0 image_named_kp Try.f44 [a0, a1] H K = image_named a0 a1 H K := by kernel_rfl
theorem image_named_ok {a0 a1 : AV} {H : AH} {K : AV → AH → Prop} (h : image_named a0 a1 H K) : ∃ r H', K r H' ∧ BCall Try.prog 44 [a0, a1] H r H' :=
 sFun_ok mixP Try.func44 (by kernel_rfl) (Eq.mpr (image_named_eq a0 a1 H K) h)
/-! salvor/image.node -/
def image_node_fl : Floats := flOf []
def image_node_kp : Nat → Option (List Bool) := kpOf []
def image_node (a0 a1 : AV) (H : AH) (K : AV → AH → Prop) : Prop :=
bH (anew H a0) fun v0 H1 =>
bO (ashift 1 v0) fun v2 =>
bO (ald false 1 H1 v2) fun v3 =>
bP (PCall Try.prog 87 [v3, a1, (.fn (.func 88) [] [])] H1) fun v4 =>
bO (zkZ v4 0) fun v5 =>
bO (zkZ v4 1) fun v6 =>
K (.tup [v5, v6]) H1
theorem image_node_eq (a0 a1 : AV) (H : AH) (K : AV → AH → Prop) : sFun Try.prog image_node_fl pqb none0 none0 image_node_kp Try.f74 [a0, a1] H K = image_node a0 a1 H K := by kernel_rfl
theorem image_node_ok {a0 a1 : AV} {H : AH} {K : AV → AH → Prop} (h : image_node a0 a1 H K) : ∃ r H', K r H' ∧ BCall Try.prog 74 [a0, a1] H r H' :=
 sFun_ok mixP Try.func74 (by kernel_rfl) (Eq.mpr (image_node_eq a0 a1 H K) h)
/-! salvor/image.may -/
def image_may_fl : Floats := flOf []
def image_may_kp : Nat → Option (List Bool) := kpOf []
def image_may (a0 : AV) (H : AH) (K : AV → AH → Prop) : Prop :=
bO (abI .geq a0 (.lit (.int .u8 97))) fun v0 =>
bG v0 true fun w1 =>
gO w1 (some a0) fun v2 =>
bG v0 true fun w3 =>
gO w3 (abI .leq v2 (.lit (.int .u8 122))) fun v4 =>
bO (apick v0 v4 (.lit (.bool false))) fun v5 =>
bG v5 false fun w6 =>
gO w6 (some a0) fun v7 =>
bG v5 false fun w8 =>
gO w8 (abI .geq v7 (.lit (.int .u8 48))) fun v9 =>
bG v5 false fun w10 =>
gO w10 (some v9) fun v11 =>
bG v11 true fun w12 =>
gO w12 (some a0) fun v13 =>
bG v11 true fun w14 =>
gO w14 (abI .leq v13 (.lit (.int .u8 57))) fun v15 =>
bG v5 false fun w16 =>
gO w16 (apick v11 v15 (.lit (.bool false))) fun v17 =>
bO (apick v5 (.lit (.bool true)) v17) fun v18 =>
bG v18 false fun w19 =>
gO w19 (some a0) fun v20 =>
bG v18 false fun w21 =>
gO w21 (abI .eql v20 (.lit (.int .u8 46))) fun v22 =>
bO (apick v18 (.lit (.bool true)) v22) fun v23 =>
bG v23 false fun w24 =>
gO w24 (some a0) fun v25 =>
bG v23 false fun w26 =>
gO w26 (abI .eql v25 (.lit (.int .u8 95))) fun v27 =>
bO (apick v23 (.lit (.bool true)) v27) fun v28 =>
bG v28 false fun w29 =>
gO w29 (some a0) fun v30 =>
bG v28 false fun w31 =>
gO w31 (abI .eql v30 (.lit (.int .u8 45))) fun v32 =>
bO (apick v28 (.lit (.bool true)) v32) fun v33 =>
K v33 H
theorem image_may_eq (a0 : AV) (H : AH) (K : AV → AH → Prop) : sFun Try.prog image_may_fl pqb none0 none0 image_may_kp Try.f73 [a0] H K = image_may a0 H K := by kernel_rfl
theorem image_may_ok {a0 : AV} {H : AH} {K : AV → AH → Prop} (h : image_may a0 H K) : ∃ r H', K r H' ∧ BCall Try.prog 73 [a0] H r H' :=
 sFun_ok mixP Try.func73 (by kernel_rfl) (Eq.mpr (image_may_eq a0 H K) h)
/-! salvor/image.create -/
def image_create_fl : Floats := flOf []
def image_create_kp : Nat → Option (List Bool) := kpOf [(100004, mk 82 0 [0, 3, 4, 6]), (100005, mk 82 0 [0, 3, 6]), (5, mk 82 0 [0, 3, 6])]
def image_create_un : Nat → Bool := inL [4, 5]
def zhvZ (p : List Bool) (n : Nat) : List AV → AH → Kf → Prop := sCode Try.prog image_create_fl pqb pqba image_create_un image_create_kp (sub p (bodyOf Try.f54)) n
def zjsZ (x0 x3 x6 : AV) (H : AH) (K : AV → AH → Prop) : Prop := unR Try.prog 5 (opsOf (sub [true, true, true, true, true] (bodyOf Try.f54))) (expand (mk 82 0 [0, 3, 6]) [x0, x3, x6]) H (kRet Try.prog Try.f54.results.toList K)
def zjkZ (x0 x3 x6 : AV) (H : AH) (K : AV → AH → Prop) : Prop := jn (mk 82 0 [0, 3, 6]) (zhvZ [true, true, true, true, true] 6) [x0, x3, x6] H (kRet Try.prog Try.f54.results.toList K)
def zhgZ (x0 x3 x4 x6 : AV) (H : AH) (K : AV → AH → Prop) : Prop := unR Try.prog 4 (opsOf (sub [true, true, true, true, false] (bodyOf Try.f54))) (expand (mk 82 0 [0, 3, 4, 6]) [x0, x3, x4, x6]) H (kSeq (cutC (mk 82 0 [0, 3, 6]) (zhvZ [true, true, true, true, true] 6)) (kRet Try.prog Try.f54.results.toList K))
def zleZ (x0 x3 x6 : AV) (H : AH) (K : AV → AH → Prop) : Prop :=
zjsZ x0 x3 x6 H K
theorem image_create_J5_eq (x0 x3 x6 : AV) (H : AH) (K : AV → AH → Prop) : zjkZ x0 x3 x6 H K = zleZ x0 x3 x6 H K := (jn_eq _ _ _ _ _).trans (by kernel_rfl)
def zllZ (a0 a1 : AV) (H : AH) (K : AV → AH → Prop) : Prop :=
bH (anew H a1) fun v0 H1 =>
bO (zdZ a0) fun v2 =>
bO (ald true 2 H1 v2) fun v3 =>
bO (ashift 5 v0) fun v4 =>
bO (ald false 1 H1 v4) fun v5 =>
bC (BCall Try.prog 44 [v3, v5] H1) fun v6 H7 =>
bO (zkZ v6 0) fun v8 =>
bO (zkZ v6 1) fun v9 =>
bO (zdZ a0) fun v10 =>
bO (ald true 2 H7 v10) fun v11 =>
bO (ashift 1 v0) fun v12 =>
bO (ald false 1 H7 v12) fun v13 =>
bC (BCall Try.prog 74 [v11, v13] H7) fun v14 H15 =>
bO (zkZ v14 0) fun v16 =>
bO (zkZ v14 1) fun v17 =>
bG v9 false fun w18 =>
gO w18 (some v17) fun v19 =>
bO (apick v9 (.lit (.bool true)) v19) fun v20 =>
bG v20 false fun w21 =>
gO w21 (ashift 5 v0) fun v22 =>
bG v20 false fun w23 =>
gO w23 (ald false 1 H15 v22) fun v24 =>
bG v20 false fun w25 =>
gP w25 (PCall Try.prog 48 [v24] H15) fun v26 =>
bG v20 false fun w27 =>
gO w27 (aun .not v26) fun v28 =>
bO (apick v20 (.lit (.bool true)) v28) fun v29 =>
bG v29 false fun w30 =>
gO w30 (ashift 1 v0) fun v31 =>
bG v29 false fun w32 =>
gO w32 (ald false 1 H15 v31) fun v33 =>
bG v29 false fun w34 =>
gO w34 (abI .lss v33 (.lit (.int .i64 1))) fun v35 =>
bO (apick v29 (.lit (.bool true)) v35) fun v36 =>
bG v36 false fun w37 =>
gO w37 (ashift 1 v0) fun v38 =>
bG v36 false fun w39 =>
gO w39 (ald false 1 H15 v38) fun v40 =>
bG v36 false fun w41 =>
gO w41 (abI .gtr v40 (.lit (.int .i64 4611686018427387904))) fun v42 =>
bO (apick v36 (.lit (.bool true)) v42) fun v43 =>
bG v43 false fun w44 =>
gO w44 (some a0) fun v45 =>
bG v43 false fun w46 =>
gO w46 (zdZ v45) fun v47 =>
bG v43 false fun w48 =>
gO w48 (ashift 0 v47) fun v49 =>
bG v43 false fun w50 =>
gO w50 (ald false 1 H15 v49) fun v51 =>
bG v43 false fun w52 =>
gO w52 (alnS v51) fun v53 =>
bG v43 false fun w54 =>
gO w54 (abI .geq v53 (.lit (.int .i64 16))) fun v55 =>
bO (apick v43 (.lit (.bool true)) v55) fun v56 =>
bB v56 fun t57 => bI t57 (
K (.tup []) H15)
 (zhgZ a0 v0 v8 v16 H15 K)
theorem image_create_eq (a0 a1 : AV) (H : AH) (K : AV → AH → Prop) : sFun Try.prog image_create_fl pqb pqba image_create_un image_create_kp Try.f54 [a0, a1] H K = zllZ a0 a1 H K := by kernel_rfl
theorem image_create_ok {a0 a1 : AV} {H : AH} {K : AV → AH → Prop} (h : zllZ a0 a1 H K) : ACalls Try.prog 54 [a0, a1] H K :=
 sFun_wp mixP Try.func54 (by kernel_rfl) (Eq.mpr (image_create_eq a0 a1 H K) h)
/-! salvor/image.change -/
def image_change_fl : Floats := flOf []
def image_change_kp : Nat → Option (List Bool) := kpOf [(11, mk 81 0 [0, 4, 6, 72]), (5, mk 81 0 [0, 4, 5, 6])]
def image_change_c (p : List Bool) (n : Nat) : List AV → AH → Kf → Prop := sCode Try.prog image_change_fl pqb none0 none0 image_change_kp (sub p (bodyOf Try.f55)) n
def zluZ (x0 x4 x6 x72 : AV) (H : AH) (K : AV → AH → Prop) : Prop := jn (mk 81 0 [0, 4, 6, 72]) (image_change_c [true, true, true, true, true, true] 12) [x0, x4, x6, x72] H (kRet Try.prog Try.f55.results.toList K)
def zcxZ (x0 x4 x5 x6 : AV) (H : AH) (K : AV → AH → Prop) : Prop := jn (mk 81 0 [0, 4, 5, 6]) (image_change_c [true, true, true, true, true] 11) [x0, x4, x5, x6] H (kRet Try.prog Try.f55.results.toList K)
def zgyZ (x0 x4 x6 x72 : AV) (H : AH) (K : AV → AH → Prop) : Prop :=
bB x72 fun t0 => bI t0 (
bO (zdZ x0) fun v1 =>
bO (ashift 1 v1) fun v2 =>
bO (ald false 1 H v2) fun v3 =>
bO (ald true 2 H x6) fun v4 =>
bO (aixS 3 v3 x4) fun v5 =>
bO (ashift 1 v5) fun v6 =>
bS (ast 2 H v6 v4) fun H7 =>
K (.tup []) H7)
 (K (.tup []) H)
theorem ziyZ (x0 x4 x6 x72 : AV) (H : AH) (K : AV → AH → Prop) : zluZ x0 x4 x6 x72 H K = zgyZ x0 x4 x6 x72 H K := (jn_eq _ _ _ _ _).trans (by kernel_rfl)
def zhsZ (x0 x4 x5 x6 : AV) (H : AH) (K : AV → AH → Prop) : Prop :=
zluZ x0 x4 x6 x5 H K
theorem zkcZ (x0 x4 x5 x6 : AV) (H : AH) (K : AV → AH → Prop) : zcxZ x0 x4 x5 x6 H K = zhsZ x0 x4 x5 x6 H K := (jn_eq _ _ _ _ _).trans (by kernel_rfl)
def image_change (a0 a1 : AV) (H : AH) (K : AV → AH → Prop) : Prop :=
bH (anew H a1) fun v0 H1 =>
bO (zdZ a0) fun v2 =>
bO (ald true 2 H1 v2) fun v3 =>
bO (ashift 1 v0) fun v4 =>
bO (ald false 1 H1 v4) fun v5 =>
bC (BCall Try.prog 74 [v3, v5] H1) fun v6 H7 =>
bO (zkZ v6 0) fun v8 =>
bO (zkZ v6 1) fun v9 =>
bO (aun .not v9) fun v10 =>
bB v10 fun t11 => bI t11 (
K (.tup []) H7)
 (bO (zdZ a0) fun v12 =>
bO (ashift 1 v12) fun v13 =>
bO (ald false 1 H7 v13) fun v14 =>
bO (aixS 3 v14 v8) fun v15 =>
bO (ashift 1 v15) fun v16 =>
bO (ald true 2 H7 v16) fun v17 =>
bH (anew H7 (.agg [(.lit (.int .i64 0)), (.lit (.slice none 0 0))])) fun v18 H19 =>
bS (ast 2 H19 v18 v17) fun H20 =>
bO (ashift 0 v0) fun v21 =>
bO (ald false 1 H20 v21) fun v22 =>
bO (abI .eql v22 (.lit (.int .i64 2))) fun v23 =>
bB v23 fun t24 => bI t24 (
bO (ald true 2 H20 v18) fun v25 =>
bO (ashift 2 v0) fun v26 =>
bO (ald false 1 H20 v26) fun v27 =>
bO (ashift 7 v0) fun v28 =>
bO (ald false 1 H20 v28) fun v29 =>
bP (PCall Try.prog 79 [v25, v27, v29] H20) fun v30 =>
bO (zkZ v30 0) fun v31 =>
bO (zkZ v30 1) fun v32 =>
bS (ast 2 H20 v18 v31) fun H33 =>
zcxZ a0 v8 v32 v18 H33 K)
 (bO (abI .eql v22 (.lit (.int .i64 3))) fun v34 =>
bB v34 fun t35 => bI t35 (
bO (ald true 2 H20 v18) fun v36 =>
bO (ashift 3 v0) fun v37 =>
bO (ald false 1 H20 v37) fun v38 =>
bP (PCall Try.prog 47 [v36, v38] H20) fun v39 =>
bO (zkZ v39 0) fun v40 =>
bO (zkZ v39 1) fun v41 =>
bS (ast 2 H20 v18 v40) fun H42 =>
zcxZ a0 v8 v41 v18 H42 K)
 (bO (abI .eql v22 (.lit (.int .i64 4))) fun v43 =>
bB v43 fun t44 => bI t44 (
bO (ald true 2 H20 v18) fun v45 =>
bO (ashift 2 v0) fun v46 =>
bO (ald false 1 H20 v46) fun v47 =>
bO (ashift 3 v0) fun v48 =>
bO (ald false 1 H20 v48) fun v49 =>
bO (ashift 4 v0) fun v50 =>
bO (ald false 1 H20 v50) fun v51 =>
bP (PCall Try.prog 80 [v45, v47, v49, v51] H20) fun v52 =>
bO (zkZ v52 0) fun v53 =>
bO (zkZ v52 1) fun v54 =>
bS (ast 2 H20 v18 v53) fun H55 =>
zcxZ a0 v8 v54 v18 H55 K)
 (bO (abI .eql v22 (.lit (.int .i64 5))) fun v56 =>
bB v56 fun t57 => bI t57 (
bO (ald true 2 H20 v18) fun v58 =>
bO (ashift 2 v0) fun v59 =>
bO (ald false 1 H20 v59) fun v60 =>
bO (ashift 3 v0) fun v61 =>
bO (ald false 1 H20 v61) fun v62 =>
bP (PCall Try.prog 81 [v58, v60, v62] H20) fun v63 =>
bO (zkZ v63 0) fun v64 =>
bO (zkZ v63 1) fun v65 =>
bS (ast 2 H20 v18 v64) fun H66 =>
zcxZ a0 v8 v65 v18 H66 K)
 (zcxZ a0 v8 v9 v18 H20 K)))))
theorem image_change_eq (a0 a1 : AV) (H : AH) (K : AV → AH → Prop) : sFun Try.prog image_change_fl pqb none0 none0 image_change_kp Try.f55 [a0, a1] H K = image_change a0 a1 H K := by kernel_rfl
theorem image_change_ok {a0 a1 : AV} {H : AH} {K : AV → AH → Prop} (h : image_change a0 a1 H K) : ∃ r H', K r H' ∧ BCall Try.prog 55 [a0, a1] H r H' :=
 sFun_ok mixP Try.func55 (by kernel_rfl) (Eq.mpr (image_change_eq a0 a1 H K) h)
/-! salvor/image.rename -/
def image_rename_fl : Floats := flOf []
def image_rename_kp : Nat → Option (List Bool) := kpOf []
def image_rename (a0 a1 a2 : AV) (H : AH) (K : AV → AH → Prop) : Prop :=
bO (zdZ a0) fun v0 =>
bO (ald true 2 H v0) fun v1 =>
bC (BCall Try.prog 44 [v1, a1] H) fun v2 H3 =>
bO (zkZ v2 0) fun v4 =>
bO (zkZ v2 1) fun v5 =>
bO (aun .not v5) fun v6 =>
bG v6 false fun w7 =>
gO w7 (some a2) fun v8 =>
bG v6 false fun w9 =>
gP w9 (PCall Try.prog 48 [v8] H3) fun v10 =>
bG v6 false fun w11 =>
gO w11 (aun .not v10) fun v12 =>
bO (apick v6 (.lit (.bool true)) v12) fun v13 =>
bG v13 false fun w14 =>
gO w14 (some a1) fun v15 =>
bG v13 false fun w16 =>
gO w16 (some a2) fun v17 =>
bG v13 false fun w18 =>
gO w18 (abT .eql v15 v17) fun v19 =>
bO (apick v13 (.lit (.bool true)) v19) fun v20 =>
bB v20 fun t21 => bI t21 (
K (.tup []) H3)
 (bO (zdZ a0) fun v22 =>
bO (ashift 0 v22) fun v23 =>
bO (ald false 1 H3 v23) fun v24 =>
bO (aixS 2 v24 v4) fun v25 =>
bO (ashift 1 v25) fun v26 =>
bO (ald false 1 H3 v26) fun v27 =>
bO (zdZ a0) fun v28 =>
bO (ashift 0 v28) fun v29 =>
bO (ald false 1 H3 v29) fun v30 =>
bO (abI .add v4 (.lit (.int .i64 1))) fun v31 =>
bC (BCall Try.prog 82 [v30, v4, v31] H3) fun v32 H33 =>
bO (zdZ a0) fun v34 =>
bO (ashift 0 v34) fun v35 =>
bS (ast 1 H33 v35 v32) fun H36 =>
bC (BCall Try.prog 57 [a0, a2] H36) fun v37 H38 =>
bO (zdZ a0) fun v39 =>
bO (ald true 2 H38 v39) fun v40 =>
bC (BCall Try.prog 44 [v40, a2] H38) fun v41 H42 =>
bO (zkZ v41 0) fun v43 =>
bO (zkZ v41 1) fun v44 =>
bO (zdZ a0) fun v45 =>
bO (ashift 0 v45) fun v46 =>
bO (ald false 1 H42 v46) fun v47 =>
bO (abl [(.lit (.string ⟨#[]⟩)), (.lit (.int .i64 0))] [(0, 1, a2), (1, 1, v27)]) fun v48 =>
bH (absl H42 2 1 (zrow [(.lit (.string ⟨#[]⟩)), (.lit (.int .i64 0))] 1) [(0, 2, v48)]) fun v49 H50 =>
bC (BCall Try.prog 77 [v47, v43, v49] H50) fun v51 H52 =>
bO (zdZ a0) fun v53 =>
bO (ashift 0 v53) fun v54 =>
bS (ast 1 H52 v54 v51) fun H55 =>
K (.tup []) H55)
theorem image_rename_eq (a0 a1 a2 : AV) (H : AH) (K : AV → AH → Prop) : sFun Try.prog image_rename_fl pqb none0 none0 image_rename_kp Try.f56 [a0, a1, a2] H K = image_rename a0 a1 a2 H K := by kernel_rfl
theorem image_rename_ok {a0 a1 a2 : AV} {H : AH} {K : AV → AH → Prop} (h : image_rename a0 a1 a2 H K) : ∃ r H', K r H' ∧ BCall Try.prog 56 [a0, a1, a2] H r H' :=
 sFun_ok mixP Try.func56 (by kernel_rfl) (Eq.mpr (image_rename_eq a0 a1 a2 H K) h)
/-! salvor/image.remove -/
def image_remove_fl : Floats := flOf []
def image_remove_kp : Nat → Option (List Bool) := kpOf []
def image_remove (a0 a1 : AV) (H : AH) (K : AV → AH → Prop) : Prop :=
bO (zdZ a0) fun v0 =>
bO (ald true 2 H v0) fun v1 =>
bC (BCall Try.prog 44 [v1, a1] H) fun v2 H3 =>
bO (zkZ v2 0) fun v4 =>
bO (zkZ v2 1) fun v5 =>
bO (aun .not v5) fun v6 =>
bB v6 fun t7 => bI t7 (
K (.tup []) H3)
 (bO (zdZ a0) fun v8 =>
bO (ald true 2 H3 v8) fun v9 =>
bO (zdZ a0) fun v10 =>
bO (ashift 0 v10) fun v11 =>
bO (ald false 1 H3 v11) fun v12 =>
bO (aixS 2 v12 v4) fun v13 =>
bO (ashift 1 v13) fun v14 =>
bO (ald false 1 H3 v14) fun v15 =>
bC (BCall Try.prog 74 [v9, v15] H3) fun v16 H17 =>
bO (zkZ v16 0) fun v18 =>
bO (zkZ v16 1) fun v19 =>
bO (zdZ a0) fun v20 =>
bO (ashift 0 v20) fun v21 =>
bO (ald false 1 H17 v21) fun v22 =>
bO (abI .add v4 (.lit (.int .i64 1))) fun v23 =>
bC (BCall Try.prog 82 [v22, v4, v23] H17) fun v24 H25 =>
bO (zdZ a0) fun v26 =>
bO (ashift 0 v26) fun v27 =>
bS (ast 1 H25 v27 v24) fun H28 =>
bO (zdZ a0) fun v29 =>
bO (ashift 1 v29) fun v30 =>
bO (ald false 1 H28 v30) fun v31 =>
bO (abI .add v18 (.lit (.int .i64 1))) fun v32 =>
bC (BCall Try.prog 83 [v31, v18, v32] H28) fun v33 H34 =>
bO (zdZ a0) fun v35 =>
bO (ashift 1 v35) fun v36 =>
bS (ast 1 H34 v36 v33) fun H37 =>
K (.tup []) H37)
theorem image_remove_eq (a0 a1 : AV) (H : AH) (K : AV → AH → Prop) : sFun Try.prog image_remove_fl pqb none0 none0 image_remove_kp Try.f57 [a0, a1] H K = image_remove a0 a1 H K := by kernel_rfl
theorem image_remove_ok {a0 a1 : AV} {H : AH} {K : AV → AH → Prop} (h : image_remove a0 a1 H K) : ∃ r H', K r H' ∧ BCall Try.prog 57 [a0, a1] H r H' :=
 sFun_ok mixP Try.func57 (by kernel_rfl) (Eq.mpr (image_remove_eq a0 a1 H K) h)
/-! salvor/image.names -/
def image_names_fl : Floats := flOf []
def image_names_kp : Nat → Option (List Bool) := kpOf [(7, mk 58 0 [0, 4, 11, 12, 13])]
def zjxZ (p : List Bool) (n : Nat) : List AV → AH → Kf → Prop := sCode Try.prog image_names_fl pqb none0 none0 image_names_kp (sub p (bodyOf Try.f64)) n
def image_names_L7 (x0 x4 x11 x12 x13 : AV) (H : AH) (K : AV → AH → Prop) : Prop := lp (mk 58 0 [0, 4, 11, 12, 13]) (zjxZ [true, true, true, false, true, false, false] 8) [x0, x4, x11, x12, x13] H (kBlk 0 (kSeq (zjxZ [true, true, true, true] 15) (kRet Try.prog Try.f64.results.toList K)))
def zimZ (R7 : List AV → AH → Prop) (x0 x4 x11 x12 x13 : AV) (H : AH) (K : AV → AH → Prop) : Prop :=
bO (abI .lss x13 x12) fun v0 =>
bB v0 fun t1 => bI t1 (
bO (aixS 2 x11 x13) fun v2 =>
bO (ald true 2 H v2) fun v3 =>
bH (anew H (.agg [(.lit (.string ⟨#[]⟩)), (.lit (.int .i64 0))])) fun v4 H5 =>
bS (ast 2 H5 v4 v3) fun H6 =>
bO (ashift 0 v4) fun v7 =>
bO (ald false 1 H6 v7) fun v8 =>
bP (BPure Try.prog 48 [v8]) fun v9 =>
bO (aun .not v9) fun v10 =>
bG v10 false fun w11 =>
gO w11 (some x13) fun v12 =>
bG v10 false fun w13 =>
gO w13 (abI .gtr v12 (.lit (.int .i64 0))) fun v14 =>
bG v10 false fun w15 =>
gO w15 (some v14) fun v16 =>
bG v16 true fun w17 =>
gO w17 (some x0) fun v18 =>
bG v16 true fun w19 =>
gO w19 (some x13) fun v20 =>
bG v16 true fun w21 =>
gO w21 (abI .sub v20 (.lit (.int .i64 1))) fun v22 =>
bG v16 true fun w23 =>
gO w23 (aixS 2 v18 v22) fun v24 =>
bG v16 true fun w25 =>
gO w25 (ashift 0 v24) fun v26 =>
bG v16 true fun w27 =>
gO w27 (ald false 1 H6 v26) fun v28 =>
bG v16 true fun w29 =>
gO w29 (ashift 0 v4) fun v30 =>
bG v16 true fun w31 =>
gO w31 (ald false 1 H6 v30) fun v32 =>
bG v16 true fun w33 =>
gO w33 (abT .geq v28 v32) fun v34 =>
bG v10 false fun w35 =>
gO w35 (apick v16 v34 (.lit (.bool false))) fun v36 =>
bO (apick v10 (.lit (.bool true)) v36) fun v37 =>
bG v37 false fun w38 =>
gO w38 (ashift 1 v4) fun v39 =>
bG v37 false fun w40 =>
gO w40 (ald false 1 H6 v39) fun v41 =>
bG v37 false fun w42 =>
gO w42 (abI .lss v41 (.lit (.int .i64 1))) fun v43 =>
bO (apick v37 (.lit (.bool true)) v43) fun v44 =>
bG v44 false fun w45 =>
gO w45 (ashift 1 v4) fun v46 =>
bG v44 false fun w47 =>
gO w47 (ald false 1 H6 v46) fun v48 =>
bG v44 false fun w49 =>
gO w49 (abI .gtr v48 (.lit (.int .i64 4611686018427387904))) fun v50 =>
bO (apick v44 (.lit (.bool true)) v50) fun v51 =>
bG v51 false fun w52 =>
gO w52 (some x4) fun v53 =>
bG v51 false fun w54 =>
gO w54 (ashift 1 v4) fun v55 =>
bG v51 false fun w56 =>
gO w56 (ald false 1 H6 v55) fun v57 =>
bG v51 false fun w58 =>
gO w58 (alk (.int .i64) (.bool false) H6 v53 v57 false) fun v59 =>
bO (apick v51 (.lit (.bool true)) v59) fun v60 =>
bB v60 fun t61 => bI t61 (
K (.tup [(.lit (.map none)), (.lit (.bool false))]) H6)
 (bO (ashift 1 v4) fun v62 =>
bO (ald false 1 H6 v62) fun v63 =>
bS (amu (.int .i64) H6 x4 v63 (.lit (.bool true))) fun H64 =>
bO (abI .add x13 (.lit (.int .i64 1))) fun v65 =>
R7 [x0, x4, x11, x12, v65] H64))
 (K (.tup [x4, (.lit (.bool true))]) H)
theorem image_names_L7_eq (R7 : List AV → AH → Prop) (x0 x4 x11 x12 x13 : AV) (H : AH) (K : AV → AH → Prop) : zjxZ [true, true, true, false, true, false, false] 8 (expand (mk 58 0 [0, 4, 11, 12, 13]) [x0, x4, x11, x12, x13]) H (kLp (mk 58 0 [0, 4, 11, 12, 13]) R7 (kBlk 0 (kSeq (zjxZ [true, true, true, true] 15) (kRet Try.prog Try.f64.results.toList K)))) = zimZ R7 x0 x4 x11 x12 x13 H K := by kernel_rfl
theorem image_names_L7_rule {K : AV → AH → Prop} (I : Nat → AV → AV → AV → AV → AV → AH → Prop) (round : ∀ (n : Nat) (x0 x4 x11 x12 x13 : AV) (H : AH) (R : List AV → AH → Prop), (∀ (m : Nat) (y0 y4 y11 y12 y13 : AV) (H' : AH), m < n → I m y0 y4 y11 y12 y13 H' → R [y0, y4, y11, y12, y13] H') → I n x0 x4 x11 x12 x13 H → zimZ R x0 x4 x11 x12 x13 H K) (n : Nat) {x0 x4 x11 x12 x13 : AV} {H : AH} (h : I n x0 x4 x11 x12 x13 H) : image_names_L7 x0 x4 x11 x12 x13 H K := by
 refine lp_upto (zbnZ _ _) (LI5 I) ?_ n h
 intro n X H h
 obtain ⟨x0, x4, x11, x12, x13, rfl, h⟩ := h.elim
 exact Eq.mpr (image_names_L7_eq _ x0 x4 x11 x12 x13 H K) (round n x0 x4 x11 x12 x13 H (fun X H' => ∃ m, m < n ∧ LI5 I m X H') (fun m y0 y4 y11 y12 y13 H' hm hi => ⟨m, hm, hi⟩) h)
def image_names (a0 : AV) (H : AH) (K : AV → AH → Prop) : Prop :=
bO (alnS a0) fun v0 =>
bO (abI .gtr v0 (.lit (.int .i64 16))) fun v1 =>
bB v1 fun t2 => bI t2 (
K (.tup [(.lit (.map none)), (.lit (.bool false))]) H)
 (bH (amkM H none) fun v3 H4 =>
bO (alnS a0) fun v5 =>
image_names_L7 a0 v3 a0 v5 (.lit (.int .i64 0)) H4 K)
theorem image_names_eq (a0 : AV) (H : AH) (K : AV → AH → Prop) : sFun Try.prog image_names_fl pqb none0 none0 image_names_kp Try.f64 [a0] H K = image_names a0 H K := by kernel_rfl
theorem image_names_ok {a0 : AV} {H : AH} {K : AV → AH → Prop} (h : image_names a0 H K) : ∃ r H', K r H' ∧ BCall Try.prog 64 [a0] H r H' :=
 sFun_ok mixP Try.func64 (by kernel_rfl) (Eq.mpr (image_names_eq a0 H K) h)
/-! slices.Clone[[]salvor/api.Name,salvor/api.Name] -/
def zgaZ : Floats := flOf []
def zgbZ : Nat → Option (List Bool) := kpOf []
def zcaZ (a0 : AV) (H : AH) (K : AV → AH → Prop) : Prop :=
bO (abN .eql nilS a0 (.lit (.slice none 0 0))) fun v0 =>
bB v0 fun t1 => bI t1 (
K (.lit (.slice none 0 0)) H)
 (bH (absl H 2 0 (zrow [(.lit (.string ⟨#[]⟩)), (.lit (.int .i64 0))] 0) []) fun v2 H3 =>
bH (aap 2 24 H3 v2 a0) fun v4 H5 =>
K v4 H5)
theorem zgeZ (a0 : AV) (H : AH) (K : AV → AH → Prop) : sFun Try.prog zgaZ pqb none0 none0 zgbZ Try.f58 [a0] H K = zcaZ a0 H K := by kernel_rfl
theorem zgdZ {a0 : AV} {H : AH} {K : AV → AH → Prop} (h : zcaZ a0 H K) : ∃ r H', K r H' ∧ BCall Try.prog 58 [a0] H r H' :=
 sFun_ok mixP Try.func58 (by kernel_rfl) (Eq.mpr (zgeZ a0 H K) h)
/-! slices.Clone[[]salvor/api.Node,salvor/api.Node] -/
def zfzZ : Floats := flOf []
def zgcZ : Nat → Option (List Bool) := kpOf []
def zbyZ (a0 : AV) (H : AH) (K : AV → AH → Prop) : Prop :=
bO (abN .eql nilS a0 (.lit (.slice none 0 0))) fun v0 =>
bB v0 fun t1 => bI t1 (
K (.lit (.slice none 0 0)) H)
 (bH (absl H 3 0 (zrow [(.lit (.int .i64 0)), (.lit (.int .i64 0)), (.lit (.slice none 0 0))] 0) []) fun v2 H3 =>
bH (aap 3 40 H3 v2 a0) fun v4 H5 =>
K v4 H5)
theorem zgfZ (a0 : AV) (H : AH) (K : AV → AH → Prop) : sFun Try.prog zfzZ pqb none0 none0 zgcZ Try.f59 [a0] H K = zbyZ a0 H K := by kernel_rfl
theorem zfyZ {a0 : AV} {H : AH} {K : AV → AH → Prop} (h : zbyZ a0 H K) : ∃ r H', K r H' ∧ BCall Try.prog 59 [a0] H r H' :=
 sFun_ok mixP Try.func59 (by kernel_rfl) (Eq.mpr (zgfZ a0 H K) h)
/-! slices.BinarySearchFunc[[]salvor/api.Name,salvor/api.Name,string] -/
def zbaZ : Floats := flOf []
def zzZ : Nat → Option (List Bool) := kpOf [(4, mk 49 0 [0, 1, 2, 8, 9, 10])]
def zeZ (p : List Bool) (n : Nat) : List AV → AH → Kf → Prop := sCode Try.prog zbaZ pqb none0 none0 zzZ (sub p (bodyOf Try.f65)) n
def zyZ (x0 x1 x2 x8 x9 x10 : AV) (H : AH) (K : AV → AH → Prop) : Prop := lp (mk 49 0 [0, 1, 2, 8, 9, 10]) (zeZ [true, true, true, false, false, false] 5) [x0, x1, x2, x8, x9, x10] H (kBlk 0 (kSeq (zeZ [true, true, true, true] 9) (kRet Try.prog Try.f65.results.toList K)))
def ziZ (R4 : List AV → AH → Prop) (x0 x1 x2 x8 x9 x10 : AV) (H : AH) (K : AV → AH → Prop) : Prop :=
bO (abI .lss x9 x10) fun v0 =>
bB v0 fun t1 => bI t1 (
bO (abI .add x9 x10) fun v2 =>
bO (acI .u64 v2) fun v3 =>
bO (abI .shr v3 (.lit (.int .u64 1))) fun v4 =>
bO (acI .i64 v4) fun v5 =>
bO (aixS 2 x0 v5) fun v6 =>
bO (ald true 2 H v6) fun v7 =>
bF true x2 fun k10 f10 c10 =>
bT (goFunc Try.prog k10 || !true) <|
bC (BCall Try.prog k10 (f10 ++ [v7, x1] ++ c10) H) fun v8 H9 =>
bO (abI .lss v8 (.lit (.int .i64 0))) fun v11 =>
bB v11 fun t12 => bI t12 (
bO (abI .add v5 (.lit (.int .i64 1))) fun v13 =>
R4 [x0, x1, x2, x8, v13, x10] H9)
 (R4 [x0, x1, x2, x8, x9, v5] H9))
 (bO (abI .lss x9 x8) fun v14 =>
bG v14 true fun w15 =>
gO w15 (some x2) fun v16 =>
bG v14 true fun w17 =>
gO w17 (some x0) fun v18 =>
bG v14 true fun w19 =>
gO w19 (some x9) fun v20 =>
bG v14 true fun w21 =>
gO w21 (aixS 2 v18 v20) fun v22 =>
bG v14 true fun w23 =>
gO w23 (ald true 2 H v22) fun v24 =>
bG v14 true fun w25 =>
gO w25 (some x1) fun v26 =>
bG v14 true fun w27 =>
bF w27 v16 fun k30 f30 c30 =>
bT (goFunc Try.prog k30 || !w27) <|
gC w27 (BCall Try.prog k30 (f30 ++ [v24, v26] ++ c30) H) H fun v28 H29 =>
bG v14 true fun w31 =>
gO w31 (abI .eql v28 (.lit (.int .i64 0))) fun v32 =>
bO (apick v14 v32 (.lit (.bool false))) fun v33 =>
K (.tup [x9, v33]) H29)
theorem zccZ (R4 : List AV → AH → Prop) (x0 x1 x2 x8 x9 x10 : AV) (H : AH) (K : AV → AH → Prop) : zeZ [true, true, true, false, false, false] 5 (expand (mk 49 0 [0, 1, 2, 8, 9, 10]) [x0, x1, x2, x8, x9, x10]) H (kLp (mk 49 0 [0, 1, 2, 8, 9, 10]) R4 (kBlk 0 (kSeq (zeZ [true, true, true, true] 9) (kRet Try.prog Try.f65.results.toList K)))) = ziZ R4 x0 x1 x2 x8 x9 x10 H K := by kernel_rfl
theorem zbzZ {K : AV → AH → Prop} (I : Nat → AV → AV → AV → AV → AV → AV → AH → Prop) (round : ∀ (n : Nat) (x0 x1 x2 x8 x9 x10 : AV) (H : AH) (R : List AV → AH → Prop), (∀ (m : Nat) (y0 y1 y2 y8 y9 y10 : AV) (H' : AH), m < n → I m y0 y1 y2 y8 y9 y10 H' → R [y0, y1, y2, y8, y9, y10] H') → I n x0 x1 x2 x8 x9 x10 H → ziZ R x0 x1 x2 x8 x9 x10 H K) (n : Nat) {x0 x1 x2 x8 x9 x10 : AV} {H : AH} (h : I n x0 x1 x2 x8 x9 x10 H) : zyZ x0 x1 x2 x8 x9 x10 H K := by
 refine lp_upto (zbnZ _ _) (LI6 I) ?_ n h
 intro n X H h
 obtain ⟨x0, x1, x2, x8, x9, x10, rfl, h⟩ := h.elim
 exact Eq.mpr (zccZ _ x0 x1 x2 x8 x9 x10 H K) (round n x0 x1 x2 x8 x9 x10 H (fun X H' => ∃ m, m < n ∧ LI6 I m X H') (fun m y0 y1 y2 y8 y9 y10 H' hm hi => ⟨m, hm, hi⟩) h)
def znZ (a0 a1 a2 : AV) (H : AH) (K : AV → AH → Prop) : Prop :=
bO (alnS a0) fun v0 =>
zyZ a0 a1 a2 v0 (.lit (.int .i64 0)) v0 H K
theorem zclZ (a0 a1 a2 : AV) (H : AH) (K : AV → AH → Prop) : sFun Try.prog zbaZ pqb none0 none0 zzZ Try.f65 [a0, a1, a2] H K = znZ a0 a1 a2 H K := by kernel_rfl
theorem zckZ {a0 a1 a2 : AV} {H : AH} {K : AV → AH → Prop} (h : znZ a0 a1 a2 H K) : ∃ r H', K r H' ∧ BCall Try.prog 65 [a0, a1, a2] H r H' :=
 sFun_ok mixP Try.func65 (by kernel_rfl) (Eq.mpr (zclZ a0 a1 a2 H K) h)
/-! salvor/image.named$1 -/
def image_named_1_fl : Floats := flOf []
def image_named_1_kp : Nat → Option (List Bool) := kpOf []
def image_named_1 (a0 a1 : AV) (H : AH) (K : AV → AH → Prop) : Prop :=
bH (anew H a0) fun v0 H1 =>
bO (ashift 0 v0) fun v2 =>
bO (ald false 1 H1 v2) fun v3 =>
bP (PCall Try.prog 67 [v3, a1] H1) fun v4 =>
K v4 H1
theorem image_named_1_eq (a0 a1 : AV) (H : AH) (K : AV → AH → Prop) : sFun Try.prog image_named_1_fl pqb none0 none0 image_named_1_kp Try.f66 [a0, a1] H K = image_named_1 a0 a1 H K := by kernel_rfl
theorem image_named_1_ok {a0 a1 : AV} {H : AH} {K : AV → AH → Prop} (h : image_named_1 a0 a1 H K) : ∃ r H', K r H' ∧ BCall Try.prog 66 [a0, a1] H r H' :=
 sFun_ok mixP Try.func66 (by kernel_rfl) (Eq.mpr (image_named_1_eq a0 a1 H K) h)
/-! strings.Compare -/
def strings_Compare_fl : Floats := flOf []
def strings_Compare_kp : Nat → Option (List Bool) := kpOf []
def zkaZ (a0 a1 : AV) (H : AH) (K : AV → AH → Prop) : Prop :=
bP (PCall Try.prog 86 [a0, a1] H) fun v0 =>
K v0 H
theorem strings_Compare_eq (a0 a1 : AV) (H : AH) (K : AV → AH → Prop) : sFun Try.prog strings_Compare_fl pqb none0 none0 strings_Compare_kp Try.f67 [a0, a1] H K = zkaZ a0 a1 H K := by kernel_rfl
theorem strings_Compare_ok {a0 a1 : AV} {H : AH} {K : AV → AH → Prop} (h : zkaZ a0 a1 H K) : ∃ r H', K r H' ∧ BCall Try.prog 67 [a0, a1] H r H' :=
 sFun_ok mixP Try.func67 (by kernel_rfl) (Eq.mpr (strings_Compare_eq a0 a1 H K) h)
/-! slices.BinarySearchFunc[[]salvor/api.Node,salvor/api.Node,int] -/
def zbfZ : Floats := flOf []
def zbgZ : Nat → Option (List Bool) := kpOf [(4, mk 49 0 [0, 1, 2, 8, 9, 10])]
def zgZ (p : List Bool) (n : Nat) : List AV → AH → Kf → Prop := sCode Try.prog zbfZ pqb none0 none0 zbgZ (sub p (bodyOf Try.f87)) n
def zbhZ (x0 x1 x2 x8 x9 x10 : AV) (H : AH) (K : AV → AH → Prop) : Prop := lp (mk 49 0 [0, 1, 2, 8, 9, 10]) (zgZ [true, true, true, false, false, false] 5) [x0, x1, x2, x8, x9, x10] H (kBlk 0 (kSeq (zgZ [true, true, true, true] 9) (kRet Try.prog Try.f87.results.toList K)))
def zmZ (R4 : List AV → AH → Prop) (x0 x1 x2 x8 x9 x10 : AV) (H : AH) (K : AV → AH → Prop) : Prop :=
bO (abI .lss x9 x10) fun v0 =>
bB v0 fun t1 => bI t1 (
bO (abI .add x9 x10) fun v2 =>
bO (acI .u64 v2) fun v3 =>
bO (abI .shr v3 (.lit (.int .u64 1))) fun v4 =>
bO (acI .i64 v4) fun v5 =>
bO (aixS 3 x0 v5) fun v6 =>
bO (ald true 3 H v6) fun v7 =>
bF true x2 fun k10 f10 c10 =>
bT (goFunc Try.prog k10 || !true) <|
bC (BCall Try.prog k10 (f10 ++ [v7, x1] ++ c10) H) fun v8 H9 =>
bO (abI .lss v8 (.lit (.int .i64 0))) fun v11 =>
bB v11 fun t12 => bI t12 (
bO (abI .add v5 (.lit (.int .i64 1))) fun v13 =>
R4 [x0, x1, x2, x8, v13, x10] H9)
 (R4 [x0, x1, x2, x8, x9, v5] H9))
 (bO (abI .lss x9 x8) fun v14 =>
bG v14 true fun w15 =>
gO w15 (some x2) fun v16 =>
bG v14 true fun w17 =>
gO w17 (some x0) fun v18 =>
bG v14 true fun w19 =>
gO w19 (some x9) fun v20 =>
bG v14 true fun w21 =>
gO w21 (aixS 3 v18 v20) fun v22 =>
bG v14 true fun w23 =>
gO w23 (ald true 3 H v22) fun v24 =>
bG v14 true fun w25 =>
gO w25 (some x1) fun v26 =>
bG v14 true fun w27 =>
bF w27 v16 fun k30 f30 c30 =>
bT (goFunc Try.prog k30 || !w27) <|
gC w27 (BCall Try.prog k30 (f30 ++ [v24, v26] ++ c30) H) H fun v28 H29 =>
bG v14 true fun w31 =>
gO w31 (abI .eql v28 (.lit (.int .i64 0))) fun v32 =>
bO (apick v14 v32 (.lit (.bool false))) fun v33 =>
K (.tup [x9, v33]) H29)
theorem zcjZ (R4 : List AV → AH → Prop) (x0 x1 x2 x8 x9 x10 : AV) (H : AH) (K : AV → AH → Prop) : zgZ [true, true, true, false, false, false] 5 (expand (mk 49 0 [0, 1, 2, 8, 9, 10]) [x0, x1, x2, x8, x9, x10]) H (kLp (mk 49 0 [0, 1, 2, 8, 9, 10]) R4 (kBlk 0 (kSeq (zgZ [true, true, true, true] 9) (kRet Try.prog Try.f87.results.toList K)))) = zmZ R4 x0 x1 x2 x8 x9 x10 H K := by kernel_rfl
theorem zceZ {K : AV → AH → Prop} (I : Nat → AV → AV → AV → AV → AV → AV → AH → Prop) (round : ∀ (n : Nat) (x0 x1 x2 x8 x9 x10 : AV) (H : AH) (R : List AV → AH → Prop), (∀ (m : Nat) (y0 y1 y2 y8 y9 y10 : AV) (H' : AH), m < n → I m y0 y1 y2 y8 y9 y10 H' → R [y0, y1, y2, y8, y9, y10] H') → I n x0 x1 x2 x8 x9 x10 H → zmZ R x0 x1 x2 x8 x9 x10 H K) (n : Nat) {x0 x1 x2 x8 x9 x10 : AV} {H : AH} (h : I n x0 x1 x2 x8 x9 x10 H) : zbhZ x0 x1 x2 x8 x9 x10 H K := by
 refine lp_upto (zbnZ _ _) (LI6 I) ?_ n h
 intro n X H h
 obtain ⟨x0, x1, x2, x8, x9, x10, rfl, h⟩ := h.elim
 exact Eq.mpr (zcjZ _ x0 x1 x2 x8 x9 x10 H K) (round n x0 x1 x2 x8 x9 x10 H (fun X H' => ∃ m, m < n ∧ LI6 I m X H') (fun m y0 y1 y2 y8 y9 y10 H' hm hi => ⟨m, hm, hi⟩) h)
def zrZ (a0 a1 a2 : AV) (H : AH) (K : AV → AH → Prop) : Prop :=
bO (alnS a0) fun v0 =>
zbhZ a0 a1 a2 v0 (.lit (.int .i64 0)) v0 H K
theorem zdaZ (a0 a1 a2 : AV) (H : AH) (K : AV → AH → Prop) : sFun Try.prog zbfZ pqb none0 none0 zbgZ Try.f87 [a0, a1, a2] H K = zrZ a0 a1 a2 H K := by kernel_rfl
theorem zdbZ {a0 a1 a2 : AV} {H : AH} {K : AV → AH → Prop} (h : zrZ a0 a1 a2 H K) : ∃ r H', K r H' ∧ BCall Try.prog 87 [a0, a1, a2] H r H' :=
 sFun_ok mixP Try.func87 (by kernel_rfl) (Eq.mpr (zdaZ a0 a1 a2 H K) h)
/-! salvor/image.node$1 -/
def image_node_1_fl : Floats := flOf []
def image_node_1_kp : Nat → Option (List Bool) := kpOf []
def image_node_1 (a0 a1 : AV) (H : AH) (K : AV → AH → Prop) : Prop :=
bH (anew H a0) fun v0 H1 =>
bO (ashift 0 v0) fun v2 =>
bO (ald false 1 H1 v2) fun v3 =>
bP (PCall Try.prog 89 [v3, a1] H1) fun v4 =>
K v4 H1
theorem image_node_1_eq (a0 a1 : AV) (H : AH) (K : AV → AH → Prop) : sFun Try.prog image_node_1_fl pqb none0 none0 image_node_1_kp Try.f88 [a0, a1] H K = image_node_1 a0 a1 H K := by kernel_rfl
theorem image_node_1_ok {a0 a1 : AV} {H : AH} {K : AV → AH → Prop} (h : image_node_1 a0 a1 H K) : ∃ r H', K r H' ∧ BCall Try.prog 88 [a0, a1] H r H' :=
 sFun_ok mixP Try.func88 (by kernel_rfl) (Eq.mpr (image_node_1_eq a0 a1 H K) h)
/-! slices.Insert[[]salvor/api.Name,salvor/api.Name] -/
def zfeZ : Floats := flOf []
def zfsZ : Nat → Option (List Bool) := kpOf []
def zfkZ : Nat → Bool := inL []
def zdjZ (a0 a1 a2 : AV) (H : AH) (K : AV → AH → Prop) : Prop :=
bO (aslS 2 a0 (some a1) none none) fun v0 =>
bO (alnS a2) fun v1 =>
bO (abI .eql v1 (.lit (.int .i64 0))) fun v2 =>
bB v2 fun t3 => bI t3 (
K a0 H)
 (bO (alnS a0) fun v4 =>
bO (abI .eql a1 v4) fun v5 =>
bB v5 fun t6 => bI t6 (
bH (aap 2 24 H a0 a2) fun v7 H8 =>
K v7 H8)
 (bO (abI .add v4 v1) fun v9 =>
bO (acpS a0) fun v10 =>
bO (abI .gtr v9 v10) fun v11 =>
bB v11 fun t12 => bI t12 (
bO (aslS 2 a0 none (some a1) none) fun v13 =>
bO (abI .add v4 v1) fun v14 =>
bO (abI .sub v14 a1) fun v15 =>
bH (aappZ1 H 2 24 [(.lit (.string ⟨#[]⟩)), (.lit (.int .i64 0))] v13 v15) fun v16 H17 =>
bO (aslS 2 v16 (some a1) none none) fun v18 =>
bH (acp 2 H17 v18 a2) fun v19 H20 =>
bO (abI .add a1 v1) fun v21 =>
bO (aslS 2 v16 (some v21) none none) fun v22 =>
bO (aslS 2 a0 (some a1) none none) fun v23 =>
bH (acp 2 H20 v22 v23) fun v24 H25 =>
K v16 H25)
 (bO (abI .add v4 v1) fun v26 =>
bO (aslS 2 a0 none (some v26) none) fun v27 =>
bO (abI .add a1 v1) fun v28 =>
bO (aslS 2 v27 (some v28) none none) fun v29 =>
bP (ExtR Try.prog 90 [a2, v29] H) fun v30 =>
bO (aun .not v30) fun v31 =>
bB v31 fun t32 => bI t32 (
bO (abI .add a1 v1) fun v33 =>
bO (aslS 2 v27 (some v33) none none) fun v34 =>
bO (aslS 2 v27 (some a1) none none) fun v35 =>
bH (acp 2 H v34 v35) fun v36 H37 =>
bO (aslS 2 v27 (some a1) none none) fun v38 =>
bH (acp 2 H37 v38 a2) fun v39 H40 =>
K v27 H40)
 (bO (aslS 2 v27 (some v4) none none) fun v41 =>
bH (acp 2 H v41 a2) fun v42 H43 =>
bO (aslS 2 v27 (some a1) none none) fun v44 =>
bC (BCall Try.prog 91 [v44, v1] H43) fun v45 H46 =>
K v27 H46))))
theorem zflZ (a0 a1 a2 : AV) (H : AH) (K : AV → AH → Prop) : sFun Try.prog zfeZ pqb pqba zfkZ zfsZ Try.f77 [a0, a1, a2] H K = zdjZ a0 a1 a2 H K := by kernel_rfl
theorem zeyZ {a0 a1 a2 : AV} {H : AH} {K : AV → AH → Prop} (h : zdjZ a0 a1 a2 H K) : ACalls Try.prog 77 [a0, a1, a2] H K :=
 sFun_wp mixP Try.func77 (by kernel_rfl) (Eq.mpr (zflZ a0 a1 a2 H K) h)
/-! slices.Insert[[]salvor/api.Node,salvor/api.Node] -/
def zfmZ : Floats := flOf []
def zfoZ : Nat → Option (List Bool) := kpOf []
def zfbZ : Nat → Bool := inL []
def zdiZ (a0 a1 a2 : AV) (H : AH) (K : AV → AH → Prop) : Prop :=
bO (aslS 3 a0 (some a1) none none) fun v0 =>
bO (alnS a2) fun v1 =>
bO (abI .eql v1 (.lit (.int .i64 0))) fun v2 =>
bB v2 fun t3 => bI t3 (
K a0 H)
 (bO (alnS a0) fun v4 =>
bO (abI .eql a1 v4) fun v5 =>
bB v5 fun t6 => bI t6 (
bH (aap 3 40 H a0 a2) fun v7 H8 =>
K v7 H8)
 (bO (abI .add v4 v1) fun v9 =>
bO (acpS a0) fun v10 =>
bO (abI .gtr v9 v10) fun v11 =>
bB v11 fun t12 => bI t12 (
bO (aslS 3 a0 none (some a1) none) fun v13 =>
bO (abI .add v4 v1) fun v14 =>
bO (abI .sub v14 a1) fun v15 =>
bH (aappZ1 H 3 40 [(.lit (.int .i64 0)), (.lit (.int .i64 0)), (.lit (.slice none 0 0))] v13 v15) fun v16 H17 =>
bO (aslS 3 v16 (some a1) none none) fun v18 =>
bH (acp 3 H17 v18 a2) fun v19 H20 =>
bO (abI .add a1 v1) fun v21 =>
bO (aslS 3 v16 (some v21) none none) fun v22 =>
bO (aslS 3 a0 (some a1) none none) fun v23 =>
bH (acp 3 H20 v22 v23) fun v24 H25 =>
K v16 H25)
 (bO (abI .add v4 v1) fun v26 =>
bO (aslS 3 a0 none (some v26) none) fun v27 =>
bO (abI .add a1 v1) fun v28 =>
bO (aslS 3 v27 (some v28) none none) fun v29 =>
bP (ExtR Try.prog 92 [a2, v29] H) fun v30 =>
bO (aun .not v30) fun v31 =>
bB v31 fun t32 => bI t32 (
bO (abI .add a1 v1) fun v33 =>
bO (aslS 3 v27 (some v33) none none) fun v34 =>
bO (aslS 3 v27 (some a1) none none) fun v35 =>
bH (acp 3 H v34 v35) fun v36 H37 =>
bO (aslS 3 v27 (some a1) none none) fun v38 =>
bH (acp 3 H37 v38 a2) fun v39 H40 =>
K v27 H40)
 (bO (aslS 3 v27 (some v4) none none) fun v41 =>
bH (acp 3 H v41 a2) fun v42 H43 =>
bO (aslS 3 v27 (some a1) none none) fun v44 =>
bC (BCall Try.prog 93 [v44, v1] H43) fun v45 H46 =>
K v27 H46))))
theorem zfdZ (a0 a1 a2 : AV) (H : AH) (K : AV → AH → Prop) : sFun Try.prog zfmZ pqb pqba zfbZ zfoZ Try.f78 [a0, a1, a2] H K = zdiZ a0 a1 a2 H K := by kernel_rfl
theorem zfwZ {a0 a1 a2 : AV} {H : AH} {K : AV → AH → Prop} (h : zdiZ a0 a1 a2 H K) : ACalls Try.prog 78 [a0, a1, a2] H K :=
 sFun_wp mixP Try.func78 (by kernel_rfl) (Eq.mpr (zfdZ a0 a1 a2 H K) h)
/-! slices.Delete[[]salvor/api.Name,salvor/api.Name] -/
def zfhZ : Floats := flOf []
def zfxZ : Nat → Option (List Bool) := kpOf []
def zbuZ (a0 a1 a2 : AV) (H : AH) (K : AV → AH → Prop) : Prop :=
bO (alnS a0) fun v0 =>
bO (aslS 2 a0 (some a1) (some a2) (some v0)) fun v1 =>
bO (abI .eql a1 a2) fun v2 =>
bB v2 fun t3 => bI t3 (
K a0 H)
 (bO (alnS a0) fun v4 =>
bO (aslS 2 a0 none (some a1) none) fun v5 =>
bO (aslS 2 a0 (some a2) none none) fun v6 =>
bH (aap 2 24 H v5 v6) fun v7 H8 =>
bO (alnS v7) fun v9 =>
bO (aslS 2 v7 (some v9) (some v4) none) fun v10 =>
bS (acl [(.lit (.string ⟨#[]⟩)), (.lit (.int .i64 0))] H8 v10) fun H11 =>
K v7 H11)
theorem zexZ (a0 a1 a2 : AV) (H : AH) (K : AV → AH → Prop) : sFun Try.prog zfhZ pqb none0 none0 zfxZ Try.f82 [a0, a1, a2] H K = zbuZ a0 a1 a2 H K := by kernel_rfl
theorem zezZ {a0 a1 a2 : AV} {H : AH} {K : AV → AH → Prop} (h : zbuZ a0 a1 a2 H K) : ∃ r H', K r H' ∧ BCall Try.prog 82 [a0, a1, a2] H r H' :=
 sFun_ok mixP Try.func82 (by kernel_rfl) (Eq.mpr (zexZ a0 a1 a2 H K) h)
/-! slices.Delete[[]salvor/api.Node,salvor/api.Node] -/
def zfcZ : Floats := flOf []
def zfrZ : Nat → Option (List Bool) := kpOf []
def zbsZ (a0 a1 a2 : AV) (H : AH) (K : AV → AH → Prop) : Prop :=
bO (alnS a0) fun v0 =>
bO (aslS 3 a0 (some a1) (some a2) (some v0)) fun v1 =>
bO (abI .eql a1 a2) fun v2 =>
bB v2 fun t3 => bI t3 (
K a0 H)
 (bO (alnS a0) fun v4 =>
bO (aslS 3 a0 none (some a1) none) fun v5 =>
bO (aslS 3 a0 (some a2) none none) fun v6 =>
bH (aap 3 40 H v5 v6) fun v7 H8 =>
bO (alnS v7) fun v9 =>
bO (aslS 3 v7 (some v9) (some v4) none) fun v10 =>
bS (acl [(.lit (.int .i64 0)), (.lit (.int .i64 0)), (.lit (.slice none 0 0))] H8 v10) fun H11 =>
K v7 H11)
theorem zfjZ (a0 a1 a2 : AV) (H : AH) (K : AV → AH → Prop) : sFun Try.prog zfcZ pqb none0 none0 zfrZ Try.f83 [a0, a1, a2] H K = zbsZ a0 a1 a2 H K := by kernel_rfl
theorem zftZ {a0 a1 a2 : AV} {H : AH} {K : AV → AH → Prop} (h : zbsZ a0 a1 a2 H K) : ∃ r H', K r H' ∧ BCall Try.prog 83 [a0, a1, a2] H r H' :=
 sFun_ok mixP Try.func83 (by kernel_rfl) (Eq.mpr (zfjZ a0 a1 a2 H K) h)
end Go.Proofs.Ytofgloiebnppbaa.Av
end
/-! YtofgloiebnppbaaAvIm -/
section
/- Chapter 12: names and files, which names may be, where a name and a file lie. -/
set_option linter.unusedVariables false
set_option linter.unusedSimpArgs false
set_option maxRecDepth 100000
namespace Go.Proofs.Ytofgloiebnppbaa.Av
open Go Go.RowKit

structure Nm where
 name : List UInt8
 ino : Int
 deriving DecidableEq
def encN (x : Nm) : List AV := [S (bstr x.name), I x.ino]
theorem encN_len (x : Nm) : (encN x).length = 2 := rfl
theorem noIdss_encN (x : Nm) : noIdss (encN x) = true := rfl
structure Nd where
 ino : Int
 size : Int
 l : List Ext
 deriving DecidableEq
structure NdV where
 nd : Nd
 R : AV
 h : SV encE 9 nd.l R
abbrev NdV.ino (x : NdV) : Int := x.nd.ino
def encD (x : NdV) : List AV := [I x.nd.ino, I x.nd.size, x.R]
theorem encD_len (x : NdV) : (encD x).length = 3 := rfl
theorem noIdss_encD (x : NdV) : noIdss (encD x) = true := by simp [encD, noIdss, noIds, x.h.1]
theorem encN_0 (x : Nm) (t : List AV) : (encN x ++ t)[0]? = some (S (bstr x.name)) := rfl
theorem encN_1 (x : Nm) (t : List AV) : (encN x ++ t)[1]? = some (I x.ino) := rfl
theorem encD_c (x : NdV) (t : List AV) : rdCells true 2 (encD x ++ t) 1 = some (.agg [I x.nd.size, x.R]) := by simp [rdCells, encD]
theorem koI : KO cmpI where
 eq a b := by unfold cmpI; split <;> (try split) <;> omega
 anti a b := by unfold cmpI; split <;> (try split) <;> (try split) <;> omega
 trans a b d := by unfold cmpI; intro h1 h2; split at h1 <;> split at h2 <;> (try split at h1) <;> (try split at h2) <;> split <;> omega
theorem cmpI_lt {a b : Int} : cmpI a b < 0 ↔ a < b := by unfold cmpI; split <;> (try split) <;> omega
theorem SV.oneA {α : Type} {enc : α → List AV} {sz : Nat} {l : List α} {v : AV} (h : SV enc sz l v) : oneA v = true := by
 have h2 := h.2 []
 unfold zaZ at h2
 split at h2
 all_goals first | rfl | cases h2
/-! what may be a name -/
def mayB (y : UInt8) : Prop := (97 ≤ (y.toNat : Int) ∧ (y.toNat : Int) ≤ 122) ∨ (48 ≤ (y.toNat : Int) ∧ (y.toNat : Int) ≤ 57) ∨ (y.toNat : Int) = 46 ∨ (y.toNat : Int) = 95 ∨ (y.toNat : Int) = 45
instance (y : UInt8) : Decidable (mayB y) := by unfold mayB; infer_instance
def mayN (s : List UInt8) : Prop := s ≠ [] ∧ s.length ≤ 20 ∧ s[0]? ≠ some 45 ∧ ∀ b ∈ s, mayB b
instance (s : List UInt8) : Decidable (mayN s) := by unfold mayN; infer_instance
theorem may_p (y : UInt8) : BPure Try.prog 73 [.lit (.int .u8 y.toNat)] (B (decide (mayB y))) := BPure.flat fun H => image_may_ok (by
 unfold image_may
 unfold mayB
 by_cases c1 : (97 : Int) ≤ y.toNat
 ·by_cases c2 : (y.toNat : Int) ≤ 122
  ·simp [c1, c2]
  ·have e1 : ¬ (y.toNat : Int) ≤ 57 := by omega
   have e2 : ¬ (y.toNat : Int) = 46 := by omega
   have e3 : ¬ (y.toNat : Int) = 95 := by omega
   have e4 : ¬ (y.toNat : Int) = 45 := by omega
   simp [c1, c2, e1, e2, e3, e4, show (48 : Int) ≤ y.toNat by omega]
 ·by_cases c2 : (48 : Int) ≤ y.toNat
  ·by_cases c3 : (y.toNat : Int) ≤ 57
   ·simp [c1, c2, c3]
   ·by_cases c4 : (y.toNat : Int) = 95
    ·simp [c1, c2, c3, c4]
    ·have e2 : ¬ (y.toNat : Int) = 46 := by omega
     have e4 : ¬ (y.toNat : Int) = 45 := by omega
     simp [c1, c2, c3, c4, e2, e4]
  ·by_cases c4 : (y.toNat : Int) = 46
   ·simp [c1, c2, c4]
   ·by_cases c5 : (y.toNat : Int) = 95
    ·simp [c1, c2, c4, c5]
    ·by_cases c6 : (y.toNat : Int) = 45
     ·simp [c1, c2, c4, c5, c6]
     ·simp [c1, c2, c4, c5, c6])
theorem u8c {y : UInt8} {k : UInt8} {n : Int} (h : (k.toNat : Int) = n) : ((y.toNat : Int) = n) = (y = k) := by
 refine propext ⟨fun e => UInt8.toNat_inj.1 (by omega), fun e => by rw [e]; exact h⟩
theorem MayName_p {s : List UInt8} (hs : s.length ≤ 9223372036854775807) : BPure Try.prog 48 [S (bstr s)] (B (decide (mayN s))) := BPure.flat fun H => image_MayName_ok (by
 unfold image_MayName
 rw [bstr_nil, abT_eql, alnT_spec hs]
 have hl : ∀ t : List UInt8, t = s → 0 < t.length → t.length ≤ 20 → t[0]? ≠ some 45 → zikZ (S (bstr t)) (I t.length) (I 0) H fun r H' => r = B (decide (mayN t)) ∧ H' = H := by
  intro t _ h0 h20 h45
  refine zmdZ (fun n x0 x17 x18 H' => ∃ k : Nat, k + n = t.length ∧ x0 = S (bstr t) ∧ x17 = I t.length ∧ x18 = I k ∧ H' = H ∧ ∀ m y, m < k → t[m]? = some y → mayB y) ?_ t.length ⟨0, by omega, rfl, rfl, rfl, rfl, by omega⟩
  rintro n x0 x17 x18 H' R hR ⟨k, hk, rfl, rfl, rfl, rfl, hb⟩
  unfold zgzZ
  rcases Nat.lt_or_ge k t.length with h | h
  ·have hx := List.getElem?_eq_getElem h
   generalize t[k] = y at hx
   simp [h, aivT_spec rfl hx]
   refine bP_pure (may_p y) ?_
   by_cases hy : mayB y
   ·simp [hy, abI_add (a := k) (b := 1) (by omega) (by omega)]
    refine hR (n - 1) _ _ _ _ (by omega) ⟨k + 1, by omega, rfl, rfl, by simp, rfl, ?_⟩
    intro m z hm hz
    by_cases c : m = k
    ·rw [c, hx] at hz; injection hz with hz; rw [← hz]; exact hy
    ·exact hb m z (by omega) hz
   ·have : ¬ mayN t := fun hm => hy (hm.2.2.2 y (List.mem_of_getElem? hx))
    simp [hy, this]
  ·have : mayN t := ⟨fun e => by rw [e] at h0; simp at h0, h20, h45, fun b hb' => by
    obtain ⟨m, hm⟩ := List.mem_iff_getElem?.1 hb'
    have := (List.getElem?_eq_some_iff.1 hm).1
    exact hb m b (by omega) hm⟩
   simp [show ¬ k < t.length by omega, this]
 by_cases h0 : s = []
 ·subst h0
  simp [mayN]
 ·have hlen : 0 < s.length := List.length_pos_iff.2 h0
  by_cases h1 : s.length ≤ 20
  ·have hx := List.getElem?_eq_getElem hlen
   have e20 : ¬ (20 : Int) < s.length := by omega
   generalize s[0] = y at hx
   simp [h0, bstr_size, e20, aivT_spec (k := 0) (i := 0) rfl hx]
   have e45 : ((y.toNat : Int) = 45) = (y = 45) := u8c rfl
   by_cases h2 : (y.toNat : Int) = 45
   ·have : ¬ mayN s := fun hm => hm.2.2.1 (by rw [hx, e45.mp h2])
    simp [h2, this]
   ·simp [h2]
    exact hl s rfl hlen h1 (by rw [hx]; intro e; injection e with e; exact h2 (e45.mpr e))
  ·have e20 : (20 : Int) < s.length := by omega
   have : ¬ mayN s := fun hm => h1 hm.2.1
   simp [h0, bstr_size, e20, this])
theorem Compare_p (a b : List UInt8) : BPure Try.prog 67 [S (bstr a), S (bstr b)] (I (cmpN a b)) := BPure.flat fun H => strings_Compare_ok (by
 unfold zkaZ
 exact bP_pure (fun H => by have := compareString_calls (bstr a) (bstr b) H; exact this) ⟨rfl, rfl⟩)
theorem named1_p (x : Nm) (s : List UInt8) : BPure Try.prog 66 [.agg (encN x), S (bstr s)] (I (cmpN x.name s)) := BPure.val (by simp [noIdss, noIds, noIdss_encN]) rfl (image_named_1_ok (by
 unfold image_named_1
 unfold encN
 simp
 refine bP_pure (Compare_p x.name s) ?_
 rfl))
theorem node1_p (x : NdV) (no : Int) : BPure Try.prog 88 [.agg (encD x), I no] (I (cmpI x.nd.ino no)) := BPure.val (by simp [noIdss, noIds, noIdss_encD]) rfl (image_node_1_ok (by
 unfold image_node_1
 unfold encD
 have h1 := SV.oneA x.h
 simp [h1]
 refine bP_pure (cmp_Compare_p x.nd.ino no) ?_
 rfl))
theorem rdh_N (x : Nm) (t : List AV) : rdCells true 2 (encN x ++ t) 0 = some (.agg (encN x)) := by
 simp [rdCells, encN]
theorem rdh_D (x : NdV) (t : List AV) : rdCells true 3 (encD x ++ t) 0 = some (.agg (encD x)) := by
 simp [rdCells, encD]
theorem goF_N : goFunc Try.prog 66 = true := by kernel_rfl
theorem srch_N {l : List Nm} {v : AV} (hv : SV encN 2 l v) (hs : srtK cmpN Nm.name l) (hl : l.length ≤ 281474976710656) (no : List UInt8) :
  BPure Try.prog 65 [v, S (bstr no), .fn (.func 66) [] []] (.tup [I (posK cmpN Nm.name l no), B (decide (hasK Nm.name l no))]) := BPure.val (by simp [noIdss, noIds, hv.1]) rfl (zckZ (by
 unfold znZ
 simp [hv.len]
 refine zbzZ (fun n x0 x1 x2 x8 x9 x10 H' => ∃ i j : Nat, i + n = j ∧ j ≤ l.length ∧ x0 = v ∧ x1 = S (bstr no) ∧ x2 = .fn (.func 66) [] [] ∧ x8 = I l.length ∧ x9 = I i ∧ x10 = I j ∧ H' = [] ∧ (∀ m x, m < i → l[m]? = some x → cmpN (Nm.name x) no < 0) ∧ (∀ m x, j ≤ m → l[m]? = some x → ¬ cmpN (Nm.name x) no < 0)) ?_ l.length ⟨0, l.length, by simp, by omega, rfl, rfl, rfl, rfl, rfl, rfl, rfl, by simp, fun m x hm hx => by have := (List.getElem?_eq_some_iff.1 hx).1; omega⟩
 rintro n x0 x1 x2 x8 x9 x10 H' R hR ⟨i, j, hij, hj, rfl, rfl, rfl, rfl, rfl, rfl, rfl, h1, h2⟩
 unfold ziZ
 rcases Nat.lt_or_ge i j with hlt | hge
 ·have hx := List.getElem?_eq_getElem (l := l) (i := (i + j) / 2) (by omega)
  generalize l[(i + j) / 2]'(by omega) = y at hx
  simp [hlt, abI_add (a := i) (b := j) (by omega) (by omega), acI_u64 (n := (i : Int) + j) (by omega) (by omega), abI_shr1, acI_i64 (a := ((i : Int) + j) / 2) (by omega) (by omega), hv.idx encN_len hx (i := ((i : Int) + j) / 2) (by omega), goF_N, rdh_N]
  refine bC_of (named1_p y no []) ?_
  by_cases c1 : cmpN (Nm.name y) no < 0
  ·simp [c1, abI_add (a := ((i : Int) + j) / 2) (b := 1) (by omega) (by omega)]
   refine hR (j - ((i + j) / 2 + 1)) _ _ _ _ _ _ _ (by omega) ⟨(i + j) / 2 + 1, j, by omega, hj, rfl, rfl, rfl, rfl, by simp, rfl, rfl, ?_, h2⟩
   intro m x hm hmx
   by_cases hm2 : m = (i + j) / 2
   ·rw [hm2, hx] at hmx; injection hmx with e; rw [← e]; exact c1
   ·exact koN.trans _ _ _ (srtK_get hs hmx hx (by omega)) c1
  ·simp [c1]
   refine hR ((i + j) / 2 - i) _ _ _ _ _ _ _ (by omega) ⟨i, (i + j) / 2, by omega, by omega, rfl, rfl, rfl, rfl, rfl, by simp, rfl, h1, ?_⟩
   intro m x hm hmx
   by_cases hm2 : m = (i + j) / 2
   ·rw [hm2, hx] at hmx; injection hmx with e; rw [← e]; exact c1
   ·intro c2
    exact c1 (koN.trans _ _ _ (srtK_get hs hx hmx (by omega)) c2)
 ·have hi : i = j := by omega
  subst hi
  have hp : posK cmpN Nm.name l no = i := posK_eq (by omega) h1 (fun x hx => h2 i x (by omega) hx)
  rcases Nat.lt_or_ge i l.length with hil | hil
  ·have hx := List.getElem?_eq_getElem (l := l) (i := i) hil
   generalize l[i] = y at hx
   have hh : hasK Nm.name l no ↔ cmpN (Nm.name y) no = 0 := by
    rw [hasK_iff koN hs, hp, koN.eq]
    constructor
    ·rintro ⟨z, hz, e⟩
     rw [hx] at hz; injection hz with hz; rw [hz, e]
    ·intro e
     exact ⟨y, hx, e⟩
   simp [hil, hv.idx encN_len hx rfl, goF_N, rdh_N]
   refine bC_of (named1_p y no []) ?_
   simp [hp, hh]
  ·have hn : ¬ hasK Nm.name l no := by
    rw [hasK_iff koN hs, hp]
    rintro ⟨z, hz, e⟩
    have := (List.getElem?_eq_some_iff.1 hz).1
    omega
   simp [show ¬ i < l.length by omega, hp, hn]))
theorem goF_D : goFunc Try.prog 88 = true := by kernel_rfl
theorem srch_D {l : List NdV} {v : AV} (hv : SV encD 3 l v) (hs : srtK cmpI NdV.ino l) (hl : l.length ≤ 281474976710656) (no : Int) :
  BPure Try.prog 87 [v, I no, .fn (.func 88) [] []] (.tup [I (posK cmpI NdV.ino l no), B (decide (hasK NdV.ino l no))]) := BPure.val (by simp [noIdss, noIds, hv.1]) rfl (zdbZ (by
 unfold zrZ
 simp [hv.len]
 refine zceZ (fun n x0 x1 x2 x8 x9 x10 H' => ∃ i j : Nat, i + n = j ∧ j ≤ l.length ∧ x0 = v ∧ x1 = I no ∧ x2 = .fn (.func 88) [] [] ∧ x8 = I l.length ∧ x9 = I i ∧ x10 = I j ∧ H' = [] ∧ (∀ m x, m < i → l[m]? = some x → cmpI (NdV.ino x) no < 0) ∧ (∀ m x, j ≤ m → l[m]? = some x → ¬ cmpI (NdV.ino x) no < 0)) ?_ l.length ⟨0, l.length, by simp, by omega, rfl, rfl, rfl, rfl, rfl, rfl, rfl, by simp, fun m x hm hx => by have := (List.getElem?_eq_some_iff.1 hx).1; omega⟩
 rintro n x0 x1 x2 x8 x9 x10 H' R hR ⟨i, j, hij, hj, rfl, rfl, rfl, rfl, rfl, rfl, rfl, h1, h2⟩
 unfold zmZ
 rcases Nat.lt_or_ge i j with hlt | hge
 ·have hx := List.getElem?_eq_getElem (l := l) (i := (i + j) / 2) (by omega)
  generalize l[(i + j) / 2]'(by omega) = y at hx
  simp [hlt, abI_add (a := i) (b := j) (by omega) (by omega), acI_u64 (n := (i : Int) + j) (by omega) (by omega), abI_shr1, acI_i64 (a := ((i : Int) + j) / 2) (by omega) (by omega), hv.idx encD_len hx (i := ((i : Int) + j) / 2) (by omega), goF_D, rdh_D]
  refine bC_of (node1_p y no []) ?_
  by_cases c1 : cmpI (NdV.ino y) no < 0
  ·simp [c1, abI_add (a := ((i : Int) + j) / 2) (b := 1) (by omega) (by omega)]
   refine hR (j - ((i + j) / 2 + 1)) _ _ _ _ _ _ _ (by omega) ⟨(i + j) / 2 + 1, j, by omega, hj, rfl, rfl, rfl, rfl, by simp, rfl, rfl, ?_, h2⟩
   intro m x hm hmx
   by_cases hm2 : m = (i + j) / 2
   ·rw [hm2, hx] at hmx; injection hmx with e; rw [← e]; exact c1
   ·exact koI.trans _ _ _ (srtK_get hs hmx hx (by omega)) c1
  ·simp [c1]
   refine hR ((i + j) / 2 - i) _ _ _ _ _ _ _ (by omega) ⟨i, (i + j) / 2, by omega, by omega, rfl, rfl, rfl, rfl, rfl, by simp, rfl, h1, ?_⟩
   intro m x hm hmx
   by_cases hm2 : m = (i + j) / 2
   ·rw [hm2, hx] at hmx; injection hmx with e; rw [← e]; exact c1
   ·intro c2
    exact c1 (koI.trans _ _ _ (srtK_get hs hx hmx (by omega)) c2)
 ·have hi : i = j := by omega
  subst hi
  have hp : posK cmpI NdV.ino l no = i := posK_eq (by omega) h1 (fun x hx => h2 i x (by omega) hx)
  rcases Nat.lt_or_ge i l.length with hil | hil
  ·have hx := List.getElem?_eq_getElem (l := l) (i := i) hil
   generalize l[i] = y at hx
   have hh : hasK NdV.ino l no ↔ cmpI (NdV.ino y) no = 0 := by
    rw [hasK_iff koI hs, hp, koI.eq]
    constructor
    ·rintro ⟨z, hz, e⟩
     rw [hx] at hz; injection hz with hz; rw [hz, e]
    ·intro e
     exact ⟨y, hx, e⟩
   simp [hil, hv.idx encD_len hx rfl, goF_D, rdh_D]
   refine bC_of (node1_p y no []) ?_
   simp [hp, hh]
  ·have hn : ¬ hasK NdV.ino l no := by
    rw [hasK_iff koI hs, hp]
    rintro ⟨z, hz, e⟩
    have := (List.getElem?_eq_some_iff.1 hz).1
    omega
   simp [show ¬ i < l.length by omega, hp, hn]))
end Go.Proofs.Ytofgloiebnppbaa.Av
end
/-! YtofgloiebnppbaaAvMp -/
section
/- Maps whose keys are integers. -/
set_option linter.unusedVariables false
set_option linter.unusedSimpArgs false
namespace Go.Proofs.Ytofgloiebnppbaa.Av
open Go Go.RowKit
def encM (ps : List (Int × AV)) : List (Value × AV) := ps.map fun p => (.int .i64 p.1, p.2)
def look (z : AV) (ps : List (Int × AV)) (k : Int) : AV := match ps.find? (fun p => p.1 == k) with
 | some p => p.2
 | none => z
theorem same_int (a b : Int) : Instr.sameNow (.int .i64) (.int .i64 a) (.int .i64 b) = some (a == b) := rfl
theorem findA_int (k : Int) : ∀ (ps : List (Int × AV)) (i : Nat), findA (.int .i64) (.int .i64 k) (encM ps) i = some ((ps.findIdx? (fun p => p.1 == k)).bind fun j => (ps[j]?).map fun p => (i + j, p.2))
 | [], i => rfl
 | p :: ps, i => by
  show (match Instr.sameNow (.int .i64) (.int .i64 k) (.int .i64 p.1) with
   | some true => some (some (i, p.2))
   | some false => findA (.int .i64) (.int .i64 k) (encM ps) (i + 1)
   | none => none) = _
  rw [same_int, List.findIdx?_cons]
  by_cases h : p.1 = k
  ·have h' : (k == p.1) = true := by simp [h]
   have h2 : (p.1 == k) = true := by simp [h]
   simp [h', h2]
  ·have h' : (k == p.1) = false := by simp; omega
   have h2 : (p.1 == k) = false := by simp [h]
   simp only [h', h2]
   rw [findA_int k ps (i + 1)]
   cases ps.findIdx? (fun p => p.1 == k) with
   | none => rfl
   | some j =>
    simp
    cases ps[j]? with
    | none => rfl
    | some q => simp; omega
theorem look_none {z : AV} {ps : List (Int × AV)} {k : Int} (h : ps.findIdx? (fun p => p.1 == k) = none) : look z ps k = z := by
 have : ps.find? (fun p => p.1 == k) = none := by
  rw [List.find?_eq_none]
  intro x hx
  rw [List.findIdx?_eq_none_iff] at h
  simpa using h x hx
 unfold look; rw [this]
theorem look_some {z : AV} {ps : List (Int × AV)} {k : Int} {j : Nat} (h : ps.findIdx? (fun p => p.1 == k) = some j) : ∃ p, ps[j]? = some p ∧ p.1 = k ∧ look z ps k = p.2 := by
 obtain ⟨h1, h2, h3⟩ := List.findIdx?_eq_some_iff_getElem.1 h
 refine ⟨ps[j], List.getElem?_eq_getElem h1, by simpa using h2, ?_⟩
 have : ps.find? (fun p => p.1 == k) = some ps[j] := by
  rw [List.find?_eq_some_iff_getElem]
  exact ⟨h2, j, h1, rfl, fun i hi => by simpa using h3 i hi⟩
 unfold look; rw [this]
theorem alk_int {H : AH} {o : Nat} {zv : Value} {ps : List (Int × AV)} {k : Int} (h : H[o]? = some (some (.map (encM ps)))) : alk (.int .i64) zv H (.mp o) (.lit (.int .i64 k)) false = some (look (.ofV zv) ps k) := by
 have hk : keyB (.int .i64) (.int .i64 k) = true := rfl
 unfold alk entriesA
 simp only [h, hk, if_true, findA_int]
 cases hf : ps.findIdx? (fun p => p.1 == k) with
 | none => rw [look_none hf]; rfl
 | some j =>
  obtain ⟨p, h1, h2, h3⟩ := look_some (z := .ofV zv) hf
  simp [h1, h3]
def putM (ps : List (Int × AV)) (k : Int) (v : AV) : List (Int × AV) := match ps.findIdx? (fun p => p.1 == k) with
 | some j => ps.set j (k, v)
 | none => ps ++ [(k, v)]
theorem amu_int {H : AH} {o : Nat} {ps : List (Int × AV)} {k : Int} {v : AV} (h : H[o]? = some (some (.map (encM ps)))) : amu (.int .i64) H (.mp o) (.lit (.int .i64 k)) v = some (H.set o (some (.map (encM (putM ps k v))))) := by
 have hk : keyB (.int .i64) (.int .i64 k) = true := rfl
 unfold amu putM
 simp only [h, hk, if_true, findA_int]
 cases hf : ps.findIdx? (fun p => p.1 == k) with
 | none => simp [encM]
 | some j =>
  obtain ⟨p, h1, h2, h3⟩ := look_some (z := .junk) hf
  simp [h1, encM, List.map_set]
end Go.Proofs.Ytofgloiebnppbaa.Av
end
/-! YtofgloiebnppbaaAvExtS -/
section
/- Chapter 11: where data and holes are. -/
set_option linter.unusedVariables false
set_option linter.unusedSimpArgs false
set_option maxRecDepth 100000
namespace Go.Proofs.Ytofgloiebnppbaa.Av
open Go Go.RowKit

end Go.Proofs.Ytofgloiebnppbaa.Av
end
/-! YtofgloiebnppbaaAvExtT -/
section
/- Chapter 11: what is read. -/
set_option linter.unusedVariables false
set_option linter.unusedSimpArgs false
set_option maxRecDepth 100000
namespace Go.Proofs.Ytofgloiebnppbaa.Av
open Go Go.RowKit

def atL (l : List Ext) (p : Int) : UInt8 := match l.find? fun x => decide (x.no = p / 8) with
 | some x => x.b.getD (p % 8).toNat 0
 | none => 0
theorem atL_none {l : List Ext} {p : Int} (h : ¬ hasL l (p / 8)) : atL l p = 0 := by
 have : l.find? (fun x => decide (x.no = p / 8)) = none := by
  rw [List.find?_eq_none]
  intro x hx he
  exact h ⟨x, hx, by simpa using he⟩
 unfold atL; rw [this]
theorem atL_some {l : List Ext} (hs : srt l) {p : Int} {k : Nat} {x : Ext} (hx : l[k]? = some x) (he : x.no = p / 8) : atL l p = x.b.getD (p % 8).toNat 0 := by
 have : l.find? (fun x => decide (x.no = p / 8)) = some x := by
  rw [List.find?_eq_some_iff_getElem]
  obtain ⟨h1, h2⟩ := List.getElem?_eq_some_iff.1 hx
  refine ⟨by simp [he], k, h1, h2, ?_⟩
  intro j hj
  have := srt_get hs (List.getElem?_eq_getElem (Nat.lt_trans hj h1)) hx hj
  simp; omega
 unfold atL; rw [this]
def inC (size : Int) (l : List Ext) (pos n : Int) : Prop := mayC size l ∧ 0 ≤ pos ∧ 0 ≤ n ∧ n ≤ 4096 ∧ pos < size
instance (size : Int) (l : List Ext) (pos n : Int) : Decidable (inC size l pos n) := by unfold inC; infer_instance
theorem over_encB (a b : List UInt8) (off : Nat) : over (encB a) off (encB b) = encB (a.take off ++ b ++ a.drop (off + b.length)) := by
 unfold over
 rw [encB_len, encB_take, encB_drop, encB_app, encB_app]
end Go.Proofs.Ytofgloiebnppbaa.Av
end
/-! YtofgloiebnppbaaAvExtI -/
section
/- Chapter 11: slices.Insert. -/
set_option linter.unusedVariables false
set_option linter.unusedSimpArgs false
set_option maxRecDepth 100000
namespace Go.Proofs.Ytofgloiebnppbaa.Av
open Go Go.RowKit
theorem acp_sl {H : AH} {sz o off len o2 off2 m : Nat} {cap cap2 : Room} {cs cs2 : List AV} (ho : H[o]? = some (some (.cells cs))) (h2 : H[o2]? = some (some (.cells cs2))) (hoff : off ≤ cs.length) (ht : off2 + min m len * sz ≤ cs2.length) :
  acp sz H (.sl o off len sz cap) (.sl o2 off2 m sz cap2) = some (I ((min m len : Nat) : Int), H.set o (some (.cells (over cs off ((cs2.drop off2).take (min m len * sz)))))) := by
 unfold acp acp0
 by_cases h : off2 + m * sz ≤ cs2.length
 ·have e : zcoZ H sz (.sl o2 off2 m sz cap2) = some ((cs2.drop off2).take (m * sz), m) := ztZ (by simp [zaZ, h2, h])
  have hm : min (min m len * sz) (m * sz) = min m len * sz := Nat.min_eq_left (Nat.mul_le_mul_right _ (Nat.min_le_left _ _))
  rw [e]
  simp only [ho, hoff, and_self, if_true, List.take_take, hm]
 ·have e : zcoZ H sz (.sl o2 off2 m sz cap2) = none := by simp [zcoZ, zaZ, h2, h]
  rw [e]
  simp [acpT, ho, h2, hoff, ht]
theorem size_ext (w : World) : (Go.sizeOf 104).run Try.prog w = .ok 9 w := zcdZ (by kernel_rfl)
theorem overlaps_no {H : AH} {oa offa la ea ka ob offb lb eb kb : Nat} {ca cb : List AV} (ha : H[oa]? = some (some (.cells ca))) (hbo : H[ob]? = some (some (.cells cb))) (hne : oa ≠ ob) (hka : ka ≠ 0) (hkb : kb ≠ 0) (hcb : cb ≠ []) :
  ExtR Try.prog 108 [.sl oa offa la ea (.ex ka), .sl ob offb lb eb (.ex kb)] H (B false) :=
 ExtR.apart (tS := 69) (tR := 4) (fn := Try.f108) (by kernel_rfl) (by kernel_rfl) (by kernel_rfl) (by kernel_rfl) (by kernel_rfl) (by kernel_rfl) size_ext ha hbo hne hka hkb hcb

def InsP (H : AH) (s : AV) (N : List AV) (n : Nat) (r : AV) (H' : AH) : Prop :=
 ownedS r = true ∧ zaZ H' 9 r = some (N, n + 1) ∧ H.length ≤ H'.length ∧ (∀ i, i < H.length → i ∉ idS s → H'[i]? = H[i]?) ∧ ∀ i ∈ idS r, i ∈ idS s ∨ H.length ≤ i
theorem insE_end {H : AH} {s : AV} {cs : List AV} {n ov : Nat} {x : Ext} (hs : zaZ H 9 s = some (cs, n)) (ho : ownedS s = true) (hn : n ≤ 100000000) (hv : H[ov]? = some (some (.cells (encE x)))) :
  ∃ r H', InsP H s (cs ++ encE x) n r H' ∧ BCall Try.prog 103 [s, I n, .sl ov 0 1 9 (.ex 1)] H r H' := by
 obtain ⟨r0, a0, -⟩ := aslS_spec hs (lo := some (I n)) (hi := none) (l := n) (k := n) (by simp [abnd]) rfl (Nat.le_refl _) (Nat.le_refl _)
 have hl := zbxZ x
 obtain ⟨r, H2, a1, a2, a3, a4, a5, a6⟩ := aap_spec (bytes := 16) hs ho (ztZ (v := .sl ov 0 1 9 (.ex 1)) (q := (encE x, 1)) (by simp [zaZ, hv, hl, List.take_of_length_le])) (by omega)
 refine ⟨r, H2, ⟨a2, a3, a4, a5, a6⟩, zbrZ ?_⟩
 unfold zuZ
 simp [a0, zjrZ hs, a1]
theorem insE_grow {H : AH} {o off n ov i : Nat} {cells : List AV} {x : Ext} (hc : H[o]? = some (some (.cells cells))) (hl : off + n * 9 ≤ cells.length) (hi : i < n) (hn : n ≤ 100000000) (hv : H[ov]? = some (some (.cells (encE x)))) :
  ACalls Try.prog 103 [.sl o off n 9 (.ex n), I i, .sl ov 0 1 9 (.ex 1)] H fun r H' => r = .sl H.length 0 (n + 1) 9 (.ge (n + 1)) ∧
   H' = H ++ [some (.cells ((cells.drop off).take (i * 9) ++ encE x ++ (cells.drop (off + i * 9)).take ((n - i) * 9)))] := by
 refine zbrZ ?_
 unfold zuZ
 have h1 : ¬ (i : Int) = n := by omega
 have hxl := zbxZ x
 simp [aslS, abnd, Room.least, Room.cut, acpS, goInt, h1, show i ≤ n by omega, abI_add (a := n) (b := 1) (by omega) (by omega), abI_sub (a := (n : Int) + 1) (b := i) (by omega) (by omega), aappZ1, hc, hl, abI_add (a := i) (b := 1) (by omega) (by omega)]
 have e1 : i + (n + 1 - i) = n + 1 := by omega
 have h2 : off + i * 9 ≤ cells.length := by omega
 simp only [e1]
 simp [h2, show (i : Int) < n + 1 by omega, show (n : Int) < n + 1 by omega, show (n + 1) * 16 ≤ 140737488355328 by omega, show i ≤ n + 1 by omega, show i + 1 ≤ n + 1 by omega]
 have zl : ((List.replicate (n + 1 - i) [AV.lit (Value.int IntKind.i64 0), AV.lit (Value.int IntKind.u8 0), AV.lit (Value.int IntKind.u8 0), AV.lit (Value.int IntKind.u8 0), AV.lit (Value.int IntKind.u8 0), AV.lit (Value.int IntKind.u8 0), AV.lit (Value.int IntKind.u8 0), AV.lit (Value.int IntKind.u8 0), AV.lit (Value.int IntKind.u8 0)]).flatten).length = (n + 1 - i) * 9 := zekZ _ _
 generalize (List.replicate (n + 1 - i) [AV.lit (Value.int IntKind.i64 0), AV.lit (Value.int IntKind.u8 0), AV.lit (Value.int IntKind.u8 0), AV.lit (Value.int IntKind.u8 0), AV.lit (Value.int IntKind.u8 0), AV.lit (Value.int IntKind.u8 0), AV.lit (Value.int IntKind.u8 0), AV.lit (Value.int IntKind.u8 0), AV.lit (Value.int IntKind.u8 0)]).flatten = Z at zl
 have hA : (List.take (i * 9) (List.drop off cells)).length = i * 9 := by rw [List.length_take, List.length_drop]; omega
 generalize hAe : List.take (i * 9) (List.drop off cells) = A at hA
 have hov := (List.getElem?_eq_some_iff.1 hv).1
 have ho := (List.getElem?_eq_some_iff.1 hc).1
 rw [acp_sl (cs := A ++ Z) (cs2 := encE x) (by simp) (by rw [List.getElem?_append_left hov]; exact hv) (by simp [hA]) (by omega)]
 simp [show (0 : Int) ≤ (i : Int) + 1 by omega, show i + 1 ≤ n + 1 by omega]
 have m1 : min 1 (n + 1 - i) = 1 := by omega
 have o1 : over (A ++ Z) (i * 9) (List.take (min 1 (n + 1 - i) * 9) (encE x)) = A ++ encE x ++ Z.drop 9 := by
  rw [m1, List.take_of_length_le (by rw [hxl]; omega)]
  unfold over
  rw [List.take_append_of_le_length (by omega), List.take_of_length_le (by omega), hxl, ← hA, List.drop_append, Nat.add_sub_cancel_left, List.drop_eq_nil_of_le (by omega), List.nil_append]
 rw [o1, acp_sl (cs := A ++ encE x ++ Z.drop 9) (cs2 := cells) (by simp) (by rw [List.getElem?_append_left ho]; exact hc) (by simp [hA, hxl]; omega) (by rw [Nat.min_self]; omega)]
 have hB : (List.take ((n - i) * 9) (List.drop (off + i * 9) cells)).length = (n - i) * 9 := by rw [List.length_take, List.length_drop]; omega
 simp
 generalize List.take ((n - i) * 9) (List.drop (off + i * 9) cells) = B' at hB
 unfold over
 have l1 : (A ++ encE x).length = (i + 1) * 9 := by rw [List.length_append, hA, hxl]; omega
 rw [← List.append_assoc, List.take_append_of_le_length (by omega), List.take_of_length_le (by omega), List.drop_eq_nil_of_le (by rw [List.length_append, l1, List.length_drop, hB]; omega), List.append_nil, List.append_assoc]

theorem insE_place {H : AH} {o off n ov i c : Nat} {cells : List AV} {x : Ext} (hc : H[o]? = some (some (.cells cells))) (hl : off + n * 9 ≤ cells.length) (hi : i < n) (hn : n ≤ 100000000) (hcn : n + 1 ≤ c) (hv : H[ov]? = some (some (.cells (encE x)))) (hne : ov ≠ o) :
  ACalls Try.prog 103 [.sl o off n 9 (.ex c), I i, .sl ov 0 1 9 (.ex 1)] H fun r H' => r = .sl o off (n + 1) 9 (.ex c) ∧
   ∃ rest, H' = H.set o (some (.cells (cells.take (off + i * 9) ++ encE x ++ (cells.drop (off + i * 9)).take ((n - i) * 9) ++ rest))) := by
 refine zbrZ ?_
 unfold zuZ
 have h1 : ¬ (i : Int) = n := by omega
 have hxl := zbxZ x
 simp [aslS, abnd, Room.least, Room.cut, acpS, goInt, h1, show i ≤ n by omega, abI_add (a := n) (b := 1) (by omega) (by omega), abI_sub (a := (n : Int) + 1) (b := i) (by omega) (by omega), hc, hl, abI_add (a := i) (b := 1) (by omega) (by omega), show i ≤ c by omega, show n ≤ c by omega, show ¬ (c : Int) < n + 1 by omega, hcn, show (0 : Int) ≤ (n : Int) + 1 by omega, show (0 : Int) ≤ (i : Int) + 1 by omega, show i + 1 ≤ n + 1 by omega, show i + 1 ≤ c by omega]
 refine bP_of (overlaps_no hv hc hne (by omega) (by omega) (by intro h; rw [h] at hl; simp at hl; omega)) ?_
 simp
 have ho := (List.getElem?_eq_some_iff.1 hc).1
 have mm : min (n + 1 - i) (n - i) = n - i := by omega
 have m1 : min 1 (n + 1 - i) = 1 := by omega
 simp only [show i ≤ n + 1 by omega, if_true, bO_some]
 rw [acp_sl (cs := cells) (cs2 := cells) hc hc (by omega) (by rw [mm]; omega), mm]
 have hB : (List.take ((n - i) * 9) (List.drop (off + i * 9) cells)).length = (n - i) * 9 := by rw [List.length_take, List.length_drop]; omega
 generalize List.take ((n - i) * 9) (List.drop (off + i * 9) cells) = B' at hB
 simp only [bH_some]
 have l1 : (cells.take (off + (i + 1) * 9)).length = off + (i + 1) * 9 := by rw [List.length_take]; omega
 rw [acp_sl (cs := over cells (off + (i + 1) * 9) B') (cs2 := encE x) (by simp [ho]) (by rw [List.getElem?_set_ne (Ne.symm hne)]; exact hv) (by unfold over; simp [l1]; omega) (by omega), m1, List.take_of_length_le (l := (encE x).drop 0) (by simp [hxl])]
 simp only [bH_some, List.set_set, List.drop_zero]
 refine ⟨(cells.drop (off + (i + 1) * 9 + B'.length)), ?_⟩
 congr 3
 unfold over
 rw [hxl]
 have t1 : List.take (off + i * 9) (cells.take (off + (i + 1) * 9) ++ B' ++ cells.drop (off + (i + 1) * 9 + B'.length)) = cells.take (off + i * 9) := by
  rw [List.append_assoc, List.take_append_of_le_length (by omega), List.take_take, Nat.min_eq_left (by omega)]
 have t2 : List.drop (off + i * 9 + 9) (cells.take (off + (i + 1) * 9) ++ B' ++ cells.drop (off + (i + 1) * 9 + B'.length)) = B' ++ cells.drop (off + (i + 1) * 9 + B'.length) := by
  rw [List.append_assoc, show off + i * 9 + 9 = (cells.take (off + (i + 1) * 9)).length by omega, List.drop_left]
 rw [t1, t2, List.append_assoc]

theorem bels_app {m : Nat} : ∀ {a b : List AV}, Bels m a → Bels m b → Bels m (a ++ b)
 | [], b, _, h => h
 | x :: a, b, h1, h2 => by simp only [Bels, List.cons_append] at h1 ⊢; exact ⟨h1.1, bels_app h1.2 h2⟩
theorem bels_mem {m : Nat} : ∀ {a : List AV}, Bels m a ↔ ∀ x ∈ a, Bel m x
 | [] => by simp [Bels]
 | x :: a => by simp only [Bels, List.mem_cons, forall_eq_or_imp, bels_mem (a := a)]
theorem bels_enc (x : Ext) (m : Nat) : Bels m (encE x) := by
 rw [bels_mem]
 intro a ha
 simp only [encE, encB, List.mem_cons, List.mem_map] at ha
 rcases ha with rfl | ⟨b, _, rfl⟩ <;> simp only [Bel]
theorem insE_mid {H : AH} {o off n ov i : Nat} {cap : Room} {cells : List AV} {x : Ext} (hc : H[o]? = some (some (.cells cells))) (hl : off + n * 9 ≤ cells.length) (hi : i < n) (hn : n ≤ 100000000) (hv : H[ov]? = some (some (.cells (encE x)))) (hne : ov ≠ o) :
  BCall Try.prog 103 [.sl o off n 9 cap, I i, .sl ov 0 1 9 (.ex 1)] H (.sl H.length 0 (n + 1) 9 (.ge (n + 1)))
   (H.set o none ++ [some (.cells ((cells.drop off).take (i * 9) ++ encE x ++ (cells.drop (off + i * 9)).take ((n - i) * 9)))]) := by
 have ho := (List.getElem?_eq_some_iff.1 hc).1
 have hxl := zbxZ x
 generalize hN : (cells.drop off).take (i * 9) ++ encE x ++ (cells.drop (off + i * 9)).take ((n - i) * 9) = N
 have hNl : N.length = (n + 1) * 9 := by
  rw [← hN, List.length_append, List.length_append, hxl, List.length_take, List.length_take, List.length_drop, List.length_drop]; omega
 have hall : ∀ c, n ≤ c → ACalls Try.prog 103 [.sl o off n 9 (.ex c), I i, .sl ov 0 1 9 (.ex 1)] H fun r H' =>
   (r = .sl H.length 0 (n + 1) 9 (.ge (n + 1)) ∧ H' = H ++ [some (.cells N)]) ∨ ∃ c rest, n + 1 ≤ c ∧ r = .sl o off (n + 1) 9 (.ex c) ∧ H' = H.set o (some (.cells (cells.take off ++ N ++ rest))) := by
  intro c hcn
  rcases Nat.lt_or_ge n c with h | h
  ·refine (insE_place hc hl hi hn h hv hne).mono ?_
   rintro r H' ⟨rfl, rest, rfl⟩
   refine .inr ⟨c, rest, h, rfl, ?_⟩
   congr 3
   rw [← hN, Nat.add_comm off (i * 9), Nat.add_comm (i * 9) off]
   have : cells.take (off + i * 9) = cells.take off ++ (cells.drop off).take (i * 9) := by rw [List.take_add]
   rw [this]
   simp [List.append_assoc]
  ·have : c = n := by omega
   subst this
   refine (insE_grow hc hl hi hn hv).mono ?_
   rintro r H' ⟨rfl, rfl⟩
   exact .inl ⟨rfl, by rw [hN]⟩
 have hany : ACalls Try.prog 103 [.sl o off n 9 cap, I i, .sl ov 0 1 9 (.ex 1)] H fun r H' =>
   (r = .sl H.length 0 (n + 1) 9 (.ge (n + 1)) ∧ H' = H ++ [some (.cells N)]) ∨ ∃ c rest, n + 1 ≤ c ∧ r = .sl o off (n + 1) 9 (.ex c) ∧ H' = H.set o (some (.cells (cells.take off ++ N ++ rest))) := by
  cases cap with
  | ge k => exact ACalls.room fun c _ h => hall c h
  | ex c =>
   rcases Nat.lt_or_ge c n with h | h
   ·intro G vs hH hv
    exfalso
    simp only [VRs] at hv
    obtain ⟨v, r, rfl, h1, h2⟩ := hv
    simp only [VR] at h1
    obtain ⟨_, a, c', rfl, hlc, hs⟩ := h1
    simp only [SlAt] at hs
    omega
   ·exact hall c h
 refine ACalls.canon hany ?_
 rintro hb r1 H1 h1
 have hbN : Bels H.length N := by
  have hbc : Bels H.length cells := hb o _ hc
  rw [bels_mem] at hbc
  rw [← hN]
  refine bels_app (bels_app ?_ (bels_enc x _)) ?_
  ·rw [bels_mem]; exact fun a ha => hbc a (List.mem_of_mem_drop (List.mem_of_mem_take ha))
  ·rw [bels_mem]; exact fun a ha => hbc a (List.mem_of_mem_drop (List.mem_of_mem_take ha))
 rcases h1 with ⟨rfl, rfl⟩ | ⟨c, rest, hcn, rfl, rfl⟩
 ·refine ⟨_, _, _, Canon.grown hb hbN, ?_⟩
  intro G v hG hr
  refine ⟨?_, fun p ℓ h => by cases h⟩
  simp only [VR] at hr ⊢
  obtain ⟨q0, a, c, rfl, hlc, hs⟩ := hr
  refine ⟨by simp [Cfg.ren], a, c, rfl, hlc, ?_⟩
  simpa [Cfg.ren, idR, noLim] using hs
 ·refine ⟨_, _, _, Canon.placed (off := off) (l := c * 9) hb ho hbN (cs1 := cells.take off ++ N ++ rest) ?_ ?_ ?_, ?_⟩
  ·simp; omega
  ·have : (cells.take off).length = off := by rw [List.length_take]; omega
   rw [List.append_assoc]
   conv => lhs; arg 2; arg 1; rw [← this]
   rw [List.drop_left, List.take_left]
  ·rw [hNl]; omega
  ·intro G v hG hr
   simp only [VR] at hr
   obtain ⟨q0, a, c', rfl, hlc, hs⟩ := hr
   simp only [SlAt] at hs
   obtain ⟨rfl, hs⟩ := hs
   have hs := hs.resolve_left (by omega)
   obtain ⟨rfl, hs2⟩ := hs
   have e : atR H.length o off H.length = (o, off) := if_pos rfl
   have e2 : atL' H.length (c' * 9) H.length = some (c' * 9) := if_pos rfl
   refine ⟨?_, ?_⟩
   ·simp only [VR]
    refine ⟨by simp [Cfg.ren], _, c', rfl, by omega, ?_⟩
    simp only [SlAt]
    refine ⟨hcn, .inr ⟨by simp [Cfg.ren, e], ?_⟩⟩
    simp [Cfg.ren, e2]
   ·intro p ℓ h
    unfold atL' at h
    split at h
    ·rename_i hp
     injection h with h
     subst hp; subst h
     rw [e]; omega
    ·cases h
end Go.Proofs.Ytofgloiebnppbaa.Av
end
/-! YtofgloiebnppbaaAvExtW -/
section
/- Chapter 11, in plain terms: rising lists of blocks; what writing, another size, room and holes make of them. -/
set_option linter.unusedVariables false
set_option linter.unusedSimpArgs false
set_option maxRecDepth 100000
namespace Go.Proofs.Ytofgloiebnppbaa.Av
open Go Go.RowKit
/-! two rising lists that have the same blocks with the same bytes -/
theorem srt_mem : ∀ {l m : List Ext}, srt l → srt m → (∀ x, x ∈ l ↔ x ∈ m) → l = m
 | [], [], _, _, _ => rfl
 | [], y :: m, _, _, h => by have := (h y).2 (by simp); simp at this
 | x :: l, [], _, _, h => by have := (h x).1 (by simp); simp at this
 | x :: l, y :: m, hl, hm, h => by
  have hl' := List.pairwise_cons.1 hl
  have hm' := List.pairwise_cons.1 hm
  have e : x = y := by
   rcases List.mem_cons.1 ((h x).1 (by simp)) with e | h1
   ·exact e
   ·rcases List.mem_cons.1 ((h y).2 (by simp)) with e | h2
    ·exact e.symm
    ·have := hm'.1 x h1; have := hl'.1 y h2; omega
  subst e
  refine congrArg _ (srt_mem hl'.2 hm'.2 fun z => ?_)
  constructor
  ·intro hz
   rcases List.mem_cons.1 ((h z).1 (by simp [hz])) with e | h1
   ·have := hl'.1 z hz; rw [e] at this; omega
   ·exact h1
  ·intro hz
   rcases List.mem_cons.1 ((h z).2 (by simp [hz])) with e | h1
   ·have := hm'.1 z hz; rw [e] at this; omega
   ·exact h1
theorem ext_eq {x y : Ext} (h1 : x.no = y.no) (h2 : ∀ k, k < 8 → x.b.getD k 0 = y.b.getD k 0) : x = y := by
 obtain ⟨a, b, hb⟩ := x
 obtain ⟨c, d, hd⟩ := y
 simp only at h1 h2
 subst h1
 have : b = d := by
  refine List.ext_getElem (by omega) fun k hk1 hk2 => ?_
  have := h2 k (by omega)
  rw [List.getD_eq_getElem?_getD, List.getD_eq_getElem?_getD, List.getElem?_eq_getElem hk1, List.getElem?_eq_getElem hk2] at this
  simpa using this
 subst this; rfl
theorem mem_get {l : List Ext} {x : Ext} (h : x ∈ l) : ∃ k : Nat, l[k]? = some x := List.mem_iff_getElem?.1 h
theorem at_blk {l : List Ext} (hs : srt l) {x : Ext} (hx : x ∈ l) {k : Nat} (hk : k < 8) : atL l (x.no * 8 + k) = x.b.getD k 0 := by
 obtain ⟨i, hi⟩ := mem_get hx
 rw [atL_some hs hi (by omega), show ((x.no * 8 + (k : Int)) % 8).toNat = k by omega]
theorem srt_ext {l m : List Ext} (hl : srt l) (hm : srt m) (h1 : ∀ no, hasL l no ↔ hasL m no) (h2 : ∀ p, atL l p = atL m p) : l = m := by
 have key : ∀ {l m : List Ext}, srt l → srt m → (∀ no, hasL l no ↔ hasL m no) → (∀ p, atL l p = atL m p) → ∀ x, x ∈ l → x ∈ m := by
  intro l m hl hm h1 h2 x hx
  obtain ⟨y, hy, e⟩ := (h1 x.no).1 ⟨x, hx, rfl⟩
  have : x = y := ext_eq e.symm fun k hk => by
   rw [← at_blk hl hx hk, ← at_blk hm hy hk, h2, e]
  rw [this]; exact hy
 exact srt_mem hl hm fun x => ⟨key hl hm h1 h2 x, key hm hl (fun no => (h1 no).symm) (fun p => (h2 p).symm) x⟩

/-! a block that is needed -/
def newE (no : Int) : Ext := ⟨no, List.replicate 8 0, by simp⟩
def needL (l : List Ext) (no : Int) : List Ext := if hasL l no then l else l.take (posL l no) ++ newE no :: l.drop (posL l no)
theorem posL_mem_lt {l : List Ext} {no : Int} {x : Ext} (h : x ∈ l.take (posL l no)) : x.no < no := by
 obtain ⟨k, hk⟩ := mem_get h
 have h1 := (List.getElem?_eq_some_iff.1 hk).1
 rw [List.length_take] at h1
 rw [List.getElem?_take, if_pos (by omega)] at hk
 exact posL_lt (by omega) hk
theorem posL_mem_ge {l : List Ext} (hs : srt l) {no : Int} {x : Ext} (h : x ∈ l.drop (posL l no)) : no ≤ x.no := by
 obtain ⟨k, hk⟩ := mem_get h
 rw [List.getElem?_drop] at hk
 cases h0 : l[posL l no]? with
 | none => 
  have h1 := (List.getElem?_eq_some_iff.1 hk).1
  rw [List.getElem?_eq_none_iff] at h0; omega
 | some y =>
  have h2 := posL_ge h0
  rcases Nat.eq_zero_or_pos k with h3 | h3
  ·subst h3; rw [Nat.add_zero, h0] at hk; injection hk with hk; rw [← hk]; exact h2
  ·have := srt_get hs h0 hk (by omega); omega
theorem need_srt {l : List Ext} (hs : srt l) (no : Int) : srt (needL l no) := by
 unfold needL
 split
 ·exact hs
 ·rename_i h
  have hd : ∀ x ∈ l.drop (posL l no), no < x.no := by
   intro x hx
   have h1 := posL_mem_ge hs hx
   have h2 : x.no ≠ no := fun e => h ⟨x, List.mem_of_mem_drop hx, e⟩
   omega
  refine List.pairwise_append.2 ⟨List.Pairwise.sublist (List.take_sublist _ l) hs, List.pairwise_cons.2 ⟨hd, List.Pairwise.sublist (List.drop_sublist _ l) hs⟩, ?_⟩
  intro a ha b hb
  have h1 := posL_mem_lt ha
  rcases List.mem_cons.1 hb with rfl | hb
  ·exact h1
  ·have := hd b hb; omega
theorem need_mem {l : List Ext} {no : Int} {x : Ext} : x ∈ needL l no ↔ x ∈ l ∨ (¬ hasL l no ∧ x = newE no) := by
 unfold needL
 split
 ·rename_i h; simp [h]
 ·rename_i h
  rw [List.mem_append, List.mem_cons]
  have : x ∈ l ↔ x ∈ l.take (posL l no) ∨ x ∈ l.drop (posL l no) := by rw [← List.mem_append, List.take_append_drop]
  rw [this]
  constructor
  ·rintro (h1 | h1 | h1)
   ·exact .inl (.inl h1)
   ·exact .inr ⟨h, h1⟩
   ·exact .inl (.inr h1)
  ·rintro ((h1 | h1) | ⟨_, h1⟩)
   ·exact .inl h1
   ·exact .inr (.inr h1)
   ·exact .inr (.inl h1)
theorem need_has {l : List Ext} {no a : Int} : hasL (needL l no) a ↔ hasL l a ∨ a = no := by
 unfold hasL
 constructor
 ·rintro ⟨x, hx, e⟩
  rcases need_mem.1 hx with h | ⟨_, rfl⟩
  ·exact .inl ⟨x, h, e⟩
  ·exact .inr e.symm
 ·rintro (⟨x, hx, e⟩ | rfl)
  ·exact ⟨x, need_mem.2 (.inl hx), e⟩
  ·by_cases h : hasL l a
   ·obtain ⟨x, hx, e⟩ := h
    exact ⟨x, need_mem.2 (.inl hx), e⟩
   ·exact ⟨newE a, need_mem.2 (.inr ⟨h, rfl⟩), rfl⟩
theorem at_mem {l : List Ext} (hs : srt l) {x : Ext} (hx : x ∈ l) {p : Int} (h : x.no = p / 8) : atL l p = x.b.getD (p % 8).toNat 0 := by
 obtain ⟨k, hk⟩ := mem_get hx
 exact atL_some hs hk h
theorem need_at {l : List Ext} (hs : srt l) (no p : Int) : atL (needL l no) p = atL l p := by
 by_cases h : hasL l (p / 8)
 ·obtain ⟨x, hx, e⟩ := h
  rw [at_mem hs hx e, at_mem (need_srt hs no) (need_mem.2 (.inl hx)) e]
 ·rw [atL_none h]
  by_cases h2 : p / 8 = no
  ·rw [at_mem (need_srt hs no) (need_mem.2 (.inr ⟨h2 ▸ h, rfl⟩)) h2.symm]
   have : (p % 8).toNat < 8 := by omega
   simp only [newE]
   rw [List.getD_eq_getElem?_getD, List.getElem?_replicate, if_pos this]; rfl
  ·exact atL_none (fun h3 => (need_has.1 h3).elim h h2)
theorem need_pos {l : List Ext} (hs : srt l) (no : Int) : posL (needL l no) no = posL l no := by
 unfold needL
 split
 ·rfl
 ·rename_i h
  have hp := posL_le l no
  refine posL_eq (by simp; omega) ?_ ?_
  ·intro m x hm hx
   rw [List.getElem?_append_left (by rw [List.length_take]; omega), List.getElem?_take, if_pos hm] at hx
   exact posL_lt hm hx
  ·intro x hx
   rw [List.getElem?_append_right (by rw [List.length_take]; omega), List.length_take, show posL l no - min (posL l no) l.length = 0 by omega] at hx
   simp at hx; rw [← hx]; simp [newE]
theorem need_get {l : List Ext} (hs : srt l) (no : Int) : ∃ x, (needL l no)[posL l no]? = some x ∧ x.no = no := by
 have := (hasL_iff (need_srt hs no) (no := no)).1 (need_has.2 (.inr rfl))
 rwa [need_pos hs] at this
theorem need_len (l : List Ext) (no : Int) : (needL l no).length ≤ l.length + 1 ∧ l.length ≤ (needL l no).length := by
 have hp := posL_le l no
 unfold needL
 split
 ·omega
 ·simp; omega

/-! bytes of a block -/
def putE (x : Ext) (off : Nat) (bs : List UInt8) : Ext := if h : off + bs.length ≤ 8 then ⟨x.no, x.b.take off ++ bs ++ x.b.drop (off + bs.length), by have := x.hb; simp; omega⟩ else x
theorem putE_no (x : Ext) (off : Nat) (bs : List UInt8) : (putE x off bs).no = x.no := by unfold putE; split <;> rfl
theorem putE_b {x : Ext} {off : Nat} {bs : List UInt8} (h : off + bs.length ≤ 8) : (putE x off bs).b = x.b.take off ++ bs ++ x.b.drop (off + bs.length) := by unfold putE; rw [dif_pos h]
theorem putE_get {x : Ext} {off : Nat} {bs : List UInt8} (h : off + bs.length ≤ 8) {k : Nat} (hk : k < 8) : (putE x off bs).b.getD k 0 = if off ≤ k ∧ k < off + bs.length then bs.getD (k - off) 0 else x.b.getD k 0 := by
 have hb := x.hb
 have h1 : (x.b.take off).length = off := by rw [List.length_take]; omega
 rw [putE_b h]
 simp only [List.getD_eq_getElem?_getD]
 split
 ·rename_i c
  rw [List.getElem?_append_left (by rw [List.length_append]; omega), List.getElem?_append_right (by omega), h1]
 ·rename_i c
  by_cases c1 : k < off
  ·rw [List.append_assoc, List.getElem?_append_left (by omega), List.getElem?_take, if_pos c1]
  ·rw [List.getElem?_append_right (by rw [List.length_append]; omega), List.length_append, h1, List.getElem?_drop]
   congr 2; omega
def putL (l : List Ext) (no : Int) (off : Nat) (bs : List UInt8) : List Ext := l.map fun x => if x.no = no then putE x off bs else x
theorem put_no (no : Int) (off : Nat) (bs : List UInt8) (x : Ext) : (if x.no = no then putE x off bs else x).no = x.no := by split; exact putE_no ..; rfl
theorem srt_map {l : List Ext} {f : Ext → Ext} (hf : ∀ x ∈ l, (f x).no = x.no) (hs : srt l) : srt (l.map f) := by
 unfold srt at *
 rw [List.pairwise_map]
 refine hs.imp_of_mem fun ha hb h => ?_
 rw [hf _ ha, hf _ hb]; exact h
theorem map_has {l : List Ext} {f : Ext → Ext} (hf : ∀ x ∈ l, (f x).no = x.no) {no : Int} : hasL (l.map f) no ↔ hasL l no := by
 unfold hasL
 constructor
 ·rintro ⟨y, hy, e⟩
  obtain ⟨x, hx, rfl⟩ := List.mem_map.1 hy
  exact ⟨x, hx, by rw [← e, hf x hx]⟩
 ·rintro ⟨x, hx, e⟩
  exact ⟨f x, List.mem_map.2 ⟨x, hx, rfl⟩, by rw [← e, hf x hx]⟩
theorem put_srt {l : List Ext} (hs : srt l) (no : Int) (off : Nat) (bs : List UInt8) : srt (putL l no off bs) := srt_map (fun x _ => put_no ..) hs
theorem put_has {l : List Ext} {no a : Int} {off : Nat} {bs : List UInt8} : hasL (putL l no off bs) a ↔ hasL l a := map_has (fun x _ => put_no ..)
theorem put_at {l : List Ext} (hs : srt l) {no : Int} {off : Nat} {bs : List UInt8} (h : off + bs.length ≤ 8) (hn : hasL l no) (p : Int) :
  atL (putL l no off bs) p = if no * 8 + off ≤ p ∧ p < no * 8 + off + bs.length then bs.getD (p - (no * 8 + off)).toNat 0 else atL l p := by
 by_cases h0 : hasL l (p / 8)
 ·obtain ⟨x, hx, e⟩ := h0
  rw [at_mem (x := if x.no = no then putE x off bs else x) (put_srt hs no off bs) (List.mem_map.2 ⟨x, hx, rfl⟩) (by rw [put_no]; exact e), at_mem hs hx e]
  by_cases c : x.no = no
  ·rw [if_pos c, putE_get h (by omega)]
   by_cases c2 : no * 8 + off ≤ p ∧ p < no * 8 + off + bs.length
   ·rw [if_pos c2, if_pos (by omega)]; congr 1; omega
   ·rw [if_neg c2, if_neg (by omega)]
  ·rw [if_neg c, if_neg (by omega)]
 ·rw [atL_none (by rw [put_has]; exact h0), atL_none h0, if_neg]
  intro c
  have : p / 8 = no := by omega
  exact h0 (this ▸ hn)
theorem put_set {l : List Ext} (hs : srt l) {k : Nat} {x : Ext} (hx : l[k]? = some x) (off : Nat) (bs : List UInt8) : l.set k (putE x off bs) = putL l x.no off bs := by
 refine List.ext_getElem? fun i => ?_
 unfold putL
 rw [List.getElem?_map, List.getElem?_set]
 have hk := (List.getElem?_eq_some_iff.1 hx).1
 by_cases h : k = i
 ·subst h
  obtain ⟨h1, h2⟩ := List.getElem?_eq_some_iff.1 hx
  simp [hk, h2]
 ·rw [if_neg h]
  cases hi : l[i]? with
  | none => rfl
  | some y =>
   have : y.no ≠ x.no := by
    rcases Nat.lt_or_gt_of_ne h with h | h
    ·have := srt_get hs hx hi h; omega
    ·have := srt_get hs hi hx h; omega
   simp [this]
def needPut (l : List Ext) (p : Int) (bs : List UInt8) : List Ext := putL (needL l (p / 8)) (p / 8) (p % 8).toNat bs
theorem np_srt {l : List Ext} (hs : srt l) (p : Int) (bs : List UInt8) : srt (needPut l p bs) := put_srt (need_srt hs _) ..
theorem np_has {l : List Ext} {p a : Int} {bs : List UInt8} : hasL (needPut l p bs) a ↔ hasL l a ∨ a = p / 8 := by unfold needPut; rw [put_has, need_has]
theorem np_at {l : List Ext} (hs : srt l) {p : Int} {bs : List UInt8} (h : p % 8 + bs.length ≤ 8) (q : Int) : atL (needPut l p bs) q = if p ≤ q ∧ q < p + bs.length then bs.getD (q - p).toNat 0 else atL l q := by
 unfold needPut
 rw [put_at (need_srt hs _) (by omega) (need_has.2 (.inr rfl)), need_at hs, show p / 8 * 8 + ((p % 8).toNat : Int) = p by omega]
def writeL (l : List Ext) (p : Int) : List UInt8 → List Ext
 | [] => l
 | b :: r => writeL (needPut l p [b]) (p + 1) r
theorem wr_srt : ∀ {bs : List UInt8} {l : List Ext} (hs : srt l) (p : Int), srt (writeL l p bs)
 | [], l, hs, p => hs
 | b :: r, l, hs, p => wr_srt (np_srt hs p [b]) (p + 1)
theorem wr_has : ∀ {bs : List UInt8} {l : List Ext} {p a : Int}, hasL (writeL l p bs) a ↔ hasL l a ∨ ∃ q, p ≤ q ∧ q < p + bs.length ∧ a = q / 8
 | [], l, p, a => by
  unfold writeL
  simp only [List.length_nil]
  exact ⟨.inl, fun h => h.elim id fun ⟨q, h1, h2, _⟩ => by omega⟩
 | b :: r, l, p, a => by
  unfold writeL
  rw [wr_has, np_has]
  simp only [List.length_cons]
  constructor
  ·rintro ((h | h) | ⟨q, h1, h2, h3⟩)
   ·exact .inl h
   ·exact .inr ⟨p, by omega, by omega, h⟩
   ·exact .inr ⟨q, by omega, by omega, h3⟩
  ·rintro (h | ⟨q, h1, h2, h3⟩)
   ·exact .inl (.inl h)
   ·by_cases c : q = p
    ·exact .inl (.inr (c ▸ h3))
    ·exact .inr ⟨q, by omega, by omega, h3⟩
theorem wr_at : ∀ {bs : List UInt8} {l : List Ext} (hs : srt l) (p q : Int), atL (writeL l p bs) q = if p ≤ q ∧ q < p + bs.length then bs.getD (q - p).toNat 0 else atL l q
 | [], l, hs, p, q => by
  unfold writeL
  rw [if_neg (by simp only [List.length_nil]; omega)]
 | b :: r, l, hs, p, q => by
  unfold writeL
  rw [wr_at (np_srt hs p [b]), np_at hs (by simp only [List.length_cons, List.length_nil]; omega)]
  simp only [List.length_cons, List.length_nil]
  by_cases c : p + 1 ≤ q ∧ q < p + 1 + r.length
  ·rw [if_pos c, if_pos (by omega), show (q - p).toNat = (q - (p + 1)).toNat + 1 by omega]; rfl
  ·rw [if_neg c]
   by_cases c2 : p = q
   ·subst c2
    rw [if_pos (by omega), if_pos (by omega)]; simp
   ·rw [if_neg (by omega), if_neg (by omega)]
theorem wr_app : ∀ {bs cs : List UInt8} {l : List Ext} {p : Int}, writeL l p (bs ++ cs) = writeL (writeL l p bs) (p + bs.length) cs
 | [], cs, l, p => by simp [writeL]
 | b :: r, cs, l, p => by
  show writeL (needPut l p [b]) (p + 1) (r ++ cs) = writeL (writeL (needPut l p [b]) (p + 1) r) (p + (r.length + 1 : Nat)) cs
  rw [wr_app]; congr 1; omega
theorem wr_one {l : List Ext} (hs : srt l) {p : Int} {bs : List UInt8} (h : p % 8 + bs.length ≤ 8) (hb : bs ≠ []) : needPut l p bs = writeL l p bs := by
 have hlen : 0 < bs.length := List.length_pos_iff.2 hb
 refine srt_ext (np_srt hs p bs) (wr_srt hs p) (fun a => ?_) (fun q => ?_)
 ·rw [np_has, wr_has]
  refine or_congr_right ⟨fun h1 => ⟨p, by omega, by omega, h1⟩, ?_⟩
  rintro ⟨q, h1, h2, rfl⟩; omega
 ·rw [np_at hs h, wr_at hs]
theorem wr_len : ∀ {bs : List UInt8} {l : List Ext} {p : Int}, (writeL l p bs).length ≤ l.length + bs.length
 | [], l, p => by simp [writeL]
 | b :: r, l, p => by
  unfold writeL
  have h1 := wr_len (bs := r) (l := needPut l p [b]) (p := p + 1)
  have h2 : (needPut l p [b]).length = (needL l (p / 8)).length := by simp [needPut, putL]
  have h3 := (need_len l (p / 8)).1
  simp only [List.length_cons]; omega

/-! all numbers, and what lies behind the size -/
theorem cleanB_iff {size : Int} : ∀ {b : List UInt8} {p : Int}, cleanB size p b ↔ ∀ k : Nat, k < b.length → size ≤ p + k → b.getD k 0 = 0
 | [], p => by simp [cleanB]
 | x :: r, p => by
  unfold cleanB
  rw [cleanB_iff]
  constructor
  ·rintro ⟨h1, h2⟩ k hk hs
   cases k with
   | zero => 
    simp
    by_cases c : x = 0
    ·exact c
    ·have := h1 c; omega
   | succ k => 
    have := h2 k (by simpa using hk) (by omega)
    simpa using this
  ·intro h
   refine ⟨fun hx => ?_, fun k hk hs => ?_⟩
   ·have := h 0 (by simp)
    simp at this
    by_cases c : p < size
    ·exact c
    ·exact absurd (this (by omega)) hx
   ·have := h (k + 1) (by simpa using hk) (by omega)
    simpa using this
theorem cleanE_iff {size : Int} {x : Ext} : cleanE size x ↔ ∀ k : Nat, k < 8 → size ≤ x.no * 8 + k → x.b.getD k 0 = 0 := by
 have := cleanB_iff (size := size) (b := x.b) (p := x.no * 8)
 rw [x.hb] at this; exact this
theorem okL_iff {size : Int} : ∀ {l : List Ext} {p : Int}, okL size p l ↔ srt l ∧ ∀ x ∈ l, p < x.no ∧ x.no < 137438953472 ∧ cleanE size x
 | [], p => by simp [okL, srt]
 | x :: r, p => by
  rw [okL_cons, okL_iff]
  constructor
  ·rintro ⟨h1, h2, h3, h4, h5⟩
   refine ⟨List.pairwise_cons.2 ⟨fun y hy => (h5 y hy).1, h4⟩, fun y hy => ?_⟩
   rcases List.mem_cons.1 hy with rfl | hy
   ·exact ⟨h1, h2, h3⟩
   ·have := h5 y hy; exact ⟨by omega, this.2⟩
  ·rintro ⟨h1, h2⟩
   have h1' := List.pairwise_cons.1 h1
   have h3 := h2 x (by simp)
   refine ⟨h3.1, h3.2.1, h3.2.2, h1'.2, fun y hy => ?_⟩
   have := h2 y (by simp [hy])
   exact ⟨h1'.1 y hy, this.2⟩
theorem okL_at {size : Int} {l : List Ext} : okL size (-1) l ↔ srt l ∧ (∀ no, hasL l no → 0 ≤ no ∧ no < 137438953472) ∧ ∀ p, size ≤ p → atL l p = 0 := by
 rw [okL_iff]
 constructor
 ·rintro ⟨hs, h⟩
  refine ⟨hs, ?_, fun p hp => ?_⟩
  ·rintro no ⟨x, hx, rfl⟩
   have := h x hx; omega
  ·by_cases c : hasL l (p / 8)
   ·obtain ⟨x, hx, e⟩ := c
    rw [at_mem hs hx e]
    exact cleanE_iff.1 (h x hx).2.2 _ (by omega) (by omega)
   ·exact atL_none c
 ·rintro ⟨hs, h1, h2⟩
  refine ⟨hs, fun x hx => ?_⟩
  have := h1 x.no ⟨x, hx, rfl⟩
  refine ⟨by omega, this.2, cleanE_iff.2 fun k hk hz => ?_⟩
  rw [← at_blk hs hx hk]; exact h2 _ hz
/-! what is taken -/
def wipeE (x : Ext) (a b : Int) : Ext := ⟨x.no, x.b.mapIdx fun k y => if a ≤ x.no * 8 + (k : Int) ∧ x.no * 8 + (k : Int) < b then 0 else y, by have := x.hb; simpa using this⟩
theorem wipeE_get {x : Ext} {a b : Int} {k : Nat} (hk : k < 8) : (wipeE x a b).b.getD k 0 = if a ≤ x.no * 8 + (k : Int) ∧ x.no * 8 + (k : Int) < b then 0 else x.b.getD k 0 := by
 have hb := x.hb
 unfold wipeE
 simp only [List.getD_eq_getElem?_getD, List.getElem?_mapIdx]
 rw [List.getElem?_eq_getElem (show k < x.b.length by omega)]
 rfl
def wipeL (l : List Ext) (a b : Int) : List Ext := l.map fun x => wipeE x a b
theorem wipe_srt {l : List Ext} (hs : srt l) (a b : Int) : srt (wipeL l a b) := srt_map (fun _ _ => rfl) hs
theorem wipe_has {l : List Ext} {a b no : Int} : hasL (wipeL l a b) no ↔ hasL l no := map_has (f := fun x => wipeE x a b) (fun _ _ => rfl)
theorem wipe_at {l : List Ext} (hs : srt l) (a b p : Int) : atL (wipeL l a b) p = if a ≤ p ∧ p < b then 0 else atL l p := by
 by_cases h : hasL l (p / 8)
 ·obtain ⟨x, hx, e⟩ := h
  rw [at_mem (x := wipeE x a b) (wipe_srt hs a b) (List.mem_map.2 ⟨x, hx, rfl⟩) e, at_mem hs hx e, wipeE_get (by omega)]
  rw [show x.no * 8 + ((p % 8).toNat : Int) = p by omega]
 ·rw [atL_none h, atL_none (by rw [wipe_has]; exact h)]; split <;> rfl
theorem filter_srt {l : List Ext} (hs : srt l) (f : Ext → Bool) : srt (l.filter f) := List.Pairwise.filter f hs
theorem filter_has {l : List Ext} {f : Int → Bool} {no : Int} : hasL (l.filter fun x => f x.no) no ↔ hasL l no ∧ f no = true := by
 unfold hasL
 constructor
 ·rintro ⟨x, hx, rfl⟩
  rw [List.mem_filter] at hx
  exact ⟨⟨x, hx.1, rfl⟩, hx.2⟩
 ·rintro ⟨⟨x, hx, rfl⟩, h⟩
  exact ⟨x, List.mem_filter.2 ⟨hx, h⟩, rfl⟩
theorem filter_at {l : List Ext} (hs : srt l) {f : Int → Bool} (p : Int) : atL (l.filter fun x => f x.no) p = if f (p / 8) = true then atL l p else 0 := by
 by_cases h : hasL l (p / 8)
 ·obtain ⟨x, hx, e⟩ := h
  split
  ·rename_i c
   rw [at_mem (filter_srt hs _) (List.mem_filter.2 ⟨hx, by rw [e]; exact c⟩) e, at_mem hs hx e]
  ·rename_i c
   exact atL_none (fun h2 => c (filter_has.1 h2).2)
 ·rw [atL_none h, atL_none (fun h2 => h (filter_has.1 h2).1)]; split <;> rfl
def truncL (l : List Ext) (size : Int) : List Ext := wipeL (l.filter fun x => decide (x.no * 8 < size)) size 1099511627776
theorem tr_srt {l : List Ext} (hs : srt l) (size : Int) : srt (truncL l size) := wipe_srt (filter_srt hs _) _ _
theorem tr_has {l : List Ext} {size no : Int} : hasL (truncL l size) no ↔ hasL l no ∧ no * 8 < size := by
 unfold truncL
 rw [wipe_has, filter_has (f := fun no => decide (no * 8 < size))]; simp
theorem tr_at {l : List Ext} (hs : srt l) {size : Int} (h : ∀ no, hasL l no → no < 137438953472) (p : Int) : atL (truncL l size) p = if p < size then atL l p else 0 := by
 unfold truncL
 rw [wipe_at (filter_srt hs _), filter_at hs (f := fun no => decide (no * 8 < size))]
 by_cases c : p < size
 ·rw [if_neg (by omega), if_pos c, if_pos (by simp; omega)]
 ·rw [if_neg c]
  by_cases c2 : p < 1099511627776
  ·rw [if_pos ⟨by omega, c2⟩]
  ·rw [if_neg (by omega), atL_none]
   ·split <;> rfl
   ·intro h2; have := h _ h2; omega
def gone (pos n no : Int) : Bool := decide (pos ≤ no * 8) && decide (no * 8 + 8 ≤ pos + n)
def punchL (l : List Ext) (pos n : Int) : List Ext := wipeL (l.filter fun x => !gone pos n x.no) pos (pos + n)
theorem pu_srt {l : List Ext} (hs : srt l) (pos n : Int) : srt (punchL l pos n) := wipe_srt (filter_srt hs _) _ _
theorem pu_has {l : List Ext} {pos n no : Int} : hasL (punchL l pos n) no ↔ hasL l no ∧ ¬ (pos ≤ no * 8 ∧ no * 8 + 8 ≤ pos + n) := by
 unfold punchL
 rw [wipe_has, filter_has (f := fun no => !gone pos n no)]; simp [gone]; intro _; omega
theorem pu_at {l : List Ext} (hs : srt l) (pos n p : Int) : atL (punchL l pos n) p = if pos ≤ p ∧ p < pos + n then 0 else atL l p := by
 unfold punchL
 rw [wipe_at (filter_srt hs _), filter_at hs (f := fun no => !gone pos n no)]
 split
 ·rfl
 ·rename_i c
  split
  ·rfl
  ·rename_i c2
   simp [gone] at c2
   omega
def needs (l : List Ext) (no : Int) : Nat → List Ext
 | 0 => l
 | k + 1 => needs (needL l no) (no + 1) k
theorem ns_srt : ∀ {k : Nat} {l : List Ext} (hs : srt l) (no : Int), srt (needs l no k)
 | 0, l, hs, no => hs
 | k + 1, l, hs, no => ns_srt (k := k) (need_srt hs no) (no + 1)
theorem ns_has : ∀ {k : Nat} {l : List Ext} {no a : Int}, hasL (needs l no k) a ↔ hasL l a ∨ (no ≤ a ∧ a < no + k)
 | 0, l, no, a => by unfold needs; exact ⟨.inl, fun h => h.elim id fun h => by omega⟩
 | k + 1, l, no, a => by
  unfold needs
  rw [ns_has, need_has]
  constructor
  ·rintro ((h | h) | h)
   ·exact .inl h
   ·exact .inr (by omega)
   ·exact .inr (by omega)
  ·rintro (h | h)
   ·exact .inl (.inl h)
   ·by_cases c : a = no
    ·exact .inl (.inr c)
    ·exact .inr (by omega)
theorem ns_at : ∀ {k : Nat} {l : List Ext} (hs : srt l) (no p : Int), atL (needs l no k) p = atL l p
 | 0, l, hs, no, p => rfl
 | k + 1, l, hs, no, p => by
  unfold needs
  rw [ns_at (need_srt hs no), need_at hs]
theorem ns_succ : ∀ {k : Nat} {l : List Ext} {no : Int}, needs l no (k + 1) = needL (needs l no k) (no + k)
 | 0, l, no => by simp [needs]
 | k + 1, l, no => by
  show needs (needL l no) (no + 1) (k + 1) = _
  rw [ns_succ (k := k)]
  show needL (needs (needL l no) (no + 1) k) (no + 1 + k) = needL (needs (needL l no) (no + 1) k) (no + (k + 1 : Nat))
  congr 1; omega
theorem ns_len : ∀ {k : Nat} {l : List Ext} {no : Int}, (needs l no k).length ≤ l.length + k ∧ l.length ≤ (needs l no k).length
 | 0, l, no => by simp [needs]
 | k + 1, l, no => by
  unfold needs
  have h1 := ns_len (k := k) (l := needL l no) (no := no + 1)
  have h2 := need_len l no
  omega
def allocN (pos n : Int) : Nat := ((pos + n - 1) / 8 - pos / 8 + 1).toNat
def allocL (l : List Ext) (pos n : Int) : List Ext := needs l (pos / 8) (allocN pos n)

/-! what the calls come to -/
abbrev Cont := Int × List Ext
def writeC (c : Cont) (pos : Int) (bs : List UInt8) : Option Cont :=
 if mayC c.1 c.2 ∧ 0 ≤ pos ∧ bs.length ≤ 4096 ∧ pos ≤ 1099511627776 - bs.length then some (if bs = [] then c else (max c.1 (pos + bs.length), writeL c.2 pos bs)) else none
def truncC (c : Cont) (size : Int) : Option Cont := if mayC c.1 c.2 ∧ 0 ≤ size ∧ size ≤ 1099511627776 then some (size, truncL c.2 size) else none
def allocC (c : Cont) (pos n : Int) (keep : Bool) : Option Cont :=
 if mayC c.1 c.2 ∧ 0 ≤ pos ∧ 1 ≤ n ∧ n ≤ 32768 ∧ pos ≤ 1099511627776 - n then some (if keep then c.1 else max c.1 (pos + n), allocL c.2 pos n) else none
def punchC (c : Cont) (pos n : Int) : Option Cont :=
 if mayC c.1 c.2 ∧ 0 ≤ pos ∧ 1 ≤ n ∧ n ≤ 1099511627776 ∧ pos ≤ 1099511627776 - n then some (c.1, punchL c.2 pos n) else none
theorem may_at {size : Int} {l : List Ext} : mayC size l ↔ 0 ≤ size ∧ size ≤ 1099511627776 ∧ srt l ∧ (∀ no, hasL l no → 0 ≤ no ∧ no < 137438953472) ∧ ∀ p, size ≤ p → atL l p = 0 := by
 unfold mayC; rw [okL_at]
theorem may_write {c d : Cont} {pos : Int} {bs : List UInt8} (h : writeC c pos bs = some d) : mayC d.1 d.2 := by
 unfold writeC at h
 split at h
 ·rename_i g
  injection h with h
  subst h
  split
  ·exact g.1
  ·rename_i hb
   have hlen : 0 < bs.length := List.length_pos_iff.2 hb
   obtain ⟨g1, g2, g3, g4⟩ := g
   rw [may_at] at g1 ⊢
   obtain ⟨a1, a2, a3, a4, a5⟩ := g1
   refine ⟨by simp only; omega, by simp only; omega, wr_srt a3 pos, ?_, ?_⟩
   ·intro no hno
    rcases wr_has.1 hno with h | ⟨q, h1, h2, h3⟩
    ·exact a4 no h
    ·omega
   ·intro p hp
    simp only at hp
    rw [wr_at a3, if_neg (by omega)]
    exact a5 p (by omega)
 ·cases h
theorem may_trunc {c d : Cont} {size : Int} (h : truncC c size = some d) : mayC d.1 d.2 := by
 unfold truncC at h
 split at h
 ·rename_i g
  injection h with h
  subst h
  obtain ⟨g1, g2, g3⟩ := g
  rw [may_at] at g1 ⊢
  obtain ⟨a1, a2, a3, a4, a5⟩ := g1
  refine ⟨g2, g3, tr_srt a3 size, fun no hno => a4 no (tr_has.1 hno).1, fun p hp => ?_⟩
  rw [tr_at a3 (fun no h => (a4 no h).2), if_neg (by simp only at hp; omega)]
 ·cases h
theorem may_alloc {c d : Cont} {pos n : Int} {keep : Bool} (h : allocC c pos n keep = some d) : mayC d.1 d.2 := by
 unfold allocC at h
 split at h
 ·rename_i g
  injection h with h
  subst h
  obtain ⟨g1, g2, g3, g4, g5⟩ := g
  rw [may_at] at g1 ⊢
  obtain ⟨a1, a2, a3, a4, a5⟩ := g1
  refine ⟨by simp only; split <;> omega, by simp only; split <;> omega, ns_srt a3 _, fun no hno => ?_, fun p hp => ?_⟩
  ·rcases ns_has.1 hno with h | h
   ·exact a4 no h
   ·unfold allocN at h; omega
  ·unfold allocL
   rw [ns_at a3]
   refine a5 p ?_
   simp only at hp
   split at hp <;> omega
 ·cases h
theorem may_punch {c d : Cont} {pos n : Int} (h : punchC c pos n = some d) : mayC d.1 d.2 := by
 unfold punchC at h
 split at h
 ·rename_i g
  injection h with h
  subst h
  obtain ⟨g1, g2, g3, g4, g5⟩ := g
  rw [may_at] at g1 ⊢
  obtain ⟨a1, a2, a3, a4, a5⟩ := g1
  refine ⟨a1, a2, pu_srt a3 _ _, fun no hno => a4 no (pu_has.1 hno).1, fun p hp => ?_⟩
  rw [pu_at a3]
  split
  ·rfl
  ·exact a5 p hp
 ·cases h
end Go.Proofs.Ytofgloiebnppbaa.Av
end
/-! YtofgloiebnppbaaAvExtC -/
section
/- Chapter 11: a content of one's own; a block that is needed. -/
set_option linter.unusedVariables false
set_option linter.unusedSimpArgs false
set_option maxRecDepth 100000
namespace Go.Proofs.Ytofgloiebnppbaa.Av
open Go Go.RowKit

theorem zbpZ {v : AV} (h : ownedS v = true) : oneA v = true := by
 unfold ownedS at h
 split at h
 ·rfl
 ·rfl
 ·rfl
 ·cases h
theorem flat_take {α : Type} {enc : α → List AV} {sz : Nat} (hsz : ∀ x, (enc x).length = sz) : ∀ (l : List α) (i : Nat), (l.flatMap enc).take (i * sz) = (l.take i).flatMap enc
 | [], i => by simp
 | a :: l, 0 => by simp
 | a :: l, i + 1 => by
  have ha := hsz a
  rw [List.take_succ_cons, List.flatMap_cons, List.flatMap_cons, ← flat_take hsz l i, show (i + 1) * sz = (enc a).length + i * sz by rw [ha, Nat.succ_mul]; omega, List.take_length_add_append]
theorem flat_drop {α : Type} {enc : α → List AV} {sz : Nat} (hsz : ∀ x, (enc x).length = sz) : ∀ (l : List α) (i : Nat), (l.flatMap enc).drop (i * sz) = (l.drop i).flatMap enc
 | [], i => by simp
 | a :: l, 0 => by simp
 | a :: l, i + 1 => by
  have ha := hsz a
  rw [List.drop_succ_cons, List.flatMap_cons, ← flat_drop hsz l i, show (i + 1) * sz = (enc a).length + i * sz by rw [ha, Nat.succ_mul]; omega, List.drop_length_add_append]
def Grew (H H' : AH) : Prop := H.length ≤ H'.length ∧ ∀ i, i < H.length → H'[i]? = H[i]?
theorem Grew.refl (H : AH) : Grew H H := ⟨Nat.le_refl _, fun _ _ => rfl⟩
theorem Grew.trans {A B C : AH} (h : Grew A B) (k : Grew B C) : Grew A C := ⟨Nat.le_trans h.1 k.1, fun i hi => (k.2 i (Nat.lt_of_lt_of_le hi h.1)).trans (h.2 i hi)⟩
theorem Grew.app (H X : AH) : Grew H (H ++ X) := ⟨by simp, fun i hi => List.getElem?_append_left hi⟩
theorem Grew.cells {H H' : AH} (h : Grew H H') {o : Nat} {x : Option AObj} (ho : H[o]? = some x) : H'[o]? = some x := by
 rw [h.2 o (List.getElem?_eq_some_iff.1 ho).1]; exact ho
theorem Grew.slice {H H' : AH} (h : Grew H H') {sz : Nat} {v : AV} {q : List AV × Nat} (hv : zaZ H sz v = some q) : zaZ H' sz v = some q :=
 zbZ hv fun i hi => h.2 i (zoZ hv i hi)
theorem nilS_slice {H : AH} {sz : Nat} {v : AV} {cs : List AV} {n : Nat} (h : zaZ H sz v = some (cs, n)) : (v = nilSl ∧ cs = [] ∧ n = 0) ∨ abN .eql nilS v nilSl = some (B false) := by
 unfold zaZ at h
 split at h
 ·exact .inr rfl
 ·exact .inr rfl
 ·injection h with h; injection h with h1 h2; exact .inl ⟨rfl, h1.symm, h2.symm⟩
 ·exact .inr rfl
 ·cases h
theorem ext_Clone_c {H : AH} {v : AV} {cs : List AV} {n : Nat} (h : zaZ H 9 v = some (cs, n)) (hn : n ≤ 1000000000) :
  ∃ r H', (ownedS r = true ∧ zaZ H' 9 r = some (cs, n) ∧ Grew H H' ∧ ∀ i ∈ idS r, H.length ≤ i) ∧ BCall Try.prog 84 [v] H r H' := zgrZ (by
 unfold zcfZ
 rcases nilS_slice h with ⟨rfl, rfl, rfl⟩ | hb
 ·have e : abN .eql nilS nilSl nilSl = some (B true) := rfl
  simp only [e, bO_some, bB_bool, bI_true]
  exact ⟨rfl, h, Grew.refl H, by simp [idS]⟩
 ·simp only [hb, bO_some, bB_bool, zwZ]
  have e : absl H 9 0 (zrow [(.lit (.int .i64 0)), (.lit (.int .u8 0)), (.lit (.int .u8 0)), (.lit (.int .u8 0)), (.lit (.int .u8 0)), (.lit (.int .u8 0)), (.lit (.int .u8 0)), (.lit (.int .u8 0)), (.lit (.int .u8 0))] 0) [] = some (.sl H.length 0 0 9 (.ex 0), H ++ [some (.cells [])]) := rfl
  simp only [e, bH_some]
  have g := Grew.app H [some (.cells [])]
  obtain ⟨r, H2, a1, a2, a3, a4, a5, a6⟩ := aap_spec (sz := 9) (bytes := 16) (H := H ++ [some (.cells [])]) (v := .sl H.length 0 0 9 (.ex 0)) (cs := []) (n := 0) (by simp [zaZ]) rfl (ztZ (g.slice h)) (by omega)
  simp only [a1, bH_some]
  refine ⟨a2, by simpa using a3, ⟨by simp at a4; omega, fun i hi => ?_⟩, fun i hi => ?_⟩
  ·rw [a5 i (by simp; omega) (by simp [idS]; omega)]
   exact g.2 i hi
  ·rcases a6 i hi with h | h
   ·simp [idS] at h; omega
   ·simp at h; omega)
theorem copied_c {H : AH} {size : Int} {v : AV} {cs : List AV} {n : Nat} (h : zaZ H 9 v = some (cs, n)) (h1 : oneA v = true) (hn : n ≤ 1000000000) :
  ∃ r H', (∃ w, r = .agg [I size, w] ∧ ownedS w = true ∧ zaZ H' 9 w = some (cs, n) ∧ Grew H H' ∧ ∀ i ∈ idS w, H.length ≤ i) ∧ BCall Try.prog 69 [.agg [I size, v]] H r H' := extent_copied_ok (by
 unfold extent_copied
 have g := Grew.app H [some (.cells [I size, v]), some (.cells [I 0, nilSl])]
 obtain ⟨w, H2, ⟨a2, a3, a4, a5⟩, a1⟩ := ext_Clone_c (g.slice h) hn
 have c0 := a4.cells (o := H.length) (x := some (.cells [I size, v])) (by simp)
 have c1 := a4.cells (o := H.length + 1) (x := some (.cells [I 0, nilSl])) (by rw [List.getElem?_append_right (by omega)]; simp)
 have l2 : H.length + 2 ≤ H2.length := by have := a4.1; simpa using this
 have hw := zbpZ a2
 simp [h1]
 refine bC_of a1 ?_
 simp [zdoZ hw]
 rw [ast_ptr (n := 2) (off := 0) (x := .agg [I size, w]) (xs := [I size, w]) (cs := [I 0, nilSl]) (by simp [hw]) c1 rfl (by simp)]
 simp [show H.length + 1 < H2.length by omega, c0, rdCells]
 refine ⟨a2, zbZ a3 fun i hi => List.getElem?_set_ne ?_, ?_, fun i hi => ?_⟩
 ·have := a5 i hi; simp at this; omega
 ·refine ⟨by simp; omega, fun i hi => ?_⟩
  rw [List.getElem?_set_ne (by omega), a4.2 i (by simp; omega), g.2 i hi]
 ·have := a5 i hi; simp at this; omega)
theorem insE_ok {H : AH} {s : AV} {cs : List AV} {n ov i : Nat} {x : Ext} (hs : zaZ H 9 s = some (cs, n)) (ho : ownedS s = true) (hi : i ≤ n) (hn : n ≤ 100000000) (hv : H[ov]? = some (some (.cells (encE x)))) (hne : ov ∉ idS s) :
  ∃ r H', InsP H s (cs.take (i * 9) ++ encE x ++ cs.drop (i * 9)) n r H' ∧ BCall Try.prog 103 [s, I i, .sl ov 0 1 9 (.ex 1)] H r H' := by
 have hcl := zcyZ hs
 rcases Nat.lt_or_ge i n with h | h
 ·obtain ⟨o, off, cap, cells, rfl, h1, h2, rfl⟩ := owned_sl hs ho (by omega)
  have hov : ov ≠ o := by simpa [idS] using hne
  have hol := (List.getElem?_eq_some_iff.1 h1).1
  have hxl := zbxZ x
  have e1 : ((cells.drop off).take (n * 9)).take (i * 9) = (cells.drop off).take (i * 9) := by rw [List.take_take]; congr 1; omega
  have e2 : ((cells.drop off).take (n * 9)).drop (i * 9) = (cells.drop (off + i * 9)).take ((n - i) * 9) := by rw [List.drop_take, List.drop_drop]; congr 1; omega
  refine ⟨_, _, ?_, insE_mid h1 h2 h hn hv hov⟩
  rw [e1, e2]
  refine ⟨rfl, ?_, by simp, fun j hj hn => ?_, fun j hj => .inr (by simp [idS] at hj; omega)⟩
  ·rw [zbjZ (c := (cells.drop off).take (i * 9) ++ encE x ++ (cells.drop (off + i * 9)).take ((n - i) * 9)) (by rw [List.getElem?_append_right (by simp)]; simp) (by simp; omega)]
   rw [List.drop_zero, List.take_of_length_le (by simp; omega)]
  ·rw [List.getElem?_append_left (by simpa using hj), List.getElem?_set_ne (by simp [idS] at hn; omega)]
 ·have : i = n := by omega
  subst this
  obtain ⟨r, H', h1, h2⟩ := insE_end hs ho hn hv
  refine ⟨r, H', ?_, h2⟩
  rw [List.take_of_length_le (by omega), List.drop_of_length_le (by omega), List.append_nil]
  exact h1
def ContP (H : AH) (oc : Nat) (size : Int) (v : AV) (l : List Ext) (H' : AH) : Prop :=
 ∃ v', H'[oc]? = some (some (.cells [I size, v'])) ∧ zaZ H' 9 v' = some (l.flatMap encE, l.length) ∧ ownedS v' = true ∧ oc ∉ idS v' ∧ H.length ≤ H'.length ∧ (∀ i, i < H.length → i ≠ oc → i ∉ idS v → H'[i]? = H[i]?) ∧ ∀ i ∈ idS v', i ∈ idS v ∨ H.length ≤ i
theorem encE_new (no : Int) : encE (newE no) = [I no, .lit (.int .u8 0), .lit (.int .u8 0), .lit (.int .u8 0), .lit (.int .u8 0), .lit (.int .u8 0), .lit (.int .u8 0), .lit (.int .u8 0), .lit (.int .u8 0)] := rfl
theorem extent_need_c' {H : AH} {oc : Nat} {size no : Int} {v : AV} {l : List Ext} (hc : H[oc]? = some (some (.cells [I size, v]))) (hv : zaZ H 9 v = some (l.flatMap encE, l.length)) (ho : ownedS v = true) (hne : oc ∉ idS v) (hs : srt l) (hl : l.length ≤ 100000000) :
  ∃ H', ContP H oc size v (needL l no) H' ∧ BCall Try.prog 94 [.ptr oc 0, I no] H (I (posL l no)) H' := by
 have key : ∃ r H', (r = I (posL l no) ∧ ContP H oc size v (needL l no) H') ∧ BCall Try.prog 94 [.ptr oc 0, I no] H r H' := extent_need_ok (by
  unfold extent_need
  have hol := (List.getElem?_eq_some_iff.1 hc).1
  obtain ⟨R, hR, fR⟩ := FZ.sv hv (zfaZ fun x _ => ziuZ x)
  have h1 := zbpZ ho
  simp [hc]
  refine bP_of (PCall.lend (FZs.cons fR (FZs.cons (FZ.lit _) FZs.nil)) rfl (extent_place_p hR hs (by omega) no)) ?_
  simp
  by_cases hh : hasL l no
  ·have e : needL l no = l := if_pos hh
   simp [hh]
   rw [zklZ]
   unfold zipZ
   rw [e]
   exact ⟨rfl, v, hc, hv, ho, hne, Nat.le_refl _, fun _ _ _ _ => rfl, fun i hi => .inl hi⟩
  ·have e : needL l no = l.take (posL l no) ++ newE no :: l.drop (posL l no) := if_neg hh
   simp [hh]
   have g := Grew.app H [some (.cells (encE (newE no)))]
   obtain ⟨r, H2, ⟨b1, b2, b3, b4, b5⟩, a1⟩ := insE_ok (x := newE no) (ov := H.length) (g.slice hv) ho (posL_le l no) hl (by simp) (fun h => by have := zoZ hv _ h; omega)
   rw [← encE_new]
   refine bC_of a1 ?_
   have c2 : H2[oc]? = some (some (.cells [I size, v])) := by
    rw [b4 oc (by simp; omega) hne]; exact g.cells hc
   have hr := zbpZ b1
   have hol2 := (List.getElem?_eq_some_iff.1 c2).1
   rw [ast_ptr (n := 1) (off := 1) (xs := [r]) (cs := [I size, v]) (zdoZ hr) c2 rfl (by simp)]
   simp
   rw [zklZ]
   unfold zipZ
   have hoc : oc ∉ idS r := fun h => (b5 oc h).elim hne (fun h => by simp at h; omega)
   refine ⟨rfl, r, by simp [hol2], ?_, b1, hoc, by simp at b3; simp; omega, fun i hi h1 h2 => ?_, fun i hi => (b5 i hi).imp id (fun h => by simp at h; omega)⟩
   ·rw [zbZ b2 (fun i hi => List.getElem?_set_ne (fun (h : oc = i) => hoc (h ▸ hi)))]
    rw [flat_take zbxZ, flat_drop zbxZ, e, List.flatMap_append, List.flatMap_cons, List.append_assoc]
    have := posL_le l no
    simp; omega
   ·rw [List.getElem?_set_ne (by omega), b4 i (by simp; omega) h2]
    exact g.2 i hi)
 obtain ⟨r, H', ⟨rfl, h1⟩, h2⟩ := key
 exact ⟨H', h1, h2⟩
end Go.Proofs.Ytofgloiebnppbaa.Av
end
/-! YtofgloiebnppbaaAvIn -/
section
/- Chapter 12: which names are right, which images may be. -/
set_option linter.unusedVariables false
set_option linter.unusedSimpArgs false
set_option maxRecDepth 100000
namespace Go.Proofs.Ytofgloiebnppbaa.Av
open Go Go.RowKit

section
variable {κ α : Type} {c : κ → κ → Int} {key : α → κ}
theorem srtK_snoc (hc : KO c) {l : List α} {x : α} : srtK c key (l ++ [x]) ↔ srtK c key l ∧ ∀ y, l.getLast? = some y → c (key y) (key x) < 0 := by
 unfold srtK
 rw [List.pairwise_append]
 constructor
 ·rintro ⟨h1, -, h3⟩
  exact ⟨h1, fun y hy => h3 y (List.mem_of_getLast? hy) x (by simp)⟩
 ·rintro ⟨h1, h2⟩
  refine ⟨h1, List.pairwise_singleton _ _, fun a ha b hb => ?_⟩
  rw [List.mem_singleton] at hb
  subst hb
  obtain ⟨m, hm⟩ := List.mem_iff_getElem?.1 ha
  have hl := (List.getElem?_eq_some_iff.1 hm).1
  have hy : l.getLast? = some (l[l.length - 1]) := by rw [List.getLast?_eq_getElem?, List.getElem?_eq_getElem (by omega)]
  have h3 := h2 _ hy
  rcases Nat.lt_or_ge m (l.length - 1) with h | h
  ·exact hc.trans _ _ _ (srtK_get h1 hm (List.getElem?_eq_getElem (by omega)) h) h3
  ·have : m = l.length - 1 := by omega
   subst this
   rw [List.getElem?_eq_getElem (by omega)] at hm
   injection hm with hm
   rw [← hm]; exact h3
end
/-! names -/
def okN (l : List Nm) : Prop := (∀ x ∈ l, mayN x.name ∧ 1 ≤ x.ino ∧ x.ino ≤ 4611686018427387904) ∧ srtK cmpN Nm.name l ∧ (l.map Nm.ino).Nodup
instance (l : List Nm) : Decidable (okN l) := by unfold okN; infer_instance
def mayNs (l : List Nm) : Prop := l.length ≤ 16 ∧ okN l
instance (l : List Nm) : Decidable (mayNs l) := by unfold mayNs; infer_instance
theorem okN_snoc {l : List Nm} {x : Nm} : okN (l ++ [x]) ↔ okN l ∧ (mayN x.name ∧ (∀ y, l.getLast? = some y → cmpN y.name x.name < 0) ∧ 1 ≤ x.ino ∧ x.ino ≤ 4611686018427387904 ∧ ¬ hasK Nm.ino l x.ino) := by
 unfold okN
 rw [srtK_snoc koN, List.map_append, List.nodup_append]
 simp only [List.mem_append, List.mem_singleton, List.map_cons, List.map_nil, List.nodup_cons, List.not_mem_nil, not_false_eq_true, List.nodup_nil, and_self, true_and]
 constructor
 ·rintro ⟨h1, ⟨h2, h3⟩, h4, h5⟩
  refine ⟨⟨fun y hy => h1 y (.inl hy), h2, h4⟩, (h1 x (.inr rfl)).1, h3, (h1 x (.inr rfl)).2.1, (h1 x (.inr rfl)).2.2, ?_⟩
  rintro ⟨y, hy, e⟩
  exact h5 y.ino (List.mem_map_of_mem hy) x.ino rfl e
 ·rintro ⟨⟨h1, h2, h4⟩, h5, h6, h7, h8, h9⟩
  refine ⟨?_, ⟨h2, h6⟩, h4, ?_⟩
  ·rintro y (hy | rfl)
   ·exact h1 y hy
   ·exact ⟨h5, h7, h8⟩
  ·rintro a ha b rfl e
   obtain ⟨y, hy, e2⟩ := List.mem_map.1 ha
   exact h9 ⟨y, hy, by rw [e2, e]⟩
theorem okN_app {a b : List Nm} (h : okN (a ++ b)) : okN a := by
 unfold okN at h ⊢
 refine ⟨fun x hx => h.1 x (by simp [hx]), (List.pairwise_append.1 h.2.1).1, ?_⟩
 have := h.2.2
 rw [List.map_append, List.nodup_append] at this
 exact this.1
def inoM (l : List Nm) : List (Int × AV) := l.map fun x => (x.ino, B true)
theorem look_inoM (l : List Nm) (k : Int) : look (B false) (inoM l) k = B (decide (hasK Nm.ino l k)) := by
 induction l with
 | nil => simp [look, inoM, hasK]
 | cons a l ih =>
  unfold look inoM at ih ⊢
  rw [List.map_cons]
  by_cases h : a.ino = k
  ·rw [List.find?_cons_of_pos (by simp [h])]
   have : hasK Nm.ino (a :: l) k := ⟨a, by simp, h⟩
   simp [this]
  ·rw [List.find?_cons_of_neg (by simp [h]), ih]
   have : hasK Nm.ino (a :: l) k ↔ hasK Nm.ino l k := by
    unfold hasK
    simp [h]
   simp [this]
theorem putM_inoM {l : List Nm} {x : Nm} (h : ¬ hasK Nm.ino l x.ino) : putM (inoM l) x.ino (B true) = inoM (l ++ [x]) := by
 unfold putM
 have : (inoM l).findIdx? (fun p => p.1 == x.ino) = none := by
  rw [List.findIdx?_eq_none_iff]
  intro p hp
  obtain ⟨y, hy, rfl⟩ := List.mem_map.1 hp
  simp only [beq_eq_false_iff_ne, ne_eq]
  exact fun e => h ⟨y, hy, e⟩
 rw [this]
 simp [inoM]
def NmsK (H : AH) (l : List Nm) (r : AV) (H' : AH) : Prop := Grew H H' ∧
 (mayNs l → ∃ o, r = .tup [.mp o, B true] ∧ H'[o]? = some (some (.map (encM (inoM l))))) ∧ (¬ mayNs l → r = .tup [.lit (.map none), B false])
theorem names_c {H : AH} {l : List Nm} {v : AV} (hv : SV encN 2 l v) (hl : l.length ≤ 281474976710656) (hs : ∀ x ∈ l, x.name.length ≤ 9223372036854775807) : ∃ r H', NmsK H l r H' ∧ BCall Try.prog 64 [v] H r H' := image_names_ok (by
 unfold image_names
 by_cases h16 : l.length ≤ 16
 ·have e16 : ¬ (16 : Int) < l.length := by omega
  simp [hv.len, e16]
  refine image_names_L7_rule (fun n x0 x4 x11 x12 x13 H' => ∃ k : Nat, k + n = l.length ∧ x0 = v ∧ x4 = .mp H.length ∧ x11 = v ∧ x12 = I l.length ∧ x13 = I k ∧ Grew H H' ∧ H'[H.length]? = some (some (.map (encM (inoM (l.take k))))) ∧ okN (l.take k)) ?_ l.length ⟨0, by omega, rfl, rfl, rfl, rfl, rfl, Grew.app _ _, by simp; rfl, by simp [okN, srtK]⟩
  rintro n x0 x4 x11 x12 x13 H' R hR ⟨k, hk, rfl, rfl, rfl, rfl, rfl, hg, hm, hok⟩
  unfold zimZ
  rcases Nat.lt_or_ge k l.length with h | h
  ·have hx := List.getElem?_eq_getElem h
   generalize l[k] = x at hx
   have htk : l.take (k + 1) = l.take k ++ [x] := by rw [List.take_add_one, hx]; rfl
   have hgt : ∀ y, (l.take k).getLast? = some y ↔ 0 < k ∧ l[k - 1]? = some y := by
    intro y
    rw [List.getLast?_eq_getElem?, List.length_take, Nat.min_eq_left (by omega), List.getElem?_take]
    by_cases c : 0 < k
    ·rw [if_pos (by omega)]; exact ⟨fun h => ⟨c, h⟩, fun h => h.2⟩
    ·rw [if_neg (by omega)]; exact ⟨fun h => (by cases h), fun h => absurd h.1 c⟩
   have hstep : mayNs l → mayN x.name ∧ (∀ y, 0 < k ∧ l[k - 1]? = some y → cmpN y.name x.name < 0) ∧ 1 ≤ x.ino ∧ x.ino ≤ 4611686018427387904 ∧ ¬ hasK Nm.ino (l.take k) x.ino := by
    rintro ⟨-, ho⟩
    rw [← List.take_append_drop (k + 1) l, htk] at ho
    have := (okN_snoc.1 (okN_app ho)).2
    simpa only [hgt] using this
   have hsx := hs x (List.mem_of_getElem? hx)
   have g1 := Grew.app H' [some (.cells (encN x))]
   have c1 : (H' ++ [some (AObj.cells [S (bstr x.name), I x.ino])])[H.length]? = some (some (.map (encM (inoM (l.take k))))) := g1.cells hm
   have ea : ast 2 (H' ++ [some (.cells [S (bstr []), I 0])]) (.ptr H'.length 0) (.agg (encN x)) = some (H' ++ [some (.cells (encN x))]) := by
    simp [ast, encN, splice]
   simp [h, hv.idx encN_len hx rfl, rdh_N, bstr_nil, ea]
   simp [encN]
   refine bP_of (MayName_p (s := x.name) (by omega)) ?_
   have hno : ¬ (mayN x.name ∧ (∀ y, 0 < k ∧ l[k - 1]? = some y → cmpN y.name x.name < 0) ∧ 1 ≤ x.ino ∧ x.ino ≤ 4611686018427387904 ∧ ¬ hasK Nm.ino (l.take k) x.ino) → NmsK H l (.tup [.lit (.map none), B false]) (H' ++ [some (.cells (encN x))]) := fun hn => ⟨hg.trans g1, fun hh => absurd (hstep hh) hn, fun _ => rfl⟩
   have key : (∀ y, 0 < k ∧ l[k - 1]? = some y → cmpN y.name x.name < 0) → mayN x.name → True := fun _ _ => trivial
   by_cases a1 : mayN x.name
   ·have hal : alk (.int .i64) (.bool false) (H' ++ [some (AObj.cells [S (bstr x.name), I x.ino])]) (.mp H.length) (I x.ino) false = some (B (decide (hasK Nm.ino (l.take k) x.ino))) := by
     rw [alk_int c1]; exact congrArg some (look_inoM _ _)
    have ham : ¬ hasK Nm.ino (l.take k) x.ino → amu (.int .i64) (H' ++ [some (AObj.cells [S (bstr x.name), I x.ino])]) (.mp H.length) (I x.ino) (.lit (.bool true)) = some ((H' ++ [some (AObj.cells [S (bstr x.name), I x.ino])]).set H.length (some (.map (encM (inoM (l.take k ++ [x])))))) := fun hn => by
     rw [amu_int c1, putM_inoM hn]
    have hol : H.length < H'.length := (List.getElem?_eq_some_iff.1 hm).1
    rcases Nat.eq_zero_or_pos k with h0 | hk0
    ·have e0 : ¬ 0 < k := by omega
     have a5 : ∀ y, (l.take k).getLast? = some y → cmpN y.name x.name < 0 := fun y hy => by have := (hgt y).1 hy; omega
     by_cases a2 : x.ino < 1
     ·simp [a1, e0, a2]
      exact hno fun hh => by omega
     ·by_cases a3 : 4611686018427387904 < x.ino
      ·simp [a1, e0, a2, a3]
       exact hno fun hh => by omega
      ·by_cases a4 : hasK Nm.ino (l.take k) x.ino
       ·simp [a1, e0, a2, a3, hal, a4]
        exact hno fun hh => hh.2.2.2.2 a4
       ·simp [a1, e0, a2, a3, hal, a4, ham a4, abI_add (a := (k : Nat)) (b := 1) (by omega) (by omega)]
        refine hR (n - 1) _ _ _ _ _ _ (by omega) ⟨k + 1, by omega, rfl, rfl, rfl, rfl, by simp, ⟨Nat.le_trans (hg.trans g1).1 (Nat.le_of_eq List.length_set.symm), fun i hi => (List.getElem?_set_ne (by omega)).trans ((hg.trans g1).2 i hi)⟩, by rw [htk, List.getElem?_set_self (by simp; omega)], by rw [htk, okN_snoc]; exact ⟨hok, a1, a5, by omega, by omega, a4⟩⟩
    ·have e0 : 0 < k := hk0
     have hy := List.getElem?_eq_getElem (l := l) (i := k - 1) (by omega)
     generalize l[k - 1] = y at hy
     have es : abI .sub (I k) (.lit (.int .i64 1)) = some (I ((k - 1 : Nat) : Int)) := by rw [abI_sub (by omega) (by omega)]; congr 3; omega
     have ei := hv.idx encN_len hy (i := ((k - 1 : Nat) : Int)) rfl
     by_cases a6 : cmpN y.name x.name < 0
     ·have a5 : ∀ y, (l.take k).getLast? = some y → cmpN y.name x.name < 0 := fun z hz => by have := ((hgt z).1 hz).2; rw [hy] at this; injection this with this; rw [← this]; exact a6
      by_cases a2 : x.ino < 1
      ·simp [a1, e0, es, ei, encN_0, abT_geq, a6, a2]
       exact hno fun hh => by omega
      ·by_cases a3 : 4611686018427387904 < x.ino
       ·simp [a1, e0, es, ei, encN_0, abT_geq, a6, a2, a3]
        exact hno fun hh => by omega
       ·by_cases a4 : hasK Nm.ino (l.take k) x.ino
        ·simp [a1, e0, es, ei, encN_0, abT_geq, a6, a2, a3, hal, a4]
         exact hno fun hh => hh.2.2.2.2 a4
        ·simp [a1, e0, es, ei, encN_0, abT_geq, a6, a2, a3, hal, a4, ham a4, abI_add (a := (k : Nat)) (b := 1) (by omega) (by omega)]
         refine hR (n - 1) _ _ _ _ _ _ (by omega) ⟨k + 1, by omega, rfl, rfl, rfl, rfl, by simp, ⟨Nat.le_trans (hg.trans g1).1 (Nat.le_of_eq List.length_set.symm), fun i hi => (List.getElem?_set_ne (by omega)).trans ((hg.trans g1).2 i hi)⟩, by rw [htk, List.getElem?_set_self (by simp; omega)], by rw [htk, okN_snoc]; exact ⟨hok, a1, a5, by omega, by omega, a4⟩⟩
     ·simp [a1, e0, es, ei, encN_0, abT_geq, a6]
      exact hno fun hh => a6 (hh.2.1 y ⟨hk0, hy⟩)
   ·simp [a1]
    exact hno fun hh => a1 hh.1
  ·have : l.take k = l := List.take_of_length_le (by omega)
   rw [this] at hm hok
   simp [show ¬ k < l.length by omega]
   exact ⟨hg, fun _ => ⟨_, rfl, hm⟩, fun hn => absurd ⟨h16, hok⟩ hn⟩
 ·have e16 : (16 : Int) < l.length := by omega
  have : ¬ mayNs l := fun h => h16 h.1
  simp [hv.len, e16]
  exact ⟨Grew.refl _, fun h => absurd h this, fun _ => rfl⟩)
end Go.Proofs.Ytofgloiebnppbaa.Av
end
/-! YtofgloiebnppbaaAvIo -/
section
/- Chapter 12: which images may be; the document's. -/
set_option linter.unusedVariables false
set_option linter.unusedSimpArgs false
set_option maxRecDepth 100000
namespace Go.Proofs.Ytofgloiebnppbaa.Av
open Go Go.RowKit

def okD (ns : List Nm) (ds : List Nd) : Prop := srtK cmpI Nd.ino ds ∧ ∀ d ∈ ds, hasK Nm.ino ns d.ino ∧ mayC d.size d.l
instance (ns : List Nm) (ds : List Nd) : Decidable (okD ns ds) := by unfold okD; infer_instance
def mayI (ns : List Nm) (ds : List Nd) : Prop := mayNs ns ∧ ds.length = ns.length ∧ okD ns ds
instance (ns : List Nm) (ds : List Nd) : Decidable (mayI ns ds) := by unfold mayI; infer_instance
def Sm (ns : List Nm) (ds : List Nd) : Prop := ns.length ≤ 100000 ∧ ds.length ≤ 100000 ∧ (∀ x ∈ ns, x.name.length ≤ 9223372036854775807) ∧ ∀ d ∈ ds, d.l.length ≤ 1000000
def ImV (ns : List Nm) (ds : List Nd) (v : AV) : Prop := ∃ a b dv, v = .agg [a, b] ∧ SV encN 2 ns a ∧ SV encD 3 dv b ∧ dv.map NdV.nd = ds
theorem ImV.noIds {ns : List Nm} {ds : List Nd} {v : AV} (h : ImV ns ds v) : noIdss [v] = true := by
 obtain ⟨a, b, dv, rfl, h1, h2, rfl⟩ := h
 simp [noIdss, Av.noIds, h1.1, h2.1]
theorem okD_snoc {ns : List Nm} {ds : List Nd} {d : Nd} : okD ns (ds ++ [d]) ↔ okD ns ds ∧ (∀ y, ds.getLast? = some y → y.ino < d.ino) ∧ hasK Nm.ino ns d.ino ∧ mayC d.size d.l := by
 unfold okD
 rw [srtK_snoc koI]
 simp only [cmpI_lt, List.mem_append, List.mem_singleton]
 constructor
 ·rintro ⟨⟨h1, h2⟩, h3⟩
  exact ⟨⟨h1, fun y hy => h3 y (.inl hy)⟩, h2, h3 d (.inr rfl)⟩
 ·rintro ⟨⟨h1, h3⟩, h2, h4⟩
  refine ⟨⟨h1, h2⟩, ?_⟩
  rintro y (hy | rfl)
  ·exact h3 y hy
  ·exact h4
theorem okD_app {ns : List Nm} {a b : List Nd} (h : okD ns (a ++ b)) : okD ns a :=
 ⟨(List.pairwise_append.1 h.1).1, fun d hd => h.2 d (by simp [hd])⟩
theorem take_snoc {α : Type} {l : List α} {k : Nat} {x : α} (hx : l[k]? = some x) : l.take (k + 1) = l.take k ++ [x] := by rw [List.take_add_one, hx]; rfl
theorem May_p {ns : List Nm} {ds : List Nd} {v : AV} (hv : ImV ns ds v) (hb : Sm ns ds) : BPure Try.prog 43 [v] (B (decide (mayI ns ds))) := BPure.val hv.noIds rfl (image_May_ok (by
 obtain ⟨a, b, dv, rfl, ha, hbv, rfl⟩ := hv
 have b1 := hb.1
 have b2 := hb.2.1
 rw [List.length_map] at b2
 unfold image_May
 have oa := SV.oneA ha
 have ob := SV.oneA hbv
 simp [oa, ob]
 obtain ⟨r, H5, ⟨hg, hy, hn⟩, hc⟩ := names_c (H := [some (.cells [a, b])]) ha (by omega) (fun x hx => by have := hb.2.2.1 x hx; omega)
 refine bC_of hc ?_
 have c0 : H5[0]? = some (some (.cells [a, b])) := hg.cells rfl
 by_cases hm : mayNs ns
 ·obtain ⟨o, rfl, hmap⟩ := hy hm
  have hal : alnM H5 (.mp o) = some (I ns.length) := by
   simp [alnM, hmap, encM, inoM, goInt]
  simp [c0, hbv.len, hal]
  by_cases hlen : dv.length = ns.length
  ·have hlI : ¬ ((dv.length : Int) ≠ ns.length) := by omega
   simp [hlen, c0, hbv.len]
   refine image_May_L8_rule (fun n x3 x5 x25 x26 x27 H' => ∃ k : Nat, k + n = dv.length ∧ x3 = .mp o ∧ (∃ last : Int, x5 = I last ∧ 0 ≤ last ∧ (∀ y, (dv.take k).getLast? = some y → y.ino ≤ last) ∧ (last = 0 ∨ ∃ y, (dv.take k).getLast? = some y ∧ y.ino = last)) ∧ x25 = b ∧ x26 = I ns.length ∧ x27 = I k ∧ Grew H5 H' ∧ okD ns ((dv.take k).map NdV.nd)) ?_ dv.length ⟨0, by omega, rfl, ⟨0, rfl, by omega, by simp, .inl rfl⟩, rfl, rfl, rfl, Grew.refl _, by simp [okD, srtK]⟩
   rintro n x3 x5 x25 x26 x27 H' R hR ⟨k, hk, rfl, ⟨last, rfl, hl0, hl1, hl2⟩, rfl, rfl, rfl, hg2, hok⟩
   unfold zkzZ
   rcases Nat.lt_or_ge k ns.length with h | h
   ·have hx := List.getElem?_eq_getElem (l := dv) (i := k) (by omega)
    generalize dv[k] = d at hx
    have ea : ast 3 (H' ++ [some (.cells [I 0, I 0, nilSl])]) (.ptr H'.length 0) (.agg (encD d)) = some (H' ++ [some (.cells (encD d))]) := by
     have := SV.oneA d.h
     simp [ast, encD, splice, this]
    have g1 := Grew.app H' [some (.cells (encD d))]
    have c1 : (H' ++ [some (AObj.cells [I d.nd.ino, I d.nd.size, d.R])])[o]? = some (some (.map (encM (inoM ns)))) := g1.cells (hg2.cells hmap)
    have hal2 : alk (.int .i64) (.bool false) (H' ++ [some (AObj.cells [I d.nd.ino, I d.nd.size, d.R])]) (.mp o) (I d.nd.ino) false = some (B (decide (hasK Nm.ino ns d.nd.ino))) := by
     rw [alk_int c1]; exact congrArg some (look_inoM _ _)
    have hdl : d.nd.l.length ≤ 281474976710656 := by
     have := hb.2.2.2 d.nd (List.mem_map_of_mem (List.mem_of_getElem? hx)); omega
    have htk := take_snoc hx
    have hstep : mayI ns (dv.map NdV.nd) → last < d.nd.ino ∧ hasK Nm.ino ns d.nd.ino ∧ mayC d.nd.size d.nd.l := by
     rintro ⟨-, -, ho⟩
     rw [← List.take_append_drop (k + 1) dv, htk, List.map_append, List.map_append] at ho
     have h3 := (okD_snoc.1 (okD_app ho)).2
     refine ⟨?_, h3.2⟩
     rcases hl2 with rfl | ⟨y, hy, rfl⟩
     ·obtain ⟨x, hx, e⟩ := h3.2.1
      have := (hm.2.1 x hx).2.1
      omega
     ·exact h3.1 y.nd (by rw [List.getLast?_map, hy]; rfl)
    simp [h, hbv.idx encD_len hx rfl, rdh_D, ea]
    simp [encD]
    by_cases a1 : d.nd.ino ≤ last
    ·have : ¬ mayI ns (dv.map NdV.nd) := fun hh => by have := (hstep hh).1; omega
     simp [a1, this]
    ·by_cases a2 : hasK Nm.ino ns d.nd.ino
     ·simp [a1, hal2, a2, rdCells]
      refine bP_pure (zjfZ d.h hdl) ?_
      by_cases a3 : mayC d.nd.size d.nd.l
      ·simp [a3, abI_add (a := k) (b := 1) (by omega) (by omega)]
       refine hR (n - 1) _ _ _ _ _ _ (by omega) ⟨k + 1, by omega, rfl, ⟨d.nd.ino, rfl, by omega, ?_, .inr ⟨d, by rw [htk]; simp, rfl⟩⟩, rfl, rfl, by simp, hg2.trans g1, ?_⟩
       ·intro y hy
        rw [htk] at hy
        simp at hy
        rw [← hy]; exact Int.le_refl _
       ·rw [htk, List.map_append]
        refine okD_snoc.2 ⟨hok, fun y hy => ?_, a2, a3⟩
        rw [List.getLast?_map] at hy
        obtain ⟨z, hz, rfl⟩ := Option.map_eq_some_iff.1 hy
        have h9 : z.nd.ino ≤ last := hl1 z hz
        show z.nd.ino < d.nd.ino
        omega
      ·have : ¬ mayI ns (dv.map NdV.nd) := fun hh => a3 (hstep hh).2.2
       simp [a3, this]
     ·have : ¬ mayI ns (dv.map NdV.nd) := fun hh => a2 (hstep hh).2.1
      simp [a1, hal2, a2, this]
   ·have e : dv.take k = dv := List.take_of_length_le (by omega)
    rw [e] at hok
    have : mayI ns (dv.map NdV.nd) := ⟨hm, by simp [hlen], hok⟩
    simp [show ¬ k < ns.length by omega, this]
  ·have : ¬ mayI ns (dv.map NdV.nd) := fun h => hlen (by simpa using h.2.1)
   have hlI : ((dv.length : Int) ≠ ns.length) := by omega
   simp [hlI, this]
 ·have : ¬ mayI ns (dv.map NdV.nd) := fun h => hm h.1
  rw [hn hm]
  simp [this]))
/-! the document's -/
end Go.Proofs.Ytofgloiebnppbaa.Av
end
/-! YtofgloiebnppbaaAvIp -/
section
/- Chapter 12: where the document finds a name and a file; which images may be by it. -/
set_option linter.unusedVariables false
set_option linter.unusedSimpArgs false
set_option maxRecDepth 100000
namespace Go.Proofs.Ytofgloiebnppbaa.Av
open Go Go.RowKit

section
variable {κ α : Type} [DecidableEq κ] {c : κ → κ → Int} {key : α → κ}
end
theorem pigeon : ∀ {A B : List Int}, A.Nodup → (∀ a ∈ A, a ∈ B) → B.length ≤ A.length → ∀ b ∈ B, b ∈ A
 | [], B, _, _, hl, b, hb => by
  have : B = [] := List.length_eq_zero_iff.1 (by simpa using hl)
  rw [this] at hb; exact hb
 | a :: A, B, hn, hs, hl, b, hb => by
  rw [List.nodup_cons] at hn
  by_cases e : b = a
  ·simp [e]
  ·have haB := hs a (by simp)
   have hl2 : (B.erase a).length ≤ A.length := by
    rw [List.length_erase_of_mem haB]; simp at hl; omega
   have := pigeon (A := A) (B := B.erase a) hn.2 (fun x hx => (List.mem_erase_of_ne (fun (e2 : x = a) => hn.1 (e2 ▸ hx))).2 (hs x (by simp [hx]))) hl2 b ((List.mem_erase_of_ne e).2 hb)
   simp [this]
def okP (N : List Nd) (ns : List Nm) (ds : List Nd) : Prop := okN ns ∧ srtK cmpI Nd.ino ds ∧ (∀ x ∈ ns, hasK Nd.ino N x.ino) ∧ ∀ d ∈ ds, mayC d.size d.l
theorem mayI_doc {ns : List Nm} {ds : List Nd} : mayI ns ds ↔ ns.length ≤ 16 ∧ ds.length = ns.length ∧ okP ds ns ds := by
 unfold mayI mayNs okD okP
 constructor
 ·rintro ⟨⟨h1, h2⟩, h3, h4, h5⟩
  refine ⟨h1, h3, h2, h4, ?_, fun d hd => (h5 d hd).2⟩
  have hn : (ds.map Nd.ino).Nodup := by
   rw [List.Nodup, List.pairwise_map]
   exact h4.imp fun h => by rw [cmpI_lt] at h; omega
  have := pigeon (A := ds.map Nd.ino) (B := ns.map Nm.ino) hn (fun a ha => by
   obtain ⟨d, hd, rfl⟩ := List.mem_map.1 ha
   obtain ⟨x, hx, e⟩ := (h5 d hd).1
   rw [← e]; exact List.mem_map_of_mem hx) (by simp [h3])
  intro x hx
  obtain ⟨d, hd, e⟩ := List.mem_map.1 (this x.ino (List.mem_map_of_mem hx))
  exact ⟨d, hd, e⟩
 ·rintro ⟨h1, h3, h2, h4, h5, h6⟩
  refine ⟨⟨h1, h2⟩, h3, h4, fun d hd => ⟨?_, h6 d hd⟩⟩
  have := pigeon (A := ns.map Nm.ino) (B := ds.map Nd.ino) h2.2.2 (fun a ha => by
   obtain ⟨x, hx, rfl⟩ := List.mem_map.1 ha
   obtain ⟨d, hd, e⟩ := h5 x hx
   rw [← e]; exact List.mem_map_of_mem hd) (by simp [h3])
  obtain ⟨x, hx, e⟩ := List.mem_map.1 (this d.ino (List.mem_map_of_mem hd))
  exact ⟨x, hx, e⟩
end Go.Proofs.Ytofgloiebnppbaa.Av
end
/-! YtofgloiebnppbaaAvExtD -/
section
/- Chapter 11: Write, and the document's own. -/
set_option linter.unusedVariables false
set_option linter.unusedSimpArgs false
set_option maxRecDepth 100000
namespace Go.Proofs.Ytofgloiebnppbaa.Av
open Go Go.RowKit

def cS (o : Option Cont) : Int := (o.getD (0, [])).1
def cL (o : Option Cont) : List Ext := (o.getD (0, [])).2
theorem noIdss_exts (l : List Ext) : noIdss (l.flatMap encE) = true := zfaZ fun x _ => ziuZ x
def ContK (res : Option Cont) (r : AV) (X : AH) : Prop := ∃ w, r = .tup [.agg [I (cS res), w], B res.isSome] ∧ zaZ X 9 w = some ((cL res).flatMap encE, (cL res).length)
theorem ContK.none {res : Option Cont} (h : res = none) {X : AH} : ContK res (.tup [.agg [I 0, nilSl], B false]) X := by
 subst h; exact ⟨_, rfl, rfl⟩
theorem ContK.some {res : Option Cont} {s : Int} {l : List Ext} (h : res = some (s, l)) {X : AH} {w : AV} (hw : zaZ X 9 w = some (l.flatMap encE, l.length)) : ContK res (.tup [.agg [I s, w], B true]) X := by
 subst h; exact ⟨_, rfl, hw⟩
theorem BPure.cont {P : Program} {f : FuncId} {args : List AV} {res : Option Cont} (hb : noIdss args = true) (h : ∃ r X, ContK res r X ∧ BCall P f args [] r X) :
  ∃ R, SV encE 9 (cL res) R ∧ BPure P f args (.tup [.agg [I (cS res), R], B res.isSome]) := by
 obtain ⟨r, X, ⟨w, rfl, hw⟩, h⟩ := h
 obtain ⟨R, hR, fR⟩ := FZ.sv hw (noIdss_exts _)
 obtain ⟨R', ⟨rfl, _⟩, h2⟩ := BPure.FZ (Q := fun R' => R' = .tup [.agg [I (cS res), R], B res.isSome] ∧ True) hb ⟨_, X, ⟨_, FZ.tup (FZs.cons (FZ.agg (FZs.cons (FZ.lit _) (FZs.cons fR FZs.nil))) (FZs.cons (FZ.lit _) FZs.nil)), rfl, trivial⟩, h⟩
 exact ⟨R, hR, h2⟩
theorem encE_put {x : Ext} {k : Nat} {bs : List UInt8} (h : k + bs.length ≤ 8) : encE (putE x k bs) = over (encE x) (1 + k) (encB bs) := by
 have e : over (encE x) (1 + k) (encB bs) = I x.no :: over (encB x.b) k (encB bs) := by
  unfold over encE
  rw [Nat.add_comm 1 k, List.take_succ_cons, show k + 1 + (encB bs).length = (k + (encB bs).length) + 1 by omega, List.drop_succ_cons]
  rfl
 rw [e, over_encB]
 unfold encE
 rw [putE_no, putE_b h]
theorem sl_copy {H : AH} {w s : AV} {l : List Ext} {bs : List UInt8} {x : Ext} {i k m : Nat} {a b : Int} (hw : zaZ H 9 w = some (l.flatMap encE, l.length)) (ho : ownedS w = true) (hx : l[i]? = some x) (hs : zaZ H 1 s = some (encB bs, m)) (hk : k + bs.length ≤ 8) (ha : a = i) (hb : b = k) :
  ∃ p q d H', aixS 9 w (I a) = some p ∧ ashift 1 p = some q ∧ aslA 8 1 H q (some (I b)) none = some d ∧ acp 1 H d s = some (I bs.length, H') ∧ H'.length = H.length ∧ (∀ j, j ∉ idS w → H'[j]? = H[j]?) ∧ zaZ H' 9 w = some ((l.set i (putE x k bs)).flatMap encE, l.length) := by
 subst ha; subst hb
 have hi := (List.getElem?_eq_some_iff.1 hx).1
 obtain ⟨o, off, cap, cells, rfl, h1, h2, h3⟩ := owned_sl hw ho (by omega)
 have hol := (List.getElem?_eq_some_iff.1 h1).1
 have hm : m = bs.length := by have := zcyZ hs; rw [encB_len] at this; omega
 subst hm
 have hmul : i * 9 + 9 ≤ l.length * 9 := by rw [← Nat.succ_mul]; exact Nat.mul_le_mul_right _ hi
 have e1 : min bs.length (8 - k) = bs.length := by omega
 refine ⟨.ptr o (off + i * 9), .ptr o (off + i * 9 + 1), .sl o (off + i * 9 + 1 + k) (8 - k) 1 (.ex (8 - k)), H.set o (some (.cells (over cells (off + (i * 9 + (1 + k))) (encB bs)))), ?_, rfl, ?_, ?_, by simp, fun j hj => List.getElem?_set_ne (by simp [idS] at hj; omega), ?_⟩
 ·simp only [aixS, aint]
  rw [if_pos ⟨by omega, by omega⟩]; simp
 ·simp [aslA, abnd, h1]; omega
 ·unfold acp acp0
  rw [ztZ hs]
  simp only [h1]
  rw [if_pos ⟨trivial, by omega⟩, e1, Nat.mul_one, List.take_of_length_le (by rw [encB_len]; omega)]
  simp only [show off + i * 9 + 1 + k = off + (i * 9 + (1 + k)) by omega]
 ·rw [zbjZ (c := over cells (off + (i * 9 + (1 + k))) (encB bs)) (by simp [hol]) (by rw [over_len (by rw [encB_len]; omega)]; exact h2)]
  rw [over_part h2 (by rw [encB_len]; omega), ← h3, over_flat zbxZ hx (encE_put hk) (by rw [encB_len]; omega)]
theorem extent_Fits_p (pos : Int) (n : Nat) (hn : n ≤ 281474976710656) : BPure Try.prog 33 [I pos, I n] (B (decide (0 ≤ pos ∧ n ≤ 4096 ∧ pos ≤ 1099511627776 - n))) := BPure.flat fun H => extent_Fits_ok (by
 unfold extent_Fits
 by_cases h1 : 0 ≤ pos
 ·by_cases h2 : n ≤ 4096
  ·have : (n : Int) ≤ 4096 := by omega
   simp [h1, h2, this, abI_sub (a := 1099511627776) (b := n) (by omega) (by omega)]
  ·have : ¬ (n : Int) ≤ 4096 := by omega
   simp [h1, h2, this]
 ·simp [h1])
theorem extent_Write_p {size : Int} {l : List Ext} {v bv : AV} {bs : List UInt8} (hv : SV encE 9 l v) (hl : l.length ≤ 1000000) (pos : Int) (hb : SV encU 1 bs bv) (hbl : bs.length ≤ 281474976710656) :
  ∃ R, SV encE 9 (cL (writeC (size, l) pos bs)) R ∧ BPure Try.prog 79 [.agg [I size, v], I pos, bv] (.tup [.agg [I (cS (writeC (size, l) pos bs)), R], B (writeC (size, l) pos bs).isSome]) := by
 refine BPure.cont (by simp [noIdss, noIds, hv.1, hb.1]) (extent_Write_ok ?_)
 unfold extent_Write
 simp [oneA_sv hv, rdCells]
 refine bP_pure (zjfZ hv (by omega)) ?_
 by_cases h1 : mayC size l
 ·simp [h1, hb.len]
  refine bP_pure (extent_Fits_p pos bs.length hbl) ?_
  by_cases h2 : 0 ≤ pos ∧ bs.length ≤ 4096 ∧ pos ≤ 1099511627776 - bs.length
  ·have hw : writeC (size, l) pos bs = some (if bs = [] then (size, l) else (max size (pos + bs.length), writeL l pos bs)) := if_pos ⟨h1, h2⟩
   obtain ⟨g1, g2, g3⟩ := h2
   simp [g1, g2, g3]
   obtain ⟨r, H2, ⟨w, rfl, a2, a3, a4, a5⟩, a1⟩ := copied_c (size := size) (hv.2 [some (.cells [I size, v]), some (.cells [I 0, nilSl])]) (oneA_sv hv) (by omega)
   refine bC_of a1 ?_
   have c0 := a4.cells (o := 0) (x := some (.cells [I size, v])) rfl
   have c1 := a4.cells (o := 1) (x := some (.cells [I 0, nilSl])) rfl
   have hl2 := a4.1
   simp only [List.length_cons, List.length_nil] at hl2
   have hwo := zbpZ a2
   have id0 : ∀ j, j < 2 → j ∉ idS w := fun j hj h => by have := a5 j h; simp at this; omega
   rw [ast_ptr (n := 2) (off := 0) (x := .agg [I size, w]) (xs := [I size, w]) (by simp [hwo]) c0 rfl (by simp)]
   simp
   by_cases hbs : bs = []
   ·subst hbs
    simp [show 0 < H2.length by omega]
    rw [ast_ptr (n := 2) (off := 0) (x := .agg [I size, w]) (xs := [I size, w]) (cs := [I 0, nilSl]) (by simp [hwo]) (by rw [List.getElem?_set_ne (by omega)]; exact c1) rfl (by simp)]
    simp [show 1 < H2.length by omega]
    exact ContK.some hw (zbZ a3 fun i hi => by
     have h2 : 2 ≤ i := Nat.le_of_not_lt fun h => id0 i h hi
     rw [List.getElem?_set_ne (by omega), List.getElem?_set_ne (by omega)])
   ·have hlen : 0 < bs.length := List.length_pos_iff.2 hbs
    rw [if_neg hbs] at hw
    simp [hbs]
    obtain ⟨pv, hpv, pq⟩ := off_Parts_p ⟨pos, bs.length⟩ (unit := 8) (by omega)
    refine bP_pure pq ?_
    have hP : partsS ⟨pos, bs.length⟩ 8 = cutsS bs.length pos bs.length 8 := if_pos ⟨by simp only [MaySpan, May]; omega, by simp only; omega, by omega⟩
    generalize partsS ⟨pos, (bs.length : Int)⟩ 8 = parts at hpv hP
    simp [hpv.len]
    have hs0 := okL_srt h1.2.2
    refine zmbZ (fun n x1 x2 x3 x6 x33 x34 x35 H => ∃ (j d : Nat) (w : AV), j + n = parts.length ∧ x1 = I pos ∧ x2 = bv ∧ x3 = .ptr 0 0 ∧ x6 = .ptr 1 0 ∧ x33 = pv ∧ x34 = I parts.length ∧ x35 = I j ∧ H[0]? = some (some (.cells [I size, w])) ∧ H[1]? = some (some (.cells [I 0, nilSl])) ∧
     zaZ H 9 w = some ((writeL l pos (bs.take d)).flatMap encE, (writeL l pos (bs.take d)).length) ∧ ownedS w = true ∧ (∀ j, j < 2 → j ∉ idS w) ∧ d ≤ bs.length ∧ parts.drop j = cutsS (bs.length - d) (pos + d) (bs.length - d : Nat) 8 ∧ j ≤ d) ?_ parts.length
     ⟨0, 0, w, by simp, rfl, rfl, rfl, rfl, rfl, rfl, rfl, List.getElem?_set_self (by omega), (List.getElem?_set_ne (by omega)).trans c1, ?_, a2, id0, by omega, by simpa using hP, by omega⟩
    ·rintro n x1 x2 x3 x6 x33 x34 x35 H R hR ⟨j, d, w, hj, rfl, rfl, rfl, rfl, rfl, rfl, rfl, k0, k1, kw, ko, kid, kd, kp, kj⟩
     unfold zhcZ
     by_cases hd : d < bs.length
     ·rw [cutsS_step (by omega) (by omega) (by omega) (by omega)] at kp
      obtain ⟨m, hm⟩ : ∃ m : Nat, (m : Int) = min ((bs.length - d : Nat) : Int) (8 - (pos + d) % 8) := ⟨(min ((bs.length - d : Nat) : Int) (8 - (pos + d) % 8)).toNat, by omega⟩
      rw [← hm] at kp
      have hpj : parts[j]? = some ⟨pos + d, m⟩ := by
       have := congrArg (fun q => q[0]?) kp
       simpa using this
      have hjl := (List.getElem?_eq_some_iff.1 hpj).1
      simp [hjl, hpv.idx encSp_len hpj rfl, encSp, rdCells, ast, abI_quo (a := pos + d) (b := 8) (by omega) (by omega) (by omega)]
      have g := Grew.app H [some (.cells [I (pos + d), I m])]
      have hlL := wr_len (bs := bs.take d) (l := l) (p := pos)
      have htl : (bs.take d).length = d := by rw [List.length_take]; omega
      have hws := wr_srt (bs := bs.take d) hs0 pos
      generalize hL : writeL l pos (bs.take d) = L at kw hlL hws
      have hH0 := (List.getElem?_eq_some_iff.1 k0).1
      have hH1 := (List.getElem?_eq_some_iff.1 k1).1
      obtain ⟨H11, ⟨w', q1, q2, q3, q4, q5, q6, q7⟩, q8⟩ := extent_need_c' (no := (pos + d) / 8) (g.cells k0) (g.slice kw) ko (kid 0 (by omega)) hws (by omega)
      refine bC_of q8 ?_
      have hid' : ∀ i, i < H.length → i ∉ idS w → i ∉ idS w' := fun i h1 h2 h3 => (q7 i h3).elim h2 (fun h => by simp at h; omega)
      have z1 : H11[1]? = some (some (.cells [I 0, nilSl])) := by
       rw [q6 1 (by simp; omega) (by omega) (kid 1 (by omega))]; exact g.cells k1
      have z2 : H11[H.length]? = some (some (.cells [I (pos + d), I m])) := by
       rw [q6 H.length (by simp) (by omega) (fun h => by have := zoZ kw _ h; omega)]; simp
      obtain ⟨x, hx, hxn⟩ := need_get hws ((pos + d) / 8)
      obtain ⟨r24, s1, s2, -, -, s3⟩ := aslS_spec (H := H11) (hb.bytes H11) (lo := some (I d)) (hi := none) (l := d) (k := bs.length) (by simp [abnd]) rfl kd (Nat.le_refl _)
      obtain ⟨r27, t1, t2, -, -, -⟩ := aslS_spec (H := H11) s2 (lo := none) (hi := some (I m)) (l := 0) (k := m) rfl (by simp [abnd]) (by omega) (by omega)
      have t3 : zaZ H11 1 r27 = some (encB ((bs.drop d).take m), m) := by
       rw [t2]
       simp [encB_take, encB_drop]
       rw [List.take_of_length_le (l := bs.drop d) (by simp)]
      have hbl2 : ((bs.drop d).take m).length = m := by rw [List.length_take, List.length_drop]; omega
      obtain ⟨p, q, dd, H29, u1, u2, u3, u4, u5, u6, u7⟩ := sl_copy (a := posL L ((pos + d) / 8)) (b := pos + d - (pos + d) / 8 * 8) (k := ((pos + d) % 8).toNat) q2 q3 hx t3 (by omega) rfl (by omega)
      rw [hbl2] at u4
      simp [q1, z2, u1, u2, abI_mul (a := (pos + d) / 8) (b := 8) (by omega) (by omega), abI_sub (a := pos + d) (b := (pos + d) / 8 * 8) (by omega) (by omega), u3, abI_sub (a := pos + d) (b := pos) (by omega) (by omega), show pos + (d : Int) - pos = d by omega, s1, t1, u4, abI_add (a := j) (b := 1) (by omega) (by omega)]
      rw [put_set (need_srt hws _) hx, hxn] at u7
      have hnp : putL (needL L ((pos + d) / 8)) ((pos + d) / 8) ((pos + d) % 8).toNat ((bs.drop d).take m) = writeL l pos (bs.take (d + m)) := by
       show needPut L (pos + d) _ = _
       rw [wr_one hws (by omega) (fun h => by rw [h] at hbl2; simp at hbl2; omega), ← hL, List.take_add, wr_app, htl]
      rw [hnp] at u7
      have hll : (needL L ((pos + d) / 8)).length = (writeL l pos (bs.take (d + m))).length := by rw [← hnp]; simp [putL]
      rw [hll] at u7
      refine hR (n - 1) _ _ _ _ _ _ _ _ (by omega) ⟨j + 1, d + m, w', by omega, rfl, rfl, rfl, rfl, rfl, rfl, rfl, ?_, ?_, u7, q3, fun i hi => hid' i (by omega) (kid i hi), by omega, ?_, by omega⟩
      ·rw [u6 0 (hid' 0 (by omega) (kid 0 (by omega)))]; exact q1
      ·rw [u6 1 (hid' 1 (by omega) (kid 1 (by omega)))]; exact z1
      ·have := congrArg List.tail kp
       rw [List.tail_drop] at this
       rw [this, List.tail_cons, show pos + (d : Int) + m = pos + ((d + m : Nat) : Int) by omega, show ((bs.length - d : Nat) : Int) - m = ((bs.length - (d + m) : Nat) : Int) by omega]
       rfl
     ·have hd' : d = bs.length := by omega
      subst hd'
      rw [cutsS_stop (by omega)] at kp
      have hjl : ¬ j < parts.length := fun h => by
       have := congrArg List.length kp
       rw [List.length_drop] at this; simp at this; omega
      rw [List.take_length] at kw
      have hH0 := (List.getElem?_eq_some_iff.1 k0).1
      have hH1 := (List.getElem?_eq_some_iff.1 k1).1
      have hko := zbpZ ko
      have hmx : max (pos + (bs.length : Int)) size = max size (pos + bs.length) := by omega
      simp [hjl, k0, hb.len, abI_add (a := pos) (b := bs.length) (by omega) (by omega), hmx]
      rw [ast_ptr (n := 1) (off := 0) (xs := [I (max size (pos + bs.length))]) (cs := [I size, w]) rfl k0 rfl (by simp)]
      simp [hH0, rdCells]
      rw [ast_ptr (n := 2) (off := 0) (xs := [I (max size (pos + bs.length)), w]) (cs := [I 0, nilSl]) (by simp [hko]) ((List.getElem?_set_ne (by omega)).trans k1) rfl (by simp)]
      simp [hH1]
      exact ContK.some hw (zbZ kw fun i hi => by
       have h2 : 2 ≤ i := Nat.le_of_not_lt fun h => kid i h hi
       rw [List.getElem?_set_ne (by omega), List.getElem?_set_ne (by omega)])
    ·simp only [List.take_zero, writeL]
     exact zbZ a3 fun i hi => by
      have h2 : 2 ≤ i := Nat.le_of_not_lt fun h => id0 i h hi
      rw [List.getElem?_set_ne (by omega)]
  ·have hn : writeC (size, l) pos bs = none := if_neg (fun h => h2 h.2)
   have h2' : ¬ (0 ≤ pos ∧ bs.length ≤ 4096 ∧ pos ≤ 1099511627776 - bs.length) := h2
   simp [h2', ast]
   exact ContK.none hn
 ·have hn : writeC (size, l) pos bs = none := if_neg (fun h => h1 h.1)
  simp [h1, ast]
  exact ContK.none hn
end Go.Proofs.Ytofgloiebnppbaa.Av
end
/-! YtofgloiebnppbaaAvExtE -/
section
/- Chapter 11: the document's own writing. -/
set_option linter.unusedVariables false
set_option linter.unusedSimpArgs false
set_option maxRecDepth 100000
namespace Go.Proofs.Ytofgloiebnppbaa.Av
open Go Go.RowKit

theorem sl_no {H : AH} {w : AV} {l : List Ext} {n k : Nat} {a : Int} {x : Ext} (hw : zaZ H 9 w = some (l.flatMap encE, n)) (hx : l[k]? = some x) (ha : a = k) :
  ∃ p q, aixS 9 w (I a) = some p ∧ ashift 0 p = some q ∧ ald false 1 H q = some (I x.no) ∧ ald true 9 H p = some (.agg (encE x)) := by
 have hk := (List.getElem?_eq_some_iff.1 hx).1
 have hn : n = l.length := by have h1 := zcyZ hw; have h2 := flatMap_len zbxZ l; omega
 obtain ⟨p, c, h1, h2, h3, h4⟩ := aixS_spec hw ha (show k < n by omega)
 obtain ⟨q, h5, h6⟩ := ashift_at (k := 0) h2
 have hc : c.take 9 = encE x := by
  rw [h3, zhtZ zbxZ hx, List.take_append_of_le_length (by rw [zbxZ]; omega), List.take_of_length_le (by rw [zbxZ]; omega)]
 refine ⟨p, q, h1, h5, ?_, ?_⟩
 ·rw [ald_at h6 (by omega) (by simp; omega), zbiZ]
  have := congrArg (fun l => l[0]?) hc
  simp only [List.drop_zero] at this ⊢
  rw [List.getElem?_take_of_lt (by omega)] at this
  exact this
 ·rw [ald_at h2 (by omega) h4, rdCells_agg (by omega), List.drop_zero, hc]
end Go.Proofs.Ytofgloiebnppbaa.Av
end
/-! YtofgloiebnppbaaAvIq -/
section
/- Chapter 12: what is found, how much is there, which images are one. -/
set_option linter.unusedVariables false
set_option linter.unusedSimpArgs false
set_option maxRecDepth 100000
namespace Go.Proofs.Ytofgloiebnppbaa.Av
open Go Go.RowKit

section
variable {κ α : Type} [DecidableEq κ] {c : κ → κ → Int} {key : α → κ}
def atK (key : α → κ) (l : List α) (k : κ) : Option α := l.find? (fun x => decide (key x = k))
theorem atK_has {l : List α} {k : κ} (h : hasK key l k) : ∃ x, atK key l k = some x ∧ x ∈ l ∧ key x = k := by
 obtain ⟨y, hy, e⟩ := h
 unfold atK
 cases hf : l.find? (fun x => decide (key x = k)) with
 | none => rw [List.find?_eq_none] at hf; have := hf y hy; simp [e] at this
 | some x => exact ⟨x, rfl, List.mem_of_find?_eq_some hf, by simpa using List.find?_some hf⟩
theorem atK_none {l : List α} {k : κ} (h : ¬ hasK key l k) : atK key l k = none := by
 unfold atK
 rw [List.find?_eq_none]
 intro x hx
 simp only [decide_eq_true_eq]
 exact fun e => h ⟨x, hx, e⟩
theorem atK_eq (hc : KO c) {l : List α} (hs : srtK c key l) {x : α} (hx : x ∈ l) : atK key l (key x) = some x := by
 obtain ⟨y, h1, h2, h3⟩ := atK_has (l := l) (k := key x) ⟨x, hx, rfl⟩
 rw [h1, srtK_uniq hc hs h2 hx h3]
theorem posK_atK (hc : KO c) {l : List α} (hs : srtK c key l) {k : κ} (h : hasK key l k) : ∃ x, l[posK c key l k]? = some x ∧ atK key l k = some x ∧ key x = k := by
 obtain ⟨x, h1, rfl⟩ := (hasK_iff hc hs).1 h
 exact ⟨x, h1, atK_eq hc hs (List.mem_of_getElem? h1), rfl⟩
end
theorem srtK_map {l : List NdV} : srtK cmpI Nd.ino (l.map NdV.nd) ↔ srtK cmpI NdV.ino l := by
 unfold srtK; rw [List.pairwise_map]
theorem hasK_map {l : List NdV} {k : Int} : hasK Nd.ino (l.map NdV.nd) k ↔ hasK NdV.ino l k := by
 constructor
 ·rintro ⟨x, hx, e⟩
  obtain ⟨y, hy, rfl⟩ := List.mem_map.1 hx
  exact ⟨y, hy, e⟩
 ·rintro ⟨y, hy, e⟩
  exact ⟨y.nd, List.mem_map_of_mem hy, e⟩
theorem posK_map {l : List NdV} {k : Int} : posK cmpI Nd.ino (l.map NdV.nd) k = posK cmpI NdV.ino l k := by
 unfold posK
 rw [List.takeWhile_map, List.length_map]
 rfl
theorem named_p {ns : List Nm} {a b : AV} {dv : List NdV} (ha : SV encN 2 ns a) (hb : SV encD 3 dv b) (hs : srtK cmpN Nm.name ns) (hl : ns.length ≤ 281474976710656) (s : List UInt8) :
  BPure Try.prog 44 [.agg [a, b], S (bstr s)] (.tup [I (posK cmpN Nm.name ns s), B (decide (hasK Nm.name ns s))]) := BPure.val (by simp [noIdss, noIds, ha.1, hb.1]) rfl (image_named_ok (by
 unfold image_named
 have oa := SV.oneA ha
 have ob := SV.oneA hb
 simp [oa, ob]
 refine bP_pure (srch_N ha hs hl s) ?_
 simp))
theorem node_p {ns : List Nm} {a b : AV} {dv : List NdV} (ha : SV encN 2 ns a) (hb : SV encD 3 dv b) (hs : srtK cmpI NdV.ino dv) (hl : dv.length ≤ 281474976710656) (no : Int) :
  BPure Try.prog 74 [.agg [a, b], I no] (.tup [I (posK cmpI NdV.ino dv no), B (decide (hasK NdV.ino dv no))]) := BPure.val (by simp [noIdss, noIds, ha.1, hb.1]) rfl (image_node_ok (by
 unfold image_node
 have oa := SV.oneA ha
 have ob := SV.oneA hb
 simp [oa, ob]
 refine bP_pure (srch_D hb hs hl no) ?_
 simp))
/-! contents, copied -/
theorem cloneE_p {l : List Ext} {v : AV} (hv : SV encE 9 l v) (hl : l.length ≤ 1000000000) : ∃ R, SV encE 9 l R ∧ BPure Try.prog 84 [v] R := by
 obtain ⟨r, X, ⟨-, h1, -, -⟩, h2⟩ := ext_Clone_c (hv.2 []) hl
 exact BPure.sl (by simp [noIdss, hv.1]) (zfaZ fun x _ => ziuZ x) ⟨r, X, h1, h2⟩
theorem copied_p {l : List Ext} {v : AV} {size : Int} (hv : SV encE 9 l v) (hl : l.length ≤ 1000000000) : ∃ R, SV encE 9 l R ∧ BPure Try.prog 60 [.agg [I size, v]] (.agg [I size, R]) := by
 obtain ⟨R, hR, hc⟩ := cloneE_p hv hl
 refine ⟨R, hR, BPure.val (by simp [noIdss, noIds, hv.1]) (by simp [noIds, noIdss, hR.1]) (image_copied_ok ?_)⟩
 unfold image_copied
 have o1 := SV.oneA hv
 have o2 := SV.oneA hR
 simp [o1]
 refine bP_of hc ?_
 simp [o2, zdoZ o2, ast, splice, rdCells]
/-! what is found -/
def nameI (ns : List Nm) (s : List UInt8) : Int := match atK Nm.name ns s with
 | some x => x.ino
 | none => 0
def hasI (ns : List Nm) (ds : List Nd) (s : List UInt8) : Prop := mayI ns ds ∧ hasK Nm.name ns s
instance (ns : List Nm) (ds : List Nd) (s : List UInt8) : Decidable (hasI ns ds s) := by unfold hasI; infer_instance
def findI (ns : List Nm) (ds : List Nd) (s : List UInt8) : Int := if hasI ns ds s then nameI ns s else 0
theorem Find_p {ns : List Nm} {ds : List Nd} {v : AV} (hv : ImV ns ds v) (hb : Sm ns ds) (s : List UInt8) : BPure Try.prog 18 [v, S (bstr s)] (.tup [I (findI ns ds s), B (decide (hasI ns ds s))]) := BPure.val (by have := hv.noIds; simpa [noIdss, noIds] using this) rfl (image_Find_ok (by
 have hv0 := hv
 obtain ⟨a, b, dv, rfl, ha, hbv, rfl⟩ := hv
 unfold image_Find
 have oa := SV.oneA ha
 have ob := SV.oneA hbv
 simp [oa, ob, rdCells]
 refine bP_pure (May_p hv0 hb) ?_
 by_cases hm : mayI ns (dv.map NdV.nd)
 ·simp [hm, rdCells]
  refine bC_of (named_p ha hbv hm.1.2.2.1 (by have := hb.1; omega) s _) ?_
  by_cases hh : hasK Nm.name ns s
  ·obtain ⟨x, h1, h2, h3⟩ := posK_atK koN hm.1.2.2.1 hh
   have e : findI ns (dv.map NdV.nd) s = x.ino := by unfold findI nameI; rw [if_pos ⟨hm, hh⟩, h2]
   have e2 : hasI ns (dv.map NdV.nd) s := ⟨hm, hh⟩
   simp [hh, ha.idx encN_len h1 rfl, encN_1, e, e2]
  ·have e2 : ¬ hasI ns (dv.map NdV.nd) s := fun h => hh h.2
   have e : findI ns (dv.map NdV.nd) s = 0 := if_neg e2
   simp [hh, e, e2]
 ·have e2 : ¬ hasI ns (dv.map NdV.nd) s := fun h => hm h.1
  have e : findI ns (dv.map NdV.nd) s = 0 := if_neg e2
  simp [hm, e, e2]))
end Go.Proofs.Ytofgloiebnppbaa.Av
end
/-! YtofgloiebnppbaaAvIr -/
section
/- Chapter 12: a file's content, how many blocks there are, which images are one. -/
set_option linter.unusedVariables false
set_option linter.unusedSimpArgs false
set_option maxRecDepth 100000
namespace Go.Proofs.Ytofgloiebnppbaa.Av
open Go Go.RowKit

def hasG (ns : List Nm) (ds : List Nd) (no : Int) : Prop := mayI ns ds ∧ hasK Nd.ino ds no
instance (ns : List Nm) (ds : List Nd) (no : Int) : Decidable (hasG ns ds no) := by unfold hasG; infer_instance
def getN (ns : List Nm) (ds : List Nd) (no : Int) : Nd := if hasG ns ds no then (atK Nd.ino ds no).getD ⟨0, 0, []⟩ else ⟨0, 0, []⟩
theorem atK_map {dv : List NdV} {no : Int} {x : NdV} (h : atK NdV.ino dv no = some x) : atK Nd.ino (dv.map NdV.nd) no = some x.nd := by
 unfold atK at h ⊢
 rw [List.find?_map]
 show Option.map NdV.nd (dv.find? fun x => decide (x.nd.ino = no)) = _
 rw [show (dv.find? fun x => decide (x.nd.ino = no)) = some x from h]
 rfl
theorem Get_p {ns : List Nm} {ds : List Nd} {v : AV} (hv : ImV ns ds v) (hb : Sm ns ds) (no : Int) : ∃ R, SV encE 9 (getN ns ds no).l R ∧ BPure Try.prog 49 [v, I no] (.tup [.agg [I (getN ns ds no).size, R], B (decide (hasG ns ds no))]) := by
 have hv0 := hv
 obtain ⟨a, b, dv, rfl, ha, hbv, rfl⟩ := hv
 have oa := SV.oneA ha
 have ob := SV.oneA hbv
 by_cases hh : hasG ns (dv.map NdV.nd) no
 ·have hm := hh.1
  have hs := srtK_map.1 hm.2.2.1
  have hk := hasK_map.1 hh.2
  obtain ⟨x, h1, h2, h3⟩ := posK_atK koI hs hk
  have e : getN ns (dv.map NdV.nd) no = x.nd := by unfold getN; rw [if_pos hh, atK_map h2]; rfl
  rw [e]
  obtain ⟨R, hR, hc⟩ := copied_p (size := x.nd.size) x.h (by have := hb.2.2.2 x.nd (List.mem_map_of_mem (List.mem_of_getElem? h1)); omega)
  refine ⟨R, hR, BPure.val (by have := hv0.noIds; simpa [noIdss, noIds] using this) (by simp [noIds, noIdss, hR.1]) (image_Get_ok ?_)⟩
  unfold image_Get
  simp [oa, ob, rdCells]
  refine bP_pure (May_p hv0 hb) ?_
  simp [hm, rdCells]
  refine bC_of (node_p ha hbv hs (by have := hb.2.1; simp at this; omega) no _) ?_
  simp [hk, hbv.idx encD_len h1 rfl, encD_c]
  refine bP_pure hc ?_
  have o2 := SV.oneA hR
  simp [o2, zdoZ o2, ast, splice, rdCells, hh]
 ·have e : getN ns (dv.map NdV.nd) no = ⟨0, 0, []⟩ := if_neg hh
  rw [e]
  refine ⟨nilSl, SV.nil, BPure.val (by have := hv0.noIds; simpa [noIdss, noIds] using this) rfl (image_Get_ok ?_)⟩
  unfold image_Get
  simp [oa, ob, rdCells]
  refine bP_pure (May_p hv0 hb) ?_
  by_cases hm : mayI ns (dv.map NdV.nd)
  ·have hs := srtK_map.1 hm.2.2.1
   have hk : ¬ hasK NdV.ino dv no := fun h => hh ⟨hm, hasK_map.2 h⟩
   simp [hm, rdCells]
   refine bC_of (node_p ha hbv hs (by have := hb.2.1; simp at this; omega) no _) ?_
   simp [hk, ast, splice, rdCells, hh]
  ·simp [hm, ast, splice, rdCells, hh]
/-! blocks, counted -/
def sumL (ds : List Nd) : Nat := (ds.map fun d => d.l.length).sum
def usedI (ns : List Nm) (ds : List Nd) : Int := if mayI ns ds then sumL ds else 0
theorem sumL_snoc {ds : List Nd} {d : Nd} : sumL (ds ++ [d]) = sumL ds + d.l.length := by simp [sumL]
theorem sumL_le {N : Nat} : ∀ {ds : List Nd}, (∀ d ∈ ds, d.l.length ≤ N) → sumL ds ≤ ds.length * N
 | [], _ => by simp [sumL]
 | d :: ds, h => by
  have ih := sumL_le (ds := ds) fun x hx => h x (by simp [hx])
  have := h d (by simp)
  unfold sumL at ih ⊢
  rw [List.map_cons, List.sum_cons, List.length_cons, Nat.succ_mul]
  omega
theorem sumL_take {ds : List Nd} (h : ∀ d ∈ ds, d.l.length ≤ 1000000) (hn : ds.length ≤ 100000) (k : Nat) : sumL (ds.take k) ≤ 100000000000 := by
 have h1 := sumL_le (N := 1000000) (ds := ds.take k) fun d hd => h d (List.mem_of_mem_take hd)
 have : (ds.take k).length ≤ 100000 := by rw [List.length_take]; omega
 have := Nat.mul_le_mul_right 1000000 this
 omega
theorem Used_p {ns : List Nm} {ds : List Nd} {v : AV} (hv : ImV ns ds v) (hb : Sm ns ds) : BPure Try.prog 42 [v] (I (usedI ns ds)) := BPure.val hv.noIds rfl (image_Used_ok (by
 have hv0 := hv
 obtain ⟨a, b, dv, rfl, ha, hbv, rfl⟩ := hv
 have oa := SV.oneA ha
 have ob := SV.oneA hbv
 have b2 := hb.2.1
 unfold image_Used
 simp [oa, ob, rdCells]
 refine bP_pure (May_p hv0 hb) ?_
 by_cases hm : mayI ns (dv.map NdV.nd)
 ·simp [hm, hbv.len]
  have e : usedI ns (dv.map NdV.nd) = sumL (dv.map NdV.nd) := if_pos hm
  rw [e]
  refine image_Used_L7_rule (fun n x3 x10 x11 x12 H' => ∃ k : Nat, k + n = dv.length ∧ x3 = I (sumL ((dv.map NdV.nd).take k)) ∧ x10 = b ∧ x11 = I dv.length ∧ x12 = I k) ?_ dv.length ⟨0, by omega, rfl, rfl, rfl, rfl⟩
  rintro n x3 x10 x11 x12 H' R hR ⟨k, hk, rfl, rfl, rfl, rfl⟩
  unfold zjiZ
  rw [List.length_map] at b2
  rcases Nat.lt_or_ge k dv.length with h | h
  ·have hx := List.getElem?_eq_getElem h
   generalize dv[k] = d at hx
   have hx2 : (dv.map NdV.nd)[k]? = some d.nd := by rw [List.getElem?_map, hx]; rfl
   have h1 := sumL_take hb.2.2.2 (by simpa using b2) k
   have h2 := hb.2.2.2 d.nd (List.mem_of_getElem? hx2)
   have ea : ast 3 (H' ++ [some (.cells [I 0, I 0, nilSl])]) (.ptr H'.length 0) (.agg (encD d)) = some (H' ++ [some (.cells (encD d))]) := by
    have := SV.oneA d.h
    simp [ast, encD, splice, this]
   simp [h, hbv.idx encD_len hx rfl, rdh_D, ea]
   simp [encD, d.h.len, abI_add (a := k) (b := 1) (by omega) (by omega), abI_add (a := (sumL (List.take k (dv.map NdV.nd)) : Int)) (b := d.nd.l.length) (by omega) (by omega)]
   exact hR (n - 1) _ _ _ _ _ (by omega) ⟨k + 1, by omega, by rw [take_snoc hx2, sumL_snoc]; simp, rfl, rfl, by simp⟩
  ·have : (dv.map NdV.nd).take k = dv.map NdV.nd := List.take_of_length_le (by simp; omega)
   simp [show ¬ k < dv.length by omega, this]
 ·have e : usedI ns (dv.map NdV.nd) = 0 := if_neg hm
  simp [hm, e]))
/-! one image -/
def sameI (ns : List Nm) (ds : List Nd) (ms : List Nm) (es : List Nd) : Prop := ns = ms ∧ ds = es
instance (ns : List Nm) (ds : List Nd) (ms : List Nm) (es : List Nd) : Decidable (sameI ns ds ms es) := by unfold sameI; infer_instance
end Go.Proofs.Ytofgloiebnppbaa.Av
end
/-! YtofgloiebnppbaaAvIh -/
section
/- Chapter 12: images that are changed: a name or a file more, or less. -/
set_option linter.unusedVariables false
set_option linter.unusedSimpArgs false
set_option maxRecDepth 100000
namespace Go.Proofs.Ytofgloiebnppbaa.Av
open Go Go.RowKit

theorem own_at {α : Type} {enc : α → List AV} {sz : Nat} (hsz : ∀ x, (enc x).length = sz) (h0 : 0 < sz) {H : AH} {v : AV} {l : List α} {k : Nat} {x : α} (hs : zaZ H sz v = some (l.flatMap enc, l.length)) (ho : ownedS v = true) (hx : l[k]? = some x) :
  ∃ o off cells, aixS sz v (I k) = some (.ptr o off) ∧ o ∈ idS v ∧ H[o]? = some (some (.cells cells)) ∧ off + sz ≤ cells.length ∧ (∀ j, j < sz → cells[off + j]? = (enc x)[j]?) ∧
   ∀ y q xs, enc y = over (enc x) q xs → q + xs.length ≤ sz → zaZ (H.set o (some (.cells (splice cells (off + q) xs)))) sz v = some ((l.set k y).flatMap enc, l.length) := by
 have hk := (List.getElem?_eq_some_iff.1 hx).1
 obtain ⟨o, off, cap, cells, rfl, h1, h2, h3⟩ := owned_sl hs ho (by omega)
 have hol := (List.getElem?_eq_some_iff.1 h1).1
 have hmul : (k + 1) * sz ≤ l.length * sz := Nat.mul_le_mul_right _ (by omega)
 have hms : (k + 1) * sz = k * sz + sz := Nat.succ_mul _ _
 refine ⟨o, off + k * sz, cells, ?_, by simp [idS], h1, by omega, fun j hj => ?_, fun y q xs hy hq => ?_⟩
 ·simp [aixS, aint]
  omega
 ·have e : (l.flatMap enc)[k * sz + j]? = cells[off + k * sz + j]? := by
   rw [h3, List.getElem?_take, if_pos (by omega), List.getElem?_drop]; congr 1; omega
  rw [← e]
  have e2 := flat_drop hsz l k
  have e3 : (l.flatMap enc)[k * sz + j]? = ((l.flatMap enc).drop (k * sz))[j]? := by rw [List.getElem?_drop]
  rw [e3, e2, List.drop_eq_getElem_cons hk, (List.getElem?_eq_some_iff.1 hx).2, List.flatMap_cons, List.getElem?_append_left (by rw [hsz]; exact hj)]
 ·have hxs : off + k * sz + q + xs.length ≤ cells.length := by omega
  rw [splice_eq _ _ _ hxs]
  show zaZ (H.set o (some (.cells (over cells (off + k * sz + q) xs)))) sz _ = _
  rw [Nat.add_assoc, zbjZ (c := over cells (off + (k * sz + q)) xs) (by simp [hol]) (by rw [over_len (by omega)]; exact h2)]
  rw [over_part h2 (by omega), ← h3, over_flat hsz hx hy hq]
theorem size_nm (w : World) : (Go.sizeOf 91).run Try.prog w = .ok 2 w := zcdZ (by kernel_rfl)
theorem size_nd (w : World) : (Go.sizeOf 114).run Try.prog w = .ok 3 w := zcdZ (by kernel_rfl)
theorem ov_nm {H : AH} {oa offa la ea ka ob offb lb eb kb : Nat} {ca cb : List AV} (ha : H[oa]? = some (some (.cells ca))) (hbo : H[ob]? = some (some (.cells cb))) (hne : oa ≠ ob) (hka : ka ≠ 0) (hkb : kb ≠ 0) (hcb : cb ≠ []) :
  ExtR Try.prog 90 [.sl oa offa la ea (.ex ka), .sl ob offb lb eb (.ex kb)] H (B false) :=
 ExtR.apart (tS := 39) (tR := 4) (fn := Try.f90) (by kernel_rfl) (by kernel_rfl) (by kernel_rfl) (by kernel_rfl) (by kernel_rfl) (by kernel_rfl) size_nm ha hbo hne hka hkb hcb
theorem ov_nd {H : AH} {oa offa la ea ka ob offb lb eb kb : Nat} {ca cb : List AV} (ha : H[oa]? = some (some (.cells ca))) (hbo : H[ob]? = some (some (.cells cb))) (hne : oa ≠ ob) (hka : ka ≠ 0) (hkb : kb ≠ 0) (hcb : cb ≠ []) :
  ExtR Try.prog 92 [.sl oa offa la ea (.ex ka), .sl ob offb lb eb (.ex kb)] H (B false) :=
 ExtR.apart (tS := 40) (tR := 4) (fn := Try.f92) (by kernel_rfl) (by kernel_rfl) (by kernel_rfl) (by kernel_rfl) (by kernel_rfl) (by kernel_rfl) size_nd ha hbo hne hka hkb hcb
def zN : List AV := [S ⟨#[]⟩, I 0]
def zD : List AV := [I 0, I 0, nilSl]
theorem insN_c {H : AH} {s : AV} {l : List Nm} {i oj : Nat} {x : Nm} (hs : zaZ H 2 s = some (l.flatMap encN, l.length)) (ho : ownedS s = true) (hc : capOk s l.length) (hi : i ≤ l.length) (hn : l.length ≤ 1000000) (hv : H[oj]? = some (some (.cells (encN x)))) (hne : oj ∉ idS s) :
  ∃ r H', InsG 2 H s ((l.take i ++ x :: l.drop i).flatMap encN) l.length r H' ∧ BCall Try.prog 77 [s, I i, .sl oj 0 1 2 (.ex 1)] H r H' := by
 have := ins_ok (P := Try.prog) (sz := 2) (bytes := 24) (zc := zN) (f := 77) (ov := 90) (rot := 91) (by omega) rfl
  (fun a0 a1 a2 H K h => zeyZ h) hs ho hc hi hn (by omega) hv (encN_len x) hne (fun m => by simp [encN, Bels, Bel]) (fun h1 h2 h3 h4 => ov_nm hv h1 h2 (by omega) h3 h4)
 rwa [flat_take encN_len, flat_drop encN_len, List.append_assoc, show encN x ++ (l.drop i).flatMap encN = (x :: l.drop i).flatMap encN from rfl, ← List.flatMap_append] at this
theorem insD_c {H : AH} {s : AV} {l : List NdV} {i oj : Nat} {x : NdV} (hs : zaZ H 3 s = some (l.flatMap encD, l.length)) (ho : ownedS s = true) (hc : capOk s l.length) (hi : i ≤ l.length) (hn : l.length ≤ 1000000) (hv : H[oj]? = some (some (.cells (encD x)))) (hne : oj ∉ idS s) :
  ∃ r H', InsG 3 H s ((l.take i ++ x :: l.drop i).flatMap encD) l.length r H' ∧ BCall Try.prog 78 [s, I i, .sl oj 0 1 3 (.ex 1)] H r H' := by
 have := ins_ok (P := Try.prog) (sz := 3) (bytes := 40) (zc := zD) (f := 78) (ov := 92) (rot := 93) (by omega) rfl
  (fun a0 a1 a2 H K h => zfwZ h) hs ho hc hi hn (by omega) hv (encD_len x) hne (fun m => zgtZ (noIdss_encD x)) (fun h1 h2 h3 h4 => ov_nd hv h1 h2 (by omega) h3 h4)
 rwa [flat_take encD_len, flat_drop encD_len, List.append_assoc, show encD x ++ (l.drop i).flatMap encD = (x :: l.drop i).flatMap encD from rfl, ← List.flatMap_append] at this
theorem delN_c {H : AH} {s : AV} {l : List Nm} {i : Nat} (hs : zaZ H 2 s = some (l.flatMap encN, l.length)) (ho : ownedS s = true) (hc : capOk s l.length) (hi : i < l.length) (hn : l.length ≤ 1000000) :
  ∃ r H', DelG 2 H s ((l.take i ++ l.drop (i + 1)).flatMap encN) (l.length - 1) r H' ∧ BCall Try.prog 82 [s, I i, I ((i : Int) + 1)] H r H' := by
 obtain ⟨m, hm⟩ : ∃ m, l.length = m + 1 := ⟨l.length - 1, by omega⟩
 rw [hm] at hs hc
 obtain ⟨r, H', h1, h2⟩ := del_ok (sz := 2) (bytes := 24) (zc := zN) (by omega) rfl hs ho hc (show i ≤ m by omega) (by omega) (by omega)
 have h2' : zbuZ s (I i) (I ((i : Int) + 1)) H fun r' H'' => r' = r ∧ H'' = H' := h2
 obtain ⟨r2, H2, ⟨rfl, rfl⟩, h3⟩ := zezZ h2'
 rw [flat_take encN_len, flat_drop encN_len, ← List.flatMap_append] at h1
 exact ⟨_, _, by rw [hm]; exact h1, h3⟩
theorem delD_c {H : AH} {s : AV} {l : List NdV} {i : Nat} (hs : zaZ H 3 s = some (l.flatMap encD, l.length)) (ho : ownedS s = true) (hc : capOk s l.length) (hi : i < l.length) (hn : l.length ≤ 1000000) :
  ∃ r H', DelG 3 H s ((l.take i ++ l.drop (i + 1)).flatMap encD) (l.length - 1) r H' ∧ BCall Try.prog 83 [s, I i, I ((i : Int) + 1)] H r H' := by
 obtain ⟨m, hm⟩ : ∃ m, l.length = m + 1 := ⟨l.length - 1, by omega⟩
 rw [hm] at hs hc
 obtain ⟨r, H', h1, h2⟩ := del_ok (sz := 3) (bytes := 40) (zc := zD) (by omega) rfl hs ho hc (show i ≤ m by omega) (by omega) (by omega)
 have h2' : zbsZ s (I i) (I ((i : Int) + 1)) H fun r' H'' => r' = r ∧ H'' = H' := h2
 obtain ⟨r2, H2, ⟨rfl, rfl⟩, h3⟩ := zftZ h2'
 rw [flat_take encD_len, flat_drop encD_len, ← List.flatMap_append] at h1
 exact ⟨_, _, by rw [hm]; exact h1, h3⟩
/-! an image of one's own -/
structure ImH (L oi : Nat) (ns : List Nm) (dv : List NdV) (a b : AV) (H : AH) : Prop where
 obj : H[oi]? = some (some (.cells [a, b]))
 lo : oi ∉ idS a ∧ oi ∉ idS b
 len : L ≤ H.length
 sa : zaZ H 2 a = some (ns.flatMap encN, ns.length)
 oa : ownedS a = true
 ca : capOk a ns.length
 ia : ∀ i ∈ idS a, L ≤ i
 sb : zaZ H 3 b = some (dv.flatMap encD, dv.length)
 ob : ownedS b = true
 cb : capOk b dv.length
 ib : ∀ i ∈ idS b, L ≤ i
 ab : ∀ i ∈ idS a, i ∉ idS b
def FrL (L oi : Nat) (H H' : AH) : Prop := H.length ≤ H'.length ∧ ∀ j, j < L → j ≠ oi → H'[j]? = H[j]?
theorem FrL.refl (L oi : Nat) (H : AH) : FrL L oi H H := ⟨Nat.le_refl _, fun _ _ _ => rfl⟩
theorem FrL.trans {L oi : Nat} {A B C : AH} (h : FrL L oi A B) (k : FrL L oi B C) : FrL L oi A C := ⟨Nat.le_trans h.1 k.1, fun j h1 h2 => (k.2 j h1 h2).trans (h.2 j h1 h2)⟩
theorem ImH.noA {L oi : Nat} {ns : List Nm} {dv : List NdV} {a b : AV} {H : AH} (h : ImH L oi ns dv a b H) : oi ∉ idS a := h.lo.1
theorem ImH.noB {L oi : Nat} {ns : List Nm} {dv : List NdV} {a b : AV} {H : AH} (h : ImH L oi ns dv a b H) : oi ∉ idS b := h.lo.2
theorem ImH.lend {L oi : Nat} {ns : List Nm} {dv : List NdV} {a b : AV} {H : AH} (h : ImH L oi ns dv a b H) : ∃ Ra Rb, SV encN 2 ns Ra ∧ SV encD 3 dv Rb ∧ FZ H (.agg [a, b]) (.agg [Ra, Rb]) := by
 obtain ⟨Ra, h1, f1⟩ := FZ.sv h.sa (zfaZ fun x _ => noIdss_encN x)
 obtain ⟨Rb, h2, f2⟩ := FZ.sv h.sb (zfaZ fun x _ => noIdss_encD x)
 exact ⟨Ra, Rb, h1, h2, FZ.agg (FZs.cons f1 (FZs.cons f2 FZs.nil))⟩
theorem ImH.grew {L oi : Nat} {ns : List Nm} {dv : List NdV} {a b : AV} {H H' : AH} (h : ImH L oi ns dv a b H) (g : Grew H H') : ImH L oi ns dv a b H' :=
 ⟨g.cells h.obj, h.lo, Nat.le_trans h.len g.1, g.slice h.sa, h.oa, h.ca, h.ia, g.slice h.sb, h.ob, h.cb, h.ib, h.ab⟩
theorem ImH.newA {L oi : Nat} {ns ms : List Nm} {dv : List NdV} {a b r : AV} {H H' : AH} (h : ImH L oi ns dv a b H) (hl : H.length ≤ H'.length) (hk : ∀ i, i < H.length → i ∉ idS a → H'[i]? = H[i]?) (h1 : zaZ H' 2 r = some (ms.flatMap encN, ms.length)) (h2 : ownedS r = true) (h3 : capOk r ms.length) (h4 : ∀ i ∈ idS r, i ∈ idS a ∨ H.length ≤ i) :
  ∃ H2, ast 1 H' (.ptr oi 0) r = some H2 ∧ ImH L oi ms dv r b H2 ∧ FrL L oi H H2 := by
 have c0 : H'[oi]? = some (some (.cells [a, b])) := by rw [hk oi (List.getElem?_eq_some_iff.1 h.obj).1 h.noA]; exact h.obj
 have hr := zbpZ h2
 have hol1 := (List.getElem?_eq_some_iff.1 h.obj).1
 have nro : oi ∉ idS r := fun q => (h4 oi q).elim h.noA (fun q => by omega)
 have hle := h.len
 have hol := (List.getElem?_eq_some_iff.1 c0).1
 have nr : ∀ i ∈ idS r, L ≤ i := fun i hi => (h4 i hi).elim (h.ia i) (fun q => by omega)
 refine ⟨H'.set oi (some (.cells [r, b])), ?_, ⟨by simp [hol], ⟨nro, h.noB⟩, by simp; omega, ?_, h2, h3, nr, ?_, h.ob, h.cb, h.ib, fun i hi hb => ?_⟩, ⟨by simp; omega, fun j h5 h6 => ?_⟩⟩
 ·rw [ast_ptr (n := 1) (off := 0) (xs := [r]) (cs := [a, b]) (zdoZ hr) c0 rfl (by simp)]; rfl
 ·exact zbZ h1 fun i hi => List.getElem?_set_ne (fun (e : oi = i) => nro (e ▸ hi))
 ·refine zbZ h.sb fun i hi => ?_
  rw [List.getElem?_set_ne (fun (e : oi = i) => h.noB (e ▸ hi))]
  exact hk i (zoZ h.sb i hi) fun q => h.ab i q hi
 ·rcases h4 i hi with q | q
  ·exact h.ab i q hb
  ·have := zoZ h.sb i hb; omega
 ·rw [List.getElem?_set_ne (by omega)]
  exact hk j (by omega) fun q => by have := h.ia j q; omega
theorem ImH.newB {L oi : Nat} {ns : List Nm} {dv ew : List NdV} {a b r : AV} {H H' : AH} (h : ImH L oi ns dv a b H) (hl : H.length ≤ H'.length) (hk : ∀ i, i < H.length → i ∉ idS b → H'[i]? = H[i]?) (h1 : zaZ H' 3 r = some (ew.flatMap encD, ew.length)) (h2 : ownedS r = true) (h3 : capOk r ew.length) (h4 : ∀ i ∈ idS r, i ∈ idS b ∨ H.length ≤ i) :
  ∃ H2, ast 1 H' (.ptr oi 1) r = some H2 ∧ ImH L oi ns ew a r H2 ∧ FrL L oi H H2 := by
 have c0 : H'[oi]? = some (some (.cells [a, b])) := by rw [hk oi (List.getElem?_eq_some_iff.1 h.obj).1 h.noB]; exact h.obj
 have hr := zbpZ h2
 have hol1 := (List.getElem?_eq_some_iff.1 h.obj).1
 have nro : oi ∉ idS r := fun q => (h4 oi q).elim h.noB (fun q => by omega)
 have hle := h.len
 have hol := (List.getElem?_eq_some_iff.1 c0).1
 have nr : ∀ i ∈ idS r, L ≤ i := fun i hi => (h4 i hi).elim (h.ib i) (fun q => by omega)
 refine ⟨H'.set oi (some (.cells [a, r])), ?_, ⟨by simp [hol], ⟨h.noA, nro⟩, by simp; omega, ?_, h.oa, h.ca, h.ia, ?_, h2, h3, nr, fun i ha hi => ?_⟩, ⟨by simp; omega, fun j h5 h6 => ?_⟩⟩
 ·rw [ast_ptr (n := 1) (off := 1) (xs := [r]) (cs := [a, b]) (zdoZ hr) c0 rfl (by simp)]; rfl
 ·refine zbZ h.sa fun i hi => ?_
  rw [List.getElem?_set_ne (fun (e : oi = i) => h.noA (e ▸ hi))]
  exact hk i (zoZ h.sa i hi) fun q => h.ab i hi q
 ·exact zbZ h1 fun i hi => List.getElem?_set_ne (fun (e : oi = i) => nro (e ▸ hi))
 ·rcases h4 i hi with q | q
  ·exact h.ab i ha q
  ·have := zoZ h.sa i ha; omega
 ·rw [List.getElem?_set_ne (by omega)]
  exact hk j (by omega) fun q => by have := h.ib j q; omega
end Go.Proofs.Ytofgloiebnppbaa.Av
end
/-! YtofgloiebnppbaaAvDr -/
section
/- A region in whatever order is drawn, told operation by operation. -/
set_option linter.unusedVariables false
set_option linter.unusedSimpArgs false
namespace Go.Proofs.Ytofgloiebnppbaa.Av
open Go Go.RowKit
section
variable {P : Program}
def OpIs (P : Program) (ops : List Oper) (T : List AV) (i : Nat) (need : List Nat) (F : (Nat → AV) → AH → (AV → AH → Prop) → Prop) : Prop :=
 ∃ o, ops[i]? = some o ∧ o.guard = none ∧ (∀ j ∈ need, ∃ e ∈ o.after, Region.binds .any e = true ∧ e.on = j) ∧ ∀ vals H K, F vals H K → AStep P (pt ops vals (fun _ => true) T i) H o K
def needsB (o : Oper) (need : List Nat) : Bool := need.all fun j => o.after.toList.any fun e => Region.binds .any e && Nat.beq e.on j
theorem needsB_ok {o : Oper} {need : List Nat} (h : needsB o need = true) : ∀ j ∈ need, ∃ e ∈ o.after, Region.binds .any e = true ∧ e.on = j := by
 intro j hj
 have := List.all_eq_true.1 h j hj
 obtain ⟨e, he, hb⟩ := List.any_eq_true.1 this
 simp only [Bool.and_eq_true] at hb
 exact ⟨e, by simpa using he, hb.1, Nat.eq_of_beq_eq_true hb.2⟩
theorem OpIs.op {ql : FuncId → Bool} {ops : List Oper} {T : List AV} {i : Nat} {need : List Nat} {F : (Nat → AV) → AH → (AV → AH → Prop) → Prop} (o : Oper) (ho : ops[i]? = some o) (hg : o.guard = none) (hn : needsB o need = true) (hb : isBS o.op = false) (hc : ∀ ρ, acall ρ o = none)
  (hF : ∀ vals H K, F vals H K → sOp P ql none0 false (aeval (pt ops vals (fun _ => true) T i)) H o true K) : OpIs P ops T i need F := by
 refine ⟨o, ho, hg, needsB_ok hn, fun vals H K h => ?_⟩
 obtain ⟨r, H', h1, h2, -⟩ := sOp_one (hF vals H K h)
 rcases h2 with ⟨-, h2 | ⟨h2, h3⟩⟩ | ⟨h2, -⟩
 ·rw [opD_aop hb] at h2
  exact .inl ⟨r, H', h2, h1⟩
 ·exfalso
  unfold wCall at h3
  rw [hc] at h3; exact h3
 ·cases h2
theorem OpIs.call {ops : List Oper} {T : List AV} {i : Nat} {need : List Nat} {F : (Nat → AV) → AH → (AV → AH → Prop) → Prop} (o : Oper) (ho : ops[i]? = some o) (hg : o.guard = none) (hn : needsB o need = true) (k : FuncId) (args : (Nat → AV) → List AV) (hk : goFunc P k = true)
  (hc : ∀ vals, acall (aeval (pt ops vals (fun _ => true) T i)) o = some (k, args vals)) (hF : ∀ vals H K, F vals H K → ACalls P k (args vals) H K) : OpIs P ops T i need F :=
 ⟨o, ho, hg, needsB_ok hn, fun vals H K h => .inr (.inr ⟨k, args vals, hc vals, hk, hF vals H K h⟩)⟩
def valUp (vals : Nat → AV) (i : Nat) (r : AV) : Nat → AV := fun j => if j = i then r else vals j
theorem ACode.told {id : Nat} {ops : List Oper} {Q : AQ} {T : List AV} {H : AH} (hm : P.follows .mixedOrders = true) (hk : ordOk ops = true) (Inv : AH → (Nat → AV) → (Nat → Bool) → Prop) (v0 : Nat → AV) (h0 : Inv H v0 (fun _ => false))
  (hs : ∀ i, i < ops.length → ∃ need F, OpIs P ops T i need F ∧ ∀ (S : Nat → Bool) Hc vals, S i = false → (∀ j ∈ need, S j = true) → Inv Hc vals S → F vals Hc fun r H' => Inv H' (valUp vals i r) (upd S i))
  (last : ∀ Hc vals S, (∀ j, j < ops.length → S j = true) → Inv Hc vals S → Q .normal (pt ops vals (fun _ => true) T ops.length) Hc) : ACode P (.region id ops.toArray true) Q T H := by
 refine ACode.drawn hm hk (Ω := AH × (Nat → AV)) (fun ω S => Inv ω.1 ω.2 S) (fun ω => ω.2) (fun ω _ => ω.1) (H, v0) h0 rfl ?_ (fun ω S hS hI => last ω.1 ω.2 S hS hI)
 intro ω S i o hr hI
 obtain ⟨ho, hcl, hSi, haft⟩ := hr
 obtain ⟨need, F, ⟨o', ho', hg, hn, hF⟩, hstep⟩ := hs i (List.getElem?_eq_some_iff.1 ho).1
 rw [ho] at ho'
 injection ho' with ho'
 subst ho'
 refine ⟨true, by unfold awanted; rw [hg], fun _ => ?_, fun h => by cases h⟩
 have h1 := hF ω.2 ω.1 _ (hstep S ω.1 ω.2 hSi (fun j hj => by
  obtain ⟨e, he, hb, rfl⟩ := hn j hj
  exact haft e he hb) hI)
 have conv : ∀ r H', Inv H' (valUp ω.2 i r) (upd S i) → ∃ ω' : AH × (Nat → AV), Inv ω'.1 ω'.2 (upd S i) ∧ (∀ j, S j = true → ω'.2 j = ω.2 j) ∧ ω'.2 i = r ∧ ω'.1 = H' := by
  intro r H' h
  refine ⟨(H', valUp ω.2 i r), h, fun j hj => ?_, by simp [valUp], rfl⟩
  have : j ≠ i := by rintro rfl; rw [hSi] at hj; cases hj
  simp [valUp, this]
 rcases h1 with ⟨r, H', h2, h3⟩ | ⟨r, h2, h3⟩ | ⟨k, args, h2, h3, h4⟩
 ·exact .inl ⟨r, H', h2, conv _ _ h3⟩
 ·exact .inr (.inl ⟨r, h2, conv _ _ h3⟩)
 ·exact .inr (.inr ⟨k, args, h2, h3, h4.mono conv⟩)
end
end Go.Proofs.Ytofgloiebnppbaa.Av
end
/-! YtofgloiebnppbaaAvDo -/
section
/- A drawn region whose operations' answers are told ahead. -/
set_option linter.unusedVariables false
set_option linter.unusedSimpArgs false
namespace Go.Proofs.Ytofgloiebnppbaa.Av
open Go Go.RowKit
section
variable {P : Program}
theorem OpIs.opB {ql : FuncId → Bool} {ops : List Oper} {T : List AV} {i : Nat} {need : List Nat} {F : (Nat → AV) → AH → (AV → AH → Prop) → Prop} (o : Oper) (ho : ops[i]? = some o) (hg : o.guard = none) (hn : needsB o need = true) (hc : ∀ ρ, acall ρ o = none)
  (hF : ∀ vals H K, F vals H K → sOp P ql none0 false (aeval (pt ops vals (fun _ => true) T i)) H o true K) : OpIs P ops T i need F := by
 refine ⟨o, ho, hg, needsB_ok hn, fun vals H K h => ?_⟩
 obtain ⟨r, H', h1, h2, -⟩ := sOp_one (hF vals H K h)
 rcases h2 with ⟨-, h2 | ⟨h2, h3⟩⟩ | ⟨h2, -⟩
 ·have e : opD P false (aeval (pt ops vals (fun _ => true) T i)) H o = aop P (aeval (pt ops vals (fun _ => true) T i)) H o := by unfold opD; simp
  rw [e] at h2
  exact .inl ⟨r, H', h2, h1⟩
 ·exfalso
  unfold wCall at h3
  rw [hc] at h3; exact h3
 ·cases h2
theorem ACode.told2 {id : Nat} {ops : List Oper} {Q : AQ} {T : List AV} {H : AH} (hm : P.follows .mixedOrders = true) (hk : ordOk ops = true) (need : Nat → List Nat) (F : Nat → (Nat → AV) → AH → (AV → AH → Prop) → Prop) (V : Nat → AV) (hp : (Nat → Bool) → AH)
  (ho : ∀ i, i < ops.length → OpIs P ops T i (need i) (F i)) (h0 : hp (fun _ => false) = H)
  (hs : ∀ i, i < ops.length → ∀ (S : Nat → Bool) vals, S i = false → (∀ a, S a = true → ∀ b ∈ need a, S b = true) → (∀ j ∈ need i, S j = true ∧ vals j = V j) → F i vals (hp S) fun r H' => r = V i ∧ H' = hp (upd S i))
  (last : ∀ (S : Nat → Bool) vals, (∀ j, j < ops.length → S j = true ∧ vals j = V j) → Q .normal (pt ops vals (fun _ => true) T ops.length) (hp S)) : ACode P (.region id ops.toArray true) Q T H := by
 refine ACode.told hm hk (fun Hc vals S => Hc = hp S ∧ (∀ j, S j = true → vals j = V j) ∧ ∀ a, S a = true → ∀ b ∈ need a, S b = true) (fun _ => undefA) ⟨h0.symm, by simp, by simp⟩ ?_ ?_
 ·intro i hi
  obtain ⟨o, h1, h2, h3, h4⟩ := ho i hi
  -- whatever F tells for one K, it tells for a greater one
  refine ⟨need i, fun vals Hc K => ∃ S, Hc = hp S ∧ S i = false ∧ (∀ a, S a = true → ∀ b ∈ need a, S b = true) ∧ (∀ j ∈ need i, S j = true ∧ vals j = V j) ∧ K (V i) (hp (upd S i)), ⟨o, h1, h2, h3, ?_⟩, ?_⟩
  ·rintro vals Hc K ⟨S, rfl, hS, hcl, hn, hK⟩
   have := h4 vals (hp S) _ (hs i hi S vals hS hcl hn)
   rcases this with ⟨r, H', a1, rfl, rfl⟩ | ⟨r, a1, rfl, a2⟩ | ⟨k, args, a1, a2, a3⟩
   ·exact .inl ⟨_, _, a1, hK⟩
   ·exact .inr (.inl ⟨_, a1, by rw [a2]; exact hK⟩)
   ·exact .inr (.inr ⟨k, args, a1, a2, a3.mono (by rintro r H' ⟨rfl, rfl⟩; exact hK)⟩)
  ·rintro S Hc vals hSi hn ⟨rfl, hv, hcl⟩
   refine ⟨S, rfl, hSi, hcl, fun j hj => ⟨hn j hj, hv j (hn j hj)⟩, rfl, fun j hj => ?_, fun a ha b hb => ?_⟩
   ·unfold valUp
    by_cases c : j = i
    ·rw [if_pos c, c]
    ·rw [if_neg c]
     unfold upd at hj
     rw [if_neg c] at hj
     exact hv j hj
   ·unfold upd at ha ⊢
    by_cases c : b = i
    ·rw [if_pos c]
    ·rw [if_neg c]
     by_cases c2 : a = i
     ·subst c2; exact hn b hb
     ·rw [if_neg c2] at ha; exact hcl a ha b hb
 ·rintro Hc vals S hS ⟨rfl, h1, h2⟩
  exact last S vals fun j hj => ⟨hS j hj, h1 j (hS j hj)⟩
end
end Go.Proofs.Ytofgloiebnppbaa.Av
end
