/- Chapter 11's laws: what they are handed; few; a byte; the closed sentence. -/
import Derived.Test.YtflodknflaallaaAvExtT
import Derived.Test.YtflodknflaallaaAvK3
import Derived.KernelRfl
set_option linter.unusedVariables false
set_option linter.unusedSimpArgs false
set_option maxRecDepth 100000
namespace Go.Proofs.Ytflodknflaallaa.Av
open Go Go.RowKit
theorem extentRuns_ran : isTrue (run Try.prog noCall (inL []) (inL []) 100000 100 3 [] []) = true := by kernel_rfl
theorem extentRuns_p : BPure Try.prog 3 [] (B true) := .of_true (run_true noCall_ok extentRuns_ran)
abbrev XE := Int × List UInt8 × Unit
def xe (x : XE) : Ext := if h : x.2.1.length = 8 then ⟨x.1, x.2.1, h⟩ else ⟨x.1, List.replicate 8 0, by simp⟩
def xenc (x : XE) : List AV := [I x.1] ++ ((x.2.1.flatMap fun b => [AV.lit (.int .u8 b.toNat)]) ++ [])
theorem xenc_eq {x : XE} (h : x.2.1.length = 8) : xenc x = encE (xe x) := by
  unfold xenc xe encE encB
  rw [dif_pos h]
  simp [List.flatMap_singleton']
  induction x.2.1 with
  | nil => rfl
  | cons a l ih => simp [ih]
/-- A list of blocks that is handed. -/
theorem cont_sv (s : Sl XE) (hn : s.nil = true → s.l = []) (hok : ∀ x ∈ s.l, x.2.1.length = 8) : ∃ l, l.length = s.l.length ∧ SV encE 9 l (if s.nil then .lit (.slice none 0 0) else .imm (s.l.flatMap xenc) s.l.length 9) := by
  refine ⟨s.l.map xe, by simp, ?_⟩
  obtain ⟨l, nil⟩ := s
  cases nil with
  | true =>
    have := hn rfl
    simp only at this
    subst this
    exact SV.nil
  | false =>
    have e : l.flatMap xenc = (l.map xe).flatMap encE := by
      clear hn
      simp only at hok
      induction l with
      | nil => rfl
      | cons a r ih =>
        rw [List.flatMap_cons, List.map_cons, List.flatMap_cons, ih (fun x hx => hok x (by simp [hx])), xenc_eq (hok a (by simp))]
    have h2 := SV.imm (enc := encE) (sz := 9) (l := l.map xe) encE_len (fun x _ => noIdss_encE x)
    rw [← e, List.length_map] at h2
    exact h2
theorem law11_Few_p {size : Int} {l : List Ext} {v : AV} (hv : SV encE 9 l v) : BPure Try.prog 17 [.agg [I size, v]] (B (decide (l.length ≤ 60))) := BPure.val (by simp [noIdss, noIds, hv.1]) rfl (salvorlaw11_Few_ok (by
  unfold salvorlaw11_Few
  have : ((l.length : Int) ≤ 60) = (l.length ≤ 60) := propext (by omega)
  simp [oneA_sv hv, hv.len, this]))
theorem oI_pair (o : Option Int) : oI o = .tup [I (o.getD 0), B o.isSome] := by cases o <;> rfl
theorem in64 {n : Int} (h : IntKind.i64.min ≤ n ∧ n ≤ IntKind.i64.max) : -9223372036854775808 ≤ n ∧ n ≤ 9223372036854775807 := by
  simpa [IntKind.min, IntKind.max, IntKind.signed, IntKind.bits] using h
end Go.Proofs.Ytflodknflaallaa.Av
