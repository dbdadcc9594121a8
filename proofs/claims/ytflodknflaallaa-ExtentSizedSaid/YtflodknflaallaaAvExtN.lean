/- Chapter 11's laws: bytes that are handed; how long lists get. -/
import Derived.Test.YtflodknflaallaaAvExtE
import Derived.Test.YtflodknflaallaaAvExtV
set_option linter.unusedVariables false
set_option linter.unusedSimpArgs false
set_option maxRecDepth 100000
namespace Go.Proofs.Ytflodknflaallaa.Av
open Go Go.RowKit
theorem bytes_sv (s : Sl UInt8) (hn : s.nil = true → s.l = []) : SV encU 1 s.l (if s.nil then .lit (.slice none 0 0) else .imm (s.l.flatMap encU) s.l.length 1) := by
  obtain ⟨l, nil⟩ := s
  cases nil with
  | true =>
    have := hn rfl
    simp only at this
    subst this
    exact SV.nil
  | false => exact SV.imm encU_len (fun x _ => rfl)
theorem write_len (c : Cont) (pos : Int) (bs : List UInt8) : (cL (writeC c pos bs)).length ≤ c.2.length + bs.length := by
  unfold writeC
  split
  · split
    · simp [cL]
    · simp only [cL, Option.getD_some]; exact wr_len
  · simp [cL]
theorem cS_cL {res : Option Cont} : ((cS res, cL res) : Cont) = res.getD (0, []) := rfl
end Go.Proofs.Ytflodknflaallaa.Av
