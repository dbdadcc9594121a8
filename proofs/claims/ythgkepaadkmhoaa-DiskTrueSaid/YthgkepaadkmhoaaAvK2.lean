/- Bytes that are handed. -/
import Derived.Test.YthgkepaadkmhoaaAvK
import Derived.Test.YthgkepaadkmhoaaAvL
set_option linter.unusedVariables false
set_option linter.unusedSimpArgs false
namespace Go.Proofs.Ythgkepaadkmhoaa.Av
open Go Go.RowKit
def Rd.byte {P : Program} {t : TypeId} (hu : P.underlying t = some (.int .u8)) (hc : P.cellsOf t = 1) : Rd P t UInt8 where
  size := 1
  enc b := [.lit (.int .u8 b.toNat)]
  ok _ := True
  cells := hc
  read {H e W fuel cs d} h := by
    obtain ⟨n, rfl, -, hw⟩ := DataW.trod_int hu h
    have hb : 0 ≤ n ∧ n ≤ 255 := by simpa [Lit.wf, IntKind.min, IntKind.max, IntKind.signed, IntKind.bits] using hw
    refine ⟨UInt8.ofNat n.toNat, trivial, rfl, .cons ?_ .nil, by simp [Value.oneCell']⟩
    simp only [VR]
    congr 1
    have : n.toNat < 256 := by omega
    rw [UInt8.toNat_ofNat_of_lt' this]
    omega
end Go.Proofs.Ythgkepaadkmhoaa.Av
