/- strings.Compare's inner call: what two texts are to one another. -/
import Derived.Test.YtpnfdibgfichmaaAvZ
import Derived.Lib.Bytealg
set_option linter.unusedVariables false
namespace Go.Proofs.Ytpnfdibgfichmaa.Av
open Go Go.RowKit
theorem compareString_calls (a b : ByteArray) (H : AH) : ACalls Try.prog 83 [.lit (.string a), .lit (.string b)] H fun r H' => r = .lit (.int .i64 (Lib.compareBytes a.data.toList b.data.toList)) ∧ H' = H := by
  refine ACalls.of_body Try.func83 rfl ?_
  refine ACode.seq (ACode.region (AOps.op rfl rfl (AOps.nil ?_)))
  refine ACode.seq (ACode.region (AOps.op rfl rfl (AOps.op rfl rfl (AOps.extern rfl rfl (r := .lit (.int .i64 (Lib.compareBytes a.data.toList b.data.toList))) ?_ (AOps.op rfl rfl (AOps.nil ?_))))))
  · intro G vs hH hv
    have hv' : VRs G [.lit (.string a), .lit (.string b)] vs := hv
    simp only [VRs, VR] at hv'
    obtain ⟨_, _, rfl, rfl, _, _, rfl, rfl, rfl⟩ := hv'
    refine ⟨.int .i64 (Lib.compareBytes a.data.toList b.data.toList), ?_, by simp only [VR]⟩
    rw [run_callFunc_extern Try.func101 (by kernel_rfl) (by kernel_rfl) (by kernel_rfl) (e := Extern.BytealgCompare.compare) (by kernel_rfl),
      Lib.run_compareString (P := Try.prog) a b G.w]
    rfl
  · exact ACode.ret ⟨.inr rfl, _, rfl, rfl, rfl⟩
def cmpExt : CallFn := fun f args H => if f = 83 then match args with
    | [.lit (.string a), .lit (.string b)] => some (.lit (.int .i64 (Lib.compareBytes a.data.toList b.data.toList)), H)
    | _ => none
  else none
theorem cmpExt_ok : CallOk Try.prog cmpExt := by
  intro f args H r H' h
  unfold cmpExt at h
  split at h
  · rename_i hf
    subst hf
    split at h
    · injection h with h
      injection h with h1 h2
      subst h1; subst h2
      exact compareString_calls _ _ _
    · cases h
  · cases h
end Go.Proofs.Ytpnfdibgfichmaa.Av
