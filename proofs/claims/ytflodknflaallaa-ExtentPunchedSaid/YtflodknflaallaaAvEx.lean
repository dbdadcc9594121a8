/- slices.overlaps: two slices in two objects do not. -/
import Derived.Test.YtflodknflaallaaAvM
import Derived.Lib.Overlaps
set_option linter.unusedVariables false
set_option linter.unusedSimpArgs false
namespace Go.Proofs.Ytflodknflaallaa.Av
open Go Go.RowKit
theorem ExtR.apart {P : Program} {k : FuncId} {fn : Func} {tS tR e : TypeId} {size : Nat} (hf : P.funcs[k]? = some fn) (hname : (fn.name == "runtime.NumGoroutine") = false) (hb : fn.body.isNone = true) (hn : Extern.findNext fn = none)
    (he : Extern.find fn = some (Extern.SlicesOverlaps.overlaps #[tS, tS] #[tR])) (ht : P.underlying tS = some (.slice e)) (hz : ∀ w, (Go.sizeOf e).run P w = .ok size w)
    {H : AH} {oa offa la ea ka ob offb lb eb kb : Nat} {ca cb : List AV} (ha : H[oa]? = some (some (.cells ca))) (hbo : H[ob]? = some (some (.cells cb))) (hne : oa ≠ ob) (hka : ka ≠ 0) (hkb : kb ≠ 0) (hcb : cb ≠ []) :
    ExtR P k [.sl oa offa la ea (.ex ka), .sl ob offb lb eb (.ex kb)] H (B false) := by
  intro G vs hr hv
  simp only [VRs] at hv
  obtain ⟨v, r, rfl, h1, v2, r2, rfl, h2, rfl⟩ := hv
  simp only [VR] at h1 h2
  obtain ⟨ho1, a, c, rfl, hl1, hs1⟩ := h1
  obtain ⟨ho2, a2, c2, rfl, hl2, hs2⟩ := h2
  have hc1 : c ≠ 0 := by simp only [SlAt] at hs1; omega
  have hc2 : c2 ≠ 0 := by simp only [SlAt] at hs2; omega
  obtain ⟨rfl, -⟩ := slat_exact hs1 hc1
  obtain ⟨rfl, -⟩ := slat_exact hs2 hc2
  obtain ⟨q1, e1, u1, p1, p2, p3, p4, p5⟩ := hr.obj _ _ ha
  obtain ⟨q2, e2, u2, w1, w2, w3, w4, w5⟩ := hr.obj _ _ hbo
  have hblk : (G.μ oa).1 ≠ (G.μ ob).1 := fun h => hne (hr.inj _ _ _ _ ha hbo h)
  have hlen : 0 < cb.length := by cases cb with
    | nil => exact absurd rfl hcb
    | cons a r => simp
  refine ⟨.bool false, ?_, by simp only [VR]⟩
  rw [run_callFunc_extern hf hname hb hn he]
  have := Go.Lib.run_overlaps_apart (P := P) G.w tS tR e ht size hz ⟨(G.μ oa).1, (G.μ oa).2.1 + offa, none⟩ ⟨(G.μ ob).1, (G.μ ob).2.1 + offb, none⟩ la c lb c2 hblk e1 e2 q1.size q2.size
    (by simp [World.shape?, p1]) (by simp [World.shape?, w1]) (by omega) (by simp [World.frozen?, p1]) (by simp [World.frozen?, p1])
  show (((Extern.SlicesOverlaps.overlaps #[tS, tS] #[tR]) _).run P G.w).andThen _ = _
  have e : (#[Value.slice (some ⟨(G.μ oa).1, (G.μ oa).2.1 + offa, none⟩) la c, Value.slice (some ⟨(G.μ ob).1, (G.μ ob).2.1 + offb, none⟩) lb c2] : Array Value) = [Value.slice (some ⟨(G.μ oa).1, (G.μ oa).2.1 + offa, none⟩) la c, Value.slice (some ⟨(G.μ ob).1, (G.μ ob).2.1 + offb, none⟩) lb c2].toArray := rfl
  rw [← e, this]
  rfl
end Go.Proofs.Ytflodknflaallaa.Av
