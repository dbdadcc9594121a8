/- The law and its row. No condition. -/
import Derived.Test.YtbppnhenlboefaaGreatMcJ
set_option linter.unusedVariables false
section
namespace Go.Proofs.YtbppnhenlboefaaGreat
open Go.ChangeShapes Go.WideShapes Go.ChangeAt Go.RowKit
namespace cpRuns
set_option maxRecDepth 100000 in
theorem kZ (os:Os)(started:os.Started)(H:Type)(enc:TypeId×Value→H):
  ReturnsInHanded {} Tryz.checked os 3 .any (Rows.cpRunsSpec.pre6 enc Tryz.prog Tryz.f3 Rows.cpRunsRow.domain false) (Rows.cpRunsSpec.post enc Tryz.prog Tryz.f3 false true false false):=by
 refine returnsInHanded_of_change_sized (C:=Tryz.checked) Av.own started (by kernel_rfl) Tryz.func3
  (ChangeSpec.witness6 (enc:=enc) (C:=Tryz.checked) false ⟨#[],#[],[]⟩ 8 (by kernel_rfl) (by kernel_rfl) (by kernel_rfl) (by kernel_rfl)) ?_
 intro W base args ds gs before hval0 hW hcnd hsz0 _;have hW':=hW;obtain⟨p,q,hA0,hV,rfl,hfz,hnd⟩:=hW;have hA:DataW.TrodAll enc Tryz.prog W 0 (λ_=>true) true Tryz.f3.params.toList args.toList ds p:=hA0;rw[Tryz.params3]at hA;obtain⟨hargs,rfl,rfl⟩:=trodAll_none hA;obtain rfl:args= #[]:=by cases args;simp_all
 obtain⟨rfl,rfl⟩:=trodVars_none hV;refine(Av.law_calls Av.cpRuns_a W (vs:=[]) .nil).mono fun e W' ⟨he,bel⟩=>?_
 subst he;exact⟨_,rfl,_,_,_,[],_,[],hW',trodAll_mk1 (shut_bool Tryz.underlying4 _),trodAll_mk0,rfl,bel.frame _,λh=>by cases h⟩
theorem over:Rows.cpRunsRow.holds Tryz.pinned (OpenSpec.ofChange Rows.cpRunsSpec):=
 OpenClaim.holds_of_wide 3 Tryz.f3 rfl rfl rfl rfl rfl rfl rfl ⟨rfl,rfl,rfl,rfl,rfl⟩ rfl rfl rfl rfl rfl (by kernel_rfl) Tryz.func3 (by kernel_rfl)
  (of_decide_eq_true (by kernel_rfl)) (by unfold Func.isWrapper;first | (rw[if_pos (by decide+kernel)];kernel_rfl) | (rw[if_neg (by decide+kernel)];exact⟨rfl,rfl⟩))
  (λos started H enc _=>kZ os started H enc)
end cpRuns
theorem cpRuns_holds:Rows.CpRunsSaid:=cpRuns.over
#print axioms cpRuns_holds
end Go.Proofs.YtbppnhenlboefaaGreat
end
