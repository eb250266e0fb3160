/- JumpsKnown: the closed sentence is true: run by the engine, its callees by their printed models. No conditions. -/
import Derived.Test.YtgpokdaacbjimabWK
import Derived.Test.YtgpokdaacbjimabEngWF
namespace Go.Proofs.Ytgpokdaacbjimab.jumpsKnown
open Go.ChangeShapes Go.WideShapes Go.ChangeAt Go.RowKit
set_option linter.unusedVariables false
theorem own : ownKnob Try.prog.godebug = none := by kernel_rfl
set_option maxRecDepth 100000 in
theorem comes : Go.Eng.evTop Try.prog (Go.Proofs.Ytgpokdaacbjimab.W.sp_suturelaw9_JumpsKnown 100) 100 3 = some (.t (.sc (.bool true))) := by kernel_rfl
set_option maxRecDepth 100000 in
theorem lifted (os : Os) (started : os.Started) (H : Type) (enc : TypeId × Value → H) :
    ReturnsInHanded {} Try.checked os 3 .any (Rows.jumpsKnownSpec.pre6 enc Try.prog Try.f3 Rows.jumpsKnownRow.domain false) (Rows.jumpsKnownSpec.post enc Try.prog Try.f3 false true false false) := by
  refine returnsInHanded_of_change_sized (C := Try.checked) own started (by kernel_rfl) Try.func3
    (ChangeSpec.witness6 (enc := enc) (C := Try.checked) false ⟨#[], #[], []⟩ 8 (by kernel_rfl) (by kernel_rfl) (by kernel_rfl) (by kernel_rfl)) ?_
  intro W base args ds gs before hval0 hW hcnd hsz0 _
  have hW' := hW
  obtain ⟨p, q, hA0, hV, rfl, hfz, hnd⟩ := hW
  have hA : DataW.TrodAll enc Try.prog W 0 (fun _ => true) true Try.f3.params.toList args.toList ds p := hA0
  rw [Try.params3] at hA
  obtain ⟨rfl, rfl, rfl⟩ := trodAll_none hA
  obtain ⟨rfl, rfl⟩ := trodVars_none hV
  refine (Go.Eng.FuncOk.rows (W := W) (K := 0) (xs := []) (b := true) (Go.Proofs.Ytgpokdaacbjimab.W.top_suturelaw9_JumpsKnown 100 100 comes) .nil).mono fun e W' ⟨he, bel⟩ => ?_
  subst he
  exact ⟨_, rfl, _, _, _, [], _, [], hW', trodAll_mk1 (shut_bool Try.underlying4 _), trodAll_mk0, rfl, bel.frame _, fun h => by cases h⟩
theorem over : Rows.jumpsKnownRow.holds Try.pinned (OpenSpec.ofChange Rows.jumpsKnownSpec) :=
  OpenClaim.holds_of_wide 3 Try.f3 rfl rfl rfl rfl rfl rfl rfl ⟨rfl, rfl, rfl, rfl, rfl⟩ rfl rfl rfl rfl rfl (by kernel_rfl) Try.func3 (by kernel_rfl)
    (of_decide_eq_true (by kernel_rfl)) (by unfold Func.isWrapper; first | (rw [if_pos (by decide +kernel)]; kernel_rfl) | (rw [if_neg (by decide +kernel)]; exact ⟨rfl, rfl⟩))
    (fun os started H enc _ => lifted os started H enc)
theorem proved : Rows.JumpsKnownSaid := over
end Go.Proofs.Ytgpokdaacbjimab.jumpsKnown
namespace Go.Proofs.Ytgpokdaacbjimab
/-- The row, under a short name, for the claim. -/
theorem jumpsKnown_holds : Rows.JumpsKnownSaid := jumpsKnown.proved
#print axioms jumpsKnown_holds
end Go.Proofs.Ytgpokdaacbjimab
