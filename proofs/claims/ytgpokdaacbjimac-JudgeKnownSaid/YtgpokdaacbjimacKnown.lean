/- JudgeKnown: the closed sentence is true: the engine (a program's functions over values without addresses, proved sound against the model) comes to it. No conditions. -/
import Derived.Test.YtgpokdaacbjimacRows
import Derived.Test.YtgpokdaacbjimacEngTop
import Derived.WalkKit
import Derived.ProofKit
import Derived.OpenShut
import Derived.ShutString
import Derived.ChangeOld
import Derived.Below
import Derived.SizedLaws
namespace Go.Proofs.Ytgpokdaacbjimac.judgeKnown
open Go.ChangeShapes Go.WideShapes Go.ChangeAt Go.RowKit
set_option linter.unusedVariables false
theorem own : ownKnob Try.prog.godebug = none := by kernel_rfl
set_option maxRecDepth 100000 in
theorem comes : (Go.Eng.evFunc Try.prog 100 3 [] []).map (·.1) = some (.t (.sc (.bool true))) := by kernel_rfl
set_option maxRecDepth 100000 in
theorem sound : Go.Eng.ProgOk Try.prog := Go.Eng.prog_ok (by kernel_rfl) (by kernel_rfl)
set_option maxRecDepth 100000 in
theorem lifted (os : Os) (started : os.Started) (H : Type) (enc : TypeId × Value → H) :
    ReturnsInHanded {} Try.checked os 3 .any (Rows.judgeKnownSpec.pre6 enc Try.prog Try.f3 Rows.judgeKnownRow.domain false) (Rows.judgeKnownSpec.post enc Try.prog Try.f3 false true false false) := by
  refine returnsInHanded_of_change_sized (C := Try.checked) own started (by kernel_rfl) Try.func3
    (ChangeSpec.witness6 (enc := enc) (C := Try.checked) false ⟨#[], #[], []⟩ 8 (by kernel_rfl) (by kernel_rfl) (by kernel_rfl) (by kernel_rfl)) ?_
  intro W base args ds gs before hval0 hW hcnd hsz0 _
  have hW' := hW
  obtain ⟨p, q, hA0, hV, rfl, hfz, hnd⟩ := hW
  have hA : DataW.TrodAll enc Try.prog W 0 (fun _ => true) true Try.f3.params.toList args.toList ds p := hA0
  rw [Try.params3] at hA
  obtain ⟨rfl, rfl, rfl⟩ := trodAll_none hA
  obtain ⟨rfl, rfl⟩ := trodVars_none hV
  obtain ⟨⟨v, sig⟩, hev, hv⟩ := Option.map_eq_some_iff.1 comes
  simp only at hv
  subst hv
  refine (Go.Eng.closed_calls (w := W) sound hev).mono fun e W' ⟨he, bel⟩ => ?_
  subst he
  exact ⟨_, rfl, _, _, _, [], _, [], hW', trodAll_mk1 (shut_bool (by kernel_rfl) _), trodAll_mk0, rfl, bel.frame _, fun h => by cases h⟩
theorem over : Rows.judgeKnownRow.holds Try.pinned (OpenSpec.ofChange Rows.judgeKnownSpec) :=
  OpenClaim.holds_of_wide 3 Try.f3 rfl rfl rfl rfl rfl rfl rfl ⟨rfl, rfl, rfl, rfl, rfl⟩ rfl rfl rfl rfl rfl (by kernel_rfl) Try.func3 (by kernel_rfl)
    (of_decide_eq_true (by kernel_rfl)) (by unfold Func.isWrapper; first | (rw [if_pos (by decide +kernel)]; kernel_rfl) | (rw [if_neg (by decide +kernel)]; exact ⟨rfl, rfl⟩))
    (fun os started H enc _ => lifted os started H enc)
theorem proved : Rows.JudgeKnownSaid := over
end Go.Proofs.Ytgpokdaacbjimac.judgeKnown
namespace Go.Proofs.Ytgpokdaacbjimac
/-- The row, under a short name, for the claim. -/
theorem judgeKnown_holds : Rows.JudgeKnownSaid := judgeKnown.proved
#print axioms judgeKnown_holds
end Go.Proofs.Ytgpokdaacbjimac
