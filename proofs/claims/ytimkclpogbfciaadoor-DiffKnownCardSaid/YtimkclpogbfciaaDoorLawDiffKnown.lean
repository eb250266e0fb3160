/- DiffKnown: the law holds: its functions come, by the engine, to the printed models, and these to what the law says. No conditions. -/
import Derived.Test.YtimkclpogbfciaaDoorKK
import Derived.Test.YtimkclpogbfciaaDoorEngWF
import Derived.Test.YtimkclpogbfciaaDoorTie
import Derived.Test.YtimkclpogbfciaaDoorCards
import Derived.Test.YtimkclpogbfciaaDoorTab
import Derived.Deep.DeepHandedRow
import Derived.Deep.DeepWitnessRowRef
import Derived.LaidMore
import Derived.LaidHandle
import Derived.Stop.Joined
import Derived.SevenTiedAt
namespace Go.Proofs.YtimkclpogbfciaaDoor.diffKnown
open Go.ChangeShapes Go.WideShapes Go.ChangeAt Go.RowKit
open Go.ChangeMaps (open_string shut_string)
set_option linter.unusedVariables false
theorem own : ownKnob Tryd.prog.godebug = none := by kernel_rfl
/-- The door's own heap; the pinned table of unicode/utf8 in its place. -/
noncomputable def door7 (os : Os) : World :=
  { World.doorLaid Tryd.prog 400 os with heap := (World.doorLaid Tryd.prog 400 os).heap.modify 4 fun
    | .cells _ t frozen => .cells (Pinned.utf8FirstZ.map fun (z : Nat) => Value.int .u8 z).toArray t frozen
    | o => o }
/-- The door's own heap meets the condition. -/
theorem door_met (os : Os) (args : Array Value) : laidMet Tryd.prog Rows.diffKnownRow.laid ((door7 os).forCall (fun _ _ => 0) ⟨#[], args, []⟩).memory :=
  laidMet_of_run' 8 (by kernel_rfl) (by kernel_rfl)
theorem reads (os : Os) {H : Type} (enc : TypeId × Value → H) : ∃ places, DataW.whole enc Tryd.prog ((door7 os).forCall (fun _ _ => 0) ⟨#[], #[], []⟩).memory Tryd.f3.params.toList Rows.diffKnownSpec.vars false #[].toList 8 = some ([], [], places) :=
  ⟨[], by kernel_rfl⟩
set_option maxRecDepth 100000 in
theorem lifted (os : Os) (started : os.Started) (H : Type) (enc : TypeId × Value → H) (F : Stop.Interp) :
    ReturnsInHanded {} Tryd.checked os 3 .any ((OpenSpec.ofChange Rows.diffKnownSpec).preRow enc Tryd.prog Tryd.f3 Rows.diffKnownRow.domain false Rows.diffKnownRow.laid) (((OpenSpec.ofChange Rows.diffKnownSpec).at F).post enc Tryd.prog Tryd.f3 false true false false) := by
  obtain ⟨places, hx⟩ := reads os enc
  refine returnsInHanded_of_row (C := Tryd.checked) (s := OpenSpec.ofChange Rows.diffKnownSpec) own started (by kernel_rfl) Tryd.func3
    (Go.witness_row_atRef (enc := enc) (C := Tryd.checked) false (door7 os) #[] rfl (by kernel_rfl) (by kernel_rfl) (by kernel_rfl)
      (OpenSpec.preRow_of_cond 8 hx (by kernel_rfl) (fun k hk => by cases hk) (by kernel_rfl) (door_met os _))) ?_
  intro W base args ds gs before hval0 hW hcnd hcond hsz0 hL _ _
  have hT := Go.Proofs.YtimkclpogbfciaaDoor.tabs_met Rows.diffKnownRow.laid rfl hL
  have hsz : (DataW.weightsEach Tryd.prog (Tryd.f3.params.toList ++ Rows.diffKnownSpec.plain.varTypes Tryd.prog) (ds ++ gs)).all (· ≤ reachBytes) = true := hsz0
  have hval : ∀ (j : Nat) t v, Tryd.f3.params[j]? = some t → args[j]? = some v → Value.okWide Tryd.prog W .any base t v := hval0
  have hW' := hW
  obtain ⟨p, q, hA0, hV, rfl, hfz, hnd⟩ := hW
  have hA : DataW.TrodAll enc Tryd.prog W 0 (fun _ => true) true Tryd.f3.params.toList args.toList ds p := hA0
  rw [Tryd.params3] at hA hval hsz
  obtain ⟨hargs, rfl, rfl⟩ := trodAll_nil hA
  obtain rfl : args = #[] := by cases args; simp_all
  obtain ⟨rfl, rfl⟩ := trodVars_none hV
  clear hA0 hval0 hsz0 hsz
  obtain ⟨n, hn⟩ := Go.Proofs.YtimkclpogbfciaaDoor.W.diffKnown_law  
  refine (Go.Eng.FuncOk.rows (W := W) hT (K := 0) (xs := []) (b := true) (show Go.Eng.FuncOk Tryd.prog 3 [] [] (.t (.sc (.bool true))) [] from Go.Proofs.YtimkclpogbfciaaDoor.W.m_suturelaw7_DiffKnown_ok n (()) true hn) .nil).mono fun e W' ⟨he, bel⟩ => ?_
  subst he
  exact ⟨_, rfl, _, _, _, [], _, [], hW', trodAll_mk1 (shut_bool Tryd.underlying4 _), trodAll_mk0, rfl, bel.frame _, fun h => by cases h⟩
theorem over : Rows.diffKnownRow.holds Tryd.pinned (OpenSpec.ofChange Rows.diffKnownSpec) :=
  OpenClaim.holds_of_cond 3 Tryd.f3 rfl rfl rfl rfl rfl rfl rfl ⟨rfl, rfl, rfl, rfl, rfl⟩ rfl rfl rfl rfl rfl (by kernel_rfl) Tryd.func3 (by kernel_rfl)
    (of_decide_eq_true (by kernel_rfl)) (by unfold Func.isWrapper; first | (rw [if_pos (by decide +kernel)]; kernel_rfl) | (rw [if_neg (by decide +kernel)]; exact ⟨rfl, rfl⟩))
    (fun os started H enc _ F => by rw [OpenClaim.pre_eq_preRow]; exact lifted os started H enc F)
theorem proved : Rows.DiffKnownSaid := over
/-- THE TIED CARD. -/
theorem card_holds : Rows.DiffKnownCardSaid :=
  Claim7.holds_tied_plain_at .later [] [.data, .data, .data, .data, .sentinel, .sentinel, .pinned] true (true, "2f864645de4e56908ac717230d52a4fb02bdb56eb44d794434b1dda410a514d4") true
    proved (fun _ h => by cases h) (by kernel_rfl) (fun _ h => by cases h) diffKnown_row_tie rfl ⟨rfl, rfl⟩ (by kernel_rfl) rfl
    (fun f fn hf hfn => by
      obtain rfl : f = 3 := Option.some.inj ((show Tryd.prog.funcNamed "suture/suturelaw7.DiffKnown" = some 3 by kernel_rfl).symm.trans hf) |>.symm
      obtain rfl : fn = Tryd.f3 := (Option.some.inj (Tryd.func3.symm.trans hfn)).symm
      exact ⟨by kernel_rfl, fun j t ht => by
        rw [Tryd.params3] at ht
        have hm : t ∈ [] := by simpa using Array.mem_of_getElem? ht
        have hall : ([].all fun u => !Tryd.prog.wantsStandIn u) = true := by kernel_rfl
        exact (show Tryd.prog.wantsStandIn t = false by simpa using List.all_eq_true.1 hall t hm)⟩)
    (by kernel_rfl)
end Go.Proofs.YtimkclpogbfciaaDoor.diffKnown
namespace Go.Proofs.YtimkclpogbfciaaDoor
/-- The tied card, under a short name, for the claim. -/
theorem diffKnown_holds : Rows.DiffKnownCardSaid := diffKnown.card_holds
#print axioms diffKnown_holds
end Go.Proofs.YtimkclpogbfciaaDoor
