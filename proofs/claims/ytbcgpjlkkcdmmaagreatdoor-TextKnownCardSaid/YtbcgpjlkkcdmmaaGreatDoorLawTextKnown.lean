/- TextKnown: the law holds: its functions come, by the engine, to the printed models, and these to what the law says. No conditions. -/
import Derived.Test.YtbcgpjlkkcdmmaaGreatDoorZBTextKnown
import Derived.Test.YtbcgpjlkkcdmmaaGreatDoorEngWI
import Derived.Test.YtbcgpjlkkcdmmaaGreatDoorTie
import Derived.Test.YtbcgpjlkkcdmmaaGreatDoorCards
import Derived.Test.YtbcgpjlkkcdmmaaGreatDoorTab
import Derived.Deep.DeepHandedRow
import Derived.Deep.DeepWitnessRowRef
import Derived.LaidMore
import Derived.LaidHandle
import Derived.Stop.Joined
import Derived.SevenTiedAt
namespace Go.Proofs.YtbcgpjlkkcdmmaaGreatDoor.textKnown
open Go.ChangeShapes Go.WideShapes Go.ChangeAt Go.RowKit
open Go.ChangeMaps (open_string shut_string)
set_option linter.unusedVariables false
theorem own : ownKnob Tryz.prog.godebug = none := by kernel_rfl
/-- The door's own heap meets the condition. -/
theorem door_met (os : Os) (args : Array Value) : laidMet Tryz.prog Rows.textKnownRow.laid ((World.doorLaid Tryz.prog 400 os).forCall (fun _ _ => 0) ⟨#[], args, []⟩).memory :=
  laidMet_of_run' 8 (by kernel_rfl) (by kernel_rfl)
theorem reads (os : Os) {H : Type} (enc : TypeId × Value → H) : ∃ places, DataW.whole enc Tryz.prog ((World.doorLaid Tryz.prog 400 os).forCall (fun _ _ => 0) ⟨#[], #[], []⟩).memory Tryz.f9.params.toList Rows.textKnownSpec.vars false #[].toList 8 = some ([], [], places) :=
  ⟨[], by kernel_rfl⟩
set_option maxRecDepth 100000 in
theorem lifted (os : Os) (started : os.Started) (H : Type) (enc : TypeId × Value → H) (F : Stop.Interp) :
    ReturnsInHanded {} Tryz.checked os 9 .any ((OpenSpec.ofChange Rows.textKnownSpec).preRow enc Tryz.prog Tryz.f9 Rows.textKnownRow.domain false Rows.textKnownRow.laid) (((OpenSpec.ofChange Rows.textKnownSpec).at F).post enc Tryz.prog Tryz.f9 false true false false) := by
  obtain ⟨places, hx⟩ := reads os enc
  refine returnsInHanded_of_row (C := Tryz.checked) (s := OpenSpec.ofChange Rows.textKnownSpec) own started (by kernel_rfl) Tryz.func9
    (Go.witness_row_atRef (enc := enc) (C := Tryz.checked) false (World.doorLaid Tryz.prog 400 os) #[] rfl (by kernel_rfl) (by kernel_rfl) (by kernel_rfl)
      (OpenSpec.preRow_of_cond 8 hx (by kernel_rfl) (fun k hk => by cases hk) (by kernel_rfl) (door_met os _))) ?_
  intro W base args ds gs before hval0 hW hcnd hcond hsz0 hL _ _
  have hT := Go.Proofs.YtbcgpjlkkcdmmaaGreatDoor.tabs_met Rows.textKnownRow.laid rfl hL
  have hsz : (DataW.weightsEach Tryz.prog (Tryz.f9.params.toList ++ Rows.textKnownSpec.plain.varTypes Tryz.prog) (ds ++ gs)).all (· ≤ reachBytes) = true := hsz0
  have hval : ∀ (j : Nat) t v, Tryz.f9.params[j]? = some t → args[j]? = some v → Value.okWide Tryz.prog W .any base t v := hval0
  have hW' := hW
  obtain ⟨p, q, hA0, hV, rfl, hfz, hnd⟩ := hW
  have hA : DataW.TrodAll enc Tryz.prog W 0 (fun _ => true) true Tryz.f9.params.toList args.toList ds p := hA0
  rw [Tryz.params9] at hA hval hsz
  obtain ⟨hargs, rfl, rfl⟩ := trodAll_nil hA
  obtain rfl : args = #[] := by cases args; simp_all
  obtain ⟨rfl, rfl⟩ := trodVars_none hV
  clear hA0 hval0 hsz0 hsz
  obtain ⟨n, hn⟩ := Go.Proofs.YtbcgpjlkkcdmmaaGreatDoor.W.textKnown_law  
  refine (Go.Eng.FuncOk.rowsF (W := W) hT (xs := []) (b := true) (show Go.Eng.FuncOk Tryz.prog 9 [] [] (.t (.sc (.bool true))) [] from Go.Proofs.YtbcgpjlkkcdmmaaGreatDoor.W.m_suturelaw6_TextKnown_ok n (()) true hn) .nil).mono fun e W' ⟨he, bel⟩ => ?_
  subst he
  exact ⟨_, rfl, _, _, _, [], _, [], hW', trodAll_mk1 (shut_bool Tryz.underlying4 _), trodAll_mk0, rfl, bel.frame _, fun h => by cases h⟩
theorem over : Rows.textKnownRow.holds Tryz.pinned (OpenSpec.ofChange Rows.textKnownSpec) :=
  OpenClaim.holds_of_cond 9 Tryz.f9 rfl rfl rfl rfl rfl rfl rfl ⟨rfl, rfl, rfl, rfl, rfl⟩ rfl rfl rfl rfl rfl (by kernel_rfl) Tryz.func9 (by kernel_rfl)
    (of_decide_eq_true (by kernel_rfl)) (by unfold Func.isWrapper; first | (rw [if_pos (by decide +kernel)]; kernel_rfl) | (rw [if_neg (by decide +kernel)]; exact ⟨rfl, rfl⟩))
    (fun os started H enc _ F => by rw [OpenClaim.pre_eq_preRow]; exact lifted os started H enc F)
theorem proved : Rows.TextKnownSaid := over
/-- THE TIED CARD. -/
theorem card_holds : Rows.TextKnownCardSaid :=
  Claim7.holds_tied_plain_at .later [] [.data, .data, .data, .sentinel, .sentinel] true (true, "55acbf8bfaf03e830544195ce0ebbb805c8d27e8bd62f7d33b04c96d12e8891f") true
    proved (fun _ h => by cases h) (by kernel_rfl) (fun _ h => by cases h) textKnown_row_tie rfl ⟨rfl, rfl⟩ (by kernel_rfl) rfl
    (fun f fn hf hfn => by
      obtain rfl : f = 9 := Option.some.inj ((show Tryz.prog.funcNamed "suture/suturelaw6.TextKnown" = some 9 by kernel_rfl).symm.trans hf) |>.symm
      obtain rfl : fn = Tryz.f9 := (Option.some.inj (Tryz.func9.symm.trans hfn)).symm
      exact ⟨by kernel_rfl, fun j t ht => by
        rw [Tryz.params9] at ht
        have hm : t ∈ [] := by simpa using Array.mem_of_getElem? ht
        have hall : ([].all fun u => !Tryz.prog.wantsStandIn u) = true := by kernel_rfl
        exact (show Tryz.prog.wantsStandIn t = false by simpa using List.all_eq_true.1 hall t hm)⟩)
    (by kernel_rfl)
end Go.Proofs.YtbcgpjlkkcdmmaaGreatDoor.textKnown
namespace Go.Proofs.YtbcgpjlkkcdmmaaGreatDoor
/-- The tied card, under a short name, for the claim. -/
theorem textKnown_holds : Rows.TextKnownCardSaid := textKnown.card_holds
#print axioms textKnown_holds
end Go.Proofs.YtbcgpjlkkcdmmaaGreatDoor
