/- DiffSides: the law holds: its functions come, by the engine, to the printed models, and these to what the law says. No conditions. -/
import Derived.Test.YtimkclpogbfciaaDoorZBDiffSides
import Derived.Test.YtimkclpogbfciaaDoorEngWF
import Derived.Test.YtimkclpogbfciaaDoorTie
import Derived.Test.YtimkclpogbfciaaDoorCards
import Derived.Test.YtimkclpogbfciaaDoorTab
import Derived.Deep.DeepHandedRow
import Derived.Deep.DeepWitnessRowRef
import Derived.LaidMore
import Derived.LaidHandle
import Derived.Stop.Joined
import Derived.SevenTiedAt
namespace Go.Proofs.YtimkclpogbfciaaDoor.diffSides
open Go.ChangeShapes Go.WideShapes Go.ChangeAt Go.RowKit
open Go.ChangeMaps (open_string shut_string)
set_option linter.unusedVariables false
theorem own : ownKnob Tryd.prog.godebug = none := by kernel_rfl
/-- The door's own heap; the pinned table of unicode/utf8 in its place. -/
noncomputable def door7 (os : Os) : World :=
  { World.doorLaid Tryd.prog 400 os with heap := (World.doorLaid Tryd.prog 400 os).heap.modify 4 fun
    | .cells _ t frozen => .cells (Pinned.utf8FirstZ.map fun (z : Nat) => Value.int .u8 z).toArray t frozen
    | o => o }
theorem laidOut : laidOutB Tryd.prog = true := by kernel_rfl
/-- The door's own heap meets the condition. -/
theorem door_met (os : Os) (args : Array Value) : laidMet Tryd.prog Rows.diffSidesRow.laid ((door7 os).forCall (fun _ _ => 0) ⟨#[], args, []⟩).memory :=
  laidMet_of_run' 8 (by kernel_rfl) (by kernel_rfl)
theorem reads (os : Os) {H : Type} (enc : TypeId × Value → H) : ∃ places, DataW.whole enc Tryd.prog ((door7 os).forCall (fun _ _ => 0) ⟨#[], #[.slice none 0 0, .slice none 0 0, .slice none 0 0, .slice none 0 0], []⟩).memory Tryd.f7.params.toList Rows.diffSidesSpec.vars false #[.slice none 0 0, .slice none 0 0, .slice none 0 0, .slice none 0 0].toList 8 = some ([.nil, .nil, .nil, .nil], [], places) :=
  ⟨[], by kernel_rfl⟩
set_option maxRecDepth 100000 in
theorem lifted (os : Os) (started : os.Started) (H : Type) (enc : TypeId × Value → H) (F : Stop.Interp) :
    ReturnsInHanded {} Tryd.checked os 7 .any ((OpenSpec.ofChange Rows.diffSidesSpec).preRow enc Tryd.prog Tryd.f7 Rows.diffSidesRow.domain false Rows.diffSidesRow.laid) (((OpenSpec.ofChange Rows.diffSidesSpec).at F).post enc Tryd.prog Tryd.f7 false true false false) := by
  obtain ⟨places, hx⟩ := reads os enc
  refine returnsInHanded_of_row (C := Tryd.checked) (s := OpenSpec.ofChange Rows.diffSidesSpec) own started (by kernel_rfl) Tryd.func7
    (Go.witness_row_atRef (enc := enc) (C := Tryd.checked) false (door7 os) #[.slice none 0 0, .slice none 0 0, .slice none 0 0, .slice none 0 0] rfl (by kernel_rfl) (by kernel_rfl) (by kernel_rfl)
      (OpenSpec.preRow_of_cond 8 hx (by kernel_rfl) (fun k hk => by cases hk) (by kernel_rfl) (door_met os _))) ?_
  intro W base args ds gs before hval0 hW hcnd hcond hsz0 hL _ _
  have hT := Go.Proofs.YtimkclpogbfciaaDoor.tabs_met Rows.diffSidesRow.laid rfl hL
  have hsz : (DataW.weightsEach Tryd.prog (Tryd.f7.params.toList ++ Rows.diffSidesSpec.plain.varTypes Tryd.prog) (ds ++ gs)).all (· ≤ reachBytes) = true := hsz0
  have hval : ∀ (j : Nat) t v, Tryd.f7.params[j]? = some t → args[j]? = some v → Value.okWide Tryd.prog W .any base t v := hval0
  have hW' := hW
  obtain ⟨p, q, hA0, hV, rfl, hfz, hnd⟩ := hW
  have hA : DataW.TrodAll enc Tryd.prog W 0 (fun _ => true) true Tryd.f7.params.toList args.toList ds p := hA0
  rw [Tryd.params7] at hA hval hsz
  obtain ⟨v0, vs0, d0, ds0, p0, q0, hargs, rfl, rfl, h0, r0⟩ := trodAll_cons hA
  obtain ⟨v1, vs1, d1, ds1, p1, q1, rfl, rfl, rfl, h1, r1⟩ := trodAll_cons r0
  obtain ⟨v2, vs2, d2, ds2, p2, q2, rfl, rfl, rfl, h2, r2⟩ := trodAll_cons r1
  obtain ⟨v3, vs3, d3, ds3, p3, q3, rfl, rfl, rfl, h3, r3⟩ := trodAll_cons r2
  obtain ⟨rfl, rfl, rfl⟩ := trodAll_nil r3
  obtain rfl : args = #[v0, v1, v2, v3] := by cases args; simp_all
  obtain ⟨rfl, rfl⟩ := trodVars_none hV
  have k0 := h0
  have lt0 : ∀ x ∈ p0, x.block < W.heap.size := by obtain ⟨m, hm⟩ := k0; exact DataW.trod_lt m _ _ _ hm
  obtain ⟨a0, len0, cap0, z0, rfl, ro0, w0, dl0⟩ := Go.Eng.open_introw Tryd.underlying30 Tryd.underlying3 (by kernel_rfl) (hval 0 30 v0 rfl rfl) h0
  have zl0 : z0.length ≤ 17592186044416 := by
    rcases dl0 with h | ⟨el, sp, h, hle⟩
    · rw [h]; exact Nat.zero_le _
    · have hh := sized_slice hsz (j := 0) (t := 30) (e := 3) (elems := el) (spare := sp) rfl (by rw [h]; rfl) Tryd.underlying30
      have hb : Tryd.prog.bytesOf 3 = 8 := by kernel_rfl
      have hr := reachBytes_lt
      rw [hb] at hh
      omega
  have k1 := h1
  have lt1 : ∀ x ∈ p1, x.block < W.heap.size := by obtain ⟨m, hm⟩ := k1; exact DataW.trod_lt m _ _ _ hm
  obtain ⟨a1, len1, cap1, z1, rfl, ro1, w1, dl1⟩ := Go.Eng.open_introw Tryd.underlying30 Tryd.underlying3 (by kernel_rfl) (hval 1 30 v1 rfl rfl) h1
  have zl1 : z1.length ≤ 17592186044416 := by
    rcases dl1 with h | ⟨el, sp, h, hle⟩
    · rw [h]; exact Nat.zero_le _
    · have hh := sized_slice hsz (j := 1) (t := 30) (e := 3) (elems := el) (spare := sp) rfl (by rw [h]; rfl) Tryd.underlying30
      have hb : Tryd.prog.bytesOf 3 = 8 := by kernel_rfl
      have hr := reachBytes_lt
      rw [hb] at hh
      omega
  have k2 := h2
  have lt2 : ∀ x ∈ p2, x.block < W.heap.size := by obtain ⟨m, hm⟩ := k2; exact DataW.trod_lt m _ _ _ hm
  obtain ⟨a2, len2, cap2, z2, rfl, ro2, w2, dl2⟩ := Go.Eng.open_introw Tryd.underlying30 Tryd.underlying3 (by kernel_rfl) (hval 2 30 v2 rfl rfl) h2
  have zl2 : z2.length ≤ 17592186044416 := by
    rcases dl2 with h | ⟨el, sp, h, hle⟩
    · rw [h]; exact Nat.zero_le _
    · have hh := sized_slice hsz (j := 2) (t := 30) (e := 3) (elems := el) (spare := sp) rfl (by rw [h]; rfl) Tryd.underlying30
      have hb : Tryd.prog.bytesOf 3 = 8 := by kernel_rfl
      have hr := reachBytes_lt
      rw [hb] at hh
      omega
  have k3 := h3
  have lt3 : ∀ x ∈ p3, x.block < W.heap.size := by obtain ⟨m, hm⟩ := k3; exact DataW.trod_lt m _ _ _ hm
  obtain ⟨a3, len3, cap3, z3, rfl, ro3, w3, dl3⟩ := Go.Eng.open_introw Tryd.underlying30 Tryd.underlying3 (by kernel_rfl) (hval 3 30 v3 rfl rfl) h3
  have zl3 : z3.length ≤ 17592186044416 := by
    rcases dl3 with h | ⟨el, sp, h, hle⟩
    · rw [h]; exact Nat.zero_le _
    · have hh := sized_slice hsz (j := 3) (t := 30) (e := 3) (elems := el) (spare := sp) rfl (by rw [h]; rfl) Tryd.underlying30
      have hb : Tryd.prog.bytesOf 3 = 8 := by kernel_rfl
      have hr := reachBytes_lt
      rw [hb] at hh
      omega
  clear hA0 hval0 hsz0 hsz
  obtain ⟨n, hn⟩ := Go.Proofs.YtimkclpogbfciaaDoor.W.diffSides_law z0 z1 z2 z3 w0 zl0 w1 zl1 w2 zl2 w3 zl3
  refine (Go.Eng.FuncOk.rows (W := W) hT (K := Go.Eng.rowEnd a0 len0 + Go.Eng.rowEnd a1 len1 + Go.Eng.rowEnd a2 len2 + Go.Eng.rowEnd a3 len3) (xs := [.slice a0 len0 cap0, .slice a1 len1 cap1, .slice a2 len2 cap2, .slice a3 len3 cap3]) (b := true) (show Go.Eng.FuncOk Tryd.prog 7 [.t (.list (Go.Eng.ints .i64 z0)), .t (.list (Go.Eng.ints .i64 z1)), .t (.list (Go.Eng.ints .i64 z2)), .t (.list (Go.Eng.ints .i64 z3))] [] (.t (.sc (.bool true))) [] from Go.Proofs.YtimkclpogbfciaaDoor.W.m_suturelaw7_DiffSides_ok n ((Go.Eng.ints .i64 z0), (Go.Eng.ints .i64 z1), (Go.Eng.ints .i64 z2), (Go.Eng.ints .i64 z3), ()) true hn) (.cons (ro0.rt' (by omega)) (.cons (ro1.rt' (by omega)) (.cons (ro2.rt' (by omega)) (.cons (ro3.rt' (by omega)) .nil))))).mono fun e W' ⟨he, bel⟩ => ?_
  subst he
  exact ⟨_, rfl, _, _, _, [], _, [], hW', trodAll_mk1 (shut_bool Tryd.underlying4 _), (trodAll_cons_mk (Below.trod laidOut (by kernel_rfl) (of_decide_eq_true (by kernel_rfl)) k0 bel lt0) (trodAll_cons_mk (Below.trod laidOut (by kernel_rfl) (of_decide_eq_true (by kernel_rfl)) k1 bel lt1) (trodAll_cons_mk (Below.trod laidOut (by kernel_rfl) (of_decide_eq_true (by kernel_rfl)) k2 bel lt2) (trodAll_cons_mk (Below.trod laidOut (by kernel_rfl) (of_decide_eq_true (by kernel_rfl)) k3 bel lt3) trodAll_mk0)))), rfl, bel.frame _, fun h => by cases h⟩
theorem over : Rows.diffSidesRow.holds Tryd.pinned (OpenSpec.ofChange Rows.diffSidesSpec) :=
  OpenClaim.holds_of_cond 7 Tryd.f7 rfl rfl rfl rfl rfl rfl rfl ⟨rfl, rfl, rfl, rfl, rfl⟩ rfl rfl rfl rfl rfl (by kernel_rfl) Tryd.func7 (by kernel_rfl)
    (of_decide_eq_true (by kernel_rfl)) (by unfold Func.isWrapper; first | (rw [if_pos (by decide +kernel)]; kernel_rfl) | (rw [if_neg (by decide +kernel)]; exact ⟨rfl, rfl⟩))
    (fun os started H enc _ F => by rw [OpenClaim.pre_eq_preRow]; exact lifted os started H enc F)
theorem proved : Rows.DiffSidesSaid := over
/-- THE TIED CARD. -/
theorem card_holds : Rows.DiffSidesCardSaid :=
  Claim7.holds_tied_plain_at .later [] [.data, .data, .data, .data, .sentinel, .sentinel, .pinned] true (true, "2f864645de4e56908ac717230d52a4fb02bdb56eb44d794434b1dda410a514d4") true
    proved (fun _ h => by cases h) (by kernel_rfl) (fun _ h => by cases h) diffSides_row_tie rfl ⟨rfl, rfl⟩ (by kernel_rfl) rfl
    (fun f fn hf hfn => by
      obtain rfl : f = 7 := Option.some.inj ((show Tryd.prog.funcNamed "suture/suturelaw7.DiffSides" = some 7 by kernel_rfl).symm.trans hf) |>.symm
      obtain rfl : fn = Tryd.f7 := (Option.some.inj (Tryd.func7.symm.trans hfn)).symm
      exact ⟨by kernel_rfl, fun j t ht => by
        rw [Tryd.params7] at ht
        have hm : t ∈ [30, 30, 30, 30] := by simpa using Array.mem_of_getElem? ht
        have hall : ([30, 30, 30, 30].all fun u => !Tryd.prog.wantsStandIn u) = true := by kernel_rfl
        exact (show Tryd.prog.wantsStandIn t = false by simpa using List.all_eq_true.1 hall t hm)⟩)
    (by kernel_rfl)
end Go.Proofs.YtimkclpogbfciaaDoor.diffSides
namespace Go.Proofs.YtimkclpogbfciaaDoor
/-- The tied card, under a short name, for the claim. -/
theorem diffSides_holds : Rows.DiffSidesCardSaid := diffSides.card_holds
#print axioms diffSides_holds
end Go.Proofs.YtimkclpogbfciaaDoor
