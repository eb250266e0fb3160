/- DiffTells: the law holds: its functions come, by the engine, to the printed models, and these to what the law says. No conditions. -/
import Derived.Test.YtimkclpogbfciaaDoorZBDiffTells
import Derived.Test.YtimkclpogbfciaaDoorEngWF
import Derived.Test.YtimkclpogbfciaaDoorTie
import Derived.Test.YtimkclpogbfciaaDoorCards
import Derived.Test.YtimkclpogbfciaaDoorTab
import Derived.Deep.DeepHandedRow
import Derived.Deep.DeepWitnessRowRef
import Derived.LaidMore
import Derived.LaidHandle
import Derived.Stop.Joined
import Derived.SevenTiedAt
namespace Go.Proofs.YtimkclpogbfciaaDoor.diffTells
open Go.ChangeShapes Go.WideShapes Go.ChangeAt Go.RowKit
open Go.ChangeMaps (open_string shut_string)
set_option linter.unusedVariables false
theorem own : ownKnob Tryd.prog.godebug = none := by kernel_rfl
/-- The door's own heap; the pinned table of unicode/utf8 in its place. -/
noncomputable def door7 (os : Os) : World :=
  { World.doorLaid Tryd.prog 400 os with heap := (World.doorLaid Tryd.prog 400 os).heap.modify 4 fun
    | .cells _ t frozen => .cells (Pinned.utf8FirstZ.map fun (z : Nat) => Value.int .u8 z).toArray t frozen
    | o => o }
theorem laidOut : laidOutB Tryd.prog = true := by kernel_rfl
/-- The door's own heap meets the condition. -/
theorem door_met (os : Os) (args : Array Value) : laidMet Tryd.prog Rows.diffTellsUptoRow.laid ((door7 os).forCall (fun _ _ => 0) ⟨#[], args, []⟩).memory :=
  laidMet_of_run' 8 (by kernel_rfl) (by kernel_rfl)
theorem reads (os : Os) {H : Type} (enc : TypeId × Value → H) : ∃ places, DataW.whole enc Tryd.prog ((door7 os).forCall (fun _ _ => 0) ⟨#[], #[.slice none 0 0, .slice none 0 0, .bool false, .string ByteArray.empty, .string ByteArray.empty, .bool false, .int .i64 0, .int .i64 0], []⟩).memory Tryd.f4.params.toList Rows.diffTellsSpec.vars false #[.slice none 0 0, .slice none 0 0, .bool false, .string ByteArray.empty, .string ByteArray.empty, .bool false, .int .i64 0, .int .i64 0].toList 8 = some ([.nil, .nil, .lit (.bool false), .lit (.string []), .lit (.string []), .lit (.bool false), .lit (.int .i64 0), .lit (.int .i64 0)], [], places) :=
  ⟨[], by kernel_rfl⟩
set_option maxRecDepth 100000 in
theorem lifted (os : Os) (started : os.Started) (H : Type) (enc : TypeId × Value → H) (F : Stop.Interp) :
    ReturnsInHanded {} Tryd.checked os 4 .any ((Rows.OpenSpec.upto Rows.diffTellsSpec).preRow enc Tryd.prog Tryd.f4 Rows.diffTellsUptoRow.domain false Rows.diffTellsUptoRow.laid) (((Rows.OpenSpec.upto Rows.diffTellsSpec).at F).post enc Tryd.prog Tryd.f4 false true false false) := by
  obtain ⟨places, hx⟩ := reads os enc
  refine returnsInHanded_of_row (C := Tryd.checked) (s := Rows.OpenSpec.upto Rows.diffTellsSpec) own started (by kernel_rfl) Tryd.func4
    (Go.witness_row_atRef (enc := enc) (C := Tryd.checked) false (door7 os) #[.slice none 0 0, .slice none 0 0, .bool false, .string ByteArray.empty, .string ByteArray.empty, .bool false, .int .i64 0, .int .i64 0] rfl (by kernel_rfl) (by kernel_rfl) (by kernel_rfl)
      (OpenSpec.preRow_of_cond 8 hx (by kernel_rfl) (fun k hk => by cases hk; kernel_rfl) (by kernel_rfl) (door_met os _))) ?_
  intro W base args ds gs before hval0 hW hcnd hcond hsz0 hL _ _
  have hT := Go.Proofs.YtimkclpogbfciaaDoor.tabs_met Rows.diffTellsUptoRow.laid rfl hL
  have hsz : (DataW.weightsEach Tryd.prog (Tryd.f4.params.toList ++ Rows.diffTellsSpec.plain.varTypes Tryd.prog) (ds ++ gs)).all (· ≤ reachBytes) = true := hsz0
  have hbulk0 := hcond _ rfl
  have hbulk : Rows.uptoBulkAll (ds ++ gs) ≤ 1048576 := of_decide_eq_true hbulk0
  have hval : ∀ (j : Nat) t v, Tryd.f4.params[j]? = some t → args[j]? = some v → Value.okWide Tryd.prog W .any base t v := hval0
  have hW' := hW
  obtain ⟨p, q, hA0, hV, rfl, hfz, hnd⟩ := hW
  have hA : DataW.TrodAll enc Tryd.prog W 0 (fun _ => true) true Tryd.f4.params.toList args.toList ds p := hA0
  rw [Tryd.params4] at hA hval hsz
  obtain ⟨v0, vs0, d0, ds0, p0, q0, hargs, rfl, rfl, h0, r0⟩ := trodAll_cons hA
  obtain ⟨v1, vs1, d1, ds1, p1, q1, rfl, rfl, rfl, h1, r1⟩ := trodAll_cons r0
  obtain ⟨v2, vs2, d2, ds2, p2, q2, rfl, rfl, rfl, h2, r2⟩ := trodAll_cons r1
  obtain ⟨v3, vs3, d3, ds3, p3, q3, rfl, rfl, rfl, h3, r3⟩ := trodAll_cons r2
  obtain ⟨v4, vs4, d4, ds4, p4, q4, rfl, rfl, rfl, h4, r4⟩ := trodAll_cons r3
  obtain ⟨v5, vs5, d5, ds5, p5, q5, rfl, rfl, rfl, h5, r5⟩ := trodAll_cons r4
  obtain ⟨v6, vs6, d6, ds6, p6, q6, rfl, rfl, rfl, h6, r6⟩ := trodAll_cons r5
  obtain ⟨v7, vs7, d7, ds7, p7, q7, rfl, rfl, rfl, h7, r7⟩ := trodAll_cons r6
  obtain ⟨rfl, rfl, rfl⟩ := trodAll_nil r7
  obtain rfl : args = #[v0, v1, v2, v3, v4, v5, v6, v7] := by cases args; simp_all
  obtain ⟨rfl, rfl⟩ := trodVars_none hV
  have k0 := h0
  have lt0 : ∀ x ∈ p0, x.block < W.heap.size := by obtain ⟨m, hm⟩ := k0; exact DataW.trod_lt m _ _ _ hm
  obtain ⟨a0, len0, cap0, z0, rfl, ro0, w0, dl0⟩ := Go.Eng.open_introw Tryd.underlying30 Tryd.underlying3 (by kernel_rfl) (hval 0 30 v0 rfl rfl) h0
  have zl0 : z0.length ≤ 17592186044416 := by
    rcases dl0 with h | ⟨el, sp, h, hle⟩
    · rw [h]; exact Nat.zero_le _
    · have hh := sized_slice hsz (j := 0) (t := 30) (e := 3) (elems := el) (spare := sp) rfl (by rw [h]; rfl) Tryd.underlying30
      have hb : Tryd.prog.bytesOf 3 = 8 := by kernel_rfl
      have hr := reachBytes_lt
      rw [hb] at hh
      omega
  have k1 := h1
  have lt1 : ∀ x ∈ p1, x.block < W.heap.size := by obtain ⟨m, hm⟩ := k1; exact DataW.trod_lt m _ _ _ hm
  obtain ⟨a1, len1, cap1, z1, rfl, ro1, w1, dl1⟩ := Go.Eng.open_introw Tryd.underlying30 Tryd.underlying3 (by kernel_rfl) (hval 1 30 v1 rfl rfl) h1
  have zl1 : z1.length ≤ 17592186044416 := by
    rcases dl1 with h | ⟨el, sp, h, hle⟩
    · rw [h]; exact Nat.zero_le _
    · have hh := sized_slice hsz (j := 1) (t := 30) (e := 3) (elems := el) (spare := sp) rfl (by rw [h]; rfl) Tryd.underlying30
      have hb : Tryd.prog.bytesOf 3 = 8 := by kernel_rfl
      have hr := reachBytes_lt
      rw [hb] at hh
      omega
  obtain ⟨a2, rfl, rfl, rfl⟩ := open_bool Tryd.underlying4 (hval 2 4 v2 rfl rfl) h2
  obtain ⟨a3, rfl, rfl, rfl, y3⟩ := open_string Tryd.underlying9 (hval 3 9 v3 rfl rfl) h3
  have w3 : a3.size ≤ 140737488351232 := by
    have z := sized_string hsz (j := 3) (t := 9) rfl rfl
    rw [Array.length_toList] at z
    exact z
  obtain ⟨a4, rfl, rfl, rfl, y4⟩ := open_string Tryd.underlying9 (hval 4 9 v4 rfl rfl) h4
  have w4 : a4.size ≤ 140737488351232 := by
    have z := sized_string hsz (j := 4) (t := 9) rfl rfl
    rw [Array.length_toList] at z
    exact z
  obtain ⟨a5, rfl, rfl, rfl⟩ := open_bool Tryd.underlying4 (hval 5 4 v5 rfl rfl) h5
  obtain ⟨a6, rfl, rfl, rfl, w6⟩ := open_int Tryd.underlying3 (hval 6 3 v6 rfl rfl) h6
  obtain ⟨a7, rfl, rfl, rfl, w7⟩ := open_int Tryd.underlying3 (hval 7 3 v7 rfl rfl) h7
  simp only [List.append_nil, Rows.uptoBulkAll, Rows.uptoBulk] at hbulk
  have b3 : a3.size ≤ 1048576 := by simp only [Array.length_toList] at hbulk; show a3.data.size ≤ 1048576; omega
  have b4 : a4.size ≤ 1048576 := by simp only [Array.length_toList] at hbulk; show a4.data.size ≤ 1048576; omega
  clear hA0 hval0 hsz0 hsz
  obtain ⟨n, hn⟩ := Go.Proofs.YtimkclpogbfciaaDoor.W.diffTells_law z0 z1 a2 a3 a4 a5 a6 a7 w0 zl0 w1 zl1 b3 b4 w6 w7
  refine (Go.Eng.FuncOk.rows (W := W) hT (K := Go.Eng.rowEnd a0 len0 + Go.Eng.rowEnd a1 len1) (xs := [.slice a0 len0 cap0, .slice a1 len1 cap1, .bool a2, .string a3, .string a4, .bool a5, .int .i64 a6, .int .i64 a7]) (b := true) (show Go.Eng.FuncOk Tryd.prog 4 [.t (.list (Go.Eng.ints .i64 z0)), .t (.list (Go.Eng.ints .i64 z1)), .t (.sc (.bool a2)), .t (.sc (.string a3)), .t (.sc (.string a4)), .t (.sc (.bool a5)), .t (.sc (.int .i64 a6)), .t (.sc (.int .i64 a7))] [] (.t (.sc (.bool true))) [] from Go.Proofs.YtimkclpogbfciaaDoor.W.m_suturelaw7_DiffTells_ok n ((Go.Eng.ints .i64 z0), (Go.Eng.ints .i64 z1), a2, a3, a4, a5, a6, a7, ()) true hn) (.cons (ro0.rt' (by omega)) (.cons (ro1.rt' (by omega)) (.cons (.sc _ rfl) (.cons (.sc _ rfl) (.cons (.sc _ rfl) (.cons (.sc _ rfl) (.cons (.sc _ rfl) (.cons (.sc _ rfl) .nil))))))))).mono fun e W' ⟨he, bel⟩ => ?_
  subst he
  exact ⟨_, rfl, _, _, _, [], _, [], hW', trodAll_mk1 (shut_bool Tryd.underlying4 _), (trodAll_cons_mk (Below.trod laidOut (by kernel_rfl) (of_decide_eq_true (by kernel_rfl)) k0 bel lt0) (trodAll_cons_mk (Below.trod laidOut (by kernel_rfl) (of_decide_eq_true (by kernel_rfl)) k1 bel lt1) (trodAll_cons_mk (shut_bool Tryd.underlying4 _) (trodAll_cons_mk (shut_string Tryd.underlying9 y3) (trodAll_cons_mk (shut_string Tryd.underlying9 y4) (trodAll_cons_mk (shut_bool Tryd.underlying4 _) (trodAll_cons_mk (shut_int Tryd.underlying3 w6) (trodAll_cons_mk (shut_int Tryd.underlying3 w7) trodAll_mk0)))))))), rfl, bel.frame _, fun h => by cases h⟩
theorem over : Rows.diffTellsUptoRow.holds Tryd.pinned (Rows.OpenSpec.upto Rows.diffTellsSpec) :=
  OpenClaim.holds_of_cond 4 Tryd.f4 rfl rfl rfl rfl rfl rfl rfl ⟨rfl, rfl, rfl, rfl, rfl⟩ rfl rfl rfl rfl rfl (by kernel_rfl) Tryd.func4 (by kernel_rfl)
    (of_decide_eq_true (by kernel_rfl)) (by unfold Func.isWrapper; first | (rw [if_pos (by decide +kernel)]; kernel_rfl) | (rw [if_neg (by decide +kernel)]; exact ⟨rfl, rfl⟩))
    (fun os started H enc _ F => by rw [OpenClaim.pre_eq_preRow]; exact lifted os started H enc F)
theorem proved : Rows.DiffTellsUptoSaid := over
/-- THE TIED CARD. -/
theorem card_holds : Rows.DiffTellsUptoCardSaid :=
  Claim7.holds_tied_plain_at .later [] [.data, .data, .data, .data, .sentinel, .sentinel, .pinned] true (true, "2f864645de4e56908ac717230d52a4fb02bdb56eb44d794434b1dda410a514d4") true
    proved (fun _ h => by cases h) (by kernel_rfl) (fun _ h => by cases h) diffTellsUpto_row_tie rfl ⟨rfl, rfl⟩ (by kernel_rfl) rfl
    (fun f fn hf hfn => by
      obtain rfl : f = 4 := Option.some.inj ((show Tryd.prog.funcNamed "suture/suturelaw7.DiffTells" = some 4 by kernel_rfl).symm.trans hf) |>.symm
      obtain rfl : fn = Tryd.f4 := (Option.some.inj (Tryd.func4.symm.trans hfn)).symm
      exact ⟨by kernel_rfl, fun j t ht => by
        rw [Tryd.params4] at ht
        have hm : t ∈ [30, 30, 4, 9, 9, 4, 3, 3] := by simpa using Array.mem_of_getElem? ht
        have hall : ([30, 30, 4, 9, 9, 4, 3, 3].all fun u => !Tryd.prog.wantsStandIn u) = true := by kernel_rfl
        exact (show Tryd.prog.wantsStandIn t = false by simpa using List.all_eq_true.1 hall t hm)⟩)
    (by kernel_rfl)
end Go.Proofs.YtimkclpogbfciaaDoor.diffTells
namespace Go.Proofs.YtimkclpogbfciaaDoor
/-- The tied card, under a short name, for the claim. -/
theorem diffTells_holds : Rows.DiffTellsUptoCardSaid := diffTells.card_holds
#print axioms diffTells_holds
end Go.Proofs.YtimkclpogbfciaaDoor
