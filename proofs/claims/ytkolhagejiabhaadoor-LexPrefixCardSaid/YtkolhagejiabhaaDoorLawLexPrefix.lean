/- LexPrefix: the law holds: its functions come, by the engine, to the printed models, and these to what the law says. No conditions. -/
import Derived.Test.YtkolhagejiabhaaDoorLJ
import Derived.Test.YtkolhagejiabhaaDoorEngWF
import Derived.Test.YtkolhagejiabhaaDoorTie
import Derived.Test.YtkolhagejiabhaaDoorCards
import Derived.Test.YtkolhagejiabhaaDoorTab
import Derived.Deep.DeepHandedRow
import Derived.Deep.DeepWitnessRowRef
import Derived.LaidMore
import Derived.LaidHandle
import Derived.Stop.Joined
import Derived.SevenTiedAt
namespace Go.Proofs.YtkolhagejiabhaaDoor.lexPrefix
open Go.ChangeShapes Go.WideShapes Go.ChangeAt Go.RowKit
open Go.ChangeMaps (open_string shut_string)
set_option linter.unusedVariables false
theorem own : ownKnob Tryd.prog.godebug = none := by kernel_rfl
theorem laidOut : laidOutB Tryd.prog = true := by kernel_rfl
/-- The door's own heap meets the condition. -/
theorem door_met (os : Os) (args : Array Value) : laidMet Tryd.prog Rows.lexPrefixRow.laid ((World.doorLaid Tryd.prog 400 os).forCall (fun _ _ => 0) ⟨#[], args, []⟩).memory :=
  laidMet_of_run' 8 (by kernel_rfl) (by kernel_rfl)
theorem reads (os : Os) {H : Type} (enc : TypeId × Value → H) : ∃ places, DataW.whole enc Tryd.prog ((World.doorLaid Tryd.prog 400 os).forCall (fun _ _ => 0) ⟨#[], #[.slice none 0 0, .slice none 0 0, .string ByteArray.empty], []⟩).memory Tryd.f10.params.toList Rows.lexPrefixSpec.vars false #[.slice none 0 0, .slice none 0 0, .string ByteArray.empty].toList 8 = some ([.nil, .nil, .lit (.string [])], [], places) :=
  ⟨[], by kernel_rfl⟩
set_option maxRecDepth 100000 in
theorem lifted (os : Os) (started : os.Started) (H : Type) (enc : TypeId × Value → H) (F : Stop.Interp) :
    ReturnsInHanded {} Tryd.checked os 10 .any ((OpenSpec.ofChange Rows.lexPrefixSpec).preRow enc Tryd.prog Tryd.f10 Rows.lexPrefixRow.domain false Rows.lexPrefixRow.laid) (((OpenSpec.ofChange Rows.lexPrefixSpec).at F).post enc Tryd.prog Tryd.f10 false true false false) := by
  obtain ⟨places, hx⟩ := reads os enc
  refine returnsInHanded_of_row (C := Tryd.checked) (s := OpenSpec.ofChange Rows.lexPrefixSpec) own started (by kernel_rfl) Tryd.func10
    (Go.witness_row_atRef (enc := enc) (C := Tryd.checked) false (World.doorLaid Tryd.prog 400 os) #[.slice none 0 0, .slice none 0 0, .string ByteArray.empty] rfl (by kernel_rfl) (by kernel_rfl) (by kernel_rfl)
      (OpenSpec.preRow_of_cond 8 hx (by kernel_rfl) (fun k hk => by cases hk) (by kernel_rfl) (door_met os _))) ?_
  intro W base args ds gs before hval0 hW hcnd hcond hsz0 hL _ _
  have hT := Go.Proofs.YtkolhagejiabhaaDoor.tabs_met Rows.lexPrefixRow.laid rfl hL
  have hsz : (DataW.weightsEach Tryd.prog (Tryd.f10.params.toList ++ Rows.lexPrefixSpec.plain.varTypes Tryd.prog) (ds ++ gs)).all (· ≤ reachBytes) = true := hsz0
  have hval : ∀ (j : Nat) t v, Tryd.f10.params[j]? = some t → args[j]? = some v → Value.okWide Tryd.prog W .any base t v := hval0
  have hW' := hW
  obtain ⟨p, q, hA0, hV, rfl, hfz, hnd⟩ := hW
  have hA : DataW.TrodAll enc Tryd.prog W 0 (fun _ => true) true Tryd.f10.params.toList args.toList ds p := hA0
  rw [Tryd.params10] at hA hval hsz
  obtain ⟨v0, vs0, d0, ds0, p0, q0, hargs, rfl, rfl, h0, r0⟩ := trodAll_cons hA
  obtain ⟨v1, vs1, d1, ds1, p1, q1, rfl, rfl, rfl, h1, r1⟩ := trodAll_cons r0
  obtain ⟨v2, vs2, d2, ds2, p2, q2, rfl, rfl, rfl, h2, r2⟩ := trodAll_cons r1
  obtain ⟨rfl, rfl, rfl⟩ := trodAll_nil r2
  obtain rfl : args = #[v0, v1, v2] := by cases args; simp_all
  obtain ⟨rfl, rfl⟩ := trodVars_none hV
  have k0 := h0
  have lt0 : ∀ x ∈ p0, x.block < W.heap.size := by obtain ⟨m, hm⟩ := k0; exact DataW.trod_lt m _ _ _ hm
  obtain ⟨a0, len0, cap0, z0, rfl, ro0, w0, dl0⟩ := Go.Eng.open_introw Tryd.underlying41 Tryd.underlying3 (by kernel_rfl) (hval 0 41 v0 rfl rfl) h0
  have zl0 : z0.length ≤ 17592186044416 := by
    rcases dl0 with h | ⟨el, sp, h, hle⟩
    · rw [h]; exact Nat.zero_le _
    · have hh := sized_slice hsz (j := 0) (t := 41) (e := 3) (elems := el) (spare := sp) rfl (by rw [h]; rfl) Tryd.underlying41
      have hb : Tryd.prog.bytesOf 3 = 8 := by kernel_rfl
      have hr := reachBytes_lt
      rw [hb] at hh
      omega
  have k1 := h1
  have lt1 : ∀ x ∈ p1, x.block < W.heap.size := by obtain ⟨m, hm⟩ := k1; exact DataW.trod_lt m _ _ _ hm
  obtain ⟨a1, len1, cap1, z1, rfl, ro1, w1, dl1⟩ := Go.Eng.open_introw Tryd.underlying41 Tryd.underlying3 (by kernel_rfl) (hval 1 41 v1 rfl rfl) h1
  have zl1 : z1.length ≤ 17592186044416 := by
    rcases dl1 with h | ⟨el, sp, h, hle⟩
    · rw [h]; exact Nat.zero_le _
    · have hh := sized_slice hsz (j := 1) (t := 41) (e := 3) (elems := el) (spare := sp) rfl (by rw [h]; rfl) Tryd.underlying41
      have hb : Tryd.prog.bytesOf 3 = 8 := by kernel_rfl
      have hr := reachBytes_lt
      rw [hb] at hh
      omega
  obtain ⟨a2, rfl, rfl, rfl, y2⟩ := open_string Tryd.underlying9 (hval 2 9 v2 rfl rfl) h2
  have w2 : a2.size ≤ 140737488351232 := by
    have z := sized_string hsz (j := 2) (t := 9) rfl rfl
    rw [Array.length_toList] at z
    exact z
  clear hA0 hval0 hsz0 hsz
  obtain ⟨n, hn⟩ := Go.Proofs.YtkolhagejiabhaaDoor.W.lexPrefix_law z0 z1 a2 w0 zl0 w1 zl1 w2
  refine (Go.Eng.FuncOk.rows (W := W) hT (K := Go.Eng.rowEnd a0 len0 + Go.Eng.rowEnd a1 len1) (xs := [.slice a0 len0 cap0, .slice a1 len1 cap1, .string a2]) (b := true) (Go.Proofs.YtkolhagejiabhaaDoor.W.m_suturelaw2_LexPrefix_ok n (Go.Eng.ints .i64 z0) (Go.Eng.ints .i64 z1) a2 true hn) (.cons (ro0.rt' (by omega)) (.cons (ro1.rt' (by omega)) (.cons (.sc _ rfl) .nil)))).mono fun e W' ⟨he, bel⟩ => ?_
  subst he
  exact ⟨_, rfl, _, _, _, [], _, [], hW', trodAll_mk1 (shut_bool Tryd.underlying4 _), (trodAll_cons_mk (Below.trod laidOut (by kernel_rfl) (of_decide_eq_true (by kernel_rfl)) k0 bel lt0) (trodAll_cons_mk (Below.trod laidOut (by kernel_rfl) (of_decide_eq_true (by kernel_rfl)) k1 bel lt1) (trodAll_cons_mk (shut_string Tryd.underlying9 y2) trodAll_mk0))), rfl, bel.frame _, fun h => by cases h⟩
theorem over : Rows.lexPrefixRow.holds Tryd.pinned (OpenSpec.ofChange Rows.lexPrefixSpec) :=
  OpenClaim.holds_of_cond 10 Tryd.f10 rfl rfl rfl rfl rfl rfl rfl ⟨rfl, rfl, rfl, rfl, rfl⟩ rfl rfl rfl rfl rfl (by kernel_rfl) Tryd.func10 (by kernel_rfl)
    (of_decide_eq_true (by kernel_rfl)) (by unfold Func.isWrapper; first | (rw [if_pos (by decide +kernel)]; kernel_rfl) | (rw [if_neg (by decide +kernel)]; exact ⟨rfl, rfl⟩))
    (fun os started H enc _ F => by rw [OpenClaim.pre_eq_preRow]; exact lifted os started H enc F)
theorem proved : Rows.LexPrefixSaid := over
/-- THE TIED CARD. -/
theorem card_holds : Rows.LexPrefixCardSaid :=
  Claim7.holds_tied_plain_at .later [] [.data, .data, .data, .sentinel, .sentinel] true (true, "798aeafc34c5a1c5ab30c63dc49d93fa153f082819691b03646b869df801b62e") true
    proved (fun _ h => by cases h) (by kernel_rfl) (fun _ h => by cases h) lexPrefix_row_tie rfl ⟨rfl, rfl⟩ (by kernel_rfl) rfl
    (fun f fn hf hfn => by
      obtain rfl : f = 10 := Option.some.inj ((show Tryd.prog.funcNamed "suture/suturelaw2.LexPrefix" = some 10 by kernel_rfl).symm.trans hf) |>.symm
      obtain rfl : fn = Tryd.f10 := (Option.some.inj (Tryd.func10.symm.trans hfn)).symm
      exact ⟨by kernel_rfl, fun j t ht => by
        rw [Tryd.params10] at ht
        have hm : t ∈ [41, 41, 9] := by simpa using Array.mem_of_getElem? ht
        have hall : ([41, 41, 9].all fun u => !Tryd.prog.wantsStandIn u) = true := by kernel_rfl
        exact (show Tryd.prog.wantsStandIn t = false by simpa using List.all_eq_true.1 hall t hm)⟩)
    (by kernel_rfl)
end Go.Proofs.YtkolhagejiabhaaDoor.lexPrefix
namespace Go.Proofs.YtkolhagejiabhaaDoor
/-- The tied card, under a short name, for the claim. -/
theorem lexPrefix_holds : Rows.LexPrefixCardSaid := lexPrefix.card_holds
#print axioms lexPrefix_holds
end Go.Proofs.YtkolhagejiabhaaDoor
