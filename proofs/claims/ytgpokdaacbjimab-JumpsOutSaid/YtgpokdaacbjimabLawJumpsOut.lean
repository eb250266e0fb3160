/- JumpsOut: the law holds: its functions come, by the engine, to the printed models, and these to what the law says. No conditions. -/
import Derived.Test.YtgpokdaacbjimabJL
import Derived.Test.YtgpokdaacbjimabEngWF
namespace Go.Proofs.Ytgpokdaacbjimab.jumpsOut
open Go.ChangeShapes Go.WideShapes Go.ChangeAt Go.RowKit
open Go.ChangeMaps (open_string shut_string)
set_option linter.unusedVariables false
theorem own : ownKnob Try.prog.godebug = none := by kernel_rfl
theorem laidOut : laidOutB Try.prog = true := by kernel_rfl
set_option maxRecDepth 100000 in
theorem lifted (os : Os) (started : os.Started) (H : Type) (enc : TypeId × Value → H) :
    ReturnsInHanded {} Try.checked os 5 .any (Rows.jumpsOutSpec.pre6 enc Try.prog Try.f5 Rows.jumpsOutRow.domain false) (Rows.jumpsOutSpec.post enc Try.prog Try.f5 false true false false) := by
  refine returnsInHanded_of_change_sized (C := Try.checked) own started (by kernel_rfl) Try.func5
    (ChangeSpec.witness6 (enc := enc) (C := Try.checked) false ⟨#[], #[.slice none 0 0], []⟩ 8 (by kernel_rfl) (by kernel_rfl) (by kernel_rfl) (by kernel_rfl)) ?_
  intro W base args ds gs before hval0 hW hcnd hsz0 _
  have hsz : (DataW.weightsEach Try.prog (Try.f5.params.toList ++ Rows.jumpsOutSpec.plain.varTypes Try.prog) (ds ++ gs)).all (· ≤ reachBytes) = true := hsz0
  have hval : ∀ (j : Nat) t v, Try.f5.params[j]? = some t → args[j]? = some v → Value.okWide Try.prog W .any base t v := hval0
  have hW' := hW
  obtain ⟨p, q, hA0, hV, rfl, hfz, hnd⟩ := hW
  have hA : DataW.TrodAll enc Try.prog W 0 (fun _ => true) true Try.f5.params.toList args.toList ds p := hA0
  rw [Try.params5] at hA hval hsz
  obtain ⟨v0, vs0, d0, ds0, p0, q0, hargs, rfl, rfl, h0, r0⟩ := trodAll_cons hA
  obtain ⟨rfl, rfl, rfl⟩ := trodAll_nil r0
  obtain rfl : args = #[v0] := by cases args; simp_all
  obtain ⟨rfl, rfl⟩ := trodVars_none hV
  have k0 := h0
  have lt0 : ∀ x ∈ p0, x.block < W.heap.size := by obtain ⟨m, hm⟩ := k0; exact DataW.trod_lt m _ _ _ hm
  obtain ⟨a0, len0, cap0, z0, rfl, ro0, w0, dl0⟩ := Go.Eng.open_introw Try.underlying37 Try.underlying3 (by kernel_rfl) (hval 0 37 v0 rfl rfl) h0
  have zl0 : z0.length ≤ 17592186044416 := by
    rcases dl0 with h | ⟨el, sp, h, hle⟩
    · rw [h]; exact Nat.zero_le _
    · have hh := sized_slice hsz (j := 0) (t := 37) (e := 3) (elems := el) (spare := sp) rfl (by rw [h]; rfl) Try.underlying37
      have hb : Try.prog.bytesOf 3 = 8 := by kernel_rfl
      have hr := reachBytes_lt
      rw [hb] at hh
      omega
  clear hA0 hval0 hsz0 hsz
  obtain ⟨n, hn⟩ := Go.Proofs.Ytgpokdaacbjimab.W.jumpsOut_law z0 w0 zl0
  refine (Go.Eng.FuncOk.rows (Go.Eng.tabs_none rfl) (W := W) (K := Go.Eng.rowEnd a0 len0) (xs := [.slice a0 len0 cap0]) (b := true) (Go.Proofs.Ytgpokdaacbjimab.W.m_suturelaw9_JumpsOut_ok n (Go.Eng.ints .i64 z0) true hn) (.cons (ro0.rt' (by omega)) .nil)).mono fun e W' ⟨he, bel⟩ => ?_
  subst he
  exact ⟨_, rfl, _, _, _, [], _, [], hW', trodAll_mk1 (shut_bool Try.underlying4 _), (trodAll_cons_mk (Below.trod laidOut (by kernel_rfl) (of_decide_eq_true (by kernel_rfl)) k0 bel lt0) trodAll_mk0), rfl, bel.frame _, fun h => by cases h⟩
theorem over : Rows.jumpsOutRow.holds Try.pinned (OpenSpec.ofChange Rows.jumpsOutSpec) :=
  OpenClaim.holds_of_wide 5 Try.f5 rfl rfl rfl rfl rfl rfl rfl ⟨rfl, rfl, rfl, rfl, rfl⟩ rfl rfl rfl rfl rfl (by kernel_rfl) Try.func5 (by kernel_rfl)
    (of_decide_eq_true (by kernel_rfl)) (by unfold Func.isWrapper; first | (rw [if_pos (by decide +kernel)]; kernel_rfl) | (rw [if_neg (by decide +kernel)]; exact ⟨rfl, rfl⟩))
    (fun os started H enc _ => lifted os started H enc)
theorem proved : Rows.JumpsOutSaid := over
end Go.Proofs.Ytgpokdaacbjimab.jumpsOut
namespace Go.Proofs.Ytgpokdaacbjimab
/-- The row, under a short name, for the claim. -/
theorem jumpsOut_holds : Rows.JumpsOutSaid := jumpsOut.proved
#print axioms jumpsOut_holds
end Go.Proofs.Ytgpokdaacbjimab
