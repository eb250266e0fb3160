/- JumpsEnd: the law holds: its functions come, by the engine, to the printed models, and these to what the law says. No conditions. -/
import Derived.Test.YtgpokdaacbjimabZBJumpsEnd
import Derived.Test.YtgpokdaacbjimabEngWI
import Derived.Test.YtgpokdaacbjimabEngWF
namespace Go.Proofs.Ytgpokdaacbjimab.jumpsEnd
open Go.ChangeShapes Go.WideShapes Go.ChangeAt Go.RowKit
open Go.ChangeMaps (open_string shut_string)
set_option linter.unusedVariables false
theorem own : ownKnob Try.prog.godebug = none := by kernel_rfl
theorem tabs0 (W : World) : Go.Eng.Tabs Try.prog W := by
  rintro b ⟨p, hp, h⟩
  have hall : (Go.Eng.tabs.all fun p => (Try.prog.globalNamed p.1).isNone) = true := by kernel_rfl
  have := List.all_eq_true.1 hall p hp
  rw [h] at this
  cases this
theorem rt_len {W : World} {F : Nat → Option Nat} {zs : List Int} {a : Option Addr} {len cap : Nat} (h : Go.Eng.RT W F (.list (Go.Eng.ints .i64 zs)) (.slice a len cap)) : len = zs.length := by
  rcases h.toList with ⟨he, hb⟩ | ⟨b, o, cap', sz, lim, hv, hc, hl⟩
  · have hz : zs = [] := by simpa [Go.Eng.ints] using he
    subst hz
    rcases hb with hb | ⟨x, hb⟩
    · injection hb
    · injection hb
  · injection hv with _ h2 _
    rw [h2]; simp [Go.Eng.ints]
theorem introw_len {k : IntKind} {W : World} {a : Option Addr} {len cap : Nat} {zs : List Int} (h : Go.Eng.IntRow k W a len cap zs) : len = zs.length := by
  rcases h with ⟨_, h2, _, h4⟩ | ⟨b, o, _, _, _, h, _⟩
  · rw [h2, h4]; rfl
  · exact h.symm
theorem laidOut : laidOutB Try.prog = true := by kernel_rfl
set_option maxRecDepth 100000 in
theorem lifted (os : Os) (started : os.Started) (H : Type) (enc : TypeId × Value → H) :
    ReturnsInHanded {} Try.checked os 6 .any (Rows.jumpsEndSpec.pre6 enc Try.prog Try.f6 Rows.jumpsEndRow.domain false) (Rows.jumpsEndSpec.post enc Try.prog Try.f6 false true false false) := by
  refine returnsInHanded_of_change_sized (C := Try.checked) own started (by kernel_rfl) Try.func6
    (ChangeSpec.witness6 (enc := enc) (C := Try.checked) false ⟨#[], #[.slice none 0 0], []⟩ 8 (by kernel_rfl) (by kernel_rfl) (by kernel_rfl) (by kernel_rfl)) ?_
  intro W base args ds gs before hval0 hW hcnd hsz0 _
  have hsz : (DataW.weightsEach Try.prog (Try.f6.params.toList ++ Rows.jumpsEndSpec.plain.varTypes Try.prog) (ds ++ gs)).all (· ≤ reachBytes) = true := hsz0
  have hval : ∀ (j : Nat) t v, Try.f6.params[j]? = some t → args[j]? = some v → Value.okWide Try.prog W .any base t v := hval0
  have hW' := hW
  obtain ⟨p, q, hA0, hV, rfl, hfz, hnd⟩ := hW
  have hA : DataW.TrodAll enc Try.prog W 0 (fun _ => true) true Try.f6.params.toList args.toList ds p := hA0
  rw [Try.params6] at hA hval hsz
  obtain ⟨v0, vs0, d0, ds0, p0, q0, hargs, rfl, rfl, h0, r0⟩ := trodAll_cons hA
  obtain ⟨rfl, rfl, rfl⟩ := trodAll_nil r0
  obtain rfl : args = #[v0] := by cases args; simp_all
  obtain ⟨rfl, rfl⟩ := trodVars_none hV
  have k0 := h0
  have lt0 : ∀ x ∈ p0, x.block < W.heap.size := by obtain ⟨m, hm⟩ := k0; exact DataW.trod_lt m _ _ _ hm
  obtain ⟨a0, len0, cap0, z0, rfl, ro0, w0⟩ := Go.Eng.open_intsF Try.underlying37 Try.underlying3 (by kernel_rfl) (hval 0 37 v0 rfl rfl) h0
  have zl0 : z0.length ≤ 17592186044416 := by
    obtain ⟨a', len', cap', z', e', ro', w', dl'⟩ := Go.Eng.open_introw Try.underlying37 Try.underlying3 (by kernel_rfl) (hval 0 37 _ rfl rfl) k0
    have h1 := rt_len ro0
    have h2 := introw_len ro'
    have h3 : len0 = len' := by injection e'
    rcases dl' with h | ⟨el, sp, h, hle⟩
    · rw [h] at h2; simp only [List.length_nil] at h2; omega
    · have hh := sized_slice hsz (j := 0) (t := 37) (e := 3) (elems := el) (spare := sp) rfl (by rw [h]; rfl) Try.underlying37
      have hb : Try.prog.bytesOf 3 = 8 := by kernel_rfl
      have hr := reachBytes_lt
      rw [hb] at hh
      omega
  clear hA0 hval0 hsz0 hsz
  obtain ⟨n, hn⟩ := Go.Proofs.Ytgpokdaacbjimab.W.jumpsEnd_law z0 zl0
  refine (Go.Eng.FuncOk.rowsF (W := W) (tabs0 W) (xs := [.slice a0 len0 cap0]) (b := true) (show Go.Eng.FuncOk Try.prog 6 [.t (.list (Go.Eng.ints .i64 z0))] [] (.t (.sc (.bool true))) [] from Go.Proofs.Ytgpokdaacbjimab.W.m_suturelaw9_JumpsEnd_ok n ((Go.Eng.ints .i64 z0), ()) true hn) (.cons ro0 .nil)).mono fun e W' ⟨he, bel⟩ => ?_
  subst he
  exact ⟨_, rfl, _, _, _, [], _, [], hW', trodAll_mk1 (shut_bool Try.underlying4 _), (trodAll_cons_mk (Below.trod laidOut (by kernel_rfl) (of_decide_eq_true (by kernel_rfl)) k0 bel lt0) trodAll_mk0), rfl, bel.frame _, fun h => by cases h⟩
theorem over : Rows.jumpsEndRow.holds Try.pinned (OpenSpec.ofChange Rows.jumpsEndSpec) :=
  OpenClaim.holds_of_wide 6 Try.f6 rfl rfl rfl rfl rfl rfl rfl ⟨rfl, rfl, rfl, rfl, rfl⟩ rfl rfl rfl rfl rfl (by kernel_rfl) Try.func6 (by kernel_rfl)
    (of_decide_eq_true (by kernel_rfl)) (by unfold Func.isWrapper; first | (rw [if_pos (by decide +kernel)]; kernel_rfl) | (rw [if_neg (by decide +kernel)]; exact ⟨rfl, rfl⟩))
    (fun os started H enc _ => lifted os started H enc)
theorem proved : Rows.JumpsEndSaid := over
end Go.Proofs.Ytgpokdaacbjimab.jumpsEnd
namespace Go.Proofs.Ytgpokdaacbjimab
/-- The row, under a short name, for the claim. -/
theorem jumpsEnd_holds : Rows.JumpsEndSaid := jumpsEnd.proved
#print axioms jumpsEnd_holds
end Go.Proofs.Ytgpokdaacbjimab
