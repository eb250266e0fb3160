/- JumpsTells: the law holds: its functions come, by the engine, to the printed models, and these to what the law says. No conditions. -/
import Derived.Test.YtgpokdaacbjimabJO
import Derived.Test.YtgpokdaacbjimabEngWI
import Derived.Test.YtgpokdaacbjimabEngWF
namespace Go.Proofs.Ytgpokdaacbjimab.jumpsTells
open Go.ChangeShapes Go.WideShapes Go.ChangeAt Go.RowKit
open Go.ChangeMaps (open_string shut_string)
set_option linter.unusedVariables false
theorem own : ownKnob Try.prog.godebug = none := by kernel_rfl
theorem tabs0 (W : World) : Go.Eng.Tabs Try.prog W := by
  rintro b ⟨p, hp, h⟩
  have hall : (Go.Eng.tabs.all fun p => (Try.prog.globalNamed p.1).isNone) = true := by kernel_rfl
  have := List.all_eq_true.1 hall p hp
  rw [h] at this
  cases this
theorem rt_len {W : World} {F : Nat → Option Nat} {zs : List Int} {a : Option Addr} {len cap : Nat} (h : Go.Eng.RT W F (.list (Go.Eng.ints .i64 zs)) (.slice a len cap)) : len = zs.length := by
  rcases h.toList with ⟨he, hb⟩ | ⟨b, o, cap', sz, lim, hv, hc, hl⟩
  · have hz : zs = [] := by simpa [Go.Eng.ints] using he
    subst hz
    rcases hb with hb | ⟨x, hb⟩
    · injection hb
    · injection hb
  · injection hv with _ h2 _
    rw [h2]; simp [Go.Eng.ints]
theorem introw_len {k : IntKind} {W : World} {a : Option Addr} {len cap : Nat} {zs : List Int} (h : Go.Eng.IntRow k W a len cap zs) : len = zs.length := by
  rcases h with ⟨_, h2, _, h4⟩ | ⟨b, o, _, _, _, h, _⟩
  · rw [h2, h4]; rfl
  · exact h.symm
theorem laidOut : laidOutB Try.prog = true := by kernel_rfl
set_option maxRecDepth 100000 in
theorem lifted (os : Os) (started : os.Started) (H : Type) (enc : TypeId × Value → H) :
    ReturnsInHanded {} Try.checked os 4 .any (Rows.jumpsTellsSpec.pre6 enc Try.prog Try.f4 Rows.jumpsTellsRow.domain false) (Rows.jumpsTellsSpec.post enc Try.prog Try.f4 false true false false) := by
  refine returnsInHanded_of_change_sized (C := Try.checked) own started (by kernel_rfl) Try.func4
    (ChangeSpec.witness6 (enc := enc) (C := Try.checked) false ⟨#[], #[.slice none 0 0, .int .i64 0, .slice none 0 0, .slice none 0 0, .bool false], []⟩ 8 (by kernel_rfl) (by kernel_rfl) (by kernel_rfl) (by kernel_rfl)) ?_
  intro W base args ds gs before hval0 hW hcnd hsz0 _
  have hsz : (DataW.weightsEach Try.prog (Try.f4.params.toList ++ Rows.jumpsTellsSpec.plain.varTypes Try.prog) (ds ++ gs)).all (· ≤ reachBytes) = true := hsz0
  have hval : ∀ (j : Nat) t v, Try.f4.params[j]? = some t → args[j]? = some v → Value.okWide Try.prog W .any base t v := hval0
  have hW' := hW
  obtain ⟨p, q, hA0, hV, rfl, hfz, hnd⟩ := hW
  have hA : DataW.TrodAll enc Try.prog W 0 (fun _ => true) true Try.f4.params.toList args.toList ds p := hA0
  rw [Try.params4] at hA hval hsz
  obtain ⟨v0, vs0, d0, ds0, p0, q0, hargs, rfl, rfl, h0, r0⟩ := trodAll_cons hA
  obtain ⟨v1, vs1, d1, ds1, p1, q1, rfl, rfl, rfl, h1, r1⟩ := trodAll_cons r0
  obtain ⟨v2, vs2, d2, ds2, p2, q2, rfl, rfl, rfl, h2, r2⟩ := trodAll_cons r1
  obtain ⟨v3, vs3, d3, ds3, p3, q3, rfl, rfl, rfl, h3, r3⟩ := trodAll_cons r2
  obtain ⟨v4, vs4, d4, ds4, p4, q4, rfl, rfl, rfl, h4, r4⟩ := trodAll_cons r3
  obtain ⟨rfl, rfl, rfl⟩ := trodAll_nil r4
  obtain rfl : args = #[v0, v1, v2, v3, v4] := by cases args; simp_all
  obtain ⟨rfl, rfl⟩ := trodVars_none hV
  have k0 := h0
  have lt0 : ∀ x ∈ p0, x.block < W.heap.size := by obtain ⟨m, hm⟩ := k0; exact DataW.trod_lt m _ _ _ hm
  obtain ⟨a0, len0, cap0, z0, rfl, ro0, w0⟩ := Go.Eng.open_intsF Try.underlying37 Try.underlying3 (by kernel_rfl) (hval 0 37 v0 rfl rfl) h0
  have zl0 : z0.length ≤ 17592186044416 := by
    obtain ⟨a', len', cap', z', e', ro', w', dl'⟩ := Go.Eng.open_introw Try.underlying37 Try.underlying3 (by kernel_rfl) (hval 0 37 _ rfl rfl) k0
    have h1 := rt_len ro0
    have h2 := introw_len ro'
    have h3 : len0 = len' := by injection e'
    rcases dl' with h | ⟨el, sp, h, hle⟩
    · rw [h] at h2; simp only [List.length_nil] at h2; omega
    · have hh := sized_slice hsz (j := 0) (t := 37) (e := 3) (elems := el) (spare := sp) rfl (by rw [h]; rfl) Try.underlying37
      have hb : Try.prog.bytesOf 3 = 8 := by kernel_rfl
      have hr := reachBytes_lt
      rw [hb] at hh
      omega
  obtain ⟨a1, rfl, rfl, rfl, w1⟩ := open_int Try.underlying3 (hval 1 3 v1 rfl rfl) h1
  have k2 := h2
  have lt2 : ∀ x ∈ p2, x.block < W.heap.size := by obtain ⟨m, hm⟩ := k2; exact DataW.trod_lt m _ _ _ hm
  obtain ⟨a2, len2, cap2, y2, rfl, ro2, w2⟩ := Go.Eng.open_acts Try.underlying38 Try.underlying99 ⟨rfl, rfl⟩ ⟨rfl, rfl⟩ ⟨rfl, rfl⟩ ⟨rfl, rfl⟩ ⟨rfl, rfl⟩ (by kernel_rfl) (by kernel_rfl) (by kernel_rfl) (by kernel_rfl) (by kernel_rfl) (hval 2 38 v2 rfl rfl) h2
  have k3 := h3
  have lt3 : ∀ x ∈ p3, x.block < W.heap.size := by obtain ⟨m, hm⟩ := k3; exact DataW.trod_lt m _ _ _ hm
  obtain ⟨a3, len3, cap3, y3, rfl, ro3, w3⟩ := Go.Eng.open_acts Try.underlying38 Try.underlying99 ⟨rfl, rfl⟩ ⟨rfl, rfl⟩ ⟨rfl, rfl⟩ ⟨rfl, rfl⟩ ⟨rfl, rfl⟩ (by kernel_rfl) (by kernel_rfl) (by kernel_rfl) (by kernel_rfl) (by kernel_rfl) (hval 3 38 v3 rfl rfl) h3
  obtain ⟨a4, rfl, rfl, rfl⟩ := open_bool Try.underlying4 (hval 4 4 v4 rfl rfl) h4
  clear hA0 hval0 hsz0 hsz
  obtain ⟨n, hn⟩ := Go.Proofs.Ytgpokdaacbjimab.W.jumpsTells_law z0 a1 y2 y3 a4 zl0
  refine (Go.Eng.FuncOk.rowsF (W := W) (tabs0 W) (xs := [.slice a0 len0 cap0, .int .i64 a1, .slice a2 len2 cap2, .slice a3 len3 cap3, .bool a4]) (b := true) (show Go.Eng.FuncOk Try.prog 4 [.t (.list (Go.Eng.ints .i64 z0)), .t (.sc (.int .i64 a1)), .t (.list (List.map Go.Eng.Act5.t y2)), .t (.list (List.map Go.Eng.Act5.t y3)), .t (.sc (.bool a4))] [] (.t (.sc (.bool true))) [] from Go.Proofs.Ytgpokdaacbjimab.W.m_suturelaw9_JumpsTells_ok n ((Go.Eng.ints .i64 z0), a1, (List.map Go.Eng.Act5.t y2), (List.map Go.Eng.Act5.t y3), a4, ()) true hn) (.cons ro0 (.cons (.sc _ rfl) (.cons ro2 (.cons ro3 (.cons (.sc _ rfl) .nil)))))).mono fun e W' ⟨he, bel⟩ => ?_
  subst he
  exact ⟨_, rfl, _, _, _, [], _, [], hW', trodAll_mk1 (shut_bool Try.underlying4 _), (trodAll_cons_mk (Below.trod laidOut (by kernel_rfl) (of_decide_eq_true (by kernel_rfl)) k0 bel lt0) (trodAll_cons_mk (shut_int Try.underlying3 w1) (trodAll_cons_mk (Below.trod laidOut (by kernel_rfl) (of_decide_eq_true (by kernel_rfl)) k2 bel lt2) (trodAll_cons_mk (Below.trod laidOut (by kernel_rfl) (of_decide_eq_true (by kernel_rfl)) k3 bel lt3) (trodAll_cons_mk (shut_bool Try.underlying4 _) trodAll_mk0))))), rfl, bel.frame _, fun h => by cases h⟩
theorem over : Rows.jumpsTellsRow.holds Try.pinned (OpenSpec.ofChange Rows.jumpsTellsSpec) :=
  OpenClaim.holds_of_wide 4 Try.f4 rfl rfl rfl rfl rfl rfl rfl ⟨rfl, rfl, rfl, rfl, rfl⟩ rfl rfl rfl rfl rfl (by kernel_rfl) Try.func4 (by kernel_rfl)
    (of_decide_eq_true (by kernel_rfl)) (by unfold Func.isWrapper; first | (rw [if_pos (by decide +kernel)]; kernel_rfl) | (rw [if_neg (by decide +kernel)]; exact ⟨rfl, rfl⟩))
    (fun os started H enc _ => lifted os started H enc)
theorem proved : Rows.JumpsTellsSaid := over
end Go.Proofs.Ytgpokdaacbjimab.jumpsTells
namespace Go.Proofs.Ytgpokdaacbjimab
/-- The row, under a short name, for the claim. -/
theorem jumpsTells_holds : Rows.JumpsTellsSaid := jumpsTells.proved
#print axioms jumpsTells_holds
end Go.Proofs.Ytgpokdaacbjimab
