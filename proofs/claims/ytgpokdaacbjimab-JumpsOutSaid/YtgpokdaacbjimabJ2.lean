/- What the engine's walk comes to, printed by a program of this work: for each function its model, and that it is one. No conditions. -/
import Derived.Test.YtgpokdaacbjimabJ1
namespace Go.Proofs.Ytgpokdaacbjimab.W
open Go Go.Eng
set_option linter.unusedVariables false
set_option linter.unusedSimpArgs false
set_option maxRecDepth 100000

/-! (*suture/sutureref1.Reader).number -/
def m___sutureref1_Reader__number (n : Nat) (a0 : Int) (a1 : List T) (a2 : Int) (a3 : Bool) (a4 : Int) : Option (Int × (List T) × Int × Bool × Int) :=
Option.bind (idx (!a3) [.int .i64, .str, .int .i64, .int .i64] a1 a2) fun y0 =>
Option.bind (idx (!(bif a3 then true else (((y0.cell 0).int : Int) != 2))) [.int .i64, .str, .int .i64, .int .i64] a1 a2) fun y1 =>
bif (bif (bif a3 then true else (((y0.cell 0).int : Int) != 2)) then true else (decide (((y1.cell 2).int : Int) > a0))) then (
Option.bind (m___sutureref1_Reader__fail n a1 a2 a3 a4) fun r2 =>
some (0, r2.1, r2.2.1, r2.2.2.1, r2.2.2.2))
else (
Option.bind (idx true [.int .i64, .str, .int .i64, .int .i64] a1 (IntKind.wrap .i64 ((IntKind.wrap .i64 (a2 + 1)) - 1))) fun y3 =>
some ((y3.cell 2).int, a1, (IntKind.wrap .i64 (a2 + 1)), a3, a4))
def enc___sutureref1_Reader__number (r : Int × (List T) × Int × Bool × Int) : V := (V.t (T.sc (.int .i64 r.1)))
def encS___sutureref1_Reader__number (r : Int × (List T) × Int × Bool × Int) : Sig := [some [(V.t (T.list r.2.1)), (V.t (T.sc (.int .i64 r.2.2.1))), (V.t (T.sc (.bool r.2.2.2.1))), (V.t (T.sc (.int .i64 r.2.2.2.2)))]]
def ok___sutureref1_Reader__number (m : Int → List T → Int → Bool → Int → Option (Int × (List T) × Int × Bool × Int)) : Prop := ∀ (a0 : Int) (a1 : List T) (a2 : Int) (a3 : Bool) (a4 : Int) (r : Int × (List T) × Int × Bool × Int), m a0 a1 a2 a3 a4 = some r → FuncOk Try.prog 39 [(V.ptr 0 0), (V.t (T.sc (.int .i64 a0)))] [some [(V.t (T.list a1)), (V.t (T.sc (.int .i64 a2))), (V.t (T.sc (.bool a3))), (V.t (T.sc (.int .i64 a4)))]] (enc___sutureref1_Reader__number r) (encS___sutureref1_Reader__number r)
def c___sutureref1_Reader__number (m : Int → List T → Int → Bool → Int → Option (Int × (List T) × Int × Bool × Int)) (vs : List V) (sg : Sig) : Option CallM := bif Nat.beq vs.length 2 && Nat.beq sg.length 1 then Option.bind (V.ptrOf 0 0 (vs.getD 0 .any)) fun u0 => Option.bind (V.intOf .i64 (vs.getD 1 .any)) fun u1 => Option.bind (cellsN 4 sg 0) fun g0 => Option.bind (V.lstOf (g0.getD 0 .any)) fun g1 => Option.bind (V.intOf .i64 (g0.getD 1 .any)) fun g2 => Option.bind (V.boolOf (g0.getD 2 .any)) fun g3 => Option.bind (V.intOf .i64 (g0.getD 3 .any)) fun g4 => some { α := Int × (List T) × Int × Bool × Int, m := m u1 g1 g2 g3 g4, dflt := (0, [], 0, false, 0), enc := fun y => ((V.t (T.sc (.int .i64 y.1))), [some [(V.t (T.list y.2.1)), (V.t (T.sc (.int .i64 y.2.2.1))), (V.t (T.sc (.bool y.2.2.2.1))), (V.t (T.sc (.int .i64 y.2.2.2.2)))]]) } else none
theorem c___sutureref1_Reader__number_ok (m : Int → List T → Int → Bool → Int → Option (Int × (List T) × Int × Bool × Int)) (hm : ok___sutureref1_Reader__number m) (vs : List V) (sg : Sig) (cm : CallM) (x : cm.α) (h : c___sutureref1_Reader__number m vs sg = some cm) (hx : cm.m = some x) : FuncOk Try.prog 39 vs sg (cm.enc x).1 (cm.enc x).2 := by
  unfold c___sutureref1_Reader__number at h
  have h0 := callee_sig h
  clear h
  obtain ⟨hl, hs, h⟩ := h0
  obtain ⟨u0, hu0, h⟩ := Option.bind_eq_some_iff.1 h
  obtain ⟨u1, hu1, h⟩ := Option.bind_eq_some_iff.1 h
  obtain ⟨g0, hg0, h⟩ := Option.bind_eq_some_iff.1 h
  obtain ⟨g1, hg1, h⟩ := Option.bind_eq_some_iff.1 h
  obtain ⟨g2, hg2, h⟩ := Option.bind_eq_some_iff.1 h
  obtain ⟨g3, hg3, h⟩ := Option.bind_eq_some_iff.1 h
  obtain ⟨g4, hg4, h⟩ := Option.bind_eq_some_iff.1 h
  simp only [Option.some.injEq] at h
  subst h
  exact (hm u1 g1 g2 g3 g4 x hx).wk (args_wk hl (.cons (ptrOf_wk hu0) (.cons (intOf_wk hu1) .nil))) (wkSg_of hs (.cons (cellsN_wk hg0 (.cons (lstOf_wk hg1) (.cons (intOf_wk hg2) (.cons (boolOf_wk hg3) (.cons (intOf_wk hg4) .nil))))) .nil))
noncomputable def code___sutureref1_Reader__number : Code := Try.f39.body.getD .skip
noncomputable def sp___sutureref1_Reader__number (n : Nat) : Go.Eng.Spec := ⟨fun f vs sg => (match f with
    | 37 => c___sutureref1_Reader__fail (m___sutureref1_Reader__fail n) vs sg
    | _ => none), fun R key E sg K => (match key with
    | _ => none)⟩
theorem sp___sutureref1_Reader__number_ok (n : Nat) : CallsOk Try.prog (sp___sutureref1_Reader__number n) := by
  intro f vs sg cm x h hx
  simp only [sp___sutureref1_Reader__number] at h
  split at h
  · exact c___sutureref1_Reader__fail_ok _ (m___sutureref1_Reader__fail_ok n) vs sg cm x h hx
  · cases h
theorem code___sutureref1_Reader__number_fn : Try.prog.funcs[39]? = some Try.f39 := Try.func39
theorem code___sutureref1_Reader__number_body : Try.f39.body = some code___sutureref1_Reader__number := by kernel_rfl
theorem code___sutureref1_Reader__number_ok : CodeOk Try.prog code___sutureref1_Reader__number := (sound 39 _ _ code___sutureref1_Reader__number_fn code___sutureref1_Reader__number_body).1
def K___sutureref1_Reader__number (v : V) (s : Sig) : Option (Int × (List T) × Int × Bool × Int) := Option.bind (V.intOf .i64 v) fun u0 => Option.bind (cellsN 4 s 0) fun g0 => Option.bind (V.lstOf (g0.getD 0 .any)) fun g1 => Option.bind (V.intOf .i64 (g0.getD 1 .any)) fun g2 => Option.bind (V.boolOf (g0.getD 2 .any)) fun g3 => Option.bind (V.intOf .i64 (g0.getD 3 .any)) fun g4 => some (u0, g1, g2, g3, g4)
theorem K___sutureref1_Reader__number_wk {v : V} {s : Sig} {r : Int × (List T) × Int × Bool × Int} (h : K___sutureref1_Reader__number v s = some r) : Wk v (enc___sutureref1_Reader__number r) ∧ WkS 1 s (encS___sutureref1_Reader__number r) := by
  unfold K___sutureref1_Reader__number at h
  obtain ⟨u0, hu0, h⟩ := Option.bind_eq_some_iff.1 h
  obtain ⟨g0, hg0, h⟩ := Option.bind_eq_some_iff.1 h
  obtain ⟨g1, hg1, h⟩ := Option.bind_eq_some_iff.1 h
  obtain ⟨g2, hg2, h⟩ := Option.bind_eq_some_iff.1 h
  obtain ⟨g3, hg3, h⟩ := Option.bind_eq_some_iff.1 h
  obtain ⟨g4, hg4, h⟩ := Option.bind_eq_some_iff.1 h
  simp only [Option.some.injEq] at h
  subst h
  exact ⟨(intOf_wk hu0), (wkR_sig (WkR.cons (cellsN_wk hg0 (.cons (lstOf_wk hg1) (.cons (intOf_wk hg2) (.cons (boolOf_wk hg3) (.cons (intOf_wk hg4) .nil))))).1 (cellsN_wk hg0 (.cons (lstOf_wk hg1) (.cons (intOf_wk hg2) (.cons (boolOf_wk hg3) (.cons (intOf_wk hg4) .nil))))).2 (renL_mem (.cons rfl (.cons rfl (.cons rfl (.cons rfl .nil))))) (WkR.nil _)) rfl)⟩
theorem m___sutureref1_Reader__number_eq (n : Nat) (a0 : Int) (a1 : List T) (a2 : Int) (a3 : Bool) (a4 : Int) : mF Try.prog (sp___sutureref1_Reader__number n) 39 [(V.ptr 0 0), (V.t (T.sc (.int .i64 a0)))] [some [(V.t (T.list a1)), (V.t (T.sc (.int .i64 a2))), (V.t (T.sc (.bool a3))), (V.t (T.sc (.int .i64 a4)))]] K___sutureref1_Reader__number = m___sutureref1_Reader__number n a0 a1 a2 a3 a4 := by kernel_rfl
theorem m___sutureref1_Reader__number_ok (n : Nat) : ok___sutureref1_Reader__number (m___sutureref1_Reader__number n) := fun a0 a1 a2 a3 a4 r h => mF_ok sound (sp___sutureref1_Reader__number_ok n) code___sutureref1_Reader__number_fn code___sutureref1_Reader__number_body (fun a ha => absurd ha (by rw [show loopsOf code___sutureref1_Reader__number = [] from by kernel_rfl]; simp)) (no_scope (by kernel_rfl)) ((m___sutureref1_Reader__number_eq n a0 a1 a2 a3 a4).trans h) (fun v s hk => ⟨(K___sutureref1_Reader__number_wk hk).1, rfl, (K___sutureref1_Reader__number_wk hk).2⟩)


/-! (*suture/sutureref1.Reader).word -/
def m___sutureref1_Reader__word (n : Nat) (a0 : ByteArray) (a1 : List T) (a2 : Int) (a3 : Bool) (a4 : Int) : Option (Bool × (List T) × Int × Bool × Int) :=
Option.bind (idx ((!a3)) [.int .i64, .str, .int .i64, .int .i64] a1 a2) fun y0 =>
Option.bind (idx ((bif (!a3) then (((y0.cell 0).int : Int) == 1) else false)) [.int .i64, .str, .int .i64, .int .i64] a1 a2) fun y1 =>
some ((bif (bif (!a3) then (((y0.cell 0).int : Int) == 1) else false) then (ByteArray.toList (y1.cell 1).str == ByteArray.toList a0) else false), a1, a2, a3, a4)
def enc___sutureref1_Reader__word (r : Bool × (List T) × Int × Bool × Int) : V := (V.t (T.sc (.bool r.1)))
def encS___sutureref1_Reader__word (r : Bool × (List T) × Int × Bool × Int) : Sig := [some [(V.t (T.list r.2.1)), (V.t (T.sc (.int .i64 r.2.2.1))), (V.t (T.sc (.bool r.2.2.2.1))), (V.t (T.sc (.int .i64 r.2.2.2.2)))]]
def ok___sutureref1_Reader__word (m : ByteArray → List T → Int → Bool → Int → Option (Bool × (List T) × Int × Bool × Int)) : Prop := ∀ (a0 : ByteArray) (a1 : List T) (a2 : Int) (a3 : Bool) (a4 : Int) (r : Bool × (List T) × Int × Bool × Int), m a0 a1 a2 a3 a4 = some r → FuncOk Try.prog 40 [(V.ptr 0 0), (V.t (T.sc (.string a0)))] [some [(V.t (T.list a1)), (V.t (T.sc (.int .i64 a2))), (V.t (T.sc (.bool a3))), (V.t (T.sc (.int .i64 a4)))]] (enc___sutureref1_Reader__word r) (encS___sutureref1_Reader__word r)
def c___sutureref1_Reader__word (m : ByteArray → List T → Int → Bool → Int → Option (Bool × (List T) × Int × Bool × Int)) (vs : List V) (sg : Sig) : Option CallM := bif Nat.beq vs.length 2 && Nat.beq sg.length 1 then Option.bind (V.ptrOf 0 0 (vs.getD 0 .any)) fun u0 => Option.bind (V.strOf (vs.getD 1 .any)) fun u1 => Option.bind (cellsN 4 sg 0) fun g0 => Option.bind (V.lstOf (g0.getD 0 .any)) fun g1 => Option.bind (V.intOf .i64 (g0.getD 1 .any)) fun g2 => Option.bind (V.boolOf (g0.getD 2 .any)) fun g3 => Option.bind (V.intOf .i64 (g0.getD 3 .any)) fun g4 => some { α := Bool × (List T) × Int × Bool × Int, m := m u1 g1 g2 g3 g4, dflt := (false, [], 0, false, 0), enc := fun y => ((V.t (T.sc (.bool y.1))), [some [(V.t (T.list y.2.1)), (V.t (T.sc (.int .i64 y.2.2.1))), (V.t (T.sc (.bool y.2.2.2.1))), (V.t (T.sc (.int .i64 y.2.2.2.2)))]]) } else none
theorem c___sutureref1_Reader__word_ok (m : ByteArray → List T → Int → Bool → Int → Option (Bool × (List T) × Int × Bool × Int)) (hm : ok___sutureref1_Reader__word m) (vs : List V) (sg : Sig) (cm : CallM) (x : cm.α) (h : c___sutureref1_Reader__word m vs sg = some cm) (hx : cm.m = some x) : FuncOk Try.prog 40 vs sg (cm.enc x).1 (cm.enc x).2 := by
  unfold c___sutureref1_Reader__word at h
  have h0 := callee_sig h
  clear h
  obtain ⟨hl, hs, h⟩ := h0
  obtain ⟨u0, hu0, h⟩ := Option.bind_eq_some_iff.1 h
  obtain ⟨u1, hu1, h⟩ := Option.bind_eq_some_iff.1 h
  obtain ⟨g0, hg0, h⟩ := Option.bind_eq_some_iff.1 h
  obtain ⟨g1, hg1, h⟩ := Option.bind_eq_some_iff.1 h
  obtain ⟨g2, hg2, h⟩ := Option.bind_eq_some_iff.1 h
  obtain ⟨g3, hg3, h⟩ := Option.bind_eq_some_iff.1 h
  obtain ⟨g4, hg4, h⟩ := Option.bind_eq_some_iff.1 h
  simp only [Option.some.injEq] at h
  subst h
  exact (hm u1 g1 g2 g3 g4 x hx).wk (args_wk hl (.cons (ptrOf_wk hu0) (.cons (strOf_wk hu1) .nil))) (wkSg_of hs (.cons (cellsN_wk hg0 (.cons (lstOf_wk hg1) (.cons (intOf_wk hg2) (.cons (boolOf_wk hg3) (.cons (intOf_wk hg4) .nil))))) .nil))
noncomputable def code___sutureref1_Reader__word : Code := Try.f40.body.getD .skip
noncomputable def sp___sutureref1_Reader__word (n : Nat) : Go.Eng.Spec := ⟨fun f vs sg => (match f with
    | _ => none), fun R key E sg K => (match key with
    | _ => none)⟩
theorem sp___sutureref1_Reader__word_ok (n : Nat) : CallsOk Try.prog (sp___sutureref1_Reader__word n) := by
  intro f vs sg cm x h hx
  have h : (none : Option CallM) = some cm := h
  cases h
theorem code___sutureref1_Reader__word_fn : Try.prog.funcs[40]? = some Try.f40 := Try.func40
theorem code___sutureref1_Reader__word_body : Try.f40.body = some code___sutureref1_Reader__word := by kernel_rfl
theorem code___sutureref1_Reader__word_ok : CodeOk Try.prog code___sutureref1_Reader__word := (sound 40 _ _ code___sutureref1_Reader__word_fn code___sutureref1_Reader__word_body).1
def K___sutureref1_Reader__word (v : V) (s : Sig) : Option (Bool × (List T) × Int × Bool × Int) := Option.bind (V.boolOf v) fun u0 => Option.bind (cellsN 4 s 0) fun g0 => Option.bind (V.lstOf (g0.getD 0 .any)) fun g1 => Option.bind (V.intOf .i64 (g0.getD 1 .any)) fun g2 => Option.bind (V.boolOf (g0.getD 2 .any)) fun g3 => Option.bind (V.intOf .i64 (g0.getD 3 .any)) fun g4 => some (u0, g1, g2, g3, g4)
theorem K___sutureref1_Reader__word_wk {v : V} {s : Sig} {r : Bool × (List T) × Int × Bool × Int} (h : K___sutureref1_Reader__word v s = some r) : Wk v (enc___sutureref1_Reader__word r) ∧ WkS 1 s (encS___sutureref1_Reader__word r) := by
  unfold K___sutureref1_Reader__word at h
  obtain ⟨u0, hu0, h⟩ := Option.bind_eq_some_iff.1 h
  obtain ⟨g0, hg0, h⟩ := Option.bind_eq_some_iff.1 h
  obtain ⟨g1, hg1, h⟩ := Option.bind_eq_some_iff.1 h
  obtain ⟨g2, hg2, h⟩ := Option.bind_eq_some_iff.1 h
  obtain ⟨g3, hg3, h⟩ := Option.bind_eq_some_iff.1 h
  obtain ⟨g4, hg4, h⟩ := Option.bind_eq_some_iff.1 h
  simp only [Option.some.injEq] at h
  subst h
  exact ⟨(boolOf_wk hu0), (wkR_sig (WkR.cons (cellsN_wk hg0 (.cons (lstOf_wk hg1) (.cons (intOf_wk hg2) (.cons (boolOf_wk hg3) (.cons (intOf_wk hg4) .nil))))).1 (cellsN_wk hg0 (.cons (lstOf_wk hg1) (.cons (intOf_wk hg2) (.cons (boolOf_wk hg3) (.cons (intOf_wk hg4) .nil))))).2 (renL_mem (.cons rfl (.cons rfl (.cons rfl (.cons rfl .nil))))) (WkR.nil _)) rfl)⟩
theorem m___sutureref1_Reader__word_eq (n : Nat) (a0 : ByteArray) (a1 : List T) (a2 : Int) (a3 : Bool) (a4 : Int) : mF Try.prog (sp___sutureref1_Reader__word n) 40 [(V.ptr 0 0), (V.t (T.sc (.string a0)))] [some [(V.t (T.list a1)), (V.t (T.sc (.int .i64 a2))), (V.t (T.sc (.bool a3))), (V.t (T.sc (.int .i64 a4)))]] K___sutureref1_Reader__word = m___sutureref1_Reader__word n a0 a1 a2 a3 a4 := by kernel_rfl
theorem m___sutureref1_Reader__word_ok (n : Nat) : ok___sutureref1_Reader__word (m___sutureref1_Reader__word n) := fun a0 a1 a2 a3 a4 r h => mF_ok sound (sp___sutureref1_Reader__word_ok n) code___sutureref1_Reader__word_fn code___sutureref1_Reader__word_body (fun a ha => absurd ha (by rw [show loopsOf code___sutureref1_Reader__word = [] from by kernel_rfl]; simp)) (no_scope (by kernel_rfl)) ((m___sutureref1_Reader__word_eq n a0 a1 a2 a3 a4).trans h) (fun v s hk => ⟨(K___sutureref1_Reader__word_wk hk).1, rfl, (K___sutureref1_Reader__word_wk hk).2⟩)


/-! (*suture/sutureref1.Reader).sign -/
def m___sutureref1_Reader__sign (n : Nat) (a0 : ByteArray) (a1 : List T) (a2 : Int) (a3 : Bool) (a4 : Int) : Option (Bool × (List T) × Int × Bool × Int) :=
Option.bind (idx ((!a3)) [.int .i64, .str, .int .i64, .int .i64] a1 a2) fun y0 =>
Option.bind (idx ((bif (!a3) then (((y0.cell 0).int : Int) == 3) else false)) [.int .i64, .str, .int .i64, .int .i64] a1 a2) fun y1 =>
some ((bif (bif (!a3) then (((y0.cell 0).int : Int) == 3) else false) then (ByteArray.toList (y1.cell 1).str == ByteArray.toList a0) else false), a1, a2, a3, a4)
def enc___sutureref1_Reader__sign (r : Bool × (List T) × Int × Bool × Int) : V := (V.t (T.sc (.bool r.1)))
def encS___sutureref1_Reader__sign (r : Bool × (List T) × Int × Bool × Int) : Sig := [some [(V.t (T.list r.2.1)), (V.t (T.sc (.int .i64 r.2.2.1))), (V.t (T.sc (.bool r.2.2.2.1))), (V.t (T.sc (.int .i64 r.2.2.2.2)))]]
def ok___sutureref1_Reader__sign (m : ByteArray → List T → Int → Bool → Int → Option (Bool × (List T) × Int × Bool × Int)) : Prop := ∀ (a0 : ByteArray) (a1 : List T) (a2 : Int) (a3 : Bool) (a4 : Int) (r : Bool × (List T) × Int × Bool × Int), m a0 a1 a2 a3 a4 = some r → FuncOk Try.prog 54 [(V.ptr 0 0), (V.t (T.sc (.string a0)))] [some [(V.t (T.list a1)), (V.t (T.sc (.int .i64 a2))), (V.t (T.sc (.bool a3))), (V.t (T.sc (.int .i64 a4)))]] (enc___sutureref1_Reader__sign r) (encS___sutureref1_Reader__sign r)
def c___sutureref1_Reader__sign (m : ByteArray → List T → Int → Bool → Int → Option (Bool × (List T) × Int × Bool × Int)) (vs : List V) (sg : Sig) : Option CallM := bif Nat.beq vs.length 2 && Nat.beq sg.length 1 then Option.bind (V.ptrOf 0 0 (vs.getD 0 .any)) fun u0 => Option.bind (V.strOf (vs.getD 1 .any)) fun u1 => Option.bind (cellsN 4 sg 0) fun g0 => Option.bind (V.lstOf (g0.getD 0 .any)) fun g1 => Option.bind (V.intOf .i64 (g0.getD 1 .any)) fun g2 => Option.bind (V.boolOf (g0.getD 2 .any)) fun g3 => Option.bind (V.intOf .i64 (g0.getD 3 .any)) fun g4 => some { α := Bool × (List T) × Int × Bool × Int, m := m u1 g1 g2 g3 g4, dflt := (false, [], 0, false, 0), enc := fun y => ((V.t (T.sc (.bool y.1))), [some [(V.t (T.list y.2.1)), (V.t (T.sc (.int .i64 y.2.2.1))), (V.t (T.sc (.bool y.2.2.2.1))), (V.t (T.sc (.int .i64 y.2.2.2.2)))]]) } else none
theorem c___sutureref1_Reader__sign_ok (m : ByteArray → List T → Int → Bool → Int → Option (Bool × (List T) × Int × Bool × Int)) (hm : ok___sutureref1_Reader__sign m) (vs : List V) (sg : Sig) (cm : CallM) (x : cm.α) (h : c___sutureref1_Reader__sign m vs sg = some cm) (hx : cm.m = some x) : FuncOk Try.prog 54 vs sg (cm.enc x).1 (cm.enc x).2 := by
  unfold c___sutureref1_Reader__sign at h
  have h0 := callee_sig h
  clear h
  obtain ⟨hl, hs, h⟩ := h0
  obtain ⟨u0, hu0, h⟩ := Option.bind_eq_some_iff.1 h
  obtain ⟨u1, hu1, h⟩ := Option.bind_eq_some_iff.1 h
  obtain ⟨g0, hg0, h⟩ := Option.bind_eq_some_iff.1 h
  obtain ⟨g1, hg1, h⟩ := Option.bind_eq_some_iff.1 h
  obtain ⟨g2, hg2, h⟩ := Option.bind_eq_some_iff.1 h
  obtain ⟨g3, hg3, h⟩ := Option.bind_eq_some_iff.1 h
  obtain ⟨g4, hg4, h⟩ := Option.bind_eq_some_iff.1 h
  simp only [Option.some.injEq] at h
  subst h
  exact (hm u1 g1 g2 g3 g4 x hx).wk (args_wk hl (.cons (ptrOf_wk hu0) (.cons (strOf_wk hu1) .nil))) (wkSg_of hs (.cons (cellsN_wk hg0 (.cons (lstOf_wk hg1) (.cons (intOf_wk hg2) (.cons (boolOf_wk hg3) (.cons (intOf_wk hg4) .nil))))) .nil))
noncomputable def code___sutureref1_Reader__sign : Code := Try.f54.body.getD .skip
noncomputable def sp___sutureref1_Reader__sign (n : Nat) : Go.Eng.Spec := ⟨fun f vs sg => (match f with
    | _ => none), fun R key E sg K => (match key with
    | _ => none)⟩
theorem sp___sutureref1_Reader__sign_ok (n : Nat) : CallsOk Try.prog (sp___sutureref1_Reader__sign n) := by
  intro f vs sg cm x h hx
  have h : (none : Option CallM) = some cm := h
  cases h
theorem code___sutureref1_Reader__sign_fn : Try.prog.funcs[54]? = some Try.f54 := Try.func54
theorem code___sutureref1_Reader__sign_body : Try.f54.body = some code___sutureref1_Reader__sign := by kernel_rfl
theorem code___sutureref1_Reader__sign_ok : CodeOk Try.prog code___sutureref1_Reader__sign := (sound 54 _ _ code___sutureref1_Reader__sign_fn code___sutureref1_Reader__sign_body).1
def K___sutureref1_Reader__sign (v : V) (s : Sig) : Option (Bool × (List T) × Int × Bool × Int) := Option.bind (V.boolOf v) fun u0 => Option.bind (cellsN 4 s 0) fun g0 => Option.bind (V.lstOf (g0.getD 0 .any)) fun g1 => Option.bind (V.intOf .i64 (g0.getD 1 .any)) fun g2 => Option.bind (V.boolOf (g0.getD 2 .any)) fun g3 => Option.bind (V.intOf .i64 (g0.getD 3 .any)) fun g4 => some (u0, g1, g2, g3, g4)
theorem K___sutureref1_Reader__sign_wk {v : V} {s : Sig} {r : Bool × (List T) × Int × Bool × Int} (h : K___sutureref1_Reader__sign v s = some r) : Wk v (enc___sutureref1_Reader__sign r) ∧ WkS 1 s (encS___sutureref1_Reader__sign r) := by
  unfold K___sutureref1_Reader__sign at h
  obtain ⟨u0, hu0, h⟩ := Option.bind_eq_some_iff.1 h
  obtain ⟨g0, hg0, h⟩ := Option.bind_eq_some_iff.1 h
  obtain ⟨g1, hg1, h⟩ := Option.bind_eq_some_iff.1 h
  obtain ⟨g2, hg2, h⟩ := Option.bind_eq_some_iff.1 h
  obtain ⟨g3, hg3, h⟩ := Option.bind_eq_some_iff.1 h
  obtain ⟨g4, hg4, h⟩ := Option.bind_eq_some_iff.1 h
  simp only [Option.some.injEq] at h
  subst h
  exact ⟨(boolOf_wk hu0), (wkR_sig (WkR.cons (cellsN_wk hg0 (.cons (lstOf_wk hg1) (.cons (intOf_wk hg2) (.cons (boolOf_wk hg3) (.cons (intOf_wk hg4) .nil))))).1 (cellsN_wk hg0 (.cons (lstOf_wk hg1) (.cons (intOf_wk hg2) (.cons (boolOf_wk hg3) (.cons (intOf_wk hg4) .nil))))).2 (renL_mem (.cons rfl (.cons rfl (.cons rfl (.cons rfl .nil))))) (WkR.nil _)) rfl)⟩
theorem m___sutureref1_Reader__sign_eq (n : Nat) (a0 : ByteArray) (a1 : List T) (a2 : Int) (a3 : Bool) (a4 : Int) : mF Try.prog (sp___sutureref1_Reader__sign n) 54 [(V.ptr 0 0), (V.t (T.sc (.string a0)))] [some [(V.t (T.list a1)), (V.t (T.sc (.int .i64 a2))), (V.t (T.sc (.bool a3))), (V.t (T.sc (.int .i64 a4)))]] K___sutureref1_Reader__sign = m___sutureref1_Reader__sign n a0 a1 a2 a3 a4 := by kernel_rfl
theorem m___sutureref1_Reader__sign_ok (n : Nat) : ok___sutureref1_Reader__sign (m___sutureref1_Reader__sign n) := fun a0 a1 a2 a3 a4 r h => mF_ok sound (sp___sutureref1_Reader__sign_ok n) code___sutureref1_Reader__sign_fn code___sutureref1_Reader__sign_body (fun a ha => absurd ha (by rw [show loopsOf code___sutureref1_Reader__sign = [] from by kernel_rfl]; simp)) (no_scope (by kernel_rfl)) ((m___sutureref1_Reader__sign_eq n a0 a1 a2 a3 a4).trans h) (fun v s hk => ⟨(K___sutureref1_Reader__sign_wk hk).1, rfl, (K___sutureref1_Reader__sign_wk hk).2⟩)


/-! (*suture/sutureref1.Reader).must -/
def m___sutureref1_Reader__must (n : Nat) (a0 : ByteArray) (a1 : List T) (a2 : Int) (a3 : Bool) (a4 : Int) : Option ((List T) × Int × Bool × Int) :=
Option.bind (m___sutureref1_Reader__sign n a0 a1 a2 a3 a4) fun r0 =>
bif (!r0.1) then (
Option.bind (m___sutureref1_Reader__fail n r0.2.1 r0.2.2.1 r0.2.2.2.1 r0.2.2.2.2) fun r1 =>
some (r1.1, r1.2.1, r1.2.2.1, r1.2.2.2))
else (
some (r0.2.1, (IntKind.wrap .i64 (r0.2.2.1 + 1)), r0.2.2.2.1, r0.2.2.2.2))
def enc___sutureref1_Reader__must (r : (List T) × Int × Bool × Int) : V := (V.tup [])
def encS___sutureref1_Reader__must (r : (List T) × Int × Bool × Int) : Sig := [some [(V.t (T.list r.1)), (V.t (T.sc (.int .i64 r.2.1))), (V.t (T.sc (.bool r.2.2.1))), (V.t (T.sc (.int .i64 r.2.2.2)))]]
def ok___sutureref1_Reader__must (m : ByteArray → List T → Int → Bool → Int → Option ((List T) × Int × Bool × Int)) : Prop := ∀ (a0 : ByteArray) (a1 : List T) (a2 : Int) (a3 : Bool) (a4 : Int) (r : (List T) × Int × Bool × Int), m a0 a1 a2 a3 a4 = some r → FuncOk Try.prog 53 [(V.ptr 0 0), (V.t (T.sc (.string a0)))] [some [(V.t (T.list a1)), (V.t (T.sc (.int .i64 a2))), (V.t (T.sc (.bool a3))), (V.t (T.sc (.int .i64 a4)))]] (enc___sutureref1_Reader__must r) (encS___sutureref1_Reader__must r)
def c___sutureref1_Reader__must (m : ByteArray → List T → Int → Bool → Int → Option ((List T) × Int × Bool × Int)) (vs : List V) (sg : Sig) : Option CallM := bif Nat.beq vs.length 2 && Nat.beq sg.length 1 then Option.bind (V.ptrOf 0 0 (vs.getD 0 .any)) fun u0 => Option.bind (V.strOf (vs.getD 1 .any)) fun u1 => Option.bind (cellsN 4 sg 0) fun g0 => Option.bind (V.lstOf (g0.getD 0 .any)) fun g1 => Option.bind (V.intOf .i64 (g0.getD 1 .any)) fun g2 => Option.bind (V.boolOf (g0.getD 2 .any)) fun g3 => Option.bind (V.intOf .i64 (g0.getD 3 .any)) fun g4 => some { α := (List T) × Int × Bool × Int, m := m u1 g1 g2 g3 g4, dflt := ([], 0, false, 0), enc := fun y => ((V.tup []), [some [(V.t (T.list y.1)), (V.t (T.sc (.int .i64 y.2.1))), (V.t (T.sc (.bool y.2.2.1))), (V.t (T.sc (.int .i64 y.2.2.2)))]]) } else none
theorem c___sutureref1_Reader__must_ok (m : ByteArray → List T → Int → Bool → Int → Option ((List T) × Int × Bool × Int)) (hm : ok___sutureref1_Reader__must m) (vs : List V) (sg : Sig) (cm : CallM) (x : cm.α) (h : c___sutureref1_Reader__must m vs sg = some cm) (hx : cm.m = some x) : FuncOk Try.prog 53 vs sg (cm.enc x).1 (cm.enc x).2 := by
  unfold c___sutureref1_Reader__must at h
  have h0 := callee_sig h
  clear h
  obtain ⟨hl, hs, h⟩ := h0
  obtain ⟨u0, hu0, h⟩ := Option.bind_eq_some_iff.1 h
  obtain ⟨u1, hu1, h⟩ := Option.bind_eq_some_iff.1 h
  obtain ⟨g0, hg0, h⟩ := Option.bind_eq_some_iff.1 h
  obtain ⟨g1, hg1, h⟩ := Option.bind_eq_some_iff.1 h
  obtain ⟨g2, hg2, h⟩ := Option.bind_eq_some_iff.1 h
  obtain ⟨g3, hg3, h⟩ := Option.bind_eq_some_iff.1 h
  obtain ⟨g4, hg4, h⟩ := Option.bind_eq_some_iff.1 h
  simp only [Option.some.injEq] at h
  subst h
  exact (hm u1 g1 g2 g3 g4 x hx).wk (args_wk hl (.cons (ptrOf_wk hu0) (.cons (strOf_wk hu1) .nil))) (wkSg_of hs (.cons (cellsN_wk hg0 (.cons (lstOf_wk hg1) (.cons (intOf_wk hg2) (.cons (boolOf_wk hg3) (.cons (intOf_wk hg4) .nil))))) .nil))
noncomputable def code___sutureref1_Reader__must : Code := Try.f53.body.getD .skip
noncomputable def sp___sutureref1_Reader__must (n : Nat) : Go.Eng.Spec := ⟨fun f vs sg => (match f with
    | 54 => c___sutureref1_Reader__sign (m___sutureref1_Reader__sign n) vs sg
    | 37 => c___sutureref1_Reader__fail (m___sutureref1_Reader__fail n) vs sg
    | _ => none), fun R key E sg K => (match key with
    | _ => none)⟩
theorem sp___sutureref1_Reader__must_ok (n : Nat) : CallsOk Try.prog (sp___sutureref1_Reader__must n) := by
  intro f vs sg cm x h hx
  simp only [sp___sutureref1_Reader__must] at h
  split at h
  · exact c___sutureref1_Reader__sign_ok _ (m___sutureref1_Reader__sign_ok n) vs sg cm x h hx
  · exact c___sutureref1_Reader__fail_ok _ (m___sutureref1_Reader__fail_ok n) vs sg cm x h hx
  · cases h
theorem code___sutureref1_Reader__must_fn : Try.prog.funcs[53]? = some Try.f53 := Try.func53
theorem code___sutureref1_Reader__must_body : Try.f53.body = some code___sutureref1_Reader__must := by kernel_rfl
theorem code___sutureref1_Reader__must_ok : CodeOk Try.prog code___sutureref1_Reader__must := (sound 53 _ _ code___sutureref1_Reader__must_fn code___sutureref1_Reader__must_body).1
def K___sutureref1_Reader__must (v : V) (s : Sig) : Option ((List T) × Int × Bool × Int) := Option.bind (V.tupN 0 v) fun u0 => Option.bind (cellsN 4 s 0) fun g0 => Option.bind (V.lstOf (g0.getD 0 .any)) fun g1 => Option.bind (V.intOf .i64 (g0.getD 1 .any)) fun g2 => Option.bind (V.boolOf (g0.getD 2 .any)) fun g3 => Option.bind (V.intOf .i64 (g0.getD 3 .any)) fun g4 => some (g1, g2, g3, g4)
theorem K___sutureref1_Reader__must_wk {v : V} {s : Sig} {r : (List T) × Int × Bool × Int} (h : K___sutureref1_Reader__must v s = some r) : Wk v (enc___sutureref1_Reader__must r) ∧ WkS 1 s (encS___sutureref1_Reader__must r) := by
  unfold K___sutureref1_Reader__must at h
  obtain ⟨u0, hu0, h⟩ := Option.bind_eq_some_iff.1 h
  obtain ⟨g0, hg0, h⟩ := Option.bind_eq_some_iff.1 h
  obtain ⟨g1, hg1, h⟩ := Option.bind_eq_some_iff.1 h
  obtain ⟨g2, hg2, h⟩ := Option.bind_eq_some_iff.1 h
  obtain ⟨g3, hg3, h⟩ := Option.bind_eq_some_iff.1 h
  obtain ⟨g4, hg4, h⟩ := Option.bind_eq_some_iff.1 h
  simp only [Option.some.injEq] at h
  subst h
  exact ⟨(tupN_wk hu0 .nil), (wkR_sig (WkR.cons (cellsN_wk hg0 (.cons (lstOf_wk hg1) (.cons (intOf_wk hg2) (.cons (boolOf_wk hg3) (.cons (intOf_wk hg4) .nil))))).1 (cellsN_wk hg0 (.cons (lstOf_wk hg1) (.cons (intOf_wk hg2) (.cons (boolOf_wk hg3) (.cons (intOf_wk hg4) .nil))))).2 (renL_mem (.cons rfl (.cons rfl (.cons rfl (.cons rfl .nil))))) (WkR.nil _)) rfl)⟩
theorem m___sutureref1_Reader__must_eq (n : Nat) (a0 : ByteArray) (a1 : List T) (a2 : Int) (a3 : Bool) (a4 : Int) : mF Try.prog (sp___sutureref1_Reader__must n) 53 [(V.ptr 0 0), (V.t (T.sc (.string a0)))] [some [(V.t (T.list a1)), (V.t (T.sc (.int .i64 a2))), (V.t (T.sc (.bool a3))), (V.t (T.sc (.int .i64 a4)))]] K___sutureref1_Reader__must = m___sutureref1_Reader__must n a0 a1 a2 a3 a4 := by kernel_rfl
theorem m___sutureref1_Reader__must_ok (n : Nat) : ok___sutureref1_Reader__must (m___sutureref1_Reader__must n) := fun a0 a1 a2 a3 a4 r h => mF_ok sound (sp___sutureref1_Reader__must_ok n) code___sutureref1_Reader__must_fn code___sutureref1_Reader__must_body (fun a ha => absurd ha (by rw [show loopsOf code___sutureref1_Reader__must = [] from by kernel_rfl]; simp)) (no_scope (by kernel_rfl)) ((m___sutureref1_Reader__must_eq n a0 a1 a2 a3 a4).trans h) (fun v s hk => ⟨(K___sutureref1_Reader__must_wk hk).1, rfl, (K___sutureref1_Reader__must_wk hk).2⟩)


/-! suture/sutureref1.binary -/
def m_sutureref1_binary (n : Nat) (a0 : Int) (a1 : Int) (a2 : Int) (a3 : ByteArray) (a4 : List T) (a5 : Int) (a6 : Int) (a7 : ByteArray) (a8 : List T) : Option (Int × Int × ByteArray × (List T)) :=
some (a0, 0, (⟨#[]⟩ : ByteArray), [(T.agg [(T.sc (.int .i64 a1)), (T.sc (.int .i64 a2)), (T.sc (.string a3)), (T.list a4)]), (T.agg [(T.sc (.int .i64 a5)), (T.sc (.int .i64 a6)), (T.sc (.string a7)), (T.list a8)])])
def enc_sutureref1_binary (r : Int × Int × ByteArray × (List T)) : V := (V.agg [(V.t (T.sc (.int .i64 r.1))), (V.t (T.sc (.int .i64 r.2.1))), (V.t (T.sc (.string r.2.2.1))), (V.t (T.list r.2.2.2))])
def encS_sutureref1_binary (r : Int × Int × ByteArray × (List T)) : Sig := []
def ok_sutureref1_binary (m : Int → Int → Int → ByteArray → List T → Int → Int → ByteArray → List T → Option (Int × Int × ByteArray × (List T))) : Prop := ∀ (a0 : Int) (a1 : Int) (a2 : Int) (a3 : ByteArray) (a4 : List T) (a5 : Int) (a6 : Int) (a7 : ByteArray) (a8 : List T) (r : Int × Int × ByteArray × (List T)), m a0 a1 a2 a3 a4 a5 a6 a7 a8 = some r → FuncOk Try.prog 63 [(V.t (T.sc (.int .i64 a0))), (V.agg [(V.t (T.sc (.int .i64 a1))), (V.t (T.sc (.int .i64 a2))), (V.t (T.sc (.string a3))), (V.t (T.list a4))]), (V.agg [(V.t (T.sc (.int .i64 a5))), (V.t (T.sc (.int .i64 a6))), (V.t (T.sc (.string a7))), (V.t (T.list a8))])] [] (enc_sutureref1_binary r) (encS_sutureref1_binary r)
def c_sutureref1_binary (m : Int → Int → Int → ByteArray → List T → Int → Int → ByteArray → List T → Option (Int × Int × ByteArray × (List T))) (vs : List V) (sg : Sig) : Option CallM := bif Nat.beq vs.length 3 && Nat.beq sg.length 0 then Option.bind (V.intOf .i64 (vs.getD 0 .any)) fun u0 => Option.bind (V.aggN 4 (vs.getD 1 .any)) fun u1 => Option.bind (V.intOf .i64 (u1.getD 0 .any)) fun u2 => Option.bind (V.intOf .i64 (u1.getD 1 .any)) fun u3 => Option.bind (V.strOf (u1.getD 2 .any)) fun u4 => Option.bind (V.lstOf (u1.getD 3 .any)) fun u5 => Option.bind (V.aggN 4 (vs.getD 2 .any)) fun u6 => Option.bind (V.intOf .i64 (u6.getD 0 .any)) fun u7 => Option.bind (V.intOf .i64 (u6.getD 1 .any)) fun u8 => Option.bind (V.strOf (u6.getD 2 .any)) fun u9 => Option.bind (V.lstOf (u6.getD 3 .any)) fun u10 => some { α := Int × Int × ByteArray × (List T), m := m u0 u2 u3 u4 u5 u7 u8 u9 u10, dflt := (0, 0, default, []), enc := fun y => ((V.agg [(V.t (T.sc (.int .i64 y.1))), (V.t (T.sc (.int .i64 y.2.1))), (V.t (T.sc (.string y.2.2.1))), (V.t (T.list y.2.2.2))]), []) } else none
theorem c_sutureref1_binary_ok (m : Int → Int → Int → ByteArray → List T → Int → Int → ByteArray → List T → Option (Int × Int × ByteArray × (List T))) (hm : ok_sutureref1_binary m) (vs : List V) (sg : Sig) (cm : CallM) (x : cm.α) (h : c_sutureref1_binary m vs sg = some cm) (hx : cm.m = some x) : FuncOk Try.prog 63 vs sg (cm.enc x).1 (cm.enc x).2 := by
  unfold c_sutureref1_binary at h
  have h0 := callee_sig h
  clear h
  obtain ⟨hl, hs, h⟩ := h0
  obtain ⟨u0, hu0, h⟩ := Option.bind_eq_some_iff.1 h
  obtain ⟨u1, hu1, h⟩ := Option.bind_eq_some_iff.1 h
  obtain ⟨u2, hu2, h⟩ := Option.bind_eq_some_iff.1 h
  obtain ⟨u3, hu3, h⟩ := Option.bind_eq_some_iff.1 h
  obtain ⟨u4, hu4, h⟩ := Option.bind_eq_some_iff.1 h
  obtain ⟨u5, hu5, h⟩ := Option.bind_eq_some_iff.1 h
  obtain ⟨u6, hu6, h⟩ := Option.bind_eq_some_iff.1 h
  obtain ⟨u7, hu7, h⟩ := Option.bind_eq_some_iff.1 h
  obtain ⟨u8, hu8, h⟩ := Option.bind_eq_some_iff.1 h
  obtain ⟨u9, hu9, h⟩ := Option.bind_eq_some_iff.1 h
  obtain ⟨u10, hu10, h⟩ := Option.bind_eq_some_iff.1 h
  simp only [Option.some.injEq] at h
  subst h
  exact (hm u0 u2 u3 u4 u5 u7 u8 u9 u10 x hx).wk (args_wk hl (.cons (intOf_wk hu0) (.cons (aggN_wk hu1 (.cons (intOf_wk hu2) (.cons (intOf_wk hu3) (.cons (strOf_wk hu4) (.cons (lstOf_wk hu5) .nil))))) (.cons (aggN_wk hu6 (.cons (intOf_wk hu7) (.cons (intOf_wk hu8) (.cons (strOf_wk hu9) (.cons (lstOf_wk hu10) .nil))))) .nil)))) (wkSg_of hs .nil)
noncomputable def code_sutureref1_binary : Code := Try.f63.body.getD .skip
noncomputable def sp_sutureref1_binary (n : Nat) : Go.Eng.Spec := ⟨fun f vs sg => (match f with
    | _ => none), fun R key E sg K => (match key with
    | _ => none)⟩
theorem sp_sutureref1_binary_ok (n : Nat) : CallsOk Try.prog (sp_sutureref1_binary n) := by
  intro f vs sg cm x h hx
  have h : (none : Option CallM) = some cm := h
  cases h
theorem code_sutureref1_binary_fn : Try.prog.funcs[63]? = some Try.f63 := Try.func63
theorem code_sutureref1_binary_body : Try.f63.body = some code_sutureref1_binary := by kernel_rfl
theorem code_sutureref1_binary_ok : CodeOk Try.prog code_sutureref1_binary := (sound 63 _ _ code_sutureref1_binary_fn code_sutureref1_binary_body).1
def K_sutureref1_binary (v : V) (s : Sig) : Option (Int × Int × ByteArray × (List T)) := Option.bind (V.aggN 4 v) fun u0 => Option.bind (V.intOf .i64 (u0.getD 0 .any)) fun u1 => Option.bind (V.intOf .i64 (u0.getD 1 .any)) fun u2 => Option.bind (V.strOf (u0.getD 2 .any)) fun u3 => Option.bind (V.lstOf (u0.getD 3 .any)) fun u4 => some (u1, u2, u3, u4)
theorem K_sutureref1_binary_wk {v : V} {s : Sig} {r : Int × Int × ByteArray × (List T)} (h : K_sutureref1_binary v s = some r) : Wk v (enc_sutureref1_binary r) ∧ WkS 0 s (encS_sutureref1_binary r) := by
  unfold K_sutureref1_binary at h
  obtain ⟨u0, hu0, h⟩ := Option.bind_eq_some_iff.1 h
  obtain ⟨u1, hu1, h⟩ := Option.bind_eq_some_iff.1 h
  obtain ⟨u2, hu2, h⟩ := Option.bind_eq_some_iff.1 h
  obtain ⟨u3, hu3, h⟩ := Option.bind_eq_some_iff.1 h
  obtain ⟨u4, hu4, h⟩ := Option.bind_eq_some_iff.1 h
  simp only [Option.some.injEq] at h
  subst h
  exact ⟨(aggN_wk hu0 (.cons (intOf_wk hu1) (.cons (intOf_wk hu2) (.cons (strOf_wk hu3) (.cons (lstOf_wk hu4) .nil))))), (WkS.none _)⟩
theorem m_sutureref1_binary_eq (n : Nat) (a0 : Int) (a1 : Int) (a2 : Int) (a3 : ByteArray) (a4 : List T) (a5 : Int) (a6 : Int) (a7 : ByteArray) (a8 : List T) : mF Try.prog (sp_sutureref1_binary n) 63 [(V.t (T.sc (.int .i64 a0))), (V.agg [(V.t (T.sc (.int .i64 a1))), (V.t (T.sc (.int .i64 a2))), (V.t (T.sc (.string a3))), (V.t (T.list a4))]), (V.agg [(V.t (T.sc (.int .i64 a5))), (V.t (T.sc (.int .i64 a6))), (V.t (T.sc (.string a7))), (V.t (T.list a8))])] [] K_sutureref1_binary = m_sutureref1_binary n a0 a1 a2 a3 a4 a5 a6 a7 a8 := by kernel_rfl
theorem m_sutureref1_binary_ok (n : Nat) : ok_sutureref1_binary (m_sutureref1_binary n) := fun a0 a1 a2 a3 a4 a5 a6 a7 a8 r h => mF_ok sound (sp_sutureref1_binary_ok n) code_sutureref1_binary_fn code_sutureref1_binary_body (fun a ha => absurd ha (by rw [show loopsOf code_sutureref1_binary = [] from by kernel_rfl]; simp)) (no_scope (by kernel_rfl)) ((m_sutureref1_binary_eq n a0 a1 a2 a3 a4 a5 a6 a7 a8).trans h) (fun v s hk => ⟨(K_sutureref1_binary_wk hk).1, rfl, (K_sutureref1_binary_wk hk).2⟩)


/-! __sutureref1_Reader__expr, __sutureref1_Reader__sum, __sutureref1_Reader__term, __sutureref1_Reader__factor: a circle -/
structure B___sutureref1_Reader__expr where
  __sutureref1_Reader__expr : Int → List T → Int → Bool → Int → Option (Int × Int × ByteArray × (List T) × (List T) × Int × Bool × Int)
  __sutureref1_Reader__sum : Int → List T → Int → Bool → Int → Option (Int × Int × ByteArray × (List T) × (List T) × Int × Bool × Int)
  __sutureref1_Reader__term : Int → List T → Int → Bool → Int → Option (Int × Int × ByteArray × (List T) × (List T) × Int × Bool × Int)
  __sutureref1_Reader__factor : Int → List T → Int → Bool → Int → Option (Int × Int × ByteArray × (List T) × (List T) × Int × Bool × Int)
def enc___sutureref1_Reader__expr (r : Int × Int × ByteArray × (List T) × (List T) × Int × Bool × Int) : V := (V.agg [(V.t (T.sc (.int .i64 r.1))), (V.t (T.sc (.int .i64 r.2.1))), (V.t (T.sc (.string r.2.2.1))), (V.t (T.list r.2.2.2.1))])
def encS___sutureref1_Reader__expr (r : Int × Int × ByteArray × (List T) × (List T) × Int × Bool × Int) : Sig := [some [(V.t (T.list r.2.2.2.2.1)), (V.t (T.sc (.int .i64 r.2.2.2.2.2.1))), (V.t (T.sc (.bool r.2.2.2.2.2.2.1))), (V.t (T.sc (.int .i64 r.2.2.2.2.2.2.2)))]]
def ok___sutureref1_Reader__expr (m : Int → List T → Int → Bool → Int → Option (Int × Int × ByteArray × (List T) × (List T) × Int × Bool × Int)) : Prop := ∀ (a0 : Int) (a1 : List T) (a2 : Int) (a3 : Bool) (a4 : Int) (r : Int × Int × ByteArray × (List T) × (List T) × Int × Bool × Int), m a0 a1 a2 a3 a4 = some r → FuncOk Try.prog 61 [(V.ptr 0 0), (V.t (T.sc (.int .i64 a0)))] [some [(V.t (T.list a1)), (V.t (T.sc (.int .i64 a2))), (V.t (T.sc (.bool a3))), (V.t (T.sc (.int .i64 a4)))]] (enc___sutureref1_Reader__expr r) (encS___sutureref1_Reader__expr r)
def c___sutureref1_Reader__expr (m : Int → List T → Int → Bool → Int → Option (Int × Int × ByteArray × (List T) × (List T) × Int × Bool × Int)) (vs : List V) (sg : Sig) : Option CallM := bif Nat.beq vs.length 2 && Nat.beq sg.length 1 then Option.bind (V.ptrOf 0 0 (vs.getD 0 .any)) fun u0 => Option.bind (V.intOf .i64 (vs.getD 1 .any)) fun u1 => Option.bind (cellsN 4 sg 0) fun g0 => Option.bind (V.lstOf (g0.getD 0 .any)) fun g1 => Option.bind (V.intOf .i64 (g0.getD 1 .any)) fun g2 => Option.bind (V.boolOf (g0.getD 2 .any)) fun g3 => Option.bind (V.intOf .i64 (g0.getD 3 .any)) fun g4 => some { α := Int × Int × ByteArray × (List T) × (List T) × Int × Bool × Int, m := m u1 g1 g2 g3 g4, dflt := (0, 0, default, [], [], 0, false, 0), enc := fun y => ((V.agg [(V.t (T.sc (.int .i64 y.1))), (V.t (T.sc (.int .i64 y.2.1))), (V.t (T.sc (.string y.2.2.1))), (V.t (T.list y.2.2.2.1))]), [some [(V.t (T.list y.2.2.2.2.1)), (V.t (T.sc (.int .i64 y.2.2.2.2.2.1))), (V.t (T.sc (.bool y.2.2.2.2.2.2.1))), (V.t (T.sc (.int .i64 y.2.2.2.2.2.2.2)))]]) } else none
theorem c___sutureref1_Reader__expr_ok (m : Int → List T → Int → Bool → Int → Option (Int × Int × ByteArray × (List T) × (List T) × Int × Bool × Int)) (hm : ok___sutureref1_Reader__expr m) (vs : List V) (sg : Sig) (cm : CallM) (x : cm.α) (h : c___sutureref1_Reader__expr m vs sg = some cm) (hx : cm.m = some x) : FuncOk Try.prog 61 vs sg (cm.enc x).1 (cm.enc x).2 := by
  unfold c___sutureref1_Reader__expr at h
  have h0 := callee_sig h
  clear h
  obtain ⟨hl, hs, h⟩ := h0
  obtain ⟨u0, hu0, h⟩ := Option.bind_eq_some_iff.1 h
  obtain ⟨u1, hu1, h⟩ := Option.bind_eq_some_iff.1 h
  obtain ⟨g0, hg0, h⟩ := Option.bind_eq_some_iff.1 h
  obtain ⟨g1, hg1, h⟩ := Option.bind_eq_some_iff.1 h
  obtain ⟨g2, hg2, h⟩ := Option.bind_eq_some_iff.1 h
  obtain ⟨g3, hg3, h⟩ := Option.bind_eq_some_iff.1 h
  obtain ⟨g4, hg4, h⟩ := Option.bind_eq_some_iff.1 h
  simp only [Option.some.injEq] at h
  subst h
  exact (hm u1 g1 g2 g3 g4 x hx).wk (args_wk hl (.cons (ptrOf_wk hu0) (.cons (intOf_wk hu1) .nil))) (wkSg_of hs (.cons (cellsN_wk hg0 (.cons (lstOf_wk hg1) (.cons (intOf_wk hg2) (.cons (boolOf_wk hg3) (.cons (intOf_wk hg4) .nil))))) .nil))
def enc___sutureref1_Reader__sum (r : Int × Int × ByteArray × (List T) × (List T) × Int × Bool × Int) : V := (V.agg [(V.t (T.sc (.int .i64 r.1))), (V.t (T.sc (.int .i64 r.2.1))), (V.t (T.sc (.string r.2.2.1))), (V.t (T.list r.2.2.2.1))])
def encS___sutureref1_Reader__sum (r : Int × Int × ByteArray × (List T) × (List T) × Int × Bool × Int) : Sig := [some [(V.t (T.list r.2.2.2.2.1)), (V.t (T.sc (.int .i64 r.2.2.2.2.2.1))), (V.t (T.sc (.bool r.2.2.2.2.2.2.1))), (V.t (T.sc (.int .i64 r.2.2.2.2.2.2.2)))]]
def ok___sutureref1_Reader__sum (m : Int → List T → Int → Bool → Int → Option (Int × Int × ByteArray × (List T) × (List T) × Int × Bool × Int)) : Prop := ∀ (a0 : Int) (a1 : List T) (a2 : Int) (a3 : Bool) (a4 : Int) (r : Int × Int × ByteArray × (List T) × (List T) × Int × Bool × Int), m a0 a1 a2 a3 a4 = some r → FuncOk Try.prog 62 [(V.ptr 0 0), (V.t (T.sc (.int .i64 a0)))] [some [(V.t (T.list a1)), (V.t (T.sc (.int .i64 a2))), (V.t (T.sc (.bool a3))), (V.t (T.sc (.int .i64 a4)))]] (enc___sutureref1_Reader__sum r) (encS___sutureref1_Reader__sum r)
def c___sutureref1_Reader__sum (m : Int → List T → Int → Bool → Int → Option (Int × Int × ByteArray × (List T) × (List T) × Int × Bool × Int)) (vs : List V) (sg : Sig) : Option CallM := bif Nat.beq vs.length 2 && Nat.beq sg.length 1 then Option.bind (V.ptrOf 0 0 (vs.getD 0 .any)) fun u0 => Option.bind (V.intOf .i64 (vs.getD 1 .any)) fun u1 => Option.bind (cellsN 4 sg 0) fun g0 => Option.bind (V.lstOf (g0.getD 0 .any)) fun g1 => Option.bind (V.intOf .i64 (g0.getD 1 .any)) fun g2 => Option.bind (V.boolOf (g0.getD 2 .any)) fun g3 => Option.bind (V.intOf .i64 (g0.getD 3 .any)) fun g4 => some { α := Int × Int × ByteArray × (List T) × (List T) × Int × Bool × Int, m := m u1 g1 g2 g3 g4, dflt := (0, 0, default, [], [], 0, false, 0), enc := fun y => ((V.agg [(V.t (T.sc (.int .i64 y.1))), (V.t (T.sc (.int .i64 y.2.1))), (V.t (T.sc (.string y.2.2.1))), (V.t (T.list y.2.2.2.1))]), [some [(V.t (T.list y.2.2.2.2.1)), (V.t (T.sc (.int .i64 y.2.2.2.2.2.1))), (V.t (T.sc (.bool y.2.2.2.2.2.2.1))), (V.t (T.sc (.int .i64 y.2.2.2.2.2.2.2)))]]) } else none
theorem c___sutureref1_Reader__sum_ok (m : Int → List T → Int → Bool → Int → Option (Int × Int × ByteArray × (List T) × (List T) × Int × Bool × Int)) (hm : ok___sutureref1_Reader__sum m) (vs : List V) (sg : Sig) (cm : CallM) (x : cm.α) (h : c___sutureref1_Reader__sum m vs sg = some cm) (hx : cm.m = some x) : FuncOk Try.prog 62 vs sg (cm.enc x).1 (cm.enc x).2 := by
  unfold c___sutureref1_Reader__sum at h
  have h0 := callee_sig h
  clear h
  obtain ⟨hl, hs, h⟩ := h0
  obtain ⟨u0, hu0, h⟩ := Option.bind_eq_some_iff.1 h
  obtain ⟨u1, hu1, h⟩ := Option.bind_eq_some_iff.1 h
  obtain ⟨g0, hg0, h⟩ := Option.bind_eq_some_iff.1 h
  obtain ⟨g1, hg1, h⟩ := Option.bind_eq_some_iff.1 h
  obtain ⟨g2, hg2, h⟩ := Option.bind_eq_some_iff.1 h
  obtain ⟨g3, hg3, h⟩ := Option.bind_eq_some_iff.1 h
  obtain ⟨g4, hg4, h⟩ := Option.bind_eq_some_iff.1 h
  simp only [Option.some.injEq] at h
  subst h
  exact (hm u1 g1 g2 g3 g4 x hx).wk (args_wk hl (.cons (ptrOf_wk hu0) (.cons (intOf_wk hu1) .nil))) (wkSg_of hs (.cons (cellsN_wk hg0 (.cons (lstOf_wk hg1) (.cons (intOf_wk hg2) (.cons (boolOf_wk hg3) (.cons (intOf_wk hg4) .nil))))) .nil))
def enc___sutureref1_Reader__term (r : Int × Int × ByteArray × (List T) × (List T) × Int × Bool × Int) : V := (V.agg [(V.t (T.sc (.int .i64 r.1))), (V.t (T.sc (.int .i64 r.2.1))), (V.t (T.sc (.string r.2.2.1))), (V.t (T.list r.2.2.2.1))])
def encS___sutureref1_Reader__term (r : Int × Int × ByteArray × (List T) × (List T) × Int × Bool × Int) : Sig := [some [(V.t (T.list r.2.2.2.2.1)), (V.t (T.sc (.int .i64 r.2.2.2.2.2.1))), (V.t (T.sc (.bool r.2.2.2.2.2.2.1))), (V.t (T.sc (.int .i64 r.2.2.2.2.2.2.2)))]]
def ok___sutureref1_Reader__term (m : Int → List T → Int → Bool → Int → Option (Int × Int × ByteArray × (List T) × (List T) × Int × Bool × Int)) : Prop := ∀ (a0 : Int) (a1 : List T) (a2 : Int) (a3 : Bool) (a4 : Int) (r : Int × Int × ByteArray × (List T) × (List T) × Int × Bool × Int), m a0 a1 a2 a3 a4 = some r → FuncOk Try.prog 64 [(V.ptr 0 0), (V.t (T.sc (.int .i64 a0)))] [some [(V.t (T.list a1)), (V.t (T.sc (.int .i64 a2))), (V.t (T.sc (.bool a3))), (V.t (T.sc (.int .i64 a4)))]] (enc___sutureref1_Reader__term r) (encS___sutureref1_Reader__term r)
def c___sutureref1_Reader__term (m : Int → List T → Int → Bool → Int → Option (Int × Int × ByteArray × (List T) × (List T) × Int × Bool × Int)) (vs : List V) (sg : Sig) : Option CallM := bif Nat.beq vs.length 2 && Nat.beq sg.length 1 then Option.bind (V.ptrOf 0 0 (vs.getD 0 .any)) fun u0 => Option.bind (V.intOf .i64 (vs.getD 1 .any)) fun u1 => Option.bind (cellsN 4 sg 0) fun g0 => Option.bind (V.lstOf (g0.getD 0 .any)) fun g1 => Option.bind (V.intOf .i64 (g0.getD 1 .any)) fun g2 => Option.bind (V.boolOf (g0.getD 2 .any)) fun g3 => Option.bind (V.intOf .i64 (g0.getD 3 .any)) fun g4 => some { α := Int × Int × ByteArray × (List T) × (List T) × Int × Bool × Int, m := m u1 g1 g2 g3 g4, dflt := (0, 0, default, [], [], 0, false, 0), enc := fun y => ((V.agg [(V.t (T.sc (.int .i64 y.1))), (V.t (T.sc (.int .i64 y.2.1))), (V.t (T.sc (.string y.2.2.1))), (V.t (T.list y.2.2.2.1))]), [some [(V.t (T.list y.2.2.2.2.1)), (V.t (T.sc (.int .i64 y.2.2.2.2.2.1))), (V.t (T.sc (.bool y.2.2.2.2.2.2.1))), (V.t (T.sc (.int .i64 y.2.2.2.2.2.2.2)))]]) } else none
theorem c___sutureref1_Reader__term_ok (m : Int → List T → Int → Bool → Int → Option (Int × Int × ByteArray × (List T) × (List T) × Int × Bool × Int)) (hm : ok___sutureref1_Reader__term m) (vs : List V) (sg : Sig) (cm : CallM) (x : cm.α) (h : c___sutureref1_Reader__term m vs sg = some cm) (hx : cm.m = some x) : FuncOk Try.prog 64 vs sg (cm.enc x).1 (cm.enc x).2 := by
  unfold c___sutureref1_Reader__term at h
  have h0 := callee_sig h
  clear h
  obtain ⟨hl, hs, h⟩ := h0
  obtain ⟨u0, hu0, h⟩ := Option.bind_eq_some_iff.1 h
  obtain ⟨u1, hu1, h⟩ := Option.bind_eq_some_iff.1 h
  obtain ⟨g0, hg0, h⟩ := Option.bind_eq_some_iff.1 h
  obtain ⟨g1, hg1, h⟩ := Option.bind_eq_some_iff.1 h
  obtain ⟨g2, hg2, h⟩ := Option.bind_eq_some_iff.1 h
  obtain ⟨g3, hg3, h⟩ := Option.bind_eq_some_iff.1 h
  obtain ⟨g4, hg4, h⟩ := Option.bind_eq_some_iff.1 h
  simp only [Option.some.injEq] at h
  subst h
  exact (hm u1 g1 g2 g3 g4 x hx).wk (args_wk hl (.cons (ptrOf_wk hu0) (.cons (intOf_wk hu1) .nil))) (wkSg_of hs (.cons (cellsN_wk hg0 (.cons (lstOf_wk hg1) (.cons (intOf_wk hg2) (.cons (boolOf_wk hg3) (.cons (intOf_wk hg4) .nil))))) .nil))
def enc___sutureref1_Reader__factor (r : Int × Int × ByteArray × (List T) × (List T) × Int × Bool × Int) : V := (V.agg [(V.t (T.sc (.int .i64 r.1))), (V.t (T.sc (.int .i64 r.2.1))), (V.t (T.sc (.string r.2.2.1))), (V.t (T.list r.2.2.2.1))])
def encS___sutureref1_Reader__factor (r : Int × Int × ByteArray × (List T) × (List T) × Int × Bool × Int) : Sig := [some [(V.t (T.list r.2.2.2.2.1)), (V.t (T.sc (.int .i64 r.2.2.2.2.2.1))), (V.t (T.sc (.bool r.2.2.2.2.2.2.1))), (V.t (T.sc (.int .i64 r.2.2.2.2.2.2.2)))]]
def ok___sutureref1_Reader__factor (m : Int → List T → Int → Bool → Int → Option (Int × Int × ByteArray × (List T) × (List T) × Int × Bool × Int)) : Prop := ∀ (a0 : Int) (a1 : List T) (a2 : Int) (a3 : Bool) (a4 : Int) (r : Int × Int × ByteArray × (List T) × (List T) × Int × Bool × Int), m a0 a1 a2 a3 a4 = some r → FuncOk Try.prog 65 [(V.ptr 0 0), (V.t (T.sc (.int .i64 a0)))] [some [(V.t (T.list a1)), (V.t (T.sc (.int .i64 a2))), (V.t (T.sc (.bool a3))), (V.t (T.sc (.int .i64 a4)))]] (enc___sutureref1_Reader__factor r) (encS___sutureref1_Reader__factor r)
def c___sutureref1_Reader__factor (m : Int → List T → Int → Bool → Int → Option (Int × Int × ByteArray × (List T) × (List T) × Int × Bool × Int)) (vs : List V) (sg : Sig) : Option CallM := bif Nat.beq vs.length 2 && Nat.beq sg.length 1 then Option.bind (V.ptrOf 0 0 (vs.getD 0 .any)) fun u0 => Option.bind (V.intOf .i64 (vs.getD 1 .any)) fun u1 => Option.bind (cellsN 4 sg 0) fun g0 => Option.bind (V.lstOf (g0.getD 0 .any)) fun g1 => Option.bind (V.intOf .i64 (g0.getD 1 .any)) fun g2 => Option.bind (V.boolOf (g0.getD 2 .any)) fun g3 => Option.bind (V.intOf .i64 (g0.getD 3 .any)) fun g4 => some { α := Int × Int × ByteArray × (List T) × (List T) × Int × Bool × Int, m := m u1 g1 g2 g3 g4, dflt := (0, 0, default, [], [], 0, false, 0), enc := fun y => ((V.agg [(V.t (T.sc (.int .i64 y.1))), (V.t (T.sc (.int .i64 y.2.1))), (V.t (T.sc (.string y.2.2.1))), (V.t (T.list y.2.2.2.1))]), [some [(V.t (T.list y.2.2.2.2.1)), (V.t (T.sc (.int .i64 y.2.2.2.2.2.1))), (V.t (T.sc (.bool y.2.2.2.2.2.2.1))), (V.t (T.sc (.int .i64 y.2.2.2.2.2.2.2)))]]) } else none
theorem c___sutureref1_Reader__factor_ok (m : Int → List T → Int → Bool → Int → Option (Int × Int × ByteArray × (List T) × (List T) × Int × Bool × Int)) (hm : ok___sutureref1_Reader__factor m) (vs : List V) (sg : Sig) (cm : CallM) (x : cm.α) (h : c___sutureref1_Reader__factor m vs sg = some cm) (hx : cm.m = some x) : FuncOk Try.prog 65 vs sg (cm.enc x).1 (cm.enc x).2 := by
  unfold c___sutureref1_Reader__factor at h
  have h0 := callee_sig h
  clear h
  obtain ⟨hl, hs, h⟩ := h0
  obtain ⟨u0, hu0, h⟩ := Option.bind_eq_some_iff.1 h
  obtain ⟨u1, hu1, h⟩ := Option.bind_eq_some_iff.1 h
  obtain ⟨g0, hg0, h⟩ := Option.bind_eq_some_iff.1 h
  obtain ⟨g1, hg1, h⟩ := Option.bind_eq_some_iff.1 h
  obtain ⟨g2, hg2, h⟩ := Option.bind_eq_some_iff.1 h
  obtain ⟨g3, hg3, h⟩ := Option.bind_eq_some_iff.1 h
  obtain ⟨g4, hg4, h⟩ := Option.bind_eq_some_iff.1 h
  simp only [Option.some.injEq] at h
  subst h
  exact (hm u1 g1 g2 g3 g4 x hx).wk (args_wk hl (.cons (ptrOf_wk hu0) (.cons (intOf_wk hu1) .nil))) (wkSg_of hs (.cons (cellsN_wk hg0 (.cons (lstOf_wk hg1) (.cons (intOf_wk hg2) (.cons (boolOf_wk hg3) (.cons (intOf_wk hg4) .nil))))) .nil))
structure B___sutureref1_Reader__expr_ok (b : B___sutureref1_Reader__expr) : Prop where
  __sutureref1_Reader__expr : ok___sutureref1_Reader__expr b.__sutureref1_Reader__expr
  __sutureref1_Reader__sum : ok___sutureref1_Reader__sum b.__sutureref1_Reader__sum
  __sutureref1_Reader__term : ok___sutureref1_Reader__term b.__sutureref1_Reader__term
  __sutureref1_Reader__factor : ok___sutureref1_Reader__factor b.__sutureref1_Reader__factor

/-! (*suture/sutureref1.Reader).expr -/
def f___sutureref1_Reader__expr (b : B___sutureref1_Reader__expr) (n : Nat) (a0 : Int) (a1 : List T) (a2 : Int) (a3 : Bool) (a4 : Int) : Option (Int × Int × ByteArray × (List T) × (List T) × Int × Bool × Int) :=
Option.bind (b.__sutureref1_Reader__sum a0 a1 a2 a3 a4) fun r0 =>
Option.bind (m___sutureref1_Reader__sign n (⟨#[60]⟩ : ByteArray) r0.2.2.2.2.1 r0.2.2.2.2.2.1 r0.2.2.2.2.2.2.1 r0.2.2.2.2.2.2.2) fun r1 =>
bif r1.1 then (
bif ((9 : Int) == 0) then (
some (r0.1, r0.2.1, r0.2.2.1, r0.2.2.2.1, r1.2.1, r1.2.2.1, r1.2.2.2.1, r1.2.2.2.2))
else (
Option.bind (b.__sutureref1_Reader__sum a0 r1.2.1 (IntKind.wrap .i64 (r1.2.2.1 + 1)) r1.2.2.2.1 r1.2.2.2.2) fun r2 =>
Option.bind (m_sutureref1_binary n 9 r0.1 r0.2.1 r0.2.2.1 r0.2.2.2.1 r2.1 r2.2.1 r2.2.2.1 r2.2.2.2.1) fun r3 =>
some (r3.1, r3.2.1, r3.2.2.1, r3.2.2.2, r2.2.2.2.2.1, r2.2.2.2.2.2.1, r2.2.2.2.2.2.2.1, r2.2.2.2.2.2.2.2)))
else (
Option.bind (m___sutureref1_Reader__sign n (⟨#[61, 61]⟩ : ByteArray) r1.2.1 r1.2.2.1 r1.2.2.2.1 r1.2.2.2.2) fun r4 =>
bif r4.1 then (
bif ((10 : Int) == 0) then (
some (r0.1, r0.2.1, r0.2.2.1, r0.2.2.2.1, r4.2.1, r4.2.2.1, r4.2.2.2.1, r4.2.2.2.2))
else (
Option.bind (b.__sutureref1_Reader__sum a0 r4.2.1 (IntKind.wrap .i64 (r4.2.2.1 + 1)) r4.2.2.2.1 r4.2.2.2.2) fun r5 =>
Option.bind (m_sutureref1_binary n 10 r0.1 r0.2.1 r0.2.2.1 r0.2.2.2.1 r5.1 r5.2.1 r5.2.2.1 r5.2.2.2.1) fun r6 =>
some (r6.1, r6.2.1, r6.2.2.1, r6.2.2.2, r5.2.2.2.2.1, r5.2.2.2.2.2.1, r5.2.2.2.2.2.2.1, r5.2.2.2.2.2.2.2)))
else (
bif ((0 : Int) == 0) then (
some (r0.1, r0.2.1, r0.2.2.1, r0.2.2.2.1, r4.2.1, r4.2.2.1, r4.2.2.2.1, r4.2.2.2.2))
else (
Option.bind (b.__sutureref1_Reader__sum a0 r4.2.1 (IntKind.wrap .i64 (r4.2.2.1 + 1)) r4.2.2.2.1 r4.2.2.2.2) fun r7 =>
Option.bind (m_sutureref1_binary n 0 r0.1 r0.2.1 r0.2.2.1 r0.2.2.2.1 r7.1 r7.2.1 r7.2.2.1 r7.2.2.2.1) fun r8 =>
some (r8.1, r8.2.1, r8.2.2.1, r8.2.2.2, r7.2.2.2.2.1, r7.2.2.2.2.2.1, r7.2.2.2.2.2.2.1, r7.2.2.2.2.2.2.2))))
noncomputable def code___sutureref1_Reader__expr : Code := Try.f61.body.getD .skip
noncomputable def sp___sutureref1_Reader__expr (b : B___sutureref1_Reader__expr) (n : Nat) : Go.Eng.Spec := ⟨fun f vs sg => (match f with
    | 62 => c___sutureref1_Reader__sum b.__sutureref1_Reader__sum vs sg
    | 54 => c___sutureref1_Reader__sign (m___sutureref1_Reader__sign n) vs sg
    | 63 => c_sutureref1_binary (m_sutureref1_binary n) vs sg
    | _ => none), fun R key E sg K => (match key with
    | _ => none)⟩
theorem sp___sutureref1_Reader__expr_ok (b : B___sutureref1_Reader__expr) (hb : B___sutureref1_Reader__expr_ok b) (n : Nat) : CallsOk Try.prog (sp___sutureref1_Reader__expr b n) := by
  intro f vs sg cm x h hx
  simp only [sp___sutureref1_Reader__expr] at h
  split at h
  · exact c___sutureref1_Reader__sum_ok _ hb.__sutureref1_Reader__sum vs sg cm x h hx
  · exact c___sutureref1_Reader__sign_ok _ (m___sutureref1_Reader__sign_ok n) vs sg cm x h hx
  · exact c_sutureref1_binary_ok _ (m_sutureref1_binary_ok n) vs sg cm x h hx
  · cases h
theorem code___sutureref1_Reader__expr_fn : Try.prog.funcs[61]? = some Try.f61 := Try.func61
theorem code___sutureref1_Reader__expr_body : Try.f61.body = some code___sutureref1_Reader__expr := by kernel_rfl
theorem code___sutureref1_Reader__expr_ok : CodeOk Try.prog code___sutureref1_Reader__expr := (sound 61 _ _ code___sutureref1_Reader__expr_fn code___sutureref1_Reader__expr_body).1
def K___sutureref1_Reader__expr (v : V) (s : Sig) : Option (Int × Int × ByteArray × (List T) × (List T) × Int × Bool × Int) := Option.bind (V.aggN 4 v) fun u0 => Option.bind (V.intOf .i64 (u0.getD 0 .any)) fun u1 => Option.bind (V.intOf .i64 (u0.getD 1 .any)) fun u2 => Option.bind (V.strOf (u0.getD 2 .any)) fun u3 => Option.bind (V.lstOf (u0.getD 3 .any)) fun u4 => Option.bind (cellsN 4 s 0) fun g0 => Option.bind (V.lstOf (g0.getD 0 .any)) fun g1 => Option.bind (V.intOf .i64 (g0.getD 1 .any)) fun g2 => Option.bind (V.boolOf (g0.getD 2 .any)) fun g3 => Option.bind (V.intOf .i64 (g0.getD 3 .any)) fun g4 => some (u1, u2, u3, u4, g1, g2, g3, g4)
theorem K___sutureref1_Reader__expr_wk {v : V} {s : Sig} {r : Int × Int × ByteArray × (List T) × (List T) × Int × Bool × Int} (h : K___sutureref1_Reader__expr v s = some r) : Wk v (enc___sutureref1_Reader__expr r) ∧ WkS 1 s (encS___sutureref1_Reader__expr r) := by
  unfold K___sutureref1_Reader__expr at h
  obtain ⟨u0, hu0, h⟩ := Option.bind_eq_some_iff.1 h
  obtain ⟨u1, hu1, h⟩ := Option.bind_eq_some_iff.1 h
  obtain ⟨u2, hu2, h⟩ := Option.bind_eq_some_iff.1 h
  obtain ⟨u3, hu3, h⟩ := Option.bind_eq_some_iff.1 h
  obtain ⟨u4, hu4, h⟩ := Option.bind_eq_some_iff.1 h
  obtain ⟨g0, hg0, h⟩ := Option.bind_eq_some_iff.1 h
  obtain ⟨g1, hg1, h⟩ := Option.bind_eq_some_iff.1 h
  obtain ⟨g2, hg2, h⟩ := Option.bind_eq_some_iff.1 h
  obtain ⟨g3, hg3, h⟩ := Option.bind_eq_some_iff.1 h
  obtain ⟨g4, hg4, h⟩ := Option.bind_eq_some_iff.1 h
  simp only [Option.some.injEq] at h
  subst h
  exact ⟨(aggN_wk hu0 (.cons (intOf_wk hu1) (.cons (intOf_wk hu2) (.cons (strOf_wk hu3) (.cons (lstOf_wk hu4) .nil))))), (wkR_sig (WkR.cons (cellsN_wk hg0 (.cons (lstOf_wk hg1) (.cons (intOf_wk hg2) (.cons (boolOf_wk hg3) (.cons (intOf_wk hg4) .nil))))).1 (cellsN_wk hg0 (.cons (lstOf_wk hg1) (.cons (intOf_wk hg2) (.cons (boolOf_wk hg3) (.cons (intOf_wk hg4) .nil))))).2 (renL_mem (.cons rfl (.cons rfl (.cons rfl (.cons rfl .nil))))) (WkR.nil _)) rfl)⟩
theorem f___sutureref1_Reader__expr_eq (b : B___sutureref1_Reader__expr) (n : Nat) (a0 : Int) (a1 : List T) (a2 : Int) (a3 : Bool) (a4 : Int) : mF Try.prog (sp___sutureref1_Reader__expr b n) 61 [(V.ptr 0 0), (V.t (T.sc (.int .i64 a0)))] [some [(V.t (T.list a1)), (V.t (T.sc (.int .i64 a2))), (V.t (T.sc (.bool a3))), (V.t (T.sc (.int .i64 a4)))]] K___sutureref1_Reader__expr = f___sutureref1_Reader__expr b n a0 a1 a2 a3 a4 := by kernel_rfl
theorem f___sutureref1_Reader__expr_ok (b : B___sutureref1_Reader__expr) (hb : B___sutureref1_Reader__expr_ok b) (n : Nat) : ok___sutureref1_Reader__expr (f___sutureref1_Reader__expr b n) := fun a0 a1 a2 a3 a4 r h => mF_ok sound (sp___sutureref1_Reader__expr_ok b hb n) code___sutureref1_Reader__expr_fn code___sutureref1_Reader__expr_body (fun a ha => absurd ha (by rw [show loopsOf code___sutureref1_Reader__expr = [] from by kernel_rfl]; simp)) (no_scope (by kernel_rfl)) ((f___sutureref1_Reader__expr_eq b n a0 a1 a2 a3 a4).trans h) (fun v s hk => ⟨(K___sutureref1_Reader__expr_wk hk).1, rfl, (K___sutureref1_Reader__expr_wk hk).2⟩)

/-! (*suture/sutureref1.Reader).sum -/
def l___sutureref1_Reader__sum_2_B (b : B___sutureref1_Reader__expr) (n : Nat) (k : Int × (List T) × Int × Bool × Int × Int × Int × ByteArray × (List T) × Int × Int × ByteArray × (List T) → Option ((List T) × Int × Bool × Int × Int × Int × ByteArray × (List T) × Int × Int × ByteArray × (List T))) : Int × (List T) × Int × Bool × Int × Int × Int × ByteArray × (List T) × Int × Int × ByteArray × (List T) → Option ((List T) × Int × Bool × Int × Int × Int × ByteArray × (List T) × Int × Int × ByteArray × (List T)) := fun (s0, s1, s2, s3, s4, s5, s6, s7, s8, s9, s10, s11, s12) =>
bif (!s3) then (
Option.bind (m___sutureref1_Reader__sign n (⟨#[43]⟩ : ByteArray) s1 s2 s3 s4) fun r1 =>
bif r1.1 then (
bif ((4 : Int) == 0) then (
some (r1.2.1, r1.2.2.1, r1.2.2.2.1, r1.2.2.2.2, s5, s6, s7, s8, s9, s10, s11, s12))
else (
Option.bind (b.__sutureref1_Reader__term s0 r1.2.1 (IntKind.wrap .i64 (r1.2.2.1 + 1)) r1.2.2.2.1 r1.2.2.2.2) fun r2 =>
Option.bind (m_sutureref1_binary n 4 s9 s10 s11 s12 r2.1 r2.2.1 r2.2.2.1 r2.2.2.2.1) fun r3 =>
k (s0, r2.2.2.2.2.1, r2.2.2.2.2.2.1, r2.2.2.2.2.2.2.1, r2.2.2.2.2.2.2.2, s5, s6, s7, s8, r3.1, r3.2.1, r3.2.2.1, r3.2.2.2)))
else (
Option.bind (m___sutureref1_Reader__sign n (⟨#[45]⟩ : ByteArray) r1.2.1 r1.2.2.1 r1.2.2.2.1 r1.2.2.2.2) fun r4 =>
bif r4.1 then (
bif ((5 : Int) == 0) then (
some (r4.2.1, r4.2.2.1, r4.2.2.2.1, r4.2.2.2.2, s5, s6, s7, s8, s9, s10, s11, s12))
else (
Option.bind (b.__sutureref1_Reader__term s0 r4.2.1 (IntKind.wrap .i64 (r4.2.2.1 + 1)) r4.2.2.2.1 r4.2.2.2.2) fun r5 =>
Option.bind (m_sutureref1_binary n 5 s9 s10 s11 s12 r5.1 r5.2.1 r5.2.2.1 r5.2.2.2.1) fun r6 =>
k (s0, r5.2.2.2.2.1, r5.2.2.2.2.2.1, r5.2.2.2.2.2.2.1, r5.2.2.2.2.2.2.2, s5, s6, s7, s8, r6.1, r6.2.1, r6.2.2.1, r6.2.2.2)))
else (
bif ((0 : Int) == 0) then (
some (r4.2.1, r4.2.2.1, r4.2.2.2.1, r4.2.2.2.2, s5, s6, s7, s8, s9, s10, s11, s12))
else (
Option.bind (b.__sutureref1_Reader__term s0 r4.2.1 (IntKind.wrap .i64 (r4.2.2.1 + 1)) r4.2.2.2.1 r4.2.2.2.2) fun r7 =>
Option.bind (m_sutureref1_binary n 0 s9 s10 s11 s12 r7.1 r7.2.1 r7.2.2.1 r7.2.2.2.1) fun r8 =>
k (s0, r7.2.2.2.2.1, r7.2.2.2.2.2.1, r7.2.2.2.2.2.2.1, r7.2.2.2.2.2.2.2, s5, s6, s7, s8, r8.1, r8.2.1, r8.2.2.1, r8.2.2.2)))))
else (
some (s1, s2, s3, s4, s5, s6, s7, s8, s9, s10, s11, s12))
def l___sutureref1_Reader__sum_2 (b : B___sutureref1_Reader__expr) (n : Nat) : Nat → Int × (List T) × Int × Bool × Int × Int × Int × ByteArray × (List T) × Int × Int × ByteArray × (List T) → Option ((List T) × Int × Bool × Int × Int × Int × ByteArray × (List T) × Int × Int × ByteArray × (List T))
  | 0, _ => none
  | m + 1, s => l___sutureref1_Reader__sum_2_B b n (l___sutureref1_Reader__sum_2 b n m) s
def f___sutureref1_Reader__sum (b : B___sutureref1_Reader__expr) (n : Nat) (a0 : Int) (a1 : List T) (a2 : Int) (a3 : Bool) (a4 : Int) : Option (Int × Int × ByteArray × (List T) × (List T) × Int × Bool × Int) :=
Option.bind (b.__sutureref1_Reader__term a0 a1 a2 a3 a4) fun r0 =>
Option.bind (l___sutureref1_Reader__sum_2 b n n (a0, r0.2.2.2.2.1, r0.2.2.2.2.2.1, r0.2.2.2.2.2.2.1, r0.2.2.2.2.2.2.2, 0, 0, (⟨#[]⟩ : ByteArray), ([] : List T), r0.1, r0.2.1, r0.2.2.1, r0.2.2.2.1)) fun p10 =>
some (p10.2.2.2.2.2.2.2.2.1, p10.2.2.2.2.2.2.2.2.2.1, p10.2.2.2.2.2.2.2.2.2.2.1, p10.2.2.2.2.2.2.2.2.2.2.2, p10.1, p10.2.1, p10.2.2.1, p10.2.2.2.1)
noncomputable def code___sutureref1_Reader__sum : Code := Try.f62.body.getD .skip
def l___sutureref1_Reader__sum_2_S (b : B___sutureref1_Reader__expr) (n : Nat) (R : Type) (E : SEnv) (sg : Sig) (K : Ex → SEnv → Sig → Option R) : Option R := Option.bind (V.ptrOf 0 0 (SEnv.at E 0)) fun u0 => Option.bind (V.intOf .i64 (SEnv.at E 1)) fun u1 => Option.bind (V.ptrOf 1 0 (SEnv.at E 4)) fun u2 => Option.bind (V.ptrOf 2 0 (SEnv.at E 5)) fun u3 => Option.bind (cellsN 4 sg 0) fun u4 => Option.bind (V.lstOf (u4.getD 0 .any)) fun u5 => Option.bind (V.intOf .i64 (u4.getD 1 .any)) fun u6 => Option.bind (V.boolOf (u4.getD 2 .any)) fun u7 => Option.bind (V.intOf .i64 (u4.getD 3 .any)) fun u8 => Option.bind (cellsN 4 sg 1) fun u9 => Option.bind (V.intOf .i64 (u9.getD 0 .any)) fun u10 => Option.bind (V.intOf .i64 (u9.getD 1 .any)) fun u11 => Option.bind (V.strOf (u9.getD 2 .any)) fun u12 => Option.bind (V.ownOf 0 (u9.getD 3 .any)) fun u13 => Option.bind (cellsN 4 sg 2) fun u14 => Option.bind (V.intOf .i64 (u14.getD 0 .any)) fun u15 => Option.bind (V.intOf .i64 (u14.getD 1 .any)) fun u16 => Option.bind (V.strOf (u14.getD 2 .any)) fun u17 => Option.bind (V.lstOf (u14.getD 3 .any)) fun u18 => Option.bind (l___sutureref1_Reader__sum_2 b n n (u1, u5, u6, u7, u8, u10, u11, u12, u13, u15, u16, u17, u18)) fun p0 => K (.exit 0) [(4, (V.ptr 1 0)), (5, (V.ptr 2 0))] [some [(V.t (T.list p0.1)), (V.t (T.sc (.int .i64 p0.2.1))), (V.t (T.sc (.bool p0.2.2.1))), (V.t (T.sc (.int .i64 p0.2.2.2.1)))], some [(V.t (T.sc (.int .i64 p0.2.2.2.2.1))), (V.t (T.sc (.int .i64 p0.2.2.2.2.2.1))), (V.t (T.sc (.string p0.2.2.2.2.2.2.1))), (V.own 0 p0.2.2.2.2.2.2.2.1)], some [(V.t (T.sc (.int .i64 p0.2.2.2.2.2.2.2.2.1))), (V.t (T.sc (.int .i64 p0.2.2.2.2.2.2.2.2.2.1))), (V.t (T.sc (.string p0.2.2.2.2.2.2.2.2.2.2.1))), (V.t (T.list p0.2.2.2.2.2.2.2.2.2.2.2))]]
noncomputable def sp___sutureref1_Reader__sum (b : B___sutureref1_Reader__expr) (n : Nat) : Go.Eng.Spec := ⟨fun f vs sg => (match f with
    | 64 => c___sutureref1_Reader__term b.__sutureref1_Reader__term vs sg
    | 54 => c___sutureref1_Reader__sign (m___sutureref1_Reader__sign n) vs sg
    | 63 => c_sutureref1_binary (m_sutureref1_binary n) vs sg
    | _ => none), fun R key E sg K => (match key with
    | 2 => l___sutureref1_Reader__sum_2_S b n R E sg K
    | _ => none)⟩
theorem sp___sutureref1_Reader__sum_ok (b : B___sutureref1_Reader__expr) (hb : B___sutureref1_Reader__expr_ok b) (n : Nat) : CallsOk Try.prog (sp___sutureref1_Reader__sum b n) := by
  intro f vs sg cm x h hx
  simp only [sp___sutureref1_Reader__sum] at h
  split at h
  · exact c___sutureref1_Reader__term_ok _ hb.__sutureref1_Reader__term vs sg cm x h hx
  · exact c___sutureref1_Reader__sign_ok _ (m___sutureref1_Reader__sign_ok n) vs sg cm x h hx
  · exact c_sutureref1_binary_ok _ (m_sutureref1_binary_ok n) vs sg cm x h hx
  · cases h
theorem code___sutureref1_Reader__sum_fn : Try.prog.funcs[62]? = some Try.f62 := Try.func62
theorem code___sutureref1_Reader__sum_body : Try.f62.body = some code___sutureref1_Reader__sum := by kernel_rfl
theorem code___sutureref1_Reader__sum_ok : CodeOk Try.prog code___sutureref1_Reader__sum := (sound 62 _ _ code___sutureref1_Reader__sum_fn code___sutureref1_Reader__sum_body).1
noncomputable def code_l___sutureref1_Reader__sum_2 : Code := (loopsOf code___sutureref1_Reader__sum).getD 0 .skip
theorem code_l___sutureref1_Reader__sum_2_ok : CodeOk Try.prog code_l___sutureref1_Reader__sum_2 := codeOk_loops code___sutureref1_Reader__sum_ok _ (getD_mem (by kernel_rfl))
def l___sutureref1_Reader__sum_2_K (k : Int × (List T) × Int × Bool × Int × Int × Int × ByteArray × (List T) × Int × Int × ByteArray × (List T) → Option ((List T) × Int × Bool × Int × Int × Int × ByteArray × (List T) × Int × Int × ByteArray × (List T))) : Ex → SEnv → Sig → Option ((List T) × Int × Bool × Int × Int × Int × ByteArray × (List T) × Int × Int × ByteArray × (List T)) := fun x E sg => match x with
  | .normal => Option.bind (V.ptrOf 0 0 (SEnv.at E 0)) fun u0 => Option.bind (V.intOf .i64 (SEnv.at E 1)) fun u1 => Option.bind (V.ptrOf 1 0 (SEnv.at E 4)) fun u2 => Option.bind (V.ptrOf 2 0 (SEnv.at E 5)) fun u3 => Option.bind (cellsN 4 sg 0) fun u4 => Option.bind (V.lstOf (u4.getD 0 .any)) fun u5 => Option.bind (V.intOf .i64 (u4.getD 1 .any)) fun u6 => Option.bind (V.boolOf (u4.getD 2 .any)) fun u7 => Option.bind (V.intOf .i64 (u4.getD 3 .any)) fun u8 => Option.bind (cellsN 4 sg 1) fun u9 => Option.bind (V.intOf .i64 (u9.getD 0 .any)) fun u10 => Option.bind (V.intOf .i64 (u9.getD 1 .any)) fun u11 => Option.bind (V.strOf (u9.getD 2 .any)) fun u12 => Option.bind (V.ownOf 0 (u9.getD 3 .any)) fun u13 => Option.bind (cellsN 4 sg 2) fun u14 => Option.bind (V.intOf .i64 (u14.getD 0 .any)) fun u15 => Option.bind (V.intOf .i64 (u14.getD 1 .any)) fun u16 => Option.bind (V.strOf (u14.getD 2 .any)) fun u17 => Option.bind (V.lstOf (u14.getD 3 .any)) fun u18 => k (u1, u5, u6, u7, u8, u10, u11, u12, u13, u15, u16, u17, u18)
  | (.exit 0) => Option.bind (V.ptrOf 1 0 (SEnv.at E 4)) fun u0 => Option.bind (V.ptrOf 2 0 (SEnv.at E 5)) fun u1 => Option.bind (cellsN 4 sg 0) fun u2 => Option.bind (V.lstOf (u2.getD 0 .any)) fun u3 => Option.bind (V.intOf .i64 (u2.getD 1 .any)) fun u4 => Option.bind (V.boolOf (u2.getD 2 .any)) fun u5 => Option.bind (V.intOf .i64 (u2.getD 3 .any)) fun u6 => Option.bind (cellsN 4 sg 1) fun u7 => Option.bind (V.intOf .i64 (u7.getD 0 .any)) fun u8 => Option.bind (V.intOf .i64 (u7.getD 1 .any)) fun u9 => Option.bind (V.strOf (u7.getD 2 .any)) fun u10 => Option.bind (V.ownOf 0 (u7.getD 3 .any)) fun u11 => Option.bind (cellsN 4 sg 2) fun u12 => Option.bind (V.intOf .i64 (u12.getD 0 .any)) fun u13 => Option.bind (V.intOf .i64 (u12.getD 1 .any)) fun u14 => Option.bind (V.strOf (u12.getD 2 .any)) fun u15 => Option.bind (V.lstOf (u12.getD 3 .any)) fun u16 => some (u3, u4, u5, u6, u8, u9, u10, u11, u13, u14, u15, u16)
  | _ => none
theorem l___sutureref1_Reader__sum_2_eq (b : B___sutureref1_Reader__expr) (n : Nat) (k : Int × (List T) × Int × Bool × Int × Int × Int × ByteArray × (List T) × Int × Int × ByteArray × (List T) → Option ((List T) × Int × Bool × Int × Int × Int × ByteArray × (List T) × Int × Int × ByteArray × (List T))) (s0 : Int) (s1 : List T) (s2 : Int) (s3 : Bool) (s4 : Int) (s5 : Int) (s6 : Int) (s7 : ByteArray) (s8 : List T) (s9 : Int) (s10 : Int) (s11 : ByteArray) (s12 : List T) : mX Try.prog (sp___sutureref1_Reader__sum b n) 37 code_l___sutureref1_Reader__sum_2 [(0, (V.ptr 0 0)), (1, (V.t (T.sc (.int .i64 s0)))), (4, (V.ptr 1 0)), (5, (V.ptr 2 0))] [some [(V.t (T.list s1)), (V.t (T.sc (.int .i64 s2))), (V.t (T.sc (.bool s3))), (V.t (T.sc (.int .i64 s4)))], some [(V.t (T.sc (.int .i64 s5))), (V.t (T.sc (.int .i64 s6))), (V.t (T.sc (.string s7))), (V.own 0 s8)], some [(V.t (T.sc (.int .i64 s9))), (V.t (T.sc (.int .i64 s10))), (V.t (T.sc (.string s11))), (V.t (T.list s12))]] (l___sutureref1_Reader__sum_2_K k) = l___sutureref1_Reader__sum_2_B b n k (s0, s1, s2, s3, s4, s5, s6, s7, s8, s9, s10, s11, s12) := by kernel_rfl
def l___sutureref1_Reader__sum_2_Q (x : (List T) × Int × Bool × Int × Int × Int × ByteArray × (List T) × Int × Int × ByteArray × (List T)) (ex : Ex) (e : Env) (s : Sig) : Prop := (fun p0 => (ex = (.exit 0) ∧ e = SEnv.env 37 [(4, (V.ptr 1 0)), (5, (V.ptr 2 0))] ∧ s = [some [(V.t (T.list p0.1)), (V.t (T.sc (.int .i64 p0.2.1))), (V.t (T.sc (.bool p0.2.2.1))), (V.t (T.sc (.int .i64 p0.2.2.2.1)))], some [(V.t (T.sc (.int .i64 p0.2.2.2.2.1))), (V.t (T.sc (.int .i64 p0.2.2.2.2.2.1))), (V.t (T.sc (.string p0.2.2.2.2.2.2.1))), (V.own 0 p0.2.2.2.2.2.2.2.1)], some [(V.t (T.sc (.int .i64 p0.2.2.2.2.2.2.2.2.1))), (V.t (T.sc (.int .i64 p0.2.2.2.2.2.2.2.2.2.1))), (V.t (T.sc (.string p0.2.2.2.2.2.2.2.2.2.2.1))), (V.t (T.list p0.2.2.2.2.2.2.2.2.2.2.2))]])) x
theorem l___sutureref1_Reader__sum_2_run (b : B___sutureref1_Reader__expr) (hb : B___sutureref1_Reader__expr_ok b) (n : Nat) : ∀ (m : Nat) (s0 : Int) (s1 : List T) (s2 : Int) (s3 : Bool) (s4 : Int) (s5 : Int) (s6 : Int) (s7 : ByteArray) (s8 : List T) (s9 : Int) (s10 : Int) (s11 : ByteArray) (s12 : List T) (x : (List T) × Int × Bool × Int × Int × Int × ByteArray × (List T) × Int × Int × ByteArray × (List T)), l___sutureref1_Reader__sum_2 b n m (s0, s1, s2, s3, s4, s5, s6, s7, s8, s9, s10, s11, s12) = some x → SemL Try.prog 1 code_l___sutureref1_Reader__sum_2 (SEnv.env 37 [(0, (V.ptr 0 0)), (1, (V.t (T.sc (.int .i64 s0)))), (4, (V.ptr 1 0)), (5, (V.ptr 2 0))]) [some [(V.t (T.list s1)), (V.t (T.sc (.int .i64 s2))), (V.t (T.sc (.bool s3))), (V.t (T.sc (.int .i64 s4)))], some [(V.t (T.sc (.int .i64 s5))), (V.t (T.sc (.int .i64 s6))), (V.t (T.sc (.string s7))), (V.own 0 s8)], some [(V.t (T.sc (.int .i64 s9))), (V.t (T.sc (.int .i64 s10))), (V.t (T.sc (.string s11))), (V.t (T.list s12))]] (l___sutureref1_Reader__sum_2_Q x)
  | 0, s0, s1, s2, s3, s4, s5, s6, s7, s8, s9, s10, s11, s12, x, h => by cases h
  | m + 1, s0, s1, s2, s3, s4, s5, s6, s7, s8, s9, s10, s11, s12, x, h => by
    refine loop_step (sp___sutureref1_Reader__sum_ok b hb n) code_l___sutureref1_Reader__sum_2_ok (fun a ha => absurd ha (by rw [show loopsOf code_l___sutureref1_Reader__sum_2 = [] from by kernel_rfl]; simp)) (no_scope (by kernel_rfl)) ((l___sutureref1_Reader__sum_2_eq b n _ s0 s1 s2 s3 s4 s5 s6 s7 s8 s9 s10 s11 s12).trans h) (fun E sg h => ?_) (fun ex E sg hne h => ?_)
    · simp only [l___sutureref1_Reader__sum_2_K] at h
      obtain ⟨u0, hu0, h⟩ := Option.bind_eq_some_iff.1 h
      obtain ⟨u1, hu1, h⟩ := Option.bind_eq_some_iff.1 h
      obtain ⟨u2, hu2, h⟩ := Option.bind_eq_some_iff.1 h
      obtain ⟨u3, hu3, h⟩ := Option.bind_eq_some_iff.1 h
      obtain ⟨u4, hu4, h⟩ := Option.bind_eq_some_iff.1 h
      obtain ⟨u5, hu5, h⟩ := Option.bind_eq_some_iff.1 h
      obtain ⟨u6, hu6, h⟩ := Option.bind_eq_some_iff.1 h
      obtain ⟨u7, hu7, h⟩ := Option.bind_eq_some_iff.1 h
      obtain ⟨u8, hu8, h⟩ := Option.bind_eq_some_iff.1 h
      obtain ⟨u9, hu9, h⟩ := Option.bind_eq_some_iff.1 h
      obtain ⟨u10, hu10, h⟩ := Option.bind_eq_some_iff.1 h
      obtain ⟨u11, hu11, h⟩ := Option.bind_eq_some_iff.1 h
      obtain ⟨u12, hu12, h⟩ := Option.bind_eq_some_iff.1 h
      obtain ⟨u13, hu13, h⟩ := Option.bind_eq_some_iff.1 h
      obtain ⟨u14, hu14, h⟩ := Option.bind_eq_some_iff.1 h
      obtain ⟨u15, hu15, h⟩ := Option.bind_eq_some_iff.1 h
      obtain ⟨u16, hu16, h⟩ := Option.bind_eq_some_iff.1 h
      obtain ⟨u17, hu17, h⟩ := Option.bind_eq_some_iff.1 h
      obtain ⟨u18, hu18, h⟩ := Option.bind_eq_some_iff.1 h
      exact SemL.pre (k := 3) (by decide) (WkA.env (WkA.cons (ptrOf_wk hu0) rfl (WkA.cons (intOf_wk hu1) rfl (WkA.cons (ptrOf_wk hu2) rfl (WkA.cons (ptrOf_wk hu3) rfl WkA.nil)))) 37) (wkR_sig (WkR.cons (cellsN_wk hu4 (.cons (lstOf_wk hu5) (.cons (intOf_wk hu6) (.cons (boolOf_wk hu7) (.cons (intOf_wk hu8) .nil))))).1 (cellsN_wk hu4 (.cons (lstOf_wk hu5) (.cons (intOf_wk hu6) (.cons (boolOf_wk hu7) (.cons (intOf_wk hu8) .nil))))).2 (renL_mem (.cons rfl (.cons rfl (.cons rfl (.cons rfl .nil))))) (WkR.cons (cellsN_wk hu9 (.cons (intOf_wk hu10) (.cons (intOf_wk hu11) (.cons (strOf_wk hu12) (.cons (ownOf_wk hu13) .nil))))).1 (cellsN_wk hu9 (.cons (intOf_wk hu10) (.cons (intOf_wk hu11) (.cons (strOf_wk hu12) (.cons (ownOf_wk hu13) .nil))))).2 (renL_mem (.cons rfl (.cons rfl (.cons rfl (.cons rfl .nil))))) (WkR.cons (cellsN_wk hu14 (.cons (intOf_wk hu15) (.cons (intOf_wk hu16) (.cons (strOf_wk hu17) (.cons (lstOf_wk hu18) .nil))))).1 (cellsN_wk hu14 (.cons (intOf_wk hu15) (.cons (intOf_wk hu16) (.cons (strOf_wk hu17) (.cons (lstOf_wk hu18) .nil))))).2 (renL_mem (.cons rfl (.cons rfl (.cons rfl (.cons rfl .nil))))) (WkR.nil _)))) rfl) (l___sutureref1_Reader__sum_2_run b hb n m _ _ _ _ _ _ _ _ _ _ _ _ _ x h)
    · unfold l___sutureref1_Reader__sum_2_K at h
      split at h
      · exact absurd rfl hne
      · obtain ⟨u0, hu0, h⟩ := Option.bind_eq_some_iff.1 h
        obtain ⟨u1, hu1, h⟩ := Option.bind_eq_some_iff.1 h
        obtain ⟨u2, hu2, h⟩ := Option.bind_eq_some_iff.1 h
        obtain ⟨u3, hu3, h⟩ := Option.bind_eq_some_iff.1 h
        obtain ⟨u4, hu4, h⟩ := Option.bind_eq_some_iff.1 h
        obtain ⟨u5, hu5, h⟩ := Option.bind_eq_some_iff.1 h
        obtain ⟨u6, hu6, h⟩ := Option.bind_eq_some_iff.1 h
        obtain ⟨u7, hu7, h⟩ := Option.bind_eq_some_iff.1 h
        obtain ⟨u8, hu8, h⟩ := Option.bind_eq_some_iff.1 h
        obtain ⟨u9, hu9, h⟩ := Option.bind_eq_some_iff.1 h
        obtain ⟨u10, hu10, h⟩ := Option.bind_eq_some_iff.1 h
        obtain ⟨u11, hu11, h⟩ := Option.bind_eq_some_iff.1 h
        obtain ⟨u12, hu12, h⟩ := Option.bind_eq_some_iff.1 h
        obtain ⟨u13, hu13, h⟩ := Option.bind_eq_some_iff.1 h
        obtain ⟨u14, hu14, h⟩ := Option.bind_eq_some_iff.1 h
        obtain ⟨u15, hu15, h⟩ := Option.bind_eq_some_iff.1 h
        obtain ⟨u16, hu16, h⟩ := Option.bind_eq_some_iff.1 h
        simp only [Option.some.injEq] at h
        subst h
        exact ⟨3, _, _, by decide, WkA.env (WkA.cons (ptrOf_wk hu0) rfl (WkA.cons (ptrOf_wk hu1) rfl WkA.nil)) 37, (wkR_sig (WkR.cons (cellsN_wk hu2 (.cons (lstOf_wk hu3) (.cons (intOf_wk hu4) (.cons (boolOf_wk hu5) (.cons (intOf_wk hu6) .nil))))).1 (cellsN_wk hu2 (.cons (lstOf_wk hu3) (.cons (intOf_wk hu4) (.cons (boolOf_wk hu5) (.cons (intOf_wk hu6) .nil))))).2 (renL_mem (.cons rfl (.cons rfl (.cons rfl (.cons rfl .nil))))) (WkR.cons (cellsN_wk hu7 (.cons (intOf_wk hu8) (.cons (intOf_wk hu9) (.cons (strOf_wk hu10) (.cons (ownOf_wk hu11) .nil))))).1 (cellsN_wk hu7 (.cons (intOf_wk hu8) (.cons (intOf_wk hu9) (.cons (strOf_wk hu10) (.cons (ownOf_wk hu11) .nil))))).2 (renL_mem (.cons rfl (.cons rfl (.cons rfl (.cons rfl .nil))))) (WkR.cons (cellsN_wk hu12 (.cons (intOf_wk hu13) (.cons (intOf_wk hu14) (.cons (strOf_wk hu15) (.cons (lstOf_wk hu16) .nil))))).1 (cellsN_wk hu12 (.cons (intOf_wk hu13) (.cons (intOf_wk hu14) (.cons (strOf_wk hu15) (.cons (lstOf_wk hu16) .nil))))).2 (renL_mem (.cons rfl (.cons rfl (.cons rfl (.cons rfl .nil))))) (WkR.nil _)))) rfl), rfl, rfl, rfl⟩
      · cases h
theorem l___sutureref1_Reader__sum_2_ok (b : B___sutureref1_Reader__expr) (hb : B___sutureref1_Reader__expr_ok b) (n : Nat) : LoopOk Try.prog (sp___sutureref1_Reader__sum b n) 1 37 code_l___sutureref1_Reader__sum_2 := by
    intro R key E sg K r hk h
    rw [show Go.Eng.keyOf code_l___sutureref1_Reader__sum_2 = some 2 from by kernel_rfl] at hk
    cases hk
    have h : l___sutureref1_Reader__sum_2_S b n R E sg K = some r := h
    unfold l___sutureref1_Reader__sum_2_S at h
    obtain ⟨u0, hu0, h⟩ := Option.bind_eq_some_iff.1 h
    obtain ⟨u1, hu1, h⟩ := Option.bind_eq_some_iff.1 h
    obtain ⟨u2, hu2, h⟩ := Option.bind_eq_some_iff.1 h
    obtain ⟨u3, hu3, h⟩ := Option.bind_eq_some_iff.1 h
    obtain ⟨u4, hu4, h⟩ := Option.bind_eq_some_iff.1 h
    obtain ⟨u5, hu5, h⟩ := Option.bind_eq_some_iff.1 h
    obtain ⟨u6, hu6, h⟩ := Option.bind_eq_some_iff.1 h
    obtain ⟨u7, hu7, h⟩ := Option.bind_eq_some_iff.1 h
    obtain ⟨u8, hu8, h⟩ := Option.bind_eq_some_iff.1 h
    obtain ⟨u9, hu9, h⟩ := Option.bind_eq_some_iff.1 h
    obtain ⟨u10, hu10, h⟩ := Option.bind_eq_some_iff.1 h
    obtain ⟨u11, hu11, h⟩ := Option.bind_eq_some_iff.1 h
    obtain ⟨u12, hu12, h⟩ := Option.bind_eq_some_iff.1 h
    obtain ⟨u13, hu13, h⟩ := Option.bind_eq_some_iff.1 h
    obtain ⟨u14, hu14, h⟩ := Option.bind_eq_some_iff.1 h
    obtain ⟨u15, hu15, h⟩ := Option.bind_eq_some_iff.1 h
    obtain ⟨u16, hu16, h⟩ := Option.bind_eq_some_iff.1 h
    obtain ⟨u17, hu17, h⟩ := Option.bind_eq_some_iff.1 h
    obtain ⟨u18, hu18, h⟩ := Option.bind_eq_some_iff.1 h
    obtain ⟨x, hx, h⟩ := Option.bind_eq_some_iff.1 h
    refine (SemL.pre (k := 3) (by decide) (WkA.env (WkA.cons (ptrOf_wk hu0) rfl (WkA.cons (intOf_wk hu1) rfl (WkA.cons (ptrOf_wk hu2) rfl (WkA.cons (ptrOf_wk hu3) rfl WkA.nil)))) 37) (wkR_sig (WkR.cons (cellsN_wk hu4 (.cons (lstOf_wk hu5) (.cons (intOf_wk hu6) (.cons (boolOf_wk hu7) (.cons (intOf_wk hu8) .nil))))).1 (cellsN_wk hu4 (.cons (lstOf_wk hu5) (.cons (intOf_wk hu6) (.cons (boolOf_wk hu7) (.cons (intOf_wk hu8) .nil))))).2 (renL_mem (.cons rfl (.cons rfl (.cons rfl (.cons rfl .nil))))) (WkR.cons (cellsN_wk hu9 (.cons (intOf_wk hu10) (.cons (intOf_wk hu11) (.cons (strOf_wk hu12) (.cons (ownOf_wk hu13) .nil))))).1 (cellsN_wk hu9 (.cons (intOf_wk hu10) (.cons (intOf_wk hu11) (.cons (strOf_wk hu12) (.cons (ownOf_wk hu13) .nil))))).2 (renL_mem (.cons rfl (.cons rfl (.cons rfl (.cons rfl .nil))))) (WkR.cons (cellsN_wk hu14 (.cons (intOf_wk hu15) (.cons (intOf_wk hu16) (.cons (strOf_wk hu17) (.cons (lstOf_wk hu18) .nil))))).1 (cellsN_wk hu14 (.cons (intOf_wk hu15) (.cons (intOf_wk hu16) (.cons (strOf_wk hu17) (.cons (lstOf_wk hu18) .nil))))).2 (renL_mem (.cons rfl (.cons rfl (.cons rfl (.cons rfl .nil))))) (WkR.nil _)))) rfl) (l___sutureref1_Reader__sum_2_run b hb n n _ _ _ _ _ _ _ _ _ _ _ _ _ x hx)).mono ?_
    intro ex e s hq
    obtain ⟨rfl, rfl, rfl⟩ := hq
    exact ⟨_, rfl, h⟩
def K___sutureref1_Reader__sum (v : V) (s : Sig) : Option (Int × Int × ByteArray × (List T) × (List T) × Int × Bool × Int) := Option.bind (V.aggN 4 v) fun u0 => Option.bind (V.intOf .i64 (u0.getD 0 .any)) fun u1 => Option.bind (V.intOf .i64 (u0.getD 1 .any)) fun u2 => Option.bind (V.strOf (u0.getD 2 .any)) fun u3 => Option.bind (V.lstOf (u0.getD 3 .any)) fun u4 => Option.bind (cellsN 4 s 0) fun g0 => Option.bind (V.lstOf (g0.getD 0 .any)) fun g1 => Option.bind (V.intOf .i64 (g0.getD 1 .any)) fun g2 => Option.bind (V.boolOf (g0.getD 2 .any)) fun g3 => Option.bind (V.intOf .i64 (g0.getD 3 .any)) fun g4 => some (u1, u2, u3, u4, g1, g2, g3, g4)
theorem K___sutureref1_Reader__sum_wk {v : V} {s : Sig} {r : Int × Int × ByteArray × (List T) × (List T) × Int × Bool × Int} (h : K___sutureref1_Reader__sum v s = some r) : Wk v (enc___sutureref1_Reader__sum r) ∧ WkS 1 s (encS___sutureref1_Reader__sum r) := by
  unfold K___sutureref1_Reader__sum at h
  obtain ⟨u0, hu0, h⟩ := Option.bind_eq_some_iff.1 h
  obtain ⟨u1, hu1, h⟩ := Option.bind_eq_some_iff.1 h
  obtain ⟨u2, hu2, h⟩ := Option.bind_eq_some_iff.1 h
  obtain ⟨u3, hu3, h⟩ := Option.bind_eq_some_iff.1 h
  obtain ⟨u4, hu4, h⟩ := Option.bind_eq_some_iff.1 h
  obtain ⟨g0, hg0, h⟩ := Option.bind_eq_some_iff.1 h
  obtain ⟨g1, hg1, h⟩ := Option.bind_eq_some_iff.1 h
  obtain ⟨g2, hg2, h⟩ := Option.bind_eq_some_iff.1 h
  obtain ⟨g3, hg3, h⟩ := Option.bind_eq_some_iff.1 h
  obtain ⟨g4, hg4, h⟩ := Option.bind_eq_some_iff.1 h
  simp only [Option.some.injEq] at h
  subst h
  exact ⟨(aggN_wk hu0 (.cons (intOf_wk hu1) (.cons (intOf_wk hu2) (.cons (strOf_wk hu3) (.cons (lstOf_wk hu4) .nil))))), (wkR_sig (WkR.cons (cellsN_wk hg0 (.cons (lstOf_wk hg1) (.cons (intOf_wk hg2) (.cons (boolOf_wk hg3) (.cons (intOf_wk hg4) .nil))))).1 (cellsN_wk hg0 (.cons (lstOf_wk hg1) (.cons (intOf_wk hg2) (.cons (boolOf_wk hg3) (.cons (intOf_wk hg4) .nil))))).2 (renL_mem (.cons rfl (.cons rfl (.cons rfl (.cons rfl .nil))))) (WkR.nil _)) rfl)⟩
theorem f___sutureref1_Reader__sum_eq (b : B___sutureref1_Reader__expr) (n : Nat) (a0 : Int) (a1 : List T) (a2 : Int) (a3 : Bool) (a4 : Int) : mF Try.prog (sp___sutureref1_Reader__sum b n) 62 [(V.ptr 0 0), (V.t (T.sc (.int .i64 a0)))] [some [(V.t (T.list a1)), (V.t (T.sc (.int .i64 a2))), (V.t (T.sc (.bool a3))), (V.t (T.sc (.int .i64 a4)))]] K___sutureref1_Reader__sum = f___sutureref1_Reader__sum b n a0 a1 a2 a3 a4 := by kernel_rfl
theorem f___sutureref1_Reader__sum_ok (b : B___sutureref1_Reader__expr) (hb : B___sutureref1_Reader__expr_ok b) (n : Nat) : ok___sutureref1_Reader__sum (f___sutureref1_Reader__sum b n) := fun a0 a1 a2 a3 a4 r h => mF_ok sound (sp___sutureref1_Reader__sum_ok b hb n) code___sutureref1_Reader__sum_fn code___sutureref1_Reader__sum_body (forall_getD (d := .skip) 1 (by kernel_rfl) (fun i hi => match i, hi with | 0, _ => l___sutureref1_Reader__sum_2_ok b hb n | i + 1, hi => absurd hi (by omega))) (no_scope (by kernel_rfl)) ((f___sutureref1_Reader__sum_eq b n a0 a1 a2 a3 a4).trans h) (fun v s hk => ⟨(K___sutureref1_Reader__sum_wk hk).1, rfl, (K___sutureref1_Reader__sum_wk hk).2⟩)

/-! (*suture/sutureref1.Reader).term -/
def l___sutureref1_Reader__term_2_B (b : B___sutureref1_Reader__expr) (n : Nat) (k : Int × (List T) × Int × Bool × Int × Int × Int × ByteArray × (List T) × Int × Int × ByteArray × (List T) → Option ((List T) × Int × Bool × Int × Int × Int × ByteArray × (List T) × Int × Int × ByteArray × (List T))) : Int × (List T) × Int × Bool × Int × Int × Int × ByteArray × (List T) × Int × Int × ByteArray × (List T) → Option ((List T) × Int × Bool × Int × Int × Int × ByteArray × (List T) × Int × Int × ByteArray × (List T)) := fun (s0, s1, s2, s3, s4, s5, s6, s7, s8, s9, s10, s11, s12) =>
bif (!s3) then (
Option.bind (m___sutureref1_Reader__sign n (⟨#[42]⟩ : ByteArray) s1 s2 s3 s4) fun r1 =>
bif r1.1 then (
bif ((6 : Int) == 0) then (
some (r1.2.1, r1.2.2.1, r1.2.2.2.1, r1.2.2.2.2, s5, s6, s7, s8, s9, s10, s11, s12))
else (
Option.bind (b.__sutureref1_Reader__factor s0 r1.2.1 (IntKind.wrap .i64 (r1.2.2.1 + 1)) r1.2.2.2.1 r1.2.2.2.2) fun r2 =>
Option.bind (m_sutureref1_binary n 6 s9 s10 s11 s12 r2.1 r2.2.1 r2.2.2.1 r2.2.2.2.1) fun r3 =>
k (s0, r2.2.2.2.2.1, r2.2.2.2.2.2.1, r2.2.2.2.2.2.2.1, r2.2.2.2.2.2.2.2, s5, s6, s7, s8, r3.1, r3.2.1, r3.2.2.1, r3.2.2.2)))
else (
Option.bind (m___sutureref1_Reader__sign n (⟨#[47]⟩ : ByteArray) r1.2.1 r1.2.2.1 r1.2.2.2.1 r1.2.2.2.2) fun r4 =>
bif r4.1 then (
bif ((7 : Int) == 0) then (
some (r4.2.1, r4.2.2.1, r4.2.2.2.1, r4.2.2.2.2, s5, s6, s7, s8, s9, s10, s11, s12))
else (
Option.bind (b.__sutureref1_Reader__factor s0 r4.2.1 (IntKind.wrap .i64 (r4.2.2.1 + 1)) r4.2.2.2.1 r4.2.2.2.2) fun r5 =>
Option.bind (m_sutureref1_binary n 7 s9 s10 s11 s12 r5.1 r5.2.1 r5.2.2.1 r5.2.2.2.1) fun r6 =>
k (s0, r5.2.2.2.2.1, r5.2.2.2.2.2.1, r5.2.2.2.2.2.2.1, r5.2.2.2.2.2.2.2, s5, s6, s7, s8, r6.1, r6.2.1, r6.2.2.1, r6.2.2.2)))
else (
Option.bind (m___sutureref1_Reader__sign n (⟨#[37]⟩ : ByteArray) r4.2.1 r4.2.2.1 r4.2.2.2.1 r4.2.2.2.2) fun r7 =>
bif r7.1 then (
bif ((8 : Int) == 0) then (
some (r7.2.1, r7.2.2.1, r7.2.2.2.1, r7.2.2.2.2, s5, s6, s7, s8, s9, s10, s11, s12))
else (
Option.bind (b.__sutureref1_Reader__factor s0 r7.2.1 (IntKind.wrap .i64 (r7.2.2.1 + 1)) r7.2.2.2.1 r7.2.2.2.2) fun r8 =>
Option.bind (m_sutureref1_binary n 8 s9 s10 s11 s12 r8.1 r8.2.1 r8.2.2.1 r8.2.2.2.1) fun r9 =>
k (s0, r8.2.2.2.2.1, r8.2.2.2.2.2.1, r8.2.2.2.2.2.2.1, r8.2.2.2.2.2.2.2, s5, s6, s7, s8, r9.1, r9.2.1, r9.2.2.1, r9.2.2.2)))
else (
bif ((0 : Int) == 0) then (
some (r7.2.1, r7.2.2.1, r7.2.2.2.1, r7.2.2.2.2, s5, s6, s7, s8, s9, s10, s11, s12))
else (
Option.bind (b.__sutureref1_Reader__factor s0 r7.2.1 (IntKind.wrap .i64 (r7.2.2.1 + 1)) r7.2.2.2.1 r7.2.2.2.2) fun r10 =>
Option.bind (m_sutureref1_binary n 0 s9 s10 s11 s12 r10.1 r10.2.1 r10.2.2.1 r10.2.2.2.1) fun r11 =>
k (s0, r10.2.2.2.2.1, r10.2.2.2.2.2.1, r10.2.2.2.2.2.2.1, r10.2.2.2.2.2.2.2, s5, s6, s7, s8, r11.1, r11.2.1, r11.2.2.1, r11.2.2.2))))))
else (
some (s1, s2, s3, s4, s5, s6, s7, s8, s9, s10, s11, s12))
def l___sutureref1_Reader__term_2 (b : B___sutureref1_Reader__expr) (n : Nat) : Nat → Int × (List T) × Int × Bool × Int × Int × Int × ByteArray × (List T) × Int × Int × ByteArray × (List T) → Option ((List T) × Int × Bool × Int × Int × Int × ByteArray × (List T) × Int × Int × ByteArray × (List T))
  | 0, _ => none
  | m + 1, s => l___sutureref1_Reader__term_2_B b n (l___sutureref1_Reader__term_2 b n m) s
def f___sutureref1_Reader__term (b : B___sutureref1_Reader__expr) (n : Nat) (a0 : Int) (a1 : List T) (a2 : Int) (a3 : Bool) (a4 : Int) : Option (Int × Int × ByteArray × (List T) × (List T) × Int × Bool × Int) :=
Option.bind (b.__sutureref1_Reader__factor a0 a1 a2 a3 a4) fun r0 =>
Option.bind (l___sutureref1_Reader__term_2 b n n (a0, r0.2.2.2.2.1, r0.2.2.2.2.2.1, r0.2.2.2.2.2.2.1, r0.2.2.2.2.2.2.2, 0, 0, (⟨#[]⟩ : ByteArray), ([] : List T), r0.1, r0.2.1, r0.2.2.1, r0.2.2.2.1)) fun p13 =>
some (p13.2.2.2.2.2.2.2.2.1, p13.2.2.2.2.2.2.2.2.2.1, p13.2.2.2.2.2.2.2.2.2.2.1, p13.2.2.2.2.2.2.2.2.2.2.2, p13.1, p13.2.1, p13.2.2.1, p13.2.2.2.1)
noncomputable def code___sutureref1_Reader__term : Code := Try.f64.body.getD .skip
def l___sutureref1_Reader__term_2_S (b : B___sutureref1_Reader__expr) (n : Nat) (R : Type) (E : SEnv) (sg : Sig) (K : Ex → SEnv → Sig → Option R) : Option R := Option.bind (V.ptrOf 0 0 (SEnv.at E 0)) fun u0 => Option.bind (V.intOf .i64 (SEnv.at E 1)) fun u1 => Option.bind (V.ptrOf 1 0 (SEnv.at E 4)) fun u2 => Option.bind (V.ptrOf 2 0 (SEnv.at E 5)) fun u3 => Option.bind (cellsN 4 sg 0) fun u4 => Option.bind (V.lstOf (u4.getD 0 .any)) fun u5 => Option.bind (V.intOf .i64 (u4.getD 1 .any)) fun u6 => Option.bind (V.boolOf (u4.getD 2 .any)) fun u7 => Option.bind (V.intOf .i64 (u4.getD 3 .any)) fun u8 => Option.bind (cellsN 4 sg 1) fun u9 => Option.bind (V.intOf .i64 (u9.getD 0 .any)) fun u10 => Option.bind (V.intOf .i64 (u9.getD 1 .any)) fun u11 => Option.bind (V.strOf (u9.getD 2 .any)) fun u12 => Option.bind (V.ownOf 0 (u9.getD 3 .any)) fun u13 => Option.bind (cellsN 4 sg 2) fun u14 => Option.bind (V.intOf .i64 (u14.getD 0 .any)) fun u15 => Option.bind (V.intOf .i64 (u14.getD 1 .any)) fun u16 => Option.bind (V.strOf (u14.getD 2 .any)) fun u17 => Option.bind (V.lstOf (u14.getD 3 .any)) fun u18 => Option.bind (l___sutureref1_Reader__term_2 b n n (u1, u5, u6, u7, u8, u10, u11, u12, u13, u15, u16, u17, u18)) fun p0 => K (.exit 0) [(4, (V.ptr 1 0)), (5, (V.ptr 2 0))] [some [(V.t (T.list p0.1)), (V.t (T.sc (.int .i64 p0.2.1))), (V.t (T.sc (.bool p0.2.2.1))), (V.t (T.sc (.int .i64 p0.2.2.2.1)))], some [(V.t (T.sc (.int .i64 p0.2.2.2.2.1))), (V.t (T.sc (.int .i64 p0.2.2.2.2.2.1))), (V.t (T.sc (.string p0.2.2.2.2.2.2.1))), (V.own 0 p0.2.2.2.2.2.2.2.1)], some [(V.t (T.sc (.int .i64 p0.2.2.2.2.2.2.2.2.1))), (V.t (T.sc (.int .i64 p0.2.2.2.2.2.2.2.2.2.1))), (V.t (T.sc (.string p0.2.2.2.2.2.2.2.2.2.2.1))), (V.t (T.list p0.2.2.2.2.2.2.2.2.2.2.2))]]
noncomputable def sp___sutureref1_Reader__term (b : B___sutureref1_Reader__expr) (n : Nat) : Go.Eng.Spec := ⟨fun f vs sg => (match f with
    | 65 => c___sutureref1_Reader__factor b.__sutureref1_Reader__factor vs sg
    | 54 => c___sutureref1_Reader__sign (m___sutureref1_Reader__sign n) vs sg
    | 63 => c_sutureref1_binary (m_sutureref1_binary n) vs sg
    | _ => none), fun R key E sg K => (match key with
    | 2 => l___sutureref1_Reader__term_2_S b n R E sg K
    | _ => none)⟩
theorem sp___sutureref1_Reader__term_ok (b : B___sutureref1_Reader__expr) (hb : B___sutureref1_Reader__expr_ok b) (n : Nat) : CallsOk Try.prog (sp___sutureref1_Reader__term b n) := by
  intro f vs sg cm x h hx
  simp only [sp___sutureref1_Reader__term] at h
  split at h
  · exact c___sutureref1_Reader__factor_ok _ hb.__sutureref1_Reader__factor vs sg cm x h hx
  · exact c___sutureref1_Reader__sign_ok _ (m___sutureref1_Reader__sign_ok n) vs sg cm x h hx
  · exact c_sutureref1_binary_ok _ (m_sutureref1_binary_ok n) vs sg cm x h hx
  · cases h
theorem code___sutureref1_Reader__term_fn : Try.prog.funcs[64]? = some Try.f64 := Try.func64
theorem code___sutureref1_Reader__term_body : Try.f64.body = some code___sutureref1_Reader__term := by kernel_rfl
theorem code___sutureref1_Reader__term_ok : CodeOk Try.prog code___sutureref1_Reader__term := (sound 64 _ _ code___sutureref1_Reader__term_fn code___sutureref1_Reader__term_body).1
noncomputable def code_l___sutureref1_Reader__term_2 : Code := (loopsOf code___sutureref1_Reader__term).getD 0 .skip
theorem code_l___sutureref1_Reader__term_2_ok : CodeOk Try.prog code_l___sutureref1_Reader__term_2 := codeOk_loops code___sutureref1_Reader__term_ok _ (getD_mem (by kernel_rfl))
def l___sutureref1_Reader__term_2_K (k : Int × (List T) × Int × Bool × Int × Int × Int × ByteArray × (List T) × Int × Int × ByteArray × (List T) → Option ((List T) × Int × Bool × Int × Int × Int × ByteArray × (List T) × Int × Int × ByteArray × (List T))) : Ex → SEnv → Sig → Option ((List T) × Int × Bool × Int × Int × Int × ByteArray × (List T) × Int × Int × ByteArray × (List T)) := fun x E sg => match x with
  | .normal => Option.bind (V.ptrOf 0 0 (SEnv.at E 0)) fun u0 => Option.bind (V.intOf .i64 (SEnv.at E 1)) fun u1 => Option.bind (V.ptrOf 1 0 (SEnv.at E 4)) fun u2 => Option.bind (V.ptrOf 2 0 (SEnv.at E 5)) fun u3 => Option.bind (cellsN 4 sg 0) fun u4 => Option.bind (V.lstOf (u4.getD 0 .any)) fun u5 => Option.bind (V.intOf .i64 (u4.getD 1 .any)) fun u6 => Option.bind (V.boolOf (u4.getD 2 .any)) fun u7 => Option.bind (V.intOf .i64 (u4.getD 3 .any)) fun u8 => Option.bind (cellsN 4 sg 1) fun u9 => Option.bind (V.intOf .i64 (u9.getD 0 .any)) fun u10 => Option.bind (V.intOf .i64 (u9.getD 1 .any)) fun u11 => Option.bind (V.strOf (u9.getD 2 .any)) fun u12 => Option.bind (V.ownOf 0 (u9.getD 3 .any)) fun u13 => Option.bind (cellsN 4 sg 2) fun u14 => Option.bind (V.intOf .i64 (u14.getD 0 .any)) fun u15 => Option.bind (V.intOf .i64 (u14.getD 1 .any)) fun u16 => Option.bind (V.strOf (u14.getD 2 .any)) fun u17 => Option.bind (V.lstOf (u14.getD 3 .any)) fun u18 => k (u1, u5, u6, u7, u8, u10, u11, u12, u13, u15, u16, u17, u18)
  | (.exit 0) => Option.bind (V.ptrOf 1 0 (SEnv.at E 4)) fun u0 => Option.bind (V.ptrOf 2 0 (SEnv.at E 5)) fun u1 => Option.bind (cellsN 4 sg 0) fun u2 => Option.bind (V.lstOf (u2.getD 0 .any)) fun u3 => Option.bind (V.intOf .i64 (u2.getD 1 .any)) fun u4 => Option.bind (V.boolOf (u2.getD 2 .any)) fun u5 => Option.bind (V.intOf .i64 (u2.getD 3 .any)) fun u6 => Option.bind (cellsN 4 sg 1) fun u7 => Option.bind (V.intOf .i64 (u7.getD 0 .any)) fun u8 => Option.bind (V.intOf .i64 (u7.getD 1 .any)) fun u9 => Option.bind (V.strOf (u7.getD 2 .any)) fun u10 => Option.bind (V.ownOf 0 (u7.getD 3 .any)) fun u11 => Option.bind (cellsN 4 sg 2) fun u12 => Option.bind (V.intOf .i64 (u12.getD 0 .any)) fun u13 => Option.bind (V.intOf .i64 (u12.getD 1 .any)) fun u14 => Option.bind (V.strOf (u12.getD 2 .any)) fun u15 => Option.bind (V.lstOf (u12.getD 3 .any)) fun u16 => some (u3, u4, u5, u6, u8, u9, u10, u11, u13, u14, u15, u16)
  | _ => none
theorem l___sutureref1_Reader__term_2_eq (b : B___sutureref1_Reader__expr) (n : Nat) (k : Int × (List T) × Int × Bool × Int × Int × Int × ByteArray × (List T) × Int × Int × ByteArray × (List T) → Option ((List T) × Int × Bool × Int × Int × Int × ByteArray × (List T) × Int × Int × ByteArray × (List T))) (s0 : Int) (s1 : List T) (s2 : Int) (s3 : Bool) (s4 : Int) (s5 : Int) (s6 : Int) (s7 : ByteArray) (s8 : List T) (s9 : Int) (s10 : Int) (s11 : ByteArray) (s12 : List T) : mX Try.prog (sp___sutureref1_Reader__term b n) 40 code_l___sutureref1_Reader__term_2 [(0, (V.ptr 0 0)), (1, (V.t (T.sc (.int .i64 s0)))), (4, (V.ptr 1 0)), (5, (V.ptr 2 0))] [some [(V.t (T.list s1)), (V.t (T.sc (.int .i64 s2))), (V.t (T.sc (.bool s3))), (V.t (T.sc (.int .i64 s4)))], some [(V.t (T.sc (.int .i64 s5))), (V.t (T.sc (.int .i64 s6))), (V.t (T.sc (.string s7))), (V.own 0 s8)], some [(V.t (T.sc (.int .i64 s9))), (V.t (T.sc (.int .i64 s10))), (V.t (T.sc (.string s11))), (V.t (T.list s12))]] (l___sutureref1_Reader__term_2_K k) = l___sutureref1_Reader__term_2_B b n k (s0, s1, s2, s3, s4, s5, s6, s7, s8, s9, s10, s11, s12) := by kernel_rfl
def l___sutureref1_Reader__term_2_Q (x : (List T) × Int × Bool × Int × Int × Int × ByteArray × (List T) × Int × Int × ByteArray × (List T)) (ex : Ex) (e : Env) (s : Sig) : Prop := (fun p0 => (ex = (.exit 0) ∧ e = SEnv.env 40 [(4, (V.ptr 1 0)), (5, (V.ptr 2 0))] ∧ s = [some [(V.t (T.list p0.1)), (V.t (T.sc (.int .i64 p0.2.1))), (V.t (T.sc (.bool p0.2.2.1))), (V.t (T.sc (.int .i64 p0.2.2.2.1)))], some [(V.t (T.sc (.int .i64 p0.2.2.2.2.1))), (V.t (T.sc (.int .i64 p0.2.2.2.2.2.1))), (V.t (T.sc (.string p0.2.2.2.2.2.2.1))), (V.own 0 p0.2.2.2.2.2.2.2.1)], some [(V.t (T.sc (.int .i64 p0.2.2.2.2.2.2.2.2.1))), (V.t (T.sc (.int .i64 p0.2.2.2.2.2.2.2.2.2.1))), (V.t (T.sc (.string p0.2.2.2.2.2.2.2.2.2.2.1))), (V.t (T.list p0.2.2.2.2.2.2.2.2.2.2.2))]])) x
theorem l___sutureref1_Reader__term_2_run (b : B___sutureref1_Reader__expr) (hb : B___sutureref1_Reader__expr_ok b) (n : Nat) : ∀ (m : Nat) (s0 : Int) (s1 : List T) (s2 : Int) (s3 : Bool) (s4 : Int) (s5 : Int) (s6 : Int) (s7 : ByteArray) (s8 : List T) (s9 : Int) (s10 : Int) (s11 : ByteArray) (s12 : List T) (x : (List T) × Int × Bool × Int × Int × Int × ByteArray × (List T) × Int × Int × ByteArray × (List T)), l___sutureref1_Reader__term_2 b n m (s0, s1, s2, s3, s4, s5, s6, s7, s8, s9, s10, s11, s12) = some x → SemL Try.prog 1 code_l___sutureref1_Reader__term_2 (SEnv.env 40 [(0, (V.ptr 0 0)), (1, (V.t (T.sc (.int .i64 s0)))), (4, (V.ptr 1 0)), (5, (V.ptr 2 0))]) [some [(V.t (T.list s1)), (V.t (T.sc (.int .i64 s2))), (V.t (T.sc (.bool s3))), (V.t (T.sc (.int .i64 s4)))], some [(V.t (T.sc (.int .i64 s5))), (V.t (T.sc (.int .i64 s6))), (V.t (T.sc (.string s7))), (V.own 0 s8)], some [(V.t (T.sc (.int .i64 s9))), (V.t (T.sc (.int .i64 s10))), (V.t (T.sc (.string s11))), (V.t (T.list s12))]] (l___sutureref1_Reader__term_2_Q x)
  | 0, s0, s1, s2, s3, s4, s5, s6, s7, s8, s9, s10, s11, s12, x, h => by cases h
  | m + 1, s0, s1, s2, s3, s4, s5, s6, s7, s8, s9, s10, s11, s12, x, h => by
    refine loop_step (sp___sutureref1_Reader__term_ok b hb n) code_l___sutureref1_Reader__term_2_ok (fun a ha => absurd ha (by rw [show loopsOf code_l___sutureref1_Reader__term_2 = [] from by kernel_rfl]; simp)) (no_scope (by kernel_rfl)) ((l___sutureref1_Reader__term_2_eq b n _ s0 s1 s2 s3 s4 s5 s6 s7 s8 s9 s10 s11 s12).trans h) (fun E sg h => ?_) (fun ex E sg hne h => ?_)
    · simp only [l___sutureref1_Reader__term_2_K] at h
      obtain ⟨u0, hu0, h⟩ := Option.bind_eq_some_iff.1 h
      obtain ⟨u1, hu1, h⟩ := Option.bind_eq_some_iff.1 h
      obtain ⟨u2, hu2, h⟩ := Option.bind_eq_some_iff.1 h
      obtain ⟨u3, hu3, h⟩ := Option.bind_eq_some_iff.1 h
      obtain ⟨u4, hu4, h⟩ := Option.bind_eq_some_iff.1 h
      obtain ⟨u5, hu5, h⟩ := Option.bind_eq_some_iff.1 h
      obtain ⟨u6, hu6, h⟩ := Option.bind_eq_some_iff.1 h
      obtain ⟨u7, hu7, h⟩ := Option.bind_eq_some_iff.1 h
      obtain ⟨u8, hu8, h⟩ := Option.bind_eq_some_iff.1 h
      obtain ⟨u9, hu9, h⟩ := Option.bind_eq_some_iff.1 h
      obtain ⟨u10, hu10, h⟩ := Option.bind_eq_some_iff.1 h
      obtain ⟨u11, hu11, h⟩ := Option.bind_eq_some_iff.1 h
      obtain ⟨u12, hu12, h⟩ := Option.bind_eq_some_iff.1 h
      obtain ⟨u13, hu13, h⟩ := Option.bind_eq_some_iff.1 h
      obtain ⟨u14, hu14, h⟩ := Option.bind_eq_some_iff.1 h
      obtain ⟨u15, hu15, h⟩ := Option.bind_eq_some_iff.1 h
      obtain ⟨u16, hu16, h⟩ := Option.bind_eq_some_iff.1 h
      obtain ⟨u17, hu17, h⟩ := Option.bind_eq_some_iff.1 h
      obtain ⟨u18, hu18, h⟩ := Option.bind_eq_some_iff.1 h
      exact SemL.pre (k := 3) (by decide) (WkA.env (WkA.cons (ptrOf_wk hu0) rfl (WkA.cons (intOf_wk hu1) rfl (WkA.cons (ptrOf_wk hu2) rfl (WkA.cons (ptrOf_wk hu3) rfl WkA.nil)))) 40) (wkR_sig (WkR.cons (cellsN_wk hu4 (.cons (lstOf_wk hu5) (.cons (intOf_wk hu6) (.cons (boolOf_wk hu7) (.cons (intOf_wk hu8) .nil))))).1 (cellsN_wk hu4 (.cons (lstOf_wk hu5) (.cons (intOf_wk hu6) (.cons (boolOf_wk hu7) (.cons (intOf_wk hu8) .nil))))).2 (renL_mem (.cons rfl (.cons rfl (.cons rfl (.cons rfl .nil))))) (WkR.cons (cellsN_wk hu9 (.cons (intOf_wk hu10) (.cons (intOf_wk hu11) (.cons (strOf_wk hu12) (.cons (ownOf_wk hu13) .nil))))).1 (cellsN_wk hu9 (.cons (intOf_wk hu10) (.cons (intOf_wk hu11) (.cons (strOf_wk hu12) (.cons (ownOf_wk hu13) .nil))))).2 (renL_mem (.cons rfl (.cons rfl (.cons rfl (.cons rfl .nil))))) (WkR.cons (cellsN_wk hu14 (.cons (intOf_wk hu15) (.cons (intOf_wk hu16) (.cons (strOf_wk hu17) (.cons (lstOf_wk hu18) .nil))))).1 (cellsN_wk hu14 (.cons (intOf_wk hu15) (.cons (intOf_wk hu16) (.cons (strOf_wk hu17) (.cons (lstOf_wk hu18) .nil))))).2 (renL_mem (.cons rfl (.cons rfl (.cons rfl (.cons rfl .nil))))) (WkR.nil _)))) rfl) (l___sutureref1_Reader__term_2_run b hb n m _ _ _ _ _ _ _ _ _ _ _ _ _ x h)
    · unfold l___sutureref1_Reader__term_2_K at h
      split at h
      · exact absurd rfl hne
      · obtain ⟨u0, hu0, h⟩ := Option.bind_eq_some_iff.1 h
        obtain ⟨u1, hu1, h⟩ := Option.bind_eq_some_iff.1 h
        obtain ⟨u2, hu2, h⟩ := Option.bind_eq_some_iff.1 h
        obtain ⟨u3, hu3, h⟩ := Option.bind_eq_some_iff.1 h
        obtain ⟨u4, hu4, h⟩ := Option.bind_eq_some_iff.1 h
        obtain ⟨u5, hu5, h⟩ := Option.bind_eq_some_iff.1 h
        obtain ⟨u6, hu6, h⟩ := Option.bind_eq_some_iff.1 h
        obtain ⟨u7, hu7, h⟩ := Option.bind_eq_some_iff.1 h
        obtain ⟨u8, hu8, h⟩ := Option.bind_eq_some_iff.1 h
        obtain ⟨u9, hu9, h⟩ := Option.bind_eq_some_iff.1 h
        obtain ⟨u10, hu10, h⟩ := Option.bind_eq_some_iff.1 h
        obtain ⟨u11, hu11, h⟩ := Option.bind_eq_some_iff.1 h
        obtain ⟨u12, hu12, h⟩ := Option.bind_eq_some_iff.1 h
        obtain ⟨u13, hu13, h⟩ := Option.bind_eq_some_iff.1 h
        obtain ⟨u14, hu14, h⟩ := Option.bind_eq_some_iff.1 h
        obtain ⟨u15, hu15, h⟩ := Option.bind_eq_some_iff.1 h
        obtain ⟨u16, hu16, h⟩ := Option.bind_eq_some_iff.1 h
        simp only [Option.some.injEq] at h
        subst h
        exact ⟨3, _, _, by decide, WkA.env (WkA.cons (ptrOf_wk hu0) rfl (WkA.cons (ptrOf_wk hu1) rfl WkA.nil)) 40, (wkR_sig (WkR.cons (cellsN_wk hu2 (.cons (lstOf_wk hu3) (.cons (intOf_wk hu4) (.cons (boolOf_wk hu5) (.cons (intOf_wk hu6) .nil))))).1 (cellsN_wk hu2 (.cons (lstOf_wk hu3) (.cons (intOf_wk hu4) (.cons (boolOf_wk hu5) (.cons (intOf_wk hu6) .nil))))).2 (renL_mem (.cons rfl (.cons rfl (.cons rfl (.cons rfl .nil))))) (WkR.cons (cellsN_wk hu7 (.cons (intOf_wk hu8) (.cons (intOf_wk hu9) (.cons (strOf_wk hu10) (.cons (ownOf_wk hu11) .nil))))).1 (cellsN_wk hu7 (.cons (intOf_wk hu8) (.cons (intOf_wk hu9) (.cons (strOf_wk hu10) (.cons (ownOf_wk hu11) .nil))))).2 (renL_mem (.cons rfl (.cons rfl (.cons rfl (.cons rfl .nil))))) (WkR.cons (cellsN_wk hu12 (.cons (intOf_wk hu13) (.cons (intOf_wk hu14) (.cons (strOf_wk hu15) (.cons (lstOf_wk hu16) .nil))))).1 (cellsN_wk hu12 (.cons (intOf_wk hu13) (.cons (intOf_wk hu14) (.cons (strOf_wk hu15) (.cons (lstOf_wk hu16) .nil))))).2 (renL_mem (.cons rfl (.cons rfl (.cons rfl (.cons rfl .nil))))) (WkR.nil _)))) rfl), rfl, rfl, rfl⟩
      · cases h
theorem l___sutureref1_Reader__term_2_ok (b : B___sutureref1_Reader__expr) (hb : B___sutureref1_Reader__expr_ok b) (n : Nat) : LoopOk Try.prog (sp___sutureref1_Reader__term b n) 1 40 code_l___sutureref1_Reader__term_2 := by
    intro R key E sg K r hk h
    rw [show Go.Eng.keyOf code_l___sutureref1_Reader__term_2 = some 2 from by kernel_rfl] at hk
    cases hk
    have h : l___sutureref1_Reader__term_2_S b n R E sg K = some r := h
    unfold l___sutureref1_Reader__term_2_S at h
    obtain ⟨u0, hu0, h⟩ := Option.bind_eq_some_iff.1 h
    obtain ⟨u1, hu1, h⟩ := Option.bind_eq_some_iff.1 h
    obtain ⟨u2, hu2, h⟩ := Option.bind_eq_some_iff.1 h
    obtain ⟨u3, hu3, h⟩ := Option.bind_eq_some_iff.1 h
    obtain ⟨u4, hu4, h⟩ := Option.bind_eq_some_iff.1 h
    obtain ⟨u5, hu5, h⟩ := Option.bind_eq_some_iff.1 h
    obtain ⟨u6, hu6, h⟩ := Option.bind_eq_some_iff.1 h
    obtain ⟨u7, hu7, h⟩ := Option.bind_eq_some_iff.1 h
    obtain ⟨u8, hu8, h⟩ := Option.bind_eq_some_iff.1 h
    obtain ⟨u9, hu9, h⟩ := Option.bind_eq_some_iff.1 h
    obtain ⟨u10, hu10, h⟩ := Option.bind_eq_some_iff.1 h
    obtain ⟨u11, hu11, h⟩ := Option.bind_eq_some_iff.1 h
    obtain ⟨u12, hu12, h⟩ := Option.bind_eq_some_iff.1 h
    obtain ⟨u13, hu13, h⟩ := Option.bind_eq_some_iff.1 h
    obtain ⟨u14, hu14, h⟩ := Option.bind_eq_some_iff.1 h
    obtain ⟨u15, hu15, h⟩ := Option.bind_eq_some_iff.1 h
    obtain ⟨u16, hu16, h⟩ := Option.bind_eq_some_iff.1 h
    obtain ⟨u17, hu17, h⟩ := Option.bind_eq_some_iff.1 h
    obtain ⟨u18, hu18, h⟩ := Option.bind_eq_some_iff.1 h
    obtain ⟨x, hx, h⟩ := Option.bind_eq_some_iff.1 h
    refine (SemL.pre (k := 3) (by decide) (WkA.env (WkA.cons (ptrOf_wk hu0) rfl (WkA.cons (intOf_wk hu1) rfl (WkA.cons (ptrOf_wk hu2) rfl (WkA.cons (ptrOf_wk hu3) rfl WkA.nil)))) 40) (wkR_sig (WkR.cons (cellsN_wk hu4 (.cons (lstOf_wk hu5) (.cons (intOf_wk hu6) (.cons (boolOf_wk hu7) (.cons (intOf_wk hu8) .nil))))).1 (cellsN_wk hu4 (.cons (lstOf_wk hu5) (.cons (intOf_wk hu6) (.cons (boolOf_wk hu7) (.cons (intOf_wk hu8) .nil))))).2 (renL_mem (.cons rfl (.cons rfl (.cons rfl (.cons rfl .nil))))) (WkR.cons (cellsN_wk hu9 (.cons (intOf_wk hu10) (.cons (intOf_wk hu11) (.cons (strOf_wk hu12) (.cons (ownOf_wk hu13) .nil))))).1 (cellsN_wk hu9 (.cons (intOf_wk hu10) (.cons (intOf_wk hu11) (.cons (strOf_wk hu12) (.cons (ownOf_wk hu13) .nil))))).2 (renL_mem (.cons rfl (.cons rfl (.cons rfl (.cons rfl .nil))))) (WkR.cons (cellsN_wk hu14 (.cons (intOf_wk hu15) (.cons (intOf_wk hu16) (.cons (strOf_wk hu17) (.cons (lstOf_wk hu18) .nil))))).1 (cellsN_wk hu14 (.cons (intOf_wk hu15) (.cons (intOf_wk hu16) (.cons (strOf_wk hu17) (.cons (lstOf_wk hu18) .nil))))).2 (renL_mem (.cons rfl (.cons rfl (.cons rfl (.cons rfl .nil))))) (WkR.nil _)))) rfl) (l___sutureref1_Reader__term_2_run b hb n n _ _ _ _ _ _ _ _ _ _ _ _ _ x hx)).mono ?_
    intro ex e s hq
    obtain ⟨rfl, rfl, rfl⟩ := hq
    exact ⟨_, rfl, h⟩
def K___sutureref1_Reader__term (v : V) (s : Sig) : Option (Int × Int × ByteArray × (List T) × (List T) × Int × Bool × Int) := Option.bind (V.aggN 4 v) fun u0 => Option.bind (V.intOf .i64 (u0.getD 0 .any)) fun u1 => Option.bind (V.intOf .i64 (u0.getD 1 .any)) fun u2 => Option.bind (V.strOf (u0.getD 2 .any)) fun u3 => Option.bind (V.lstOf (u0.getD 3 .any)) fun u4 => Option.bind (cellsN 4 s 0) fun g0 => Option.bind (V.lstOf (g0.getD 0 .any)) fun g1 => Option.bind (V.intOf .i64 (g0.getD 1 .any)) fun g2 => Option.bind (V.boolOf (g0.getD 2 .any)) fun g3 => Option.bind (V.intOf .i64 (g0.getD 3 .any)) fun g4 => some (u1, u2, u3, u4, g1, g2, g3, g4)
theorem K___sutureref1_Reader__term_wk {v : V} {s : Sig} {r : Int × Int × ByteArray × (List T) × (List T) × Int × Bool × Int} (h : K___sutureref1_Reader__term v s = some r) : Wk v (enc___sutureref1_Reader__term r) ∧ WkS 1 s (encS___sutureref1_Reader__term r) := by
  unfold K___sutureref1_Reader__term at h
  obtain ⟨u0, hu0, h⟩ := Option.bind_eq_some_iff.1 h
  obtain ⟨u1, hu1, h⟩ := Option.bind_eq_some_iff.1 h
  obtain ⟨u2, hu2, h⟩ := Option.bind_eq_some_iff.1 h
  obtain ⟨u3, hu3, h⟩ := Option.bind_eq_some_iff.1 h
  obtain ⟨u4, hu4, h⟩ := Option.bind_eq_some_iff.1 h
  obtain ⟨g0, hg0, h⟩ := Option.bind_eq_some_iff.1 h
  obtain ⟨g1, hg1, h⟩ := Option.bind_eq_some_iff.1 h
  obtain ⟨g2, hg2, h⟩ := Option.bind_eq_some_iff.1 h
  obtain ⟨g3, hg3, h⟩ := Option.bind_eq_some_iff.1 h
  obtain ⟨g4, hg4, h⟩ := Option.bind_eq_some_iff.1 h
  simp only [Option.some.injEq] at h
  subst h
  exact ⟨(aggN_wk hu0 (.cons (intOf_wk hu1) (.cons (intOf_wk hu2) (.cons (strOf_wk hu3) (.cons (lstOf_wk hu4) .nil))))), (wkR_sig (WkR.cons (cellsN_wk hg0 (.cons (lstOf_wk hg1) (.cons (intOf_wk hg2) (.cons (boolOf_wk hg3) (.cons (intOf_wk hg4) .nil))))).1 (cellsN_wk hg0 (.cons (lstOf_wk hg1) (.cons (intOf_wk hg2) (.cons (boolOf_wk hg3) (.cons (intOf_wk hg4) .nil))))).2 (renL_mem (.cons rfl (.cons rfl (.cons rfl (.cons rfl .nil))))) (WkR.nil _)) rfl)⟩
theorem f___sutureref1_Reader__term_eq (b : B___sutureref1_Reader__expr) (n : Nat) (a0 : Int) (a1 : List T) (a2 : Int) (a3 : Bool) (a4 : Int) : mF Try.prog (sp___sutureref1_Reader__term b n) 64 [(V.ptr 0 0), (V.t (T.sc (.int .i64 a0)))] [some [(V.t (T.list a1)), (V.t (T.sc (.int .i64 a2))), (V.t (T.sc (.bool a3))), (V.t (T.sc (.int .i64 a4)))]] K___sutureref1_Reader__term = f___sutureref1_Reader__term b n a0 a1 a2 a3 a4 := by kernel_rfl
theorem f___sutureref1_Reader__term_ok (b : B___sutureref1_Reader__expr) (hb : B___sutureref1_Reader__expr_ok b) (n : Nat) : ok___sutureref1_Reader__term (f___sutureref1_Reader__term b n) := fun a0 a1 a2 a3 a4 r h => mF_ok sound (sp___sutureref1_Reader__term_ok b hb n) code___sutureref1_Reader__term_fn code___sutureref1_Reader__term_body (forall_getD (d := .skip) 1 (by kernel_rfl) (fun i hi => match i, hi with | 0, _ => l___sutureref1_Reader__term_2_ok b hb n | i + 1, hi => absurd hi (by omega))) (no_scope (by kernel_rfl)) ((f___sutureref1_Reader__term_eq b n a0 a1 a2 a3 a4).trans h) (fun v s hk => ⟨(K___sutureref1_Reader__term_wk hk).1, rfl, (K___sutureref1_Reader__term_wk hk).2⟩)

/-! (*suture/sutureref1.Reader).factor -/
def f___sutureref1_Reader__factor (b : B___sutureref1_Reader__expr) (n : Nat) (a0 : Int) (a1 : List T) (a2 : Int) (a3 : Bool) (a4 : Int) : Option (Int × Int × ByteArray × (List T) × (List T) × Int × Bool × Int) :=
bif a3 then (
some (0, 0, (⟨#[]⟩ : ByteArray), ([] : List T), a1, a2, a3, a4))
else (
Option.bind (idx true [.int .i64, .str, .int .i64, .int .i64] a1 a2) fun y0 =>
bif (((y0.cell 0).int : Int) == 2) then (
some (1, (y0.cell 2).int, (⟨#[]⟩ : ByteArray), ([] : List T), a1, (IntKind.wrap .i64 (a2 + 1)), a3, a4))
else (
Option.bind (bif (((y0.cell 0).int : Int) == 1) then m_sutureref1_Keyword n (y0.cell 1).str else some false) fun r1 =>
bif (bif (((y0.cell 0).int : Int) == 1) then (!r1) else false) then (
some (2, 0, (y0.cell 1).str, ([] : List T), a1, (IntKind.wrap .i64 (a2 + 1)), a3, a4))
else (
Option.bind (m___sutureref1_Reader__sign n (⟨#[45]⟩ : ByteArray) a1 a2 a3 a4) fun r2 =>
bif (bif r2.1 then (decide ((a0 : Int) < 8)) else false) then (
Option.bind (b.__sutureref1_Reader__factor (IntKind.wrap .i64 (a0 + 1)) r2.2.1 (IntKind.wrap .i64 (r2.2.2.1 + 1)) r2.2.2.2.1 r2.2.2.2.2) fun r3 =>
some (3, 0, (⟨#[]⟩ : ByteArray), [(T.agg [(T.sc (.int .i64 r3.1)), (T.sc (.int .i64 r3.2.1)), (T.sc (.string r3.2.2.1)), (T.list r3.2.2.2.1)])], r3.2.2.2.2.1, r3.2.2.2.2.2.1, r3.2.2.2.2.2.2.1, r3.2.2.2.2.2.2.2))
else (
Option.bind (m___sutureref1_Reader__sign n (⟨#[40]⟩ : ByteArray) r2.2.1 r2.2.2.1 r2.2.2.2.1 r2.2.2.2.2) fun r4 =>
bif (bif r4.1 then (decide ((a0 : Int) < 8)) else false) then (
Option.bind (b.__sutureref1_Reader__expr (IntKind.wrap .i64 (a0 + 1)) r4.2.1 (IntKind.wrap .i64 (r4.2.2.1 + 1)) r4.2.2.2.1 r4.2.2.2.2) fun r5 =>
Option.bind (m___sutureref1_Reader__must n (⟨#[41]⟩ : ByteArray) r5.2.2.2.2.1 r5.2.2.2.2.2.1 r5.2.2.2.2.2.2.1 r5.2.2.2.2.2.2.2) fun r6 =>
some (r5.1, r5.2.1, r5.2.2.1, r5.2.2.2.1, r6.1, r6.2.1, r6.2.2.1, r6.2.2.2))
else (
Option.bind (m___sutureref1_Reader__fail n r4.2.1 r4.2.2.1 r4.2.2.2.1 r4.2.2.2.2) fun r7 =>
some (0, 0, (⟨#[]⟩ : ByteArray), ([] : List T), r7.1, r7.2.1, r7.2.2.1, r7.2.2.2))))))
noncomputable def code___sutureref1_Reader__factor : Code := Try.f65.body.getD .skip
noncomputable def sp___sutureref1_Reader__factor (b : B___sutureref1_Reader__expr) (n : Nat) : Go.Eng.Spec := ⟨fun f vs sg => (match f with
    | 52 => c_sutureref1_Keyword (m_sutureref1_Keyword n) vs sg
    | 54 => c___sutureref1_Reader__sign (m___sutureref1_Reader__sign n) vs sg
    | 65 => c___sutureref1_Reader__factor b.__sutureref1_Reader__factor vs sg
    | 61 => c___sutureref1_Reader__expr b.__sutureref1_Reader__expr vs sg
    | 53 => c___sutureref1_Reader__must (m___sutureref1_Reader__must n) vs sg
    | 37 => c___sutureref1_Reader__fail (m___sutureref1_Reader__fail n) vs sg
    | _ => none), fun R key E sg K => (match key with
    | _ => none)⟩
theorem sp___sutureref1_Reader__factor_ok (b : B___sutureref1_Reader__expr) (hb : B___sutureref1_Reader__expr_ok b) (n : Nat) : CallsOk Try.prog (sp___sutureref1_Reader__factor b n) := by
  intro f vs sg cm x h hx
  simp only [sp___sutureref1_Reader__factor] at h
  split at h
  · exact c_sutureref1_Keyword_ok _ (m_sutureref1_Keyword_ok n) vs sg cm x h hx
  · exact c___sutureref1_Reader__sign_ok _ (m___sutureref1_Reader__sign_ok n) vs sg cm x h hx
  · exact c___sutureref1_Reader__factor_ok _ hb.__sutureref1_Reader__factor vs sg cm x h hx
  · exact c___sutureref1_Reader__expr_ok _ hb.__sutureref1_Reader__expr vs sg cm x h hx
  · exact c___sutureref1_Reader__must_ok _ (m___sutureref1_Reader__must_ok n) vs sg cm x h hx
  · exact c___sutureref1_Reader__fail_ok _ (m___sutureref1_Reader__fail_ok n) vs sg cm x h hx
  · cases h
theorem code___sutureref1_Reader__factor_fn : Try.prog.funcs[65]? = some Try.f65 := Try.func65
theorem code___sutureref1_Reader__factor_body : Try.f65.body = some code___sutureref1_Reader__factor := by kernel_rfl
theorem code___sutureref1_Reader__factor_ok : CodeOk Try.prog code___sutureref1_Reader__factor := (sound 65 _ _ code___sutureref1_Reader__factor_fn code___sutureref1_Reader__factor_body).1
def K___sutureref1_Reader__factor (v : V) (s : Sig) : Option (Int × Int × ByteArray × (List T) × (List T) × Int × Bool × Int) := Option.bind (V.aggN 4 v) fun u0 => Option.bind (V.intOf .i64 (u0.getD 0 .any)) fun u1 => Option.bind (V.intOf .i64 (u0.getD 1 .any)) fun u2 => Option.bind (V.strOf (u0.getD 2 .any)) fun u3 => Option.bind (V.lstOf (u0.getD 3 .any)) fun u4 => Option.bind (cellsN 4 s 0) fun g0 => Option.bind (V.lstOf (g0.getD 0 .any)) fun g1 => Option.bind (V.intOf .i64 (g0.getD 1 .any)) fun g2 => Option.bind (V.boolOf (g0.getD 2 .any)) fun g3 => Option.bind (V.intOf .i64 (g0.getD 3 .any)) fun g4 => some (u1, u2, u3, u4, g1, g2, g3, g4)
theorem K___sutureref1_Reader__factor_wk {v : V} {s : Sig} {r : Int × Int × ByteArray × (List T) × (List T) × Int × Bool × Int} (h : K___sutureref1_Reader__factor v s = some r) : Wk v (enc___sutureref1_Reader__factor r) ∧ WkS 1 s (encS___sutureref1_Reader__factor r) := by
  unfold K___sutureref1_Reader__factor at h
  obtain ⟨u0, hu0, h⟩ := Option.bind_eq_some_iff.1 h
  obtain ⟨u1, hu1, h⟩ := Option.bind_eq_some_iff.1 h
  obtain ⟨u2, hu2, h⟩ := Option.bind_eq_some_iff.1 h
  obtain ⟨u3, hu3, h⟩ := Option.bind_eq_some_iff.1 h
  obtain ⟨u4, hu4, h⟩ := Option.bind_eq_some_iff.1 h
  obtain ⟨g0, hg0, h⟩ := Option.bind_eq_some_iff.1 h
  obtain ⟨g1, hg1, h⟩ := Option.bind_eq_some_iff.1 h
  obtain ⟨g2, hg2, h⟩ := Option.bind_eq_some_iff.1 h
  obtain ⟨g3, hg3, h⟩ := Option.bind_eq_some_iff.1 h
  obtain ⟨g4, hg4, h⟩ := Option.bind_eq_some_iff.1 h
  simp only [Option.some.injEq] at h
  subst h
  exact ⟨(aggN_wk hu0 (.cons (intOf_wk hu1) (.cons (intOf_wk hu2) (.cons (strOf_wk hu3) (.cons (lstOf_wk hu4) .nil))))), (wkR_sig (WkR.cons (cellsN_wk hg0 (.cons (lstOf_wk hg1) (.cons (intOf_wk hg2) (.cons (boolOf_wk hg3) (.cons (intOf_wk hg4) .nil))))).1 (cellsN_wk hg0 (.cons (lstOf_wk hg1) (.cons (intOf_wk hg2) (.cons (boolOf_wk hg3) (.cons (intOf_wk hg4) .nil))))).2 (renL_mem (.cons rfl (.cons rfl (.cons rfl (.cons rfl .nil))))) (WkR.nil _)) rfl)⟩
theorem f___sutureref1_Reader__factor_eq (b : B___sutureref1_Reader__expr) (n : Nat) (a0 : Int) (a1 : List T) (a2 : Int) (a3 : Bool) (a4 : Int) : mF Try.prog (sp___sutureref1_Reader__factor b n) 65 [(V.ptr 0 0), (V.t (T.sc (.int .i64 a0)))] [some [(V.t (T.list a1)), (V.t (T.sc (.int .i64 a2))), (V.t (T.sc (.bool a3))), (V.t (T.sc (.int .i64 a4)))]] K___sutureref1_Reader__factor = f___sutureref1_Reader__factor b n a0 a1 a2 a3 a4 := by kernel_rfl
theorem f___sutureref1_Reader__factor_ok (b : B___sutureref1_Reader__expr) (hb : B___sutureref1_Reader__expr_ok b) (n : Nat) : ok___sutureref1_Reader__factor (f___sutureref1_Reader__factor b n) := fun a0 a1 a2 a3 a4 r h => mF_ok sound (sp___sutureref1_Reader__factor_ok b hb n) code___sutureref1_Reader__factor_fn code___sutureref1_Reader__factor_body (fun a ha => absurd ha (by rw [show loopsOf code___sutureref1_Reader__factor = [] from by kernel_rfl]; simp)) (no_scope (by kernel_rfl)) ((f___sutureref1_Reader__factor_eq b n a0 a1 a2 a3 a4).trans h) (fun v s hk => ⟨(K___sutureref1_Reader__factor_wk hk).1, rfl, (K___sutureref1_Reader__factor_wk hk).2⟩)
def unB___sutureref1_Reader__expr (n : Nat) : Nat → B___sutureref1_Reader__expr
  | 0 => { __sutureref1_Reader__expr := fun _ _ _ _ _ => none, __sutureref1_Reader__sum := fun _ _ _ _ _ => none, __sutureref1_Reader__term := fun _ _ _ _ _ => none, __sutureref1_Reader__factor := fun _ _ _ _ _ => none }
  | m + 1 => { __sutureref1_Reader__expr := f___sutureref1_Reader__expr (unB___sutureref1_Reader__expr n m) n, __sutureref1_Reader__sum := f___sutureref1_Reader__sum (unB___sutureref1_Reader__expr n m) n, __sutureref1_Reader__term := f___sutureref1_Reader__term (unB___sutureref1_Reader__expr n m) n, __sutureref1_Reader__factor := f___sutureref1_Reader__factor (unB___sutureref1_Reader__expr n m) n }
theorem unB___sutureref1_Reader__expr_ok (n : Nat) : ∀ m, B___sutureref1_Reader__expr_ok (unB___sutureref1_Reader__expr n m)
  | 0 => { __sutureref1_Reader__expr := fun _ _ _ _ _ _ h => (nomatch (show none = some _ from h)), __sutureref1_Reader__sum := fun _ _ _ _ _ _ h => (nomatch (show none = some _ from h)), __sutureref1_Reader__term := fun _ _ _ _ _ _ h => (nomatch (show none = some _ from h)), __sutureref1_Reader__factor := fun _ _ _ _ _ _ h => (nomatch (show none = some _ from h)) }
  | m + 1 => { __sutureref1_Reader__expr := f___sutureref1_Reader__expr_ok _ (unB___sutureref1_Reader__expr_ok n m) n, __sutureref1_Reader__sum := f___sutureref1_Reader__sum_ok _ (unB___sutureref1_Reader__expr_ok n m) n, __sutureref1_Reader__term := f___sutureref1_Reader__term_ok _ (unB___sutureref1_Reader__expr_ok n m) n, __sutureref1_Reader__factor := f___sutureref1_Reader__factor_ok _ (unB___sutureref1_Reader__expr_ok n m) n }
def m___sutureref1_Reader__expr (n : Nat) : Int → List T → Int → Bool → Int → Option (Int × Int × ByteArray × (List T) × (List T) × Int × Bool × Int) := (unB___sutureref1_Reader__expr n n).__sutureref1_Reader__expr
theorem m___sutureref1_Reader__expr_ok (n : Nat) : ok___sutureref1_Reader__expr (m___sutureref1_Reader__expr n) := (unB___sutureref1_Reader__expr_ok n n).__sutureref1_Reader__expr
def m___sutureref1_Reader__sum (n : Nat) : Int → List T → Int → Bool → Int → Option (Int × Int × ByteArray × (List T) × (List T) × Int × Bool × Int) := (unB___sutureref1_Reader__expr n n).__sutureref1_Reader__sum
theorem m___sutureref1_Reader__sum_ok (n : Nat) : ok___sutureref1_Reader__sum (m___sutureref1_Reader__sum n) := (unB___sutureref1_Reader__expr_ok n n).__sutureref1_Reader__sum
def m___sutureref1_Reader__term (n : Nat) : Int → List T → Int → Bool → Int → Option (Int × Int × ByteArray × (List T) × (List T) × Int × Bool × Int) := (unB___sutureref1_Reader__expr n n).__sutureref1_Reader__term
theorem m___sutureref1_Reader__term_ok (n : Nat) : ok___sutureref1_Reader__term (m___sutureref1_Reader__term n) := (unB___sutureref1_Reader__expr_ok n n).__sutureref1_Reader__term
def m___sutureref1_Reader__factor (n : Nat) : Int → List T → Int → Bool → Int → Option (Int × Int × ByteArray × (List T) × (List T) × Int × Bool × Int) := (unB___sutureref1_Reader__expr n n).__sutureref1_Reader__factor
theorem m___sutureref1_Reader__factor_ok (n : Nat) : ok___sutureref1_Reader__factor (m___sutureref1_Reader__factor n) := (unB___sutureref1_Reader__expr_ok n n).__sutureref1_Reader__factor


/-! (*suture/sutureref1.Reader).whole -/
def m___sutureref1_Reader__whole (n : Nat) (a0 : ByteArray) (a1 : List T) (a2 : Int) (a3 : Bool) (a4 : Int) : Option (Int × Int × ByteArray × (List T) × (List T) × Int × Bool × Int) :=
bif (!a3) then (
Option.bind (m___sutureref1_Reader__expr n 0 a1 a2 a3 a4) fun r0 =>
some (r0.1, r0.2.1, r0.2.2.1, r0.2.2.2.1, r0.2.2.2.2.1, r0.2.2.2.2.2.1, r0.2.2.2.2.2.2.1, r0.2.2.2.2.2.2.2))
else (
some (0, 0, (⟨#[]⟩ : ByteArray), ([] : List T), a1, a2, a3, a4))
def enc___sutureref1_Reader__whole (r : Int × Int × ByteArray × (List T) × (List T) × Int × Bool × Int) : V := (V.agg [(V.t (T.sc (.int .i64 r.1))), (V.t (T.sc (.int .i64 r.2.1))), (V.t (T.sc (.string r.2.2.1))), (V.t (T.list r.2.2.2.1))])
def encS___sutureref1_Reader__whole (r : Int × Int × ByteArray × (List T) × (List T) × Int × Bool × Int) : Sig := [some [(V.t (T.list r.2.2.2.2.1)), (V.t (T.sc (.int .i64 r.2.2.2.2.2.1))), (V.t (T.sc (.bool r.2.2.2.2.2.2.1))), (V.t (T.sc (.int .i64 r.2.2.2.2.2.2.2)))]]
def ok___sutureref1_Reader__whole (m : ByteArray → List T → Int → Bool → Int → Option (Int × Int × ByteArray × (List T) × (List T) × Int × Bool × Int)) : Prop := ∀ (a0 : ByteArray) (a1 : List T) (a2 : Int) (a3 : Bool) (a4 : Int) (r : Int × Int × ByteArray × (List T) × (List T) × Int × Bool × Int), m a0 a1 a2 a3 a4 = some r → FuncOk Try.prog 60 [(V.ptr 0 0), (V.t (T.sc (.string a0)))] [some [(V.t (T.list a1)), (V.t (T.sc (.int .i64 a2))), (V.t (T.sc (.bool a3))), (V.t (T.sc (.int .i64 a4)))]] (enc___sutureref1_Reader__whole r) (encS___sutureref1_Reader__whole r)
def c___sutureref1_Reader__whole (m : ByteArray → List T → Int → Bool → Int → Option (Int × Int × ByteArray × (List T) × (List T) × Int × Bool × Int)) (vs : List V) (sg : Sig) : Option CallM := bif Nat.beq vs.length 2 && Nat.beq sg.length 1 then Option.bind (V.ptrOf 0 0 (vs.getD 0 .any)) fun u0 => Option.bind (V.strOf (vs.getD 1 .any)) fun u1 => Option.bind (cellsN 4 sg 0) fun g0 => Option.bind (V.lstOf (g0.getD 0 .any)) fun g1 => Option.bind (V.intOf .i64 (g0.getD 1 .any)) fun g2 => Option.bind (V.boolOf (g0.getD 2 .any)) fun g3 => Option.bind (V.intOf .i64 (g0.getD 3 .any)) fun g4 => some { α := Int × Int × ByteArray × (List T) × (List T) × Int × Bool × Int, m := m u1 g1 g2 g3 g4, dflt := (0, 0, default, [], [], 0, false, 0), enc := fun y => ((V.agg [(V.t (T.sc (.int .i64 y.1))), (V.t (T.sc (.int .i64 y.2.1))), (V.t (T.sc (.string y.2.2.1))), (V.t (T.list y.2.2.2.1))]), [some [(V.t (T.list y.2.2.2.2.1)), (V.t (T.sc (.int .i64 y.2.2.2.2.2.1))), (V.t (T.sc (.bool y.2.2.2.2.2.2.1))), (V.t (T.sc (.int .i64 y.2.2.2.2.2.2.2)))]]) } else none
theorem c___sutureref1_Reader__whole_ok (m : ByteArray → List T → Int → Bool → Int → Option (Int × Int × ByteArray × (List T) × (List T) × Int × Bool × Int)) (hm : ok___sutureref1_Reader__whole m) (vs : List V) (sg : Sig) (cm : CallM) (x : cm.α) (h : c___sutureref1_Reader__whole m vs sg = some cm) (hx : cm.m = some x) : FuncOk Try.prog 60 vs sg (cm.enc x).1 (cm.enc x).2 := by
  unfold c___sutureref1_Reader__whole at h
  have h0 := callee_sig h
  clear h
  obtain ⟨hl, hs, h⟩ := h0
  obtain ⟨u0, hu0, h⟩ := Option.bind_eq_some_iff.1 h
  obtain ⟨u1, hu1, h⟩ := Option.bind_eq_some_iff.1 h
  obtain ⟨g0, hg0, h⟩ := Option.bind_eq_some_iff.1 h
  obtain ⟨g1, hg1, h⟩ := Option.bind_eq_some_iff.1 h
  obtain ⟨g2, hg2, h⟩ := Option.bind_eq_some_iff.1 h
  obtain ⟨g3, hg3, h⟩ := Option.bind_eq_some_iff.1 h
  obtain ⟨g4, hg4, h⟩ := Option.bind_eq_some_iff.1 h
  simp only [Option.some.injEq] at h
  subst h
  exact (hm u1 g1 g2 g3 g4 x hx).wk (args_wk hl (.cons (ptrOf_wk hu0) (.cons (strOf_wk hu1) .nil))) (wkSg_of hs (.cons (cellsN_wk hg0 (.cons (lstOf_wk hg1) (.cons (intOf_wk hg2) (.cons (boolOf_wk hg3) (.cons (intOf_wk hg4) .nil))))) .nil))
noncomputable def code___sutureref1_Reader__whole : Code := Try.f60.body.getD .skip
noncomputable def sp___sutureref1_Reader__whole (n : Nat) : Go.Eng.Spec := ⟨fun f vs sg => (match f with
    | 61 => c___sutureref1_Reader__expr (m___sutureref1_Reader__expr n) vs sg
    | _ => none), fun R key E sg K => (match key with
    | _ => none)⟩
theorem sp___sutureref1_Reader__whole_ok (n : Nat) : CallsOk Try.prog (sp___sutureref1_Reader__whole n) := by
  intro f vs sg cm x h hx
  simp only [sp___sutureref1_Reader__whole] at h
  split at h
  · exact c___sutureref1_Reader__expr_ok _ (m___sutureref1_Reader__expr_ok n) vs sg cm x h hx
  · cases h
theorem code___sutureref1_Reader__whole_fn : Try.prog.funcs[60]? = some Try.f60 := Try.func60
theorem code___sutureref1_Reader__whole_body : Try.f60.body = some code___sutureref1_Reader__whole := by kernel_rfl
theorem code___sutureref1_Reader__whole_ok : CodeOk Try.prog code___sutureref1_Reader__whole := (sound 60 _ _ code___sutureref1_Reader__whole_fn code___sutureref1_Reader__whole_body).1
def K___sutureref1_Reader__whole (v : V) (s : Sig) : Option (Int × Int × ByteArray × (List T) × (List T) × Int × Bool × Int) := Option.bind (V.aggN 4 v) fun u0 => Option.bind (V.intOf .i64 (u0.getD 0 .any)) fun u1 => Option.bind (V.intOf .i64 (u0.getD 1 .any)) fun u2 => Option.bind (V.strOf (u0.getD 2 .any)) fun u3 => Option.bind (V.lstOf (u0.getD 3 .any)) fun u4 => Option.bind (cellsN 4 s 0) fun g0 => Option.bind (V.lstOf (g0.getD 0 .any)) fun g1 => Option.bind (V.intOf .i64 (g0.getD 1 .any)) fun g2 => Option.bind (V.boolOf (g0.getD 2 .any)) fun g3 => Option.bind (V.intOf .i64 (g0.getD 3 .any)) fun g4 => some (u1, u2, u3, u4, g1, g2, g3, g4)
theorem K___sutureref1_Reader__whole_wk {v : V} {s : Sig} {r : Int × Int × ByteArray × (List T) × (List T) × Int × Bool × Int} (h : K___sutureref1_Reader__whole v s = some r) : Wk v (enc___sutureref1_Reader__whole r) ∧ WkS 1 s (encS___sutureref1_Reader__whole r) := by
  unfold K___sutureref1_Reader__whole at h
  obtain ⟨u0, hu0, h⟩ := Option.bind_eq_some_iff.1 h
  obtain ⟨u1, hu1, h⟩ := Option.bind_eq_some_iff.1 h
  obtain ⟨u2, hu2, h⟩ := Option.bind_eq_some_iff.1 h
  obtain ⟨u3, hu3, h⟩ := Option.bind_eq_some_iff.1 h
  obtain ⟨u4, hu4, h⟩ := Option.bind_eq_some_iff.1 h
  obtain ⟨g0, hg0, h⟩ := Option.bind_eq_some_iff.1 h
  obtain ⟨g1, hg1, h⟩ := Option.bind_eq_some_iff.1 h
  obtain ⟨g2, hg2, h⟩ := Option.bind_eq_some_iff.1 h
  obtain ⟨g3, hg3, h⟩ := Option.bind_eq_some_iff.1 h
  obtain ⟨g4, hg4, h⟩ := Option.bind_eq_some_iff.1 h
  simp only [Option.some.injEq] at h
  subst h
  exact ⟨(aggN_wk hu0 (.cons (intOf_wk hu1) (.cons (intOf_wk hu2) (.cons (strOf_wk hu3) (.cons (lstOf_wk hu4) .nil))))), (wkR_sig (WkR.cons (cellsN_wk hg0 (.cons (lstOf_wk hg1) (.cons (intOf_wk hg2) (.cons (boolOf_wk hg3) (.cons (intOf_wk hg4) .nil))))).1 (cellsN_wk hg0 (.cons (lstOf_wk hg1) (.cons (intOf_wk hg2) (.cons (boolOf_wk hg3) (.cons (intOf_wk hg4) .nil))))).2 (renL_mem (.cons rfl (.cons rfl (.cons rfl (.cons rfl .nil))))) (WkR.nil _)) rfl)⟩
theorem m___sutureref1_Reader__whole_eq (n : Nat) (a0 : ByteArray) (a1 : List T) (a2 : Int) (a3 : Bool) (a4 : Int) : mF Try.prog (sp___sutureref1_Reader__whole n) 60 [(V.ptr 0 0), (V.t (T.sc (.string a0)))] [some [(V.t (T.list a1)), (V.t (T.sc (.int .i64 a2))), (V.t (T.sc (.bool a3))), (V.t (T.sc (.int .i64 a4)))]] K___sutureref1_Reader__whole = m___sutureref1_Reader__whole n a0 a1 a2 a3 a4 := by kernel_rfl
theorem m___sutureref1_Reader__whole_ok (n : Nat) : ok___sutureref1_Reader__whole (m___sutureref1_Reader__whole n) := fun a0 a1 a2 a3 a4 r h => mF_ok sound (sp___sutureref1_Reader__whole_ok n) code___sutureref1_Reader__whole_fn code___sutureref1_Reader__whole_body (fun a ha => absurd ha (by rw [show loopsOf code___sutureref1_Reader__whole = [] from by kernel_rfl]; simp)) (no_scope (by kernel_rfl)) ((m___sutureref1_Reader__whole_eq n a0 a1 a2 a3 a4).trans h) (fun v s hk => ⟨(K___sutureref1_Reader__whole_wk hk).1, rfl, (K___sutureref1_Reader__whole_wk hk).2⟩)


/-! __sutureref1_Reader__block, __sutureref1_Reader__stmt: a circle -/
structure B___sutureref1_Reader__block where
  __sutureref1_Reader__block : ByteArray → Int → List T → Int → Bool → Int → Option ((List T) × (List T) × Int × Bool × Int)
  __sutureref1_Reader__stmt : ByteArray → Int → List T → Int → Bool → Int → Option (Int × ByteArray × ByteArray × Int × Int × Int × ByteArray × (List T) × (List T) × (List T) × (Nat × Nat) × (List T) × Int × Bool × Int)
def enc___sutureref1_Reader__block (r : (List T) × (List T) × Int × Bool × Int) : V := (V.own 11 r.1)
def encS___sutureref1_Reader__block (r : (List T) × (List T) × Int × Bool × Int) : Sig := [some [(V.t (T.list r.2.1)), (V.t (T.sc (.int .i64 r.2.2.1))), (V.t (T.sc (.bool r.2.2.2.1))), (V.t (T.sc (.int .i64 r.2.2.2.2)))]]
def ok___sutureref1_Reader__block (m : ByteArray → Int → List T → Int → Bool → Int → Option ((List T) × (List T) × Int × Bool × Int)) : Prop := ∀ (a0 : ByteArray) (a1 : Int) (a2 : List T) (a3 : Int) (a4 : Bool) (a5 : Int) (r : (List T) × (List T) × Int × Bool × Int), m a0 a1 a2 a3 a4 a5 = some r → FuncOk Try.prog 41 [(V.ptr 0 0), (V.t (T.sc (.string a0))), (V.t (T.sc (.int .i64 a1)))] [some [(V.t (T.list a2)), (V.t (T.sc (.int .i64 a3))), (V.t (T.sc (.bool a4))), (V.t (T.sc (.int .i64 a5)))]] (enc___sutureref1_Reader__block r) (encS___sutureref1_Reader__block r)
def c___sutureref1_Reader__block (m : ByteArray → Int → List T → Int → Bool → Int → Option ((List T) × (List T) × Int × Bool × Int)) (vs : List V) (sg : Sig) : Option CallM := bif Nat.beq vs.length 3 && Nat.beq sg.length 1 then Option.bind (V.ptrOf 0 0 (vs.getD 0 .any)) fun u0 => Option.bind (V.strOf (vs.getD 1 .any)) fun u1 => Option.bind (V.intOf .i64 (vs.getD 2 .any)) fun u2 => Option.bind (cellsN 4 sg 0) fun g0 => Option.bind (V.lstOf (g0.getD 0 .any)) fun g1 => Option.bind (V.intOf .i64 (g0.getD 1 .any)) fun g2 => Option.bind (V.boolOf (g0.getD 2 .any)) fun g3 => Option.bind (V.intOf .i64 (g0.getD 3 .any)) fun g4 => some { α := (List T) × (List T) × Int × Bool × Int, m := m u1 u2 g1 g2 g3 g4, dflt := ([], [], 0, false, 0), enc := fun y => ((V.own 11 y.1), [some [(V.t (T.list y.2.1)), (V.t (T.sc (.int .i64 y.2.2.1))), (V.t (T.sc (.bool y.2.2.2.1))), (V.t (T.sc (.int .i64 y.2.2.2.2)))]]) } else none
theorem c___sutureref1_Reader__block_ok (m : ByteArray → Int → List T → Int → Bool → Int → Option ((List T) × (List T) × Int × Bool × Int)) (hm : ok___sutureref1_Reader__block m) (vs : List V) (sg : Sig) (cm : CallM) (x : cm.α) (h : c___sutureref1_Reader__block m vs sg = some cm) (hx : cm.m = some x) : FuncOk Try.prog 41 vs sg (cm.enc x).1 (cm.enc x).2 := by
  unfold c___sutureref1_Reader__block at h
  have h0 := callee_sig h
  clear h
  obtain ⟨hl, hs, h⟩ := h0
  obtain ⟨u0, hu0, h⟩ := Option.bind_eq_some_iff.1 h
  obtain ⟨u1, hu1, h⟩ := Option.bind_eq_some_iff.1 h
  obtain ⟨u2, hu2, h⟩ := Option.bind_eq_some_iff.1 h
  obtain ⟨g0, hg0, h⟩ := Option.bind_eq_some_iff.1 h
  obtain ⟨g1, hg1, h⟩ := Option.bind_eq_some_iff.1 h
  obtain ⟨g2, hg2, h⟩ := Option.bind_eq_some_iff.1 h
  obtain ⟨g3, hg3, h⟩ := Option.bind_eq_some_iff.1 h
  obtain ⟨g4, hg4, h⟩ := Option.bind_eq_some_iff.1 h
  simp only [Option.some.injEq] at h
  subst h
  exact (hm u1 u2 g1 g2 g3 g4 x hx).wk (args_wk hl (.cons (ptrOf_wk hu0) (.cons (strOf_wk hu1) (.cons (intOf_wk hu2) .nil)))) (wkSg_of hs (.cons (cellsN_wk hg0 (.cons (lstOf_wk hg1) (.cons (intOf_wk hg2) (.cons (boolOf_wk hg3) (.cons (intOf_wk hg4) .nil))))) .nil))
def enc___sutureref1_Reader__stmt (r : Int × ByteArray × ByteArray × Int × Int × Int × ByteArray × (List T) × (List T) × (List T) × (Nat × Nat) × (List T) × Int × Bool × Int) : V := (V.agg [(V.t (T.sc (.int .i64 r.1))), (V.t (T.sc (.string r.2.1))), (V.t (T.sc (.string r.2.2.1))), (V.t (T.sc (.int .i64 r.2.2.2.1))), (V.t (T.sc (.int .i64 r.2.2.2.2.1))), (V.t (T.sc (.int .i64 r.2.2.2.2.2.1))), (V.t (T.sc (.string r.2.2.2.2.2.2.1))), (V.t (T.list r.2.2.2.2.2.2.2.1)), (V.t (T.list r.2.2.2.2.2.2.2.2.1)), (V.t (T.list r.2.2.2.2.2.2.2.2.2.1)), (V.t (T.sc (.complex .f64 r.2.2.2.2.2.2.2.2.2.2.1.1 r.2.2.2.2.2.2.2.2.2.2.1.2)))])
def encS___sutureref1_Reader__stmt (r : Int × ByteArray × ByteArray × Int × Int × Int × ByteArray × (List T) × (List T) × (List T) × (Nat × Nat) × (List T) × Int × Bool × Int) : Sig := [some [(V.t (T.list r.2.2.2.2.2.2.2.2.2.2.2.1)), (V.t (T.sc (.int .i64 r.2.2.2.2.2.2.2.2.2.2.2.2.1))), (V.t (T.sc (.bool r.2.2.2.2.2.2.2.2.2.2.2.2.2.1))), (V.t (T.sc (.int .i64 r.2.2.2.2.2.2.2.2.2.2.2.2.2.2)))]]
def ok___sutureref1_Reader__stmt (m : ByteArray → Int → List T → Int → Bool → Int → Option (Int × ByteArray × ByteArray × Int × Int × Int × ByteArray × (List T) × (List T) × (List T) × (Nat × Nat) × (List T) × Int × Bool × Int)) : Prop := ∀ (a0 : ByteArray) (a1 : Int) (a2 : List T) (a3 : Int) (a4 : Bool) (a5 : Int) (r : Int × ByteArray × ByteArray × Int × Int × Int × ByteArray × (List T) × (List T) × (List T) × (Nat × Nat) × (List T) × Int × Bool × Int), m a0 a1 a2 a3 a4 a5 = some r → FuncOk Try.prog 55 [(V.ptr 0 0), (V.t (T.sc (.string a0))), (V.t (T.sc (.int .i64 a1)))] [some [(V.t (T.list a2)), (V.t (T.sc (.int .i64 a3))), (V.t (T.sc (.bool a4))), (V.t (T.sc (.int .i64 a5)))]] (enc___sutureref1_Reader__stmt r) (encS___sutureref1_Reader__stmt r)
def c___sutureref1_Reader__stmt (m : ByteArray → Int → List T → Int → Bool → Int → Option (Int × ByteArray × ByteArray × Int × Int × Int × ByteArray × (List T) × (List T) × (List T) × (Nat × Nat) × (List T) × Int × Bool × Int)) (vs : List V) (sg : Sig) : Option CallM := bif Nat.beq vs.length 3 && Nat.beq sg.length 1 then Option.bind (V.ptrOf 0 0 (vs.getD 0 .any)) fun u0 => Option.bind (V.strOf (vs.getD 1 .any)) fun u1 => Option.bind (V.intOf .i64 (vs.getD 2 .any)) fun u2 => Option.bind (cellsN 4 sg 0) fun g0 => Option.bind (V.lstOf (g0.getD 0 .any)) fun g1 => Option.bind (V.intOf .i64 (g0.getD 1 .any)) fun g2 => Option.bind (V.boolOf (g0.getD 2 .any)) fun g3 => Option.bind (V.intOf .i64 (g0.getD 3 .any)) fun g4 => some { α := Int × ByteArray × ByteArray × Int × Int × Int × ByteArray × (List T) × (List T) × (List T) × (Nat × Nat) × (List T) × Int × Bool × Int, m := m u1 u2 g1 g2 g3 g4, dflt := (0, default, default, 0, 0, 0, default, [], [], [], (0, 0), [], 0, false, 0), enc := fun y => ((V.agg [(V.t (T.sc (.int .i64 y.1))), (V.t (T.sc (.string y.2.1))), (V.t (T.sc (.string y.2.2.1))), (V.t (T.sc (.int .i64 y.2.2.2.1))), (V.t (T.sc (.int .i64 y.2.2.2.2.1))), (V.t (T.sc (.int .i64 y.2.2.2.2.2.1))), (V.t (T.sc (.string y.2.2.2.2.2.2.1))), (V.t (T.list y.2.2.2.2.2.2.2.1)), (V.t (T.list y.2.2.2.2.2.2.2.2.1)), (V.t (T.list y.2.2.2.2.2.2.2.2.2.1)), (V.t (T.sc (.complex .f64 y.2.2.2.2.2.2.2.2.2.2.1.1 y.2.2.2.2.2.2.2.2.2.2.1.2)))]), [some [(V.t (T.list y.2.2.2.2.2.2.2.2.2.2.2.1)), (V.t (T.sc (.int .i64 y.2.2.2.2.2.2.2.2.2.2.2.2.1))), (V.t (T.sc (.bool y.2.2.2.2.2.2.2.2.2.2.2.2.2.1))), (V.t (T.sc (.int .i64 y.2.2.2.2.2.2.2.2.2.2.2.2.2.2)))]]) } else none
theorem c___sutureref1_Reader__stmt_ok (m : ByteArray → Int → List T → Int → Bool → Int → Option (Int × ByteArray × ByteArray × Int × Int × Int × ByteArray × (List T) × (List T) × (List T) × (Nat × Nat) × (List T) × Int × Bool × Int)) (hm : ok___sutureref1_Reader__stmt m) (vs : List V) (sg : Sig) (cm : CallM) (x : cm.α) (h : c___sutureref1_Reader__stmt m vs sg = some cm) (hx : cm.m = some x) : FuncOk Try.prog 55 vs sg (cm.enc x).1 (cm.enc x).2 := by
  unfold c___sutureref1_Reader__stmt at h
  have h0 := callee_sig h
  clear h
  obtain ⟨hl, hs, h⟩ := h0
  obtain ⟨u0, hu0, h⟩ := Option.bind_eq_some_iff.1 h
  obtain ⟨u1, hu1, h⟩ := Option.bind_eq_some_iff.1 h
  obtain ⟨u2, hu2, h⟩ := Option.bind_eq_some_iff.1 h
  obtain ⟨g0, hg0, h⟩ := Option.bind_eq_some_iff.1 h
  obtain ⟨g1, hg1, h⟩ := Option.bind_eq_some_iff.1 h
  obtain ⟨g2, hg2, h⟩ := Option.bind_eq_some_iff.1 h
  obtain ⟨g3, hg3, h⟩ := Option.bind_eq_some_iff.1 h
  obtain ⟨g4, hg4, h⟩ := Option.bind_eq_some_iff.1 h
  simp only [Option.some.injEq] at h
  subst h
  exact (hm u1 u2 g1 g2 g3 g4 x hx).wk (args_wk hl (.cons (ptrOf_wk hu0) (.cons (strOf_wk hu1) (.cons (intOf_wk hu2) .nil)))) (wkSg_of hs (.cons (cellsN_wk hg0 (.cons (lstOf_wk hg1) (.cons (intOf_wk hg2) (.cons (boolOf_wk hg3) (.cons (intOf_wk hg4) .nil))))) .nil))
structure B___sutureref1_Reader__block_ok (b : B___sutureref1_Reader__block) : Prop where
  __sutureref1_Reader__block : ok___sutureref1_Reader__block b.__sutureref1_Reader__block
  __sutureref1_Reader__stmt : ok___sutureref1_Reader__stmt b.__sutureref1_Reader__stmt

/-! (*suture/sutureref1.Reader).block -/
def l___sutureref1_Reader__block_5_B (b : B___sutureref1_Reader__block) (n : Nat) (k : ByteArray × Int × (List T) × (List T) × Int × Bool × Int → Option ((List T) × (List T) × Int × Bool × Int)) : ByteArray × Int × (List T) × (List T) × Int × Bool × Int → Option ((List T) × (List T) × Int × Bool × Int) := fun (s0, s1, s2, s3, s4, s5, s6) =>
Option.bind (bif (!s5) then m___sutureref1_Reader__sign n (⟨#[125]⟩ : ByteArray) s3 s4 s5 s6 else some (false, [], 0, false, 0)) fun r2 =>
bif (bif (!s5) then (!r2.1) else false) then (
Option.bind (b.__sutureref1_Reader__stmt s0 s1 (bif (!s5) then r2.2.1 else s3) (bif (!s5) then r2.2.2.1 else s4) (bif (!s5) then r2.2.2.2.1 else s5) (bif (!s5) then r2.2.2.2.2 else s6)) fun r3 =>
bif (!r3.2.2.2.2.2.2.2.2.2.2.2.2.2.1) then (
must true ((Nat.beq 11 11 || Nat.beq 11 0) && (decide (List.length s2 + List.length [(T.agg [(T.sc (.int .i64 r3.1)), (T.sc (.string r3.2.1)), (T.sc (.string r3.2.2.1)), (T.sc (.int .i64 r3.2.2.2.1)), (T.sc (.int .i64 r3.2.2.2.2.1)), (T.sc (.int .i64 r3.2.2.2.2.2.1)), (T.sc (.string r3.2.2.2.2.2.2.1)), (T.list r3.2.2.2.2.2.2.2.1), (T.list r3.2.2.2.2.2.2.2.2.1), (T.list r3.2.2.2.2.2.2.2.2.2.1), (T.sc (.complex .f64 r3.2.2.2.2.2.2.2.2.2.2.1.1 r3.2.2.2.2.2.2.2.2.2.2.1.2))])] ≤ 1073741824) && sized 11 [(T.agg [(T.sc (.int .i64 r3.1)), (T.sc (.string r3.2.1)), (T.sc (.string r3.2.2.1)), (T.sc (.int .i64 r3.2.2.2.1)), (T.sc (.int .i64 r3.2.2.2.2.1)), (T.sc (.int .i64 r3.2.2.2.2.2.1)), (T.sc (.string r3.2.2.2.2.2.2.1)), (T.list r3.2.2.2.2.2.2.2.1), (T.list r3.2.2.2.2.2.2.2.2.1), (T.list r3.2.2.2.2.2.2.2.2.2.1), (T.sc (.complex .f64 r3.2.2.2.2.2.2.2.2.2.2.1.1 r3.2.2.2.2.2.2.2.2.2.2.1.2))])])) (k (s0, s1, (s2 ++ [(T.agg [(T.sc (.int .i64 r3.1)), (T.sc (.string r3.2.1)), (T.sc (.string r3.2.2.1)), (T.sc (.int .i64 r3.2.2.2.1)), (T.sc (.int .i64 r3.2.2.2.2.1)), (T.sc (.int .i64 r3.2.2.2.2.2.1)), (T.sc (.string r3.2.2.2.2.2.2.1)), (T.list r3.2.2.2.2.2.2.2.1), (T.list r3.2.2.2.2.2.2.2.2.1), (T.list r3.2.2.2.2.2.2.2.2.2.1), (T.sc (.complex .f64 r3.2.2.2.2.2.2.2.2.2.2.1.1 r3.2.2.2.2.2.2.2.2.2.2.1.2))])]), r3.2.2.2.2.2.2.2.2.2.2.2.1, r3.2.2.2.2.2.2.2.2.2.2.2.2.1, r3.2.2.2.2.2.2.2.2.2.2.2.2.2.1, r3.2.2.2.2.2.2.2.2.2.2.2.2.2.2)))
else (
k (s0, s1, s2, r3.2.2.2.2.2.2.2.2.2.2.2.1, r3.2.2.2.2.2.2.2.2.2.2.2.2.1, r3.2.2.2.2.2.2.2.2.2.2.2.2.2.1, r3.2.2.2.2.2.2.2.2.2.2.2.2.2.2)))
else (
some (s2, (bif (!s5) then r2.2.1 else s3), (bif (!s5) then r2.2.2.1 else s4), (bif (!s5) then r2.2.2.2.1 else s5), (bif (!s5) then r2.2.2.2.2 else s6)))
def l___sutureref1_Reader__block_5 (b : B___sutureref1_Reader__block) (n : Nat) : Nat → ByteArray × Int × (List T) × (List T) × Int × Bool × Int → Option ((List T) × (List T) × Int × Bool × Int)
  | 0, _ => none
  | m + 1, s => l___sutureref1_Reader__block_5_B b n (l___sutureref1_Reader__block_5 b n m) s
def f___sutureref1_Reader__block (b : B___sutureref1_Reader__block) (n : Nat) (a0 : ByteArray) (a1 : Int) (a2 : List T) (a3 : Int) (a4 : Bool) (a5 : Int) : Option ((List T) × (List T) × Int × Bool × Int) :=
bif (decide ((a1 : Int) > 8)) then (
Option.bind (m___sutureref1_Reader__fail n a2 a3 a4 a5) fun r0 =>
Option.bind (m___sutureref1_Reader__must n (⟨#[123]⟩ : ByteArray) r0.1 r0.2.1 r0.2.2.1 r0.2.2.2) fun r1 =>
Option.bind (l___sutureref1_Reader__block_5 b n n (a0, a1, ([] : List T), r1.1, r1.2.1, r1.2.2.1, r1.2.2.2)) fun p5 =>
Option.bind (m___sutureref1_Reader__must n (⟨#[125]⟩ : ByteArray) p5.2.1 p5.2.2.1 p5.2.2.2.1 p5.2.2.2.2) fun r6 =>
some (p5.1, r6.1, r6.2.1, r6.2.2.1, r6.2.2.2))
else (
Option.bind (m___sutureref1_Reader__must n (⟨#[123]⟩ : ByteArray) a2 a3 a4 a5) fun r7 =>
Option.bind (l___sutureref1_Reader__block_5 b n n (a0, a1, ([] : List T), r7.1, r7.2.1, r7.2.2.1, r7.2.2.2)) fun p9 =>
Option.bind (m___sutureref1_Reader__must n (⟨#[125]⟩ : ByteArray) p9.2.1 p9.2.2.1 p9.2.2.2.1 p9.2.2.2.2) fun r10 =>
some (p9.1, r10.1, r10.2.1, r10.2.2.1, r10.2.2.2))
noncomputable def code___sutureref1_Reader__block : Code := Try.f41.body.getD .skip
def l___sutureref1_Reader__block_5_S (b : B___sutureref1_Reader__block) (n : Nat) (R : Type) (E : SEnv) (sg : Sig) (K : Ex → SEnv → Sig → Option R) : Option R := Option.bind (V.ptrOf 0 0 (SEnv.at E 0)) fun u0 => Option.bind (V.strOf (SEnv.at E 1)) fun u1 => Option.bind (V.intOf .i64 (SEnv.at E 2)) fun u2 => Option.bind (V.ownOf 11 (SEnv.at E 7)) fun u3 => Option.bind (cellsN 4 sg 0) fun u4 => Option.bind (V.lstOf (u4.getD 0 .any)) fun u5 => Option.bind (V.intOf .i64 (u4.getD 1 .any)) fun u6 => Option.bind (V.boolOf (u4.getD 2 .any)) fun u7 => Option.bind (V.intOf .i64 (u4.getD 3 .any)) fun u8 => Option.bind (l___sutureref1_Reader__block_5 b n n (u1, u2, u3, u5, u6, u7, u8)) fun p0 => K (.exit 0) [(0, (V.ptr 0 0)), (7, (V.own 11 p0.1))] [some [(V.t (T.list p0.2.1)), (V.t (T.sc (.int .i64 p0.2.2.1))), (V.t (T.sc (.bool p0.2.2.2.1))), (V.t (T.sc (.int .i64 p0.2.2.2.2)))]]
noncomputable def sp___sutureref1_Reader__block (b : B___sutureref1_Reader__block) (n : Nat) : Go.Eng.Spec := ⟨fun f vs sg => (match f with
    | 37 => c___sutureref1_Reader__fail (m___sutureref1_Reader__fail n) vs sg
    | 53 => c___sutureref1_Reader__must (m___sutureref1_Reader__must n) vs sg
    | 54 => c___sutureref1_Reader__sign (m___sutureref1_Reader__sign n) vs sg
    | 55 => c___sutureref1_Reader__stmt b.__sutureref1_Reader__stmt vs sg
    | _ => none), fun R key E sg K => (match key with
    | 5 => l___sutureref1_Reader__block_5_S b n R E sg K
    | _ => none)⟩
theorem sp___sutureref1_Reader__block_ok (b : B___sutureref1_Reader__block) (hb : B___sutureref1_Reader__block_ok b) (n : Nat) : CallsOk Try.prog (sp___sutureref1_Reader__block b n) := by
  intro f vs sg cm x h hx
  simp only [sp___sutureref1_Reader__block] at h
  split at h
  · exact c___sutureref1_Reader__fail_ok _ (m___sutureref1_Reader__fail_ok n) vs sg cm x h hx
  · exact c___sutureref1_Reader__must_ok _ (m___sutureref1_Reader__must_ok n) vs sg cm x h hx
  · exact c___sutureref1_Reader__sign_ok _ (m___sutureref1_Reader__sign_ok n) vs sg cm x h hx
  · exact c___sutureref1_Reader__stmt_ok _ hb.__sutureref1_Reader__stmt vs sg cm x h hx
  · cases h
theorem code___sutureref1_Reader__block_fn : Try.prog.funcs[41]? = some Try.f41 := Try.func41
theorem code___sutureref1_Reader__block_body : Try.f41.body = some code___sutureref1_Reader__block := by kernel_rfl
theorem code___sutureref1_Reader__block_ok : CodeOk Try.prog code___sutureref1_Reader__block := (sound 41 _ _ code___sutureref1_Reader__block_fn code___sutureref1_Reader__block_body).1
noncomputable def code_l___sutureref1_Reader__block_5 : Code := (loopsOf code___sutureref1_Reader__block).getD 0 .skip
theorem code_l___sutureref1_Reader__block_5_ok : CodeOk Try.prog code_l___sutureref1_Reader__block_5 := codeOk_loops code___sutureref1_Reader__block_ok _ (getD_mem (by kernel_rfl))
def l___sutureref1_Reader__block_5_K (k : ByteArray × Int × (List T) × (List T) × Int × Bool × Int → Option ((List T) × (List T) × Int × Bool × Int)) : Ex → SEnv → Sig → Option ((List T) × (List T) × Int × Bool × Int) := fun x E sg => match x with
  | .normal => Option.bind (V.ptrOf 0 0 (SEnv.at E 0)) fun u0 => Option.bind (V.strOf (SEnv.at E 1)) fun u1 => Option.bind (V.intOf .i64 (SEnv.at E 2)) fun u2 => Option.bind (V.ownOf 11 (SEnv.at E 7)) fun u3 => Option.bind (cellsN 4 sg 0) fun u4 => Option.bind (V.lstOf (u4.getD 0 .any)) fun u5 => Option.bind (V.intOf .i64 (u4.getD 1 .any)) fun u6 => Option.bind (V.boolOf (u4.getD 2 .any)) fun u7 => Option.bind (V.intOf .i64 (u4.getD 3 .any)) fun u8 => k (u1, u2, u3, u5, u6, u7, u8)
  | (.exit 0) => Option.bind (V.ptrOf 0 0 (SEnv.at E 0)) fun u0 => Option.bind (V.ownOf 11 (SEnv.at E 7)) fun u1 => Option.bind (cellsN 4 sg 0) fun u2 => Option.bind (V.lstOf (u2.getD 0 .any)) fun u3 => Option.bind (V.intOf .i64 (u2.getD 1 .any)) fun u4 => Option.bind (V.boolOf (u2.getD 2 .any)) fun u5 => Option.bind (V.intOf .i64 (u2.getD 3 .any)) fun u6 => some (u1, u3, u4, u5, u6)
  | _ => none
theorem l___sutureref1_Reader__block_5_eq (b : B___sutureref1_Reader__block) (n : Nat) (k : ByteArray × Int × (List T) × (List T) × Int × Bool × Int → Option ((List T) × (List T) × Int × Bool × Int)) (s0 : ByteArray) (s1 : Int) (s2 : List T) (s3 : List T) (s4 : Int) (s5 : Bool) (s6 : Int) : mX Try.prog (sp___sutureref1_Reader__block b n) 41 code_l___sutureref1_Reader__block_5 [(0, (V.ptr 0 0)), (1, (V.t (T.sc (.string s0)))), (2, (V.t (T.sc (.int .i64 s1)))), (7, (V.own 11 s2))] [some [(V.t (T.list s3)), (V.t (T.sc (.int .i64 s4))), (V.t (T.sc (.bool s5))), (V.t (T.sc (.int .i64 s6)))]] (l___sutureref1_Reader__block_5_K k) = l___sutureref1_Reader__block_5_B b n k (s0, s1, s2, s3, s4, s5, s6) := by kernel_rfl
def l___sutureref1_Reader__block_5_Q (x : (List T) × (List T) × Int × Bool × Int) (ex : Ex) (e : Env) (s : Sig) : Prop := (fun p0 => (ex = (.exit 0) ∧ e = SEnv.env 41 [(0, (V.ptr 0 0)), (7, (V.own 11 p0.1))] ∧ s = [some [(V.t (T.list p0.2.1)), (V.t (T.sc (.int .i64 p0.2.2.1))), (V.t (T.sc (.bool p0.2.2.2.1))), (V.t (T.sc (.int .i64 p0.2.2.2.2)))]])) x
theorem l___sutureref1_Reader__block_5_run (b : B___sutureref1_Reader__block) (hb : B___sutureref1_Reader__block_ok b) (n : Nat) : ∀ (m : Nat) (s0 : ByteArray) (s1 : Int) (s2 : List T) (s3 : List T) (s4 : Int) (s5 : Bool) (s6 : Int) (x : (List T) × (List T) × Int × Bool × Int), l___sutureref1_Reader__block_5 b n m (s0, s1, s2, s3, s4, s5, s6) = some x → SemL Try.prog 1 code_l___sutureref1_Reader__block_5 (SEnv.env 41 [(0, (V.ptr 0 0)), (1, (V.t (T.sc (.string s0)))), (2, (V.t (T.sc (.int .i64 s1)))), (7, (V.own 11 s2))]) [some [(V.t (T.list s3)), (V.t (T.sc (.int .i64 s4))), (V.t (T.sc (.bool s5))), (V.t (T.sc (.int .i64 s6)))]] (l___sutureref1_Reader__block_5_Q x)
  | 0, s0, s1, s2, s3, s4, s5, s6, x, h => by cases h
  | m + 1, s0, s1, s2, s3, s4, s5, s6, x, h => by
    refine loop_step (sp___sutureref1_Reader__block_ok b hb n) code_l___sutureref1_Reader__block_5_ok (fun a ha => absurd ha (by rw [show loopsOf code_l___sutureref1_Reader__block_5 = [] from by kernel_rfl]; simp)) (no_scope (by kernel_rfl)) ((l___sutureref1_Reader__block_5_eq b n _ s0 s1 s2 s3 s4 s5 s6).trans h) (fun E sg h => ?_) (fun ex E sg hne h => ?_)
    · simp only [l___sutureref1_Reader__block_5_K] at h
      obtain ⟨u0, hu0, h⟩ := Option.bind_eq_some_iff.1 h
      obtain ⟨u1, hu1, h⟩ := Option.bind_eq_some_iff.1 h
      obtain ⟨u2, hu2, h⟩ := Option.bind_eq_some_iff.1 h
      obtain ⟨u3, hu3, h⟩ := Option.bind_eq_some_iff.1 h
      obtain ⟨u4, hu4, h⟩ := Option.bind_eq_some_iff.1 h
      obtain ⟨u5, hu5, h⟩ := Option.bind_eq_some_iff.1 h
      obtain ⟨u6, hu6, h⟩ := Option.bind_eq_some_iff.1 h
      obtain ⟨u7, hu7, h⟩ := Option.bind_eq_some_iff.1 h
      obtain ⟨u8, hu8, h⟩ := Option.bind_eq_some_iff.1 h
      exact SemL.pre (k := 1) (by decide) (WkA.env (WkA.cons (ptrOf_wk hu0) rfl (WkA.cons (strOf_wk hu1) rfl (WkA.cons (intOf_wk hu2) rfl (WkA.cons (ownOf_wk hu3) rfl WkA.nil)))) 41) (wkR_sig (WkR.cons (cellsN_wk hu4 (.cons (lstOf_wk hu5) (.cons (intOf_wk hu6) (.cons (boolOf_wk hu7) (.cons (intOf_wk hu8) .nil))))).1 (cellsN_wk hu4 (.cons (lstOf_wk hu5) (.cons (intOf_wk hu6) (.cons (boolOf_wk hu7) (.cons (intOf_wk hu8) .nil))))).2 (renL_mem (.cons rfl (.cons rfl (.cons rfl (.cons rfl .nil))))) (WkR.nil _)) rfl) (l___sutureref1_Reader__block_5_run b hb n m _ _ _ _ _ _ _ x h)
    · unfold l___sutureref1_Reader__block_5_K at h
      split at h
      · exact absurd rfl hne
      · obtain ⟨u0, hu0, h⟩ := Option.bind_eq_some_iff.1 h
        obtain ⟨u1, hu1, h⟩ := Option.bind_eq_some_iff.1 h
        obtain ⟨u2, hu2, h⟩ := Option.bind_eq_some_iff.1 h
        obtain ⟨u3, hu3, h⟩ := Option.bind_eq_some_iff.1 h
        obtain ⟨u4, hu4, h⟩ := Option.bind_eq_some_iff.1 h
        obtain ⟨u5, hu5, h⟩ := Option.bind_eq_some_iff.1 h
        obtain ⟨u6, hu6, h⟩ := Option.bind_eq_some_iff.1 h
        simp only [Option.some.injEq] at h
        subst h
        exact ⟨1, _, _, by decide, WkA.env (WkA.cons (ptrOf_wk hu0) rfl (WkA.cons (ownOf_wk hu1) rfl WkA.nil)) 41, (wkR_sig (WkR.cons (cellsN_wk hu2 (.cons (lstOf_wk hu3) (.cons (intOf_wk hu4) (.cons (boolOf_wk hu5) (.cons (intOf_wk hu6) .nil))))).1 (cellsN_wk hu2 (.cons (lstOf_wk hu3) (.cons (intOf_wk hu4) (.cons (boolOf_wk hu5) (.cons (intOf_wk hu6) .nil))))).2 (renL_mem (.cons rfl (.cons rfl (.cons rfl (.cons rfl .nil))))) (WkR.nil _)) rfl), rfl, rfl, rfl⟩
      · cases h
theorem l___sutureref1_Reader__block_5_ok (b : B___sutureref1_Reader__block) (hb : B___sutureref1_Reader__block_ok b) (n : Nat) : LoopOk Try.prog (sp___sutureref1_Reader__block b n) 1 41 code_l___sutureref1_Reader__block_5 := by
    intro R key E sg K r hk h
    rw [show Go.Eng.keyOf code_l___sutureref1_Reader__block_5 = some 5 from by kernel_rfl] at hk
    cases hk
    have h : l___sutureref1_Reader__block_5_S b n R E sg K = some r := h
    unfold l___sutureref1_Reader__block_5_S at h
    obtain ⟨u0, hu0, h⟩ := Option.bind_eq_some_iff.1 h
    obtain ⟨u1, hu1, h⟩ := Option.bind_eq_some_iff.1 h
    obtain ⟨u2, hu2, h⟩ := Option.bind_eq_some_iff.1 h
    obtain ⟨u3, hu3, h⟩ := Option.bind_eq_some_iff.1 h
    obtain ⟨u4, hu4, h⟩ := Option.bind_eq_some_iff.1 h
    obtain ⟨u5, hu5, h⟩ := Option.bind_eq_some_iff.1 h
    obtain ⟨u6, hu6, h⟩ := Option.bind_eq_some_iff.1 h
    obtain ⟨u7, hu7, h⟩ := Option.bind_eq_some_iff.1 h
    obtain ⟨u8, hu8, h⟩ := Option.bind_eq_some_iff.1 h
    obtain ⟨x, hx, h⟩ := Option.bind_eq_some_iff.1 h
    refine (SemL.pre (k := 1) (by decide) (WkA.env (WkA.cons (ptrOf_wk hu0) rfl (WkA.cons (strOf_wk hu1) rfl (WkA.cons (intOf_wk hu2) rfl (WkA.cons (ownOf_wk hu3) rfl WkA.nil)))) 41) (wkR_sig (WkR.cons (cellsN_wk hu4 (.cons (lstOf_wk hu5) (.cons (intOf_wk hu6) (.cons (boolOf_wk hu7) (.cons (intOf_wk hu8) .nil))))).1 (cellsN_wk hu4 (.cons (lstOf_wk hu5) (.cons (intOf_wk hu6) (.cons (boolOf_wk hu7) (.cons (intOf_wk hu8) .nil))))).2 (renL_mem (.cons rfl (.cons rfl (.cons rfl (.cons rfl .nil))))) (WkR.nil _)) rfl) (l___sutureref1_Reader__block_5_run b hb n n _ _ _ _ _ _ _ x hx)).mono ?_
    intro ex e s hq
    obtain ⟨rfl, rfl, rfl⟩ := hq
    exact ⟨_, rfl, h⟩
def K___sutureref1_Reader__block (v : V) (s : Sig) : Option ((List T) × (List T) × Int × Bool × Int) := Option.bind (V.ownOf 11 v) fun u0 => Option.bind (cellsN 4 s 0) fun g0 => Option.bind (V.lstOf (g0.getD 0 .any)) fun g1 => Option.bind (V.intOf .i64 (g0.getD 1 .any)) fun g2 => Option.bind (V.boolOf (g0.getD 2 .any)) fun g3 => Option.bind (V.intOf .i64 (g0.getD 3 .any)) fun g4 => some (u0, g1, g2, g3, g4)
theorem K___sutureref1_Reader__block_wk {v : V} {s : Sig} {r : (List T) × (List T) × Int × Bool × Int} (h : K___sutureref1_Reader__block v s = some r) : Wk v (enc___sutureref1_Reader__block r) ∧ WkS 1 s (encS___sutureref1_Reader__block r) := by
  unfold K___sutureref1_Reader__block at h
  obtain ⟨u0, hu0, h⟩ := Option.bind_eq_some_iff.1 h
  obtain ⟨g0, hg0, h⟩ := Option.bind_eq_some_iff.1 h
  obtain ⟨g1, hg1, h⟩ := Option.bind_eq_some_iff.1 h
  obtain ⟨g2, hg2, h⟩ := Option.bind_eq_some_iff.1 h
  obtain ⟨g3, hg3, h⟩ := Option.bind_eq_some_iff.1 h
  obtain ⟨g4, hg4, h⟩ := Option.bind_eq_some_iff.1 h
  simp only [Option.some.injEq] at h
  subst h
  exact ⟨(ownOf_wk hu0), (wkR_sig (WkR.cons (cellsN_wk hg0 (.cons (lstOf_wk hg1) (.cons (intOf_wk hg2) (.cons (boolOf_wk hg3) (.cons (intOf_wk hg4) .nil))))).1 (cellsN_wk hg0 (.cons (lstOf_wk hg1) (.cons (intOf_wk hg2) (.cons (boolOf_wk hg3) (.cons (intOf_wk hg4) .nil))))).2 (renL_mem (.cons rfl (.cons rfl (.cons rfl (.cons rfl .nil))))) (WkR.nil _)) rfl)⟩
theorem f___sutureref1_Reader__block_eq (b : B___sutureref1_Reader__block) (n : Nat) (a0 : ByteArray) (a1 : Int) (a2 : List T) (a3 : Int) (a4 : Bool) (a5 : Int) : mF Try.prog (sp___sutureref1_Reader__block b n) 41 [(V.ptr 0 0), (V.t (T.sc (.string a0))), (V.t (T.sc (.int .i64 a1)))] [some [(V.t (T.list a2)), (V.t (T.sc (.int .i64 a3))), (V.t (T.sc (.bool a4))), (V.t (T.sc (.int .i64 a5)))]] K___sutureref1_Reader__block = f___sutureref1_Reader__block b n a0 a1 a2 a3 a4 a5 := by kernel_rfl
theorem f___sutureref1_Reader__block_ok (b : B___sutureref1_Reader__block) (hb : B___sutureref1_Reader__block_ok b) (n : Nat) : ok___sutureref1_Reader__block (f___sutureref1_Reader__block b n) := fun a0 a1 a2 a3 a4 a5 r h => mF_ok sound (sp___sutureref1_Reader__block_ok b hb n) code___sutureref1_Reader__block_fn code___sutureref1_Reader__block_body (forall_getD (d := .skip) 1 (by kernel_rfl) (fun i hi => match i, hi with | 0, _ => l___sutureref1_Reader__block_5_ok b hb n | i + 1, hi => absurd hi (by omega))) (no_scope (by kernel_rfl)) ((f___sutureref1_Reader__block_eq b n a0 a1 a2 a3 a4 a5).trans h) (fun v s hk => ⟨(K___sutureref1_Reader__block_wk hk).1, rfl, (K___sutureref1_Reader__block_wk hk).2⟩)

end Go.Proofs.Ytgpokdaacbjimab.W
