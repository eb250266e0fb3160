import Derived.Test.YtgpokdaacbjimaaBase
namespace Go.Proofs.Ytgpokdaacbjimaa.W
open Go Go.Eng
set_option linter.unusedVariables false
set_option linter.unusedSimpArgs false
set_option maxRecDepth 100000

/-! suture/value.Count -/
def m_value_Count (n : Nat) (a0 : Int) : Option (Int) :=
bif ((a0 : Int) == 3) then (
some 1)
else (
bif (bif (decide ((a0 : Int) ≥ 4)) then (decide ((a0 : Int) ≤ 10)) else false) then (
some 2)
else (
some 0))
def enc_value_Count (r : Int) : V := (V.t (T.sc (.int .i64 r)))
def ok_value_Count (m : Int → Option (Int)) : Prop := ∀ (a0 : Int) (r : Int), m a0 = some r → FuncOk Try.prog 9 [(V.t (T.sc (.int .i64 a0)))] [] (enc_value_Count r) []
def c_value_Count (m : Int → Option (Int)) (vs : List V) (sg : Sig) : Option CallM := bif Nat.beq vs.length 1 && sg.isEmpty then Option.bind (V.intOf .i64 (vs.getD 0 .any)) fun u0 => some { α := Int, m := m u0, dflt := 0, enc := fun y => ((V.t (T.sc (.int .i64 y))), []) } else none
theorem c_value_Count_ok (m : Int → Option (Int)) (hm : ok_value_Count m) (vs : List V) (sg : Sig) (cm : CallM) (x : cm.α) (h : c_value_Count m vs sg = some cm) (hx : cm.m = some x) : FuncOk Try.prog 9 vs sg (cm.enc x).1 (cm.enc x).2 := by
  unfold c_value_Count at h
  have h0 := callee_if h
  clear h
  obtain ⟨hl, hs, h⟩ := h0
  subst hs
  obtain ⟨u0, hu0, h⟩ := Option.bind_eq_some_iff.1 h
  simp only [Option.some.injEq] at h
  subst h
  exact (hm u0 x hx).wk (args_wk hl (.cons (intOf_wk hu0) .nil)) WkSg.nil
noncomputable def code_value_Count : Code := Try.f9.body.getD .skip
noncomputable def sp_value_Count (n : Nat) : Go.Eng.Spec := ⟨fun f vs sg => (match f with
    | _ => none), fun R key E sg K => (match key with
    | _ => none)⟩
theorem sp_value_Count_ok (n : Nat) : CallsOk Try.prog (sp_value_Count n) := by
  intro f vs sg cm x h hx
  have h : (none : Option CallM) = some cm := h
  cases h
theorem code_value_Count_fn : Try.prog.funcs[9]? = some Try.f9 := Try.func9
theorem code_value_Count_body : Try.f9.body = some code_value_Count := by kernel_rfl
theorem code_value_Count_ok : CodeOk Try.prog code_value_Count := (sound 9 _ _ code_value_Count_fn code_value_Count_body).1
def K_value_Count (v : V) (s : Sig) : Option (Int) := Option.bind (V.intOf .i64 v) fun u0 => some u0
theorem K_value_Count_wk {v : V} {s : Sig} {r : Int} (h : K_value_Count v s = some r) : Wk v (enc_value_Count r) := by
  unfold K_value_Count at h
  obtain ⟨u0, hu0, h⟩ := Option.bind_eq_some_iff.1 h
  simp only [Option.some.injEq] at h
  subst h
  exact (intOf_wk hu0)
theorem m_value_Count_eq (n : Nat) (a0 : Int) : mF Try.prog (sp_value_Count n) 9 [(V.t (T.sc (.int .i64 a0)))] [] K_value_Count = m_value_Count n a0 := by kernel_rfl
theorem m_value_Count_ok (n : Nat) : ok_value_Count (m_value_Count n) := fun a0 r h => mF_ok sound (sp_value_Count_ok n) code_value_Count_fn code_value_Count_body (fun a ha => absurd ha (by rw [show loopsOf code_value_Count = [] from by kernel_rfl]; simp)) ((m_value_Count_eq n a0).trans h) (fun v s hk => ⟨K_value_Count_wk hk, rfl, WkS.none _⟩)


/-! suture/suturehand.Pick -/
def m_suturehand_Pick (n : Nat) (a0 : Int) (a1 : Int) : Option (Int) :=
must true (!decide (a1 = 0)) (bif (decide (((Int.tmod a0 a1) : Int) < 0)) then (
some (IntKind.wrap .i64 ((Int.tmod a0 a1) + a1)))
else (
some (Int.tmod a0 a1)))
def enc_suturehand_Pick (r : Int) : V := (V.t (T.sc (.int .i64 r)))
def ok_suturehand_Pick (m : Int → Int → Option (Int)) : Prop := ∀ (a0 : Int) (a1 : Int) (r : Int), m a0 a1 = some r → FuncOk Try.prog 10 [(V.t (T.sc (.int .i64 a0))), (V.t (T.sc (.int .i64 a1)))] [] (enc_suturehand_Pick r) []
def c_suturehand_Pick (m : Int → Int → Option (Int)) (vs : List V) (sg : Sig) : Option CallM := bif Nat.beq vs.length 2 && sg.isEmpty then Option.bind (V.intOf .i64 (vs.getD 0 .any)) fun u0 => Option.bind (V.intOf .i64 (vs.getD 1 .any)) fun u1 => some { α := Int, m := m u0 u1, dflt := 0, enc := fun y => ((V.t (T.sc (.int .i64 y))), []) } else none
theorem c_suturehand_Pick_ok (m : Int → Int → Option (Int)) (hm : ok_suturehand_Pick m) (vs : List V) (sg : Sig) (cm : CallM) (x : cm.α) (h : c_suturehand_Pick m vs sg = some cm) (hx : cm.m = some x) : FuncOk Try.prog 10 vs sg (cm.enc x).1 (cm.enc x).2 := by
  unfold c_suturehand_Pick at h
  have h0 := callee_if h
  clear h
  obtain ⟨hl, hs, h⟩ := h0
  subst hs
  obtain ⟨u0, hu0, h⟩ := Option.bind_eq_some_iff.1 h
  obtain ⟨u1, hu1, h⟩ := Option.bind_eq_some_iff.1 h
  simp only [Option.some.injEq] at h
  subst h
  exact (hm u0 u1 x hx).wk (args_wk hl (.cons (intOf_wk hu0) (.cons (intOf_wk hu1) .nil))) WkSg.nil
noncomputable def code_suturehand_Pick : Code := Try.f10.body.getD .skip
noncomputable def sp_suturehand_Pick (n : Nat) : Go.Eng.Spec := ⟨fun f vs sg => (match f with
    | _ => none), fun R key E sg K => (match key with
    | _ => none)⟩
theorem sp_suturehand_Pick_ok (n : Nat) : CallsOk Try.prog (sp_suturehand_Pick n) := by
  intro f vs sg cm x h hx
  have h : (none : Option CallM) = some cm := h
  cases h
theorem code_suturehand_Pick_fn : Try.prog.funcs[10]? = some Try.f10 := Try.func10
theorem code_suturehand_Pick_body : Try.f10.body = some code_suturehand_Pick := by kernel_rfl
theorem code_suturehand_Pick_ok : CodeOk Try.prog code_suturehand_Pick := (sound 10 _ _ code_suturehand_Pick_fn code_suturehand_Pick_body).1
def K_suturehand_Pick (v : V) (s : Sig) : Option (Int) := Option.bind (V.intOf .i64 v) fun u0 => some u0
theorem K_suturehand_Pick_wk {v : V} {s : Sig} {r : Int} (h : K_suturehand_Pick v s = some r) : Wk v (enc_suturehand_Pick r) := by
  unfold K_suturehand_Pick at h
  obtain ⟨u0, hu0, h⟩ := Option.bind_eq_some_iff.1 h
  simp only [Option.some.injEq] at h
  subst h
  exact (intOf_wk hu0)
theorem m_suturehand_Pick_eq (n : Nat) (a0 : Int) (a1 : Int) : mF Try.prog (sp_suturehand_Pick n) 10 [(V.t (T.sc (.int .i64 a0))), (V.t (T.sc (.int .i64 a1)))] [] K_suturehand_Pick = m_suturehand_Pick n a0 a1 := by kernel_rfl
theorem m_suturehand_Pick_ok (n : Nat) : ok_suturehand_Pick (m_suturehand_Pick n) := fun a0 a1 r h => mF_ok sound (sp_suturehand_Pick_ok n) code_suturehand_Pick_fn code_suturehand_Pick_body (fun a ha => absurd ha (by rw [show loopsOf code_suturehand_Pick = [] from by kernel_rfl]; simp)) ((m_suturehand_Pick_eq n a0 a1).trans h) (fun v s hk => ⟨K_suturehand_Pick_wk hk, rfl, WkS.none _⟩)


/-! suture/suturelaw12.num -/
def m_suturelaw12_num (n : Nat) (a0 : Int) : Option (Int) :=
Option.bind (m_suturehand_Pick n a0 5) fun r0 =>
bif ((r0 : Int) == 0) then (
must true (!decide (5 = 0)) (Option.bind (m_suturehand_Pick n (IntKind.wrap .i64 (Int.tdiv a0 5)) 7) fun r1 =>
some (IntKind.wrap .i64 (r1 - 3))))
else (
bif ((r0 : Int) == 1) then (
must true (!decide (5 = 0)) (Option.bind (m_suturehand_Pick n (IntKind.wrap .i64 (Int.tdiv a0 5)) 3) fun r2 =>
some (IntKind.wrap .i64 (9223372036854775807 - r2))))
else (
bif ((r0 : Int) == 2) then (
must true (!decide (5 = 0)) (Option.bind (m_suturehand_Pick n (IntKind.wrap .i64 (Int.tdiv a0 5)) 3) fun r3 =>
some (IntKind.wrap .i64 ((-9223372036854775808) + r3))))
else (
some a0)))
def enc_suturelaw12_num (r : Int) : V := (V.t (T.sc (.int .i64 r)))
def ok_suturelaw12_num (m : Int → Option (Int)) : Prop := ∀ (a0 : Int) (r : Int), m a0 = some r → FuncOk Try.prog 11 [(V.t (T.sc (.int .i64 a0)))] [] (enc_suturelaw12_num r) []
def c_suturelaw12_num (m : Int → Option (Int)) (vs : List V) (sg : Sig) : Option CallM := bif Nat.beq vs.length 1 && sg.isEmpty then Option.bind (V.intOf .i64 (vs.getD 0 .any)) fun u0 => some { α := Int, m := m u0, dflt := 0, enc := fun y => ((V.t (T.sc (.int .i64 y))), []) } else none
theorem c_suturelaw12_num_ok (m : Int → Option (Int)) (hm : ok_suturelaw12_num m) (vs : List V) (sg : Sig) (cm : CallM) (x : cm.α) (h : c_suturelaw12_num m vs sg = some cm) (hx : cm.m = some x) : FuncOk Try.prog 11 vs sg (cm.enc x).1 (cm.enc x).2 := by
  unfold c_suturelaw12_num at h
  have h0 := callee_if h
  clear h
  obtain ⟨hl, hs, h⟩ := h0
  subst hs
  obtain ⟨u0, hu0, h⟩ := Option.bind_eq_some_iff.1 h
  simp only [Option.some.injEq] at h
  subst h
  exact (hm u0 x hx).wk (args_wk hl (.cons (intOf_wk hu0) .nil)) WkSg.nil
noncomputable def code_suturelaw12_num : Code := Try.f11.body.getD .skip
noncomputable def sp_suturelaw12_num (n : Nat) : Go.Eng.Spec := ⟨fun f vs sg => (match f with
    | 10 => c_suturehand_Pick (m_suturehand_Pick n) vs sg
    | _ => none), fun R key E sg K => (match key with
    | _ => none)⟩
theorem sp_suturelaw12_num_ok (n : Nat) : CallsOk Try.prog (sp_suturelaw12_num n) := by
  intro f vs sg cm x h hx
  simp only [sp_suturelaw12_num] at h
  split at h
  · exact c_suturehand_Pick_ok _ (m_suturehand_Pick_ok n) vs sg cm x h hx
  · cases h
theorem code_suturelaw12_num_fn : Try.prog.funcs[11]? = some Try.f11 := Try.func11
theorem code_suturelaw12_num_body : Try.f11.body = some code_suturelaw12_num := by kernel_rfl
theorem code_suturelaw12_num_ok : CodeOk Try.prog code_suturelaw12_num := (sound 11 _ _ code_suturelaw12_num_fn code_suturelaw12_num_body).1
def K_suturelaw12_num (v : V) (s : Sig) : Option (Int) := Option.bind (V.intOf .i64 v) fun u0 => some u0
theorem K_suturelaw12_num_wk {v : V} {s : Sig} {r : Int} (h : K_suturelaw12_num v s = some r) : Wk v (enc_suturelaw12_num r) := by
  unfold K_suturelaw12_num at h
  obtain ⟨u0, hu0, h⟩ := Option.bind_eq_some_iff.1 h
  simp only [Option.some.injEq] at h
  subst h
  exact (intOf_wk hu0)
theorem m_suturelaw12_num_eq (n : Nat) (a0 : Int) : mF Try.prog (sp_suturelaw12_num n) 11 [(V.t (T.sc (.int .i64 a0)))] [] K_suturelaw12_num = m_suturelaw12_num n a0 := by kernel_rfl
theorem m_suturelaw12_num_ok (n : Nat) : ok_suturelaw12_num (m_suturelaw12_num n) := fun a0 r h => mF_ok sound (sp_suturelaw12_num_ok n) code_suturelaw12_num_fn code_suturelaw12_num_body (fun a ha => absurd ha (by rw [show loopsOf code_suturelaw12_num = [] from by kernel_rfl]; simp)) ((m_suturelaw12_num_eq n a0).trans h) (fun v s hk => ⟨K_suturelaw12_num_wk hk, rfl, WkS.none _⟩)


/-! suture/sutureref8.Op -/
def m_sutureref8_Op (n : Nat) (a0 : Int) (a1 : Int) (a2 : Int) : Option (Int × Bool) :=
bif ((a0 : Int) == 3) then (
some ((IntKind.wrap .i64 (0 - a1)), true))
else (
bif ((a0 : Int) == 4) then (
some ((IntKind.wrap .i64 (a1 + a2)), true))
else (
bif ((a0 : Int) == 5) then (
some ((IntKind.wrap .i64 (a1 - a2)), true))
else (
bif ((a0 : Int) == 6) then (
some ((IntKind.wrap .i64 (a1 * a2)), true))
else (
bif ((a0 : Int) == 7) then (
bif ((a0 : Int) == 7) then (
bif ((a2 : Int) == 0) then (
some (0, false))
else (
bif ((a2 : Int) == (-1)) then (
bif ((a0 : Int) == 7) then (
some ((IntKind.wrap .i64 (0 - a1)), true))
else (
some (0, true)))
else (
bif ((a0 : Int) == 7) then (
must true (!decide (a2 = 0)) (some ((IntKind.wrap .i64 (Int.tdiv a1 a2)), true)))
else (
must true (!decide (a2 = 0)) (some ((Int.tmod a1 a2), true))))))
else (
bif ((a0 : Int) == 9) then (
bif (decide ((a1 : Int) < a2)) then (
some (1, true))
else (
some (0, true)))
else (
bif ((a0 : Int) == 10) then (
bif ((a1 : Int) == a2) then (
some (1, true))
else (
some (0, true)))
else (
some (0, false)))))
else (
bif ((a0 : Int) == 8) then (
bif ((a2 : Int) == 0) then (
some (0, false))
else (
bif ((a2 : Int) == (-1)) then (
bif ((a0 : Int) == 7) then (
some ((IntKind.wrap .i64 (0 - a1)), true))
else (
some (0, true)))
else (
bif ((a0 : Int) == 7) then (
must true (!decide (a2 = 0)) (some ((IntKind.wrap .i64 (Int.tdiv a1 a2)), true)))
else (
must true (!decide (a2 = 0)) (some ((Int.tmod a1 a2), true))))))
else (
bif ((a0 : Int) == 9) then (
bif (decide ((a1 : Int) < a2)) then (
some (1, true))
else (
some (0, true)))
else (
bif ((a0 : Int) == 10) then (
bif ((a1 : Int) == a2) then (
some (1, true))
else (
some (0, true)))
else (
some (0, false)))))))))
def enc_sutureref8_Op (r : Int × Bool) : V := (V.tup [(V.t (T.sc (.int .i64 r.1))), (V.t (T.sc (.bool r.2)))])
def ok_sutureref8_Op (m : Int → Int → Int → Option (Int × Bool)) : Prop := ∀ (a0 : Int) (a1 : Int) (a2 : Int) (r : Int × Bool), m a0 a1 a2 = some r → FuncOk Try.prog 12 [(V.t (T.sc (.int .i64 a0))), (V.t (T.sc (.int .i64 a1))), (V.t (T.sc (.int .i64 a2)))] [] (enc_sutureref8_Op r) []
def c_sutureref8_Op (m : Int → Int → Int → Option (Int × Bool)) (vs : List V) (sg : Sig) : Option CallM := bif Nat.beq vs.length 3 && sg.isEmpty then Option.bind (V.intOf .i64 (vs.getD 0 .any)) fun u0 => Option.bind (V.intOf .i64 (vs.getD 1 .any)) fun u1 => Option.bind (V.intOf .i64 (vs.getD 2 .any)) fun u2 => some { α := Int × Bool, m := m u0 u1 u2, dflt := (0, false), enc := fun y => ((V.tup [(V.t (T.sc (.int .i64 y.1))), (V.t (T.sc (.bool y.2)))]), []) } else none
theorem c_sutureref8_Op_ok (m : Int → Int → Int → Option (Int × Bool)) (hm : ok_sutureref8_Op m) (vs : List V) (sg : Sig) (cm : CallM) (x : cm.α) (h : c_sutureref8_Op m vs sg = some cm) (hx : cm.m = some x) : FuncOk Try.prog 12 vs sg (cm.enc x).1 (cm.enc x).2 := by
  unfold c_sutureref8_Op at h
  have h0 := callee_if h
  clear h
  obtain ⟨hl, hs, h⟩ := h0
  subst hs
  obtain ⟨u0, hu0, h⟩ := Option.bind_eq_some_iff.1 h
  obtain ⟨u1, hu1, h⟩ := Option.bind_eq_some_iff.1 h
  obtain ⟨u2, hu2, h⟩ := Option.bind_eq_some_iff.1 h
  simp only [Option.some.injEq] at h
  subst h
  exact (hm u0 u1 u2 x hx).wk (args_wk hl (.cons (intOf_wk hu0) (.cons (intOf_wk hu1) (.cons (intOf_wk hu2) .nil)))) WkSg.nil
noncomputable def code_sutureref8_Op : Code := Try.f12.body.getD .skip
noncomputable def sp_sutureref8_Op (n : Nat) : Go.Eng.Spec := ⟨fun f vs sg => (match f with
    | _ => none), fun R key E sg K => (match key with
    | _ => none)⟩
theorem sp_sutureref8_Op_ok (n : Nat) : CallsOk Try.prog (sp_sutureref8_Op n) := by
  intro f vs sg cm x h hx
  have h : (none : Option CallM) = some cm := h
  cases h
theorem code_sutureref8_Op_fn : Try.prog.funcs[12]? = some Try.f12 := Try.func12
theorem code_sutureref8_Op_body : Try.f12.body = some code_sutureref8_Op := by kernel_rfl
theorem code_sutureref8_Op_ok : CodeOk Try.prog code_sutureref8_Op := (sound 12 _ _ code_sutureref8_Op_fn code_sutureref8_Op_body).1
def K_sutureref8_Op (v : V) (s : Sig) : Option (Int × Bool) := Option.bind (V.tupN 2 v) fun u0 => Option.bind (V.intOf .i64 (u0.getD 0 .any)) fun u1 => Option.bind (V.boolOf (u0.getD 1 .any)) fun u2 => some (u1, u2)
theorem K_sutureref8_Op_wk {v : V} {s : Sig} {r : Int × Bool} (h : K_sutureref8_Op v s = some r) : Wk v (enc_sutureref8_Op r) := by
  unfold K_sutureref8_Op at h
  obtain ⟨u0, hu0, h⟩ := Option.bind_eq_some_iff.1 h
  obtain ⟨u1, hu1, h⟩ := Option.bind_eq_some_iff.1 h
  obtain ⟨u2, hu2, h⟩ := Option.bind_eq_some_iff.1 h
  simp only [Option.some.injEq] at h
  subst h
  exact (tupN_wk hu0 (.cons (intOf_wk hu1) (.cons (boolOf_wk hu2) .nil)))
theorem m_sutureref8_Op_eq (n : Nat) (a0 : Int) (a1 : Int) (a2 : Int) : mF Try.prog (sp_sutureref8_Op n) 12 [(V.t (T.sc (.int .i64 a0))), (V.t (T.sc (.int .i64 a1))), (V.t (T.sc (.int .i64 a2)))] [] K_sutureref8_Op = m_sutureref8_Op n a0 a1 a2 := by kernel_rfl
theorem m_sutureref8_Op_ok (n : Nat) : ok_sutureref8_Op (m_sutureref8_Op n) := fun a0 a1 a2 r h => mF_ok sound (sp_sutureref8_Op_ok n) code_sutureref8_Op_fn code_sutureref8_Op_body (fun a ha => absurd ha (by rw [show loopsOf code_sutureref8_Op = [] from by kernel_rfl]; simp)) ((m_sutureref8_Op_eq n a0 a1 a2).trans h) (fun v s hk => ⟨K_sutureref8_Op_wk hk, rfl, WkS.none _⟩)


/-! suture/sutureref8.Count -/
def m_sutureref8_Count (n : Nat) (a0 : Int) : Option (Int) :=
bif ((a0 : Int) == 3) then (
some 1)
else (
bif ((a0 : Int) == 4) then (
bif ((a0 : Int) == 4) then (
some 2)
else (
some 0))
else (
bif ((a0 : Int) == 5) then (
bif ((a0 : Int) == 5) then (
some 2)
else (
some 0))
else (
bif ((a0 : Int) == 6) then (
bif ((a0 : Int) == 6) then (
some 2)
else (
some 0))
else (
bif ((a0 : Int) == 7) then (
bif ((a0 : Int) == 7) then (
some 2)
else (
some 0))
else (
bif ((a0 : Int) == 8) then (
bif ((a0 : Int) == 8) then (
some 2)
else (
some 0))
else (
bif ((a0 : Int) == 9) then (
bif ((a0 : Int) == 9) then (
some 2)
else (
some 0))
else (
bif ((a0 : Int) == 10) then (
some 2)
else (
some 0))))))))
def enc_sutureref8_Count (r : Int) : V := (V.t (T.sc (.int .i64 r)))
def ok_sutureref8_Count (m : Int → Option (Int)) : Prop := ∀ (a0 : Int) (r : Int), m a0 = some r → FuncOk Try.prog 13 [(V.t (T.sc (.int .i64 a0)))] [] (enc_sutureref8_Count r) []
def c_sutureref8_Count (m : Int → Option (Int)) (vs : List V) (sg : Sig) : Option CallM := bif Nat.beq vs.length 1 && sg.isEmpty then Option.bind (V.intOf .i64 (vs.getD 0 .any)) fun u0 => some { α := Int, m := m u0, dflt := 0, enc := fun y => ((V.t (T.sc (.int .i64 y))), []) } else none
theorem c_sutureref8_Count_ok (m : Int → Option (Int)) (hm : ok_sutureref8_Count m) (vs : List V) (sg : Sig) (cm : CallM) (x : cm.α) (h : c_sutureref8_Count m vs sg = some cm) (hx : cm.m = some x) : FuncOk Try.prog 13 vs sg (cm.enc x).1 (cm.enc x).2 := by
  unfold c_sutureref8_Count at h
  have h0 := callee_if h
  clear h
  obtain ⟨hl, hs, h⟩ := h0
  subst hs
  obtain ⟨u0, hu0, h⟩ := Option.bind_eq_some_iff.1 h
  simp only [Option.some.injEq] at h
  subst h
  exact (hm u0 x hx).wk (args_wk hl (.cons (intOf_wk hu0) .nil)) WkSg.nil
noncomputable def code_sutureref8_Count : Code := Try.f13.body.getD .skip
noncomputable def sp_sutureref8_Count (n : Nat) : Go.Eng.Spec := ⟨fun f vs sg => (match f with
    | _ => none), fun R key E sg K => (match key with
    | _ => none)⟩
theorem sp_sutureref8_Count_ok (n : Nat) : CallsOk Try.prog (sp_sutureref8_Count n) := by
  intro f vs sg cm x h hx
  have h : (none : Option CallM) = some cm := h
  cases h
theorem code_sutureref8_Count_fn : Try.prog.funcs[13]? = some Try.f13 := Try.func13
theorem code_sutureref8_Count_body : Try.f13.body = some code_sutureref8_Count := by kernel_rfl
theorem code_sutureref8_Count_ok : CodeOk Try.prog code_sutureref8_Count := (sound 13 _ _ code_sutureref8_Count_fn code_sutureref8_Count_body).1
def K_sutureref8_Count (v : V) (s : Sig) : Option (Int) := Option.bind (V.intOf .i64 v) fun u0 => some u0
theorem K_sutureref8_Count_wk {v : V} {s : Sig} {r : Int} (h : K_sutureref8_Count v s = some r) : Wk v (enc_sutureref8_Count r) := by
  unfold K_sutureref8_Count at h
  obtain ⟨u0, hu0, h⟩ := Option.bind_eq_some_iff.1 h
  simp only [Option.some.injEq] at h
  subst h
  exact (intOf_wk hu0)
theorem m_sutureref8_Count_eq (n : Nat) (a0 : Int) : mF Try.prog (sp_sutureref8_Count n) 13 [(V.t (T.sc (.int .i64 a0)))] [] K_sutureref8_Count = m_sutureref8_Count n a0 := by kernel_rfl
theorem m_sutureref8_Count_ok (n : Nat) : ok_sutureref8_Count (m_sutureref8_Count n) := fun a0 r h => mF_ok sound (sp_sutureref8_Count_ok n) code_sutureref8_Count_fn code_sutureref8_Count_body (fun a ha => absurd ha (by rw [show loopsOf code_sutureref8_Count = [] from by kernel_rfl]; simp)) ((m_sutureref8_Count_eq n a0).trans h) (fun v s hk => ⟨K_sutureref8_Count_wk hk, rfl, WkS.none _⟩)


/-! suture/value.truth -/
def m_value_truth (n : Nat) (a0 : Bool) : Option (Int) :=
bif a0 then (
some 1)
else (
some 0)
def enc_value_truth (r : Int) : V := (V.t (T.sc (.int .i64 r)))
def ok_value_truth (m : Bool → Option (Int)) : Prop := ∀ (a0 : Bool) (r : Int), m a0 = some r → FuncOk Try.prog 15 [(V.t (T.sc (.bool a0)))] [] (enc_value_truth r) []
def c_value_truth (m : Bool → Option (Int)) (vs : List V) (sg : Sig) : Option CallM := bif Nat.beq vs.length 1 && sg.isEmpty then Option.bind (V.boolOf (vs.getD 0 .any)) fun u0 => some { α := Int, m := m u0, dflt := 0, enc := fun y => ((V.t (T.sc (.int .i64 y))), []) } else none
theorem c_value_truth_ok (m : Bool → Option (Int)) (hm : ok_value_truth m) (vs : List V) (sg : Sig) (cm : CallM) (x : cm.α) (h : c_value_truth m vs sg = some cm) (hx : cm.m = some x) : FuncOk Try.prog 15 vs sg (cm.enc x).1 (cm.enc x).2 := by
  unfold c_value_truth at h
  have h0 := callee_if h
  clear h
  obtain ⟨hl, hs, h⟩ := h0
  subst hs
  obtain ⟨u0, hu0, h⟩ := Option.bind_eq_some_iff.1 h
  simp only [Option.some.injEq] at h
  subst h
  exact (hm u0 x hx).wk (args_wk hl (.cons (boolOf_wk hu0) .nil)) WkSg.nil
noncomputable def code_value_truth : Code := Try.f15.body.getD .skip
noncomputable def sp_value_truth (n : Nat) : Go.Eng.Spec := ⟨fun f vs sg => (match f with
    | _ => none), fun R key E sg K => (match key with
    | _ => none)⟩
theorem sp_value_truth_ok (n : Nat) : CallsOk Try.prog (sp_value_truth n) := by
  intro f vs sg cm x h hx
  have h : (none : Option CallM) = some cm := h
  cases h
theorem code_value_truth_fn : Try.prog.funcs[15]? = some Try.f15 := Try.func15
theorem code_value_truth_body : Try.f15.body = some code_value_truth := by kernel_rfl
theorem code_value_truth_ok : CodeOk Try.prog code_value_truth := (sound 15 _ _ code_value_truth_fn code_value_truth_body).1
def K_value_truth (v : V) (s : Sig) : Option (Int) := Option.bind (V.intOf .i64 v) fun u0 => some u0
theorem K_value_truth_wk {v : V} {s : Sig} {r : Int} (h : K_value_truth v s = some r) : Wk v (enc_value_truth r) := by
  unfold K_value_truth at h
  obtain ⟨u0, hu0, h⟩ := Option.bind_eq_some_iff.1 h
  simp only [Option.some.injEq] at h
  subst h
  exact (intOf_wk hu0)
theorem m_value_truth_eq (n : Nat) (a0 : Bool) : mF Try.prog (sp_value_truth n) 15 [(V.t (T.sc (.bool a0)))] [] K_value_truth = m_value_truth n a0 := by kernel_rfl
theorem m_value_truth_ok (n : Nat) : ok_value_truth (m_value_truth n) := fun a0 r h => mF_ok sound (sp_value_truth_ok n) code_value_truth_fn code_value_truth_body (fun a ha => absurd ha (by rw [show loopsOf code_value_truth = [] from by kernel_rfl]; simp)) ((m_value_truth_eq n a0).trans h) (fun v s hk => ⟨K_value_truth_wk hk, rfl, WkS.none _⟩)


/-! suture/value.Op -/
def m_value_Op (n : Nat) (a0 : Int) (a1 : Int) (a2 : Int) : Option (Int × Bool) :=
bif ((a0 : Int) == 3) then (
some ((IntKind.wrap .i64 (0 - a1)), true))
else (
bif ((a0 : Int) == 4) then (
some ((IntKind.wrap .i64 (a1 + a2)), true))
else (
bif ((a0 : Int) == 5) then (
some ((IntKind.wrap .i64 (a1 - a2)), true))
else (
bif ((a0 : Int) == 6) then (
some ((IntKind.wrap .i64 (a1 * a2)), true))
else (
bif ((a0 : Int) == 7) then (
bif ((a2 : Int) == 0) then (
some (0, false))
else (
must true (!decide (a2 = 0)) (some ((IntKind.wrap .i64 (Int.tdiv a1 a2)), true))))
else (
bif ((a0 : Int) == 8) then (
bif ((a2 : Int) == 0) then (
some (0, false))
else (
must true (!decide (a2 = 0)) (some ((Int.tmod a1 a2), true))))
else (
bif ((a0 : Int) == 9) then (
Option.bind (m_value_truth n (decide ((a1 : Int) < a2))) fun r0 =>
some (r0, true))
else (
bif ((a0 : Int) == 10) then (
Option.bind (m_value_truth n ((a1 : Int) == a2)) fun r1 =>
some (r1, true))
else (
some (0, false)))))))))
def enc_value_Op (r : Int × Bool) : V := (V.tup [(V.t (T.sc (.int .i64 r.1))), (V.t (T.sc (.bool r.2)))])
def ok_value_Op (m : Int → Int → Int → Option (Int × Bool)) : Prop := ∀ (a0 : Int) (a1 : Int) (a2 : Int) (r : Int × Bool), m a0 a1 a2 = some r → FuncOk Try.prog 7 [(V.t (T.sc (.int .i64 a0))), (V.t (T.sc (.int .i64 a1))), (V.t (T.sc (.int .i64 a2)))] [] (enc_value_Op r) []
def c_value_Op (m : Int → Int → Int → Option (Int × Bool)) (vs : List V) (sg : Sig) : Option CallM := bif Nat.beq vs.length 3 && sg.isEmpty then Option.bind (V.intOf .i64 (vs.getD 0 .any)) fun u0 => Option.bind (V.intOf .i64 (vs.getD 1 .any)) fun u1 => Option.bind (V.intOf .i64 (vs.getD 2 .any)) fun u2 => some { α := Int × Bool, m := m u0 u1 u2, dflt := (0, false), enc := fun y => ((V.tup [(V.t (T.sc (.int .i64 y.1))), (V.t (T.sc (.bool y.2)))]), []) } else none
theorem c_value_Op_ok (m : Int → Int → Int → Option (Int × Bool)) (hm : ok_value_Op m) (vs : List V) (sg : Sig) (cm : CallM) (x : cm.α) (h : c_value_Op m vs sg = some cm) (hx : cm.m = some x) : FuncOk Try.prog 7 vs sg (cm.enc x).1 (cm.enc x).2 := by
  unfold c_value_Op at h
  have h0 := callee_if h
  clear h
  obtain ⟨hl, hs, h⟩ := h0
  subst hs
  obtain ⟨u0, hu0, h⟩ := Option.bind_eq_some_iff.1 h
  obtain ⟨u1, hu1, h⟩ := Option.bind_eq_some_iff.1 h
  obtain ⟨u2, hu2, h⟩ := Option.bind_eq_some_iff.1 h
  simp only [Option.some.injEq] at h
  subst h
  exact (hm u0 u1 u2 x hx).wk (args_wk hl (.cons (intOf_wk hu0) (.cons (intOf_wk hu1) (.cons (intOf_wk hu2) .nil)))) WkSg.nil
noncomputable def code_value_Op : Code := Try.f7.body.getD .skip
noncomputable def sp_value_Op (n : Nat) : Go.Eng.Spec := ⟨fun f vs sg => (match f with
    | 15 => c_value_truth (m_value_truth n) vs sg
    | _ => none), fun R key E sg K => (match key with
    | _ => none)⟩
theorem sp_value_Op_ok (n : Nat) : CallsOk Try.prog (sp_value_Op n) := by
  intro f vs sg cm x h hx
  simp only [sp_value_Op] at h
  split at h
  · exact c_value_truth_ok _ (m_value_truth_ok n) vs sg cm x h hx
  · cases h
theorem code_value_Op_fn : Try.prog.funcs[7]? = some Try.f7 := Try.func7
theorem code_value_Op_body : Try.f7.body = some code_value_Op := by kernel_rfl
theorem code_value_Op_ok : CodeOk Try.prog code_value_Op := (sound 7 _ _ code_value_Op_fn code_value_Op_body).1
def K_value_Op (v : V) (s : Sig) : Option (Int × Bool) := Option.bind (V.tupN 2 v) fun u0 => Option.bind (V.intOf .i64 (u0.getD 0 .any)) fun u1 => Option.bind (V.boolOf (u0.getD 1 .any)) fun u2 => some (u1, u2)
theorem K_value_Op_wk {v : V} {s : Sig} {r : Int × Bool} (h : K_value_Op v s = some r) : Wk v (enc_value_Op r) := by
  unfold K_value_Op at h
  obtain ⟨u0, hu0, h⟩ := Option.bind_eq_some_iff.1 h
  obtain ⟨u1, hu1, h⟩ := Option.bind_eq_some_iff.1 h
  obtain ⟨u2, hu2, h⟩ := Option.bind_eq_some_iff.1 h
  simp only [Option.some.injEq] at h
  subst h
  exact (tupN_wk hu0 (.cons (intOf_wk hu1) (.cons (boolOf_wk hu2) .nil)))
theorem m_value_Op_eq (n : Nat) (a0 : Int) (a1 : Int) (a2 : Int) : mF Try.prog (sp_value_Op n) 7 [(V.t (T.sc (.int .i64 a0))), (V.t (T.sc (.int .i64 a1))), (V.t (T.sc (.int .i64 a2)))] [] K_value_Op = m_value_Op n a0 a1 a2 := by kernel_rfl
theorem m_value_Op_ok (n : Nat) : ok_value_Op (m_value_Op n) := fun a0 a1 a2 r h => mF_ok sound (sp_value_Op_ok n) code_value_Op_fn code_value_Op_body (fun a ha => absurd ha (by rw [show loopsOf code_value_Op = [] from by kernel_rfl]; simp)) ((m_value_Op_eq n a0 a1 a2).trans h) (fun v s hk => ⟨K_value_Op_wk hk, rfl, WkS.none _⟩)


/-! suture/suturelaw12.known -/
def m_suturelaw12_known (n : Nat) : Option (Bool) :=
Option.bind (m_value_Op n 8 (-7) 3) fun r0 =>
Option.bind (bif (bif r0.2 then ((r0.1 : Int) == (-1)) else false) then m_value_Count n 3 else some 0) fun r1 =>
some (bif (bif r0.2 then ((r0.1 : Int) == (-1)) else false) then ((r1 : Int) == 1) else false)
def enc_suturelaw12_known (r : Bool) : V := (V.t (T.sc (.bool r)))
def ok_suturelaw12_known (m : Option (Bool)) : Prop := ∀ (r : Bool), m = some r → FuncOk Try.prog 8 [] [] (enc_suturelaw12_known r) []
def c_suturelaw12_known (m : Option (Bool)) (vs : List V) (sg : Sig) : Option CallM := bif Nat.beq vs.length 0 && sg.isEmpty then some { α := Bool, m := m, dflt := false, enc := fun y => ((V.t (T.sc (.bool y))), []) } else none
theorem c_suturelaw12_known_ok (m : Option (Bool)) (hm : ok_suturelaw12_known m) (vs : List V) (sg : Sig) (cm : CallM) (x : cm.α) (h : c_suturelaw12_known m vs sg = some cm) (hx : cm.m = some x) : FuncOk Try.prog 8 vs sg (cm.enc x).1 (cm.enc x).2 := by
  unfold c_suturelaw12_known at h
  have h0 := callee_if h
  clear h
  obtain ⟨hl, hs, h⟩ := h0
  subst hs
  simp only [Option.some.injEq] at h
  subst h
  exact (hm x hx).wk (args_wk hl .nil) WkSg.nil
noncomputable def code_suturelaw12_known : Code := Try.f8.body.getD .skip
noncomputable def sp_suturelaw12_known (n : Nat) : Go.Eng.Spec := ⟨fun f vs sg => (match f with
    | 7 => c_value_Op (m_value_Op n) vs sg
    | 9 => c_value_Count (m_value_Count n) vs sg
    | _ => none), fun R key E sg K => (match key with
    | _ => none)⟩
theorem sp_suturelaw12_known_ok (n : Nat) : CallsOk Try.prog (sp_suturelaw12_known n) := by
  intro f vs sg cm x h hx
  simp only [sp_suturelaw12_known] at h
  split at h
  · exact c_value_Op_ok _ (m_value_Op_ok n) vs sg cm x h hx
  · exact c_value_Count_ok _ (m_value_Count_ok n) vs sg cm x h hx
  · cases h
theorem code_suturelaw12_known_fn : Try.prog.funcs[8]? = some Try.f8 := Try.func8
theorem code_suturelaw12_known_body : Try.f8.body = some code_suturelaw12_known := by kernel_rfl
theorem code_suturelaw12_known_ok : CodeOk Try.prog code_suturelaw12_known := (sound 8 _ _ code_suturelaw12_known_fn code_suturelaw12_known_body).1
def K_suturelaw12_known (v : V) (s : Sig) : Option (Bool) := Option.bind (V.boolOf v) fun u0 => some u0
theorem K_suturelaw12_known_wk {v : V} {s : Sig} {r : Bool} (h : K_suturelaw12_known v s = some r) : Wk v (enc_suturelaw12_known r) := by
  unfold K_suturelaw12_known at h
  obtain ⟨u0, hu0, h⟩ := Option.bind_eq_some_iff.1 h
  simp only [Option.some.injEq] at h
  subst h
  exact (boolOf_wk hu0)
theorem m_suturelaw12_known_eq (n : Nat) : mF Try.prog (sp_suturelaw12_known n) 8 [] [] K_suturelaw12_known = m_suturelaw12_known n := by kernel_rfl
theorem m_suturelaw12_known_ok (n : Nat) : ok_suturelaw12_known (m_suturelaw12_known n) := fun  r h => mF_ok sound (sp_suturelaw12_known_ok n) code_suturelaw12_known_fn code_suturelaw12_known_body (fun a ha => absurd ha (by rw [show loopsOf code_suturelaw12_known = [] from by kernel_rfl]; simp)) ((m_suturelaw12_known_eq n).trans h) (fun v s hk => ⟨K_suturelaw12_known_wk hk, rfl, WkS.none _⟩)


/-! suture/suturelaw12.ValueTells -/
def l_suturelaw12_ValueTells_2_B (n : Nat) (k : Int × Int × Int × Int × Int → Option (((Bool) ⊕ Unit))) : Int × Int × Int × Int × Int → Option (((Bool) ⊕ Unit)) := fun (s0, s1, s2, s3, s4) =>
bif (decide ((s4 : Int) < 2)) then (
Option.bind (idx1 true (.int .i64) [(T.sc (.int .i64 s2)), (T.sc (.int .i64 s3))] s4) fun y1 =>
Option.bind (m_suturelaw12_num n s0) fun r2 =>
Option.bind (m_suturelaw12_num n s1) fun r3 =>
Option.bind (m_value_Op n y1.int r2 r3) fun r4 =>
Option.bind (m_suturelaw12_num n s0) fun r5 =>
Option.bind (m_suturelaw12_num n s1) fun r6 =>
Option.bind (m_sutureref8_Op n y1.int r5 r6) fun r7 =>
Option.bind (bif !(bif ((r4.1 : Int) != r7.1) then true else (!(r4.2 == r7.2))) then m_value_Count n y1.int else some 0) fun r8 =>
Option.bind (bif !(bif ((r4.1 : Int) != r7.1) then true else (!(r4.2 == r7.2))) then m_sutureref8_Count n y1.int else some 0) fun r9 =>
bif (bif (bif ((r4.1 : Int) != r7.1) then true else (!(r4.2 == r7.2))) then true else ((r8 : Int) != r9)) then (
some (Sum.inl false))
else (
k (s0, s1, s2, s3, (IntKind.wrap .i64 (s4 + 1)))))
else (
some (Sum.inr ()))
def l_suturelaw12_ValueTells_2 (n : Nat) : Nat → Int × Int × Int × Int × Int → Option (((Bool) ⊕ Unit))
  | 0, _ => none
  | m + 1, s => l_suturelaw12_ValueTells_2_B n (l_suturelaw12_ValueTells_2 n m) s
def m_suturelaw12_ValueTells (n : Nat) (a0 : Int) (a1 : Int) (a2 : Int) : Option (Bool) :=
Option.bind (m_suturehand_Pick n a2 14) fun r0 =>
Option.bind (l_suturelaw12_ValueTells_2 n n (a0, a1, a2, (IntKind.wrap .i64 (r0 - 1)), 0)) fun x10 =>
Sum.elim (fun p11 => 
some p11) (fun x10' => (fun p12 => 
Option.bind (m_suturelaw12_known n) fun r13 =>
some r13) x10') x10
def enc_suturelaw12_ValueTells (r : Bool) : V := (V.t (T.sc (.bool r)))
def ok_suturelaw12_ValueTells (m : Int → Int → Int → Option (Bool)) : Prop := ∀ (a0 : Int) (a1 : Int) (a2 : Int) (r : Bool), m a0 a1 a2 = some r → FuncOk Try.prog 4 [(V.t (T.sc (.int .i64 a0))), (V.t (T.sc (.int .i64 a1))), (V.t (T.sc (.int .i64 a2)))] [] (enc_suturelaw12_ValueTells r) []
def c_suturelaw12_ValueTells (m : Int → Int → Int → Option (Bool)) (vs : List V) (sg : Sig) : Option CallM := bif Nat.beq vs.length 3 && sg.isEmpty then Option.bind (V.intOf .i64 (vs.getD 0 .any)) fun u0 => Option.bind (V.intOf .i64 (vs.getD 1 .any)) fun u1 => Option.bind (V.intOf .i64 (vs.getD 2 .any)) fun u2 => some { α := Bool, m := m u0 u1 u2, dflt := false, enc := fun y => ((V.t (T.sc (.bool y))), []) } else none
theorem c_suturelaw12_ValueTells_ok (m : Int → Int → Int → Option (Bool)) (hm : ok_suturelaw12_ValueTells m) (vs : List V) (sg : Sig) (cm : CallM) (x : cm.α) (h : c_suturelaw12_ValueTells m vs sg = some cm) (hx : cm.m = some x) : FuncOk Try.prog 4 vs sg (cm.enc x).1 (cm.enc x).2 := by
  unfold c_suturelaw12_ValueTells at h
  have h0 := callee_if h
  clear h
  obtain ⟨hl, hs, h⟩ := h0
  subst hs
  obtain ⟨u0, hu0, h⟩ := Option.bind_eq_some_iff.1 h
  obtain ⟨u1, hu1, h⟩ := Option.bind_eq_some_iff.1 h
  obtain ⟨u2, hu2, h⟩ := Option.bind_eq_some_iff.1 h
  simp only [Option.some.injEq] at h
  subst h
  exact (hm u0 u1 u2 x hx).wk (args_wk hl (.cons (intOf_wk hu0) (.cons (intOf_wk hu1) (.cons (intOf_wk hu2) .nil)))) WkSg.nil
noncomputable def code_suturelaw12_ValueTells : Code := Try.f4.body.getD .skip
def l_suturelaw12_ValueTells_2_S (n : Nat) (R : Type) (E : SEnv) (sg : Sig) (K : Ex → SEnv → Sig → Option R) : Option R := Option.bind (V.intOf .i64 (SEnv.at E 0)) fun u0 => Option.bind (V.intOf .i64 (SEnv.at E 1)) fun u1 => Option.bind (V.aggN 2 (SEnv.at E 17)) fun u2 => Option.bind (V.intOf .i64 (u2.getD 0 .any)) fun u3 => Option.bind (V.intOf .i64 (u2.getD 1 .any)) fun u4 => Option.bind (V.intOf .i64 (SEnv.at E 18)) fun u5 => Option.bind (l_suturelaw12_ValueTells_2 n n (u0, u1, u3, u4, u5)) fun y => Sum.elim (fun p0 => K .ret [(6, (V.t (T.sc (.bool p0))))] []) (fun y' => (fun p1 => K (.exit 0) [] []) y') y
noncomputable def sp_suturelaw12_ValueTells (n : Nat) : Go.Eng.Spec := ⟨fun f vs sg => (match f with
    | 10 => c_suturehand_Pick (m_suturehand_Pick n) vs sg
    | 11 => c_suturelaw12_num (m_suturelaw12_num n) vs sg
    | 7 => c_value_Op (m_value_Op n) vs sg
    | 12 => c_sutureref8_Op (m_sutureref8_Op n) vs sg
    | 9 => c_value_Count (m_value_Count n) vs sg
    | 13 => c_sutureref8_Count (m_sutureref8_Count n) vs sg
    | 8 => c_suturelaw12_known (m_suturelaw12_known n) vs sg
    | _ => none), fun R key E sg K => (match key with
    | 2 => l_suturelaw12_ValueTells_2_S n R E sg K
    | _ => none)⟩
theorem sp_suturelaw12_ValueTells_ok (n : Nat) : CallsOk Try.prog (sp_suturelaw12_ValueTells n) := by
  intro f vs sg cm x h hx
  simp only [sp_suturelaw12_ValueTells] at h
  split at h
  · exact c_suturehand_Pick_ok _ (m_suturehand_Pick_ok n) vs sg cm x h hx
  · exact c_suturelaw12_num_ok _ (m_suturelaw12_num_ok n) vs sg cm x h hx
  · exact c_value_Op_ok _ (m_value_Op_ok n) vs sg cm x h hx
  · exact c_sutureref8_Op_ok _ (m_sutureref8_Op_ok n) vs sg cm x h hx
  · exact c_value_Count_ok _ (m_value_Count_ok n) vs sg cm x h hx
  · exact c_sutureref8_Count_ok _ (m_sutureref8_Count_ok n) vs sg cm x h hx
  · exact c_suturelaw12_known_ok _ (m_suturelaw12_known_ok n) vs sg cm x h hx
  · cases h
theorem code_suturelaw12_ValueTells_fn : Try.prog.funcs[4]? = some Try.f4 := Try.func4
theorem code_suturelaw12_ValueTells_body : Try.f4.body = some code_suturelaw12_ValueTells := by kernel_rfl
theorem code_suturelaw12_ValueTells_ok : CodeOk Try.prog code_suturelaw12_ValueTells := (sound 4 _ _ code_suturelaw12_ValueTells_fn code_suturelaw12_ValueTells_body).1
noncomputable def code_l_suturelaw12_ValueTells_2 : Code := (loopsOf code_suturelaw12_ValueTells).getD 0 .skip
theorem code_l_suturelaw12_ValueTells_2_ok : CodeOk Try.prog code_l_suturelaw12_ValueTells_2 := codeOk_loops code_suturelaw12_ValueTells_ok _ (getD_mem (by kernel_rfl))
def l_suturelaw12_ValueTells_2_K (k : Int × Int × Int × Int × Int → Option (((Bool) ⊕ Unit))) : Ex → SEnv → Sig → Option (((Bool) ⊕ Unit)) := fun x E sg => match x with
  | .normal => Option.bind (V.intOf .i64 (SEnv.at E 0)) fun u0 => Option.bind (V.intOf .i64 (SEnv.at E 1)) fun u1 => Option.bind (V.aggN 2 (SEnv.at E 17)) fun u2 => Option.bind (V.intOf .i64 (u2.getD 0 .any)) fun u3 => Option.bind (V.intOf .i64 (u2.getD 1 .any)) fun u4 => Option.bind (V.intOf .i64 (SEnv.at E 18)) fun u5 => k (u0, u1, u3, u4, u5)
  | .ret => Option.bind (V.boolOf (SEnv.at E 6)) fun u0 => some (Sum.inl u0)
  | (.exit 0) => some (Sum.inr ())
  | _ => none
theorem l_suturelaw12_ValueTells_2_eq (n : Nat) (k : Int × Int × Int × Int × Int → Option (((Bool) ⊕ Unit))) (s0 : Int) (s1 : Int) (s2 : Int) (s3 : Int) (s4 : Int) : mX Try.prog (sp_suturelaw12_ValueTells n) 56 code_l_suturelaw12_ValueTells_2 [(0, (V.t (T.sc (.int .i64 s0)))), (1, (V.t (T.sc (.int .i64 s1)))), (17, (V.agg [(V.t (T.sc (.int .i64 s2))), (V.t (T.sc (.int .i64 s3)))])), (18, (V.t (T.sc (.int .i64 s4))))] [] (l_suturelaw12_ValueTells_2_K k) = l_suturelaw12_ValueTells_2_B n k (s0, s1, s2, s3, s4) := by kernel_rfl
def l_suturelaw12_ValueTells_2_Q (x : ((Bool) ⊕ Unit)) (ex : Ex) (e : Env) (s : Sig) : Prop := Sum.elim (fun p0 => (ex = .ret ∧ e = SEnv.env 56 [(6, (V.t (T.sc (.bool p0))))] ∧ s = [])) (fun x' => (fun p1 => (ex = (.exit 0) ∧ e = SEnv.env 56 [] ∧ s = [])) x') x
theorem l_suturelaw12_ValueTells_2_run (n : Nat) : ∀ (m : Nat) (s0 : Int) (s1 : Int) (s2 : Int) (s3 : Int) (s4 : Int) (x : ((Bool) ⊕ Unit)), l_suturelaw12_ValueTells_2 n m (s0, s1, s2, s3, s4) = some x → SemL Try.prog 0 code_l_suturelaw12_ValueTells_2 (SEnv.env 56 [(0, (V.t (T.sc (.int .i64 s0)))), (1, (V.t (T.sc (.int .i64 s1)))), (17, (V.agg [(V.t (T.sc (.int .i64 s2))), (V.t (T.sc (.int .i64 s3)))])), (18, (V.t (T.sc (.int .i64 s4))))]) [] (l_suturelaw12_ValueTells_2_Q x)
  | 0, s0, s1, s2, s3, s4, x, h => by cases h
  | m + 1, s0, s1, s2, s3, s4, x, h => by
    refine loop_step (sp_suturelaw12_ValueTells_ok n) code_l_suturelaw12_ValueTells_2_ok (fun a ha => absurd ha (by rw [show loopsOf code_l_suturelaw12_ValueTells_2 = [] from by kernel_rfl]; simp)) ((l_suturelaw12_ValueTells_2_eq n _ s0 s1 s2 s3 s4).trans h) (fun E sg h => ?_) (fun ex E sg hne h => ?_)
    · simp only [l_suturelaw12_ValueTells_2_K] at h
      obtain ⟨u0, hu0, h⟩ := Option.bind_eq_some_iff.1 h
      obtain ⟨u1, hu1, h⟩ := Option.bind_eq_some_iff.1 h
      obtain ⟨u2, hu2, h⟩ := Option.bind_eq_some_iff.1 h
      obtain ⟨u3, hu3, h⟩ := Option.bind_eq_some_iff.1 h
      obtain ⟨u4, hu4, h⟩ := Option.bind_eq_some_iff.1 h
      obtain ⟨u5, hu5, h⟩ := Option.bind_eq_some_iff.1 h
      exact SemL.pre (k := 0) (Nat.zero_le _) (WkA.env (WkA.cons (intOf_wk hu0) rfl (WkA.cons (intOf_wk hu1) rfl (WkA.cons (aggN_wk hu2 (.cons (intOf_wk hu3) (.cons (intOf_wk hu4) .nil))) rfl (WkA.cons (intOf_wk hu5) rfl WkA.nil)))) 56) (WkS.none _) (l_suturelaw12_ValueTells_2_run n m _ _ _ _ _ x h)
    · unfold l_suturelaw12_ValueTells_2_K at h
      split at h
      · exact absurd rfl hne
      · obtain ⟨u0, hu0, h⟩ := Option.bind_eq_some_iff.1 h
        simp only [Option.some.injEq] at h
        subst h
        exact ⟨0, _, _, Nat.zero_le _, WkA.env (WkA.cons (boolOf_wk hu0) rfl WkA.nil) 56, (WkS.none _), rfl, rfl, rfl⟩
      · simp only [Option.some.injEq] at h
        subst h
        exact ⟨0, _, _, Nat.zero_le _, WkA.env WkA.nil 56, (WkS.none _), rfl, rfl, rfl⟩
      · cases h
theorem l_suturelaw12_ValueTells_2_ok (n : Nat) : LoopOk Try.prog (sp_suturelaw12_ValueTells n) 0 56 code_l_suturelaw12_ValueTells_2 := by
    intro R key E sg K r hk h
    rw [show Go.Eng.keyOf code_l_suturelaw12_ValueTells_2 = some 2 from by kernel_rfl] at hk
    cases hk
    have h : l_suturelaw12_ValueTells_2_S n R E sg K = some r := h
    unfold l_suturelaw12_ValueTells_2_S at h
    obtain ⟨u0, hu0, h⟩ := Option.bind_eq_some_iff.1 h
    obtain ⟨u1, hu1, h⟩ := Option.bind_eq_some_iff.1 h
    obtain ⟨u2, hu2, h⟩ := Option.bind_eq_some_iff.1 h
    obtain ⟨u3, hu3, h⟩ := Option.bind_eq_some_iff.1 h
    obtain ⟨u4, hu4, h⟩ := Option.bind_eq_some_iff.1 h
    obtain ⟨u5, hu5, h⟩ := Option.bind_eq_some_iff.1 h
    obtain ⟨x, hx, h⟩ := Option.bind_eq_some_iff.1 h
    refine (SemL.pre (k := 0) (Nat.zero_le _) (WkA.env (WkA.cons (intOf_wk hu0) rfl (WkA.cons (intOf_wk hu1) rfl (WkA.cons (aggN_wk hu2 (.cons (intOf_wk hu3) (.cons (intOf_wk hu4) .nil))) rfl (WkA.cons (intOf_wk hu5) rfl WkA.nil)))) 56) (WkS.none _) (l_suturelaw12_ValueTells_2_run n n _ _ _ _ _ x hx)).mono ?_
    intro ex e s hq
    rcases x with x | x <;> (obtain ⟨rfl, rfl, rfl⟩ := hq; exact ⟨_, rfl, h⟩) -- 5
def K_suturelaw12_ValueTells (v : V) (s : Sig) : Option (Bool) := Option.bind (V.boolOf v) fun u0 => some u0
theorem K_suturelaw12_ValueTells_wk {v : V} {s : Sig} {r : Bool} (h : K_suturelaw12_ValueTells v s = some r) : Wk v (enc_suturelaw12_ValueTells r) := by
  unfold K_suturelaw12_ValueTells at h
  obtain ⟨u0, hu0, h⟩ := Option.bind_eq_some_iff.1 h
  simp only [Option.some.injEq] at h
  subst h
  exact (boolOf_wk hu0)
theorem m_suturelaw12_ValueTells_eq (n : Nat) (a0 : Int) (a1 : Int) (a2 : Int) : mF Try.prog (sp_suturelaw12_ValueTells n) 4 [(V.t (T.sc (.int .i64 a0))), (V.t (T.sc (.int .i64 a1))), (V.t (T.sc (.int .i64 a2)))] [] K_suturelaw12_ValueTells = m_suturelaw12_ValueTells n a0 a1 a2 := by kernel_rfl
theorem m_suturelaw12_ValueTells_ok (n : Nat) : ok_suturelaw12_ValueTells (m_suturelaw12_ValueTells n) := fun a0 a1 a2 r h => mF_ok sound (sp_suturelaw12_ValueTells_ok n) code_suturelaw12_ValueTells_fn code_suturelaw12_ValueTells_body (forall_getD (d := .skip) 1 (by kernel_rfl) (fun i hi => match i, hi with | 0, _ => l_suturelaw12_ValueTells_2_ok n | i + 1, hi => absurd hi (by omega))) ((m_suturelaw12_ValueTells_eq n a0 a1 a2).trans h) (fun v s hk => ⟨K_suturelaw12_ValueTells_wk hk, rfl, WkS.none _⟩)


/-! suture/suturelaw12.op -/
def m_suturelaw12_op (n : Nat) (a0 : Int) (a1 : Int) (a2 : Int) : Option (Int) :=
Option.bind (m_value_Op n a0 a1 a2) fun r0 =>
some r0.1
def enc_suturelaw12_op (r : Int) : V := (V.t (T.sc (.int .i64 r)))
def ok_suturelaw12_op (m : Int → Int → Int → Option (Int)) : Prop := ∀ (a0 : Int) (a1 : Int) (a2 : Int) (r : Int), m a0 a1 a2 = some r → FuncOk Try.prog 14 [(V.t (T.sc (.int .i64 a0))), (V.t (T.sc (.int .i64 a1))), (V.t (T.sc (.int .i64 a2)))] [] (enc_suturelaw12_op r) []
def c_suturelaw12_op (m : Int → Int → Int → Option (Int)) (vs : List V) (sg : Sig) : Option CallM := bif Nat.beq vs.length 3 && sg.isEmpty then Option.bind (V.intOf .i64 (vs.getD 0 .any)) fun u0 => Option.bind (V.intOf .i64 (vs.getD 1 .any)) fun u1 => Option.bind (V.intOf .i64 (vs.getD 2 .any)) fun u2 => some { α := Int, m := m u0 u1 u2, dflt := 0, enc := fun y => ((V.t (T.sc (.int .i64 y))), []) } else none
theorem c_suturelaw12_op_ok (m : Int → Int → Int → Option (Int)) (hm : ok_suturelaw12_op m) (vs : List V) (sg : Sig) (cm : CallM) (x : cm.α) (h : c_suturelaw12_op m vs sg = some cm) (hx : cm.m = some x) : FuncOk Try.prog 14 vs sg (cm.enc x).1 (cm.enc x).2 := by
  unfold c_suturelaw12_op at h
  have h0 := callee_if h
  clear h
  obtain ⟨hl, hs, h⟩ := h0
  subst hs
  obtain ⟨u0, hu0, h⟩ := Option.bind_eq_some_iff.1 h
  obtain ⟨u1, hu1, h⟩ := Option.bind_eq_some_iff.1 h
  obtain ⟨u2, hu2, h⟩ := Option.bind_eq_some_iff.1 h
  simp only [Option.some.injEq] at h
  subst h
  exact (hm u0 u1 u2 x hx).wk (args_wk hl (.cons (intOf_wk hu0) (.cons (intOf_wk hu1) (.cons (intOf_wk hu2) .nil)))) WkSg.nil
noncomputable def code_suturelaw12_op : Code := Try.f14.body.getD .skip
noncomputable def sp_suturelaw12_op (n : Nat) : Go.Eng.Spec := ⟨fun f vs sg => (match f with
    | 7 => c_value_Op (m_value_Op n) vs sg
    | _ => none), fun R key E sg K => (match key with
    | _ => none)⟩
theorem sp_suturelaw12_op_ok (n : Nat) : CallsOk Try.prog (sp_suturelaw12_op n) := by
  intro f vs sg cm x h hx
  simp only [sp_suturelaw12_op] at h
  split at h
  · exact c_value_Op_ok _ (m_value_Op_ok n) vs sg cm x h hx
  · cases h
theorem code_suturelaw12_op_fn : Try.prog.funcs[14]? = some Try.f14 := Try.func14
theorem code_suturelaw12_op_body : Try.f14.body = some code_suturelaw12_op := by kernel_rfl
theorem code_suturelaw12_op_ok : CodeOk Try.prog code_suturelaw12_op := (sound 14 _ _ code_suturelaw12_op_fn code_suturelaw12_op_body).1
def K_suturelaw12_op (v : V) (s : Sig) : Option (Int) := Option.bind (V.intOf .i64 v) fun u0 => some u0
theorem K_suturelaw12_op_wk {v : V} {s : Sig} {r : Int} (h : K_suturelaw12_op v s = some r) : Wk v (enc_suturelaw12_op r) := by
  unfold K_suturelaw12_op at h
  obtain ⟨u0, hu0, h⟩ := Option.bind_eq_some_iff.1 h
  simp only [Option.some.injEq] at h
  subst h
  exact (intOf_wk hu0)
theorem m_suturelaw12_op_eq (n : Nat) (a0 : Int) (a1 : Int) (a2 : Int) : mF Try.prog (sp_suturelaw12_op n) 14 [(V.t (T.sc (.int .i64 a0))), (V.t (T.sc (.int .i64 a1))), (V.t (T.sc (.int .i64 a2)))] [] K_suturelaw12_op = m_suturelaw12_op n a0 a1 a2 := by kernel_rfl
theorem m_suturelaw12_op_ok (n : Nat) : ok_suturelaw12_op (m_suturelaw12_op n) := fun a0 a1 a2 r h => mF_ok sound (sp_suturelaw12_op_ok n) code_suturelaw12_op_fn code_suturelaw12_op_body (fun a ha => absurd ha (by rw [show loopsOf code_suturelaw12_op = [] from by kernel_rfl]; simp)) ((m_suturelaw12_op_eq n a0 a1 a2).trans h) (fun v s hk => ⟨K_suturelaw12_op_wk hk, rfl, WkS.none _⟩)


/-! suture/suturelaw12.ValueSides -/
def m_suturelaw12_ValueSides (n : Nat) (a0 : Int) (a1 : Int) (a2 : Int) : Option (Bool) :=
Option.bind (m_suturelaw12_num n a0) fun r0 =>
Option.bind (m_suturelaw12_num n a1) fun r1 =>
Option.bind (m_suturelaw12_num n a2) fun r2 =>
Option.bind (m_value_Op n 8 r0 r1) fun r3 =>
bif (bif r3.2 then (bif (bif (bif (bif (decide ((r3.1 : Int) < 0)) then (decide ((r0 : Int) ≥ 0)) else false) then true else (bif (decide ((r3.1 : Int) > 0)) then (decide ((r0 : Int) ≤ 0)) else false)) then true else (bif (decide ((r1 : Int) > 0)) then (bif (decide ((r3.1 : Int) ≥ r1)) then true else (decide (((IntKind.wrap .i64 (0 - r3.1)) : Int) ≥ r1))) else false)) then true else (bif (bif (decide ((r1 : Int) < 0)) then (decide ((r1 : Int) > (-9223372036854775808))) else false) then (bif (decide ((r3.1 : Int) ≥ (IntKind.wrap .i64 (0 - r1)))) then true else (decide (((IntKind.wrap .i64 (0 - r3.1)) : Int) ≥ (IntKind.wrap .i64 (0 - r1))))) else false)) else false) then (
some false)
else (
Option.bind (m_suturelaw12_known n) fun r4 =>
Option.bind (bif r4 then m_suturelaw12_op n 9 r0 r1 else some 0) fun r5 =>
Option.bind (bif (r4 && !((r5 : Int) == 0)) then m_suturelaw12_op n 9 r1 r2 else some 0) fun r6 =>
Option.bind (bif (r4 && !(bif ((r5 : Int) == 0) then true else ((r6 : Int) == 0))) then m_suturelaw12_op n 9 r0 r2 else some 0) fun r7 =>
Option.bind (bif (bif r4 then (bif (bif ((r5 : Int) == 0) then true else ((r6 : Int) == 0)) then true else ((r7 : Int) == 1)) else false) then m_suturelaw12_op n 10 r0 r1 else some 0) fun r8 =>
Option.bind (bif (bif (bif r4 then (bif (bif ((r5 : Int) == 0) then true else ((r6 : Int) == 0)) then true else ((r7 : Int) == 1)) else false) then (((r8 : Int) == 1) == ((r0 : Int) == r1)) else false) then m_suturelaw12_op n 9 r0 r1 else some 0) fun r9 =>
some (bif (bif (bif r4 then (bif (bif ((r5 : Int) == 0) then true else ((r6 : Int) == 0)) then true else ((r7 : Int) == 1)) else false) then (((r8 : Int) == 1) == ((r0 : Int) == r1)) else false) then (((r9 : Int) == 1) == (decide ((r0 : Int) < r1))) else false))
def enc_suturelaw12_ValueSides (r : Bool) : V := (V.t (T.sc (.bool r)))
def ok_suturelaw12_ValueSides (m : Int → Int → Int → Option (Bool)) : Prop := ∀ (a0 : Int) (a1 : Int) (a2 : Int) (r : Bool), m a0 a1 a2 = some r → FuncOk Try.prog 6 [(V.t (T.sc (.int .i64 a0))), (V.t (T.sc (.int .i64 a1))), (V.t (T.sc (.int .i64 a2)))] [] (enc_suturelaw12_ValueSides r) []
def c_suturelaw12_ValueSides (m : Int → Int → Int → Option (Bool)) (vs : List V) (sg : Sig) : Option CallM := bif Nat.beq vs.length 3 && sg.isEmpty then Option.bind (V.intOf .i64 (vs.getD 0 .any)) fun u0 => Option.bind (V.intOf .i64 (vs.getD 1 .any)) fun u1 => Option.bind (V.intOf .i64 (vs.getD 2 .any)) fun u2 => some { α := Bool, m := m u0 u1 u2, dflt := false, enc := fun y => ((V.t (T.sc (.bool y))), []) } else none
theorem c_suturelaw12_ValueSides_ok (m : Int → Int → Int → Option (Bool)) (hm : ok_suturelaw12_ValueSides m) (vs : List V) (sg : Sig) (cm : CallM) (x : cm.α) (h : c_suturelaw12_ValueSides m vs sg = some cm) (hx : cm.m = some x) : FuncOk Try.prog 6 vs sg (cm.enc x).1 (cm.enc x).2 := by
  unfold c_suturelaw12_ValueSides at h
  have h0 := callee_if h
  clear h
  obtain ⟨hl, hs, h⟩ := h0
  subst hs
  obtain ⟨u0, hu0, h⟩ := Option.bind_eq_some_iff.1 h
  obtain ⟨u1, hu1, h⟩ := Option.bind_eq_some_iff.1 h
  obtain ⟨u2, hu2, h⟩ := Option.bind_eq_some_iff.1 h
  simp only [Option.some.injEq] at h
  subst h
  exact (hm u0 u1 u2 x hx).wk (args_wk hl (.cons (intOf_wk hu0) (.cons (intOf_wk hu1) (.cons (intOf_wk hu2) .nil)))) WkSg.nil
noncomputable def code_suturelaw12_ValueSides : Code := Try.f6.body.getD .skip
noncomputable def sp_suturelaw12_ValueSides (n : Nat) : Go.Eng.Spec := ⟨fun f vs sg => (match f with
    | 11 => c_suturelaw12_num (m_suturelaw12_num n) vs sg
    | 7 => c_value_Op (m_value_Op n) vs sg
    | 8 => c_suturelaw12_known (m_suturelaw12_known n) vs sg
    | 14 => c_suturelaw12_op (m_suturelaw12_op n) vs sg
    | _ => none), fun R key E sg K => (match key with
    | _ => none)⟩
theorem sp_suturelaw12_ValueSides_ok (n : Nat) : CallsOk Try.prog (sp_suturelaw12_ValueSides n) := by
  intro f vs sg cm x h hx
  simp only [sp_suturelaw12_ValueSides] at h
  split at h
  · exact c_suturelaw12_num_ok _ (m_suturelaw12_num_ok n) vs sg cm x h hx
  · exact c_value_Op_ok _ (m_value_Op_ok n) vs sg cm x h hx
  · exact c_suturelaw12_known_ok _ (m_suturelaw12_known_ok n) vs sg cm x h hx
  · exact c_suturelaw12_op_ok _ (m_suturelaw12_op_ok n) vs sg cm x h hx
  · cases h
theorem code_suturelaw12_ValueSides_fn : Try.prog.funcs[6]? = some Try.f6 := Try.func6
theorem code_suturelaw12_ValueSides_body : Try.f6.body = some code_suturelaw12_ValueSides := by kernel_rfl
theorem code_suturelaw12_ValueSides_ok : CodeOk Try.prog code_suturelaw12_ValueSides := (sound 6 _ _ code_suturelaw12_ValueSides_fn code_suturelaw12_ValueSides_body).1
def K_suturelaw12_ValueSides (v : V) (s : Sig) : Option (Bool) := Option.bind (V.boolOf v) fun u0 => some u0
theorem K_suturelaw12_ValueSides_wk {v : V} {s : Sig} {r : Bool} (h : K_suturelaw12_ValueSides v s = some r) : Wk v (enc_suturelaw12_ValueSides r) := by
  unfold K_suturelaw12_ValueSides at h
  obtain ⟨u0, hu0, h⟩ := Option.bind_eq_some_iff.1 h
  simp only [Option.some.injEq] at h
  subst h
  exact (boolOf_wk hu0)
theorem m_suturelaw12_ValueSides_eq (n : Nat) (a0 : Int) (a1 : Int) (a2 : Int) : mF Try.prog (sp_suturelaw12_ValueSides n) 6 [(V.t (T.sc (.int .i64 a0))), (V.t (T.sc (.int .i64 a1))), (V.t (T.sc (.int .i64 a2)))] [] K_suturelaw12_ValueSides = m_suturelaw12_ValueSides n a0 a1 a2 := by kernel_rfl
theorem m_suturelaw12_ValueSides_ok (n : Nat) : ok_suturelaw12_ValueSides (m_suturelaw12_ValueSides n) := fun a0 a1 a2 r h => mF_ok sound (sp_suturelaw12_ValueSides_ok n) code_suturelaw12_ValueSides_fn code_suturelaw12_ValueSides_body (fun a ha => absurd ha (by rw [show loopsOf code_suturelaw12_ValueSides = [] from by kernel_rfl]; simp)) ((m_suturelaw12_ValueSides_eq n a0 a1 a2).trans h) (fun v s hk => ⟨K_suturelaw12_ValueSides_wk hk, rfl, WkS.none _⟩)

end Go.Proofs.Ytgpokdaacbjimaa.W
