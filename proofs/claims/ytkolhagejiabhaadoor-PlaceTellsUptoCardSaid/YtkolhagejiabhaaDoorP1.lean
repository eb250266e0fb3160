import Derived.Test.YtkolhagejiabhaaDoorExt
namespace Go.Proofs.YtkolhagejiabhaaDoor.W
open Go Go.Eng
set_option linter.unusedVariables false
set_option linter.unusedSimpArgs false
set_option maxRecDepth 100000

/-! suture/suturehand.Pick -/
def m_suturehand_Pick (n : Nat) (a0 : Int) (a1 : Int) : Option (Int) :=
must true (!decide (a1 = 0)) (bif (decide (((Int.tmod a0 a1) : Int) < 0)) then (
some (IntKind.wrap .i64 ((Int.tmod a0 a1) + a1)))
else (
some (Int.tmod a0 a1)))
def enc_suturehand_Pick (r : Int) : V := (V.t (T.sc (.int .i64 r)))
def encS_suturehand_Pick (r : Int) : Sig := []
def ok_suturehand_Pick (m : Int → Int → Option (Int)) : Prop := ∀ (a0 : Int) (a1 : Int) (r : Int), m a0 a1 = some r → FuncOk Tryd.prog 14 [(V.t (T.sc (.int .i64 a0))), (V.t (T.sc (.int .i64 a1)))] [] (enc_suturehand_Pick r) (encS_suturehand_Pick r)
def c_suturehand_Pick (m : Int → Int → Option (Int)) (vs : List V) (sg : Sig) : Option CallM := bif Nat.beq vs.length 2 && Nat.beq sg.length 0 then Option.bind (V.intOf .i64 (vs.getD 0 .any)) fun u0 => Option.bind (V.intOf .i64 (vs.getD 1 .any)) fun u1 => some { α := Int, m := m u0 u1, dflt := 0, enc := fun y => ((V.t (T.sc (.int .i64 y))), []) } else none
theorem c_suturehand_Pick_ok (m : Int → Int → Option (Int)) (hm : ok_suturehand_Pick m) (vs : List V) (sg : Sig) (cm : CallM) (x : cm.α) (h : c_suturehand_Pick m vs sg = some cm) (hx : cm.m = some x) : FuncOk Tryd.prog 14 vs sg (cm.enc x).1 (cm.enc x).2 := by
  unfold c_suturehand_Pick at h
  have h0 := callee_sig h
  clear h
  obtain ⟨hl, hs, h⟩ := h0
  obtain ⟨u0, hu0, h⟩ := Option.bind_eq_some_iff.1 h
  obtain ⟨u1, hu1, h⟩ := Option.bind_eq_some_iff.1 h
  simp only [Option.some.injEq] at h
  subst h
  exact (hm u0 u1 x hx).wk (args_wk hl (.cons (intOf_wk hu0) (.cons (intOf_wk hu1) .nil))) (wkSg_of hs .nil)
noncomputable def code_suturehand_Pick : Code := Tryd.f14.body.getD .skip
noncomputable def sp_suturehand_Pick (n : Nat) : Go.Eng.Spec := ⟨fun f vs sg => (match f with
    | _ => none), fun R key E sg K => (match key with
    | _ => none)⟩
theorem sp_suturehand_Pick_ok (n : Nat) : CallsOk Tryd.prog (sp_suturehand_Pick n) := by
  intro f vs sg cm x h hx
  have h : (none : Option CallM) = some cm := h
  cases h
theorem code_suturehand_Pick_fn : Tryd.prog.funcs[14]? = some Tryd.f14 := Tryd.func14
theorem code_suturehand_Pick_body : Tryd.f14.body = some code_suturehand_Pick := by kernel_rfl
theorem code_suturehand_Pick_ok : CodeOk Tryd.prog code_suturehand_Pick := (sound 14 _ _ code_suturehand_Pick_fn code_suturehand_Pick_body).1
def K_suturehand_Pick (v : V) (s : Sig) : Option (Int) := Option.bind (V.intOf .i64 v) fun u0 => some u0
theorem K_suturehand_Pick_wk {v : V} {s : Sig} {r : Int} (h : K_suturehand_Pick v s = some r) : Wk v (enc_suturehand_Pick r) ∧ WkS 0 s (encS_suturehand_Pick r) := by
  unfold K_suturehand_Pick at h
  obtain ⟨u0, hu0, h⟩ := Option.bind_eq_some_iff.1 h
  simp only [Option.some.injEq] at h
  subst h
  exact ⟨(intOf_wk hu0), (WkS.none _)⟩
theorem m_suturehand_Pick_eq (n : Nat) (a0 : Int) (a1 : Int) : mF Tryd.prog (sp_suturehand_Pick n) 14 [(V.t (T.sc (.int .i64 a0))), (V.t (T.sc (.int .i64 a1)))] [] K_suturehand_Pick = m_suturehand_Pick n a0 a1 := by kernel_rfl
theorem m_suturehand_Pick_ok (n : Nat) : ok_suturehand_Pick (m_suturehand_Pick n) := fun a0 a1 r h => mF_ok sound (sp_suturehand_Pick_ok n) code_suturehand_Pick_fn code_suturehand_Pick_body (fun a ha => absurd ha (by rw [show loopsOf code_suturehand_Pick = [] from by kernel_rfl]; simp)) ((m_suturehand_Pick_eq n a0 a1).trans h) (fun v s hk => ⟨(K_suturehand_Pick_wk hk).1, rfl, (K_suturehand_Pick_wk hk).2⟩)


/-! strings.Count: from elsewhere -/
def m_strings_Count (n : Nat) (a0 : ByteArray) (a1 : ByteArray) : Option (Int) := cntM a0 a1
def enc_strings_Count (r : Int) : V := (V.t (T.sc (.int .i64 r)))
def encS_strings_Count (r : Int) : Sig := []
def ok_strings_Count (m : ByteArray → ByteArray → Option (Int)) : Prop := ∀ (a0 : ByteArray) (a1 : ByteArray) (r : Int), m a0 a1 = some r → FuncOk Tryd.prog 32 [(V.t (T.sc (.string a0))), (V.t (T.sc (.string a1)))] [] (enc_strings_Count r) (encS_strings_Count r)
def c_strings_Count (m : ByteArray → ByteArray → Option (Int)) (vs : List V) (sg : Sig) : Option CallM := bif Nat.beq vs.length 2 && Nat.beq sg.length 0 then Option.bind (V.strOf (vs.getD 0 .any)) fun u0 => Option.bind (V.strOf (vs.getD 1 .any)) fun u1 => some { α := Int, m := m u0 u1, dflt := 0, enc := fun y => ((V.t (T.sc (.int .i64 y))), []) } else none
theorem c_strings_Count_ok (m : ByteArray → ByteArray → Option (Int)) (hm : ok_strings_Count m) (vs : List V) (sg : Sig) (cm : CallM) (x : cm.α) (h : c_strings_Count m vs sg = some cm) (hx : cm.m = some x) : FuncOk Tryd.prog 32 vs sg (cm.enc x).1 (cm.enc x).2 := by
  unfold c_strings_Count at h
  have h0 := callee_sig h
  clear h
  obtain ⟨hl, hs, h⟩ := h0
  obtain ⟨u0, hu0, h⟩ := Option.bind_eq_some_iff.1 h
  obtain ⟨u1, hu1, h⟩ := Option.bind_eq_some_iff.1 h
  simp only [Option.some.injEq] at h
  subst h
  exact (hm u0 u1 x hx).wk (args_wk hl (.cons (strOf_wk hu0) (.cons (strOf_wk hu1) .nil))) (wkSg_of hs .nil)
theorem m_strings_Count_ok (n : Nat) : ok_strings_Count (m_strings_Count n) := fun a0 a1 r h => x_strings_Count h


/-! strings.LastIndexByte: from elsewhere -/
def m_strings_LastIndexByte (n : Nat) (a0 : ByteArray) (a1 : Int) : Option (Int) := lastM a0 a1
def enc_strings_LastIndexByte (r : Int) : V := (V.t (T.sc (.int .i64 r)))
def encS_strings_LastIndexByte (r : Int) : Sig := []
def ok_strings_LastIndexByte (m : ByteArray → Int → Option (Int)) : Prop := ∀ (a0 : ByteArray) (a1 : Int) (r : Int), m a0 a1 = some r → FuncOk Tryd.prog 33 [(V.t (T.sc (.string a0))), (V.t (T.sc (.int .u8 a1)))] [] (enc_strings_LastIndexByte r) (encS_strings_LastIndexByte r)
def c_strings_LastIndexByte (m : ByteArray → Int → Option (Int)) (vs : List V) (sg : Sig) : Option CallM := bif Nat.beq vs.length 2 && Nat.beq sg.length 0 then Option.bind (V.strOf (vs.getD 0 .any)) fun u0 => Option.bind (V.intOf .u8 (vs.getD 1 .any)) fun u1 => some { α := Int, m := m u0 u1, dflt := 0, enc := fun y => ((V.t (T.sc (.int .i64 y))), []) } else none
theorem c_strings_LastIndexByte_ok (m : ByteArray → Int → Option (Int)) (hm : ok_strings_LastIndexByte m) (vs : List V) (sg : Sig) (cm : CallM) (x : cm.α) (h : c_strings_LastIndexByte m vs sg = some cm) (hx : cm.m = some x) : FuncOk Tryd.prog 33 vs sg (cm.enc x).1 (cm.enc x).2 := by
  unfold c_strings_LastIndexByte at h
  have h0 := callee_sig h
  clear h
  obtain ⟨hl, hs, h⟩ := h0
  obtain ⟨u0, hu0, h⟩ := Option.bind_eq_some_iff.1 h
  obtain ⟨u1, hu1, h⟩ := Option.bind_eq_some_iff.1 h
  simp only [Option.some.injEq] at h
  subst h
  exact (hm u0 u1 x hx).wk (args_wk hl (.cons (strOf_wk hu0) (.cons (intOf_wk hu1) .nil))) (wkSg_of hs .nil)
theorem m_strings_LastIndexByte_ok (n : Nat) : ok_strings_LastIndexByte (m_strings_LastIndexByte n) := fun a0 a1 r h => x_strings_LastIndexByte h


/-! suture/place.Of -/
def m_place_Of (n : Nat) (a0 : ByteArray) (a1 : Int) : Option ((Nat × Nat)) :=
must true (decide (0 ≤ 0) && decide (0 ≤ (if (0 : Int) < (if (((ByteArray.size a0 : Nat) : Int) : Int) < a1 then ((ByteArray.size a0 : Nat) : Int) else a1) then (if (((ByteArray.size a0 : Nat) : Int) : Int) < a1 then ((ByteArray.size a0 : Nat) : Int) else a1) else 0)) && decide ((if (0 : Int) < (if (((ByteArray.size a0 : Nat) : Int) : Int) < a1 then ((ByteArray.size a0 : Nat) : Int) else a1) then (if (((ByteArray.size a0 : Nat) : Int) : Int) < a1 then ((ByteArray.size a0 : Nat) : Int) else a1) else 0) ≤ ((ByteArray.size a0 : Nat) : Int))) (Option.bind (m_strings_Count n (ByteArray.extract a0 (Int.toNat 0) (Int.toNat (if (0 : Int) < (if (((ByteArray.size a0 : Nat) : Int) : Int) < a1 then ((ByteArray.size a0 : Nat) : Int) else a1) then (if (((ByteArray.size a0 : Nat) : Int) : Int) < a1 then ((ByteArray.size a0 : Nat) : Int) else a1) else 0))) (⟨#[10]⟩ : ByteArray)) fun r0 =>
Option.bind (m_strings_LastIndexByte n (ByteArray.extract a0 (Int.toNat 0) (Int.toNat (if (0 : Int) < (if (((ByteArray.size a0 : Nat) : Int) : Int) < a1 then ((ByteArray.size a0 : Nat) : Int) else a1) then (if (((ByteArray.size a0 : Nat) : Int) : Int) < a1 then ((ByteArray.size a0 : Nat) : Int) else a1) else 0))) 10) fun r1 =>
some ((FloatKind.nearest .f64 (IntKind.wrap .i64 (1 + r0))), (FloatKind.nearest .f64 (IntKind.wrap .i64 (((ByteArray.size (ByteArray.extract a0 (Int.toNat 0) (Int.toNat (if (0 : Int) < (if (((ByteArray.size a0 : Nat) : Int) : Int) < a1 then ((ByteArray.size a0 : Nat) : Int) else a1) then (if (((ByteArray.size a0 : Nat) : Int) : Int) < a1 then ((ByteArray.size a0 : Nat) : Int) else a1) else 0))) : Nat) : Int) - r1)))))
def enc_place_Of (r : (Nat × Nat)) : V := (V.t (T.sc (.complex .f64 r.1 r.2)))
def encS_place_Of (r : (Nat × Nat)) : Sig := []
def ok_place_Of (m : ByteArray → Int → Option ((Nat × Nat))) : Prop := ∀ (a0 : ByteArray) (a1 : Int) (r : (Nat × Nat)), m a0 a1 = some r → FuncOk Tryd.prog 15 [(V.t (T.sc (.string a0))), (V.t (T.sc (.int .i64 a1)))] [] (enc_place_Of r) (encS_place_Of r)
def c_place_Of (m : ByteArray → Int → Option ((Nat × Nat))) (vs : List V) (sg : Sig) : Option CallM := bif Nat.beq vs.length 2 && Nat.beq sg.length 0 then Option.bind (V.strOf (vs.getD 0 .any)) fun u0 => Option.bind (V.intOf .i64 (vs.getD 1 .any)) fun u1 => some { α := (Nat × Nat), m := m u0 u1, dflt := (0, 0), enc := fun y => ((V.t (T.sc (.complex .f64 y.1 y.2))), []) } else none
theorem c_place_Of_ok (m : ByteArray → Int → Option ((Nat × Nat))) (hm : ok_place_Of m) (vs : List V) (sg : Sig) (cm : CallM) (x : cm.α) (h : c_place_Of m vs sg = some cm) (hx : cm.m = some x) : FuncOk Tryd.prog 15 vs sg (cm.enc x).1 (cm.enc x).2 := by
  unfold c_place_Of at h
  have h0 := callee_sig h
  clear h
  obtain ⟨hl, hs, h⟩ := h0
  obtain ⟨u0, hu0, h⟩ := Option.bind_eq_some_iff.1 h
  obtain ⟨u1, hu1, h⟩ := Option.bind_eq_some_iff.1 h
  simp only [Option.some.injEq] at h
  subst h
  exact (hm u0 u1 x hx).wk (args_wk hl (.cons (strOf_wk hu0) (.cons (intOf_wk hu1) .nil))) (wkSg_of hs .nil)
noncomputable def code_place_Of : Code := Tryd.f15.body.getD .skip
noncomputable def sp_place_Of (n : Nat) : Go.Eng.Spec := ⟨fun f vs sg => (match f with
    | 32 => c_strings_Count (m_strings_Count n) vs sg
    | 33 => c_strings_LastIndexByte (m_strings_LastIndexByte n) vs sg
    | _ => none), fun R key E sg K => (match key with
    | _ => none)⟩
theorem sp_place_Of_ok (n : Nat) : CallsOk Tryd.prog (sp_place_Of n) := by
  intro f vs sg cm x h hx
  simp only [sp_place_Of] at h
  split at h
  · exact c_strings_Count_ok _ (m_strings_Count_ok n) vs sg cm x h hx
  · exact c_strings_LastIndexByte_ok _ (m_strings_LastIndexByte_ok n) vs sg cm x h hx
  · cases h
theorem code_place_Of_fn : Tryd.prog.funcs[15]? = some Tryd.f15 := Tryd.func15
theorem code_place_Of_body : Tryd.f15.body = some code_place_Of := by kernel_rfl
theorem code_place_Of_ok : CodeOk Tryd.prog code_place_Of := (sound 15 _ _ code_place_Of_fn code_place_Of_body).1
def K_place_Of (v : V) (s : Sig) : Option ((Nat × Nat)) := Option.bind (V.cplxOf .f64 v) fun u0 => some u0
theorem K_place_Of_wk {v : V} {s : Sig} {r : (Nat × Nat)} (h : K_place_Of v s = some r) : Wk v (enc_place_Of r) ∧ WkS 0 s (encS_place_Of r) := by
  unfold K_place_Of at h
  obtain ⟨u0, hu0, h⟩ := Option.bind_eq_some_iff.1 h
  simp only [Option.some.injEq] at h
  subst h
  exact ⟨(cplxOf_wk hu0), (WkS.none _)⟩
theorem m_place_Of_eq (n : Nat) (a0 : ByteArray) (a1 : Int) : mF Tryd.prog (sp_place_Of n) 15 [(V.t (T.sc (.string a0))), (V.t (T.sc (.int .i64 a1)))] [] K_place_Of = m_place_Of n a0 a1 := by kernel_rfl
theorem m_place_Of_ok (n : Nat) : ok_place_Of (m_place_Of n) := fun a0 a1 r h => mF_ok sound (sp_place_Of_ok n) code_place_Of_fn code_place_Of_body (fun a ha => absurd ha (by rw [show loopsOf code_place_Of = [] from by kernel_rfl]; simp)) ((m_place_Of_eq n a0 a1).trans h) (fun v s hk => ⟨(K_place_Of_wk hk).1, rfl, (K_place_Of_wk hk).2⟩)


/-! suture/sutureref1.Within -/
def m_sutureref1_Within (n : Nat) (a0 : Int) (a1 : Int) (a2 : Int) : Option (Int) :=
some (if (a1 : Int) < (if (a0 : Int) < a2 then a0 else a2) then (if (a0 : Int) < a2 then a0 else a2) else a1)
def enc_sutureref1_Within (r : Int) : V := (V.t (T.sc (.int .i64 r)))
def encS_sutureref1_Within (r : Int) : Sig := []
def ok_sutureref1_Within (m : Int → Int → Int → Option (Int)) : Prop := ∀ (a0 : Int) (a1 : Int) (a2 : Int) (r : Int), m a0 a1 a2 = some r → FuncOk Tryd.prog 34 [(V.t (T.sc (.int .i64 a0))), (V.t (T.sc (.int .i64 a1))), (V.t (T.sc (.int .i64 a2)))] [] (enc_sutureref1_Within r) (encS_sutureref1_Within r)
def c_sutureref1_Within (m : Int → Int → Int → Option (Int)) (vs : List V) (sg : Sig) : Option CallM := bif Nat.beq vs.length 3 && Nat.beq sg.length 0 then Option.bind (V.intOf .i64 (vs.getD 0 .any)) fun u0 => Option.bind (V.intOf .i64 (vs.getD 1 .any)) fun u1 => Option.bind (V.intOf .i64 (vs.getD 2 .any)) fun u2 => some { α := Int, m := m u0 u1 u2, dflt := 0, enc := fun y => ((V.t (T.sc (.int .i64 y))), []) } else none
theorem c_sutureref1_Within_ok (m : Int → Int → Int → Option (Int)) (hm : ok_sutureref1_Within m) (vs : List V) (sg : Sig) (cm : CallM) (x : cm.α) (h : c_sutureref1_Within m vs sg = some cm) (hx : cm.m = some x) : FuncOk Tryd.prog 34 vs sg (cm.enc x).1 (cm.enc x).2 := by
  unfold c_sutureref1_Within at h
  have h0 := callee_sig h
  clear h
  obtain ⟨hl, hs, h⟩ := h0
  obtain ⟨u0, hu0, h⟩ := Option.bind_eq_some_iff.1 h
  obtain ⟨u1, hu1, h⟩ := Option.bind_eq_some_iff.1 h
  obtain ⟨u2, hu2, h⟩ := Option.bind_eq_some_iff.1 h
  simp only [Option.some.injEq] at h
  subst h
  exact (hm u0 u1 u2 x hx).wk (args_wk hl (.cons (intOf_wk hu0) (.cons (intOf_wk hu1) (.cons (intOf_wk hu2) .nil)))) (wkSg_of hs .nil)
noncomputable def code_sutureref1_Within : Code := Tryd.f34.body.getD .skip
noncomputable def sp_sutureref1_Within (n : Nat) : Go.Eng.Spec := ⟨fun f vs sg => (match f with
    | _ => none), fun R key E sg K => (match key with
    | _ => none)⟩
theorem sp_sutureref1_Within_ok (n : Nat) : CallsOk Tryd.prog (sp_sutureref1_Within n) := by
  intro f vs sg cm x h hx
  have h : (none : Option CallM) = some cm := h
  cases h
theorem code_sutureref1_Within_fn : Tryd.prog.funcs[34]? = some Tryd.f34 := Tryd.func34
theorem code_sutureref1_Within_body : Tryd.f34.body = some code_sutureref1_Within := by kernel_rfl
theorem code_sutureref1_Within_ok : CodeOk Tryd.prog code_sutureref1_Within := (sound 34 _ _ code_sutureref1_Within_fn code_sutureref1_Within_body).1
def K_sutureref1_Within (v : V) (s : Sig) : Option (Int) := Option.bind (V.intOf .i64 v) fun u0 => some u0
theorem K_sutureref1_Within_wk {v : V} {s : Sig} {r : Int} (h : K_sutureref1_Within v s = some r) : Wk v (enc_sutureref1_Within r) ∧ WkS 0 s (encS_sutureref1_Within r) := by
  unfold K_sutureref1_Within at h
  obtain ⟨u0, hu0, h⟩ := Option.bind_eq_some_iff.1 h
  simp only [Option.some.injEq] at h
  subst h
  exact ⟨(intOf_wk hu0), (WkS.none _)⟩
theorem m_sutureref1_Within_eq (n : Nat) (a0 : Int) (a1 : Int) (a2 : Int) : mF Tryd.prog (sp_sutureref1_Within n) 34 [(V.t (T.sc (.int .i64 a0))), (V.t (T.sc (.int .i64 a1))), (V.t (T.sc (.int .i64 a2)))] [] K_sutureref1_Within = m_sutureref1_Within n a0 a1 a2 := by kernel_rfl
theorem m_sutureref1_Within_ok (n : Nat) : ok_sutureref1_Within (m_sutureref1_Within n) := fun a0 a1 a2 r h => mF_ok sound (sp_sutureref1_Within_ok n) code_sutureref1_Within_fn code_sutureref1_Within_body (fun a ha => absurd ha (by rw [show loopsOf code_sutureref1_Within = [] from by kernel_rfl]; simp)) ((m_sutureref1_Within_eq n a0 a1 a2).trans h) (fun v s hk => ⟨(K_sutureref1_Within_wk hk).1, rfl, (K_sutureref1_Within_wk hk).2⟩)


/-! suture/sutureref1.Spot -/
def l_sutureref1_Spot_5_B (n : Nat) (k : ByteArray × Int × Int × Int × Int → Option (Int × Int)) : ByteArray × Int × Int × Int × Int → Option (Int × Int) := fun (s0, s1, s2, s3, s4) =>
bif (decide ((s4 : Int) < s1)) then (
Option.bind (bidx true s0 s4) fun b1 =>
bif ((((UInt8.toNat b1 : Nat) : Int) : Int) == 10) then (
k (s0, s1, (IntKind.wrap .i64 (s2 + 1)), 1, (IntKind.wrap .i64 (s4 + 1))))
else (
k (s0, s1, s2, (IntKind.wrap .i64 (s3 + 1)), (IntKind.wrap .i64 (s4 + 1)))))
else (
some (s2, s3))
def l_sutureref1_Spot_5 (n : Nat) : Nat → ByteArray × Int × Int × Int × Int → Option (Int × Int)
  | 0, _ => none
  | m + 1, s => l_sutureref1_Spot_5_B n (l_sutureref1_Spot_5 n m) s
def m_sutureref1_Spot (n : Nat) (a0 : ByteArray) (a1 : Int) : Option (Int × Int) :=
Option.bind (m_sutureref1_Within n a1 0 ((ByteArray.size a0 : Nat) : Int)) fun r0 =>
Option.bind (l_sutureref1_Spot_5 n n (a0, r0, 1, 1, 0)) fun p3 =>
some (p3.1, p3.2)
def enc_sutureref1_Spot (r : Int × Int) : V := (V.tup [(V.t (T.sc (.int .i64 r.1))), (V.t (T.sc (.int .i64 r.2)))])
def encS_sutureref1_Spot (r : Int × Int) : Sig := []
def ok_sutureref1_Spot (m : ByteArray → Int → Option (Int × Int)) : Prop := ∀ (a0 : ByteArray) (a1 : Int) (r : Int × Int), m a0 a1 = some r → FuncOk Tryd.prog 17 [(V.t (T.sc (.string a0))), (V.t (T.sc (.int .i64 a1)))] [] (enc_sutureref1_Spot r) (encS_sutureref1_Spot r)
def c_sutureref1_Spot (m : ByteArray → Int → Option (Int × Int)) (vs : List V) (sg : Sig) : Option CallM := bif Nat.beq vs.length 2 && Nat.beq sg.length 0 then Option.bind (V.strOf (vs.getD 0 .any)) fun u0 => Option.bind (V.intOf .i64 (vs.getD 1 .any)) fun u1 => some { α := Int × Int, m := m u0 u1, dflt := (0, 0), enc := fun y => ((V.tup [(V.t (T.sc (.int .i64 y.1))), (V.t (T.sc (.int .i64 y.2)))]), []) } else none
theorem c_sutureref1_Spot_ok (m : ByteArray → Int → Option (Int × Int)) (hm : ok_sutureref1_Spot m) (vs : List V) (sg : Sig) (cm : CallM) (x : cm.α) (h : c_sutureref1_Spot m vs sg = some cm) (hx : cm.m = some x) : FuncOk Tryd.prog 17 vs sg (cm.enc x).1 (cm.enc x).2 := by
  unfold c_sutureref1_Spot at h
  have h0 := callee_sig h
  clear h
  obtain ⟨hl, hs, h⟩ := h0
  obtain ⟨u0, hu0, h⟩ := Option.bind_eq_some_iff.1 h
  obtain ⟨u1, hu1, h⟩ := Option.bind_eq_some_iff.1 h
  simp only [Option.some.injEq] at h
  subst h
  exact (hm u0 u1 x hx).wk (args_wk hl (.cons (strOf_wk hu0) (.cons (intOf_wk hu1) .nil))) (wkSg_of hs .nil)
noncomputable def code_sutureref1_Spot : Code := Tryd.f17.body.getD .skip
def l_sutureref1_Spot_5_S (n : Nat) (R : Type) (E : SEnv) (sg : Sig) (K : Ex → SEnv → Sig → Option R) : Option R := Option.bind (V.strOf (SEnv.at E 0)) fun u0 => Option.bind (V.intOf .i64 (SEnv.at E 1)) fun u1 => Option.bind (V.intOf .i64 (SEnv.at E 6)) fun u2 => Option.bind (V.intOf .i64 (SEnv.at E 7)) fun u3 => Option.bind (V.intOf .i64 (SEnv.at E 8)) fun u4 => Option.bind (l_sutureref1_Spot_5 n n (u0, u1, u2, u3, u4)) fun p0 => K (.exit 0) [(6, (V.t (T.sc (.int .i64 p0.1)))), (7, (V.t (T.sc (.int .i64 p0.2))))] []
noncomputable def sp_sutureref1_Spot (n : Nat) : Go.Eng.Spec := ⟨fun f vs sg => (match f with
    | 34 => c_sutureref1_Within (m_sutureref1_Within n) vs sg
    | _ => none), fun R key E sg K => (match key with
    | 5 => l_sutureref1_Spot_5_S n R E sg K
    | _ => none)⟩
theorem sp_sutureref1_Spot_ok (n : Nat) : CallsOk Tryd.prog (sp_sutureref1_Spot n) := by
  intro f vs sg cm x h hx
  simp only [sp_sutureref1_Spot] at h
  split at h
  · exact c_sutureref1_Within_ok _ (m_sutureref1_Within_ok n) vs sg cm x h hx
  · cases h
theorem code_sutureref1_Spot_fn : Tryd.prog.funcs[17]? = some Tryd.f17 := Tryd.func17
theorem code_sutureref1_Spot_body : Tryd.f17.body = some code_sutureref1_Spot := by kernel_rfl
theorem code_sutureref1_Spot_ok : CodeOk Tryd.prog code_sutureref1_Spot := (sound 17 _ _ code_sutureref1_Spot_fn code_sutureref1_Spot_body).1
noncomputable def code_l_sutureref1_Spot_5 : Code := (loopsOf code_sutureref1_Spot).getD 0 .skip
theorem code_l_sutureref1_Spot_5_ok : CodeOk Tryd.prog code_l_sutureref1_Spot_5 := codeOk_loops code_sutureref1_Spot_ok _ (getD_mem (by kernel_rfl))
def l_sutureref1_Spot_5_K (k : ByteArray × Int × Int × Int × Int → Option (Int × Int)) : Ex → SEnv → Sig → Option (Int × Int) := fun x E sg => match x with
  | .normal => Option.bind (V.strOf (SEnv.at E 0)) fun u0 => Option.bind (V.intOf .i64 (SEnv.at E 1)) fun u1 => Option.bind (V.intOf .i64 (SEnv.at E 6)) fun u2 => Option.bind (V.intOf .i64 (SEnv.at E 7)) fun u3 => Option.bind (V.intOf .i64 (SEnv.at E 8)) fun u4 => k (u0, u1, u2, u3, u4)
  | (.exit 0) => Option.bind (V.intOf .i64 (SEnv.at E 6)) fun u0 => Option.bind (V.intOf .i64 (SEnv.at E 7)) fun u1 => some (u0, u1)
  | _ => none
theorem l_sutureref1_Spot_5_eq (n : Nat) (k : ByteArray × Int × Int × Int × Int → Option (Int × Int)) (s0 : ByteArray) (s1 : Int) (s2 : Int) (s3 : Int) (s4 : Int) : mX Tryd.prog (sp_sutureref1_Spot n) 28 code_l_sutureref1_Spot_5 [(0, (V.t (T.sc (.string s0)))), (1, (V.t (T.sc (.int .i64 s1)))), (6, (V.t (T.sc (.int .i64 s2)))), (7, (V.t (T.sc (.int .i64 s3)))), (8, (V.t (T.sc (.int .i64 s4))))] [] (l_sutureref1_Spot_5_K k) = l_sutureref1_Spot_5_B n k (s0, s1, s2, s3, s4) := by kernel_rfl
def l_sutureref1_Spot_5_Q (x : Int × Int) (ex : Ex) (e : Env) (s : Sig) : Prop := (fun p0 => (ex = (.exit 0) ∧ e = SEnv.env 28 [(6, (V.t (T.sc (.int .i64 p0.1)))), (7, (V.t (T.sc (.int .i64 p0.2))))] ∧ s = [])) x
theorem l_sutureref1_Spot_5_run (n : Nat) : ∀ (m : Nat) (s0 : ByteArray) (s1 : Int) (s2 : Int) (s3 : Int) (s4 : Int) (x : Int × Int), l_sutureref1_Spot_5 n m (s0, s1, s2, s3, s4) = some x → SemL Tryd.prog 0 code_l_sutureref1_Spot_5 (SEnv.env 28 [(0, (V.t (T.sc (.string s0)))), (1, (V.t (T.sc (.int .i64 s1)))), (6, (V.t (T.sc (.int .i64 s2)))), (7, (V.t (T.sc (.int .i64 s3)))), (8, (V.t (T.sc (.int .i64 s4))))]) [] (l_sutureref1_Spot_5_Q x)
  | 0, s0, s1, s2, s3, s4, x, h => by cases h
  | m + 1, s0, s1, s2, s3, s4, x, h => by
    refine loop_step (sp_sutureref1_Spot_ok n) code_l_sutureref1_Spot_5_ok (fun a ha => absurd ha (by rw [show loopsOf code_l_sutureref1_Spot_5 = [] from by kernel_rfl]; simp)) ((l_sutureref1_Spot_5_eq n _ s0 s1 s2 s3 s4).trans h) (fun E sg h => ?_) (fun ex E sg hne h => ?_)
    · simp only [l_sutureref1_Spot_5_K] at h
      obtain ⟨u0, hu0, h⟩ := Option.bind_eq_some_iff.1 h
      obtain ⟨u1, hu1, h⟩ := Option.bind_eq_some_iff.1 h
      obtain ⟨u2, hu2, h⟩ := Option.bind_eq_some_iff.1 h
      obtain ⟨u3, hu3, h⟩ := Option.bind_eq_some_iff.1 h
      obtain ⟨u4, hu4, h⟩ := Option.bind_eq_some_iff.1 h
      exact SemL.pre (k := 0) (by decide) (WkA.env (WkA.cons (strOf_wk hu0) rfl (WkA.cons (intOf_wk hu1) rfl (WkA.cons (intOf_wk hu2) rfl (WkA.cons (intOf_wk hu3) rfl (WkA.cons (intOf_wk hu4) rfl WkA.nil))))) 28) (WkS.none _) (l_sutureref1_Spot_5_run n m _ _ _ _ _ x h)
    · unfold l_sutureref1_Spot_5_K at h
      split at h
      · exact absurd rfl hne
      · obtain ⟨u0, hu0, h⟩ := Option.bind_eq_some_iff.1 h
        obtain ⟨u1, hu1, h⟩ := Option.bind_eq_some_iff.1 h
        simp only [Option.some.injEq] at h
        subst h
        exact ⟨0, _, _, by decide, WkA.env (WkA.cons (intOf_wk hu0) rfl (WkA.cons (intOf_wk hu1) rfl WkA.nil)) 28, (WkS.none _), rfl, rfl, rfl⟩
      · cases h
theorem l_sutureref1_Spot_5_ok (n : Nat) : LoopOk Tryd.prog (sp_sutureref1_Spot n) 0 28 code_l_sutureref1_Spot_5 := by
    intro R key E sg K r hk h
    rw [show Go.Eng.keyOf code_l_sutureref1_Spot_5 = some 5 from by kernel_rfl] at hk
    cases hk
    have h : l_sutureref1_Spot_5_S n R E sg K = some r := h
    unfold l_sutureref1_Spot_5_S at h
    obtain ⟨u0, hu0, h⟩ := Option.bind_eq_some_iff.1 h
    obtain ⟨u1, hu1, h⟩ := Option.bind_eq_some_iff.1 h
    obtain ⟨u2, hu2, h⟩ := Option.bind_eq_some_iff.1 h
    obtain ⟨u3, hu3, h⟩ := Option.bind_eq_some_iff.1 h
    obtain ⟨u4, hu4, h⟩ := Option.bind_eq_some_iff.1 h
    obtain ⟨x, hx, h⟩ := Option.bind_eq_some_iff.1 h
    refine (SemL.pre (k := 0) (by decide) (WkA.env (WkA.cons (strOf_wk hu0) rfl (WkA.cons (intOf_wk hu1) rfl (WkA.cons (intOf_wk hu2) rfl (WkA.cons (intOf_wk hu3) rfl (WkA.cons (intOf_wk hu4) rfl WkA.nil))))) 28) (WkS.none _) (l_sutureref1_Spot_5_run n n _ _ _ _ _ x hx)).mono ?_
    intro ex e s hq
    obtain ⟨rfl, rfl, rfl⟩ := hq
    exact ⟨_, rfl, h⟩
def K_sutureref1_Spot (v : V) (s : Sig) : Option (Int × Int) := Option.bind (V.tupN 2 v) fun u0 => Option.bind (V.intOf .i64 (u0.getD 0 .any)) fun u1 => Option.bind (V.intOf .i64 (u0.getD 1 .any)) fun u2 => some (u1, u2)
theorem K_sutureref1_Spot_wk {v : V} {s : Sig} {r : Int × Int} (h : K_sutureref1_Spot v s = some r) : Wk v (enc_sutureref1_Spot r) ∧ WkS 0 s (encS_sutureref1_Spot r) := by
  unfold K_sutureref1_Spot at h
  obtain ⟨u0, hu0, h⟩ := Option.bind_eq_some_iff.1 h
  obtain ⟨u1, hu1, h⟩ := Option.bind_eq_some_iff.1 h
  obtain ⟨u2, hu2, h⟩ := Option.bind_eq_some_iff.1 h
  simp only [Option.some.injEq] at h
  subst h
  exact ⟨(tupN_wk hu0 (.cons (intOf_wk hu1) (.cons (intOf_wk hu2) .nil))), (WkS.none _)⟩
theorem m_sutureref1_Spot_eq (n : Nat) (a0 : ByteArray) (a1 : Int) : mF Tryd.prog (sp_sutureref1_Spot n) 17 [(V.t (T.sc (.string a0))), (V.t (T.sc (.int .i64 a1)))] [] K_sutureref1_Spot = m_sutureref1_Spot n a0 a1 := by kernel_rfl
theorem m_sutureref1_Spot_ok (n : Nat) : ok_sutureref1_Spot (m_sutureref1_Spot n) := fun a0 a1 r h => mF_ok sound (sp_sutureref1_Spot_ok n) code_sutureref1_Spot_fn code_sutureref1_Spot_body (forall_getD (d := .skip) 1 (by kernel_rfl) (fun i hi => match i, hi with | 0, _ => l_sutureref1_Spot_5_ok n | i + 1, hi => absurd hi (by omega))) ((m_sutureref1_Spot_eq n a0 a1).trans h) (fun v s hk => ⟨(K_sutureref1_Spot_wk hk).1, rfl, (K_sutureref1_Spot_wk hk).2⟩)


/-! math.IsNaN -/
def m_math_IsNaN (n : Nat) (a0 : Nat) : Option (Bool) :=
some ((Ieee.Format.order (FloatKind.format .f64) a0 a0) != some .eq)
def enc_math_IsNaN (r : Bool) : V := (V.t (T.sc (.bool r)))
def encS_math_IsNaN (r : Bool) : Sig := []
def ok_math_IsNaN (m : Nat → Option (Bool)) : Prop := ∀ (a0 : Nat) (r : Bool), m a0 = some r → FuncOk Tryd.prog 55 [(V.t (T.sc (.float .f64 a0)))] [] (enc_math_IsNaN r) (encS_math_IsNaN r)
def c_math_IsNaN (m : Nat → Option (Bool)) (vs : List V) (sg : Sig) : Option CallM := bif Nat.beq vs.length 1 && Nat.beq sg.length 0 then Option.bind (V.fltOf .f64 (vs.getD 0 .any)) fun u0 => some { α := Bool, m := m u0, dflt := false, enc := fun y => ((V.t (T.sc (.bool y))), []) } else none
theorem c_math_IsNaN_ok (m : Nat → Option (Bool)) (hm : ok_math_IsNaN m) (vs : List V) (sg : Sig) (cm : CallM) (x : cm.α) (h : c_math_IsNaN m vs sg = some cm) (hx : cm.m = some x) : FuncOk Tryd.prog 55 vs sg (cm.enc x).1 (cm.enc x).2 := by
  unfold c_math_IsNaN at h
  have h0 := callee_sig h
  clear h
  obtain ⟨hl, hs, h⟩ := h0
  obtain ⟨u0, hu0, h⟩ := Option.bind_eq_some_iff.1 h
  simp only [Option.some.injEq] at h
  subst h
  exact (hm u0 x hx).wk (args_wk hl (.cons (fltOf_wk hu0) .nil)) (wkSg_of hs .nil)
noncomputable def code_math_IsNaN : Code := Tryd.f55.body.getD .skip
noncomputable def sp_math_IsNaN (n : Nat) : Go.Eng.Spec := ⟨fun f vs sg => (match f with
    | _ => none), fun R key E sg K => (match key with
    | _ => none)⟩
theorem sp_math_IsNaN_ok (n : Nat) : CallsOk Tryd.prog (sp_math_IsNaN n) := by
  intro f vs sg cm x h hx
  have h : (none : Option CallM) = some cm := h
  cases h
theorem code_math_IsNaN_fn : Tryd.prog.funcs[55]? = some Tryd.f55 := Tryd.func55
theorem code_math_IsNaN_body : Tryd.f55.body = some code_math_IsNaN := by kernel_rfl
theorem code_math_IsNaN_ok : CodeOk Tryd.prog code_math_IsNaN := (sound 55 _ _ code_math_IsNaN_fn code_math_IsNaN_body).1
def K_math_IsNaN (v : V) (s : Sig) : Option (Bool) := Option.bind (V.boolOf v) fun u0 => some u0
theorem K_math_IsNaN_wk {v : V} {s : Sig} {r : Bool} (h : K_math_IsNaN v s = some r) : Wk v (enc_math_IsNaN r) ∧ WkS 0 s (encS_math_IsNaN r) := by
  unfold K_math_IsNaN at h
  obtain ⟨u0, hu0, h⟩ := Option.bind_eq_some_iff.1 h
  simp only [Option.some.injEq] at h
  subst h
  exact ⟨(boolOf_wk hu0), (WkS.none _)⟩
theorem m_math_IsNaN_eq (n : Nat) (a0 : Nat) : mF Tryd.prog (sp_math_IsNaN n) 55 [(V.t (T.sc (.float .f64 a0)))] [] K_math_IsNaN = m_math_IsNaN n a0 := by kernel_rfl
theorem m_math_IsNaN_ok (n : Nat) : ok_math_IsNaN (m_math_IsNaN n) := fun a0 r h => mF_ok sound (sp_math_IsNaN_ok n) code_math_IsNaN_fn code_math_IsNaN_body (fun a ha => absurd ha (by rw [show loopsOf code_math_IsNaN = [] from by kernel_rfl]; simp)) ((m_math_IsNaN_eq n a0).trans h) (fun v s hk => ⟨(K_math_IsNaN_wk hk).1, rfl, (K_math_IsNaN_wk hk).2⟩)


/-! suture/place.whole -/
def m_place_whole (n : Nat) (a0 : Nat) : Option (Int) :=
Option.bind (m_math_IsNaN n a0) fun r0 =>
bif r0 then (
some 0)
else (
Option.bind (flo true (flMin .f64 a0 4746794007248502784)) fun q1 =>
Option.bind (flo true (flMax .f64 0 q1)) fun q2 =>
Option.bind (floInt true .f64 q2 .i64) fun i3 =>
some i3)
def enc_place_whole (r : Int) : V := (V.t (T.sc (.int .i64 r)))
def encS_place_whole (r : Int) : Sig := []
def ok_place_whole (m : Nat → Option (Int)) : Prop := ∀ (a0 : Nat) (r : Int), m a0 = some r → FuncOk Tryd.prog 36 [(V.t (T.sc (.float .f64 a0)))] [] (enc_place_whole r) (encS_place_whole r)
def c_place_whole (m : Nat → Option (Int)) (vs : List V) (sg : Sig) : Option CallM := bif Nat.beq vs.length 1 && Nat.beq sg.length 0 then Option.bind (V.fltOf .f64 (vs.getD 0 .any)) fun u0 => some { α := Int, m := m u0, dflt := 0, enc := fun y => ((V.t (T.sc (.int .i64 y))), []) } else none
theorem c_place_whole_ok (m : Nat → Option (Int)) (hm : ok_place_whole m) (vs : List V) (sg : Sig) (cm : CallM) (x : cm.α) (h : c_place_whole m vs sg = some cm) (hx : cm.m = some x) : FuncOk Tryd.prog 36 vs sg (cm.enc x).1 (cm.enc x).2 := by
  unfold c_place_whole at h
  have h0 := callee_sig h
  clear h
  obtain ⟨hl, hs, h⟩ := h0
  obtain ⟨u0, hu0, h⟩ := Option.bind_eq_some_iff.1 h
  simp only [Option.some.injEq] at h
  subst h
  exact (hm u0 x hx).wk (args_wk hl (.cons (fltOf_wk hu0) .nil)) (wkSg_of hs .nil)
noncomputable def code_place_whole : Code := Tryd.f36.body.getD .skip
noncomputable def sp_place_whole (n : Nat) : Go.Eng.Spec := ⟨fun f vs sg => (match f with
    | 55 => c_math_IsNaN (m_math_IsNaN n) vs sg
    | _ => none), fun R key E sg K => (match key with
    | _ => none)⟩
theorem sp_place_whole_ok (n : Nat) : CallsOk Tryd.prog (sp_place_whole n) := by
  intro f vs sg cm x h hx
  simp only [sp_place_whole] at h
  split at h
  · exact c_math_IsNaN_ok _ (m_math_IsNaN_ok n) vs sg cm x h hx
  · cases h
theorem code_place_whole_fn : Tryd.prog.funcs[36]? = some Tryd.f36 := Tryd.func36
theorem code_place_whole_body : Tryd.f36.body = some code_place_whole := by kernel_rfl
theorem code_place_whole_ok : CodeOk Tryd.prog code_place_whole := (sound 36 _ _ code_place_whole_fn code_place_whole_body).1
def K_place_whole (v : V) (s : Sig) : Option (Int) := Option.bind (V.intOf .i64 v) fun u0 => some u0
theorem K_place_whole_wk {v : V} {s : Sig} {r : Int} (h : K_place_whole v s = some r) : Wk v (enc_place_whole r) ∧ WkS 0 s (encS_place_whole r) := by
  unfold K_place_whole at h
  obtain ⟨u0, hu0, h⟩ := Option.bind_eq_some_iff.1 h
  simp only [Option.some.injEq] at h
  subst h
  exact ⟨(intOf_wk hu0), (WkS.none _)⟩
theorem m_place_whole_eq (n : Nat) (a0 : Nat) : mF Tryd.prog (sp_place_whole n) 36 [(V.t (T.sc (.float .f64 a0)))] [] K_place_whole = m_place_whole n a0 := by kernel_rfl
theorem m_place_whole_ok (n : Nat) : ok_place_whole (m_place_whole n) := fun a0 r h => mF_ok sound (sp_place_whole_ok n) code_place_whole_fn code_place_whole_body (fun a ha => absurd ha (by rw [show loopsOf code_place_whole = [] from by kernel_rfl]; simp)) ((m_place_whole_eq n a0).trans h) (fun v s hk => ⟨(K_place_whole_wk hk).1, rfl, (K_place_whole_wk hk).2⟩)


/-! strconv.Itoa: from elsewhere -/
def m_strconv_Itoa (n : Nat) (a0 : Int) : Option (ByteArray) := itoaM a0
def enc_strconv_Itoa (r : ByteArray) : V := (V.t (T.sc (.string r)))
def encS_strconv_Itoa (r : ByteArray) : Sig := []
def ok_strconv_Itoa (m : Int → Option (ByteArray)) : Prop := ∀ (a0 : Int) (r : ByteArray), m a0 = some r → FuncOk Tryd.prog 35 [(V.t (T.sc (.int .i64 a0)))] [] (enc_strconv_Itoa r) (encS_strconv_Itoa r)
def c_strconv_Itoa (m : Int → Option (ByteArray)) (vs : List V) (sg : Sig) : Option CallM := bif Nat.beq vs.length 1 && Nat.beq sg.length 0 then Option.bind (V.intOf .i64 (vs.getD 0 .any)) fun u0 => some { α := ByteArray, m := m u0, dflt := default, enc := fun y => ((V.t (T.sc (.string y))), []) } else none
theorem c_strconv_Itoa_ok (m : Int → Option (ByteArray)) (hm : ok_strconv_Itoa m) (vs : List V) (sg : Sig) (cm : CallM) (x : cm.α) (h : c_strconv_Itoa m vs sg = some cm) (hx : cm.m = some x) : FuncOk Tryd.prog 35 vs sg (cm.enc x).1 (cm.enc x).2 := by
  unfold c_strconv_Itoa at h
  have h0 := callee_sig h
  clear h
  obtain ⟨hl, hs, h⟩ := h0
  obtain ⟨u0, hu0, h⟩ := Option.bind_eq_some_iff.1 h
  simp only [Option.some.injEq] at h
  subst h
  exact (hm u0 x hx).wk (args_wk hl (.cons (intOf_wk hu0) .nil)) (wkSg_of hs .nil)
theorem m_strconv_Itoa_ok (n : Nat) : ok_strconv_Itoa (m_strconv_Itoa n) := fun a0 r h => x_strconv_Itoa h


/-! suture/place.Print -/
def m_place_Print (n : Nat) (a0 : Nat × Nat) : Option (ByteArray) :=
Option.bind (m_place_whole n a0.1) fun r0 =>
Option.bind (m_strconv_Itoa n r0) fun r1 =>
must true (decide (((ByteArray.size r1 + ByteArray.size (⟨#[58]⟩ : ByteArray) : Nat) : Int) ≤ IntKind.i64.max)) (Option.bind (m_place_whole n a0.2) fun r2 =>
Option.bind (m_strconv_Itoa n r2) fun r3 =>
must true (decide (((ByteArray.size (r1 ++ (⟨#[58]⟩ : ByteArray)) + ByteArray.size r3 : Nat) : Int) ≤ IntKind.i64.max)) (some ((r1 ++ (⟨#[58]⟩ : ByteArray)) ++ r3)))
def enc_place_Print (r : ByteArray) : V := (V.t (T.sc (.string r)))
def encS_place_Print (r : ByteArray) : Sig := []
def ok_place_Print (m : Nat × Nat → Option (ByteArray)) : Prop := ∀ (a0 : Nat × Nat) (r : ByteArray), m a0 = some r → FuncOk Tryd.prog 18 [(V.t (T.sc (.complex .f64 a0.1 a0.2)))] [] (enc_place_Print r) (encS_place_Print r)
def c_place_Print (m : Nat × Nat → Option (ByteArray)) (vs : List V) (sg : Sig) : Option CallM := bif Nat.beq vs.length 1 && Nat.beq sg.length 0 then Option.bind (V.cplxOf .f64 (vs.getD 0 .any)) fun u0 => some { α := ByteArray, m := m u0, dflt := default, enc := fun y => ((V.t (T.sc (.string y))), []) } else none
theorem c_place_Print_ok (m : Nat × Nat → Option (ByteArray)) (hm : ok_place_Print m) (vs : List V) (sg : Sig) (cm : CallM) (x : cm.α) (h : c_place_Print m vs sg = some cm) (hx : cm.m = some x) : FuncOk Tryd.prog 18 vs sg (cm.enc x).1 (cm.enc x).2 := by
  unfold c_place_Print at h
  have h0 := callee_sig h
  clear h
  obtain ⟨hl, hs, h⟩ := h0
  obtain ⟨u0, hu0, h⟩ := Option.bind_eq_some_iff.1 h
  simp only [Option.some.injEq] at h
  subst h
  exact (hm u0 x hx).wk (args_wk hl (.cons (cplxOf_wk hu0) .nil)) (wkSg_of hs .nil)
noncomputable def code_place_Print : Code := Tryd.f18.body.getD .skip
noncomputable def sp_place_Print (n : Nat) : Go.Eng.Spec := ⟨fun f vs sg => (match f with
    | 36 => c_place_whole (m_place_whole n) vs sg
    | 35 => c_strconv_Itoa (m_strconv_Itoa n) vs sg
    | _ => none), fun R key E sg K => (match key with
    | _ => none)⟩
theorem sp_place_Print_ok (n : Nat) : CallsOk Tryd.prog (sp_place_Print n) := by
  intro f vs sg cm x h hx
  simp only [sp_place_Print] at h
  split at h
  · exact c_place_whole_ok _ (m_place_whole_ok n) vs sg cm x h hx
  · exact c_strconv_Itoa_ok _ (m_strconv_Itoa_ok n) vs sg cm x h hx
  · cases h
theorem code_place_Print_fn : Tryd.prog.funcs[18]? = some Tryd.f18 := Tryd.func18
theorem code_place_Print_body : Tryd.f18.body = some code_place_Print := by kernel_rfl
theorem code_place_Print_ok : CodeOk Tryd.prog code_place_Print := (sound 18 _ _ code_place_Print_fn code_place_Print_body).1
def K_place_Print (v : V) (s : Sig) : Option (ByteArray) := Option.bind (V.strOf v) fun u0 => some u0
theorem K_place_Print_wk {v : V} {s : Sig} {r : ByteArray} (h : K_place_Print v s = some r) : Wk v (enc_place_Print r) ∧ WkS 0 s (encS_place_Print r) := by
  unfold K_place_Print at h
  obtain ⟨u0, hu0, h⟩ := Option.bind_eq_some_iff.1 h
  simp only [Option.some.injEq] at h
  subst h
  exact ⟨(strOf_wk hu0), (WkS.none _)⟩
theorem m_place_Print_eq (n : Nat) (a0 : Nat × Nat) : mF Tryd.prog (sp_place_Print n) 18 [(V.t (T.sc (.complex .f64 a0.1 a0.2)))] [] K_place_Print = m_place_Print n a0 := by kernel_rfl
theorem m_place_Print_ok (n : Nat) : ok_place_Print (m_place_Print n) := fun a0 r h => mF_ok sound (sp_place_Print_ok n) code_place_Print_fn code_place_Print_body (fun a ha => absurd ha (by rw [show loopsOf code_place_Print = [] from by kernel_rfl]; simp)) ((m_place_Print_eq n a0).trans h) (fun v s hk => ⟨(K_place_Print_wk hk).1, rfl, (K_place_Print_wk hk).2⟩)


/-! sutureref1_Digits: a circle -/
structure B_sutureref1_Digits where
  sutureref1_Digits : Int → Option (ByteArray)
def enc_sutureref1_Digits (r : ByteArray) : V := (V.t (T.sc (.string r)))
def encS_sutureref1_Digits (r : ByteArray) : Sig := []
def ok_sutureref1_Digits (m : Int → Option (ByteArray)) : Prop := ∀ (a0 : Int) (r : ByteArray), m a0 = some r → FuncOk Tryd.prog 19 [(V.t (T.sc (.int .i64 a0)))] [] (enc_sutureref1_Digits r) (encS_sutureref1_Digits r)
def c_sutureref1_Digits (m : Int → Option (ByteArray)) (vs : List V) (sg : Sig) : Option CallM := bif Nat.beq vs.length 1 && Nat.beq sg.length 0 then Option.bind (V.intOf .i64 (vs.getD 0 .any)) fun u0 => some { α := ByteArray, m := m u0, dflt := default, enc := fun y => ((V.t (T.sc (.string y))), []) } else none
theorem c_sutureref1_Digits_ok (m : Int → Option (ByteArray)) (hm : ok_sutureref1_Digits m) (vs : List V) (sg : Sig) (cm : CallM) (x : cm.α) (h : c_sutureref1_Digits m vs sg = some cm) (hx : cm.m = some x) : FuncOk Tryd.prog 19 vs sg (cm.enc x).1 (cm.enc x).2 := by
  unfold c_sutureref1_Digits at h
  have h0 := callee_sig h
  clear h
  obtain ⟨hl, hs, h⟩ := h0
  obtain ⟨u0, hu0, h⟩ := Option.bind_eq_some_iff.1 h
  simp only [Option.some.injEq] at h
  subst h
  exact (hm u0 x hx).wk (args_wk hl (.cons (intOf_wk hu0) .nil)) (wkSg_of hs .nil)
structure B_sutureref1_Digits_ok (b : B_sutureref1_Digits) : Prop where
  sutureref1_Digits : ok_sutureref1_Digits b.sutureref1_Digits

/-! suture/sutureref1.Digits -/
def f_sutureref1_Digits (b : B_sutureref1_Digits) (n : Nat) (a0 : Int) : Option (ByteArray) :=
bif (decide ((a0 : Int) < 10)) then (
Option.bind (bytesIf true [(T.sc (.int .u8 (IntKind.wrap .u8 (IntKind.wrap .i64 (48 + a0)))))]) fun l0 =>
some (ByteArray.mk (List.toArray l0)))
else (
must true (!decide (10 = 0)) (Option.bind (b.sutureref1_Digits (IntKind.wrap .i64 (Int.tdiv a0 10))) fun r1 =>
must true (!decide (10 = 0)) (Option.bind (bytesIf true [(T.sc (.int .u8 (IntKind.wrap .u8 (IntKind.wrap .i64 (48 + (Int.tmod a0 10))))))]) fun l2 =>
must true (decide (((ByteArray.size r1 + ByteArray.size (ByteArray.mk (List.toArray l2)) : Nat) : Int) ≤ IntKind.i64.max)) (some (r1 ++ (ByteArray.mk (List.toArray l2)))))))
noncomputable def code_sutureref1_Digits : Code := Tryd.f19.body.getD .skip
noncomputable def sp_sutureref1_Digits (b : B_sutureref1_Digits) (n : Nat) : Go.Eng.Spec := ⟨fun f vs sg => (match f with
    | 19 => c_sutureref1_Digits b.sutureref1_Digits vs sg
    | _ => none), fun R key E sg K => (match key with
    | _ => none)⟩
theorem sp_sutureref1_Digits_ok (b : B_sutureref1_Digits) (hb : B_sutureref1_Digits_ok b) (n : Nat) : CallsOk Tryd.prog (sp_sutureref1_Digits b n) := by
  intro f vs sg cm x h hx
  simp only [sp_sutureref1_Digits] at h
  split at h
  · exact c_sutureref1_Digits_ok _ hb.sutureref1_Digits vs sg cm x h hx
  · cases h
theorem code_sutureref1_Digits_fn : Tryd.prog.funcs[19]? = some Tryd.f19 := Tryd.func19
theorem code_sutureref1_Digits_body : Tryd.f19.body = some code_sutureref1_Digits := by kernel_rfl
theorem code_sutureref1_Digits_ok : CodeOk Tryd.prog code_sutureref1_Digits := (sound 19 _ _ code_sutureref1_Digits_fn code_sutureref1_Digits_body).1
def K_sutureref1_Digits (v : V) (s : Sig) : Option (ByteArray) := Option.bind (V.strOf v) fun u0 => some u0
theorem K_sutureref1_Digits_wk {v : V} {s : Sig} {r : ByteArray} (h : K_sutureref1_Digits v s = some r) : Wk v (enc_sutureref1_Digits r) ∧ WkS 0 s (encS_sutureref1_Digits r) := by
  unfold K_sutureref1_Digits at h
  obtain ⟨u0, hu0, h⟩ := Option.bind_eq_some_iff.1 h
  simp only [Option.some.injEq] at h
  subst h
  exact ⟨(strOf_wk hu0), (WkS.none _)⟩
theorem f_sutureref1_Digits_eq (b : B_sutureref1_Digits) (n : Nat) (a0 : Int) : mF Tryd.prog (sp_sutureref1_Digits b n) 19 [(V.t (T.sc (.int .i64 a0)))] [] K_sutureref1_Digits = f_sutureref1_Digits b n a0 := by kernel_rfl
theorem f_sutureref1_Digits_ok (b : B_sutureref1_Digits) (hb : B_sutureref1_Digits_ok b) (n : Nat) : ok_sutureref1_Digits (f_sutureref1_Digits b n) := fun a0 r h => mF_ok sound (sp_sutureref1_Digits_ok b hb n) code_sutureref1_Digits_fn code_sutureref1_Digits_body (fun a ha => absurd ha (by rw [show loopsOf code_sutureref1_Digits = [] from by kernel_rfl]; simp)) ((f_sutureref1_Digits_eq b n a0).trans h) (fun v s hk => ⟨(K_sutureref1_Digits_wk hk).1, rfl, (K_sutureref1_Digits_wk hk).2⟩)
def unB_sutureref1_Digits (n : Nat) : Nat → B_sutureref1_Digits
  | 0 => { sutureref1_Digits := fun _ => none }
  | m + 1 => { sutureref1_Digits := f_sutureref1_Digits (unB_sutureref1_Digits n m) n }
theorem unB_sutureref1_Digits_ok (n : Nat) : ∀ m, B_sutureref1_Digits_ok (unB_sutureref1_Digits n m)
  | 0 => { sutureref1_Digits := fun _ _ h => (nomatch (show none = some _ from h)) }
  | m + 1 => { sutureref1_Digits := f_sutureref1_Digits_ok _ (unB_sutureref1_Digits_ok n m) n }
def m_sutureref1_Digits (n : Nat) : Int → Option (ByteArray) := (unB_sutureref1_Digits n n).sutureref1_Digits
theorem m_sutureref1_Digits_ok (n : Nat) : ok_sutureref1_Digits (m_sutureref1_Digits n) := (unB_sutureref1_Digits_ok n n).sutureref1_Digits


/-! suture/place.Back -/
def l_place_Back_2_B (n : Nat) (k : ByteArray × (Nat × Nat) × Int × Int → Option (((Int × Bool) ⊕ Unit))) : ByteArray × (Nat × Nat) × Int × Int → Option (((Int × Bool) ⊕ Unit)) := fun (s0, s1, s2, s3) =>
bif (decide ((s3 : Int) < s2)) then (
Option.bind (m_place_Of n s0 s3) fun r0 =>
bif (cplxEq .f64 r0.1 r0.2 s1.1 s1.2) then (
some (Sum.inl (s3, true)))
else (
k (s0, s1, s2, (IntKind.wrap .i64 (s3 + 1)))))
else (
some (Sum.inr ()))
def l_place_Back_2 (n : Nat) : Nat → ByteArray × (Nat × Nat) × Int × Int → Option (((Int × Bool) ⊕ Unit))
  | 0, _ => none
  | m + 1, s => l_place_Back_2_B n (l_place_Back_2 n m) s
def m_place_Back (n : Nat) (a0 : ByteArray) (a1 : Nat × Nat) : Option (Int × Bool) :=
Option.bind (l_place_Back_2 n n (a0, a1, (IntKind.wrap .i64 (((ByteArray.size a0 : Nat) : Int) + 1)), 0)) fun x1 =>
Sum.elim (fun p2 => 
some (p2.1, p2.2)) (fun x1' => (fun p3 => 
some (0, false)) x1') x1
def enc_place_Back (r : Int × Bool) : V := (V.tup [(V.t (T.sc (.int .i64 r.1))), (V.t (T.sc (.bool r.2)))])
def encS_place_Back (r : Int × Bool) : Sig := []
def ok_place_Back (m : ByteArray → Nat × Nat → Option (Int × Bool)) : Prop := ∀ (a0 : ByteArray) (a1 : Nat × Nat) (r : Int × Bool), m a0 a1 = some r → FuncOk Tryd.prog 20 [(V.t (T.sc (.string a0))), (V.t (T.sc (.complex .f64 a1.1 a1.2)))] [] (enc_place_Back r) (encS_place_Back r)
def c_place_Back (m : ByteArray → Nat × Nat → Option (Int × Bool)) (vs : List V) (sg : Sig) : Option CallM := bif Nat.beq vs.length 2 && Nat.beq sg.length 0 then Option.bind (V.strOf (vs.getD 0 .any)) fun u0 => Option.bind (V.cplxOf .f64 (vs.getD 1 .any)) fun u1 => some { α := Int × Bool, m := m u0 u1, dflt := (0, false), enc := fun y => ((V.tup [(V.t (T.sc (.int .i64 y.1))), (V.t (T.sc (.bool y.2)))]), []) } else none
theorem c_place_Back_ok (m : ByteArray → Nat × Nat → Option (Int × Bool)) (hm : ok_place_Back m) (vs : List V) (sg : Sig) (cm : CallM) (x : cm.α) (h : c_place_Back m vs sg = some cm) (hx : cm.m = some x) : FuncOk Tryd.prog 20 vs sg (cm.enc x).1 (cm.enc x).2 := by
  unfold c_place_Back at h
  have h0 := callee_sig h
  clear h
  obtain ⟨hl, hs, h⟩ := h0
  obtain ⟨u0, hu0, h⟩ := Option.bind_eq_some_iff.1 h
  obtain ⟨u1, hu1, h⟩ := Option.bind_eq_some_iff.1 h
  simp only [Option.some.injEq] at h
  subst h
  exact (hm u0 u1 x hx).wk (args_wk hl (.cons (strOf_wk hu0) (.cons (cplxOf_wk hu1) .nil))) (wkSg_of hs .nil)
noncomputable def code_place_Back : Code := Tryd.f20.body.getD .skip
def l_place_Back_2_S (n : Nat) (R : Type) (E : SEnv) (sg : Sig) (K : Ex → SEnv → Sig → Option R) : Option R := Option.bind (V.strOf (SEnv.at E 0)) fun u0 => Option.bind (V.cplxOf .f64 (SEnv.at E 1)) fun u1 => Option.bind (V.intOf .i64 (SEnv.at E 9)) fun u2 => Option.bind (V.intOf .i64 (SEnv.at E 10)) fun u3 => Option.bind (l_place_Back_2 n n (u0, u1, u2, u3)) fun y => Sum.elim (fun p0 => K .ret [(4, (V.t (T.sc (.int .i64 p0.1)))), (5, (V.t (T.sc (.bool p0.2))))] []) (fun y' => (fun p1 => K (.exit 0) [] []) y') y
noncomputable def sp_place_Back (n : Nat) : Go.Eng.Spec := ⟨fun f vs sg => (match f with
    | 15 => c_place_Of (m_place_Of n) vs sg
    | _ => none), fun R key E sg K => (match key with
    | 2 => l_place_Back_2_S n R E sg K
    | _ => none)⟩
theorem sp_place_Back_ok (n : Nat) : CallsOk Tryd.prog (sp_place_Back n) := by
  intro f vs sg cm x h hx
  simp only [sp_place_Back] at h
  split at h
  · exact c_place_Of_ok _ (m_place_Of_ok n) vs sg cm x h hx
  · cases h
theorem code_place_Back_fn : Tryd.prog.funcs[20]? = some Tryd.f20 := Tryd.func20
theorem code_place_Back_body : Tryd.f20.body = some code_place_Back := by kernel_rfl
theorem code_place_Back_ok : CodeOk Tryd.prog code_place_Back := (sound 20 _ _ code_place_Back_fn code_place_Back_body).1
noncomputable def code_l_place_Back_2 : Code := (loopsOf code_place_Back).getD 0 .skip
theorem code_l_place_Back_2_ok : CodeOk Tryd.prog code_l_place_Back_2 := codeOk_loops code_place_Back_ok _ (getD_mem (by kernel_rfl))
def l_place_Back_2_K (k : ByteArray × (Nat × Nat) × Int × Int → Option (((Int × Bool) ⊕ Unit))) : Ex → SEnv → Sig → Option (((Int × Bool) ⊕ Unit)) := fun x E sg => match x with
  | .normal => Option.bind (V.strOf (SEnv.at E 0)) fun u0 => Option.bind (V.cplxOf .f64 (SEnv.at E 1)) fun u1 => Option.bind (V.intOf .i64 (SEnv.at E 9)) fun u2 => Option.bind (V.intOf .i64 (SEnv.at E 10)) fun u3 => k (u0, u1, u2, u3)
  | .ret => Option.bind (V.intOf .i64 (SEnv.at E 4)) fun u0 => Option.bind (V.boolOf (SEnv.at E 5)) fun u1 => some (Sum.inl (u0, u1))
  | (.exit 0) => some (Sum.inr ())
  | _ => none
theorem l_place_Back_2_eq (n : Nat) (k : ByteArray × (Nat × Nat) × Int × Int → Option (((Int × Bool) ⊕ Unit))) (s0 : ByteArray) (s1 : Nat × Nat) (s2 : Int) (s3 : Int) : mX Tryd.prog (sp_place_Back n) 20 code_l_place_Back_2 [(0, (V.t (T.sc (.string s0)))), (1, (V.t (T.sc (.complex .f64 s1.1 s1.2)))), (9, (V.t (T.sc (.int .i64 s2)))), (10, (V.t (T.sc (.int .i64 s3))))] [] (l_place_Back_2_K k) = l_place_Back_2_B n k (s0, s1, s2, s3) := by kernel_rfl
def l_place_Back_2_Q (x : ((Int × Bool) ⊕ Unit)) (ex : Ex) (e : Env) (s : Sig) : Prop := Sum.elim (fun p0 => (ex = .ret ∧ e = SEnv.env 20 [(4, (V.t (T.sc (.int .i64 p0.1)))), (5, (V.t (T.sc (.bool p0.2))))] ∧ s = [])) (fun x' => (fun p1 => (ex = (.exit 0) ∧ e = SEnv.env 20 [] ∧ s = [])) x') x
theorem l_place_Back_2_run (n : Nat) : ∀ (m : Nat) (s0 : ByteArray) (s1 : Nat × Nat) (s2 : Int) (s3 : Int) (x : ((Int × Bool) ⊕ Unit)), l_place_Back_2 n m (s0, s1, s2, s3) = some x → SemL Tryd.prog 0 code_l_place_Back_2 (SEnv.env 20 [(0, (V.t (T.sc (.string s0)))), (1, (V.t (T.sc (.complex .f64 s1.1 s1.2)))), (9, (V.t (T.sc (.int .i64 s2)))), (10, (V.t (T.sc (.int .i64 s3))))]) [] (l_place_Back_2_Q x)
  | 0, s0, s1, s2, s3, x, h => by cases h
  | m + 1, s0, s1, s2, s3, x, h => by
    refine loop_step (sp_place_Back_ok n) code_l_place_Back_2_ok (fun a ha => absurd ha (by rw [show loopsOf code_l_place_Back_2 = [] from by kernel_rfl]; simp)) ((l_place_Back_2_eq n _ s0 s1 s2 s3).trans h) (fun E sg h => ?_) (fun ex E sg hne h => ?_)
    · simp only [l_place_Back_2_K] at h
      obtain ⟨u0, hu0, h⟩ := Option.bind_eq_some_iff.1 h
      obtain ⟨u1, hu1, h⟩ := Option.bind_eq_some_iff.1 h
      obtain ⟨u2, hu2, h⟩ := Option.bind_eq_some_iff.1 h
      obtain ⟨u3, hu3, h⟩ := Option.bind_eq_some_iff.1 h
      exact SemL.pre (k := 0) (by decide) (WkA.env (WkA.cons (strOf_wk hu0) rfl (WkA.cons (cplxOf_wk hu1) rfl (WkA.cons (intOf_wk hu2) rfl (WkA.cons (intOf_wk hu3) rfl WkA.nil)))) 20) (WkS.none _) (l_place_Back_2_run n m _ _ _ _ x h)
    · unfold l_place_Back_2_K at h
      split at h
      · exact absurd rfl hne
      · obtain ⟨u0, hu0, h⟩ := Option.bind_eq_some_iff.1 h
        obtain ⟨u1, hu1, h⟩ := Option.bind_eq_some_iff.1 h
        simp only [Option.some.injEq] at h
        subst h
        exact ⟨0, _, _, by decide, WkA.env (WkA.cons (intOf_wk hu0) rfl (WkA.cons (boolOf_wk hu1) rfl WkA.nil)) 20, (WkS.none _), rfl, rfl, rfl⟩
      · simp only [Option.some.injEq] at h
        subst h
        exact ⟨0, _, _, by decide, WkA.env WkA.nil 20, (WkS.none _), rfl, rfl, rfl⟩
      · cases h
theorem l_place_Back_2_ok (n : Nat) : LoopOk Tryd.prog (sp_place_Back n) 0 20 code_l_place_Back_2 := by
    intro R key E sg K r hk h
    rw [show Go.Eng.keyOf code_l_place_Back_2 = some 2 from by kernel_rfl] at hk
    cases hk
    have h : l_place_Back_2_S n R E sg K = some r := h
    unfold l_place_Back_2_S at h
    obtain ⟨u0, hu0, h⟩ := Option.bind_eq_some_iff.1 h
    obtain ⟨u1, hu1, h⟩ := Option.bind_eq_some_iff.1 h
    obtain ⟨u2, hu2, h⟩ := Option.bind_eq_some_iff.1 h
    obtain ⟨u3, hu3, h⟩ := Option.bind_eq_some_iff.1 h
    obtain ⟨x, hx, h⟩ := Option.bind_eq_some_iff.1 h
    refine (SemL.pre (k := 0) (by decide) (WkA.env (WkA.cons (strOf_wk hu0) rfl (WkA.cons (cplxOf_wk hu1) rfl (WkA.cons (intOf_wk hu2) rfl (WkA.cons (intOf_wk hu3) rfl WkA.nil)))) 20) (WkS.none _) (l_place_Back_2_run n n _ _ _ _ x hx)).mono ?_
    intro ex e s hq
    rcases x with x | x <;> (obtain ⟨rfl, rfl, rfl⟩ := hq; exact ⟨_, rfl, h⟩) -- 5
def K_place_Back (v : V) (s : Sig) : Option (Int × Bool) := Option.bind (V.tupN 2 v) fun u0 => Option.bind (V.intOf .i64 (u0.getD 0 .any)) fun u1 => Option.bind (V.boolOf (u0.getD 1 .any)) fun u2 => some (u1, u2)
theorem K_place_Back_wk {v : V} {s : Sig} {r : Int × Bool} (h : K_place_Back v s = some r) : Wk v (enc_place_Back r) ∧ WkS 0 s (encS_place_Back r) := by
  unfold K_place_Back at h
  obtain ⟨u0, hu0, h⟩ := Option.bind_eq_some_iff.1 h
  obtain ⟨u1, hu1, h⟩ := Option.bind_eq_some_iff.1 h
  obtain ⟨u2, hu2, h⟩ := Option.bind_eq_some_iff.1 h
  simp only [Option.some.injEq] at h
  subst h
  exact ⟨(tupN_wk hu0 (.cons (intOf_wk hu1) (.cons (boolOf_wk hu2) .nil))), (WkS.none _)⟩
theorem m_place_Back_eq (n : Nat) (a0 : ByteArray) (a1 : Nat × Nat) : mF Tryd.prog (sp_place_Back n) 20 [(V.t (T.sc (.string a0))), (V.t (T.sc (.complex .f64 a1.1 a1.2)))] [] K_place_Back = m_place_Back n a0 a1 := by kernel_rfl
theorem m_place_Back_ok (n : Nat) : ok_place_Back (m_place_Back n) := fun a0 a1 r h => mF_ok sound (sp_place_Back_ok n) code_place_Back_fn code_place_Back_body (forall_getD (d := .skip) 1 (by kernel_rfl) (fun i hi => match i, hi with | 0, _ => l_place_Back_2_ok n | i + 1, hi => absurd hi (by omega))) ((m_place_Back_eq n a0 a1).trans h) (fun v s hk => ⟨(K_place_Back_wk hk).1, rfl, (K_place_Back_wk hk).2⟩)


/-! suture/suturelaw1.known: closed -/
def m_suturelaw1_known (n : Nat) : Option (Bool) := some true
def enc_suturelaw1_known (r : Bool) : V := (V.t (T.sc (.bool r)))
def encS_suturelaw1_known (r : Bool) : Sig := []
def ok_suturelaw1_known (m : Option (Bool)) : Prop := ∀ (r : Bool), m = some r → FuncOk Tryd.prog 16 [] [] (enc_suturelaw1_known r) (encS_suturelaw1_known r)
def c_suturelaw1_known (m : Option (Bool)) (vs : List V) (sg : Sig) : Option CallM := bif Nat.beq vs.length 0 && Nat.beq sg.length 0 then some { α := Bool, m := m, dflt := false, enc := fun y => ((V.t (T.sc (.bool y))), []) } else none
theorem c_suturelaw1_known_ok (m : Option (Bool)) (hm : ok_suturelaw1_known m) (vs : List V) (sg : Sig) (cm : CallM) (x : cm.α) (h : c_suturelaw1_known m vs sg = some cm) (hx : cm.m = some x) : FuncOk Tryd.prog 16 vs sg (cm.enc x).1 (cm.enc x).2 := by
  unfold c_suturelaw1_known at h
  have h0 := callee_sig h
  clear h
  obtain ⟨hl, hs, h⟩ := h0
  simp only [Option.some.injEq] at h
  subst h
  exact (hm x hx).wk (args_wk hl .nil) (wkSg_of hs .nil)
def spx_suturelaw1_known : Go.Eng.Spec := ⟨fun f vs sg => (match f with
    | 32 => c_strings_Count (m_strings_Count 0) vs sg
    | 33 => c_strings_LastIndexByte (m_strings_LastIndexByte 0) vs sg
    | 35 => c_strconv_Itoa (m_strconv_Itoa 0) vs sg
    | _ => none), fun R key E sg K => none⟩
theorem spx_suturelaw1_known_ok : CallsOk Tryd.prog spx_suturelaw1_known := by
  intro f vs sg cm x h hx
  simp only [spx_suturelaw1_known] at h
  split at h
  · exact c_strings_Count_ok _ (m_strings_Count_ok 0) vs sg cm x h hx
  · exact c_strings_LastIndexByte_ok _ (m_strings_LastIndexByte_ok 0) vs sg cm x h hx
  · exact c_strconv_Itoa_ok _ (m_strconv_Itoa_ok 0) vs sg cm x h hx
  · cases h
theorem m_suturelaw1_known_ok (n : Nat) : ok_suturelaw1_known (m_suturelaw1_known n) := fun r h => by
  cases h
  exact evFuncS_sound sound spx_suturelaw1_known_ok 40 _ _ _ _ _ (show evFuncS Tryd.prog spx_suturelaw1_known 40 16 [] [] = some (.t (.sc (.bool true)), []) from by kernel_rfl)


/-! suture/suturelaw1.PlaceTells -/
def l_suturelaw1_PlaceTells_11_B (n : Nat) (k : ByteArray × Int × Int × Int × Bool × Int × Int → Option (Int × Bool × Int)) : ByteArray × Int × Int × Int × Bool × Int × Int → Option (Int × Bool × Int) := fun (s0, s1, s2, s3, s4, s5, s6) =>
bif (decide ((s6 : Int) ≤ ((ByteArray.size s0 : Nat) : Int))) then (
Option.bind (m_sutureref1_Spot n s0 s6) fun r9 =>
bif (bif ((r9.1 : Int) == s1) then ((r9.2 : Int) == s2) else false) then (
k (s0, s1, s2, s3, s4, s6, (IntKind.wrap .i64 (s6 + 1))))
else (
k (s0, s1, s2, s3, s4, s5, (IntKind.wrap .i64 (s6 + 1)))))
else (
some (s3, s4, s5))
def l_suturelaw1_PlaceTells_11 (n : Nat) : Nat → ByteArray × Int × Int × Int × Bool × Int × Int → Option (Int × Bool × Int)
  | 0, _ => none
  | m + 1, s => l_suturelaw1_PlaceTells_11_B n (l_suturelaw1_PlaceTells_11 n m) s
def m_suturelaw1_PlaceTells (n : Nat) (a0 : ByteArray) (a1 : Int) (a2 : Int) (a3 : Int) : Option (Bool) :=
Option.bind (m_suturehand_Pick n a1 (IntKind.wrap .i64 (((ByteArray.size a0 : Nat) : Int) + 5))) fun r0 =>
Option.bind (m_place_Of n a0 (IntKind.wrap .i64 (r0 - 2))) fun r1 =>
Option.bind (m_sutureref1_Spot n a0 (IntKind.wrap .i64 (r0 - 2))) fun r2 =>
Option.bind (bif !(!(cplxEq .f64 r1.1 r1.2 (FloatKind.nearest .f64 r2.1) (FloatKind.nearest .f64 r2.2))) then m_place_Print n r1 else some default) fun r3 =>
Option.bind (bif !(!(cplxEq .f64 r1.1 r1.2 (FloatKind.nearest .f64 r2.1) (FloatKind.nearest .f64 r2.2))) then m_sutureref1_Digits n r2.1 else some default) fun r4 =>
must (!(!(cplxEq .f64 r1.1 r1.2 (FloatKind.nearest .f64 r2.1) (FloatKind.nearest .f64 r2.2)))) (decide (((ByteArray.size r4 + ByteArray.size (⟨#[58]⟩ : ByteArray) : Nat) : Int) ≤ IntKind.i64.max)) (Option.bind (bif !(!(cplxEq .f64 r1.1 r1.2 (FloatKind.nearest .f64 r2.1) (FloatKind.nearest .f64 r2.2))) then m_sutureref1_Digits n r2.2 else some default) fun r5 =>
must (!(!(cplxEq .f64 r1.1 r1.2 (FloatKind.nearest .f64 r2.1) (FloatKind.nearest .f64 r2.2)))) (decide (((ByteArray.size (r4 ++ (⟨#[58]⟩ : ByteArray)) + ByteArray.size r5 : Nat) : Int) ≤ IntKind.i64.max)) (bif (bif (!(cplxEq .f64 r1.1 r1.2 (FloatKind.nearest .f64 r2.1) (FloatKind.nearest .f64 r2.2))) then true else (!(ByteArray.toList r3 == ByteArray.toList ((r4 ++ (⟨#[58]⟩ : ByteArray)) ++ r5)))) then (
some false)
else (
Option.bind (m_suturehand_Pick n a2 9) fun r6 =>
Option.bind (m_suturehand_Pick n a3 20) fun r7 =>
Option.bind (m_place_Back n a0 ((FloatKind.nearest .f64 r6), (FloatKind.nearest .f64 r7))) fun r8 =>
Option.bind (l_suturelaw1_PlaceTells_11 n n (a0, r6, r7, r8.1, r8.2, (-1), 0)) fun p11 =>
Option.bind (m_suturelaw1_known n) fun r12 =>
some (bif (bif r12 then (p11.2.1 == (decide ((p11.2.2 : Int) ≥ 0))) else false) then (bif (bif (!p11.2.1) then ((p11.1 : Int) == 0) else false) then true else (bif p11.2.1 then ((p11.1 : Int) == p11.2.2) else false)) else false))))
def enc_suturelaw1_PlaceTells (r : Bool) : V := (V.t (T.sc (.bool r)))
def encS_suturelaw1_PlaceTells (r : Bool) : Sig := []
def ok_suturelaw1_PlaceTells (m : ByteArray → Int → Int → Int → Option (Bool)) : Prop := ∀ (a0 : ByteArray) (a1 : Int) (a2 : Int) (a3 : Int) (r : Bool), m a0 a1 a2 a3 = some r → FuncOk Tryd.prog 5 [(V.t (T.sc (.string a0))), (V.t (T.sc (.int .i64 a1))), (V.t (T.sc (.int .i64 a2))), (V.t (T.sc (.int .i64 a3)))] [] (enc_suturelaw1_PlaceTells r) (encS_suturelaw1_PlaceTells r)
def c_suturelaw1_PlaceTells (m : ByteArray → Int → Int → Int → Option (Bool)) (vs : List V) (sg : Sig) : Option CallM := bif Nat.beq vs.length 4 && Nat.beq sg.length 0 then Option.bind (V.strOf (vs.getD 0 .any)) fun u0 => Option.bind (V.intOf .i64 (vs.getD 1 .any)) fun u1 => Option.bind (V.intOf .i64 (vs.getD 2 .any)) fun u2 => Option.bind (V.intOf .i64 (vs.getD 3 .any)) fun u3 => some { α := Bool, m := m u0 u1 u2 u3, dflt := false, enc := fun y => ((V.t (T.sc (.bool y))), []) } else none
theorem c_suturelaw1_PlaceTells_ok (m : ByteArray → Int → Int → Int → Option (Bool)) (hm : ok_suturelaw1_PlaceTells m) (vs : List V) (sg : Sig) (cm : CallM) (x : cm.α) (h : c_suturelaw1_PlaceTells m vs sg = some cm) (hx : cm.m = some x) : FuncOk Tryd.prog 5 vs sg (cm.enc x).1 (cm.enc x).2 := by
  unfold c_suturelaw1_PlaceTells at h
  have h0 := callee_sig h
  clear h
  obtain ⟨hl, hs, h⟩ := h0
  obtain ⟨u0, hu0, h⟩ := Option.bind_eq_some_iff.1 h
  obtain ⟨u1, hu1, h⟩ := Option.bind_eq_some_iff.1 h
  obtain ⟨u2, hu2, h⟩ := Option.bind_eq_some_iff.1 h
  obtain ⟨u3, hu3, h⟩ := Option.bind_eq_some_iff.1 h
  simp only [Option.some.injEq] at h
  subst h
  exact (hm u0 u1 u2 u3 x hx).wk (args_wk hl (.cons (strOf_wk hu0) (.cons (intOf_wk hu1) (.cons (intOf_wk hu2) (.cons (intOf_wk hu3) .nil))))) (wkSg_of hs .nil)
noncomputable def code_suturelaw1_PlaceTells : Code := Tryd.f5.body.getD .skip
def l_suturelaw1_PlaceTells_11_S (n : Nat) (R : Type) (E : SEnv) (sg : Sig) (K : Ex → SEnv → Sig → Option R) : Option R := Option.bind (V.strOf (SEnv.at E 0)) fun u0 => Option.bind (V.intOf .i64 (SEnv.at E 2)) fun u1 => Option.bind (V.intOf .i64 (SEnv.at E 3)) fun u2 => Option.bind (V.intOf .i64 (SEnv.at E 13)) fun u3 => Option.bind (V.boolOf (SEnv.at E 14)) fun u4 => Option.bind (V.intOf .i64 (SEnv.at E 15)) fun u5 => Option.bind (V.intOf .i64 (SEnv.at E 16)) fun u6 => Option.bind (l_suturelaw1_PlaceTells_11 n n (u0, u1, u2, u3, u4, u5, u6)) fun p0 => K (.exit 0) [(13, (V.t (T.sc (.int .i64 p0.1)))), (14, (V.t (T.sc (.bool p0.2.1)))), (15, (V.t (T.sc (.int .i64 p0.2.2))))] []
noncomputable def sp_suturelaw1_PlaceTells (n : Nat) : Go.Eng.Spec := ⟨fun f vs sg => (match f with
    | 14 => c_suturehand_Pick (m_suturehand_Pick n) vs sg
    | 15 => c_place_Of (m_place_Of n) vs sg
    | 17 => c_sutureref1_Spot (m_sutureref1_Spot n) vs sg
    | 18 => c_place_Print (m_place_Print n) vs sg
    | 19 => c_sutureref1_Digits (m_sutureref1_Digits n) vs sg
    | 20 => c_place_Back (m_place_Back n) vs sg
    | 16 => c_suturelaw1_known (m_suturelaw1_known n) vs sg
    | _ => none), fun R key E sg K => (match key with
    | 11 => l_suturelaw1_PlaceTells_11_S n R E sg K
    | _ => none)⟩
theorem sp_suturelaw1_PlaceTells_ok (n : Nat) : CallsOk Tryd.prog (sp_suturelaw1_PlaceTells n) := by
  intro f vs sg cm x h hx
  simp only [sp_suturelaw1_PlaceTells] at h
  split at h
  · exact c_suturehand_Pick_ok _ (m_suturehand_Pick_ok n) vs sg cm x h hx
  · exact c_place_Of_ok _ (m_place_Of_ok n) vs sg cm x h hx
  · exact c_sutureref1_Spot_ok _ (m_sutureref1_Spot_ok n) vs sg cm x h hx
  · exact c_place_Print_ok _ (m_place_Print_ok n) vs sg cm x h hx
  · exact c_sutureref1_Digits_ok _ (m_sutureref1_Digits_ok n) vs sg cm x h hx
  · exact c_place_Back_ok _ (m_place_Back_ok n) vs sg cm x h hx
  · exact c_suturelaw1_known_ok _ (m_suturelaw1_known_ok n) vs sg cm x h hx
  · cases h
theorem code_suturelaw1_PlaceTells_fn : Tryd.prog.funcs[5]? = some Tryd.f5 := Tryd.func5
theorem code_suturelaw1_PlaceTells_body : Tryd.f5.body = some code_suturelaw1_PlaceTells := by kernel_rfl
theorem code_suturelaw1_PlaceTells_ok : CodeOk Tryd.prog code_suturelaw1_PlaceTells := (sound 5 _ _ code_suturelaw1_PlaceTells_fn code_suturelaw1_PlaceTells_body).1
noncomputable def code_l_suturelaw1_PlaceTells_11 : Code := (loopsOf code_suturelaw1_PlaceTells).getD 0 .skip
theorem code_l_suturelaw1_PlaceTells_11_ok : CodeOk Tryd.prog code_l_suturelaw1_PlaceTells_11 := codeOk_loops code_suturelaw1_PlaceTells_ok _ (getD_mem (by kernel_rfl))
def l_suturelaw1_PlaceTells_11_K (k : ByteArray × Int × Int × Int × Bool × Int × Int → Option (Int × Bool × Int)) : Ex → SEnv → Sig → Option (Int × Bool × Int) := fun x E sg => match x with
  | .normal => Option.bind (V.strOf (SEnv.at E 0)) fun u0 => Option.bind (V.intOf .i64 (SEnv.at E 2)) fun u1 => Option.bind (V.intOf .i64 (SEnv.at E 3)) fun u2 => Option.bind (V.intOf .i64 (SEnv.at E 13)) fun u3 => Option.bind (V.boolOf (SEnv.at E 14)) fun u4 => Option.bind (V.intOf .i64 (SEnv.at E 15)) fun u5 => Option.bind (V.intOf .i64 (SEnv.at E 16)) fun u6 => k (u0, u1, u2, u3, u4, u5, u6)
  | (.exit 0) => Option.bind (V.intOf .i64 (SEnv.at E 13)) fun u0 => Option.bind (V.boolOf (SEnv.at E 14)) fun u1 => Option.bind (V.intOf .i64 (SEnv.at E 15)) fun u2 => some (u0, u1, u2)
  | _ => none
theorem l_suturelaw1_PlaceTells_11_eq (n : Nat) (k : ByteArray × Int × Int × Int × Bool × Int × Int → Option (Int × Bool × Int)) (s0 : ByteArray) (s1 : Int) (s2 : Int) (s3 : Int) (s4 : Bool) (s5 : Int) (s6 : Int) : mX Tryd.prog (sp_suturelaw1_PlaceTells n) 110 code_l_suturelaw1_PlaceTells_11 [(0, (V.t (T.sc (.string s0)))), (2, (V.t (T.sc (.int .i64 s1)))), (3, (V.t (T.sc (.int .i64 s2)))), (13, (V.t (T.sc (.int .i64 s3)))), (14, (V.t (T.sc (.bool s4)))), (15, (V.t (T.sc (.int .i64 s5)))), (16, (V.t (T.sc (.int .i64 s6))))] [] (l_suturelaw1_PlaceTells_11_K k) = l_suturelaw1_PlaceTells_11_B n k (s0, s1, s2, s3, s4, s5, s6) := by kernel_rfl
def l_suturelaw1_PlaceTells_11_Q (x : Int × Bool × Int) (ex : Ex) (e : Env) (s : Sig) : Prop := (fun p0 => (ex = (.exit 0) ∧ e = SEnv.env 110 [(13, (V.t (T.sc (.int .i64 p0.1)))), (14, (V.t (T.sc (.bool p0.2.1)))), (15, (V.t (T.sc (.int .i64 p0.2.2))))] ∧ s = [])) x
theorem l_suturelaw1_PlaceTells_11_run (n : Nat) : ∀ (m : Nat) (s0 : ByteArray) (s1 : Int) (s2 : Int) (s3 : Int) (s4 : Bool) (s5 : Int) (s6 : Int) (x : Int × Bool × Int), l_suturelaw1_PlaceTells_11 n m (s0, s1, s2, s3, s4, s5, s6) = some x → SemL Tryd.prog 0 code_l_suturelaw1_PlaceTells_11 (SEnv.env 110 [(0, (V.t (T.sc (.string s0)))), (2, (V.t (T.sc (.int .i64 s1)))), (3, (V.t (T.sc (.int .i64 s2)))), (13, (V.t (T.sc (.int .i64 s3)))), (14, (V.t (T.sc (.bool s4)))), (15, (V.t (T.sc (.int .i64 s5)))), (16, (V.t (T.sc (.int .i64 s6))))]) [] (l_suturelaw1_PlaceTells_11_Q x)
  | 0, s0, s1, s2, s3, s4, s5, s6, x, h => by cases h
  | m + 1, s0, s1, s2, s3, s4, s5, s6, x, h => by
    refine loop_step (sp_suturelaw1_PlaceTells_ok n) code_l_suturelaw1_PlaceTells_11_ok (fun a ha => absurd ha (by rw [show loopsOf code_l_suturelaw1_PlaceTells_11 = [] from by kernel_rfl]; simp)) ((l_suturelaw1_PlaceTells_11_eq n _ s0 s1 s2 s3 s4 s5 s6).trans h) (fun E sg h => ?_) (fun ex E sg hne h => ?_)
    · simp only [l_suturelaw1_PlaceTells_11_K] at h
      obtain ⟨u0, hu0, h⟩ := Option.bind_eq_some_iff.1 h
      obtain ⟨u1, hu1, h⟩ := Option.bind_eq_some_iff.1 h
      obtain ⟨u2, hu2, h⟩ := Option.bind_eq_some_iff.1 h
      obtain ⟨u3, hu3, h⟩ := Option.bind_eq_some_iff.1 h
      obtain ⟨u4, hu4, h⟩ := Option.bind_eq_some_iff.1 h
      obtain ⟨u5, hu5, h⟩ := Option.bind_eq_some_iff.1 h
      obtain ⟨u6, hu6, h⟩ := Option.bind_eq_some_iff.1 h
      exact SemL.pre (k := 0) (by decide) (WkA.env (WkA.cons (strOf_wk hu0) rfl (WkA.cons (intOf_wk hu1) rfl (WkA.cons (intOf_wk hu2) rfl (WkA.cons (intOf_wk hu3) rfl (WkA.cons (boolOf_wk hu4) rfl (WkA.cons (intOf_wk hu5) rfl (WkA.cons (intOf_wk hu6) rfl WkA.nil))))))) 110) (WkS.none _) (l_suturelaw1_PlaceTells_11_run n m _ _ _ _ _ _ _ x h)
    · unfold l_suturelaw1_PlaceTells_11_K at h
      split at h
      · exact absurd rfl hne
      · obtain ⟨u0, hu0, h⟩ := Option.bind_eq_some_iff.1 h
        obtain ⟨u1, hu1, h⟩ := Option.bind_eq_some_iff.1 h
        obtain ⟨u2, hu2, h⟩ := Option.bind_eq_some_iff.1 h
        simp only [Option.some.injEq] at h
        subst h
        exact ⟨0, _, _, by decide, WkA.env (WkA.cons (intOf_wk hu0) rfl (WkA.cons (boolOf_wk hu1) rfl (WkA.cons (intOf_wk hu2) rfl WkA.nil))) 110, (WkS.none _), rfl, rfl, rfl⟩
      · cases h
theorem l_suturelaw1_PlaceTells_11_ok (n : Nat) : LoopOk Tryd.prog (sp_suturelaw1_PlaceTells n) 0 110 code_l_suturelaw1_PlaceTells_11 := by
    intro R key E sg K r hk h
    rw [show Go.Eng.keyOf code_l_suturelaw1_PlaceTells_11 = some 11 from by kernel_rfl] at hk
    cases hk
    have h : l_suturelaw1_PlaceTells_11_S n R E sg K = some r := h
    unfold l_suturelaw1_PlaceTells_11_S at h
    obtain ⟨u0, hu0, h⟩ := Option.bind_eq_some_iff.1 h
    obtain ⟨u1, hu1, h⟩ := Option.bind_eq_some_iff.1 h
    obtain ⟨u2, hu2, h⟩ := Option.bind_eq_some_iff.1 h
    obtain ⟨u3, hu3, h⟩ := Option.bind_eq_some_iff.1 h
    obtain ⟨u4, hu4, h⟩ := Option.bind_eq_some_iff.1 h
    obtain ⟨u5, hu5, h⟩ := Option.bind_eq_some_iff.1 h
    obtain ⟨u6, hu6, h⟩ := Option.bind_eq_some_iff.1 h
    obtain ⟨x, hx, h⟩ := Option.bind_eq_some_iff.1 h
    refine (SemL.pre (k := 0) (by decide) (WkA.env (WkA.cons (strOf_wk hu0) rfl (WkA.cons (intOf_wk hu1) rfl (WkA.cons (intOf_wk hu2) rfl (WkA.cons (intOf_wk hu3) rfl (WkA.cons (boolOf_wk hu4) rfl (WkA.cons (intOf_wk hu5) rfl (WkA.cons (intOf_wk hu6) rfl WkA.nil))))))) 110) (WkS.none _) (l_suturelaw1_PlaceTells_11_run n n _ _ _ _ _ _ _ x hx)).mono ?_
    intro ex e s hq
    obtain ⟨rfl, rfl, rfl⟩ := hq
    exact ⟨_, rfl, h⟩
def K_suturelaw1_PlaceTells (v : V) (s : Sig) : Option (Bool) := Option.bind (V.boolOf v) fun u0 => some u0
theorem K_suturelaw1_PlaceTells_wk {v : V} {s : Sig} {r : Bool} (h : K_suturelaw1_PlaceTells v s = some r) : Wk v (enc_suturelaw1_PlaceTells r) ∧ WkS 0 s (encS_suturelaw1_PlaceTells r) := by
  unfold K_suturelaw1_PlaceTells at h
  obtain ⟨u0, hu0, h⟩ := Option.bind_eq_some_iff.1 h
  simp only [Option.some.injEq] at h
  subst h
  exact ⟨(boolOf_wk hu0), (WkS.none _)⟩
theorem m_suturelaw1_PlaceTells_eq (n : Nat) (a0 : ByteArray) (a1 : Int) (a2 : Int) (a3 : Int) : mF Tryd.prog (sp_suturelaw1_PlaceTells n) 5 [(V.t (T.sc (.string a0))), (V.t (T.sc (.int .i64 a1))), (V.t (T.sc (.int .i64 a2))), (V.t (T.sc (.int .i64 a3)))] [] K_suturelaw1_PlaceTells = m_suturelaw1_PlaceTells n a0 a1 a2 a3 := by kernel_rfl
theorem m_suturelaw1_PlaceTells_ok (n : Nat) : ok_suturelaw1_PlaceTells (m_suturelaw1_PlaceTells n) := fun a0 a1 a2 a3 r h => mF_ok sound (sp_suturelaw1_PlaceTells_ok n) code_suturelaw1_PlaceTells_fn code_suturelaw1_PlaceTells_body (forall_getD (d := .skip) 1 (by kernel_rfl) (fun i hi => match i, hi with | 0, _ => l_suturelaw1_PlaceTells_11_ok n | i + 1, hi => absurd hi (by omega))) ((m_suturelaw1_PlaceTells_eq n a0 a1 a2 a3).trans h) (fun v s hk => ⟨(K_suturelaw1_PlaceTells_wk hk).1, rfl, (K_suturelaw1_PlaceTells_wk hk).2⟩)

end Go.Proofs.YtkolhagejiabhaaDoor.W
