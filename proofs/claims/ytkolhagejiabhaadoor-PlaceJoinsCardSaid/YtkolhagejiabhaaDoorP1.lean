import Derived.Test.YtkolhagejiabhaaDoorExt
namespace Go.Proofs.YtkolhagejiabhaaDoor.W
open Go Go.Eng
set_option linter.unusedVariables false
set_option linter.unusedSimpArgs false
set_option maxRecDepth 100000

/-! suture/suturehand.Pick -/
def m_suturehand_Pick (n : Nat) (a0 : Int) (a1 : Int) : Option (Int) :=
must true (!decide (a1 = 0)) (bif (decide (((Int.tmod a0 a1) : Int) < 0)) then (
some (IntKind.wrap .i64 ((Int.tmod a0 a1) + a1)))
else (
some (Int.tmod a0 a1)))
def enc_suturehand_Pick (r : Int) : V := (V.t (T.sc (.int .i64 r)))
def encS_suturehand_Pick (r : Int) : Sig := []
def ok_suturehand_Pick (m : Int → Int → Option (Int)) : Prop := ∀ (a0 : Int) (a1 : Int) (r : Int), m a0 a1 = some r → FuncOk Tryd.prog 14 [(V.t (T.sc (.int .i64 a0))), (V.t (T.sc (.int .i64 a1)))] [] (enc_suturehand_Pick r) (encS_suturehand_Pick r)
def c_suturehand_Pick (m : Int → Int → Option (Int)) (vs : List V) (sg : Sig) : Option CallM := bif Nat.beq vs.length 2 && Nat.beq sg.length 0 then Option.bind (V.intOf .i64 (vs.getD 0 .any)) fun u0 => Option.bind (V.intOf .i64 (vs.getD 1 .any)) fun u1 => some { α := Int, m := m u0 u1, dflt := 0, enc := fun y => ((V.t (T.sc (.int .i64 y))), []) } else none
theorem c_suturehand_Pick_ok (m : Int → Int → Option (Int)) (hm : ok_suturehand_Pick m) (vs : List V) (sg : Sig) (cm : CallM) (x : cm.α) (h : c_suturehand_Pick m vs sg = some cm) (hx : cm.m = some x) : FuncOk Tryd.prog 14 vs sg (cm.enc x).1 (cm.enc x).2 := by
  unfold c_suturehand_Pick at h
  have h0 := callee_sig h
  clear h
  obtain ⟨hl, hs, h⟩ := h0
  obtain ⟨u0, hu0, h⟩ := Option.bind_eq_some_iff.1 h
  obtain ⟨u1, hu1, h⟩ := Option.bind_eq_some_iff.1 h
  simp only [Option.some.injEq] at h
  subst h
  exact (hm u0 u1 x hx).wk (args_wk hl (.cons (intOf_wk hu0) (.cons (intOf_wk hu1) .nil))) (wkSg_of hs .nil)
noncomputable def code_suturehand_Pick : Code := Tryd.f14.body.getD .skip
noncomputable def sp_suturehand_Pick (n : Nat) : Go.Eng.Spec := ⟨fun f vs sg => (match f with
    | _ => none), fun R key E sg K => (match key with
    | _ => none)⟩
theorem sp_suturehand_Pick_ok (n : Nat) : CallsOk Tryd.prog (sp_suturehand_Pick n) := by
  intro f vs sg cm x h hx
  have h : (none : Option CallM) = some cm := h
  cases h
theorem code_suturehand_Pick_fn : Tryd.prog.funcs[14]? = some Tryd.f14 := Tryd.func14
theorem code_suturehand_Pick_body : Tryd.f14.body = some code_suturehand_Pick := by kernel_rfl
theorem code_suturehand_Pick_ok : CodeOk Tryd.prog code_suturehand_Pick := (sound 14 _ _ code_suturehand_Pick_fn code_suturehand_Pick_body).1
def K_suturehand_Pick (v : V) (s : Sig) : Option (Int) := Option.bind (V.intOf .i64 v) fun u0 => some u0
theorem K_suturehand_Pick_wk {v : V} {s : Sig} {r : Int} (h : K_suturehand_Pick v s = some r) : Wk v (enc_suturehand_Pick r) ∧ WkS 0 s (encS_suturehand_Pick r) := by
  unfold K_suturehand_Pick at h
  obtain ⟨u0, hu0, h⟩ := Option.bind_eq_some_iff.1 h
  simp only [Option.some.injEq] at h
  subst h
  exact ⟨(intOf_wk hu0), (WkS.none _)⟩
theorem m_suturehand_Pick_eq (n : Nat) (a0 : Int) (a1 : Int) : mF Tryd.prog (sp_suturehand_Pick n) 14 [(V.t (T.sc (.int .i64 a0))), (V.t (T.sc (.int .i64 a1)))] [] K_suturehand_Pick = m_suturehand_Pick n a0 a1 := by kernel_rfl
theorem m_suturehand_Pick_ok (n : Nat) : ok_suturehand_Pick (m_suturehand_Pick n) := fun a0 a1 r h => mF_ok sound (sp_suturehand_Pick_ok n) code_suturehand_Pick_fn code_suturehand_Pick_body (fun a ha => absurd ha (by rw [show loopsOf code_suturehand_Pick = [] from by kernel_rfl]; simp)) ((m_suturehand_Pick_eq n a0 a1).trans h) (fun v s hk => ⟨(K_suturehand_Pick_wk hk).1, rfl, (K_suturehand_Pick_wk hk).2⟩)


/-! strings.Count: from elsewhere -/
def m_strings_Count (n : Nat) (a0 : ByteArray) (a1 : ByteArray) : Option (Int) := cntM a0 a1
def enc_strings_Count (r : Int) : V := (V.t (T.sc (.int .i64 r)))
def encS_strings_Count (r : Int) : Sig := []
def ok_strings_Count (m : ByteArray → ByteArray → Option (Int)) : Prop := ∀ (a0 : ByteArray) (a1 : ByteArray) (r : Int), m a0 a1 = some r → FuncOk Tryd.prog 32 [(V.t (T.sc (.string a0))), (V.t (T.sc (.string a1)))] [] (enc_strings_Count r) (encS_strings_Count r)
def c_strings_Count (m : ByteArray → ByteArray → Option (Int)) (vs : List V) (sg : Sig) : Option CallM := bif Nat.beq vs.length 2 && Nat.beq sg.length 0 then Option.bind (V.strOf (vs.getD 0 .any)) fun u0 => Option.bind (V.strOf (vs.getD 1 .any)) fun u1 => some { α := Int, m := m u0 u1, dflt := 0, enc := fun y => ((V.t (T.sc (.int .i64 y))), []) } else none
theorem c_strings_Count_ok (m : ByteArray → ByteArray → Option (Int)) (hm : ok_strings_Count m) (vs : List V) (sg : Sig) (cm : CallM) (x : cm.α) (h : c_strings_Count m vs sg = some cm) (hx : cm.m = some x) : FuncOk Tryd.prog 32 vs sg (cm.enc x).1 (cm.enc x).2 := by
  unfold c_strings_Count at h
  have h0 := callee_sig h
  clear h
  obtain ⟨hl, hs, h⟩ := h0
  obtain ⟨u0, hu0, h⟩ := Option.bind_eq_some_iff.1 h
  obtain ⟨u1, hu1, h⟩ := Option.bind_eq_some_iff.1 h
  simp only [Option.some.injEq] at h
  subst h
  exact (hm u0 u1 x hx).wk (args_wk hl (.cons (strOf_wk hu0) (.cons (strOf_wk hu1) .nil))) (wkSg_of hs .nil)
theorem m_strings_Count_ok (n : Nat) : ok_strings_Count (m_strings_Count n) := fun a0 a1 r h => x_strings_Count h


/-! strings.LastIndexByte: from elsewhere -/
def m_strings_LastIndexByte (n : Nat) (a0 : ByteArray) (a1 : Int) : Option (Int) := lastM a0 a1
def enc_strings_LastIndexByte (r : Int) : V := (V.t (T.sc (.int .i64 r)))
def encS_strings_LastIndexByte (r : Int) : Sig := []
def ok_strings_LastIndexByte (m : ByteArray → Int → Option (Int)) : Prop := ∀ (a0 : ByteArray) (a1 : Int) (r : Int), m a0 a1 = some r → FuncOk Tryd.prog 33 [(V.t (T.sc (.string a0))), (V.t (T.sc (.int .u8 a1)))] [] (enc_strings_LastIndexByte r) (encS_strings_LastIndexByte r)
def c_strings_LastIndexByte (m : ByteArray → Int → Option (Int)) (vs : List V) (sg : Sig) : Option CallM := bif Nat.beq vs.length 2 && Nat.beq sg.length 0 then Option.bind (V.strOf (vs.getD 0 .any)) fun u0 => Option.bind (V.intOf .u8 (vs.getD 1 .any)) fun u1 => some { α := Int, m := m u0 u1, dflt := 0, enc := fun y => ((V.t (T.sc (.int .i64 y))), []) } else none
theorem c_strings_LastIndexByte_ok (m : ByteArray → Int → Option (Int)) (hm : ok_strings_LastIndexByte m) (vs : List V) (sg : Sig) (cm : CallM) (x : cm.α) (h : c_strings_LastIndexByte m vs sg = some cm) (hx : cm.m = some x) : FuncOk Tryd.prog 33 vs sg (cm.enc x).1 (cm.enc x).2 := by
  unfold c_strings_LastIndexByte at h
  have h0 := callee_sig h
  clear h
  obtain ⟨hl, hs, h⟩ := h0
  obtain ⟨u0, hu0, h⟩ := Option.bind_eq_some_iff.1 h
  obtain ⟨u1, hu1, h⟩ := Option.bind_eq_some_iff.1 h
  simp only [Option.some.injEq] at h
  subst h
  exact (hm u0 u1 x hx).wk (args_wk hl (.cons (strOf_wk hu0) (.cons (intOf_wk hu1) .nil))) (wkSg_of hs .nil)
theorem m_strings_LastIndexByte_ok (n : Nat) : ok_strings_LastIndexByte (m_strings_LastIndexByte n) := fun a0 a1 r h => x_strings_LastIndexByte h


/-! suture/place.Of -/
def m_place_Of (n : Nat) (a0 : ByteArray) (a1 : Int) : Option ((Nat × Nat)) :=
must true (decide (0 ≤ 0) && decide (0 ≤ (if (0 : Int) < (if (((ByteArray.size a0 : Nat) : Int) : Int) < a1 then ((ByteArray.size a0 : Nat) : Int) else a1) then (if (((ByteArray.size a0 : Nat) : Int) : Int) < a1 then ((ByteArray.size a0 : Nat) : Int) else a1) else 0)) && decide ((if (0 : Int) < (if (((ByteArray.size a0 : Nat) : Int) : Int) < a1 then ((ByteArray.size a0 : Nat) : Int) else a1) then (if (((ByteArray.size a0 : Nat) : Int) : Int) < a1 then ((ByteArray.size a0 : Nat) : Int) else a1) else 0) ≤ ((ByteArray.size a0 : Nat) : Int))) (Option.bind (m_strings_Count n (ByteArray.extract a0 (Int.toNat 0) (Int.toNat (if (0 : Int) < (if (((ByteArray.size a0 : Nat) : Int) : Int) < a1 then ((ByteArray.size a0 : Nat) : Int) else a1) then (if (((ByteArray.size a0 : Nat) : Int) : Int) < a1 then ((ByteArray.size a0 : Nat) : Int) else a1) else 0))) (⟨#[10]⟩ : ByteArray)) fun r0 =>
Option.bind (m_strings_LastIndexByte n (ByteArray.extract a0 (Int.toNat 0) (Int.toNat (if (0 : Int) < (if (((ByteArray.size a0 : Nat) : Int) : Int) < a1 then ((ByteArray.size a0 : Nat) : Int) else a1) then (if (((ByteArray.size a0 : Nat) : Int) : Int) < a1 then ((ByteArray.size a0 : Nat) : Int) else a1) else 0))) 10) fun r1 =>
some ((FloatKind.nearest .f64 (IntKind.wrap .i64 (1 + r0))), (FloatKind.nearest .f64 (IntKind.wrap .i64 (((ByteArray.size (ByteArray.extract a0 (Int.toNat 0) (Int.toNat (if (0 : Int) < (if (((ByteArray.size a0 : Nat) : Int) : Int) < a1 then ((ByteArray.size a0 : Nat) : Int) else a1) then (if (((ByteArray.size a0 : Nat) : Int) : Int) < a1 then ((ByteArray.size a0 : Nat) : Int) else a1) else 0))) : Nat) : Int) - r1)))))
def enc_place_Of (r : (Nat × Nat)) : V := (V.t (T.sc (.complex .f64 r.1 r.2)))
def encS_place_Of (r : (Nat × Nat)) : Sig := []
def ok_place_Of (m : ByteArray → Int → Option ((Nat × Nat))) : Prop := ∀ (a0 : ByteArray) (a1 : Int) (r : (Nat × Nat)), m a0 a1 = some r → FuncOk Tryd.prog 15 [(V.t (T.sc (.string a0))), (V.t (T.sc (.int .i64 a1)))] [] (enc_place_Of r) (encS_place_Of r)
def c_place_Of (m : ByteArray → Int → Option ((Nat × Nat))) (vs : List V) (sg : Sig) : Option CallM := bif Nat.beq vs.length 2 && Nat.beq sg.length 0 then Option.bind (V.strOf (vs.getD 0 .any)) fun u0 => Option.bind (V.intOf .i64 (vs.getD 1 .any)) fun u1 => some { α := (Nat × Nat), m := m u0 u1, dflt := (0, 0), enc := fun y => ((V.t (T.sc (.complex .f64 y.1 y.2))), []) } else none
theorem c_place_Of_ok (m : ByteArray → Int → Option ((Nat × Nat))) (hm : ok_place_Of m) (vs : List V) (sg : Sig) (cm : CallM) (x : cm.α) (h : c_place_Of m vs sg = some cm) (hx : cm.m = some x) : FuncOk Tryd.prog 15 vs sg (cm.enc x).1 (cm.enc x).2 := by
  unfold c_place_Of at h
  have h0 := callee_sig h
  clear h
  obtain ⟨hl, hs, h⟩ := h0
  obtain ⟨u0, hu0, h⟩ := Option.bind_eq_some_iff.1 h
  obtain ⟨u1, hu1, h⟩ := Option.bind_eq_some_iff.1 h
  simp only [Option.some.injEq] at h
  subst h
  exact (hm u0 u1 x hx).wk (args_wk hl (.cons (strOf_wk hu0) (.cons (intOf_wk hu1) .nil))) (wkSg_of hs .nil)
noncomputable def code_place_Of : Code := Tryd.f15.body.getD .skip
noncomputable def sp_place_Of (n : Nat) : Go.Eng.Spec := ⟨fun f vs sg => (match f with
    | 32 => c_strings_Count (m_strings_Count n) vs sg
    | 33 => c_strings_LastIndexByte (m_strings_LastIndexByte n) vs sg
    | _ => none), fun R key E sg K => (match key with
    | _ => none)⟩
theorem sp_place_Of_ok (n : Nat) : CallsOk Tryd.prog (sp_place_Of n) := by
  intro f vs sg cm x h hx
  simp only [sp_place_Of] at h
  split at h
  · exact c_strings_Count_ok _ (m_strings_Count_ok n) vs sg cm x h hx
  · exact c_strings_LastIndexByte_ok _ (m_strings_LastIndexByte_ok n) vs sg cm x h hx
  · cases h
theorem code_place_Of_fn : Tryd.prog.funcs[15]? = some Tryd.f15 := Tryd.func15
theorem code_place_Of_body : Tryd.f15.body = some code_place_Of := by kernel_rfl
theorem code_place_Of_ok : CodeOk Tryd.prog code_place_Of := (sound 15 _ _ code_place_Of_fn code_place_Of_body).1
def K_place_Of (v : V) (s : Sig) : Option ((Nat × Nat)) := Option.bind (V.cplxOf .f64 v) fun u0 => some u0
theorem K_place_Of_wk {v : V} {s : Sig} {r : (Nat × Nat)} (h : K_place_Of v s = some r) : Wk v (enc_place_Of r) ∧ WkS 0 s (encS_place_Of r) := by
  unfold K_place_Of at h
  obtain ⟨u0, hu0, h⟩ := Option.bind_eq_some_iff.1 h
  simp only [Option.some.injEq] at h
  subst h
  exact ⟨(cplxOf_wk hu0), (WkS.none _)⟩
theorem m_place_Of_eq (n : Nat) (a0 : ByteArray) (a1 : Int) : mF Tryd.prog (sp_place_Of n) 15 [(V.t (T.sc (.string a0))), (V.t (T.sc (.int .i64 a1)))] [] K_place_Of = m_place_Of n a0 a1 := by kernel_rfl
theorem m_place_Of_ok (n : Nat) : ok_place_Of (m_place_Of n) := fun a0 a1 r h => mF_ok sound (sp_place_Of_ok n) code_place_Of_fn code_place_Of_body (fun a ha => absurd ha (by rw [show loopsOf code_place_Of = [] from by kernel_rfl]; simp)) ((m_place_Of_eq n a0 a1).trans h) (fun v s hk => ⟨(K_place_Of_wk hk).1, rfl, (K_place_Of_wk hk).2⟩)


/-! strconv.Itoa: from elsewhere -/
def m_strconv_Itoa (n : Nat) (a0 : Int) : Option (ByteArray) := itoaM a0
def enc_strconv_Itoa (r : ByteArray) : V := (V.t (T.sc (.string r)))
def encS_strconv_Itoa (r : ByteArray) : Sig := []
def ok_strconv_Itoa (m : Int → Option (ByteArray)) : Prop := ∀ (a0 : Int) (r : ByteArray), m a0 = some r → FuncOk Tryd.prog 35 [(V.t (T.sc (.int .i64 a0)))] [] (enc_strconv_Itoa r) (encS_strconv_Itoa r)
def c_strconv_Itoa (m : Int → Option (ByteArray)) (vs : List V) (sg : Sig) : Option CallM := bif Nat.beq vs.length 1 && Nat.beq sg.length 0 then Option.bind (V.intOf .i64 (vs.getD 0 .any)) fun u0 => some { α := ByteArray, m := m u0, dflt := default, enc := fun y => ((V.t (T.sc (.string y))), []) } else none
theorem c_strconv_Itoa_ok (m : Int → Option (ByteArray)) (hm : ok_strconv_Itoa m) (vs : List V) (sg : Sig) (cm : CallM) (x : cm.α) (h : c_strconv_Itoa m vs sg = some cm) (hx : cm.m = some x) : FuncOk Tryd.prog 35 vs sg (cm.enc x).1 (cm.enc x).2 := by
  unfold c_strconv_Itoa at h
  have h0 := callee_sig h
  clear h
  obtain ⟨hl, hs, h⟩ := h0
  obtain ⟨u0, hu0, h⟩ := Option.bind_eq_some_iff.1 h
  simp only [Option.some.injEq] at h
  subst h
  exact (hm u0 x hx).wk (args_wk hl (.cons (intOf_wk hu0) .nil)) (wkSg_of hs .nil)
theorem m_strconv_Itoa_ok (n : Nat) : ok_strconv_Itoa (m_strconv_Itoa n) := fun a0 r h => x_strconv_Itoa h


/-! suture/suturelaw1.known: closed -/
def m_suturelaw1_known (n : Nat) : Option (Bool) := some true
def enc_suturelaw1_known (r : Bool) : V := (V.t (T.sc (.bool r)))
def encS_suturelaw1_known (r : Bool) : Sig := []
def ok_suturelaw1_known (m : Option (Bool)) : Prop := ∀ (r : Bool), m = some r → FuncOk Tryd.prog 16 [] [] (enc_suturelaw1_known r) (encS_suturelaw1_known r)
def c_suturelaw1_known (m : Option (Bool)) (vs : List V) (sg : Sig) : Option CallM := bif Nat.beq vs.length 0 && Nat.beq sg.length 0 then some { α := Bool, m := m, dflt := false, enc := fun y => ((V.t (T.sc (.bool y))), []) } else none
theorem c_suturelaw1_known_ok (m : Option (Bool)) (hm : ok_suturelaw1_known m) (vs : List V) (sg : Sig) (cm : CallM) (x : cm.α) (h : c_suturelaw1_known m vs sg = some cm) (hx : cm.m = some x) : FuncOk Tryd.prog 16 vs sg (cm.enc x).1 (cm.enc x).2 := by
  unfold c_suturelaw1_known at h
  have h0 := callee_sig h
  clear h
  obtain ⟨hl, hs, h⟩ := h0
  simp only [Option.some.injEq] at h
  subst h
  exact (hm x hx).wk (args_wk hl .nil) (wkSg_of hs .nil)
def spx_suturelaw1_known : Go.Eng.Spec := ⟨fun f vs sg => (match f with
    | 32 => c_strings_Count (m_strings_Count 0) vs sg
    | 33 => c_strings_LastIndexByte (m_strings_LastIndexByte 0) vs sg
    | 35 => c_strconv_Itoa (m_strconv_Itoa 0) vs sg
    | _ => none), fun R key E sg K => none⟩
theorem spx_suturelaw1_known_ok : CallsOk Tryd.prog spx_suturelaw1_known := by
  intro f vs sg cm x h hx
  simp only [spx_suturelaw1_known] at h
  split at h
  · exact c_strings_Count_ok _ (m_strings_Count_ok 0) vs sg cm x h hx
  · exact c_strings_LastIndexByte_ok _ (m_strings_LastIndexByte_ok 0) vs sg cm x h hx
  · exact c_strconv_Itoa_ok _ (m_strconv_Itoa_ok 0) vs sg cm x h hx
  · cases h
theorem m_suturelaw1_known_ok (n : Nat) : ok_suturelaw1_known (m_suturelaw1_known n) := fun r h => by
  cases h
  exact evFuncS_sound sound spx_suturelaw1_known_ok 40 _ _ _ _ _ (show evFuncS Tryd.prog spx_suturelaw1_known 40 16 [] [] = some (.t (.sc (.bool true)), []) from by kernel_rfl)


/-! suture/suturelaw1.PlaceJoins -/
def m_suturelaw1_PlaceJoins (n : Nat) (a0 : ByteArray) (a1 : ByteArray) (a2 : Int) : Option (Bool) :=
Option.bind (m_suturehand_Pick n a2 (IntKind.wrap .i64 (((ByteArray.size a1 : Nat) : Int) + 1))) fun r0 =>
Option.bind (m_place_Of n a0 ((ByteArray.size a0 : Nat) : Int)) fun r1 =>
Option.bind (m_place_Of n a1 r0) fun r2 =>
Option.bind (flo true (Ieee.Format.sub (FloatKind.format .f64) r1.1 4607182418800017408)) fun q3 =>
Option.bind (flo true (Ieee.Format.add (FloatKind.format .f64) r2.1 q3)) fun q4 =>
Option.bind (flo true (Ieee.Format.add (FloatKind.format .f64) r2.2 0)) fun q5 =>
bif ((Ieee.Format.order (FloatKind.format .f64) r2.1 4607182418800017408) == some .eq) then (
Option.bind (flo true (Ieee.Format.add (FloatKind.format .f64) r2.1 r1.1)) fun q6 =>
Option.bind (flo true (Ieee.Format.add (FloatKind.format .f64) r2.2 r1.2)) fun q7 =>
Option.bind (flo true (Ieee.Format.sub (FloatKind.format .f64) q6 4607182418800017408)) fun q8 =>
Option.bind (flo true (Ieee.Format.sub (FloatKind.format .f64) q7 4607182418800017408)) fun q9 =>
Option.bind (m_suturelaw1_known n) fun r10 =>
must (r10) (decide (((ByteArray.size a0 + ByteArray.size a1 : Nat) : Int) ≤ IntKind.i64.max)) (Option.bind (bif r10 then m_place_Of n (a0 ++ a1) (IntKind.wrap .i64 (((ByteArray.size a0 : Nat) : Int) + r0)) else some (0, 0)) fun r11 =>
some (bif r10 then (cplxEq .f64 r11.1 r11.2 q8 q9) else false)))
else (
Option.bind (m_suturelaw1_known n) fun r12 =>
must (r12) (decide (((ByteArray.size a0 + ByteArray.size a1 : Nat) : Int) ≤ IntKind.i64.max)) (Option.bind (bif r12 then m_place_Of n (a0 ++ a1) (IntKind.wrap .i64 (((ByteArray.size a0 : Nat) : Int) + r0)) else some (0, 0)) fun r13 =>
some (bif r12 then (cplxEq .f64 r13.1 r13.2 q4 q5) else false)))
def enc_suturelaw1_PlaceJoins (r : Bool) : V := (V.t (T.sc (.bool r)))
def encS_suturelaw1_PlaceJoins (r : Bool) : Sig := []
def ok_suturelaw1_PlaceJoins (m : ByteArray → ByteArray → Int → Option (Bool)) : Prop := ∀ (a0 : ByteArray) (a1 : ByteArray) (a2 : Int) (r : Bool), m a0 a1 a2 = some r → FuncOk Tryd.prog 3 [(V.t (T.sc (.string a0))), (V.t (T.sc (.string a1))), (V.t (T.sc (.int .i64 a2)))] [] (enc_suturelaw1_PlaceJoins r) (encS_suturelaw1_PlaceJoins r)
def c_suturelaw1_PlaceJoins (m : ByteArray → ByteArray → Int → Option (Bool)) (vs : List V) (sg : Sig) : Option CallM := bif Nat.beq vs.length 3 && Nat.beq sg.length 0 then Option.bind (V.strOf (vs.getD 0 .any)) fun u0 => Option.bind (V.strOf (vs.getD 1 .any)) fun u1 => Option.bind (V.intOf .i64 (vs.getD 2 .any)) fun u2 => some { α := Bool, m := m u0 u1 u2, dflt := false, enc := fun y => ((V.t (T.sc (.bool y))), []) } else none
theorem c_suturelaw1_PlaceJoins_ok (m : ByteArray → ByteArray → Int → Option (Bool)) (hm : ok_suturelaw1_PlaceJoins m) (vs : List V) (sg : Sig) (cm : CallM) (x : cm.α) (h : c_suturelaw1_PlaceJoins m vs sg = some cm) (hx : cm.m = some x) : FuncOk Tryd.prog 3 vs sg (cm.enc x).1 (cm.enc x).2 := by
  unfold c_suturelaw1_PlaceJoins at h
  have h0 := callee_sig h
  clear h
  obtain ⟨hl, hs, h⟩ := h0
  obtain ⟨u0, hu0, h⟩ := Option.bind_eq_some_iff.1 h
  obtain ⟨u1, hu1, h⟩ := Option.bind_eq_some_iff.1 h
  obtain ⟨u2, hu2, h⟩ := Option.bind_eq_some_iff.1 h
  simp only [Option.some.injEq] at h
  subst h
  exact (hm u0 u1 u2 x hx).wk (args_wk hl (.cons (strOf_wk hu0) (.cons (strOf_wk hu1) (.cons (intOf_wk hu2) .nil)))) (wkSg_of hs .nil)
noncomputable def code_suturelaw1_PlaceJoins : Code := Tryd.f3.body.getD .skip
noncomputable def sp_suturelaw1_PlaceJoins (n : Nat) : Go.Eng.Spec := ⟨fun f vs sg => (match f with
    | 14 => c_suturehand_Pick (m_suturehand_Pick n) vs sg
    | 15 => c_place_Of (m_place_Of n) vs sg
    | 16 => c_suturelaw1_known (m_suturelaw1_known n) vs sg
    | _ => none), fun R key E sg K => (match key with
    | _ => none)⟩
theorem sp_suturelaw1_PlaceJoins_ok (n : Nat) : CallsOk Tryd.prog (sp_suturelaw1_PlaceJoins n) := by
  intro f vs sg cm x h hx
  simp only [sp_suturelaw1_PlaceJoins] at h
  split at h
  · exact c_suturehand_Pick_ok _ (m_suturehand_Pick_ok n) vs sg cm x h hx
  · exact c_place_Of_ok _ (m_place_Of_ok n) vs sg cm x h hx
  · exact c_suturelaw1_known_ok _ (m_suturelaw1_known_ok n) vs sg cm x h hx
  · cases h
theorem code_suturelaw1_PlaceJoins_fn : Tryd.prog.funcs[3]? = some Tryd.f3 := Tryd.func3
theorem code_suturelaw1_PlaceJoins_body : Tryd.f3.body = some code_suturelaw1_PlaceJoins := by kernel_rfl
theorem code_suturelaw1_PlaceJoins_ok : CodeOk Tryd.prog code_suturelaw1_PlaceJoins := (sound 3 _ _ code_suturelaw1_PlaceJoins_fn code_suturelaw1_PlaceJoins_body).1
def K_suturelaw1_PlaceJoins (v : V) (s : Sig) : Option (Bool) := Option.bind (V.boolOf v) fun u0 => some u0
theorem K_suturelaw1_PlaceJoins_wk {v : V} {s : Sig} {r : Bool} (h : K_suturelaw1_PlaceJoins v s = some r) : Wk v (enc_suturelaw1_PlaceJoins r) ∧ WkS 0 s (encS_suturelaw1_PlaceJoins r) := by
  unfold K_suturelaw1_PlaceJoins at h
  obtain ⟨u0, hu0, h⟩ := Option.bind_eq_some_iff.1 h
  simp only [Option.some.injEq] at h
  subst h
  exact ⟨(boolOf_wk hu0), (WkS.none _)⟩
theorem m_suturelaw1_PlaceJoins_eq (n : Nat) (a0 : ByteArray) (a1 : ByteArray) (a2 : Int) : mF Tryd.prog (sp_suturelaw1_PlaceJoins n) 3 [(V.t (T.sc (.string a0))), (V.t (T.sc (.string a1))), (V.t (T.sc (.int .i64 a2)))] [] K_suturelaw1_PlaceJoins = m_suturelaw1_PlaceJoins n a0 a1 a2 := by kernel_rfl
theorem m_suturelaw1_PlaceJoins_ok (n : Nat) : ok_suturelaw1_PlaceJoins (m_suturelaw1_PlaceJoins n) := fun a0 a1 a2 r h => mF_ok sound (sp_suturelaw1_PlaceJoins_ok n) code_suturelaw1_PlaceJoins_fn code_suturelaw1_PlaceJoins_body (fun a ha => absurd ha (by rw [show loopsOf code_suturelaw1_PlaceJoins = [] from by kernel_rfl]; simp)) ((m_suturelaw1_PlaceJoins_eq n a0 a1 a2).trans h) (fun v s hk => ⟨(K_suturelaw1_PlaceJoins_wk hk).1, rfl, (K_suturelaw1_PlaceJoins_wk hk).2⟩)


/-! suture/suturelaw1.PlaceLines -/
def m_suturelaw1_PlaceLines (n : Nat) (a0 : ByteArray) (a1 : Int) (a2 : Int) : Option (Bool) :=
Option.bind (m_suturehand_Pick n a1 (IntKind.wrap .i64 (((ByteArray.size a0 : Nat) : Int) + 1))) fun r0 =>
Option.bind (m_suturehand_Pick n a2 (IntKind.wrap .i64 (((ByteArray.size a0 : Nat) : Int) + 1))) fun r1 =>
must true (decide (0 ≤ 0) && decide (0 ≤ r0) && decide (r0 ≤ ((ByteArray.size a0 : Nat) : Int))) (must true (decide (((ByteArray.size (ByteArray.extract a0 (Int.toNat 0) (Int.toNat r0)) + ByteArray.size (⟨#[10]⟩ : ByteArray) : Nat) : Int) ≤ IntKind.i64.max)) (must true (decide (0 ≤ r0) && decide (r0 ≤ ((ByteArray.size a0 : Nat) : Int)) && decide (((ByteArray.size a0 : Nat) : Int) ≤ ((ByteArray.size a0 : Nat) : Int))) (must true (decide (((ByteArray.size ((ByteArray.extract a0 (Int.toNat 0) (Int.toNat r0)) ++ (⟨#[10]⟩ : ByteArray)) + ByteArray.size (ByteArray.extract a0 (Int.toNat r0) (Int.toNat ((ByteArray.size a0 : Nat) : Int))) : Nat) : Int) ≤ IntKind.i64.max)) (Option.bind (m_place_Of n a0 r1) fun r2 =>
bif (decide ((r1 : Int) < r0)) then (
Option.bind (m_suturelaw1_known n) fun r3 =>
Option.bind (bif r3 then m_place_Of n (((ByteArray.extract a0 (Int.toNat 0) (Int.toNat r0)) ++ (⟨#[10]⟩ : ByteArray)) ++ (ByteArray.extract a0 (Int.toNat r0) (Int.toNat ((ByteArray.size a0 : Nat) : Int)))) r1 else some (0, 0)) fun r4 =>
some (bif r3 then (cplxEq .f64 r4.1 r4.2 r2.1 r2.2) else false))
else (
Option.bind (m_place_Of n (((ByteArray.extract a0 (Int.toNat 0) (Int.toNat r0)) ++ (⟨#[10]⟩ : ByteArray)) ++ (ByteArray.extract a0 (Int.toNat r0) (Int.toNat ((ByteArray.size a0 : Nat) : Int)))) (IntKind.wrap .i64 (r1 + 1))) fun r5 =>
Option.bind (m_place_Of n a0 r0) fun r6 =>
bif ((Ieee.Format.order (FloatKind.format .f64) r2.1 r6.1) == some .eq) then (
Option.bind (m_suturelaw1_known n) fun r7 =>
Option.bind (flo (r7) (Ieee.Format.sub (FloatKind.format .f64) r2.1 r6.1)) fun q8 =>
Option.bind (flo (r7) (Ieee.Format.sub (FloatKind.format .f64) r2.2 r6.2)) fun q9 =>
Option.bind (flo (r7) (Ieee.Format.add (FloatKind.format .f64) r6.1 4607182418800017408)) fun q10 =>
Option.bind (flo (r7) (Ieee.Format.add (FloatKind.format .f64) q8 q10)) fun q11 =>
Option.bind (flo (r7) (Ieee.Format.add (FloatKind.format .f64) q9 4607182418800017408)) fun q12 =>
some (bif r7 then (cplxEq .f64 r5.1 r5.2 q11 q12) else false))
else (
Option.bind (m_suturelaw1_known n) fun r13 =>
Option.bind (flo (r13) (Ieee.Format.add (FloatKind.format .f64) r2.1 4607182418800017408)) fun q14 =>
Option.bind (flo (r13) (Ieee.Format.add (FloatKind.format .f64) r2.2 0)) fun q15 =>
some (bif r13 then (cplxEq .f64 r5.1 r5.2 q14 q15) else false)))))))
def enc_suturelaw1_PlaceLines (r : Bool) : V := (V.t (T.sc (.bool r)))
def encS_suturelaw1_PlaceLines (r : Bool) : Sig := []
def ok_suturelaw1_PlaceLines (m : ByteArray → Int → Int → Option (Bool)) : Prop := ∀ (a0 : ByteArray) (a1 : Int) (a2 : Int) (r : Bool), m a0 a1 a2 = some r → FuncOk Tryd.prog 4 [(V.t (T.sc (.string a0))), (V.t (T.sc (.int .i64 a1))), (V.t (T.sc (.int .i64 a2)))] [] (enc_suturelaw1_PlaceLines r) (encS_suturelaw1_PlaceLines r)
def c_suturelaw1_PlaceLines (m : ByteArray → Int → Int → Option (Bool)) (vs : List V) (sg : Sig) : Option CallM := bif Nat.beq vs.length 3 && Nat.beq sg.length 0 then Option.bind (V.strOf (vs.getD 0 .any)) fun u0 => Option.bind (V.intOf .i64 (vs.getD 1 .any)) fun u1 => Option.bind (V.intOf .i64 (vs.getD 2 .any)) fun u2 => some { α := Bool, m := m u0 u1 u2, dflt := false, enc := fun y => ((V.t (T.sc (.bool y))), []) } else none
theorem c_suturelaw1_PlaceLines_ok (m : ByteArray → Int → Int → Option (Bool)) (hm : ok_suturelaw1_PlaceLines m) (vs : List V) (sg : Sig) (cm : CallM) (x : cm.α) (h : c_suturelaw1_PlaceLines m vs sg = some cm) (hx : cm.m = some x) : FuncOk Tryd.prog 4 vs sg (cm.enc x).1 (cm.enc x).2 := by
  unfold c_suturelaw1_PlaceLines at h
  have h0 := callee_sig h
  clear h
  obtain ⟨hl, hs, h⟩ := h0
  obtain ⟨u0, hu0, h⟩ := Option.bind_eq_some_iff.1 h
  obtain ⟨u1, hu1, h⟩ := Option.bind_eq_some_iff.1 h
  obtain ⟨u2, hu2, h⟩ := Option.bind_eq_some_iff.1 h
  simp only [Option.some.injEq] at h
  subst h
  exact (hm u0 u1 u2 x hx).wk (args_wk hl (.cons (strOf_wk hu0) (.cons (intOf_wk hu1) (.cons (intOf_wk hu2) .nil)))) (wkSg_of hs .nil)
noncomputable def code_suturelaw1_PlaceLines : Code := Tryd.f4.body.getD .skip
noncomputable def sp_suturelaw1_PlaceLines (n : Nat) : Go.Eng.Spec := ⟨fun f vs sg => (match f with
    | 14 => c_suturehand_Pick (m_suturehand_Pick n) vs sg
    | 15 => c_place_Of (m_place_Of n) vs sg
    | 16 => c_suturelaw1_known (m_suturelaw1_known n) vs sg
    | _ => none), fun R key E sg K => (match key with
    | _ => none)⟩
theorem sp_suturelaw1_PlaceLines_ok (n : Nat) : CallsOk Tryd.prog (sp_suturelaw1_PlaceLines n) := by
  intro f vs sg cm x h hx
  simp only [sp_suturelaw1_PlaceLines] at h
  split at h
  · exact c_suturehand_Pick_ok _ (m_suturehand_Pick_ok n) vs sg cm x h hx
  · exact c_place_Of_ok _ (m_place_Of_ok n) vs sg cm x h hx
  · exact c_suturelaw1_known_ok _ (m_suturelaw1_known_ok n) vs sg cm x h hx
  · cases h
theorem code_suturelaw1_PlaceLines_fn : Tryd.prog.funcs[4]? = some Tryd.f4 := Tryd.func4
theorem code_suturelaw1_PlaceLines_body : Tryd.f4.body = some code_suturelaw1_PlaceLines := by kernel_rfl
theorem code_suturelaw1_PlaceLines_ok : CodeOk Tryd.prog code_suturelaw1_PlaceLines := (sound 4 _ _ code_suturelaw1_PlaceLines_fn code_suturelaw1_PlaceLines_body).1
def K_suturelaw1_PlaceLines (v : V) (s : Sig) : Option (Bool) := Option.bind (V.boolOf v) fun u0 => some u0
theorem K_suturelaw1_PlaceLines_wk {v : V} {s : Sig} {r : Bool} (h : K_suturelaw1_PlaceLines v s = some r) : Wk v (enc_suturelaw1_PlaceLines r) ∧ WkS 0 s (encS_suturelaw1_PlaceLines r) := by
  unfold K_suturelaw1_PlaceLines at h
  obtain ⟨u0, hu0, h⟩ := Option.bind_eq_some_iff.1 h
  simp only [Option.some.injEq] at h
  subst h
  exact ⟨(boolOf_wk hu0), (WkS.none _)⟩
theorem m_suturelaw1_PlaceLines_eq (n : Nat) (a0 : ByteArray) (a1 : Int) (a2 : Int) : mF Tryd.prog (sp_suturelaw1_PlaceLines n) 4 [(V.t (T.sc (.string a0))), (V.t (T.sc (.int .i64 a1))), (V.t (T.sc (.int .i64 a2)))] [] K_suturelaw1_PlaceLines = m_suturelaw1_PlaceLines n a0 a1 a2 := by kernel_rfl
theorem m_suturelaw1_PlaceLines_ok (n : Nat) : ok_suturelaw1_PlaceLines (m_suturelaw1_PlaceLines n) := fun a0 a1 a2 r h => mF_ok sound (sp_suturelaw1_PlaceLines_ok n) code_suturelaw1_PlaceLines_fn code_suturelaw1_PlaceLines_body (fun a ha => absurd ha (by rw [show loopsOf code_suturelaw1_PlaceLines = [] from by kernel_rfl]; simp)) ((m_suturelaw1_PlaceLines_eq n a0 a1 a2).trans h) (fun v s hk => ⟨(K_suturelaw1_PlaceLines_wk hk).1, rfl, (K_suturelaw1_PlaceLines_wk hk).2⟩)


/-! suture/place.Back -/
def l_place_Back_2_B (n : Nat) (k : ByteArray × (Nat × Nat) × Int × Int → Option (((Int × Bool) ⊕ Unit))) : ByteArray × (Nat × Nat) × Int × Int → Option (((Int × Bool) ⊕ Unit)) := fun (s0, s1, s2, s3) =>
bif (decide ((s3 : Int) < s2)) then (
Option.bind (m_place_Of n s0 s3) fun r0 =>
bif (cplxEq .f64 r0.1 r0.2 s1.1 s1.2) then (
some (Sum.inl (s3, true)))
else (
k (s0, s1, s2, (IntKind.wrap .i64 (s3 + 1)))))
else (
some (Sum.inr ()))
def l_place_Back_2 (n : Nat) : Nat → ByteArray × (Nat × Nat) × Int × Int → Option (((Int × Bool) ⊕ Unit))
  | 0, _ => none
  | m + 1, s => l_place_Back_2_B n (l_place_Back_2 n m) s
def m_place_Back (n : Nat) (a0 : ByteArray) (a1 : Nat × Nat) : Option (Int × Bool) :=
Option.bind (l_place_Back_2 n n (a0, a1, (IntKind.wrap .i64 (((ByteArray.size a0 : Nat) : Int) + 1)), 0)) fun x1 =>
Sum.elim (fun p2 => 
some (p2.1, p2.2)) (fun x1' => (fun p3 => 
some (0, false)) x1') x1
def enc_place_Back (r : Int × Bool) : V := (V.tup [(V.t (T.sc (.int .i64 r.1))), (V.t (T.sc (.bool r.2)))])
def encS_place_Back (r : Int × Bool) : Sig := []
def ok_place_Back (m : ByteArray → Nat × Nat → Option (Int × Bool)) : Prop := ∀ (a0 : ByteArray) (a1 : Nat × Nat) (r : Int × Bool), m a0 a1 = some r → FuncOk Tryd.prog 20 [(V.t (T.sc (.string a0))), (V.t (T.sc (.complex .f64 a1.1 a1.2)))] [] (enc_place_Back r) (encS_place_Back r)
def c_place_Back (m : ByteArray → Nat × Nat → Option (Int × Bool)) (vs : List V) (sg : Sig) : Option CallM := bif Nat.beq vs.length 2 && Nat.beq sg.length 0 then Option.bind (V.strOf (vs.getD 0 .any)) fun u0 => Option.bind (V.cplxOf .f64 (vs.getD 1 .any)) fun u1 => some { α := Int × Bool, m := m u0 u1, dflt := (0, false), enc := fun y => ((V.tup [(V.t (T.sc (.int .i64 y.1))), (V.t (T.sc (.bool y.2)))]), []) } else none
theorem c_place_Back_ok (m : ByteArray → Nat × Nat → Option (Int × Bool)) (hm : ok_place_Back m) (vs : List V) (sg : Sig) (cm : CallM) (x : cm.α) (h : c_place_Back m vs sg = some cm) (hx : cm.m = some x) : FuncOk Tryd.prog 20 vs sg (cm.enc x).1 (cm.enc x).2 := by
  unfold c_place_Back at h
  have h0 := callee_sig h
  clear h
  obtain ⟨hl, hs, h⟩ := h0
  obtain ⟨u0, hu0, h⟩ := Option.bind_eq_some_iff.1 h
  obtain ⟨u1, hu1, h⟩ := Option.bind_eq_some_iff.1 h
  simp only [Option.some.injEq] at h
  subst h
  exact (hm u0 u1 x hx).wk (args_wk hl (.cons (strOf_wk hu0) (.cons (cplxOf_wk hu1) .nil))) (wkSg_of hs .nil)
noncomputable def code_place_Back : Code := Tryd.f20.body.getD .skip
def l_place_Back_2_S (n : Nat) (R : Type) (E : SEnv) (sg : Sig) (K : Ex → SEnv → Sig → Option R) : Option R := Option.bind (V.strOf (SEnv.at E 0)) fun u0 => Option.bind (V.cplxOf .f64 (SEnv.at E 1)) fun u1 => Option.bind (V.intOf .i64 (SEnv.at E 9)) fun u2 => Option.bind (V.intOf .i64 (SEnv.at E 10)) fun u3 => Option.bind (l_place_Back_2 n n (u0, u1, u2, u3)) fun y => Sum.elim (fun p0 => K .ret [(4, (V.t (T.sc (.int .i64 p0.1)))), (5, (V.t (T.sc (.bool p0.2))))] []) (fun y' => (fun p1 => K (.exit 0) [] []) y') y
noncomputable def sp_place_Back (n : Nat) : Go.Eng.Spec := ⟨fun f vs sg => (match f with
    | 15 => c_place_Of (m_place_Of n) vs sg
    | _ => none), fun R key E sg K => (match key with
    | 2 => l_place_Back_2_S n R E sg K
    | _ => none)⟩
theorem sp_place_Back_ok (n : Nat) : CallsOk Tryd.prog (sp_place_Back n) := by
  intro f vs sg cm x h hx
  simp only [sp_place_Back] at h
  split at h
  · exact c_place_Of_ok _ (m_place_Of_ok n) vs sg cm x h hx
  · cases h
theorem code_place_Back_fn : Tryd.prog.funcs[20]? = some Tryd.f20 := Tryd.func20
theorem code_place_Back_body : Tryd.f20.body = some code_place_Back := by kernel_rfl
theorem code_place_Back_ok : CodeOk Tryd.prog code_place_Back := (sound 20 _ _ code_place_Back_fn code_place_Back_body).1
noncomputable def code_l_place_Back_2 : Code := (loopsOf code_place_Back).getD 0 .skip
theorem code_l_place_Back_2_ok : CodeOk Tryd.prog code_l_place_Back_2 := codeOk_loops code_place_Back_ok _ (getD_mem (by kernel_rfl))
def l_place_Back_2_K (k : ByteArray × (Nat × Nat) × Int × Int → Option (((Int × Bool) ⊕ Unit))) : Ex → SEnv → Sig → Option (((Int × Bool) ⊕ Unit)) := fun x E sg => match x with
  | .normal => Option.bind (V.strOf (SEnv.at E 0)) fun u0 => Option.bind (V.cplxOf .f64 (SEnv.at E 1)) fun u1 => Option.bind (V.intOf .i64 (SEnv.at E 9)) fun u2 => Option.bind (V.intOf .i64 (SEnv.at E 10)) fun u3 => k (u0, u1, u2, u3)
  | .ret => Option.bind (V.intOf .i64 (SEnv.at E 4)) fun u0 => Option.bind (V.boolOf (SEnv.at E 5)) fun u1 => some (Sum.inl (u0, u1))
  | (.exit 0) => some (Sum.inr ())
  | _ => none
theorem l_place_Back_2_eq (n : Nat) (k : ByteArray × (Nat × Nat) × Int × Int → Option (((Int × Bool) ⊕ Unit))) (s0 : ByteArray) (s1 : Nat × Nat) (s2 : Int) (s3 : Int) : mX Tryd.prog (sp_place_Back n) 20 code_l_place_Back_2 [(0, (V.t (T.sc (.string s0)))), (1, (V.t (T.sc (.complex .f64 s1.1 s1.2)))), (9, (V.t (T.sc (.int .i64 s2)))), (10, (V.t (T.sc (.int .i64 s3))))] [] (l_place_Back_2_K k) = l_place_Back_2_B n k (s0, s1, s2, s3) := by kernel_rfl
def l_place_Back_2_Q (x : ((Int × Bool) ⊕ Unit)) (ex : Ex) (e : Env) (s : Sig) : Prop := Sum.elim (fun p0 => (ex = .ret ∧ e = SEnv.env 20 [(4, (V.t (T.sc (.int .i64 p0.1)))), (5, (V.t (T.sc (.bool p0.2))))] ∧ s = [])) (fun x' => (fun p1 => (ex = (.exit 0) ∧ e = SEnv.env 20 [] ∧ s = [])) x') x
theorem l_place_Back_2_run (n : Nat) : ∀ (m : Nat) (s0 : ByteArray) (s1 : Nat × Nat) (s2 : Int) (s3 : Int) (x : ((Int × Bool) ⊕ Unit)), l_place_Back_2 n m (s0, s1, s2, s3) = some x → SemL Tryd.prog 0 code_l_place_Back_2 (SEnv.env 20 [(0, (V.t (T.sc (.string s0)))), (1, (V.t (T.sc (.complex .f64 s1.1 s1.2)))), (9, (V.t (T.sc (.int .i64 s2)))), (10, (V.t (T.sc (.int .i64 s3))))]) [] (l_place_Back_2_Q x)
  | 0, s0, s1, s2, s3, x, h => by cases h
  | m + 1, s0, s1, s2, s3, x, h => by
    refine loop_step (sp_place_Back_ok n) code_l_place_Back_2_ok (fun a ha => absurd ha (by rw [show loopsOf code_l_place_Back_2 = [] from by kernel_rfl]; simp)) ((l_place_Back_2_eq n _ s0 s1 s2 s3).trans h) (fun E sg h => ?_) (fun ex E sg hne h => ?_)
    · simp only [l_place_Back_2_K] at h
      obtain ⟨u0, hu0, h⟩ := Option.bind_eq_some_iff.1 h
      obtain ⟨u1, hu1, h⟩ := Option.bind_eq_some_iff.1 h
      obtain ⟨u2, hu2, h⟩ := Option.bind_eq_some_iff.1 h
      obtain ⟨u3, hu3, h⟩ := Option.bind_eq_some_iff.1 h
      exact SemL.pre (k := 0) (by decide) (WkA.env (WkA.cons (strOf_wk hu0) rfl (WkA.cons (cplxOf_wk hu1) rfl (WkA.cons (intOf_wk hu2) rfl (WkA.cons (intOf_wk hu3) rfl WkA.nil)))) 20) (WkS.none _) (l_place_Back_2_run n m _ _ _ _ x h)
    · unfold l_place_Back_2_K at h
      split at h
      · exact absurd rfl hne
      · obtain ⟨u0, hu0, h⟩ := Option.bind_eq_some_iff.1 h
        obtain ⟨u1, hu1, h⟩ := Option.bind_eq_some_iff.1 h
        simp only [Option.some.injEq] at h
        subst h
        exact ⟨0, _, _, by decide, WkA.env (WkA.cons (intOf_wk hu0) rfl (WkA.cons (boolOf_wk hu1) rfl WkA.nil)) 20, (WkS.none _), rfl, rfl, rfl⟩
      · simp only [Option.some.injEq] at h
        subst h
        exact ⟨0, _, _, by decide, WkA.env WkA.nil 20, (WkS.none _), rfl, rfl, rfl⟩
      · cases h
theorem l_place_Back_2_ok (n : Nat) : LoopOk Tryd.prog (sp_place_Back n) 0 20 code_l_place_Back_2 := by
    intro R key E sg K r hk h
    rw [show Go.Eng.keyOf code_l_place_Back_2 = some 2 from by kernel_rfl] at hk
    cases hk
    have h : l_place_Back_2_S n R E sg K = some r := h
    unfold l_place_Back_2_S at h
    obtain ⟨u0, hu0, h⟩ := Option.bind_eq_some_iff.1 h
    obtain ⟨u1, hu1, h⟩ := Option.bind_eq_some_iff.1 h
    obtain ⟨u2, hu2, h⟩ := Option.bind_eq_some_iff.1 h
    obtain ⟨u3, hu3, h⟩ := Option.bind_eq_some_iff.1 h
    obtain ⟨x, hx, h⟩ := Option.bind_eq_some_iff.1 h
    refine (SemL.pre (k := 0) (by decide) (WkA.env (WkA.cons (strOf_wk hu0) rfl (WkA.cons (cplxOf_wk hu1) rfl (WkA.cons (intOf_wk hu2) rfl (WkA.cons (intOf_wk hu3) rfl WkA.nil)))) 20) (WkS.none _) (l_place_Back_2_run n n _ _ _ _ x hx)).mono ?_
    intro ex e s hq
    rcases x with x | x <;> (obtain ⟨rfl, rfl, rfl⟩ := hq; exact ⟨_, rfl, h⟩) -- 5
def K_place_Back (v : V) (s : Sig) : Option (Int × Bool) := Option.bind (V.tupN 2 v) fun u0 => Option.bind (V.intOf .i64 (u0.getD 0 .any)) fun u1 => Option.bind (V.boolOf (u0.getD 1 .any)) fun u2 => some (u1, u2)
theorem K_place_Back_wk {v : V} {s : Sig} {r : Int × Bool} (h : K_place_Back v s = some r) : Wk v (enc_place_Back r) ∧ WkS 0 s (encS_place_Back r) := by
  unfold K_place_Back at h
  obtain ⟨u0, hu0, h⟩ := Option.bind_eq_some_iff.1 h
  obtain ⟨u1, hu1, h⟩ := Option.bind_eq_some_iff.1 h
  obtain ⟨u2, hu2, h⟩ := Option.bind_eq_some_iff.1 h
  simp only [Option.some.injEq] at h
  subst h
  exact ⟨(tupN_wk hu0 (.cons (intOf_wk hu1) (.cons (boolOf_wk hu2) .nil))), (WkS.none _)⟩
theorem m_place_Back_eq (n : Nat) (a0 : ByteArray) (a1 : Nat × Nat) : mF Tryd.prog (sp_place_Back n) 20 [(V.t (T.sc (.string a0))), (V.t (T.sc (.complex .f64 a1.1 a1.2)))] [] K_place_Back = m_place_Back n a0 a1 := by kernel_rfl
theorem m_place_Back_ok (n : Nat) : ok_place_Back (m_place_Back n) := fun a0 a1 r h => mF_ok sound (sp_place_Back_ok n) code_place_Back_fn code_place_Back_body (forall_getD (d := .skip) 1 (by kernel_rfl) (fun i hi => match i, hi with | 0, _ => l_place_Back_2_ok n | i + 1, hi => absurd hi (by omega))) ((m_place_Back_eq n a0 a1).trans h) (fun v s hk => ⟨(K_place_Back_wk hk).1, rfl, (K_place_Back_wk hk).2⟩)


/-! suture/place.Less -/
def m_place_Less (n : Nat) (a0 : Nat × Nat) (a1 : Nat × Nat) : Option (Bool) :=
bif ((Ieee.Format.order (FloatKind.format .f64) a0.1 a1.1) != some .eq) then (
some ((Ieee.Format.order (FloatKind.format .f64) a0.1 a1.1) == some .lt))
else (
some ((Ieee.Format.order (FloatKind.format .f64) a0.2 a1.2) == some .lt))
def enc_place_Less (r : Bool) : V := (V.t (T.sc (.bool r)))
def encS_place_Less (r : Bool) : Sig := []
def ok_place_Less (m : Nat × Nat → Nat × Nat → Option (Bool)) : Prop := ∀ (a0 : Nat × Nat) (a1 : Nat × Nat) (r : Bool), m a0 a1 = some r → FuncOk Tryd.prog 22 [(V.t (T.sc (.complex .f64 a0.1 a0.2))), (V.t (T.sc (.complex .f64 a1.1 a1.2)))] [] (enc_place_Less r) (encS_place_Less r)
def c_place_Less (m : Nat × Nat → Nat × Nat → Option (Bool)) (vs : List V) (sg : Sig) : Option CallM := bif Nat.beq vs.length 2 && Nat.beq sg.length 0 then Option.bind (V.cplxOf .f64 (vs.getD 0 .any)) fun u0 => Option.bind (V.cplxOf .f64 (vs.getD 1 .any)) fun u1 => some { α := Bool, m := m u0 u1, dflt := false, enc := fun y => ((V.t (T.sc (.bool y))), []) } else none
theorem c_place_Less_ok (m : Nat × Nat → Nat × Nat → Option (Bool)) (hm : ok_place_Less m) (vs : List V) (sg : Sig) (cm : CallM) (x : cm.α) (h : c_place_Less m vs sg = some cm) (hx : cm.m = some x) : FuncOk Tryd.prog 22 vs sg (cm.enc x).1 (cm.enc x).2 := by
  unfold c_place_Less at h
  have h0 := callee_sig h
  clear h
  obtain ⟨hl, hs, h⟩ := h0
  obtain ⟨u0, hu0, h⟩ := Option.bind_eq_some_iff.1 h
  obtain ⟨u1, hu1, h⟩ := Option.bind_eq_some_iff.1 h
  simp only [Option.some.injEq] at h
  subst h
  exact (hm u0 u1 x hx).wk (args_wk hl (.cons (cplxOf_wk hu0) (.cons (cplxOf_wk hu1) .nil))) (wkSg_of hs .nil)
noncomputable def code_place_Less : Code := Tryd.f22.body.getD .skip
noncomputable def sp_place_Less (n : Nat) : Go.Eng.Spec := ⟨fun f vs sg => (match f with
    | _ => none), fun R key E sg K => (match key with
    | _ => none)⟩
theorem sp_place_Less_ok (n : Nat) : CallsOk Tryd.prog (sp_place_Less n) := by
  intro f vs sg cm x h hx
  have h : (none : Option CallM) = some cm := h
  cases h
theorem code_place_Less_fn : Tryd.prog.funcs[22]? = some Tryd.f22 := Tryd.func22
theorem code_place_Less_body : Tryd.f22.body = some code_place_Less := by kernel_rfl
theorem code_place_Less_ok : CodeOk Tryd.prog code_place_Less := (sound 22 _ _ code_place_Less_fn code_place_Less_body).1
def K_place_Less (v : V) (s : Sig) : Option (Bool) := Option.bind (V.boolOf v) fun u0 => some u0
theorem K_place_Less_wk {v : V} {s : Sig} {r : Bool} (h : K_place_Less v s = some r) : Wk v (enc_place_Less r) ∧ WkS 0 s (encS_place_Less r) := by
  unfold K_place_Less at h
  obtain ⟨u0, hu0, h⟩ := Option.bind_eq_some_iff.1 h
  simp only [Option.some.injEq] at h
  subst h
  exact ⟨(boolOf_wk hu0), (WkS.none _)⟩
theorem m_place_Less_eq (n : Nat) (a0 : Nat × Nat) (a1 : Nat × Nat) : mF Tryd.prog (sp_place_Less n) 22 [(V.t (T.sc (.complex .f64 a0.1 a0.2))), (V.t (T.sc (.complex .f64 a1.1 a1.2)))] [] K_place_Less = m_place_Less n a0 a1 := by kernel_rfl
theorem m_place_Less_ok (n : Nat) : ok_place_Less (m_place_Less n) := fun a0 a1 r h => mF_ok sound (sp_place_Less_ok n) code_place_Less_fn code_place_Less_body (fun a ha => absurd ha (by rw [show loopsOf code_place_Less = [] from by kernel_rfl]; simp)) ((m_place_Less_eq n a0 a1).trans h) (fun v s hk => ⟨(K_place_Less_wk hk).1, rfl, (K_place_Less_wk hk).2⟩)


/-! suture/suturelaw1.PlaceApart -/
def m_suturelaw1_PlaceApart (n : Nat) (a0 : ByteArray) (a1 : Int) (a2 : Int) : Option (Bool) :=
Option.bind (m_suturehand_Pick n a1 (IntKind.wrap .i64 (((ByteArray.size a0 : Nat) : Int) + 1))) fun r0 =>
Option.bind (m_suturehand_Pick n a2 (IntKind.wrap .i64 (((ByteArray.size a0 : Nat) : Int) + 1))) fun r1 =>
Option.bind (m_place_Of n a0 r0) fun r2 =>
Option.bind (m_place_Of n a0 r1) fun r3 =>
Option.bind (m_place_Back n a0 r2) fun r4 =>
Option.bind (m_suturelaw1_known n) fun r5 =>
Option.bind (bif (bif (bif (bif r5 then r4.2 else false) then ((r4.1 : Int) == r0) else false) then ((cplxEq .f64 r2.1 r2.2 r3.1 r3.2) == ((r0 : Int) == r1)) else false) then m_place_Less n r2 r3 else some false) fun r6 =>
Option.bind (bif (bif (bif (bif (bif r5 then r4.2 else false) then ((r4.1 : Int) == r0) else false) then ((cplxEq .f64 r2.1 r2.2 r3.1 r3.2) == ((r0 : Int) == r1)) else false) then (r6 == (decide ((r0 : Int) < r1))) else false) then m_place_Less n r3 r2 else some false) fun r7 =>
some (bif (bif (bif (bif (bif r5 then r4.2 else false) then ((r4.1 : Int) == r0) else false) then ((cplxEq .f64 r2.1 r2.2 r3.1 r3.2) == ((r0 : Int) == r1)) else false) then (r6 == (decide ((r0 : Int) < r1))) else false) then (r7 == (decide ((r1 : Int) < r0))) else false)
def enc_suturelaw1_PlaceApart (r : Bool) : V := (V.t (T.sc (.bool r)))
def encS_suturelaw1_PlaceApart (r : Bool) : Sig := []
def ok_suturelaw1_PlaceApart (m : ByteArray → Int → Int → Option (Bool)) : Prop := ∀ (a0 : ByteArray) (a1 : Int) (a2 : Int) (r : Bool), m a0 a1 a2 = some r → FuncOk Tryd.prog 8 [(V.t (T.sc (.string a0))), (V.t (T.sc (.int .i64 a1))), (V.t (T.sc (.int .i64 a2)))] [] (enc_suturelaw1_PlaceApart r) (encS_suturelaw1_PlaceApart r)
def c_suturelaw1_PlaceApart (m : ByteArray → Int → Int → Option (Bool)) (vs : List V) (sg : Sig) : Option CallM := bif Nat.beq vs.length 3 && Nat.beq sg.length 0 then Option.bind (V.strOf (vs.getD 0 .any)) fun u0 => Option.bind (V.intOf .i64 (vs.getD 1 .any)) fun u1 => Option.bind (V.intOf .i64 (vs.getD 2 .any)) fun u2 => some { α := Bool, m := m u0 u1 u2, dflt := false, enc := fun y => ((V.t (T.sc (.bool y))), []) } else none
theorem c_suturelaw1_PlaceApart_ok (m : ByteArray → Int → Int → Option (Bool)) (hm : ok_suturelaw1_PlaceApart m) (vs : List V) (sg : Sig) (cm : CallM) (x : cm.α) (h : c_suturelaw1_PlaceApart m vs sg = some cm) (hx : cm.m = some x) : FuncOk Tryd.prog 8 vs sg (cm.enc x).1 (cm.enc x).2 := by
  unfold c_suturelaw1_PlaceApart at h
  have h0 := callee_sig h
  clear h
  obtain ⟨hl, hs, h⟩ := h0
  obtain ⟨u0, hu0, h⟩ := Option.bind_eq_some_iff.1 h
  obtain ⟨u1, hu1, h⟩ := Option.bind_eq_some_iff.1 h
  obtain ⟨u2, hu2, h⟩ := Option.bind_eq_some_iff.1 h
  simp only [Option.some.injEq] at h
  subst h
  exact (hm u0 u1 u2 x hx).wk (args_wk hl (.cons (strOf_wk hu0) (.cons (intOf_wk hu1) (.cons (intOf_wk hu2) .nil)))) (wkSg_of hs .nil)
noncomputable def code_suturelaw1_PlaceApart : Code := Tryd.f8.body.getD .skip
noncomputable def sp_suturelaw1_PlaceApart (n : Nat) : Go.Eng.Spec := ⟨fun f vs sg => (match f with
    | 14 => c_suturehand_Pick (m_suturehand_Pick n) vs sg
    | 15 => c_place_Of (m_place_Of n) vs sg
    | 20 => c_place_Back (m_place_Back n) vs sg
    | 16 => c_suturelaw1_known (m_suturelaw1_known n) vs sg
    | 22 => c_place_Less (m_place_Less n) vs sg
    | _ => none), fun R key E sg K => (match key with
    | _ => none)⟩
theorem sp_suturelaw1_PlaceApart_ok (n : Nat) : CallsOk Tryd.prog (sp_suturelaw1_PlaceApart n) := by
  intro f vs sg cm x h hx
  simp only [sp_suturelaw1_PlaceApart] at h
  split at h
  · exact c_suturehand_Pick_ok _ (m_suturehand_Pick_ok n) vs sg cm x h hx
  · exact c_place_Of_ok _ (m_place_Of_ok n) vs sg cm x h hx
  · exact c_place_Back_ok _ (m_place_Back_ok n) vs sg cm x h hx
  · exact c_suturelaw1_known_ok _ (m_suturelaw1_known_ok n) vs sg cm x h hx
  · exact c_place_Less_ok _ (m_place_Less_ok n) vs sg cm x h hx
  · cases h
theorem code_suturelaw1_PlaceApart_fn : Tryd.prog.funcs[8]? = some Tryd.f8 := Tryd.func8
theorem code_suturelaw1_PlaceApart_body : Tryd.f8.body = some code_suturelaw1_PlaceApart := by kernel_rfl
theorem code_suturelaw1_PlaceApart_ok : CodeOk Tryd.prog code_suturelaw1_PlaceApart := (sound 8 _ _ code_suturelaw1_PlaceApart_fn code_suturelaw1_PlaceApart_body).1
def K_suturelaw1_PlaceApart (v : V) (s : Sig) : Option (Bool) := Option.bind (V.boolOf v) fun u0 => some u0
theorem K_suturelaw1_PlaceApart_wk {v : V} {s : Sig} {r : Bool} (h : K_suturelaw1_PlaceApart v s = some r) : Wk v (enc_suturelaw1_PlaceApart r) ∧ WkS 0 s (encS_suturelaw1_PlaceApart r) := by
  unfold K_suturelaw1_PlaceApart at h
  obtain ⟨u0, hu0, h⟩ := Option.bind_eq_some_iff.1 h
  simp only [Option.some.injEq] at h
  subst h
  exact ⟨(boolOf_wk hu0), (WkS.none _)⟩
theorem m_suturelaw1_PlaceApart_eq (n : Nat) (a0 : ByteArray) (a1 : Int) (a2 : Int) : mF Tryd.prog (sp_suturelaw1_PlaceApart n) 8 [(V.t (T.sc (.string a0))), (V.t (T.sc (.int .i64 a1))), (V.t (T.sc (.int .i64 a2)))] [] K_suturelaw1_PlaceApart = m_suturelaw1_PlaceApart n a0 a1 a2 := by kernel_rfl
theorem m_suturelaw1_PlaceApart_ok (n : Nat) : ok_suturelaw1_PlaceApart (m_suturelaw1_PlaceApart n) := fun a0 a1 a2 r h => mF_ok sound (sp_suturelaw1_PlaceApart_ok n) code_suturelaw1_PlaceApart_fn code_suturelaw1_PlaceApart_body (fun a ha => absurd ha (by rw [show loopsOf code_suturelaw1_PlaceApart = [] from by kernel_rfl]; simp)) ((m_suturelaw1_PlaceApart_eq n a0 a1 a2).trans h) (fun v s hk => ⟨(K_suturelaw1_PlaceApart_wk hk).1, rfl, (K_suturelaw1_PlaceApart_wk hk).2⟩)

end Go.Proofs.YtkolhagejiabhaaDoor.W
