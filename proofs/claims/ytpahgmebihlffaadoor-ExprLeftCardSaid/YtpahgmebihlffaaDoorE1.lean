/- What the engine's walk comes to, printed by a program of this work: for each function its model, and that it is one. No conditions. -/
import Derived.Test.YtpahgmebihlffaaDoorOper
namespace Go.Proofs.YtpahgmebihlffaaDoor.W
open Go Go.Eng
set_option linter.unusedVariables false
set_option linter.unusedSimpArgs false
set_option maxRecDepth 100000


/-! strings.Count: from elsewhere -/
def m_strings_Count (n : Nat) (a0 : ByteArray) (a1 : ByteArray) : Option (Int) := cntM a0 a1
def enc_strings_Count (r : Int) : V := (V.t (T.sc (.int .i64 r)))
def encS_strings_Count (r : Int) : Sig := []
def ok_strings_Count (m : ByteArray → ByteArray → Option (Int)) : Prop := ∀ (a0 : ByteArray) (a1 : ByteArray) (r : Int), m a0 a1 = some r → FuncOk Tryd.prog 35 [(V.t (T.sc (.string a0))), (V.t (T.sc (.string a1)))] [] (enc_strings_Count r) (encS_strings_Count r)
def c_strings_Count (m : ByteArray → ByteArray → Option (Int)) (vs : List V) (sg : Sig) : Option CallM := bif Nat.beq vs.length 2 && Nat.beq sg.length 0 then Option.bind (V.strOf (vs.getD 0 .any)) fun u0 => Option.bind (V.strOf (vs.getD 1 .any)) fun u1 => some { α := Int, m := m u0 u1, dflt := 0, enc := fun y => ((V.t (T.sc (.int .i64 y))), []) } else none
theorem c_strings_Count_ok (m : ByteArray → ByteArray → Option (Int)) (hm : ok_strings_Count m) (vs : List V) (sg : Sig) (cm : CallM) (x : cm.α) (h : c_strings_Count m vs sg = some cm) (hx : cm.m = some x) : FuncOk Tryd.prog 35 vs sg (cm.enc x).1 (cm.enc x).2 := by
  unfold c_strings_Count at h
  have h0 := callee_sig h
  clear h
  obtain ⟨hl, hs, h⟩ := h0
  obtain ⟨u0, hu0, h⟩ := Option.bind_eq_some_iff.1 h
  obtain ⟨u1, hu1, h⟩ := Option.bind_eq_some_iff.1 h
  simp only [Option.some.injEq] at h
  subst h
  exact (hm u0 u1 x hx).wk (args_wk hl (.cons (strOf_wk hu0) (.cons (strOf_wk hu1) .nil))) (wkSg_of hs .nil)
theorem m_strings_Count_ok (n : Nat) : ok_strings_Count (m_strings_Count n) := fun a0 a1 r h => x_strings_Count h


/-! strings.LastIndexByte: from elsewhere -/
def m_strings_LastIndexByte (n : Nat) (a0 : ByteArray) (a1 : Int) : Option (Int) := lastM a0 a1
def enc_strings_LastIndexByte (r : Int) : V := (V.t (T.sc (.int .i64 r)))
def encS_strings_LastIndexByte (r : Int) : Sig := []
def ok_strings_LastIndexByte (m : ByteArray → Int → Option (Int)) : Prop := ∀ (a0 : ByteArray) (a1 : Int) (r : Int), m a0 a1 = some r → FuncOk Tryd.prog 36 [(V.t (T.sc (.string a0))), (V.t (T.sc (.int .u8 a1)))] [] (enc_strings_LastIndexByte r) (encS_strings_LastIndexByte r)
def c_strings_LastIndexByte (m : ByteArray → Int → Option (Int)) (vs : List V) (sg : Sig) : Option CallM := bif Nat.beq vs.length 2 && Nat.beq sg.length 0 then Option.bind (V.strOf (vs.getD 0 .any)) fun u0 => Option.bind (V.intOf .u8 (vs.getD 1 .any)) fun u1 => some { α := Int, m := m u0 u1, dflt := 0, enc := fun y => ((V.t (T.sc (.int .i64 y))), []) } else none
theorem c_strings_LastIndexByte_ok (m : ByteArray → Int → Option (Int)) (hm : ok_strings_LastIndexByte m) (vs : List V) (sg : Sig) (cm : CallM) (x : cm.α) (h : c_strings_LastIndexByte m vs sg = some cm) (hx : cm.m = some x) : FuncOk Tryd.prog 36 vs sg (cm.enc x).1 (cm.enc x).2 := by
  unfold c_strings_LastIndexByte at h
  have h0 := callee_sig h
  clear h
  obtain ⟨hl, hs, h⟩ := h0
  obtain ⟨u0, hu0, h⟩ := Option.bind_eq_some_iff.1 h
  obtain ⟨u1, hu1, h⟩ := Option.bind_eq_some_iff.1 h
  simp only [Option.some.injEq] at h
  subst h
  exact (hm u0 u1 x hx).wk (args_wk hl (.cons (strOf_wk hu0) (.cons (intOf_wk hu1) .nil))) (wkSg_of hs .nil)
theorem m_strings_LastIndexByte_ok (n : Nat) : ok_strings_LastIndexByte (m_strings_LastIndexByte n) := fun a0 a1 r h => x_strings_LastIndexByte h


/-! suture/place.Of -/
def m_place_Of (n : Nat) (a0 : ByteArray) (a1 : Int) : Option ((Nat × Nat)) :=
must true (decide (0 ≤ 0) && decide (0 ≤ (if (0 : Int) < (if (((ByteArray.size a0 : Nat) : Int) : Int) < a1 then ((ByteArray.size a0 : Nat) : Int) else a1) then (if (((ByteArray.size a0 : Nat) : Int) : Int) < a1 then ((ByteArray.size a0 : Nat) : Int) else a1) else 0)) && decide ((if (0 : Int) < (if (((ByteArray.size a0 : Nat) : Int) : Int) < a1 then ((ByteArray.size a0 : Nat) : Int) else a1) then (if (((ByteArray.size a0 : Nat) : Int) : Int) < a1 then ((ByteArray.size a0 : Nat) : Int) else a1) else 0) ≤ ((ByteArray.size a0 : Nat) : Int))) (Option.bind (m_strings_Count n (ByteArray.extract a0 (Int.toNat 0) (Int.toNat (if (0 : Int) < (if (((ByteArray.size a0 : Nat) : Int) : Int) < a1 then ((ByteArray.size a0 : Nat) : Int) else a1) then (if (((ByteArray.size a0 : Nat) : Int) : Int) < a1 then ((ByteArray.size a0 : Nat) : Int) else a1) else 0))) (⟨#[10]⟩ : ByteArray)) fun r0 =>
Option.bind (m_strings_LastIndexByte n (ByteArray.extract a0 (Int.toNat 0) (Int.toNat (if (0 : Int) < (if (((ByteArray.size a0 : Nat) : Int) : Int) < a1 then ((ByteArray.size a0 : Nat) : Int) else a1) then (if (((ByteArray.size a0 : Nat) : Int) : Int) < a1 then ((ByteArray.size a0 : Nat) : Int) else a1) else 0))) 10) fun r1 =>
some ((FloatKind.nearest .f64 (IntKind.wrap .i64 (1 + r0))), (FloatKind.nearest .f64 (IntKind.wrap .i64 (((ByteArray.size (ByteArray.extract a0 (Int.toNat 0) (Int.toNat (if (0 : Int) < (if (((ByteArray.size a0 : Nat) : Int) : Int) < a1 then ((ByteArray.size a0 : Nat) : Int) else a1) then (if (((ByteArray.size a0 : Nat) : Int) : Int) < a1 then ((ByteArray.size a0 : Nat) : Int) else a1) else 0))) : Nat) : Int) - r1)))))
def enc_place_Of (r : (Nat × Nat)) : V := (V.t (T.sc (.complex .f64 r.1 r.2)))
def encS_place_Of (r : (Nat × Nat)) : Sig := []
def ok_place_Of (m : ByteArray → Int → Option ((Nat × Nat))) : Prop := ∀ (a0 : ByteArray) (a1 : Int) (r : (Nat × Nat)), m a0 a1 = some r → FuncOk Tryd.prog 20 [(V.t (T.sc (.string a0))), (V.t (T.sc (.int .i64 a1)))] [] (enc_place_Of r) (encS_place_Of r)
def c_place_Of (m : ByteArray → Int → Option ((Nat × Nat))) (vs : List V) (sg : Sig) : Option CallM := bif Nat.beq vs.length 2 && Nat.beq sg.length 0 then Option.bind (V.strOf (vs.getD 0 .any)) fun u0 => Option.bind (V.intOf .i64 (vs.getD 1 .any)) fun u1 => some { α := (Nat × Nat), m := m u0 u1, dflt := (0, 0), enc := fun y => ((V.t (T.sc (.complex .f64 y.1 y.2))), []) } else none
theorem c_place_Of_ok (m : ByteArray → Int → Option ((Nat × Nat))) (hm : ok_place_Of m) (vs : List V) (sg : Sig) (cm : CallM) (x : cm.α) (h : c_place_Of m vs sg = some cm) (hx : cm.m = some x) : FuncOk Tryd.prog 20 vs sg (cm.enc x).1 (cm.enc x).2 := by
  unfold c_place_Of at h
  have h0 := callee_sig h
  clear h
  obtain ⟨hl, hs, h⟩ := h0
  obtain ⟨u0, hu0, h⟩ := Option.bind_eq_some_iff.1 h
  obtain ⟨u1, hu1, h⟩ := Option.bind_eq_some_iff.1 h
  simp only [Option.some.injEq] at h
  subst h
  exact (hm u0 u1 x hx).wk (args_wk hl (.cons (strOf_wk hu0) (.cons (intOf_wk hu1) .nil))) (wkSg_of hs .nil)
noncomputable def code_place_Of : Code := Tryd.f20.body.getD .skip
noncomputable def sp_place_Of (n : Nat) : Go.Eng.Spec := ⟨fun f vs sg => (match f with
    | 35 => c_strings_Count (m_strings_Count n) vs sg
    | 36 => c_strings_LastIndexByte (m_strings_LastIndexByte n) vs sg
    | _ => none), fun R key E sg K => (match key with
    | _ => none)⟩
theorem sp_place_Of_ok (n : Nat) : CallsOk Tryd.prog (sp_place_Of n) := by
  intro f vs sg cm x h hx
  simp only [sp_place_Of] at h
  split at h
  · exact c_strings_Count_ok _ (m_strings_Count_ok n) vs sg cm x h hx
  · exact c_strings_LastIndexByte_ok _ (m_strings_LastIndexByte_ok n) vs sg cm x h hx
  · cases h
theorem code_place_Of_fn : Tryd.prog.funcs[20]? = some Tryd.f20 := Tryd.func20
theorem code_place_Of_body : Tryd.f20.body = some code_place_Of := by kernel_rfl
theorem code_place_Of_ok : CodeOk Tryd.prog code_place_Of := (sound 20 _ _ code_place_Of_fn code_place_Of_body).1
def K_place_Of (v : V) (s : Sig) : Option ((Nat × Nat)) := Option.bind (V.cplxOf .f64 v) fun u0 => some u0
theorem K_place_Of_wk {v : V} {s : Sig} {r : (Nat × Nat)} (h : K_place_Of v s = some r) : Wk v (enc_place_Of r) ∧ WkS 0 s (encS_place_Of r) := by
  unfold K_place_Of at h
  obtain ⟨u0, hu0, h⟩ := Option.bind_eq_some_iff.1 h
  simp only [Option.some.injEq] at h
  subst h
  exact ⟨(cplxOf_wk hu0), (WkS.none _)⟩
theorem m_place_Of_eq (n : Nat) (a0 : ByteArray) (a1 : Int) : mF Tryd.prog (sp_place_Of n) 20 [(V.t (T.sc (.string a0))), (V.t (T.sc (.int .i64 a1)))] [] K_place_Of = m_place_Of n a0 a1 := by kernel_rfl
theorem m_place_Of_ok (n : Nat) : ok_place_Of (m_place_Of n) := fun a0 a1 r h => mF_ok sound (sp_place_Of_ok n) code_place_Of_fn code_place_Of_body (fun a ha => absurd ha (by rw [show loopsOf code_place_Of = [] from by kernel_rfl]; simp)) (no_scope (by kernel_rfl)) ((m_place_Of_eq n a0 a1).trans h) (fun v s hk => ⟨(K_place_Of_wk hk).1, rfl, (K_place_Of_wk hk).2⟩)


/-! suture/lex.Tokens$1 -/
def m_lex_Tokens_1 (n : Nat) (a0 : Int) : Option (Bool) :=
some (bif (bif ((a0 : Int) == 32) then true else ((a0 : Int) == 9)) then true else ((a0 : Int) == 10))
def enc_lex_Tokens_1 (r : Bool) : V := (V.t (T.sc (.bool r)))
def encS_lex_Tokens_1 (r : Bool) : Sig := []
def ok_lex_Tokens_1 (m : Int → Option (Bool)) : Prop := ∀ (a0 : Int) (r : Bool), m a0 = some r → FuncOk Tryd.prog 22 [(V.t (T.sc (.int .u8 a0)))] [] (enc_lex_Tokens_1 r) (encS_lex_Tokens_1 r)
def c_lex_Tokens_1 (m : Int → Option (Bool)) (vs : List V) (sg : Sig) : Option CallM := bif Nat.beq vs.length 1 && Nat.beq sg.length 0 then Option.bind (V.intOf .u8 (vs.getD 0 .any)) fun u0 => some { α := Bool, m := m u0, dflt := false, enc := fun y => ((V.t (T.sc (.bool y))), []) } else none
theorem c_lex_Tokens_1_ok (m : Int → Option (Bool)) (hm : ok_lex_Tokens_1 m) (vs : List V) (sg : Sig) (cm : CallM) (x : cm.α) (h : c_lex_Tokens_1 m vs sg = some cm) (hx : cm.m = some x) : FuncOk Tryd.prog 22 vs sg (cm.enc x).1 (cm.enc x).2 := by
  unfold c_lex_Tokens_1 at h
  have h0 := callee_sig h
  clear h
  obtain ⟨hl, hs, h⟩ := h0
  obtain ⟨u0, hu0, h⟩ := Option.bind_eq_some_iff.1 h
  simp only [Option.some.injEq] at h
  subst h
  exact (hm u0 x hx).wk (args_wk hl (.cons (intOf_wk hu0) .nil)) (wkSg_of hs .nil)
noncomputable def code_lex_Tokens_1 : Code := Tryd.f22.body.getD .skip
noncomputable def sp_lex_Tokens_1 (n : Nat) : Go.Eng.Spec := ⟨fun f vs sg => (match f with
    | _ => none), fun R key E sg K => (match key with
    | _ => none)⟩
theorem sp_lex_Tokens_1_ok (n : Nat) : CallsOk Tryd.prog (sp_lex_Tokens_1 n) := by
  intro f vs sg cm x h hx
  have h : (none : Option CallM) = some cm := h
  cases h
theorem code_lex_Tokens_1_fn : Tryd.prog.funcs[22]? = some Tryd.f22 := Tryd.func22
theorem code_lex_Tokens_1_body : Tryd.f22.body = some code_lex_Tokens_1 := by kernel_rfl
theorem code_lex_Tokens_1_ok : CodeOk Tryd.prog code_lex_Tokens_1 := (sound 22 _ _ code_lex_Tokens_1_fn code_lex_Tokens_1_body).1
def K_lex_Tokens_1 (v : V) (s : Sig) : Option (Bool) := Option.bind (V.boolOf v) fun u0 => some u0
theorem K_lex_Tokens_1_wk {v : V} {s : Sig} {r : Bool} (h : K_lex_Tokens_1 v s = some r) : Wk v (enc_lex_Tokens_1 r) ∧ WkS 0 s (encS_lex_Tokens_1 r) := by
  unfold K_lex_Tokens_1 at h
  obtain ⟨u0, hu0, h⟩ := Option.bind_eq_some_iff.1 h
  simp only [Option.some.injEq] at h
  subst h
  exact ⟨(boolOf_wk hu0), (WkS.none _)⟩
theorem m_lex_Tokens_1_eq (n : Nat) (a0 : Int) : mF Tryd.prog (sp_lex_Tokens_1 n) 22 [(V.t (T.sc (.int .u8 a0)))] [] K_lex_Tokens_1 = m_lex_Tokens_1 n a0 := by kernel_rfl
theorem m_lex_Tokens_1_ok (n : Nat) : ok_lex_Tokens_1 (m_lex_Tokens_1 n) := fun a0 r h => mF_ok sound (sp_lex_Tokens_1_ok n) code_lex_Tokens_1_fn code_lex_Tokens_1_body (fun a ha => absurd ha (by rw [show loopsOf code_lex_Tokens_1 = [] from by kernel_rfl]; simp)) (no_scope (by kernel_rfl)) ((m_lex_Tokens_1_eq n a0).trans h) (fun v s hk => ⟨(K_lex_Tokens_1_wk hk).1, rfl, (K_lex_Tokens_1_wk hk).2⟩)


/-! suture/lex.run -/
def l_lex_run_2_B (n : Nat) (k : ByteArray × Int → Option (Int)) : ByteArray × Int → Option (Int) := fun (s0, s1) =>
Option.bind (bidx ((decide ((s1 : Int) < ((ByteArray.size s0 : Nat) : Int)))) s0 s1) fun b0 =>
Option.bind (bif (decide ((s1 : Int) < ((ByteArray.size s0 : Nat) : Int))) then m_lex_Tokens_1 n ((UInt8.toNat b0 : Nat) : Int) else some false) fun r1 =>
bif (bif (decide ((s1 : Int) < ((ByteArray.size s0 : Nat) : Int))) then r1 else false) then (
k (s0, (IntKind.wrap .i64 (s1 + 1))))
else (
some s1)
def l_lex_run_2 (n : Nat) : Nat → ByteArray × Int → Option (Int)
  | 0, _ => none
  | m + 1, s => l_lex_run_2_B n (l_lex_run_2 n m) s
def m_lex_run (n : Nat) (a0 : ByteArray) : Option (Int) :=
Option.bind (l_lex_run_2 n n (a0, 0)) fun p3 =>
some p3
def enc_lex_run (r : Int) : V := (V.t (T.sc (.int .i64 r)))
def encS_lex_run (r : Int) : Sig := []
def ok_lex_run (m : ByteArray → Option (Int)) : Prop := ∀ (a0 : ByteArray) (r : Int), m a0 = some r → FuncOk Tryd.prog 21 [(V.t (T.sc (.string a0))), (V.fn 22 [])] [] (enc_lex_run r) (encS_lex_run r)
def c_lex_run (m : ByteArray → Option (Int)) (vs : List V) (sg : Sig) : Option CallM := bif Nat.beq vs.length 2 && Nat.beq sg.length 0 then Option.bind (V.strOf (vs.getD 0 .any)) fun u0 => Option.bind (V.fnN 22 0 (vs.getD 1 .any)) fun u1 => some { α := Int, m := m u0, dflt := 0, enc := fun y => ((V.t (T.sc (.int .i64 y))), []) } else none
theorem c_lex_run_ok (m : ByteArray → Option (Int)) (hm : ok_lex_run m) (vs : List V) (sg : Sig) (cm : CallM) (x : cm.α) (h : c_lex_run m vs sg = some cm) (hx : cm.m = some x) : FuncOk Tryd.prog 21 vs sg (cm.enc x).1 (cm.enc x).2 := by
  unfold c_lex_run at h
  have h0 := callee_sig h
  clear h
  obtain ⟨hl, hs, h⟩ := h0
  obtain ⟨u0, hu0, h⟩ := Option.bind_eq_some_iff.1 h
  obtain ⟨u1, hu1, h⟩ := Option.bind_eq_some_iff.1 h
  simp only [Option.some.injEq] at h
  subst h
  exact (hm u0 x hx).wk (args_wk hl (.cons (strOf_wk hu0) (.cons (fnN_wk hu1 .nil) .nil))) (wkSg_of hs .nil)
noncomputable def code_lex_run : Code := Tryd.f21.body.getD .skip
def l_lex_run_2_S (n : Nat) (R : Type) (E : SEnv) (sg : Sig) (K : Ex → SEnv → Sig → Option R) : Option R := Option.bind (V.strOf (SEnv.at E 0)) fun u0 => Option.bind (V.fnN 22 0 (SEnv.at E 1)) fun u1 => Option.bind (V.intOf .i64 (SEnv.at E 5)) fun u2 => Option.bind (l_lex_run_2 n n (u0, u2)) fun p0 => K (.exit 0) [(5, (V.t (T.sc (.int .i64 p0))))] []
noncomputable def sp_lex_run (n : Nat) : Go.Eng.Spec := ⟨fun f vs sg => (match f with
    | 22 => c_lex_Tokens_1 (m_lex_Tokens_1 n) vs sg
    | _ => none), fun R key E sg K => (match key with
    | 2 => l_lex_run_2_S n R E sg K
    | _ => none)⟩
theorem sp_lex_run_ok (n : Nat) : CallsOk Tryd.prog (sp_lex_run n) := by
  intro f vs sg cm x h hx
  simp only [sp_lex_run] at h
  split at h
  · exact c_lex_Tokens_1_ok _ (m_lex_Tokens_1_ok n) vs sg cm x h hx
  · cases h
theorem code_lex_run_fn : Tryd.prog.funcs[21]? = some Tryd.f21 := Tryd.func21
theorem code_lex_run_body : Tryd.f21.body = some code_lex_run := by kernel_rfl
theorem code_lex_run_ok : CodeOk Tryd.prog code_lex_run := (sound 21 _ _ code_lex_run_fn code_lex_run_body).1
noncomputable def code_l_lex_run_2 : Code := (loopsOf code_lex_run).getD 0 .skip
theorem code_l_lex_run_2_ok : CodeOk Tryd.prog code_l_lex_run_2 := codeOk_loops code_lex_run_ok _ (getD_mem (by kernel_rfl))
def l_lex_run_2_K (k : ByteArray × Int → Option (Int)) : Ex → SEnv → Sig → Option (Int) := fun x E sg => match x with
  | .normal => Option.bind (V.strOf (SEnv.at E 0)) fun u0 => Option.bind (V.fnN 22 0 (SEnv.at E 1)) fun u1 => Option.bind (V.intOf .i64 (SEnv.at E 5)) fun u2 => k (u0, u2)
  | (.exit 0) => Option.bind (V.intOf .i64 (SEnv.at E 5)) fun u0 => some u0
  | _ => none
theorem l_lex_run_2_eq (n : Nat) (k : ByteArray × Int → Option (Int)) (s0 : ByteArray) (s1 : Int) : mX Tryd.prog (sp_lex_run n) 20 code_l_lex_run_2 [(0, (V.t (T.sc (.string s0)))), (1, (V.fn 22 [])), (5, (V.t (T.sc (.int .i64 s1))))] [] (l_lex_run_2_K k) = l_lex_run_2_B n k (s0, s1) := by kernel_rfl
def l_lex_run_2_Q (x : Int) (ex : Ex) (e : Env) (s : Sig) : Prop := (fun p0 => (ex = (.exit 0) ∧ e = SEnv.env 20 [(5, (V.t (T.sc (.int .i64 p0))))] ∧ s = [])) x
theorem l_lex_run_2_run (n : Nat) : ∀ (m : Nat) (s0 : ByteArray) (s1 : Int) (x : Int), l_lex_run_2 n m (s0, s1) = some x → SemL Tryd.prog 0 code_l_lex_run_2 (SEnv.env 20 [(0, (V.t (T.sc (.string s0)))), (1, (V.fn 22 [])), (5, (V.t (T.sc (.int .i64 s1))))]) [] (l_lex_run_2_Q x)
  | 0, s0, s1, x, h => by cases h
  | m + 1, s0, s1, x, h => by
    refine loop_step (sp_lex_run_ok n) code_l_lex_run_2_ok (fun a ha => absurd ha (by rw [show loopsOf code_l_lex_run_2 = [] from by kernel_rfl]; simp)) (no_scope (by kernel_rfl)) ((l_lex_run_2_eq n _ s0 s1).trans h) (fun E sg h => ?_) (fun ex E sg hne h => ?_)
    · simp only [l_lex_run_2_K] at h
      obtain ⟨u0, hu0, h⟩ := Option.bind_eq_some_iff.1 h
      obtain ⟨u1, hu1, h⟩ := Option.bind_eq_some_iff.1 h
      obtain ⟨u2, hu2, h⟩ := Option.bind_eq_some_iff.1 h
      exact SemL.pre (k := 0) (by decide) (WkA.env (WkA.cons (strOf_wk hu0) rfl (WkA.cons (fnN_wk hu1 .nil) rfl (WkA.cons (intOf_wk hu2) rfl WkA.nil))) 20) (WkS.none _) (l_lex_run_2_run n m _ _ x h)
    · unfold l_lex_run_2_K at h
      split at h
      · exact absurd rfl hne
      · obtain ⟨u0, hu0, h⟩ := Option.bind_eq_some_iff.1 h
        simp only [Option.some.injEq] at h
        subst h
        exact ⟨0, _, _, by decide, WkA.env (WkA.cons (intOf_wk hu0) rfl WkA.nil) 20, (WkS.none _), rfl, rfl, rfl⟩
      · cases h
theorem l_lex_run_2_ok (n : Nat) : LoopOk Tryd.prog (sp_lex_run n) 0 20 code_l_lex_run_2 := by
    intro R key E sg K r hk h
    rw [show Go.Eng.keyOf code_l_lex_run_2 = some 2 from by kernel_rfl] at hk
    cases hk
    have h : l_lex_run_2_S n R E sg K = some r := h
    unfold l_lex_run_2_S at h
    obtain ⟨u0, hu0, h⟩ := Option.bind_eq_some_iff.1 h
    obtain ⟨u1, hu1, h⟩ := Option.bind_eq_some_iff.1 h
    obtain ⟨u2, hu2, h⟩ := Option.bind_eq_some_iff.1 h
    obtain ⟨x, hx, h⟩ := Option.bind_eq_some_iff.1 h
    refine (SemL.pre (k := 0) (by decide) (WkA.env (WkA.cons (strOf_wk hu0) rfl (WkA.cons (fnN_wk hu1 .nil) rfl (WkA.cons (intOf_wk hu2) rfl WkA.nil))) 20) (WkS.none _) (l_lex_run_2_run n n _ _ x hx)).mono ?_
    intro ex e s hq
    obtain ⟨rfl, rfl, rfl⟩ := hq
    exact ⟨_, rfl, h⟩
def K_lex_run (v : V) (s : Sig) : Option (Int) := Option.bind (V.intOf .i64 v) fun u0 => some u0
theorem K_lex_run_wk {v : V} {s : Sig} {r : Int} (h : K_lex_run v s = some r) : Wk v (enc_lex_run r) ∧ WkS 0 s (encS_lex_run r) := by
  unfold K_lex_run at h
  obtain ⟨u0, hu0, h⟩ := Option.bind_eq_some_iff.1 h
  simp only [Option.some.injEq] at h
  subst h
  exact ⟨(intOf_wk hu0), (WkS.none _)⟩
theorem m_lex_run_eq (n : Nat) (a0 : ByteArray) : mF Tryd.prog (sp_lex_run n) 21 [(V.t (T.sc (.string a0))), (V.fn 22 [])] [] K_lex_run = m_lex_run n a0 := by kernel_rfl
theorem m_lex_run_ok (n : Nat) : ok_lex_run (m_lex_run n) := fun a0 r h => mF_ok sound (sp_lex_run_ok n) code_lex_run_fn code_lex_run_body (forall_getD (d := .skip) 1 (by kernel_rfl) (fun i hi => match i, hi with | 0, _ => l_lex_run_2_ok n | i + 1, hi => absurd hi (by omega))) (no_scope (by kernel_rfl)) ((m_lex_run_eq n a0).trans h) (fun v s hk => ⟨(K_lex_run_wk hk).1, rfl, (K_lex_run_wk hk).2⟩)


/-! suture/lex.letter -/
def m_lex_letter (n : Nat) (a0 : Int) : Option (Bool) :=
some (bif (decide ((a0 : Int) ≥ 97)) then (decide ((a0 : Int) ≤ 122)) else false)
def enc_lex_letter (r : Bool) : V := (V.t (T.sc (.bool r)))
def encS_lex_letter (r : Bool) : Sig := []
def ok_lex_letter (m : Int → Option (Bool)) : Prop := ∀ (a0 : Int) (r : Bool), m a0 = some r → FuncOk Tryd.prog 23 [(V.t (T.sc (.int .u8 a0)))] [] (enc_lex_letter r) (encS_lex_letter r)
def c_lex_letter (m : Int → Option (Bool)) (vs : List V) (sg : Sig) : Option CallM := bif Nat.beq vs.length 1 && Nat.beq sg.length 0 then Option.bind (V.intOf .u8 (vs.getD 0 .any)) fun u0 => some { α := Bool, m := m u0, dflt := false, enc := fun y => ((V.t (T.sc (.bool y))), []) } else none
theorem c_lex_letter_ok (m : Int → Option (Bool)) (hm : ok_lex_letter m) (vs : List V) (sg : Sig) (cm : CallM) (x : cm.α) (h : c_lex_letter m vs sg = some cm) (hx : cm.m = some x) : FuncOk Tryd.prog 23 vs sg (cm.enc x).1 (cm.enc x).2 := by
  unfold c_lex_letter at h
  have h0 := callee_sig h
  clear h
  obtain ⟨hl, hs, h⟩ := h0
  obtain ⟨u0, hu0, h⟩ := Option.bind_eq_some_iff.1 h
  simp only [Option.some.injEq] at h
  subst h
  exact (hm u0 x hx).wk (args_wk hl (.cons (intOf_wk hu0) .nil)) (wkSg_of hs .nil)
noncomputable def code_lex_letter : Code := Tryd.f23.body.getD .skip
noncomputable def sp_lex_letter (n : Nat) : Go.Eng.Spec := ⟨fun f vs sg => (match f with
    | _ => none), fun R key E sg K => (match key with
    | _ => none)⟩
theorem sp_lex_letter_ok (n : Nat) : CallsOk Tryd.prog (sp_lex_letter n) := by
  intro f vs sg cm x h hx
  have h : (none : Option CallM) = some cm := h
  cases h
theorem code_lex_letter_fn : Tryd.prog.funcs[23]? = some Tryd.f23 := Tryd.func23
theorem code_lex_letter_body : Tryd.f23.body = some code_lex_letter := by kernel_rfl
theorem code_lex_letter_ok : CodeOk Tryd.prog code_lex_letter := (sound 23 _ _ code_lex_letter_fn code_lex_letter_body).1
def K_lex_letter (v : V) (s : Sig) : Option (Bool) := Option.bind (V.boolOf v) fun u0 => some u0
theorem K_lex_letter_wk {v : V} {s : Sig} {r : Bool} (h : K_lex_letter v s = some r) : Wk v (enc_lex_letter r) ∧ WkS 0 s (encS_lex_letter r) := by
  unfold K_lex_letter at h
  obtain ⟨u0, hu0, h⟩ := Option.bind_eq_some_iff.1 h
  simp only [Option.some.injEq] at h
  subst h
  exact ⟨(boolOf_wk hu0), (WkS.none _)⟩
theorem m_lex_letter_eq (n : Nat) (a0 : Int) : mF Tryd.prog (sp_lex_letter n) 23 [(V.t (T.sc (.int .u8 a0)))] [] K_lex_letter = m_lex_letter n a0 := by kernel_rfl
theorem m_lex_letter_ok (n : Nat) : ok_lex_letter (m_lex_letter n) := fun a0 r h => mF_ok sound (sp_lex_letter_ok n) code_lex_letter_fn code_lex_letter_body (fun a ha => absurd ha (by rw [show loopsOf code_lex_letter = [] from by kernel_rfl]; simp)) (no_scope (by kernel_rfl)) ((m_lex_letter_eq n a0).trans h) (fun v s hk => ⟨(K_lex_letter_wk hk).1, rfl, (K_lex_letter_wk hk).2⟩)


/-! suture/lex.digit -/
def m_lex_digit (n : Nat) (a0 : Int) : Option (Bool) :=
some (bif (decide ((a0 : Int) ≥ 48)) then (decide ((a0 : Int) ≤ 57)) else false)
def enc_lex_digit (r : Bool) : V := (V.t (T.sc (.bool r)))
def encS_lex_digit (r : Bool) : Sig := []
def ok_lex_digit (m : Int → Option (Bool)) : Prop := ∀ (a0 : Int) (r : Bool), m a0 = some r → FuncOk Tryd.prog 24 [(V.t (T.sc (.int .u8 a0)))] [] (enc_lex_digit r) (encS_lex_digit r)
def c_lex_digit (m : Int → Option (Bool)) (vs : List V) (sg : Sig) : Option CallM := bif Nat.beq vs.length 1 && Nat.beq sg.length 0 then Option.bind (V.intOf .u8 (vs.getD 0 .any)) fun u0 => some { α := Bool, m := m u0, dflt := false, enc := fun y => ((V.t (T.sc (.bool y))), []) } else none
theorem c_lex_digit_ok (m : Int → Option (Bool)) (hm : ok_lex_digit m) (vs : List V) (sg : Sig) (cm : CallM) (x : cm.α) (h : c_lex_digit m vs sg = some cm) (hx : cm.m = some x) : FuncOk Tryd.prog 24 vs sg (cm.enc x).1 (cm.enc x).2 := by
  unfold c_lex_digit at h
  have h0 := callee_sig h
  clear h
  obtain ⟨hl, hs, h⟩ := h0
  obtain ⟨u0, hu0, h⟩ := Option.bind_eq_some_iff.1 h
  simp only [Option.some.injEq] at h
  subst h
  exact (hm u0 x hx).wk (args_wk hl (.cons (intOf_wk hu0) .nil)) (wkSg_of hs .nil)
noncomputable def code_lex_digit : Code := Tryd.f24.body.getD .skip
noncomputable def sp_lex_digit (n : Nat) : Go.Eng.Spec := ⟨fun f vs sg => (match f with
    | _ => none), fun R key E sg K => (match key with
    | _ => none)⟩
theorem sp_lex_digit_ok (n : Nat) : CallsOk Tryd.prog (sp_lex_digit n) := by
  intro f vs sg cm x h hx
  have h : (none : Option CallM) = some cm := h
  cases h
theorem code_lex_digit_fn : Tryd.prog.funcs[24]? = some Tryd.f24 := Tryd.func24
theorem code_lex_digit_body : Tryd.f24.body = some code_lex_digit := by kernel_rfl
theorem code_lex_digit_ok : CodeOk Tryd.prog code_lex_digit := (sound 24 _ _ code_lex_digit_fn code_lex_digit_body).1
def K_lex_digit (v : V) (s : Sig) : Option (Bool) := Option.bind (V.boolOf v) fun u0 => some u0
theorem K_lex_digit_wk {v : V} {s : Sig} {r : Bool} (h : K_lex_digit v s = some r) : Wk v (enc_lex_digit r) ∧ WkS 0 s (encS_lex_digit r) := by
  unfold K_lex_digit at h
  obtain ⟨u0, hu0, h⟩ := Option.bind_eq_some_iff.1 h
  simp only [Option.some.injEq] at h
  subst h
  exact ⟨(boolOf_wk hu0), (WkS.none _)⟩
theorem m_lex_digit_eq (n : Nat) (a0 : Int) : mF Tryd.prog (sp_lex_digit n) 24 [(V.t (T.sc (.int .u8 a0)))] [] K_lex_digit = m_lex_digit n a0 := by kernel_rfl
theorem m_lex_digit_ok (n : Nat) : ok_lex_digit (m_lex_digit n) := fun a0 r h => mF_ok sound (sp_lex_digit_ok n) code_lex_digit_fn code_lex_digit_body (fun a ha => absurd ha (by rw [show loopsOf code_lex_digit = [] from by kernel_rfl]; simp)) (no_scope (by kernel_rfl)) ((m_lex_digit_eq n a0).trans h) (fun v s hk => ⟨(K_lex_digit_wk hk).1, rfl, (K_lex_digit_wk hk).2⟩)


/-! internal/stringslite.HasPrefix -/
def m_internal_stringslite_HasPrefix (n : Nat) (a0 : ByteArray) (a1 : ByteArray) : Option (Bool) :=
must ((decide ((((ByteArray.size a0 : Nat) : Int) : Int) ≥ ((ByteArray.size a1 : Nat) : Int)))) (decide (0 ≤ 0) && decide (0 ≤ ((ByteArray.size a1 : Nat) : Int)) && decide (((ByteArray.size a1 : Nat) : Int) ≤ ((ByteArray.size a0 : Nat) : Int))) (some (bif (decide ((((ByteArray.size a0 : Nat) : Int) : Int) ≥ ((ByteArray.size a1 : Nat) : Int))) then (ByteArray.toList (ByteArray.extract a0 (Int.toNat 0) (Int.toNat ((ByteArray.size a1 : Nat) : Int))) == ByteArray.toList a1) else false))
def enc_internal_stringslite_HasPrefix (r : Bool) : V := (V.t (T.sc (.bool r)))
def encS_internal_stringslite_HasPrefix (r : Bool) : Sig := []
def ok_internal_stringslite_HasPrefix (m : ByteArray → ByteArray → Option (Bool)) : Prop := ∀ (a0 : ByteArray) (a1 : ByteArray) (r : Bool), m a0 a1 = some r → FuncOk Tryd.prog 37 [(V.t (T.sc (.string a0))), (V.t (T.sc (.string a1)))] [] (enc_internal_stringslite_HasPrefix r) (encS_internal_stringslite_HasPrefix r)
def c_internal_stringslite_HasPrefix (m : ByteArray → ByteArray → Option (Bool)) (vs : List V) (sg : Sig) : Option CallM := bif Nat.beq vs.length 2 && Nat.beq sg.length 0 then Option.bind (V.strOf (vs.getD 0 .any)) fun u0 => Option.bind (V.strOf (vs.getD 1 .any)) fun u1 => some { α := Bool, m := m u0 u1, dflt := false, enc := fun y => ((V.t (T.sc (.bool y))), []) } else none
theorem c_internal_stringslite_HasPrefix_ok (m : ByteArray → ByteArray → Option (Bool)) (hm : ok_internal_stringslite_HasPrefix m) (vs : List V) (sg : Sig) (cm : CallM) (x : cm.α) (h : c_internal_stringslite_HasPrefix m vs sg = some cm) (hx : cm.m = some x) : FuncOk Tryd.prog 37 vs sg (cm.enc x).1 (cm.enc x).2 := by
  unfold c_internal_stringslite_HasPrefix at h
  have h0 := callee_sig h
  clear h
  obtain ⟨hl, hs, h⟩ := h0
  obtain ⟨u0, hu0, h⟩ := Option.bind_eq_some_iff.1 h
  obtain ⟨u1, hu1, h⟩ := Option.bind_eq_some_iff.1 h
  simp only [Option.some.injEq] at h
  subst h
  exact (hm u0 u1 x hx).wk (args_wk hl (.cons (strOf_wk hu0) (.cons (strOf_wk hu1) .nil))) (wkSg_of hs .nil)
noncomputable def code_internal_stringslite_HasPrefix : Code := Tryd.f37.body.getD .skip
noncomputable def sp_internal_stringslite_HasPrefix (n : Nat) : Go.Eng.Spec := ⟨fun f vs sg => (match f with
    | _ => none), fun R key E sg K => (match key with
    | _ => none)⟩
theorem sp_internal_stringslite_HasPrefix_ok (n : Nat) : CallsOk Tryd.prog (sp_internal_stringslite_HasPrefix n) := by
  intro f vs sg cm x h hx
  have h : (none : Option CallM) = some cm := h
  cases h
theorem code_internal_stringslite_HasPrefix_fn : Tryd.prog.funcs[37]? = some Tryd.f37 := Tryd.func37
theorem code_internal_stringslite_HasPrefix_body : Tryd.f37.body = some code_internal_stringslite_HasPrefix := by kernel_rfl
theorem code_internal_stringslite_HasPrefix_ok : CodeOk Tryd.prog code_internal_stringslite_HasPrefix := (sound 37 _ _ code_internal_stringslite_HasPrefix_fn code_internal_stringslite_HasPrefix_body).1
def K_internal_stringslite_HasPrefix (v : V) (s : Sig) : Option (Bool) := Option.bind (V.boolOf v) fun u0 => some u0
theorem K_internal_stringslite_HasPrefix_wk {v : V} {s : Sig} {r : Bool} (h : K_internal_stringslite_HasPrefix v s = some r) : Wk v (enc_internal_stringslite_HasPrefix r) ∧ WkS 0 s (encS_internal_stringslite_HasPrefix r) := by
  unfold K_internal_stringslite_HasPrefix at h
  obtain ⟨u0, hu0, h⟩ := Option.bind_eq_some_iff.1 h
  simp only [Option.some.injEq] at h
  subst h
  exact ⟨(boolOf_wk hu0), (WkS.none _)⟩
theorem m_internal_stringslite_HasPrefix_eq (n : Nat) (a0 : ByteArray) (a1 : ByteArray) : mF Tryd.prog (sp_internal_stringslite_HasPrefix n) 37 [(V.t (T.sc (.string a0))), (V.t (T.sc (.string a1)))] [] K_internal_stringslite_HasPrefix = m_internal_stringslite_HasPrefix n a0 a1 := by kernel_rfl
theorem m_internal_stringslite_HasPrefix_ok (n : Nat) : ok_internal_stringslite_HasPrefix (m_internal_stringslite_HasPrefix n) := fun a0 a1 r h => mF_ok sound (sp_internal_stringslite_HasPrefix_ok n) code_internal_stringslite_HasPrefix_fn code_internal_stringslite_HasPrefix_body (fun a ha => absurd ha (by rw [show loopsOf code_internal_stringslite_HasPrefix = [] from by kernel_rfl]; simp)) (no_scope (by kernel_rfl)) ((m_internal_stringslite_HasPrefix_eq n a0 a1).trans h) (fun v s hk => ⟨(K_internal_stringslite_HasPrefix_wk hk).1, rfl, (K_internal_stringslite_HasPrefix_wk hk).2⟩)


/-! strings.HasPrefix -/
def m_strings_HasPrefix (n : Nat) (a0 : ByteArray) (a1 : ByteArray) : Option (Bool) :=
Option.bind (m_internal_stringslite_HasPrefix n a0 a1) fun r0 =>
some r0
def enc_strings_HasPrefix (r : Bool) : V := (V.t (T.sc (.bool r)))
def encS_strings_HasPrefix (r : Bool) : Sig := []
def ok_strings_HasPrefix (m : ByteArray → ByteArray → Option (Bool)) : Prop := ∀ (a0 : ByteArray) (a1 : ByteArray) (r : Bool), m a0 a1 = some r → FuncOk Tryd.prog 25 [(V.t (T.sc (.string a0))), (V.t (T.sc (.string a1)))] [] (enc_strings_HasPrefix r) (encS_strings_HasPrefix r)
def c_strings_HasPrefix (m : ByteArray → ByteArray → Option (Bool)) (vs : List V) (sg : Sig) : Option CallM := bif Nat.beq vs.length 2 && Nat.beq sg.length 0 then Option.bind (V.strOf (vs.getD 0 .any)) fun u0 => Option.bind (V.strOf (vs.getD 1 .any)) fun u1 => some { α := Bool, m := m u0 u1, dflt := false, enc := fun y => ((V.t (T.sc (.bool y))), []) } else none
theorem c_strings_HasPrefix_ok (m : ByteArray → ByteArray → Option (Bool)) (hm : ok_strings_HasPrefix m) (vs : List V) (sg : Sig) (cm : CallM) (x : cm.α) (h : c_strings_HasPrefix m vs sg = some cm) (hx : cm.m = some x) : FuncOk Tryd.prog 25 vs sg (cm.enc x).1 (cm.enc x).2 := by
  unfold c_strings_HasPrefix at h
  have h0 := callee_sig h
  clear h
  obtain ⟨hl, hs, h⟩ := h0
  obtain ⟨u0, hu0, h⟩ := Option.bind_eq_some_iff.1 h
  obtain ⟨u1, hu1, h⟩ := Option.bind_eq_some_iff.1 h
  simp only [Option.some.injEq] at h
  subst h
  exact (hm u0 u1 x hx).wk (args_wk hl (.cons (strOf_wk hu0) (.cons (strOf_wk hu1) .nil))) (wkSg_of hs .nil)
noncomputable def code_strings_HasPrefix : Code := Tryd.f25.body.getD .skip
noncomputable def sp_strings_HasPrefix (n : Nat) : Go.Eng.Spec := ⟨fun f vs sg => (match f with
    | 37 => c_internal_stringslite_HasPrefix (m_internal_stringslite_HasPrefix n) vs sg
    | _ => none), fun R key E sg K => (match key with
    | _ => none)⟩
theorem sp_strings_HasPrefix_ok (n : Nat) : CallsOk Tryd.prog (sp_strings_HasPrefix n) := by
  intro f vs sg cm x h hx
  simp only [sp_strings_HasPrefix] at h
  split at h
  · exact c_internal_stringslite_HasPrefix_ok _ (m_internal_stringslite_HasPrefix_ok n) vs sg cm x h hx
  · cases h
theorem code_strings_HasPrefix_fn : Tryd.prog.funcs[25]? = some Tryd.f25 := Tryd.func25
theorem code_strings_HasPrefix_body : Tryd.f25.body = some code_strings_HasPrefix := by kernel_rfl
theorem code_strings_HasPrefix_ok : CodeOk Tryd.prog code_strings_HasPrefix := (sound 25 _ _ code_strings_HasPrefix_fn code_strings_HasPrefix_body).1
def K_strings_HasPrefix (v : V) (s : Sig) : Option (Bool) := Option.bind (V.boolOf v) fun u0 => some u0
theorem K_strings_HasPrefix_wk {v : V} {s : Sig} {r : Bool} (h : K_strings_HasPrefix v s = some r) : Wk v (enc_strings_HasPrefix r) ∧ WkS 0 s (encS_strings_HasPrefix r) := by
  unfold K_strings_HasPrefix at h
  obtain ⟨u0, hu0, h⟩ := Option.bind_eq_some_iff.1 h
  simp only [Option.some.injEq] at h
  subst h
  exact ⟨(boolOf_wk hu0), (WkS.none _)⟩
theorem m_strings_HasPrefix_eq (n : Nat) (a0 : ByteArray) (a1 : ByteArray) : mF Tryd.prog (sp_strings_HasPrefix n) 25 [(V.t (T.sc (.string a0))), (V.t (T.sc (.string a1)))] [] K_strings_HasPrefix = m_strings_HasPrefix n a0 a1 := by kernel_rfl
theorem m_strings_HasPrefix_ok (n : Nat) : ok_strings_HasPrefix (m_strings_HasPrefix n) := fun a0 a1 r h => mF_ok sound (sp_strings_HasPrefix_ok n) code_strings_HasPrefix_fn code_strings_HasPrefix_body (fun a ha => absurd ha (by rw [show loopsOf code_strings_HasPrefix = [] from by kernel_rfl]; simp)) (no_scope (by kernel_rfl)) ((m_strings_HasPrefix_eq n a0 a1).trans h) (fun v s hk => ⟨(K_strings_HasPrefix_wk hk).1, rfl, (K_strings_HasPrefix_wk hk).2⟩)


/-! strings.IndexByte: from elsewhere -/
def m_strings_IndexByte (n : Nat) (a0 : ByteArray) (a1 : Int) : Option (Int) := indexM a0 a1
def enc_strings_IndexByte (r : Int) : V := (V.t (T.sc (.int .i64 r)))
def encS_strings_IndexByte (r : Int) : Sig := []
def ok_strings_IndexByte (m : ByteArray → Int → Option (Int)) : Prop := ∀ (a0 : ByteArray) (a1 : Int) (r : Int), m a0 a1 = some r → FuncOk Tryd.prog 26 [(V.t (T.sc (.string a0))), (V.t (T.sc (.int .u8 a1)))] [] (enc_strings_IndexByte r) (encS_strings_IndexByte r)
def c_strings_IndexByte (m : ByteArray → Int → Option (Int)) (vs : List V) (sg : Sig) : Option CallM := bif Nat.beq vs.length 2 && Nat.beq sg.length 0 then Option.bind (V.strOf (vs.getD 0 .any)) fun u0 => Option.bind (V.intOf .u8 (vs.getD 1 .any)) fun u1 => some { α := Int, m := m u0 u1, dflt := 0, enc := fun y => ((V.t (T.sc (.int .i64 y))), []) } else none
theorem c_strings_IndexByte_ok (m : ByteArray → Int → Option (Int)) (hm : ok_strings_IndexByte m) (vs : List V) (sg : Sig) (cm : CallM) (x : cm.α) (h : c_strings_IndexByte m vs sg = some cm) (hx : cm.m = some x) : FuncOk Tryd.prog 26 vs sg (cm.enc x).1 (cm.enc x).2 := by
  unfold c_strings_IndexByte at h
  have h0 := callee_sig h
  clear h
  obtain ⟨hl, hs, h⟩ := h0
  obtain ⟨u0, hu0, h⟩ := Option.bind_eq_some_iff.1 h
  obtain ⟨u1, hu1, h⟩ := Option.bind_eq_some_iff.1 h
  simp only [Option.some.injEq] at h
  subst h
  exact (hm u0 u1 x hx).wk (args_wk hl (.cons (strOf_wk hu0) (.cons (intOf_wk hu1) .nil))) (wkSg_of hs .nil)
theorem m_strings_IndexByte_ok (n : Nat) : ok_strings_IndexByte (m_strings_IndexByte n) := fun a0 a1 r h => x_strings_IndexByte h


/-! slices.Clip[[]suture/lex.Token,suture/lex.Token] -/
def m_slices_Clip___lex_Token_lex_Token_ (n : Nat) (a0 : List T) : Option ((List T)) :=
must true (decide (0 ≤ 0) && decide (0 ≤ ((List.length a0 : Nat) : Int)) && decide (((List.length a0 : Nat) : Int) ≤ ((List.length a0 : Nat) : Int)) && sized 4 a0) (must true (decide (((List.length a0 : Nat) : Int) = ((List.length a0 : Nat) : Int))) (some (List.drop (Int.toNat 0) (List.take (Int.toNat ((List.length a0 : Nat) : Int)) a0))))
def enc_slices_Clip___lex_Token_lex_Token_ (r : (List T)) : V := (V.own 4 r)
def encS_slices_Clip___lex_Token_lex_Token_ (r : (List T)) : Sig := []
def ok_slices_Clip___lex_Token_lex_Token_ (m : List T → Option ((List T))) : Prop := ∀ (a0 : List T) (r : (List T)), m a0 = some r → FuncOk Tryd.prog 31 [(V.t (T.list a0))] [] (enc_slices_Clip___lex_Token_lex_Token_ r) (encS_slices_Clip___lex_Token_lex_Token_ r)
def c_slices_Clip___lex_Token_lex_Token_ (m : List T → Option ((List T))) (vs : List V) (sg : Sig) : Option CallM := bif Nat.beq vs.length 1 && Nat.beq sg.length 0 then Option.bind (V.lstOf (vs.getD 0 .any)) fun u0 => some { α := (List T), m := m u0, dflt := [], enc := fun y => ((V.own 4 y), []) } else none
theorem c_slices_Clip___lex_Token_lex_Token__ok (m : List T → Option ((List T))) (hm : ok_slices_Clip___lex_Token_lex_Token_ m) (vs : List V) (sg : Sig) (cm : CallM) (x : cm.α) (h : c_slices_Clip___lex_Token_lex_Token_ m vs sg = some cm) (hx : cm.m = some x) : FuncOk Tryd.prog 31 vs sg (cm.enc x).1 (cm.enc x).2 := by
  unfold c_slices_Clip___lex_Token_lex_Token_ at h
  have h0 := callee_sig h
  clear h
  obtain ⟨hl, hs, h⟩ := h0
  obtain ⟨u0, hu0, h⟩ := Option.bind_eq_some_iff.1 h
  simp only [Option.some.injEq] at h
  subst h
  exact (hm u0 x hx).wk (args_wk hl (.cons (lstOf_wk hu0) .nil)) (wkSg_of hs .nil)
noncomputable def code_slices_Clip___lex_Token_lex_Token_ : Code := Tryd.f31.body.getD .skip
noncomputable def sp_slices_Clip___lex_Token_lex_Token_ (n : Nat) : Go.Eng.Spec := ⟨fun f vs sg => (match f with
    | _ => none), fun R key E sg K => (match key with
    | _ => none)⟩
theorem sp_slices_Clip___lex_Token_lex_Token__ok (n : Nat) : CallsOk Tryd.prog (sp_slices_Clip___lex_Token_lex_Token_ n) := by
  intro f vs sg cm x h hx
  have h : (none : Option CallM) = some cm := h
  cases h
theorem code_slices_Clip___lex_Token_lex_Token__fn : Tryd.prog.funcs[31]? = some Tryd.f31 := Tryd.func31
theorem code_slices_Clip___lex_Token_lex_Token__body : Tryd.f31.body = some code_slices_Clip___lex_Token_lex_Token_ := by kernel_rfl
theorem code_slices_Clip___lex_Token_lex_Token__ok : CodeOk Tryd.prog code_slices_Clip___lex_Token_lex_Token_ := (sound 31 _ _ code_slices_Clip___lex_Token_lex_Token__fn code_slices_Clip___lex_Token_lex_Token__body).1
def K_slices_Clip___lex_Token_lex_Token_ (v : V) (s : Sig) : Option ((List T)) := Option.bind (V.ownOf 4 v) fun u0 => some u0
theorem K_slices_Clip___lex_Token_lex_Token__wk {v : V} {s : Sig} {r : (List T)} (h : K_slices_Clip___lex_Token_lex_Token_ v s = some r) : Wk v (enc_slices_Clip___lex_Token_lex_Token_ r) ∧ WkS 0 s (encS_slices_Clip___lex_Token_lex_Token_ r) := by
  unfold K_slices_Clip___lex_Token_lex_Token_ at h
  obtain ⟨u0, hu0, h⟩ := Option.bind_eq_some_iff.1 h
  simp only [Option.some.injEq] at h
  subst h
  exact ⟨(ownOf_wk hu0), (WkS.none _)⟩
theorem m_slices_Clip___lex_Token_lex_Token__eq (n : Nat) (a0 : List T) : mF Tryd.prog (sp_slices_Clip___lex_Token_lex_Token_ n) 31 [(V.t (T.list a0))] [] K_slices_Clip___lex_Token_lex_Token_ = m_slices_Clip___lex_Token_lex_Token_ n a0 := by kernel_rfl
theorem m_slices_Clip___lex_Token_lex_Token__ok (n : Nat) : ok_slices_Clip___lex_Token_lex_Token_ (m_slices_Clip___lex_Token_lex_Token_ n) := fun a0 r h => mF_ok sound (sp_slices_Clip___lex_Token_lex_Token__ok n) code_slices_Clip___lex_Token_lex_Token__fn code_slices_Clip___lex_Token_lex_Token__body (fun a ha => absurd ha (by rw [show loopsOf code_slices_Clip___lex_Token_lex_Token_ = [] from by kernel_rfl]; simp)) (no_scope (by kernel_rfl)) ((m_slices_Clip___lex_Token_lex_Token__eq n a0).trans h) (fun v s hk => ⟨(K_slices_Clip___lex_Token_lex_Token__wk hk).1, rfl, (K_slices_Clip___lex_Token_lex_Token__wk hk).2⟩)


/-! suture/lex.Tokens$2 -/
def m_lex_Tokens_2 (n : Nat) (a0 : Int) : Option (Bool) :=
some ((a0 : Int) != 10)
def enc_lex_Tokens_2 (r : Bool) : V := (V.t (T.sc (.bool r)))
def encS_lex_Tokens_2 (r : Bool) : Sig := []
def ok_lex_Tokens_2 (m : Int → Option (Bool)) : Prop := ∀ (a0 : Int) (r : Bool), m a0 = some r → FuncOk Tryd.prog 27 [(V.t (T.sc (.int .u8 a0)))] [] (enc_lex_Tokens_2 r) (encS_lex_Tokens_2 r)
def c_lex_Tokens_2 (m : Int → Option (Bool)) (vs : List V) (sg : Sig) : Option CallM := bif Nat.beq vs.length 1 && Nat.beq sg.length 0 then Option.bind (V.intOf .u8 (vs.getD 0 .any)) fun u0 => some { α := Bool, m := m u0, dflt := false, enc := fun y => ((V.t (T.sc (.bool y))), []) } else none
theorem c_lex_Tokens_2_ok (m : Int → Option (Bool)) (hm : ok_lex_Tokens_2 m) (vs : List V) (sg : Sig) (cm : CallM) (x : cm.α) (h : c_lex_Tokens_2 m vs sg = some cm) (hx : cm.m = some x) : FuncOk Tryd.prog 27 vs sg (cm.enc x).1 (cm.enc x).2 := by
  unfold c_lex_Tokens_2 at h
  have h0 := callee_sig h
  clear h
  obtain ⟨hl, hs, h⟩ := h0
  obtain ⟨u0, hu0, h⟩ := Option.bind_eq_some_iff.1 h
  simp only [Option.some.injEq] at h
  subst h
  exact (hm u0 x hx).wk (args_wk hl (.cons (intOf_wk hu0) .nil)) (wkSg_of hs .nil)
noncomputable def code_lex_Tokens_2 : Code := Tryd.f27.body.getD .skip
noncomputable def sp_lex_Tokens_2 (n : Nat) : Go.Eng.Spec := ⟨fun f vs sg => (match f with
    | _ => none), fun R key E sg K => (match key with
    | _ => none)⟩
theorem sp_lex_Tokens_2_ok (n : Nat) : CallsOk Tryd.prog (sp_lex_Tokens_2 n) := by
  intro f vs sg cm x h hx
  have h : (none : Option CallM) = some cm := h
  cases h
theorem code_lex_Tokens_2_fn : Tryd.prog.funcs[27]? = some Tryd.f27 := Tryd.func27
theorem code_lex_Tokens_2_body : Tryd.f27.body = some code_lex_Tokens_2 := by kernel_rfl
theorem code_lex_Tokens_2_ok : CodeOk Tryd.prog code_lex_Tokens_2 := (sound 27 _ _ code_lex_Tokens_2_fn code_lex_Tokens_2_body).1
def K_lex_Tokens_2 (v : V) (s : Sig) : Option (Bool) := Option.bind (V.boolOf v) fun u0 => some u0
theorem K_lex_Tokens_2_wk {v : V} {s : Sig} {r : Bool} (h : K_lex_Tokens_2 v s = some r) : Wk v (enc_lex_Tokens_2 r) ∧ WkS 0 s (encS_lex_Tokens_2 r) := by
  unfold K_lex_Tokens_2 at h
  obtain ⟨u0, hu0, h⟩ := Option.bind_eq_some_iff.1 h
  simp only [Option.some.injEq] at h
  subst h
  exact ⟨(boolOf_wk hu0), (WkS.none _)⟩
theorem m_lex_Tokens_2_eq (n : Nat) (a0 : Int) : mF Tryd.prog (sp_lex_Tokens_2 n) 27 [(V.t (T.sc (.int .u8 a0)))] [] K_lex_Tokens_2 = m_lex_Tokens_2 n a0 := by kernel_rfl
theorem m_lex_Tokens_2_ok (n : Nat) : ok_lex_Tokens_2 (m_lex_Tokens_2 n) := fun a0 r h => mF_ok sound (sp_lex_Tokens_2_ok n) code_lex_Tokens_2_fn code_lex_Tokens_2_body (fun a ha => absurd ha (by rw [show loopsOf code_lex_Tokens_2 = [] from by kernel_rfl]; simp)) (no_scope (by kernel_rfl)) ((m_lex_Tokens_2_eq n a0).trans h) (fun v s hk => ⟨(K_lex_Tokens_2_wk hk).1, rfl, (K_lex_Tokens_2_wk hk).2⟩)


/-! suture/lex.run -/
def l_lex_run_v2_2_B (n : Nat) (k : ByteArray × Int → Option (Int)) : ByteArray × Int → Option (Int) := fun (s0, s1) =>
Option.bind (bidx ((decide ((s1 : Int) < ((ByteArray.size s0 : Nat) : Int)))) s0 s1) fun b0 =>
Option.bind (bif (decide ((s1 : Int) < ((ByteArray.size s0 : Nat) : Int))) then m_lex_Tokens_2 n ((UInt8.toNat b0 : Nat) : Int) else some false) fun r1 =>
bif (bif (decide ((s1 : Int) < ((ByteArray.size s0 : Nat) : Int))) then r1 else false) then (
k (s0, (IntKind.wrap .i64 (s1 + 1))))
else (
some s1)
def l_lex_run_v2_2 (n : Nat) : Nat → ByteArray × Int → Option (Int)
  | 0, _ => none
  | m + 1, s => l_lex_run_v2_2_B n (l_lex_run_v2_2 n m) s
def m_lex_run_v2 (n : Nat) (a0 : ByteArray) : Option (Int) :=
Option.bind (l_lex_run_v2_2 n n (a0, 0)) fun p3 =>
some p3
def enc_lex_run_v2 (r : Int) : V := (V.t (T.sc (.int .i64 r)))
def encS_lex_run_v2 (r : Int) : Sig := []
def ok_lex_run_v2 (m : ByteArray → Option (Int)) : Prop := ∀ (a0 : ByteArray) (r : Int), m a0 = some r → FuncOk Tryd.prog 21 [(V.t (T.sc (.string a0))), (V.fn 27 [])] [] (enc_lex_run_v2 r) (encS_lex_run_v2 r)
def c_lex_run_v2 (m : ByteArray → Option (Int)) (vs : List V) (sg : Sig) : Option CallM := bif Nat.beq vs.length 2 && Nat.beq sg.length 0 then Option.bind (V.strOf (vs.getD 0 .any)) fun u0 => Option.bind (V.fnN 27 0 (vs.getD 1 .any)) fun u1 => some { α := Int, m := m u0, dflt := 0, enc := fun y => ((V.t (T.sc (.int .i64 y))), []) } else none
theorem c_lex_run_v2_ok (m : ByteArray → Option (Int)) (hm : ok_lex_run_v2 m) (vs : List V) (sg : Sig) (cm : CallM) (x : cm.α) (h : c_lex_run_v2 m vs sg = some cm) (hx : cm.m = some x) : FuncOk Tryd.prog 21 vs sg (cm.enc x).1 (cm.enc x).2 := by
  unfold c_lex_run_v2 at h
  have h0 := callee_sig h
  clear h
  obtain ⟨hl, hs, h⟩ := h0
  obtain ⟨u0, hu0, h⟩ := Option.bind_eq_some_iff.1 h
  obtain ⟨u1, hu1, h⟩ := Option.bind_eq_some_iff.1 h
  simp only [Option.some.injEq] at h
  subst h
  exact (hm u0 x hx).wk (args_wk hl (.cons (strOf_wk hu0) (.cons (fnN_wk hu1 .nil) .nil))) (wkSg_of hs .nil)
noncomputable def code_lex_run_v2 : Code := Tryd.f21.body.getD .skip
def l_lex_run_v2_2_S (n : Nat) (R : Type) (E : SEnv) (sg : Sig) (K : Ex → SEnv → Sig → Option R) : Option R := Option.bind (V.strOf (SEnv.at E 0)) fun u0 => Option.bind (V.fnN 27 0 (SEnv.at E 1)) fun u1 => Option.bind (V.intOf .i64 (SEnv.at E 5)) fun u2 => Option.bind (l_lex_run_v2_2 n n (u0, u2)) fun p0 => K (.exit 0) [(5, (V.t (T.sc (.int .i64 p0))))] []
noncomputable def sp_lex_run_v2 (n : Nat) : Go.Eng.Spec := ⟨fun f vs sg => (match f with
    | 27 => c_lex_Tokens_2 (m_lex_Tokens_2 n) vs sg
    | _ => none), fun R key E sg K => (match key with
    | 2 => l_lex_run_v2_2_S n R E sg K
    | _ => none)⟩
theorem sp_lex_run_v2_ok (n : Nat) : CallsOk Tryd.prog (sp_lex_run_v2 n) := by
  intro f vs sg cm x h hx
  simp only [sp_lex_run_v2] at h
  split at h
  · exact c_lex_Tokens_2_ok _ (m_lex_Tokens_2_ok n) vs sg cm x h hx
  · cases h
theorem code_lex_run_v2_fn : Tryd.prog.funcs[21]? = some Tryd.f21 := Tryd.func21
theorem code_lex_run_v2_body : Tryd.f21.body = some code_lex_run_v2 := by kernel_rfl
theorem code_lex_run_v2_ok : CodeOk Tryd.prog code_lex_run_v2 := (sound 21 _ _ code_lex_run_v2_fn code_lex_run_v2_body).1
noncomputable def code_l_lex_run_v2_2 : Code := (loopsOf code_lex_run_v2).getD 0 .skip
theorem code_l_lex_run_v2_2_ok : CodeOk Tryd.prog code_l_lex_run_v2_2 := codeOk_loops code_lex_run_v2_ok _ (getD_mem (by kernel_rfl))
def l_lex_run_v2_2_K (k : ByteArray × Int → Option (Int)) : Ex → SEnv → Sig → Option (Int) := fun x E sg => match x with
  | .normal => Option.bind (V.strOf (SEnv.at E 0)) fun u0 => Option.bind (V.fnN 27 0 (SEnv.at E 1)) fun u1 => Option.bind (V.intOf .i64 (SEnv.at E 5)) fun u2 => k (u0, u2)
  | (.exit 0) => Option.bind (V.intOf .i64 (SEnv.at E 5)) fun u0 => some u0
  | _ => none
theorem l_lex_run_v2_2_eq (n : Nat) (k : ByteArray × Int → Option (Int)) (s0 : ByteArray) (s1 : Int) : mX Tryd.prog (sp_lex_run_v2 n) 20 code_l_lex_run_v2_2 [(0, (V.t (T.sc (.string s0)))), (1, (V.fn 27 [])), (5, (V.t (T.sc (.int .i64 s1))))] [] (l_lex_run_v2_2_K k) = l_lex_run_v2_2_B n k (s0, s1) := by kernel_rfl
def l_lex_run_v2_2_Q (x : Int) (ex : Ex) (e : Env) (s : Sig) : Prop := (fun p0 => (ex = (.exit 0) ∧ e = SEnv.env 20 [(5, (V.t (T.sc (.int .i64 p0))))] ∧ s = [])) x
theorem l_lex_run_v2_2_run (n : Nat) : ∀ (m : Nat) (s0 : ByteArray) (s1 : Int) (x : Int), l_lex_run_v2_2 n m (s0, s1) = some x → SemL Tryd.prog 0 code_l_lex_run_v2_2 (SEnv.env 20 [(0, (V.t (T.sc (.string s0)))), (1, (V.fn 27 [])), (5, (V.t (T.sc (.int .i64 s1))))]) [] (l_lex_run_v2_2_Q x)
  | 0, s0, s1, x, h => by cases h
  | m + 1, s0, s1, x, h => by
    refine loop_step (sp_lex_run_v2_ok n) code_l_lex_run_v2_2_ok (fun a ha => absurd ha (by rw [show loopsOf code_l_lex_run_v2_2 = [] from by kernel_rfl]; simp)) (no_scope (by kernel_rfl)) ((l_lex_run_v2_2_eq n _ s0 s1).trans h) (fun E sg h => ?_) (fun ex E sg hne h => ?_)
    · simp only [l_lex_run_v2_2_K] at h
      obtain ⟨u0, hu0, h⟩ := Option.bind_eq_some_iff.1 h
      obtain ⟨u1, hu1, h⟩ := Option.bind_eq_some_iff.1 h
      obtain ⟨u2, hu2, h⟩ := Option.bind_eq_some_iff.1 h
      exact SemL.pre (k := 0) (by decide) (WkA.env (WkA.cons (strOf_wk hu0) rfl (WkA.cons (fnN_wk hu1 .nil) rfl (WkA.cons (intOf_wk hu2) rfl WkA.nil))) 20) (WkS.none _) (l_lex_run_v2_2_run n m _ _ x h)
    · unfold l_lex_run_v2_2_K at h
      split at h
      · exact absurd rfl hne
      · obtain ⟨u0, hu0, h⟩ := Option.bind_eq_some_iff.1 h
        simp only [Option.some.injEq] at h
        subst h
        exact ⟨0, _, _, by decide, WkA.env (WkA.cons (intOf_wk hu0) rfl WkA.nil) 20, (WkS.none _), rfl, rfl, rfl⟩
      · cases h
theorem l_lex_run_v2_2_ok (n : Nat) : LoopOk Tryd.prog (sp_lex_run_v2 n) 0 20 code_l_lex_run_v2_2 := by
    intro R key E sg K r hk h
    rw [show Go.Eng.keyOf code_l_lex_run_v2_2 = some 2 from by kernel_rfl] at hk
    cases hk
    have h : l_lex_run_v2_2_S n R E sg K = some r := h
    unfold l_lex_run_v2_2_S at h
    obtain ⟨u0, hu0, h⟩ := Option.bind_eq_some_iff.1 h
    obtain ⟨u1, hu1, h⟩ := Option.bind_eq_some_iff.1 h
    obtain ⟨u2, hu2, h⟩ := Option.bind_eq_some_iff.1 h
    obtain ⟨x, hx, h⟩ := Option.bind_eq_some_iff.1 h
    refine (SemL.pre (k := 0) (by decide) (WkA.env (WkA.cons (strOf_wk hu0) rfl (WkA.cons (fnN_wk hu1 .nil) rfl (WkA.cons (intOf_wk hu2) rfl WkA.nil))) 20) (WkS.none _) (l_lex_run_v2_2_run n n _ _ x hx)).mono ?_
    intro ex e s hq
    obtain ⟨rfl, rfl, rfl⟩ := hq
    exact ⟨_, rfl, h⟩
def K_lex_run_v2 (v : V) (s : Sig) : Option (Int) := Option.bind (V.intOf .i64 v) fun u0 => some u0
theorem K_lex_run_v2_wk {v : V} {s : Sig} {r : Int} (h : K_lex_run_v2 v s = some r) : Wk v (enc_lex_run_v2 r) ∧ WkS 0 s (encS_lex_run_v2 r) := by
  unfold K_lex_run_v2 at h
  obtain ⟨u0, hu0, h⟩ := Option.bind_eq_some_iff.1 h
  simp only [Option.some.injEq] at h
  subst h
  exact ⟨(intOf_wk hu0), (WkS.none _)⟩
theorem m_lex_run_v2_eq (n : Nat) (a0 : ByteArray) : mF Tryd.prog (sp_lex_run_v2 n) 21 [(V.t (T.sc (.string a0))), (V.fn 27 [])] [] K_lex_run_v2 = m_lex_run_v2 n a0 := by kernel_rfl
theorem m_lex_run_v2_ok (n : Nat) : ok_lex_run_v2 (m_lex_run_v2 n) := fun a0 r h => mF_ok sound (sp_lex_run_v2_ok n) code_lex_run_v2_fn code_lex_run_v2_body (forall_getD (d := .skip) 1 (by kernel_rfl) (fun i hi => match i, hi with | 0, _ => l_lex_run_v2_2_ok n | i + 1, hi => absurd hi (by omega))) (no_scope (by kernel_rfl)) ((m_lex_run_v2_eq n a0).trans h) (fun v s hk => ⟨(K_lex_run_v2_wk hk).1, rfl, (K_lex_run_v2_wk hk).2⟩)


/-! suture/lex.word$1 -/
def m_lex_word_1 (n : Nat) (a0 : Int) : Option (Bool) :=
Option.bind (m_lex_letter n a0) fun r0 =>
Option.bind (bif !r0 then m_lex_digit n a0 else some false) fun r1 =>
some (bif r0 then true else r1)
def enc_lex_word_1 (r : Bool) : V := (V.t (T.sc (.bool r)))
def encS_lex_word_1 (r : Bool) : Sig := []
def ok_lex_word_1 (m : Int → Option (Bool)) : Prop := ∀ (a0 : Int) (r : Bool), m a0 = some r → FuncOk Tryd.prog 39 [(V.t (T.sc (.int .u8 a0)))] [] (enc_lex_word_1 r) (encS_lex_word_1 r)
def c_lex_word_1 (m : Int → Option (Bool)) (vs : List V) (sg : Sig) : Option CallM := bif Nat.beq vs.length 1 && Nat.beq sg.length 0 then Option.bind (V.intOf .u8 (vs.getD 0 .any)) fun u0 => some { α := Bool, m := m u0, dflt := false, enc := fun y => ((V.t (T.sc (.bool y))), []) } else none
theorem c_lex_word_1_ok (m : Int → Option (Bool)) (hm : ok_lex_word_1 m) (vs : List V) (sg : Sig) (cm : CallM) (x : cm.α) (h : c_lex_word_1 m vs sg = some cm) (hx : cm.m = some x) : FuncOk Tryd.prog 39 vs sg (cm.enc x).1 (cm.enc x).2 := by
  unfold c_lex_word_1 at h
  have h0 := callee_sig h
  clear h
  obtain ⟨hl, hs, h⟩ := h0
  obtain ⟨u0, hu0, h⟩ := Option.bind_eq_some_iff.1 h
  simp only [Option.some.injEq] at h
  subst h
  exact (hm u0 x hx).wk (args_wk hl (.cons (intOf_wk hu0) .nil)) (wkSg_of hs .nil)
noncomputable def code_lex_word_1 : Code := Tryd.f39.body.getD .skip
noncomputable def sp_lex_word_1 (n : Nat) : Go.Eng.Spec := ⟨fun f vs sg => (match f with
    | 23 => c_lex_letter (m_lex_letter n) vs sg
    | 24 => c_lex_digit (m_lex_digit n) vs sg
    | _ => none), fun R key E sg K => (match key with
    | _ => none)⟩
theorem sp_lex_word_1_ok (n : Nat) : CallsOk Tryd.prog (sp_lex_word_1 n) := by
  intro f vs sg cm x h hx
  simp only [sp_lex_word_1] at h
  split at h
  · exact c_lex_letter_ok _ (m_lex_letter_ok n) vs sg cm x h hx
  · exact c_lex_digit_ok _ (m_lex_digit_ok n) vs sg cm x h hx
  · cases h
theorem code_lex_word_1_fn : Tryd.prog.funcs[39]? = some Tryd.f39 := Tryd.func39
theorem code_lex_word_1_body : Tryd.f39.body = some code_lex_word_1 := by kernel_rfl
theorem code_lex_word_1_ok : CodeOk Tryd.prog code_lex_word_1 := (sound 39 _ _ code_lex_word_1_fn code_lex_word_1_body).1
def K_lex_word_1 (v : V) (s : Sig) : Option (Bool) := Option.bind (V.boolOf v) fun u0 => some u0
theorem K_lex_word_1_wk {v : V} {s : Sig} {r : Bool} (h : K_lex_word_1 v s = some r) : Wk v (enc_lex_word_1 r) ∧ WkS 0 s (encS_lex_word_1 r) := by
  unfold K_lex_word_1 at h
  obtain ⟨u0, hu0, h⟩ := Option.bind_eq_some_iff.1 h
  simp only [Option.some.injEq] at h
  subst h
  exact ⟨(boolOf_wk hu0), (WkS.none _)⟩
theorem m_lex_word_1_eq (n : Nat) (a0 : Int) : mF Tryd.prog (sp_lex_word_1 n) 39 [(V.t (T.sc (.int .u8 a0)))] [] K_lex_word_1 = m_lex_word_1 n a0 := by kernel_rfl
theorem m_lex_word_1_ok (n : Nat) : ok_lex_word_1 (m_lex_word_1 n) := fun a0 r h => mF_ok sound (sp_lex_word_1_ok n) code_lex_word_1_fn code_lex_word_1_body (fun a ha => absurd ha (by rw [show loopsOf code_lex_word_1 = [] from by kernel_rfl]; simp)) (no_scope (by kernel_rfl)) ((m_lex_word_1_eq n a0).trans h) (fun v s hk => ⟨(K_lex_word_1_wk hk).1, rfl, (K_lex_word_1_wk hk).2⟩)


/-! suture/lex.run -/
def l_lex_run_v3_2_B (n : Nat) (k : ByteArray × Int → Option (Int)) : ByteArray × Int → Option (Int) := fun (s0, s1) =>
Option.bind (bidx ((decide ((s1 : Int) < ((ByteArray.size s0 : Nat) : Int)))) s0 s1) fun b0 =>
Option.bind (bif (decide ((s1 : Int) < ((ByteArray.size s0 : Nat) : Int))) then m_lex_word_1 n ((UInt8.toNat b0 : Nat) : Int) else some false) fun r1 =>
bif (bif (decide ((s1 : Int) < ((ByteArray.size s0 : Nat) : Int))) then r1 else false) then (
k (s0, (IntKind.wrap .i64 (s1 + 1))))
else (
some s1)
def l_lex_run_v3_2 (n : Nat) : Nat → ByteArray × Int → Option (Int)
  | 0, _ => none
  | m + 1, s => l_lex_run_v3_2_B n (l_lex_run_v3_2 n m) s
def m_lex_run_v3 (n : Nat) (a0 : ByteArray) : Option (Int) :=
Option.bind (l_lex_run_v3_2 n n (a0, 0)) fun p3 =>
some p3
def enc_lex_run_v3 (r : Int) : V := (V.t (T.sc (.int .i64 r)))
def encS_lex_run_v3 (r : Int) : Sig := []
def ok_lex_run_v3 (m : ByteArray → Option (Int)) : Prop := ∀ (a0 : ByteArray) (r : Int), m a0 = some r → FuncOk Tryd.prog 21 [(V.t (T.sc (.string a0))), (V.fn 39 [])] [] (enc_lex_run_v3 r) (encS_lex_run_v3 r)
def c_lex_run_v3 (m : ByteArray → Option (Int)) (vs : List V) (sg : Sig) : Option CallM := bif Nat.beq vs.length 2 && Nat.beq sg.length 0 then Option.bind (V.strOf (vs.getD 0 .any)) fun u0 => Option.bind (V.fnN 39 0 (vs.getD 1 .any)) fun u1 => some { α := Int, m := m u0, dflt := 0, enc := fun y => ((V.t (T.sc (.int .i64 y))), []) } else none
theorem c_lex_run_v3_ok (m : ByteArray → Option (Int)) (hm : ok_lex_run_v3 m) (vs : List V) (sg : Sig) (cm : CallM) (x : cm.α) (h : c_lex_run_v3 m vs sg = some cm) (hx : cm.m = some x) : FuncOk Tryd.prog 21 vs sg (cm.enc x).1 (cm.enc x).2 := by
  unfold c_lex_run_v3 at h
  have h0 := callee_sig h
  clear h
  obtain ⟨hl, hs, h⟩ := h0
  obtain ⟨u0, hu0, h⟩ := Option.bind_eq_some_iff.1 h
  obtain ⟨u1, hu1, h⟩ := Option.bind_eq_some_iff.1 h
  simp only [Option.some.injEq] at h
  subst h
  exact (hm u0 x hx).wk (args_wk hl (.cons (strOf_wk hu0) (.cons (fnN_wk hu1 .nil) .nil))) (wkSg_of hs .nil)
noncomputable def code_lex_run_v3 : Code := Tryd.f21.body.getD .skip
def l_lex_run_v3_2_S (n : Nat) (R : Type) (E : SEnv) (sg : Sig) (K : Ex → SEnv → Sig → Option R) : Option R := Option.bind (V.strOf (SEnv.at E 0)) fun u0 => Option.bind (V.fnN 39 0 (SEnv.at E 1)) fun u1 => Option.bind (V.intOf .i64 (SEnv.at E 5)) fun u2 => Option.bind (l_lex_run_v3_2 n n (u0, u2)) fun p0 => K (.exit 0) [(5, (V.t (T.sc (.int .i64 p0))))] []
noncomputable def sp_lex_run_v3 (n : Nat) : Go.Eng.Spec := ⟨fun f vs sg => (match f with
    | 39 => c_lex_word_1 (m_lex_word_1 n) vs sg
    | _ => none), fun R key E sg K => (match key with
    | 2 => l_lex_run_v3_2_S n R E sg K
    | _ => none)⟩
theorem sp_lex_run_v3_ok (n : Nat) : CallsOk Tryd.prog (sp_lex_run_v3 n) := by
  intro f vs sg cm x h hx
  simp only [sp_lex_run_v3] at h
  split at h
  · exact c_lex_word_1_ok _ (m_lex_word_1_ok n) vs sg cm x h hx
  · cases h
theorem code_lex_run_v3_fn : Tryd.prog.funcs[21]? = some Tryd.f21 := Tryd.func21
theorem code_lex_run_v3_body : Tryd.f21.body = some code_lex_run_v3 := by kernel_rfl
theorem code_lex_run_v3_ok : CodeOk Tryd.prog code_lex_run_v3 := (sound 21 _ _ code_lex_run_v3_fn code_lex_run_v3_body).1
noncomputable def code_l_lex_run_v3_2 : Code := (loopsOf code_lex_run_v3).getD 0 .skip
theorem code_l_lex_run_v3_2_ok : CodeOk Tryd.prog code_l_lex_run_v3_2 := codeOk_loops code_lex_run_v3_ok _ (getD_mem (by kernel_rfl))
def l_lex_run_v3_2_K (k : ByteArray × Int → Option (Int)) : Ex → SEnv → Sig → Option (Int) := fun x E sg => match x with
  | .normal => Option.bind (V.strOf (SEnv.at E 0)) fun u0 => Option.bind (V.fnN 39 0 (SEnv.at E 1)) fun u1 => Option.bind (V.intOf .i64 (SEnv.at E 5)) fun u2 => k (u0, u2)
  | (.exit 0) => Option.bind (V.intOf .i64 (SEnv.at E 5)) fun u0 => some u0
  | _ => none
theorem l_lex_run_v3_2_eq (n : Nat) (k : ByteArray × Int → Option (Int)) (s0 : ByteArray) (s1 : Int) : mX Tryd.prog (sp_lex_run_v3 n) 20 code_l_lex_run_v3_2 [(0, (V.t (T.sc (.string s0)))), (1, (V.fn 39 [])), (5, (V.t (T.sc (.int .i64 s1))))] [] (l_lex_run_v3_2_K k) = l_lex_run_v3_2_B n k (s0, s1) := by kernel_rfl
def l_lex_run_v3_2_Q (x : Int) (ex : Ex) (e : Env) (s : Sig) : Prop := (fun p0 => (ex = (.exit 0) ∧ e = SEnv.env 20 [(5, (V.t (T.sc (.int .i64 p0))))] ∧ s = [])) x
theorem l_lex_run_v3_2_run (n : Nat) : ∀ (m : Nat) (s0 : ByteArray) (s1 : Int) (x : Int), l_lex_run_v3_2 n m (s0, s1) = some x → SemL Tryd.prog 0 code_l_lex_run_v3_2 (SEnv.env 20 [(0, (V.t (T.sc (.string s0)))), (1, (V.fn 39 [])), (5, (V.t (T.sc (.int .i64 s1))))]) [] (l_lex_run_v3_2_Q x)
  | 0, s0, s1, x, h => by cases h
  | m + 1, s0, s1, x, h => by
    refine loop_step (sp_lex_run_v3_ok n) code_l_lex_run_v3_2_ok (fun a ha => absurd ha (by rw [show loopsOf code_l_lex_run_v3_2 = [] from by kernel_rfl]; simp)) (no_scope (by kernel_rfl)) ((l_lex_run_v3_2_eq n _ s0 s1).trans h) (fun E sg h => ?_) (fun ex E sg hne h => ?_)
    · simp only [l_lex_run_v3_2_K] at h
      obtain ⟨u0, hu0, h⟩ := Option.bind_eq_some_iff.1 h
      obtain ⟨u1, hu1, h⟩ := Option.bind_eq_some_iff.1 h
      obtain ⟨u2, hu2, h⟩ := Option.bind_eq_some_iff.1 h
      exact SemL.pre (k := 0) (by decide) (WkA.env (WkA.cons (strOf_wk hu0) rfl (WkA.cons (fnN_wk hu1 .nil) rfl (WkA.cons (intOf_wk hu2) rfl WkA.nil))) 20) (WkS.none _) (l_lex_run_v3_2_run n m _ _ x h)
    · unfold l_lex_run_v3_2_K at h
      split at h
      · exact absurd rfl hne
      · obtain ⟨u0, hu0, h⟩ := Option.bind_eq_some_iff.1 h
        simp only [Option.some.injEq] at h
        subst h
        exact ⟨0, _, _, by decide, WkA.env (WkA.cons (intOf_wk hu0) rfl WkA.nil) 20, (WkS.none _), rfl, rfl, rfl⟩
      · cases h
theorem l_lex_run_v3_2_ok (n : Nat) : LoopOk Tryd.prog (sp_lex_run_v3 n) 0 20 code_l_lex_run_v3_2 := by
    intro R key E sg K r hk h
    rw [show Go.Eng.keyOf code_l_lex_run_v3_2 = some 2 from by kernel_rfl] at hk
    cases hk
    have h : l_lex_run_v3_2_S n R E sg K = some r := h
    unfold l_lex_run_v3_2_S at h
    obtain ⟨u0, hu0, h⟩ := Option.bind_eq_some_iff.1 h
    obtain ⟨u1, hu1, h⟩ := Option.bind_eq_some_iff.1 h
    obtain ⟨u2, hu2, h⟩ := Option.bind_eq_some_iff.1 h
    obtain ⟨x, hx, h⟩ := Option.bind_eq_some_iff.1 h
    refine (SemL.pre (k := 0) (by decide) (WkA.env (WkA.cons (strOf_wk hu0) rfl (WkA.cons (fnN_wk hu1 .nil) rfl (WkA.cons (intOf_wk hu2) rfl WkA.nil))) 20) (WkS.none _) (l_lex_run_v3_2_run n n _ _ x hx)).mono ?_
    intro ex e s hq
    obtain ⟨rfl, rfl, rfl⟩ := hq
    exact ⟨_, rfl, h⟩
def K_lex_run_v3 (v : V) (s : Sig) : Option (Int) := Option.bind (V.intOf .i64 v) fun u0 => some u0
theorem K_lex_run_v3_wk {v : V} {s : Sig} {r : Int} (h : K_lex_run_v3 v s = some r) : Wk v (enc_lex_run_v3 r) ∧ WkS 0 s (encS_lex_run_v3 r) := by
  unfold K_lex_run_v3 at h
  obtain ⟨u0, hu0, h⟩ := Option.bind_eq_some_iff.1 h
  simp only [Option.some.injEq] at h
  subst h
  exact ⟨(intOf_wk hu0), (WkS.none _)⟩
theorem m_lex_run_v3_eq (n : Nat) (a0 : ByteArray) : mF Tryd.prog (sp_lex_run_v3 n) 21 [(V.t (T.sc (.string a0))), (V.fn 39 [])] [] K_lex_run_v3 = m_lex_run_v3 n a0 := by kernel_rfl
theorem m_lex_run_v3_ok (n : Nat) : ok_lex_run_v3 (m_lex_run_v3 n) := fun a0 r h => mF_ok sound (sp_lex_run_v3_ok n) code_lex_run_v3_fn code_lex_run_v3_body (forall_getD (d := .skip) 1 (by kernel_rfl) (fun i hi => match i, hi with | 0, _ => l_lex_run_v3_2_ok n | i + 1, hi => absurd hi (by omega))) (no_scope (by kernel_rfl)) ((m_lex_run_v3_eq n a0).trans h) (fun v s hk => ⟨(K_lex_run_v3_wk hk).1, rfl, (K_lex_run_v3_wk hk).2⟩)


/-! suture/lex.word -/
def m_lex_word (n : Nat) (a0 : ByteArray) : Option (Int) :=
Option.bind (bidx (!(ByteArray.toList a0 == ByteArray.toList (⟨#[]⟩ : ByteArray))) a0 0) fun b0 =>
Option.bind (bif !(ByteArray.toList a0 == ByteArray.toList (⟨#[]⟩ : ByteArray)) then m_lex_letter n ((UInt8.toNat b0 : Nat) : Int) else some false) fun r1 =>
bif (bif (ByteArray.toList a0 == ByteArray.toList (⟨#[]⟩ : ByteArray)) then true else (!r1)) then (
some 0)
else (
Option.bind (m_lex_run_v3 n a0) fun r2 =>
bif (decide ((r2 : Int) > 12)) then (
some 0)
else (
some r2))
def enc_lex_word (r : Int) : V := (V.t (T.sc (.int .i64 r)))
def encS_lex_word (r : Int) : Sig := []
def ok_lex_word (m : ByteArray → Option (Int)) : Prop := ∀ (a0 : ByteArray) (r : Int), m a0 = some r → FuncOk Tryd.prog 28 [(V.t (T.sc (.string a0)))] [] (enc_lex_word r) (encS_lex_word r)
def c_lex_word (m : ByteArray → Option (Int)) (vs : List V) (sg : Sig) : Option CallM := bif Nat.beq vs.length 1 && Nat.beq sg.length 0 then Option.bind (V.strOf (vs.getD 0 .any)) fun u0 => some { α := Int, m := m u0, dflt := 0, enc := fun y => ((V.t (T.sc (.int .i64 y))), []) } else none
theorem c_lex_word_ok (m : ByteArray → Option (Int)) (hm : ok_lex_word m) (vs : List V) (sg : Sig) (cm : CallM) (x : cm.α) (h : c_lex_word m vs sg = some cm) (hx : cm.m = some x) : FuncOk Tryd.prog 28 vs sg (cm.enc x).1 (cm.enc x).2 := by
  unfold c_lex_word at h
  have h0 := callee_sig h
  clear h
  obtain ⟨hl, hs, h⟩ := h0
  obtain ⟨u0, hu0, h⟩ := Option.bind_eq_some_iff.1 h
  simp only [Option.some.injEq] at h
  subst h
  exact (hm u0 x hx).wk (args_wk hl (.cons (strOf_wk hu0) .nil)) (wkSg_of hs .nil)
noncomputable def code_lex_word : Code := Tryd.f28.body.getD .skip
noncomputable def sp_lex_word (n : Nat) : Go.Eng.Spec := ⟨fun f vs sg => (match f with
    | 23 => c_lex_letter (m_lex_letter n) vs sg
    | 21 => c_lex_run_v3 (m_lex_run_v3 n) vs sg
    | _ => none), fun R key E sg K => (match key with
    | _ => none)⟩
theorem sp_lex_word_ok (n : Nat) : CallsOk Tryd.prog (sp_lex_word n) := by
  intro f vs sg cm x h hx
  simp only [sp_lex_word] at h
  split at h
  · exact c_lex_letter_ok _ (m_lex_letter_ok n) vs sg cm x h hx
  · exact c_lex_run_v3_ok _ (m_lex_run_v3_ok n) vs sg cm x h hx
  · cases h
theorem code_lex_word_fn : Tryd.prog.funcs[28]? = some Tryd.f28 := Tryd.func28
theorem code_lex_word_body : Tryd.f28.body = some code_lex_word := by kernel_rfl
theorem code_lex_word_ok : CodeOk Tryd.prog code_lex_word := (sound 28 _ _ code_lex_word_fn code_lex_word_body).1
def K_lex_word (v : V) (s : Sig) : Option (Int) := Option.bind (V.intOf .i64 v) fun u0 => some u0
theorem K_lex_word_wk {v : V} {s : Sig} {r : Int} (h : K_lex_word v s = some r) : Wk v (enc_lex_word r) ∧ WkS 0 s (encS_lex_word r) := by
  unfold K_lex_word at h
  obtain ⟨u0, hu0, h⟩ := Option.bind_eq_some_iff.1 h
  simp only [Option.some.injEq] at h
  subst h
  exact ⟨(intOf_wk hu0), (WkS.none _)⟩
theorem m_lex_word_eq (n : Nat) (a0 : ByteArray) : mF Tryd.prog (sp_lex_word n) 28 [(V.t (T.sc (.string a0)))] [] K_lex_word = m_lex_word n a0 := by kernel_rfl
theorem m_lex_word_ok (n : Nat) : ok_lex_word (m_lex_word n) := fun a0 r h => mF_ok sound (sp_lex_word_ok n) code_lex_word_fn code_lex_word_body (fun a ha => absurd ha (by rw [show loopsOf code_lex_word = [] from by kernel_rfl]; simp)) (no_scope (by kernel_rfl)) ((m_lex_word_eq n a0).trans h) (fun v s hk => ⟨(K_lex_word_wk hk).1, rfl, (K_lex_word_wk hk).2⟩)


/-! suture/lex.run -/
def l_lex_run_v4_2_B (n : Nat) (k : ByteArray × Int → Option (Int)) : ByteArray × Int → Option (Int) := fun (s0, s1) =>
Option.bind (bidx ((decide ((s1 : Int) < ((ByteArray.size s0 : Nat) : Int)))) s0 s1) fun b0 =>
Option.bind (bif (decide ((s1 : Int) < ((ByteArray.size s0 : Nat) : Int))) then m_lex_digit n ((UInt8.toNat b0 : Nat) : Int) else some false) fun r1 =>
bif (bif (decide ((s1 : Int) < ((ByteArray.size s0 : Nat) : Int))) then r1 else false) then (
k (s0, (IntKind.wrap .i64 (s1 + 1))))
else (
some s1)
def l_lex_run_v4_2 (n : Nat) : Nat → ByteArray × Int → Option (Int)
  | 0, _ => none
  | m + 1, s => l_lex_run_v4_2_B n (l_lex_run_v4_2 n m) s
def m_lex_run_v4 (n : Nat) (a0 : ByteArray) : Option (Int) :=
Option.bind (l_lex_run_v4_2 n n (a0, 0)) fun p3 =>
some p3
def enc_lex_run_v4 (r : Int) : V := (V.t (T.sc (.int .i64 r)))
def encS_lex_run_v4 (r : Int) : Sig := []
def ok_lex_run_v4 (m : ByteArray → Option (Int)) : Prop := ∀ (a0 : ByteArray) (r : Int), m a0 = some r → FuncOk Tryd.prog 21 [(V.t (T.sc (.string a0))), (V.fn 24 [])] [] (enc_lex_run_v4 r) (encS_lex_run_v4 r)
def c_lex_run_v4 (m : ByteArray → Option (Int)) (vs : List V) (sg : Sig) : Option CallM := bif Nat.beq vs.length 2 && Nat.beq sg.length 0 then Option.bind (V.strOf (vs.getD 0 .any)) fun u0 => Option.bind (V.fnN 24 0 (vs.getD 1 .any)) fun u1 => some { α := Int, m := m u0, dflt := 0, enc := fun y => ((V.t (T.sc (.int .i64 y))), []) } else none
theorem c_lex_run_v4_ok (m : ByteArray → Option (Int)) (hm : ok_lex_run_v4 m) (vs : List V) (sg : Sig) (cm : CallM) (x : cm.α) (h : c_lex_run_v4 m vs sg = some cm) (hx : cm.m = some x) : FuncOk Tryd.prog 21 vs sg (cm.enc x).1 (cm.enc x).2 := by
  unfold c_lex_run_v4 at h
  have h0 := callee_sig h
  clear h
  obtain ⟨hl, hs, h⟩ := h0
  obtain ⟨u0, hu0, h⟩ := Option.bind_eq_some_iff.1 h
  obtain ⟨u1, hu1, h⟩ := Option.bind_eq_some_iff.1 h
  simp only [Option.some.injEq] at h
  subst h
  exact (hm u0 x hx).wk (args_wk hl (.cons (strOf_wk hu0) (.cons (fnN_wk hu1 .nil) .nil))) (wkSg_of hs .nil)
noncomputable def code_lex_run_v4 : Code := Tryd.f21.body.getD .skip
def l_lex_run_v4_2_S (n : Nat) (R : Type) (E : SEnv) (sg : Sig) (K : Ex → SEnv → Sig → Option R) : Option R := Option.bind (V.strOf (SEnv.at E 0)) fun u0 => Option.bind (V.fnN 24 0 (SEnv.at E 1)) fun u1 => Option.bind (V.intOf .i64 (SEnv.at E 5)) fun u2 => Option.bind (l_lex_run_v4_2 n n (u0, u2)) fun p0 => K (.exit 0) [(5, (V.t (T.sc (.int .i64 p0))))] []
noncomputable def sp_lex_run_v4 (n : Nat) : Go.Eng.Spec := ⟨fun f vs sg => (match f with
    | 24 => c_lex_digit (m_lex_digit n) vs sg
    | _ => none), fun R key E sg K => (match key with
    | 2 => l_lex_run_v4_2_S n R E sg K
    | _ => none)⟩
theorem sp_lex_run_v4_ok (n : Nat) : CallsOk Tryd.prog (sp_lex_run_v4 n) := by
  intro f vs sg cm x h hx
  simp only [sp_lex_run_v4] at h
  split at h
  · exact c_lex_digit_ok _ (m_lex_digit_ok n) vs sg cm x h hx
  · cases h
theorem code_lex_run_v4_fn : Tryd.prog.funcs[21]? = some Tryd.f21 := Tryd.func21
theorem code_lex_run_v4_body : Tryd.f21.body = some code_lex_run_v4 := by kernel_rfl
theorem code_lex_run_v4_ok : CodeOk Tryd.prog code_lex_run_v4 := (sound 21 _ _ code_lex_run_v4_fn code_lex_run_v4_body).1
noncomputable def code_l_lex_run_v4_2 : Code := (loopsOf code_lex_run_v4).getD 0 .skip
theorem code_l_lex_run_v4_2_ok : CodeOk Tryd.prog code_l_lex_run_v4_2 := codeOk_loops code_lex_run_v4_ok _ (getD_mem (by kernel_rfl))
def l_lex_run_v4_2_K (k : ByteArray × Int → Option (Int)) : Ex → SEnv → Sig → Option (Int) := fun x E sg => match x with
  | .normal => Option.bind (V.strOf (SEnv.at E 0)) fun u0 => Option.bind (V.fnN 24 0 (SEnv.at E 1)) fun u1 => Option.bind (V.intOf .i64 (SEnv.at E 5)) fun u2 => k (u0, u2)
  | (.exit 0) => Option.bind (V.intOf .i64 (SEnv.at E 5)) fun u0 => some u0
  | _ => none
theorem l_lex_run_v4_2_eq (n : Nat) (k : ByteArray × Int → Option (Int)) (s0 : ByteArray) (s1 : Int) : mX Tryd.prog (sp_lex_run_v4 n) 20 code_l_lex_run_v4_2 [(0, (V.t (T.sc (.string s0)))), (1, (V.fn 24 [])), (5, (V.t (T.sc (.int .i64 s1))))] [] (l_lex_run_v4_2_K k) = l_lex_run_v4_2_B n k (s0, s1) := by kernel_rfl
def l_lex_run_v4_2_Q (x : Int) (ex : Ex) (e : Env) (s : Sig) : Prop := (fun p0 => (ex = (.exit 0) ∧ e = SEnv.env 20 [(5, (V.t (T.sc (.int .i64 p0))))] ∧ s = [])) x
theorem l_lex_run_v4_2_run (n : Nat) : ∀ (m : Nat) (s0 : ByteArray) (s1 : Int) (x : Int), l_lex_run_v4_2 n m (s0, s1) = some x → SemL Tryd.prog 0 code_l_lex_run_v4_2 (SEnv.env 20 [(0, (V.t (T.sc (.string s0)))), (1, (V.fn 24 [])), (5, (V.t (T.sc (.int .i64 s1))))]) [] (l_lex_run_v4_2_Q x)
  | 0, s0, s1, x, h => by cases h
  | m + 1, s0, s1, x, h => by
    refine loop_step (sp_lex_run_v4_ok n) code_l_lex_run_v4_2_ok (fun a ha => absurd ha (by rw [show loopsOf code_l_lex_run_v4_2 = [] from by kernel_rfl]; simp)) (no_scope (by kernel_rfl)) ((l_lex_run_v4_2_eq n _ s0 s1).trans h) (fun E sg h => ?_) (fun ex E sg hne h => ?_)
    · simp only [l_lex_run_v4_2_K] at h
      obtain ⟨u0, hu0, h⟩ := Option.bind_eq_some_iff.1 h
      obtain ⟨u1, hu1, h⟩ := Option.bind_eq_some_iff.1 h
      obtain ⟨u2, hu2, h⟩ := Option.bind_eq_some_iff.1 h
      exact SemL.pre (k := 0) (by decide) (WkA.env (WkA.cons (strOf_wk hu0) rfl (WkA.cons (fnN_wk hu1 .nil) rfl (WkA.cons (intOf_wk hu2) rfl WkA.nil))) 20) (WkS.none _) (l_lex_run_v4_2_run n m _ _ x h)
    · unfold l_lex_run_v4_2_K at h
      split at h
      · exact absurd rfl hne
      · obtain ⟨u0, hu0, h⟩ := Option.bind_eq_some_iff.1 h
        simp only [Option.some.injEq] at h
        subst h
        exact ⟨0, _, _, by decide, WkA.env (WkA.cons (intOf_wk hu0) rfl WkA.nil) 20, (WkS.none _), rfl, rfl, rfl⟩
      · cases h
theorem l_lex_run_v4_2_ok (n : Nat) : LoopOk Tryd.prog (sp_lex_run_v4 n) 0 20 code_l_lex_run_v4_2 := by
    intro R key E sg K r hk h
    rw [show Go.Eng.keyOf code_l_lex_run_v4_2 = some 2 from by kernel_rfl] at hk
    cases hk
    have h : l_lex_run_v4_2_S n R E sg K = some r := h
    unfold l_lex_run_v4_2_S at h
    obtain ⟨u0, hu0, h⟩ := Option.bind_eq_some_iff.1 h
    obtain ⟨u1, hu1, h⟩ := Option.bind_eq_some_iff.1 h
    obtain ⟨u2, hu2, h⟩ := Option.bind_eq_some_iff.1 h
    obtain ⟨x, hx, h⟩ := Option.bind_eq_some_iff.1 h
    refine (SemL.pre (k := 0) (by decide) (WkA.env (WkA.cons (strOf_wk hu0) rfl (WkA.cons (fnN_wk hu1 .nil) rfl (WkA.cons (intOf_wk hu2) rfl WkA.nil))) 20) (WkS.none _) (l_lex_run_v4_2_run n n _ _ x hx)).mono ?_
    intro ex e s hq
    obtain ⟨rfl, rfl, rfl⟩ := hq
    exact ⟨_, rfl, h⟩
def K_lex_run_v4 (v : V) (s : Sig) : Option (Int) := Option.bind (V.intOf .i64 v) fun u0 => some u0
theorem K_lex_run_v4_wk {v : V} {s : Sig} {r : Int} (h : K_lex_run_v4 v s = some r) : Wk v (enc_lex_run_v4 r) ∧ WkS 0 s (encS_lex_run_v4 r) := by
  unfold K_lex_run_v4 at h
  obtain ⟨u0, hu0, h⟩ := Option.bind_eq_some_iff.1 h
  simp only [Option.some.injEq] at h
  subst h
  exact ⟨(intOf_wk hu0), (WkS.none _)⟩
theorem m_lex_run_v4_eq (n : Nat) (a0 : ByteArray) : mF Tryd.prog (sp_lex_run_v4 n) 21 [(V.t (T.sc (.string a0))), (V.fn 24 [])] [] K_lex_run_v4 = m_lex_run_v4 n a0 := by kernel_rfl
theorem m_lex_run_v4_ok (n : Nat) : ok_lex_run_v4 (m_lex_run_v4 n) := fun a0 r h => mF_ok sound (sp_lex_run_v4_ok n) code_lex_run_v4_fn code_lex_run_v4_body (forall_getD (d := .skip) 1 (by kernel_rfl) (fun i hi => match i, hi with | 0, _ => l_lex_run_v4_2_ok n | i + 1, hi => absurd hi (by omega))) (no_scope (by kernel_rfl)) ((m_lex_run_v4_eq n a0).trans h) (fun v s hk => ⟨(K_lex_run_v4_wk hk).1, rfl, (K_lex_run_v4_wk hk).2⟩)


/-! strconv.Atoi: from elsewhere -/
def m_strconv_Atoi (n : Nat) (a0 : ByteArray) : Option (Int) := atoiM a0
def enc_strconv_Atoi (r : Int) : V := (V.tup [(V.t (T.sc (.int .i64 r))), V.any])
def encS_strconv_Atoi (r : Int) : Sig := []
def ok_strconv_Atoi (m : ByteArray → Option (Int)) : Prop := ∀ (a0 : ByteArray) (r : Int), m a0 = some r → FuncOk Tryd.prog 29 [(V.t (T.sc (.string a0)))] [] (enc_strconv_Atoi r) (encS_strconv_Atoi r)
def c_strconv_Atoi (m : ByteArray → Option (Int)) (vs : List V) (sg : Sig) : Option CallM := bif Nat.beq vs.length 1 && Nat.beq sg.length 0 then Option.bind (V.strOf (vs.getD 0 .any)) fun u0 => some { α := Int, m := m u0, dflt := 0, enc := fun y => ((V.tup [(V.t (T.sc (.int .i64 y))), V.any]), []) } else none
theorem c_strconv_Atoi_ok (m : ByteArray → Option (Int)) (hm : ok_strconv_Atoi m) (vs : List V) (sg : Sig) (cm : CallM) (x : cm.α) (h : c_strconv_Atoi m vs sg = some cm) (hx : cm.m = some x) : FuncOk Tryd.prog 29 vs sg (cm.enc x).1 (cm.enc x).2 := by
  unfold c_strconv_Atoi at h
  have h0 := callee_sig h
  clear h
  obtain ⟨hl, hs, h⟩ := h0
  obtain ⟨u0, hu0, h⟩ := Option.bind_eq_some_iff.1 h
  simp only [Option.some.injEq] at h
  subst h
  exact (hm u0 x hx).wk (args_wk hl (.cons (strOf_wk hu0) .nil)) (wkSg_of hs .nil)
theorem m_strconv_Atoi_ok (n : Nat) : ok_strconv_Atoi (m_strconv_Atoi n) := fun a0 r h => x_strconv_Atoi h


/-! strconv.Itoa: from elsewhere -/
def m_strconv_Itoa (n : Nat) (a0 : Int) : Option (ByteArray) := itoaM a0
def enc_strconv_Itoa (r : ByteArray) : V := (V.t (T.sc (.string r)))
def encS_strconv_Itoa (r : ByteArray) : Sig := []
def ok_strconv_Itoa (m : Int → Option (ByteArray)) : Prop := ∀ (a0 : Int) (r : ByteArray), m a0 = some r → FuncOk Tryd.prog 30 [(V.t (T.sc (.int .i64 a0)))] [] (enc_strconv_Itoa r) (encS_strconv_Itoa r)
def c_strconv_Itoa (m : Int → Option (ByteArray)) (vs : List V) (sg : Sig) : Option CallM := bif Nat.beq vs.length 1 && Nat.beq sg.length 0 then Option.bind (V.intOf .i64 (vs.getD 0 .any)) fun u0 => some { α := ByteArray, m := m u0, dflt := default, enc := fun y => ((V.t (T.sc (.string y))), []) } else none
theorem c_strconv_Itoa_ok (m : Int → Option (ByteArray)) (hm : ok_strconv_Itoa m) (vs : List V) (sg : Sig) (cm : CallM) (x : cm.α) (h : c_strconv_Itoa m vs sg = some cm) (hx : cm.m = some x) : FuncOk Tryd.prog 30 vs sg (cm.enc x).1 (cm.enc x).2 := by
  unfold c_strconv_Itoa at h
  have h0 := callee_sig h
  clear h
  obtain ⟨hl, hs, h⟩ := h0
  obtain ⟨u0, hu0, h⟩ := Option.bind_eq_some_iff.1 h
  simp only [Option.some.injEq] at h
  subst h
  exact (hm u0 x hx).wk (args_wk hl (.cons (intOf_wk hu0) .nil)) (wkSg_of hs .nil)
theorem m_strconv_Itoa_ok (n : Nat) : ok_strconv_Itoa (m_strconv_Itoa n) := fun a0 r h => x_strconv_Itoa h


end Go.Proofs.YtpahgmebihlffaaDoor.W
