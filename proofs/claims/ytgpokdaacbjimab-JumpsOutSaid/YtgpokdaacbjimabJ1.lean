/- What the engine's walk comes to, printed by a program of this work: for each function its model, and that it is one. No conditions. -/
import Derived.Test.YtgpokdaacbjimabBase
namespace Go.Proofs.Ytgpokdaacbjimab.W
open Go Go.Eng
set_option linter.unusedVariables false
set_option linter.unusedSimpArgs false
set_option maxRecDepth 100000


/-! suture/suturehand.Pick -/
def m_suturehand_Pick (n : Nat) (a0 : Int) (a1 : Int) : Option (Int) :=
must true (!decide (a1 = 0)) (bif (decide (((Int.tmod a0 a1) : Int) < 0)) then (
some (IntKind.wrap .i64 ((Int.tmod a0 a1) + a1)))
else (
some (Int.tmod a0 a1)))
def enc_suturehand_Pick (r : Int) : V := (V.t (T.sc (.int .i64 r)))
def encS_suturehand_Pick (r : Int) : Sig := []
def ok_suturehand_Pick (m : Int → Int → Option (Int)) : Prop := ∀ (a0 : Int) (a1 : Int) (r : Int), m a0 a1 = some r → FuncOk Try.prog 19 [(V.t (T.sc (.int .i64 a0))), (V.t (T.sc (.int .i64 a1)))] [] (enc_suturehand_Pick r) (encS_suturehand_Pick r)
def c_suturehand_Pick (m : Int → Int → Option (Int)) (vs : List V) (sg : Sig) : Option CallM := bif Nat.beq vs.length 2 && Nat.beq sg.length 0 then Option.bind (V.intOf .i64 (vs.getD 0 .any)) fun u0 => Option.bind (V.intOf .i64 (vs.getD 1 .any)) fun u1 => some { α := Int, m := m u0 u1, dflt := 0, enc := fun y => ((V.t (T.sc (.int .i64 y))), []) } else none
theorem c_suturehand_Pick_ok (m : Int → Int → Option (Int)) (hm : ok_suturehand_Pick m) (vs : List V) (sg : Sig) (cm : CallM) (x : cm.α) (h : c_suturehand_Pick m vs sg = some cm) (hx : cm.m = some x) : FuncOk Try.prog 19 vs sg (cm.enc x).1 (cm.enc x).2 := by
  unfold c_suturehand_Pick at h
  have h0 := callee_sig h
  clear h
  obtain ⟨hl, hs, h⟩ := h0
  obtain ⟨u0, hu0, h⟩ := Option.bind_eq_some_iff.1 h
  obtain ⟨u1, hu1, h⟩ := Option.bind_eq_some_iff.1 h
  simp only [Option.some.injEq] at h
  subst h
  exact (hm u0 u1 x hx).wk (args_wk hl (.cons (intOf_wk hu0) (.cons (intOf_wk hu1) .nil))) (wkSg_of hs .nil)
noncomputable def code_suturehand_Pick : Code := Try.f19.body.getD .skip
noncomputable def sp_suturehand_Pick (n : Nat) : Go.Eng.Spec := ⟨fun f vs sg => (match f with
    | _ => none), fun R key E sg K => (match key with
    | _ => none)⟩
theorem sp_suturehand_Pick_ok (n : Nat) : CallsOk Try.prog (sp_suturehand_Pick n) := by
  intro f vs sg cm x h hx
  have h : (none : Option CallM) = some cm := h
  cases h
theorem code_suturehand_Pick_fn : Try.prog.funcs[19]? = some Try.f19 := Try.func19
theorem code_suturehand_Pick_body : Try.f19.body = some code_suturehand_Pick := by kernel_rfl
theorem code_suturehand_Pick_ok : CodeOk Try.prog code_suturehand_Pick := (sound 19 _ _ code_suturehand_Pick_fn code_suturehand_Pick_body).1
def K_suturehand_Pick (v : V) (s : Sig) : Option (Int) := Option.bind (V.intOf .i64 v) fun u0 => some u0
theorem K_suturehand_Pick_wk {v : V} {s : Sig} {r : Int} (h : K_suturehand_Pick v s = some r) : Wk v (enc_suturehand_Pick r) ∧ WkS 0 s (encS_suturehand_Pick r) := by
  unfold K_suturehand_Pick at h
  obtain ⟨u0, hu0, h⟩ := Option.bind_eq_some_iff.1 h
  simp only [Option.some.injEq] at h
  subst h
  exact ⟨(intOf_wk hu0), (WkS.none _)⟩
theorem m_suturehand_Pick_eq (n : Nat) (a0 : Int) (a1 : Int) : mF Try.prog (sp_suturehand_Pick n) 19 [(V.t (T.sc (.int .i64 a0))), (V.t (T.sc (.int .i64 a1)))] [] K_suturehand_Pick = m_suturehand_Pick n a0 a1 := by kernel_rfl
theorem m_suturehand_Pick_ok (n : Nat) : ok_suturehand_Pick (m_suturehand_Pick n) := fun a0 a1 r h => mF_ok sound (sp_suturehand_Pick_ok n) code_suturehand_Pick_fn code_suturehand_Pick_body (fun a ha => absurd ha (by rw [show loopsOf code_suturehand_Pick = [] from by kernel_rfl]; simp)) (no_scope (by kernel_rfl)) ((m_suturehand_Pick_eq n a0 a1).trans h) (fun v s hk => ⟨(K_suturehand_Pick_wk hk).1, rfl, (K_suturehand_Pick_wk hk).2⟩)


/-! suture/sutureref1.letter -/
def m_sutureref1_letter (n : Nat) (a0 : Int) : Option (Bool) :=
some (bif (decide ((a0 : Int) ≥ 97)) then (decide ((a0 : Int) ≤ 122)) else false)
def enc_sutureref1_letter (r : Bool) : V := (V.t (T.sc (.bool r)))
def encS_sutureref1_letter (r : Bool) : Sig := []
def ok_sutureref1_letter (m : Int → Option (Bool)) : Prop := ∀ (a0 : Int) (r : Bool), m a0 = some r → FuncOk Try.prog 57 [(V.t (T.sc (.int .u8 a0)))] [] (enc_sutureref1_letter r) (encS_sutureref1_letter r)
def c_sutureref1_letter (m : Int → Option (Bool)) (vs : List V) (sg : Sig) : Option CallM := bif Nat.beq vs.length 1 && Nat.beq sg.length 0 then Option.bind (V.intOf .u8 (vs.getD 0 .any)) fun u0 => some { α := Bool, m := m u0, dflt := false, enc := fun y => ((V.t (T.sc (.bool y))), []) } else none
theorem c_sutureref1_letter_ok (m : Int → Option (Bool)) (hm : ok_sutureref1_letter m) (vs : List V) (sg : Sig) (cm : CallM) (x : cm.α) (h : c_sutureref1_letter m vs sg = some cm) (hx : cm.m = some x) : FuncOk Try.prog 57 vs sg (cm.enc x).1 (cm.enc x).2 := by
  unfold c_sutureref1_letter at h
  have h0 := callee_sig h
  clear h
  obtain ⟨hl, hs, h⟩ := h0
  obtain ⟨u0, hu0, h⟩ := Option.bind_eq_some_iff.1 h
  simp only [Option.some.injEq] at h
  subst h
  exact (hm u0 x hx).wk (args_wk hl (.cons (intOf_wk hu0) .nil)) (wkSg_of hs .nil)
noncomputable def code_sutureref1_letter : Code := Try.f57.body.getD .skip
noncomputable def sp_sutureref1_letter (n : Nat) : Go.Eng.Spec := ⟨fun f vs sg => (match f with
    | _ => none), fun R key E sg K => (match key with
    | _ => none)⟩
theorem sp_sutureref1_letter_ok (n : Nat) : CallsOk Try.prog (sp_sutureref1_letter n) := by
  intro f vs sg cm x h hx
  have h : (none : Option CallM) = some cm := h
  cases h
theorem code_sutureref1_letter_fn : Try.prog.funcs[57]? = some Try.f57 := Try.func57
theorem code_sutureref1_letter_body : Try.f57.body = some code_sutureref1_letter := by kernel_rfl
theorem code_sutureref1_letter_ok : CodeOk Try.prog code_sutureref1_letter := (sound 57 _ _ code_sutureref1_letter_fn code_sutureref1_letter_body).1
def K_sutureref1_letter (v : V) (s : Sig) : Option (Bool) := Option.bind (V.boolOf v) fun u0 => some u0
theorem K_sutureref1_letter_wk {v : V} {s : Sig} {r : Bool} (h : K_sutureref1_letter v s = some r) : Wk v (enc_sutureref1_letter r) ∧ WkS 0 s (encS_sutureref1_letter r) := by
  unfold K_sutureref1_letter at h
  obtain ⟨u0, hu0, h⟩ := Option.bind_eq_some_iff.1 h
  simp only [Option.some.injEq] at h
  subst h
  exact ⟨(boolOf_wk hu0), (WkS.none _)⟩
theorem m_sutureref1_letter_eq (n : Nat) (a0 : Int) : mF Try.prog (sp_sutureref1_letter n) 57 [(V.t (T.sc (.int .u8 a0)))] [] K_sutureref1_letter = m_sutureref1_letter n a0 := by kernel_rfl
theorem m_sutureref1_letter_ok (n : Nat) : ok_sutureref1_letter (m_sutureref1_letter n) := fun a0 r h => mF_ok sound (sp_sutureref1_letter_ok n) code_sutureref1_letter_fn code_sutureref1_letter_body (fun a ha => absurd ha (by rw [show loopsOf code_sutureref1_letter = [] from by kernel_rfl]; simp)) (no_scope (by kernel_rfl)) ((m_sutureref1_letter_eq n a0).trans h) (fun v s hk => ⟨(K_sutureref1_letter_wk hk).1, rfl, (K_sutureref1_letter_wk hk).2⟩)


/-! suture/sutureref1.digit -/
def m_sutureref1_digit (n : Nat) (a0 : Int) : Option (Bool) :=
some (bif (decide ((a0 : Int) ≥ 48)) then (decide ((a0 : Int) ≤ 57)) else false)
def enc_sutureref1_digit (r : Bool) : V := (V.t (T.sc (.bool r)))
def encS_sutureref1_digit (r : Bool) : Sig := []
def ok_sutureref1_digit (m : Int → Option (Bool)) : Prop := ∀ (a0 : Int) (r : Bool), m a0 = some r → FuncOk Try.prog 58 [(V.t (T.sc (.int .u8 a0)))] [] (enc_sutureref1_digit r) (encS_sutureref1_digit r)
def c_sutureref1_digit (m : Int → Option (Bool)) (vs : List V) (sg : Sig) : Option CallM := bif Nat.beq vs.length 1 && Nat.beq sg.length 0 then Option.bind (V.intOf .u8 (vs.getD 0 .any)) fun u0 => some { α := Bool, m := m u0, dflt := false, enc := fun y => ((V.t (T.sc (.bool y))), []) } else none
theorem c_sutureref1_digit_ok (m : Int → Option (Bool)) (hm : ok_sutureref1_digit m) (vs : List V) (sg : Sig) (cm : CallM) (x : cm.α) (h : c_sutureref1_digit m vs sg = some cm) (hx : cm.m = some x) : FuncOk Try.prog 58 vs sg (cm.enc x).1 (cm.enc x).2 := by
  unfold c_sutureref1_digit at h
  have h0 := callee_sig h
  clear h
  obtain ⟨hl, hs, h⟩ := h0
  obtain ⟨u0, hu0, h⟩ := Option.bind_eq_some_iff.1 h
  simp only [Option.some.injEq] at h
  subst h
  exact (hm u0 x hx).wk (args_wk hl (.cons (intOf_wk hu0) .nil)) (wkSg_of hs .nil)
noncomputable def code_sutureref1_digit : Code := Try.f58.body.getD .skip
noncomputable def sp_sutureref1_digit (n : Nat) : Go.Eng.Spec := ⟨fun f vs sg => (match f with
    | _ => none), fun R key E sg K => (match key with
    | _ => none)⟩
theorem sp_sutureref1_digit_ok (n : Nat) : CallsOk Try.prog (sp_sutureref1_digit n) := by
  intro f vs sg cm x h hx
  have h : (none : Option CallM) = some cm := h
  cases h
theorem code_sutureref1_digit_fn : Try.prog.funcs[58]? = some Try.f58 := Try.func58
theorem code_sutureref1_digit_body : Try.f58.body = some code_sutureref1_digit := by kernel_rfl
theorem code_sutureref1_digit_ok : CodeOk Try.prog code_sutureref1_digit := (sound 58 _ _ code_sutureref1_digit_fn code_sutureref1_digit_body).1
def K_sutureref1_digit (v : V) (s : Sig) : Option (Bool) := Option.bind (V.boolOf v) fun u0 => some u0
theorem K_sutureref1_digit_wk {v : V} {s : Sig} {r : Bool} (h : K_sutureref1_digit v s = some r) : Wk v (enc_sutureref1_digit r) ∧ WkS 0 s (encS_sutureref1_digit r) := by
  unfold K_sutureref1_digit at h
  obtain ⟨u0, hu0, h⟩ := Option.bind_eq_some_iff.1 h
  simp only [Option.some.injEq] at h
  subst h
  exact ⟨(boolOf_wk hu0), (WkS.none _)⟩
theorem m_sutureref1_digit_eq (n : Nat) (a0 : Int) : mF Try.prog (sp_sutureref1_digit n) 58 [(V.t (T.sc (.int .u8 a0)))] [] K_sutureref1_digit = m_sutureref1_digit n a0 := by kernel_rfl
theorem m_sutureref1_digit_ok (n : Nat) : ok_sutureref1_digit (m_sutureref1_digit n) := fun a0 r h => mF_ok sound (sp_sutureref1_digit_ok n) code_sutureref1_digit_fn code_sutureref1_digit_body (fun a ha => absurd ha (by rw [show loopsOf code_sutureref1_digit = [] from by kernel_rfl]; simp)) (no_scope (by kernel_rfl)) ((m_sutureref1_digit_eq n a0).trans h) (fun v s hk => ⟨(K_sutureref1_digit_wk hk).1, rfl, (K_sutureref1_digit_wk hk).2⟩)


/-! suture/sutureref1.number -/
def l_sutureref1_number_3_B (n : Nat) (k : ByteArray × Int × Int → Option (((Int × Bool) ⊕ ByteArray × Int))) : ByteArray × Int × Int → Option (((Int × Bool) ⊕ ByteArray × Int)) := fun (s0, s1, s2) =>
bif (decide ((s2 : Int) < ((ByteArray.size s0 : Nat) : Int))) then (
Option.bind (bidx true s0 s2) fun b0 =>
must true (!decide (10 = 0)) (bif (decide ((s1 : Int) > (IntKind.wrap .i64 (Int.tdiv (IntKind.wrap .i64 (9223372036854775807 - (IntKind.wrap .i64 (IntKind.wrap .u8 (((UInt8.toNat b0 : Nat) : Int) - 48))))) 10)))) then (
some (Sum.inl (0, false)))
else (
k (s0, (IntKind.wrap .i64 ((IntKind.wrap .i64 (10 * s1)) + (IntKind.wrap .i64 (IntKind.wrap .u8 (((UInt8.toNat b0 : Nat) : Int) - 48))))), (IntKind.wrap .i64 (s2 + 1))))))
else (
some (Sum.inr (s0, s1)))
def l_sutureref1_number_3 (n : Nat) : Nat → ByteArray × Int × Int → Option (((Int × Bool) ⊕ ByteArray × Int))
  | 0, _ => none
  | m + 1, s => l_sutureref1_number_3_B n (l_sutureref1_number_3 n m) s
def m_sutureref1_number (n : Nat) (a0 : ByteArray) : Option (Int × Bool) :=
Option.bind (l_sutureref1_number_3 n n (a0, 0, 0)) fun x1 =>
Sum.elim (fun p2 => 
some (p2.1, p2.2)) (fun x1' => (fun p3 => 
Option.bind (bidx ((!(ByteArray.toList p3.1 == ByteArray.toList (⟨#[]⟩ : ByteArray)))) p3.1 0) fun b4 =>
some (p3.2, (bif (!(ByteArray.toList p3.1 == ByteArray.toList (⟨#[]⟩ : ByteArray))) then (bif ((((UInt8.toNat b4 : Nat) : Int) : Int) != 48) then true else (ByteArray.toList p3.1 == ByteArray.toList (⟨#[48]⟩ : ByteArray))) else false))) x1') x1
def enc_sutureref1_number (r : Int × Bool) : V := (V.tup [(V.t (T.sc (.int .i64 r.1))), (V.t (T.sc (.bool r.2)))])
def encS_sutureref1_number (r : Int × Bool) : Sig := []
def ok_sutureref1_number (m : ByteArray → Option (Int × Bool)) : Prop := ∀ (a0 : ByteArray) (r : Int × Bool), m a0 = some r → FuncOk Try.prog 59 [(V.t (T.sc (.string a0)))] [] (enc_sutureref1_number r) (encS_sutureref1_number r)
def c_sutureref1_number (m : ByteArray → Option (Int × Bool)) (vs : List V) (sg : Sig) : Option CallM := bif Nat.beq vs.length 1 && Nat.beq sg.length 0 then Option.bind (V.strOf (vs.getD 0 .any)) fun u0 => some { α := Int × Bool, m := m u0, dflt := (0, false), enc := fun y => ((V.tup [(V.t (T.sc (.int .i64 y.1))), (V.t (T.sc (.bool y.2)))]), []) } else none
theorem c_sutureref1_number_ok (m : ByteArray → Option (Int × Bool)) (hm : ok_sutureref1_number m) (vs : List V) (sg : Sig) (cm : CallM) (x : cm.α) (h : c_sutureref1_number m vs sg = some cm) (hx : cm.m = some x) : FuncOk Try.prog 59 vs sg (cm.enc x).1 (cm.enc x).2 := by
  unfold c_sutureref1_number at h
  have h0 := callee_sig h
  clear h
  obtain ⟨hl, hs, h⟩ := h0
  obtain ⟨u0, hu0, h⟩ := Option.bind_eq_some_iff.1 h
  simp only [Option.some.injEq] at h
  subst h
  exact (hm u0 x hx).wk (args_wk hl (.cons (strOf_wk hu0) .nil)) (wkSg_of hs .nil)
noncomputable def code_sutureref1_number : Code := Try.f59.body.getD .skip
def l_sutureref1_number_3_S (n : Nat) (R : Type) (E : SEnv) (sg : Sig) (K : Ex → SEnv → Sig → Option R) : Option R := Option.bind (V.strOf (SEnv.at E 0)) fun u0 => Option.bind (V.intOf .i64 (SEnv.at E 4)) fun u1 => Option.bind (V.intOf .i64 (SEnv.at E 5)) fun u2 => Option.bind (l_sutureref1_number_3 n n (u0, u1, u2)) fun y => Sum.elim (fun p0 => K .ret [(2, (V.t (T.sc (.int .i64 p0.1)))), (3, (V.t (T.sc (.bool p0.2))))] []) (fun y' => (fun p1 => K (.exit 0) [(0, (V.t (T.sc (.string p1.1)))), (4, (V.t (T.sc (.int .i64 p1.2))))] []) y') y
noncomputable def sp_sutureref1_number (n : Nat) : Go.Eng.Spec := ⟨fun f vs sg => (match f with
    | _ => none), fun R key E sg K => (match key with
    | 3 => l_sutureref1_number_3_S n R E sg K
    | _ => none)⟩
theorem sp_sutureref1_number_ok (n : Nat) : CallsOk Try.prog (sp_sutureref1_number n) := by
  intro f vs sg cm x h hx
  have h : (none : Option CallM) = some cm := h
  cases h
theorem code_sutureref1_number_fn : Try.prog.funcs[59]? = some Try.f59 := Try.func59
theorem code_sutureref1_number_body : Try.f59.body = some code_sutureref1_number := by kernel_rfl
theorem code_sutureref1_number_ok : CodeOk Try.prog code_sutureref1_number := (sound 59 _ _ code_sutureref1_number_fn code_sutureref1_number_body).1
noncomputable def code_l_sutureref1_number_3 : Code := (loopsOf code_sutureref1_number).getD 0 .skip
theorem code_l_sutureref1_number_3_ok : CodeOk Try.prog code_l_sutureref1_number_3 := codeOk_loops code_sutureref1_number_ok _ (getD_mem (by kernel_rfl))
def l_sutureref1_number_3_K (k : ByteArray × Int × Int → Option (((Int × Bool) ⊕ ByteArray × Int))) : Ex → SEnv → Sig → Option (((Int × Bool) ⊕ ByteArray × Int)) := fun x E sg => match x with
  | .normal => Option.bind (V.strOf (SEnv.at E 0)) fun u0 => Option.bind (V.intOf .i64 (SEnv.at E 4)) fun u1 => Option.bind (V.intOf .i64 (SEnv.at E 5)) fun u2 => k (u0, u1, u2)
  | .ret => Option.bind (V.intOf .i64 (SEnv.at E 2)) fun u0 => Option.bind (V.boolOf (SEnv.at E 3)) fun u1 => some (Sum.inl (u0, u1))
  | (.exit 0) => Option.bind (V.strOf (SEnv.at E 0)) fun u0 => Option.bind (V.intOf .i64 (SEnv.at E 4)) fun u1 => some (Sum.inr (u0, u1))
  | _ => none
theorem l_sutureref1_number_3_eq (n : Nat) (k : ByteArray × Int × Int → Option (((Int × Bool) ⊕ ByteArray × Int))) (s0 : ByteArray) (s1 : Int) (s2 : Int) : mX Try.prog (sp_sutureref1_number n) 39 code_l_sutureref1_number_3 [(0, (V.t (T.sc (.string s0)))), (4, (V.t (T.sc (.int .i64 s1)))), (5, (V.t (T.sc (.int .i64 s2))))] [] (l_sutureref1_number_3_K k) = l_sutureref1_number_3_B n k (s0, s1, s2) := by kernel_rfl
def l_sutureref1_number_3_Q (x : ((Int × Bool) ⊕ ByteArray × Int)) (ex : Ex) (e : Env) (s : Sig) : Prop := Sum.elim (fun p0 => (ex = .ret ∧ e = SEnv.env 39 [(2, (V.t (T.sc (.int .i64 p0.1)))), (3, (V.t (T.sc (.bool p0.2))))] ∧ s = [])) (fun x' => (fun p1 => (ex = (.exit 0) ∧ e = SEnv.env 39 [(0, (V.t (T.sc (.string p1.1)))), (4, (V.t (T.sc (.int .i64 p1.2))))] ∧ s = [])) x') x
theorem l_sutureref1_number_3_run (n : Nat) : ∀ (m : Nat) (s0 : ByteArray) (s1 : Int) (s2 : Int) (x : ((Int × Bool) ⊕ ByteArray × Int)), l_sutureref1_number_3 n m (s0, s1, s2) = some x → SemL Try.prog 0 code_l_sutureref1_number_3 (SEnv.env 39 [(0, (V.t (T.sc (.string s0)))), (4, (V.t (T.sc (.int .i64 s1)))), (5, (V.t (T.sc (.int .i64 s2))))]) [] (l_sutureref1_number_3_Q x)
  | 0, s0, s1, s2, x, h => by cases h
  | m + 1, s0, s1, s2, x, h => by
    refine loop_step (sp_sutureref1_number_ok n) code_l_sutureref1_number_3_ok (fun a ha => absurd ha (by rw [show loopsOf code_l_sutureref1_number_3 = [] from by kernel_rfl]; simp)) (no_scope (by kernel_rfl)) ((l_sutureref1_number_3_eq n _ s0 s1 s2).trans h) (fun E sg h => ?_) (fun ex E sg hne h => ?_)
    · simp only [l_sutureref1_number_3_K] at h
      obtain ⟨u0, hu0, h⟩ := Option.bind_eq_some_iff.1 h
      obtain ⟨u1, hu1, h⟩ := Option.bind_eq_some_iff.1 h
      obtain ⟨u2, hu2, h⟩ := Option.bind_eq_some_iff.1 h
      exact SemL.pre (k := 0) (by decide) (WkA.env (WkA.cons (strOf_wk hu0) rfl (WkA.cons (intOf_wk hu1) rfl (WkA.cons (intOf_wk hu2) rfl WkA.nil))) 39) (WkS.none _) (l_sutureref1_number_3_run n m _ _ _ x h)
    · unfold l_sutureref1_number_3_K at h
      split at h
      · exact absurd rfl hne
      · obtain ⟨u0, hu0, h⟩ := Option.bind_eq_some_iff.1 h
        obtain ⟨u1, hu1, h⟩ := Option.bind_eq_some_iff.1 h
        simp only [Option.some.injEq] at h
        subst h
        exact ⟨0, _, _, by decide, WkA.env (WkA.cons (intOf_wk hu0) rfl (WkA.cons (boolOf_wk hu1) rfl WkA.nil)) 39, (WkS.none _), rfl, rfl, rfl⟩
      · obtain ⟨u0, hu0, h⟩ := Option.bind_eq_some_iff.1 h
        obtain ⟨u1, hu1, h⟩ := Option.bind_eq_some_iff.1 h
        simp only [Option.some.injEq] at h
        subst h
        exact ⟨0, _, _, by decide, WkA.env (WkA.cons (strOf_wk hu0) rfl (WkA.cons (intOf_wk hu1) rfl WkA.nil)) 39, (WkS.none _), rfl, rfl, rfl⟩
      · cases h
theorem l_sutureref1_number_3_ok (n : Nat) : LoopOk Try.prog (sp_sutureref1_number n) 0 39 code_l_sutureref1_number_3 := by
    intro R key E sg K r hk h
    rw [show Go.Eng.keyOf code_l_sutureref1_number_3 = some 3 from by kernel_rfl] at hk
    cases hk
    have h : l_sutureref1_number_3_S n R E sg K = some r := h
    unfold l_sutureref1_number_3_S at h
    obtain ⟨u0, hu0, h⟩ := Option.bind_eq_some_iff.1 h
    obtain ⟨u1, hu1, h⟩ := Option.bind_eq_some_iff.1 h
    obtain ⟨u2, hu2, h⟩ := Option.bind_eq_some_iff.1 h
    obtain ⟨x, hx, h⟩ := Option.bind_eq_some_iff.1 h
    refine (SemL.pre (k := 0) (by decide) (WkA.env (WkA.cons (strOf_wk hu0) rfl (WkA.cons (intOf_wk hu1) rfl (WkA.cons (intOf_wk hu2) rfl WkA.nil))) 39) (WkS.none _) (l_sutureref1_number_3_run n n _ _ _ x hx)).mono ?_
    intro ex e s hq
    rcases x with x | x <;> (obtain ⟨rfl, rfl, rfl⟩ := hq; exact ⟨_, rfl, h⟩) -- 5
def K_sutureref1_number (v : V) (s : Sig) : Option (Int × Bool) := Option.bind (V.tupN 2 v) fun u0 => Option.bind (V.intOf .i64 (u0.getD 0 .any)) fun u1 => Option.bind (V.boolOf (u0.getD 1 .any)) fun u2 => some (u1, u2)
theorem K_sutureref1_number_wk {v : V} {s : Sig} {r : Int × Bool} (h : K_sutureref1_number v s = some r) : Wk v (enc_sutureref1_number r) ∧ WkS 0 s (encS_sutureref1_number r) := by
  unfold K_sutureref1_number at h
  obtain ⟨u0, hu0, h⟩ := Option.bind_eq_some_iff.1 h
  obtain ⟨u1, hu1, h⟩ := Option.bind_eq_some_iff.1 h
  obtain ⟨u2, hu2, h⟩ := Option.bind_eq_some_iff.1 h
  simp only [Option.some.injEq] at h
  subst h
  exact ⟨(tupN_wk hu0 (.cons (intOf_wk hu1) (.cons (boolOf_wk hu2) .nil))), (WkS.none _)⟩
theorem m_sutureref1_number_eq (n : Nat) (a0 : ByteArray) : mF Try.prog (sp_sutureref1_number n) 59 [(V.t (T.sc (.string a0)))] [] K_sutureref1_number = m_sutureref1_number n a0 := by kernel_rfl
theorem m_sutureref1_number_ok (n : Nat) : ok_sutureref1_number (m_sutureref1_number n) := fun a0 r h => mF_ok sound (sp_sutureref1_number_ok n) code_sutureref1_number_fn code_sutureref1_number_body (forall_getD (d := .skip) 1 (by kernel_rfl) (fun i hi => match i, hi with | 0, _ => l_sutureref1_number_3_ok n | i + 1, hi => absurd hi (by omega))) (no_scope (by kernel_rfl)) ((m_sutureref1_number_eq n a0).trans h) (fun v s hk => ⟨(K_sutureref1_number_wk hk).1, rfl, (K_sutureref1_number_wk hk).2⟩)


/-! suture/sutureref1.one -/
def l_sutureref1_one_4_B (n : Nat) (k : ByteArray × Int × Int × Int × ByteArray × Int × Int → Option (ByteArray × Int × Int × Int × ByteArray × Int × Int)) : ByteArray × Int × Int × Int × ByteArray × Int × Int → Option (ByteArray × Int × Int × Int × ByteArray × Int × Int) := fun (s0, s1, s2, s3, s4, s5, s6) =>
Option.bind (bidx ((decide ((s2 : Int) < ((ByteArray.size s0 : Nat) : Int)))) s0 s2) fun b2 =>
Option.bind (bif (decide ((s2 : Int) < ((ByteArray.size s0 : Nat) : Int))) then m_sutureref1_letter n ((UInt8.toNat b2 : Nat) : Int) else some false) fun r3 =>
Option.bind (bidx (((decide ((s2 : Int) < ((ByteArray.size s0 : Nat) : Int))) && !r3)) s0 s2) fun b4 =>
Option.bind (bif ((decide ((s2 : Int) < ((ByteArray.size s0 : Nat) : Int))) && !r3) then m_sutureref1_digit n ((UInt8.toNat b4 : Nat) : Int) else some false) fun r5 =>
bif (bif (decide ((s2 : Int) < ((ByteArray.size s0 : Nat) : Int))) then (bif r3 then true else r5) else false) then (
k (s0, s1, (IntKind.wrap .i64 (s2 + 1)), s3, s4, s5, s6))
else (
some (s0, s1, s2, s3, s4, s5, s6))
def l_sutureref1_one_4 (n : Nat) : Nat → ByteArray × Int × Int × Int × ByteArray × Int × Int → Option (ByteArray × Int × Int × Int × ByteArray × Int × Int)
  | 0, _ => none
  | m + 1, s => l_sutureref1_one_4_B n (l_sutureref1_one_4 n m) s
def l_sutureref1_one_10_B (n : Nat) (k : ByteArray × Int × Int × Int × ByteArray × Int × Int → Option (ByteArray × Int × Int × Int × ByteArray × Int × Int)) : ByteArray × Int × Int × Int × ByteArray × Int × Int → Option (ByteArray × Int × Int × Int × ByteArray × Int × Int) := fun (s0, s1, s2, s3, s4, s5, s6) =>
Option.bind (bidx ((decide ((s2 : Int) < ((ByteArray.size s0 : Nat) : Int)))) s0 s2) fun b9 =>
Option.bind (bif (decide ((s2 : Int) < ((ByteArray.size s0 : Nat) : Int))) then m_sutureref1_digit n ((UInt8.toNat b9 : Nat) : Int) else some false) fun r10 =>
bif (bif (decide ((s2 : Int) < ((ByteArray.size s0 : Nat) : Int))) then r10 else false) then (
k (s0, s1, (IntKind.wrap .i64 (s2 + 1)), s3, s4, s5, s6))
else (
some (s0, s1, s2, s3, s4, s5, s6))
def l_sutureref1_one_10 (n : Nat) : Nat → ByteArray × Int × Int × Int × ByteArray × Int × Int → Option (ByteArray × Int × Int × Int × ByteArray × Int × Int)
  | 0, _ => none
  | m + 1, s => l_sutureref1_one_10_B n (l_sutureref1_one_10 n m) s
def l_sutureref1_one_19_B (n : Nat) (k : ByteArray × Int × Int × Int × Int × Int × ByteArray × Int × Int → Option (((Int × Int × ByteArray × Int × Int) ⊕ Int × ByteArray × Int × Int))) : ByteArray × Int × Int × Int × Int × Int × ByteArray × Int × Int → Option (((Int × Int × ByteArray × Int × Int) ⊕ Int × ByteArray × Int × Int)) := fun (s0, s1, s2, s3, s4, s5, s6, s7, s8) =>
bif (decide ((s4 : Int) < 11)) then (
Option.bind (bidx true (⟨#[61, 60, 43, 45, 42, 47, 37, 40, 41, 123, 125]⟩ : ByteArray) s4) fun b15 =>
bif ((((UInt8.toNat b15 : Nat) : Int) : Int) == s2) then (
must true (decide (0 ≤ s1) && decide (s1 ≤ s3) && decide (s3 ≤ ((ByteArray.size s0 : Nat) : Int))) (some (Sum.inl (1, 3, (ByteArray.extract s0 (Int.toNat s1) (Int.toNat s3)), 0, s1))))
else (
k (s0, s1, s2, s3, (IntKind.wrap .i64 (s4 + 1)), s5, s6, s7, s8)))
else (
some (Sum.inr (s5, s6, s7, s8)))
def l_sutureref1_one_19 (n : Nat) : Nat → ByteArray × Int × Int × Int × Int × Int × ByteArray × Int × Int → Option (((Int × Int × ByteArray × Int × Int) ⊕ Int × ByteArray × Int × Int))
  | 0, _ => none
  | m + 1, s => l_sutureref1_one_19_B n (l_sutureref1_one_19 n m) s
def m_sutureref1_one (n : Nat) (a0 : ByteArray) (a1 : Int) : Option (Int × ByteArray × Int × Int × Int) :=
Option.bind (bidx true a0 a1) fun b0 =>
Option.bind (m_sutureref1_letter n ((UInt8.toNat b0 : Nat) : Int)) fun r1 =>
bif r1 then (
Option.bind (l_sutureref1_one_4 n n (a0, a1, (IntKind.wrap .i64 (a1 + 1)), 0, (⟨#[]⟩ : ByteArray), 0, 0)) fun p7 =>
bif (decide (((IntKind.wrap .i64 (p7.2.2.1 - p7.2.1)) : Int) > 12)) then (
some (0, (⟨#[]⟩ : ByteArray), 0, 0, 0))
else (
must true (decide (0 ≤ p7.2.1) && decide (p7.2.1 ≤ p7.2.2.1) && decide (p7.2.2.1 ≤ ((ByteArray.size p7.1 : Nat) : Int))) (some (1, (ByteArray.extract p7.1 (Int.toNat p7.2.1) (Int.toNat p7.2.2.1)), 0, p7.2.1, (IntKind.wrap .i64 (p7.2.2.1 - p7.2.1))))))
else (
Option.bind (m_sutureref1_digit n ((UInt8.toNat b0 : Nat) : Int)) fun r8 =>
bif r8 then (
Option.bind (l_sutureref1_one_10 n n (a0, a1, (IntKind.wrap .i64 (a1 + 1)), 0, (⟨#[]⟩ : ByteArray), 0, 0)) fun p12 =>
must true (decide (0 ≤ p12.2.1) && decide (p12.2.1 ≤ p12.2.2.1) && decide (p12.2.2.1 ≤ ((ByteArray.size p12.1 : Nat) : Int))) (Option.bind (m_sutureref1_number n (ByteArray.extract p12.1 (Int.toNat p12.2.1) (Int.toNat p12.2.2.1))) fun r13 =>
bif (!r13.2) then (
some (0, (⟨#[]⟩ : ByteArray), 0, 0, 0))
else (
must true (decide (0 ≤ p12.2.1) && decide (p12.2.1 ≤ p12.2.2.1) && decide (p12.2.2.1 ≤ ((ByteArray.size p12.1 : Nat) : Int))) (some (2, (ByteArray.extract p12.1 (Int.toNat p12.2.1) (Int.toNat p12.2.2.1)), r13.1, p12.2.1, (IntKind.wrap .i64 (p12.2.2.1 - p12.2.1)))))))
else (
Option.bind (bidx ((bif ((((UInt8.toNat b0 : Nat) : Int) : Int) == 61) then (decide (((IntKind.wrap .i64 (a1 + 1)) : Int) < ((ByteArray.size a0 : Nat) : Int))) else false)) a0 (IntKind.wrap .i64 (a1 + 1))) fun b14 =>
bif (bif (bif ((((UInt8.toNat b0 : Nat) : Int) : Int) == 61) then (decide (((IntKind.wrap .i64 (a1 + 1)) : Int) < ((ByteArray.size a0 : Nat) : Int))) else false) then ((((UInt8.toNat b14 : Nat) : Int) : Int) == 61) else false) then (
some (3, (⟨#[61, 61]⟩ : ByteArray), 0, a1, 2))
else (
Option.bind (l_sutureref1_one_19 n n (a0, a1, ((UInt8.toNat b0 : Nat) : Int), (IntKind.wrap .i64 (a1 + 1)), 0, 0, (⟨#[]⟩ : ByteArray), 0, 0)) fun x16 =>
Sum.elim (fun p17 => 
some (p17.2.1, p17.2.2.1, p17.2.2.2.1, p17.2.2.2.2, p17.1)) (fun x16' => (fun p18 => 
some (0, (⟨#[]⟩ : ByteArray), 0, 0, 0)) x16') x16)))
def enc_sutureref1_one (r : Int × ByteArray × Int × Int × Int) : V := (V.tup [(V.agg [(V.t (T.sc (.int .i64 r.1))), (V.t (T.sc (.string r.2.1))), (V.t (T.sc (.int .i64 r.2.2.1))), (V.t (T.sc (.int .i64 r.2.2.2.1)))]), (V.t (T.sc (.int .i64 r.2.2.2.2)))])
def encS_sutureref1_one (r : Int × ByteArray × Int × Int × Int) : Sig := []
def ok_sutureref1_one (m : ByteArray → Int → Option (Int × ByteArray × Int × Int × Int)) : Prop := ∀ (a0 : ByteArray) (a1 : Int) (r : Int × ByteArray × Int × Int × Int), m a0 a1 = some r → FuncOk Try.prog 50 [(V.t (T.sc (.string a0))), (V.t (T.sc (.int .i64 a1)))] [] (enc_sutureref1_one r) (encS_sutureref1_one r)
def c_sutureref1_one (m : ByteArray → Int → Option (Int × ByteArray × Int × Int × Int)) (vs : List V) (sg : Sig) : Option CallM := bif Nat.beq vs.length 2 && Nat.beq sg.length 0 then Option.bind (V.strOf (vs.getD 0 .any)) fun u0 => Option.bind (V.intOf .i64 (vs.getD 1 .any)) fun u1 => some { α := Int × ByteArray × Int × Int × Int, m := m u0 u1, dflt := (0, default, 0, 0, 0), enc := fun y => ((V.tup [(V.agg [(V.t (T.sc (.int .i64 y.1))), (V.t (T.sc (.string y.2.1))), (V.t (T.sc (.int .i64 y.2.2.1))), (V.t (T.sc (.int .i64 y.2.2.2.1)))]), (V.t (T.sc (.int .i64 y.2.2.2.2)))]), []) } else none
theorem c_sutureref1_one_ok (m : ByteArray → Int → Option (Int × ByteArray × Int × Int × Int)) (hm : ok_sutureref1_one m) (vs : List V) (sg : Sig) (cm : CallM) (x : cm.α) (h : c_sutureref1_one m vs sg = some cm) (hx : cm.m = some x) : FuncOk Try.prog 50 vs sg (cm.enc x).1 (cm.enc x).2 := by
  unfold c_sutureref1_one at h
  have h0 := callee_sig h
  clear h
  obtain ⟨hl, hs, h⟩ := h0
  obtain ⟨u0, hu0, h⟩ := Option.bind_eq_some_iff.1 h
  obtain ⟨u1, hu1, h⟩ := Option.bind_eq_some_iff.1 h
  simp only [Option.some.injEq] at h
  subst h
  exact (hm u0 u1 x hx).wk (args_wk hl (.cons (strOf_wk hu0) (.cons (intOf_wk hu1) .nil))) (wkSg_of hs .nil)
noncomputable def code_sutureref1_one : Code := Try.f50.body.getD .skip
def l_sutureref1_one_4_S (n : Nat) (R : Type) (E : SEnv) (sg : Sig) (K : Ex → SEnv → Sig → Option R) : Option R := Option.bind (V.strOf (SEnv.at E 0)) fun u0 => Option.bind (V.intOf .i64 (SEnv.at E 1)) fun u1 => Option.bind (V.ptrOf 0 0 (SEnv.at E 4)) fun u2 => Option.bind (V.intOf .i64 (SEnv.at E 7)) fun u3 => Option.bind (cellsN 4 sg 0) fun u4 => Option.bind (V.intOf .i64 (u4.getD 0 .any)) fun u5 => Option.bind (V.strOf (u4.getD 1 .any)) fun u6 => Option.bind (V.intOf .i64 (u4.getD 2 .any)) fun u7 => Option.bind (V.intOf .i64 (u4.getD 3 .any)) fun u8 => Option.bind (l_sutureref1_one_4 n n (u0, u1, u3, u5, u6, u7, u8)) fun p0 => K (.exit 1) [(0, (V.t (T.sc (.string p0.1)))), (1, (V.t (T.sc (.int .i64 p0.2.1)))), (4, (V.ptr 0 0)), (7, (V.t (T.sc (.int .i64 p0.2.2.1))))] [some [(V.t (T.sc (.int .i64 p0.2.2.2.1))), (V.t (T.sc (.string p0.2.2.2.2.1))), (V.t (T.sc (.int .i64 p0.2.2.2.2.2.1))), (V.t (T.sc (.int .i64 p0.2.2.2.2.2.2)))]]
def l_sutureref1_one_10_S (n : Nat) (R : Type) (E : SEnv) (sg : Sig) (K : Ex → SEnv → Sig → Option R) : Option R := Option.bind (V.strOf (SEnv.at E 0)) fun u0 => Option.bind (V.intOf .i64 (SEnv.at E 1)) fun u1 => Option.bind (V.ptrOf 0 0 (SEnv.at E 4)) fun u2 => Option.bind (V.intOf .i64 (SEnv.at E 7)) fun u3 => Option.bind (cellsN 4 sg 0) fun u4 => Option.bind (V.intOf .i64 (u4.getD 0 .any)) fun u5 => Option.bind (V.strOf (u4.getD 1 .any)) fun u6 => Option.bind (V.intOf .i64 (u4.getD 2 .any)) fun u7 => Option.bind (V.intOf .i64 (u4.getD 3 .any)) fun u8 => Option.bind (l_sutureref1_one_10 n n (u0, u1, u3, u5, u6, u7, u8)) fun p0 => K (.exit 3) [(0, (V.t (T.sc (.string p0.1)))), (1, (V.t (T.sc (.int .i64 p0.2.1)))), (4, (V.ptr 0 0)), (7, (V.t (T.sc (.int .i64 p0.2.2.1))))] [some [(V.t (T.sc (.int .i64 p0.2.2.2.1))), (V.t (T.sc (.string p0.2.2.2.2.1))), (V.t (T.sc (.int .i64 p0.2.2.2.2.2.1))), (V.t (T.sc (.int .i64 p0.2.2.2.2.2.2)))]]
def l_sutureref1_one_19_S (n : Nat) (R : Type) (E : SEnv) (sg : Sig) (K : Ex → SEnv → Sig → Option R) : Option R := Option.bind (V.strOf (SEnv.at E 0)) fun u0 => Option.bind (V.intOf .i64 (SEnv.at E 1)) fun u1 => Option.bind (V.ptrOf 0 0 (SEnv.at E 4)) fun u2 => Option.bind (V.intOf .u8 (SEnv.at E 6)) fun u3 => Option.bind (V.intOf .i64 (SEnv.at E 7)) fun u4 => Option.bind (V.intOf .i64 (SEnv.at E 10)) fun u5 => Option.bind (cellsN 4 sg 0) fun u6 => Option.bind (V.intOf .i64 (u6.getD 0 .any)) fun u7 => Option.bind (V.strOf (u6.getD 1 .any)) fun u8 => Option.bind (V.intOf .i64 (u6.getD 2 .any)) fun u9 => Option.bind (V.intOf .i64 (u6.getD 3 .any)) fun u10 => Option.bind (l_sutureref1_one_19 n n (u0, u1, u3, u4, u5, u7, u8, u9, u10)) fun y => Sum.elim (fun p0 => K .ret [(4, (V.ptr 0 0)), (5, (V.t (T.sc (.int .i64 p0.1))))] [some [(V.t (T.sc (.int .i64 p0.2.1))), (V.t (T.sc (.string p0.2.2.1))), (V.t (T.sc (.int .i64 p0.2.2.2.1))), (V.t (T.sc (.int .i64 p0.2.2.2.2)))]]) (fun y' => (fun p1 => K (.exit 5) [(4, (V.ptr 0 0))] [some [(V.t (T.sc (.int .i64 p1.1))), (V.t (T.sc (.string p1.2.1))), (V.t (T.sc (.int .i64 p1.2.2.1))), (V.t (T.sc (.int .i64 p1.2.2.2)))]]) y') y
noncomputable def sp_sutureref1_one (n : Nat) : Go.Eng.Spec := ⟨fun f vs sg => (match f with
    | 57 => c_sutureref1_letter (m_sutureref1_letter n) vs sg
    | 58 => c_sutureref1_digit (m_sutureref1_digit n) vs sg
    | 59 => c_sutureref1_number (m_sutureref1_number n) vs sg
    | _ => none), fun R key E sg K => (match key with
    | 4 => l_sutureref1_one_4_S n R E sg K
    | 10 => l_sutureref1_one_10_S n R E sg K
    | 19 => l_sutureref1_one_19_S n R E sg K
    | _ => none)⟩
theorem sp_sutureref1_one_ok (n : Nat) : CallsOk Try.prog (sp_sutureref1_one n) := by
  intro f vs sg cm x h hx
  simp only [sp_sutureref1_one] at h
  split at h
  · exact c_sutureref1_letter_ok _ (m_sutureref1_letter_ok n) vs sg cm x h hx
  · exact c_sutureref1_digit_ok _ (m_sutureref1_digit_ok n) vs sg cm x h hx
  · exact c_sutureref1_number_ok _ (m_sutureref1_number_ok n) vs sg cm x h hx
  · cases h
theorem code_sutureref1_one_fn : Try.prog.funcs[50]? = some Try.f50 := Try.func50
theorem code_sutureref1_one_body : Try.f50.body = some code_sutureref1_one := by kernel_rfl
theorem code_sutureref1_one_ok : CodeOk Try.prog code_sutureref1_one := (sound 50 _ _ code_sutureref1_one_fn code_sutureref1_one_body).1
noncomputable def code_l_sutureref1_one_4 : Code := (loopsOf code_sutureref1_one).getD 0 .skip
theorem code_l_sutureref1_one_4_ok : CodeOk Try.prog code_l_sutureref1_one_4 := codeOk_loops code_sutureref1_one_ok _ (getD_mem (by kernel_rfl))
def l_sutureref1_one_4_K (k : ByteArray × Int × Int × Int × ByteArray × Int × Int → Option (ByteArray × Int × Int × Int × ByteArray × Int × Int)) : Ex → SEnv → Sig → Option (ByteArray × Int × Int × Int × ByteArray × Int × Int) := fun x E sg => match x with
  | .normal => Option.bind (V.strOf (SEnv.at E 0)) fun u0 => Option.bind (V.intOf .i64 (SEnv.at E 1)) fun u1 => Option.bind (V.ptrOf 0 0 (SEnv.at E 4)) fun u2 => Option.bind (V.intOf .i64 (SEnv.at E 7)) fun u3 => Option.bind (cellsN 4 sg 0) fun u4 => Option.bind (V.intOf .i64 (u4.getD 0 .any)) fun u5 => Option.bind (V.strOf (u4.getD 1 .any)) fun u6 => Option.bind (V.intOf .i64 (u4.getD 2 .any)) fun u7 => Option.bind (V.intOf .i64 (u4.getD 3 .any)) fun u8 => k (u0, u1, u3, u5, u6, u7, u8)
  | (.exit 1) => Option.bind (V.strOf (SEnv.at E 0)) fun u0 => Option.bind (V.intOf .i64 (SEnv.at E 1)) fun u1 => Option.bind (V.ptrOf 0 0 (SEnv.at E 4)) fun u2 => Option.bind (V.intOf .i64 (SEnv.at E 7)) fun u3 => Option.bind (cellsN 4 sg 0) fun u4 => Option.bind (V.intOf .i64 (u4.getD 0 .any)) fun u5 => Option.bind (V.strOf (u4.getD 1 .any)) fun u6 => Option.bind (V.intOf .i64 (u4.getD 2 .any)) fun u7 => Option.bind (V.intOf .i64 (u4.getD 3 .any)) fun u8 => some (u0, u1, u3, u5, u6, u7, u8)
  | _ => none
theorem l_sutureref1_one_4_eq (n : Nat) (k : ByteArray × Int × Int × Int × ByteArray × Int × Int → Option (ByteArray × Int × Int × Int × ByteArray × Int × Int)) (s0 : ByteArray) (s1 : Int) (s2 : Int) (s3 : Int) (s4 : ByteArray) (s5 : Int) (s6 : Int) : mX Try.prog (sp_sutureref1_one n) 119 code_l_sutureref1_one_4 [(0, (V.t (T.sc (.string s0)))), (1, (V.t (T.sc (.int .i64 s1)))), (4, (V.ptr 0 0)), (7, (V.t (T.sc (.int .i64 s2))))] [some [(V.t (T.sc (.int .i64 s3))), (V.t (T.sc (.string s4))), (V.t (T.sc (.int .i64 s5))), (V.t (T.sc (.int .i64 s6)))]] (l_sutureref1_one_4_K k) = l_sutureref1_one_4_B n k (s0, s1, s2, s3, s4, s5, s6) := by kernel_rfl
def l_sutureref1_one_4_Q (x : ByteArray × Int × Int × Int × ByteArray × Int × Int) (ex : Ex) (e : Env) (s : Sig) : Prop := (fun p0 => (ex = (.exit 1) ∧ e = SEnv.env 119 [(0, (V.t (T.sc (.string p0.1)))), (1, (V.t (T.sc (.int .i64 p0.2.1)))), (4, (V.ptr 0 0)), (7, (V.t (T.sc (.int .i64 p0.2.2.1))))] ∧ s = [some [(V.t (T.sc (.int .i64 p0.2.2.2.1))), (V.t (T.sc (.string p0.2.2.2.2.1))), (V.t (T.sc (.int .i64 p0.2.2.2.2.2.1))), (V.t (T.sc (.int .i64 p0.2.2.2.2.2.2)))]])) x
theorem l_sutureref1_one_4_run (n : Nat) : ∀ (m : Nat) (s0 : ByteArray) (s1 : Int) (s2 : Int) (s3 : Int) (s4 : ByteArray) (s5 : Int) (s6 : Int) (x : ByteArray × Int × Int × Int × ByteArray × Int × Int), l_sutureref1_one_4 n m (s0, s1, s2, s3, s4, s5, s6) = some x → SemL Try.prog 0 code_l_sutureref1_one_4 (SEnv.env 119 [(0, (V.t (T.sc (.string s0)))), (1, (V.t (T.sc (.int .i64 s1)))), (4, (V.ptr 0 0)), (7, (V.t (T.sc (.int .i64 s2))))]) [some [(V.t (T.sc (.int .i64 s3))), (V.t (T.sc (.string s4))), (V.t (T.sc (.int .i64 s5))), (V.t (T.sc (.int .i64 s6)))]] (l_sutureref1_one_4_Q x)
  | 0, s0, s1, s2, s3, s4, s5, s6, x, h => by cases h
  | m + 1, s0, s1, s2, s3, s4, s5, s6, x, h => by
    refine loop_step (sp_sutureref1_one_ok n) code_l_sutureref1_one_4_ok (fun a ha => absurd ha (by rw [show loopsOf code_l_sutureref1_one_4 = [] from by kernel_rfl]; simp)) (no_scope (by kernel_rfl)) ((l_sutureref1_one_4_eq n _ s0 s1 s2 s3 s4 s5 s6).trans h) (fun E sg h => ?_) (fun ex E sg hne h => ?_)
    · simp only [l_sutureref1_one_4_K] at h
      obtain ⟨u0, hu0, h⟩ := Option.bind_eq_some_iff.1 h
      obtain ⟨u1, hu1, h⟩ := Option.bind_eq_some_iff.1 h
      obtain ⟨u2, hu2, h⟩ := Option.bind_eq_some_iff.1 h
      obtain ⟨u3, hu3, h⟩ := Option.bind_eq_some_iff.1 h
      obtain ⟨u4, hu4, h⟩ := Option.bind_eq_some_iff.1 h
      obtain ⟨u5, hu5, h⟩ := Option.bind_eq_some_iff.1 h
      obtain ⟨u6, hu6, h⟩ := Option.bind_eq_some_iff.1 h
      obtain ⟨u7, hu7, h⟩ := Option.bind_eq_some_iff.1 h
      obtain ⟨u8, hu8, h⟩ := Option.bind_eq_some_iff.1 h
      exact SemL.pre (k := 1) (by decide) (WkA.env (WkA.cons (strOf_wk hu0) rfl (WkA.cons (intOf_wk hu1) rfl (WkA.cons (ptrOf_wk hu2) rfl (WkA.cons (intOf_wk hu3) rfl WkA.nil)))) 119) (wkR_sig (WkR.cons (cellsN_wk hu4 (.cons (intOf_wk hu5) (.cons (strOf_wk hu6) (.cons (intOf_wk hu7) (.cons (intOf_wk hu8) .nil))))).1 (cellsN_wk hu4 (.cons (intOf_wk hu5) (.cons (strOf_wk hu6) (.cons (intOf_wk hu7) (.cons (intOf_wk hu8) .nil))))).2 (renL_mem (.cons rfl (.cons rfl (.cons rfl (.cons rfl .nil))))) (WkR.nil _)) rfl) (l_sutureref1_one_4_run n m _ _ _ _ _ _ _ x h)
    · unfold l_sutureref1_one_4_K at h
      split at h
      · exact absurd rfl hne
      · obtain ⟨u0, hu0, h⟩ := Option.bind_eq_some_iff.1 h
        obtain ⟨u1, hu1, h⟩ := Option.bind_eq_some_iff.1 h
        obtain ⟨u2, hu2, h⟩ := Option.bind_eq_some_iff.1 h
        obtain ⟨u3, hu3, h⟩ := Option.bind_eq_some_iff.1 h
        obtain ⟨u4, hu4, h⟩ := Option.bind_eq_some_iff.1 h
        obtain ⟨u5, hu5, h⟩ := Option.bind_eq_some_iff.1 h
        obtain ⟨u6, hu6, h⟩ := Option.bind_eq_some_iff.1 h
        obtain ⟨u7, hu7, h⟩ := Option.bind_eq_some_iff.1 h
        obtain ⟨u8, hu8, h⟩ := Option.bind_eq_some_iff.1 h
        simp only [Option.some.injEq] at h
        subst h
        exact ⟨1, _, _, by decide, WkA.env (WkA.cons (strOf_wk hu0) rfl (WkA.cons (intOf_wk hu1) rfl (WkA.cons (ptrOf_wk hu2) rfl (WkA.cons (intOf_wk hu3) rfl WkA.nil)))) 119, (wkR_sig (WkR.cons (cellsN_wk hu4 (.cons (intOf_wk hu5) (.cons (strOf_wk hu6) (.cons (intOf_wk hu7) (.cons (intOf_wk hu8) .nil))))).1 (cellsN_wk hu4 (.cons (intOf_wk hu5) (.cons (strOf_wk hu6) (.cons (intOf_wk hu7) (.cons (intOf_wk hu8) .nil))))).2 (renL_mem (.cons rfl (.cons rfl (.cons rfl (.cons rfl .nil))))) (WkR.nil _)) rfl), rfl, rfl, rfl⟩
      · cases h
theorem l_sutureref1_one_4_ok (n : Nat) : LoopOk Try.prog (sp_sutureref1_one n) 0 119 code_l_sutureref1_one_4 := by
    intro R key E sg K r hk h
    rw [show Go.Eng.keyOf code_l_sutureref1_one_4 = some 4 from by kernel_rfl] at hk
    cases hk
    have h : l_sutureref1_one_4_S n R E sg K = some r := h
    unfold l_sutureref1_one_4_S at h
    obtain ⟨u0, hu0, h⟩ := Option.bind_eq_some_iff.1 h
    obtain ⟨u1, hu1, h⟩ := Option.bind_eq_some_iff.1 h
    obtain ⟨u2, hu2, h⟩ := Option.bind_eq_some_iff.1 h
    obtain ⟨u3, hu3, h⟩ := Option.bind_eq_some_iff.1 h
    obtain ⟨u4, hu4, h⟩ := Option.bind_eq_some_iff.1 h
    obtain ⟨u5, hu5, h⟩ := Option.bind_eq_some_iff.1 h
    obtain ⟨u6, hu6, h⟩ := Option.bind_eq_some_iff.1 h
    obtain ⟨u7, hu7, h⟩ := Option.bind_eq_some_iff.1 h
    obtain ⟨u8, hu8, h⟩ := Option.bind_eq_some_iff.1 h
    obtain ⟨x, hx, h⟩ := Option.bind_eq_some_iff.1 h
    refine (SemL.pre (k := 1) (by decide) (WkA.env (WkA.cons (strOf_wk hu0) rfl (WkA.cons (intOf_wk hu1) rfl (WkA.cons (ptrOf_wk hu2) rfl (WkA.cons (intOf_wk hu3) rfl WkA.nil)))) 119) (wkR_sig (WkR.cons (cellsN_wk hu4 (.cons (intOf_wk hu5) (.cons (strOf_wk hu6) (.cons (intOf_wk hu7) (.cons (intOf_wk hu8) .nil))))).1 (cellsN_wk hu4 (.cons (intOf_wk hu5) (.cons (strOf_wk hu6) (.cons (intOf_wk hu7) (.cons (intOf_wk hu8) .nil))))).2 (renL_mem (.cons rfl (.cons rfl (.cons rfl (.cons rfl .nil))))) (WkR.nil _)) rfl) (l_sutureref1_one_4_run n n _ _ _ _ _ _ _ x hx)).mono ?_
    intro ex e s hq
    obtain ⟨rfl, rfl, rfl⟩ := hq
    exact ⟨_, rfl, h⟩
noncomputable def code_l_sutureref1_one_10 : Code := (loopsOf code_sutureref1_one).getD 1 .skip
theorem code_l_sutureref1_one_10_ok : CodeOk Try.prog code_l_sutureref1_one_10 := codeOk_loops code_sutureref1_one_ok _ (getD_mem (by kernel_rfl))
def l_sutureref1_one_10_K (k : ByteArray × Int × Int × Int × ByteArray × Int × Int → Option (ByteArray × Int × Int × Int × ByteArray × Int × Int)) : Ex → SEnv → Sig → Option (ByteArray × Int × Int × Int × ByteArray × Int × Int) := fun x E sg => match x with
  | .normal => Option.bind (V.strOf (SEnv.at E 0)) fun u0 => Option.bind (V.intOf .i64 (SEnv.at E 1)) fun u1 => Option.bind (V.ptrOf 0 0 (SEnv.at E 4)) fun u2 => Option.bind (V.intOf .i64 (SEnv.at E 7)) fun u3 => Option.bind (cellsN 4 sg 0) fun u4 => Option.bind (V.intOf .i64 (u4.getD 0 .any)) fun u5 => Option.bind (V.strOf (u4.getD 1 .any)) fun u6 => Option.bind (V.intOf .i64 (u4.getD 2 .any)) fun u7 => Option.bind (V.intOf .i64 (u4.getD 3 .any)) fun u8 => k (u0, u1, u3, u5, u6, u7, u8)
  | (.exit 3) => Option.bind (V.strOf (SEnv.at E 0)) fun u0 => Option.bind (V.intOf .i64 (SEnv.at E 1)) fun u1 => Option.bind (V.ptrOf 0 0 (SEnv.at E 4)) fun u2 => Option.bind (V.intOf .i64 (SEnv.at E 7)) fun u3 => Option.bind (cellsN 4 sg 0) fun u4 => Option.bind (V.intOf .i64 (u4.getD 0 .any)) fun u5 => Option.bind (V.strOf (u4.getD 1 .any)) fun u6 => Option.bind (V.intOf .i64 (u4.getD 2 .any)) fun u7 => Option.bind (V.intOf .i64 (u4.getD 3 .any)) fun u8 => some (u0, u1, u3, u5, u6, u7, u8)
  | _ => none
theorem l_sutureref1_one_10_eq (n : Nat) (k : ByteArray × Int × Int × Int × ByteArray × Int × Int → Option (ByteArray × Int × Int × Int × ByteArray × Int × Int)) (s0 : ByteArray) (s1 : Int) (s2 : Int) (s3 : Int) (s4 : ByteArray) (s5 : Int) (s6 : Int) : mX Try.prog (sp_sutureref1_one n) 119 code_l_sutureref1_one_10 [(0, (V.t (T.sc (.string s0)))), (1, (V.t (T.sc (.int .i64 s1)))), (4, (V.ptr 0 0)), (7, (V.t (T.sc (.int .i64 s2))))] [some [(V.t (T.sc (.int .i64 s3))), (V.t (T.sc (.string s4))), (V.t (T.sc (.int .i64 s5))), (V.t (T.sc (.int .i64 s6)))]] (l_sutureref1_one_10_K k) = l_sutureref1_one_10_B n k (s0, s1, s2, s3, s4, s5, s6) := by kernel_rfl
def l_sutureref1_one_10_Q (x : ByteArray × Int × Int × Int × ByteArray × Int × Int) (ex : Ex) (e : Env) (s : Sig) : Prop := (fun p0 => (ex = (.exit 3) ∧ e = SEnv.env 119 [(0, (V.t (T.sc (.string p0.1)))), (1, (V.t (T.sc (.int .i64 p0.2.1)))), (4, (V.ptr 0 0)), (7, (V.t (T.sc (.int .i64 p0.2.2.1))))] ∧ s = [some [(V.t (T.sc (.int .i64 p0.2.2.2.1))), (V.t (T.sc (.string p0.2.2.2.2.1))), (V.t (T.sc (.int .i64 p0.2.2.2.2.2.1))), (V.t (T.sc (.int .i64 p0.2.2.2.2.2.2)))]])) x
theorem l_sutureref1_one_10_run (n : Nat) : ∀ (m : Nat) (s0 : ByteArray) (s1 : Int) (s2 : Int) (s3 : Int) (s4 : ByteArray) (s5 : Int) (s6 : Int) (x : ByteArray × Int × Int × Int × ByteArray × Int × Int), l_sutureref1_one_10 n m (s0, s1, s2, s3, s4, s5, s6) = some x → SemL Try.prog 0 code_l_sutureref1_one_10 (SEnv.env 119 [(0, (V.t (T.sc (.string s0)))), (1, (V.t (T.sc (.int .i64 s1)))), (4, (V.ptr 0 0)), (7, (V.t (T.sc (.int .i64 s2))))]) [some [(V.t (T.sc (.int .i64 s3))), (V.t (T.sc (.string s4))), (V.t (T.sc (.int .i64 s5))), (V.t (T.sc (.int .i64 s6)))]] (l_sutureref1_one_10_Q x)
  | 0, s0, s1, s2, s3, s4, s5, s6, x, h => by cases h
  | m + 1, s0, s1, s2, s3, s4, s5, s6, x, h => by
    refine loop_step (sp_sutureref1_one_ok n) code_l_sutureref1_one_10_ok (fun a ha => absurd ha (by rw [show loopsOf code_l_sutureref1_one_10 = [] from by kernel_rfl]; simp)) (no_scope (by kernel_rfl)) ((l_sutureref1_one_10_eq n _ s0 s1 s2 s3 s4 s5 s6).trans h) (fun E sg h => ?_) (fun ex E sg hne h => ?_)
    · simp only [l_sutureref1_one_10_K] at h
      obtain ⟨u0, hu0, h⟩ := Option.bind_eq_some_iff.1 h
      obtain ⟨u1, hu1, h⟩ := Option.bind_eq_some_iff.1 h
      obtain ⟨u2, hu2, h⟩ := Option.bind_eq_some_iff.1 h
      obtain ⟨u3, hu3, h⟩ := Option.bind_eq_some_iff.1 h
      obtain ⟨u4, hu4, h⟩ := Option.bind_eq_some_iff.1 h
      obtain ⟨u5, hu5, h⟩ := Option.bind_eq_some_iff.1 h
      obtain ⟨u6, hu6, h⟩ := Option.bind_eq_some_iff.1 h
      obtain ⟨u7, hu7, h⟩ := Option.bind_eq_some_iff.1 h
      obtain ⟨u8, hu8, h⟩ := Option.bind_eq_some_iff.1 h
      exact SemL.pre (k := 1) (by decide) (WkA.env (WkA.cons (strOf_wk hu0) rfl (WkA.cons (intOf_wk hu1) rfl (WkA.cons (ptrOf_wk hu2) rfl (WkA.cons (intOf_wk hu3) rfl WkA.nil)))) 119) (wkR_sig (WkR.cons (cellsN_wk hu4 (.cons (intOf_wk hu5) (.cons (strOf_wk hu6) (.cons (intOf_wk hu7) (.cons (intOf_wk hu8) .nil))))).1 (cellsN_wk hu4 (.cons (intOf_wk hu5) (.cons (strOf_wk hu6) (.cons (intOf_wk hu7) (.cons (intOf_wk hu8) .nil))))).2 (renL_mem (.cons rfl (.cons rfl (.cons rfl (.cons rfl .nil))))) (WkR.nil _)) rfl) (l_sutureref1_one_10_run n m _ _ _ _ _ _ _ x h)
    · unfold l_sutureref1_one_10_K at h
      split at h
      · exact absurd rfl hne
      · obtain ⟨u0, hu0, h⟩ := Option.bind_eq_some_iff.1 h
        obtain ⟨u1, hu1, h⟩ := Option.bind_eq_some_iff.1 h
        obtain ⟨u2, hu2, h⟩ := Option.bind_eq_some_iff.1 h
        obtain ⟨u3, hu3, h⟩ := Option.bind_eq_some_iff.1 h
        obtain ⟨u4, hu4, h⟩ := Option.bind_eq_some_iff.1 h
        obtain ⟨u5, hu5, h⟩ := Option.bind_eq_some_iff.1 h
        obtain ⟨u6, hu6, h⟩ := Option.bind_eq_some_iff.1 h
        obtain ⟨u7, hu7, h⟩ := Option.bind_eq_some_iff.1 h
        obtain ⟨u8, hu8, h⟩ := Option.bind_eq_some_iff.1 h
        simp only [Option.some.injEq] at h
        subst h
        exact ⟨1, _, _, by decide, WkA.env (WkA.cons (strOf_wk hu0) rfl (WkA.cons (intOf_wk hu1) rfl (WkA.cons (ptrOf_wk hu2) rfl (WkA.cons (intOf_wk hu3) rfl WkA.nil)))) 119, (wkR_sig (WkR.cons (cellsN_wk hu4 (.cons (intOf_wk hu5) (.cons (strOf_wk hu6) (.cons (intOf_wk hu7) (.cons (intOf_wk hu8) .nil))))).1 (cellsN_wk hu4 (.cons (intOf_wk hu5) (.cons (strOf_wk hu6) (.cons (intOf_wk hu7) (.cons (intOf_wk hu8) .nil))))).2 (renL_mem (.cons rfl (.cons rfl (.cons rfl (.cons rfl .nil))))) (WkR.nil _)) rfl), rfl, rfl, rfl⟩
      · cases h
theorem l_sutureref1_one_10_ok (n : Nat) : LoopOk Try.prog (sp_sutureref1_one n) 0 119 code_l_sutureref1_one_10 := by
    intro R key E sg K r hk h
    rw [show Go.Eng.keyOf code_l_sutureref1_one_10 = some 10 from by kernel_rfl] at hk
    cases hk
    have h : l_sutureref1_one_10_S n R E sg K = some r := h
    unfold l_sutureref1_one_10_S at h
    obtain ⟨u0, hu0, h⟩ := Option.bind_eq_some_iff.1 h
    obtain ⟨u1, hu1, h⟩ := Option.bind_eq_some_iff.1 h
    obtain ⟨u2, hu2, h⟩ := Option.bind_eq_some_iff.1 h
    obtain ⟨u3, hu3, h⟩ := Option.bind_eq_some_iff.1 h
    obtain ⟨u4, hu4, h⟩ := Option.bind_eq_some_iff.1 h
    obtain ⟨u5, hu5, h⟩ := Option.bind_eq_some_iff.1 h
    obtain ⟨u6, hu6, h⟩ := Option.bind_eq_some_iff.1 h
    obtain ⟨u7, hu7, h⟩ := Option.bind_eq_some_iff.1 h
    obtain ⟨u8, hu8, h⟩ := Option.bind_eq_some_iff.1 h
    obtain ⟨x, hx, h⟩ := Option.bind_eq_some_iff.1 h
    refine (SemL.pre (k := 1) (by decide) (WkA.env (WkA.cons (strOf_wk hu0) rfl (WkA.cons (intOf_wk hu1) rfl (WkA.cons (ptrOf_wk hu2) rfl (WkA.cons (intOf_wk hu3) rfl WkA.nil)))) 119) (wkR_sig (WkR.cons (cellsN_wk hu4 (.cons (intOf_wk hu5) (.cons (strOf_wk hu6) (.cons (intOf_wk hu7) (.cons (intOf_wk hu8) .nil))))).1 (cellsN_wk hu4 (.cons (intOf_wk hu5) (.cons (strOf_wk hu6) (.cons (intOf_wk hu7) (.cons (intOf_wk hu8) .nil))))).2 (renL_mem (.cons rfl (.cons rfl (.cons rfl (.cons rfl .nil))))) (WkR.nil _)) rfl) (l_sutureref1_one_10_run n n _ _ _ _ _ _ _ x hx)).mono ?_
    intro ex e s hq
    obtain ⟨rfl, rfl, rfl⟩ := hq
    exact ⟨_, rfl, h⟩
noncomputable def code_l_sutureref1_one_19 : Code := (loopsOf code_sutureref1_one).getD 2 .skip
theorem code_l_sutureref1_one_19_ok : CodeOk Try.prog code_l_sutureref1_one_19 := codeOk_loops code_sutureref1_one_ok _ (getD_mem (by kernel_rfl))
def l_sutureref1_one_19_K (k : ByteArray × Int × Int × Int × Int × Int × ByteArray × Int × Int → Option (((Int × Int × ByteArray × Int × Int) ⊕ Int × ByteArray × Int × Int))) : Ex → SEnv → Sig → Option (((Int × Int × ByteArray × Int × Int) ⊕ Int × ByteArray × Int × Int)) := fun x E sg => match x with
  | .normal => Option.bind (V.strOf (SEnv.at E 0)) fun u0 => Option.bind (V.intOf .i64 (SEnv.at E 1)) fun u1 => Option.bind (V.ptrOf 0 0 (SEnv.at E 4)) fun u2 => Option.bind (V.intOf .u8 (SEnv.at E 6)) fun u3 => Option.bind (V.intOf .i64 (SEnv.at E 7)) fun u4 => Option.bind (V.intOf .i64 (SEnv.at E 10)) fun u5 => Option.bind (cellsN 4 sg 0) fun u6 => Option.bind (V.intOf .i64 (u6.getD 0 .any)) fun u7 => Option.bind (V.strOf (u6.getD 1 .any)) fun u8 => Option.bind (V.intOf .i64 (u6.getD 2 .any)) fun u9 => Option.bind (V.intOf .i64 (u6.getD 3 .any)) fun u10 => k (u0, u1, u3, u4, u5, u7, u8, u9, u10)
  | .ret => Option.bind (V.ptrOf 0 0 (SEnv.at E 4)) fun u0 => Option.bind (V.intOf .i64 (SEnv.at E 5)) fun u1 => Option.bind (cellsN 4 sg 0) fun u2 => Option.bind (V.intOf .i64 (u2.getD 0 .any)) fun u3 => Option.bind (V.strOf (u2.getD 1 .any)) fun u4 => Option.bind (V.intOf .i64 (u2.getD 2 .any)) fun u5 => Option.bind (V.intOf .i64 (u2.getD 3 .any)) fun u6 => some (Sum.inl (u1, u3, u4, u5, u6))
  | (.exit 5) => Option.bind (V.ptrOf 0 0 (SEnv.at E 4)) fun u0 => Option.bind (cellsN 4 sg 0) fun u1 => Option.bind (V.intOf .i64 (u1.getD 0 .any)) fun u2 => Option.bind (V.strOf (u1.getD 1 .any)) fun u3 => Option.bind (V.intOf .i64 (u1.getD 2 .any)) fun u4 => Option.bind (V.intOf .i64 (u1.getD 3 .any)) fun u5 => some (Sum.inr (u2, u3, u4, u5))
  | _ => none
theorem l_sutureref1_one_19_eq (n : Nat) (k : ByteArray × Int × Int × Int × Int × Int × ByteArray × Int × Int → Option (((Int × Int × ByteArray × Int × Int) ⊕ Int × ByteArray × Int × Int))) (s0 : ByteArray) (s1 : Int) (s2 : Int) (s3 : Int) (s4 : Int) (s5 : Int) (s6 : ByteArray) (s7 : Int) (s8 : Int) : mX Try.prog (sp_sutureref1_one n) 119 code_l_sutureref1_one_19 [(0, (V.t (T.sc (.string s0)))), (1, (V.t (T.sc (.int .i64 s1)))), (4, (V.ptr 0 0)), (6, (V.t (T.sc (.int .u8 s2)))), (7, (V.t (T.sc (.int .i64 s3)))), (10, (V.t (T.sc (.int .i64 s4))))] [some [(V.t (T.sc (.int .i64 s5))), (V.t (T.sc (.string s6))), (V.t (T.sc (.int .i64 s7))), (V.t (T.sc (.int .i64 s8)))]] (l_sutureref1_one_19_K k) = l_sutureref1_one_19_B n k (s0, s1, s2, s3, s4, s5, s6, s7, s8) := by kernel_rfl
def l_sutureref1_one_19_Q (x : ((Int × Int × ByteArray × Int × Int) ⊕ Int × ByteArray × Int × Int)) (ex : Ex) (e : Env) (s : Sig) : Prop := Sum.elim (fun p0 => (ex = .ret ∧ e = SEnv.env 119 [(4, (V.ptr 0 0)), (5, (V.t (T.sc (.int .i64 p0.1))))] ∧ s = [some [(V.t (T.sc (.int .i64 p0.2.1))), (V.t (T.sc (.string p0.2.2.1))), (V.t (T.sc (.int .i64 p0.2.2.2.1))), (V.t (T.sc (.int .i64 p0.2.2.2.2)))]])) (fun x' => (fun p1 => (ex = (.exit 5) ∧ e = SEnv.env 119 [(4, (V.ptr 0 0))] ∧ s = [some [(V.t (T.sc (.int .i64 p1.1))), (V.t (T.sc (.string p1.2.1))), (V.t (T.sc (.int .i64 p1.2.2.1))), (V.t (T.sc (.int .i64 p1.2.2.2)))]])) x') x
theorem l_sutureref1_one_19_run (n : Nat) : ∀ (m : Nat) (s0 : ByteArray) (s1 : Int) (s2 : Int) (s3 : Int) (s4 : Int) (s5 : Int) (s6 : ByteArray) (s7 : Int) (s8 : Int) (x : ((Int × Int × ByteArray × Int × Int) ⊕ Int × ByteArray × Int × Int)), l_sutureref1_one_19 n m (s0, s1, s2, s3, s4, s5, s6, s7, s8) = some x → SemL Try.prog 0 code_l_sutureref1_one_19 (SEnv.env 119 [(0, (V.t (T.sc (.string s0)))), (1, (V.t (T.sc (.int .i64 s1)))), (4, (V.ptr 0 0)), (6, (V.t (T.sc (.int .u8 s2)))), (7, (V.t (T.sc (.int .i64 s3)))), (10, (V.t (T.sc (.int .i64 s4))))]) [some [(V.t (T.sc (.int .i64 s5))), (V.t (T.sc (.string s6))), (V.t (T.sc (.int .i64 s7))), (V.t (T.sc (.int .i64 s8)))]] (l_sutureref1_one_19_Q x)
  | 0, s0, s1, s2, s3, s4, s5, s6, s7, s8, x, h => by cases h
  | m + 1, s0, s1, s2, s3, s4, s5, s6, s7, s8, x, h => by
    refine loop_step (sp_sutureref1_one_ok n) code_l_sutureref1_one_19_ok (fun a ha => absurd ha (by rw [show loopsOf code_l_sutureref1_one_19 = [] from by kernel_rfl]; simp)) (no_scope (by kernel_rfl)) ((l_sutureref1_one_19_eq n _ s0 s1 s2 s3 s4 s5 s6 s7 s8).trans h) (fun E sg h => ?_) (fun ex E sg hne h => ?_)
    · simp only [l_sutureref1_one_19_K] at h
      obtain ⟨u0, hu0, h⟩ := Option.bind_eq_some_iff.1 h
      obtain ⟨u1, hu1, h⟩ := Option.bind_eq_some_iff.1 h
      obtain ⟨u2, hu2, h⟩ := Option.bind_eq_some_iff.1 h
      obtain ⟨u3, hu3, h⟩ := Option.bind_eq_some_iff.1 h
      obtain ⟨u4, hu4, h⟩ := Option.bind_eq_some_iff.1 h
      obtain ⟨u5, hu5, h⟩ := Option.bind_eq_some_iff.1 h
      obtain ⟨u6, hu6, h⟩ := Option.bind_eq_some_iff.1 h
      obtain ⟨u7, hu7, h⟩ := Option.bind_eq_some_iff.1 h
      obtain ⟨u8, hu8, h⟩ := Option.bind_eq_some_iff.1 h
      obtain ⟨u9, hu9, h⟩ := Option.bind_eq_some_iff.1 h
      obtain ⟨u10, hu10, h⟩ := Option.bind_eq_some_iff.1 h
      exact SemL.pre (k := 1) (by decide) (WkA.env (WkA.cons (strOf_wk hu0) rfl (WkA.cons (intOf_wk hu1) rfl (WkA.cons (ptrOf_wk hu2) rfl (WkA.cons (intOf_wk hu3) rfl (WkA.cons (intOf_wk hu4) rfl (WkA.cons (intOf_wk hu5) rfl WkA.nil)))))) 119) (wkR_sig (WkR.cons (cellsN_wk hu6 (.cons (intOf_wk hu7) (.cons (strOf_wk hu8) (.cons (intOf_wk hu9) (.cons (intOf_wk hu10) .nil))))).1 (cellsN_wk hu6 (.cons (intOf_wk hu7) (.cons (strOf_wk hu8) (.cons (intOf_wk hu9) (.cons (intOf_wk hu10) .nil))))).2 (renL_mem (.cons rfl (.cons rfl (.cons rfl (.cons rfl .nil))))) (WkR.nil _)) rfl) (l_sutureref1_one_19_run n m _ _ _ _ _ _ _ _ _ x h)
    · unfold l_sutureref1_one_19_K at h
      split at h
      · exact absurd rfl hne
      · obtain ⟨u0, hu0, h⟩ := Option.bind_eq_some_iff.1 h
        obtain ⟨u1, hu1, h⟩ := Option.bind_eq_some_iff.1 h
        obtain ⟨u2, hu2, h⟩ := Option.bind_eq_some_iff.1 h
        obtain ⟨u3, hu3, h⟩ := Option.bind_eq_some_iff.1 h
        obtain ⟨u4, hu4, h⟩ := Option.bind_eq_some_iff.1 h
        obtain ⟨u5, hu5, h⟩ := Option.bind_eq_some_iff.1 h
        obtain ⟨u6, hu6, h⟩ := Option.bind_eq_some_iff.1 h
        simp only [Option.some.injEq] at h
        subst h
        exact ⟨1, _, _, by decide, WkA.env (WkA.cons (ptrOf_wk hu0) rfl (WkA.cons (intOf_wk hu1) rfl WkA.nil)) 119, (wkR_sig (WkR.cons (cellsN_wk hu2 (.cons (intOf_wk hu3) (.cons (strOf_wk hu4) (.cons (intOf_wk hu5) (.cons (intOf_wk hu6) .nil))))).1 (cellsN_wk hu2 (.cons (intOf_wk hu3) (.cons (strOf_wk hu4) (.cons (intOf_wk hu5) (.cons (intOf_wk hu6) .nil))))).2 (renL_mem (.cons rfl (.cons rfl (.cons rfl (.cons rfl .nil))))) (WkR.nil _)) rfl), rfl, rfl, rfl⟩
      · obtain ⟨u0, hu0, h⟩ := Option.bind_eq_some_iff.1 h
        obtain ⟨u1, hu1, h⟩ := Option.bind_eq_some_iff.1 h
        obtain ⟨u2, hu2, h⟩ := Option.bind_eq_some_iff.1 h
        obtain ⟨u3, hu3, h⟩ := Option.bind_eq_some_iff.1 h
        obtain ⟨u4, hu4, h⟩ := Option.bind_eq_some_iff.1 h
        obtain ⟨u5, hu5, h⟩ := Option.bind_eq_some_iff.1 h
        simp only [Option.some.injEq] at h
        subst h
        exact ⟨1, _, _, by decide, WkA.env (WkA.cons (ptrOf_wk hu0) rfl WkA.nil) 119, (wkR_sig (WkR.cons (cellsN_wk hu1 (.cons (intOf_wk hu2) (.cons (strOf_wk hu3) (.cons (intOf_wk hu4) (.cons (intOf_wk hu5) .nil))))).1 (cellsN_wk hu1 (.cons (intOf_wk hu2) (.cons (strOf_wk hu3) (.cons (intOf_wk hu4) (.cons (intOf_wk hu5) .nil))))).2 (renL_mem (.cons rfl (.cons rfl (.cons rfl (.cons rfl .nil))))) (WkR.nil _)) rfl), rfl, rfl, rfl⟩
      · cases h
theorem l_sutureref1_one_19_ok (n : Nat) : LoopOk Try.prog (sp_sutureref1_one n) 0 119 code_l_sutureref1_one_19 := by
    intro R key E sg K r hk h
    rw [show Go.Eng.keyOf code_l_sutureref1_one_19 = some 19 from by kernel_rfl] at hk
    cases hk
    have h : l_sutureref1_one_19_S n R E sg K = some r := h
    unfold l_sutureref1_one_19_S at h
    obtain ⟨u0, hu0, h⟩ := Option.bind_eq_some_iff.1 h
    obtain ⟨u1, hu1, h⟩ := Option.bind_eq_some_iff.1 h
    obtain ⟨u2, hu2, h⟩ := Option.bind_eq_some_iff.1 h
    obtain ⟨u3, hu3, h⟩ := Option.bind_eq_some_iff.1 h
    obtain ⟨u4, hu4, h⟩ := Option.bind_eq_some_iff.1 h
    obtain ⟨u5, hu5, h⟩ := Option.bind_eq_some_iff.1 h
    obtain ⟨u6, hu6, h⟩ := Option.bind_eq_some_iff.1 h
    obtain ⟨u7, hu7, h⟩ := Option.bind_eq_some_iff.1 h
    obtain ⟨u8, hu8, h⟩ := Option.bind_eq_some_iff.1 h
    obtain ⟨u9, hu9, h⟩ := Option.bind_eq_some_iff.1 h
    obtain ⟨u10, hu10, h⟩ := Option.bind_eq_some_iff.1 h
    obtain ⟨x, hx, h⟩ := Option.bind_eq_some_iff.1 h
    refine (SemL.pre (k := 1) (by decide) (WkA.env (WkA.cons (strOf_wk hu0) rfl (WkA.cons (intOf_wk hu1) rfl (WkA.cons (ptrOf_wk hu2) rfl (WkA.cons (intOf_wk hu3) rfl (WkA.cons (intOf_wk hu4) rfl (WkA.cons (intOf_wk hu5) rfl WkA.nil)))))) 119) (wkR_sig (WkR.cons (cellsN_wk hu6 (.cons (intOf_wk hu7) (.cons (strOf_wk hu8) (.cons (intOf_wk hu9) (.cons (intOf_wk hu10) .nil))))).1 (cellsN_wk hu6 (.cons (intOf_wk hu7) (.cons (strOf_wk hu8) (.cons (intOf_wk hu9) (.cons (intOf_wk hu10) .nil))))).2 (renL_mem (.cons rfl (.cons rfl (.cons rfl (.cons rfl .nil))))) (WkR.nil _)) rfl) (l_sutureref1_one_19_run n n _ _ _ _ _ _ _ _ _ x hx)).mono ?_
    intro ex e s hq
    rcases x with x | x <;> (obtain ⟨rfl, rfl, rfl⟩ := hq; exact ⟨_, rfl, h⟩) -- 5
def K_sutureref1_one (v : V) (s : Sig) : Option (Int × ByteArray × Int × Int × Int) := Option.bind (V.tupN 2 v) fun u0 => Option.bind (V.aggN 4 (u0.getD 0 .any)) fun u1 => Option.bind (V.intOf .i64 (u1.getD 0 .any)) fun u2 => Option.bind (V.strOf (u1.getD 1 .any)) fun u3 => Option.bind (V.intOf .i64 (u1.getD 2 .any)) fun u4 => Option.bind (V.intOf .i64 (u1.getD 3 .any)) fun u5 => Option.bind (V.intOf .i64 (u0.getD 1 .any)) fun u6 => some (u2, u3, u4, u5, u6)
theorem K_sutureref1_one_wk {v : V} {s : Sig} {r : Int × ByteArray × Int × Int × Int} (h : K_sutureref1_one v s = some r) : Wk v (enc_sutureref1_one r) ∧ WkS 0 s (encS_sutureref1_one r) := by
  unfold K_sutureref1_one at h
  obtain ⟨u0, hu0, h⟩ := Option.bind_eq_some_iff.1 h
  obtain ⟨u1, hu1, h⟩ := Option.bind_eq_some_iff.1 h
  obtain ⟨u2, hu2, h⟩ := Option.bind_eq_some_iff.1 h
  obtain ⟨u3, hu3, h⟩ := Option.bind_eq_some_iff.1 h
  obtain ⟨u4, hu4, h⟩ := Option.bind_eq_some_iff.1 h
  obtain ⟨u5, hu5, h⟩ := Option.bind_eq_some_iff.1 h
  obtain ⟨u6, hu6, h⟩ := Option.bind_eq_some_iff.1 h
  simp only [Option.some.injEq] at h
  subst h
  exact ⟨(tupN_wk hu0 (.cons (aggN_wk hu1 (.cons (intOf_wk hu2) (.cons (strOf_wk hu3) (.cons (intOf_wk hu4) (.cons (intOf_wk hu5) .nil))))) (.cons (intOf_wk hu6) .nil))), (WkS.none _)⟩
theorem m_sutureref1_one_eq (n : Nat) (a0 : ByteArray) (a1 : Int) : mF Try.prog (sp_sutureref1_one n) 50 [(V.t (T.sc (.string a0))), (V.t (T.sc (.int .i64 a1)))] [] K_sutureref1_one = m_sutureref1_one n a0 a1 := by kernel_rfl
theorem m_sutureref1_one_ok (n : Nat) : ok_sutureref1_one (m_sutureref1_one n) := fun a0 a1 r h => mF_ok sound (sp_sutureref1_one_ok n) code_sutureref1_one_fn code_sutureref1_one_body (forall_getD (d := .skip) 3 (by kernel_rfl) (fun i hi => match i, hi with | 0, _ => l_sutureref1_one_4_ok n | 1, _ => l_sutureref1_one_10_ok n | 2, _ => l_sutureref1_one_19_ok n | i + 3, hi => absurd hi (by omega))) (no_scope (by kernel_rfl)) ((m_sutureref1_one_eq n a0 a1).trans h) (fun v s hk => ⟨(K_sutureref1_one_wk hk).1, rfl, (K_sutureref1_one_wk hk).2⟩)


/-! suture/sutureref1.Tokens -/
def l_sutureref1_Tokens_10_B (n : Nat) (k : ByteArray × (List T) × Int → Option (ByteArray × (List T) × Int)) : ByteArray × (List T) × Int → Option (ByteArray × (List T) × Int) := fun (s0, s1, s2) =>
Option.bind (bidx ((decide ((s2 : Int) < ((ByteArray.size s0 : Nat) : Int)))) s0 s2) fun b1 =>
bif (bif (decide ((s2 : Int) < ((ByteArray.size s0 : Nat) : Int))) then ((((UInt8.toNat b1 : Nat) : Int) : Int) != 10) else false) then (
k (s0, s1, (IntKind.wrap .i64 (s2 + 1))))
else (
some (s0, s1, s2))
def l_sutureref1_Tokens_10 (n : Nat) : Nat → ByteArray × (List T) × Int → Option (ByteArray × (List T) × Int)
  | 0, _ => none
  | m + 1, s => l_sutureref1_Tokens_10_B n (l_sutureref1_Tokens_10 n m) s
def l_sutureref1_Tokens_5_B (n : Nat) (k : ByteArray × (List T) × Int → Option ((((List T) × Int × Int) ⊕ (List T) × Int))) : ByteArray × (List T) × Int → Option ((((List T) × Int × Int) ⊕ (List T) × Int)) := fun (s0, s1, s2) =>
bif (decide ((s2 : Int) < ((ByteArray.size s0 : Nat) : Int))) then (
Option.bind (bidx true s0 s2) fun b0 =>
bif (bif (bif ((((UInt8.toNat b0 : Nat) : Int) : Int) == 32) then true else ((((UInt8.toNat b0 : Nat) : Int) : Int) == 9)) then true else ((((UInt8.toNat b0 : Nat) : Int) : Int) == 10)) then (
k (s0, s1, (IntKind.wrap .i64 (s2 + 1))))
else (
bif ((((UInt8.toNat b0 : Nat) : Int) : Int) == 35) then (
Option.bind (l_sutureref1_Tokens_10 n n (s0, s1, s2)) fun p3 =>
k (p3.1, p3.2.1, p3.2.2))
else (
Option.bind (m_sutureref1_one n s0 s2) fun r4 =>
bif ((r4.2.2.2.2 : Int) == 0) then (
some (Sum.inl (([] : List T), s2, 2)))
else (
must true ((Nat.beq 4 4 || Nat.beq 4 0) && (decide (List.length s1 + List.length [(T.agg [(T.sc (.int .i64 r4.1)), (T.sc (.string r4.2.1)), (T.sc (.int .i64 r4.2.2.1)), (T.sc (.int .i64 r4.2.2.2.1))])] ≤ 1073741824) && sized 4 [(T.agg [(T.sc (.int .i64 r4.1)), (T.sc (.string r4.2.1)), (T.sc (.int .i64 r4.2.2.1)), (T.sc (.int .i64 r4.2.2.2.1))])])) (k (s0, (s1 ++ [(T.agg [(T.sc (.int .i64 r4.1)), (T.sc (.string r4.2.1)), (T.sc (.int .i64 r4.2.2.1)), (T.sc (.int .i64 r4.2.2.2.1))])]), (IntKind.wrap .i64 (s2 + r4.2.2.2.2))))))))
else (
some (Sum.inr (s1, s2)))
def l_sutureref1_Tokens_5 (n : Nat) : Nat → ByteArray × (List T) × Int → Option ((((List T) × Int × Int) ⊕ (List T) × Int))
  | 0, _ => none
  | m + 1, s => l_sutureref1_Tokens_5_B n (l_sutureref1_Tokens_5 n m) s
def m_sutureref1_Tokens (n : Nat) (a0 : ByteArray) : Option ((List T) × Int × Int) :=
bif (decide ((((ByteArray.size a0 : Nat) : Int) : Int) > 6000)) then (
some (([] : List T), 6000, 2))
else (
Option.bind (l_sutureref1_Tokens_5 n n (a0, ([] : List T), 0)) fun x5 =>
Sum.elim (fun p6 => 
some (p6.1, p6.2.1, p6.2.2)) (fun x5' => (fun p7 => 
must true ((Nat.beq 4 4 || Nat.beq 4 0) && (decide (List.length p7.1 + List.length [(T.agg [(T.sc (.int .i64 4)), (T.sc (.string (⟨#[]⟩ : ByteArray))), (T.sc (.int .i64 0)), (T.sc (.int .i64 p7.2))])] ≤ 1073741824) && sized 4 [(T.agg [(T.sc (.int .i64 4)), (T.sc (.string (⟨#[]⟩ : ByteArray))), (T.sc (.int .i64 0)), (T.sc (.int .i64 p7.2))])])) (some ((p7.1 ++ [(T.agg [(T.sc (.int .i64 4)), (T.sc (.string (⟨#[]⟩ : ByteArray))), (T.sc (.int .i64 0)), (T.sc (.int .i64 p7.2))])]), 0, 0))) x5') x5)
def enc_sutureref1_Tokens (r : (List T) × Int × Int) : V := (V.tup [(V.t (T.list r.1)), (V.t (T.sc (.int .i64 r.2.1))), (V.t (T.sc (.int .i64 r.2.2)))])
def encS_sutureref1_Tokens (r : (List T) × Int × Int) : Sig := []
def ok_sutureref1_Tokens (m : ByteArray → Option ((List T) × Int × Int)) : Prop := ∀ (a0 : ByteArray) (r : (List T) × Int × Int), m a0 = some r → FuncOk Try.prog 35 [(V.t (T.sc (.string a0)))] [] (enc_sutureref1_Tokens r) (encS_sutureref1_Tokens r)
def c_sutureref1_Tokens (m : ByteArray → Option ((List T) × Int × Int)) (vs : List V) (sg : Sig) : Option CallM := bif Nat.beq vs.length 1 && Nat.beq sg.length 0 then Option.bind (V.strOf (vs.getD 0 .any)) fun u0 => some { α := (List T) × Int × Int, m := m u0, dflt := ([], 0, 0), enc := fun y => ((V.tup [(V.t (T.list y.1)), (V.t (T.sc (.int .i64 y.2.1))), (V.t (T.sc (.int .i64 y.2.2)))]), []) } else none
theorem c_sutureref1_Tokens_ok (m : ByteArray → Option ((List T) × Int × Int)) (hm : ok_sutureref1_Tokens m) (vs : List V) (sg : Sig) (cm : CallM) (x : cm.α) (h : c_sutureref1_Tokens m vs sg = some cm) (hx : cm.m = some x) : FuncOk Try.prog 35 vs sg (cm.enc x).1 (cm.enc x).2 := by
  unfold c_sutureref1_Tokens at h
  have h0 := callee_sig h
  clear h
  obtain ⟨hl, hs, h⟩ := h0
  obtain ⟨u0, hu0, h⟩ := Option.bind_eq_some_iff.1 h
  simp only [Option.some.injEq] at h
  subst h
  exact (hm u0 x hx).wk (args_wk hl (.cons (strOf_wk hu0) .nil)) (wkSg_of hs .nil)
noncomputable def code_sutureref1_Tokens : Code := Try.f35.body.getD .skip
def l_sutureref1_Tokens_10_S (n : Nat) (R : Type) (E : SEnv) (sg : Sig) (K : Ex → SEnv → Sig → Option R) : Option R := Option.bind (V.strOf (SEnv.at E 0)) fun u0 => Option.bind (V.ownOf 4 (SEnv.at E 5)) fun u1 => Option.bind (V.intOf .i64 (SEnv.at E 6)) fun u2 => Option.bind (l_sutureref1_Tokens_10 n n (u0, u1, u2)) fun p0 => K (.exit 2) [(0, (V.t (T.sc (.string p0.1)))), (5, (V.own 4 p0.2.1)), (6, (V.t (T.sc (.int .i64 p0.2.2))))] []
def l_sutureref1_Tokens_5_S (n : Nat) (R : Type) (E : SEnv) (sg : Sig) (K : Ex → SEnv → Sig → Option R) : Option R := Option.bind (V.strOf (SEnv.at E 0)) fun u0 => Option.bind (V.ownOf 4 (SEnv.at E 5)) fun u1 => Option.bind (V.intOf .i64 (SEnv.at E 6)) fun u2 => Option.bind (l_sutureref1_Tokens_5 n n (u0, u1, u2)) fun y => Sum.elim (fun p0 => K .ret [(2, (V.own 0 p0.1)), (3, (V.t (T.sc (.int .i64 p0.2.1)))), (4, (V.t (T.sc (.int .i64 p0.2.2))))] []) (fun y' => (fun p1 => K (.exit 0) [(5, (V.own 4 p1.1)), (6, (V.t (T.sc (.int .i64 p1.2))))] []) y') y
noncomputable def sp_sutureref1_Tokens (n : Nat) : Go.Eng.Spec := ⟨fun f vs sg => (match f with
    | 50 => c_sutureref1_one (m_sutureref1_one n) vs sg
    | _ => none), fun R key E sg K => (match key with
    | 10 => l_sutureref1_Tokens_10_S n R E sg K
    | 5 => l_sutureref1_Tokens_5_S n R E sg K
    | _ => none)⟩
theorem sp_sutureref1_Tokens_ok (n : Nat) : CallsOk Try.prog (sp_sutureref1_Tokens n) := by
  intro f vs sg cm x h hx
  simp only [sp_sutureref1_Tokens] at h
  split at h
  · exact c_sutureref1_one_ok _ (m_sutureref1_one_ok n) vs sg cm x h hx
  · cases h
theorem code_sutureref1_Tokens_fn : Try.prog.funcs[35]? = some Try.f35 := Try.func35
theorem code_sutureref1_Tokens_body : Try.f35.body = some code_sutureref1_Tokens := by kernel_rfl
theorem code_sutureref1_Tokens_ok : CodeOk Try.prog code_sutureref1_Tokens := (sound 35 _ _ code_sutureref1_Tokens_fn code_sutureref1_Tokens_body).1
noncomputable def code_l_sutureref1_Tokens_10 : Code := (loopsOf code_sutureref1_Tokens).getD 1 .skip
theorem code_l_sutureref1_Tokens_10_ok : CodeOk Try.prog code_l_sutureref1_Tokens_10 := codeOk_loops code_sutureref1_Tokens_ok _ (getD_mem (by kernel_rfl))
def l_sutureref1_Tokens_10_K (k : ByteArray × (List T) × Int → Option (ByteArray × (List T) × Int)) : Ex → SEnv → Sig → Option (ByteArray × (List T) × Int) := fun x E sg => match x with
  | .normal => Option.bind (V.strOf (SEnv.at E 0)) fun u0 => Option.bind (V.ownOf 4 (SEnv.at E 5)) fun u1 => Option.bind (V.intOf .i64 (SEnv.at E 6)) fun u2 => k (u0, u1, u2)
  | (.exit 2) => Option.bind (V.strOf (SEnv.at E 0)) fun u0 => Option.bind (V.ownOf 4 (SEnv.at E 5)) fun u1 => Option.bind (V.intOf .i64 (SEnv.at E 6)) fun u2 => some (u0, u1, u2)
  | _ => none
theorem l_sutureref1_Tokens_10_eq (n : Nat) (k : ByteArray × (List T) × Int → Option (ByteArray × (List T) × Int)) (s0 : ByteArray) (s1 : List T) (s2 : Int) : mX Try.prog (sp_sutureref1_Tokens n) 67 code_l_sutureref1_Tokens_10 [(0, (V.t (T.sc (.string s0)))), (5, (V.own 4 s1)), (6, (V.t (T.sc (.int .i64 s2))))] [] (l_sutureref1_Tokens_10_K k) = l_sutureref1_Tokens_10_B n k (s0, s1, s2) := by kernel_rfl
def l_sutureref1_Tokens_10_Q (x : ByteArray × (List T) × Int) (ex : Ex) (e : Env) (s : Sig) : Prop := (fun p0 => (ex = (.exit 2) ∧ e = SEnv.env 67 [(0, (V.t (T.sc (.string p0.1)))), (5, (V.own 4 p0.2.1)), (6, (V.t (T.sc (.int .i64 p0.2.2))))] ∧ s = [])) x
theorem l_sutureref1_Tokens_10_run (n : Nat) : ∀ (m : Nat) (s0 : ByteArray) (s1 : List T) (s2 : Int) (x : ByteArray × (List T) × Int), l_sutureref1_Tokens_10 n m (s0, s1, s2) = some x → SemL Try.prog 0 code_l_sutureref1_Tokens_10 (SEnv.env 67 [(0, (V.t (T.sc (.string s0)))), (5, (V.own 4 s1)), (6, (V.t (T.sc (.int .i64 s2))))]) [] (l_sutureref1_Tokens_10_Q x)
  | 0, s0, s1, s2, x, h => by cases h
  | m + 1, s0, s1, s2, x, h => by
    refine loop_step (sp_sutureref1_Tokens_ok n) code_l_sutureref1_Tokens_10_ok (fun a ha => absurd ha (by rw [show loopsOf code_l_sutureref1_Tokens_10 = [] from by kernel_rfl]; simp)) (no_scope (by kernel_rfl)) ((l_sutureref1_Tokens_10_eq n _ s0 s1 s2).trans h) (fun E sg h => ?_) (fun ex E sg hne h => ?_)
    · simp only [l_sutureref1_Tokens_10_K] at h
      obtain ⟨u0, hu0, h⟩ := Option.bind_eq_some_iff.1 h
      obtain ⟨u1, hu1, h⟩ := Option.bind_eq_some_iff.1 h
      obtain ⟨u2, hu2, h⟩ := Option.bind_eq_some_iff.1 h
      exact SemL.pre (k := 0) (by decide) (WkA.env (WkA.cons (strOf_wk hu0) rfl (WkA.cons (ownOf_wk hu1) rfl (WkA.cons (intOf_wk hu2) rfl WkA.nil))) 67) (WkS.none _) (l_sutureref1_Tokens_10_run n m _ _ _ x h)
    · unfold l_sutureref1_Tokens_10_K at h
      split at h
      · exact absurd rfl hne
      · obtain ⟨u0, hu0, h⟩ := Option.bind_eq_some_iff.1 h
        obtain ⟨u1, hu1, h⟩ := Option.bind_eq_some_iff.1 h
        obtain ⟨u2, hu2, h⟩ := Option.bind_eq_some_iff.1 h
        simp only [Option.some.injEq] at h
        subst h
        exact ⟨0, _, _, by decide, WkA.env (WkA.cons (strOf_wk hu0) rfl (WkA.cons (ownOf_wk hu1) rfl (WkA.cons (intOf_wk hu2) rfl WkA.nil))) 67, (WkS.none _), rfl, rfl, rfl⟩
      · cases h
theorem l_sutureref1_Tokens_10_ok (n : Nat) : LoopOk Try.prog (sp_sutureref1_Tokens n) 0 67 code_l_sutureref1_Tokens_10 := by
    intro R key E sg K r hk h
    rw [show Go.Eng.keyOf code_l_sutureref1_Tokens_10 = some 10 from by kernel_rfl] at hk
    cases hk
    have h : l_sutureref1_Tokens_10_S n R E sg K = some r := h
    unfold l_sutureref1_Tokens_10_S at h
    obtain ⟨u0, hu0, h⟩ := Option.bind_eq_some_iff.1 h
    obtain ⟨u1, hu1, h⟩ := Option.bind_eq_some_iff.1 h
    obtain ⟨u2, hu2, h⟩ := Option.bind_eq_some_iff.1 h
    obtain ⟨x, hx, h⟩ := Option.bind_eq_some_iff.1 h
    refine (SemL.pre (k := 0) (by decide) (WkA.env (WkA.cons (strOf_wk hu0) rfl (WkA.cons (ownOf_wk hu1) rfl (WkA.cons (intOf_wk hu2) rfl WkA.nil))) 67) (WkS.none _) (l_sutureref1_Tokens_10_run n n _ _ _ x hx)).mono ?_
    intro ex e s hq
    obtain ⟨rfl, rfl, rfl⟩ := hq
    exact ⟨_, rfl, h⟩
noncomputable def code_l_sutureref1_Tokens_5 : Code := (loopsOf code_sutureref1_Tokens).getD 0 .skip
theorem code_l_sutureref1_Tokens_5_ok : CodeOk Try.prog code_l_sutureref1_Tokens_5 := codeOk_loops code_sutureref1_Tokens_ok _ (getD_mem (by kernel_rfl))
def l_sutureref1_Tokens_5_K (k : ByteArray × (List T) × Int → Option ((((List T) × Int × Int) ⊕ (List T) × Int))) : Ex → SEnv → Sig → Option ((((List T) × Int × Int) ⊕ (List T) × Int)) := fun x E sg => match x with
  | .normal => Option.bind (V.strOf (SEnv.at E 0)) fun u0 => Option.bind (V.ownOf 4 (SEnv.at E 5)) fun u1 => Option.bind (V.intOf .i64 (SEnv.at E 6)) fun u2 => k (u0, u1, u2)
  | .ret => Option.bind (V.ownOf 0 (SEnv.at E 2)) fun u0 => Option.bind (V.intOf .i64 (SEnv.at E 3)) fun u1 => Option.bind (V.intOf .i64 (SEnv.at E 4)) fun u2 => some (Sum.inl (u0, u1, u2))
  | (.exit 0) => Option.bind (V.ownOf 4 (SEnv.at E 5)) fun u0 => Option.bind (V.intOf .i64 (SEnv.at E 6)) fun u1 => some (Sum.inr (u0, u1))
  | _ => none
theorem l_sutureref1_Tokens_5_eq (n : Nat) (k : ByteArray × (List T) × Int → Option ((((List T) × Int × Int) ⊕ (List T) × Int))) (s0 : ByteArray) (s1 : List T) (s2 : Int) : mX Try.prog (sp_sutureref1_Tokens n) 67 code_l_sutureref1_Tokens_5 [(0, (V.t (T.sc (.string s0)))), (5, (V.own 4 s1)), (6, (V.t (T.sc (.int .i64 s2))))] [] (l_sutureref1_Tokens_5_K k) = l_sutureref1_Tokens_5_B n k (s0, s1, s2) := by kernel_rfl
def l_sutureref1_Tokens_5_Q (x : (((List T) × Int × Int) ⊕ (List T) × Int)) (ex : Ex) (e : Env) (s : Sig) : Prop := Sum.elim (fun p0 => (ex = .ret ∧ e = SEnv.env 67 [(2, (V.own 0 p0.1)), (3, (V.t (T.sc (.int .i64 p0.2.1)))), (4, (V.t (T.sc (.int .i64 p0.2.2))))] ∧ s = [])) (fun x' => (fun p1 => (ex = (.exit 0) ∧ e = SEnv.env 67 [(5, (V.own 4 p1.1)), (6, (V.t (T.sc (.int .i64 p1.2))))] ∧ s = [])) x') x
theorem l_sutureref1_Tokens_5_run (n : Nat) : ∀ (m : Nat) (s0 : ByteArray) (s1 : List T) (s2 : Int) (x : (((List T) × Int × Int) ⊕ (List T) × Int)), l_sutureref1_Tokens_5 n m (s0, s1, s2) = some x → SemL Try.prog 0 code_l_sutureref1_Tokens_5 (SEnv.env 67 [(0, (V.t (T.sc (.string s0)))), (5, (V.own 4 s1)), (6, (V.t (T.sc (.int .i64 s2))))]) [] (l_sutureref1_Tokens_5_Q x)
  | 0, s0, s1, s2, x, h => by cases h
  | m + 1, s0, s1, s2, x, h => by
    refine loop_step (sp_sutureref1_Tokens_ok n) code_l_sutureref1_Tokens_5_ok (forall_getD (d := .skip) 1 (by kernel_rfl) (fun i hi => match i, hi with | 0, _ => (show LoopOk Try.prog (sp_sutureref1_Tokens n) 0 67 ((loopsOf code_l_sutureref1_Tokens_5).getD 0 .skip) from (show (loopsOf code_l_sutureref1_Tokens_5).getD 0 .skip = code_l_sutureref1_Tokens_10 from by kernel_rfl) ▸ l_sutureref1_Tokens_10_ok n) | i + 1, hi => absurd hi (by omega))) (no_scope (by kernel_rfl)) ((l_sutureref1_Tokens_5_eq n _ s0 s1 s2).trans h) (fun E sg h => ?_) (fun ex E sg hne h => ?_)
    · simp only [l_sutureref1_Tokens_5_K] at h
      obtain ⟨u0, hu0, h⟩ := Option.bind_eq_some_iff.1 h
      obtain ⟨u1, hu1, h⟩ := Option.bind_eq_some_iff.1 h
      obtain ⟨u2, hu2, h⟩ := Option.bind_eq_some_iff.1 h
      exact SemL.pre (k := 0) (by decide) (WkA.env (WkA.cons (strOf_wk hu0) rfl (WkA.cons (ownOf_wk hu1) rfl (WkA.cons (intOf_wk hu2) rfl WkA.nil))) 67) (WkS.none _) (l_sutureref1_Tokens_5_run n m _ _ _ x h)
    · unfold l_sutureref1_Tokens_5_K at h
      split at h
      · exact absurd rfl hne
      · obtain ⟨u0, hu0, h⟩ := Option.bind_eq_some_iff.1 h
        obtain ⟨u1, hu1, h⟩ := Option.bind_eq_some_iff.1 h
        obtain ⟨u2, hu2, h⟩ := Option.bind_eq_some_iff.1 h
        simp only [Option.some.injEq] at h
        subst h
        exact ⟨0, _, _, by decide, WkA.env (WkA.cons (ownOf_wk hu0) rfl (WkA.cons (intOf_wk hu1) rfl (WkA.cons (intOf_wk hu2) rfl WkA.nil))) 67, (WkS.none _), rfl, rfl, rfl⟩
      · obtain ⟨u0, hu0, h⟩ := Option.bind_eq_some_iff.1 h
        obtain ⟨u1, hu1, h⟩ := Option.bind_eq_some_iff.1 h
        simp only [Option.some.injEq] at h
        subst h
        exact ⟨0, _, _, by decide, WkA.env (WkA.cons (ownOf_wk hu0) rfl (WkA.cons (intOf_wk hu1) rfl WkA.nil)) 67, (WkS.none _), rfl, rfl, rfl⟩
      · cases h
theorem l_sutureref1_Tokens_5_ok (n : Nat) : LoopOk Try.prog (sp_sutureref1_Tokens n) 0 67 code_l_sutureref1_Tokens_5 := by
    intro R key E sg K r hk h
    rw [show Go.Eng.keyOf code_l_sutureref1_Tokens_5 = some 5 from by kernel_rfl] at hk
    cases hk
    have h : l_sutureref1_Tokens_5_S n R E sg K = some r := h
    unfold l_sutureref1_Tokens_5_S at h
    obtain ⟨u0, hu0, h⟩ := Option.bind_eq_some_iff.1 h
    obtain ⟨u1, hu1, h⟩ := Option.bind_eq_some_iff.1 h
    obtain ⟨u2, hu2, h⟩ := Option.bind_eq_some_iff.1 h
    obtain ⟨x, hx, h⟩ := Option.bind_eq_some_iff.1 h
    refine (SemL.pre (k := 0) (by decide) (WkA.env (WkA.cons (strOf_wk hu0) rfl (WkA.cons (ownOf_wk hu1) rfl (WkA.cons (intOf_wk hu2) rfl WkA.nil))) 67) (WkS.none _) (l_sutureref1_Tokens_5_run n n _ _ _ x hx)).mono ?_
    intro ex e s hq
    rcases x with x | x <;> (obtain ⟨rfl, rfl, rfl⟩ := hq; exact ⟨_, rfl, h⟩) -- 5
def K_sutureref1_Tokens (v : V) (s : Sig) : Option ((List T) × Int × Int) := Option.bind (V.tupN 3 v) fun u0 => Option.bind (V.lstOf (u0.getD 0 .any)) fun u1 => Option.bind (V.intOf .i64 (u0.getD 1 .any)) fun u2 => Option.bind (V.intOf .i64 (u0.getD 2 .any)) fun u3 => some (u1, u2, u3)
theorem K_sutureref1_Tokens_wk {v : V} {s : Sig} {r : (List T) × Int × Int} (h : K_sutureref1_Tokens v s = some r) : Wk v (enc_sutureref1_Tokens r) ∧ WkS 0 s (encS_sutureref1_Tokens r) := by
  unfold K_sutureref1_Tokens at h
  obtain ⟨u0, hu0, h⟩ := Option.bind_eq_some_iff.1 h
  obtain ⟨u1, hu1, h⟩ := Option.bind_eq_some_iff.1 h
  obtain ⟨u2, hu2, h⟩ := Option.bind_eq_some_iff.1 h
  obtain ⟨u3, hu3, h⟩ := Option.bind_eq_some_iff.1 h
  simp only [Option.some.injEq] at h
  subst h
  exact ⟨(tupN_wk hu0 (.cons (lstOf_wk hu1) (.cons (intOf_wk hu2) (.cons (intOf_wk hu3) .nil)))), (WkS.none _)⟩
theorem m_sutureref1_Tokens_eq (n : Nat) (a0 : ByteArray) : mF Try.prog (sp_sutureref1_Tokens n) 35 [(V.t (T.sc (.string a0)))] [] K_sutureref1_Tokens = m_sutureref1_Tokens n a0 := by kernel_rfl
theorem m_sutureref1_Tokens_ok (n : Nat) : ok_sutureref1_Tokens (m_sutureref1_Tokens n) := fun a0 r h => mF_ok sound (sp_sutureref1_Tokens_ok n) code_sutureref1_Tokens_fn code_sutureref1_Tokens_body (forall_getD (d := .skip) 2 (by kernel_rfl) (fun i hi => match i, hi with | 0, _ => l_sutureref1_Tokens_5_ok n | 1, _ => l_sutureref1_Tokens_10_ok n | i + 2, hi => absurd hi (by omega))) (no_scope (by kernel_rfl)) ((m_sutureref1_Tokens_eq n a0).trans h) (fun v s hk => ⟨(K_sutureref1_Tokens_wk hk).1, rfl, (K_sutureref1_Tokens_wk hk).2⟩)


/-! suture/sutureref1.declKind -/
def l_sutureref1_declKind_2_B (n : Nat) (k : ByteArray × ByteArray × ByteArray × ByteArray × ByteArray × ByteArray × ByteArray × Int → Option (((Int) ⊕ Unit))) : ByteArray × ByteArray × ByteArray × ByteArray × ByteArray × ByteArray × ByteArray × Int → Option (((Int) ⊕ Unit)) := fun (s0, s1, s2, s3, s4, s5, s6, s7) =>
bif (decide ((s7 : Int) < 6)) then (
Option.bind (idx1 true (.str) [(T.sc (.string s1)), (T.sc (.string s2)), (T.sc (.string s3)), (T.sc (.string s4)), (T.sc (.string s5)), (T.sc (.string s6))] s7) fun y0 =>
bif (ByteArray.toList s0 == ByteArray.toList y0.str) then (
some (Sum.inl (IntKind.wrap .i64 (1 + s7))))
else (
k (s0, s1, s2, s3, s4, s5, s6, (IntKind.wrap .i64 (s7 + 1)))))
else (
some (Sum.inr ()))
def l_sutureref1_declKind_2 (n : Nat) : Nat → ByteArray × ByteArray × ByteArray × ByteArray × ByteArray × ByteArray × ByteArray × Int → Option (((Int) ⊕ Unit))
  | 0, _ => none
  | m + 1, s => l_sutureref1_declKind_2_B n (l_sutureref1_declKind_2 n m) s
def m_sutureref1_declKind (n : Nat) (a0 : ByteArray) : Option (Int) :=
Option.bind (l_sutureref1_declKind_2 n n (a0, (⟨#[118, 97, 114]⟩ : ByteArray), (⟨#[119, 105, 100, 101]⟩ : ByteArray), (⟨#[97, 116, 111, 109, 105, 99]⟩ : ByteArray), (⟨#[108, 111, 99, 97, 108]⟩ : ByteArray), (⟨#[109, 117, 116, 101, 120]⟩ : ByteArray), (⟨#[99, 104, 97, 110]⟩ : ByteArray), 0)) fun x1 =>
Sum.elim (fun p2 => 
some p2) (fun x1' => (fun p3 => 
some 0) x1') x1
def enc_sutureref1_declKind (r : Int) : V := (V.t (T.sc (.int .i64 r)))
def encS_sutureref1_declKind (r : Int) : Sig := []
def ok_sutureref1_declKind (m : ByteArray → Option (Int)) : Prop := ∀ (a0 : ByteArray) (r : Int), m a0 = some r → FuncOk Try.prog 36 [(V.t (T.sc (.string a0)))] [] (enc_sutureref1_declKind r) (encS_sutureref1_declKind r)
def c_sutureref1_declKind (m : ByteArray → Option (Int)) (vs : List V) (sg : Sig) : Option CallM := bif Nat.beq vs.length 1 && Nat.beq sg.length 0 then Option.bind (V.strOf (vs.getD 0 .any)) fun u0 => some { α := Int, m := m u0, dflt := 0, enc := fun y => ((V.t (T.sc (.int .i64 y))), []) } else none
theorem c_sutureref1_declKind_ok (m : ByteArray → Option (Int)) (hm : ok_sutureref1_declKind m) (vs : List V) (sg : Sig) (cm : CallM) (x : cm.α) (h : c_sutureref1_declKind m vs sg = some cm) (hx : cm.m = some x) : FuncOk Try.prog 36 vs sg (cm.enc x).1 (cm.enc x).2 := by
  unfold c_sutureref1_declKind at h
  have h0 := callee_sig h
  clear h
  obtain ⟨hl, hs, h⟩ := h0
  obtain ⟨u0, hu0, h⟩ := Option.bind_eq_some_iff.1 h
  simp only [Option.some.injEq] at h
  subst h
  exact (hm u0 x hx).wk (args_wk hl (.cons (strOf_wk hu0) .nil)) (wkSg_of hs .nil)
noncomputable def code_sutureref1_declKind : Code := Try.f36.body.getD .skip
def l_sutureref1_declKind_2_S (n : Nat) (R : Type) (E : SEnv) (sg : Sig) (K : Ex → SEnv → Sig → Option R) : Option R := Option.bind (V.strOf (SEnv.at E 0)) fun u0 => Option.bind (V.aggN 6 (SEnv.at E 5)) fun u1 => Option.bind (V.strOf (u1.getD 0 .any)) fun u2 => Option.bind (V.strOf (u1.getD 1 .any)) fun u3 => Option.bind (V.strOf (u1.getD 2 .any)) fun u4 => Option.bind (V.strOf (u1.getD 3 .any)) fun u5 => Option.bind (V.strOf (u1.getD 4 .any)) fun u6 => Option.bind (V.strOf (u1.getD 5 .any)) fun u7 => Option.bind (V.intOf .i64 (SEnv.at E 6)) fun u8 => Option.bind (l_sutureref1_declKind_2 n n (u0, u2, u3, u4, u5, u6, u7, u8)) fun y => Sum.elim (fun p0 => K .ret [(2, (V.t (T.sc (.int .i64 p0))))] []) (fun y' => (fun p1 => K (.exit 0) [] []) y') y
noncomputable def sp_sutureref1_declKind (n : Nat) : Go.Eng.Spec := ⟨fun f vs sg => (match f with
    | _ => none), fun R key E sg K => (match key with
    | 2 => l_sutureref1_declKind_2_S n R E sg K
    | _ => none)⟩
theorem sp_sutureref1_declKind_ok (n : Nat) : CallsOk Try.prog (sp_sutureref1_declKind n) := by
  intro f vs sg cm x h hx
  have h : (none : Option CallM) = some cm := h
  cases h
theorem code_sutureref1_declKind_fn : Try.prog.funcs[36]? = some Try.f36 := Try.func36
theorem code_sutureref1_declKind_body : Try.f36.body = some code_sutureref1_declKind := by kernel_rfl
theorem code_sutureref1_declKind_ok : CodeOk Try.prog code_sutureref1_declKind := (sound 36 _ _ code_sutureref1_declKind_fn code_sutureref1_declKind_body).1
noncomputable def code_l_sutureref1_declKind_2 : Code := (loopsOf code_sutureref1_declKind).getD 0 .skip
theorem code_l_sutureref1_declKind_2_ok : CodeOk Try.prog code_l_sutureref1_declKind_2 := codeOk_loops code_sutureref1_declKind_ok _ (getD_mem (by kernel_rfl))
def l_sutureref1_declKind_2_K (k : ByteArray × ByteArray × ByteArray × ByteArray × ByteArray × ByteArray × ByteArray × Int → Option (((Int) ⊕ Unit))) : Ex → SEnv → Sig → Option (((Int) ⊕ Unit)) := fun x E sg => match x with
  | .normal => Option.bind (V.strOf (SEnv.at E 0)) fun u0 => Option.bind (V.aggN 6 (SEnv.at E 5)) fun u1 => Option.bind (V.strOf (u1.getD 0 .any)) fun u2 => Option.bind (V.strOf (u1.getD 1 .any)) fun u3 => Option.bind (V.strOf (u1.getD 2 .any)) fun u4 => Option.bind (V.strOf (u1.getD 3 .any)) fun u5 => Option.bind (V.strOf (u1.getD 4 .any)) fun u6 => Option.bind (V.strOf (u1.getD 5 .any)) fun u7 => Option.bind (V.intOf .i64 (SEnv.at E 6)) fun u8 => k (u0, u2, u3, u4, u5, u6, u7, u8)
  | .ret => Option.bind (V.intOf .i64 (SEnv.at E 2)) fun u0 => some (Sum.inl u0)
  | (.exit 0) => some (Sum.inr ())
  | _ => none
theorem l_sutureref1_declKind_2_eq (n : Nat) (k : ByteArray × ByteArray × ByteArray × ByteArray × ByteArray × ByteArray × ByteArray × Int → Option (((Int) ⊕ Unit))) (s0 : ByteArray) (s1 : ByteArray) (s2 : ByteArray) (s3 : ByteArray) (s4 : ByteArray) (s5 : ByteArray) (s6 : ByteArray) (s7 : Int) : mX Try.prog (sp_sutureref1_declKind n) 16 code_l_sutureref1_declKind_2 [(0, (V.t (T.sc (.string s0)))), (5, (V.agg [(V.t (T.sc (.string s1))), (V.t (T.sc (.string s2))), (V.t (T.sc (.string s3))), (V.t (T.sc (.string s4))), (V.t (T.sc (.string s5))), (V.t (T.sc (.string s6)))])), (6, (V.t (T.sc (.int .i64 s7))))] [] (l_sutureref1_declKind_2_K k) = l_sutureref1_declKind_2_B n k (s0, s1, s2, s3, s4, s5, s6, s7) := by kernel_rfl
def l_sutureref1_declKind_2_Q (x : ((Int) ⊕ Unit)) (ex : Ex) (e : Env) (s : Sig) : Prop := Sum.elim (fun p0 => (ex = .ret ∧ e = SEnv.env 16 [(2, (V.t (T.sc (.int .i64 p0))))] ∧ s = [])) (fun x' => (fun p1 => (ex = (.exit 0) ∧ e = SEnv.env 16 [] ∧ s = [])) x') x
theorem l_sutureref1_declKind_2_run (n : Nat) : ∀ (m : Nat) (s0 : ByteArray) (s1 : ByteArray) (s2 : ByteArray) (s3 : ByteArray) (s4 : ByteArray) (s5 : ByteArray) (s6 : ByteArray) (s7 : Int) (x : ((Int) ⊕ Unit)), l_sutureref1_declKind_2 n m (s0, s1, s2, s3, s4, s5, s6, s7) = some x → SemL Try.prog 0 code_l_sutureref1_declKind_2 (SEnv.env 16 [(0, (V.t (T.sc (.string s0)))), (5, (V.agg [(V.t (T.sc (.string s1))), (V.t (T.sc (.string s2))), (V.t (T.sc (.string s3))), (V.t (T.sc (.string s4))), (V.t (T.sc (.string s5))), (V.t (T.sc (.string s6)))])), (6, (V.t (T.sc (.int .i64 s7))))]) [] (l_sutureref1_declKind_2_Q x)
  | 0, s0, s1, s2, s3, s4, s5, s6, s7, x, h => by cases h
  | m + 1, s0, s1, s2, s3, s4, s5, s6, s7, x, h => by
    refine loop_step (sp_sutureref1_declKind_ok n) code_l_sutureref1_declKind_2_ok (fun a ha => absurd ha (by rw [show loopsOf code_l_sutureref1_declKind_2 = [] from by kernel_rfl]; simp)) (no_scope (by kernel_rfl)) ((l_sutureref1_declKind_2_eq n _ s0 s1 s2 s3 s4 s5 s6 s7).trans h) (fun E sg h => ?_) (fun ex E sg hne h => ?_)
    · simp only [l_sutureref1_declKind_2_K] at h
      obtain ⟨u0, hu0, h⟩ := Option.bind_eq_some_iff.1 h
      obtain ⟨u1, hu1, h⟩ := Option.bind_eq_some_iff.1 h
      obtain ⟨u2, hu2, h⟩ := Option.bind_eq_some_iff.1 h
      obtain ⟨u3, hu3, h⟩ := Option.bind_eq_some_iff.1 h
      obtain ⟨u4, hu4, h⟩ := Option.bind_eq_some_iff.1 h
      obtain ⟨u5, hu5, h⟩ := Option.bind_eq_some_iff.1 h
      obtain ⟨u6, hu6, h⟩ := Option.bind_eq_some_iff.1 h
      obtain ⟨u7, hu7, h⟩ := Option.bind_eq_some_iff.1 h
      obtain ⟨u8, hu8, h⟩ := Option.bind_eq_some_iff.1 h
      exact SemL.pre (k := 0) (by decide) (WkA.env (WkA.cons (strOf_wk hu0) rfl (WkA.cons (aggN_wk hu1 (.cons (strOf_wk hu2) (.cons (strOf_wk hu3) (.cons (strOf_wk hu4) (.cons (strOf_wk hu5) (.cons (strOf_wk hu6) (.cons (strOf_wk hu7) .nil))))))) rfl (WkA.cons (intOf_wk hu8) rfl WkA.nil))) 16) (WkS.none _) (l_sutureref1_declKind_2_run n m _ _ _ _ _ _ _ _ x h)
    · unfold l_sutureref1_declKind_2_K at h
      split at h
      · exact absurd rfl hne
      · obtain ⟨u0, hu0, h⟩ := Option.bind_eq_some_iff.1 h
        simp only [Option.some.injEq] at h
        subst h
        exact ⟨0, _, _, by decide, WkA.env (WkA.cons (intOf_wk hu0) rfl WkA.nil) 16, (WkS.none _), rfl, rfl, rfl⟩
      · simp only [Option.some.injEq] at h
        subst h
        exact ⟨0, _, _, by decide, WkA.env WkA.nil 16, (WkS.none _), rfl, rfl, rfl⟩
      · cases h
theorem l_sutureref1_declKind_2_ok (n : Nat) : LoopOk Try.prog (sp_sutureref1_declKind n) 0 16 code_l_sutureref1_declKind_2 := by
    intro R key E sg K r hk h
    rw [show Go.Eng.keyOf code_l_sutureref1_declKind_2 = some 2 from by kernel_rfl] at hk
    cases hk
    have h : l_sutureref1_declKind_2_S n R E sg K = some r := h
    unfold l_sutureref1_declKind_2_S at h
    obtain ⟨u0, hu0, h⟩ := Option.bind_eq_some_iff.1 h
    obtain ⟨u1, hu1, h⟩ := Option.bind_eq_some_iff.1 h
    obtain ⟨u2, hu2, h⟩ := Option.bind_eq_some_iff.1 h
    obtain ⟨u3, hu3, h⟩ := Option.bind_eq_some_iff.1 h
    obtain ⟨u4, hu4, h⟩ := Option.bind_eq_some_iff.1 h
    obtain ⟨u5, hu5, h⟩ := Option.bind_eq_some_iff.1 h
    obtain ⟨u6, hu6, h⟩ := Option.bind_eq_some_iff.1 h
    obtain ⟨u7, hu7, h⟩ := Option.bind_eq_some_iff.1 h
    obtain ⟨u8, hu8, h⟩ := Option.bind_eq_some_iff.1 h
    obtain ⟨x, hx, h⟩ := Option.bind_eq_some_iff.1 h
    refine (SemL.pre (k := 0) (by decide) (WkA.env (WkA.cons (strOf_wk hu0) rfl (WkA.cons (aggN_wk hu1 (.cons (strOf_wk hu2) (.cons (strOf_wk hu3) (.cons (strOf_wk hu4) (.cons (strOf_wk hu5) (.cons (strOf_wk hu6) (.cons (strOf_wk hu7) .nil))))))) rfl (WkA.cons (intOf_wk hu8) rfl WkA.nil))) 16) (WkS.none _) (l_sutureref1_declKind_2_run n n _ _ _ _ _ _ _ _ x hx)).mono ?_
    intro ex e s hq
    rcases x with x | x <;> (obtain ⟨rfl, rfl, rfl⟩ := hq; exact ⟨_, rfl, h⟩) -- 5
def K_sutureref1_declKind (v : V) (s : Sig) : Option (Int) := Option.bind (V.intOf .i64 v) fun u0 => some u0
theorem K_sutureref1_declKind_wk {v : V} {s : Sig} {r : Int} (h : K_sutureref1_declKind v s = some r) : Wk v (enc_sutureref1_declKind r) ∧ WkS 0 s (encS_sutureref1_declKind r) := by
  unfold K_sutureref1_declKind at h
  obtain ⟨u0, hu0, h⟩ := Option.bind_eq_some_iff.1 h
  simp only [Option.some.injEq] at h
  subst h
  exact ⟨(intOf_wk hu0), (WkS.none _)⟩
theorem m_sutureref1_declKind_eq (n : Nat) (a0 : ByteArray) : mF Try.prog (sp_sutureref1_declKind n) 36 [(V.t (T.sc (.string a0)))] [] K_sutureref1_declKind = m_sutureref1_declKind n a0 := by kernel_rfl
theorem m_sutureref1_declKind_ok (n : Nat) : ok_sutureref1_declKind (m_sutureref1_declKind n) := fun a0 r h => mF_ok sound (sp_sutureref1_declKind_ok n) code_sutureref1_declKind_fn code_sutureref1_declKind_body (forall_getD (d := .skip) 1 (by kernel_rfl) (fun i hi => match i, hi with | 0, _ => l_sutureref1_declKind_2_ok n | i + 1, hi => absurd hi (by omega))) (no_scope (by kernel_rfl)) ((m_sutureref1_declKind_eq n a0).trans h) (fun v s hk => ⟨(K_sutureref1_declKind_wk hk).1, rfl, (K_sutureref1_declKind_wk hk).2⟩)


/-! (*suture/sutureref1.Reader).failAt -/
def m___sutureref1_Reader__failAt (n : Nat) (a0 : Int) (a1 : List T) (a2 : Int) (a3 : Bool) (a4 : Int) : Option ((List T) × Int × Bool × Int) :=
bif (!a3) then (
some (a1, a2, true, a0))
else (
some (a1, a2, a3, a4))
def enc___sutureref1_Reader__failAt (r : (List T) × Int × Bool × Int) : V := (V.tup [])
def encS___sutureref1_Reader__failAt (r : (List T) × Int × Bool × Int) : Sig := [some [(V.t (T.list r.1)), (V.t (T.sc (.int .i64 r.2.1))), (V.t (T.sc (.bool r.2.2.1))), (V.t (T.sc (.int .i64 r.2.2.2)))]]
def ok___sutureref1_Reader__failAt (m : Int → List T → Int → Bool → Int → Option ((List T) × Int × Bool × Int)) : Prop := ∀ (a0 : Int) (a1 : List T) (a2 : Int) (a3 : Bool) (a4 : Int) (r : (List T) × Int × Bool × Int), m a0 a1 a2 a3 a4 = some r → FuncOk Try.prog 51 [(V.ptr 0 0), (V.t (T.sc (.int .i64 a0)))] [some [(V.t (T.list a1)), (V.t (T.sc (.int .i64 a2))), (V.t (T.sc (.bool a3))), (V.t (T.sc (.int .i64 a4)))]] (enc___sutureref1_Reader__failAt r) (encS___sutureref1_Reader__failAt r)
def c___sutureref1_Reader__failAt (m : Int → List T → Int → Bool → Int → Option ((List T) × Int × Bool × Int)) (vs : List V) (sg : Sig) : Option CallM := bif Nat.beq vs.length 2 && Nat.beq sg.length 1 then Option.bind (V.ptrOf 0 0 (vs.getD 0 .any)) fun u0 => Option.bind (V.intOf .i64 (vs.getD 1 .any)) fun u1 => Option.bind (cellsN 4 sg 0) fun g0 => Option.bind (V.lstOf (g0.getD 0 .any)) fun g1 => Option.bind (V.intOf .i64 (g0.getD 1 .any)) fun g2 => Option.bind (V.boolOf (g0.getD 2 .any)) fun g3 => Option.bind (V.intOf .i64 (g0.getD 3 .any)) fun g4 => some { α := (List T) × Int × Bool × Int, m := m u1 g1 g2 g3 g4, dflt := ([], 0, false, 0), enc := fun y => ((V.tup []), [some [(V.t (T.list y.1)), (V.t (T.sc (.int .i64 y.2.1))), (V.t (T.sc (.bool y.2.2.1))), (V.t (T.sc (.int .i64 y.2.2.2)))]]) } else none
theorem c___sutureref1_Reader__failAt_ok (m : Int → List T → Int → Bool → Int → Option ((List T) × Int × Bool × Int)) (hm : ok___sutureref1_Reader__failAt m) (vs : List V) (sg : Sig) (cm : CallM) (x : cm.α) (h : c___sutureref1_Reader__failAt m vs sg = some cm) (hx : cm.m = some x) : FuncOk Try.prog 51 vs sg (cm.enc x).1 (cm.enc x).2 := by
  unfold c___sutureref1_Reader__failAt at h
  have h0 := callee_sig h
  clear h
  obtain ⟨hl, hs, h⟩ := h0
  obtain ⟨u0, hu0, h⟩ := Option.bind_eq_some_iff.1 h
  obtain ⟨u1, hu1, h⟩ := Option.bind_eq_some_iff.1 h
  obtain ⟨g0, hg0, h⟩ := Option.bind_eq_some_iff.1 h
  obtain ⟨g1, hg1, h⟩ := Option.bind_eq_some_iff.1 h
  obtain ⟨g2, hg2, h⟩ := Option.bind_eq_some_iff.1 h
  obtain ⟨g3, hg3, h⟩ := Option.bind_eq_some_iff.1 h
  obtain ⟨g4, hg4, h⟩ := Option.bind_eq_some_iff.1 h
  simp only [Option.some.injEq] at h
  subst h
  exact (hm u1 g1 g2 g3 g4 x hx).wk (args_wk hl (.cons (ptrOf_wk hu0) (.cons (intOf_wk hu1) .nil))) (wkSg_of hs (.cons (cellsN_wk hg0 (.cons (lstOf_wk hg1) (.cons (intOf_wk hg2) (.cons (boolOf_wk hg3) (.cons (intOf_wk hg4) .nil))))) .nil))
noncomputable def code___sutureref1_Reader__failAt : Code := Try.f51.body.getD .skip
noncomputable def sp___sutureref1_Reader__failAt (n : Nat) : Go.Eng.Spec := ⟨fun f vs sg => (match f with
    | _ => none), fun R key E sg K => (match key with
    | _ => none)⟩
theorem sp___sutureref1_Reader__failAt_ok (n : Nat) : CallsOk Try.prog (sp___sutureref1_Reader__failAt n) := by
  intro f vs sg cm x h hx
  have h : (none : Option CallM) = some cm := h
  cases h
theorem code___sutureref1_Reader__failAt_fn : Try.prog.funcs[51]? = some Try.f51 := Try.func51
theorem code___sutureref1_Reader__failAt_body : Try.f51.body = some code___sutureref1_Reader__failAt := by kernel_rfl
theorem code___sutureref1_Reader__failAt_ok : CodeOk Try.prog code___sutureref1_Reader__failAt := (sound 51 _ _ code___sutureref1_Reader__failAt_fn code___sutureref1_Reader__failAt_body).1
def K___sutureref1_Reader__failAt (v : V) (s : Sig) : Option ((List T) × Int × Bool × Int) := Option.bind (V.tupN 0 v) fun u0 => Option.bind (cellsN 4 s 0) fun g0 => Option.bind (V.lstOf (g0.getD 0 .any)) fun g1 => Option.bind (V.intOf .i64 (g0.getD 1 .any)) fun g2 => Option.bind (V.boolOf (g0.getD 2 .any)) fun g3 => Option.bind (V.intOf .i64 (g0.getD 3 .any)) fun g4 => some (g1, g2, g3, g4)
theorem K___sutureref1_Reader__failAt_wk {v : V} {s : Sig} {r : (List T) × Int × Bool × Int} (h : K___sutureref1_Reader__failAt v s = some r) : Wk v (enc___sutureref1_Reader__failAt r) ∧ WkS 1 s (encS___sutureref1_Reader__failAt r) := by
  unfold K___sutureref1_Reader__failAt at h
  obtain ⟨u0, hu0, h⟩ := Option.bind_eq_some_iff.1 h
  obtain ⟨g0, hg0, h⟩ := Option.bind_eq_some_iff.1 h
  obtain ⟨g1, hg1, h⟩ := Option.bind_eq_some_iff.1 h
  obtain ⟨g2, hg2, h⟩ := Option.bind_eq_some_iff.1 h
  obtain ⟨g3, hg3, h⟩ := Option.bind_eq_some_iff.1 h
  obtain ⟨g4, hg4, h⟩ := Option.bind_eq_some_iff.1 h
  simp only [Option.some.injEq] at h
  subst h
  exact ⟨(tupN_wk hu0 .nil), (wkR_sig (WkR.cons (cellsN_wk hg0 (.cons (lstOf_wk hg1) (.cons (intOf_wk hg2) (.cons (boolOf_wk hg3) (.cons (intOf_wk hg4) .nil))))).1 (cellsN_wk hg0 (.cons (lstOf_wk hg1) (.cons (intOf_wk hg2) (.cons (boolOf_wk hg3) (.cons (intOf_wk hg4) .nil))))).2 (renL_mem (.cons rfl (.cons rfl (.cons rfl (.cons rfl .nil))))) (WkR.nil _)) rfl)⟩
theorem m___sutureref1_Reader__failAt_eq (n : Nat) (a0 : Int) (a1 : List T) (a2 : Int) (a3 : Bool) (a4 : Int) : mF Try.prog (sp___sutureref1_Reader__failAt n) 51 [(V.ptr 0 0), (V.t (T.sc (.int .i64 a0)))] [some [(V.t (T.list a1)), (V.t (T.sc (.int .i64 a2))), (V.t (T.sc (.bool a3))), (V.t (T.sc (.int .i64 a4)))]] K___sutureref1_Reader__failAt = m___sutureref1_Reader__failAt n a0 a1 a2 a3 a4 := by kernel_rfl
theorem m___sutureref1_Reader__failAt_ok (n : Nat) : ok___sutureref1_Reader__failAt (m___sutureref1_Reader__failAt n) := fun a0 a1 a2 a3 a4 r h => mF_ok sound (sp___sutureref1_Reader__failAt_ok n) code___sutureref1_Reader__failAt_fn code___sutureref1_Reader__failAt_body (fun a ha => absurd ha (by rw [show loopsOf code___sutureref1_Reader__failAt = [] from by kernel_rfl]; simp)) (no_scope (by kernel_rfl)) ((m___sutureref1_Reader__failAt_eq n a0 a1 a2 a3 a4).trans h) (fun v s hk => ⟨(K___sutureref1_Reader__failAt_wk hk).1, rfl, (K___sutureref1_Reader__failAt_wk hk).2⟩)


/-! (*suture/sutureref1.Reader).fail -/
def m___sutureref1_Reader__fail (n : Nat) (a0 : List T) (a1 : Int) (a2 : Bool) (a3 : Int) : Option ((List T) × Int × Bool × Int) :=
Option.bind (m___sutureref1_Reader__failAt n a1 a0 a1 a2 a3) fun r0 =>
some (r0.1, r0.2.1, r0.2.2.1, r0.2.2.2)
def enc___sutureref1_Reader__fail (r : (List T) × Int × Bool × Int) : V := (V.tup [])
def encS___sutureref1_Reader__fail (r : (List T) × Int × Bool × Int) : Sig := [some [(V.t (T.list r.1)), (V.t (T.sc (.int .i64 r.2.1))), (V.t (T.sc (.bool r.2.2.1))), (V.t (T.sc (.int .i64 r.2.2.2)))]]
def ok___sutureref1_Reader__fail (m : List T → Int → Bool → Int → Option ((List T) × Int × Bool × Int)) : Prop := ∀ (a0 : List T) (a1 : Int) (a2 : Bool) (a3 : Int) (r : (List T) × Int × Bool × Int), m a0 a1 a2 a3 = some r → FuncOk Try.prog 37 [(V.ptr 0 0)] [some [(V.t (T.list a0)), (V.t (T.sc (.int .i64 a1))), (V.t (T.sc (.bool a2))), (V.t (T.sc (.int .i64 a3)))]] (enc___sutureref1_Reader__fail r) (encS___sutureref1_Reader__fail r)
def c___sutureref1_Reader__fail (m : List T → Int → Bool → Int → Option ((List T) × Int × Bool × Int)) (vs : List V) (sg : Sig) : Option CallM := bif Nat.beq vs.length 1 && Nat.beq sg.length 1 then Option.bind (V.ptrOf 0 0 (vs.getD 0 .any)) fun u0 => Option.bind (cellsN 4 sg 0) fun g0 => Option.bind (V.lstOf (g0.getD 0 .any)) fun g1 => Option.bind (V.intOf .i64 (g0.getD 1 .any)) fun g2 => Option.bind (V.boolOf (g0.getD 2 .any)) fun g3 => Option.bind (V.intOf .i64 (g0.getD 3 .any)) fun g4 => some { α := (List T) × Int × Bool × Int, m := m g1 g2 g3 g4, dflt := ([], 0, false, 0), enc := fun y => ((V.tup []), [some [(V.t (T.list y.1)), (V.t (T.sc (.int .i64 y.2.1))), (V.t (T.sc (.bool y.2.2.1))), (V.t (T.sc (.int .i64 y.2.2.2)))]]) } else none
theorem c___sutureref1_Reader__fail_ok (m : List T → Int → Bool → Int → Option ((List T) × Int × Bool × Int)) (hm : ok___sutureref1_Reader__fail m) (vs : List V) (sg : Sig) (cm : CallM) (x : cm.α) (h : c___sutureref1_Reader__fail m vs sg = some cm) (hx : cm.m = some x) : FuncOk Try.prog 37 vs sg (cm.enc x).1 (cm.enc x).2 := by
  unfold c___sutureref1_Reader__fail at h
  have h0 := callee_sig h
  clear h
  obtain ⟨hl, hs, h⟩ := h0
  obtain ⟨u0, hu0, h⟩ := Option.bind_eq_some_iff.1 h
  obtain ⟨g0, hg0, h⟩ := Option.bind_eq_some_iff.1 h
  obtain ⟨g1, hg1, h⟩ := Option.bind_eq_some_iff.1 h
  obtain ⟨g2, hg2, h⟩ := Option.bind_eq_some_iff.1 h
  obtain ⟨g3, hg3, h⟩ := Option.bind_eq_some_iff.1 h
  obtain ⟨g4, hg4, h⟩ := Option.bind_eq_some_iff.1 h
  simp only [Option.some.injEq] at h
  subst h
  exact (hm g1 g2 g3 g4 x hx).wk (args_wk hl (.cons (ptrOf_wk hu0) .nil)) (wkSg_of hs (.cons (cellsN_wk hg0 (.cons (lstOf_wk hg1) (.cons (intOf_wk hg2) (.cons (boolOf_wk hg3) (.cons (intOf_wk hg4) .nil))))) .nil))
noncomputable def code___sutureref1_Reader__fail : Code := Try.f37.body.getD .skip
noncomputable def sp___sutureref1_Reader__fail (n : Nat) : Go.Eng.Spec := ⟨fun f vs sg => (match f with
    | 51 => c___sutureref1_Reader__failAt (m___sutureref1_Reader__failAt n) vs sg
    | _ => none), fun R key E sg K => (match key with
    | _ => none)⟩
theorem sp___sutureref1_Reader__fail_ok (n : Nat) : CallsOk Try.prog (sp___sutureref1_Reader__fail n) := by
  intro f vs sg cm x h hx
  simp only [sp___sutureref1_Reader__fail] at h
  split at h
  · exact c___sutureref1_Reader__failAt_ok _ (m___sutureref1_Reader__failAt_ok n) vs sg cm x h hx
  · cases h
theorem code___sutureref1_Reader__fail_fn : Try.prog.funcs[37]? = some Try.f37 := Try.func37
theorem code___sutureref1_Reader__fail_body : Try.f37.body = some code___sutureref1_Reader__fail := by kernel_rfl
theorem code___sutureref1_Reader__fail_ok : CodeOk Try.prog code___sutureref1_Reader__fail := (sound 37 _ _ code___sutureref1_Reader__fail_fn code___sutureref1_Reader__fail_body).1
def K___sutureref1_Reader__fail (v : V) (s : Sig) : Option ((List T) × Int × Bool × Int) := Option.bind (V.tupN 0 v) fun u0 => Option.bind (cellsN 4 s 0) fun g0 => Option.bind (V.lstOf (g0.getD 0 .any)) fun g1 => Option.bind (V.intOf .i64 (g0.getD 1 .any)) fun g2 => Option.bind (V.boolOf (g0.getD 2 .any)) fun g3 => Option.bind (V.intOf .i64 (g0.getD 3 .any)) fun g4 => some (g1, g2, g3, g4)
theorem K___sutureref1_Reader__fail_wk {v : V} {s : Sig} {r : (List T) × Int × Bool × Int} (h : K___sutureref1_Reader__fail v s = some r) : Wk v (enc___sutureref1_Reader__fail r) ∧ WkS 1 s (encS___sutureref1_Reader__fail r) := by
  unfold K___sutureref1_Reader__fail at h
  obtain ⟨u0, hu0, h⟩ := Option.bind_eq_some_iff.1 h
  obtain ⟨g0, hg0, h⟩ := Option.bind_eq_some_iff.1 h
  obtain ⟨g1, hg1, h⟩ := Option.bind_eq_some_iff.1 h
  obtain ⟨g2, hg2, h⟩ := Option.bind_eq_some_iff.1 h
  obtain ⟨g3, hg3, h⟩ := Option.bind_eq_some_iff.1 h
  obtain ⟨g4, hg4, h⟩ := Option.bind_eq_some_iff.1 h
  simp only [Option.some.injEq] at h
  subst h
  exact ⟨(tupN_wk hu0 .nil), (wkR_sig (WkR.cons (cellsN_wk hg0 (.cons (lstOf_wk hg1) (.cons (intOf_wk hg2) (.cons (boolOf_wk hg3) (.cons (intOf_wk hg4) .nil))))).1 (cellsN_wk hg0 (.cons (lstOf_wk hg1) (.cons (intOf_wk hg2) (.cons (boolOf_wk hg3) (.cons (intOf_wk hg4) .nil))))).2 (renL_mem (.cons rfl (.cons rfl (.cons rfl (.cons rfl .nil))))) (WkR.nil _)) rfl)⟩
theorem m___sutureref1_Reader__fail_eq (n : Nat) (a0 : List T) (a1 : Int) (a2 : Bool) (a3 : Int) : mF Try.prog (sp___sutureref1_Reader__fail n) 37 [(V.ptr 0 0)] [some [(V.t (T.list a0)), (V.t (T.sc (.int .i64 a1))), (V.t (T.sc (.bool a2))), (V.t (T.sc (.int .i64 a3)))]] K___sutureref1_Reader__fail = m___sutureref1_Reader__fail n a0 a1 a2 a3 := by kernel_rfl
theorem m___sutureref1_Reader__fail_ok (n : Nat) : ok___sutureref1_Reader__fail (m___sutureref1_Reader__fail n) := fun a0 a1 a2 a3 r h => mF_ok sound (sp___sutureref1_Reader__fail_ok n) code___sutureref1_Reader__fail_fn code___sutureref1_Reader__fail_body (fun a ha => absurd ha (by rw [show loopsOf code___sutureref1_Reader__fail = [] from by kernel_rfl]; simp)) (no_scope (by kernel_rfl)) ((m___sutureref1_Reader__fail_eq n a0 a1 a2 a3).trans h) (fun v s hk => ⟨(K___sutureref1_Reader__fail_wk hk).1, rfl, (K___sutureref1_Reader__fail_wk hk).2⟩)


/-! suture/sutureref1.Within -/
def m_sutureref1_Within (n : Nat) (a0 : Int) (a1 : Int) (a2 : Int) : Option (Int) :=
some (if (a1 : Int) < (if (a0 : Int) < a2 then a0 else a2) then (if (a0 : Int) < a2 then a0 else a2) else a1)
def enc_sutureref1_Within (r : Int) : V := (V.t (T.sc (.int .i64 r)))
def encS_sutureref1_Within (r : Int) : Sig := []
def ok_sutureref1_Within (m : Int → Int → Int → Option (Int)) : Prop := ∀ (a0 : Int) (a1 : Int) (a2 : Int) (r : Int), m a0 a1 a2 = some r → FuncOk Try.prog 42 [(V.t (T.sc (.int .i64 a0))), (V.t (T.sc (.int .i64 a1))), (V.t (T.sc (.int .i64 a2)))] [] (enc_sutureref1_Within r) (encS_sutureref1_Within r)
def c_sutureref1_Within (m : Int → Int → Int → Option (Int)) (vs : List V) (sg : Sig) : Option CallM := bif Nat.beq vs.length 3 && Nat.beq sg.length 0 then Option.bind (V.intOf .i64 (vs.getD 0 .any)) fun u0 => Option.bind (V.intOf .i64 (vs.getD 1 .any)) fun u1 => Option.bind (V.intOf .i64 (vs.getD 2 .any)) fun u2 => some { α := Int, m := m u0 u1 u2, dflt := 0, enc := fun y => ((V.t (T.sc (.int .i64 y))), []) } else none
theorem c_sutureref1_Within_ok (m : Int → Int → Int → Option (Int)) (hm : ok_sutureref1_Within m) (vs : List V) (sg : Sig) (cm : CallM) (x : cm.α) (h : c_sutureref1_Within m vs sg = some cm) (hx : cm.m = some x) : FuncOk Try.prog 42 vs sg (cm.enc x).1 (cm.enc x).2 := by
  unfold c_sutureref1_Within at h
  have h0 := callee_sig h
  clear h
  obtain ⟨hl, hs, h⟩ := h0
  obtain ⟨u0, hu0, h⟩ := Option.bind_eq_some_iff.1 h
  obtain ⟨u1, hu1, h⟩ := Option.bind_eq_some_iff.1 h
  obtain ⟨u2, hu2, h⟩ := Option.bind_eq_some_iff.1 h
  simp only [Option.some.injEq] at h
  subst h
  exact (hm u0 u1 u2 x hx).wk (args_wk hl (.cons (intOf_wk hu0) (.cons (intOf_wk hu1) (.cons (intOf_wk hu2) .nil)))) (wkSg_of hs .nil)
noncomputable def code_sutureref1_Within : Code := Try.f42.body.getD .skip
noncomputable def sp_sutureref1_Within (n : Nat) : Go.Eng.Spec := ⟨fun f vs sg => (match f with
    | _ => none), fun R key E sg K => (match key with
    | _ => none)⟩
theorem sp_sutureref1_Within_ok (n : Nat) : CallsOk Try.prog (sp_sutureref1_Within n) := by
  intro f vs sg cm x h hx
  have h : (none : Option CallM) = some cm := h
  cases h
theorem code_sutureref1_Within_fn : Try.prog.funcs[42]? = some Try.f42 := Try.func42
theorem code_sutureref1_Within_body : Try.f42.body = some code_sutureref1_Within := by kernel_rfl
theorem code_sutureref1_Within_ok : CodeOk Try.prog code_sutureref1_Within := (sound 42 _ _ code_sutureref1_Within_fn code_sutureref1_Within_body).1
def K_sutureref1_Within (v : V) (s : Sig) : Option (Int) := Option.bind (V.intOf .i64 v) fun u0 => some u0
theorem K_sutureref1_Within_wk {v : V} {s : Sig} {r : Int} (h : K_sutureref1_Within v s = some r) : Wk v (enc_sutureref1_Within r) ∧ WkS 0 s (encS_sutureref1_Within r) := by
  unfold K_sutureref1_Within at h
  obtain ⟨u0, hu0, h⟩ := Option.bind_eq_some_iff.1 h
  simp only [Option.some.injEq] at h
  subst h
  exact ⟨(intOf_wk hu0), (WkS.none _)⟩
theorem m_sutureref1_Within_eq (n : Nat) (a0 : Int) (a1 : Int) (a2 : Int) : mF Try.prog (sp_sutureref1_Within n) 42 [(V.t (T.sc (.int .i64 a0))), (V.t (T.sc (.int .i64 a1))), (V.t (T.sc (.int .i64 a2)))] [] K_sutureref1_Within = m_sutureref1_Within n a0 a1 a2 := by kernel_rfl
theorem m_sutureref1_Within_ok (n : Nat) : ok_sutureref1_Within (m_sutureref1_Within n) := fun a0 a1 a2 r h => mF_ok sound (sp_sutureref1_Within_ok n) code_sutureref1_Within_fn code_sutureref1_Within_body (fun a ha => absurd ha (by rw [show loopsOf code_sutureref1_Within = [] from by kernel_rfl]; simp)) (no_scope (by kernel_rfl)) ((m_sutureref1_Within_eq n a0 a1 a2).trans h) (fun v s hk => ⟨(K_sutureref1_Within_wk hk).1, rfl, (K_sutureref1_Within_wk hk).2⟩)


/-! suture/sutureref1.Spot -/
def l_sutureref1_Spot_5_B (n : Nat) (k : ByteArray × Int × Int × Int × Int → Option (Int × Int)) : ByteArray × Int × Int × Int × Int → Option (Int × Int) := fun (s0, s1, s2, s3, s4) =>
bif (decide ((s4 : Int) < s1)) then (
Option.bind (bidx true s0 s4) fun b1 =>
bif ((((UInt8.toNat b1 : Nat) : Int) : Int) == 10) then (
k (s0, s1, (IntKind.wrap .i64 (s2 + 1)), 1, (IntKind.wrap .i64 (s4 + 1))))
else (
k (s0, s1, s2, (IntKind.wrap .i64 (s3 + 1)), (IntKind.wrap .i64 (s4 + 1)))))
else (
some (s2, s3))
def l_sutureref1_Spot_5 (n : Nat) : Nat → ByteArray × Int × Int × Int × Int → Option (Int × Int)
  | 0, _ => none
  | m + 1, s => l_sutureref1_Spot_5_B n (l_sutureref1_Spot_5 n m) s
def m_sutureref1_Spot (n : Nat) (a0 : ByteArray) (a1 : Int) : Option (Int × Int) :=
Option.bind (m_sutureref1_Within n a1 0 ((ByteArray.size a0 : Nat) : Int)) fun r0 =>
Option.bind (l_sutureref1_Spot_5 n n (a0, r0, 1, 1, 0)) fun p3 =>
some (p3.1, p3.2)
def enc_sutureref1_Spot (r : Int × Int) : V := (V.tup [(V.t (T.sc (.int .i64 r.1))), (V.t (T.sc (.int .i64 r.2)))])
def encS_sutureref1_Spot (r : Int × Int) : Sig := []
def ok_sutureref1_Spot (m : ByteArray → Int → Option (Int × Int)) : Prop := ∀ (a0 : ByteArray) (a1 : Int) (r : Int × Int), m a0 a1 = some r → FuncOk Try.prog 24 [(V.t (T.sc (.string a0))), (V.t (T.sc (.int .i64 a1)))] [] (enc_sutureref1_Spot r) (encS_sutureref1_Spot r)
def c_sutureref1_Spot (m : ByteArray → Int → Option (Int × Int)) (vs : List V) (sg : Sig) : Option CallM := bif Nat.beq vs.length 2 && Nat.beq sg.length 0 then Option.bind (V.strOf (vs.getD 0 .any)) fun u0 => Option.bind (V.intOf .i64 (vs.getD 1 .any)) fun u1 => some { α := Int × Int, m := m u0 u1, dflt := (0, 0), enc := fun y => ((V.tup [(V.t (T.sc (.int .i64 y.1))), (V.t (T.sc (.int .i64 y.2)))]), []) } else none
theorem c_sutureref1_Spot_ok (m : ByteArray → Int → Option (Int × Int)) (hm : ok_sutureref1_Spot m) (vs : List V) (sg : Sig) (cm : CallM) (x : cm.α) (h : c_sutureref1_Spot m vs sg = some cm) (hx : cm.m = some x) : FuncOk Try.prog 24 vs sg (cm.enc x).1 (cm.enc x).2 := by
  unfold c_sutureref1_Spot at h
  have h0 := callee_sig h
  clear h
  obtain ⟨hl, hs, h⟩ := h0
  obtain ⟨u0, hu0, h⟩ := Option.bind_eq_some_iff.1 h
  obtain ⟨u1, hu1, h⟩ := Option.bind_eq_some_iff.1 h
  simp only [Option.some.injEq] at h
  subst h
  exact (hm u0 u1 x hx).wk (args_wk hl (.cons (strOf_wk hu0) (.cons (intOf_wk hu1) .nil))) (wkSg_of hs .nil)
noncomputable def code_sutureref1_Spot : Code := Try.f24.body.getD .skip
def l_sutureref1_Spot_5_S (n : Nat) (R : Type) (E : SEnv) (sg : Sig) (K : Ex → SEnv → Sig → Option R) : Option R := Option.bind (V.strOf (SEnv.at E 0)) fun u0 => Option.bind (V.intOf .i64 (SEnv.at E 1)) fun u1 => Option.bind (V.intOf .i64 (SEnv.at E 6)) fun u2 => Option.bind (V.intOf .i64 (SEnv.at E 7)) fun u3 => Option.bind (V.intOf .i64 (SEnv.at E 8)) fun u4 => Option.bind (l_sutureref1_Spot_5 n n (u0, u1, u2, u3, u4)) fun p0 => K (.exit 0) [(6, (V.t (T.sc (.int .i64 p0.1)))), (7, (V.t (T.sc (.int .i64 p0.2))))] []
noncomputable def sp_sutureref1_Spot (n : Nat) : Go.Eng.Spec := ⟨fun f vs sg => (match f with
    | 42 => c_sutureref1_Within (m_sutureref1_Within n) vs sg
    | _ => none), fun R key E sg K => (match key with
    | 5 => l_sutureref1_Spot_5_S n R E sg K
    | _ => none)⟩
theorem sp_sutureref1_Spot_ok (n : Nat) : CallsOk Try.prog (sp_sutureref1_Spot n) := by
  intro f vs sg cm x h hx
  simp only [sp_sutureref1_Spot] at h
  split at h
  · exact c_sutureref1_Within_ok _ (m_sutureref1_Within_ok n) vs sg cm x h hx
  · cases h
theorem code_sutureref1_Spot_fn : Try.prog.funcs[24]? = some Try.f24 := Try.func24
theorem code_sutureref1_Spot_body : Try.f24.body = some code_sutureref1_Spot := by kernel_rfl
theorem code_sutureref1_Spot_ok : CodeOk Try.prog code_sutureref1_Spot := (sound 24 _ _ code_sutureref1_Spot_fn code_sutureref1_Spot_body).1
noncomputable def code_l_sutureref1_Spot_5 : Code := (loopsOf code_sutureref1_Spot).getD 0 .skip
theorem code_l_sutureref1_Spot_5_ok : CodeOk Try.prog code_l_sutureref1_Spot_5 := codeOk_loops code_sutureref1_Spot_ok _ (getD_mem (by kernel_rfl))
def l_sutureref1_Spot_5_K (k : ByteArray × Int × Int × Int × Int → Option (Int × Int)) : Ex → SEnv → Sig → Option (Int × Int) := fun x E sg => match x with
  | .normal => Option.bind (V.strOf (SEnv.at E 0)) fun u0 => Option.bind (V.intOf .i64 (SEnv.at E 1)) fun u1 => Option.bind (V.intOf .i64 (SEnv.at E 6)) fun u2 => Option.bind (V.intOf .i64 (SEnv.at E 7)) fun u3 => Option.bind (V.intOf .i64 (SEnv.at E 8)) fun u4 => k (u0, u1, u2, u3, u4)
  | (.exit 0) => Option.bind (V.intOf .i64 (SEnv.at E 6)) fun u0 => Option.bind (V.intOf .i64 (SEnv.at E 7)) fun u1 => some (u0, u1)
  | _ => none
theorem l_sutureref1_Spot_5_eq (n : Nat) (k : ByteArray × Int × Int × Int × Int → Option (Int × Int)) (s0 : ByteArray) (s1 : Int) (s2 : Int) (s3 : Int) (s4 : Int) : mX Try.prog (sp_sutureref1_Spot n) 28 code_l_sutureref1_Spot_5 [(0, (V.t (T.sc (.string s0)))), (1, (V.t (T.sc (.int .i64 s1)))), (6, (V.t (T.sc (.int .i64 s2)))), (7, (V.t (T.sc (.int .i64 s3)))), (8, (V.t (T.sc (.int .i64 s4))))] [] (l_sutureref1_Spot_5_K k) = l_sutureref1_Spot_5_B n k (s0, s1, s2, s3, s4) := by kernel_rfl
def l_sutureref1_Spot_5_Q (x : Int × Int) (ex : Ex) (e : Env) (s : Sig) : Prop := (fun p0 => (ex = (.exit 0) ∧ e = SEnv.env 28 [(6, (V.t (T.sc (.int .i64 p0.1)))), (7, (V.t (T.sc (.int .i64 p0.2))))] ∧ s = [])) x
theorem l_sutureref1_Spot_5_run (n : Nat) : ∀ (m : Nat) (s0 : ByteArray) (s1 : Int) (s2 : Int) (s3 : Int) (s4 : Int) (x : Int × Int), l_sutureref1_Spot_5 n m (s0, s1, s2, s3, s4) = some x → SemL Try.prog 0 code_l_sutureref1_Spot_5 (SEnv.env 28 [(0, (V.t (T.sc (.string s0)))), (1, (V.t (T.sc (.int .i64 s1)))), (6, (V.t (T.sc (.int .i64 s2)))), (7, (V.t (T.sc (.int .i64 s3)))), (8, (V.t (T.sc (.int .i64 s4))))]) [] (l_sutureref1_Spot_5_Q x)
  | 0, s0, s1, s2, s3, s4, x, h => by cases h
  | m + 1, s0, s1, s2, s3, s4, x, h => by
    refine loop_step (sp_sutureref1_Spot_ok n) code_l_sutureref1_Spot_5_ok (fun a ha => absurd ha (by rw [show loopsOf code_l_sutureref1_Spot_5 = [] from by kernel_rfl]; simp)) (no_scope (by kernel_rfl)) ((l_sutureref1_Spot_5_eq n _ s0 s1 s2 s3 s4).trans h) (fun E sg h => ?_) (fun ex E sg hne h => ?_)
    · simp only [l_sutureref1_Spot_5_K] at h
      obtain ⟨u0, hu0, h⟩ := Option.bind_eq_some_iff.1 h
      obtain ⟨u1, hu1, h⟩ := Option.bind_eq_some_iff.1 h
      obtain ⟨u2, hu2, h⟩ := Option.bind_eq_some_iff.1 h
      obtain ⟨u3, hu3, h⟩ := Option.bind_eq_some_iff.1 h
      obtain ⟨u4, hu4, h⟩ := Option.bind_eq_some_iff.1 h
      exact SemL.pre (k := 0) (by decide) (WkA.env (WkA.cons (strOf_wk hu0) rfl (WkA.cons (intOf_wk hu1) rfl (WkA.cons (intOf_wk hu2) rfl (WkA.cons (intOf_wk hu3) rfl (WkA.cons (intOf_wk hu4) rfl WkA.nil))))) 28) (WkS.none _) (l_sutureref1_Spot_5_run n m _ _ _ _ _ x h)
    · unfold l_sutureref1_Spot_5_K at h
      split at h
      · exact absurd rfl hne
      · obtain ⟨u0, hu0, h⟩ := Option.bind_eq_some_iff.1 h
        obtain ⟨u1, hu1, h⟩ := Option.bind_eq_some_iff.1 h
        simp only [Option.some.injEq] at h
        subst h
        exact ⟨0, _, _, by decide, WkA.env (WkA.cons (intOf_wk hu0) rfl (WkA.cons (intOf_wk hu1) rfl WkA.nil)) 28, (WkS.none _), rfl, rfl, rfl⟩
      · cases h
theorem l_sutureref1_Spot_5_ok (n : Nat) : LoopOk Try.prog (sp_sutureref1_Spot n) 0 28 code_l_sutureref1_Spot_5 := by
    intro R key E sg K r hk h
    rw [show Go.Eng.keyOf code_l_sutureref1_Spot_5 = some 5 from by kernel_rfl] at hk
    cases hk
    have h : l_sutureref1_Spot_5_S n R E sg K = some r := h
    unfold l_sutureref1_Spot_5_S at h
    obtain ⟨u0, hu0, h⟩ := Option.bind_eq_some_iff.1 h
    obtain ⟨u1, hu1, h⟩ := Option.bind_eq_some_iff.1 h
    obtain ⟨u2, hu2, h⟩ := Option.bind_eq_some_iff.1 h
    obtain ⟨u3, hu3, h⟩ := Option.bind_eq_some_iff.1 h
    obtain ⟨u4, hu4, h⟩ := Option.bind_eq_some_iff.1 h
    obtain ⟨x, hx, h⟩ := Option.bind_eq_some_iff.1 h
    refine (SemL.pre (k := 0) (by decide) (WkA.env (WkA.cons (strOf_wk hu0) rfl (WkA.cons (intOf_wk hu1) rfl (WkA.cons (intOf_wk hu2) rfl (WkA.cons (intOf_wk hu3) rfl (WkA.cons (intOf_wk hu4) rfl WkA.nil))))) 28) (WkS.none _) (l_sutureref1_Spot_5_run n n _ _ _ _ _ x hx)).mono ?_
    intro ex e s hq
    obtain ⟨rfl, rfl, rfl⟩ := hq
    exact ⟨_, rfl, h⟩
def K_sutureref1_Spot (v : V) (s : Sig) : Option (Int × Int) := Option.bind (V.tupN 2 v) fun u0 => Option.bind (V.intOf .i64 (u0.getD 0 .any)) fun u1 => Option.bind (V.intOf .i64 (u0.getD 1 .any)) fun u2 => some (u1, u2)
theorem K_sutureref1_Spot_wk {v : V} {s : Sig} {r : Int × Int} (h : K_sutureref1_Spot v s = some r) : Wk v (enc_sutureref1_Spot r) ∧ WkS 0 s (encS_sutureref1_Spot r) := by
  unfold K_sutureref1_Spot at h
  obtain ⟨u0, hu0, h⟩ := Option.bind_eq_some_iff.1 h
  obtain ⟨u1, hu1, h⟩ := Option.bind_eq_some_iff.1 h
  obtain ⟨u2, hu2, h⟩ := Option.bind_eq_some_iff.1 h
  simp only [Option.some.injEq] at h
  subst h
  exact ⟨(tupN_wk hu0 (.cons (intOf_wk hu1) (.cons (intOf_wk hu2) .nil))), (WkS.none _)⟩
theorem m_sutureref1_Spot_eq (n : Nat) (a0 : ByteArray) (a1 : Int) : mF Try.prog (sp_sutureref1_Spot n) 24 [(V.t (T.sc (.string a0))), (V.t (T.sc (.int .i64 a1)))] [] K_sutureref1_Spot = m_sutureref1_Spot n a0 a1 := by kernel_rfl
theorem m_sutureref1_Spot_ok (n : Nat) : ok_sutureref1_Spot (m_sutureref1_Spot n) := fun a0 a1 r h => mF_ok sound (sp_sutureref1_Spot_ok n) code_sutureref1_Spot_fn code_sutureref1_Spot_body (forall_getD (d := .skip) 1 (by kernel_rfl) (fun i hi => match i, hi with | 0, _ => l_sutureref1_Spot_5_ok n | i + 1, hi => absurd hi (by omega))) (no_scope (by kernel_rfl)) ((m_sutureref1_Spot_eq n a0 a1).trans h) (fun v s hk => ⟨(K_sutureref1_Spot_wk hk).1, rfl, (K_sutureref1_Spot_wk hk).2⟩)


/-! suture/sutureref1.Place -/
def m_sutureref1_Place (n : Nat) (a0 : ByteArray) (a1 : Int) : Option ((Nat × Nat)) :=
Option.bind (m_sutureref1_Spot n a0 a1) fun r0 =>
some ((FloatKind.nearest .f64 r0.1), (FloatKind.nearest .f64 r0.2))
def enc_sutureref1_Place (r : (Nat × Nat)) : V := (V.t (T.sc (.complex .f64 r.1 r.2)))
def encS_sutureref1_Place (r : (Nat × Nat)) : Sig := []
def ok_sutureref1_Place (m : ByteArray → Int → Option ((Nat × Nat))) : Prop := ∀ (a0 : ByteArray) (a1 : Int) (r : (Nat × Nat)), m a0 a1 = some r → FuncOk Try.prog 9 [(V.t (T.sc (.string a0))), (V.t (T.sc (.int .i64 a1)))] [] (enc_sutureref1_Place r) (encS_sutureref1_Place r)
def c_sutureref1_Place (m : ByteArray → Int → Option ((Nat × Nat))) (vs : List V) (sg : Sig) : Option CallM := bif Nat.beq vs.length 2 && Nat.beq sg.length 0 then Option.bind (V.strOf (vs.getD 0 .any)) fun u0 => Option.bind (V.intOf .i64 (vs.getD 1 .any)) fun u1 => some { α := (Nat × Nat), m := m u0 u1, dflt := (0, 0), enc := fun y => ((V.t (T.sc (.complex .f64 y.1 y.2))), []) } else none
theorem c_sutureref1_Place_ok (m : ByteArray → Int → Option ((Nat × Nat))) (hm : ok_sutureref1_Place m) (vs : List V) (sg : Sig) (cm : CallM) (x : cm.α) (h : c_sutureref1_Place m vs sg = some cm) (hx : cm.m = some x) : FuncOk Try.prog 9 vs sg (cm.enc x).1 (cm.enc x).2 := by
  unfold c_sutureref1_Place at h
  have h0 := callee_sig h
  clear h
  obtain ⟨hl, hs, h⟩ := h0
  obtain ⟨u0, hu0, h⟩ := Option.bind_eq_some_iff.1 h
  obtain ⟨u1, hu1, h⟩ := Option.bind_eq_some_iff.1 h
  simp only [Option.some.injEq] at h
  subst h
  exact (hm u0 u1 x hx).wk (args_wk hl (.cons (strOf_wk hu0) (.cons (intOf_wk hu1) .nil))) (wkSg_of hs .nil)
noncomputable def code_sutureref1_Place : Code := Try.f9.body.getD .skip
noncomputable def sp_sutureref1_Place (n : Nat) : Go.Eng.Spec := ⟨fun f vs sg => (match f with
    | 24 => c_sutureref1_Spot (m_sutureref1_Spot n) vs sg
    | _ => none), fun R key E sg K => (match key with
    | _ => none)⟩
theorem sp_sutureref1_Place_ok (n : Nat) : CallsOk Try.prog (sp_sutureref1_Place n) := by
  intro f vs sg cm x h hx
  simp only [sp_sutureref1_Place] at h
  split at h
  · exact c_sutureref1_Spot_ok _ (m_sutureref1_Spot_ok n) vs sg cm x h hx
  · cases h
theorem code_sutureref1_Place_fn : Try.prog.funcs[9]? = some Try.f9 := Try.func9
theorem code_sutureref1_Place_body : Try.f9.body = some code_sutureref1_Place := by kernel_rfl
theorem code_sutureref1_Place_ok : CodeOk Try.prog code_sutureref1_Place := (sound 9 _ _ code_sutureref1_Place_fn code_sutureref1_Place_body).1
def K_sutureref1_Place (v : V) (s : Sig) : Option ((Nat × Nat)) := Option.bind (V.cplxOf .f64 v) fun u0 => some u0
theorem K_sutureref1_Place_wk {v : V} {s : Sig} {r : (Nat × Nat)} (h : K_sutureref1_Place v s = some r) : Wk v (enc_sutureref1_Place r) ∧ WkS 0 s (encS_sutureref1_Place r) := by
  unfold K_sutureref1_Place at h
  obtain ⟨u0, hu0, h⟩ := Option.bind_eq_some_iff.1 h
  simp only [Option.some.injEq] at h
  subst h
  exact ⟨(cplxOf_wk hu0), (WkS.none _)⟩
theorem m_sutureref1_Place_eq (n : Nat) (a0 : ByteArray) (a1 : Int) : mF Try.prog (sp_sutureref1_Place n) 9 [(V.t (T.sc (.string a0))), (V.t (T.sc (.int .i64 a1)))] [] K_sutureref1_Place = m_sutureref1_Place n a0 a1 := by kernel_rfl
theorem m_sutureref1_Place_ok (n : Nat) : ok_sutureref1_Place (m_sutureref1_Place n) := fun a0 a1 r h => mF_ok sound (sp_sutureref1_Place_ok n) code_sutureref1_Place_fn code_sutureref1_Place_body (fun a ha => absurd ha (by rw [show loopsOf code_sutureref1_Place = [] from by kernel_rfl]; simp)) (no_scope (by kernel_rfl)) ((m_sutureref1_Place_eq n a0 a1).trans h) (fun v s hk => ⟨(K_sutureref1_Place_wk hk).1, rfl, (K_sutureref1_Place_wk hk).2⟩)


/-! suture/sutureref1.Keyword -/
def l_sutureref1_Keyword_2_B (n : Nat) (k : ByteArray × ByteArray × ByteArray × ByteArray × ByteArray × ByteArray × ByteArray × ByteArray × ByteArray × ByteArray × ByteArray × ByteArray × ByteArray × ByteArray × ByteArray × ByteArray × ByteArray × ByteArray × Int → Option (((Bool) ⊕ Unit))) : ByteArray × ByteArray × ByteArray × ByteArray × ByteArray × ByteArray × ByteArray × ByteArray × ByteArray × ByteArray × ByteArray × ByteArray × ByteArray × ByteArray × ByteArray × ByteArray × ByteArray × ByteArray × Int → Option (((Bool) ⊕ Unit)) := fun (s0, s1, s2, s3, s4, s5, s6, s7, s8, s9, s10, s11, s12, s13, s14, s15, s16, s17, s18) =>
bif (decide ((s18 : Int) < 17)) then (
Option.bind (idx1 true (.str) [(T.sc (.string s1)), (T.sc (.string s2)), (T.sc (.string s3)), (T.sc (.string s4)), (T.sc (.string s5)), (T.sc (.string s6)), (T.sc (.string s7)), (T.sc (.string s8)), (T.sc (.string s9)), (T.sc (.string s10)), (T.sc (.string s11)), (T.sc (.string s12)), (T.sc (.string s13)), (T.sc (.string s14)), (T.sc (.string s15)), (T.sc (.string s16)), (T.sc (.string s17))] s18) fun y0 =>
bif (ByteArray.toList s0 == ByteArray.toList y0.str) then (
some (Sum.inl true))
else (
k (s0, s1, s2, s3, s4, s5, s6, s7, s8, s9, s10, s11, s12, s13, s14, s15, s16, s17, (IntKind.wrap .i64 (s18 + 1)))))
else (
some (Sum.inr ()))
def l_sutureref1_Keyword_2 (n : Nat) : Nat → ByteArray × ByteArray × ByteArray × ByteArray × ByteArray × ByteArray × ByteArray × ByteArray × ByteArray × ByteArray × ByteArray × ByteArray × ByteArray × ByteArray × ByteArray × ByteArray × ByteArray × ByteArray × Int → Option (((Bool) ⊕ Unit))
  | 0, _ => none
  | m + 1, s => l_sutureref1_Keyword_2_B n (l_sutureref1_Keyword_2 n m) s
def m_sutureref1_Keyword (n : Nat) (a0 : ByteArray) : Option (Bool) :=
Option.bind (l_sutureref1_Keyword_2 n n (a0, (⟨#[118, 97, 114]⟩ : ByteArray), (⟨#[119, 105, 100, 101]⟩ : ByteArray), (⟨#[97, 116, 111, 109, 105, 99]⟩ : ByteArray), (⟨#[108, 111, 99, 97, 108]⟩ : ByteArray), (⟨#[109, 117, 116, 101, 120]⟩ : ByteArray), (⟨#[99, 104, 97, 110]⟩ : ByteArray), (⟨#[103, 111]⟩ : ByteArray), (⟨#[108, 111, 99, 107]⟩ : ByteArray), (⟨#[117, 110, 108, 111, 99, 107]⟩ : ByteArray), (⟨#[115, 101, 110, 100]⟩ : ByteArray), (⟨#[114, 101, 99, 118]⟩ : ByteArray), (⟨#[112, 114, 105, 110, 116]⟩ : ByteArray), (⟨#[105, 102]⟩ : ByteArray), (⟨#[101, 108, 115, 101]⟩ : ByteArray), (⟨#[114, 101, 112, 101, 97, 116]⟩ : ByteArray), (⟨#[103, 111, 116, 111]⟩ : ByteArray), (⟨#[108, 97, 98, 101, 108]⟩ : ByteArray), 0)) fun x1 =>
Sum.elim (fun p2 => 
some p2) (fun x1' => (fun p3 => 
some false) x1') x1
def enc_sutureref1_Keyword (r : Bool) : V := (V.t (T.sc (.bool r)))
def encS_sutureref1_Keyword (r : Bool) : Sig := []
def ok_sutureref1_Keyword (m : ByteArray → Option (Bool)) : Prop := ∀ (a0 : ByteArray) (r : Bool), m a0 = some r → FuncOk Try.prog 52 [(V.t (T.sc (.string a0)))] [] (enc_sutureref1_Keyword r) (encS_sutureref1_Keyword r)
def c_sutureref1_Keyword (m : ByteArray → Option (Bool)) (vs : List V) (sg : Sig) : Option CallM := bif Nat.beq vs.length 1 && Nat.beq sg.length 0 then Option.bind (V.strOf (vs.getD 0 .any)) fun u0 => some { α := Bool, m := m u0, dflt := false, enc := fun y => ((V.t (T.sc (.bool y))), []) } else none
theorem c_sutureref1_Keyword_ok (m : ByteArray → Option (Bool)) (hm : ok_sutureref1_Keyword m) (vs : List V) (sg : Sig) (cm : CallM) (x : cm.α) (h : c_sutureref1_Keyword m vs sg = some cm) (hx : cm.m = some x) : FuncOk Try.prog 52 vs sg (cm.enc x).1 (cm.enc x).2 := by
  unfold c_sutureref1_Keyword at h
  have h0 := callee_sig h
  clear h
  obtain ⟨hl, hs, h⟩ := h0
  obtain ⟨u0, hu0, h⟩ := Option.bind_eq_some_iff.1 h
  simp only [Option.some.injEq] at h
  subst h
  exact (hm u0 x hx).wk (args_wk hl (.cons (strOf_wk hu0) .nil)) (wkSg_of hs .nil)
noncomputable def code_sutureref1_Keyword : Code := Try.f52.body.getD .skip
def l_sutureref1_Keyword_2_S (n : Nat) (R : Type) (E : SEnv) (sg : Sig) (K : Ex → SEnv → Sig → Option R) : Option R := Option.bind (V.strOf (SEnv.at E 0)) fun u0 => Option.bind (V.aggN 17 (SEnv.at E 5)) fun u1 => Option.bind (V.strOf (u1.getD 0 .any)) fun u2 => Option.bind (V.strOf (u1.getD 1 .any)) fun u3 => Option.bind (V.strOf (u1.getD 2 .any)) fun u4 => Option.bind (V.strOf (u1.getD 3 .any)) fun u5 => Option.bind (V.strOf (u1.getD 4 .any)) fun u6 => Option.bind (V.strOf (u1.getD 5 .any)) fun u7 => Option.bind (V.strOf (u1.getD 6 .any)) fun u8 => Option.bind (V.strOf (u1.getD 7 .any)) fun u9 => Option.bind (V.strOf (u1.getD 8 .any)) fun u10 => Option.bind (V.strOf (u1.getD 9 .any)) fun u11 => Option.bind (V.strOf (u1.getD 10 .any)) fun u12 => Option.bind (V.strOf (u1.getD 11 .any)) fun u13 => Option.bind (V.strOf (u1.getD 12 .any)) fun u14 => Option.bind (V.strOf (u1.getD 13 .any)) fun u15 => Option.bind (V.strOf (u1.getD 14 .any)) fun u16 => Option.bind (V.strOf (u1.getD 15 .any)) fun u17 => Option.bind (V.strOf (u1.getD 16 .any)) fun u18 => Option.bind (V.intOf .i64 (SEnv.at E 6)) fun u19 => Option.bind (l_sutureref1_Keyword_2 n n (u0, u2, u3, u4, u5, u6, u7, u8, u9, u10, u11, u12, u13, u14, u15, u16, u17, u18, u19)) fun y => Sum.elim (fun p0 => K .ret [(2, (V.t (T.sc (.bool p0))))] []) (fun y' => (fun p1 => K (.exit 0) [] []) y') y
noncomputable def sp_sutureref1_Keyword (n : Nat) : Go.Eng.Spec := ⟨fun f vs sg => (match f with
    | _ => none), fun R key E sg K => (match key with
    | 2 => l_sutureref1_Keyword_2_S n R E sg K
    | _ => none)⟩
theorem sp_sutureref1_Keyword_ok (n : Nat) : CallsOk Try.prog (sp_sutureref1_Keyword n) := by
  intro f vs sg cm x h hx
  have h : (none : Option CallM) = some cm := h
  cases h
theorem code_sutureref1_Keyword_fn : Try.prog.funcs[52]? = some Try.f52 := Try.func52
theorem code_sutureref1_Keyword_body : Try.f52.body = some code_sutureref1_Keyword := by kernel_rfl
theorem code_sutureref1_Keyword_ok : CodeOk Try.prog code_sutureref1_Keyword := (sound 52 _ _ code_sutureref1_Keyword_fn code_sutureref1_Keyword_body).1
noncomputable def code_l_sutureref1_Keyword_2 : Code := (loopsOf code_sutureref1_Keyword).getD 0 .skip
theorem code_l_sutureref1_Keyword_2_ok : CodeOk Try.prog code_l_sutureref1_Keyword_2 := codeOk_loops code_sutureref1_Keyword_ok _ (getD_mem (by kernel_rfl))
def l_sutureref1_Keyword_2_K (k : ByteArray × ByteArray × ByteArray × ByteArray × ByteArray × ByteArray × ByteArray × ByteArray × ByteArray × ByteArray × ByteArray × ByteArray × ByteArray × ByteArray × ByteArray × ByteArray × ByteArray × ByteArray × Int → Option (((Bool) ⊕ Unit))) : Ex → SEnv → Sig → Option (((Bool) ⊕ Unit)) := fun x E sg => match x with
  | .normal => Option.bind (V.strOf (SEnv.at E 0)) fun u0 => Option.bind (V.aggN 17 (SEnv.at E 5)) fun u1 => Option.bind (V.strOf (u1.getD 0 .any)) fun u2 => Option.bind (V.strOf (u1.getD 1 .any)) fun u3 => Option.bind (V.strOf (u1.getD 2 .any)) fun u4 => Option.bind (V.strOf (u1.getD 3 .any)) fun u5 => Option.bind (V.strOf (u1.getD 4 .any)) fun u6 => Option.bind (V.strOf (u1.getD 5 .any)) fun u7 => Option.bind (V.strOf (u1.getD 6 .any)) fun u8 => Option.bind (V.strOf (u1.getD 7 .any)) fun u9 => Option.bind (V.strOf (u1.getD 8 .any)) fun u10 => Option.bind (V.strOf (u1.getD 9 .any)) fun u11 => Option.bind (V.strOf (u1.getD 10 .any)) fun u12 => Option.bind (V.strOf (u1.getD 11 .any)) fun u13 => Option.bind (V.strOf (u1.getD 12 .any)) fun u14 => Option.bind (V.strOf (u1.getD 13 .any)) fun u15 => Option.bind (V.strOf (u1.getD 14 .any)) fun u16 => Option.bind (V.strOf (u1.getD 15 .any)) fun u17 => Option.bind (V.strOf (u1.getD 16 .any)) fun u18 => Option.bind (V.intOf .i64 (SEnv.at E 6)) fun u19 => k (u0, u2, u3, u4, u5, u6, u7, u8, u9, u10, u11, u12, u13, u14, u15, u16, u17, u18, u19)
  | .ret => Option.bind (V.boolOf (SEnv.at E 2)) fun u0 => some (Sum.inl u0)
  | (.exit 0) => some (Sum.inr ())
  | _ => none
theorem l_sutureref1_Keyword_2_eq (n : Nat) (k : ByteArray × ByteArray × ByteArray × ByteArray × ByteArray × ByteArray × ByteArray × ByteArray × ByteArray × ByteArray × ByteArray × ByteArray × ByteArray × ByteArray × ByteArray × ByteArray × ByteArray × ByteArray × Int → Option (((Bool) ⊕ Unit))) (s0 : ByteArray) (s1 : ByteArray) (s2 : ByteArray) (s3 : ByteArray) (s4 : ByteArray) (s5 : ByteArray) (s6 : ByteArray) (s7 : ByteArray) (s8 : ByteArray) (s9 : ByteArray) (s10 : ByteArray) (s11 : ByteArray) (s12 : ByteArray) (s13 : ByteArray) (s14 : ByteArray) (s15 : ByteArray) (s16 : ByteArray) (s17 : ByteArray) (s18 : Int) : mX Try.prog (sp_sutureref1_Keyword n) 13 code_l_sutureref1_Keyword_2 [(0, (V.t (T.sc (.string s0)))), (5, (V.agg [(V.t (T.sc (.string s1))), (V.t (T.sc (.string s2))), (V.t (T.sc (.string s3))), (V.t (T.sc (.string s4))), (V.t (T.sc (.string s5))), (V.t (T.sc (.string s6))), (V.t (T.sc (.string s7))), (V.t (T.sc (.string s8))), (V.t (T.sc (.string s9))), (V.t (T.sc (.string s10))), (V.t (T.sc (.string s11))), (V.t (T.sc (.string s12))), (V.t (T.sc (.string s13))), (V.t (T.sc (.string s14))), (V.t (T.sc (.string s15))), (V.t (T.sc (.string s16))), (V.t (T.sc (.string s17)))])), (6, (V.t (T.sc (.int .i64 s18))))] [] (l_sutureref1_Keyword_2_K k) = l_sutureref1_Keyword_2_B n k (s0, s1, s2, s3, s4, s5, s6, s7, s8, s9, s10, s11, s12, s13, s14, s15, s16, s17, s18) := by kernel_rfl
def l_sutureref1_Keyword_2_Q (x : ((Bool) ⊕ Unit)) (ex : Ex) (e : Env) (s : Sig) : Prop := Sum.elim (fun p0 => (ex = .ret ∧ e = SEnv.env 13 [(2, (V.t (T.sc (.bool p0))))] ∧ s = [])) (fun x' => (fun p1 => (ex = (.exit 0) ∧ e = SEnv.env 13 [] ∧ s = [])) x') x
theorem l_sutureref1_Keyword_2_run (n : Nat) : ∀ (m : Nat) (s0 : ByteArray) (s1 : ByteArray) (s2 : ByteArray) (s3 : ByteArray) (s4 : ByteArray) (s5 : ByteArray) (s6 : ByteArray) (s7 : ByteArray) (s8 : ByteArray) (s9 : ByteArray) (s10 : ByteArray) (s11 : ByteArray) (s12 : ByteArray) (s13 : ByteArray) (s14 : ByteArray) (s15 : ByteArray) (s16 : ByteArray) (s17 : ByteArray) (s18 : Int) (x : ((Bool) ⊕ Unit)), l_sutureref1_Keyword_2 n m (s0, s1, s2, s3, s4, s5, s6, s7, s8, s9, s10, s11, s12, s13, s14, s15, s16, s17, s18) = some x → SemL Try.prog 0 code_l_sutureref1_Keyword_2 (SEnv.env 13 [(0, (V.t (T.sc (.string s0)))), (5, (V.agg [(V.t (T.sc (.string s1))), (V.t (T.sc (.string s2))), (V.t (T.sc (.string s3))), (V.t (T.sc (.string s4))), (V.t (T.sc (.string s5))), (V.t (T.sc (.string s6))), (V.t (T.sc (.string s7))), (V.t (T.sc (.string s8))), (V.t (T.sc (.string s9))), (V.t (T.sc (.string s10))), (V.t (T.sc (.string s11))), (V.t (T.sc (.string s12))), (V.t (T.sc (.string s13))), (V.t (T.sc (.string s14))), (V.t (T.sc (.string s15))), (V.t (T.sc (.string s16))), (V.t (T.sc (.string s17)))])), (6, (V.t (T.sc (.int .i64 s18))))]) [] (l_sutureref1_Keyword_2_Q x)
  | 0, s0, s1, s2, s3, s4, s5, s6, s7, s8, s9, s10, s11, s12, s13, s14, s15, s16, s17, s18, x, h => by cases h
  | m + 1, s0, s1, s2, s3, s4, s5, s6, s7, s8, s9, s10, s11, s12, s13, s14, s15, s16, s17, s18, x, h => by
    refine loop_step (sp_sutureref1_Keyword_ok n) code_l_sutureref1_Keyword_2_ok (fun a ha => absurd ha (by rw [show loopsOf code_l_sutureref1_Keyword_2 = [] from by kernel_rfl]; simp)) (no_scope (by kernel_rfl)) ((l_sutureref1_Keyword_2_eq n _ s0 s1 s2 s3 s4 s5 s6 s7 s8 s9 s10 s11 s12 s13 s14 s15 s16 s17 s18).trans h) (fun E sg h => ?_) (fun ex E sg hne h => ?_)
    · simp only [l_sutureref1_Keyword_2_K] at h
      obtain ⟨u0, hu0, h⟩ := Option.bind_eq_some_iff.1 h
      obtain ⟨u1, hu1, h⟩ := Option.bind_eq_some_iff.1 h
      obtain ⟨u2, hu2, h⟩ := Option.bind_eq_some_iff.1 h
      obtain ⟨u3, hu3, h⟩ := Option.bind_eq_some_iff.1 h
      obtain ⟨u4, hu4, h⟩ := Option.bind_eq_some_iff.1 h
      obtain ⟨u5, hu5, h⟩ := Option.bind_eq_some_iff.1 h
      obtain ⟨u6, hu6, h⟩ := Option.bind_eq_some_iff.1 h
      obtain ⟨u7, hu7, h⟩ := Option.bind_eq_some_iff.1 h
      obtain ⟨u8, hu8, h⟩ := Option.bind_eq_some_iff.1 h
      obtain ⟨u9, hu9, h⟩ := Option.bind_eq_some_iff.1 h
      obtain ⟨u10, hu10, h⟩ := Option.bind_eq_some_iff.1 h
      obtain ⟨u11, hu11, h⟩ := Option.bind_eq_some_iff.1 h
      obtain ⟨u12, hu12, h⟩ := Option.bind_eq_some_iff.1 h
      obtain ⟨u13, hu13, h⟩ := Option.bind_eq_some_iff.1 h
      obtain ⟨u14, hu14, h⟩ := Option.bind_eq_some_iff.1 h
      obtain ⟨u15, hu15, h⟩ := Option.bind_eq_some_iff.1 h
      obtain ⟨u16, hu16, h⟩ := Option.bind_eq_some_iff.1 h
      obtain ⟨u17, hu17, h⟩ := Option.bind_eq_some_iff.1 h
      obtain ⟨u18, hu18, h⟩ := Option.bind_eq_some_iff.1 h
      obtain ⟨u19, hu19, h⟩ := Option.bind_eq_some_iff.1 h
      exact SemL.pre (k := 0) (by decide) (WkA.env (WkA.cons (strOf_wk hu0) rfl (WkA.cons (aggN_wk hu1 (.cons (strOf_wk hu2) (.cons (strOf_wk hu3) (.cons (strOf_wk hu4) (.cons (strOf_wk hu5) (.cons (strOf_wk hu6) (.cons (strOf_wk hu7) (.cons (strOf_wk hu8) (.cons (strOf_wk hu9) (.cons (strOf_wk hu10) (.cons (strOf_wk hu11) (.cons (strOf_wk hu12) (.cons (strOf_wk hu13) (.cons (strOf_wk hu14) (.cons (strOf_wk hu15) (.cons (strOf_wk hu16) (.cons (strOf_wk hu17) (.cons (strOf_wk hu18) .nil)))))))))))))))))) rfl (WkA.cons (intOf_wk hu19) rfl WkA.nil))) 13) (WkS.none _) (l_sutureref1_Keyword_2_run n m _ _ _ _ _ _ _ _ _ _ _ _ _ _ _ _ _ _ _ x h)
    · unfold l_sutureref1_Keyword_2_K at h
      split at h
      · exact absurd rfl hne
      · obtain ⟨u0, hu0, h⟩ := Option.bind_eq_some_iff.1 h
        simp only [Option.some.injEq] at h
        subst h
        exact ⟨0, _, _, by decide, WkA.env (WkA.cons (boolOf_wk hu0) rfl WkA.nil) 13, (WkS.none _), rfl, rfl, rfl⟩
      · simp only [Option.some.injEq] at h
        subst h
        exact ⟨0, _, _, by decide, WkA.env WkA.nil 13, (WkS.none _), rfl, rfl, rfl⟩
      · cases h
theorem l_sutureref1_Keyword_2_ok (n : Nat) : LoopOk Try.prog (sp_sutureref1_Keyword n) 0 13 code_l_sutureref1_Keyword_2 := by
    intro R key E sg K r hk h
    rw [show Go.Eng.keyOf code_l_sutureref1_Keyword_2 = some 2 from by kernel_rfl] at hk
    cases hk
    have h : l_sutureref1_Keyword_2_S n R E sg K = some r := h
    unfold l_sutureref1_Keyword_2_S at h
    obtain ⟨u0, hu0, h⟩ := Option.bind_eq_some_iff.1 h
    obtain ⟨u1, hu1, h⟩ := Option.bind_eq_some_iff.1 h
    obtain ⟨u2, hu2, h⟩ := Option.bind_eq_some_iff.1 h
    obtain ⟨u3, hu3, h⟩ := Option.bind_eq_some_iff.1 h
    obtain ⟨u4, hu4, h⟩ := Option.bind_eq_some_iff.1 h
    obtain ⟨u5, hu5, h⟩ := Option.bind_eq_some_iff.1 h
    obtain ⟨u6, hu6, h⟩ := Option.bind_eq_some_iff.1 h
    obtain ⟨u7, hu7, h⟩ := Option.bind_eq_some_iff.1 h
    obtain ⟨u8, hu8, h⟩ := Option.bind_eq_some_iff.1 h
    obtain ⟨u9, hu9, h⟩ := Option.bind_eq_some_iff.1 h
    obtain ⟨u10, hu10, h⟩ := Option.bind_eq_some_iff.1 h
    obtain ⟨u11, hu11, h⟩ := Option.bind_eq_some_iff.1 h
    obtain ⟨u12, hu12, h⟩ := Option.bind_eq_some_iff.1 h
    obtain ⟨u13, hu13, h⟩ := Option.bind_eq_some_iff.1 h
    obtain ⟨u14, hu14, h⟩ := Option.bind_eq_some_iff.1 h
    obtain ⟨u15, hu15, h⟩ := Option.bind_eq_some_iff.1 h
    obtain ⟨u16, hu16, h⟩ := Option.bind_eq_some_iff.1 h
    obtain ⟨u17, hu17, h⟩ := Option.bind_eq_some_iff.1 h
    obtain ⟨u18, hu18, h⟩ := Option.bind_eq_some_iff.1 h
    obtain ⟨u19, hu19, h⟩ := Option.bind_eq_some_iff.1 h
    obtain ⟨x, hx, h⟩ := Option.bind_eq_some_iff.1 h
    refine (SemL.pre (k := 0) (by decide) (WkA.env (WkA.cons (strOf_wk hu0) rfl (WkA.cons (aggN_wk hu1 (.cons (strOf_wk hu2) (.cons (strOf_wk hu3) (.cons (strOf_wk hu4) (.cons (strOf_wk hu5) (.cons (strOf_wk hu6) (.cons (strOf_wk hu7) (.cons (strOf_wk hu8) (.cons (strOf_wk hu9) (.cons (strOf_wk hu10) (.cons (strOf_wk hu11) (.cons (strOf_wk hu12) (.cons (strOf_wk hu13) (.cons (strOf_wk hu14) (.cons (strOf_wk hu15) (.cons (strOf_wk hu16) (.cons (strOf_wk hu17) (.cons (strOf_wk hu18) .nil)))))))))))))))))) rfl (WkA.cons (intOf_wk hu19) rfl WkA.nil))) 13) (WkS.none _) (l_sutureref1_Keyword_2_run n n _ _ _ _ _ _ _ _ _ _ _ _ _ _ _ _ _ _ _ x hx)).mono ?_
    intro ex e s hq
    rcases x with x | x <;> (obtain ⟨rfl, rfl, rfl⟩ := hq; exact ⟨_, rfl, h⟩) -- 5
def K_sutureref1_Keyword (v : V) (s : Sig) : Option (Bool) := Option.bind (V.boolOf v) fun u0 => some u0
theorem K_sutureref1_Keyword_wk {v : V} {s : Sig} {r : Bool} (h : K_sutureref1_Keyword v s = some r) : Wk v (enc_sutureref1_Keyword r) ∧ WkS 0 s (encS_sutureref1_Keyword r) := by
  unfold K_sutureref1_Keyword at h
  obtain ⟨u0, hu0, h⟩ := Option.bind_eq_some_iff.1 h
  simp only [Option.some.injEq] at h
  subst h
  exact ⟨(boolOf_wk hu0), (WkS.none _)⟩
theorem m_sutureref1_Keyword_eq (n : Nat) (a0 : ByteArray) : mF Try.prog (sp_sutureref1_Keyword n) 52 [(V.t (T.sc (.string a0)))] [] K_sutureref1_Keyword = m_sutureref1_Keyword n a0 := by kernel_rfl
theorem m_sutureref1_Keyword_ok (n : Nat) : ok_sutureref1_Keyword (m_sutureref1_Keyword n) := fun a0 r h => mF_ok sound (sp_sutureref1_Keyword_ok n) code_sutureref1_Keyword_fn code_sutureref1_Keyword_body (forall_getD (d := .skip) 1 (by kernel_rfl) (fun i hi => match i, hi with | 0, _ => l_sutureref1_Keyword_2_ok n | i + 1, hi => absurd hi (by omega))) (no_scope (by kernel_rfl)) ((m_sutureref1_Keyword_eq n a0).trans h) (fun v s hk => ⟨(K_sutureref1_Keyword_wk hk).1, rfl, (K_sutureref1_Keyword_wk hk).2⟩)


/-! (*suture/sutureref1.Reader).name -/
def m___sutureref1_Reader__name (n : Nat) (a0 : List T) (a1 : Int) (a2 : Bool) (a3 : Int) : Option (ByteArray × (List T) × Int × Bool × Int) :=
Option.bind (idx (!a2) [.int .i64, .str, .int .i64, .int .i64] a0 a1) fun y0 =>
Option.bind (idx (!(bif a2 then true else (((y0.cell 0).int : Int) != 1))) [.int .i64, .str, .int .i64, .int .i64] a0 a1) fun y1 =>
Option.bind (bif !(bif a2 then true else (((y0.cell 0).int : Int) != 1)) then m_sutureref1_Keyword n (y1.cell 1).str else some false) fun r2 =>
bif (bif (bif a2 then true else (((y0.cell 0).int : Int) != 1)) then true else r2) then (
Option.bind (m___sutureref1_Reader__fail n a0 a1 a2 a3) fun r3 =>
some ((⟨#[]⟩ : ByteArray), r3.1, r3.2.1, r3.2.2.1, r3.2.2.2))
else (
Option.bind (idx true [.int .i64, .str, .int .i64, .int .i64] a0 (IntKind.wrap .i64 ((IntKind.wrap .i64 (a1 + 1)) - 1))) fun y4 =>
some ((y4.cell 1).str, a0, (IntKind.wrap .i64 (a1 + 1)), a2, a3))
def enc___sutureref1_Reader__name (r : ByteArray × (List T) × Int × Bool × Int) : V := (V.t (T.sc (.string r.1)))
def encS___sutureref1_Reader__name (r : ByteArray × (List T) × Int × Bool × Int) : Sig := [some [(V.t (T.list r.2.1)), (V.t (T.sc (.int .i64 r.2.2.1))), (V.t (T.sc (.bool r.2.2.2.1))), (V.t (T.sc (.int .i64 r.2.2.2.2)))]]
def ok___sutureref1_Reader__name (m : List T → Int → Bool → Int → Option (ByteArray × (List T) × Int × Bool × Int)) : Prop := ∀ (a0 : List T) (a1 : Int) (a2 : Bool) (a3 : Int) (r : ByteArray × (List T) × Int × Bool × Int), m a0 a1 a2 a3 = some r → FuncOk Try.prog 38 [(V.ptr 0 0)] [some [(V.t (T.list a0)), (V.t (T.sc (.int .i64 a1))), (V.t (T.sc (.bool a2))), (V.t (T.sc (.int .i64 a3)))]] (enc___sutureref1_Reader__name r) (encS___sutureref1_Reader__name r)
def c___sutureref1_Reader__name (m : List T → Int → Bool → Int → Option (ByteArray × (List T) × Int × Bool × Int)) (vs : List V) (sg : Sig) : Option CallM := bif Nat.beq vs.length 1 && Nat.beq sg.length 1 then Option.bind (V.ptrOf 0 0 (vs.getD 0 .any)) fun u0 => Option.bind (cellsN 4 sg 0) fun g0 => Option.bind (V.lstOf (g0.getD 0 .any)) fun g1 => Option.bind (V.intOf .i64 (g0.getD 1 .any)) fun g2 => Option.bind (V.boolOf (g0.getD 2 .any)) fun g3 => Option.bind (V.intOf .i64 (g0.getD 3 .any)) fun g4 => some { α := ByteArray × (List T) × Int × Bool × Int, m := m g1 g2 g3 g4, dflt := (default, [], 0, false, 0), enc := fun y => ((V.t (T.sc (.string y.1))), [some [(V.t (T.list y.2.1)), (V.t (T.sc (.int .i64 y.2.2.1))), (V.t (T.sc (.bool y.2.2.2.1))), (V.t (T.sc (.int .i64 y.2.2.2.2)))]]) } else none
theorem c___sutureref1_Reader__name_ok (m : List T → Int → Bool → Int → Option (ByteArray × (List T) × Int × Bool × Int)) (hm : ok___sutureref1_Reader__name m) (vs : List V) (sg : Sig) (cm : CallM) (x : cm.α) (h : c___sutureref1_Reader__name m vs sg = some cm) (hx : cm.m = some x) : FuncOk Try.prog 38 vs sg (cm.enc x).1 (cm.enc x).2 := by
  unfold c___sutureref1_Reader__name at h
  have h0 := callee_sig h
  clear h
  obtain ⟨hl, hs, h⟩ := h0
  obtain ⟨u0, hu0, h⟩ := Option.bind_eq_some_iff.1 h
  obtain ⟨g0, hg0, h⟩ := Option.bind_eq_some_iff.1 h
  obtain ⟨g1, hg1, h⟩ := Option.bind_eq_some_iff.1 h
  obtain ⟨g2, hg2, h⟩ := Option.bind_eq_some_iff.1 h
  obtain ⟨g3, hg3, h⟩ := Option.bind_eq_some_iff.1 h
  obtain ⟨g4, hg4, h⟩ := Option.bind_eq_some_iff.1 h
  simp only [Option.some.injEq] at h
  subst h
  exact (hm g1 g2 g3 g4 x hx).wk (args_wk hl (.cons (ptrOf_wk hu0) .nil)) (wkSg_of hs (.cons (cellsN_wk hg0 (.cons (lstOf_wk hg1) (.cons (intOf_wk hg2) (.cons (boolOf_wk hg3) (.cons (intOf_wk hg4) .nil))))) .nil))
noncomputable def code___sutureref1_Reader__name : Code := Try.f38.body.getD .skip
noncomputable def sp___sutureref1_Reader__name (n : Nat) : Go.Eng.Spec := ⟨fun f vs sg => (match f with
    | 52 => c_sutureref1_Keyword (m_sutureref1_Keyword n) vs sg
    | 37 => c___sutureref1_Reader__fail (m___sutureref1_Reader__fail n) vs sg
    | _ => none), fun R key E sg K => (match key with
    | _ => none)⟩
theorem sp___sutureref1_Reader__name_ok (n : Nat) : CallsOk Try.prog (sp___sutureref1_Reader__name n) := by
  intro f vs sg cm x h hx
  simp only [sp___sutureref1_Reader__name] at h
  split at h
  · exact c_sutureref1_Keyword_ok _ (m_sutureref1_Keyword_ok n) vs sg cm x h hx
  · exact c___sutureref1_Reader__fail_ok _ (m___sutureref1_Reader__fail_ok n) vs sg cm x h hx
  · cases h
theorem code___sutureref1_Reader__name_fn : Try.prog.funcs[38]? = some Try.f38 := Try.func38
theorem code___sutureref1_Reader__name_body : Try.f38.body = some code___sutureref1_Reader__name := by kernel_rfl
theorem code___sutureref1_Reader__name_ok : CodeOk Try.prog code___sutureref1_Reader__name := (sound 38 _ _ code___sutureref1_Reader__name_fn code___sutureref1_Reader__name_body).1
def K___sutureref1_Reader__name (v : V) (s : Sig) : Option (ByteArray × (List T) × Int × Bool × Int) := Option.bind (V.strOf v) fun u0 => Option.bind (cellsN 4 s 0) fun g0 => Option.bind (V.lstOf (g0.getD 0 .any)) fun g1 => Option.bind (V.intOf .i64 (g0.getD 1 .any)) fun g2 => Option.bind (V.boolOf (g0.getD 2 .any)) fun g3 => Option.bind (V.intOf .i64 (g0.getD 3 .any)) fun g4 => some (u0, g1, g2, g3, g4)
theorem K___sutureref1_Reader__name_wk {v : V} {s : Sig} {r : ByteArray × (List T) × Int × Bool × Int} (h : K___sutureref1_Reader__name v s = some r) : Wk v (enc___sutureref1_Reader__name r) ∧ WkS 1 s (encS___sutureref1_Reader__name r) := by
  unfold K___sutureref1_Reader__name at h
  obtain ⟨u0, hu0, h⟩ := Option.bind_eq_some_iff.1 h
  obtain ⟨g0, hg0, h⟩ := Option.bind_eq_some_iff.1 h
  obtain ⟨g1, hg1, h⟩ := Option.bind_eq_some_iff.1 h
  obtain ⟨g2, hg2, h⟩ := Option.bind_eq_some_iff.1 h
  obtain ⟨g3, hg3, h⟩ := Option.bind_eq_some_iff.1 h
  obtain ⟨g4, hg4, h⟩ := Option.bind_eq_some_iff.1 h
  simp only [Option.some.injEq] at h
  subst h
  exact ⟨(strOf_wk hu0), (wkR_sig (WkR.cons (cellsN_wk hg0 (.cons (lstOf_wk hg1) (.cons (intOf_wk hg2) (.cons (boolOf_wk hg3) (.cons (intOf_wk hg4) .nil))))).1 (cellsN_wk hg0 (.cons (lstOf_wk hg1) (.cons (intOf_wk hg2) (.cons (boolOf_wk hg3) (.cons (intOf_wk hg4) .nil))))).2 (renL_mem (.cons rfl (.cons rfl (.cons rfl (.cons rfl .nil))))) (WkR.nil _)) rfl)⟩
theorem m___sutureref1_Reader__name_eq (n : Nat) (a0 : List T) (a1 : Int) (a2 : Bool) (a3 : Int) : mF Try.prog (sp___sutureref1_Reader__name n) 38 [(V.ptr 0 0)] [some [(V.t (T.list a0)), (V.t (T.sc (.int .i64 a1))), (V.t (T.sc (.bool a2))), (V.t (T.sc (.int .i64 a3)))]] K___sutureref1_Reader__name = m___sutureref1_Reader__name n a0 a1 a2 a3 := by kernel_rfl
theorem m___sutureref1_Reader__name_ok (n : Nat) : ok___sutureref1_Reader__name (m___sutureref1_Reader__name n) := fun a0 a1 a2 a3 r h => mF_ok sound (sp___sutureref1_Reader__name_ok n) code___sutureref1_Reader__name_fn code___sutureref1_Reader__name_body (fun a ha => absurd ha (by rw [show loopsOf code___sutureref1_Reader__name = [] from by kernel_rfl]; simp)) (no_scope (by kernel_rfl)) ((m___sutureref1_Reader__name_eq n a0 a1 a2 a3).trans h) (fun v s hk => ⟨(K___sutureref1_Reader__name_wk hk).1, rfl, (K___sutureref1_Reader__name_wk hk).2⟩)


end Go.Proofs.Ytgpokdaacbjimab.W
