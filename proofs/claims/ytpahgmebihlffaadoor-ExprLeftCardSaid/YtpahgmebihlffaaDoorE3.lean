/- What the engine's walk comes to, printed by a program of this work: for each function its model, and that it is one. No conditions. -/
import Derived.Test.YtpahgmebihlffaaDoorE2
namespace Go.Proofs.YtpahgmebihlffaaDoor.W
open Go Go.Eng
set_option linter.unusedVariables false
set_option linter.unusedSimpArgs false
set_option maxRecDepth 100000

/-! suture/lex.IsName -/
def m_lex_IsName (n : Nat) (a0 : ByteArray) : Option (Bool) :=
Option.bind (bif (!(ByteArray.toList a0 == ByteArray.toList (⟨#[]⟩ : ByteArray))) then m_lex_word n a0 else some 0) fun r0 =>
Option.bind (bif (bif (!(ByteArray.toList a0 == ByteArray.toList (⟨#[]⟩ : ByteArray))) then ((r0 : Int) == ((ByteArray.size a0 : Nat) : Int)) else false) then m_lex_Keyword n a0 else some false) fun r1 =>
some (bif (bif (!(ByteArray.toList a0 == ByteArray.toList (⟨#[]⟩ : ByteArray))) then ((r0 : Int) == ((ByteArray.size a0 : Nat) : Int)) else false) then (!r1) else false)
def enc_lex_IsName (r : Bool) : V := (V.t (T.sc (.bool r)))
def encS_lex_IsName (r : Bool) : Sig := []
def ok_lex_IsName (m : ByteArray → Option (Bool)) : Prop := ∀ (a0 : ByteArray) (r : Bool), m a0 = some r → FuncOk Tryd.prog 57 [(V.t (T.sc (.string a0)))] [] (enc_lex_IsName r) (encS_lex_IsName r)
def c_lex_IsName (m : ByteArray → Option (Bool)) (vs : List V) (sg : Sig) : Option CallM := bif Nat.beq vs.length 1 && Nat.beq sg.length 0 then Option.bind (V.strOf (vs.getD 0 .any)) fun u0 => some { α := Bool, m := m u0, dflt := false, enc := fun y => ((V.t (T.sc (.bool y))), []) } else none
theorem c_lex_IsName_ok (m : ByteArray → Option (Bool)) (hm : ok_lex_IsName m) (vs : List V) (sg : Sig) (cm : CallM) (x : cm.α) (h : c_lex_IsName m vs sg = some cm) (hx : cm.m = some x) : FuncOk Tryd.prog 57 vs sg (cm.enc x).1 (cm.enc x).2 := by
  unfold c_lex_IsName at h
  have h0 := callee_sig h
  clear h
  obtain ⟨hl, hs, h⟩ := h0
  obtain ⟨u0, hu0, h⟩ := Option.bind_eq_some_iff.1 h
  simp only [Option.some.injEq] at h
  subst h
  exact (hm u0 x hx).wk (args_wk hl (.cons (strOf_wk hu0) .nil)) (wkSg_of hs .nil)
noncomputable def code_lex_IsName : Code := Tryd.f57.body.getD .skip
noncomputable def sp_lex_IsName (n : Nat) : Go.Eng.Spec := ⟨fun f vs sg => (match f with
    | 28 => c_lex_word (m_lex_word n) vs sg
    | 67 => c_lex_Keyword (m_lex_Keyword n) vs sg
    | _ => none), fun R key E sg K => (match key with
    | _ => none)⟩
theorem sp_lex_IsName_ok (n : Nat) : CallsOk Tryd.prog (sp_lex_IsName n) := by
  intro f vs sg cm x h hx
  simp only [sp_lex_IsName] at h
  split at h
  · exact c_lex_word_ok _ (m_lex_word_ok n) vs sg cm x h hx
  · exact c_lex_Keyword_ok _ (m_lex_Keyword_ok n) vs sg cm x h hx
  · cases h
theorem code_lex_IsName_fn : Tryd.prog.funcs[57]? = some Tryd.f57 := Tryd.func57
theorem code_lex_IsName_body : Tryd.f57.body = some code_lex_IsName := by kernel_rfl
theorem code_lex_IsName_ok : CodeOk Tryd.prog code_lex_IsName := (sound 57 _ _ code_lex_IsName_fn code_lex_IsName_body).1
def K_lex_IsName (v : V) (s : Sig) : Option (Bool) := Option.bind (V.boolOf v) fun u0 => some u0
theorem K_lex_IsName_wk {v : V} {s : Sig} {r : Bool} (h : K_lex_IsName v s = some r) : Wk v (enc_lex_IsName r) ∧ WkS 0 s (encS_lex_IsName r) := by
  unfold K_lex_IsName at h
  obtain ⟨u0, hu0, h⟩ := Option.bind_eq_some_iff.1 h
  simp only [Option.some.injEq] at h
  subst h
  exact ⟨(boolOf_wk hu0), (WkS.none _)⟩
theorem m_lex_IsName_eq (n : Nat) (a0 : ByteArray) : mF Tryd.prog (sp_lex_IsName n) 57 [(V.t (T.sc (.string a0)))] [] K_lex_IsName = m_lex_IsName n a0 := by kernel_rfl
theorem m_lex_IsName_ok (n : Nat) : ok_lex_IsName (m_lex_IsName n) := fun a0 r h => mF_ok sound (sp_lex_IsName_ok n) code_lex_IsName_fn code_lex_IsName_body (fun a ha => absurd ha (by rw [show loopsOf code_lex_IsName = [] from by kernel_rfl]; simp)) (no_scope (by kernel_rfl)) ((m_lex_IsName_eq n a0).trans h) (fun v s hk => ⟨(K_lex_IsName_wk hk).1, rfl, (K_lex_IsName_wk hk).2⟩)


/-! (*suture/expr.reader).fail -/
def m___expr_reader__fail (n : Nat) (a0 : List T) (a1 : Int) (a2 : Bool) : Option (Int × Int × ByteArray × (List T) × (List T) × Int × Bool) :=
some (0, 0, (⟨#[]⟩ : ByteArray), ([] : List T), a0, a1, true)
def enc___expr_reader__fail (r : Int × Int × ByteArray × (List T) × (List T) × Int × Bool) : V := (V.agg [(V.t (T.sc (.int .i64 r.1))), (V.t (T.sc (.int .i64 r.2.1))), (V.t (T.sc (.string r.2.2.1))), (V.t (T.list r.2.2.2.1))])
def encS___expr_reader__fail (r : Int × Int × ByteArray × (List T) × (List T) × Int × Bool) : Sig := [some [(V.t (T.list r.2.2.2.2.1)), (V.t (T.sc (.int .i64 r.2.2.2.2.2.1))), (V.t (T.sc (.bool r.2.2.2.2.2.2)))]]
def ok___expr_reader__fail (m : List T → Int → Bool → Option (Int × Int × ByteArray × (List T) × (List T) × Int × Bool)) : Prop := ∀ (a0 : List T) (a1 : Int) (a2 : Bool) (r : Int × Int × ByteArray × (List T) × (List T) × Int × Bool), m a0 a1 a2 = some r → FuncOk Tryd.prog 58 [(V.ptr 0 0)] [some [(V.t (T.list a0)), (V.t (T.sc (.int .i64 a1))), (V.t (T.sc (.bool a2)))]] (enc___expr_reader__fail r) (encS___expr_reader__fail r)
def c___expr_reader__fail (m : List T → Int → Bool → Option (Int × Int × ByteArray × (List T) × (List T) × Int × Bool)) (vs : List V) (sg : Sig) : Option CallM := bif Nat.beq vs.length 1 && Nat.beq sg.length 1 then Option.bind (V.ptrOf 0 0 (vs.getD 0 .any)) fun u0 => Option.bind (cellsN 3 sg 0) fun g0 => Option.bind (V.lstOf (g0.getD 0 .any)) fun g1 => Option.bind (V.intOf .i64 (g0.getD 1 .any)) fun g2 => Option.bind (V.boolOf (g0.getD 2 .any)) fun g3 => some { α := Int × Int × ByteArray × (List T) × (List T) × Int × Bool, m := m g1 g2 g3, dflt := (0, 0, default, [], [], 0, false), enc := fun y => ((V.agg [(V.t (T.sc (.int .i64 y.1))), (V.t (T.sc (.int .i64 y.2.1))), (V.t (T.sc (.string y.2.2.1))), (V.t (T.list y.2.2.2.1))]), [some [(V.t (T.list y.2.2.2.2.1)), (V.t (T.sc (.int .i64 y.2.2.2.2.2.1))), (V.t (T.sc (.bool y.2.2.2.2.2.2)))]]) } else none
theorem c___expr_reader__fail_ok (m : List T → Int → Bool → Option (Int × Int × ByteArray × (List T) × (List T) × Int × Bool)) (hm : ok___expr_reader__fail m) (vs : List V) (sg : Sig) (cm : CallM) (x : cm.α) (h : c___expr_reader__fail m vs sg = some cm) (hx : cm.m = some x) : FuncOk Tryd.prog 58 vs sg (cm.enc x).1 (cm.enc x).2 := by
  unfold c___expr_reader__fail at h
  have h0 := callee_sig h
  clear h
  obtain ⟨hl, hs, h⟩ := h0
  obtain ⟨u0, hu0, h⟩ := Option.bind_eq_some_iff.1 h
  obtain ⟨g0, hg0, h⟩ := Option.bind_eq_some_iff.1 h
  obtain ⟨g1, hg1, h⟩ := Option.bind_eq_some_iff.1 h
  obtain ⟨g2, hg2, h⟩ := Option.bind_eq_some_iff.1 h
  obtain ⟨g3, hg3, h⟩ := Option.bind_eq_some_iff.1 h
  simp only [Option.some.injEq] at h
  subst h
  exact (hm g1 g2 g3 x hx).wk (args_wk hl (.cons (ptrOf_wk hu0) .nil)) (wkSg_of hs (.cons (cellsN_wk hg0 (.cons (lstOf_wk hg1) (.cons (intOf_wk hg2) (.cons (boolOf_wk hg3) .nil)))) .nil))
noncomputable def code___expr_reader__fail : Code := Tryd.f58.body.getD .skip
noncomputable def sp___expr_reader__fail (n : Nat) : Go.Eng.Spec := ⟨fun f vs sg => (match f with
    | _ => none), fun R key E sg K => (match key with
    | _ => none)⟩
theorem sp___expr_reader__fail_ok (n : Nat) : CallsOk Tryd.prog (sp___expr_reader__fail n) := by
  intro f vs sg cm x h hx
  have h : (none : Option CallM) = some cm := h
  cases h
theorem code___expr_reader__fail_fn : Tryd.prog.funcs[58]? = some Tryd.f58 := Tryd.func58
theorem code___expr_reader__fail_body : Tryd.f58.body = some code___expr_reader__fail := by kernel_rfl
theorem code___expr_reader__fail_ok : CodeOk Tryd.prog code___expr_reader__fail := (sound 58 _ _ code___expr_reader__fail_fn code___expr_reader__fail_body).1
def K___expr_reader__fail (v : V) (s : Sig) : Option (Int × Int × ByteArray × (List T) × (List T) × Int × Bool) := Option.bind (V.aggN 4 v) fun u0 => Option.bind (V.intOf .i64 (u0.getD 0 .any)) fun u1 => Option.bind (V.intOf .i64 (u0.getD 1 .any)) fun u2 => Option.bind (V.strOf (u0.getD 2 .any)) fun u3 => Option.bind (V.lstOf (u0.getD 3 .any)) fun u4 => Option.bind (cellsN 3 s 0) fun g0 => Option.bind (V.lstOf (g0.getD 0 .any)) fun g1 => Option.bind (V.intOf .i64 (g0.getD 1 .any)) fun g2 => Option.bind (V.boolOf (g0.getD 2 .any)) fun g3 => some (u1, u2, u3, u4, g1, g2, g3)
theorem K___expr_reader__fail_wk {v : V} {s : Sig} {r : Int × Int × ByteArray × (List T) × (List T) × Int × Bool} (h : K___expr_reader__fail v s = some r) : Wk v (enc___expr_reader__fail r) ∧ WkS 1 s (encS___expr_reader__fail r) := by
  unfold K___expr_reader__fail at h
  obtain ⟨u0, hu0, h⟩ := Option.bind_eq_some_iff.1 h
  obtain ⟨u1, hu1, h⟩ := Option.bind_eq_some_iff.1 h
  obtain ⟨u2, hu2, h⟩ := Option.bind_eq_some_iff.1 h
  obtain ⟨u3, hu3, h⟩ := Option.bind_eq_some_iff.1 h
  obtain ⟨u4, hu4, h⟩ := Option.bind_eq_some_iff.1 h
  obtain ⟨g0, hg0, h⟩ := Option.bind_eq_some_iff.1 h
  obtain ⟨g1, hg1, h⟩ := Option.bind_eq_some_iff.1 h
  obtain ⟨g2, hg2, h⟩ := Option.bind_eq_some_iff.1 h
  obtain ⟨g3, hg3, h⟩ := Option.bind_eq_some_iff.1 h
  simp only [Option.some.injEq] at h
  subst h
  exact ⟨(aggN_wk hu0 (.cons (intOf_wk hu1) (.cons (intOf_wk hu2) (.cons (strOf_wk hu3) (.cons (lstOf_wk hu4) .nil))))), (wkR_sig (WkR.cons (cellsN_wk hg0 (.cons (lstOf_wk hg1) (.cons (intOf_wk hg2) (.cons (boolOf_wk hg3) .nil)))).1 (cellsN_wk hg0 (.cons (lstOf_wk hg1) (.cons (intOf_wk hg2) (.cons (boolOf_wk hg3) .nil)))).2 (renL_mem (.cons rfl (.cons rfl (.cons rfl .nil)))) (WkR.nil _)) rfl)⟩
theorem m___expr_reader__fail_eq (n : Nat) (a0 : List T) (a1 : Int) (a2 : Bool) : mF Tryd.prog (sp___expr_reader__fail n) 58 [(V.ptr 0 0)] [some [(V.t (T.list a0)), (V.t (T.sc (.int .i64 a1))), (V.t (T.sc (.bool a2)))]] K___expr_reader__fail = m___expr_reader__fail n a0 a1 a2 := by kernel_rfl
theorem m___expr_reader__fail_ok (n : Nat) : ok___expr_reader__fail (m___expr_reader__fail n) := fun a0 a1 a2 r h => mF_ok sound (sp___expr_reader__fail_ok n) code___expr_reader__fail_fn code___expr_reader__fail_body (fun a ha => absurd ha (by rw [show loopsOf code___expr_reader__fail = [] from by kernel_rfl]; simp)) (no_scope (by kernel_rfl)) ((m___expr_reader__fail_eq n a0 a1 a2).trans h) (fun v s hk => ⟨(K___expr_reader__fail_wk hk).1, rfl, (K___expr_reader__fail_wk hk).2⟩)


/-! suture/expr.operator: from elsewhere -/
def m_expr_operator (n : Nat) (a0 : Int) (a1 : ByteArray) (a2 : Int) (a3 : Nat × Nat) (a4 : Int) : Option (Int) := opM a0 a1 a4
def enc_expr_operator (r : Int) : V := (V.t (T.sc (.int .i64 r)))
def encS_expr_operator (r : Int) : Sig := []
def ok_expr_operator (m : Int → ByteArray → Int → Nat × Nat → Int → Option (Int)) : Prop := ∀ (a0 : Int) (a1 : ByteArray) (a2 : Int) (a3 : Nat × Nat) (a4 : Int) (r : Int), m a0 a1 a2 a3 a4 = some r → FuncOk Tryd.prog 44 [(V.agg [(V.t (T.sc (.int .i64 a0))), (V.t (T.sc (.string a1))), (V.t (T.sc (.int .i64 a2))), (V.t (T.sc (.complex .f64 a3.1 a3.2)))]), (V.t (T.sc (.int .i64 a4)))] [] (enc_expr_operator r) (encS_expr_operator r)
def c_expr_operator (m : Int → ByteArray → Int → Nat × Nat → Int → Option (Int)) (vs : List V) (sg : Sig) : Option CallM := bif Nat.beq vs.length 2 && Nat.beq sg.length 0 then Option.bind (V.aggN 4 (vs.getD 0 .any)) fun u0 => Option.bind (V.intOf .i64 (u0.getD 0 .any)) fun u1 => Option.bind (V.strOf (u0.getD 1 .any)) fun u2 => Option.bind (V.intOf .i64 (u0.getD 2 .any)) fun u3 => Option.bind (V.cplxOf .f64 (u0.getD 3 .any)) fun u4 => Option.bind (V.intOf .i64 (vs.getD 1 .any)) fun u5 => some { α := Int, m := m u1 u2 u3 u4 u5, dflt := 0, enc := fun y => ((V.t (T.sc (.int .i64 y))), []) } else none
theorem c_expr_operator_ok (m : Int → ByteArray → Int → Nat × Nat → Int → Option (Int)) (hm : ok_expr_operator m) (vs : List V) (sg : Sig) (cm : CallM) (x : cm.α) (h : c_expr_operator m vs sg = some cm) (hx : cm.m = some x) : FuncOk Tryd.prog 44 vs sg (cm.enc x).1 (cm.enc x).2 := by
  unfold c_expr_operator at h
  have h0 := callee_sig h
  clear h
  obtain ⟨hl, hs, h⟩ := h0
  obtain ⟨u0, hu0, h⟩ := Option.bind_eq_some_iff.1 h
  obtain ⟨u1, hu1, h⟩ := Option.bind_eq_some_iff.1 h
  obtain ⟨u2, hu2, h⟩ := Option.bind_eq_some_iff.1 h
  obtain ⟨u3, hu3, h⟩ := Option.bind_eq_some_iff.1 h
  obtain ⟨u4, hu4, h⟩ := Option.bind_eq_some_iff.1 h
  obtain ⟨u5, hu5, h⟩ := Option.bind_eq_some_iff.1 h
  simp only [Option.some.injEq] at h
  subst h
  exact (hm u1 u2 u3 u4 u5 x hx).wk (args_wk hl (.cons (aggN_wk hu0 (.cons (intOf_wk hu1) (.cons (strOf_wk hu2) (.cons (intOf_wk hu3) (.cons (cplxOf_wk hu4) .nil))))) (.cons (intOf_wk hu5) .nil))) (wkSg_of hs .nil)
theorem m_expr_operator_ok (n : Nat) : ok_expr_operator (m_expr_operator n) := fun a0 a1 a2 a3 a4 r h => x_expr_operator h


/-! __expr_reader__level, __expr_reader__factor: a circle -/
structure B___expr_reader__level where
  __expr_reader__level : Int → Int → List T → Int → Bool → Option (Int × Int × ByteArray × (List T) × (List T) × Int × Bool)
  __expr_reader__factor : Int → List T → Int → Bool → Option (Int × Int × ByteArray × (List T) × (List T) × Int × Bool)
def enc___expr_reader__level (r : Int × Int × ByteArray × (List T) × (List T) × Int × Bool) : V := (V.agg [(V.t (T.sc (.int .i64 r.1))), (V.t (T.sc (.int .i64 r.2.1))), (V.t (T.sc (.string r.2.2.1))), (V.t (T.list r.2.2.2.1))])
def encS___expr_reader__level (r : Int × Int × ByteArray × (List T) × (List T) × Int × Bool) : Sig := [some [(V.t (T.list r.2.2.2.2.1)), (V.t (T.sc (.int .i64 r.2.2.2.2.2.1))), (V.t (T.sc (.bool r.2.2.2.2.2.2)))]]
def ok___expr_reader__level (m : Int → Int → List T → Int → Bool → Option (Int × Int × ByteArray × (List T) × (List T) × Int × Bool)) : Prop := ∀ (a0 : Int) (a1 : Int) (a2 : List T) (a3 : Int) (a4 : Bool) (r : Int × Int × ByteArray × (List T) × (List T) × Int × Bool), m a0 a1 a2 a3 a4 = some r → FuncOk Tryd.prog 32 [(V.ptr 0 0), (V.t (T.sc (.int .i64 a0))), (V.t (T.sc (.int .i64 a1)))] [some [(V.t (T.list a2)), (V.t (T.sc (.int .i64 a3))), (V.t (T.sc (.bool a4)))]] (enc___expr_reader__level r) (encS___expr_reader__level r)
def c___expr_reader__level (m : Int → Int → List T → Int → Bool → Option (Int × Int × ByteArray × (List T) × (List T) × Int × Bool)) (vs : List V) (sg : Sig) : Option CallM := bif Nat.beq vs.length 3 && Nat.beq sg.length 1 then Option.bind (V.ptrOf 0 0 (vs.getD 0 .any)) fun u0 => Option.bind (V.intOf .i64 (vs.getD 1 .any)) fun u1 => Option.bind (V.intOf .i64 (vs.getD 2 .any)) fun u2 => Option.bind (cellsN 3 sg 0) fun g0 => Option.bind (V.lstOf (g0.getD 0 .any)) fun g1 => Option.bind (V.intOf .i64 (g0.getD 1 .any)) fun g2 => Option.bind (V.boolOf (g0.getD 2 .any)) fun g3 => some { α := Int × Int × ByteArray × (List T) × (List T) × Int × Bool, m := m u1 u2 g1 g2 g3, dflt := (0, 0, default, [], [], 0, false), enc := fun y => ((V.agg [(V.t (T.sc (.int .i64 y.1))), (V.t (T.sc (.int .i64 y.2.1))), (V.t (T.sc (.string y.2.2.1))), (V.t (T.list y.2.2.2.1))]), [some [(V.t (T.list y.2.2.2.2.1)), (V.t (T.sc (.int .i64 y.2.2.2.2.2.1))), (V.t (T.sc (.bool y.2.2.2.2.2.2)))]]) } else none
theorem c___expr_reader__level_ok (m : Int → Int → List T → Int → Bool → Option (Int × Int × ByteArray × (List T) × (List T) × Int × Bool)) (hm : ok___expr_reader__level m) (vs : List V) (sg : Sig) (cm : CallM) (x : cm.α) (h : c___expr_reader__level m vs sg = some cm) (hx : cm.m = some x) : FuncOk Tryd.prog 32 vs sg (cm.enc x).1 (cm.enc x).2 := by
  unfold c___expr_reader__level at h
  have h0 := callee_sig h
  clear h
  obtain ⟨hl, hs, h⟩ := h0
  obtain ⟨u0, hu0, h⟩ := Option.bind_eq_some_iff.1 h
  obtain ⟨u1, hu1, h⟩ := Option.bind_eq_some_iff.1 h
  obtain ⟨u2, hu2, h⟩ := Option.bind_eq_some_iff.1 h
  obtain ⟨g0, hg0, h⟩ := Option.bind_eq_some_iff.1 h
  obtain ⟨g1, hg1, h⟩ := Option.bind_eq_some_iff.1 h
  obtain ⟨g2, hg2, h⟩ := Option.bind_eq_some_iff.1 h
  obtain ⟨g3, hg3, h⟩ := Option.bind_eq_some_iff.1 h
  simp only [Option.some.injEq] at h
  subst h
  exact (hm u1 u2 g1 g2 g3 x hx).wk (args_wk hl (.cons (ptrOf_wk hu0) (.cons (intOf_wk hu1) (.cons (intOf_wk hu2) .nil)))) (wkSg_of hs (.cons (cellsN_wk hg0 (.cons (lstOf_wk hg1) (.cons (intOf_wk hg2) (.cons (boolOf_wk hg3) .nil)))) .nil))
def enc___expr_reader__factor (r : Int × Int × ByteArray × (List T) × (List T) × Int × Bool) : V := (V.agg [(V.t (T.sc (.int .i64 r.1))), (V.t (T.sc (.int .i64 r.2.1))), (V.t (T.sc (.string r.2.2.1))), (V.t (T.list r.2.2.2.1))])
def encS___expr_reader__factor (r : Int × Int × ByteArray × (List T) × (List T) × Int × Bool) : Sig := [some [(V.t (T.list r.2.2.2.2.1)), (V.t (T.sc (.int .i64 r.2.2.2.2.2.1))), (V.t (T.sc (.bool r.2.2.2.2.2.2)))]]
def ok___expr_reader__factor (m : Int → List T → Int → Bool → Option (Int × Int × ByteArray × (List T) × (List T) × Int × Bool)) : Prop := ∀ (a0 : Int) (a1 : List T) (a2 : Int) (a3 : Bool) (r : Int × Int × ByteArray × (List T) × (List T) × Int × Bool), m a0 a1 a2 a3 = some r → FuncOk Tryd.prog 43 [(V.ptr 0 0), (V.t (T.sc (.int .i64 a0)))] [some [(V.t (T.list a1)), (V.t (T.sc (.int .i64 a2))), (V.t (T.sc (.bool a3)))]] (enc___expr_reader__factor r) (encS___expr_reader__factor r)
def c___expr_reader__factor (m : Int → List T → Int → Bool → Option (Int × Int × ByteArray × (List T) × (List T) × Int × Bool)) (vs : List V) (sg : Sig) : Option CallM := bif Nat.beq vs.length 2 && Nat.beq sg.length 1 then Option.bind (V.ptrOf 0 0 (vs.getD 0 .any)) fun u0 => Option.bind (V.intOf .i64 (vs.getD 1 .any)) fun u1 => Option.bind (cellsN 3 sg 0) fun g0 => Option.bind (V.lstOf (g0.getD 0 .any)) fun g1 => Option.bind (V.intOf .i64 (g0.getD 1 .any)) fun g2 => Option.bind (V.boolOf (g0.getD 2 .any)) fun g3 => some { α := Int × Int × ByteArray × (List T) × (List T) × Int × Bool, m := m u1 g1 g2 g3, dflt := (0, 0, default, [], [], 0, false), enc := fun y => ((V.agg [(V.t (T.sc (.int .i64 y.1))), (V.t (T.sc (.int .i64 y.2.1))), (V.t (T.sc (.string y.2.2.1))), (V.t (T.list y.2.2.2.1))]), [some [(V.t (T.list y.2.2.2.2.1)), (V.t (T.sc (.int .i64 y.2.2.2.2.2.1))), (V.t (T.sc (.bool y.2.2.2.2.2.2)))]]) } else none
theorem c___expr_reader__factor_ok (m : Int → List T → Int → Bool → Option (Int × Int × ByteArray × (List T) × (List T) × Int × Bool)) (hm : ok___expr_reader__factor m) (vs : List V) (sg : Sig) (cm : CallM) (x : cm.α) (h : c___expr_reader__factor m vs sg = some cm) (hx : cm.m = some x) : FuncOk Tryd.prog 43 vs sg (cm.enc x).1 (cm.enc x).2 := by
  unfold c___expr_reader__factor at h
  have h0 := callee_sig h
  clear h
  obtain ⟨hl, hs, h⟩ := h0
  obtain ⟨u0, hu0, h⟩ := Option.bind_eq_some_iff.1 h
  obtain ⟨u1, hu1, h⟩ := Option.bind_eq_some_iff.1 h
  obtain ⟨g0, hg0, h⟩ := Option.bind_eq_some_iff.1 h
  obtain ⟨g1, hg1, h⟩ := Option.bind_eq_some_iff.1 h
  obtain ⟨g2, hg2, h⟩ := Option.bind_eq_some_iff.1 h
  obtain ⟨g3, hg3, h⟩ := Option.bind_eq_some_iff.1 h
  simp only [Option.some.injEq] at h
  subst h
  exact (hm u1 g1 g2 g3 x hx).wk (args_wk hl (.cons (ptrOf_wk hu0) (.cons (intOf_wk hu1) .nil))) (wkSg_of hs (.cons (cellsN_wk hg0 (.cons (lstOf_wk hg1) (.cons (intOf_wk hg2) (.cons (boolOf_wk hg3) .nil)))) .nil))
structure B___expr_reader__level_ok (b : B___expr_reader__level) : Prop where
  __expr_reader__level : ok___expr_reader__level b.__expr_reader__level
  __expr_reader__factor : ok___expr_reader__factor b.__expr_reader__factor

/-! (*suture/expr.reader).level -/
def l___expr_reader__level_4_B (b : B___expr_reader__level) (n : Nat) (k : Int × Int × (List T) × Int × Bool × Int × Int × ByteArray × (List T) × Int × Int × ByteArray × (List T) → Option ((List T) × Int × Bool × Int × Int × ByteArray × (List T) × Int × Int × ByteArray × (List T))) : Int × Int × (List T) × Int × Bool × Int × Int × ByteArray × (List T) × Int × Int × ByteArray × (List T) → Option ((List T) × Int × Bool × Int × Int × ByteArray × (List T) × Int × Int × ByteArray × (List T)) := fun (s0, s1, s2, s3, s4, s5, s6, s7, s8, s9, s10, s11, s12) =>
bif (!s4) then (
Option.bind (idx true [.int .i64, .str, .int .i64, .cplx .f64] s2 s3) fun y2 =>
Option.bind (m_expr_operator n (y2.cell 0).int (y2.cell 1).str (y2.cell 2).int ((y2.cell 3).re, (y2.cell 3).im) s0) fun r3 =>
bif ((r3 : Int) == 0) then (
some (s2, s3, s4, s5, s6, s7, s8, s9, s10, s11, s12))
else (
Option.bind (b.__expr_reader__level (IntKind.wrap .i64 (s0 + 1)) s1 s2 (IntKind.wrap .i64 (s3 + 1)) s4) fun r4 =>
bif ((s0 : Int) == 0) then (
some (r4.2.2.2.2.1, r4.2.2.2.2.2.1, r4.2.2.2.2.2.2, s5, s6, s7, s8, r3, 0, (⟨#[]⟩ : ByteArray), [(T.agg [(T.sc (.int .i64 s9)), (T.sc (.int .i64 s10)), (T.sc (.string s11)), (T.list s12)]), (T.agg [(T.sc (.int .i64 r4.1)), (T.sc (.int .i64 r4.2.1)), (T.sc (.string r4.2.2.1)), (T.list r4.2.2.2.1)])]))
else (
k (s0, s1, r4.2.2.2.2.1, r4.2.2.2.2.2.1, r4.2.2.2.2.2.2, s5, s6, s7, s8, r3, 0, (⟨#[]⟩ : ByteArray), [(T.agg [(T.sc (.int .i64 s9)), (T.sc (.int .i64 s10)), (T.sc (.string s11)), (T.list s12)]), (T.agg [(T.sc (.int .i64 r4.1)), (T.sc (.int .i64 r4.2.1)), (T.sc (.string r4.2.2.1)), (T.list r4.2.2.2.1)])]))))
else (
some (s2, s3, s4, s5, s6, s7, s8, s9, s10, s11, s12))
def l___expr_reader__level_4 (b : B___expr_reader__level) (n : Nat) : Nat → Int × Int × (List T) × Int × Bool × Int × Int × ByteArray × (List T) × Int × Int × ByteArray × (List T) → Option ((List T) × Int × Bool × Int × Int × ByteArray × (List T) × Int × Int × ByteArray × (List T))
  | 0, _ => none
  | m + 1, s => l___expr_reader__level_4_B b n (l___expr_reader__level_4 b n m) s
def f___expr_reader__level (b : B___expr_reader__level) (n : Nat) (a0 : Int) (a1 : Int) (a2 : List T) (a3 : Int) (a4 : Bool) : Option (Int × Int × ByteArray × (List T) × (List T) × Int × Bool) :=
bif ((a0 : Int) == 3) then (
Option.bind (b.__expr_reader__factor a1 a2 a3 a4) fun r0 =>
some (r0.1, r0.2.1, r0.2.2.1, r0.2.2.2.1, r0.2.2.2.2.1, r0.2.2.2.2.2.1, r0.2.2.2.2.2.2))
else (
Option.bind (b.__expr_reader__level (IntKind.wrap .i64 (a0 + 1)) a1 a2 a3 a4) fun r1 =>
Option.bind (l___expr_reader__level_4 b n n (a0, a1, r1.2.2.2.2.1, r1.2.2.2.2.2.1, r1.2.2.2.2.2.2, 0, 0, (⟨#[]⟩ : ByteArray), ([] : List T), r1.1, r1.2.1, r1.2.2.1, r1.2.2.2.1)) fun p6 =>
some (p6.2.2.2.2.2.2.2.1, p6.2.2.2.2.2.2.2.2.1, p6.2.2.2.2.2.2.2.2.2.1, p6.2.2.2.2.2.2.2.2.2.2, p6.1, p6.2.1, p6.2.2.1))
noncomputable def code___expr_reader__level : Code := Tryd.f32.body.getD .skip
def l___expr_reader__level_4_S (b : B___expr_reader__level) (n : Nat) (R : Type) (E : SEnv) (sg : Sig) (K : Ex → SEnv → Sig → Option R) : Option R := Option.bind (V.ptrOf 0 0 (SEnv.at E 0)) fun u0 => Option.bind (V.intOf .i64 (SEnv.at E 1)) fun u1 => Option.bind (V.intOf .i64 (SEnv.at E 2)) fun u2 => Option.bind (V.ptrOf 1 0 (SEnv.at E 6)) fun u3 => Option.bind (V.ptrOf 2 0 (SEnv.at E 7)) fun u4 => Option.bind (cellsN 3 sg 0) fun u5 => Option.bind (V.lstOf (u5.getD 0 .any)) fun u6 => Option.bind (V.intOf .i64 (u5.getD 1 .any)) fun u7 => Option.bind (V.boolOf (u5.getD 2 .any)) fun u8 => Option.bind (cellsN 4 sg 1) fun u9 => Option.bind (V.intOf .i64 (u9.getD 0 .any)) fun u10 => Option.bind (V.intOf .i64 (u9.getD 1 .any)) fun u11 => Option.bind (V.strOf (u9.getD 2 .any)) fun u12 => Option.bind (V.ownOf 0 (u9.getD 3 .any)) fun u13 => Option.bind (cellsN 4 sg 2) fun u14 => Option.bind (V.intOf .i64 (u14.getD 0 .any)) fun u15 => Option.bind (V.intOf .i64 (u14.getD 1 .any)) fun u16 => Option.bind (V.strOf (u14.getD 2 .any)) fun u17 => Option.bind (V.lstOf (u14.getD 3 .any)) fun u18 => Option.bind (l___expr_reader__level_4 b n n (u1, u2, u6, u7, u8, u10, u11, u12, u13, u15, u16, u17, u18)) fun p0 => K (.exit 0) [(6, (V.ptr 1 0)), (7, (V.ptr 2 0))] [some [(V.t (T.list p0.1)), (V.t (T.sc (.int .i64 p0.2.1))), (V.t (T.sc (.bool p0.2.2.1)))], some [(V.t (T.sc (.int .i64 p0.2.2.2.1))), (V.t (T.sc (.int .i64 p0.2.2.2.2.1))), (V.t (T.sc (.string p0.2.2.2.2.2.1))), (V.own 0 p0.2.2.2.2.2.2.1)], some [(V.t (T.sc (.int .i64 p0.2.2.2.2.2.2.2.1))), (V.t (T.sc (.int .i64 p0.2.2.2.2.2.2.2.2.1))), (V.t (T.sc (.string p0.2.2.2.2.2.2.2.2.2.1))), (V.t (T.list p0.2.2.2.2.2.2.2.2.2.2))]]
noncomputable def sp___expr_reader__level (b : B___expr_reader__level) (n : Nat) : Go.Eng.Spec := ⟨fun f vs sg => (match f with
    | 43 => c___expr_reader__factor b.__expr_reader__factor vs sg
    | 32 => c___expr_reader__level b.__expr_reader__level vs sg
    | 44 => c_expr_operator (m_expr_operator n) vs sg
    | _ => none), fun R key E sg K => (match key with
    | 4 => l___expr_reader__level_4_S b n R E sg K
    | _ => none)⟩
theorem sp___expr_reader__level_ok (b : B___expr_reader__level) (hb : B___expr_reader__level_ok b) (n : Nat) : CallsOk Tryd.prog (sp___expr_reader__level b n) := by
  intro f vs sg cm x h hx
  simp only [sp___expr_reader__level] at h
  split at h
  · exact c___expr_reader__factor_ok _ hb.__expr_reader__factor vs sg cm x h hx
  · exact c___expr_reader__level_ok _ hb.__expr_reader__level vs sg cm x h hx
  · exact c_expr_operator_ok _ (m_expr_operator_ok n) vs sg cm x h hx
  · cases h
theorem code___expr_reader__level_fn : Tryd.prog.funcs[32]? = some Tryd.f32 := Tryd.func32
theorem code___expr_reader__level_body : Tryd.f32.body = some code___expr_reader__level := by kernel_rfl
theorem code___expr_reader__level_ok : CodeOk Tryd.prog code___expr_reader__level := (sound 32 _ _ code___expr_reader__level_fn code___expr_reader__level_body).1
noncomputable def code_l___expr_reader__level_4 : Code := (loopsOf code___expr_reader__level).getD 0 .skip
theorem code_l___expr_reader__level_4_ok : CodeOk Tryd.prog code_l___expr_reader__level_4 := codeOk_loops code___expr_reader__level_ok _ (getD_mem (by kernel_rfl))
def l___expr_reader__level_4_K (k : Int × Int × (List T) × Int × Bool × Int × Int × ByteArray × (List T) × Int × Int × ByteArray × (List T) → Option ((List T) × Int × Bool × Int × Int × ByteArray × (List T) × Int × Int × ByteArray × (List T))) : Ex → SEnv → Sig → Option ((List T) × Int × Bool × Int × Int × ByteArray × (List T) × Int × Int × ByteArray × (List T)) := fun x E sg => match x with
  | .normal => Option.bind (V.ptrOf 0 0 (SEnv.at E 0)) fun u0 => Option.bind (V.intOf .i64 (SEnv.at E 1)) fun u1 => Option.bind (V.intOf .i64 (SEnv.at E 2)) fun u2 => Option.bind (V.ptrOf 1 0 (SEnv.at E 6)) fun u3 => Option.bind (V.ptrOf 2 0 (SEnv.at E 7)) fun u4 => Option.bind (cellsN 3 sg 0) fun u5 => Option.bind (V.lstOf (u5.getD 0 .any)) fun u6 => Option.bind (V.intOf .i64 (u5.getD 1 .any)) fun u7 => Option.bind (V.boolOf (u5.getD 2 .any)) fun u8 => Option.bind (cellsN 4 sg 1) fun u9 => Option.bind (V.intOf .i64 (u9.getD 0 .any)) fun u10 => Option.bind (V.intOf .i64 (u9.getD 1 .any)) fun u11 => Option.bind (V.strOf (u9.getD 2 .any)) fun u12 => Option.bind (V.ownOf 0 (u9.getD 3 .any)) fun u13 => Option.bind (cellsN 4 sg 2) fun u14 => Option.bind (V.intOf .i64 (u14.getD 0 .any)) fun u15 => Option.bind (V.intOf .i64 (u14.getD 1 .any)) fun u16 => Option.bind (V.strOf (u14.getD 2 .any)) fun u17 => Option.bind (V.lstOf (u14.getD 3 .any)) fun u18 => k (u1, u2, u6, u7, u8, u10, u11, u12, u13, u15, u16, u17, u18)
  | (.exit 0) => Option.bind (V.ptrOf 1 0 (SEnv.at E 6)) fun u0 => Option.bind (V.ptrOf 2 0 (SEnv.at E 7)) fun u1 => Option.bind (cellsN 3 sg 0) fun u2 => Option.bind (V.lstOf (u2.getD 0 .any)) fun u3 => Option.bind (V.intOf .i64 (u2.getD 1 .any)) fun u4 => Option.bind (V.boolOf (u2.getD 2 .any)) fun u5 => Option.bind (cellsN 4 sg 1) fun u6 => Option.bind (V.intOf .i64 (u6.getD 0 .any)) fun u7 => Option.bind (V.intOf .i64 (u6.getD 1 .any)) fun u8 => Option.bind (V.strOf (u6.getD 2 .any)) fun u9 => Option.bind (V.ownOf 0 (u6.getD 3 .any)) fun u10 => Option.bind (cellsN 4 sg 2) fun u11 => Option.bind (V.intOf .i64 (u11.getD 0 .any)) fun u12 => Option.bind (V.intOf .i64 (u11.getD 1 .any)) fun u13 => Option.bind (V.strOf (u11.getD 2 .any)) fun u14 => Option.bind (V.lstOf (u11.getD 3 .any)) fun u15 => some (u3, u4, u5, u7, u8, u9, u10, u12, u13, u14, u15)
  | _ => none
theorem l___expr_reader__level_4_eq (b : B___expr_reader__level) (n : Nat) (k : Int × Int × (List T) × Int × Bool × Int × Int × ByteArray × (List T) × Int × Int × ByteArray × (List T) → Option ((List T) × Int × Bool × Int × Int × ByteArray × (List T) × Int × Int × ByteArray × (List T))) (s0 : Int) (s1 : Int) (s2 : List T) (s3 : Int) (s4 : Bool) (s5 : Int) (s6 : Int) (s7 : ByteArray) (s8 : List T) (s9 : Int) (s10 : Int) (s11 : ByteArray) (s12 : List T) : mX Tryd.prog (sp___expr_reader__level b n) 57 code_l___expr_reader__level_4 [(0, (V.ptr 0 0)), (1, (V.t (T.sc (.int .i64 s0)))), (2, (V.t (T.sc (.int .i64 s1)))), (6, (V.ptr 1 0)), (7, (V.ptr 2 0))] [some [(V.t (T.list s2)), (V.t (T.sc (.int .i64 s3))), (V.t (T.sc (.bool s4)))], some [(V.t (T.sc (.int .i64 s5))), (V.t (T.sc (.int .i64 s6))), (V.t (T.sc (.string s7))), (V.own 0 s8)], some [(V.t (T.sc (.int .i64 s9))), (V.t (T.sc (.int .i64 s10))), (V.t (T.sc (.string s11))), (V.t (T.list s12))]] (l___expr_reader__level_4_K k) = l___expr_reader__level_4_B b n k (s0, s1, s2, s3, s4, s5, s6, s7, s8, s9, s10, s11, s12) := by kernel_rfl
def l___expr_reader__level_4_Q (x : (List T) × Int × Bool × Int × Int × ByteArray × (List T) × Int × Int × ByteArray × (List T)) (ex : Ex) (e : Env) (s : Sig) : Prop := (fun p0 => (ex = (.exit 0) ∧ e = SEnv.env 57 [(6, (V.ptr 1 0)), (7, (V.ptr 2 0))] ∧ s = [some [(V.t (T.list p0.1)), (V.t (T.sc (.int .i64 p0.2.1))), (V.t (T.sc (.bool p0.2.2.1)))], some [(V.t (T.sc (.int .i64 p0.2.2.2.1))), (V.t (T.sc (.int .i64 p0.2.2.2.2.1))), (V.t (T.sc (.string p0.2.2.2.2.2.1))), (V.own 0 p0.2.2.2.2.2.2.1)], some [(V.t (T.sc (.int .i64 p0.2.2.2.2.2.2.2.1))), (V.t (T.sc (.int .i64 p0.2.2.2.2.2.2.2.2.1))), (V.t (T.sc (.string p0.2.2.2.2.2.2.2.2.2.1))), (V.t (T.list p0.2.2.2.2.2.2.2.2.2.2))]])) x
theorem l___expr_reader__level_4_run (b : B___expr_reader__level) (hb : B___expr_reader__level_ok b) (n : Nat) : ∀ (m : Nat) (s0 : Int) (s1 : Int) (s2 : List T) (s3 : Int) (s4 : Bool) (s5 : Int) (s6 : Int) (s7 : ByteArray) (s8 : List T) (s9 : Int) (s10 : Int) (s11 : ByteArray) (s12 : List T) (x : (List T) × Int × Bool × Int × Int × ByteArray × (List T) × Int × Int × ByteArray × (List T)), l___expr_reader__level_4 b n m (s0, s1, s2, s3, s4, s5, s6, s7, s8, s9, s10, s11, s12) = some x → SemL Tryd.prog 1 code_l___expr_reader__level_4 (SEnv.env 57 [(0, (V.ptr 0 0)), (1, (V.t (T.sc (.int .i64 s0)))), (2, (V.t (T.sc (.int .i64 s1)))), (6, (V.ptr 1 0)), (7, (V.ptr 2 0))]) [some [(V.t (T.list s2)), (V.t (T.sc (.int .i64 s3))), (V.t (T.sc (.bool s4)))], some [(V.t (T.sc (.int .i64 s5))), (V.t (T.sc (.int .i64 s6))), (V.t (T.sc (.string s7))), (V.own 0 s8)], some [(V.t (T.sc (.int .i64 s9))), (V.t (T.sc (.int .i64 s10))), (V.t (T.sc (.string s11))), (V.t (T.list s12))]] (l___expr_reader__level_4_Q x)
  | 0, s0, s1, s2, s3, s4, s5, s6, s7, s8, s9, s10, s11, s12, x, h => by cases h
  | m + 1, s0, s1, s2, s3, s4, s5, s6, s7, s8, s9, s10, s11, s12, x, h => by
    refine loop_step (sp___expr_reader__level_ok b hb n) code_l___expr_reader__level_4_ok (fun a ha => absurd ha (by rw [show loopsOf code_l___expr_reader__level_4 = [] from by kernel_rfl]; simp)) (no_scope (by kernel_rfl)) ((l___expr_reader__level_4_eq b n _ s0 s1 s2 s3 s4 s5 s6 s7 s8 s9 s10 s11 s12).trans h) (fun E sg h => ?_) (fun ex E sg hne h => ?_)
    · simp only [l___expr_reader__level_4_K] at h
      obtain ⟨u0, hu0, h⟩ := Option.bind_eq_some_iff.1 h
      obtain ⟨u1, hu1, h⟩ := Option.bind_eq_some_iff.1 h
      obtain ⟨u2, hu2, h⟩ := Option.bind_eq_some_iff.1 h
      obtain ⟨u3, hu3, h⟩ := Option.bind_eq_some_iff.1 h
      obtain ⟨u4, hu4, h⟩ := Option.bind_eq_some_iff.1 h
      obtain ⟨u5, hu5, h⟩ := Option.bind_eq_some_iff.1 h
      obtain ⟨u6, hu6, h⟩ := Option.bind_eq_some_iff.1 h
      obtain ⟨u7, hu7, h⟩ := Option.bind_eq_some_iff.1 h
      obtain ⟨u8, hu8, h⟩ := Option.bind_eq_some_iff.1 h
      obtain ⟨u9, hu9, h⟩ := Option.bind_eq_some_iff.1 h
      obtain ⟨u10, hu10, h⟩ := Option.bind_eq_some_iff.1 h
      obtain ⟨u11, hu11, h⟩ := Option.bind_eq_some_iff.1 h
      obtain ⟨u12, hu12, h⟩ := Option.bind_eq_some_iff.1 h
      obtain ⟨u13, hu13, h⟩ := Option.bind_eq_some_iff.1 h
      obtain ⟨u14, hu14, h⟩ := Option.bind_eq_some_iff.1 h
      obtain ⟨u15, hu15, h⟩ := Option.bind_eq_some_iff.1 h
      obtain ⟨u16, hu16, h⟩ := Option.bind_eq_some_iff.1 h
      obtain ⟨u17, hu17, h⟩ := Option.bind_eq_some_iff.1 h
      obtain ⟨u18, hu18, h⟩ := Option.bind_eq_some_iff.1 h
      exact SemL.pre (k := 3) (by decide) (WkA.env (WkA.cons (ptrOf_wk hu0) rfl (WkA.cons (intOf_wk hu1) rfl (WkA.cons (intOf_wk hu2) rfl (WkA.cons (ptrOf_wk hu3) rfl (WkA.cons (ptrOf_wk hu4) rfl WkA.nil))))) 57) (wkR_sig (WkR.cons (cellsN_wk hu5 (.cons (lstOf_wk hu6) (.cons (intOf_wk hu7) (.cons (boolOf_wk hu8) .nil)))).1 (cellsN_wk hu5 (.cons (lstOf_wk hu6) (.cons (intOf_wk hu7) (.cons (boolOf_wk hu8) .nil)))).2 (renL_mem (.cons rfl (.cons rfl (.cons rfl .nil)))) (WkR.cons (cellsN_wk hu9 (.cons (intOf_wk hu10) (.cons (intOf_wk hu11) (.cons (strOf_wk hu12) (.cons (ownOf_wk hu13) .nil))))).1 (cellsN_wk hu9 (.cons (intOf_wk hu10) (.cons (intOf_wk hu11) (.cons (strOf_wk hu12) (.cons (ownOf_wk hu13) .nil))))).2 (renL_mem (.cons rfl (.cons rfl (.cons rfl (.cons rfl .nil))))) (WkR.cons (cellsN_wk hu14 (.cons (intOf_wk hu15) (.cons (intOf_wk hu16) (.cons (strOf_wk hu17) (.cons (lstOf_wk hu18) .nil))))).1 (cellsN_wk hu14 (.cons (intOf_wk hu15) (.cons (intOf_wk hu16) (.cons (strOf_wk hu17) (.cons (lstOf_wk hu18) .nil))))).2 (renL_mem (.cons rfl (.cons rfl (.cons rfl (.cons rfl .nil))))) (WkR.nil _)))) rfl) (l___expr_reader__level_4_run b hb n m _ _ _ _ _ _ _ _ _ _ _ _ _ x h)
    · unfold l___expr_reader__level_4_K at h
      split at h
      · exact absurd rfl hne
      · obtain ⟨u0, hu0, h⟩ := Option.bind_eq_some_iff.1 h
        obtain ⟨u1, hu1, h⟩ := Option.bind_eq_some_iff.1 h
        obtain ⟨u2, hu2, h⟩ := Option.bind_eq_some_iff.1 h
        obtain ⟨u3, hu3, h⟩ := Option.bind_eq_some_iff.1 h
        obtain ⟨u4, hu4, h⟩ := Option.bind_eq_some_iff.1 h
        obtain ⟨u5, hu5, h⟩ := Option.bind_eq_some_iff.1 h
        obtain ⟨u6, hu6, h⟩ := Option.bind_eq_some_iff.1 h
        obtain ⟨u7, hu7, h⟩ := Option.bind_eq_some_iff.1 h
        obtain ⟨u8, hu8, h⟩ := Option.bind_eq_some_iff.1 h
        obtain ⟨u9, hu9, h⟩ := Option.bind_eq_some_iff.1 h
        obtain ⟨u10, hu10, h⟩ := Option.bind_eq_some_iff.1 h
        obtain ⟨u11, hu11, h⟩ := Option.bind_eq_some_iff.1 h
        obtain ⟨u12, hu12, h⟩ := Option.bind_eq_some_iff.1 h
        obtain ⟨u13, hu13, h⟩ := Option.bind_eq_some_iff.1 h
        obtain ⟨u14, hu14, h⟩ := Option.bind_eq_some_iff.1 h
        obtain ⟨u15, hu15, h⟩ := Option.bind_eq_some_iff.1 h
        simp only [Option.some.injEq] at h
        subst h
        exact ⟨3, _, _, by decide, WkA.env (WkA.cons (ptrOf_wk hu0) rfl (WkA.cons (ptrOf_wk hu1) rfl WkA.nil)) 57, (wkR_sig (WkR.cons (cellsN_wk hu2 (.cons (lstOf_wk hu3) (.cons (intOf_wk hu4) (.cons (boolOf_wk hu5) .nil)))).1 (cellsN_wk hu2 (.cons (lstOf_wk hu3) (.cons (intOf_wk hu4) (.cons (boolOf_wk hu5) .nil)))).2 (renL_mem (.cons rfl (.cons rfl (.cons rfl .nil)))) (WkR.cons (cellsN_wk hu6 (.cons (intOf_wk hu7) (.cons (intOf_wk hu8) (.cons (strOf_wk hu9) (.cons (ownOf_wk hu10) .nil))))).1 (cellsN_wk hu6 (.cons (intOf_wk hu7) (.cons (intOf_wk hu8) (.cons (strOf_wk hu9) (.cons (ownOf_wk hu10) .nil))))).2 (renL_mem (.cons rfl (.cons rfl (.cons rfl (.cons rfl .nil))))) (WkR.cons (cellsN_wk hu11 (.cons (intOf_wk hu12) (.cons (intOf_wk hu13) (.cons (strOf_wk hu14) (.cons (lstOf_wk hu15) .nil))))).1 (cellsN_wk hu11 (.cons (intOf_wk hu12) (.cons (intOf_wk hu13) (.cons (strOf_wk hu14) (.cons (lstOf_wk hu15) .nil))))).2 (renL_mem (.cons rfl (.cons rfl (.cons rfl (.cons rfl .nil))))) (WkR.nil _)))) rfl), rfl, rfl, rfl⟩
      · cases h
theorem l___expr_reader__level_4_ok (b : B___expr_reader__level) (hb : B___expr_reader__level_ok b) (n : Nat) : LoopOk Tryd.prog (sp___expr_reader__level b n) 1 57 code_l___expr_reader__level_4 := by
    intro R key E sg K r hk h
    rw [show Go.Eng.keyOf code_l___expr_reader__level_4 = some 4 from by kernel_rfl] at hk
    cases hk
    have h : l___expr_reader__level_4_S b n R E sg K = some r := h
    unfold l___expr_reader__level_4_S at h
    obtain ⟨u0, hu0, h⟩ := Option.bind_eq_some_iff.1 h
    obtain ⟨u1, hu1, h⟩ := Option.bind_eq_some_iff.1 h
    obtain ⟨u2, hu2, h⟩ := Option.bind_eq_some_iff.1 h
    obtain ⟨u3, hu3, h⟩ := Option.bind_eq_some_iff.1 h
    obtain ⟨u4, hu4, h⟩ := Option.bind_eq_some_iff.1 h
    obtain ⟨u5, hu5, h⟩ := Option.bind_eq_some_iff.1 h
    obtain ⟨u6, hu6, h⟩ := Option.bind_eq_some_iff.1 h
    obtain ⟨u7, hu7, h⟩ := Option.bind_eq_some_iff.1 h
    obtain ⟨u8, hu8, h⟩ := Option.bind_eq_some_iff.1 h
    obtain ⟨u9, hu9, h⟩ := Option.bind_eq_some_iff.1 h
    obtain ⟨u10, hu10, h⟩ := Option.bind_eq_some_iff.1 h
    obtain ⟨u11, hu11, h⟩ := Option.bind_eq_some_iff.1 h
    obtain ⟨u12, hu12, h⟩ := Option.bind_eq_some_iff.1 h
    obtain ⟨u13, hu13, h⟩ := Option.bind_eq_some_iff.1 h
    obtain ⟨u14, hu14, h⟩ := Option.bind_eq_some_iff.1 h
    obtain ⟨u15, hu15, h⟩ := Option.bind_eq_some_iff.1 h
    obtain ⟨u16, hu16, h⟩ := Option.bind_eq_some_iff.1 h
    obtain ⟨u17, hu17, h⟩ := Option.bind_eq_some_iff.1 h
    obtain ⟨u18, hu18, h⟩ := Option.bind_eq_some_iff.1 h
    obtain ⟨x, hx, h⟩ := Option.bind_eq_some_iff.1 h
    refine (SemL.pre (k := 3) (by decide) (WkA.env (WkA.cons (ptrOf_wk hu0) rfl (WkA.cons (intOf_wk hu1) rfl (WkA.cons (intOf_wk hu2) rfl (WkA.cons (ptrOf_wk hu3) rfl (WkA.cons (ptrOf_wk hu4) rfl WkA.nil))))) 57) (wkR_sig (WkR.cons (cellsN_wk hu5 (.cons (lstOf_wk hu6) (.cons (intOf_wk hu7) (.cons (boolOf_wk hu8) .nil)))).1 (cellsN_wk hu5 (.cons (lstOf_wk hu6) (.cons (intOf_wk hu7) (.cons (boolOf_wk hu8) .nil)))).2 (renL_mem (.cons rfl (.cons rfl (.cons rfl .nil)))) (WkR.cons (cellsN_wk hu9 (.cons (intOf_wk hu10) (.cons (intOf_wk hu11) (.cons (strOf_wk hu12) (.cons (ownOf_wk hu13) .nil))))).1 (cellsN_wk hu9 (.cons (intOf_wk hu10) (.cons (intOf_wk hu11) (.cons (strOf_wk hu12) (.cons (ownOf_wk hu13) .nil))))).2 (renL_mem (.cons rfl (.cons rfl (.cons rfl (.cons rfl .nil))))) (WkR.cons (cellsN_wk hu14 (.cons (intOf_wk hu15) (.cons (intOf_wk hu16) (.cons (strOf_wk hu17) (.cons (lstOf_wk hu18) .nil))))).1 (cellsN_wk hu14 (.cons (intOf_wk hu15) (.cons (intOf_wk hu16) (.cons (strOf_wk hu17) (.cons (lstOf_wk hu18) .nil))))).2 (renL_mem (.cons rfl (.cons rfl (.cons rfl (.cons rfl .nil))))) (WkR.nil _)))) rfl) (l___expr_reader__level_4_run b hb n n _ _ _ _ _ _ _ _ _ _ _ _ _ x hx)).mono ?_
    intro ex e s hq
    obtain ⟨rfl, rfl, rfl⟩ := hq
    exact ⟨_, rfl, h⟩
def K___expr_reader__level (v : V) (s : Sig) : Option (Int × Int × ByteArray × (List T) × (List T) × Int × Bool) := Option.bind (V.aggN 4 v) fun u0 => Option.bind (V.intOf .i64 (u0.getD 0 .any)) fun u1 => Option.bind (V.intOf .i64 (u0.getD 1 .any)) fun u2 => Option.bind (V.strOf (u0.getD 2 .any)) fun u3 => Option.bind (V.lstOf (u0.getD 3 .any)) fun u4 => Option.bind (cellsN 3 s 0) fun g0 => Option.bind (V.lstOf (g0.getD 0 .any)) fun g1 => Option.bind (V.intOf .i64 (g0.getD 1 .any)) fun g2 => Option.bind (V.boolOf (g0.getD 2 .any)) fun g3 => some (u1, u2, u3, u4, g1, g2, g3)
theorem K___expr_reader__level_wk {v : V} {s : Sig} {r : Int × Int × ByteArray × (List T) × (List T) × Int × Bool} (h : K___expr_reader__level v s = some r) : Wk v (enc___expr_reader__level r) ∧ WkS 1 s (encS___expr_reader__level r) := by
  unfold K___expr_reader__level at h
  obtain ⟨u0, hu0, h⟩ := Option.bind_eq_some_iff.1 h
  obtain ⟨u1, hu1, h⟩ := Option.bind_eq_some_iff.1 h
  obtain ⟨u2, hu2, h⟩ := Option.bind_eq_some_iff.1 h
  obtain ⟨u3, hu3, h⟩ := Option.bind_eq_some_iff.1 h
  obtain ⟨u4, hu4, h⟩ := Option.bind_eq_some_iff.1 h
  obtain ⟨g0, hg0, h⟩ := Option.bind_eq_some_iff.1 h
  obtain ⟨g1, hg1, h⟩ := Option.bind_eq_some_iff.1 h
  obtain ⟨g2, hg2, h⟩ := Option.bind_eq_some_iff.1 h
  obtain ⟨g3, hg3, h⟩ := Option.bind_eq_some_iff.1 h
  simp only [Option.some.injEq] at h
  subst h
  exact ⟨(aggN_wk hu0 (.cons (intOf_wk hu1) (.cons (intOf_wk hu2) (.cons (strOf_wk hu3) (.cons (lstOf_wk hu4) .nil))))), (wkR_sig (WkR.cons (cellsN_wk hg0 (.cons (lstOf_wk hg1) (.cons (intOf_wk hg2) (.cons (boolOf_wk hg3) .nil)))).1 (cellsN_wk hg0 (.cons (lstOf_wk hg1) (.cons (intOf_wk hg2) (.cons (boolOf_wk hg3) .nil)))).2 (renL_mem (.cons rfl (.cons rfl (.cons rfl .nil)))) (WkR.nil _)) rfl)⟩
theorem f___expr_reader__level_eq (b : B___expr_reader__level) (n : Nat) (a0 : Int) (a1 : Int) (a2 : List T) (a3 : Int) (a4 : Bool) : mF Tryd.prog (sp___expr_reader__level b n) 32 [(V.ptr 0 0), (V.t (T.sc (.int .i64 a0))), (V.t (T.sc (.int .i64 a1)))] [some [(V.t (T.list a2)), (V.t (T.sc (.int .i64 a3))), (V.t (T.sc (.bool a4)))]] K___expr_reader__level = f___expr_reader__level b n a0 a1 a2 a3 a4 := by kernel_rfl
theorem f___expr_reader__level_ok (b : B___expr_reader__level) (hb : B___expr_reader__level_ok b) (n : Nat) : ok___expr_reader__level (f___expr_reader__level b n) := fun a0 a1 a2 a3 a4 r h => mF_ok sound (sp___expr_reader__level_ok b hb n) code___expr_reader__level_fn code___expr_reader__level_body (forall_getD (d := .skip) 1 (by kernel_rfl) (fun i hi => match i, hi with | 0, _ => l___expr_reader__level_4_ok b hb n | i + 1, hi => absurd hi (by omega))) (no_scope (by kernel_rfl)) ((f___expr_reader__level_eq b n a0 a1 a2 a3 a4).trans h) (fun v s hk => ⟨(K___expr_reader__level_wk hk).1, rfl, (K___expr_reader__level_wk hk).2⟩)

/-! (*suture/expr.reader).factor -/
def f___expr_reader__factor (b : B___expr_reader__level) (n : Nat) (a0 : Int) (a1 : List T) (a2 : Int) (a3 : Bool) : Option (Int × Int × ByteArray × (List T) × (List T) × Int × Bool) :=
Option.bind (idx true [.int .i64, .str, .int .i64, .cplx .f64] a1 a2) fun y0 =>
Option.bind (m___expr_reader__is n (⟨#[45]⟩ : ByteArray) a1 a2 a3) fun r1 =>
Option.bind (m___expr_reader__is n (⟨#[40]⟩ : ByteArray) r1.2.1 r1.2.2.1 r1.2.2.2) fun r2 =>
bif r2.2.2.2 then (
some (0, 0, (⟨#[]⟩ : ByteArray), ([] : List T), r2.2.1, r2.2.2.1, r2.2.2.2))
else (
bif (((y0.cell 0).int : Int) == 2) then (
some (1, (y0.cell 2).int, (⟨#[]⟩ : ByteArray), ([] : List T), r2.2.1, (IntKind.wrap .i64 (r2.2.2.1 + 1)), r2.2.2.2))
else (
Option.bind (bif (((y0.cell 0).int : Int) == 1) then m_lex_IsName n (y0.cell 1).str else some false) fun r3 =>
bif (bif (((y0.cell 0).int : Int) == 1) then r3 else false) then (
some (2, 0, (y0.cell 1).str, ([] : List T), r2.2.1, (IntKind.wrap .i64 (r2.2.2.1 + 1)), r2.2.2.2))
else (
bif (bif (bif (!r1.1) then (!r2.1) else false) then true else ((a0 : Int) == 8)) then (
Option.bind (m___expr_reader__fail n r2.2.1 r2.2.2.1 r2.2.2.2) fun r4 =>
some (r4.1, r4.2.1, r4.2.2.1, r4.2.2.2.1, r4.2.2.2.2.1, r4.2.2.2.2.2.1, r4.2.2.2.2.2.2))
else (
bif r1.1 then (
Option.bind (b.__expr_reader__factor (IntKind.wrap .i64 (a0 + 1)) r2.2.1 (IntKind.wrap .i64 (r2.2.2.1 + 1)) r2.2.2.2) fun r5 =>
some (3, 0, (⟨#[]⟩ : ByteArray), [(T.agg [(T.sc (.int .i64 r5.1)), (T.sc (.int .i64 r5.2.1)), (T.sc (.string r5.2.2.1)), (T.list r5.2.2.2.1)])], r5.2.2.2.2.1, r5.2.2.2.2.2.1, r5.2.2.2.2.2.2))
else (
Option.bind (b.__expr_reader__level 0 (IntKind.wrap .i64 (a0 + 1)) r2.2.1 (IntKind.wrap .i64 (r2.2.2.1 + 1)) r2.2.2.2) fun r6 =>
Option.bind (m___expr_reader__is n (⟨#[41]⟩ : ByteArray) r6.2.2.2.2.1 r6.2.2.2.2.2.1 r6.2.2.2.2.2.2) fun r7 =>
bif (!r7.1) then (
Option.bind (m___expr_reader__fail n r7.2.1 r7.2.2.1 r7.2.2.2) fun r8 =>
some (r8.1, r8.2.1, r8.2.2.1, r8.2.2.2.1, r8.2.2.2.2.1, r8.2.2.2.2.2.1, r8.2.2.2.2.2.2))
else (
some (r6.1, r6.2.1, r6.2.2.1, r6.2.2.2.1, r7.2.1, (IntKind.wrap .i64 (r7.2.2.1 + 1)), r7.2.2.2)))))))
noncomputable def code___expr_reader__factor : Code := Tryd.f43.body.getD .skip
noncomputable def sp___expr_reader__factor (b : B___expr_reader__level) (n : Nat) : Go.Eng.Spec := ⟨fun f vs sg => (match f with
    | 56 => c___expr_reader__is (m___expr_reader__is n) vs sg
    | 57 => c_lex_IsName (m_lex_IsName n) vs sg
    | 58 => c___expr_reader__fail (m___expr_reader__fail n) vs sg
    | 43 => c___expr_reader__factor b.__expr_reader__factor vs sg
    | 32 => c___expr_reader__level b.__expr_reader__level vs sg
    | _ => none), fun R key E sg K => (match key with
    | _ => none)⟩
theorem sp___expr_reader__factor_ok (b : B___expr_reader__level) (hb : B___expr_reader__level_ok b) (n : Nat) : CallsOk Tryd.prog (sp___expr_reader__factor b n) := by
  intro f vs sg cm x h hx
  simp only [sp___expr_reader__factor] at h
  split at h
  · exact c___expr_reader__is_ok _ (m___expr_reader__is_ok n) vs sg cm x h hx
  · exact c_lex_IsName_ok _ (m_lex_IsName_ok n) vs sg cm x h hx
  · exact c___expr_reader__fail_ok _ (m___expr_reader__fail_ok n) vs sg cm x h hx
  · exact c___expr_reader__factor_ok _ hb.__expr_reader__factor vs sg cm x h hx
  · exact c___expr_reader__level_ok _ hb.__expr_reader__level vs sg cm x h hx
  · cases h
theorem code___expr_reader__factor_fn : Tryd.prog.funcs[43]? = some Tryd.f43 := Tryd.func43
theorem code___expr_reader__factor_body : Tryd.f43.body = some code___expr_reader__factor := by kernel_rfl
theorem code___expr_reader__factor_ok : CodeOk Tryd.prog code___expr_reader__factor := (sound 43 _ _ code___expr_reader__factor_fn code___expr_reader__factor_body).1
def K___expr_reader__factor (v : V) (s : Sig) : Option (Int × Int × ByteArray × (List T) × (List T) × Int × Bool) := Option.bind (V.aggN 4 v) fun u0 => Option.bind (V.intOf .i64 (u0.getD 0 .any)) fun u1 => Option.bind (V.intOf .i64 (u0.getD 1 .any)) fun u2 => Option.bind (V.strOf (u0.getD 2 .any)) fun u3 => Option.bind (V.lstOf (u0.getD 3 .any)) fun u4 => Option.bind (cellsN 3 s 0) fun g0 => Option.bind (V.lstOf (g0.getD 0 .any)) fun g1 => Option.bind (V.intOf .i64 (g0.getD 1 .any)) fun g2 => Option.bind (V.boolOf (g0.getD 2 .any)) fun g3 => some (u1, u2, u3, u4, g1, g2, g3)
theorem K___expr_reader__factor_wk {v : V} {s : Sig} {r : Int × Int × ByteArray × (List T) × (List T) × Int × Bool} (h : K___expr_reader__factor v s = some r) : Wk v (enc___expr_reader__factor r) ∧ WkS 1 s (encS___expr_reader__factor r) := by
  unfold K___expr_reader__factor at h
  obtain ⟨u0, hu0, h⟩ := Option.bind_eq_some_iff.1 h
  obtain ⟨u1, hu1, h⟩ := Option.bind_eq_some_iff.1 h
  obtain ⟨u2, hu2, h⟩ := Option.bind_eq_some_iff.1 h
  obtain ⟨u3, hu3, h⟩ := Option.bind_eq_some_iff.1 h
  obtain ⟨u4, hu4, h⟩ := Option.bind_eq_some_iff.1 h
  obtain ⟨g0, hg0, h⟩ := Option.bind_eq_some_iff.1 h
  obtain ⟨g1, hg1, h⟩ := Option.bind_eq_some_iff.1 h
  obtain ⟨g2, hg2, h⟩ := Option.bind_eq_some_iff.1 h
  obtain ⟨g3, hg3, h⟩ := Option.bind_eq_some_iff.1 h
  simp only [Option.some.injEq] at h
  subst h
  exact ⟨(aggN_wk hu0 (.cons (intOf_wk hu1) (.cons (intOf_wk hu2) (.cons (strOf_wk hu3) (.cons (lstOf_wk hu4) .nil))))), (wkR_sig (WkR.cons (cellsN_wk hg0 (.cons (lstOf_wk hg1) (.cons (intOf_wk hg2) (.cons (boolOf_wk hg3) .nil)))).1 (cellsN_wk hg0 (.cons (lstOf_wk hg1) (.cons (intOf_wk hg2) (.cons (boolOf_wk hg3) .nil)))).2 (renL_mem (.cons rfl (.cons rfl (.cons rfl .nil)))) (WkR.nil _)) rfl)⟩
theorem f___expr_reader__factor_eq (b : B___expr_reader__level) (n : Nat) (a0 : Int) (a1 : List T) (a2 : Int) (a3 : Bool) : mF Tryd.prog (sp___expr_reader__factor b n) 43 [(V.ptr 0 0), (V.t (T.sc (.int .i64 a0)))] [some [(V.t (T.list a1)), (V.t (T.sc (.int .i64 a2))), (V.t (T.sc (.bool a3)))]] K___expr_reader__factor = f___expr_reader__factor b n a0 a1 a2 a3 := by kernel_rfl
theorem f___expr_reader__factor_ok (b : B___expr_reader__level) (hb : B___expr_reader__level_ok b) (n : Nat) : ok___expr_reader__factor (f___expr_reader__factor b n) := fun a0 a1 a2 a3 r h => mF_ok sound (sp___expr_reader__factor_ok b hb n) code___expr_reader__factor_fn code___expr_reader__factor_body (fun a ha => absurd ha (by rw [show loopsOf code___expr_reader__factor = [] from by kernel_rfl]; simp)) (no_scope (by kernel_rfl)) ((f___expr_reader__factor_eq b n a0 a1 a2 a3).trans h) (fun v s hk => ⟨(K___expr_reader__factor_wk hk).1, rfl, (K___expr_reader__factor_wk hk).2⟩)
def unB___expr_reader__level (n : Nat) : Nat → B___expr_reader__level
  | 0 => { __expr_reader__level := fun _ _ _ _ _ => none, __expr_reader__factor := fun _ _ _ _ => none }
  | m + 1 => { __expr_reader__level := f___expr_reader__level (unB___expr_reader__level n m) n, __expr_reader__factor := f___expr_reader__factor (unB___expr_reader__level n m) n }
theorem unB___expr_reader__level_ok (n : Nat) : ∀ m, B___expr_reader__level_ok (unB___expr_reader__level n m)
  | 0 => { __expr_reader__level := fun _ _ _ _ _ _ h => (nomatch (show none = some _ from h)), __expr_reader__factor := fun _ _ _ _ _ h => (nomatch (show none = some _ from h)) }
  | m + 1 => { __expr_reader__level := f___expr_reader__level_ok _ (unB___expr_reader__level_ok n m) n, __expr_reader__factor := f___expr_reader__factor_ok _ (unB___expr_reader__level_ok n m) n }
def m___expr_reader__level (n : Nat) : Int → Int → List T → Int → Bool → Option (Int × Int × ByteArray × (List T) × (List T) × Int × Bool) := (unB___expr_reader__level n n).__expr_reader__level
theorem m___expr_reader__level_ok (n : Nat) : ok___expr_reader__level (m___expr_reader__level n) := (unB___expr_reader__level_ok n n).__expr_reader__level
def m___expr_reader__factor (n : Nat) : Int → List T → Int → Bool → Option (Int × Int × ByteArray × (List T) × (List T) × Int × Bool) := (unB___expr_reader__level n n).__expr_reader__factor
theorem m___expr_reader__factor_ok (n : Nat) : ok___expr_reader__factor (m___expr_reader__factor n) := (unB___expr_reader__level_ok n n).__expr_reader__factor


/-! suture/expr.Read -/
def m_expr_Read (n : Nat) (a0 : List T) (a1 : Int) : Option (Int × Int × ByteArray × (List T) × Int × Bool) :=
Option.bind (m___expr_reader__level n 0 0 a0 a1 false) fun r0 =>
bif r0.2.2.2.2.2.2 then (
some (0, 0, (⟨#[]⟩ : ByteArray), ([] : List T), r0.2.2.2.2.2.1, false))
else (
some (r0.1, r0.2.1, r0.2.2.1, r0.2.2.2.1, r0.2.2.2.2.2.1, true))
def enc_expr_Read (r : Int × Int × ByteArray × (List T) × Int × Bool) : V := (V.tup [(V.agg [(V.t (T.sc (.int .i64 r.1))), (V.t (T.sc (.int .i64 r.2.1))), (V.t (T.sc (.string r.2.2.1))), (V.t (T.list r.2.2.2.1))]), (V.t (T.sc (.int .i64 r.2.2.2.2.1))), (V.t (T.sc (.bool r.2.2.2.2.2)))])
def encS_expr_Read (r : Int × Int × ByteArray × (List T) × Int × Bool) : Sig := []
def ok_expr_Read (m : List T → Int → Option (Int × Int × ByteArray × (List T) × Int × Bool)) : Prop := ∀ (a0 : List T) (a1 : Int) (r : Int × Int × ByteArray × (List T) × Int × Bool), m a0 a1 = some r → FuncOk Tryd.prog 16 [(V.t (T.list a0)), (V.t (T.sc (.int .i64 a1)))] [] (enc_expr_Read r) (encS_expr_Read r)
def c_expr_Read (m : List T → Int → Option (Int × Int × ByteArray × (List T) × Int × Bool)) (vs : List V) (sg : Sig) : Option CallM := bif Nat.beq vs.length 2 && Nat.beq sg.length 0 then Option.bind (V.lstOf (vs.getD 0 .any)) fun u0 => Option.bind (V.intOf .i64 (vs.getD 1 .any)) fun u1 => some { α := Int × Int × ByteArray × (List T) × Int × Bool, m := m u0 u1, dflt := (0, 0, default, [], 0, false), enc := fun y => ((V.tup [(V.agg [(V.t (T.sc (.int .i64 y.1))), (V.t (T.sc (.int .i64 y.2.1))), (V.t (T.sc (.string y.2.2.1))), (V.t (T.list y.2.2.2.1))]), (V.t (T.sc (.int .i64 y.2.2.2.2.1))), (V.t (T.sc (.bool y.2.2.2.2.2)))]), []) } else none
theorem c_expr_Read_ok (m : List T → Int → Option (Int × Int × ByteArray × (List T) × Int × Bool)) (hm : ok_expr_Read m) (vs : List V) (sg : Sig) (cm : CallM) (x : cm.α) (h : c_expr_Read m vs sg = some cm) (hx : cm.m = some x) : FuncOk Tryd.prog 16 vs sg (cm.enc x).1 (cm.enc x).2 := by
  unfold c_expr_Read at h
  have h0 := callee_sig h
  clear h
  obtain ⟨hl, hs, h⟩ := h0
  obtain ⟨u0, hu0, h⟩ := Option.bind_eq_some_iff.1 h
  obtain ⟨u1, hu1, h⟩ := Option.bind_eq_some_iff.1 h
  simp only [Option.some.injEq] at h
  subst h
  exact (hm u0 u1 x hx).wk (args_wk hl (.cons (lstOf_wk hu0) (.cons (intOf_wk hu1) .nil))) (wkSg_of hs .nil)
noncomputable def code_expr_Read : Code := Tryd.f16.body.getD .skip
noncomputable def sp_expr_Read (n : Nat) : Go.Eng.Spec := ⟨fun f vs sg => (match f with
    | 32 => c___expr_reader__level (m___expr_reader__level n) vs sg
    | _ => none), fun R key E sg K => (match key with
    | _ => none)⟩
theorem sp_expr_Read_ok (n : Nat) : CallsOk Tryd.prog (sp_expr_Read n) := by
  intro f vs sg cm x h hx
  simp only [sp_expr_Read] at h
  split at h
  · exact c___expr_reader__level_ok _ (m___expr_reader__level_ok n) vs sg cm x h hx
  · cases h
theorem code_expr_Read_fn : Tryd.prog.funcs[16]? = some Tryd.f16 := Tryd.func16
theorem code_expr_Read_body : Tryd.f16.body = some code_expr_Read := by kernel_rfl
theorem code_expr_Read_ok : CodeOk Tryd.prog code_expr_Read := (sound 16 _ _ code_expr_Read_fn code_expr_Read_body).1
def K_expr_Read (v : V) (s : Sig) : Option (Int × Int × ByteArray × (List T) × Int × Bool) := Option.bind (V.tupN 3 v) fun u0 => Option.bind (V.aggN 4 (u0.getD 0 .any)) fun u1 => Option.bind (V.intOf .i64 (u1.getD 0 .any)) fun u2 => Option.bind (V.intOf .i64 (u1.getD 1 .any)) fun u3 => Option.bind (V.strOf (u1.getD 2 .any)) fun u4 => Option.bind (V.lstOf (u1.getD 3 .any)) fun u5 => Option.bind (V.intOf .i64 (u0.getD 1 .any)) fun u6 => Option.bind (V.boolOf (u0.getD 2 .any)) fun u7 => some (u2, u3, u4, u5, u6, u7)
theorem K_expr_Read_wk {v : V} {s : Sig} {r : Int × Int × ByteArray × (List T) × Int × Bool} (h : K_expr_Read v s = some r) : Wk v (enc_expr_Read r) ∧ WkS 0 s (encS_expr_Read r) := by
  unfold K_expr_Read at h
  obtain ⟨u0, hu0, h⟩ := Option.bind_eq_some_iff.1 h
  obtain ⟨u1, hu1, h⟩ := Option.bind_eq_some_iff.1 h
  obtain ⟨u2, hu2, h⟩ := Option.bind_eq_some_iff.1 h
  obtain ⟨u3, hu3, h⟩ := Option.bind_eq_some_iff.1 h
  obtain ⟨u4, hu4, h⟩ := Option.bind_eq_some_iff.1 h
  obtain ⟨u5, hu5, h⟩ := Option.bind_eq_some_iff.1 h
  obtain ⟨u6, hu6, h⟩ := Option.bind_eq_some_iff.1 h
  obtain ⟨u7, hu7, h⟩ := Option.bind_eq_some_iff.1 h
  simp only [Option.some.injEq] at h
  subst h
  exact ⟨(tupN_wk hu0 (.cons (aggN_wk hu1 (.cons (intOf_wk hu2) (.cons (intOf_wk hu3) (.cons (strOf_wk hu4) (.cons (lstOf_wk hu5) .nil))))) (.cons (intOf_wk hu6) (.cons (boolOf_wk hu7) .nil)))), (WkS.none _)⟩
theorem m_expr_Read_eq (n : Nat) (a0 : List T) (a1 : Int) : mF Tryd.prog (sp_expr_Read n) 16 [(V.t (T.list a0)), (V.t (T.sc (.int .i64 a1)))] [] K_expr_Read = m_expr_Read n a0 a1 := by kernel_rfl
theorem m_expr_Read_ok (n : Nat) : ok_expr_Read (m_expr_Read n) := fun a0 a1 r h => mF_ok sound (sp_expr_Read_ok n) code_expr_Read_fn code_expr_Read_body (fun a ha => absurd ha (by rw [show loopsOf code_expr_Read = [] from by kernel_rfl]; simp)) (no_scope (by kernel_rfl)) ((m_expr_Read_eq n a0 a1).trans h) (fun v s hk => ⟨(K_expr_Read_wk hk).1, rfl, (K_expr_Read_wk hk).2⟩)


/-! suture/suturelaw4.read -/
def m_suturelaw4_read (n : Nat) (a0 : ByteArray) : Option (Int × Int × ByteArray × (List T) × Int × Bool × Int) :=
Option.bind (m_lex_Tokens n a0) fun r0 =>
bif (bif ((r0.2.2 : Int) != 0) then true else ((((List.length r0.1 : Nat) : Int) : Int) == 0)) then (
some (0, 0, (⟨#[]⟩ : ByteArray), ([] : List T), 0, false, 0))
else (
Option.bind (m_expr_Read n r0.1 0) fun r1 =>
some (r1.1, r1.2.1, r1.2.2.1, r1.2.2.2.1, r1.2.2.2.2.1, r1.2.2.2.2.2, ((List.length r0.1 : Nat) : Int)))
def enc_suturelaw4_read (r : Int × Int × ByteArray × (List T) × Int × Bool × Int) : V := (V.tup [(V.agg [(V.t (T.sc (.int .i64 r.1))), (V.t (T.sc (.int .i64 r.2.1))), (V.t (T.sc (.string r.2.2.1))), (V.t (T.list r.2.2.2.1))]), (V.t (T.sc (.int .i64 r.2.2.2.2.1))), (V.t (T.sc (.bool r.2.2.2.2.2.1))), (V.t (T.sc (.int .i64 r.2.2.2.2.2.2)))])
def encS_suturelaw4_read (r : Int × Int × ByteArray × (List T) × Int × Bool × Int) : Sig := []
def ok_suturelaw4_read (m : ByteArray → Option (Int × Int × ByteArray × (List T) × Int × Bool × Int)) : Prop := ∀ (a0 : ByteArray) (r : Int × Int × ByteArray × (List T) × Int × Bool × Int), m a0 = some r → FuncOk Tryd.prog 7 [(V.t (T.sc (.string a0)))] [] (enc_suturelaw4_read r) (encS_suturelaw4_read r)
def c_suturelaw4_read (m : ByteArray → Option (Int × Int × ByteArray × (List T) × Int × Bool × Int)) (vs : List V) (sg : Sig) : Option CallM := bif Nat.beq vs.length 1 && Nat.beq sg.length 0 then Option.bind (V.strOf (vs.getD 0 .any)) fun u0 => some { α := Int × Int × ByteArray × (List T) × Int × Bool × Int, m := m u0, dflt := (0, 0, default, [], 0, false, 0), enc := fun y => ((V.tup [(V.agg [(V.t (T.sc (.int .i64 y.1))), (V.t (T.sc (.int .i64 y.2.1))), (V.t (T.sc (.string y.2.2.1))), (V.t (T.list y.2.2.2.1))]), (V.t (T.sc (.int .i64 y.2.2.2.2.1))), (V.t (T.sc (.bool y.2.2.2.2.2.1))), (V.t (T.sc (.int .i64 y.2.2.2.2.2.2)))]), []) } else none
theorem c_suturelaw4_read_ok (m : ByteArray → Option (Int × Int × ByteArray × (List T) × Int × Bool × Int)) (hm : ok_suturelaw4_read m) (vs : List V) (sg : Sig) (cm : CallM) (x : cm.α) (h : c_suturelaw4_read m vs sg = some cm) (hx : cm.m = some x) : FuncOk Tryd.prog 7 vs sg (cm.enc x).1 (cm.enc x).2 := by
  unfold c_suturelaw4_read at h
  have h0 := callee_sig h
  clear h
  obtain ⟨hl, hs, h⟩ := h0
  obtain ⟨u0, hu0, h⟩ := Option.bind_eq_some_iff.1 h
  simp only [Option.some.injEq] at h
  subst h
  exact (hm u0 x hx).wk (args_wk hl (.cons (strOf_wk hu0) .nil)) (wkSg_of hs .nil)
noncomputable def code_suturelaw4_read : Code := Tryd.f7.body.getD .skip
noncomputable def sp_suturelaw4_read (n : Nat) : Go.Eng.Spec := ⟨fun f vs sg => (match f with
    | 15 => c_lex_Tokens (m_lex_Tokens n) vs sg
    | 16 => c_expr_Read (m_expr_Read n) vs sg
    | _ => none), fun R key E sg K => (match key with
    | _ => none)⟩
theorem sp_suturelaw4_read_ok (n : Nat) : CallsOk Tryd.prog (sp_suturelaw4_read n) := by
  intro f vs sg cm x h hx
  simp only [sp_suturelaw4_read] at h
  split at h
  · exact c_lex_Tokens_ok _ (m_lex_Tokens_ok n) vs sg cm x h hx
  · exact c_expr_Read_ok _ (m_expr_Read_ok n) vs sg cm x h hx
  · cases h
theorem code_suturelaw4_read_fn : Tryd.prog.funcs[7]? = some Tryd.f7 := Tryd.func7
theorem code_suturelaw4_read_body : Tryd.f7.body = some code_suturelaw4_read := by kernel_rfl
theorem code_suturelaw4_read_ok : CodeOk Tryd.prog code_suturelaw4_read := (sound 7 _ _ code_suturelaw4_read_fn code_suturelaw4_read_body).1
def K_suturelaw4_read (v : V) (s : Sig) : Option (Int × Int × ByteArray × (List T) × Int × Bool × Int) := Option.bind (V.tupN 4 v) fun u0 => Option.bind (V.aggN 4 (u0.getD 0 .any)) fun u1 => Option.bind (V.intOf .i64 (u1.getD 0 .any)) fun u2 => Option.bind (V.intOf .i64 (u1.getD 1 .any)) fun u3 => Option.bind (V.strOf (u1.getD 2 .any)) fun u4 => Option.bind (V.lstOf (u1.getD 3 .any)) fun u5 => Option.bind (V.intOf .i64 (u0.getD 1 .any)) fun u6 => Option.bind (V.boolOf (u0.getD 2 .any)) fun u7 => Option.bind (V.intOf .i64 (u0.getD 3 .any)) fun u8 => some (u2, u3, u4, u5, u6, u7, u8)
theorem K_suturelaw4_read_wk {v : V} {s : Sig} {r : Int × Int × ByteArray × (List T) × Int × Bool × Int} (h : K_suturelaw4_read v s = some r) : Wk v (enc_suturelaw4_read r) ∧ WkS 0 s (encS_suturelaw4_read r) := by
  unfold K_suturelaw4_read at h
  obtain ⟨u0, hu0, h⟩ := Option.bind_eq_some_iff.1 h
  obtain ⟨u1, hu1, h⟩ := Option.bind_eq_some_iff.1 h
  obtain ⟨u2, hu2, h⟩ := Option.bind_eq_some_iff.1 h
  obtain ⟨u3, hu3, h⟩ := Option.bind_eq_some_iff.1 h
  obtain ⟨u4, hu4, h⟩ := Option.bind_eq_some_iff.1 h
  obtain ⟨u5, hu5, h⟩ := Option.bind_eq_some_iff.1 h
  obtain ⟨u6, hu6, h⟩ := Option.bind_eq_some_iff.1 h
  obtain ⟨u7, hu7, h⟩ := Option.bind_eq_some_iff.1 h
  obtain ⟨u8, hu8, h⟩ := Option.bind_eq_some_iff.1 h
  simp only [Option.some.injEq] at h
  subst h
  exact ⟨(tupN_wk hu0 (.cons (aggN_wk hu1 (.cons (intOf_wk hu2) (.cons (intOf_wk hu3) (.cons (strOf_wk hu4) (.cons (lstOf_wk hu5) .nil))))) (.cons (intOf_wk hu6) (.cons (boolOf_wk hu7) (.cons (intOf_wk hu8) .nil))))), (WkS.none _)⟩
theorem m_suturelaw4_read_eq (n : Nat) (a0 : ByteArray) : mF Tryd.prog (sp_suturelaw4_read n) 7 [(V.t (T.sc (.string a0)))] [] K_suturelaw4_read = m_suturelaw4_read n a0 := by kernel_rfl
theorem m_suturelaw4_read_ok (n : Nat) : ok_suturelaw4_read (m_suturelaw4_read n) := fun a0 r h => mF_ok sound (sp_suturelaw4_read_ok n) code_suturelaw4_read_fn code_suturelaw4_read_body (fun a ha => absurd ha (by rw [show loopsOf code_suturelaw4_read = [] from by kernel_rfl]; simp)) (no_scope (by kernel_rfl)) ((m_suturelaw4_read_eq n a0).trans h) (fun v s hk => ⟨(K_suturelaw4_read_wk hk).1, rfl, (K_suturelaw4_read_wk hk).2⟩)


/-! suture/expr.sign -/
def m_expr_sign (n : Nat) (a0 : Int) : Option (ByteArray × Int) :=
bif ((a0 : Int) == 9) then (
some ((⟨#[60]⟩ : ByteArray), 0))
else (
bif ((a0 : Int) == 10) then (
some ((⟨#[61, 61]⟩ : ByteArray), 0))
else (
bif ((a0 : Int) == 4) then (
some ((⟨#[43]⟩ : ByteArray), 1))
else (
bif ((a0 : Int) == 5) then (
some ((⟨#[45]⟩ : ByteArray), 1))
else (
bif ((a0 : Int) == 6) then (
some ((⟨#[42]⟩ : ByteArray), 2))
else (
bif ((a0 : Int) == 7) then (
some ((⟨#[47]⟩ : ByteArray), 2))
else (
bif ((a0 : Int) == 8) then (
some ((⟨#[37]⟩ : ByteArray), 2))
else (
some ((⟨#[]⟩ : ByteArray), 3))))))))
def enc_expr_sign (r : ByteArray × Int) : V := (V.tup [(V.t (T.sc (.string r.1))), (V.t (T.sc (.int .i64 r.2)))])
def encS_expr_sign (r : ByteArray × Int) : Sig := []
def ok_expr_sign (m : Int → Option (ByteArray × Int)) : Prop := ∀ (a0 : Int) (r : ByteArray × Int), m a0 = some r → FuncOk Tryd.prog 33 [(V.t (T.sc (.int .i64 a0)))] [] (enc_expr_sign r) (encS_expr_sign r)
def c_expr_sign (m : Int → Option (ByteArray × Int)) (vs : List V) (sg : Sig) : Option CallM := bif Nat.beq vs.length 1 && Nat.beq sg.length 0 then Option.bind (V.intOf .i64 (vs.getD 0 .any)) fun u0 => some { α := ByteArray × Int, m := m u0, dflt := (default, 0), enc := fun y => ((V.tup [(V.t (T.sc (.string y.1))), (V.t (T.sc (.int .i64 y.2)))]), []) } else none
theorem c_expr_sign_ok (m : Int → Option (ByteArray × Int)) (hm : ok_expr_sign m) (vs : List V) (sg : Sig) (cm : CallM) (x : cm.α) (h : c_expr_sign m vs sg = some cm) (hx : cm.m = some x) : FuncOk Tryd.prog 33 vs sg (cm.enc x).1 (cm.enc x).2 := by
  unfold c_expr_sign at h
  have h0 := callee_sig h
  clear h
  obtain ⟨hl, hs, h⟩ := h0
  obtain ⟨u0, hu0, h⟩ := Option.bind_eq_some_iff.1 h
  simp only [Option.some.injEq] at h
  subst h
  exact (hm u0 x hx).wk (args_wk hl (.cons (intOf_wk hu0) .nil)) (wkSg_of hs .nil)
noncomputable def code_expr_sign : Code := Tryd.f33.body.getD .skip
noncomputable def sp_expr_sign (n : Nat) : Go.Eng.Spec := ⟨fun f vs sg => (match f with
    | _ => none), fun R key E sg K => (match key with
    | _ => none)⟩
theorem sp_expr_sign_ok (n : Nat) : CallsOk Tryd.prog (sp_expr_sign n) := by
  intro f vs sg cm x h hx
  have h : (none : Option CallM) = some cm := h
  cases h
theorem code_expr_sign_fn : Tryd.prog.funcs[33]? = some Tryd.f33 := Tryd.func33
theorem code_expr_sign_body : Tryd.f33.body = some code_expr_sign := by kernel_rfl
theorem code_expr_sign_ok : CodeOk Tryd.prog code_expr_sign := (sound 33 _ _ code_expr_sign_fn code_expr_sign_body).1
def K_expr_sign (v : V) (s : Sig) : Option (ByteArray × Int) := Option.bind (V.tupN 2 v) fun u0 => Option.bind (V.strOf (u0.getD 0 .any)) fun u1 => Option.bind (V.intOf .i64 (u0.getD 1 .any)) fun u2 => some (u1, u2)
theorem K_expr_sign_wk {v : V} {s : Sig} {r : ByteArray × Int} (h : K_expr_sign v s = some r) : Wk v (enc_expr_sign r) ∧ WkS 0 s (encS_expr_sign r) := by
  unfold K_expr_sign at h
  obtain ⟨u0, hu0, h⟩ := Option.bind_eq_some_iff.1 h
  obtain ⟨u1, hu1, h⟩ := Option.bind_eq_some_iff.1 h
  obtain ⟨u2, hu2, h⟩ := Option.bind_eq_some_iff.1 h
  simp only [Option.some.injEq] at h
  subst h
  exact ⟨(tupN_wk hu0 (.cons (strOf_wk hu1) (.cons (intOf_wk hu2) .nil))), (WkS.none _)⟩
theorem m_expr_sign_eq (n : Nat) (a0 : Int) : mF Tryd.prog (sp_expr_sign n) 33 [(V.t (T.sc (.int .i64 a0)))] [] K_expr_sign = m_expr_sign n a0 := by kernel_rfl
theorem m_expr_sign_ok (n : Nat) : ok_expr_sign (m_expr_sign n) := fun a0 r h => mF_ok sound (sp_expr_sign_ok n) code_expr_sign_fn code_expr_sign_body (fun a ha => absurd ha (by rw [show loopsOf code_expr_sign = [] from by kernel_rfl]; simp)) (no_scope (by kernel_rfl)) ((m_expr_sign_eq n a0).trans h) (fun v s hk => ⟨(K_expr_sign_wk hk).1, rfl, (K_expr_sign_wk hk).2⟩)


/-! expr_printed: a circle -/
structure B_expr_printed where
  expr_printed : Int → Int → ByteArray → List T → Int → Option (ByteArray)
def enc_expr_printed (r : ByteArray) : V := (V.t (T.sc (.string r)))
def encS_expr_printed (r : ByteArray) : Sig := []
def ok_expr_printed (m : Int → Int → ByteArray → List T → Int → Option (ByteArray)) : Prop := ∀ (a0 : Int) (a1 : Int) (a2 : ByteArray) (a3 : List T) (a4 : Int) (r : ByteArray), m a0 a1 a2 a3 a4 = some r → FuncOk Tryd.prog 17 [(V.agg [(V.t (T.sc (.int .i64 a0))), (V.t (T.sc (.int .i64 a1))), (V.t (T.sc (.string a2))), (V.t (T.list a3))]), (V.t (T.sc (.int .i64 a4)))] [] (enc_expr_printed r) (encS_expr_printed r)
def c_expr_printed (m : Int → Int → ByteArray → List T → Int → Option (ByteArray)) (vs : List V) (sg : Sig) : Option CallM := bif Nat.beq vs.length 2 && Nat.beq sg.length 0 then Option.bind (V.aggN 4 (vs.getD 0 .any)) fun u0 => Option.bind (V.intOf .i64 (u0.getD 0 .any)) fun u1 => Option.bind (V.intOf .i64 (u0.getD 1 .any)) fun u2 => Option.bind (V.strOf (u0.getD 2 .any)) fun u3 => Option.bind (V.lstOf (u0.getD 3 .any)) fun u4 => Option.bind (V.intOf .i64 (vs.getD 1 .any)) fun u5 => some { α := ByteArray, m := m u1 u2 u3 u4 u5, dflt := default, enc := fun y => ((V.t (T.sc (.string y))), []) } else none
theorem c_expr_printed_ok (m : Int → Int → ByteArray → List T → Int → Option (ByteArray)) (hm : ok_expr_printed m) (vs : List V) (sg : Sig) (cm : CallM) (x : cm.α) (h : c_expr_printed m vs sg = some cm) (hx : cm.m = some x) : FuncOk Tryd.prog 17 vs sg (cm.enc x).1 (cm.enc x).2 := by
  unfold c_expr_printed at h
  have h0 := callee_sig h
  clear h
  obtain ⟨hl, hs, h⟩ := h0
  obtain ⟨u0, hu0, h⟩ := Option.bind_eq_some_iff.1 h
  obtain ⟨u1, hu1, h⟩ := Option.bind_eq_some_iff.1 h
  obtain ⟨u2, hu2, h⟩ := Option.bind_eq_some_iff.1 h
  obtain ⟨u3, hu3, h⟩ := Option.bind_eq_some_iff.1 h
  obtain ⟨u4, hu4, h⟩ := Option.bind_eq_some_iff.1 h
  obtain ⟨u5, hu5, h⟩ := Option.bind_eq_some_iff.1 h
  simp only [Option.some.injEq] at h
  subst h
  exact (hm u1 u2 u3 u4 u5 x hx).wk (args_wk hl (.cons (aggN_wk hu0 (.cons (intOf_wk hu1) (.cons (intOf_wk hu2) (.cons (strOf_wk hu3) (.cons (lstOf_wk hu4) .nil))))) (.cons (intOf_wk hu5) .nil))) (wkSg_of hs .nil)
structure B_expr_printed_ok (b : B_expr_printed) : Prop where
  expr_printed : ok_expr_printed b.expr_printed

/-! suture/expr.printed -/
def f_expr_printed (b : B_expr_printed) (n : Nat) (a0 : Int) (a1 : Int) (a2 : ByteArray) (a3 : List T) (a4 : Int) : Option (ByteArray) :=
bif ((a0 : Int) == 1) then (
Option.bind (m_strconv_Itoa n a1) fun r0 =>
some r0)
else (
bif ((a0 : Int) == 2) then (
some a2)
else (
bif (bif ((a0 : Int) == 3) then ((((List.length a3 : Nat) : Int) : Int) == 1) else false) then (
Option.bind (idx true [.int .i64, .int .i64, .str, .list] a3 0) fun y1 =>
Option.bind (b.expr_printed (y1.cell 0).int (y1.cell 1).int (y1.cell 2).str (y1.cell 3).lst 3) fun r2 =>
must true (decide (((ByteArray.size (⟨#[45]⟩ : ByteArray) + ByteArray.size r2 : Nat) : Int) ≤ IntKind.i64.max)) (some ((⟨#[45]⟩ : ByteArray) ++ r2)))
else (
bif (bif (bif (decide ((a0 : Int) < 4)) then true else (decide ((a0 : Int) > 10))) then true else ((((List.length a3 : Nat) : Int) : Int) != 2)) then (
some (⟨#[63]⟩ : ByteArray))
else (
Option.bind (m_expr_sign n a0) fun r3 =>
bif ((r3.2 : Int) == 0) then (
Option.bind (idx true [.int .i64, .int .i64, .str, .list] a3 0) fun y4 =>
Option.bind (b.expr_printed (y4.cell 0).int (y4.cell 1).int (y4.cell 2).str (y4.cell 3).lst 1) fun r5 =>
must true (decide (((ByteArray.size r5 + ByteArray.size (⟨#[32]⟩ : ByteArray) : Nat) : Int) ≤ IntKind.i64.max)) (must true (decide (((ByteArray.size (r5 ++ (⟨#[32]⟩ : ByteArray)) + ByteArray.size r3.1 : Nat) : Int) ≤ IntKind.i64.max)) (must true (decide (((ByteArray.size ((r5 ++ (⟨#[32]⟩ : ByteArray)) ++ r3.1) + ByteArray.size (⟨#[32]⟩ : ByteArray) : Nat) : Int) ≤ IntKind.i64.max)) (Option.bind (idx true [.int .i64, .int .i64, .str, .list] a3 1) fun y6 =>
Option.bind (b.expr_printed (y6.cell 0).int (y6.cell 1).int (y6.cell 2).str (y6.cell 3).lst (IntKind.wrap .i64 (r3.2 + 1))) fun r7 =>
must true (decide (((ByteArray.size (((r5 ++ (⟨#[32]⟩ : ByteArray)) ++ r3.1) ++ (⟨#[32]⟩ : ByteArray)) + ByteArray.size r7 : Nat) : Int) ≤ IntKind.i64.max)) (bif (decide ((r3.2 : Int) < a4)) then (
must true (decide (((ByteArray.size (⟨#[40]⟩ : ByteArray) + ByteArray.size ((((r5 ++ (⟨#[32]⟩ : ByteArray)) ++ r3.1) ++ (⟨#[32]⟩ : ByteArray)) ++ r7) : Nat) : Int) ≤ IntKind.i64.max)) (must true (decide (((ByteArray.size ((⟨#[40]⟩ : ByteArray) ++ ((((r5 ++ (⟨#[32]⟩ : ByteArray)) ++ r3.1) ++ (⟨#[32]⟩ : ByteArray)) ++ r7)) + ByteArray.size (⟨#[41]⟩ : ByteArray) : Nat) : Int) ≤ IntKind.i64.max)) (some (((⟨#[40]⟩ : ByteArray) ++ ((((r5 ++ (⟨#[32]⟩ : ByteArray)) ++ r3.1) ++ (⟨#[32]⟩ : ByteArray)) ++ r7)) ++ (⟨#[41]⟩ : ByteArray)))))
else (
some ((((r5 ++ (⟨#[32]⟩ : ByteArray)) ++ r3.1) ++ (⟨#[32]⟩ : ByteArray)) ++ r7)))))))
else (
Option.bind (idx true [.int .i64, .int .i64, .str, .list] a3 0) fun y8 =>
Option.bind (b.expr_printed (y8.cell 0).int (y8.cell 1).int (y8.cell 2).str (y8.cell 3).lst r3.2) fun r9 =>
must true (decide (((ByteArray.size r9 + ByteArray.size (⟨#[32]⟩ : ByteArray) : Nat) : Int) ≤ IntKind.i64.max)) (must true (decide (((ByteArray.size (r9 ++ (⟨#[32]⟩ : ByteArray)) + ByteArray.size r3.1 : Nat) : Int) ≤ IntKind.i64.max)) (must true (decide (((ByteArray.size ((r9 ++ (⟨#[32]⟩ : ByteArray)) ++ r3.1) + ByteArray.size (⟨#[32]⟩ : ByteArray) : Nat) : Int) ≤ IntKind.i64.max)) (Option.bind (idx true [.int .i64, .int .i64, .str, .list] a3 1) fun y10 =>
Option.bind (b.expr_printed (y10.cell 0).int (y10.cell 1).int (y10.cell 2).str (y10.cell 3).lst (IntKind.wrap .i64 (r3.2 + 1))) fun r11 =>
must true (decide (((ByteArray.size (((r9 ++ (⟨#[32]⟩ : ByteArray)) ++ r3.1) ++ (⟨#[32]⟩ : ByteArray)) + ByteArray.size r11 : Nat) : Int) ≤ IntKind.i64.max)) (bif (decide ((r3.2 : Int) < a4)) then (
must true (decide (((ByteArray.size (⟨#[40]⟩ : ByteArray) + ByteArray.size ((((r9 ++ (⟨#[32]⟩ : ByteArray)) ++ r3.1) ++ (⟨#[32]⟩ : ByteArray)) ++ r11) : Nat) : Int) ≤ IntKind.i64.max)) (must true (decide (((ByteArray.size ((⟨#[40]⟩ : ByteArray) ++ ((((r9 ++ (⟨#[32]⟩ : ByteArray)) ++ r3.1) ++ (⟨#[32]⟩ : ByteArray)) ++ r11)) + ByteArray.size (⟨#[41]⟩ : ByteArray) : Nat) : Int) ≤ IntKind.i64.max)) (some (((⟨#[40]⟩ : ByteArray) ++ ((((r9 ++ (⟨#[32]⟩ : ByteArray)) ++ r3.1) ++ (⟨#[32]⟩ : ByteArray)) ++ r11)) ++ (⟨#[41]⟩ : ByteArray)))))
else (
some ((((r9 ++ (⟨#[32]⟩ : ByteArray)) ++ r3.1) ++ (⟨#[32]⟩ : ByteArray)) ++ r11)))))))))))
noncomputable def code_expr_printed : Code := Tryd.f17.body.getD .skip
noncomputable def sp_expr_printed (b : B_expr_printed) (n : Nat) : Go.Eng.Spec := ⟨fun f vs sg => (match f with
    | 30 => c_strconv_Itoa (m_strconv_Itoa n) vs sg
    | 17 => c_expr_printed b.expr_printed vs sg
    | 33 => c_expr_sign (m_expr_sign n) vs sg
    | _ => none), fun R key E sg K => (match key with
    | _ => none)⟩
theorem sp_expr_printed_ok (b : B_expr_printed) (hb : B_expr_printed_ok b) (n : Nat) : CallsOk Tryd.prog (sp_expr_printed b n) := by
  intro f vs sg cm x h hx
  simp only [sp_expr_printed] at h
  split at h
  · exact c_strconv_Itoa_ok _ (m_strconv_Itoa_ok n) vs sg cm x h hx
  · exact c_expr_printed_ok _ hb.expr_printed vs sg cm x h hx
  · exact c_expr_sign_ok _ (m_expr_sign_ok n) vs sg cm x h hx
  · cases h
theorem code_expr_printed_fn : Tryd.prog.funcs[17]? = some Tryd.f17 := Tryd.func17
theorem code_expr_printed_body : Tryd.f17.body = some code_expr_printed := by kernel_rfl
theorem code_expr_printed_ok : CodeOk Tryd.prog code_expr_printed := (sound 17 _ _ code_expr_printed_fn code_expr_printed_body).1
def K_expr_printed (v : V) (s : Sig) : Option (ByteArray) := Option.bind (V.strOf v) fun u0 => some u0
theorem K_expr_printed_wk {v : V} {s : Sig} {r : ByteArray} (h : K_expr_printed v s = some r) : Wk v (enc_expr_printed r) ∧ WkS 0 s (encS_expr_printed r) := by
  unfold K_expr_printed at h
  obtain ⟨u0, hu0, h⟩ := Option.bind_eq_some_iff.1 h
  simp only [Option.some.injEq] at h
  subst h
  exact ⟨(strOf_wk hu0), (WkS.none _)⟩
theorem f_expr_printed_eq (b : B_expr_printed) (n : Nat) (a0 : Int) (a1 : Int) (a2 : ByteArray) (a3 : List T) (a4 : Int) : mF Tryd.prog (sp_expr_printed b n) 17 [(V.agg [(V.t (T.sc (.int .i64 a0))), (V.t (T.sc (.int .i64 a1))), (V.t (T.sc (.string a2))), (V.t (T.list a3))]), (V.t (T.sc (.int .i64 a4)))] [] K_expr_printed = f_expr_printed b n a0 a1 a2 a3 a4 := by kernel_rfl
theorem f_expr_printed_ok (b : B_expr_printed) (hb : B_expr_printed_ok b) (n : Nat) : ok_expr_printed (f_expr_printed b n) := fun a0 a1 a2 a3 a4 r h => mF_ok sound (sp_expr_printed_ok b hb n) code_expr_printed_fn code_expr_printed_body (fun a ha => absurd ha (by rw [show loopsOf code_expr_printed = [] from by kernel_rfl]; simp)) (no_scope (by kernel_rfl)) ((f_expr_printed_eq b n a0 a1 a2 a3 a4).trans h) (fun v s hk => ⟨(K_expr_printed_wk hk).1, rfl, (K_expr_printed_wk hk).2⟩)
def unB_expr_printed (n : Nat) : Nat → B_expr_printed
  | 0 => { expr_printed := fun _ _ _ _ _ => none }
  | m + 1 => { expr_printed := f_expr_printed (unB_expr_printed n m) n }
theorem unB_expr_printed_ok (n : Nat) : ∀ m, B_expr_printed_ok (unB_expr_printed n m)
  | 0 => { expr_printed := fun _ _ _ _ _ _ h => (nomatch (show none = some _ from h)) }
  | m + 1 => { expr_printed := f_expr_printed_ok _ (unB_expr_printed_ok n m) n }
def m_expr_printed (n : Nat) : Int → Int → ByteArray → List T → Int → Option (ByteArray) := (unB_expr_printed n n).expr_printed
theorem m_expr_printed_ok (n : Nat) : ok_expr_printed (m_expr_printed n) := (unB_expr_printed_ok n n).expr_printed


/-! tree_SameExpr, slices_EqualFunc___api_Expr___api_Expr_api_Expr_api_Expr_: a circle -/
structure B_tree_SameExpr where
  tree_SameExpr : Int → Int → ByteArray → List T → Int → Int → ByteArray → List T → Option (Bool)
  slices_EqualFunc___api_Expr___api_Expr_api_Expr_api_Expr_ : List T → List T → Option (Bool)
def enc_tree_SameExpr (r : Bool) : V := (V.t (T.sc (.bool r)))
def encS_tree_SameExpr (r : Bool) : Sig := []
def ok_tree_SameExpr (m : Int → Int → ByteArray → List T → Int → Int → ByteArray → List T → Option (Bool)) : Prop := ∀ (a0 : Int) (a1 : Int) (a2 : ByteArray) (a3 : List T) (a4 : Int) (a5 : Int) (a6 : ByteArray) (a7 : List T) (r : Bool), m a0 a1 a2 a3 a4 a5 a6 a7 = some r → FuncOk Tryd.prog 18 [(V.agg [(V.t (T.sc (.int .i64 a0))), (V.t (T.sc (.int .i64 a1))), (V.t (T.sc (.string a2))), (V.t (T.list a3))]), (V.agg [(V.t (T.sc (.int .i64 a4))), (V.t (T.sc (.int .i64 a5))), (V.t (T.sc (.string a6))), (V.t (T.list a7))])] [] (enc_tree_SameExpr r) (encS_tree_SameExpr r)
def c_tree_SameExpr (m : Int → Int → ByteArray → List T → Int → Int → ByteArray → List T → Option (Bool)) (vs : List V) (sg : Sig) : Option CallM := bif Nat.beq vs.length 2 && Nat.beq sg.length 0 then Option.bind (V.aggN 4 (vs.getD 0 .any)) fun u0 => Option.bind (V.intOf .i64 (u0.getD 0 .any)) fun u1 => Option.bind (V.intOf .i64 (u0.getD 1 .any)) fun u2 => Option.bind (V.strOf (u0.getD 2 .any)) fun u3 => Option.bind (V.lstOf (u0.getD 3 .any)) fun u4 => Option.bind (V.aggN 4 (vs.getD 1 .any)) fun u5 => Option.bind (V.intOf .i64 (u5.getD 0 .any)) fun u6 => Option.bind (V.intOf .i64 (u5.getD 1 .any)) fun u7 => Option.bind (V.strOf (u5.getD 2 .any)) fun u8 => Option.bind (V.lstOf (u5.getD 3 .any)) fun u9 => some { α := Bool, m := m u1 u2 u3 u4 u6 u7 u8 u9, dflt := false, enc := fun y => ((V.t (T.sc (.bool y))), []) } else none
theorem c_tree_SameExpr_ok (m : Int → Int → ByteArray → List T → Int → Int → ByteArray → List T → Option (Bool)) (hm : ok_tree_SameExpr m) (vs : List V) (sg : Sig) (cm : CallM) (x : cm.α) (h : c_tree_SameExpr m vs sg = some cm) (hx : cm.m = some x) : FuncOk Tryd.prog 18 vs sg (cm.enc x).1 (cm.enc x).2 := by
  unfold c_tree_SameExpr at h
  have h0 := callee_sig h
  clear h
  obtain ⟨hl, hs, h⟩ := h0
  obtain ⟨u0, hu0, h⟩ := Option.bind_eq_some_iff.1 h
  obtain ⟨u1, hu1, h⟩ := Option.bind_eq_some_iff.1 h
  obtain ⟨u2, hu2, h⟩ := Option.bind_eq_some_iff.1 h
  obtain ⟨u3, hu3, h⟩ := Option.bind_eq_some_iff.1 h
  obtain ⟨u4, hu4, h⟩ := Option.bind_eq_some_iff.1 h
  obtain ⟨u5, hu5, h⟩ := Option.bind_eq_some_iff.1 h
  obtain ⟨u6, hu6, h⟩ := Option.bind_eq_some_iff.1 h
  obtain ⟨u7, hu7, h⟩ := Option.bind_eq_some_iff.1 h
  obtain ⟨u8, hu8, h⟩ := Option.bind_eq_some_iff.1 h
  obtain ⟨u9, hu9, h⟩ := Option.bind_eq_some_iff.1 h
  simp only [Option.some.injEq] at h
  subst h
  exact (hm u1 u2 u3 u4 u6 u7 u8 u9 x hx).wk (args_wk hl (.cons (aggN_wk hu0 (.cons (intOf_wk hu1) (.cons (intOf_wk hu2) (.cons (strOf_wk hu3) (.cons (lstOf_wk hu4) .nil))))) (.cons (aggN_wk hu5 (.cons (intOf_wk hu6) (.cons (intOf_wk hu7) (.cons (strOf_wk hu8) (.cons (lstOf_wk hu9) .nil))))) .nil))) (wkSg_of hs .nil)
def enc_slices_EqualFunc___api_Expr___api_Expr_api_Expr_api_Expr_ (r : Bool) : V := (V.t (T.sc (.bool r)))
def encS_slices_EqualFunc___api_Expr___api_Expr_api_Expr_api_Expr_ (r : Bool) : Sig := []
def ok_slices_EqualFunc___api_Expr___api_Expr_api_Expr_api_Expr_ (m : List T → List T → Option (Bool)) : Prop := ∀ (a0 : List T) (a1 : List T) (r : Bool), m a0 a1 = some r → FuncOk Tryd.prog 34 [(V.t (T.list a0)), (V.t (T.list a1)), (V.fn 18 [])] [] (enc_slices_EqualFunc___api_Expr___api_Expr_api_Expr_api_Expr_ r) (encS_slices_EqualFunc___api_Expr___api_Expr_api_Expr_api_Expr_ r)
def c_slices_EqualFunc___api_Expr___api_Expr_api_Expr_api_Expr_ (m : List T → List T → Option (Bool)) (vs : List V) (sg : Sig) : Option CallM := bif Nat.beq vs.length 3 && Nat.beq sg.length 0 then Option.bind (V.lstOf (vs.getD 0 .any)) fun u0 => Option.bind (V.lstOf (vs.getD 1 .any)) fun u1 => Option.bind (V.fnN 18 0 (vs.getD 2 .any)) fun u2 => some { α := Bool, m := m u0 u1, dflt := false, enc := fun y => ((V.t (T.sc (.bool y))), []) } else none
theorem c_slices_EqualFunc___api_Expr___api_Expr_api_Expr_api_Expr__ok (m : List T → List T → Option (Bool)) (hm : ok_slices_EqualFunc___api_Expr___api_Expr_api_Expr_api_Expr_ m) (vs : List V) (sg : Sig) (cm : CallM) (x : cm.α) (h : c_slices_EqualFunc___api_Expr___api_Expr_api_Expr_api_Expr_ m vs sg = some cm) (hx : cm.m = some x) : FuncOk Tryd.prog 34 vs sg (cm.enc x).1 (cm.enc x).2 := by
  unfold c_slices_EqualFunc___api_Expr___api_Expr_api_Expr_api_Expr_ at h
  have h0 := callee_sig h
  clear h
  obtain ⟨hl, hs, h⟩ := h0
  obtain ⟨u0, hu0, h⟩ := Option.bind_eq_some_iff.1 h
  obtain ⟨u1, hu1, h⟩ := Option.bind_eq_some_iff.1 h
  obtain ⟨u2, hu2, h⟩ := Option.bind_eq_some_iff.1 h
  simp only [Option.some.injEq] at h
  subst h
  exact (hm u0 u1 x hx).wk (args_wk hl (.cons (lstOf_wk hu0) (.cons (lstOf_wk hu1) (.cons (fnN_wk hu2 .nil) .nil)))) (wkSg_of hs .nil)
structure B_tree_SameExpr_ok (b : B_tree_SameExpr) : Prop where
  tree_SameExpr : ok_tree_SameExpr b.tree_SameExpr
  slices_EqualFunc___api_Expr___api_Expr_api_Expr_api_Expr_ : ok_slices_EqualFunc___api_Expr___api_Expr_api_Expr_api_Expr_ b.slices_EqualFunc___api_Expr___api_Expr_api_Expr_api_Expr_

/-! suture/tree.SameExpr -/
def f_tree_SameExpr (b : B_tree_SameExpr) (n : Nat) (a0 : Int) (a1 : Int) (a2 : ByteArray) (a3 : List T) (a4 : Int) (a5 : Int) (a6 : ByteArray) (a7 : List T) : Option (Bool) :=
Option.bind (bif (bif (bif ((a0 : Int) == a4) then ((a1 : Int) == a5) else false) then (ByteArray.toList a2 == ByteArray.toList a6) else false) then b.slices_EqualFunc___api_Expr___api_Expr_api_Expr_api_Expr_ a3 a7 else some false) fun r0 =>
some (bif (bif (bif ((a0 : Int) == a4) then ((a1 : Int) == a5) else false) then (ByteArray.toList a2 == ByteArray.toList a6) else false) then r0 else false)
noncomputable def code_tree_SameExpr : Code := Tryd.f18.body.getD .skip
noncomputable def sp_tree_SameExpr (b : B_tree_SameExpr) (n : Nat) : Go.Eng.Spec := ⟨fun f vs sg => (match f with
    | 34 => c_slices_EqualFunc___api_Expr___api_Expr_api_Expr_api_Expr_ b.slices_EqualFunc___api_Expr___api_Expr_api_Expr_api_Expr_ vs sg
    | _ => none), fun R key E sg K => (match key with
    | _ => none)⟩
theorem sp_tree_SameExpr_ok (b : B_tree_SameExpr) (hb : B_tree_SameExpr_ok b) (n : Nat) : CallsOk Tryd.prog (sp_tree_SameExpr b n) := by
  intro f vs sg cm x h hx
  simp only [sp_tree_SameExpr] at h
  split at h
  · exact c_slices_EqualFunc___api_Expr___api_Expr_api_Expr_api_Expr__ok _ hb.slices_EqualFunc___api_Expr___api_Expr_api_Expr_api_Expr_ vs sg cm x h hx
  · cases h
theorem code_tree_SameExpr_fn : Tryd.prog.funcs[18]? = some Tryd.f18 := Tryd.func18
theorem code_tree_SameExpr_body : Tryd.f18.body = some code_tree_SameExpr := by kernel_rfl
theorem code_tree_SameExpr_ok : CodeOk Tryd.prog code_tree_SameExpr := (sound 18 _ _ code_tree_SameExpr_fn code_tree_SameExpr_body).1
def K_tree_SameExpr (v : V) (s : Sig) : Option (Bool) := Option.bind (V.boolOf v) fun u0 => some u0
theorem K_tree_SameExpr_wk {v : V} {s : Sig} {r : Bool} (h : K_tree_SameExpr v s = some r) : Wk v (enc_tree_SameExpr r) ∧ WkS 0 s (encS_tree_SameExpr r) := by
  unfold K_tree_SameExpr at h
  obtain ⟨u0, hu0, h⟩ := Option.bind_eq_some_iff.1 h
  simp only [Option.some.injEq] at h
  subst h
  exact ⟨(boolOf_wk hu0), (WkS.none _)⟩
theorem f_tree_SameExpr_eq (b : B_tree_SameExpr) (n : Nat) (a0 : Int) (a1 : Int) (a2 : ByteArray) (a3 : List T) (a4 : Int) (a5 : Int) (a6 : ByteArray) (a7 : List T) : mF Tryd.prog (sp_tree_SameExpr b n) 18 [(V.agg [(V.t (T.sc (.int .i64 a0))), (V.t (T.sc (.int .i64 a1))), (V.t (T.sc (.string a2))), (V.t (T.list a3))]), (V.agg [(V.t (T.sc (.int .i64 a4))), (V.t (T.sc (.int .i64 a5))), (V.t (T.sc (.string a6))), (V.t (T.list a7))])] [] K_tree_SameExpr = f_tree_SameExpr b n a0 a1 a2 a3 a4 a5 a6 a7 := by kernel_rfl
theorem f_tree_SameExpr_ok (b : B_tree_SameExpr) (hb : B_tree_SameExpr_ok b) (n : Nat) : ok_tree_SameExpr (f_tree_SameExpr b n) := fun a0 a1 a2 a3 a4 a5 a6 a7 r h => mF_ok sound (sp_tree_SameExpr_ok b hb n) code_tree_SameExpr_fn code_tree_SameExpr_body (fun a ha => absurd ha (by rw [show loopsOf code_tree_SameExpr = [] from by kernel_rfl]; simp)) (no_scope (by kernel_rfl)) ((f_tree_SameExpr_eq b n a0 a1 a2 a3 a4 a5 a6 a7).trans h) (fun v s hk => ⟨(K_tree_SameExpr_wk hk).1, rfl, (K_tree_SameExpr_wk hk).2⟩)

/-! slices.EqualFunc[[]suture/api.Expr,[]suture/api.Expr,suture/api.Expr,suture/api.Expr] -/
def l_slices_EqualFunc___api_Expr___api_Expr_api_Expr_api_Expr__4_B (b : B_tree_SameExpr) (n : Nat) (k : (List T) × (List T) × Int × Int → Option (((Unit) ⊕ Bool))) : (List T) × (List T) × Int × Int → Option (((Unit) ⊕ Bool)) := fun (s0, s1, s2, s3) =>
bif (decide ((s3 : Int) < s2)) then (
Option.bind (idx true [.int .i64, .int .i64, .str, .list] s1 s3) fun y0 =>
Option.bind (idx true [.int .i64, .int .i64, .str, .list] s0 s3) fun y1 =>
Option.bind (b.tree_SameExpr (y0.cell 0).int (y0.cell 1).int (y0.cell 2).str (y0.cell 3).lst (y1.cell 0).int (y1.cell 1).int (y1.cell 2).str (y1.cell 3).lst) fun r2 =>
bif (!r2) then (
some (Sum.inr false))
else (
k (s0, s1, s2, (IntKind.wrap .i64 (s3 + 1)))))
else (
some (Sum.inl ()))
def l_slices_EqualFunc___api_Expr___api_Expr_api_Expr_api_Expr__4 (b : B_tree_SameExpr) (n : Nat) : Nat → (List T) × (List T) × Int × Int → Option (((Unit) ⊕ Bool))
  | 0, _ => none
  | m + 1, s => l_slices_EqualFunc___api_Expr___api_Expr_api_Expr_api_Expr__4_B b n (l_slices_EqualFunc___api_Expr___api_Expr_api_Expr_api_Expr__4 b n m) s
def f_slices_EqualFunc___api_Expr___api_Expr_api_Expr_api_Expr_ (b : B_tree_SameExpr) (n : Nat) (a0 : List T) (a1 : List T) : Option (Bool) :=
bif ((((List.length a0 : Nat) : Int) : Int) != ((List.length a1 : Nat) : Int)) then (
some false)
else (
Option.bind (l_slices_EqualFunc___api_Expr___api_Expr_api_Expr_api_Expr__4 b n n (a1, a0, ((List.length a0 : Nat) : Int), 0)) fun x3 =>
Sum.elim (fun p4 => 
some true) (fun x3' => (fun p5 => 
some p5) x3') x3)
noncomputable def code_slices_EqualFunc___api_Expr___api_Expr_api_Expr_api_Expr_ : Code := Tryd.f34.body.getD .skip
def l_slices_EqualFunc___api_Expr___api_Expr_api_Expr_api_Expr__4_S (b : B_tree_SameExpr) (n : Nat) (R : Type) (E : SEnv) (sg : Sig) (K : Ex → SEnv → Sig → Option R) : Option R := Option.bind (V.lstOf (SEnv.at E 1)) fun u0 => Option.bind (V.fnN 18 0 (SEnv.at E 2)) fun u1 => Option.bind (V.lstOf (SEnv.at E 15)) fun u2 => Option.bind (V.intOf .i64 (SEnv.at E 16)) fun u3 => Option.bind (V.intOf .i64 (SEnv.at E 17)) fun u4 => Option.bind (l_slices_EqualFunc___api_Expr___api_Expr_api_Expr_api_Expr__4 b n n (u0, u2, u3, u4)) fun y => Sum.elim (fun p0 => K (.exit 0) [] []) (fun y' => (fun p1 => K .ret [(6, (V.t (T.sc (.bool p1))))] []) y') y
noncomputable def sp_slices_EqualFunc___api_Expr___api_Expr_api_Expr_api_Expr_ (b : B_tree_SameExpr) (n : Nat) : Go.Eng.Spec := ⟨fun f vs sg => (match f with
    | 18 => c_tree_SameExpr b.tree_SameExpr vs sg
    | _ => none), fun R key E sg K => (match key with
    | 4 => l_slices_EqualFunc___api_Expr___api_Expr_api_Expr_api_Expr__4_S b n R E sg K
    | _ => none)⟩
theorem sp_slices_EqualFunc___api_Expr___api_Expr_api_Expr_api_Expr__ok (b : B_tree_SameExpr) (hb : B_tree_SameExpr_ok b) (n : Nat) : CallsOk Tryd.prog (sp_slices_EqualFunc___api_Expr___api_Expr_api_Expr_api_Expr_ b n) := by
  intro f vs sg cm x h hx
  simp only [sp_slices_EqualFunc___api_Expr___api_Expr_api_Expr_api_Expr_] at h
  split at h
  · exact c_tree_SameExpr_ok _ hb.tree_SameExpr vs sg cm x h hx
  · cases h
theorem code_slices_EqualFunc___api_Expr___api_Expr_api_Expr_api_Expr__fn : Tryd.prog.funcs[34]? = some Tryd.f34 := Tryd.func34
theorem code_slices_EqualFunc___api_Expr___api_Expr_api_Expr_api_Expr__body : Tryd.f34.body = some code_slices_EqualFunc___api_Expr___api_Expr_api_Expr_api_Expr_ := by kernel_rfl
theorem code_slices_EqualFunc___api_Expr___api_Expr_api_Expr_api_Expr__ok : CodeOk Tryd.prog code_slices_EqualFunc___api_Expr___api_Expr_api_Expr_api_Expr_ := (sound 34 _ _ code_slices_EqualFunc___api_Expr___api_Expr_api_Expr_api_Expr__fn code_slices_EqualFunc___api_Expr___api_Expr_api_Expr_api_Expr__body).1
noncomputable def code_l_slices_EqualFunc___api_Expr___api_Expr_api_Expr_api_Expr__4 : Code := (loopsOf code_slices_EqualFunc___api_Expr___api_Expr_api_Expr_api_Expr_).getD 0 .skip
theorem code_l_slices_EqualFunc___api_Expr___api_Expr_api_Expr_api_Expr__4_ok : CodeOk Tryd.prog code_l_slices_EqualFunc___api_Expr___api_Expr_api_Expr_api_Expr__4 := codeOk_loops code_slices_EqualFunc___api_Expr___api_Expr_api_Expr_api_Expr__ok _ (getD_mem (by kernel_rfl))
def l_slices_EqualFunc___api_Expr___api_Expr_api_Expr_api_Expr__4_K (k : (List T) × (List T) × Int × Int → Option (((Unit) ⊕ Bool))) : Ex → SEnv → Sig → Option (((Unit) ⊕ Bool)) := fun x E sg => match x with
  | .normal => Option.bind (V.lstOf (SEnv.at E 1)) fun u0 => Option.bind (V.fnN 18 0 (SEnv.at E 2)) fun u1 => Option.bind (V.lstOf (SEnv.at E 15)) fun u2 => Option.bind (V.intOf .i64 (SEnv.at E 16)) fun u3 => Option.bind (V.intOf .i64 (SEnv.at E 17)) fun u4 => k (u0, u2, u3, u4)
  | (.exit 0) => some (Sum.inl ())
  | .ret => Option.bind (V.boolOf (SEnv.at E 6)) fun u0 => some (Sum.inr u0)
  | _ => none
theorem l_slices_EqualFunc___api_Expr___api_Expr_api_Expr_api_Expr__4_eq (b : B_tree_SameExpr) (n : Nat) (k : (List T) × (List T) × Int × Int → Option (((Unit) ⊕ Bool))) (s0 : List T) (s1 : List T) (s2 : Int) (s3 : Int) : mX Tryd.prog (sp_slices_EqualFunc___api_Expr___api_Expr_api_Expr_api_Expr_ b n) 32 code_l_slices_EqualFunc___api_Expr___api_Expr_api_Expr_api_Expr__4 [(1, (V.t (T.list s0))), (2, (V.fn 18 [])), (15, (V.t (T.list s1))), (16, (V.t (T.sc (.int .i64 s2)))), (17, (V.t (T.sc (.int .i64 s3))))] [] (l_slices_EqualFunc___api_Expr___api_Expr_api_Expr_api_Expr__4_K k) = l_slices_EqualFunc___api_Expr___api_Expr_api_Expr_api_Expr__4_B b n k (s0, s1, s2, s3) := by kernel_rfl
def l_slices_EqualFunc___api_Expr___api_Expr_api_Expr_api_Expr__4_Q (x : ((Unit) ⊕ Bool)) (ex : Ex) (e : Env) (s : Sig) : Prop := Sum.elim (fun p0 => (ex = (.exit 0) ∧ e = SEnv.env 32 [] ∧ s = [])) (fun x' => (fun p1 => (ex = .ret ∧ e = SEnv.env 32 [(6, (V.t (T.sc (.bool p1))))] ∧ s = [])) x') x
theorem l_slices_EqualFunc___api_Expr___api_Expr_api_Expr_api_Expr__4_run (b : B_tree_SameExpr) (hb : B_tree_SameExpr_ok b) (n : Nat) : ∀ (m : Nat) (s0 : List T) (s1 : List T) (s2 : Int) (s3 : Int) (x : ((Unit) ⊕ Bool)), l_slices_EqualFunc___api_Expr___api_Expr_api_Expr_api_Expr__4 b n m (s0, s1, s2, s3) = some x → SemL Tryd.prog 0 code_l_slices_EqualFunc___api_Expr___api_Expr_api_Expr_api_Expr__4 (SEnv.env 32 [(1, (V.t (T.list s0))), (2, (V.fn 18 [])), (15, (V.t (T.list s1))), (16, (V.t (T.sc (.int .i64 s2)))), (17, (V.t (T.sc (.int .i64 s3))))]) [] (l_slices_EqualFunc___api_Expr___api_Expr_api_Expr_api_Expr__4_Q x)
  | 0, s0, s1, s2, s3, x, h => by cases h
  | m + 1, s0, s1, s2, s3, x, h => by
    refine loop_step (sp_slices_EqualFunc___api_Expr___api_Expr_api_Expr_api_Expr__ok b hb n) code_l_slices_EqualFunc___api_Expr___api_Expr_api_Expr_api_Expr__4_ok (fun a ha => absurd ha (by rw [show loopsOf code_l_slices_EqualFunc___api_Expr___api_Expr_api_Expr_api_Expr__4 = [] from by kernel_rfl]; simp)) (no_scope (by kernel_rfl)) ((l_slices_EqualFunc___api_Expr___api_Expr_api_Expr_api_Expr__4_eq b n _ s0 s1 s2 s3).trans h) (fun E sg h => ?_) (fun ex E sg hne h => ?_)
    · simp only [l_slices_EqualFunc___api_Expr___api_Expr_api_Expr_api_Expr__4_K] at h
      obtain ⟨u0, hu0, h⟩ := Option.bind_eq_some_iff.1 h
      obtain ⟨u1, hu1, h⟩ := Option.bind_eq_some_iff.1 h
      obtain ⟨u2, hu2, h⟩ := Option.bind_eq_some_iff.1 h
      obtain ⟨u3, hu3, h⟩ := Option.bind_eq_some_iff.1 h
      obtain ⟨u4, hu4, h⟩ := Option.bind_eq_some_iff.1 h
      exact SemL.pre (k := 0) (by decide) (WkA.env (WkA.cons (lstOf_wk hu0) rfl (WkA.cons (fnN_wk hu1 .nil) rfl (WkA.cons (lstOf_wk hu2) rfl (WkA.cons (intOf_wk hu3) rfl (WkA.cons (intOf_wk hu4) rfl WkA.nil))))) 32) (WkS.none _) (l_slices_EqualFunc___api_Expr___api_Expr_api_Expr_api_Expr__4_run b hb n m _ _ _ _ x h)
    · unfold l_slices_EqualFunc___api_Expr___api_Expr_api_Expr_api_Expr__4_K at h
      split at h
      · exact absurd rfl hne
      · simp only [Option.some.injEq] at h
        subst h
        exact ⟨0, _, _, by decide, WkA.env WkA.nil 32, (WkS.none _), rfl, rfl, rfl⟩
      · obtain ⟨u0, hu0, h⟩ := Option.bind_eq_some_iff.1 h
        simp only [Option.some.injEq] at h
        subst h
        exact ⟨0, _, _, by decide, WkA.env (WkA.cons (boolOf_wk hu0) rfl WkA.nil) 32, (WkS.none _), rfl, rfl, rfl⟩
      · cases h
theorem l_slices_EqualFunc___api_Expr___api_Expr_api_Expr_api_Expr__4_ok (b : B_tree_SameExpr) (hb : B_tree_SameExpr_ok b) (n : Nat) : LoopOk Tryd.prog (sp_slices_EqualFunc___api_Expr___api_Expr_api_Expr_api_Expr_ b n) 0 32 code_l_slices_EqualFunc___api_Expr___api_Expr_api_Expr_api_Expr__4 := by
    intro R key E sg K r hk h
    rw [show Go.Eng.keyOf code_l_slices_EqualFunc___api_Expr___api_Expr_api_Expr_api_Expr__4 = some 4 from by kernel_rfl] at hk
    cases hk
    have h : l_slices_EqualFunc___api_Expr___api_Expr_api_Expr_api_Expr__4_S b n R E sg K = some r := h
    unfold l_slices_EqualFunc___api_Expr___api_Expr_api_Expr_api_Expr__4_S at h
    obtain ⟨u0, hu0, h⟩ := Option.bind_eq_some_iff.1 h
    obtain ⟨u1, hu1, h⟩ := Option.bind_eq_some_iff.1 h
    obtain ⟨u2, hu2, h⟩ := Option.bind_eq_some_iff.1 h
    obtain ⟨u3, hu3, h⟩ := Option.bind_eq_some_iff.1 h
    obtain ⟨u4, hu4, h⟩ := Option.bind_eq_some_iff.1 h
    obtain ⟨x, hx, h⟩ := Option.bind_eq_some_iff.1 h
    refine (SemL.pre (k := 0) (by decide) (WkA.env (WkA.cons (lstOf_wk hu0) rfl (WkA.cons (fnN_wk hu1 .nil) rfl (WkA.cons (lstOf_wk hu2) rfl (WkA.cons (intOf_wk hu3) rfl (WkA.cons (intOf_wk hu4) rfl WkA.nil))))) 32) (WkS.none _) (l_slices_EqualFunc___api_Expr___api_Expr_api_Expr_api_Expr__4_run b hb n n _ _ _ _ x hx)).mono ?_
    intro ex e s hq
    rcases x with x | x <;> (obtain ⟨rfl, rfl, rfl⟩ := hq; exact ⟨_, rfl, h⟩) -- 5
def K_slices_EqualFunc___api_Expr___api_Expr_api_Expr_api_Expr_ (v : V) (s : Sig) : Option (Bool) := Option.bind (V.boolOf v) fun u0 => some u0
theorem K_slices_EqualFunc___api_Expr___api_Expr_api_Expr_api_Expr__wk {v : V} {s : Sig} {r : Bool} (h : K_slices_EqualFunc___api_Expr___api_Expr_api_Expr_api_Expr_ v s = some r) : Wk v (enc_slices_EqualFunc___api_Expr___api_Expr_api_Expr_api_Expr_ r) ∧ WkS 0 s (encS_slices_EqualFunc___api_Expr___api_Expr_api_Expr_api_Expr_ r) := by
  unfold K_slices_EqualFunc___api_Expr___api_Expr_api_Expr_api_Expr_ at h
  obtain ⟨u0, hu0, h⟩ := Option.bind_eq_some_iff.1 h
  simp only [Option.some.injEq] at h
  subst h
  exact ⟨(boolOf_wk hu0), (WkS.none _)⟩
theorem f_slices_EqualFunc___api_Expr___api_Expr_api_Expr_api_Expr__eq (b : B_tree_SameExpr) (n : Nat) (a0 : List T) (a1 : List T) : mF Tryd.prog (sp_slices_EqualFunc___api_Expr___api_Expr_api_Expr_api_Expr_ b n) 34 [(V.t (T.list a0)), (V.t (T.list a1)), (V.fn 18 [])] [] K_slices_EqualFunc___api_Expr___api_Expr_api_Expr_api_Expr_ = f_slices_EqualFunc___api_Expr___api_Expr_api_Expr_api_Expr_ b n a0 a1 := by kernel_rfl
theorem f_slices_EqualFunc___api_Expr___api_Expr_api_Expr_api_Expr__ok (b : B_tree_SameExpr) (hb : B_tree_SameExpr_ok b) (n : Nat) : ok_slices_EqualFunc___api_Expr___api_Expr_api_Expr_api_Expr_ (f_slices_EqualFunc___api_Expr___api_Expr_api_Expr_api_Expr_ b n) := fun a0 a1 r h => mF_ok sound (sp_slices_EqualFunc___api_Expr___api_Expr_api_Expr_api_Expr__ok b hb n) code_slices_EqualFunc___api_Expr___api_Expr_api_Expr_api_Expr__fn code_slices_EqualFunc___api_Expr___api_Expr_api_Expr_api_Expr__body (forall_getD (d := .skip) 1 (by kernel_rfl) (fun i hi => match i, hi with | 0, _ => l_slices_EqualFunc___api_Expr___api_Expr_api_Expr_api_Expr__4_ok b hb n | i + 1, hi => absurd hi (by omega))) (no_scope (by kernel_rfl)) ((f_slices_EqualFunc___api_Expr___api_Expr_api_Expr_api_Expr__eq b n a0 a1).trans h) (fun v s hk => ⟨(K_slices_EqualFunc___api_Expr___api_Expr_api_Expr_api_Expr__wk hk).1, rfl, (K_slices_EqualFunc___api_Expr___api_Expr_api_Expr_api_Expr__wk hk).2⟩)
def unB_tree_SameExpr (n : Nat) : Nat → B_tree_SameExpr
  | 0 => { tree_SameExpr := fun _ _ _ _ _ _ _ _ => none, slices_EqualFunc___api_Expr___api_Expr_api_Expr_api_Expr_ := fun _ _ => none }
  | m + 1 => { tree_SameExpr := f_tree_SameExpr (unB_tree_SameExpr n m) n, slices_EqualFunc___api_Expr___api_Expr_api_Expr_api_Expr_ := f_slices_EqualFunc___api_Expr___api_Expr_api_Expr_api_Expr_ (unB_tree_SameExpr n m) n }
theorem unB_tree_SameExpr_ok (n : Nat) : ∀ m, B_tree_SameExpr_ok (unB_tree_SameExpr n m)
  | 0 => { tree_SameExpr := fun _ _ _ _ _ _ _ _ _ h => (nomatch (show none = some _ from h)), slices_EqualFunc___api_Expr___api_Expr_api_Expr_api_Expr_ := fun _ _ _ h => (nomatch (show none = some _ from h)) }
  | m + 1 => { tree_SameExpr := f_tree_SameExpr_ok _ (unB_tree_SameExpr_ok n m) n, slices_EqualFunc___api_Expr___api_Expr_api_Expr_api_Expr_ := f_slices_EqualFunc___api_Expr___api_Expr_api_Expr_api_Expr__ok _ (unB_tree_SameExpr_ok n m) n }
def m_tree_SameExpr (n : Nat) : Int → Int → ByteArray → List T → Int → Int → ByteArray → List T → Option (Bool) := (unB_tree_SameExpr n n).tree_SameExpr
theorem m_tree_SameExpr_ok (n : Nat) : ok_tree_SameExpr (m_tree_SameExpr n) := (unB_tree_SameExpr_ok n n).tree_SameExpr
def m_slices_EqualFunc___api_Expr___api_Expr_api_Expr_api_Expr_ (n : Nat) : List T → List T → Option (Bool) := (unB_tree_SameExpr n n).slices_EqualFunc___api_Expr___api_Expr_api_Expr_api_Expr_
theorem m_slices_EqualFunc___api_Expr___api_Expr_api_Expr_api_Expr__ok (n : Nat) : ok_slices_EqualFunc___api_Expr___api_Expr_api_Expr_api_Expr_ (m_slices_EqualFunc___api_Expr___api_Expr_api_Expr_api_Expr_ n) := (unB_tree_SameExpr_ok n n).slices_EqualFunc___api_Expr___api_Expr_api_Expr_api_Expr_


/-! suture/expr.Print -/
def m_expr_Print (n : Nat) (a0 : Int) (a1 : Int) (a2 : ByteArray) (a3 : List T) : Option (ByteArray) :=
Option.bind (m_expr_printed n a0 a1 a2 a3 0) fun r0 =>
Option.bind (m_lex_Tokens n r0) fun r1 =>
bif ((r1.2.2 : Int) != 0) then (
some (⟨#[]⟩ : ByteArray))
else (
Option.bind (m_expr_Read n r1.1 0) fun r2 =>
Option.bind (idx (!(!r2.2.2.2.2.2)) [.int .i64, .str, .int .i64, .cplx .f64] r1.1 r2.2.2.2.2.1) fun y3 =>
Option.bind (bif !(bif (!r2.2.2.2.2.2) then true else (((y3.cell 0).int : Int) != 4)) then m_tree_SameExpr n a0 a1 a2 a3 r2.1 r2.2.1 r2.2.2.1 r2.2.2.2.1 else some false) fun r4 =>
bif (bif (bif (!r2.2.2.2.2.2) then true else (((y3.cell 0).int : Int) != 4)) then true else (!r4)) then (
some (⟨#[]⟩ : ByteArray))
else (
some r0))
def enc_expr_Print (r : ByteArray) : V := (V.t (T.sc (.string r)))
def encS_expr_Print (r : ByteArray) : Sig := []
def ok_expr_Print (m : Int → Int → ByteArray → List T → Option (ByteArray)) : Prop := ∀ (a0 : Int) (a1 : Int) (a2 : ByteArray) (a3 : List T) (r : ByteArray), m a0 a1 a2 a3 = some r → FuncOk Tryd.prog 8 [(V.agg [(V.t (T.sc (.int .i64 a0))), (V.t (T.sc (.int .i64 a1))), (V.t (T.sc (.string a2))), (V.t (T.list a3))])] [] (enc_expr_Print r) (encS_expr_Print r)
def c_expr_Print (m : Int → Int → ByteArray → List T → Option (ByteArray)) (vs : List V) (sg : Sig) : Option CallM := bif Nat.beq vs.length 1 && Nat.beq sg.length 0 then Option.bind (V.aggN 4 (vs.getD 0 .any)) fun u0 => Option.bind (V.intOf .i64 (u0.getD 0 .any)) fun u1 => Option.bind (V.intOf .i64 (u0.getD 1 .any)) fun u2 => Option.bind (V.strOf (u0.getD 2 .any)) fun u3 => Option.bind (V.lstOf (u0.getD 3 .any)) fun u4 => some { α := ByteArray, m := m u1 u2 u3 u4, dflt := default, enc := fun y => ((V.t (T.sc (.string y))), []) } else none
theorem c_expr_Print_ok (m : Int → Int → ByteArray → List T → Option (ByteArray)) (hm : ok_expr_Print m) (vs : List V) (sg : Sig) (cm : CallM) (x : cm.α) (h : c_expr_Print m vs sg = some cm) (hx : cm.m = some x) : FuncOk Tryd.prog 8 vs sg (cm.enc x).1 (cm.enc x).2 := by
  unfold c_expr_Print at h
  have h0 := callee_sig h
  clear h
  obtain ⟨hl, hs, h⟩ := h0
  obtain ⟨u0, hu0, h⟩ := Option.bind_eq_some_iff.1 h
  obtain ⟨u1, hu1, h⟩ := Option.bind_eq_some_iff.1 h
  obtain ⟨u2, hu2, h⟩ := Option.bind_eq_some_iff.1 h
  obtain ⟨u3, hu3, h⟩ := Option.bind_eq_some_iff.1 h
  obtain ⟨u4, hu4, h⟩ := Option.bind_eq_some_iff.1 h
  simp only [Option.some.injEq] at h
  subst h
  exact (hm u1 u2 u3 u4 x hx).wk (args_wk hl (.cons (aggN_wk hu0 (.cons (intOf_wk hu1) (.cons (intOf_wk hu2) (.cons (strOf_wk hu3) (.cons (lstOf_wk hu4) .nil))))) .nil)) (wkSg_of hs .nil)
noncomputable def code_expr_Print : Code := Tryd.f8.body.getD .skip
noncomputable def sp_expr_Print (n : Nat) : Go.Eng.Spec := ⟨fun f vs sg => (match f with
    | 17 => c_expr_printed (m_expr_printed n) vs sg
    | 15 => c_lex_Tokens (m_lex_Tokens n) vs sg
    | 16 => c_expr_Read (m_expr_Read n) vs sg
    | 18 => c_tree_SameExpr (m_tree_SameExpr n) vs sg
    | _ => none), fun R key E sg K => (match key with
    | _ => none)⟩
theorem sp_expr_Print_ok (n : Nat) : CallsOk Tryd.prog (sp_expr_Print n) := by
  intro f vs sg cm x h hx
  simp only [sp_expr_Print] at h
  split at h
  · exact c_expr_printed_ok _ (m_expr_printed_ok n) vs sg cm x h hx
  · exact c_lex_Tokens_ok _ (m_lex_Tokens_ok n) vs sg cm x h hx
  · exact c_expr_Read_ok _ (m_expr_Read_ok n) vs sg cm x h hx
  · exact c_tree_SameExpr_ok _ (m_tree_SameExpr_ok n) vs sg cm x h hx
  · cases h
theorem code_expr_Print_fn : Tryd.prog.funcs[8]? = some Tryd.f8 := Tryd.func8
theorem code_expr_Print_body : Tryd.f8.body = some code_expr_Print := by kernel_rfl
theorem code_expr_Print_ok : CodeOk Tryd.prog code_expr_Print := (sound 8 _ _ code_expr_Print_fn code_expr_Print_body).1
def K_expr_Print (v : V) (s : Sig) : Option (ByteArray) := Option.bind (V.strOf v) fun u0 => some u0
theorem K_expr_Print_wk {v : V} {s : Sig} {r : ByteArray} (h : K_expr_Print v s = some r) : Wk v (enc_expr_Print r) ∧ WkS 0 s (encS_expr_Print r) := by
  unfold K_expr_Print at h
  obtain ⟨u0, hu0, h⟩ := Option.bind_eq_some_iff.1 h
  simp only [Option.some.injEq] at h
  subst h
  exact ⟨(strOf_wk hu0), (WkS.none _)⟩
theorem m_expr_Print_eq (n : Nat) (a0 : Int) (a1 : Int) (a2 : ByteArray) (a3 : List T) : mF Tryd.prog (sp_expr_Print n) 8 [(V.agg [(V.t (T.sc (.int .i64 a0))), (V.t (T.sc (.int .i64 a1))), (V.t (T.sc (.string a2))), (V.t (T.list a3))])] [] K_expr_Print = m_expr_Print n a0 a1 a2 a3 := by kernel_rfl
theorem m_expr_Print_ok (n : Nat) : ok_expr_Print (m_expr_Print n) := fun a0 a1 a2 a3 r h => mF_ok sound (sp_expr_Print_ok n) code_expr_Print_fn code_expr_Print_body (fun a ha => absurd ha (by rw [show loopsOf code_expr_Print = [] from by kernel_rfl]; simp)) (no_scope (by kernel_rfl)) ((m_expr_Print_eq n a0 a1 a2 a3).trans h) (fun v s hk => ⟨(K_expr_Print_wk hk).1, rfl, (K_expr_Print_wk hk).2⟩)


/-! suture/expr.Right -/
def m_expr_Right (n : Nat) (a0 : Int) (a1 : Int) (a2 : ByteArray) (a3 : List T) : Option (Bool) :=
Option.bind (m_expr_Print n a0 a1 a2 a3) fun r0 =>
some (!(ByteArray.toList r0 == ByteArray.toList (⟨#[]⟩ : ByteArray)))
def enc_expr_Right (r : Bool) : V := (V.t (T.sc (.bool r)))
def encS_expr_Right (r : Bool) : Sig := []
def ok_expr_Right (m : Int → Int → ByteArray → List T → Option (Bool)) : Prop := ∀ (a0 : Int) (a1 : Int) (a2 : ByteArray) (a3 : List T) (r : Bool), m a0 a1 a2 a3 = some r → FuncOk Tryd.prog 10 [(V.agg [(V.t (T.sc (.int .i64 a0))), (V.t (T.sc (.int .i64 a1))), (V.t (T.sc (.string a2))), (V.t (T.list a3))])] [] (enc_expr_Right r) (encS_expr_Right r)
def c_expr_Right (m : Int → Int → ByteArray → List T → Option (Bool)) (vs : List V) (sg : Sig) : Option CallM := bif Nat.beq vs.length 1 && Nat.beq sg.length 0 then Option.bind (V.aggN 4 (vs.getD 0 .any)) fun u0 => Option.bind (V.intOf .i64 (u0.getD 0 .any)) fun u1 => Option.bind (V.intOf .i64 (u0.getD 1 .any)) fun u2 => Option.bind (V.strOf (u0.getD 2 .any)) fun u3 => Option.bind (V.lstOf (u0.getD 3 .any)) fun u4 => some { α := Bool, m := m u1 u2 u3 u4, dflt := false, enc := fun y => ((V.t (T.sc (.bool y))), []) } else none
theorem c_expr_Right_ok (m : Int → Int → ByteArray → List T → Option (Bool)) (hm : ok_expr_Right m) (vs : List V) (sg : Sig) (cm : CallM) (x : cm.α) (h : c_expr_Right m vs sg = some cm) (hx : cm.m = some x) : FuncOk Tryd.prog 10 vs sg (cm.enc x).1 (cm.enc x).2 := by
  unfold c_expr_Right at h
  have h0 := callee_sig h
  clear h
  obtain ⟨hl, hs, h⟩ := h0
  obtain ⟨u0, hu0, h⟩ := Option.bind_eq_some_iff.1 h
  obtain ⟨u1, hu1, h⟩ := Option.bind_eq_some_iff.1 h
  obtain ⟨u2, hu2, h⟩ := Option.bind_eq_some_iff.1 h
  obtain ⟨u3, hu3, h⟩ := Option.bind_eq_some_iff.1 h
  obtain ⟨u4, hu4, h⟩ := Option.bind_eq_some_iff.1 h
  simp only [Option.some.injEq] at h
  subst h
  exact (hm u1 u2 u3 u4 x hx).wk (args_wk hl (.cons (aggN_wk hu0 (.cons (intOf_wk hu1) (.cons (intOf_wk hu2) (.cons (strOf_wk hu3) (.cons (lstOf_wk hu4) .nil))))) .nil)) (wkSg_of hs .nil)
noncomputable def code_expr_Right : Code := Tryd.f10.body.getD .skip
noncomputable def sp_expr_Right (n : Nat) : Go.Eng.Spec := ⟨fun f vs sg => (match f with
    | 8 => c_expr_Print (m_expr_Print n) vs sg
    | _ => none), fun R key E sg K => (match key with
    | _ => none)⟩
theorem sp_expr_Right_ok (n : Nat) : CallsOk Tryd.prog (sp_expr_Right n) := by
  intro f vs sg cm x h hx
  simp only [sp_expr_Right] at h
  split at h
  · exact c_expr_Print_ok _ (m_expr_Print_ok n) vs sg cm x h hx
  · cases h
theorem code_expr_Right_fn : Tryd.prog.funcs[10]? = some Tryd.f10 := Tryd.func10
theorem code_expr_Right_body : Tryd.f10.body = some code_expr_Right := by kernel_rfl
theorem code_expr_Right_ok : CodeOk Tryd.prog code_expr_Right := (sound 10 _ _ code_expr_Right_fn code_expr_Right_body).1
def K_expr_Right (v : V) (s : Sig) : Option (Bool) := Option.bind (V.boolOf v) fun u0 => some u0
theorem K_expr_Right_wk {v : V} {s : Sig} {r : Bool} (h : K_expr_Right v s = some r) : Wk v (enc_expr_Right r) ∧ WkS 0 s (encS_expr_Right r) := by
  unfold K_expr_Right at h
  obtain ⟨u0, hu0, h⟩ := Option.bind_eq_some_iff.1 h
  simp only [Option.some.injEq] at h
  subst h
  exact ⟨(boolOf_wk hu0), (WkS.none _)⟩
theorem m_expr_Right_eq (n : Nat) (a0 : Int) (a1 : Int) (a2 : ByteArray) (a3 : List T) : mF Tryd.prog (sp_expr_Right n) 10 [(V.agg [(V.t (T.sc (.int .i64 a0))), (V.t (T.sc (.int .i64 a1))), (V.t (T.sc (.string a2))), (V.t (T.list a3))])] [] K_expr_Right = m_expr_Right n a0 a1 a2 a3 := by kernel_rfl
theorem m_expr_Right_ok (n : Nat) : ok_expr_Right (m_expr_Right n) := fun a0 a1 a2 a3 r h => mF_ok sound (sp_expr_Right_ok n) code_expr_Right_fn code_expr_Right_body (fun a ha => absurd ha (by rw [show loopsOf code_expr_Right = [] from by kernel_rfl]; simp)) (no_scope (by kernel_rfl)) ((m_expr_Right_eq n a0 a1 a2 a3).trans h) (fun v s hk => ⟨(K_expr_Right_wk hk).1, rfl, (K_expr_Right_wk hk).2⟩)


/-! suture/suturelaw4.known -/
def m_suturelaw4_known_x (n : Nat) : Option (Bool) :=
Option.bind (m_suturelaw4_read n (⟨#[40, 120, 43, 49, 41, 42, 40, 45, 40, 50, 41, 41]⟩ : ByteArray)) fun r0 =>
Option.bind (bif (bif r0.2.2.2.2.2.1 then ((r0.2.2.2.2.1 : Int) == (IntKind.wrap .i64 (r0.2.2.2.2.2.2 - 1))) else false) then m_expr_Print n r0.1 r0.2.1 r0.2.2.1 r0.2.2.2.1 else some default) fun r1 =>
Option.bind (bif (bif (bif r0.2.2.2.2.2.1 then ((r0.2.2.2.2.1 : Int) == (IntKind.wrap .i64 (r0.2.2.2.2.2.2 - 1))) else false) then (ByteArray.toList r1 == ByteArray.toList (⟨#[40, 120, 32, 43, 32, 49, 41, 32, 42, 32, 45, 50]⟩ : ByteArray)) else false) then m_expr_Right n r0.1 r0.2.1 r0.2.2.1 r0.2.2.2.1 else some false) fun r2 =>
some (bif (bif (bif r0.2.2.2.2.2.1 then ((r0.2.2.2.2.1 : Int) == (IntKind.wrap .i64 (r0.2.2.2.2.2.2 - 1))) else false) then (ByteArray.toList r1 == ByteArray.toList (⟨#[40, 120, 32, 43, 32, 49, 41, 32, 42, 32, 45, 50]⟩ : ByteArray)) else false) then r2 else false)
def enc_suturelaw4_known_x (r : Bool) : V := (V.t (T.sc (.bool r)))
def encS_suturelaw4_known_x (r : Bool) : Sig := []
def ok_suturelaw4_known_x (m : Option (Bool)) : Prop := ∀ (r : Bool), m = some r → FuncOk Tryd.prog 9 [] [] (enc_suturelaw4_known_x r) (encS_suturelaw4_known_x r)
def c_suturelaw4_known_x (m : Option (Bool)) (vs : List V) (sg : Sig) : Option CallM := bif Nat.beq vs.length 0 && Nat.beq sg.length 0 then some { α := Bool, m := m, dflt := false, enc := fun y => ((V.t (T.sc (.bool y))), []) } else none
theorem c_suturelaw4_known_x_ok (m : Option (Bool)) (hm : ok_suturelaw4_known_x m) (vs : List V) (sg : Sig) (cm : CallM) (x : cm.α) (h : c_suturelaw4_known_x m vs sg = some cm) (hx : cm.m = some x) : FuncOk Tryd.prog 9 vs sg (cm.enc x).1 (cm.enc x).2 := by
  unfold c_suturelaw4_known_x at h
  have h0 := callee_sig h
  clear h
  obtain ⟨hl, hs, h⟩ := h0
  simp only [Option.some.injEq] at h
  subst h
  exact (hm x hx).wk (args_wk hl .nil) (wkSg_of hs .nil)
noncomputable def code_suturelaw4_known_x : Code := Tryd.f9.body.getD .skip
noncomputable def sp_suturelaw4_known_x (n : Nat) : Go.Eng.Spec := ⟨fun f vs sg => (match f with
    | 7 => c_suturelaw4_read (m_suturelaw4_read n) vs sg
    | 8 => c_expr_Print (m_expr_Print n) vs sg
    | 10 => c_expr_Right (m_expr_Right n) vs sg
    | _ => none), fun R key E sg K => (match key with
    | _ => none)⟩
theorem sp_suturelaw4_known_x_ok (n : Nat) : CallsOk Tryd.prog (sp_suturelaw4_known_x n) := by
  intro f vs sg cm x h hx
  simp only [sp_suturelaw4_known_x] at h
  split at h
  · exact c_suturelaw4_read_ok _ (m_suturelaw4_read_ok n) vs sg cm x h hx
  · exact c_expr_Print_ok _ (m_expr_Print_ok n) vs sg cm x h hx
  · exact c_expr_Right_ok _ (m_expr_Right_ok n) vs sg cm x h hx
  · cases h
theorem code_suturelaw4_known_x_fn : Tryd.prog.funcs[9]? = some Tryd.f9 := Tryd.func9
theorem code_suturelaw4_known_x_body : Tryd.f9.body = some code_suturelaw4_known_x := by kernel_rfl
theorem code_suturelaw4_known_x_ok : CodeOk Tryd.prog code_suturelaw4_known_x := (sound 9 _ _ code_suturelaw4_known_x_fn code_suturelaw4_known_x_body).1
def K_suturelaw4_known_x (v : V) (s : Sig) : Option (Bool) := Option.bind (V.boolOf v) fun u0 => some u0
theorem K_suturelaw4_known_x_wk {v : V} {s : Sig} {r : Bool} (h : K_suturelaw4_known_x v s = some r) : Wk v (enc_suturelaw4_known_x r) ∧ WkS 0 s (encS_suturelaw4_known_x r) := by
  unfold K_suturelaw4_known_x at h
  obtain ⟨u0, hu0, h⟩ := Option.bind_eq_some_iff.1 h
  simp only [Option.some.injEq] at h
  subst h
  exact ⟨(boolOf_wk hu0), (WkS.none _)⟩
theorem m_suturelaw4_known_x_eq (n : Nat) : mF Tryd.prog (sp_suturelaw4_known_x n) 9 [] [] K_suturelaw4_known_x = m_suturelaw4_known_x n := by kernel_rfl
theorem m_suturelaw4_known_x_ok (n : Nat) : ok_suturelaw4_known_x (m_suturelaw4_known_x n) := fun  r h => mF_ok sound (sp_suturelaw4_known_x_ok n) code_suturelaw4_known_x_fn code_suturelaw4_known_x_body (fun a ha => absurd ha (by rw [show loopsOf code_suturelaw4_known_x = [] from by kernel_rfl]; simp)) (no_scope (by kernel_rfl)) ((m_suturelaw4_known_x_eq n).trans h) (fun v s hk => ⟨(K_suturelaw4_known_x_wk hk).1, rfl, (K_suturelaw4_known_x_wk hk).2⟩)


/-! suture/suturelaw4.known: closed -/
def m_suturelaw4_known (n : Nat) : Option (Bool) := some true
def enc_suturelaw4_known (r : Bool) : V := (V.t (T.sc (.bool r)))
def encS_suturelaw4_known (r : Bool) : Sig := []
def ok_suturelaw4_known (m : Option (Bool)) : Prop := ∀ (r : Bool), m = some r → FuncOk Tryd.prog 9 [] [] (enc_suturelaw4_known r) (encS_suturelaw4_known r)
def c_suturelaw4_known (m : Option (Bool)) (vs : List V) (sg : Sig) : Option CallM := bif Nat.beq vs.length 0 && Nat.beq sg.length 0 then some { α := Bool, m := m, dflt := false, enc := fun y => ((V.t (T.sc (.bool y))), []) } else none
theorem c_suturelaw4_known_ok (m : Option (Bool)) (hm : ok_suturelaw4_known m) (vs : List V) (sg : Sig) (cm : CallM) (x : cm.α) (h : c_suturelaw4_known m vs sg = some cm) (hx : cm.m = some x) : FuncOk Tryd.prog 9 vs sg (cm.enc x).1 (cm.enc x).2 := by
  unfold c_suturelaw4_known at h
  have h0 := callee_sig h
  clear h
  obtain ⟨hl, hs, h⟩ := h0
  simp only [Option.some.injEq] at h
  subst h
  exact (hm x hx).wk (args_wk hl .nil) (wkSg_of hs .nil)
theorem m_suturelaw4_known_ok (n : Nat) : ok_suturelaw4_known (m_suturelaw4_known n) := fun r h => by
  cases h
  exact m_suturelaw4_known_x_ok 400 true (show m_suturelaw4_known_x 400 = some true from by kernel_rfl)


/-! suture/suturelaw4.ExprKnown -/
def l_suturelaw4_ExprKnown_x_2_B (n : Nat) (k : ByteArray × ByteArray × ByteArray × ByteArray × ByteArray × ByteArray × ByteArray × ByteArray × Int → Option (((Bool) ⊕ Unit))) : ByteArray × ByteArray × ByteArray × ByteArray × ByteArray × ByteArray × ByteArray × ByteArray × Int → Option (((Bool) ⊕ Unit)) := fun (s0, s1, s2, s3, s4, s5, s6, s7, s8) =>
bif (decide ((s8 : Int) < 8)) then (
Option.bind (idx1 true (.str) [(T.sc (.string s0)), (T.sc (.string s1)), (T.sc (.string s2)), (T.sc (.string s3)), (T.sc (.string s4)), (T.sc (.string s5)), (T.sc (.string s6)), (T.sc (.string s7))] s8) fun y0 =>
Option.bind (m_suturelaw4_read n y0.str) fun r1 =>
Option.bind (bif !(bif (!r1.2.2.2.2.2.1) then true else ((r1.2.2.2.2.1 : Int) != (IntKind.wrap .i64 (r1.2.2.2.2.2.2 - 1)))) then m_expr_Print n r1.1 r1.2.1 r1.2.2.1 r1.2.2.2.1 else some default) fun r2 =>
bif (bif (bif (!r1.2.2.2.2.2.1) then true else ((r1.2.2.2.2.1 : Int) != (IntKind.wrap .i64 (r1.2.2.2.2.2.2 - 1)))) then true else (!(ByteArray.toList r2 == ByteArray.toList y0.str))) then (
some (Sum.inl false))
else (
k (s0, s1, s2, s3, s4, s5, s6, s7, (IntKind.wrap .i64 (s8 + 1)))))
else (
some (Sum.inr ()))
def l_suturelaw4_ExprKnown_x_2 (n : Nat) : Nat → ByteArray × ByteArray × ByteArray × ByteArray × ByteArray × ByteArray × ByteArray × ByteArray × Int → Option (((Bool) ⊕ Unit))
  | 0, _ => none
  | m + 1, s => l_suturelaw4_ExprKnown_x_2_B n (l_suturelaw4_ExprKnown_x_2 n m) s
def m_suturelaw4_ExprKnown_x (n : Nat) : Option (Bool) :=
Option.bind (l_suturelaw4_ExprKnown_x_2 n n ((⟨#[49, 32, 45, 32, 40, 50, 32, 45, 32, 51, 41, 32, 45, 32, 120]⟩ : ByteArray), (⟨#[40, 49, 32, 60, 32, 50, 41, 32, 61, 61, 32, 40, 121, 32, 61, 61, 32, 48, 41]⟩ : ByteArray), (⟨#[97, 32, 42, 32, 40, 98, 32, 47, 32, 99, 32, 37, 32, 100, 41, 32, 47, 32, 101]⟩ : ByteArray), (⟨#[45, 45, 120, 32, 42, 32, 45, 40, 49, 32, 43, 32, 50, 41]⟩ : ByteArray), (⟨#[45, 40, 45, 49, 32, 60, 32, 50, 41, 32, 43, 32, 48]⟩ : ByteArray), (⟨#[120]⟩ : ByteArray), (⟨#[49, 32, 45, 32, 50, 32, 42, 32, 40, 51, 32, 43, 32, 52, 41, 32, 60, 32, 53, 32, 37, 32, 54]⟩ : ByteArray), (⟨#[40, 97, 32, 61, 61, 32, 98, 41, 32, 42, 32, 99]⟩ : ByteArray), 0)) fun x3 =>
Sum.elim (fun p4 => 
some p4) (fun x3' => (fun p5 => 
Option.bind (m_suturelaw4_read n (⟨#[120, 32, 43, 32, 41]⟩ : ByteArray)) fun r6 =>
Option.bind (m_suturelaw4_read n (⟨#[120, 32, 121]⟩ : ByteArray)) fun r7 =>
Option.bind (m_suturelaw4_read n (⟨#[49, 32, 60, 32, 50, 32, 60, 32, 51]⟩ : ByteArray)) fun r8 =>
Option.bind (m_suturelaw4_read n (⟨#[40, 32, 120]⟩ : ByteArray)) fun r9 =>
Option.bind (m_suturelaw4_read n (⟨#[103, 111]⟩ : ByteArray)) fun r10 =>
Option.bind (m_suturelaw4_read n (⟨#[40, 40, 40, 40, 40, 40, 40, 40, 120, 41, 41, 41, 41, 41, 41, 41, 41]⟩ : ByteArray)) fun r11 =>
Option.bind (m_suturelaw4_read n (⟨#[40, 40, 40, 40, 40, 40, 40, 40, 40, 120, 41, 41, 41, 41, 41, 41, 41, 41, 41]⟩ : ByteArray)) fun r12 =>
Option.bind (m_suturelaw4_read n (⟨#[45, 45, 45, 45, 45, 45, 45, 45, 32, 45, 120]⟩ : ByteArray)) fun r13 =>
Option.bind (m_suturelaw4_read n (⟨#[]⟩ : ByteArray)) fun r14 =>
Option.bind (m_suturelaw4_known n) fun r15 =>
Option.bind (bif (bif (bif (bif (bif (bif (bif (bif (bif (bif (bif (bif (bif (bif (bif (bif (bif (bif (bif r15 then (!r6.2.2.2.2.2.1) else false) then ((r6.2.2.2.2.1 : Int) == 2) else false) then r7.2.2.2.2.2.1 else false) then ((r7.2.2.2.2.1 : Int) == 1) else false) then r8.2.2.2.2.2.1 else false) then ((r8.2.2.2.2.1 : Int) == 3) else false) then (!r9.2.2.2.2.2.1) else false) then ((r9.2.2.2.2.1 : Int) == 2) else false) then (!r10.2.2.2.2.2.1) else false) then ((r10.2.2.2.2.1 : Int) == 0) else false) then r11.2.2.2.2.2.1 else false) then ((r11.2.2.2.2.1 : Int) == 17) else false) then (!r12.2.2.2.2.2.1) else false) then ((r12.2.2.2.2.1 : Int) == 8) else false) then (!r13.2.2.2.2.2.1) else false) then ((r13.2.2.2.2.1 : Int) == 8) else false) then (!r14.2.2.2.2.2.1) else false) then ((r14.2.2.2.2.1 : Int) == 0) else false) then m_expr_Print n 0 0 (⟨#[]⟩ : ByteArray) ([] : List T) else some default) fun r16 =>
Option.bind (bif (bif (bif (bif (bif (bif (bif (bif (bif (bif (bif (bif (bif (bif (bif (bif (bif (bif (bif (bif r15 then (!r6.2.2.2.2.2.1) else false) then ((r6.2.2.2.2.1 : Int) == 2) else false) then r7.2.2.2.2.2.1 else false) then ((r7.2.2.2.2.1 : Int) == 1) else false) then r8.2.2.2.2.2.1 else false) then ((r8.2.2.2.2.1 : Int) == 3) else false) then (!r9.2.2.2.2.2.1) else false) then ((r9.2.2.2.2.1 : Int) == 2) else false) then (!r10.2.2.2.2.2.1) else false) then ((r10.2.2.2.2.1 : Int) == 0) else false) then r11.2.2.2.2.2.1 else false) then ((r11.2.2.2.2.1 : Int) == 17) else false) then (!r12.2.2.2.2.2.1) else false) then ((r12.2.2.2.2.1 : Int) == 8) else false) then (!r13.2.2.2.2.2.1) else false) then ((r13.2.2.2.2.1 : Int) == 8) else false) then (!r14.2.2.2.2.2.1) else false) then ((r14.2.2.2.2.1 : Int) == 0) else false) then (ByteArray.toList r16 == ByteArray.toList (⟨#[]⟩ : ByteArray)) else false) then m_expr_Print n 1 (-1) (⟨#[]⟩ : ByteArray) ([] : List T) else some default) fun r17 =>
Option.bind (bif (bif (bif (bif (bif (bif (bif (bif (bif (bif (bif (bif (bif (bif (bif (bif (bif (bif (bif (bif (bif r15 then (!r6.2.2.2.2.2.1) else false) then ((r6.2.2.2.2.1 : Int) == 2) else false) then r7.2.2.2.2.2.1 else false) then ((r7.2.2.2.2.1 : Int) == 1) else false) then r8.2.2.2.2.2.1 else false) then ((r8.2.2.2.2.1 : Int) == 3) else false) then (!r9.2.2.2.2.2.1) else false) then ((r9.2.2.2.2.1 : Int) == 2) else false) then (!r10.2.2.2.2.2.1) else false) then ((r10.2.2.2.2.1 : Int) == 0) else false) then r11.2.2.2.2.2.1 else false) then ((r11.2.2.2.2.1 : Int) == 17) else false) then (!r12.2.2.2.2.2.1) else false) then ((r12.2.2.2.2.1 : Int) == 8) else false) then (!r13.2.2.2.2.2.1) else false) then ((r13.2.2.2.2.1 : Int) == 8) else false) then (!r14.2.2.2.2.2.1) else false) then ((r14.2.2.2.2.1 : Int) == 0) else false) then (ByteArray.toList r16 == ByteArray.toList (⟨#[]⟩ : ByteArray)) else false) then (ByteArray.toList r17 == ByteArray.toList (⟨#[]⟩ : ByteArray)) else false) then m_expr_Right n 2 0 (⟨#[103, 111]⟩ : ByteArray) ([] : List T) else some false) fun r18 =>
Option.bind (bif (bif (bif (bif (bif (bif (bif (bif (bif (bif (bif (bif (bif (bif (bif (bif (bif (bif (bif (bif (bif (bif r15 then (!r6.2.2.2.2.2.1) else false) then ((r6.2.2.2.2.1 : Int) == 2) else false) then r7.2.2.2.2.2.1 else false) then ((r7.2.2.2.2.1 : Int) == 1) else false) then r8.2.2.2.2.2.1 else false) then ((r8.2.2.2.2.1 : Int) == 3) else false) then (!r9.2.2.2.2.2.1) else false) then ((r9.2.2.2.2.1 : Int) == 2) else false) then (!r10.2.2.2.2.2.1) else false) then ((r10.2.2.2.2.1 : Int) == 0) else false) then r11.2.2.2.2.2.1 else false) then ((r11.2.2.2.2.1 : Int) == 17) else false) then (!r12.2.2.2.2.2.1) else false) then ((r12.2.2.2.2.1 : Int) == 8) else false) then (!r13.2.2.2.2.2.1) else false) then ((r13.2.2.2.2.1 : Int) == 8) else false) then (!r14.2.2.2.2.2.1) else false) then ((r14.2.2.2.2.1 : Int) == 0) else false) then (ByteArray.toList r16 == ByteArray.toList (⟨#[]⟩ : ByteArray)) else false) then (ByteArray.toList r17 == ByteArray.toList (⟨#[]⟩ : ByteArray)) else false) then (!r18) else false) then m_expr_Right n 2 0 (⟨#[120, 32, 121]⟩ : ByteArray) ([] : List T) else some false) fun r19 =>
Option.bind (bif (bif (bif (bif (bif (bif (bif (bif (bif (bif (bif (bif (bif (bif (bif (bif (bif (bif (bif (bif (bif (bif (bif r15 then (!r6.2.2.2.2.2.1) else false) then ((r6.2.2.2.2.1 : Int) == 2) else false) then r7.2.2.2.2.2.1 else false) then ((r7.2.2.2.2.1 : Int) == 1) else false) then r8.2.2.2.2.2.1 else false) then ((r8.2.2.2.2.1 : Int) == 3) else false) then (!r9.2.2.2.2.2.1) else false) then ((r9.2.2.2.2.1 : Int) == 2) else false) then (!r10.2.2.2.2.2.1) else false) then ((r10.2.2.2.2.1 : Int) == 0) else false) then r11.2.2.2.2.2.1 else false) then ((r11.2.2.2.2.1 : Int) == 17) else false) then (!r12.2.2.2.2.2.1) else false) then ((r12.2.2.2.2.1 : Int) == 8) else false) then (!r13.2.2.2.2.2.1) else false) then ((r13.2.2.2.2.1 : Int) == 8) else false) then (!r14.2.2.2.2.2.1) else false) then ((r14.2.2.2.2.1 : Int) == 0) else false) then (ByteArray.toList r16 == ByteArray.toList (⟨#[]⟩ : ByteArray)) else false) then (ByteArray.toList r17 == ByteArray.toList (⟨#[]⟩ : ByteArray)) else false) then (!r18) else false) then (!r19) else false) then m_expr_Right n 1 0 (⟨#[120]⟩ : ByteArray) ([] : List T) else some false) fun r20 =>
Option.bind (bif (bif (bif (bif (bif (bif (bif (bif (bif (bif (bif (bif (bif (bif (bif (bif (bif (bif (bif (bif (bif (bif (bif (bif r15 then (!r6.2.2.2.2.2.1) else false) then ((r6.2.2.2.2.1 : Int) == 2) else false) then r7.2.2.2.2.2.1 else false) then ((r7.2.2.2.2.1 : Int) == 1) else false) then r8.2.2.2.2.2.1 else false) then ((r8.2.2.2.2.1 : Int) == 3) else false) then (!r9.2.2.2.2.2.1) else false) then ((r9.2.2.2.2.1 : Int) == 2) else false) then (!r10.2.2.2.2.2.1) else false) then ((r10.2.2.2.2.1 : Int) == 0) else false) then r11.2.2.2.2.2.1 else false) then ((r11.2.2.2.2.1 : Int) == 17) else false) then (!r12.2.2.2.2.2.1) else false) then ((r12.2.2.2.2.1 : Int) == 8) else false) then (!r13.2.2.2.2.2.1) else false) then ((r13.2.2.2.2.1 : Int) == 8) else false) then (!r14.2.2.2.2.2.1) else false) then ((r14.2.2.2.2.1 : Int) == 0) else false) then (ByteArray.toList r16 == ByteArray.toList (⟨#[]⟩ : ByteArray)) else false) then (ByteArray.toList r17 == ByteArray.toList (⟨#[]⟩ : ByteArray)) else false) then (!r18) else false) then (!r19) else false) then (!r20) else false) then m_expr_Right n 3 0 (⟨#[]⟩ : ByteArray) ([] : List T) else some false) fun r21 =>
some (bif (bif (bif (bif (bif (bif (bif (bif (bif (bif (bif (bif (bif (bif (bif (bif (bif (bif (bif (bif (bif (bif (bif (bif r15 then (!r6.2.2.2.2.2.1) else false) then ((r6.2.2.2.2.1 : Int) == 2) else false) then r7.2.2.2.2.2.1 else false) then ((r7.2.2.2.2.1 : Int) == 1) else false) then r8.2.2.2.2.2.1 else false) then ((r8.2.2.2.2.1 : Int) == 3) else false) then (!r9.2.2.2.2.2.1) else false) then ((r9.2.2.2.2.1 : Int) == 2) else false) then (!r10.2.2.2.2.2.1) else false) then ((r10.2.2.2.2.1 : Int) == 0) else false) then r11.2.2.2.2.2.1 else false) then ((r11.2.2.2.2.1 : Int) == 17) else false) then (!r12.2.2.2.2.2.1) else false) then ((r12.2.2.2.2.1 : Int) == 8) else false) then (!r13.2.2.2.2.2.1) else false) then ((r13.2.2.2.2.1 : Int) == 8) else false) then (!r14.2.2.2.2.2.1) else false) then ((r14.2.2.2.2.1 : Int) == 0) else false) then (ByteArray.toList r16 == ByteArray.toList (⟨#[]⟩ : ByteArray)) else false) then (ByteArray.toList r17 == ByteArray.toList (⟨#[]⟩ : ByteArray)) else false) then (!r18) else false) then (!r19) else false) then (!r20) else false) then (!r21) else false)) x3') x3
def enc_suturelaw4_ExprKnown_x (r : Bool) : V := (V.t (T.sc (.bool r)))
def encS_suturelaw4_ExprKnown_x (r : Bool) : Sig := []
def ok_suturelaw4_ExprKnown_x (m : Option (Bool)) : Prop := ∀ (r : Bool), m = some r → FuncOk Tryd.prog 3 [] [] (enc_suturelaw4_ExprKnown_x r) (encS_suturelaw4_ExprKnown_x r)
def c_suturelaw4_ExprKnown_x (m : Option (Bool)) (vs : List V) (sg : Sig) : Option CallM := bif Nat.beq vs.length 0 && Nat.beq sg.length 0 then some { α := Bool, m := m, dflt := false, enc := fun y => ((V.t (T.sc (.bool y))), []) } else none
theorem c_suturelaw4_ExprKnown_x_ok (m : Option (Bool)) (hm : ok_suturelaw4_ExprKnown_x m) (vs : List V) (sg : Sig) (cm : CallM) (x : cm.α) (h : c_suturelaw4_ExprKnown_x m vs sg = some cm) (hx : cm.m = some x) : FuncOk Tryd.prog 3 vs sg (cm.enc x).1 (cm.enc x).2 := by
  unfold c_suturelaw4_ExprKnown_x at h
  have h0 := callee_sig h
  clear h
  obtain ⟨hl, hs, h⟩ := h0
  simp only [Option.some.injEq] at h
  subst h
  exact (hm x hx).wk (args_wk hl .nil) (wkSg_of hs .nil)
noncomputable def code_suturelaw4_ExprKnown_x : Code := Tryd.f3.body.getD .skip
def l_suturelaw4_ExprKnown_x_2_S (n : Nat) (R : Type) (E : SEnv) (sg : Sig) (K : Ex → SEnv → Sig → Option R) : Option R := Option.bind (V.aggN 8 (SEnv.at E 43)) fun u0 => Option.bind (V.strOf (u0.getD 0 .any)) fun u1 => Option.bind (V.strOf (u0.getD 1 .any)) fun u2 => Option.bind (V.strOf (u0.getD 2 .any)) fun u3 => Option.bind (V.strOf (u0.getD 3 .any)) fun u4 => Option.bind (V.strOf (u0.getD 4 .any)) fun u5 => Option.bind (V.strOf (u0.getD 5 .any)) fun u6 => Option.bind (V.strOf (u0.getD 6 .any)) fun u7 => Option.bind (V.strOf (u0.getD 7 .any)) fun u8 => Option.bind (V.intOf .i64 (SEnv.at E 44)) fun u9 => Option.bind (l_suturelaw4_ExprKnown_x_2 n n (u1, u2, u3, u4, u5, u6, u7, u8, u9)) fun y => Sum.elim (fun p0 => K .ret [(0, (V.t (T.sc (.bool p0))))] []) (fun y' => (fun p1 => K (.exit 0) [] []) y') y
noncomputable def sp_suturelaw4_ExprKnown_x (n : Nat) : Go.Eng.Spec := ⟨fun f vs sg => (match f with
    | 7 => c_suturelaw4_read (m_suturelaw4_read n) vs sg
    | 8 => c_expr_Print (m_expr_Print n) vs sg
    | 9 => c_suturelaw4_known (m_suturelaw4_known n) vs sg
    | 10 => c_expr_Right (m_expr_Right n) vs sg
    | _ => none), fun R key E sg K => (match key with
    | 2 => l_suturelaw4_ExprKnown_x_2_S n R E sg K
    | _ => none)⟩
theorem sp_suturelaw4_ExprKnown_x_ok (n : Nat) : CallsOk Tryd.prog (sp_suturelaw4_ExprKnown_x n) := by
  intro f vs sg cm x h hx
  simp only [sp_suturelaw4_ExprKnown_x] at h
  split at h
  · exact c_suturelaw4_read_ok _ (m_suturelaw4_read_ok n) vs sg cm x h hx
  · exact c_expr_Print_ok _ (m_expr_Print_ok n) vs sg cm x h hx
  · exact c_suturelaw4_known_ok _ (m_suturelaw4_known_ok n) vs sg cm x h hx
  · exact c_expr_Right_ok _ (m_expr_Right_ok n) vs sg cm x h hx
  · cases h
theorem code_suturelaw4_ExprKnown_x_fn : Tryd.prog.funcs[3]? = some Tryd.f3 := Tryd.func3
theorem code_suturelaw4_ExprKnown_x_body : Tryd.f3.body = some code_suturelaw4_ExprKnown_x := by kernel_rfl
theorem code_suturelaw4_ExprKnown_x_ok : CodeOk Tryd.prog code_suturelaw4_ExprKnown_x := (sound 3 _ _ code_suturelaw4_ExprKnown_x_fn code_suturelaw4_ExprKnown_x_body).1
noncomputable def code_l_suturelaw4_ExprKnown_x_2 : Code := (loopsOf code_suturelaw4_ExprKnown_x).getD 0 .skip
theorem code_l_suturelaw4_ExprKnown_x_2_ok : CodeOk Tryd.prog code_l_suturelaw4_ExprKnown_x_2 := codeOk_loops code_suturelaw4_ExprKnown_x_ok _ (getD_mem (by kernel_rfl))
def l_suturelaw4_ExprKnown_x_2_K (k : ByteArray × ByteArray × ByteArray × ByteArray × ByteArray × ByteArray × ByteArray × ByteArray × Int → Option (((Bool) ⊕ Unit))) : Ex → SEnv → Sig → Option (((Bool) ⊕ Unit)) := fun x E sg => match x with
  | .normal => Option.bind (V.aggN 8 (SEnv.at E 43)) fun u0 => Option.bind (V.strOf (u0.getD 0 .any)) fun u1 => Option.bind (V.strOf (u0.getD 1 .any)) fun u2 => Option.bind (V.strOf (u0.getD 2 .any)) fun u3 => Option.bind (V.strOf (u0.getD 3 .any)) fun u4 => Option.bind (V.strOf (u0.getD 4 .any)) fun u5 => Option.bind (V.strOf (u0.getD 5 .any)) fun u6 => Option.bind (V.strOf (u0.getD 6 .any)) fun u7 => Option.bind (V.strOf (u0.getD 7 .any)) fun u8 => Option.bind (V.intOf .i64 (SEnv.at E 44)) fun u9 => k (u1, u2, u3, u4, u5, u6, u7, u8, u9)
  | .ret => Option.bind (V.boolOf (SEnv.at E 0)) fun u0 => some (Sum.inl u0)
  | (.exit 0) => some (Sum.inr ())
  | _ => none
theorem l_suturelaw4_ExprKnown_x_2_eq (n : Nat) (k : ByteArray × ByteArray × ByteArray × ByteArray × ByteArray × ByteArray × ByteArray × ByteArray × Int → Option (((Bool) ⊕ Unit))) (s0 : ByteArray) (s1 : ByteArray) (s2 : ByteArray) (s3 : ByteArray) (s4 : ByteArray) (s5 : ByteArray) (s6 : ByteArray) (s7 : ByteArray) (s8 : Int) : mX Tryd.prog (sp_suturelaw4_ExprKnown_x n) 223 code_l_suturelaw4_ExprKnown_x_2 [(43, (V.agg [(V.t (T.sc (.string s0))), (V.t (T.sc (.string s1))), (V.t (T.sc (.string s2))), (V.t (T.sc (.string s3))), (V.t (T.sc (.string s4))), (V.t (T.sc (.string s5))), (V.t (T.sc (.string s6))), (V.t (T.sc (.string s7)))])), (44, (V.t (T.sc (.int .i64 s8))))] [] (l_suturelaw4_ExprKnown_x_2_K k) = l_suturelaw4_ExprKnown_x_2_B n k (s0, s1, s2, s3, s4, s5, s6, s7, s8) := by kernel_rfl
def l_suturelaw4_ExprKnown_x_2_Q (x : ((Bool) ⊕ Unit)) (ex : Ex) (e : Env) (s : Sig) : Prop := Sum.elim (fun p0 => (ex = .ret ∧ e = SEnv.env 223 [(0, (V.t (T.sc (.bool p0))))] ∧ s = [])) (fun x' => (fun p1 => (ex = (.exit 0) ∧ e = SEnv.env 223 [] ∧ s = [])) x') x
theorem l_suturelaw4_ExprKnown_x_2_run (n : Nat) : ∀ (m : Nat) (s0 : ByteArray) (s1 : ByteArray) (s2 : ByteArray) (s3 : ByteArray) (s4 : ByteArray) (s5 : ByteArray) (s6 : ByteArray) (s7 : ByteArray) (s8 : Int) (x : ((Bool) ⊕ Unit)), l_suturelaw4_ExprKnown_x_2 n m (s0, s1, s2, s3, s4, s5, s6, s7, s8) = some x → SemL Tryd.prog 0 code_l_suturelaw4_ExprKnown_x_2 (SEnv.env 223 [(43, (V.agg [(V.t (T.sc (.string s0))), (V.t (T.sc (.string s1))), (V.t (T.sc (.string s2))), (V.t (T.sc (.string s3))), (V.t (T.sc (.string s4))), (V.t (T.sc (.string s5))), (V.t (T.sc (.string s6))), (V.t (T.sc (.string s7)))])), (44, (V.t (T.sc (.int .i64 s8))))]) [] (l_suturelaw4_ExprKnown_x_2_Q x)
  | 0, s0, s1, s2, s3, s4, s5, s6, s7, s8, x, h => by cases h
  | m + 1, s0, s1, s2, s3, s4, s5, s6, s7, s8, x, h => by
    refine loop_step (sp_suturelaw4_ExprKnown_x_ok n) code_l_suturelaw4_ExprKnown_x_2_ok (fun a ha => absurd ha (by rw [show loopsOf code_l_suturelaw4_ExprKnown_x_2 = [] from by kernel_rfl]; simp)) (no_scope (by kernel_rfl)) ((l_suturelaw4_ExprKnown_x_2_eq n _ s0 s1 s2 s3 s4 s5 s6 s7 s8).trans h) (fun E sg h => ?_) (fun ex E sg hne h => ?_)
    · simp only [l_suturelaw4_ExprKnown_x_2_K] at h
      obtain ⟨u0, hu0, h⟩ := Option.bind_eq_some_iff.1 h
      obtain ⟨u1, hu1, h⟩ := Option.bind_eq_some_iff.1 h
      obtain ⟨u2, hu2, h⟩ := Option.bind_eq_some_iff.1 h
      obtain ⟨u3, hu3, h⟩ := Option.bind_eq_some_iff.1 h
      obtain ⟨u4, hu4, h⟩ := Option.bind_eq_some_iff.1 h
      obtain ⟨u5, hu5, h⟩ := Option.bind_eq_some_iff.1 h
      obtain ⟨u6, hu6, h⟩ := Option.bind_eq_some_iff.1 h
      obtain ⟨u7, hu7, h⟩ := Option.bind_eq_some_iff.1 h
      obtain ⟨u8, hu8, h⟩ := Option.bind_eq_some_iff.1 h
      obtain ⟨u9, hu9, h⟩ := Option.bind_eq_some_iff.1 h
      exact SemL.pre (k := 0) (by decide) (WkA.env (WkA.cons (aggN_wk hu0 (.cons (strOf_wk hu1) (.cons (strOf_wk hu2) (.cons (strOf_wk hu3) (.cons (strOf_wk hu4) (.cons (strOf_wk hu5) (.cons (strOf_wk hu6) (.cons (strOf_wk hu7) (.cons (strOf_wk hu8) .nil))))))))) rfl (WkA.cons (intOf_wk hu9) rfl WkA.nil)) 223) (WkS.none _) (l_suturelaw4_ExprKnown_x_2_run n m _ _ _ _ _ _ _ _ _ x h)
    · unfold l_suturelaw4_ExprKnown_x_2_K at h
      split at h
      · exact absurd rfl hne
      · obtain ⟨u0, hu0, h⟩ := Option.bind_eq_some_iff.1 h
        simp only [Option.some.injEq] at h
        subst h
        exact ⟨0, _, _, by decide, WkA.env (WkA.cons (boolOf_wk hu0) rfl WkA.nil) 223, (WkS.none _), rfl, rfl, rfl⟩
      · simp only [Option.some.injEq] at h
        subst h
        exact ⟨0, _, _, by decide, WkA.env WkA.nil 223, (WkS.none _), rfl, rfl, rfl⟩
      · cases h
theorem l_suturelaw4_ExprKnown_x_2_ok (n : Nat) : LoopOk Tryd.prog (sp_suturelaw4_ExprKnown_x n) 0 223 code_l_suturelaw4_ExprKnown_x_2 := by
    intro R key E sg K r hk h
    rw [show Go.Eng.keyOf code_l_suturelaw4_ExprKnown_x_2 = some 2 from by kernel_rfl] at hk
    cases hk
    have h : l_suturelaw4_ExprKnown_x_2_S n R E sg K = some r := h
    unfold l_suturelaw4_ExprKnown_x_2_S at h
    obtain ⟨u0, hu0, h⟩ := Option.bind_eq_some_iff.1 h
    obtain ⟨u1, hu1, h⟩ := Option.bind_eq_some_iff.1 h
    obtain ⟨u2, hu2, h⟩ := Option.bind_eq_some_iff.1 h
    obtain ⟨u3, hu3, h⟩ := Option.bind_eq_some_iff.1 h
    obtain ⟨u4, hu4, h⟩ := Option.bind_eq_some_iff.1 h
    obtain ⟨u5, hu5, h⟩ := Option.bind_eq_some_iff.1 h
    obtain ⟨u6, hu6, h⟩ := Option.bind_eq_some_iff.1 h
    obtain ⟨u7, hu7, h⟩ := Option.bind_eq_some_iff.1 h
    obtain ⟨u8, hu8, h⟩ := Option.bind_eq_some_iff.1 h
    obtain ⟨u9, hu9, h⟩ := Option.bind_eq_some_iff.1 h
    obtain ⟨x, hx, h⟩ := Option.bind_eq_some_iff.1 h
    refine (SemL.pre (k := 0) (by decide) (WkA.env (WkA.cons (aggN_wk hu0 (.cons (strOf_wk hu1) (.cons (strOf_wk hu2) (.cons (strOf_wk hu3) (.cons (strOf_wk hu4) (.cons (strOf_wk hu5) (.cons (strOf_wk hu6) (.cons (strOf_wk hu7) (.cons (strOf_wk hu8) .nil))))))))) rfl (WkA.cons (intOf_wk hu9) rfl WkA.nil)) 223) (WkS.none _) (l_suturelaw4_ExprKnown_x_2_run n n _ _ _ _ _ _ _ _ _ x hx)).mono ?_
    intro ex e s hq
    rcases x with x | x <;> (obtain ⟨rfl, rfl, rfl⟩ := hq; exact ⟨_, rfl, h⟩) -- 5
def K_suturelaw4_ExprKnown_x (v : V) (s : Sig) : Option (Bool) := Option.bind (V.boolOf v) fun u0 => some u0
theorem K_suturelaw4_ExprKnown_x_wk {v : V} {s : Sig} {r : Bool} (h : K_suturelaw4_ExprKnown_x v s = some r) : Wk v (enc_suturelaw4_ExprKnown_x r) ∧ WkS 0 s (encS_suturelaw4_ExprKnown_x r) := by
  unfold K_suturelaw4_ExprKnown_x at h
  obtain ⟨u0, hu0, h⟩ := Option.bind_eq_some_iff.1 h
  simp only [Option.some.injEq] at h
  subst h
  exact ⟨(boolOf_wk hu0), (WkS.none _)⟩
theorem m_suturelaw4_ExprKnown_x_eq (n : Nat) : mF Tryd.prog (sp_suturelaw4_ExprKnown_x n) 3 [] [] K_suturelaw4_ExprKnown_x = m_suturelaw4_ExprKnown_x n := by kernel_rfl
theorem m_suturelaw4_ExprKnown_x_ok (n : Nat) : ok_suturelaw4_ExprKnown_x (m_suturelaw4_ExprKnown_x n) := fun  r h => mF_ok sound (sp_suturelaw4_ExprKnown_x_ok n) code_suturelaw4_ExprKnown_x_fn code_suturelaw4_ExprKnown_x_body (forall_getD (d := .skip) 1 (by kernel_rfl) (fun i hi => match i, hi with | 0, _ => l_suturelaw4_ExprKnown_x_2_ok n | i + 1, hi => absurd hi (by omega))) (no_scope (by kernel_rfl)) ((m_suturelaw4_ExprKnown_x_eq n).trans h) (fun v s hk => ⟨(K_suturelaw4_ExprKnown_x_wk hk).1, rfl, (K_suturelaw4_ExprKnown_x_wk hk).2⟩)


/-! suture/suturelaw4.ExprKnown: closed -/
def m_suturelaw4_ExprKnown (n : Nat) : Option (Bool) := some true
def enc_suturelaw4_ExprKnown (r : Bool) : V := (V.t (T.sc (.bool r)))
def encS_suturelaw4_ExprKnown (r : Bool) : Sig := []
def ok_suturelaw4_ExprKnown (m : Option (Bool)) : Prop := ∀ (r : Bool), m = some r → FuncOk Tryd.prog 3 [] [] (enc_suturelaw4_ExprKnown r) (encS_suturelaw4_ExprKnown r)
def c_suturelaw4_ExprKnown (m : Option (Bool)) (vs : List V) (sg : Sig) : Option CallM := bif Nat.beq vs.length 0 && Nat.beq sg.length 0 then some { α := Bool, m := m, dflt := false, enc := fun y => ((V.t (T.sc (.bool y))), []) } else none
theorem c_suturelaw4_ExprKnown_ok (m : Option (Bool)) (hm : ok_suturelaw4_ExprKnown m) (vs : List V) (sg : Sig) (cm : CallM) (x : cm.α) (h : c_suturelaw4_ExprKnown m vs sg = some cm) (hx : cm.m = some x) : FuncOk Tryd.prog 3 vs sg (cm.enc x).1 (cm.enc x).2 := by
  unfold c_suturelaw4_ExprKnown at h
  have h0 := callee_sig h
  clear h
  obtain ⟨hl, hs, h⟩ := h0
  simp only [Option.some.injEq] at h
  subst h
  exact (hm x hx).wk (args_wk hl .nil) (wkSg_of hs .nil)
theorem m_suturelaw4_ExprKnown_ok (n : Nat) : ok_suturelaw4_ExprKnown (m_suturelaw4_ExprKnown n) := fun r h => by
  cases h
  exact m_suturelaw4_ExprKnown_x_ok 400 true (show m_suturelaw4_ExprKnown_x 400 = some true from by kernel_rfl)


/-! suture/suturehand.Pick -/
def m_suturehand_Pick (n : Nat) (a0 : Int) (a1 : Int) : Option (Int) :=
must true (!decide (a1 = 0)) (bif (decide (((Int.tmod a0 a1) : Int) < 0)) then (
some (IntKind.wrap .i64 ((Int.tmod a0 a1) + a1)))
else (
some (Int.tmod a0 a1)))
def enc_suturehand_Pick (r : Int) : V := (V.t (T.sc (.int .i64 r)))
def encS_suturehand_Pick (r : Int) : Sig := []
def ok_suturehand_Pick (m : Int → Int → Option (Int)) : Prop := ∀ (a0 : Int) (a1 : Int) (r : Int), m a0 a1 = some r → FuncOk Tryd.prog 14 [(V.t (T.sc (.int .i64 a0))), (V.t (T.sc (.int .i64 a1)))] [] (enc_suturehand_Pick r) (encS_suturehand_Pick r)
def c_suturehand_Pick (m : Int → Int → Option (Int)) (vs : List V) (sg : Sig) : Option CallM := bif Nat.beq vs.length 2 && Nat.beq sg.length 0 then Option.bind (V.intOf .i64 (vs.getD 0 .any)) fun u0 => Option.bind (V.intOf .i64 (vs.getD 1 .any)) fun u1 => some { α := Int, m := m u0 u1, dflt := 0, enc := fun y => ((V.t (T.sc (.int .i64 y))), []) } else none
theorem c_suturehand_Pick_ok (m : Int → Int → Option (Int)) (hm : ok_suturehand_Pick m) (vs : List V) (sg : Sig) (cm : CallM) (x : cm.α) (h : c_suturehand_Pick m vs sg = some cm) (hx : cm.m = some x) : FuncOk Tryd.prog 14 vs sg (cm.enc x).1 (cm.enc x).2 := by
  unfold c_suturehand_Pick at h
  have h0 := callee_sig h
  clear h
  obtain ⟨hl, hs, h⟩ := h0
  obtain ⟨u0, hu0, h⟩ := Option.bind_eq_some_iff.1 h
  obtain ⟨u1, hu1, h⟩ := Option.bind_eq_some_iff.1 h
  simp only [Option.some.injEq] at h
  subst h
  exact (hm u0 u1 x hx).wk (args_wk hl (.cons (intOf_wk hu0) (.cons (intOf_wk hu1) .nil))) (wkSg_of hs .nil)
noncomputable def code_suturehand_Pick : Code := Tryd.f14.body.getD .skip
noncomputable def sp_suturehand_Pick (n : Nat) : Go.Eng.Spec := ⟨fun f vs sg => (match f with
    | _ => none), fun R key E sg K => (match key with
    | _ => none)⟩
theorem sp_suturehand_Pick_ok (n : Nat) : CallsOk Tryd.prog (sp_suturehand_Pick n) := by
  intro f vs sg cm x h hx
  have h : (none : Option CallM) = some cm := h
  cases h
theorem code_suturehand_Pick_fn : Tryd.prog.funcs[14]? = some Tryd.f14 := Tryd.func14
theorem code_suturehand_Pick_body : Tryd.f14.body = some code_suturehand_Pick := by kernel_rfl
theorem code_suturehand_Pick_ok : CodeOk Tryd.prog code_suturehand_Pick := (sound 14 _ _ code_suturehand_Pick_fn code_suturehand_Pick_body).1
def K_suturehand_Pick (v : V) (s : Sig) : Option (Int) := Option.bind (V.intOf .i64 v) fun u0 => some u0
theorem K_suturehand_Pick_wk {v : V} {s : Sig} {r : Int} (h : K_suturehand_Pick v s = some r) : Wk v (enc_suturehand_Pick r) ∧ WkS 0 s (encS_suturehand_Pick r) := by
  unfold K_suturehand_Pick at h
  obtain ⟨u0, hu0, h⟩ := Option.bind_eq_some_iff.1 h
  simp only [Option.some.injEq] at h
  subst h
  exact ⟨(intOf_wk hu0), (WkS.none _)⟩
theorem m_suturehand_Pick_eq (n : Nat) (a0 : Int) (a1 : Int) : mF Tryd.prog (sp_suturehand_Pick n) 14 [(V.t (T.sc (.int .i64 a0))), (V.t (T.sc (.int .i64 a1)))] [] K_suturehand_Pick = m_suturehand_Pick n a0 a1 := by kernel_rfl
theorem m_suturehand_Pick_ok (n : Nat) : ok_suturehand_Pick (m_suturehand_Pick n) := fun a0 a1 r h => mF_ok sound (sp_suturehand_Pick_ok n) code_suturehand_Pick_fn code_suturehand_Pick_body (fun a ha => absurd ha (by rw [show loopsOf code_suturehand_Pick = [] from by kernel_rfl]; simp)) (no_scope (by kernel_rfl)) ((m_suturehand_Pick_eq n a0 a1).trans h) (fun v s hk => ⟨(K_suturehand_Pick_wk hk).1, rfl, (K_suturehand_Pick_wk hk).2⟩)


end Go.Proofs.YtpahgmebihlffaaDoor.W
