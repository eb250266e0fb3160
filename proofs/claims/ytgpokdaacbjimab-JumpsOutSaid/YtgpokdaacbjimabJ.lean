/- What the engine's walk comes to, printed by a program of this work: for each function its model, and that it is one. No conditions. -/
import Derived.Test.YtgpokdaacbjimabJ4
namespace Go.Proofs.Ytgpokdaacbjimab.W
open Go Go.Eng
set_option linter.unusedVariables false
set_option linter.unusedSimpArgs false
set_option maxRecDepth 100000

/-! suture/sutureref1.Threads -/
def l_sutureref1_Threads_6_B (n : Nat) (k : (List T) × Int × Int × (List T) × (List T) → Option ((List T) × Int × (List T) × (List T))) : (List T) × Int × Int × (List T) × (List T) → Option ((List T) × Int × (List T) × (List T)) := fun (s0, s1, s2, s3, s4) =>
bif (decide ((s2 : Int) > 0)) then (
must true ((Nat.beq 1 1 || Nat.beq 1 0) && (decide (List.length s0 + List.length [(T.sc (.int .i64 s1))] ≤ 1073741824) && sized 1 [(T.sc (.int .i64 s1))])) (k ((s0 ++ [(T.sc (.int .i64 s1))]), s1, (IntKind.wrap .i64 (s2 - 1)), s3, s4)))
else (
some (s0, s1, s3, s4))
def l_sutureref1_Threads_6 (n : Nat) : Nat → (List T) × Int × Int × (List T) × (List T) → Option ((List T) × Int × (List T) × (List T))
  | 0, _ => none
  | m + 1, s => l_sutureref1_Threads_6_B n (l_sutureref1_Threads_6 n m) s
def l_sutureref1_Threads_3_B (n : Nat) (k : (List T) × Int × (List T) × (List T) → Option ((List T) × (List T) × (List T))) : (List T) × Int × (List T) × (List T) → Option ((List T) × (List T) × (List T)) := fun (s0, s1, s2, s3) =>
bif (decide ((s1 : Int) < ((List.length s3 : Nat) : Int))) then (
Option.bind (idx true [.list] s3 s1) fun y0 =>
Option.bind (m_sutureref1_block n (y0.cell 0).lst) fun r1 =>
Option.bind (l_sutureref1_Threads_6 n n (s0, s1, ((List.length r1 : Nat) : Int), s2, s3)) fun p3 =>
k (p3.1, (IntKind.wrap .i64 (p3.2.1 + 1)), p3.2.2.1, p3.2.2.2))
else (
some (s0, s2, s3))
def l_sutureref1_Threads_3 (n : Nat) : Nat → (List T) × Int × (List T) × (List T) → Option ((List T) × (List T) × (List T))
  | 0, _ => none
  | m + 1, s => l_sutureref1_Threads_3_B n (l_sutureref1_Threads_3 n m) s
def m_sutureref1_Threads (n : Nat) (a0 : List T) (a1 : List T) : Option ((List T)) :=
Option.bind (l_sutureref1_Threads_3 n n (([] : List T), 0, a0, a1)) fun p5 =>
some p5.1
def enc_sutureref1_Threads (r : (List T)) : V := (V.own 1 r)
def encS_sutureref1_Threads (r : (List T)) : Sig := []
def ok_sutureref1_Threads (m : List T → List T → Option ((List T))) : Prop := ∀ (a0 : List T) (a1 : List T) (r : (List T)), m a0 a1 = some r → FuncOk Try.prog 17 [(V.agg [(V.t (T.list a0)), (V.t (T.list a1))])] [] (enc_sutureref1_Threads r) (encS_sutureref1_Threads r)
def c_sutureref1_Threads (m : List T → List T → Option ((List T))) (vs : List V) (sg : Sig) : Option CallM := bif Nat.beq vs.length 1 && Nat.beq sg.length 0 then Option.bind (V.aggN 2 (vs.getD 0 .any)) fun u0 => Option.bind (V.lstOf (u0.getD 0 .any)) fun u1 => Option.bind (V.lstOf (u0.getD 1 .any)) fun u2 => some { α := (List T), m := m u1 u2, dflt := [], enc := fun y => ((V.own 1 y), []) } else none
theorem c_sutureref1_Threads_ok (m : List T → List T → Option ((List T))) (hm : ok_sutureref1_Threads m) (vs : List V) (sg : Sig) (cm : CallM) (x : cm.α) (h : c_sutureref1_Threads m vs sg = some cm) (hx : cm.m = some x) : FuncOk Try.prog 17 vs sg (cm.enc x).1 (cm.enc x).2 := by
  unfold c_sutureref1_Threads at h
  have h0 := callee_sig h
  clear h
  obtain ⟨hl, hs, h⟩ := h0
  obtain ⟨u0, hu0, h⟩ := Option.bind_eq_some_iff.1 h
  obtain ⟨u1, hu1, h⟩ := Option.bind_eq_some_iff.1 h
  obtain ⟨u2, hu2, h⟩ := Option.bind_eq_some_iff.1 h
  simp only [Option.some.injEq] at h
  subst h
  exact (hm u1 u2 x hx).wk (args_wk hl (.cons (aggN_wk hu0 (.cons (lstOf_wk hu1) (.cons (lstOf_wk hu2) .nil))) .nil)) (wkSg_of hs .nil)
noncomputable def code_sutureref1_Threads : Code := Try.f17.body.getD .skip
def l_sutureref1_Threads_6_S (n : Nat) (R : Type) (E : SEnv) (sg : Sig) (K : Ex → SEnv → Sig → Option R) : Option R := Option.bind (V.ptrOf 0 0 (SEnv.at E 1)) fun u0 => Option.bind (V.ownOf 1 (SEnv.at E 3)) fun u1 => Option.bind (V.intOf .i64 (SEnv.at E 4)) fun u2 => Option.bind (V.intOf .i64 (SEnv.at E 5)) fun u3 => Option.bind (cellsN 2 sg 0) fun u4 => Option.bind (V.lstOf (u4.getD 0 .any)) fun u5 => Option.bind (V.lstOf (u4.getD 1 .any)) fun u6 => Option.bind (l_sutureref1_Threads_6 n n (u1, u2, u3, u5, u6)) fun p0 => K (.exit 2) [(1, (V.ptr 0 0)), (3, (V.own 1 p0.1)), (4, (V.t (T.sc (.int .i64 p0.2.1))))] [some [(V.t (T.list p0.2.2.1)), (V.t (T.list p0.2.2.2))]]
def l_sutureref1_Threads_3_S (n : Nat) (R : Type) (E : SEnv) (sg : Sig) (K : Ex → SEnv → Sig → Option R) : Option R := Option.bind (V.ptrOf 0 0 (SEnv.at E 1)) fun u0 => Option.bind (V.ownOf 1 (SEnv.at E 3)) fun u1 => Option.bind (V.intOf .i64 (SEnv.at E 4)) fun u2 => Option.bind (cellsN 2 sg 0) fun u3 => Option.bind (V.lstOf (u3.getD 0 .any)) fun u4 => Option.bind (V.lstOf (u3.getD 1 .any)) fun u5 => Option.bind (l_sutureref1_Threads_3 n n (u1, u2, u4, u5)) fun p0 => K (.exit 0) [(3, (V.own 1 p0.1))] [some [(V.t (T.list p0.2.1)), (V.t (T.list p0.2.2))]]
noncomputable def sp_sutureref1_Threads (n : Nat) : Go.Eng.Spec := ⟨fun f vs sg => (match f with
    | 30 => c_sutureref1_block (m_sutureref1_block n) vs sg
    | _ => none), fun R key E sg K => (match key with
    | 6 => l_sutureref1_Threads_6_S n R E sg K
    | 3 => l_sutureref1_Threads_3_S n R E sg K
    | _ => none)⟩
theorem sp_sutureref1_Threads_ok (n : Nat) : CallsOk Try.prog (sp_sutureref1_Threads n) := by
  intro f vs sg cm x h hx
  simp only [sp_sutureref1_Threads] at h
  split at h
  · exact c_sutureref1_block_ok _ (m_sutureref1_block_ok n) vs sg cm x h hx
  · cases h
theorem code_sutureref1_Threads_fn : Try.prog.funcs[17]? = some Try.f17 := Try.func17
theorem code_sutureref1_Threads_body : Try.f17.body = some code_sutureref1_Threads := by kernel_rfl
theorem code_sutureref1_Threads_ok : CodeOk Try.prog code_sutureref1_Threads := (sound 17 _ _ code_sutureref1_Threads_fn code_sutureref1_Threads_body).1
noncomputable def code_l_sutureref1_Threads_6 : Code := (loopsOf code_sutureref1_Threads).getD 1 .skip
theorem code_l_sutureref1_Threads_6_ok : CodeOk Try.prog code_l_sutureref1_Threads_6 := codeOk_loops code_sutureref1_Threads_ok _ (getD_mem (by kernel_rfl))
def l_sutureref1_Threads_6_K (k : (List T) × Int × Int × (List T) × (List T) → Option ((List T) × Int × (List T) × (List T))) : Ex → SEnv → Sig → Option ((List T) × Int × (List T) × (List T)) := fun x E sg => match x with
  | .normal => Option.bind (V.ptrOf 0 0 (SEnv.at E 1)) fun u0 => Option.bind (V.ownOf 1 (SEnv.at E 3)) fun u1 => Option.bind (V.intOf .i64 (SEnv.at E 4)) fun u2 => Option.bind (V.intOf .i64 (SEnv.at E 5)) fun u3 => Option.bind (cellsN 2 sg 0) fun u4 => Option.bind (V.lstOf (u4.getD 0 .any)) fun u5 => Option.bind (V.lstOf (u4.getD 1 .any)) fun u6 => k (u1, u2, u3, u5, u6)
  | (.exit 2) => Option.bind (V.ptrOf 0 0 (SEnv.at E 1)) fun u0 => Option.bind (V.ownOf 1 (SEnv.at E 3)) fun u1 => Option.bind (V.intOf .i64 (SEnv.at E 4)) fun u2 => Option.bind (cellsN 2 sg 0) fun u3 => Option.bind (V.lstOf (u3.getD 0 .any)) fun u4 => Option.bind (V.lstOf (u3.getD 1 .any)) fun u5 => some (u1, u2, u4, u5)
  | _ => none
theorem l_sutureref1_Threads_6_eq (n : Nat) (k : (List T) × Int × Int × (List T) × (List T) → Option ((List T) × Int × (List T) × (List T))) (s0 : List T) (s1 : Int) (s2 : Int) (s3 : List T) (s4 : List T) : mX Try.prog (sp_sutureref1_Threads n) 29 code_l_sutureref1_Threads_6 [(1, (V.ptr 0 0)), (3, (V.own 1 s0)), (4, (V.t (T.sc (.int .i64 s1)))), (5, (V.t (T.sc (.int .i64 s2))))] [some [(V.t (T.list s3)), (V.t (T.list s4))]] (l_sutureref1_Threads_6_K k) = l_sutureref1_Threads_6_B n k (s0, s1, s2, s3, s4) := by kernel_rfl
def l_sutureref1_Threads_6_Q (x : (List T) × Int × (List T) × (List T)) (ex : Ex) (e : Env) (s : Sig) : Prop := (fun p0 => (ex = (.exit 2) ∧ e = SEnv.env 29 [(1, (V.ptr 0 0)), (3, (V.own 1 p0.1)), (4, (V.t (T.sc (.int .i64 p0.2.1))))] ∧ s = [some [(V.t (T.list p0.2.2.1)), (V.t (T.list p0.2.2.2))]])) x
theorem l_sutureref1_Threads_6_run (n : Nat) : ∀ (m : Nat) (s0 : List T) (s1 : Int) (s2 : Int) (s3 : List T) (s4 : List T) (x : (List T) × Int × (List T) × (List T)), l_sutureref1_Threads_6 n m (s0, s1, s2, s3, s4) = some x → SemL Try.prog 0 code_l_sutureref1_Threads_6 (SEnv.env 29 [(1, (V.ptr 0 0)), (3, (V.own 1 s0)), (4, (V.t (T.sc (.int .i64 s1)))), (5, (V.t (T.sc (.int .i64 s2))))]) [some [(V.t (T.list s3)), (V.t (T.list s4))]] (l_sutureref1_Threads_6_Q x)
  | 0, s0, s1, s2, s3, s4, x, h => by cases h
  | m + 1, s0, s1, s2, s3, s4, x, h => by
    refine loop_step (sp_sutureref1_Threads_ok n) code_l_sutureref1_Threads_6_ok (fun a ha => absurd ha (by rw [show loopsOf code_l_sutureref1_Threads_6 = [] from by kernel_rfl]; simp)) (no_scope (by kernel_rfl)) ((l_sutureref1_Threads_6_eq n _ s0 s1 s2 s3 s4).trans h) (fun E sg h => ?_) (fun ex E sg hne h => ?_)
    · simp only [l_sutureref1_Threads_6_K] at h
      obtain ⟨u0, hu0, h⟩ := Option.bind_eq_some_iff.1 h
      obtain ⟨u1, hu1, h⟩ := Option.bind_eq_some_iff.1 h
      obtain ⟨u2, hu2, h⟩ := Option.bind_eq_some_iff.1 h
      obtain ⟨u3, hu3, h⟩ := Option.bind_eq_some_iff.1 h
      obtain ⟨u4, hu4, h⟩ := Option.bind_eq_some_iff.1 h
      obtain ⟨u5, hu5, h⟩ := Option.bind_eq_some_iff.1 h
      obtain ⟨u6, hu6, h⟩ := Option.bind_eq_some_iff.1 h
      exact SemL.pre (k := 1) (by decide) (WkA.env (WkA.cons (ptrOf_wk hu0) rfl (WkA.cons (ownOf_wk hu1) rfl (WkA.cons (intOf_wk hu2) rfl (WkA.cons (intOf_wk hu3) rfl WkA.nil)))) 29) (wkR_sig (WkR.cons (cellsN_wk hu4 (.cons (lstOf_wk hu5) (.cons (lstOf_wk hu6) .nil))).1 (cellsN_wk hu4 (.cons (lstOf_wk hu5) (.cons (lstOf_wk hu6) .nil))).2 (renL_mem (.cons rfl (.cons rfl .nil))) (WkR.nil _)) rfl) (l_sutureref1_Threads_6_run n m _ _ _ _ _ x h)
    · unfold l_sutureref1_Threads_6_K at h
      split at h
      · exact absurd rfl hne
      · obtain ⟨u0, hu0, h⟩ := Option.bind_eq_some_iff.1 h
        obtain ⟨u1, hu1, h⟩ := Option.bind_eq_some_iff.1 h
        obtain ⟨u2, hu2, h⟩ := Option.bind_eq_some_iff.1 h
        obtain ⟨u3, hu3, h⟩ := Option.bind_eq_some_iff.1 h
        obtain ⟨u4, hu4, h⟩ := Option.bind_eq_some_iff.1 h
        obtain ⟨u5, hu5, h⟩ := Option.bind_eq_some_iff.1 h
        simp only [Option.some.injEq] at h
        subst h
        exact ⟨1, _, _, by decide, WkA.env (WkA.cons (ptrOf_wk hu0) rfl (WkA.cons (ownOf_wk hu1) rfl (WkA.cons (intOf_wk hu2) rfl WkA.nil))) 29, (wkR_sig (WkR.cons (cellsN_wk hu3 (.cons (lstOf_wk hu4) (.cons (lstOf_wk hu5) .nil))).1 (cellsN_wk hu3 (.cons (lstOf_wk hu4) (.cons (lstOf_wk hu5) .nil))).2 (renL_mem (.cons rfl (.cons rfl .nil))) (WkR.nil _)) rfl), rfl, rfl, rfl⟩
      · cases h
theorem l_sutureref1_Threads_6_ok (n : Nat) : LoopOk Try.prog (sp_sutureref1_Threads n) 0 29 code_l_sutureref1_Threads_6 := by
    intro R key E sg K r hk h
    rw [show Go.Eng.keyOf code_l_sutureref1_Threads_6 = some 6 from by kernel_rfl] at hk
    cases hk
    have h : l_sutureref1_Threads_6_S n R E sg K = some r := h
    unfold l_sutureref1_Threads_6_S at h
    obtain ⟨u0, hu0, h⟩ := Option.bind_eq_some_iff.1 h
    obtain ⟨u1, hu1, h⟩ := Option.bind_eq_some_iff.1 h
    obtain ⟨u2, hu2, h⟩ := Option.bind_eq_some_iff.1 h
    obtain ⟨u3, hu3, h⟩ := Option.bind_eq_some_iff.1 h
    obtain ⟨u4, hu4, h⟩ := Option.bind_eq_some_iff.1 h
    obtain ⟨u5, hu5, h⟩ := Option.bind_eq_some_iff.1 h
    obtain ⟨u6, hu6, h⟩ := Option.bind_eq_some_iff.1 h
    obtain ⟨x, hx, h⟩ := Option.bind_eq_some_iff.1 h
    refine (SemL.pre (k := 1) (by decide) (WkA.env (WkA.cons (ptrOf_wk hu0) rfl (WkA.cons (ownOf_wk hu1) rfl (WkA.cons (intOf_wk hu2) rfl (WkA.cons (intOf_wk hu3) rfl WkA.nil)))) 29) (wkR_sig (WkR.cons (cellsN_wk hu4 (.cons (lstOf_wk hu5) (.cons (lstOf_wk hu6) .nil))).1 (cellsN_wk hu4 (.cons (lstOf_wk hu5) (.cons (lstOf_wk hu6) .nil))).2 (renL_mem (.cons rfl (.cons rfl .nil))) (WkR.nil _)) rfl) (l_sutureref1_Threads_6_run n n _ _ _ _ _ x hx)).mono ?_
    intro ex e s hq
    obtain ⟨rfl, rfl, rfl⟩ := hq
    exact ⟨_, rfl, h⟩
noncomputable def code_l_sutureref1_Threads_3 : Code := (loopsOf code_sutureref1_Threads).getD 0 .skip
theorem code_l_sutureref1_Threads_3_ok : CodeOk Try.prog code_l_sutureref1_Threads_3 := codeOk_loops code_sutureref1_Threads_ok _ (getD_mem (by kernel_rfl))
def l_sutureref1_Threads_3_K (k : (List T) × Int × (List T) × (List T) → Option ((List T) × (List T) × (List T))) : Ex → SEnv → Sig → Option ((List T) × (List T) × (List T)) := fun x E sg => match x with
  | .normal => Option.bind (V.ptrOf 0 0 (SEnv.at E 1)) fun u0 => Option.bind (V.ownOf 1 (SEnv.at E 3)) fun u1 => Option.bind (V.intOf .i64 (SEnv.at E 4)) fun u2 => Option.bind (cellsN 2 sg 0) fun u3 => Option.bind (V.lstOf (u3.getD 0 .any)) fun u4 => Option.bind (V.lstOf (u3.getD 1 .any)) fun u5 => k (u1, u2, u4, u5)
  | (.exit 0) => Option.bind (V.ownOf 1 (SEnv.at E 3)) fun u0 => Option.bind (cellsN 2 sg 0) fun u1 => Option.bind (V.lstOf (u1.getD 0 .any)) fun u2 => Option.bind (V.lstOf (u1.getD 1 .any)) fun u3 => some (u0, u2, u3)
  | _ => none
theorem l_sutureref1_Threads_3_eq (n : Nat) (k : (List T) × Int × (List T) × (List T) → Option ((List T) × (List T) × (List T))) (s0 : List T) (s1 : Int) (s2 : List T) (s3 : List T) : mX Try.prog (sp_sutureref1_Threads n) 29 code_l_sutureref1_Threads_3 [(1, (V.ptr 0 0)), (3, (V.own 1 s0)), (4, (V.t (T.sc (.int .i64 s1))))] [some [(V.t (T.list s2)), (V.t (T.list s3))]] (l_sutureref1_Threads_3_K k) = l_sutureref1_Threads_3_B n k (s0, s1, s2, s3) := by kernel_rfl
def l_sutureref1_Threads_3_Q (x : (List T) × (List T) × (List T)) (ex : Ex) (e : Env) (s : Sig) : Prop := (fun p0 => (ex = (.exit 0) ∧ e = SEnv.env 29 [(3, (V.own 1 p0.1))] ∧ s = [some [(V.t (T.list p0.2.1)), (V.t (T.list p0.2.2))]])) x
theorem l_sutureref1_Threads_3_run (n : Nat) : ∀ (m : Nat) (s0 : List T) (s1 : Int) (s2 : List T) (s3 : List T) (x : (List T) × (List T) × (List T)), l_sutureref1_Threads_3 n m (s0, s1, s2, s3) = some x → SemL Try.prog 0 code_l_sutureref1_Threads_3 (SEnv.env 29 [(1, (V.ptr 0 0)), (3, (V.own 1 s0)), (4, (V.t (T.sc (.int .i64 s1))))]) [some [(V.t (T.list s2)), (V.t (T.list s3))]] (l_sutureref1_Threads_3_Q x)
  | 0, s0, s1, s2, s3, x, h => by cases h
  | m + 1, s0, s1, s2, s3, x, h => by
    refine loop_step (sp_sutureref1_Threads_ok n) code_l_sutureref1_Threads_3_ok (forall_getD (d := .skip) 1 (by kernel_rfl) (fun i hi => match i, hi with | 0, _ => (show LoopOk Try.prog (sp_sutureref1_Threads n) 0 29 ((loopsOf code_l_sutureref1_Threads_3).getD 0 .skip) from (show (loopsOf code_l_sutureref1_Threads_3).getD 0 .skip = code_l_sutureref1_Threads_6 from by kernel_rfl) ▸ l_sutureref1_Threads_6_ok n) | i + 1, hi => absurd hi (by omega))) (no_scope (by kernel_rfl)) ((l_sutureref1_Threads_3_eq n _ s0 s1 s2 s3).trans h) (fun E sg h => ?_) (fun ex E sg hne h => ?_)
    · simp only [l_sutureref1_Threads_3_K] at h
      obtain ⟨u0, hu0, h⟩ := Option.bind_eq_some_iff.1 h
      obtain ⟨u1, hu1, h⟩ := Option.bind_eq_some_iff.1 h
      obtain ⟨u2, hu2, h⟩ := Option.bind_eq_some_iff.1 h
      obtain ⟨u3, hu3, h⟩ := Option.bind_eq_some_iff.1 h
      obtain ⟨u4, hu4, h⟩ := Option.bind_eq_some_iff.1 h
      obtain ⟨u5, hu5, h⟩ := Option.bind_eq_some_iff.1 h
      exact SemL.pre (k := 1) (by decide) (WkA.env (WkA.cons (ptrOf_wk hu0) rfl (WkA.cons (ownOf_wk hu1) rfl (WkA.cons (intOf_wk hu2) rfl WkA.nil))) 29) (wkR_sig (WkR.cons (cellsN_wk hu3 (.cons (lstOf_wk hu4) (.cons (lstOf_wk hu5) .nil))).1 (cellsN_wk hu3 (.cons (lstOf_wk hu4) (.cons (lstOf_wk hu5) .nil))).2 (renL_mem (.cons rfl (.cons rfl .nil))) (WkR.nil _)) rfl) (l_sutureref1_Threads_3_run n m _ _ _ _ x h)
    · unfold l_sutureref1_Threads_3_K at h
      split at h
      · exact absurd rfl hne
      · obtain ⟨u0, hu0, h⟩ := Option.bind_eq_some_iff.1 h
        obtain ⟨u1, hu1, h⟩ := Option.bind_eq_some_iff.1 h
        obtain ⟨u2, hu2, h⟩ := Option.bind_eq_some_iff.1 h
        obtain ⟨u3, hu3, h⟩ := Option.bind_eq_some_iff.1 h
        simp only [Option.some.injEq] at h
        subst h
        exact ⟨1, _, _, by decide, WkA.env (WkA.cons (ownOf_wk hu0) rfl WkA.nil) 29, (wkR_sig (WkR.cons (cellsN_wk hu1 (.cons (lstOf_wk hu2) (.cons (lstOf_wk hu3) .nil))).1 (cellsN_wk hu1 (.cons (lstOf_wk hu2) (.cons (lstOf_wk hu3) .nil))).2 (renL_mem (.cons rfl (.cons rfl .nil))) (WkR.nil _)) rfl), rfl, rfl, rfl⟩
      · cases h
theorem l_sutureref1_Threads_3_ok (n : Nat) : LoopOk Try.prog (sp_sutureref1_Threads n) 0 29 code_l_sutureref1_Threads_3 := by
    intro R key E sg K r hk h
    rw [show Go.Eng.keyOf code_l_sutureref1_Threads_3 = some 3 from by kernel_rfl] at hk
    cases hk
    have h : l_sutureref1_Threads_3_S n R E sg K = some r := h
    unfold l_sutureref1_Threads_3_S at h
    obtain ⟨u0, hu0, h⟩ := Option.bind_eq_some_iff.1 h
    obtain ⟨u1, hu1, h⟩ := Option.bind_eq_some_iff.1 h
    obtain ⟨u2, hu2, h⟩ := Option.bind_eq_some_iff.1 h
    obtain ⟨u3, hu3, h⟩ := Option.bind_eq_some_iff.1 h
    obtain ⟨u4, hu4, h⟩ := Option.bind_eq_some_iff.1 h
    obtain ⟨u5, hu5, h⟩ := Option.bind_eq_some_iff.1 h
    obtain ⟨x, hx, h⟩ := Option.bind_eq_some_iff.1 h
    refine (SemL.pre (k := 1) (by decide) (WkA.env (WkA.cons (ptrOf_wk hu0) rfl (WkA.cons (ownOf_wk hu1) rfl (WkA.cons (intOf_wk hu2) rfl WkA.nil))) 29) (wkR_sig (WkR.cons (cellsN_wk hu3 (.cons (lstOf_wk hu4) (.cons (lstOf_wk hu5) .nil))).1 (cellsN_wk hu3 (.cons (lstOf_wk hu4) (.cons (lstOf_wk hu5) .nil))).2 (renL_mem (.cons rfl (.cons rfl .nil))) (WkR.nil _)) rfl) (l_sutureref1_Threads_3_run n n _ _ _ _ x hx)).mono ?_
    intro ex e s hq
    obtain ⟨rfl, rfl, rfl⟩ := hq
    exact ⟨_, rfl, h⟩
def K_sutureref1_Threads (v : V) (s : Sig) : Option ((List T)) := Option.bind (V.ownOf 1 v) fun u0 => some u0
theorem K_sutureref1_Threads_wk {v : V} {s : Sig} {r : (List T)} (h : K_sutureref1_Threads v s = some r) : Wk v (enc_sutureref1_Threads r) ∧ WkS 0 s (encS_sutureref1_Threads r) := by
  unfold K_sutureref1_Threads at h
  obtain ⟨u0, hu0, h⟩ := Option.bind_eq_some_iff.1 h
  simp only [Option.some.injEq] at h
  subst h
  exact ⟨(ownOf_wk hu0), (WkS.none _)⟩
theorem m_sutureref1_Threads_eq (n : Nat) (a0 : List T) (a1 : List T) : mF Try.prog (sp_sutureref1_Threads n) 17 [(V.agg [(V.t (T.list a0)), (V.t (T.list a1))])] [] K_sutureref1_Threads = m_sutureref1_Threads n a0 a1 := by kernel_rfl
theorem m_sutureref1_Threads_ok (n : Nat) : ok_sutureref1_Threads (m_sutureref1_Threads n) := fun a0 a1 r h => mF_ok sound (sp_sutureref1_Threads_ok n) code_sutureref1_Threads_fn code_sutureref1_Threads_body (forall_getD (d := .skip) 2 (by kernel_rfl) (fun i hi => match i, hi with | 0, _ => l_sutureref1_Threads_3_ok n | 1, _ => l_sutureref1_Threads_6_ok n | i + 2, hi => absurd hi (by omega))) (no_scope (by kernel_rfl)) ((m_sutureref1_Threads_eq n a0 a1).trans h) (fun v s hk => ⟨(K_sutureref1_Threads_wk hk).1, rfl, (K_sutureref1_Threads_wk hk).2⟩)


/-! suture/jumps.Target -/
def m_jumps_Target (n : Nat) (a0 : List T) (a1 : List T) (a2 : Int) : Option (Int) :=
Option.bind (m_jumps_all n a0 a1) fun r0 =>
Option.bind (m_jumps_target n r0 a2) fun r1 =>
some r1
def enc_jumps_Target (r : Int) : V := (V.t (T.sc (.int .i64 r)))
def encS_jumps_Target (r : Int) : Sig := []
def ok_jumps_Target (m : List T → List T → Int → Option (Int)) : Prop := ∀ (a0 : List T) (a1 : List T) (a2 : Int) (r : Int), m a0 a1 a2 = some r → FuncOk Try.prog 11 [(V.agg [(V.t (T.list a0)), (V.t (T.list a1))]), (V.t (T.sc (.int .i64 a2)))] [] (enc_jumps_Target r) (encS_jumps_Target r)
def c_jumps_Target (m : List T → List T → Int → Option (Int)) (vs : List V) (sg : Sig) : Option CallM := bif Nat.beq vs.length 2 && Nat.beq sg.length 0 then Option.bind (V.aggN 2 (vs.getD 0 .any)) fun u0 => Option.bind (V.lstOf (u0.getD 0 .any)) fun u1 => Option.bind (V.lstOf (u0.getD 1 .any)) fun u2 => Option.bind (V.intOf .i64 (vs.getD 1 .any)) fun u3 => some { α := Int, m := m u1 u2 u3, dflt := 0, enc := fun y => ((V.t (T.sc (.int .i64 y))), []) } else none
theorem c_jumps_Target_ok (m : List T → List T → Int → Option (Int)) (hm : ok_jumps_Target m) (vs : List V) (sg : Sig) (cm : CallM) (x : cm.α) (h : c_jumps_Target m vs sg = some cm) (hx : cm.m = some x) : FuncOk Try.prog 11 vs sg (cm.enc x).1 (cm.enc x).2 := by
  unfold c_jumps_Target at h
  have h0 := callee_sig h
  clear h
  obtain ⟨hl, hs, h⟩ := h0
  obtain ⟨u0, hu0, h⟩ := Option.bind_eq_some_iff.1 h
  obtain ⟨u1, hu1, h⟩ := Option.bind_eq_some_iff.1 h
  obtain ⟨u2, hu2, h⟩ := Option.bind_eq_some_iff.1 h
  obtain ⟨u3, hu3, h⟩ := Option.bind_eq_some_iff.1 h
  simp only [Option.some.injEq] at h
  subst h
  exact (hm u1 u2 u3 x hx).wk (args_wk hl (.cons (aggN_wk hu0 (.cons (lstOf_wk hu1) (.cons (lstOf_wk hu2) .nil))) (.cons (intOf_wk hu3) .nil))) (wkSg_of hs .nil)
noncomputable def code_jumps_Target : Code := Try.f11.body.getD .skip
noncomputable def sp_jumps_Target (n : Nat) : Go.Eng.Spec := ⟨fun f vs sg => (match f with
    | 20 => c_jumps_all (m_jumps_all n) vs sg
    | 22 => c_jumps_target (m_jumps_target n) vs sg
    | _ => none), fun R key E sg K => (match key with
    | _ => none)⟩
theorem sp_jumps_Target_ok (n : Nat) : CallsOk Try.prog (sp_jumps_Target n) := by
  intro f vs sg cm x h hx
  simp only [sp_jumps_Target] at h
  split at h
  · exact c_jumps_all_ok _ (m_jumps_all_ok n) vs sg cm x h hx
  · exact c_jumps_target_ok _ (m_jumps_target_ok n) vs sg cm x h hx
  · cases h
theorem code_jumps_Target_fn : Try.prog.funcs[11]? = some Try.f11 := Try.func11
theorem code_jumps_Target_body : Try.f11.body = some code_jumps_Target := by kernel_rfl
theorem code_jumps_Target_ok : CodeOk Try.prog code_jumps_Target := (sound 11 _ _ code_jumps_Target_fn code_jumps_Target_body).1
def K_jumps_Target (v : V) (s : Sig) : Option (Int) := Option.bind (V.intOf .i64 v) fun u0 => some u0
theorem K_jumps_Target_wk {v : V} {s : Sig} {r : Int} (h : K_jumps_Target v s = some r) : Wk v (enc_jumps_Target r) ∧ WkS 0 s (encS_jumps_Target r) := by
  unfold K_jumps_Target at h
  obtain ⟨u0, hu0, h⟩ := Option.bind_eq_some_iff.1 h
  simp only [Option.some.injEq] at h
  subst h
  exact ⟨(intOf_wk hu0), (WkS.none _)⟩
theorem m_jumps_Target_eq (n : Nat) (a0 : List T) (a1 : List T) (a2 : Int) : mF Try.prog (sp_jumps_Target n) 11 [(V.agg [(V.t (T.list a0)), (V.t (T.list a1))]), (V.t (T.sc (.int .i64 a2)))] [] K_jumps_Target = m_jumps_Target n a0 a1 a2 := by kernel_rfl
theorem m_jumps_Target_ok (n : Nat) : ok_jumps_Target (m_jumps_Target n) := fun a0 a1 a2 r h => mF_ok sound (sp_jumps_Target_ok n) code_jumps_Target_fn code_jumps_Target_body (fun a ha => absurd ha (by rw [show loopsOf code_jumps_Target = [] from by kernel_rfl]; simp)) (no_scope (by kernel_rfl)) ((m_jumps_Target_eq n a0 a1 a2).trans h) (fun v s hk => ⟨(K_jumps_Target_wk hk).1, rfl, (K_jumps_Target_wk hk).2⟩)


/-! suturelaw9_within: a circle -/
structure B_suturelaw9_within where
  suturelaw9_within : Int → ByteArray → ByteArray → Int → Int → Int → ByteArray → List T → List T → List T → Nat × Nat → Option (Int)
def enc_suturelaw9_within (r : Int) : V := (V.t (T.sc (.int .i64 r)))
def encS_suturelaw9_within (r : Int) : Sig := []
def ok_suturelaw9_within (m : Int → ByteArray → ByteArray → Int → Int → Int → ByteArray → List T → List T → List T → Nat × Nat → Option (Int)) : Prop := ∀ (a0 : Int) (a1 : ByteArray) (a2 : ByteArray) (a3 : Int) (a4 : Int) (a5 : Int) (a6 : ByteArray) (a7 : List T) (a8 : List T) (a9 : List T) (a10 : Nat × Nat) (r : Int), m a0 a1 a2 a3 a4 a5 a6 a7 a8 a9 a10 = some r → FuncOk Try.prog 18 [(V.agg [(V.t (T.sc (.int .i64 a0))), (V.t (T.sc (.string a1))), (V.t (T.sc (.string a2))), (V.t (T.sc (.int .i64 a3))), (V.t (T.sc (.int .i64 a4))), (V.t (T.sc (.int .i64 a5))), (V.t (T.sc (.string a6))), (V.t (T.list a7)), (V.t (T.list a8)), (V.t (T.list a9)), (V.t (T.sc (.complex .f64 a10.1 a10.2)))])] [] (enc_suturelaw9_within r) (encS_suturelaw9_within r)
def c_suturelaw9_within (m : Int → ByteArray → ByteArray → Int → Int → Int → ByteArray → List T → List T → List T → Nat × Nat → Option (Int)) (vs : List V) (sg : Sig) : Option CallM := bif Nat.beq vs.length 1 && Nat.beq sg.length 0 then Option.bind (V.aggN 11 (vs.getD 0 .any)) fun u0 => Option.bind (V.intOf .i64 (u0.getD 0 .any)) fun u1 => Option.bind (V.strOf (u0.getD 1 .any)) fun u2 => Option.bind (V.strOf (u0.getD 2 .any)) fun u3 => Option.bind (V.intOf .i64 (u0.getD 3 .any)) fun u4 => Option.bind (V.intOf .i64 (u0.getD 4 .any)) fun u5 => Option.bind (V.intOf .i64 (u0.getD 5 .any)) fun u6 => Option.bind (V.strOf (u0.getD 6 .any)) fun u7 => Option.bind (V.lstOf (u0.getD 7 .any)) fun u8 => Option.bind (V.lstOf (u0.getD 8 .any)) fun u9 => Option.bind (V.lstOf (u0.getD 9 .any)) fun u10 => Option.bind (V.cplxOf .f64 (u0.getD 10 .any)) fun u11 => some { α := Int, m := m u1 u2 u3 u4 u5 u6 u7 u8 u9 u10 u11, dflt := 0, enc := fun y => ((V.t (T.sc (.int .i64 y))), []) } else none
theorem c_suturelaw9_within_ok (m : Int → ByteArray → ByteArray → Int → Int → Int → ByteArray → List T → List T → List T → Nat × Nat → Option (Int)) (hm : ok_suturelaw9_within m) (vs : List V) (sg : Sig) (cm : CallM) (x : cm.α) (h : c_suturelaw9_within m vs sg = some cm) (hx : cm.m = some x) : FuncOk Try.prog 18 vs sg (cm.enc x).1 (cm.enc x).2 := by
  unfold c_suturelaw9_within at h
  have h0 := callee_sig h
  clear h
  obtain ⟨hl, hs, h⟩ := h0
  obtain ⟨u0, hu0, h⟩ := Option.bind_eq_some_iff.1 h
  obtain ⟨u1, hu1, h⟩ := Option.bind_eq_some_iff.1 h
  obtain ⟨u2, hu2, h⟩ := Option.bind_eq_some_iff.1 h
  obtain ⟨u3, hu3, h⟩ := Option.bind_eq_some_iff.1 h
  obtain ⟨u4, hu4, h⟩ := Option.bind_eq_some_iff.1 h
  obtain ⟨u5, hu5, h⟩ := Option.bind_eq_some_iff.1 h
  obtain ⟨u6, hu6, h⟩ := Option.bind_eq_some_iff.1 h
  obtain ⟨u7, hu7, h⟩ := Option.bind_eq_some_iff.1 h
  obtain ⟨u8, hu8, h⟩ := Option.bind_eq_some_iff.1 h
  obtain ⟨u9, hu9, h⟩ := Option.bind_eq_some_iff.1 h
  obtain ⟨u10, hu10, h⟩ := Option.bind_eq_some_iff.1 h
  obtain ⟨u11, hu11, h⟩ := Option.bind_eq_some_iff.1 h
  simp only [Option.some.injEq] at h
  subst h
  exact (hm u1 u2 u3 u4 u5 u6 u7 u8 u9 u10 u11 x hx).wk (args_wk hl (.cons (aggN_wk hu0 (.cons (intOf_wk hu1) (.cons (strOf_wk hu2) (.cons (strOf_wk hu3) (.cons (intOf_wk hu4) (.cons (intOf_wk hu5) (.cons (intOf_wk hu6) (.cons (strOf_wk hu7) (.cons (lstOf_wk hu8) (.cons (lstOf_wk hu9) (.cons (lstOf_wk hu10) (.cons (cplxOf_wk hu11) .nil)))))))))))) .nil)) (wkSg_of hs .nil)
structure B_suturelaw9_within_ok (b : B_suturelaw9_within) : Prop where
  suturelaw9_within : ok_suturelaw9_within b.suturelaw9_within

/-! suture/suturelaw9.within -/
def l_suturelaw9_within_3_B (b : B_suturelaw9_within) (n : Nat) (k : Int × (List T) × Int × Int × Int × ByteArray × ByteArray × Int × Int × Int × ByteArray × (List T) × (List T) × (List T) × (Nat × Nat) → Option (Int × Int × ByteArray × ByteArray × Int × Int × Int × ByteArray × (List T) × (List T) × (List T) × (Nat × Nat))) : Int × (List T) × Int × Int × Int × ByteArray × ByteArray × Int × Int × Int × ByteArray × (List T) × (List T) × (List T) × (Nat × Nat) → Option (Int × Int × ByteArray × ByteArray × Int × Int × Int × ByteArray × (List T) × (List T) × (List T) × (Nat × Nat)) := fun (s0, s1, s2, s3, s4, s5, s6, s7, s8, s9, s10, s11, s12, s13, s14) =>
bif (decide ((s3 : Int) < s2)) then (
Option.bind (idx true [.int .i64, .str, .str, .int .i64, .int .i64, .int .i64, .str, .list, .list, .list, .cplx .f64] s1 s3) fun y0 =>
Option.bind (b.suturelaw9_within (y0.cell 0).int (y0.cell 1).str (y0.cell 2).str (y0.cell 3).int (y0.cell 4).int (y0.cell 5).int (y0.cell 6).str (y0.cell 7).lst (y0.cell 8).lst (y0.cell 9).lst ((y0.cell 10).re, (y0.cell 10).im)) fun r1 =>
k ((IntKind.wrap .i64 ((IntKind.wrap .i64 (s0 + 1)) + r1)), s1, s2, (IntKind.wrap .i64 (s3 + 1)), s4, s5, s6, s7, s8, s9, s10, s11, s12, s13, s14))
else (
some (s0, s4, s5, s6, s7, s8, s9, s10, s11, s12, s13, s14))
def l_suturelaw9_within_3 (b : B_suturelaw9_within) (n : Nat) : Nat → Int × (List T) × Int × Int × Int × ByteArray × ByteArray × Int × Int × Int × ByteArray × (List T) × (List T) × (List T) × (Nat × Nat) → Option (Int × Int × ByteArray × ByteArray × Int × Int × Int × ByteArray × (List T) × (List T) × (List T) × (Nat × Nat))
  | 0, _ => none
  | m + 1, s => l_suturelaw9_within_3_B b n (l_suturelaw9_within_3 b n m) s
def l_suturelaw9_within_8_B (b : B_suturelaw9_within) (n : Nat) (k : Int × (List T) × Int × Int × Int × ByteArray × ByteArray × Int × Int × Int × ByteArray × (List T) × (List T) × (List T) × (Nat × Nat) → Option (Int × Int × ByteArray × ByteArray × Int × Int × Int × ByteArray × (List T) × (List T) × (List T) × (Nat × Nat))) : Int × (List T) × Int × Int × Int × ByteArray × ByteArray × Int × Int × Int × ByteArray × (List T) × (List T) × (List T) × (Nat × Nat) → Option (Int × Int × ByteArray × ByteArray × Int × Int × Int × ByteArray × (List T) × (List T) × (List T) × (Nat × Nat)) := fun (s0, s1, s2, s3, s4, s5, s6, s7, s8, s9, s10, s11, s12, s13, s14) =>
bif (decide ((s3 : Int) < s2)) then (
Option.bind (idx true [.int .i64, .str, .str, .int .i64, .int .i64, .int .i64, .str, .list, .list, .list, .cplx .f64] s1 s3) fun y4 =>
Option.bind (b.suturelaw9_within (y4.cell 0).int (y4.cell 1).str (y4.cell 2).str (y4.cell 3).int (y4.cell 4).int (y4.cell 5).int (y4.cell 6).str (y4.cell 7).lst (y4.cell 8).lst (y4.cell 9).lst ((y4.cell 10).re, (y4.cell 10).im)) fun r5 =>
k ((IntKind.wrap .i64 ((IntKind.wrap .i64 (s0 + 1)) + r5)), s1, s2, (IntKind.wrap .i64 (s3 + 1)), s4, s5, s6, s7, s8, s9, s10, s11, s12, s13, s14))
else (
some (s0, s4, s5, s6, s7, s8, s9, s10, s11, s12, s13, s14))
def l_suturelaw9_within_8 (b : B_suturelaw9_within) (n : Nat) : Nat → Int × (List T) × Int × Int × Int × ByteArray × ByteArray × Int × Int × Int × ByteArray × (List T) × (List T) × (List T) × (Nat × Nat) → Option (Int × Int × ByteArray × ByteArray × Int × Int × Int × ByteArray × (List T) × (List T) × (List T) × (Nat × Nat))
  | 0, _ => none
  | m + 1, s => l_suturelaw9_within_8_B b n (l_suturelaw9_within_8 b n m) s
def f_suturelaw9_within (b : B_suturelaw9_within) (n : Nat) (a0 : Int) (a1 : ByteArray) (a2 : ByteArray) (a3 : Int) (a4 : Int) (a5 : Int) (a6 : ByteArray) (a7 : List T) (a8 : List T) (a9 : List T) (a10 : Nat × Nat) : Option (Int) :=
Option.bind (l_suturelaw9_within_3 b n n (0, a8, ((List.length a8 : Nat) : Int), 0, a0, a1, a2, a3, a4, a5, a6, a7, a8, a9, a10)) fun p3 =>
Option.bind (l_suturelaw9_within_8 b n n (p3.1, p3.2.2.2.2.2.2.2.2.2.2.1, ((List.length p3.2.2.2.2.2.2.2.2.2.2.1 : Nat) : Int), 0, p3.2.1, p3.2.2.1, p3.2.2.2.1, p3.2.2.2.2.1, p3.2.2.2.2.2.1, p3.2.2.2.2.2.2.1, p3.2.2.2.2.2.2.2.1, p3.2.2.2.2.2.2.2.2.1, p3.2.2.2.2.2.2.2.2.2.1, p3.2.2.2.2.2.2.2.2.2.2.1, p3.2.2.2.2.2.2.2.2.2.2.2)) fun p7 =>
some p7.1
noncomputable def code_suturelaw9_within : Code := Try.f18.body.getD .skip
def l_suturelaw9_within_3_S (b : B_suturelaw9_within) (n : Nat) (R : Type) (E : SEnv) (sg : Sig) (K : Ex → SEnv → Sig → Option R) : Option R := Option.bind (V.ptrOf 0 0 (SEnv.at E 1)) fun u0 => Option.bind (V.intOf .i64 (SEnv.at E 3)) fun u1 => Option.bind (V.lstOf (SEnv.at E 9)) fun u2 => Option.bind (V.intOf .i64 (SEnv.at E 10)) fun u3 => Option.bind (V.intOf .i64 (SEnv.at E 11)) fun u4 => Option.bind (cellsN 11 sg 0) fun u5 => Option.bind (V.intOf .i64 (u5.getD 0 .any)) fun u6 => Option.bind (V.strOf (u5.getD 1 .any)) fun u7 => Option.bind (V.strOf (u5.getD 2 .any)) fun u8 => Option.bind (V.intOf .i64 (u5.getD 3 .any)) fun u9 => Option.bind (V.intOf .i64 (u5.getD 4 .any)) fun u10 => Option.bind (V.intOf .i64 (u5.getD 5 .any)) fun u11 => Option.bind (V.strOf (u5.getD 6 .any)) fun u12 => Option.bind (V.lstOf (u5.getD 7 .any)) fun u13 => Option.bind (V.lstOf (u5.getD 8 .any)) fun u14 => Option.bind (V.lstOf (u5.getD 9 .any)) fun u15 => Option.bind (V.cplxOf .f64 (u5.getD 10 .any)) fun u16 => Option.bind (l_suturelaw9_within_3 b n n (u1, u2, u3, u4, u6, u7, u8, u9, u10, u11, u12, u13, u14, u15, u16)) fun p0 => K (.exit 0) [(1, (V.ptr 0 0)), (3, (V.t (T.sc (.int .i64 p0.1))))] [some [(V.t (T.sc (.int .i64 p0.2.1))), (V.t (T.sc (.string p0.2.2.1))), (V.t (T.sc (.string p0.2.2.2.1))), (V.t (T.sc (.int .i64 p0.2.2.2.2.1))), (V.t (T.sc (.int .i64 p0.2.2.2.2.2.1))), (V.t (T.sc (.int .i64 p0.2.2.2.2.2.2.1))), (V.t (T.sc (.string p0.2.2.2.2.2.2.2.1))), (V.t (T.list p0.2.2.2.2.2.2.2.2.1)), (V.t (T.list p0.2.2.2.2.2.2.2.2.2.1)), (V.t (T.list p0.2.2.2.2.2.2.2.2.2.2.1)), (V.t (T.sc (.complex .f64 p0.2.2.2.2.2.2.2.2.2.2.2.1 p0.2.2.2.2.2.2.2.2.2.2.2.2)))]]
def l_suturelaw9_within_8_S (b : B_suturelaw9_within) (n : Nat) (R : Type) (E : SEnv) (sg : Sig) (K : Ex → SEnv → Sig → Option R) : Option R := Option.bind (V.intOf .i64 (SEnv.at E 3)) fun u0 => Option.bind (V.lstOf (SEnv.at E 22)) fun u1 => Option.bind (V.intOf .i64 (SEnv.at E 23)) fun u2 => Option.bind (V.intOf .i64 (SEnv.at E 24)) fun u3 => Option.bind (cellsN 11 sg 0) fun u4 => Option.bind (V.intOf .i64 (u4.getD 0 .any)) fun u5 => Option.bind (V.strOf (u4.getD 1 .any)) fun u6 => Option.bind (V.strOf (u4.getD 2 .any)) fun u7 => Option.bind (V.intOf .i64 (u4.getD 3 .any)) fun u8 => Option.bind (V.intOf .i64 (u4.getD 4 .any)) fun u9 => Option.bind (V.intOf .i64 (u4.getD 5 .any)) fun u10 => Option.bind (V.strOf (u4.getD 6 .any)) fun u11 => Option.bind (V.lstOf (u4.getD 7 .any)) fun u12 => Option.bind (V.lstOf (u4.getD 8 .any)) fun u13 => Option.bind (V.lstOf (u4.getD 9 .any)) fun u14 => Option.bind (V.cplxOf .f64 (u4.getD 10 .any)) fun u15 => Option.bind (l_suturelaw9_within_8 b n n (u0, u1, u2, u3, u5, u6, u7, u8, u9, u10, u11, u12, u13, u14, u15)) fun p0 => K (.exit 2) [(3, (V.t (T.sc (.int .i64 p0.1))))] [some [(V.t (T.sc (.int .i64 p0.2.1))), (V.t (T.sc (.string p0.2.2.1))), (V.t (T.sc (.string p0.2.2.2.1))), (V.t (T.sc (.int .i64 p0.2.2.2.2.1))), (V.t (T.sc (.int .i64 p0.2.2.2.2.2.1))), (V.t (T.sc (.int .i64 p0.2.2.2.2.2.2.1))), (V.t (T.sc (.string p0.2.2.2.2.2.2.2.1))), (V.t (T.list p0.2.2.2.2.2.2.2.2.1)), (V.t (T.list p0.2.2.2.2.2.2.2.2.2.1)), (V.t (T.list p0.2.2.2.2.2.2.2.2.2.2.1)), (V.t (T.sc (.complex .f64 p0.2.2.2.2.2.2.2.2.2.2.2.1 p0.2.2.2.2.2.2.2.2.2.2.2.2)))]]
noncomputable def sp_suturelaw9_within (b : B_suturelaw9_within) (n : Nat) : Go.Eng.Spec := ⟨fun f vs sg => (match f with
    | 18 => c_suturelaw9_within b.suturelaw9_within vs sg
    | _ => none), fun R key E sg K => (match key with
    | 3 => l_suturelaw9_within_3_S b n R E sg K
    | 8 => l_suturelaw9_within_8_S b n R E sg K
    | _ => none)⟩
theorem sp_suturelaw9_within_ok (b : B_suturelaw9_within) (hb : B_suturelaw9_within_ok b) (n : Nat) : CallsOk Try.prog (sp_suturelaw9_within b n) := by
  intro f vs sg cm x h hx
  simp only [sp_suturelaw9_within] at h
  split at h
  · exact c_suturelaw9_within_ok _ hb.suturelaw9_within vs sg cm x h hx
  · cases h
theorem code_suturelaw9_within_fn : Try.prog.funcs[18]? = some Try.f18 := Try.func18
theorem code_suturelaw9_within_body : Try.f18.body = some code_suturelaw9_within := by kernel_rfl
theorem code_suturelaw9_within_ok : CodeOk Try.prog code_suturelaw9_within := (sound 18 _ _ code_suturelaw9_within_fn code_suturelaw9_within_body).1
noncomputable def code_l_suturelaw9_within_3 : Code := (loopsOf code_suturelaw9_within).getD 0 .skip
theorem code_l_suturelaw9_within_3_ok : CodeOk Try.prog code_l_suturelaw9_within_3 := codeOk_loops code_suturelaw9_within_ok _ (getD_mem (by kernel_rfl))
def l_suturelaw9_within_3_K (k : Int × (List T) × Int × Int × Int × ByteArray × ByteArray × Int × Int × Int × ByteArray × (List T) × (List T) × (List T) × (Nat × Nat) → Option (Int × Int × ByteArray × ByteArray × Int × Int × Int × ByteArray × (List T) × (List T) × (List T) × (Nat × Nat))) : Ex → SEnv → Sig → Option (Int × Int × ByteArray × ByteArray × Int × Int × Int × ByteArray × (List T) × (List T) × (List T) × (Nat × Nat)) := fun x E sg => match x with
  | .normal => Option.bind (V.ptrOf 0 0 (SEnv.at E 1)) fun u0 => Option.bind (V.intOf .i64 (SEnv.at E 3)) fun u1 => Option.bind (V.lstOf (SEnv.at E 9)) fun u2 => Option.bind (V.intOf .i64 (SEnv.at E 10)) fun u3 => Option.bind (V.intOf .i64 (SEnv.at E 11)) fun u4 => Option.bind (cellsN 11 sg 0) fun u5 => Option.bind (V.intOf .i64 (u5.getD 0 .any)) fun u6 => Option.bind (V.strOf (u5.getD 1 .any)) fun u7 => Option.bind (V.strOf (u5.getD 2 .any)) fun u8 => Option.bind (V.intOf .i64 (u5.getD 3 .any)) fun u9 => Option.bind (V.intOf .i64 (u5.getD 4 .any)) fun u10 => Option.bind (V.intOf .i64 (u5.getD 5 .any)) fun u11 => Option.bind (V.strOf (u5.getD 6 .any)) fun u12 => Option.bind (V.lstOf (u5.getD 7 .any)) fun u13 => Option.bind (V.lstOf (u5.getD 8 .any)) fun u14 => Option.bind (V.lstOf (u5.getD 9 .any)) fun u15 => Option.bind (V.cplxOf .f64 (u5.getD 10 .any)) fun u16 => k (u1, u2, u3, u4, u6, u7, u8, u9, u10, u11, u12, u13, u14, u15, u16)
  | (.exit 0) => Option.bind (V.ptrOf 0 0 (SEnv.at E 1)) fun u0 => Option.bind (V.intOf .i64 (SEnv.at E 3)) fun u1 => Option.bind (cellsN 11 sg 0) fun u2 => Option.bind (V.intOf .i64 (u2.getD 0 .any)) fun u3 => Option.bind (V.strOf (u2.getD 1 .any)) fun u4 => Option.bind (V.strOf (u2.getD 2 .any)) fun u5 => Option.bind (V.intOf .i64 (u2.getD 3 .any)) fun u6 => Option.bind (V.intOf .i64 (u2.getD 4 .any)) fun u7 => Option.bind (V.intOf .i64 (u2.getD 5 .any)) fun u8 => Option.bind (V.strOf (u2.getD 6 .any)) fun u9 => Option.bind (V.lstOf (u2.getD 7 .any)) fun u10 => Option.bind (V.lstOf (u2.getD 8 .any)) fun u11 => Option.bind (V.lstOf (u2.getD 9 .any)) fun u12 => Option.bind (V.cplxOf .f64 (u2.getD 10 .any)) fun u13 => some (u1, u3, u4, u5, u6, u7, u8, u9, u10, u11, u12, u13)
  | _ => none
theorem l_suturelaw9_within_3_eq (b : B_suturelaw9_within) (n : Nat) (k : Int × (List T) × Int × Int × Int × ByteArray × ByteArray × Int × Int × Int × ByteArray × (List T) × (List T) × (List T) × (Nat × Nat) → Option (Int × Int × ByteArray × ByteArray × Int × Int × Int × ByteArray × (List T) × (List T) × (List T) × (Nat × Nat))) (s0 : Int) (s1 : List T) (s2 : Int) (s3 : Int) (s4 : Int) (s5 : ByteArray) (s6 : ByteArray) (s7 : Int) (s8 : Int) (s9 : Int) (s10 : ByteArray) (s11 : List T) (s12 : List T) (s13 : List T) (s14 : Nat × Nat) : mX Try.prog (sp_suturelaw9_within b n) 35 code_l_suturelaw9_within_3 [(1, (V.ptr 0 0)), (3, (V.t (T.sc (.int .i64 s0)))), (9, (V.t (T.list s1))), (10, (V.t (T.sc (.int .i64 s2)))), (11, (V.t (T.sc (.int .i64 s3))))] [some [(V.t (T.sc (.int .i64 s4))), (V.t (T.sc (.string s5))), (V.t (T.sc (.string s6))), (V.t (T.sc (.int .i64 s7))), (V.t (T.sc (.int .i64 s8))), (V.t (T.sc (.int .i64 s9))), (V.t (T.sc (.string s10))), (V.t (T.list s11)), (V.t (T.list s12)), (V.t (T.list s13)), (V.t (T.sc (.complex .f64 s14.1 s14.2)))]] (l_suturelaw9_within_3_K k) = l_suturelaw9_within_3_B b n k (s0, s1, s2, s3, s4, s5, s6, s7, s8, s9, s10, s11, s12, s13, s14) := by kernel_rfl
def l_suturelaw9_within_3_Q (x : Int × Int × ByteArray × ByteArray × Int × Int × Int × ByteArray × (List T) × (List T) × (List T) × (Nat × Nat)) (ex : Ex) (e : Env) (s : Sig) : Prop := (fun p0 => (ex = (.exit 0) ∧ e = SEnv.env 35 [(1, (V.ptr 0 0)), (3, (V.t (T.sc (.int .i64 p0.1))))] ∧ s = [some [(V.t (T.sc (.int .i64 p0.2.1))), (V.t (T.sc (.string p0.2.2.1))), (V.t (T.sc (.string p0.2.2.2.1))), (V.t (T.sc (.int .i64 p0.2.2.2.2.1))), (V.t (T.sc (.int .i64 p0.2.2.2.2.2.1))), (V.t (T.sc (.int .i64 p0.2.2.2.2.2.2.1))), (V.t (T.sc (.string p0.2.2.2.2.2.2.2.1))), (V.t (T.list p0.2.2.2.2.2.2.2.2.1)), (V.t (T.list p0.2.2.2.2.2.2.2.2.2.1)), (V.t (T.list p0.2.2.2.2.2.2.2.2.2.2.1)), (V.t (T.sc (.complex .f64 p0.2.2.2.2.2.2.2.2.2.2.2.1 p0.2.2.2.2.2.2.2.2.2.2.2.2)))]])) x
theorem l_suturelaw9_within_3_run (b : B_suturelaw9_within) (hb : B_suturelaw9_within_ok b) (n : Nat) : ∀ (m : Nat) (s0 : Int) (s1 : List T) (s2 : Int) (s3 : Int) (s4 : Int) (s5 : ByteArray) (s6 : ByteArray) (s7 : Int) (s8 : Int) (s9 : Int) (s10 : ByteArray) (s11 : List T) (s12 : List T) (s13 : List T) (s14 : Nat × Nat) (x : Int × Int × ByteArray × ByteArray × Int × Int × Int × ByteArray × (List T) × (List T) × (List T) × (Nat × Nat)), l_suturelaw9_within_3 b n m (s0, s1, s2, s3, s4, s5, s6, s7, s8, s9, s10, s11, s12, s13, s14) = some x → SemL Try.prog 0 code_l_suturelaw9_within_3 (SEnv.env 35 [(1, (V.ptr 0 0)), (3, (V.t (T.sc (.int .i64 s0)))), (9, (V.t (T.list s1))), (10, (V.t (T.sc (.int .i64 s2)))), (11, (V.t (T.sc (.int .i64 s3))))]) [some [(V.t (T.sc (.int .i64 s4))), (V.t (T.sc (.string s5))), (V.t (T.sc (.string s6))), (V.t (T.sc (.int .i64 s7))), (V.t (T.sc (.int .i64 s8))), (V.t (T.sc (.int .i64 s9))), (V.t (T.sc (.string s10))), (V.t (T.list s11)), (V.t (T.list s12)), (V.t (T.list s13)), (V.t (T.sc (.complex .f64 s14.1 s14.2)))]] (l_suturelaw9_within_3_Q x)
  | 0, s0, s1, s2, s3, s4, s5, s6, s7, s8, s9, s10, s11, s12, s13, s14, x, h => by cases h
  | m + 1, s0, s1, s2, s3, s4, s5, s6, s7, s8, s9, s10, s11, s12, s13, s14, x, h => by
    refine loop_step (sp_suturelaw9_within_ok b hb n) code_l_suturelaw9_within_3_ok (fun a ha => absurd ha (by rw [show loopsOf code_l_suturelaw9_within_3 = [] from by kernel_rfl]; simp)) (no_scope (by kernel_rfl)) ((l_suturelaw9_within_3_eq b n _ s0 s1 s2 s3 s4 s5 s6 s7 s8 s9 s10 s11 s12 s13 s14).trans h) (fun E sg h => ?_) (fun ex E sg hne h => ?_)
    · simp only [l_suturelaw9_within_3_K] at h
      obtain ⟨u0, hu0, h⟩ := Option.bind_eq_some_iff.1 h
      obtain ⟨u1, hu1, h⟩ := Option.bind_eq_some_iff.1 h
      obtain ⟨u2, hu2, h⟩ := Option.bind_eq_some_iff.1 h
      obtain ⟨u3, hu3, h⟩ := Option.bind_eq_some_iff.1 h
      obtain ⟨u4, hu4, h⟩ := Option.bind_eq_some_iff.1 h
      obtain ⟨u5, hu5, h⟩ := Option.bind_eq_some_iff.1 h
      obtain ⟨u6, hu6, h⟩ := Option.bind_eq_some_iff.1 h
      obtain ⟨u7, hu7, h⟩ := Option.bind_eq_some_iff.1 h
      obtain ⟨u8, hu8, h⟩ := Option.bind_eq_some_iff.1 h
      obtain ⟨u9, hu9, h⟩ := Option.bind_eq_some_iff.1 h
      obtain ⟨u10, hu10, h⟩ := Option.bind_eq_some_iff.1 h
      obtain ⟨u11, hu11, h⟩ := Option.bind_eq_some_iff.1 h
      obtain ⟨u12, hu12, h⟩ := Option.bind_eq_some_iff.1 h
      obtain ⟨u13, hu13, h⟩ := Option.bind_eq_some_iff.1 h
      obtain ⟨u14, hu14, h⟩ := Option.bind_eq_some_iff.1 h
      obtain ⟨u15, hu15, h⟩ := Option.bind_eq_some_iff.1 h
      obtain ⟨u16, hu16, h⟩ := Option.bind_eq_some_iff.1 h
      exact SemL.pre (k := 1) (by decide) (WkA.env (WkA.cons (ptrOf_wk hu0) rfl (WkA.cons (intOf_wk hu1) rfl (WkA.cons (lstOf_wk hu2) rfl (WkA.cons (intOf_wk hu3) rfl (WkA.cons (intOf_wk hu4) rfl WkA.nil))))) 35) (wkR_sig (WkR.cons (cellsN_wk hu5 (.cons (intOf_wk hu6) (.cons (strOf_wk hu7) (.cons (strOf_wk hu8) (.cons (intOf_wk hu9) (.cons (intOf_wk hu10) (.cons (intOf_wk hu11) (.cons (strOf_wk hu12) (.cons (lstOf_wk hu13) (.cons (lstOf_wk hu14) (.cons (lstOf_wk hu15) (.cons (cplxOf_wk hu16) .nil)))))))))))).1 (cellsN_wk hu5 (.cons (intOf_wk hu6) (.cons (strOf_wk hu7) (.cons (strOf_wk hu8) (.cons (intOf_wk hu9) (.cons (intOf_wk hu10) (.cons (intOf_wk hu11) (.cons (strOf_wk hu12) (.cons (lstOf_wk hu13) (.cons (lstOf_wk hu14) (.cons (lstOf_wk hu15) (.cons (cplxOf_wk hu16) .nil)))))))))))).2 (renL_mem (.cons rfl (.cons rfl (.cons rfl (.cons rfl (.cons rfl (.cons rfl (.cons rfl (.cons rfl (.cons rfl (.cons rfl (.cons rfl .nil)))))))))))) (WkR.nil _)) rfl) (l_suturelaw9_within_3_run b hb n m _ _ _ _ _ _ _ _ _ _ _ _ _ _ _ x h)
    · unfold l_suturelaw9_within_3_K at h
      split at h
      · exact absurd rfl hne
      · obtain ⟨u0, hu0, h⟩ := Option.bind_eq_some_iff.1 h
        obtain ⟨u1, hu1, h⟩ := Option.bind_eq_some_iff.1 h
        obtain ⟨u2, hu2, h⟩ := Option.bind_eq_some_iff.1 h
        obtain ⟨u3, hu3, h⟩ := Option.bind_eq_some_iff.1 h
        obtain ⟨u4, hu4, h⟩ := Option.bind_eq_some_iff.1 h
        obtain ⟨u5, hu5, h⟩ := Option.bind_eq_some_iff.1 h
        obtain ⟨u6, hu6, h⟩ := Option.bind_eq_some_iff.1 h
        obtain ⟨u7, hu7, h⟩ := Option.bind_eq_some_iff.1 h
        obtain ⟨u8, hu8, h⟩ := Option.bind_eq_some_iff.1 h
        obtain ⟨u9, hu9, h⟩ := Option.bind_eq_some_iff.1 h
        obtain ⟨u10, hu10, h⟩ := Option.bind_eq_some_iff.1 h
        obtain ⟨u11, hu11, h⟩ := Option.bind_eq_some_iff.1 h
        obtain ⟨u12, hu12, h⟩ := Option.bind_eq_some_iff.1 h
        obtain ⟨u13, hu13, h⟩ := Option.bind_eq_some_iff.1 h
        simp only [Option.some.injEq] at h
        subst h
        exact ⟨1, _, _, by decide, WkA.env (WkA.cons (ptrOf_wk hu0) rfl (WkA.cons (intOf_wk hu1) rfl WkA.nil)) 35, (wkR_sig (WkR.cons (cellsN_wk hu2 (.cons (intOf_wk hu3) (.cons (strOf_wk hu4) (.cons (strOf_wk hu5) (.cons (intOf_wk hu6) (.cons (intOf_wk hu7) (.cons (intOf_wk hu8) (.cons (strOf_wk hu9) (.cons (lstOf_wk hu10) (.cons (lstOf_wk hu11) (.cons (lstOf_wk hu12) (.cons (cplxOf_wk hu13) .nil)))))))))))).1 (cellsN_wk hu2 (.cons (intOf_wk hu3) (.cons (strOf_wk hu4) (.cons (strOf_wk hu5) (.cons (intOf_wk hu6) (.cons (intOf_wk hu7) (.cons (intOf_wk hu8) (.cons (strOf_wk hu9) (.cons (lstOf_wk hu10) (.cons (lstOf_wk hu11) (.cons (lstOf_wk hu12) (.cons (cplxOf_wk hu13) .nil)))))))))))).2 (renL_mem (.cons rfl (.cons rfl (.cons rfl (.cons rfl (.cons rfl (.cons rfl (.cons rfl (.cons rfl (.cons rfl (.cons rfl (.cons rfl .nil)))))))))))) (WkR.nil _)) rfl), rfl, rfl, rfl⟩
      · cases h
theorem l_suturelaw9_within_3_ok (b : B_suturelaw9_within) (hb : B_suturelaw9_within_ok b) (n : Nat) : LoopOk Try.prog (sp_suturelaw9_within b n) 0 35 code_l_suturelaw9_within_3 := by
    intro R key E sg K r hk h
    rw [show Go.Eng.keyOf code_l_suturelaw9_within_3 = some 3 from by kernel_rfl] at hk
    cases hk
    have h : l_suturelaw9_within_3_S b n R E sg K = some r := h
    unfold l_suturelaw9_within_3_S at h
    obtain ⟨u0, hu0, h⟩ := Option.bind_eq_some_iff.1 h
    obtain ⟨u1, hu1, h⟩ := Option.bind_eq_some_iff.1 h
    obtain ⟨u2, hu2, h⟩ := Option.bind_eq_some_iff.1 h
    obtain ⟨u3, hu3, h⟩ := Option.bind_eq_some_iff.1 h
    obtain ⟨u4, hu4, h⟩ := Option.bind_eq_some_iff.1 h
    obtain ⟨u5, hu5, h⟩ := Option.bind_eq_some_iff.1 h
    obtain ⟨u6, hu6, h⟩ := Option.bind_eq_some_iff.1 h
    obtain ⟨u7, hu7, h⟩ := Option.bind_eq_some_iff.1 h
    obtain ⟨u8, hu8, h⟩ := Option.bind_eq_some_iff.1 h
    obtain ⟨u9, hu9, h⟩ := Option.bind_eq_some_iff.1 h
    obtain ⟨u10, hu10, h⟩ := Option.bind_eq_some_iff.1 h
    obtain ⟨u11, hu11, h⟩ := Option.bind_eq_some_iff.1 h
    obtain ⟨u12, hu12, h⟩ := Option.bind_eq_some_iff.1 h
    obtain ⟨u13, hu13, h⟩ := Option.bind_eq_some_iff.1 h
    obtain ⟨u14, hu14, h⟩ := Option.bind_eq_some_iff.1 h
    obtain ⟨u15, hu15, h⟩ := Option.bind_eq_some_iff.1 h
    obtain ⟨u16, hu16, h⟩ := Option.bind_eq_some_iff.1 h
    obtain ⟨x, hx, h⟩ := Option.bind_eq_some_iff.1 h
    refine (SemL.pre (k := 1) (by decide) (WkA.env (WkA.cons (ptrOf_wk hu0) rfl (WkA.cons (intOf_wk hu1) rfl (WkA.cons (lstOf_wk hu2) rfl (WkA.cons (intOf_wk hu3) rfl (WkA.cons (intOf_wk hu4) rfl WkA.nil))))) 35) (wkR_sig (WkR.cons (cellsN_wk hu5 (.cons (intOf_wk hu6) (.cons (strOf_wk hu7) (.cons (strOf_wk hu8) (.cons (intOf_wk hu9) (.cons (intOf_wk hu10) (.cons (intOf_wk hu11) (.cons (strOf_wk hu12) (.cons (lstOf_wk hu13) (.cons (lstOf_wk hu14) (.cons (lstOf_wk hu15) (.cons (cplxOf_wk hu16) .nil)))))))))))).1 (cellsN_wk hu5 (.cons (intOf_wk hu6) (.cons (strOf_wk hu7) (.cons (strOf_wk hu8) (.cons (intOf_wk hu9) (.cons (intOf_wk hu10) (.cons (intOf_wk hu11) (.cons (strOf_wk hu12) (.cons (lstOf_wk hu13) (.cons (lstOf_wk hu14) (.cons (lstOf_wk hu15) (.cons (cplxOf_wk hu16) .nil)))))))))))).2 (renL_mem (.cons rfl (.cons rfl (.cons rfl (.cons rfl (.cons rfl (.cons rfl (.cons rfl (.cons rfl (.cons rfl (.cons rfl (.cons rfl .nil)))))))))))) (WkR.nil _)) rfl) (l_suturelaw9_within_3_run b hb n n _ _ _ _ _ _ _ _ _ _ _ _ _ _ _ x hx)).mono ?_
    intro ex e s hq
    obtain ⟨rfl, rfl, rfl⟩ := hq
    exact ⟨_, rfl, h⟩
noncomputable def code_l_suturelaw9_within_8 : Code := (loopsOf code_suturelaw9_within).getD 1 .skip
theorem code_l_suturelaw9_within_8_ok : CodeOk Try.prog code_l_suturelaw9_within_8 := codeOk_loops code_suturelaw9_within_ok _ (getD_mem (by kernel_rfl))
def l_suturelaw9_within_8_K (k : Int × (List T) × Int × Int × Int × ByteArray × ByteArray × Int × Int × Int × ByteArray × (List T) × (List T) × (List T) × (Nat × Nat) → Option (Int × Int × ByteArray × ByteArray × Int × Int × Int × ByteArray × (List T) × (List T) × (List T) × (Nat × Nat))) : Ex → SEnv → Sig → Option (Int × Int × ByteArray × ByteArray × Int × Int × Int × ByteArray × (List T) × (List T) × (List T) × (Nat × Nat)) := fun x E sg => match x with
  | .normal => Option.bind (V.intOf .i64 (SEnv.at E 3)) fun u0 => Option.bind (V.lstOf (SEnv.at E 22)) fun u1 => Option.bind (V.intOf .i64 (SEnv.at E 23)) fun u2 => Option.bind (V.intOf .i64 (SEnv.at E 24)) fun u3 => Option.bind (cellsN 11 sg 0) fun u4 => Option.bind (V.intOf .i64 (u4.getD 0 .any)) fun u5 => Option.bind (V.strOf (u4.getD 1 .any)) fun u6 => Option.bind (V.strOf (u4.getD 2 .any)) fun u7 => Option.bind (V.intOf .i64 (u4.getD 3 .any)) fun u8 => Option.bind (V.intOf .i64 (u4.getD 4 .any)) fun u9 => Option.bind (V.intOf .i64 (u4.getD 5 .any)) fun u10 => Option.bind (V.strOf (u4.getD 6 .any)) fun u11 => Option.bind (V.lstOf (u4.getD 7 .any)) fun u12 => Option.bind (V.lstOf (u4.getD 8 .any)) fun u13 => Option.bind (V.lstOf (u4.getD 9 .any)) fun u14 => Option.bind (V.cplxOf .f64 (u4.getD 10 .any)) fun u15 => k (u0, u1, u2, u3, u5, u6, u7, u8, u9, u10, u11, u12, u13, u14, u15)
  | (.exit 2) => Option.bind (V.intOf .i64 (SEnv.at E 3)) fun u0 => Option.bind (cellsN 11 sg 0) fun u1 => Option.bind (V.intOf .i64 (u1.getD 0 .any)) fun u2 => Option.bind (V.strOf (u1.getD 1 .any)) fun u3 => Option.bind (V.strOf (u1.getD 2 .any)) fun u4 => Option.bind (V.intOf .i64 (u1.getD 3 .any)) fun u5 => Option.bind (V.intOf .i64 (u1.getD 4 .any)) fun u6 => Option.bind (V.intOf .i64 (u1.getD 5 .any)) fun u7 => Option.bind (V.strOf (u1.getD 6 .any)) fun u8 => Option.bind (V.lstOf (u1.getD 7 .any)) fun u9 => Option.bind (V.lstOf (u1.getD 8 .any)) fun u10 => Option.bind (V.lstOf (u1.getD 9 .any)) fun u11 => Option.bind (V.cplxOf .f64 (u1.getD 10 .any)) fun u12 => some (u0, u2, u3, u4, u5, u6, u7, u8, u9, u10, u11, u12)
  | _ => none
theorem l_suturelaw9_within_8_eq (b : B_suturelaw9_within) (n : Nat) (k : Int × (List T) × Int × Int × Int × ByteArray × ByteArray × Int × Int × Int × ByteArray × (List T) × (List T) × (List T) × (Nat × Nat) → Option (Int × Int × ByteArray × ByteArray × Int × Int × Int × ByteArray × (List T) × (List T) × (List T) × (Nat × Nat))) (s0 : Int) (s1 : List T) (s2 : Int) (s3 : Int) (s4 : Int) (s5 : ByteArray) (s6 : ByteArray) (s7 : Int) (s8 : Int) (s9 : Int) (s10 : ByteArray) (s11 : List T) (s12 : List T) (s13 : List T) (s14 : Nat × Nat) : mX Try.prog (sp_suturelaw9_within b n) 35 code_l_suturelaw9_within_8 [(3, (V.t (T.sc (.int .i64 s0)))), (22, (V.t (T.list s1))), (23, (V.t (T.sc (.int .i64 s2)))), (24, (V.t (T.sc (.int .i64 s3))))] [some [(V.t (T.sc (.int .i64 s4))), (V.t (T.sc (.string s5))), (V.t (T.sc (.string s6))), (V.t (T.sc (.int .i64 s7))), (V.t (T.sc (.int .i64 s8))), (V.t (T.sc (.int .i64 s9))), (V.t (T.sc (.string s10))), (V.t (T.list s11)), (V.t (T.list s12)), (V.t (T.list s13)), (V.t (T.sc (.complex .f64 s14.1 s14.2)))]] (l_suturelaw9_within_8_K k) = l_suturelaw9_within_8_B b n k (s0, s1, s2, s3, s4, s5, s6, s7, s8, s9, s10, s11, s12, s13, s14) := by kernel_rfl
def l_suturelaw9_within_8_Q (x : Int × Int × ByteArray × ByteArray × Int × Int × Int × ByteArray × (List T) × (List T) × (List T) × (Nat × Nat)) (ex : Ex) (e : Env) (s : Sig) : Prop := (fun p0 => (ex = (.exit 2) ∧ e = SEnv.env 35 [(3, (V.t (T.sc (.int .i64 p0.1))))] ∧ s = [some [(V.t (T.sc (.int .i64 p0.2.1))), (V.t (T.sc (.string p0.2.2.1))), (V.t (T.sc (.string p0.2.2.2.1))), (V.t (T.sc (.int .i64 p0.2.2.2.2.1))), (V.t (T.sc (.int .i64 p0.2.2.2.2.2.1))), (V.t (T.sc (.int .i64 p0.2.2.2.2.2.2.1))), (V.t (T.sc (.string p0.2.2.2.2.2.2.2.1))), (V.t (T.list p0.2.2.2.2.2.2.2.2.1)), (V.t (T.list p0.2.2.2.2.2.2.2.2.2.1)), (V.t (T.list p0.2.2.2.2.2.2.2.2.2.2.1)), (V.t (T.sc (.complex .f64 p0.2.2.2.2.2.2.2.2.2.2.2.1 p0.2.2.2.2.2.2.2.2.2.2.2.2)))]])) x
theorem l_suturelaw9_within_8_run (b : B_suturelaw9_within) (hb : B_suturelaw9_within_ok b) (n : Nat) : ∀ (m : Nat) (s0 : Int) (s1 : List T) (s2 : Int) (s3 : Int) (s4 : Int) (s5 : ByteArray) (s6 : ByteArray) (s7 : Int) (s8 : Int) (s9 : Int) (s10 : ByteArray) (s11 : List T) (s12 : List T) (s13 : List T) (s14 : Nat × Nat) (x : Int × Int × ByteArray × ByteArray × Int × Int × Int × ByteArray × (List T) × (List T) × (List T) × (Nat × Nat)), l_suturelaw9_within_8 b n m (s0, s1, s2, s3, s4, s5, s6, s7, s8, s9, s10, s11, s12, s13, s14) = some x → SemL Try.prog 0 code_l_suturelaw9_within_8 (SEnv.env 35 [(3, (V.t (T.sc (.int .i64 s0)))), (22, (V.t (T.list s1))), (23, (V.t (T.sc (.int .i64 s2)))), (24, (V.t (T.sc (.int .i64 s3))))]) [some [(V.t (T.sc (.int .i64 s4))), (V.t (T.sc (.string s5))), (V.t (T.sc (.string s6))), (V.t (T.sc (.int .i64 s7))), (V.t (T.sc (.int .i64 s8))), (V.t (T.sc (.int .i64 s9))), (V.t (T.sc (.string s10))), (V.t (T.list s11)), (V.t (T.list s12)), (V.t (T.list s13)), (V.t (T.sc (.complex .f64 s14.1 s14.2)))]] (l_suturelaw9_within_8_Q x)
  | 0, s0, s1, s2, s3, s4, s5, s6, s7, s8, s9, s10, s11, s12, s13, s14, x, h => by cases h
  | m + 1, s0, s1, s2, s3, s4, s5, s6, s7, s8, s9, s10, s11, s12, s13, s14, x, h => by
    refine loop_step (sp_suturelaw9_within_ok b hb n) code_l_suturelaw9_within_8_ok (fun a ha => absurd ha (by rw [show loopsOf code_l_suturelaw9_within_8 = [] from by kernel_rfl]; simp)) (no_scope (by kernel_rfl)) ((l_suturelaw9_within_8_eq b n _ s0 s1 s2 s3 s4 s5 s6 s7 s8 s9 s10 s11 s12 s13 s14).trans h) (fun E sg h => ?_) (fun ex E sg hne h => ?_)
    · simp only [l_suturelaw9_within_8_K] at h
      obtain ⟨u0, hu0, h⟩ := Option.bind_eq_some_iff.1 h
      obtain ⟨u1, hu1, h⟩ := Option.bind_eq_some_iff.1 h
      obtain ⟨u2, hu2, h⟩ := Option.bind_eq_some_iff.1 h
      obtain ⟨u3, hu3, h⟩ := Option.bind_eq_some_iff.1 h
      obtain ⟨u4, hu4, h⟩ := Option.bind_eq_some_iff.1 h
      obtain ⟨u5, hu5, h⟩ := Option.bind_eq_some_iff.1 h
      obtain ⟨u6, hu6, h⟩ := Option.bind_eq_some_iff.1 h
      obtain ⟨u7, hu7, h⟩ := Option.bind_eq_some_iff.1 h
      obtain ⟨u8, hu8, h⟩ := Option.bind_eq_some_iff.1 h
      obtain ⟨u9, hu9, h⟩ := Option.bind_eq_some_iff.1 h
      obtain ⟨u10, hu10, h⟩ := Option.bind_eq_some_iff.1 h
      obtain ⟨u11, hu11, h⟩ := Option.bind_eq_some_iff.1 h
      obtain ⟨u12, hu12, h⟩ := Option.bind_eq_some_iff.1 h
      obtain ⟨u13, hu13, h⟩ := Option.bind_eq_some_iff.1 h
      obtain ⟨u14, hu14, h⟩ := Option.bind_eq_some_iff.1 h
      obtain ⟨u15, hu15, h⟩ := Option.bind_eq_some_iff.1 h
      exact SemL.pre (k := 1) (by decide) (WkA.env (WkA.cons (intOf_wk hu0) rfl (WkA.cons (lstOf_wk hu1) rfl (WkA.cons (intOf_wk hu2) rfl (WkA.cons (intOf_wk hu3) rfl WkA.nil)))) 35) (wkR_sig (WkR.cons (cellsN_wk hu4 (.cons (intOf_wk hu5) (.cons (strOf_wk hu6) (.cons (strOf_wk hu7) (.cons (intOf_wk hu8) (.cons (intOf_wk hu9) (.cons (intOf_wk hu10) (.cons (strOf_wk hu11) (.cons (lstOf_wk hu12) (.cons (lstOf_wk hu13) (.cons (lstOf_wk hu14) (.cons (cplxOf_wk hu15) .nil)))))))))))).1 (cellsN_wk hu4 (.cons (intOf_wk hu5) (.cons (strOf_wk hu6) (.cons (strOf_wk hu7) (.cons (intOf_wk hu8) (.cons (intOf_wk hu9) (.cons (intOf_wk hu10) (.cons (strOf_wk hu11) (.cons (lstOf_wk hu12) (.cons (lstOf_wk hu13) (.cons (lstOf_wk hu14) (.cons (cplxOf_wk hu15) .nil)))))))))))).2 (renL_mem (.cons rfl (.cons rfl (.cons rfl (.cons rfl (.cons rfl (.cons rfl (.cons rfl (.cons rfl (.cons rfl (.cons rfl (.cons rfl .nil)))))))))))) (WkR.nil _)) rfl) (l_suturelaw9_within_8_run b hb n m _ _ _ _ _ _ _ _ _ _ _ _ _ _ _ x h)
    · unfold l_suturelaw9_within_8_K at h
      split at h
      · exact absurd rfl hne
      · obtain ⟨u0, hu0, h⟩ := Option.bind_eq_some_iff.1 h
        obtain ⟨u1, hu1, h⟩ := Option.bind_eq_some_iff.1 h
        obtain ⟨u2, hu2, h⟩ := Option.bind_eq_some_iff.1 h
        obtain ⟨u3, hu3, h⟩ := Option.bind_eq_some_iff.1 h
        obtain ⟨u4, hu4, h⟩ := Option.bind_eq_some_iff.1 h
        obtain ⟨u5, hu5, h⟩ := Option.bind_eq_some_iff.1 h
        obtain ⟨u6, hu6, h⟩ := Option.bind_eq_some_iff.1 h
        obtain ⟨u7, hu7, h⟩ := Option.bind_eq_some_iff.1 h
        obtain ⟨u8, hu8, h⟩ := Option.bind_eq_some_iff.1 h
        obtain ⟨u9, hu9, h⟩ := Option.bind_eq_some_iff.1 h
        obtain ⟨u10, hu10, h⟩ := Option.bind_eq_some_iff.1 h
        obtain ⟨u11, hu11, h⟩ := Option.bind_eq_some_iff.1 h
        obtain ⟨u12, hu12, h⟩ := Option.bind_eq_some_iff.1 h
        simp only [Option.some.injEq] at h
        subst h
        exact ⟨1, _, _, by decide, WkA.env (WkA.cons (intOf_wk hu0) rfl WkA.nil) 35, (wkR_sig (WkR.cons (cellsN_wk hu1 (.cons (intOf_wk hu2) (.cons (strOf_wk hu3) (.cons (strOf_wk hu4) (.cons (intOf_wk hu5) (.cons (intOf_wk hu6) (.cons (intOf_wk hu7) (.cons (strOf_wk hu8) (.cons (lstOf_wk hu9) (.cons (lstOf_wk hu10) (.cons (lstOf_wk hu11) (.cons (cplxOf_wk hu12) .nil)))))))))))).1 (cellsN_wk hu1 (.cons (intOf_wk hu2) (.cons (strOf_wk hu3) (.cons (strOf_wk hu4) (.cons (intOf_wk hu5) (.cons (intOf_wk hu6) (.cons (intOf_wk hu7) (.cons (strOf_wk hu8) (.cons (lstOf_wk hu9) (.cons (lstOf_wk hu10) (.cons (lstOf_wk hu11) (.cons (cplxOf_wk hu12) .nil)))))))))))).2 (renL_mem (.cons rfl (.cons rfl (.cons rfl (.cons rfl (.cons rfl (.cons rfl (.cons rfl (.cons rfl (.cons rfl (.cons rfl (.cons rfl .nil)))))))))))) (WkR.nil _)) rfl), rfl, rfl, rfl⟩
      · cases h
theorem l_suturelaw9_within_8_ok (b : B_suturelaw9_within) (hb : B_suturelaw9_within_ok b) (n : Nat) : LoopOk Try.prog (sp_suturelaw9_within b n) 0 35 code_l_suturelaw9_within_8 := by
    intro R key E sg K r hk h
    rw [show Go.Eng.keyOf code_l_suturelaw9_within_8 = some 8 from by kernel_rfl] at hk
    cases hk
    have h : l_suturelaw9_within_8_S b n R E sg K = some r := h
    unfold l_suturelaw9_within_8_S at h
    obtain ⟨u0, hu0, h⟩ := Option.bind_eq_some_iff.1 h
    obtain ⟨u1, hu1, h⟩ := Option.bind_eq_some_iff.1 h
    obtain ⟨u2, hu2, h⟩ := Option.bind_eq_some_iff.1 h
    obtain ⟨u3, hu3, h⟩ := Option.bind_eq_some_iff.1 h
    obtain ⟨u4, hu4, h⟩ := Option.bind_eq_some_iff.1 h
    obtain ⟨u5, hu5, h⟩ := Option.bind_eq_some_iff.1 h
    obtain ⟨u6, hu6, h⟩ := Option.bind_eq_some_iff.1 h
    obtain ⟨u7, hu7, h⟩ := Option.bind_eq_some_iff.1 h
    obtain ⟨u8, hu8, h⟩ := Option.bind_eq_some_iff.1 h
    obtain ⟨u9, hu9, h⟩ := Option.bind_eq_some_iff.1 h
    obtain ⟨u10, hu10, h⟩ := Option.bind_eq_some_iff.1 h
    obtain ⟨u11, hu11, h⟩ := Option.bind_eq_some_iff.1 h
    obtain ⟨u12, hu12, h⟩ := Option.bind_eq_some_iff.1 h
    obtain ⟨u13, hu13, h⟩ := Option.bind_eq_some_iff.1 h
    obtain ⟨u14, hu14, h⟩ := Option.bind_eq_some_iff.1 h
    obtain ⟨u15, hu15, h⟩ := Option.bind_eq_some_iff.1 h
    obtain ⟨x, hx, h⟩ := Option.bind_eq_some_iff.1 h
    refine (SemL.pre (k := 1) (by decide) (WkA.env (WkA.cons (intOf_wk hu0) rfl (WkA.cons (lstOf_wk hu1) rfl (WkA.cons (intOf_wk hu2) rfl (WkA.cons (intOf_wk hu3) rfl WkA.nil)))) 35) (wkR_sig (WkR.cons (cellsN_wk hu4 (.cons (intOf_wk hu5) (.cons (strOf_wk hu6) (.cons (strOf_wk hu7) (.cons (intOf_wk hu8) (.cons (intOf_wk hu9) (.cons (intOf_wk hu10) (.cons (strOf_wk hu11) (.cons (lstOf_wk hu12) (.cons (lstOf_wk hu13) (.cons (lstOf_wk hu14) (.cons (cplxOf_wk hu15) .nil)))))))))))).1 (cellsN_wk hu4 (.cons (intOf_wk hu5) (.cons (strOf_wk hu6) (.cons (strOf_wk hu7) (.cons (intOf_wk hu8) (.cons (intOf_wk hu9) (.cons (intOf_wk hu10) (.cons (strOf_wk hu11) (.cons (lstOf_wk hu12) (.cons (lstOf_wk hu13) (.cons (lstOf_wk hu14) (.cons (cplxOf_wk hu15) .nil)))))))))))).2 (renL_mem (.cons rfl (.cons rfl (.cons rfl (.cons rfl (.cons rfl (.cons rfl (.cons rfl (.cons rfl (.cons rfl (.cons rfl (.cons rfl .nil)))))))))))) (WkR.nil _)) rfl) (l_suturelaw9_within_8_run b hb n n _ _ _ _ _ _ _ _ _ _ _ _ _ _ _ x hx)).mono ?_
    intro ex e s hq
    obtain ⟨rfl, rfl, rfl⟩ := hq
    exact ⟨_, rfl, h⟩
def K_suturelaw9_within (v : V) (s : Sig) : Option (Int) := Option.bind (V.intOf .i64 v) fun u0 => some u0
theorem K_suturelaw9_within_wk {v : V} {s : Sig} {r : Int} (h : K_suturelaw9_within v s = some r) : Wk v (enc_suturelaw9_within r) ∧ WkS 0 s (encS_suturelaw9_within r) := by
  unfold K_suturelaw9_within at h
  obtain ⟨u0, hu0, h⟩ := Option.bind_eq_some_iff.1 h
  simp only [Option.some.injEq] at h
  subst h
  exact ⟨(intOf_wk hu0), (WkS.none _)⟩
theorem f_suturelaw9_within_eq (b : B_suturelaw9_within) (n : Nat) (a0 : Int) (a1 : ByteArray) (a2 : ByteArray) (a3 : Int) (a4 : Int) (a5 : Int) (a6 : ByteArray) (a7 : List T) (a8 : List T) (a9 : List T) (a10 : Nat × Nat) : mF Try.prog (sp_suturelaw9_within b n) 18 [(V.agg [(V.t (T.sc (.int .i64 a0))), (V.t (T.sc (.string a1))), (V.t (T.sc (.string a2))), (V.t (T.sc (.int .i64 a3))), (V.t (T.sc (.int .i64 a4))), (V.t (T.sc (.int .i64 a5))), (V.t (T.sc (.string a6))), (V.t (T.list a7)), (V.t (T.list a8)), (V.t (T.list a9)), (V.t (T.sc (.complex .f64 a10.1 a10.2)))])] [] K_suturelaw9_within = f_suturelaw9_within b n a0 a1 a2 a3 a4 a5 a6 a7 a8 a9 a10 := by kernel_rfl
theorem f_suturelaw9_within_ok (b : B_suturelaw9_within) (hb : B_suturelaw9_within_ok b) (n : Nat) : ok_suturelaw9_within (f_suturelaw9_within b n) := fun a0 a1 a2 a3 a4 a5 a6 a7 a8 a9 a10 r h => mF_ok sound (sp_suturelaw9_within_ok b hb n) code_suturelaw9_within_fn code_suturelaw9_within_body (forall_getD (d := .skip) 2 (by kernel_rfl) (fun i hi => match i, hi with | 0, _ => l_suturelaw9_within_3_ok b hb n | 1, _ => l_suturelaw9_within_8_ok b hb n | i + 2, hi => absurd hi (by omega))) (no_scope (by kernel_rfl)) ((f_suturelaw9_within_eq b n a0 a1 a2 a3 a4 a5 a6 a7 a8 a9 a10).trans h) (fun v s hk => ⟨(K_suturelaw9_within_wk hk).1, rfl, (K_suturelaw9_within_wk hk).2⟩)
def unB_suturelaw9_within (n : Nat) : Nat → B_suturelaw9_within
  | 0 => { suturelaw9_within := fun _ _ _ _ _ _ _ _ _ _ _ => none }
  | m + 1 => { suturelaw9_within := f_suturelaw9_within (unB_suturelaw9_within n m) n }
theorem unB_suturelaw9_within_ok (n : Nat) : ∀ m, B_suturelaw9_within_ok (unB_suturelaw9_within n m)
  | 0 => { suturelaw9_within := fun _ _ _ _ _ _ _ _ _ _ _ _ h => (nomatch (show none = some _ from h)) }
  | m + 1 => { suturelaw9_within := f_suturelaw9_within_ok _ (unB_suturelaw9_within_ok n m) n }
def m_suturelaw9_within (n : Nat) : Int → ByteArray → ByteArray → Int → Int → Int → ByteArray → List T → List T → List T → Nat × Nat → Option (Int) := (unB_suturelaw9_within n n).suturelaw9_within
theorem m_suturelaw9_within_ok (n : Nat) : ok_suturelaw9_within (m_suturelaw9_within n) := (unB_suturelaw9_within_ok n n).suturelaw9_within


/-! suture/suturelaw9.known -/
def m_suturelaw9_known (n : Nat) : Option (Bool) :=
Option.bind (m_suturelaw9_read n (⟨#[103, 111, 123, 103, 111, 116, 111, 32, 97, 32, 108, 97, 98, 101, 108, 32, 97, 125]⟩ : ByteArray)) fun r0 =>
Option.bind (m_jumps_Check n r0.1 r0.2) fun r1 =>
Option.bind (m_suturelaw9_read n (⟨#[103, 111, 123, 108, 97, 98, 101, 108, 32, 97, 32, 103, 111, 116, 111, 32, 97, 125]⟩ : ByteArray)) fun r2 =>
Option.bind (m_jumps_Check n r2.1 r2.2) fun r3 =>
some (bif (bif ((r1.2 : Int) == 0) then ((r3.2 : Int) == 4) else false) then (cplxEq .f64 r3.1.1 r3.1.2 4607182418800017408 4622945017495814144) else false)
def enc_suturelaw9_known (r : Bool) : V := (V.t (T.sc (.bool r)))
def encS_suturelaw9_known (r : Bool) : Sig := []
def ok_suturelaw9_known (m : Option (Bool)) : Prop := ∀ (r : Bool), m = some r → FuncOk Try.prog 10 [] [] (enc_suturelaw9_known r) (encS_suturelaw9_known r)
def c_suturelaw9_known (m : Option (Bool)) (vs : List V) (sg : Sig) : Option CallM := bif Nat.beq vs.length 0 && Nat.beq sg.length 0 then some { α := Bool, m := m, dflt := false, enc := fun y => ((V.t (T.sc (.bool y))), []) } else none
theorem c_suturelaw9_known_ok (m : Option (Bool)) (hm : ok_suturelaw9_known m) (vs : List V) (sg : Sig) (cm : CallM) (x : cm.α) (h : c_suturelaw9_known m vs sg = some cm) (hx : cm.m = some x) : FuncOk Try.prog 10 vs sg (cm.enc x).1 (cm.enc x).2 := by
  unfold c_suturelaw9_known at h
  have h0 := callee_sig h
  clear h
  obtain ⟨hl, hs, h⟩ := h0
  simp only [Option.some.injEq] at h
  subst h
  exact (hm x hx).wk (args_wk hl .nil) (wkSg_of hs .nil)
noncomputable def code_suturelaw9_known : Code := Try.f10.body.getD .skip
noncomputable def sp_suturelaw9_known (n : Nat) : Go.Eng.Spec := ⟨fun f vs sg => (match f with
    | 8 => c_suturelaw9_read (m_suturelaw9_read n) vs sg
    | 7 => c_jumps_Check (m_jumps_Check n) vs sg
    | _ => none), fun R key E sg K => (match key with
    | _ => none)⟩
theorem sp_suturelaw9_known_ok (n : Nat) : CallsOk Try.prog (sp_suturelaw9_known n) := by
  intro f vs sg cm x h hx
  simp only [sp_suturelaw9_known] at h
  split at h
  · exact c_suturelaw9_read_ok _ (m_suturelaw9_read_ok n) vs sg cm x h hx
  · exact c_jumps_Check_ok _ (m_jumps_Check_ok n) vs sg cm x h hx
  · cases h
theorem code_suturelaw9_known_fn : Try.prog.funcs[10]? = some Try.f10 := Try.func10
theorem code_suturelaw9_known_body : Try.f10.body = some code_suturelaw9_known := by kernel_rfl
theorem code_suturelaw9_known_ok : CodeOk Try.prog code_suturelaw9_known := (sound 10 _ _ code_suturelaw9_known_fn code_suturelaw9_known_body).1
def K_suturelaw9_known (v : V) (s : Sig) : Option (Bool) := Option.bind (V.boolOf v) fun u0 => some u0
theorem K_suturelaw9_known_wk {v : V} {s : Sig} {r : Bool} (h : K_suturelaw9_known v s = some r) : Wk v (enc_suturelaw9_known r) ∧ WkS 0 s (encS_suturelaw9_known r) := by
  unfold K_suturelaw9_known at h
  obtain ⟨u0, hu0, h⟩ := Option.bind_eq_some_iff.1 h
  simp only [Option.some.injEq] at h
  subst h
  exact ⟨(boolOf_wk hu0), (WkS.none _)⟩
theorem m_suturelaw9_known_eq (n : Nat) : mF Try.prog (sp_suturelaw9_known n) 10 [] [] K_suturelaw9_known = m_suturelaw9_known n := by kernel_rfl
theorem m_suturelaw9_known_ok (n : Nat) : ok_suturelaw9_known (m_suturelaw9_known n) := fun  r h => mF_ok sound (sp_suturelaw9_known_ok n) code_suturelaw9_known_fn code_suturelaw9_known_body (fun a ha => absurd ha (by rw [show loopsOf code_suturelaw9_known = [] from by kernel_rfl]; simp)) (no_scope (by kernel_rfl)) ((m_suturelaw9_known_eq n).trans h) (fun v s hk => ⟨(K_suturelaw9_known_wk hk).1, rfl, (K_suturelaw9_known_wk hk).2⟩)


/-! suture/suturelaw9.JumpsOut -/
def l_suturelaw9_JumpsOut_15_B (n : Nat) (k : Int × (List T) × (List T) × Int × Int × Int × (List T) × Int × Int × (List T) × (List T) × Int × ByteArray × ByteArray × Int × Int × Int × ByteArray × (List T) × (List T) × (List T) × (Nat × Nat) → Option (((Bool × (List T) × (List T) × Int × ByteArray × ByteArray × Int × Int × Int × ByteArray × (List T) × (List T) × (List T) × (Nat × Nat)) ⊕ Int × (List T) × (List T) × (List T) × Int × Int × (List T) × (List T) × Int × ByteArray × ByteArray × Int × Int × Int × ByteArray × (List T) × (List T) × (List T) × (Nat × Nat)))) : Int × (List T) × (List T) × Int × Int × Int × (List T) × Int × Int × (List T) × (List T) × Int × ByteArray × ByteArray × Int × Int × Int × ByteArray × (List T) × (List T) × (List T) × (Nat × Nat) → Option (((Bool × (List T) × (List T) × Int × ByteArray × ByteArray × Int × Int × Int × ByteArray × (List T) × (List T) × (List T) × (Nat × Nat)) ⊕ Int × (List T) × (List T) × (List T) × Int × Int × (List T) × (List T) × Int × ByteArray × ByteArray × Int × Int × Int × ByteArray × (List T) × (List T) × (List T) × (Nat × Nat))) := fun (s0, s1, s2, s3, s4, s5, s6, s7, s8, s9, s10, s11, s12, s13, s14, s15, s16, s17, s18, s19, s20, s21) =>
bif (decide ((s5 : Int) < s4)) then (
Option.bind (idx true [.int .i64, .str, .str, .int .i64, .int .i64, .int .i64, .str, .list, .list, .list, .cplx .f64] s1 s5) fun y10 =>
Option.bind (m_suturelaw9_within n (y10.cell 0).int (y10.cell 1).str (y10.cell 2).str (y10.cell 3).int (y10.cell 4).int (y10.cell 5).int (y10.cell 6).str (y10.cell 7).lst (y10.cell 8).lst (y10.cell 9).lst ((y10.cell 10).re, (y10.cell 10).im)) fun r11 =>
bif ((r11 : Int) == 0) then (
k (s0, s1, s2, s3, s4, (IntKind.wrap .i64 (s5 + 1)), s6, s7, s8, s9, s10, s11, s12, s13, s14, s15, s16, s17, s18, s19, s20, s21))
else (
bif (bif (decide ((s4 : Int) ≤ (IntKind.wrap .i64 (s5 + r11)))) then (bif (decide ((s3 : Int) ≤ s5)) then true else (decide ((s3 : Int) > (IntKind.wrap .i64 (s5 + r11))))) else false) then (
some (Sum.inl (false, s9, s10, s11, s12, s13, s14, s15, s16, s17, s18, s19, s20, s21)))
else (
k (s0, s1, s2, s3, s4, (IntKind.wrap .i64 (s5 + 1)), s6, s7, s8, s9, s10, s11, s12, s13, s14, s15, s16, s17, s18, s19, s20, s21))))
else (
some (Sum.inr (s0, s1, s2, s6, s7, s8, s9, s10, s11, s12, s13, s14, s15, s16, s17, s18, s19, s20, s21)))
def l_suturelaw9_JumpsOut_15 (n : Nat) : Nat → Int × (List T) × (List T) × Int × Int × Int × (List T) × Int × Int × (List T) × (List T) × Int × ByteArray × ByteArray × Int × Int × Int × ByteArray × (List T) × (List T) × (List T) × (Nat × Nat) → Option (((Bool × (List T) × (List T) × Int × ByteArray × ByteArray × Int × Int × Int × ByteArray × (List T) × (List T) × (List T) × (Nat × Nat)) ⊕ Int × (List T) × (List T) × (List T) × Int × Int × (List T) × (List T) × Int × ByteArray × ByteArray × Int × Int × Int × ByteArray × (List T) × (List T) × (List T) × (Nat × Nat)))
  | 0, _ => none
  | m + 1, s => l_suturelaw9_JumpsOut_15_B n (l_suturelaw9_JumpsOut_15 n m) s
def l_suturelaw9_JumpsOut_6_B (n : Nat) (k : Int × (List T) × (List T) × (List T) × Int × Int × (List T) × (List T) → Option (((Bool × (List T) × (List T)) ⊕ (List T) × (List T)))) : Int × (List T) × (List T) × (List T) × Int × Int × (List T) × (List T) → Option (((Bool × (List T) × (List T)) ⊕ (List T) × (List T))) := fun (s0, s1, s2, s3, s4, s5, s6, s7) =>
bif (decide ((s5 : Int) < s4)) then (
Option.bind (idx true [.int .i64, .str, .str, .int .i64, .int .i64, .int .i64, .str, .list, .list, .list, .cplx .f64] s3 s5) fun y4 =>
Option.bind (m_jumps_Target n s6 s7 s5) fun r5 =>
bif (bif (!((decide ((r5 : Int) ≥ 0)) == (bif (((y4.cell 0).int : Int) == 9) then (decide ((r5 : Int) ≥ 0)) else false))) then true else (bif ((s0 : Int) == 0) then (!((((y4.cell 0).int : Int) == 9) == (decide ((r5 : Int) ≥ 0)))) else false)) then (
some (Sum.inl (false, s6, s7)))
else (
bif (decide ((r5 : Int) < 0)) then (
k (s0, s1, s2, s3, s4, (IntKind.wrap .i64 (s5 + 1)), s6, s7))
else (
Option.bind (idx (!(bif (decide ((r5 : Int) ≤ s5)) then true else (decide ((r5 : Int) ≥ ((List.length s1 : Nat) : Int))))) [.int .i64, .str, .str, .int .i64, .int .i64, .int .i64, .str, .list, .list, .list, .cplx .f64] s1 r5) fun y6 =>
Option.bind (idx (!(bif (bif (decide ((r5 : Int) ≤ s5)) then true else (decide ((r5 : Int) ≥ ((List.length s1 : Nat) : Int)))) then true else (((y6.cell 0).int : Int) != 10))) [.int .i64, .str, .str, .int .i64, .int .i64, .int .i64, .str, .list, .list, .list, .cplx .f64] s1 r5) fun y7 =>
Option.bind (idx (!(bif (bif (bif (decide ((r5 : Int) ≤ s5)) then true else (decide ((r5 : Int) ≥ ((List.length s1 : Nat) : Int)))) then true else (((y6.cell 0).int : Int) != 10)) then true else (!(ByteArray.toList (y7.cell 1).str == ByteArray.toList (y4.cell 1).str)))) [.int .i64] s2 r5) fun y8 =>
Option.bind (idx (!(bif (bif (bif (decide ((r5 : Int) ≤ s5)) then true else (decide ((r5 : Int) ≥ ((List.length s1 : Nat) : Int)))) then true else (((y6.cell 0).int : Int) != 10)) then true else (!(ByteArray.toList (y7.cell 1).str == ByteArray.toList (y4.cell 1).str)))) [.int .i64] s2 s5) fun y9 =>
bif (bif (bif (bif (bif (decide ((r5 : Int) ≤ s5)) then true else (decide ((r5 : Int) ≥ ((List.length s1 : Nat) : Int)))) then true else (((y6.cell 0).int : Int) != 10)) then true else (!(ByteArray.toList (y7.cell 1).str == ByteArray.toList (y4.cell 1).str))) then true else (((y8.cell 0).int : Int) != (y9.cell 0).int)) then (
some (Sum.inl (false, s6, s7)))
else (
Option.bind (l_suturelaw9_JumpsOut_15 n n (s0, s1, s2, s5, r5, 0, s3, s4, s5, s6, s7, (y4.cell 0).int, (y4.cell 1).str, (y4.cell 2).str, (y4.cell 3).int, (y4.cell 4).int, (y4.cell 5).int, (y4.cell 6).str, (y4.cell 7).lst, (y4.cell 8).lst, (y4.cell 9).lst, ((y4.cell 10).re, (y4.cell 10).im))) fun x12 =>
Sum.elim (fun p13 => 
some (Sum.inl (p13.1, p13.2.1, p13.2.2.1))) (fun x12' => (fun p14 => 
k (p14.1, p14.2.1, p14.2.2.1, p14.2.2.2.1, p14.2.2.2.2.1, (IntKind.wrap .i64 (p14.2.2.2.2.2.1 + 1)), p14.2.2.2.2.2.2.1, p14.2.2.2.2.2.2.2.1)) x12') x12))))
else (
some (Sum.inr (s6, s7)))
def l_suturelaw9_JumpsOut_6 (n : Nat) : Nat → Int × (List T) × (List T) × (List T) × Int × Int × (List T) × (List T) → Option (((Bool × (List T) × (List T)) ⊕ (List T) × (List T)))
  | 0, _ => none
  | m + 1, s => l_suturelaw9_JumpsOut_6_B n (l_suturelaw9_JumpsOut_6 n m) s
def m_suturelaw9_JumpsOut (n : Nat) (a0 : List T) : Option (Bool) :=
Option.bind (m_suturelaw9_deep n a0) fun r0 =>
Option.bind (m_jumps_Check n r0.1 r0.2) fun r1 =>
Option.bind (m_sutureref1_List n r0.1 r0.2) fun r2 =>
Option.bind (m_sutureref1_Threads n r0.1 r0.2) fun r3 =>
Option.bind (l_suturelaw9_JumpsOut_6 n n (r1.2, r2, r3, r2, ((List.length r2 : Nat) : Int), 0, r0.1, r0.2)) fun x15 =>
Sum.elim (fun p16 => 
some p16.1) (fun x15' => (fun p17 => 
Option.bind (m_suturelaw9_known n) fun r18 =>
some r18) x15') x15
def enc_suturelaw9_JumpsOut (r : Bool) : V := (V.t (T.sc (.bool r)))
def encS_suturelaw9_JumpsOut (r : Bool) : Sig := []
def ok_suturelaw9_JumpsOut (m : List T → Option (Bool)) : Prop := ∀ (a0 : List T) (r : Bool), m a0 = some r → FuncOk Try.prog 5 [(V.t (T.list a0))] [] (enc_suturelaw9_JumpsOut r) (encS_suturelaw9_JumpsOut r)
def c_suturelaw9_JumpsOut (m : List T → Option (Bool)) (vs : List V) (sg : Sig) : Option CallM := bif Nat.beq vs.length 1 && Nat.beq sg.length 0 then Option.bind (V.lstOf (vs.getD 0 .any)) fun u0 => some { α := Bool, m := m u0, dflt := false, enc := fun y => ((V.t (T.sc (.bool y))), []) } else none
theorem c_suturelaw9_JumpsOut_ok (m : List T → Option (Bool)) (hm : ok_suturelaw9_JumpsOut m) (vs : List V) (sg : Sig) (cm : CallM) (x : cm.α) (h : c_suturelaw9_JumpsOut m vs sg = some cm) (hx : cm.m = some x) : FuncOk Try.prog 5 vs sg (cm.enc x).1 (cm.enc x).2 := by
  unfold c_suturelaw9_JumpsOut at h
  have h0 := callee_sig h
  clear h
  obtain ⟨hl, hs, h⟩ := h0
  obtain ⟨u0, hu0, h⟩ := Option.bind_eq_some_iff.1 h
  simp only [Option.some.injEq] at h
  subst h
  exact (hm u0 x hx).wk (args_wk hl (.cons (lstOf_wk hu0) .nil)) (wkSg_of hs .nil)
noncomputable def code_suturelaw9_JumpsOut : Code := Try.f5.body.getD .skip
def l_suturelaw9_JumpsOut_15_S (n : Nat) (R : Type) (E : SEnv) (sg : Sig) (K : Ex → SEnv → Sig → Option R) : Option R := Option.bind (V.ptrOf 0 0 (SEnv.at E 3)) fun u0 => Option.bind (V.intOf .i64 (SEnv.at E 5)) fun u1 => Option.bind (V.ownOf 11 (SEnv.at E 6)) fun u2 => Option.bind (V.ownOf 1 (SEnv.at E 7)) fun u3 => Option.bind (V.intOf .i64 (SEnv.at E 8)) fun u4 => Option.bind (V.intOf .i64 (SEnv.at E 10)) fun u5 => Option.bind (V.intOf .i64 (SEnv.at E 11)) fun u6 => Option.bind (V.lstOf (SEnv.at E 24)) fun u7 => Option.bind (V.intOf .i64 (SEnv.at E 25)) fun u8 => Option.bind (V.intOf .i64 (SEnv.at E 26)) fun u9 => Option.bind (cellsN 2 sg 0) fun u10 => Option.bind (V.lstOf (u10.getD 0 .any)) fun u11 => Option.bind (V.lstOf (u10.getD 1 .any)) fun u12 => Option.bind (cellsN 11 sg 1) fun u13 => Option.bind (V.intOf .i64 (u13.getD 0 .any)) fun u14 => Option.bind (V.strOf (u13.getD 1 .any)) fun u15 => Option.bind (V.strOf (u13.getD 2 .any)) fun u16 => Option.bind (V.intOf .i64 (u13.getD 3 .any)) fun u17 => Option.bind (V.intOf .i64 (u13.getD 4 .any)) fun u18 => Option.bind (V.intOf .i64 (u13.getD 5 .any)) fun u19 => Option.bind (V.strOf (u13.getD 6 .any)) fun u20 => Option.bind (V.lstOf (u13.getD 7 .any)) fun u21 => Option.bind (V.lstOf (u13.getD 8 .any)) fun u22 => Option.bind (V.lstOf (u13.getD 9 .any)) fun u23 => Option.bind (V.cplxOf .f64 (u13.getD 10 .any)) fun u24 => Option.bind (l_suturelaw9_JumpsOut_15 n n (u1, u2, u3, u4, u5, u6, u7, u8, u9, u11, u12, u14, u15, u16, u17, u18, u19, u20, u21, u22, u23, u24)) fun y => Sum.elim (fun p0 => K .ret [(2, (V.t (T.sc (.bool p0.1))))] [some [(V.t (T.list p0.2.1)), (V.t (T.list p0.2.2.1))], some [(V.t (T.sc (.int .i64 p0.2.2.2.1))), (V.t (T.sc (.string p0.2.2.2.2.1))), (V.t (T.sc (.string p0.2.2.2.2.2.1))), (V.t (T.sc (.int .i64 p0.2.2.2.2.2.2.1))), (V.t (T.sc (.int .i64 p0.2.2.2.2.2.2.2.1))), (V.t (T.sc (.int .i64 p0.2.2.2.2.2.2.2.2.1))), (V.t (T.sc (.string p0.2.2.2.2.2.2.2.2.2.1))), (V.t (T.list p0.2.2.2.2.2.2.2.2.2.2.1)), (V.t (T.list p0.2.2.2.2.2.2.2.2.2.2.2.1)), (V.t (T.list p0.2.2.2.2.2.2.2.2.2.2.2.2.1)), (V.t (T.sc (.complex .f64 p0.2.2.2.2.2.2.2.2.2.2.2.2.2.1 p0.2.2.2.2.2.2.2.2.2.2.2.2.2.2)))]]) (fun y' => (fun p1 => K (.exit 2) [(3, (V.ptr 0 0)), (5, (V.t (T.sc (.int .i64 p1.1)))), (6, (V.own 11 p1.2.1)), (7, (V.own 1 p1.2.2.1)), (24, (V.t (T.list p1.2.2.2.1))), (25, (V.t (T.sc (.int .i64 p1.2.2.2.2.1)))), (26, (V.t (T.sc (.int .i64 p1.2.2.2.2.2.1))))] [some [(V.t (T.list p1.2.2.2.2.2.2.1)), (V.t (T.list p1.2.2.2.2.2.2.2.1))], some [(V.t (T.sc (.int .i64 p1.2.2.2.2.2.2.2.2.1))), (V.t (T.sc (.string p1.2.2.2.2.2.2.2.2.2.1))), (V.t (T.sc (.string p1.2.2.2.2.2.2.2.2.2.2.1))), (V.t (T.sc (.int .i64 p1.2.2.2.2.2.2.2.2.2.2.2.1))), (V.t (T.sc (.int .i64 p1.2.2.2.2.2.2.2.2.2.2.2.2.1))), (V.t (T.sc (.int .i64 p1.2.2.2.2.2.2.2.2.2.2.2.2.2.1))), (V.t (T.sc (.string p1.2.2.2.2.2.2.2.2.2.2.2.2.2.2.1))), (V.t (T.list p1.2.2.2.2.2.2.2.2.2.2.2.2.2.2.2.1)), (V.t (T.list p1.2.2.2.2.2.2.2.2.2.2.2.2.2.2.2.2.1)), (V.t (T.list p1.2.2.2.2.2.2.2.2.2.2.2.2.2.2.2.2.2.1)), (V.t (T.sc (.complex .f64 p1.2.2.2.2.2.2.2.2.2.2.2.2.2.2.2.2.2.2.1 p1.2.2.2.2.2.2.2.2.2.2.2.2.2.2.2.2.2.2.2)))]]) y') y
def l_suturelaw9_JumpsOut_6_S (n : Nat) (R : Type) (E : SEnv) (sg : Sig) (K : Ex → SEnv → Sig → Option R) : Option R := Option.bind (V.ptrOf 0 0 (SEnv.at E 3)) fun u0 => Option.bind (V.intOf .i64 (SEnv.at E 5)) fun u1 => Option.bind (V.ownOf 11 (SEnv.at E 6)) fun u2 => Option.bind (V.ownOf 1 (SEnv.at E 7)) fun u3 => Option.bind (V.lstOf (SEnv.at E 24)) fun u4 => Option.bind (V.intOf .i64 (SEnv.at E 25)) fun u5 => Option.bind (V.intOf .i64 (SEnv.at E 26)) fun u6 => Option.bind (cellsN 2 sg 0) fun u7 => Option.bind (V.lstOf (u7.getD 0 .any)) fun u8 => Option.bind (V.lstOf (u7.getD 1 .any)) fun u9 => Option.bind (l_suturelaw9_JumpsOut_6 n n (u1, u2, u3, u4, u5, u6, u8, u9)) fun y => Sum.elim (fun p0 => K .ret [(2, (V.t (T.sc (.bool p0.1))))] [some [(V.t (T.list p0.2.1)), (V.t (T.list p0.2.2))]]) (fun y' => (fun p1 => K (.exit 0) [] [some [(V.t (T.list p1.1)), (V.t (T.list p1.2))]]) y') y
noncomputable def sp_suturelaw9_JumpsOut (n : Nat) : Go.Eng.Spec := ⟨fun f vs sg => (match f with
    | 12 => c_suturelaw9_deep (m_suturelaw9_deep n) vs sg
    | 7 => c_jumps_Check (m_jumps_Check n) vs sg
    | 15 => c_sutureref1_List (m_sutureref1_List n) vs sg
    | 17 => c_sutureref1_Threads (m_sutureref1_Threads n) vs sg
    | 11 => c_jumps_Target (m_jumps_Target n) vs sg
    | 18 => c_suturelaw9_within (m_suturelaw9_within n) vs sg
    | 10 => c_suturelaw9_known (m_suturelaw9_known n) vs sg
    | _ => none), fun R key E sg K => (match key with
    | 15 => l_suturelaw9_JumpsOut_15_S n R E sg K
    | 6 => l_suturelaw9_JumpsOut_6_S n R E sg K
    | _ => none)⟩
theorem sp_suturelaw9_JumpsOut_ok (n : Nat) : CallsOk Try.prog (sp_suturelaw9_JumpsOut n) := by
  intro f vs sg cm x h hx
  simp only [sp_suturelaw9_JumpsOut] at h
  split at h
  · exact c_suturelaw9_deep_ok _ (m_suturelaw9_deep_ok n) vs sg cm x h hx
  · exact c_jumps_Check_ok _ (m_jumps_Check_ok n) vs sg cm x h hx
  · exact c_sutureref1_List_ok _ (m_sutureref1_List_ok n) vs sg cm x h hx
  · exact c_sutureref1_Threads_ok _ (m_sutureref1_Threads_ok n) vs sg cm x h hx
  · exact c_jumps_Target_ok _ (m_jumps_Target_ok n) vs sg cm x h hx
  · exact c_suturelaw9_within_ok _ (m_suturelaw9_within_ok n) vs sg cm x h hx
  · exact c_suturelaw9_known_ok _ (m_suturelaw9_known_ok n) vs sg cm x h hx
  · cases h
theorem code_suturelaw9_JumpsOut_fn : Try.prog.funcs[5]? = some Try.f5 := Try.func5
theorem code_suturelaw9_JumpsOut_body : Try.f5.body = some code_suturelaw9_JumpsOut := by kernel_rfl
theorem code_suturelaw9_JumpsOut_ok : CodeOk Try.prog code_suturelaw9_JumpsOut := (sound 5 _ _ code_suturelaw9_JumpsOut_fn code_suturelaw9_JumpsOut_body).1
noncomputable def code_l_suturelaw9_JumpsOut_15 : Code := (loopsOf code_suturelaw9_JumpsOut).getD 1 .skip
theorem code_l_suturelaw9_JumpsOut_15_ok : CodeOk Try.prog code_l_suturelaw9_JumpsOut_15 := codeOk_loops code_suturelaw9_JumpsOut_ok _ (getD_mem (by kernel_rfl))
def l_suturelaw9_JumpsOut_15_K (k : Int × (List T) × (List T) × Int × Int × Int × (List T) × Int × Int × (List T) × (List T) × Int × ByteArray × ByteArray × Int × Int × Int × ByteArray × (List T) × (List T) × (List T) × (Nat × Nat) → Option (((Bool × (List T) × (List T) × Int × ByteArray × ByteArray × Int × Int × Int × ByteArray × (List T) × (List T) × (List T) × (Nat × Nat)) ⊕ Int × (List T) × (List T) × (List T) × Int × Int × (List T) × (List T) × Int × ByteArray × ByteArray × Int × Int × Int × ByteArray × (List T) × (List T) × (List T) × (Nat × Nat)))) : Ex → SEnv → Sig → Option (((Bool × (List T) × (List T) × Int × ByteArray × ByteArray × Int × Int × Int × ByteArray × (List T) × (List T) × (List T) × (Nat × Nat)) ⊕ Int × (List T) × (List T) × (List T) × Int × Int × (List T) × (List T) × Int × ByteArray × ByteArray × Int × Int × Int × ByteArray × (List T) × (List T) × (List T) × (Nat × Nat))) := fun x E sg => match x with
  | .normal => Option.bind (V.ptrOf 0 0 (SEnv.at E 3)) fun u0 => Option.bind (V.intOf .i64 (SEnv.at E 5)) fun u1 => Option.bind (V.ownOf 11 (SEnv.at E 6)) fun u2 => Option.bind (V.ownOf 1 (SEnv.at E 7)) fun u3 => Option.bind (V.intOf .i64 (SEnv.at E 8)) fun u4 => Option.bind (V.intOf .i64 (SEnv.at E 10)) fun u5 => Option.bind (V.intOf .i64 (SEnv.at E 11)) fun u6 => Option.bind (V.lstOf (SEnv.at E 24)) fun u7 => Option.bind (V.intOf .i64 (SEnv.at E 25)) fun u8 => Option.bind (V.intOf .i64 (SEnv.at E 26)) fun u9 => Option.bind (cellsN 2 sg 0) fun u10 => Option.bind (V.lstOf (u10.getD 0 .any)) fun u11 => Option.bind (V.lstOf (u10.getD 1 .any)) fun u12 => Option.bind (cellsN 11 sg 1) fun u13 => Option.bind (V.intOf .i64 (u13.getD 0 .any)) fun u14 => Option.bind (V.strOf (u13.getD 1 .any)) fun u15 => Option.bind (V.strOf (u13.getD 2 .any)) fun u16 => Option.bind (V.intOf .i64 (u13.getD 3 .any)) fun u17 => Option.bind (V.intOf .i64 (u13.getD 4 .any)) fun u18 => Option.bind (V.intOf .i64 (u13.getD 5 .any)) fun u19 => Option.bind (V.strOf (u13.getD 6 .any)) fun u20 => Option.bind (V.lstOf (u13.getD 7 .any)) fun u21 => Option.bind (V.lstOf (u13.getD 8 .any)) fun u22 => Option.bind (V.lstOf (u13.getD 9 .any)) fun u23 => Option.bind (V.cplxOf .f64 (u13.getD 10 .any)) fun u24 => k (u1, u2, u3, u4, u5, u6, u7, u8, u9, u11, u12, u14, u15, u16, u17, u18, u19, u20, u21, u22, u23, u24)
  | .ret => Option.bind (V.boolOf (SEnv.at E 2)) fun u0 => Option.bind (cellsN 2 sg 0) fun u1 => Option.bind (V.lstOf (u1.getD 0 .any)) fun u2 => Option.bind (V.lstOf (u1.getD 1 .any)) fun u3 => Option.bind (cellsN 11 sg 1) fun u4 => Option.bind (V.intOf .i64 (u4.getD 0 .any)) fun u5 => Option.bind (V.strOf (u4.getD 1 .any)) fun u6 => Option.bind (V.strOf (u4.getD 2 .any)) fun u7 => Option.bind (V.intOf .i64 (u4.getD 3 .any)) fun u8 => Option.bind (V.intOf .i64 (u4.getD 4 .any)) fun u9 => Option.bind (V.intOf .i64 (u4.getD 5 .any)) fun u10 => Option.bind (V.strOf (u4.getD 6 .any)) fun u11 => Option.bind (V.lstOf (u4.getD 7 .any)) fun u12 => Option.bind (V.lstOf (u4.getD 8 .any)) fun u13 => Option.bind (V.lstOf (u4.getD 9 .any)) fun u14 => Option.bind (V.cplxOf .f64 (u4.getD 10 .any)) fun u15 => some (Sum.inl (u0, u2, u3, u5, u6, u7, u8, u9, u10, u11, u12, u13, u14, u15))
  | (.exit 2) => Option.bind (V.ptrOf 0 0 (SEnv.at E 3)) fun u0 => Option.bind (V.intOf .i64 (SEnv.at E 5)) fun u1 => Option.bind (V.ownOf 11 (SEnv.at E 6)) fun u2 => Option.bind (V.ownOf 1 (SEnv.at E 7)) fun u3 => Option.bind (V.lstOf (SEnv.at E 24)) fun u4 => Option.bind (V.intOf .i64 (SEnv.at E 25)) fun u5 => Option.bind (V.intOf .i64 (SEnv.at E 26)) fun u6 => Option.bind (cellsN 2 sg 0) fun u7 => Option.bind (V.lstOf (u7.getD 0 .any)) fun u8 => Option.bind (V.lstOf (u7.getD 1 .any)) fun u9 => Option.bind (cellsN 11 sg 1) fun u10 => Option.bind (V.intOf .i64 (u10.getD 0 .any)) fun u11 => Option.bind (V.strOf (u10.getD 1 .any)) fun u12 => Option.bind (V.strOf (u10.getD 2 .any)) fun u13 => Option.bind (V.intOf .i64 (u10.getD 3 .any)) fun u14 => Option.bind (V.intOf .i64 (u10.getD 4 .any)) fun u15 => Option.bind (V.intOf .i64 (u10.getD 5 .any)) fun u16 => Option.bind (V.strOf (u10.getD 6 .any)) fun u17 => Option.bind (V.lstOf (u10.getD 7 .any)) fun u18 => Option.bind (V.lstOf (u10.getD 8 .any)) fun u19 => Option.bind (V.lstOf (u10.getD 9 .any)) fun u20 => Option.bind (V.cplxOf .f64 (u10.getD 10 .any)) fun u21 => some (Sum.inr (u1, u2, u3, u4, u5, u6, u8, u9, u11, u12, u13, u14, u15, u16, u17, u18, u19, u20, u21))
  | _ => none
theorem l_suturelaw9_JumpsOut_15_eq (n : Nat) (k : Int × (List T) × (List T) × Int × Int × Int × (List T) × Int × Int × (List T) × (List T) × Int × ByteArray × ByteArray × Int × Int × Int × ByteArray × (List T) × (List T) × (List T) × (Nat × Nat) → Option (((Bool × (List T) × (List T) × Int × ByteArray × ByteArray × Int × Int × Int × ByteArray × (List T) × (List T) × (List T) × (Nat × Nat)) ⊕ Int × (List T) × (List T) × (List T) × Int × Int × (List T) × (List T) × Int × ByteArray × ByteArray × Int × Int × Int × ByteArray × (List T) × (List T) × (List T) × (Nat × Nat)))) (s0 : Int) (s1 : List T) (s2 : List T) (s3 : Int) (s4 : Int) (s5 : Int) (s6 : List T) (s7 : Int) (s8 : Int) (s9 : List T) (s10 : List T) (s11 : Int) (s12 : ByteArray) (s13 : ByteArray) (s14 : Int) (s15 : Int) (s16 : Int) (s17 : ByteArray) (s18 : List T) (s19 : List T) (s20 : List T) (s21 : Nat × Nat) : mX Try.prog (sp_suturelaw9_JumpsOut n) 127 code_l_suturelaw9_JumpsOut_15 [(3, (V.ptr 0 0)), (5, (V.t (T.sc (.int .i64 s0)))), (6, (V.own 11 s1)), (7, (V.own 1 s2)), (8, (V.t (T.sc (.int .i64 s3)))), (10, (V.t (T.sc (.int .i64 s4)))), (11, (V.t (T.sc (.int .i64 s5)))), (24, (V.t (T.list s6))), (25, (V.t (T.sc (.int .i64 s7)))), (26, (V.t (T.sc (.int .i64 s8))))] [some [(V.t (T.list s9)), (V.t (T.list s10))], some [(V.t (T.sc (.int .i64 s11))), (V.t (T.sc (.string s12))), (V.t (T.sc (.string s13))), (V.t (T.sc (.int .i64 s14))), (V.t (T.sc (.int .i64 s15))), (V.t (T.sc (.int .i64 s16))), (V.t (T.sc (.string s17))), (V.t (T.list s18)), (V.t (T.list s19)), (V.t (T.list s20)), (V.t (T.sc (.complex .f64 s21.1 s21.2)))]] (l_suturelaw9_JumpsOut_15_K k) = l_suturelaw9_JumpsOut_15_B n k (s0, s1, s2, s3, s4, s5, s6, s7, s8, s9, s10, s11, s12, s13, s14, s15, s16, s17, s18, s19, s20, s21) := by kernel_rfl
def l_suturelaw9_JumpsOut_15_Q (x : ((Bool × (List T) × (List T) × Int × ByteArray × ByteArray × Int × Int × Int × ByteArray × (List T) × (List T) × (List T) × (Nat × Nat)) ⊕ Int × (List T) × (List T) × (List T) × Int × Int × (List T) × (List T) × Int × ByteArray × ByteArray × Int × Int × Int × ByteArray × (List T) × (List T) × (List T) × (Nat × Nat))) (ex : Ex) (e : Env) (s : Sig) : Prop := Sum.elim (fun p0 => (ex = .ret ∧ e = SEnv.env 127 [(2, (V.t (T.sc (.bool p0.1))))] ∧ s = [some [(V.t (T.list p0.2.1)), (V.t (T.list p0.2.2.1))], some [(V.t (T.sc (.int .i64 p0.2.2.2.1))), (V.t (T.sc (.string p0.2.2.2.2.1))), (V.t (T.sc (.string p0.2.2.2.2.2.1))), (V.t (T.sc (.int .i64 p0.2.2.2.2.2.2.1))), (V.t (T.sc (.int .i64 p0.2.2.2.2.2.2.2.1))), (V.t (T.sc (.int .i64 p0.2.2.2.2.2.2.2.2.1))), (V.t (T.sc (.string p0.2.2.2.2.2.2.2.2.2.1))), (V.t (T.list p0.2.2.2.2.2.2.2.2.2.2.1)), (V.t (T.list p0.2.2.2.2.2.2.2.2.2.2.2.1)), (V.t (T.list p0.2.2.2.2.2.2.2.2.2.2.2.2.1)), (V.t (T.sc (.complex .f64 p0.2.2.2.2.2.2.2.2.2.2.2.2.2.1 p0.2.2.2.2.2.2.2.2.2.2.2.2.2.2)))]])) (fun x' => (fun p1 => (ex = (.exit 2) ∧ e = SEnv.env 127 [(3, (V.ptr 0 0)), (5, (V.t (T.sc (.int .i64 p1.1)))), (6, (V.own 11 p1.2.1)), (7, (V.own 1 p1.2.2.1)), (24, (V.t (T.list p1.2.2.2.1))), (25, (V.t (T.sc (.int .i64 p1.2.2.2.2.1)))), (26, (V.t (T.sc (.int .i64 p1.2.2.2.2.2.1))))] ∧ s = [some [(V.t (T.list p1.2.2.2.2.2.2.1)), (V.t (T.list p1.2.2.2.2.2.2.2.1))], some [(V.t (T.sc (.int .i64 p1.2.2.2.2.2.2.2.2.1))), (V.t (T.sc (.string p1.2.2.2.2.2.2.2.2.2.1))), (V.t (T.sc (.string p1.2.2.2.2.2.2.2.2.2.2.1))), (V.t (T.sc (.int .i64 p1.2.2.2.2.2.2.2.2.2.2.2.1))), (V.t (T.sc (.int .i64 p1.2.2.2.2.2.2.2.2.2.2.2.2.1))), (V.t (T.sc (.int .i64 p1.2.2.2.2.2.2.2.2.2.2.2.2.2.1))), (V.t (T.sc (.string p1.2.2.2.2.2.2.2.2.2.2.2.2.2.2.1))), (V.t (T.list p1.2.2.2.2.2.2.2.2.2.2.2.2.2.2.2.1)), (V.t (T.list p1.2.2.2.2.2.2.2.2.2.2.2.2.2.2.2.2.1)), (V.t (T.list p1.2.2.2.2.2.2.2.2.2.2.2.2.2.2.2.2.2.1)), (V.t (T.sc (.complex .f64 p1.2.2.2.2.2.2.2.2.2.2.2.2.2.2.2.2.2.2.1 p1.2.2.2.2.2.2.2.2.2.2.2.2.2.2.2.2.2.2.2)))]])) x') x
theorem l_suturelaw9_JumpsOut_15_run (n : Nat) : ∀ (m : Nat) (s0 : Int) (s1 : List T) (s2 : List T) (s3 : Int) (s4 : Int) (s5 : Int) (s6 : List T) (s7 : Int) (s8 : Int) (s9 : List T) (s10 : List T) (s11 : Int) (s12 : ByteArray) (s13 : ByteArray) (s14 : Int) (s15 : Int) (s16 : Int) (s17 : ByteArray) (s18 : List T) (s19 : List T) (s20 : List T) (s21 : Nat × Nat) (x : ((Bool × (List T) × (List T) × Int × ByteArray × ByteArray × Int × Int × Int × ByteArray × (List T) × (List T) × (List T) × (Nat × Nat)) ⊕ Int × (List T) × (List T) × (List T) × Int × Int × (List T) × (List T) × Int × ByteArray × ByteArray × Int × Int × Int × ByteArray × (List T) × (List T) × (List T) × (Nat × Nat))), l_suturelaw9_JumpsOut_15 n m (s0, s1, s2, s3, s4, s5, s6, s7, s8, s9, s10, s11, s12, s13, s14, s15, s16, s17, s18, s19, s20, s21) = some x → SemL Try.prog 0 code_l_suturelaw9_JumpsOut_15 (SEnv.env 127 [(3, (V.ptr 0 0)), (5, (V.t (T.sc (.int .i64 s0)))), (6, (V.own 11 s1)), (7, (V.own 1 s2)), (8, (V.t (T.sc (.int .i64 s3)))), (10, (V.t (T.sc (.int .i64 s4)))), (11, (V.t (T.sc (.int .i64 s5)))), (24, (V.t (T.list s6))), (25, (V.t (T.sc (.int .i64 s7)))), (26, (V.t (T.sc (.int .i64 s8))))]) [some [(V.t (T.list s9)), (V.t (T.list s10))], some [(V.t (T.sc (.int .i64 s11))), (V.t (T.sc (.string s12))), (V.t (T.sc (.string s13))), (V.t (T.sc (.int .i64 s14))), (V.t (T.sc (.int .i64 s15))), (V.t (T.sc (.int .i64 s16))), (V.t (T.sc (.string s17))), (V.t (T.list s18)), (V.t (T.list s19)), (V.t (T.list s20)), (V.t (T.sc (.complex .f64 s21.1 s21.2)))]] (l_suturelaw9_JumpsOut_15_Q x)
  | 0, s0, s1, s2, s3, s4, s5, s6, s7, s8, s9, s10, s11, s12, s13, s14, s15, s16, s17, s18, s19, s20, s21, x, h => by cases h
  | m + 1, s0, s1, s2, s3, s4, s5, s6, s7, s8, s9, s10, s11, s12, s13, s14, s15, s16, s17, s18, s19, s20, s21, x, h => by
    refine loop_step (sp_suturelaw9_JumpsOut_ok n) code_l_suturelaw9_JumpsOut_15_ok (fun a ha => absurd ha (by rw [show loopsOf code_l_suturelaw9_JumpsOut_15 = [] from by kernel_rfl]; simp)) (no_scope (by kernel_rfl)) ((l_suturelaw9_JumpsOut_15_eq n _ s0 s1 s2 s3 s4 s5 s6 s7 s8 s9 s10 s11 s12 s13 s14 s15 s16 s17 s18 s19 s20 s21).trans h) (fun E sg h => ?_) (fun ex E sg hne h => ?_)
    · simp only [l_suturelaw9_JumpsOut_15_K] at h
      obtain ⟨u0, hu0, h⟩ := Option.bind_eq_some_iff.1 h
      obtain ⟨u1, hu1, h⟩ := Option.bind_eq_some_iff.1 h
      obtain ⟨u2, hu2, h⟩ := Option.bind_eq_some_iff.1 h
      obtain ⟨u3, hu3, h⟩ := Option.bind_eq_some_iff.1 h
      obtain ⟨u4, hu4, h⟩ := Option.bind_eq_some_iff.1 h
      obtain ⟨u5, hu5, h⟩ := Option.bind_eq_some_iff.1 h
      obtain ⟨u6, hu6, h⟩ := Option.bind_eq_some_iff.1 h
      obtain ⟨u7, hu7, h⟩ := Option.bind_eq_some_iff.1 h
      obtain ⟨u8, hu8, h⟩ := Option.bind_eq_some_iff.1 h
      obtain ⟨u9, hu9, h⟩ := Option.bind_eq_some_iff.1 h
      obtain ⟨u10, hu10, h⟩ := Option.bind_eq_some_iff.1 h
      obtain ⟨u11, hu11, h⟩ := Option.bind_eq_some_iff.1 h
      obtain ⟨u12, hu12, h⟩ := Option.bind_eq_some_iff.1 h
      obtain ⟨u13, hu13, h⟩ := Option.bind_eq_some_iff.1 h
      obtain ⟨u14, hu14, h⟩ := Option.bind_eq_some_iff.1 h
      obtain ⟨u15, hu15, h⟩ := Option.bind_eq_some_iff.1 h
      obtain ⟨u16, hu16, h⟩ := Option.bind_eq_some_iff.1 h
      obtain ⟨u17, hu17, h⟩ := Option.bind_eq_some_iff.1 h
      obtain ⟨u18, hu18, h⟩ := Option.bind_eq_some_iff.1 h
      obtain ⟨u19, hu19, h⟩ := Option.bind_eq_some_iff.1 h
      obtain ⟨u20, hu20, h⟩ := Option.bind_eq_some_iff.1 h
      obtain ⟨u21, hu21, h⟩ := Option.bind_eq_some_iff.1 h
      obtain ⟨u22, hu22, h⟩ := Option.bind_eq_some_iff.1 h
      obtain ⟨u23, hu23, h⟩ := Option.bind_eq_some_iff.1 h
      obtain ⟨u24, hu24, h⟩ := Option.bind_eq_some_iff.1 h
      exact SemL.pre (k := 2) (by decide) (WkA.env (WkA.cons (ptrOf_wk hu0) rfl (WkA.cons (intOf_wk hu1) rfl (WkA.cons (ownOf_wk hu2) rfl (WkA.cons (ownOf_wk hu3) rfl (WkA.cons (intOf_wk hu4) rfl (WkA.cons (intOf_wk hu5) rfl (WkA.cons (intOf_wk hu6) rfl (WkA.cons (lstOf_wk hu7) rfl (WkA.cons (intOf_wk hu8) rfl (WkA.cons (intOf_wk hu9) rfl WkA.nil)))))))))) 127) (wkR_sig (WkR.cons (cellsN_wk hu10 (.cons (lstOf_wk hu11) (.cons (lstOf_wk hu12) .nil))).1 (cellsN_wk hu10 (.cons (lstOf_wk hu11) (.cons (lstOf_wk hu12) .nil))).2 (renL_mem (.cons rfl (.cons rfl .nil))) (WkR.cons (cellsN_wk hu13 (.cons (intOf_wk hu14) (.cons (strOf_wk hu15) (.cons (strOf_wk hu16) (.cons (intOf_wk hu17) (.cons (intOf_wk hu18) (.cons (intOf_wk hu19) (.cons (strOf_wk hu20) (.cons (lstOf_wk hu21) (.cons (lstOf_wk hu22) (.cons (lstOf_wk hu23) (.cons (cplxOf_wk hu24) .nil)))))))))))).1 (cellsN_wk hu13 (.cons (intOf_wk hu14) (.cons (strOf_wk hu15) (.cons (strOf_wk hu16) (.cons (intOf_wk hu17) (.cons (intOf_wk hu18) (.cons (intOf_wk hu19) (.cons (strOf_wk hu20) (.cons (lstOf_wk hu21) (.cons (lstOf_wk hu22) (.cons (lstOf_wk hu23) (.cons (cplxOf_wk hu24) .nil)))))))))))).2 (renL_mem (.cons rfl (.cons rfl (.cons rfl (.cons rfl (.cons rfl (.cons rfl (.cons rfl (.cons rfl (.cons rfl (.cons rfl (.cons rfl .nil)))))))))))) (WkR.nil _))) rfl) (l_suturelaw9_JumpsOut_15_run n m _ _ _ _ _ _ _ _ _ _ _ _ _ _ _ _ _ _ _ _ _ _ x h)
    · unfold l_suturelaw9_JumpsOut_15_K at h
      split at h
      · exact absurd rfl hne
      · obtain ⟨u0, hu0, h⟩ := Option.bind_eq_some_iff.1 h
        obtain ⟨u1, hu1, h⟩ := Option.bind_eq_some_iff.1 h
        obtain ⟨u2, hu2, h⟩ := Option.bind_eq_some_iff.1 h
        obtain ⟨u3, hu3, h⟩ := Option.bind_eq_some_iff.1 h
        obtain ⟨u4, hu4, h⟩ := Option.bind_eq_some_iff.1 h
        obtain ⟨u5, hu5, h⟩ := Option.bind_eq_some_iff.1 h
        obtain ⟨u6, hu6, h⟩ := Option.bind_eq_some_iff.1 h
        obtain ⟨u7, hu7, h⟩ := Option.bind_eq_some_iff.1 h
        obtain ⟨u8, hu8, h⟩ := Option.bind_eq_some_iff.1 h
        obtain ⟨u9, hu9, h⟩ := Option.bind_eq_some_iff.1 h
        obtain ⟨u10, hu10, h⟩ := Option.bind_eq_some_iff.1 h
        obtain ⟨u11, hu11, h⟩ := Option.bind_eq_some_iff.1 h
        obtain ⟨u12, hu12, h⟩ := Option.bind_eq_some_iff.1 h
        obtain ⟨u13, hu13, h⟩ := Option.bind_eq_some_iff.1 h
        obtain ⟨u14, hu14, h⟩ := Option.bind_eq_some_iff.1 h
        obtain ⟨u15, hu15, h⟩ := Option.bind_eq_some_iff.1 h
        simp only [Option.some.injEq] at h
        subst h
        exact ⟨2, _, _, by decide, WkA.env (WkA.cons (boolOf_wk hu0) rfl WkA.nil) 127, (wkR_sig (WkR.cons (cellsN_wk hu1 (.cons (lstOf_wk hu2) (.cons (lstOf_wk hu3) .nil))).1 (cellsN_wk hu1 (.cons (lstOf_wk hu2) (.cons (lstOf_wk hu3) .nil))).2 (renL_mem (.cons rfl (.cons rfl .nil))) (WkR.cons (cellsN_wk hu4 (.cons (intOf_wk hu5) (.cons (strOf_wk hu6) (.cons (strOf_wk hu7) (.cons (intOf_wk hu8) (.cons (intOf_wk hu9) (.cons (intOf_wk hu10) (.cons (strOf_wk hu11) (.cons (lstOf_wk hu12) (.cons (lstOf_wk hu13) (.cons (lstOf_wk hu14) (.cons (cplxOf_wk hu15) .nil)))))))))))).1 (cellsN_wk hu4 (.cons (intOf_wk hu5) (.cons (strOf_wk hu6) (.cons (strOf_wk hu7) (.cons (intOf_wk hu8) (.cons (intOf_wk hu9) (.cons (intOf_wk hu10) (.cons (strOf_wk hu11) (.cons (lstOf_wk hu12) (.cons (lstOf_wk hu13) (.cons (lstOf_wk hu14) (.cons (cplxOf_wk hu15) .nil)))))))))))).2 (renL_mem (.cons rfl (.cons rfl (.cons rfl (.cons rfl (.cons rfl (.cons rfl (.cons rfl (.cons rfl (.cons rfl (.cons rfl (.cons rfl .nil)))))))))))) (WkR.nil _))) rfl), rfl, rfl, rfl⟩
      · obtain ⟨u0, hu0, h⟩ := Option.bind_eq_some_iff.1 h
        obtain ⟨u1, hu1, h⟩ := Option.bind_eq_some_iff.1 h
        obtain ⟨u2, hu2, h⟩ := Option.bind_eq_some_iff.1 h
        obtain ⟨u3, hu3, h⟩ := Option.bind_eq_some_iff.1 h
        obtain ⟨u4, hu4, h⟩ := Option.bind_eq_some_iff.1 h
        obtain ⟨u5, hu5, h⟩ := Option.bind_eq_some_iff.1 h
        obtain ⟨u6, hu6, h⟩ := Option.bind_eq_some_iff.1 h
        obtain ⟨u7, hu7, h⟩ := Option.bind_eq_some_iff.1 h
        obtain ⟨u8, hu8, h⟩ := Option.bind_eq_some_iff.1 h
        obtain ⟨u9, hu9, h⟩ := Option.bind_eq_some_iff.1 h
        obtain ⟨u10, hu10, h⟩ := Option.bind_eq_some_iff.1 h
        obtain ⟨u11, hu11, h⟩ := Option.bind_eq_some_iff.1 h
        obtain ⟨u12, hu12, h⟩ := Option.bind_eq_some_iff.1 h
        obtain ⟨u13, hu13, h⟩ := Option.bind_eq_some_iff.1 h
        obtain ⟨u14, hu14, h⟩ := Option.bind_eq_some_iff.1 h
        obtain ⟨u15, hu15, h⟩ := Option.bind_eq_some_iff.1 h
        obtain ⟨u16, hu16, h⟩ := Option.bind_eq_some_iff.1 h
        obtain ⟨u17, hu17, h⟩ := Option.bind_eq_some_iff.1 h
        obtain ⟨u18, hu18, h⟩ := Option.bind_eq_some_iff.1 h
        obtain ⟨u19, hu19, h⟩ := Option.bind_eq_some_iff.1 h
        obtain ⟨u20, hu20, h⟩ := Option.bind_eq_some_iff.1 h
        obtain ⟨u21, hu21, h⟩ := Option.bind_eq_some_iff.1 h
        simp only [Option.some.injEq] at h
        subst h
        exact ⟨2, _, _, by decide, WkA.env (WkA.cons (ptrOf_wk hu0) rfl (WkA.cons (intOf_wk hu1) rfl (WkA.cons (ownOf_wk hu2) rfl (WkA.cons (ownOf_wk hu3) rfl (WkA.cons (lstOf_wk hu4) rfl (WkA.cons (intOf_wk hu5) rfl (WkA.cons (intOf_wk hu6) rfl WkA.nil))))))) 127, (wkR_sig (WkR.cons (cellsN_wk hu7 (.cons (lstOf_wk hu8) (.cons (lstOf_wk hu9) .nil))).1 (cellsN_wk hu7 (.cons (lstOf_wk hu8) (.cons (lstOf_wk hu9) .nil))).2 (renL_mem (.cons rfl (.cons rfl .nil))) (WkR.cons (cellsN_wk hu10 (.cons (intOf_wk hu11) (.cons (strOf_wk hu12) (.cons (strOf_wk hu13) (.cons (intOf_wk hu14) (.cons (intOf_wk hu15) (.cons (intOf_wk hu16) (.cons (strOf_wk hu17) (.cons (lstOf_wk hu18) (.cons (lstOf_wk hu19) (.cons (lstOf_wk hu20) (.cons (cplxOf_wk hu21) .nil)))))))))))).1 (cellsN_wk hu10 (.cons (intOf_wk hu11) (.cons (strOf_wk hu12) (.cons (strOf_wk hu13) (.cons (intOf_wk hu14) (.cons (intOf_wk hu15) (.cons (intOf_wk hu16) (.cons (strOf_wk hu17) (.cons (lstOf_wk hu18) (.cons (lstOf_wk hu19) (.cons (lstOf_wk hu20) (.cons (cplxOf_wk hu21) .nil)))))))))))).2 (renL_mem (.cons rfl (.cons rfl (.cons rfl (.cons rfl (.cons rfl (.cons rfl (.cons rfl (.cons rfl (.cons rfl (.cons rfl (.cons rfl .nil)))))))))))) (WkR.nil _))) rfl), rfl, rfl, rfl⟩
      · cases h
theorem l_suturelaw9_JumpsOut_15_ok (n : Nat) : LoopOk Try.prog (sp_suturelaw9_JumpsOut n) 0 127 code_l_suturelaw9_JumpsOut_15 := by
    intro R key E sg K r hk h
    rw [show Go.Eng.keyOf code_l_suturelaw9_JumpsOut_15 = some 15 from by kernel_rfl] at hk
    cases hk
    have h : l_suturelaw9_JumpsOut_15_S n R E sg K = some r := h
    unfold l_suturelaw9_JumpsOut_15_S at h
    obtain ⟨u0, hu0, h⟩ := Option.bind_eq_some_iff.1 h
    obtain ⟨u1, hu1, h⟩ := Option.bind_eq_some_iff.1 h
    obtain ⟨u2, hu2, h⟩ := Option.bind_eq_some_iff.1 h
    obtain ⟨u3, hu3, h⟩ := Option.bind_eq_some_iff.1 h
    obtain ⟨u4, hu4, h⟩ := Option.bind_eq_some_iff.1 h
    obtain ⟨u5, hu5, h⟩ := Option.bind_eq_some_iff.1 h
    obtain ⟨u6, hu6, h⟩ := Option.bind_eq_some_iff.1 h
    obtain ⟨u7, hu7, h⟩ := Option.bind_eq_some_iff.1 h
    obtain ⟨u8, hu8, h⟩ := Option.bind_eq_some_iff.1 h
    obtain ⟨u9, hu9, h⟩ := Option.bind_eq_some_iff.1 h
    obtain ⟨u10, hu10, h⟩ := Option.bind_eq_some_iff.1 h
    obtain ⟨u11, hu11, h⟩ := Option.bind_eq_some_iff.1 h
    obtain ⟨u12, hu12, h⟩ := Option.bind_eq_some_iff.1 h
    obtain ⟨u13, hu13, h⟩ := Option.bind_eq_some_iff.1 h
    obtain ⟨u14, hu14, h⟩ := Option.bind_eq_some_iff.1 h
    obtain ⟨u15, hu15, h⟩ := Option.bind_eq_some_iff.1 h
    obtain ⟨u16, hu16, h⟩ := Option.bind_eq_some_iff.1 h
    obtain ⟨u17, hu17, h⟩ := Option.bind_eq_some_iff.1 h
    obtain ⟨u18, hu18, h⟩ := Option.bind_eq_some_iff.1 h
    obtain ⟨u19, hu19, h⟩ := Option.bind_eq_some_iff.1 h
    obtain ⟨u20, hu20, h⟩ := Option.bind_eq_some_iff.1 h
    obtain ⟨u21, hu21, h⟩ := Option.bind_eq_some_iff.1 h
    obtain ⟨u22, hu22, h⟩ := Option.bind_eq_some_iff.1 h
    obtain ⟨u23, hu23, h⟩ := Option.bind_eq_some_iff.1 h
    obtain ⟨u24, hu24, h⟩ := Option.bind_eq_some_iff.1 h
    obtain ⟨x, hx, h⟩ := Option.bind_eq_some_iff.1 h
    refine (SemL.pre (k := 2) (by decide) (WkA.env (WkA.cons (ptrOf_wk hu0) rfl (WkA.cons (intOf_wk hu1) rfl (WkA.cons (ownOf_wk hu2) rfl (WkA.cons (ownOf_wk hu3) rfl (WkA.cons (intOf_wk hu4) rfl (WkA.cons (intOf_wk hu5) rfl (WkA.cons (intOf_wk hu6) rfl (WkA.cons (lstOf_wk hu7) rfl (WkA.cons (intOf_wk hu8) rfl (WkA.cons (intOf_wk hu9) rfl WkA.nil)))))))))) 127) (wkR_sig (WkR.cons (cellsN_wk hu10 (.cons (lstOf_wk hu11) (.cons (lstOf_wk hu12) .nil))).1 (cellsN_wk hu10 (.cons (lstOf_wk hu11) (.cons (lstOf_wk hu12) .nil))).2 (renL_mem (.cons rfl (.cons rfl .nil))) (WkR.cons (cellsN_wk hu13 (.cons (intOf_wk hu14) (.cons (strOf_wk hu15) (.cons (strOf_wk hu16) (.cons (intOf_wk hu17) (.cons (intOf_wk hu18) (.cons (intOf_wk hu19) (.cons (strOf_wk hu20) (.cons (lstOf_wk hu21) (.cons (lstOf_wk hu22) (.cons (lstOf_wk hu23) (.cons (cplxOf_wk hu24) .nil)))))))))))).1 (cellsN_wk hu13 (.cons (intOf_wk hu14) (.cons (strOf_wk hu15) (.cons (strOf_wk hu16) (.cons (intOf_wk hu17) (.cons (intOf_wk hu18) (.cons (intOf_wk hu19) (.cons (strOf_wk hu20) (.cons (lstOf_wk hu21) (.cons (lstOf_wk hu22) (.cons (lstOf_wk hu23) (.cons (cplxOf_wk hu24) .nil)))))))))))).2 (renL_mem (.cons rfl (.cons rfl (.cons rfl (.cons rfl (.cons rfl (.cons rfl (.cons rfl (.cons rfl (.cons rfl (.cons rfl (.cons rfl .nil)))))))))))) (WkR.nil _))) rfl) (l_suturelaw9_JumpsOut_15_run n n _ _ _ _ _ _ _ _ _ _ _ _ _ _ _ _ _ _ _ _ _ _ x hx)).mono ?_
    intro ex e s hq
    rcases x with x | x <;> (obtain ⟨rfl, rfl, rfl⟩ := hq; exact ⟨_, rfl, h⟩) -- 5
noncomputable def code_l_suturelaw9_JumpsOut_6 : Code := (loopsOf code_suturelaw9_JumpsOut).getD 0 .skip
theorem code_l_suturelaw9_JumpsOut_6_ok : CodeOk Try.prog code_l_suturelaw9_JumpsOut_6 := codeOk_loops code_suturelaw9_JumpsOut_ok _ (getD_mem (by kernel_rfl))
def l_suturelaw9_JumpsOut_6_K (k : Int × (List T) × (List T) × (List T) × Int × Int × (List T) × (List T) → Option (((Bool × (List T) × (List T)) ⊕ (List T) × (List T)))) : Ex → SEnv → Sig → Option (((Bool × (List T) × (List T)) ⊕ (List T) × (List T))) := fun x E sg => match x with
  | .normal => Option.bind (V.ptrOf 0 0 (SEnv.at E 3)) fun u0 => Option.bind (V.intOf .i64 (SEnv.at E 5)) fun u1 => Option.bind (V.ownOf 11 (SEnv.at E 6)) fun u2 => Option.bind (V.ownOf 1 (SEnv.at E 7)) fun u3 => Option.bind (V.lstOf (SEnv.at E 24)) fun u4 => Option.bind (V.intOf .i64 (SEnv.at E 25)) fun u5 => Option.bind (V.intOf .i64 (SEnv.at E 26)) fun u6 => Option.bind (cellsN 2 sg 0) fun u7 => Option.bind (V.lstOf (u7.getD 0 .any)) fun u8 => Option.bind (V.lstOf (u7.getD 1 .any)) fun u9 => k (u1, u2, u3, u4, u5, u6, u8, u9)
  | .ret => Option.bind (V.boolOf (SEnv.at E 2)) fun u0 => Option.bind (cellsN 2 sg 0) fun u1 => Option.bind (V.lstOf (u1.getD 0 .any)) fun u2 => Option.bind (V.lstOf (u1.getD 1 .any)) fun u3 => some (Sum.inl (u0, u2, u3))
  | (.exit 0) => Option.bind (cellsN 2 sg 0) fun u0 => Option.bind (V.lstOf (u0.getD 0 .any)) fun u1 => Option.bind (V.lstOf (u0.getD 1 .any)) fun u2 => some (Sum.inr (u1, u2))
  | _ => none
theorem l_suturelaw9_JumpsOut_6_eq (n : Nat) (k : Int × (List T) × (List T) × (List T) × Int × Int × (List T) × (List T) → Option (((Bool × (List T) × (List T)) ⊕ (List T) × (List T)))) (s0 : Int) (s1 : List T) (s2 : List T) (s3 : List T) (s4 : Int) (s5 : Int) (s6 : List T) (s7 : List T) : mX Try.prog (sp_suturelaw9_JumpsOut n) 127 code_l_suturelaw9_JumpsOut_6 [(3, (V.ptr 0 0)), (5, (V.t (T.sc (.int .i64 s0)))), (6, (V.own 11 s1)), (7, (V.own 1 s2)), (24, (V.t (T.list s3))), (25, (V.t (T.sc (.int .i64 s4)))), (26, (V.t (T.sc (.int .i64 s5))))] [some [(V.t (T.list s6)), (V.t (T.list s7))]] (l_suturelaw9_JumpsOut_6_K k) = l_suturelaw9_JumpsOut_6_B n k (s0, s1, s2, s3, s4, s5, s6, s7) := by kernel_rfl
def l_suturelaw9_JumpsOut_6_Q (x : ((Bool × (List T) × (List T)) ⊕ (List T) × (List T))) (ex : Ex) (e : Env) (s : Sig) : Prop := Sum.elim (fun p0 => (ex = .ret ∧ e = SEnv.env 127 [(2, (V.t (T.sc (.bool p0.1))))] ∧ s = [some [(V.t (T.list p0.2.1)), (V.t (T.list p0.2.2))]])) (fun x' => (fun p1 => (ex = (.exit 0) ∧ e = SEnv.env 127 [] ∧ s = [some [(V.t (T.list p1.1)), (V.t (T.list p1.2))]])) x') x
theorem l_suturelaw9_JumpsOut_6_run (n : Nat) : ∀ (m : Nat) (s0 : Int) (s1 : List T) (s2 : List T) (s3 : List T) (s4 : Int) (s5 : Int) (s6 : List T) (s7 : List T) (x : ((Bool × (List T) × (List T)) ⊕ (List T) × (List T))), l_suturelaw9_JumpsOut_6 n m (s0, s1, s2, s3, s4, s5, s6, s7) = some x → SemL Try.prog 0 code_l_suturelaw9_JumpsOut_6 (SEnv.env 127 [(3, (V.ptr 0 0)), (5, (V.t (T.sc (.int .i64 s0)))), (6, (V.own 11 s1)), (7, (V.own 1 s2)), (24, (V.t (T.list s3))), (25, (V.t (T.sc (.int .i64 s4)))), (26, (V.t (T.sc (.int .i64 s5))))]) [some [(V.t (T.list s6)), (V.t (T.list s7))]] (l_suturelaw9_JumpsOut_6_Q x)
  | 0, s0, s1, s2, s3, s4, s5, s6, s7, x, h => by cases h
  | m + 1, s0, s1, s2, s3, s4, s5, s6, s7, x, h => by
    refine loop_step (sp_suturelaw9_JumpsOut_ok n) code_l_suturelaw9_JumpsOut_6_ok (forall_getD (d := .skip) 1 (by kernel_rfl) (fun i hi => match i, hi with | 0, _ => (show LoopOk Try.prog (sp_suturelaw9_JumpsOut n) 0 127 ((loopsOf code_l_suturelaw9_JumpsOut_6).getD 0 .skip) from (show (loopsOf code_l_suturelaw9_JumpsOut_6).getD 0 .skip = code_l_suturelaw9_JumpsOut_15 from by kernel_rfl) ▸ l_suturelaw9_JumpsOut_15_ok n) | i + 1, hi => absurd hi (by omega))) (no_scope (by kernel_rfl)) ((l_suturelaw9_JumpsOut_6_eq n _ s0 s1 s2 s3 s4 s5 s6 s7).trans h) (fun E sg h => ?_) (fun ex E sg hne h => ?_)
    · simp only [l_suturelaw9_JumpsOut_6_K] at h
      obtain ⟨u0, hu0, h⟩ := Option.bind_eq_some_iff.1 h
      obtain ⟨u1, hu1, h⟩ := Option.bind_eq_some_iff.1 h
      obtain ⟨u2, hu2, h⟩ := Option.bind_eq_some_iff.1 h
      obtain ⟨u3, hu3, h⟩ := Option.bind_eq_some_iff.1 h
      obtain ⟨u4, hu4, h⟩ := Option.bind_eq_some_iff.1 h
      obtain ⟨u5, hu5, h⟩ := Option.bind_eq_some_iff.1 h
      obtain ⟨u6, hu6, h⟩ := Option.bind_eq_some_iff.1 h
      obtain ⟨u7, hu7, h⟩ := Option.bind_eq_some_iff.1 h
      obtain ⟨u8, hu8, h⟩ := Option.bind_eq_some_iff.1 h
      obtain ⟨u9, hu9, h⟩ := Option.bind_eq_some_iff.1 h
      exact SemL.pre (k := 1) (by decide) (WkA.env (WkA.cons (ptrOf_wk hu0) rfl (WkA.cons (intOf_wk hu1) rfl (WkA.cons (ownOf_wk hu2) rfl (WkA.cons (ownOf_wk hu3) rfl (WkA.cons (lstOf_wk hu4) rfl (WkA.cons (intOf_wk hu5) rfl (WkA.cons (intOf_wk hu6) rfl WkA.nil))))))) 127) (wkR_sig (WkR.cons (cellsN_wk hu7 (.cons (lstOf_wk hu8) (.cons (lstOf_wk hu9) .nil))).1 (cellsN_wk hu7 (.cons (lstOf_wk hu8) (.cons (lstOf_wk hu9) .nil))).2 (renL_mem (.cons rfl (.cons rfl .nil))) (WkR.nil _)) rfl) (l_suturelaw9_JumpsOut_6_run n m _ _ _ _ _ _ _ _ x h)
    · unfold l_suturelaw9_JumpsOut_6_K at h
      split at h
      · exact absurd rfl hne
      · obtain ⟨u0, hu0, h⟩ := Option.bind_eq_some_iff.1 h
        obtain ⟨u1, hu1, h⟩ := Option.bind_eq_some_iff.1 h
        obtain ⟨u2, hu2, h⟩ := Option.bind_eq_some_iff.1 h
        obtain ⟨u3, hu3, h⟩ := Option.bind_eq_some_iff.1 h
        simp only [Option.some.injEq] at h
        subst h
        exact ⟨1, _, _, by decide, WkA.env (WkA.cons (boolOf_wk hu0) rfl WkA.nil) 127, (wkR_sig (WkR.cons (cellsN_wk hu1 (.cons (lstOf_wk hu2) (.cons (lstOf_wk hu3) .nil))).1 (cellsN_wk hu1 (.cons (lstOf_wk hu2) (.cons (lstOf_wk hu3) .nil))).2 (renL_mem (.cons rfl (.cons rfl .nil))) (WkR.nil _)) rfl), rfl, rfl, rfl⟩
      · obtain ⟨u0, hu0, h⟩ := Option.bind_eq_some_iff.1 h
        obtain ⟨u1, hu1, h⟩ := Option.bind_eq_some_iff.1 h
        obtain ⟨u2, hu2, h⟩ := Option.bind_eq_some_iff.1 h
        simp only [Option.some.injEq] at h
        subst h
        exact ⟨1, _, _, by decide, WkA.env WkA.nil 127, (wkR_sig (WkR.cons (cellsN_wk hu0 (.cons (lstOf_wk hu1) (.cons (lstOf_wk hu2) .nil))).1 (cellsN_wk hu0 (.cons (lstOf_wk hu1) (.cons (lstOf_wk hu2) .nil))).2 (renL_mem (.cons rfl (.cons rfl .nil))) (WkR.nil _)) rfl), rfl, rfl, rfl⟩
      · cases h
theorem l_suturelaw9_JumpsOut_6_ok (n : Nat) : LoopOk Try.prog (sp_suturelaw9_JumpsOut n) 0 127 code_l_suturelaw9_JumpsOut_6 := by
    intro R key E sg K r hk h
    rw [show Go.Eng.keyOf code_l_suturelaw9_JumpsOut_6 = some 6 from by kernel_rfl] at hk
    cases hk
    have h : l_suturelaw9_JumpsOut_6_S n R E sg K = some r := h
    unfold l_suturelaw9_JumpsOut_6_S at h
    obtain ⟨u0, hu0, h⟩ := Option.bind_eq_some_iff.1 h
    obtain ⟨u1, hu1, h⟩ := Option.bind_eq_some_iff.1 h
    obtain ⟨u2, hu2, h⟩ := Option.bind_eq_some_iff.1 h
    obtain ⟨u3, hu3, h⟩ := Option.bind_eq_some_iff.1 h
    obtain ⟨u4, hu4, h⟩ := Option.bind_eq_some_iff.1 h
    obtain ⟨u5, hu5, h⟩ := Option.bind_eq_some_iff.1 h
    obtain ⟨u6, hu6, h⟩ := Option.bind_eq_some_iff.1 h
    obtain ⟨u7, hu7, h⟩ := Option.bind_eq_some_iff.1 h
    obtain ⟨u8, hu8, h⟩ := Option.bind_eq_some_iff.1 h
    obtain ⟨u9, hu9, h⟩ := Option.bind_eq_some_iff.1 h
    obtain ⟨x, hx, h⟩ := Option.bind_eq_some_iff.1 h
    refine (SemL.pre (k := 1) (by decide) (WkA.env (WkA.cons (ptrOf_wk hu0) rfl (WkA.cons (intOf_wk hu1) rfl (WkA.cons (ownOf_wk hu2) rfl (WkA.cons (ownOf_wk hu3) rfl (WkA.cons (lstOf_wk hu4) rfl (WkA.cons (intOf_wk hu5) rfl (WkA.cons (intOf_wk hu6) rfl WkA.nil))))))) 127) (wkR_sig (WkR.cons (cellsN_wk hu7 (.cons (lstOf_wk hu8) (.cons (lstOf_wk hu9) .nil))).1 (cellsN_wk hu7 (.cons (lstOf_wk hu8) (.cons (lstOf_wk hu9) .nil))).2 (renL_mem (.cons rfl (.cons rfl .nil))) (WkR.nil _)) rfl) (l_suturelaw9_JumpsOut_6_run n n _ _ _ _ _ _ _ _ x hx)).mono ?_
    intro ex e s hq
    rcases x with x | x <;> (obtain ⟨rfl, rfl, rfl⟩ := hq; exact ⟨_, rfl, h⟩) -- 5
def K_suturelaw9_JumpsOut (v : V) (s : Sig) : Option (Bool) := Option.bind (V.boolOf v) fun u0 => some u0
theorem K_suturelaw9_JumpsOut_wk {v : V} {s : Sig} {r : Bool} (h : K_suturelaw9_JumpsOut v s = some r) : Wk v (enc_suturelaw9_JumpsOut r) ∧ WkS 0 s (encS_suturelaw9_JumpsOut r) := by
  unfold K_suturelaw9_JumpsOut at h
  obtain ⟨u0, hu0, h⟩ := Option.bind_eq_some_iff.1 h
  simp only [Option.some.injEq] at h
  subst h
  exact ⟨(boolOf_wk hu0), (WkS.none _)⟩
theorem m_suturelaw9_JumpsOut_eq (n : Nat) (a0 : List T) : mF Try.prog (sp_suturelaw9_JumpsOut n) 5 [(V.t (T.list a0))] [] K_suturelaw9_JumpsOut = m_suturelaw9_JumpsOut n a0 := by kernel_rfl
theorem m_suturelaw9_JumpsOut_ok (n : Nat) : ok_suturelaw9_JumpsOut (m_suturelaw9_JumpsOut n) := fun a0 r h => mF_ok sound (sp_suturelaw9_JumpsOut_ok n) code_suturelaw9_JumpsOut_fn code_suturelaw9_JumpsOut_body (forall_getD (d := .skip) 2 (by kernel_rfl) (fun i hi => match i, hi with | 0, _ => l_suturelaw9_JumpsOut_6_ok n | 1, _ => l_suturelaw9_JumpsOut_15_ok n | i + 2, hi => absurd hi (by omega))) (no_scope (by kernel_rfl)) ((m_suturelaw9_JumpsOut_eq n a0).trans h) (fun v s hk => ⟨(K_suturelaw9_JumpsOut_wk hk).1, rfl, (K_suturelaw9_JumpsOut_wk hk).2⟩)

end Go.Proofs.Ytgpokdaacbjimab.W
