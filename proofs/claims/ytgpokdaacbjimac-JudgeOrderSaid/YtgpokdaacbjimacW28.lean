/- What the engine's walk comes to, printed by a program of this work: for each function its model, and that it is one. No conditions. -/
import Derived.Test.YtgpokdaacbjimacW281
namespace Go.Proofs.Ytgpokdaacbjimac.W
open Go Go.Eng
set_option linter.unusedVariables false
set_option linter.unusedSimpArgs false
set_option maxRecDepth 100000

/-! suture/sutureref13.SameInts -/
def l_sutureref13_SameInts_4_B (n : Nat) (k : (List T) × (List T) × Int → Option (((Bool) ⊕ Unit))) : (List T) × (List T) × Int → Option (((Bool) ⊕ Unit)) := fun (s0, s1, s2) =>
bif (decide ((s2 : Int) < ((List.length s0 : Nat) : Int))) then (
Option.bind (idx true [.int .i64] s0 s2) fun y0 =>
Option.bind (idx true [.int .i64] s1 s2) fun y1 =>
bif (((y0.cell 0).int : Int) != (y1.cell 0).int) then (
some (Sum.inl false))
else (
k (s0, s1, (IntKind.wrap .i64 (s2 + 1)))))
else (
some (Sum.inr ()))
def l_sutureref13_SameInts_4 (n : Nat) : Nat → (List T) × (List T) × Int → Option (((Bool) ⊕ Unit))
  | 0, _ => none
  | m + 1, s => l_sutureref13_SameInts_4_B n (l_sutureref13_SameInts_4 n m) s
def m_sutureref13_SameInts (n : Nat) (a0 : List T) (a1 : List T) : Option (Bool) :=
bif ((((List.length a0 : Nat) : Int) : Int) != ((List.length a1 : Nat) : Int)) then (
some false)
else (
Option.bind (l_sutureref13_SameInts_4 n n (a0, a1, 0)) fun x2 =>
Sum.elim (fun p3 => 
some p3) (fun x2' => (fun p4 => 
some true) x2') x2)
def enc_sutureref13_SameInts (r : Bool) : V := (V.t (T.sc (.bool r)))
def encS_sutureref13_SameInts (r : Bool) : Sig := []
def ok_sutureref13_SameInts (m : List T → List T → Option (Bool)) : Prop := ∀ (a0 : List T) (a1 : List T) (r : Bool), m a0 a1 = some r → FuncOk Try.prog 28 [(V.t (T.list a0)), (V.t (T.list a1))] [] (enc_sutureref13_SameInts r) (encS_sutureref13_SameInts r)
def c_sutureref13_SameInts (m : List T → List T → Option (Bool)) (vs : List V) (sg : Sig) : Option CallM := bif Nat.beq vs.length 2 && Nat.beq sg.length 0 then Option.bind (V.lstOf (vs.getD 0 .any)) fun u0 => Option.bind (V.lstOf (vs.getD 1 .any)) fun u1 => some { α := Bool, m := m u0 u1, dflt := false, enc := fun y => ((V.t (T.sc (.bool y))), []) } else none
theorem c_sutureref13_SameInts_ok (m : List T → List T → Option (Bool)) (hm : ok_sutureref13_SameInts m) (vs : List V) (sg : Sig) (cm : CallM) (x : cm.α) (h : c_sutureref13_SameInts m vs sg = some cm) (hx : cm.m = some x) : FuncOk Try.prog 28 vs sg (cm.enc x).1 (cm.enc x).2 := by
  unfold c_sutureref13_SameInts at h
  have h0 := callee_sig h
  clear h
  obtain ⟨hl, hs, h⟩ := h0
  obtain ⟨u0, hu0, h⟩ := Option.bind_eq_some_iff.1 h
  obtain ⟨u1, hu1, h⟩ := Option.bind_eq_some_iff.1 h
  simp only [Option.some.injEq] at h
  subst h
  exact (hm u0 u1 x hx).wk (args_wk hl (.cons (lstOf_wk hu0) (.cons (lstOf_wk hu1) .nil))) (wkSg_of hs .nil)
noncomputable def code_sutureref13_SameInts : Code := Try.f28.body.getD .skip
def l_sutureref13_SameInts_4_S (n : Nat) (R : Type) (E : SEnv) (sg : Sig) (K : Ex → SEnv → Sig → Option R) : Option R := Option.bind (V.lstOf (SEnv.at E 0)) fun u0 => Option.bind (V.lstOf (SEnv.at E 1)) fun u1 => Option.bind (V.intOf .i64 (SEnv.at E 5)) fun u2 => Option.bind (l_sutureref13_SameInts_4 n n (u0, u1, u2)) fun y => Sum.elim (fun p0 => K .ret [(4, (V.t (T.sc (.bool p0))))] []) (fun y' => (fun p1 => K (.exit 0) [] []) y') y
noncomputable def sp_sutureref13_SameInts (n : Nat) : Go.Eng.Spec := ⟨fun f vs sg => (match f with
    | _ => none), fun R key E sg K => (match key with
    | 4 => l_sutureref13_SameInts_4_S n R E sg K
    | _ => none)⟩
theorem sp_sutureref13_SameInts_ok (n : Nat) : CallsOk Try.prog (sp_sutureref13_SameInts n) := by
  intro f vs sg cm x h hx
  have h : (none : Option CallM) = some cm := h
  cases h
theorem code_sutureref13_SameInts_fn : Try.prog.funcs[28]? = some Try.f28 := Try.func28
theorem code_sutureref13_SameInts_body : Try.f28.body = some code_sutureref13_SameInts := by kernel_rfl
theorem code_sutureref13_SameInts_ok : CodeOk Try.prog code_sutureref13_SameInts := (sound 28 _ _ code_sutureref13_SameInts_fn code_sutureref13_SameInts_body).1
noncomputable def code_l_sutureref13_SameInts_4 : Code := (loopsOf code_sutureref13_SameInts).getD 0 .skip
theorem code_l_sutureref13_SameInts_4_ok : CodeOk Try.prog code_l_sutureref13_SameInts_4 := codeOk_loops code_sutureref13_SameInts_ok _ (getD_mem (by kernel_rfl))
def l_sutureref13_SameInts_4_K (k : (List T) × (List T) × Int → Option (((Bool) ⊕ Unit))) : Ex → SEnv → Sig → Option (((Bool) ⊕ Unit)) := fun x E sg => match x with
  | .normal => Option.bind (V.lstOf (SEnv.at E 0)) fun u0 => Option.bind (V.lstOf (SEnv.at E 1)) fun u1 => Option.bind (V.intOf .i64 (SEnv.at E 5)) fun u2 => k (u0, u1, u2)
  | .ret => Option.bind (V.boolOf (SEnv.at E 4)) fun u0 => some (Sum.inl u0)
  | (.exit 0) => some (Sum.inr ())
  | _ => none
theorem l_sutureref13_SameInts_4_eq (n : Nat) (k : (List T) × (List T) × Int → Option (((Bool) ⊕ Unit))) (s0 : List T) (s1 : List T) (s2 : Int) : mX Try.prog (sp_sutureref13_SameInts n) 26 code_l_sutureref13_SameInts_4 [(0, (V.t (T.list s0))), (1, (V.t (T.list s1))), (5, (V.t (T.sc (.int .i64 s2))))] [] (l_sutureref13_SameInts_4_K k) = l_sutureref13_SameInts_4_B n k (s0, s1, s2) := by kernel_rfl
def l_sutureref13_SameInts_4_Q (x : ((Bool) ⊕ Unit)) (ex : Ex) (e : Env) (s : Sig) : Prop := Sum.elim (fun p0 => (ex = .ret ∧ e = SEnv.env 26 [(4, (V.t (T.sc (.bool p0))))] ∧ s = [])) (fun x' => (fun p1 => (ex = (.exit 0) ∧ e = SEnv.env 26 [] ∧ s = [])) x') x
theorem l_sutureref13_SameInts_4_run (n : Nat) : ∀ (m : Nat) (s0 : List T) (s1 : List T) (s2 : Int) (x : ((Bool) ⊕ Unit)), l_sutureref13_SameInts_4 n m (s0, s1, s2) = some x → SemL Try.prog 0 code_l_sutureref13_SameInts_4 (SEnv.env 26 [(0, (V.t (T.list s0))), (1, (V.t (T.list s1))), (5, (V.t (T.sc (.int .i64 s2))))]) [] (l_sutureref13_SameInts_4_Q x)
  | 0, s0, s1, s2, x, h => by cases h
  | m + 1, s0, s1, s2, x, h => by
    refine loop_step (sp_sutureref13_SameInts_ok n) code_l_sutureref13_SameInts_4_ok (fun a ha => absurd ha (by rw [show loopsOf code_l_sutureref13_SameInts_4 = [] from by kernel_rfl]; simp)) ((l_sutureref13_SameInts_4_eq n _ s0 s1 s2).trans h) (fun E sg h => ?_) (fun ex E sg hne h => ?_)
    · simp only [l_sutureref13_SameInts_4_K] at h
      obtain ⟨u0, hu0, h⟩ := Option.bind_eq_some_iff.1 h
      obtain ⟨u1, hu1, h⟩ := Option.bind_eq_some_iff.1 h
      obtain ⟨u2, hu2, h⟩ := Option.bind_eq_some_iff.1 h
      exact SemL.pre (k := 0) (by decide) (WkA.env (WkA.cons (lstOf_wk hu0) rfl (WkA.cons (lstOf_wk hu1) rfl (WkA.cons (intOf_wk hu2) rfl WkA.nil))) 26) (WkS.none _) (l_sutureref13_SameInts_4_run n m _ _ _ x h)
    · unfold l_sutureref13_SameInts_4_K at h
      split at h
      · exact absurd rfl hne
      · obtain ⟨u0, hu0, h⟩ := Option.bind_eq_some_iff.1 h
        simp only [Option.some.injEq] at h
        subst h
        exact ⟨0, _, _, by decide, WkA.env (WkA.cons (boolOf_wk hu0) rfl WkA.nil) 26, (WkS.none _), rfl, rfl, rfl⟩
      · simp only [Option.some.injEq] at h
        subst h
        exact ⟨0, _, _, by decide, WkA.env WkA.nil 26, (WkS.none _), rfl, rfl, rfl⟩
      · cases h
theorem l_sutureref13_SameInts_4_ok (n : Nat) : LoopOk Try.prog (sp_sutureref13_SameInts n) 0 26 code_l_sutureref13_SameInts_4 := by
    intro R key E sg K r hk h
    rw [show Go.Eng.keyOf code_l_sutureref13_SameInts_4 = some 4 from by kernel_rfl] at hk
    cases hk
    have h : l_sutureref13_SameInts_4_S n R E sg K = some r := h
    unfold l_sutureref13_SameInts_4_S at h
    obtain ⟨u0, hu0, h⟩ := Option.bind_eq_some_iff.1 h
    obtain ⟨u1, hu1, h⟩ := Option.bind_eq_some_iff.1 h
    obtain ⟨u2, hu2, h⟩ := Option.bind_eq_some_iff.1 h
    obtain ⟨x, hx, h⟩ := Option.bind_eq_some_iff.1 h
    refine (SemL.pre (k := 0) (by decide) (WkA.env (WkA.cons (lstOf_wk hu0) rfl (WkA.cons (lstOf_wk hu1) rfl (WkA.cons (intOf_wk hu2) rfl WkA.nil))) 26) (WkS.none _) (l_sutureref13_SameInts_4_run n n _ _ _ x hx)).mono ?_
    intro ex e s hq
    rcases x with x | x <;> (obtain ⟨rfl, rfl, rfl⟩ := hq; exact ⟨_, rfl, h⟩) -- 5
def K_sutureref13_SameInts (v : V) (s : Sig) : Option (Bool) := Option.bind (V.boolOf v) fun u0 => some u0
theorem K_sutureref13_SameInts_wk {v : V} {s : Sig} {r : Bool} (h : K_sutureref13_SameInts v s = some r) : Wk v (enc_sutureref13_SameInts r) ∧ WkS 0 s (encS_sutureref13_SameInts r) := by
  unfold K_sutureref13_SameInts at h
  obtain ⟨u0, hu0, h⟩ := Option.bind_eq_some_iff.1 h
  simp only [Option.some.injEq] at h
  subst h
  exact ⟨(boolOf_wk hu0), (WkS.none _)⟩
theorem m_sutureref13_SameInts_eq (n : Nat) (a0 : List T) (a1 : List T) : mF Try.prog (sp_sutureref13_SameInts n) 28 [(V.t (T.list a0)), (V.t (T.list a1))] [] K_sutureref13_SameInts = m_sutureref13_SameInts n a0 a1 := by kernel_rfl
theorem m_sutureref13_SameInts_ok (n : Nat) : ok_sutureref13_SameInts (m_sutureref13_SameInts n) := fun a0 a1 r h => mF_ok sound (sp_sutureref13_SameInts_ok n) code_sutureref13_SameInts_fn code_sutureref13_SameInts_body (forall_getD (d := .skip) 1 (by kernel_rfl) (fun i hi => match i, hi with | 0, _ => l_sutureref13_SameInts_4_ok n | i + 1, hi => absurd hi (by omega))) ((m_sutureref13_SameInts_eq n a0 a1).trans h) (fun v s hk => ⟨(K_sutureref13_SameInts_wk hk).1, rfl, (K_sutureref13_SameInts_wk hk).2⟩)


/-! suture/sutureref13.SameOutcome -/
def m_sutureref13_SameOutcome (n : Nat) (a0 : List T) (a1 : List T) (a2 : Bool) (a3 : List T) (a4 : List T) (a5 : Bool) : Option (Bool) :=
Option.bind (m_sutureref13_SameInts n a0 a3) fun r0 =>
Option.bind (bif r0 then m_sutureref13_SameInts n a1 a4 else some false) fun r1 =>
some (bif (bif r0 then r1 else false) then (a2 == a5) else false)
def enc_sutureref13_SameOutcome (r : Bool) : V := (V.t (T.sc (.bool r)))
def encS_sutureref13_SameOutcome (r : Bool) : Sig := []
def ok_sutureref13_SameOutcome (m : List T → List T → Bool → List T → List T → Bool → Option (Bool)) : Prop := ∀ (a0 : List T) (a1 : List T) (a2 : Bool) (a3 : List T) (a4 : List T) (a5 : Bool) (r : Bool), m a0 a1 a2 a3 a4 a5 = some r → FuncOk Try.prog 22 [(V.agg [(V.t (T.list a0)), (V.t (T.list a1)), (V.t (T.sc (.bool a2)))]), (V.agg [(V.t (T.list a3)), (V.t (T.list a4)), (V.t (T.sc (.bool a5)))])] [] (enc_sutureref13_SameOutcome r) (encS_sutureref13_SameOutcome r)
def c_sutureref13_SameOutcome (m : List T → List T → Bool → List T → List T → Bool → Option (Bool)) (vs : List V) (sg : Sig) : Option CallM := bif Nat.beq vs.length 2 && Nat.beq sg.length 0 then Option.bind (V.aggN 3 (vs.getD 0 .any)) fun u0 => Option.bind (V.lstOf (u0.getD 0 .any)) fun u1 => Option.bind (V.lstOf (u0.getD 1 .any)) fun u2 => Option.bind (V.boolOf (u0.getD 2 .any)) fun u3 => Option.bind (V.aggN 3 (vs.getD 1 .any)) fun u4 => Option.bind (V.lstOf (u4.getD 0 .any)) fun u5 => Option.bind (V.lstOf (u4.getD 1 .any)) fun u6 => Option.bind (V.boolOf (u4.getD 2 .any)) fun u7 => some { α := Bool, m := m u1 u2 u3 u5 u6 u7, dflt := false, enc := fun y => ((V.t (T.sc (.bool y))), []) } else none
theorem c_sutureref13_SameOutcome_ok (m : List T → List T → Bool → List T → List T → Bool → Option (Bool)) (hm : ok_sutureref13_SameOutcome m) (vs : List V) (sg : Sig) (cm : CallM) (x : cm.α) (h : c_sutureref13_SameOutcome m vs sg = some cm) (hx : cm.m = some x) : FuncOk Try.prog 22 vs sg (cm.enc x).1 (cm.enc x).2 := by
  unfold c_sutureref13_SameOutcome at h
  have h0 := callee_sig h
  clear h
  obtain ⟨hl, hs, h⟩ := h0
  obtain ⟨u0, hu0, h⟩ := Option.bind_eq_some_iff.1 h
  obtain ⟨u1, hu1, h⟩ := Option.bind_eq_some_iff.1 h
  obtain ⟨u2, hu2, h⟩ := Option.bind_eq_some_iff.1 h
  obtain ⟨u3, hu3, h⟩ := Option.bind_eq_some_iff.1 h
  obtain ⟨u4, hu4, h⟩ := Option.bind_eq_some_iff.1 h
  obtain ⟨u5, hu5, h⟩ := Option.bind_eq_some_iff.1 h
  obtain ⟨u6, hu6, h⟩ := Option.bind_eq_some_iff.1 h
  obtain ⟨u7, hu7, h⟩ := Option.bind_eq_some_iff.1 h
  simp only [Option.some.injEq] at h
  subst h
  exact (hm u1 u2 u3 u5 u6 u7 x hx).wk (args_wk hl (.cons (aggN_wk hu0 (.cons (lstOf_wk hu1) (.cons (lstOf_wk hu2) (.cons (boolOf_wk hu3) .nil)))) (.cons (aggN_wk hu4 (.cons (lstOf_wk hu5) (.cons (lstOf_wk hu6) (.cons (boolOf_wk hu7) .nil)))) .nil))) (wkSg_of hs .nil)
noncomputable def code_sutureref13_SameOutcome : Code := Try.f22.body.getD .skip
noncomputable def sp_sutureref13_SameOutcome (n : Nat) : Go.Eng.Spec := ⟨fun f vs sg => (match f with
    | 28 => c_sutureref13_SameInts (m_sutureref13_SameInts n) vs sg
    | _ => none), fun R key E sg K => (match key with
    | _ => none)⟩
theorem sp_sutureref13_SameOutcome_ok (n : Nat) : CallsOk Try.prog (sp_sutureref13_SameOutcome n) := by
  intro f vs sg cm x h hx
  simp only [sp_sutureref13_SameOutcome] at h
  split at h
  · exact c_sutureref13_SameInts_ok _ (m_sutureref13_SameInts_ok n) vs sg cm x h hx
  · cases h
theorem code_sutureref13_SameOutcome_fn : Try.prog.funcs[22]? = some Try.f22 := Try.func22
theorem code_sutureref13_SameOutcome_body : Try.f22.body = some code_sutureref13_SameOutcome := by kernel_rfl
theorem code_sutureref13_SameOutcome_ok : CodeOk Try.prog code_sutureref13_SameOutcome := (sound 22 _ _ code_sutureref13_SameOutcome_fn code_sutureref13_SameOutcome_body).1
def K_sutureref13_SameOutcome (v : V) (s : Sig) : Option (Bool) := Option.bind (V.boolOf v) fun u0 => some u0
theorem K_sutureref13_SameOutcome_wk {v : V} {s : Sig} {r : Bool} (h : K_sutureref13_SameOutcome v s = some r) : Wk v (enc_sutureref13_SameOutcome r) ∧ WkS 0 s (encS_sutureref13_SameOutcome r) := by
  unfold K_sutureref13_SameOutcome at h
  obtain ⟨u0, hu0, h⟩ := Option.bind_eq_some_iff.1 h
  simp only [Option.some.injEq] at h
  subst h
  exact ⟨(boolOf_wk hu0), (WkS.none _)⟩
theorem m_sutureref13_SameOutcome_eq (n : Nat) (a0 : List T) (a1 : List T) (a2 : Bool) (a3 : List T) (a4 : List T) (a5 : Bool) : mF Try.prog (sp_sutureref13_SameOutcome n) 22 [(V.agg [(V.t (T.list a0)), (V.t (T.list a1)), (V.t (T.sc (.bool a2)))]), (V.agg [(V.t (T.list a3)), (V.t (T.list a4)), (V.t (T.sc (.bool a5)))])] [] K_sutureref13_SameOutcome = m_sutureref13_SameOutcome n a0 a1 a2 a3 a4 a5 := by kernel_rfl
theorem m_sutureref13_SameOutcome_ok (n : Nat) : ok_sutureref13_SameOutcome (m_sutureref13_SameOutcome n) := fun a0 a1 a2 a3 a4 a5 r h => mF_ok sound (sp_sutureref13_SameOutcome_ok n) code_sutureref13_SameOutcome_fn code_sutureref13_SameOutcome_body (fun a ha => absurd ha (by rw [show loopsOf code_sutureref13_SameOutcome = [] from by kernel_rfl]; simp)) ((m_sutureref13_SameOutcome_eq n a0 a1 a2 a3 a4 a5).trans h) (fun v s hk => ⟨(K_sutureref13_SameOutcome_wk hk).1, rfl, (K_sutureref13_SameOutcome_wk hk).2⟩)


/-! suture/sutureref22.Within -/
def l_sutureref22_Within_6_B (n : Nat) (k : (List T) × (List T) × Int × Bool × Int → Option ((List T) × (List T) × Int × Bool)) : (List T) × (List T) × Int × Bool × Int → Option ((List T) × (List T) × Int × Bool) := fun (s0, s1, s2, s3, s4) =>
bif (decide ((s4 : Int) < ((List.length s1 : Nat) : Int))) then (
Option.bind (idx (!s3) [.list, .list, .bool] s0 s2) fun y0 =>
Option.bind (idx (!s3) [.list, .list, .bool] s1 s4) fun y1 =>
Option.bind (bif !s3 then m_sutureref13_SameOutcome n (y0.cell 0).lst (y0.cell 1).lst (y0.cell 2).bool (y1.cell 0).lst (y1.cell 1).lst (y1.cell 2).bool else some false) fun r2 =>
k (s0, s1, s2, (bif s3 then true else r2), (IntKind.wrap .i64 (s4 + 1))))
else (
some (s0, s1, s2, s3))
def l_sutureref22_Within_6 (n : Nat) : Nat → (List T) × (List T) × Int × Bool × Int → Option ((List T) × (List T) × Int × Bool)
  | 0, _ => none
  | m + 1, s => l_sutureref22_Within_6_B n (l_sutureref22_Within_6 n m) s
def l_sutureref22_Within_2_B (n : Nat) (k : (List T) × (List T) × Int → Option (((Bool) ⊕ Unit))) : (List T) × (List T) × Int → Option (((Bool) ⊕ Unit)) := fun (s0, s1, s2) =>
bif (decide ((s2 : Int) < ((List.length s0 : Nat) : Int))) then (
Option.bind (l_sutureref22_Within_6 n n (s0, s1, s2, false, 0)) fun p4 =>
bif (!p4.2.2.2) then (
some (Sum.inl false))
else (
k (p4.1, p4.2.1, (IntKind.wrap .i64 (p4.2.2.1 + 1)))))
else (
some (Sum.inr ()))
def l_sutureref22_Within_2 (n : Nat) : Nat → (List T) × (List T) × Int → Option (((Bool) ⊕ Unit))
  | 0, _ => none
  | m + 1, s => l_sutureref22_Within_2_B n (l_sutureref22_Within_2 n m) s
def m_sutureref22_Within (n : Nat) (a0 : List T) (a1 : List T) : Option (Bool) :=
Option.bind (l_sutureref22_Within_2 n n (a0, a1, 0)) fun x5 =>
Sum.elim (fun p6 => 
some p6) (fun x5' => (fun p7 => 
some true) x5') x5
def enc_sutureref22_Within (r : Bool) : V := (V.t (T.sc (.bool r)))
def encS_sutureref22_Within (r : Bool) : Sig := []
def ok_sutureref22_Within (m : List T → List T → Option (Bool)) : Prop := ∀ (a0 : List T) (a1 : List T) (r : Bool), m a0 a1 = some r → FuncOk Try.prog 12 [(V.t (T.list a0)), (V.t (T.list a1))] [] (enc_sutureref22_Within r) (encS_sutureref22_Within r)
def c_sutureref22_Within (m : List T → List T → Option (Bool)) (vs : List V) (sg : Sig) : Option CallM := bif Nat.beq vs.length 2 && Nat.beq sg.length 0 then Option.bind (V.lstOf (vs.getD 0 .any)) fun u0 => Option.bind (V.lstOf (vs.getD 1 .any)) fun u1 => some { α := Bool, m := m u0 u1, dflt := false, enc := fun y => ((V.t (T.sc (.bool y))), []) } else none
theorem c_sutureref22_Within_ok (m : List T → List T → Option (Bool)) (hm : ok_sutureref22_Within m) (vs : List V) (sg : Sig) (cm : CallM) (x : cm.α) (h : c_sutureref22_Within m vs sg = some cm) (hx : cm.m = some x) : FuncOk Try.prog 12 vs sg (cm.enc x).1 (cm.enc x).2 := by
  unfold c_sutureref22_Within at h
  have h0 := callee_sig h
  clear h
  obtain ⟨hl, hs, h⟩ := h0
  obtain ⟨u0, hu0, h⟩ := Option.bind_eq_some_iff.1 h
  obtain ⟨u1, hu1, h⟩ := Option.bind_eq_some_iff.1 h
  simp only [Option.some.injEq] at h
  subst h
  exact (hm u0 u1 x hx).wk (args_wk hl (.cons (lstOf_wk hu0) (.cons (lstOf_wk hu1) .nil))) (wkSg_of hs .nil)
noncomputable def code_sutureref22_Within : Code := Try.f12.body.getD .skip
def l_sutureref22_Within_6_S (n : Nat) (R : Type) (E : SEnv) (sg : Sig) (K : Ex → SEnv → Sig → Option R) : Option R := Option.bind (V.lstOf (SEnv.at E 0)) fun u0 => Option.bind (V.lstOf (SEnv.at E 1)) fun u1 => Option.bind (V.intOf .i64 (SEnv.at E 5)) fun u2 => Option.bind (V.boolOf (SEnv.at E 6)) fun u3 => Option.bind (V.intOf .i64 (SEnv.at E 7)) fun u4 => Option.bind (l_sutureref22_Within_6 n n (u0, u1, u2, u3, u4)) fun p0 => K (.exit 2) [(0, (V.t (T.list p0.1))), (1, (V.t (T.list p0.2.1))), (5, (V.t (T.sc (.int .i64 p0.2.2.1)))), (6, (V.t (T.sc (.bool p0.2.2.2))))] []
def l_sutureref22_Within_2_S (n : Nat) (R : Type) (E : SEnv) (sg : Sig) (K : Ex → SEnv → Sig → Option R) : Option R := Option.bind (V.lstOf (SEnv.at E 0)) fun u0 => Option.bind (V.lstOf (SEnv.at E 1)) fun u1 => Option.bind (V.intOf .i64 (SEnv.at E 5)) fun u2 => Option.bind (l_sutureref22_Within_2 n n (u0, u1, u2)) fun y => Sum.elim (fun p0 => K .ret [(4, (V.t (T.sc (.bool p0))))] []) (fun y' => (fun p1 => K (.exit 0) [] []) y') y
noncomputable def sp_sutureref22_Within (n : Nat) : Go.Eng.Spec := ⟨fun f vs sg => (match f with
    | 22 => c_sutureref13_SameOutcome (m_sutureref13_SameOutcome n) vs sg
    | _ => none), fun R key E sg K => (match key with
    | 6 => l_sutureref22_Within_6_S n R E sg K
    | 2 => l_sutureref22_Within_2_S n R E sg K
    | _ => none)⟩
theorem sp_sutureref22_Within_ok (n : Nat) : CallsOk Try.prog (sp_sutureref22_Within n) := by
  intro f vs sg cm x h hx
  simp only [sp_sutureref22_Within] at h
  split at h
  · exact c_sutureref13_SameOutcome_ok _ (m_sutureref13_SameOutcome_ok n) vs sg cm x h hx
  · cases h
theorem code_sutureref22_Within_fn : Try.prog.funcs[12]? = some Try.f12 := Try.func12
theorem code_sutureref22_Within_body : Try.f12.body = some code_sutureref22_Within := by kernel_rfl
theorem code_sutureref22_Within_ok : CodeOk Try.prog code_sutureref22_Within := (sound 12 _ _ code_sutureref22_Within_fn code_sutureref22_Within_body).1
noncomputable def code_l_sutureref22_Within_6 : Code := (loopsOf code_sutureref22_Within).getD 1 .skip
theorem code_l_sutureref22_Within_6_ok : CodeOk Try.prog code_l_sutureref22_Within_6 := codeOk_loops code_sutureref22_Within_ok _ (getD_mem (by kernel_rfl))
def l_sutureref22_Within_6_K (k : (List T) × (List T) × Int × Bool × Int → Option ((List T) × (List T) × Int × Bool)) : Ex → SEnv → Sig → Option ((List T) × (List T) × Int × Bool) := fun x E sg => match x with
  | .normal => Option.bind (V.lstOf (SEnv.at E 0)) fun u0 => Option.bind (V.lstOf (SEnv.at E 1)) fun u1 => Option.bind (V.intOf .i64 (SEnv.at E 5)) fun u2 => Option.bind (V.boolOf (SEnv.at E 6)) fun u3 => Option.bind (V.intOf .i64 (SEnv.at E 7)) fun u4 => k (u0, u1, u2, u3, u4)
  | (.exit 2) => Option.bind (V.lstOf (SEnv.at E 0)) fun u0 => Option.bind (V.lstOf (SEnv.at E 1)) fun u1 => Option.bind (V.intOf .i64 (SEnv.at E 5)) fun u2 => Option.bind (V.boolOf (SEnv.at E 6)) fun u3 => some (u0, u1, u2, u3)
  | _ => none
theorem l_sutureref22_Within_6_eq (n : Nat) (k : (List T) × (List T) × Int × Bool × Int → Option ((List T) × (List T) × Int × Bool)) (s0 : List T) (s1 : List T) (s2 : Int) (s3 : Bool) (s4 : Int) : mX Try.prog (sp_sutureref22_Within n) 34 code_l_sutureref22_Within_6 [(0, (V.t (T.list s0))), (1, (V.t (T.list s1))), (5, (V.t (T.sc (.int .i64 s2)))), (6, (V.t (T.sc (.bool s3)))), (7, (V.t (T.sc (.int .i64 s4))))] [] (l_sutureref22_Within_6_K k) = l_sutureref22_Within_6_B n k (s0, s1, s2, s3, s4) := by kernel_rfl
def l_sutureref22_Within_6_Q (x : (List T) × (List T) × Int × Bool) (ex : Ex) (e : Env) (s : Sig) : Prop := (fun p0 => (ex = (.exit 2) ∧ e = SEnv.env 34 [(0, (V.t (T.list p0.1))), (1, (V.t (T.list p0.2.1))), (5, (V.t (T.sc (.int .i64 p0.2.2.1)))), (6, (V.t (T.sc (.bool p0.2.2.2))))] ∧ s = [])) x
theorem l_sutureref22_Within_6_run (n : Nat) : ∀ (m : Nat) (s0 : List T) (s1 : List T) (s2 : Int) (s3 : Bool) (s4 : Int) (x : (List T) × (List T) × Int × Bool), l_sutureref22_Within_6 n m (s0, s1, s2, s3, s4) = some x → SemL Try.prog 0 code_l_sutureref22_Within_6 (SEnv.env 34 [(0, (V.t (T.list s0))), (1, (V.t (T.list s1))), (5, (V.t (T.sc (.int .i64 s2)))), (6, (V.t (T.sc (.bool s3)))), (7, (V.t (T.sc (.int .i64 s4))))]) [] (l_sutureref22_Within_6_Q x)
  | 0, s0, s1, s2, s3, s4, x, h => by cases h
  | m + 1, s0, s1, s2, s3, s4, x, h => by
    refine loop_step (sp_sutureref22_Within_ok n) code_l_sutureref22_Within_6_ok (fun a ha => absurd ha (by rw [show loopsOf code_l_sutureref22_Within_6 = [] from by kernel_rfl]; simp)) ((l_sutureref22_Within_6_eq n _ s0 s1 s2 s3 s4).trans h) (fun E sg h => ?_) (fun ex E sg hne h => ?_)
    · simp only [l_sutureref22_Within_6_K] at h
      obtain ⟨u0, hu0, h⟩ := Option.bind_eq_some_iff.1 h
      obtain ⟨u1, hu1, h⟩ := Option.bind_eq_some_iff.1 h
      obtain ⟨u2, hu2, h⟩ := Option.bind_eq_some_iff.1 h
      obtain ⟨u3, hu3, h⟩ := Option.bind_eq_some_iff.1 h
      obtain ⟨u4, hu4, h⟩ := Option.bind_eq_some_iff.1 h
      exact SemL.pre (k := 0) (by decide) (WkA.env (WkA.cons (lstOf_wk hu0) rfl (WkA.cons (lstOf_wk hu1) rfl (WkA.cons (intOf_wk hu2) rfl (WkA.cons (boolOf_wk hu3) rfl (WkA.cons (intOf_wk hu4) rfl WkA.nil))))) 34) (WkS.none _) (l_sutureref22_Within_6_run n m _ _ _ _ _ x h)
    · unfold l_sutureref22_Within_6_K at h
      split at h
      · exact absurd rfl hne
      · obtain ⟨u0, hu0, h⟩ := Option.bind_eq_some_iff.1 h
        obtain ⟨u1, hu1, h⟩ := Option.bind_eq_some_iff.1 h
        obtain ⟨u2, hu2, h⟩ := Option.bind_eq_some_iff.1 h
        obtain ⟨u3, hu3, h⟩ := Option.bind_eq_some_iff.1 h
        simp only [Option.some.injEq] at h
        subst h
        exact ⟨0, _, _, by decide, WkA.env (WkA.cons (lstOf_wk hu0) rfl (WkA.cons (lstOf_wk hu1) rfl (WkA.cons (intOf_wk hu2) rfl (WkA.cons (boolOf_wk hu3) rfl WkA.nil)))) 34, (WkS.none _), rfl, rfl, rfl⟩
      · cases h
theorem l_sutureref22_Within_6_ok (n : Nat) : LoopOk Try.prog (sp_sutureref22_Within n) 0 34 code_l_sutureref22_Within_6 := by
    intro R key E sg K r hk h
    rw [show Go.Eng.keyOf code_l_sutureref22_Within_6 = some 6 from by kernel_rfl] at hk
    cases hk
    have h : l_sutureref22_Within_6_S n R E sg K = some r := h
    unfold l_sutureref22_Within_6_S at h
    obtain ⟨u0, hu0, h⟩ := Option.bind_eq_some_iff.1 h
    obtain ⟨u1, hu1, h⟩ := Option.bind_eq_some_iff.1 h
    obtain ⟨u2, hu2, h⟩ := Option.bind_eq_some_iff.1 h
    obtain ⟨u3, hu3, h⟩ := Option.bind_eq_some_iff.1 h
    obtain ⟨u4, hu4, h⟩ := Option.bind_eq_some_iff.1 h
    obtain ⟨x, hx, h⟩ := Option.bind_eq_some_iff.1 h
    refine (SemL.pre (k := 0) (by decide) (WkA.env (WkA.cons (lstOf_wk hu0) rfl (WkA.cons (lstOf_wk hu1) rfl (WkA.cons (intOf_wk hu2) rfl (WkA.cons (boolOf_wk hu3) rfl (WkA.cons (intOf_wk hu4) rfl WkA.nil))))) 34) (WkS.none _) (l_sutureref22_Within_6_run n n _ _ _ _ _ x hx)).mono ?_
    intro ex e s hq
    obtain ⟨rfl, rfl, rfl⟩ := hq
    exact ⟨_, rfl, h⟩
noncomputable def code_l_sutureref22_Within_2 : Code := (loopsOf code_sutureref22_Within).getD 0 .skip
theorem code_l_sutureref22_Within_2_ok : CodeOk Try.prog code_l_sutureref22_Within_2 := codeOk_loops code_sutureref22_Within_ok _ (getD_mem (by kernel_rfl))
def l_sutureref22_Within_2_K (k : (List T) × (List T) × Int → Option (((Bool) ⊕ Unit))) : Ex → SEnv → Sig → Option (((Bool) ⊕ Unit)) := fun x E sg => match x with
  | .normal => Option.bind (V.lstOf (SEnv.at E 0)) fun u0 => Option.bind (V.lstOf (SEnv.at E 1)) fun u1 => Option.bind (V.intOf .i64 (SEnv.at E 5)) fun u2 => k (u0, u1, u2)
  | .ret => Option.bind (V.boolOf (SEnv.at E 4)) fun u0 => some (Sum.inl u0)
  | (.exit 0) => some (Sum.inr ())
  | _ => none
theorem l_sutureref22_Within_2_eq (n : Nat) (k : (List T) × (List T) × Int → Option (((Bool) ⊕ Unit))) (s0 : List T) (s1 : List T) (s2 : Int) : mX Try.prog (sp_sutureref22_Within n) 34 code_l_sutureref22_Within_2 [(0, (V.t (T.list s0))), (1, (V.t (T.list s1))), (5, (V.t (T.sc (.int .i64 s2))))] [] (l_sutureref22_Within_2_K k) = l_sutureref22_Within_2_B n k (s0, s1, s2) := by kernel_rfl
def l_sutureref22_Within_2_Q (x : ((Bool) ⊕ Unit)) (ex : Ex) (e : Env) (s : Sig) : Prop := Sum.elim (fun p0 => (ex = .ret ∧ e = SEnv.env 34 [(4, (V.t (T.sc (.bool p0))))] ∧ s = [])) (fun x' => (fun p1 => (ex = (.exit 0) ∧ e = SEnv.env 34 [] ∧ s = [])) x') x
theorem l_sutureref22_Within_2_run (n : Nat) : ∀ (m : Nat) (s0 : List T) (s1 : List T) (s2 : Int) (x : ((Bool) ⊕ Unit)), l_sutureref22_Within_2 n m (s0, s1, s2) = some x → SemL Try.prog 0 code_l_sutureref22_Within_2 (SEnv.env 34 [(0, (V.t (T.list s0))), (1, (V.t (T.list s1))), (5, (V.t (T.sc (.int .i64 s2))))]) [] (l_sutureref22_Within_2_Q x)
  | 0, s0, s1, s2, x, h => by cases h
  | m + 1, s0, s1, s2, x, h => by
    refine loop_step (sp_sutureref22_Within_ok n) code_l_sutureref22_Within_2_ok (forall_getD (d := .skip) 1 (by kernel_rfl) (fun i hi => match i, hi with | 0, _ => (show LoopOk Try.prog (sp_sutureref22_Within n) 0 34 ((loopsOf code_l_sutureref22_Within_2).getD 0 .skip) from (show (loopsOf code_l_sutureref22_Within_2).getD 0 .skip = code_l_sutureref22_Within_6 from by kernel_rfl) ▸ l_sutureref22_Within_6_ok n) | i + 1, hi => absurd hi (by omega))) ((l_sutureref22_Within_2_eq n _ s0 s1 s2).trans h) (fun E sg h => ?_) (fun ex E sg hne h => ?_)
    · simp only [l_sutureref22_Within_2_K] at h
      obtain ⟨u0, hu0, h⟩ := Option.bind_eq_some_iff.1 h
      obtain ⟨u1, hu1, h⟩ := Option.bind_eq_some_iff.1 h
      obtain ⟨u2, hu2, h⟩ := Option.bind_eq_some_iff.1 h
      exact SemL.pre (k := 0) (by decide) (WkA.env (WkA.cons (lstOf_wk hu0) rfl (WkA.cons (lstOf_wk hu1) rfl (WkA.cons (intOf_wk hu2) rfl WkA.nil))) 34) (WkS.none _) (l_sutureref22_Within_2_run n m _ _ _ x h)
    · unfold l_sutureref22_Within_2_K at h
      split at h
      · exact absurd rfl hne
      · obtain ⟨u0, hu0, h⟩ := Option.bind_eq_some_iff.1 h
        simp only [Option.some.injEq] at h
        subst h
        exact ⟨0, _, _, by decide, WkA.env (WkA.cons (boolOf_wk hu0) rfl WkA.nil) 34, (WkS.none _), rfl, rfl, rfl⟩
      · simp only [Option.some.injEq] at h
        subst h
        exact ⟨0, _, _, by decide, WkA.env WkA.nil 34, (WkS.none _), rfl, rfl, rfl⟩
      · cases h
theorem l_sutureref22_Within_2_ok (n : Nat) : LoopOk Try.prog (sp_sutureref22_Within n) 0 34 code_l_sutureref22_Within_2 := by
    intro R key E sg K r hk h
    rw [show Go.Eng.keyOf code_l_sutureref22_Within_2 = some 2 from by kernel_rfl] at hk
    cases hk
    have h : l_sutureref22_Within_2_S n R E sg K = some r := h
    unfold l_sutureref22_Within_2_S at h
    obtain ⟨u0, hu0, h⟩ := Option.bind_eq_some_iff.1 h
    obtain ⟨u1, hu1, h⟩ := Option.bind_eq_some_iff.1 h
    obtain ⟨u2, hu2, h⟩ := Option.bind_eq_some_iff.1 h
    obtain ⟨x, hx, h⟩ := Option.bind_eq_some_iff.1 h
    refine (SemL.pre (k := 0) (by decide) (WkA.env (WkA.cons (lstOf_wk hu0) rfl (WkA.cons (lstOf_wk hu1) rfl (WkA.cons (intOf_wk hu2) rfl WkA.nil))) 34) (WkS.none _) (l_sutureref22_Within_2_run n n _ _ _ x hx)).mono ?_
    intro ex e s hq
    rcases x with x | x <;> (obtain ⟨rfl, rfl, rfl⟩ := hq; exact ⟨_, rfl, h⟩) -- 5
def K_sutureref22_Within (v : V) (s : Sig) : Option (Bool) := Option.bind (V.boolOf v) fun u0 => some u0
theorem K_sutureref22_Within_wk {v : V} {s : Sig} {r : Bool} (h : K_sutureref22_Within v s = some r) : Wk v (enc_sutureref22_Within r) ∧ WkS 0 s (encS_sutureref22_Within r) := by
  unfold K_sutureref22_Within at h
  obtain ⟨u0, hu0, h⟩ := Option.bind_eq_some_iff.1 h
  simp only [Option.some.injEq] at h
  subst h
  exact ⟨(boolOf_wk hu0), (WkS.none _)⟩
theorem m_sutureref22_Within_eq (n : Nat) (a0 : List T) (a1 : List T) : mF Try.prog (sp_sutureref22_Within n) 12 [(V.t (T.list a0)), (V.t (T.list a1))] [] K_sutureref22_Within = m_sutureref22_Within n a0 a1 := by kernel_rfl
theorem m_sutureref22_Within_ok (n : Nat) : ok_sutureref22_Within (m_sutureref22_Within n) := fun a0 a1 r h => mF_ok sound (sp_sutureref22_Within_ok n) code_sutureref22_Within_fn code_sutureref22_Within_body (forall_getD (d := .skip) 2 (by kernel_rfl) (fun i hi => match i, hi with | 0, _ => l_sutureref22_Within_2_ok n | 1, _ => l_sutureref22_Within_6_ok n | i + 2, hi => absurd hi (by omega))) ((m_sutureref22_Within_eq n a0 a1).trans h) (fun v s hk => ⟨(K_sutureref22_Within_wk hk).1, rfl, (K_sutureref22_Within_wk hk).2⟩)


/-! suture/sutureref22.hasName -/
def l_sutureref22_hasName_2_B (n : Nat) (k : (List T) × ByteArray × Int → Option (((Bool) ⊕ Unit))) : (List T) × ByteArray × Int → Option (((Bool) ⊕ Unit)) := fun (s0, s1, s2) =>
bif (decide ((s2 : Int) < ((List.length s0 : Nat) : Int))) then (
Option.bind (idx true [.str] s0 s2) fun y0 =>
bif (ByteArray.toList (y0.cell 0).str == ByteArray.toList s1) then (
some (Sum.inl true))
else (
k (s0, s1, (IntKind.wrap .i64 (s2 + 1)))))
else (
some (Sum.inr ()))
def l_sutureref22_hasName_2 (n : Nat) : Nat → (List T) × ByteArray × Int → Option (((Bool) ⊕ Unit))
  | 0, _ => none
  | m + 1, s => l_sutureref22_hasName_2_B n (l_sutureref22_hasName_2 n m) s
def m_sutureref22_hasName (n : Nat) (a0 : List T) (a1 : ByteArray) : Option (Bool) :=
Option.bind (l_sutureref22_hasName_2 n n (a0, a1, 0)) fun x1 =>
Sum.elim (fun p2 => 
some p2) (fun x1' => (fun p3 => 
some false) x1') x1
def enc_sutureref22_hasName (r : Bool) : V := (V.t (T.sc (.bool r)))
def encS_sutureref22_hasName (r : Bool) : Sig := []
def ok_sutureref22_hasName (m : List T → ByteArray → Option (Bool)) : Prop := ∀ (a0 : List T) (a1 : ByteArray) (r : Bool), m a0 a1 = some r → FuncOk Try.prog 27 [(V.t (T.list a0)), (V.t (T.sc (.string a1)))] [] (enc_sutureref22_hasName r) (encS_sutureref22_hasName r)
def c_sutureref22_hasName (m : List T → ByteArray → Option (Bool)) (vs : List V) (sg : Sig) : Option CallM := bif Nat.beq vs.length 2 && Nat.beq sg.length 0 then Option.bind (V.lstOf (vs.getD 0 .any)) fun u0 => Option.bind (V.strOf (vs.getD 1 .any)) fun u1 => some { α := Bool, m := m u0 u1, dflt := false, enc := fun y => ((V.t (T.sc (.bool y))), []) } else none
theorem c_sutureref22_hasName_ok (m : List T → ByteArray → Option (Bool)) (hm : ok_sutureref22_hasName m) (vs : List V) (sg : Sig) (cm : CallM) (x : cm.α) (h : c_sutureref22_hasName m vs sg = some cm) (hx : cm.m = some x) : FuncOk Try.prog 27 vs sg (cm.enc x).1 (cm.enc x).2 := by
  unfold c_sutureref22_hasName at h
  have h0 := callee_sig h
  clear h
  obtain ⟨hl, hs, h⟩ := h0
  obtain ⟨u0, hu0, h⟩ := Option.bind_eq_some_iff.1 h
  obtain ⟨u1, hu1, h⟩ := Option.bind_eq_some_iff.1 h
  simp only [Option.some.injEq] at h
  subst h
  exact (hm u0 u1 x hx).wk (args_wk hl (.cons (lstOf_wk hu0) (.cons (strOf_wk hu1) .nil))) (wkSg_of hs .nil)
noncomputable def code_sutureref22_hasName : Code := Try.f27.body.getD .skip
def l_sutureref22_hasName_2_S (n : Nat) (R : Type) (E : SEnv) (sg : Sig) (K : Ex → SEnv → Sig → Option R) : Option R := Option.bind (V.lstOf (SEnv.at E 0)) fun u0 => Option.bind (V.strOf (SEnv.at E 1)) fun u1 => Option.bind (V.intOf .i64 (SEnv.at E 5)) fun u2 => Option.bind (l_sutureref22_hasName_2 n n (u0, u1, u2)) fun y => Sum.elim (fun p0 => K .ret [(4, (V.t (T.sc (.bool p0))))] []) (fun y' => (fun p1 => K (.exit 0) [] []) y') y
noncomputable def sp_sutureref22_hasName (n : Nat) : Go.Eng.Spec := ⟨fun f vs sg => (match f with
    | _ => none), fun R key E sg K => (match key with
    | 2 => l_sutureref22_hasName_2_S n R E sg K
    | _ => none)⟩
theorem sp_sutureref22_hasName_ok (n : Nat) : CallsOk Try.prog (sp_sutureref22_hasName n) := by
  intro f vs sg cm x h hx
  have h : (none : Option CallM) = some cm := h
  cases h
theorem code_sutureref22_hasName_fn : Try.prog.funcs[27]? = some Try.f27 := Try.func27
theorem code_sutureref22_hasName_body : Try.f27.body = some code_sutureref22_hasName := by kernel_rfl
theorem code_sutureref22_hasName_ok : CodeOk Try.prog code_sutureref22_hasName := (sound 27 _ _ code_sutureref22_hasName_fn code_sutureref22_hasName_body).1
noncomputable def code_l_sutureref22_hasName_2 : Code := (loopsOf code_sutureref22_hasName).getD 0 .skip
theorem code_l_sutureref22_hasName_2_ok : CodeOk Try.prog code_l_sutureref22_hasName_2 := codeOk_loops code_sutureref22_hasName_ok _ (getD_mem (by kernel_rfl))
def l_sutureref22_hasName_2_K (k : (List T) × ByteArray × Int → Option (((Bool) ⊕ Unit))) : Ex → SEnv → Sig → Option (((Bool) ⊕ Unit)) := fun x E sg => match x with
  | .normal => Option.bind (V.lstOf (SEnv.at E 0)) fun u0 => Option.bind (V.strOf (SEnv.at E 1)) fun u1 => Option.bind (V.intOf .i64 (SEnv.at E 5)) fun u2 => k (u0, u1, u2)
  | .ret => Option.bind (V.boolOf (SEnv.at E 4)) fun u0 => some (Sum.inl u0)
  | (.exit 0) => some (Sum.inr ())
  | _ => none
theorem l_sutureref22_hasName_2_eq (n : Nat) (k : (List T) × ByteArray × Int → Option (((Bool) ⊕ Unit))) (s0 : List T) (s1 : ByteArray) (s2 : Int) : mX Try.prog (sp_sutureref22_hasName n) 18 code_l_sutureref22_hasName_2 [(0, (V.t (T.list s0))), (1, (V.t (T.sc (.string s1)))), (5, (V.t (T.sc (.int .i64 s2))))] [] (l_sutureref22_hasName_2_K k) = l_sutureref22_hasName_2_B n k (s0, s1, s2) := by kernel_rfl
def l_sutureref22_hasName_2_Q (x : ((Bool) ⊕ Unit)) (ex : Ex) (e : Env) (s : Sig) : Prop := Sum.elim (fun p0 => (ex = .ret ∧ e = SEnv.env 18 [(4, (V.t (T.sc (.bool p0))))] ∧ s = [])) (fun x' => (fun p1 => (ex = (.exit 0) ∧ e = SEnv.env 18 [] ∧ s = [])) x') x
theorem l_sutureref22_hasName_2_run (n : Nat) : ∀ (m : Nat) (s0 : List T) (s1 : ByteArray) (s2 : Int) (x : ((Bool) ⊕ Unit)), l_sutureref22_hasName_2 n m (s0, s1, s2) = some x → SemL Try.prog 0 code_l_sutureref22_hasName_2 (SEnv.env 18 [(0, (V.t (T.list s0))), (1, (V.t (T.sc (.string s1)))), (5, (V.t (T.sc (.int .i64 s2))))]) [] (l_sutureref22_hasName_2_Q x)
  | 0, s0, s1, s2, x, h => by cases h
  | m + 1, s0, s1, s2, x, h => by
    refine loop_step (sp_sutureref22_hasName_ok n) code_l_sutureref22_hasName_2_ok (fun a ha => absurd ha (by rw [show loopsOf code_l_sutureref22_hasName_2 = [] from by kernel_rfl]; simp)) ((l_sutureref22_hasName_2_eq n _ s0 s1 s2).trans h) (fun E sg h => ?_) (fun ex E sg hne h => ?_)
    · simp only [l_sutureref22_hasName_2_K] at h
      obtain ⟨u0, hu0, h⟩ := Option.bind_eq_some_iff.1 h
      obtain ⟨u1, hu1, h⟩ := Option.bind_eq_some_iff.1 h
      obtain ⟨u2, hu2, h⟩ := Option.bind_eq_some_iff.1 h
      exact SemL.pre (k := 0) (by decide) (WkA.env (WkA.cons (lstOf_wk hu0) rfl (WkA.cons (strOf_wk hu1) rfl (WkA.cons (intOf_wk hu2) rfl WkA.nil))) 18) (WkS.none _) (l_sutureref22_hasName_2_run n m _ _ _ x h)
    · unfold l_sutureref22_hasName_2_K at h
      split at h
      · exact absurd rfl hne
      · obtain ⟨u0, hu0, h⟩ := Option.bind_eq_some_iff.1 h
        simp only [Option.some.injEq] at h
        subst h
        exact ⟨0, _, _, by decide, WkA.env (WkA.cons (boolOf_wk hu0) rfl WkA.nil) 18, (WkS.none _), rfl, rfl, rfl⟩
      · simp only [Option.some.injEq] at h
        subst h
        exact ⟨0, _, _, by decide, WkA.env WkA.nil 18, (WkS.none _), rfl, rfl, rfl⟩
      · cases h
theorem l_sutureref22_hasName_2_ok (n : Nat) : LoopOk Try.prog (sp_sutureref22_hasName n) 0 18 code_l_sutureref22_hasName_2 := by
    intro R key E sg K r hk h
    rw [show Go.Eng.keyOf code_l_sutureref22_hasName_2 = some 2 from by kernel_rfl] at hk
    cases hk
    have h : l_sutureref22_hasName_2_S n R E sg K = some r := h
    unfold l_sutureref22_hasName_2_S at h
    obtain ⟨u0, hu0, h⟩ := Option.bind_eq_some_iff.1 h
    obtain ⟨u1, hu1, h⟩ := Option.bind_eq_some_iff.1 h
    obtain ⟨u2, hu2, h⟩ := Option.bind_eq_some_iff.1 h
    obtain ⟨x, hx, h⟩ := Option.bind_eq_some_iff.1 h
    refine (SemL.pre (k := 0) (by decide) (WkA.env (WkA.cons (lstOf_wk hu0) rfl (WkA.cons (strOf_wk hu1) rfl (WkA.cons (intOf_wk hu2) rfl WkA.nil))) 18) (WkS.none _) (l_sutureref22_hasName_2_run n n _ _ _ x hx)).mono ?_
    intro ex e s hq
    rcases x with x | x <;> (obtain ⟨rfl, rfl, rfl⟩ := hq; exact ⟨_, rfl, h⟩) -- 5
def K_sutureref22_hasName (v : V) (s : Sig) : Option (Bool) := Option.bind (V.boolOf v) fun u0 => some u0
theorem K_sutureref22_hasName_wk {v : V} {s : Sig} {r : Bool} (h : K_sutureref22_hasName v s = some r) : Wk v (enc_sutureref22_hasName r) ∧ WkS 0 s (encS_sutureref22_hasName r) := by
  unfold K_sutureref22_hasName at h
  obtain ⟨u0, hu0, h⟩ := Option.bind_eq_some_iff.1 h
  simp only [Option.some.injEq] at h
  subst h
  exact ⟨(boolOf_wk hu0), (WkS.none _)⟩
theorem m_sutureref22_hasName_eq (n : Nat) (a0 : List T) (a1 : ByteArray) : mF Try.prog (sp_sutureref22_hasName n) 27 [(V.t (T.list a0)), (V.t (T.sc (.string a1)))] [] K_sutureref22_hasName = m_sutureref22_hasName n a0 a1 := by kernel_rfl
theorem m_sutureref22_hasName_ok (n : Nat) : ok_sutureref22_hasName (m_sutureref22_hasName n) := fun a0 a1 r h => mF_ok sound (sp_sutureref22_hasName_ok n) code_sutureref22_hasName_fn code_sutureref22_hasName_body (forall_getD (d := .skip) 1 (by kernel_rfl) (fun i hi => match i, hi with | 0, _ => l_sutureref22_hasName_2_ok n | i + 1, hi => absurd hi (by omega))) ((m_sutureref22_hasName_eq n a0 a1).trans h) (fun v s hk => ⟨(K_sutureref22_hasName_wk hk).1, rfl, (K_sutureref22_hasName_wk hk).2⟩)


/-! suture/sutureref22.stuckWithin -/
def l_sutureref22_stuckWithin_2_B (n : Nat) (k : (List T) × (List T) × Int → Option (((Bool) ⊕ Unit))) : (List T) × (List T) × Int → Option (((Bool) ⊕ Unit)) := fun (s0, s1, s2) =>
bif (decide ((s2 : Int) < ((List.length s0 : Nat) : Int))) then (
Option.bind (idx true [.str] s0 s2) fun y0 =>
Option.bind (m_sutureref22_hasName n s1 (y0.cell 0).str) fun r1 =>
bif (!r1) then (
some (Sum.inl false))
else (
k (s0, s1, (IntKind.wrap .i64 (s2 + 1)))))
else (
some (Sum.inr ()))
def l_sutureref22_stuckWithin_2 (n : Nat) : Nat → (List T) × (List T) × Int → Option (((Bool) ⊕ Unit))
  | 0, _ => none
  | m + 1, s => l_sutureref22_stuckWithin_2_B n (l_sutureref22_stuckWithin_2 n m) s
def m_sutureref22_stuckWithin (n : Nat) (a0 : List T) (a1 : List T) : Option (Bool) :=
Option.bind (l_sutureref22_stuckWithin_2 n n (a0, a1, 0)) fun x2 =>
Sum.elim (fun p3 => 
some p3) (fun x2' => (fun p4 => 
some true) x2') x2
def enc_sutureref22_stuckWithin (r : Bool) : V := (V.t (T.sc (.bool r)))
def encS_sutureref22_stuckWithin (r : Bool) : Sig := []
def ok_sutureref22_stuckWithin (m : List T → List T → Option (Bool)) : Prop := ∀ (a0 : List T) (a1 : List T) (r : Bool), m a0 a1 = some r → FuncOk Try.prog 21 [(V.t (T.list a0)), (V.t (T.list a1))] [] (enc_sutureref22_stuckWithin r) (encS_sutureref22_stuckWithin r)
def c_sutureref22_stuckWithin (m : List T → List T → Option (Bool)) (vs : List V) (sg : Sig) : Option CallM := bif Nat.beq vs.length 2 && Nat.beq sg.length 0 then Option.bind (V.lstOf (vs.getD 0 .any)) fun u0 => Option.bind (V.lstOf (vs.getD 1 .any)) fun u1 => some { α := Bool, m := m u0 u1, dflt := false, enc := fun y => ((V.t (T.sc (.bool y))), []) } else none
theorem c_sutureref22_stuckWithin_ok (m : List T → List T → Option (Bool)) (hm : ok_sutureref22_stuckWithin m) (vs : List V) (sg : Sig) (cm : CallM) (x : cm.α) (h : c_sutureref22_stuckWithin m vs sg = some cm) (hx : cm.m = some x) : FuncOk Try.prog 21 vs sg (cm.enc x).1 (cm.enc x).2 := by
  unfold c_sutureref22_stuckWithin at h
  have h0 := callee_sig h
  clear h
  obtain ⟨hl, hs, h⟩ := h0
  obtain ⟨u0, hu0, h⟩ := Option.bind_eq_some_iff.1 h
  obtain ⟨u1, hu1, h⟩ := Option.bind_eq_some_iff.1 h
  simp only [Option.some.injEq] at h
  subst h
  exact (hm u0 u1 x hx).wk (args_wk hl (.cons (lstOf_wk hu0) (.cons (lstOf_wk hu1) .nil))) (wkSg_of hs .nil)
noncomputable def code_sutureref22_stuckWithin : Code := Try.f21.body.getD .skip
def l_sutureref22_stuckWithin_2_S (n : Nat) (R : Type) (E : SEnv) (sg : Sig) (K : Ex → SEnv → Sig → Option R) : Option R := Option.bind (V.lstOf (SEnv.at E 0)) fun u0 => Option.bind (V.lstOf (SEnv.at E 1)) fun u1 => Option.bind (V.intOf .i64 (SEnv.at E 5)) fun u2 => Option.bind (l_sutureref22_stuckWithin_2 n n (u0, u1, u2)) fun y => Sum.elim (fun p0 => K .ret [(4, (V.t (T.sc (.bool p0))))] []) (fun y' => (fun p1 => K (.exit 0) [] []) y') y
noncomputable def sp_sutureref22_stuckWithin (n : Nat) : Go.Eng.Spec := ⟨fun f vs sg => (match f with
    | 27 => c_sutureref22_hasName (m_sutureref22_hasName n) vs sg
    | _ => none), fun R key E sg K => (match key with
    | 2 => l_sutureref22_stuckWithin_2_S n R E sg K
    | _ => none)⟩
theorem sp_sutureref22_stuckWithin_ok (n : Nat) : CallsOk Try.prog (sp_sutureref22_stuckWithin n) := by
  intro f vs sg cm x h hx
  simp only [sp_sutureref22_stuckWithin] at h
  split at h
  · exact c_sutureref22_hasName_ok _ (m_sutureref22_hasName_ok n) vs sg cm x h hx
  · cases h
theorem code_sutureref22_stuckWithin_fn : Try.prog.funcs[21]? = some Try.f21 := Try.func21
theorem code_sutureref22_stuckWithin_body : Try.f21.body = some code_sutureref22_stuckWithin := by kernel_rfl
theorem code_sutureref22_stuckWithin_ok : CodeOk Try.prog code_sutureref22_stuckWithin := (sound 21 _ _ code_sutureref22_stuckWithin_fn code_sutureref22_stuckWithin_body).1
noncomputable def code_l_sutureref22_stuckWithin_2 : Code := (loopsOf code_sutureref22_stuckWithin).getD 0 .skip
theorem code_l_sutureref22_stuckWithin_2_ok : CodeOk Try.prog code_l_sutureref22_stuckWithin_2 := codeOk_loops code_sutureref22_stuckWithin_ok _ (getD_mem (by kernel_rfl))
def l_sutureref22_stuckWithin_2_K (k : (List T) × (List T) × Int → Option (((Bool) ⊕ Unit))) : Ex → SEnv → Sig → Option (((Bool) ⊕ Unit)) := fun x E sg => match x with
  | .normal => Option.bind (V.lstOf (SEnv.at E 0)) fun u0 => Option.bind (V.lstOf (SEnv.at E 1)) fun u1 => Option.bind (V.intOf .i64 (SEnv.at E 5)) fun u2 => k (u0, u1, u2)
  | .ret => Option.bind (V.boolOf (SEnv.at E 4)) fun u0 => some (Sum.inl u0)
  | (.exit 0) => some (Sum.inr ())
  | _ => none
theorem l_sutureref22_stuckWithin_2_eq (n : Nat) (k : (List T) × (List T) × Int → Option (((Bool) ⊕ Unit))) (s0 : List T) (s1 : List T) (s2 : Int) : mX Try.prog (sp_sutureref22_stuckWithin n) 19 code_l_sutureref22_stuckWithin_2 [(0, (V.t (T.list s0))), (1, (V.t (T.list s1))), (5, (V.t (T.sc (.int .i64 s2))))] [] (l_sutureref22_stuckWithin_2_K k) = l_sutureref22_stuckWithin_2_B n k (s0, s1, s2) := by kernel_rfl
def l_sutureref22_stuckWithin_2_Q (x : ((Bool) ⊕ Unit)) (ex : Ex) (e : Env) (s : Sig) : Prop := Sum.elim (fun p0 => (ex = .ret ∧ e = SEnv.env 19 [(4, (V.t (T.sc (.bool p0))))] ∧ s = [])) (fun x' => (fun p1 => (ex = (.exit 0) ∧ e = SEnv.env 19 [] ∧ s = [])) x') x
theorem l_sutureref22_stuckWithin_2_run (n : Nat) : ∀ (m : Nat) (s0 : List T) (s1 : List T) (s2 : Int) (x : ((Bool) ⊕ Unit)), l_sutureref22_stuckWithin_2 n m (s0, s1, s2) = some x → SemL Try.prog 0 code_l_sutureref22_stuckWithin_2 (SEnv.env 19 [(0, (V.t (T.list s0))), (1, (V.t (T.list s1))), (5, (V.t (T.sc (.int .i64 s2))))]) [] (l_sutureref22_stuckWithin_2_Q x)
  | 0, s0, s1, s2, x, h => by cases h
  | m + 1, s0, s1, s2, x, h => by
    refine loop_step (sp_sutureref22_stuckWithin_ok n) code_l_sutureref22_stuckWithin_2_ok (fun a ha => absurd ha (by rw [show loopsOf code_l_sutureref22_stuckWithin_2 = [] from by kernel_rfl]; simp)) ((l_sutureref22_stuckWithin_2_eq n _ s0 s1 s2).trans h) (fun E sg h => ?_) (fun ex E sg hne h => ?_)
    · simp only [l_sutureref22_stuckWithin_2_K] at h
      obtain ⟨u0, hu0, h⟩ := Option.bind_eq_some_iff.1 h
      obtain ⟨u1, hu1, h⟩ := Option.bind_eq_some_iff.1 h
      obtain ⟨u2, hu2, h⟩ := Option.bind_eq_some_iff.1 h
      exact SemL.pre (k := 0) (by decide) (WkA.env (WkA.cons (lstOf_wk hu0) rfl (WkA.cons (lstOf_wk hu1) rfl (WkA.cons (intOf_wk hu2) rfl WkA.nil))) 19) (WkS.none _) (l_sutureref22_stuckWithin_2_run n m _ _ _ x h)
    · unfold l_sutureref22_stuckWithin_2_K at h
      split at h
      · exact absurd rfl hne
      · obtain ⟨u0, hu0, h⟩ := Option.bind_eq_some_iff.1 h
        simp only [Option.some.injEq] at h
        subst h
        exact ⟨0, _, _, by decide, WkA.env (WkA.cons (boolOf_wk hu0) rfl WkA.nil) 19, (WkS.none _), rfl, rfl, rfl⟩
      · simp only [Option.some.injEq] at h
        subst h
        exact ⟨0, _, _, by decide, WkA.env WkA.nil 19, (WkS.none _), rfl, rfl, rfl⟩
      · cases h
theorem l_sutureref22_stuckWithin_2_ok (n : Nat) : LoopOk Try.prog (sp_sutureref22_stuckWithin n) 0 19 code_l_sutureref22_stuckWithin_2 := by
    intro R key E sg K r hk h
    rw [show Go.Eng.keyOf code_l_sutureref22_stuckWithin_2 = some 2 from by kernel_rfl] at hk
    cases hk
    have h : l_sutureref22_stuckWithin_2_S n R E sg K = some r := h
    unfold l_sutureref22_stuckWithin_2_S at h
    obtain ⟨u0, hu0, h⟩ := Option.bind_eq_some_iff.1 h
    obtain ⟨u1, hu1, h⟩ := Option.bind_eq_some_iff.1 h
    obtain ⟨u2, hu2, h⟩ := Option.bind_eq_some_iff.1 h
    obtain ⟨x, hx, h⟩ := Option.bind_eq_some_iff.1 h
    refine (SemL.pre (k := 0) (by decide) (WkA.env (WkA.cons (lstOf_wk hu0) rfl (WkA.cons (lstOf_wk hu1) rfl (WkA.cons (intOf_wk hu2) rfl WkA.nil))) 19) (WkS.none _) (l_sutureref22_stuckWithin_2_run n n _ _ _ x hx)).mono ?_
    intro ex e s hq
    rcases x with x | x <;> (obtain ⟨rfl, rfl, rfl⟩ := hq; exact ⟨_, rfl, h⟩) -- 5
def K_sutureref22_stuckWithin (v : V) (s : Sig) : Option (Bool) := Option.bind (V.boolOf v) fun u0 => some u0
theorem K_sutureref22_stuckWithin_wk {v : V} {s : Sig} {r : Bool} (h : K_sutureref22_stuckWithin v s = some r) : Wk v (enc_sutureref22_stuckWithin r) ∧ WkS 0 s (encS_sutureref22_stuckWithin r) := by
  unfold K_sutureref22_stuckWithin at h
  obtain ⟨u0, hu0, h⟩ := Option.bind_eq_some_iff.1 h
  simp only [Option.some.injEq] at h
  subst h
  exact ⟨(boolOf_wk hu0), (WkS.none _)⟩
theorem m_sutureref22_stuckWithin_eq (n : Nat) (a0 : List T) (a1 : List T) : mF Try.prog (sp_sutureref22_stuckWithin n) 21 [(V.t (T.list a0)), (V.t (T.list a1))] [] K_sutureref22_stuckWithin = m_sutureref22_stuckWithin n a0 a1 := by kernel_rfl
theorem m_sutureref22_stuckWithin_ok (n : Nat) : ok_sutureref22_stuckWithin (m_sutureref22_stuckWithin n) := fun a0 a1 r h => mF_ok sound (sp_sutureref22_stuckWithin_ok n) code_sutureref22_stuckWithin_fn code_sutureref22_stuckWithin_body (forall_getD (d := .skip) 1 (by kernel_rfl) (fun i hi => match i, hi with | 0, _ => l_sutureref22_stuckWithin_2_ok n | i + 1, hi => absurd hi (by omega))) ((m_sutureref22_stuckWithin_eq n a0 a1).trans h) (fun v s hk => ⟨(K_sutureref22_stuckWithin_wk hk).1, rfl, (K_sutureref22_stuckWithin_wk hk).2⟩)


/-! suture/sutureref22.Accepts -/
def m_sutureref22_Accepts (n : Nat) (a0 : List T) (a1 : List T) (a2 : List T) (a3 : Int) (a4 : Int) (a5 : List T) (a6 : List T) (a7 : List T) (a8 : Int) (a9 : Int) : Option (Bool) :=
Option.bind (bif ((((List.length a7 : Nat) : Int) : Int) == 0) then m_sutureref22_Within n a5 a0 else some false) fun r0 =>
Option.bind (bif (bif (bif ((((List.length a7 : Nat) : Int) : Int) == 0) then r0 else false) then (bif ((((List.length a0 : Nat) : Int) : Int) == 0) then true else (decide ((((List.length a5 : Nat) : Int) : Int) > 0))) else false) then m_sutureref22_stuckWithin n a6 a1 else some false) fun r1 =>
some (bif (bif (bif ((((List.length a7 : Nat) : Int) : Int) == 0) then r0 else false) then (bif ((((List.length a0 : Nat) : Int) : Int) == 0) then true else (decide ((((List.length a5 : Nat) : Int) : Int) > 0))) else false) then r1 else false)
def enc_sutureref22_Accepts (r : Bool) : V := (V.t (T.sc (.bool r)))
def encS_sutureref22_Accepts (r : Bool) : Sig := []
def ok_sutureref22_Accepts (m : List T → List T → List T → Int → Int → List T → List T → List T → Int → Int → Option (Bool)) : Prop := ∀ (a0 : List T) (a1 : List T) (a2 : List T) (a3 : Int) (a4 : Int) (a5 : List T) (a6 : List T) (a7 : List T) (a8 : Int) (a9 : Int) (r : Bool), m a0 a1 a2 a3 a4 a5 a6 a7 a8 a9 = some r → FuncOk Try.prog 11 [(V.agg [(V.t (T.list a0)), (V.t (T.list a1)), (V.t (T.list a2)), (V.t (T.sc (.int .i64 a3))), (V.t (T.sc (.int .i64 a4)))]), (V.agg [(V.t (T.list a5)), (V.t (T.list a6)), (V.t (T.list a7)), (V.t (T.sc (.int .i64 a8))), (V.t (T.sc (.int .i64 a9)))])] [] (enc_sutureref22_Accepts r) (encS_sutureref22_Accepts r)
def c_sutureref22_Accepts (m : List T → List T → List T → Int → Int → List T → List T → List T → Int → Int → Option (Bool)) (vs : List V) (sg : Sig) : Option CallM := bif Nat.beq vs.length 2 && Nat.beq sg.length 0 then Option.bind (V.aggN 5 (vs.getD 0 .any)) fun u0 => Option.bind (V.lstOf (u0.getD 0 .any)) fun u1 => Option.bind (V.lstOf (u0.getD 1 .any)) fun u2 => Option.bind (V.lstOf (u0.getD 2 .any)) fun u3 => Option.bind (V.intOf .i64 (u0.getD 3 .any)) fun u4 => Option.bind (V.intOf .i64 (u0.getD 4 .any)) fun u5 => Option.bind (V.aggN 5 (vs.getD 1 .any)) fun u6 => Option.bind (V.lstOf (u6.getD 0 .any)) fun u7 => Option.bind (V.lstOf (u6.getD 1 .any)) fun u8 => Option.bind (V.lstOf (u6.getD 2 .any)) fun u9 => Option.bind (V.intOf .i64 (u6.getD 3 .any)) fun u10 => Option.bind (V.intOf .i64 (u6.getD 4 .any)) fun u11 => some { α := Bool, m := m u1 u2 u3 u4 u5 u7 u8 u9 u10 u11, dflt := false, enc := fun y => ((V.t (T.sc (.bool y))), []) } else none
theorem c_sutureref22_Accepts_ok (m : List T → List T → List T → Int → Int → List T → List T → List T → Int → Int → Option (Bool)) (hm : ok_sutureref22_Accepts m) (vs : List V) (sg : Sig) (cm : CallM) (x : cm.α) (h : c_sutureref22_Accepts m vs sg = some cm) (hx : cm.m = some x) : FuncOk Try.prog 11 vs sg (cm.enc x).1 (cm.enc x).2 := by
  unfold c_sutureref22_Accepts at h
  have h0 := callee_sig h
  clear h
  obtain ⟨hl, hs, h⟩ := h0
  obtain ⟨u0, hu0, h⟩ := Option.bind_eq_some_iff.1 h
  obtain ⟨u1, hu1, h⟩ := Option.bind_eq_some_iff.1 h
  obtain ⟨u2, hu2, h⟩ := Option.bind_eq_some_iff.1 h
  obtain ⟨u3, hu3, h⟩ := Option.bind_eq_some_iff.1 h
  obtain ⟨u4, hu4, h⟩ := Option.bind_eq_some_iff.1 h
  obtain ⟨u5, hu5, h⟩ := Option.bind_eq_some_iff.1 h
  obtain ⟨u6, hu6, h⟩ := Option.bind_eq_some_iff.1 h
  obtain ⟨u7, hu7, h⟩ := Option.bind_eq_some_iff.1 h
  obtain ⟨u8, hu8, h⟩ := Option.bind_eq_some_iff.1 h
  obtain ⟨u9, hu9, h⟩ := Option.bind_eq_some_iff.1 h
  obtain ⟨u10, hu10, h⟩ := Option.bind_eq_some_iff.1 h
  obtain ⟨u11, hu11, h⟩ := Option.bind_eq_some_iff.1 h
  simp only [Option.some.injEq] at h
  subst h
  exact (hm u1 u2 u3 u4 u5 u7 u8 u9 u10 u11 x hx).wk (args_wk hl (.cons (aggN_wk hu0 (.cons (lstOf_wk hu1) (.cons (lstOf_wk hu2) (.cons (lstOf_wk hu3) (.cons (intOf_wk hu4) (.cons (intOf_wk hu5) .nil)))))) (.cons (aggN_wk hu6 (.cons (lstOf_wk hu7) (.cons (lstOf_wk hu8) (.cons (lstOf_wk hu9) (.cons (intOf_wk hu10) (.cons (intOf_wk hu11) .nil)))))) .nil))) (wkSg_of hs .nil)
noncomputable def code_sutureref22_Accepts : Code := Try.f11.body.getD .skip
noncomputable def sp_sutureref22_Accepts (n : Nat) : Go.Eng.Spec := ⟨fun f vs sg => (match f with
    | 12 => c_sutureref22_Within (m_sutureref22_Within n) vs sg
    | 21 => c_sutureref22_stuckWithin (m_sutureref22_stuckWithin n) vs sg
    | _ => none), fun R key E sg K => (match key with
    | _ => none)⟩
theorem sp_sutureref22_Accepts_ok (n : Nat) : CallsOk Try.prog (sp_sutureref22_Accepts n) := by
  intro f vs sg cm x h hx
  simp only [sp_sutureref22_Accepts] at h
  split at h
  · exact c_sutureref22_Within_ok _ (m_sutureref22_Within_ok n) vs sg cm x h hx
  · exact c_sutureref22_stuckWithin_ok _ (m_sutureref22_stuckWithin_ok n) vs sg cm x h hx
  · cases h
theorem code_sutureref22_Accepts_fn : Try.prog.funcs[11]? = some Try.f11 := Try.func11
theorem code_sutureref22_Accepts_body : Try.f11.body = some code_sutureref22_Accepts := by kernel_rfl
theorem code_sutureref22_Accepts_ok : CodeOk Try.prog code_sutureref22_Accepts := (sound 11 _ _ code_sutureref22_Accepts_fn code_sutureref22_Accepts_body).1
def K_sutureref22_Accepts (v : V) (s : Sig) : Option (Bool) := Option.bind (V.boolOf v) fun u0 => some u0
theorem K_sutureref22_Accepts_wk {v : V} {s : Sig} {r : Bool} (h : K_sutureref22_Accepts v s = some r) : Wk v (enc_sutureref22_Accepts r) ∧ WkS 0 s (encS_sutureref22_Accepts r) := by
  unfold K_sutureref22_Accepts at h
  obtain ⟨u0, hu0, h⟩ := Option.bind_eq_some_iff.1 h
  simp only [Option.some.injEq] at h
  subst h
  exact ⟨(boolOf_wk hu0), (WkS.none _)⟩
theorem m_sutureref22_Accepts_eq (n : Nat) (a0 : List T) (a1 : List T) (a2 : List T) (a3 : Int) (a4 : Int) (a5 : List T) (a6 : List T) (a7 : List T) (a8 : Int) (a9 : Int) : mF Try.prog (sp_sutureref22_Accepts n) 11 [(V.agg [(V.t (T.list a0)), (V.t (T.list a1)), (V.t (T.list a2)), (V.t (T.sc (.int .i64 a3))), (V.t (T.sc (.int .i64 a4)))]), (V.agg [(V.t (T.list a5)), (V.t (T.list a6)), (V.t (T.list a7)), (V.t (T.sc (.int .i64 a8))), (V.t (T.sc (.int .i64 a9)))])] [] K_sutureref22_Accepts = m_sutureref22_Accepts n a0 a1 a2 a3 a4 a5 a6 a7 a8 a9 := by kernel_rfl
theorem m_sutureref22_Accepts_ok (n : Nat) : ok_sutureref22_Accepts (m_sutureref22_Accepts n) := fun a0 a1 a2 a3 a4 a5 a6 a7 a8 a9 r h => mF_ok sound (sp_sutureref22_Accepts_ok n) code_sutureref22_Accepts_fn code_sutureref22_Accepts_body (fun a ha => absurd ha (by rw [show loopsOf code_sutureref22_Accepts = [] from by kernel_rfl]; simp)) ((m_sutureref22_Accepts_eq n a0 a1 a2 a3 a4 a5 a6 a7 a8 a9).trans h) (fun v s hk => ⟨(K_sutureref22_Accepts_wk hk).1, rfl, (K_sutureref22_Accepts_wk hk).2⟩)


/-! suture/suturelaw28.JudgeTells -/
def m_suturelaw28_JudgeTells (n : Nat) (a0 : List T) (a1 : List T) (a2 : List T) (a3 : List T) (a4 : Int) (a5 : Int) : Option (Bool) :=
Option.bind (m_suturelaw28_result n a0 a1 a4) fun r0 =>
Option.bind (m_suturelaw28_result n a2 a3 a5) fun r1 =>
Option.bind (m_suturelaw28_known n) fun r2 =>
Option.bind (bif r2 then m_judge_Accepts n r0.1 r0.2.1 r0.2.2.1 r0.2.2.2.1 r0.2.2.2.2 r1.1 r1.2.1 r1.2.2.1 r1.2.2.2.1 r1.2.2.2.2 else some false) fun r3 =>
Option.bind (bif r2 then m_sutureref22_Accepts n r0.1 r0.2.1 r0.2.2.1 r0.2.2.2.1 r0.2.2.2.2 r1.1 r1.2.1 r1.2.2.1 r1.2.2.2.1 r1.2.2.2.2 else some false) fun r4 =>
Option.bind (bif (bif r2 then (r3 == r4) else false) then m_judge_Within n r1.1 r0.1 else some false) fun r5 =>
Option.bind (bif (bif r2 then (r3 == r4) else false) then m_sutureref22_Within n r1.1 r0.1 else some false) fun r6 =>
some (bif (bif r2 then (r3 == r4) else false) then (r5 == r6) else false)
def enc_suturelaw28_JudgeTells (r : Bool) : V := (V.t (T.sc (.bool r)))
def encS_suturelaw28_JudgeTells (r : Bool) : Sig := []
def ok_suturelaw28_JudgeTells (m : List T → List T → List T → List T → Int → Int → Option (Bool)) : Prop := ∀ (a0 : List T) (a1 : List T) (a2 : List T) (a3 : List T) (a4 : Int) (a5 : Int) (r : Bool), m a0 a1 a2 a3 a4 a5 = some r → FuncOk Try.prog 4 [(V.t (T.list a0)), (V.t (T.list a1)), (V.t (T.list a2)), (V.t (T.list a3)), (V.t (T.sc (.int .i64 a4))), (V.t (T.sc (.int .i64 a5)))] [] (enc_suturelaw28_JudgeTells r) (encS_suturelaw28_JudgeTells r)
def c_suturelaw28_JudgeTells (m : List T → List T → List T → List T → Int → Int → Option (Bool)) (vs : List V) (sg : Sig) : Option CallM := bif Nat.beq vs.length 6 && Nat.beq sg.length 0 then Option.bind (V.lstOf (vs.getD 0 .any)) fun u0 => Option.bind (V.lstOf (vs.getD 1 .any)) fun u1 => Option.bind (V.lstOf (vs.getD 2 .any)) fun u2 => Option.bind (V.lstOf (vs.getD 3 .any)) fun u3 => Option.bind (V.intOf .i64 (vs.getD 4 .any)) fun u4 => Option.bind (V.intOf .i64 (vs.getD 5 .any)) fun u5 => some { α := Bool, m := m u0 u1 u2 u3 u4 u5, dflt := false, enc := fun y => ((V.t (T.sc (.bool y))), []) } else none
theorem c_suturelaw28_JudgeTells_ok (m : List T → List T → List T → List T → Int → Int → Option (Bool)) (hm : ok_suturelaw28_JudgeTells m) (vs : List V) (sg : Sig) (cm : CallM) (x : cm.α) (h : c_suturelaw28_JudgeTells m vs sg = some cm) (hx : cm.m = some x) : FuncOk Try.prog 4 vs sg (cm.enc x).1 (cm.enc x).2 := by
  unfold c_suturelaw28_JudgeTells at h
  have h0 := callee_sig h
  clear h
  obtain ⟨hl, hs, h⟩ := h0
  obtain ⟨u0, hu0, h⟩ := Option.bind_eq_some_iff.1 h
  obtain ⟨u1, hu1, h⟩ := Option.bind_eq_some_iff.1 h
  obtain ⟨u2, hu2, h⟩ := Option.bind_eq_some_iff.1 h
  obtain ⟨u3, hu3, h⟩ := Option.bind_eq_some_iff.1 h
  obtain ⟨u4, hu4, h⟩ := Option.bind_eq_some_iff.1 h
  obtain ⟨u5, hu5, h⟩ := Option.bind_eq_some_iff.1 h
  simp only [Option.some.injEq] at h
  subst h
  exact (hm u0 u1 u2 u3 u4 u5 x hx).wk (args_wk hl (.cons (lstOf_wk hu0) (.cons (lstOf_wk hu1) (.cons (lstOf_wk hu2) (.cons (lstOf_wk hu3) (.cons (intOf_wk hu4) (.cons (intOf_wk hu5) .nil))))))) (wkSg_of hs .nil)
noncomputable def code_suturelaw28_JudgeTells : Code := Try.f4.body.getD .skip
noncomputable def sp_suturelaw28_JudgeTells (n : Nat) : Go.Eng.Spec := ⟨fun f vs sg => (match f with
    | 10 => c_suturelaw28_result (m_suturelaw28_result n) vs sg
    | 7 => c_suturelaw28_known (m_suturelaw28_known n) vs sg
    | 8 => c_judge_Accepts (m_judge_Accepts n) vs sg
    | 11 => c_sutureref22_Accepts (m_sutureref22_Accepts n) vs sg
    | 9 => c_judge_Within (m_judge_Within n) vs sg
    | 12 => c_sutureref22_Within (m_sutureref22_Within n) vs sg
    | _ => none), fun R key E sg K => (match key with
    | _ => none)⟩
theorem sp_suturelaw28_JudgeTells_ok (n : Nat) : CallsOk Try.prog (sp_suturelaw28_JudgeTells n) := by
  intro f vs sg cm x h hx
  simp only [sp_suturelaw28_JudgeTells] at h
  split at h
  · exact c_suturelaw28_result_ok _ (m_suturelaw28_result_ok n) vs sg cm x h hx
  · exact c_suturelaw28_known_ok _ (m_suturelaw28_known_ok n) vs sg cm x h hx
  · exact c_judge_Accepts_ok _ (m_judge_Accepts_ok n) vs sg cm x h hx
  · exact c_sutureref22_Accepts_ok _ (m_sutureref22_Accepts_ok n) vs sg cm x h hx
  · exact c_judge_Within_ok _ (m_judge_Within_ok n) vs sg cm x h hx
  · exact c_sutureref22_Within_ok _ (m_sutureref22_Within_ok n) vs sg cm x h hx
  · cases h
theorem code_suturelaw28_JudgeTells_fn : Try.prog.funcs[4]? = some Try.f4 := Try.func4
theorem code_suturelaw28_JudgeTells_body : Try.f4.body = some code_suturelaw28_JudgeTells := by kernel_rfl
theorem code_suturelaw28_JudgeTells_ok : CodeOk Try.prog code_suturelaw28_JudgeTells := (sound 4 _ _ code_suturelaw28_JudgeTells_fn code_suturelaw28_JudgeTells_body).1
def K_suturelaw28_JudgeTells (v : V) (s : Sig) : Option (Bool) := Option.bind (V.boolOf v) fun u0 => some u0
theorem K_suturelaw28_JudgeTells_wk {v : V} {s : Sig} {r : Bool} (h : K_suturelaw28_JudgeTells v s = some r) : Wk v (enc_suturelaw28_JudgeTells r) ∧ WkS 0 s (encS_suturelaw28_JudgeTells r) := by
  unfold K_suturelaw28_JudgeTells at h
  obtain ⟨u0, hu0, h⟩ := Option.bind_eq_some_iff.1 h
  simp only [Option.some.injEq] at h
  subst h
  exact ⟨(boolOf_wk hu0), (WkS.none _)⟩
theorem m_suturelaw28_JudgeTells_eq (n : Nat) (a0 : List T) (a1 : List T) (a2 : List T) (a3 : List T) (a4 : Int) (a5 : Int) : mF Try.prog (sp_suturelaw28_JudgeTells n) 4 [(V.t (T.list a0)), (V.t (T.list a1)), (V.t (T.list a2)), (V.t (T.list a3)), (V.t (T.sc (.int .i64 a4))), (V.t (T.sc (.int .i64 a5)))] [] K_suturelaw28_JudgeTells = m_suturelaw28_JudgeTells n a0 a1 a2 a3 a4 a5 := by kernel_rfl
theorem m_suturelaw28_JudgeTells_ok (n : Nat) : ok_suturelaw28_JudgeTells (m_suturelaw28_JudgeTells n) := fun a0 a1 a2 a3 a4 a5 r h => mF_ok sound (sp_suturelaw28_JudgeTells_ok n) code_suturelaw28_JudgeTells_fn code_suturelaw28_JudgeTells_body (fun a ha => absurd ha (by rw [show loopsOf code_suturelaw28_JudgeTells = [] from by kernel_rfl]; simp)) ((m_suturelaw28_JudgeTells_eq n a0 a1 a2 a3 a4 a5).trans h) (fun v s hk => ⟨(K_suturelaw28_JudgeTells_wk hk).1, rfl, (K_suturelaw28_JudgeTells_wk hk).2⟩)


/-! suture/suturelaw28.JudgeSteps -/
def m_suturelaw28_JudgeSteps (n : Nat) (a0 : List T) (a1 : List T) (a2 : List T) (a3 : List T) (a4 : List T) (a5 : List T) (a6 : Int) (a7 : Int) : Option (Bool) :=
Option.bind (m_suturelaw28_result n a0 a1 0) fun r0 =>
Option.bind (m_suturelaw28_result n a2 a3 0) fun r1 =>
Option.bind (m_suturelaw28_result n a4 a5 a6) fun r2 =>
must true ((Nat.beq 3 3 || Nat.beq 3 0) && (decide (List.length ([] : List T) + List.length r0.1 ≤ 1073741824) && sized 3 r0.1)) (must true ((Nat.beq 3 3 || Nat.beq 3 0) && (decide (List.length (([] : List T) ++ r0.1) + List.length r2.1 ≤ 1073741824) && sized 3 r2.1)) (must true ((Nat.beq 1 1 || Nat.beq 1 0) && (decide (List.length ([] : List T) + List.length r0.2.1 ≤ 1073741824) && sized 1 r0.2.1)) (must true ((Nat.beq 1 1 || Nat.beq 1 0) && (decide (List.length (([] : List T) ++ r0.2.1) + List.length r2.2.1 ≤ 1073741824) && sized 1 r2.2.1)) (Option.bind (m_judge_Accepts n r0.1 r0.2.1 r0.2.2.1 r0.2.2.2.1 r0.2.2.2.2 r1.1 r1.2.1 r1.2.2.1 r1.2.2.2.1 r1.2.2.2.2) fun r3 =>
Option.bind (bif r3 then m_judge_Accepts n r1.1 r1.2.1 r1.2.2.1 r1.2.2.2.1 r1.2.2.2.2 r2.1 r2.2.1 r2.2.2.1 r2.2.2.2.1 r2.2.2.2.2 else some false) fun r4 =>
Option.bind (bif (bif r3 then r4 else false) then m_judge_Accepts n r0.1 r0.2.1 r0.2.2.1 r0.2.2.2.1 r0.2.2.2.2 r2.1 r2.2.1 r2.2.2.1 r2.2.2.2.1 r2.2.2.2.2 else some false) fun r5 =>
Option.bind (bif !(bif (bif r3 then r4 else false) then (!r5) else false) then m_judge_Accepts n r0.1 r0.2.1 r0.2.2.1 r0.2.2.2.1 r0.2.2.2.2 r0.1 r0.2.1 r0.2.2.1 r0.2.2.2.1 r0.2.2.2.2 else some false) fun r6 =>
Option.bind (bif (!(bif (bif (bif r3 then r4 else false) then (!r5) else false) then true else (!r6)) && (decide ((((List.length r2.2.2.1 : Nat) : Int) : Int) > 0))) then m_judge_Accepts n r0.1 r0.2.1 r0.2.2.1 r0.2.2.2.1 r0.2.2.2.2 r2.1 r2.2.1 r2.2.2.1 r2.2.2.2.1 r2.2.2.2.2 else some false) fun r7 =>
bif (bif (bif (bif (bif r3 then r4 else false) then (!r5) else false) then true else (!r6)) then true else (bif (decide ((((List.length r2.2.2.1 : Nat) : Int) : Int) > 0)) then r7 else false)) then (
some false)
else (
Option.bind (m_suturelaw28_known n) fun r8 =>
Option.bind (bif r8 then m_judge_Accepts n r0.1 r0.2.1 r0.2.2.1 r0.2.2.2.1 r0.2.2.2.2 r1.1 r1.2.1 r1.2.2.1 r1.2.2.2.1 r1.2.2.2.2 else some false) fun r9 =>
Option.bind (bif (r8 && !(bif (!r9) then true else (bif ((((List.length r0.1 : Nat) : Int) : Int) == 0) then (decide ((((List.length r2.1 : Nat) : Int) : Int) > 0)) else false))) then m_judge_Accepts n ((([] : List T) ++ r0.1) ++ r2.1) ((([] : List T) ++ r0.2.1) ++ r2.2.1) r0.2.2.1 r0.2.2.2.1 r0.2.2.2.2 r1.1 r1.2.1 r1.2.2.1 r1.2.2.2.1 r1.2.2.2.2 else some false) fun r10 =>
some (bif r8 then (bif (bif (!r9) then true else (bif ((((List.length r0.1 : Nat) : Int) : Int) == 0) then (decide ((((List.length r2.1 : Nat) : Int) : Int) > 0)) else false)) then true else r10) else false))))))
def enc_suturelaw28_JudgeSteps (r : Bool) : V := (V.t (T.sc (.bool r)))
def encS_suturelaw28_JudgeSteps (r : Bool) : Sig := []
def ok_suturelaw28_JudgeSteps (m : List T → List T → List T → List T → List T → List T → Int → Int → Option (Bool)) : Prop := ∀ (a0 : List T) (a1 : List T) (a2 : List T) (a3 : List T) (a4 : List T) (a5 : List T) (a6 : Int) (a7 : Int) (r : Bool), m a0 a1 a2 a3 a4 a5 a6 a7 = some r → FuncOk Try.prog 5 [(V.t (T.list a0)), (V.t (T.list a1)), (V.t (T.list a2)), (V.t (T.list a3)), (V.t (T.list a4)), (V.t (T.list a5)), (V.t (T.sc (.int .i64 a6))), (V.t (T.sc (.int .i64 a7)))] [] (enc_suturelaw28_JudgeSteps r) (encS_suturelaw28_JudgeSteps r)
def c_suturelaw28_JudgeSteps (m : List T → List T → List T → List T → List T → List T → Int → Int → Option (Bool)) (vs : List V) (sg : Sig) : Option CallM := bif Nat.beq vs.length 8 && Nat.beq sg.length 0 then Option.bind (V.lstOf (vs.getD 0 .any)) fun u0 => Option.bind (V.lstOf (vs.getD 1 .any)) fun u1 => Option.bind (V.lstOf (vs.getD 2 .any)) fun u2 => Option.bind (V.lstOf (vs.getD 3 .any)) fun u3 => Option.bind (V.lstOf (vs.getD 4 .any)) fun u4 => Option.bind (V.lstOf (vs.getD 5 .any)) fun u5 => Option.bind (V.intOf .i64 (vs.getD 6 .any)) fun u6 => Option.bind (V.intOf .i64 (vs.getD 7 .any)) fun u7 => some { α := Bool, m := m u0 u1 u2 u3 u4 u5 u6 u7, dflt := false, enc := fun y => ((V.t (T.sc (.bool y))), []) } else none
theorem c_suturelaw28_JudgeSteps_ok (m : List T → List T → List T → List T → List T → List T → Int → Int → Option (Bool)) (hm : ok_suturelaw28_JudgeSteps m) (vs : List V) (sg : Sig) (cm : CallM) (x : cm.α) (h : c_suturelaw28_JudgeSteps m vs sg = some cm) (hx : cm.m = some x) : FuncOk Try.prog 5 vs sg (cm.enc x).1 (cm.enc x).2 := by
  unfold c_suturelaw28_JudgeSteps at h
  have h0 := callee_sig h
  clear h
  obtain ⟨hl, hs, h⟩ := h0
  obtain ⟨u0, hu0, h⟩ := Option.bind_eq_some_iff.1 h
  obtain ⟨u1, hu1, h⟩ := Option.bind_eq_some_iff.1 h
  obtain ⟨u2, hu2, h⟩ := Option.bind_eq_some_iff.1 h
  obtain ⟨u3, hu3, h⟩ := Option.bind_eq_some_iff.1 h
  obtain ⟨u4, hu4, h⟩ := Option.bind_eq_some_iff.1 h
  obtain ⟨u5, hu5, h⟩ := Option.bind_eq_some_iff.1 h
  obtain ⟨u6, hu6, h⟩ := Option.bind_eq_some_iff.1 h
  obtain ⟨u7, hu7, h⟩ := Option.bind_eq_some_iff.1 h
  simp only [Option.some.injEq] at h
  subst h
  exact (hm u0 u1 u2 u3 u4 u5 u6 u7 x hx).wk (args_wk hl (.cons (lstOf_wk hu0) (.cons (lstOf_wk hu1) (.cons (lstOf_wk hu2) (.cons (lstOf_wk hu3) (.cons (lstOf_wk hu4) (.cons (lstOf_wk hu5) (.cons (intOf_wk hu6) (.cons (intOf_wk hu7) .nil))))))))) (wkSg_of hs .nil)
noncomputable def code_suturelaw28_JudgeSteps : Code := Try.f5.body.getD .skip
noncomputable def sp_suturelaw28_JudgeSteps (n : Nat) : Go.Eng.Spec := ⟨fun f vs sg => (match f with
    | 10 => c_suturelaw28_result (m_suturelaw28_result n) vs sg
    | 8 => c_judge_Accepts (m_judge_Accepts n) vs sg
    | 7 => c_suturelaw28_known (m_suturelaw28_known n) vs sg
    | _ => none), fun R key E sg K => (match key with
    | _ => none)⟩
theorem sp_suturelaw28_JudgeSteps_ok (n : Nat) : CallsOk Try.prog (sp_suturelaw28_JudgeSteps n) := by
  intro f vs sg cm x h hx
  simp only [sp_suturelaw28_JudgeSteps] at h
  split at h
  · exact c_suturelaw28_result_ok _ (m_suturelaw28_result_ok n) vs sg cm x h hx
  · exact c_judge_Accepts_ok _ (m_judge_Accepts_ok n) vs sg cm x h hx
  · exact c_suturelaw28_known_ok _ (m_suturelaw28_known_ok n) vs sg cm x h hx
  · cases h
theorem code_suturelaw28_JudgeSteps_fn : Try.prog.funcs[5]? = some Try.f5 := Try.func5
theorem code_suturelaw28_JudgeSteps_body : Try.f5.body = some code_suturelaw28_JudgeSteps := by kernel_rfl
theorem code_suturelaw28_JudgeSteps_ok : CodeOk Try.prog code_suturelaw28_JudgeSteps := (sound 5 _ _ code_suturelaw28_JudgeSteps_fn code_suturelaw28_JudgeSteps_body).1
def K_suturelaw28_JudgeSteps (v : V) (s : Sig) : Option (Bool) := Option.bind (V.boolOf v) fun u0 => some u0
theorem K_suturelaw28_JudgeSteps_wk {v : V} {s : Sig} {r : Bool} (h : K_suturelaw28_JudgeSteps v s = some r) : Wk v (enc_suturelaw28_JudgeSteps r) ∧ WkS 0 s (encS_suturelaw28_JudgeSteps r) := by
  unfold K_suturelaw28_JudgeSteps at h
  obtain ⟨u0, hu0, h⟩ := Option.bind_eq_some_iff.1 h
  simp only [Option.some.injEq] at h
  subst h
  exact ⟨(boolOf_wk hu0), (WkS.none _)⟩
theorem m_suturelaw28_JudgeSteps_eq (n : Nat) (a0 : List T) (a1 : List T) (a2 : List T) (a3 : List T) (a4 : List T) (a5 : List T) (a6 : Int) (a7 : Int) : mF Try.prog (sp_suturelaw28_JudgeSteps n) 5 [(V.t (T.list a0)), (V.t (T.list a1)), (V.t (T.list a2)), (V.t (T.list a3)), (V.t (T.list a4)), (V.t (T.list a5)), (V.t (T.sc (.int .i64 a6))), (V.t (T.sc (.int .i64 a7)))] [] K_suturelaw28_JudgeSteps = m_suturelaw28_JudgeSteps n a0 a1 a2 a3 a4 a5 a6 a7 := by kernel_rfl
theorem m_suturelaw28_JudgeSteps_ok (n : Nat) : ok_suturelaw28_JudgeSteps (m_suturelaw28_JudgeSteps n) := fun a0 a1 a2 a3 a4 a5 a6 a7 r h => mF_ok sound (sp_suturelaw28_JudgeSteps_ok n) code_suturelaw28_JudgeSteps_fn code_suturelaw28_JudgeSteps_body (fun a ha => absurd ha (by rw [show loopsOf code_suturelaw28_JudgeSteps = [] from by kernel_rfl]; simp)) ((m_suturelaw28_JudgeSteps_eq n a0 a1 a2 a3 a4 a5 a6 a7).trans h) (fun v s hk => ⟨(K_suturelaw28_JudgeSteps_wk hk).1, rfl, (K_suturelaw28_JudgeSteps_wk hk).2⟩)


/-! suture/suturelaw28.JudgeOrder -/
def l_suturelaw28_JudgeOrder_6_B (n : Nat) (k : Int × (List T) × (List T) × (List T) × Int × Int × (List T) × (List T) × (List T) × Int × Int × (List T) × (List T) × (List T) × Int × Int × (List T) × (List T) × (List T) × Int × Int → Option ((List T) × (List T) × (List T) × Int × Int × (List T) × (List T) × (List T) × Int × Int × (List T) × (List T) × (List T) × Int × Int × (List T) × (List T) × (List T) × Int × Int)) : Int × (List T) × (List T) × (List T) × Int × Int × (List T) × (List T) × (List T) × Int × Int × (List T) × (List T) × (List T) × Int × Int × (List T) × (List T) × (List T) × Int × Int → Option ((List T) × (List T) × (List T) × Int × Int × (List T) × (List T) × (List T) × Int × Int × (List T) × (List T) × (List T) × Int × Int × (List T) × (List T) × (List T) × Int × Int) := fun (s0, s1, s2, s3, s4, s5, s6, s7, s8, s9, s10, s11, s12, s13, s14, s15, s16, s17, s18, s19, s20) =>
bif (decide ((s0 : Int) ≥ 0)) then (
Option.bind (idx true [.list, .list, .bool] s6 s0) fun y2 =>
Option.bind (idx true [.list, .list, .bool] s6 s0) fun y3 =>
must true ((Nat.beq 3 3 || Nat.beq 3 0) && (decide (List.length s11 + List.length [(T.agg [(T.list (y2.cell 0).lst), (T.list (y2.cell 1).lst), (T.sc (.bool (y2.cell 2).bool))]), (T.agg [(T.list (y3.cell 0).lst), (T.list (y3.cell 1).lst), (T.sc (.bool (y3.cell 2).bool))])] ≤ 1073741824) && sized 3 [(T.agg [(T.list (y2.cell 0).lst), (T.list (y2.cell 1).lst), (T.sc (.bool (y2.cell 2).bool))]), (T.agg [(T.list (y3.cell 0).lst), (T.list (y3.cell 1).lst), (T.sc (.bool (y3.cell 2).bool))])])) (k ((IntKind.wrap .i64 (s0 - 1)), s1, s2, s3, s4, s5, s6, s7, s8, s9, s10, (s11 ++ [(T.agg [(T.list (y2.cell 0).lst), (T.list (y2.cell 1).lst), (T.sc (.bool (y2.cell 2).bool))]), (T.agg [(T.list (y3.cell 0).lst), (T.list (y3.cell 1).lst), (T.sc (.bool (y3.cell 2).bool))])]), s12, s13, s14, s15, s16, s17, s18, s19, s20)))
else (
some (s1, s2, s3, s4, s5, s6, s7, s8, s9, s10, s11, s12, s13, s14, s15, s16, s17, s18, s19, s20))
def l_suturelaw28_JudgeOrder_6 (n : Nat) : Nat → Int × (List T) × (List T) × (List T) × Int × Int × (List T) × (List T) × (List T) × Int × Int × (List T) × (List T) × (List T) × Int × Int × (List T) × (List T) × (List T) × Int × Int → Option ((List T) × (List T) × (List T) × Int × Int × (List T) × (List T) × (List T) × Int × Int × (List T) × (List T) × (List T) × Int × Int × (List T) × (List T) × (List T) × Int × Int)
  | 0, _ => none
  | m + 1, s => l_suturelaw28_JudgeOrder_6_B n (l_suturelaw28_JudgeOrder_6 n m) s
def l_suturelaw28_JudgeOrder_10_B (n : Nat) (k : Int × (List T) × (List T) × (List T) × Int × Int × (List T) × (List T) × (List T) × Int × Int × (List T) × (List T) × (List T) × Int × Int × (List T) × (List T) × (List T) × Int × Int → Option ((List T) × (List T) × (List T) × Int × Int × (List T) × (List T) × (List T) × Int × Int × (List T) × (List T) × (List T) × Int × Int × (List T) × (List T) × (List T) × Int × Int)) : Int × (List T) × (List T) × (List T) × Int × Int × (List T) × (List T) × (List T) × Int × Int × (List T) × (List T) × (List T) × Int × Int × (List T) × (List T) × (List T) × Int × Int → Option ((List T) × (List T) × (List T) × Int × Int × (List T) × (List T) × (List T) × Int × Int × (List T) × (List T) × (List T) × Int × Int × (List T) × (List T) × (List T) × Int × Int) := fun (s0, s1, s2, s3, s4, s5, s6, s7, s8, s9, s10, s11, s12, s13, s14, s15, s16, s17, s18, s19, s20) =>
bif (decide ((s0 : Int) ≥ 0)) then (
Option.bind (idx true [.str] s7 s0) fun y6 =>
must true ((Nat.beq 1 1 || Nat.beq 1 0) && (decide (List.length s12 + List.length [(T.sc (.string (y6.cell 0).str))] ≤ 1073741824) && sized 1 [(T.sc (.string (y6.cell 0).str))])) (k ((IntKind.wrap .i64 (s0 - 1)), s1, s2, s3, s4, s5, s6, s7, s8, s9, s10, s11, (s12 ++ [(T.sc (.string (y6.cell 0).str))]), s13, s14, s15, s16, s17, s18, s19, s20)))
else (
some (s1, s2, s3, s4, s5, s6, s7, s8, s9, s10, s11, s12, s13, s14, s15, s16, s17, s18, s19, s20))
def l_suturelaw28_JudgeOrder_10 (n : Nat) : Nat → Int × (List T) × (List T) × (List T) × Int × Int × (List T) × (List T) × (List T) × Int × Int × (List T) × (List T) × (List T) × Int × Int × (List T) × (List T) × (List T) × Int × Int → Option ((List T) × (List T) × (List T) × Int × Int × (List T) × (List T) × (List T) × Int × Int × (List T) × (List T) × (List T) × Int × Int × (List T) × (List T) × (List T) × Int × Int)
  | 0, _ => none
  | m + 1, s => l_suturelaw28_JudgeOrder_10_B n (l_suturelaw28_JudgeOrder_10 n m) s
def l_suturelaw28_JudgeOrder_14_B (n : Nat) (k : Int × (List T) × (List T) × (List T) × Int × Int × (List T) × (List T) × (List T) × Int × Int × (List T) × (List T) × (List T) × Int × Int × (List T) × (List T) × (List T) × Int × Int → Option ((List T) × (List T) × (List T) × Int × Int × (List T) × (List T) × (List T) × Int × Int × (List T) × (List T) × (List T) × Int × Int × (List T) × (List T) × (List T) × Int × Int)) : Int × (List T) × (List T) × (List T) × Int × Int × (List T) × (List T) × (List T) × Int × Int × (List T) × (List T) × (List T) × Int × Int × (List T) × (List T) × (List T) × Int × Int → Option ((List T) × (List T) × (List T) × Int × Int × (List T) × (List T) × (List T) × Int × Int × (List T) × (List T) × (List T) × Int × Int × (List T) × (List T) × (List T) × Int × Int) := fun (s0, s1, s2, s3, s4, s5, s6, s7, s8, s9, s10, s11, s12, s13, s14, s15, s16, s17, s18, s19, s20) =>
bif (decide ((s0 : Int) ≥ 0)) then (
Option.bind (idx true [.list, .list, .bool] s1 s0) fun y9 =>
must true ((Nat.beq 3 3 || Nat.beq 3 0) && (decide (List.length s16 + List.length [(T.agg [(T.list (y9.cell 0).lst), (T.list (y9.cell 1).lst), (T.sc (.bool (y9.cell 2).bool))])] ≤ 1073741824) && sized 3 [(T.agg [(T.list (y9.cell 0).lst), (T.list (y9.cell 1).lst), (T.sc (.bool (y9.cell 2).bool))])])) (k ((IntKind.wrap .i64 (s0 - 1)), s1, s2, s3, s4, s5, s6, s7, s8, s9, s10, s11, s12, s13, s14, s15, (s16 ++ [(T.agg [(T.list (y9.cell 0).lst), (T.list (y9.cell 1).lst), (T.sc (.bool (y9.cell 2).bool))])]), s17, s18, s19, s20)))
else (
some (s1, s2, s3, s4, s5, s6, s7, s8, s9, s10, s11, s12, s13, s14, s15, s16, s17, s18, s19, s20))
def l_suturelaw28_JudgeOrder_14 (n : Nat) : Nat → Int × (List T) × (List T) × (List T) × Int × Int × (List T) × (List T) × (List T) × Int × Int × (List T) × (List T) × (List T) × Int × Int × (List T) × (List T) × (List T) × Int × Int → Option ((List T) × (List T) × (List T) × Int × Int × (List T) × (List T) × (List T) × Int × Int × (List T) × (List T) × (List T) × Int × Int × (List T) × (List T) × (List T) × Int × Int)
  | 0, _ => none
  | m + 1, s => l_suturelaw28_JudgeOrder_14_B n (l_suturelaw28_JudgeOrder_14 n m) s
def l_suturelaw28_JudgeOrder_18_B (n : Nat) (k : Int × (List T) × (List T) × (List T) × Int × Int × (List T) × (List T) × (List T) × Int × Int × (List T) × (List T) × (List T) × Int × Int × (List T) × (List T) × (List T) × Int × Int → Option ((List T) × (List T) × (List T) × Int × Int × (List T) × (List T) × (List T) × Int × Int × (List T) × (List T) × (List T) × Int × Int × (List T) × (List T) × (List T) × Int × Int)) : Int × (List T) × (List T) × (List T) × Int × Int × (List T) × (List T) × (List T) × Int × Int × (List T) × (List T) × (List T) × Int × Int × (List T) × (List T) × (List T) × Int × Int → Option ((List T) × (List T) × (List T) × Int × Int × (List T) × (List T) × (List T) × Int × Int × (List T) × (List T) × (List T) × Int × Int × (List T) × (List T) × (List T) × Int × Int) := fun (s0, s1, s2, s3, s4, s5, s6, s7, s8, s9, s10, s11, s12, s13, s14, s15, s16, s17, s18, s19, s20) =>
bif (decide ((s0 : Int) ≥ 0)) then (
Option.bind (idx true [.str] s2 s0) fun y12 =>
Option.bind (idx true [.str] s2 s0) fun y13 =>
must true ((Nat.beq 1 1 || Nat.beq 1 0) && (decide (List.length s17 + List.length [(T.sc (.string (y12.cell 0).str)), (T.sc (.string (y13.cell 0).str))] ≤ 1073741824) && sized 1 [(T.sc (.string (y12.cell 0).str)), (T.sc (.string (y13.cell 0).str))])) (k ((IntKind.wrap .i64 (s0 - 1)), s1, s2, s3, s4, s5, s6, s7, s8, s9, s10, s11, s12, s13, s14, s15, s16, (s17 ++ [(T.sc (.string (y12.cell 0).str)), (T.sc (.string (y13.cell 0).str))]), s18, s19, s20)))
else (
some (s1, s2, s3, s4, s5, s6, s7, s8, s9, s10, s11, s12, s13, s14, s15, s16, s17, s18, s19, s20))
def l_suturelaw28_JudgeOrder_18 (n : Nat) : Nat → Int × (List T) × (List T) × (List T) × Int × Int × (List T) × (List T) × (List T) × Int × Int × (List T) × (List T) × (List T) × Int × Int × (List T) × (List T) × (List T) × Int × Int → Option ((List T) × (List T) × (List T) × Int × Int × (List T) × (List T) × (List T) × Int × Int × (List T) × (List T) × (List T) × Int × Int × (List T) × (List T) × (List T) × Int × Int)
  | 0, _ => none
  | m + 1, s => l_suturelaw28_JudgeOrder_18_B n (l_suturelaw28_JudgeOrder_18 n m) s
def m_suturelaw28_JudgeOrder (n : Nat) (a0 : List T) (a1 : List T) (a2 : List T) (a3 : List T) (a4 : Int) (a5 : Int) (a6 : Int) : Option (Bool) :=
Option.bind (m_suturelaw28_result n a0 a1 a4) fun r0 =>
Option.bind (m_suturelaw28_result n a2 a3 a5) fun r1 =>
Option.bind (l_suturelaw28_JudgeOrder_6 n n ((IntKind.wrap .i64 (((List.length r1.1 : Nat) : Int) - 1)), r0.1, r0.2.1, r0.2.2.1, r0.2.2.2.1, r0.2.2.2.2, r1.1, r1.2.1, r1.2.2.1, r1.2.2.2.1, r1.2.2.2.2, ([] : List T), ([] : List T), r1.2.2.1, a6, a4, ([] : List T), ([] : List T), r0.2.2.1, a5, 0)) fun p5 =>
Option.bind (l_suturelaw28_JudgeOrder_10 n n ((IntKind.wrap .i64 (((List.length p5.2.2.2.2.2.2.1 : Nat) : Int) - 1)), p5.1, p5.2.1, p5.2.2.1, p5.2.2.2.1, p5.2.2.2.2.1, p5.2.2.2.2.2.1, p5.2.2.2.2.2.2.1, p5.2.2.2.2.2.2.2.1, p5.2.2.2.2.2.2.2.2.1, p5.2.2.2.2.2.2.2.2.2.1, p5.2.2.2.2.2.2.2.2.2.2.1, p5.2.2.2.2.2.2.2.2.2.2.2.1, p5.2.2.2.2.2.2.2.2.2.2.2.2.1, p5.2.2.2.2.2.2.2.2.2.2.2.2.2.1, p5.2.2.2.2.2.2.2.2.2.2.2.2.2.2.1, p5.2.2.2.2.2.2.2.2.2.2.2.2.2.2.2.1, p5.2.2.2.2.2.2.2.2.2.2.2.2.2.2.2.2.1, p5.2.2.2.2.2.2.2.2.2.2.2.2.2.2.2.2.2.1, p5.2.2.2.2.2.2.2.2.2.2.2.2.2.2.2.2.2.2.1, p5.2.2.2.2.2.2.2.2.2.2.2.2.2.2.2.2.2.2.2)) fun p8 =>
Option.bind (l_suturelaw28_JudgeOrder_14 n n ((IntKind.wrap .i64 (((List.length p8.1 : Nat) : Int) - 1)), p8.1, p8.2.1, p8.2.2.1, p8.2.2.2.1, p8.2.2.2.2.1, p8.2.2.2.2.2.1, p8.2.2.2.2.2.2.1, p8.2.2.2.2.2.2.2.1, p8.2.2.2.2.2.2.2.2.1, p8.2.2.2.2.2.2.2.2.2.1, p8.2.2.2.2.2.2.2.2.2.2.1, p8.2.2.2.2.2.2.2.2.2.2.2.1, p8.2.2.2.2.2.2.2.2.2.2.2.2.1, p8.2.2.2.2.2.2.2.2.2.2.2.2.2.1, p8.2.2.2.2.2.2.2.2.2.2.2.2.2.2.1, p8.2.2.2.2.2.2.2.2.2.2.2.2.2.2.2.1, p8.2.2.2.2.2.2.2.2.2.2.2.2.2.2.2.2.1, p8.2.2.2.2.2.2.2.2.2.2.2.2.2.2.2.2.2.1, p8.2.2.2.2.2.2.2.2.2.2.2.2.2.2.2.2.2.2.1, p8.2.2.2.2.2.2.2.2.2.2.2.2.2.2.2.2.2.2.2)) fun p11 =>
Option.bind (l_suturelaw28_JudgeOrder_18 n n ((IntKind.wrap .i64 (((List.length p11.2.1 : Nat) : Int) - 1)), p11.1, p11.2.1, p11.2.2.1, p11.2.2.2.1, p11.2.2.2.2.1, p11.2.2.2.2.2.1, p11.2.2.2.2.2.2.1, p11.2.2.2.2.2.2.2.1, p11.2.2.2.2.2.2.2.2.1, p11.2.2.2.2.2.2.2.2.2.1, p11.2.2.2.2.2.2.2.2.2.2.1, p11.2.2.2.2.2.2.2.2.2.2.2.1, p11.2.2.2.2.2.2.2.2.2.2.2.2.1, p11.2.2.2.2.2.2.2.2.2.2.2.2.2.1, p11.2.2.2.2.2.2.2.2.2.2.2.2.2.2.1, p11.2.2.2.2.2.2.2.2.2.2.2.2.2.2.2.1, p11.2.2.2.2.2.2.2.2.2.2.2.2.2.2.2.2.1, p11.2.2.2.2.2.2.2.2.2.2.2.2.2.2.2.2.2.1, p11.2.2.2.2.2.2.2.2.2.2.2.2.2.2.2.2.2.2.1, p11.2.2.2.2.2.2.2.2.2.2.2.2.2.2.2.2.2.2.2)) fun p15 =>
Option.bind (m_judge_Accepts n p15.1 p15.2.1 p15.2.2.1 p15.2.2.2.1 p15.2.2.2.2.1 p15.2.2.2.2.2.1 p15.2.2.2.2.2.2.1 p15.2.2.2.2.2.2.2.1 p15.2.2.2.2.2.2.2.2.1 p15.2.2.2.2.2.2.2.2.2.1) fun r16 =>
Option.bind (m_suturelaw28_known n) fun r17 =>
Option.bind (bif r17 then m_judge_Accepts n p15.1 p15.2.1 p15.2.2.1 p15.2.2.2.1 p15.2.2.2.2.1 p15.2.2.2.2.2.2.2.2.2.2.1 p15.2.2.2.2.2.2.2.2.2.2.2.1 p15.2.2.2.2.2.2.2.2.2.2.2.2.1 p15.2.2.2.2.2.2.2.2.2.2.2.2.2.1 p15.2.2.2.2.2.2.2.2.2.2.2.2.2.2.1 else some false) fun r18 =>
Option.bind (bif (bif r17 then (r18 == r16) else false) then m_judge_Accepts n p15.2.2.2.2.2.2.2.2.2.2.2.2.2.2.2.1 p15.2.2.2.2.2.2.2.2.2.2.2.2.2.2.2.2.1 p15.2.2.2.2.2.2.2.2.2.2.2.2.2.2.2.2.2.1 p15.2.2.2.2.2.2.2.2.2.2.2.2.2.2.2.2.2.2.1 p15.2.2.2.2.2.2.2.2.2.2.2.2.2.2.2.2.2.2.2 p15.2.2.2.2.2.1 p15.2.2.2.2.2.2.1 p15.2.2.2.2.2.2.2.1 p15.2.2.2.2.2.2.2.2.1 p15.2.2.2.2.2.2.2.2.2.1 else some false) fun r19 =>
Option.bind (bif (bif (bif r17 then (r18 == r16) else false) then (r19 == r16) else false) then m_judge_Accepts n p15.2.2.2.2.2.2.2.2.2.2.2.2.2.2.2.1 p15.2.2.2.2.2.2.2.2.2.2.2.2.2.2.2.2.1 p15.2.2.2.2.2.2.2.2.2.2.2.2.2.2.2.2.2.1 p15.2.2.2.2.2.2.2.2.2.2.2.2.2.2.2.2.2.2.1 p15.2.2.2.2.2.2.2.2.2.2.2.2.2.2.2.2.2.2.2 p15.2.2.2.2.2.2.2.2.2.2.1 p15.2.2.2.2.2.2.2.2.2.2.2.1 p15.2.2.2.2.2.2.2.2.2.2.2.2.1 p15.2.2.2.2.2.2.2.2.2.2.2.2.2.1 p15.2.2.2.2.2.2.2.2.2.2.2.2.2.2.1 else some false) fun r20 =>
Option.bind (bif (bif (bif (bif r17 then (r18 == r16) else false) then (r19 == r16) else false) then (r20 == r16) else false) then m_judge_Within n p15.2.2.2.2.2.1 p15.2.2.2.2.2.2.2.2.2.2.1 else some false) fun r21 =>
Option.bind (bif (bif (bif (bif (bif r17 then (r18 == r16) else false) then (r19 == r16) else false) then (r20 == r16) else false) then r21 else false) then m_judge_Within n p15.2.2.2.2.2.2.2.2.2.2.1 p15.2.2.2.2.2.1 else some false) fun r22 =>
some (bif (bif (bif (bif (bif r17 then (r18 == r16) else false) then (r19 == r16) else false) then (r20 == r16) else false) then r21 else false) then r22 else false)
def enc_suturelaw28_JudgeOrder (r : Bool) : V := (V.t (T.sc (.bool r)))
def encS_suturelaw28_JudgeOrder (r : Bool) : Sig := []
def ok_suturelaw28_JudgeOrder (m : List T → List T → List T → List T → Int → Int → Int → Option (Bool)) : Prop := ∀ (a0 : List T) (a1 : List T) (a2 : List T) (a3 : List T) (a4 : Int) (a5 : Int) (a6 : Int) (r : Bool), m a0 a1 a2 a3 a4 a5 a6 = some r → FuncOk Try.prog 6 [(V.t (T.list a0)), (V.t (T.list a1)), (V.t (T.list a2)), (V.t (T.list a3)), (V.t (T.sc (.int .i64 a4))), (V.t (T.sc (.int .i64 a5))), (V.t (T.sc (.int .i64 a6)))] [] (enc_suturelaw28_JudgeOrder r) (encS_suturelaw28_JudgeOrder r)
def c_suturelaw28_JudgeOrder (m : List T → List T → List T → List T → Int → Int → Int → Option (Bool)) (vs : List V) (sg : Sig) : Option CallM := bif Nat.beq vs.length 7 && Nat.beq sg.length 0 then Option.bind (V.lstOf (vs.getD 0 .any)) fun u0 => Option.bind (V.lstOf (vs.getD 1 .any)) fun u1 => Option.bind (V.lstOf (vs.getD 2 .any)) fun u2 => Option.bind (V.lstOf (vs.getD 3 .any)) fun u3 => Option.bind (V.intOf .i64 (vs.getD 4 .any)) fun u4 => Option.bind (V.intOf .i64 (vs.getD 5 .any)) fun u5 => Option.bind (V.intOf .i64 (vs.getD 6 .any)) fun u6 => some { α := Bool, m := m u0 u1 u2 u3 u4 u5 u6, dflt := false, enc := fun y => ((V.t (T.sc (.bool y))), []) } else none
theorem c_suturelaw28_JudgeOrder_ok (m : List T → List T → List T → List T → Int → Int → Int → Option (Bool)) (hm : ok_suturelaw28_JudgeOrder m) (vs : List V) (sg : Sig) (cm : CallM) (x : cm.α) (h : c_suturelaw28_JudgeOrder m vs sg = some cm) (hx : cm.m = some x) : FuncOk Try.prog 6 vs sg (cm.enc x).1 (cm.enc x).2 := by
  unfold c_suturelaw28_JudgeOrder at h
  have h0 := callee_sig h
  clear h
  obtain ⟨hl, hs, h⟩ := h0
  obtain ⟨u0, hu0, h⟩ := Option.bind_eq_some_iff.1 h
  obtain ⟨u1, hu1, h⟩ := Option.bind_eq_some_iff.1 h
  obtain ⟨u2, hu2, h⟩ := Option.bind_eq_some_iff.1 h
  obtain ⟨u3, hu3, h⟩ := Option.bind_eq_some_iff.1 h
  obtain ⟨u4, hu4, h⟩ := Option.bind_eq_some_iff.1 h
  obtain ⟨u5, hu5, h⟩ := Option.bind_eq_some_iff.1 h
  obtain ⟨u6, hu6, h⟩ := Option.bind_eq_some_iff.1 h
  simp only [Option.some.injEq] at h
  subst h
  exact (hm u0 u1 u2 u3 u4 u5 u6 x hx).wk (args_wk hl (.cons (lstOf_wk hu0) (.cons (lstOf_wk hu1) (.cons (lstOf_wk hu2) (.cons (lstOf_wk hu3) (.cons (intOf_wk hu4) (.cons (intOf_wk hu5) (.cons (intOf_wk hu6) .nil)))))))) (wkSg_of hs .nil)
noncomputable def code_suturelaw28_JudgeOrder : Code := Try.f6.body.getD .skip
def l_suturelaw28_JudgeOrder_6_S (n : Nat) (R : Type) (E : SEnv) (sg : Sig) (K : Ex → SEnv → Sig → Option R) : Option R := Option.bind (V.ptrOf 0 0 (SEnv.at E 15)) fun u0 => Option.bind (V.ptrOf 1 0 (SEnv.at E 16)) fun u1 => Option.bind (V.ptrOf 2 0 (SEnv.at E 17)) fun u2 => Option.bind (V.ptrOf 3 0 (SEnv.at E 18)) fun u3 => Option.bind (V.intOf .i64 (SEnv.at E 19)) fun u4 => Option.bind (cellsN 5 sg 0) fun u5 => Option.bind (V.lstOf (u5.getD 0 .any)) fun u6 => Option.bind (V.lstOf (u5.getD 1 .any)) fun u7 => Option.bind (V.lstOf (u5.getD 2 .any)) fun u8 => Option.bind (V.intOf .i64 (u5.getD 3 .any)) fun u9 => Option.bind (V.intOf .i64 (u5.getD 4 .any)) fun u10 => Option.bind (cellsN 5 sg 1) fun u11 => Option.bind (V.lstOf (u11.getD 0 .any)) fun u12 => Option.bind (V.lstOf (u11.getD 1 .any)) fun u13 => Option.bind (V.lstOf (u11.getD 2 .any)) fun u14 => Option.bind (V.intOf .i64 (u11.getD 3 .any)) fun u15 => Option.bind (V.intOf .i64 (u11.getD 4 .any)) fun u16 => Option.bind (cellsN 5 sg 2) fun u17 => Option.bind (V.ownOf 3 (u17.getD 0 .any)) fun u18 => Option.bind (V.ownOf 0 (u17.getD 1 .any)) fun u19 => Option.bind (V.lstOf (u17.getD 2 .any)) fun u20 => Option.bind (V.intOf .i64 (u17.getD 3 .any)) fun u21 => Option.bind (V.intOf .i64 (u17.getD 4 .any)) fun u22 => Option.bind (cellsN 5 sg 3) fun u23 => Option.bind (V.ownOf 0 (u23.getD 0 .any)) fun u24 => Option.bind (V.ownOf 0 (u23.getD 1 .any)) fun u25 => Option.bind (V.lstOf (u23.getD 2 .any)) fun u26 => Option.bind (V.intOf .i64 (u23.getD 3 .any)) fun u27 => Option.bind (V.intOf .i64 (u23.getD 4 .any)) fun u28 => Option.bind (l_suturelaw28_JudgeOrder_6 n n (u4, u6, u7, u8, u9, u10, u12, u13, u14, u15, u16, u18, u19, u20, u21, u22, u24, u25, u26, u27, u28)) fun p0 => K (.exit 0) [(15, (V.ptr 0 0)), (16, (V.ptr 1 0)), (17, (V.ptr 2 0)), (18, (V.ptr 3 0))] [some [(V.t (T.list p0.1)), (V.t (T.list p0.2.1)), (V.t (T.list p0.2.2.1)), (V.t (T.sc (.int .i64 p0.2.2.2.1))), (V.t (T.sc (.int .i64 p0.2.2.2.2.1)))], some [(V.t (T.list p0.2.2.2.2.2.1)), (V.t (T.list p0.2.2.2.2.2.2.1)), (V.t (T.list p0.2.2.2.2.2.2.2.1)), (V.t (T.sc (.int .i64 p0.2.2.2.2.2.2.2.2.1))), (V.t (T.sc (.int .i64 p0.2.2.2.2.2.2.2.2.2.1)))], some [(V.own 3 p0.2.2.2.2.2.2.2.2.2.2.1), (V.own 0 p0.2.2.2.2.2.2.2.2.2.2.2.1), (V.t (T.list p0.2.2.2.2.2.2.2.2.2.2.2.2.1)), (V.t (T.sc (.int .i64 p0.2.2.2.2.2.2.2.2.2.2.2.2.2.1))), (V.t (T.sc (.int .i64 p0.2.2.2.2.2.2.2.2.2.2.2.2.2.2.1)))], some [(V.own 0 p0.2.2.2.2.2.2.2.2.2.2.2.2.2.2.2.1), (V.own 0 p0.2.2.2.2.2.2.2.2.2.2.2.2.2.2.2.2.1), (V.t (T.list p0.2.2.2.2.2.2.2.2.2.2.2.2.2.2.2.2.2.1)), (V.t (T.sc (.int .i64 p0.2.2.2.2.2.2.2.2.2.2.2.2.2.2.2.2.2.2.1))), (V.t (T.sc (.int .i64 p0.2.2.2.2.2.2.2.2.2.2.2.2.2.2.2.2.2.2.2)))]]
def l_suturelaw28_JudgeOrder_10_S (n : Nat) (R : Type) (E : SEnv) (sg : Sig) (K : Ex → SEnv → Sig → Option R) : Option R := Option.bind (V.ptrOf 0 0 (SEnv.at E 15)) fun u0 => Option.bind (V.ptrOf 1 0 (SEnv.at E 16)) fun u1 => Option.bind (V.ptrOf 2 0 (SEnv.at E 17)) fun u2 => Option.bind (V.ptrOf 3 0 (SEnv.at E 18)) fun u3 => Option.bind (V.intOf .i64 (SEnv.at E 20)) fun u4 => Option.bind (cellsN 5 sg 0) fun u5 => Option.bind (V.lstOf (u5.getD 0 .any)) fun u6 => Option.bind (V.lstOf (u5.getD 1 .any)) fun u7 => Option.bind (V.lstOf (u5.getD 2 .any)) fun u8 => Option.bind (V.intOf .i64 (u5.getD 3 .any)) fun u9 => Option.bind (V.intOf .i64 (u5.getD 4 .any)) fun u10 => Option.bind (cellsN 5 sg 1) fun u11 => Option.bind (V.lstOf (u11.getD 0 .any)) fun u12 => Option.bind (V.lstOf (u11.getD 1 .any)) fun u13 => Option.bind (V.lstOf (u11.getD 2 .any)) fun u14 => Option.bind (V.intOf .i64 (u11.getD 3 .any)) fun u15 => Option.bind (V.intOf .i64 (u11.getD 4 .any)) fun u16 => Option.bind (cellsN 5 sg 2) fun u17 => Option.bind (V.ownOf 3 (u17.getD 0 .any)) fun u18 => Option.bind (V.ownOf 1 (u17.getD 1 .any)) fun u19 => Option.bind (V.lstOf (u17.getD 2 .any)) fun u20 => Option.bind (V.intOf .i64 (u17.getD 3 .any)) fun u21 => Option.bind (V.intOf .i64 (u17.getD 4 .any)) fun u22 => Option.bind (cellsN 5 sg 3) fun u23 => Option.bind (V.ownOf 0 (u23.getD 0 .any)) fun u24 => Option.bind (V.ownOf 0 (u23.getD 1 .any)) fun u25 => Option.bind (V.lstOf (u23.getD 2 .any)) fun u26 => Option.bind (V.intOf .i64 (u23.getD 3 .any)) fun u27 => Option.bind (V.intOf .i64 (u23.getD 4 .any)) fun u28 => Option.bind (l_suturelaw28_JudgeOrder_10 n n (u4, u6, u7, u8, u9, u10, u12, u13, u14, u15, u16, u18, u19, u20, u21, u22, u24, u25, u26, u27, u28)) fun p0 => K (.exit 2) [(15, (V.ptr 0 0)), (16, (V.ptr 1 0)), (17, (V.ptr 2 0)), (18, (V.ptr 3 0))] [some [(V.t (T.list p0.1)), (V.t (T.list p0.2.1)), (V.t (T.list p0.2.2.1)), (V.t (T.sc (.int .i64 p0.2.2.2.1))), (V.t (T.sc (.int .i64 p0.2.2.2.2.1)))], some [(V.t (T.list p0.2.2.2.2.2.1)), (V.t (T.list p0.2.2.2.2.2.2.1)), (V.t (T.list p0.2.2.2.2.2.2.2.1)), (V.t (T.sc (.int .i64 p0.2.2.2.2.2.2.2.2.1))), (V.t (T.sc (.int .i64 p0.2.2.2.2.2.2.2.2.2.1)))], some [(V.own 3 p0.2.2.2.2.2.2.2.2.2.2.1), (V.own 1 p0.2.2.2.2.2.2.2.2.2.2.2.1), (V.t (T.list p0.2.2.2.2.2.2.2.2.2.2.2.2.1)), (V.t (T.sc (.int .i64 p0.2.2.2.2.2.2.2.2.2.2.2.2.2.1))), (V.t (T.sc (.int .i64 p0.2.2.2.2.2.2.2.2.2.2.2.2.2.2.1)))], some [(V.own 0 p0.2.2.2.2.2.2.2.2.2.2.2.2.2.2.2.1), (V.own 0 p0.2.2.2.2.2.2.2.2.2.2.2.2.2.2.2.2.1), (V.t (T.list p0.2.2.2.2.2.2.2.2.2.2.2.2.2.2.2.2.2.1)), (V.t (T.sc (.int .i64 p0.2.2.2.2.2.2.2.2.2.2.2.2.2.2.2.2.2.2.1))), (V.t (T.sc (.int .i64 p0.2.2.2.2.2.2.2.2.2.2.2.2.2.2.2.2.2.2.2)))]]
def l_suturelaw28_JudgeOrder_14_S (n : Nat) (R : Type) (E : SEnv) (sg : Sig) (K : Ex → SEnv → Sig → Option R) : Option R := Option.bind (V.ptrOf 0 0 (SEnv.at E 15)) fun u0 => Option.bind (V.ptrOf 1 0 (SEnv.at E 16)) fun u1 => Option.bind (V.ptrOf 2 0 (SEnv.at E 17)) fun u2 => Option.bind (V.ptrOf 3 0 (SEnv.at E 18)) fun u3 => Option.bind (V.intOf .i64 (SEnv.at E 21)) fun u4 => Option.bind (cellsN 5 sg 0) fun u5 => Option.bind (V.lstOf (u5.getD 0 .any)) fun u6 => Option.bind (V.lstOf (u5.getD 1 .any)) fun u7 => Option.bind (V.lstOf (u5.getD 2 .any)) fun u8 => Option.bind (V.intOf .i64 (u5.getD 3 .any)) fun u9 => Option.bind (V.intOf .i64 (u5.getD 4 .any)) fun u10 => Option.bind (cellsN 5 sg 1) fun u11 => Option.bind (V.lstOf (u11.getD 0 .any)) fun u12 => Option.bind (V.lstOf (u11.getD 1 .any)) fun u13 => Option.bind (V.lstOf (u11.getD 2 .any)) fun u14 => Option.bind (V.intOf .i64 (u11.getD 3 .any)) fun u15 => Option.bind (V.intOf .i64 (u11.getD 4 .any)) fun u16 => Option.bind (cellsN 5 sg 2) fun u17 => Option.bind (V.ownOf 3 (u17.getD 0 .any)) fun u18 => Option.bind (V.ownOf 1 (u17.getD 1 .any)) fun u19 => Option.bind (V.lstOf (u17.getD 2 .any)) fun u20 => Option.bind (V.intOf .i64 (u17.getD 3 .any)) fun u21 => Option.bind (V.intOf .i64 (u17.getD 4 .any)) fun u22 => Option.bind (cellsN 5 sg 3) fun u23 => Option.bind (V.ownOf 3 (u23.getD 0 .any)) fun u24 => Option.bind (V.ownOf 0 (u23.getD 1 .any)) fun u25 => Option.bind (V.lstOf (u23.getD 2 .any)) fun u26 => Option.bind (V.intOf .i64 (u23.getD 3 .any)) fun u27 => Option.bind (V.intOf .i64 (u23.getD 4 .any)) fun u28 => Option.bind (l_suturelaw28_JudgeOrder_14 n n (u4, u6, u7, u8, u9, u10, u12, u13, u14, u15, u16, u18, u19, u20, u21, u22, u24, u25, u26, u27, u28)) fun p0 => K (.exit 4) [(15, (V.ptr 0 0)), (16, (V.ptr 1 0)), (17, (V.ptr 2 0)), (18, (V.ptr 3 0))] [some [(V.t (T.list p0.1)), (V.t (T.list p0.2.1)), (V.t (T.list p0.2.2.1)), (V.t (T.sc (.int .i64 p0.2.2.2.1))), (V.t (T.sc (.int .i64 p0.2.2.2.2.1)))], some [(V.t (T.list p0.2.2.2.2.2.1)), (V.t (T.list p0.2.2.2.2.2.2.1)), (V.t (T.list p0.2.2.2.2.2.2.2.1)), (V.t (T.sc (.int .i64 p0.2.2.2.2.2.2.2.2.1))), (V.t (T.sc (.int .i64 p0.2.2.2.2.2.2.2.2.2.1)))], some [(V.own 3 p0.2.2.2.2.2.2.2.2.2.2.1), (V.own 1 p0.2.2.2.2.2.2.2.2.2.2.2.1), (V.t (T.list p0.2.2.2.2.2.2.2.2.2.2.2.2.1)), (V.t (T.sc (.int .i64 p0.2.2.2.2.2.2.2.2.2.2.2.2.2.1))), (V.t (T.sc (.int .i64 p0.2.2.2.2.2.2.2.2.2.2.2.2.2.2.1)))], some [(V.own 3 p0.2.2.2.2.2.2.2.2.2.2.2.2.2.2.2.1), (V.own 0 p0.2.2.2.2.2.2.2.2.2.2.2.2.2.2.2.2.1), (V.t (T.list p0.2.2.2.2.2.2.2.2.2.2.2.2.2.2.2.2.2.1)), (V.t (T.sc (.int .i64 p0.2.2.2.2.2.2.2.2.2.2.2.2.2.2.2.2.2.2.1))), (V.t (T.sc (.int .i64 p0.2.2.2.2.2.2.2.2.2.2.2.2.2.2.2.2.2.2.2)))]]
def l_suturelaw28_JudgeOrder_18_S (n : Nat) (R : Type) (E : SEnv) (sg : Sig) (K : Ex → SEnv → Sig → Option R) : Option R := Option.bind (V.ptrOf 0 0 (SEnv.at E 15)) fun u0 => Option.bind (V.ptrOf 1 0 (SEnv.at E 16)) fun u1 => Option.bind (V.ptrOf 2 0 (SEnv.at E 17)) fun u2 => Option.bind (V.ptrOf 3 0 (SEnv.at E 18)) fun u3 => Option.bind (V.intOf .i64 (SEnv.at E 22)) fun u4 => Option.bind (cellsN 5 sg 0) fun u5 => Option.bind (V.lstOf (u5.getD 0 .any)) fun u6 => Option.bind (V.lstOf (u5.getD 1 .any)) fun u7 => Option.bind (V.lstOf (u5.getD 2 .any)) fun u8 => Option.bind (V.intOf .i64 (u5.getD 3 .any)) fun u9 => Option.bind (V.intOf .i64 (u5.getD 4 .any)) fun u10 => Option.bind (cellsN 5 sg 1) fun u11 => Option.bind (V.lstOf (u11.getD 0 .any)) fun u12 => Option.bind (V.lstOf (u11.getD 1 .any)) fun u13 => Option.bind (V.lstOf (u11.getD 2 .any)) fun u14 => Option.bind (V.intOf .i64 (u11.getD 3 .any)) fun u15 => Option.bind (V.intOf .i64 (u11.getD 4 .any)) fun u16 => Option.bind (cellsN 5 sg 2) fun u17 => Option.bind (V.ownOf 3 (u17.getD 0 .any)) fun u18 => Option.bind (V.ownOf 1 (u17.getD 1 .any)) fun u19 => Option.bind (V.lstOf (u17.getD 2 .any)) fun u20 => Option.bind (V.intOf .i64 (u17.getD 3 .any)) fun u21 => Option.bind (V.intOf .i64 (u17.getD 4 .any)) fun u22 => Option.bind (cellsN 5 sg 3) fun u23 => Option.bind (V.ownOf 3 (u23.getD 0 .any)) fun u24 => Option.bind (V.ownOf 1 (u23.getD 1 .any)) fun u25 => Option.bind (V.lstOf (u23.getD 2 .any)) fun u26 => Option.bind (V.intOf .i64 (u23.getD 3 .any)) fun u27 => Option.bind (V.intOf .i64 (u23.getD 4 .any)) fun u28 => Option.bind (l_suturelaw28_JudgeOrder_18 n n (u4, u6, u7, u8, u9, u10, u12, u13, u14, u15, u16, u18, u19, u20, u21, u22, u24, u25, u26, u27, u28)) fun p0 => K (.exit 6) [(15, (V.ptr 0 0)), (16, (V.ptr 1 0)), (17, (V.ptr 2 0)), (18, (V.ptr 3 0))] [some [(V.t (T.list p0.1)), (V.t (T.list p0.2.1)), (V.t (T.list p0.2.2.1)), (V.t (T.sc (.int .i64 p0.2.2.2.1))), (V.t (T.sc (.int .i64 p0.2.2.2.2.1)))], some [(V.t (T.list p0.2.2.2.2.2.1)), (V.t (T.list p0.2.2.2.2.2.2.1)), (V.t (T.list p0.2.2.2.2.2.2.2.1)), (V.t (T.sc (.int .i64 p0.2.2.2.2.2.2.2.2.1))), (V.t (T.sc (.int .i64 p0.2.2.2.2.2.2.2.2.2.1)))], some [(V.own 3 p0.2.2.2.2.2.2.2.2.2.2.1), (V.own 1 p0.2.2.2.2.2.2.2.2.2.2.2.1), (V.t (T.list p0.2.2.2.2.2.2.2.2.2.2.2.2.1)), (V.t (T.sc (.int .i64 p0.2.2.2.2.2.2.2.2.2.2.2.2.2.1))), (V.t (T.sc (.int .i64 p0.2.2.2.2.2.2.2.2.2.2.2.2.2.2.1)))], some [(V.own 3 p0.2.2.2.2.2.2.2.2.2.2.2.2.2.2.2.1), (V.own 1 p0.2.2.2.2.2.2.2.2.2.2.2.2.2.2.2.2.1), (V.t (T.list p0.2.2.2.2.2.2.2.2.2.2.2.2.2.2.2.2.2.1)), (V.t (T.sc (.int .i64 p0.2.2.2.2.2.2.2.2.2.2.2.2.2.2.2.2.2.2.1))), (V.t (T.sc (.int .i64 p0.2.2.2.2.2.2.2.2.2.2.2.2.2.2.2.2.2.2.2)))]]
noncomputable def sp_suturelaw28_JudgeOrder (n : Nat) : Go.Eng.Spec := ⟨fun f vs sg => (match f with
    | 10 => c_suturelaw28_result (m_suturelaw28_result n) vs sg
    | 8 => c_judge_Accepts (m_judge_Accepts n) vs sg
    | 7 => c_suturelaw28_known (m_suturelaw28_known n) vs sg
    | 9 => c_judge_Within (m_judge_Within n) vs sg
    | _ => none), fun R key E sg K => (match key with
    | 6 => l_suturelaw28_JudgeOrder_6_S n R E sg K
    | 10 => l_suturelaw28_JudgeOrder_10_S n R E sg K
    | 14 => l_suturelaw28_JudgeOrder_14_S n R E sg K
    | 18 => l_suturelaw28_JudgeOrder_18_S n R E sg K
    | _ => none)⟩
theorem sp_suturelaw28_JudgeOrder_ok (n : Nat) : CallsOk Try.prog (sp_suturelaw28_JudgeOrder n) := by
  intro f vs sg cm x h hx
  simp only [sp_suturelaw28_JudgeOrder] at h
  split at h
  · exact c_suturelaw28_result_ok _ (m_suturelaw28_result_ok n) vs sg cm x h hx
  · exact c_judge_Accepts_ok _ (m_judge_Accepts_ok n) vs sg cm x h hx
  · exact c_suturelaw28_known_ok _ (m_suturelaw28_known_ok n) vs sg cm x h hx
  · exact c_judge_Within_ok _ (m_judge_Within_ok n) vs sg cm x h hx
  · cases h
theorem code_suturelaw28_JudgeOrder_fn : Try.prog.funcs[6]? = some Try.f6 := Try.func6
theorem code_suturelaw28_JudgeOrder_body : Try.f6.body = some code_suturelaw28_JudgeOrder := by kernel_rfl
theorem code_suturelaw28_JudgeOrder_ok : CodeOk Try.prog code_suturelaw28_JudgeOrder := (sound 6 _ _ code_suturelaw28_JudgeOrder_fn code_suturelaw28_JudgeOrder_body).1
noncomputable def code_l_suturelaw28_JudgeOrder_6 : Code := (loopsOf code_suturelaw28_JudgeOrder).getD 0 .skip
theorem code_l_suturelaw28_JudgeOrder_6_ok : CodeOk Try.prog code_l_suturelaw28_JudgeOrder_6 := codeOk_loops code_suturelaw28_JudgeOrder_ok _ (getD_mem (by kernel_rfl))
def l_suturelaw28_JudgeOrder_6_K (k : Int × (List T) × (List T) × (List T) × Int × Int × (List T) × (List T) × (List T) × Int × Int × (List T) × (List T) × (List T) × Int × Int × (List T) × (List T) × (List T) × Int × Int → Option ((List T) × (List T) × (List T) × Int × Int × (List T) × (List T) × (List T) × Int × Int × (List T) × (List T) × (List T) × Int × Int × (List T) × (List T) × (List T) × Int × Int)) : Ex → SEnv → Sig → Option ((List T) × (List T) × (List T) × Int × Int × (List T) × (List T) × (List T) × Int × Int × (List T) × (List T) × (List T) × Int × Int × (List T) × (List T) × (List T) × Int × Int) := fun x E sg => match x with
  | .normal => Option.bind (V.ptrOf 0 0 (SEnv.at E 15)) fun u0 => Option.bind (V.ptrOf 1 0 (SEnv.at E 16)) fun u1 => Option.bind (V.ptrOf 2 0 (SEnv.at E 17)) fun u2 => Option.bind (V.ptrOf 3 0 (SEnv.at E 18)) fun u3 => Option.bind (V.intOf .i64 (SEnv.at E 19)) fun u4 => Option.bind (cellsN 5 sg 0) fun u5 => Option.bind (V.lstOf (u5.getD 0 .any)) fun u6 => Option.bind (V.lstOf (u5.getD 1 .any)) fun u7 => Option.bind (V.lstOf (u5.getD 2 .any)) fun u8 => Option.bind (V.intOf .i64 (u5.getD 3 .any)) fun u9 => Option.bind (V.intOf .i64 (u5.getD 4 .any)) fun u10 => Option.bind (cellsN 5 sg 1) fun u11 => Option.bind (V.lstOf (u11.getD 0 .any)) fun u12 => Option.bind (V.lstOf (u11.getD 1 .any)) fun u13 => Option.bind (V.lstOf (u11.getD 2 .any)) fun u14 => Option.bind (V.intOf .i64 (u11.getD 3 .any)) fun u15 => Option.bind (V.intOf .i64 (u11.getD 4 .any)) fun u16 => Option.bind (cellsN 5 sg 2) fun u17 => Option.bind (V.ownOf 3 (u17.getD 0 .any)) fun u18 => Option.bind (V.ownOf 0 (u17.getD 1 .any)) fun u19 => Option.bind (V.lstOf (u17.getD 2 .any)) fun u20 => Option.bind (V.intOf .i64 (u17.getD 3 .any)) fun u21 => Option.bind (V.intOf .i64 (u17.getD 4 .any)) fun u22 => Option.bind (cellsN 5 sg 3) fun u23 => Option.bind (V.ownOf 0 (u23.getD 0 .any)) fun u24 => Option.bind (V.ownOf 0 (u23.getD 1 .any)) fun u25 => Option.bind (V.lstOf (u23.getD 2 .any)) fun u26 => Option.bind (V.intOf .i64 (u23.getD 3 .any)) fun u27 => Option.bind (V.intOf .i64 (u23.getD 4 .any)) fun u28 => k (u4, u6, u7, u8, u9, u10, u12, u13, u14, u15, u16, u18, u19, u20, u21, u22, u24, u25, u26, u27, u28)
  | (.exit 0) => Option.bind (V.ptrOf 0 0 (SEnv.at E 15)) fun u0 => Option.bind (V.ptrOf 1 0 (SEnv.at E 16)) fun u1 => Option.bind (V.ptrOf 2 0 (SEnv.at E 17)) fun u2 => Option.bind (V.ptrOf 3 0 (SEnv.at E 18)) fun u3 => Option.bind (cellsN 5 sg 0) fun u4 => Option.bind (V.lstOf (u4.getD 0 .any)) fun u5 => Option.bind (V.lstOf (u4.getD 1 .any)) fun u6 => Option.bind (V.lstOf (u4.getD 2 .any)) fun u7 => Option.bind (V.intOf .i64 (u4.getD 3 .any)) fun u8 => Option.bind (V.intOf .i64 (u4.getD 4 .any)) fun u9 => Option.bind (cellsN 5 sg 1) fun u10 => Option.bind (V.lstOf (u10.getD 0 .any)) fun u11 => Option.bind (V.lstOf (u10.getD 1 .any)) fun u12 => Option.bind (V.lstOf (u10.getD 2 .any)) fun u13 => Option.bind (V.intOf .i64 (u10.getD 3 .any)) fun u14 => Option.bind (V.intOf .i64 (u10.getD 4 .any)) fun u15 => Option.bind (cellsN 5 sg 2) fun u16 => Option.bind (V.ownOf 3 (u16.getD 0 .any)) fun u17 => Option.bind (V.ownOf 0 (u16.getD 1 .any)) fun u18 => Option.bind (V.lstOf (u16.getD 2 .any)) fun u19 => Option.bind (V.intOf .i64 (u16.getD 3 .any)) fun u20 => Option.bind (V.intOf .i64 (u16.getD 4 .any)) fun u21 => Option.bind (cellsN 5 sg 3) fun u22 => Option.bind (V.ownOf 0 (u22.getD 0 .any)) fun u23 => Option.bind (V.ownOf 0 (u22.getD 1 .any)) fun u24 => Option.bind (V.lstOf (u22.getD 2 .any)) fun u25 => Option.bind (V.intOf .i64 (u22.getD 3 .any)) fun u26 => Option.bind (V.intOf .i64 (u22.getD 4 .any)) fun u27 => some (u5, u6, u7, u8, u9, u11, u12, u13, u14, u15, u17, u18, u19, u20, u21, u23, u24, u25, u26, u27)
  | _ => none
theorem l_suturelaw28_JudgeOrder_6_eq (n : Nat) (k : Int × (List T) × (List T) × (List T) × Int × Int × (List T) × (List T) × (List T) × Int × Int × (List T) × (List T) × (List T) × Int × Int × (List T) × (List T) × (List T) × Int × Int → Option ((List T) × (List T) × (List T) × Int × Int × (List T) × (List T) × (List T) × Int × Int × (List T) × (List T) × (List T) × Int × Int × (List T) × (List T) × (List T) × Int × Int)) (s0 : Int) (s1 : List T) (s2 : List T) (s3 : List T) (s4 : Int) (s5 : Int) (s6 : List T) (s7 : List T) (s8 : List T) (s9 : Int) (s10 : Int) (s11 : List T) (s12 : List T) (s13 : List T) (s14 : Int) (s15 : Int) (s16 : List T) (s17 : List T) (s18 : List T) (s19 : Int) (s20 : Int) : mX Try.prog (sp_suturelaw28_JudgeOrder n) 162 code_l_suturelaw28_JudgeOrder_6 [(15, (V.ptr 0 0)), (16, (V.ptr 1 0)), (17, (V.ptr 2 0)), (18, (V.ptr 3 0)), (19, (V.t (T.sc (.int .i64 s0))))] [some [(V.t (T.list s1)), (V.t (T.list s2)), (V.t (T.list s3)), (V.t (T.sc (.int .i64 s4))), (V.t (T.sc (.int .i64 s5)))], some [(V.t (T.list s6)), (V.t (T.list s7)), (V.t (T.list s8)), (V.t (T.sc (.int .i64 s9))), (V.t (T.sc (.int .i64 s10)))], some [(V.own 3 s11), (V.own 0 s12), (V.t (T.list s13)), (V.t (T.sc (.int .i64 s14))), (V.t (T.sc (.int .i64 s15)))], some [(V.own 0 s16), (V.own 0 s17), (V.t (T.list s18)), (V.t (T.sc (.int .i64 s19))), (V.t (T.sc (.int .i64 s20)))]] (l_suturelaw28_JudgeOrder_6_K k) = l_suturelaw28_JudgeOrder_6_B n k (s0, s1, s2, s3, s4, s5, s6, s7, s8, s9, s10, s11, s12, s13, s14, s15, s16, s17, s18, s19, s20) := by kernel_rfl
def l_suturelaw28_JudgeOrder_6_Q (x : (List T) × (List T) × (List T) × Int × Int × (List T) × (List T) × (List T) × Int × Int × (List T) × (List T) × (List T) × Int × Int × (List T) × (List T) × (List T) × Int × Int) (ex : Ex) (e : Env) (s : Sig) : Prop := (fun p0 => (ex = (.exit 0) ∧ e = SEnv.env 162 [(15, (V.ptr 0 0)), (16, (V.ptr 1 0)), (17, (V.ptr 2 0)), (18, (V.ptr 3 0))] ∧ s = [some [(V.t (T.list p0.1)), (V.t (T.list p0.2.1)), (V.t (T.list p0.2.2.1)), (V.t (T.sc (.int .i64 p0.2.2.2.1))), (V.t (T.sc (.int .i64 p0.2.2.2.2.1)))], some [(V.t (T.list p0.2.2.2.2.2.1)), (V.t (T.list p0.2.2.2.2.2.2.1)), (V.t (T.list p0.2.2.2.2.2.2.2.1)), (V.t (T.sc (.int .i64 p0.2.2.2.2.2.2.2.2.1))), (V.t (T.sc (.int .i64 p0.2.2.2.2.2.2.2.2.2.1)))], some [(V.own 3 p0.2.2.2.2.2.2.2.2.2.2.1), (V.own 0 p0.2.2.2.2.2.2.2.2.2.2.2.1), (V.t (T.list p0.2.2.2.2.2.2.2.2.2.2.2.2.1)), (V.t (T.sc (.int .i64 p0.2.2.2.2.2.2.2.2.2.2.2.2.2.1))), (V.t (T.sc (.int .i64 p0.2.2.2.2.2.2.2.2.2.2.2.2.2.2.1)))], some [(V.own 0 p0.2.2.2.2.2.2.2.2.2.2.2.2.2.2.2.1), (V.own 0 p0.2.2.2.2.2.2.2.2.2.2.2.2.2.2.2.2.1), (V.t (T.list p0.2.2.2.2.2.2.2.2.2.2.2.2.2.2.2.2.2.1)), (V.t (T.sc (.int .i64 p0.2.2.2.2.2.2.2.2.2.2.2.2.2.2.2.2.2.2.1))), (V.t (T.sc (.int .i64 p0.2.2.2.2.2.2.2.2.2.2.2.2.2.2.2.2.2.2.2)))]])) x
theorem l_suturelaw28_JudgeOrder_6_run (n : Nat) : ∀ (m : Nat) (s0 : Int) (s1 : List T) (s2 : List T) (s3 : List T) (s4 : Int) (s5 : Int) (s6 : List T) (s7 : List T) (s8 : List T) (s9 : Int) (s10 : Int) (s11 : List T) (s12 : List T) (s13 : List T) (s14 : Int) (s15 : Int) (s16 : List T) (s17 : List T) (s18 : List T) (s19 : Int) (s20 : Int) (x : (List T) × (List T) × (List T) × Int × Int × (List T) × (List T) × (List T) × Int × Int × (List T) × (List T) × (List T) × Int × Int × (List T) × (List T) × (List T) × Int × Int), l_suturelaw28_JudgeOrder_6 n m (s0, s1, s2, s3, s4, s5, s6, s7, s8, s9, s10, s11, s12, s13, s14, s15, s16, s17, s18, s19, s20) = some x → SemL Try.prog 0 code_l_suturelaw28_JudgeOrder_6 (SEnv.env 162 [(15, (V.ptr 0 0)), (16, (V.ptr 1 0)), (17, (V.ptr 2 0)), (18, (V.ptr 3 0)), (19, (V.t (T.sc (.int .i64 s0))))]) [some [(V.t (T.list s1)), (V.t (T.list s2)), (V.t (T.list s3)), (V.t (T.sc (.int .i64 s4))), (V.t (T.sc (.int .i64 s5)))], some [(V.t (T.list s6)), (V.t (T.list s7)), (V.t (T.list s8)), (V.t (T.sc (.int .i64 s9))), (V.t (T.sc (.int .i64 s10)))], some [(V.own 3 s11), (V.own 0 s12), (V.t (T.list s13)), (V.t (T.sc (.int .i64 s14))), (V.t (T.sc (.int .i64 s15)))], some [(V.own 0 s16), (V.own 0 s17), (V.t (T.list s18)), (V.t (T.sc (.int .i64 s19))), (V.t (T.sc (.int .i64 s20)))]] (l_suturelaw28_JudgeOrder_6_Q x)
  | 0, s0, s1, s2, s3, s4, s5, s6, s7, s8, s9, s10, s11, s12, s13, s14, s15, s16, s17, s18, s19, s20, x, h => by cases h
  | m + 1, s0, s1, s2, s3, s4, s5, s6, s7, s8, s9, s10, s11, s12, s13, s14, s15, s16, s17, s18, s19, s20, x, h => by
    refine loop_step (sp_suturelaw28_JudgeOrder_ok n) code_l_suturelaw28_JudgeOrder_6_ok (fun a ha => absurd ha (by rw [show loopsOf code_l_suturelaw28_JudgeOrder_6 = [] from by kernel_rfl]; simp)) ((l_suturelaw28_JudgeOrder_6_eq n _ s0 s1 s2 s3 s4 s5 s6 s7 s8 s9 s10 s11 s12 s13 s14 s15 s16 s17 s18 s19 s20).trans h) (fun E sg h => ?_) (fun ex E sg hne h => ?_)
    · simp only [l_suturelaw28_JudgeOrder_6_K] at h
      obtain ⟨u0, hu0, h⟩ := Option.bind_eq_some_iff.1 h
      obtain ⟨u1, hu1, h⟩ := Option.bind_eq_some_iff.1 h
      obtain ⟨u2, hu2, h⟩ := Option.bind_eq_some_iff.1 h
      obtain ⟨u3, hu3, h⟩ := Option.bind_eq_some_iff.1 h
      obtain ⟨u4, hu4, h⟩ := Option.bind_eq_some_iff.1 h
      obtain ⟨u5, hu5, h⟩ := Option.bind_eq_some_iff.1 h
      obtain ⟨u6, hu6, h⟩ := Option.bind_eq_some_iff.1 h
      obtain ⟨u7, hu7, h⟩ := Option.bind_eq_some_iff.1 h
      obtain ⟨u8, hu8, h⟩ := Option.bind_eq_some_iff.1 h
      obtain ⟨u9, hu9, h⟩ := Option.bind_eq_some_iff.1 h
      obtain ⟨u10, hu10, h⟩ := Option.bind_eq_some_iff.1 h
      obtain ⟨u11, hu11, h⟩ := Option.bind_eq_some_iff.1 h
      obtain ⟨u12, hu12, h⟩ := Option.bind_eq_some_iff.1 h
      obtain ⟨u13, hu13, h⟩ := Option.bind_eq_some_iff.1 h
      obtain ⟨u14, hu14, h⟩ := Option.bind_eq_some_iff.1 h
      obtain ⟨u15, hu15, h⟩ := Option.bind_eq_some_iff.1 h
      obtain ⟨u16, hu16, h⟩ := Option.bind_eq_some_iff.1 h
      obtain ⟨u17, hu17, h⟩ := Option.bind_eq_some_iff.1 h
      obtain ⟨u18, hu18, h⟩ := Option.bind_eq_some_iff.1 h
      obtain ⟨u19, hu19, h⟩ := Option.bind_eq_some_iff.1 h
      obtain ⟨u20, hu20, h⟩ := Option.bind_eq_some_iff.1 h
      obtain ⟨u21, hu21, h⟩ := Option.bind_eq_some_iff.1 h
      obtain ⟨u22, hu22, h⟩ := Option.bind_eq_some_iff.1 h
      obtain ⟨u23, hu23, h⟩ := Option.bind_eq_some_iff.1 h
      obtain ⟨u24, hu24, h⟩ := Option.bind_eq_some_iff.1 h
      obtain ⟨u25, hu25, h⟩ := Option.bind_eq_some_iff.1 h
      obtain ⟨u26, hu26, h⟩ := Option.bind_eq_some_iff.1 h
      obtain ⟨u27, hu27, h⟩ := Option.bind_eq_some_iff.1 h
      obtain ⟨u28, hu28, h⟩ := Option.bind_eq_some_iff.1 h
      exact SemL.pre (k := 4) (by decide) (WkA.env (WkA.cons (ptrOf_wk hu0) rfl (WkA.cons (ptrOf_wk hu1) rfl (WkA.cons (ptrOf_wk hu2) rfl (WkA.cons (ptrOf_wk hu3) rfl (WkA.cons (intOf_wk hu4) rfl WkA.nil))))) 162) (wkR_sig (WkR.cons (cellsN_wk hu5 (.cons (lstOf_wk hu6) (.cons (lstOf_wk hu7) (.cons (lstOf_wk hu8) (.cons (intOf_wk hu9) (.cons (intOf_wk hu10) .nil)))))).1 (cellsN_wk hu5 (.cons (lstOf_wk hu6) (.cons (lstOf_wk hu7) (.cons (lstOf_wk hu8) (.cons (intOf_wk hu9) (.cons (intOf_wk hu10) .nil)))))).2 (renL_mem (.cons rfl (.cons rfl (.cons rfl (.cons rfl (.cons rfl .nil)))))) (WkR.cons (cellsN_wk hu11 (.cons (lstOf_wk hu12) (.cons (lstOf_wk hu13) (.cons (lstOf_wk hu14) (.cons (intOf_wk hu15) (.cons (intOf_wk hu16) .nil)))))).1 (cellsN_wk hu11 (.cons (lstOf_wk hu12) (.cons (lstOf_wk hu13) (.cons (lstOf_wk hu14) (.cons (intOf_wk hu15) (.cons (intOf_wk hu16) .nil)))))).2 (renL_mem (.cons rfl (.cons rfl (.cons rfl (.cons rfl (.cons rfl .nil)))))) (WkR.cons (cellsN_wk hu17 (.cons (ownOf_wk hu18) (.cons (ownOf_wk hu19) (.cons (lstOf_wk hu20) (.cons (intOf_wk hu21) (.cons (intOf_wk hu22) .nil)))))).1 (cellsN_wk hu17 (.cons (ownOf_wk hu18) (.cons (ownOf_wk hu19) (.cons (lstOf_wk hu20) (.cons (intOf_wk hu21) (.cons (intOf_wk hu22) .nil)))))).2 (renL_mem (.cons rfl (.cons rfl (.cons rfl (.cons rfl (.cons rfl .nil)))))) (WkR.cons (cellsN_wk hu23 (.cons (ownOf_wk hu24) (.cons (ownOf_wk hu25) (.cons (lstOf_wk hu26) (.cons (intOf_wk hu27) (.cons (intOf_wk hu28) .nil)))))).1 (cellsN_wk hu23 (.cons (ownOf_wk hu24) (.cons (ownOf_wk hu25) (.cons (lstOf_wk hu26) (.cons (intOf_wk hu27) (.cons (intOf_wk hu28) .nil)))))).2 (renL_mem (.cons rfl (.cons rfl (.cons rfl (.cons rfl (.cons rfl .nil)))))) (WkR.nil _))))) rfl) (l_suturelaw28_JudgeOrder_6_run n m _ _ _ _ _ _ _ _ _ _ _ _ _ _ _ _ _ _ _ _ _ x h)
    · unfold l_suturelaw28_JudgeOrder_6_K at h
      split at h
      · exact absurd rfl hne
      · obtain ⟨u0, hu0, h⟩ := Option.bind_eq_some_iff.1 h
        obtain ⟨u1, hu1, h⟩ := Option.bind_eq_some_iff.1 h
        obtain ⟨u2, hu2, h⟩ := Option.bind_eq_some_iff.1 h
        obtain ⟨u3, hu3, h⟩ := Option.bind_eq_some_iff.1 h
        obtain ⟨u4, hu4, h⟩ := Option.bind_eq_some_iff.1 h
        obtain ⟨u5, hu5, h⟩ := Option.bind_eq_some_iff.1 h
        obtain ⟨u6, hu6, h⟩ := Option.bind_eq_some_iff.1 h
        obtain ⟨u7, hu7, h⟩ := Option.bind_eq_some_iff.1 h
        obtain ⟨u8, hu8, h⟩ := Option.bind_eq_some_iff.1 h
        obtain ⟨u9, hu9, h⟩ := Option.bind_eq_some_iff.1 h
        obtain ⟨u10, hu10, h⟩ := Option.bind_eq_some_iff.1 h
        obtain ⟨u11, hu11, h⟩ := Option.bind_eq_some_iff.1 h
        obtain ⟨u12, hu12, h⟩ := Option.bind_eq_some_iff.1 h
        obtain ⟨u13, hu13, h⟩ := Option.bind_eq_some_iff.1 h
        obtain ⟨u14, hu14, h⟩ := Option.bind_eq_some_iff.1 h
        obtain ⟨u15, hu15, h⟩ := Option.bind_eq_some_iff.1 h
        obtain ⟨u16, hu16, h⟩ := Option.bind_eq_some_iff.1 h
        obtain ⟨u17, hu17, h⟩ := Option.bind_eq_some_iff.1 h
        obtain ⟨u18, hu18, h⟩ := Option.bind_eq_some_iff.1 h
        obtain ⟨u19, hu19, h⟩ := Option.bind_eq_some_iff.1 h
        obtain ⟨u20, hu20, h⟩ := Option.bind_eq_some_iff.1 h
        obtain ⟨u21, hu21, h⟩ := Option.bind_eq_some_iff.1 h
        obtain ⟨u22, hu22, h⟩ := Option.bind_eq_some_iff.1 h
        obtain ⟨u23, hu23, h⟩ := Option.bind_eq_some_iff.1 h
        obtain ⟨u24, hu24, h⟩ := Option.bind_eq_some_iff.1 h
        obtain ⟨u25, hu25, h⟩ := Option.bind_eq_some_iff.1 h
        obtain ⟨u26, hu26, h⟩ := Option.bind_eq_some_iff.1 h
        obtain ⟨u27, hu27, h⟩ := Option.bind_eq_some_iff.1 h
        simp only [Option.some.injEq] at h
        subst h
        exact ⟨4, _, _, by decide, WkA.env (WkA.cons (ptrOf_wk hu0) rfl (WkA.cons (ptrOf_wk hu1) rfl (WkA.cons (ptrOf_wk hu2) rfl (WkA.cons (ptrOf_wk hu3) rfl WkA.nil)))) 162, (wkR_sig (WkR.cons (cellsN_wk hu4 (.cons (lstOf_wk hu5) (.cons (lstOf_wk hu6) (.cons (lstOf_wk hu7) (.cons (intOf_wk hu8) (.cons (intOf_wk hu9) .nil)))))).1 (cellsN_wk hu4 (.cons (lstOf_wk hu5) (.cons (lstOf_wk hu6) (.cons (lstOf_wk hu7) (.cons (intOf_wk hu8) (.cons (intOf_wk hu9) .nil)))))).2 (renL_mem (.cons rfl (.cons rfl (.cons rfl (.cons rfl (.cons rfl .nil)))))) (WkR.cons (cellsN_wk hu10 (.cons (lstOf_wk hu11) (.cons (lstOf_wk hu12) (.cons (lstOf_wk hu13) (.cons (intOf_wk hu14) (.cons (intOf_wk hu15) .nil)))))).1 (cellsN_wk hu10 (.cons (lstOf_wk hu11) (.cons (lstOf_wk hu12) (.cons (lstOf_wk hu13) (.cons (intOf_wk hu14) (.cons (intOf_wk hu15) .nil)))))).2 (renL_mem (.cons rfl (.cons rfl (.cons rfl (.cons rfl (.cons rfl .nil)))))) (WkR.cons (cellsN_wk hu16 (.cons (ownOf_wk hu17) (.cons (ownOf_wk hu18) (.cons (lstOf_wk hu19) (.cons (intOf_wk hu20) (.cons (intOf_wk hu21) .nil)))))).1 (cellsN_wk hu16 (.cons (ownOf_wk hu17) (.cons (ownOf_wk hu18) (.cons (lstOf_wk hu19) (.cons (intOf_wk hu20) (.cons (intOf_wk hu21) .nil)))))).2 (renL_mem (.cons rfl (.cons rfl (.cons rfl (.cons rfl (.cons rfl .nil)))))) (WkR.cons (cellsN_wk hu22 (.cons (ownOf_wk hu23) (.cons (ownOf_wk hu24) (.cons (lstOf_wk hu25) (.cons (intOf_wk hu26) (.cons (intOf_wk hu27) .nil)))))).1 (cellsN_wk hu22 (.cons (ownOf_wk hu23) (.cons (ownOf_wk hu24) (.cons (lstOf_wk hu25) (.cons (intOf_wk hu26) (.cons (intOf_wk hu27) .nil)))))).2 (renL_mem (.cons rfl (.cons rfl (.cons rfl (.cons rfl (.cons rfl .nil)))))) (WkR.nil _))))) rfl), rfl, rfl, rfl⟩
      · cases h
theorem l_suturelaw28_JudgeOrder_6_ok (n : Nat) : LoopOk Try.prog (sp_suturelaw28_JudgeOrder n) 0 162 code_l_suturelaw28_JudgeOrder_6 := by
    intro R key E sg K r hk h
    rw [show Go.Eng.keyOf code_l_suturelaw28_JudgeOrder_6 = some 6 from by kernel_rfl] at hk
    cases hk
    have h : l_suturelaw28_JudgeOrder_6_S n R E sg K = some r := h
    unfold l_suturelaw28_JudgeOrder_6_S at h
    obtain ⟨u0, hu0, h⟩ := Option.bind_eq_some_iff.1 h
    obtain ⟨u1, hu1, h⟩ := Option.bind_eq_some_iff.1 h
    obtain ⟨u2, hu2, h⟩ := Option.bind_eq_some_iff.1 h
    obtain ⟨u3, hu3, h⟩ := Option.bind_eq_some_iff.1 h
    obtain ⟨u4, hu4, h⟩ := Option.bind_eq_some_iff.1 h
    obtain ⟨u5, hu5, h⟩ := Option.bind_eq_some_iff.1 h
    obtain ⟨u6, hu6, h⟩ := Option.bind_eq_some_iff.1 h
    obtain ⟨u7, hu7, h⟩ := Option.bind_eq_some_iff.1 h
    obtain ⟨u8, hu8, h⟩ := Option.bind_eq_some_iff.1 h
    obtain ⟨u9, hu9, h⟩ := Option.bind_eq_some_iff.1 h
    obtain ⟨u10, hu10, h⟩ := Option.bind_eq_some_iff.1 h
    obtain ⟨u11, hu11, h⟩ := Option.bind_eq_some_iff.1 h
    obtain ⟨u12, hu12, h⟩ := Option.bind_eq_some_iff.1 h
    obtain ⟨u13, hu13, h⟩ := Option.bind_eq_some_iff.1 h
    obtain ⟨u14, hu14, h⟩ := Option.bind_eq_some_iff.1 h
    obtain ⟨u15, hu15, h⟩ := Option.bind_eq_some_iff.1 h
    obtain ⟨u16, hu16, h⟩ := Option.bind_eq_some_iff.1 h
    obtain ⟨u17, hu17, h⟩ := Option.bind_eq_some_iff.1 h
    obtain ⟨u18, hu18, h⟩ := Option.bind_eq_some_iff.1 h
    obtain ⟨u19, hu19, h⟩ := Option.bind_eq_some_iff.1 h
    obtain ⟨u20, hu20, h⟩ := Option.bind_eq_some_iff.1 h
    obtain ⟨u21, hu21, h⟩ := Option.bind_eq_some_iff.1 h
    obtain ⟨u22, hu22, h⟩ := Option.bind_eq_some_iff.1 h
    obtain ⟨u23, hu23, h⟩ := Option.bind_eq_some_iff.1 h
    obtain ⟨u24, hu24, h⟩ := Option.bind_eq_some_iff.1 h
    obtain ⟨u25, hu25, h⟩ := Option.bind_eq_some_iff.1 h
    obtain ⟨u26, hu26, h⟩ := Option.bind_eq_some_iff.1 h
    obtain ⟨u27, hu27, h⟩ := Option.bind_eq_some_iff.1 h
    obtain ⟨u28, hu28, h⟩ := Option.bind_eq_some_iff.1 h
    obtain ⟨x, hx, h⟩ := Option.bind_eq_some_iff.1 h
    refine (SemL.pre (k := 4) (by decide) (WkA.env (WkA.cons (ptrOf_wk hu0) rfl (WkA.cons (ptrOf_wk hu1) rfl (WkA.cons (ptrOf_wk hu2) rfl (WkA.cons (ptrOf_wk hu3) rfl (WkA.cons (intOf_wk hu4) rfl WkA.nil))))) 162) (wkR_sig (WkR.cons (cellsN_wk hu5 (.cons (lstOf_wk hu6) (.cons (lstOf_wk hu7) (.cons (lstOf_wk hu8) (.cons (intOf_wk hu9) (.cons (intOf_wk hu10) .nil)))))).1 (cellsN_wk hu5 (.cons (lstOf_wk hu6) (.cons (lstOf_wk hu7) (.cons (lstOf_wk hu8) (.cons (intOf_wk hu9) (.cons (intOf_wk hu10) .nil)))))).2 (renL_mem (.cons rfl (.cons rfl (.cons rfl (.cons rfl (.cons rfl .nil)))))) (WkR.cons (cellsN_wk hu11 (.cons (lstOf_wk hu12) (.cons (lstOf_wk hu13) (.cons (lstOf_wk hu14) (.cons (intOf_wk hu15) (.cons (intOf_wk hu16) .nil)))))).1 (cellsN_wk hu11 (.cons (lstOf_wk hu12) (.cons (lstOf_wk hu13) (.cons (lstOf_wk hu14) (.cons (intOf_wk hu15) (.cons (intOf_wk hu16) .nil)))))).2 (renL_mem (.cons rfl (.cons rfl (.cons rfl (.cons rfl (.cons rfl .nil)))))) (WkR.cons (cellsN_wk hu17 (.cons (ownOf_wk hu18) (.cons (ownOf_wk hu19) (.cons (lstOf_wk hu20) (.cons (intOf_wk hu21) (.cons (intOf_wk hu22) .nil)))))).1 (cellsN_wk hu17 (.cons (ownOf_wk hu18) (.cons (ownOf_wk hu19) (.cons (lstOf_wk hu20) (.cons (intOf_wk hu21) (.cons (intOf_wk hu22) .nil)))))).2 (renL_mem (.cons rfl (.cons rfl (.cons rfl (.cons rfl (.cons rfl .nil)))))) (WkR.cons (cellsN_wk hu23 (.cons (ownOf_wk hu24) (.cons (ownOf_wk hu25) (.cons (lstOf_wk hu26) (.cons (intOf_wk hu27) (.cons (intOf_wk hu28) .nil)))))).1 (cellsN_wk hu23 (.cons (ownOf_wk hu24) (.cons (ownOf_wk hu25) (.cons (lstOf_wk hu26) (.cons (intOf_wk hu27) (.cons (intOf_wk hu28) .nil)))))).2 (renL_mem (.cons rfl (.cons rfl (.cons rfl (.cons rfl (.cons rfl .nil)))))) (WkR.nil _))))) rfl) (l_suturelaw28_JudgeOrder_6_run n n _ _ _ _ _ _ _ _ _ _ _ _ _ _ _ _ _ _ _ _ _ x hx)).mono ?_
    intro ex e s hq
    obtain ⟨rfl, rfl, rfl⟩ := hq
    exact ⟨_, rfl, h⟩
noncomputable def code_l_suturelaw28_JudgeOrder_10 : Code := (loopsOf code_suturelaw28_JudgeOrder).getD 1 .skip
theorem code_l_suturelaw28_JudgeOrder_10_ok : CodeOk Try.prog code_l_suturelaw28_JudgeOrder_10 := codeOk_loops code_suturelaw28_JudgeOrder_ok _ (getD_mem (by kernel_rfl))
def l_suturelaw28_JudgeOrder_10_K (k : Int × (List T) × (List T) × (List T) × Int × Int × (List T) × (List T) × (List T) × Int × Int × (List T) × (List T) × (List T) × Int × Int × (List T) × (List T) × (List T) × Int × Int → Option ((List T) × (List T) × (List T) × Int × Int × (List T) × (List T) × (List T) × Int × Int × (List T) × (List T) × (List T) × Int × Int × (List T) × (List T) × (List T) × Int × Int)) : Ex → SEnv → Sig → Option ((List T) × (List T) × (List T) × Int × Int × (List T) × (List T) × (List T) × Int × Int × (List T) × (List T) × (List T) × Int × Int × (List T) × (List T) × (List T) × Int × Int) := fun x E sg => match x with
  | .normal => Option.bind (V.ptrOf 0 0 (SEnv.at E 15)) fun u0 => Option.bind (V.ptrOf 1 0 (SEnv.at E 16)) fun u1 => Option.bind (V.ptrOf 2 0 (SEnv.at E 17)) fun u2 => Option.bind (V.ptrOf 3 0 (SEnv.at E 18)) fun u3 => Option.bind (V.intOf .i64 (SEnv.at E 20)) fun u4 => Option.bind (cellsN 5 sg 0) fun u5 => Option.bind (V.lstOf (u5.getD 0 .any)) fun u6 => Option.bind (V.lstOf (u5.getD 1 .any)) fun u7 => Option.bind (V.lstOf (u5.getD 2 .any)) fun u8 => Option.bind (V.intOf .i64 (u5.getD 3 .any)) fun u9 => Option.bind (V.intOf .i64 (u5.getD 4 .any)) fun u10 => Option.bind (cellsN 5 sg 1) fun u11 => Option.bind (V.lstOf (u11.getD 0 .any)) fun u12 => Option.bind (V.lstOf (u11.getD 1 .any)) fun u13 => Option.bind (V.lstOf (u11.getD 2 .any)) fun u14 => Option.bind (V.intOf .i64 (u11.getD 3 .any)) fun u15 => Option.bind (V.intOf .i64 (u11.getD 4 .any)) fun u16 => Option.bind (cellsN 5 sg 2) fun u17 => Option.bind (V.ownOf 3 (u17.getD 0 .any)) fun u18 => Option.bind (V.ownOf 1 (u17.getD 1 .any)) fun u19 => Option.bind (V.lstOf (u17.getD 2 .any)) fun u20 => Option.bind (V.intOf .i64 (u17.getD 3 .any)) fun u21 => Option.bind (V.intOf .i64 (u17.getD 4 .any)) fun u22 => Option.bind (cellsN 5 sg 3) fun u23 => Option.bind (V.ownOf 0 (u23.getD 0 .any)) fun u24 => Option.bind (V.ownOf 0 (u23.getD 1 .any)) fun u25 => Option.bind (V.lstOf (u23.getD 2 .any)) fun u26 => Option.bind (V.intOf .i64 (u23.getD 3 .any)) fun u27 => Option.bind (V.intOf .i64 (u23.getD 4 .any)) fun u28 => k (u4, u6, u7, u8, u9, u10, u12, u13, u14, u15, u16, u18, u19, u20, u21, u22, u24, u25, u26, u27, u28)
  | (.exit 2) => Option.bind (V.ptrOf 0 0 (SEnv.at E 15)) fun u0 => Option.bind (V.ptrOf 1 0 (SEnv.at E 16)) fun u1 => Option.bind (V.ptrOf 2 0 (SEnv.at E 17)) fun u2 => Option.bind (V.ptrOf 3 0 (SEnv.at E 18)) fun u3 => Option.bind (cellsN 5 sg 0) fun u4 => Option.bind (V.lstOf (u4.getD 0 .any)) fun u5 => Option.bind (V.lstOf (u4.getD 1 .any)) fun u6 => Option.bind (V.lstOf (u4.getD 2 .any)) fun u7 => Option.bind (V.intOf .i64 (u4.getD 3 .any)) fun u8 => Option.bind (V.intOf .i64 (u4.getD 4 .any)) fun u9 => Option.bind (cellsN 5 sg 1) fun u10 => Option.bind (V.lstOf (u10.getD 0 .any)) fun u11 => Option.bind (V.lstOf (u10.getD 1 .any)) fun u12 => Option.bind (V.lstOf (u10.getD 2 .any)) fun u13 => Option.bind (V.intOf .i64 (u10.getD 3 .any)) fun u14 => Option.bind (V.intOf .i64 (u10.getD 4 .any)) fun u15 => Option.bind (cellsN 5 sg 2) fun u16 => Option.bind (V.ownOf 3 (u16.getD 0 .any)) fun u17 => Option.bind (V.ownOf 1 (u16.getD 1 .any)) fun u18 => Option.bind (V.lstOf (u16.getD 2 .any)) fun u19 => Option.bind (V.intOf .i64 (u16.getD 3 .any)) fun u20 => Option.bind (V.intOf .i64 (u16.getD 4 .any)) fun u21 => Option.bind (cellsN 5 sg 3) fun u22 => Option.bind (V.ownOf 0 (u22.getD 0 .any)) fun u23 => Option.bind (V.ownOf 0 (u22.getD 1 .any)) fun u24 => Option.bind (V.lstOf (u22.getD 2 .any)) fun u25 => Option.bind (V.intOf .i64 (u22.getD 3 .any)) fun u26 => Option.bind (V.intOf .i64 (u22.getD 4 .any)) fun u27 => some (u5, u6, u7, u8, u9, u11, u12, u13, u14, u15, u17, u18, u19, u20, u21, u23, u24, u25, u26, u27)
  | _ => none
theorem l_suturelaw28_JudgeOrder_10_eq (n : Nat) (k : Int × (List T) × (List T) × (List T) × Int × Int × (List T) × (List T) × (List T) × Int × Int × (List T) × (List T) × (List T) × Int × Int × (List T) × (List T) × (List T) × Int × Int → Option ((List T) × (List T) × (List T) × Int × Int × (List T) × (List T) × (List T) × Int × Int × (List T) × (List T) × (List T) × Int × Int × (List T) × (List T) × (List T) × Int × Int)) (s0 : Int) (s1 : List T) (s2 : List T) (s3 : List T) (s4 : Int) (s5 : Int) (s6 : List T) (s7 : List T) (s8 : List T) (s9 : Int) (s10 : Int) (s11 : List T) (s12 : List T) (s13 : List T) (s14 : Int) (s15 : Int) (s16 : List T) (s17 : List T) (s18 : List T) (s19 : Int) (s20 : Int) : mX Try.prog (sp_suturelaw28_JudgeOrder n) 162 code_l_suturelaw28_JudgeOrder_10 [(15, (V.ptr 0 0)), (16, (V.ptr 1 0)), (17, (V.ptr 2 0)), (18, (V.ptr 3 0)), (20, (V.t (T.sc (.int .i64 s0))))] [some [(V.t (T.list s1)), (V.t (T.list s2)), (V.t (T.list s3)), (V.t (T.sc (.int .i64 s4))), (V.t (T.sc (.int .i64 s5)))], some [(V.t (T.list s6)), (V.t (T.list s7)), (V.t (T.list s8)), (V.t (T.sc (.int .i64 s9))), (V.t (T.sc (.int .i64 s10)))], some [(V.own 3 s11), (V.own 1 s12), (V.t (T.list s13)), (V.t (T.sc (.int .i64 s14))), (V.t (T.sc (.int .i64 s15)))], some [(V.own 0 s16), (V.own 0 s17), (V.t (T.list s18)), (V.t (T.sc (.int .i64 s19))), (V.t (T.sc (.int .i64 s20)))]] (l_suturelaw28_JudgeOrder_10_K k) = l_suturelaw28_JudgeOrder_10_B n k (s0, s1, s2, s3, s4, s5, s6, s7, s8, s9, s10, s11, s12, s13, s14, s15, s16, s17, s18, s19, s20) := by kernel_rfl
def l_suturelaw28_JudgeOrder_10_Q (x : (List T) × (List T) × (List T) × Int × Int × (List T) × (List T) × (List T) × Int × Int × (List T) × (List T) × (List T) × Int × Int × (List T) × (List T) × (List T) × Int × Int) (ex : Ex) (e : Env) (s : Sig) : Prop := (fun p0 => (ex = (.exit 2) ∧ e = SEnv.env 162 [(15, (V.ptr 0 0)), (16, (V.ptr 1 0)), (17, (V.ptr 2 0)), (18, (V.ptr 3 0))] ∧ s = [some [(V.t (T.list p0.1)), (V.t (T.list p0.2.1)), (V.t (T.list p0.2.2.1)), (V.t (T.sc (.int .i64 p0.2.2.2.1))), (V.t (T.sc (.int .i64 p0.2.2.2.2.1)))], some [(V.t (T.list p0.2.2.2.2.2.1)), (V.t (T.list p0.2.2.2.2.2.2.1)), (V.t (T.list p0.2.2.2.2.2.2.2.1)), (V.t (T.sc (.int .i64 p0.2.2.2.2.2.2.2.2.1))), (V.t (T.sc (.int .i64 p0.2.2.2.2.2.2.2.2.2.1)))], some [(V.own 3 p0.2.2.2.2.2.2.2.2.2.2.1), (V.own 1 p0.2.2.2.2.2.2.2.2.2.2.2.1), (V.t (T.list p0.2.2.2.2.2.2.2.2.2.2.2.2.1)), (V.t (T.sc (.int .i64 p0.2.2.2.2.2.2.2.2.2.2.2.2.2.1))), (V.t (T.sc (.int .i64 p0.2.2.2.2.2.2.2.2.2.2.2.2.2.2.1)))], some [(V.own 0 p0.2.2.2.2.2.2.2.2.2.2.2.2.2.2.2.1), (V.own 0 p0.2.2.2.2.2.2.2.2.2.2.2.2.2.2.2.2.1), (V.t (T.list p0.2.2.2.2.2.2.2.2.2.2.2.2.2.2.2.2.2.1)), (V.t (T.sc (.int .i64 p0.2.2.2.2.2.2.2.2.2.2.2.2.2.2.2.2.2.2.1))), (V.t (T.sc (.int .i64 p0.2.2.2.2.2.2.2.2.2.2.2.2.2.2.2.2.2.2.2)))]])) x
theorem l_suturelaw28_JudgeOrder_10_run (n : Nat) : ∀ (m : Nat) (s0 : Int) (s1 : List T) (s2 : List T) (s3 : List T) (s4 : Int) (s5 : Int) (s6 : List T) (s7 : List T) (s8 : List T) (s9 : Int) (s10 : Int) (s11 : List T) (s12 : List T) (s13 : List T) (s14 : Int) (s15 : Int) (s16 : List T) (s17 : List T) (s18 : List T) (s19 : Int) (s20 : Int) (x : (List T) × (List T) × (List T) × Int × Int × (List T) × (List T) × (List T) × Int × Int × (List T) × (List T) × (List T) × Int × Int × (List T) × (List T) × (List T) × Int × Int), l_suturelaw28_JudgeOrder_10 n m (s0, s1, s2, s3, s4, s5, s6, s7, s8, s9, s10, s11, s12, s13, s14, s15, s16, s17, s18, s19, s20) = some x → SemL Try.prog 0 code_l_suturelaw28_JudgeOrder_10 (SEnv.env 162 [(15, (V.ptr 0 0)), (16, (V.ptr 1 0)), (17, (V.ptr 2 0)), (18, (V.ptr 3 0)), (20, (V.t (T.sc (.int .i64 s0))))]) [some [(V.t (T.list s1)), (V.t (T.list s2)), (V.t (T.list s3)), (V.t (T.sc (.int .i64 s4))), (V.t (T.sc (.int .i64 s5)))], some [(V.t (T.list s6)), (V.t (T.list s7)), (V.t (T.list s8)), (V.t (T.sc (.int .i64 s9))), (V.t (T.sc (.int .i64 s10)))], some [(V.own 3 s11), (V.own 1 s12), (V.t (T.list s13)), (V.t (T.sc (.int .i64 s14))), (V.t (T.sc (.int .i64 s15)))], some [(V.own 0 s16), (V.own 0 s17), (V.t (T.list s18)), (V.t (T.sc (.int .i64 s19))), (V.t (T.sc (.int .i64 s20)))]] (l_suturelaw28_JudgeOrder_10_Q x)
  | 0, s0, s1, s2, s3, s4, s5, s6, s7, s8, s9, s10, s11, s12, s13, s14, s15, s16, s17, s18, s19, s20, x, h => by cases h
  | m + 1, s0, s1, s2, s3, s4, s5, s6, s7, s8, s9, s10, s11, s12, s13, s14, s15, s16, s17, s18, s19, s20, x, h => by
    refine loop_step (sp_suturelaw28_JudgeOrder_ok n) code_l_suturelaw28_JudgeOrder_10_ok (fun a ha => absurd ha (by rw [show loopsOf code_l_suturelaw28_JudgeOrder_10 = [] from by kernel_rfl]; simp)) ((l_suturelaw28_JudgeOrder_10_eq n _ s0 s1 s2 s3 s4 s5 s6 s7 s8 s9 s10 s11 s12 s13 s14 s15 s16 s17 s18 s19 s20).trans h) (fun E sg h => ?_) (fun ex E sg hne h => ?_)
    · simp only [l_suturelaw28_JudgeOrder_10_K] at h
      obtain ⟨u0, hu0, h⟩ := Option.bind_eq_some_iff.1 h
      obtain ⟨u1, hu1, h⟩ := Option.bind_eq_some_iff.1 h
      obtain ⟨u2, hu2, h⟩ := Option.bind_eq_some_iff.1 h
      obtain ⟨u3, hu3, h⟩ := Option.bind_eq_some_iff.1 h
      obtain ⟨u4, hu4, h⟩ := Option.bind_eq_some_iff.1 h
      obtain ⟨u5, hu5, h⟩ := Option.bind_eq_some_iff.1 h
      obtain ⟨u6, hu6, h⟩ := Option.bind_eq_some_iff.1 h
      obtain ⟨u7, hu7, h⟩ := Option.bind_eq_some_iff.1 h
      obtain ⟨u8, hu8, h⟩ := Option.bind_eq_some_iff.1 h
      obtain ⟨u9, hu9, h⟩ := Option.bind_eq_some_iff.1 h
      obtain ⟨u10, hu10, h⟩ := Option.bind_eq_some_iff.1 h
      obtain ⟨u11, hu11, h⟩ := Option.bind_eq_some_iff.1 h
      obtain ⟨u12, hu12, h⟩ := Option.bind_eq_some_iff.1 h
      obtain ⟨u13, hu13, h⟩ := Option.bind_eq_some_iff.1 h
      obtain ⟨u14, hu14, h⟩ := Option.bind_eq_some_iff.1 h
      obtain ⟨u15, hu15, h⟩ := Option.bind_eq_some_iff.1 h
      obtain ⟨u16, hu16, h⟩ := Option.bind_eq_some_iff.1 h
      obtain ⟨u17, hu17, h⟩ := Option.bind_eq_some_iff.1 h
      obtain ⟨u18, hu18, h⟩ := Option.bind_eq_some_iff.1 h
      obtain ⟨u19, hu19, h⟩ := Option.bind_eq_some_iff.1 h
      obtain ⟨u20, hu20, h⟩ := Option.bind_eq_some_iff.1 h
      obtain ⟨u21, hu21, h⟩ := Option.bind_eq_some_iff.1 h
      obtain ⟨u22, hu22, h⟩ := Option.bind_eq_some_iff.1 h
      obtain ⟨u23, hu23, h⟩ := Option.bind_eq_some_iff.1 h
      obtain ⟨u24, hu24, h⟩ := Option.bind_eq_some_iff.1 h
      obtain ⟨u25, hu25, h⟩ := Option.bind_eq_some_iff.1 h
      obtain ⟨u26, hu26, h⟩ := Option.bind_eq_some_iff.1 h
      obtain ⟨u27, hu27, h⟩ := Option.bind_eq_some_iff.1 h
      obtain ⟨u28, hu28, h⟩ := Option.bind_eq_some_iff.1 h
      exact SemL.pre (k := 4) (by decide) (WkA.env (WkA.cons (ptrOf_wk hu0) rfl (WkA.cons (ptrOf_wk hu1) rfl (WkA.cons (ptrOf_wk hu2) rfl (WkA.cons (ptrOf_wk hu3) rfl (WkA.cons (intOf_wk hu4) rfl WkA.nil))))) 162) (wkR_sig (WkR.cons (cellsN_wk hu5 (.cons (lstOf_wk hu6) (.cons (lstOf_wk hu7) (.cons (lstOf_wk hu8) (.cons (intOf_wk hu9) (.cons (intOf_wk hu10) .nil)))))).1 (cellsN_wk hu5 (.cons (lstOf_wk hu6) (.cons (lstOf_wk hu7) (.cons (lstOf_wk hu8) (.cons (intOf_wk hu9) (.cons (intOf_wk hu10) .nil)))))).2 (renL_mem (.cons rfl (.cons rfl (.cons rfl (.cons rfl (.cons rfl .nil)))))) (WkR.cons (cellsN_wk hu11 (.cons (lstOf_wk hu12) (.cons (lstOf_wk hu13) (.cons (lstOf_wk hu14) (.cons (intOf_wk hu15) (.cons (intOf_wk hu16) .nil)))))).1 (cellsN_wk hu11 (.cons (lstOf_wk hu12) (.cons (lstOf_wk hu13) (.cons (lstOf_wk hu14) (.cons (intOf_wk hu15) (.cons (intOf_wk hu16) .nil)))))).2 (renL_mem (.cons rfl (.cons rfl (.cons rfl (.cons rfl (.cons rfl .nil)))))) (WkR.cons (cellsN_wk hu17 (.cons (ownOf_wk hu18) (.cons (ownOf_wk hu19) (.cons (lstOf_wk hu20) (.cons (intOf_wk hu21) (.cons (intOf_wk hu22) .nil)))))).1 (cellsN_wk hu17 (.cons (ownOf_wk hu18) (.cons (ownOf_wk hu19) (.cons (lstOf_wk hu20) (.cons (intOf_wk hu21) (.cons (intOf_wk hu22) .nil)))))).2 (renL_mem (.cons rfl (.cons rfl (.cons rfl (.cons rfl (.cons rfl .nil)))))) (WkR.cons (cellsN_wk hu23 (.cons (ownOf_wk hu24) (.cons (ownOf_wk hu25) (.cons (lstOf_wk hu26) (.cons (intOf_wk hu27) (.cons (intOf_wk hu28) .nil)))))).1 (cellsN_wk hu23 (.cons (ownOf_wk hu24) (.cons (ownOf_wk hu25) (.cons (lstOf_wk hu26) (.cons (intOf_wk hu27) (.cons (intOf_wk hu28) .nil)))))).2 (renL_mem (.cons rfl (.cons rfl (.cons rfl (.cons rfl (.cons rfl .nil)))))) (WkR.nil _))))) rfl) (l_suturelaw28_JudgeOrder_10_run n m _ _ _ _ _ _ _ _ _ _ _ _ _ _ _ _ _ _ _ _ _ x h)
    · unfold l_suturelaw28_JudgeOrder_10_K at h
      split at h
      · exact absurd rfl hne
      · obtain ⟨u0, hu0, h⟩ := Option.bind_eq_some_iff.1 h
        obtain ⟨u1, hu1, h⟩ := Option.bind_eq_some_iff.1 h
        obtain ⟨u2, hu2, h⟩ := Option.bind_eq_some_iff.1 h
        obtain ⟨u3, hu3, h⟩ := Option.bind_eq_some_iff.1 h
        obtain ⟨u4, hu4, h⟩ := Option.bind_eq_some_iff.1 h
        obtain ⟨u5, hu5, h⟩ := Option.bind_eq_some_iff.1 h
        obtain ⟨u6, hu6, h⟩ := Option.bind_eq_some_iff.1 h
        obtain ⟨u7, hu7, h⟩ := Option.bind_eq_some_iff.1 h
        obtain ⟨u8, hu8, h⟩ := Option.bind_eq_some_iff.1 h
        obtain ⟨u9, hu9, h⟩ := Option.bind_eq_some_iff.1 h
        obtain ⟨u10, hu10, h⟩ := Option.bind_eq_some_iff.1 h
        obtain ⟨u11, hu11, h⟩ := Option.bind_eq_some_iff.1 h
        obtain ⟨u12, hu12, h⟩ := Option.bind_eq_some_iff.1 h
        obtain ⟨u13, hu13, h⟩ := Option.bind_eq_some_iff.1 h
        obtain ⟨u14, hu14, h⟩ := Option.bind_eq_some_iff.1 h
        obtain ⟨u15, hu15, h⟩ := Option.bind_eq_some_iff.1 h
        obtain ⟨u16, hu16, h⟩ := Option.bind_eq_some_iff.1 h
        obtain ⟨u17, hu17, h⟩ := Option.bind_eq_some_iff.1 h
        obtain ⟨u18, hu18, h⟩ := Option.bind_eq_some_iff.1 h
        obtain ⟨u19, hu19, h⟩ := Option.bind_eq_some_iff.1 h
        obtain ⟨u20, hu20, h⟩ := Option.bind_eq_some_iff.1 h
        obtain ⟨u21, hu21, h⟩ := Option.bind_eq_some_iff.1 h
        obtain ⟨u22, hu22, h⟩ := Option.bind_eq_some_iff.1 h
        obtain ⟨u23, hu23, h⟩ := Option.bind_eq_some_iff.1 h
        obtain ⟨u24, hu24, h⟩ := Option.bind_eq_some_iff.1 h
        obtain ⟨u25, hu25, h⟩ := Option.bind_eq_some_iff.1 h
        obtain ⟨u26, hu26, h⟩ := Option.bind_eq_some_iff.1 h
        obtain ⟨u27, hu27, h⟩ := Option.bind_eq_some_iff.1 h
        simp only [Option.some.injEq] at h
        subst h
        exact ⟨4, _, _, by decide, WkA.env (WkA.cons (ptrOf_wk hu0) rfl (WkA.cons (ptrOf_wk hu1) rfl (WkA.cons (ptrOf_wk hu2) rfl (WkA.cons (ptrOf_wk hu3) rfl WkA.nil)))) 162, (wkR_sig (WkR.cons (cellsN_wk hu4 (.cons (lstOf_wk hu5) (.cons (lstOf_wk hu6) (.cons (lstOf_wk hu7) (.cons (intOf_wk hu8) (.cons (intOf_wk hu9) .nil)))))).1 (cellsN_wk hu4 (.cons (lstOf_wk hu5) (.cons (lstOf_wk hu6) (.cons (lstOf_wk hu7) (.cons (intOf_wk hu8) (.cons (intOf_wk hu9) .nil)))))).2 (renL_mem (.cons rfl (.cons rfl (.cons rfl (.cons rfl (.cons rfl .nil)))))) (WkR.cons (cellsN_wk hu10 (.cons (lstOf_wk hu11) (.cons (lstOf_wk hu12) (.cons (lstOf_wk hu13) (.cons (intOf_wk hu14) (.cons (intOf_wk hu15) .nil)))))).1 (cellsN_wk hu10 (.cons (lstOf_wk hu11) (.cons (lstOf_wk hu12) (.cons (lstOf_wk hu13) (.cons (intOf_wk hu14) (.cons (intOf_wk hu15) .nil)))))).2 (renL_mem (.cons rfl (.cons rfl (.cons rfl (.cons rfl (.cons rfl .nil)))))) (WkR.cons (cellsN_wk hu16 (.cons (ownOf_wk hu17) (.cons (ownOf_wk hu18) (.cons (lstOf_wk hu19) (.cons (intOf_wk hu20) (.cons (intOf_wk hu21) .nil)))))).1 (cellsN_wk hu16 (.cons (ownOf_wk hu17) (.cons (ownOf_wk hu18) (.cons (lstOf_wk hu19) (.cons (intOf_wk hu20) (.cons (intOf_wk hu21) .nil)))))).2 (renL_mem (.cons rfl (.cons rfl (.cons rfl (.cons rfl (.cons rfl .nil)))))) (WkR.cons (cellsN_wk hu22 (.cons (ownOf_wk hu23) (.cons (ownOf_wk hu24) (.cons (lstOf_wk hu25) (.cons (intOf_wk hu26) (.cons (intOf_wk hu27) .nil)))))).1 (cellsN_wk hu22 (.cons (ownOf_wk hu23) (.cons (ownOf_wk hu24) (.cons (lstOf_wk hu25) (.cons (intOf_wk hu26) (.cons (intOf_wk hu27) .nil)))))).2 (renL_mem (.cons rfl (.cons rfl (.cons rfl (.cons rfl (.cons rfl .nil)))))) (WkR.nil _))))) rfl), rfl, rfl, rfl⟩
      · cases h
theorem l_suturelaw28_JudgeOrder_10_ok (n : Nat) : LoopOk Try.prog (sp_suturelaw28_JudgeOrder n) 0 162 code_l_suturelaw28_JudgeOrder_10 := by
    intro R key E sg K r hk h
    rw [show Go.Eng.keyOf code_l_suturelaw28_JudgeOrder_10 = some 10 from by kernel_rfl] at hk
    cases hk
    have h : l_suturelaw28_JudgeOrder_10_S n R E sg K = some r := h
    unfold l_suturelaw28_JudgeOrder_10_S at h
    obtain ⟨u0, hu0, h⟩ := Option.bind_eq_some_iff.1 h
    obtain ⟨u1, hu1, h⟩ := Option.bind_eq_some_iff.1 h
    obtain ⟨u2, hu2, h⟩ := Option.bind_eq_some_iff.1 h
    obtain ⟨u3, hu3, h⟩ := Option.bind_eq_some_iff.1 h
    obtain ⟨u4, hu4, h⟩ := Option.bind_eq_some_iff.1 h
    obtain ⟨u5, hu5, h⟩ := Option.bind_eq_some_iff.1 h
    obtain ⟨u6, hu6, h⟩ := Option.bind_eq_some_iff.1 h
    obtain ⟨u7, hu7, h⟩ := Option.bind_eq_some_iff.1 h
    obtain ⟨u8, hu8, h⟩ := Option.bind_eq_some_iff.1 h
    obtain ⟨u9, hu9, h⟩ := Option.bind_eq_some_iff.1 h
    obtain ⟨u10, hu10, h⟩ := Option.bind_eq_some_iff.1 h
    obtain ⟨u11, hu11, h⟩ := Option.bind_eq_some_iff.1 h
    obtain ⟨u12, hu12, h⟩ := Option.bind_eq_some_iff.1 h
    obtain ⟨u13, hu13, h⟩ := Option.bind_eq_some_iff.1 h
    obtain ⟨u14, hu14, h⟩ := Option.bind_eq_some_iff.1 h
    obtain ⟨u15, hu15, h⟩ := Option.bind_eq_some_iff.1 h
    obtain ⟨u16, hu16, h⟩ := Option.bind_eq_some_iff.1 h
    obtain ⟨u17, hu17, h⟩ := Option.bind_eq_some_iff.1 h
    obtain ⟨u18, hu18, h⟩ := Option.bind_eq_some_iff.1 h
    obtain ⟨u19, hu19, h⟩ := Option.bind_eq_some_iff.1 h
    obtain ⟨u20, hu20, h⟩ := Option.bind_eq_some_iff.1 h
    obtain ⟨u21, hu21, h⟩ := Option.bind_eq_some_iff.1 h
    obtain ⟨u22, hu22, h⟩ := Option.bind_eq_some_iff.1 h
    obtain ⟨u23, hu23, h⟩ := Option.bind_eq_some_iff.1 h
    obtain ⟨u24, hu24, h⟩ := Option.bind_eq_some_iff.1 h
    obtain ⟨u25, hu25, h⟩ := Option.bind_eq_some_iff.1 h
    obtain ⟨u26, hu26, h⟩ := Option.bind_eq_some_iff.1 h
    obtain ⟨u27, hu27, h⟩ := Option.bind_eq_some_iff.1 h
    obtain ⟨u28, hu28, h⟩ := Option.bind_eq_some_iff.1 h
    obtain ⟨x, hx, h⟩ := Option.bind_eq_some_iff.1 h
    refine (SemL.pre (k := 4) (by decide) (WkA.env (WkA.cons (ptrOf_wk hu0) rfl (WkA.cons (ptrOf_wk hu1) rfl (WkA.cons (ptrOf_wk hu2) rfl (WkA.cons (ptrOf_wk hu3) rfl (WkA.cons (intOf_wk hu4) rfl WkA.nil))))) 162) (wkR_sig (WkR.cons (cellsN_wk hu5 (.cons (lstOf_wk hu6) (.cons (lstOf_wk hu7) (.cons (lstOf_wk hu8) (.cons (intOf_wk hu9) (.cons (intOf_wk hu10) .nil)))))).1 (cellsN_wk hu5 (.cons (lstOf_wk hu6) (.cons (lstOf_wk hu7) (.cons (lstOf_wk hu8) (.cons (intOf_wk hu9) (.cons (intOf_wk hu10) .nil)))))).2 (renL_mem (.cons rfl (.cons rfl (.cons rfl (.cons rfl (.cons rfl .nil)))))) (WkR.cons (cellsN_wk hu11 (.cons (lstOf_wk hu12) (.cons (lstOf_wk hu13) (.cons (lstOf_wk hu14) (.cons (intOf_wk hu15) (.cons (intOf_wk hu16) .nil)))))).1 (cellsN_wk hu11 (.cons (lstOf_wk hu12) (.cons (lstOf_wk hu13) (.cons (lstOf_wk hu14) (.cons (intOf_wk hu15) (.cons (intOf_wk hu16) .nil)))))).2 (renL_mem (.cons rfl (.cons rfl (.cons rfl (.cons rfl (.cons rfl .nil)))))) (WkR.cons (cellsN_wk hu17 (.cons (ownOf_wk hu18) (.cons (ownOf_wk hu19) (.cons (lstOf_wk hu20) (.cons (intOf_wk hu21) (.cons (intOf_wk hu22) .nil)))))).1 (cellsN_wk hu17 (.cons (ownOf_wk hu18) (.cons (ownOf_wk hu19) (.cons (lstOf_wk hu20) (.cons (intOf_wk hu21) (.cons (intOf_wk hu22) .nil)))))).2 (renL_mem (.cons rfl (.cons rfl (.cons rfl (.cons rfl (.cons rfl .nil)))))) (WkR.cons (cellsN_wk hu23 (.cons (ownOf_wk hu24) (.cons (ownOf_wk hu25) (.cons (lstOf_wk hu26) (.cons (intOf_wk hu27) (.cons (intOf_wk hu28) .nil)))))).1 (cellsN_wk hu23 (.cons (ownOf_wk hu24) (.cons (ownOf_wk hu25) (.cons (lstOf_wk hu26) (.cons (intOf_wk hu27) (.cons (intOf_wk hu28) .nil)))))).2 (renL_mem (.cons rfl (.cons rfl (.cons rfl (.cons rfl (.cons rfl .nil)))))) (WkR.nil _))))) rfl) (l_suturelaw28_JudgeOrder_10_run n n _ _ _ _ _ _ _ _ _ _ _ _ _ _ _ _ _ _ _ _ _ x hx)).mono ?_
    intro ex e s hq
    obtain ⟨rfl, rfl, rfl⟩ := hq
    exact ⟨_, rfl, h⟩
noncomputable def code_l_suturelaw28_JudgeOrder_14 : Code := (loopsOf code_suturelaw28_JudgeOrder).getD 2 .skip
theorem code_l_suturelaw28_JudgeOrder_14_ok : CodeOk Try.prog code_l_suturelaw28_JudgeOrder_14 := codeOk_loops code_suturelaw28_JudgeOrder_ok _ (getD_mem (by kernel_rfl))
def l_suturelaw28_JudgeOrder_14_K (k : Int × (List T) × (List T) × (List T) × Int × Int × (List T) × (List T) × (List T) × Int × Int × (List T) × (List T) × (List T) × Int × Int × (List T) × (List T) × (List T) × Int × Int → Option ((List T) × (List T) × (List T) × Int × Int × (List T) × (List T) × (List T) × Int × Int × (List T) × (List T) × (List T) × Int × Int × (List T) × (List T) × (List T) × Int × Int)) : Ex → SEnv → Sig → Option ((List T) × (List T) × (List T) × Int × Int × (List T) × (List T) × (List T) × Int × Int × (List T) × (List T) × (List T) × Int × Int × (List T) × (List T) × (List T) × Int × Int) := fun x E sg => match x with
  | .normal => Option.bind (V.ptrOf 0 0 (SEnv.at E 15)) fun u0 => Option.bind (V.ptrOf 1 0 (SEnv.at E 16)) fun u1 => Option.bind (V.ptrOf 2 0 (SEnv.at E 17)) fun u2 => Option.bind (V.ptrOf 3 0 (SEnv.at E 18)) fun u3 => Option.bind (V.intOf .i64 (SEnv.at E 21)) fun u4 => Option.bind (cellsN 5 sg 0) fun u5 => Option.bind (V.lstOf (u5.getD 0 .any)) fun u6 => Option.bind (V.lstOf (u5.getD 1 .any)) fun u7 => Option.bind (V.lstOf (u5.getD 2 .any)) fun u8 => Option.bind (V.intOf .i64 (u5.getD 3 .any)) fun u9 => Option.bind (V.intOf .i64 (u5.getD 4 .any)) fun u10 => Option.bind (cellsN 5 sg 1) fun u11 => Option.bind (V.lstOf (u11.getD 0 .any)) fun u12 => Option.bind (V.lstOf (u11.getD 1 .any)) fun u13 => Option.bind (V.lstOf (u11.getD 2 .any)) fun u14 => Option.bind (V.intOf .i64 (u11.getD 3 .any)) fun u15 => Option.bind (V.intOf .i64 (u11.getD 4 .any)) fun u16 => Option.bind (cellsN 5 sg 2) fun u17 => Option.bind (V.ownOf 3 (u17.getD 0 .any)) fun u18 => Option.bind (V.ownOf 1 (u17.getD 1 .any)) fun u19 => Option.bind (V.lstOf (u17.getD 2 .any)) fun u20 => Option.bind (V.intOf .i64 (u17.getD 3 .any)) fun u21 => Option.bind (V.intOf .i64 (u17.getD 4 .any)) fun u22 => Option.bind (cellsN 5 sg 3) fun u23 => Option.bind (V.ownOf 3 (u23.getD 0 .any)) fun u24 => Option.bind (V.ownOf 0 (u23.getD 1 .any)) fun u25 => Option.bind (V.lstOf (u23.getD 2 .any)) fun u26 => Option.bind (V.intOf .i64 (u23.getD 3 .any)) fun u27 => Option.bind (V.intOf .i64 (u23.getD 4 .any)) fun u28 => k (u4, u6, u7, u8, u9, u10, u12, u13, u14, u15, u16, u18, u19, u20, u21, u22, u24, u25, u26, u27, u28)
  | (.exit 4) => Option.bind (V.ptrOf 0 0 (SEnv.at E 15)) fun u0 => Option.bind (V.ptrOf 1 0 (SEnv.at E 16)) fun u1 => Option.bind (V.ptrOf 2 0 (SEnv.at E 17)) fun u2 => Option.bind (V.ptrOf 3 0 (SEnv.at E 18)) fun u3 => Option.bind (cellsN 5 sg 0) fun u4 => Option.bind (V.lstOf (u4.getD 0 .any)) fun u5 => Option.bind (V.lstOf (u4.getD 1 .any)) fun u6 => Option.bind (V.lstOf (u4.getD 2 .any)) fun u7 => Option.bind (V.intOf .i64 (u4.getD 3 .any)) fun u8 => Option.bind (V.intOf .i64 (u4.getD 4 .any)) fun u9 => Option.bind (cellsN 5 sg 1) fun u10 => Option.bind (V.lstOf (u10.getD 0 .any)) fun u11 => Option.bind (V.lstOf (u10.getD 1 .any)) fun u12 => Option.bind (V.lstOf (u10.getD 2 .any)) fun u13 => Option.bind (V.intOf .i64 (u10.getD 3 .any)) fun u14 => Option.bind (V.intOf .i64 (u10.getD 4 .any)) fun u15 => Option.bind (cellsN 5 sg 2) fun u16 => Option.bind (V.ownOf 3 (u16.getD 0 .any)) fun u17 => Option.bind (V.ownOf 1 (u16.getD 1 .any)) fun u18 => Option.bind (V.lstOf (u16.getD 2 .any)) fun u19 => Option.bind (V.intOf .i64 (u16.getD 3 .any)) fun u20 => Option.bind (V.intOf .i64 (u16.getD 4 .any)) fun u21 => Option.bind (cellsN 5 sg 3) fun u22 => Option.bind (V.ownOf 3 (u22.getD 0 .any)) fun u23 => Option.bind (V.ownOf 0 (u22.getD 1 .any)) fun u24 => Option.bind (V.lstOf (u22.getD 2 .any)) fun u25 => Option.bind (V.intOf .i64 (u22.getD 3 .any)) fun u26 => Option.bind (V.intOf .i64 (u22.getD 4 .any)) fun u27 => some (u5, u6, u7, u8, u9, u11, u12, u13, u14, u15, u17, u18, u19, u20, u21, u23, u24, u25, u26, u27)
  | _ => none
theorem l_suturelaw28_JudgeOrder_14_eq (n : Nat) (k : Int × (List T) × (List T) × (List T) × Int × Int × (List T) × (List T) × (List T) × Int × Int × (List T) × (List T) × (List T) × Int × Int × (List T) × (List T) × (List T) × Int × Int → Option ((List T) × (List T) × (List T) × Int × Int × (List T) × (List T) × (List T) × Int × Int × (List T) × (List T) × (List T) × Int × Int × (List T) × (List T) × (List T) × Int × Int)) (s0 : Int) (s1 : List T) (s2 : List T) (s3 : List T) (s4 : Int) (s5 : Int) (s6 : List T) (s7 : List T) (s8 : List T) (s9 : Int) (s10 : Int) (s11 : List T) (s12 : List T) (s13 : List T) (s14 : Int) (s15 : Int) (s16 : List T) (s17 : List T) (s18 : List T) (s19 : Int) (s20 : Int) : mX Try.prog (sp_suturelaw28_JudgeOrder n) 162 code_l_suturelaw28_JudgeOrder_14 [(15, (V.ptr 0 0)), (16, (V.ptr 1 0)), (17, (V.ptr 2 0)), (18, (V.ptr 3 0)), (21, (V.t (T.sc (.int .i64 s0))))] [some [(V.t (T.list s1)), (V.t (T.list s2)), (V.t (T.list s3)), (V.t (T.sc (.int .i64 s4))), (V.t (T.sc (.int .i64 s5)))], some [(V.t (T.list s6)), (V.t (T.list s7)), (V.t (T.list s8)), (V.t (T.sc (.int .i64 s9))), (V.t (T.sc (.int .i64 s10)))], some [(V.own 3 s11), (V.own 1 s12), (V.t (T.list s13)), (V.t (T.sc (.int .i64 s14))), (V.t (T.sc (.int .i64 s15)))], some [(V.own 3 s16), (V.own 0 s17), (V.t (T.list s18)), (V.t (T.sc (.int .i64 s19))), (V.t (T.sc (.int .i64 s20)))]] (l_suturelaw28_JudgeOrder_14_K k) = l_suturelaw28_JudgeOrder_14_B n k (s0, s1, s2, s3, s4, s5, s6, s7, s8, s9, s10, s11, s12, s13, s14, s15, s16, s17, s18, s19, s20) := by kernel_rfl
def l_suturelaw28_JudgeOrder_14_Q (x : (List T) × (List T) × (List T) × Int × Int × (List T) × (List T) × (List T) × Int × Int × (List T) × (List T) × (List T) × Int × Int × (List T) × (List T) × (List T) × Int × Int) (ex : Ex) (e : Env) (s : Sig) : Prop := (fun p0 => (ex = (.exit 4) ∧ e = SEnv.env 162 [(15, (V.ptr 0 0)), (16, (V.ptr 1 0)), (17, (V.ptr 2 0)), (18, (V.ptr 3 0))] ∧ s = [some [(V.t (T.list p0.1)), (V.t (T.list p0.2.1)), (V.t (T.list p0.2.2.1)), (V.t (T.sc (.int .i64 p0.2.2.2.1))), (V.t (T.sc (.int .i64 p0.2.2.2.2.1)))], some [(V.t (T.list p0.2.2.2.2.2.1)), (V.t (T.list p0.2.2.2.2.2.2.1)), (V.t (T.list p0.2.2.2.2.2.2.2.1)), (V.t (T.sc (.int .i64 p0.2.2.2.2.2.2.2.2.1))), (V.t (T.sc (.int .i64 p0.2.2.2.2.2.2.2.2.2.1)))], some [(V.own 3 p0.2.2.2.2.2.2.2.2.2.2.1), (V.own 1 p0.2.2.2.2.2.2.2.2.2.2.2.1), (V.t (T.list p0.2.2.2.2.2.2.2.2.2.2.2.2.1)), (V.t (T.sc (.int .i64 p0.2.2.2.2.2.2.2.2.2.2.2.2.2.1))), (V.t (T.sc (.int .i64 p0.2.2.2.2.2.2.2.2.2.2.2.2.2.2.1)))], some [(V.own 3 p0.2.2.2.2.2.2.2.2.2.2.2.2.2.2.2.1), (V.own 0 p0.2.2.2.2.2.2.2.2.2.2.2.2.2.2.2.2.1), (V.t (T.list p0.2.2.2.2.2.2.2.2.2.2.2.2.2.2.2.2.2.1)), (V.t (T.sc (.int .i64 p0.2.2.2.2.2.2.2.2.2.2.2.2.2.2.2.2.2.2.1))), (V.t (T.sc (.int .i64 p0.2.2.2.2.2.2.2.2.2.2.2.2.2.2.2.2.2.2.2)))]])) x
theorem l_suturelaw28_JudgeOrder_14_run (n : Nat) : ∀ (m : Nat) (s0 : Int) (s1 : List T) (s2 : List T) (s3 : List T) (s4 : Int) (s5 : Int) (s6 : List T) (s7 : List T) (s8 : List T) (s9 : Int) (s10 : Int) (s11 : List T) (s12 : List T) (s13 : List T) (s14 : Int) (s15 : Int) (s16 : List T) (s17 : List T) (s18 : List T) (s19 : Int) (s20 : Int) (x : (List T) × (List T) × (List T) × Int × Int × (List T) × (List T) × (List T) × Int × Int × (List T) × (List T) × (List T) × Int × Int × (List T) × (List T) × (List T) × Int × Int), l_suturelaw28_JudgeOrder_14 n m (s0, s1, s2, s3, s4, s5, s6, s7, s8, s9, s10, s11, s12, s13, s14, s15, s16, s17, s18, s19, s20) = some x → SemL Try.prog 0 code_l_suturelaw28_JudgeOrder_14 (SEnv.env 162 [(15, (V.ptr 0 0)), (16, (V.ptr 1 0)), (17, (V.ptr 2 0)), (18, (V.ptr 3 0)), (21, (V.t (T.sc (.int .i64 s0))))]) [some [(V.t (T.list s1)), (V.t (T.list s2)), (V.t (T.list s3)), (V.t (T.sc (.int .i64 s4))), (V.t (T.sc (.int .i64 s5)))], some [(V.t (T.list s6)), (V.t (T.list s7)), (V.t (T.list s8)), (V.t (T.sc (.int .i64 s9))), (V.t (T.sc (.int .i64 s10)))], some [(V.own 3 s11), (V.own 1 s12), (V.t (T.list s13)), (V.t (T.sc (.int .i64 s14))), (V.t (T.sc (.int .i64 s15)))], some [(V.own 3 s16), (V.own 0 s17), (V.t (T.list s18)), (V.t (T.sc (.int .i64 s19))), (V.t (T.sc (.int .i64 s20)))]] (l_suturelaw28_JudgeOrder_14_Q x)
  | 0, s0, s1, s2, s3, s4, s5, s6, s7, s8, s9, s10, s11, s12, s13, s14, s15, s16, s17, s18, s19, s20, x, h => by cases h
  | m + 1, s0, s1, s2, s3, s4, s5, s6, s7, s8, s9, s10, s11, s12, s13, s14, s15, s16, s17, s18, s19, s20, x, h => by
    refine loop_step (sp_suturelaw28_JudgeOrder_ok n) code_l_suturelaw28_JudgeOrder_14_ok (fun a ha => absurd ha (by rw [show loopsOf code_l_suturelaw28_JudgeOrder_14 = [] from by kernel_rfl]; simp)) ((l_suturelaw28_JudgeOrder_14_eq n _ s0 s1 s2 s3 s4 s5 s6 s7 s8 s9 s10 s11 s12 s13 s14 s15 s16 s17 s18 s19 s20).trans h) (fun E sg h => ?_) (fun ex E sg hne h => ?_)
    · simp only [l_suturelaw28_JudgeOrder_14_K] at h
      obtain ⟨u0, hu0, h⟩ := Option.bind_eq_some_iff.1 h
      obtain ⟨u1, hu1, h⟩ := Option.bind_eq_some_iff.1 h
      obtain ⟨u2, hu2, h⟩ := Option.bind_eq_some_iff.1 h
      obtain ⟨u3, hu3, h⟩ := Option.bind_eq_some_iff.1 h
      obtain ⟨u4, hu4, h⟩ := Option.bind_eq_some_iff.1 h
      obtain ⟨u5, hu5, h⟩ := Option.bind_eq_some_iff.1 h
      obtain ⟨u6, hu6, h⟩ := Option.bind_eq_some_iff.1 h
      obtain ⟨u7, hu7, h⟩ := Option.bind_eq_some_iff.1 h
      obtain ⟨u8, hu8, h⟩ := Option.bind_eq_some_iff.1 h
      obtain ⟨u9, hu9, h⟩ := Option.bind_eq_some_iff.1 h
      obtain ⟨u10, hu10, h⟩ := Option.bind_eq_some_iff.1 h
      obtain ⟨u11, hu11, h⟩ := Option.bind_eq_some_iff.1 h
      obtain ⟨u12, hu12, h⟩ := Option.bind_eq_some_iff.1 h
      obtain ⟨u13, hu13, h⟩ := Option.bind_eq_some_iff.1 h
      obtain ⟨u14, hu14, h⟩ := Option.bind_eq_some_iff.1 h
      obtain ⟨u15, hu15, h⟩ := Option.bind_eq_some_iff.1 h
      obtain ⟨u16, hu16, h⟩ := Option.bind_eq_some_iff.1 h
      obtain ⟨u17, hu17, h⟩ := Option.bind_eq_some_iff.1 h
      obtain ⟨u18, hu18, h⟩ := Option.bind_eq_some_iff.1 h
      obtain ⟨u19, hu19, h⟩ := Option.bind_eq_some_iff.1 h
      obtain ⟨u20, hu20, h⟩ := Option.bind_eq_some_iff.1 h
      obtain ⟨u21, hu21, h⟩ := Option.bind_eq_some_iff.1 h
      obtain ⟨u22, hu22, h⟩ := Option.bind_eq_some_iff.1 h
      obtain ⟨u23, hu23, h⟩ := Option.bind_eq_some_iff.1 h
      obtain ⟨u24, hu24, h⟩ := Option.bind_eq_some_iff.1 h
      obtain ⟨u25, hu25, h⟩ := Option.bind_eq_some_iff.1 h
      obtain ⟨u26, hu26, h⟩ := Option.bind_eq_some_iff.1 h
      obtain ⟨u27, hu27, h⟩ := Option.bind_eq_some_iff.1 h
      obtain ⟨u28, hu28, h⟩ := Option.bind_eq_some_iff.1 h
      exact SemL.pre (k := 4) (by decide) (WkA.env (WkA.cons (ptrOf_wk hu0) rfl (WkA.cons (ptrOf_wk hu1) rfl (WkA.cons (ptrOf_wk hu2) rfl (WkA.cons (ptrOf_wk hu3) rfl (WkA.cons (intOf_wk hu4) rfl WkA.nil))))) 162) (wkR_sig (WkR.cons (cellsN_wk hu5 (.cons (lstOf_wk hu6) (.cons (lstOf_wk hu7) (.cons (lstOf_wk hu8) (.cons (intOf_wk hu9) (.cons (intOf_wk hu10) .nil)))))).1 (cellsN_wk hu5 (.cons (lstOf_wk hu6) (.cons (lstOf_wk hu7) (.cons (lstOf_wk hu8) (.cons (intOf_wk hu9) (.cons (intOf_wk hu10) .nil)))))).2 (renL_mem (.cons rfl (.cons rfl (.cons rfl (.cons rfl (.cons rfl .nil)))))) (WkR.cons (cellsN_wk hu11 (.cons (lstOf_wk hu12) (.cons (lstOf_wk hu13) (.cons (lstOf_wk hu14) (.cons (intOf_wk hu15) (.cons (intOf_wk hu16) .nil)))))).1 (cellsN_wk hu11 (.cons (lstOf_wk hu12) (.cons (lstOf_wk hu13) (.cons (lstOf_wk hu14) (.cons (intOf_wk hu15) (.cons (intOf_wk hu16) .nil)))))).2 (renL_mem (.cons rfl (.cons rfl (.cons rfl (.cons rfl (.cons rfl .nil)))))) (WkR.cons (cellsN_wk hu17 (.cons (ownOf_wk hu18) (.cons (ownOf_wk hu19) (.cons (lstOf_wk hu20) (.cons (intOf_wk hu21) (.cons (intOf_wk hu22) .nil)))))).1 (cellsN_wk hu17 (.cons (ownOf_wk hu18) (.cons (ownOf_wk hu19) (.cons (lstOf_wk hu20) (.cons (intOf_wk hu21) (.cons (intOf_wk hu22) .nil)))))).2 (renL_mem (.cons rfl (.cons rfl (.cons rfl (.cons rfl (.cons rfl .nil)))))) (WkR.cons (cellsN_wk hu23 (.cons (ownOf_wk hu24) (.cons (ownOf_wk hu25) (.cons (lstOf_wk hu26) (.cons (intOf_wk hu27) (.cons (intOf_wk hu28) .nil)))))).1 (cellsN_wk hu23 (.cons (ownOf_wk hu24) (.cons (ownOf_wk hu25) (.cons (lstOf_wk hu26) (.cons (intOf_wk hu27) (.cons (intOf_wk hu28) .nil)))))).2 (renL_mem (.cons rfl (.cons rfl (.cons rfl (.cons rfl (.cons rfl .nil)))))) (WkR.nil _))))) rfl) (l_suturelaw28_JudgeOrder_14_run n m _ _ _ _ _ _ _ _ _ _ _ _ _ _ _ _ _ _ _ _ _ x h)
    · unfold l_suturelaw28_JudgeOrder_14_K at h
      split at h
      · exact absurd rfl hne
      · obtain ⟨u0, hu0, h⟩ := Option.bind_eq_some_iff.1 h
        obtain ⟨u1, hu1, h⟩ := Option.bind_eq_some_iff.1 h
        obtain ⟨u2, hu2, h⟩ := Option.bind_eq_some_iff.1 h
        obtain ⟨u3, hu3, h⟩ := Option.bind_eq_some_iff.1 h
        obtain ⟨u4, hu4, h⟩ := Option.bind_eq_some_iff.1 h
        obtain ⟨u5, hu5, h⟩ := Option.bind_eq_some_iff.1 h
        obtain ⟨u6, hu6, h⟩ := Option.bind_eq_some_iff.1 h
        obtain ⟨u7, hu7, h⟩ := Option.bind_eq_some_iff.1 h
        obtain ⟨u8, hu8, h⟩ := Option.bind_eq_some_iff.1 h
        obtain ⟨u9, hu9, h⟩ := Option.bind_eq_some_iff.1 h
        obtain ⟨u10, hu10, h⟩ := Option.bind_eq_some_iff.1 h
        obtain ⟨u11, hu11, h⟩ := Option.bind_eq_some_iff.1 h
        obtain ⟨u12, hu12, h⟩ := Option.bind_eq_some_iff.1 h
        obtain ⟨u13, hu13, h⟩ := Option.bind_eq_some_iff.1 h
        obtain ⟨u14, hu14, h⟩ := Option.bind_eq_some_iff.1 h
        obtain ⟨u15, hu15, h⟩ := Option.bind_eq_some_iff.1 h
        obtain ⟨u16, hu16, h⟩ := Option.bind_eq_some_iff.1 h
        obtain ⟨u17, hu17, h⟩ := Option.bind_eq_some_iff.1 h
        obtain ⟨u18, hu18, h⟩ := Option.bind_eq_some_iff.1 h
        obtain ⟨u19, hu19, h⟩ := Option.bind_eq_some_iff.1 h
        obtain ⟨u20, hu20, h⟩ := Option.bind_eq_some_iff.1 h
        obtain ⟨u21, hu21, h⟩ := Option.bind_eq_some_iff.1 h
        obtain ⟨u22, hu22, h⟩ := Option.bind_eq_some_iff.1 h
        obtain ⟨u23, hu23, h⟩ := Option.bind_eq_some_iff.1 h
        obtain ⟨u24, hu24, h⟩ := Option.bind_eq_some_iff.1 h
        obtain ⟨u25, hu25, h⟩ := Option.bind_eq_some_iff.1 h
        obtain ⟨u26, hu26, h⟩ := Option.bind_eq_some_iff.1 h
        obtain ⟨u27, hu27, h⟩ := Option.bind_eq_some_iff.1 h
        simp only [Option.some.injEq] at h
        subst h
        exact ⟨4, _, _, by decide, WkA.env (WkA.cons (ptrOf_wk hu0) rfl (WkA.cons (ptrOf_wk hu1) rfl (WkA.cons (ptrOf_wk hu2) rfl (WkA.cons (ptrOf_wk hu3) rfl WkA.nil)))) 162, (wkR_sig (WkR.cons (cellsN_wk hu4 (.cons (lstOf_wk hu5) (.cons (lstOf_wk hu6) (.cons (lstOf_wk hu7) (.cons (intOf_wk hu8) (.cons (intOf_wk hu9) .nil)))))).1 (cellsN_wk hu4 (.cons (lstOf_wk hu5) (.cons (lstOf_wk hu6) (.cons (lstOf_wk hu7) (.cons (intOf_wk hu8) (.cons (intOf_wk hu9) .nil)))))).2 (renL_mem (.cons rfl (.cons rfl (.cons rfl (.cons rfl (.cons rfl .nil)))))) (WkR.cons (cellsN_wk hu10 (.cons (lstOf_wk hu11) (.cons (lstOf_wk hu12) (.cons (lstOf_wk hu13) (.cons (intOf_wk hu14) (.cons (intOf_wk hu15) .nil)))))).1 (cellsN_wk hu10 (.cons (lstOf_wk hu11) (.cons (lstOf_wk hu12) (.cons (lstOf_wk hu13) (.cons (intOf_wk hu14) (.cons (intOf_wk hu15) .nil)))))).2 (renL_mem (.cons rfl (.cons rfl (.cons rfl (.cons rfl (.cons rfl .nil)))))) (WkR.cons (cellsN_wk hu16 (.cons (ownOf_wk hu17) (.cons (ownOf_wk hu18) (.cons (lstOf_wk hu19) (.cons (intOf_wk hu20) (.cons (intOf_wk hu21) .nil)))))).1 (cellsN_wk hu16 (.cons (ownOf_wk hu17) (.cons (ownOf_wk hu18) (.cons (lstOf_wk hu19) (.cons (intOf_wk hu20) (.cons (intOf_wk hu21) .nil)))))).2 (renL_mem (.cons rfl (.cons rfl (.cons rfl (.cons rfl (.cons rfl .nil)))))) (WkR.cons (cellsN_wk hu22 (.cons (ownOf_wk hu23) (.cons (ownOf_wk hu24) (.cons (lstOf_wk hu25) (.cons (intOf_wk hu26) (.cons (intOf_wk hu27) .nil)))))).1 (cellsN_wk hu22 (.cons (ownOf_wk hu23) (.cons (ownOf_wk hu24) (.cons (lstOf_wk hu25) (.cons (intOf_wk hu26) (.cons (intOf_wk hu27) .nil)))))).2 (renL_mem (.cons rfl (.cons rfl (.cons rfl (.cons rfl (.cons rfl .nil)))))) (WkR.nil _))))) rfl), rfl, rfl, rfl⟩
      · cases h
theorem l_suturelaw28_JudgeOrder_14_ok (n : Nat) : LoopOk Try.prog (sp_suturelaw28_JudgeOrder n) 0 162 code_l_suturelaw28_JudgeOrder_14 := by
    intro R key E sg K r hk h
    rw [show Go.Eng.keyOf code_l_suturelaw28_JudgeOrder_14 = some 14 from by kernel_rfl] at hk
    cases hk
    have h : l_suturelaw28_JudgeOrder_14_S n R E sg K = some r := h
    unfold l_suturelaw28_JudgeOrder_14_S at h
    obtain ⟨u0, hu0, h⟩ := Option.bind_eq_some_iff.1 h
    obtain ⟨u1, hu1, h⟩ := Option.bind_eq_some_iff.1 h
    obtain ⟨u2, hu2, h⟩ := Option.bind_eq_some_iff.1 h
    obtain ⟨u3, hu3, h⟩ := Option.bind_eq_some_iff.1 h
    obtain ⟨u4, hu4, h⟩ := Option.bind_eq_some_iff.1 h
    obtain ⟨u5, hu5, h⟩ := Option.bind_eq_some_iff.1 h
    obtain ⟨u6, hu6, h⟩ := Option.bind_eq_some_iff.1 h
    obtain ⟨u7, hu7, h⟩ := Option.bind_eq_some_iff.1 h
    obtain ⟨u8, hu8, h⟩ := Option.bind_eq_some_iff.1 h
    obtain ⟨u9, hu9, h⟩ := Option.bind_eq_some_iff.1 h
    obtain ⟨u10, hu10, h⟩ := Option.bind_eq_some_iff.1 h
    obtain ⟨u11, hu11, h⟩ := Option.bind_eq_some_iff.1 h
    obtain ⟨u12, hu12, h⟩ := Option.bind_eq_some_iff.1 h
    obtain ⟨u13, hu13, h⟩ := Option.bind_eq_some_iff.1 h
    obtain ⟨u14, hu14, h⟩ := Option.bind_eq_some_iff.1 h
    obtain ⟨u15, hu15, h⟩ := Option.bind_eq_some_iff.1 h
    obtain ⟨u16, hu16, h⟩ := Option.bind_eq_some_iff.1 h
    obtain ⟨u17, hu17, h⟩ := Option.bind_eq_some_iff.1 h
    obtain ⟨u18, hu18, h⟩ := Option.bind_eq_some_iff.1 h
    obtain ⟨u19, hu19, h⟩ := Option.bind_eq_some_iff.1 h
    obtain ⟨u20, hu20, h⟩ := Option.bind_eq_some_iff.1 h
    obtain ⟨u21, hu21, h⟩ := Option.bind_eq_some_iff.1 h
    obtain ⟨u22, hu22, h⟩ := Option.bind_eq_some_iff.1 h
    obtain ⟨u23, hu23, h⟩ := Option.bind_eq_some_iff.1 h
    obtain ⟨u24, hu24, h⟩ := Option.bind_eq_some_iff.1 h
    obtain ⟨u25, hu25, h⟩ := Option.bind_eq_some_iff.1 h
    obtain ⟨u26, hu26, h⟩ := Option.bind_eq_some_iff.1 h
    obtain ⟨u27, hu27, h⟩ := Option.bind_eq_some_iff.1 h
    obtain ⟨u28, hu28, h⟩ := Option.bind_eq_some_iff.1 h
    obtain ⟨x, hx, h⟩ := Option.bind_eq_some_iff.1 h
    refine (SemL.pre (k := 4) (by decide) (WkA.env (WkA.cons (ptrOf_wk hu0) rfl (WkA.cons (ptrOf_wk hu1) rfl (WkA.cons (ptrOf_wk hu2) rfl (WkA.cons (ptrOf_wk hu3) rfl (WkA.cons (intOf_wk hu4) rfl WkA.nil))))) 162) (wkR_sig (WkR.cons (cellsN_wk hu5 (.cons (lstOf_wk hu6) (.cons (lstOf_wk hu7) (.cons (lstOf_wk hu8) (.cons (intOf_wk hu9) (.cons (intOf_wk hu10) .nil)))))).1 (cellsN_wk hu5 (.cons (lstOf_wk hu6) (.cons (lstOf_wk hu7) (.cons (lstOf_wk hu8) (.cons (intOf_wk hu9) (.cons (intOf_wk hu10) .nil)))))).2 (renL_mem (.cons rfl (.cons rfl (.cons rfl (.cons rfl (.cons rfl .nil)))))) (WkR.cons (cellsN_wk hu11 (.cons (lstOf_wk hu12) (.cons (lstOf_wk hu13) (.cons (lstOf_wk hu14) (.cons (intOf_wk hu15) (.cons (intOf_wk hu16) .nil)))))).1 (cellsN_wk hu11 (.cons (lstOf_wk hu12) (.cons (lstOf_wk hu13) (.cons (lstOf_wk hu14) (.cons (intOf_wk hu15) (.cons (intOf_wk hu16) .nil)))))).2 (renL_mem (.cons rfl (.cons rfl (.cons rfl (.cons rfl (.cons rfl .nil)))))) (WkR.cons (cellsN_wk hu17 (.cons (ownOf_wk hu18) (.cons (ownOf_wk hu19) (.cons (lstOf_wk hu20) (.cons (intOf_wk hu21) (.cons (intOf_wk hu22) .nil)))))).1 (cellsN_wk hu17 (.cons (ownOf_wk hu18) (.cons (ownOf_wk hu19) (.cons (lstOf_wk hu20) (.cons (intOf_wk hu21) (.cons (intOf_wk hu22) .nil)))))).2 (renL_mem (.cons rfl (.cons rfl (.cons rfl (.cons rfl (.cons rfl .nil)))))) (WkR.cons (cellsN_wk hu23 (.cons (ownOf_wk hu24) (.cons (ownOf_wk hu25) (.cons (lstOf_wk hu26) (.cons (intOf_wk hu27) (.cons (intOf_wk hu28) .nil)))))).1 (cellsN_wk hu23 (.cons (ownOf_wk hu24) (.cons (ownOf_wk hu25) (.cons (lstOf_wk hu26) (.cons (intOf_wk hu27) (.cons (intOf_wk hu28) .nil)))))).2 (renL_mem (.cons rfl (.cons rfl (.cons rfl (.cons rfl (.cons rfl .nil)))))) (WkR.nil _))))) rfl) (l_suturelaw28_JudgeOrder_14_run n n _ _ _ _ _ _ _ _ _ _ _ _ _ _ _ _ _ _ _ _ _ x hx)).mono ?_
    intro ex e s hq
    obtain ⟨rfl, rfl, rfl⟩ := hq
    exact ⟨_, rfl, h⟩
noncomputable def code_l_suturelaw28_JudgeOrder_18 : Code := (loopsOf code_suturelaw28_JudgeOrder).getD 3 .skip
theorem code_l_suturelaw28_JudgeOrder_18_ok : CodeOk Try.prog code_l_suturelaw28_JudgeOrder_18 := codeOk_loops code_suturelaw28_JudgeOrder_ok _ (getD_mem (by kernel_rfl))
def l_suturelaw28_JudgeOrder_18_K (k : Int × (List T) × (List T) × (List T) × Int × Int × (List T) × (List T) × (List T) × Int × Int × (List T) × (List T) × (List T) × Int × Int × (List T) × (List T) × (List T) × Int × Int → Option ((List T) × (List T) × (List T) × Int × Int × (List T) × (List T) × (List T) × Int × Int × (List T) × (List T) × (List T) × Int × Int × (List T) × (List T) × (List T) × Int × Int)) : Ex → SEnv → Sig → Option ((List T) × (List T) × (List T) × Int × Int × (List T) × (List T) × (List T) × Int × Int × (List T) × (List T) × (List T) × Int × Int × (List T) × (List T) × (List T) × Int × Int) := fun x E sg => match x with
  | .normal => Option.bind (V.ptrOf 0 0 (SEnv.at E 15)) fun u0 => Option.bind (V.ptrOf 1 0 (SEnv.at E 16)) fun u1 => Option.bind (V.ptrOf 2 0 (SEnv.at E 17)) fun u2 => Option.bind (V.ptrOf 3 0 (SEnv.at E 18)) fun u3 => Option.bind (V.intOf .i64 (SEnv.at E 22)) fun u4 => Option.bind (cellsN 5 sg 0) fun u5 => Option.bind (V.lstOf (u5.getD 0 .any)) fun u6 => Option.bind (V.lstOf (u5.getD 1 .any)) fun u7 => Option.bind (V.lstOf (u5.getD 2 .any)) fun u8 => Option.bind (V.intOf .i64 (u5.getD 3 .any)) fun u9 => Option.bind (V.intOf .i64 (u5.getD 4 .any)) fun u10 => Option.bind (cellsN 5 sg 1) fun u11 => Option.bind (V.lstOf (u11.getD 0 .any)) fun u12 => Option.bind (V.lstOf (u11.getD 1 .any)) fun u13 => Option.bind (V.lstOf (u11.getD 2 .any)) fun u14 => Option.bind (V.intOf .i64 (u11.getD 3 .any)) fun u15 => Option.bind (V.intOf .i64 (u11.getD 4 .any)) fun u16 => Option.bind (cellsN 5 sg 2) fun u17 => Option.bind (V.ownOf 3 (u17.getD 0 .any)) fun u18 => Option.bind (V.ownOf 1 (u17.getD 1 .any)) fun u19 => Option.bind (V.lstOf (u17.getD 2 .any)) fun u20 => Option.bind (V.intOf .i64 (u17.getD 3 .any)) fun u21 => Option.bind (V.intOf .i64 (u17.getD 4 .any)) fun u22 => Option.bind (cellsN 5 sg 3) fun u23 => Option.bind (V.ownOf 3 (u23.getD 0 .any)) fun u24 => Option.bind (V.ownOf 1 (u23.getD 1 .any)) fun u25 => Option.bind (V.lstOf (u23.getD 2 .any)) fun u26 => Option.bind (V.intOf .i64 (u23.getD 3 .any)) fun u27 => Option.bind (V.intOf .i64 (u23.getD 4 .any)) fun u28 => k (u4, u6, u7, u8, u9, u10, u12, u13, u14, u15, u16, u18, u19, u20, u21, u22, u24, u25, u26, u27, u28)
  | (.exit 6) => Option.bind (V.ptrOf 0 0 (SEnv.at E 15)) fun u0 => Option.bind (V.ptrOf 1 0 (SEnv.at E 16)) fun u1 => Option.bind (V.ptrOf 2 0 (SEnv.at E 17)) fun u2 => Option.bind (V.ptrOf 3 0 (SEnv.at E 18)) fun u3 => Option.bind (cellsN 5 sg 0) fun u4 => Option.bind (V.lstOf (u4.getD 0 .any)) fun u5 => Option.bind (V.lstOf (u4.getD 1 .any)) fun u6 => Option.bind (V.lstOf (u4.getD 2 .any)) fun u7 => Option.bind (V.intOf .i64 (u4.getD 3 .any)) fun u8 => Option.bind (V.intOf .i64 (u4.getD 4 .any)) fun u9 => Option.bind (cellsN 5 sg 1) fun u10 => Option.bind (V.lstOf (u10.getD 0 .any)) fun u11 => Option.bind (V.lstOf (u10.getD 1 .any)) fun u12 => Option.bind (V.lstOf (u10.getD 2 .any)) fun u13 => Option.bind (V.intOf .i64 (u10.getD 3 .any)) fun u14 => Option.bind (V.intOf .i64 (u10.getD 4 .any)) fun u15 => Option.bind (cellsN 5 sg 2) fun u16 => Option.bind (V.ownOf 3 (u16.getD 0 .any)) fun u17 => Option.bind (V.ownOf 1 (u16.getD 1 .any)) fun u18 => Option.bind (V.lstOf (u16.getD 2 .any)) fun u19 => Option.bind (V.intOf .i64 (u16.getD 3 .any)) fun u20 => Option.bind (V.intOf .i64 (u16.getD 4 .any)) fun u21 => Option.bind (cellsN 5 sg 3) fun u22 => Option.bind (V.ownOf 3 (u22.getD 0 .any)) fun u23 => Option.bind (V.ownOf 1 (u22.getD 1 .any)) fun u24 => Option.bind (V.lstOf (u22.getD 2 .any)) fun u25 => Option.bind (V.intOf .i64 (u22.getD 3 .any)) fun u26 => Option.bind (V.intOf .i64 (u22.getD 4 .any)) fun u27 => some (u5, u6, u7, u8, u9, u11, u12, u13, u14, u15, u17, u18, u19, u20, u21, u23, u24, u25, u26, u27)
  | _ => none
theorem l_suturelaw28_JudgeOrder_18_eq (n : Nat) (k : Int × (List T) × (List T) × (List T) × Int × Int × (List T) × (List T) × (List T) × Int × Int × (List T) × (List T) × (List T) × Int × Int × (List T) × (List T) × (List T) × Int × Int → Option ((List T) × (List T) × (List T) × Int × Int × (List T) × (List T) × (List T) × Int × Int × (List T) × (List T) × (List T) × Int × Int × (List T) × (List T) × (List T) × Int × Int)) (s0 : Int) (s1 : List T) (s2 : List T) (s3 : List T) (s4 : Int) (s5 : Int) (s6 : List T) (s7 : List T) (s8 : List T) (s9 : Int) (s10 : Int) (s11 : List T) (s12 : List T) (s13 : List T) (s14 : Int) (s15 : Int) (s16 : List T) (s17 : List T) (s18 : List T) (s19 : Int) (s20 : Int) : mX Try.prog (sp_suturelaw28_JudgeOrder n) 162 code_l_suturelaw28_JudgeOrder_18 [(15, (V.ptr 0 0)), (16, (V.ptr 1 0)), (17, (V.ptr 2 0)), (18, (V.ptr 3 0)), (22, (V.t (T.sc (.int .i64 s0))))] [some [(V.t (T.list s1)), (V.t (T.list s2)), (V.t (T.list s3)), (V.t (T.sc (.int .i64 s4))), (V.t (T.sc (.int .i64 s5)))], some [(V.t (T.list s6)), (V.t (T.list s7)), (V.t (T.list s8)), (V.t (T.sc (.int .i64 s9))), (V.t (T.sc (.int .i64 s10)))], some [(V.own 3 s11), (V.own 1 s12), (V.t (T.list s13)), (V.t (T.sc (.int .i64 s14))), (V.t (T.sc (.int .i64 s15)))], some [(V.own 3 s16), (V.own 1 s17), (V.t (T.list s18)), (V.t (T.sc (.int .i64 s19))), (V.t (T.sc (.int .i64 s20)))]] (l_suturelaw28_JudgeOrder_18_K k) = l_suturelaw28_JudgeOrder_18_B n k (s0, s1, s2, s3, s4, s5, s6, s7, s8, s9, s10, s11, s12, s13, s14, s15, s16, s17, s18, s19, s20) := by kernel_rfl
def l_suturelaw28_JudgeOrder_18_Q (x : (List T) × (List T) × (List T) × Int × Int × (List T) × (List T) × (List T) × Int × Int × (List T) × (List T) × (List T) × Int × Int × (List T) × (List T) × (List T) × Int × Int) (ex : Ex) (e : Env) (s : Sig) : Prop := (fun p0 => (ex = (.exit 6) ∧ e = SEnv.env 162 [(15, (V.ptr 0 0)), (16, (V.ptr 1 0)), (17, (V.ptr 2 0)), (18, (V.ptr 3 0))] ∧ s = [some [(V.t (T.list p0.1)), (V.t (T.list p0.2.1)), (V.t (T.list p0.2.2.1)), (V.t (T.sc (.int .i64 p0.2.2.2.1))), (V.t (T.sc (.int .i64 p0.2.2.2.2.1)))], some [(V.t (T.list p0.2.2.2.2.2.1)), (V.t (T.list p0.2.2.2.2.2.2.1)), (V.t (T.list p0.2.2.2.2.2.2.2.1)), (V.t (T.sc (.int .i64 p0.2.2.2.2.2.2.2.2.1))), (V.t (T.sc (.int .i64 p0.2.2.2.2.2.2.2.2.2.1)))], some [(V.own 3 p0.2.2.2.2.2.2.2.2.2.2.1), (V.own 1 p0.2.2.2.2.2.2.2.2.2.2.2.1), (V.t (T.list p0.2.2.2.2.2.2.2.2.2.2.2.2.1)), (V.t (T.sc (.int .i64 p0.2.2.2.2.2.2.2.2.2.2.2.2.2.1))), (V.t (T.sc (.int .i64 p0.2.2.2.2.2.2.2.2.2.2.2.2.2.2.1)))], some [(V.own 3 p0.2.2.2.2.2.2.2.2.2.2.2.2.2.2.2.1), (V.own 1 p0.2.2.2.2.2.2.2.2.2.2.2.2.2.2.2.2.1), (V.t (T.list p0.2.2.2.2.2.2.2.2.2.2.2.2.2.2.2.2.2.1)), (V.t (T.sc (.int .i64 p0.2.2.2.2.2.2.2.2.2.2.2.2.2.2.2.2.2.2.1))), (V.t (T.sc (.int .i64 p0.2.2.2.2.2.2.2.2.2.2.2.2.2.2.2.2.2.2.2)))]])) x
theorem l_suturelaw28_JudgeOrder_18_run (n : Nat) : ∀ (m : Nat) (s0 : Int) (s1 : List T) (s2 : List T) (s3 : List T) (s4 : Int) (s5 : Int) (s6 : List T) (s7 : List T) (s8 : List T) (s9 : Int) (s10 : Int) (s11 : List T) (s12 : List T) (s13 : List T) (s14 : Int) (s15 : Int) (s16 : List T) (s17 : List T) (s18 : List T) (s19 : Int) (s20 : Int) (x : (List T) × (List T) × (List T) × Int × Int × (List T) × (List T) × (List T) × Int × Int × (List T) × (List T) × (List T) × Int × Int × (List T) × (List T) × (List T) × Int × Int), l_suturelaw28_JudgeOrder_18 n m (s0, s1, s2, s3, s4, s5, s6, s7, s8, s9, s10, s11, s12, s13, s14, s15, s16, s17, s18, s19, s20) = some x → SemL Try.prog 0 code_l_suturelaw28_JudgeOrder_18 (SEnv.env 162 [(15, (V.ptr 0 0)), (16, (V.ptr 1 0)), (17, (V.ptr 2 0)), (18, (V.ptr 3 0)), (22, (V.t (T.sc (.int .i64 s0))))]) [some [(V.t (T.list s1)), (V.t (T.list s2)), (V.t (T.list s3)), (V.t (T.sc (.int .i64 s4))), (V.t (T.sc (.int .i64 s5)))], some [(V.t (T.list s6)), (V.t (T.list s7)), (V.t (T.list s8)), (V.t (T.sc (.int .i64 s9))), (V.t (T.sc (.int .i64 s10)))], some [(V.own 3 s11), (V.own 1 s12), (V.t (T.list s13)), (V.t (T.sc (.int .i64 s14))), (V.t (T.sc (.int .i64 s15)))], some [(V.own 3 s16), (V.own 1 s17), (V.t (T.list s18)), (V.t (T.sc (.int .i64 s19))), (V.t (T.sc (.int .i64 s20)))]] (l_suturelaw28_JudgeOrder_18_Q x)
  | 0, s0, s1, s2, s3, s4, s5, s6, s7, s8, s9, s10, s11, s12, s13, s14, s15, s16, s17, s18, s19, s20, x, h => by cases h
  | m + 1, s0, s1, s2, s3, s4, s5, s6, s7, s8, s9, s10, s11, s12, s13, s14, s15, s16, s17, s18, s19, s20, x, h => by
    refine loop_step (sp_suturelaw28_JudgeOrder_ok n) code_l_suturelaw28_JudgeOrder_18_ok (fun a ha => absurd ha (by rw [show loopsOf code_l_suturelaw28_JudgeOrder_18 = [] from by kernel_rfl]; simp)) ((l_suturelaw28_JudgeOrder_18_eq n _ s0 s1 s2 s3 s4 s5 s6 s7 s8 s9 s10 s11 s12 s13 s14 s15 s16 s17 s18 s19 s20).trans h) (fun E sg h => ?_) (fun ex E sg hne h => ?_)
    · simp only [l_suturelaw28_JudgeOrder_18_K] at h
      obtain ⟨u0, hu0, h⟩ := Option.bind_eq_some_iff.1 h
      obtain ⟨u1, hu1, h⟩ := Option.bind_eq_some_iff.1 h
      obtain ⟨u2, hu2, h⟩ := Option.bind_eq_some_iff.1 h
      obtain ⟨u3, hu3, h⟩ := Option.bind_eq_some_iff.1 h
      obtain ⟨u4, hu4, h⟩ := Option.bind_eq_some_iff.1 h
      obtain ⟨u5, hu5, h⟩ := Option.bind_eq_some_iff.1 h
      obtain ⟨u6, hu6, h⟩ := Option.bind_eq_some_iff.1 h
      obtain ⟨u7, hu7, h⟩ := Option.bind_eq_some_iff.1 h
      obtain ⟨u8, hu8, h⟩ := Option.bind_eq_some_iff.1 h
      obtain ⟨u9, hu9, h⟩ := Option.bind_eq_some_iff.1 h
      obtain ⟨u10, hu10, h⟩ := Option.bind_eq_some_iff.1 h
      obtain ⟨u11, hu11, h⟩ := Option.bind_eq_some_iff.1 h
      obtain ⟨u12, hu12, h⟩ := Option.bind_eq_some_iff.1 h
      obtain ⟨u13, hu13, h⟩ := Option.bind_eq_some_iff.1 h
      obtain ⟨u14, hu14, h⟩ := Option.bind_eq_some_iff.1 h
      obtain ⟨u15, hu15, h⟩ := Option.bind_eq_some_iff.1 h
      obtain ⟨u16, hu16, h⟩ := Option.bind_eq_some_iff.1 h
      obtain ⟨u17, hu17, h⟩ := Option.bind_eq_some_iff.1 h
      obtain ⟨u18, hu18, h⟩ := Option.bind_eq_some_iff.1 h
      obtain ⟨u19, hu19, h⟩ := Option.bind_eq_some_iff.1 h
      obtain ⟨u20, hu20, h⟩ := Option.bind_eq_some_iff.1 h
      obtain ⟨u21, hu21, h⟩ := Option.bind_eq_some_iff.1 h
      obtain ⟨u22, hu22, h⟩ := Option.bind_eq_some_iff.1 h
      obtain ⟨u23, hu23, h⟩ := Option.bind_eq_some_iff.1 h
      obtain ⟨u24, hu24, h⟩ := Option.bind_eq_some_iff.1 h
      obtain ⟨u25, hu25, h⟩ := Option.bind_eq_some_iff.1 h
      obtain ⟨u26, hu26, h⟩ := Option.bind_eq_some_iff.1 h
      obtain ⟨u27, hu27, h⟩ := Option.bind_eq_some_iff.1 h
      obtain ⟨u28, hu28, h⟩ := Option.bind_eq_some_iff.1 h
      exact SemL.pre (k := 4) (by decide) (WkA.env (WkA.cons (ptrOf_wk hu0) rfl (WkA.cons (ptrOf_wk hu1) rfl (WkA.cons (ptrOf_wk hu2) rfl (WkA.cons (ptrOf_wk hu3) rfl (WkA.cons (intOf_wk hu4) rfl WkA.nil))))) 162) (wkR_sig (WkR.cons (cellsN_wk hu5 (.cons (lstOf_wk hu6) (.cons (lstOf_wk hu7) (.cons (lstOf_wk hu8) (.cons (intOf_wk hu9) (.cons (intOf_wk hu10) .nil)))))).1 (cellsN_wk hu5 (.cons (lstOf_wk hu6) (.cons (lstOf_wk hu7) (.cons (lstOf_wk hu8) (.cons (intOf_wk hu9) (.cons (intOf_wk hu10) .nil)))))).2 (renL_mem (.cons rfl (.cons rfl (.cons rfl (.cons rfl (.cons rfl .nil)))))) (WkR.cons (cellsN_wk hu11 (.cons (lstOf_wk hu12) (.cons (lstOf_wk hu13) (.cons (lstOf_wk hu14) (.cons (intOf_wk hu15) (.cons (intOf_wk hu16) .nil)))))).1 (cellsN_wk hu11 (.cons (lstOf_wk hu12) (.cons (lstOf_wk hu13) (.cons (lstOf_wk hu14) (.cons (intOf_wk hu15) (.cons (intOf_wk hu16) .nil)))))).2 (renL_mem (.cons rfl (.cons rfl (.cons rfl (.cons rfl (.cons rfl .nil)))))) (WkR.cons (cellsN_wk hu17 (.cons (ownOf_wk hu18) (.cons (ownOf_wk hu19) (.cons (lstOf_wk hu20) (.cons (intOf_wk hu21) (.cons (intOf_wk hu22) .nil)))))).1 (cellsN_wk hu17 (.cons (ownOf_wk hu18) (.cons (ownOf_wk hu19) (.cons (lstOf_wk hu20) (.cons (intOf_wk hu21) (.cons (intOf_wk hu22) .nil)))))).2 (renL_mem (.cons rfl (.cons rfl (.cons rfl (.cons rfl (.cons rfl .nil)))))) (WkR.cons (cellsN_wk hu23 (.cons (ownOf_wk hu24) (.cons (ownOf_wk hu25) (.cons (lstOf_wk hu26) (.cons (intOf_wk hu27) (.cons (intOf_wk hu28) .nil)))))).1 (cellsN_wk hu23 (.cons (ownOf_wk hu24) (.cons (ownOf_wk hu25) (.cons (lstOf_wk hu26) (.cons (intOf_wk hu27) (.cons (intOf_wk hu28) .nil)))))).2 (renL_mem (.cons rfl (.cons rfl (.cons rfl (.cons rfl (.cons rfl .nil)))))) (WkR.nil _))))) rfl) (l_suturelaw28_JudgeOrder_18_run n m _ _ _ _ _ _ _ _ _ _ _ _ _ _ _ _ _ _ _ _ _ x h)
    · unfold l_suturelaw28_JudgeOrder_18_K at h
      split at h
      · exact absurd rfl hne
      · obtain ⟨u0, hu0, h⟩ := Option.bind_eq_some_iff.1 h
        obtain ⟨u1, hu1, h⟩ := Option.bind_eq_some_iff.1 h
        obtain ⟨u2, hu2, h⟩ := Option.bind_eq_some_iff.1 h
        obtain ⟨u3, hu3, h⟩ := Option.bind_eq_some_iff.1 h
        obtain ⟨u4, hu4, h⟩ := Option.bind_eq_some_iff.1 h
        obtain ⟨u5, hu5, h⟩ := Option.bind_eq_some_iff.1 h
        obtain ⟨u6, hu6, h⟩ := Option.bind_eq_some_iff.1 h
        obtain ⟨u7, hu7, h⟩ := Option.bind_eq_some_iff.1 h
        obtain ⟨u8, hu8, h⟩ := Option.bind_eq_some_iff.1 h
        obtain ⟨u9, hu9, h⟩ := Option.bind_eq_some_iff.1 h
        obtain ⟨u10, hu10, h⟩ := Option.bind_eq_some_iff.1 h
        obtain ⟨u11, hu11, h⟩ := Option.bind_eq_some_iff.1 h
        obtain ⟨u12, hu12, h⟩ := Option.bind_eq_some_iff.1 h
        obtain ⟨u13, hu13, h⟩ := Option.bind_eq_some_iff.1 h
        obtain ⟨u14, hu14, h⟩ := Option.bind_eq_some_iff.1 h
        obtain ⟨u15, hu15, h⟩ := Option.bind_eq_some_iff.1 h
        obtain ⟨u16, hu16, h⟩ := Option.bind_eq_some_iff.1 h
        obtain ⟨u17, hu17, h⟩ := Option.bind_eq_some_iff.1 h
        obtain ⟨u18, hu18, h⟩ := Option.bind_eq_some_iff.1 h
        obtain ⟨u19, hu19, h⟩ := Option.bind_eq_some_iff.1 h
        obtain ⟨u20, hu20, h⟩ := Option.bind_eq_some_iff.1 h
        obtain ⟨u21, hu21, h⟩ := Option.bind_eq_some_iff.1 h
        obtain ⟨u22, hu22, h⟩ := Option.bind_eq_some_iff.1 h
        obtain ⟨u23, hu23, h⟩ := Option.bind_eq_some_iff.1 h
        obtain ⟨u24, hu24, h⟩ := Option.bind_eq_some_iff.1 h
        obtain ⟨u25, hu25, h⟩ := Option.bind_eq_some_iff.1 h
        obtain ⟨u26, hu26, h⟩ := Option.bind_eq_some_iff.1 h
        obtain ⟨u27, hu27, h⟩ := Option.bind_eq_some_iff.1 h
        simp only [Option.some.injEq] at h
        subst h
        exact ⟨4, _, _, by decide, WkA.env (WkA.cons (ptrOf_wk hu0) rfl (WkA.cons (ptrOf_wk hu1) rfl (WkA.cons (ptrOf_wk hu2) rfl (WkA.cons (ptrOf_wk hu3) rfl WkA.nil)))) 162, (wkR_sig (WkR.cons (cellsN_wk hu4 (.cons (lstOf_wk hu5) (.cons (lstOf_wk hu6) (.cons (lstOf_wk hu7) (.cons (intOf_wk hu8) (.cons (intOf_wk hu9) .nil)))))).1 (cellsN_wk hu4 (.cons (lstOf_wk hu5) (.cons (lstOf_wk hu6) (.cons (lstOf_wk hu7) (.cons (intOf_wk hu8) (.cons (intOf_wk hu9) .nil)))))).2 (renL_mem (.cons rfl (.cons rfl (.cons rfl (.cons rfl (.cons rfl .nil)))))) (WkR.cons (cellsN_wk hu10 (.cons (lstOf_wk hu11) (.cons (lstOf_wk hu12) (.cons (lstOf_wk hu13) (.cons (intOf_wk hu14) (.cons (intOf_wk hu15) .nil)))))).1 (cellsN_wk hu10 (.cons (lstOf_wk hu11) (.cons (lstOf_wk hu12) (.cons (lstOf_wk hu13) (.cons (intOf_wk hu14) (.cons (intOf_wk hu15) .nil)))))).2 (renL_mem (.cons rfl (.cons rfl (.cons rfl (.cons rfl (.cons rfl .nil)))))) (WkR.cons (cellsN_wk hu16 (.cons (ownOf_wk hu17) (.cons (ownOf_wk hu18) (.cons (lstOf_wk hu19) (.cons (intOf_wk hu20) (.cons (intOf_wk hu21) .nil)))))).1 (cellsN_wk hu16 (.cons (ownOf_wk hu17) (.cons (ownOf_wk hu18) (.cons (lstOf_wk hu19) (.cons (intOf_wk hu20) (.cons (intOf_wk hu21) .nil)))))).2 (renL_mem (.cons rfl (.cons rfl (.cons rfl (.cons rfl (.cons rfl .nil)))))) (WkR.cons (cellsN_wk hu22 (.cons (ownOf_wk hu23) (.cons (ownOf_wk hu24) (.cons (lstOf_wk hu25) (.cons (intOf_wk hu26) (.cons (intOf_wk hu27) .nil)))))).1 (cellsN_wk hu22 (.cons (ownOf_wk hu23) (.cons (ownOf_wk hu24) (.cons (lstOf_wk hu25) (.cons (intOf_wk hu26) (.cons (intOf_wk hu27) .nil)))))).2 (renL_mem (.cons rfl (.cons rfl (.cons rfl (.cons rfl (.cons rfl .nil)))))) (WkR.nil _))))) rfl), rfl, rfl, rfl⟩
      · cases h
theorem l_suturelaw28_JudgeOrder_18_ok (n : Nat) : LoopOk Try.prog (sp_suturelaw28_JudgeOrder n) 0 162 code_l_suturelaw28_JudgeOrder_18 := by
    intro R key E sg K r hk h
    rw [show Go.Eng.keyOf code_l_suturelaw28_JudgeOrder_18 = some 18 from by kernel_rfl] at hk
    cases hk
    have h : l_suturelaw28_JudgeOrder_18_S n R E sg K = some r := h
    unfold l_suturelaw28_JudgeOrder_18_S at h
    obtain ⟨u0, hu0, h⟩ := Option.bind_eq_some_iff.1 h
    obtain ⟨u1, hu1, h⟩ := Option.bind_eq_some_iff.1 h
    obtain ⟨u2, hu2, h⟩ := Option.bind_eq_some_iff.1 h
    obtain ⟨u3, hu3, h⟩ := Option.bind_eq_some_iff.1 h
    obtain ⟨u4, hu4, h⟩ := Option.bind_eq_some_iff.1 h
    obtain ⟨u5, hu5, h⟩ := Option.bind_eq_some_iff.1 h
    obtain ⟨u6, hu6, h⟩ := Option.bind_eq_some_iff.1 h
    obtain ⟨u7, hu7, h⟩ := Option.bind_eq_some_iff.1 h
    obtain ⟨u8, hu8, h⟩ := Option.bind_eq_some_iff.1 h
    obtain ⟨u9, hu9, h⟩ := Option.bind_eq_some_iff.1 h
    obtain ⟨u10, hu10, h⟩ := Option.bind_eq_some_iff.1 h
    obtain ⟨u11, hu11, h⟩ := Option.bind_eq_some_iff.1 h
    obtain ⟨u12, hu12, h⟩ := Option.bind_eq_some_iff.1 h
    obtain ⟨u13, hu13, h⟩ := Option.bind_eq_some_iff.1 h
    obtain ⟨u14, hu14, h⟩ := Option.bind_eq_some_iff.1 h
    obtain ⟨u15, hu15, h⟩ := Option.bind_eq_some_iff.1 h
    obtain ⟨u16, hu16, h⟩ := Option.bind_eq_some_iff.1 h
    obtain ⟨u17, hu17, h⟩ := Option.bind_eq_some_iff.1 h
    obtain ⟨u18, hu18, h⟩ := Option.bind_eq_some_iff.1 h
    obtain ⟨u19, hu19, h⟩ := Option.bind_eq_some_iff.1 h
    obtain ⟨u20, hu20, h⟩ := Option.bind_eq_some_iff.1 h
    obtain ⟨u21, hu21, h⟩ := Option.bind_eq_some_iff.1 h
    obtain ⟨u22, hu22, h⟩ := Option.bind_eq_some_iff.1 h
    obtain ⟨u23, hu23, h⟩ := Option.bind_eq_some_iff.1 h
    obtain ⟨u24, hu24, h⟩ := Option.bind_eq_some_iff.1 h
    obtain ⟨u25, hu25, h⟩ := Option.bind_eq_some_iff.1 h
    obtain ⟨u26, hu26, h⟩ := Option.bind_eq_some_iff.1 h
    obtain ⟨u27, hu27, h⟩ := Option.bind_eq_some_iff.1 h
    obtain ⟨u28, hu28, h⟩ := Option.bind_eq_some_iff.1 h
    obtain ⟨x, hx, h⟩ := Option.bind_eq_some_iff.1 h
    refine (SemL.pre (k := 4) (by decide) (WkA.env (WkA.cons (ptrOf_wk hu0) rfl (WkA.cons (ptrOf_wk hu1) rfl (WkA.cons (ptrOf_wk hu2) rfl (WkA.cons (ptrOf_wk hu3) rfl (WkA.cons (intOf_wk hu4) rfl WkA.nil))))) 162) (wkR_sig (WkR.cons (cellsN_wk hu5 (.cons (lstOf_wk hu6) (.cons (lstOf_wk hu7) (.cons (lstOf_wk hu8) (.cons (intOf_wk hu9) (.cons (intOf_wk hu10) .nil)))))).1 (cellsN_wk hu5 (.cons (lstOf_wk hu6) (.cons (lstOf_wk hu7) (.cons (lstOf_wk hu8) (.cons (intOf_wk hu9) (.cons (intOf_wk hu10) .nil)))))).2 (renL_mem (.cons rfl (.cons rfl (.cons rfl (.cons rfl (.cons rfl .nil)))))) (WkR.cons (cellsN_wk hu11 (.cons (lstOf_wk hu12) (.cons (lstOf_wk hu13) (.cons (lstOf_wk hu14) (.cons (intOf_wk hu15) (.cons (intOf_wk hu16) .nil)))))).1 (cellsN_wk hu11 (.cons (lstOf_wk hu12) (.cons (lstOf_wk hu13) (.cons (lstOf_wk hu14) (.cons (intOf_wk hu15) (.cons (intOf_wk hu16) .nil)))))).2 (renL_mem (.cons rfl (.cons rfl (.cons rfl (.cons rfl (.cons rfl .nil)))))) (WkR.cons (cellsN_wk hu17 (.cons (ownOf_wk hu18) (.cons (ownOf_wk hu19) (.cons (lstOf_wk hu20) (.cons (intOf_wk hu21) (.cons (intOf_wk hu22) .nil)))))).1 (cellsN_wk hu17 (.cons (ownOf_wk hu18) (.cons (ownOf_wk hu19) (.cons (lstOf_wk hu20) (.cons (intOf_wk hu21) (.cons (intOf_wk hu22) .nil)))))).2 (renL_mem (.cons rfl (.cons rfl (.cons rfl (.cons rfl (.cons rfl .nil)))))) (WkR.cons (cellsN_wk hu23 (.cons (ownOf_wk hu24) (.cons (ownOf_wk hu25) (.cons (lstOf_wk hu26) (.cons (intOf_wk hu27) (.cons (intOf_wk hu28) .nil)))))).1 (cellsN_wk hu23 (.cons (ownOf_wk hu24) (.cons (ownOf_wk hu25) (.cons (lstOf_wk hu26) (.cons (intOf_wk hu27) (.cons (intOf_wk hu28) .nil)))))).2 (renL_mem (.cons rfl (.cons rfl (.cons rfl (.cons rfl (.cons rfl .nil)))))) (WkR.nil _))))) rfl) (l_suturelaw28_JudgeOrder_18_run n n _ _ _ _ _ _ _ _ _ _ _ _ _ _ _ _ _ _ _ _ _ x hx)).mono ?_
    intro ex e s hq
    obtain ⟨rfl, rfl, rfl⟩ := hq
    exact ⟨_, rfl, h⟩
def K_suturelaw28_JudgeOrder (v : V) (s : Sig) : Option (Bool) := Option.bind (V.boolOf v) fun u0 => some u0
theorem K_suturelaw28_JudgeOrder_wk {v : V} {s : Sig} {r : Bool} (h : K_suturelaw28_JudgeOrder v s = some r) : Wk v (enc_suturelaw28_JudgeOrder r) ∧ WkS 0 s (encS_suturelaw28_JudgeOrder r) := by
  unfold K_suturelaw28_JudgeOrder at h
  obtain ⟨u0, hu0, h⟩ := Option.bind_eq_some_iff.1 h
  simp only [Option.some.injEq] at h
  subst h
  exact ⟨(boolOf_wk hu0), (WkS.none _)⟩
theorem m_suturelaw28_JudgeOrder_eq (n : Nat) (a0 : List T) (a1 : List T) (a2 : List T) (a3 : List T) (a4 : Int) (a5 : Int) (a6 : Int) : mF Try.prog (sp_suturelaw28_JudgeOrder n) 6 [(V.t (T.list a0)), (V.t (T.list a1)), (V.t (T.list a2)), (V.t (T.list a3)), (V.t (T.sc (.int .i64 a4))), (V.t (T.sc (.int .i64 a5))), (V.t (T.sc (.int .i64 a6)))] [] K_suturelaw28_JudgeOrder = m_suturelaw28_JudgeOrder n a0 a1 a2 a3 a4 a5 a6 := by kernel_rfl
theorem m_suturelaw28_JudgeOrder_ok (n : Nat) : ok_suturelaw28_JudgeOrder (m_suturelaw28_JudgeOrder n) := fun a0 a1 a2 a3 a4 a5 a6 r h => mF_ok sound (sp_suturelaw28_JudgeOrder_ok n) code_suturelaw28_JudgeOrder_fn code_suturelaw28_JudgeOrder_body (forall_getD (d := .skip) 4 (by kernel_rfl) (fun i hi => match i, hi with | 0, _ => l_suturelaw28_JudgeOrder_6_ok n | 1, _ => l_suturelaw28_JudgeOrder_10_ok n | 2, _ => l_suturelaw28_JudgeOrder_14_ok n | 3, _ => l_suturelaw28_JudgeOrder_18_ok n | i + 4, hi => absurd hi (by omega))) ((m_suturelaw28_JudgeOrder_eq n a0 a1 a2 a3 a4 a5 a6).trans h) (fun v s hk => ⟨(K_suturelaw28_JudgeOrder_wk hk).1, rfl, (K_suturelaw28_JudgeOrder_wk hk).2⟩)

end Go.Proofs.Ytgpokdaacbjimac.W
