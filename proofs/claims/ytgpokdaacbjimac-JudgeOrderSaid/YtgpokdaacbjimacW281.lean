/- What the engine's walk comes to, printed by a program of this work: for each function its model, and that it is one. No conditions. -/
import Derived.Test.YtgpokdaacbjimacBase
namespace Go.Proofs.Ytgpokdaacbjimac.W
open Go Go.Eng
set_option linter.unusedVariables false
set_option linter.unusedSimpArgs false
set_option maxRecDepth 100000


/-! suture/suturehand.Pick -/
def m_suturehand_Pick (n : Nat) (a0 : Int) (a1 : Int) : Option (Int) :=
must true (!decide (a1 = 0)) (bif (decide (((Int.tmod a0 a1) : Int) < 0)) then (
some (IntKind.wrap .i64 ((Int.tmod a0 a1) + a1)))
else (
some (Int.tmod a0 a1)))
def enc_suturehand_Pick (r : Int) : V := (V.t (T.sc (.int .i64 r)))
def encS_suturehand_Pick (r : Int) : Sig := []
def ok_suturehand_Pick (m : Int → Int → Option (Int)) : Prop := ∀ (a0 : Int) (a1 : Int) (r : Int), m a0 a1 = some r → FuncOk Try.prog 20 [(V.t (T.sc (.int .i64 a0))), (V.t (T.sc (.int .i64 a1)))] [] (enc_suturehand_Pick r) (encS_suturehand_Pick r)
def c_suturehand_Pick (m : Int → Int → Option (Int)) (vs : List V) (sg : Sig) : Option CallM := bif Nat.beq vs.length 2 && Nat.beq sg.length 0 then Option.bind (V.intOf .i64 (vs.getD 0 .any)) fun u0 => Option.bind (V.intOf .i64 (vs.getD 1 .any)) fun u1 => some { α := Int, m := m u0 u1, dflt := 0, enc := fun y => ((V.t (T.sc (.int .i64 y))), []) } else none
theorem c_suturehand_Pick_ok (m : Int → Int → Option (Int)) (hm : ok_suturehand_Pick m) (vs : List V) (sg : Sig) (cm : CallM) (x : cm.α) (h : c_suturehand_Pick m vs sg = some cm) (hx : cm.m = some x) : FuncOk Try.prog 20 vs sg (cm.enc x).1 (cm.enc x).2 := by
  unfold c_suturehand_Pick at h
  have h0 := callee_sig h
  clear h
  obtain ⟨hl, hs, h⟩ := h0
  obtain ⟨u0, hu0, h⟩ := Option.bind_eq_some_iff.1 h
  obtain ⟨u1, hu1, h⟩ := Option.bind_eq_some_iff.1 h
  simp only [Option.some.injEq] at h
  subst h
  exact (hm u0 u1 x hx).wk (args_wk hl (.cons (intOf_wk hu0) (.cons (intOf_wk hu1) .nil))) (wkSg_of hs .nil)
noncomputable def code_suturehand_Pick : Code := Try.f20.body.getD .skip
noncomputable def sp_suturehand_Pick (n : Nat) : Go.Eng.Spec := ⟨fun f vs sg => (match f with
    | _ => none), fun R key E sg K => (match key with
    | _ => none)⟩
theorem sp_suturehand_Pick_ok (n : Nat) : CallsOk Try.prog (sp_suturehand_Pick n) := by
  intro f vs sg cm x h hx
  have h : (none : Option CallM) = some cm := h
  cases h
theorem code_suturehand_Pick_fn : Try.prog.funcs[20]? = some Try.f20 := Try.func20
theorem code_suturehand_Pick_body : Try.f20.body = some code_suturehand_Pick := by kernel_rfl
theorem code_suturehand_Pick_ok : CodeOk Try.prog code_suturehand_Pick := (sound 20 _ _ code_suturehand_Pick_fn code_suturehand_Pick_body).1
def K_suturehand_Pick (v : V) (s : Sig) : Option (Int) := Option.bind (V.intOf .i64 v) fun u0 => some u0
theorem K_suturehand_Pick_wk {v : V} {s : Sig} {r : Int} (h : K_suturehand_Pick v s = some r) : Wk v (enc_suturehand_Pick r) ∧ WkS 0 s (encS_suturehand_Pick r) := by
  unfold K_suturehand_Pick at h
  obtain ⟨u0, hu0, h⟩ := Option.bind_eq_some_iff.1 h
  simp only [Option.some.injEq] at h
  subst h
  exact ⟨(intOf_wk hu0), (WkS.none _)⟩
theorem m_suturehand_Pick_eq (n : Nat) (a0 : Int) (a1 : Int) : mF Try.prog (sp_suturehand_Pick n) 20 [(V.t (T.sc (.int .i64 a0))), (V.t (T.sc (.int .i64 a1)))] [] K_suturehand_Pick = m_suturehand_Pick n a0 a1 := by kernel_rfl
theorem m_suturehand_Pick_ok (n : Nat) : ok_suturehand_Pick (m_suturehand_Pick n) := fun a0 a1 r h => mF_ok sound (sp_suturehand_Pick_ok n) code_suturehand_Pick_fn code_suturehand_Pick_body (fun a ha => absurd ha (by rw [show loopsOf code_suturehand_Pick = [] from by kernel_rfl]; simp)) ((m_suturehand_Pick_eq n a0 a1).trans h) (fun v s hk => ⟨(K_suturehand_Pick_wk hk).1, rfl, (K_suturehand_Pick_wk hk).2⟩)


/-! suture/suturelaw28.result -/
def l_suturelaw28_result_3_B (n : Nat) (k : (List T) × (List T) × Int × Int × (List T) × (List T) × (List T) × Int × Int × (List T) × (List T) × (List T) × Int × Int → Option ((List T) × Int × (List T) × (List T) × (List T) × Int × Int × (List T) × (List T) × (List T) × Int × Int)) : (List T) × (List T) × Int × Int × (List T) × (List T) × (List T) × Int × Int × (List T) × (List T) × (List T) × Int × Int → Option ((List T) × Int × (List T) × (List T) × (List T) × Int × Int × (List T) × (List T) × (List T) × Int × Int) := fun (s0, s1, s2, s3, s4, s5, s6, s7, s8, s9, s10, s11, s12, s13) =>
bif (bif (decide ((s3 : Int) < ((List.length s0 : Nat) : Int))) then (decide ((s3 : Int) < 5)) else false) then (
Option.bind (idx true [.int .i64] s0 s3) fun y0 =>
Option.bind (m_suturehand_Pick n (y0.cell 0).int 3) fun r1 =>
Option.bind (idx true [.int .i64] s0 s3) fun y2 =>
must true (!decide (3 = 0)) (Option.bind (m_suturehand_Pick n (IntKind.wrap .i64 (Int.tdiv (y2.cell 0).int 3)) 2) fun r3 =>
must true (decide (r3 = r3) && decide (0 ≤ r3) && decide (r3 ≤ 1073741824)) (Option.bind (idx true [.int .i64] s0 s3) fun y4 =>
must true (!decide (6 = 0)) (Option.bind (m_suturehand_Pick n (IntKind.wrap .i64 (Int.tdiv (y4.cell 0).int 6)) 5) fun r5 =>
must true ((Nat.beq 3 3 || Nat.beq 3 0) && (decide (List.length s9 + List.length [(T.agg [(T.list [(T.sc (.int .i64 r1))]), (T.list (List.replicate (Int.toNat r3) (T.sc (.int .i64 0)))), (T.sc (.bool ((r5 : Int) == 4)))])] ≤ 1073741824) && sized 3 [(T.agg [(T.list [(T.sc (.int .i64 r1))]), (T.list (List.replicate (Int.toNat r3) (T.sc (.int .i64 0)))), (T.sc (.bool ((r5 : Int) == 4)))])])) (k (s0, s1, s2, (IntKind.wrap .i64 (s3 + 1)), s4, s5, s6, s7, s8, (s9 ++ [(T.agg [(T.list [(T.sc (.int .i64 r1))]), (T.list (List.replicate (Int.toNat r3) (T.sc (.int .i64 0)))), (T.sc (.bool ((r5 : Int) == 4)))])]), s10, s11, s12, s13))))))
else (
some (s1, s2, s4, s5, s6, s7, s8, s9, s10, s11, s12, s13))
def l_suturelaw28_result_3 (n : Nat) : Nat → (List T) × (List T) × Int × Int × (List T) × (List T) × (List T) × Int × Int × (List T) × (List T) × (List T) × Int × Int → Option ((List T) × Int × (List T) × (List T) × (List T) × Int × Int × (List T) × (List T) × (List T) × Int × Int)
  | 0, _ => none
  | m + 1, s => l_suturelaw28_result_3_B n (l_suturelaw28_result_3 n m) s
def l_suturelaw28_result_7_B (n : Nat) (k : (List T) × Int × Int × (List T) × (List T) × (List T) × Int × Int × (List T) × (List T) × (List T) × Int × Int → Option (Int × (List T) × (List T) × (List T) × Int × Int × (List T) × (List T) × (List T) × Int × Int)) : (List T) × Int × Int × (List T) × (List T) × (List T) × Int × Int × (List T) × (List T) × (List T) × Int × Int → Option (Int × (List T) × (List T) × (List T) × Int × Int × (List T) × (List T) × (List T) × Int × Int) := fun (s0, s1, s2, s3, s4, s5, s6, s7, s8, s9, s10, s11, s12) =>
bif (bif (decide ((s2 : Int) < ((List.length s0 : Nat) : Int))) then (decide ((s2 : Int) < 3)) else false) then (
Option.bind (idx true [.int .i64] s0 s2) fun y8 =>
Option.bind (m_suturehand_Pick n (y8.cell 0).int 3) fun r9 =>
Option.bind (idx1 true (.str) [(T.sc (.string (⟨#[49, 32]⟩ : ByteArray))), (T.sc (.string (⟨#[50, 32]⟩ : ByteArray))), (T.sc (.string (⟨#[]⟩ : ByteArray)))] r9) fun y10 =>
must true ((Nat.beq 1 1 || Nat.beq 1 0) && (decide (List.length s9 + List.length [(T.sc (.string y10.str))] ≤ 1073741824) && sized 1 [(T.sc (.string y10.str))])) (k (s0, s1, (IntKind.wrap .i64 (s2 + 1)), s3, s4, s5, s6, s7, s8, (s9 ++ [(T.sc (.string y10.str))]), s10, s11, s12)))
else (
some (s1, s3, s4, s5, s6, s7, s8, s9, s10, s11, s12))
def l_suturelaw28_result_7 (n : Nat) : Nat → (List T) × Int × Int × (List T) × (List T) × (List T) × Int × Int × (List T) × (List T) × (List T) × Int × Int → Option (Int × (List T) × (List T) × (List T) × Int × Int × (List T) × (List T) × (List T) × Int × Int)
  | 0, _ => none
  | m + 1, s => l_suturelaw28_result_7_B n (l_suturelaw28_result_7 n m) s
def m_suturelaw28_result (n : Nat) (a0 : List T) (a1 : List T) (a2 : Int) : Option ((List T) × (List T) × (List T) × Int × Int) :=
Option.bind (l_suturelaw28_result_3 n n (a0, a1, a2, 0, ([] : List T), ([] : List T), ([] : List T), 0, 0, ([] : List T), ([] : List T), ([] : List T), 0, 0)) fun p7 =>
Option.bind (l_suturelaw28_result_7 n n (p7.1, p7.2.1, 0, p7.2.2.1, p7.2.2.2.1, p7.2.2.2.2.1, p7.2.2.2.2.2.1, p7.2.2.2.2.2.2.1, p7.2.2.2.2.2.2.2.1, p7.2.2.2.2.2.2.2.2.1, p7.2.2.2.2.2.2.2.2.2.1, p7.2.2.2.2.2.2.2.2.2.2.1, p7.2.2.2.2.2.2.2.2.2.2.2)) fun p12 =>
must true (!decide (4 = 0)) (bif (((Int.tmod p12.1 4) : Int) == 3) then (
some (p12.2.2.2.2.2.2.1, p12.2.2.2.2.2.2.2.1, [(T.agg [(T.sc (.int .i64 0)), (T.sc (.int .i64 1)), (T.sc (.int .i64 0)), (T.list ([] : List T))])], p12.2.2.2.2.2.2.2.2.2.1, p12.2.2.2.2.2.2.2.2.2.2))
else (
some (p12.2.2.2.2.2.2.1, p12.2.2.2.2.2.2.2.1, p12.2.2.2.2.2.2.2.2.1, p12.2.2.2.2.2.2.2.2.2.1, p12.2.2.2.2.2.2.2.2.2.2)))
def enc_suturelaw28_result (r : (List T) × (List T) × (List T) × Int × Int) : V := (V.agg [(V.t (T.list r.1)), (V.t (T.list r.2.1)), (V.t (T.list r.2.2.1)), (V.t (T.sc (.int .i64 r.2.2.2.1))), (V.t (T.sc (.int .i64 r.2.2.2.2)))])
def encS_suturelaw28_result (r : (List T) × (List T) × (List T) × Int × Int) : Sig := []
def ok_suturelaw28_result (m : List T → List T → Int → Option ((List T) × (List T) × (List T) × Int × Int)) : Prop := ∀ (a0 : List T) (a1 : List T) (a2 : Int) (r : (List T) × (List T) × (List T) × Int × Int), m a0 a1 a2 = some r → FuncOk Try.prog 10 [(V.t (T.list a0)), (V.t (T.list a1)), (V.t (T.sc (.int .i64 a2)))] [] (enc_suturelaw28_result r) (encS_suturelaw28_result r)
def c_suturelaw28_result (m : List T → List T → Int → Option ((List T) × (List T) × (List T) × Int × Int)) (vs : List V) (sg : Sig) : Option CallM := bif Nat.beq vs.length 3 && Nat.beq sg.length 0 then Option.bind (V.lstOf (vs.getD 0 .any)) fun u0 => Option.bind (V.lstOf (vs.getD 1 .any)) fun u1 => Option.bind (V.intOf .i64 (vs.getD 2 .any)) fun u2 => some { α := (List T) × (List T) × (List T) × Int × Int, m := m u0 u1 u2, dflt := ([], [], [], 0, 0), enc := fun y => ((V.agg [(V.t (T.list y.1)), (V.t (T.list y.2.1)), (V.t (T.list y.2.2.1)), (V.t (T.sc (.int .i64 y.2.2.2.1))), (V.t (T.sc (.int .i64 y.2.2.2.2)))]), []) } else none
theorem c_suturelaw28_result_ok (m : List T → List T → Int → Option ((List T) × (List T) × (List T) × Int × Int)) (hm : ok_suturelaw28_result m) (vs : List V) (sg : Sig) (cm : CallM) (x : cm.α) (h : c_suturelaw28_result m vs sg = some cm) (hx : cm.m = some x) : FuncOk Try.prog 10 vs sg (cm.enc x).1 (cm.enc x).2 := by
  unfold c_suturelaw28_result at h
  have h0 := callee_sig h
  clear h
  obtain ⟨hl, hs, h⟩ := h0
  obtain ⟨u0, hu0, h⟩ := Option.bind_eq_some_iff.1 h
  obtain ⟨u1, hu1, h⟩ := Option.bind_eq_some_iff.1 h
  obtain ⟨u2, hu2, h⟩ := Option.bind_eq_some_iff.1 h
  simp only [Option.some.injEq] at h
  subst h
  exact (hm u0 u1 u2 x hx).wk (args_wk hl (.cons (lstOf_wk hu0) (.cons (lstOf_wk hu1) (.cons (intOf_wk hu2) .nil)))) (wkSg_of hs .nil)
noncomputable def code_suturelaw28_result : Code := Try.f10.body.getD .skip
def l_suturelaw28_result_3_S (n : Nat) (R : Type) (E : SEnv) (sg : Sig) (K : Ex → SEnv → Sig → Option R) : Option R := Option.bind (V.lstOf (SEnv.at E 0)) fun u0 => Option.bind (V.lstOf (SEnv.at E 1)) fun u1 => Option.bind (V.intOf .i64 (SEnv.at E 2)) fun u2 => Option.bind (V.ptrOf 0 0 (SEnv.at E 6)) fun u3 => Option.bind (V.ptrOf 1 0 (SEnv.at E 7)) fun u4 => Option.bind (V.intOf .i64 (SEnv.at E 8)) fun u5 => Option.bind (cellsN 5 sg 0) fun u6 => Option.bind (V.ownOf 0 (u6.getD 0 .any)) fun u7 => Option.bind (V.ownOf 0 (u6.getD 1 .any)) fun u8 => Option.bind (V.ownOf 0 (u6.getD 2 .any)) fun u9 => Option.bind (V.intOf .i64 (u6.getD 3 .any)) fun u10 => Option.bind (V.intOf .i64 (u6.getD 4 .any)) fun u11 => Option.bind (cellsN 5 sg 1) fun u12 => Option.bind (V.ownOf 3 (u12.getD 0 .any)) fun u13 => Option.bind (V.ownOf 0 (u12.getD 1 .any)) fun u14 => Option.bind (V.ownOf 0 (u12.getD 2 .any)) fun u15 => Option.bind (V.intOf .i64 (u12.getD 3 .any)) fun u16 => Option.bind (V.intOf .i64 (u12.getD 4 .any)) fun u17 => Option.bind (l_suturelaw28_result_3 n n (u0, u1, u2, u5, u7, u8, u9, u10, u11, u13, u14, u15, u16, u17)) fun p0 => K (.exit 0) [(1, (V.t (T.list p0.1))), (2, (V.t (T.sc (.int .i64 p0.2.1)))), (6, (V.ptr 0 0)), (7, (V.ptr 1 0))] [some [(V.own 0 p0.2.2.1), (V.own 0 p0.2.2.2.1), (V.own 0 p0.2.2.2.2.1), (V.t (T.sc (.int .i64 p0.2.2.2.2.2.1))), (V.t (T.sc (.int .i64 p0.2.2.2.2.2.2.1)))], some [(V.own 3 p0.2.2.2.2.2.2.2.1), (V.own 0 p0.2.2.2.2.2.2.2.2.1), (V.own 0 p0.2.2.2.2.2.2.2.2.2.1), (V.t (T.sc (.int .i64 p0.2.2.2.2.2.2.2.2.2.2.1))), (V.t (T.sc (.int .i64 p0.2.2.2.2.2.2.2.2.2.2.2)))]]
def l_suturelaw28_result_7_S (n : Nat) (R : Type) (E : SEnv) (sg : Sig) (K : Ex → SEnv → Sig → Option R) : Option R := Option.bind (V.lstOf (SEnv.at E 1)) fun u0 => Option.bind (V.intOf .i64 (SEnv.at E 2)) fun u1 => Option.bind (V.ptrOf 0 0 (SEnv.at E 6)) fun u2 => Option.bind (V.ptrOf 1 0 (SEnv.at E 7)) fun u3 => Option.bind (V.intOf .i64 (SEnv.at E 9)) fun u4 => Option.bind (cellsN 5 sg 0) fun u5 => Option.bind (V.ownOf 0 (u5.getD 0 .any)) fun u6 => Option.bind (V.ownOf 0 (u5.getD 1 .any)) fun u7 => Option.bind (V.ownOf 0 (u5.getD 2 .any)) fun u8 => Option.bind (V.intOf .i64 (u5.getD 3 .any)) fun u9 => Option.bind (V.intOf .i64 (u5.getD 4 .any)) fun u10 => Option.bind (cellsN 5 sg 1) fun u11 => Option.bind (V.ownOf 3 (u11.getD 0 .any)) fun u12 => Option.bind (V.ownOf 1 (u11.getD 1 .any)) fun u13 => Option.bind (V.ownOf 0 (u11.getD 2 .any)) fun u14 => Option.bind (V.intOf .i64 (u11.getD 3 .any)) fun u15 => Option.bind (V.intOf .i64 (u11.getD 4 .any)) fun u16 => Option.bind (l_suturelaw28_result_7 n n (u0, u1, u4, u6, u7, u8, u9, u10, u12, u13, u14, u15, u16)) fun p0 => K (.exit 2) [(2, (V.t (T.sc (.int .i64 p0.1)))), (6, (V.ptr 0 0)), (7, (V.ptr 1 0))] [some [(V.own 0 p0.2.1), (V.own 0 p0.2.2.1), (V.own 0 p0.2.2.2.1), (V.t (T.sc (.int .i64 p0.2.2.2.2.1))), (V.t (T.sc (.int .i64 p0.2.2.2.2.2.1)))], some [(V.own 3 p0.2.2.2.2.2.2.1), (V.own 1 p0.2.2.2.2.2.2.2.1), (V.own 0 p0.2.2.2.2.2.2.2.2.1), (V.t (T.sc (.int .i64 p0.2.2.2.2.2.2.2.2.2.1))), (V.t (T.sc (.int .i64 p0.2.2.2.2.2.2.2.2.2.2)))]]
noncomputable def sp_suturelaw28_result (n : Nat) : Go.Eng.Spec := ⟨fun f vs sg => (match f with
    | 20 => c_suturehand_Pick (m_suturehand_Pick n) vs sg
    | _ => none), fun R key E sg K => (match key with
    | 3 => l_suturelaw28_result_3_S n R E sg K
    | 7 => l_suturelaw28_result_7_S n R E sg K
    | _ => none)⟩
theorem sp_suturelaw28_result_ok (n : Nat) : CallsOk Try.prog (sp_suturelaw28_result n) := by
  intro f vs sg cm x h hx
  simp only [sp_suturelaw28_result] at h
  split at h
  · exact c_suturehand_Pick_ok _ (m_suturehand_Pick_ok n) vs sg cm x h hx
  · cases h
theorem code_suturelaw28_result_fn : Try.prog.funcs[10]? = some Try.f10 := Try.func10
theorem code_suturelaw28_result_body : Try.f10.body = some code_suturelaw28_result := by kernel_rfl
theorem code_suturelaw28_result_ok : CodeOk Try.prog code_suturelaw28_result := (sound 10 _ _ code_suturelaw28_result_fn code_suturelaw28_result_body).1
noncomputable def code_l_suturelaw28_result_3 : Code := (loopsOf code_suturelaw28_result).getD 0 .skip
theorem code_l_suturelaw28_result_3_ok : CodeOk Try.prog code_l_suturelaw28_result_3 := codeOk_loops code_suturelaw28_result_ok _ (getD_mem (by kernel_rfl))
def l_suturelaw28_result_3_K (k : (List T) × (List T) × Int × Int × (List T) × (List T) × (List T) × Int × Int × (List T) × (List T) × (List T) × Int × Int → Option ((List T) × Int × (List T) × (List T) × (List T) × Int × Int × (List T) × (List T) × (List T) × Int × Int)) : Ex → SEnv → Sig → Option ((List T) × Int × (List T) × (List T) × (List T) × Int × Int × (List T) × (List T) × (List T) × Int × Int) := fun x E sg => match x with
  | .normal => Option.bind (V.lstOf (SEnv.at E 0)) fun u0 => Option.bind (V.lstOf (SEnv.at E 1)) fun u1 => Option.bind (V.intOf .i64 (SEnv.at E 2)) fun u2 => Option.bind (V.ptrOf 0 0 (SEnv.at E 6)) fun u3 => Option.bind (V.ptrOf 1 0 (SEnv.at E 7)) fun u4 => Option.bind (V.intOf .i64 (SEnv.at E 8)) fun u5 => Option.bind (cellsN 5 sg 0) fun u6 => Option.bind (V.ownOf 0 (u6.getD 0 .any)) fun u7 => Option.bind (V.ownOf 0 (u6.getD 1 .any)) fun u8 => Option.bind (V.ownOf 0 (u6.getD 2 .any)) fun u9 => Option.bind (V.intOf .i64 (u6.getD 3 .any)) fun u10 => Option.bind (V.intOf .i64 (u6.getD 4 .any)) fun u11 => Option.bind (cellsN 5 sg 1) fun u12 => Option.bind (V.ownOf 3 (u12.getD 0 .any)) fun u13 => Option.bind (V.ownOf 0 (u12.getD 1 .any)) fun u14 => Option.bind (V.ownOf 0 (u12.getD 2 .any)) fun u15 => Option.bind (V.intOf .i64 (u12.getD 3 .any)) fun u16 => Option.bind (V.intOf .i64 (u12.getD 4 .any)) fun u17 => k (u0, u1, u2, u5, u7, u8, u9, u10, u11, u13, u14, u15, u16, u17)
  | (.exit 0) => Option.bind (V.lstOf (SEnv.at E 1)) fun u0 => Option.bind (V.intOf .i64 (SEnv.at E 2)) fun u1 => Option.bind (V.ptrOf 0 0 (SEnv.at E 6)) fun u2 => Option.bind (V.ptrOf 1 0 (SEnv.at E 7)) fun u3 => Option.bind (cellsN 5 sg 0) fun u4 => Option.bind (V.ownOf 0 (u4.getD 0 .any)) fun u5 => Option.bind (V.ownOf 0 (u4.getD 1 .any)) fun u6 => Option.bind (V.ownOf 0 (u4.getD 2 .any)) fun u7 => Option.bind (V.intOf .i64 (u4.getD 3 .any)) fun u8 => Option.bind (V.intOf .i64 (u4.getD 4 .any)) fun u9 => Option.bind (cellsN 5 sg 1) fun u10 => Option.bind (V.ownOf 3 (u10.getD 0 .any)) fun u11 => Option.bind (V.ownOf 0 (u10.getD 1 .any)) fun u12 => Option.bind (V.ownOf 0 (u10.getD 2 .any)) fun u13 => Option.bind (V.intOf .i64 (u10.getD 3 .any)) fun u14 => Option.bind (V.intOf .i64 (u10.getD 4 .any)) fun u15 => some (u0, u1, u5, u6, u7, u8, u9, u11, u12, u13, u14, u15)
  | _ => none
theorem l_suturelaw28_result_3_eq (n : Nat) (k : (List T) × (List T) × Int × Int × (List T) × (List T) × (List T) × Int × Int × (List T) × (List T) × (List T) × Int × Int → Option ((List T) × Int × (List T) × (List T) × (List T) × Int × Int × (List T) × (List T) × (List T) × Int × Int)) (s0 : List T) (s1 : List T) (s2 : Int) (s3 : Int) (s4 : List T) (s5 : List T) (s6 : List T) (s7 : Int) (s8 : Int) (s9 : List T) (s10 : List T) (s11 : List T) (s12 : Int) (s13 : Int) : mX Try.prog (sp_suturelaw28_result n) 76 code_l_suturelaw28_result_3 [(0, (V.t (T.list s0))), (1, (V.t (T.list s1))), (2, (V.t (T.sc (.int .i64 s2)))), (6, (V.ptr 0 0)), (7, (V.ptr 1 0)), (8, (V.t (T.sc (.int .i64 s3))))] [some [(V.own 0 s4), (V.own 0 s5), (V.own 0 s6), (V.t (T.sc (.int .i64 s7))), (V.t (T.sc (.int .i64 s8)))], some [(V.own 3 s9), (V.own 0 s10), (V.own 0 s11), (V.t (T.sc (.int .i64 s12))), (V.t (T.sc (.int .i64 s13)))]] (l_suturelaw28_result_3_K k) = l_suturelaw28_result_3_B n k (s0, s1, s2, s3, s4, s5, s6, s7, s8, s9, s10, s11, s12, s13) := by kernel_rfl
def l_suturelaw28_result_3_Q (x : (List T) × Int × (List T) × (List T) × (List T) × Int × Int × (List T) × (List T) × (List T) × Int × Int) (ex : Ex) (e : Env) (s : Sig) : Prop := (fun p0 => (ex = (.exit 0) ∧ e = SEnv.env 76 [(1, (V.t (T.list p0.1))), (2, (V.t (T.sc (.int .i64 p0.2.1)))), (6, (V.ptr 0 0)), (7, (V.ptr 1 0))] ∧ s = [some [(V.own 0 p0.2.2.1), (V.own 0 p0.2.2.2.1), (V.own 0 p0.2.2.2.2.1), (V.t (T.sc (.int .i64 p0.2.2.2.2.2.1))), (V.t (T.sc (.int .i64 p0.2.2.2.2.2.2.1)))], some [(V.own 3 p0.2.2.2.2.2.2.2.1), (V.own 0 p0.2.2.2.2.2.2.2.2.1), (V.own 0 p0.2.2.2.2.2.2.2.2.2.1), (V.t (T.sc (.int .i64 p0.2.2.2.2.2.2.2.2.2.2.1))), (V.t (T.sc (.int .i64 p0.2.2.2.2.2.2.2.2.2.2.2)))]])) x
theorem l_suturelaw28_result_3_run (n : Nat) : ∀ (m : Nat) (s0 : List T) (s1 : List T) (s2 : Int) (s3 : Int) (s4 : List T) (s5 : List T) (s6 : List T) (s7 : Int) (s8 : Int) (s9 : List T) (s10 : List T) (s11 : List T) (s12 : Int) (s13 : Int) (x : (List T) × Int × (List T) × (List T) × (List T) × Int × Int × (List T) × (List T) × (List T) × Int × Int), l_suturelaw28_result_3 n m (s0, s1, s2, s3, s4, s5, s6, s7, s8, s9, s10, s11, s12, s13) = some x → SemL Try.prog 0 code_l_suturelaw28_result_3 (SEnv.env 76 [(0, (V.t (T.list s0))), (1, (V.t (T.list s1))), (2, (V.t (T.sc (.int .i64 s2)))), (6, (V.ptr 0 0)), (7, (V.ptr 1 0)), (8, (V.t (T.sc (.int .i64 s3))))]) [some [(V.own 0 s4), (V.own 0 s5), (V.own 0 s6), (V.t (T.sc (.int .i64 s7))), (V.t (T.sc (.int .i64 s8)))], some [(V.own 3 s9), (V.own 0 s10), (V.own 0 s11), (V.t (T.sc (.int .i64 s12))), (V.t (T.sc (.int .i64 s13)))]] (l_suturelaw28_result_3_Q x)
  | 0, s0, s1, s2, s3, s4, s5, s6, s7, s8, s9, s10, s11, s12, s13, x, h => by cases h
  | m + 1, s0, s1, s2, s3, s4, s5, s6, s7, s8, s9, s10, s11, s12, s13, x, h => by
    refine loop_step (sp_suturelaw28_result_ok n) code_l_suturelaw28_result_3_ok (fun a ha => absurd ha (by rw [show loopsOf code_l_suturelaw28_result_3 = [] from by kernel_rfl]; simp)) ((l_suturelaw28_result_3_eq n _ s0 s1 s2 s3 s4 s5 s6 s7 s8 s9 s10 s11 s12 s13).trans h) (fun E sg h => ?_) (fun ex E sg hne h => ?_)
    · simp only [l_suturelaw28_result_3_K] at h
      obtain ⟨u0, hu0, h⟩ := Option.bind_eq_some_iff.1 h
      obtain ⟨u1, hu1, h⟩ := Option.bind_eq_some_iff.1 h
      obtain ⟨u2, hu2, h⟩ := Option.bind_eq_some_iff.1 h
      obtain ⟨u3, hu3, h⟩ := Option.bind_eq_some_iff.1 h
      obtain ⟨u4, hu4, h⟩ := Option.bind_eq_some_iff.1 h
      obtain ⟨u5, hu5, h⟩ := Option.bind_eq_some_iff.1 h
      obtain ⟨u6, hu6, h⟩ := Option.bind_eq_some_iff.1 h
      obtain ⟨u7, hu7, h⟩ := Option.bind_eq_some_iff.1 h
      obtain ⟨u8, hu8, h⟩ := Option.bind_eq_some_iff.1 h
      obtain ⟨u9, hu9, h⟩ := Option.bind_eq_some_iff.1 h
      obtain ⟨u10, hu10, h⟩ := Option.bind_eq_some_iff.1 h
      obtain ⟨u11, hu11, h⟩ := Option.bind_eq_some_iff.1 h
      obtain ⟨u12, hu12, h⟩ := Option.bind_eq_some_iff.1 h
      obtain ⟨u13, hu13, h⟩ := Option.bind_eq_some_iff.1 h
      obtain ⟨u14, hu14, h⟩ := Option.bind_eq_some_iff.1 h
      obtain ⟨u15, hu15, h⟩ := Option.bind_eq_some_iff.1 h
      obtain ⟨u16, hu16, h⟩ := Option.bind_eq_some_iff.1 h
      obtain ⟨u17, hu17, h⟩ := Option.bind_eq_some_iff.1 h
      exact SemL.pre (k := 2) (by decide) (WkA.env (WkA.cons (lstOf_wk hu0) rfl (WkA.cons (lstOf_wk hu1) rfl (WkA.cons (intOf_wk hu2) rfl (WkA.cons (ptrOf_wk hu3) rfl (WkA.cons (ptrOf_wk hu4) rfl (WkA.cons (intOf_wk hu5) rfl WkA.nil)))))) 76) (wkR_sig (WkR.cons (cellsN_wk hu6 (.cons (ownOf_wk hu7) (.cons (ownOf_wk hu8) (.cons (ownOf_wk hu9) (.cons (intOf_wk hu10) (.cons (intOf_wk hu11) .nil)))))).1 (cellsN_wk hu6 (.cons (ownOf_wk hu7) (.cons (ownOf_wk hu8) (.cons (ownOf_wk hu9) (.cons (intOf_wk hu10) (.cons (intOf_wk hu11) .nil)))))).2 (renL_mem (.cons rfl (.cons rfl (.cons rfl (.cons rfl (.cons rfl .nil)))))) (WkR.cons (cellsN_wk hu12 (.cons (ownOf_wk hu13) (.cons (ownOf_wk hu14) (.cons (ownOf_wk hu15) (.cons (intOf_wk hu16) (.cons (intOf_wk hu17) .nil)))))).1 (cellsN_wk hu12 (.cons (ownOf_wk hu13) (.cons (ownOf_wk hu14) (.cons (ownOf_wk hu15) (.cons (intOf_wk hu16) (.cons (intOf_wk hu17) .nil)))))).2 (renL_mem (.cons rfl (.cons rfl (.cons rfl (.cons rfl (.cons rfl .nil)))))) (WkR.nil _))) rfl) (l_suturelaw28_result_3_run n m _ _ _ _ _ _ _ _ _ _ _ _ _ _ x h)
    · unfold l_suturelaw28_result_3_K at h
      split at h
      · exact absurd rfl hne
      · obtain ⟨u0, hu0, h⟩ := Option.bind_eq_some_iff.1 h
        obtain ⟨u1, hu1, h⟩ := Option.bind_eq_some_iff.1 h
        obtain ⟨u2, hu2, h⟩ := Option.bind_eq_some_iff.1 h
        obtain ⟨u3, hu3, h⟩ := Option.bind_eq_some_iff.1 h
        obtain ⟨u4, hu4, h⟩ := Option.bind_eq_some_iff.1 h
        obtain ⟨u5, hu5, h⟩ := Option.bind_eq_some_iff.1 h
        obtain ⟨u6, hu6, h⟩ := Option.bind_eq_some_iff.1 h
        obtain ⟨u7, hu7, h⟩ := Option.bind_eq_some_iff.1 h
        obtain ⟨u8, hu8, h⟩ := Option.bind_eq_some_iff.1 h
        obtain ⟨u9, hu9, h⟩ := Option.bind_eq_some_iff.1 h
        obtain ⟨u10, hu10, h⟩ := Option.bind_eq_some_iff.1 h
        obtain ⟨u11, hu11, h⟩ := Option.bind_eq_some_iff.1 h
        obtain ⟨u12, hu12, h⟩ := Option.bind_eq_some_iff.1 h
        obtain ⟨u13, hu13, h⟩ := Option.bind_eq_some_iff.1 h
        obtain ⟨u14, hu14, h⟩ := Option.bind_eq_some_iff.1 h
        obtain ⟨u15, hu15, h⟩ := Option.bind_eq_some_iff.1 h
        simp only [Option.some.injEq] at h
        subst h
        exact ⟨2, _, _, by decide, WkA.env (WkA.cons (lstOf_wk hu0) rfl (WkA.cons (intOf_wk hu1) rfl (WkA.cons (ptrOf_wk hu2) rfl (WkA.cons (ptrOf_wk hu3) rfl WkA.nil)))) 76, (wkR_sig (WkR.cons (cellsN_wk hu4 (.cons (ownOf_wk hu5) (.cons (ownOf_wk hu6) (.cons (ownOf_wk hu7) (.cons (intOf_wk hu8) (.cons (intOf_wk hu9) .nil)))))).1 (cellsN_wk hu4 (.cons (ownOf_wk hu5) (.cons (ownOf_wk hu6) (.cons (ownOf_wk hu7) (.cons (intOf_wk hu8) (.cons (intOf_wk hu9) .nil)))))).2 (renL_mem (.cons rfl (.cons rfl (.cons rfl (.cons rfl (.cons rfl .nil)))))) (WkR.cons (cellsN_wk hu10 (.cons (ownOf_wk hu11) (.cons (ownOf_wk hu12) (.cons (ownOf_wk hu13) (.cons (intOf_wk hu14) (.cons (intOf_wk hu15) .nil)))))).1 (cellsN_wk hu10 (.cons (ownOf_wk hu11) (.cons (ownOf_wk hu12) (.cons (ownOf_wk hu13) (.cons (intOf_wk hu14) (.cons (intOf_wk hu15) .nil)))))).2 (renL_mem (.cons rfl (.cons rfl (.cons rfl (.cons rfl (.cons rfl .nil)))))) (WkR.nil _))) rfl), rfl, rfl, rfl⟩
      · cases h
theorem l_suturelaw28_result_3_ok (n : Nat) : LoopOk Try.prog (sp_suturelaw28_result n) 0 76 code_l_suturelaw28_result_3 := by
    intro R key E sg K r hk h
    rw [show Go.Eng.keyOf code_l_suturelaw28_result_3 = some 3 from by kernel_rfl] at hk
    cases hk
    have h : l_suturelaw28_result_3_S n R E sg K = some r := h
    unfold l_suturelaw28_result_3_S at h
    obtain ⟨u0, hu0, h⟩ := Option.bind_eq_some_iff.1 h
    obtain ⟨u1, hu1, h⟩ := Option.bind_eq_some_iff.1 h
    obtain ⟨u2, hu2, h⟩ := Option.bind_eq_some_iff.1 h
    obtain ⟨u3, hu3, h⟩ := Option.bind_eq_some_iff.1 h
    obtain ⟨u4, hu4, h⟩ := Option.bind_eq_some_iff.1 h
    obtain ⟨u5, hu5, h⟩ := Option.bind_eq_some_iff.1 h
    obtain ⟨u6, hu6, h⟩ := Option.bind_eq_some_iff.1 h
    obtain ⟨u7, hu7, h⟩ := Option.bind_eq_some_iff.1 h
    obtain ⟨u8, hu8, h⟩ := Option.bind_eq_some_iff.1 h
    obtain ⟨u9, hu9, h⟩ := Option.bind_eq_some_iff.1 h
    obtain ⟨u10, hu10, h⟩ := Option.bind_eq_some_iff.1 h
    obtain ⟨u11, hu11, h⟩ := Option.bind_eq_some_iff.1 h
    obtain ⟨u12, hu12, h⟩ := Option.bind_eq_some_iff.1 h
    obtain ⟨u13, hu13, h⟩ := Option.bind_eq_some_iff.1 h
    obtain ⟨u14, hu14, h⟩ := Option.bind_eq_some_iff.1 h
    obtain ⟨u15, hu15, h⟩ := Option.bind_eq_some_iff.1 h
    obtain ⟨u16, hu16, h⟩ := Option.bind_eq_some_iff.1 h
    obtain ⟨u17, hu17, h⟩ := Option.bind_eq_some_iff.1 h
    obtain ⟨x, hx, h⟩ := Option.bind_eq_some_iff.1 h
    refine (SemL.pre (k := 2) (by decide) (WkA.env (WkA.cons (lstOf_wk hu0) rfl (WkA.cons (lstOf_wk hu1) rfl (WkA.cons (intOf_wk hu2) rfl (WkA.cons (ptrOf_wk hu3) rfl (WkA.cons (ptrOf_wk hu4) rfl (WkA.cons (intOf_wk hu5) rfl WkA.nil)))))) 76) (wkR_sig (WkR.cons (cellsN_wk hu6 (.cons (ownOf_wk hu7) (.cons (ownOf_wk hu8) (.cons (ownOf_wk hu9) (.cons (intOf_wk hu10) (.cons (intOf_wk hu11) .nil)))))).1 (cellsN_wk hu6 (.cons (ownOf_wk hu7) (.cons (ownOf_wk hu8) (.cons (ownOf_wk hu9) (.cons (intOf_wk hu10) (.cons (intOf_wk hu11) .nil)))))).2 (renL_mem (.cons rfl (.cons rfl (.cons rfl (.cons rfl (.cons rfl .nil)))))) (WkR.cons (cellsN_wk hu12 (.cons (ownOf_wk hu13) (.cons (ownOf_wk hu14) (.cons (ownOf_wk hu15) (.cons (intOf_wk hu16) (.cons (intOf_wk hu17) .nil)))))).1 (cellsN_wk hu12 (.cons (ownOf_wk hu13) (.cons (ownOf_wk hu14) (.cons (ownOf_wk hu15) (.cons (intOf_wk hu16) (.cons (intOf_wk hu17) .nil)))))).2 (renL_mem (.cons rfl (.cons rfl (.cons rfl (.cons rfl (.cons rfl .nil)))))) (WkR.nil _))) rfl) (l_suturelaw28_result_3_run n n _ _ _ _ _ _ _ _ _ _ _ _ _ _ x hx)).mono ?_
    intro ex e s hq
    obtain ⟨rfl, rfl, rfl⟩ := hq
    exact ⟨_, rfl, h⟩
noncomputable def code_l_suturelaw28_result_7 : Code := (loopsOf code_suturelaw28_result).getD 1 .skip
theorem code_l_suturelaw28_result_7_ok : CodeOk Try.prog code_l_suturelaw28_result_7 := codeOk_loops code_suturelaw28_result_ok _ (getD_mem (by kernel_rfl))
def l_suturelaw28_result_7_K (k : (List T) × Int × Int × (List T) × (List T) × (List T) × Int × Int × (List T) × (List T) × (List T) × Int × Int → Option (Int × (List T) × (List T) × (List T) × Int × Int × (List T) × (List T) × (List T) × Int × Int)) : Ex → SEnv → Sig → Option (Int × (List T) × (List T) × (List T) × Int × Int × (List T) × (List T) × (List T) × Int × Int) := fun x E sg => match x with
  | .normal => Option.bind (V.lstOf (SEnv.at E 1)) fun u0 => Option.bind (V.intOf .i64 (SEnv.at E 2)) fun u1 => Option.bind (V.ptrOf 0 0 (SEnv.at E 6)) fun u2 => Option.bind (V.ptrOf 1 0 (SEnv.at E 7)) fun u3 => Option.bind (V.intOf .i64 (SEnv.at E 9)) fun u4 => Option.bind (cellsN 5 sg 0) fun u5 => Option.bind (V.ownOf 0 (u5.getD 0 .any)) fun u6 => Option.bind (V.ownOf 0 (u5.getD 1 .any)) fun u7 => Option.bind (V.ownOf 0 (u5.getD 2 .any)) fun u8 => Option.bind (V.intOf .i64 (u5.getD 3 .any)) fun u9 => Option.bind (V.intOf .i64 (u5.getD 4 .any)) fun u10 => Option.bind (cellsN 5 sg 1) fun u11 => Option.bind (V.ownOf 3 (u11.getD 0 .any)) fun u12 => Option.bind (V.ownOf 1 (u11.getD 1 .any)) fun u13 => Option.bind (V.ownOf 0 (u11.getD 2 .any)) fun u14 => Option.bind (V.intOf .i64 (u11.getD 3 .any)) fun u15 => Option.bind (V.intOf .i64 (u11.getD 4 .any)) fun u16 => k (u0, u1, u4, u6, u7, u8, u9, u10, u12, u13, u14, u15, u16)
  | (.exit 2) => Option.bind (V.intOf .i64 (SEnv.at E 2)) fun u0 => Option.bind (V.ptrOf 0 0 (SEnv.at E 6)) fun u1 => Option.bind (V.ptrOf 1 0 (SEnv.at E 7)) fun u2 => Option.bind (cellsN 5 sg 0) fun u3 => Option.bind (V.ownOf 0 (u3.getD 0 .any)) fun u4 => Option.bind (V.ownOf 0 (u3.getD 1 .any)) fun u5 => Option.bind (V.ownOf 0 (u3.getD 2 .any)) fun u6 => Option.bind (V.intOf .i64 (u3.getD 3 .any)) fun u7 => Option.bind (V.intOf .i64 (u3.getD 4 .any)) fun u8 => Option.bind (cellsN 5 sg 1) fun u9 => Option.bind (V.ownOf 3 (u9.getD 0 .any)) fun u10 => Option.bind (V.ownOf 1 (u9.getD 1 .any)) fun u11 => Option.bind (V.ownOf 0 (u9.getD 2 .any)) fun u12 => Option.bind (V.intOf .i64 (u9.getD 3 .any)) fun u13 => Option.bind (V.intOf .i64 (u9.getD 4 .any)) fun u14 => some (u0, u4, u5, u6, u7, u8, u10, u11, u12, u13, u14)
  | _ => none
theorem l_suturelaw28_result_7_eq (n : Nat) (k : (List T) × Int × Int × (List T) × (List T) × (List T) × Int × Int × (List T) × (List T) × (List T) × Int × Int → Option (Int × (List T) × (List T) × (List T) × Int × Int × (List T) × (List T) × (List T) × Int × Int)) (s0 : List T) (s1 : Int) (s2 : Int) (s3 : List T) (s4 : List T) (s5 : List T) (s6 : Int) (s7 : Int) (s8 : List T) (s9 : List T) (s10 : List T) (s11 : Int) (s12 : Int) : mX Try.prog (sp_suturelaw28_result n) 76 code_l_suturelaw28_result_7 [(1, (V.t (T.list s0))), (2, (V.t (T.sc (.int .i64 s1)))), (6, (V.ptr 0 0)), (7, (V.ptr 1 0)), (9, (V.t (T.sc (.int .i64 s2))))] [some [(V.own 0 s3), (V.own 0 s4), (V.own 0 s5), (V.t (T.sc (.int .i64 s6))), (V.t (T.sc (.int .i64 s7)))], some [(V.own 3 s8), (V.own 1 s9), (V.own 0 s10), (V.t (T.sc (.int .i64 s11))), (V.t (T.sc (.int .i64 s12)))]] (l_suturelaw28_result_7_K k) = l_suturelaw28_result_7_B n k (s0, s1, s2, s3, s4, s5, s6, s7, s8, s9, s10, s11, s12) := by kernel_rfl
def l_suturelaw28_result_7_Q (x : Int × (List T) × (List T) × (List T) × Int × Int × (List T) × (List T) × (List T) × Int × Int) (ex : Ex) (e : Env) (s : Sig) : Prop := (fun p0 => (ex = (.exit 2) ∧ e = SEnv.env 76 [(2, (V.t (T.sc (.int .i64 p0.1)))), (6, (V.ptr 0 0)), (7, (V.ptr 1 0))] ∧ s = [some [(V.own 0 p0.2.1), (V.own 0 p0.2.2.1), (V.own 0 p0.2.2.2.1), (V.t (T.sc (.int .i64 p0.2.2.2.2.1))), (V.t (T.sc (.int .i64 p0.2.2.2.2.2.1)))], some [(V.own 3 p0.2.2.2.2.2.2.1), (V.own 1 p0.2.2.2.2.2.2.2.1), (V.own 0 p0.2.2.2.2.2.2.2.2.1), (V.t (T.sc (.int .i64 p0.2.2.2.2.2.2.2.2.2.1))), (V.t (T.sc (.int .i64 p0.2.2.2.2.2.2.2.2.2.2)))]])) x
theorem l_suturelaw28_result_7_run (n : Nat) : ∀ (m : Nat) (s0 : List T) (s1 : Int) (s2 : Int) (s3 : List T) (s4 : List T) (s5 : List T) (s6 : Int) (s7 : Int) (s8 : List T) (s9 : List T) (s10 : List T) (s11 : Int) (s12 : Int) (x : Int × (List T) × (List T) × (List T) × Int × Int × (List T) × (List T) × (List T) × Int × Int), l_suturelaw28_result_7 n m (s0, s1, s2, s3, s4, s5, s6, s7, s8, s9, s10, s11, s12) = some x → SemL Try.prog 0 code_l_suturelaw28_result_7 (SEnv.env 76 [(1, (V.t (T.list s0))), (2, (V.t (T.sc (.int .i64 s1)))), (6, (V.ptr 0 0)), (7, (V.ptr 1 0)), (9, (V.t (T.sc (.int .i64 s2))))]) [some [(V.own 0 s3), (V.own 0 s4), (V.own 0 s5), (V.t (T.sc (.int .i64 s6))), (V.t (T.sc (.int .i64 s7)))], some [(V.own 3 s8), (V.own 1 s9), (V.own 0 s10), (V.t (T.sc (.int .i64 s11))), (V.t (T.sc (.int .i64 s12)))]] (l_suturelaw28_result_7_Q x)
  | 0, s0, s1, s2, s3, s4, s5, s6, s7, s8, s9, s10, s11, s12, x, h => by cases h
  | m + 1, s0, s1, s2, s3, s4, s5, s6, s7, s8, s9, s10, s11, s12, x, h => by
    refine loop_step (sp_suturelaw28_result_ok n) code_l_suturelaw28_result_7_ok (fun a ha => absurd ha (by rw [show loopsOf code_l_suturelaw28_result_7 = [] from by kernel_rfl]; simp)) ((l_suturelaw28_result_7_eq n _ s0 s1 s2 s3 s4 s5 s6 s7 s8 s9 s10 s11 s12).trans h) (fun E sg h => ?_) (fun ex E sg hne h => ?_)
    · simp only [l_suturelaw28_result_7_K] at h
      obtain ⟨u0, hu0, h⟩ := Option.bind_eq_some_iff.1 h
      obtain ⟨u1, hu1, h⟩ := Option.bind_eq_some_iff.1 h
      obtain ⟨u2, hu2, h⟩ := Option.bind_eq_some_iff.1 h
      obtain ⟨u3, hu3, h⟩ := Option.bind_eq_some_iff.1 h
      obtain ⟨u4, hu4, h⟩ := Option.bind_eq_some_iff.1 h
      obtain ⟨u5, hu5, h⟩ := Option.bind_eq_some_iff.1 h
      obtain ⟨u6, hu6, h⟩ := Option.bind_eq_some_iff.1 h
      obtain ⟨u7, hu7, h⟩ := Option.bind_eq_some_iff.1 h
      obtain ⟨u8, hu8, h⟩ := Option.bind_eq_some_iff.1 h
      obtain ⟨u9, hu9, h⟩ := Option.bind_eq_some_iff.1 h
      obtain ⟨u10, hu10, h⟩ := Option.bind_eq_some_iff.1 h
      obtain ⟨u11, hu11, h⟩ := Option.bind_eq_some_iff.1 h
      obtain ⟨u12, hu12, h⟩ := Option.bind_eq_some_iff.1 h
      obtain ⟨u13, hu13, h⟩ := Option.bind_eq_some_iff.1 h
      obtain ⟨u14, hu14, h⟩ := Option.bind_eq_some_iff.1 h
      obtain ⟨u15, hu15, h⟩ := Option.bind_eq_some_iff.1 h
      obtain ⟨u16, hu16, h⟩ := Option.bind_eq_some_iff.1 h
      exact SemL.pre (k := 2) (by decide) (WkA.env (WkA.cons (lstOf_wk hu0) rfl (WkA.cons (intOf_wk hu1) rfl (WkA.cons (ptrOf_wk hu2) rfl (WkA.cons (ptrOf_wk hu3) rfl (WkA.cons (intOf_wk hu4) rfl WkA.nil))))) 76) (wkR_sig (WkR.cons (cellsN_wk hu5 (.cons (ownOf_wk hu6) (.cons (ownOf_wk hu7) (.cons (ownOf_wk hu8) (.cons (intOf_wk hu9) (.cons (intOf_wk hu10) .nil)))))).1 (cellsN_wk hu5 (.cons (ownOf_wk hu6) (.cons (ownOf_wk hu7) (.cons (ownOf_wk hu8) (.cons (intOf_wk hu9) (.cons (intOf_wk hu10) .nil)))))).2 (renL_mem (.cons rfl (.cons rfl (.cons rfl (.cons rfl (.cons rfl .nil)))))) (WkR.cons (cellsN_wk hu11 (.cons (ownOf_wk hu12) (.cons (ownOf_wk hu13) (.cons (ownOf_wk hu14) (.cons (intOf_wk hu15) (.cons (intOf_wk hu16) .nil)))))).1 (cellsN_wk hu11 (.cons (ownOf_wk hu12) (.cons (ownOf_wk hu13) (.cons (ownOf_wk hu14) (.cons (intOf_wk hu15) (.cons (intOf_wk hu16) .nil)))))).2 (renL_mem (.cons rfl (.cons rfl (.cons rfl (.cons rfl (.cons rfl .nil)))))) (WkR.nil _))) rfl) (l_suturelaw28_result_7_run n m _ _ _ _ _ _ _ _ _ _ _ _ _ x h)
    · unfold l_suturelaw28_result_7_K at h
      split at h
      · exact absurd rfl hne
      · obtain ⟨u0, hu0, h⟩ := Option.bind_eq_some_iff.1 h
        obtain ⟨u1, hu1, h⟩ := Option.bind_eq_some_iff.1 h
        obtain ⟨u2, hu2, h⟩ := Option.bind_eq_some_iff.1 h
        obtain ⟨u3, hu3, h⟩ := Option.bind_eq_some_iff.1 h
        obtain ⟨u4, hu4, h⟩ := Option.bind_eq_some_iff.1 h
        obtain ⟨u5, hu5, h⟩ := Option.bind_eq_some_iff.1 h
        obtain ⟨u6, hu6, h⟩ := Option.bind_eq_some_iff.1 h
        obtain ⟨u7, hu7, h⟩ := Option.bind_eq_some_iff.1 h
        obtain ⟨u8, hu8, h⟩ := Option.bind_eq_some_iff.1 h
        obtain ⟨u9, hu9, h⟩ := Option.bind_eq_some_iff.1 h
        obtain ⟨u10, hu10, h⟩ := Option.bind_eq_some_iff.1 h
        obtain ⟨u11, hu11, h⟩ := Option.bind_eq_some_iff.1 h
        obtain ⟨u12, hu12, h⟩ := Option.bind_eq_some_iff.1 h
        obtain ⟨u13, hu13, h⟩ := Option.bind_eq_some_iff.1 h
        obtain ⟨u14, hu14, h⟩ := Option.bind_eq_some_iff.1 h
        simp only [Option.some.injEq] at h
        subst h
        exact ⟨2, _, _, by decide, WkA.env (WkA.cons (intOf_wk hu0) rfl (WkA.cons (ptrOf_wk hu1) rfl (WkA.cons (ptrOf_wk hu2) rfl WkA.nil))) 76, (wkR_sig (WkR.cons (cellsN_wk hu3 (.cons (ownOf_wk hu4) (.cons (ownOf_wk hu5) (.cons (ownOf_wk hu6) (.cons (intOf_wk hu7) (.cons (intOf_wk hu8) .nil)))))).1 (cellsN_wk hu3 (.cons (ownOf_wk hu4) (.cons (ownOf_wk hu5) (.cons (ownOf_wk hu6) (.cons (intOf_wk hu7) (.cons (intOf_wk hu8) .nil)))))).2 (renL_mem (.cons rfl (.cons rfl (.cons rfl (.cons rfl (.cons rfl .nil)))))) (WkR.cons (cellsN_wk hu9 (.cons (ownOf_wk hu10) (.cons (ownOf_wk hu11) (.cons (ownOf_wk hu12) (.cons (intOf_wk hu13) (.cons (intOf_wk hu14) .nil)))))).1 (cellsN_wk hu9 (.cons (ownOf_wk hu10) (.cons (ownOf_wk hu11) (.cons (ownOf_wk hu12) (.cons (intOf_wk hu13) (.cons (intOf_wk hu14) .nil)))))).2 (renL_mem (.cons rfl (.cons rfl (.cons rfl (.cons rfl (.cons rfl .nil)))))) (WkR.nil _))) rfl), rfl, rfl, rfl⟩
      · cases h
theorem l_suturelaw28_result_7_ok (n : Nat) : LoopOk Try.prog (sp_suturelaw28_result n) 0 76 code_l_suturelaw28_result_7 := by
    intro R key E sg K r hk h
    rw [show Go.Eng.keyOf code_l_suturelaw28_result_7 = some 7 from by kernel_rfl] at hk
    cases hk
    have h : l_suturelaw28_result_7_S n R E sg K = some r := h
    unfold l_suturelaw28_result_7_S at h
    obtain ⟨u0, hu0, h⟩ := Option.bind_eq_some_iff.1 h
    obtain ⟨u1, hu1, h⟩ := Option.bind_eq_some_iff.1 h
    obtain ⟨u2, hu2, h⟩ := Option.bind_eq_some_iff.1 h
    obtain ⟨u3, hu3, h⟩ := Option.bind_eq_some_iff.1 h
    obtain ⟨u4, hu4, h⟩ := Option.bind_eq_some_iff.1 h
    obtain ⟨u5, hu5, h⟩ := Option.bind_eq_some_iff.1 h
    obtain ⟨u6, hu6, h⟩ := Option.bind_eq_some_iff.1 h
    obtain ⟨u7, hu7, h⟩ := Option.bind_eq_some_iff.1 h
    obtain ⟨u8, hu8, h⟩ := Option.bind_eq_some_iff.1 h
    obtain ⟨u9, hu9, h⟩ := Option.bind_eq_some_iff.1 h
    obtain ⟨u10, hu10, h⟩ := Option.bind_eq_some_iff.1 h
    obtain ⟨u11, hu11, h⟩ := Option.bind_eq_some_iff.1 h
    obtain ⟨u12, hu12, h⟩ := Option.bind_eq_some_iff.1 h
    obtain ⟨u13, hu13, h⟩ := Option.bind_eq_some_iff.1 h
    obtain ⟨u14, hu14, h⟩ := Option.bind_eq_some_iff.1 h
    obtain ⟨u15, hu15, h⟩ := Option.bind_eq_some_iff.1 h
    obtain ⟨u16, hu16, h⟩ := Option.bind_eq_some_iff.1 h
    obtain ⟨x, hx, h⟩ := Option.bind_eq_some_iff.1 h
    refine (SemL.pre (k := 2) (by decide) (WkA.env (WkA.cons (lstOf_wk hu0) rfl (WkA.cons (intOf_wk hu1) rfl (WkA.cons (ptrOf_wk hu2) rfl (WkA.cons (ptrOf_wk hu3) rfl (WkA.cons (intOf_wk hu4) rfl WkA.nil))))) 76) (wkR_sig (WkR.cons (cellsN_wk hu5 (.cons (ownOf_wk hu6) (.cons (ownOf_wk hu7) (.cons (ownOf_wk hu8) (.cons (intOf_wk hu9) (.cons (intOf_wk hu10) .nil)))))).1 (cellsN_wk hu5 (.cons (ownOf_wk hu6) (.cons (ownOf_wk hu7) (.cons (ownOf_wk hu8) (.cons (intOf_wk hu9) (.cons (intOf_wk hu10) .nil)))))).2 (renL_mem (.cons rfl (.cons rfl (.cons rfl (.cons rfl (.cons rfl .nil)))))) (WkR.cons (cellsN_wk hu11 (.cons (ownOf_wk hu12) (.cons (ownOf_wk hu13) (.cons (ownOf_wk hu14) (.cons (intOf_wk hu15) (.cons (intOf_wk hu16) .nil)))))).1 (cellsN_wk hu11 (.cons (ownOf_wk hu12) (.cons (ownOf_wk hu13) (.cons (ownOf_wk hu14) (.cons (intOf_wk hu15) (.cons (intOf_wk hu16) .nil)))))).2 (renL_mem (.cons rfl (.cons rfl (.cons rfl (.cons rfl (.cons rfl .nil)))))) (WkR.nil _))) rfl) (l_suturelaw28_result_7_run n n _ _ _ _ _ _ _ _ _ _ _ _ _ x hx)).mono ?_
    intro ex e s hq
    obtain ⟨rfl, rfl, rfl⟩ := hq
    exact ⟨_, rfl, h⟩
def K_suturelaw28_result (v : V) (s : Sig) : Option ((List T) × (List T) × (List T) × Int × Int) := Option.bind (V.aggN 5 v) fun u0 => Option.bind (V.lstOf (u0.getD 0 .any)) fun u1 => Option.bind (V.lstOf (u0.getD 1 .any)) fun u2 => Option.bind (V.lstOf (u0.getD 2 .any)) fun u3 => Option.bind (V.intOf .i64 (u0.getD 3 .any)) fun u4 => Option.bind (V.intOf .i64 (u0.getD 4 .any)) fun u5 => some (u1, u2, u3, u4, u5)
theorem K_suturelaw28_result_wk {v : V} {s : Sig} {r : (List T) × (List T) × (List T) × Int × Int} (h : K_suturelaw28_result v s = some r) : Wk v (enc_suturelaw28_result r) ∧ WkS 0 s (encS_suturelaw28_result r) := by
  unfold K_suturelaw28_result at h
  obtain ⟨u0, hu0, h⟩ := Option.bind_eq_some_iff.1 h
  obtain ⟨u1, hu1, h⟩ := Option.bind_eq_some_iff.1 h
  obtain ⟨u2, hu2, h⟩ := Option.bind_eq_some_iff.1 h
  obtain ⟨u3, hu3, h⟩ := Option.bind_eq_some_iff.1 h
  obtain ⟨u4, hu4, h⟩ := Option.bind_eq_some_iff.1 h
  obtain ⟨u5, hu5, h⟩ := Option.bind_eq_some_iff.1 h
  simp only [Option.some.injEq] at h
  subst h
  exact ⟨(aggN_wk hu0 (.cons (lstOf_wk hu1) (.cons (lstOf_wk hu2) (.cons (lstOf_wk hu3) (.cons (intOf_wk hu4) (.cons (intOf_wk hu5) .nil)))))), (WkS.none _)⟩
theorem m_suturelaw28_result_eq (n : Nat) (a0 : List T) (a1 : List T) (a2 : Int) : mF Try.prog (sp_suturelaw28_result n) 10 [(V.t (T.list a0)), (V.t (T.list a1)), (V.t (T.sc (.int .i64 a2)))] [] K_suturelaw28_result = m_suturelaw28_result n a0 a1 a2 := by kernel_rfl
theorem m_suturelaw28_result_ok (n : Nat) : ok_suturelaw28_result (m_suturelaw28_result n) := fun a0 a1 a2 r h => mF_ok sound (sp_suturelaw28_result_ok n) code_suturelaw28_result_fn code_suturelaw28_result_body (forall_getD (d := .skip) 2 (by kernel_rfl) (fun i hi => match i, hi with | 0, _ => l_suturelaw28_result_3_ok n | 1, _ => l_suturelaw28_result_7_ok n | i + 2, hi => absurd hi (by omega))) ((m_suturelaw28_result_eq n a0 a1 a2).trans h) (fun v s hk => ⟨(K_suturelaw28_result_wk hk).1, rfl, (K_suturelaw28_result_wk hk).2⟩)


/-! slices.Index[[]string,string] -/
def l_slices_Index___string_string__2_B (n : Nat) (k : (List T) × ByteArray × Int × Int → Option (((Int) ⊕ Unit))) : (List T) × ByteArray × Int × Int → Option (((Int) ⊕ Unit)) := fun (s0, s1, s2, s3) =>
bif (decide ((s3 : Int) < s2)) then (
Option.bind (idx true [.str] s0 s3) fun y0 =>
bif (ByteArray.toList s1 == ByteArray.toList (y0.cell 0).str) then (
some (Sum.inl s3))
else (
k (s0, s1, s2, (IntKind.wrap .i64 (s3 + 1)))))
else (
some (Sum.inr ()))
def l_slices_Index___string_string__2 (n : Nat) : Nat → (List T) × ByteArray × Int × Int → Option (((Int) ⊕ Unit))
  | 0, _ => none
  | m + 1, s => l_slices_Index___string_string__2_B n (l_slices_Index___string_string__2 n m) s
def m_slices_Index___string_string_ (n : Nat) (a0 : List T) (a1 : ByteArray) : Option (Int) :=
Option.bind (l_slices_Index___string_string__2 n n (a0, a1, ((List.length a0 : Nat) : Int), 0)) fun x1 =>
Sum.elim (fun p2 => 
some p2) (fun x1' => (fun p3 => 
some (-1)) x1') x1
def enc_slices_Index___string_string_ (r : Int) : V := (V.t (T.sc (.int .i64 r)))
def encS_slices_Index___string_string_ (r : Int) : Sig := []
def ok_slices_Index___string_string_ (m : List T → ByteArray → Option (Int)) : Prop := ∀ (a0 : List T) (a1 : ByteArray) (r : Int), m a0 a1 = some r → FuncOk Try.prog 24 [(V.t (T.list a0)), (V.t (T.sc (.string a1)))] [] (enc_slices_Index___string_string_ r) (encS_slices_Index___string_string_ r)
def c_slices_Index___string_string_ (m : List T → ByteArray → Option (Int)) (vs : List V) (sg : Sig) : Option CallM := bif Nat.beq vs.length 2 && Nat.beq sg.length 0 then Option.bind (V.lstOf (vs.getD 0 .any)) fun u0 => Option.bind (V.strOf (vs.getD 1 .any)) fun u1 => some { α := Int, m := m u0 u1, dflt := 0, enc := fun y => ((V.t (T.sc (.int .i64 y))), []) } else none
theorem c_slices_Index___string_string__ok (m : List T → ByteArray → Option (Int)) (hm : ok_slices_Index___string_string_ m) (vs : List V) (sg : Sig) (cm : CallM) (x : cm.α) (h : c_slices_Index___string_string_ m vs sg = some cm) (hx : cm.m = some x) : FuncOk Try.prog 24 vs sg (cm.enc x).1 (cm.enc x).2 := by
  unfold c_slices_Index___string_string_ at h
  have h0 := callee_sig h
  clear h
  obtain ⟨hl, hs, h⟩ := h0
  obtain ⟨u0, hu0, h⟩ := Option.bind_eq_some_iff.1 h
  obtain ⟨u1, hu1, h⟩ := Option.bind_eq_some_iff.1 h
  simp only [Option.some.injEq] at h
  subst h
  exact (hm u0 u1 x hx).wk (args_wk hl (.cons (lstOf_wk hu0) (.cons (strOf_wk hu1) .nil))) (wkSg_of hs .nil)
noncomputable def code_slices_Index___string_string_ : Code := Try.f24.body.getD .skip
def l_slices_Index___string_string__2_S (n : Nat) (R : Type) (E : SEnv) (sg : Sig) (K : Ex → SEnv → Sig → Option R) : Option R := Option.bind (V.lstOf (SEnv.at E 0)) fun u0 => Option.bind (V.strOf (SEnv.at E 1)) fun u1 => Option.bind (V.intOf .i64 (SEnv.at E 7)) fun u2 => Option.bind (V.intOf .i64 (SEnv.at E 8)) fun u3 => Option.bind (l_slices_Index___string_string__2 n n (u0, u1, u2, u3)) fun y => Sum.elim (fun p0 => K .ret [(4, (V.t (T.sc (.int .i64 p0))))] []) (fun y' => (fun p1 => K (.exit 0) [] []) y') y
noncomputable def sp_slices_Index___string_string_ (n : Nat) : Go.Eng.Spec := ⟨fun f vs sg => (match f with
    | _ => none), fun R key E sg K => (match key with
    | 2 => l_slices_Index___string_string__2_S n R E sg K
    | _ => none)⟩
theorem sp_slices_Index___string_string__ok (n : Nat) : CallsOk Try.prog (sp_slices_Index___string_string_ n) := by
  intro f vs sg cm x h hx
  have h : (none : Option CallM) = some cm := h
  cases h
theorem code_slices_Index___string_string__fn : Try.prog.funcs[24]? = some Try.f24 := Try.func24
theorem code_slices_Index___string_string__body : Try.f24.body = some code_slices_Index___string_string_ := by kernel_rfl
theorem code_slices_Index___string_string__ok : CodeOk Try.prog code_slices_Index___string_string_ := (sound 24 _ _ code_slices_Index___string_string__fn code_slices_Index___string_string__body).1
noncomputable def code_l_slices_Index___string_string__2 : Code := (loopsOf code_slices_Index___string_string_).getD 0 .skip
theorem code_l_slices_Index___string_string__2_ok : CodeOk Try.prog code_l_slices_Index___string_string__2 := codeOk_loops code_slices_Index___string_string__ok _ (getD_mem (by kernel_rfl))
def l_slices_Index___string_string__2_K (k : (List T) × ByteArray × Int × Int → Option (((Int) ⊕ Unit))) : Ex → SEnv → Sig → Option (((Int) ⊕ Unit)) := fun x E sg => match x with
  | .normal => Option.bind (V.lstOf (SEnv.at E 0)) fun u0 => Option.bind (V.strOf (SEnv.at E 1)) fun u1 => Option.bind (V.intOf .i64 (SEnv.at E 7)) fun u2 => Option.bind (V.intOf .i64 (SEnv.at E 8)) fun u3 => k (u0, u1, u2, u3)
  | .ret => Option.bind (V.intOf .i64 (SEnv.at E 4)) fun u0 => some (Sum.inl u0)
  | (.exit 0) => some (Sum.inr ())
  | _ => none
theorem l_slices_Index___string_string__2_eq (n : Nat) (k : (List T) × ByteArray × Int × Int → Option (((Int) ⊕ Unit))) (s0 : List T) (s1 : ByteArray) (s2 : Int) (s3 : Int) : mX Try.prog (sp_slices_Index___string_string_ n) 19 code_l_slices_Index___string_string__2 [(0, (V.t (T.list s0))), (1, (V.t (T.sc (.string s1)))), (7, (V.t (T.sc (.int .i64 s2)))), (8, (V.t (T.sc (.int .i64 s3))))] [] (l_slices_Index___string_string__2_K k) = l_slices_Index___string_string__2_B n k (s0, s1, s2, s3) := by kernel_rfl
def l_slices_Index___string_string__2_Q (x : ((Int) ⊕ Unit)) (ex : Ex) (e : Env) (s : Sig) : Prop := Sum.elim (fun p0 => (ex = .ret ∧ e = SEnv.env 19 [(4, (V.t (T.sc (.int .i64 p0))))] ∧ s = [])) (fun x' => (fun p1 => (ex = (.exit 0) ∧ e = SEnv.env 19 [] ∧ s = [])) x') x
theorem l_slices_Index___string_string__2_run (n : Nat) : ∀ (m : Nat) (s0 : List T) (s1 : ByteArray) (s2 : Int) (s3 : Int) (x : ((Int) ⊕ Unit)), l_slices_Index___string_string__2 n m (s0, s1, s2, s3) = some x → SemL Try.prog 0 code_l_slices_Index___string_string__2 (SEnv.env 19 [(0, (V.t (T.list s0))), (1, (V.t (T.sc (.string s1)))), (7, (V.t (T.sc (.int .i64 s2)))), (8, (V.t (T.sc (.int .i64 s3))))]) [] (l_slices_Index___string_string__2_Q x)
  | 0, s0, s1, s2, s3, x, h => by cases h
  | m + 1, s0, s1, s2, s3, x, h => by
    refine loop_step (sp_slices_Index___string_string__ok n) code_l_slices_Index___string_string__2_ok (fun a ha => absurd ha (by rw [show loopsOf code_l_slices_Index___string_string__2 = [] from by kernel_rfl]; simp)) ((l_slices_Index___string_string__2_eq n _ s0 s1 s2 s3).trans h) (fun E sg h => ?_) (fun ex E sg hne h => ?_)
    · simp only [l_slices_Index___string_string__2_K] at h
      obtain ⟨u0, hu0, h⟩ := Option.bind_eq_some_iff.1 h
      obtain ⟨u1, hu1, h⟩ := Option.bind_eq_some_iff.1 h
      obtain ⟨u2, hu2, h⟩ := Option.bind_eq_some_iff.1 h
      obtain ⟨u3, hu3, h⟩ := Option.bind_eq_some_iff.1 h
      exact SemL.pre (k := 0) (by decide) (WkA.env (WkA.cons (lstOf_wk hu0) rfl (WkA.cons (strOf_wk hu1) rfl (WkA.cons (intOf_wk hu2) rfl (WkA.cons (intOf_wk hu3) rfl WkA.nil)))) 19) (WkS.none _) (l_slices_Index___string_string__2_run n m _ _ _ _ x h)
    · unfold l_slices_Index___string_string__2_K at h
      split at h
      · exact absurd rfl hne
      · obtain ⟨u0, hu0, h⟩ := Option.bind_eq_some_iff.1 h
        simp only [Option.some.injEq] at h
        subst h
        exact ⟨0, _, _, by decide, WkA.env (WkA.cons (intOf_wk hu0) rfl WkA.nil) 19, (WkS.none _), rfl, rfl, rfl⟩
      · simp only [Option.some.injEq] at h
        subst h
        exact ⟨0, _, _, by decide, WkA.env WkA.nil 19, (WkS.none _), rfl, rfl, rfl⟩
      · cases h
theorem l_slices_Index___string_string__2_ok (n : Nat) : LoopOk Try.prog (sp_slices_Index___string_string_ n) 0 19 code_l_slices_Index___string_string__2 := by
    intro R key E sg K r hk h
    rw [show Go.Eng.keyOf code_l_slices_Index___string_string__2 = some 2 from by kernel_rfl] at hk
    cases hk
    have h : l_slices_Index___string_string__2_S n R E sg K = some r := h
    unfold l_slices_Index___string_string__2_S at h
    obtain ⟨u0, hu0, h⟩ := Option.bind_eq_some_iff.1 h
    obtain ⟨u1, hu1, h⟩ := Option.bind_eq_some_iff.1 h
    obtain ⟨u2, hu2, h⟩ := Option.bind_eq_some_iff.1 h
    obtain ⟨u3, hu3, h⟩ := Option.bind_eq_some_iff.1 h
    obtain ⟨x, hx, h⟩ := Option.bind_eq_some_iff.1 h
    refine (SemL.pre (k := 0) (by decide) (WkA.env (WkA.cons (lstOf_wk hu0) rfl (WkA.cons (strOf_wk hu1) rfl (WkA.cons (intOf_wk hu2) rfl (WkA.cons (intOf_wk hu3) rfl WkA.nil)))) 19) (WkS.none _) (l_slices_Index___string_string__2_run n n _ _ _ _ x hx)).mono ?_
    intro ex e s hq
    rcases x with x | x <;> (obtain ⟨rfl, rfl, rfl⟩ := hq; exact ⟨_, rfl, h⟩) -- 5
def K_slices_Index___string_string_ (v : V) (s : Sig) : Option (Int) := Option.bind (V.intOf .i64 v) fun u0 => some u0
theorem K_slices_Index___string_string__wk {v : V} {s : Sig} {r : Int} (h : K_slices_Index___string_string_ v s = some r) : Wk v (enc_slices_Index___string_string_ r) ∧ WkS 0 s (encS_slices_Index___string_string_ r) := by
  unfold K_slices_Index___string_string_ at h
  obtain ⟨u0, hu0, h⟩ := Option.bind_eq_some_iff.1 h
  simp only [Option.some.injEq] at h
  subst h
  exact ⟨(intOf_wk hu0), (WkS.none _)⟩
theorem m_slices_Index___string_string__eq (n : Nat) (a0 : List T) (a1 : ByteArray) : mF Try.prog (sp_slices_Index___string_string_ n) 24 [(V.t (T.list a0)), (V.t (T.sc (.string a1)))] [] K_slices_Index___string_string_ = m_slices_Index___string_string_ n a0 a1 := by kernel_rfl
theorem m_slices_Index___string_string__ok (n : Nat) : ok_slices_Index___string_string_ (m_slices_Index___string_string_ n) := fun a0 a1 r h => mF_ok sound (sp_slices_Index___string_string__ok n) code_slices_Index___string_string__fn code_slices_Index___string_string__body (forall_getD (d := .skip) 1 (by kernel_rfl) (fun i hi => match i, hi with | 0, _ => l_slices_Index___string_string__2_ok n | i + 1, hi => absurd hi (by omega))) ((m_slices_Index___string_string__eq n a0 a1).trans h) (fun v s hk => ⟨(K_slices_Index___string_string__wk hk).1, rfl, (K_slices_Index___string_string__wk hk).2⟩)


/-! slices.Contains[[]string,string] -/
def m_slices_Contains___string_string_ (n : Nat) (a0 : List T) (a1 : ByteArray) : Option (Bool) :=
Option.bind (m_slices_Index___string_string_ n a0 a1) fun r0 =>
some (decide ((r0 : Int) ≥ 0))
def enc_slices_Contains___string_string_ (r : Bool) : V := (V.t (T.sc (.bool r)))
def encS_slices_Contains___string_string_ (r : Bool) : Sig := []
def ok_slices_Contains___string_string_ (m : List T → ByteArray → Option (Bool)) : Prop := ∀ (a0 : List T) (a1 : ByteArray) (r : Bool), m a0 a1 = some r → FuncOk Try.prog 15 [(V.t (T.list a0)), (V.t (T.sc (.string a1)))] [] (enc_slices_Contains___string_string_ r) (encS_slices_Contains___string_string_ r)
def c_slices_Contains___string_string_ (m : List T → ByteArray → Option (Bool)) (vs : List V) (sg : Sig) : Option CallM := bif Nat.beq vs.length 2 && Nat.beq sg.length 0 then Option.bind (V.lstOf (vs.getD 0 .any)) fun u0 => Option.bind (V.strOf (vs.getD 1 .any)) fun u1 => some { α := Bool, m := m u0 u1, dflt := false, enc := fun y => ((V.t (T.sc (.bool y))), []) } else none
theorem c_slices_Contains___string_string__ok (m : List T → ByteArray → Option (Bool)) (hm : ok_slices_Contains___string_string_ m) (vs : List V) (sg : Sig) (cm : CallM) (x : cm.α) (h : c_slices_Contains___string_string_ m vs sg = some cm) (hx : cm.m = some x) : FuncOk Try.prog 15 vs sg (cm.enc x).1 (cm.enc x).2 := by
  unfold c_slices_Contains___string_string_ at h
  have h0 := callee_sig h
  clear h
  obtain ⟨hl, hs, h⟩ := h0
  obtain ⟨u0, hu0, h⟩ := Option.bind_eq_some_iff.1 h
  obtain ⟨u1, hu1, h⟩ := Option.bind_eq_some_iff.1 h
  simp only [Option.some.injEq] at h
  subst h
  exact (hm u0 u1 x hx).wk (args_wk hl (.cons (lstOf_wk hu0) (.cons (strOf_wk hu1) .nil))) (wkSg_of hs .nil)
noncomputable def code_slices_Contains___string_string_ : Code := Try.f15.body.getD .skip
noncomputable def sp_slices_Contains___string_string_ (n : Nat) : Go.Eng.Spec := ⟨fun f vs sg => (match f with
    | 24 => c_slices_Index___string_string_ (m_slices_Index___string_string_ n) vs sg
    | _ => none), fun R key E sg K => (match key with
    | _ => none)⟩
theorem sp_slices_Contains___string_string__ok (n : Nat) : CallsOk Try.prog (sp_slices_Contains___string_string_ n) := by
  intro f vs sg cm x h hx
  simp only [sp_slices_Contains___string_string_] at h
  split at h
  · exact c_slices_Index___string_string__ok _ (m_slices_Index___string_string__ok n) vs sg cm x h hx
  · cases h
theorem code_slices_Contains___string_string__fn : Try.prog.funcs[15]? = some Try.f15 := Try.func15
theorem code_slices_Contains___string_string__body : Try.f15.body = some code_slices_Contains___string_string_ := by kernel_rfl
theorem code_slices_Contains___string_string__ok : CodeOk Try.prog code_slices_Contains___string_string_ := (sound 15 _ _ code_slices_Contains___string_string__fn code_slices_Contains___string_string__body).1
def K_slices_Contains___string_string_ (v : V) (s : Sig) : Option (Bool) := Option.bind (V.boolOf v) fun u0 => some u0
theorem K_slices_Contains___string_string__wk {v : V} {s : Sig} {r : Bool} (h : K_slices_Contains___string_string_ v s = some r) : Wk v (enc_slices_Contains___string_string_ r) ∧ WkS 0 s (encS_slices_Contains___string_string_ r) := by
  unfold K_slices_Contains___string_string_ at h
  obtain ⟨u0, hu0, h⟩ := Option.bind_eq_some_iff.1 h
  simp only [Option.some.injEq] at h
  subst h
  exact ⟨(boolOf_wk hu0), (WkS.none _)⟩
theorem m_slices_Contains___string_string__eq (n : Nat) (a0 : List T) (a1 : ByteArray) : mF Try.prog (sp_slices_Contains___string_string_ n) 15 [(V.t (T.list a0)), (V.t (T.sc (.string a1)))] [] K_slices_Contains___string_string_ = m_slices_Contains___string_string_ n a0 a1 := by kernel_rfl
theorem m_slices_Contains___string_string__ok (n : Nat) : ok_slices_Contains___string_string_ (m_slices_Contains___string_string_ n) := fun a0 a1 r h => mF_ok sound (sp_slices_Contains___string_string__ok n) code_slices_Contains___string_string__fn code_slices_Contains___string_string__body (fun a ha => absurd ha (by rw [show loopsOf code_slices_Contains___string_string_ = [] from by kernel_rfl]; simp)) ((m_slices_Contains___string_string__eq n a0 a1).trans h) (fun v s hk => ⟨(K_slices_Contains___string_string__wk hk).1, rfl, (K_slices_Contains___string_string__wk hk).2⟩)


/-! suture/judge.Accepts$1 -/
def m_judge_Accepts_1 (n : Nat) (a0 : ByteArray) (a1 : List T) (a2 : List T) (a3 : List T) (a4 : Int) (a5 : Int) : Option (Bool × (List T) × (List T) × (List T) × Int × Int) :=
Option.bind (m_slices_Contains___string_string_ n a2 a0) fun r0 =>
some ((!r0), a1, a2, a3, a4, a5)
def enc_judge_Accepts_1 (r : Bool × (List T) × (List T) × (List T) × Int × Int) : V := (V.t (T.sc (.bool r.1)))
def encS_judge_Accepts_1 (r : Bool × (List T) × (List T) × (List T) × Int × Int) : Sig := [some [(V.t (T.list r.2.1)), (V.t (T.list r.2.2.1)), (V.t (T.list r.2.2.2.1)), (V.t (T.sc (.int .i64 r.2.2.2.2.1))), (V.t (T.sc (.int .i64 r.2.2.2.2.2)))]]
def ok_judge_Accepts_1 (m : ByteArray → List T → List T → List T → Int → Int → Option (Bool × (List T) × (List T) × (List T) × Int × Int)) : Prop := ∀ (a0 : ByteArray) (a1 : List T) (a2 : List T) (a3 : List T) (a4 : Int) (a5 : Int) (r : Bool × (List T) × (List T) × (List T) × Int × Int), m a0 a1 a2 a3 a4 a5 = some r → FuncOk Try.prog 14 [(V.t (T.sc (.string a0))), (V.ptr 0 0)] [some [(V.t (T.list a1)), (V.t (T.list a2)), (V.t (T.list a3)), (V.t (T.sc (.int .i64 a4))), (V.t (T.sc (.int .i64 a5)))]] (enc_judge_Accepts_1 r) (encS_judge_Accepts_1 r)
def c_judge_Accepts_1 (m : ByteArray → List T → List T → List T → Int → Int → Option (Bool × (List T) × (List T) × (List T) × Int × Int)) (vs : List V) (sg : Sig) : Option CallM := bif Nat.beq vs.length 2 && Nat.beq sg.length 1 then Option.bind (V.strOf (vs.getD 0 .any)) fun u0 => Option.bind (V.ptrOf 0 0 (vs.getD 1 .any)) fun u1 => Option.bind (cellsN 5 sg 0) fun g0 => Option.bind (V.lstOf (g0.getD 0 .any)) fun g1 => Option.bind (V.lstOf (g0.getD 1 .any)) fun g2 => Option.bind (V.lstOf (g0.getD 2 .any)) fun g3 => Option.bind (V.intOf .i64 (g0.getD 3 .any)) fun g4 => Option.bind (V.intOf .i64 (g0.getD 4 .any)) fun g5 => some { α := Bool × (List T) × (List T) × (List T) × Int × Int, m := m u0 g1 g2 g3 g4 g5, dflt := (false, [], [], [], 0, 0), enc := fun y => ((V.t (T.sc (.bool y.1))), [some [(V.t (T.list y.2.1)), (V.t (T.list y.2.2.1)), (V.t (T.list y.2.2.2.1)), (V.t (T.sc (.int .i64 y.2.2.2.2.1))), (V.t (T.sc (.int .i64 y.2.2.2.2.2)))]]) } else none
theorem c_judge_Accepts_1_ok (m : ByteArray → List T → List T → List T → Int → Int → Option (Bool × (List T) × (List T) × (List T) × Int × Int)) (hm : ok_judge_Accepts_1 m) (vs : List V) (sg : Sig) (cm : CallM) (x : cm.α) (h : c_judge_Accepts_1 m vs sg = some cm) (hx : cm.m = some x) : FuncOk Try.prog 14 vs sg (cm.enc x).1 (cm.enc x).2 := by
  unfold c_judge_Accepts_1 at h
  have h0 := callee_sig h
  clear h
  obtain ⟨hl, hs, h⟩ := h0
  obtain ⟨u0, hu0, h⟩ := Option.bind_eq_some_iff.1 h
  obtain ⟨u1, hu1, h⟩ := Option.bind_eq_some_iff.1 h
  obtain ⟨g0, hg0, h⟩ := Option.bind_eq_some_iff.1 h
  obtain ⟨g1, hg1, h⟩ := Option.bind_eq_some_iff.1 h
  obtain ⟨g2, hg2, h⟩ := Option.bind_eq_some_iff.1 h
  obtain ⟨g3, hg3, h⟩ := Option.bind_eq_some_iff.1 h
  obtain ⟨g4, hg4, h⟩ := Option.bind_eq_some_iff.1 h
  obtain ⟨g5, hg5, h⟩ := Option.bind_eq_some_iff.1 h
  simp only [Option.some.injEq] at h
  subst h
  exact (hm u0 g1 g2 g3 g4 g5 x hx).wk (args_wk hl (.cons (strOf_wk hu0) (.cons (ptrOf_wk hu1) .nil))) (wkSg_of hs (.cons (cellsN_wk hg0 (.cons (lstOf_wk hg1) (.cons (lstOf_wk hg2) (.cons (lstOf_wk hg3) (.cons (intOf_wk hg4) (.cons (intOf_wk hg5) .nil)))))) .nil))
noncomputable def code_judge_Accepts_1 : Code := Try.f14.body.getD .skip
noncomputable def sp_judge_Accepts_1 (n : Nat) : Go.Eng.Spec := ⟨fun f vs sg => (match f with
    | 15 => c_slices_Contains___string_string_ (m_slices_Contains___string_string_ n) vs sg
    | _ => none), fun R key E sg K => (match key with
    | _ => none)⟩
theorem sp_judge_Accepts_1_ok (n : Nat) : CallsOk Try.prog (sp_judge_Accepts_1 n) := by
  intro f vs sg cm x h hx
  simp only [sp_judge_Accepts_1] at h
  split at h
  · exact c_slices_Contains___string_string__ok _ (m_slices_Contains___string_string__ok n) vs sg cm x h hx
  · cases h
theorem code_judge_Accepts_1_fn : Try.prog.funcs[14]? = some Try.f14 := Try.func14
theorem code_judge_Accepts_1_body : Try.f14.body = some code_judge_Accepts_1 := by kernel_rfl
theorem code_judge_Accepts_1_ok : CodeOk Try.prog code_judge_Accepts_1 := (sound 14 _ _ code_judge_Accepts_1_fn code_judge_Accepts_1_body).1
def K_judge_Accepts_1 (v : V) (s : Sig) : Option (Bool × (List T) × (List T) × (List T) × Int × Int) := Option.bind (V.boolOf v) fun u0 => Option.bind (cellsN 5 s 0) fun g0 => Option.bind (V.lstOf (g0.getD 0 .any)) fun g1 => Option.bind (V.lstOf (g0.getD 1 .any)) fun g2 => Option.bind (V.lstOf (g0.getD 2 .any)) fun g3 => Option.bind (V.intOf .i64 (g0.getD 3 .any)) fun g4 => Option.bind (V.intOf .i64 (g0.getD 4 .any)) fun g5 => some (u0, g1, g2, g3, g4, g5)
theorem K_judge_Accepts_1_wk {v : V} {s : Sig} {r : Bool × (List T) × (List T) × (List T) × Int × Int} (h : K_judge_Accepts_1 v s = some r) : Wk v (enc_judge_Accepts_1 r) ∧ WkS 1 s (encS_judge_Accepts_1 r) := by
  unfold K_judge_Accepts_1 at h
  obtain ⟨u0, hu0, h⟩ := Option.bind_eq_some_iff.1 h
  obtain ⟨g0, hg0, h⟩ := Option.bind_eq_some_iff.1 h
  obtain ⟨g1, hg1, h⟩ := Option.bind_eq_some_iff.1 h
  obtain ⟨g2, hg2, h⟩ := Option.bind_eq_some_iff.1 h
  obtain ⟨g3, hg3, h⟩ := Option.bind_eq_some_iff.1 h
  obtain ⟨g4, hg4, h⟩ := Option.bind_eq_some_iff.1 h
  obtain ⟨g5, hg5, h⟩ := Option.bind_eq_some_iff.1 h
  simp only [Option.some.injEq] at h
  subst h
  exact ⟨(boolOf_wk hu0), (wkR_sig (WkR.cons (cellsN_wk hg0 (.cons (lstOf_wk hg1) (.cons (lstOf_wk hg2) (.cons (lstOf_wk hg3) (.cons (intOf_wk hg4) (.cons (intOf_wk hg5) .nil)))))).1 (cellsN_wk hg0 (.cons (lstOf_wk hg1) (.cons (lstOf_wk hg2) (.cons (lstOf_wk hg3) (.cons (intOf_wk hg4) (.cons (intOf_wk hg5) .nil)))))).2 (renL_mem (.cons rfl (.cons rfl (.cons rfl (.cons rfl (.cons rfl .nil)))))) (WkR.nil _)) rfl)⟩
theorem m_judge_Accepts_1_eq (n : Nat) (a0 : ByteArray) (a1 : List T) (a2 : List T) (a3 : List T) (a4 : Int) (a5 : Int) : mF Try.prog (sp_judge_Accepts_1 n) 14 [(V.t (T.sc (.string a0))), (V.ptr 0 0)] [some [(V.t (T.list a1)), (V.t (T.list a2)), (V.t (T.list a3)), (V.t (T.sc (.int .i64 a4))), (V.t (T.sc (.int .i64 a5)))]] K_judge_Accepts_1 = m_judge_Accepts_1 n a0 a1 a2 a3 a4 a5 := by kernel_rfl
theorem m_judge_Accepts_1_ok (n : Nat) : ok_judge_Accepts_1 (m_judge_Accepts_1 n) := fun a0 a1 a2 a3 a4 a5 r h => mF_ok sound (sp_judge_Accepts_1_ok n) code_judge_Accepts_1_fn code_judge_Accepts_1_body (fun a ha => absurd ha (by rw [show loopsOf code_judge_Accepts_1 = [] from by kernel_rfl]; simp)) ((m_judge_Accepts_1_eq n a0 a1 a2 a3 a4 a5).trans h) (fun v s hk => ⟨(K_judge_Accepts_1_wk hk).1, rfl, (K_judge_Accepts_1_wk hk).2⟩)


/-! slices.IndexFunc[[]string,string] -/
def l_slices_IndexFunc___string_string__2_B (n : Nat) (k : (List T) × Int × Int × (List T) × (List T) × (List T) × Int × Int → Option (((Int × (List T) × (List T) × (List T) × Int × Int) ⊕ (List T) × (List T) × (List T) × Int × Int))) : (List T) × Int × Int × (List T) × (List T) × (List T) × Int × Int → Option (((Int × (List T) × (List T) × (List T) × Int × Int) ⊕ (List T) × (List T) × (List T) × Int × Int)) := fun (s0, s1, s2, s3, s4, s5, s6, s7) =>
bif (decide ((s2 : Int) < s1)) then (
Option.bind (idx true [.str] s0 s2) fun y0 =>
Option.bind (m_judge_Accepts_1 n (y0.cell 0).str s3 s4 s5 s6 s7) fun r1 =>
bif r1.1 then (
some (Sum.inl (s2, r1.2.1, r1.2.2.1, r1.2.2.2.1, r1.2.2.2.2.1, r1.2.2.2.2.2)))
else (
k (s0, s1, (IntKind.wrap .i64 (s2 + 1)), r1.2.1, r1.2.2.1, r1.2.2.2.1, r1.2.2.2.2.1, r1.2.2.2.2.2)))
else (
some (Sum.inr (s3, s4, s5, s6, s7)))
def l_slices_IndexFunc___string_string__2 (n : Nat) : Nat → (List T) × Int × Int × (List T) × (List T) × (List T) × Int × Int → Option (((Int × (List T) × (List T) × (List T) × Int × Int) ⊕ (List T) × (List T) × (List T) × Int × Int))
  | 0, _ => none
  | m + 1, s => l_slices_IndexFunc___string_string__2_B n (l_slices_IndexFunc___string_string__2 n m) s
def m_slices_IndexFunc___string_string_ (n : Nat) (a0 : List T) (a1 : List T) (a2 : List T) (a3 : List T) (a4 : Int) (a5 : Int) : Option (Int × (List T) × (List T) × (List T) × Int × Int) :=
Option.bind (l_slices_IndexFunc___string_string__2 n n (a0, ((List.length a0 : Nat) : Int), 0, a1, a2, a3, a4, a5)) fun x2 =>
Sum.elim (fun p3 => 
some (p3.1, p3.2.1, p3.2.2.1, p3.2.2.2.1, p3.2.2.2.2.1, p3.2.2.2.2.2)) (fun x2' => (fun p4 => 
some ((-1), p4.1, p4.2.1, p4.2.2.1, p4.2.2.2.1, p4.2.2.2.2)) x2') x2
def enc_slices_IndexFunc___string_string_ (r : Int × (List T) × (List T) × (List T) × Int × Int) : V := (V.t (T.sc (.int .i64 r.1)))
def encS_slices_IndexFunc___string_string_ (r : Int × (List T) × (List T) × (List T) × Int × Int) : Sig := [some [(V.t (T.list r.2.1)), (V.t (T.list r.2.2.1)), (V.t (T.list r.2.2.2.1)), (V.t (T.sc (.int .i64 r.2.2.2.2.1))), (V.t (T.sc (.int .i64 r.2.2.2.2.2)))]]
def ok_slices_IndexFunc___string_string_ (m : List T → List T → List T → List T → Int → Int → Option (Int × (List T) × (List T) × (List T) × Int × Int)) : Prop := ∀ (a0 : List T) (a1 : List T) (a2 : List T) (a3 : List T) (a4 : Int) (a5 : Int) (r : Int × (List T) × (List T) × (List T) × Int × Int), m a0 a1 a2 a3 a4 a5 = some r → FuncOk Try.prog 23 [(V.t (T.list a0)), (V.fn 14 [(V.ptr 0 0)])] [some [(V.t (T.list a1)), (V.t (T.list a2)), (V.t (T.list a3)), (V.t (T.sc (.int .i64 a4))), (V.t (T.sc (.int .i64 a5)))]] (enc_slices_IndexFunc___string_string_ r) (encS_slices_IndexFunc___string_string_ r)
def c_slices_IndexFunc___string_string_ (m : List T → List T → List T → List T → Int → Int → Option (Int × (List T) × (List T) × (List T) × Int × Int)) (vs : List V) (sg : Sig) : Option CallM := bif Nat.beq vs.length 2 && Nat.beq sg.length 1 then Option.bind (V.lstOf (vs.getD 0 .any)) fun u0 => Option.bind (V.fnN 14 1 (vs.getD 1 .any)) fun u1 => Option.bind (V.ptrOf 0 0 (u1.getD 0 .any)) fun u2 => Option.bind (cellsN 5 sg 0) fun g0 => Option.bind (V.lstOf (g0.getD 0 .any)) fun g1 => Option.bind (V.lstOf (g0.getD 1 .any)) fun g2 => Option.bind (V.lstOf (g0.getD 2 .any)) fun g3 => Option.bind (V.intOf .i64 (g0.getD 3 .any)) fun g4 => Option.bind (V.intOf .i64 (g0.getD 4 .any)) fun g5 => some { α := Int × (List T) × (List T) × (List T) × Int × Int, m := m u0 g1 g2 g3 g4 g5, dflt := (0, [], [], [], 0, 0), enc := fun y => ((V.t (T.sc (.int .i64 y.1))), [some [(V.t (T.list y.2.1)), (V.t (T.list y.2.2.1)), (V.t (T.list y.2.2.2.1)), (V.t (T.sc (.int .i64 y.2.2.2.2.1))), (V.t (T.sc (.int .i64 y.2.2.2.2.2)))]]) } else none
theorem c_slices_IndexFunc___string_string__ok (m : List T → List T → List T → List T → Int → Int → Option (Int × (List T) × (List T) × (List T) × Int × Int)) (hm : ok_slices_IndexFunc___string_string_ m) (vs : List V) (sg : Sig) (cm : CallM) (x : cm.α) (h : c_slices_IndexFunc___string_string_ m vs sg = some cm) (hx : cm.m = some x) : FuncOk Try.prog 23 vs sg (cm.enc x).1 (cm.enc x).2 := by
  unfold c_slices_IndexFunc___string_string_ at h
  have h0 := callee_sig h
  clear h
  obtain ⟨hl, hs, h⟩ := h0
  obtain ⟨u0, hu0, h⟩ := Option.bind_eq_some_iff.1 h
  obtain ⟨u1, hu1, h⟩ := Option.bind_eq_some_iff.1 h
  obtain ⟨u2, hu2, h⟩ := Option.bind_eq_some_iff.1 h
  obtain ⟨g0, hg0, h⟩ := Option.bind_eq_some_iff.1 h
  obtain ⟨g1, hg1, h⟩ := Option.bind_eq_some_iff.1 h
  obtain ⟨g2, hg2, h⟩ := Option.bind_eq_some_iff.1 h
  obtain ⟨g3, hg3, h⟩ := Option.bind_eq_some_iff.1 h
  obtain ⟨g4, hg4, h⟩ := Option.bind_eq_some_iff.1 h
  obtain ⟨g5, hg5, h⟩ := Option.bind_eq_some_iff.1 h
  simp only [Option.some.injEq] at h
  subst h
  exact (hm u0 g1 g2 g3 g4 g5 x hx).wk (args_wk hl (.cons (lstOf_wk hu0) (.cons (fnN_wk hu1 (.cons (ptrOf_wk hu2) .nil)) .nil))) (wkSg_of hs (.cons (cellsN_wk hg0 (.cons (lstOf_wk hg1) (.cons (lstOf_wk hg2) (.cons (lstOf_wk hg3) (.cons (intOf_wk hg4) (.cons (intOf_wk hg5) .nil)))))) .nil))
noncomputable def code_slices_IndexFunc___string_string_ : Code := Try.f23.body.getD .skip
def l_slices_IndexFunc___string_string__2_S (n : Nat) (R : Type) (E : SEnv) (sg : Sig) (K : Ex → SEnv → Sig → Option R) : Option R := Option.bind (V.lstOf (SEnv.at E 0)) fun u0 => Option.bind (V.fnN 14 1 (SEnv.at E 1)) fun u1 => Option.bind (V.ptrOf 0 0 (u1.getD 0 .any)) fun u2 => Option.bind (V.intOf .i64 (SEnv.at E 7)) fun u3 => Option.bind (V.intOf .i64 (SEnv.at E 8)) fun u4 => Option.bind (cellsN 5 sg 0) fun u5 => Option.bind (V.lstOf (u5.getD 0 .any)) fun u6 => Option.bind (V.lstOf (u5.getD 1 .any)) fun u7 => Option.bind (V.lstOf (u5.getD 2 .any)) fun u8 => Option.bind (V.intOf .i64 (u5.getD 3 .any)) fun u9 => Option.bind (V.intOf .i64 (u5.getD 4 .any)) fun u10 => Option.bind (l_slices_IndexFunc___string_string__2 n n (u0, u3, u4, u6, u7, u8, u9, u10)) fun y => Sum.elim (fun p0 => K .ret [(4, (V.t (T.sc (.int .i64 p0.1))))] [some [(V.t (T.list p0.2.1)), (V.t (T.list p0.2.2.1)), (V.t (T.list p0.2.2.2.1)), (V.t (T.sc (.int .i64 p0.2.2.2.2.1))), (V.t (T.sc (.int .i64 p0.2.2.2.2.2)))]]) (fun y' => (fun p1 => K (.exit 0) [] [some [(V.t (T.list p1.1)), (V.t (T.list p1.2.1)), (V.t (T.list p1.2.2.1)), (V.t (T.sc (.int .i64 p1.2.2.2.1))), (V.t (T.sc (.int .i64 p1.2.2.2.2)))]]) y') y
noncomputable def sp_slices_IndexFunc___string_string_ (n : Nat) : Go.Eng.Spec := ⟨fun f vs sg => (match f with
    | 14 => c_judge_Accepts_1 (m_judge_Accepts_1 n) vs sg
    | _ => none), fun R key E sg K => (match key with
    | 2 => l_slices_IndexFunc___string_string__2_S n R E sg K
    | _ => none)⟩
theorem sp_slices_IndexFunc___string_string__ok (n : Nat) : CallsOk Try.prog (sp_slices_IndexFunc___string_string_ n) := by
  intro f vs sg cm x h hx
  simp only [sp_slices_IndexFunc___string_string_] at h
  split at h
  · exact c_judge_Accepts_1_ok _ (m_judge_Accepts_1_ok n) vs sg cm x h hx
  · cases h
theorem code_slices_IndexFunc___string_string__fn : Try.prog.funcs[23]? = some Try.f23 := Try.func23
theorem code_slices_IndexFunc___string_string__body : Try.f23.body = some code_slices_IndexFunc___string_string_ := by kernel_rfl
theorem code_slices_IndexFunc___string_string__ok : CodeOk Try.prog code_slices_IndexFunc___string_string_ := (sound 23 _ _ code_slices_IndexFunc___string_string__fn code_slices_IndexFunc___string_string__body).1
noncomputable def code_l_slices_IndexFunc___string_string__2 : Code := (loopsOf code_slices_IndexFunc___string_string_).getD 0 .skip
theorem code_l_slices_IndexFunc___string_string__2_ok : CodeOk Try.prog code_l_slices_IndexFunc___string_string__2 := codeOk_loops code_slices_IndexFunc___string_string__ok _ (getD_mem (by kernel_rfl))
def l_slices_IndexFunc___string_string__2_K (k : (List T) × Int × Int × (List T) × (List T) × (List T) × Int × Int → Option (((Int × (List T) × (List T) × (List T) × Int × Int) ⊕ (List T) × (List T) × (List T) × Int × Int))) : Ex → SEnv → Sig → Option (((Int × (List T) × (List T) × (List T) × Int × Int) ⊕ (List T) × (List T) × (List T) × Int × Int)) := fun x E sg => match x with
  | .normal => Option.bind (V.lstOf (SEnv.at E 0)) fun u0 => Option.bind (V.fnN 14 1 (SEnv.at E 1)) fun u1 => Option.bind (V.ptrOf 0 0 (u1.getD 0 .any)) fun u2 => Option.bind (V.intOf .i64 (SEnv.at E 7)) fun u3 => Option.bind (V.intOf .i64 (SEnv.at E 8)) fun u4 => Option.bind (cellsN 5 sg 0) fun u5 => Option.bind (V.lstOf (u5.getD 0 .any)) fun u6 => Option.bind (V.lstOf (u5.getD 1 .any)) fun u7 => Option.bind (V.lstOf (u5.getD 2 .any)) fun u8 => Option.bind (V.intOf .i64 (u5.getD 3 .any)) fun u9 => Option.bind (V.intOf .i64 (u5.getD 4 .any)) fun u10 => k (u0, u3, u4, u6, u7, u8, u9, u10)
  | .ret => Option.bind (V.intOf .i64 (SEnv.at E 4)) fun u0 => Option.bind (cellsN 5 sg 0) fun u1 => Option.bind (V.lstOf (u1.getD 0 .any)) fun u2 => Option.bind (V.lstOf (u1.getD 1 .any)) fun u3 => Option.bind (V.lstOf (u1.getD 2 .any)) fun u4 => Option.bind (V.intOf .i64 (u1.getD 3 .any)) fun u5 => Option.bind (V.intOf .i64 (u1.getD 4 .any)) fun u6 => some (Sum.inl (u0, u2, u3, u4, u5, u6))
  | (.exit 0) => Option.bind (cellsN 5 sg 0) fun u0 => Option.bind (V.lstOf (u0.getD 0 .any)) fun u1 => Option.bind (V.lstOf (u0.getD 1 .any)) fun u2 => Option.bind (V.lstOf (u0.getD 2 .any)) fun u3 => Option.bind (V.intOf .i64 (u0.getD 3 .any)) fun u4 => Option.bind (V.intOf .i64 (u0.getD 4 .any)) fun u5 => some (Sum.inr (u1, u2, u3, u4, u5))
  | _ => none
theorem l_slices_IndexFunc___string_string__2_eq (n : Nat) (k : (List T) × Int × Int × (List T) × (List T) × (List T) × Int × Int → Option (((Int × (List T) × (List T) × (List T) × Int × Int) ⊕ (List T) × (List T) × (List T) × Int × Int))) (s0 : List T) (s1 : Int) (s2 : Int) (s3 : List T) (s4 : List T) (s5 : List T) (s6 : Int) (s7 : Int) : mX Try.prog (sp_slices_IndexFunc___string_string_ n) 19 code_l_slices_IndexFunc___string_string__2 [(0, (V.t (T.list s0))), (1, (V.fn 14 [(V.ptr 0 0)])), (7, (V.t (T.sc (.int .i64 s1)))), (8, (V.t (T.sc (.int .i64 s2))))] [some [(V.t (T.list s3)), (V.t (T.list s4)), (V.t (T.list s5)), (V.t (T.sc (.int .i64 s6))), (V.t (T.sc (.int .i64 s7)))]] (l_slices_IndexFunc___string_string__2_K k) = l_slices_IndexFunc___string_string__2_B n k (s0, s1, s2, s3, s4, s5, s6, s7) := by kernel_rfl
def l_slices_IndexFunc___string_string__2_Q (x : ((Int × (List T) × (List T) × (List T) × Int × Int) ⊕ (List T) × (List T) × (List T) × Int × Int)) (ex : Ex) (e : Env) (s : Sig) : Prop := Sum.elim (fun p0 => (ex = .ret ∧ e = SEnv.env 19 [(4, (V.t (T.sc (.int .i64 p0.1))))] ∧ s = [some [(V.t (T.list p0.2.1)), (V.t (T.list p0.2.2.1)), (V.t (T.list p0.2.2.2.1)), (V.t (T.sc (.int .i64 p0.2.2.2.2.1))), (V.t (T.sc (.int .i64 p0.2.2.2.2.2)))]])) (fun x' => (fun p1 => (ex = (.exit 0) ∧ e = SEnv.env 19 [] ∧ s = [some [(V.t (T.list p1.1)), (V.t (T.list p1.2.1)), (V.t (T.list p1.2.2.1)), (V.t (T.sc (.int .i64 p1.2.2.2.1))), (V.t (T.sc (.int .i64 p1.2.2.2.2)))]])) x') x
theorem l_slices_IndexFunc___string_string__2_run (n : Nat) : ∀ (m : Nat) (s0 : List T) (s1 : Int) (s2 : Int) (s3 : List T) (s4 : List T) (s5 : List T) (s6 : Int) (s7 : Int) (x : ((Int × (List T) × (List T) × (List T) × Int × Int) ⊕ (List T) × (List T) × (List T) × Int × Int)), l_slices_IndexFunc___string_string__2 n m (s0, s1, s2, s3, s4, s5, s6, s7) = some x → SemL Try.prog 1 code_l_slices_IndexFunc___string_string__2 (SEnv.env 19 [(0, (V.t (T.list s0))), (1, (V.fn 14 [(V.ptr 0 0)])), (7, (V.t (T.sc (.int .i64 s1)))), (8, (V.t (T.sc (.int .i64 s2))))]) [some [(V.t (T.list s3)), (V.t (T.list s4)), (V.t (T.list s5)), (V.t (T.sc (.int .i64 s6))), (V.t (T.sc (.int .i64 s7)))]] (l_slices_IndexFunc___string_string__2_Q x)
  | 0, s0, s1, s2, s3, s4, s5, s6, s7, x, h => by cases h
  | m + 1, s0, s1, s2, s3, s4, s5, s6, s7, x, h => by
    refine loop_step (sp_slices_IndexFunc___string_string__ok n) code_l_slices_IndexFunc___string_string__2_ok (fun a ha => absurd ha (by rw [show loopsOf code_l_slices_IndexFunc___string_string__2 = [] from by kernel_rfl]; simp)) ((l_slices_IndexFunc___string_string__2_eq n _ s0 s1 s2 s3 s4 s5 s6 s7).trans h) (fun E sg h => ?_) (fun ex E sg hne h => ?_)
    · simp only [l_slices_IndexFunc___string_string__2_K] at h
      obtain ⟨u0, hu0, h⟩ := Option.bind_eq_some_iff.1 h
      obtain ⟨u1, hu1, h⟩ := Option.bind_eq_some_iff.1 h
      obtain ⟨u2, hu2, h⟩ := Option.bind_eq_some_iff.1 h
      obtain ⟨u3, hu3, h⟩ := Option.bind_eq_some_iff.1 h
      obtain ⟨u4, hu4, h⟩ := Option.bind_eq_some_iff.1 h
      obtain ⟨u5, hu5, h⟩ := Option.bind_eq_some_iff.1 h
      obtain ⟨u6, hu6, h⟩ := Option.bind_eq_some_iff.1 h
      obtain ⟨u7, hu7, h⟩ := Option.bind_eq_some_iff.1 h
      obtain ⟨u8, hu8, h⟩ := Option.bind_eq_some_iff.1 h
      obtain ⟨u9, hu9, h⟩ := Option.bind_eq_some_iff.1 h
      obtain ⟨u10, hu10, h⟩ := Option.bind_eq_some_iff.1 h
      exact SemL.pre (k := 1) (by decide) (WkA.env (WkA.cons (lstOf_wk hu0) rfl (WkA.cons (fnN_wk hu1 (.cons (ptrOf_wk hu2) .nil)) rfl (WkA.cons (intOf_wk hu3) rfl (WkA.cons (intOf_wk hu4) rfl WkA.nil)))) 19) (wkR_sig (WkR.cons (cellsN_wk hu5 (.cons (lstOf_wk hu6) (.cons (lstOf_wk hu7) (.cons (lstOf_wk hu8) (.cons (intOf_wk hu9) (.cons (intOf_wk hu10) .nil)))))).1 (cellsN_wk hu5 (.cons (lstOf_wk hu6) (.cons (lstOf_wk hu7) (.cons (lstOf_wk hu8) (.cons (intOf_wk hu9) (.cons (intOf_wk hu10) .nil)))))).2 (renL_mem (.cons rfl (.cons rfl (.cons rfl (.cons rfl (.cons rfl .nil)))))) (WkR.nil _)) rfl) (l_slices_IndexFunc___string_string__2_run n m _ _ _ _ _ _ _ _ x h)
    · unfold l_slices_IndexFunc___string_string__2_K at h
      split at h
      · exact absurd rfl hne
      · obtain ⟨u0, hu0, h⟩ := Option.bind_eq_some_iff.1 h
        obtain ⟨u1, hu1, h⟩ := Option.bind_eq_some_iff.1 h
        obtain ⟨u2, hu2, h⟩ := Option.bind_eq_some_iff.1 h
        obtain ⟨u3, hu3, h⟩ := Option.bind_eq_some_iff.1 h
        obtain ⟨u4, hu4, h⟩ := Option.bind_eq_some_iff.1 h
        obtain ⟨u5, hu5, h⟩ := Option.bind_eq_some_iff.1 h
        obtain ⟨u6, hu6, h⟩ := Option.bind_eq_some_iff.1 h
        simp only [Option.some.injEq] at h
        subst h
        exact ⟨1, _, _, by decide, WkA.env (WkA.cons (intOf_wk hu0) rfl WkA.nil) 19, (wkR_sig (WkR.cons (cellsN_wk hu1 (.cons (lstOf_wk hu2) (.cons (lstOf_wk hu3) (.cons (lstOf_wk hu4) (.cons (intOf_wk hu5) (.cons (intOf_wk hu6) .nil)))))).1 (cellsN_wk hu1 (.cons (lstOf_wk hu2) (.cons (lstOf_wk hu3) (.cons (lstOf_wk hu4) (.cons (intOf_wk hu5) (.cons (intOf_wk hu6) .nil)))))).2 (renL_mem (.cons rfl (.cons rfl (.cons rfl (.cons rfl (.cons rfl .nil)))))) (WkR.nil _)) rfl), rfl, rfl, rfl⟩
      · obtain ⟨u0, hu0, h⟩ := Option.bind_eq_some_iff.1 h
        obtain ⟨u1, hu1, h⟩ := Option.bind_eq_some_iff.1 h
        obtain ⟨u2, hu2, h⟩ := Option.bind_eq_some_iff.1 h
        obtain ⟨u3, hu3, h⟩ := Option.bind_eq_some_iff.1 h
        obtain ⟨u4, hu4, h⟩ := Option.bind_eq_some_iff.1 h
        obtain ⟨u5, hu5, h⟩ := Option.bind_eq_some_iff.1 h
        simp only [Option.some.injEq] at h
        subst h
        exact ⟨1, _, _, by decide, WkA.env WkA.nil 19, (wkR_sig (WkR.cons (cellsN_wk hu0 (.cons (lstOf_wk hu1) (.cons (lstOf_wk hu2) (.cons (lstOf_wk hu3) (.cons (intOf_wk hu4) (.cons (intOf_wk hu5) .nil)))))).1 (cellsN_wk hu0 (.cons (lstOf_wk hu1) (.cons (lstOf_wk hu2) (.cons (lstOf_wk hu3) (.cons (intOf_wk hu4) (.cons (intOf_wk hu5) .nil)))))).2 (renL_mem (.cons rfl (.cons rfl (.cons rfl (.cons rfl (.cons rfl .nil)))))) (WkR.nil _)) rfl), rfl, rfl, rfl⟩
      · cases h
theorem l_slices_IndexFunc___string_string__2_ok (n : Nat) : LoopOk Try.prog (sp_slices_IndexFunc___string_string_ n) 1 19 code_l_slices_IndexFunc___string_string__2 := by
    intro R key E sg K r hk h
    rw [show Go.Eng.keyOf code_l_slices_IndexFunc___string_string__2 = some 2 from by kernel_rfl] at hk
    cases hk
    have h : l_slices_IndexFunc___string_string__2_S n R E sg K = some r := h
    unfold l_slices_IndexFunc___string_string__2_S at h
    obtain ⟨u0, hu0, h⟩ := Option.bind_eq_some_iff.1 h
    obtain ⟨u1, hu1, h⟩ := Option.bind_eq_some_iff.1 h
    obtain ⟨u2, hu2, h⟩ := Option.bind_eq_some_iff.1 h
    obtain ⟨u3, hu3, h⟩ := Option.bind_eq_some_iff.1 h
    obtain ⟨u4, hu4, h⟩ := Option.bind_eq_some_iff.1 h
    obtain ⟨u5, hu5, h⟩ := Option.bind_eq_some_iff.1 h
    obtain ⟨u6, hu6, h⟩ := Option.bind_eq_some_iff.1 h
    obtain ⟨u7, hu7, h⟩ := Option.bind_eq_some_iff.1 h
    obtain ⟨u8, hu8, h⟩ := Option.bind_eq_some_iff.1 h
    obtain ⟨u9, hu9, h⟩ := Option.bind_eq_some_iff.1 h
    obtain ⟨u10, hu10, h⟩ := Option.bind_eq_some_iff.1 h
    obtain ⟨x, hx, h⟩ := Option.bind_eq_some_iff.1 h
    refine (SemL.pre (k := 1) (by decide) (WkA.env (WkA.cons (lstOf_wk hu0) rfl (WkA.cons (fnN_wk hu1 (.cons (ptrOf_wk hu2) .nil)) rfl (WkA.cons (intOf_wk hu3) rfl (WkA.cons (intOf_wk hu4) rfl WkA.nil)))) 19) (wkR_sig (WkR.cons (cellsN_wk hu5 (.cons (lstOf_wk hu6) (.cons (lstOf_wk hu7) (.cons (lstOf_wk hu8) (.cons (intOf_wk hu9) (.cons (intOf_wk hu10) .nil)))))).1 (cellsN_wk hu5 (.cons (lstOf_wk hu6) (.cons (lstOf_wk hu7) (.cons (lstOf_wk hu8) (.cons (intOf_wk hu9) (.cons (intOf_wk hu10) .nil)))))).2 (renL_mem (.cons rfl (.cons rfl (.cons rfl (.cons rfl (.cons rfl .nil)))))) (WkR.nil _)) rfl) (l_slices_IndexFunc___string_string__2_run n n _ _ _ _ _ _ _ _ x hx)).mono ?_
    intro ex e s hq
    rcases x with x | x <;> (obtain ⟨rfl, rfl, rfl⟩ := hq; exact ⟨_, rfl, h⟩) -- 5
def K_slices_IndexFunc___string_string_ (v : V) (s : Sig) : Option (Int × (List T) × (List T) × (List T) × Int × Int) := Option.bind (V.intOf .i64 v) fun u0 => Option.bind (cellsN 5 s 0) fun g0 => Option.bind (V.lstOf (g0.getD 0 .any)) fun g1 => Option.bind (V.lstOf (g0.getD 1 .any)) fun g2 => Option.bind (V.lstOf (g0.getD 2 .any)) fun g3 => Option.bind (V.intOf .i64 (g0.getD 3 .any)) fun g4 => Option.bind (V.intOf .i64 (g0.getD 4 .any)) fun g5 => some (u0, g1, g2, g3, g4, g5)
theorem K_slices_IndexFunc___string_string__wk {v : V} {s : Sig} {r : Int × (List T) × (List T) × (List T) × Int × Int} (h : K_slices_IndexFunc___string_string_ v s = some r) : Wk v (enc_slices_IndexFunc___string_string_ r) ∧ WkS 1 s (encS_slices_IndexFunc___string_string_ r) := by
  unfold K_slices_IndexFunc___string_string_ at h
  obtain ⟨u0, hu0, h⟩ := Option.bind_eq_some_iff.1 h
  obtain ⟨g0, hg0, h⟩ := Option.bind_eq_some_iff.1 h
  obtain ⟨g1, hg1, h⟩ := Option.bind_eq_some_iff.1 h
  obtain ⟨g2, hg2, h⟩ := Option.bind_eq_some_iff.1 h
  obtain ⟨g3, hg3, h⟩ := Option.bind_eq_some_iff.1 h
  obtain ⟨g4, hg4, h⟩ := Option.bind_eq_some_iff.1 h
  obtain ⟨g5, hg5, h⟩ := Option.bind_eq_some_iff.1 h
  simp only [Option.some.injEq] at h
  subst h
  exact ⟨(intOf_wk hu0), (wkR_sig (WkR.cons (cellsN_wk hg0 (.cons (lstOf_wk hg1) (.cons (lstOf_wk hg2) (.cons (lstOf_wk hg3) (.cons (intOf_wk hg4) (.cons (intOf_wk hg5) .nil)))))).1 (cellsN_wk hg0 (.cons (lstOf_wk hg1) (.cons (lstOf_wk hg2) (.cons (lstOf_wk hg3) (.cons (intOf_wk hg4) (.cons (intOf_wk hg5) .nil)))))).2 (renL_mem (.cons rfl (.cons rfl (.cons rfl (.cons rfl (.cons rfl .nil)))))) (WkR.nil _)) rfl)⟩
theorem m_slices_IndexFunc___string_string__eq (n : Nat) (a0 : List T) (a1 : List T) (a2 : List T) (a3 : List T) (a4 : Int) (a5 : Int) : mF Try.prog (sp_slices_IndexFunc___string_string_ n) 23 [(V.t (T.list a0)), (V.fn 14 [(V.ptr 0 0)])] [some [(V.t (T.list a1)), (V.t (T.list a2)), (V.t (T.list a3)), (V.t (T.sc (.int .i64 a4))), (V.t (T.sc (.int .i64 a5)))]] K_slices_IndexFunc___string_string_ = m_slices_IndexFunc___string_string_ n a0 a1 a2 a3 a4 a5 := by kernel_rfl
theorem m_slices_IndexFunc___string_string__ok (n : Nat) : ok_slices_IndexFunc___string_string_ (m_slices_IndexFunc___string_string_ n) := fun a0 a1 a2 a3 a4 a5 r h => mF_ok sound (sp_slices_IndexFunc___string_string__ok n) code_slices_IndexFunc___string_string__fn code_slices_IndexFunc___string_string__body (forall_getD (d := .skip) 1 (by kernel_rfl) (fun i hi => match i, hi with | 0, _ => l_slices_IndexFunc___string_string__2_ok n | i + 1, hi => absurd hi (by omega))) ((m_slices_IndexFunc___string_string__eq n a0 a1 a2 a3 a4 a5).trans h) (fun v s hk => ⟨(K_slices_IndexFunc___string_string__wk hk).1, rfl, (K_slices_IndexFunc___string_string__wk hk).2⟩)


/-! slices.ContainsFunc[[]string,string] -/
def m_slices_ContainsFunc___string_string_ (n : Nat) (a0 : List T) (a1 : List T) (a2 : List T) (a3 : List T) (a4 : Int) (a5 : Int) : Option (Bool × (List T) × (List T) × (List T) × Int × Int) :=
Option.bind (m_slices_IndexFunc___string_string_ n a0 a1 a2 a3 a4 a5) fun r0 =>
some ((decide ((r0.1 : Int) ≥ 0)), r0.2.1, r0.2.2.1, r0.2.2.2.1, r0.2.2.2.2.1, r0.2.2.2.2.2)
def enc_slices_ContainsFunc___string_string_ (r : Bool × (List T) × (List T) × (List T) × Int × Int) : V := (V.t (T.sc (.bool r.1)))
def encS_slices_ContainsFunc___string_string_ (r : Bool × (List T) × (List T) × (List T) × Int × Int) : Sig := [some [(V.t (T.list r.2.1)), (V.t (T.list r.2.2.1)), (V.t (T.list r.2.2.2.1)), (V.t (T.sc (.int .i64 r.2.2.2.2.1))), (V.t (T.sc (.int .i64 r.2.2.2.2.2)))]]
def ok_slices_ContainsFunc___string_string_ (m : List T → List T → List T → List T → Int → Int → Option (Bool × (List T) × (List T) × (List T) × Int × Int)) : Prop := ∀ (a0 : List T) (a1 : List T) (a2 : List T) (a3 : List T) (a4 : Int) (a5 : Int) (r : Bool × (List T) × (List T) × (List T) × Int × Int), m a0 a1 a2 a3 a4 a5 = some r → FuncOk Try.prog 13 [(V.t (T.list a0)), (V.fn 14 [(V.ptr 0 0)])] [some [(V.t (T.list a1)), (V.t (T.list a2)), (V.t (T.list a3)), (V.t (T.sc (.int .i64 a4))), (V.t (T.sc (.int .i64 a5)))]] (enc_slices_ContainsFunc___string_string_ r) (encS_slices_ContainsFunc___string_string_ r)
def c_slices_ContainsFunc___string_string_ (m : List T → List T → List T → List T → Int → Int → Option (Bool × (List T) × (List T) × (List T) × Int × Int)) (vs : List V) (sg : Sig) : Option CallM := bif Nat.beq vs.length 2 && Nat.beq sg.length 1 then Option.bind (V.lstOf (vs.getD 0 .any)) fun u0 => Option.bind (V.fnN 14 1 (vs.getD 1 .any)) fun u1 => Option.bind (V.ptrOf 0 0 (u1.getD 0 .any)) fun u2 => Option.bind (cellsN 5 sg 0) fun g0 => Option.bind (V.lstOf (g0.getD 0 .any)) fun g1 => Option.bind (V.lstOf (g0.getD 1 .any)) fun g2 => Option.bind (V.lstOf (g0.getD 2 .any)) fun g3 => Option.bind (V.intOf .i64 (g0.getD 3 .any)) fun g4 => Option.bind (V.intOf .i64 (g0.getD 4 .any)) fun g5 => some { α := Bool × (List T) × (List T) × (List T) × Int × Int, m := m u0 g1 g2 g3 g4 g5, dflt := (false, [], [], [], 0, 0), enc := fun y => ((V.t (T.sc (.bool y.1))), [some [(V.t (T.list y.2.1)), (V.t (T.list y.2.2.1)), (V.t (T.list y.2.2.2.1)), (V.t (T.sc (.int .i64 y.2.2.2.2.1))), (V.t (T.sc (.int .i64 y.2.2.2.2.2)))]]) } else none
theorem c_slices_ContainsFunc___string_string__ok (m : List T → List T → List T → List T → Int → Int → Option (Bool × (List T) × (List T) × (List T) × Int × Int)) (hm : ok_slices_ContainsFunc___string_string_ m) (vs : List V) (sg : Sig) (cm : CallM) (x : cm.α) (h : c_slices_ContainsFunc___string_string_ m vs sg = some cm) (hx : cm.m = some x) : FuncOk Try.prog 13 vs sg (cm.enc x).1 (cm.enc x).2 := by
  unfold c_slices_ContainsFunc___string_string_ at h
  have h0 := callee_sig h
  clear h
  obtain ⟨hl, hs, h⟩ := h0
  obtain ⟨u0, hu0, h⟩ := Option.bind_eq_some_iff.1 h
  obtain ⟨u1, hu1, h⟩ := Option.bind_eq_some_iff.1 h
  obtain ⟨u2, hu2, h⟩ := Option.bind_eq_some_iff.1 h
  obtain ⟨g0, hg0, h⟩ := Option.bind_eq_some_iff.1 h
  obtain ⟨g1, hg1, h⟩ := Option.bind_eq_some_iff.1 h
  obtain ⟨g2, hg2, h⟩ := Option.bind_eq_some_iff.1 h
  obtain ⟨g3, hg3, h⟩ := Option.bind_eq_some_iff.1 h
  obtain ⟨g4, hg4, h⟩ := Option.bind_eq_some_iff.1 h
  obtain ⟨g5, hg5, h⟩ := Option.bind_eq_some_iff.1 h
  simp only [Option.some.injEq] at h
  subst h
  exact (hm u0 g1 g2 g3 g4 g5 x hx).wk (args_wk hl (.cons (lstOf_wk hu0) (.cons (fnN_wk hu1 (.cons (ptrOf_wk hu2) .nil)) .nil))) (wkSg_of hs (.cons (cellsN_wk hg0 (.cons (lstOf_wk hg1) (.cons (lstOf_wk hg2) (.cons (lstOf_wk hg3) (.cons (intOf_wk hg4) (.cons (intOf_wk hg5) .nil)))))) .nil))
noncomputable def code_slices_ContainsFunc___string_string_ : Code := Try.f13.body.getD .skip
noncomputable def sp_slices_ContainsFunc___string_string_ (n : Nat) : Go.Eng.Spec := ⟨fun f vs sg => (match f with
    | 23 => c_slices_IndexFunc___string_string_ (m_slices_IndexFunc___string_string_ n) vs sg
    | _ => none), fun R key E sg K => (match key with
    | _ => none)⟩
theorem sp_slices_ContainsFunc___string_string__ok (n : Nat) : CallsOk Try.prog (sp_slices_ContainsFunc___string_string_ n) := by
  intro f vs sg cm x h hx
  simp only [sp_slices_ContainsFunc___string_string_] at h
  split at h
  · exact c_slices_IndexFunc___string_string__ok _ (m_slices_IndexFunc___string_string__ok n) vs sg cm x h hx
  · cases h
theorem code_slices_ContainsFunc___string_string__fn : Try.prog.funcs[13]? = some Try.f13 := Try.func13
theorem code_slices_ContainsFunc___string_string__body : Try.f13.body = some code_slices_ContainsFunc___string_string_ := by kernel_rfl
theorem code_slices_ContainsFunc___string_string__ok : CodeOk Try.prog code_slices_ContainsFunc___string_string_ := (sound 13 _ _ code_slices_ContainsFunc___string_string__fn code_slices_ContainsFunc___string_string__body).1
def K_slices_ContainsFunc___string_string_ (v : V) (s : Sig) : Option (Bool × (List T) × (List T) × (List T) × Int × Int) := Option.bind (V.boolOf v) fun u0 => Option.bind (cellsN 5 s 0) fun g0 => Option.bind (V.lstOf (g0.getD 0 .any)) fun g1 => Option.bind (V.lstOf (g0.getD 1 .any)) fun g2 => Option.bind (V.lstOf (g0.getD 2 .any)) fun g3 => Option.bind (V.intOf .i64 (g0.getD 3 .any)) fun g4 => Option.bind (V.intOf .i64 (g0.getD 4 .any)) fun g5 => some (u0, g1, g2, g3, g4, g5)
theorem K_slices_ContainsFunc___string_string__wk {v : V} {s : Sig} {r : Bool × (List T) × (List T) × (List T) × Int × Int} (h : K_slices_ContainsFunc___string_string_ v s = some r) : Wk v (enc_slices_ContainsFunc___string_string_ r) ∧ WkS 1 s (encS_slices_ContainsFunc___string_string_ r) := by
  unfold K_slices_ContainsFunc___string_string_ at h
  obtain ⟨u0, hu0, h⟩ := Option.bind_eq_some_iff.1 h
  obtain ⟨g0, hg0, h⟩ := Option.bind_eq_some_iff.1 h
  obtain ⟨g1, hg1, h⟩ := Option.bind_eq_some_iff.1 h
  obtain ⟨g2, hg2, h⟩ := Option.bind_eq_some_iff.1 h
  obtain ⟨g3, hg3, h⟩ := Option.bind_eq_some_iff.1 h
  obtain ⟨g4, hg4, h⟩ := Option.bind_eq_some_iff.1 h
  obtain ⟨g5, hg5, h⟩ := Option.bind_eq_some_iff.1 h
  simp only [Option.some.injEq] at h
  subst h
  exact ⟨(boolOf_wk hu0), (wkR_sig (WkR.cons (cellsN_wk hg0 (.cons (lstOf_wk hg1) (.cons (lstOf_wk hg2) (.cons (lstOf_wk hg3) (.cons (intOf_wk hg4) (.cons (intOf_wk hg5) .nil)))))).1 (cellsN_wk hg0 (.cons (lstOf_wk hg1) (.cons (lstOf_wk hg2) (.cons (lstOf_wk hg3) (.cons (intOf_wk hg4) (.cons (intOf_wk hg5) .nil)))))).2 (renL_mem (.cons rfl (.cons rfl (.cons rfl (.cons rfl (.cons rfl .nil)))))) (WkR.nil _)) rfl)⟩
theorem m_slices_ContainsFunc___string_string__eq (n : Nat) (a0 : List T) (a1 : List T) (a2 : List T) (a3 : List T) (a4 : Int) (a5 : Int) : mF Try.prog (sp_slices_ContainsFunc___string_string_ n) 13 [(V.t (T.list a0)), (V.fn 14 [(V.ptr 0 0)])] [some [(V.t (T.list a1)), (V.t (T.list a2)), (V.t (T.list a3)), (V.t (T.sc (.int .i64 a4))), (V.t (T.sc (.int .i64 a5)))]] K_slices_ContainsFunc___string_string_ = m_slices_ContainsFunc___string_string_ n a0 a1 a2 a3 a4 a5 := by kernel_rfl
theorem m_slices_ContainsFunc___string_string__ok (n : Nat) : ok_slices_ContainsFunc___string_string_ (m_slices_ContainsFunc___string_string_ n) := fun a0 a1 a2 a3 a4 a5 r h => mF_ok sound (sp_slices_ContainsFunc___string_string__ok n) code_slices_ContainsFunc___string_string__fn code_slices_ContainsFunc___string_string__body (fun a ha => absurd ha (by rw [show loopsOf code_slices_ContainsFunc___string_string_ = [] from by kernel_rfl]; simp)) ((m_slices_ContainsFunc___string_string__eq n a0 a1 a2 a3 a4 a5).trans h) (fun v s hk => ⟨(K_slices_ContainsFunc___string_string__wk hk).1, rfl, (K_slices_ContainsFunc___string_string__wk hk).2⟩)


/-! cmp.isNaN[int] -/
def m_cmp_isNaN_int_ (n : Nat) (a0 : Int) : Option (Bool) :=
some ((a0 : Int) != a0)
def enc_cmp_isNaN_int_ (r : Bool) : V := (V.t (T.sc (.bool r)))
def encS_cmp_isNaN_int_ (r : Bool) : Sig := []
def ok_cmp_isNaN_int_ (m : Int → Option (Bool)) : Prop := ∀ (a0 : Int) (r : Bool), m a0 = some r → FuncOk Try.prog 32 [(V.t (T.sc (.int .i64 a0)))] [] (enc_cmp_isNaN_int_ r) (encS_cmp_isNaN_int_ r)
def c_cmp_isNaN_int_ (m : Int → Option (Bool)) (vs : List V) (sg : Sig) : Option CallM := bif Nat.beq vs.length 1 && Nat.beq sg.length 0 then Option.bind (V.intOf .i64 (vs.getD 0 .any)) fun u0 => some { α := Bool, m := m u0, dflt := false, enc := fun y => ((V.t (T.sc (.bool y))), []) } else none
theorem c_cmp_isNaN_int__ok (m : Int → Option (Bool)) (hm : ok_cmp_isNaN_int_ m) (vs : List V) (sg : Sig) (cm : CallM) (x : cm.α) (h : c_cmp_isNaN_int_ m vs sg = some cm) (hx : cm.m = some x) : FuncOk Try.prog 32 vs sg (cm.enc x).1 (cm.enc x).2 := by
  unfold c_cmp_isNaN_int_ at h
  have h0 := callee_sig h
  clear h
  obtain ⟨hl, hs, h⟩ := h0
  obtain ⟨u0, hu0, h⟩ := Option.bind_eq_some_iff.1 h
  simp only [Option.some.injEq] at h
  subst h
  exact (hm u0 x hx).wk (args_wk hl (.cons (intOf_wk hu0) .nil)) (wkSg_of hs .nil)
noncomputable def code_cmp_isNaN_int_ : Code := Try.f32.body.getD .skip
noncomputable def sp_cmp_isNaN_int_ (n : Nat) : Go.Eng.Spec := ⟨fun f vs sg => (match f with
    | _ => none), fun R key E sg K => (match key with
    | _ => none)⟩
theorem sp_cmp_isNaN_int__ok (n : Nat) : CallsOk Try.prog (sp_cmp_isNaN_int_ n) := by
  intro f vs sg cm x h hx
  have h : (none : Option CallM) = some cm := h
  cases h
theorem code_cmp_isNaN_int__fn : Try.prog.funcs[32]? = some Try.f32 := Try.func32
theorem code_cmp_isNaN_int__body : Try.f32.body = some code_cmp_isNaN_int_ := by kernel_rfl
theorem code_cmp_isNaN_int__ok : CodeOk Try.prog code_cmp_isNaN_int_ := (sound 32 _ _ code_cmp_isNaN_int__fn code_cmp_isNaN_int__body).1
def K_cmp_isNaN_int_ (v : V) (s : Sig) : Option (Bool) := Option.bind (V.boolOf v) fun u0 => some u0
theorem K_cmp_isNaN_int__wk {v : V} {s : Sig} {r : Bool} (h : K_cmp_isNaN_int_ v s = some r) : Wk v (enc_cmp_isNaN_int_ r) ∧ WkS 0 s (encS_cmp_isNaN_int_ r) := by
  unfold K_cmp_isNaN_int_ at h
  obtain ⟨u0, hu0, h⟩ := Option.bind_eq_some_iff.1 h
  simp only [Option.some.injEq] at h
  subst h
  exact ⟨(boolOf_wk hu0), (WkS.none _)⟩
theorem m_cmp_isNaN_int__eq (n : Nat) (a0 : Int) : mF Try.prog (sp_cmp_isNaN_int_ n) 32 [(V.t (T.sc (.int .i64 a0)))] [] K_cmp_isNaN_int_ = m_cmp_isNaN_int_ n a0 := by kernel_rfl
theorem m_cmp_isNaN_int__ok (n : Nat) : ok_cmp_isNaN_int_ (m_cmp_isNaN_int_ n) := fun a0 r h => mF_ok sound (sp_cmp_isNaN_int__ok n) code_cmp_isNaN_int__fn code_cmp_isNaN_int__body (fun a ha => absurd ha (by rw [show loopsOf code_cmp_isNaN_int_ = [] from by kernel_rfl]; simp)) ((m_cmp_isNaN_int__eq n a0).trans h) (fun v s hk => ⟨(K_cmp_isNaN_int__wk hk).1, rfl, (K_cmp_isNaN_int__wk hk).2⟩)


/-! cmp.Compare[int] -/
def m_cmp_Compare_int_ (n : Nat) (a0 : Int) (a1 : Int) : Option (Int) :=
Option.bind (m_cmp_isNaN_int_ n a0) fun r0 =>
Option.bind (m_cmp_isNaN_int_ n a1) fun r1 =>
bif r0 then (
bif r1 then (
some 0)
else (
some (-1)))
else (
bif r1 then (
some 1)
else (
bif (decide ((a0 : Int) < a1)) then (
some (-1))
else (
bif (decide ((a0 : Int) > a1)) then (
some 1)
else (
some 0))))
def enc_cmp_Compare_int_ (r : Int) : V := (V.t (T.sc (.int .i64 r)))
def encS_cmp_Compare_int_ (r : Int) : Sig := []
def ok_cmp_Compare_int_ (m : Int → Int → Option (Int)) : Prop := ∀ (a0 : Int) (a1 : Int) (r : Int), m a0 a1 = some r → FuncOk Try.prog 31 [(V.t (T.sc (.int .i64 a0))), (V.t (T.sc (.int .i64 a1)))] [] (enc_cmp_Compare_int_ r) (encS_cmp_Compare_int_ r)
def c_cmp_Compare_int_ (m : Int → Int → Option (Int)) (vs : List V) (sg : Sig) : Option CallM := bif Nat.beq vs.length 2 && Nat.beq sg.length 0 then Option.bind (V.intOf .i64 (vs.getD 0 .any)) fun u0 => Option.bind (V.intOf .i64 (vs.getD 1 .any)) fun u1 => some { α := Int, m := m u0 u1, dflt := 0, enc := fun y => ((V.t (T.sc (.int .i64 y))), []) } else none
theorem c_cmp_Compare_int__ok (m : Int → Int → Option (Int)) (hm : ok_cmp_Compare_int_ m) (vs : List V) (sg : Sig) (cm : CallM) (x : cm.α) (h : c_cmp_Compare_int_ m vs sg = some cm) (hx : cm.m = some x) : FuncOk Try.prog 31 vs sg (cm.enc x).1 (cm.enc x).2 := by
  unfold c_cmp_Compare_int_ at h
  have h0 := callee_sig h
  clear h
  obtain ⟨hl, hs, h⟩ := h0
  obtain ⟨u0, hu0, h⟩ := Option.bind_eq_some_iff.1 h
  obtain ⟨u1, hu1, h⟩ := Option.bind_eq_some_iff.1 h
  simp only [Option.some.injEq] at h
  subst h
  exact (hm u0 u1 x hx).wk (args_wk hl (.cons (intOf_wk hu0) (.cons (intOf_wk hu1) .nil))) (wkSg_of hs .nil)
noncomputable def code_cmp_Compare_int_ : Code := Try.f31.body.getD .skip
noncomputable def sp_cmp_Compare_int_ (n : Nat) : Go.Eng.Spec := ⟨fun f vs sg => (match f with
    | 32 => c_cmp_isNaN_int_ (m_cmp_isNaN_int_ n) vs sg
    | _ => none), fun R key E sg K => (match key with
    | _ => none)⟩
theorem sp_cmp_Compare_int__ok (n : Nat) : CallsOk Try.prog (sp_cmp_Compare_int_ n) := by
  intro f vs sg cm x h hx
  simp only [sp_cmp_Compare_int_] at h
  split at h
  · exact c_cmp_isNaN_int__ok _ (m_cmp_isNaN_int__ok n) vs sg cm x h hx
  · cases h
theorem code_cmp_Compare_int__fn : Try.prog.funcs[31]? = some Try.f31 := Try.func31
theorem code_cmp_Compare_int__body : Try.f31.body = some code_cmp_Compare_int_ := by kernel_rfl
theorem code_cmp_Compare_int__ok : CodeOk Try.prog code_cmp_Compare_int_ := (sound 31 _ _ code_cmp_Compare_int__fn code_cmp_Compare_int__body).1
def K_cmp_Compare_int_ (v : V) (s : Sig) : Option (Int) := Option.bind (V.intOf .i64 v) fun u0 => some u0
theorem K_cmp_Compare_int__wk {v : V} {s : Sig} {r : Int} (h : K_cmp_Compare_int_ v s = some r) : Wk v (enc_cmp_Compare_int_ r) ∧ WkS 0 s (encS_cmp_Compare_int_ r) := by
  unfold K_cmp_Compare_int_ at h
  obtain ⟨u0, hu0, h⟩ := Option.bind_eq_some_iff.1 h
  simp only [Option.some.injEq] at h
  subst h
  exact ⟨(intOf_wk hu0), (WkS.none _)⟩
theorem m_cmp_Compare_int__eq (n : Nat) (a0 : Int) (a1 : Int) : mF Try.prog (sp_cmp_Compare_int_ n) 31 [(V.t (T.sc (.int .i64 a0))), (V.t (T.sc (.int .i64 a1)))] [] K_cmp_Compare_int_ = m_cmp_Compare_int_ n a0 a1 := by kernel_rfl
theorem m_cmp_Compare_int__ok (n : Nat) : ok_cmp_Compare_int_ (m_cmp_Compare_int_ n) := fun a0 a1 r h => mF_ok sound (sp_cmp_Compare_int__ok n) code_cmp_Compare_int__fn code_cmp_Compare_int__body (fun a ha => absurd ha (by rw [show loopsOf code_cmp_Compare_int_ = [] from by kernel_rfl]; simp)) ((m_cmp_Compare_int__eq n a0 a1).trans h) (fun v s hk => ⟨(K_cmp_Compare_int__wk hk).1, rfl, (K_cmp_Compare_int__wk hk).2⟩)


/-! slices.Compare[[]int,int] -/
def l_slices_Compare___int_int__2_B (n : Nat) (k : (List T) × (List T) × (List T) × Int × Int → Option (((Int) ⊕ (List T) × (List T)))) : (List T) × (List T) × (List T) × Int × Int → Option (((Int) ⊕ (List T) × (List T))) := fun (s0, s1, s2, s3, s4) =>
bif (decide ((s4 : Int) < s3)) then (
Option.bind (idx true [.int .i64] s2 s4) fun y0 =>
bif (decide ((s4 : Int) ≥ ((List.length s1 : Nat) : Int))) then (
some (Sum.inl 1))
else (
Option.bind (idx true [.int .i64] s1 s4) fun y1 =>
Option.bind (m_cmp_Compare_int_ n (y0.cell 0).int (y1.cell 0).int) fun r2 =>
bif ((r2 : Int) != 0) then (
some (Sum.inl r2))
else (
k (s0, s1, s2, s3, (IntKind.wrap .i64 (s4 + 1))))))
else (
some (Sum.inr (s0, s1)))
def l_slices_Compare___int_int__2 (n : Nat) : Nat → (List T) × (List T) × (List T) × Int × Int → Option (((Int) ⊕ (List T) × (List T)))
  | 0, _ => none
  | m + 1, s => l_slices_Compare___int_int__2_B n (l_slices_Compare___int_int__2 n m) s
def m_slices_Compare___int_int_ (n : Nat) (a0 : List T) (a1 : List T) : Option (Int) :=
Option.bind (l_slices_Compare___int_int__2 n n (a0, a1, a0, ((List.length a0 : Nat) : Int), 0)) fun x3 =>
Sum.elim (fun p4 => 
some p4) (fun x3' => (fun p5 => 
bif (decide ((((List.length p5.1 : Nat) : Int) : Int) < ((List.length p5.2 : Nat) : Int))) then (
some (-1))
else (
some 0)) x3') x3
def enc_slices_Compare___int_int_ (r : Int) : V := (V.t (T.sc (.int .i64 r)))
def encS_slices_Compare___int_int_ (r : Int) : Sig := []
def ok_slices_Compare___int_int_ (m : List T → List T → Option (Int)) : Prop := ∀ (a0 : List T) (a1 : List T) (r : Int), m a0 a1 = some r → FuncOk Try.prog 30 [(V.t (T.list a0)), (V.t (T.list a1))] [] (enc_slices_Compare___int_int_ r) (encS_slices_Compare___int_int_ r)
def c_slices_Compare___int_int_ (m : List T → List T → Option (Int)) (vs : List V) (sg : Sig) : Option CallM := bif Nat.beq vs.length 2 && Nat.beq sg.length 0 then Option.bind (V.lstOf (vs.getD 0 .any)) fun u0 => Option.bind (V.lstOf (vs.getD 1 .any)) fun u1 => some { α := Int, m := m u0 u1, dflt := 0, enc := fun y => ((V.t (T.sc (.int .i64 y))), []) } else none
theorem c_slices_Compare___int_int__ok (m : List T → List T → Option (Int)) (hm : ok_slices_Compare___int_int_ m) (vs : List V) (sg : Sig) (cm : CallM) (x : cm.α) (h : c_slices_Compare___int_int_ m vs sg = some cm) (hx : cm.m = some x) : FuncOk Try.prog 30 vs sg (cm.enc x).1 (cm.enc x).2 := by
  unfold c_slices_Compare___int_int_ at h
  have h0 := callee_sig h
  clear h
  obtain ⟨hl, hs, h⟩ := h0
  obtain ⟨u0, hu0, h⟩ := Option.bind_eq_some_iff.1 h
  obtain ⟨u1, hu1, h⟩ := Option.bind_eq_some_iff.1 h
  simp only [Option.some.injEq] at h
  subst h
  exact (hm u0 u1 x hx).wk (args_wk hl (.cons (lstOf_wk hu0) (.cons (lstOf_wk hu1) .nil))) (wkSg_of hs .nil)
noncomputable def code_slices_Compare___int_int_ : Code := Try.f30.body.getD .skip
def l_slices_Compare___int_int__2_S (n : Nat) (R : Type) (E : SEnv) (sg : Sig) (K : Ex → SEnv → Sig → Option R) : Option R := Option.bind (V.lstOf (SEnv.at E 0)) fun u0 => Option.bind (V.lstOf (SEnv.at E 1)) fun u1 => Option.bind (V.lstOf (SEnv.at E 9)) fun u2 => Option.bind (V.intOf .i64 (SEnv.at E 10)) fun u3 => Option.bind (V.intOf .i64 (SEnv.at E 11)) fun u4 => Option.bind (l_slices_Compare___int_int__2 n n (u0, u1, u2, u3, u4)) fun y => Sum.elim (fun p0 => K .ret [(4, (V.t (T.sc (.int .i64 p0))))] []) (fun y' => (fun p1 => K (.exit 0) [(0, (V.t (T.list p1.1))), (1, (V.t (T.list p1.2)))] []) y') y
noncomputable def sp_slices_Compare___int_int_ (n : Nat) : Go.Eng.Spec := ⟨fun f vs sg => (match f with
    | 31 => c_cmp_Compare_int_ (m_cmp_Compare_int_ n) vs sg
    | _ => none), fun R key E sg K => (match key with
    | 2 => l_slices_Compare___int_int__2_S n R E sg K
    | _ => none)⟩
theorem sp_slices_Compare___int_int__ok (n : Nat) : CallsOk Try.prog (sp_slices_Compare___int_int_ n) := by
  intro f vs sg cm x h hx
  simp only [sp_slices_Compare___int_int_] at h
  split at h
  · exact c_cmp_Compare_int__ok _ (m_cmp_Compare_int__ok n) vs sg cm x h hx
  · cases h
theorem code_slices_Compare___int_int__fn : Try.prog.funcs[30]? = some Try.f30 := Try.func30
theorem code_slices_Compare___int_int__body : Try.f30.body = some code_slices_Compare___int_int_ := by kernel_rfl
theorem code_slices_Compare___int_int__ok : CodeOk Try.prog code_slices_Compare___int_int_ := (sound 30 _ _ code_slices_Compare___int_int__fn code_slices_Compare___int_int__body).1
noncomputable def code_l_slices_Compare___int_int__2 : Code := (loopsOf code_slices_Compare___int_int_).getD 0 .skip
theorem code_l_slices_Compare___int_int__2_ok : CodeOk Try.prog code_l_slices_Compare___int_int__2 := codeOk_loops code_slices_Compare___int_int__ok _ (getD_mem (by kernel_rfl))
def l_slices_Compare___int_int__2_K (k : (List T) × (List T) × (List T) × Int × Int → Option (((Int) ⊕ (List T) × (List T)))) : Ex → SEnv → Sig → Option (((Int) ⊕ (List T) × (List T))) := fun x E sg => match x with
  | .normal => Option.bind (V.lstOf (SEnv.at E 0)) fun u0 => Option.bind (V.lstOf (SEnv.at E 1)) fun u1 => Option.bind (V.lstOf (SEnv.at E 9)) fun u2 => Option.bind (V.intOf .i64 (SEnv.at E 10)) fun u3 => Option.bind (V.intOf .i64 (SEnv.at E 11)) fun u4 => k (u0, u1, u2, u3, u4)
  | .ret => Option.bind (V.intOf .i64 (SEnv.at E 4)) fun u0 => some (Sum.inl u0)
  | (.exit 0) => Option.bind (V.lstOf (SEnv.at E 0)) fun u0 => Option.bind (V.lstOf (SEnv.at E 1)) fun u1 => some (Sum.inr (u0, u1))
  | _ => none
theorem l_slices_Compare___int_int__2_eq (n : Nat) (k : (List T) × (List T) × (List T) × Int × Int → Option (((Int) ⊕ (List T) × (List T)))) (s0 : List T) (s1 : List T) (s2 : List T) (s3 : Int) (s4 : Int) : mX Try.prog (sp_slices_Compare___int_int_ n) 36 code_l_slices_Compare___int_int__2 [(0, (V.t (T.list s0))), (1, (V.t (T.list s1))), (9, (V.t (T.list s2))), (10, (V.t (T.sc (.int .i64 s3)))), (11, (V.t (T.sc (.int .i64 s4))))] [] (l_slices_Compare___int_int__2_K k) = l_slices_Compare___int_int__2_B n k (s0, s1, s2, s3, s4) := by kernel_rfl
def l_slices_Compare___int_int__2_Q (x : ((Int) ⊕ (List T) × (List T))) (ex : Ex) (e : Env) (s : Sig) : Prop := Sum.elim (fun p0 => (ex = .ret ∧ e = SEnv.env 36 [(4, (V.t (T.sc (.int .i64 p0))))] ∧ s = [])) (fun x' => (fun p1 => (ex = (.exit 0) ∧ e = SEnv.env 36 [(0, (V.t (T.list p1.1))), (1, (V.t (T.list p1.2)))] ∧ s = [])) x') x
theorem l_slices_Compare___int_int__2_run (n : Nat) : ∀ (m : Nat) (s0 : List T) (s1 : List T) (s2 : List T) (s3 : Int) (s4 : Int) (x : ((Int) ⊕ (List T) × (List T))), l_slices_Compare___int_int__2 n m (s0, s1, s2, s3, s4) = some x → SemL Try.prog 0 code_l_slices_Compare___int_int__2 (SEnv.env 36 [(0, (V.t (T.list s0))), (1, (V.t (T.list s1))), (9, (V.t (T.list s2))), (10, (V.t (T.sc (.int .i64 s3)))), (11, (V.t (T.sc (.int .i64 s4))))]) [] (l_slices_Compare___int_int__2_Q x)
  | 0, s0, s1, s2, s3, s4, x, h => by cases h
  | m + 1, s0, s1, s2, s3, s4, x, h => by
    refine loop_step (sp_slices_Compare___int_int__ok n) code_l_slices_Compare___int_int__2_ok (fun a ha => absurd ha (by rw [show loopsOf code_l_slices_Compare___int_int__2 = [] from by kernel_rfl]; simp)) ((l_slices_Compare___int_int__2_eq n _ s0 s1 s2 s3 s4).trans h) (fun E sg h => ?_) (fun ex E sg hne h => ?_)
    · simp only [l_slices_Compare___int_int__2_K] at h
      obtain ⟨u0, hu0, h⟩ := Option.bind_eq_some_iff.1 h
      obtain ⟨u1, hu1, h⟩ := Option.bind_eq_some_iff.1 h
      obtain ⟨u2, hu2, h⟩ := Option.bind_eq_some_iff.1 h
      obtain ⟨u3, hu3, h⟩ := Option.bind_eq_some_iff.1 h
      obtain ⟨u4, hu4, h⟩ := Option.bind_eq_some_iff.1 h
      exact SemL.pre (k := 0) (by decide) (WkA.env (WkA.cons (lstOf_wk hu0) rfl (WkA.cons (lstOf_wk hu1) rfl (WkA.cons (lstOf_wk hu2) rfl (WkA.cons (intOf_wk hu3) rfl (WkA.cons (intOf_wk hu4) rfl WkA.nil))))) 36) (WkS.none _) (l_slices_Compare___int_int__2_run n m _ _ _ _ _ x h)
    · unfold l_slices_Compare___int_int__2_K at h
      split at h
      · exact absurd rfl hne
      · obtain ⟨u0, hu0, h⟩ := Option.bind_eq_some_iff.1 h
        simp only [Option.some.injEq] at h
        subst h
        exact ⟨0, _, _, by decide, WkA.env (WkA.cons (intOf_wk hu0) rfl WkA.nil) 36, (WkS.none _), rfl, rfl, rfl⟩
      · obtain ⟨u0, hu0, h⟩ := Option.bind_eq_some_iff.1 h
        obtain ⟨u1, hu1, h⟩ := Option.bind_eq_some_iff.1 h
        simp only [Option.some.injEq] at h
        subst h
        exact ⟨0, _, _, by decide, WkA.env (WkA.cons (lstOf_wk hu0) rfl (WkA.cons (lstOf_wk hu1) rfl WkA.nil)) 36, (WkS.none _), rfl, rfl, rfl⟩
      · cases h
theorem l_slices_Compare___int_int__2_ok (n : Nat) : LoopOk Try.prog (sp_slices_Compare___int_int_ n) 0 36 code_l_slices_Compare___int_int__2 := by
    intro R key E sg K r hk h
    rw [show Go.Eng.keyOf code_l_slices_Compare___int_int__2 = some 2 from by kernel_rfl] at hk
    cases hk
    have h : l_slices_Compare___int_int__2_S n R E sg K = some r := h
    unfold l_slices_Compare___int_int__2_S at h
    obtain ⟨u0, hu0, h⟩ := Option.bind_eq_some_iff.1 h
    obtain ⟨u1, hu1, h⟩ := Option.bind_eq_some_iff.1 h
    obtain ⟨u2, hu2, h⟩ := Option.bind_eq_some_iff.1 h
    obtain ⟨u3, hu3, h⟩ := Option.bind_eq_some_iff.1 h
    obtain ⟨u4, hu4, h⟩ := Option.bind_eq_some_iff.1 h
    obtain ⟨x, hx, h⟩ := Option.bind_eq_some_iff.1 h
    refine (SemL.pre (k := 0) (by decide) (WkA.env (WkA.cons (lstOf_wk hu0) rfl (WkA.cons (lstOf_wk hu1) rfl (WkA.cons (lstOf_wk hu2) rfl (WkA.cons (intOf_wk hu3) rfl (WkA.cons (intOf_wk hu4) rfl WkA.nil))))) 36) (WkS.none _) (l_slices_Compare___int_int__2_run n n _ _ _ _ _ x hx)).mono ?_
    intro ex e s hq
    rcases x with x | x <;> (obtain ⟨rfl, rfl, rfl⟩ := hq; exact ⟨_, rfl, h⟩) -- 5
def K_slices_Compare___int_int_ (v : V) (s : Sig) : Option (Int) := Option.bind (V.intOf .i64 v) fun u0 => some u0
theorem K_slices_Compare___int_int__wk {v : V} {s : Sig} {r : Int} (h : K_slices_Compare___int_int_ v s = some r) : Wk v (enc_slices_Compare___int_int_ r) ∧ WkS 0 s (encS_slices_Compare___int_int_ r) := by
  unfold K_slices_Compare___int_int_ at h
  obtain ⟨u0, hu0, h⟩ := Option.bind_eq_some_iff.1 h
  simp only [Option.some.injEq] at h
  subst h
  exact ⟨(intOf_wk hu0), (WkS.none _)⟩
theorem m_slices_Compare___int_int__eq (n : Nat) (a0 : List T) (a1 : List T) : mF Try.prog (sp_slices_Compare___int_int_ n) 30 [(V.t (T.list a0)), (V.t (T.list a1))] [] K_slices_Compare___int_int_ = m_slices_Compare___int_int_ n a0 a1 := by kernel_rfl
theorem m_slices_Compare___int_int__ok (n : Nat) : ok_slices_Compare___int_int_ (m_slices_Compare___int_int_ n) := fun a0 a1 r h => mF_ok sound (sp_slices_Compare___int_int__ok n) code_slices_Compare___int_int__fn code_slices_Compare___int_int__body (forall_getD (d := .skip) 1 (by kernel_rfl) (fun i hi => match i, hi with | 0, _ => l_slices_Compare___int_int__2_ok n | i + 1, hi => absurd hi (by omega))) ((m_slices_Compare___int_int__eq n a0 a1).trans h) (fun v s hk => ⟨(K_slices_Compare___int_int__wk hk).1, rfl, (K_slices_Compare___int_int__wk hk).2⟩)


/-! cmp.Or[int] -/
def l_cmp_Or_int__3_B (n : Nat) (k : Int × (List T) × Int × Int → Option (((Int) ⊕ Int))) : Int × (List T) × Int × Int → Option (((Int) ⊕ Int)) := fun (s0, s1, s2, s3) =>
bif (decide ((s3 : Int) < s2)) then (
Option.bind (idx true [.int .i64] s1 s3) fun y0 =>
bif (((y0.cell 0).int : Int) != s0) then (
some (Sum.inl (y0.cell 0).int))
else (
k (s0, s1, s2, (IntKind.wrap .i64 (s3 + 1)))))
else (
some (Sum.inr s0))
def l_cmp_Or_int__3 (n : Nat) : Nat → Int × (List T) × Int × Int → Option (((Int) ⊕ Int))
  | 0, _ => none
  | m + 1, s => l_cmp_Or_int__3_B n (l_cmp_Or_int__3 n m) s
def m_cmp_Or_int_ (n : Nat) (a0 : List T) : Option (Int) :=
Option.bind (l_cmp_Or_int__3 n n (0, a0, ((List.length a0 : Nat) : Int), 0)) fun x1 =>
Sum.elim (fun p2 => 
some p2) (fun x1' => (fun p3 => 
some p3) x1') x1
def enc_cmp_Or_int_ (r : Int) : V := (V.t (T.sc (.int .i64 r)))
def encS_cmp_Or_int_ (r : Int) : Sig := []
def ok_cmp_Or_int_ (m : List T → Option (Int)) : Prop := ∀ (a0 : List T) (r : Int), m a0 = some r → FuncOk Try.prog 29 [(V.t (T.list a0))] [] (enc_cmp_Or_int_ r) (encS_cmp_Or_int_ r)
def c_cmp_Or_int_ (m : List T → Option (Int)) (vs : List V) (sg : Sig) : Option CallM := bif Nat.beq vs.length 1 && Nat.beq sg.length 0 then Option.bind (V.lstOf (vs.getD 0 .any)) fun u0 => some { α := Int, m := m u0, dflt := 0, enc := fun y => ((V.t (T.sc (.int .i64 y))), []) } else none
theorem c_cmp_Or_int__ok (m : List T → Option (Int)) (hm : ok_cmp_Or_int_ m) (vs : List V) (sg : Sig) (cm : CallM) (x : cm.α) (h : c_cmp_Or_int_ m vs sg = some cm) (hx : cm.m = some x) : FuncOk Try.prog 29 vs sg (cm.enc x).1 (cm.enc x).2 := by
  unfold c_cmp_Or_int_ at h
  have h0 := callee_sig h
  clear h
  obtain ⟨hl, hs, h⟩ := h0
  obtain ⟨u0, hu0, h⟩ := Option.bind_eq_some_iff.1 h
  simp only [Option.some.injEq] at h
  subst h
  exact (hm u0 x hx).wk (args_wk hl (.cons (lstOf_wk hu0) .nil)) (wkSg_of hs .nil)
noncomputable def code_cmp_Or_int_ : Code := Try.f29.body.getD .skip
def l_cmp_Or_int__3_S (n : Nat) (R : Type) (E : SEnv) (sg : Sig) (K : Ex → SEnv → Sig → Option R) : Option R := Option.bind (V.intOf .i64 (SEnv.at E 3)) fun u0 => Option.bind (V.lstOf (SEnv.at E 6)) fun u1 => Option.bind (V.intOf .i64 (SEnv.at E 7)) fun u2 => Option.bind (V.intOf .i64 (SEnv.at E 8)) fun u3 => Option.bind (l_cmp_Or_int__3 n n (u0, u1, u2, u3)) fun y => Sum.elim (fun p0 => K .ret [(2, (V.t (T.sc (.int .i64 p0))))] []) (fun y' => (fun p1 => K (.exit 0) [(3, (V.t (T.sc (.int .i64 p1))))] []) y') y
noncomputable def sp_cmp_Or_int_ (n : Nat) : Go.Eng.Spec := ⟨fun f vs sg => (match f with
    | _ => none), fun R key E sg K => (match key with
    | 3 => l_cmp_Or_int__3_S n R E sg K
    | _ => none)⟩
theorem sp_cmp_Or_int__ok (n : Nat) : CallsOk Try.prog (sp_cmp_Or_int_ n) := by
  intro f vs sg cm x h hx
  have h : (none : Option CallM) = some cm := h
  cases h
theorem code_cmp_Or_int__fn : Try.prog.funcs[29]? = some Try.f29 := Try.func29
theorem code_cmp_Or_int__body : Try.f29.body = some code_cmp_Or_int_ := by kernel_rfl
theorem code_cmp_Or_int__ok : CodeOk Try.prog code_cmp_Or_int_ := (sound 29 _ _ code_cmp_Or_int__fn code_cmp_Or_int__body).1
noncomputable def code_l_cmp_Or_int__3 : Code := (loopsOf code_cmp_Or_int_).getD 0 .skip
theorem code_l_cmp_Or_int__3_ok : CodeOk Try.prog code_l_cmp_Or_int__3 := codeOk_loops code_cmp_Or_int__ok _ (getD_mem (by kernel_rfl))
def l_cmp_Or_int__3_K (k : Int × (List T) × Int × Int → Option (((Int) ⊕ Int))) : Ex → SEnv → Sig → Option (((Int) ⊕ Int)) := fun x E sg => match x with
  | .normal => Option.bind (V.intOf .i64 (SEnv.at E 3)) fun u0 => Option.bind (V.lstOf (SEnv.at E 6)) fun u1 => Option.bind (V.intOf .i64 (SEnv.at E 7)) fun u2 => Option.bind (V.intOf .i64 (SEnv.at E 8)) fun u3 => k (u0, u1, u2, u3)
  | .ret => Option.bind (V.intOf .i64 (SEnv.at E 2)) fun u0 => some (Sum.inl u0)
  | (.exit 0) => Option.bind (V.intOf .i64 (SEnv.at E 3)) fun u0 => some (Sum.inr u0)
  | _ => none
theorem l_cmp_Or_int__3_eq (n : Nat) (k : Int × (List T) × Int × Int → Option (((Int) ⊕ Int))) (s0 : Int) (s1 : List T) (s2 : Int) (s3 : Int) : mX Try.prog (sp_cmp_Or_int_ n) 18 code_l_cmp_Or_int__3 [(3, (V.t (T.sc (.int .i64 s0)))), (6, (V.t (T.list s1))), (7, (V.t (T.sc (.int .i64 s2)))), (8, (V.t (T.sc (.int .i64 s3))))] [] (l_cmp_Or_int__3_K k) = l_cmp_Or_int__3_B n k (s0, s1, s2, s3) := by kernel_rfl
def l_cmp_Or_int__3_Q (x : ((Int) ⊕ Int)) (ex : Ex) (e : Env) (s : Sig) : Prop := Sum.elim (fun p0 => (ex = .ret ∧ e = SEnv.env 18 [(2, (V.t (T.sc (.int .i64 p0))))] ∧ s = [])) (fun x' => (fun p1 => (ex = (.exit 0) ∧ e = SEnv.env 18 [(3, (V.t (T.sc (.int .i64 p1))))] ∧ s = [])) x') x
theorem l_cmp_Or_int__3_run (n : Nat) : ∀ (m : Nat) (s0 : Int) (s1 : List T) (s2 : Int) (s3 : Int) (x : ((Int) ⊕ Int)), l_cmp_Or_int__3 n m (s0, s1, s2, s3) = some x → SemL Try.prog 0 code_l_cmp_Or_int__3 (SEnv.env 18 [(3, (V.t (T.sc (.int .i64 s0)))), (6, (V.t (T.list s1))), (7, (V.t (T.sc (.int .i64 s2)))), (8, (V.t (T.sc (.int .i64 s3))))]) [] (l_cmp_Or_int__3_Q x)
  | 0, s0, s1, s2, s3, x, h => by cases h
  | m + 1, s0, s1, s2, s3, x, h => by
    refine loop_step (sp_cmp_Or_int__ok n) code_l_cmp_Or_int__3_ok (fun a ha => absurd ha (by rw [show loopsOf code_l_cmp_Or_int__3 = [] from by kernel_rfl]; simp)) ((l_cmp_Or_int__3_eq n _ s0 s1 s2 s3).trans h) (fun E sg h => ?_) (fun ex E sg hne h => ?_)
    · simp only [l_cmp_Or_int__3_K] at h
      obtain ⟨u0, hu0, h⟩ := Option.bind_eq_some_iff.1 h
      obtain ⟨u1, hu1, h⟩ := Option.bind_eq_some_iff.1 h
      obtain ⟨u2, hu2, h⟩ := Option.bind_eq_some_iff.1 h
      obtain ⟨u3, hu3, h⟩ := Option.bind_eq_some_iff.1 h
      exact SemL.pre (k := 0) (by decide) (WkA.env (WkA.cons (intOf_wk hu0) rfl (WkA.cons (lstOf_wk hu1) rfl (WkA.cons (intOf_wk hu2) rfl (WkA.cons (intOf_wk hu3) rfl WkA.nil)))) 18) (WkS.none _) (l_cmp_Or_int__3_run n m _ _ _ _ x h)
    · unfold l_cmp_Or_int__3_K at h
      split at h
      · exact absurd rfl hne
      · obtain ⟨u0, hu0, h⟩ := Option.bind_eq_some_iff.1 h
        simp only [Option.some.injEq] at h
        subst h
        exact ⟨0, _, _, by decide, WkA.env (WkA.cons (intOf_wk hu0) rfl WkA.nil) 18, (WkS.none _), rfl, rfl, rfl⟩
      · obtain ⟨u0, hu0, h⟩ := Option.bind_eq_some_iff.1 h
        simp only [Option.some.injEq] at h
        subst h
        exact ⟨0, _, _, by decide, WkA.env (WkA.cons (intOf_wk hu0) rfl WkA.nil) 18, (WkS.none _), rfl, rfl, rfl⟩
      · cases h
theorem l_cmp_Or_int__3_ok (n : Nat) : LoopOk Try.prog (sp_cmp_Or_int_ n) 0 18 code_l_cmp_Or_int__3 := by
    intro R key E sg K r hk h
    rw [show Go.Eng.keyOf code_l_cmp_Or_int__3 = some 3 from by kernel_rfl] at hk
    cases hk
    have h : l_cmp_Or_int__3_S n R E sg K = some r := h
    unfold l_cmp_Or_int__3_S at h
    obtain ⟨u0, hu0, h⟩ := Option.bind_eq_some_iff.1 h
    obtain ⟨u1, hu1, h⟩ := Option.bind_eq_some_iff.1 h
    obtain ⟨u2, hu2, h⟩ := Option.bind_eq_some_iff.1 h
    obtain ⟨u3, hu3, h⟩ := Option.bind_eq_some_iff.1 h
    obtain ⟨x, hx, h⟩ := Option.bind_eq_some_iff.1 h
    refine (SemL.pre (k := 0) (by decide) (WkA.env (WkA.cons (intOf_wk hu0) rfl (WkA.cons (lstOf_wk hu1) rfl (WkA.cons (intOf_wk hu2) rfl (WkA.cons (intOf_wk hu3) rfl WkA.nil)))) 18) (WkS.none _) (l_cmp_Or_int__3_run n n _ _ _ _ x hx)).mono ?_
    intro ex e s hq
    rcases x with x | x <;> (obtain ⟨rfl, rfl, rfl⟩ := hq; exact ⟨_, rfl, h⟩) -- 5
def K_cmp_Or_int_ (v : V) (s : Sig) : Option (Int) := Option.bind (V.intOf .i64 v) fun u0 => some u0
theorem K_cmp_Or_int__wk {v : V} {s : Sig} {r : Int} (h : K_cmp_Or_int_ v s = some r) : Wk v (enc_cmp_Or_int_ r) ∧ WkS 0 s (encS_cmp_Or_int_ r) := by
  unfold K_cmp_Or_int_ at h
  obtain ⟨u0, hu0, h⟩ := Option.bind_eq_some_iff.1 h
  simp only [Option.some.injEq] at h
  subst h
  exact ⟨(intOf_wk hu0), (WkS.none _)⟩
theorem m_cmp_Or_int__eq (n : Nat) (a0 : List T) : mF Try.prog (sp_cmp_Or_int_ n) 29 [(V.t (T.list a0))] [] K_cmp_Or_int_ = m_cmp_Or_int_ n a0 := by kernel_rfl
theorem m_cmp_Or_int__ok (n : Nat) : ok_cmp_Or_int_ (m_cmp_Or_int_ n) := fun a0 r h => mF_ok sound (sp_cmp_Or_int__ok n) code_cmp_Or_int__fn code_cmp_Or_int__body (forall_getD (d := .skip) 1 (by kernel_rfl) (fun i hi => match i, hi with | 0, _ => l_cmp_Or_int__3_ok n | i + 1, hi => absurd hi (by omega))) ((m_cmp_Or_int__eq n a0).trans h) (fun v s hk => ⟨(K_cmp_Or_int__wk hk).1, rfl, (K_cmp_Or_int__wk hk).2⟩)


/-! suture/heap.compare -/
def m_heap_compare (n : Nat) (a0 : List T) (a1 : List T) (a2 : Bool) (a3 : List T) (a4 : List T) (a5 : Bool) : Option (Int) :=
bif (bif a2 then (!a5) else false) then (
Option.bind (m_slices_Compare___int_int_ n a0 a3) fun r0 =>
Option.bind (m_slices_Compare___int_int_ n a1 a4) fun r1 =>
Option.bind (m_cmp_Or_int_ n [(T.sc (.int .i64 r0)), (T.sc (.int .i64 r1)), (T.sc (.int .i64 1))]) fun r2 =>
some r2)
else (
bif (bif a5 then (!a2) else false) then (
Option.bind (m_slices_Compare___int_int_ n a0 a3) fun r3 =>
Option.bind (m_slices_Compare___int_int_ n a1 a4) fun r4 =>
Option.bind (m_cmp_Or_int_ n [(T.sc (.int .i64 r3)), (T.sc (.int .i64 r4)), (T.sc (.int .i64 (-1)))]) fun r5 =>
some r5)
else (
Option.bind (m_slices_Compare___int_int_ n a0 a3) fun r6 =>
Option.bind (m_slices_Compare___int_int_ n a1 a4) fun r7 =>
Option.bind (m_cmp_Or_int_ n [(T.sc (.int .i64 r6)), (T.sc (.int .i64 r7)), (T.sc (.int .i64 0))]) fun r8 =>
some r8))
def enc_heap_compare (r : Int) : V := (V.t (T.sc (.int .i64 r)))
def encS_heap_compare (r : Int) : Sig := []
def ok_heap_compare (m : List T → List T → Bool → List T → List T → Bool → Option (Int)) : Prop := ∀ (a0 : List T) (a1 : List T) (a2 : Bool) (a3 : List T) (a4 : List T) (a5 : Bool) (r : Int), m a0 a1 a2 a3 a4 a5 = some r → FuncOk Try.prog 26 [(V.agg [(V.t (T.list a0)), (V.t (T.list a1)), (V.t (T.sc (.bool a2)))]), (V.agg [(V.t (T.list a3)), (V.t (T.list a4)), (V.t (T.sc (.bool a5)))])] [] (enc_heap_compare r) (encS_heap_compare r)
def c_heap_compare (m : List T → List T → Bool → List T → List T → Bool → Option (Int)) (vs : List V) (sg : Sig) : Option CallM := bif Nat.beq vs.length 2 && Nat.beq sg.length 0 then Option.bind (V.aggN 3 (vs.getD 0 .any)) fun u0 => Option.bind (V.lstOf (u0.getD 0 .any)) fun u1 => Option.bind (V.lstOf (u0.getD 1 .any)) fun u2 => Option.bind (V.boolOf (u0.getD 2 .any)) fun u3 => Option.bind (V.aggN 3 (vs.getD 1 .any)) fun u4 => Option.bind (V.lstOf (u4.getD 0 .any)) fun u5 => Option.bind (V.lstOf (u4.getD 1 .any)) fun u6 => Option.bind (V.boolOf (u4.getD 2 .any)) fun u7 => some { α := Int, m := m u1 u2 u3 u5 u6 u7, dflt := 0, enc := fun y => ((V.t (T.sc (.int .i64 y))), []) } else none
theorem c_heap_compare_ok (m : List T → List T → Bool → List T → List T → Bool → Option (Int)) (hm : ok_heap_compare m) (vs : List V) (sg : Sig) (cm : CallM) (x : cm.α) (h : c_heap_compare m vs sg = some cm) (hx : cm.m = some x) : FuncOk Try.prog 26 vs sg (cm.enc x).1 (cm.enc x).2 := by
  unfold c_heap_compare at h
  have h0 := callee_sig h
  clear h
  obtain ⟨hl, hs, h⟩ := h0
  obtain ⟨u0, hu0, h⟩ := Option.bind_eq_some_iff.1 h
  obtain ⟨u1, hu1, h⟩ := Option.bind_eq_some_iff.1 h
  obtain ⟨u2, hu2, h⟩ := Option.bind_eq_some_iff.1 h
  obtain ⟨u3, hu3, h⟩ := Option.bind_eq_some_iff.1 h
  obtain ⟨u4, hu4, h⟩ := Option.bind_eq_some_iff.1 h
  obtain ⟨u5, hu5, h⟩ := Option.bind_eq_some_iff.1 h
  obtain ⟨u6, hu6, h⟩ := Option.bind_eq_some_iff.1 h
  obtain ⟨u7, hu7, h⟩ := Option.bind_eq_some_iff.1 h
  simp only [Option.some.injEq] at h
  subst h
  exact (hm u1 u2 u3 u5 u6 u7 x hx).wk (args_wk hl (.cons (aggN_wk hu0 (.cons (lstOf_wk hu1) (.cons (lstOf_wk hu2) (.cons (boolOf_wk hu3) .nil)))) (.cons (aggN_wk hu4 (.cons (lstOf_wk hu5) (.cons (lstOf_wk hu6) (.cons (boolOf_wk hu7) .nil)))) .nil))) (wkSg_of hs .nil)
noncomputable def code_heap_compare : Code := Try.f26.body.getD .skip
noncomputable def sp_heap_compare (n : Nat) : Go.Eng.Spec := ⟨fun f vs sg => (match f with
    | 30 => c_slices_Compare___int_int_ (m_slices_Compare___int_int_ n) vs sg
    | 29 => c_cmp_Or_int_ (m_cmp_Or_int_ n) vs sg
    | _ => none), fun R key E sg K => (match key with
    | _ => none)⟩
theorem sp_heap_compare_ok (n : Nat) : CallsOk Try.prog (sp_heap_compare n) := by
  intro f vs sg cm x h hx
  simp only [sp_heap_compare] at h
  split at h
  · exact c_slices_Compare___int_int__ok _ (m_slices_Compare___int_int__ok n) vs sg cm x h hx
  · exact c_cmp_Or_int__ok _ (m_cmp_Or_int__ok n) vs sg cm x h hx
  · cases h
theorem code_heap_compare_fn : Try.prog.funcs[26]? = some Try.f26 := Try.func26
theorem code_heap_compare_body : Try.f26.body = some code_heap_compare := by kernel_rfl
theorem code_heap_compare_ok : CodeOk Try.prog code_heap_compare := (sound 26 _ _ code_heap_compare_fn code_heap_compare_body).1
def K_heap_compare (v : V) (s : Sig) : Option (Int) := Option.bind (V.intOf .i64 v) fun u0 => some u0
theorem K_heap_compare_wk {v : V} {s : Sig} {r : Int} (h : K_heap_compare v s = some r) : Wk v (enc_heap_compare r) ∧ WkS 0 s (encS_heap_compare r) := by
  unfold K_heap_compare at h
  obtain ⟨u0, hu0, h⟩ := Option.bind_eq_some_iff.1 h
  simp only [Option.some.injEq] at h
  subst h
  exact ⟨(intOf_wk hu0), (WkS.none _)⟩
theorem m_heap_compare_eq (n : Nat) (a0 : List T) (a1 : List T) (a2 : Bool) (a3 : List T) (a4 : List T) (a5 : Bool) : mF Try.prog (sp_heap_compare n) 26 [(V.agg [(V.t (T.list a0)), (V.t (T.list a1)), (V.t (T.sc (.bool a2)))]), (V.agg [(V.t (T.list a3)), (V.t (T.list a4)), (V.t (T.sc (.bool a5)))])] [] K_heap_compare = m_heap_compare n a0 a1 a2 a3 a4 a5 := by kernel_rfl
theorem m_heap_compare_ok (n : Nat) : ok_heap_compare (m_heap_compare n) := fun a0 a1 a2 a3 a4 a5 r h => mF_ok sound (sp_heap_compare_ok n) code_heap_compare_fn code_heap_compare_body (fun a ha => absurd ha (by rw [show loopsOf code_heap_compare = [] from by kernel_rfl]; simp)) ((m_heap_compare_eq n a0 a1 a2 a3 a4 a5).trans h) (fun v s hk => ⟨(K_heap_compare_wk hk).1, rfl, (K_heap_compare_wk hk).2⟩)


/-! suture/heap.SameOutcome -/
def m_heap_SameOutcome (n : Nat) (a0 : List T) (a1 : List T) (a2 : Bool) (a3 : List T) (a4 : List T) (a5 : Bool) : Option (Bool) :=
Option.bind (m_heap_compare n a0 a1 a2 a3 a4 a5) fun r0 =>
some ((r0 : Int) == 0)
def enc_heap_SameOutcome (r : Bool) : V := (V.t (T.sc (.bool r)))
def encS_heap_SameOutcome (r : Bool) : Sig := []
def ok_heap_SameOutcome (m : List T → List T → Bool → List T → List T → Bool → Option (Bool)) : Prop := ∀ (a0 : List T) (a1 : List T) (a2 : Bool) (a3 : List T) (a4 : List T) (a5 : Bool) (r : Bool), m a0 a1 a2 a3 a4 a5 = some r → FuncOk Try.prog 19 [(V.agg [(V.t (T.list a0)), (V.t (T.list a1)), (V.t (T.sc (.bool a2)))]), (V.agg [(V.t (T.list a3)), (V.t (T.list a4)), (V.t (T.sc (.bool a5)))])] [] (enc_heap_SameOutcome r) (encS_heap_SameOutcome r)
def c_heap_SameOutcome (m : List T → List T → Bool → List T → List T → Bool → Option (Bool)) (vs : List V) (sg : Sig) : Option CallM := bif Nat.beq vs.length 2 && Nat.beq sg.length 0 then Option.bind (V.aggN 3 (vs.getD 0 .any)) fun u0 => Option.bind (V.lstOf (u0.getD 0 .any)) fun u1 => Option.bind (V.lstOf (u0.getD 1 .any)) fun u2 => Option.bind (V.boolOf (u0.getD 2 .any)) fun u3 => Option.bind (V.aggN 3 (vs.getD 1 .any)) fun u4 => Option.bind (V.lstOf (u4.getD 0 .any)) fun u5 => Option.bind (V.lstOf (u4.getD 1 .any)) fun u6 => Option.bind (V.boolOf (u4.getD 2 .any)) fun u7 => some { α := Bool, m := m u1 u2 u3 u5 u6 u7, dflt := false, enc := fun y => ((V.t (T.sc (.bool y))), []) } else none
theorem c_heap_SameOutcome_ok (m : List T → List T → Bool → List T → List T → Bool → Option (Bool)) (hm : ok_heap_SameOutcome m) (vs : List V) (sg : Sig) (cm : CallM) (x : cm.α) (h : c_heap_SameOutcome m vs sg = some cm) (hx : cm.m = some x) : FuncOk Try.prog 19 vs sg (cm.enc x).1 (cm.enc x).2 := by
  unfold c_heap_SameOutcome at h
  have h0 := callee_sig h
  clear h
  obtain ⟨hl, hs, h⟩ := h0
  obtain ⟨u0, hu0, h⟩ := Option.bind_eq_some_iff.1 h
  obtain ⟨u1, hu1, h⟩ := Option.bind_eq_some_iff.1 h
  obtain ⟨u2, hu2, h⟩ := Option.bind_eq_some_iff.1 h
  obtain ⟨u3, hu3, h⟩ := Option.bind_eq_some_iff.1 h
  obtain ⟨u4, hu4, h⟩ := Option.bind_eq_some_iff.1 h
  obtain ⟨u5, hu5, h⟩ := Option.bind_eq_some_iff.1 h
  obtain ⟨u6, hu6, h⟩ := Option.bind_eq_some_iff.1 h
  obtain ⟨u7, hu7, h⟩ := Option.bind_eq_some_iff.1 h
  simp only [Option.some.injEq] at h
  subst h
  exact (hm u1 u2 u3 u5 u6 u7 x hx).wk (args_wk hl (.cons (aggN_wk hu0 (.cons (lstOf_wk hu1) (.cons (lstOf_wk hu2) (.cons (boolOf_wk hu3) .nil)))) (.cons (aggN_wk hu4 (.cons (lstOf_wk hu5) (.cons (lstOf_wk hu6) (.cons (boolOf_wk hu7) .nil)))) .nil))) (wkSg_of hs .nil)
noncomputable def code_heap_SameOutcome : Code := Try.f19.body.getD .skip
noncomputable def sp_heap_SameOutcome (n : Nat) : Go.Eng.Spec := ⟨fun f vs sg => (match f with
    | 26 => c_heap_compare (m_heap_compare n) vs sg
    | _ => none), fun R key E sg K => (match key with
    | _ => none)⟩
theorem sp_heap_SameOutcome_ok (n : Nat) : CallsOk Try.prog (sp_heap_SameOutcome n) := by
  intro f vs sg cm x h hx
  simp only [sp_heap_SameOutcome] at h
  split at h
  · exact c_heap_compare_ok _ (m_heap_compare_ok n) vs sg cm x h hx
  · cases h
theorem code_heap_SameOutcome_fn : Try.prog.funcs[19]? = some Try.f19 := Try.func19
theorem code_heap_SameOutcome_body : Try.f19.body = some code_heap_SameOutcome := by kernel_rfl
theorem code_heap_SameOutcome_ok : CodeOk Try.prog code_heap_SameOutcome := (sound 19 _ _ code_heap_SameOutcome_fn code_heap_SameOutcome_body).1
def K_heap_SameOutcome (v : V) (s : Sig) : Option (Bool) := Option.bind (V.boolOf v) fun u0 => some u0
theorem K_heap_SameOutcome_wk {v : V} {s : Sig} {r : Bool} (h : K_heap_SameOutcome v s = some r) : Wk v (enc_heap_SameOutcome r) ∧ WkS 0 s (encS_heap_SameOutcome r) := by
  unfold K_heap_SameOutcome at h
  obtain ⟨u0, hu0, h⟩ := Option.bind_eq_some_iff.1 h
  simp only [Option.some.injEq] at h
  subst h
  exact ⟨(boolOf_wk hu0), (WkS.none _)⟩
theorem m_heap_SameOutcome_eq (n : Nat) (a0 : List T) (a1 : List T) (a2 : Bool) (a3 : List T) (a4 : List T) (a5 : Bool) : mF Try.prog (sp_heap_SameOutcome n) 19 [(V.agg [(V.t (T.list a0)), (V.t (T.list a1)), (V.t (T.sc (.bool a2)))]), (V.agg [(V.t (T.list a3)), (V.t (T.list a4)), (V.t (T.sc (.bool a5)))])] [] K_heap_SameOutcome = m_heap_SameOutcome n a0 a1 a2 a3 a4 a5 := by kernel_rfl
theorem m_heap_SameOutcome_ok (n : Nat) : ok_heap_SameOutcome (m_heap_SameOutcome n) := fun a0 a1 a2 a3 a4 a5 r h => mF_ok sound (sp_heap_SameOutcome_ok n) code_heap_SameOutcome_fn code_heap_SameOutcome_body (fun a ha => absurd ha (by rw [show loopsOf code_heap_SameOutcome = [] from by kernel_rfl]; simp)) ((m_heap_SameOutcome_eq n a0 a1 a2 a3 a4 a5).trans h) (fun v s hk => ⟨(K_heap_SameOutcome_wk hk).1, rfl, (K_heap_SameOutcome_wk hk).2⟩)


/-! suture/judge.Within$1$1 -/
def m_judge_Within_1_1 (n : Nat) (a0 : List T) (a1 : List T) (a2 : Bool) (a3 : List T) (a4 : List T) (a5 : Bool) : Option (Bool × (List T) × (List T) × Bool) :=
Option.bind (m_heap_SameOutcome n a3 a4 a5 a0 a1 a2) fun r0 =>
some (r0, a3, a4, a5)
def enc_judge_Within_1_1 (r : Bool × (List T) × (List T) × Bool) : V := (V.t (T.sc (.bool r.1)))
def encS_judge_Within_1_1 (r : Bool × (List T) × (List T) × Bool) : Sig := [some [(V.t (T.list r.2.1)), (V.t (T.list r.2.2.1)), (V.t (T.sc (.bool r.2.2.2)))]]
def ok_judge_Within_1_1 (m : List T → List T → Bool → List T → List T → Bool → Option (Bool × (List T) × (List T) × Bool)) : Prop := ∀ (a0 : List T) (a1 : List T) (a2 : Bool) (a3 : List T) (a4 : List T) (a5 : Bool) (r : Bool × (List T) × (List T) × Bool), m a0 a1 a2 a3 a4 a5 = some r → FuncOk Try.prog 18 [(V.agg [(V.t (T.list a0)), (V.t (T.list a1)), (V.t (T.sc (.bool a2)))]), (V.ptr 0 0)] [some [(V.t (T.list a3)), (V.t (T.list a4)), (V.t (T.sc (.bool a5)))]] (enc_judge_Within_1_1 r) (encS_judge_Within_1_1 r)
def c_judge_Within_1_1 (m : List T → List T → Bool → List T → List T → Bool → Option (Bool × (List T) × (List T) × Bool)) (vs : List V) (sg : Sig) : Option CallM := bif Nat.beq vs.length 2 && Nat.beq sg.length 1 then Option.bind (V.aggN 3 (vs.getD 0 .any)) fun u0 => Option.bind (V.lstOf (u0.getD 0 .any)) fun u1 => Option.bind (V.lstOf (u0.getD 1 .any)) fun u2 => Option.bind (V.boolOf (u0.getD 2 .any)) fun u3 => Option.bind (V.ptrOf 0 0 (vs.getD 1 .any)) fun u4 => Option.bind (cellsN 3 sg 0) fun g0 => Option.bind (V.lstOf (g0.getD 0 .any)) fun g1 => Option.bind (V.lstOf (g0.getD 1 .any)) fun g2 => Option.bind (V.boolOf (g0.getD 2 .any)) fun g3 => some { α := Bool × (List T) × (List T) × Bool, m := m u1 u2 u3 g1 g2 g3, dflt := (false, [], [], false), enc := fun y => ((V.t (T.sc (.bool y.1))), [some [(V.t (T.list y.2.1)), (V.t (T.list y.2.2.1)), (V.t (T.sc (.bool y.2.2.2)))]]) } else none
theorem c_judge_Within_1_1_ok (m : List T → List T → Bool → List T → List T → Bool → Option (Bool × (List T) × (List T) × Bool)) (hm : ok_judge_Within_1_1 m) (vs : List V) (sg : Sig) (cm : CallM) (x : cm.α) (h : c_judge_Within_1_1 m vs sg = some cm) (hx : cm.m = some x) : FuncOk Try.prog 18 vs sg (cm.enc x).1 (cm.enc x).2 := by
  unfold c_judge_Within_1_1 at h
  have h0 := callee_sig h
  clear h
  obtain ⟨hl, hs, h⟩ := h0
  obtain ⟨u0, hu0, h⟩ := Option.bind_eq_some_iff.1 h
  obtain ⟨u1, hu1, h⟩ := Option.bind_eq_some_iff.1 h
  obtain ⟨u2, hu2, h⟩ := Option.bind_eq_some_iff.1 h
  obtain ⟨u3, hu3, h⟩ := Option.bind_eq_some_iff.1 h
  obtain ⟨u4, hu4, h⟩ := Option.bind_eq_some_iff.1 h
  obtain ⟨g0, hg0, h⟩ := Option.bind_eq_some_iff.1 h
  obtain ⟨g1, hg1, h⟩ := Option.bind_eq_some_iff.1 h
  obtain ⟨g2, hg2, h⟩ := Option.bind_eq_some_iff.1 h
  obtain ⟨g3, hg3, h⟩ := Option.bind_eq_some_iff.1 h
  simp only [Option.some.injEq] at h
  subst h
  exact (hm u1 u2 u3 g1 g2 g3 x hx).wk (args_wk hl (.cons (aggN_wk hu0 (.cons (lstOf_wk hu1) (.cons (lstOf_wk hu2) (.cons (boolOf_wk hu3) .nil)))) (.cons (ptrOf_wk hu4) .nil))) (wkSg_of hs (.cons (cellsN_wk hg0 (.cons (lstOf_wk hg1) (.cons (lstOf_wk hg2) (.cons (boolOf_wk hg3) .nil)))) .nil))
noncomputable def code_judge_Within_1_1 : Code := Try.f18.body.getD .skip
noncomputable def sp_judge_Within_1_1 (n : Nat) : Go.Eng.Spec := ⟨fun f vs sg => (match f with
    | 19 => c_heap_SameOutcome (m_heap_SameOutcome n) vs sg
    | _ => none), fun R key E sg K => (match key with
    | _ => none)⟩
theorem sp_judge_Within_1_1_ok (n : Nat) : CallsOk Try.prog (sp_judge_Within_1_1 n) := by
  intro f vs sg cm x h hx
  simp only [sp_judge_Within_1_1] at h
  split at h
  · exact c_heap_SameOutcome_ok _ (m_heap_SameOutcome_ok n) vs sg cm x h hx
  · cases h
theorem code_judge_Within_1_1_fn : Try.prog.funcs[18]? = some Try.f18 := Try.func18
theorem code_judge_Within_1_1_body : Try.f18.body = some code_judge_Within_1_1 := by kernel_rfl
theorem code_judge_Within_1_1_ok : CodeOk Try.prog code_judge_Within_1_1 := (sound 18 _ _ code_judge_Within_1_1_fn code_judge_Within_1_1_body).1
def K_judge_Within_1_1 (v : V) (s : Sig) : Option (Bool × (List T) × (List T) × Bool) := Option.bind (V.boolOf v) fun u0 => Option.bind (cellsN 3 s 0) fun g0 => Option.bind (V.lstOf (g0.getD 0 .any)) fun g1 => Option.bind (V.lstOf (g0.getD 1 .any)) fun g2 => Option.bind (V.boolOf (g0.getD 2 .any)) fun g3 => some (u0, g1, g2, g3)
theorem K_judge_Within_1_1_wk {v : V} {s : Sig} {r : Bool × (List T) × (List T) × Bool} (h : K_judge_Within_1_1 v s = some r) : Wk v (enc_judge_Within_1_1 r) ∧ WkS 1 s (encS_judge_Within_1_1 r) := by
  unfold K_judge_Within_1_1 at h
  obtain ⟨u0, hu0, h⟩ := Option.bind_eq_some_iff.1 h
  obtain ⟨g0, hg0, h⟩ := Option.bind_eq_some_iff.1 h
  obtain ⟨g1, hg1, h⟩ := Option.bind_eq_some_iff.1 h
  obtain ⟨g2, hg2, h⟩ := Option.bind_eq_some_iff.1 h
  obtain ⟨g3, hg3, h⟩ := Option.bind_eq_some_iff.1 h
  simp only [Option.some.injEq] at h
  subst h
  exact ⟨(boolOf_wk hu0), (wkR_sig (WkR.cons (cellsN_wk hg0 (.cons (lstOf_wk hg1) (.cons (lstOf_wk hg2) (.cons (boolOf_wk hg3) .nil)))).1 (cellsN_wk hg0 (.cons (lstOf_wk hg1) (.cons (lstOf_wk hg2) (.cons (boolOf_wk hg3) .nil)))).2 (renL_mem (.cons rfl (.cons rfl (.cons rfl .nil)))) (WkR.nil _)) rfl)⟩
theorem m_judge_Within_1_1_eq (n : Nat) (a0 : List T) (a1 : List T) (a2 : Bool) (a3 : List T) (a4 : List T) (a5 : Bool) : mF Try.prog (sp_judge_Within_1_1 n) 18 [(V.agg [(V.t (T.list a0)), (V.t (T.list a1)), (V.t (T.sc (.bool a2)))]), (V.ptr 0 0)] [some [(V.t (T.list a3)), (V.t (T.list a4)), (V.t (T.sc (.bool a5)))]] K_judge_Within_1_1 = m_judge_Within_1_1 n a0 a1 a2 a3 a4 a5 := by kernel_rfl
theorem m_judge_Within_1_1_ok (n : Nat) : ok_judge_Within_1_1 (m_judge_Within_1_1 n) := fun a0 a1 a2 a3 a4 a5 r h => mF_ok sound (sp_judge_Within_1_1_ok n) code_judge_Within_1_1_fn code_judge_Within_1_1_body (fun a ha => absurd ha (by rw [show loopsOf code_judge_Within_1_1 = [] from by kernel_rfl]; simp)) ((m_judge_Within_1_1_eq n a0 a1 a2 a3 a4 a5).trans h) (fun v s hk => ⟨(K_judge_Within_1_1_wk hk).1, rfl, (K_judge_Within_1_1_wk hk).2⟩)


/-! slices.IndexFunc[[]suture/api.Outcome,suture/api.Outcome] -/
def l_slices_IndexFunc___api_Outcome_api_Outcome__v2_2_B (n : Nat) (k : (List T) × Int × Int × (List T) × (List T) × Bool → Option (((Int × (List T) × (List T) × Bool) ⊕ (List T) × (List T) × Bool))) : (List T) × Int × Int × (List T) × (List T) × Bool → Option (((Int × (List T) × (List T) × Bool) ⊕ (List T) × (List T) × Bool)) := fun (s0, s1, s2, s3, s4, s5) =>
bif (decide ((s2 : Int) < s1)) then (
Option.bind (idx true [.list, .list, .bool] s0 s2) fun y0 =>
Option.bind (m_judge_Within_1_1 n (y0.cell 0).lst (y0.cell 1).lst (y0.cell 2).bool s3 s4 s5) fun r1 =>
bif r1.1 then (
some (Sum.inl (s2, r1.2.1, r1.2.2.1, r1.2.2.2)))
else (
k (s0, s1, (IntKind.wrap .i64 (s2 + 1)), r1.2.1, r1.2.2.1, r1.2.2.2)))
else (
some (Sum.inr (s3, s4, s5)))
def l_slices_IndexFunc___api_Outcome_api_Outcome__v2_2 (n : Nat) : Nat → (List T) × Int × Int × (List T) × (List T) × Bool → Option (((Int × (List T) × (List T) × Bool) ⊕ (List T) × (List T) × Bool))
  | 0, _ => none
  | m + 1, s => l_slices_IndexFunc___api_Outcome_api_Outcome__v2_2_B n (l_slices_IndexFunc___api_Outcome_api_Outcome__v2_2 n m) s
def m_slices_IndexFunc___api_Outcome_api_Outcome__v2 (n : Nat) (a0 : List T) (a1 : List T) (a2 : List T) (a3 : Bool) : Option (Int × (List T) × (List T) × Bool) :=
Option.bind (l_slices_IndexFunc___api_Outcome_api_Outcome__v2_2 n n (a0, ((List.length a0 : Nat) : Int), 0, a1, a2, a3)) fun x2 =>
Sum.elim (fun p3 => 
some (p3.1, p3.2.1, p3.2.2.1, p3.2.2.2)) (fun x2' => (fun p4 => 
some ((-1), p4.1, p4.2.1, p4.2.2)) x2') x2
def enc_slices_IndexFunc___api_Outcome_api_Outcome__v2 (r : Int × (List T) × (List T) × Bool) : V := (V.t (T.sc (.int .i64 r.1)))
def encS_slices_IndexFunc___api_Outcome_api_Outcome__v2 (r : Int × (List T) × (List T) × Bool) : Sig := [some [(V.t (T.list r.2.1)), (V.t (T.list r.2.2.1)), (V.t (T.sc (.bool r.2.2.2)))]]
def ok_slices_IndexFunc___api_Outcome_api_Outcome__v2 (m : List T → List T → List T → Bool → Option (Int × (List T) × (List T) × Bool)) : Prop := ∀ (a0 : List T) (a1 : List T) (a2 : List T) (a3 : Bool) (r : Int × (List T) × (List T) × Bool), m a0 a1 a2 a3 = some r → FuncOk Try.prog 25 [(V.t (T.list a0)), (V.fn 18 [(V.ptr 0 0)])] [some [(V.t (T.list a1)), (V.t (T.list a2)), (V.t (T.sc (.bool a3)))]] (enc_slices_IndexFunc___api_Outcome_api_Outcome__v2 r) (encS_slices_IndexFunc___api_Outcome_api_Outcome__v2 r)
def c_slices_IndexFunc___api_Outcome_api_Outcome__v2 (m : List T → List T → List T → Bool → Option (Int × (List T) × (List T) × Bool)) (vs : List V) (sg : Sig) : Option CallM := bif Nat.beq vs.length 2 && Nat.beq sg.length 1 then Option.bind (V.lstOf (vs.getD 0 .any)) fun u0 => Option.bind (V.fnN 18 1 (vs.getD 1 .any)) fun u1 => Option.bind (V.ptrOf 0 0 (u1.getD 0 .any)) fun u2 => Option.bind (cellsN 3 sg 0) fun g0 => Option.bind (V.lstOf (g0.getD 0 .any)) fun g1 => Option.bind (V.lstOf (g0.getD 1 .any)) fun g2 => Option.bind (V.boolOf (g0.getD 2 .any)) fun g3 => some { α := Int × (List T) × (List T) × Bool, m := m u0 g1 g2 g3, dflt := (0, [], [], false), enc := fun y => ((V.t (T.sc (.int .i64 y.1))), [some [(V.t (T.list y.2.1)), (V.t (T.list y.2.2.1)), (V.t (T.sc (.bool y.2.2.2)))]]) } else none
theorem c_slices_IndexFunc___api_Outcome_api_Outcome__v2_ok (m : List T → List T → List T → Bool → Option (Int × (List T) × (List T) × Bool)) (hm : ok_slices_IndexFunc___api_Outcome_api_Outcome__v2 m) (vs : List V) (sg : Sig) (cm : CallM) (x : cm.α) (h : c_slices_IndexFunc___api_Outcome_api_Outcome__v2 m vs sg = some cm) (hx : cm.m = some x) : FuncOk Try.prog 25 vs sg (cm.enc x).1 (cm.enc x).2 := by
  unfold c_slices_IndexFunc___api_Outcome_api_Outcome__v2 at h
  have h0 := callee_sig h
  clear h
  obtain ⟨hl, hs, h⟩ := h0
  obtain ⟨u0, hu0, h⟩ := Option.bind_eq_some_iff.1 h
  obtain ⟨u1, hu1, h⟩ := Option.bind_eq_some_iff.1 h
  obtain ⟨u2, hu2, h⟩ := Option.bind_eq_some_iff.1 h
  obtain ⟨g0, hg0, h⟩ := Option.bind_eq_some_iff.1 h
  obtain ⟨g1, hg1, h⟩ := Option.bind_eq_some_iff.1 h
  obtain ⟨g2, hg2, h⟩ := Option.bind_eq_some_iff.1 h
  obtain ⟨g3, hg3, h⟩ := Option.bind_eq_some_iff.1 h
  simp only [Option.some.injEq] at h
  subst h
  exact (hm u0 g1 g2 g3 x hx).wk (args_wk hl (.cons (lstOf_wk hu0) (.cons (fnN_wk hu1 (.cons (ptrOf_wk hu2) .nil)) .nil))) (wkSg_of hs (.cons (cellsN_wk hg0 (.cons (lstOf_wk hg1) (.cons (lstOf_wk hg2) (.cons (boolOf_wk hg3) .nil)))) .nil))
noncomputable def code_slices_IndexFunc___api_Outcome_api_Outcome__v2 : Code := Try.f25.body.getD .skip
def l_slices_IndexFunc___api_Outcome_api_Outcome__v2_2_S (n : Nat) (R : Type) (E : SEnv) (sg : Sig) (K : Ex → SEnv → Sig → Option R) : Option R := Option.bind (V.lstOf (SEnv.at E 0)) fun u0 => Option.bind (V.fnN 18 1 (SEnv.at E 1)) fun u1 => Option.bind (V.ptrOf 0 0 (u1.getD 0 .any)) fun u2 => Option.bind (V.intOf .i64 (SEnv.at E 7)) fun u3 => Option.bind (V.intOf .i64 (SEnv.at E 8)) fun u4 => Option.bind (cellsN 3 sg 0) fun u5 => Option.bind (V.lstOf (u5.getD 0 .any)) fun u6 => Option.bind (V.lstOf (u5.getD 1 .any)) fun u7 => Option.bind (V.boolOf (u5.getD 2 .any)) fun u8 => Option.bind (l_slices_IndexFunc___api_Outcome_api_Outcome__v2_2 n n (u0, u3, u4, u6, u7, u8)) fun y => Sum.elim (fun p0 => K .ret [(4, (V.t (T.sc (.int .i64 p0.1))))] [some [(V.t (T.list p0.2.1)), (V.t (T.list p0.2.2.1)), (V.t (T.sc (.bool p0.2.2.2)))]]) (fun y' => (fun p1 => K (.exit 0) [] [some [(V.t (T.list p1.1)), (V.t (T.list p1.2.1)), (V.t (T.sc (.bool p1.2.2)))]]) y') y
noncomputable def sp_slices_IndexFunc___api_Outcome_api_Outcome__v2 (n : Nat) : Go.Eng.Spec := ⟨fun f vs sg => (match f with
    | 18 => c_judge_Within_1_1 (m_judge_Within_1_1 n) vs sg
    | _ => none), fun R key E sg K => (match key with
    | 2 => l_slices_IndexFunc___api_Outcome_api_Outcome__v2_2_S n R E sg K
    | _ => none)⟩
theorem sp_slices_IndexFunc___api_Outcome_api_Outcome__v2_ok (n : Nat) : CallsOk Try.prog (sp_slices_IndexFunc___api_Outcome_api_Outcome__v2 n) := by
  intro f vs sg cm x h hx
  simp only [sp_slices_IndexFunc___api_Outcome_api_Outcome__v2] at h
  split at h
  · exact c_judge_Within_1_1_ok _ (m_judge_Within_1_1_ok n) vs sg cm x h hx
  · cases h
theorem code_slices_IndexFunc___api_Outcome_api_Outcome__v2_fn : Try.prog.funcs[25]? = some Try.f25 := Try.func25
theorem code_slices_IndexFunc___api_Outcome_api_Outcome__v2_body : Try.f25.body = some code_slices_IndexFunc___api_Outcome_api_Outcome__v2 := by kernel_rfl
theorem code_slices_IndexFunc___api_Outcome_api_Outcome__v2_ok : CodeOk Try.prog code_slices_IndexFunc___api_Outcome_api_Outcome__v2 := (sound 25 _ _ code_slices_IndexFunc___api_Outcome_api_Outcome__v2_fn code_slices_IndexFunc___api_Outcome_api_Outcome__v2_body).1
noncomputable def code_l_slices_IndexFunc___api_Outcome_api_Outcome__v2_2 : Code := (loopsOf code_slices_IndexFunc___api_Outcome_api_Outcome__v2).getD 0 .skip
theorem code_l_slices_IndexFunc___api_Outcome_api_Outcome__v2_2_ok : CodeOk Try.prog code_l_slices_IndexFunc___api_Outcome_api_Outcome__v2_2 := codeOk_loops code_slices_IndexFunc___api_Outcome_api_Outcome__v2_ok _ (getD_mem (by kernel_rfl))
def l_slices_IndexFunc___api_Outcome_api_Outcome__v2_2_K (k : (List T) × Int × Int × (List T) × (List T) × Bool → Option (((Int × (List T) × (List T) × Bool) ⊕ (List T) × (List T) × Bool))) : Ex → SEnv → Sig → Option (((Int × (List T) × (List T) × Bool) ⊕ (List T) × (List T) × Bool)) := fun x E sg => match x with
  | .normal => Option.bind (V.lstOf (SEnv.at E 0)) fun u0 => Option.bind (V.fnN 18 1 (SEnv.at E 1)) fun u1 => Option.bind (V.ptrOf 0 0 (u1.getD 0 .any)) fun u2 => Option.bind (V.intOf .i64 (SEnv.at E 7)) fun u3 => Option.bind (V.intOf .i64 (SEnv.at E 8)) fun u4 => Option.bind (cellsN 3 sg 0) fun u5 => Option.bind (V.lstOf (u5.getD 0 .any)) fun u6 => Option.bind (V.lstOf (u5.getD 1 .any)) fun u7 => Option.bind (V.boolOf (u5.getD 2 .any)) fun u8 => k (u0, u3, u4, u6, u7, u8)
  | .ret => Option.bind (V.intOf .i64 (SEnv.at E 4)) fun u0 => Option.bind (cellsN 3 sg 0) fun u1 => Option.bind (V.lstOf (u1.getD 0 .any)) fun u2 => Option.bind (V.lstOf (u1.getD 1 .any)) fun u3 => Option.bind (V.boolOf (u1.getD 2 .any)) fun u4 => some (Sum.inl (u0, u2, u3, u4))
  | (.exit 0) => Option.bind (cellsN 3 sg 0) fun u0 => Option.bind (V.lstOf (u0.getD 0 .any)) fun u1 => Option.bind (V.lstOf (u0.getD 1 .any)) fun u2 => Option.bind (V.boolOf (u0.getD 2 .any)) fun u3 => some (Sum.inr (u1, u2, u3))
  | _ => none
theorem l_slices_IndexFunc___api_Outcome_api_Outcome__v2_2_eq (n : Nat) (k : (List T) × Int × Int × (List T) × (List T) × Bool → Option (((Int × (List T) × (List T) × Bool) ⊕ (List T) × (List T) × Bool))) (s0 : List T) (s1 : Int) (s2 : Int) (s3 : List T) (s4 : List T) (s5 : Bool) : mX Try.prog (sp_slices_IndexFunc___api_Outcome_api_Outcome__v2 n) 19 code_l_slices_IndexFunc___api_Outcome_api_Outcome__v2_2 [(0, (V.t (T.list s0))), (1, (V.fn 18 [(V.ptr 0 0)])), (7, (V.t (T.sc (.int .i64 s1)))), (8, (V.t (T.sc (.int .i64 s2))))] [some [(V.t (T.list s3)), (V.t (T.list s4)), (V.t (T.sc (.bool s5)))]] (l_slices_IndexFunc___api_Outcome_api_Outcome__v2_2_K k) = l_slices_IndexFunc___api_Outcome_api_Outcome__v2_2_B n k (s0, s1, s2, s3, s4, s5) := by kernel_rfl
def l_slices_IndexFunc___api_Outcome_api_Outcome__v2_2_Q (x : ((Int × (List T) × (List T) × Bool) ⊕ (List T) × (List T) × Bool)) (ex : Ex) (e : Env) (s : Sig) : Prop := Sum.elim (fun p0 => (ex = .ret ∧ e = SEnv.env 19 [(4, (V.t (T.sc (.int .i64 p0.1))))] ∧ s = [some [(V.t (T.list p0.2.1)), (V.t (T.list p0.2.2.1)), (V.t (T.sc (.bool p0.2.2.2)))]])) (fun x' => (fun p1 => (ex = (.exit 0) ∧ e = SEnv.env 19 [] ∧ s = [some [(V.t (T.list p1.1)), (V.t (T.list p1.2.1)), (V.t (T.sc (.bool p1.2.2)))]])) x') x
theorem l_slices_IndexFunc___api_Outcome_api_Outcome__v2_2_run (n : Nat) : ∀ (m : Nat) (s0 : List T) (s1 : Int) (s2 : Int) (s3 : List T) (s4 : List T) (s5 : Bool) (x : ((Int × (List T) × (List T) × Bool) ⊕ (List T) × (List T) × Bool)), l_slices_IndexFunc___api_Outcome_api_Outcome__v2_2 n m (s0, s1, s2, s3, s4, s5) = some x → SemL Try.prog 1 code_l_slices_IndexFunc___api_Outcome_api_Outcome__v2_2 (SEnv.env 19 [(0, (V.t (T.list s0))), (1, (V.fn 18 [(V.ptr 0 0)])), (7, (V.t (T.sc (.int .i64 s1)))), (8, (V.t (T.sc (.int .i64 s2))))]) [some [(V.t (T.list s3)), (V.t (T.list s4)), (V.t (T.sc (.bool s5)))]] (l_slices_IndexFunc___api_Outcome_api_Outcome__v2_2_Q x)
  | 0, s0, s1, s2, s3, s4, s5, x, h => by cases h
  | m + 1, s0, s1, s2, s3, s4, s5, x, h => by
    refine loop_step (sp_slices_IndexFunc___api_Outcome_api_Outcome__v2_ok n) code_l_slices_IndexFunc___api_Outcome_api_Outcome__v2_2_ok (fun a ha => absurd ha (by rw [show loopsOf code_l_slices_IndexFunc___api_Outcome_api_Outcome__v2_2 = [] from by kernel_rfl]; simp)) ((l_slices_IndexFunc___api_Outcome_api_Outcome__v2_2_eq n _ s0 s1 s2 s3 s4 s5).trans h) (fun E sg h => ?_) (fun ex E sg hne h => ?_)
    · simp only [l_slices_IndexFunc___api_Outcome_api_Outcome__v2_2_K] at h
      obtain ⟨u0, hu0, h⟩ := Option.bind_eq_some_iff.1 h
      obtain ⟨u1, hu1, h⟩ := Option.bind_eq_some_iff.1 h
      obtain ⟨u2, hu2, h⟩ := Option.bind_eq_some_iff.1 h
      obtain ⟨u3, hu3, h⟩ := Option.bind_eq_some_iff.1 h
      obtain ⟨u4, hu4, h⟩ := Option.bind_eq_some_iff.1 h
      obtain ⟨u5, hu5, h⟩ := Option.bind_eq_some_iff.1 h
      obtain ⟨u6, hu6, h⟩ := Option.bind_eq_some_iff.1 h
      obtain ⟨u7, hu7, h⟩ := Option.bind_eq_some_iff.1 h
      obtain ⟨u8, hu8, h⟩ := Option.bind_eq_some_iff.1 h
      exact SemL.pre (k := 1) (by decide) (WkA.env (WkA.cons (lstOf_wk hu0) rfl (WkA.cons (fnN_wk hu1 (.cons (ptrOf_wk hu2) .nil)) rfl (WkA.cons (intOf_wk hu3) rfl (WkA.cons (intOf_wk hu4) rfl WkA.nil)))) 19) (wkR_sig (WkR.cons (cellsN_wk hu5 (.cons (lstOf_wk hu6) (.cons (lstOf_wk hu7) (.cons (boolOf_wk hu8) .nil)))).1 (cellsN_wk hu5 (.cons (lstOf_wk hu6) (.cons (lstOf_wk hu7) (.cons (boolOf_wk hu8) .nil)))).2 (renL_mem (.cons rfl (.cons rfl (.cons rfl .nil)))) (WkR.nil _)) rfl) (l_slices_IndexFunc___api_Outcome_api_Outcome__v2_2_run n m _ _ _ _ _ _ x h)
    · unfold l_slices_IndexFunc___api_Outcome_api_Outcome__v2_2_K at h
      split at h
      · exact absurd rfl hne
      · obtain ⟨u0, hu0, h⟩ := Option.bind_eq_some_iff.1 h
        obtain ⟨u1, hu1, h⟩ := Option.bind_eq_some_iff.1 h
        obtain ⟨u2, hu2, h⟩ := Option.bind_eq_some_iff.1 h
        obtain ⟨u3, hu3, h⟩ := Option.bind_eq_some_iff.1 h
        obtain ⟨u4, hu4, h⟩ := Option.bind_eq_some_iff.1 h
        simp only [Option.some.injEq] at h
        subst h
        exact ⟨1, _, _, by decide, WkA.env (WkA.cons (intOf_wk hu0) rfl WkA.nil) 19, (wkR_sig (WkR.cons (cellsN_wk hu1 (.cons (lstOf_wk hu2) (.cons (lstOf_wk hu3) (.cons (boolOf_wk hu4) .nil)))).1 (cellsN_wk hu1 (.cons (lstOf_wk hu2) (.cons (lstOf_wk hu3) (.cons (boolOf_wk hu4) .nil)))).2 (renL_mem (.cons rfl (.cons rfl (.cons rfl .nil)))) (WkR.nil _)) rfl), rfl, rfl, rfl⟩
      · obtain ⟨u0, hu0, h⟩ := Option.bind_eq_some_iff.1 h
        obtain ⟨u1, hu1, h⟩ := Option.bind_eq_some_iff.1 h
        obtain ⟨u2, hu2, h⟩ := Option.bind_eq_some_iff.1 h
        obtain ⟨u3, hu3, h⟩ := Option.bind_eq_some_iff.1 h
        simp only [Option.some.injEq] at h
        subst h
        exact ⟨1, _, _, by decide, WkA.env WkA.nil 19, (wkR_sig (WkR.cons (cellsN_wk hu0 (.cons (lstOf_wk hu1) (.cons (lstOf_wk hu2) (.cons (boolOf_wk hu3) .nil)))).1 (cellsN_wk hu0 (.cons (lstOf_wk hu1) (.cons (lstOf_wk hu2) (.cons (boolOf_wk hu3) .nil)))).2 (renL_mem (.cons rfl (.cons rfl (.cons rfl .nil)))) (WkR.nil _)) rfl), rfl, rfl, rfl⟩
      · cases h
theorem l_slices_IndexFunc___api_Outcome_api_Outcome__v2_2_ok (n : Nat) : LoopOk Try.prog (sp_slices_IndexFunc___api_Outcome_api_Outcome__v2 n) 1 19 code_l_slices_IndexFunc___api_Outcome_api_Outcome__v2_2 := by
    intro R key E sg K r hk h
    rw [show Go.Eng.keyOf code_l_slices_IndexFunc___api_Outcome_api_Outcome__v2_2 = some 2 from by kernel_rfl] at hk
    cases hk
    have h : l_slices_IndexFunc___api_Outcome_api_Outcome__v2_2_S n R E sg K = some r := h
    unfold l_slices_IndexFunc___api_Outcome_api_Outcome__v2_2_S at h
    obtain ⟨u0, hu0, h⟩ := Option.bind_eq_some_iff.1 h
    obtain ⟨u1, hu1, h⟩ := Option.bind_eq_some_iff.1 h
    obtain ⟨u2, hu2, h⟩ := Option.bind_eq_some_iff.1 h
    obtain ⟨u3, hu3, h⟩ := Option.bind_eq_some_iff.1 h
    obtain ⟨u4, hu4, h⟩ := Option.bind_eq_some_iff.1 h
    obtain ⟨u5, hu5, h⟩ := Option.bind_eq_some_iff.1 h
    obtain ⟨u6, hu6, h⟩ := Option.bind_eq_some_iff.1 h
    obtain ⟨u7, hu7, h⟩ := Option.bind_eq_some_iff.1 h
    obtain ⟨u8, hu8, h⟩ := Option.bind_eq_some_iff.1 h
    obtain ⟨x, hx, h⟩ := Option.bind_eq_some_iff.1 h
    refine (SemL.pre (k := 1) (by decide) (WkA.env (WkA.cons (lstOf_wk hu0) rfl (WkA.cons (fnN_wk hu1 (.cons (ptrOf_wk hu2) .nil)) rfl (WkA.cons (intOf_wk hu3) rfl (WkA.cons (intOf_wk hu4) rfl WkA.nil)))) 19) (wkR_sig (WkR.cons (cellsN_wk hu5 (.cons (lstOf_wk hu6) (.cons (lstOf_wk hu7) (.cons (boolOf_wk hu8) .nil)))).1 (cellsN_wk hu5 (.cons (lstOf_wk hu6) (.cons (lstOf_wk hu7) (.cons (boolOf_wk hu8) .nil)))).2 (renL_mem (.cons rfl (.cons rfl (.cons rfl .nil)))) (WkR.nil _)) rfl) (l_slices_IndexFunc___api_Outcome_api_Outcome__v2_2_run n n _ _ _ _ _ _ x hx)).mono ?_
    intro ex e s hq
    rcases x with x | x <;> (obtain ⟨rfl, rfl, rfl⟩ := hq; exact ⟨_, rfl, h⟩) -- 5
def K_slices_IndexFunc___api_Outcome_api_Outcome__v2 (v : V) (s : Sig) : Option (Int × (List T) × (List T) × Bool) := Option.bind (V.intOf .i64 v) fun u0 => Option.bind (cellsN 3 s 0) fun g0 => Option.bind (V.lstOf (g0.getD 0 .any)) fun g1 => Option.bind (V.lstOf (g0.getD 1 .any)) fun g2 => Option.bind (V.boolOf (g0.getD 2 .any)) fun g3 => some (u0, g1, g2, g3)
theorem K_slices_IndexFunc___api_Outcome_api_Outcome__v2_wk {v : V} {s : Sig} {r : Int × (List T) × (List T) × Bool} (h : K_slices_IndexFunc___api_Outcome_api_Outcome__v2 v s = some r) : Wk v (enc_slices_IndexFunc___api_Outcome_api_Outcome__v2 r) ∧ WkS 1 s (encS_slices_IndexFunc___api_Outcome_api_Outcome__v2 r) := by
  unfold K_slices_IndexFunc___api_Outcome_api_Outcome__v2 at h
  obtain ⟨u0, hu0, h⟩ := Option.bind_eq_some_iff.1 h
  obtain ⟨g0, hg0, h⟩ := Option.bind_eq_some_iff.1 h
  obtain ⟨g1, hg1, h⟩ := Option.bind_eq_some_iff.1 h
  obtain ⟨g2, hg2, h⟩ := Option.bind_eq_some_iff.1 h
  obtain ⟨g3, hg3, h⟩ := Option.bind_eq_some_iff.1 h
  simp only [Option.some.injEq] at h
  subst h
  exact ⟨(intOf_wk hu0), (wkR_sig (WkR.cons (cellsN_wk hg0 (.cons (lstOf_wk hg1) (.cons (lstOf_wk hg2) (.cons (boolOf_wk hg3) .nil)))).1 (cellsN_wk hg0 (.cons (lstOf_wk hg1) (.cons (lstOf_wk hg2) (.cons (boolOf_wk hg3) .nil)))).2 (renL_mem (.cons rfl (.cons rfl (.cons rfl .nil)))) (WkR.nil _)) rfl)⟩
theorem m_slices_IndexFunc___api_Outcome_api_Outcome__v2_eq (n : Nat) (a0 : List T) (a1 : List T) (a2 : List T) (a3 : Bool) : mF Try.prog (sp_slices_IndexFunc___api_Outcome_api_Outcome__v2 n) 25 [(V.t (T.list a0)), (V.fn 18 [(V.ptr 0 0)])] [some [(V.t (T.list a1)), (V.t (T.list a2)), (V.t (T.sc (.bool a3)))]] K_slices_IndexFunc___api_Outcome_api_Outcome__v2 = m_slices_IndexFunc___api_Outcome_api_Outcome__v2 n a0 a1 a2 a3 := by kernel_rfl
theorem m_slices_IndexFunc___api_Outcome_api_Outcome__v2_ok (n : Nat) : ok_slices_IndexFunc___api_Outcome_api_Outcome__v2 (m_slices_IndexFunc___api_Outcome_api_Outcome__v2 n) := fun a0 a1 a2 a3 r h => mF_ok sound (sp_slices_IndexFunc___api_Outcome_api_Outcome__v2_ok n) code_slices_IndexFunc___api_Outcome_api_Outcome__v2_fn code_slices_IndexFunc___api_Outcome_api_Outcome__v2_body (forall_getD (d := .skip) 1 (by kernel_rfl) (fun i hi => match i, hi with | 0, _ => l_slices_IndexFunc___api_Outcome_api_Outcome__v2_2_ok n | i + 1, hi => absurd hi (by omega))) ((m_slices_IndexFunc___api_Outcome_api_Outcome__v2_eq n a0 a1 a2 a3).trans h) (fun v s hk => ⟨(K_slices_IndexFunc___api_Outcome_api_Outcome__v2_wk hk).1, rfl, (K_slices_IndexFunc___api_Outcome_api_Outcome__v2_wk hk).2⟩)


/-! slices.ContainsFunc[[]suture/api.Outcome,suture/api.Outcome] -/
def m_slices_ContainsFunc___api_Outcome_api_Outcome__v2 (n : Nat) (a0 : List T) (a1 : List T) (a2 : List T) (a3 : Bool) : Option (Bool × (List T) × (List T) × Bool) :=
Option.bind (m_slices_IndexFunc___api_Outcome_api_Outcome__v2 n a0 a1 a2 a3) fun r0 =>
some ((decide ((r0.1 : Int) ≥ 0)), r0.2.1, r0.2.2.1, r0.2.2.2)
def enc_slices_ContainsFunc___api_Outcome_api_Outcome__v2 (r : Bool × (List T) × (List T) × Bool) : V := (V.t (T.sc (.bool r.1)))
def encS_slices_ContainsFunc___api_Outcome_api_Outcome__v2 (r : Bool × (List T) × (List T) × Bool) : Sig := [some [(V.t (T.list r.2.1)), (V.t (T.list r.2.2.1)), (V.t (T.sc (.bool r.2.2.2)))]]
def ok_slices_ContainsFunc___api_Outcome_api_Outcome__v2 (m : List T → List T → List T → Bool → Option (Bool × (List T) × (List T) × Bool)) : Prop := ∀ (a0 : List T) (a1 : List T) (a2 : List T) (a3 : Bool) (r : Bool × (List T) × (List T) × Bool), m a0 a1 a2 a3 = some r → FuncOk Try.prog 16 [(V.t (T.list a0)), (V.fn 18 [(V.ptr 0 0)])] [some [(V.t (T.list a1)), (V.t (T.list a2)), (V.t (T.sc (.bool a3)))]] (enc_slices_ContainsFunc___api_Outcome_api_Outcome__v2 r) (encS_slices_ContainsFunc___api_Outcome_api_Outcome__v2 r)
def c_slices_ContainsFunc___api_Outcome_api_Outcome__v2 (m : List T → List T → List T → Bool → Option (Bool × (List T) × (List T) × Bool)) (vs : List V) (sg : Sig) : Option CallM := bif Nat.beq vs.length 2 && Nat.beq sg.length 1 then Option.bind (V.lstOf (vs.getD 0 .any)) fun u0 => Option.bind (V.fnN 18 1 (vs.getD 1 .any)) fun u1 => Option.bind (V.ptrOf 0 0 (u1.getD 0 .any)) fun u2 => Option.bind (cellsN 3 sg 0) fun g0 => Option.bind (V.lstOf (g0.getD 0 .any)) fun g1 => Option.bind (V.lstOf (g0.getD 1 .any)) fun g2 => Option.bind (V.boolOf (g0.getD 2 .any)) fun g3 => some { α := Bool × (List T) × (List T) × Bool, m := m u0 g1 g2 g3, dflt := (false, [], [], false), enc := fun y => ((V.t (T.sc (.bool y.1))), [some [(V.t (T.list y.2.1)), (V.t (T.list y.2.2.1)), (V.t (T.sc (.bool y.2.2.2)))]]) } else none
theorem c_slices_ContainsFunc___api_Outcome_api_Outcome__v2_ok (m : List T → List T → List T → Bool → Option (Bool × (List T) × (List T) × Bool)) (hm : ok_slices_ContainsFunc___api_Outcome_api_Outcome__v2 m) (vs : List V) (sg : Sig) (cm : CallM) (x : cm.α) (h : c_slices_ContainsFunc___api_Outcome_api_Outcome__v2 m vs sg = some cm) (hx : cm.m = some x) : FuncOk Try.prog 16 vs sg (cm.enc x).1 (cm.enc x).2 := by
  unfold c_slices_ContainsFunc___api_Outcome_api_Outcome__v2 at h
  have h0 := callee_sig h
  clear h
  obtain ⟨hl, hs, h⟩ := h0
  obtain ⟨u0, hu0, h⟩ := Option.bind_eq_some_iff.1 h
  obtain ⟨u1, hu1, h⟩ := Option.bind_eq_some_iff.1 h
  obtain ⟨u2, hu2, h⟩ := Option.bind_eq_some_iff.1 h
  obtain ⟨g0, hg0, h⟩ := Option.bind_eq_some_iff.1 h
  obtain ⟨g1, hg1, h⟩ := Option.bind_eq_some_iff.1 h
  obtain ⟨g2, hg2, h⟩ := Option.bind_eq_some_iff.1 h
  obtain ⟨g3, hg3, h⟩ := Option.bind_eq_some_iff.1 h
  simp only [Option.some.injEq] at h
  subst h
  exact (hm u0 g1 g2 g3 x hx).wk (args_wk hl (.cons (lstOf_wk hu0) (.cons (fnN_wk hu1 (.cons (ptrOf_wk hu2) .nil)) .nil))) (wkSg_of hs (.cons (cellsN_wk hg0 (.cons (lstOf_wk hg1) (.cons (lstOf_wk hg2) (.cons (boolOf_wk hg3) .nil)))) .nil))
noncomputable def code_slices_ContainsFunc___api_Outcome_api_Outcome__v2 : Code := Try.f16.body.getD .skip
noncomputable def sp_slices_ContainsFunc___api_Outcome_api_Outcome__v2 (n : Nat) : Go.Eng.Spec := ⟨fun f vs sg => (match f with
    | 25 => c_slices_IndexFunc___api_Outcome_api_Outcome__v2 (m_slices_IndexFunc___api_Outcome_api_Outcome__v2 n) vs sg
    | _ => none), fun R key E sg K => (match key with
    | _ => none)⟩
theorem sp_slices_ContainsFunc___api_Outcome_api_Outcome__v2_ok (n : Nat) : CallsOk Try.prog (sp_slices_ContainsFunc___api_Outcome_api_Outcome__v2 n) := by
  intro f vs sg cm x h hx
  simp only [sp_slices_ContainsFunc___api_Outcome_api_Outcome__v2] at h
  split at h
  · exact c_slices_IndexFunc___api_Outcome_api_Outcome__v2_ok _ (m_slices_IndexFunc___api_Outcome_api_Outcome__v2_ok n) vs sg cm x h hx
  · cases h
theorem code_slices_ContainsFunc___api_Outcome_api_Outcome__v2_fn : Try.prog.funcs[16]? = some Try.f16 := Try.func16
theorem code_slices_ContainsFunc___api_Outcome_api_Outcome__v2_body : Try.f16.body = some code_slices_ContainsFunc___api_Outcome_api_Outcome__v2 := by kernel_rfl
theorem code_slices_ContainsFunc___api_Outcome_api_Outcome__v2_ok : CodeOk Try.prog code_slices_ContainsFunc___api_Outcome_api_Outcome__v2 := (sound 16 _ _ code_slices_ContainsFunc___api_Outcome_api_Outcome__v2_fn code_slices_ContainsFunc___api_Outcome_api_Outcome__v2_body).1
def K_slices_ContainsFunc___api_Outcome_api_Outcome__v2 (v : V) (s : Sig) : Option (Bool × (List T) × (List T) × Bool) := Option.bind (V.boolOf v) fun u0 => Option.bind (cellsN 3 s 0) fun g0 => Option.bind (V.lstOf (g0.getD 0 .any)) fun g1 => Option.bind (V.lstOf (g0.getD 1 .any)) fun g2 => Option.bind (V.boolOf (g0.getD 2 .any)) fun g3 => some (u0, g1, g2, g3)
theorem K_slices_ContainsFunc___api_Outcome_api_Outcome__v2_wk {v : V} {s : Sig} {r : Bool × (List T) × (List T) × Bool} (h : K_slices_ContainsFunc___api_Outcome_api_Outcome__v2 v s = some r) : Wk v (enc_slices_ContainsFunc___api_Outcome_api_Outcome__v2 r) ∧ WkS 1 s (encS_slices_ContainsFunc___api_Outcome_api_Outcome__v2 r) := by
  unfold K_slices_ContainsFunc___api_Outcome_api_Outcome__v2 at h
  obtain ⟨u0, hu0, h⟩ := Option.bind_eq_some_iff.1 h
  obtain ⟨g0, hg0, h⟩ := Option.bind_eq_some_iff.1 h
  obtain ⟨g1, hg1, h⟩ := Option.bind_eq_some_iff.1 h
  obtain ⟨g2, hg2, h⟩ := Option.bind_eq_some_iff.1 h
  obtain ⟨g3, hg3, h⟩ := Option.bind_eq_some_iff.1 h
  simp only [Option.some.injEq] at h
  subst h
  exact ⟨(boolOf_wk hu0), (wkR_sig (WkR.cons (cellsN_wk hg0 (.cons (lstOf_wk hg1) (.cons (lstOf_wk hg2) (.cons (boolOf_wk hg3) .nil)))).1 (cellsN_wk hg0 (.cons (lstOf_wk hg1) (.cons (lstOf_wk hg2) (.cons (boolOf_wk hg3) .nil)))).2 (renL_mem (.cons rfl (.cons rfl (.cons rfl .nil)))) (WkR.nil _)) rfl)⟩
theorem m_slices_ContainsFunc___api_Outcome_api_Outcome__v2_eq (n : Nat) (a0 : List T) (a1 : List T) (a2 : List T) (a3 : Bool) : mF Try.prog (sp_slices_ContainsFunc___api_Outcome_api_Outcome__v2 n) 16 [(V.t (T.list a0)), (V.fn 18 [(V.ptr 0 0)])] [some [(V.t (T.list a1)), (V.t (T.list a2)), (V.t (T.sc (.bool a3)))]] K_slices_ContainsFunc___api_Outcome_api_Outcome__v2 = m_slices_ContainsFunc___api_Outcome_api_Outcome__v2 n a0 a1 a2 a3 := by kernel_rfl
theorem m_slices_ContainsFunc___api_Outcome_api_Outcome__v2_ok (n : Nat) : ok_slices_ContainsFunc___api_Outcome_api_Outcome__v2 (m_slices_ContainsFunc___api_Outcome_api_Outcome__v2 n) := fun a0 a1 a2 a3 r h => mF_ok sound (sp_slices_ContainsFunc___api_Outcome_api_Outcome__v2_ok n) code_slices_ContainsFunc___api_Outcome_api_Outcome__v2_fn code_slices_ContainsFunc___api_Outcome_api_Outcome__v2_body (fun a ha => absurd ha (by rw [show loopsOf code_slices_ContainsFunc___api_Outcome_api_Outcome__v2 = [] from by kernel_rfl]; simp)) ((m_slices_ContainsFunc___api_Outcome_api_Outcome__v2_eq n a0 a1 a2 a3).trans h) (fun v s hk => ⟨(K_slices_ContainsFunc___api_Outcome_api_Outcome__v2_wk hk).1, rfl, (K_slices_ContainsFunc___api_Outcome_api_Outcome__v2_wk hk).2⟩)


/-! suture/judge.Within$1 -/
def m_judge_Within_1 (n : Nat) (a0 : List T) (a1 : List T) (a2 : Bool) (a3 : List T) : Option (Bool × (List T)) :=
Option.bind (m_slices_ContainsFunc___api_Outcome_api_Outcome__v2 n a3 a0 a1 a2) fun r0 =>
some ((!r0.1), a3)
def enc_judge_Within_1 (r : Bool × (List T)) : V := (V.t (T.sc (.bool r.1)))
def encS_judge_Within_1 (r : Bool × (List T)) : Sig := [some [(V.t (T.list r.2))]]
def ok_judge_Within_1 (m : List T → List T → Bool → List T → Option (Bool × (List T))) : Prop := ∀ (a0 : List T) (a1 : List T) (a2 : Bool) (a3 : List T) (r : Bool × (List T)), m a0 a1 a2 a3 = some r → FuncOk Try.prog 17 [(V.agg [(V.t (T.list a0)), (V.t (T.list a1)), (V.t (T.sc (.bool a2)))]), (V.ptr 0 0)] [some [(V.t (T.list a3))]] (enc_judge_Within_1 r) (encS_judge_Within_1 r)
def c_judge_Within_1 (m : List T → List T → Bool → List T → Option (Bool × (List T))) (vs : List V) (sg : Sig) : Option CallM := bif Nat.beq vs.length 2 && Nat.beq sg.length 1 then Option.bind (V.aggN 3 (vs.getD 0 .any)) fun u0 => Option.bind (V.lstOf (u0.getD 0 .any)) fun u1 => Option.bind (V.lstOf (u0.getD 1 .any)) fun u2 => Option.bind (V.boolOf (u0.getD 2 .any)) fun u3 => Option.bind (V.ptrOf 0 0 (vs.getD 1 .any)) fun u4 => Option.bind (cellsN 1 sg 0) fun g0 => Option.bind (V.lstOf (g0.getD 0 .any)) fun g1 => some { α := Bool × (List T), m := m u1 u2 u3 g1, dflt := (false, []), enc := fun y => ((V.t (T.sc (.bool y.1))), [some [(V.t (T.list y.2))]]) } else none
theorem c_judge_Within_1_ok (m : List T → List T → Bool → List T → Option (Bool × (List T))) (hm : ok_judge_Within_1 m) (vs : List V) (sg : Sig) (cm : CallM) (x : cm.α) (h : c_judge_Within_1 m vs sg = some cm) (hx : cm.m = some x) : FuncOk Try.prog 17 vs sg (cm.enc x).1 (cm.enc x).2 := by
  unfold c_judge_Within_1 at h
  have h0 := callee_sig h
  clear h
  obtain ⟨hl, hs, h⟩ := h0
  obtain ⟨u0, hu0, h⟩ := Option.bind_eq_some_iff.1 h
  obtain ⟨u1, hu1, h⟩ := Option.bind_eq_some_iff.1 h
  obtain ⟨u2, hu2, h⟩ := Option.bind_eq_some_iff.1 h
  obtain ⟨u3, hu3, h⟩ := Option.bind_eq_some_iff.1 h
  obtain ⟨u4, hu4, h⟩ := Option.bind_eq_some_iff.1 h
  obtain ⟨g0, hg0, h⟩ := Option.bind_eq_some_iff.1 h
  obtain ⟨g1, hg1, h⟩ := Option.bind_eq_some_iff.1 h
  simp only [Option.some.injEq] at h
  subst h
  exact (hm u1 u2 u3 g1 x hx).wk (args_wk hl (.cons (aggN_wk hu0 (.cons (lstOf_wk hu1) (.cons (lstOf_wk hu2) (.cons (boolOf_wk hu3) .nil)))) (.cons (ptrOf_wk hu4) .nil))) (wkSg_of hs (.cons (cellsN_wk hg0 (.cons (lstOf_wk hg1) .nil)) .nil))
noncomputable def code_judge_Within_1 : Code := Try.f17.body.getD .skip
noncomputable def sp_judge_Within_1 (n : Nat) : Go.Eng.Spec := ⟨fun f vs sg => (match f with
    | 16 => c_slices_ContainsFunc___api_Outcome_api_Outcome__v2 (m_slices_ContainsFunc___api_Outcome_api_Outcome__v2 n) vs sg
    | _ => none), fun R key E sg K => (match key with
    | _ => none)⟩
theorem sp_judge_Within_1_ok (n : Nat) : CallsOk Try.prog (sp_judge_Within_1 n) := by
  intro f vs sg cm x h hx
  simp only [sp_judge_Within_1] at h
  split at h
  · exact c_slices_ContainsFunc___api_Outcome_api_Outcome__v2_ok _ (m_slices_ContainsFunc___api_Outcome_api_Outcome__v2_ok n) vs sg cm x h hx
  · cases h
theorem code_judge_Within_1_fn : Try.prog.funcs[17]? = some Try.f17 := Try.func17
theorem code_judge_Within_1_body : Try.f17.body = some code_judge_Within_1 := by kernel_rfl
theorem code_judge_Within_1_ok : CodeOk Try.prog code_judge_Within_1 := (sound 17 _ _ code_judge_Within_1_fn code_judge_Within_1_body).1
def K_judge_Within_1 (v : V) (s : Sig) : Option (Bool × (List T)) := Option.bind (V.boolOf v) fun u0 => Option.bind (cellsN 1 s 0) fun g0 => Option.bind (V.lstOf (g0.getD 0 .any)) fun g1 => some (u0, g1)
theorem K_judge_Within_1_wk {v : V} {s : Sig} {r : Bool × (List T)} (h : K_judge_Within_1 v s = some r) : Wk v (enc_judge_Within_1 r) ∧ WkS 1 s (encS_judge_Within_1 r) := by
  unfold K_judge_Within_1 at h
  obtain ⟨u0, hu0, h⟩ := Option.bind_eq_some_iff.1 h
  obtain ⟨g0, hg0, h⟩ := Option.bind_eq_some_iff.1 h
  obtain ⟨g1, hg1, h⟩ := Option.bind_eq_some_iff.1 h
  simp only [Option.some.injEq] at h
  subst h
  exact ⟨(boolOf_wk hu0), (wkR_sig (WkR.cons (cellsN_wk hg0 (.cons (lstOf_wk hg1) .nil)).1 (cellsN_wk hg0 (.cons (lstOf_wk hg1) .nil)).2 (renL_mem (.cons rfl .nil)) (WkR.nil _)) rfl)⟩
theorem m_judge_Within_1_eq (n : Nat) (a0 : List T) (a1 : List T) (a2 : Bool) (a3 : List T) : mF Try.prog (sp_judge_Within_1 n) 17 [(V.agg [(V.t (T.list a0)), (V.t (T.list a1)), (V.t (T.sc (.bool a2)))]), (V.ptr 0 0)] [some [(V.t (T.list a3))]] K_judge_Within_1 = m_judge_Within_1 n a0 a1 a2 a3 := by kernel_rfl
theorem m_judge_Within_1_ok (n : Nat) : ok_judge_Within_1 (m_judge_Within_1 n) := fun a0 a1 a2 a3 r h => mF_ok sound (sp_judge_Within_1_ok n) code_judge_Within_1_fn code_judge_Within_1_body (fun a ha => absurd ha (by rw [show loopsOf code_judge_Within_1 = [] from by kernel_rfl]; simp)) ((m_judge_Within_1_eq n a0 a1 a2 a3).trans h) (fun v s hk => ⟨(K_judge_Within_1_wk hk).1, rfl, (K_judge_Within_1_wk hk).2⟩)


/-! slices.IndexFunc[[]suture/api.Outcome,suture/api.Outcome] -/
def l_slices_IndexFunc___api_Outcome_api_Outcome__2_B (n : Nat) (k : (List T) × Int × Int × (List T) → Option (((Int × (List T)) ⊕ (List T)))) : (List T) × Int × Int × (List T) → Option (((Int × (List T)) ⊕ (List T))) := fun (s0, s1, s2, s3) =>
bif (decide ((s2 : Int) < s1)) then (
Option.bind (idx true [.list, .list, .bool] s0 s2) fun y0 =>
Option.bind (m_judge_Within_1 n (y0.cell 0).lst (y0.cell 1).lst (y0.cell 2).bool s3) fun r1 =>
bif r1.1 then (
some (Sum.inl (s2, r1.2)))
else (
k (s0, s1, (IntKind.wrap .i64 (s2 + 1)), r1.2)))
else (
some (Sum.inr s3))
def l_slices_IndexFunc___api_Outcome_api_Outcome__2 (n : Nat) : Nat → (List T) × Int × Int × (List T) → Option (((Int × (List T)) ⊕ (List T)))
  | 0, _ => none
  | m + 1, s => l_slices_IndexFunc___api_Outcome_api_Outcome__2_B n (l_slices_IndexFunc___api_Outcome_api_Outcome__2 n m) s
def m_slices_IndexFunc___api_Outcome_api_Outcome_ (n : Nat) (a0 : List T) (a1 : List T) : Option (Int × (List T)) :=
Option.bind (l_slices_IndexFunc___api_Outcome_api_Outcome__2 n n (a0, ((List.length a0 : Nat) : Int), 0, a1)) fun x2 =>
Sum.elim (fun p3 => 
some (p3.1, p3.2)) (fun x2' => (fun p4 => 
some ((-1), p4)) x2') x2
def enc_slices_IndexFunc___api_Outcome_api_Outcome_ (r : Int × (List T)) : V := (V.t (T.sc (.int .i64 r.1)))
def encS_slices_IndexFunc___api_Outcome_api_Outcome_ (r : Int × (List T)) : Sig := [some [(V.t (T.list r.2))]]
def ok_slices_IndexFunc___api_Outcome_api_Outcome_ (m : List T → List T → Option (Int × (List T))) : Prop := ∀ (a0 : List T) (a1 : List T) (r : Int × (List T)), m a0 a1 = some r → FuncOk Try.prog 25 [(V.t (T.list a0)), (V.fn 17 [(V.ptr 0 0)])] [some [(V.t (T.list a1))]] (enc_slices_IndexFunc___api_Outcome_api_Outcome_ r) (encS_slices_IndexFunc___api_Outcome_api_Outcome_ r)
def c_slices_IndexFunc___api_Outcome_api_Outcome_ (m : List T → List T → Option (Int × (List T))) (vs : List V) (sg : Sig) : Option CallM := bif Nat.beq vs.length 2 && Nat.beq sg.length 1 then Option.bind (V.lstOf (vs.getD 0 .any)) fun u0 => Option.bind (V.fnN 17 1 (vs.getD 1 .any)) fun u1 => Option.bind (V.ptrOf 0 0 (u1.getD 0 .any)) fun u2 => Option.bind (cellsN 1 sg 0) fun g0 => Option.bind (V.lstOf (g0.getD 0 .any)) fun g1 => some { α := Int × (List T), m := m u0 g1, dflt := (0, []), enc := fun y => ((V.t (T.sc (.int .i64 y.1))), [some [(V.t (T.list y.2))]]) } else none
theorem c_slices_IndexFunc___api_Outcome_api_Outcome__ok (m : List T → List T → Option (Int × (List T))) (hm : ok_slices_IndexFunc___api_Outcome_api_Outcome_ m) (vs : List V) (sg : Sig) (cm : CallM) (x : cm.α) (h : c_slices_IndexFunc___api_Outcome_api_Outcome_ m vs sg = some cm) (hx : cm.m = some x) : FuncOk Try.prog 25 vs sg (cm.enc x).1 (cm.enc x).2 := by
  unfold c_slices_IndexFunc___api_Outcome_api_Outcome_ at h
  have h0 := callee_sig h
  clear h
  obtain ⟨hl, hs, h⟩ := h0
  obtain ⟨u0, hu0, h⟩ := Option.bind_eq_some_iff.1 h
  obtain ⟨u1, hu1, h⟩ := Option.bind_eq_some_iff.1 h
  obtain ⟨u2, hu2, h⟩ := Option.bind_eq_some_iff.1 h
  obtain ⟨g0, hg0, h⟩ := Option.bind_eq_some_iff.1 h
  obtain ⟨g1, hg1, h⟩ := Option.bind_eq_some_iff.1 h
  simp only [Option.some.injEq] at h
  subst h
  exact (hm u0 g1 x hx).wk (args_wk hl (.cons (lstOf_wk hu0) (.cons (fnN_wk hu1 (.cons (ptrOf_wk hu2) .nil)) .nil))) (wkSg_of hs (.cons (cellsN_wk hg0 (.cons (lstOf_wk hg1) .nil)) .nil))
noncomputable def code_slices_IndexFunc___api_Outcome_api_Outcome_ : Code := Try.f25.body.getD .skip
def l_slices_IndexFunc___api_Outcome_api_Outcome__2_S (n : Nat) (R : Type) (E : SEnv) (sg : Sig) (K : Ex → SEnv → Sig → Option R) : Option R := Option.bind (V.lstOf (SEnv.at E 0)) fun u0 => Option.bind (V.fnN 17 1 (SEnv.at E 1)) fun u1 => Option.bind (V.ptrOf 0 0 (u1.getD 0 .any)) fun u2 => Option.bind (V.intOf .i64 (SEnv.at E 7)) fun u3 => Option.bind (V.intOf .i64 (SEnv.at E 8)) fun u4 => Option.bind (cellsN 1 sg 0) fun u5 => Option.bind (V.lstOf (u5.getD 0 .any)) fun u6 => Option.bind (l_slices_IndexFunc___api_Outcome_api_Outcome__2 n n (u0, u3, u4, u6)) fun y => Sum.elim (fun p0 => K .ret [(4, (V.t (T.sc (.int .i64 p0.1))))] [some [(V.t (T.list p0.2))]]) (fun y' => (fun p1 => K (.exit 0) [] [some [(V.t (T.list p1))]]) y') y
noncomputable def sp_slices_IndexFunc___api_Outcome_api_Outcome_ (n : Nat) : Go.Eng.Spec := ⟨fun f vs sg => (match f with
    | 17 => c_judge_Within_1 (m_judge_Within_1 n) vs sg
    | _ => none), fun R key E sg K => (match key with
    | 2 => l_slices_IndexFunc___api_Outcome_api_Outcome__2_S n R E sg K
    | _ => none)⟩
theorem sp_slices_IndexFunc___api_Outcome_api_Outcome__ok (n : Nat) : CallsOk Try.prog (sp_slices_IndexFunc___api_Outcome_api_Outcome_ n) := by
  intro f vs sg cm x h hx
  simp only [sp_slices_IndexFunc___api_Outcome_api_Outcome_] at h
  split at h
  · exact c_judge_Within_1_ok _ (m_judge_Within_1_ok n) vs sg cm x h hx
  · cases h
theorem code_slices_IndexFunc___api_Outcome_api_Outcome__fn : Try.prog.funcs[25]? = some Try.f25 := Try.func25
theorem code_slices_IndexFunc___api_Outcome_api_Outcome__body : Try.f25.body = some code_slices_IndexFunc___api_Outcome_api_Outcome_ := by kernel_rfl
theorem code_slices_IndexFunc___api_Outcome_api_Outcome__ok : CodeOk Try.prog code_slices_IndexFunc___api_Outcome_api_Outcome_ := (sound 25 _ _ code_slices_IndexFunc___api_Outcome_api_Outcome__fn code_slices_IndexFunc___api_Outcome_api_Outcome__body).1
noncomputable def code_l_slices_IndexFunc___api_Outcome_api_Outcome__2 : Code := (loopsOf code_slices_IndexFunc___api_Outcome_api_Outcome_).getD 0 .skip
theorem code_l_slices_IndexFunc___api_Outcome_api_Outcome__2_ok : CodeOk Try.prog code_l_slices_IndexFunc___api_Outcome_api_Outcome__2 := codeOk_loops code_slices_IndexFunc___api_Outcome_api_Outcome__ok _ (getD_mem (by kernel_rfl))
def l_slices_IndexFunc___api_Outcome_api_Outcome__2_K (k : (List T) × Int × Int × (List T) → Option (((Int × (List T)) ⊕ (List T)))) : Ex → SEnv → Sig → Option (((Int × (List T)) ⊕ (List T))) := fun x E sg => match x with
  | .normal => Option.bind (V.lstOf (SEnv.at E 0)) fun u0 => Option.bind (V.fnN 17 1 (SEnv.at E 1)) fun u1 => Option.bind (V.ptrOf 0 0 (u1.getD 0 .any)) fun u2 => Option.bind (V.intOf .i64 (SEnv.at E 7)) fun u3 => Option.bind (V.intOf .i64 (SEnv.at E 8)) fun u4 => Option.bind (cellsN 1 sg 0) fun u5 => Option.bind (V.lstOf (u5.getD 0 .any)) fun u6 => k (u0, u3, u4, u6)
  | .ret => Option.bind (V.intOf .i64 (SEnv.at E 4)) fun u0 => Option.bind (cellsN 1 sg 0) fun u1 => Option.bind (V.lstOf (u1.getD 0 .any)) fun u2 => some (Sum.inl (u0, u2))
  | (.exit 0) => Option.bind (cellsN 1 sg 0) fun u0 => Option.bind (V.lstOf (u0.getD 0 .any)) fun u1 => some (Sum.inr u1)
  | _ => none
theorem l_slices_IndexFunc___api_Outcome_api_Outcome__2_eq (n : Nat) (k : (List T) × Int × Int × (List T) → Option (((Int × (List T)) ⊕ (List T)))) (s0 : List T) (s1 : Int) (s2 : Int) (s3 : List T) : mX Try.prog (sp_slices_IndexFunc___api_Outcome_api_Outcome_ n) 19 code_l_slices_IndexFunc___api_Outcome_api_Outcome__2 [(0, (V.t (T.list s0))), (1, (V.fn 17 [(V.ptr 0 0)])), (7, (V.t (T.sc (.int .i64 s1)))), (8, (V.t (T.sc (.int .i64 s2))))] [some [(V.t (T.list s3))]] (l_slices_IndexFunc___api_Outcome_api_Outcome__2_K k) = l_slices_IndexFunc___api_Outcome_api_Outcome__2_B n k (s0, s1, s2, s3) := by kernel_rfl
def l_slices_IndexFunc___api_Outcome_api_Outcome__2_Q (x : ((Int × (List T)) ⊕ (List T))) (ex : Ex) (e : Env) (s : Sig) : Prop := Sum.elim (fun p0 => (ex = .ret ∧ e = SEnv.env 19 [(4, (V.t (T.sc (.int .i64 p0.1))))] ∧ s = [some [(V.t (T.list p0.2))]])) (fun x' => (fun p1 => (ex = (.exit 0) ∧ e = SEnv.env 19 [] ∧ s = [some [(V.t (T.list p1))]])) x') x
theorem l_slices_IndexFunc___api_Outcome_api_Outcome__2_run (n : Nat) : ∀ (m : Nat) (s0 : List T) (s1 : Int) (s2 : Int) (s3 : List T) (x : ((Int × (List T)) ⊕ (List T))), l_slices_IndexFunc___api_Outcome_api_Outcome__2 n m (s0, s1, s2, s3) = some x → SemL Try.prog 1 code_l_slices_IndexFunc___api_Outcome_api_Outcome__2 (SEnv.env 19 [(0, (V.t (T.list s0))), (1, (V.fn 17 [(V.ptr 0 0)])), (7, (V.t (T.sc (.int .i64 s1)))), (8, (V.t (T.sc (.int .i64 s2))))]) [some [(V.t (T.list s3))]] (l_slices_IndexFunc___api_Outcome_api_Outcome__2_Q x)
  | 0, s0, s1, s2, s3, x, h => by cases h
  | m + 1, s0, s1, s2, s3, x, h => by
    refine loop_step (sp_slices_IndexFunc___api_Outcome_api_Outcome__ok n) code_l_slices_IndexFunc___api_Outcome_api_Outcome__2_ok (fun a ha => absurd ha (by rw [show loopsOf code_l_slices_IndexFunc___api_Outcome_api_Outcome__2 = [] from by kernel_rfl]; simp)) ((l_slices_IndexFunc___api_Outcome_api_Outcome__2_eq n _ s0 s1 s2 s3).trans h) (fun E sg h => ?_) (fun ex E sg hne h => ?_)
    · simp only [l_slices_IndexFunc___api_Outcome_api_Outcome__2_K] at h
      obtain ⟨u0, hu0, h⟩ := Option.bind_eq_some_iff.1 h
      obtain ⟨u1, hu1, h⟩ := Option.bind_eq_some_iff.1 h
      obtain ⟨u2, hu2, h⟩ := Option.bind_eq_some_iff.1 h
      obtain ⟨u3, hu3, h⟩ := Option.bind_eq_some_iff.1 h
      obtain ⟨u4, hu4, h⟩ := Option.bind_eq_some_iff.1 h
      obtain ⟨u5, hu5, h⟩ := Option.bind_eq_some_iff.1 h
      obtain ⟨u6, hu6, h⟩ := Option.bind_eq_some_iff.1 h
      exact SemL.pre (k := 1) (by decide) (WkA.env (WkA.cons (lstOf_wk hu0) rfl (WkA.cons (fnN_wk hu1 (.cons (ptrOf_wk hu2) .nil)) rfl (WkA.cons (intOf_wk hu3) rfl (WkA.cons (intOf_wk hu4) rfl WkA.nil)))) 19) (wkR_sig (WkR.cons (cellsN_wk hu5 (.cons (lstOf_wk hu6) .nil)).1 (cellsN_wk hu5 (.cons (lstOf_wk hu6) .nil)).2 (renL_mem (.cons rfl .nil)) (WkR.nil _)) rfl) (l_slices_IndexFunc___api_Outcome_api_Outcome__2_run n m _ _ _ _ x h)
    · unfold l_slices_IndexFunc___api_Outcome_api_Outcome__2_K at h
      split at h
      · exact absurd rfl hne
      · obtain ⟨u0, hu0, h⟩ := Option.bind_eq_some_iff.1 h
        obtain ⟨u1, hu1, h⟩ := Option.bind_eq_some_iff.1 h
        obtain ⟨u2, hu2, h⟩ := Option.bind_eq_some_iff.1 h
        simp only [Option.some.injEq] at h
        subst h
        exact ⟨1, _, _, by decide, WkA.env (WkA.cons (intOf_wk hu0) rfl WkA.nil) 19, (wkR_sig (WkR.cons (cellsN_wk hu1 (.cons (lstOf_wk hu2) .nil)).1 (cellsN_wk hu1 (.cons (lstOf_wk hu2) .nil)).2 (renL_mem (.cons rfl .nil)) (WkR.nil _)) rfl), rfl, rfl, rfl⟩
      · obtain ⟨u0, hu0, h⟩ := Option.bind_eq_some_iff.1 h
        obtain ⟨u1, hu1, h⟩ := Option.bind_eq_some_iff.1 h
        simp only [Option.some.injEq] at h
        subst h
        exact ⟨1, _, _, by decide, WkA.env WkA.nil 19, (wkR_sig (WkR.cons (cellsN_wk hu0 (.cons (lstOf_wk hu1) .nil)).1 (cellsN_wk hu0 (.cons (lstOf_wk hu1) .nil)).2 (renL_mem (.cons rfl .nil)) (WkR.nil _)) rfl), rfl, rfl, rfl⟩
      · cases h
theorem l_slices_IndexFunc___api_Outcome_api_Outcome__2_ok (n : Nat) : LoopOk Try.prog (sp_slices_IndexFunc___api_Outcome_api_Outcome_ n) 1 19 code_l_slices_IndexFunc___api_Outcome_api_Outcome__2 := by
    intro R key E sg K r hk h
    rw [show Go.Eng.keyOf code_l_slices_IndexFunc___api_Outcome_api_Outcome__2 = some 2 from by kernel_rfl] at hk
    cases hk
    have h : l_slices_IndexFunc___api_Outcome_api_Outcome__2_S n R E sg K = some r := h
    unfold l_slices_IndexFunc___api_Outcome_api_Outcome__2_S at h
    obtain ⟨u0, hu0, h⟩ := Option.bind_eq_some_iff.1 h
    obtain ⟨u1, hu1, h⟩ := Option.bind_eq_some_iff.1 h
    obtain ⟨u2, hu2, h⟩ := Option.bind_eq_some_iff.1 h
    obtain ⟨u3, hu3, h⟩ := Option.bind_eq_some_iff.1 h
    obtain ⟨u4, hu4, h⟩ := Option.bind_eq_some_iff.1 h
    obtain ⟨u5, hu5, h⟩ := Option.bind_eq_some_iff.1 h
    obtain ⟨u6, hu6, h⟩ := Option.bind_eq_some_iff.1 h
    obtain ⟨x, hx, h⟩ := Option.bind_eq_some_iff.1 h
    refine (SemL.pre (k := 1) (by decide) (WkA.env (WkA.cons (lstOf_wk hu0) rfl (WkA.cons (fnN_wk hu1 (.cons (ptrOf_wk hu2) .nil)) rfl (WkA.cons (intOf_wk hu3) rfl (WkA.cons (intOf_wk hu4) rfl WkA.nil)))) 19) (wkR_sig (WkR.cons (cellsN_wk hu5 (.cons (lstOf_wk hu6) .nil)).1 (cellsN_wk hu5 (.cons (lstOf_wk hu6) .nil)).2 (renL_mem (.cons rfl .nil)) (WkR.nil _)) rfl) (l_slices_IndexFunc___api_Outcome_api_Outcome__2_run n n _ _ _ _ x hx)).mono ?_
    intro ex e s hq
    rcases x with x | x <;> (obtain ⟨rfl, rfl, rfl⟩ := hq; exact ⟨_, rfl, h⟩) -- 5
def K_slices_IndexFunc___api_Outcome_api_Outcome_ (v : V) (s : Sig) : Option (Int × (List T)) := Option.bind (V.intOf .i64 v) fun u0 => Option.bind (cellsN 1 s 0) fun g0 => Option.bind (V.lstOf (g0.getD 0 .any)) fun g1 => some (u0, g1)
theorem K_slices_IndexFunc___api_Outcome_api_Outcome__wk {v : V} {s : Sig} {r : Int × (List T)} (h : K_slices_IndexFunc___api_Outcome_api_Outcome_ v s = some r) : Wk v (enc_slices_IndexFunc___api_Outcome_api_Outcome_ r) ∧ WkS 1 s (encS_slices_IndexFunc___api_Outcome_api_Outcome_ r) := by
  unfold K_slices_IndexFunc___api_Outcome_api_Outcome_ at h
  obtain ⟨u0, hu0, h⟩ := Option.bind_eq_some_iff.1 h
  obtain ⟨g0, hg0, h⟩ := Option.bind_eq_some_iff.1 h
  obtain ⟨g1, hg1, h⟩ := Option.bind_eq_some_iff.1 h
  simp only [Option.some.injEq] at h
  subst h
  exact ⟨(intOf_wk hu0), (wkR_sig (WkR.cons (cellsN_wk hg0 (.cons (lstOf_wk hg1) .nil)).1 (cellsN_wk hg0 (.cons (lstOf_wk hg1) .nil)).2 (renL_mem (.cons rfl .nil)) (WkR.nil _)) rfl)⟩
theorem m_slices_IndexFunc___api_Outcome_api_Outcome__eq (n : Nat) (a0 : List T) (a1 : List T) : mF Try.prog (sp_slices_IndexFunc___api_Outcome_api_Outcome_ n) 25 [(V.t (T.list a0)), (V.fn 17 [(V.ptr 0 0)])] [some [(V.t (T.list a1))]] K_slices_IndexFunc___api_Outcome_api_Outcome_ = m_slices_IndexFunc___api_Outcome_api_Outcome_ n a0 a1 := by kernel_rfl
theorem m_slices_IndexFunc___api_Outcome_api_Outcome__ok (n : Nat) : ok_slices_IndexFunc___api_Outcome_api_Outcome_ (m_slices_IndexFunc___api_Outcome_api_Outcome_ n) := fun a0 a1 r h => mF_ok sound (sp_slices_IndexFunc___api_Outcome_api_Outcome__ok n) code_slices_IndexFunc___api_Outcome_api_Outcome__fn code_slices_IndexFunc___api_Outcome_api_Outcome__body (forall_getD (d := .skip) 1 (by kernel_rfl) (fun i hi => match i, hi with | 0, _ => l_slices_IndexFunc___api_Outcome_api_Outcome__2_ok n | i + 1, hi => absurd hi (by omega))) ((m_slices_IndexFunc___api_Outcome_api_Outcome__eq n a0 a1).trans h) (fun v s hk => ⟨(K_slices_IndexFunc___api_Outcome_api_Outcome__wk hk).1, rfl, (K_slices_IndexFunc___api_Outcome_api_Outcome__wk hk).2⟩)


/-! slices.ContainsFunc[[]suture/api.Outcome,suture/api.Outcome] -/
def m_slices_ContainsFunc___api_Outcome_api_Outcome_ (n : Nat) (a0 : List T) (a1 : List T) : Option (Bool × (List T)) :=
Option.bind (m_slices_IndexFunc___api_Outcome_api_Outcome_ n a0 a1) fun r0 =>
some ((decide ((r0.1 : Int) ≥ 0)), r0.2)
def enc_slices_ContainsFunc___api_Outcome_api_Outcome_ (r : Bool × (List T)) : V := (V.t (T.sc (.bool r.1)))
def encS_slices_ContainsFunc___api_Outcome_api_Outcome_ (r : Bool × (List T)) : Sig := [some [(V.t (T.list r.2))]]
def ok_slices_ContainsFunc___api_Outcome_api_Outcome_ (m : List T → List T → Option (Bool × (List T))) : Prop := ∀ (a0 : List T) (a1 : List T) (r : Bool × (List T)), m a0 a1 = some r → FuncOk Try.prog 16 [(V.t (T.list a0)), (V.fn 17 [(V.ptr 0 0)])] [some [(V.t (T.list a1))]] (enc_slices_ContainsFunc___api_Outcome_api_Outcome_ r) (encS_slices_ContainsFunc___api_Outcome_api_Outcome_ r)
def c_slices_ContainsFunc___api_Outcome_api_Outcome_ (m : List T → List T → Option (Bool × (List T))) (vs : List V) (sg : Sig) : Option CallM := bif Nat.beq vs.length 2 && Nat.beq sg.length 1 then Option.bind (V.lstOf (vs.getD 0 .any)) fun u0 => Option.bind (V.fnN 17 1 (vs.getD 1 .any)) fun u1 => Option.bind (V.ptrOf 0 0 (u1.getD 0 .any)) fun u2 => Option.bind (cellsN 1 sg 0) fun g0 => Option.bind (V.lstOf (g0.getD 0 .any)) fun g1 => some { α := Bool × (List T), m := m u0 g1, dflt := (false, []), enc := fun y => ((V.t (T.sc (.bool y.1))), [some [(V.t (T.list y.2))]]) } else none
theorem c_slices_ContainsFunc___api_Outcome_api_Outcome__ok (m : List T → List T → Option (Bool × (List T))) (hm : ok_slices_ContainsFunc___api_Outcome_api_Outcome_ m) (vs : List V) (sg : Sig) (cm : CallM) (x : cm.α) (h : c_slices_ContainsFunc___api_Outcome_api_Outcome_ m vs sg = some cm) (hx : cm.m = some x) : FuncOk Try.prog 16 vs sg (cm.enc x).1 (cm.enc x).2 := by
  unfold c_slices_ContainsFunc___api_Outcome_api_Outcome_ at h
  have h0 := callee_sig h
  clear h
  obtain ⟨hl, hs, h⟩ := h0
  obtain ⟨u0, hu0, h⟩ := Option.bind_eq_some_iff.1 h
  obtain ⟨u1, hu1, h⟩ := Option.bind_eq_some_iff.1 h
  obtain ⟨u2, hu2, h⟩ := Option.bind_eq_some_iff.1 h
  obtain ⟨g0, hg0, h⟩ := Option.bind_eq_some_iff.1 h
  obtain ⟨g1, hg1, h⟩ := Option.bind_eq_some_iff.1 h
  simp only [Option.some.injEq] at h
  subst h
  exact (hm u0 g1 x hx).wk (args_wk hl (.cons (lstOf_wk hu0) (.cons (fnN_wk hu1 (.cons (ptrOf_wk hu2) .nil)) .nil))) (wkSg_of hs (.cons (cellsN_wk hg0 (.cons (lstOf_wk hg1) .nil)) .nil))
noncomputable def code_slices_ContainsFunc___api_Outcome_api_Outcome_ : Code := Try.f16.body.getD .skip
noncomputable def sp_slices_ContainsFunc___api_Outcome_api_Outcome_ (n : Nat) : Go.Eng.Spec := ⟨fun f vs sg => (match f with
    | 25 => c_slices_IndexFunc___api_Outcome_api_Outcome_ (m_slices_IndexFunc___api_Outcome_api_Outcome_ n) vs sg
    | _ => none), fun R key E sg K => (match key with
    | _ => none)⟩
theorem sp_slices_ContainsFunc___api_Outcome_api_Outcome__ok (n : Nat) : CallsOk Try.prog (sp_slices_ContainsFunc___api_Outcome_api_Outcome_ n) := by
  intro f vs sg cm x h hx
  simp only [sp_slices_ContainsFunc___api_Outcome_api_Outcome_] at h
  split at h
  · exact c_slices_IndexFunc___api_Outcome_api_Outcome__ok _ (m_slices_IndexFunc___api_Outcome_api_Outcome__ok n) vs sg cm x h hx
  · cases h
theorem code_slices_ContainsFunc___api_Outcome_api_Outcome__fn : Try.prog.funcs[16]? = some Try.f16 := Try.func16
theorem code_slices_ContainsFunc___api_Outcome_api_Outcome__body : Try.f16.body = some code_slices_ContainsFunc___api_Outcome_api_Outcome_ := by kernel_rfl
theorem code_slices_ContainsFunc___api_Outcome_api_Outcome__ok : CodeOk Try.prog code_slices_ContainsFunc___api_Outcome_api_Outcome_ := (sound 16 _ _ code_slices_ContainsFunc___api_Outcome_api_Outcome__fn code_slices_ContainsFunc___api_Outcome_api_Outcome__body).1
def K_slices_ContainsFunc___api_Outcome_api_Outcome_ (v : V) (s : Sig) : Option (Bool × (List T)) := Option.bind (V.boolOf v) fun u0 => Option.bind (cellsN 1 s 0) fun g0 => Option.bind (V.lstOf (g0.getD 0 .any)) fun g1 => some (u0, g1)
theorem K_slices_ContainsFunc___api_Outcome_api_Outcome__wk {v : V} {s : Sig} {r : Bool × (List T)} (h : K_slices_ContainsFunc___api_Outcome_api_Outcome_ v s = some r) : Wk v (enc_slices_ContainsFunc___api_Outcome_api_Outcome_ r) ∧ WkS 1 s (encS_slices_ContainsFunc___api_Outcome_api_Outcome_ r) := by
  unfold K_slices_ContainsFunc___api_Outcome_api_Outcome_ at h
  obtain ⟨u0, hu0, h⟩ := Option.bind_eq_some_iff.1 h
  obtain ⟨g0, hg0, h⟩ := Option.bind_eq_some_iff.1 h
  obtain ⟨g1, hg1, h⟩ := Option.bind_eq_some_iff.1 h
  simp only [Option.some.injEq] at h
  subst h
  exact ⟨(boolOf_wk hu0), (wkR_sig (WkR.cons (cellsN_wk hg0 (.cons (lstOf_wk hg1) .nil)).1 (cellsN_wk hg0 (.cons (lstOf_wk hg1) .nil)).2 (renL_mem (.cons rfl .nil)) (WkR.nil _)) rfl)⟩
theorem m_slices_ContainsFunc___api_Outcome_api_Outcome__eq (n : Nat) (a0 : List T) (a1 : List T) : mF Try.prog (sp_slices_ContainsFunc___api_Outcome_api_Outcome_ n) 16 [(V.t (T.list a0)), (V.fn 17 [(V.ptr 0 0)])] [some [(V.t (T.list a1))]] K_slices_ContainsFunc___api_Outcome_api_Outcome_ = m_slices_ContainsFunc___api_Outcome_api_Outcome_ n a0 a1 := by kernel_rfl
theorem m_slices_ContainsFunc___api_Outcome_api_Outcome__ok (n : Nat) : ok_slices_ContainsFunc___api_Outcome_api_Outcome_ (m_slices_ContainsFunc___api_Outcome_api_Outcome_ n) := fun a0 a1 r h => mF_ok sound (sp_slices_ContainsFunc___api_Outcome_api_Outcome__ok n) code_slices_ContainsFunc___api_Outcome_api_Outcome__fn code_slices_ContainsFunc___api_Outcome_api_Outcome__body (fun a ha => absurd ha (by rw [show loopsOf code_slices_ContainsFunc___api_Outcome_api_Outcome_ = [] from by kernel_rfl]; simp)) ((m_slices_ContainsFunc___api_Outcome_api_Outcome__eq n a0 a1).trans h) (fun v s hk => ⟨(K_slices_ContainsFunc___api_Outcome_api_Outcome__wk hk).1, rfl, (K_slices_ContainsFunc___api_Outcome_api_Outcome__wk hk).2⟩)


/-! suture/judge.Within -/
def m_judge_Within (n : Nat) (a0 : List T) (a1 : List T) : Option (Bool) :=
Option.bind (m_slices_ContainsFunc___api_Outcome_api_Outcome_ n a0 a1) fun r0 =>
some (!r0.1)
def enc_judge_Within (r : Bool) : V := (V.t (T.sc (.bool r)))
def encS_judge_Within (r : Bool) : Sig := []
def ok_judge_Within (m : List T → List T → Option (Bool)) : Prop := ∀ (a0 : List T) (a1 : List T) (r : Bool), m a0 a1 = some r → FuncOk Try.prog 9 [(V.t (T.list a0)), (V.t (T.list a1))] [] (enc_judge_Within r) (encS_judge_Within r)
def c_judge_Within (m : List T → List T → Option (Bool)) (vs : List V) (sg : Sig) : Option CallM := bif Nat.beq vs.length 2 && Nat.beq sg.length 0 then Option.bind (V.lstOf (vs.getD 0 .any)) fun u0 => Option.bind (V.lstOf (vs.getD 1 .any)) fun u1 => some { α := Bool, m := m u0 u1, dflt := false, enc := fun y => ((V.t (T.sc (.bool y))), []) } else none
theorem c_judge_Within_ok (m : List T → List T → Option (Bool)) (hm : ok_judge_Within m) (vs : List V) (sg : Sig) (cm : CallM) (x : cm.α) (h : c_judge_Within m vs sg = some cm) (hx : cm.m = some x) : FuncOk Try.prog 9 vs sg (cm.enc x).1 (cm.enc x).2 := by
  unfold c_judge_Within at h
  have h0 := callee_sig h
  clear h
  obtain ⟨hl, hs, h⟩ := h0
  obtain ⟨u0, hu0, h⟩ := Option.bind_eq_some_iff.1 h
  obtain ⟨u1, hu1, h⟩ := Option.bind_eq_some_iff.1 h
  simp only [Option.some.injEq] at h
  subst h
  exact (hm u0 u1 x hx).wk (args_wk hl (.cons (lstOf_wk hu0) (.cons (lstOf_wk hu1) .nil))) (wkSg_of hs .nil)
noncomputable def code_judge_Within : Code := Try.f9.body.getD .skip
noncomputable def sp_judge_Within (n : Nat) : Go.Eng.Spec := ⟨fun f vs sg => (match f with
    | 16 => c_slices_ContainsFunc___api_Outcome_api_Outcome_ (m_slices_ContainsFunc___api_Outcome_api_Outcome_ n) vs sg
    | _ => none), fun R key E sg K => (match key with
    | _ => none)⟩
theorem sp_judge_Within_ok (n : Nat) : CallsOk Try.prog (sp_judge_Within n) := by
  intro f vs sg cm x h hx
  simp only [sp_judge_Within] at h
  split at h
  · exact c_slices_ContainsFunc___api_Outcome_api_Outcome__ok _ (m_slices_ContainsFunc___api_Outcome_api_Outcome__ok n) vs sg cm x h hx
  · cases h
theorem code_judge_Within_fn : Try.prog.funcs[9]? = some Try.f9 := Try.func9
theorem code_judge_Within_body : Try.f9.body = some code_judge_Within := by kernel_rfl
theorem code_judge_Within_ok : CodeOk Try.prog code_judge_Within := (sound 9 _ _ code_judge_Within_fn code_judge_Within_body).1
def K_judge_Within (v : V) (s : Sig) : Option (Bool) := Option.bind (V.boolOf v) fun u0 => some u0
theorem K_judge_Within_wk {v : V} {s : Sig} {r : Bool} (h : K_judge_Within v s = some r) : Wk v (enc_judge_Within r) ∧ WkS 0 s (encS_judge_Within r) := by
  unfold K_judge_Within at h
  obtain ⟨u0, hu0, h⟩ := Option.bind_eq_some_iff.1 h
  simp only [Option.some.injEq] at h
  subst h
  exact ⟨(boolOf_wk hu0), (WkS.none _)⟩
theorem m_judge_Within_eq (n : Nat) (a0 : List T) (a1 : List T) : mF Try.prog (sp_judge_Within n) 9 [(V.t (T.list a0)), (V.t (T.list a1))] [] K_judge_Within = m_judge_Within n a0 a1 := by kernel_rfl
theorem m_judge_Within_ok (n : Nat) : ok_judge_Within (m_judge_Within n) := fun a0 a1 r h => mF_ok sound (sp_judge_Within_ok n) code_judge_Within_fn code_judge_Within_body (fun a ha => absurd ha (by rw [show loopsOf code_judge_Within = [] from by kernel_rfl]; simp)) ((m_judge_Within_eq n a0 a1).trans h) (fun v s hk => ⟨(K_judge_Within_wk hk).1, rfl, (K_judge_Within_wk hk).2⟩)


/-! suture/judge.Accepts -/
def m_judge_Accepts (n : Nat) (a0 : List T) (a1 : List T) (a2 : List T) (a3 : Int) (a4 : Int) (a5 : List T) (a6 : List T) (a7 : List T) (a8 : Int) (a9 : Int) : Option (Bool) :=
Option.bind (m_slices_ContainsFunc___string_string_ n a6 a0 a1 a2 a3 a4) fun r0 =>
Option.bind (bif ((((List.length a7 : Nat) : Int) : Int) == 0) then m_judge_Within n a5 r0.2.1 else some false) fun r1 =>
some (bif (bif (bif ((((List.length a7 : Nat) : Int) : Int) == 0) then r1 else false) then (bif (decide ((((List.length a5 : Nat) : Int) : Int) > 0)) then true else ((((List.length r0.2.1 : Nat) : Int) : Int) == 0)) else false) then (!r0.1) else false)
def enc_judge_Accepts (r : Bool) : V := (V.t (T.sc (.bool r)))
def encS_judge_Accepts (r : Bool) : Sig := []
def ok_judge_Accepts (m : List T → List T → List T → Int → Int → List T → List T → List T → Int → Int → Option (Bool)) : Prop := ∀ (a0 : List T) (a1 : List T) (a2 : List T) (a3 : Int) (a4 : Int) (a5 : List T) (a6 : List T) (a7 : List T) (a8 : Int) (a9 : Int) (r : Bool), m a0 a1 a2 a3 a4 a5 a6 a7 a8 a9 = some r → FuncOk Try.prog 8 [(V.agg [(V.t (T.list a0)), (V.t (T.list a1)), (V.t (T.list a2)), (V.t (T.sc (.int .i64 a3))), (V.t (T.sc (.int .i64 a4)))]), (V.agg [(V.t (T.list a5)), (V.t (T.list a6)), (V.t (T.list a7)), (V.t (T.sc (.int .i64 a8))), (V.t (T.sc (.int .i64 a9)))])] [] (enc_judge_Accepts r) (encS_judge_Accepts r)
def c_judge_Accepts (m : List T → List T → List T → Int → Int → List T → List T → List T → Int → Int → Option (Bool)) (vs : List V) (sg : Sig) : Option CallM := bif Nat.beq vs.length 2 && Nat.beq sg.length 0 then Option.bind (V.aggN 5 (vs.getD 0 .any)) fun u0 => Option.bind (V.lstOf (u0.getD 0 .any)) fun u1 => Option.bind (V.lstOf (u0.getD 1 .any)) fun u2 => Option.bind (V.lstOf (u0.getD 2 .any)) fun u3 => Option.bind (V.intOf .i64 (u0.getD 3 .any)) fun u4 => Option.bind (V.intOf .i64 (u0.getD 4 .any)) fun u5 => Option.bind (V.aggN 5 (vs.getD 1 .any)) fun u6 => Option.bind (V.lstOf (u6.getD 0 .any)) fun u7 => Option.bind (V.lstOf (u6.getD 1 .any)) fun u8 => Option.bind (V.lstOf (u6.getD 2 .any)) fun u9 => Option.bind (V.intOf .i64 (u6.getD 3 .any)) fun u10 => Option.bind (V.intOf .i64 (u6.getD 4 .any)) fun u11 => some { α := Bool, m := m u1 u2 u3 u4 u5 u7 u8 u9 u10 u11, dflt := false, enc := fun y => ((V.t (T.sc (.bool y))), []) } else none
theorem c_judge_Accepts_ok (m : List T → List T → List T → Int → Int → List T → List T → List T → Int → Int → Option (Bool)) (hm : ok_judge_Accepts m) (vs : List V) (sg : Sig) (cm : CallM) (x : cm.α) (h : c_judge_Accepts m vs sg = some cm) (hx : cm.m = some x) : FuncOk Try.prog 8 vs sg (cm.enc x).1 (cm.enc x).2 := by
  unfold c_judge_Accepts at h
  have h0 := callee_sig h
  clear h
  obtain ⟨hl, hs, h⟩ := h0
  obtain ⟨u0, hu0, h⟩ := Option.bind_eq_some_iff.1 h
  obtain ⟨u1, hu1, h⟩ := Option.bind_eq_some_iff.1 h
  obtain ⟨u2, hu2, h⟩ := Option.bind_eq_some_iff.1 h
  obtain ⟨u3, hu3, h⟩ := Option.bind_eq_some_iff.1 h
  obtain ⟨u4, hu4, h⟩ := Option.bind_eq_some_iff.1 h
  obtain ⟨u5, hu5, h⟩ := Option.bind_eq_some_iff.1 h
  obtain ⟨u6, hu6, h⟩ := Option.bind_eq_some_iff.1 h
  obtain ⟨u7, hu7, h⟩ := Option.bind_eq_some_iff.1 h
  obtain ⟨u8, hu8, h⟩ := Option.bind_eq_some_iff.1 h
  obtain ⟨u9, hu9, h⟩ := Option.bind_eq_some_iff.1 h
  obtain ⟨u10, hu10, h⟩ := Option.bind_eq_some_iff.1 h
  obtain ⟨u11, hu11, h⟩ := Option.bind_eq_some_iff.1 h
  simp only [Option.some.injEq] at h
  subst h
  exact (hm u1 u2 u3 u4 u5 u7 u8 u9 u10 u11 x hx).wk (args_wk hl (.cons (aggN_wk hu0 (.cons (lstOf_wk hu1) (.cons (lstOf_wk hu2) (.cons (lstOf_wk hu3) (.cons (intOf_wk hu4) (.cons (intOf_wk hu5) .nil)))))) (.cons (aggN_wk hu6 (.cons (lstOf_wk hu7) (.cons (lstOf_wk hu8) (.cons (lstOf_wk hu9) (.cons (intOf_wk hu10) (.cons (intOf_wk hu11) .nil)))))) .nil))) (wkSg_of hs .nil)
noncomputable def code_judge_Accepts : Code := Try.f8.body.getD .skip
noncomputable def sp_judge_Accepts (n : Nat) : Go.Eng.Spec := ⟨fun f vs sg => (match f with
    | 13 => c_slices_ContainsFunc___string_string_ (m_slices_ContainsFunc___string_string_ n) vs sg
    | 9 => c_judge_Within (m_judge_Within n) vs sg
    | _ => none), fun R key E sg K => (match key with
    | _ => none)⟩
theorem sp_judge_Accepts_ok (n : Nat) : CallsOk Try.prog (sp_judge_Accepts n) := by
  intro f vs sg cm x h hx
  simp only [sp_judge_Accepts] at h
  split at h
  · exact c_slices_ContainsFunc___string_string__ok _ (m_slices_ContainsFunc___string_string__ok n) vs sg cm x h hx
  · exact c_judge_Within_ok _ (m_judge_Within_ok n) vs sg cm x h hx
  · cases h
theorem code_judge_Accepts_fn : Try.prog.funcs[8]? = some Try.f8 := Try.func8
theorem code_judge_Accepts_body : Try.f8.body = some code_judge_Accepts := by kernel_rfl
theorem code_judge_Accepts_ok : CodeOk Try.prog code_judge_Accepts := (sound 8 _ _ code_judge_Accepts_fn code_judge_Accepts_body).1
def K_judge_Accepts (v : V) (s : Sig) : Option (Bool) := Option.bind (V.boolOf v) fun u0 => some u0
theorem K_judge_Accepts_wk {v : V} {s : Sig} {r : Bool} (h : K_judge_Accepts v s = some r) : Wk v (enc_judge_Accepts r) ∧ WkS 0 s (encS_judge_Accepts r) := by
  unfold K_judge_Accepts at h
  obtain ⟨u0, hu0, h⟩ := Option.bind_eq_some_iff.1 h
  simp only [Option.some.injEq] at h
  subst h
  exact ⟨(boolOf_wk hu0), (WkS.none _)⟩
theorem m_judge_Accepts_eq (n : Nat) (a0 : List T) (a1 : List T) (a2 : List T) (a3 : Int) (a4 : Int) (a5 : List T) (a6 : List T) (a7 : List T) (a8 : Int) (a9 : Int) : mF Try.prog (sp_judge_Accepts n) 8 [(V.agg [(V.t (T.list a0)), (V.t (T.list a1)), (V.t (T.list a2)), (V.t (T.sc (.int .i64 a3))), (V.t (T.sc (.int .i64 a4)))]), (V.agg [(V.t (T.list a5)), (V.t (T.list a6)), (V.t (T.list a7)), (V.t (T.sc (.int .i64 a8))), (V.t (T.sc (.int .i64 a9)))])] [] K_judge_Accepts = m_judge_Accepts n a0 a1 a2 a3 a4 a5 a6 a7 a8 a9 := by kernel_rfl
theorem m_judge_Accepts_ok (n : Nat) : ok_judge_Accepts (m_judge_Accepts n) := fun a0 a1 a2 a3 a4 a5 a6 a7 a8 a9 r h => mF_ok sound (sp_judge_Accepts_ok n) code_judge_Accepts_fn code_judge_Accepts_body (fun a ha => absurd ha (by rw [show loopsOf code_judge_Accepts = [] from by kernel_rfl]; simp)) ((m_judge_Accepts_eq n a0 a1 a2 a3 a4 a5 a6 a7 a8 a9).trans h) (fun v s hk => ⟨(K_judge_Accepts_wk hk).1, rfl, (K_judge_Accepts_wk hk).2⟩)


/-! suture/suturelaw28.known -/
def m_suturelaw28_known (n : Nat) : Option (Bool) :=
Option.bind (m_judge_Accepts n ([] : List T) ([] : List T) ([] : List T) 0 0 ([] : List T) ([] : List T) [(T.agg [(T.sc (.int .i64 1)), (T.sc (.int .i64 0)), (T.sc (.int .i64 0)), (T.list ([] : List T))])] 0 0) fun r0 =>
Option.bind (bif (!r0) then m_judge_Accepts n ([] : List T) ([] : List T) ([] : List T) 0 0 ([] : List T) ([] : List T) ([] : List T) 0 0 else some false) fun r1 =>
some (bif (!r0) then r1 else false)
def enc_suturelaw28_known (r : Bool) : V := (V.t (T.sc (.bool r)))
def encS_suturelaw28_known (r : Bool) : Sig := []
def ok_suturelaw28_known (m : Option (Bool)) : Prop := ∀ (r : Bool), m = some r → FuncOk Try.prog 7 [] [] (enc_suturelaw28_known r) (encS_suturelaw28_known r)
def c_suturelaw28_known (m : Option (Bool)) (vs : List V) (sg : Sig) : Option CallM := bif Nat.beq vs.length 0 && Nat.beq sg.length 0 then some { α := Bool, m := m, dflt := false, enc := fun y => ((V.t (T.sc (.bool y))), []) } else none
theorem c_suturelaw28_known_ok (m : Option (Bool)) (hm : ok_suturelaw28_known m) (vs : List V) (sg : Sig) (cm : CallM) (x : cm.α) (h : c_suturelaw28_known m vs sg = some cm) (hx : cm.m = some x) : FuncOk Try.prog 7 vs sg (cm.enc x).1 (cm.enc x).2 := by
  unfold c_suturelaw28_known at h
  have h0 := callee_sig h
  clear h
  obtain ⟨hl, hs, h⟩ := h0
  simp only [Option.some.injEq] at h
  subst h
  exact (hm x hx).wk (args_wk hl .nil) (wkSg_of hs .nil)
noncomputable def code_suturelaw28_known : Code := Try.f7.body.getD .skip
noncomputable def sp_suturelaw28_known (n : Nat) : Go.Eng.Spec := ⟨fun f vs sg => (match f with
    | 8 => c_judge_Accepts (m_judge_Accepts n) vs sg
    | _ => none), fun R key E sg K => (match key with
    | _ => none)⟩
theorem sp_suturelaw28_known_ok (n : Nat) : CallsOk Try.prog (sp_suturelaw28_known n) := by
  intro f vs sg cm x h hx
  simp only [sp_suturelaw28_known] at h
  split at h
  · exact c_judge_Accepts_ok _ (m_judge_Accepts_ok n) vs sg cm x h hx
  · cases h
theorem code_suturelaw28_known_fn : Try.prog.funcs[7]? = some Try.f7 := Try.func7
theorem code_suturelaw28_known_body : Try.f7.body = some code_suturelaw28_known := by kernel_rfl
theorem code_suturelaw28_known_ok : CodeOk Try.prog code_suturelaw28_known := (sound 7 _ _ code_suturelaw28_known_fn code_suturelaw28_known_body).1
def K_suturelaw28_known (v : V) (s : Sig) : Option (Bool) := Option.bind (V.boolOf v) fun u0 => some u0
theorem K_suturelaw28_known_wk {v : V} {s : Sig} {r : Bool} (h : K_suturelaw28_known v s = some r) : Wk v (enc_suturelaw28_known r) ∧ WkS 0 s (encS_suturelaw28_known r) := by
  unfold K_suturelaw28_known at h
  obtain ⟨u0, hu0, h⟩ := Option.bind_eq_some_iff.1 h
  simp only [Option.some.injEq] at h
  subst h
  exact ⟨(boolOf_wk hu0), (WkS.none _)⟩
theorem m_suturelaw28_known_eq (n : Nat) : mF Try.prog (sp_suturelaw28_known n) 7 [] [] K_suturelaw28_known = m_suturelaw28_known n := by kernel_rfl
theorem m_suturelaw28_known_ok (n : Nat) : ok_suturelaw28_known (m_suturelaw28_known n) := fun  r h => mF_ok sound (sp_suturelaw28_known_ok n) code_suturelaw28_known_fn code_suturelaw28_known_body (fun a ha => absurd ha (by rw [show loopsOf code_suturelaw28_known = [] from by kernel_rfl]; simp)) ((m_suturelaw28_known_eq n).trans h) (fun v s hk => ⟨(K_suturelaw28_known_wk hk).1, rfl, (K_suturelaw28_known_wk hk).2⟩)


end Go.Proofs.Ytgpokdaacbjimac.W
