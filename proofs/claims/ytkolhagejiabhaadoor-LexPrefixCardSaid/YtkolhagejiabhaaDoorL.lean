/- What the engine's walk comes to, printed by a program of this work: for each function its model, and that it is one. No conditions. -/
import Derived.Test.YtkolhagejiabhaaDoorL3
namespace Go.Proofs.YtkolhagejiabhaaDoor.W
open Go Go.Eng
set_option linter.unusedVariables false
set_option linter.unusedSimpArgs false
set_option maxRecDepth 100000

/-! suture/sutureref1.Keyword -/
def l_sutureref1_Keyword_2_B (n : Nat) (k : ByteArray × ByteArray × ByteArray × ByteArray × ByteArray × ByteArray × ByteArray × ByteArray × ByteArray × ByteArray × ByteArray × ByteArray × ByteArray × ByteArray × ByteArray × ByteArray × ByteArray × ByteArray × Int → Option (((Bool) ⊕ Unit))) : ByteArray × ByteArray × ByteArray × ByteArray × ByteArray × ByteArray × ByteArray × ByteArray × ByteArray × ByteArray × ByteArray × ByteArray × ByteArray × ByteArray × ByteArray × ByteArray × ByteArray × ByteArray × Int → Option (((Bool) ⊕ Unit)) := fun (s0, s1, s2, s3, s4, s5, s6, s7, s8, s9, s10, s11, s12, s13, s14, s15, s16, s17, s18) =>
bif (decide ((s18 : Int) < 17)) then (
Option.bind (idx1 true (.str) [(T.sc (.string s1)), (T.sc (.string s2)), (T.sc (.string s3)), (T.sc (.string s4)), (T.sc (.string s5)), (T.sc (.string s6)), (T.sc (.string s7)), (T.sc (.string s8)), (T.sc (.string s9)), (T.sc (.string s10)), (T.sc (.string s11)), (T.sc (.string s12)), (T.sc (.string s13)), (T.sc (.string s14)), (T.sc (.string s15)), (T.sc (.string s16)), (T.sc (.string s17))] s18) fun y0 =>
bif (ByteArray.toList s0 == ByteArray.toList y0.str) then (
some (Sum.inl true))
else (
k (s0, s1, s2, s3, s4, s5, s6, s7, s8, s9, s10, s11, s12, s13, s14, s15, s16, s17, (IntKind.wrap .i64 (s18 + 1)))))
else (
some (Sum.inr ()))
def l_sutureref1_Keyword_2 (n : Nat) : Nat → ByteArray × ByteArray × ByteArray × ByteArray × ByteArray × ByteArray × ByteArray × ByteArray × ByteArray × ByteArray × ByteArray × ByteArray × ByteArray × ByteArray × ByteArray × ByteArray × ByteArray × ByteArray × Int → Option (((Bool) ⊕ Unit))
  | 0, _ => none
  | m + 1, s => l_sutureref1_Keyword_2_B n (l_sutureref1_Keyword_2 n m) s
def m_sutureref1_Keyword (n : Nat) (a0 : ByteArray) : Option (Bool) :=
Option.bind (l_sutureref1_Keyword_2 n n (a0, (⟨#[118, 97, 114]⟩ : ByteArray), (⟨#[119, 105, 100, 101]⟩ : ByteArray), (⟨#[97, 116, 111, 109, 105, 99]⟩ : ByteArray), (⟨#[108, 111, 99, 97, 108]⟩ : ByteArray), (⟨#[109, 117, 116, 101, 120]⟩ : ByteArray), (⟨#[99, 104, 97, 110]⟩ : ByteArray), (⟨#[103, 111]⟩ : ByteArray), (⟨#[108, 111, 99, 107]⟩ : ByteArray), (⟨#[117, 110, 108, 111, 99, 107]⟩ : ByteArray), (⟨#[115, 101, 110, 100]⟩ : ByteArray), (⟨#[114, 101, 99, 118]⟩ : ByteArray), (⟨#[112, 114, 105, 110, 116]⟩ : ByteArray), (⟨#[105, 102]⟩ : ByteArray), (⟨#[101, 108, 115, 101]⟩ : ByteArray), (⟨#[114, 101, 112, 101, 97, 116]⟩ : ByteArray), (⟨#[103, 111, 116, 111]⟩ : ByteArray), (⟨#[108, 97, 98, 101, 108]⟩ : ByteArray), 0)) fun x1 =>
Sum.elim (fun p2 => 
some p2) (fun x1' => (fun p3 => 
some false) x1') x1
def enc_sutureref1_Keyword (r : Bool) : V := (V.t (T.sc (.bool r)))
def encS_sutureref1_Keyword (r : Bool) : Sig := []
def ok_sutureref1_Keyword (m : ByteArray → Option (Bool)) : Prop := ∀ (a0 : ByteArray) (r : Bool), m a0 = some r → FuncOk Tryd.prog 30 [(V.t (T.sc (.string a0)))] [] (enc_sutureref1_Keyword r) (encS_sutureref1_Keyword r)
def c_sutureref1_Keyword (m : ByteArray → Option (Bool)) (vs : List V) (sg : Sig) : Option CallM := bif Nat.beq vs.length 1 && Nat.beq sg.length 0 then Option.bind (V.strOf (vs.getD 0 .any)) fun u0 => some { α := Bool, m := m u0, dflt := false, enc := fun y => ((V.t (T.sc (.bool y))), []) } else none
theorem c_sutureref1_Keyword_ok (m : ByteArray → Option (Bool)) (hm : ok_sutureref1_Keyword m) (vs : List V) (sg : Sig) (cm : CallM) (x : cm.α) (h : c_sutureref1_Keyword m vs sg = some cm) (hx : cm.m = some x) : FuncOk Tryd.prog 30 vs sg (cm.enc x).1 (cm.enc x).2 := by
  unfold c_sutureref1_Keyword at h
  have h0 := callee_sig h
  clear h
  obtain ⟨hl, hs, h⟩ := h0
  obtain ⟨u0, hu0, h⟩ := Option.bind_eq_some_iff.1 h
  simp only [Option.some.injEq] at h
  subst h
  exact (hm u0 x hx).wk (args_wk hl (.cons (strOf_wk hu0) .nil)) (wkSg_of hs .nil)
noncomputable def code_sutureref1_Keyword : Code := Tryd.f30.body.getD .skip
def l_sutureref1_Keyword_2_S (n : Nat) (R : Type) (E : SEnv) (sg : Sig) (K : Ex → SEnv → Sig → Option R) : Option R := Option.bind (V.strOf (SEnv.at E 0)) fun u0 => Option.bind (V.aggN 17 (SEnv.at E 5)) fun u1 => Option.bind (V.strOf (u1.getD 0 .any)) fun u2 => Option.bind (V.strOf (u1.getD 1 .any)) fun u3 => Option.bind (V.strOf (u1.getD 2 .any)) fun u4 => Option.bind (V.strOf (u1.getD 3 .any)) fun u5 => Option.bind (V.strOf (u1.getD 4 .any)) fun u6 => Option.bind (V.strOf (u1.getD 5 .any)) fun u7 => Option.bind (V.strOf (u1.getD 6 .any)) fun u8 => Option.bind (V.strOf (u1.getD 7 .any)) fun u9 => Option.bind (V.strOf (u1.getD 8 .any)) fun u10 => Option.bind (V.strOf (u1.getD 9 .any)) fun u11 => Option.bind (V.strOf (u1.getD 10 .any)) fun u12 => Option.bind (V.strOf (u1.getD 11 .any)) fun u13 => Option.bind (V.strOf (u1.getD 12 .any)) fun u14 => Option.bind (V.strOf (u1.getD 13 .any)) fun u15 => Option.bind (V.strOf (u1.getD 14 .any)) fun u16 => Option.bind (V.strOf (u1.getD 15 .any)) fun u17 => Option.bind (V.strOf (u1.getD 16 .any)) fun u18 => Option.bind (V.intOf .i64 (SEnv.at E 6)) fun u19 => Option.bind (l_sutureref1_Keyword_2 n n (u0, u2, u3, u4, u5, u6, u7, u8, u9, u10, u11, u12, u13, u14, u15, u16, u17, u18, u19)) fun y => Sum.elim (fun p0 => K .ret [(2, (V.t (T.sc (.bool p0))))] []) (fun y' => (fun p1 => K (.exit 0) [] []) y') y
noncomputable def sp_sutureref1_Keyword (n : Nat) : Go.Eng.Spec := ⟨fun f vs sg => (match f with
    | _ => none), fun R key E sg K => (match key with
    | 2 => l_sutureref1_Keyword_2_S n R E sg K
    | _ => none)⟩
theorem sp_sutureref1_Keyword_ok (n : Nat) : CallsOk Tryd.prog (sp_sutureref1_Keyword n) := by
  intro f vs sg cm x h hx
  have h : (none : Option CallM) = some cm := h
  cases h
theorem code_sutureref1_Keyword_fn : Tryd.prog.funcs[30]? = some Tryd.f30 := Tryd.func30
theorem code_sutureref1_Keyword_body : Tryd.f30.body = some code_sutureref1_Keyword := by kernel_rfl
theorem code_sutureref1_Keyword_ok : CodeOk Tryd.prog code_sutureref1_Keyword := (sound 30 _ _ code_sutureref1_Keyword_fn code_sutureref1_Keyword_body).1
noncomputable def code_l_sutureref1_Keyword_2 : Code := (loopsOf code_sutureref1_Keyword).getD 0 .skip
theorem code_l_sutureref1_Keyword_2_ok : CodeOk Tryd.prog code_l_sutureref1_Keyword_2 := codeOk_loops code_sutureref1_Keyword_ok _ (getD_mem (by kernel_rfl))
def l_sutureref1_Keyword_2_K (k : ByteArray × ByteArray × ByteArray × ByteArray × ByteArray × ByteArray × ByteArray × ByteArray × ByteArray × ByteArray × ByteArray × ByteArray × ByteArray × ByteArray × ByteArray × ByteArray × ByteArray × ByteArray × Int → Option (((Bool) ⊕ Unit))) : Ex → SEnv → Sig → Option (((Bool) ⊕ Unit)) := fun x E sg => match x with
  | .normal => Option.bind (V.strOf (SEnv.at E 0)) fun u0 => Option.bind (V.aggN 17 (SEnv.at E 5)) fun u1 => Option.bind (V.strOf (u1.getD 0 .any)) fun u2 => Option.bind (V.strOf (u1.getD 1 .any)) fun u3 => Option.bind (V.strOf (u1.getD 2 .any)) fun u4 => Option.bind (V.strOf (u1.getD 3 .any)) fun u5 => Option.bind (V.strOf (u1.getD 4 .any)) fun u6 => Option.bind (V.strOf (u1.getD 5 .any)) fun u7 => Option.bind (V.strOf (u1.getD 6 .any)) fun u8 => Option.bind (V.strOf (u1.getD 7 .any)) fun u9 => Option.bind (V.strOf (u1.getD 8 .any)) fun u10 => Option.bind (V.strOf (u1.getD 9 .any)) fun u11 => Option.bind (V.strOf (u1.getD 10 .any)) fun u12 => Option.bind (V.strOf (u1.getD 11 .any)) fun u13 => Option.bind (V.strOf (u1.getD 12 .any)) fun u14 => Option.bind (V.strOf (u1.getD 13 .any)) fun u15 => Option.bind (V.strOf (u1.getD 14 .any)) fun u16 => Option.bind (V.strOf (u1.getD 15 .any)) fun u17 => Option.bind (V.strOf (u1.getD 16 .any)) fun u18 => Option.bind (V.intOf .i64 (SEnv.at E 6)) fun u19 => k (u0, u2, u3, u4, u5, u6, u7, u8, u9, u10, u11, u12, u13, u14, u15, u16, u17, u18, u19)
  | .ret => Option.bind (V.boolOf (SEnv.at E 2)) fun u0 => some (Sum.inl u0)
  | (.exit 0) => some (Sum.inr ())
  | _ => none
theorem l_sutureref1_Keyword_2_eq (n : Nat) (k : ByteArray × ByteArray × ByteArray × ByteArray × ByteArray × ByteArray × ByteArray × ByteArray × ByteArray × ByteArray × ByteArray × ByteArray × ByteArray × ByteArray × ByteArray × ByteArray × ByteArray × ByteArray × Int → Option (((Bool) ⊕ Unit))) (s0 : ByteArray) (s1 : ByteArray) (s2 : ByteArray) (s3 : ByteArray) (s4 : ByteArray) (s5 : ByteArray) (s6 : ByteArray) (s7 : ByteArray) (s8 : ByteArray) (s9 : ByteArray) (s10 : ByteArray) (s11 : ByteArray) (s12 : ByteArray) (s13 : ByteArray) (s14 : ByteArray) (s15 : ByteArray) (s16 : ByteArray) (s17 : ByteArray) (s18 : Int) : mX Tryd.prog (sp_sutureref1_Keyword n) 13 code_l_sutureref1_Keyword_2 [(0, (V.t (T.sc (.string s0)))), (5, (V.agg [(V.t (T.sc (.string s1))), (V.t (T.sc (.string s2))), (V.t (T.sc (.string s3))), (V.t (T.sc (.string s4))), (V.t (T.sc (.string s5))), (V.t (T.sc (.string s6))), (V.t (T.sc (.string s7))), (V.t (T.sc (.string s8))), (V.t (T.sc (.string s9))), (V.t (T.sc (.string s10))), (V.t (T.sc (.string s11))), (V.t (T.sc (.string s12))), (V.t (T.sc (.string s13))), (V.t (T.sc (.string s14))), (V.t (T.sc (.string s15))), (V.t (T.sc (.string s16))), (V.t (T.sc (.string s17)))])), (6, (V.t (T.sc (.int .i64 s18))))] [] (l_sutureref1_Keyword_2_K k) = l_sutureref1_Keyword_2_B n k (s0, s1, s2, s3, s4, s5, s6, s7, s8, s9, s10, s11, s12, s13, s14, s15, s16, s17, s18) := by kernel_rfl
def l_sutureref1_Keyword_2_Q (x : ((Bool) ⊕ Unit)) (ex : Ex) (e : Env) (s : Sig) : Prop := Sum.elim (fun p0 => (ex = .ret ∧ e = SEnv.env 13 [(2, (V.t (T.sc (.bool p0))))] ∧ s = [])) (fun x' => (fun p1 => (ex = (.exit 0) ∧ e = SEnv.env 13 [] ∧ s = [])) x') x
theorem l_sutureref1_Keyword_2_run (n : Nat) : ∀ (m : Nat) (s0 : ByteArray) (s1 : ByteArray) (s2 : ByteArray) (s3 : ByteArray) (s4 : ByteArray) (s5 : ByteArray) (s6 : ByteArray) (s7 : ByteArray) (s8 : ByteArray) (s9 : ByteArray) (s10 : ByteArray) (s11 : ByteArray) (s12 : ByteArray) (s13 : ByteArray) (s14 : ByteArray) (s15 : ByteArray) (s16 : ByteArray) (s17 : ByteArray) (s18 : Int) (x : ((Bool) ⊕ Unit)), l_sutureref1_Keyword_2 n m (s0, s1, s2, s3, s4, s5, s6, s7, s8, s9, s10, s11, s12, s13, s14, s15, s16, s17, s18) = some x → SemL Tryd.prog 0 code_l_sutureref1_Keyword_2 (SEnv.env 13 [(0, (V.t (T.sc (.string s0)))), (5, (V.agg [(V.t (T.sc (.string s1))), (V.t (T.sc (.string s2))), (V.t (T.sc (.string s3))), (V.t (T.sc (.string s4))), (V.t (T.sc (.string s5))), (V.t (T.sc (.string s6))), (V.t (T.sc (.string s7))), (V.t (T.sc (.string s8))), (V.t (T.sc (.string s9))), (V.t (T.sc (.string s10))), (V.t (T.sc (.string s11))), (V.t (T.sc (.string s12))), (V.t (T.sc (.string s13))), (V.t (T.sc (.string s14))), (V.t (T.sc (.string s15))), (V.t (T.sc (.string s16))), (V.t (T.sc (.string s17)))])), (6, (V.t (T.sc (.int .i64 s18))))]) [] (l_sutureref1_Keyword_2_Q x)
  | 0, s0, s1, s2, s3, s4, s5, s6, s7, s8, s9, s10, s11, s12, s13, s14, s15, s16, s17, s18, x, h => by cases h
  | m + 1, s0, s1, s2, s3, s4, s5, s6, s7, s8, s9, s10, s11, s12, s13, s14, s15, s16, s17, s18, x, h => by
    refine loop_step (sp_sutureref1_Keyword_ok n) code_l_sutureref1_Keyword_2_ok (fun a ha => absurd ha (by rw [show loopsOf code_l_sutureref1_Keyword_2 = [] from by kernel_rfl]; simp)) (no_scope (by kernel_rfl)) ((l_sutureref1_Keyword_2_eq n _ s0 s1 s2 s3 s4 s5 s6 s7 s8 s9 s10 s11 s12 s13 s14 s15 s16 s17 s18).trans h) (fun E sg h => ?_) (fun ex E sg hne h => ?_)
    · simp only [l_sutureref1_Keyword_2_K] at h
      obtain ⟨u0, hu0, h⟩ := Option.bind_eq_some_iff.1 h
      obtain ⟨u1, hu1, h⟩ := Option.bind_eq_some_iff.1 h
      obtain ⟨u2, hu2, h⟩ := Option.bind_eq_some_iff.1 h
      obtain ⟨u3, hu3, h⟩ := Option.bind_eq_some_iff.1 h
      obtain ⟨u4, hu4, h⟩ := Option.bind_eq_some_iff.1 h
      obtain ⟨u5, hu5, h⟩ := Option.bind_eq_some_iff.1 h
      obtain ⟨u6, hu6, h⟩ := Option.bind_eq_some_iff.1 h
      obtain ⟨u7, hu7, h⟩ := Option.bind_eq_some_iff.1 h
      obtain ⟨u8, hu8, h⟩ := Option.bind_eq_some_iff.1 h
      obtain ⟨u9, hu9, h⟩ := Option.bind_eq_some_iff.1 h
      obtain ⟨u10, hu10, h⟩ := Option.bind_eq_some_iff.1 h
      obtain ⟨u11, hu11, h⟩ := Option.bind_eq_some_iff.1 h
      obtain ⟨u12, hu12, h⟩ := Option.bind_eq_some_iff.1 h
      obtain ⟨u13, hu13, h⟩ := Option.bind_eq_some_iff.1 h
      obtain ⟨u14, hu14, h⟩ := Option.bind_eq_some_iff.1 h
      obtain ⟨u15, hu15, h⟩ := Option.bind_eq_some_iff.1 h
      obtain ⟨u16, hu16, h⟩ := Option.bind_eq_some_iff.1 h
      obtain ⟨u17, hu17, h⟩ := Option.bind_eq_some_iff.1 h
      obtain ⟨u18, hu18, h⟩ := Option.bind_eq_some_iff.1 h
      obtain ⟨u19, hu19, h⟩ := Option.bind_eq_some_iff.1 h
      exact SemL.pre (k := 0) (by decide) (WkA.env (WkA.cons (strOf_wk hu0) rfl (WkA.cons (aggN_wk hu1 (.cons (strOf_wk hu2) (.cons (strOf_wk hu3) (.cons (strOf_wk hu4) (.cons (strOf_wk hu5) (.cons (strOf_wk hu6) (.cons (strOf_wk hu7) (.cons (strOf_wk hu8) (.cons (strOf_wk hu9) (.cons (strOf_wk hu10) (.cons (strOf_wk hu11) (.cons (strOf_wk hu12) (.cons (strOf_wk hu13) (.cons (strOf_wk hu14) (.cons (strOf_wk hu15) (.cons (strOf_wk hu16) (.cons (strOf_wk hu17) (.cons (strOf_wk hu18) .nil)))))))))))))))))) rfl (WkA.cons (intOf_wk hu19) rfl WkA.nil))) 13) (WkS.none _) (l_sutureref1_Keyword_2_run n m _ _ _ _ _ _ _ _ _ _ _ _ _ _ _ _ _ _ _ x h)
    · unfold l_sutureref1_Keyword_2_K at h
      split at h
      · exact absurd rfl hne
      · obtain ⟨u0, hu0, h⟩ := Option.bind_eq_some_iff.1 h
        simp only [Option.some.injEq] at h
        subst h
        exact ⟨0, _, _, by decide, WkA.env (WkA.cons (boolOf_wk hu0) rfl WkA.nil) 13, (WkS.none _), rfl, rfl, rfl⟩
      · simp only [Option.some.injEq] at h
        subst h
        exact ⟨0, _, _, by decide, WkA.env WkA.nil 13, (WkS.none _), rfl, rfl, rfl⟩
      · cases h
theorem l_sutureref1_Keyword_2_ok (n : Nat) : LoopOk Tryd.prog (sp_sutureref1_Keyword n) 0 13 code_l_sutureref1_Keyword_2 := by
    intro R key E sg K r hk h
    rw [show Go.Eng.keyOf code_l_sutureref1_Keyword_2 = some 2 from by kernel_rfl] at hk
    cases hk
    have h : l_sutureref1_Keyword_2_S n R E sg K = some r := h
    unfold l_sutureref1_Keyword_2_S at h
    obtain ⟨u0, hu0, h⟩ := Option.bind_eq_some_iff.1 h
    obtain ⟨u1, hu1, h⟩ := Option.bind_eq_some_iff.1 h
    obtain ⟨u2, hu2, h⟩ := Option.bind_eq_some_iff.1 h
    obtain ⟨u3, hu3, h⟩ := Option.bind_eq_some_iff.1 h
    obtain ⟨u4, hu4, h⟩ := Option.bind_eq_some_iff.1 h
    obtain ⟨u5, hu5, h⟩ := Option.bind_eq_some_iff.1 h
    obtain ⟨u6, hu6, h⟩ := Option.bind_eq_some_iff.1 h
    obtain ⟨u7, hu7, h⟩ := Option.bind_eq_some_iff.1 h
    obtain ⟨u8, hu8, h⟩ := Option.bind_eq_some_iff.1 h
    obtain ⟨u9, hu9, h⟩ := Option.bind_eq_some_iff.1 h
    obtain ⟨u10, hu10, h⟩ := Option.bind_eq_some_iff.1 h
    obtain ⟨u11, hu11, h⟩ := Option.bind_eq_some_iff.1 h
    obtain ⟨u12, hu12, h⟩ := Option.bind_eq_some_iff.1 h
    obtain ⟨u13, hu13, h⟩ := Option.bind_eq_some_iff.1 h
    obtain ⟨u14, hu14, h⟩ := Option.bind_eq_some_iff.1 h
    obtain ⟨u15, hu15, h⟩ := Option.bind_eq_some_iff.1 h
    obtain ⟨u16, hu16, h⟩ := Option.bind_eq_some_iff.1 h
    obtain ⟨u17, hu17, h⟩ := Option.bind_eq_some_iff.1 h
    obtain ⟨u18, hu18, h⟩ := Option.bind_eq_some_iff.1 h
    obtain ⟨u19, hu19, h⟩ := Option.bind_eq_some_iff.1 h
    obtain ⟨x, hx, h⟩ := Option.bind_eq_some_iff.1 h
    refine (SemL.pre (k := 0) (by decide) (WkA.env (WkA.cons (strOf_wk hu0) rfl (WkA.cons (aggN_wk hu1 (.cons (strOf_wk hu2) (.cons (strOf_wk hu3) (.cons (strOf_wk hu4) (.cons (strOf_wk hu5) (.cons (strOf_wk hu6) (.cons (strOf_wk hu7) (.cons (strOf_wk hu8) (.cons (strOf_wk hu9) (.cons (strOf_wk hu10) (.cons (strOf_wk hu11) (.cons (strOf_wk hu12) (.cons (strOf_wk hu13) (.cons (strOf_wk hu14) (.cons (strOf_wk hu15) (.cons (strOf_wk hu16) (.cons (strOf_wk hu17) (.cons (strOf_wk hu18) .nil)))))))))))))))))) rfl (WkA.cons (intOf_wk hu19) rfl WkA.nil))) 13) (WkS.none _) (l_sutureref1_Keyword_2_run n n _ _ _ _ _ _ _ _ _ _ _ _ _ _ _ _ _ _ _ x hx)).mono ?_
    intro ex e s hq
    rcases x with x | x <;> (obtain ⟨rfl, rfl, rfl⟩ := hq; exact ⟨_, rfl, h⟩) -- 5
def K_sutureref1_Keyword (v : V) (s : Sig) : Option (Bool) := Option.bind (V.boolOf v) fun u0 => some u0
theorem K_sutureref1_Keyword_wk {v : V} {s : Sig} {r : Bool} (h : K_sutureref1_Keyword v s = some r) : Wk v (enc_sutureref1_Keyword r) ∧ WkS 0 s (encS_sutureref1_Keyword r) := by
  unfold K_sutureref1_Keyword at h
  obtain ⟨u0, hu0, h⟩ := Option.bind_eq_some_iff.1 h
  simp only [Option.some.injEq] at h
  subst h
  exact ⟨(boolOf_wk hu0), (WkS.none _)⟩
theorem m_sutureref1_Keyword_eq (n : Nat) (a0 : ByteArray) : mF Tryd.prog (sp_sutureref1_Keyword n) 30 [(V.t (T.sc (.string a0)))] [] K_sutureref1_Keyword = m_sutureref1_Keyword n a0 := by kernel_rfl
theorem m_sutureref1_Keyword_ok (n : Nat) : ok_sutureref1_Keyword (m_sutureref1_Keyword n) := fun a0 r h => mF_ok sound (sp_sutureref1_Keyword_ok n) code_sutureref1_Keyword_fn code_sutureref1_Keyword_body (forall_getD (d := .skip) 1 (by kernel_rfl) (fun i hi => match i, hi with | 0, _ => l_sutureref1_Keyword_2_ok n | i + 1, hi => absurd hi (by omega))) (no_scope (by kernel_rfl)) ((m_sutureref1_Keyword_eq n a0).trans h) (fun v s hk => ⟨(K_sutureref1_Keyword_wk hk).1, rfl, (K_sutureref1_Keyword_wk hk).2⟩)


/-! suture/lex.IsName -/
def m_lex_IsName (n : Nat) (a0 : ByteArray) : Option (Bool) :=
Option.bind (bif (!(ByteArray.toList a0 == ByteArray.toList (⟨#[]⟩ : ByteArray))) then m_lex_word n a0 else some 0) fun r0 =>
Option.bind (bif (bif (!(ByteArray.toList a0 == ByteArray.toList (⟨#[]⟩ : ByteArray))) then ((r0 : Int) == ((ByteArray.size a0 : Nat) : Int)) else false) then m_lex_Keyword n a0 else some false) fun r1 =>
some (bif (bif (!(ByteArray.toList a0 == ByteArray.toList (⟨#[]⟩ : ByteArray))) then ((r0 : Int) == ((ByteArray.size a0 : Nat) : Int)) else false) then (!r1) else false)
def enc_lex_IsName (r : Bool) : V := (V.t (T.sc (.bool r)))
def encS_lex_IsName (r : Bool) : Sig := []
def ok_lex_IsName (m : ByteArray → Option (Bool)) : Prop := ∀ (a0 : ByteArray) (r : Bool), m a0 = some r → FuncOk Tryd.prog 28 [(V.t (T.sc (.string a0)))] [] (enc_lex_IsName r) (encS_lex_IsName r)
def c_lex_IsName (m : ByteArray → Option (Bool)) (vs : List V) (sg : Sig) : Option CallM := bif Nat.beq vs.length 1 && Nat.beq sg.length 0 then Option.bind (V.strOf (vs.getD 0 .any)) fun u0 => some { α := Bool, m := m u0, dflt := false, enc := fun y => ((V.t (T.sc (.bool y))), []) } else none
theorem c_lex_IsName_ok (m : ByteArray → Option (Bool)) (hm : ok_lex_IsName m) (vs : List V) (sg : Sig) (cm : CallM) (x : cm.α) (h : c_lex_IsName m vs sg = some cm) (hx : cm.m = some x) : FuncOk Tryd.prog 28 vs sg (cm.enc x).1 (cm.enc x).2 := by
  unfold c_lex_IsName at h
  have h0 := callee_sig h
  clear h
  obtain ⟨hl, hs, h⟩ := h0
  obtain ⟨u0, hu0, h⟩ := Option.bind_eq_some_iff.1 h
  simp only [Option.some.injEq] at h
  subst h
  exact (hm u0 x hx).wk (args_wk hl (.cons (strOf_wk hu0) .nil)) (wkSg_of hs .nil)
noncomputable def code_lex_IsName : Code := Tryd.f28.body.getD .skip
noncomputable def sp_lex_IsName (n : Nat) : Go.Eng.Spec := ⟨fun f vs sg => (match f with
    | 44 => c_lex_word (m_lex_word n) vs sg
    | 27 => c_lex_Keyword (m_lex_Keyword n) vs sg
    | _ => none), fun R key E sg K => (match key with
    | _ => none)⟩
theorem sp_lex_IsName_ok (n : Nat) : CallsOk Tryd.prog (sp_lex_IsName n) := by
  intro f vs sg cm x h hx
  simp only [sp_lex_IsName] at h
  split at h
  · exact c_lex_word_ok _ (m_lex_word_ok n) vs sg cm x h hx
  · exact c_lex_Keyword_ok _ (m_lex_Keyword_ok n) vs sg cm x h hx
  · cases h
theorem code_lex_IsName_fn : Tryd.prog.funcs[28]? = some Tryd.f28 := Tryd.func28
theorem code_lex_IsName_body : Tryd.f28.body = some code_lex_IsName := by kernel_rfl
theorem code_lex_IsName_ok : CodeOk Tryd.prog code_lex_IsName := (sound 28 _ _ code_lex_IsName_fn code_lex_IsName_body).1
def K_lex_IsName (v : V) (s : Sig) : Option (Bool) := Option.bind (V.boolOf v) fun u0 => some u0
theorem K_lex_IsName_wk {v : V} {s : Sig} {r : Bool} (h : K_lex_IsName v s = some r) : Wk v (enc_lex_IsName r) ∧ WkS 0 s (encS_lex_IsName r) := by
  unfold K_lex_IsName at h
  obtain ⟨u0, hu0, h⟩ := Option.bind_eq_some_iff.1 h
  simp only [Option.some.injEq] at h
  subst h
  exact ⟨(boolOf_wk hu0), (WkS.none _)⟩
theorem m_lex_IsName_eq (n : Nat) (a0 : ByteArray) : mF Tryd.prog (sp_lex_IsName n) 28 [(V.t (T.sc (.string a0)))] [] K_lex_IsName = m_lex_IsName n a0 := by kernel_rfl
theorem m_lex_IsName_ok (n : Nat) : ok_lex_IsName (m_lex_IsName n) := fun a0 r h => mF_ok sound (sp_lex_IsName_ok n) code_lex_IsName_fn code_lex_IsName_body (fun a ha => absurd ha (by rw [show loopsOf code_lex_IsName = [] from by kernel_rfl]; simp)) (no_scope (by kernel_rfl)) ((m_lex_IsName_eq n a0).trans h) (fun v s hk => ⟨(K_lex_IsName_wk hk).1, rfl, (K_lex_IsName_wk hk).2⟩)


/-! suture/sutureref1.isWord -/
def l_sutureref1_isWord_2_B (n : Nat) (k : ByteArray × Int → Option (((Bool) ⊕ ByteArray))) : ByteArray × Int → Option (((Bool) ⊕ ByteArray)) := fun (s0, s1) =>
bif (decide ((s1 : Int) < ((ByteArray.size s0 : Nat) : Int))) then (
Option.bind (bidx true s0 s1) fun b0 =>
Option.bind (m_sutureref1_letter n ((UInt8.toNat b0 : Nat) : Int)) fun r1 =>
Option.bind (bidx (((!r1) && !((s1 : Int) == 0))) s0 s1) fun b2 =>
Option.bind (bif ((!r1) && !((s1 : Int) == 0)) then m_sutureref1_digit n ((UInt8.toNat b2 : Nat) : Int) else some false) fun r3 =>
bif (bif (!r1) then (bif ((s1 : Int) == 0) then true else (!r3)) else false) then (
some (Sum.inl false))
else (
k (s0, (IntKind.wrap .i64 (s1 + 1)))))
else (
some (Sum.inr s0))
def l_sutureref1_isWord_2 (n : Nat) : Nat → ByteArray × Int → Option (((Bool) ⊕ ByteArray))
  | 0, _ => none
  | m + 1, s => l_sutureref1_isWord_2_B n (l_sutureref1_isWord_2 n m) s
def m_sutureref1_isWord (n : Nat) (a0 : ByteArray) : Option (Bool) :=
Option.bind (l_sutureref1_isWord_2 n n (a0, 0)) fun x4 =>
Sum.elim (fun p5 => 
some p5) (fun x4' => (fun p6 => 
some (bif (!(ByteArray.toList p6 == ByteArray.toList (⟨#[]⟩ : ByteArray))) then (decide ((((ByteArray.size p6 : Nat) : Int) : Int) ≤ 12)) else false)) x4') x4
def enc_sutureref1_isWord (r : Bool) : V := (V.t (T.sc (.bool r)))
def encS_sutureref1_isWord (r : Bool) : Sig := []
def ok_sutureref1_isWord (m : ByteArray → Option (Bool)) : Prop := ∀ (a0 : ByteArray) (r : Bool), m a0 = some r → FuncOk Tryd.prog 49 [(V.t (T.sc (.string a0)))] [] (enc_sutureref1_isWord r) (encS_sutureref1_isWord r)
def c_sutureref1_isWord (m : ByteArray → Option (Bool)) (vs : List V) (sg : Sig) : Option CallM := bif Nat.beq vs.length 1 && Nat.beq sg.length 0 then Option.bind (V.strOf (vs.getD 0 .any)) fun u0 => some { α := Bool, m := m u0, dflt := false, enc := fun y => ((V.t (T.sc (.bool y))), []) } else none
theorem c_sutureref1_isWord_ok (m : ByteArray → Option (Bool)) (hm : ok_sutureref1_isWord m) (vs : List V) (sg : Sig) (cm : CallM) (x : cm.α) (h : c_sutureref1_isWord m vs sg = some cm) (hx : cm.m = some x) : FuncOk Tryd.prog 49 vs sg (cm.enc x).1 (cm.enc x).2 := by
  unfold c_sutureref1_isWord at h
  have h0 := callee_sig h
  clear h
  obtain ⟨hl, hs, h⟩ := h0
  obtain ⟨u0, hu0, h⟩ := Option.bind_eq_some_iff.1 h
  simp only [Option.some.injEq] at h
  subst h
  exact (hm u0 x hx).wk (args_wk hl (.cons (strOf_wk hu0) .nil)) (wkSg_of hs .nil)
noncomputable def code_sutureref1_isWord : Code := Tryd.f49.body.getD .skip
def l_sutureref1_isWord_2_S (n : Nat) (R : Type) (E : SEnv) (sg : Sig) (K : Ex → SEnv → Sig → Option R) : Option R := Option.bind (V.strOf (SEnv.at E 0)) fun u0 => Option.bind (V.intOf .i64 (SEnv.at E 3)) fun u1 => Option.bind (l_sutureref1_isWord_2 n n (u0, u1)) fun y => Sum.elim (fun p0 => K .ret [(2, (V.t (T.sc (.bool p0))))] []) (fun y' => (fun p1 => K (.exit 0) [(0, (V.t (T.sc (.string p1))))] []) y') y
noncomputable def sp_sutureref1_isWord (n : Nat) : Go.Eng.Spec := ⟨fun f vs sg => (match f with
    | 62 => c_sutureref1_letter (m_sutureref1_letter n) vs sg
    | 63 => c_sutureref1_digit (m_sutureref1_digit n) vs sg
    | _ => none), fun R key E sg K => (match key with
    | 2 => l_sutureref1_isWord_2_S n R E sg K
    | _ => none)⟩
theorem sp_sutureref1_isWord_ok (n : Nat) : CallsOk Tryd.prog (sp_sutureref1_isWord n) := by
  intro f vs sg cm x h hx
  simp only [sp_sutureref1_isWord] at h
  split at h
  · exact c_sutureref1_letter_ok _ (m_sutureref1_letter_ok n) vs sg cm x h hx
  · exact c_sutureref1_digit_ok _ (m_sutureref1_digit_ok n) vs sg cm x h hx
  · cases h
theorem code_sutureref1_isWord_fn : Tryd.prog.funcs[49]? = some Tryd.f49 := Tryd.func49
theorem code_sutureref1_isWord_body : Tryd.f49.body = some code_sutureref1_isWord := by kernel_rfl
theorem code_sutureref1_isWord_ok : CodeOk Tryd.prog code_sutureref1_isWord := (sound 49 _ _ code_sutureref1_isWord_fn code_sutureref1_isWord_body).1
noncomputable def code_l_sutureref1_isWord_2 : Code := (loopsOf code_sutureref1_isWord).getD 0 .skip
theorem code_l_sutureref1_isWord_2_ok : CodeOk Tryd.prog code_l_sutureref1_isWord_2 := codeOk_loops code_sutureref1_isWord_ok _ (getD_mem (by kernel_rfl))
def l_sutureref1_isWord_2_K (k : ByteArray × Int → Option (((Bool) ⊕ ByteArray))) : Ex → SEnv → Sig → Option (((Bool) ⊕ ByteArray)) := fun x E sg => match x with
  | .normal => Option.bind (V.strOf (SEnv.at E 0)) fun u0 => Option.bind (V.intOf .i64 (SEnv.at E 3)) fun u1 => k (u0, u1)
  | .ret => Option.bind (V.boolOf (SEnv.at E 2)) fun u0 => some (Sum.inl u0)
  | (.exit 0) => Option.bind (V.strOf (SEnv.at E 0)) fun u0 => some (Sum.inr u0)
  | _ => none
theorem l_sutureref1_isWord_2_eq (n : Nat) (k : ByteArray × Int → Option (((Bool) ⊕ ByteArray))) (s0 : ByteArray) (s1 : Int) : mX Tryd.prog (sp_sutureref1_isWord n) 33 code_l_sutureref1_isWord_2 [(0, (V.t (T.sc (.string s0)))), (3, (V.t (T.sc (.int .i64 s1))))] [] (l_sutureref1_isWord_2_K k) = l_sutureref1_isWord_2_B n k (s0, s1) := by kernel_rfl
def l_sutureref1_isWord_2_Q (x : ((Bool) ⊕ ByteArray)) (ex : Ex) (e : Env) (s : Sig) : Prop := Sum.elim (fun p0 => (ex = .ret ∧ e = SEnv.env 33 [(2, (V.t (T.sc (.bool p0))))] ∧ s = [])) (fun x' => (fun p1 => (ex = (.exit 0) ∧ e = SEnv.env 33 [(0, (V.t (T.sc (.string p1))))] ∧ s = [])) x') x
theorem l_sutureref1_isWord_2_run (n : Nat) : ∀ (m : Nat) (s0 : ByteArray) (s1 : Int) (x : ((Bool) ⊕ ByteArray)), l_sutureref1_isWord_2 n m (s0, s1) = some x → SemL Tryd.prog 0 code_l_sutureref1_isWord_2 (SEnv.env 33 [(0, (V.t (T.sc (.string s0)))), (3, (V.t (T.sc (.int .i64 s1))))]) [] (l_sutureref1_isWord_2_Q x)
  | 0, s0, s1, x, h => by cases h
  | m + 1, s0, s1, x, h => by
    refine loop_step (sp_sutureref1_isWord_ok n) code_l_sutureref1_isWord_2_ok (fun a ha => absurd ha (by rw [show loopsOf code_l_sutureref1_isWord_2 = [] from by kernel_rfl]; simp)) (no_scope (by kernel_rfl)) ((l_sutureref1_isWord_2_eq n _ s0 s1).trans h) (fun E sg h => ?_) (fun ex E sg hne h => ?_)
    · simp only [l_sutureref1_isWord_2_K] at h
      obtain ⟨u0, hu0, h⟩ := Option.bind_eq_some_iff.1 h
      obtain ⟨u1, hu1, h⟩ := Option.bind_eq_some_iff.1 h
      exact SemL.pre (k := 0) (by decide) (WkA.env (WkA.cons (strOf_wk hu0) rfl (WkA.cons (intOf_wk hu1) rfl WkA.nil)) 33) (WkS.none _) (l_sutureref1_isWord_2_run n m _ _ x h)
    · unfold l_sutureref1_isWord_2_K at h
      split at h
      · exact absurd rfl hne
      · obtain ⟨u0, hu0, h⟩ := Option.bind_eq_some_iff.1 h
        simp only [Option.some.injEq] at h
        subst h
        exact ⟨0, _, _, by decide, WkA.env (WkA.cons (boolOf_wk hu0) rfl WkA.nil) 33, (WkS.none _), rfl, rfl, rfl⟩
      · obtain ⟨u0, hu0, h⟩ := Option.bind_eq_some_iff.1 h
        simp only [Option.some.injEq] at h
        subst h
        exact ⟨0, _, _, by decide, WkA.env (WkA.cons (strOf_wk hu0) rfl WkA.nil) 33, (WkS.none _), rfl, rfl, rfl⟩
      · cases h
theorem l_sutureref1_isWord_2_ok (n : Nat) : LoopOk Tryd.prog (sp_sutureref1_isWord n) 0 33 code_l_sutureref1_isWord_2 := by
    intro R key E sg K r hk h
    rw [show Go.Eng.keyOf code_l_sutureref1_isWord_2 = some 2 from by kernel_rfl] at hk
    cases hk
    have h : l_sutureref1_isWord_2_S n R E sg K = some r := h
    unfold l_sutureref1_isWord_2_S at h
    obtain ⟨u0, hu0, h⟩ := Option.bind_eq_some_iff.1 h
    obtain ⟨u1, hu1, h⟩ := Option.bind_eq_some_iff.1 h
    obtain ⟨x, hx, h⟩ := Option.bind_eq_some_iff.1 h
    refine (SemL.pre (k := 0) (by decide) (WkA.env (WkA.cons (strOf_wk hu0) rfl (WkA.cons (intOf_wk hu1) rfl WkA.nil)) 33) (WkS.none _) (l_sutureref1_isWord_2_run n n _ _ x hx)).mono ?_
    intro ex e s hq
    rcases x with x | x <;> (obtain ⟨rfl, rfl, rfl⟩ := hq; exact ⟨_, rfl, h⟩) -- 5
def K_sutureref1_isWord (v : V) (s : Sig) : Option (Bool) := Option.bind (V.boolOf v) fun u0 => some u0
theorem K_sutureref1_isWord_wk {v : V} {s : Sig} {r : Bool} (h : K_sutureref1_isWord v s = some r) : Wk v (enc_sutureref1_isWord r) ∧ WkS 0 s (encS_sutureref1_isWord r) := by
  unfold K_sutureref1_isWord at h
  obtain ⟨u0, hu0, h⟩ := Option.bind_eq_some_iff.1 h
  simp only [Option.some.injEq] at h
  subst h
  exact ⟨(boolOf_wk hu0), (WkS.none _)⟩
theorem m_sutureref1_isWord_eq (n : Nat) (a0 : ByteArray) : mF Tryd.prog (sp_sutureref1_isWord n) 49 [(V.t (T.sc (.string a0)))] [] K_sutureref1_isWord = m_sutureref1_isWord n a0 := by kernel_rfl
theorem m_sutureref1_isWord_ok (n : Nat) : ok_sutureref1_isWord (m_sutureref1_isWord n) := fun a0 r h => mF_ok sound (sp_sutureref1_isWord_ok n) code_sutureref1_isWord_fn code_sutureref1_isWord_body (forall_getD (d := .skip) 1 (by kernel_rfl) (fun i hi => match i, hi with | 0, _ => l_sutureref1_isWord_2_ok n | i + 1, hi => absurd hi (by omega))) (no_scope (by kernel_rfl)) ((m_sutureref1_isWord_eq n a0).trans h) (fun v s hk => ⟨(K_sutureref1_isWord_wk hk).1, rfl, (K_sutureref1_isWord_wk hk).2⟩)


/-! suture/sutureref1.IsName -/
def m_sutureref1_IsName (n : Nat) (a0 : ByteArray) : Option (Bool) :=
Option.bind (m_sutureref1_isWord n a0) fun r0 =>
Option.bind (bif r0 then m_sutureref1_Keyword n a0 else some false) fun r1 =>
some (bif r0 then (!r1) else false)
def enc_sutureref1_IsName (r : Bool) : V := (V.t (T.sc (.bool r)))
def encS_sutureref1_IsName (r : Bool) : Sig := []
def ok_sutureref1_IsName (m : ByteArray → Option (Bool)) : Prop := ∀ (a0 : ByteArray) (r : Bool), m a0 = some r → FuncOk Tryd.prog 31 [(V.t (T.sc (.string a0)))] [] (enc_sutureref1_IsName r) (encS_sutureref1_IsName r)
def c_sutureref1_IsName (m : ByteArray → Option (Bool)) (vs : List V) (sg : Sig) : Option CallM := bif Nat.beq vs.length 1 && Nat.beq sg.length 0 then Option.bind (V.strOf (vs.getD 0 .any)) fun u0 => some { α := Bool, m := m u0, dflt := false, enc := fun y => ((V.t (T.sc (.bool y))), []) } else none
theorem c_sutureref1_IsName_ok (m : ByteArray → Option (Bool)) (hm : ok_sutureref1_IsName m) (vs : List V) (sg : Sig) (cm : CallM) (x : cm.α) (h : c_sutureref1_IsName m vs sg = some cm) (hx : cm.m = some x) : FuncOk Tryd.prog 31 vs sg (cm.enc x).1 (cm.enc x).2 := by
  unfold c_sutureref1_IsName at h
  have h0 := callee_sig h
  clear h
  obtain ⟨hl, hs, h⟩ := h0
  obtain ⟨u0, hu0, h⟩ := Option.bind_eq_some_iff.1 h
  simp only [Option.some.injEq] at h
  subst h
  exact (hm u0 x hx).wk (args_wk hl (.cons (strOf_wk hu0) .nil)) (wkSg_of hs .nil)
noncomputable def code_sutureref1_IsName : Code := Tryd.f31.body.getD .skip
noncomputable def sp_sutureref1_IsName (n : Nat) : Go.Eng.Spec := ⟨fun f vs sg => (match f with
    | 49 => c_sutureref1_isWord (m_sutureref1_isWord n) vs sg
    | 30 => c_sutureref1_Keyword (m_sutureref1_Keyword n) vs sg
    | _ => none), fun R key E sg K => (match key with
    | _ => none)⟩
theorem sp_sutureref1_IsName_ok (n : Nat) : CallsOk Tryd.prog (sp_sutureref1_IsName n) := by
  intro f vs sg cm x h hx
  simp only [sp_sutureref1_IsName] at h
  split at h
  · exact c_sutureref1_isWord_ok _ (m_sutureref1_isWord_ok n) vs sg cm x h hx
  · exact c_sutureref1_Keyword_ok _ (m_sutureref1_Keyword_ok n) vs sg cm x h hx
  · cases h
theorem code_sutureref1_IsName_fn : Tryd.prog.funcs[31]? = some Tryd.f31 := Tryd.func31
theorem code_sutureref1_IsName_body : Tryd.f31.body = some code_sutureref1_IsName := by kernel_rfl
theorem code_sutureref1_IsName_ok : CodeOk Tryd.prog code_sutureref1_IsName := (sound 31 _ _ code_sutureref1_IsName_fn code_sutureref1_IsName_body).1
def K_sutureref1_IsName (v : V) (s : Sig) : Option (Bool) := Option.bind (V.boolOf v) fun u0 => some u0
theorem K_sutureref1_IsName_wk {v : V} {s : Sig} {r : Bool} (h : K_sutureref1_IsName v s = some r) : Wk v (enc_sutureref1_IsName r) ∧ WkS 0 s (encS_sutureref1_IsName r) := by
  unfold K_sutureref1_IsName at h
  obtain ⟨u0, hu0, h⟩ := Option.bind_eq_some_iff.1 h
  simp only [Option.some.injEq] at h
  subst h
  exact ⟨(boolOf_wk hu0), (WkS.none _)⟩
theorem m_sutureref1_IsName_eq (n : Nat) (a0 : ByteArray) : mF Tryd.prog (sp_sutureref1_IsName n) 31 [(V.t (T.sc (.string a0)))] [] K_sutureref1_IsName = m_sutureref1_IsName n a0 := by kernel_rfl
theorem m_sutureref1_IsName_ok (n : Nat) : ok_sutureref1_IsName (m_sutureref1_IsName n) := fun a0 r h => mF_ok sound (sp_sutureref1_IsName_ok n) code_sutureref1_IsName_fn code_sutureref1_IsName_body (fun a ha => absurd ha (by rw [show loopsOf code_sutureref1_IsName = [] from by kernel_rfl]; simp)) (no_scope (by kernel_rfl)) ((m_sutureref1_IsName_eq n a0).trans h) (fun v s hk => ⟨(K_sutureref1_IsName_wk hk).1, rfl, (K_sutureref1_IsName_wk hk).2⟩)


/-! suture/suturelaw2.LexTells -/
def l_suturelaw2_LexTells_9_B (n : Nat) (k : (List T) × ByteArray × ByteArray × (List T) × (List T) × Int × Int → Option (((Bool) ⊕ (List T) × ByteArray))) : (List T) × ByteArray × ByteArray × (List T) × (List T) × Int × Int → Option (((Bool) ⊕ (List T) × ByteArray)) := fun (s0, s1, s2, s3, s4, s5, s6) =>
bif (decide ((s6 : Int) < s5)) then (
Option.bind (idx true [.int .i64, .str, .int .i64, .cplx .f64] s3 s6) fun y4 =>
Option.bind (idx true [.int .i64, .str, .int .i64, .int .i64] s4 s6) fun y5 =>
Option.bind (idx (!(((y4.cell 0).int : Int) != (y5.cell 0).int)) [.int .i64, .str, .int .i64, .cplx .f64] s3 s6) fun y6 =>
Option.bind (idx (!(((y4.cell 0).int : Int) != (y5.cell 0).int)) [.int .i64, .str, .int .i64, .int .i64] s4 s6) fun y7 =>
Option.bind (idx (!(bif (((y4.cell 0).int : Int) != (y5.cell 0).int) then true else (!(ByteArray.toList (y6.cell 1).str == ByteArray.toList (y7.cell 1).str)))) [.int .i64, .str, .int .i64, .cplx .f64] s3 s6) fun y8 =>
Option.bind (idx (!(bif (((y4.cell 0).int : Int) != (y5.cell 0).int) then true else (!(ByteArray.toList (y6.cell 1).str == ByteArray.toList (y7.cell 1).str)))) [.int .i64, .str, .int .i64, .int .i64] s4 s6) fun y9 =>
Option.bind (idx (!(bif (bif (((y4.cell 0).int : Int) != (y5.cell 0).int) then true else (!(ByteArray.toList (y6.cell 1).str == ByteArray.toList (y7.cell 1).str))) then true else (((y8.cell 2).int : Int) != (y9.cell 2).int))) [.int .i64, .str, .int .i64, .cplx .f64] s3 s6) fun y10 =>
Option.bind (idx (!(bif (bif (((y4.cell 0).int : Int) != (y5.cell 0).int) then true else (!(ByteArray.toList (y6.cell 1).str == ByteArray.toList (y7.cell 1).str))) then true else (((y8.cell 2).int : Int) != (y9.cell 2).int))) [.int .i64, .str, .int .i64, .int .i64] s4 s6) fun y11 =>
Option.bind (bif !(bif (bif (((y4.cell 0).int : Int) != (y5.cell 0).int) then true else (!(ByteArray.toList (y6.cell 1).str == ByteArray.toList (y7.cell 1).str))) then true else (((y8.cell 2).int : Int) != (y9.cell 2).int)) then m_sutureref1_Place n s2 (y11.cell 3).int else some (0, 0)) fun r12 =>
bif (bif (bif (bif (((y4.cell 0).int : Int) != (y5.cell 0).int) then true else (!(ByteArray.toList (y6.cell 1).str == ByteArray.toList (y7.cell 1).str))) then true else (((y8.cell 2).int : Int) != (y9.cell 2).int)) then true else (!(cplxEq .f64 (y10.cell 3).re (y10.cell 3).im r12.1 r12.2))) then (
some (Sum.inl false))
else (
k (s0, s1, s2, s3, s4, s5, (IntKind.wrap .i64 (s6 + 1)))))
else (
some (Sum.inr (s0, s1)))
def l_suturelaw2_LexTells_9 (n : Nat) : Nat → (List T) × ByteArray × ByteArray × (List T) × (List T) × Int × Int → Option (((Bool) ⊕ (List T) × ByteArray))
  | 0, _ => none
  | m + 1, s => l_suturelaw2_LexTells_9_B n (l_suturelaw2_LexTells_9 n m) s
def m_suturelaw2_LexTells (n : Nat) (a0 : List T) (a1 : ByteArray) (a2 : Bool) : Option (Bool) :=
Option.bind (m_suturelaw2_text n a0 a1) fun r0 =>
bif a2 then (
Option.bind (m_lex_Tokens n a1) fun r1 =>
Option.bind (m_sutureref1_Tokens n a1) fun r2 =>
Option.bind (bif (!(bif ((r1.2.2 : Int) != r2.2.2) then true else ((((List.length r1.1 : Nat) : Int) : Int) != ((List.length r2.1 : Nat) : Int))) && ((r1.2.2 : Int) != 0)) then m_sutureref1_Place n a1 r2.2.1 else some (0, 0)) fun r3 =>
bif (bif (bif (bif ((r1.2.2 : Int) != r2.2.2) then true else ((((List.length r1.1 : Nat) : Int) : Int) != ((List.length r2.1 : Nat) : Int))) then true else (bif ((r1.2.2 : Int) != 0) then (!(cplxEq .f64 r1.2.1.1 r1.2.1.2 r3.1 r3.2)) else false)) then true else (bif ((r1.2.2 : Int) == 0) then (!(cplxEq .f64 r1.2.1.1 r1.2.1.2 0 0)) else false)) then (
some false)
else (
Option.bind (l_suturelaw2_LexTells_9 n n (a0, a1, a1, r1.1, r2.1, ((List.length r2.1 : Nat) : Int), 0)) fun x13 =>
Sum.elim (fun p14 => 
some p14) (fun x13' => (fun p15 => 
Option.bind (m_suturelaw2_known n) fun r16 =>
Option.bind (bif r16 then m_lex_Keyword n p15.2 else some false) fun r17 =>
Option.bind (bif r16 then m_sutureref1_Keyword n p15.2 else some false) fun r18 =>
Option.bind (bif (bif r16 then (r17 == r18) else false) then m_lex_IsName n p15.2 else some false) fun r19 =>
Option.bind (bif (bif r16 then (r17 == r18) else false) then m_sutureref1_IsName n p15.2 else some false) fun r20 =>
Option.bind (bif (bif (bif r16 then (r17 == r18) else false) then (r19 == r20) else false) then m_suturelaw2_text n p15.1 (⟨#[]⟩ : ByteArray) else some default) fun r21 =>
Option.bind (bif (bif (bif r16 then (r17 == r18) else false) then (r19 == r20) else false) then m_lex_IsName n r21 else some false) fun r22 =>
Option.bind (bif (bif (bif r16 then (r17 == r18) else false) then (r19 == r20) else false) then m_suturelaw2_text n p15.1 (⟨#[]⟩ : ByteArray) else some default) fun r23 =>
Option.bind (bif (bif (bif r16 then (r17 == r18) else false) then (r19 == r20) else false) then m_sutureref1_IsName n r23 else some false) fun r24 =>
some (bif (bif (bif r16 then (r17 == r18) else false) then (r19 == r20) else false) then (r22 == r24) else false)) x13') x13))
else (
Option.bind (m_lex_Tokens n r0) fun r25 =>
Option.bind (m_sutureref1_Tokens n r0) fun r26 =>
Option.bind (bif (!(bif ((r25.2.2 : Int) != r26.2.2) then true else ((((List.length r25.1 : Nat) : Int) : Int) != ((List.length r26.1 : Nat) : Int))) && ((r25.2.2 : Int) != 0)) then m_sutureref1_Place n r0 r26.2.1 else some (0, 0)) fun r27 =>
bif (bif (bif (bif ((r25.2.2 : Int) != r26.2.2) then true else ((((List.length r25.1 : Nat) : Int) : Int) != ((List.length r26.1 : Nat) : Int))) then true else (bif ((r25.2.2 : Int) != 0) then (!(cplxEq .f64 r25.2.1.1 r25.2.1.2 r27.1 r27.2)) else false)) then true else (bif ((r25.2.2 : Int) == 0) then (!(cplxEq .f64 r25.2.1.1 r25.2.1.2 0 0)) else false)) then (
some false)
else (
Option.bind (l_suturelaw2_LexTells_9 n n (a0, a1, r0, r25.1, r26.1, ((List.length r26.1 : Nat) : Int), 0)) fun x28 =>
Sum.elim (fun p29 => 
some p29) (fun x28' => (fun p30 => 
Option.bind (m_suturelaw2_known n) fun r31 =>
Option.bind (bif r31 then m_lex_Keyword n p30.2 else some false) fun r32 =>
Option.bind (bif r31 then m_sutureref1_Keyword n p30.2 else some false) fun r33 =>
Option.bind (bif (bif r31 then (r32 == r33) else false) then m_lex_IsName n p30.2 else some false) fun r34 =>
Option.bind (bif (bif r31 then (r32 == r33) else false) then m_sutureref1_IsName n p30.2 else some false) fun r35 =>
Option.bind (bif (bif (bif r31 then (r32 == r33) else false) then (r34 == r35) else false) then m_suturelaw2_text n p30.1 (⟨#[]⟩ : ByteArray) else some default) fun r36 =>
Option.bind (bif (bif (bif r31 then (r32 == r33) else false) then (r34 == r35) else false) then m_lex_IsName n r36 else some false) fun r37 =>
Option.bind (bif (bif (bif r31 then (r32 == r33) else false) then (r34 == r35) else false) then m_suturelaw2_text n p30.1 (⟨#[]⟩ : ByteArray) else some default) fun r38 =>
Option.bind (bif (bif (bif r31 then (r32 == r33) else false) then (r34 == r35) else false) then m_sutureref1_IsName n r38 else some false) fun r39 =>
some (bif (bif (bif r31 then (r32 == r33) else false) then (r34 == r35) else false) then (r37 == r39) else false)) x28') x28))
def enc_suturelaw2_LexTells (r : Bool) : V := (V.t (T.sc (.bool r)))
def encS_suturelaw2_LexTells (r : Bool) : Sig := []
def ok_suturelaw2_LexTells (m : List T → ByteArray → Bool → Option (Bool)) : Prop := ∀ (a0 : List T) (a1 : ByteArray) (a2 : Bool) (r : Bool), m a0 a1 a2 = some r → FuncOk Tryd.prog 12 [(V.t (T.list a0)), (V.t (T.sc (.string a1))), (V.t (T.sc (.bool a2)))] [] (enc_suturelaw2_LexTells r) (encS_suturelaw2_LexTells r)
def c_suturelaw2_LexTells (m : List T → ByteArray → Bool → Option (Bool)) (vs : List V) (sg : Sig) : Option CallM := bif Nat.beq vs.length 3 && Nat.beq sg.length 0 then Option.bind (V.lstOf (vs.getD 0 .any)) fun u0 => Option.bind (V.strOf (vs.getD 1 .any)) fun u1 => Option.bind (V.boolOf (vs.getD 2 .any)) fun u2 => some { α := Bool, m := m u0 u1 u2, dflt := false, enc := fun y => ((V.t (T.sc (.bool y))), []) } else none
theorem c_suturelaw2_LexTells_ok (m : List T → ByteArray → Bool → Option (Bool)) (hm : ok_suturelaw2_LexTells m) (vs : List V) (sg : Sig) (cm : CallM) (x : cm.α) (h : c_suturelaw2_LexTells m vs sg = some cm) (hx : cm.m = some x) : FuncOk Tryd.prog 12 vs sg (cm.enc x).1 (cm.enc x).2 := by
  unfold c_suturelaw2_LexTells at h
  have h0 := callee_sig h
  clear h
  obtain ⟨hl, hs, h⟩ := h0
  obtain ⟨u0, hu0, h⟩ := Option.bind_eq_some_iff.1 h
  obtain ⟨u1, hu1, h⟩ := Option.bind_eq_some_iff.1 h
  obtain ⟨u2, hu2, h⟩ := Option.bind_eq_some_iff.1 h
  simp only [Option.some.injEq] at h
  subst h
  exact (hm u0 u1 u2 x hx).wk (args_wk hl (.cons (lstOf_wk hu0) (.cons (strOf_wk hu1) (.cons (boolOf_wk hu2) .nil)))) (wkSg_of hs .nil)
noncomputable def code_suturelaw2_LexTells : Code := Tryd.f12.body.getD .skip
def l_suturelaw2_LexTells_9_S (n : Nat) (R : Type) (E : SEnv) (sg : Sig) (K : Ex → SEnv → Sig → Option R) : Option R := Option.bind (V.lstOf (SEnv.at E 0)) fun u0 => Option.bind (V.strOf (SEnv.at E 1)) fun u1 => Option.bind (V.strOf (SEnv.at E 7)) fun u2 => Option.bind (V.lstOf (SEnv.at E 8)) fun u3 => Option.bind (V.lstOf (SEnv.at E 11)) fun u4 => Option.bind (V.intOf .i64 (SEnv.at E 62)) fun u5 => Option.bind (V.intOf .i64 (SEnv.at E 63)) fun u6 => Option.bind (l_suturelaw2_LexTells_9 n n (u0, u1, u2, u3, u4, u5, u6)) fun y => Sum.elim (fun p0 => K .ret [(6, (V.t (T.sc (.bool p0))))] []) (fun y' => (fun p1 => K (.exit 0) [(0, (V.t (T.list p1.1))), (1, (V.t (T.sc (.string p1.2))))] []) y') y
noncomputable def sp_suturelaw2_LexTells (n : Nat) : Go.Eng.Spec := ⟨fun f vs sg => (match f with
    | 23 => c_suturelaw2_text (m_suturelaw2_text n) vs sg
    | 24 => c_lex_Tokens (m_lex_Tokens n) vs sg
    | 29 => c_sutureref1_Tokens (m_sutureref1_Tokens n) vs sg
    | 26 => c_sutureref1_Place (m_sutureref1_Place n) vs sg
    | 25 => c_suturelaw2_known (m_suturelaw2_known n) vs sg
    | 27 => c_lex_Keyword (m_lex_Keyword n) vs sg
    | 30 => c_sutureref1_Keyword (m_sutureref1_Keyword n) vs sg
    | 28 => c_lex_IsName (m_lex_IsName n) vs sg
    | 31 => c_sutureref1_IsName (m_sutureref1_IsName n) vs sg
    | _ => none), fun R key E sg K => (match key with
    | 9 => l_suturelaw2_LexTells_9_S n R E sg K
    | _ => none)⟩
theorem sp_suturelaw2_LexTells_ok (n : Nat) : CallsOk Tryd.prog (sp_suturelaw2_LexTells n) := by
  intro f vs sg cm x h hx
  simp only [sp_suturelaw2_LexTells] at h
  split at h
  · exact c_suturelaw2_text_ok _ (m_suturelaw2_text_ok n) vs sg cm x h hx
  · exact c_lex_Tokens_ok _ (m_lex_Tokens_ok n) vs sg cm x h hx
  · exact c_sutureref1_Tokens_ok _ (m_sutureref1_Tokens_ok n) vs sg cm x h hx
  · exact c_sutureref1_Place_ok _ (m_sutureref1_Place_ok n) vs sg cm x h hx
  · exact c_suturelaw2_known_ok _ (m_suturelaw2_known_ok n) vs sg cm x h hx
  · exact c_lex_Keyword_ok _ (m_lex_Keyword_ok n) vs sg cm x h hx
  · exact c_sutureref1_Keyword_ok _ (m_sutureref1_Keyword_ok n) vs sg cm x h hx
  · exact c_lex_IsName_ok _ (m_lex_IsName_ok n) vs sg cm x h hx
  · exact c_sutureref1_IsName_ok _ (m_sutureref1_IsName_ok n) vs sg cm x h hx
  · cases h
theorem code_suturelaw2_LexTells_fn : Tryd.prog.funcs[12]? = some Tryd.f12 := Tryd.func12
theorem code_suturelaw2_LexTells_body : Tryd.f12.body = some code_suturelaw2_LexTells := by kernel_rfl
theorem code_suturelaw2_LexTells_ok : CodeOk Tryd.prog code_suturelaw2_LexTells := (sound 12 _ _ code_suturelaw2_LexTells_fn code_suturelaw2_LexTells_body).1
noncomputable def code_l_suturelaw2_LexTells_9 : Code := (loopsOf code_suturelaw2_LexTells).getD 0 .skip
theorem code_l_suturelaw2_LexTells_9_ok : CodeOk Tryd.prog code_l_suturelaw2_LexTells_9 := codeOk_loops code_suturelaw2_LexTells_ok _ (getD_mem (by kernel_rfl))
def l_suturelaw2_LexTells_9_K (k : (List T) × ByteArray × ByteArray × (List T) × (List T) × Int × Int → Option (((Bool) ⊕ (List T) × ByteArray))) : Ex → SEnv → Sig → Option (((Bool) ⊕ (List T) × ByteArray)) := fun x E sg => match x with
  | .normal => Option.bind (V.lstOf (SEnv.at E 0)) fun u0 => Option.bind (V.strOf (SEnv.at E 1)) fun u1 => Option.bind (V.strOf (SEnv.at E 7)) fun u2 => Option.bind (V.lstOf (SEnv.at E 8)) fun u3 => Option.bind (V.lstOf (SEnv.at E 11)) fun u4 => Option.bind (V.intOf .i64 (SEnv.at E 62)) fun u5 => Option.bind (V.intOf .i64 (SEnv.at E 63)) fun u6 => k (u0, u1, u2, u3, u4, u5, u6)
  | .ret => Option.bind (V.boolOf (SEnv.at E 6)) fun u0 => some (Sum.inl u0)
  | (.exit 0) => Option.bind (V.lstOf (SEnv.at E 0)) fun u0 => Option.bind (V.strOf (SEnv.at E 1)) fun u1 => some (Sum.inr (u0, u1))
  | _ => none
theorem l_suturelaw2_LexTells_9_eq (n : Nat) (k : (List T) × ByteArray × ByteArray × (List T) × (List T) × Int × Int → Option (((Bool) ⊕ (List T) × ByteArray))) (s0 : List T) (s1 : ByteArray) (s2 : ByteArray) (s3 : List T) (s4 : List T) (s5 : Int) (s6 : Int) : mX Tryd.prog (sp_suturelaw2_LexTells n) 143 code_l_suturelaw2_LexTells_9 [(0, (V.t (T.list s0))), (1, (V.t (T.sc (.string s1)))), (7, (V.t (T.sc (.string s2)))), (8, (V.t (T.list s3))), (11, (V.t (T.list s4))), (62, (V.t (T.sc (.int .i64 s5)))), (63, (V.t (T.sc (.int .i64 s6))))] [] (l_suturelaw2_LexTells_9_K k) = l_suturelaw2_LexTells_9_B n k (s0, s1, s2, s3, s4, s5, s6) := by kernel_rfl
def l_suturelaw2_LexTells_9_Q (x : ((Bool) ⊕ (List T) × ByteArray)) (ex : Ex) (e : Env) (s : Sig) : Prop := Sum.elim (fun p0 => (ex = .ret ∧ e = SEnv.env 143 [(6, (V.t (T.sc (.bool p0))))] ∧ s = [])) (fun x' => (fun p1 => (ex = (.exit 0) ∧ e = SEnv.env 143 [(0, (V.t (T.list p1.1))), (1, (V.t (T.sc (.string p1.2))))] ∧ s = [])) x') x
theorem l_suturelaw2_LexTells_9_run (n : Nat) : ∀ (m : Nat) (s0 : List T) (s1 : ByteArray) (s2 : ByteArray) (s3 : List T) (s4 : List T) (s5 : Int) (s6 : Int) (x : ((Bool) ⊕ (List T) × ByteArray)), l_suturelaw2_LexTells_9 n m (s0, s1, s2, s3, s4, s5, s6) = some x → SemL Tryd.prog 0 code_l_suturelaw2_LexTells_9 (SEnv.env 143 [(0, (V.t (T.list s0))), (1, (V.t (T.sc (.string s1)))), (7, (V.t (T.sc (.string s2)))), (8, (V.t (T.list s3))), (11, (V.t (T.list s4))), (62, (V.t (T.sc (.int .i64 s5)))), (63, (V.t (T.sc (.int .i64 s6))))]) [] (l_suturelaw2_LexTells_9_Q x)
  | 0, s0, s1, s2, s3, s4, s5, s6, x, h => by cases h
  | m + 1, s0, s1, s2, s3, s4, s5, s6, x, h => by
    refine loop_step (sp_suturelaw2_LexTells_ok n) code_l_suturelaw2_LexTells_9_ok (fun a ha => absurd ha (by rw [show loopsOf code_l_suturelaw2_LexTells_9 = [] from by kernel_rfl]; simp)) (no_scope (by kernel_rfl)) ((l_suturelaw2_LexTells_9_eq n _ s0 s1 s2 s3 s4 s5 s6).trans h) (fun E sg h => ?_) (fun ex E sg hne h => ?_)
    · simp only [l_suturelaw2_LexTells_9_K] at h
      obtain ⟨u0, hu0, h⟩ := Option.bind_eq_some_iff.1 h
      obtain ⟨u1, hu1, h⟩ := Option.bind_eq_some_iff.1 h
      obtain ⟨u2, hu2, h⟩ := Option.bind_eq_some_iff.1 h
      obtain ⟨u3, hu3, h⟩ := Option.bind_eq_some_iff.1 h
      obtain ⟨u4, hu4, h⟩ := Option.bind_eq_some_iff.1 h
      obtain ⟨u5, hu5, h⟩ := Option.bind_eq_some_iff.1 h
      obtain ⟨u6, hu6, h⟩ := Option.bind_eq_some_iff.1 h
      exact SemL.pre (k := 0) (by decide) (WkA.env (WkA.cons (lstOf_wk hu0) rfl (WkA.cons (strOf_wk hu1) rfl (WkA.cons (strOf_wk hu2) rfl (WkA.cons (lstOf_wk hu3) rfl (WkA.cons (lstOf_wk hu4) rfl (WkA.cons (intOf_wk hu5) rfl (WkA.cons (intOf_wk hu6) rfl WkA.nil))))))) 143) (WkS.none _) (l_suturelaw2_LexTells_9_run n m _ _ _ _ _ _ _ x h)
    · unfold l_suturelaw2_LexTells_9_K at h
      split at h
      · exact absurd rfl hne
      · obtain ⟨u0, hu0, h⟩ := Option.bind_eq_some_iff.1 h
        simp only [Option.some.injEq] at h
        subst h
        exact ⟨0, _, _, by decide, WkA.env (WkA.cons (boolOf_wk hu0) rfl WkA.nil) 143, (WkS.none _), rfl, rfl, rfl⟩
      · obtain ⟨u0, hu0, h⟩ := Option.bind_eq_some_iff.1 h
        obtain ⟨u1, hu1, h⟩ := Option.bind_eq_some_iff.1 h
        simp only [Option.some.injEq] at h
        subst h
        exact ⟨0, _, _, by decide, WkA.env (WkA.cons (lstOf_wk hu0) rfl (WkA.cons (strOf_wk hu1) rfl WkA.nil)) 143, (WkS.none _), rfl, rfl, rfl⟩
      · cases h
theorem l_suturelaw2_LexTells_9_ok (n : Nat) : LoopOk Tryd.prog (sp_suturelaw2_LexTells n) 0 143 code_l_suturelaw2_LexTells_9 := by
    intro R key E sg K r hk h
    rw [show Go.Eng.keyOf code_l_suturelaw2_LexTells_9 = some 9 from by kernel_rfl] at hk
    cases hk
    have h : l_suturelaw2_LexTells_9_S n R E sg K = some r := h
    unfold l_suturelaw2_LexTells_9_S at h
    obtain ⟨u0, hu0, h⟩ := Option.bind_eq_some_iff.1 h
    obtain ⟨u1, hu1, h⟩ := Option.bind_eq_some_iff.1 h
    obtain ⟨u2, hu2, h⟩ := Option.bind_eq_some_iff.1 h
    obtain ⟨u3, hu3, h⟩ := Option.bind_eq_some_iff.1 h
    obtain ⟨u4, hu4, h⟩ := Option.bind_eq_some_iff.1 h
    obtain ⟨u5, hu5, h⟩ := Option.bind_eq_some_iff.1 h
    obtain ⟨u6, hu6, h⟩ := Option.bind_eq_some_iff.1 h
    obtain ⟨x, hx, h⟩ := Option.bind_eq_some_iff.1 h
    refine (SemL.pre (k := 0) (by decide) (WkA.env (WkA.cons (lstOf_wk hu0) rfl (WkA.cons (strOf_wk hu1) rfl (WkA.cons (strOf_wk hu2) rfl (WkA.cons (lstOf_wk hu3) rfl (WkA.cons (lstOf_wk hu4) rfl (WkA.cons (intOf_wk hu5) rfl (WkA.cons (intOf_wk hu6) rfl WkA.nil))))))) 143) (WkS.none _) (l_suturelaw2_LexTells_9_run n n _ _ _ _ _ _ _ x hx)).mono ?_
    intro ex e s hq
    rcases x with x | x <;> (obtain ⟨rfl, rfl, rfl⟩ := hq; exact ⟨_, rfl, h⟩) -- 5
def K_suturelaw2_LexTells (v : V) (s : Sig) : Option (Bool) := Option.bind (V.boolOf v) fun u0 => some u0
theorem K_suturelaw2_LexTells_wk {v : V} {s : Sig} {r : Bool} (h : K_suturelaw2_LexTells v s = some r) : Wk v (enc_suturelaw2_LexTells r) ∧ WkS 0 s (encS_suturelaw2_LexTells r) := by
  unfold K_suturelaw2_LexTells at h
  obtain ⟨u0, hu0, h⟩ := Option.bind_eq_some_iff.1 h
  simp only [Option.some.injEq] at h
  subst h
  exact ⟨(boolOf_wk hu0), (WkS.none _)⟩
theorem m_suturelaw2_LexTells_eq (n : Nat) (a0 : List T) (a1 : ByteArray) (a2 : Bool) : mF Tryd.prog (sp_suturelaw2_LexTells n) 12 [(V.t (T.list a0)), (V.t (T.sc (.string a1))), (V.t (T.sc (.bool a2)))] [] K_suturelaw2_LexTells = m_suturelaw2_LexTells n a0 a1 a2 := by kernel_rfl
theorem m_suturelaw2_LexTells_ok (n : Nat) : ok_suturelaw2_LexTells (m_suturelaw2_LexTells n) := fun a0 a1 a2 r h => mF_ok sound (sp_suturelaw2_LexTells_ok n) code_suturelaw2_LexTells_fn code_suturelaw2_LexTells_body (forall_getD (d := .skip) 1 (by kernel_rfl) (fun i hi => match i, hi with | 0, _ => l_suturelaw2_LexTells_9_ok n | i + 1, hi => absurd hi (by omega))) (no_scope (by kernel_rfl)) ((m_suturelaw2_LexTells_eq n a0 a1 a2).trans h) (fun v s hk => ⟨(K_suturelaw2_LexTells_wk hk).1, rfl, (K_suturelaw2_LexTells_wk hk).2⟩)


/-! suture/suturelaw2.LexNames -/
def l_suturelaw2_LexNames_2_B (n : Nat) (k : ByteArray × ByteArray × ByteArray × ByteArray × Int → Option (((Bool) ⊕ ByteArray))) : ByteArray × ByteArray × ByteArray × ByteArray × Int → Option (((Bool) ⊕ ByteArray)) := fun (s0, s1, s2, s3, s4) =>
bif (decide ((s4 : Int) < 3)) then (
Option.bind (idx1 true (.str) [(T.sc (.string s1)), (T.sc (.string s2)), (T.sc (.string s3))] s4) fun y2 =>
Option.bind (m_lex_Tokens n y2.str) fun r3 =>
Option.bind (idx ((bif ((r3.2.2 : Int) == 0) then ((((List.length r3.1 : Nat) : Int) : Int) == 2) else false)) [.int .i64, .str, .int .i64, .cplx .f64] r3.1 0) fun y4 =>
Option.bind (idx ((bif (bif ((r3.2.2 : Int) == 0) then ((((List.length r3.1 : Nat) : Int) : Int) == 2) else false) then (((y4.cell 0).int : Int) == 1) else false)) [.int .i64, .str, .int .i64, .cplx .f64] r3.1 0) fun y5 =>
Option.bind (bif (bif (bif (bif ((r3.2.2 : Int) == 0) then ((((List.length r3.1 : Nat) : Int) : Int) == 2) else false) then (((y4.cell 0).int : Int) == 1) else false) then (ByteArray.toList (y5.cell 1).str == ByteArray.toList y2.str) else false) then m_lex_Keyword n y2.str else some false) fun r6 =>
Option.bind (m_lex_IsName n y2.str) fun r7 =>
bif (!(r7 == (bif (bif (bif (bif ((r3.2.2 : Int) == 0) then ((((List.length r3.1 : Nat) : Int) : Int) == 2) else false) then (((y4.cell 0).int : Int) == 1) else false) then (ByteArray.toList (y5.cell 1).str == ByteArray.toList y2.str) else false) then (!r6) else false))) then (
some (Sum.inl false))
else (
k (s0, s1, s2, s3, (IntKind.wrap .i64 (s4 + 1)))))
else (
some (Sum.inr s0))
def l_suturelaw2_LexNames_2 (n : Nat) : Nat → ByteArray × ByteArray × ByteArray × ByteArray × Int → Option (((Bool) ⊕ ByteArray))
  | 0, _ => none
  | m + 1, s => l_suturelaw2_LexNames_2_B n (l_suturelaw2_LexNames_2 n m) s
def m_suturelaw2_LexNames (n : Nat) (a0 : List T) (a1 : ByteArray) : Option (Bool) :=
Option.bind (m_suturelaw2_text n a0 a1) fun r0 =>
must true (decide (0 ≤ 0) && decide (0 ≤ (if (1 : Int) < ((List.length a0 : Nat) : Int) then 1 else ((List.length a0 : Nat) : Int))) && decide ((if (1 : Int) < ((List.length a0 : Nat) : Int) then 1 else ((List.length a0 : Nat) : Int)) ≤ ((List.length a0 : Nat) : Int)) && sized 1 a0) (Option.bind (m_suturelaw2_text n (List.drop (Int.toNat 0) (List.take (Int.toNat (if (1 : Int) < ((List.length a0 : Nat) : Int) then 1 else ((List.length a0 : Nat) : Int))) a0)) (⟨#[]⟩ : ByteArray)) fun r1 =>
Option.bind (l_suturelaw2_LexNames_2 n n (a1, r0, a1, r1, 0)) fun x8 =>
Sum.elim (fun p9 => 
some p9) (fun x8' => (fun p10 => 
Option.bind (m_suturelaw2_known n) fun r11 =>
Option.bind (bif r11 then m_suturehand_Pick n ((ByteArray.size p10 : Nat) : Int) 2 else some 0) fun r12 =>
some (bif r11 then (decide ((r12 : Int) ≥ 0)) else false)) x8') x8)
def enc_suturelaw2_LexNames (r : Bool) : V := (V.t (T.sc (.bool r)))
def encS_suturelaw2_LexNames (r : Bool) : Sig := []
def ok_suturelaw2_LexNames (m : List T → ByteArray → Option (Bool)) : Prop := ∀ (a0 : List T) (a1 : ByteArray) (r : Bool), m a0 a1 = some r → FuncOk Tryd.prog 13 [(V.t (T.list a0)), (V.t (T.sc (.string a1)))] [] (enc_suturelaw2_LexNames r) (encS_suturelaw2_LexNames r)
def c_suturelaw2_LexNames (m : List T → ByteArray → Option (Bool)) (vs : List V) (sg : Sig) : Option CallM := bif Nat.beq vs.length 2 && Nat.beq sg.length 0 then Option.bind (V.lstOf (vs.getD 0 .any)) fun u0 => Option.bind (V.strOf (vs.getD 1 .any)) fun u1 => some { α := Bool, m := m u0 u1, dflt := false, enc := fun y => ((V.t (T.sc (.bool y))), []) } else none
theorem c_suturelaw2_LexNames_ok (m : List T → ByteArray → Option (Bool)) (hm : ok_suturelaw2_LexNames m) (vs : List V) (sg : Sig) (cm : CallM) (x : cm.α) (h : c_suturelaw2_LexNames m vs sg = some cm) (hx : cm.m = some x) : FuncOk Tryd.prog 13 vs sg (cm.enc x).1 (cm.enc x).2 := by
  unfold c_suturelaw2_LexNames at h
  have h0 := callee_sig h
  clear h
  obtain ⟨hl, hs, h⟩ := h0
  obtain ⟨u0, hu0, h⟩ := Option.bind_eq_some_iff.1 h
  obtain ⟨u1, hu1, h⟩ := Option.bind_eq_some_iff.1 h
  simp only [Option.some.injEq] at h
  subst h
  exact (hm u0 u1 x hx).wk (args_wk hl (.cons (lstOf_wk hu0) (.cons (strOf_wk hu1) .nil))) (wkSg_of hs .nil)
noncomputable def code_suturelaw2_LexNames : Code := Tryd.f13.body.getD .skip
def l_suturelaw2_LexNames_2_S (n : Nat) (R : Type) (E : SEnv) (sg : Sig) (K : Ex → SEnv → Sig → Option R) : Option R := Option.bind (V.strOf (SEnv.at E 1)) fun u0 => Option.bind (V.aggN 3 (SEnv.at E 21)) fun u1 => Option.bind (V.strOf (u1.getD 0 .any)) fun u2 => Option.bind (V.strOf (u1.getD 1 .any)) fun u3 => Option.bind (V.strOf (u1.getD 2 .any)) fun u4 => Option.bind (V.intOf .i64 (SEnv.at E 22)) fun u5 => Option.bind (l_suturelaw2_LexNames_2 n n (u0, u2, u3, u4, u5)) fun y => Sum.elim (fun p0 => K .ret [(4, (V.t (T.sc (.bool p0))))] []) (fun y' => (fun p1 => K (.exit 0) [(1, (V.t (T.sc (.string p1))))] []) y') y
noncomputable def sp_suturelaw2_LexNames (n : Nat) : Go.Eng.Spec := ⟨fun f vs sg => (match f with
    | 23 => c_suturelaw2_text (m_suturelaw2_text n) vs sg
    | 24 => c_lex_Tokens (m_lex_Tokens n) vs sg
    | 27 => c_lex_Keyword (m_lex_Keyword n) vs sg
    | 28 => c_lex_IsName (m_lex_IsName n) vs sg
    | 25 => c_suturelaw2_known (m_suturelaw2_known n) vs sg
    | 14 => c_suturehand_Pick (m_suturehand_Pick n) vs sg
    | _ => none), fun R key E sg K => (match key with
    | 2 => l_suturelaw2_LexNames_2_S n R E sg K
    | _ => none)⟩
theorem sp_suturelaw2_LexNames_ok (n : Nat) : CallsOk Tryd.prog (sp_suturelaw2_LexNames n) := by
  intro f vs sg cm x h hx
  simp only [sp_suturelaw2_LexNames] at h
  split at h
  · exact c_suturelaw2_text_ok _ (m_suturelaw2_text_ok n) vs sg cm x h hx
  · exact c_lex_Tokens_ok _ (m_lex_Tokens_ok n) vs sg cm x h hx
  · exact c_lex_Keyword_ok _ (m_lex_Keyword_ok n) vs sg cm x h hx
  · exact c_lex_IsName_ok _ (m_lex_IsName_ok n) vs sg cm x h hx
  · exact c_suturelaw2_known_ok _ (m_suturelaw2_known_ok n) vs sg cm x h hx
  · exact c_suturehand_Pick_ok _ (m_suturehand_Pick_ok n) vs sg cm x h hx
  · cases h
theorem code_suturelaw2_LexNames_fn : Tryd.prog.funcs[13]? = some Tryd.f13 := Tryd.func13
theorem code_suturelaw2_LexNames_body : Tryd.f13.body = some code_suturelaw2_LexNames := by kernel_rfl
theorem code_suturelaw2_LexNames_ok : CodeOk Tryd.prog code_suturelaw2_LexNames := (sound 13 _ _ code_suturelaw2_LexNames_fn code_suturelaw2_LexNames_body).1
noncomputable def code_l_suturelaw2_LexNames_2 : Code := (loopsOf code_suturelaw2_LexNames).getD 0 .skip
theorem code_l_suturelaw2_LexNames_2_ok : CodeOk Tryd.prog code_l_suturelaw2_LexNames_2 := codeOk_loops code_suturelaw2_LexNames_ok _ (getD_mem (by kernel_rfl))
def l_suturelaw2_LexNames_2_K (k : ByteArray × ByteArray × ByteArray × ByteArray × Int → Option (((Bool) ⊕ ByteArray))) : Ex → SEnv → Sig → Option (((Bool) ⊕ ByteArray)) := fun x E sg => match x with
  | .normal => Option.bind (V.strOf (SEnv.at E 1)) fun u0 => Option.bind (V.aggN 3 (SEnv.at E 21)) fun u1 => Option.bind (V.strOf (u1.getD 0 .any)) fun u2 => Option.bind (V.strOf (u1.getD 1 .any)) fun u3 => Option.bind (V.strOf (u1.getD 2 .any)) fun u4 => Option.bind (V.intOf .i64 (SEnv.at E 22)) fun u5 => k (u0, u2, u3, u4, u5)
  | .ret => Option.bind (V.boolOf (SEnv.at E 4)) fun u0 => some (Sum.inl u0)
  | (.exit 0) => Option.bind (V.strOf (SEnv.at E 1)) fun u0 => some (Sum.inr u0)
  | _ => none
theorem l_suturelaw2_LexNames_2_eq (n : Nat) (k : ByteArray × ByteArray × ByteArray × ByteArray × Int → Option (((Bool) ⊕ ByteArray))) (s0 : ByteArray) (s1 : ByteArray) (s2 : ByteArray) (s3 : ByteArray) (s4 : Int) : mX Tryd.prog (sp_suturelaw2_LexNames n) 70 code_l_suturelaw2_LexNames_2 [(1, (V.t (T.sc (.string s0)))), (21, (V.agg [(V.t (T.sc (.string s1))), (V.t (T.sc (.string s2))), (V.t (T.sc (.string s3)))])), (22, (V.t (T.sc (.int .i64 s4))))] [] (l_suturelaw2_LexNames_2_K k) = l_suturelaw2_LexNames_2_B n k (s0, s1, s2, s3, s4) := by kernel_rfl
def l_suturelaw2_LexNames_2_Q (x : ((Bool) ⊕ ByteArray)) (ex : Ex) (e : Env) (s : Sig) : Prop := Sum.elim (fun p0 => (ex = .ret ∧ e = SEnv.env 70 [(4, (V.t (T.sc (.bool p0))))] ∧ s = [])) (fun x' => (fun p1 => (ex = (.exit 0) ∧ e = SEnv.env 70 [(1, (V.t (T.sc (.string p1))))] ∧ s = [])) x') x
theorem l_suturelaw2_LexNames_2_run (n : Nat) : ∀ (m : Nat) (s0 : ByteArray) (s1 : ByteArray) (s2 : ByteArray) (s3 : ByteArray) (s4 : Int) (x : ((Bool) ⊕ ByteArray)), l_suturelaw2_LexNames_2 n m (s0, s1, s2, s3, s4) = some x → SemL Tryd.prog 0 code_l_suturelaw2_LexNames_2 (SEnv.env 70 [(1, (V.t (T.sc (.string s0)))), (21, (V.agg [(V.t (T.sc (.string s1))), (V.t (T.sc (.string s2))), (V.t (T.sc (.string s3)))])), (22, (V.t (T.sc (.int .i64 s4))))]) [] (l_suturelaw2_LexNames_2_Q x)
  | 0, s0, s1, s2, s3, s4, x, h => by cases h
  | m + 1, s0, s1, s2, s3, s4, x, h => by
    refine loop_step (sp_suturelaw2_LexNames_ok n) code_l_suturelaw2_LexNames_2_ok (fun a ha => absurd ha (by rw [show loopsOf code_l_suturelaw2_LexNames_2 = [] from by kernel_rfl]; simp)) (no_scope (by kernel_rfl)) ((l_suturelaw2_LexNames_2_eq n _ s0 s1 s2 s3 s4).trans h) (fun E sg h => ?_) (fun ex E sg hne h => ?_)
    · simp only [l_suturelaw2_LexNames_2_K] at h
      obtain ⟨u0, hu0, h⟩ := Option.bind_eq_some_iff.1 h
      obtain ⟨u1, hu1, h⟩ := Option.bind_eq_some_iff.1 h
      obtain ⟨u2, hu2, h⟩ := Option.bind_eq_some_iff.1 h
      obtain ⟨u3, hu3, h⟩ := Option.bind_eq_some_iff.1 h
      obtain ⟨u4, hu4, h⟩ := Option.bind_eq_some_iff.1 h
      obtain ⟨u5, hu5, h⟩ := Option.bind_eq_some_iff.1 h
      exact SemL.pre (k := 0) (by decide) (WkA.env (WkA.cons (strOf_wk hu0) rfl (WkA.cons (aggN_wk hu1 (.cons (strOf_wk hu2) (.cons (strOf_wk hu3) (.cons (strOf_wk hu4) .nil)))) rfl (WkA.cons (intOf_wk hu5) rfl WkA.nil))) 70) (WkS.none _) (l_suturelaw2_LexNames_2_run n m _ _ _ _ _ x h)
    · unfold l_suturelaw2_LexNames_2_K at h
      split at h
      · exact absurd rfl hne
      · obtain ⟨u0, hu0, h⟩ := Option.bind_eq_some_iff.1 h
        simp only [Option.some.injEq] at h
        subst h
        exact ⟨0, _, _, by decide, WkA.env (WkA.cons (boolOf_wk hu0) rfl WkA.nil) 70, (WkS.none _), rfl, rfl, rfl⟩
      · obtain ⟨u0, hu0, h⟩ := Option.bind_eq_some_iff.1 h
        simp only [Option.some.injEq] at h
        subst h
        exact ⟨0, _, _, by decide, WkA.env (WkA.cons (strOf_wk hu0) rfl WkA.nil) 70, (WkS.none _), rfl, rfl, rfl⟩
      · cases h
theorem l_suturelaw2_LexNames_2_ok (n : Nat) : LoopOk Tryd.prog (sp_suturelaw2_LexNames n) 0 70 code_l_suturelaw2_LexNames_2 := by
    intro R key E sg K r hk h
    rw [show Go.Eng.keyOf code_l_suturelaw2_LexNames_2 = some 2 from by kernel_rfl] at hk
    cases hk
    have h : l_suturelaw2_LexNames_2_S n R E sg K = some r := h
    unfold l_suturelaw2_LexNames_2_S at h
    obtain ⟨u0, hu0, h⟩ := Option.bind_eq_some_iff.1 h
    obtain ⟨u1, hu1, h⟩ := Option.bind_eq_some_iff.1 h
    obtain ⟨u2, hu2, h⟩ := Option.bind_eq_some_iff.1 h
    obtain ⟨u3, hu3, h⟩ := Option.bind_eq_some_iff.1 h
    obtain ⟨u4, hu4, h⟩ := Option.bind_eq_some_iff.1 h
    obtain ⟨u5, hu5, h⟩ := Option.bind_eq_some_iff.1 h
    obtain ⟨x, hx, h⟩ := Option.bind_eq_some_iff.1 h
    refine (SemL.pre (k := 0) (by decide) (WkA.env (WkA.cons (strOf_wk hu0) rfl (WkA.cons (aggN_wk hu1 (.cons (strOf_wk hu2) (.cons (strOf_wk hu3) (.cons (strOf_wk hu4) .nil)))) rfl (WkA.cons (intOf_wk hu5) rfl WkA.nil))) 70) (WkS.none _) (l_suturelaw2_LexNames_2_run n n _ _ _ _ _ x hx)).mono ?_
    intro ex e s hq
    rcases x with x | x <;> (obtain ⟨rfl, rfl, rfl⟩ := hq; exact ⟨_, rfl, h⟩) -- 5
def K_suturelaw2_LexNames (v : V) (s : Sig) : Option (Bool) := Option.bind (V.boolOf v) fun u0 => some u0
theorem K_suturelaw2_LexNames_wk {v : V} {s : Sig} {r : Bool} (h : K_suturelaw2_LexNames v s = some r) : Wk v (enc_suturelaw2_LexNames r) ∧ WkS 0 s (encS_suturelaw2_LexNames r) := by
  unfold K_suturelaw2_LexNames at h
  obtain ⟨u0, hu0, h⟩ := Option.bind_eq_some_iff.1 h
  simp only [Option.some.injEq] at h
  subst h
  exact ⟨(boolOf_wk hu0), (WkS.none _)⟩
theorem m_suturelaw2_LexNames_eq (n : Nat) (a0 : List T) (a1 : ByteArray) : mF Tryd.prog (sp_suturelaw2_LexNames n) 13 [(V.t (T.list a0)), (V.t (T.sc (.string a1)))] [] K_suturelaw2_LexNames = m_suturelaw2_LexNames n a0 a1 := by kernel_rfl
theorem m_suturelaw2_LexNames_ok (n : Nat) : ok_suturelaw2_LexNames (m_suturelaw2_LexNames n) := fun a0 a1 r h => mF_ok sound (sp_suturelaw2_LexNames_ok n) code_suturelaw2_LexNames_fn code_suturelaw2_LexNames_body (forall_getD (d := .skip) 1 (by kernel_rfl) (fun i hi => match i, hi with | 0, _ => l_suturelaw2_LexNames_2_ok n | i + 1, hi => absurd hi (by omega))) (no_scope (by kernel_rfl)) ((m_suturelaw2_LexNames_eq n a0 a1).trans h) (fun v s hk => ⟨(K_suturelaw2_LexNames_wk hk).1, rfl, (K_suturelaw2_LexNames_wk hk).2⟩)

end Go.Proofs.YtkolhagejiabhaaDoor.W
