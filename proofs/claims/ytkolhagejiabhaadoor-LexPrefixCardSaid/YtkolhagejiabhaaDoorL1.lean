/- What the engine's walk comes to, printed by a program of this work: for each function its model, and that it is one. No conditions. -/
import Derived.Test.YtkolhagejiabhaaDoorExt
namespace Go.Proofs.YtkolhagejiabhaaDoor.W
open Go Go.Eng
set_option linter.unusedVariables false
set_option linter.unusedSimpArgs false
set_option maxRecDepth 100000


/-! suture/suturehand.Pick -/
def m_suturehand_Pick (n : Nat) (a0 : Int) (a1 : Int) : Option (Int) :=
must true (!decide (a1 = 0)) (bif (decide (((Int.tmod a0 a1) : Int) < 0)) then (
some (IntKind.wrap .i64 ((Int.tmod a0 a1) + a1)))
else (
some (Int.tmod a0 a1)))
def enc_suturehand_Pick (r : Int) : V := (V.t (T.sc (.int .i64 r)))
def encS_suturehand_Pick (r : Int) : Sig := []
def ok_suturehand_Pick (m : Int → Int → Option (Int)) : Prop := ∀ (a0 : Int) (a1 : Int) (r : Int), m a0 a1 = some r → FuncOk Tryd.prog 14 [(V.t (T.sc (.int .i64 a0))), (V.t (T.sc (.int .i64 a1)))] [] (enc_suturehand_Pick r) (encS_suturehand_Pick r)
def c_suturehand_Pick (m : Int → Int → Option (Int)) (vs : List V) (sg : Sig) : Option CallM := bif Nat.beq vs.length 2 && Nat.beq sg.length 0 then Option.bind (V.intOf .i64 (vs.getD 0 .any)) fun u0 => Option.bind (V.intOf .i64 (vs.getD 1 .any)) fun u1 => some { α := Int, m := m u0 u1, dflt := 0, enc := fun y => ((V.t (T.sc (.int .i64 y))), []) } else none
theorem c_suturehand_Pick_ok (m : Int → Int → Option (Int)) (hm : ok_suturehand_Pick m) (vs : List V) (sg : Sig) (cm : CallM) (x : cm.α) (h : c_suturehand_Pick m vs sg = some cm) (hx : cm.m = some x) : FuncOk Tryd.prog 14 vs sg (cm.enc x).1 (cm.enc x).2 := by
  unfold c_suturehand_Pick at h
  have h0 := callee_sig h
  clear h
  obtain ⟨hl, hs, h⟩ := h0
  obtain ⟨u0, hu0, h⟩ := Option.bind_eq_some_iff.1 h
  obtain ⟨u1, hu1, h⟩ := Option.bind_eq_some_iff.1 h
  simp only [Option.some.injEq] at h
  subst h
  exact (hm u0 u1 x hx).wk (args_wk hl (.cons (intOf_wk hu0) (.cons (intOf_wk hu1) .nil))) (wkSg_of hs .nil)
noncomputable def code_suturehand_Pick : Code := Tryd.f14.body.getD .skip
noncomputable def sp_suturehand_Pick (n : Nat) : Go.Eng.Spec := ⟨fun f vs sg => (match f with
    | _ => none), fun R key E sg K => (match key with
    | _ => none)⟩
theorem sp_suturehand_Pick_ok (n : Nat) : CallsOk Tryd.prog (sp_suturehand_Pick n) := by
  intro f vs sg cm x h hx
  have h : (none : Option CallM) = some cm := h
  cases h
theorem code_suturehand_Pick_fn : Tryd.prog.funcs[14]? = some Tryd.f14 := Tryd.func14
theorem code_suturehand_Pick_body : Tryd.f14.body = some code_suturehand_Pick := by kernel_rfl
theorem code_suturehand_Pick_ok : CodeOk Tryd.prog code_suturehand_Pick := (sound 14 _ _ code_suturehand_Pick_fn code_suturehand_Pick_body).1
def K_suturehand_Pick (v : V) (s : Sig) : Option (Int) := Option.bind (V.intOf .i64 v) fun u0 => some u0
theorem K_suturehand_Pick_wk {v : V} {s : Sig} {r : Int} (h : K_suturehand_Pick v s = some r) : Wk v (enc_suturehand_Pick r) ∧ WkS 0 s (encS_suturehand_Pick r) := by
  unfold K_suturehand_Pick at h
  obtain ⟨u0, hu0, h⟩ := Option.bind_eq_some_iff.1 h
  simp only [Option.some.injEq] at h
  subst h
  exact ⟨(intOf_wk hu0), (WkS.none _)⟩
theorem m_suturehand_Pick_eq (n : Nat) (a0 : Int) (a1 : Int) : mF Tryd.prog (sp_suturehand_Pick n) 14 [(V.t (T.sc (.int .i64 a0))), (V.t (T.sc (.int .i64 a1)))] [] K_suturehand_Pick = m_suturehand_Pick n a0 a1 := by kernel_rfl
theorem m_suturehand_Pick_ok (n : Nat) : ok_suturehand_Pick (m_suturehand_Pick n) := fun a0 a1 r h => mF_ok sound (sp_suturehand_Pick_ok n) code_suturehand_Pick_fn code_suturehand_Pick_body (fun a ha => absurd ha (by rw [show loopsOf code_suturehand_Pick = [] from by kernel_rfl]; simp)) (no_scope (by kernel_rfl)) ((m_suturehand_Pick_eq n a0 a1).trans h) (fun v s hk => ⟨(K_suturehand_Pick_wk hk).1, rfl, (K_suturehand_Pick_wk hk).2⟩)


/-! suture/suturehand.Few -/
def m_suturehand_Few (n : Nat) (a0 : ByteArray) (a1 : Int) : Option (ByteArray) :=
bif (decide ((((ByteArray.size a0 : Nat) : Int) : Int) > a1)) then (
must true (decide (0 ≤ 0) && decide (0 ≤ a1) && decide (a1 ≤ ((ByteArray.size a0 : Nat) : Int))) (some (ByteArray.extract a0 (Int.toNat 0) (Int.toNat a1))))
else (
some a0)
def enc_suturehand_Few (r : ByteArray) : V := (V.t (T.sc (.string r)))
def encS_suturehand_Few (r : ByteArray) : Sig := []
def ok_suturehand_Few (m : ByteArray → Int → Option (ByteArray)) : Prop := ∀ (a0 : ByteArray) (a1 : Int) (r : ByteArray), m a0 a1 = some r → FuncOk Tryd.prog 21 [(V.t (T.sc (.string a0))), (V.t (T.sc (.int .i64 a1)))] [] (enc_suturehand_Few r) (encS_suturehand_Few r)
def c_suturehand_Few (m : ByteArray → Int → Option (ByteArray)) (vs : List V) (sg : Sig) : Option CallM := bif Nat.beq vs.length 2 && Nat.beq sg.length 0 then Option.bind (V.strOf (vs.getD 0 .any)) fun u0 => Option.bind (V.intOf .i64 (vs.getD 1 .any)) fun u1 => some { α := ByteArray, m := m u0 u1, dflt := default, enc := fun y => ((V.t (T.sc (.string y))), []) } else none
theorem c_suturehand_Few_ok (m : ByteArray → Int → Option (ByteArray)) (hm : ok_suturehand_Few m) (vs : List V) (sg : Sig) (cm : CallM) (x : cm.α) (h : c_suturehand_Few m vs sg = some cm) (hx : cm.m = some x) : FuncOk Tryd.prog 21 vs sg (cm.enc x).1 (cm.enc x).2 := by
  unfold c_suturehand_Few at h
  have h0 := callee_sig h
  clear h
  obtain ⟨hl, hs, h⟩ := h0
  obtain ⟨u0, hu0, h⟩ := Option.bind_eq_some_iff.1 h
  obtain ⟨u1, hu1, h⟩ := Option.bind_eq_some_iff.1 h
  simp only [Option.some.injEq] at h
  subst h
  exact (hm u0 u1 x hx).wk (args_wk hl (.cons (strOf_wk hu0) (.cons (intOf_wk hu1) .nil))) (wkSg_of hs .nil)
noncomputable def code_suturehand_Few : Code := Tryd.f21.body.getD .skip
noncomputable def sp_suturehand_Few (n : Nat) : Go.Eng.Spec := ⟨fun f vs sg => (match f with
    | _ => none), fun R key E sg K => (match key with
    | _ => none)⟩
theorem sp_suturehand_Few_ok (n : Nat) : CallsOk Tryd.prog (sp_suturehand_Few n) := by
  intro f vs sg cm x h hx
  have h : (none : Option CallM) = some cm := h
  cases h
theorem code_suturehand_Few_fn : Tryd.prog.funcs[21]? = some Tryd.f21 := Tryd.func21
theorem code_suturehand_Few_body : Tryd.f21.body = some code_suturehand_Few := by kernel_rfl
theorem code_suturehand_Few_ok : CodeOk Tryd.prog code_suturehand_Few := (sound 21 _ _ code_suturehand_Few_fn code_suturehand_Few_body).1
def K_suturehand_Few (v : V) (s : Sig) : Option (ByteArray) := Option.bind (V.strOf v) fun u0 => some u0
theorem K_suturehand_Few_wk {v : V} {s : Sig} {r : ByteArray} (h : K_suturehand_Few v s = some r) : Wk v (enc_suturehand_Few r) ∧ WkS 0 s (encS_suturehand_Few r) := by
  unfold K_suturehand_Few at h
  obtain ⟨u0, hu0, h⟩ := Option.bind_eq_some_iff.1 h
  simp only [Option.some.injEq] at h
  subst h
  exact ⟨(strOf_wk hu0), (WkS.none _)⟩
theorem m_suturehand_Few_eq (n : Nat) (a0 : ByteArray) (a1 : Int) : mF Tryd.prog (sp_suturehand_Few n) 21 [(V.t (T.sc (.string a0))), (V.t (T.sc (.int .i64 a1)))] [] K_suturehand_Few = m_suturehand_Few n a0 a1 := by kernel_rfl
theorem m_suturehand_Few_ok (n : Nat) : ok_suturehand_Few (m_suturehand_Few n) := fun a0 a1 r h => mF_ok sound (sp_suturehand_Few_ok n) code_suturehand_Few_fn code_suturehand_Few_body (fun a ha => absurd ha (by rw [show loopsOf code_suturehand_Few = [] from by kernel_rfl]; simp)) (no_scope (by kernel_rfl)) ((m_suturehand_Few_eq n a0 a1).trans h) (fun v s hk => ⟨(K_suturehand_Few_wk hk).1, rfl, (K_suturehand_Few_wk hk).2⟩)


/-! suture/suturelaw2.text -/
def l_suturelaw2_text_4_B (n : Nat) (k : ByteArray × ByteArray × (List T) × Int × Int × ByteArray × ByteArray × ByteArray × ByteArray × ByteArray × ByteArray × ByteArray × ByteArray × ByteArray × ByteArray × ByteArray × ByteArray × ByteArray × ByteArray × ByteArray × ByteArray × ByteArray × ByteArray × ByteArray × ByteArray × ByteArray × ByteArray × ByteArray × ByteArray × ByteArray × ByteArray × ByteArray × ByteArray × ByteArray × ByteArray → Option (ByteArray × ByteArray × ByteArray × ByteArray × ByteArray × ByteArray × ByteArray × ByteArray × ByteArray × ByteArray × ByteArray × ByteArray × ByteArray × ByteArray × ByteArray × ByteArray × ByteArray × ByteArray × ByteArray × ByteArray × ByteArray × ByteArray × ByteArray × ByteArray × ByteArray × ByteArray × ByteArray × ByteArray × ByteArray × ByteArray × ByteArray)) : ByteArray × ByteArray × (List T) × Int × Int × ByteArray × ByteArray × ByteArray × ByteArray × ByteArray × ByteArray × ByteArray × ByteArray × ByteArray × ByteArray × ByteArray × ByteArray × ByteArray × ByteArray × ByteArray × ByteArray × ByteArray × ByteArray × ByteArray × ByteArray × ByteArray × ByteArray × ByteArray × ByteArray × ByteArray × ByteArray × ByteArray × ByteArray × ByteArray × ByteArray → Option (ByteArray × ByteArray × ByteArray × ByteArray × ByteArray × ByteArray × ByteArray × ByteArray × ByteArray × ByteArray × ByteArray × ByteArray × ByteArray × ByteArray × ByteArray × ByteArray × ByteArray × ByteArray × ByteArray × ByteArray × ByteArray × ByteArray × ByteArray × ByteArray × ByteArray × ByteArray × ByteArray × ByteArray × ByteArray × ByteArray × ByteArray) := fun (s0, s1, s2, s3, s4, s5, s6, s7, s8, s9, s10, s11, s12, s13, s14, s15, s16, s17, s18, s19, s20, s21, s22, s23, s24, s25, s26, s27, s28, s29, s30, s31, s32, s33, s34) =>
bif (decide ((s4 : Int) < s3)) then (
Option.bind (idx true [.int .i64] s2 s4) fun y0 =>
Option.bind (m_suturehand_Pick n (y0.cell 0).int 33) fun r1 =>
bif (decide ((r1 : Int) < 30)) then (
must true (decide (0 ≤ r1) && decide (r1 < ((30 : Nat) : Int))) (Option.bind (idx1 true (.str) [(T.sc (.string s5)), (T.sc (.string s6)), (T.sc (.string s7)), (T.sc (.string s8)), (T.sc (.string s9)), (T.sc (.string s10)), (T.sc (.string s11)), (T.sc (.string s12)), (T.sc (.string s13)), (T.sc (.string s14)), (T.sc (.string s15)), (T.sc (.string s16)), (T.sc (.string s17)), (T.sc (.string s18)), (T.sc (.string s19)), (T.sc (.string s20)), (T.sc (.string s21)), (T.sc (.string s22)), (T.sc (.string s23)), (T.sc (.string s24)), (T.sc (.string s25)), (T.sc (.string s26)), (T.sc (.string s27)), (T.sc (.string s28)), (T.sc (.string s29)), (T.sc (.string s30)), (T.sc (.string s31)), (T.sc (.string s32)), (T.sc (.string s33)), (T.sc (.string s34))] r1) fun y2 =>
must true (decide (((ByteArray.size s1 + ByteArray.size y2.str : Nat) : Int) ≤ IntKind.i64.max)) (k (s0, (s1 ++ y2.str), s2, s3, (IntKind.wrap .i64 (s4 + 1)), s5, s6, s7, s8, s9, s10, s11, s12, s13, s14, s15, s16, s17, s18, s19, s20, s21, s22, s23, s24, s25, s26, s27, s28, s29, s30, s31, s32, s33, s34))))
else (
must true (!decide (33 = 0)) (Option.bind (m_suturehand_Pick n (IntKind.wrap .i64 (Int.tdiv (y0.cell 0).int 33)) 3) fun r3 =>
Option.bind (m_suturehand_Few n s0 (IntKind.wrap .i64 (1 + r3))) fun r4 =>
must true (decide (((ByteArray.size s1 + ByteArray.size r4 : Nat) : Int) ≤ IntKind.i64.max)) (k (s0, (s1 ++ r4), s2, s3, (IntKind.wrap .i64 (s4 + 1)), s5, s6, s7, s8, s9, s10, s11, s12, s13, s14, s15, s16, s17, s18, s19, s20, s21, s22, s23, s24, s25, s26, s27, s28, s29, s30, s31, s32, s33, s34)))))
else (
some (s1, s5, s6, s7, s8, s9, s10, s11, s12, s13, s14, s15, s16, s17, s18, s19, s20, s21, s22, s23, s24, s25, s26, s27, s28, s29, s30, s31, s32, s33, s34))
def l_suturelaw2_text_4 (n : Nat) : Nat → ByteArray × ByteArray × (List T) × Int × Int × ByteArray × ByteArray × ByteArray × ByteArray × ByteArray × ByteArray × ByteArray × ByteArray × ByteArray × ByteArray × ByteArray × ByteArray × ByteArray × ByteArray × ByteArray × ByteArray × ByteArray × ByteArray × ByteArray × ByteArray × ByteArray × ByteArray × ByteArray × ByteArray × ByteArray × ByteArray × ByteArray × ByteArray × ByteArray × ByteArray → Option (ByteArray × ByteArray × ByteArray × ByteArray × ByteArray × ByteArray × ByteArray × ByteArray × ByteArray × ByteArray × ByteArray × ByteArray × ByteArray × ByteArray × ByteArray × ByteArray × ByteArray × ByteArray × ByteArray × ByteArray × ByteArray × ByteArray × ByteArray × ByteArray × ByteArray × ByteArray × ByteArray × ByteArray × ByteArray × ByteArray × ByteArray)
  | 0, _ => none
  | m + 1, s => l_suturelaw2_text_4_B n (l_suturelaw2_text_4 n m) s
def m_suturelaw2_text (n : Nat) (a0 : List T) (a1 : ByteArray) : Option (ByteArray) :=
Option.bind (l_suturelaw2_text_4 n n (a1, (⟨#[]⟩ : ByteArray), a0, ((List.length a0 : Nat) : Int), 0, (⟨#[120]⟩ : ByteArray), (⟨#[121]⟩ : ByteArray), (⟨#[103, 111]⟩ : ByteArray), (⟨#[32]⟩ : ByteArray), (⟨#[10]⟩ : ByteArray), (⟨#[123]⟩ : ByteArray), (⟨#[125]⟩ : ByteArray), (⟨#[61]⟩ : ByteArray), (⟨#[61, 61]⟩ : ByteArray), (⟨#[40]⟩ : ByteArray), (⟨#[41]⟩ : ByteArray), (⟨#[43]⟩ : ByteArray), (⟨#[45]⟩ : ByteArray), (⟨#[42]⟩ : ByteArray), (⟨#[47]⟩ : ByteArray), (⟨#[37]⟩ : ByteArray), (⟨#[60]⟩ : ByteArray), (⟨#[55]⟩ : ByteArray), (⟨#[48]⟩ : ByteArray), (⟨#[49, 50]⟩ : ByteArray), (⟨#[114, 101, 112, 101, 97, 116]⟩ : ByteArray), (⟨#[35, 32, 110, 111, 116, 101, 32, 61, 32, 123, 10]⟩ : ByteArray), (⟨#[9]⟩ : ByteArray), (⟨#[103, 111, 116, 111]⟩ : ByteArray), (⟨#[108, 97, 98, 101, 108]⟩ : ByteArray), (⟨#[122, 57]⟩ : ByteArray), (⟨#[108, 111, 99, 107]⟩ : ByteArray), (⟨#[57]⟩ : ByteArray), (⟨#[97]⟩ : ByteArray), (⟨#[112, 114, 105, 110, 116]⟩ : ByteArray))) fun p6 =>
some p6.1
def enc_suturelaw2_text (r : ByteArray) : V := (V.t (T.sc (.string r)))
def encS_suturelaw2_text (r : ByteArray) : Sig := []
def ok_suturelaw2_text (m : List T → ByteArray → Option (ByteArray)) : Prop := ∀ (a0 : List T) (a1 : ByteArray) (r : ByteArray), m a0 a1 = some r → FuncOk Tryd.prog 23 [(V.t (T.list a0)), (V.t (T.sc (.string a1)))] [] (enc_suturelaw2_text r) (encS_suturelaw2_text r)
def c_suturelaw2_text (m : List T → ByteArray → Option (ByteArray)) (vs : List V) (sg : Sig) : Option CallM := bif Nat.beq vs.length 2 && Nat.beq sg.length 0 then Option.bind (V.lstOf (vs.getD 0 .any)) fun u0 => Option.bind (V.strOf (vs.getD 1 .any)) fun u1 => some { α := ByteArray, m := m u0 u1, dflt := default, enc := fun y => ((V.t (T.sc (.string y))), []) } else none
theorem c_suturelaw2_text_ok (m : List T → ByteArray → Option (ByteArray)) (hm : ok_suturelaw2_text m) (vs : List V) (sg : Sig) (cm : CallM) (x : cm.α) (h : c_suturelaw2_text m vs sg = some cm) (hx : cm.m = some x) : FuncOk Tryd.prog 23 vs sg (cm.enc x).1 (cm.enc x).2 := by
  unfold c_suturelaw2_text at h
  have h0 := callee_sig h
  clear h
  obtain ⟨hl, hs, h⟩ := h0
  obtain ⟨u0, hu0, h⟩ := Option.bind_eq_some_iff.1 h
  obtain ⟨u1, hu1, h⟩ := Option.bind_eq_some_iff.1 h
  simp only [Option.some.injEq] at h
  subst h
  exact (hm u0 u1 x hx).wk (args_wk hl (.cons (lstOf_wk hu0) (.cons (strOf_wk hu1) .nil))) (wkSg_of hs .nil)
noncomputable def code_suturelaw2_text : Code := Tryd.f23.body.getD .skip
def l_suturelaw2_text_4_S (n : Nat) (R : Type) (E : SEnv) (sg : Sig) (K : Ex → SEnv → Sig → Option R) : Option R := Option.bind (V.strOf (SEnv.at E 1)) fun u0 => Option.bind (V.ptrOf 0 0 (SEnv.at E 5)) fun u1 => Option.bind (V.strOf (SEnv.at E 6)) fun u2 => Option.bind (V.lstOf (SEnv.at E 11)) fun u3 => Option.bind (V.intOf .i64 (SEnv.at E 12)) fun u4 => Option.bind (V.intOf .i64 (SEnv.at E 13)) fun u5 => Option.bind (cellsN 30 sg 0) fun u6 => Option.bind (V.strOf (u6.getD 0 .any)) fun u7 => Option.bind (V.strOf (u6.getD 1 .any)) fun u8 => Option.bind (V.strOf (u6.getD 2 .any)) fun u9 => Option.bind (V.strOf (u6.getD 3 .any)) fun u10 => Option.bind (V.strOf (u6.getD 4 .any)) fun u11 => Option.bind (V.strOf (u6.getD 5 .any)) fun u12 => Option.bind (V.strOf (u6.getD 6 .any)) fun u13 => Option.bind (V.strOf (u6.getD 7 .any)) fun u14 => Option.bind (V.strOf (u6.getD 8 .any)) fun u15 => Option.bind (V.strOf (u6.getD 9 .any)) fun u16 => Option.bind (V.strOf (u6.getD 10 .any)) fun u17 => Option.bind (V.strOf (u6.getD 11 .any)) fun u18 => Option.bind (V.strOf (u6.getD 12 .any)) fun u19 => Option.bind (V.strOf (u6.getD 13 .any)) fun u20 => Option.bind (V.strOf (u6.getD 14 .any)) fun u21 => Option.bind (V.strOf (u6.getD 15 .any)) fun u22 => Option.bind (V.strOf (u6.getD 16 .any)) fun u23 => Option.bind (V.strOf (u6.getD 17 .any)) fun u24 => Option.bind (V.strOf (u6.getD 18 .any)) fun u25 => Option.bind (V.strOf (u6.getD 19 .any)) fun u26 => Option.bind (V.strOf (u6.getD 20 .any)) fun u27 => Option.bind (V.strOf (u6.getD 21 .any)) fun u28 => Option.bind (V.strOf (u6.getD 22 .any)) fun u29 => Option.bind (V.strOf (u6.getD 23 .any)) fun u30 => Option.bind (V.strOf (u6.getD 24 .any)) fun u31 => Option.bind (V.strOf (u6.getD 25 .any)) fun u32 => Option.bind (V.strOf (u6.getD 26 .any)) fun u33 => Option.bind (V.strOf (u6.getD 27 .any)) fun u34 => Option.bind (V.strOf (u6.getD 28 .any)) fun u35 => Option.bind (V.strOf (u6.getD 29 .any)) fun u36 => Option.bind (l_suturelaw2_text_4 n n (u0, u2, u3, u4, u5, u7, u8, u9, u10, u11, u12, u13, u14, u15, u16, u17, u18, u19, u20, u21, u22, u23, u24, u25, u26, u27, u28, u29, u30, u31, u32, u33, u34, u35, u36)) fun p0 => K (.exit 0) [(6, (V.t (T.sc (.string p0.1))))] [some [(V.t (T.sc (.string p0.2.1))), (V.t (T.sc (.string p0.2.2.1))), (V.t (T.sc (.string p0.2.2.2.1))), (V.t (T.sc (.string p0.2.2.2.2.1))), (V.t (T.sc (.string p0.2.2.2.2.2.1))), (V.t (T.sc (.string p0.2.2.2.2.2.2.1))), (V.t (T.sc (.string p0.2.2.2.2.2.2.2.1))), (V.t (T.sc (.string p0.2.2.2.2.2.2.2.2.1))), (V.t (T.sc (.string p0.2.2.2.2.2.2.2.2.2.1))), (V.t (T.sc (.string p0.2.2.2.2.2.2.2.2.2.2.1))), (V.t (T.sc (.string p0.2.2.2.2.2.2.2.2.2.2.2.1))), (V.t (T.sc (.string p0.2.2.2.2.2.2.2.2.2.2.2.2.1))), (V.t (T.sc (.string p0.2.2.2.2.2.2.2.2.2.2.2.2.2.1))), (V.t (T.sc (.string p0.2.2.2.2.2.2.2.2.2.2.2.2.2.2.1))), (V.t (T.sc (.string p0.2.2.2.2.2.2.2.2.2.2.2.2.2.2.2.1))), (V.t (T.sc (.string p0.2.2.2.2.2.2.2.2.2.2.2.2.2.2.2.2.1))), (V.t (T.sc (.string p0.2.2.2.2.2.2.2.2.2.2.2.2.2.2.2.2.2.1))), (V.t (T.sc (.string p0.2.2.2.2.2.2.2.2.2.2.2.2.2.2.2.2.2.2.1))), (V.t (T.sc (.string p0.2.2.2.2.2.2.2.2.2.2.2.2.2.2.2.2.2.2.2.1))), (V.t (T.sc (.string p0.2.2.2.2.2.2.2.2.2.2.2.2.2.2.2.2.2.2.2.2.1))), (V.t (T.sc (.string p0.2.2.2.2.2.2.2.2.2.2.2.2.2.2.2.2.2.2.2.2.2.1))), (V.t (T.sc (.string p0.2.2.2.2.2.2.2.2.2.2.2.2.2.2.2.2.2.2.2.2.2.2.1))), (V.t (T.sc (.string p0.2.2.2.2.2.2.2.2.2.2.2.2.2.2.2.2.2.2.2.2.2.2.2.1))), (V.t (T.sc (.string p0.2.2.2.2.2.2.2.2.2.2.2.2.2.2.2.2.2.2.2.2.2.2.2.2.1))), (V.t (T.sc (.string p0.2.2.2.2.2.2.2.2.2.2.2.2.2.2.2.2.2.2.2.2.2.2.2.2.2.1))), (V.t (T.sc (.string p0.2.2.2.2.2.2.2.2.2.2.2.2.2.2.2.2.2.2.2.2.2.2.2.2.2.2.1))), (V.t (T.sc (.string p0.2.2.2.2.2.2.2.2.2.2.2.2.2.2.2.2.2.2.2.2.2.2.2.2.2.2.2.1))), (V.t (T.sc (.string p0.2.2.2.2.2.2.2.2.2.2.2.2.2.2.2.2.2.2.2.2.2.2.2.2.2.2.2.2.1))), (V.t (T.sc (.string p0.2.2.2.2.2.2.2.2.2.2.2.2.2.2.2.2.2.2.2.2.2.2.2.2.2.2.2.2.2.1))), (V.t (T.sc (.string p0.2.2.2.2.2.2.2.2.2.2.2.2.2.2.2.2.2.2.2.2.2.2.2.2.2.2.2.2.2.2)))]]
noncomputable def sp_suturelaw2_text (n : Nat) : Go.Eng.Spec := ⟨fun f vs sg => (match f with
    | 14 => c_suturehand_Pick (m_suturehand_Pick n) vs sg
    | 21 => c_suturehand_Few (m_suturehand_Few n) vs sg
    | _ => none), fun R key E sg K => (match key with
    | 4 => l_suturelaw2_text_4_S n R E sg K
    | _ => none)⟩
theorem sp_suturelaw2_text_ok (n : Nat) : CallsOk Tryd.prog (sp_suturelaw2_text n) := by
  intro f vs sg cm x h hx
  simp only [sp_suturelaw2_text] at h
  split at h
  · exact c_suturehand_Pick_ok _ (m_suturehand_Pick_ok n) vs sg cm x h hx
  · exact c_suturehand_Few_ok _ (m_suturehand_Few_ok n) vs sg cm x h hx
  · cases h
theorem code_suturelaw2_text_fn : Tryd.prog.funcs[23]? = some Tryd.f23 := Tryd.func23
theorem code_suturelaw2_text_body : Tryd.f23.body = some code_suturelaw2_text := by kernel_rfl
theorem code_suturelaw2_text_ok : CodeOk Tryd.prog code_suturelaw2_text := (sound 23 _ _ code_suturelaw2_text_fn code_suturelaw2_text_body).1
noncomputable def code_l_suturelaw2_text_4 : Code := (loopsOf code_suturelaw2_text).getD 0 .skip
theorem code_l_suturelaw2_text_4_ok : CodeOk Tryd.prog code_l_suturelaw2_text_4 := codeOk_loops code_suturelaw2_text_ok _ (getD_mem (by kernel_rfl))
def l_suturelaw2_text_4_K (k : ByteArray × ByteArray × (List T) × Int × Int × ByteArray × ByteArray × ByteArray × ByteArray × ByteArray × ByteArray × ByteArray × ByteArray × ByteArray × ByteArray × ByteArray × ByteArray × ByteArray × ByteArray × ByteArray × ByteArray × ByteArray × ByteArray × ByteArray × ByteArray × ByteArray × ByteArray × ByteArray × ByteArray × ByteArray × ByteArray × ByteArray × ByteArray × ByteArray × ByteArray → Option (ByteArray × ByteArray × ByteArray × ByteArray × ByteArray × ByteArray × ByteArray × ByteArray × ByteArray × ByteArray × ByteArray × ByteArray × ByteArray × ByteArray × ByteArray × ByteArray × ByteArray × ByteArray × ByteArray × ByteArray × ByteArray × ByteArray × ByteArray × ByteArray × ByteArray × ByteArray × ByteArray × ByteArray × ByteArray × ByteArray × ByteArray)) : Ex → SEnv → Sig → Option (ByteArray × ByteArray × ByteArray × ByteArray × ByteArray × ByteArray × ByteArray × ByteArray × ByteArray × ByteArray × ByteArray × ByteArray × ByteArray × ByteArray × ByteArray × ByteArray × ByteArray × ByteArray × ByteArray × ByteArray × ByteArray × ByteArray × ByteArray × ByteArray × ByteArray × ByteArray × ByteArray × ByteArray × ByteArray × ByteArray × ByteArray) := fun x E sg => match x with
  | .normal => Option.bind (V.strOf (SEnv.at E 1)) fun u0 => Option.bind (V.ptrOf 0 0 (SEnv.at E 5)) fun u1 => Option.bind (V.strOf (SEnv.at E 6)) fun u2 => Option.bind (V.lstOf (SEnv.at E 11)) fun u3 => Option.bind (V.intOf .i64 (SEnv.at E 12)) fun u4 => Option.bind (V.intOf .i64 (SEnv.at E 13)) fun u5 => Option.bind (cellsN 30 sg 0) fun u6 => Option.bind (V.strOf (u6.getD 0 .any)) fun u7 => Option.bind (V.strOf (u6.getD 1 .any)) fun u8 => Option.bind (V.strOf (u6.getD 2 .any)) fun u9 => Option.bind (V.strOf (u6.getD 3 .any)) fun u10 => Option.bind (V.strOf (u6.getD 4 .any)) fun u11 => Option.bind (V.strOf (u6.getD 5 .any)) fun u12 => Option.bind (V.strOf (u6.getD 6 .any)) fun u13 => Option.bind (V.strOf (u6.getD 7 .any)) fun u14 => Option.bind (V.strOf (u6.getD 8 .any)) fun u15 => Option.bind (V.strOf (u6.getD 9 .any)) fun u16 => Option.bind (V.strOf (u6.getD 10 .any)) fun u17 => Option.bind (V.strOf (u6.getD 11 .any)) fun u18 => Option.bind (V.strOf (u6.getD 12 .any)) fun u19 => Option.bind (V.strOf (u6.getD 13 .any)) fun u20 => Option.bind (V.strOf (u6.getD 14 .any)) fun u21 => Option.bind (V.strOf (u6.getD 15 .any)) fun u22 => Option.bind (V.strOf (u6.getD 16 .any)) fun u23 => Option.bind (V.strOf (u6.getD 17 .any)) fun u24 => Option.bind (V.strOf (u6.getD 18 .any)) fun u25 => Option.bind (V.strOf (u6.getD 19 .any)) fun u26 => Option.bind (V.strOf (u6.getD 20 .any)) fun u27 => Option.bind (V.strOf (u6.getD 21 .any)) fun u28 => Option.bind (V.strOf (u6.getD 22 .any)) fun u29 => Option.bind (V.strOf (u6.getD 23 .any)) fun u30 => Option.bind (V.strOf (u6.getD 24 .any)) fun u31 => Option.bind (V.strOf (u6.getD 25 .any)) fun u32 => Option.bind (V.strOf (u6.getD 26 .any)) fun u33 => Option.bind (V.strOf (u6.getD 27 .any)) fun u34 => Option.bind (V.strOf (u6.getD 28 .any)) fun u35 => Option.bind (V.strOf (u6.getD 29 .any)) fun u36 => k (u0, u2, u3, u4, u5, u7, u8, u9, u10, u11, u12, u13, u14, u15, u16, u17, u18, u19, u20, u21, u22, u23, u24, u25, u26, u27, u28, u29, u30, u31, u32, u33, u34, u35, u36)
  | (.exit 0) => Option.bind (V.strOf (SEnv.at E 6)) fun u0 => Option.bind (cellsN 30 sg 0) fun u1 => Option.bind (V.strOf (u1.getD 0 .any)) fun u2 => Option.bind (V.strOf (u1.getD 1 .any)) fun u3 => Option.bind (V.strOf (u1.getD 2 .any)) fun u4 => Option.bind (V.strOf (u1.getD 3 .any)) fun u5 => Option.bind (V.strOf (u1.getD 4 .any)) fun u6 => Option.bind (V.strOf (u1.getD 5 .any)) fun u7 => Option.bind (V.strOf (u1.getD 6 .any)) fun u8 => Option.bind (V.strOf (u1.getD 7 .any)) fun u9 => Option.bind (V.strOf (u1.getD 8 .any)) fun u10 => Option.bind (V.strOf (u1.getD 9 .any)) fun u11 => Option.bind (V.strOf (u1.getD 10 .any)) fun u12 => Option.bind (V.strOf (u1.getD 11 .any)) fun u13 => Option.bind (V.strOf (u1.getD 12 .any)) fun u14 => Option.bind (V.strOf (u1.getD 13 .any)) fun u15 => Option.bind (V.strOf (u1.getD 14 .any)) fun u16 => Option.bind (V.strOf (u1.getD 15 .any)) fun u17 => Option.bind (V.strOf (u1.getD 16 .any)) fun u18 => Option.bind (V.strOf (u1.getD 17 .any)) fun u19 => Option.bind (V.strOf (u1.getD 18 .any)) fun u20 => Option.bind (V.strOf (u1.getD 19 .any)) fun u21 => Option.bind (V.strOf (u1.getD 20 .any)) fun u22 => Option.bind (V.strOf (u1.getD 21 .any)) fun u23 => Option.bind (V.strOf (u1.getD 22 .any)) fun u24 => Option.bind (V.strOf (u1.getD 23 .any)) fun u25 => Option.bind (V.strOf (u1.getD 24 .any)) fun u26 => Option.bind (V.strOf (u1.getD 25 .any)) fun u27 => Option.bind (V.strOf (u1.getD 26 .any)) fun u28 => Option.bind (V.strOf (u1.getD 27 .any)) fun u29 => Option.bind (V.strOf (u1.getD 28 .any)) fun u30 => Option.bind (V.strOf (u1.getD 29 .any)) fun u31 => some (u0, u2, u3, u4, u5, u6, u7, u8, u9, u10, u11, u12, u13, u14, u15, u16, u17, u18, u19, u20, u21, u22, u23, u24, u25, u26, u27, u28, u29, u30, u31)
  | _ => none
theorem l_suturelaw2_text_4_eq (n : Nat) (k : ByteArray × ByteArray × (List T) × Int × Int × ByteArray × ByteArray × ByteArray × ByteArray × ByteArray × ByteArray × ByteArray × ByteArray × ByteArray × ByteArray × ByteArray × ByteArray × ByteArray × ByteArray × ByteArray × ByteArray × ByteArray × ByteArray × ByteArray × ByteArray × ByteArray × ByteArray × ByteArray × ByteArray × ByteArray × ByteArray × ByteArray × ByteArray × ByteArray × ByteArray → Option (ByteArray × ByteArray × ByteArray × ByteArray × ByteArray × ByteArray × ByteArray × ByteArray × ByteArray × ByteArray × ByteArray × ByteArray × ByteArray × ByteArray × ByteArray × ByteArray × ByteArray × ByteArray × ByteArray × ByteArray × ByteArray × ByteArray × ByteArray × ByteArray × ByteArray × ByteArray × ByteArray × ByteArray × ByteArray × ByteArray × ByteArray)) (s0 : ByteArray) (s1 : ByteArray) (s2 : List T) (s3 : Int) (s4 : Int) (s5 : ByteArray) (s6 : ByteArray) (s7 : ByteArray) (s8 : ByteArray) (s9 : ByteArray) (s10 : ByteArray) (s11 : ByteArray) (s12 : ByteArray) (s13 : ByteArray) (s14 : ByteArray) (s15 : ByteArray) (s16 : ByteArray) (s17 : ByteArray) (s18 : ByteArray) (s19 : ByteArray) (s20 : ByteArray) (s21 : ByteArray) (s22 : ByteArray) (s23 : ByteArray) (s24 : ByteArray) (s25 : ByteArray) (s26 : ByteArray) (s27 : ByteArray) (s28 : ByteArray) (s29 : ByteArray) (s30 : ByteArray) (s31 : ByteArray) (s32 : ByteArray) (s33 : ByteArray) (s34 : ByteArray) : mX Tryd.prog (sp_suturelaw2_text n) 36 code_l_suturelaw2_text_4 [(1, (V.t (T.sc (.string s0)))), (5, (V.ptr 0 0)), (6, (V.t (T.sc (.string s1)))), (11, (V.t (T.list s2))), (12, (V.t (T.sc (.int .i64 s3)))), (13, (V.t (T.sc (.int .i64 s4))))] [some [(V.t (T.sc (.string s5))), (V.t (T.sc (.string s6))), (V.t (T.sc (.string s7))), (V.t (T.sc (.string s8))), (V.t (T.sc (.string s9))), (V.t (T.sc (.string s10))), (V.t (T.sc (.string s11))), (V.t (T.sc (.string s12))), (V.t (T.sc (.string s13))), (V.t (T.sc (.string s14))), (V.t (T.sc (.string s15))), (V.t (T.sc (.string s16))), (V.t (T.sc (.string s17))), (V.t (T.sc (.string s18))), (V.t (T.sc (.string s19))), (V.t (T.sc (.string s20))), (V.t (T.sc (.string s21))), (V.t (T.sc (.string s22))), (V.t (T.sc (.string s23))), (V.t (T.sc (.string s24))), (V.t (T.sc (.string s25))), (V.t (T.sc (.string s26))), (V.t (T.sc (.string s27))), (V.t (T.sc (.string s28))), (V.t (T.sc (.string s29))), (V.t (T.sc (.string s30))), (V.t (T.sc (.string s31))), (V.t (T.sc (.string s32))), (V.t (T.sc (.string s33))), (V.t (T.sc (.string s34)))]] (l_suturelaw2_text_4_K k) = l_suturelaw2_text_4_B n k (s0, s1, s2, s3, s4, s5, s6, s7, s8, s9, s10, s11, s12, s13, s14, s15, s16, s17, s18, s19, s20, s21, s22, s23, s24, s25, s26, s27, s28, s29, s30, s31, s32, s33, s34) := by kernel_rfl
def l_suturelaw2_text_4_Q (x : ByteArray × ByteArray × ByteArray × ByteArray × ByteArray × ByteArray × ByteArray × ByteArray × ByteArray × ByteArray × ByteArray × ByteArray × ByteArray × ByteArray × ByteArray × ByteArray × ByteArray × ByteArray × ByteArray × ByteArray × ByteArray × ByteArray × ByteArray × ByteArray × ByteArray × ByteArray × ByteArray × ByteArray × ByteArray × ByteArray × ByteArray) (ex : Ex) (e : Env) (s : Sig) : Prop := (fun p0 => (ex = (.exit 0) ∧ e = SEnv.env 36 [(6, (V.t (T.sc (.string p0.1))))] ∧ s = [some [(V.t (T.sc (.string p0.2.1))), (V.t (T.sc (.string p0.2.2.1))), (V.t (T.sc (.string p0.2.2.2.1))), (V.t (T.sc (.string p0.2.2.2.2.1))), (V.t (T.sc (.string p0.2.2.2.2.2.1))), (V.t (T.sc (.string p0.2.2.2.2.2.2.1))), (V.t (T.sc (.string p0.2.2.2.2.2.2.2.1))), (V.t (T.sc (.string p0.2.2.2.2.2.2.2.2.1))), (V.t (T.sc (.string p0.2.2.2.2.2.2.2.2.2.1))), (V.t (T.sc (.string p0.2.2.2.2.2.2.2.2.2.2.1))), (V.t (T.sc (.string p0.2.2.2.2.2.2.2.2.2.2.2.1))), (V.t (T.sc (.string p0.2.2.2.2.2.2.2.2.2.2.2.2.1))), (V.t (T.sc (.string p0.2.2.2.2.2.2.2.2.2.2.2.2.2.1))), (V.t (T.sc (.string p0.2.2.2.2.2.2.2.2.2.2.2.2.2.2.1))), (V.t (T.sc (.string p0.2.2.2.2.2.2.2.2.2.2.2.2.2.2.2.1))), (V.t (T.sc (.string p0.2.2.2.2.2.2.2.2.2.2.2.2.2.2.2.2.1))), (V.t (T.sc (.string p0.2.2.2.2.2.2.2.2.2.2.2.2.2.2.2.2.2.1))), (V.t (T.sc (.string p0.2.2.2.2.2.2.2.2.2.2.2.2.2.2.2.2.2.2.1))), (V.t (T.sc (.string p0.2.2.2.2.2.2.2.2.2.2.2.2.2.2.2.2.2.2.2.1))), (V.t (T.sc (.string p0.2.2.2.2.2.2.2.2.2.2.2.2.2.2.2.2.2.2.2.2.1))), (V.t (T.sc (.string p0.2.2.2.2.2.2.2.2.2.2.2.2.2.2.2.2.2.2.2.2.2.1))), (V.t (T.sc (.string p0.2.2.2.2.2.2.2.2.2.2.2.2.2.2.2.2.2.2.2.2.2.2.1))), (V.t (T.sc (.string p0.2.2.2.2.2.2.2.2.2.2.2.2.2.2.2.2.2.2.2.2.2.2.2.1))), (V.t (T.sc (.string p0.2.2.2.2.2.2.2.2.2.2.2.2.2.2.2.2.2.2.2.2.2.2.2.2.1))), (V.t (T.sc (.string p0.2.2.2.2.2.2.2.2.2.2.2.2.2.2.2.2.2.2.2.2.2.2.2.2.2.1))), (V.t (T.sc (.string p0.2.2.2.2.2.2.2.2.2.2.2.2.2.2.2.2.2.2.2.2.2.2.2.2.2.2.1))), (V.t (T.sc (.string p0.2.2.2.2.2.2.2.2.2.2.2.2.2.2.2.2.2.2.2.2.2.2.2.2.2.2.2.1))), (V.t (T.sc (.string p0.2.2.2.2.2.2.2.2.2.2.2.2.2.2.2.2.2.2.2.2.2.2.2.2.2.2.2.2.1))), (V.t (T.sc (.string p0.2.2.2.2.2.2.2.2.2.2.2.2.2.2.2.2.2.2.2.2.2.2.2.2.2.2.2.2.2.1))), (V.t (T.sc (.string p0.2.2.2.2.2.2.2.2.2.2.2.2.2.2.2.2.2.2.2.2.2.2.2.2.2.2.2.2.2.2)))]])) x
theorem l_suturelaw2_text_4_run (n : Nat) : ∀ (m : Nat) (s0 : ByteArray) (s1 : ByteArray) (s2 : List T) (s3 : Int) (s4 : Int) (s5 : ByteArray) (s6 : ByteArray) (s7 : ByteArray) (s8 : ByteArray) (s9 : ByteArray) (s10 : ByteArray) (s11 : ByteArray) (s12 : ByteArray) (s13 : ByteArray) (s14 : ByteArray) (s15 : ByteArray) (s16 : ByteArray) (s17 : ByteArray) (s18 : ByteArray) (s19 : ByteArray) (s20 : ByteArray) (s21 : ByteArray) (s22 : ByteArray) (s23 : ByteArray) (s24 : ByteArray) (s25 : ByteArray) (s26 : ByteArray) (s27 : ByteArray) (s28 : ByteArray) (s29 : ByteArray) (s30 : ByteArray) (s31 : ByteArray) (s32 : ByteArray) (s33 : ByteArray) (s34 : ByteArray) (x : ByteArray × ByteArray × ByteArray × ByteArray × ByteArray × ByteArray × ByteArray × ByteArray × ByteArray × ByteArray × ByteArray × ByteArray × ByteArray × ByteArray × ByteArray × ByteArray × ByteArray × ByteArray × ByteArray × ByteArray × ByteArray × ByteArray × ByteArray × ByteArray × ByteArray × ByteArray × ByteArray × ByteArray × ByteArray × ByteArray × ByteArray), l_suturelaw2_text_4 n m (s0, s1, s2, s3, s4, s5, s6, s7, s8, s9, s10, s11, s12, s13, s14, s15, s16, s17, s18, s19, s20, s21, s22, s23, s24, s25, s26, s27, s28, s29, s30, s31, s32, s33, s34) = some x → SemL Tryd.prog 0 code_l_suturelaw2_text_4 (SEnv.env 36 [(1, (V.t (T.sc (.string s0)))), (5, (V.ptr 0 0)), (6, (V.t (T.sc (.string s1)))), (11, (V.t (T.list s2))), (12, (V.t (T.sc (.int .i64 s3)))), (13, (V.t (T.sc (.int .i64 s4))))]) [some [(V.t (T.sc (.string s5))), (V.t (T.sc (.string s6))), (V.t (T.sc (.string s7))), (V.t (T.sc (.string s8))), (V.t (T.sc (.string s9))), (V.t (T.sc (.string s10))), (V.t (T.sc (.string s11))), (V.t (T.sc (.string s12))), (V.t (T.sc (.string s13))), (V.t (T.sc (.string s14))), (V.t (T.sc (.string s15))), (V.t (T.sc (.string s16))), (V.t (T.sc (.string s17))), (V.t (T.sc (.string s18))), (V.t (T.sc (.string s19))), (V.t (T.sc (.string s20))), (V.t (T.sc (.string s21))), (V.t (T.sc (.string s22))), (V.t (T.sc (.string s23))), (V.t (T.sc (.string s24))), (V.t (T.sc (.string s25))), (V.t (T.sc (.string s26))), (V.t (T.sc (.string s27))), (V.t (T.sc (.string s28))), (V.t (T.sc (.string s29))), (V.t (T.sc (.string s30))), (V.t (T.sc (.string s31))), (V.t (T.sc (.string s32))), (V.t (T.sc (.string s33))), (V.t (T.sc (.string s34)))]] (l_suturelaw2_text_4_Q x)
  | 0, s0, s1, s2, s3, s4, s5, s6, s7, s8, s9, s10, s11, s12, s13, s14, s15, s16, s17, s18, s19, s20, s21, s22, s23, s24, s25, s26, s27, s28, s29, s30, s31, s32, s33, s34, x, h => by cases h
  | m + 1, s0, s1, s2, s3, s4, s5, s6, s7, s8, s9, s10, s11, s12, s13, s14, s15, s16, s17, s18, s19, s20, s21, s22, s23, s24, s25, s26, s27, s28, s29, s30, s31, s32, s33, s34, x, h => by
    refine loop_step (sp_suturelaw2_text_ok n) code_l_suturelaw2_text_4_ok (fun a ha => absurd ha (by rw [show loopsOf code_l_suturelaw2_text_4 = [] from by kernel_rfl]; simp)) (no_scope (by kernel_rfl)) ((l_suturelaw2_text_4_eq n _ s0 s1 s2 s3 s4 s5 s6 s7 s8 s9 s10 s11 s12 s13 s14 s15 s16 s17 s18 s19 s20 s21 s22 s23 s24 s25 s26 s27 s28 s29 s30 s31 s32 s33 s34).trans h) (fun E sg h => ?_) (fun ex E sg hne h => ?_)
    · simp only [l_suturelaw2_text_4_K] at h
      obtain ⟨u0, hu0, h⟩ := Option.bind_eq_some_iff.1 h
      obtain ⟨u1, hu1, h⟩ := Option.bind_eq_some_iff.1 h
      obtain ⟨u2, hu2, h⟩ := Option.bind_eq_some_iff.1 h
      obtain ⟨u3, hu3, h⟩ := Option.bind_eq_some_iff.1 h
      obtain ⟨u4, hu4, h⟩ := Option.bind_eq_some_iff.1 h
      obtain ⟨u5, hu5, h⟩ := Option.bind_eq_some_iff.1 h
      obtain ⟨u6, hu6, h⟩ := Option.bind_eq_some_iff.1 h
      obtain ⟨u7, hu7, h⟩ := Option.bind_eq_some_iff.1 h
      obtain ⟨u8, hu8, h⟩ := Option.bind_eq_some_iff.1 h
      obtain ⟨u9, hu9, h⟩ := Option.bind_eq_some_iff.1 h
      obtain ⟨u10, hu10, h⟩ := Option.bind_eq_some_iff.1 h
      obtain ⟨u11, hu11, h⟩ := Option.bind_eq_some_iff.1 h
      obtain ⟨u12, hu12, h⟩ := Option.bind_eq_some_iff.1 h
      obtain ⟨u13, hu13, h⟩ := Option.bind_eq_some_iff.1 h
      obtain ⟨u14, hu14, h⟩ := Option.bind_eq_some_iff.1 h
      obtain ⟨u15, hu15, h⟩ := Option.bind_eq_some_iff.1 h
      obtain ⟨u16, hu16, h⟩ := Option.bind_eq_some_iff.1 h
      obtain ⟨u17, hu17, h⟩ := Option.bind_eq_some_iff.1 h
      obtain ⟨u18, hu18, h⟩ := Option.bind_eq_some_iff.1 h
      obtain ⟨u19, hu19, h⟩ := Option.bind_eq_some_iff.1 h
      obtain ⟨u20, hu20, h⟩ := Option.bind_eq_some_iff.1 h
      obtain ⟨u21, hu21, h⟩ := Option.bind_eq_some_iff.1 h
      obtain ⟨u22, hu22, h⟩ := Option.bind_eq_some_iff.1 h
      obtain ⟨u23, hu23, h⟩ := Option.bind_eq_some_iff.1 h
      obtain ⟨u24, hu24, h⟩ := Option.bind_eq_some_iff.1 h
      obtain ⟨u25, hu25, h⟩ := Option.bind_eq_some_iff.1 h
      obtain ⟨u26, hu26, h⟩ := Option.bind_eq_some_iff.1 h
      obtain ⟨u27, hu27, h⟩ := Option.bind_eq_some_iff.1 h
      obtain ⟨u28, hu28, h⟩ := Option.bind_eq_some_iff.1 h
      obtain ⟨u29, hu29, h⟩ := Option.bind_eq_some_iff.1 h
      obtain ⟨u30, hu30, h⟩ := Option.bind_eq_some_iff.1 h
      obtain ⟨u31, hu31, h⟩ := Option.bind_eq_some_iff.1 h
      obtain ⟨u32, hu32, h⟩ := Option.bind_eq_some_iff.1 h
      obtain ⟨u33, hu33, h⟩ := Option.bind_eq_some_iff.1 h
      obtain ⟨u34, hu34, h⟩ := Option.bind_eq_some_iff.1 h
      obtain ⟨u35, hu35, h⟩ := Option.bind_eq_some_iff.1 h
      obtain ⟨u36, hu36, h⟩ := Option.bind_eq_some_iff.1 h
      exact SemL.pre (k := 1) (by decide) (WkA.env (WkA.cons (strOf_wk hu0) rfl (WkA.cons (ptrOf_wk hu1) rfl (WkA.cons (strOf_wk hu2) rfl (WkA.cons (lstOf_wk hu3) rfl (WkA.cons (intOf_wk hu4) rfl (WkA.cons (intOf_wk hu5) rfl WkA.nil)))))) 36) (wkR_sig (WkR.cons (cellsN_wk hu6 (.cons (strOf_wk hu7) (.cons (strOf_wk hu8) (.cons (strOf_wk hu9) (.cons (strOf_wk hu10) (.cons (strOf_wk hu11) (.cons (strOf_wk hu12) (.cons (strOf_wk hu13) (.cons (strOf_wk hu14) (.cons (strOf_wk hu15) (.cons (strOf_wk hu16) (.cons (strOf_wk hu17) (.cons (strOf_wk hu18) (.cons (strOf_wk hu19) (.cons (strOf_wk hu20) (.cons (strOf_wk hu21) (.cons (strOf_wk hu22) (.cons (strOf_wk hu23) (.cons (strOf_wk hu24) (.cons (strOf_wk hu25) (.cons (strOf_wk hu26) (.cons (strOf_wk hu27) (.cons (strOf_wk hu28) (.cons (strOf_wk hu29) (.cons (strOf_wk hu30) (.cons (strOf_wk hu31) (.cons (strOf_wk hu32) (.cons (strOf_wk hu33) (.cons (strOf_wk hu34) (.cons (strOf_wk hu35) (.cons (strOf_wk hu36) .nil))))))))))))))))))))))))))))))).1 (cellsN_wk hu6 (.cons (strOf_wk hu7) (.cons (strOf_wk hu8) (.cons (strOf_wk hu9) (.cons (strOf_wk hu10) (.cons (strOf_wk hu11) (.cons (strOf_wk hu12) (.cons (strOf_wk hu13) (.cons (strOf_wk hu14) (.cons (strOf_wk hu15) (.cons (strOf_wk hu16) (.cons (strOf_wk hu17) (.cons (strOf_wk hu18) (.cons (strOf_wk hu19) (.cons (strOf_wk hu20) (.cons (strOf_wk hu21) (.cons (strOf_wk hu22) (.cons (strOf_wk hu23) (.cons (strOf_wk hu24) (.cons (strOf_wk hu25) (.cons (strOf_wk hu26) (.cons (strOf_wk hu27) (.cons (strOf_wk hu28) (.cons (strOf_wk hu29) (.cons (strOf_wk hu30) (.cons (strOf_wk hu31) (.cons (strOf_wk hu32) (.cons (strOf_wk hu33) (.cons (strOf_wk hu34) (.cons (strOf_wk hu35) (.cons (strOf_wk hu36) .nil))))))))))))))))))))))))))))))).2 (renL_mem (.cons rfl (.cons rfl (.cons rfl (.cons rfl (.cons rfl (.cons rfl (.cons rfl (.cons rfl (.cons rfl (.cons rfl (.cons rfl (.cons rfl (.cons rfl (.cons rfl (.cons rfl (.cons rfl (.cons rfl (.cons rfl (.cons rfl (.cons rfl (.cons rfl (.cons rfl (.cons rfl (.cons rfl (.cons rfl (.cons rfl (.cons rfl (.cons rfl (.cons rfl (.cons rfl .nil))))))))))))))))))))))))))))))) (WkR.nil _)) rfl) (l_suturelaw2_text_4_run n m _ _ _ _ _ _ _ _ _ _ _ _ _ _ _ _ _ _ _ _ _ _ _ _ _ _ _ _ _ _ _ _ _ _ _ x h)
    · unfold l_suturelaw2_text_4_K at h
      split at h
      · exact absurd rfl hne
      · obtain ⟨u0, hu0, h⟩ := Option.bind_eq_some_iff.1 h
        obtain ⟨u1, hu1, h⟩ := Option.bind_eq_some_iff.1 h
        obtain ⟨u2, hu2, h⟩ := Option.bind_eq_some_iff.1 h
        obtain ⟨u3, hu3, h⟩ := Option.bind_eq_some_iff.1 h
        obtain ⟨u4, hu4, h⟩ := Option.bind_eq_some_iff.1 h
        obtain ⟨u5, hu5, h⟩ := Option.bind_eq_some_iff.1 h
        obtain ⟨u6, hu6, h⟩ := Option.bind_eq_some_iff.1 h
        obtain ⟨u7, hu7, h⟩ := Option.bind_eq_some_iff.1 h
        obtain ⟨u8, hu8, h⟩ := Option.bind_eq_some_iff.1 h
        obtain ⟨u9, hu9, h⟩ := Option.bind_eq_some_iff.1 h
        obtain ⟨u10, hu10, h⟩ := Option.bind_eq_some_iff.1 h
        obtain ⟨u11, hu11, h⟩ := Option.bind_eq_some_iff.1 h
        obtain ⟨u12, hu12, h⟩ := Option.bind_eq_some_iff.1 h
        obtain ⟨u13, hu13, h⟩ := Option.bind_eq_some_iff.1 h
        obtain ⟨u14, hu14, h⟩ := Option.bind_eq_some_iff.1 h
        obtain ⟨u15, hu15, h⟩ := Option.bind_eq_some_iff.1 h
        obtain ⟨u16, hu16, h⟩ := Option.bind_eq_some_iff.1 h
        obtain ⟨u17, hu17, h⟩ := Option.bind_eq_some_iff.1 h
        obtain ⟨u18, hu18, h⟩ := Option.bind_eq_some_iff.1 h
        obtain ⟨u19, hu19, h⟩ := Option.bind_eq_some_iff.1 h
        obtain ⟨u20, hu20, h⟩ := Option.bind_eq_some_iff.1 h
        obtain ⟨u21, hu21, h⟩ := Option.bind_eq_some_iff.1 h
        obtain ⟨u22, hu22, h⟩ := Option.bind_eq_some_iff.1 h
        obtain ⟨u23, hu23, h⟩ := Option.bind_eq_some_iff.1 h
        obtain ⟨u24, hu24, h⟩ := Option.bind_eq_some_iff.1 h
        obtain ⟨u25, hu25, h⟩ := Option.bind_eq_some_iff.1 h
        obtain ⟨u26, hu26, h⟩ := Option.bind_eq_some_iff.1 h
        obtain ⟨u27, hu27, h⟩ := Option.bind_eq_some_iff.1 h
        obtain ⟨u28, hu28, h⟩ := Option.bind_eq_some_iff.1 h
        obtain ⟨u29, hu29, h⟩ := Option.bind_eq_some_iff.1 h
        obtain ⟨u30, hu30, h⟩ := Option.bind_eq_some_iff.1 h
        obtain ⟨u31, hu31, h⟩ := Option.bind_eq_some_iff.1 h
        simp only [Option.some.injEq] at h
        subst h
        exact ⟨1, _, _, by decide, WkA.env (WkA.cons (strOf_wk hu0) rfl WkA.nil) 36, (wkR_sig (WkR.cons (cellsN_wk hu1 (.cons (strOf_wk hu2) (.cons (strOf_wk hu3) (.cons (strOf_wk hu4) (.cons (strOf_wk hu5) (.cons (strOf_wk hu6) (.cons (strOf_wk hu7) (.cons (strOf_wk hu8) (.cons (strOf_wk hu9) (.cons (strOf_wk hu10) (.cons (strOf_wk hu11) (.cons (strOf_wk hu12) (.cons (strOf_wk hu13) (.cons (strOf_wk hu14) (.cons (strOf_wk hu15) (.cons (strOf_wk hu16) (.cons (strOf_wk hu17) (.cons (strOf_wk hu18) (.cons (strOf_wk hu19) (.cons (strOf_wk hu20) (.cons (strOf_wk hu21) (.cons (strOf_wk hu22) (.cons (strOf_wk hu23) (.cons (strOf_wk hu24) (.cons (strOf_wk hu25) (.cons (strOf_wk hu26) (.cons (strOf_wk hu27) (.cons (strOf_wk hu28) (.cons (strOf_wk hu29) (.cons (strOf_wk hu30) (.cons (strOf_wk hu31) .nil))))))))))))))))))))))))))))))).1 (cellsN_wk hu1 (.cons (strOf_wk hu2) (.cons (strOf_wk hu3) (.cons (strOf_wk hu4) (.cons (strOf_wk hu5) (.cons (strOf_wk hu6) (.cons (strOf_wk hu7) (.cons (strOf_wk hu8) (.cons (strOf_wk hu9) (.cons (strOf_wk hu10) (.cons (strOf_wk hu11) (.cons (strOf_wk hu12) (.cons (strOf_wk hu13) (.cons (strOf_wk hu14) (.cons (strOf_wk hu15) (.cons (strOf_wk hu16) (.cons (strOf_wk hu17) (.cons (strOf_wk hu18) (.cons (strOf_wk hu19) (.cons (strOf_wk hu20) (.cons (strOf_wk hu21) (.cons (strOf_wk hu22) (.cons (strOf_wk hu23) (.cons (strOf_wk hu24) (.cons (strOf_wk hu25) (.cons (strOf_wk hu26) (.cons (strOf_wk hu27) (.cons (strOf_wk hu28) (.cons (strOf_wk hu29) (.cons (strOf_wk hu30) (.cons (strOf_wk hu31) .nil))))))))))))))))))))))))))))))).2 (renL_mem (.cons rfl (.cons rfl (.cons rfl (.cons rfl (.cons rfl (.cons rfl (.cons rfl (.cons rfl (.cons rfl (.cons rfl (.cons rfl (.cons rfl (.cons rfl (.cons rfl (.cons rfl (.cons rfl (.cons rfl (.cons rfl (.cons rfl (.cons rfl (.cons rfl (.cons rfl (.cons rfl (.cons rfl (.cons rfl (.cons rfl (.cons rfl (.cons rfl (.cons rfl (.cons rfl .nil))))))))))))))))))))))))))))))) (WkR.nil _)) rfl), rfl, rfl, rfl⟩
      · cases h
theorem l_suturelaw2_text_4_ok (n : Nat) : LoopOk Tryd.prog (sp_suturelaw2_text n) 0 36 code_l_suturelaw2_text_4 := by
    intro R key E sg K r hk h
    rw [show Go.Eng.keyOf code_l_suturelaw2_text_4 = some 4 from by kernel_rfl] at hk
    cases hk
    have h : l_suturelaw2_text_4_S n R E sg K = some r := h
    unfold l_suturelaw2_text_4_S at h
    obtain ⟨u0, hu0, h⟩ := Option.bind_eq_some_iff.1 h
    obtain ⟨u1, hu1, h⟩ := Option.bind_eq_some_iff.1 h
    obtain ⟨u2, hu2, h⟩ := Option.bind_eq_some_iff.1 h
    obtain ⟨u3, hu3, h⟩ := Option.bind_eq_some_iff.1 h
    obtain ⟨u4, hu4, h⟩ := Option.bind_eq_some_iff.1 h
    obtain ⟨u5, hu5, h⟩ := Option.bind_eq_some_iff.1 h
    obtain ⟨u6, hu6, h⟩ := Option.bind_eq_some_iff.1 h
    obtain ⟨u7, hu7, h⟩ := Option.bind_eq_some_iff.1 h
    obtain ⟨u8, hu8, h⟩ := Option.bind_eq_some_iff.1 h
    obtain ⟨u9, hu9, h⟩ := Option.bind_eq_some_iff.1 h
    obtain ⟨u10, hu10, h⟩ := Option.bind_eq_some_iff.1 h
    obtain ⟨u11, hu11, h⟩ := Option.bind_eq_some_iff.1 h
    obtain ⟨u12, hu12, h⟩ := Option.bind_eq_some_iff.1 h
    obtain ⟨u13, hu13, h⟩ := Option.bind_eq_some_iff.1 h
    obtain ⟨u14, hu14, h⟩ := Option.bind_eq_some_iff.1 h
    obtain ⟨u15, hu15, h⟩ := Option.bind_eq_some_iff.1 h
    obtain ⟨u16, hu16, h⟩ := Option.bind_eq_some_iff.1 h
    obtain ⟨u17, hu17, h⟩ := Option.bind_eq_some_iff.1 h
    obtain ⟨u18, hu18, h⟩ := Option.bind_eq_some_iff.1 h
    obtain ⟨u19, hu19, h⟩ := Option.bind_eq_some_iff.1 h
    obtain ⟨u20, hu20, h⟩ := Option.bind_eq_some_iff.1 h
    obtain ⟨u21, hu21, h⟩ := Option.bind_eq_some_iff.1 h
    obtain ⟨u22, hu22, h⟩ := Option.bind_eq_some_iff.1 h
    obtain ⟨u23, hu23, h⟩ := Option.bind_eq_some_iff.1 h
    obtain ⟨u24, hu24, h⟩ := Option.bind_eq_some_iff.1 h
    obtain ⟨u25, hu25, h⟩ := Option.bind_eq_some_iff.1 h
    obtain ⟨u26, hu26, h⟩ := Option.bind_eq_some_iff.1 h
    obtain ⟨u27, hu27, h⟩ := Option.bind_eq_some_iff.1 h
    obtain ⟨u28, hu28, h⟩ := Option.bind_eq_some_iff.1 h
    obtain ⟨u29, hu29, h⟩ := Option.bind_eq_some_iff.1 h
    obtain ⟨u30, hu30, h⟩ := Option.bind_eq_some_iff.1 h
    obtain ⟨u31, hu31, h⟩ := Option.bind_eq_some_iff.1 h
    obtain ⟨u32, hu32, h⟩ := Option.bind_eq_some_iff.1 h
    obtain ⟨u33, hu33, h⟩ := Option.bind_eq_some_iff.1 h
    obtain ⟨u34, hu34, h⟩ := Option.bind_eq_some_iff.1 h
    obtain ⟨u35, hu35, h⟩ := Option.bind_eq_some_iff.1 h
    obtain ⟨u36, hu36, h⟩ := Option.bind_eq_some_iff.1 h
    obtain ⟨x, hx, h⟩ := Option.bind_eq_some_iff.1 h
    refine (SemL.pre (k := 1) (by decide) (WkA.env (WkA.cons (strOf_wk hu0) rfl (WkA.cons (ptrOf_wk hu1) rfl (WkA.cons (strOf_wk hu2) rfl (WkA.cons (lstOf_wk hu3) rfl (WkA.cons (intOf_wk hu4) rfl (WkA.cons (intOf_wk hu5) rfl WkA.nil)))))) 36) (wkR_sig (WkR.cons (cellsN_wk hu6 (.cons (strOf_wk hu7) (.cons (strOf_wk hu8) (.cons (strOf_wk hu9) (.cons (strOf_wk hu10) (.cons (strOf_wk hu11) (.cons (strOf_wk hu12) (.cons (strOf_wk hu13) (.cons (strOf_wk hu14) (.cons (strOf_wk hu15) (.cons (strOf_wk hu16) (.cons (strOf_wk hu17) (.cons (strOf_wk hu18) (.cons (strOf_wk hu19) (.cons (strOf_wk hu20) (.cons (strOf_wk hu21) (.cons (strOf_wk hu22) (.cons (strOf_wk hu23) (.cons (strOf_wk hu24) (.cons (strOf_wk hu25) (.cons (strOf_wk hu26) (.cons (strOf_wk hu27) (.cons (strOf_wk hu28) (.cons (strOf_wk hu29) (.cons (strOf_wk hu30) (.cons (strOf_wk hu31) (.cons (strOf_wk hu32) (.cons (strOf_wk hu33) (.cons (strOf_wk hu34) (.cons (strOf_wk hu35) (.cons (strOf_wk hu36) .nil))))))))))))))))))))))))))))))).1 (cellsN_wk hu6 (.cons (strOf_wk hu7) (.cons (strOf_wk hu8) (.cons (strOf_wk hu9) (.cons (strOf_wk hu10) (.cons (strOf_wk hu11) (.cons (strOf_wk hu12) (.cons (strOf_wk hu13) (.cons (strOf_wk hu14) (.cons (strOf_wk hu15) (.cons (strOf_wk hu16) (.cons (strOf_wk hu17) (.cons (strOf_wk hu18) (.cons (strOf_wk hu19) (.cons (strOf_wk hu20) (.cons (strOf_wk hu21) (.cons (strOf_wk hu22) (.cons (strOf_wk hu23) (.cons (strOf_wk hu24) (.cons (strOf_wk hu25) (.cons (strOf_wk hu26) (.cons (strOf_wk hu27) (.cons (strOf_wk hu28) (.cons (strOf_wk hu29) (.cons (strOf_wk hu30) (.cons (strOf_wk hu31) (.cons (strOf_wk hu32) (.cons (strOf_wk hu33) (.cons (strOf_wk hu34) (.cons (strOf_wk hu35) (.cons (strOf_wk hu36) .nil))))))))))))))))))))))))))))))).2 (renL_mem (.cons rfl (.cons rfl (.cons rfl (.cons rfl (.cons rfl (.cons rfl (.cons rfl (.cons rfl (.cons rfl (.cons rfl (.cons rfl (.cons rfl (.cons rfl (.cons rfl (.cons rfl (.cons rfl (.cons rfl (.cons rfl (.cons rfl (.cons rfl (.cons rfl (.cons rfl (.cons rfl (.cons rfl (.cons rfl (.cons rfl (.cons rfl (.cons rfl (.cons rfl (.cons rfl .nil))))))))))))))))))))))))))))))) (WkR.nil _)) rfl) (l_suturelaw2_text_4_run n n _ _ _ _ _ _ _ _ _ _ _ _ _ _ _ _ _ _ _ _ _ _ _ _ _ _ _ _ _ _ _ _ _ _ _ x hx)).mono ?_
    intro ex e s hq
    obtain ⟨rfl, rfl, rfl⟩ := hq
    exact ⟨_, rfl, h⟩
def K_suturelaw2_text (v : V) (s : Sig) : Option (ByteArray) := Option.bind (V.strOf v) fun u0 => some u0
theorem K_suturelaw2_text_wk {v : V} {s : Sig} {r : ByteArray} (h : K_suturelaw2_text v s = some r) : Wk v (enc_suturelaw2_text r) ∧ WkS 0 s (encS_suturelaw2_text r) := by
  unfold K_suturelaw2_text at h
  obtain ⟨u0, hu0, h⟩ := Option.bind_eq_some_iff.1 h
  simp only [Option.some.injEq] at h
  subst h
  exact ⟨(strOf_wk hu0), (WkS.none _)⟩
theorem m_suturelaw2_text_eq (n : Nat) (a0 : List T) (a1 : ByteArray) : mF Tryd.prog (sp_suturelaw2_text n) 23 [(V.t (T.list a0)), (V.t (T.sc (.string a1)))] [] K_suturelaw2_text = m_suturelaw2_text n a0 a1 := by kernel_rfl
theorem m_suturelaw2_text_ok (n : Nat) : ok_suturelaw2_text (m_suturelaw2_text n) := fun a0 a1 r h => mF_ok sound (sp_suturelaw2_text_ok n) code_suturelaw2_text_fn code_suturelaw2_text_body (forall_getD (d := .skip) 1 (by kernel_rfl) (fun i hi => match i, hi with | 0, _ => l_suturelaw2_text_4_ok n | i + 1, hi => absurd hi (by omega))) (no_scope (by kernel_rfl)) ((m_suturelaw2_text_eq n a0 a1).trans h) (fun v s hk => ⟨(K_suturelaw2_text_wk hk).1, rfl, (K_suturelaw2_text_wk hk).2⟩)


/-! strings.Count: from elsewhere -/
def m_strings_Count (n : Nat) (a0 : ByteArray) (a1 : ByteArray) : Option (Int) := cntM a0 a1
def enc_strings_Count (r : Int) : V := (V.t (T.sc (.int .i64 r)))
def encS_strings_Count (r : Int) : Sig := []
def ok_strings_Count (m : ByteArray → ByteArray → Option (Int)) : Prop := ∀ (a0 : ByteArray) (a1 : ByteArray) (r : Int), m a0 a1 = some r → FuncOk Tryd.prog 32 [(V.t (T.sc (.string a0))), (V.t (T.sc (.string a1)))] [] (enc_strings_Count r) (encS_strings_Count r)
def c_strings_Count (m : ByteArray → ByteArray → Option (Int)) (vs : List V) (sg : Sig) : Option CallM := bif Nat.beq vs.length 2 && Nat.beq sg.length 0 then Option.bind (V.strOf (vs.getD 0 .any)) fun u0 => Option.bind (V.strOf (vs.getD 1 .any)) fun u1 => some { α := Int, m := m u0 u1, dflt := 0, enc := fun y => ((V.t (T.sc (.int .i64 y))), []) } else none
theorem c_strings_Count_ok (m : ByteArray → ByteArray → Option (Int)) (hm : ok_strings_Count m) (vs : List V) (sg : Sig) (cm : CallM) (x : cm.α) (h : c_strings_Count m vs sg = some cm) (hx : cm.m = some x) : FuncOk Tryd.prog 32 vs sg (cm.enc x).1 (cm.enc x).2 := by
  unfold c_strings_Count at h
  have h0 := callee_sig h
  clear h
  obtain ⟨hl, hs, h⟩ := h0
  obtain ⟨u0, hu0, h⟩ := Option.bind_eq_some_iff.1 h
  obtain ⟨u1, hu1, h⟩ := Option.bind_eq_some_iff.1 h
  simp only [Option.some.injEq] at h
  subst h
  exact (hm u0 u1 x hx).wk (args_wk hl (.cons (strOf_wk hu0) (.cons (strOf_wk hu1) .nil))) (wkSg_of hs .nil)
theorem m_strings_Count_ok (n : Nat) : ok_strings_Count (m_strings_Count n) := fun a0 a1 r h => x_strings_Count h


/-! strings.LastIndexByte: from elsewhere -/
def m_strings_LastIndexByte (n : Nat) (a0 : ByteArray) (a1 : Int) : Option (Int) := lastM a0 a1
def enc_strings_LastIndexByte (r : Int) : V := (V.t (T.sc (.int .i64 r)))
def encS_strings_LastIndexByte (r : Int) : Sig := []
def ok_strings_LastIndexByte (m : ByteArray → Int → Option (Int)) : Prop := ∀ (a0 : ByteArray) (a1 : Int) (r : Int), m a0 a1 = some r → FuncOk Tryd.prog 33 [(V.t (T.sc (.string a0))), (V.t (T.sc (.int .u8 a1)))] [] (enc_strings_LastIndexByte r) (encS_strings_LastIndexByte r)
def c_strings_LastIndexByte (m : ByteArray → Int → Option (Int)) (vs : List V) (sg : Sig) : Option CallM := bif Nat.beq vs.length 2 && Nat.beq sg.length 0 then Option.bind (V.strOf (vs.getD 0 .any)) fun u0 => Option.bind (V.intOf .u8 (vs.getD 1 .any)) fun u1 => some { α := Int, m := m u0 u1, dflt := 0, enc := fun y => ((V.t (T.sc (.int .i64 y))), []) } else none
theorem c_strings_LastIndexByte_ok (m : ByteArray → Int → Option (Int)) (hm : ok_strings_LastIndexByte m) (vs : List V) (sg : Sig) (cm : CallM) (x : cm.α) (h : c_strings_LastIndexByte m vs sg = some cm) (hx : cm.m = some x) : FuncOk Tryd.prog 33 vs sg (cm.enc x).1 (cm.enc x).2 := by
  unfold c_strings_LastIndexByte at h
  have h0 := callee_sig h
  clear h
  obtain ⟨hl, hs, h⟩ := h0
  obtain ⟨u0, hu0, h⟩ := Option.bind_eq_some_iff.1 h
  obtain ⟨u1, hu1, h⟩ := Option.bind_eq_some_iff.1 h
  simp only [Option.some.injEq] at h
  subst h
  exact (hm u0 u1 x hx).wk (args_wk hl (.cons (strOf_wk hu0) (.cons (intOf_wk hu1) .nil))) (wkSg_of hs .nil)
theorem m_strings_LastIndexByte_ok (n : Nat) : ok_strings_LastIndexByte (m_strings_LastIndexByte n) := fun a0 a1 r h => x_strings_LastIndexByte h


/-! suture/place.Of -/
def m_place_Of (n : Nat) (a0 : ByteArray) (a1 : Int) : Option ((Nat × Nat)) :=
must true (decide (0 ≤ 0) && decide (0 ≤ (if (0 : Int) < (if (((ByteArray.size a0 : Nat) : Int) : Int) < a1 then ((ByteArray.size a0 : Nat) : Int) else a1) then (if (((ByteArray.size a0 : Nat) : Int) : Int) < a1 then ((ByteArray.size a0 : Nat) : Int) else a1) else 0)) && decide ((if (0 : Int) < (if (((ByteArray.size a0 : Nat) : Int) : Int) < a1 then ((ByteArray.size a0 : Nat) : Int) else a1) then (if (((ByteArray.size a0 : Nat) : Int) : Int) < a1 then ((ByteArray.size a0 : Nat) : Int) else a1) else 0) ≤ ((ByteArray.size a0 : Nat) : Int))) (Option.bind (m_strings_Count n (ByteArray.extract a0 (Int.toNat 0) (Int.toNat (if (0 : Int) < (if (((ByteArray.size a0 : Nat) : Int) : Int) < a1 then ((ByteArray.size a0 : Nat) : Int) else a1) then (if (((ByteArray.size a0 : Nat) : Int) : Int) < a1 then ((ByteArray.size a0 : Nat) : Int) else a1) else 0))) (⟨#[10]⟩ : ByteArray)) fun r0 =>
Option.bind (m_strings_LastIndexByte n (ByteArray.extract a0 (Int.toNat 0) (Int.toNat (if (0 : Int) < (if (((ByteArray.size a0 : Nat) : Int) : Int) < a1 then ((ByteArray.size a0 : Nat) : Int) else a1) then (if (((ByteArray.size a0 : Nat) : Int) : Int) < a1 then ((ByteArray.size a0 : Nat) : Int) else a1) else 0))) 10) fun r1 =>
some ((FloatKind.nearest .f64 (IntKind.wrap .i64 (1 + r0))), (FloatKind.nearest .f64 (IntKind.wrap .i64 (((ByteArray.size (ByteArray.extract a0 (Int.toNat 0) (Int.toNat (if (0 : Int) < (if (((ByteArray.size a0 : Nat) : Int) : Int) < a1 then ((ByteArray.size a0 : Nat) : Int) else a1) then (if (((ByteArray.size a0 : Nat) : Int) : Int) < a1 then ((ByteArray.size a0 : Nat) : Int) else a1) else 0))) : Nat) : Int) - r1)))))
def enc_place_Of (r : (Nat × Nat)) : V := (V.t (T.sc (.complex .f64 r.1 r.2)))
def encS_place_Of (r : (Nat × Nat)) : Sig := []
def ok_place_Of (m : ByteArray → Int → Option ((Nat × Nat))) : Prop := ∀ (a0 : ByteArray) (a1 : Int) (r : (Nat × Nat)), m a0 a1 = some r → FuncOk Tryd.prog 15 [(V.t (T.sc (.string a0))), (V.t (T.sc (.int .i64 a1)))] [] (enc_place_Of r) (encS_place_Of r)
def c_place_Of (m : ByteArray → Int → Option ((Nat × Nat))) (vs : List V) (sg : Sig) : Option CallM := bif Nat.beq vs.length 2 && Nat.beq sg.length 0 then Option.bind (V.strOf (vs.getD 0 .any)) fun u0 => Option.bind (V.intOf .i64 (vs.getD 1 .any)) fun u1 => some { α := (Nat × Nat), m := m u0 u1, dflt := (0, 0), enc := fun y => ((V.t (T.sc (.complex .f64 y.1 y.2))), []) } else none
theorem c_place_Of_ok (m : ByteArray → Int → Option ((Nat × Nat))) (hm : ok_place_Of m) (vs : List V) (sg : Sig) (cm : CallM) (x : cm.α) (h : c_place_Of m vs sg = some cm) (hx : cm.m = some x) : FuncOk Tryd.prog 15 vs sg (cm.enc x).1 (cm.enc x).2 := by
  unfold c_place_Of at h
  have h0 := callee_sig h
  clear h
  obtain ⟨hl, hs, h⟩ := h0
  obtain ⟨u0, hu0, h⟩ := Option.bind_eq_some_iff.1 h
  obtain ⟨u1, hu1, h⟩ := Option.bind_eq_some_iff.1 h
  simp only [Option.some.injEq] at h
  subst h
  exact (hm u0 u1 x hx).wk (args_wk hl (.cons (strOf_wk hu0) (.cons (intOf_wk hu1) .nil))) (wkSg_of hs .nil)
noncomputable def code_place_Of : Code := Tryd.f15.body.getD .skip
noncomputable def sp_place_Of (n : Nat) : Go.Eng.Spec := ⟨fun f vs sg => (match f with
    | 32 => c_strings_Count (m_strings_Count n) vs sg
    | 33 => c_strings_LastIndexByte (m_strings_LastIndexByte n) vs sg
    | _ => none), fun R key E sg K => (match key with
    | _ => none)⟩
theorem sp_place_Of_ok (n : Nat) : CallsOk Tryd.prog (sp_place_Of n) := by
  intro f vs sg cm x h hx
  simp only [sp_place_Of] at h
  split at h
  · exact c_strings_Count_ok _ (m_strings_Count_ok n) vs sg cm x h hx
  · exact c_strings_LastIndexByte_ok _ (m_strings_LastIndexByte_ok n) vs sg cm x h hx
  · cases h
theorem code_place_Of_fn : Tryd.prog.funcs[15]? = some Tryd.f15 := Tryd.func15
theorem code_place_Of_body : Tryd.f15.body = some code_place_Of := by kernel_rfl
theorem code_place_Of_ok : CodeOk Tryd.prog code_place_Of := (sound 15 _ _ code_place_Of_fn code_place_Of_body).1
def K_place_Of (v : V) (s : Sig) : Option ((Nat × Nat)) := Option.bind (V.cplxOf .f64 v) fun u0 => some u0
theorem K_place_Of_wk {v : V} {s : Sig} {r : (Nat × Nat)} (h : K_place_Of v s = some r) : Wk v (enc_place_Of r) ∧ WkS 0 s (encS_place_Of r) := by
  unfold K_place_Of at h
  obtain ⟨u0, hu0, h⟩ := Option.bind_eq_some_iff.1 h
  simp only [Option.some.injEq] at h
  subst h
  exact ⟨(cplxOf_wk hu0), (WkS.none _)⟩
theorem m_place_Of_eq (n : Nat) (a0 : ByteArray) (a1 : Int) : mF Tryd.prog (sp_place_Of n) 15 [(V.t (T.sc (.string a0))), (V.t (T.sc (.int .i64 a1)))] [] K_place_Of = m_place_Of n a0 a1 := by kernel_rfl
theorem m_place_Of_ok (n : Nat) : ok_place_Of (m_place_Of n) := fun a0 a1 r h => mF_ok sound (sp_place_Of_ok n) code_place_Of_fn code_place_Of_body (fun a ha => absurd ha (by rw [show loopsOf code_place_Of = [] from by kernel_rfl]; simp)) (no_scope (by kernel_rfl)) ((m_place_Of_eq n a0 a1).trans h) (fun v s hk => ⟨(K_place_Of_wk hk).1, rfl, (K_place_Of_wk hk).2⟩)


/-! suture/lex.Tokens$1 -/
def m_lex_Tokens_1 (n : Nat) (a0 : Int) : Option (Bool) :=
some (bif (bif ((a0 : Int) == 32) then true else ((a0 : Int) == 9)) then true else ((a0 : Int) == 10))
def enc_lex_Tokens_1 (r : Bool) : V := (V.t (T.sc (.bool r)))
def encS_lex_Tokens_1 (r : Bool) : Sig := []
def ok_lex_Tokens_1 (m : Int → Option (Bool)) : Prop := ∀ (a0 : Int) (r : Bool), m a0 = some r → FuncOk Tryd.prog 38 [(V.t (T.sc (.int .u8 a0)))] [] (enc_lex_Tokens_1 r) (encS_lex_Tokens_1 r)
def c_lex_Tokens_1 (m : Int → Option (Bool)) (vs : List V) (sg : Sig) : Option CallM := bif Nat.beq vs.length 1 && Nat.beq sg.length 0 then Option.bind (V.intOf .u8 (vs.getD 0 .any)) fun u0 => some { α := Bool, m := m u0, dflt := false, enc := fun y => ((V.t (T.sc (.bool y))), []) } else none
theorem c_lex_Tokens_1_ok (m : Int → Option (Bool)) (hm : ok_lex_Tokens_1 m) (vs : List V) (sg : Sig) (cm : CallM) (x : cm.α) (h : c_lex_Tokens_1 m vs sg = some cm) (hx : cm.m = some x) : FuncOk Tryd.prog 38 vs sg (cm.enc x).1 (cm.enc x).2 := by
  unfold c_lex_Tokens_1 at h
  have h0 := callee_sig h
  clear h
  obtain ⟨hl, hs, h⟩ := h0
  obtain ⟨u0, hu0, h⟩ := Option.bind_eq_some_iff.1 h
  simp only [Option.some.injEq] at h
  subst h
  exact (hm u0 x hx).wk (args_wk hl (.cons (intOf_wk hu0) .nil)) (wkSg_of hs .nil)
noncomputable def code_lex_Tokens_1 : Code := Tryd.f38.body.getD .skip
noncomputable def sp_lex_Tokens_1 (n : Nat) : Go.Eng.Spec := ⟨fun f vs sg => (match f with
    | _ => none), fun R key E sg K => (match key with
    | _ => none)⟩
theorem sp_lex_Tokens_1_ok (n : Nat) : CallsOk Tryd.prog (sp_lex_Tokens_1 n) := by
  intro f vs sg cm x h hx
  have h : (none : Option CallM) = some cm := h
  cases h
theorem code_lex_Tokens_1_fn : Tryd.prog.funcs[38]? = some Tryd.f38 := Tryd.func38
theorem code_lex_Tokens_1_body : Tryd.f38.body = some code_lex_Tokens_1 := by kernel_rfl
theorem code_lex_Tokens_1_ok : CodeOk Tryd.prog code_lex_Tokens_1 := (sound 38 _ _ code_lex_Tokens_1_fn code_lex_Tokens_1_body).1
def K_lex_Tokens_1 (v : V) (s : Sig) : Option (Bool) := Option.bind (V.boolOf v) fun u0 => some u0
theorem K_lex_Tokens_1_wk {v : V} {s : Sig} {r : Bool} (h : K_lex_Tokens_1 v s = some r) : Wk v (enc_lex_Tokens_1 r) ∧ WkS 0 s (encS_lex_Tokens_1 r) := by
  unfold K_lex_Tokens_1 at h
  obtain ⟨u0, hu0, h⟩ := Option.bind_eq_some_iff.1 h
  simp only [Option.some.injEq] at h
  subst h
  exact ⟨(boolOf_wk hu0), (WkS.none _)⟩
theorem m_lex_Tokens_1_eq (n : Nat) (a0 : Int) : mF Tryd.prog (sp_lex_Tokens_1 n) 38 [(V.t (T.sc (.int .u8 a0)))] [] K_lex_Tokens_1 = m_lex_Tokens_1 n a0 := by kernel_rfl
theorem m_lex_Tokens_1_ok (n : Nat) : ok_lex_Tokens_1 (m_lex_Tokens_1 n) := fun a0 r h => mF_ok sound (sp_lex_Tokens_1_ok n) code_lex_Tokens_1_fn code_lex_Tokens_1_body (fun a ha => absurd ha (by rw [show loopsOf code_lex_Tokens_1 = [] from by kernel_rfl]; simp)) (no_scope (by kernel_rfl)) ((m_lex_Tokens_1_eq n a0).trans h) (fun v s hk => ⟨(K_lex_Tokens_1_wk hk).1, rfl, (K_lex_Tokens_1_wk hk).2⟩)


/-! suture/lex.run -/
def l_lex_run_2_B (n : Nat) (k : ByteArray × Int → Option (Int)) : ByteArray × Int → Option (Int) := fun (s0, s1) =>
Option.bind (bidx ((decide ((s1 : Int) < ((ByteArray.size s0 : Nat) : Int)))) s0 s1) fun b0 =>
Option.bind (bif (decide ((s1 : Int) < ((ByteArray.size s0 : Nat) : Int))) then m_lex_Tokens_1 n ((UInt8.toNat b0 : Nat) : Int) else some false) fun r1 =>
bif (bif (decide ((s1 : Int) < ((ByteArray.size s0 : Nat) : Int))) then r1 else false) then (
k (s0, (IntKind.wrap .i64 (s1 + 1))))
else (
some s1)
def l_lex_run_2 (n : Nat) : Nat → ByteArray × Int → Option (Int)
  | 0, _ => none
  | m + 1, s => l_lex_run_2_B n (l_lex_run_2 n m) s
def m_lex_run (n : Nat) (a0 : ByteArray) : Option (Int) :=
Option.bind (l_lex_run_2 n n (a0, 0)) fun p3 =>
some p3
def enc_lex_run (r : Int) : V := (V.t (T.sc (.int .i64 r)))
def encS_lex_run (r : Int) : Sig := []
def ok_lex_run (m : ByteArray → Option (Int)) : Prop := ∀ (a0 : ByteArray) (r : Int), m a0 = some r → FuncOk Tryd.prog 37 [(V.t (T.sc (.string a0))), (V.fn 38 [])] [] (enc_lex_run r) (encS_lex_run r)
def c_lex_run (m : ByteArray → Option (Int)) (vs : List V) (sg : Sig) : Option CallM := bif Nat.beq vs.length 2 && Nat.beq sg.length 0 then Option.bind (V.strOf (vs.getD 0 .any)) fun u0 => Option.bind (V.fnN 38 0 (vs.getD 1 .any)) fun u1 => some { α := Int, m := m u0, dflt := 0, enc := fun y => ((V.t (T.sc (.int .i64 y))), []) } else none
theorem c_lex_run_ok (m : ByteArray → Option (Int)) (hm : ok_lex_run m) (vs : List V) (sg : Sig) (cm : CallM) (x : cm.α) (h : c_lex_run m vs sg = some cm) (hx : cm.m = some x) : FuncOk Tryd.prog 37 vs sg (cm.enc x).1 (cm.enc x).2 := by
  unfold c_lex_run at h
  have h0 := callee_sig h
  clear h
  obtain ⟨hl, hs, h⟩ := h0
  obtain ⟨u0, hu0, h⟩ := Option.bind_eq_some_iff.1 h
  obtain ⟨u1, hu1, h⟩ := Option.bind_eq_some_iff.1 h
  simp only [Option.some.injEq] at h
  subst h
  exact (hm u0 x hx).wk (args_wk hl (.cons (strOf_wk hu0) (.cons (fnN_wk hu1 .nil) .nil))) (wkSg_of hs .nil)
noncomputable def code_lex_run : Code := Tryd.f37.body.getD .skip
def l_lex_run_2_S (n : Nat) (R : Type) (E : SEnv) (sg : Sig) (K : Ex → SEnv → Sig → Option R) : Option R := Option.bind (V.strOf (SEnv.at E 0)) fun u0 => Option.bind (V.fnN 38 0 (SEnv.at E 1)) fun u1 => Option.bind (V.intOf .i64 (SEnv.at E 5)) fun u2 => Option.bind (l_lex_run_2 n n (u0, u2)) fun p0 => K (.exit 0) [(5, (V.t (T.sc (.int .i64 p0))))] []
noncomputable def sp_lex_run (n : Nat) : Go.Eng.Spec := ⟨fun f vs sg => (match f with
    | 38 => c_lex_Tokens_1 (m_lex_Tokens_1 n) vs sg
    | _ => none), fun R key E sg K => (match key with
    | 2 => l_lex_run_2_S n R E sg K
    | _ => none)⟩
theorem sp_lex_run_ok (n : Nat) : CallsOk Tryd.prog (sp_lex_run n) := by
  intro f vs sg cm x h hx
  simp only [sp_lex_run] at h
  split at h
  · exact c_lex_Tokens_1_ok _ (m_lex_Tokens_1_ok n) vs sg cm x h hx
  · cases h
theorem code_lex_run_fn : Tryd.prog.funcs[37]? = some Tryd.f37 := Tryd.func37
theorem code_lex_run_body : Tryd.f37.body = some code_lex_run := by kernel_rfl
theorem code_lex_run_ok : CodeOk Tryd.prog code_lex_run := (sound 37 _ _ code_lex_run_fn code_lex_run_body).1
noncomputable def code_l_lex_run_2 : Code := (loopsOf code_lex_run).getD 0 .skip
theorem code_l_lex_run_2_ok : CodeOk Tryd.prog code_l_lex_run_2 := codeOk_loops code_lex_run_ok _ (getD_mem (by kernel_rfl))
def l_lex_run_2_K (k : ByteArray × Int → Option (Int)) : Ex → SEnv → Sig → Option (Int) := fun x E sg => match x with
  | .normal => Option.bind (V.strOf (SEnv.at E 0)) fun u0 => Option.bind (V.fnN 38 0 (SEnv.at E 1)) fun u1 => Option.bind (V.intOf .i64 (SEnv.at E 5)) fun u2 => k (u0, u2)
  | (.exit 0) => Option.bind (V.intOf .i64 (SEnv.at E 5)) fun u0 => some u0
  | _ => none
theorem l_lex_run_2_eq (n : Nat) (k : ByteArray × Int → Option (Int)) (s0 : ByteArray) (s1 : Int) : mX Tryd.prog (sp_lex_run n) 20 code_l_lex_run_2 [(0, (V.t (T.sc (.string s0)))), (1, (V.fn 38 [])), (5, (V.t (T.sc (.int .i64 s1))))] [] (l_lex_run_2_K k) = l_lex_run_2_B n k (s0, s1) := by kernel_rfl
def l_lex_run_2_Q (x : Int) (ex : Ex) (e : Env) (s : Sig) : Prop := (fun p0 => (ex = (.exit 0) ∧ e = SEnv.env 20 [(5, (V.t (T.sc (.int .i64 p0))))] ∧ s = [])) x
theorem l_lex_run_2_run (n : Nat) : ∀ (m : Nat) (s0 : ByteArray) (s1 : Int) (x : Int), l_lex_run_2 n m (s0, s1) = some x → SemL Tryd.prog 0 code_l_lex_run_2 (SEnv.env 20 [(0, (V.t (T.sc (.string s0)))), (1, (V.fn 38 [])), (5, (V.t (T.sc (.int .i64 s1))))]) [] (l_lex_run_2_Q x)
  | 0, s0, s1, x, h => by cases h
  | m + 1, s0, s1, x, h => by
    refine loop_step (sp_lex_run_ok n) code_l_lex_run_2_ok (fun a ha => absurd ha (by rw [show loopsOf code_l_lex_run_2 = [] from by kernel_rfl]; simp)) (no_scope (by kernel_rfl)) ((l_lex_run_2_eq n _ s0 s1).trans h) (fun E sg h => ?_) (fun ex E sg hne h => ?_)
    · simp only [l_lex_run_2_K] at h
      obtain ⟨u0, hu0, h⟩ := Option.bind_eq_some_iff.1 h
      obtain ⟨u1, hu1, h⟩ := Option.bind_eq_some_iff.1 h
      obtain ⟨u2, hu2, h⟩ := Option.bind_eq_some_iff.1 h
      exact SemL.pre (k := 0) (by decide) (WkA.env (WkA.cons (strOf_wk hu0) rfl (WkA.cons (fnN_wk hu1 .nil) rfl (WkA.cons (intOf_wk hu2) rfl WkA.nil))) 20) (WkS.none _) (l_lex_run_2_run n m _ _ x h)
    · unfold l_lex_run_2_K at h
      split at h
      · exact absurd rfl hne
      · obtain ⟨u0, hu0, h⟩ := Option.bind_eq_some_iff.1 h
        simp only [Option.some.injEq] at h
        subst h
        exact ⟨0, _, _, by decide, WkA.env (WkA.cons (intOf_wk hu0) rfl WkA.nil) 20, (WkS.none _), rfl, rfl, rfl⟩
      · cases h
theorem l_lex_run_2_ok (n : Nat) : LoopOk Tryd.prog (sp_lex_run n) 0 20 code_l_lex_run_2 := by
    intro R key E sg K r hk h
    rw [show Go.Eng.keyOf code_l_lex_run_2 = some 2 from by kernel_rfl] at hk
    cases hk
    have h : l_lex_run_2_S n R E sg K = some r := h
    unfold l_lex_run_2_S at h
    obtain ⟨u0, hu0, h⟩ := Option.bind_eq_some_iff.1 h
    obtain ⟨u1, hu1, h⟩ := Option.bind_eq_some_iff.1 h
    obtain ⟨u2, hu2, h⟩ := Option.bind_eq_some_iff.1 h
    obtain ⟨x, hx, h⟩ := Option.bind_eq_some_iff.1 h
    refine (SemL.pre (k := 0) (by decide) (WkA.env (WkA.cons (strOf_wk hu0) rfl (WkA.cons (fnN_wk hu1 .nil) rfl (WkA.cons (intOf_wk hu2) rfl WkA.nil))) 20) (WkS.none _) (l_lex_run_2_run n n _ _ x hx)).mono ?_
    intro ex e s hq
    obtain ⟨rfl, rfl, rfl⟩ := hq
    exact ⟨_, rfl, h⟩
def K_lex_run (v : V) (s : Sig) : Option (Int) := Option.bind (V.intOf .i64 v) fun u0 => some u0
theorem K_lex_run_wk {v : V} {s : Sig} {r : Int} (h : K_lex_run v s = some r) : Wk v (enc_lex_run r) ∧ WkS 0 s (encS_lex_run r) := by
  unfold K_lex_run at h
  obtain ⟨u0, hu0, h⟩ := Option.bind_eq_some_iff.1 h
  simp only [Option.some.injEq] at h
  subst h
  exact ⟨(intOf_wk hu0), (WkS.none _)⟩
theorem m_lex_run_eq (n : Nat) (a0 : ByteArray) : mF Tryd.prog (sp_lex_run n) 37 [(V.t (T.sc (.string a0))), (V.fn 38 [])] [] K_lex_run = m_lex_run n a0 := by kernel_rfl
theorem m_lex_run_ok (n : Nat) : ok_lex_run (m_lex_run n) := fun a0 r h => mF_ok sound (sp_lex_run_ok n) code_lex_run_fn code_lex_run_body (forall_getD (d := .skip) 1 (by kernel_rfl) (fun i hi => match i, hi with | 0, _ => l_lex_run_2_ok n | i + 1, hi => absurd hi (by omega))) (no_scope (by kernel_rfl)) ((m_lex_run_eq n a0).trans h) (fun v s hk => ⟨(K_lex_run_wk hk).1, rfl, (K_lex_run_wk hk).2⟩)


/-! suture/lex.letter -/
def m_lex_letter (n : Nat) (a0 : Int) : Option (Bool) :=
some (bif (decide ((a0 : Int) ≥ 97)) then (decide ((a0 : Int) ≤ 122)) else false)
def enc_lex_letter (r : Bool) : V := (V.t (T.sc (.bool r)))
def encS_lex_letter (r : Bool) : Sig := []
def ok_lex_letter (m : Int → Option (Bool)) : Prop := ∀ (a0 : Int) (r : Bool), m a0 = some r → FuncOk Tryd.prog 39 [(V.t (T.sc (.int .u8 a0)))] [] (enc_lex_letter r) (encS_lex_letter r)
def c_lex_letter (m : Int → Option (Bool)) (vs : List V) (sg : Sig) : Option CallM := bif Nat.beq vs.length 1 && Nat.beq sg.length 0 then Option.bind (V.intOf .u8 (vs.getD 0 .any)) fun u0 => some { α := Bool, m := m u0, dflt := false, enc := fun y => ((V.t (T.sc (.bool y))), []) } else none
theorem c_lex_letter_ok (m : Int → Option (Bool)) (hm : ok_lex_letter m) (vs : List V) (sg : Sig) (cm : CallM) (x : cm.α) (h : c_lex_letter m vs sg = some cm) (hx : cm.m = some x) : FuncOk Tryd.prog 39 vs sg (cm.enc x).1 (cm.enc x).2 := by
  unfold c_lex_letter at h
  have h0 := callee_sig h
  clear h
  obtain ⟨hl, hs, h⟩ := h0
  obtain ⟨u0, hu0, h⟩ := Option.bind_eq_some_iff.1 h
  simp only [Option.some.injEq] at h
  subst h
  exact (hm u0 x hx).wk (args_wk hl (.cons (intOf_wk hu0) .nil)) (wkSg_of hs .nil)
noncomputable def code_lex_letter : Code := Tryd.f39.body.getD .skip
noncomputable def sp_lex_letter (n : Nat) : Go.Eng.Spec := ⟨fun f vs sg => (match f with
    | _ => none), fun R key E sg K => (match key with
    | _ => none)⟩
theorem sp_lex_letter_ok (n : Nat) : CallsOk Tryd.prog (sp_lex_letter n) := by
  intro f vs sg cm x h hx
  have h : (none : Option CallM) = some cm := h
  cases h
theorem code_lex_letter_fn : Tryd.prog.funcs[39]? = some Tryd.f39 := Tryd.func39
theorem code_lex_letter_body : Tryd.f39.body = some code_lex_letter := by kernel_rfl
theorem code_lex_letter_ok : CodeOk Tryd.prog code_lex_letter := (sound 39 _ _ code_lex_letter_fn code_lex_letter_body).1
def K_lex_letter (v : V) (s : Sig) : Option (Bool) := Option.bind (V.boolOf v) fun u0 => some u0
theorem K_lex_letter_wk {v : V} {s : Sig} {r : Bool} (h : K_lex_letter v s = some r) : Wk v (enc_lex_letter r) ∧ WkS 0 s (encS_lex_letter r) := by
  unfold K_lex_letter at h
  obtain ⟨u0, hu0, h⟩ := Option.bind_eq_some_iff.1 h
  simp only [Option.some.injEq] at h
  subst h
  exact ⟨(boolOf_wk hu0), (WkS.none _)⟩
theorem m_lex_letter_eq (n : Nat) (a0 : Int) : mF Tryd.prog (sp_lex_letter n) 39 [(V.t (T.sc (.int .u8 a0)))] [] K_lex_letter = m_lex_letter n a0 := by kernel_rfl
theorem m_lex_letter_ok (n : Nat) : ok_lex_letter (m_lex_letter n) := fun a0 r h => mF_ok sound (sp_lex_letter_ok n) code_lex_letter_fn code_lex_letter_body (fun a ha => absurd ha (by rw [show loopsOf code_lex_letter = [] from by kernel_rfl]; simp)) (no_scope (by kernel_rfl)) ((m_lex_letter_eq n a0).trans h) (fun v s hk => ⟨(K_lex_letter_wk hk).1, rfl, (K_lex_letter_wk hk).2⟩)


/-! suture/lex.digit -/
def m_lex_digit (n : Nat) (a0 : Int) : Option (Bool) :=
some (bif (decide ((a0 : Int) ≥ 48)) then (decide ((a0 : Int) ≤ 57)) else false)
def enc_lex_digit (r : Bool) : V := (V.t (T.sc (.bool r)))
def encS_lex_digit (r : Bool) : Sig := []
def ok_lex_digit (m : Int → Option (Bool)) : Prop := ∀ (a0 : Int) (r : Bool), m a0 = some r → FuncOk Tryd.prog 40 [(V.t (T.sc (.int .u8 a0)))] [] (enc_lex_digit r) (encS_lex_digit r)
def c_lex_digit (m : Int → Option (Bool)) (vs : List V) (sg : Sig) : Option CallM := bif Nat.beq vs.length 1 && Nat.beq sg.length 0 then Option.bind (V.intOf .u8 (vs.getD 0 .any)) fun u0 => some { α := Bool, m := m u0, dflt := false, enc := fun y => ((V.t (T.sc (.bool y))), []) } else none
theorem c_lex_digit_ok (m : Int → Option (Bool)) (hm : ok_lex_digit m) (vs : List V) (sg : Sig) (cm : CallM) (x : cm.α) (h : c_lex_digit m vs sg = some cm) (hx : cm.m = some x) : FuncOk Tryd.prog 40 vs sg (cm.enc x).1 (cm.enc x).2 := by
  unfold c_lex_digit at h
  have h0 := callee_sig h
  clear h
  obtain ⟨hl, hs, h⟩ := h0
  obtain ⟨u0, hu0, h⟩ := Option.bind_eq_some_iff.1 h
  simp only [Option.some.injEq] at h
  subst h
  exact (hm u0 x hx).wk (args_wk hl (.cons (intOf_wk hu0) .nil)) (wkSg_of hs .nil)
noncomputable def code_lex_digit : Code := Tryd.f40.body.getD .skip
noncomputable def sp_lex_digit (n : Nat) : Go.Eng.Spec := ⟨fun f vs sg => (match f with
    | _ => none), fun R key E sg K => (match key with
    | _ => none)⟩
theorem sp_lex_digit_ok (n : Nat) : CallsOk Tryd.prog (sp_lex_digit n) := by
  intro f vs sg cm x h hx
  have h : (none : Option CallM) = some cm := h
  cases h
theorem code_lex_digit_fn : Tryd.prog.funcs[40]? = some Tryd.f40 := Tryd.func40
theorem code_lex_digit_body : Tryd.f40.body = some code_lex_digit := by kernel_rfl
theorem code_lex_digit_ok : CodeOk Tryd.prog code_lex_digit := (sound 40 _ _ code_lex_digit_fn code_lex_digit_body).1
def K_lex_digit (v : V) (s : Sig) : Option (Bool) := Option.bind (V.boolOf v) fun u0 => some u0
theorem K_lex_digit_wk {v : V} {s : Sig} {r : Bool} (h : K_lex_digit v s = some r) : Wk v (enc_lex_digit r) ∧ WkS 0 s (encS_lex_digit r) := by
  unfold K_lex_digit at h
  obtain ⟨u0, hu0, h⟩ := Option.bind_eq_some_iff.1 h
  simp only [Option.some.injEq] at h
  subst h
  exact ⟨(boolOf_wk hu0), (WkS.none _)⟩
theorem m_lex_digit_eq (n : Nat) (a0 : Int) : mF Tryd.prog (sp_lex_digit n) 40 [(V.t (T.sc (.int .u8 a0)))] [] K_lex_digit = m_lex_digit n a0 := by kernel_rfl
theorem m_lex_digit_ok (n : Nat) : ok_lex_digit (m_lex_digit n) := fun a0 r h => mF_ok sound (sp_lex_digit_ok n) code_lex_digit_fn code_lex_digit_body (fun a ha => absurd ha (by rw [show loopsOf code_lex_digit = [] from by kernel_rfl]; simp)) (no_scope (by kernel_rfl)) ((m_lex_digit_eq n a0).trans h) (fun v s hk => ⟨(K_lex_digit_wk hk).1, rfl, (K_lex_digit_wk hk).2⟩)


/-! internal/stringslite.HasPrefix -/
def m_internal_stringslite_HasPrefix (n : Nat) (a0 : ByteArray) (a1 : ByteArray) : Option (Bool) :=
must ((decide ((((ByteArray.size a0 : Nat) : Int) : Int) ≥ ((ByteArray.size a1 : Nat) : Int)))) (decide (0 ≤ 0) && decide (0 ≤ ((ByteArray.size a1 : Nat) : Int)) && decide (((ByteArray.size a1 : Nat) : Int) ≤ ((ByteArray.size a0 : Nat) : Int))) (some (bif (decide ((((ByteArray.size a0 : Nat) : Int) : Int) ≥ ((ByteArray.size a1 : Nat) : Int))) then (ByteArray.toList (ByteArray.extract a0 (Int.toNat 0) (Int.toNat ((ByteArray.size a1 : Nat) : Int))) == ByteArray.toList a1) else false))
def enc_internal_stringslite_HasPrefix (r : Bool) : V := (V.t (T.sc (.bool r)))
def encS_internal_stringslite_HasPrefix (r : Bool) : Sig := []
def ok_internal_stringslite_HasPrefix (m : ByteArray → ByteArray → Option (Bool)) : Prop := ∀ (a0 : ByteArray) (a1 : ByteArray) (r : Bool), m a0 a1 = some r → FuncOk Tryd.prog 56 [(V.t (T.sc (.string a0))), (V.t (T.sc (.string a1)))] [] (enc_internal_stringslite_HasPrefix r) (encS_internal_stringslite_HasPrefix r)
def c_internal_stringslite_HasPrefix (m : ByteArray → ByteArray → Option (Bool)) (vs : List V) (sg : Sig) : Option CallM := bif Nat.beq vs.length 2 && Nat.beq sg.length 0 then Option.bind (V.strOf (vs.getD 0 .any)) fun u0 => Option.bind (V.strOf (vs.getD 1 .any)) fun u1 => some { α := Bool, m := m u0 u1, dflt := false, enc := fun y => ((V.t (T.sc (.bool y))), []) } else none
theorem c_internal_stringslite_HasPrefix_ok (m : ByteArray → ByteArray → Option (Bool)) (hm : ok_internal_stringslite_HasPrefix m) (vs : List V) (sg : Sig) (cm : CallM) (x : cm.α) (h : c_internal_stringslite_HasPrefix m vs sg = some cm) (hx : cm.m = some x) : FuncOk Tryd.prog 56 vs sg (cm.enc x).1 (cm.enc x).2 := by
  unfold c_internal_stringslite_HasPrefix at h
  have h0 := callee_sig h
  clear h
  obtain ⟨hl, hs, h⟩ := h0
  obtain ⟨u0, hu0, h⟩ := Option.bind_eq_some_iff.1 h
  obtain ⟨u1, hu1, h⟩ := Option.bind_eq_some_iff.1 h
  simp only [Option.some.injEq] at h
  subst h
  exact (hm u0 u1 x hx).wk (args_wk hl (.cons (strOf_wk hu0) (.cons (strOf_wk hu1) .nil))) (wkSg_of hs .nil)
noncomputable def code_internal_stringslite_HasPrefix : Code := Tryd.f56.body.getD .skip
noncomputable def sp_internal_stringslite_HasPrefix (n : Nat) : Go.Eng.Spec := ⟨fun f vs sg => (match f with
    | _ => none), fun R key E sg K => (match key with
    | _ => none)⟩
theorem sp_internal_stringslite_HasPrefix_ok (n : Nat) : CallsOk Tryd.prog (sp_internal_stringslite_HasPrefix n) := by
  intro f vs sg cm x h hx
  have h : (none : Option CallM) = some cm := h
  cases h
theorem code_internal_stringslite_HasPrefix_fn : Tryd.prog.funcs[56]? = some Tryd.f56 := Tryd.func56
theorem code_internal_stringslite_HasPrefix_body : Tryd.f56.body = some code_internal_stringslite_HasPrefix := by kernel_rfl
theorem code_internal_stringslite_HasPrefix_ok : CodeOk Tryd.prog code_internal_stringslite_HasPrefix := (sound 56 _ _ code_internal_stringslite_HasPrefix_fn code_internal_stringslite_HasPrefix_body).1
def K_internal_stringslite_HasPrefix (v : V) (s : Sig) : Option (Bool) := Option.bind (V.boolOf v) fun u0 => some u0
theorem K_internal_stringslite_HasPrefix_wk {v : V} {s : Sig} {r : Bool} (h : K_internal_stringslite_HasPrefix v s = some r) : Wk v (enc_internal_stringslite_HasPrefix r) ∧ WkS 0 s (encS_internal_stringslite_HasPrefix r) := by
  unfold K_internal_stringslite_HasPrefix at h
  obtain ⟨u0, hu0, h⟩ := Option.bind_eq_some_iff.1 h
  simp only [Option.some.injEq] at h
  subst h
  exact ⟨(boolOf_wk hu0), (WkS.none _)⟩
theorem m_internal_stringslite_HasPrefix_eq (n : Nat) (a0 : ByteArray) (a1 : ByteArray) : mF Tryd.prog (sp_internal_stringslite_HasPrefix n) 56 [(V.t (T.sc (.string a0))), (V.t (T.sc (.string a1)))] [] K_internal_stringslite_HasPrefix = m_internal_stringslite_HasPrefix n a0 a1 := by kernel_rfl
theorem m_internal_stringslite_HasPrefix_ok (n : Nat) : ok_internal_stringslite_HasPrefix (m_internal_stringslite_HasPrefix n) := fun a0 a1 r h => mF_ok sound (sp_internal_stringslite_HasPrefix_ok n) code_internal_stringslite_HasPrefix_fn code_internal_stringslite_HasPrefix_body (fun a ha => absurd ha (by rw [show loopsOf code_internal_stringslite_HasPrefix = [] from by kernel_rfl]; simp)) (no_scope (by kernel_rfl)) ((m_internal_stringslite_HasPrefix_eq n a0 a1).trans h) (fun v s hk => ⟨(K_internal_stringslite_HasPrefix_wk hk).1, rfl, (K_internal_stringslite_HasPrefix_wk hk).2⟩)


/-! strings.HasPrefix -/
def m_strings_HasPrefix (n : Nat) (a0 : ByteArray) (a1 : ByteArray) : Option (Bool) :=
Option.bind (m_internal_stringslite_HasPrefix n a0 a1) fun r0 =>
some r0
def enc_strings_HasPrefix (r : Bool) : V := (V.t (T.sc (.bool r)))
def encS_strings_HasPrefix (r : Bool) : Sig := []
def ok_strings_HasPrefix (m : ByteArray → ByteArray → Option (Bool)) : Prop := ∀ (a0 : ByteArray) (a1 : ByteArray) (r : Bool), m a0 a1 = some r → FuncOk Tryd.prog 41 [(V.t (T.sc (.string a0))), (V.t (T.sc (.string a1)))] [] (enc_strings_HasPrefix r) (encS_strings_HasPrefix r)
def c_strings_HasPrefix (m : ByteArray → ByteArray → Option (Bool)) (vs : List V) (sg : Sig) : Option CallM := bif Nat.beq vs.length 2 && Nat.beq sg.length 0 then Option.bind (V.strOf (vs.getD 0 .any)) fun u0 => Option.bind (V.strOf (vs.getD 1 .any)) fun u1 => some { α := Bool, m := m u0 u1, dflt := false, enc := fun y => ((V.t (T.sc (.bool y))), []) } else none
theorem c_strings_HasPrefix_ok (m : ByteArray → ByteArray → Option (Bool)) (hm : ok_strings_HasPrefix m) (vs : List V) (sg : Sig) (cm : CallM) (x : cm.α) (h : c_strings_HasPrefix m vs sg = some cm) (hx : cm.m = some x) : FuncOk Tryd.prog 41 vs sg (cm.enc x).1 (cm.enc x).2 := by
  unfold c_strings_HasPrefix at h
  have h0 := callee_sig h
  clear h
  obtain ⟨hl, hs, h⟩ := h0
  obtain ⟨u0, hu0, h⟩ := Option.bind_eq_some_iff.1 h
  obtain ⟨u1, hu1, h⟩ := Option.bind_eq_some_iff.1 h
  simp only [Option.some.injEq] at h
  subst h
  exact (hm u0 u1 x hx).wk (args_wk hl (.cons (strOf_wk hu0) (.cons (strOf_wk hu1) .nil))) (wkSg_of hs .nil)
noncomputable def code_strings_HasPrefix : Code := Tryd.f41.body.getD .skip
noncomputable def sp_strings_HasPrefix (n : Nat) : Go.Eng.Spec := ⟨fun f vs sg => (match f with
    | 56 => c_internal_stringslite_HasPrefix (m_internal_stringslite_HasPrefix n) vs sg
    | _ => none), fun R key E sg K => (match key with
    | _ => none)⟩
theorem sp_strings_HasPrefix_ok (n : Nat) : CallsOk Tryd.prog (sp_strings_HasPrefix n) := by
  intro f vs sg cm x h hx
  simp only [sp_strings_HasPrefix] at h
  split at h
  · exact c_internal_stringslite_HasPrefix_ok _ (m_internal_stringslite_HasPrefix_ok n) vs sg cm x h hx
  · cases h
theorem code_strings_HasPrefix_fn : Tryd.prog.funcs[41]? = some Tryd.f41 := Tryd.func41
theorem code_strings_HasPrefix_body : Tryd.f41.body = some code_strings_HasPrefix := by kernel_rfl
theorem code_strings_HasPrefix_ok : CodeOk Tryd.prog code_strings_HasPrefix := (sound 41 _ _ code_strings_HasPrefix_fn code_strings_HasPrefix_body).1
def K_strings_HasPrefix (v : V) (s : Sig) : Option (Bool) := Option.bind (V.boolOf v) fun u0 => some u0
theorem K_strings_HasPrefix_wk {v : V} {s : Sig} {r : Bool} (h : K_strings_HasPrefix v s = some r) : Wk v (enc_strings_HasPrefix r) ∧ WkS 0 s (encS_strings_HasPrefix r) := by
  unfold K_strings_HasPrefix at h
  obtain ⟨u0, hu0, h⟩ := Option.bind_eq_some_iff.1 h
  simp only [Option.some.injEq] at h
  subst h
  exact ⟨(boolOf_wk hu0), (WkS.none _)⟩
theorem m_strings_HasPrefix_eq (n : Nat) (a0 : ByteArray) (a1 : ByteArray) : mF Tryd.prog (sp_strings_HasPrefix n) 41 [(V.t (T.sc (.string a0))), (V.t (T.sc (.string a1)))] [] K_strings_HasPrefix = m_strings_HasPrefix n a0 a1 := by kernel_rfl
theorem m_strings_HasPrefix_ok (n : Nat) : ok_strings_HasPrefix (m_strings_HasPrefix n) := fun a0 a1 r h => mF_ok sound (sp_strings_HasPrefix_ok n) code_strings_HasPrefix_fn code_strings_HasPrefix_body (fun a ha => absurd ha (by rw [show loopsOf code_strings_HasPrefix = [] from by kernel_rfl]; simp)) (no_scope (by kernel_rfl)) ((m_strings_HasPrefix_eq n a0 a1).trans h) (fun v s hk => ⟨(K_strings_HasPrefix_wk hk).1, rfl, (K_strings_HasPrefix_wk hk).2⟩)


/-! strings.IndexByte: from elsewhere -/
def m_strings_IndexByte (n : Nat) (a0 : ByteArray) (a1 : Int) : Option (Int) := indexM a0 a1
def enc_strings_IndexByte (r : Int) : V := (V.t (T.sc (.int .i64 r)))
def encS_strings_IndexByte (r : Int) : Sig := []
def ok_strings_IndexByte (m : ByteArray → Int → Option (Int)) : Prop := ∀ (a0 : ByteArray) (a1 : Int) (r : Int), m a0 a1 = some r → FuncOk Tryd.prog 42 [(V.t (T.sc (.string a0))), (V.t (T.sc (.int .u8 a1)))] [] (enc_strings_IndexByte r) (encS_strings_IndexByte r)
def c_strings_IndexByte (m : ByteArray → Int → Option (Int)) (vs : List V) (sg : Sig) : Option CallM := bif Nat.beq vs.length 2 && Nat.beq sg.length 0 then Option.bind (V.strOf (vs.getD 0 .any)) fun u0 => Option.bind (V.intOf .u8 (vs.getD 1 .any)) fun u1 => some { α := Int, m := m u0 u1, dflt := 0, enc := fun y => ((V.t (T.sc (.int .i64 y))), []) } else none
theorem c_strings_IndexByte_ok (m : ByteArray → Int → Option (Int)) (hm : ok_strings_IndexByte m) (vs : List V) (sg : Sig) (cm : CallM) (x : cm.α) (h : c_strings_IndexByte m vs sg = some cm) (hx : cm.m = some x) : FuncOk Tryd.prog 42 vs sg (cm.enc x).1 (cm.enc x).2 := by
  unfold c_strings_IndexByte at h
  have h0 := callee_sig h
  clear h
  obtain ⟨hl, hs, h⟩ := h0
  obtain ⟨u0, hu0, h⟩ := Option.bind_eq_some_iff.1 h
  obtain ⟨u1, hu1, h⟩ := Option.bind_eq_some_iff.1 h
  simp only [Option.some.injEq] at h
  subst h
  exact (hm u0 u1 x hx).wk (args_wk hl (.cons (strOf_wk hu0) (.cons (intOf_wk hu1) .nil))) (wkSg_of hs .nil)
theorem m_strings_IndexByte_ok (n : Nat) : ok_strings_IndexByte (m_strings_IndexByte n) := fun a0 a1 r h => x_strings_IndexByte h


/-! slices.Clip[[]suture/lex.Token,suture/lex.Token] -/
def m_slices_Clip___lex_Token_lex_Token_ (n : Nat) (a0 : List T) : Option ((List T)) :=
must true (decide (0 ≤ 0) && decide (0 ≤ ((List.length a0 : Nat) : Int)) && decide (((List.length a0 : Nat) : Int) ≤ ((List.length a0 : Nat) : Int)) && sized 4 a0) (must true (decide (((List.length a0 : Nat) : Int) = ((List.length a0 : Nat) : Int))) (some (List.drop (Int.toNat 0) (List.take (Int.toNat ((List.length a0 : Nat) : Int)) a0))))
def enc_slices_Clip___lex_Token_lex_Token_ (r : (List T)) : V := (V.own 4 r)
def encS_slices_Clip___lex_Token_lex_Token_ (r : (List T)) : Sig := []
def ok_slices_Clip___lex_Token_lex_Token_ (m : List T → Option ((List T))) : Prop := ∀ (a0 : List T) (r : (List T)), m a0 = some r → FuncOk Tryd.prog 46 [(V.t (T.list a0))] [] (enc_slices_Clip___lex_Token_lex_Token_ r) (encS_slices_Clip___lex_Token_lex_Token_ r)
def c_slices_Clip___lex_Token_lex_Token_ (m : List T → Option ((List T))) (vs : List V) (sg : Sig) : Option CallM := bif Nat.beq vs.length 1 && Nat.beq sg.length 0 then Option.bind (V.lstOf (vs.getD 0 .any)) fun u0 => some { α := (List T), m := m u0, dflt := [], enc := fun y => ((V.own 4 y), []) } else none
theorem c_slices_Clip___lex_Token_lex_Token__ok (m : List T → Option ((List T))) (hm : ok_slices_Clip___lex_Token_lex_Token_ m) (vs : List V) (sg : Sig) (cm : CallM) (x : cm.α) (h : c_slices_Clip___lex_Token_lex_Token_ m vs sg = some cm) (hx : cm.m = some x) : FuncOk Tryd.prog 46 vs sg (cm.enc x).1 (cm.enc x).2 := by
  unfold c_slices_Clip___lex_Token_lex_Token_ at h
  have h0 := callee_sig h
  clear h
  obtain ⟨hl, hs, h⟩ := h0
  obtain ⟨u0, hu0, h⟩ := Option.bind_eq_some_iff.1 h
  simp only [Option.some.injEq] at h
  subst h
  exact (hm u0 x hx).wk (args_wk hl (.cons (lstOf_wk hu0) .nil)) (wkSg_of hs .nil)
noncomputable def code_slices_Clip___lex_Token_lex_Token_ : Code := Tryd.f46.body.getD .skip
noncomputable def sp_slices_Clip___lex_Token_lex_Token_ (n : Nat) : Go.Eng.Spec := ⟨fun f vs sg => (match f with
    | _ => none), fun R key E sg K => (match key with
    | _ => none)⟩
theorem sp_slices_Clip___lex_Token_lex_Token__ok (n : Nat) : CallsOk Tryd.prog (sp_slices_Clip___lex_Token_lex_Token_ n) := by
  intro f vs sg cm x h hx
  have h : (none : Option CallM) = some cm := h
  cases h
theorem code_slices_Clip___lex_Token_lex_Token__fn : Tryd.prog.funcs[46]? = some Tryd.f46 := Tryd.func46
theorem code_slices_Clip___lex_Token_lex_Token__body : Tryd.f46.body = some code_slices_Clip___lex_Token_lex_Token_ := by kernel_rfl
theorem code_slices_Clip___lex_Token_lex_Token__ok : CodeOk Tryd.prog code_slices_Clip___lex_Token_lex_Token_ := (sound 46 _ _ code_slices_Clip___lex_Token_lex_Token__fn code_slices_Clip___lex_Token_lex_Token__body).1
def K_slices_Clip___lex_Token_lex_Token_ (v : V) (s : Sig) : Option ((List T)) := Option.bind (V.ownOf 4 v) fun u0 => some u0
theorem K_slices_Clip___lex_Token_lex_Token__wk {v : V} {s : Sig} {r : (List T)} (h : K_slices_Clip___lex_Token_lex_Token_ v s = some r) : Wk v (enc_slices_Clip___lex_Token_lex_Token_ r) ∧ WkS 0 s (encS_slices_Clip___lex_Token_lex_Token_ r) := by
  unfold K_slices_Clip___lex_Token_lex_Token_ at h
  obtain ⟨u0, hu0, h⟩ := Option.bind_eq_some_iff.1 h
  simp only [Option.some.injEq] at h
  subst h
  exact ⟨(ownOf_wk hu0), (WkS.none _)⟩
theorem m_slices_Clip___lex_Token_lex_Token__eq (n : Nat) (a0 : List T) : mF Tryd.prog (sp_slices_Clip___lex_Token_lex_Token_ n) 46 [(V.t (T.list a0))] [] K_slices_Clip___lex_Token_lex_Token_ = m_slices_Clip___lex_Token_lex_Token_ n a0 := by kernel_rfl
theorem m_slices_Clip___lex_Token_lex_Token__ok (n : Nat) : ok_slices_Clip___lex_Token_lex_Token_ (m_slices_Clip___lex_Token_lex_Token_ n) := fun a0 r h => mF_ok sound (sp_slices_Clip___lex_Token_lex_Token__ok n) code_slices_Clip___lex_Token_lex_Token__fn code_slices_Clip___lex_Token_lex_Token__body (fun a ha => absurd ha (by rw [show loopsOf code_slices_Clip___lex_Token_lex_Token_ = [] from by kernel_rfl]; simp)) (no_scope (by kernel_rfl)) ((m_slices_Clip___lex_Token_lex_Token__eq n a0).trans h) (fun v s hk => ⟨(K_slices_Clip___lex_Token_lex_Token__wk hk).1, rfl, (K_slices_Clip___lex_Token_lex_Token__wk hk).2⟩)


/-! suture/lex.Tokens$2 -/
def m_lex_Tokens_2 (n : Nat) (a0 : Int) : Option (Bool) :=
some ((a0 : Int) != 10)
def enc_lex_Tokens_2 (r : Bool) : V := (V.t (T.sc (.bool r)))
def encS_lex_Tokens_2 (r : Bool) : Sig := []
def ok_lex_Tokens_2 (m : Int → Option (Bool)) : Prop := ∀ (a0 : Int) (r : Bool), m a0 = some r → FuncOk Tryd.prog 43 [(V.t (T.sc (.int .u8 a0)))] [] (enc_lex_Tokens_2 r) (encS_lex_Tokens_2 r)
def c_lex_Tokens_2 (m : Int → Option (Bool)) (vs : List V) (sg : Sig) : Option CallM := bif Nat.beq vs.length 1 && Nat.beq sg.length 0 then Option.bind (V.intOf .u8 (vs.getD 0 .any)) fun u0 => some { α := Bool, m := m u0, dflt := false, enc := fun y => ((V.t (T.sc (.bool y))), []) } else none
theorem c_lex_Tokens_2_ok (m : Int → Option (Bool)) (hm : ok_lex_Tokens_2 m) (vs : List V) (sg : Sig) (cm : CallM) (x : cm.α) (h : c_lex_Tokens_2 m vs sg = some cm) (hx : cm.m = some x) : FuncOk Tryd.prog 43 vs sg (cm.enc x).1 (cm.enc x).2 := by
  unfold c_lex_Tokens_2 at h
  have h0 := callee_sig h
  clear h
  obtain ⟨hl, hs, h⟩ := h0
  obtain ⟨u0, hu0, h⟩ := Option.bind_eq_some_iff.1 h
  simp only [Option.some.injEq] at h
  subst h
  exact (hm u0 x hx).wk (args_wk hl (.cons (intOf_wk hu0) .nil)) (wkSg_of hs .nil)
noncomputable def code_lex_Tokens_2 : Code := Tryd.f43.body.getD .skip
noncomputable def sp_lex_Tokens_2 (n : Nat) : Go.Eng.Spec := ⟨fun f vs sg => (match f with
    | _ => none), fun R key E sg K => (match key with
    | _ => none)⟩
theorem sp_lex_Tokens_2_ok (n : Nat) : CallsOk Tryd.prog (sp_lex_Tokens_2 n) := by
  intro f vs sg cm x h hx
  have h : (none : Option CallM) = some cm := h
  cases h
theorem code_lex_Tokens_2_fn : Tryd.prog.funcs[43]? = some Tryd.f43 := Tryd.func43
theorem code_lex_Tokens_2_body : Tryd.f43.body = some code_lex_Tokens_2 := by kernel_rfl
theorem code_lex_Tokens_2_ok : CodeOk Tryd.prog code_lex_Tokens_2 := (sound 43 _ _ code_lex_Tokens_2_fn code_lex_Tokens_2_body).1
def K_lex_Tokens_2 (v : V) (s : Sig) : Option (Bool) := Option.bind (V.boolOf v) fun u0 => some u0
theorem K_lex_Tokens_2_wk {v : V} {s : Sig} {r : Bool} (h : K_lex_Tokens_2 v s = some r) : Wk v (enc_lex_Tokens_2 r) ∧ WkS 0 s (encS_lex_Tokens_2 r) := by
  unfold K_lex_Tokens_2 at h
  obtain ⟨u0, hu0, h⟩ := Option.bind_eq_some_iff.1 h
  simp only [Option.some.injEq] at h
  subst h
  exact ⟨(boolOf_wk hu0), (WkS.none _)⟩
theorem m_lex_Tokens_2_eq (n : Nat) (a0 : Int) : mF Tryd.prog (sp_lex_Tokens_2 n) 43 [(V.t (T.sc (.int .u8 a0)))] [] K_lex_Tokens_2 = m_lex_Tokens_2 n a0 := by kernel_rfl
theorem m_lex_Tokens_2_ok (n : Nat) : ok_lex_Tokens_2 (m_lex_Tokens_2 n) := fun a0 r h => mF_ok sound (sp_lex_Tokens_2_ok n) code_lex_Tokens_2_fn code_lex_Tokens_2_body (fun a ha => absurd ha (by rw [show loopsOf code_lex_Tokens_2 = [] from by kernel_rfl]; simp)) (no_scope (by kernel_rfl)) ((m_lex_Tokens_2_eq n a0).trans h) (fun v s hk => ⟨(K_lex_Tokens_2_wk hk).1, rfl, (K_lex_Tokens_2_wk hk).2⟩)


/-! suture/lex.run -/
def l_lex_run_v2_2_B (n : Nat) (k : ByteArray × Int → Option (Int)) : ByteArray × Int → Option (Int) := fun (s0, s1) =>
Option.bind (bidx ((decide ((s1 : Int) < ((ByteArray.size s0 : Nat) : Int)))) s0 s1) fun b0 =>
Option.bind (bif (decide ((s1 : Int) < ((ByteArray.size s0 : Nat) : Int))) then m_lex_Tokens_2 n ((UInt8.toNat b0 : Nat) : Int) else some false) fun r1 =>
bif (bif (decide ((s1 : Int) < ((ByteArray.size s0 : Nat) : Int))) then r1 else false) then (
k (s0, (IntKind.wrap .i64 (s1 + 1))))
else (
some s1)
def l_lex_run_v2_2 (n : Nat) : Nat → ByteArray × Int → Option (Int)
  | 0, _ => none
  | m + 1, s => l_lex_run_v2_2_B n (l_lex_run_v2_2 n m) s
def m_lex_run_v2 (n : Nat) (a0 : ByteArray) : Option (Int) :=
Option.bind (l_lex_run_v2_2 n n (a0, 0)) fun p3 =>
some p3
def enc_lex_run_v2 (r : Int) : V := (V.t (T.sc (.int .i64 r)))
def encS_lex_run_v2 (r : Int) : Sig := []
def ok_lex_run_v2 (m : ByteArray → Option (Int)) : Prop := ∀ (a0 : ByteArray) (r : Int), m a0 = some r → FuncOk Tryd.prog 37 [(V.t (T.sc (.string a0))), (V.fn 43 [])] [] (enc_lex_run_v2 r) (encS_lex_run_v2 r)
def c_lex_run_v2 (m : ByteArray → Option (Int)) (vs : List V) (sg : Sig) : Option CallM := bif Nat.beq vs.length 2 && Nat.beq sg.length 0 then Option.bind (V.strOf (vs.getD 0 .any)) fun u0 => Option.bind (V.fnN 43 0 (vs.getD 1 .any)) fun u1 => some { α := Int, m := m u0, dflt := 0, enc := fun y => ((V.t (T.sc (.int .i64 y))), []) } else none
theorem c_lex_run_v2_ok (m : ByteArray → Option (Int)) (hm : ok_lex_run_v2 m) (vs : List V) (sg : Sig) (cm : CallM) (x : cm.α) (h : c_lex_run_v2 m vs sg = some cm) (hx : cm.m = some x) : FuncOk Tryd.prog 37 vs sg (cm.enc x).1 (cm.enc x).2 := by
  unfold c_lex_run_v2 at h
  have h0 := callee_sig h
  clear h
  obtain ⟨hl, hs, h⟩ := h0
  obtain ⟨u0, hu0, h⟩ := Option.bind_eq_some_iff.1 h
  obtain ⟨u1, hu1, h⟩ := Option.bind_eq_some_iff.1 h
  simp only [Option.some.injEq] at h
  subst h
  exact (hm u0 x hx).wk (args_wk hl (.cons (strOf_wk hu0) (.cons (fnN_wk hu1 .nil) .nil))) (wkSg_of hs .nil)
noncomputable def code_lex_run_v2 : Code := Tryd.f37.body.getD .skip
def l_lex_run_v2_2_S (n : Nat) (R : Type) (E : SEnv) (sg : Sig) (K : Ex → SEnv → Sig → Option R) : Option R := Option.bind (V.strOf (SEnv.at E 0)) fun u0 => Option.bind (V.fnN 43 0 (SEnv.at E 1)) fun u1 => Option.bind (V.intOf .i64 (SEnv.at E 5)) fun u2 => Option.bind (l_lex_run_v2_2 n n (u0, u2)) fun p0 => K (.exit 0) [(5, (V.t (T.sc (.int .i64 p0))))] []
noncomputable def sp_lex_run_v2 (n : Nat) : Go.Eng.Spec := ⟨fun f vs sg => (match f with
    | 43 => c_lex_Tokens_2 (m_lex_Tokens_2 n) vs sg
    | _ => none), fun R key E sg K => (match key with
    | 2 => l_lex_run_v2_2_S n R E sg K
    | _ => none)⟩
theorem sp_lex_run_v2_ok (n : Nat) : CallsOk Tryd.prog (sp_lex_run_v2 n) := by
  intro f vs sg cm x h hx
  simp only [sp_lex_run_v2] at h
  split at h
  · exact c_lex_Tokens_2_ok _ (m_lex_Tokens_2_ok n) vs sg cm x h hx
  · cases h
theorem code_lex_run_v2_fn : Tryd.prog.funcs[37]? = some Tryd.f37 := Tryd.func37
theorem code_lex_run_v2_body : Tryd.f37.body = some code_lex_run_v2 := by kernel_rfl
theorem code_lex_run_v2_ok : CodeOk Tryd.prog code_lex_run_v2 := (sound 37 _ _ code_lex_run_v2_fn code_lex_run_v2_body).1
noncomputable def code_l_lex_run_v2_2 : Code := (loopsOf code_lex_run_v2).getD 0 .skip
theorem code_l_lex_run_v2_2_ok : CodeOk Tryd.prog code_l_lex_run_v2_2 := codeOk_loops code_lex_run_v2_ok _ (getD_mem (by kernel_rfl))
def l_lex_run_v2_2_K (k : ByteArray × Int → Option (Int)) : Ex → SEnv → Sig → Option (Int) := fun x E sg => match x with
  | .normal => Option.bind (V.strOf (SEnv.at E 0)) fun u0 => Option.bind (V.fnN 43 0 (SEnv.at E 1)) fun u1 => Option.bind (V.intOf .i64 (SEnv.at E 5)) fun u2 => k (u0, u2)
  | (.exit 0) => Option.bind (V.intOf .i64 (SEnv.at E 5)) fun u0 => some u0
  | _ => none
theorem l_lex_run_v2_2_eq (n : Nat) (k : ByteArray × Int → Option (Int)) (s0 : ByteArray) (s1 : Int) : mX Tryd.prog (sp_lex_run_v2 n) 20 code_l_lex_run_v2_2 [(0, (V.t (T.sc (.string s0)))), (1, (V.fn 43 [])), (5, (V.t (T.sc (.int .i64 s1))))] [] (l_lex_run_v2_2_K k) = l_lex_run_v2_2_B n k (s0, s1) := by kernel_rfl
def l_lex_run_v2_2_Q (x : Int) (ex : Ex) (e : Env) (s : Sig) : Prop := (fun p0 => (ex = (.exit 0) ∧ e = SEnv.env 20 [(5, (V.t (T.sc (.int .i64 p0))))] ∧ s = [])) x
theorem l_lex_run_v2_2_run (n : Nat) : ∀ (m : Nat) (s0 : ByteArray) (s1 : Int) (x : Int), l_lex_run_v2_2 n m (s0, s1) = some x → SemL Tryd.prog 0 code_l_lex_run_v2_2 (SEnv.env 20 [(0, (V.t (T.sc (.string s0)))), (1, (V.fn 43 [])), (5, (V.t (T.sc (.int .i64 s1))))]) [] (l_lex_run_v2_2_Q x)
  | 0, s0, s1, x, h => by cases h
  | m + 1, s0, s1, x, h => by
    refine loop_step (sp_lex_run_v2_ok n) code_l_lex_run_v2_2_ok (fun a ha => absurd ha (by rw [show loopsOf code_l_lex_run_v2_2 = [] from by kernel_rfl]; simp)) (no_scope (by kernel_rfl)) ((l_lex_run_v2_2_eq n _ s0 s1).trans h) (fun E sg h => ?_) (fun ex E sg hne h => ?_)
    · simp only [l_lex_run_v2_2_K] at h
      obtain ⟨u0, hu0, h⟩ := Option.bind_eq_some_iff.1 h
      obtain ⟨u1, hu1, h⟩ := Option.bind_eq_some_iff.1 h
      obtain ⟨u2, hu2, h⟩ := Option.bind_eq_some_iff.1 h
      exact SemL.pre (k := 0) (by decide) (WkA.env (WkA.cons (strOf_wk hu0) rfl (WkA.cons (fnN_wk hu1 .nil) rfl (WkA.cons (intOf_wk hu2) rfl WkA.nil))) 20) (WkS.none _) (l_lex_run_v2_2_run n m _ _ x h)
    · unfold l_lex_run_v2_2_K at h
      split at h
      · exact absurd rfl hne
      · obtain ⟨u0, hu0, h⟩ := Option.bind_eq_some_iff.1 h
        simp only [Option.some.injEq] at h
        subst h
        exact ⟨0, _, _, by decide, WkA.env (WkA.cons (intOf_wk hu0) rfl WkA.nil) 20, (WkS.none _), rfl, rfl, rfl⟩
      · cases h
theorem l_lex_run_v2_2_ok (n : Nat) : LoopOk Tryd.prog (sp_lex_run_v2 n) 0 20 code_l_lex_run_v2_2 := by
    intro R key E sg K r hk h
    rw [show Go.Eng.keyOf code_l_lex_run_v2_2 = some 2 from by kernel_rfl] at hk
    cases hk
    have h : l_lex_run_v2_2_S n R E sg K = some r := h
    unfold l_lex_run_v2_2_S at h
    obtain ⟨u0, hu0, h⟩ := Option.bind_eq_some_iff.1 h
    obtain ⟨u1, hu1, h⟩ := Option.bind_eq_some_iff.1 h
    obtain ⟨u2, hu2, h⟩ := Option.bind_eq_some_iff.1 h
    obtain ⟨x, hx, h⟩ := Option.bind_eq_some_iff.1 h
    refine (SemL.pre (k := 0) (by decide) (WkA.env (WkA.cons (strOf_wk hu0) rfl (WkA.cons (fnN_wk hu1 .nil) rfl (WkA.cons (intOf_wk hu2) rfl WkA.nil))) 20) (WkS.none _) (l_lex_run_v2_2_run n n _ _ x hx)).mono ?_
    intro ex e s hq
    obtain ⟨rfl, rfl, rfl⟩ := hq
    exact ⟨_, rfl, h⟩
def K_lex_run_v2 (v : V) (s : Sig) : Option (Int) := Option.bind (V.intOf .i64 v) fun u0 => some u0
theorem K_lex_run_v2_wk {v : V} {s : Sig} {r : Int} (h : K_lex_run_v2 v s = some r) : Wk v (enc_lex_run_v2 r) ∧ WkS 0 s (encS_lex_run_v2 r) := by
  unfold K_lex_run_v2 at h
  obtain ⟨u0, hu0, h⟩ := Option.bind_eq_some_iff.1 h
  simp only [Option.some.injEq] at h
  subst h
  exact ⟨(intOf_wk hu0), (WkS.none _)⟩
theorem m_lex_run_v2_eq (n : Nat) (a0 : ByteArray) : mF Tryd.prog (sp_lex_run_v2 n) 37 [(V.t (T.sc (.string a0))), (V.fn 43 [])] [] K_lex_run_v2 = m_lex_run_v2 n a0 := by kernel_rfl
theorem m_lex_run_v2_ok (n : Nat) : ok_lex_run_v2 (m_lex_run_v2 n) := fun a0 r h => mF_ok sound (sp_lex_run_v2_ok n) code_lex_run_v2_fn code_lex_run_v2_body (forall_getD (d := .skip) 1 (by kernel_rfl) (fun i hi => match i, hi with | 0, _ => l_lex_run_v2_2_ok n | i + 1, hi => absurd hi (by omega))) (no_scope (by kernel_rfl)) ((m_lex_run_v2_eq n a0).trans h) (fun v s hk => ⟨(K_lex_run_v2_wk hk).1, rfl, (K_lex_run_v2_wk hk).2⟩)


/-! suture/lex.word$1 -/
def m_lex_word_1 (n : Nat) (a0 : Int) : Option (Bool) :=
Option.bind (m_lex_letter n a0) fun r0 =>
Option.bind (bif !r0 then m_lex_digit n a0 else some false) fun r1 =>
some (bif r0 then true else r1)
def enc_lex_word_1 (r : Bool) : V := (V.t (T.sc (.bool r)))
def encS_lex_word_1 (r : Bool) : Sig := []
def ok_lex_word_1 (m : Int → Option (Bool)) : Prop := ∀ (a0 : Int) (r : Bool), m a0 = some r → FuncOk Tryd.prog 58 [(V.t (T.sc (.int .u8 a0)))] [] (enc_lex_word_1 r) (encS_lex_word_1 r)
def c_lex_word_1 (m : Int → Option (Bool)) (vs : List V) (sg : Sig) : Option CallM := bif Nat.beq vs.length 1 && Nat.beq sg.length 0 then Option.bind (V.intOf .u8 (vs.getD 0 .any)) fun u0 => some { α := Bool, m := m u0, dflt := false, enc := fun y => ((V.t (T.sc (.bool y))), []) } else none
theorem c_lex_word_1_ok (m : Int → Option (Bool)) (hm : ok_lex_word_1 m) (vs : List V) (sg : Sig) (cm : CallM) (x : cm.α) (h : c_lex_word_1 m vs sg = some cm) (hx : cm.m = some x) : FuncOk Tryd.prog 58 vs sg (cm.enc x).1 (cm.enc x).2 := by
  unfold c_lex_word_1 at h
  have h0 := callee_sig h
  clear h
  obtain ⟨hl, hs, h⟩ := h0
  obtain ⟨u0, hu0, h⟩ := Option.bind_eq_some_iff.1 h
  simp only [Option.some.injEq] at h
  subst h
  exact (hm u0 x hx).wk (args_wk hl (.cons (intOf_wk hu0) .nil)) (wkSg_of hs .nil)
noncomputable def code_lex_word_1 : Code := Tryd.f58.body.getD .skip
noncomputable def sp_lex_word_1 (n : Nat) : Go.Eng.Spec := ⟨fun f vs sg => (match f with
    | 39 => c_lex_letter (m_lex_letter n) vs sg
    | 40 => c_lex_digit (m_lex_digit n) vs sg
    | _ => none), fun R key E sg K => (match key with
    | _ => none)⟩
theorem sp_lex_word_1_ok (n : Nat) : CallsOk Tryd.prog (sp_lex_word_1 n) := by
  intro f vs sg cm x h hx
  simp only [sp_lex_word_1] at h
  split at h
  · exact c_lex_letter_ok _ (m_lex_letter_ok n) vs sg cm x h hx
  · exact c_lex_digit_ok _ (m_lex_digit_ok n) vs sg cm x h hx
  · cases h
theorem code_lex_word_1_fn : Tryd.prog.funcs[58]? = some Tryd.f58 := Tryd.func58
theorem code_lex_word_1_body : Tryd.f58.body = some code_lex_word_1 := by kernel_rfl
theorem code_lex_word_1_ok : CodeOk Tryd.prog code_lex_word_1 := (sound 58 _ _ code_lex_word_1_fn code_lex_word_1_body).1
def K_lex_word_1 (v : V) (s : Sig) : Option (Bool) := Option.bind (V.boolOf v) fun u0 => some u0
theorem K_lex_word_1_wk {v : V} {s : Sig} {r : Bool} (h : K_lex_word_1 v s = some r) : Wk v (enc_lex_word_1 r) ∧ WkS 0 s (encS_lex_word_1 r) := by
  unfold K_lex_word_1 at h
  obtain ⟨u0, hu0, h⟩ := Option.bind_eq_some_iff.1 h
  simp only [Option.some.injEq] at h
  subst h
  exact ⟨(boolOf_wk hu0), (WkS.none _)⟩
theorem m_lex_word_1_eq (n : Nat) (a0 : Int) : mF Tryd.prog (sp_lex_word_1 n) 58 [(V.t (T.sc (.int .u8 a0)))] [] K_lex_word_1 = m_lex_word_1 n a0 := by kernel_rfl
theorem m_lex_word_1_ok (n : Nat) : ok_lex_word_1 (m_lex_word_1 n) := fun a0 r h => mF_ok sound (sp_lex_word_1_ok n) code_lex_word_1_fn code_lex_word_1_body (fun a ha => absurd ha (by rw [show loopsOf code_lex_word_1 = [] from by kernel_rfl]; simp)) (no_scope (by kernel_rfl)) ((m_lex_word_1_eq n a0).trans h) (fun v s hk => ⟨(K_lex_word_1_wk hk).1, rfl, (K_lex_word_1_wk hk).2⟩)


/-! suture/lex.run -/
def l_lex_run_v3_2_B (n : Nat) (k : ByteArray × Int → Option (Int)) : ByteArray × Int → Option (Int) := fun (s0, s1) =>
Option.bind (bidx ((decide ((s1 : Int) < ((ByteArray.size s0 : Nat) : Int)))) s0 s1) fun b0 =>
Option.bind (bif (decide ((s1 : Int) < ((ByteArray.size s0 : Nat) : Int))) then m_lex_word_1 n ((UInt8.toNat b0 : Nat) : Int) else some false) fun r1 =>
bif (bif (decide ((s1 : Int) < ((ByteArray.size s0 : Nat) : Int))) then r1 else false) then (
k (s0, (IntKind.wrap .i64 (s1 + 1))))
else (
some s1)
def l_lex_run_v3_2 (n : Nat) : Nat → ByteArray × Int → Option (Int)
  | 0, _ => none
  | m + 1, s => l_lex_run_v3_2_B n (l_lex_run_v3_2 n m) s
def m_lex_run_v3 (n : Nat) (a0 : ByteArray) : Option (Int) :=
Option.bind (l_lex_run_v3_2 n n (a0, 0)) fun p3 =>
some p3
def enc_lex_run_v3 (r : Int) : V := (V.t (T.sc (.int .i64 r)))
def encS_lex_run_v3 (r : Int) : Sig := []
def ok_lex_run_v3 (m : ByteArray → Option (Int)) : Prop := ∀ (a0 : ByteArray) (r : Int), m a0 = some r → FuncOk Tryd.prog 37 [(V.t (T.sc (.string a0))), (V.fn 58 [])] [] (enc_lex_run_v3 r) (encS_lex_run_v3 r)
def c_lex_run_v3 (m : ByteArray → Option (Int)) (vs : List V) (sg : Sig) : Option CallM := bif Nat.beq vs.length 2 && Nat.beq sg.length 0 then Option.bind (V.strOf (vs.getD 0 .any)) fun u0 => Option.bind (V.fnN 58 0 (vs.getD 1 .any)) fun u1 => some { α := Int, m := m u0, dflt := 0, enc := fun y => ((V.t (T.sc (.int .i64 y))), []) } else none
theorem c_lex_run_v3_ok (m : ByteArray → Option (Int)) (hm : ok_lex_run_v3 m) (vs : List V) (sg : Sig) (cm : CallM) (x : cm.α) (h : c_lex_run_v3 m vs sg = some cm) (hx : cm.m = some x) : FuncOk Tryd.prog 37 vs sg (cm.enc x).1 (cm.enc x).2 := by
  unfold c_lex_run_v3 at h
  have h0 := callee_sig h
  clear h
  obtain ⟨hl, hs, h⟩ := h0
  obtain ⟨u0, hu0, h⟩ := Option.bind_eq_some_iff.1 h
  obtain ⟨u1, hu1, h⟩ := Option.bind_eq_some_iff.1 h
  simp only [Option.some.injEq] at h
  subst h
  exact (hm u0 x hx).wk (args_wk hl (.cons (strOf_wk hu0) (.cons (fnN_wk hu1 .nil) .nil))) (wkSg_of hs .nil)
noncomputable def code_lex_run_v3 : Code := Tryd.f37.body.getD .skip
def l_lex_run_v3_2_S (n : Nat) (R : Type) (E : SEnv) (sg : Sig) (K : Ex → SEnv → Sig → Option R) : Option R := Option.bind (V.strOf (SEnv.at E 0)) fun u0 => Option.bind (V.fnN 58 0 (SEnv.at E 1)) fun u1 => Option.bind (V.intOf .i64 (SEnv.at E 5)) fun u2 => Option.bind (l_lex_run_v3_2 n n (u0, u2)) fun p0 => K (.exit 0) [(5, (V.t (T.sc (.int .i64 p0))))] []
noncomputable def sp_lex_run_v3 (n : Nat) : Go.Eng.Spec := ⟨fun f vs sg => (match f with
    | 58 => c_lex_word_1 (m_lex_word_1 n) vs sg
    | _ => none), fun R key E sg K => (match key with
    | 2 => l_lex_run_v3_2_S n R E sg K
    | _ => none)⟩
theorem sp_lex_run_v3_ok (n : Nat) : CallsOk Tryd.prog (sp_lex_run_v3 n) := by
  intro f vs sg cm x h hx
  simp only [sp_lex_run_v3] at h
  split at h
  · exact c_lex_word_1_ok _ (m_lex_word_1_ok n) vs sg cm x h hx
  · cases h
theorem code_lex_run_v3_fn : Tryd.prog.funcs[37]? = some Tryd.f37 := Tryd.func37
theorem code_lex_run_v3_body : Tryd.f37.body = some code_lex_run_v3 := by kernel_rfl
theorem code_lex_run_v3_ok : CodeOk Tryd.prog code_lex_run_v3 := (sound 37 _ _ code_lex_run_v3_fn code_lex_run_v3_body).1
noncomputable def code_l_lex_run_v3_2 : Code := (loopsOf code_lex_run_v3).getD 0 .skip
theorem code_l_lex_run_v3_2_ok : CodeOk Tryd.prog code_l_lex_run_v3_2 := codeOk_loops code_lex_run_v3_ok _ (getD_mem (by kernel_rfl))
def l_lex_run_v3_2_K (k : ByteArray × Int → Option (Int)) : Ex → SEnv → Sig → Option (Int) := fun x E sg => match x with
  | .normal => Option.bind (V.strOf (SEnv.at E 0)) fun u0 => Option.bind (V.fnN 58 0 (SEnv.at E 1)) fun u1 => Option.bind (V.intOf .i64 (SEnv.at E 5)) fun u2 => k (u0, u2)
  | (.exit 0) => Option.bind (V.intOf .i64 (SEnv.at E 5)) fun u0 => some u0
  | _ => none
theorem l_lex_run_v3_2_eq (n : Nat) (k : ByteArray × Int → Option (Int)) (s0 : ByteArray) (s1 : Int) : mX Tryd.prog (sp_lex_run_v3 n) 20 code_l_lex_run_v3_2 [(0, (V.t (T.sc (.string s0)))), (1, (V.fn 58 [])), (5, (V.t (T.sc (.int .i64 s1))))] [] (l_lex_run_v3_2_K k) = l_lex_run_v3_2_B n k (s0, s1) := by kernel_rfl
def l_lex_run_v3_2_Q (x : Int) (ex : Ex) (e : Env) (s : Sig) : Prop := (fun p0 => (ex = (.exit 0) ∧ e = SEnv.env 20 [(5, (V.t (T.sc (.int .i64 p0))))] ∧ s = [])) x
theorem l_lex_run_v3_2_run (n : Nat) : ∀ (m : Nat) (s0 : ByteArray) (s1 : Int) (x : Int), l_lex_run_v3_2 n m (s0, s1) = some x → SemL Tryd.prog 0 code_l_lex_run_v3_2 (SEnv.env 20 [(0, (V.t (T.sc (.string s0)))), (1, (V.fn 58 [])), (5, (V.t (T.sc (.int .i64 s1))))]) [] (l_lex_run_v3_2_Q x)
  | 0, s0, s1, x, h => by cases h
  | m + 1, s0, s1, x, h => by
    refine loop_step (sp_lex_run_v3_ok n) code_l_lex_run_v3_2_ok (fun a ha => absurd ha (by rw [show loopsOf code_l_lex_run_v3_2 = [] from by kernel_rfl]; simp)) (no_scope (by kernel_rfl)) ((l_lex_run_v3_2_eq n _ s0 s1).trans h) (fun E sg h => ?_) (fun ex E sg hne h => ?_)
    · simp only [l_lex_run_v3_2_K] at h
      obtain ⟨u0, hu0, h⟩ := Option.bind_eq_some_iff.1 h
      obtain ⟨u1, hu1, h⟩ := Option.bind_eq_some_iff.1 h
      obtain ⟨u2, hu2, h⟩ := Option.bind_eq_some_iff.1 h
      exact SemL.pre (k := 0) (by decide) (WkA.env (WkA.cons (strOf_wk hu0) rfl (WkA.cons (fnN_wk hu1 .nil) rfl (WkA.cons (intOf_wk hu2) rfl WkA.nil))) 20) (WkS.none _) (l_lex_run_v3_2_run n m _ _ x h)
    · unfold l_lex_run_v3_2_K at h
      split at h
      · exact absurd rfl hne
      · obtain ⟨u0, hu0, h⟩ := Option.bind_eq_some_iff.1 h
        simp only [Option.some.injEq] at h
        subst h
        exact ⟨0, _, _, by decide, WkA.env (WkA.cons (intOf_wk hu0) rfl WkA.nil) 20, (WkS.none _), rfl, rfl, rfl⟩
      · cases h
theorem l_lex_run_v3_2_ok (n : Nat) : LoopOk Tryd.prog (sp_lex_run_v3 n) 0 20 code_l_lex_run_v3_2 := by
    intro R key E sg K r hk h
    rw [show Go.Eng.keyOf code_l_lex_run_v3_2 = some 2 from by kernel_rfl] at hk
    cases hk
    have h : l_lex_run_v3_2_S n R E sg K = some r := h
    unfold l_lex_run_v3_2_S at h
    obtain ⟨u0, hu0, h⟩ := Option.bind_eq_some_iff.1 h
    obtain ⟨u1, hu1, h⟩ := Option.bind_eq_some_iff.1 h
    obtain ⟨u2, hu2, h⟩ := Option.bind_eq_some_iff.1 h
    obtain ⟨x, hx, h⟩ := Option.bind_eq_some_iff.1 h
    refine (SemL.pre (k := 0) (by decide) (WkA.env (WkA.cons (strOf_wk hu0) rfl (WkA.cons (fnN_wk hu1 .nil) rfl (WkA.cons (intOf_wk hu2) rfl WkA.nil))) 20) (WkS.none _) (l_lex_run_v3_2_run n n _ _ x hx)).mono ?_
    intro ex e s hq
    obtain ⟨rfl, rfl, rfl⟩ := hq
    exact ⟨_, rfl, h⟩
def K_lex_run_v3 (v : V) (s : Sig) : Option (Int) := Option.bind (V.intOf .i64 v) fun u0 => some u0
theorem K_lex_run_v3_wk {v : V} {s : Sig} {r : Int} (h : K_lex_run_v3 v s = some r) : Wk v (enc_lex_run_v3 r) ∧ WkS 0 s (encS_lex_run_v3 r) := by
  unfold K_lex_run_v3 at h
  obtain ⟨u0, hu0, h⟩ := Option.bind_eq_some_iff.1 h
  simp only [Option.some.injEq] at h
  subst h
  exact ⟨(intOf_wk hu0), (WkS.none _)⟩
theorem m_lex_run_v3_eq (n : Nat) (a0 : ByteArray) : mF Tryd.prog (sp_lex_run_v3 n) 37 [(V.t (T.sc (.string a0))), (V.fn 58 [])] [] K_lex_run_v3 = m_lex_run_v3 n a0 := by kernel_rfl
theorem m_lex_run_v3_ok (n : Nat) : ok_lex_run_v3 (m_lex_run_v3 n) := fun a0 r h => mF_ok sound (sp_lex_run_v3_ok n) code_lex_run_v3_fn code_lex_run_v3_body (forall_getD (d := .skip) 1 (by kernel_rfl) (fun i hi => match i, hi with | 0, _ => l_lex_run_v3_2_ok n | i + 1, hi => absurd hi (by omega))) (no_scope (by kernel_rfl)) ((m_lex_run_v3_eq n a0).trans h) (fun v s hk => ⟨(K_lex_run_v3_wk hk).1, rfl, (K_lex_run_v3_wk hk).2⟩)


/-! suture/lex.word -/
def m_lex_word (n : Nat) (a0 : ByteArray) : Option (Int) :=
Option.bind (bidx (!(ByteArray.toList a0 == ByteArray.toList (⟨#[]⟩ : ByteArray))) a0 0) fun b0 =>
Option.bind (bif !(ByteArray.toList a0 == ByteArray.toList (⟨#[]⟩ : ByteArray)) then m_lex_letter n ((UInt8.toNat b0 : Nat) : Int) else some false) fun r1 =>
bif (bif (ByteArray.toList a0 == ByteArray.toList (⟨#[]⟩ : ByteArray)) then true else (!r1)) then (
some 0)
else (
Option.bind (m_lex_run_v3 n a0) fun r2 =>
bif (decide ((r2 : Int) > 12)) then (
some 0)
else (
some r2))
def enc_lex_word (r : Int) : V := (V.t (T.sc (.int .i64 r)))
def encS_lex_word (r : Int) : Sig := []
def ok_lex_word (m : ByteArray → Option (Int)) : Prop := ∀ (a0 : ByteArray) (r : Int), m a0 = some r → FuncOk Tryd.prog 44 [(V.t (T.sc (.string a0)))] [] (enc_lex_word r) (encS_lex_word r)
def c_lex_word (m : ByteArray → Option (Int)) (vs : List V) (sg : Sig) : Option CallM := bif Nat.beq vs.length 1 && Nat.beq sg.length 0 then Option.bind (V.strOf (vs.getD 0 .any)) fun u0 => some { α := Int, m := m u0, dflt := 0, enc := fun y => ((V.t (T.sc (.int .i64 y))), []) } else none
theorem c_lex_word_ok (m : ByteArray → Option (Int)) (hm : ok_lex_word m) (vs : List V) (sg : Sig) (cm : CallM) (x : cm.α) (h : c_lex_word m vs sg = some cm) (hx : cm.m = some x) : FuncOk Tryd.prog 44 vs sg (cm.enc x).1 (cm.enc x).2 := by
  unfold c_lex_word at h
  have h0 := callee_sig h
  clear h
  obtain ⟨hl, hs, h⟩ := h0
  obtain ⟨u0, hu0, h⟩ := Option.bind_eq_some_iff.1 h
  simp only [Option.some.injEq] at h
  subst h
  exact (hm u0 x hx).wk (args_wk hl (.cons (strOf_wk hu0) .nil)) (wkSg_of hs .nil)
noncomputable def code_lex_word : Code := Tryd.f44.body.getD .skip
noncomputable def sp_lex_word (n : Nat) : Go.Eng.Spec := ⟨fun f vs sg => (match f with
    | 39 => c_lex_letter (m_lex_letter n) vs sg
    | 37 => c_lex_run_v3 (m_lex_run_v3 n) vs sg
    | _ => none), fun R key E sg K => (match key with
    | _ => none)⟩
theorem sp_lex_word_ok (n : Nat) : CallsOk Tryd.prog (sp_lex_word n) := by
  intro f vs sg cm x h hx
  simp only [sp_lex_word] at h
  split at h
  · exact c_lex_letter_ok _ (m_lex_letter_ok n) vs sg cm x h hx
  · exact c_lex_run_v3_ok _ (m_lex_run_v3_ok n) vs sg cm x h hx
  · cases h
theorem code_lex_word_fn : Tryd.prog.funcs[44]? = some Tryd.f44 := Tryd.func44
theorem code_lex_word_body : Tryd.f44.body = some code_lex_word := by kernel_rfl
theorem code_lex_word_ok : CodeOk Tryd.prog code_lex_word := (sound 44 _ _ code_lex_word_fn code_lex_word_body).1
def K_lex_word (v : V) (s : Sig) : Option (Int) := Option.bind (V.intOf .i64 v) fun u0 => some u0
theorem K_lex_word_wk {v : V} {s : Sig} {r : Int} (h : K_lex_word v s = some r) : Wk v (enc_lex_word r) ∧ WkS 0 s (encS_lex_word r) := by
  unfold K_lex_word at h
  obtain ⟨u0, hu0, h⟩ := Option.bind_eq_some_iff.1 h
  simp only [Option.some.injEq] at h
  subst h
  exact ⟨(intOf_wk hu0), (WkS.none _)⟩
theorem m_lex_word_eq (n : Nat) (a0 : ByteArray) : mF Tryd.prog (sp_lex_word n) 44 [(V.t (T.sc (.string a0)))] [] K_lex_word = m_lex_word n a0 := by kernel_rfl
theorem m_lex_word_ok (n : Nat) : ok_lex_word (m_lex_word n) := fun a0 r h => mF_ok sound (sp_lex_word_ok n) code_lex_word_fn code_lex_word_body (fun a ha => absurd ha (by rw [show loopsOf code_lex_word = [] from by kernel_rfl]; simp)) (no_scope (by kernel_rfl)) ((m_lex_word_eq n a0).trans h) (fun v s hk => ⟨(K_lex_word_wk hk).1, rfl, (K_lex_word_wk hk).2⟩)


/-! suture/lex.run -/
def l_lex_run_v4_2_B (n : Nat) (k : ByteArray × Int → Option (Int)) : ByteArray × Int → Option (Int) := fun (s0, s1) =>
Option.bind (bidx ((decide ((s1 : Int) < ((ByteArray.size s0 : Nat) : Int)))) s0 s1) fun b0 =>
Option.bind (bif (decide ((s1 : Int) < ((ByteArray.size s0 : Nat) : Int))) then m_lex_digit n ((UInt8.toNat b0 : Nat) : Int) else some false) fun r1 =>
bif (bif (decide ((s1 : Int) < ((ByteArray.size s0 : Nat) : Int))) then r1 else false) then (
k (s0, (IntKind.wrap .i64 (s1 + 1))))
else (
some s1)
def l_lex_run_v4_2 (n : Nat) : Nat → ByteArray × Int → Option (Int)
  | 0, _ => none
  | m + 1, s => l_lex_run_v4_2_B n (l_lex_run_v4_2 n m) s
def m_lex_run_v4 (n : Nat) (a0 : ByteArray) : Option (Int) :=
Option.bind (l_lex_run_v4_2 n n (a0, 0)) fun p3 =>
some p3
def enc_lex_run_v4 (r : Int) : V := (V.t (T.sc (.int .i64 r)))
def encS_lex_run_v4 (r : Int) : Sig := []
def ok_lex_run_v4 (m : ByteArray → Option (Int)) : Prop := ∀ (a0 : ByteArray) (r : Int), m a0 = some r → FuncOk Tryd.prog 37 [(V.t (T.sc (.string a0))), (V.fn 40 [])] [] (enc_lex_run_v4 r) (encS_lex_run_v4 r)
def c_lex_run_v4 (m : ByteArray → Option (Int)) (vs : List V) (sg : Sig) : Option CallM := bif Nat.beq vs.length 2 && Nat.beq sg.length 0 then Option.bind (V.strOf (vs.getD 0 .any)) fun u0 => Option.bind (V.fnN 40 0 (vs.getD 1 .any)) fun u1 => some { α := Int, m := m u0, dflt := 0, enc := fun y => ((V.t (T.sc (.int .i64 y))), []) } else none
theorem c_lex_run_v4_ok (m : ByteArray → Option (Int)) (hm : ok_lex_run_v4 m) (vs : List V) (sg : Sig) (cm : CallM) (x : cm.α) (h : c_lex_run_v4 m vs sg = some cm) (hx : cm.m = some x) : FuncOk Tryd.prog 37 vs sg (cm.enc x).1 (cm.enc x).2 := by
  unfold c_lex_run_v4 at h
  have h0 := callee_sig h
  clear h
  obtain ⟨hl, hs, h⟩ := h0
  obtain ⟨u0, hu0, h⟩ := Option.bind_eq_some_iff.1 h
  obtain ⟨u1, hu1, h⟩ := Option.bind_eq_some_iff.1 h
  simp only [Option.some.injEq] at h
  subst h
  exact (hm u0 x hx).wk (args_wk hl (.cons (strOf_wk hu0) (.cons (fnN_wk hu1 .nil) .nil))) (wkSg_of hs .nil)
noncomputable def code_lex_run_v4 : Code := Tryd.f37.body.getD .skip
def l_lex_run_v4_2_S (n : Nat) (R : Type) (E : SEnv) (sg : Sig) (K : Ex → SEnv → Sig → Option R) : Option R := Option.bind (V.strOf (SEnv.at E 0)) fun u0 => Option.bind (V.fnN 40 0 (SEnv.at E 1)) fun u1 => Option.bind (V.intOf .i64 (SEnv.at E 5)) fun u2 => Option.bind (l_lex_run_v4_2 n n (u0, u2)) fun p0 => K (.exit 0) [(5, (V.t (T.sc (.int .i64 p0))))] []
noncomputable def sp_lex_run_v4 (n : Nat) : Go.Eng.Spec := ⟨fun f vs sg => (match f with
    | 40 => c_lex_digit (m_lex_digit n) vs sg
    | _ => none), fun R key E sg K => (match key with
    | 2 => l_lex_run_v4_2_S n R E sg K
    | _ => none)⟩
theorem sp_lex_run_v4_ok (n : Nat) : CallsOk Tryd.prog (sp_lex_run_v4 n) := by
  intro f vs sg cm x h hx
  simp only [sp_lex_run_v4] at h
  split at h
  · exact c_lex_digit_ok _ (m_lex_digit_ok n) vs sg cm x h hx
  · cases h
theorem code_lex_run_v4_fn : Tryd.prog.funcs[37]? = some Tryd.f37 := Tryd.func37
theorem code_lex_run_v4_body : Tryd.f37.body = some code_lex_run_v4 := by kernel_rfl
theorem code_lex_run_v4_ok : CodeOk Tryd.prog code_lex_run_v4 := (sound 37 _ _ code_lex_run_v4_fn code_lex_run_v4_body).1
noncomputable def code_l_lex_run_v4_2 : Code := (loopsOf code_lex_run_v4).getD 0 .skip
theorem code_l_lex_run_v4_2_ok : CodeOk Tryd.prog code_l_lex_run_v4_2 := codeOk_loops code_lex_run_v4_ok _ (getD_mem (by kernel_rfl))
def l_lex_run_v4_2_K (k : ByteArray × Int → Option (Int)) : Ex → SEnv → Sig → Option (Int) := fun x E sg => match x with
  | .normal => Option.bind (V.strOf (SEnv.at E 0)) fun u0 => Option.bind (V.fnN 40 0 (SEnv.at E 1)) fun u1 => Option.bind (V.intOf .i64 (SEnv.at E 5)) fun u2 => k (u0, u2)
  | (.exit 0) => Option.bind (V.intOf .i64 (SEnv.at E 5)) fun u0 => some u0
  | _ => none
theorem l_lex_run_v4_2_eq (n : Nat) (k : ByteArray × Int → Option (Int)) (s0 : ByteArray) (s1 : Int) : mX Tryd.prog (sp_lex_run_v4 n) 20 code_l_lex_run_v4_2 [(0, (V.t (T.sc (.string s0)))), (1, (V.fn 40 [])), (5, (V.t (T.sc (.int .i64 s1))))] [] (l_lex_run_v4_2_K k) = l_lex_run_v4_2_B n k (s0, s1) := by kernel_rfl
def l_lex_run_v4_2_Q (x : Int) (ex : Ex) (e : Env) (s : Sig) : Prop := (fun p0 => (ex = (.exit 0) ∧ e = SEnv.env 20 [(5, (V.t (T.sc (.int .i64 p0))))] ∧ s = [])) x
theorem l_lex_run_v4_2_run (n : Nat) : ∀ (m : Nat) (s0 : ByteArray) (s1 : Int) (x : Int), l_lex_run_v4_2 n m (s0, s1) = some x → SemL Tryd.prog 0 code_l_lex_run_v4_2 (SEnv.env 20 [(0, (V.t (T.sc (.string s0)))), (1, (V.fn 40 [])), (5, (V.t (T.sc (.int .i64 s1))))]) [] (l_lex_run_v4_2_Q x)
  | 0, s0, s1, x, h => by cases h
  | m + 1, s0, s1, x, h => by
    refine loop_step (sp_lex_run_v4_ok n) code_l_lex_run_v4_2_ok (fun a ha => absurd ha (by rw [show loopsOf code_l_lex_run_v4_2 = [] from by kernel_rfl]; simp)) (no_scope (by kernel_rfl)) ((l_lex_run_v4_2_eq n _ s0 s1).trans h) (fun E sg h => ?_) (fun ex E sg hne h => ?_)
    · simp only [l_lex_run_v4_2_K] at h
      obtain ⟨u0, hu0, h⟩ := Option.bind_eq_some_iff.1 h
      obtain ⟨u1, hu1, h⟩ := Option.bind_eq_some_iff.1 h
      obtain ⟨u2, hu2, h⟩ := Option.bind_eq_some_iff.1 h
      exact SemL.pre (k := 0) (by decide) (WkA.env (WkA.cons (strOf_wk hu0) rfl (WkA.cons (fnN_wk hu1 .nil) rfl (WkA.cons (intOf_wk hu2) rfl WkA.nil))) 20) (WkS.none _) (l_lex_run_v4_2_run n m _ _ x h)
    · unfold l_lex_run_v4_2_K at h
      split at h
      · exact absurd rfl hne
      · obtain ⟨u0, hu0, h⟩ := Option.bind_eq_some_iff.1 h
        simp only [Option.some.injEq] at h
        subst h
        exact ⟨0, _, _, by decide, WkA.env (WkA.cons (intOf_wk hu0) rfl WkA.nil) 20, (WkS.none _), rfl, rfl, rfl⟩
      · cases h
theorem l_lex_run_v4_2_ok (n : Nat) : LoopOk Tryd.prog (sp_lex_run_v4 n) 0 20 code_l_lex_run_v4_2 := by
    intro R key E sg K r hk h
    rw [show Go.Eng.keyOf code_l_lex_run_v4_2 = some 2 from by kernel_rfl] at hk
    cases hk
    have h : l_lex_run_v4_2_S n R E sg K = some r := h
    unfold l_lex_run_v4_2_S at h
    obtain ⟨u0, hu0, h⟩ := Option.bind_eq_some_iff.1 h
    obtain ⟨u1, hu1, h⟩ := Option.bind_eq_some_iff.1 h
    obtain ⟨u2, hu2, h⟩ := Option.bind_eq_some_iff.1 h
    obtain ⟨x, hx, h⟩ := Option.bind_eq_some_iff.1 h
    refine (SemL.pre (k := 0) (by decide) (WkA.env (WkA.cons (strOf_wk hu0) rfl (WkA.cons (fnN_wk hu1 .nil) rfl (WkA.cons (intOf_wk hu2) rfl WkA.nil))) 20) (WkS.none _) (l_lex_run_v4_2_run n n _ _ x hx)).mono ?_
    intro ex e s hq
    obtain ⟨rfl, rfl, rfl⟩ := hq
    exact ⟨_, rfl, h⟩
def K_lex_run_v4 (v : V) (s : Sig) : Option (Int) := Option.bind (V.intOf .i64 v) fun u0 => some u0
theorem K_lex_run_v4_wk {v : V} {s : Sig} {r : Int} (h : K_lex_run_v4 v s = some r) : Wk v (enc_lex_run_v4 r) ∧ WkS 0 s (encS_lex_run_v4 r) := by
  unfold K_lex_run_v4 at h
  obtain ⟨u0, hu0, h⟩ := Option.bind_eq_some_iff.1 h
  simp only [Option.some.injEq] at h
  subst h
  exact ⟨(intOf_wk hu0), (WkS.none _)⟩
theorem m_lex_run_v4_eq (n : Nat) (a0 : ByteArray) : mF Tryd.prog (sp_lex_run_v4 n) 37 [(V.t (T.sc (.string a0))), (V.fn 40 [])] [] K_lex_run_v4 = m_lex_run_v4 n a0 := by kernel_rfl
theorem m_lex_run_v4_ok (n : Nat) : ok_lex_run_v4 (m_lex_run_v4 n) := fun a0 r h => mF_ok sound (sp_lex_run_v4_ok n) code_lex_run_v4_fn code_lex_run_v4_body (forall_getD (d := .skip) 1 (by kernel_rfl) (fun i hi => match i, hi with | 0, _ => l_lex_run_v4_2_ok n | i + 1, hi => absurd hi (by omega))) (no_scope (by kernel_rfl)) ((m_lex_run_v4_eq n a0).trans h) (fun v s hk => ⟨(K_lex_run_v4_wk hk).1, rfl, (K_lex_run_v4_wk hk).2⟩)


/-! strconv.Atoi: from elsewhere -/
def m_strconv_Atoi (n : Nat) (a0 : ByteArray) : Option (Int) := atoiM a0
def enc_strconv_Atoi (r : Int) : V := (V.tup [(V.t (T.sc (.int .i64 r))), V.any])
def encS_strconv_Atoi (r : Int) : Sig := []
def ok_strconv_Atoi (m : ByteArray → Option (Int)) : Prop := ∀ (a0 : ByteArray) (r : Int), m a0 = some r → FuncOk Tryd.prog 45 [(V.t (T.sc (.string a0)))] [] (enc_strconv_Atoi r) (encS_strconv_Atoi r)
def c_strconv_Atoi (m : ByteArray → Option (Int)) (vs : List V) (sg : Sig) : Option CallM := bif Nat.beq vs.length 1 && Nat.beq sg.length 0 then Option.bind (V.strOf (vs.getD 0 .any)) fun u0 => some { α := Int, m := m u0, dflt := 0, enc := fun y => ((V.tup [(V.t (T.sc (.int .i64 y))), V.any]), []) } else none
theorem c_strconv_Atoi_ok (m : ByteArray → Option (Int)) (hm : ok_strconv_Atoi m) (vs : List V) (sg : Sig) (cm : CallM) (x : cm.α) (h : c_strconv_Atoi m vs sg = some cm) (hx : cm.m = some x) : FuncOk Tryd.prog 45 vs sg (cm.enc x).1 (cm.enc x).2 := by
  unfold c_strconv_Atoi at h
  have h0 := callee_sig h
  clear h
  obtain ⟨hl, hs, h⟩ := h0
  obtain ⟨u0, hu0, h⟩ := Option.bind_eq_some_iff.1 h
  simp only [Option.some.injEq] at h
  subst h
  exact (hm u0 x hx).wk (args_wk hl (.cons (strOf_wk hu0) .nil)) (wkSg_of hs .nil)
theorem m_strconv_Atoi_ok (n : Nat) : ok_strconv_Atoi (m_strconv_Atoi n) := fun a0 r h => x_strconv_Atoi h


/-! strconv.Itoa: from elsewhere -/
def m_strconv_Itoa (n : Nat) (a0 : Int) : Option (ByteArray) := itoaM a0
def enc_strconv_Itoa (r : ByteArray) : V := (V.t (T.sc (.string r)))
def encS_strconv_Itoa (r : ByteArray) : Sig := []
def ok_strconv_Itoa (m : Int → Option (ByteArray)) : Prop := ∀ (a0 : Int) (r : ByteArray), m a0 = some r → FuncOk Tryd.prog 35 [(V.t (T.sc (.int .i64 a0)))] [] (enc_strconv_Itoa r) (encS_strconv_Itoa r)
def c_strconv_Itoa (m : Int → Option (ByteArray)) (vs : List V) (sg : Sig) : Option CallM := bif Nat.beq vs.length 1 && Nat.beq sg.length 0 then Option.bind (V.intOf .i64 (vs.getD 0 .any)) fun u0 => some { α := ByteArray, m := m u0, dflt := default, enc := fun y => ((V.t (T.sc (.string y))), []) } else none
theorem c_strconv_Itoa_ok (m : Int → Option (ByteArray)) (hm : ok_strconv_Itoa m) (vs : List V) (sg : Sig) (cm : CallM) (x : cm.α) (h : c_strconv_Itoa m vs sg = some cm) (hx : cm.m = some x) : FuncOk Tryd.prog 35 vs sg (cm.enc x).1 (cm.enc x).2 := by
  unfold c_strconv_Itoa at h
  have h0 := callee_sig h
  clear h
  obtain ⟨hl, hs, h⟩ := h0
  obtain ⟨u0, hu0, h⟩ := Option.bind_eq_some_iff.1 h
  simp only [Option.some.injEq] at h
  subst h
  exact (hm u0 x hx).wk (args_wk hl (.cons (intOf_wk hu0) .nil)) (wkSg_of hs .nil)
theorem m_strconv_Itoa_ok (n : Nat) : ok_strconv_Itoa (m_strconv_Itoa n) := fun a0 r h => x_strconv_Itoa h


end Go.Proofs.YtkolhagejiabhaaDoor.W
