/- What the engine's walk comes to, printed by a program of this work: for each function its model, and that it is one. No conditions. -/
import Derived.Test.YtpahgmebihlffaaDoorE3
namespace Go.Proofs.YtpahgmebihlffaaDoor.W
open Go Go.Eng
set_option linter.unusedVariables false
set_option linter.unusedSimpArgs false
set_option maxRecDepth 100000

/-! suture/suturelaw4.text -/
def l_suturelaw4_text_4_B (n : Nat) (k : ByteArray × (List T) × Int × Int × ByteArray × ByteArray × ByteArray × ByteArray × ByteArray × ByteArray × ByteArray × ByteArray × ByteArray × ByteArray × ByteArray × ByteArray × ByteArray × ByteArray × ByteArray × ByteArray × ByteArray × ByteArray × ByteArray × ByteArray × ByteArray × ByteArray × ByteArray × ByteArray → Option (ByteArray × ByteArray × ByteArray × ByteArray × ByteArray × ByteArray × ByteArray × ByteArray × ByteArray × ByteArray × ByteArray × ByteArray × ByteArray × ByteArray × ByteArray × ByteArray × ByteArray × ByteArray × ByteArray × ByteArray × ByteArray × ByteArray × ByteArray × ByteArray × ByteArray)) : ByteArray × (List T) × Int × Int × ByteArray × ByteArray × ByteArray × ByteArray × ByteArray × ByteArray × ByteArray × ByteArray × ByteArray × ByteArray × ByteArray × ByteArray × ByteArray × ByteArray × ByteArray × ByteArray × ByteArray × ByteArray × ByteArray × ByteArray × ByteArray × ByteArray × ByteArray × ByteArray → Option (ByteArray × ByteArray × ByteArray × ByteArray × ByteArray × ByteArray × ByteArray × ByteArray × ByteArray × ByteArray × ByteArray × ByteArray × ByteArray × ByteArray × ByteArray × ByteArray × ByteArray × ByteArray × ByteArray × ByteArray × ByteArray × ByteArray × ByteArray × ByteArray × ByteArray) := fun (s0, s1, s2, s3, s4, s5, s6, s7, s8, s9, s10, s11, s12, s13, s14, s15, s16, s17, s18, s19, s20, s21, s22, s23, s24, s25, s26, s27) =>
bif (decide ((s3 : Int) < s2)) then (
Option.bind (idx true [.int .i64] s1 s3) fun y0 =>
Option.bind (m_suturehand_Pick n (y0.cell 0).int 24) fun r1 =>
must true (decide (0 ≤ r1) && decide (r1 < ((24 : Nat) : Int))) (Option.bind (idx1 true (.str) [(T.sc (.string s4)), (T.sc (.string s5)), (T.sc (.string s6)), (T.sc (.string s7)), (T.sc (.string s8)), (T.sc (.string s9)), (T.sc (.string s10)), (T.sc (.string s11)), (T.sc (.string s12)), (T.sc (.string s13)), (T.sc (.string s14)), (T.sc (.string s15)), (T.sc (.string s16)), (T.sc (.string s17)), (T.sc (.string s18)), (T.sc (.string s19)), (T.sc (.string s20)), (T.sc (.string s21)), (T.sc (.string s22)), (T.sc (.string s23)), (T.sc (.string s24)), (T.sc (.string s25)), (T.sc (.string s26)), (T.sc (.string s27))] r1) fun y2 =>
must true (decide (((ByteArray.size s0 + ByteArray.size y2.str : Nat) : Int) ≤ IntKind.i64.max)) (must true (decide (((ByteArray.size (s0 ++ y2.str) + ByteArray.size (⟨#[32]⟩ : ByteArray) : Nat) : Int) ≤ IntKind.i64.max)) (k (((s0 ++ y2.str) ++ (⟨#[32]⟩ : ByteArray)), s1, s2, (IntKind.wrap .i64 (s3 + 1)), s4, s5, s6, s7, s8, s9, s10, s11, s12, s13, s14, s15, s16, s17, s18, s19, s20, s21, s22, s23, s24, s25, s26, s27)))))
else (
some (s0, s4, s5, s6, s7, s8, s9, s10, s11, s12, s13, s14, s15, s16, s17, s18, s19, s20, s21, s22, s23, s24, s25, s26, s27))
def l_suturelaw4_text_4 (n : Nat) : Nat → ByteArray × (List T) × Int × Int × ByteArray × ByteArray × ByteArray × ByteArray × ByteArray × ByteArray × ByteArray × ByteArray × ByteArray × ByteArray × ByteArray × ByteArray × ByteArray × ByteArray × ByteArray × ByteArray × ByteArray × ByteArray × ByteArray × ByteArray × ByteArray × ByteArray × ByteArray × ByteArray → Option (ByteArray × ByteArray × ByteArray × ByteArray × ByteArray × ByteArray × ByteArray × ByteArray × ByteArray × ByteArray × ByteArray × ByteArray × ByteArray × ByteArray × ByteArray × ByteArray × ByteArray × ByteArray × ByteArray × ByteArray × ByteArray × ByteArray × ByteArray × ByteArray × ByteArray)
  | 0, _ => none
  | m + 1, s => l_suturelaw4_text_4_B n (l_suturelaw4_text_4 n m) s
def m_suturelaw4_text (n : Nat) (a0 : List T) : Option (ByteArray) :=
Option.bind (l_suturelaw4_text_4 n n ((⟨#[]⟩ : ByteArray), a0, ((List.length a0 : Nat) : Int), 0, (⟨#[120]⟩ : ByteArray), (⟨#[121]⟩ : ByteArray), (⟨#[97]⟩ : ByteArray), (⟨#[55]⟩ : ByteArray), (⟨#[48]⟩ : ByteArray), (⟨#[49, 50]⟩ : ByteArray), (⟨#[43]⟩ : ByteArray), (⟨#[45]⟩ : ByteArray), (⟨#[42]⟩ : ByteArray), (⟨#[47]⟩ : ByteArray), (⟨#[37]⟩ : ByteArray), (⟨#[60]⟩ : ByteArray), (⟨#[61, 61]⟩ : ByteArray), (⟨#[40]⟩ : ByteArray), (⟨#[41]⟩ : ByteArray), (⟨#[120]⟩ : ByteArray), (⟨#[51]⟩ : ByteArray), (⟨#[45]⟩ : ByteArray), (⟨#[40]⟩ : ByteArray), (⟨#[41]⟩ : ByteArray), (⟨#[103, 111]⟩ : ByteArray), (⟨#[61]⟩ : ByteArray), (⟨#[123]⟩ : ByteArray), (⟨#[57]⟩ : ByteArray))) fun p4 =>
some p4.1
def enc_suturelaw4_text (r : ByteArray) : V := (V.t (T.sc (.string r)))
def encS_suturelaw4_text (r : ByteArray) : Sig := []
def ok_suturelaw4_text (m : List T → Option (ByteArray)) : Prop := ∀ (a0 : List T) (r : ByteArray), m a0 = some r → FuncOk Tryd.prog 11 [(V.t (T.list a0))] [] (enc_suturelaw4_text r) (encS_suturelaw4_text r)
def c_suturelaw4_text (m : List T → Option (ByteArray)) (vs : List V) (sg : Sig) : Option CallM := bif Nat.beq vs.length 1 && Nat.beq sg.length 0 then Option.bind (V.lstOf (vs.getD 0 .any)) fun u0 => some { α := ByteArray, m := m u0, dflt := default, enc := fun y => ((V.t (T.sc (.string y))), []) } else none
theorem c_suturelaw4_text_ok (m : List T → Option (ByteArray)) (hm : ok_suturelaw4_text m) (vs : List V) (sg : Sig) (cm : CallM) (x : cm.α) (h : c_suturelaw4_text m vs sg = some cm) (hx : cm.m = some x) : FuncOk Tryd.prog 11 vs sg (cm.enc x).1 (cm.enc x).2 := by
  unfold c_suturelaw4_text at h
  have h0 := callee_sig h
  clear h
  obtain ⟨hl, hs, h⟩ := h0
  obtain ⟨u0, hu0, h⟩ := Option.bind_eq_some_iff.1 h
  simp only [Option.some.injEq] at h
  subst h
  exact (hm u0 x hx).wk (args_wk hl (.cons (lstOf_wk hu0) .nil)) (wkSg_of hs .nil)
noncomputable def code_suturelaw4_text : Code := Tryd.f11.body.getD .skip
def l_suturelaw4_text_4_S (n : Nat) (R : Type) (E : SEnv) (sg : Sig) (K : Ex → SEnv → Sig → Option R) : Option R := Option.bind (V.ptrOf 0 0 (SEnv.at E 3)) fun u0 => Option.bind (V.strOf (SEnv.at E 4)) fun u1 => Option.bind (V.lstOf (SEnv.at E 8)) fun u2 => Option.bind (V.intOf .i64 (SEnv.at E 9)) fun u3 => Option.bind (V.intOf .i64 (SEnv.at E 10)) fun u4 => Option.bind (cellsN 24 sg 0) fun u5 => Option.bind (V.strOf (u5.getD 0 .any)) fun u6 => Option.bind (V.strOf (u5.getD 1 .any)) fun u7 => Option.bind (V.strOf (u5.getD 2 .any)) fun u8 => Option.bind (V.strOf (u5.getD 3 .any)) fun u9 => Option.bind (V.strOf (u5.getD 4 .any)) fun u10 => Option.bind (V.strOf (u5.getD 5 .any)) fun u11 => Option.bind (V.strOf (u5.getD 6 .any)) fun u12 => Option.bind (V.strOf (u5.getD 7 .any)) fun u13 => Option.bind (V.strOf (u5.getD 8 .any)) fun u14 => Option.bind (V.strOf (u5.getD 9 .any)) fun u15 => Option.bind (V.strOf (u5.getD 10 .any)) fun u16 => Option.bind (V.strOf (u5.getD 11 .any)) fun u17 => Option.bind (V.strOf (u5.getD 12 .any)) fun u18 => Option.bind (V.strOf (u5.getD 13 .any)) fun u19 => Option.bind (V.strOf (u5.getD 14 .any)) fun u20 => Option.bind (V.strOf (u5.getD 15 .any)) fun u21 => Option.bind (V.strOf (u5.getD 16 .any)) fun u22 => Option.bind (V.strOf (u5.getD 17 .any)) fun u23 => Option.bind (V.strOf (u5.getD 18 .any)) fun u24 => Option.bind (V.strOf (u5.getD 19 .any)) fun u25 => Option.bind (V.strOf (u5.getD 20 .any)) fun u26 => Option.bind (V.strOf (u5.getD 21 .any)) fun u27 => Option.bind (V.strOf (u5.getD 22 .any)) fun u28 => Option.bind (V.strOf (u5.getD 23 .any)) fun u29 => Option.bind (l_suturelaw4_text_4 n n (u1, u2, u3, u4, u6, u7, u8, u9, u10, u11, u12, u13, u14, u15, u16, u17, u18, u19, u20, u21, u22, u23, u24, u25, u26, u27, u28, u29)) fun p0 => K (.exit 0) [(4, (V.t (T.sc (.string p0.1))))] [some [(V.t (T.sc (.string p0.2.1))), (V.t (T.sc (.string p0.2.2.1))), (V.t (T.sc (.string p0.2.2.2.1))), (V.t (T.sc (.string p0.2.2.2.2.1))), (V.t (T.sc (.string p0.2.2.2.2.2.1))), (V.t (T.sc (.string p0.2.2.2.2.2.2.1))), (V.t (T.sc (.string p0.2.2.2.2.2.2.2.1))), (V.t (T.sc (.string p0.2.2.2.2.2.2.2.2.1))), (V.t (T.sc (.string p0.2.2.2.2.2.2.2.2.2.1))), (V.t (T.sc (.string p0.2.2.2.2.2.2.2.2.2.2.1))), (V.t (T.sc (.string p0.2.2.2.2.2.2.2.2.2.2.2.1))), (V.t (T.sc (.string p0.2.2.2.2.2.2.2.2.2.2.2.2.1))), (V.t (T.sc (.string p0.2.2.2.2.2.2.2.2.2.2.2.2.2.1))), (V.t (T.sc (.string p0.2.2.2.2.2.2.2.2.2.2.2.2.2.2.1))), (V.t (T.sc (.string p0.2.2.2.2.2.2.2.2.2.2.2.2.2.2.2.1))), (V.t (T.sc (.string p0.2.2.2.2.2.2.2.2.2.2.2.2.2.2.2.2.1))), (V.t (T.sc (.string p0.2.2.2.2.2.2.2.2.2.2.2.2.2.2.2.2.2.1))), (V.t (T.sc (.string p0.2.2.2.2.2.2.2.2.2.2.2.2.2.2.2.2.2.2.1))), (V.t (T.sc (.string p0.2.2.2.2.2.2.2.2.2.2.2.2.2.2.2.2.2.2.2.1))), (V.t (T.sc (.string p0.2.2.2.2.2.2.2.2.2.2.2.2.2.2.2.2.2.2.2.2.1))), (V.t (T.sc (.string p0.2.2.2.2.2.2.2.2.2.2.2.2.2.2.2.2.2.2.2.2.2.1))), (V.t (T.sc (.string p0.2.2.2.2.2.2.2.2.2.2.2.2.2.2.2.2.2.2.2.2.2.2.1))), (V.t (T.sc (.string p0.2.2.2.2.2.2.2.2.2.2.2.2.2.2.2.2.2.2.2.2.2.2.2.1))), (V.t (T.sc (.string p0.2.2.2.2.2.2.2.2.2.2.2.2.2.2.2.2.2.2.2.2.2.2.2.2)))]]
noncomputable def sp_suturelaw4_text (n : Nat) : Go.Eng.Spec := ⟨fun f vs sg => (match f with
    | 14 => c_suturehand_Pick (m_suturehand_Pick n) vs sg
    | _ => none), fun R key E sg K => (match key with
    | 4 => l_suturelaw4_text_4_S n R E sg K
    | _ => none)⟩
theorem sp_suturelaw4_text_ok (n : Nat) : CallsOk Tryd.prog (sp_suturelaw4_text n) := by
  intro f vs sg cm x h hx
  simp only [sp_suturelaw4_text] at h
  split at h
  · exact c_suturehand_Pick_ok _ (m_suturehand_Pick_ok n) vs sg cm x h hx
  · cases h
theorem code_suturelaw4_text_fn : Tryd.prog.funcs[11]? = some Tryd.f11 := Tryd.func11
theorem code_suturelaw4_text_body : Tryd.f11.body = some code_suturelaw4_text := by kernel_rfl
theorem code_suturelaw4_text_ok : CodeOk Tryd.prog code_suturelaw4_text := (sound 11 _ _ code_suturelaw4_text_fn code_suturelaw4_text_body).1
noncomputable def code_l_suturelaw4_text_4 : Code := (loopsOf code_suturelaw4_text).getD 0 .skip
theorem code_l_suturelaw4_text_4_ok : CodeOk Tryd.prog code_l_suturelaw4_text_4 := codeOk_loops code_suturelaw4_text_ok _ (getD_mem (by kernel_rfl))
def l_suturelaw4_text_4_K (k : ByteArray × (List T) × Int × Int × ByteArray × ByteArray × ByteArray × ByteArray × ByteArray × ByteArray × ByteArray × ByteArray × ByteArray × ByteArray × ByteArray × ByteArray × ByteArray × ByteArray × ByteArray × ByteArray × ByteArray × ByteArray × ByteArray × ByteArray × ByteArray × ByteArray × ByteArray × ByteArray → Option (ByteArray × ByteArray × ByteArray × ByteArray × ByteArray × ByteArray × ByteArray × ByteArray × ByteArray × ByteArray × ByteArray × ByteArray × ByteArray × ByteArray × ByteArray × ByteArray × ByteArray × ByteArray × ByteArray × ByteArray × ByteArray × ByteArray × ByteArray × ByteArray × ByteArray)) : Ex → SEnv → Sig → Option (ByteArray × ByteArray × ByteArray × ByteArray × ByteArray × ByteArray × ByteArray × ByteArray × ByteArray × ByteArray × ByteArray × ByteArray × ByteArray × ByteArray × ByteArray × ByteArray × ByteArray × ByteArray × ByteArray × ByteArray × ByteArray × ByteArray × ByteArray × ByteArray × ByteArray) := fun x E sg => match x with
  | .normal => Option.bind (V.ptrOf 0 0 (SEnv.at E 3)) fun u0 => Option.bind (V.strOf (SEnv.at E 4)) fun u1 => Option.bind (V.lstOf (SEnv.at E 8)) fun u2 => Option.bind (V.intOf .i64 (SEnv.at E 9)) fun u3 => Option.bind (V.intOf .i64 (SEnv.at E 10)) fun u4 => Option.bind (cellsN 24 sg 0) fun u5 => Option.bind (V.strOf (u5.getD 0 .any)) fun u6 => Option.bind (V.strOf (u5.getD 1 .any)) fun u7 => Option.bind (V.strOf (u5.getD 2 .any)) fun u8 => Option.bind (V.strOf (u5.getD 3 .any)) fun u9 => Option.bind (V.strOf (u5.getD 4 .any)) fun u10 => Option.bind (V.strOf (u5.getD 5 .any)) fun u11 => Option.bind (V.strOf (u5.getD 6 .any)) fun u12 => Option.bind (V.strOf (u5.getD 7 .any)) fun u13 => Option.bind (V.strOf (u5.getD 8 .any)) fun u14 => Option.bind (V.strOf (u5.getD 9 .any)) fun u15 => Option.bind (V.strOf (u5.getD 10 .any)) fun u16 => Option.bind (V.strOf (u5.getD 11 .any)) fun u17 => Option.bind (V.strOf (u5.getD 12 .any)) fun u18 => Option.bind (V.strOf (u5.getD 13 .any)) fun u19 => Option.bind (V.strOf (u5.getD 14 .any)) fun u20 => Option.bind (V.strOf (u5.getD 15 .any)) fun u21 => Option.bind (V.strOf (u5.getD 16 .any)) fun u22 => Option.bind (V.strOf (u5.getD 17 .any)) fun u23 => Option.bind (V.strOf (u5.getD 18 .any)) fun u24 => Option.bind (V.strOf (u5.getD 19 .any)) fun u25 => Option.bind (V.strOf (u5.getD 20 .any)) fun u26 => Option.bind (V.strOf (u5.getD 21 .any)) fun u27 => Option.bind (V.strOf (u5.getD 22 .any)) fun u28 => Option.bind (V.strOf (u5.getD 23 .any)) fun u29 => k (u1, u2, u3, u4, u6, u7, u8, u9, u10, u11, u12, u13, u14, u15, u16, u17, u18, u19, u20, u21, u22, u23, u24, u25, u26, u27, u28, u29)
  | (.exit 0) => Option.bind (V.strOf (SEnv.at E 4)) fun u0 => Option.bind (cellsN 24 sg 0) fun u1 => Option.bind (V.strOf (u1.getD 0 .any)) fun u2 => Option.bind (V.strOf (u1.getD 1 .any)) fun u3 => Option.bind (V.strOf (u1.getD 2 .any)) fun u4 => Option.bind (V.strOf (u1.getD 3 .any)) fun u5 => Option.bind (V.strOf (u1.getD 4 .any)) fun u6 => Option.bind (V.strOf (u1.getD 5 .any)) fun u7 => Option.bind (V.strOf (u1.getD 6 .any)) fun u8 => Option.bind (V.strOf (u1.getD 7 .any)) fun u9 => Option.bind (V.strOf (u1.getD 8 .any)) fun u10 => Option.bind (V.strOf (u1.getD 9 .any)) fun u11 => Option.bind (V.strOf (u1.getD 10 .any)) fun u12 => Option.bind (V.strOf (u1.getD 11 .any)) fun u13 => Option.bind (V.strOf (u1.getD 12 .any)) fun u14 => Option.bind (V.strOf (u1.getD 13 .any)) fun u15 => Option.bind (V.strOf (u1.getD 14 .any)) fun u16 => Option.bind (V.strOf (u1.getD 15 .any)) fun u17 => Option.bind (V.strOf (u1.getD 16 .any)) fun u18 => Option.bind (V.strOf (u1.getD 17 .any)) fun u19 => Option.bind (V.strOf (u1.getD 18 .any)) fun u20 => Option.bind (V.strOf (u1.getD 19 .any)) fun u21 => Option.bind (V.strOf (u1.getD 20 .any)) fun u22 => Option.bind (V.strOf (u1.getD 21 .any)) fun u23 => Option.bind (V.strOf (u1.getD 22 .any)) fun u24 => Option.bind (V.strOf (u1.getD 23 .any)) fun u25 => some (u0, u2, u3, u4, u5, u6, u7, u8, u9, u10, u11, u12, u13, u14, u15, u16, u17, u18, u19, u20, u21, u22, u23, u24, u25)
  | _ => none
theorem l_suturelaw4_text_4_eq (n : Nat) (k : ByteArray × (List T) × Int × Int × ByteArray × ByteArray × ByteArray × ByteArray × ByteArray × ByteArray × ByteArray × ByteArray × ByteArray × ByteArray × ByteArray × ByteArray × ByteArray × ByteArray × ByteArray × ByteArray × ByteArray × ByteArray × ByteArray × ByteArray × ByteArray × ByteArray × ByteArray × ByteArray → Option (ByteArray × ByteArray × ByteArray × ByteArray × ByteArray × ByteArray × ByteArray × ByteArray × ByteArray × ByteArray × ByteArray × ByteArray × ByteArray × ByteArray × ByteArray × ByteArray × ByteArray × ByteArray × ByteArray × ByteArray × ByteArray × ByteArray × ByteArray × ByteArray × ByteArray)) (s0 : ByteArray) (s1 : List T) (s2 : Int) (s3 : Int) (s4 : ByteArray) (s5 : ByteArray) (s6 : ByteArray) (s7 : ByteArray) (s8 : ByteArray) (s9 : ByteArray) (s10 : ByteArray) (s11 : ByteArray) (s12 : ByteArray) (s13 : ByteArray) (s14 : ByteArray) (s15 : ByteArray) (s16 : ByteArray) (s17 : ByteArray) (s18 : ByteArray) (s19 : ByteArray) (s20 : ByteArray) (s21 : ByteArray) (s22 : ByteArray) (s23 : ByteArray) (s24 : ByteArray) (s25 : ByteArray) (s26 : ByteArray) (s27 : ByteArray) : mX Tryd.prog (sp_suturelaw4_text n) 23 code_l_suturelaw4_text_4 [(3, (V.ptr 0 0)), (4, (V.t (T.sc (.string s0)))), (8, (V.t (T.list s1))), (9, (V.t (T.sc (.int .i64 s2)))), (10, (V.t (T.sc (.int .i64 s3))))] [some [(V.t (T.sc (.string s4))), (V.t (T.sc (.string s5))), (V.t (T.sc (.string s6))), (V.t (T.sc (.string s7))), (V.t (T.sc (.string s8))), (V.t (T.sc (.string s9))), (V.t (T.sc (.string s10))), (V.t (T.sc (.string s11))), (V.t (T.sc (.string s12))), (V.t (T.sc (.string s13))), (V.t (T.sc (.string s14))), (V.t (T.sc (.string s15))), (V.t (T.sc (.string s16))), (V.t (T.sc (.string s17))), (V.t (T.sc (.string s18))), (V.t (T.sc (.string s19))), (V.t (T.sc (.string s20))), (V.t (T.sc (.string s21))), (V.t (T.sc (.string s22))), (V.t (T.sc (.string s23))), (V.t (T.sc (.string s24))), (V.t (T.sc (.string s25))), (V.t (T.sc (.string s26))), (V.t (T.sc (.string s27)))]] (l_suturelaw4_text_4_K k) = l_suturelaw4_text_4_B n k (s0, s1, s2, s3, s4, s5, s6, s7, s8, s9, s10, s11, s12, s13, s14, s15, s16, s17, s18, s19, s20, s21, s22, s23, s24, s25, s26, s27) := by kernel_rfl
def l_suturelaw4_text_4_Q (x : ByteArray × ByteArray × ByteArray × ByteArray × ByteArray × ByteArray × ByteArray × ByteArray × ByteArray × ByteArray × ByteArray × ByteArray × ByteArray × ByteArray × ByteArray × ByteArray × ByteArray × ByteArray × ByteArray × ByteArray × ByteArray × ByteArray × ByteArray × ByteArray × ByteArray) (ex : Ex) (e : Env) (s : Sig) : Prop := (fun p0 => (ex = (.exit 0) ∧ e = SEnv.env 23 [(4, (V.t (T.sc (.string p0.1))))] ∧ s = [some [(V.t (T.sc (.string p0.2.1))), (V.t (T.sc (.string p0.2.2.1))), (V.t (T.sc (.string p0.2.2.2.1))), (V.t (T.sc (.string p0.2.2.2.2.1))), (V.t (T.sc (.string p0.2.2.2.2.2.1))), (V.t (T.sc (.string p0.2.2.2.2.2.2.1))), (V.t (T.sc (.string p0.2.2.2.2.2.2.2.1))), (V.t (T.sc (.string p0.2.2.2.2.2.2.2.2.1))), (V.t (T.sc (.string p0.2.2.2.2.2.2.2.2.2.1))), (V.t (T.sc (.string p0.2.2.2.2.2.2.2.2.2.2.1))), (V.t (T.sc (.string p0.2.2.2.2.2.2.2.2.2.2.2.1))), (V.t (T.sc (.string p0.2.2.2.2.2.2.2.2.2.2.2.2.1))), (V.t (T.sc (.string p0.2.2.2.2.2.2.2.2.2.2.2.2.2.1))), (V.t (T.sc (.string p0.2.2.2.2.2.2.2.2.2.2.2.2.2.2.1))), (V.t (T.sc (.string p0.2.2.2.2.2.2.2.2.2.2.2.2.2.2.2.1))), (V.t (T.sc (.string p0.2.2.2.2.2.2.2.2.2.2.2.2.2.2.2.2.1))), (V.t (T.sc (.string p0.2.2.2.2.2.2.2.2.2.2.2.2.2.2.2.2.2.1))), (V.t (T.sc (.string p0.2.2.2.2.2.2.2.2.2.2.2.2.2.2.2.2.2.2.1))), (V.t (T.sc (.string p0.2.2.2.2.2.2.2.2.2.2.2.2.2.2.2.2.2.2.2.1))), (V.t (T.sc (.string p0.2.2.2.2.2.2.2.2.2.2.2.2.2.2.2.2.2.2.2.2.1))), (V.t (T.sc (.string p0.2.2.2.2.2.2.2.2.2.2.2.2.2.2.2.2.2.2.2.2.2.1))), (V.t (T.sc (.string p0.2.2.2.2.2.2.2.2.2.2.2.2.2.2.2.2.2.2.2.2.2.2.1))), (V.t (T.sc (.string p0.2.2.2.2.2.2.2.2.2.2.2.2.2.2.2.2.2.2.2.2.2.2.2.1))), (V.t (T.sc (.string p0.2.2.2.2.2.2.2.2.2.2.2.2.2.2.2.2.2.2.2.2.2.2.2.2)))]])) x
theorem l_suturelaw4_text_4_run (n : Nat) : ∀ (m : Nat) (s0 : ByteArray) (s1 : List T) (s2 : Int) (s3 : Int) (s4 : ByteArray) (s5 : ByteArray) (s6 : ByteArray) (s7 : ByteArray) (s8 : ByteArray) (s9 : ByteArray) (s10 : ByteArray) (s11 : ByteArray) (s12 : ByteArray) (s13 : ByteArray) (s14 : ByteArray) (s15 : ByteArray) (s16 : ByteArray) (s17 : ByteArray) (s18 : ByteArray) (s19 : ByteArray) (s20 : ByteArray) (s21 : ByteArray) (s22 : ByteArray) (s23 : ByteArray) (s24 : ByteArray) (s25 : ByteArray) (s26 : ByteArray) (s27 : ByteArray) (x : ByteArray × ByteArray × ByteArray × ByteArray × ByteArray × ByteArray × ByteArray × ByteArray × ByteArray × ByteArray × ByteArray × ByteArray × ByteArray × ByteArray × ByteArray × ByteArray × ByteArray × ByteArray × ByteArray × ByteArray × ByteArray × ByteArray × ByteArray × ByteArray × ByteArray), l_suturelaw4_text_4 n m (s0, s1, s2, s3, s4, s5, s6, s7, s8, s9, s10, s11, s12, s13, s14, s15, s16, s17, s18, s19, s20, s21, s22, s23, s24, s25, s26, s27) = some x → SemL Tryd.prog 0 code_l_suturelaw4_text_4 (SEnv.env 23 [(3, (V.ptr 0 0)), (4, (V.t (T.sc (.string s0)))), (8, (V.t (T.list s1))), (9, (V.t (T.sc (.int .i64 s2)))), (10, (V.t (T.sc (.int .i64 s3))))]) [some [(V.t (T.sc (.string s4))), (V.t (T.sc (.string s5))), (V.t (T.sc (.string s6))), (V.t (T.sc (.string s7))), (V.t (T.sc (.string s8))), (V.t (T.sc (.string s9))), (V.t (T.sc (.string s10))), (V.t (T.sc (.string s11))), (V.t (T.sc (.string s12))), (V.t (T.sc (.string s13))), (V.t (T.sc (.string s14))), (V.t (T.sc (.string s15))), (V.t (T.sc (.string s16))), (V.t (T.sc (.string s17))), (V.t (T.sc (.string s18))), (V.t (T.sc (.string s19))), (V.t (T.sc (.string s20))), (V.t (T.sc (.string s21))), (V.t (T.sc (.string s22))), (V.t (T.sc (.string s23))), (V.t (T.sc (.string s24))), (V.t (T.sc (.string s25))), (V.t (T.sc (.string s26))), (V.t (T.sc (.string s27)))]] (l_suturelaw4_text_4_Q x)
  | 0, s0, s1, s2, s3, s4, s5, s6, s7, s8, s9, s10, s11, s12, s13, s14, s15, s16, s17, s18, s19, s20, s21, s22, s23, s24, s25, s26, s27, x, h => by cases h
  | m + 1, s0, s1, s2, s3, s4, s5, s6, s7, s8, s9, s10, s11, s12, s13, s14, s15, s16, s17, s18, s19, s20, s21, s22, s23, s24, s25, s26, s27, x, h => by
    refine loop_step (sp_suturelaw4_text_ok n) code_l_suturelaw4_text_4_ok (fun a ha => absurd ha (by rw [show loopsOf code_l_suturelaw4_text_4 = [] from by kernel_rfl]; simp)) (no_scope (by kernel_rfl)) ((l_suturelaw4_text_4_eq n _ s0 s1 s2 s3 s4 s5 s6 s7 s8 s9 s10 s11 s12 s13 s14 s15 s16 s17 s18 s19 s20 s21 s22 s23 s24 s25 s26 s27).trans h) (fun E sg h => ?_) (fun ex E sg hne h => ?_)
    · simp only [l_suturelaw4_text_4_K] at h
      obtain ⟨u0, hu0, h⟩ := Option.bind_eq_some_iff.1 h
      obtain ⟨u1, hu1, h⟩ := Option.bind_eq_some_iff.1 h
      obtain ⟨u2, hu2, h⟩ := Option.bind_eq_some_iff.1 h
      obtain ⟨u3, hu3, h⟩ := Option.bind_eq_some_iff.1 h
      obtain ⟨u4, hu4, h⟩ := Option.bind_eq_some_iff.1 h
      obtain ⟨u5, hu5, h⟩ := Option.bind_eq_some_iff.1 h
      obtain ⟨u6, hu6, h⟩ := Option.bind_eq_some_iff.1 h
      obtain ⟨u7, hu7, h⟩ := Option.bind_eq_some_iff.1 h
      obtain ⟨u8, hu8, h⟩ := Option.bind_eq_some_iff.1 h
      obtain ⟨u9, hu9, h⟩ := Option.bind_eq_some_iff.1 h
      obtain ⟨u10, hu10, h⟩ := Option.bind_eq_some_iff.1 h
      obtain ⟨u11, hu11, h⟩ := Option.bind_eq_some_iff.1 h
      obtain ⟨u12, hu12, h⟩ := Option.bind_eq_some_iff.1 h
      obtain ⟨u13, hu13, h⟩ := Option.bind_eq_some_iff.1 h
      obtain ⟨u14, hu14, h⟩ := Option.bind_eq_some_iff.1 h
      obtain ⟨u15, hu15, h⟩ := Option.bind_eq_some_iff.1 h
      obtain ⟨u16, hu16, h⟩ := Option.bind_eq_some_iff.1 h
      obtain ⟨u17, hu17, h⟩ := Option.bind_eq_some_iff.1 h
      obtain ⟨u18, hu18, h⟩ := Option.bind_eq_some_iff.1 h
      obtain ⟨u19, hu19, h⟩ := Option.bind_eq_some_iff.1 h
      obtain ⟨u20, hu20, h⟩ := Option.bind_eq_some_iff.1 h
      obtain ⟨u21, hu21, h⟩ := Option.bind_eq_some_iff.1 h
      obtain ⟨u22, hu22, h⟩ := Option.bind_eq_some_iff.1 h
      obtain ⟨u23, hu23, h⟩ := Option.bind_eq_some_iff.1 h
      obtain ⟨u24, hu24, h⟩ := Option.bind_eq_some_iff.1 h
      obtain ⟨u25, hu25, h⟩ := Option.bind_eq_some_iff.1 h
      obtain ⟨u26, hu26, h⟩ := Option.bind_eq_some_iff.1 h
      obtain ⟨u27, hu27, h⟩ := Option.bind_eq_some_iff.1 h
      obtain ⟨u28, hu28, h⟩ := Option.bind_eq_some_iff.1 h
      obtain ⟨u29, hu29, h⟩ := Option.bind_eq_some_iff.1 h
      exact SemL.pre (k := 1) (by decide) (WkA.env (WkA.cons (ptrOf_wk hu0) rfl (WkA.cons (strOf_wk hu1) rfl (WkA.cons (lstOf_wk hu2) rfl (WkA.cons (intOf_wk hu3) rfl (WkA.cons (intOf_wk hu4) rfl WkA.nil))))) 23) (wkR_sig (WkR.cons (cellsN_wk hu5 (.cons (strOf_wk hu6) (.cons (strOf_wk hu7) (.cons (strOf_wk hu8) (.cons (strOf_wk hu9) (.cons (strOf_wk hu10) (.cons (strOf_wk hu11) (.cons (strOf_wk hu12) (.cons (strOf_wk hu13) (.cons (strOf_wk hu14) (.cons (strOf_wk hu15) (.cons (strOf_wk hu16) (.cons (strOf_wk hu17) (.cons (strOf_wk hu18) (.cons (strOf_wk hu19) (.cons (strOf_wk hu20) (.cons (strOf_wk hu21) (.cons (strOf_wk hu22) (.cons (strOf_wk hu23) (.cons (strOf_wk hu24) (.cons (strOf_wk hu25) (.cons (strOf_wk hu26) (.cons (strOf_wk hu27) (.cons (strOf_wk hu28) (.cons (strOf_wk hu29) .nil))))))))))))))))))))))))).1 (cellsN_wk hu5 (.cons (strOf_wk hu6) (.cons (strOf_wk hu7) (.cons (strOf_wk hu8) (.cons (strOf_wk hu9) (.cons (strOf_wk hu10) (.cons (strOf_wk hu11) (.cons (strOf_wk hu12) (.cons (strOf_wk hu13) (.cons (strOf_wk hu14) (.cons (strOf_wk hu15) (.cons (strOf_wk hu16) (.cons (strOf_wk hu17) (.cons (strOf_wk hu18) (.cons (strOf_wk hu19) (.cons (strOf_wk hu20) (.cons (strOf_wk hu21) (.cons (strOf_wk hu22) (.cons (strOf_wk hu23) (.cons (strOf_wk hu24) (.cons (strOf_wk hu25) (.cons (strOf_wk hu26) (.cons (strOf_wk hu27) (.cons (strOf_wk hu28) (.cons (strOf_wk hu29) .nil))))))))))))))))))))))))).2 (renL_mem (.cons rfl (.cons rfl (.cons rfl (.cons rfl (.cons rfl (.cons rfl (.cons rfl (.cons rfl (.cons rfl (.cons rfl (.cons rfl (.cons rfl (.cons rfl (.cons rfl (.cons rfl (.cons rfl (.cons rfl (.cons rfl (.cons rfl (.cons rfl (.cons rfl (.cons rfl (.cons rfl (.cons rfl .nil))))))))))))))))))))))))) (WkR.nil _)) rfl) (l_suturelaw4_text_4_run n m _ _ _ _ _ _ _ _ _ _ _ _ _ _ _ _ _ _ _ _ _ _ _ _ _ _ _ _ x h)
    · unfold l_suturelaw4_text_4_K at h
      split at h
      · exact absurd rfl hne
      · obtain ⟨u0, hu0, h⟩ := Option.bind_eq_some_iff.1 h
        obtain ⟨u1, hu1, h⟩ := Option.bind_eq_some_iff.1 h
        obtain ⟨u2, hu2, h⟩ := Option.bind_eq_some_iff.1 h
        obtain ⟨u3, hu3, h⟩ := Option.bind_eq_some_iff.1 h
        obtain ⟨u4, hu4, h⟩ := Option.bind_eq_some_iff.1 h
        obtain ⟨u5, hu5, h⟩ := Option.bind_eq_some_iff.1 h
        obtain ⟨u6, hu6, h⟩ := Option.bind_eq_some_iff.1 h
        obtain ⟨u7, hu7, h⟩ := Option.bind_eq_some_iff.1 h
        obtain ⟨u8, hu8, h⟩ := Option.bind_eq_some_iff.1 h
        obtain ⟨u9, hu9, h⟩ := Option.bind_eq_some_iff.1 h
        obtain ⟨u10, hu10, h⟩ := Option.bind_eq_some_iff.1 h
        obtain ⟨u11, hu11, h⟩ := Option.bind_eq_some_iff.1 h
        obtain ⟨u12, hu12, h⟩ := Option.bind_eq_some_iff.1 h
        obtain ⟨u13, hu13, h⟩ := Option.bind_eq_some_iff.1 h
        obtain ⟨u14, hu14, h⟩ := Option.bind_eq_some_iff.1 h
        obtain ⟨u15, hu15, h⟩ := Option.bind_eq_some_iff.1 h
        obtain ⟨u16, hu16, h⟩ := Option.bind_eq_some_iff.1 h
        obtain ⟨u17, hu17, h⟩ := Option.bind_eq_some_iff.1 h
        obtain ⟨u18, hu18, h⟩ := Option.bind_eq_some_iff.1 h
        obtain ⟨u19, hu19, h⟩ := Option.bind_eq_some_iff.1 h
        obtain ⟨u20, hu20, h⟩ := Option.bind_eq_some_iff.1 h
        obtain ⟨u21, hu21, h⟩ := Option.bind_eq_some_iff.1 h
        obtain ⟨u22, hu22, h⟩ := Option.bind_eq_some_iff.1 h
        obtain ⟨u23, hu23, h⟩ := Option.bind_eq_some_iff.1 h
        obtain ⟨u24, hu24, h⟩ := Option.bind_eq_some_iff.1 h
        obtain ⟨u25, hu25, h⟩ := Option.bind_eq_some_iff.1 h
        simp only [Option.some.injEq] at h
        subst h
        exact ⟨1, _, _, by decide, WkA.env (WkA.cons (strOf_wk hu0) rfl WkA.nil) 23, (wkR_sig (WkR.cons (cellsN_wk hu1 (.cons (strOf_wk hu2) (.cons (strOf_wk hu3) (.cons (strOf_wk hu4) (.cons (strOf_wk hu5) (.cons (strOf_wk hu6) (.cons (strOf_wk hu7) (.cons (strOf_wk hu8) (.cons (strOf_wk hu9) (.cons (strOf_wk hu10) (.cons (strOf_wk hu11) (.cons (strOf_wk hu12) (.cons (strOf_wk hu13) (.cons (strOf_wk hu14) (.cons (strOf_wk hu15) (.cons (strOf_wk hu16) (.cons (strOf_wk hu17) (.cons (strOf_wk hu18) (.cons (strOf_wk hu19) (.cons (strOf_wk hu20) (.cons (strOf_wk hu21) (.cons (strOf_wk hu22) (.cons (strOf_wk hu23) (.cons (strOf_wk hu24) (.cons (strOf_wk hu25) .nil))))))))))))))))))))))))).1 (cellsN_wk hu1 (.cons (strOf_wk hu2) (.cons (strOf_wk hu3) (.cons (strOf_wk hu4) (.cons (strOf_wk hu5) (.cons (strOf_wk hu6) (.cons (strOf_wk hu7) (.cons (strOf_wk hu8) (.cons (strOf_wk hu9) (.cons (strOf_wk hu10) (.cons (strOf_wk hu11) (.cons (strOf_wk hu12) (.cons (strOf_wk hu13) (.cons (strOf_wk hu14) (.cons (strOf_wk hu15) (.cons (strOf_wk hu16) (.cons (strOf_wk hu17) (.cons (strOf_wk hu18) (.cons (strOf_wk hu19) (.cons (strOf_wk hu20) (.cons (strOf_wk hu21) (.cons (strOf_wk hu22) (.cons (strOf_wk hu23) (.cons (strOf_wk hu24) (.cons (strOf_wk hu25) .nil))))))))))))))))))))))))).2 (renL_mem (.cons rfl (.cons rfl (.cons rfl (.cons rfl (.cons rfl (.cons rfl (.cons rfl (.cons rfl (.cons rfl (.cons rfl (.cons rfl (.cons rfl (.cons rfl (.cons rfl (.cons rfl (.cons rfl (.cons rfl (.cons rfl (.cons rfl (.cons rfl (.cons rfl (.cons rfl (.cons rfl (.cons rfl .nil))))))))))))))))))))))))) (WkR.nil _)) rfl), rfl, rfl, rfl⟩
      · cases h
theorem l_suturelaw4_text_4_ok (n : Nat) : LoopOk Tryd.prog (sp_suturelaw4_text n) 0 23 code_l_suturelaw4_text_4 := by
    intro R key E sg K r hk h
    rw [show Go.Eng.keyOf code_l_suturelaw4_text_4 = some 4 from by kernel_rfl] at hk
    cases hk
    have h : l_suturelaw4_text_4_S n R E sg K = some r := h
    unfold l_suturelaw4_text_4_S at h
    obtain ⟨u0, hu0, h⟩ := Option.bind_eq_some_iff.1 h
    obtain ⟨u1, hu1, h⟩ := Option.bind_eq_some_iff.1 h
    obtain ⟨u2, hu2, h⟩ := Option.bind_eq_some_iff.1 h
    obtain ⟨u3, hu3, h⟩ := Option.bind_eq_some_iff.1 h
    obtain ⟨u4, hu4, h⟩ := Option.bind_eq_some_iff.1 h
    obtain ⟨u5, hu5, h⟩ := Option.bind_eq_some_iff.1 h
    obtain ⟨u6, hu6, h⟩ := Option.bind_eq_some_iff.1 h
    obtain ⟨u7, hu7, h⟩ := Option.bind_eq_some_iff.1 h
    obtain ⟨u8, hu8, h⟩ := Option.bind_eq_some_iff.1 h
    obtain ⟨u9, hu9, h⟩ := Option.bind_eq_some_iff.1 h
    obtain ⟨u10, hu10, h⟩ := Option.bind_eq_some_iff.1 h
    obtain ⟨u11, hu11, h⟩ := Option.bind_eq_some_iff.1 h
    obtain ⟨u12, hu12, h⟩ := Option.bind_eq_some_iff.1 h
    obtain ⟨u13, hu13, h⟩ := Option.bind_eq_some_iff.1 h
    obtain ⟨u14, hu14, h⟩ := Option.bind_eq_some_iff.1 h
    obtain ⟨u15, hu15, h⟩ := Option.bind_eq_some_iff.1 h
    obtain ⟨u16, hu16, h⟩ := Option.bind_eq_some_iff.1 h
    obtain ⟨u17, hu17, h⟩ := Option.bind_eq_some_iff.1 h
    obtain ⟨u18, hu18, h⟩ := Option.bind_eq_some_iff.1 h
    obtain ⟨u19, hu19, h⟩ := Option.bind_eq_some_iff.1 h
    obtain ⟨u20, hu20, h⟩ := Option.bind_eq_some_iff.1 h
    obtain ⟨u21, hu21, h⟩ := Option.bind_eq_some_iff.1 h
    obtain ⟨u22, hu22, h⟩ := Option.bind_eq_some_iff.1 h
    obtain ⟨u23, hu23, h⟩ := Option.bind_eq_some_iff.1 h
    obtain ⟨u24, hu24, h⟩ := Option.bind_eq_some_iff.1 h
    obtain ⟨u25, hu25, h⟩ := Option.bind_eq_some_iff.1 h
    obtain ⟨u26, hu26, h⟩ := Option.bind_eq_some_iff.1 h
    obtain ⟨u27, hu27, h⟩ := Option.bind_eq_some_iff.1 h
    obtain ⟨u28, hu28, h⟩ := Option.bind_eq_some_iff.1 h
    obtain ⟨u29, hu29, h⟩ := Option.bind_eq_some_iff.1 h
    obtain ⟨x, hx, h⟩ := Option.bind_eq_some_iff.1 h
    refine (SemL.pre (k := 1) (by decide) (WkA.env (WkA.cons (ptrOf_wk hu0) rfl (WkA.cons (strOf_wk hu1) rfl (WkA.cons (lstOf_wk hu2) rfl (WkA.cons (intOf_wk hu3) rfl (WkA.cons (intOf_wk hu4) rfl WkA.nil))))) 23) (wkR_sig (WkR.cons (cellsN_wk hu5 (.cons (strOf_wk hu6) (.cons (strOf_wk hu7) (.cons (strOf_wk hu8) (.cons (strOf_wk hu9) (.cons (strOf_wk hu10) (.cons (strOf_wk hu11) (.cons (strOf_wk hu12) (.cons (strOf_wk hu13) (.cons (strOf_wk hu14) (.cons (strOf_wk hu15) (.cons (strOf_wk hu16) (.cons (strOf_wk hu17) (.cons (strOf_wk hu18) (.cons (strOf_wk hu19) (.cons (strOf_wk hu20) (.cons (strOf_wk hu21) (.cons (strOf_wk hu22) (.cons (strOf_wk hu23) (.cons (strOf_wk hu24) (.cons (strOf_wk hu25) (.cons (strOf_wk hu26) (.cons (strOf_wk hu27) (.cons (strOf_wk hu28) (.cons (strOf_wk hu29) .nil))))))))))))))))))))))))).1 (cellsN_wk hu5 (.cons (strOf_wk hu6) (.cons (strOf_wk hu7) (.cons (strOf_wk hu8) (.cons (strOf_wk hu9) (.cons (strOf_wk hu10) (.cons (strOf_wk hu11) (.cons (strOf_wk hu12) (.cons (strOf_wk hu13) (.cons (strOf_wk hu14) (.cons (strOf_wk hu15) (.cons (strOf_wk hu16) (.cons (strOf_wk hu17) (.cons (strOf_wk hu18) (.cons (strOf_wk hu19) (.cons (strOf_wk hu20) (.cons (strOf_wk hu21) (.cons (strOf_wk hu22) (.cons (strOf_wk hu23) (.cons (strOf_wk hu24) (.cons (strOf_wk hu25) (.cons (strOf_wk hu26) (.cons (strOf_wk hu27) (.cons (strOf_wk hu28) (.cons (strOf_wk hu29) .nil))))))))))))))))))))))))).2 (renL_mem (.cons rfl (.cons rfl (.cons rfl (.cons rfl (.cons rfl (.cons rfl (.cons rfl (.cons rfl (.cons rfl (.cons rfl (.cons rfl (.cons rfl (.cons rfl (.cons rfl (.cons rfl (.cons rfl (.cons rfl (.cons rfl (.cons rfl (.cons rfl (.cons rfl (.cons rfl (.cons rfl (.cons rfl .nil))))))))))))))))))))))))) (WkR.nil _)) rfl) (l_suturelaw4_text_4_run n n _ _ _ _ _ _ _ _ _ _ _ _ _ _ _ _ _ _ _ _ _ _ _ _ _ _ _ _ x hx)).mono ?_
    intro ex e s hq
    obtain ⟨rfl, rfl, rfl⟩ := hq
    exact ⟨_, rfl, h⟩
def K_suturelaw4_text (v : V) (s : Sig) : Option (ByteArray) := Option.bind (V.strOf v) fun u0 => some u0
theorem K_suturelaw4_text_wk {v : V} {s : Sig} {r : ByteArray} (h : K_suturelaw4_text v s = some r) : Wk v (enc_suturelaw4_text r) ∧ WkS 0 s (encS_suturelaw4_text r) := by
  unfold K_suturelaw4_text at h
  obtain ⟨u0, hu0, h⟩ := Option.bind_eq_some_iff.1 h
  simp only [Option.some.injEq] at h
  subst h
  exact ⟨(strOf_wk hu0), (WkS.none _)⟩
theorem m_suturelaw4_text_eq (n : Nat) (a0 : List T) : mF Tryd.prog (sp_suturelaw4_text n) 11 [(V.t (T.list a0))] [] K_suturelaw4_text = m_suturelaw4_text n a0 := by kernel_rfl
theorem m_suturelaw4_text_ok (n : Nat) : ok_suturelaw4_text (m_suturelaw4_text n) := fun a0 r h => mF_ok sound (sp_suturelaw4_text_ok n) code_suturelaw4_text_fn code_suturelaw4_text_body (forall_getD (d := .skip) 1 (by kernel_rfl) (fun i hi => match i, hi with | 0, _ => l_suturelaw4_text_4_ok n | i + 1, hi => absurd hi (by omega))) (no_scope (by kernel_rfl)) ((m_suturelaw4_text_eq n a0).trans h) (fun v s hk => ⟨(K_suturelaw4_text_wk hk).1, rfl, (K_suturelaw4_text_wk hk).2⟩)


/-! sutureref1_SameExpr: a circle -/
structure B_sutureref1_SameExpr where
  sutureref1_SameExpr : Int → Int → ByteArray → List T → Int → Int → ByteArray → List T → Option (Bool)
def enc_sutureref1_SameExpr (r : Bool) : V := (V.t (T.sc (.bool r)))
def encS_sutureref1_SameExpr (r : Bool) : Sig := []
def ok_sutureref1_SameExpr (m : Int → Int → ByteArray → List T → Int → Int → ByteArray → List T → Option (Bool)) : Prop := ∀ (a0 : Int) (a1 : Int) (a2 : ByteArray) (a3 : List T) (a4 : Int) (a5 : Int) (a6 : ByteArray) (a7 : List T) (r : Bool), m a0 a1 a2 a3 a4 a5 a6 a7 = some r → FuncOk Tryd.prog 12 [(V.agg [(V.t (T.sc (.int .i64 a0))), (V.t (T.sc (.int .i64 a1))), (V.t (T.sc (.string a2))), (V.t (T.list a3))]), (V.agg [(V.t (T.sc (.int .i64 a4))), (V.t (T.sc (.int .i64 a5))), (V.t (T.sc (.string a6))), (V.t (T.list a7))])] [] (enc_sutureref1_SameExpr r) (encS_sutureref1_SameExpr r)
def c_sutureref1_SameExpr (m : Int → Int → ByteArray → List T → Int → Int → ByteArray → List T → Option (Bool)) (vs : List V) (sg : Sig) : Option CallM := bif Nat.beq vs.length 2 && Nat.beq sg.length 0 then Option.bind (V.aggN 4 (vs.getD 0 .any)) fun u0 => Option.bind (V.intOf .i64 (u0.getD 0 .any)) fun u1 => Option.bind (V.intOf .i64 (u0.getD 1 .any)) fun u2 => Option.bind (V.strOf (u0.getD 2 .any)) fun u3 => Option.bind (V.lstOf (u0.getD 3 .any)) fun u4 => Option.bind (V.aggN 4 (vs.getD 1 .any)) fun u5 => Option.bind (V.intOf .i64 (u5.getD 0 .any)) fun u6 => Option.bind (V.intOf .i64 (u5.getD 1 .any)) fun u7 => Option.bind (V.strOf (u5.getD 2 .any)) fun u8 => Option.bind (V.lstOf (u5.getD 3 .any)) fun u9 => some { α := Bool, m := m u1 u2 u3 u4 u6 u7 u8 u9, dflt := false, enc := fun y => ((V.t (T.sc (.bool y))), []) } else none
theorem c_sutureref1_SameExpr_ok (m : Int → Int → ByteArray → List T → Int → Int → ByteArray → List T → Option (Bool)) (hm : ok_sutureref1_SameExpr m) (vs : List V) (sg : Sig) (cm : CallM) (x : cm.α) (h : c_sutureref1_SameExpr m vs sg = some cm) (hx : cm.m = some x) : FuncOk Tryd.prog 12 vs sg (cm.enc x).1 (cm.enc x).2 := by
  unfold c_sutureref1_SameExpr at h
  have h0 := callee_sig h
  clear h
  obtain ⟨hl, hs, h⟩ := h0
  obtain ⟨u0, hu0, h⟩ := Option.bind_eq_some_iff.1 h
  obtain ⟨u1, hu1, h⟩ := Option.bind_eq_some_iff.1 h
  obtain ⟨u2, hu2, h⟩ := Option.bind_eq_some_iff.1 h
  obtain ⟨u3, hu3, h⟩ := Option.bind_eq_some_iff.1 h
  obtain ⟨u4, hu4, h⟩ := Option.bind_eq_some_iff.1 h
  obtain ⟨u5, hu5, h⟩ := Option.bind_eq_some_iff.1 h
  obtain ⟨u6, hu6, h⟩ := Option.bind_eq_some_iff.1 h
  obtain ⟨u7, hu7, h⟩ := Option.bind_eq_some_iff.1 h
  obtain ⟨u8, hu8, h⟩ := Option.bind_eq_some_iff.1 h
  obtain ⟨u9, hu9, h⟩ := Option.bind_eq_some_iff.1 h
  simp only [Option.some.injEq] at h
  subst h
  exact (hm u1 u2 u3 u4 u6 u7 u8 u9 x hx).wk (args_wk hl (.cons (aggN_wk hu0 (.cons (intOf_wk hu1) (.cons (intOf_wk hu2) (.cons (strOf_wk hu3) (.cons (lstOf_wk hu4) .nil))))) (.cons (aggN_wk hu5 (.cons (intOf_wk hu6) (.cons (intOf_wk hu7) (.cons (strOf_wk hu8) (.cons (lstOf_wk hu9) .nil))))) .nil))) (wkSg_of hs .nil)
structure B_sutureref1_SameExpr_ok (b : B_sutureref1_SameExpr) : Prop where
  sutureref1_SameExpr : ok_sutureref1_SameExpr b.sutureref1_SameExpr

/-! suture/sutureref1.SameExpr -/
def l_sutureref1_SameExpr_4_B (b : B_sutureref1_SameExpr) (n : Nat) (k : Int × Int × Int × ByteArray × (List T) × Int × Int × ByteArray × (List T) → Option (((Int × Int × ByteArray × (List T) × Int × Int × ByteArray × (List T)) ⊕ Bool × Int × Int × ByteArray × (List T) × Int × Int × ByteArray × (List T)))) : Int × Int × Int × ByteArray × (List T) × Int × Int × ByteArray × (List T) → Option (((Int × Int × ByteArray × (List T) × Int × Int × ByteArray × (List T)) ⊕ Bool × Int × Int × ByteArray × (List T) × Int × Int × ByteArray × (List T))) := fun (s0, s1, s2, s3, s4, s5, s6, s7, s8) =>
bif (decide ((s0 : Int) < ((List.length s4 : Nat) : Int))) then (
Option.bind (idx true [.int .i64, .int .i64, .str, .list] s4 s0) fun y0 =>
Option.bind (idx true [.int .i64, .int .i64, .str, .list] s8 s0) fun y1 =>
Option.bind (b.sutureref1_SameExpr (y0.cell 0).int (y0.cell 1).int (y0.cell 2).str (y0.cell 3).lst (y1.cell 0).int (y1.cell 1).int (y1.cell 2).str (y1.cell 3).lst) fun r2 =>
bif (!r2) then (
some (Sum.inr (false, s1, s2, s3, s4, s5, s6, s7, s8)))
else (
k ((IntKind.wrap .i64 (s0 + 1)), s1, s2, s3, s4, s5, s6, s7, s8)))
else (
some (Sum.inl (s1, s2, s3, s4, s5, s6, s7, s8)))
def l_sutureref1_SameExpr_4 (b : B_sutureref1_SameExpr) (n : Nat) : Nat → Int × Int × Int × ByteArray × (List T) × Int × Int × ByteArray × (List T) → Option (((Int × Int × ByteArray × (List T) × Int × Int × ByteArray × (List T)) ⊕ Bool × Int × Int × ByteArray × (List T) × Int × Int × ByteArray × (List T)))
  | 0, _ => none
  | m + 1, s => l_sutureref1_SameExpr_4_B b n (l_sutureref1_SameExpr_4 b n m) s
def f_sutureref1_SameExpr (b : B_sutureref1_SameExpr) (n : Nat) (a0 : Int) (a1 : Int) (a2 : ByteArray) (a3 : List T) (a4 : Int) (a5 : Int) (a6 : ByteArray) (a7 : List T) : Option (Bool) :=
bif (bif (bif (bif ((a0 : Int) != a4) then true else ((a1 : Int) != a5)) then true else (!(ByteArray.toList a2 == ByteArray.toList a6))) then true else ((((List.length a3 : Nat) : Int) : Int) != ((List.length a7 : Nat) : Int))) then (
some false)
else (
Option.bind (l_sutureref1_SameExpr_4 b n n (0, a0, a1, a2, a3, a4, a5, a6, a7)) fun x3 =>
Sum.elim (fun p4 => 
some true) (fun x3' => (fun p5 => 
some p5.1) x3') x3)
noncomputable def code_sutureref1_SameExpr : Code := Tryd.f12.body.getD .skip
def l_sutureref1_SameExpr_4_S (b : B_sutureref1_SameExpr) (n : Nat) (R : Type) (E : SEnv) (sg : Sig) (K : Ex → SEnv → Sig → Option R) : Option R := Option.bind (V.ptrOf 0 0 (SEnv.at E 2)) fun u0 => Option.bind (V.ptrOf 1 0 (SEnv.at E 3)) fun u1 => Option.bind (V.intOf .i64 (SEnv.at E 5)) fun u2 => Option.bind (cellsN 4 sg 0) fun u3 => Option.bind (V.intOf .i64 (u3.getD 0 .any)) fun u4 => Option.bind (V.intOf .i64 (u3.getD 1 .any)) fun u5 => Option.bind (V.strOf (u3.getD 2 .any)) fun u6 => Option.bind (V.lstOf (u3.getD 3 .any)) fun u7 => Option.bind (cellsN 4 sg 1) fun u8 => Option.bind (V.intOf .i64 (u8.getD 0 .any)) fun u9 => Option.bind (V.intOf .i64 (u8.getD 1 .any)) fun u10 => Option.bind (V.strOf (u8.getD 2 .any)) fun u11 => Option.bind (V.lstOf (u8.getD 3 .any)) fun u12 => Option.bind (l_sutureref1_SameExpr_4 b n n (u2, u4, u5, u6, u7, u9, u10, u11, u12)) fun y => Sum.elim (fun p0 => K (.exit 0) [] [some [(V.t (T.sc (.int .i64 p0.1))), (V.t (T.sc (.int .i64 p0.2.1))), (V.t (T.sc (.string p0.2.2.1))), (V.t (T.list p0.2.2.2.1))], some [(V.t (T.sc (.int .i64 p0.2.2.2.2.1))), (V.t (T.sc (.int .i64 p0.2.2.2.2.2.1))), (V.t (T.sc (.string p0.2.2.2.2.2.2.1))), (V.t (T.list p0.2.2.2.2.2.2.2))]]) (fun y' => (fun p1 => K .ret [(4, (V.t (T.sc (.bool p1.1))))] [some [(V.t (T.sc (.int .i64 p1.2.1))), (V.t (T.sc (.int .i64 p1.2.2.1))), (V.t (T.sc (.string p1.2.2.2.1))), (V.t (T.list p1.2.2.2.2.1))], some [(V.t (T.sc (.int .i64 p1.2.2.2.2.2.1))), (V.t (T.sc (.int .i64 p1.2.2.2.2.2.2.1))), (V.t (T.sc (.string p1.2.2.2.2.2.2.2.1))), (V.t (T.list p1.2.2.2.2.2.2.2.2))]]) y') y
noncomputable def sp_sutureref1_SameExpr (b : B_sutureref1_SameExpr) (n : Nat) : Go.Eng.Spec := ⟨fun f vs sg => (match f with
    | 12 => c_sutureref1_SameExpr b.sutureref1_SameExpr vs sg
    | _ => none), fun R key E sg K => (match key with
    | 4 => l_sutureref1_SameExpr_4_S b n R E sg K
    | _ => none)⟩
theorem sp_sutureref1_SameExpr_ok (b : B_sutureref1_SameExpr) (hb : B_sutureref1_SameExpr_ok b) (n : Nat) : CallsOk Tryd.prog (sp_sutureref1_SameExpr b n) := by
  intro f vs sg cm x h hx
  simp only [sp_sutureref1_SameExpr] at h
  split at h
  · exact c_sutureref1_SameExpr_ok _ hb.sutureref1_SameExpr vs sg cm x h hx
  · cases h
theorem code_sutureref1_SameExpr_fn : Tryd.prog.funcs[12]? = some Tryd.f12 := Tryd.func12
theorem code_sutureref1_SameExpr_body : Tryd.f12.body = some code_sutureref1_SameExpr := by kernel_rfl
theorem code_sutureref1_SameExpr_ok : CodeOk Tryd.prog code_sutureref1_SameExpr := (sound 12 _ _ code_sutureref1_SameExpr_fn code_sutureref1_SameExpr_body).1
noncomputable def code_l_sutureref1_SameExpr_4 : Code := (loopsOf code_sutureref1_SameExpr).getD 0 .skip
theorem code_l_sutureref1_SameExpr_4_ok : CodeOk Tryd.prog code_l_sutureref1_SameExpr_4 := codeOk_loops code_sutureref1_SameExpr_ok _ (getD_mem (by kernel_rfl))
def l_sutureref1_SameExpr_4_K (k : Int × Int × Int × ByteArray × (List T) × Int × Int × ByteArray × (List T) → Option (((Int × Int × ByteArray × (List T) × Int × Int × ByteArray × (List T)) ⊕ Bool × Int × Int × ByteArray × (List T) × Int × Int × ByteArray × (List T)))) : Ex → SEnv → Sig → Option (((Int × Int × ByteArray × (List T) × Int × Int × ByteArray × (List T)) ⊕ Bool × Int × Int × ByteArray × (List T) × Int × Int × ByteArray × (List T))) := fun x E sg => match x with
  | .normal => Option.bind (V.ptrOf 0 0 (SEnv.at E 2)) fun u0 => Option.bind (V.ptrOf 1 0 (SEnv.at E 3)) fun u1 => Option.bind (V.intOf .i64 (SEnv.at E 5)) fun u2 => Option.bind (cellsN 4 sg 0) fun u3 => Option.bind (V.intOf .i64 (u3.getD 0 .any)) fun u4 => Option.bind (V.intOf .i64 (u3.getD 1 .any)) fun u5 => Option.bind (V.strOf (u3.getD 2 .any)) fun u6 => Option.bind (V.lstOf (u3.getD 3 .any)) fun u7 => Option.bind (cellsN 4 sg 1) fun u8 => Option.bind (V.intOf .i64 (u8.getD 0 .any)) fun u9 => Option.bind (V.intOf .i64 (u8.getD 1 .any)) fun u10 => Option.bind (V.strOf (u8.getD 2 .any)) fun u11 => Option.bind (V.lstOf (u8.getD 3 .any)) fun u12 => k (u2, u4, u5, u6, u7, u9, u10, u11, u12)
  | (.exit 0) => Option.bind (cellsN 4 sg 0) fun u0 => Option.bind (V.intOf .i64 (u0.getD 0 .any)) fun u1 => Option.bind (V.intOf .i64 (u0.getD 1 .any)) fun u2 => Option.bind (V.strOf (u0.getD 2 .any)) fun u3 => Option.bind (V.lstOf (u0.getD 3 .any)) fun u4 => Option.bind (cellsN 4 sg 1) fun u5 => Option.bind (V.intOf .i64 (u5.getD 0 .any)) fun u6 => Option.bind (V.intOf .i64 (u5.getD 1 .any)) fun u7 => Option.bind (V.strOf (u5.getD 2 .any)) fun u8 => Option.bind (V.lstOf (u5.getD 3 .any)) fun u9 => some (Sum.inl (u1, u2, u3, u4, u6, u7, u8, u9))
  | .ret => Option.bind (V.boolOf (SEnv.at E 4)) fun u0 => Option.bind (cellsN 4 sg 0) fun u1 => Option.bind (V.intOf .i64 (u1.getD 0 .any)) fun u2 => Option.bind (V.intOf .i64 (u1.getD 1 .any)) fun u3 => Option.bind (V.strOf (u1.getD 2 .any)) fun u4 => Option.bind (V.lstOf (u1.getD 3 .any)) fun u5 => Option.bind (cellsN 4 sg 1) fun u6 => Option.bind (V.intOf .i64 (u6.getD 0 .any)) fun u7 => Option.bind (V.intOf .i64 (u6.getD 1 .any)) fun u8 => Option.bind (V.strOf (u6.getD 2 .any)) fun u9 => Option.bind (V.lstOf (u6.getD 3 .any)) fun u10 => some (Sum.inr (u0, u2, u3, u4, u5, u7, u8, u9, u10))
  | _ => none
theorem l_sutureref1_SameExpr_4_eq (b : B_sutureref1_SameExpr) (n : Nat) (k : Int × Int × Int × ByteArray × (List T) × Int × Int × ByteArray × (List T) → Option (((Int × Int × ByteArray × (List T) × Int × Int × ByteArray × (List T)) ⊕ Bool × Int × Int × ByteArray × (List T) × Int × Int × ByteArray × (List T)))) (s0 : Int) (s1 : Int) (s2 : Int) (s3 : ByteArray) (s4 : List T) (s5 : Int) (s6 : Int) (s7 : ByteArray) (s8 : List T) : mX Tryd.prog (sp_sutureref1_SameExpr b n) 53 code_l_sutureref1_SameExpr_4 [(2, (V.ptr 0 0)), (3, (V.ptr 1 0)), (5, (V.t (T.sc (.int .i64 s0))))] [some [(V.t (T.sc (.int .i64 s1))), (V.t (T.sc (.int .i64 s2))), (V.t (T.sc (.string s3))), (V.t (T.list s4))], some [(V.t (T.sc (.int .i64 s5))), (V.t (T.sc (.int .i64 s6))), (V.t (T.sc (.string s7))), (V.t (T.list s8))]] (l_sutureref1_SameExpr_4_K k) = l_sutureref1_SameExpr_4_B b n k (s0, s1, s2, s3, s4, s5, s6, s7, s8) := by kernel_rfl
def l_sutureref1_SameExpr_4_Q (x : ((Int × Int × ByteArray × (List T) × Int × Int × ByteArray × (List T)) ⊕ Bool × Int × Int × ByteArray × (List T) × Int × Int × ByteArray × (List T))) (ex : Ex) (e : Env) (s : Sig) : Prop := Sum.elim (fun p0 => (ex = (.exit 0) ∧ e = SEnv.env 53 [] ∧ s = [some [(V.t (T.sc (.int .i64 p0.1))), (V.t (T.sc (.int .i64 p0.2.1))), (V.t (T.sc (.string p0.2.2.1))), (V.t (T.list p0.2.2.2.1))], some [(V.t (T.sc (.int .i64 p0.2.2.2.2.1))), (V.t (T.sc (.int .i64 p0.2.2.2.2.2.1))), (V.t (T.sc (.string p0.2.2.2.2.2.2.1))), (V.t (T.list p0.2.2.2.2.2.2.2))]])) (fun x' => (fun p1 => (ex = .ret ∧ e = SEnv.env 53 [(4, (V.t (T.sc (.bool p1.1))))] ∧ s = [some [(V.t (T.sc (.int .i64 p1.2.1))), (V.t (T.sc (.int .i64 p1.2.2.1))), (V.t (T.sc (.string p1.2.2.2.1))), (V.t (T.list p1.2.2.2.2.1))], some [(V.t (T.sc (.int .i64 p1.2.2.2.2.2.1))), (V.t (T.sc (.int .i64 p1.2.2.2.2.2.2.1))), (V.t (T.sc (.string p1.2.2.2.2.2.2.2.1))), (V.t (T.list p1.2.2.2.2.2.2.2.2))]])) x') x
theorem l_sutureref1_SameExpr_4_run (b : B_sutureref1_SameExpr) (hb : B_sutureref1_SameExpr_ok b) (n : Nat) : ∀ (m : Nat) (s0 : Int) (s1 : Int) (s2 : Int) (s3 : ByteArray) (s4 : List T) (s5 : Int) (s6 : Int) (s7 : ByteArray) (s8 : List T) (x : ((Int × Int × ByteArray × (List T) × Int × Int × ByteArray × (List T)) ⊕ Bool × Int × Int × ByteArray × (List T) × Int × Int × ByteArray × (List T))), l_sutureref1_SameExpr_4 b n m (s0, s1, s2, s3, s4, s5, s6, s7, s8) = some x → SemL Tryd.prog 0 code_l_sutureref1_SameExpr_4 (SEnv.env 53 [(2, (V.ptr 0 0)), (3, (V.ptr 1 0)), (5, (V.t (T.sc (.int .i64 s0))))]) [some [(V.t (T.sc (.int .i64 s1))), (V.t (T.sc (.int .i64 s2))), (V.t (T.sc (.string s3))), (V.t (T.list s4))], some [(V.t (T.sc (.int .i64 s5))), (V.t (T.sc (.int .i64 s6))), (V.t (T.sc (.string s7))), (V.t (T.list s8))]] (l_sutureref1_SameExpr_4_Q x)
  | 0, s0, s1, s2, s3, s4, s5, s6, s7, s8, x, h => by cases h
  | m + 1, s0, s1, s2, s3, s4, s5, s6, s7, s8, x, h => by
    refine loop_step (sp_sutureref1_SameExpr_ok b hb n) code_l_sutureref1_SameExpr_4_ok (fun a ha => absurd ha (by rw [show loopsOf code_l_sutureref1_SameExpr_4 = [] from by kernel_rfl]; simp)) (no_scope (by kernel_rfl)) ((l_sutureref1_SameExpr_4_eq b n _ s0 s1 s2 s3 s4 s5 s6 s7 s8).trans h) (fun E sg h => ?_) (fun ex E sg hne h => ?_)
    · simp only [l_sutureref1_SameExpr_4_K] at h
      obtain ⟨u0, hu0, h⟩ := Option.bind_eq_some_iff.1 h
      obtain ⟨u1, hu1, h⟩ := Option.bind_eq_some_iff.1 h
      obtain ⟨u2, hu2, h⟩ := Option.bind_eq_some_iff.1 h
      obtain ⟨u3, hu3, h⟩ := Option.bind_eq_some_iff.1 h
      obtain ⟨u4, hu4, h⟩ := Option.bind_eq_some_iff.1 h
      obtain ⟨u5, hu5, h⟩ := Option.bind_eq_some_iff.1 h
      obtain ⟨u6, hu6, h⟩ := Option.bind_eq_some_iff.1 h
      obtain ⟨u7, hu7, h⟩ := Option.bind_eq_some_iff.1 h
      obtain ⟨u8, hu8, h⟩ := Option.bind_eq_some_iff.1 h
      obtain ⟨u9, hu9, h⟩ := Option.bind_eq_some_iff.1 h
      obtain ⟨u10, hu10, h⟩ := Option.bind_eq_some_iff.1 h
      obtain ⟨u11, hu11, h⟩ := Option.bind_eq_some_iff.1 h
      obtain ⟨u12, hu12, h⟩ := Option.bind_eq_some_iff.1 h
      exact SemL.pre (k := 2) (by decide) (WkA.env (WkA.cons (ptrOf_wk hu0) rfl (WkA.cons (ptrOf_wk hu1) rfl (WkA.cons (intOf_wk hu2) rfl WkA.nil))) 53) (wkR_sig (WkR.cons (cellsN_wk hu3 (.cons (intOf_wk hu4) (.cons (intOf_wk hu5) (.cons (strOf_wk hu6) (.cons (lstOf_wk hu7) .nil))))).1 (cellsN_wk hu3 (.cons (intOf_wk hu4) (.cons (intOf_wk hu5) (.cons (strOf_wk hu6) (.cons (lstOf_wk hu7) .nil))))).2 (renL_mem (.cons rfl (.cons rfl (.cons rfl (.cons rfl .nil))))) (WkR.cons (cellsN_wk hu8 (.cons (intOf_wk hu9) (.cons (intOf_wk hu10) (.cons (strOf_wk hu11) (.cons (lstOf_wk hu12) .nil))))).1 (cellsN_wk hu8 (.cons (intOf_wk hu9) (.cons (intOf_wk hu10) (.cons (strOf_wk hu11) (.cons (lstOf_wk hu12) .nil))))).2 (renL_mem (.cons rfl (.cons rfl (.cons rfl (.cons rfl .nil))))) (WkR.nil _))) rfl) (l_sutureref1_SameExpr_4_run b hb n m _ _ _ _ _ _ _ _ _ x h)
    · unfold l_sutureref1_SameExpr_4_K at h
      split at h
      · exact absurd rfl hne
      · obtain ⟨u0, hu0, h⟩ := Option.bind_eq_some_iff.1 h
        obtain ⟨u1, hu1, h⟩ := Option.bind_eq_some_iff.1 h
        obtain ⟨u2, hu2, h⟩ := Option.bind_eq_some_iff.1 h
        obtain ⟨u3, hu3, h⟩ := Option.bind_eq_some_iff.1 h
        obtain ⟨u4, hu4, h⟩ := Option.bind_eq_some_iff.1 h
        obtain ⟨u5, hu5, h⟩ := Option.bind_eq_some_iff.1 h
        obtain ⟨u6, hu6, h⟩ := Option.bind_eq_some_iff.1 h
        obtain ⟨u7, hu7, h⟩ := Option.bind_eq_some_iff.1 h
        obtain ⟨u8, hu8, h⟩ := Option.bind_eq_some_iff.1 h
        obtain ⟨u9, hu9, h⟩ := Option.bind_eq_some_iff.1 h
        simp only [Option.some.injEq] at h
        subst h
        exact ⟨2, _, _, by decide, WkA.env WkA.nil 53, (wkR_sig (WkR.cons (cellsN_wk hu0 (.cons (intOf_wk hu1) (.cons (intOf_wk hu2) (.cons (strOf_wk hu3) (.cons (lstOf_wk hu4) .nil))))).1 (cellsN_wk hu0 (.cons (intOf_wk hu1) (.cons (intOf_wk hu2) (.cons (strOf_wk hu3) (.cons (lstOf_wk hu4) .nil))))).2 (renL_mem (.cons rfl (.cons rfl (.cons rfl (.cons rfl .nil))))) (WkR.cons (cellsN_wk hu5 (.cons (intOf_wk hu6) (.cons (intOf_wk hu7) (.cons (strOf_wk hu8) (.cons (lstOf_wk hu9) .nil))))).1 (cellsN_wk hu5 (.cons (intOf_wk hu6) (.cons (intOf_wk hu7) (.cons (strOf_wk hu8) (.cons (lstOf_wk hu9) .nil))))).2 (renL_mem (.cons rfl (.cons rfl (.cons rfl (.cons rfl .nil))))) (WkR.nil _))) rfl), rfl, rfl, rfl⟩
      · obtain ⟨u0, hu0, h⟩ := Option.bind_eq_some_iff.1 h
        obtain ⟨u1, hu1, h⟩ := Option.bind_eq_some_iff.1 h
        obtain ⟨u2, hu2, h⟩ := Option.bind_eq_some_iff.1 h
        obtain ⟨u3, hu3, h⟩ := Option.bind_eq_some_iff.1 h
        obtain ⟨u4, hu4, h⟩ := Option.bind_eq_some_iff.1 h
        obtain ⟨u5, hu5, h⟩ := Option.bind_eq_some_iff.1 h
        obtain ⟨u6, hu6, h⟩ := Option.bind_eq_some_iff.1 h
        obtain ⟨u7, hu7, h⟩ := Option.bind_eq_some_iff.1 h
        obtain ⟨u8, hu8, h⟩ := Option.bind_eq_some_iff.1 h
        obtain ⟨u9, hu9, h⟩ := Option.bind_eq_some_iff.1 h
        obtain ⟨u10, hu10, h⟩ := Option.bind_eq_some_iff.1 h
        simp only [Option.some.injEq] at h
        subst h
        exact ⟨2, _, _, by decide, WkA.env (WkA.cons (boolOf_wk hu0) rfl WkA.nil) 53, (wkR_sig (WkR.cons (cellsN_wk hu1 (.cons (intOf_wk hu2) (.cons (intOf_wk hu3) (.cons (strOf_wk hu4) (.cons (lstOf_wk hu5) .nil))))).1 (cellsN_wk hu1 (.cons (intOf_wk hu2) (.cons (intOf_wk hu3) (.cons (strOf_wk hu4) (.cons (lstOf_wk hu5) .nil))))).2 (renL_mem (.cons rfl (.cons rfl (.cons rfl (.cons rfl .nil))))) (WkR.cons (cellsN_wk hu6 (.cons (intOf_wk hu7) (.cons (intOf_wk hu8) (.cons (strOf_wk hu9) (.cons (lstOf_wk hu10) .nil))))).1 (cellsN_wk hu6 (.cons (intOf_wk hu7) (.cons (intOf_wk hu8) (.cons (strOf_wk hu9) (.cons (lstOf_wk hu10) .nil))))).2 (renL_mem (.cons rfl (.cons rfl (.cons rfl (.cons rfl .nil))))) (WkR.nil _))) rfl), rfl, rfl, rfl⟩
      · cases h
theorem l_sutureref1_SameExpr_4_ok (b : B_sutureref1_SameExpr) (hb : B_sutureref1_SameExpr_ok b) (n : Nat) : LoopOk Tryd.prog (sp_sutureref1_SameExpr b n) 0 53 code_l_sutureref1_SameExpr_4 := by
    intro R key E sg K r hk h
    rw [show Go.Eng.keyOf code_l_sutureref1_SameExpr_4 = some 4 from by kernel_rfl] at hk
    cases hk
    have h : l_sutureref1_SameExpr_4_S b n R E sg K = some r := h
    unfold l_sutureref1_SameExpr_4_S at h
    obtain ⟨u0, hu0, h⟩ := Option.bind_eq_some_iff.1 h
    obtain ⟨u1, hu1, h⟩ := Option.bind_eq_some_iff.1 h
    obtain ⟨u2, hu2, h⟩ := Option.bind_eq_some_iff.1 h
    obtain ⟨u3, hu3, h⟩ := Option.bind_eq_some_iff.1 h
    obtain ⟨u4, hu4, h⟩ := Option.bind_eq_some_iff.1 h
    obtain ⟨u5, hu5, h⟩ := Option.bind_eq_some_iff.1 h
    obtain ⟨u6, hu6, h⟩ := Option.bind_eq_some_iff.1 h
    obtain ⟨u7, hu7, h⟩ := Option.bind_eq_some_iff.1 h
    obtain ⟨u8, hu8, h⟩ := Option.bind_eq_some_iff.1 h
    obtain ⟨u9, hu9, h⟩ := Option.bind_eq_some_iff.1 h
    obtain ⟨u10, hu10, h⟩ := Option.bind_eq_some_iff.1 h
    obtain ⟨u11, hu11, h⟩ := Option.bind_eq_some_iff.1 h
    obtain ⟨u12, hu12, h⟩ := Option.bind_eq_some_iff.1 h
    obtain ⟨x, hx, h⟩ := Option.bind_eq_some_iff.1 h
    refine (SemL.pre (k := 2) (by decide) (WkA.env (WkA.cons (ptrOf_wk hu0) rfl (WkA.cons (ptrOf_wk hu1) rfl (WkA.cons (intOf_wk hu2) rfl WkA.nil))) 53) (wkR_sig (WkR.cons (cellsN_wk hu3 (.cons (intOf_wk hu4) (.cons (intOf_wk hu5) (.cons (strOf_wk hu6) (.cons (lstOf_wk hu7) .nil))))).1 (cellsN_wk hu3 (.cons (intOf_wk hu4) (.cons (intOf_wk hu5) (.cons (strOf_wk hu6) (.cons (lstOf_wk hu7) .nil))))).2 (renL_mem (.cons rfl (.cons rfl (.cons rfl (.cons rfl .nil))))) (WkR.cons (cellsN_wk hu8 (.cons (intOf_wk hu9) (.cons (intOf_wk hu10) (.cons (strOf_wk hu11) (.cons (lstOf_wk hu12) .nil))))).1 (cellsN_wk hu8 (.cons (intOf_wk hu9) (.cons (intOf_wk hu10) (.cons (strOf_wk hu11) (.cons (lstOf_wk hu12) .nil))))).2 (renL_mem (.cons rfl (.cons rfl (.cons rfl (.cons rfl .nil))))) (WkR.nil _))) rfl) (l_sutureref1_SameExpr_4_run b hb n n _ _ _ _ _ _ _ _ _ x hx)).mono ?_
    intro ex e s hq
    rcases x with x | x <;> (obtain ⟨rfl, rfl, rfl⟩ := hq; exact ⟨_, rfl, h⟩) -- 5
def K_sutureref1_SameExpr (v : V) (s : Sig) : Option (Bool) := Option.bind (V.boolOf v) fun u0 => some u0
theorem K_sutureref1_SameExpr_wk {v : V} {s : Sig} {r : Bool} (h : K_sutureref1_SameExpr v s = some r) : Wk v (enc_sutureref1_SameExpr r) ∧ WkS 0 s (encS_sutureref1_SameExpr r) := by
  unfold K_sutureref1_SameExpr at h
  obtain ⟨u0, hu0, h⟩ := Option.bind_eq_some_iff.1 h
  simp only [Option.some.injEq] at h
  subst h
  exact ⟨(boolOf_wk hu0), (WkS.none _)⟩
theorem f_sutureref1_SameExpr_eq (b : B_sutureref1_SameExpr) (n : Nat) (a0 : Int) (a1 : Int) (a2 : ByteArray) (a3 : List T) (a4 : Int) (a5 : Int) (a6 : ByteArray) (a7 : List T) : mF Tryd.prog (sp_sutureref1_SameExpr b n) 12 [(V.agg [(V.t (T.sc (.int .i64 a0))), (V.t (T.sc (.int .i64 a1))), (V.t (T.sc (.string a2))), (V.t (T.list a3))]), (V.agg [(V.t (T.sc (.int .i64 a4))), (V.t (T.sc (.int .i64 a5))), (V.t (T.sc (.string a6))), (V.t (T.list a7))])] [] K_sutureref1_SameExpr = f_sutureref1_SameExpr b n a0 a1 a2 a3 a4 a5 a6 a7 := by kernel_rfl
theorem f_sutureref1_SameExpr_ok (b : B_sutureref1_SameExpr) (hb : B_sutureref1_SameExpr_ok b) (n : Nat) : ok_sutureref1_SameExpr (f_sutureref1_SameExpr b n) := fun a0 a1 a2 a3 a4 a5 a6 a7 r h => mF_ok sound (sp_sutureref1_SameExpr_ok b hb n) code_sutureref1_SameExpr_fn code_sutureref1_SameExpr_body (forall_getD (d := .skip) 1 (by kernel_rfl) (fun i hi => match i, hi with | 0, _ => l_sutureref1_SameExpr_4_ok b hb n | i + 1, hi => absurd hi (by omega))) (no_scope (by kernel_rfl)) ((f_sutureref1_SameExpr_eq b n a0 a1 a2 a3 a4 a5 a6 a7).trans h) (fun v s hk => ⟨(K_sutureref1_SameExpr_wk hk).1, rfl, (K_sutureref1_SameExpr_wk hk).2⟩)
def unB_sutureref1_SameExpr (n : Nat) : Nat → B_sutureref1_SameExpr
  | 0 => { sutureref1_SameExpr := fun _ _ _ _ _ _ _ _ => none }
  | m + 1 => { sutureref1_SameExpr := f_sutureref1_SameExpr (unB_sutureref1_SameExpr n m) n }
theorem unB_sutureref1_SameExpr_ok (n : Nat) : ∀ m, B_sutureref1_SameExpr_ok (unB_sutureref1_SameExpr n m)
  | 0 => { sutureref1_SameExpr := fun _ _ _ _ _ _ _ _ _ h => (nomatch (show none = some _ from h)) }
  | m + 1 => { sutureref1_SameExpr := f_sutureref1_SameExpr_ok _ (unB_sutureref1_SameExpr_ok n m) n }
def m_sutureref1_SameExpr (n : Nat) : Int → Int → ByteArray → List T → Int → Int → ByteArray → List T → Option (Bool) := (unB_sutureref1_SameExpr n n).sutureref1_SameExpr
theorem m_sutureref1_SameExpr_ok (n : Nat) : ok_sutureref1_SameExpr (m_sutureref1_SameExpr n) := (unB_sutureref1_SameExpr_ok n n).sutureref1_SameExpr


/-! suture/suturelaw4.ExprBack -/
def m_suturelaw4_ExprBack (n : Nat) (a0 : List T) : Option (Bool) :=
Option.bind (m_suturelaw4_text n a0) fun r0 =>
Option.bind (m_suturelaw4_read n r0) fun r1 =>
Option.bind (m_suturelaw4_known n) fun r2 =>
bif (bif (!r2) then true else (!r1.2.2.2.2.2.1)) then (
Option.bind (m_suturelaw4_known n) fun r3 =>
some r3)
else (
Option.bind (m_expr_Print n r1.1 r1.2.1 r1.2.2.1 r1.2.2.2.1) fun r4 =>
Option.bind (m_suturelaw4_read n r4) fun r5 =>
Option.bind (bif (bif (bif (bif (decide ((r1.2.2.2.2.1 : Int) < r1.2.2.2.2.2.2)) then (!(ByteArray.toList r4 == ByteArray.toList (⟨#[]⟩ : ByteArray))) else false) then r5.2.2.2.2.2.1 else false) then ((r5.2.2.2.2.1 : Int) == (IntKind.wrap .i64 (r5.2.2.2.2.2.2 - 1))) else false) then m_sutureref1_SameExpr n r1.1 r1.2.1 r1.2.2.1 r1.2.2.2.1 r5.1 r5.2.1 r5.2.2.1 r5.2.2.2.1 else some false) fun r6 =>
Option.bind (bif (bif (bif (bif (bif (decide ((r1.2.2.2.2.1 : Int) < r1.2.2.2.2.2.2)) then (!(ByteArray.toList r4 == ByteArray.toList (⟨#[]⟩ : ByteArray))) else false) then r5.2.2.2.2.2.1 else false) then ((r5.2.2.2.2.1 : Int) == (IntKind.wrap .i64 (r5.2.2.2.2.2.2 - 1))) else false) then r6 else false) then m_expr_Print n r5.1 r5.2.1 r5.2.2.1 r5.2.2.2.1 else some default) fun r7 =>
Option.bind (bif (bif (bif (bif (bif (bif (decide ((r1.2.2.2.2.1 : Int) < r1.2.2.2.2.2.2)) then (!(ByteArray.toList r4 == ByteArray.toList (⟨#[]⟩ : ByteArray))) else false) then r5.2.2.2.2.2.1 else false) then ((r5.2.2.2.2.1 : Int) == (IntKind.wrap .i64 (r5.2.2.2.2.2.2 - 1))) else false) then r6 else false) then (ByteArray.toList r7 == ByteArray.toList r4) else false) then m_expr_Right n r1.1 r1.2.1 r1.2.2.1 r1.2.2.2.1 else some false) fun r8 =>
some (bif (bif (bif (bif (bif (bif (decide ((r1.2.2.2.2.1 : Int) < r1.2.2.2.2.2.2)) then (!(ByteArray.toList r4 == ByteArray.toList (⟨#[]⟩ : ByteArray))) else false) then r5.2.2.2.2.2.1 else false) then ((r5.2.2.2.2.1 : Int) == (IntKind.wrap .i64 (r5.2.2.2.2.2.2 - 1))) else false) then r6 else false) then (ByteArray.toList r7 == ByteArray.toList r4) else false) then r8 else false))
def enc_suturelaw4_ExprBack (r : Bool) : V := (V.t (T.sc (.bool r)))
def encS_suturelaw4_ExprBack (r : Bool) : Sig := []
def ok_suturelaw4_ExprBack (m : List T → Option (Bool)) : Prop := ∀ (a0 : List T) (r : Bool), m a0 = some r → FuncOk Tryd.prog 4 [(V.t (T.list a0))] [] (enc_suturelaw4_ExprBack r) (encS_suturelaw4_ExprBack r)
def c_suturelaw4_ExprBack (m : List T → Option (Bool)) (vs : List V) (sg : Sig) : Option CallM := bif Nat.beq vs.length 1 && Nat.beq sg.length 0 then Option.bind (V.lstOf (vs.getD 0 .any)) fun u0 => some { α := Bool, m := m u0, dflt := false, enc := fun y => ((V.t (T.sc (.bool y))), []) } else none
theorem c_suturelaw4_ExprBack_ok (m : List T → Option (Bool)) (hm : ok_suturelaw4_ExprBack m) (vs : List V) (sg : Sig) (cm : CallM) (x : cm.α) (h : c_suturelaw4_ExprBack m vs sg = some cm) (hx : cm.m = some x) : FuncOk Tryd.prog 4 vs sg (cm.enc x).1 (cm.enc x).2 := by
  unfold c_suturelaw4_ExprBack at h
  have h0 := callee_sig h
  clear h
  obtain ⟨hl, hs, h⟩ := h0
  obtain ⟨u0, hu0, h⟩ := Option.bind_eq_some_iff.1 h
  simp only [Option.some.injEq] at h
  subst h
  exact (hm u0 x hx).wk (args_wk hl (.cons (lstOf_wk hu0) .nil)) (wkSg_of hs .nil)
noncomputable def code_suturelaw4_ExprBack : Code := Tryd.f4.body.getD .skip
noncomputable def sp_suturelaw4_ExprBack (n : Nat) : Go.Eng.Spec := ⟨fun f vs sg => (match f with
    | 11 => c_suturelaw4_text (m_suturelaw4_text n) vs sg
    | 7 => c_suturelaw4_read (m_suturelaw4_read n) vs sg
    | 9 => c_suturelaw4_known (m_suturelaw4_known n) vs sg
    | 8 => c_expr_Print (m_expr_Print n) vs sg
    | 12 => c_sutureref1_SameExpr (m_sutureref1_SameExpr n) vs sg
    | 10 => c_expr_Right (m_expr_Right n) vs sg
    | _ => none), fun R key E sg K => (match key with
    | _ => none)⟩
theorem sp_suturelaw4_ExprBack_ok (n : Nat) : CallsOk Tryd.prog (sp_suturelaw4_ExprBack n) := by
  intro f vs sg cm x h hx
  simp only [sp_suturelaw4_ExprBack] at h
  split at h
  · exact c_suturelaw4_text_ok _ (m_suturelaw4_text_ok n) vs sg cm x h hx
  · exact c_suturelaw4_read_ok _ (m_suturelaw4_read_ok n) vs sg cm x h hx
  · exact c_suturelaw4_known_ok _ (m_suturelaw4_known_ok n) vs sg cm x h hx
  · exact c_expr_Print_ok _ (m_expr_Print_ok n) vs sg cm x h hx
  · exact c_sutureref1_SameExpr_ok _ (m_sutureref1_SameExpr_ok n) vs sg cm x h hx
  · exact c_expr_Right_ok _ (m_expr_Right_ok n) vs sg cm x h hx
  · cases h
theorem code_suturelaw4_ExprBack_fn : Tryd.prog.funcs[4]? = some Tryd.f4 := Tryd.func4
theorem code_suturelaw4_ExprBack_body : Tryd.f4.body = some code_suturelaw4_ExprBack := by kernel_rfl
theorem code_suturelaw4_ExprBack_ok : CodeOk Tryd.prog code_suturelaw4_ExprBack := (sound 4 _ _ code_suturelaw4_ExprBack_fn code_suturelaw4_ExprBack_body).1
def K_suturelaw4_ExprBack (v : V) (s : Sig) : Option (Bool) := Option.bind (V.boolOf v) fun u0 => some u0
theorem K_suturelaw4_ExprBack_wk {v : V} {s : Sig} {r : Bool} (h : K_suturelaw4_ExprBack v s = some r) : Wk v (enc_suturelaw4_ExprBack r) ∧ WkS 0 s (encS_suturelaw4_ExprBack r) := by
  unfold K_suturelaw4_ExprBack at h
  obtain ⟨u0, hu0, h⟩ := Option.bind_eq_some_iff.1 h
  simp only [Option.some.injEq] at h
  subst h
  exact ⟨(boolOf_wk hu0), (WkS.none _)⟩
theorem m_suturelaw4_ExprBack_eq (n : Nat) (a0 : List T) : mF Tryd.prog (sp_suturelaw4_ExprBack n) 4 [(V.t (T.list a0))] [] K_suturelaw4_ExprBack = m_suturelaw4_ExprBack n a0 := by kernel_rfl
theorem m_suturelaw4_ExprBack_ok (n : Nat) : ok_suturelaw4_ExprBack (m_suturelaw4_ExprBack n) := fun a0 r h => mF_ok sound (sp_suturelaw4_ExprBack_ok n) code_suturelaw4_ExprBack_fn code_suturelaw4_ExprBack_body (fun a ha => absurd ha (by rw [show loopsOf code_suturelaw4_ExprBack = [] from by kernel_rfl]; simp)) (no_scope (by kernel_rfl)) ((m_suturelaw4_ExprBack_eq n a0).trans h) (fun v s hk => ⟨(K_suturelaw4_ExprBack_wk hk).1, rfl, (K_suturelaw4_ExprBack_wk hk).2⟩)


/-! suture/suturehand.plain -/
def m_suturehand_plain (n : Nat) (a0 : Int) : Option (ByteArray) :=
Option.bind (m_suturehand_Pick n a0 8) fun r0 =>
Option.bind (idx1 true (.str) [(T.sc (.string (⟨#[120]⟩ : ByteArray))), (T.sc (.string (⟨#[120]⟩ : ByteArray))), (T.sc (.string (⟨#[121]⟩ : ByteArray))), (T.sc (.string (⟨#[122]⟩ : ByteArray))), (T.sc (.string (⟨#[97]⟩ : ByteArray))), (T.sc (.string (⟨#[116]⟩ : ByteArray))), (T.sc (.string (⟨#[120]⟩ : ByteArray))), (T.sc (.string (⟨#[121]⟩ : ByteArray)))] r0) fun y1 =>
some y1.str
def enc_suturehand_plain (r : ByteArray) : V := (V.t (T.sc (.string r)))
def encS_suturehand_plain (r : ByteArray) : Sig := []
def ok_suturehand_plain (m : Int → Option (ByteArray)) : Prop := ∀ (a0 : Int) (r : ByteArray), m a0 = some r → FuncOk Tryd.prog 19 [(V.t (T.sc (.int .i64 a0)))] [] (enc_suturehand_plain r) (encS_suturehand_plain r)
def c_suturehand_plain (m : Int → Option (ByteArray)) (vs : List V) (sg : Sig) : Option CallM := bif Nat.beq vs.length 1 && Nat.beq sg.length 0 then Option.bind (V.intOf .i64 (vs.getD 0 .any)) fun u0 => some { α := ByteArray, m := m u0, dflt := default, enc := fun y => ((V.t (T.sc (.string y))), []) } else none
theorem c_suturehand_plain_ok (m : Int → Option (ByteArray)) (hm : ok_suturehand_plain m) (vs : List V) (sg : Sig) (cm : CallM) (x : cm.α) (h : c_suturehand_plain m vs sg = some cm) (hx : cm.m = some x) : FuncOk Tryd.prog 19 vs sg (cm.enc x).1 (cm.enc x).2 := by
  unfold c_suturehand_plain at h
  have h0 := callee_sig h
  clear h
  obtain ⟨hl, hs, h⟩ := h0
  obtain ⟨u0, hu0, h⟩ := Option.bind_eq_some_iff.1 h
  simp only [Option.some.injEq] at h
  subst h
  exact (hm u0 x hx).wk (args_wk hl (.cons (intOf_wk hu0) .nil)) (wkSg_of hs .nil)
noncomputable def code_suturehand_plain : Code := Tryd.f19.body.getD .skip
noncomputable def sp_suturehand_plain (n : Nat) : Go.Eng.Spec := ⟨fun f vs sg => (match f with
    | 14 => c_suturehand_Pick (m_suturehand_Pick n) vs sg
    | _ => none), fun R key E sg K => (match key with
    | _ => none)⟩
theorem sp_suturehand_plain_ok (n : Nat) : CallsOk Tryd.prog (sp_suturehand_plain n) := by
  intro f vs sg cm x h hx
  simp only [sp_suturehand_plain] at h
  split at h
  · exact c_suturehand_Pick_ok _ (m_suturehand_Pick_ok n) vs sg cm x h hx
  · cases h
theorem code_suturehand_plain_fn : Tryd.prog.funcs[19]? = some Tryd.f19 := Tryd.func19
theorem code_suturehand_plain_body : Tryd.f19.body = some code_suturehand_plain := by kernel_rfl
theorem code_suturehand_plain_ok : CodeOk Tryd.prog code_suturehand_plain := (sound 19 _ _ code_suturehand_plain_fn code_suturehand_plain_body).1
def K_suturehand_plain (v : V) (s : Sig) : Option (ByteArray) := Option.bind (V.strOf v) fun u0 => some u0
theorem K_suturehand_plain_wk {v : V} {s : Sig} {r : ByteArray} (h : K_suturehand_plain v s = some r) : Wk v (enc_suturehand_plain r) ∧ WkS 0 s (encS_suturehand_plain r) := by
  unfold K_suturehand_plain at h
  obtain ⟨u0, hu0, h⟩ := Option.bind_eq_some_iff.1 h
  simp only [Option.some.injEq] at h
  subst h
  exact ⟨(strOf_wk hu0), (WkS.none _)⟩
theorem m_suturehand_plain_eq (n : Nat) (a0 : Int) : mF Tryd.prog (sp_suturehand_plain n) 19 [(V.t (T.sc (.int .i64 a0)))] [] K_suturehand_plain = m_suturehand_plain n a0 := by kernel_rfl
theorem m_suturehand_plain_ok (n : Nat) : ok_suturehand_plain (m_suturehand_plain n) := fun a0 r h => mF_ok sound (sp_suturehand_plain_ok n) code_suturehand_plain_fn code_suturehand_plain_body (fun a ha => absurd ha (by rw [show loopsOf code_suturehand_plain = [] from by kernel_rfl]; simp)) (no_scope (by kernel_rfl)) ((m_suturehand_plain_eq n a0).trans h) (fun v s hk => ⟨(K_suturehand_plain_wk hk).1, rfl, (K_suturehand_plain_wk hk).2⟩)


/-! suturehand_Expr: a circle -/
structure B_suturehand_Expr where
  suturehand_Expr : List T → Int → Option (Int × Int × ByteArray × (List T))
def enc_suturehand_Expr (r : Int × Int × ByteArray × (List T)) : V := (V.agg [(V.t (T.sc (.int .i64 r.1))), (V.t (T.sc (.int .i64 r.2.1))), (V.t (T.sc (.string r.2.2.1))), (V.t (T.list r.2.2.2))])
def encS_suturehand_Expr (r : Int × Int × ByteArray × (List T)) : Sig := []
def ok_suturehand_Expr (m : List T → Int → Option (Int × Int × ByteArray × (List T))) : Prop := ∀ (a0 : List T) (a1 : Int) (r : Int × Int × ByteArray × (List T)), m a0 a1 = some r → FuncOk Tryd.prog 13 [(V.t (T.list a0)), (V.t (T.sc (.int .i64 a1)))] [] (enc_suturehand_Expr r) (encS_suturehand_Expr r)
def c_suturehand_Expr (m : List T → Int → Option (Int × Int × ByteArray × (List T))) (vs : List V) (sg : Sig) : Option CallM := bif Nat.beq vs.length 2 && Nat.beq sg.length 0 then Option.bind (V.lstOf (vs.getD 0 .any)) fun u0 => Option.bind (V.intOf .i64 (vs.getD 1 .any)) fun u1 => some { α := Int × Int × ByteArray × (List T), m := m u0 u1, dflt := (0, 0, default, []), enc := fun y => ((V.agg [(V.t (T.sc (.int .i64 y.1))), (V.t (T.sc (.int .i64 y.2.1))), (V.t (T.sc (.string y.2.2.1))), (V.t (T.list y.2.2.2))]), []) } else none
theorem c_suturehand_Expr_ok (m : List T → Int → Option (Int × Int × ByteArray × (List T))) (hm : ok_suturehand_Expr m) (vs : List V) (sg : Sig) (cm : CallM) (x : cm.α) (h : c_suturehand_Expr m vs sg = some cm) (hx : cm.m = some x) : FuncOk Tryd.prog 13 vs sg (cm.enc x).1 (cm.enc x).2 := by
  unfold c_suturehand_Expr at h
  have h0 := callee_sig h
  clear h
  obtain ⟨hl, hs, h⟩ := h0
  obtain ⟨u0, hu0, h⟩ := Option.bind_eq_some_iff.1 h
  obtain ⟨u1, hu1, h⟩ := Option.bind_eq_some_iff.1 h
  simp only [Option.some.injEq] at h
  subst h
  exact (hm u0 u1 x hx).wk (args_wk hl (.cons (lstOf_wk hu0) (.cons (intOf_wk hu1) .nil))) (wkSg_of hs .nil)
structure B_suturehand_Expr_ok (b : B_suturehand_Expr) : Prop where
  suturehand_Expr : ok_suturehand_Expr b.suturehand_Expr

/-! suture/suturehand.Expr -/
def f_suturehand_Expr (b : B_suturehand_Expr) (n : Nat) (a0 : List T) (a1 : Int) : Option (Int × Int × ByteArray × (List T)) :=
bif ((((List.length a0 : Nat) : Int) : Int) == 0) then (
some (1, 1, (⟨#[]⟩ : ByteArray), ([] : List T)))
else (
Option.bind (idx true [.int .i64] a0 0) fun y0 =>
Option.bind (m_suturehand_Pick n (y0.cell 0).int 16) fun r1 =>
bif (bif (decide ((r1 : Int) < 5)) then true else (decide ((a1 : Int) > 5))) then (
must true (!decide (16 = 0)) (Option.bind (m_suturehand_plain n (IntKind.wrap .i64 (Int.tdiv (y0.cell 0).int 16))) fun r2 =>
some (2, 0, r2, ([] : List T))))
else (
bif (decide ((r1 : Int) < 8)) then (
must true (!decide (16 = 0)) (Option.bind (m_suturehand_Pick n (IntKind.wrap .i64 (Int.tdiv (y0.cell 0).int 16)) 5) fun r3 =>
some (1, r3, (⟨#[]⟩ : ByteArray), ([] : List T))))
else (
bif ((r1 : Int) == 8) then (
must true (decide (0 ≤ 1) && decide (1 ≤ ((List.length a0 : Nat) : Int)) && decide (((List.length a0 : Nat) : Int) ≤ ((List.length a0 : Nat) : Int)) && sized 1 a0) (Option.bind (b.suturehand_Expr (List.drop (Int.toNat 1) (List.take (Int.toNat ((List.length a0 : Nat) : Int)) a0)) (IntKind.wrap .i64 (a1 + 1))) fun r4 =>
some (3, 0, (⟨#[]⟩ : ByteArray), [(T.agg [(T.sc (.int .i64 r4.1)), (T.sc (.int .i64 r4.2.1)), (T.sc (.string r4.2.2.1)), (T.list r4.2.2.2)])])))
else (
must true (!decide (16 = 0)) (Option.bind (m_suturehand_Pick n (IntKind.wrap .i64 (Int.tdiv (y0.cell 0).int 16)) 7) fun r5 =>
must true (!decide (2 = 0)) (must true (decide (0 ≤ 1) && decide (1 ≤ (IntKind.wrap .i64 (1 + (IntKind.wrap .i64 (Int.tdiv ((List.length a0 : Nat) : Int) 2))))) && decide ((IntKind.wrap .i64 (1 + (IntKind.wrap .i64 (Int.tdiv ((List.length a0 : Nat) : Int) 2)))) ≤ ((List.length a0 : Nat) : Int)) && sized 1 a0) (Option.bind (b.suturehand_Expr (List.drop (Int.toNat 1) (List.take (Int.toNat (IntKind.wrap .i64 (1 + (IntKind.wrap .i64 (Int.tdiv ((List.length a0 : Nat) : Int) 2))))) a0)) (IntKind.wrap .i64 (a1 + 1))) fun r6 =>
must true (decide (0 ≤ (IntKind.wrap .i64 (1 + (IntKind.wrap .i64 (Int.tdiv ((List.length a0 : Nat) : Int) 2))))) && decide ((IntKind.wrap .i64 (1 + (IntKind.wrap .i64 (Int.tdiv ((List.length a0 : Nat) : Int) 2)))) ≤ ((List.length a0 : Nat) : Int)) && decide (((List.length a0 : Nat) : Int) ≤ ((List.length a0 : Nat) : Int)) && sized 1 a0) (Option.bind (b.suturehand_Expr (List.drop (Int.toNat (IntKind.wrap .i64 (1 + (IntKind.wrap .i64 (Int.tdiv ((List.length a0 : Nat) : Int) 2))))) (List.take (Int.toNat ((List.length a0 : Nat) : Int)) a0)) (IntKind.wrap .i64 (a1 + 1))) fun r7 =>
some ((IntKind.wrap .i64 (4 + r5)), 0, (⟨#[]⟩ : ByteArray), [(T.agg [(T.sc (.int .i64 r6.1)), (T.sc (.int .i64 r6.2.1)), (T.sc (.string r6.2.2.1)), (T.list r6.2.2.2)]), (T.agg [(T.sc (.int .i64 r7.1)), (T.sc (.int .i64 r7.2.1)), (T.sc (.string r7.2.2.1)), (T.list r7.2.2.2)])])))))))))
noncomputable def code_suturehand_Expr : Code := Tryd.f13.body.getD .skip
noncomputable def sp_suturehand_Expr (b : B_suturehand_Expr) (n : Nat) : Go.Eng.Spec := ⟨fun f vs sg => (match f with
    | 14 => c_suturehand_Pick (m_suturehand_Pick n) vs sg
    | 19 => c_suturehand_plain (m_suturehand_plain n) vs sg
    | 13 => c_suturehand_Expr b.suturehand_Expr vs sg
    | _ => none), fun R key E sg K => (match key with
    | _ => none)⟩
theorem sp_suturehand_Expr_ok (b : B_suturehand_Expr) (hb : B_suturehand_Expr_ok b) (n : Nat) : CallsOk Tryd.prog (sp_suturehand_Expr b n) := by
  intro f vs sg cm x h hx
  simp only [sp_suturehand_Expr] at h
  split at h
  · exact c_suturehand_Pick_ok _ (m_suturehand_Pick_ok n) vs sg cm x h hx
  · exact c_suturehand_plain_ok _ (m_suturehand_plain_ok n) vs sg cm x h hx
  · exact c_suturehand_Expr_ok _ hb.suturehand_Expr vs sg cm x h hx
  · cases h
theorem code_suturehand_Expr_fn : Tryd.prog.funcs[13]? = some Tryd.f13 := Tryd.func13
theorem code_suturehand_Expr_body : Tryd.f13.body = some code_suturehand_Expr := by kernel_rfl
theorem code_suturehand_Expr_ok : CodeOk Tryd.prog code_suturehand_Expr := (sound 13 _ _ code_suturehand_Expr_fn code_suturehand_Expr_body).1
def K_suturehand_Expr (v : V) (s : Sig) : Option (Int × Int × ByteArray × (List T)) := Option.bind (V.aggN 4 v) fun u0 => Option.bind (V.intOf .i64 (u0.getD 0 .any)) fun u1 => Option.bind (V.intOf .i64 (u0.getD 1 .any)) fun u2 => Option.bind (V.strOf (u0.getD 2 .any)) fun u3 => Option.bind (V.lstOf (u0.getD 3 .any)) fun u4 => some (u1, u2, u3, u4)
theorem K_suturehand_Expr_wk {v : V} {s : Sig} {r : Int × Int × ByteArray × (List T)} (h : K_suturehand_Expr v s = some r) : Wk v (enc_suturehand_Expr r) ∧ WkS 0 s (encS_suturehand_Expr r) := by
  unfold K_suturehand_Expr at h
  obtain ⟨u0, hu0, h⟩ := Option.bind_eq_some_iff.1 h
  obtain ⟨u1, hu1, h⟩ := Option.bind_eq_some_iff.1 h
  obtain ⟨u2, hu2, h⟩ := Option.bind_eq_some_iff.1 h
  obtain ⟨u3, hu3, h⟩ := Option.bind_eq_some_iff.1 h
  obtain ⟨u4, hu4, h⟩ := Option.bind_eq_some_iff.1 h
  simp only [Option.some.injEq] at h
  subst h
  exact ⟨(aggN_wk hu0 (.cons (intOf_wk hu1) (.cons (intOf_wk hu2) (.cons (strOf_wk hu3) (.cons (lstOf_wk hu4) .nil))))), (WkS.none _)⟩
theorem f_suturehand_Expr_eq (b : B_suturehand_Expr) (n : Nat) (a0 : List T) (a1 : Int) : mF Tryd.prog (sp_suturehand_Expr b n) 13 [(V.t (T.list a0)), (V.t (T.sc (.int .i64 a1)))] [] K_suturehand_Expr = f_suturehand_Expr b n a0 a1 := by kernel_rfl
theorem f_suturehand_Expr_ok (b : B_suturehand_Expr) (hb : B_suturehand_Expr_ok b) (n : Nat) : ok_suturehand_Expr (f_suturehand_Expr b n) := fun a0 a1 r h => mF_ok sound (sp_suturehand_Expr_ok b hb n) code_suturehand_Expr_fn code_suturehand_Expr_body (fun a ha => absurd ha (by rw [show loopsOf code_suturehand_Expr = [] from by kernel_rfl]; simp)) (no_scope (by kernel_rfl)) ((f_suturehand_Expr_eq b n a0 a1).trans h) (fun v s hk => ⟨(K_suturehand_Expr_wk hk).1, rfl, (K_suturehand_Expr_wk hk).2⟩)
def unB_suturehand_Expr (n : Nat) : Nat → B_suturehand_Expr
  | 0 => { suturehand_Expr := fun _ _ => none }
  | m + 1 => { suturehand_Expr := f_suturehand_Expr (unB_suturehand_Expr n m) n }
theorem unB_suturehand_Expr_ok (n : Nat) : ∀ m, B_suturehand_Expr_ok (unB_suturehand_Expr n m)
  | 0 => { suturehand_Expr := fun _ _ _ h => (nomatch (show none = some _ from h)) }
  | m + 1 => { suturehand_Expr := f_suturehand_Expr_ok _ (unB_suturehand_Expr_ok n m) n }
def m_suturehand_Expr (n : Nat) : List T → Int → Option (Int × Int × ByteArray × (List T)) := (unB_suturehand_Expr n n).suturehand_Expr
theorem m_suturehand_Expr_ok (n : Nat) : ok_suturehand_Expr (m_suturehand_Expr n) := (unB_suturehand_Expr_ok n n).suturehand_Expr


/-! suture/suturelaw4.ExprParens -/
def m_suturelaw4_ExprParens (n : Nat) (a0 : List T) : Option (Bool) :=
Option.bind (m_suturehand_Expr n a0 0) fun r0 =>
Option.bind (m_expr_Print n r0.1 r0.2.1 r0.2.2.1 r0.2.2.2) fun r1 =>
bif (ByteArray.toList r1 == ByteArray.toList (⟨#[]⟩ : ByteArray)) then (
Option.bind (m_suturelaw4_known n) fun r2 =>
Option.bind (bif r2 then m_expr_Right n r0.1 r0.2.1 r0.2.2.1 r0.2.2.2 else some false) fun r3 =>
some (bif r2 then (!r3) else false))
else (
must true (decide (((ByteArray.size (⟨#[40]⟩ : ByteArray) + ByteArray.size r1 : Nat) : Int) ≤ IntKind.i64.max)) (must true (decide (((ByteArray.size ((⟨#[40]⟩ : ByteArray) ++ r1) + ByteArray.size (⟨#[41]⟩ : ByteArray) : Nat) : Int) ≤ IntKind.i64.max)) (Option.bind (m_suturelaw4_read n (((⟨#[40]⟩ : ByteArray) ++ r1) ++ (⟨#[41]⟩ : ByteArray))) fun r4 =>
must true (decide (((ByteArray.size (⟨#[45, 40]⟩ : ByteArray) + ByteArray.size r1 : Nat) : Int) ≤ IntKind.i64.max)) (must true (decide (((ByteArray.size ((⟨#[45, 40]⟩ : ByteArray) ++ r1) + ByteArray.size (⟨#[41]⟩ : ByteArray) : Nat) : Int) ≤ IntKind.i64.max)) (Option.bind (m_suturelaw4_read n (((⟨#[45, 40]⟩ : ByteArray) ++ r1) ++ (⟨#[41]⟩ : ByteArray))) fun r5 =>
bif (bif (!r4.2.2.2.2.2.1) then true else (!r5.2.2.2.2.2.1)) then (
Option.bind (m_suturelaw4_known n) fun r6 =>
some r6)
else (
Option.bind (m_suturelaw4_known n) fun r7 =>
Option.bind (bif r7 then m_sutureref1_SameExpr n r4.1 r4.2.1 r4.2.2.1 r4.2.2.2.1 r0.1 r0.2.1 r0.2.2.1 r0.2.2.2 else some false) fun r8 =>
Option.bind (bif (bif r7 then r8 else false) then m_sutureref1_SameExpr n r5.1 r5.2.1 r5.2.2.1 r5.2.2.2.1 3 0 (⟨#[]⟩ : ByteArray) [(T.agg [(T.sc (.int .i64 r0.1)), (T.sc (.int .i64 r0.2.1)), (T.sc (.string r0.2.2.1)), (T.list r0.2.2.2)])] else some false) fun r9 =>
some (bif (bif r7 then r8 else false) then r9 else false)))))))
def enc_suturelaw4_ExprParens (r : Bool) : V := (V.t (T.sc (.bool r)))
def encS_suturelaw4_ExprParens (r : Bool) : Sig := []
def ok_suturelaw4_ExprParens (m : List T → Option (Bool)) : Prop := ∀ (a0 : List T) (r : Bool), m a0 = some r → FuncOk Tryd.prog 5 [(V.t (T.list a0))] [] (enc_suturelaw4_ExprParens r) (encS_suturelaw4_ExprParens r)
def c_suturelaw4_ExprParens (m : List T → Option (Bool)) (vs : List V) (sg : Sig) : Option CallM := bif Nat.beq vs.length 1 && Nat.beq sg.length 0 then Option.bind (V.lstOf (vs.getD 0 .any)) fun u0 => some { α := Bool, m := m u0, dflt := false, enc := fun y => ((V.t (T.sc (.bool y))), []) } else none
theorem c_suturelaw4_ExprParens_ok (m : List T → Option (Bool)) (hm : ok_suturelaw4_ExprParens m) (vs : List V) (sg : Sig) (cm : CallM) (x : cm.α) (h : c_suturelaw4_ExprParens m vs sg = some cm) (hx : cm.m = some x) : FuncOk Tryd.prog 5 vs sg (cm.enc x).1 (cm.enc x).2 := by
  unfold c_suturelaw4_ExprParens at h
  have h0 := callee_sig h
  clear h
  obtain ⟨hl, hs, h⟩ := h0
  obtain ⟨u0, hu0, h⟩ := Option.bind_eq_some_iff.1 h
  simp only [Option.some.injEq] at h
  subst h
  exact (hm u0 x hx).wk (args_wk hl (.cons (lstOf_wk hu0) .nil)) (wkSg_of hs .nil)
noncomputable def code_suturelaw4_ExprParens : Code := Tryd.f5.body.getD .skip
noncomputable def sp_suturelaw4_ExprParens (n : Nat) : Go.Eng.Spec := ⟨fun f vs sg => (match f with
    | 13 => c_suturehand_Expr (m_suturehand_Expr n) vs sg
    | 8 => c_expr_Print (m_expr_Print n) vs sg
    | 9 => c_suturelaw4_known (m_suturelaw4_known n) vs sg
    | 10 => c_expr_Right (m_expr_Right n) vs sg
    | 7 => c_suturelaw4_read (m_suturelaw4_read n) vs sg
    | 12 => c_sutureref1_SameExpr (m_sutureref1_SameExpr n) vs sg
    | _ => none), fun R key E sg K => (match key with
    | _ => none)⟩
theorem sp_suturelaw4_ExprParens_ok (n : Nat) : CallsOk Tryd.prog (sp_suturelaw4_ExprParens n) := by
  intro f vs sg cm x h hx
  simp only [sp_suturelaw4_ExprParens] at h
  split at h
  · exact c_suturehand_Expr_ok _ (m_suturehand_Expr_ok n) vs sg cm x h hx
  · exact c_expr_Print_ok _ (m_expr_Print_ok n) vs sg cm x h hx
  · exact c_suturelaw4_known_ok _ (m_suturelaw4_known_ok n) vs sg cm x h hx
  · exact c_expr_Right_ok _ (m_expr_Right_ok n) vs sg cm x h hx
  · exact c_suturelaw4_read_ok _ (m_suturelaw4_read_ok n) vs sg cm x h hx
  · exact c_sutureref1_SameExpr_ok _ (m_sutureref1_SameExpr_ok n) vs sg cm x h hx
  · cases h
theorem code_suturelaw4_ExprParens_fn : Tryd.prog.funcs[5]? = some Tryd.f5 := Tryd.func5
theorem code_suturelaw4_ExprParens_body : Tryd.f5.body = some code_suturelaw4_ExprParens := by kernel_rfl
theorem code_suturelaw4_ExprParens_ok : CodeOk Tryd.prog code_suturelaw4_ExprParens := (sound 5 _ _ code_suturelaw4_ExprParens_fn code_suturelaw4_ExprParens_body).1
def K_suturelaw4_ExprParens (v : V) (s : Sig) : Option (Bool) := Option.bind (V.boolOf v) fun u0 => some u0
theorem K_suturelaw4_ExprParens_wk {v : V} {s : Sig} {r : Bool} (h : K_suturelaw4_ExprParens v s = some r) : Wk v (enc_suturelaw4_ExprParens r) ∧ WkS 0 s (encS_suturelaw4_ExprParens r) := by
  unfold K_suturelaw4_ExprParens at h
  obtain ⟨u0, hu0, h⟩ := Option.bind_eq_some_iff.1 h
  simp only [Option.some.injEq] at h
  subst h
  exact ⟨(boolOf_wk hu0), (WkS.none _)⟩
theorem m_suturelaw4_ExprParens_eq (n : Nat) (a0 : List T) : mF Tryd.prog (sp_suturelaw4_ExprParens n) 5 [(V.t (T.list a0))] [] K_suturelaw4_ExprParens = m_suturelaw4_ExprParens n a0 := by kernel_rfl
theorem m_suturelaw4_ExprParens_ok (n : Nat) : ok_suturelaw4_ExprParens (m_suturelaw4_ExprParens n) := fun a0 r h => mF_ok sound (sp_suturelaw4_ExprParens_ok n) code_suturelaw4_ExprParens_fn code_suturelaw4_ExprParens_body (fun a ha => absurd ha (by rw [show loopsOf code_suturelaw4_ExprParens = [] from by kernel_rfl]; simp)) (no_scope (by kernel_rfl)) ((m_suturelaw4_ExprParens_eq n a0).trans h) (fun v s hk => ⟨(K_suturelaw4_ExprParens_wk hk).1, rfl, (K_suturelaw4_ExprParens_wk hk).2⟩)


/-! suture/suturelaw4.ExprLeft -/
def m_suturelaw4_ExprLeft (n : Nat) (a0 : List T) (a1 : Int) : Option (Bool) :=
Option.bind (m_suturelaw4_text n a0) fun r0 =>
Option.bind (m_suturelaw4_read n r0) fun r1 =>
Option.bind (m_expr_Print n r1.1 r1.2.1 r1.2.2.1 r1.2.2.2.1) fun r2 =>
Option.bind (m_suturelaw4_known n) fun r3 =>
bif (bif (bif (bif (!r3) then true else (!r1.2.2.2.2.2.1)) then true else ((r1.2.2.2.2.2.2 : Int) == 0)) then true else (ByteArray.toList r2 == ByteArray.toList (⟨#[]⟩ : ByteArray))) then (
Option.bind (m_suturelaw4_known n) fun r4 =>
some r4)
else (
Option.bind (m_suturehand_Pick n a1 5) fun r5 =>
must true (decide (((ByteArray.size (⟨#[40]⟩ : ByteArray) + ByteArray.size r2 : Nat) : Int) ≤ IntKind.i64.max)) (must true (decide (((ByteArray.size ((⟨#[40]⟩ : ByteArray) ++ r2) + ByteArray.size (⟨#[41, 32]⟩ : ByteArray) : Nat) : Int) ≤ IntKind.i64.max)) (Option.bind (idx1 true (.str) [(T.sc (.string (⟨#[43]⟩ : ByteArray))), (T.sc (.string (⟨#[45]⟩ : ByteArray))), (T.sc (.string (⟨#[42]⟩ : ByteArray))), (T.sc (.string (⟨#[47]⟩ : ByteArray))), (T.sc (.string (⟨#[37]⟩ : ByteArray)))] r5) fun y6 =>
must true (decide (((ByteArray.size (((⟨#[40]⟩ : ByteArray) ++ r2) ++ (⟨#[41, 32]⟩ : ByteArray)) + ByteArray.size y6.str : Nat) : Int) ≤ IntKind.i64.max)) (must true (decide (((ByteArray.size ((((⟨#[40]⟩ : ByteArray) ++ r2) ++ (⟨#[41, 32]⟩ : ByteArray)) ++ y6.str) + ByteArray.size (⟨#[32, 51, 32, 45, 32, 52]⟩ : ByteArray) : Nat) : Int) ≤ IntKind.i64.max)) (Option.bind (m_suturelaw4_read n (((((⟨#[40]⟩ : ByteArray) ++ r2) ++ (⟨#[41, 32]⟩ : ByteArray)) ++ y6.str) ++ (⟨#[32, 51, 32, 45, 32, 52]⟩ : ByteArray))) fun r7 =>
bif (!r7.2.2.2.2.2.1) then (
some true)
else (
Option.bind (idx1 true (.int .i64) [(T.sc (.int .i64 4)), (T.sc (.int .i64 5)), (T.sc (.int .i64 6)), (T.sc (.int .i64 7)), (T.sc (.int .i64 8))] r5) fun y8 =>
Option.bind (m_sutureref1_SameExpr n r7.1 r7.2.1 r7.2.2.1 r7.2.2.2.1 5 0 (⟨#[]⟩ : ByteArray) [(T.agg [(T.sc (.int .i64 y8.int)), (T.sc (.int .i64 0)), (T.sc (.string (⟨#[]⟩ : ByteArray))), (T.list [(T.agg [(T.sc (.int .i64 r1.1)), (T.sc (.int .i64 r1.2.1)), (T.sc (.string r1.2.2.1)), (T.list r1.2.2.2.1)]), (T.agg [(T.sc (.int .i64 1)), (T.sc (.int .i64 3)), (T.sc (.string (⟨#[]⟩ : ByteArray))), (T.list ([] : List T))])])]), (T.agg [(T.sc (.int .i64 1)), (T.sc (.int .i64 4)), (T.sc (.string (⟨#[]⟩ : ByteArray))), (T.list ([] : List T))])]) fun r9 =>
some r9))))))
def enc_suturelaw4_ExprLeft (r : Bool) : V := (V.t (T.sc (.bool r)))
def encS_suturelaw4_ExprLeft (r : Bool) : Sig := []
def ok_suturelaw4_ExprLeft (m : List T → Int → Option (Bool)) : Prop := ∀ (a0 : List T) (a1 : Int) (r : Bool), m a0 a1 = some r → FuncOk Tryd.prog 6 [(V.t (T.list a0)), (V.t (T.sc (.int .i64 a1)))] [] (enc_suturelaw4_ExprLeft r) (encS_suturelaw4_ExprLeft r)
def c_suturelaw4_ExprLeft (m : List T → Int → Option (Bool)) (vs : List V) (sg : Sig) : Option CallM := bif Nat.beq vs.length 2 && Nat.beq sg.length 0 then Option.bind (V.lstOf (vs.getD 0 .any)) fun u0 => Option.bind (V.intOf .i64 (vs.getD 1 .any)) fun u1 => some { α := Bool, m := m u0 u1, dflt := false, enc := fun y => ((V.t (T.sc (.bool y))), []) } else none
theorem c_suturelaw4_ExprLeft_ok (m : List T → Int → Option (Bool)) (hm : ok_suturelaw4_ExprLeft m) (vs : List V) (sg : Sig) (cm : CallM) (x : cm.α) (h : c_suturelaw4_ExprLeft m vs sg = some cm) (hx : cm.m = some x) : FuncOk Tryd.prog 6 vs sg (cm.enc x).1 (cm.enc x).2 := by
  unfold c_suturelaw4_ExprLeft at h
  have h0 := callee_sig h
  clear h
  obtain ⟨hl, hs, h⟩ := h0
  obtain ⟨u0, hu0, h⟩ := Option.bind_eq_some_iff.1 h
  obtain ⟨u1, hu1, h⟩ := Option.bind_eq_some_iff.1 h
  simp only [Option.some.injEq] at h
  subst h
  exact (hm u0 u1 x hx).wk (args_wk hl (.cons (lstOf_wk hu0) (.cons (intOf_wk hu1) .nil))) (wkSg_of hs .nil)
noncomputable def code_suturelaw4_ExprLeft : Code := Tryd.f6.body.getD .skip
noncomputable def sp_suturelaw4_ExprLeft (n : Nat) : Go.Eng.Spec := ⟨fun f vs sg => (match f with
    | 11 => c_suturelaw4_text (m_suturelaw4_text n) vs sg
    | 7 => c_suturelaw4_read (m_suturelaw4_read n) vs sg
    | 8 => c_expr_Print (m_expr_Print n) vs sg
    | 9 => c_suturelaw4_known (m_suturelaw4_known n) vs sg
    | 14 => c_suturehand_Pick (m_suturehand_Pick n) vs sg
    | 12 => c_sutureref1_SameExpr (m_sutureref1_SameExpr n) vs sg
    | _ => none), fun R key E sg K => (match key with
    | _ => none)⟩
theorem sp_suturelaw4_ExprLeft_ok (n : Nat) : CallsOk Tryd.prog (sp_suturelaw4_ExprLeft n) := by
  intro f vs sg cm x h hx
  simp only [sp_suturelaw4_ExprLeft] at h
  split at h
  · exact c_suturelaw4_text_ok _ (m_suturelaw4_text_ok n) vs sg cm x h hx
  · exact c_suturelaw4_read_ok _ (m_suturelaw4_read_ok n) vs sg cm x h hx
  · exact c_expr_Print_ok _ (m_expr_Print_ok n) vs sg cm x h hx
  · exact c_suturelaw4_known_ok _ (m_suturelaw4_known_ok n) vs sg cm x h hx
  · exact c_suturehand_Pick_ok _ (m_suturehand_Pick_ok n) vs sg cm x h hx
  · exact c_sutureref1_SameExpr_ok _ (m_sutureref1_SameExpr_ok n) vs sg cm x h hx
  · cases h
theorem code_suturelaw4_ExprLeft_fn : Tryd.prog.funcs[6]? = some Tryd.f6 := Tryd.func6
theorem code_suturelaw4_ExprLeft_body : Tryd.f6.body = some code_suturelaw4_ExprLeft := by kernel_rfl
theorem code_suturelaw4_ExprLeft_ok : CodeOk Tryd.prog code_suturelaw4_ExprLeft := (sound 6 _ _ code_suturelaw4_ExprLeft_fn code_suturelaw4_ExprLeft_body).1
def K_suturelaw4_ExprLeft (v : V) (s : Sig) : Option (Bool) := Option.bind (V.boolOf v) fun u0 => some u0
theorem K_suturelaw4_ExprLeft_wk {v : V} {s : Sig} {r : Bool} (h : K_suturelaw4_ExprLeft v s = some r) : Wk v (enc_suturelaw4_ExprLeft r) ∧ WkS 0 s (encS_suturelaw4_ExprLeft r) := by
  unfold K_suturelaw4_ExprLeft at h
  obtain ⟨u0, hu0, h⟩ := Option.bind_eq_some_iff.1 h
  simp only [Option.some.injEq] at h
  subst h
  exact ⟨(boolOf_wk hu0), (WkS.none _)⟩
theorem m_suturelaw4_ExprLeft_eq (n : Nat) (a0 : List T) (a1 : Int) : mF Tryd.prog (sp_suturelaw4_ExprLeft n) 6 [(V.t (T.list a0)), (V.t (T.sc (.int .i64 a1)))] [] K_suturelaw4_ExprLeft = m_suturelaw4_ExprLeft n a0 a1 := by kernel_rfl
theorem m_suturelaw4_ExprLeft_ok (n : Nat) : ok_suturelaw4_ExprLeft (m_suturelaw4_ExprLeft n) := fun a0 a1 r h => mF_ok sound (sp_suturelaw4_ExprLeft_ok n) code_suturelaw4_ExprLeft_fn code_suturelaw4_ExprLeft_body (fun a ha => absurd ha (by rw [show loopsOf code_suturelaw4_ExprLeft = [] from by kernel_rfl]; simp)) (no_scope (by kernel_rfl)) ((m_suturelaw4_ExprLeft_eq n a0 a1).trans h) (fun v s hk => ⟨(K_suturelaw4_ExprLeft_wk hk).1, rfl, (K_suturelaw4_ExprLeft_wk hk).2⟩)

end Go.Proofs.YtpahgmebihlffaaDoor.W
