/- What the engine's walk comes to, printed by a program of this work: for each function its model, and that it is one. No conditions. -/
import Derived.Test.YtkolhagejiabhaaDoorL2
namespace Go.Proofs.YtkolhagejiabhaaDoor.W
open Go Go.Eng
set_option linter.unusedVariables false
set_option linter.unusedSimpArgs false
set_option maxRecDepth 100000

/-! suture/suturelaw2.LexCovers -/
def l_suturelaw2_LexCovers_12_B (n : Nat) (k : ByteArray × Int × Bool × (List T) × Int × Int × Int × ByteArray × Int × (Nat × Nat) → Option (((Bool × Int × ByteArray × Int × (Nat × Nat)) ⊕ ByteArray × Int × Bool × (List T) × Int × Int × Int × ByteArray × Int × (Nat × Nat)))) : ByteArray × Int × Bool × (List T) × Int × Int × Int × ByteArray × Int × (Nat × Nat) → Option (((Bool × Int × ByteArray × Int × (Nat × Nat)) ⊕ ByteArray × Int × Bool × (List T) × Int × Int × Int × ByteArray × Int × (Nat × Nat))) := fun (s0, s1, s2, s3, s4, s5, s6, s7, s8, s9) =>
Option.bind (bif (decide ((s1 : Int) < ((ByteArray.size s0 : Nat) : Int))) then m_sutureref1_Place n s0 s1 else some (0, 0)) fun r8 =>
bif (bif (decide ((s1 : Int) < ((ByteArray.size s0 : Nat) : Int))) then (!(cplxEq .f64 r8.1 r8.2 s9.1 s9.2)) else false) then (
Option.bind (bidx true s0 s1) fun b9 =>
bif (bif (bif (bif (!(bif ((((UInt8.toNat b9 : Nat) : Int) : Int) != 10) then (bif s2 then true else ((((UInt8.toNat b9 : Nat) : Int) : Int) == 35)) else false)) then ((((UInt8.toNat b9 : Nat) : Int) : Int) != 32) else false) then ((((UInt8.toNat b9 : Nat) : Int) : Int) != 9) else false) then ((((UInt8.toNat b9 : Nat) : Int) : Int) != 10) else false) then (
some (Sum.inl (false, s6, s7, s8, s9)))
else (
k (s0, (IntKind.wrap .i64 (s1 + 1)), (bif ((((UInt8.toNat b9 : Nat) : Int) : Int) != 10) then (bif s2 then true else ((((UInt8.toNat b9 : Nat) : Int) : Int) == 35)) else false), s3, s4, s5, s6, s7, s8, s9)))
else (
some (Sum.inr (s0, s1, s2, s3, s4, s5, s6, s7, s8, s9)))
def l_suturelaw2_LexCovers_12 (n : Nat) : Nat → ByteArray × Int × Bool × (List T) × Int × Int × Int × ByteArray × Int × (Nat × Nat) → Option (((Bool × Int × ByteArray × Int × (Nat × Nat)) ⊕ ByteArray × Int × Bool × (List T) × Int × Int × Int × ByteArray × Int × (Nat × Nat)))
  | 0, _ => none
  | m + 1, s => l_suturelaw2_LexCovers_12_B n (l_suturelaw2_LexCovers_12 n m) s
def l_suturelaw2_LexCovers_10_B (n : Nat) (k : ByteArray × Int × Bool × (List T) × Int × Int → Option (((Bool) ⊕ ByteArray × Int))) : ByteArray × Int × Bool × (List T) × Int × Int → Option (((Bool) ⊕ ByteArray × Int)) := fun (s0, s1, s2, s3, s4, s5) =>
bif (decide ((s5 : Int) < s4)) then (
Option.bind (idx true [.int .i64, .str, .int .i64, .cplx .f64] s3 s5) fun y7 =>
Option.bind (l_suturelaw2_LexCovers_12 n n (s0, s1, s2, s3, s4, s5, (y7.cell 0).int, (y7.cell 1).str, (y7.cell 2).int, ((y7.cell 3).re, (y7.cell 3).im))) fun x10 =>
Sum.elim (fun p11 => 
some (Sum.inl p11.1)) (fun x10' => (fun p12 => 
must (!(bif (bif p12.2.2.1 then ((p12.2.2.2.2.2.2.1 : Int) != 4) else false) then true else (decide (((IntKind.wrap .i64 (((ByteArray.size p12.1 : Nat) : Int) - p12.2.1)) : Int) < ((ByteArray.size p12.2.2.2.2.2.2.2.1 : Nat) : Int))))) (decide (0 ≤ p12.2.1) && decide (p12.2.1 ≤ (IntKind.wrap .i64 (p12.2.1 + ((ByteArray.size p12.2.2.2.2.2.2.2.1 : Nat) : Int)))) && decide ((IntKind.wrap .i64 (p12.2.1 + ((ByteArray.size p12.2.2.2.2.2.2.2.1 : Nat) : Int))) ≤ ((ByteArray.size p12.1 : Nat) : Int))) (bif (bif (bif (bif (bif p12.2.2.1 then ((p12.2.2.2.2.2.2.1 : Int) != 4) else false) then true else (decide (((IntKind.wrap .i64 (((ByteArray.size p12.1 : Nat) : Int) - p12.2.1)) : Int) < ((ByteArray.size p12.2.2.2.2.2.2.2.1 : Nat) : Int)))) then true else (!(ByteArray.toList (ByteArray.extract p12.1 (Int.toNat p12.2.1) (Int.toNat (IntKind.wrap .i64 (p12.2.1 + ((ByteArray.size p12.2.2.2.2.2.2.2.1 : Nat) : Int))))) == ByteArray.toList p12.2.2.2.2.2.2.2.1))) then true else (!(((p12.2.2.2.2.2.2.1 : Int) != 4) == (!(ByteArray.toList p12.2.2.2.2.2.2.2.1 == ByteArray.toList (⟨#[]⟩ : ByteArray)))))) then (
some (Sum.inl false))
else (
k (p12.1, (IntKind.wrap .i64 (p12.2.1 + ((ByteArray.size p12.2.2.2.2.2.2.2.1 : Nat) : Int))), p12.2.2.1, p12.2.2.2.1, p12.2.2.2.2.1, (IntKind.wrap .i64 (p12.2.2.2.2.2.1 + 1)))))) x10') x10)
else (
some (Sum.inr (s0, s1)))
def l_suturelaw2_LexCovers_10 (n : Nat) : Nat → ByteArray × Int × Bool × (List T) × Int × Int → Option (((Bool) ⊕ ByteArray × Int))
  | 0, _ => none
  | m + 1, s => l_suturelaw2_LexCovers_10_B n (l_suturelaw2_LexCovers_10 n m) s
def m_suturelaw2_LexCovers (n : Nat) (a0 : List T) (a1 : ByteArray) : Option (Bool) :=
Option.bind (m_suturelaw2_text n a0 a1) fun r0 =>
Option.bind (m_lex_Tokens n r0) fun r1 =>
bif ((r1.2.2 : Int) != 0) then (
Option.bind (m_suturelaw2_known n) fun r2 =>
some (bif r2 then ((((List.length r1.1 : Nat) : Int) : Int) == 0) else false))
else (
Option.bind (m_suturelaw2_known n) fun r3 =>
Option.bind (idx (!(bif (!r3) then true else ((((List.length r1.1 : Nat) : Int) : Int) == 0))) [.int .i64, .str, .int .i64, .cplx .f64] r1.1 (IntKind.wrap .i64 (((List.length r1.1 : Nat) : Int) - 1))) fun y4 =>
Option.bind (idx (!(bif (bif (!r3) then true else ((((List.length r1.1 : Nat) : Int) : Int) == 0)) then true else (((y4.cell 0).int : Int) != 4))) [.int .i64, .str, .int .i64, .cplx .f64] r1.1 (IntKind.wrap .i64 (((List.length r1.1 : Nat) : Int) - 1))) fun y5 =>
Option.bind (bif !(bif (bif (!r3) then true else ((((List.length r1.1 : Nat) : Int) : Int) == 0)) then true else (((y4.cell 0).int : Int) != 4)) then m_sutureref1_Place n r0 ((ByteArray.size r0 : Nat) : Int) else some (0, 0)) fun r6 =>
bif (bif (bif (bif (!r3) then true else ((((List.length r1.1 : Nat) : Int) : Int) == 0)) then true else (((y4.cell 0).int : Int) != 4)) then true else (!(cplxEq .f64 (y5.cell 3).re (y5.cell 3).im r6.1 r6.2))) then (
some false)
else (
Option.bind (l_suturelaw2_LexCovers_10 n n (r0, 0, false, r1.1, ((List.length r1.1 : Nat) : Int), 0)) fun x13 =>
Sum.elim (fun p14 => 
some p14) (fun x13' => (fun p15 => 
some ((p15.2 : Int) == ((ByteArray.size p15.1 : Nat) : Int))) x13') x13))
def enc_suturelaw2_LexCovers (r : Bool) : V := (V.t (T.sc (.bool r)))
def encS_suturelaw2_LexCovers (r : Bool) : Sig := []
def ok_suturelaw2_LexCovers (m : List T → ByteArray → Option (Bool)) : Prop := ∀ (a0 : List T) (a1 : ByteArray) (r : Bool), m a0 a1 = some r → FuncOk Tryd.prog 9 [(V.t (T.list a0)), (V.t (T.sc (.string a1)))] [] (enc_suturelaw2_LexCovers r) (encS_suturelaw2_LexCovers r)
def c_suturelaw2_LexCovers (m : List T → ByteArray → Option (Bool)) (vs : List V) (sg : Sig) : Option CallM := bif Nat.beq vs.length 2 && Nat.beq sg.length 0 then Option.bind (V.lstOf (vs.getD 0 .any)) fun u0 => Option.bind (V.strOf (vs.getD 1 .any)) fun u1 => some { α := Bool, m := m u0 u1, dflt := false, enc := fun y => ((V.t (T.sc (.bool y))), []) } else none
theorem c_suturelaw2_LexCovers_ok (m : List T → ByteArray → Option (Bool)) (hm : ok_suturelaw2_LexCovers m) (vs : List V) (sg : Sig) (cm : CallM) (x : cm.α) (h : c_suturelaw2_LexCovers m vs sg = some cm) (hx : cm.m = some x) : FuncOk Tryd.prog 9 vs sg (cm.enc x).1 (cm.enc x).2 := by
  unfold c_suturelaw2_LexCovers at h
  have h0 := callee_sig h
  clear h
  obtain ⟨hl, hs, h⟩ := h0
  obtain ⟨u0, hu0, h⟩ := Option.bind_eq_some_iff.1 h
  obtain ⟨u1, hu1, h⟩ := Option.bind_eq_some_iff.1 h
  simp only [Option.some.injEq] at h
  subst h
  exact (hm u0 u1 x hx).wk (args_wk hl (.cons (lstOf_wk hu0) (.cons (strOf_wk hu1) .nil))) (wkSg_of hs .nil)
noncomputable def code_suturelaw2_LexCovers : Code := Tryd.f9.body.getD .skip
def l_suturelaw2_LexCovers_12_S (n : Nat) (R : Type) (E : SEnv) (sg : Sig) (K : Ex → SEnv → Sig → Option R) : Option R := Option.bind (V.strOf (SEnv.at E 5)) fun u0 => Option.bind (V.intOf .i64 (SEnv.at E 9)) fun u1 => Option.bind (V.boolOf (SEnv.at E 10)) fun u2 => Option.bind (V.ptrOf 0 0 (SEnv.at E 12)) fun u3 => Option.bind (V.lstOf (SEnv.at E 62)) fun u4 => Option.bind (V.intOf .i64 (SEnv.at E 63)) fun u5 => Option.bind (V.intOf .i64 (SEnv.at E 64)) fun u6 => Option.bind (cellsN 4 sg 0) fun u7 => Option.bind (V.intOf .i64 (u7.getD 0 .any)) fun u8 => Option.bind (V.strOf (u7.getD 1 .any)) fun u9 => Option.bind (V.intOf .i64 (u7.getD 2 .any)) fun u10 => Option.bind (V.cplxOf .f64 (u7.getD 3 .any)) fun u11 => Option.bind (l_suturelaw2_LexCovers_12 n n (u0, u1, u2, u4, u5, u6, u8, u9, u10, u11)) fun y => Sum.elim (fun p0 => K .ret [(4, (V.t (T.sc (.bool p0.1))))] [some [(V.t (T.sc (.int .i64 p0.2.1))), (V.t (T.sc (.string p0.2.2.1))), (V.t (T.sc (.int .i64 p0.2.2.2.1))), (V.t (T.sc (.complex .f64 p0.2.2.2.2.1 p0.2.2.2.2.2)))]]) (fun y' => (fun p1 => K (.exit 2) [(5, (V.t (T.sc (.string p1.1)))), (9, (V.t (T.sc (.int .i64 p1.2.1)))), (10, (V.t (T.sc (.bool p1.2.2.1)))), (12, (V.ptr 0 0)), (62, (V.t (T.list p1.2.2.2.1))), (63, (V.t (T.sc (.int .i64 p1.2.2.2.2.1)))), (64, (V.t (T.sc (.int .i64 p1.2.2.2.2.2.1))))] [some [(V.t (T.sc (.int .i64 p1.2.2.2.2.2.2.1))), (V.t (T.sc (.string p1.2.2.2.2.2.2.2.1))), (V.t (T.sc (.int .i64 p1.2.2.2.2.2.2.2.2.1))), (V.t (T.sc (.complex .f64 p1.2.2.2.2.2.2.2.2.2.1 p1.2.2.2.2.2.2.2.2.2.2)))]]) y') y
def l_suturelaw2_LexCovers_10_S (n : Nat) (R : Type) (E : SEnv) (sg : Sig) (K : Ex → SEnv → Sig → Option R) : Option R := Option.bind (V.strOf (SEnv.at E 5)) fun u0 => Option.bind (V.intOf .i64 (SEnv.at E 9)) fun u1 => Option.bind (V.boolOf (SEnv.at E 10)) fun u2 => Option.bind (V.lstOf (SEnv.at E 62)) fun u3 => Option.bind (V.intOf .i64 (SEnv.at E 63)) fun u4 => Option.bind (V.intOf .i64 (SEnv.at E 64)) fun u5 => Option.bind (l_suturelaw2_LexCovers_10 n n (u0, u1, u2, u3, u4, u5)) fun y => Sum.elim (fun p0 => K .ret [(4, (V.t (T.sc (.bool p0))))] []) (fun y' => (fun p1 => K (.exit 0) [(5, (V.t (T.sc (.string p1.1)))), (9, (V.t (T.sc (.int .i64 p1.2))))] []) y') y
noncomputable def sp_suturelaw2_LexCovers (n : Nat) : Go.Eng.Spec := ⟨fun f vs sg => (match f with
    | 23 => c_suturelaw2_text (m_suturelaw2_text n) vs sg
    | 24 => c_lex_Tokens (m_lex_Tokens n) vs sg
    | 25 => c_suturelaw2_known (m_suturelaw2_known n) vs sg
    | 26 => c_sutureref1_Place (m_sutureref1_Place n) vs sg
    | _ => none), fun R key E sg K => (match key with
    | 12 => l_suturelaw2_LexCovers_12_S n R E sg K
    | 10 => l_suturelaw2_LexCovers_10_S n R E sg K
    | _ => none)⟩
theorem sp_suturelaw2_LexCovers_ok (n : Nat) : CallsOk Tryd.prog (sp_suturelaw2_LexCovers n) := by
  intro f vs sg cm x h hx
  simp only [sp_suturelaw2_LexCovers] at h
  split at h
  · exact c_suturelaw2_text_ok _ (m_suturelaw2_text_ok n) vs sg cm x h hx
  · exact c_lex_Tokens_ok _ (m_lex_Tokens_ok n) vs sg cm x h hx
  · exact c_suturelaw2_known_ok _ (m_suturelaw2_known_ok n) vs sg cm x h hx
  · exact c_sutureref1_Place_ok _ (m_sutureref1_Place_ok n) vs sg cm x h hx
  · cases h
theorem code_suturelaw2_LexCovers_fn : Tryd.prog.funcs[9]? = some Tryd.f9 := Tryd.func9
theorem code_suturelaw2_LexCovers_body : Tryd.f9.body = some code_suturelaw2_LexCovers := by kernel_rfl
theorem code_suturelaw2_LexCovers_ok : CodeOk Tryd.prog code_suturelaw2_LexCovers := (sound 9 _ _ code_suturelaw2_LexCovers_fn code_suturelaw2_LexCovers_body).1
noncomputable def code_l_suturelaw2_LexCovers_12 : Code := (loopsOf code_suturelaw2_LexCovers).getD 1 .skip
theorem code_l_suturelaw2_LexCovers_12_ok : CodeOk Tryd.prog code_l_suturelaw2_LexCovers_12 := codeOk_loops code_suturelaw2_LexCovers_ok _ (getD_mem (by kernel_rfl))
def l_suturelaw2_LexCovers_12_K (k : ByteArray × Int × Bool × (List T) × Int × Int × Int × ByteArray × Int × (Nat × Nat) → Option (((Bool × Int × ByteArray × Int × (Nat × Nat)) ⊕ ByteArray × Int × Bool × (List T) × Int × Int × Int × ByteArray × Int × (Nat × Nat)))) : Ex → SEnv → Sig → Option (((Bool × Int × ByteArray × Int × (Nat × Nat)) ⊕ ByteArray × Int × Bool × (List T) × Int × Int × Int × ByteArray × Int × (Nat × Nat))) := fun x E sg => match x with
  | .normal => Option.bind (V.strOf (SEnv.at E 5)) fun u0 => Option.bind (V.intOf .i64 (SEnv.at E 9)) fun u1 => Option.bind (V.boolOf (SEnv.at E 10)) fun u2 => Option.bind (V.ptrOf 0 0 (SEnv.at E 12)) fun u3 => Option.bind (V.lstOf (SEnv.at E 62)) fun u4 => Option.bind (V.intOf .i64 (SEnv.at E 63)) fun u5 => Option.bind (V.intOf .i64 (SEnv.at E 64)) fun u6 => Option.bind (cellsN 4 sg 0) fun u7 => Option.bind (V.intOf .i64 (u7.getD 0 .any)) fun u8 => Option.bind (V.strOf (u7.getD 1 .any)) fun u9 => Option.bind (V.intOf .i64 (u7.getD 2 .any)) fun u10 => Option.bind (V.cplxOf .f64 (u7.getD 3 .any)) fun u11 => k (u0, u1, u2, u4, u5, u6, u8, u9, u10, u11)
  | .ret => Option.bind (V.boolOf (SEnv.at E 4)) fun u0 => Option.bind (cellsN 4 sg 0) fun u1 => Option.bind (V.intOf .i64 (u1.getD 0 .any)) fun u2 => Option.bind (V.strOf (u1.getD 1 .any)) fun u3 => Option.bind (V.intOf .i64 (u1.getD 2 .any)) fun u4 => Option.bind (V.cplxOf .f64 (u1.getD 3 .any)) fun u5 => some (Sum.inl (u0, u2, u3, u4, u5))
  | (.exit 2) => Option.bind (V.strOf (SEnv.at E 5)) fun u0 => Option.bind (V.intOf .i64 (SEnv.at E 9)) fun u1 => Option.bind (V.boolOf (SEnv.at E 10)) fun u2 => Option.bind (V.ptrOf 0 0 (SEnv.at E 12)) fun u3 => Option.bind (V.lstOf (SEnv.at E 62)) fun u4 => Option.bind (V.intOf .i64 (SEnv.at E 63)) fun u5 => Option.bind (V.intOf .i64 (SEnv.at E 64)) fun u6 => Option.bind (cellsN 4 sg 0) fun u7 => Option.bind (V.intOf .i64 (u7.getD 0 .any)) fun u8 => Option.bind (V.strOf (u7.getD 1 .any)) fun u9 => Option.bind (V.intOf .i64 (u7.getD 2 .any)) fun u10 => Option.bind (V.cplxOf .f64 (u7.getD 3 .any)) fun u11 => some (Sum.inr (u0, u1, u2, u4, u5, u6, u8, u9, u10, u11))
  | _ => none
theorem l_suturelaw2_LexCovers_12_eq (n : Nat) (k : ByteArray × Int × Bool × (List T) × Int × Int × Int × ByteArray × Int × (Nat × Nat) → Option (((Bool × Int × ByteArray × Int × (Nat × Nat)) ⊕ ByteArray × Int × Bool × (List T) × Int × Int × Int × ByteArray × Int × (Nat × Nat)))) (s0 : ByteArray) (s1 : Int) (s2 : Bool) (s3 : List T) (s4 : Int) (s5 : Int) (s6 : Int) (s7 : ByteArray) (s8 : Int) (s9 : Nat × Nat) : mX Tryd.prog (sp_suturelaw2_LexCovers n) 156 code_l_suturelaw2_LexCovers_12 [(5, (V.t (T.sc (.string s0)))), (9, (V.t (T.sc (.int .i64 s1)))), (10, (V.t (T.sc (.bool s2)))), (12, (V.ptr 0 0)), (62, (V.t (T.list s3))), (63, (V.t (T.sc (.int .i64 s4)))), (64, (V.t (T.sc (.int .i64 s5))))] [some [(V.t (T.sc (.int .i64 s6))), (V.t (T.sc (.string s7))), (V.t (T.sc (.int .i64 s8))), (V.t (T.sc (.complex .f64 s9.1 s9.2)))]] (l_suturelaw2_LexCovers_12_K k) = l_suturelaw2_LexCovers_12_B n k (s0, s1, s2, s3, s4, s5, s6, s7, s8, s9) := by kernel_rfl
def l_suturelaw2_LexCovers_12_Q (x : ((Bool × Int × ByteArray × Int × (Nat × Nat)) ⊕ ByteArray × Int × Bool × (List T) × Int × Int × Int × ByteArray × Int × (Nat × Nat))) (ex : Ex) (e : Env) (s : Sig) : Prop := Sum.elim (fun p0 => (ex = .ret ∧ e = SEnv.env 156 [(4, (V.t (T.sc (.bool p0.1))))] ∧ s = [some [(V.t (T.sc (.int .i64 p0.2.1))), (V.t (T.sc (.string p0.2.2.1))), (V.t (T.sc (.int .i64 p0.2.2.2.1))), (V.t (T.sc (.complex .f64 p0.2.2.2.2.1 p0.2.2.2.2.2)))]])) (fun x' => (fun p1 => (ex = (.exit 2) ∧ e = SEnv.env 156 [(5, (V.t (T.sc (.string p1.1)))), (9, (V.t (T.sc (.int .i64 p1.2.1)))), (10, (V.t (T.sc (.bool p1.2.2.1)))), (12, (V.ptr 0 0)), (62, (V.t (T.list p1.2.2.2.1))), (63, (V.t (T.sc (.int .i64 p1.2.2.2.2.1)))), (64, (V.t (T.sc (.int .i64 p1.2.2.2.2.2.1))))] ∧ s = [some [(V.t (T.sc (.int .i64 p1.2.2.2.2.2.2.1))), (V.t (T.sc (.string p1.2.2.2.2.2.2.2.1))), (V.t (T.sc (.int .i64 p1.2.2.2.2.2.2.2.2.1))), (V.t (T.sc (.complex .f64 p1.2.2.2.2.2.2.2.2.2.1 p1.2.2.2.2.2.2.2.2.2.2)))]])) x') x
theorem l_suturelaw2_LexCovers_12_run (n : Nat) : ∀ (m : Nat) (s0 : ByteArray) (s1 : Int) (s2 : Bool) (s3 : List T) (s4 : Int) (s5 : Int) (s6 : Int) (s7 : ByteArray) (s8 : Int) (s9 : Nat × Nat) (x : ((Bool × Int × ByteArray × Int × (Nat × Nat)) ⊕ ByteArray × Int × Bool × (List T) × Int × Int × Int × ByteArray × Int × (Nat × Nat))), l_suturelaw2_LexCovers_12 n m (s0, s1, s2, s3, s4, s5, s6, s7, s8, s9) = some x → SemL Tryd.prog 0 code_l_suturelaw2_LexCovers_12 (SEnv.env 156 [(5, (V.t (T.sc (.string s0)))), (9, (V.t (T.sc (.int .i64 s1)))), (10, (V.t (T.sc (.bool s2)))), (12, (V.ptr 0 0)), (62, (V.t (T.list s3))), (63, (V.t (T.sc (.int .i64 s4)))), (64, (V.t (T.sc (.int .i64 s5))))]) [some [(V.t (T.sc (.int .i64 s6))), (V.t (T.sc (.string s7))), (V.t (T.sc (.int .i64 s8))), (V.t (T.sc (.complex .f64 s9.1 s9.2)))]] (l_suturelaw2_LexCovers_12_Q x)
  | 0, s0, s1, s2, s3, s4, s5, s6, s7, s8, s9, x, h => by cases h
  | m + 1, s0, s1, s2, s3, s4, s5, s6, s7, s8, s9, x, h => by
    refine loop_step (sp_suturelaw2_LexCovers_ok n) code_l_suturelaw2_LexCovers_12_ok (fun a ha => absurd ha (by rw [show loopsOf code_l_suturelaw2_LexCovers_12 = [] from by kernel_rfl]; simp)) (no_scope (by kernel_rfl)) ((l_suturelaw2_LexCovers_12_eq n _ s0 s1 s2 s3 s4 s5 s6 s7 s8 s9).trans h) (fun E sg h => ?_) (fun ex E sg hne h => ?_)
    · simp only [l_suturelaw2_LexCovers_12_K] at h
      obtain ⟨u0, hu0, h⟩ := Option.bind_eq_some_iff.1 h
      obtain ⟨u1, hu1, h⟩ := Option.bind_eq_some_iff.1 h
      obtain ⟨u2, hu2, h⟩ := Option.bind_eq_some_iff.1 h
      obtain ⟨u3, hu3, h⟩ := Option.bind_eq_some_iff.1 h
      obtain ⟨u4, hu4, h⟩ := Option.bind_eq_some_iff.1 h
      obtain ⟨u5, hu5, h⟩ := Option.bind_eq_some_iff.1 h
      obtain ⟨u6, hu6, h⟩ := Option.bind_eq_some_iff.1 h
      obtain ⟨u7, hu7, h⟩ := Option.bind_eq_some_iff.1 h
      obtain ⟨u8, hu8, h⟩ := Option.bind_eq_some_iff.1 h
      obtain ⟨u9, hu9, h⟩ := Option.bind_eq_some_iff.1 h
      obtain ⟨u10, hu10, h⟩ := Option.bind_eq_some_iff.1 h
      obtain ⟨u11, hu11, h⟩ := Option.bind_eq_some_iff.1 h
      exact SemL.pre (k := 1) (by decide) (WkA.env (WkA.cons (strOf_wk hu0) rfl (WkA.cons (intOf_wk hu1) rfl (WkA.cons (boolOf_wk hu2) rfl (WkA.cons (ptrOf_wk hu3) rfl (WkA.cons (lstOf_wk hu4) rfl (WkA.cons (intOf_wk hu5) rfl (WkA.cons (intOf_wk hu6) rfl WkA.nil))))))) 156) (wkR_sig (WkR.cons (cellsN_wk hu7 (.cons (intOf_wk hu8) (.cons (strOf_wk hu9) (.cons (intOf_wk hu10) (.cons (cplxOf_wk hu11) .nil))))).1 (cellsN_wk hu7 (.cons (intOf_wk hu8) (.cons (strOf_wk hu9) (.cons (intOf_wk hu10) (.cons (cplxOf_wk hu11) .nil))))).2 (renL_mem (.cons rfl (.cons rfl (.cons rfl (.cons rfl .nil))))) (WkR.nil _)) rfl) (l_suturelaw2_LexCovers_12_run n m _ _ _ _ _ _ _ _ _ _ x h)
    · unfold l_suturelaw2_LexCovers_12_K at h
      split at h
      · exact absurd rfl hne
      · obtain ⟨u0, hu0, h⟩ := Option.bind_eq_some_iff.1 h
        obtain ⟨u1, hu1, h⟩ := Option.bind_eq_some_iff.1 h
        obtain ⟨u2, hu2, h⟩ := Option.bind_eq_some_iff.1 h
        obtain ⟨u3, hu3, h⟩ := Option.bind_eq_some_iff.1 h
        obtain ⟨u4, hu4, h⟩ := Option.bind_eq_some_iff.1 h
        obtain ⟨u5, hu5, h⟩ := Option.bind_eq_some_iff.1 h
        simp only [Option.some.injEq] at h
        subst h
        exact ⟨1, _, _, by decide, WkA.env (WkA.cons (boolOf_wk hu0) rfl WkA.nil) 156, (wkR_sig (WkR.cons (cellsN_wk hu1 (.cons (intOf_wk hu2) (.cons (strOf_wk hu3) (.cons (intOf_wk hu4) (.cons (cplxOf_wk hu5) .nil))))).1 (cellsN_wk hu1 (.cons (intOf_wk hu2) (.cons (strOf_wk hu3) (.cons (intOf_wk hu4) (.cons (cplxOf_wk hu5) .nil))))).2 (renL_mem (.cons rfl (.cons rfl (.cons rfl (.cons rfl .nil))))) (WkR.nil _)) rfl), rfl, rfl, rfl⟩
      · obtain ⟨u0, hu0, h⟩ := Option.bind_eq_some_iff.1 h
        obtain ⟨u1, hu1, h⟩ := Option.bind_eq_some_iff.1 h
        obtain ⟨u2, hu2, h⟩ := Option.bind_eq_some_iff.1 h
        obtain ⟨u3, hu3, h⟩ := Option.bind_eq_some_iff.1 h
        obtain ⟨u4, hu4, h⟩ := Option.bind_eq_some_iff.1 h
        obtain ⟨u5, hu5, h⟩ := Option.bind_eq_some_iff.1 h
        obtain ⟨u6, hu6, h⟩ := Option.bind_eq_some_iff.1 h
        obtain ⟨u7, hu7, h⟩ := Option.bind_eq_some_iff.1 h
        obtain ⟨u8, hu8, h⟩ := Option.bind_eq_some_iff.1 h
        obtain ⟨u9, hu9, h⟩ := Option.bind_eq_some_iff.1 h
        obtain ⟨u10, hu10, h⟩ := Option.bind_eq_some_iff.1 h
        obtain ⟨u11, hu11, h⟩ := Option.bind_eq_some_iff.1 h
        simp only [Option.some.injEq] at h
        subst h
        exact ⟨1, _, _, by decide, WkA.env (WkA.cons (strOf_wk hu0) rfl (WkA.cons (intOf_wk hu1) rfl (WkA.cons (boolOf_wk hu2) rfl (WkA.cons (ptrOf_wk hu3) rfl (WkA.cons (lstOf_wk hu4) rfl (WkA.cons (intOf_wk hu5) rfl (WkA.cons (intOf_wk hu6) rfl WkA.nil))))))) 156, (wkR_sig (WkR.cons (cellsN_wk hu7 (.cons (intOf_wk hu8) (.cons (strOf_wk hu9) (.cons (intOf_wk hu10) (.cons (cplxOf_wk hu11) .nil))))).1 (cellsN_wk hu7 (.cons (intOf_wk hu8) (.cons (strOf_wk hu9) (.cons (intOf_wk hu10) (.cons (cplxOf_wk hu11) .nil))))).2 (renL_mem (.cons rfl (.cons rfl (.cons rfl (.cons rfl .nil))))) (WkR.nil _)) rfl), rfl, rfl, rfl⟩
      · cases h
theorem l_suturelaw2_LexCovers_12_ok (n : Nat) : LoopOk Tryd.prog (sp_suturelaw2_LexCovers n) 0 156 code_l_suturelaw2_LexCovers_12 := by
    intro R key E sg K r hk h
    rw [show Go.Eng.keyOf code_l_suturelaw2_LexCovers_12 = some 12 from by kernel_rfl] at hk
    cases hk
    have h : l_suturelaw2_LexCovers_12_S n R E sg K = some r := h
    unfold l_suturelaw2_LexCovers_12_S at h
    obtain ⟨u0, hu0, h⟩ := Option.bind_eq_some_iff.1 h
    obtain ⟨u1, hu1, h⟩ := Option.bind_eq_some_iff.1 h
    obtain ⟨u2, hu2, h⟩ := Option.bind_eq_some_iff.1 h
    obtain ⟨u3, hu3, h⟩ := Option.bind_eq_some_iff.1 h
    obtain ⟨u4, hu4, h⟩ := Option.bind_eq_some_iff.1 h
    obtain ⟨u5, hu5, h⟩ := Option.bind_eq_some_iff.1 h
    obtain ⟨u6, hu6, h⟩ := Option.bind_eq_some_iff.1 h
    obtain ⟨u7, hu7, h⟩ := Option.bind_eq_some_iff.1 h
    obtain ⟨u8, hu8, h⟩ := Option.bind_eq_some_iff.1 h
    obtain ⟨u9, hu9, h⟩ := Option.bind_eq_some_iff.1 h
    obtain ⟨u10, hu10, h⟩ := Option.bind_eq_some_iff.1 h
    obtain ⟨u11, hu11, h⟩ := Option.bind_eq_some_iff.1 h
    obtain ⟨x, hx, h⟩ := Option.bind_eq_some_iff.1 h
    refine (SemL.pre (k := 1) (by decide) (WkA.env (WkA.cons (strOf_wk hu0) rfl (WkA.cons (intOf_wk hu1) rfl (WkA.cons (boolOf_wk hu2) rfl (WkA.cons (ptrOf_wk hu3) rfl (WkA.cons (lstOf_wk hu4) rfl (WkA.cons (intOf_wk hu5) rfl (WkA.cons (intOf_wk hu6) rfl WkA.nil))))))) 156) (wkR_sig (WkR.cons (cellsN_wk hu7 (.cons (intOf_wk hu8) (.cons (strOf_wk hu9) (.cons (intOf_wk hu10) (.cons (cplxOf_wk hu11) .nil))))).1 (cellsN_wk hu7 (.cons (intOf_wk hu8) (.cons (strOf_wk hu9) (.cons (intOf_wk hu10) (.cons (cplxOf_wk hu11) .nil))))).2 (renL_mem (.cons rfl (.cons rfl (.cons rfl (.cons rfl .nil))))) (WkR.nil _)) rfl) (l_suturelaw2_LexCovers_12_run n n _ _ _ _ _ _ _ _ _ _ x hx)).mono ?_
    intro ex e s hq
    rcases x with x | x <;> (obtain ⟨rfl, rfl, rfl⟩ := hq; exact ⟨_, rfl, h⟩) -- 5
noncomputable def code_l_suturelaw2_LexCovers_10 : Code := (loopsOf code_suturelaw2_LexCovers).getD 0 .skip
theorem code_l_suturelaw2_LexCovers_10_ok : CodeOk Tryd.prog code_l_suturelaw2_LexCovers_10 := codeOk_loops code_suturelaw2_LexCovers_ok _ (getD_mem (by kernel_rfl))
def l_suturelaw2_LexCovers_10_K (k : ByteArray × Int × Bool × (List T) × Int × Int → Option (((Bool) ⊕ ByteArray × Int))) : Ex → SEnv → Sig → Option (((Bool) ⊕ ByteArray × Int)) := fun x E sg => match x with
  | .normal => Option.bind (V.strOf (SEnv.at E 5)) fun u0 => Option.bind (V.intOf .i64 (SEnv.at E 9)) fun u1 => Option.bind (V.boolOf (SEnv.at E 10)) fun u2 => Option.bind (V.lstOf (SEnv.at E 62)) fun u3 => Option.bind (V.intOf .i64 (SEnv.at E 63)) fun u4 => Option.bind (V.intOf .i64 (SEnv.at E 64)) fun u5 => k (u0, u1, u2, u3, u4, u5)
  | .ret => Option.bind (V.boolOf (SEnv.at E 4)) fun u0 => some (Sum.inl u0)
  | (.exit 0) => Option.bind (V.strOf (SEnv.at E 5)) fun u0 => Option.bind (V.intOf .i64 (SEnv.at E 9)) fun u1 => some (Sum.inr (u0, u1))
  | _ => none
theorem l_suturelaw2_LexCovers_10_eq (n : Nat) (k : ByteArray × Int × Bool × (List T) × Int × Int → Option (((Bool) ⊕ ByteArray × Int))) (s0 : ByteArray) (s1 : Int) (s2 : Bool) (s3 : List T) (s4 : Int) (s5 : Int) : mX Tryd.prog (sp_suturelaw2_LexCovers n) 156 code_l_suturelaw2_LexCovers_10 [(5, (V.t (T.sc (.string s0)))), (9, (V.t (T.sc (.int .i64 s1)))), (10, (V.t (T.sc (.bool s2)))), (62, (V.t (T.list s3))), (63, (V.t (T.sc (.int .i64 s4)))), (64, (V.t (T.sc (.int .i64 s5))))] [] (l_suturelaw2_LexCovers_10_K k) = l_suturelaw2_LexCovers_10_B n k (s0, s1, s2, s3, s4, s5) := by kernel_rfl
def l_suturelaw2_LexCovers_10_Q (x : ((Bool) ⊕ ByteArray × Int)) (ex : Ex) (e : Env) (s : Sig) : Prop := Sum.elim (fun p0 => (ex = .ret ∧ e = SEnv.env 156 [(4, (V.t (T.sc (.bool p0))))] ∧ s = [])) (fun x' => (fun p1 => (ex = (.exit 0) ∧ e = SEnv.env 156 [(5, (V.t (T.sc (.string p1.1)))), (9, (V.t (T.sc (.int .i64 p1.2))))] ∧ s = [])) x') x
theorem l_suturelaw2_LexCovers_10_run (n : Nat) : ∀ (m : Nat) (s0 : ByteArray) (s1 : Int) (s2 : Bool) (s3 : List T) (s4 : Int) (s5 : Int) (x : ((Bool) ⊕ ByteArray × Int)), l_suturelaw2_LexCovers_10 n m (s0, s1, s2, s3, s4, s5) = some x → SemL Tryd.prog 0 code_l_suturelaw2_LexCovers_10 (SEnv.env 156 [(5, (V.t (T.sc (.string s0)))), (9, (V.t (T.sc (.int .i64 s1)))), (10, (V.t (T.sc (.bool s2)))), (62, (V.t (T.list s3))), (63, (V.t (T.sc (.int .i64 s4)))), (64, (V.t (T.sc (.int .i64 s5))))]) [] (l_suturelaw2_LexCovers_10_Q x)
  | 0, s0, s1, s2, s3, s4, s5, x, h => by cases h
  | m + 1, s0, s1, s2, s3, s4, s5, x, h => by
    refine loop_step (sp_suturelaw2_LexCovers_ok n) code_l_suturelaw2_LexCovers_10_ok (forall_getD (d := .skip) 1 (by kernel_rfl) (fun i hi => match i, hi with | 0, _ => (show LoopOk Tryd.prog (sp_suturelaw2_LexCovers n) 0 156 ((loopsOf code_l_suturelaw2_LexCovers_10).getD 0 .skip) from (show (loopsOf code_l_suturelaw2_LexCovers_10).getD 0 .skip = code_l_suturelaw2_LexCovers_12 from by kernel_rfl) ▸ l_suturelaw2_LexCovers_12_ok n) | i + 1, hi => absurd hi (by omega))) (no_scope (by kernel_rfl)) ((l_suturelaw2_LexCovers_10_eq n _ s0 s1 s2 s3 s4 s5).trans h) (fun E sg h => ?_) (fun ex E sg hne h => ?_)
    · simp only [l_suturelaw2_LexCovers_10_K] at h
      obtain ⟨u0, hu0, h⟩ := Option.bind_eq_some_iff.1 h
      obtain ⟨u1, hu1, h⟩ := Option.bind_eq_some_iff.1 h
      obtain ⟨u2, hu2, h⟩ := Option.bind_eq_some_iff.1 h
      obtain ⟨u3, hu3, h⟩ := Option.bind_eq_some_iff.1 h
      obtain ⟨u4, hu4, h⟩ := Option.bind_eq_some_iff.1 h
      obtain ⟨u5, hu5, h⟩ := Option.bind_eq_some_iff.1 h
      exact SemL.pre (k := 0) (by decide) (WkA.env (WkA.cons (strOf_wk hu0) rfl (WkA.cons (intOf_wk hu1) rfl (WkA.cons (boolOf_wk hu2) rfl (WkA.cons (lstOf_wk hu3) rfl (WkA.cons (intOf_wk hu4) rfl (WkA.cons (intOf_wk hu5) rfl WkA.nil)))))) 156) (WkS.none _) (l_suturelaw2_LexCovers_10_run n m _ _ _ _ _ _ x h)
    · unfold l_suturelaw2_LexCovers_10_K at h
      split at h
      · exact absurd rfl hne
      · obtain ⟨u0, hu0, h⟩ := Option.bind_eq_some_iff.1 h
        simp only [Option.some.injEq] at h
        subst h
        exact ⟨0, _, _, by decide, WkA.env (WkA.cons (boolOf_wk hu0) rfl WkA.nil) 156, (WkS.none _), rfl, rfl, rfl⟩
      · obtain ⟨u0, hu0, h⟩ := Option.bind_eq_some_iff.1 h
        obtain ⟨u1, hu1, h⟩ := Option.bind_eq_some_iff.1 h
        simp only [Option.some.injEq] at h
        subst h
        exact ⟨0, _, _, by decide, WkA.env (WkA.cons (strOf_wk hu0) rfl (WkA.cons (intOf_wk hu1) rfl WkA.nil)) 156, (WkS.none _), rfl, rfl, rfl⟩
      · cases h
theorem l_suturelaw2_LexCovers_10_ok (n : Nat) : LoopOk Tryd.prog (sp_suturelaw2_LexCovers n) 0 156 code_l_suturelaw2_LexCovers_10 := by
    intro R key E sg K r hk h
    rw [show Go.Eng.keyOf code_l_suturelaw2_LexCovers_10 = some 10 from by kernel_rfl] at hk
    cases hk
    have h : l_suturelaw2_LexCovers_10_S n R E sg K = some r := h
    unfold l_suturelaw2_LexCovers_10_S at h
    obtain ⟨u0, hu0, h⟩ := Option.bind_eq_some_iff.1 h
    obtain ⟨u1, hu1, h⟩ := Option.bind_eq_some_iff.1 h
    obtain ⟨u2, hu2, h⟩ := Option.bind_eq_some_iff.1 h
    obtain ⟨u3, hu3, h⟩ := Option.bind_eq_some_iff.1 h
    obtain ⟨u4, hu4, h⟩ := Option.bind_eq_some_iff.1 h
    obtain ⟨u5, hu5, h⟩ := Option.bind_eq_some_iff.1 h
    obtain ⟨x, hx, h⟩ := Option.bind_eq_some_iff.1 h
    refine (SemL.pre (k := 0) (by decide) (WkA.env (WkA.cons (strOf_wk hu0) rfl (WkA.cons (intOf_wk hu1) rfl (WkA.cons (boolOf_wk hu2) rfl (WkA.cons (lstOf_wk hu3) rfl (WkA.cons (intOf_wk hu4) rfl (WkA.cons (intOf_wk hu5) rfl WkA.nil)))))) 156) (WkS.none _) (l_suturelaw2_LexCovers_10_run n n _ _ _ _ _ _ x hx)).mono ?_
    intro ex e s hq
    rcases x with x | x <;> (obtain ⟨rfl, rfl, rfl⟩ := hq; exact ⟨_, rfl, h⟩) -- 5
def K_suturelaw2_LexCovers (v : V) (s : Sig) : Option (Bool) := Option.bind (V.boolOf v) fun u0 => some u0
theorem K_suturelaw2_LexCovers_wk {v : V} {s : Sig} {r : Bool} (h : K_suturelaw2_LexCovers v s = some r) : Wk v (enc_suturelaw2_LexCovers r) ∧ WkS 0 s (encS_suturelaw2_LexCovers r) := by
  unfold K_suturelaw2_LexCovers at h
  obtain ⟨u0, hu0, h⟩ := Option.bind_eq_some_iff.1 h
  simp only [Option.some.injEq] at h
  subst h
  exact ⟨(boolOf_wk hu0), (WkS.none _)⟩
theorem m_suturelaw2_LexCovers_eq (n : Nat) (a0 : List T) (a1 : ByteArray) : mF Tryd.prog (sp_suturelaw2_LexCovers n) 9 [(V.t (T.list a0)), (V.t (T.sc (.string a1)))] [] K_suturelaw2_LexCovers = m_suturelaw2_LexCovers n a0 a1 := by kernel_rfl
theorem m_suturelaw2_LexCovers_ok (n : Nat) : ok_suturelaw2_LexCovers (m_suturelaw2_LexCovers n) := fun a0 a1 r h => mF_ok sound (sp_suturelaw2_LexCovers_ok n) code_suturelaw2_LexCovers_fn code_suturelaw2_LexCovers_body (forall_getD (d := .skip) 2 (by kernel_rfl) (fun i hi => match i, hi with | 0, _ => l_suturelaw2_LexCovers_10_ok n | 1, _ => l_suturelaw2_LexCovers_12_ok n | i + 2, hi => absurd hi (by omega))) (no_scope (by kernel_rfl)) ((m_suturelaw2_LexCovers_eq n a0 a1).trans h) (fun v s hk => ⟨(K_suturelaw2_LexCovers_wk hk).1, rfl, (K_suturelaw2_LexCovers_wk hk).2⟩)


/-! suture/suturelaw2.LexPrefix -/
noncomputable def l_suturelaw2_LexPrefix_13_B (n : Nat) (k : (List T) × (List T) × (List T) × Int × Int → Option (((Bool) ⊕ Unit))) : (List T) × (List T) × (List T) × Int × Int → Option (((Bool) ⊕ Unit)) := fun (s0, s1, s2, s3, s4) =>
bif (decide ((s4 : Int) < s3)) then (
Option.bind (idx true [.int .i64, .str, .int .i64, .cplx .f64] s2 s4) fun y8 =>
bif (decide ((s4 : Int) < (IntKind.wrap .i64 (((List.length s0 : Nat) : Int) - 1)))) then (
Option.bind (idx true [.int .i64, .str, .int .i64, .cplx .f64] s0 s4) fun y9 =>
Option.bind (cmpA Tryd.prog true .neq 48 [(.int .i64 (y8.cell 0).int), (.string (y8.cell 1).str), (.int .i64 (y8.cell 2).int), (.complex .f64 (y8.cell 3).re (y8.cell 3).im)] [(.int .i64 (y9.cell 0).int), (.string (y9.cell 1).str), (.int .i64 (y9.cell 2).int), (.complex .f64 (y9.cell 3).re (y9.cell 3).im)]) fun q10 =>
bif q10 then (
some (Sum.inl false))
else (
k (s0, s1, s2, s3, (IntKind.wrap .i64 (s4 + 1)))))
else (
Option.bind (idx true [.int .i64, .str, .int .i64, .cplx .f64] s1 (IntKind.wrap .i64 ((IntKind.wrap .i64 (s4 - ((List.length s0 : Nat) : Int))) + 1))) fun y11 =>
bif (bif (bif (((y8.cell 0).int : Int) != (y11.cell 0).int) then true else (!(ByteArray.toList (y8.cell 1).str == ByteArray.toList (y11.cell 1).str))) then true else (((y8.cell 2).int : Int) != (y11.cell 2).int)) then (
some (Sum.inl false))
else (
k (s0, s1, s2, s3, (IntKind.wrap .i64 (s4 + 1))))))
else (
some (Sum.inr ()))
noncomputable def l_suturelaw2_LexPrefix_13 (n : Nat) : Nat → (List T) × (List T) × (List T) × Int × Int → Option (((Bool) ⊕ Unit))
  | 0, _ => none
  | m + 1, s => l_suturelaw2_LexPrefix_13_B n (l_suturelaw2_LexPrefix_13 n m) s
noncomputable def m_suturelaw2_LexPrefix (n : Nat) (a0 : List T) (a1 : List T) (a2 : ByteArray) : Option (Bool) :=
Option.bind (m_suturelaw2_text n a0 (⟨#[]⟩ : ByteArray)) fun r0 =>
Option.bind (m_suturelaw2_text n a1 a2) fun r1 =>
Option.bind (m_lex_Tokens n r0) fun r2 =>
Option.bind (m_lex_Tokens n r1) fun r3 =>
must true (decide (((ByteArray.size r0 + ByteArray.size (⟨#[10]⟩ : ByteArray) : Nat) : Int) ≤ IntKind.i64.max)) (must true (decide (((ByteArray.size (r0 ++ (⟨#[10]⟩ : ByteArray)) + ByteArray.size r1 : Nat) : Int) ≤ IntKind.i64.max)) (Option.bind (m_lex_Tokens n ((r0 ++ (⟨#[10]⟩ : ByteArray)) ++ r1)) fun r4 =>
bif (decide (((IntKind.wrap .i64 ((IntKind.wrap .i64 (((ByteArray.size r0 : Nat) : Int) + ((ByteArray.size r1 : Nat) : Int))) + 1)) : Int) > 6000)) then (
Option.bind (m_suturelaw2_known n) fun r5 =>
some r5)
else (
Option.bind (m_suturelaw2_known n) fun r6 =>
bif (bif (bif (!r6) then true else ((r2.2.2 : Int) != 0)) then true else ((r3.2.2 : Int) != 0)) then (
Option.bind (m_suturelaw2_known n) fun r7 =>
some (bif r7 then ((r4.2.2 : Int) == 2) else false))
else (
bif (bif ((r4.2.2 : Int) != 0) then true else ((((List.length r4.1 : Nat) : Int) : Int) != (IntKind.wrap .i64 ((IntKind.wrap .i64 (((List.length r2.1 : Nat) : Int) + ((List.length r3.1 : Nat) : Int))) - 1)))) then (
some false)
else (
Option.bind (l_suturelaw2_LexPrefix_13 n n (r2.1, r3.1, r4.1, ((List.length r4.1 : Nat) : Int), 0)) fun x12 =>
Sum.elim (fun p13 => 
some p13) (fun x12' => (fun p14 => 
some true) x12') x12)))))
def enc_suturelaw2_LexPrefix (r : Bool) : V := (V.t (T.sc (.bool r)))
def encS_suturelaw2_LexPrefix (r : Bool) : Sig := []
def ok_suturelaw2_LexPrefix (m : List T → List T → ByteArray → Option (Bool)) : Prop := ∀ (a0 : List T) (a1 : List T) (a2 : ByteArray) (r : Bool), m a0 a1 a2 = some r → FuncOk Tryd.prog 10 [(V.t (T.list a0)), (V.t (T.list a1)), (V.t (T.sc (.string a2)))] [] (enc_suturelaw2_LexPrefix r) (encS_suturelaw2_LexPrefix r)
def c_suturelaw2_LexPrefix (m : List T → List T → ByteArray → Option (Bool)) (vs : List V) (sg : Sig) : Option CallM := bif Nat.beq vs.length 3 && Nat.beq sg.length 0 then Option.bind (V.lstOf (vs.getD 0 .any)) fun u0 => Option.bind (V.lstOf (vs.getD 1 .any)) fun u1 => Option.bind (V.strOf (vs.getD 2 .any)) fun u2 => some { α := Bool, m := m u0 u1 u2, dflt := false, enc := fun y => ((V.t (T.sc (.bool y))), []) } else none
theorem c_suturelaw2_LexPrefix_ok (m : List T → List T → ByteArray → Option (Bool)) (hm : ok_suturelaw2_LexPrefix m) (vs : List V) (sg : Sig) (cm : CallM) (x : cm.α) (h : c_suturelaw2_LexPrefix m vs sg = some cm) (hx : cm.m = some x) : FuncOk Tryd.prog 10 vs sg (cm.enc x).1 (cm.enc x).2 := by
  unfold c_suturelaw2_LexPrefix at h
  have h0 := callee_sig h
  clear h
  obtain ⟨hl, hs, h⟩ := h0
  obtain ⟨u0, hu0, h⟩ := Option.bind_eq_some_iff.1 h
  obtain ⟨u1, hu1, h⟩ := Option.bind_eq_some_iff.1 h
  obtain ⟨u2, hu2, h⟩ := Option.bind_eq_some_iff.1 h
  simp only [Option.some.injEq] at h
  subst h
  exact (hm u0 u1 u2 x hx).wk (args_wk hl (.cons (lstOf_wk hu0) (.cons (lstOf_wk hu1) (.cons (strOf_wk hu2) .nil)))) (wkSg_of hs .nil)
noncomputable def code_suturelaw2_LexPrefix : Code := Tryd.f10.body.getD .skip
noncomputable def l_suturelaw2_LexPrefix_13_S (n : Nat) (R : Type) (E : SEnv) (sg : Sig) (K : Ex → SEnv → Sig → Option R) : Option R := Option.bind (V.lstOf (SEnv.at E 9)) fun u0 => Option.bind (V.lstOf (SEnv.at E 12)) fun u1 => Option.bind (V.lstOf (SEnv.at E 15)) fun u2 => Option.bind (V.intOf .i64 (SEnv.at E 84)) fun u3 => Option.bind (V.intOf .i64 (SEnv.at E 85)) fun u4 => Option.bind (l_suturelaw2_LexPrefix_13 n n (u0, u1, u2, u3, u4)) fun y => Sum.elim (fun p0 => K .ret [(6, (V.t (T.sc (.bool p0))))] []) (fun y' => (fun p1 => K (.exit 0) [] []) y') y
noncomputable def sp_suturelaw2_LexPrefix (n : Nat) : Go.Eng.Spec := ⟨fun f vs sg => (match f with
    | 23 => c_suturelaw2_text (m_suturelaw2_text n) vs sg
    | 24 => c_lex_Tokens (m_lex_Tokens n) vs sg
    | 25 => c_suturelaw2_known (m_suturelaw2_known n) vs sg
    | _ => none), fun R key E sg K => (match key with
    | 13 => l_suturelaw2_LexPrefix_13_S n R E sg K
    | _ => none)⟩
theorem sp_suturelaw2_LexPrefix_ok (n : Nat) : CallsOk Tryd.prog (sp_suturelaw2_LexPrefix n) := by
  intro f vs sg cm x h hx
  simp only [sp_suturelaw2_LexPrefix] at h
  split at h
  · exact c_suturelaw2_text_ok _ (m_suturelaw2_text_ok n) vs sg cm x h hx
  · exact c_lex_Tokens_ok _ (m_lex_Tokens_ok n) vs sg cm x h hx
  · exact c_suturelaw2_known_ok _ (m_suturelaw2_known_ok n) vs sg cm x h hx
  · cases h
theorem code_suturelaw2_LexPrefix_fn : Tryd.prog.funcs[10]? = some Tryd.f10 := Tryd.func10
theorem code_suturelaw2_LexPrefix_body : Tryd.f10.body = some code_suturelaw2_LexPrefix := by kernel_rfl
theorem code_suturelaw2_LexPrefix_ok : CodeOk Tryd.prog code_suturelaw2_LexPrefix := (sound 10 _ _ code_suturelaw2_LexPrefix_fn code_suturelaw2_LexPrefix_body).1
noncomputable def code_l_suturelaw2_LexPrefix_13 : Code := (loopsOf code_suturelaw2_LexPrefix).getD 0 .skip
theorem code_l_suturelaw2_LexPrefix_13_ok : CodeOk Tryd.prog code_l_suturelaw2_LexPrefix_13 := codeOk_loops code_suturelaw2_LexPrefix_ok _ (getD_mem (by kernel_rfl))
def l_suturelaw2_LexPrefix_13_K (k : (List T) × (List T) × (List T) × Int × Int → Option (((Bool) ⊕ Unit))) : Ex → SEnv → Sig → Option (((Bool) ⊕ Unit)) := fun x E sg => match x with
  | .normal => Option.bind (V.lstOf (SEnv.at E 9)) fun u0 => Option.bind (V.lstOf (SEnv.at E 12)) fun u1 => Option.bind (V.lstOf (SEnv.at E 15)) fun u2 => Option.bind (V.intOf .i64 (SEnv.at E 84)) fun u3 => Option.bind (V.intOf .i64 (SEnv.at E 85)) fun u4 => k (u0, u1, u2, u3, u4)
  | .ret => Option.bind (V.boolOf (SEnv.at E 6)) fun u0 => some (Sum.inl u0)
  | (.exit 0) => some (Sum.inr ())
  | _ => none
theorem l_suturelaw2_LexPrefix_13_eq (n : Nat) (k : (List T) × (List T) × (List T) × Int × Int → Option (((Bool) ⊕ Unit))) (s0 : List T) (s1 : List T) (s2 : List T) (s3 : Int) (s4 : Int) : mX Tryd.prog (sp_suturelaw2_LexPrefix n) 131 code_l_suturelaw2_LexPrefix_13 [(9, (V.t (T.list s0))), (12, (V.t (T.list s1))), (15, (V.t (T.list s2))), (84, (V.t (T.sc (.int .i64 s3)))), (85, (V.t (T.sc (.int .i64 s4))))] [] (l_suturelaw2_LexPrefix_13_K k) = l_suturelaw2_LexPrefix_13_B n k (s0, s1, s2, s3, s4) := by kernel_rfl
def l_suturelaw2_LexPrefix_13_Q (x : ((Bool) ⊕ Unit)) (ex : Ex) (e : Env) (s : Sig) : Prop := Sum.elim (fun p0 => (ex = .ret ∧ e = SEnv.env 131 [(6, (V.t (T.sc (.bool p0))))] ∧ s = [])) (fun x' => (fun p1 => (ex = (.exit 0) ∧ e = SEnv.env 131 [] ∧ s = [])) x') x
theorem l_suturelaw2_LexPrefix_13_run (n : Nat) : ∀ (m : Nat) (s0 : List T) (s1 : List T) (s2 : List T) (s3 : Int) (s4 : Int) (x : ((Bool) ⊕ Unit)), l_suturelaw2_LexPrefix_13 n m (s0, s1, s2, s3, s4) = some x → SemL Tryd.prog 0 code_l_suturelaw2_LexPrefix_13 (SEnv.env 131 [(9, (V.t (T.list s0))), (12, (V.t (T.list s1))), (15, (V.t (T.list s2))), (84, (V.t (T.sc (.int .i64 s3)))), (85, (V.t (T.sc (.int .i64 s4))))]) [] (l_suturelaw2_LexPrefix_13_Q x)
  | 0, s0, s1, s2, s3, s4, x, h => by cases h
  | m + 1, s0, s1, s2, s3, s4, x, h => by
    refine loop_step (sp_suturelaw2_LexPrefix_ok n) code_l_suturelaw2_LexPrefix_13_ok (fun a ha => absurd ha (by rw [show loopsOf code_l_suturelaw2_LexPrefix_13 = [] from by kernel_rfl]; simp)) (no_scope (by kernel_rfl)) ((l_suturelaw2_LexPrefix_13_eq n _ s0 s1 s2 s3 s4).trans h) (fun E sg h => ?_) (fun ex E sg hne h => ?_)
    · simp only [l_suturelaw2_LexPrefix_13_K] at h
      obtain ⟨u0, hu0, h⟩ := Option.bind_eq_some_iff.1 h
      obtain ⟨u1, hu1, h⟩ := Option.bind_eq_some_iff.1 h
      obtain ⟨u2, hu2, h⟩ := Option.bind_eq_some_iff.1 h
      obtain ⟨u3, hu3, h⟩ := Option.bind_eq_some_iff.1 h
      obtain ⟨u4, hu4, h⟩ := Option.bind_eq_some_iff.1 h
      exact SemL.pre (k := 0) (by decide) (WkA.env (WkA.cons (lstOf_wk hu0) rfl (WkA.cons (lstOf_wk hu1) rfl (WkA.cons (lstOf_wk hu2) rfl (WkA.cons (intOf_wk hu3) rfl (WkA.cons (intOf_wk hu4) rfl WkA.nil))))) 131) (WkS.none _) (l_suturelaw2_LexPrefix_13_run n m _ _ _ _ _ x h)
    · unfold l_suturelaw2_LexPrefix_13_K at h
      split at h
      · exact absurd rfl hne
      · obtain ⟨u0, hu0, h⟩ := Option.bind_eq_some_iff.1 h
        simp only [Option.some.injEq] at h
        subst h
        exact ⟨0, _, _, by decide, WkA.env (WkA.cons (boolOf_wk hu0) rfl WkA.nil) 131, (WkS.none _), rfl, rfl, rfl⟩
      · simp only [Option.some.injEq] at h
        subst h
        exact ⟨0, _, _, by decide, WkA.env WkA.nil 131, (WkS.none _), rfl, rfl, rfl⟩
      · cases h
theorem l_suturelaw2_LexPrefix_13_ok (n : Nat) : LoopOk Tryd.prog (sp_suturelaw2_LexPrefix n) 0 131 code_l_suturelaw2_LexPrefix_13 := by
    intro R key E sg K r hk h
    rw [show Go.Eng.keyOf code_l_suturelaw2_LexPrefix_13 = some 13 from by kernel_rfl] at hk
    cases hk
    have h : l_suturelaw2_LexPrefix_13_S n R E sg K = some r := h
    unfold l_suturelaw2_LexPrefix_13_S at h
    obtain ⟨u0, hu0, h⟩ := Option.bind_eq_some_iff.1 h
    obtain ⟨u1, hu1, h⟩ := Option.bind_eq_some_iff.1 h
    obtain ⟨u2, hu2, h⟩ := Option.bind_eq_some_iff.1 h
    obtain ⟨u3, hu3, h⟩ := Option.bind_eq_some_iff.1 h
    obtain ⟨u4, hu4, h⟩ := Option.bind_eq_some_iff.1 h
    obtain ⟨x, hx, h⟩ := Option.bind_eq_some_iff.1 h
    refine (SemL.pre (k := 0) (by decide) (WkA.env (WkA.cons (lstOf_wk hu0) rfl (WkA.cons (lstOf_wk hu1) rfl (WkA.cons (lstOf_wk hu2) rfl (WkA.cons (intOf_wk hu3) rfl (WkA.cons (intOf_wk hu4) rfl WkA.nil))))) 131) (WkS.none _) (l_suturelaw2_LexPrefix_13_run n n _ _ _ _ _ x hx)).mono ?_
    intro ex e s hq
    rcases x with x | x <;> (obtain ⟨rfl, rfl, rfl⟩ := hq; exact ⟨_, rfl, h⟩) -- 5
def K_suturelaw2_LexPrefix (v : V) (s : Sig) : Option (Bool) := Option.bind (V.boolOf v) fun u0 => some u0
theorem K_suturelaw2_LexPrefix_wk {v : V} {s : Sig} {r : Bool} (h : K_suturelaw2_LexPrefix v s = some r) : Wk v (enc_suturelaw2_LexPrefix r) ∧ WkS 0 s (encS_suturelaw2_LexPrefix r) := by
  unfold K_suturelaw2_LexPrefix at h
  obtain ⟨u0, hu0, h⟩ := Option.bind_eq_some_iff.1 h
  simp only [Option.some.injEq] at h
  subst h
  exact ⟨(boolOf_wk hu0), (WkS.none _)⟩
theorem m_suturelaw2_LexPrefix_eq (n : Nat) (a0 : List T) (a1 : List T) (a2 : ByteArray) : mF Tryd.prog (sp_suturelaw2_LexPrefix n) 10 [(V.t (T.list a0)), (V.t (T.list a1)), (V.t (T.sc (.string a2)))] [] K_suturelaw2_LexPrefix = m_suturelaw2_LexPrefix n a0 a1 a2 := by kernel_rfl
theorem m_suturelaw2_LexPrefix_ok (n : Nat) : ok_suturelaw2_LexPrefix (m_suturelaw2_LexPrefix n) := fun a0 a1 a2 r h => mF_ok sound (sp_suturelaw2_LexPrefix_ok n) code_suturelaw2_LexPrefix_fn code_suturelaw2_LexPrefix_body (forall_getD (d := .skip) 1 (by kernel_rfl) (fun i hi => match i, hi with | 0, _ => l_suturelaw2_LexPrefix_13_ok n | i + 1, hi => absurd hi (by omega))) (no_scope (by kernel_rfl)) ((m_suturelaw2_LexPrefix_eq n a0 a1 a2).trans h) (fun v s hk => ⟨(K_suturelaw2_LexPrefix_wk hk).1, rfl, (K_suturelaw2_LexPrefix_wk hk).2⟩)


/-! suture/sutureref1.letter -/
def m_sutureref1_letter (n : Nat) (a0 : Int) : Option (Bool) :=
some (bif (decide ((a0 : Int) ≥ 97)) then (decide ((a0 : Int) ≤ 122)) else false)
def enc_sutureref1_letter (r : Bool) : V := (V.t (T.sc (.bool r)))
def encS_sutureref1_letter (r : Bool) : Sig := []
def ok_sutureref1_letter (m : Int → Option (Bool)) : Prop := ∀ (a0 : Int) (r : Bool), m a0 = some r → FuncOk Tryd.prog 62 [(V.t (T.sc (.int .u8 a0)))] [] (enc_sutureref1_letter r) (encS_sutureref1_letter r)
def c_sutureref1_letter (m : Int → Option (Bool)) (vs : List V) (sg : Sig) : Option CallM := bif Nat.beq vs.length 1 && Nat.beq sg.length 0 then Option.bind (V.intOf .u8 (vs.getD 0 .any)) fun u0 => some { α := Bool, m := m u0, dflt := false, enc := fun y => ((V.t (T.sc (.bool y))), []) } else none
theorem c_sutureref1_letter_ok (m : Int → Option (Bool)) (hm : ok_sutureref1_letter m) (vs : List V) (sg : Sig) (cm : CallM) (x : cm.α) (h : c_sutureref1_letter m vs sg = some cm) (hx : cm.m = some x) : FuncOk Tryd.prog 62 vs sg (cm.enc x).1 (cm.enc x).2 := by
  unfold c_sutureref1_letter at h
  have h0 := callee_sig h
  clear h
  obtain ⟨hl, hs, h⟩ := h0
  obtain ⟨u0, hu0, h⟩ := Option.bind_eq_some_iff.1 h
  simp only [Option.some.injEq] at h
  subst h
  exact (hm u0 x hx).wk (args_wk hl (.cons (intOf_wk hu0) .nil)) (wkSg_of hs .nil)
noncomputable def code_sutureref1_letter : Code := Tryd.f62.body.getD .skip
noncomputable def sp_sutureref1_letter (n : Nat) : Go.Eng.Spec := ⟨fun f vs sg => (match f with
    | _ => none), fun R key E sg K => (match key with
    | _ => none)⟩
theorem sp_sutureref1_letter_ok (n : Nat) : CallsOk Tryd.prog (sp_sutureref1_letter n) := by
  intro f vs sg cm x h hx
  have h : (none : Option CallM) = some cm := h
  cases h
theorem code_sutureref1_letter_fn : Tryd.prog.funcs[62]? = some Tryd.f62 := Tryd.func62
theorem code_sutureref1_letter_body : Tryd.f62.body = some code_sutureref1_letter := by kernel_rfl
theorem code_sutureref1_letter_ok : CodeOk Tryd.prog code_sutureref1_letter := (sound 62 _ _ code_sutureref1_letter_fn code_sutureref1_letter_body).1
def K_sutureref1_letter (v : V) (s : Sig) : Option (Bool) := Option.bind (V.boolOf v) fun u0 => some u0
theorem K_sutureref1_letter_wk {v : V} {s : Sig} {r : Bool} (h : K_sutureref1_letter v s = some r) : Wk v (enc_sutureref1_letter r) ∧ WkS 0 s (encS_sutureref1_letter r) := by
  unfold K_sutureref1_letter at h
  obtain ⟨u0, hu0, h⟩ := Option.bind_eq_some_iff.1 h
  simp only [Option.some.injEq] at h
  subst h
  exact ⟨(boolOf_wk hu0), (WkS.none _)⟩
theorem m_sutureref1_letter_eq (n : Nat) (a0 : Int) : mF Tryd.prog (sp_sutureref1_letter n) 62 [(V.t (T.sc (.int .u8 a0)))] [] K_sutureref1_letter = m_sutureref1_letter n a0 := by kernel_rfl
theorem m_sutureref1_letter_ok (n : Nat) : ok_sutureref1_letter (m_sutureref1_letter n) := fun a0 r h => mF_ok sound (sp_sutureref1_letter_ok n) code_sutureref1_letter_fn code_sutureref1_letter_body (fun a ha => absurd ha (by rw [show loopsOf code_sutureref1_letter = [] from by kernel_rfl]; simp)) (no_scope (by kernel_rfl)) ((m_sutureref1_letter_eq n a0).trans h) (fun v s hk => ⟨(K_sutureref1_letter_wk hk).1, rfl, (K_sutureref1_letter_wk hk).2⟩)


/-! suture/sutureref1.digit -/
def m_sutureref1_digit (n : Nat) (a0 : Int) : Option (Bool) :=
some (bif (decide ((a0 : Int) ≥ 48)) then (decide ((a0 : Int) ≤ 57)) else false)
def enc_sutureref1_digit (r : Bool) : V := (V.t (T.sc (.bool r)))
def encS_sutureref1_digit (r : Bool) : Sig := []
def ok_sutureref1_digit (m : Int → Option (Bool)) : Prop := ∀ (a0 : Int) (r : Bool), m a0 = some r → FuncOk Tryd.prog 63 [(V.t (T.sc (.int .u8 a0)))] [] (enc_sutureref1_digit r) (encS_sutureref1_digit r)
def c_sutureref1_digit (m : Int → Option (Bool)) (vs : List V) (sg : Sig) : Option CallM := bif Nat.beq vs.length 1 && Nat.beq sg.length 0 then Option.bind (V.intOf .u8 (vs.getD 0 .any)) fun u0 => some { α := Bool, m := m u0, dflt := false, enc := fun y => ((V.t (T.sc (.bool y))), []) } else none
theorem c_sutureref1_digit_ok (m : Int → Option (Bool)) (hm : ok_sutureref1_digit m) (vs : List V) (sg : Sig) (cm : CallM) (x : cm.α) (h : c_sutureref1_digit m vs sg = some cm) (hx : cm.m = some x) : FuncOk Tryd.prog 63 vs sg (cm.enc x).1 (cm.enc x).2 := by
  unfold c_sutureref1_digit at h
  have h0 := callee_sig h
  clear h
  obtain ⟨hl, hs, h⟩ := h0
  obtain ⟨u0, hu0, h⟩ := Option.bind_eq_some_iff.1 h
  simp only [Option.some.injEq] at h
  subst h
  exact (hm u0 x hx).wk (args_wk hl (.cons (intOf_wk hu0) .nil)) (wkSg_of hs .nil)
noncomputable def code_sutureref1_digit : Code := Tryd.f63.body.getD .skip
noncomputable def sp_sutureref1_digit (n : Nat) : Go.Eng.Spec := ⟨fun f vs sg => (match f with
    | _ => none), fun R key E sg K => (match key with
    | _ => none)⟩
theorem sp_sutureref1_digit_ok (n : Nat) : CallsOk Tryd.prog (sp_sutureref1_digit n) := by
  intro f vs sg cm x h hx
  have h : (none : Option CallM) = some cm := h
  cases h
theorem code_sutureref1_digit_fn : Tryd.prog.funcs[63]? = some Tryd.f63 := Tryd.func63
theorem code_sutureref1_digit_body : Tryd.f63.body = some code_sutureref1_digit := by kernel_rfl
theorem code_sutureref1_digit_ok : CodeOk Tryd.prog code_sutureref1_digit := (sound 63 _ _ code_sutureref1_digit_fn code_sutureref1_digit_body).1
def K_sutureref1_digit (v : V) (s : Sig) : Option (Bool) := Option.bind (V.boolOf v) fun u0 => some u0
theorem K_sutureref1_digit_wk {v : V} {s : Sig} {r : Bool} (h : K_sutureref1_digit v s = some r) : Wk v (enc_sutureref1_digit r) ∧ WkS 0 s (encS_sutureref1_digit r) := by
  unfold K_sutureref1_digit at h
  obtain ⟨u0, hu0, h⟩ := Option.bind_eq_some_iff.1 h
  simp only [Option.some.injEq] at h
  subst h
  exact ⟨(boolOf_wk hu0), (WkS.none _)⟩
theorem m_sutureref1_digit_eq (n : Nat) (a0 : Int) : mF Tryd.prog (sp_sutureref1_digit n) 63 [(V.t (T.sc (.int .u8 a0)))] [] K_sutureref1_digit = m_sutureref1_digit n a0 := by kernel_rfl
theorem m_sutureref1_digit_ok (n : Nat) : ok_sutureref1_digit (m_sutureref1_digit n) := fun a0 r h => mF_ok sound (sp_sutureref1_digit_ok n) code_sutureref1_digit_fn code_sutureref1_digit_body (fun a ha => absurd ha (by rw [show loopsOf code_sutureref1_digit = [] from by kernel_rfl]; simp)) (no_scope (by kernel_rfl)) ((m_sutureref1_digit_eq n a0).trans h) (fun v s hk => ⟨(K_sutureref1_digit_wk hk).1, rfl, (K_sutureref1_digit_wk hk).2⟩)


/-! suture/sutureref1.number -/
def l_sutureref1_number_3_B (n : Nat) (k : ByteArray × Int × Int → Option (((Int × Bool) ⊕ ByteArray × Int))) : ByteArray × Int × Int → Option (((Int × Bool) ⊕ ByteArray × Int)) := fun (s0, s1, s2) =>
bif (decide ((s2 : Int) < ((ByteArray.size s0 : Nat) : Int))) then (
Option.bind (bidx true s0 s2) fun b0 =>
must true (!decide (10 = 0)) (bif (decide ((s1 : Int) > (IntKind.wrap .i64 (Int.tdiv (IntKind.wrap .i64 (9223372036854775807 - (IntKind.wrap .i64 (IntKind.wrap .u8 (((UInt8.toNat b0 : Nat) : Int) - 48))))) 10)))) then (
some (Sum.inl (0, false)))
else (
k (s0, (IntKind.wrap .i64 ((IntKind.wrap .i64 (10 * s1)) + (IntKind.wrap .i64 (IntKind.wrap .u8 (((UInt8.toNat b0 : Nat) : Int) - 48))))), (IntKind.wrap .i64 (s2 + 1))))))
else (
some (Sum.inr (s0, s1)))
def l_sutureref1_number_3 (n : Nat) : Nat → ByteArray × Int × Int → Option (((Int × Bool) ⊕ ByteArray × Int))
  | 0, _ => none
  | m + 1, s => l_sutureref1_number_3_B n (l_sutureref1_number_3 n m) s
def m_sutureref1_number (n : Nat) (a0 : ByteArray) : Option (Int × Bool) :=
Option.bind (l_sutureref1_number_3 n n (a0, 0, 0)) fun x1 =>
Sum.elim (fun p2 => 
some (p2.1, p2.2)) (fun x1' => (fun p3 => 
Option.bind (bidx ((!(ByteArray.toList p3.1 == ByteArray.toList (⟨#[]⟩ : ByteArray)))) p3.1 0) fun b4 =>
some (p3.2, (bif (!(ByteArray.toList p3.1 == ByteArray.toList (⟨#[]⟩ : ByteArray))) then (bif ((((UInt8.toNat b4 : Nat) : Int) : Int) != 48) then true else (ByteArray.toList p3.1 == ByteArray.toList (⟨#[48]⟩ : ByteArray))) else false))) x1') x1
def enc_sutureref1_number (r : Int × Bool) : V := (V.tup [(V.t (T.sc (.int .i64 r.1))), (V.t (T.sc (.bool r.2)))])
def encS_sutureref1_number (r : Int × Bool) : Sig := []
def ok_sutureref1_number (m : ByteArray → Option (Int × Bool)) : Prop := ∀ (a0 : ByteArray) (r : Int × Bool), m a0 = some r → FuncOk Tryd.prog 64 [(V.t (T.sc (.string a0)))] [] (enc_sutureref1_number r) (encS_sutureref1_number r)
def c_sutureref1_number (m : ByteArray → Option (Int × Bool)) (vs : List V) (sg : Sig) : Option CallM := bif Nat.beq vs.length 1 && Nat.beq sg.length 0 then Option.bind (V.strOf (vs.getD 0 .any)) fun u0 => some { α := Int × Bool, m := m u0, dflt := (0, false), enc := fun y => ((V.tup [(V.t (T.sc (.int .i64 y.1))), (V.t (T.sc (.bool y.2)))]), []) } else none
theorem c_sutureref1_number_ok (m : ByteArray → Option (Int × Bool)) (hm : ok_sutureref1_number m) (vs : List V) (sg : Sig) (cm : CallM) (x : cm.α) (h : c_sutureref1_number m vs sg = some cm) (hx : cm.m = some x) : FuncOk Tryd.prog 64 vs sg (cm.enc x).1 (cm.enc x).2 := by
  unfold c_sutureref1_number at h
  have h0 := callee_sig h
  clear h
  obtain ⟨hl, hs, h⟩ := h0
  obtain ⟨u0, hu0, h⟩ := Option.bind_eq_some_iff.1 h
  simp only [Option.some.injEq] at h
  subst h
  exact (hm u0 x hx).wk (args_wk hl (.cons (strOf_wk hu0) .nil)) (wkSg_of hs .nil)
noncomputable def code_sutureref1_number : Code := Tryd.f64.body.getD .skip
def l_sutureref1_number_3_S (n : Nat) (R : Type) (E : SEnv) (sg : Sig) (K : Ex → SEnv → Sig → Option R) : Option R := Option.bind (V.strOf (SEnv.at E 0)) fun u0 => Option.bind (V.intOf .i64 (SEnv.at E 4)) fun u1 => Option.bind (V.intOf .i64 (SEnv.at E 5)) fun u2 => Option.bind (l_sutureref1_number_3 n n (u0, u1, u2)) fun y => Sum.elim (fun p0 => K .ret [(2, (V.t (T.sc (.int .i64 p0.1)))), (3, (V.t (T.sc (.bool p0.2))))] []) (fun y' => (fun p1 => K (.exit 0) [(0, (V.t (T.sc (.string p1.1)))), (4, (V.t (T.sc (.int .i64 p1.2))))] []) y') y
noncomputable def sp_sutureref1_number (n : Nat) : Go.Eng.Spec := ⟨fun f vs sg => (match f with
    | _ => none), fun R key E sg K => (match key with
    | 3 => l_sutureref1_number_3_S n R E sg K
    | _ => none)⟩
theorem sp_sutureref1_number_ok (n : Nat) : CallsOk Tryd.prog (sp_sutureref1_number n) := by
  intro f vs sg cm x h hx
  have h : (none : Option CallM) = some cm := h
  cases h
theorem code_sutureref1_number_fn : Tryd.prog.funcs[64]? = some Tryd.f64 := Tryd.func64
theorem code_sutureref1_number_body : Tryd.f64.body = some code_sutureref1_number := by kernel_rfl
theorem code_sutureref1_number_ok : CodeOk Tryd.prog code_sutureref1_number := (sound 64 _ _ code_sutureref1_number_fn code_sutureref1_number_body).1
noncomputable def code_l_sutureref1_number_3 : Code := (loopsOf code_sutureref1_number).getD 0 .skip
theorem code_l_sutureref1_number_3_ok : CodeOk Tryd.prog code_l_sutureref1_number_3 := codeOk_loops code_sutureref1_number_ok _ (getD_mem (by kernel_rfl))
def l_sutureref1_number_3_K (k : ByteArray × Int × Int → Option (((Int × Bool) ⊕ ByteArray × Int))) : Ex → SEnv → Sig → Option (((Int × Bool) ⊕ ByteArray × Int)) := fun x E sg => match x with
  | .normal => Option.bind (V.strOf (SEnv.at E 0)) fun u0 => Option.bind (V.intOf .i64 (SEnv.at E 4)) fun u1 => Option.bind (V.intOf .i64 (SEnv.at E 5)) fun u2 => k (u0, u1, u2)
  | .ret => Option.bind (V.intOf .i64 (SEnv.at E 2)) fun u0 => Option.bind (V.boolOf (SEnv.at E 3)) fun u1 => some (Sum.inl (u0, u1))
  | (.exit 0) => Option.bind (V.strOf (SEnv.at E 0)) fun u0 => Option.bind (V.intOf .i64 (SEnv.at E 4)) fun u1 => some (Sum.inr (u0, u1))
  | _ => none
theorem l_sutureref1_number_3_eq (n : Nat) (k : ByteArray × Int × Int → Option (((Int × Bool) ⊕ ByteArray × Int))) (s0 : ByteArray) (s1 : Int) (s2 : Int) : mX Tryd.prog (sp_sutureref1_number n) 39 code_l_sutureref1_number_3 [(0, (V.t (T.sc (.string s0)))), (4, (V.t (T.sc (.int .i64 s1)))), (5, (V.t (T.sc (.int .i64 s2))))] [] (l_sutureref1_number_3_K k) = l_sutureref1_number_3_B n k (s0, s1, s2) := by kernel_rfl
def l_sutureref1_number_3_Q (x : ((Int × Bool) ⊕ ByteArray × Int)) (ex : Ex) (e : Env) (s : Sig) : Prop := Sum.elim (fun p0 => (ex = .ret ∧ e = SEnv.env 39 [(2, (V.t (T.sc (.int .i64 p0.1)))), (3, (V.t (T.sc (.bool p0.2))))] ∧ s = [])) (fun x' => (fun p1 => (ex = (.exit 0) ∧ e = SEnv.env 39 [(0, (V.t (T.sc (.string p1.1)))), (4, (V.t (T.sc (.int .i64 p1.2))))] ∧ s = [])) x') x
theorem l_sutureref1_number_3_run (n : Nat) : ∀ (m : Nat) (s0 : ByteArray) (s1 : Int) (s2 : Int) (x : ((Int × Bool) ⊕ ByteArray × Int)), l_sutureref1_number_3 n m (s0, s1, s2) = some x → SemL Tryd.prog 0 code_l_sutureref1_number_3 (SEnv.env 39 [(0, (V.t (T.sc (.string s0)))), (4, (V.t (T.sc (.int .i64 s1)))), (5, (V.t (T.sc (.int .i64 s2))))]) [] (l_sutureref1_number_3_Q x)
  | 0, s0, s1, s2, x, h => by cases h
  | m + 1, s0, s1, s2, x, h => by
    refine loop_step (sp_sutureref1_number_ok n) code_l_sutureref1_number_3_ok (fun a ha => absurd ha (by rw [show loopsOf code_l_sutureref1_number_3 = [] from by kernel_rfl]; simp)) (no_scope (by kernel_rfl)) ((l_sutureref1_number_3_eq n _ s0 s1 s2).trans h) (fun E sg h => ?_) (fun ex E sg hne h => ?_)
    · simp only [l_sutureref1_number_3_K] at h
      obtain ⟨u0, hu0, h⟩ := Option.bind_eq_some_iff.1 h
      obtain ⟨u1, hu1, h⟩ := Option.bind_eq_some_iff.1 h
      obtain ⟨u2, hu2, h⟩ := Option.bind_eq_some_iff.1 h
      exact SemL.pre (k := 0) (by decide) (WkA.env (WkA.cons (strOf_wk hu0) rfl (WkA.cons (intOf_wk hu1) rfl (WkA.cons (intOf_wk hu2) rfl WkA.nil))) 39) (WkS.none _) (l_sutureref1_number_3_run n m _ _ _ x h)
    · unfold l_sutureref1_number_3_K at h
      split at h
      · exact absurd rfl hne
      · obtain ⟨u0, hu0, h⟩ := Option.bind_eq_some_iff.1 h
        obtain ⟨u1, hu1, h⟩ := Option.bind_eq_some_iff.1 h
        simp only [Option.some.injEq] at h
        subst h
        exact ⟨0, _, _, by decide, WkA.env (WkA.cons (intOf_wk hu0) rfl (WkA.cons (boolOf_wk hu1) rfl WkA.nil)) 39, (WkS.none _), rfl, rfl, rfl⟩
      · obtain ⟨u0, hu0, h⟩ := Option.bind_eq_some_iff.1 h
        obtain ⟨u1, hu1, h⟩ := Option.bind_eq_some_iff.1 h
        simp only [Option.some.injEq] at h
        subst h
        exact ⟨0, _, _, by decide, WkA.env (WkA.cons (strOf_wk hu0) rfl (WkA.cons (intOf_wk hu1) rfl WkA.nil)) 39, (WkS.none _), rfl, rfl, rfl⟩
      · cases h
theorem l_sutureref1_number_3_ok (n : Nat) : LoopOk Tryd.prog (sp_sutureref1_number n) 0 39 code_l_sutureref1_number_3 := by
    intro R key E sg K r hk h
    rw [show Go.Eng.keyOf code_l_sutureref1_number_3 = some 3 from by kernel_rfl] at hk
    cases hk
    have h : l_sutureref1_number_3_S n R E sg K = some r := h
    unfold l_sutureref1_number_3_S at h
    obtain ⟨u0, hu0, h⟩ := Option.bind_eq_some_iff.1 h
    obtain ⟨u1, hu1, h⟩ := Option.bind_eq_some_iff.1 h
    obtain ⟨u2, hu2, h⟩ := Option.bind_eq_some_iff.1 h
    obtain ⟨x, hx, h⟩ := Option.bind_eq_some_iff.1 h
    refine (SemL.pre (k := 0) (by decide) (WkA.env (WkA.cons (strOf_wk hu0) rfl (WkA.cons (intOf_wk hu1) rfl (WkA.cons (intOf_wk hu2) rfl WkA.nil))) 39) (WkS.none _) (l_sutureref1_number_3_run n n _ _ _ x hx)).mono ?_
    intro ex e s hq
    rcases x with x | x <;> (obtain ⟨rfl, rfl, rfl⟩ := hq; exact ⟨_, rfl, h⟩) -- 5
def K_sutureref1_number (v : V) (s : Sig) : Option (Int × Bool) := Option.bind (V.tupN 2 v) fun u0 => Option.bind (V.intOf .i64 (u0.getD 0 .any)) fun u1 => Option.bind (V.boolOf (u0.getD 1 .any)) fun u2 => some (u1, u2)
theorem K_sutureref1_number_wk {v : V} {s : Sig} {r : Int × Bool} (h : K_sutureref1_number v s = some r) : Wk v (enc_sutureref1_number r) ∧ WkS 0 s (encS_sutureref1_number r) := by
  unfold K_sutureref1_number at h
  obtain ⟨u0, hu0, h⟩ := Option.bind_eq_some_iff.1 h
  obtain ⟨u1, hu1, h⟩ := Option.bind_eq_some_iff.1 h
  obtain ⟨u2, hu2, h⟩ := Option.bind_eq_some_iff.1 h
  simp only [Option.some.injEq] at h
  subst h
  exact ⟨(tupN_wk hu0 (.cons (intOf_wk hu1) (.cons (boolOf_wk hu2) .nil))), (WkS.none _)⟩
theorem m_sutureref1_number_eq (n : Nat) (a0 : ByteArray) : mF Tryd.prog (sp_sutureref1_number n) 64 [(V.t (T.sc (.string a0)))] [] K_sutureref1_number = m_sutureref1_number n a0 := by kernel_rfl
theorem m_sutureref1_number_ok (n : Nat) : ok_sutureref1_number (m_sutureref1_number n) := fun a0 r h => mF_ok sound (sp_sutureref1_number_ok n) code_sutureref1_number_fn code_sutureref1_number_body (forall_getD (d := .skip) 1 (by kernel_rfl) (fun i hi => match i, hi with | 0, _ => l_sutureref1_number_3_ok n | i + 1, hi => absurd hi (by omega))) (no_scope (by kernel_rfl)) ((m_sutureref1_number_eq n a0).trans h) (fun v s hk => ⟨(K_sutureref1_number_wk hk).1, rfl, (K_sutureref1_number_wk hk).2⟩)


/-! suture/sutureref1.one -/
def l_sutureref1_one_4_B (n : Nat) (k : ByteArray × Int × Int × Int × ByteArray × Int × Int → Option (ByteArray × Int × Int × Int × ByteArray × Int × Int)) : ByteArray × Int × Int × Int × ByteArray × Int × Int → Option (ByteArray × Int × Int × Int × ByteArray × Int × Int) := fun (s0, s1, s2, s3, s4, s5, s6) =>
Option.bind (bidx ((decide ((s2 : Int) < ((ByteArray.size s0 : Nat) : Int)))) s0 s2) fun b2 =>
Option.bind (bif (decide ((s2 : Int) < ((ByteArray.size s0 : Nat) : Int))) then m_sutureref1_letter n ((UInt8.toNat b2 : Nat) : Int) else some false) fun r3 =>
Option.bind (bidx (((decide ((s2 : Int) < ((ByteArray.size s0 : Nat) : Int))) && !r3)) s0 s2) fun b4 =>
Option.bind (bif ((decide ((s2 : Int) < ((ByteArray.size s0 : Nat) : Int))) && !r3) then m_sutureref1_digit n ((UInt8.toNat b4 : Nat) : Int) else some false) fun r5 =>
bif (bif (decide ((s2 : Int) < ((ByteArray.size s0 : Nat) : Int))) then (bif r3 then true else r5) else false) then (
k (s0, s1, (IntKind.wrap .i64 (s2 + 1)), s3, s4, s5, s6))
else (
some (s0, s1, s2, s3, s4, s5, s6))
def l_sutureref1_one_4 (n : Nat) : Nat → ByteArray × Int × Int × Int × ByteArray × Int × Int → Option (ByteArray × Int × Int × Int × ByteArray × Int × Int)
  | 0, _ => none
  | m + 1, s => l_sutureref1_one_4_B n (l_sutureref1_one_4 n m) s
def l_sutureref1_one_10_B (n : Nat) (k : ByteArray × Int × Int × Int × ByteArray × Int × Int → Option (ByteArray × Int × Int × Int × ByteArray × Int × Int)) : ByteArray × Int × Int × Int × ByteArray × Int × Int → Option (ByteArray × Int × Int × Int × ByteArray × Int × Int) := fun (s0, s1, s2, s3, s4, s5, s6) =>
Option.bind (bidx ((decide ((s2 : Int) < ((ByteArray.size s0 : Nat) : Int)))) s0 s2) fun b9 =>
Option.bind (bif (decide ((s2 : Int) < ((ByteArray.size s0 : Nat) : Int))) then m_sutureref1_digit n ((UInt8.toNat b9 : Nat) : Int) else some false) fun r10 =>
bif (bif (decide ((s2 : Int) < ((ByteArray.size s0 : Nat) : Int))) then r10 else false) then (
k (s0, s1, (IntKind.wrap .i64 (s2 + 1)), s3, s4, s5, s6))
else (
some (s0, s1, s2, s3, s4, s5, s6))
def l_sutureref1_one_10 (n : Nat) : Nat → ByteArray × Int × Int × Int × ByteArray × Int × Int → Option (ByteArray × Int × Int × Int × ByteArray × Int × Int)
  | 0, _ => none
  | m + 1, s => l_sutureref1_one_10_B n (l_sutureref1_one_10 n m) s
def l_sutureref1_one_19_B (n : Nat) (k : ByteArray × Int × Int × Int × Int × Int × ByteArray × Int × Int → Option (((Int × Int × ByteArray × Int × Int) ⊕ Int × ByteArray × Int × Int))) : ByteArray × Int × Int × Int × Int × Int × ByteArray × Int × Int → Option (((Int × Int × ByteArray × Int × Int) ⊕ Int × ByteArray × Int × Int)) := fun (s0, s1, s2, s3, s4, s5, s6, s7, s8) =>
bif (decide ((s4 : Int) < 11)) then (
Option.bind (bidx true (⟨#[61, 60, 43, 45, 42, 47, 37, 40, 41, 123, 125]⟩ : ByteArray) s4) fun b15 =>
bif ((((UInt8.toNat b15 : Nat) : Int) : Int) == s2) then (
must true (decide (0 ≤ s1) && decide (s1 ≤ s3) && decide (s3 ≤ ((ByteArray.size s0 : Nat) : Int))) (some (Sum.inl (1, 3, (ByteArray.extract s0 (Int.toNat s1) (Int.toNat s3)), 0, s1))))
else (
k (s0, s1, s2, s3, (IntKind.wrap .i64 (s4 + 1)), s5, s6, s7, s8)))
else (
some (Sum.inr (s5, s6, s7, s8)))
def l_sutureref1_one_19 (n : Nat) : Nat → ByteArray × Int × Int × Int × Int × Int × ByteArray × Int × Int → Option (((Int × Int × ByteArray × Int × Int) ⊕ Int × ByteArray × Int × Int))
  | 0, _ => none
  | m + 1, s => l_sutureref1_one_19_B n (l_sutureref1_one_19 n m) s
def m_sutureref1_one (n : Nat) (a0 : ByteArray) (a1 : Int) : Option (Int × ByteArray × Int × Int × Int) :=
Option.bind (bidx true a0 a1) fun b0 =>
Option.bind (m_sutureref1_letter n ((UInt8.toNat b0 : Nat) : Int)) fun r1 =>
bif r1 then (
Option.bind (l_sutureref1_one_4 n n (a0, a1, (IntKind.wrap .i64 (a1 + 1)), 0, (⟨#[]⟩ : ByteArray), 0, 0)) fun p7 =>
bif (decide (((IntKind.wrap .i64 (p7.2.2.1 - p7.2.1)) : Int) > 12)) then (
some (0, (⟨#[]⟩ : ByteArray), 0, 0, 0))
else (
must true (decide (0 ≤ p7.2.1) && decide (p7.2.1 ≤ p7.2.2.1) && decide (p7.2.2.1 ≤ ((ByteArray.size p7.1 : Nat) : Int))) (some (1, (ByteArray.extract p7.1 (Int.toNat p7.2.1) (Int.toNat p7.2.2.1)), 0, p7.2.1, (IntKind.wrap .i64 (p7.2.2.1 - p7.2.1))))))
else (
Option.bind (m_sutureref1_digit n ((UInt8.toNat b0 : Nat) : Int)) fun r8 =>
bif r8 then (
Option.bind (l_sutureref1_one_10 n n (a0, a1, (IntKind.wrap .i64 (a1 + 1)), 0, (⟨#[]⟩ : ByteArray), 0, 0)) fun p12 =>
must true (decide (0 ≤ p12.2.1) && decide (p12.2.1 ≤ p12.2.2.1) && decide (p12.2.2.1 ≤ ((ByteArray.size p12.1 : Nat) : Int))) (Option.bind (m_sutureref1_number n (ByteArray.extract p12.1 (Int.toNat p12.2.1) (Int.toNat p12.2.2.1))) fun r13 =>
bif (!r13.2) then (
some (0, (⟨#[]⟩ : ByteArray), 0, 0, 0))
else (
must true (decide (0 ≤ p12.2.1) && decide (p12.2.1 ≤ p12.2.2.1) && decide (p12.2.2.1 ≤ ((ByteArray.size p12.1 : Nat) : Int))) (some (2, (ByteArray.extract p12.1 (Int.toNat p12.2.1) (Int.toNat p12.2.2.1)), r13.1, p12.2.1, (IntKind.wrap .i64 (p12.2.2.1 - p12.2.1)))))))
else (
Option.bind (bidx ((bif ((((UInt8.toNat b0 : Nat) : Int) : Int) == 61) then (decide (((IntKind.wrap .i64 (a1 + 1)) : Int) < ((ByteArray.size a0 : Nat) : Int))) else false)) a0 (IntKind.wrap .i64 (a1 + 1))) fun b14 =>
bif (bif (bif ((((UInt8.toNat b0 : Nat) : Int) : Int) == 61) then (decide (((IntKind.wrap .i64 (a1 + 1)) : Int) < ((ByteArray.size a0 : Nat) : Int))) else false) then ((((UInt8.toNat b14 : Nat) : Int) : Int) == 61) else false) then (
some (3, (⟨#[61, 61]⟩ : ByteArray), 0, a1, 2))
else (
Option.bind (l_sutureref1_one_19 n n (a0, a1, ((UInt8.toNat b0 : Nat) : Int), (IntKind.wrap .i64 (a1 + 1)), 0, 0, (⟨#[]⟩ : ByteArray), 0, 0)) fun x16 =>
Sum.elim (fun p17 => 
some (p17.2.1, p17.2.2.1, p17.2.2.2.1, p17.2.2.2.2, p17.1)) (fun x16' => (fun p18 => 
some (0, (⟨#[]⟩ : ByteArray), 0, 0, 0)) x16') x16)))
def enc_sutureref1_one (r : Int × ByteArray × Int × Int × Int) : V := (V.tup [(V.agg [(V.t (T.sc (.int .i64 r.1))), (V.t (T.sc (.string r.2.1))), (V.t (T.sc (.int .i64 r.2.2.1))), (V.t (T.sc (.int .i64 r.2.2.2.1)))]), (V.t (T.sc (.int .i64 r.2.2.2.2)))])
def encS_sutureref1_one (r : Int × ByteArray × Int × Int × Int) : Sig := []
def ok_sutureref1_one (m : ByteArray → Int → Option (Int × ByteArray × Int × Int × Int)) : Prop := ∀ (a0 : ByteArray) (a1 : Int) (r : Int × ByteArray × Int × Int × Int), m a0 a1 = some r → FuncOk Tryd.prog 48 [(V.t (T.sc (.string a0))), (V.t (T.sc (.int .i64 a1)))] [] (enc_sutureref1_one r) (encS_sutureref1_one r)
def c_sutureref1_one (m : ByteArray → Int → Option (Int × ByteArray × Int × Int × Int)) (vs : List V) (sg : Sig) : Option CallM := bif Nat.beq vs.length 2 && Nat.beq sg.length 0 then Option.bind (V.strOf (vs.getD 0 .any)) fun u0 => Option.bind (V.intOf .i64 (vs.getD 1 .any)) fun u1 => some { α := Int × ByteArray × Int × Int × Int, m := m u0 u1, dflt := (0, default, 0, 0, 0), enc := fun y => ((V.tup [(V.agg [(V.t (T.sc (.int .i64 y.1))), (V.t (T.sc (.string y.2.1))), (V.t (T.sc (.int .i64 y.2.2.1))), (V.t (T.sc (.int .i64 y.2.2.2.1)))]), (V.t (T.sc (.int .i64 y.2.2.2.2)))]), []) } else none
theorem c_sutureref1_one_ok (m : ByteArray → Int → Option (Int × ByteArray × Int × Int × Int)) (hm : ok_sutureref1_one m) (vs : List V) (sg : Sig) (cm : CallM) (x : cm.α) (h : c_sutureref1_one m vs sg = some cm) (hx : cm.m = some x) : FuncOk Tryd.prog 48 vs sg (cm.enc x).1 (cm.enc x).2 := by
  unfold c_sutureref1_one at h
  have h0 := callee_sig h
  clear h
  obtain ⟨hl, hs, h⟩ := h0
  obtain ⟨u0, hu0, h⟩ := Option.bind_eq_some_iff.1 h
  obtain ⟨u1, hu1, h⟩ := Option.bind_eq_some_iff.1 h
  simp only [Option.some.injEq] at h
  subst h
  exact (hm u0 u1 x hx).wk (args_wk hl (.cons (strOf_wk hu0) (.cons (intOf_wk hu1) .nil))) (wkSg_of hs .nil)
noncomputable def code_sutureref1_one : Code := Tryd.f48.body.getD .skip
def l_sutureref1_one_4_S (n : Nat) (R : Type) (E : SEnv) (sg : Sig) (K : Ex → SEnv → Sig → Option R) : Option R := Option.bind (V.strOf (SEnv.at E 0)) fun u0 => Option.bind (V.intOf .i64 (SEnv.at E 1)) fun u1 => Option.bind (V.ptrOf 0 0 (SEnv.at E 4)) fun u2 => Option.bind (V.intOf .i64 (SEnv.at E 7)) fun u3 => Option.bind (cellsN 4 sg 0) fun u4 => Option.bind (V.intOf .i64 (u4.getD 0 .any)) fun u5 => Option.bind (V.strOf (u4.getD 1 .any)) fun u6 => Option.bind (V.intOf .i64 (u4.getD 2 .any)) fun u7 => Option.bind (V.intOf .i64 (u4.getD 3 .any)) fun u8 => Option.bind (l_sutureref1_one_4 n n (u0, u1, u3, u5, u6, u7, u8)) fun p0 => K (.exit 1) [(0, (V.t (T.sc (.string p0.1)))), (1, (V.t (T.sc (.int .i64 p0.2.1)))), (4, (V.ptr 0 0)), (7, (V.t (T.sc (.int .i64 p0.2.2.1))))] [some [(V.t (T.sc (.int .i64 p0.2.2.2.1))), (V.t (T.sc (.string p0.2.2.2.2.1))), (V.t (T.sc (.int .i64 p0.2.2.2.2.2.1))), (V.t (T.sc (.int .i64 p0.2.2.2.2.2.2)))]]
def l_sutureref1_one_10_S (n : Nat) (R : Type) (E : SEnv) (sg : Sig) (K : Ex → SEnv → Sig → Option R) : Option R := Option.bind (V.strOf (SEnv.at E 0)) fun u0 => Option.bind (V.intOf .i64 (SEnv.at E 1)) fun u1 => Option.bind (V.ptrOf 0 0 (SEnv.at E 4)) fun u2 => Option.bind (V.intOf .i64 (SEnv.at E 7)) fun u3 => Option.bind (cellsN 4 sg 0) fun u4 => Option.bind (V.intOf .i64 (u4.getD 0 .any)) fun u5 => Option.bind (V.strOf (u4.getD 1 .any)) fun u6 => Option.bind (V.intOf .i64 (u4.getD 2 .any)) fun u7 => Option.bind (V.intOf .i64 (u4.getD 3 .any)) fun u8 => Option.bind (l_sutureref1_one_10 n n (u0, u1, u3, u5, u6, u7, u8)) fun p0 => K (.exit 3) [(0, (V.t (T.sc (.string p0.1)))), (1, (V.t (T.sc (.int .i64 p0.2.1)))), (4, (V.ptr 0 0)), (7, (V.t (T.sc (.int .i64 p0.2.2.1))))] [some [(V.t (T.sc (.int .i64 p0.2.2.2.1))), (V.t (T.sc (.string p0.2.2.2.2.1))), (V.t (T.sc (.int .i64 p0.2.2.2.2.2.1))), (V.t (T.sc (.int .i64 p0.2.2.2.2.2.2)))]]
def l_sutureref1_one_19_S (n : Nat) (R : Type) (E : SEnv) (sg : Sig) (K : Ex → SEnv → Sig → Option R) : Option R := Option.bind (V.strOf (SEnv.at E 0)) fun u0 => Option.bind (V.intOf .i64 (SEnv.at E 1)) fun u1 => Option.bind (V.ptrOf 0 0 (SEnv.at E 4)) fun u2 => Option.bind (V.intOf .u8 (SEnv.at E 6)) fun u3 => Option.bind (V.intOf .i64 (SEnv.at E 7)) fun u4 => Option.bind (V.intOf .i64 (SEnv.at E 10)) fun u5 => Option.bind (cellsN 4 sg 0) fun u6 => Option.bind (V.intOf .i64 (u6.getD 0 .any)) fun u7 => Option.bind (V.strOf (u6.getD 1 .any)) fun u8 => Option.bind (V.intOf .i64 (u6.getD 2 .any)) fun u9 => Option.bind (V.intOf .i64 (u6.getD 3 .any)) fun u10 => Option.bind (l_sutureref1_one_19 n n (u0, u1, u3, u4, u5, u7, u8, u9, u10)) fun y => Sum.elim (fun p0 => K .ret [(4, (V.ptr 0 0)), (5, (V.t (T.sc (.int .i64 p0.1))))] [some [(V.t (T.sc (.int .i64 p0.2.1))), (V.t (T.sc (.string p0.2.2.1))), (V.t (T.sc (.int .i64 p0.2.2.2.1))), (V.t (T.sc (.int .i64 p0.2.2.2.2)))]]) (fun y' => (fun p1 => K (.exit 5) [(4, (V.ptr 0 0))] [some [(V.t (T.sc (.int .i64 p1.1))), (V.t (T.sc (.string p1.2.1))), (V.t (T.sc (.int .i64 p1.2.2.1))), (V.t (T.sc (.int .i64 p1.2.2.2)))]]) y') y
noncomputable def sp_sutureref1_one (n : Nat) : Go.Eng.Spec := ⟨fun f vs sg => (match f with
    | 62 => c_sutureref1_letter (m_sutureref1_letter n) vs sg
    | 63 => c_sutureref1_digit (m_sutureref1_digit n) vs sg
    | 64 => c_sutureref1_number (m_sutureref1_number n) vs sg
    | _ => none), fun R key E sg K => (match key with
    | 4 => l_sutureref1_one_4_S n R E sg K
    | 10 => l_sutureref1_one_10_S n R E sg K
    | 19 => l_sutureref1_one_19_S n R E sg K
    | _ => none)⟩
theorem sp_sutureref1_one_ok (n : Nat) : CallsOk Tryd.prog (sp_sutureref1_one n) := by
  intro f vs sg cm x h hx
  simp only [sp_sutureref1_one] at h
  split at h
  · exact c_sutureref1_letter_ok _ (m_sutureref1_letter_ok n) vs sg cm x h hx
  · exact c_sutureref1_digit_ok _ (m_sutureref1_digit_ok n) vs sg cm x h hx
  · exact c_sutureref1_number_ok _ (m_sutureref1_number_ok n) vs sg cm x h hx
  · cases h
theorem code_sutureref1_one_fn : Tryd.prog.funcs[48]? = some Tryd.f48 := Tryd.func48
theorem code_sutureref1_one_body : Tryd.f48.body = some code_sutureref1_one := by kernel_rfl
theorem code_sutureref1_one_ok : CodeOk Tryd.prog code_sutureref1_one := (sound 48 _ _ code_sutureref1_one_fn code_sutureref1_one_body).1
noncomputable def code_l_sutureref1_one_4 : Code := (loopsOf code_sutureref1_one).getD 0 .skip
theorem code_l_sutureref1_one_4_ok : CodeOk Tryd.prog code_l_sutureref1_one_4 := codeOk_loops code_sutureref1_one_ok _ (getD_mem (by kernel_rfl))
def l_sutureref1_one_4_K (k : ByteArray × Int × Int × Int × ByteArray × Int × Int → Option (ByteArray × Int × Int × Int × ByteArray × Int × Int)) : Ex → SEnv → Sig → Option (ByteArray × Int × Int × Int × ByteArray × Int × Int) := fun x E sg => match x with
  | .normal => Option.bind (V.strOf (SEnv.at E 0)) fun u0 => Option.bind (V.intOf .i64 (SEnv.at E 1)) fun u1 => Option.bind (V.ptrOf 0 0 (SEnv.at E 4)) fun u2 => Option.bind (V.intOf .i64 (SEnv.at E 7)) fun u3 => Option.bind (cellsN 4 sg 0) fun u4 => Option.bind (V.intOf .i64 (u4.getD 0 .any)) fun u5 => Option.bind (V.strOf (u4.getD 1 .any)) fun u6 => Option.bind (V.intOf .i64 (u4.getD 2 .any)) fun u7 => Option.bind (V.intOf .i64 (u4.getD 3 .any)) fun u8 => k (u0, u1, u3, u5, u6, u7, u8)
  | (.exit 1) => Option.bind (V.strOf (SEnv.at E 0)) fun u0 => Option.bind (V.intOf .i64 (SEnv.at E 1)) fun u1 => Option.bind (V.ptrOf 0 0 (SEnv.at E 4)) fun u2 => Option.bind (V.intOf .i64 (SEnv.at E 7)) fun u3 => Option.bind (cellsN 4 sg 0) fun u4 => Option.bind (V.intOf .i64 (u4.getD 0 .any)) fun u5 => Option.bind (V.strOf (u4.getD 1 .any)) fun u6 => Option.bind (V.intOf .i64 (u4.getD 2 .any)) fun u7 => Option.bind (V.intOf .i64 (u4.getD 3 .any)) fun u8 => some (u0, u1, u3, u5, u6, u7, u8)
  | _ => none
theorem l_sutureref1_one_4_eq (n : Nat) (k : ByteArray × Int × Int × Int × ByteArray × Int × Int → Option (ByteArray × Int × Int × Int × ByteArray × Int × Int)) (s0 : ByteArray) (s1 : Int) (s2 : Int) (s3 : Int) (s4 : ByteArray) (s5 : Int) (s6 : Int) : mX Tryd.prog (sp_sutureref1_one n) 119 code_l_sutureref1_one_4 [(0, (V.t (T.sc (.string s0)))), (1, (V.t (T.sc (.int .i64 s1)))), (4, (V.ptr 0 0)), (7, (V.t (T.sc (.int .i64 s2))))] [some [(V.t (T.sc (.int .i64 s3))), (V.t (T.sc (.string s4))), (V.t (T.sc (.int .i64 s5))), (V.t (T.sc (.int .i64 s6)))]] (l_sutureref1_one_4_K k) = l_sutureref1_one_4_B n k (s0, s1, s2, s3, s4, s5, s6) := by kernel_rfl
def l_sutureref1_one_4_Q (x : ByteArray × Int × Int × Int × ByteArray × Int × Int) (ex : Ex) (e : Env) (s : Sig) : Prop := (fun p0 => (ex = (.exit 1) ∧ e = SEnv.env 119 [(0, (V.t (T.sc (.string p0.1)))), (1, (V.t (T.sc (.int .i64 p0.2.1)))), (4, (V.ptr 0 0)), (7, (V.t (T.sc (.int .i64 p0.2.2.1))))] ∧ s = [some [(V.t (T.sc (.int .i64 p0.2.2.2.1))), (V.t (T.sc (.string p0.2.2.2.2.1))), (V.t (T.sc (.int .i64 p0.2.2.2.2.2.1))), (V.t (T.sc (.int .i64 p0.2.2.2.2.2.2)))]])) x
theorem l_sutureref1_one_4_run (n : Nat) : ∀ (m : Nat) (s0 : ByteArray) (s1 : Int) (s2 : Int) (s3 : Int) (s4 : ByteArray) (s5 : Int) (s6 : Int) (x : ByteArray × Int × Int × Int × ByteArray × Int × Int), l_sutureref1_one_4 n m (s0, s1, s2, s3, s4, s5, s6) = some x → SemL Tryd.prog 0 code_l_sutureref1_one_4 (SEnv.env 119 [(0, (V.t (T.sc (.string s0)))), (1, (V.t (T.sc (.int .i64 s1)))), (4, (V.ptr 0 0)), (7, (V.t (T.sc (.int .i64 s2))))]) [some [(V.t (T.sc (.int .i64 s3))), (V.t (T.sc (.string s4))), (V.t (T.sc (.int .i64 s5))), (V.t (T.sc (.int .i64 s6)))]] (l_sutureref1_one_4_Q x)
  | 0, s0, s1, s2, s3, s4, s5, s6, x, h => by cases h
  | m + 1, s0, s1, s2, s3, s4, s5, s6, x, h => by
    refine loop_step (sp_sutureref1_one_ok n) code_l_sutureref1_one_4_ok (fun a ha => absurd ha (by rw [show loopsOf code_l_sutureref1_one_4 = [] from by kernel_rfl]; simp)) (no_scope (by kernel_rfl)) ((l_sutureref1_one_4_eq n _ s0 s1 s2 s3 s4 s5 s6).trans h) (fun E sg h => ?_) (fun ex E sg hne h => ?_)
    · simp only [l_sutureref1_one_4_K] at h
      obtain ⟨u0, hu0, h⟩ := Option.bind_eq_some_iff.1 h
      obtain ⟨u1, hu1, h⟩ := Option.bind_eq_some_iff.1 h
      obtain ⟨u2, hu2, h⟩ := Option.bind_eq_some_iff.1 h
      obtain ⟨u3, hu3, h⟩ := Option.bind_eq_some_iff.1 h
      obtain ⟨u4, hu4, h⟩ := Option.bind_eq_some_iff.1 h
      obtain ⟨u5, hu5, h⟩ := Option.bind_eq_some_iff.1 h
      obtain ⟨u6, hu6, h⟩ := Option.bind_eq_some_iff.1 h
      obtain ⟨u7, hu7, h⟩ := Option.bind_eq_some_iff.1 h
      obtain ⟨u8, hu8, h⟩ := Option.bind_eq_some_iff.1 h
      exact SemL.pre (k := 1) (by decide) (WkA.env (WkA.cons (strOf_wk hu0) rfl (WkA.cons (intOf_wk hu1) rfl (WkA.cons (ptrOf_wk hu2) rfl (WkA.cons (intOf_wk hu3) rfl WkA.nil)))) 119) (wkR_sig (WkR.cons (cellsN_wk hu4 (.cons (intOf_wk hu5) (.cons (strOf_wk hu6) (.cons (intOf_wk hu7) (.cons (intOf_wk hu8) .nil))))).1 (cellsN_wk hu4 (.cons (intOf_wk hu5) (.cons (strOf_wk hu6) (.cons (intOf_wk hu7) (.cons (intOf_wk hu8) .nil))))).2 (renL_mem (.cons rfl (.cons rfl (.cons rfl (.cons rfl .nil))))) (WkR.nil _)) rfl) (l_sutureref1_one_4_run n m _ _ _ _ _ _ _ x h)
    · unfold l_sutureref1_one_4_K at h
      split at h
      · exact absurd rfl hne
      · obtain ⟨u0, hu0, h⟩ := Option.bind_eq_some_iff.1 h
        obtain ⟨u1, hu1, h⟩ := Option.bind_eq_some_iff.1 h
        obtain ⟨u2, hu2, h⟩ := Option.bind_eq_some_iff.1 h
        obtain ⟨u3, hu3, h⟩ := Option.bind_eq_some_iff.1 h
        obtain ⟨u4, hu4, h⟩ := Option.bind_eq_some_iff.1 h
        obtain ⟨u5, hu5, h⟩ := Option.bind_eq_some_iff.1 h
        obtain ⟨u6, hu6, h⟩ := Option.bind_eq_some_iff.1 h
        obtain ⟨u7, hu7, h⟩ := Option.bind_eq_some_iff.1 h
        obtain ⟨u8, hu8, h⟩ := Option.bind_eq_some_iff.1 h
        simp only [Option.some.injEq] at h
        subst h
        exact ⟨1, _, _, by decide, WkA.env (WkA.cons (strOf_wk hu0) rfl (WkA.cons (intOf_wk hu1) rfl (WkA.cons (ptrOf_wk hu2) rfl (WkA.cons (intOf_wk hu3) rfl WkA.nil)))) 119, (wkR_sig (WkR.cons (cellsN_wk hu4 (.cons (intOf_wk hu5) (.cons (strOf_wk hu6) (.cons (intOf_wk hu7) (.cons (intOf_wk hu8) .nil))))).1 (cellsN_wk hu4 (.cons (intOf_wk hu5) (.cons (strOf_wk hu6) (.cons (intOf_wk hu7) (.cons (intOf_wk hu8) .nil))))).2 (renL_mem (.cons rfl (.cons rfl (.cons rfl (.cons rfl .nil))))) (WkR.nil _)) rfl), rfl, rfl, rfl⟩
      · cases h
theorem l_sutureref1_one_4_ok (n : Nat) : LoopOk Tryd.prog (sp_sutureref1_one n) 0 119 code_l_sutureref1_one_4 := by
    intro R key E sg K r hk h
    rw [show Go.Eng.keyOf code_l_sutureref1_one_4 = some 4 from by kernel_rfl] at hk
    cases hk
    have h : l_sutureref1_one_4_S n R E sg K = some r := h
    unfold l_sutureref1_one_4_S at h
    obtain ⟨u0, hu0, h⟩ := Option.bind_eq_some_iff.1 h
    obtain ⟨u1, hu1, h⟩ := Option.bind_eq_some_iff.1 h
    obtain ⟨u2, hu2, h⟩ := Option.bind_eq_some_iff.1 h
    obtain ⟨u3, hu3, h⟩ := Option.bind_eq_some_iff.1 h
    obtain ⟨u4, hu4, h⟩ := Option.bind_eq_some_iff.1 h
    obtain ⟨u5, hu5, h⟩ := Option.bind_eq_some_iff.1 h
    obtain ⟨u6, hu6, h⟩ := Option.bind_eq_some_iff.1 h
    obtain ⟨u7, hu7, h⟩ := Option.bind_eq_some_iff.1 h
    obtain ⟨u8, hu8, h⟩ := Option.bind_eq_some_iff.1 h
    obtain ⟨x, hx, h⟩ := Option.bind_eq_some_iff.1 h
    refine (SemL.pre (k := 1) (by decide) (WkA.env (WkA.cons (strOf_wk hu0) rfl (WkA.cons (intOf_wk hu1) rfl (WkA.cons (ptrOf_wk hu2) rfl (WkA.cons (intOf_wk hu3) rfl WkA.nil)))) 119) (wkR_sig (WkR.cons (cellsN_wk hu4 (.cons (intOf_wk hu5) (.cons (strOf_wk hu6) (.cons (intOf_wk hu7) (.cons (intOf_wk hu8) .nil))))).1 (cellsN_wk hu4 (.cons (intOf_wk hu5) (.cons (strOf_wk hu6) (.cons (intOf_wk hu7) (.cons (intOf_wk hu8) .nil))))).2 (renL_mem (.cons rfl (.cons rfl (.cons rfl (.cons rfl .nil))))) (WkR.nil _)) rfl) (l_sutureref1_one_4_run n n _ _ _ _ _ _ _ x hx)).mono ?_
    intro ex e s hq
    obtain ⟨rfl, rfl, rfl⟩ := hq
    exact ⟨_, rfl, h⟩
noncomputable def code_l_sutureref1_one_10 : Code := (loopsOf code_sutureref1_one).getD 1 .skip
theorem code_l_sutureref1_one_10_ok : CodeOk Tryd.prog code_l_sutureref1_one_10 := codeOk_loops code_sutureref1_one_ok _ (getD_mem (by kernel_rfl))
def l_sutureref1_one_10_K (k : ByteArray × Int × Int × Int × ByteArray × Int × Int → Option (ByteArray × Int × Int × Int × ByteArray × Int × Int)) : Ex → SEnv → Sig → Option (ByteArray × Int × Int × Int × ByteArray × Int × Int) := fun x E sg => match x with
  | .normal => Option.bind (V.strOf (SEnv.at E 0)) fun u0 => Option.bind (V.intOf .i64 (SEnv.at E 1)) fun u1 => Option.bind (V.ptrOf 0 0 (SEnv.at E 4)) fun u2 => Option.bind (V.intOf .i64 (SEnv.at E 7)) fun u3 => Option.bind (cellsN 4 sg 0) fun u4 => Option.bind (V.intOf .i64 (u4.getD 0 .any)) fun u5 => Option.bind (V.strOf (u4.getD 1 .any)) fun u6 => Option.bind (V.intOf .i64 (u4.getD 2 .any)) fun u7 => Option.bind (V.intOf .i64 (u4.getD 3 .any)) fun u8 => k (u0, u1, u3, u5, u6, u7, u8)
  | (.exit 3) => Option.bind (V.strOf (SEnv.at E 0)) fun u0 => Option.bind (V.intOf .i64 (SEnv.at E 1)) fun u1 => Option.bind (V.ptrOf 0 0 (SEnv.at E 4)) fun u2 => Option.bind (V.intOf .i64 (SEnv.at E 7)) fun u3 => Option.bind (cellsN 4 sg 0) fun u4 => Option.bind (V.intOf .i64 (u4.getD 0 .any)) fun u5 => Option.bind (V.strOf (u4.getD 1 .any)) fun u6 => Option.bind (V.intOf .i64 (u4.getD 2 .any)) fun u7 => Option.bind (V.intOf .i64 (u4.getD 3 .any)) fun u8 => some (u0, u1, u3, u5, u6, u7, u8)
  | _ => none
theorem l_sutureref1_one_10_eq (n : Nat) (k : ByteArray × Int × Int × Int × ByteArray × Int × Int → Option (ByteArray × Int × Int × Int × ByteArray × Int × Int)) (s0 : ByteArray) (s1 : Int) (s2 : Int) (s3 : Int) (s4 : ByteArray) (s5 : Int) (s6 : Int) : mX Tryd.prog (sp_sutureref1_one n) 119 code_l_sutureref1_one_10 [(0, (V.t (T.sc (.string s0)))), (1, (V.t (T.sc (.int .i64 s1)))), (4, (V.ptr 0 0)), (7, (V.t (T.sc (.int .i64 s2))))] [some [(V.t (T.sc (.int .i64 s3))), (V.t (T.sc (.string s4))), (V.t (T.sc (.int .i64 s5))), (V.t (T.sc (.int .i64 s6)))]] (l_sutureref1_one_10_K k) = l_sutureref1_one_10_B n k (s0, s1, s2, s3, s4, s5, s6) := by kernel_rfl
def l_sutureref1_one_10_Q (x : ByteArray × Int × Int × Int × ByteArray × Int × Int) (ex : Ex) (e : Env) (s : Sig) : Prop := (fun p0 => (ex = (.exit 3) ∧ e = SEnv.env 119 [(0, (V.t (T.sc (.string p0.1)))), (1, (V.t (T.sc (.int .i64 p0.2.1)))), (4, (V.ptr 0 0)), (7, (V.t (T.sc (.int .i64 p0.2.2.1))))] ∧ s = [some [(V.t (T.sc (.int .i64 p0.2.2.2.1))), (V.t (T.sc (.string p0.2.2.2.2.1))), (V.t (T.sc (.int .i64 p0.2.2.2.2.2.1))), (V.t (T.sc (.int .i64 p0.2.2.2.2.2.2)))]])) x
theorem l_sutureref1_one_10_run (n : Nat) : ∀ (m : Nat) (s0 : ByteArray) (s1 : Int) (s2 : Int) (s3 : Int) (s4 : ByteArray) (s5 : Int) (s6 : Int) (x : ByteArray × Int × Int × Int × ByteArray × Int × Int), l_sutureref1_one_10 n m (s0, s1, s2, s3, s4, s5, s6) = some x → SemL Tryd.prog 0 code_l_sutureref1_one_10 (SEnv.env 119 [(0, (V.t (T.sc (.string s0)))), (1, (V.t (T.sc (.int .i64 s1)))), (4, (V.ptr 0 0)), (7, (V.t (T.sc (.int .i64 s2))))]) [some [(V.t (T.sc (.int .i64 s3))), (V.t (T.sc (.string s4))), (V.t (T.sc (.int .i64 s5))), (V.t (T.sc (.int .i64 s6)))]] (l_sutureref1_one_10_Q x)
  | 0, s0, s1, s2, s3, s4, s5, s6, x, h => by cases h
  | m + 1, s0, s1, s2, s3, s4, s5, s6, x, h => by
    refine loop_step (sp_sutureref1_one_ok n) code_l_sutureref1_one_10_ok (fun a ha => absurd ha (by rw [show loopsOf code_l_sutureref1_one_10 = [] from by kernel_rfl]; simp)) (no_scope (by kernel_rfl)) ((l_sutureref1_one_10_eq n _ s0 s1 s2 s3 s4 s5 s6).trans h) (fun E sg h => ?_) (fun ex E sg hne h => ?_)
    · simp only [l_sutureref1_one_10_K] at h
      obtain ⟨u0, hu0, h⟩ := Option.bind_eq_some_iff.1 h
      obtain ⟨u1, hu1, h⟩ := Option.bind_eq_some_iff.1 h
      obtain ⟨u2, hu2, h⟩ := Option.bind_eq_some_iff.1 h
      obtain ⟨u3, hu3, h⟩ := Option.bind_eq_some_iff.1 h
      obtain ⟨u4, hu4, h⟩ := Option.bind_eq_some_iff.1 h
      obtain ⟨u5, hu5, h⟩ := Option.bind_eq_some_iff.1 h
      obtain ⟨u6, hu6, h⟩ := Option.bind_eq_some_iff.1 h
      obtain ⟨u7, hu7, h⟩ := Option.bind_eq_some_iff.1 h
      obtain ⟨u8, hu8, h⟩ := Option.bind_eq_some_iff.1 h
      exact SemL.pre (k := 1) (by decide) (WkA.env (WkA.cons (strOf_wk hu0) rfl (WkA.cons (intOf_wk hu1) rfl (WkA.cons (ptrOf_wk hu2) rfl (WkA.cons (intOf_wk hu3) rfl WkA.nil)))) 119) (wkR_sig (WkR.cons (cellsN_wk hu4 (.cons (intOf_wk hu5) (.cons (strOf_wk hu6) (.cons (intOf_wk hu7) (.cons (intOf_wk hu8) .nil))))).1 (cellsN_wk hu4 (.cons (intOf_wk hu5) (.cons (strOf_wk hu6) (.cons (intOf_wk hu7) (.cons (intOf_wk hu8) .nil))))).2 (renL_mem (.cons rfl (.cons rfl (.cons rfl (.cons rfl .nil))))) (WkR.nil _)) rfl) (l_sutureref1_one_10_run n m _ _ _ _ _ _ _ x h)
    · unfold l_sutureref1_one_10_K at h
      split at h
      · exact absurd rfl hne
      · obtain ⟨u0, hu0, h⟩ := Option.bind_eq_some_iff.1 h
        obtain ⟨u1, hu1, h⟩ := Option.bind_eq_some_iff.1 h
        obtain ⟨u2, hu2, h⟩ := Option.bind_eq_some_iff.1 h
        obtain ⟨u3, hu3, h⟩ := Option.bind_eq_some_iff.1 h
        obtain ⟨u4, hu4, h⟩ := Option.bind_eq_some_iff.1 h
        obtain ⟨u5, hu5, h⟩ := Option.bind_eq_some_iff.1 h
        obtain ⟨u6, hu6, h⟩ := Option.bind_eq_some_iff.1 h
        obtain ⟨u7, hu7, h⟩ := Option.bind_eq_some_iff.1 h
        obtain ⟨u8, hu8, h⟩ := Option.bind_eq_some_iff.1 h
        simp only [Option.some.injEq] at h
        subst h
        exact ⟨1, _, _, by decide, WkA.env (WkA.cons (strOf_wk hu0) rfl (WkA.cons (intOf_wk hu1) rfl (WkA.cons (ptrOf_wk hu2) rfl (WkA.cons (intOf_wk hu3) rfl WkA.nil)))) 119, (wkR_sig (WkR.cons (cellsN_wk hu4 (.cons (intOf_wk hu5) (.cons (strOf_wk hu6) (.cons (intOf_wk hu7) (.cons (intOf_wk hu8) .nil))))).1 (cellsN_wk hu4 (.cons (intOf_wk hu5) (.cons (strOf_wk hu6) (.cons (intOf_wk hu7) (.cons (intOf_wk hu8) .nil))))).2 (renL_mem (.cons rfl (.cons rfl (.cons rfl (.cons rfl .nil))))) (WkR.nil _)) rfl), rfl, rfl, rfl⟩
      · cases h
theorem l_sutureref1_one_10_ok (n : Nat) : LoopOk Tryd.prog (sp_sutureref1_one n) 0 119 code_l_sutureref1_one_10 := by
    intro R key E sg K r hk h
    rw [show Go.Eng.keyOf code_l_sutureref1_one_10 = some 10 from by kernel_rfl] at hk
    cases hk
    have h : l_sutureref1_one_10_S n R E sg K = some r := h
    unfold l_sutureref1_one_10_S at h
    obtain ⟨u0, hu0, h⟩ := Option.bind_eq_some_iff.1 h
    obtain ⟨u1, hu1, h⟩ := Option.bind_eq_some_iff.1 h
    obtain ⟨u2, hu2, h⟩ := Option.bind_eq_some_iff.1 h
    obtain ⟨u3, hu3, h⟩ := Option.bind_eq_some_iff.1 h
    obtain ⟨u4, hu4, h⟩ := Option.bind_eq_some_iff.1 h
    obtain ⟨u5, hu5, h⟩ := Option.bind_eq_some_iff.1 h
    obtain ⟨u6, hu6, h⟩ := Option.bind_eq_some_iff.1 h
    obtain ⟨u7, hu7, h⟩ := Option.bind_eq_some_iff.1 h
    obtain ⟨u8, hu8, h⟩ := Option.bind_eq_some_iff.1 h
    obtain ⟨x, hx, h⟩ := Option.bind_eq_some_iff.1 h
    refine (SemL.pre (k := 1) (by decide) (WkA.env (WkA.cons (strOf_wk hu0) rfl (WkA.cons (intOf_wk hu1) rfl (WkA.cons (ptrOf_wk hu2) rfl (WkA.cons (intOf_wk hu3) rfl WkA.nil)))) 119) (wkR_sig (WkR.cons (cellsN_wk hu4 (.cons (intOf_wk hu5) (.cons (strOf_wk hu6) (.cons (intOf_wk hu7) (.cons (intOf_wk hu8) .nil))))).1 (cellsN_wk hu4 (.cons (intOf_wk hu5) (.cons (strOf_wk hu6) (.cons (intOf_wk hu7) (.cons (intOf_wk hu8) .nil))))).2 (renL_mem (.cons rfl (.cons rfl (.cons rfl (.cons rfl .nil))))) (WkR.nil _)) rfl) (l_sutureref1_one_10_run n n _ _ _ _ _ _ _ x hx)).mono ?_
    intro ex e s hq
    obtain ⟨rfl, rfl, rfl⟩ := hq
    exact ⟨_, rfl, h⟩
noncomputable def code_l_sutureref1_one_19 : Code := (loopsOf code_sutureref1_one).getD 2 .skip
theorem code_l_sutureref1_one_19_ok : CodeOk Tryd.prog code_l_sutureref1_one_19 := codeOk_loops code_sutureref1_one_ok _ (getD_mem (by kernel_rfl))
def l_sutureref1_one_19_K (k : ByteArray × Int × Int × Int × Int × Int × ByteArray × Int × Int → Option (((Int × Int × ByteArray × Int × Int) ⊕ Int × ByteArray × Int × Int))) : Ex → SEnv → Sig → Option (((Int × Int × ByteArray × Int × Int) ⊕ Int × ByteArray × Int × Int)) := fun x E sg => match x with
  | .normal => Option.bind (V.strOf (SEnv.at E 0)) fun u0 => Option.bind (V.intOf .i64 (SEnv.at E 1)) fun u1 => Option.bind (V.ptrOf 0 0 (SEnv.at E 4)) fun u2 => Option.bind (V.intOf .u8 (SEnv.at E 6)) fun u3 => Option.bind (V.intOf .i64 (SEnv.at E 7)) fun u4 => Option.bind (V.intOf .i64 (SEnv.at E 10)) fun u5 => Option.bind (cellsN 4 sg 0) fun u6 => Option.bind (V.intOf .i64 (u6.getD 0 .any)) fun u7 => Option.bind (V.strOf (u6.getD 1 .any)) fun u8 => Option.bind (V.intOf .i64 (u6.getD 2 .any)) fun u9 => Option.bind (V.intOf .i64 (u6.getD 3 .any)) fun u10 => k (u0, u1, u3, u4, u5, u7, u8, u9, u10)
  | .ret => Option.bind (V.ptrOf 0 0 (SEnv.at E 4)) fun u0 => Option.bind (V.intOf .i64 (SEnv.at E 5)) fun u1 => Option.bind (cellsN 4 sg 0) fun u2 => Option.bind (V.intOf .i64 (u2.getD 0 .any)) fun u3 => Option.bind (V.strOf (u2.getD 1 .any)) fun u4 => Option.bind (V.intOf .i64 (u2.getD 2 .any)) fun u5 => Option.bind (V.intOf .i64 (u2.getD 3 .any)) fun u6 => some (Sum.inl (u1, u3, u4, u5, u6))
  | (.exit 5) => Option.bind (V.ptrOf 0 0 (SEnv.at E 4)) fun u0 => Option.bind (cellsN 4 sg 0) fun u1 => Option.bind (V.intOf .i64 (u1.getD 0 .any)) fun u2 => Option.bind (V.strOf (u1.getD 1 .any)) fun u3 => Option.bind (V.intOf .i64 (u1.getD 2 .any)) fun u4 => Option.bind (V.intOf .i64 (u1.getD 3 .any)) fun u5 => some (Sum.inr (u2, u3, u4, u5))
  | _ => none
theorem l_sutureref1_one_19_eq (n : Nat) (k : ByteArray × Int × Int × Int × Int × Int × ByteArray × Int × Int → Option (((Int × Int × ByteArray × Int × Int) ⊕ Int × ByteArray × Int × Int))) (s0 : ByteArray) (s1 : Int) (s2 : Int) (s3 : Int) (s4 : Int) (s5 : Int) (s6 : ByteArray) (s7 : Int) (s8 : Int) : mX Tryd.prog (sp_sutureref1_one n) 119 code_l_sutureref1_one_19 [(0, (V.t (T.sc (.string s0)))), (1, (V.t (T.sc (.int .i64 s1)))), (4, (V.ptr 0 0)), (6, (V.t (T.sc (.int .u8 s2)))), (7, (V.t (T.sc (.int .i64 s3)))), (10, (V.t (T.sc (.int .i64 s4))))] [some [(V.t (T.sc (.int .i64 s5))), (V.t (T.sc (.string s6))), (V.t (T.sc (.int .i64 s7))), (V.t (T.sc (.int .i64 s8)))]] (l_sutureref1_one_19_K k) = l_sutureref1_one_19_B n k (s0, s1, s2, s3, s4, s5, s6, s7, s8) := by kernel_rfl
def l_sutureref1_one_19_Q (x : ((Int × Int × ByteArray × Int × Int) ⊕ Int × ByteArray × Int × Int)) (ex : Ex) (e : Env) (s : Sig) : Prop := Sum.elim (fun p0 => (ex = .ret ∧ e = SEnv.env 119 [(4, (V.ptr 0 0)), (5, (V.t (T.sc (.int .i64 p0.1))))] ∧ s = [some [(V.t (T.sc (.int .i64 p0.2.1))), (V.t (T.sc (.string p0.2.2.1))), (V.t (T.sc (.int .i64 p0.2.2.2.1))), (V.t (T.sc (.int .i64 p0.2.2.2.2)))]])) (fun x' => (fun p1 => (ex = (.exit 5) ∧ e = SEnv.env 119 [(4, (V.ptr 0 0))] ∧ s = [some [(V.t (T.sc (.int .i64 p1.1))), (V.t (T.sc (.string p1.2.1))), (V.t (T.sc (.int .i64 p1.2.2.1))), (V.t (T.sc (.int .i64 p1.2.2.2)))]])) x') x
theorem l_sutureref1_one_19_run (n : Nat) : ∀ (m : Nat) (s0 : ByteArray) (s1 : Int) (s2 : Int) (s3 : Int) (s4 : Int) (s5 : Int) (s6 : ByteArray) (s7 : Int) (s8 : Int) (x : ((Int × Int × ByteArray × Int × Int) ⊕ Int × ByteArray × Int × Int)), l_sutureref1_one_19 n m (s0, s1, s2, s3, s4, s5, s6, s7, s8) = some x → SemL Tryd.prog 0 code_l_sutureref1_one_19 (SEnv.env 119 [(0, (V.t (T.sc (.string s0)))), (1, (V.t (T.sc (.int .i64 s1)))), (4, (V.ptr 0 0)), (6, (V.t (T.sc (.int .u8 s2)))), (7, (V.t (T.sc (.int .i64 s3)))), (10, (V.t (T.sc (.int .i64 s4))))]) [some [(V.t (T.sc (.int .i64 s5))), (V.t (T.sc (.string s6))), (V.t (T.sc (.int .i64 s7))), (V.t (T.sc (.int .i64 s8)))]] (l_sutureref1_one_19_Q x)
  | 0, s0, s1, s2, s3, s4, s5, s6, s7, s8, x, h => by cases h
  | m + 1, s0, s1, s2, s3, s4, s5, s6, s7, s8, x, h => by
    refine loop_step (sp_sutureref1_one_ok n) code_l_sutureref1_one_19_ok (fun a ha => absurd ha (by rw [show loopsOf code_l_sutureref1_one_19 = [] from by kernel_rfl]; simp)) (no_scope (by kernel_rfl)) ((l_sutureref1_one_19_eq n _ s0 s1 s2 s3 s4 s5 s6 s7 s8).trans h) (fun E sg h => ?_) (fun ex E sg hne h => ?_)
    · simp only [l_sutureref1_one_19_K] at h
      obtain ⟨u0, hu0, h⟩ := Option.bind_eq_some_iff.1 h
      obtain ⟨u1, hu1, h⟩ := Option.bind_eq_some_iff.1 h
      obtain ⟨u2, hu2, h⟩ := Option.bind_eq_some_iff.1 h
      obtain ⟨u3, hu3, h⟩ := Option.bind_eq_some_iff.1 h
      obtain ⟨u4, hu4, h⟩ := Option.bind_eq_some_iff.1 h
      obtain ⟨u5, hu5, h⟩ := Option.bind_eq_some_iff.1 h
      obtain ⟨u6, hu6, h⟩ := Option.bind_eq_some_iff.1 h
      obtain ⟨u7, hu7, h⟩ := Option.bind_eq_some_iff.1 h
      obtain ⟨u8, hu8, h⟩ := Option.bind_eq_some_iff.1 h
      obtain ⟨u9, hu9, h⟩ := Option.bind_eq_some_iff.1 h
      obtain ⟨u10, hu10, h⟩ := Option.bind_eq_some_iff.1 h
      exact SemL.pre (k := 1) (by decide) (WkA.env (WkA.cons (strOf_wk hu0) rfl (WkA.cons (intOf_wk hu1) rfl (WkA.cons (ptrOf_wk hu2) rfl (WkA.cons (intOf_wk hu3) rfl (WkA.cons (intOf_wk hu4) rfl (WkA.cons (intOf_wk hu5) rfl WkA.nil)))))) 119) (wkR_sig (WkR.cons (cellsN_wk hu6 (.cons (intOf_wk hu7) (.cons (strOf_wk hu8) (.cons (intOf_wk hu9) (.cons (intOf_wk hu10) .nil))))).1 (cellsN_wk hu6 (.cons (intOf_wk hu7) (.cons (strOf_wk hu8) (.cons (intOf_wk hu9) (.cons (intOf_wk hu10) .nil))))).2 (renL_mem (.cons rfl (.cons rfl (.cons rfl (.cons rfl .nil))))) (WkR.nil _)) rfl) (l_sutureref1_one_19_run n m _ _ _ _ _ _ _ _ _ x h)
    · unfold l_sutureref1_one_19_K at h
      split at h
      · exact absurd rfl hne
      · obtain ⟨u0, hu0, h⟩ := Option.bind_eq_some_iff.1 h
        obtain ⟨u1, hu1, h⟩ := Option.bind_eq_some_iff.1 h
        obtain ⟨u2, hu2, h⟩ := Option.bind_eq_some_iff.1 h
        obtain ⟨u3, hu3, h⟩ := Option.bind_eq_some_iff.1 h
        obtain ⟨u4, hu4, h⟩ := Option.bind_eq_some_iff.1 h
        obtain ⟨u5, hu5, h⟩ := Option.bind_eq_some_iff.1 h
        obtain ⟨u6, hu6, h⟩ := Option.bind_eq_some_iff.1 h
        simp only [Option.some.injEq] at h
        subst h
        exact ⟨1, _, _, by decide, WkA.env (WkA.cons (ptrOf_wk hu0) rfl (WkA.cons (intOf_wk hu1) rfl WkA.nil)) 119, (wkR_sig (WkR.cons (cellsN_wk hu2 (.cons (intOf_wk hu3) (.cons (strOf_wk hu4) (.cons (intOf_wk hu5) (.cons (intOf_wk hu6) .nil))))).1 (cellsN_wk hu2 (.cons (intOf_wk hu3) (.cons (strOf_wk hu4) (.cons (intOf_wk hu5) (.cons (intOf_wk hu6) .nil))))).2 (renL_mem (.cons rfl (.cons rfl (.cons rfl (.cons rfl .nil))))) (WkR.nil _)) rfl), rfl, rfl, rfl⟩
      · obtain ⟨u0, hu0, h⟩ := Option.bind_eq_some_iff.1 h
        obtain ⟨u1, hu1, h⟩ := Option.bind_eq_some_iff.1 h
        obtain ⟨u2, hu2, h⟩ := Option.bind_eq_some_iff.1 h
        obtain ⟨u3, hu3, h⟩ := Option.bind_eq_some_iff.1 h
        obtain ⟨u4, hu4, h⟩ := Option.bind_eq_some_iff.1 h
        obtain ⟨u5, hu5, h⟩ := Option.bind_eq_some_iff.1 h
        simp only [Option.some.injEq] at h
        subst h
        exact ⟨1, _, _, by decide, WkA.env (WkA.cons (ptrOf_wk hu0) rfl WkA.nil) 119, (wkR_sig (WkR.cons (cellsN_wk hu1 (.cons (intOf_wk hu2) (.cons (strOf_wk hu3) (.cons (intOf_wk hu4) (.cons (intOf_wk hu5) .nil))))).1 (cellsN_wk hu1 (.cons (intOf_wk hu2) (.cons (strOf_wk hu3) (.cons (intOf_wk hu4) (.cons (intOf_wk hu5) .nil))))).2 (renL_mem (.cons rfl (.cons rfl (.cons rfl (.cons rfl .nil))))) (WkR.nil _)) rfl), rfl, rfl, rfl⟩
      · cases h
theorem l_sutureref1_one_19_ok (n : Nat) : LoopOk Tryd.prog (sp_sutureref1_one n) 0 119 code_l_sutureref1_one_19 := by
    intro R key E sg K r hk h
    rw [show Go.Eng.keyOf code_l_sutureref1_one_19 = some 19 from by kernel_rfl] at hk
    cases hk
    have h : l_sutureref1_one_19_S n R E sg K = some r := h
    unfold l_sutureref1_one_19_S at h
    obtain ⟨u0, hu0, h⟩ := Option.bind_eq_some_iff.1 h
    obtain ⟨u1, hu1, h⟩ := Option.bind_eq_some_iff.1 h
    obtain ⟨u2, hu2, h⟩ := Option.bind_eq_some_iff.1 h
    obtain ⟨u3, hu3, h⟩ := Option.bind_eq_some_iff.1 h
    obtain ⟨u4, hu4, h⟩ := Option.bind_eq_some_iff.1 h
    obtain ⟨u5, hu5, h⟩ := Option.bind_eq_some_iff.1 h
    obtain ⟨u6, hu6, h⟩ := Option.bind_eq_some_iff.1 h
    obtain ⟨u7, hu7, h⟩ := Option.bind_eq_some_iff.1 h
    obtain ⟨u8, hu8, h⟩ := Option.bind_eq_some_iff.1 h
    obtain ⟨u9, hu9, h⟩ := Option.bind_eq_some_iff.1 h
    obtain ⟨u10, hu10, h⟩ := Option.bind_eq_some_iff.1 h
    obtain ⟨x, hx, h⟩ := Option.bind_eq_some_iff.1 h
    refine (SemL.pre (k := 1) (by decide) (WkA.env (WkA.cons (strOf_wk hu0) rfl (WkA.cons (intOf_wk hu1) rfl (WkA.cons (ptrOf_wk hu2) rfl (WkA.cons (intOf_wk hu3) rfl (WkA.cons (intOf_wk hu4) rfl (WkA.cons (intOf_wk hu5) rfl WkA.nil)))))) 119) (wkR_sig (WkR.cons (cellsN_wk hu6 (.cons (intOf_wk hu7) (.cons (strOf_wk hu8) (.cons (intOf_wk hu9) (.cons (intOf_wk hu10) .nil))))).1 (cellsN_wk hu6 (.cons (intOf_wk hu7) (.cons (strOf_wk hu8) (.cons (intOf_wk hu9) (.cons (intOf_wk hu10) .nil))))).2 (renL_mem (.cons rfl (.cons rfl (.cons rfl (.cons rfl .nil))))) (WkR.nil _)) rfl) (l_sutureref1_one_19_run n n _ _ _ _ _ _ _ _ _ x hx)).mono ?_
    intro ex e s hq
    rcases x with x | x <;> (obtain ⟨rfl, rfl, rfl⟩ := hq; exact ⟨_, rfl, h⟩) -- 5
def K_sutureref1_one (v : V) (s : Sig) : Option (Int × ByteArray × Int × Int × Int) := Option.bind (V.tupN 2 v) fun u0 => Option.bind (V.aggN 4 (u0.getD 0 .any)) fun u1 => Option.bind (V.intOf .i64 (u1.getD 0 .any)) fun u2 => Option.bind (V.strOf (u1.getD 1 .any)) fun u3 => Option.bind (V.intOf .i64 (u1.getD 2 .any)) fun u4 => Option.bind (V.intOf .i64 (u1.getD 3 .any)) fun u5 => Option.bind (V.intOf .i64 (u0.getD 1 .any)) fun u6 => some (u2, u3, u4, u5, u6)
theorem K_sutureref1_one_wk {v : V} {s : Sig} {r : Int × ByteArray × Int × Int × Int} (h : K_sutureref1_one v s = some r) : Wk v (enc_sutureref1_one r) ∧ WkS 0 s (encS_sutureref1_one r) := by
  unfold K_sutureref1_one at h
  obtain ⟨u0, hu0, h⟩ := Option.bind_eq_some_iff.1 h
  obtain ⟨u1, hu1, h⟩ := Option.bind_eq_some_iff.1 h
  obtain ⟨u2, hu2, h⟩ := Option.bind_eq_some_iff.1 h
  obtain ⟨u3, hu3, h⟩ := Option.bind_eq_some_iff.1 h
  obtain ⟨u4, hu4, h⟩ := Option.bind_eq_some_iff.1 h
  obtain ⟨u5, hu5, h⟩ := Option.bind_eq_some_iff.1 h
  obtain ⟨u6, hu6, h⟩ := Option.bind_eq_some_iff.1 h
  simp only [Option.some.injEq] at h
  subst h
  exact ⟨(tupN_wk hu0 (.cons (aggN_wk hu1 (.cons (intOf_wk hu2) (.cons (strOf_wk hu3) (.cons (intOf_wk hu4) (.cons (intOf_wk hu5) .nil))))) (.cons (intOf_wk hu6) .nil))), (WkS.none _)⟩
theorem m_sutureref1_one_eq (n : Nat) (a0 : ByteArray) (a1 : Int) : mF Tryd.prog (sp_sutureref1_one n) 48 [(V.t (T.sc (.string a0))), (V.t (T.sc (.int .i64 a1)))] [] K_sutureref1_one = m_sutureref1_one n a0 a1 := by kernel_rfl
theorem m_sutureref1_one_ok (n : Nat) : ok_sutureref1_one (m_sutureref1_one n) := fun a0 a1 r h => mF_ok sound (sp_sutureref1_one_ok n) code_sutureref1_one_fn code_sutureref1_one_body (forall_getD (d := .skip) 3 (by kernel_rfl) (fun i hi => match i, hi with | 0, _ => l_sutureref1_one_4_ok n | 1, _ => l_sutureref1_one_10_ok n | 2, _ => l_sutureref1_one_19_ok n | i + 3, hi => absurd hi (by omega))) (no_scope (by kernel_rfl)) ((m_sutureref1_one_eq n a0 a1).trans h) (fun v s hk => ⟨(K_sutureref1_one_wk hk).1, rfl, (K_sutureref1_one_wk hk).2⟩)


/-! suture/sutureref1.Tokens -/
def l_sutureref1_Tokens_10_B (n : Nat) (k : ByteArray × (List T) × Int → Option (ByteArray × (List T) × Int)) : ByteArray × (List T) × Int → Option (ByteArray × (List T) × Int) := fun (s0, s1, s2) =>
Option.bind (bidx ((decide ((s2 : Int) < ((ByteArray.size s0 : Nat) : Int)))) s0 s2) fun b1 =>
bif (bif (decide ((s2 : Int) < ((ByteArray.size s0 : Nat) : Int))) then ((((UInt8.toNat b1 : Nat) : Int) : Int) != 10) else false) then (
k (s0, s1, (IntKind.wrap .i64 (s2 + 1))))
else (
some (s0, s1, s2))
def l_sutureref1_Tokens_10 (n : Nat) : Nat → ByteArray × (List T) × Int → Option (ByteArray × (List T) × Int)
  | 0, _ => none
  | m + 1, s => l_sutureref1_Tokens_10_B n (l_sutureref1_Tokens_10 n m) s
def l_sutureref1_Tokens_5_B (n : Nat) (k : ByteArray × (List T) × Int → Option ((((List T) × Int × Int) ⊕ (List T) × Int))) : ByteArray × (List T) × Int → Option ((((List T) × Int × Int) ⊕ (List T) × Int)) := fun (s0, s1, s2) =>
bif (decide ((s2 : Int) < ((ByteArray.size s0 : Nat) : Int))) then (
Option.bind (bidx true s0 s2) fun b0 =>
bif (bif (bif ((((UInt8.toNat b0 : Nat) : Int) : Int) == 32) then true else ((((UInt8.toNat b0 : Nat) : Int) : Int) == 9)) then true else ((((UInt8.toNat b0 : Nat) : Int) : Int) == 10)) then (
k (s0, s1, (IntKind.wrap .i64 (s2 + 1))))
else (
bif ((((UInt8.toNat b0 : Nat) : Int) : Int) == 35) then (
Option.bind (l_sutureref1_Tokens_10 n n (s0, s1, s2)) fun p3 =>
k (p3.1, p3.2.1, p3.2.2))
else (
Option.bind (m_sutureref1_one n s0 s2) fun r4 =>
bif ((r4.2.2.2.2 : Int) == 0) then (
some (Sum.inl (([] : List T), s2, 2)))
else (
must true ((Nat.beq 4 4 || Nat.beq 4 0) && (decide (List.length s1 + List.length [(T.agg [(T.sc (.int .i64 r4.1)), (T.sc (.string r4.2.1)), (T.sc (.int .i64 r4.2.2.1)), (T.sc (.int .i64 r4.2.2.2.1))])] ≤ 1073741824) && sized 4 [(T.agg [(T.sc (.int .i64 r4.1)), (T.sc (.string r4.2.1)), (T.sc (.int .i64 r4.2.2.1)), (T.sc (.int .i64 r4.2.2.2.1))])])) (k (s0, (s1 ++ [(T.agg [(T.sc (.int .i64 r4.1)), (T.sc (.string r4.2.1)), (T.sc (.int .i64 r4.2.2.1)), (T.sc (.int .i64 r4.2.2.2.1))])]), (IntKind.wrap .i64 (s2 + r4.2.2.2.2))))))))
else (
some (Sum.inr (s1, s2)))
def l_sutureref1_Tokens_5 (n : Nat) : Nat → ByteArray × (List T) × Int → Option ((((List T) × Int × Int) ⊕ (List T) × Int))
  | 0, _ => none
  | m + 1, s => l_sutureref1_Tokens_5_B n (l_sutureref1_Tokens_5 n m) s
def m_sutureref1_Tokens (n : Nat) (a0 : ByteArray) : Option ((List T) × Int × Int) :=
bif (decide ((((ByteArray.size a0 : Nat) : Int) : Int) > 6000)) then (
some (([] : List T), 6000, 2))
else (
Option.bind (l_sutureref1_Tokens_5 n n (a0, ([] : List T), 0)) fun x5 =>
Sum.elim (fun p6 => 
some (p6.1, p6.2.1, p6.2.2)) (fun x5' => (fun p7 => 
must true ((Nat.beq 4 4 || Nat.beq 4 0) && (decide (List.length p7.1 + List.length [(T.agg [(T.sc (.int .i64 4)), (T.sc (.string (⟨#[]⟩ : ByteArray))), (T.sc (.int .i64 0)), (T.sc (.int .i64 p7.2))])] ≤ 1073741824) && sized 4 [(T.agg [(T.sc (.int .i64 4)), (T.sc (.string (⟨#[]⟩ : ByteArray))), (T.sc (.int .i64 0)), (T.sc (.int .i64 p7.2))])])) (some ((p7.1 ++ [(T.agg [(T.sc (.int .i64 4)), (T.sc (.string (⟨#[]⟩ : ByteArray))), (T.sc (.int .i64 0)), (T.sc (.int .i64 p7.2))])]), 0, 0))) x5') x5)
def enc_sutureref1_Tokens (r : (List T) × Int × Int) : V := (V.tup [(V.t (T.list r.1)), (V.t (T.sc (.int .i64 r.2.1))), (V.t (T.sc (.int .i64 r.2.2)))])
def encS_sutureref1_Tokens (r : (List T) × Int × Int) : Sig := []
def ok_sutureref1_Tokens (m : ByteArray → Option ((List T) × Int × Int)) : Prop := ∀ (a0 : ByteArray) (r : (List T) × Int × Int), m a0 = some r → FuncOk Tryd.prog 29 [(V.t (T.sc (.string a0)))] [] (enc_sutureref1_Tokens r) (encS_sutureref1_Tokens r)
def c_sutureref1_Tokens (m : ByteArray → Option ((List T) × Int × Int)) (vs : List V) (sg : Sig) : Option CallM := bif Nat.beq vs.length 1 && Nat.beq sg.length 0 then Option.bind (V.strOf (vs.getD 0 .any)) fun u0 => some { α := (List T) × Int × Int, m := m u0, dflt := ([], 0, 0), enc := fun y => ((V.tup [(V.t (T.list y.1)), (V.t (T.sc (.int .i64 y.2.1))), (V.t (T.sc (.int .i64 y.2.2)))]), []) } else none
theorem c_sutureref1_Tokens_ok (m : ByteArray → Option ((List T) × Int × Int)) (hm : ok_sutureref1_Tokens m) (vs : List V) (sg : Sig) (cm : CallM) (x : cm.α) (h : c_sutureref1_Tokens m vs sg = some cm) (hx : cm.m = some x) : FuncOk Tryd.prog 29 vs sg (cm.enc x).1 (cm.enc x).2 := by
  unfold c_sutureref1_Tokens at h
  have h0 := callee_sig h
  clear h
  obtain ⟨hl, hs, h⟩ := h0
  obtain ⟨u0, hu0, h⟩ := Option.bind_eq_some_iff.1 h
  simp only [Option.some.injEq] at h
  subst h
  exact (hm u0 x hx).wk (args_wk hl (.cons (strOf_wk hu0) .nil)) (wkSg_of hs .nil)
noncomputable def code_sutureref1_Tokens : Code := Tryd.f29.body.getD .skip
def l_sutureref1_Tokens_10_S (n : Nat) (R : Type) (E : SEnv) (sg : Sig) (K : Ex → SEnv → Sig → Option R) : Option R := Option.bind (V.strOf (SEnv.at E 0)) fun u0 => Option.bind (V.ownOf 4 (SEnv.at E 5)) fun u1 => Option.bind (V.intOf .i64 (SEnv.at E 6)) fun u2 => Option.bind (l_sutureref1_Tokens_10 n n (u0, u1, u2)) fun p0 => K (.exit 2) [(0, (V.t (T.sc (.string p0.1)))), (5, (V.own 4 p0.2.1)), (6, (V.t (T.sc (.int .i64 p0.2.2))))] []
def l_sutureref1_Tokens_5_S (n : Nat) (R : Type) (E : SEnv) (sg : Sig) (K : Ex → SEnv → Sig → Option R) : Option R := Option.bind (V.strOf (SEnv.at E 0)) fun u0 => Option.bind (V.ownOf 4 (SEnv.at E 5)) fun u1 => Option.bind (V.intOf .i64 (SEnv.at E 6)) fun u2 => Option.bind (l_sutureref1_Tokens_5 n n (u0, u1, u2)) fun y => Sum.elim (fun p0 => K .ret [(2, (V.own 0 p0.1)), (3, (V.t (T.sc (.int .i64 p0.2.1)))), (4, (V.t (T.sc (.int .i64 p0.2.2))))] []) (fun y' => (fun p1 => K (.exit 0) [(5, (V.own 4 p1.1)), (6, (V.t (T.sc (.int .i64 p1.2))))] []) y') y
noncomputable def sp_sutureref1_Tokens (n : Nat) : Go.Eng.Spec := ⟨fun f vs sg => (match f with
    | 48 => c_sutureref1_one (m_sutureref1_one n) vs sg
    | _ => none), fun R key E sg K => (match key with
    | 10 => l_sutureref1_Tokens_10_S n R E sg K
    | 5 => l_sutureref1_Tokens_5_S n R E sg K
    | _ => none)⟩
theorem sp_sutureref1_Tokens_ok (n : Nat) : CallsOk Tryd.prog (sp_sutureref1_Tokens n) := by
  intro f vs sg cm x h hx
  simp only [sp_sutureref1_Tokens] at h
  split at h
  · exact c_sutureref1_one_ok _ (m_sutureref1_one_ok n) vs sg cm x h hx
  · cases h
theorem code_sutureref1_Tokens_fn : Tryd.prog.funcs[29]? = some Tryd.f29 := Tryd.func29
theorem code_sutureref1_Tokens_body : Tryd.f29.body = some code_sutureref1_Tokens := by kernel_rfl
theorem code_sutureref1_Tokens_ok : CodeOk Tryd.prog code_sutureref1_Tokens := (sound 29 _ _ code_sutureref1_Tokens_fn code_sutureref1_Tokens_body).1
noncomputable def code_l_sutureref1_Tokens_10 : Code := (loopsOf code_sutureref1_Tokens).getD 1 .skip
theorem code_l_sutureref1_Tokens_10_ok : CodeOk Tryd.prog code_l_sutureref1_Tokens_10 := codeOk_loops code_sutureref1_Tokens_ok _ (getD_mem (by kernel_rfl))
def l_sutureref1_Tokens_10_K (k : ByteArray × (List T) × Int → Option (ByteArray × (List T) × Int)) : Ex → SEnv → Sig → Option (ByteArray × (List T) × Int) := fun x E sg => match x with
  | .normal => Option.bind (V.strOf (SEnv.at E 0)) fun u0 => Option.bind (V.ownOf 4 (SEnv.at E 5)) fun u1 => Option.bind (V.intOf .i64 (SEnv.at E 6)) fun u2 => k (u0, u1, u2)
  | (.exit 2) => Option.bind (V.strOf (SEnv.at E 0)) fun u0 => Option.bind (V.ownOf 4 (SEnv.at E 5)) fun u1 => Option.bind (V.intOf .i64 (SEnv.at E 6)) fun u2 => some (u0, u1, u2)
  | _ => none
theorem l_sutureref1_Tokens_10_eq (n : Nat) (k : ByteArray × (List T) × Int → Option (ByteArray × (List T) × Int)) (s0 : ByteArray) (s1 : List T) (s2 : Int) : mX Tryd.prog (sp_sutureref1_Tokens n) 67 code_l_sutureref1_Tokens_10 [(0, (V.t (T.sc (.string s0)))), (5, (V.own 4 s1)), (6, (V.t (T.sc (.int .i64 s2))))] [] (l_sutureref1_Tokens_10_K k) = l_sutureref1_Tokens_10_B n k (s0, s1, s2) := by kernel_rfl
def l_sutureref1_Tokens_10_Q (x : ByteArray × (List T) × Int) (ex : Ex) (e : Env) (s : Sig) : Prop := (fun p0 => (ex = (.exit 2) ∧ e = SEnv.env 67 [(0, (V.t (T.sc (.string p0.1)))), (5, (V.own 4 p0.2.1)), (6, (V.t (T.sc (.int .i64 p0.2.2))))] ∧ s = [])) x
theorem l_sutureref1_Tokens_10_run (n : Nat) : ∀ (m : Nat) (s0 : ByteArray) (s1 : List T) (s2 : Int) (x : ByteArray × (List T) × Int), l_sutureref1_Tokens_10 n m (s0, s1, s2) = some x → SemL Tryd.prog 0 code_l_sutureref1_Tokens_10 (SEnv.env 67 [(0, (V.t (T.sc (.string s0)))), (5, (V.own 4 s1)), (6, (V.t (T.sc (.int .i64 s2))))]) [] (l_sutureref1_Tokens_10_Q x)
  | 0, s0, s1, s2, x, h => by cases h
  | m + 1, s0, s1, s2, x, h => by
    refine loop_step (sp_sutureref1_Tokens_ok n) code_l_sutureref1_Tokens_10_ok (fun a ha => absurd ha (by rw [show loopsOf code_l_sutureref1_Tokens_10 = [] from by kernel_rfl]; simp)) (no_scope (by kernel_rfl)) ((l_sutureref1_Tokens_10_eq n _ s0 s1 s2).trans h) (fun E sg h => ?_) (fun ex E sg hne h => ?_)
    · simp only [l_sutureref1_Tokens_10_K] at h
      obtain ⟨u0, hu0, h⟩ := Option.bind_eq_some_iff.1 h
      obtain ⟨u1, hu1, h⟩ := Option.bind_eq_some_iff.1 h
      obtain ⟨u2, hu2, h⟩ := Option.bind_eq_some_iff.1 h
      exact SemL.pre (k := 0) (by decide) (WkA.env (WkA.cons (strOf_wk hu0) rfl (WkA.cons (ownOf_wk hu1) rfl (WkA.cons (intOf_wk hu2) rfl WkA.nil))) 67) (WkS.none _) (l_sutureref1_Tokens_10_run n m _ _ _ x h)
    · unfold l_sutureref1_Tokens_10_K at h
      split at h
      · exact absurd rfl hne
      · obtain ⟨u0, hu0, h⟩ := Option.bind_eq_some_iff.1 h
        obtain ⟨u1, hu1, h⟩ := Option.bind_eq_some_iff.1 h
        obtain ⟨u2, hu2, h⟩ := Option.bind_eq_some_iff.1 h
        simp only [Option.some.injEq] at h
        subst h
        exact ⟨0, _, _, by decide, WkA.env (WkA.cons (strOf_wk hu0) rfl (WkA.cons (ownOf_wk hu1) rfl (WkA.cons (intOf_wk hu2) rfl WkA.nil))) 67, (WkS.none _), rfl, rfl, rfl⟩
      · cases h
theorem l_sutureref1_Tokens_10_ok (n : Nat) : LoopOk Tryd.prog (sp_sutureref1_Tokens n) 0 67 code_l_sutureref1_Tokens_10 := by
    intro R key E sg K r hk h
    rw [show Go.Eng.keyOf code_l_sutureref1_Tokens_10 = some 10 from by kernel_rfl] at hk
    cases hk
    have h : l_sutureref1_Tokens_10_S n R E sg K = some r := h
    unfold l_sutureref1_Tokens_10_S at h
    obtain ⟨u0, hu0, h⟩ := Option.bind_eq_some_iff.1 h
    obtain ⟨u1, hu1, h⟩ := Option.bind_eq_some_iff.1 h
    obtain ⟨u2, hu2, h⟩ := Option.bind_eq_some_iff.1 h
    obtain ⟨x, hx, h⟩ := Option.bind_eq_some_iff.1 h
    refine (SemL.pre (k := 0) (by decide) (WkA.env (WkA.cons (strOf_wk hu0) rfl (WkA.cons (ownOf_wk hu1) rfl (WkA.cons (intOf_wk hu2) rfl WkA.nil))) 67) (WkS.none _) (l_sutureref1_Tokens_10_run n n _ _ _ x hx)).mono ?_
    intro ex e s hq
    obtain ⟨rfl, rfl, rfl⟩ := hq
    exact ⟨_, rfl, h⟩
noncomputable def code_l_sutureref1_Tokens_5 : Code := (loopsOf code_sutureref1_Tokens).getD 0 .skip
theorem code_l_sutureref1_Tokens_5_ok : CodeOk Tryd.prog code_l_sutureref1_Tokens_5 := codeOk_loops code_sutureref1_Tokens_ok _ (getD_mem (by kernel_rfl))
def l_sutureref1_Tokens_5_K (k : ByteArray × (List T) × Int → Option ((((List T) × Int × Int) ⊕ (List T) × Int))) : Ex → SEnv → Sig → Option ((((List T) × Int × Int) ⊕ (List T) × Int)) := fun x E sg => match x with
  | .normal => Option.bind (V.strOf (SEnv.at E 0)) fun u0 => Option.bind (V.ownOf 4 (SEnv.at E 5)) fun u1 => Option.bind (V.intOf .i64 (SEnv.at E 6)) fun u2 => k (u0, u1, u2)
  | .ret => Option.bind (V.ownOf 0 (SEnv.at E 2)) fun u0 => Option.bind (V.intOf .i64 (SEnv.at E 3)) fun u1 => Option.bind (V.intOf .i64 (SEnv.at E 4)) fun u2 => some (Sum.inl (u0, u1, u2))
  | (.exit 0) => Option.bind (V.ownOf 4 (SEnv.at E 5)) fun u0 => Option.bind (V.intOf .i64 (SEnv.at E 6)) fun u1 => some (Sum.inr (u0, u1))
  | _ => none
theorem l_sutureref1_Tokens_5_eq (n : Nat) (k : ByteArray × (List T) × Int → Option ((((List T) × Int × Int) ⊕ (List T) × Int))) (s0 : ByteArray) (s1 : List T) (s2 : Int) : mX Tryd.prog (sp_sutureref1_Tokens n) 67 code_l_sutureref1_Tokens_5 [(0, (V.t (T.sc (.string s0)))), (5, (V.own 4 s1)), (6, (V.t (T.sc (.int .i64 s2))))] [] (l_sutureref1_Tokens_5_K k) = l_sutureref1_Tokens_5_B n k (s0, s1, s2) := by kernel_rfl
def l_sutureref1_Tokens_5_Q (x : (((List T) × Int × Int) ⊕ (List T) × Int)) (ex : Ex) (e : Env) (s : Sig) : Prop := Sum.elim (fun p0 => (ex = .ret ∧ e = SEnv.env 67 [(2, (V.own 0 p0.1)), (3, (V.t (T.sc (.int .i64 p0.2.1)))), (4, (V.t (T.sc (.int .i64 p0.2.2))))] ∧ s = [])) (fun x' => (fun p1 => (ex = (.exit 0) ∧ e = SEnv.env 67 [(5, (V.own 4 p1.1)), (6, (V.t (T.sc (.int .i64 p1.2))))] ∧ s = [])) x') x
theorem l_sutureref1_Tokens_5_run (n : Nat) : ∀ (m : Nat) (s0 : ByteArray) (s1 : List T) (s2 : Int) (x : (((List T) × Int × Int) ⊕ (List T) × Int)), l_sutureref1_Tokens_5 n m (s0, s1, s2) = some x → SemL Tryd.prog 0 code_l_sutureref1_Tokens_5 (SEnv.env 67 [(0, (V.t (T.sc (.string s0)))), (5, (V.own 4 s1)), (6, (V.t (T.sc (.int .i64 s2))))]) [] (l_sutureref1_Tokens_5_Q x)
  | 0, s0, s1, s2, x, h => by cases h
  | m + 1, s0, s1, s2, x, h => by
    refine loop_step (sp_sutureref1_Tokens_ok n) code_l_sutureref1_Tokens_5_ok (forall_getD (d := .skip) 1 (by kernel_rfl) (fun i hi => match i, hi with | 0, _ => (show LoopOk Tryd.prog (sp_sutureref1_Tokens n) 0 67 ((loopsOf code_l_sutureref1_Tokens_5).getD 0 .skip) from (show (loopsOf code_l_sutureref1_Tokens_5).getD 0 .skip = code_l_sutureref1_Tokens_10 from by kernel_rfl) ▸ l_sutureref1_Tokens_10_ok n) | i + 1, hi => absurd hi (by omega))) (no_scope (by kernel_rfl)) ((l_sutureref1_Tokens_5_eq n _ s0 s1 s2).trans h) (fun E sg h => ?_) (fun ex E sg hne h => ?_)
    · simp only [l_sutureref1_Tokens_5_K] at h
      obtain ⟨u0, hu0, h⟩ := Option.bind_eq_some_iff.1 h
      obtain ⟨u1, hu1, h⟩ := Option.bind_eq_some_iff.1 h
      obtain ⟨u2, hu2, h⟩ := Option.bind_eq_some_iff.1 h
      exact SemL.pre (k := 0) (by decide) (WkA.env (WkA.cons (strOf_wk hu0) rfl (WkA.cons (ownOf_wk hu1) rfl (WkA.cons (intOf_wk hu2) rfl WkA.nil))) 67) (WkS.none _) (l_sutureref1_Tokens_5_run n m _ _ _ x h)
    · unfold l_sutureref1_Tokens_5_K at h
      split at h
      · exact absurd rfl hne
      · obtain ⟨u0, hu0, h⟩ := Option.bind_eq_some_iff.1 h
        obtain ⟨u1, hu1, h⟩ := Option.bind_eq_some_iff.1 h
        obtain ⟨u2, hu2, h⟩ := Option.bind_eq_some_iff.1 h
        simp only [Option.some.injEq] at h
        subst h
        exact ⟨0, _, _, by decide, WkA.env (WkA.cons (ownOf_wk hu0) rfl (WkA.cons (intOf_wk hu1) rfl (WkA.cons (intOf_wk hu2) rfl WkA.nil))) 67, (WkS.none _), rfl, rfl, rfl⟩
      · obtain ⟨u0, hu0, h⟩ := Option.bind_eq_some_iff.1 h
        obtain ⟨u1, hu1, h⟩ := Option.bind_eq_some_iff.1 h
        simp only [Option.some.injEq] at h
        subst h
        exact ⟨0, _, _, by decide, WkA.env (WkA.cons (ownOf_wk hu0) rfl (WkA.cons (intOf_wk hu1) rfl WkA.nil)) 67, (WkS.none _), rfl, rfl, rfl⟩
      · cases h
theorem l_sutureref1_Tokens_5_ok (n : Nat) : LoopOk Tryd.prog (sp_sutureref1_Tokens n) 0 67 code_l_sutureref1_Tokens_5 := by
    intro R key E sg K r hk h
    rw [show Go.Eng.keyOf code_l_sutureref1_Tokens_5 = some 5 from by kernel_rfl] at hk
    cases hk
    have h : l_sutureref1_Tokens_5_S n R E sg K = some r := h
    unfold l_sutureref1_Tokens_5_S at h
    obtain ⟨u0, hu0, h⟩ := Option.bind_eq_some_iff.1 h
    obtain ⟨u1, hu1, h⟩ := Option.bind_eq_some_iff.1 h
    obtain ⟨u2, hu2, h⟩ := Option.bind_eq_some_iff.1 h
    obtain ⟨x, hx, h⟩ := Option.bind_eq_some_iff.1 h
    refine (SemL.pre (k := 0) (by decide) (WkA.env (WkA.cons (strOf_wk hu0) rfl (WkA.cons (ownOf_wk hu1) rfl (WkA.cons (intOf_wk hu2) rfl WkA.nil))) 67) (WkS.none _) (l_sutureref1_Tokens_5_run n n _ _ _ x hx)).mono ?_
    intro ex e s hq
    rcases x with x | x <;> (obtain ⟨rfl, rfl, rfl⟩ := hq; exact ⟨_, rfl, h⟩) -- 5
def K_sutureref1_Tokens (v : V) (s : Sig) : Option ((List T) × Int × Int) := Option.bind (V.tupN 3 v) fun u0 => Option.bind (V.lstOf (u0.getD 0 .any)) fun u1 => Option.bind (V.intOf .i64 (u0.getD 1 .any)) fun u2 => Option.bind (V.intOf .i64 (u0.getD 2 .any)) fun u3 => some (u1, u2, u3)
theorem K_sutureref1_Tokens_wk {v : V} {s : Sig} {r : (List T) × Int × Int} (h : K_sutureref1_Tokens v s = some r) : Wk v (enc_sutureref1_Tokens r) ∧ WkS 0 s (encS_sutureref1_Tokens r) := by
  unfold K_sutureref1_Tokens at h
  obtain ⟨u0, hu0, h⟩ := Option.bind_eq_some_iff.1 h
  obtain ⟨u1, hu1, h⟩ := Option.bind_eq_some_iff.1 h
  obtain ⟨u2, hu2, h⟩ := Option.bind_eq_some_iff.1 h
  obtain ⟨u3, hu3, h⟩ := Option.bind_eq_some_iff.1 h
  simp only [Option.some.injEq] at h
  subst h
  exact ⟨(tupN_wk hu0 (.cons (lstOf_wk hu1) (.cons (intOf_wk hu2) (.cons (intOf_wk hu3) .nil)))), (WkS.none _)⟩
theorem m_sutureref1_Tokens_eq (n : Nat) (a0 : ByteArray) : mF Tryd.prog (sp_sutureref1_Tokens n) 29 [(V.t (T.sc (.string a0)))] [] K_sutureref1_Tokens = m_sutureref1_Tokens n a0 := by kernel_rfl
theorem m_sutureref1_Tokens_ok (n : Nat) : ok_sutureref1_Tokens (m_sutureref1_Tokens n) := fun a0 r h => mF_ok sound (sp_sutureref1_Tokens_ok n) code_sutureref1_Tokens_fn code_sutureref1_Tokens_body (forall_getD (d := .skip) 2 (by kernel_rfl) (fun i hi => match i, hi with | 0, _ => l_sutureref1_Tokens_5_ok n | 1, _ => l_sutureref1_Tokens_10_ok n | i + 2, hi => absurd hi (by omega))) (no_scope (by kernel_rfl)) ((m_sutureref1_Tokens_eq n a0).trans h) (fun v s hk => ⟨(K_sutureref1_Tokens_wk hk).1, rfl, (K_sutureref1_Tokens_wk hk).2⟩)


/-! slices.Index[[]string,string] -/
def l_slices_Index___string_string__2_B (n : Nat) (k : (List T) × ByteArray × Int × Int → Option (((Int) ⊕ Unit))) : (List T) × ByteArray × Int × Int → Option (((Int) ⊕ Unit)) := fun (s0, s1, s2, s3) =>
bif (decide ((s3 : Int) < s2)) then (
Option.bind (idx true [.str] s0 s3) fun y0 =>
bif (ByteArray.toList s1 == ByteArray.toList (y0.cell 0).str) then (
some (Sum.inl s3))
else (
k (s0, s1, s2, (IntKind.wrap .i64 (s3 + 1)))))
else (
some (Sum.inr ()))
def l_slices_Index___string_string__2 (n : Nat) : Nat → (List T) × ByteArray × Int × Int → Option (((Int) ⊕ Unit))
  | 0, _ => none
  | m + 1, s => l_slices_Index___string_string__2_B n (l_slices_Index___string_string__2 n m) s
def m_slices_Index___string_string_ (n : Nat) (a0 : List T) (a1 : ByteArray) : Option (Int) :=
Option.bind (l_slices_Index___string_string__2 n n (a0, a1, ((List.length a0 : Nat) : Int), 0)) fun x1 =>
Sum.elim (fun p2 => 
some p2) (fun x1' => (fun p3 => 
some (-1)) x1') x1
def enc_slices_Index___string_string_ (r : Int) : V := (V.t (T.sc (.int .i64 r)))
def encS_slices_Index___string_string_ (r : Int) : Sig := []
def ok_slices_Index___string_string_ (m : List T → ByteArray → Option (Int)) : Prop := ∀ (a0 : List T) (a1 : ByteArray) (r : Int), m a0 a1 = some r → FuncOk Tryd.prog 61 [(V.t (T.list a0)), (V.t (T.sc (.string a1)))] [] (enc_slices_Index___string_string_ r) (encS_slices_Index___string_string_ r)
def c_slices_Index___string_string_ (m : List T → ByteArray → Option (Int)) (vs : List V) (sg : Sig) : Option CallM := bif Nat.beq vs.length 2 && Nat.beq sg.length 0 then Option.bind (V.lstOf (vs.getD 0 .any)) fun u0 => Option.bind (V.strOf (vs.getD 1 .any)) fun u1 => some { α := Int, m := m u0 u1, dflt := 0, enc := fun y => ((V.t (T.sc (.int .i64 y))), []) } else none
theorem c_slices_Index___string_string__ok (m : List T → ByteArray → Option (Int)) (hm : ok_slices_Index___string_string_ m) (vs : List V) (sg : Sig) (cm : CallM) (x : cm.α) (h : c_slices_Index___string_string_ m vs sg = some cm) (hx : cm.m = some x) : FuncOk Tryd.prog 61 vs sg (cm.enc x).1 (cm.enc x).2 := by
  unfold c_slices_Index___string_string_ at h
  have h0 := callee_sig h
  clear h
  obtain ⟨hl, hs, h⟩ := h0
  obtain ⟨u0, hu0, h⟩ := Option.bind_eq_some_iff.1 h
  obtain ⟨u1, hu1, h⟩ := Option.bind_eq_some_iff.1 h
  simp only [Option.some.injEq] at h
  subst h
  exact (hm u0 u1 x hx).wk (args_wk hl (.cons (lstOf_wk hu0) (.cons (strOf_wk hu1) .nil))) (wkSg_of hs .nil)
noncomputable def code_slices_Index___string_string_ : Code := Tryd.f61.body.getD .skip
def l_slices_Index___string_string__2_S (n : Nat) (R : Type) (E : SEnv) (sg : Sig) (K : Ex → SEnv → Sig → Option R) : Option R := Option.bind (V.lstOf (SEnv.at E 0)) fun u0 => Option.bind (V.strOf (SEnv.at E 1)) fun u1 => Option.bind (V.intOf .i64 (SEnv.at E 7)) fun u2 => Option.bind (V.intOf .i64 (SEnv.at E 8)) fun u3 => Option.bind (l_slices_Index___string_string__2 n n (u0, u1, u2, u3)) fun y => Sum.elim (fun p0 => K .ret [(4, (V.t (T.sc (.int .i64 p0))))] []) (fun y' => (fun p1 => K (.exit 0) [] []) y') y
noncomputable def sp_slices_Index___string_string_ (n : Nat) : Go.Eng.Spec := ⟨fun f vs sg => (match f with
    | _ => none), fun R key E sg K => (match key with
    | 2 => l_slices_Index___string_string__2_S n R E sg K
    | _ => none)⟩
theorem sp_slices_Index___string_string__ok (n : Nat) : CallsOk Tryd.prog (sp_slices_Index___string_string_ n) := by
  intro f vs sg cm x h hx
  have h : (none : Option CallM) = some cm := h
  cases h
theorem code_slices_Index___string_string__fn : Tryd.prog.funcs[61]? = some Tryd.f61 := Tryd.func61
theorem code_slices_Index___string_string__body : Tryd.f61.body = some code_slices_Index___string_string_ := by kernel_rfl
theorem code_slices_Index___string_string__ok : CodeOk Tryd.prog code_slices_Index___string_string_ := (sound 61 _ _ code_slices_Index___string_string__fn code_slices_Index___string_string__body).1
noncomputable def code_l_slices_Index___string_string__2 : Code := (loopsOf code_slices_Index___string_string_).getD 0 .skip
theorem code_l_slices_Index___string_string__2_ok : CodeOk Tryd.prog code_l_slices_Index___string_string__2 := codeOk_loops code_slices_Index___string_string__ok _ (getD_mem (by kernel_rfl))
def l_slices_Index___string_string__2_K (k : (List T) × ByteArray × Int × Int → Option (((Int) ⊕ Unit))) : Ex → SEnv → Sig → Option (((Int) ⊕ Unit)) := fun x E sg => match x with
  | .normal => Option.bind (V.lstOf (SEnv.at E 0)) fun u0 => Option.bind (V.strOf (SEnv.at E 1)) fun u1 => Option.bind (V.intOf .i64 (SEnv.at E 7)) fun u2 => Option.bind (V.intOf .i64 (SEnv.at E 8)) fun u3 => k (u0, u1, u2, u3)
  | .ret => Option.bind (V.intOf .i64 (SEnv.at E 4)) fun u0 => some (Sum.inl u0)
  | (.exit 0) => some (Sum.inr ())
  | _ => none
theorem l_slices_Index___string_string__2_eq (n : Nat) (k : (List T) × ByteArray × Int × Int → Option (((Int) ⊕ Unit))) (s0 : List T) (s1 : ByteArray) (s2 : Int) (s3 : Int) : mX Tryd.prog (sp_slices_Index___string_string_ n) 19 code_l_slices_Index___string_string__2 [(0, (V.t (T.list s0))), (1, (V.t (T.sc (.string s1)))), (7, (V.t (T.sc (.int .i64 s2)))), (8, (V.t (T.sc (.int .i64 s3))))] [] (l_slices_Index___string_string__2_K k) = l_slices_Index___string_string__2_B n k (s0, s1, s2, s3) := by kernel_rfl
def l_slices_Index___string_string__2_Q (x : ((Int) ⊕ Unit)) (ex : Ex) (e : Env) (s : Sig) : Prop := Sum.elim (fun p0 => (ex = .ret ∧ e = SEnv.env 19 [(4, (V.t (T.sc (.int .i64 p0))))] ∧ s = [])) (fun x' => (fun p1 => (ex = (.exit 0) ∧ e = SEnv.env 19 [] ∧ s = [])) x') x
theorem l_slices_Index___string_string__2_run (n : Nat) : ∀ (m : Nat) (s0 : List T) (s1 : ByteArray) (s2 : Int) (s3 : Int) (x : ((Int) ⊕ Unit)), l_slices_Index___string_string__2 n m (s0, s1, s2, s3) = some x → SemL Tryd.prog 0 code_l_slices_Index___string_string__2 (SEnv.env 19 [(0, (V.t (T.list s0))), (1, (V.t (T.sc (.string s1)))), (7, (V.t (T.sc (.int .i64 s2)))), (8, (V.t (T.sc (.int .i64 s3))))]) [] (l_slices_Index___string_string__2_Q x)
  | 0, s0, s1, s2, s3, x, h => by cases h
  | m + 1, s0, s1, s2, s3, x, h => by
    refine loop_step (sp_slices_Index___string_string__ok n) code_l_slices_Index___string_string__2_ok (fun a ha => absurd ha (by rw [show loopsOf code_l_slices_Index___string_string__2 = [] from by kernel_rfl]; simp)) (no_scope (by kernel_rfl)) ((l_slices_Index___string_string__2_eq n _ s0 s1 s2 s3).trans h) (fun E sg h => ?_) (fun ex E sg hne h => ?_)
    · simp only [l_slices_Index___string_string__2_K] at h
      obtain ⟨u0, hu0, h⟩ := Option.bind_eq_some_iff.1 h
      obtain ⟨u1, hu1, h⟩ := Option.bind_eq_some_iff.1 h
      obtain ⟨u2, hu2, h⟩ := Option.bind_eq_some_iff.1 h
      obtain ⟨u3, hu3, h⟩ := Option.bind_eq_some_iff.1 h
      exact SemL.pre (k := 0) (by decide) (WkA.env (WkA.cons (lstOf_wk hu0) rfl (WkA.cons (strOf_wk hu1) rfl (WkA.cons (intOf_wk hu2) rfl (WkA.cons (intOf_wk hu3) rfl WkA.nil)))) 19) (WkS.none _) (l_slices_Index___string_string__2_run n m _ _ _ _ x h)
    · unfold l_slices_Index___string_string__2_K at h
      split at h
      · exact absurd rfl hne
      · obtain ⟨u0, hu0, h⟩ := Option.bind_eq_some_iff.1 h
        simp only [Option.some.injEq] at h
        subst h
        exact ⟨0, _, _, by decide, WkA.env (WkA.cons (intOf_wk hu0) rfl WkA.nil) 19, (WkS.none _), rfl, rfl, rfl⟩
      · simp only [Option.some.injEq] at h
        subst h
        exact ⟨0, _, _, by decide, WkA.env WkA.nil 19, (WkS.none _), rfl, rfl, rfl⟩
      · cases h
theorem l_slices_Index___string_string__2_ok (n : Nat) : LoopOk Tryd.prog (sp_slices_Index___string_string_ n) 0 19 code_l_slices_Index___string_string__2 := by
    intro R key E sg K r hk h
    rw [show Go.Eng.keyOf code_l_slices_Index___string_string__2 = some 2 from by kernel_rfl] at hk
    cases hk
    have h : l_slices_Index___string_string__2_S n R E sg K = some r := h
    unfold l_slices_Index___string_string__2_S at h
    obtain ⟨u0, hu0, h⟩ := Option.bind_eq_some_iff.1 h
    obtain ⟨u1, hu1, h⟩ := Option.bind_eq_some_iff.1 h
    obtain ⟨u2, hu2, h⟩ := Option.bind_eq_some_iff.1 h
    obtain ⟨u3, hu3, h⟩ := Option.bind_eq_some_iff.1 h
    obtain ⟨x, hx, h⟩ := Option.bind_eq_some_iff.1 h
    refine (SemL.pre (k := 0) (by decide) (WkA.env (WkA.cons (lstOf_wk hu0) rfl (WkA.cons (strOf_wk hu1) rfl (WkA.cons (intOf_wk hu2) rfl (WkA.cons (intOf_wk hu3) rfl WkA.nil)))) 19) (WkS.none _) (l_slices_Index___string_string__2_run n n _ _ _ _ x hx)).mono ?_
    intro ex e s hq
    rcases x with x | x <;> (obtain ⟨rfl, rfl, rfl⟩ := hq; exact ⟨_, rfl, h⟩) -- 5
def K_slices_Index___string_string_ (v : V) (s : Sig) : Option (Int) := Option.bind (V.intOf .i64 v) fun u0 => some u0
theorem K_slices_Index___string_string__wk {v : V} {s : Sig} {r : Int} (h : K_slices_Index___string_string_ v s = some r) : Wk v (enc_slices_Index___string_string_ r) ∧ WkS 0 s (encS_slices_Index___string_string_ r) := by
  unfold K_slices_Index___string_string_ at h
  obtain ⟨u0, hu0, h⟩ := Option.bind_eq_some_iff.1 h
  simp only [Option.some.injEq] at h
  subst h
  exact ⟨(intOf_wk hu0), (WkS.none _)⟩
theorem m_slices_Index___string_string__eq (n : Nat) (a0 : List T) (a1 : ByteArray) : mF Tryd.prog (sp_slices_Index___string_string_ n) 61 [(V.t (T.list a0)), (V.t (T.sc (.string a1)))] [] K_slices_Index___string_string_ = m_slices_Index___string_string_ n a0 a1 := by kernel_rfl
theorem m_slices_Index___string_string__ok (n : Nat) : ok_slices_Index___string_string_ (m_slices_Index___string_string_ n) := fun a0 a1 r h => mF_ok sound (sp_slices_Index___string_string__ok n) code_slices_Index___string_string__fn code_slices_Index___string_string__body (forall_getD (d := .skip) 1 (by kernel_rfl) (fun i hi => match i, hi with | 0, _ => l_slices_Index___string_string__2_ok n | i + 1, hi => absurd hi (by omega))) (no_scope (by kernel_rfl)) ((m_slices_Index___string_string__eq n a0 a1).trans h) (fun v s hk => ⟨(K_slices_Index___string_string__wk hk).1, rfl, (K_slices_Index___string_string__wk hk).2⟩)


/-! slices.Contains[[]string,string] -/
def m_slices_Contains___string_string_ (n : Nat) (a0 : List T) (a1 : ByteArray) : Option (Bool) :=
Option.bind (m_slices_Index___string_string_ n a0 a1) fun r0 =>
some (decide ((r0 : Int) ≥ 0))
def enc_slices_Contains___string_string_ (r : Bool) : V := (V.t (T.sc (.bool r)))
def encS_slices_Contains___string_string_ (r : Bool) : Sig := []
def ok_slices_Contains___string_string_ (m : List T → ByteArray → Option (Bool)) : Prop := ∀ (a0 : List T) (a1 : ByteArray) (r : Bool), m a0 a1 = some r → FuncOk Tryd.prog 47 [(V.t (T.list a0)), (V.t (T.sc (.string a1)))] [] (enc_slices_Contains___string_string_ r) (encS_slices_Contains___string_string_ r)
def c_slices_Contains___string_string_ (m : List T → ByteArray → Option (Bool)) (vs : List V) (sg : Sig) : Option CallM := bif Nat.beq vs.length 2 && Nat.beq sg.length 0 then Option.bind (V.lstOf (vs.getD 0 .any)) fun u0 => Option.bind (V.strOf (vs.getD 1 .any)) fun u1 => some { α := Bool, m := m u0 u1, dflt := false, enc := fun y => ((V.t (T.sc (.bool y))), []) } else none
theorem c_slices_Contains___string_string__ok (m : List T → ByteArray → Option (Bool)) (hm : ok_slices_Contains___string_string_ m) (vs : List V) (sg : Sig) (cm : CallM) (x : cm.α) (h : c_slices_Contains___string_string_ m vs sg = some cm) (hx : cm.m = some x) : FuncOk Tryd.prog 47 vs sg (cm.enc x).1 (cm.enc x).2 := by
  unfold c_slices_Contains___string_string_ at h
  have h0 := callee_sig h
  clear h
  obtain ⟨hl, hs, h⟩ := h0
  obtain ⟨u0, hu0, h⟩ := Option.bind_eq_some_iff.1 h
  obtain ⟨u1, hu1, h⟩ := Option.bind_eq_some_iff.1 h
  simp only [Option.some.injEq] at h
  subst h
  exact (hm u0 u1 x hx).wk (args_wk hl (.cons (lstOf_wk hu0) (.cons (strOf_wk hu1) .nil))) (wkSg_of hs .nil)
noncomputable def code_slices_Contains___string_string_ : Code := Tryd.f47.body.getD .skip
noncomputable def sp_slices_Contains___string_string_ (n : Nat) : Go.Eng.Spec := ⟨fun f vs sg => (match f with
    | 61 => c_slices_Index___string_string_ (m_slices_Index___string_string_ n) vs sg
    | _ => none), fun R key E sg K => (match key with
    | _ => none)⟩
theorem sp_slices_Contains___string_string__ok (n : Nat) : CallsOk Tryd.prog (sp_slices_Contains___string_string_ n) := by
  intro f vs sg cm x h hx
  simp only [sp_slices_Contains___string_string_] at h
  split at h
  · exact c_slices_Index___string_string__ok _ (m_slices_Index___string_string__ok n) vs sg cm x h hx
  · cases h
theorem code_slices_Contains___string_string__fn : Tryd.prog.funcs[47]? = some Tryd.f47 := Tryd.func47
theorem code_slices_Contains___string_string__body : Tryd.f47.body = some code_slices_Contains___string_string_ := by kernel_rfl
theorem code_slices_Contains___string_string__ok : CodeOk Tryd.prog code_slices_Contains___string_string_ := (sound 47 _ _ code_slices_Contains___string_string__fn code_slices_Contains___string_string__body).1
def K_slices_Contains___string_string_ (v : V) (s : Sig) : Option (Bool) := Option.bind (V.boolOf v) fun u0 => some u0
theorem K_slices_Contains___string_string__wk {v : V} {s : Sig} {r : Bool} (h : K_slices_Contains___string_string_ v s = some r) : Wk v (enc_slices_Contains___string_string_ r) ∧ WkS 0 s (encS_slices_Contains___string_string_ r) := by
  unfold K_slices_Contains___string_string_ at h
  obtain ⟨u0, hu0, h⟩ := Option.bind_eq_some_iff.1 h
  simp only [Option.some.injEq] at h
  subst h
  exact ⟨(boolOf_wk hu0), (WkS.none _)⟩
theorem m_slices_Contains___string_string__eq (n : Nat) (a0 : List T) (a1 : ByteArray) : mF Tryd.prog (sp_slices_Contains___string_string_ n) 47 [(V.t (T.list a0)), (V.t (T.sc (.string a1)))] [] K_slices_Contains___string_string_ = m_slices_Contains___string_string_ n a0 a1 := by kernel_rfl
theorem m_slices_Contains___string_string__ok (n : Nat) : ok_slices_Contains___string_string_ (m_slices_Contains___string_string_ n) := fun a0 a1 r h => mF_ok sound (sp_slices_Contains___string_string__ok n) code_slices_Contains___string_string__fn code_slices_Contains___string_string__body (fun a ha => absurd ha (by rw [show loopsOf code_slices_Contains___string_string_ = [] from by kernel_rfl]; simp)) (no_scope (by kernel_rfl)) ((m_slices_Contains___string_string__eq n a0 a1).trans h) (fun v s hk => ⟨(K_slices_Contains___string_string__wk hk).1, rfl, (K_slices_Contains___string_string__wk hk).2⟩)


/-! suture/lex.Keyword -/
def m_lex_Keyword (n : Nat) (a0 : ByteArray) : Option (Bool) :=
Option.bind (m_slices_Contains___string_string_ n [(T.sc (.string (⟨#[118, 97, 114]⟩ : ByteArray))), (T.sc (.string (⟨#[119, 105, 100, 101]⟩ : ByteArray))), (T.sc (.string (⟨#[97, 116, 111, 109, 105, 99]⟩ : ByteArray))), (T.sc (.string (⟨#[108, 111, 99, 97, 108]⟩ : ByteArray))), (T.sc (.string (⟨#[109, 117, 116, 101, 120]⟩ : ByteArray))), (T.sc (.string (⟨#[99, 104, 97, 110]⟩ : ByteArray))), (T.sc (.string (⟨#[103, 111]⟩ : ByteArray))), (T.sc (.string (⟨#[108, 111, 99, 107]⟩ : ByteArray))), (T.sc (.string (⟨#[117, 110, 108, 111, 99, 107]⟩ : ByteArray))), (T.sc (.string (⟨#[115, 101, 110, 100]⟩ : ByteArray))), (T.sc (.string (⟨#[114, 101, 99, 118]⟩ : ByteArray))), (T.sc (.string (⟨#[112, 114, 105, 110, 116]⟩ : ByteArray))), (T.sc (.string (⟨#[105, 102]⟩ : ByteArray))), (T.sc (.string (⟨#[101, 108, 115, 101]⟩ : ByteArray))), (T.sc (.string (⟨#[114, 101, 112, 101, 97, 116]⟩ : ByteArray))), (T.sc (.string (⟨#[103, 111, 116, 111]⟩ : ByteArray))), (T.sc (.string (⟨#[108, 97, 98, 101, 108]⟩ : ByteArray)))] a0) fun r0 =>
some r0
def enc_lex_Keyword (r : Bool) : V := (V.t (T.sc (.bool r)))
def encS_lex_Keyword (r : Bool) : Sig := []
def ok_lex_Keyword (m : ByteArray → Option (Bool)) : Prop := ∀ (a0 : ByteArray) (r : Bool), m a0 = some r → FuncOk Tryd.prog 27 [(V.t (T.sc (.string a0)))] [] (enc_lex_Keyword r) (encS_lex_Keyword r)
def c_lex_Keyword (m : ByteArray → Option (Bool)) (vs : List V) (sg : Sig) : Option CallM := bif Nat.beq vs.length 1 && Nat.beq sg.length 0 then Option.bind (V.strOf (vs.getD 0 .any)) fun u0 => some { α := Bool, m := m u0, dflt := false, enc := fun y => ((V.t (T.sc (.bool y))), []) } else none
theorem c_lex_Keyword_ok (m : ByteArray → Option (Bool)) (hm : ok_lex_Keyword m) (vs : List V) (sg : Sig) (cm : CallM) (x : cm.α) (h : c_lex_Keyword m vs sg = some cm) (hx : cm.m = some x) : FuncOk Tryd.prog 27 vs sg (cm.enc x).1 (cm.enc x).2 := by
  unfold c_lex_Keyword at h
  have h0 := callee_sig h
  clear h
  obtain ⟨hl, hs, h⟩ := h0
  obtain ⟨u0, hu0, h⟩ := Option.bind_eq_some_iff.1 h
  simp only [Option.some.injEq] at h
  subst h
  exact (hm u0 x hx).wk (args_wk hl (.cons (strOf_wk hu0) .nil)) (wkSg_of hs .nil)
noncomputable def code_lex_Keyword : Code := Tryd.f27.body.getD .skip
noncomputable def sp_lex_Keyword (n : Nat) : Go.Eng.Spec := ⟨fun f vs sg => (match f with
    | 47 => c_slices_Contains___string_string_ (m_slices_Contains___string_string_ n) vs sg
    | _ => none), fun R key E sg K => (match key with
    | _ => none)⟩
theorem sp_lex_Keyword_ok (n : Nat) : CallsOk Tryd.prog (sp_lex_Keyword n) := by
  intro f vs sg cm x h hx
  simp only [sp_lex_Keyword] at h
  split at h
  · exact c_slices_Contains___string_string__ok _ (m_slices_Contains___string_string__ok n) vs sg cm x h hx
  · cases h
theorem code_lex_Keyword_fn : Tryd.prog.funcs[27]? = some Tryd.f27 := Tryd.func27
theorem code_lex_Keyword_body : Tryd.f27.body = some code_lex_Keyword := by kernel_rfl
theorem code_lex_Keyword_ok : CodeOk Tryd.prog code_lex_Keyword := (sound 27 _ _ code_lex_Keyword_fn code_lex_Keyword_body).1
def K_lex_Keyword (v : V) (s : Sig) : Option (Bool) := Option.bind (V.boolOf v) fun u0 => some u0
theorem K_lex_Keyword_wk {v : V} {s : Sig} {r : Bool} (h : K_lex_Keyword v s = some r) : Wk v (enc_lex_Keyword r) ∧ WkS 0 s (encS_lex_Keyword r) := by
  unfold K_lex_Keyword at h
  obtain ⟨u0, hu0, h⟩ := Option.bind_eq_some_iff.1 h
  simp only [Option.some.injEq] at h
  subst h
  exact ⟨(boolOf_wk hu0), (WkS.none _)⟩
theorem m_lex_Keyword_eq (n : Nat) (a0 : ByteArray) : mF Tryd.prog (sp_lex_Keyword n) 27 [(V.t (T.sc (.string a0)))] [] K_lex_Keyword = m_lex_Keyword n a0 := by kernel_rfl
theorem m_lex_Keyword_ok (n : Nat) : ok_lex_Keyword (m_lex_Keyword n) := fun a0 r h => mF_ok sound (sp_lex_Keyword_ok n) code_lex_Keyword_fn code_lex_Keyword_body (fun a ha => absurd ha (by rw [show loopsOf code_lex_Keyword = [] from by kernel_rfl]; simp)) (no_scope (by kernel_rfl)) ((m_lex_Keyword_eq n a0).trans h) (fun v s hk => ⟨(K_lex_Keyword_wk hk).1, rfl, (K_lex_Keyword_wk hk).2⟩)


end Go.Proofs.YtkolhagejiabhaaDoor.W
