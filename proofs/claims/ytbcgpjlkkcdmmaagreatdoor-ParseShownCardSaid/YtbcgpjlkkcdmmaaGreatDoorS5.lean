/- What the engine's walk comes to, printed by a program of this work: for each function its model, and that it is one. No conditions. -/
import Derived.Test.YtbcgpjlkkcdmmaaGreatDoorS4
namespace Go.Proofs.YtbcgpjlkkcdmmaaGreatDoor.W
open Go Go.Eng
set_option linter.unusedVariables false
set_option linter.unusedSimpArgs false
set_option maxRecDepth 100000
noncomputable section
def f___parse_reader__stmt (b : B_z8) (n : Nat) (a0 : Int) (a1 : List T) (a2 : Int) (a3 : Bool) : Option (Int × ByteArray × ByteArray × Int × Int × Int × ByteArray × (List T) × (List T) × (List T) × (Nat × Nat) × (List T) × Int × Bool) :=
Option.bind (idx true [.int .i64, .str, .int .i64, .cplx .f64] a1 a2) fun y0 =>
bif (((y0.cell 0).int : Int) != 1) then (
Option.bind (m_z13 n a1 a2 a3) fun r1 =>
some (0, (⟨#[]⟩ : ByteArray), (⟨#[]⟩ : ByteArray), 0, 0, 0, (⟨#[]⟩ : ByteArray), ([] : List T), ([] : List T), ([] : List T), ((y0.cell 3).re, (y0.cell 3).im), r1.1, r1.2.1, r1.2.2))
else (
Option.bind (m_z51 n (y0.cell 1).str) fun r2 =>
bif r2 then (
Option.bind (m_z15 n a1 a2 a3) fun r3 =>
Option.bind (m_z14 n (⟨#[61]⟩ : ByteArray) r3.2.1 r3.2.2.1 r3.2.2.2) fun r4 =>
Option.bind (m_z12 n r4.1 r4.2.1 r4.2.2) fun r5 =>
some (1, r3.1, (⟨#[]⟩ : ByteArray), 0, r5.1, r5.2.1, r5.2.2.1, r5.2.2.2.1, ([] : List T), ([] : List T), ((y0.cell 3).re, (y0.cell 3).im), r5.2.2.2.2.1, r5.2.2.2.2.2.1, r5.2.2.2.2.2.2))
else (
bif (ByteArray.toList (y0.cell 1).str == ByteArray.toList (⟨#[108, 111, 99, 107]⟩ : ByteArray)) then (
Option.bind (m_z15 n a1 (IntKind.wrap .i64 (a2 + 1)) a3) fun r6 =>
some (2, r6.1, (⟨#[]⟩ : ByteArray), 0, 0, 0, (⟨#[]⟩ : ByteArray), ([] : List T), ([] : List T), ([] : List T), ((y0.cell 3).re, (y0.cell 3).im), r6.2.1, r6.2.2.1, r6.2.2.2))
else (
bif (ByteArray.toList (y0.cell 1).str == ByteArray.toList (⟨#[117, 110, 108, 111, 99, 107]⟩ : ByteArray)) then (
Option.bind (m_z15 n a1 (IntKind.wrap .i64 (a2 + 1)) a3) fun r7 =>
some (3, r7.1, (⟨#[]⟩ : ByteArray), 0, 0, 0, (⟨#[]⟩ : ByteArray), ([] : List T), ([] : List T), ([] : List T), ((y0.cell 3).re, (y0.cell 3).im), r7.2.1, r7.2.2.1, r7.2.2.2))
else (
bif (ByteArray.toList (y0.cell 1).str == ByteArray.toList (⟨#[115, 101, 110, 100]⟩ : ByteArray)) then (
Option.bind (m_z15 n a1 (IntKind.wrap .i64 (a2 + 1)) a3) fun r8 =>
Option.bind (m_z12 n r8.2.1 r8.2.2.1 r8.2.2.2) fun r9 =>
some (4, r8.1, (⟨#[]⟩ : ByteArray), 0, r9.1, r9.2.1, r9.2.2.1, r9.2.2.2.1, ([] : List T), ([] : List T), ((y0.cell 3).re, (y0.cell 3).im), r9.2.2.2.2.1, r9.2.2.2.2.2.1, r9.2.2.2.2.2.2))
else (
bif (ByteArray.toList (y0.cell 1).str == ByteArray.toList (⟨#[114, 101, 99, 118]⟩ : ByteArray)) then (
Option.bind (m_z15 n a1 (IntKind.wrap .i64 (a2 + 1)) a3) fun r10 =>
Option.bind (m_z15 n r10.2.1 r10.2.2.1 r10.2.2.2) fun r11 =>
some (5, r10.1, r11.1, 0, 0, 0, (⟨#[]⟩ : ByteArray), ([] : List T), ([] : List T), ([] : List T), ((y0.cell 3).re, (y0.cell 3).im), r11.2.1, r11.2.2.1, r11.2.2.2))
else (
bif (ByteArray.toList (y0.cell 1).str == ByteArray.toList (⟨#[112, 114, 105, 110, 116]⟩ : ByteArray)) then (
Option.bind (m_z12 n a1 (IntKind.wrap .i64 (a2 + 1)) a3) fun r12 =>
some (6, (⟨#[]⟩ : ByteArray), (⟨#[]⟩ : ByteArray), 0, r12.1, r12.2.1, r12.2.2.1, r12.2.2.2.1, ([] : List T), ([] : List T), ((y0.cell 3).re, (y0.cell 3).im), r12.2.2.2.2.1, r12.2.2.2.2.2.1, r12.2.2.2.2.2.2))
else (
bif (ByteArray.toList (y0.cell 1).str == ByteArray.toList (⟨#[105, 102]⟩ : ByteArray)) then (
Option.bind (m_z12 n a1 (IntKind.wrap .i64 (a2 + 1)) a3) fun r13 =>
Option.bind (b.y2 a0 r13.2.2.2.2.1 r13.2.2.2.2.2.1 r13.2.2.2.2.2.2) fun r14 =>
Option.bind (m_z21 n (⟨#[101, 108, 115, 101]⟩ : ByteArray) r14.2.1 r14.2.2.1 r14.2.2.2) fun r15 =>
bif r15.1 then (
Option.bind (b.y2 a0 r15.2.1 (IntKind.wrap .i64 (r15.2.2.1 + 1)) r15.2.2.2) fun r16 =>
some (7, (⟨#[]⟩ : ByteArray), (⟨#[]⟩ : ByteArray), 0, r13.1, r13.2.1, r13.2.2.1, r13.2.2.2.1, r14.1, r16.1, ((y0.cell 3).re, (y0.cell 3).im), r16.2.1, r16.2.2.1, r16.2.2.2))
else (
some (7, (⟨#[]⟩ : ByteArray), (⟨#[]⟩ : ByteArray), 0, r13.1, r13.2.1, r13.2.2.1, r13.2.2.2.1, r14.1, ([] : List T), ((y0.cell 3).re, (y0.cell 3).im), r15.2.1, r15.2.2.1, r15.2.2.2)))
else (
bif (ByteArray.toList (y0.cell 1).str == ByteArray.toList (⟨#[114, 101, 112, 101, 97, 116]⟩ : ByteArray)) then (
Option.bind (m_z7 n 9 a1 (IntKind.wrap .i64 (a2 + 1)) a3) fun r17 =>
Option.bind (b.y2 a0 r17.2.1 r17.2.2.1 r17.2.2.2) fun r18 =>
some (8, (⟨#[]⟩ : ByteArray), (⟨#[]⟩ : ByteArray), r17.1, 0, 0, (⟨#[]⟩ : ByteArray), ([] : List T), r18.1, ([] : List T), ((y0.cell 3).re, (y0.cell 3).im), r18.2.1, r18.2.2.1, r18.2.2.2))
else (
bif (ByteArray.toList (y0.cell 1).str == ByteArray.toList (⟨#[103, 111, 116, 111]⟩ : ByteArray)) then (
Option.bind (m_z15 n a1 (IntKind.wrap .i64 (a2 + 1)) a3) fun r19 =>
some (9, r19.1, (⟨#[]⟩ : ByteArray), 0, 0, 0, (⟨#[]⟩ : ByteArray), ([] : List T), ([] : List T), ([] : List T), ((y0.cell 3).re, (y0.cell 3).im), r19.2.1, r19.2.2.1, r19.2.2.2))
else (
bif (ByteArray.toList (y0.cell 1).str == ByteArray.toList (⟨#[108, 97, 98, 101, 108]⟩ : ByteArray)) then (
Option.bind (m_z15 n a1 (IntKind.wrap .i64 (a2 + 1)) a3) fun r20 =>
some (10, r20.1, (⟨#[]⟩ : ByteArray), 0, 0, 0, (⟨#[]⟩ : ByteArray), ([] : List T), ([] : List T), ([] : List T), ((y0.cell 3).re, (y0.cell 3).im), r20.2.1, r20.2.2.1, r20.2.2.2))
else (
Option.bind (m_z13 n a1 (IntKind.wrap .i64 ((IntKind.wrap .i64 (a2 + 1)) - 1)) a3) fun r21 =>
some (0, (⟨#[]⟩ : ByteArray), (⟨#[]⟩ : ByteArray), 0, 0, 0, (⟨#[]⟩ : ByteArray), ([] : List T), ([] : List T), ([] : List T), ((y0.cell 3).re, (y0.cell 3).im), r21.1, r21.2.1, r21.2.2))))))))))))
def code___parse_reader__stmt : Code := Tryz.f118.body.getD .skip
def sp___parse_reader__stmt (b : B_z8) (n : Nat) : Go.Eng.Spec := ⟨fun f vs sg => (match f with
  | 79 => c_z13 (m_z13 n) vs sg
  | 150 => c_z51 (m_z51 n) vs sg
  | 114 => c_z15 (m_z15 n) vs sg
  | 80 => c_z14 (m_z14 n) vs sg
  | 151 => c_z12 (m_z12 n) vs sg
  | 81 => c_z8 b.y2 vs sg
  | 117 => c_z21 (m_z21 n) vs sg
  | 115 => c_z7 (m_z7 n) vs sg
  | _ => none), fun R key E sg K => (match key with
  | _ => none)⟩
theorem sp___parse_reader__stmt_ok (b : B_z8) (hb : B_z8_ok b) (n : Nat) : CallsOk Tryz.prog (sp___parse_reader__stmt b n) := by
 intro f vs sg cm x h hx
 simp only [sp___parse_reader__stmt] at h
 split at h
 ·exact c_z13_ok _ (m_z13_ok n) vs sg cm x h hx
 ·exact c_z51_ok _ (m_z51_ok n) vs sg cm x h hx
 ·exact c_z15_ok _ (m_z15_ok n) vs sg cm x h hx
 ·exact c_z14_ok _ (m_z14_ok n) vs sg cm x h hx
 ·exact c_z12_ok _ (m_z12_ok n) vs sg cm x h hx
 ·exact c_z8_ok _ hb.y2 vs sg cm x h hx
 ·exact c_z21_ok _ (m_z21_ok n) vs sg cm x h hx
 ·exact c_z7_ok _ (m_z7_ok n) vs sg cm x h hx
 ·cases h
theorem code___parse_reader__stmt_fn : Tryz.prog.funcs[118]? = some Tryz.f118 := Tryz.func118
theorem code___parse_reader__stmt_body : Tryz.f118.body = some code___parse_reader__stmt := by kernel_rfl
def K___parse_reader__stmt (v : V) (s : Sig) : Option (Int × ByteArray × ByteArray × Int × Int × Int × ByteArray × (List T) × (List T) × (List T) × (Nat × Nat) × (List T) × Int × Bool) := Option.bind (V.aggN 11 v) fun u0 => Option.bind (V.intOf .i64 (u0.getD 0 .any)) fun u1 => Option.bind (V.strOf (u0.getD 1 .any)) fun u2 => Option.bind (V.strOf (u0.getD 2 .any)) fun u3 => Option.bind (V.intOf .i64 (u0.getD 3 .any)) fun u4 => Option.bind (V.intOf .i64 (u0.getD 4 .any)) fun u5 => Option.bind (V.intOf .i64 (u0.getD 5 .any)) fun u6 => Option.bind (V.strOf (u0.getD 6 .any)) fun u7 => Option.bind (V.lstOf (u0.getD 7 .any)) fun u8 => Option.bind (V.lstOf (u0.getD 8 .any)) fun u9 => Option.bind (V.lstOf (u0.getD 9 .any)) fun u10 => Option.bind (V.cplxOf .f64 (u0.getD 10 .any)) fun u11 => Option.bind (cellsN 3 s 0) fun g0 => Option.bind (V.lstOf (g0.getD 0 .any)) fun g1 => Option.bind (V.intOf .i64 (g0.getD 1 .any)) fun g2 => Option.bind (V.boolOf (g0.getD 2 .any)) fun g3 => some (u1, u2, u3, u4, u5, u6, u7, u8, u9, u10, u11, g1, g2, g3)
theorem K___parse_reader__stmt_wk {v : V} {s : Sig} {r : Int × ByteArray × ByteArray × Int × Int × Int × ByteArray × (List T) × (List T) × (List T) × (Nat × Nat) × (List T) × Int × Bool} (h : K___parse_reader__stmt v s = some r) : Wk v (enc___parse_reader__stmt r) /\ WkS 1 s (encS___parse_reader__stmt r) := by
 unfold K___parse_reader__stmt at h
 obtain ⟨u0, hu0, u1, hu1, u2, hu2, u3, hu3, h⟩ := ob4 h
 obtain ⟨u4, hu4, u5, hu5, u6, hu6, u7, hu7, h⟩ := ob4 h
 obtain ⟨u8, hu8, u9, hu9, u10, hu10, u11, hu11, h⟩ := ob4 h
 obtain ⟨g0, hg0, g1, hg1, g2, hg2, g3, hg3, h⟩ := ob4 h
 cases h
 exact ⟨(aggN_wk hu0 (.cons (iW hu1) (.cons (sW hu2) (.cons (sW hu3) (.cons (iW hu4) (.cons (iW hu5) (.cons (iW hu6) (.cons (sW hu7) (.cons (lW hu8) (.cons (lW hu9) (.cons (lW hu10) (.cons (xW hu11) .nil)))))))))))), (wkR_sig (WkR.cons (nW hg0 (.cons (lW hg1) (.cons (iW hg2) (.cons (bW hg3) .nil)))).1 (nW hg0 (.cons (lW hg1) (.cons (iW hg2) (.cons (bW hg3) .nil)))).2 (renL_mem (.cons rfl (.cons rfl (.cons rfl .nil)))) (WkR.nil _)) rfl)⟩
theorem f___parse_reader__stmt_eq (b : B_z8) (n : Nat) (a0 : Int) (a1 : List T) (a2 : Int) (a3 : Bool) : mF Tryz.prog (sp___parse_reader__stmt b n) 118 [(V.ptr 0 0), (V.t (T.sc (.int .i64 a0)))] [some [(V.t (T.list a1)), (V.t (T.sc (.int .i64 a2))), (V.t (T.sc (.bool a3)))]] K___parse_reader__stmt = f___parse_reader__stmt b n a0 a1 a2 a3 := by kernel_rfl
theorem f___parse_reader__stmt_ok (b : B_z8) (hb : B_z8_ok b) (n : Nat) : ok___parse_reader__stmt (f___parse_reader__stmt b n) := fun a0 a1 a2 a3 r h => mF_ok sound (sp___parse_reader__stmt_ok b hb n) code___parse_reader__stmt_fn code___parse_reader__stmt_body (nl (by kernel_rfl)) (no_scope (by kernel_rfl)) ((f___parse_reader__stmt_eq b n a0 a1 a2 a3).trans h) (fun v s hk => ⟨(K___parse_reader__stmt_wk hk).1, rfl, (K___parse_reader__stmt_wk hk).2⟩)
def unB_z8 (n : Nat) : Nat -> B_z8
 | 0 => { y2 := fun _ _ _ _ => none, y3 := fun _ _ _ _ => none }
 | m + 1 => { y2 := f_z8 (unB_z8 n m) n, y3 := f___parse_reader__stmt (unB_z8 n m) n }
theorem unB_z8_ok (n : Nat) : ∀ m, B_z8_ok (unB_z8 n m)
 | 0 => { y2 := fun _ _ _ _ _ h => (nomatch (show none = some _ from h)), y3 := fun _ _ _ _ _ h => (nomatch (show none = some _ from h)) }
 | m + 1 => { y2 := f_z8_ok _ (unB_z8_ok n m) n, y3 := f___parse_reader__stmt_ok _ (unB_z8_ok n m) n }
def m_z8 (n : Nat) : Int -> List T -> Int -> Bool -> Option ((List T) × (List T) × Int × Bool) := (unB_z8 n n).y2
theorem m_z8_ok (n : Nat) : ok_z8 (m_z8 n) := (unB_z8_ok n n).y2
def m_z0 (n : Nat) (a0 : List T) : Option ((List T)) :=
must true (decide (0 <= 0) && decide (0 <= ((List.length a0 : Nat) : Int)) && decide (((List.length a0 : Nat) : Int) <= ((List.length a0 : Nat) : Int)) && sized 1 a0) (must true (decide (((List.length a0 : Nat) : Int) = ((List.length a0 : Nat) : Int))) (some (List.drop (Int.toNat 0) (List.take (Int.toNat ((List.length a0 : Nat) : Int)) a0))))
def enc_z0 (r : (List T)) : V := (V.own 1 r)
def encS_z0 (r : (List T)) : Sig := []
def ok_z0 (m : List T -> Option ((List T))) : Prop := ∀ (a0 : List T) (r : (List T)), m a0 = some r -> FuncOk Tryz.prog 82 [(V.t (T.list a0))] [] (enc_z0 r) (encS_z0 r)
def c_z0 (m : List T -> Option ((List T))) (vs : List V) (sg : Sig) : Option CallM := bif Nat.beq vs.length 1 && Nat.beq sg.length 0 then Option.bind (V.lstOf (vs.getD 0 .any)) fun u0 => some { α := (List T), m := m u0, dflt := [], enc := fun y => ((V.own 1 y), []) } else none
theorem c_z0_ok (m : List T -> Option ((List T))) (hm : ok_z0 m) (vs : List V) (sg : Sig) (cm : CallM) (x : cm.α) (h : c_z0 m vs sg = some cm) (hx : cm.m = some x) : FuncOk Tryz.prog 82 vs sg (cm.enc x).1 (cm.enc x).2 := by
 unfold c_z0 at h
 obtain ⟨hl, hs, h⟩ := callee_sig h
 obtain ⟨u0, hu0, h⟩ := ob h
 cases h
 exact (hm u0 x hx).wk (args_wk hl (.cons (lW hu0) .nil)) (wkSg_of hs .nil)
def code_z0 : Code := Tryz.f82.body.getD .skip
def sp_z0 (n : Nat) : Go.Eng.Spec := ⟨fun f vs sg => (match f with
  | _ => none), fun R key E sg K => (match key with
  | _ => none)⟩
theorem sp_z0_ok (n : Nat) : CallsOk Tryz.prog (sp_z0 n) := by
 intro f vs sg cm x h hx
 have h : (none : Option CallM) = some cm := h
 cases h
theorem code_z0_fn : Tryz.prog.funcs[82]? = some Tryz.f82 := Tryz.func82
theorem code_z0_body : Tryz.f82.body = some code_z0 := by kernel_rfl
def K_z0 (v : V) (s : Sig) : Option ((List T)) := Option.bind (V.ownOf 1 v) fun u0 => some u0
theorem K_z0_wk {v : V} {s : Sig} {r : (List T)} (h : K_z0 v s = some r) : Wk v (enc_z0 r) /\ WkS 0 s (encS_z0 r) := by
 unfold K_z0 at h
 obtain ⟨u0, hu0, h⟩ := ob h
 cases h
 exact ⟨(oW hu0), (WkS.none _)⟩
theorem m_z0_eq (n : Nat) (a0 : List T) : mF Tryz.prog (sp_z0 n) 82 [(V.t (T.list a0))] [] K_z0 = m_z0 n a0 := by kernel_rfl
theorem m_z0_ok (n : Nat) : ok_z0 (m_z0 n) := fun a0 r h => mF_ok sound (sp_z0_ok n) code_z0_fn code_z0_body (nl (by kernel_rfl)) (no_scope (by kernel_rfl)) ((m_z0_eq n a0).trans h) (fun v s hk => ⟨(K_z0_wk hk).1, rfl, (K_z0_wk hk).2⟩)
def l_z16_2_B (n : Nat) (k : (List T) × Int × Bool × (List T) × (List T) × (List T) × (List T) -> Option ((List T) × Int × Bool × (List T) × (List T) × (List T) × (List T))) : (List T) × Int × Bool × (List T) × (List T) × (List T) × (List T) -> Option ((List T) × Int × Bool × (List T) × (List T) × (List T) × (List T)) := fun (s0, s1, s2, s3, s4, s5, s6) =>
Option.bind (idx (((!s2) && !((((List.length s6 : Nat) : Int) : Int) == 0))) [.int .i64, .str, .int .i64, .cplx .f64] s0 s1) fun y1 =>
bif (bif (!s2) then (bif ((((List.length s6 : Nat) : Int) : Int) == 0) then true else (((y1.cell 0).int : Int) != 4)) else false) then (
bif ((((List.length s6 : Nat) : Int) : Int) == 4) then (
Option.bind (m_z13 n s0 s1 s2) fun r2 =>
Option.bind (m_z14 n (⟨#[103, 111]⟩ : ByteArray) r2.1 r2.2.1 r2.2.2) fun r3 =>
Option.bind (m_z8 n 0 r3.1 r3.2.1 r3.2.2) fun r4 =>
must true ((Nat.beq 1 1 || Nat.beq 1 0) && (decide (List.length s6 + List.length [(T.list r4.1)] <= 1073741824) && sized 1 [(T.list r4.1)])) (k (r4.2.1, r4.2.2.1, r4.2.2.2, s3, s4, s5, (s6 ++ [(T.list r4.1)]))))
else (
Option.bind (m_z14 n (⟨#[103, 111]⟩ : ByteArray) s0 s1 s2) fun r5 =>
Option.bind (m_z8 n 0 r5.1 r5.2.1 r5.2.2) fun r6 =>
must true ((Nat.beq 1 1 || Nat.beq 1 0) && (decide (List.length s6 + List.length [(T.list r6.1)] <= 1073741824) && sized 1 [(T.list r6.1)])) (k (r6.2.1, r6.2.2.1, r6.2.2.2, s3, s4, s5, (s6 ++ [(T.list r6.1)])))))
else (
some (s0, s1, s2, s3, s4, s5, s6))
def l_z16_2 (n : Nat) : Nat -> (List T) × Int × Bool × (List T) × (List T) × (List T) × (List T) -> Option ((List T) × Int × Bool × (List T) × (List T) × (List T) × (List T))
 | 0, _ => none
 | m + 1, s => l_z16_2_B n (l_z16_2 n m) s
def m_z16 (n : Nat) (a0 : List T) (a1 : Int) (a2 : Bool) : Option ((List T) × (List T) × (List T) × Int × Bool) :=
Option.bind (m_z9 n a0 a1 a2) fun r0 =>
Option.bind (l_z16_2 n n (r0.2.1, r0.2.2.1, r0.2.2.2, ([] : List T), ([] : List T), r0.1, ([] : List T))) fun p8 =>
Option.bind (m_z0 n p8.2.2.2.2.2.2) fun r9 =>
some (p8.2.2.2.2.2.1, r9, p8.1, p8.2.1, p8.2.2.1)
def enc_z16 (r : (List T) × (List T) × (List T) × Int × Bool) : V := (V.agg [(V.t (T.list r.1)), (V.t (T.list r.2.1))])
def encS_z16 (r : (List T) × (List T) × (List T) × Int × Bool) : Sig := [some [(V.t (T.list r.2.2.1)), (V.t (T.sc (.int .i64 r.2.2.2.1))), (V.t (T.sc (.bool r.2.2.2.2)))]]
def ok_z16 (m : List T -> Int -> Bool -> Option ((List T) × (List T) × (List T) × Int × Bool)) : Prop := ∀ (a0 : List T) (a1 : Int) (a2 : Bool) (r : (List T) × (List T) × (List T) × Int × Bool), m a0 a1 a2 = some r -> FuncOk Tryz.prog 42 [(V.ptr 0 0)] [some [(V.t (T.list a0)), (V.t (T.sc (.int .i64 a1))), (V.t (T.sc (.bool a2)))]] (enc_z16 r) (encS_z16 r)
def c_z16 (m : List T -> Int -> Bool -> Option ((List T) × (List T) × (List T) × Int × Bool)) (vs : List V) (sg : Sig) : Option CallM := bif Nat.beq vs.length 1 && Nat.beq sg.length 1 then Option.bind (V.ptrOf 0 0 (vs.getD 0 .any)) fun u0 => Option.bind (cellsN 3 sg 0) fun g0 => Option.bind (V.lstOf (g0.getD 0 .any)) fun g1 => Option.bind (V.intOf .i64 (g0.getD 1 .any)) fun g2 => Option.bind (V.boolOf (g0.getD 2 .any)) fun g3 => some { α := (List T) × (List T) × (List T) × Int × Bool, m := m g1 g2 g3, dflt := ([], [], [], 0, false), enc := fun y => ((V.agg [(V.t (T.list y.1)), (V.t (T.list y.2.1))]), [some [(V.t (T.list y.2.2.1)), (V.t (T.sc (.int .i64 y.2.2.2.1))), (V.t (T.sc (.bool y.2.2.2.2)))]]) } else none
theorem c_z16_ok (m : List T -> Int -> Bool -> Option ((List T) × (List T) × (List T) × Int × Bool)) (hm : ok_z16 m) (vs : List V) (sg : Sig) (cm : CallM) (x : cm.α) (h : c_z16 m vs sg = some cm) (hx : cm.m = some x) : FuncOk Tryz.prog 42 vs sg (cm.enc x).1 (cm.enc x).2 := by
 unfold c_z16 at h
 obtain ⟨hl, hs, h⟩ := callee_sig h
 obtain ⟨u0, hu0, g0, hg0, g1, hg1, g2, hg2, h⟩ := ob4 h
 obtain ⟨g3, hg3, h⟩ := ob h
 cases h
 exact (hm g1 g2 g3 x hx).wk (args_wk hl (.cons (pW hu0) .nil)) (wkSg_of hs (.cons (nW hg0 (.cons (lW hg1) (.cons (iW hg2) (.cons (bW hg3) .nil)))) .nil))
def code_z16 : Code := Tryz.f42.body.getD .skip
def l_z16_2_S (n : Nat) (R : Type) (E : SEnv) (sg : Sig) (K : Ex -> SEnv -> Sig -> Option R) : Option R := Option.bind (V.ptrOf 0 0 (SEnv.at E 0)) fun u0 => Option.bind (V.ptrOf 1 0 (SEnv.at E 2)) fun u1 => Option.bind (V.ptrOf 2 0 (SEnv.at E 3)) fun u2 => Option.bind (cellsN 3 sg 0) fun u3 => Option.bind (V.lstOf (u3.getD 0 .any)) fun u4 => Option.bind (V.intOf .i64 (u3.getD 1 .any)) fun u5 => Option.bind (V.boolOf (u3.getD 2 .any)) fun u6 => Option.bind (cellsN 2 sg 1) fun u7 => Option.bind (V.ownOf 0 (u7.getD 0 .any)) fun u8 => Option.bind (V.ownOf 0 (u7.getD 1 .any)) fun u9 => Option.bind (cellsN 2 sg 2) fun u10 => Option.bind (V.lstOf (u10.getD 0 .any)) fun u11 => Option.bind (V.ownOf 1 (u10.getD 1 .any)) fun u12 => Option.bind (l_z16_2 n n (u4, u5, u6, u8, u9, u11, u12)) fun p0 => K (.exit 0) [(2, (V.ptr 1 0)), (3, (V.ptr 2 0))] [some [(V.t (T.list p0.1)), (V.t (T.sc (.int .i64 p0.2.1))), (V.t (T.sc (.bool p0.2.2.1)))], some [(V.own 0 p0.2.2.2.1), (V.own 0 p0.2.2.2.2.1)], some [(V.t (T.list p0.2.2.2.2.2.1)), (V.own 1 p0.2.2.2.2.2.2)]]
def sp_z16 (n : Nat) : Go.Eng.Spec := ⟨fun f vs sg => (match f with
  | 78 => c_z9 (m_z9 n) vs sg
  | 79 => c_z13 (m_z13 n) vs sg
  | 80 => c_z14 (m_z14 n) vs sg
  | 81 => c_z8 (m_z8 n) vs sg
  | 82 => c_z0 (m_z0 n) vs sg
  | _ => none), fun R key E sg K => (match key with
  | 2 => l_z16_2_S n R E sg K
  | _ => none)⟩
theorem sp_z16_ok (n : Nat) : CallsOk Tryz.prog (sp_z16 n) := by
 intro f vs sg cm x h hx
 simp only [sp_z16] at h
 split at h
 ·exact c_z9_ok _ (m_z9_ok n) vs sg cm x h hx
 ·exact c_z13_ok _ (m_z13_ok n) vs sg cm x h hx
 ·exact c_z14_ok _ (m_z14_ok n) vs sg cm x h hx
 ·exact c_z8_ok _ (m_z8_ok n) vs sg cm x h hx
 ·exact c_z0_ok _ (m_z0_ok n) vs sg cm x h hx
 ·cases h
theorem code_z16_fn : Tryz.prog.funcs[42]? = some Tryz.f42 := Tryz.func42
theorem code_z16_body : Tryz.f42.body = some code_z16 := by kernel_rfl
theorem code_z16_ok : CodeOk Tryz.prog code_z16 := (sound 42 _ _ code_z16_fn code_z16_body).1
def code_l_z16_2 : Code := (loopsOf code_z16).getD 0 .skip
theorem code_l_z16_2_ok : CodeOk Tryz.prog code_l_z16_2 := codeOk_loops code_z16_ok _ (getD_mem (by kernel_rfl))
def l_z16_2_K (k : (List T) × Int × Bool × (List T) × (List T) × (List T) × (List T) -> Option ((List T) × Int × Bool × (List T) × (List T) × (List T) × (List T))) : Ex -> SEnv -> Sig -> Option ((List T) × Int × Bool × (List T) × (List T) × (List T) × (List T)) := fun x E sg => match x with
 | .normal => Option.bind (V.ptrOf 0 0 (SEnv.at E 0)) fun u0 => Option.bind (V.ptrOf 1 0 (SEnv.at E 2)) fun u1 => Option.bind (V.ptrOf 2 0 (SEnv.at E 3)) fun u2 => Option.bind (cellsN 3 sg 0) fun u3 => Option.bind (V.lstOf (u3.getD 0 .any)) fun u4 => Option.bind (V.intOf .i64 (u3.getD 1 .any)) fun u5 => Option.bind (V.boolOf (u3.getD 2 .any)) fun u6 => Option.bind (cellsN 2 sg 1) fun u7 => Option.bind (V.ownOf 0 (u7.getD 0 .any)) fun u8 => Option.bind (V.ownOf 0 (u7.getD 1 .any)) fun u9 => Option.bind (cellsN 2 sg 2) fun u10 => Option.bind (V.lstOf (u10.getD 0 .any)) fun u11 => Option.bind (V.ownOf 1 (u10.getD 1 .any)) fun u12 => k (u4, u5, u6, u8, u9, u11, u12)
 | (.exit 0) => Option.bind (V.ptrOf 1 0 (SEnv.at E 2)) fun u0 => Option.bind (V.ptrOf 2 0 (SEnv.at E 3)) fun u1 => Option.bind (cellsN 3 sg 0) fun u2 => Option.bind (V.lstOf (u2.getD 0 .any)) fun u3 => Option.bind (V.intOf .i64 (u2.getD 1 .any)) fun u4 => Option.bind (V.boolOf (u2.getD 2 .any)) fun u5 => Option.bind (cellsN 2 sg 1) fun u6 => Option.bind (V.ownOf 0 (u6.getD 0 .any)) fun u7 => Option.bind (V.ownOf 0 (u6.getD 1 .any)) fun u8 => Option.bind (cellsN 2 sg 2) fun u9 => Option.bind (V.lstOf (u9.getD 0 .any)) fun u10 => Option.bind (V.ownOf 1 (u9.getD 1 .any)) fun u11 => some (u3, u4, u5, u7, u8, u10, u11)
 | _ => none
theorem l_z16_2_eq (n : Nat) (k : (List T) × Int × Bool × (List T) × (List T) × (List T) × (List T) -> Option ((List T) × Int × Bool × (List T) × (List T) × (List T) × (List T))) (s0 : List T) (s1 : Int) (s2 : Bool) (s3 : List T) (s4 : List T) (s5 : List T) (s6 : List T) : mX Tryz.prog (sp_z16 n) 52 code_l_z16_2 [(0, (V.ptr 0 0)), (2, (V.ptr 1 0)), (3, (V.ptr 2 0))] [some [(V.t (T.list s0)), (V.t (T.sc (.int .i64 s1))), (V.t (T.sc (.bool s2)))], some [(V.own 0 s3), (V.own 0 s4)], some [(V.t (T.list s5)), (V.own 1 s6)]] (l_z16_2_K k) = l_z16_2_B n k (s0, s1, s2, s3, s4, s5, s6) := by kernel_rfl
def l_z16_2_Q (x : (List T) × Int × Bool × (List T) × (List T) × (List T) × (List T)) (ex : Ex) (e : Env) (s : Sig) : Prop := (fun p0 => (ex = (.exit 0) /\ e = SEnv.env 52 [(2, (V.ptr 1 0)), (3, (V.ptr 2 0))] /\ s = [some [(V.t (T.list p0.1)), (V.t (T.sc (.int .i64 p0.2.1))), (V.t (T.sc (.bool p0.2.2.1)))], some [(V.own 0 p0.2.2.2.1), (V.own 0 p0.2.2.2.2.1)], some [(V.t (T.list p0.2.2.2.2.2.1)), (V.own 1 p0.2.2.2.2.2.2)]])) x
theorem l_z16_2_run (n : Nat) : ∀ (m : Nat) (s0 : List T) (s1 : Int) (s2 : Bool) (s3 : List T) (s4 : List T) (s5 : List T) (s6 : List T) (x : (List T) × Int × Bool × (List T) × (List T) × (List T) × (List T)), l_z16_2 n m (s0, s1, s2, s3, s4, s5, s6) = some x -> SemL Tryz.prog 1 code_l_z16_2 (SEnv.env 52 [(0, (V.ptr 0 0)), (2, (V.ptr 1 0)), (3, (V.ptr 2 0))]) [some [(V.t (T.list s0)), (V.t (T.sc (.int .i64 s1))), (V.t (T.sc (.bool s2)))], some [(V.own 0 s3), (V.own 0 s4)], some [(V.t (T.list s5)), (V.own 1 s6)]] (l_z16_2_Q x)
 | 0, s0, s1, s2, s3, s4, s5, s6, x, h => by cases h
 | m + 1, s0, s1, s2, s3, s4, s5, s6, x, h => by
  refine loop_step (sp_z16_ok n) code_l_z16_2_ok (nl (by kernel_rfl)) (no_scope (by kernel_rfl)) ((l_z16_2_eq n _ s0 s1 s2 s3 s4 s5 s6).trans h) (fun E sg h => ?_) (fun ex E sg hne h => ?_)
  ·simp only [l_z16_2_K] at h
   obtain ⟨u0, hu0, u1, hu1, u2, hu2, u3, hu3, h⟩ := ob4 h
   obtain ⟨u4, hu4, u5, hu5, u6, hu6, u7, hu7, h⟩ := ob4 h
   obtain ⟨u8, hu8, u9, hu9, u10, hu10, u11, hu11, h⟩ := ob4 h
   obtain ⟨u12, hu12, h⟩ := ob h
   exact SemL.pre (k := 3) (by decide) (WkA.env (WkA.cons (pW hu0) rfl (WkA.cons (pW hu1) rfl (WkA.cons (pW hu2) rfl WkA.nil))) 52) (wkR_sig (WkR.cons (nW hu3 (.cons (lW hu4) (.cons (iW hu5) (.cons (bW hu6) .nil)))).1 (nW hu3 (.cons (lW hu4) (.cons (iW hu5) (.cons (bW hu6) .nil)))).2 (renL_mem (.cons rfl (.cons rfl (.cons rfl .nil)))) (WkR.cons (nW hu7 (.cons (oW hu8) (.cons (oW hu9) .nil))).1 (nW hu7 (.cons (oW hu8) (.cons (oW hu9) .nil))).2 (renL_mem (.cons rfl (.cons rfl .nil))) (WkR.cons (nW hu10 (.cons (lW hu11) (.cons (oW hu12) .nil))).1 (nW hu10 (.cons (lW hu11) (.cons (oW hu12) .nil))).2 (renL_mem (.cons rfl (.cons rfl .nil))) (WkR.nil _)))) rfl) (l_z16_2_run n m _ _ _ _ _ _ _ x h)
  ·unfold l_z16_2_K at h
   split at h
   ·exact absurd rfl hne
   ·obtain ⟨u0, hu0, u1, hu1, u2, hu2, u3, hu3, h⟩ := ob4 h
    obtain ⟨u4, hu4, u5, hu5, u6, hu6, u7, hu7, h⟩ := ob4 h
    obtain ⟨u8, hu8, u9, hu9, u10, hu10, u11, hu11, h⟩ := ob4 h
    cases h
    exact ⟨3, _, _, by decide, WkA.env (WkA.cons (pW hu0) rfl (WkA.cons (pW hu1) rfl WkA.nil)) 52, (wkR_sig (WkR.cons (nW hu2 (.cons (lW hu3) (.cons (iW hu4) (.cons (bW hu5) .nil)))).1 (nW hu2 (.cons (lW hu3) (.cons (iW hu4) (.cons (bW hu5) .nil)))).2 (renL_mem (.cons rfl (.cons rfl (.cons rfl .nil)))) (WkR.cons (nW hu6 (.cons (oW hu7) (.cons (oW hu8) .nil))).1 (nW hu6 (.cons (oW hu7) (.cons (oW hu8) .nil))).2 (renL_mem (.cons rfl (.cons rfl .nil))) (WkR.cons (nW hu9 (.cons (lW hu10) (.cons (oW hu11) .nil))).1 (nW hu9 (.cons (lW hu10) (.cons (oW hu11) .nil))).2 (renL_mem (.cons rfl (.cons rfl .nil))) (WkR.nil _)))) rfl), rfl, rfl, rfl⟩
   ·cases h
theorem l_z16_2_ok (n : Nat) : LoopOk Tryz.prog (sp_z16 n) 1 52 code_l_z16_2 := by
  intro R key E sg K r hk h
  rw [show Go.Eng.keyOf code_l_z16_2 = some 2 from by kernel_rfl] at hk
  cases hk
  have h : l_z16_2_S n R E sg K = some r := h
  unfold l_z16_2_S at h
  obtain ⟨u0, hu0, u1, hu1, u2, hu2, u3, hu3, h⟩ := ob4 h
  obtain ⟨u4, hu4, u5, hu5, u6, hu6, u7, hu7, h⟩ := ob4 h
  obtain ⟨u8, hu8, u9, hu9, u10, hu10, u11, hu11, h⟩ := ob4 h
  obtain ⟨u12, hu12, x, hx, h⟩ := ob2 h
  refine (SemL.pre (k := 3) (by decide) (WkA.env (WkA.cons (pW hu0) rfl (WkA.cons (pW hu1) rfl (WkA.cons (pW hu2) rfl WkA.nil))) 52) (wkR_sig (WkR.cons (nW hu3 (.cons (lW hu4) (.cons (iW hu5) (.cons (bW hu6) .nil)))).1 (nW hu3 (.cons (lW hu4) (.cons (iW hu5) (.cons (bW hu6) .nil)))).2 (renL_mem (.cons rfl (.cons rfl (.cons rfl .nil)))) (WkR.cons (nW hu7 (.cons (oW hu8) (.cons (oW hu9) .nil))).1 (nW hu7 (.cons (oW hu8) (.cons (oW hu9) .nil))).2 (renL_mem (.cons rfl (.cons rfl .nil))) (WkR.cons (nW hu10 (.cons (lW hu11) (.cons (oW hu12) .nil))).1 (nW hu10 (.cons (lW hu11) (.cons (oW hu12) .nil))).2 (renL_mem (.cons rfl (.cons rfl .nil))) (WkR.nil _)))) rfl) (l_z16_2_run n n _ _ _ _ _ _ _ x hx)).mono ?_
  intro ex e s hq
  obtain ⟨rfl, rfl, rfl⟩ := hq
  exact ⟨_, rfl, h⟩
def K_z16 (v : V) (s : Sig) : Option ((List T) × (List T) × (List T) × Int × Bool) := Option.bind (V.aggN 2 v) fun u0 => Option.bind (V.lstOf (u0.getD 0 .any)) fun u1 => Option.bind (V.lstOf (u0.getD 1 .any)) fun u2 => Option.bind (cellsN 3 s 0) fun g0 => Option.bind (V.lstOf (g0.getD 0 .any)) fun g1 => Option.bind (V.intOf .i64 (g0.getD 1 .any)) fun g2 => Option.bind (V.boolOf (g0.getD 2 .any)) fun g3 => some (u1, u2, g1, g2, g3)
theorem K_z16_wk {v : V} {s : Sig} {r : (List T) × (List T) × (List T) × Int × Bool} (h : K_z16 v s = some r) : Wk v (enc_z16 r) /\ WkS 1 s (encS_z16 r) := by
 unfold K_z16 at h
 obtain ⟨u0, hu0, u1, hu1, u2, hu2, g0, hg0, h⟩ := ob4 h
 obtain ⟨g1, hg1, g2, hg2, h⟩ := ob2 h
 obtain ⟨g3, hg3, h⟩ := ob h
 cases h
 exact ⟨(aggN_wk hu0 (.cons (lW hu1) (.cons (lW hu2) .nil))), (wkR_sig (WkR.cons (nW hg0 (.cons (lW hg1) (.cons (iW hg2) (.cons (bW hg3) .nil)))).1 (nW hg0 (.cons (lW hg1) (.cons (iW hg2) (.cons (bW hg3) .nil)))).2 (renL_mem (.cons rfl (.cons rfl (.cons rfl .nil)))) (WkR.nil _)) rfl)⟩
theorem m_z16_eq (n : Nat) (a0 : List T) (a1 : Int) (a2 : Bool) : mF Tryz.prog (sp_z16 n) 42 [(V.ptr 0 0)] [some [(V.t (T.list a0)), (V.t (T.sc (.int .i64 a1))), (V.t (T.sc (.bool a2)))]] K_z16 = m_z16 n a0 a1 a2 := by kernel_rfl
theorem m_z16_ok (n : Nat) : ok_z16 (m_z16 n) := fun a0 a1 a2 r h => mF_ok sound (sp_z16_ok n) code_z16_fn code_z16_body (forall_getD (d := .skip) 1 (by kernel_rfl) (fun i hi => match i, hi with | 0, _ => l_z16_2_ok n | i + 1, hi => absurd hi (by omega))) (no_scope (by kernel_rfl)) ((m_z16_eq n a0 a1 a2).trans h) (fun v s hk => ⟨(K_z16_wk hk).1, rfl, (K_z16_wk hk).2⟩)
def m_z58 (n : Nat) (a0 : ByteArray) : Option ((List T) × (List T) × (Nat × Nat) × Int) :=
Option.bind (m_z52 n a0) fun r0 =>
bif ((r0.2.2 : Int) != 0) then (
some (([] : List T), ([] : List T), r0.2.1, r0.2.2))
else (
Option.bind (m_z16 n r0.1 0 false) fun r1 =>
bif r1.2.2.2.2 then (
Option.bind (idx true [.int .i64, .str, .int .i64, .cplx .f64] r0.1 r1.2.2.2.1) fun y2 =>
some (([] : List T), ([] : List T), ((y2.cell 3).re, (y2.cell 3).im), 2))
else (
some (r1.1, r1.2.1, (0, 0), 0)))
def enc_z58 (r : (List T) × (List T) × (Nat × Nat) × Int) : V := (V.tup [(V.agg [(V.t (T.list r.1)), (V.t (T.list r.2.1))]), (V.t (T.sc (.complex .f64 r.2.2.1.1 r.2.2.1.2))), (V.t (T.sc (.int .i64 r.2.2.2)))])
def encS_z58 (r : (List T) × (List T) × (Nat × Nat) × Int) : Sig := []
def ok_z58 (m : ByteArray -> Option ((List T) × (List T) × (Nat × Nat) × Int)) : Prop := ∀ (a0 : ByteArray) (r : (List T) × (List T) × (Nat × Nat) × Int), m a0 = some r -> FuncOk Tryz.prog 19 [(V.t (T.sc (.string a0)))] [] (enc_z58 r) (encS_z58 r)
def c_z58 (m : ByteArray -> Option ((List T) × (List T) × (Nat × Nat) × Int)) (vs : List V) (sg : Sig) : Option CallM := bif Nat.beq vs.length 1 && Nat.beq sg.length 0 then Option.bind (V.strOf (vs.getD 0 .any)) fun u0 => some { α := (List T) × (List T) × (Nat × Nat) × Int, m := m u0, dflt := ([], [], (0, 0), 0), enc := fun y => ((V.tup [(V.agg [(V.t (T.list y.1)), (V.t (T.list y.2.1))]), (V.t (T.sc (.complex .f64 y.2.2.1.1 y.2.2.1.2))), (V.t (T.sc (.int .i64 y.2.2.2)))]), []) } else none
theorem c_z58_ok (m : ByteArray -> Option ((List T) × (List T) × (Nat × Nat) × Int)) (hm : ok_z58 m) (vs : List V) (sg : Sig) (cm : CallM) (x : cm.α) (h : c_z58 m vs sg = some cm) (hx : cm.m = some x) : FuncOk Tryz.prog 19 vs sg (cm.enc x).1 (cm.enc x).2 := by
 unfold c_z58 at h
 obtain ⟨hl, hs, h⟩ := callee_sig h
 obtain ⟨u0, hu0, h⟩ := ob h
 cases h
 exact (hm u0 x hx).wk (args_wk hl (.cons (sW hu0) .nil)) (wkSg_of hs .nil)
def code_z58 : Code := Tryz.f19.body.getD .skip
def sp_z58 (n : Nat) : Go.Eng.Spec := ⟨fun f vs sg => (match f with
  | 41 => c_z52 (m_z52 n) vs sg
  | 42 => c_z16 (m_z16 n) vs sg
  | _ => none), fun R key E sg K => (match key with
  | _ => none)⟩
theorem sp_z58_ok (n : Nat) : CallsOk Tryz.prog (sp_z58 n) := by
 intro f vs sg cm x h hx
 simp only [sp_z58] at h
 split at h
 ·exact c_z52_ok _ (m_z52_ok n) vs sg cm x h hx
 ·exact c_z16_ok _ (m_z16_ok n) vs sg cm x h hx
 ·cases h
theorem code_z58_fn : Tryz.prog.funcs[19]? = some Tryz.f19 := Tryz.func19
theorem code_z58_body : Tryz.f19.body = some code_z58 := by kernel_rfl
def K_z58 (v : V) (s : Sig) : Option ((List T) × (List T) × (Nat × Nat) × Int) := Option.bind (V.tupN 3 v) fun u0 => Option.bind (V.aggN 2 (u0.getD 0 .any)) fun u1 => Option.bind (V.lstOf (u1.getD 0 .any)) fun u2 => Option.bind (V.lstOf (u1.getD 1 .any)) fun u3 => Option.bind (V.cplxOf .f64 (u0.getD 1 .any)) fun u4 => Option.bind (V.intOf .i64 (u0.getD 2 .any)) fun u5 => some (u2, u3, u4, u5)
theorem K_z58_wk {v : V} {s : Sig} {r : (List T) × (List T) × (Nat × Nat) × Int} (h : K_z58 v s = some r) : Wk v (enc_z58 r) /\ WkS 0 s (encS_z58 r) := by
 unfold K_z58 at h
 obtain ⟨u0, hu0, u1, hu1, u2, hu2, u3, hu3, h⟩ := ob4 h
 obtain ⟨u4, hu4, u5, hu5, h⟩ := ob2 h
 cases h
 exact ⟨(tupN_wk hu0 (.cons (aggN_wk hu1 (.cons (lW hu2) (.cons (lW hu3) .nil))) (.cons (xW hu4) (.cons (iW hu5) .nil)))), (WkS.none _)⟩
theorem m_z58_eq (n : Nat) (a0 : ByteArray) : mF Tryz.prog (sp_z58 n) 19 [(V.t (T.sc (.string a0)))] [] K_z58 = m_z58 n a0 := by kernel_rfl
theorem m_z58_ok (n : Nat) : ok_z58 (m_z58 n) := fun a0 r h => mF_ok sound (sp_z58_ok n) code_z58_fn code_z58_body (nl (by kernel_rfl)) (no_scope (by kernel_rfl)) ((m_z58_eq n a0).trans h) (fun v s hk => ⟨(K_z58_wk hk).1, rfl, (K_z58_wk hk).2⟩)
def m_z22 (n : Nat) : Option (Bool) :=
Option.bind (m_z58 n (⟨#[118, 97, 114, 32, 120, 32, 103, 111, 123, 120, 61, 49, 125]⟩ : ByteArray)) fun r0 =>
Option.bind (idx ((bif ((r0.2.2.2 : Int) == 0) then ((((List.length r0.1 : Nat) : Int) : Int) == 1) else false)) [.int .i64, .str, .int .i64, .cplx .f64] r0.1 0) fun y1 =>
Option.bind (idx ((bif (bif (bif ((r0.2.2.2 : Int) == 0) then ((((List.length r0.1 : Nat) : Int) : Int) == 1) else false) then (cplxEq .f64 (y1.cell 3).re (y1.cell 3).im 4607182418800017408 4607182418800017408) else false) then ((((List.length r0.2.1 : Nat) : Int) : Int) == 1) else false)) [.list] r0.2.1 0) fun y2 =>
Option.bind (idx ((bif (bif (bif (bif ((r0.2.2.2 : Int) == 0) then ((((List.length r0.1 : Nat) : Int) : Int) == 1) else false) then (cplxEq .f64 (y1.cell 3).re (y1.cell 3).im 4607182418800017408 4607182418800017408) else false) then ((((List.length r0.2.1 : Nat) : Int) : Int) == 1) else false) then ((((List.length (y2.cell 0).lst : Nat) : Int) : Int) == 1) else false)) [.list] r0.2.1 0) fun y3 =>
Option.bind (idx ((bif (bif (bif (bif ((r0.2.2.2 : Int) == 0) then ((((List.length r0.1 : Nat) : Int) : Int) == 1) else false) then (cplxEq .f64 (y1.cell 3).re (y1.cell 3).im 4607182418800017408 4607182418800017408) else false) then ((((List.length r0.2.1 : Nat) : Int) : Int) == 1) else false) then ((((List.length (y2.cell 0).lst : Nat) : Int) : Int) == 1) else false)) [.int .i64, .str, .str, .int .i64, .int .i64, .int .i64, .str, .list, .list, .list, .cplx .f64] (y3.cell 0).lst 0) fun y4 =>
Option.bind (idx ((bif (bif (bif (bif (bif ((r0.2.2.2 : Int) == 0) then ((((List.length r0.1 : Nat) : Int) : Int) == 1) else false) then (cplxEq .f64 (y1.cell 3).re (y1.cell 3).im 4607182418800017408 4607182418800017408) else false) then ((((List.length r0.2.1 : Nat) : Int) : Int) == 1) else false) then ((((List.length (y2.cell 0).lst : Nat) : Int) : Int) == 1) else false) then (((y4.cell 0).int : Int) == 1) else false)) [.list] r0.2.1 0) fun y5 =>
Option.bind (idx ((bif (bif (bif (bif (bif ((r0.2.2.2 : Int) == 0) then ((((List.length r0.1 : Nat) : Int) : Int) == 1) else false) then (cplxEq .f64 (y1.cell 3).re (y1.cell 3).im 4607182418800017408 4607182418800017408) else false) then ((((List.length r0.2.1 : Nat) : Int) : Int) == 1) else false) then ((((List.length (y2.cell 0).lst : Nat) : Int) : Int) == 1) else false) then (((y4.cell 0).int : Int) == 1) else false)) [.int .i64, .str, .str, .int .i64, .int .i64, .int .i64, .str, .list, .list, .list, .cplx .f64] (y5.cell 0).lst 0) fun y6 =>
some (bif (bif (bif (bif (bif (bif ((r0.2.2.2 : Int) == 0) then ((((List.length r0.1 : Nat) : Int) : Int) == 1) else false) then (cplxEq .f64 (y1.cell 3).re (y1.cell 3).im 4607182418800017408 4607182418800017408) else false) then ((((List.length r0.2.1 : Nat) : Int) : Int) == 1) else false) then ((((List.length (y2.cell 0).lst : Nat) : Int) : Int) == 1) else false) then (((y4.cell 0).int : Int) == 1) else false) then (cplxEq .f64 (y6.cell 10).re (y6.cell 10).im 4607182418800017408 4621819117588971520) else false)
def enc_z22 (r : Bool) : V := (V.t (T.sc (.bool r)))
def encS_z22 (r : Bool) : Sig := []
def ok_z22 (m : Option (Bool)) : Prop := ∀ (r : Bool), m = some r -> FuncOk Tryz.prog 21 [] [] (enc_z22 r) (encS_z22 r)
def code_z22 : Code := Tryz.f21.body.getD .skip
def sp_z22 (n : Nat) : Go.Eng.Spec := ⟨fun f vs sg => (match f with
  | 19 => c_z58 (m_z58 n) vs sg
  | _ => none), fun R key E sg K => (match key with
  | _ => none)⟩
theorem sp_z22_ok (n : Nat) : CallsOk Tryz.prog (sp_z22 n) := by
 intro f vs sg cm x h hx
 simp only [sp_z22] at h
 split at h
 ·exact c_z58_ok _ (m_z58_ok n) vs sg cm x h hx
 ·cases h
theorem code_z22_fn : Tryz.prog.funcs[21]? = some Tryz.f21 := Tryz.func21
theorem code_z22_body : Tryz.f21.body = some code_z22 := by kernel_rfl
def K_z22 (v : V) (s : Sig) : Option (Bool) := Option.bind (V.boolOf v) fun u0 => some u0
theorem K_z22_wk {v : V} {s : Sig} {r : Bool} (h : K_z22 v s = some r) : Wk v (enc_z22 r) /\ WkS 0 s (encS_z22 r) := by
 unfold K_z22 at h
 obtain ⟨u0, hu0, h⟩ := ob h
 cases h
 exact ⟨(bW hu0), (WkS.none _)⟩
theorem m_z22_eq (n : Nat) : mF Tryz.prog (sp_z22 n) 21 [] [] K_z22 = m_z22 n := by kernel_rfl
theorem m_z22_ok (n : Nat) : ok_z22 (m_z22 n) := fun  r h => mF_ok sound (sp_z22_ok n) code_z22_fn code_z22_body (nl (by kernel_rfl)) (no_scope (by kernel_rfl)) ((m_z22_eq n).trans h) (fun v s hk => ⟨(K_z22_wk hk).1, rfl, (K_z22_wk hk).2⟩)
def m_z31 (n : Nat) : Option (Bool) := some true
def enc_z31 (r : Bool) : V := (V.t (T.sc (.bool r)))
def encS_z31 (r : Bool) : Sig := []
def ok_z31 (m : Option (Bool)) : Prop := ∀ (r : Bool), m = some r -> FuncOk Tryz.prog 21 [] [] (enc_z31 r) (encS_z31 r)
def c_z31 (m : Option (Bool)) (vs : List V) (sg : Sig) : Option CallM := bif Nat.beq vs.length 0 && Nat.beq sg.length 0 then some { α := Bool, m := m, dflt := false, enc := fun y => ((V.t (T.sc (.bool y))), []) } else none
theorem c_z31_ok (m : Option (Bool)) (hm : ok_z31 m) (vs : List V) (sg : Sig) (cm : CallM) (x : cm.α) (h : c_z31 m vs sg = some cm) (hx : cm.m = some x) : FuncOk Tryz.prog 21 vs sg (cm.enc x).1 (cm.enc x).2 := by
 unfold c_z31 at h
 obtain ⟨hl, hs, h⟩ := callee_sig h
 cases h
 exact (hm x hx).wk (args_wk hl .nil) (wkSg_of hs .nil)
theorem m_z31_ok (n : Nat) : ok_z31 (m_z31 n) := fun r h => by
 cases h
 exact m_z22_ok 3000 true (show m_z22 3000 = some true from by kernel_rfl)
def l_z18_4_B (n : Nat) (k : (List T) × (List T) × Int -> Option (((Bool) ⊕ Unit))) : (List T) × (List T) × Int -> Option (((Bool) ⊕ Unit)) := fun (s0, s1, s2) =>
bif (decide ((s2 : Int) < ((List.length s0 : Nat) : Int))) then (
Option.bind (idx true [.int .i64, .str, .int .i64, .cplx .f64] s0 s2) fun y0 =>
Option.bind (idx true [.int .i64, .str, .int .i64, .cplx .f64] s1 s2) fun y1 =>
Option.bind (idx (!(((y0.cell 0).int : Int) != (y1.cell 0).int)) [.int .i64, .str, .int .i64, .cplx .f64] s0 s2) fun y2 =>
Option.bind (idx (!(((y0.cell 0).int : Int) != (y1.cell 0).int)) [.int .i64, .str, .int .i64, .cplx .f64] s1 s2) fun y3 =>
Option.bind (idx (!(bif (((y0.cell 0).int : Int) != (y1.cell 0).int) then true else (!(ByteArray.toList (y2.cell 1).str == ByteArray.toList (y3.cell 1).str)))) [.int .i64, .str, .int .i64, .cplx .f64] s0 s2) fun y4 =>
Option.bind (idx (!(bif (((y0.cell 0).int : Int) != (y1.cell 0).int) then true else (!(ByteArray.toList (y2.cell 1).str == ByteArray.toList (y3.cell 1).str)))) [.int .i64, .str, .int .i64, .cplx .f64] s1 s2) fun y5 =>
bif (bif (bif (((y0.cell 0).int : Int) != (y1.cell 0).int) then true else (!(ByteArray.toList (y2.cell 1).str == ByteArray.toList (y3.cell 1).str))) then true else (((y4.cell 2).int : Int) != (y5.cell 2).int)) then (
some (Sum.inl false))
else (
k (s0, s1, (IntKind.wrap .i64 (s2 + 1)))))
else (
some (Sum.inr ()))
def l_z18_4 (n : Nat) : Nat -> (List T) × (List T) × Int -> Option (((Bool) ⊕ Unit))
 | 0, _ => none
 | m + 1, s => l_z18_4_B n (l_z18_4 n m) s
def m_z18 (n : Nat) (a0 : List T) (a1 : List T) : Option (Bool) :=
bif ((((List.length a0 : Nat) : Int) : Int) != ((List.length a1 : Nat) : Int)) then (
some false)
else (
Option.bind (l_z18_4 n n (a0, a1, 0)) fun x6 =>
Sum.elim (fun p7 =>
some p7) (fun x6' => (fun p8 =>
some true) x6') x6)
def enc_z18 (r : Bool) : V := (V.t (T.sc (.bool r)))
def encS_z18 (r : Bool) : Sig := []
def ok_z18 (m : List T -> List T -> Option (Bool)) : Prop := ∀ (a0 : List T) (a1 : List T) (r : Bool), m a0 a1 = some r -> FuncOk Tryz.prog 28 [(V.t (T.list a0)), (V.t (T.list a1))] [] (enc_z18 r) (encS_z18 r)
def c_z18 (m : List T -> List T -> Option (Bool)) (vs : List V) (sg : Sig) : Option CallM := bif Nat.beq vs.length 2 && Nat.beq sg.length 0 then Option.bind (V.lstOf (vs.getD 0 .any)) fun u0 => Option.bind (V.lstOf (vs.getD 1 .any)) fun u1 => some { α := Bool, m := m u0 u1, dflt := false, enc := fun y => ((V.t (T.sc (.bool y))), []) } else none
theorem c_z18_ok (m : List T -> List T -> Option (Bool)) (hm : ok_z18 m) (vs : List V) (sg : Sig) (cm : CallM) (x : cm.α) (h : c_z18 m vs sg = some cm) (hx : cm.m = some x) : FuncOk Tryz.prog 28 vs sg (cm.enc x).1 (cm.enc x).2 := by
 unfold c_z18 at h
 obtain ⟨hl, hs, h⟩ := callee_sig h
 obtain ⟨u0, hu0, u1, hu1, h⟩ := ob2 h
 cases h
 exact (hm u0 u1 x hx).wk (args_wk hl (.cons (lW hu0) (.cons (lW hu1) .nil))) (wkSg_of hs .nil)
def code_z18 : Code := Tryz.f28.body.getD .skip
def l_z18_4_S (n : Nat) (R : Type) (E : SEnv) (sg : Sig) (K : Ex -> SEnv -> Sig -> Option R) : Option R := Option.bind (V.lstOf (SEnv.at E 0)) fun u0 => Option.bind (V.lstOf (SEnv.at E 1)) fun u1 => Option.bind (V.intOf .i64 (SEnv.at E 5)) fun u2 => Option.bind (l_z18_4 n n (u0, u1, u2)) fun y => Sum.elim (fun p0 => K .ret [(4, (V.t (T.sc (.bool p0))))] []) (fun y' => (fun p1 => K (.exit 0) [] []) y') y
def sp_z18 (n : Nat) : Go.Eng.Spec := ⟨fun f vs sg => (match f with
  | _ => none), fun R key E sg K => (match key with
  | 4 => l_z18_4_S n R E sg K
  | _ => none)⟩
theorem sp_z18_ok (n : Nat) : CallsOk Tryz.prog (sp_z18 n) := by
 intro f vs sg cm x h hx
 have h : (none : Option CallM) = some cm := h
 cases h
theorem code_z18_fn : Tryz.prog.funcs[28]? = some Tryz.f28 := Tryz.func28
theorem code_z18_body : Tryz.f28.body = some code_z18 := by kernel_rfl
theorem code_z18_ok : CodeOk Tryz.prog code_z18 := (sound 28 _ _ code_z18_fn code_z18_body).1
def code_l_z18_4 : Code := (loopsOf code_z18).getD 0 .skip
theorem code_l_z18_4_ok : CodeOk Tryz.prog code_l_z18_4 := codeOk_loops code_z18_ok _ (getD_mem (by kernel_rfl))
def l_z18_4_K (k : (List T) × (List T) × Int -> Option (((Bool) ⊕ Unit))) : Ex -> SEnv -> Sig -> Option (((Bool) ⊕ Unit)) := fun x E sg => match x with
 | .normal => Option.bind (V.lstOf (SEnv.at E 0)) fun u0 => Option.bind (V.lstOf (SEnv.at E 1)) fun u1 => Option.bind (V.intOf .i64 (SEnv.at E 5)) fun u2 => k (u0, u1, u2)
 | .ret => Option.bind (V.boolOf (SEnv.at E 4)) fun u0 => some (Sum.inl u0)
 | (.exit 0) => some (Sum.inr ())
 | _ => none
theorem l_z18_4_eq (n : Nat) (k : (List T) × (List T) × Int -> Option (((Bool) ⊕ Unit))) (s0 : List T) (s1 : List T) (s2 : Int) : mX Tryz.prog (sp_z18 n) 54 code_l_z18_4 [(0, (V.t (T.list s0))), (1, (V.t (T.list s1))), (5, (V.t (T.sc (.int .i64 s2))))] [] (l_z18_4_K k) = l_z18_4_B n k (s0, s1, s2) := by kernel_rfl
def l_z18_4_Q (x : ((Bool) ⊕ Unit)) (ex : Ex) (e : Env) (s : Sig) : Prop := Sum.elim (fun p0 => (ex = .ret /\ e = SEnv.env 54 [(4, (V.t (T.sc (.bool p0))))] /\ s = [])) (fun x' => (fun p1 => (ex = (.exit 0) /\ e = SEnv.env 54 [] /\ s = [])) x') x
theorem l_z18_4_run (n : Nat) : ∀ (m : Nat) (s0 : List T) (s1 : List T) (s2 : Int) (x : ((Bool) ⊕ Unit)), l_z18_4 n m (s0, s1, s2) = some x -> SemL Tryz.prog 0 code_l_z18_4 (SEnv.env 54 [(0, (V.t (T.list s0))), (1, (V.t (T.list s1))), (5, (V.t (T.sc (.int .i64 s2))))]) [] (l_z18_4_Q x)
 | 0, s0, s1, s2, x, h => by cases h
 | m + 1, s0, s1, s2, x, h => by
  refine loop_step (sp_z18_ok n) code_l_z18_4_ok (nl (by kernel_rfl)) (no_scope (by kernel_rfl)) ((l_z18_4_eq n _ s0 s1 s2).trans h) (fun E sg h => ?_) (fun ex E sg hne h => ?_)
  ·simp only [l_z18_4_K] at h
   obtain ⟨u0, hu0, u1, hu1, h⟩ := ob2 h
   obtain ⟨u2, hu2, h⟩ := ob h
   exact SemL.pre (k := 0) (by decide) (WkA.env (WkA.cons (lW hu0) rfl (WkA.cons (lW hu1) rfl (WkA.cons (iW hu2) rfl WkA.nil))) 54) (WkS.none _) (l_z18_4_run n m _ _ _ x h)
  ·unfold l_z18_4_K at h
   split at h
   ·exact absurd rfl hne
   ·obtain ⟨u0, hu0, h⟩ := ob h
    cases h
    exact ⟨0, _, _, by decide, WkA.env (WkA.cons (bW hu0) rfl WkA.nil) 54, (WkS.none _), rfl, rfl, rfl⟩
   ·cases h
    exact ⟨0, _, _, by decide, WkA.env WkA.nil 54, (WkS.none _), rfl, rfl, rfl⟩
   ·cases h
theorem l_z18_4_ok (n : Nat) : LoopOk Tryz.prog (sp_z18 n) 0 54 code_l_z18_4 := by
  intro R key E sg K r hk h
  rw [show Go.Eng.keyOf code_l_z18_4 = some 4 from by kernel_rfl] at hk
  cases hk
  have h : l_z18_4_S n R E sg K = some r := h
  unfold l_z18_4_S at h
  obtain ⟨u0, hu0, u1, hu1, u2, hu2, x, hx, h⟩ := ob4 h
  refine (SemL.pre (k := 0) (by decide) (WkA.env (WkA.cons (lW hu0) rfl (WkA.cons (lW hu1) rfl (WkA.cons (iW hu2) rfl WkA.nil))) 54) (WkS.none _) (l_z18_4_run n n _ _ _ x hx)).mono ?_
  intro ex e s hq
  rcases x with x | x <;> (obtain ⟨rfl, rfl, rfl⟩ := hq; exact ⟨_, rfl, h⟩)
def K_z18 (v : V) (s : Sig) : Option (Bool) := Option.bind (V.boolOf v) fun u0 => some u0
theorem K_z18_wk {v : V} {s : Sig} {r : Bool} (h : K_z18 v s = some r) : Wk v (enc_z18 r) /\ WkS 0 s (encS_z18 r) := by
 unfold K_z18 at h
 obtain ⟨u0, hu0, h⟩ := ob h
 cases h
 exact ⟨(bW hu0), (WkS.none _)⟩
theorem m_z18_eq (n : Nat) (a0 : List T) (a1 : List T) : mF Tryz.prog (sp_z18 n) 28 [(V.t (T.list a0)), (V.t (T.list a1))] [] K_z18 = m_z18 n a0 a1 := by kernel_rfl
theorem m_z18_ok (n : Nat) : ok_z18 (m_z18 n) := fun a0 a1 r h => mF_ok sound (sp_z18_ok n) code_z18_fn code_z18_body (forall_getD (d := .skip) 1 (by kernel_rfl) (fun i hi => match i, hi with | 0, _ => l_z18_4_ok n | i + 1, hi => absurd hi (by omega))) (no_scope (by kernel_rfl)) ((m_z18_eq n a0 a1).trans h) (fun v s hk => ⟨(K_z18_wk hk).1, rfl, (K_z18_wk hk).2⟩)
structure B_z20 where
 y8 : Int -> Int -> ByteArray -> List T -> Int -> Int -> ByteArray -> List T -> Option (Bool)
def enc_z20 (r : Bool) : V := (V.t (T.sc (.bool r)))
def encS_z20 (r : Bool) : Sig := []
def ok_z20 (m : Int -> Int -> ByteArray -> List T -> Int -> Int -> ByteArray -> List T -> Option (Bool)) : Prop := ∀ (a0 : Int) (a1 : Int) (a2 : ByteArray) (a3 : List T) (a4 : Int) (a5 : Int) (a6 : ByteArray) (a7 : List T) (r : Bool), m a0 a1 a2 a3 a4 a5 a6 a7 = some r -> FuncOk Tryz.prog 53 [(V.agg [(V.t (T.sc (.int .i64 a0))), (V.t (T.sc (.int .i64 a1))), (V.t (T.sc (.string a2))), (V.t (T.list a3))]), (V.agg [(V.t (T.sc (.int .i64 a4))), (V.t (T.sc (.int .i64 a5))), (V.t (T.sc (.string a6))), (V.t (T.list a7))])] [] (enc_z20 r) (encS_z20 r)
def c_z20 (m : Int -> Int -> ByteArray -> List T -> Int -> Int -> ByteArray -> List T -> Option (Bool)) (vs : List V) (sg : Sig) : Option CallM := bif Nat.beq vs.length 2 && Nat.beq sg.length 0 then Option.bind (V.aggN 4 (vs.getD 0 .any)) fun u0 => Option.bind (V.intOf .i64 (u0.getD 0 .any)) fun u1 => Option.bind (V.intOf .i64 (u0.getD 1 .any)) fun u2 => Option.bind (V.strOf (u0.getD 2 .any)) fun u3 => Option.bind (V.lstOf (u0.getD 3 .any)) fun u4 => Option.bind (V.aggN 4 (vs.getD 1 .any)) fun u5 => Option.bind (V.intOf .i64 (u5.getD 0 .any)) fun u6 => Option.bind (V.intOf .i64 (u5.getD 1 .any)) fun u7 => Option.bind (V.strOf (u5.getD 2 .any)) fun u8 => Option.bind (V.lstOf (u5.getD 3 .any)) fun u9 => some { α := Bool, m := m u1 u2 u3 u4 u6 u7 u8 u9, dflt := false, enc := fun y => ((V.t (T.sc (.bool y))), []) } else none
theorem c_z20_ok (m : Int -> Int -> ByteArray -> List T -> Int -> Int -> ByteArray -> List T -> Option (Bool)) (hm : ok_z20 m) (vs : List V) (sg : Sig) (cm : CallM) (x : cm.α) (h : c_z20 m vs sg = some cm) (hx : cm.m = some x) : FuncOk Tryz.prog 53 vs sg (cm.enc x).1 (cm.enc x).2 := by
 unfold c_z20 at h
 obtain ⟨hl, hs, h⟩ := callee_sig h
 obtain ⟨u0, hu0, u1, hu1, u2, hu2, u3, hu3, h⟩ := ob4 h
 obtain ⟨u4, hu4, u5, hu5, u6, hu6, u7, hu7, h⟩ := ob4 h
 obtain ⟨u8, hu8, u9, hu9, h⟩ := ob2 h
 cases h
 exact (hm u1 u2 u3 u4 u6 u7 u8 u9 x hx).wk (args_wk hl (.cons (aggN_wk hu0 (.cons (iW hu1) (.cons (iW hu2) (.cons (sW hu3) (.cons (lW hu4) .nil))))) (.cons (aggN_wk hu5 (.cons (iW hu6) (.cons (iW hu7) (.cons (sW hu8) (.cons (lW hu9) .nil))))) .nil))) (wkSg_of hs .nil)
structure B_z20_ok (b : B_z20) : Prop where
 y8 : ok_z20 b.y8
def l_z20_4_B (b : B_z20) (n : Nat) (k : Int × Int × Int × ByteArray × (List T) × Int × Int × ByteArray × (List T) -> Option (((Int × Int × ByteArray × (List T) × Int × Int × ByteArray × (List T)) ⊕ Bool × Int × Int × ByteArray × (List T) × Int × Int × ByteArray × (List T)))) : Int × Int × Int × ByteArray × (List T) × Int × Int × ByteArray × (List T) -> Option (((Int × Int × ByteArray × (List T) × Int × Int × ByteArray × (List T)) ⊕ Bool × Int × Int × ByteArray × (List T) × Int × Int × ByteArray × (List T))) := fun (s0, s1, s2, s3, s4, s5, s6, s7, s8) =>
bif (decide ((s0 : Int) < ((List.length s4 : Nat) : Int))) then (
Option.bind (idx true [.int .i64, .int .i64, .str, .list] s4 s0) fun y0 =>
Option.bind (idx true [.int .i64, .int .i64, .str, .list] s8 s0) fun y1 =>
Option.bind (b.y8 (y0.cell 0).int (y0.cell 1).int (y0.cell 2).str (y0.cell 3).lst (y1.cell 0).int (y1.cell 1).int (y1.cell 2).str (y1.cell 3).lst) fun r2 =>
bif (!r2) then (
some (Sum.inr (false, s1, s2, s3, s4, s5, s6, s7, s8)))
else (
k ((IntKind.wrap .i64 (s0 + 1)), s1, s2, s3, s4, s5, s6, s7, s8)))
else (
some (Sum.inl (s1, s2, s3, s4, s5, s6, s7, s8)))
def l_z20_4 (b : B_z20) (n : Nat) : Nat -> Int × Int × Int × ByteArray × (List T) × Int × Int × ByteArray × (List T) -> Option (((Int × Int × ByteArray × (List T) × Int × Int × ByteArray × (List T)) ⊕ Bool × Int × Int × ByteArray × (List T) × Int × Int × ByteArray × (List T)))
 | 0, _ => none
 | m + 1, s => l_z20_4_B b n (l_z20_4 b n m) s
def f_z20 (b : B_z20) (n : Nat) (a0 : Int) (a1 : Int) (a2 : ByteArray) (a3 : List T) (a4 : Int) (a5 : Int) (a6 : ByteArray) (a7 : List T) : Option (Bool) :=
bif (bif (bif (bif ((a0 : Int) != a4) then true else ((a1 : Int) != a5)) then true else (!(ByteArray.toList a2 == ByteArray.toList a6))) then true else ((((List.length a3 : Nat) : Int) : Int) != ((List.length a7 : Nat) : Int))) then (
some false)
else (
Option.bind (l_z20_4 b n n (0, a0, a1, a2, a3, a4, a5, a6, a7)) fun x3 =>
Sum.elim (fun p4 =>
some true) (fun x3' => (fun p5 =>
some p5.1) x3') x3)
def code_z20 : Code := Tryz.f53.body.getD .skip
def l_z20_4_S (b : B_z20) (n : Nat) (R : Type) (E : SEnv) (sg : Sig) (K : Ex -> SEnv -> Sig -> Option R) : Option R := Option.bind (V.ptrOf 0 0 (SEnv.at E 2)) fun u0 => Option.bind (V.ptrOf 1 0 (SEnv.at E 3)) fun u1 => Option.bind (V.intOf .i64 (SEnv.at E 5)) fun u2 => Option.bind (cellsN 4 sg 0) fun u3 => Option.bind (V.intOf .i64 (u3.getD 0 .any)) fun u4 => Option.bind (V.intOf .i64 (u3.getD 1 .any)) fun u5 => Option.bind (V.strOf (u3.getD 2 .any)) fun u6 => Option.bind (V.lstOf (u3.getD 3 .any)) fun u7 => Option.bind (cellsN 4 sg 1) fun u8 => Option.bind (V.intOf .i64 (u8.getD 0 .any)) fun u9 => Option.bind (V.intOf .i64 (u8.getD 1 .any)) fun u10 => Option.bind (V.strOf (u8.getD 2 .any)) fun u11 => Option.bind (V.lstOf (u8.getD 3 .any)) fun u12 => Option.bind (l_z20_4 b n n (u2, u4, u5, u6, u7, u9, u10, u11, u12)) fun y => Sum.elim (fun p0 => K (.exit 0) [] [some [(V.t (T.sc (.int .i64 p0.1))), (V.t (T.sc (.int .i64 p0.2.1))), (V.t (T.sc (.string p0.2.2.1))), (V.t (T.list p0.2.2.2.1))], some [(V.t (T.sc (.int .i64 p0.2.2.2.2.1))), (V.t (T.sc (.int .i64 p0.2.2.2.2.2.1))), (V.t (T.sc (.string p0.2.2.2.2.2.2.1))), (V.t (T.list p0.2.2.2.2.2.2.2))]]) (fun y' => (fun p1 => K .ret [(4, (V.t (T.sc (.bool p1.1))))] [some [(V.t (T.sc (.int .i64 p1.2.1))), (V.t (T.sc (.int .i64 p1.2.2.1))), (V.t (T.sc (.string p1.2.2.2.1))), (V.t (T.list p1.2.2.2.2.1))], some [(V.t (T.sc (.int .i64 p1.2.2.2.2.2.1))), (V.t (T.sc (.int .i64 p1.2.2.2.2.2.2.1))), (V.t (T.sc (.string p1.2.2.2.2.2.2.2.1))), (V.t (T.list p1.2.2.2.2.2.2.2.2))]]) y') y
def sp_z20 (b : B_z20) (n : Nat) : Go.Eng.Spec := ⟨fun f vs sg => (match f with
  | 53 => c_z20 b.y8 vs sg
  | _ => none), fun R key E sg K => (match key with
  | 4 => l_z20_4_S b n R E sg K
  | _ => none)⟩
theorem sp_z20_ok (b : B_z20) (hb : B_z20_ok b) (n : Nat) : CallsOk Tryz.prog (sp_z20 b n) := by
 intro f vs sg cm x h hx
 simp only [sp_z20] at h
 split at h
 ·exact c_z20_ok _ hb.y8 vs sg cm x h hx
 ·cases h
theorem code_z20_fn : Tryz.prog.funcs[53]? = some Tryz.f53 := Tryz.func53
theorem code_z20_body : Tryz.f53.body = some code_z20 := by kernel_rfl
theorem code_z20_ok : CodeOk Tryz.prog code_z20 := (sound 53 _ _ code_z20_fn code_z20_body).1
def code_l_z20_4 : Code := (loopsOf code_z20).getD 0 .skip
theorem code_l_z20_4_ok : CodeOk Tryz.prog code_l_z20_4 := codeOk_loops code_z20_ok _ (getD_mem (by kernel_rfl))
def l_z20_4_K (k : Int × Int × Int × ByteArray × (List T) × Int × Int × ByteArray × (List T) -> Option (((Int × Int × ByteArray × (List T) × Int × Int × ByteArray × (List T)) ⊕ Bool × Int × Int × ByteArray × (List T) × Int × Int × ByteArray × (List T)))) : Ex -> SEnv -> Sig -> Option (((Int × Int × ByteArray × (List T) × Int × Int × ByteArray × (List T)) ⊕ Bool × Int × Int × ByteArray × (List T) × Int × Int × ByteArray × (List T))) := fun x E sg => match x with
 | .normal => Option.bind (V.ptrOf 0 0 (SEnv.at E 2)) fun u0 => Option.bind (V.ptrOf 1 0 (SEnv.at E 3)) fun u1 => Option.bind (V.intOf .i64 (SEnv.at E 5)) fun u2 => Option.bind (cellsN 4 sg 0) fun u3 => Option.bind (V.intOf .i64 (u3.getD 0 .any)) fun u4 => Option.bind (V.intOf .i64 (u3.getD 1 .any)) fun u5 => Option.bind (V.strOf (u3.getD 2 .any)) fun u6 => Option.bind (V.lstOf (u3.getD 3 .any)) fun u7 => Option.bind (cellsN 4 sg 1) fun u8 => Option.bind (V.intOf .i64 (u8.getD 0 .any)) fun u9 => Option.bind (V.intOf .i64 (u8.getD 1 .any)) fun u10 => Option.bind (V.strOf (u8.getD 2 .any)) fun u11 => Option.bind (V.lstOf (u8.getD 3 .any)) fun u12 => k (u2, u4, u5, u6, u7, u9, u10, u11, u12)
 | (.exit 0) => Option.bind (cellsN 4 sg 0) fun u0 => Option.bind (V.intOf .i64 (u0.getD 0 .any)) fun u1 => Option.bind (V.intOf .i64 (u0.getD 1 .any)) fun u2 => Option.bind (V.strOf (u0.getD 2 .any)) fun u3 => Option.bind (V.lstOf (u0.getD 3 .any)) fun u4 => Option.bind (cellsN 4 sg 1) fun u5 => Option.bind (V.intOf .i64 (u5.getD 0 .any)) fun u6 => Option.bind (V.intOf .i64 (u5.getD 1 .any)) fun u7 => Option.bind (V.strOf (u5.getD 2 .any)) fun u8 => Option.bind (V.lstOf (u5.getD 3 .any)) fun u9 => some (Sum.inl (u1, u2, u3, u4, u6, u7, u8, u9))
 | .ret => Option.bind (V.boolOf (SEnv.at E 4)) fun u0 => Option.bind (cellsN 4 sg 0) fun u1 => Option.bind (V.intOf .i64 (u1.getD 0 .any)) fun u2 => Option.bind (V.intOf .i64 (u1.getD 1 .any)) fun u3 => Option.bind (V.strOf (u1.getD 2 .any)) fun u4 => Option.bind (V.lstOf (u1.getD 3 .any)) fun u5 => Option.bind (cellsN 4 sg 1) fun u6 => Option.bind (V.intOf .i64 (u6.getD 0 .any)) fun u7 => Option.bind (V.intOf .i64 (u6.getD 1 .any)) fun u8 => Option.bind (V.strOf (u6.getD 2 .any)) fun u9 => Option.bind (V.lstOf (u6.getD 3 .any)) fun u10 => some (Sum.inr (u0, u2, u3, u4, u5, u7, u8, u9, u10))
 | _ => none
theorem l_z20_4_eq (b : B_z20) (n : Nat) (k : Int × Int × Int × ByteArray × (List T) × Int × Int × ByteArray × (List T) -> Option (((Int × Int × ByteArray × (List T) × Int × Int × ByteArray × (List T)) ⊕ Bool × Int × Int × ByteArray × (List T) × Int × Int × ByteArray × (List T)))) (s0 : Int) (s1 : Int) (s2 : Int) (s3 : ByteArray) (s4 : List T) (s5 : Int) (s6 : Int) (s7 : ByteArray) (s8 : List T) : mX Tryz.prog (sp_z20 b n) 53 code_l_z20_4 [(2, (V.ptr 0 0)), (3, (V.ptr 1 0)), (5, (V.t (T.sc (.int .i64 s0))))] [some [(V.t (T.sc (.int .i64 s1))), (V.t (T.sc (.int .i64 s2))), (V.t (T.sc (.string s3))), (V.t (T.list s4))], some [(V.t (T.sc (.int .i64 s5))), (V.t (T.sc (.int .i64 s6))), (V.t (T.sc (.string s7))), (V.t (T.list s8))]] (l_z20_4_K k) = l_z20_4_B b n k (s0, s1, s2, s3, s4, s5, s6, s7, s8) := by kernel_rfl
def l_z20_4_Q (x : ((Int × Int × ByteArray × (List T) × Int × Int × ByteArray × (List T)) ⊕ Bool × Int × Int × ByteArray × (List T) × Int × Int × ByteArray × (List T))) (ex : Ex) (e : Env) (s : Sig) : Prop := Sum.elim (fun p0 => (ex = (.exit 0) /\ e = SEnv.env 53 [] /\ s = [some [(V.t (T.sc (.int .i64 p0.1))), (V.t (T.sc (.int .i64 p0.2.1))), (V.t (T.sc (.string p0.2.2.1))), (V.t (T.list p0.2.2.2.1))], some [(V.t (T.sc (.int .i64 p0.2.2.2.2.1))), (V.t (T.sc (.int .i64 p0.2.2.2.2.2.1))), (V.t (T.sc (.string p0.2.2.2.2.2.2.1))), (V.t (T.list p0.2.2.2.2.2.2.2))]])) (fun x' => (fun p1 => (ex = .ret /\ e = SEnv.env 53 [(4, (V.t (T.sc (.bool p1.1))))] /\ s = [some [(V.t (T.sc (.int .i64 p1.2.1))), (V.t (T.sc (.int .i64 p1.2.2.1))), (V.t (T.sc (.string p1.2.2.2.1))), (V.t (T.list p1.2.2.2.2.1))], some [(V.t (T.sc (.int .i64 p1.2.2.2.2.2.1))), (V.t (T.sc (.int .i64 p1.2.2.2.2.2.2.1))), (V.t (T.sc (.string p1.2.2.2.2.2.2.2.1))), (V.t (T.list p1.2.2.2.2.2.2.2.2))]])) x') x
theorem l_z20_4_run (b : B_z20) (hb : B_z20_ok b) (n : Nat) : ∀ (m : Nat) (s0 : Int) (s1 : Int) (s2 : Int) (s3 : ByteArray) (s4 : List T) (s5 : Int) (s6 : Int) (s7 : ByteArray) (s8 : List T) (x : ((Int × Int × ByteArray × (List T) × Int × Int × ByteArray × (List T)) ⊕ Bool × Int × Int × ByteArray × (List T) × Int × Int × ByteArray × (List T))), l_z20_4 b n m (s0, s1, s2, s3, s4, s5, s6, s7, s8) = some x -> SemL Tryz.prog 0 code_l_z20_4 (SEnv.env 53 [(2, (V.ptr 0 0)), (3, (V.ptr 1 0)), (5, (V.t (T.sc (.int .i64 s0))))]) [some [(V.t (T.sc (.int .i64 s1))), (V.t (T.sc (.int .i64 s2))), (V.t (T.sc (.string s3))), (V.t (T.list s4))], some [(V.t (T.sc (.int .i64 s5))), (V.t (T.sc (.int .i64 s6))), (V.t (T.sc (.string s7))), (V.t (T.list s8))]] (l_z20_4_Q x)
 | 0, s0, s1, s2, s3, s4, s5, s6, s7, s8, x, h => by cases h
 | m + 1, s0, s1, s2, s3, s4, s5, s6, s7, s8, x, h => by
  refine loop_step (sp_z20_ok b hb n) code_l_z20_4_ok (nl (by kernel_rfl)) (no_scope (by kernel_rfl)) ((l_z20_4_eq b n _ s0 s1 s2 s3 s4 s5 s6 s7 s8).trans h) (fun E sg h => ?_) (fun ex E sg hne h => ?_)
  ·simp only [l_z20_4_K] at h
   obtain ⟨u0, hu0, u1, hu1, u2, hu2, u3, hu3, h⟩ := ob4 h
   obtain ⟨u4, hu4, u5, hu5, u6, hu6, u7, hu7, h⟩ := ob4 h
   obtain ⟨u8, hu8, u9, hu9, u10, hu10, u11, hu11, h⟩ := ob4 h
   obtain ⟨u12, hu12, h⟩ := ob h
   exact SemL.pre (k := 2) (by decide) (WkA.env (WkA.cons (pW hu0) rfl (WkA.cons (pW hu1) rfl (WkA.cons (iW hu2) rfl WkA.nil))) 53) (wkR_sig (WkR.cons (nW hu3 (.cons (iW hu4) (.cons (iW hu5) (.cons (sW hu6) (.cons (lW hu7) .nil))))).1 (nW hu3 (.cons (iW hu4) (.cons (iW hu5) (.cons (sW hu6) (.cons (lW hu7) .nil))))).2 (renL_mem (.cons rfl (.cons rfl (.cons rfl (.cons rfl .nil))))) (WkR.cons (nW hu8 (.cons (iW hu9) (.cons (iW hu10) (.cons (sW hu11) (.cons (lW hu12) .nil))))).1 (nW hu8 (.cons (iW hu9) (.cons (iW hu10) (.cons (sW hu11) (.cons (lW hu12) .nil))))).2 (renL_mem (.cons rfl (.cons rfl (.cons rfl (.cons rfl .nil))))) (WkR.nil _))) rfl) (l_z20_4_run b hb n m _ _ _ _ _ _ _ _ _ x h)
  ·unfold l_z20_4_K at h
   split at h
   ·exact absurd rfl hne
   ·obtain ⟨u0, hu0, u1, hu1, u2, hu2, u3, hu3, h⟩ := ob4 h
    obtain ⟨u4, hu4, u5, hu5, u6, hu6, u7, hu7, h⟩ := ob4 h
    obtain ⟨u8, hu8, u9, hu9, h⟩ := ob2 h
    cases h
    exact ⟨2, _, _, by decide, WkA.env WkA.nil 53, (wkR_sig (WkR.cons (nW hu0 (.cons (iW hu1) (.cons (iW hu2) (.cons (sW hu3) (.cons (lW hu4) .nil))))).1 (nW hu0 (.cons (iW hu1) (.cons (iW hu2) (.cons (sW hu3) (.cons (lW hu4) .nil))))).2 (renL_mem (.cons rfl (.cons rfl (.cons rfl (.cons rfl .nil))))) (WkR.cons (nW hu5 (.cons (iW hu6) (.cons (iW hu7) (.cons (sW hu8) (.cons (lW hu9) .nil))))).1 (nW hu5 (.cons (iW hu6) (.cons (iW hu7) (.cons (sW hu8) (.cons (lW hu9) .nil))))).2 (renL_mem (.cons rfl (.cons rfl (.cons rfl (.cons rfl .nil))))) (WkR.nil _))) rfl), rfl, rfl, rfl⟩
   ·obtain ⟨u0, hu0, u1, hu1, u2, hu2, u3, hu3, h⟩ := ob4 h
    obtain ⟨u4, hu4, u5, hu5, u6, hu6, u7, hu7, h⟩ := ob4 h
    obtain ⟨u8, hu8, u9, hu9, h⟩ := ob2 h
    obtain ⟨u10, hu10, h⟩ := ob h
    cases h
    exact ⟨2, _, _, by decide, WkA.env (WkA.cons (bW hu0) rfl WkA.nil) 53, (wkR_sig (WkR.cons (nW hu1 (.cons (iW hu2) (.cons (iW hu3) (.cons (sW hu4) (.cons (lW hu5) .nil))))).1 (nW hu1 (.cons (iW hu2) (.cons (iW hu3) (.cons (sW hu4) (.cons (lW hu5) .nil))))).2 (renL_mem (.cons rfl (.cons rfl (.cons rfl (.cons rfl .nil))))) (WkR.cons (nW hu6 (.cons (iW hu7) (.cons (iW hu8) (.cons (sW hu9) (.cons (lW hu10) .nil))))).1 (nW hu6 (.cons (iW hu7) (.cons (iW hu8) (.cons (sW hu9) (.cons (lW hu10) .nil))))).2 (renL_mem (.cons rfl (.cons rfl (.cons rfl (.cons rfl .nil))))) (WkR.nil _))) rfl), rfl, rfl, rfl⟩
   ·cases h
theorem l_z20_4_ok (b : B_z20) (hb : B_z20_ok b) (n : Nat) : LoopOk Tryz.prog (sp_z20 b n) 0 53 code_l_z20_4 := by
  intro R key E sg K r hk h
  rw [show Go.Eng.keyOf code_l_z20_4 = some 4 from by kernel_rfl] at hk
  cases hk
  have h : l_z20_4_S b n R E sg K = some r := h
  unfold l_z20_4_S at h
  obtain ⟨u0, hu0, u1, hu1, u2, hu2, u3, hu3, h⟩ := ob4 h
  obtain ⟨u4, hu4, u5, hu5, u6, hu6, u7, hu7, h⟩ := ob4 h
  obtain ⟨u8, hu8, u9, hu9, u10, hu10, u11, hu11, h⟩ := ob4 h
  obtain ⟨u12, hu12, x, hx, h⟩ := ob2 h
  refine (SemL.pre (k := 2) (by decide) (WkA.env (WkA.cons (pW hu0) rfl (WkA.cons (pW hu1) rfl (WkA.cons (iW hu2) rfl WkA.nil))) 53) (wkR_sig (WkR.cons (nW hu3 (.cons (iW hu4) (.cons (iW hu5) (.cons (sW hu6) (.cons (lW hu7) .nil))))).1 (nW hu3 (.cons (iW hu4) (.cons (iW hu5) (.cons (sW hu6) (.cons (lW hu7) .nil))))).2 (renL_mem (.cons rfl (.cons rfl (.cons rfl (.cons rfl .nil))))) (WkR.cons (nW hu8 (.cons (iW hu9) (.cons (iW hu10) (.cons (sW hu11) (.cons (lW hu12) .nil))))).1 (nW hu8 (.cons (iW hu9) (.cons (iW hu10) (.cons (sW hu11) (.cons (lW hu12) .nil))))).2 (renL_mem (.cons rfl (.cons rfl (.cons rfl (.cons rfl .nil))))) (WkR.nil _))) rfl) (l_z20_4_run b hb n n _ _ _ _ _ _ _ _ _ x hx)).mono ?_
  intro ex e s hq
  rcases x with x | x <;> (obtain ⟨rfl, rfl, rfl⟩ := hq; exact ⟨_, rfl, h⟩)
def K_z20 (v : V) (s : Sig) : Option (Bool) := Option.bind (V.boolOf v) fun u0 => some u0
theorem K_z20_wk {v : V} {s : Sig} {r : Bool} (h : K_z20 v s = some r) : Wk v (enc_z20 r) /\ WkS 0 s (encS_z20 r) := by
 unfold K_z20 at h
 obtain ⟨u0, hu0, h⟩ := ob h
 cases h
 exact ⟨(bW hu0), (WkS.none _)⟩
theorem f_z20_eq (b : B_z20) (n : Nat) (a0 : Int) (a1 : Int) (a2 : ByteArray) (a3 : List T) (a4 : Int) (a5 : Int) (a6 : ByteArray) (a7 : List T) : mF Tryz.prog (sp_z20 b n) 53 [(V.agg [(V.t (T.sc (.int .i64 a0))), (V.t (T.sc (.int .i64 a1))), (V.t (T.sc (.string a2))), (V.t (T.list a3))]), (V.agg [(V.t (T.sc (.int .i64 a4))), (V.t (T.sc (.int .i64 a5))), (V.t (T.sc (.string a6))), (V.t (T.list a7))])] [] K_z20 = f_z20 b n a0 a1 a2 a3 a4 a5 a6 a7 := by kernel_rfl
theorem f_z20_ok (b : B_z20) (hb : B_z20_ok b) (n : Nat) : ok_z20 (f_z20 b n) := fun a0 a1 a2 a3 a4 a5 a6 a7 r h => mF_ok sound (sp_z20_ok b hb n) code_z20_fn code_z20_body (forall_getD (d := .skip) 1 (by kernel_rfl) (fun i hi => match i, hi with | 0, _ => l_z20_4_ok b hb n | i + 1, hi => absurd hi (by omega))) (no_scope (by kernel_rfl)) ((f_z20_eq b n a0 a1 a2 a3 a4 a5 a6 a7).trans h) (fun v s hk => ⟨(K_z20_wk hk).1, rfl, (K_z20_wk hk).2⟩)
def unB_z20 (n : Nat) : Nat -> B_z20
 | 0 => { y8 := fun _ _ _ _ _ _ _ _ => none }
 | m + 1 => { y8 := f_z20 (unB_z20 n m) n }
theorem unB_z20_ok (n : Nat) : ∀ m, B_z20_ok (unB_z20 n m)
 | 0 => { y8 := fun _ _ _ _ _ _ _ _ _ h => (nomatch (show none = some _ from h)) }
 | m + 1 => { y8 := f_z20_ok _ (unB_z20_ok n m) n }
def m_z20 (n : Nat) : Int -> Int -> ByteArray -> List T -> Int -> Int -> ByteArray -> List T -> Option (Bool) := (unB_z20 n n).y8
theorem m_z20_ok (n : Nat) : ok_z20 (m_z20 n) := (unB_z20_ok n n).y8
structure B_z17 where
 y7 : List T -> List T -> Option (Bool)
def enc_z17 (r : Bool) : V := (V.t (T.sc (.bool r)))
def encS_z17 (r : Bool) : Sig := []
def ok_z17 (m : List T -> List T -> Option (Bool)) : Prop := ∀ (a0 : List T) (a1 : List T) (r : Bool), m a0 a1 = some r -> FuncOk Tryz.prog 27 [(V.t (T.list a0)), (V.t (T.list a1))] [] (enc_z17 r) (encS_z17 r)
def c_z17 (m : List T -> List T -> Option (Bool)) (vs : List V) (sg : Sig) : Option CallM := bif Nat.beq vs.length 2 && Nat.beq sg.length 0 then Option.bind (V.lstOf (vs.getD 0 .any)) fun u0 => Option.bind (V.lstOf (vs.getD 1 .any)) fun u1 => some { α := Bool, m := m u0 u1, dflt := false, enc := fun y => ((V.t (T.sc (.bool y))), []) } else none
theorem c_z17_ok (m : List T -> List T -> Option (Bool)) (hm : ok_z17 m) (vs : List V) (sg : Sig) (cm : CallM) (x : cm.α) (h : c_z17 m vs sg = some cm) (hx : cm.m = some x) : FuncOk Tryz.prog 27 vs sg (cm.enc x).1 (cm.enc x).2 := by
 unfold c_z17 at h
 obtain ⟨hl, hs, h⟩ := callee_sig h
 obtain ⟨u0, hu0, u1, hu1, h⟩ := ob2 h
 cases h
 exact (hm u0 u1 x hx).wk (args_wk hl (.cons (lW hu0) (.cons (lW hu1) .nil))) (wkSg_of hs .nil)
structure B_z17_ok (b : B_z17) : Prop where
 y7 : ok_z17 b.y7
def l_z17_4_B (b : B_z17) (n : Nat) (k : (List T) × (List T) × Int -> Option (((Unit) ⊕ Bool))) : (List T) × (List T) × Int -> Option (((Unit) ⊕ Bool)) := fun (s0, s1, s2) =>
bif (decide ((s2 : Int) < ((List.length s0 : Nat) : Int))) then (
Option.bind (idx true [.int .i64, .str, .str, .int .i64, .int .i64, .int .i64, .str, .list, .list, .list, .cplx .f64] s0 s2) fun y0 =>
Option.bind (idx true [.int .i64, .str, .str, .int .i64, .int .i64, .int .i64, .str, .list, .list, .list, .cplx .f64] s1 s2) fun y1 =>
Option.bind (bif !(bif (bif (bif (((y0.cell 0).int : Int) != (y1.cell 0).int) then true else (!(ByteArray.toList (y0.cell 1).str == ByteArray.toList (y1.cell 1).str))) then true else (!(ByteArray.toList (y0.cell 2).str == ByteArray.toList (y1.cell 2).str))) then true else (((y0.cell 3).int : Int) != (y1.cell 3).int)) then m_z20 n (y0.cell 4).int (y0.cell 5).int (y0.cell 6).str (y0.cell 7).lst (y1.cell 4).int (y1.cell 5).int (y1.cell 6).str (y1.cell 7).lst else some false) fun r2 =>
Option.bind (bif !(bif (bif (bif (bif (((y0.cell 0).int : Int) != (y1.cell 0).int) then true else (!(ByteArray.toList (y0.cell 1).str == ByteArray.toList (y1.cell 1).str))) then true else (!(ByteArray.toList (y0.cell 2).str == ByteArray.toList (y1.cell 2).str))) then true else (((y0.cell 3).int : Int) != (y1.cell 3).int)) then true else (!r2)) then b.y7 (y0.cell 8).lst (y1.cell 8).lst else some false) fun r3 =>
Option.bind (bif !(bif (bif (bif (bif (bif (((y0.cell 0).int : Int) != (y1.cell 0).int) then true else (!(ByteArray.toList (y0.cell 1).str == ByteArray.toList (y1.cell 1).str))) then true else (!(ByteArray.toList (y0.cell 2).str == ByteArray.toList (y1.cell 2).str))) then true else (((y0.cell 3).int : Int) != (y1.cell 3).int)) then true else (!r2)) then true else (!r3)) then b.y7 (y0.cell 9).lst (y1.cell 9).lst else some false) fun r4 =>
bif (bif (bif (bif (bif (bif (bif (((y0.cell 0).int : Int) != (y1.cell 0).int) then true else (!(ByteArray.toList (y0.cell 1).str == ByteArray.toList (y1.cell 1).str))) then true else (!(ByteArray.toList (y0.cell 2).str == ByteArray.toList (y1.cell 2).str))) then true else (((y0.cell 3).int : Int) != (y1.cell 3).int)) then true else (!r2)) then true else (!r3)) then true else (!r4)) then (
some (Sum.inr false))
else (
k (s0, s1, (IntKind.wrap .i64 (s2 + 1)))))
else (
some (Sum.inl ()))
def l_z17_4 (b : B_z17) (n : Nat) : Nat -> (List T) × (List T) × Int -> Option (((Unit) ⊕ Bool))
 | 0, _ => none
 | m + 1, s => l_z17_4_B b n (l_z17_4 b n m) s
def f_z17 (b : B_z17) (n : Nat) (a0 : List T) (a1 : List T) : Option (Bool) :=
bif ((((List.length a0 : Nat) : Int) : Int) != ((List.length a1 : Nat) : Int)) then (
some false)
else (
Option.bind (l_z17_4 b n n (a0, a1, 0)) fun x5 =>
Sum.elim (fun p6 =>
some true) (fun x5' => (fun p7 =>
some p7) x5') x5)
def code_z17 : Code := Tryz.f27.body.getD .skip
def l_z17_4_S (b : B_z17) (n : Nat) (R : Type) (E : SEnv) (sg : Sig) (K : Ex -> SEnv -> Sig -> Option R) : Option R := Option.bind (V.lstOf (SEnv.at E 0)) fun u0 => Option.bind (V.lstOf (SEnv.at E 1)) fun u1 => Option.bind (V.intOf .i64 (SEnv.at E 5)) fun u2 => Option.bind (l_z17_4 b n n (u0, u1, u2)) fun y => Sum.elim (fun p0 => K (.exit 0) [] []) (fun y' => (fun p1 => K .ret [(4, (V.t (T.sc (.bool p1))))] []) y') y
def sp_z17 (b : B_z17) (n : Nat) : Go.Eng.Spec := ⟨fun f vs sg => (match f with
  | 53 => c_z20 (m_z20 n) vs sg
  | 27 => c_z17 b.y7 vs sg
  | _ => none), fun R key E sg K => (match key with
  | 4 => l_z17_4_S b n R E sg K
  | _ => none)⟩
theorem sp_z17_ok (b : B_z17) (hb : B_z17_ok b) (n : Nat) : CallsOk Tryz.prog (sp_z17 b n) := by
 intro f vs sg cm x h hx
 simp only [sp_z17] at h
 split at h
 ·exact c_z20_ok _ (m_z20_ok n) vs sg cm x h hx
 ·exact c_z17_ok _ hb.y7 vs sg cm x h hx
 ·cases h
theorem code_z17_fn : Tryz.prog.funcs[27]? = some Tryz.f27 := Tryz.func27
theorem code_z17_body : Tryz.f27.body = some code_z17 := by kernel_rfl
theorem code_z17_ok : CodeOk Tryz.prog code_z17 := (sound 27 _ _ code_z17_fn code_z17_body).1
def code_l_z17_4 : Code := (loopsOf code_z17).getD 0 .skip
theorem code_l_z17_4_ok : CodeOk Tryz.prog code_l_z17_4 := codeOk_loops code_z17_ok _ (getD_mem (by kernel_rfl))
def l_z17_4_K (k : (List T) × (List T) × Int -> Option (((Unit) ⊕ Bool))) : Ex -> SEnv -> Sig -> Option (((Unit) ⊕ Bool)) := fun x E sg => match x with
 | .normal => Option.bind (V.lstOf (SEnv.at E 0)) fun u0 => Option.bind (V.lstOf (SEnv.at E 1)) fun u1 => Option.bind (V.intOf .i64 (SEnv.at E 5)) fun u2 => k (u0, u1, u2)
 | (.exit 0) => some (Sum.inl ())
 | .ret => Option.bind (V.boolOf (SEnv.at E 4)) fun u0 => some (Sum.inr u0)
 | _ => none
theorem l_z17_4_eq (b : B_z17) (n : Nat) (k : (List T) × (List T) × Int -> Option (((Unit) ⊕ Bool))) (s0 : List T) (s1 : List T) (s2 : Int) : mX Tryz.prog (sp_z17 b n) 77 code_l_z17_4 [(0, (V.t (T.list s0))), (1, (V.t (T.list s1))), (5, (V.t (T.sc (.int .i64 s2))))] [] (l_z17_4_K k) = l_z17_4_B b n k (s0, s1, s2) := by kernel_rfl
def l_z17_4_Q (x : ((Unit) ⊕ Bool)) (ex : Ex) (e : Env) (s : Sig) : Prop := Sum.elim (fun p0 => (ex = (.exit 0) /\ e = SEnv.env 77 [] /\ s = [])) (fun x' => (fun p1 => (ex = .ret /\ e = SEnv.env 77 [(4, (V.t (T.sc (.bool p1))))] /\ s = [])) x') x
theorem l_z17_4_run (b : B_z17) (hb : B_z17_ok b) (n : Nat) : ∀ (m : Nat) (s0 : List T) (s1 : List T) (s2 : Int) (x : ((Unit) ⊕ Bool)), l_z17_4 b n m (s0, s1, s2) = some x -> SemL Tryz.prog 0 code_l_z17_4 (SEnv.env 77 [(0, (V.t (T.list s0))), (1, (V.t (T.list s1))), (5, (V.t (T.sc (.int .i64 s2))))]) [] (l_z17_4_Q x)
 | 0, s0, s1, s2, x, h => by cases h
 | m + 1, s0, s1, s2, x, h => by
  refine loop_step (sp_z17_ok b hb n) code_l_z17_4_ok (nl (by kernel_rfl)) (no_scope (by kernel_rfl)) ((l_z17_4_eq b n _ s0 s1 s2).trans h) (fun E sg h => ?_) (fun ex E sg hne h => ?_)
  ·simp only [l_z17_4_K] at h
   obtain ⟨u0, hu0, u1, hu1, h⟩ := ob2 h
   obtain ⟨u2, hu2, h⟩ := ob h
   exact SemL.pre (k := 0) (by decide) (WkA.env (WkA.cons (lW hu0) rfl (WkA.cons (lW hu1) rfl (WkA.cons (iW hu2) rfl WkA.nil))) 77) (WkS.none _) (l_z17_4_run b hb n m _ _ _ x h)
  ·unfold l_z17_4_K at h
   split at h
   ·exact absurd rfl hne
   ·cases h
    exact ⟨0, _, _, by decide, WkA.env WkA.nil 77, (WkS.none _), rfl, rfl, rfl⟩
   ·obtain ⟨u0, hu0, h⟩ := ob h
    cases h
    exact ⟨0, _, _, by decide, WkA.env (WkA.cons (bW hu0) rfl WkA.nil) 77, (WkS.none _), rfl, rfl, rfl⟩
   ·cases h
theorem l_z17_4_ok (b : B_z17) (hb : B_z17_ok b) (n : Nat) : LoopOk Tryz.prog (sp_z17 b n) 0 77 code_l_z17_4 := by
  intro R key E sg K r hk h
  rw [show Go.Eng.keyOf code_l_z17_4 = some 4 from by kernel_rfl] at hk
  cases hk
  have h : l_z17_4_S b n R E sg K = some r := h
  unfold l_z17_4_S at h
  obtain ⟨u0, hu0, u1, hu1, u2, hu2, x, hx, h⟩ := ob4 h
  refine (SemL.pre (k := 0) (by decide) (WkA.env (WkA.cons (lW hu0) rfl (WkA.cons (lW hu1) rfl (WkA.cons (iW hu2) rfl WkA.nil))) 77) (WkS.none _) (l_z17_4_run b hb n n _ _ _ x hx)).mono ?_
  intro ex e s hq
  rcases x with x | x <;> (obtain ⟨rfl, rfl, rfl⟩ := hq; exact ⟨_, rfl, h⟩)
def K_z17 (v : V) (s : Sig) : Option (Bool) := Option.bind (V.boolOf v) fun u0 => some u0
theorem K_z17_wk {v : V} {s : Sig} {r : Bool} (h : K_z17 v s = some r) : Wk v (enc_z17 r) /\ WkS 0 s (encS_z17 r) := by
 unfold K_z17 at h
 obtain ⟨u0, hu0, h⟩ := ob h
 cases h
 exact ⟨(bW hu0), (WkS.none _)⟩
theorem f_z17_eq (b : B_z17) (n : Nat) (a0 : List T) (a1 : List T) : mF Tryz.prog (sp_z17 b n) 27 [(V.t (T.list a0)), (V.t (T.list a1))] [] K_z17 = f_z17 b n a0 a1 := by kernel_rfl
theorem f_z17_ok (b : B_z17) (hb : B_z17_ok b) (n : Nat) : ok_z17 (f_z17 b n) := fun a0 a1 r h => mF_ok sound (sp_z17_ok b hb n) code_z17_fn code_z17_body (forall_getD (d := .skip) 1 (by kernel_rfl) (fun i hi => match i, hi with | 0, _ => l_z17_4_ok b hb n | i + 1, hi => absurd hi (by omega))) (no_scope (by kernel_rfl)) ((f_z17_eq b n a0 a1).trans h) (fun v s hk => ⟨(K_z17_wk hk).1, rfl, (K_z17_wk hk).2⟩)
def unB_z17 (n : Nat) : Nat -> B_z17
 | 0 => { y7 := fun _ _ => none }
 | m + 1 => { y7 := f_z17 (unB_z17 n m) n }
theorem unB_z17_ok (n : Nat) : ∀ m, B_z17_ok (unB_z17 n m)
 | 0 => { y7 := fun _ _ _ h => (nomatch (show none = some _ from h)) }
 | m + 1 => { y7 := f_z17_ok _ (unB_z17_ok n m) n }
def m_z17 (n : Nat) : List T -> List T -> Option (Bool) := (unB_z17 n n).y7
theorem m_z17_ok (n : Nat) : ok_z17 (m_z17 n) := (unB_z17_ok n n).y7
def l_z38_4_B (n : Nat) (k : Int × (List T) × (List T) × (List T) × (List T) -> Option (((Bool × (List T) × (List T) × (List T) × (List T)) ⊕ (List T) × (List T) × (List T) × (List T)))) : Int × (List T) × (List T) × (List T) × (List T) -> Option (((Bool × (List T) × (List T) × (List T) × (List T)) ⊕ (List T) × (List T) × (List T) × (List T))) := fun (s0, s1, s2, s3, s4) =>
bif (decide ((s0 : Int) < ((List.length s2 : Nat) : Int))) then (
Option.bind (idx true [.list] s2 s0) fun y1 =>
Option.bind (idx true [.list] s4 s0) fun y2 =>
Option.bind (m_z17 n (y1.cell 0).lst (y2.cell 0).lst) fun r3 =>
bif (!r3) then (
some (Sum.inl (false, s1, s2, s3, s4)))
else (
k ((IntKind.wrap .i64 (s0 + 1)), s1, s2, s3, s4)))
else (
some (Sum.inr (s1, s2, s3, s4)))
def l_z38_4 (n : Nat) : Nat -> Int × (List T) × (List T) × (List T) × (List T) -> Option (((Bool × (List T) × (List T) × (List T) × (List T)) ⊕ (List T) × (List T) × (List T) × (List T)))
 | 0, _ => none
 | m + 1, s => l_z38_4_B n (l_z38_4 n m) s
def m_z38 (n : Nat) (a0 : List T) (a1 : List T) (a2 : List T) (a3 : List T) : Option (Bool) :=
Option.bind (m_z18 n a0 a2) fun r0 =>
bif (bif (!r0) then true else ((((List.length a1 : Nat) : Int) : Int) != ((List.length a3 : Nat) : Int))) then (
some false)
else (
Option.bind (l_z38_4 n n (0, a0, a1, a2, a3)) fun x4 =>
Sum.elim (fun p5 =>
some p5.1) (fun x4' => (fun p6 =>
some true) x4') x4)
def enc_z38 (r : Bool) : V := (V.t (T.sc (.bool r)))
def encS_z38 (r : Bool) : Sig := []
def ok_z38 (m : List T -> List T -> List T -> List T -> Option (Bool)) : Prop := ∀ (a0 : List T) (a1 : List T) (a2 : List T) (a3 : List T) (r : Bool), m a0 a1 a2 a3 = some r -> FuncOk Tryz.prog 22 [(V.agg [(V.t (T.list a0)), (V.t (T.list a1))]), (V.agg [(V.t (T.list a2)), (V.t (T.list a3))])] [] (enc_z38 r) (encS_z38 r)
def c_z38 (m : List T -> List T -> List T -> List T -> Option (Bool)) (vs : List V) (sg : Sig) : Option CallM := bif Nat.beq vs.length 2 && Nat.beq sg.length 0 then Option.bind (V.aggN 2 (vs.getD 0 .any)) fun u0 => Option.bind (V.lstOf (u0.getD 0 .any)) fun u1 => Option.bind (V.lstOf (u0.getD 1 .any)) fun u2 => Option.bind (V.aggN 2 (vs.getD 1 .any)) fun u3 => Option.bind (V.lstOf (u3.getD 0 .any)) fun u4 => Option.bind (V.lstOf (u3.getD 1 .any)) fun u5 => some { α := Bool, m := m u1 u2 u4 u5, dflt := false, enc := fun y => ((V.t (T.sc (.bool y))), []) } else none
theorem c_z38_ok (m : List T -> List T -> List T -> List T -> Option (Bool)) (hm : ok_z38 m) (vs : List V) (sg : Sig) (cm : CallM) (x : cm.α) (h : c_z38 m vs sg = some cm) (hx : cm.m = some x) : FuncOk Tryz.prog 22 vs sg (cm.enc x).1 (cm.enc x).2 := by
 unfold c_z38 at h
 obtain ⟨hl, hs, h⟩ := callee_sig h
 obtain ⟨u0, hu0, u1, hu1, u2, hu2, u3, hu3, h⟩ := ob4 h
 obtain ⟨u4, hu4, u5, hu5, h⟩ := ob2 h
 cases h
 exact (hm u1 u2 u4 u5 x hx).wk (args_wk hl (.cons (aggN_wk hu0 (.cons (lW hu1) (.cons (lW hu2) .nil))) (.cons (aggN_wk hu3 (.cons (lW hu4) (.cons (lW hu5) .nil))) .nil))) (wkSg_of hs .nil)
def code_z38 : Code := Tryz.f22.body.getD .skip
def l_z38_4_S (n : Nat) (R : Type) (E : SEnv) (sg : Sig) (K : Ex -> SEnv -> Sig -> Option R) : Option R := Option.bind (V.ptrOf 0 0 (SEnv.at E 2)) fun u0 => Option.bind (V.ptrOf 1 0 (SEnv.at E 3)) fun u1 => Option.bind (V.intOf .i64 (SEnv.at E 5)) fun u2 => Option.bind (cellsN 2 sg 0) fun u3 => Option.bind (V.lstOf (u3.getD 0 .any)) fun u4 => Option.bind (V.lstOf (u3.getD 1 .any)) fun u5 => Option.bind (cellsN 2 sg 1) fun u6 => Option.bind (V.lstOf (u6.getD 0 .any)) fun u7 => Option.bind (V.lstOf (u6.getD 1 .any)) fun u8 => Option.bind (l_z38_4 n n (u2, u4, u5, u7, u8)) fun y => Sum.elim (fun p0 => K .ret [(4, (V.t (T.sc (.bool p0.1))))] [some [(V.t (T.list p0.2.1)), (V.t (T.list p0.2.2.1))], some [(V.t (T.list p0.2.2.2.1)), (V.t (T.list p0.2.2.2.2))]]) (fun y' => (fun p1 => K (.exit 0) [] [some [(V.t (T.list p1.1)), (V.t (T.list p1.2.1))], some [(V.t (T.list p1.2.2.1)), (V.t (T.list p1.2.2.2))]]) y') y
def sp_z38 (n : Nat) : Go.Eng.Spec := ⟨fun f vs sg => (match f with
  | 28 => c_z18 (m_z18 n) vs sg
  | 27 => c_z17 (m_z17 n) vs sg
  | _ => none), fun R key E sg K => (match key with
  | 4 => l_z38_4_S n R E sg K
  | _ => none)⟩
theorem sp_z38_ok (n : Nat) : CallsOk Tryz.prog (sp_z38 n) := by
 intro f vs sg cm x h hx
 simp only [sp_z38] at h
 split at h
 ·exact c_z18_ok _ (m_z18_ok n) vs sg cm x h hx
 ·exact c_z17_ok _ (m_z17_ok n) vs sg cm x h hx
 ·cases h
theorem code_z38_fn : Tryz.prog.funcs[22]? = some Tryz.f22 := Tryz.func22
theorem code_z38_body : Tryz.f22.body = some code_z38 := by kernel_rfl
theorem code_z38_ok : CodeOk Tryz.prog code_z38 := (sound 22 _ _ code_z38_fn code_z38_body).1
def code_l_z38_4 : Code := (loopsOf code_z38).getD 0 .skip
theorem code_l_z38_4_ok : CodeOk Tryz.prog code_l_z38_4 := codeOk_loops code_z38_ok _ (getD_mem (by kernel_rfl))
def l_z38_4_K (k : Int × (List T) × (List T) × (List T) × (List T) -> Option (((Bool × (List T) × (List T) × (List T) × (List T)) ⊕ (List T) × (List T) × (List T) × (List T)))) : Ex -> SEnv -> Sig -> Option (((Bool × (List T) × (List T) × (List T) × (List T)) ⊕ (List T) × (List T) × (List T) × (List T))) := fun x E sg => match x with
 | .normal => Option.bind (V.ptrOf 0 0 (SEnv.at E 2)) fun u0 => Option.bind (V.ptrOf 1 0 (SEnv.at E 3)) fun u1 => Option.bind (V.intOf .i64 (SEnv.at E 5)) fun u2 => Option.bind (cellsN 2 sg 0) fun u3 => Option.bind (V.lstOf (u3.getD 0 .any)) fun u4 => Option.bind (V.lstOf (u3.getD 1 .any)) fun u5 => Option.bind (cellsN 2 sg 1) fun u6 => Option.bind (V.lstOf (u6.getD 0 .any)) fun u7 => Option.bind (V.lstOf (u6.getD 1 .any)) fun u8 => k (u2, u4, u5, u7, u8)
 | .ret => Option.bind (V.boolOf (SEnv.at E 4)) fun u0 => Option.bind (cellsN 2 sg 0) fun u1 => Option.bind (V.lstOf (u1.getD 0 .any)) fun u2 => Option.bind (V.lstOf (u1.getD 1 .any)) fun u3 => Option.bind (cellsN 2 sg 1) fun u4 => Option.bind (V.lstOf (u4.getD 0 .any)) fun u5 => Option.bind (V.lstOf (u4.getD 1 .any)) fun u6 => some (Sum.inl (u0, u2, u3, u5, u6))
 | (.exit 0) => Option.bind (cellsN 2 sg 0) fun u0 => Option.bind (V.lstOf (u0.getD 0 .any)) fun u1 => Option.bind (V.lstOf (u0.getD 1 .any)) fun u2 => Option.bind (cellsN 2 sg 1) fun u3 => Option.bind (V.lstOf (u3.getD 0 .any)) fun u4 => Option.bind (V.lstOf (u3.getD 1 .any)) fun u5 => some (Sum.inr (u1, u2, u4, u5))
 | _ => none
theorem l_z38_4_eq (n : Nat) (k : Int × (List T) × (List T) × (List T) × (List T) -> Option (((Bool × (List T) × (List T) × (List T) × (List T)) ⊕ (List T) × (List T) × (List T) × (List T)))) (s0 : Int) (s1 : List T) (s2 : List T) (s3 : List T) (s4 : List T) : mX Tryz.prog (sp_z38 n) 40 code_l_z38_4 [(2, (V.ptr 0 0)), (3, (V.ptr 1 0)), (5, (V.t (T.sc (.int .i64 s0))))] [some [(V.t (T.list s1)), (V.t (T.list s2))], some [(V.t (T.list s3)), (V.t (T.list s4))]] (l_z38_4_K k) = l_z38_4_B n k (s0, s1, s2, s3, s4) := by kernel_rfl
def l_z38_4_Q (x : ((Bool × (List T) × (List T) × (List T) × (List T)) ⊕ (List T) × (List T) × (List T) × (List T))) (ex : Ex) (e : Env) (s : Sig) : Prop := Sum.elim (fun p0 => (ex = .ret /\ e = SEnv.env 40 [(4, (V.t (T.sc (.bool p0.1))))] /\ s = [some [(V.t (T.list p0.2.1)), (V.t (T.list p0.2.2.1))], some [(V.t (T.list p0.2.2.2.1)), (V.t (T.list p0.2.2.2.2))]])) (fun x' => (fun p1 => (ex = (.exit 0) /\ e = SEnv.env 40 [] /\ s = [some [(V.t (T.list p1.1)), (V.t (T.list p1.2.1))], some [(V.t (T.list p1.2.2.1)), (V.t (T.list p1.2.2.2))]])) x') x
theorem l_z38_4_run (n : Nat) : ∀ (m : Nat) (s0 : Int) (s1 : List T) (s2 : List T) (s3 : List T) (s4 : List T) (x : ((Bool × (List T) × (List T) × (List T) × (List T)) ⊕ (List T) × (List T) × (List T) × (List T))), l_z38_4 n m (s0, s1, s2, s3, s4) = some x -> SemL Tryz.prog 0 code_l_z38_4 (SEnv.env 40 [(2, (V.ptr 0 0)), (3, (V.ptr 1 0)), (5, (V.t (T.sc (.int .i64 s0))))]) [some [(V.t (T.list s1)), (V.t (T.list s2))], some [(V.t (T.list s3)), (V.t (T.list s4))]] (l_z38_4_Q x)
 | 0, s0, s1, s2, s3, s4, x, h => by cases h
 | m + 1, s0, s1, s2, s3, s4, x, h => by
  refine loop_step (sp_z38_ok n) code_l_z38_4_ok (nl (by kernel_rfl)) (no_scope (by kernel_rfl)) ((l_z38_4_eq n _ s0 s1 s2 s3 s4).trans h) (fun E sg h => ?_) (fun ex E sg hne h => ?_)
  ·simp only [l_z38_4_K] at h
   obtain ⟨u0, hu0, u1, hu1, u2, hu2, u3, hu3, h⟩ := ob4 h
   obtain ⟨u4, hu4, u5, hu5, u6, hu6, u7, hu7, h⟩ := ob4 h
   obtain ⟨u8, hu8, h⟩ := ob h
   exact SemL.pre (k := 2) (by decide) (WkA.env (WkA.cons (pW hu0) rfl (WkA.cons (pW hu1) rfl (WkA.cons (iW hu2) rfl WkA.nil))) 40) (wkR_sig (WkR.cons (nW hu3 (.cons (lW hu4) (.cons (lW hu5) .nil))).1 (nW hu3 (.cons (lW hu4) (.cons (lW hu5) .nil))).2 (renL_mem (.cons rfl (.cons rfl .nil))) (WkR.cons (nW hu6 (.cons (lW hu7) (.cons (lW hu8) .nil))).1 (nW hu6 (.cons (lW hu7) (.cons (lW hu8) .nil))).2 (renL_mem (.cons rfl (.cons rfl .nil))) (WkR.nil _))) rfl) (l_z38_4_run n m _ _ _ _ _ x h)
  ·unfold l_z38_4_K at h
   split at h
   ·exact absurd rfl hne
   ·obtain ⟨u0, hu0, u1, hu1, u2, hu2, u3, hu3, h⟩ := ob4 h
    obtain ⟨u4, hu4, u5, hu5, h⟩ := ob2 h
    obtain ⟨u6, hu6, h⟩ := ob h
    cases h
    exact ⟨2, _, _, by decide, WkA.env (WkA.cons (bW hu0) rfl WkA.nil) 40, (wkR_sig (WkR.cons (nW hu1 (.cons (lW hu2) (.cons (lW hu3) .nil))).1 (nW hu1 (.cons (lW hu2) (.cons (lW hu3) .nil))).2 (renL_mem (.cons rfl (.cons rfl .nil))) (WkR.cons (nW hu4 (.cons (lW hu5) (.cons (lW hu6) .nil))).1 (nW hu4 (.cons (lW hu5) (.cons (lW hu6) .nil))).2 (renL_mem (.cons rfl (.cons rfl .nil))) (WkR.nil _))) rfl), rfl, rfl, rfl⟩
   ·obtain ⟨u0, hu0, u1, hu1, u2, hu2, u3, hu3, h⟩ := ob4 h
    obtain ⟨u4, hu4, u5, hu5, h⟩ := ob2 h
    cases h
    exact ⟨2, _, _, by decide, WkA.env WkA.nil 40, (wkR_sig (WkR.cons (nW hu0 (.cons (lW hu1) (.cons (lW hu2) .nil))).1 (nW hu0 (.cons (lW hu1) (.cons (lW hu2) .nil))).2 (renL_mem (.cons rfl (.cons rfl .nil))) (WkR.cons (nW hu3 (.cons (lW hu4) (.cons (lW hu5) .nil))).1 (nW hu3 (.cons (lW hu4) (.cons (lW hu5) .nil))).2 (renL_mem (.cons rfl (.cons rfl .nil))) (WkR.nil _))) rfl), rfl, rfl, rfl⟩
   ·cases h
theorem l_z38_4_ok (n : Nat) : LoopOk Tryz.prog (sp_z38 n) 0 40 code_l_z38_4 := by
  intro R key E sg K r hk h
  rw [show Go.Eng.keyOf code_l_z38_4 = some 4 from by kernel_rfl] at hk
  cases hk
  have h : l_z38_4_S n R E sg K = some r := h
  unfold l_z38_4_S at h
  obtain ⟨u0, hu0, u1, hu1, u2, hu2, u3, hu3, h⟩ := ob4 h
  obtain ⟨u4, hu4, u5, hu5, u6, hu6, u7, hu7, h⟩ := ob4 h
  obtain ⟨u8, hu8, x, hx, h⟩ := ob2 h
  refine (SemL.pre (k := 2) (by decide) (WkA.env (WkA.cons (pW hu0) rfl (WkA.cons (pW hu1) rfl (WkA.cons (iW hu2) rfl WkA.nil))) 40) (wkR_sig (WkR.cons (nW hu3 (.cons (lW hu4) (.cons (lW hu5) .nil))).1 (nW hu3 (.cons (lW hu4) (.cons (lW hu5) .nil))).2 (renL_mem (.cons rfl (.cons rfl .nil))) (WkR.cons (nW hu6 (.cons (lW hu7) (.cons (lW hu8) .nil))).1 (nW hu6 (.cons (lW hu7) (.cons (lW hu8) .nil))).2 (renL_mem (.cons rfl (.cons rfl .nil))) (WkR.nil _))) rfl) (l_z38_4_run n n _ _ _ _ _ x hx)).mono ?_
  intro ex e s hq
  rcases x with x | x <;> (obtain ⟨rfl, rfl, rfl⟩ := hq; exact ⟨_, rfl, h⟩)
def K_z38 (v : V) (s : Sig) : Option (Bool) := Option.bind (V.boolOf v) fun u0 => some u0
theorem K_z38_wk {v : V} {s : Sig} {r : Bool} (h : K_z38 v s = some r) : Wk v (enc_z38 r) /\ WkS 0 s (encS_z38 r) := by
 unfold K_z38 at h
 obtain ⟨u0, hu0, h⟩ := ob h
 cases h
 exact ⟨(bW hu0), (WkS.none _)⟩
theorem m_z38_eq (n : Nat) (a0 : List T) (a1 : List T) (a2 : List T) (a3 : List T) : mF Tryz.prog (sp_z38 n) 22 [(V.agg [(V.t (T.list a0)), (V.t (T.list a1))]), (V.agg [(V.t (T.list a2)), (V.t (T.list a3))])] [] K_z38 = m_z38 n a0 a1 a2 a3 := by kernel_rfl
theorem m_z38_ok (n : Nat) : ok_z38 (m_z38 n) := fun a0 a1 a2 a3 r h => mF_ok sound (sp_z38_ok n) code_z38_fn code_z38_body (forall_getD (d := .skip) 1 (by kernel_rfl) (fun i hi => match i, hi with | 0, _ => l_z38_4_ok n | i + 1, hi => absurd hi (by omega))) (no_scope (by kernel_rfl)) ((m_z38_eq n a0 a1 a2 a3).trans h) (fun v s hk => ⟨(K_z38_wk hk).1, rfl, (K_z38_wk hk).2⟩)
def m_suturelaw5_ParseShown (n : Nat) (a0 : Int) (a1 : List T) (a2 : List T) (a3 : List T) : Option (Bool) :=
Option.bind (m_z36 n a0 a1 a2 a3 4) fun r0 =>
Option.bind (m_z39 n r0.1 r0.2) fun r1 =>
Option.bind (m_z58 n r1) fun r2 =>
Option.bind (m_z31 n) fun r3 =>
bif (bif (!r3) then true else ((r2.2.2.2 : Int) != 0)) then (
some false)
else (
Option.bind (m_z38 n r0.1 r0.2 r2.1 r2.2.1) fun r4 =>
some r4)
def enc_suturelaw5_ParseShown (r : Bool) : V := (V.t (T.sc (.bool r)))
def encS_suturelaw5_ParseShown (r : Bool) : Sig := []
def ok_suturelaw5_ParseShown (m : Int -> List T -> List T -> List T -> Option (Bool)) : Prop := ∀ (a0 : Int) (a1 : List T) (a2 : List T) (a3 : List T) (r : Bool), m a0 a1 a2 a3 = some r -> FuncOk Tryz.prog 6 [(V.t (T.sc (.int .i64 a0))), (V.t (T.list a1)), (V.t (T.list a2)), (V.t (T.list a3))] [] (enc_suturelaw5_ParseShown r) (encS_suturelaw5_ParseShown r)
def code_suturelaw5_ParseShown : Code := Tryz.f6.body.getD .skip
def sp_suturelaw5_ParseShown (n : Nat) : Go.Eng.Spec := ⟨fun f vs sg => (match f with
  | 12 => c_z36 (m_z36 n) vs sg
  | 25 => c_z39 (m_z39 n) vs sg
  | 19 => c_z58 (m_z58 n) vs sg
  | 21 => c_z31 (m_z31 n) vs sg
  | 22 => c_z38 (m_z38 n) vs sg
  | _ => none), fun R key E sg K => (match key with
  | _ => none)⟩
theorem sp_suturelaw5_ParseShown_ok (n : Nat) : CallsOk Tryz.prog (sp_suturelaw5_ParseShown n) := by
 intro f vs sg cm x h hx
 simp only [sp_suturelaw5_ParseShown] at h
 split at h
 ·exact c_z36_ok _ (m_z36_ok n) vs sg cm x h hx
 ·exact c_z39_ok _ (m_z39_ok n) vs sg cm x h hx
 ·exact c_z58_ok _ (m_z58_ok n) vs sg cm x h hx
 ·exact c_z31_ok _ (m_z31_ok n) vs sg cm x h hx
 ·exact c_z38_ok _ (m_z38_ok n) vs sg cm x h hx
 ·cases h
theorem code_suturelaw5_ParseShown_fn : Tryz.prog.funcs[6]? = some Tryz.f6 := Tryz.func6
theorem code_suturelaw5_ParseShown_body : Tryz.f6.body = some code_suturelaw5_ParseShown := by kernel_rfl
def K_suturelaw5_ParseShown (v : V) (s : Sig) : Option (Bool) := Option.bind (V.boolOf v) fun u0 => some u0
theorem K_suturelaw5_ParseShown_wk {v : V} {s : Sig} {r : Bool} (h : K_suturelaw5_ParseShown v s = some r) : Wk v (enc_suturelaw5_ParseShown r) /\ WkS 0 s (encS_suturelaw5_ParseShown r) := by
 unfold K_suturelaw5_ParseShown at h
 obtain ⟨u0, hu0, h⟩ := ob h
 cases h
 exact ⟨(bW hu0), (WkS.none _)⟩
theorem m_suturelaw5_ParseShown_eq (n : Nat) (a0 : Int) (a1 : List T) (a2 : List T) (a3 : List T) : mF Tryz.prog (sp_suturelaw5_ParseShown n) 6 [(V.t (T.sc (.int .i64 a0))), (V.t (T.list a1)), (V.t (T.list a2)), (V.t (T.list a3))] [] K_suturelaw5_ParseShown = m_suturelaw5_ParseShown n a0 a1 a2 a3 := by kernel_rfl
theorem m_suturelaw5_ParseShown_ok (n : Nat) : ok_suturelaw5_ParseShown (m_suturelaw5_ParseShown n) := fun a0 a1 a2 a3 r h => mF_ok sound (sp_suturelaw5_ParseShown_ok n) code_suturelaw5_ParseShown_fn code_suturelaw5_ParseShown_body (nl (by kernel_rfl)) (no_scope (by kernel_rfl)) ((m_suturelaw5_ParseShown_eq n a0 a1 a2 a3).trans h) (fun v s hk => ⟨(K_suturelaw5_ParseShown_wk hk).1, rfl, (K_suturelaw5_ParseShown_wk hk).2⟩)
end
end Go.Proofs.YtbcgpjlkkcdmmaaGreatDoor.W
