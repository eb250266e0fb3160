/- What the engine's walk comes to, printed by a program of this work: for each function its model, and that it is one. No conditions. -/
import Derived.Test.YtbcgpjlkkcdmmaaGreatDoorS1
namespace Go.Proofs.YtbcgpjlkkcdmmaaGreatDoor.W
open Go Go.Eng
set_option linter.unusedVariables false
set_option linter.unusedSimpArgs false
set_option maxRecDepth 100000

/-! (*suture/expr.reader).factor -/
def f___expr_reader__factor (b : B___expr_reader__level) (n : Nat) (a0 : Int) (a1 : List T) (a2 : Int) (a3 : Bool) : Option (Int × Int × ByteArray × (List T) × (List T) × Int × Bool) :=
Option.bind (idx true [.int .i64, .str, .int .i64, .cplx .f64] a1 a2) fun y0 =>
Option.bind (m___expr_reader__is n (⟨#[45]⟩ : ByteArray) a1 a2 a3) fun r1 =>
Option.bind (m___expr_reader__is n (⟨#[40]⟩ : ByteArray) r1.2.1 r1.2.2.1 r1.2.2.2) fun r2 =>
bif r2.2.2.2 then (
some (0, 0, (⟨#[]⟩ : ByteArray), ([] : List T), r2.2.1, r2.2.2.1, r2.2.2.2))
else (
bif (((y0.cell 0).int : Int) == 2) then (
some (1, (y0.cell 2).int, (⟨#[]⟩ : ByteArray), ([] : List T), r2.2.1, (IntKind.wrap .i64 (r2.2.2.1 + 1)), r2.2.2.2))
else (
Option.bind (bif (((y0.cell 0).int : Int) == 1) then m_lex_IsName n (y0.cell 1).str else some false) fun r3 =>
bif (bif (((y0.cell 0).int : Int) == 1) then r3 else false) then (
some (2, 0, (y0.cell 1).str, ([] : List T), r2.2.1, (IntKind.wrap .i64 (r2.2.2.1 + 1)), r2.2.2.2))
else (
bif (bif (bif (!r1.1) then (!r2.1) else false) then true else ((a0 : Int) == 8)) then (
Option.bind (m___expr_reader__fail n r2.2.1 r2.2.2.1 r2.2.2.2) fun r4 =>
some (r4.1, r4.2.1, r4.2.2.1, r4.2.2.2.1, r4.2.2.2.2.1, r4.2.2.2.2.2.1, r4.2.2.2.2.2.2))
else (
bif r1.1 then (
Option.bind (b.__expr_reader__factor (IntKind.wrap .i64 (a0 + 1)) r2.2.1 (IntKind.wrap .i64 (r2.2.2.1 + 1)) r2.2.2.2) fun r5 =>
some (3, 0, (⟨#[]⟩ : ByteArray), [(T.agg [(T.sc (.int .i64 r5.1)), (T.sc (.int .i64 r5.2.1)), (T.sc (.string r5.2.2.1)), (T.list r5.2.2.2.1)])], r5.2.2.2.2.1, r5.2.2.2.2.2.1, r5.2.2.2.2.2.2))
else (
Option.bind (b.__expr_reader__level 0 (IntKind.wrap .i64 (a0 + 1)) r2.2.1 (IntKind.wrap .i64 (r2.2.2.1 + 1)) r2.2.2.2) fun r6 =>
Option.bind (m___expr_reader__is n (⟨#[41]⟩ : ByteArray) r6.2.2.2.2.1 r6.2.2.2.2.2.1 r6.2.2.2.2.2.2) fun r7 =>
bif (!r7.1) then (
Option.bind (m___expr_reader__fail n r7.2.1 r7.2.2.1 r7.2.2.2) fun r8 =>
some (r8.1, r8.2.1, r8.2.2.1, r8.2.2.2.1, r8.2.2.2.2.1, r8.2.2.2.2.2.1, r8.2.2.2.2.2.2))
else (
some (r6.1, r6.2.1, r6.2.2.1, r6.2.2.2.1, r7.2.1, (IntKind.wrap .i64 (r7.2.2.1 + 1)), r7.2.2.2)))))))
def cs___expr_reader__factor (b : B___expr_reader__level) (hb : B___expr_reader__level_ok b) (n : Nat) : List (CalF Tryz.prog) := [⟨d___expr_reader__is, m___expr_reader__is n, m___expr_reader__is_ok n⟩, ⟨d_lex_IsName, m_lex_IsName n, m_lex_IsName_ok n⟩, ⟨d___expr_reader__fail, m___expr_reader__fail n, m___expr_reader__fail_ok n⟩, ⟨d___expr_reader__factor, b.__expr_reader__factor, hb.__expr_reader__factor⟩, ⟨d___expr_reader__level, b.__expr_reader__level, hb.__expr_reader__level⟩]
def ls___expr_reader__factor (b : B___expr_reader__level) (n : Nat) : List LE := []
theorem f___expr_reader__factor_ok (b : B___expr_reader__level) (hb : B___expr_reader__level_ok b) (n : Nat) : Ok Tryz.prog d___expr_reader__factor (f___expr_reader__factor b n) := fnOk sound (cs := cs___expr_reader__factor b hb n) (ls := ls___expr_reader__factor b n) (n := 106) Tryz.func172 (by kernel_rfl) (fun _ => by kernel_rfl) (inner (by kernel_rfl) allN) (innerS (by kernel_rfl) allN) (by kernel_rfl) (fun a => by kernel_rfl)
def unB___expr_reader__level (n : Nat) : Nat → B___expr_reader__level
  | 0 => { __expr_reader__level := fun _ _ _ _ _ => none, __expr_reader__factor := fun _ _ _ _ => none }
  | m + 1 => { __expr_reader__level := f___expr_reader__level (unB___expr_reader__level n m) n, __expr_reader__factor := f___expr_reader__factor (unB___expr_reader__level n m) n }
theorem unB___expr_reader__level_ok (n : Nat) : ∀ m, B___expr_reader__level_ok (unB___expr_reader__level n m)
  | 0 => { __expr_reader__level := fun _ _ h => (nomatch (show none = some _ from h)), __expr_reader__factor := fun _ _ h => (nomatch (show none = some _ from h)) }
  | m + 1 => { __expr_reader__level := f___expr_reader__level_ok _ (unB___expr_reader__level_ok n m) n, __expr_reader__factor := f___expr_reader__factor_ok _ (unB___expr_reader__level_ok n m) n }
def m___expr_reader__level (n : Nat) : Int → Int → List T → Int → Bool → Option (Int × Int × ByteArray × (List T) × (List T) × Int × Bool) := (unB___expr_reader__level n n).__expr_reader__level
theorem m___expr_reader__level_ok (n : Nat) : Ok Tryz.prog d___expr_reader__level (m___expr_reader__level n) := (unB___expr_reader__level_ok n n).__expr_reader__level
def m___expr_reader__factor (n : Nat) : Int → List T → Int → Bool → Option (Int × Int × ByteArray × (List T) × (List T) × Int × Bool) := (unB___expr_reader__level n n).__expr_reader__factor
theorem m___expr_reader__factor_ok (n : Nat) : Ok Tryz.prog d___expr_reader__factor (m___expr_reader__factor n) := (unB___expr_reader__level_ok n n).__expr_reader__factor


/-! suture/expr.Read -/
def m_expr_Read (n : Nat) (a0 : List T) (a1 : Int) : Option (Int × Int × ByteArray × (List T) × Int × Bool) :=
Option.bind (m___expr_reader__level n 0 0 a0 a1 false) fun r0 =>
bif r0.2.2.2.2.2.2 then (
some (0, 0, (⟨#[]⟩ : ByteArray), ([] : List T), r0.2.2.2.2.2.1, false))
else (
some (r0.1, r0.2.1, r0.2.2.1, r0.2.2.2.1, r0.2.2.2.2.2.1, true))
def d_expr_Read : FnF := ⟨136, [.list, .int .i64], [.tup 3, .agg 4, .int .i64, .int .i64, .str, .list, .int .i64, .bool]⟩
def cs_expr_Read (n : Nat) : List (CalF Tryz.prog) := [⟨d___expr_reader__level, m___expr_reader__level n, m___expr_reader__level_ok n⟩]
def ls_expr_Read (n : Nat) : List LE := []
theorem m_expr_Read_ok (n : Nat) : Ok Tryz.prog d_expr_Read (m_expr_Read n) := fnOk sound (cs := cs_expr_Read n) (ls := ls_expr_Read n) (n := 28) Tryz.func136 (by kernel_rfl) (fun _ => by kernel_rfl) (inner (by kernel_rfl) allN) (innerS (by kernel_rfl) allN) (by kernel_rfl) (fun a => by kernel_rfl)


/-! (*suture/parse.reader).expr -/
def m___parse_reader__expr (n : Nat) (a0 : List T) (a1 : Int) (a2 : Bool) : Option (Int × Int × ByteArray × (List T) × (List T) × Int × Bool) :=
bif a2 then (
some (0, 0, (⟨#[]⟩ : ByteArray), ([] : List T), a0, a1, a2))
else (
Option.bind (m_expr_Read n a0 a1) fun r0 =>
some (r0.1, r0.2.1, r0.2.2.1, r0.2.2.2.1, a0, r0.2.2.2.2.1, (!r0.2.2.2.2.2)))
def d___parse_reader__expr : FnF := ⟨151, [.ptr 0 0, .box 3, .list, .int .i64, .bool], [.agg 4, .int .i64, .int .i64, .str, .list, .box 3, .list, .int .i64, .bool]⟩
def cs___parse_reader__expr (n : Nat) : List (CalF Tryz.prog) := [⟨d_expr_Read, m_expr_Read n, m_expr_Read_ok n⟩]
def ls___parse_reader__expr (n : Nat) : List LE := []
theorem m___parse_reader__expr_ok (n : Nat) : Ok Tryz.prog d___parse_reader__expr (m___parse_reader__expr n) := fnOk sound (cs := cs___parse_reader__expr n) (ls := ls___parse_reader__expr n) (n := 34) Tryz.func151 (by kernel_rfl) (fun _ => by kernel_rfl) (inner (by kernel_rfl) allN) (innerS (by kernel_rfl) allN) (by kernel_rfl) (fun a => by kernel_rfl)


/-! __parse_reader__block, __parse_reader__stmt: a circle -/
structure B___parse_reader__block where
  __parse_reader__block : Int → List T → Int → Bool → Option ((List T) × (List T) × Int × Bool)
  __parse_reader__stmt : Int → List T → Int → Bool → Option (Int × ByteArray × ByteArray × Int × Int × Int × ByteArray × (List T) × (List T) × (List T) × (Nat × Nat) × (List T) × Int × Bool)
def d___parse_reader__block : FnF := ⟨81, [.ptr 0 0, .int .i64, .box 3, .list, .int .i64, .bool], [.own 11, .box 3, .list, .int .i64, .bool]⟩
def d___parse_reader__stmt : FnF := ⟨118, [.ptr 0 0, .int .i64, .box 3, .list, .int .i64, .bool], [.agg 11, .int .i64, .str, .str, .int .i64, .int .i64, .int .i64, .str, .list, .list, .list, .cplx .f64, .box 3, .list, .int .i64, .bool]⟩
structure B___parse_reader__block_ok (b : B___parse_reader__block) : Prop where
  __parse_reader__block : Ok Tryz.prog d___parse_reader__block b.__parse_reader__block
  __parse_reader__stmt : Ok Tryz.prog d___parse_reader__stmt b.__parse_reader__stmt

/-! (*suture/parse.reader).block -/
def l___parse_reader__block_5_B (b : B___parse_reader__block) (n : Nat) (k : Int × (List T) × (List T) × Int × Bool → Option ((List T) × (List T) × Int × Bool)) : Int × (List T) × (List T) × Int × Bool → Option ((List T) × (List T) × Int × Bool) := fun (s0, s1, s2, s3, s4) =>
Option.bind (bif (!s4) then m___parse_reader__is n (⟨#[125]⟩ : ByteArray) s2 s3 s4 else some (false, [], 0, false)) fun r2 =>
bif (bif (!s4) then (!r2.1) else false) then (
Option.bind (b.__parse_reader__stmt (IntKind.wrap .i64 (s0 + 1)) (bif (!s4) then r2.2.1 else s2) (bif (!s4) then r2.2.2.1 else s3) (bif (!s4) then r2.2.2.2 else s4)) fun r3 =>
must true ((Nat.beq 11 11 || Nat.beq 11 0) && (decide (List.length s1 + List.length [(T.agg [(T.sc (.int .i64 r3.1)), (T.sc (.string r3.2.1)), (T.sc (.string r3.2.2.1)), (T.sc (.int .i64 r3.2.2.2.1)), (T.sc (.int .i64 r3.2.2.2.2.1)), (T.sc (.int .i64 r3.2.2.2.2.2.1)), (T.sc (.string r3.2.2.2.2.2.2.1)), (T.list r3.2.2.2.2.2.2.2.1), (T.list r3.2.2.2.2.2.2.2.2.1), (T.list r3.2.2.2.2.2.2.2.2.2.1), (T.sc (.complex .f64 r3.2.2.2.2.2.2.2.2.2.2.1.1 r3.2.2.2.2.2.2.2.2.2.2.1.2))])] ≤ 1073741824) && sized 11 [(T.agg [(T.sc (.int .i64 r3.1)), (T.sc (.string r3.2.1)), (T.sc (.string r3.2.2.1)), (T.sc (.int .i64 r3.2.2.2.1)), (T.sc (.int .i64 r3.2.2.2.2.1)), (T.sc (.int .i64 r3.2.2.2.2.2.1)), (T.sc (.string r3.2.2.2.2.2.2.1)), (T.list r3.2.2.2.2.2.2.2.1), (T.list r3.2.2.2.2.2.2.2.2.1), (T.list r3.2.2.2.2.2.2.2.2.2.1), (T.sc (.complex .f64 r3.2.2.2.2.2.2.2.2.2.2.1.1 r3.2.2.2.2.2.2.2.2.2.2.1.2))])])) (k (s0, (s1 ++ [(T.agg [(T.sc (.int .i64 r3.1)), (T.sc (.string r3.2.1)), (T.sc (.string r3.2.2.1)), (T.sc (.int .i64 r3.2.2.2.1)), (T.sc (.int .i64 r3.2.2.2.2.1)), (T.sc (.int .i64 r3.2.2.2.2.2.1)), (T.sc (.string r3.2.2.2.2.2.2.1)), (T.list r3.2.2.2.2.2.2.2.1), (T.list r3.2.2.2.2.2.2.2.2.1), (T.list r3.2.2.2.2.2.2.2.2.2.1), (T.sc (.complex .f64 r3.2.2.2.2.2.2.2.2.2.2.1.1 r3.2.2.2.2.2.2.2.2.2.2.1.2))])]), r3.2.2.2.2.2.2.2.2.2.2.2.1, r3.2.2.2.2.2.2.2.2.2.2.2.2.1, r3.2.2.2.2.2.2.2.2.2.2.2.2.2)))
else (
some (s1, (bif (!s4) then r2.2.1 else s2), (bif (!s4) then r2.2.2.1 else s3), (bif (!s4) then r2.2.2.2 else s4)))
def l___parse_reader__block_5 (b : B___parse_reader__block) (n : Nat) : Nat → Int × (List T) × (List T) × Int × Bool → Option ((List T) × (List T) × Int × Bool)
  | 0, _ => none
  | m + 1, s => l___parse_reader__block_5_B b n (l___parse_reader__block_5 b n m) s
def f___parse_reader__block (b : B___parse_reader__block) (n : Nat) (a0 : Int) (a1 : List T) (a2 : Int) (a3 : Bool) : Option ((List T) × (List T) × Int × Bool) :=
bif ((a0 : Int) == 8) then (
Option.bind (m___parse_reader__fail n a1 a2 a3) fun r0 =>
Option.bind (m___parse_reader__must n (⟨#[123]⟩ : ByteArray) r0.1 r0.2.1 r0.2.2) fun r1 =>
Option.bind (l___parse_reader__block_5 b n n (a0, ([] : List T), r1.1, r1.2.1, r1.2.2)) fun p5 =>
Option.bind (m___parse_reader__must n (⟨#[125]⟩ : ByteArray) p5.2.1 p5.2.2.1 p5.2.2.2) fun r6 =>
Option.bind (m_slices_Clip___api_Stmt_api_Stmt_ n p5.1) fun r7 =>
some (r7, r6.1, r6.2.1, r6.2.2))
else (
Option.bind (m___parse_reader__must n (⟨#[123]⟩ : ByteArray) a1 a2 a3) fun r8 =>
Option.bind (l___parse_reader__block_5 b n n (a0, ([] : List T), r8.1, r8.2.1, r8.2.2)) fun p10 =>
Option.bind (m___parse_reader__must n (⟨#[125]⟩ : ByteArray) p10.2.1 p10.2.2.1 p10.2.2.2) fun r11 =>
Option.bind (m_slices_Clip___api_Stmt_api_Stmt_ n p10.1) fun r12 =>
some (r12, r11.1, r11.2.1, r11.2.2))
def cs___parse_reader__block (b : B___parse_reader__block) (hb : B___parse_reader__block_ok b) (n : Nat) : List (CalF Tryz.prog) := [⟨d___parse_reader__fail, m___parse_reader__fail n, m___parse_reader__fail_ok n⟩, ⟨d___parse_reader__must, m___parse_reader__must n, m___parse_reader__must_ok n⟩, ⟨d___parse_reader__is, m___parse_reader__is n, m___parse_reader__is_ok n⟩, ⟨d___parse_reader__stmt, b.__parse_reader__stmt, hb.__parse_reader__stmt⟩, ⟨d_slices_Clip___api_Stmt_api_Stmt_, m_slices_Clip___api_Stmt_api_Stmt_ n, m_slices_Clip___api_Stmt_api_Stmt__ok n⟩]
def L_l___parse_reader__block_5 : LF := ⟨5, [0, 1, 5], [.ptr 0 0, .int .i64, .own 11, .box 3, .list, .int .i64, .bool], [⟨(.exit 0), [0, 5], [.ptr 0 0, .own 11, .box 3, .list, .int .i64, .bool]⟩]⟩
def ls___parse_reader__block (b : B___parse_reader__block) (n : Nat) : List LE := [⟨5, loopS L_l___parse_reader__block_5 (l___parse_reader__block_5 b n n)⟩]
theorem l___parse_reader__block_5_ok (b : B___parse_reader__block) (hb : B___parse_reader__block_ok b) (n : Nat) : LoopOk Tryz.prog (mkSpec (cs___parse_reader__block b hb n) (ls___parse_reader__block b n)) 1 33 (loopAt Tryz.f81 0) := loopOk (L := L_l___parse_reader__block_5) (f := l___parse_reader__block_5 b n) (B := l___parse_reader__block_5_B b n) (k := n) (loopAt_ok sound Tryz.func81 (by kernel_rfl)) (inner (by kernel_rfl) allN) (innerS (by kernel_rfl) allN) (fun _ => rfl) (fun _ _ => rfl) (by kernel_rfl) (fun _ => by kernel_rfl) (by kernel_rfl) (fun k a => by kernel_rfl)
theorem f___parse_reader__block_ok (b : B___parse_reader__block) (hb : B___parse_reader__block_ok b) (n : Nat) : Ok Tryz.prog d___parse_reader__block (f___parse_reader__block b n) := fnOk sound (cs := cs___parse_reader__block b hb n) (ls := ls___parse_reader__block b n) (n := 33) Tryz.func81 (by kernel_rfl) (fun _ => by kernel_rfl) (inner (by kernel_rfl) (allC (l___parse_reader__block_5_ok b hb n) allN)) (innerS (by kernel_rfl) allN) (by kernel_rfl) (fun a => by kernel_rfl)

/-! (*suture/parse.reader).stmt -/
def f___parse_reader__stmt (b : B___parse_reader__block) (n : Nat) (a0 : Int) (a1 : List T) (a2 : Int) (a3 : Bool) : Option (Int × ByteArray × ByteArray × Int × Int × Int × ByteArray × (List T) × (List T) × (List T) × (Nat × Nat) × (List T) × Int × Bool) :=
Option.bind (idx true [.int .i64, .str, .int .i64, .cplx .f64] a1 a2) fun y0 =>
bif (((y0.cell 0).int : Int) != 1) then (
Option.bind (m___parse_reader__fail n a1 a2 a3) fun r1 =>
some (0, (⟨#[]⟩ : ByteArray), (⟨#[]⟩ : ByteArray), 0, 0, 0, (⟨#[]⟩ : ByteArray), ([] : List T), ([] : List T), ([] : List T), ((y0.cell 3).re, (y0.cell 3).im), r1.1, r1.2.1, r1.2.2))
else (
Option.bind (m_lex_IsName n (y0.cell 1).str) fun r2 =>
bif r2 then (
Option.bind (m___parse_reader__name n a1 a2 a3) fun r3 =>
Option.bind (m___parse_reader__must n (⟨#[61]⟩ : ByteArray) r3.2.1 r3.2.2.1 r3.2.2.2) fun r4 =>
Option.bind (m___parse_reader__expr n r4.1 r4.2.1 r4.2.2) fun r5 =>
some (1, r3.1, (⟨#[]⟩ : ByteArray), 0, r5.1, r5.2.1, r5.2.2.1, r5.2.2.2.1, ([] : List T), ([] : List T), ((y0.cell 3).re, (y0.cell 3).im), r5.2.2.2.2.1, r5.2.2.2.2.2.1, r5.2.2.2.2.2.2))
else (
bif (ByteArray.toList (y0.cell 1).str == ByteArray.toList (⟨#[108, 111, 99, 107]⟩ : ByteArray)) then (
Option.bind (m___parse_reader__name n a1 (IntKind.wrap .i64 (a2 + 1)) a3) fun r6 =>
some (2, r6.1, (⟨#[]⟩ : ByteArray), 0, 0, 0, (⟨#[]⟩ : ByteArray), ([] : List T), ([] : List T), ([] : List T), ((y0.cell 3).re, (y0.cell 3).im), r6.2.1, r6.2.2.1, r6.2.2.2))
else (
bif (ByteArray.toList (y0.cell 1).str == ByteArray.toList (⟨#[117, 110, 108, 111, 99, 107]⟩ : ByteArray)) then (
Option.bind (m___parse_reader__name n a1 (IntKind.wrap .i64 (a2 + 1)) a3) fun r7 =>
some (3, r7.1, (⟨#[]⟩ : ByteArray), 0, 0, 0, (⟨#[]⟩ : ByteArray), ([] : List T), ([] : List T), ([] : List T), ((y0.cell 3).re, (y0.cell 3).im), r7.2.1, r7.2.2.1, r7.2.2.2))
else (
bif (ByteArray.toList (y0.cell 1).str == ByteArray.toList (⟨#[115, 101, 110, 100]⟩ : ByteArray)) then (
Option.bind (m___parse_reader__name n a1 (IntKind.wrap .i64 (a2 + 1)) a3) fun r8 =>
Option.bind (m___parse_reader__expr n r8.2.1 r8.2.2.1 r8.2.2.2) fun r9 =>
some (4, r8.1, (⟨#[]⟩ : ByteArray), 0, r9.1, r9.2.1, r9.2.2.1, r9.2.2.2.1, ([] : List T), ([] : List T), ((y0.cell 3).re, (y0.cell 3).im), r9.2.2.2.2.1, r9.2.2.2.2.2.1, r9.2.2.2.2.2.2))
else (
bif (ByteArray.toList (y0.cell 1).str == ByteArray.toList (⟨#[114, 101, 99, 118]⟩ : ByteArray)) then (
Option.bind (m___parse_reader__name n a1 (IntKind.wrap .i64 (a2 + 1)) a3) fun r10 =>
Option.bind (m___parse_reader__name n r10.2.1 r10.2.2.1 r10.2.2.2) fun r11 =>
some (5, r10.1, r11.1, 0, 0, 0, (⟨#[]⟩ : ByteArray), ([] : List T), ([] : List T), ([] : List T), ((y0.cell 3).re, (y0.cell 3).im), r11.2.1, r11.2.2.1, r11.2.2.2))
else (
bif (ByteArray.toList (y0.cell 1).str == ByteArray.toList (⟨#[112, 114, 105, 110, 116]⟩ : ByteArray)) then (
Option.bind (m___parse_reader__expr n a1 (IntKind.wrap .i64 (a2 + 1)) a3) fun r12 =>
some (6, (⟨#[]⟩ : ByteArray), (⟨#[]⟩ : ByteArray), 0, r12.1, r12.2.1, r12.2.2.1, r12.2.2.2.1, ([] : List T), ([] : List T), ((y0.cell 3).re, (y0.cell 3).im), r12.2.2.2.2.1, r12.2.2.2.2.2.1, r12.2.2.2.2.2.2))
else (
bif (ByteArray.toList (y0.cell 1).str == ByteArray.toList (⟨#[105, 102]⟩ : ByteArray)) then (
Option.bind (m___parse_reader__expr n a1 (IntKind.wrap .i64 (a2 + 1)) a3) fun r13 =>
Option.bind (b.__parse_reader__block a0 r13.2.2.2.2.1 r13.2.2.2.2.2.1 r13.2.2.2.2.2.2) fun r14 =>
Option.bind (m___parse_reader__is n (⟨#[101, 108, 115, 101]⟩ : ByteArray) r14.2.1 r14.2.2.1 r14.2.2.2) fun r15 =>
bif r15.1 then (
Option.bind (b.__parse_reader__block a0 r15.2.1 (IntKind.wrap .i64 (r15.2.2.1 + 1)) r15.2.2.2) fun r16 =>
some (7, (⟨#[]⟩ : ByteArray), (⟨#[]⟩ : ByteArray), 0, r13.1, r13.2.1, r13.2.2.1, r13.2.2.2.1, r14.1, r16.1, ((y0.cell 3).re, (y0.cell 3).im), r16.2.1, r16.2.2.1, r16.2.2.2))
else (
some (7, (⟨#[]⟩ : ByteArray), (⟨#[]⟩ : ByteArray), 0, r13.1, r13.2.1, r13.2.2.1, r13.2.2.2.1, r14.1, ([] : List T), ((y0.cell 3).re, (y0.cell 3).im), r15.2.1, r15.2.2.1, r15.2.2.2)))
else (
bif (ByteArray.toList (y0.cell 1).str == ByteArray.toList (⟨#[114, 101, 112, 101, 97, 116]⟩ : ByteArray)) then (
Option.bind (m___parse_reader__number n 9 a1 (IntKind.wrap .i64 (a2 + 1)) a3) fun r17 =>
Option.bind (b.__parse_reader__block a0 r17.2.1 r17.2.2.1 r17.2.2.2) fun r18 =>
some (8, (⟨#[]⟩ : ByteArray), (⟨#[]⟩ : ByteArray), r17.1, 0, 0, (⟨#[]⟩ : ByteArray), ([] : List T), r18.1, ([] : List T), ((y0.cell 3).re, (y0.cell 3).im), r18.2.1, r18.2.2.1, r18.2.2.2))
else (
bif (ByteArray.toList (y0.cell 1).str == ByteArray.toList (⟨#[103, 111, 116, 111]⟩ : ByteArray)) then (
Option.bind (m___parse_reader__name n a1 (IntKind.wrap .i64 (a2 + 1)) a3) fun r19 =>
some (9, r19.1, (⟨#[]⟩ : ByteArray), 0, 0, 0, (⟨#[]⟩ : ByteArray), ([] : List T), ([] : List T), ([] : List T), ((y0.cell 3).re, (y0.cell 3).im), r19.2.1, r19.2.2.1, r19.2.2.2))
else (
bif (ByteArray.toList (y0.cell 1).str == ByteArray.toList (⟨#[108, 97, 98, 101, 108]⟩ : ByteArray)) then (
Option.bind (m___parse_reader__name n a1 (IntKind.wrap .i64 (a2 + 1)) a3) fun r20 =>
some (10, r20.1, (⟨#[]⟩ : ByteArray), 0, 0, 0, (⟨#[]⟩ : ByteArray), ([] : List T), ([] : List T), ([] : List T), ((y0.cell 3).re, (y0.cell 3).im), r20.2.1, r20.2.2.1, r20.2.2.2))
else (
Option.bind (m___parse_reader__fail n a1 (IntKind.wrap .i64 ((IntKind.wrap .i64 (a2 + 1)) - 1)) a3) fun r21 =>
some (0, (⟨#[]⟩ : ByteArray), (⟨#[]⟩ : ByteArray), 0, 0, 0, (⟨#[]⟩ : ByteArray), ([] : List T), ([] : List T), ([] : List T), ((y0.cell 3).re, (y0.cell 3).im), r21.1, r21.2.1, r21.2.2))))))))))))
def cs___parse_reader__stmt (b : B___parse_reader__block) (hb : B___parse_reader__block_ok b) (n : Nat) : List (CalF Tryz.prog) := [⟨d___parse_reader__fail, m___parse_reader__fail n, m___parse_reader__fail_ok n⟩, ⟨d_lex_IsName, m_lex_IsName n, m_lex_IsName_ok n⟩, ⟨d___parse_reader__name, m___parse_reader__name n, m___parse_reader__name_ok n⟩, ⟨d___parse_reader__must, m___parse_reader__must n, m___parse_reader__must_ok n⟩, ⟨d___parse_reader__expr, m___parse_reader__expr n, m___parse_reader__expr_ok n⟩, ⟨d___parse_reader__block, b.__parse_reader__block, hb.__parse_reader__block⟩, ⟨d___parse_reader__is, m___parse_reader__is n, m___parse_reader__is_ok n⟩, ⟨d___parse_reader__number, m___parse_reader__number n, m___parse_reader__number_ok n⟩]
def ls___parse_reader__stmt (b : B___parse_reader__block) (n : Nat) : List LE := []
theorem f___parse_reader__stmt_ok (b : B___parse_reader__block) (hb : B___parse_reader__block_ok b) (n : Nat) : Ok Tryz.prog d___parse_reader__stmt (f___parse_reader__stmt b n) := fnOk sound (cs := cs___parse_reader__stmt b hb n) (ls := ls___parse_reader__stmt b n) (n := 139) Tryz.func118 (by kernel_rfl) (fun _ => by kernel_rfl) (inner (by kernel_rfl) allN) (innerS (by kernel_rfl) allN) (by kernel_rfl) (fun a => by kernel_rfl)
def unB___parse_reader__block (n : Nat) : Nat → B___parse_reader__block
  | 0 => { __parse_reader__block := fun _ _ _ _ => none, __parse_reader__stmt := fun _ _ _ _ => none }
  | m + 1 => { __parse_reader__block := f___parse_reader__block (unB___parse_reader__block n m) n, __parse_reader__stmt := f___parse_reader__stmt (unB___parse_reader__block n m) n }
theorem unB___parse_reader__block_ok (n : Nat) : ∀ m, B___parse_reader__block_ok (unB___parse_reader__block n m)
  | 0 => { __parse_reader__block := fun _ _ h => (nomatch (show none = some _ from h)), __parse_reader__stmt := fun _ _ h => (nomatch (show none = some _ from h)) }
  | m + 1 => { __parse_reader__block := f___parse_reader__block_ok _ (unB___parse_reader__block_ok n m) n, __parse_reader__stmt := f___parse_reader__stmt_ok _ (unB___parse_reader__block_ok n m) n }
def m___parse_reader__block (n : Nat) : Int → List T → Int → Bool → Option ((List T) × (List T) × Int × Bool) := (unB___parse_reader__block n n).__parse_reader__block
theorem m___parse_reader__block_ok (n : Nat) : Ok Tryz.prog d___parse_reader__block (m___parse_reader__block n) := (unB___parse_reader__block_ok n n).__parse_reader__block
def m___parse_reader__stmt (n : Nat) : Int → List T → Int → Bool → Option (Int × ByteArray × ByteArray × Int × Int × Int × ByteArray × (List T) × (List T) × (List T) × (Nat × Nat) × (List T) × Int × Bool) := (unB___parse_reader__block n n).__parse_reader__stmt
theorem m___parse_reader__stmt_ok (n : Nat) : Ok Tryz.prog d___parse_reader__stmt (m___parse_reader__stmt n) := (unB___parse_reader__block_ok n n).__parse_reader__stmt


/-! slices.Clip[[][]suture/api.Stmt,[]suture/api.Stmt] -/
def m_slices_Clip_____api_Stmt___api_Stmt_ (n : Nat) (a0 : List T) : Option ((List T)) :=
must true (decide (0 ≤ 0) && decide (0 ≤ ((List.length a0 : Nat) : Int)) && decide (((List.length a0 : Nat) : Int) ≤ ((List.length a0 : Nat) : Int)) && sized 1 a0) (must true (decide (((List.length a0 : Nat) : Int) = ((List.length a0 : Nat) : Int))) (some (List.drop (Int.toNat 0) (List.take (Int.toNat ((List.length a0 : Nat) : Int)) a0))))
def d_slices_Clip_____api_Stmt___api_Stmt_ : FnF := ⟨82, [.list], [.own 1]⟩
def cs_slices_Clip_____api_Stmt___api_Stmt_ (n : Nat) : List (CalF Tryz.prog) := []
def ls_slices_Clip_____api_Stmt___api_Stmt_ (n : Nat) : List LE := []
theorem m_slices_Clip_____api_Stmt___api_Stmt__ok (n : Nat) : Ok Tryz.prog d_slices_Clip_____api_Stmt___api_Stmt_ (m_slices_Clip_____api_Stmt___api_Stmt_ n) := fnOk sound (cs := cs_slices_Clip_____api_Stmt___api_Stmt_ n) (ls := ls_slices_Clip_____api_Stmt___api_Stmt_ n) (n := 9) Tryz.func82 (by kernel_rfl) (fun _ => by kernel_rfl) (inner (by kernel_rfl) allN) (innerS (by kernel_rfl) allN) (by kernel_rfl) (fun a => by kernel_rfl)


/-! (*suture/parse.reader).prog -/
def l___parse_reader__prog_2_B (n : Nat) (k : (List T) × Int × Bool × (List T) × (List T) × (List T) × (List T) → Option ((List T) × Int × Bool × (List T) × (List T) × (List T) × (List T))) : (List T) × Int × Bool × (List T) × (List T) × (List T) × (List T) → Option ((List T) × Int × Bool × (List T) × (List T) × (List T) × (List T)) := fun (s0, s1, s2, s3, s4, s5, s6) =>
Option.bind (idx (((!s2) && !((((List.length s6 : Nat) : Int) : Int) == 0))) [.int .i64, .str, .int .i64, .cplx .f64] s0 s1) fun y1 =>
bif (bif (!s2) then (bif ((((List.length s6 : Nat) : Int) : Int) == 0) then true else (((y1.cell 0).int : Int) != 4)) else false) then (
bif ((((List.length s6 : Nat) : Int) : Int) == 4) then (
Option.bind (m___parse_reader__fail n s0 s1 s2) fun r2 =>
Option.bind (m___parse_reader__must n (⟨#[103, 111]⟩ : ByteArray) r2.1 r2.2.1 r2.2.2) fun r3 =>
Option.bind (m___parse_reader__block n 0 r3.1 r3.2.1 r3.2.2) fun r4 =>
must true ((Nat.beq 1 1 || Nat.beq 1 0) && (decide (List.length s6 + List.length [(T.list r4.1)] ≤ 1073741824) && sized 1 [(T.list r4.1)])) (k (r4.2.1, r4.2.2.1, r4.2.2.2, s3, s4, s5, (s6 ++ [(T.list r4.1)]))))
else (
Option.bind (m___parse_reader__must n (⟨#[103, 111]⟩ : ByteArray) s0 s1 s2) fun r5 =>
Option.bind (m___parse_reader__block n 0 r5.1 r5.2.1 r5.2.2) fun r6 =>
must true ((Nat.beq 1 1 || Nat.beq 1 0) && (decide (List.length s6 + List.length [(T.list r6.1)] ≤ 1073741824) && sized 1 [(T.list r6.1)])) (k (r6.2.1, r6.2.2.1, r6.2.2.2, s3, s4, s5, (s6 ++ [(T.list r6.1)])))))
else (
some (s0, s1, s2, s3, s4, s5, s6))
def l___parse_reader__prog_2 (n : Nat) : Nat → (List T) × Int × Bool × (List T) × (List T) × (List T) × (List T) → Option ((List T) × Int × Bool × (List T) × (List T) × (List T) × (List T))
  | 0, _ => none
  | m + 1, s => l___parse_reader__prog_2_B n (l___parse_reader__prog_2 n m) s
def m___parse_reader__prog (n : Nat) (a0 : List T) (a1 : Int) (a2 : Bool) : Option ((List T) × (List T) × (List T) × Int × Bool) :=
Option.bind (m___parse_reader__decls n a0 a1 a2) fun r0 =>
Option.bind (l___parse_reader__prog_2 n n (r0.2.1, r0.2.2.1, r0.2.2.2, ([] : List T), ([] : List T), r0.1, ([] : List T))) fun p8 =>
Option.bind (m_slices_Clip_____api_Stmt___api_Stmt_ n p8.2.2.2.2.2.2) fun r9 =>
some (p8.2.2.2.2.2.1, r9, p8.1, p8.2.1, p8.2.2.1)
def d___parse_reader__prog : FnF := ⟨42, [.ptr 0 0, .box 3, .list, .int .i64, .bool], [.agg 2, .list, .list, .box 3, .list, .int .i64, .bool]⟩
def cs___parse_reader__prog (n : Nat) : List (CalF Tryz.prog) := [⟨d___parse_reader__decls, m___parse_reader__decls n, m___parse_reader__decls_ok n⟩, ⟨d___parse_reader__fail, m___parse_reader__fail n, m___parse_reader__fail_ok n⟩, ⟨d___parse_reader__must, m___parse_reader__must n, m___parse_reader__must_ok n⟩, ⟨d___parse_reader__block, m___parse_reader__block n, m___parse_reader__block_ok n⟩, ⟨d_slices_Clip_____api_Stmt___api_Stmt_, m_slices_Clip_____api_Stmt___api_Stmt_ n, m_slices_Clip_____api_Stmt___api_Stmt__ok n⟩]
def L_l___parse_reader__prog_2 : LF := ⟨2, [0, 2, 3], [.ptr 0 0, .ptr 1 0, .ptr 2 0, .box 3, .list, .int .i64, .bool, .box 2, .own 0, .own 0, .box 2, .list, .own 1], [⟨(.exit 0), [2, 3], [.ptr 1 0, .ptr 2 0, .box 3, .list, .int .i64, .bool, .box 2, .own 0, .own 0, .box 2, .list, .own 1]⟩]⟩
def ls___parse_reader__prog (n : Nat) : List LE := [⟨2, loopS L_l___parse_reader__prog_2 (l___parse_reader__prog_2 n n)⟩]
theorem l___parse_reader__prog_2_ok (n : Nat) : LoopOk Tryz.prog (mkSpec (cs___parse_reader__prog n) (ls___parse_reader__prog n)) 1 52 (loopAt Tryz.f42 0) := loopOk (L := L_l___parse_reader__prog_2) (f := l___parse_reader__prog_2 n) (B := l___parse_reader__prog_2_B n) (k := n) (loopAt_ok sound Tryz.func42 (by kernel_rfl)) (inner (by kernel_rfl) allN) (innerS (by kernel_rfl) allN) (fun _ => rfl) (fun _ _ => rfl) (by kernel_rfl) (fun _ => by kernel_rfl) (by kernel_rfl) (fun k a => by kernel_rfl)
theorem m___parse_reader__prog_ok (n : Nat) : Ok Tryz.prog d___parse_reader__prog (m___parse_reader__prog n) := fnOk sound (cs := cs___parse_reader__prog n) (ls := ls___parse_reader__prog n) (n := 52) Tryz.func42 (by kernel_rfl) (fun _ => by kernel_rfl) (inner (by kernel_rfl) (allC (l___parse_reader__prog_2_ok n) allN)) (innerS (by kernel_rfl) allN) (by kernel_rfl) (fun a => by kernel_rfl)


/-! suture/parse.Read -/
def m_parse_Read (n : Nat) (a0 : ByteArray) : Option ((List T) × (List T) × (Nat × Nat) × Int) :=
Option.bind (m_lex_Tokens n a0) fun r0 =>
bif ((r0.2.2 : Int) != 0) then (
some (([] : List T), ([] : List T), r0.2.1, r0.2.2))
else (
Option.bind (m___parse_reader__prog n r0.1 0 false) fun r1 =>
bif r1.2.2.2.2 then (
Option.bind (idx true [.int .i64, .str, .int .i64, .cplx .f64] r0.1 r1.2.2.2.1) fun y2 =>
some (([] : List T), ([] : List T), ((y2.cell 3).re, (y2.cell 3).im), 2))
else (
some (r1.1, r1.2.1, (0, 0), 0)))
def d_parse_Read : FnF := ⟨19, [.str], [.tup 3, .agg 2, .list, .list, .cplx .f64, .int .i64]⟩
def cs_parse_Read (n : Nat) : List (CalF Tryz.prog) := [⟨d_lex_Tokens, m_lex_Tokens n, m_lex_Tokens_ok n⟩, ⟨d___parse_reader__prog, m___parse_reader__prog n, m___parse_reader__prog_ok n⟩]
def ls_parse_Read (n : Nat) : List LE := []
theorem m_parse_Read_ok (n : Nat) : Ok Tryz.prog d_parse_Read (m_parse_Read n) := fnOk sound (cs := cs_parse_Read n) (ls := ls_parse_Read n) (n := 40) Tryz.func19 (by kernel_rfl) (fun _ => by kernel_rfl) (inner (by kernel_rfl) allN) (innerS (by kernel_rfl) allN) (by kernel_rfl) (fun a => by kernel_rfl)


/-! suture/suturelaw5.known -/
def m_suturelaw5_known_x (n : Nat) : Option (Bool) :=
Option.bind (m_parse_Read n (⟨#[118, 97, 114, 32, 120, 32, 103, 111, 123, 120, 61, 49, 125]⟩ : ByteArray)) fun r0 =>
Option.bind (idx ((bif ((r0.2.2.2 : Int) == 0) then ((((List.length r0.1 : Nat) : Int) : Int) == 1) else false)) [.int .i64, .str, .int .i64, .cplx .f64] r0.1 0) fun y1 =>
Option.bind (idx ((bif (bif (bif ((r0.2.2.2 : Int) == 0) then ((((List.length r0.1 : Nat) : Int) : Int) == 1) else false) then (cplxEq .f64 (y1.cell 3).re (y1.cell 3).im 4607182418800017408 4607182418800017408) else false) then ((((List.length r0.2.1 : Nat) : Int) : Int) == 1) else false)) [.list] r0.2.1 0) fun y2 =>
Option.bind (idx ((bif (bif (bif (bif ((r0.2.2.2 : Int) == 0) then ((((List.length r0.1 : Nat) : Int) : Int) == 1) else false) then (cplxEq .f64 (y1.cell 3).re (y1.cell 3).im 4607182418800017408 4607182418800017408) else false) then ((((List.length r0.2.1 : Nat) : Int) : Int) == 1) else false) then ((((List.length (y2.cell 0).lst : Nat) : Int) : Int) == 1) else false)) [.list] r0.2.1 0) fun y3 =>
Option.bind (idx ((bif (bif (bif (bif ((r0.2.2.2 : Int) == 0) then ((((List.length r0.1 : Nat) : Int) : Int) == 1) else false) then (cplxEq .f64 (y1.cell 3).re (y1.cell 3).im 4607182418800017408 4607182418800017408) else false) then ((((List.length r0.2.1 : Nat) : Int) : Int) == 1) else false) then ((((List.length (y2.cell 0).lst : Nat) : Int) : Int) == 1) else false)) [.int .i64, .str, .str, .int .i64, .int .i64, .int .i64, .str, .list, .list, .list, .cplx .f64] (y3.cell 0).lst 0) fun y4 =>
Option.bind (idx ((bif (bif (bif (bif (bif ((r0.2.2.2 : Int) == 0) then ((((List.length r0.1 : Nat) : Int) : Int) == 1) else false) then (cplxEq .f64 (y1.cell 3).re (y1.cell 3).im 4607182418800017408 4607182418800017408) else false) then ((((List.length r0.2.1 : Nat) : Int) : Int) == 1) else false) then ((((List.length (y2.cell 0).lst : Nat) : Int) : Int) == 1) else false) then (((y4.cell 0).int : Int) == 1) else false)) [.list] r0.2.1 0) fun y5 =>
Option.bind (idx ((bif (bif (bif (bif (bif ((r0.2.2.2 : Int) == 0) then ((((List.length r0.1 : Nat) : Int) : Int) == 1) else false) then (cplxEq .f64 (y1.cell 3).re (y1.cell 3).im 4607182418800017408 4607182418800017408) else false) then ((((List.length r0.2.1 : Nat) : Int) : Int) == 1) else false) then ((((List.length (y2.cell 0).lst : Nat) : Int) : Int) == 1) else false) then (((y4.cell 0).int : Int) == 1) else false)) [.int .i64, .str, .str, .int .i64, .int .i64, .int .i64, .str, .list, .list, .list, .cplx .f64] (y5.cell 0).lst 0) fun y6 =>
some (bif (bif (bif (bif (bif (bif ((r0.2.2.2 : Int) == 0) then ((((List.length r0.1 : Nat) : Int) : Int) == 1) else false) then (cplxEq .f64 (y1.cell 3).re (y1.cell 3).im 4607182418800017408 4607182418800017408) else false) then ((((List.length r0.2.1 : Nat) : Int) : Int) == 1) else false) then ((((List.length (y2.cell 0).lst : Nat) : Int) : Int) == 1) else false) then (((y4.cell 0).int : Int) == 1) else false) then (cplxEq .f64 (y6.cell 10).re (y6.cell 10).im 4607182418800017408 4621819117588971520) else false)
def d_suturelaw5_known_x : FnF := ⟨21, [], [.bool]⟩
def cs_suturelaw5_known_x (n : Nat) : List (CalF Tryz.prog) := [⟨d_parse_Read, m_parse_Read n, m_parse_Read_ok n⟩]
def ls_suturelaw5_known_x (n : Nat) : List LE := []
theorem m_suturelaw5_known_x_ok (n : Nat) : Ok Tryz.prog d_suturelaw5_known_x (m_suturelaw5_known_x n) := fnOk sound (cs := cs_suturelaw5_known_x n) (ls := ls_suturelaw5_known_x n) (n := 59) Tryz.func21 (by kernel_rfl) (fun _ => by kernel_rfl) (inner (by kernel_rfl) allN) (innerS (by kernel_rfl) allN) (by kernel_rfl) (fun a => by kernel_rfl)


/-! suture/suturelaw5.known: closed -/
def m_suturelaw5_known (n : Nat) : Option (Bool) := some true
def d_suturelaw5_known : FnF := ⟨21, [], [.bool]⟩
theorem m_suturelaw5_known_ok (n : Nat) : Ok Tryz.prog d_suturelaw5_known (m_suturelaw5_known n) := fun a r h => by
  cases (Option.some.inj (show some true = some r from h))
  exact m_suturelaw5_known_x_ok 3000 () true (show m_suturelaw5_known_x 3000 = some true from by kernel_rfl)


/-! suture/sutureref1.SameDecls -/
def l_sutureref1_SameDecls_4_B (n : Nat) (k : (List T) × (List T) × Int → Option (((Bool) ⊕ Unit))) : (List T) × (List T) × Int → Option (((Bool) ⊕ Unit)) := fun (s0, s1, s2) =>
bif (decide ((s2 : Int) < ((List.length s0 : Nat) : Int))) then (
Option.bind (idx true [.int .i64, .str, .int .i64, .cplx .f64] s0 s2) fun y0 =>
Option.bind (idx true [.int .i64, .str, .int .i64, .cplx .f64] s1 s2) fun y1 =>
Option.bind (idx (!(((y0.cell 0).int : Int) != (y1.cell 0).int)) [.int .i64, .str, .int .i64, .cplx .f64] s0 s2) fun y2 =>
Option.bind (idx (!(((y0.cell 0).int : Int) != (y1.cell 0).int)) [.int .i64, .str, .int .i64, .cplx .f64] s1 s2) fun y3 =>
Option.bind (idx (!(bif (((y0.cell 0).int : Int) != (y1.cell 0).int) then true else (!(ByteArray.toList (y2.cell 1).str == ByteArray.toList (y3.cell 1).str)))) [.int .i64, .str, .int .i64, .cplx .f64] s0 s2) fun y4 =>
Option.bind (idx (!(bif (((y0.cell 0).int : Int) != (y1.cell 0).int) then true else (!(ByteArray.toList (y2.cell 1).str == ByteArray.toList (y3.cell 1).str)))) [.int .i64, .str, .int .i64, .cplx .f64] s1 s2) fun y5 =>
bif (bif (bif (((y0.cell 0).int : Int) != (y1.cell 0).int) then true else (!(ByteArray.toList (y2.cell 1).str == ByteArray.toList (y3.cell 1).str))) then true else (((y4.cell 2).int : Int) != (y5.cell 2).int)) then (
some (Sum.inl false))
else (
k (s0, s1, (IntKind.wrap .i64 (s2 + 1)))))
else (
some (Sum.inr ()))
def l_sutureref1_SameDecls_4 (n : Nat) : Nat → (List T) × (List T) × Int → Option (((Bool) ⊕ Unit))
  | 0, _ => none
  | m + 1, s => l_sutureref1_SameDecls_4_B n (l_sutureref1_SameDecls_4 n m) s
def m_sutureref1_SameDecls (n : Nat) (a0 : List T) (a1 : List T) : Option (Bool) :=
bif ((((List.length a0 : Nat) : Int) : Int) != ((List.length a1 : Nat) : Int)) then (
some false)
else (
Option.bind (l_sutureref1_SameDecls_4 n n (a0, a1, 0)) fun x6 =>
Sum.elim (fun p7 => 
some p7) (fun x6' => (fun p8 => 
some true) x6') x6)
def d_sutureref1_SameDecls : FnF := ⟨28, [.list, .list], [.bool]⟩
def cs_sutureref1_SameDecls (n : Nat) : List (CalF Tryz.prog) := []
def L_l_sutureref1_SameDecls_4 : LF := ⟨4, [0, 1, 5], [.list, .list, .int .i64], [⟨.ret, [4], [.bool]⟩, ⟨(.exit 0), [], []⟩]⟩
def ls_sutureref1_SameDecls (n : Nat) : List LE := [⟨4, loopS L_l_sutureref1_SameDecls_4 (l_sutureref1_SameDecls_4 n n)⟩]
theorem l_sutureref1_SameDecls_4_ok (n : Nat) : LoopOk Tryz.prog (mkSpec (cs_sutureref1_SameDecls n) (ls_sutureref1_SameDecls n)) 0 54 (loopAt Tryz.f28 0) := loopOk (L := L_l_sutureref1_SameDecls_4) (f := l_sutureref1_SameDecls_4 n) (B := l_sutureref1_SameDecls_4_B n) (k := n) (loopAt_ok sound Tryz.func28 (by kernel_rfl)) (inner (by kernel_rfl) allN) (innerS (by kernel_rfl) allN) (fun _ => rfl) (fun _ _ => rfl) (by kernel_rfl) (fun _ => by kernel_rfl) (by kernel_rfl) (fun k a => by kernel_rfl)
theorem m_sutureref1_SameDecls_ok (n : Nat) : Ok Tryz.prog d_sutureref1_SameDecls (m_sutureref1_SameDecls n) := fnOk sound (cs := cs_sutureref1_SameDecls n) (ls := ls_sutureref1_SameDecls n) (n := 54) Tryz.func28 (by kernel_rfl) (fun _ => by kernel_rfl) (inner (by kernel_rfl) (allC (l_sutureref1_SameDecls_4_ok n) allN)) (innerS (by kernel_rfl) allN) (by kernel_rfl) (fun a => by kernel_rfl)


/-! sutureref1_SameExpr: a circle -/
structure B_sutureref1_SameExpr where
  sutureref1_SameExpr : Int → Int → ByteArray → List T → Int → Int → ByteArray → List T → Option (Bool)
def d_sutureref1_SameExpr : FnF := ⟨53, [.agg 4, .int .i64, .int .i64, .str, .list, .agg 4, .int .i64, .int .i64, .str, .list], [.bool]⟩
structure B_sutureref1_SameExpr_ok (b : B_sutureref1_SameExpr) : Prop where
  sutureref1_SameExpr : Ok Tryz.prog d_sutureref1_SameExpr b.sutureref1_SameExpr

/-! suture/sutureref1.SameExpr -/
def l_sutureref1_SameExpr_4_B (b : B_sutureref1_SameExpr) (n : Nat) (k : Int × Int × Int × ByteArray × (List T) × Int × Int × ByteArray × (List T) → Option (((Int × Int × ByteArray × (List T) × Int × Int × ByteArray × (List T)) ⊕ Bool × Int × Int × ByteArray × (List T) × Int × Int × ByteArray × (List T)))) : Int × Int × Int × ByteArray × (List T) × Int × Int × ByteArray × (List T) → Option (((Int × Int × ByteArray × (List T) × Int × Int × ByteArray × (List T)) ⊕ Bool × Int × Int × ByteArray × (List T) × Int × Int × ByteArray × (List T))) := fun (s0, s1, s2, s3, s4, s5, s6, s7, s8) =>
bif (decide ((s0 : Int) < ((List.length s4 : Nat) : Int))) then (
Option.bind (idx true [.int .i64, .int .i64, .str, .list] s4 s0) fun y0 =>
Option.bind (idx true [.int .i64, .int .i64, .str, .list] s8 s0) fun y1 =>
Option.bind (b.sutureref1_SameExpr (y0.cell 0).int (y0.cell 1).int (y0.cell 2).str (y0.cell 3).lst (y1.cell 0).int (y1.cell 1).int (y1.cell 2).str (y1.cell 3).lst) fun r2 =>
bif (!r2) then (
some (Sum.inr (false, s1, s2, s3, s4, s5, s6, s7, s8)))
else (
k ((IntKind.wrap .i64 (s0 + 1)), s1, s2, s3, s4, s5, s6, s7, s8)))
else (
some (Sum.inl (s1, s2, s3, s4, s5, s6, s7, s8)))
def l_sutureref1_SameExpr_4 (b : B_sutureref1_SameExpr) (n : Nat) : Nat → Int × Int × Int × ByteArray × (List T) × Int × Int × ByteArray × (List T) → Option (((Int × Int × ByteArray × (List T) × Int × Int × ByteArray × (List T)) ⊕ Bool × Int × Int × ByteArray × (List T) × Int × Int × ByteArray × (List T)))
  | 0, _ => none
  | m + 1, s => l_sutureref1_SameExpr_4_B b n (l_sutureref1_SameExpr_4 b n m) s
def f_sutureref1_SameExpr (b : B_sutureref1_SameExpr) (n : Nat) (a0 : Int) (a1 : Int) (a2 : ByteArray) (a3 : List T) (a4 : Int) (a5 : Int) (a6 : ByteArray) (a7 : List T) : Option (Bool) :=
bif (bif (bif (bif ((a0 : Int) != a4) then true else ((a1 : Int) != a5)) then true else (!(ByteArray.toList a2 == ByteArray.toList a6))) then true else ((((List.length a3 : Nat) : Int) : Int) != ((List.length a7 : Nat) : Int))) then (
some false)
else (
Option.bind (l_sutureref1_SameExpr_4 b n n (0, a0, a1, a2, a3, a4, a5, a6, a7)) fun x3 =>
Sum.elim (fun p4 => 
some true) (fun x3' => (fun p5 => 
some p5.1) x3') x3)
def cs_sutureref1_SameExpr (b : B_sutureref1_SameExpr) (hb : B_sutureref1_SameExpr_ok b) (n : Nat) : List (CalF Tryz.prog) := [⟨d_sutureref1_SameExpr, b.sutureref1_SameExpr, hb.sutureref1_SameExpr⟩]
def L_l_sutureref1_SameExpr_4 : LF := ⟨4, [2, 3, 5], [.ptr 0 0, .ptr 1 0, .int .i64, .box 4, .int .i64, .int .i64, .str, .list, .box 4, .int .i64, .int .i64, .str, .list], [⟨(.exit 0), [], [.box 4, .int .i64, .int .i64, .str, .list, .box 4, .int .i64, .int .i64, .str, .list]⟩, ⟨.ret, [4], [.bool, .box 4, .int .i64, .int .i64, .str, .list, .box 4, .int .i64, .int .i64, .str, .list]⟩]⟩
def ls_sutureref1_SameExpr (b : B_sutureref1_SameExpr) (n : Nat) : List LE := [⟨4, loopS L_l_sutureref1_SameExpr_4 (l_sutureref1_SameExpr_4 b n n)⟩]
theorem l_sutureref1_SameExpr_4_ok (b : B_sutureref1_SameExpr) (hb : B_sutureref1_SameExpr_ok b) (n : Nat) : LoopOk Tryz.prog (mkSpec (cs_sutureref1_SameExpr b hb n) (ls_sutureref1_SameExpr b n)) 0 53 (loopAt Tryz.f53 0) := loopOk (L := L_l_sutureref1_SameExpr_4) (f := l_sutureref1_SameExpr_4 b n) (B := l_sutureref1_SameExpr_4_B b n) (k := n) (loopAt_ok sound Tryz.func53 (by kernel_rfl)) (inner (by kernel_rfl) allN) (innerS (by kernel_rfl) allN) (fun _ => rfl) (fun _ _ => rfl) (by kernel_rfl) (fun _ => by kernel_rfl) (by kernel_rfl) (fun k a => by kernel_rfl)
theorem f_sutureref1_SameExpr_ok (b : B_sutureref1_SameExpr) (hb : B_sutureref1_SameExpr_ok b) (n : Nat) : Ok Tryz.prog d_sutureref1_SameExpr (f_sutureref1_SameExpr b n) := fnOk sound (cs := cs_sutureref1_SameExpr b hb n) (ls := ls_sutureref1_SameExpr b n) (n := 53) Tryz.func53 (by kernel_rfl) (fun _ => by kernel_rfl) (inner (by kernel_rfl) (allC (l_sutureref1_SameExpr_4_ok b hb n) allN)) (innerS (by kernel_rfl) allN) (by kernel_rfl) (fun a => by kernel_rfl)
def unB_sutureref1_SameExpr (n : Nat) : Nat → B_sutureref1_SameExpr
  | 0 => { sutureref1_SameExpr := fun _ _ _ _ _ _ _ _ => none }
  | m + 1 => { sutureref1_SameExpr := f_sutureref1_SameExpr (unB_sutureref1_SameExpr n m) n }
theorem unB_sutureref1_SameExpr_ok (n : Nat) : ∀ m, B_sutureref1_SameExpr_ok (unB_sutureref1_SameExpr n m)
  | 0 => { sutureref1_SameExpr := fun _ _ h => (nomatch (show none = some _ from h)) }
  | m + 1 => { sutureref1_SameExpr := f_sutureref1_SameExpr_ok _ (unB_sutureref1_SameExpr_ok n m) n }
def m_sutureref1_SameExpr (n : Nat) : Int → Int → ByteArray → List T → Int → Int → ByteArray → List T → Option (Bool) := (unB_sutureref1_SameExpr n n).sutureref1_SameExpr
theorem m_sutureref1_SameExpr_ok (n : Nat) : Ok Tryz.prog d_sutureref1_SameExpr (m_sutureref1_SameExpr n) := (unB_sutureref1_SameExpr_ok n n).sutureref1_SameExpr


/-! sutureref1_SameBlock: a circle -/
structure B_sutureref1_SameBlock where
  sutureref1_SameBlock : List T → List T → Option (Bool)
def d_sutureref1_SameBlock : FnF := ⟨27, [.list, .list], [.bool]⟩
structure B_sutureref1_SameBlock_ok (b : B_sutureref1_SameBlock) : Prop where
  sutureref1_SameBlock : Ok Tryz.prog d_sutureref1_SameBlock b.sutureref1_SameBlock

/-! suture/sutureref1.SameBlock -/
def l_sutureref1_SameBlock_4_B (b : B_sutureref1_SameBlock) (n : Nat) (k : (List T) × (List T) × Int → Option (((Unit) ⊕ Bool))) : (List T) × (List T) × Int → Option (((Unit) ⊕ Bool)) := fun (s0, s1, s2) =>
bif (decide ((s2 : Int) < ((List.length s0 : Nat) : Int))) then (
Option.bind (idx true [.int .i64, .str, .str, .int .i64, .int .i64, .int .i64, .str, .list, .list, .list, .cplx .f64] s0 s2) fun y0 =>
Option.bind (idx true [.int .i64, .str, .str, .int .i64, .int .i64, .int .i64, .str, .list, .list, .list, .cplx .f64] s1 s2) fun y1 =>
Option.bind (bif !(bif (bif (bif (((y0.cell 0).int : Int) != (y1.cell 0).int) then true else (!(ByteArray.toList (y0.cell 1).str == ByteArray.toList (y1.cell 1).str))) then true else (!(ByteArray.toList (y0.cell 2).str == ByteArray.toList (y1.cell 2).str))) then true else (((y0.cell 3).int : Int) != (y1.cell 3).int)) then m_sutureref1_SameExpr n (y0.cell 4).int (y0.cell 5).int (y0.cell 6).str (y0.cell 7).lst (y1.cell 4).int (y1.cell 5).int (y1.cell 6).str (y1.cell 7).lst else some false) fun r2 =>
Option.bind (bif !(bif (bif (bif (bif (((y0.cell 0).int : Int) != (y1.cell 0).int) then true else (!(ByteArray.toList (y0.cell 1).str == ByteArray.toList (y1.cell 1).str))) then true else (!(ByteArray.toList (y0.cell 2).str == ByteArray.toList (y1.cell 2).str))) then true else (((y0.cell 3).int : Int) != (y1.cell 3).int)) then true else (!r2)) then b.sutureref1_SameBlock (y0.cell 8).lst (y1.cell 8).lst else some false) fun r3 =>
Option.bind (bif !(bif (bif (bif (bif (bif (((y0.cell 0).int : Int) != (y1.cell 0).int) then true else (!(ByteArray.toList (y0.cell 1).str == ByteArray.toList (y1.cell 1).str))) then true else (!(ByteArray.toList (y0.cell 2).str == ByteArray.toList (y1.cell 2).str))) then true else (((y0.cell 3).int : Int) != (y1.cell 3).int)) then true else (!r2)) then true else (!r3)) then b.sutureref1_SameBlock (y0.cell 9).lst (y1.cell 9).lst else some false) fun r4 =>
bif (bif (bif (bif (bif (bif (bif (((y0.cell 0).int : Int) != (y1.cell 0).int) then true else (!(ByteArray.toList (y0.cell 1).str == ByteArray.toList (y1.cell 1).str))) then true else (!(ByteArray.toList (y0.cell 2).str == ByteArray.toList (y1.cell 2).str))) then true else (((y0.cell 3).int : Int) != (y1.cell 3).int)) then true else (!r2)) then true else (!r3)) then true else (!r4)) then (
some (Sum.inr false))
else (
k (s0, s1, (IntKind.wrap .i64 (s2 + 1)))))
else (
some (Sum.inl ()))
def l_sutureref1_SameBlock_4 (b : B_sutureref1_SameBlock) (n : Nat) : Nat → (List T) × (List T) × Int → Option (((Unit) ⊕ Bool))
  | 0, _ => none
  | m + 1, s => l_sutureref1_SameBlock_4_B b n (l_sutureref1_SameBlock_4 b n m) s
def f_sutureref1_SameBlock (b : B_sutureref1_SameBlock) (n : Nat) (a0 : List T) (a1 : List T) : Option (Bool) :=
bif ((((List.length a0 : Nat) : Int) : Int) != ((List.length a1 : Nat) : Int)) then (
some false)
else (
Option.bind (l_sutureref1_SameBlock_4 b n n (a0, a1, 0)) fun x5 =>
Sum.elim (fun p6 => 
some true) (fun x5' => (fun p7 => 
some p7) x5') x5)
def cs_sutureref1_SameBlock (b : B_sutureref1_SameBlock) (hb : B_sutureref1_SameBlock_ok b) (n : Nat) : List (CalF Tryz.prog) := [⟨d_sutureref1_SameExpr, m_sutureref1_SameExpr n, m_sutureref1_SameExpr_ok n⟩, ⟨d_sutureref1_SameBlock, b.sutureref1_SameBlock, hb.sutureref1_SameBlock⟩]
def L_l_sutureref1_SameBlock_4 : LF := ⟨4, [0, 1, 5], [.list, .list, .int .i64], [⟨(.exit 0), [], []⟩, ⟨.ret, [4], [.bool]⟩]⟩
def ls_sutureref1_SameBlock (b : B_sutureref1_SameBlock) (n : Nat) : List LE := [⟨4, loopS L_l_sutureref1_SameBlock_4 (l_sutureref1_SameBlock_4 b n n)⟩]
theorem l_sutureref1_SameBlock_4_ok (b : B_sutureref1_SameBlock) (hb : B_sutureref1_SameBlock_ok b) (n : Nat) : LoopOk Tryz.prog (mkSpec (cs_sutureref1_SameBlock b hb n) (ls_sutureref1_SameBlock b n)) 0 77 (loopAt Tryz.f27 0) := loopOk (L := L_l_sutureref1_SameBlock_4) (f := l_sutureref1_SameBlock_4 b n) (B := l_sutureref1_SameBlock_4_B b n) (k := n) (loopAt_ok sound Tryz.func27 (by kernel_rfl)) (inner (by kernel_rfl) allN) (innerS (by kernel_rfl) allN) (fun _ => rfl) (fun _ _ => rfl) (by kernel_rfl) (fun _ => by kernel_rfl) (by kernel_rfl) (fun k a => by kernel_rfl)
theorem f_sutureref1_SameBlock_ok (b : B_sutureref1_SameBlock) (hb : B_sutureref1_SameBlock_ok b) (n : Nat) : Ok Tryz.prog d_sutureref1_SameBlock (f_sutureref1_SameBlock b n) := fnOk sound (cs := cs_sutureref1_SameBlock b hb n) (ls := ls_sutureref1_SameBlock b n) (n := 77) Tryz.func27 (by kernel_rfl) (fun _ => by kernel_rfl) (inner (by kernel_rfl) (allC (l_sutureref1_SameBlock_4_ok b hb n) allN)) (innerS (by kernel_rfl) allN) (by kernel_rfl) (fun a => by kernel_rfl)
def unB_sutureref1_SameBlock (n : Nat) : Nat → B_sutureref1_SameBlock
  | 0 => { sutureref1_SameBlock := fun _ _ => none }
  | m + 1 => { sutureref1_SameBlock := f_sutureref1_SameBlock (unB_sutureref1_SameBlock n m) n }
theorem unB_sutureref1_SameBlock_ok (n : Nat) : ∀ m, B_sutureref1_SameBlock_ok (unB_sutureref1_SameBlock n m)
  | 0 => { sutureref1_SameBlock := fun _ _ h => (nomatch (show none = some _ from h)) }
  | m + 1 => { sutureref1_SameBlock := f_sutureref1_SameBlock_ok _ (unB_sutureref1_SameBlock_ok n m) n }
def m_sutureref1_SameBlock (n : Nat) : List T → List T → Option (Bool) := (unB_sutureref1_SameBlock n n).sutureref1_SameBlock
theorem m_sutureref1_SameBlock_ok (n : Nat) : Ok Tryz.prog d_sutureref1_SameBlock (m_sutureref1_SameBlock n) := (unB_sutureref1_SameBlock_ok n n).sutureref1_SameBlock


/-! suture/sutureref1.Same -/
def l_sutureref1_Same_4_B (n : Nat) (k : Int × (List T) × (List T) × (List T) × (List T) → Option (((Bool × (List T) × (List T) × (List T) × (List T)) ⊕ (List T) × (List T) × (List T) × (List T)))) : Int × (List T) × (List T) × (List T) × (List T) → Option (((Bool × (List T) × (List T) × (List T) × (List T)) ⊕ (List T) × (List T) × (List T) × (List T))) := fun (s0, s1, s2, s3, s4) =>
bif (decide ((s0 : Int) < ((List.length s2 : Nat) : Int))) then (
Option.bind (idx true [.list] s2 s0) fun y1 =>
Option.bind (idx true [.list] s4 s0) fun y2 =>
Option.bind (m_sutureref1_SameBlock n (y1.cell 0).lst (y2.cell 0).lst) fun r3 =>
bif (!r3) then (
some (Sum.inl (false, s1, s2, s3, s4)))
else (
k ((IntKind.wrap .i64 (s0 + 1)), s1, s2, s3, s4)))
else (
some (Sum.inr (s1, s2, s3, s4)))
def l_sutureref1_Same_4 (n : Nat) : Nat → Int × (List T) × (List T) × (List T) × (List T) → Option (((Bool × (List T) × (List T) × (List T) × (List T)) ⊕ (List T) × (List T) × (List T) × (List T)))
  | 0, _ => none
  | m + 1, s => l_sutureref1_Same_4_B n (l_sutureref1_Same_4 n m) s
def m_sutureref1_Same (n : Nat) (a0 : List T) (a1 : List T) (a2 : List T) (a3 : List T) : Option (Bool) :=
Option.bind (m_sutureref1_SameDecls n a0 a2) fun r0 =>
bif (bif (!r0) then true else ((((List.length a1 : Nat) : Int) : Int) != ((List.length a3 : Nat) : Int))) then (
some false)
else (
Option.bind (l_sutureref1_Same_4 n n (0, a0, a1, a2, a3)) fun x4 =>
Sum.elim (fun p5 => 
some p5.1) (fun x4' => (fun p6 => 
some true) x4') x4)
def d_sutureref1_Same : FnF := ⟨22, [.agg 2, .list, .list, .agg 2, .list, .list], [.bool]⟩
def cs_sutureref1_Same (n : Nat) : List (CalF Tryz.prog) := [⟨d_sutureref1_SameDecls, m_sutureref1_SameDecls n, m_sutureref1_SameDecls_ok n⟩, ⟨d_sutureref1_SameBlock, m_sutureref1_SameBlock n, m_sutureref1_SameBlock_ok n⟩]
def L_l_sutureref1_Same_4 : LF := ⟨4, [2, 3, 5], [.ptr 0 0, .ptr 1 0, .int .i64, .box 2, .list, .list, .box 2, .list, .list], [⟨.ret, [4], [.bool, .box 2, .list, .list, .box 2, .list, .list]⟩, ⟨(.exit 0), [], [.box 2, .list, .list, .box 2, .list, .list]⟩]⟩
def ls_sutureref1_Same (n : Nat) : List LE := [⟨4, loopS L_l_sutureref1_Same_4 (l_sutureref1_Same_4 n n)⟩]
theorem l_sutureref1_Same_4_ok (n : Nat) : LoopOk Tryz.prog (mkSpec (cs_sutureref1_Same n) (ls_sutureref1_Same n)) 0 40 (loopAt Tryz.f22 0) := loopOk (L := L_l_sutureref1_Same_4) (f := l_sutureref1_Same_4 n) (B := l_sutureref1_Same_4_B n) (k := n) (loopAt_ok sound Tryz.func22 (by kernel_rfl)) (inner (by kernel_rfl) allN) (innerS (by kernel_rfl) allN) (fun _ => rfl) (fun _ _ => rfl) (by kernel_rfl) (fun _ => by kernel_rfl) (by kernel_rfl) (fun k a => by kernel_rfl)
theorem m_sutureref1_Same_ok (n : Nat) : Ok Tryz.prog d_sutureref1_Same (m_sutureref1_Same n) := fnOk sound (cs := cs_sutureref1_Same n) (ls := ls_sutureref1_Same n) (n := 40) Tryz.func22 (by kernel_rfl) (fun _ => by kernel_rfl) (inner (by kernel_rfl) (allC (l_sutureref1_Same_4_ok n) allN)) (innerS (by kernel_rfl) allN) (by kernel_rfl) (fun a => by kernel_rfl)


/-! suture/suturelaw5.ParseShown -/
def m_suturelaw5_ParseShown (n : Nat) (a0 : Int) (a1 : List T) (a2 : List T) (a3 : List T) : Option (Bool) :=
Option.bind (m_suturehand_Prog n a0 a1 a2 a3 4) fun r0 =>
Option.bind (m_sutureref1_Show n r0.1 r0.2) fun r1 =>
Option.bind (m_parse_Read n r1) fun r2 =>
Option.bind (m_suturelaw5_known n) fun r3 =>
bif (bif (!r3) then true else ((r2.2.2.2 : Int) != 0)) then (
some false)
else (
Option.bind (m_sutureref1_Same n r0.1 r0.2 r2.1 r2.2.1) fun r4 =>
some r4)
def d_suturelaw5_ParseShown : FnF := ⟨6, [.int .i64, .list, .list, .list], [.bool]⟩
def cs_suturelaw5_ParseShown (n : Nat) : List (CalF Tryz.prog) := [⟨d_suturehand_Prog, m_suturehand_Prog n, m_suturehand_Prog_ok n⟩, ⟨d_sutureref1_Show, m_sutureref1_Show n, m_sutureref1_Show_ok n⟩, ⟨d_parse_Read, m_parse_Read n, m_parse_Read_ok n⟩, ⟨d_suturelaw5_known, m_suturelaw5_known n, m_suturelaw5_known_ok n⟩, ⟨d_sutureref1_Same, m_sutureref1_Same n, m_sutureref1_Same_ok n⟩]
def ls_suturelaw5_ParseShown (n : Nat) : List LE := []
theorem m_suturelaw5_ParseShown_ok (n : Nat) : Ok Tryz.prog d_suturelaw5_ParseShown (m_suturelaw5_ParseShown n) := fnOk sound (cs := cs_suturelaw5_ParseShown n) (ls := ls_suturelaw5_ParseShown n) (n := 34) Tryz.func6 (by kernel_rfl) (fun _ => by kernel_rfl) (inner (by kernel_rfl) allN) (innerS (by kernel_rfl) allN) (by kernel_rfl) (fun a => by kernel_rfl)


/-! suture/sutureref1.Lines -/
def l_sutureref1_Lines_4_B (n : Nat) (k : ByteArray × (List T) × Int × Int → Option (ByteArray × (List T) × Int)) : ByteArray × (List T) × Int × Int → Option (ByteArray × (List T) × Int) := fun (s0, s1, s2, s3) =>
bif (decide ((s3 : Int) < ((ByteArray.size s0 : Nat) : Int))) then (
Option.bind (bidx true s0 s3) fun b0 =>
bif ((((UInt8.toNat b0 : Nat) : Int) : Int) == 10) then (
must true (decide (0 ≤ s2) && decide (s2 ≤ (IntKind.wrap .i64 (s3 + 1))) && decide ((IntKind.wrap .i64 (s3 + 1)) ≤ ((ByteArray.size s0 : Nat) : Int))) (must true ((Nat.beq 1 1 || Nat.beq 1 0) && (decide (List.length s1 + List.length [(T.sc (.string (ByteArray.extract s0 (Int.toNat s2) (Int.toNat (IntKind.wrap .i64 (s3 + 1))))))] ≤ 1073741824) && sized 1 [(T.sc (.string (ByteArray.extract s0 (Int.toNat s2) (Int.toNat (IntKind.wrap .i64 (s3 + 1))))))])) (k (s0, (s1 ++ [(T.sc (.string (ByteArray.extract s0 (Int.toNat s2) (Int.toNat (IntKind.wrap .i64 (s3 + 1))))))]), (IntKind.wrap .i64 (s3 + 1)), (IntKind.wrap .i64 (s3 + 1))))))
else (
k (s0, s1, s2, (IntKind.wrap .i64 (s3 + 1)))))
else (
some (s0, s1, s2))
def l_sutureref1_Lines_4 (n : Nat) : Nat → ByteArray × (List T) × Int × Int → Option (ByteArray × (List T) × Int)
  | 0, _ => none
  | m + 1, s => l_sutureref1_Lines_4_B n (l_sutureref1_Lines_4 n m) s
def m_sutureref1_Lines (n : Nat) (a0 : ByteArray) : Option ((List T)) :=
Option.bind (l_sutureref1_Lines_4 n n (a0, ([] : List T), 0, 0)) fun p2 =>
bif (decide ((p2.2.2 : Int) < ((ByteArray.size p2.1 : Nat) : Int))) then (
must true (decide (0 ≤ p2.2.2) && decide (p2.2.2 ≤ ((ByteArray.size p2.1 : Nat) : Int)) && decide (((ByteArray.size p2.1 : Nat) : Int) ≤ ((ByteArray.size p2.1 : Nat) : Int))) (must true ((Nat.beq 1 1 || Nat.beq 1 0) && (decide (List.length p2.2.1 + List.length [(T.sc (.string (ByteArray.extract p2.1 (Int.toNat p2.2.2) (Int.toNat ((ByteArray.size p2.1 : Nat) : Int)))))] ≤ 1073741824) && sized 1 [(T.sc (.string (ByteArray.extract p2.1 (Int.toNat p2.2.2) (Int.toNat ((ByteArray.size p2.1 : Nat) : Int)))))])) (some (p2.2.1 ++ [(T.sc (.string (ByteArray.extract p2.1 (Int.toNat p2.2.2) (Int.toNat ((ByteArray.size p2.1 : Nat) : Int)))))]))))
else (
some p2.2.1)
def d_sutureref1_Lines : FnF := ⟨15, [.str], [.own 1]⟩
def cs_sutureref1_Lines (n : Nat) : List (CalF Tryz.prog) := []
def L_l_sutureref1_Lines_4 : LF := ⟨4, [0, 3, 4, 5], [.str, .own 1, .int .i64, .int .i64], [⟨(.exit 0), [0, 3, 4], [.str, .own 1, .int .i64]⟩]⟩
def ls_sutureref1_Lines (n : Nat) : List LE := [⟨4, loopS L_l_sutureref1_Lines_4 (l_sutureref1_Lines_4 n n)⟩]
theorem l_sutureref1_Lines_4_ok (n : Nat) : LoopOk Tryz.prog (mkSpec (cs_sutureref1_Lines n) (ls_sutureref1_Lines n)) 0 37 (loopAt Tryz.f15 0) := loopOk (L := L_l_sutureref1_Lines_4) (f := l_sutureref1_Lines_4 n) (B := l_sutureref1_Lines_4_B n) (k := n) (loopAt_ok sound Tryz.func15 (by kernel_rfl)) (inner (by kernel_rfl) allN) (innerS (by kernel_rfl) allN) (fun _ => rfl) (fun _ _ => rfl) (by kernel_rfl) (fun _ => by kernel_rfl) (by kernel_rfl) (fun k a => by kernel_rfl)
theorem m_sutureref1_Lines_ok (n : Nat) : Ok Tryz.prog d_sutureref1_Lines (m_sutureref1_Lines n) := fnOk sound (cs := cs_sutureref1_Lines n) (ls := ls_sutureref1_Lines n) (n := 37) Tryz.func15 (by kernel_rfl) (fun _ => by kernel_rfl) (inner (by kernel_rfl) (allC (l_sutureref1_Lines_4_ok n) allN)) (innerS (by kernel_rfl) allN) (by kernel_rfl) (fun a => by kernel_rfl)


/-! suture/sutureref1.Within -/
def m_sutureref1_Within (n : Nat) (a0 : Int) (a1 : Int) (a2 : Int) : Option (Int) :=
some (if (a1 : Int) < (if (a0 : Int) < a2 then a0 else a2) then (if (a0 : Int) < a2 then a0 else a2) else a1)
def d_sutureref1_Within : FnF := ⟨89, [.int .i64, .int .i64, .int .i64], [.int .i64]⟩
def cs_sutureref1_Within (n : Nat) : List (CalF Tryz.prog) := []
def ls_sutureref1_Within (n : Nat) : List LE := []
theorem m_sutureref1_Within_ok (n : Nat) : Ok Tryz.prog d_sutureref1_Within (m_sutureref1_Within n) := fnOk sound (cs := cs_sutureref1_Within n) (ls := ls_sutureref1_Within n) (n := 12) Tryz.func89 (by kernel_rfl) (fun _ => by kernel_rfl) (inner (by kernel_rfl) allN) (innerS (by kernel_rfl) allN) (by kernel_rfl) (fun a => by kernel_rfl)


/-! suture/sutureref1.Spot -/
def l_sutureref1_Spot_5_B (n : Nat) (k : ByteArray × Int × Int × Int × Int → Option (Int × Int)) : ByteArray × Int × Int × Int × Int → Option (Int × Int) := fun (s0, s1, s2, s3, s4) =>
bif (decide ((s4 : Int) < s1)) then (
Option.bind (bidx true s0 s4) fun b1 =>
bif ((((UInt8.toNat b1 : Nat) : Int) : Int) == 10) then (
k (s0, s1, (IntKind.wrap .i64 (s2 + 1)), 1, (IntKind.wrap .i64 (s4 + 1))))
else (
k (s0, s1, s2, (IntKind.wrap .i64 (s3 + 1)), (IntKind.wrap .i64 (s4 + 1)))))
else (
some (s2, s3))
def l_sutureref1_Spot_5 (n : Nat) : Nat → ByteArray × Int × Int × Int × Int → Option (Int × Int)
  | 0, _ => none
  | m + 1, s => l_sutureref1_Spot_5_B n (l_sutureref1_Spot_5 n m) s
def m_sutureref1_Spot (n : Nat) (a0 : ByteArray) (a1 : Int) : Option (Int × Int) :=
Option.bind (m_sutureref1_Within n a1 0 ((ByteArray.size a0 : Nat) : Int)) fun r0 =>
Option.bind (l_sutureref1_Spot_5 n n (a0, r0, 1, 1, 0)) fun p3 =>
some (p3.1, p3.2)
def d_sutureref1_Spot : FnF := ⟨50, [.str, .int .i64], [.tup 2, .int .i64, .int .i64]⟩
def cs_sutureref1_Spot (n : Nat) : List (CalF Tryz.prog) := [⟨d_sutureref1_Within, m_sutureref1_Within n, m_sutureref1_Within_ok n⟩]
def L_l_sutureref1_Spot_5 : LF := ⟨5, [0, 1, 6, 7, 8], [.str, .int .i64, .int .i64, .int .i64, .int .i64], [⟨(.exit 0), [6, 7], [.int .i64, .int .i64]⟩]⟩
def ls_sutureref1_Spot (n : Nat) : List LE := [⟨5, loopS L_l_sutureref1_Spot_5 (l_sutureref1_Spot_5 n n)⟩]
theorem l_sutureref1_Spot_5_ok (n : Nat) : LoopOk Tryz.prog (mkSpec (cs_sutureref1_Spot n) (ls_sutureref1_Spot n)) 0 28 (loopAt Tryz.f50 0) := loopOk (L := L_l_sutureref1_Spot_5) (f := l_sutureref1_Spot_5 n) (B := l_sutureref1_Spot_5_B n) (k := n) (loopAt_ok sound Tryz.func50 (by kernel_rfl)) (inner (by kernel_rfl) allN) (innerS (by kernel_rfl) allN) (fun _ => rfl) (fun _ _ => rfl) (by kernel_rfl) (fun _ => by kernel_rfl) (by kernel_rfl) (fun k a => by kernel_rfl)
theorem m_sutureref1_Spot_ok (n : Nat) : Ok Tryz.prog d_sutureref1_Spot (m_sutureref1_Spot n) := fnOk sound (cs := cs_sutureref1_Spot n) (ls := ls_sutureref1_Spot n) (n := 28) Tryz.func50 (by kernel_rfl) (fun _ => by kernel_rfl) (inner (by kernel_rfl) (allC (l_sutureref1_Spot_5_ok n) allN)) (innerS (by kernel_rfl) allN) (by kernel_rfl) (fun a => by kernel_rfl)


/-! suture/sutureref1.Place -/
def m_sutureref1_Place (n : Nat) (a0 : ByteArray) (a1 : Int) : Option ((Nat × Nat)) :=
Option.bind (m_sutureref1_Spot n a0 a1) fun r0 =>
some ((FloatKind.nearest .f64 r0.1), (FloatKind.nearest .f64 r0.2))
def d_sutureref1_Place : FnF := ⟨23, [.str, .int .i64], [.cplx .f64]⟩
def cs_sutureref1_Place (n : Nat) : List (CalF Tryz.prog) := [⟨d_sutureref1_Spot, m_sutureref1_Spot n, m_sutureref1_Spot_ok n⟩]
def ls_sutureref1_Place (n : Nat) : List LE := []
theorem m_sutureref1_Place_ok (n : Nat) : Ok Tryz.prog d_sutureref1_Place (m_sutureref1_Place n) := fnOk sound (cs := cs_sutureref1_Place n) (ls := ls_sutureref1_Place n) (n := 18) Tryz.func23 (by kernel_rfl) (fun _ => by kernel_rfl) (inner (by kernel_rfl) allN) (innerS (by kernel_rfl) allN) (by kernel_rfl) (fun a => by kernel_rfl)


/-! suture/suturelaw5.ParseAfter -/
def l_suturelaw5_ParseAfter_4_B (n : Nat) (k : (List T) × Int × ByteArray × ByteArray × (List T) × Int × Int → Option (Int × ByteArray × ByteArray)) : (List T) × Int × ByteArray × ByteArray × (List T) × Int × Int → Option (Int × ByteArray × ByteArray) := fun (s0, s1, s2, s3, s4, s5, s6) =>
bif (decide ((s6 : Int) < s5)) then (
Option.bind (idx true [.str] s4 s6) fun y3 =>
bif (decide ((s6 : Int) < ((List.length s0 : Nat) : Int))) then (
Option.bind (idx true [.int .i64] s0 s6) fun y4 =>
Option.bind (m_suturehand_Pick n (y4.cell 0).int 4) fun r5 =>
Option.bind (idx1 true (.str) [(T.sc (.string (⟨#[]⟩ : ByteArray))), (T.sc (.string (⟨#[10]⟩ : ByteArray))), (T.sc (.string (⟨#[35, 32, 103, 111, 32, 123, 10]⟩ : ByteArray))), (T.sc (.string (⟨#[9, 32, 10, 35, 10]⟩ : ByteArray)))] r5) fun y6 =>
must true (decide (((ByteArray.size s3 + ByteArray.size y6.str : Nat) : Int) ≤ IntKind.i64.max)) (must true (decide (((ByteArray.size (s3 ++ y6.str) + ByteArray.size (y3.cell 0).str : Nat) : Int) ≤ IntKind.i64.max)) (k (s0, s1, s2, ((s3 ++ y6.str) ++ (y3.cell 0).str), s4, s5, (IntKind.wrap .i64 (s6 + 1))))))
else (
must true (decide (((ByteArray.size s3 + ByteArray.size (y3.cell 0).str : Nat) : Int) ≤ IntKind.i64.max)) (k (s0, s1, s2, (s3 ++ (y3.cell 0).str), s4, s5, (IntKind.wrap .i64 (s6 + 1))))))
else (
some (s1, s2, s3))
def l_suturelaw5_ParseAfter_4 (n : Nat) : Nat → (List T) × Int × ByteArray × ByteArray × (List T) × Int × Int → Option (Int × ByteArray × ByteArray)
  | 0, _ => none
  | m + 1, s => l_suturelaw5_ParseAfter_4_B n (l_suturelaw5_ParseAfter_4 n m) s
def m_suturelaw5_ParseAfter (n : Nat) (a0 : Int) (a1 : List T) (a2 : List T) (a3 : List T) (a4 : Int) : Option (Bool) :=
Option.bind (m_suturehand_Prog n a0 a1 a2 ([] : List T) 5) fun r0 =>
Option.bind (m_sutureref1_Show n r0.1 r0.2) fun r1 =>
Option.bind (m_sutureref1_Lines n r1) fun r2 =>
Option.bind (l_suturelaw5_ParseAfter_4 n n (a3, a4, r1, (⟨#[]⟩ : ByteArray), r2, ((List.length r2 : Nat) : Int), 0)) fun p8 =>
Option.bind (m_parse_Read n p8.2.1) fun r9 =>
Option.bind (m_parse_Read n p8.2.2) fun r10 =>
Option.bind (m_suturelaw5_known n) fun r11 =>
bif (bif (!r11) then true else (decide ((((ByteArray.size p8.2.2 : Nat) : Int) : Int) > 5988))) then (
Option.bind (m_suturelaw5_known n) fun r12 =>
some r12)
else (
Option.bind (m_suturehand_Pick n p8.1 5) fun r13 =>
Option.bind (idx1 true (.str) [(T.sc (.string (⟨#[120]⟩ : ByteArray))), (T.sc (.string (⟨#[125]⟩ : ByteArray))), (T.sc (.string (⟨#[118, 97, 114]⟩ : ByteArray))), (T.sc (.string (⟨#[55]⟩ : ByteArray))), (T.sc (.string (⟨#[108, 111, 99, 107]⟩ : ByteArray)))] r13) fun y14 =>
must true (decide (((ByteArray.size p8.2.2 + ByteArray.size y14.str : Nat) : Int) ≤ IntKind.i64.max)) (Option.bind (m_parse_Read n (p8.2.2 ++ y14.str)) fun r15 =>
Option.bind (bif (bif ((r9.2.2.2 : Int) == 0) then ((r10.2.2.2 : Int) == 0) else false) then m_sutureref1_Same n r9.1 r9.2.1 r10.1 r10.2.1 else some false) fun r16 =>
Option.bind (bif (bif (bif (bif ((r9.2.2.2 : Int) == 0) then ((r10.2.2.2 : Int) == 0) else false) then r16 else false) then ((r15.2.2.2 : Int) == 2) else false) then m_sutureref1_Place n p8.2.2 ((ByteArray.size p8.2.2 : Nat) : Int) else some (0, 0)) fun r17 =>
some (bif (bif (bif (bif ((r9.2.2.2 : Int) == 0) then ((r10.2.2.2 : Int) == 0) else false) then r16 else false) then ((r15.2.2.2 : Int) == 2) else false) then (cplxEq .f64 r15.2.2.1.1 r15.2.2.1.2 r17.1 r17.2) else false)))
def d_suturelaw5_ParseAfter : FnF := ⟨7, [.int .i64, .list, .list, .list, .int .i64], [.bool]⟩
def cs_suturelaw5_ParseAfter (n : Nat) : List (CalF Tryz.prog) := [⟨d_suturehand_Prog, m_suturehand_Prog n, m_suturehand_Prog_ok n⟩, ⟨d_sutureref1_Show, m_sutureref1_Show n, m_sutureref1_Show_ok n⟩, ⟨d_sutureref1_Lines, m_sutureref1_Lines n, m_sutureref1_Lines_ok n⟩, ⟨d_suturehand_Pick, m_suturehand_Pick n, m_suturehand_Pick_ok n⟩, ⟨d_parse_Read, m_parse_Read n, m_parse_Read_ok n⟩, ⟨d_suturelaw5_known, m_suturelaw5_known n, m_suturelaw5_known_ok n⟩, ⟨d_sutureref1_Same, m_sutureref1_Same n, m_sutureref1_Same_ok n⟩, ⟨d_sutureref1_Place, m_sutureref1_Place n, m_sutureref1_Place_ok n⟩]
def L_l_suturelaw5_ParseAfter_4 : LF := ⟨4, [3, 4, 11, 12, 31, 32, 33], [.list, .int .i64, .str, .str, .own 1, .int .i64, .int .i64], [⟨(.exit 0), [4, 11, 12], [.int .i64, .str, .str]⟩]⟩
def ls_suturelaw5_ParseAfter (n : Nat) : List LE := [⟨4, loopS L_l_suturelaw5_ParseAfter_4 (l_suturelaw5_ParseAfter_4 n n)⟩]
theorem l_suturelaw5_ParseAfter_4_ok (n : Nat) : LoopOk Tryz.prog (mkSpec (cs_suturelaw5_ParseAfter n) (ls_suturelaw5_ParseAfter n)) 0 110 (loopAt Tryz.f7 0) := loopOk (L := L_l_suturelaw5_ParseAfter_4) (f := l_suturelaw5_ParseAfter_4 n) (B := l_suturelaw5_ParseAfter_4_B n) (k := n) (loopAt_ok sound Tryz.func7 (by kernel_rfl)) (inner (by kernel_rfl) allN) (innerS (by kernel_rfl) allN) (fun _ => rfl) (fun _ _ => rfl) (by kernel_rfl) (fun _ => by kernel_rfl) (by kernel_rfl) (fun k a => by kernel_rfl)
theorem m_suturelaw5_ParseAfter_ok (n : Nat) : Ok Tryz.prog d_suturelaw5_ParseAfter (m_suturelaw5_ParseAfter n) := fnOk sound (cs := cs_suturelaw5_ParseAfter n) (ls := ls_suturelaw5_ParseAfter n) (n := 110) Tryz.func7 (by kernel_rfl) (fun _ => by kernel_rfl) (inner (by kernel_rfl) (allC (l_suturelaw5_ParseAfter_4_ok n) allN)) (innerS (by kernel_rfl) allN) (by kernel_rfl) (fun a => by kernel_rfl)


/-! suture/suturelaw5.ParseMore -/
def m_suturelaw5_ParseMore (n : Nat) (a0 : Int) (a1 : List T) (a2 : List T) : Option (Bool) :=
Option.bind (m_suturehand_Prog n a0 a1 a2 ([] : List T) 4) fun r0 =>
bif ((((List.length r0.2 : Nat) : Int) : Int) != 2) then (
some false)
else (
must true (decide (0 ≤ 0) && decide (0 ≤ 1) && decide (1 ≤ ((List.length r0.2 : Nat) : Int)) && sized 1 r0.2) (must true (decide (0 ≤ 1) && decide (1 ≤ ((List.length r0.2 : Nat) : Int)) && decide (((List.length r0.2 : Nat) : Int) ≤ ((List.length r0.2 : Nat) : Int)) && sized 1 r0.2) (Option.bind (m_sutureref1_Show n r0.1 (List.drop (Int.toNat 0) (List.take (Int.toNat 1) r0.2))) fun r1 =>
Option.bind (m_parse_Read n r1) fun r2 =>
Option.bind (m_sutureref1_Show n ([] : List T) (List.drop (Int.toNat 1) (List.take (Int.toNat ((List.length r0.2 : Nat) : Int)) r0.2))) fun r3 =>
Option.bind (m_parse_Read n r3) fun r4 =>
Option.bind (m_sutureref1_Show n r0.1 (List.drop (Int.toNat 0) (List.take (Int.toNat 1) r0.2))) fun r5 =>
Option.bind (m_sutureref1_Show n ([] : List T) (List.drop (Int.toNat 1) (List.take (Int.toNat ((List.length r0.2 : Nat) : Int)) r0.2))) fun r6 =>
must true (decide (((ByteArray.size r5 + ByteArray.size r6 : Nat) : Int) ≤ IntKind.i64.max)) (Option.bind (m_parse_Read n (r5 ++ r6)) fun r7 =>
Option.bind (m_suturelaw5_known n) fun r8 =>
bif (bif (bif (bif (bif (bif (bif (!r8) then true else ((r2.2.2.2 : Int) != 0)) then true else ((r4.2.2.2 : Int) != 0)) then true else ((r7.2.2.2 : Int) != 0)) then true else ((((List.length r7.2.1 : Nat) : Int) : Int) != 2)) then true else ((((List.length r2.2.1 : Nat) : Int) : Int) != 1)) then true else ((((List.length r4.2.1 : Nat) : Int) : Int) != 1)) then (
some false)
else (
Option.bind (idx true [.list] r7.2.1 0) fun y9 =>
Option.bind (idx true [.list] r2.2.1 0) fun y10 =>
Option.bind (m_sutureref1_SameBlock n (y9.cell 0).lst (y10.cell 0).lst) fun r11 =>
Option.bind (idx (r11) [.list] r7.2.1 1) fun y12 =>
Option.bind (idx (r11) [.list] r4.2.1 0) fun y13 =>
Option.bind (bif r11 then m_sutureref1_SameBlock n (y12.cell 0).lst (y13.cell 0).lst else some false) fun r14 =>
Option.bind (bif (bif r11 then r14 else false) then m_sutureref1_SameDecls n r7.1 r0.1 else some false) fun r15 =>
some (bif (bif r11 then r14 else false) then r15 else false))))))
def d_suturelaw5_ParseMore : FnF := ⟨8, [.int .i64, .list, .list], [.bool]⟩
def cs_suturelaw5_ParseMore (n : Nat) : List (CalF Tryz.prog) := [⟨d_suturehand_Prog, m_suturehand_Prog n, m_suturehand_Prog_ok n⟩, ⟨d_sutureref1_Show, m_sutureref1_Show n, m_sutureref1_Show_ok n⟩, ⟨d_parse_Read, m_parse_Read n, m_parse_Read_ok n⟩, ⟨d_suturelaw5_known, m_suturelaw5_known n, m_suturelaw5_known_ok n⟩, ⟨d_sutureref1_SameBlock, m_sutureref1_SameBlock n, m_sutureref1_SameBlock_ok n⟩, ⟨d_sutureref1_SameDecls, m_sutureref1_SameDecls n, m_sutureref1_SameDecls_ok n⟩]
def ls_suturelaw5_ParseMore (n : Nat) : List LE := []
theorem m_suturelaw5_ParseMore_ok (n : Nat) : Ok Tryz.prog d_suturelaw5_ParseMore (m_suturelaw5_ParseMore n) := fnOk sound (cs := cs_suturelaw5_ParseMore n) (ls := ls_suturelaw5_ParseMore n) (n := 121) Tryz.func8 (by kernel_rfl) (fun _ => by kernel_rfl) (inner (by kernel_rfl) allN) (innerS (by kernel_rfl) allN) (by kernel_rfl) (fun a => by kernel_rfl)

end Go.Proofs.YtbcgpjlkkcdmmaaGreatDoor.W
