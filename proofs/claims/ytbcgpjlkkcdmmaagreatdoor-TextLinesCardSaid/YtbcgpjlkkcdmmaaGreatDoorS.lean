/- What the engine's walk comes to, printed by a program of this work: for each function its model, and that it is one. No conditions. -/
import Derived.Test.YtbcgpjlkkcdmmaaGreatDoorS1
namespace Go.Proofs.YtbcgpjlkkcdmmaaGreatDoor.W
open Go Go.Eng
set_option linter.unusedVariables false
set_option linter.unusedSimpArgs false
set_option maxRecDepth 100000
def f___parse_reader__stmt (b : B___parse_reader__block) (n : Nat) (a0 : Int) (a1 : List T) (a2 : Int) (a3 : Bool) : Option (Int × ByteArray × ByteArray × Int × Int × Int × ByteArray × (List T) × (List T) × (List T) × (Nat × Nat) × (List T) × Int × Bool) :=
Option.bind (idx true [.int .i64, .str, .int .i64, .cplx .f64] a1 a2) fun y0 =>
bif (((y0.cell 0).int : Int) != 1) then (
Option.bind (m___parse_reader__fail n a1 a2 a3) fun r1 =>
some (0, (⟨#[]⟩ : ByteArray), (⟨#[]⟩ : ByteArray), 0, 0, 0, (⟨#[]⟩ : ByteArray), ([] : List T), ([] : List T), ([] : List T), ((y0.cell 3).re, (y0.cell 3).im), r1.1, r1.2.1, r1.2.2))
else (
Option.bind (m_lex_IsName n (y0.cell 1).str) fun r2 =>
bif r2 then (
Option.bind (m___parse_reader__name n a1 a2 a3) fun r3 =>
Option.bind (m___parse_reader__must n (⟨#[61]⟩ : ByteArray) r3.2.1 r3.2.2.1 r3.2.2.2) fun r4 =>
Option.bind (m___parse_reader__expr n r4.1 r4.2.1 r4.2.2) fun r5 =>
some (1, r3.1, (⟨#[]⟩ : ByteArray), 0, r5.1, r5.2.1, r5.2.2.1, r5.2.2.2.1, ([] : List T), ([] : List T), ((y0.cell 3).re, (y0.cell 3).im), r5.2.2.2.2.1, r5.2.2.2.2.2.1, r5.2.2.2.2.2.2))
else (
bif (ByteArray.toList (y0.cell 1).str == ByteArray.toList (⟨#[108, 111, 99, 107]⟩ : ByteArray)) then (
Option.bind (m___parse_reader__name n a1 (IntKind.wrap .i64 (a2 + 1)) a3) fun r6 =>
some (2, r6.1, (⟨#[]⟩ : ByteArray), 0, 0, 0, (⟨#[]⟩ : ByteArray), ([] : List T), ([] : List T), ([] : List T), ((y0.cell 3).re, (y0.cell 3).im), r6.2.1, r6.2.2.1, r6.2.2.2))
else (
bif (ByteArray.toList (y0.cell 1).str == ByteArray.toList (⟨#[117, 110, 108, 111, 99, 107]⟩ : ByteArray)) then (
Option.bind (m___parse_reader__name n a1 (IntKind.wrap .i64 (a2 + 1)) a3) fun r7 =>
some (3, r7.1, (⟨#[]⟩ : ByteArray), 0, 0, 0, (⟨#[]⟩ : ByteArray), ([] : List T), ([] : List T), ([] : List T), ((y0.cell 3).re, (y0.cell 3).im), r7.2.1, r7.2.2.1, r7.2.2.2))
else (
bif (ByteArray.toList (y0.cell 1).str == ByteArray.toList (⟨#[115, 101, 110, 100]⟩ : ByteArray)) then (
Option.bind (m___parse_reader__name n a1 (IntKind.wrap .i64 (a2 + 1)) a3) fun r8 =>
Option.bind (m___parse_reader__expr n r8.2.1 r8.2.2.1 r8.2.2.2) fun r9 =>
some (4, r8.1, (⟨#[]⟩ : ByteArray), 0, r9.1, r9.2.1, r9.2.2.1, r9.2.2.2.1, ([] : List T), ([] : List T), ((y0.cell 3).re, (y0.cell 3).im), r9.2.2.2.2.1, r9.2.2.2.2.2.1, r9.2.2.2.2.2.2))
else (
bif (ByteArray.toList (y0.cell 1).str == ByteArray.toList (⟨#[114, 101, 99, 118]⟩ : ByteArray)) then (
Option.bind (m___parse_reader__name n a1 (IntKind.wrap .i64 (a2 + 1)) a3) fun r10 =>
Option.bind (m___parse_reader__name n r10.2.1 r10.2.2.1 r10.2.2.2) fun r11 =>
some (5, r10.1, r11.1, 0, 0, 0, (⟨#[]⟩ : ByteArray), ([] : List T), ([] : List T), ([] : List T), ((y0.cell 3).re, (y0.cell 3).im), r11.2.1, r11.2.2.1, r11.2.2.2))
else (
bif (ByteArray.toList (y0.cell 1).str == ByteArray.toList (⟨#[112, 114, 105, 110, 116]⟩ : ByteArray)) then (
Option.bind (m___parse_reader__expr n a1 (IntKind.wrap .i64 (a2 + 1)) a3) fun r12 =>
some (6, (⟨#[]⟩ : ByteArray), (⟨#[]⟩ : ByteArray), 0, r12.1, r12.2.1, r12.2.2.1, r12.2.2.2.1, ([] : List T), ([] : List T), ((y0.cell 3).re, (y0.cell 3).im), r12.2.2.2.2.1, r12.2.2.2.2.2.1, r12.2.2.2.2.2.2))
else (
bif (ByteArray.toList (y0.cell 1).str == ByteArray.toList (⟨#[105, 102]⟩ : ByteArray)) then (
Option.bind (m___parse_reader__expr n a1 (IntKind.wrap .i64 (a2 + 1)) a3) fun r13 =>
Option.bind (b.__parse_reader__block a0 r13.2.2.2.2.1 r13.2.2.2.2.2.1 r13.2.2.2.2.2.2) fun r14 =>
Option.bind (m___parse_reader__is n (⟨#[101, 108, 115, 101]⟩ : ByteArray) r14.2.1 r14.2.2.1 r14.2.2.2) fun r15 =>
bif r15.1 then (
Option.bind (b.__parse_reader__block a0 r15.2.1 (IntKind.wrap .i64 (r15.2.2.1 + 1)) r15.2.2.2) fun r16 =>
some (7, (⟨#[]⟩ : ByteArray), (⟨#[]⟩ : ByteArray), 0, r13.1, r13.2.1, r13.2.2.1, r13.2.2.2.1, r14.1, r16.1, ((y0.cell 3).re, (y0.cell 3).im), r16.2.1, r16.2.2.1, r16.2.2.2))
else (
some (7, (⟨#[]⟩ : ByteArray), (⟨#[]⟩ : ByteArray), 0, r13.1, r13.2.1, r13.2.2.1, r13.2.2.2.1, r14.1, ([] : List T), ((y0.cell 3).re, (y0.cell 3).im), r15.2.1, r15.2.2.1, r15.2.2.2)))
else (
bif (ByteArray.toList (y0.cell 1).str == ByteArray.toList (⟨#[114, 101, 112, 101, 97, 116]⟩ : ByteArray)) then (
Option.bind (m___parse_reader__number n 9 a1 (IntKind.wrap .i64 (a2 + 1)) a3) fun r17 =>
Option.bind (b.__parse_reader__block a0 r17.2.1 r17.2.2.1 r17.2.2.2) fun r18 =>
some (8, (⟨#[]⟩ : ByteArray), (⟨#[]⟩ : ByteArray), r17.1, 0, 0, (⟨#[]⟩ : ByteArray), ([] : List T), r18.1, ([] : List T), ((y0.cell 3).re, (y0.cell 3).im), r18.2.1, r18.2.2.1, r18.2.2.2))
else (
bif (ByteArray.toList (y0.cell 1).str == ByteArray.toList (⟨#[103, 111, 116, 111]⟩ : ByteArray)) then (
Option.bind (m___parse_reader__name n a1 (IntKind.wrap .i64 (a2 + 1)) a3) fun r19 =>
some (9, r19.1, (⟨#[]⟩ : ByteArray), 0, 0, 0, (⟨#[]⟩ : ByteArray), ([] : List T), ([] : List T), ([] : List T), ((y0.cell 3).re, (y0.cell 3).im), r19.2.1, r19.2.2.1, r19.2.2.2))
else (
bif (ByteArray.toList (y0.cell 1).str == ByteArray.toList (⟨#[108, 97, 98, 101, 108]⟩ : ByteArray)) then (
Option.bind (m___parse_reader__name n a1 (IntKind.wrap .i64 (a2 + 1)) a3) fun r20 =>
some (10, r20.1, (⟨#[]⟩ : ByteArray), 0, 0, 0, (⟨#[]⟩ : ByteArray), ([] : List T), ([] : List T), ([] : List T), ((y0.cell 3).re, (y0.cell 3).im), r20.2.1, r20.2.2.1, r20.2.2.2))
else (
Option.bind (m___parse_reader__fail n a1 (IntKind.wrap .i64 ((IntKind.wrap .i64 (a2 + 1)) - 1)) a3) fun r21 =>
some (0, (⟨#[]⟩ : ByteArray), (⟨#[]⟩ : ByteArray), 0, 0, 0, (⟨#[]⟩ : ByteArray), ([] : List T), ([] : List T), ([] : List T), ((y0.cell 3).re, (y0.cell 3).im), r21.1, r21.2.1, r21.2.2))))))))))))
def cs___parse_reader__stmt (b : B___parse_reader__block) (hb : B___parse_reader__block_ok b) (n : Nat) : List (CalF Tryz.prog) := [⟨d___parse_reader__fail, m___parse_reader__fail n, m___parse_reader__fail_ok n⟩, ⟨d_lex_IsName, m_lex_IsName n, m_lex_IsName_ok n⟩, ⟨d___parse_reader__name, m___parse_reader__name n, m___parse_reader__name_ok n⟩, ⟨d___parse_reader__must, m___parse_reader__must n, m___parse_reader__must_ok n⟩, ⟨d___parse_reader__expr, m___parse_reader__expr n, m___parse_reader__expr_ok n⟩, ⟨d___parse_reader__block, b.__parse_reader__block, hb.__parse_reader__block⟩, ⟨d___parse_reader__is, m___parse_reader__is n, m___parse_reader__is_ok n⟩, ⟨d___parse_reader__number, m___parse_reader__number n, m___parse_reader__number_ok n⟩]
def ls___parse_reader__stmt (b : B___parse_reader__block) (n : Nat) : List LE := []
theorem f___parse_reader__stmt_ok (b : B___parse_reader__block) (hb : B___parse_reader__block_ok b) (n : Nat) : Ok Tryz.prog d___parse_reader__stmt (f___parse_reader__stmt b n) := fnOk sound (cs := cs___parse_reader__stmt b hb n) (ls := ls___parse_reader__stmt b n) (n := 139) Tryz.func118 (by kernel_rfl) (fun _ => by kernel_rfl) (inner (by kernel_rfl) allN) (innerS (by kernel_rfl) allN) (by kernel_rfl) (fun a => by kernel_rfl)
def unB___parse_reader__block (n : Nat) : Nat -> B___parse_reader__block
 | 0 => { __parse_reader__block := fun _ _ _ _ => none, __parse_reader__stmt := fun _ _ _ _ => none }
 | m + 1 => { __parse_reader__block := f___parse_reader__block (unB___parse_reader__block n m) n, __parse_reader__stmt := f___parse_reader__stmt (unB___parse_reader__block n m) n }
theorem unB___parse_reader__block_ok (n : Nat) : ∀ m, B___parse_reader__block_ok (unB___parse_reader__block n m)
 | 0 => { __parse_reader__block := fun _ _ h => (nomatch (show none = some _ from h)), __parse_reader__stmt := fun _ _ h => (nomatch (show none = some _ from h)) }
 | m + 1 => { __parse_reader__block := f___parse_reader__block_ok _ (unB___parse_reader__block_ok n m) n, __parse_reader__stmt := f___parse_reader__stmt_ok _ (unB___parse_reader__block_ok n m) n }
def m___parse_reader__block (n : Nat) : Int -> List T -> Int -> Bool -> Option ((List T) × (List T) × Int × Bool) := (unB___parse_reader__block n n).__parse_reader__block
theorem m___parse_reader__block_ok (n : Nat) : Ok Tryz.prog d___parse_reader__block (m___parse_reader__block n) := (unB___parse_reader__block_ok n n).__parse_reader__block
def m___parse_reader__stmt (n : Nat) : Int -> List T -> Int -> Bool -> Option (Int × ByteArray × ByteArray × Int × Int × Int × ByteArray × (List T) × (List T) × (List T) × (Nat × Nat) × (List T) × Int × Bool) := (unB___parse_reader__block n n).__parse_reader__stmt
theorem m___parse_reader__stmt_ok (n : Nat) : Ok Tryz.prog d___parse_reader__stmt (m___parse_reader__stmt n) := (unB___parse_reader__block_ok n n).__parse_reader__stmt
def m_slices_Clip_____api_Stmt___api_Stmt_ (n : Nat) (a0 : List T) : Option ((List T)) :=
must true (decide (0 <= 0) && decide (0 <= ((List.length a0 : Nat) : Int)) && decide (((List.length a0 : Nat) : Int) <= ((List.length a0 : Nat) : Int)) && sized 1 a0) (must true (decide (((List.length a0 : Nat) : Int) = ((List.length a0 : Nat) : Int))) (some (List.drop (Int.toNat 0) (List.take (Int.toNat ((List.length a0 : Nat) : Int)) a0))))
def d_slices_Clip_____api_Stmt___api_Stmt_ : FnF := ⟨82, [.list], [.own 1]⟩
def cs_slices_Clip_____api_Stmt___api_Stmt_ (n : Nat) : List (CalF Tryz.prog) := []
def ls_slices_Clip_____api_Stmt___api_Stmt_ (n : Nat) : List LE := []
theorem m_slices_Clip_____api_Stmt___api_Stmt__ok (n : Nat) : Ok Tryz.prog d_slices_Clip_____api_Stmt___api_Stmt_ (m_slices_Clip_____api_Stmt___api_Stmt_ n) := fnOk sound (cs := cs_slices_Clip_____api_Stmt___api_Stmt_ n) (ls := ls_slices_Clip_____api_Stmt___api_Stmt_ n) (n := 9) Tryz.func82 (by kernel_rfl) (fun _ => by kernel_rfl) (inner (by kernel_rfl) allN) (innerS (by kernel_rfl) allN) (by kernel_rfl) (fun a => by kernel_rfl)
def l___parse_reader__prog_2_B (n : Nat) (k : (List T) × Int × Bool × (List T) × (List T) × (List T) × (List T) -> Option ((List T) × Int × Bool × (List T) × (List T) × (List T) × (List T))) : (List T) × Int × Bool × (List T) × (List T) × (List T) × (List T) -> Option ((List T) × Int × Bool × (List T) × (List T) × (List T) × (List T)) := fun (s0, s1, s2, s3, s4, s5, s6) =>
Option.bind (idx (((!s2) && !((((List.length s6 : Nat) : Int) : Int) == 0))) [.int .i64, .str, .int .i64, .cplx .f64] s0 s1) fun y1 =>
bif (bif (!s2) then (bif ((((List.length s6 : Nat) : Int) : Int) == 0) then true else (((y1.cell 0).int : Int) != 4)) else false) then (
bif ((((List.length s6 : Nat) : Int) : Int) == 4) then (
Option.bind (m___parse_reader__fail n s0 s1 s2) fun r2 =>
Option.bind (m___parse_reader__must n (⟨#[103, 111]⟩ : ByteArray) r2.1 r2.2.1 r2.2.2) fun r3 =>
Option.bind (m___parse_reader__block n 0 r3.1 r3.2.1 r3.2.2) fun r4 =>
must true ((Nat.beq 1 1 || Nat.beq 1 0) && (decide (List.length s6 + List.length [(T.list r4.1)] <= 1073741824) && sized 1 [(T.list r4.1)])) (k (r4.2.1, r4.2.2.1, r4.2.2.2, s3, s4, s5, (s6 ++ [(T.list r4.1)]))))
else (
Option.bind (m___parse_reader__must n (⟨#[103, 111]⟩ : ByteArray) s0 s1 s2) fun r5 =>
Option.bind (m___parse_reader__block n 0 r5.1 r5.2.1 r5.2.2) fun r6 =>
must true ((Nat.beq 1 1 || Nat.beq 1 0) && (decide (List.length s6 + List.length [(T.list r6.1)] <= 1073741824) && sized 1 [(T.list r6.1)])) (k (r6.2.1, r6.2.2.1, r6.2.2.2, s3, s4, s5, (s6 ++ [(T.list r6.1)])))))
else (
some (s0, s1, s2, s3, s4, s5, s6))
def l___parse_reader__prog_2 (n : Nat) : Nat -> (List T) × Int × Bool × (List T) × (List T) × (List T) × (List T) -> Option ((List T) × Int × Bool × (List T) × (List T) × (List T) × (List T))
 | 0, _ => none
 | m + 1, s => l___parse_reader__prog_2_B n (l___parse_reader__prog_2 n m) s
def m___parse_reader__prog (n : Nat) (a0 : List T) (a1 : Int) (a2 : Bool) : Option ((List T) × (List T) × (List T) × Int × Bool) :=
Option.bind (m___parse_reader__decls n a0 a1 a2) fun r0 =>
Option.bind (l___parse_reader__prog_2 n n (r0.2.1, r0.2.2.1, r0.2.2.2, ([] : List T), ([] : List T), r0.1, ([] : List T))) fun p8 =>
Option.bind (m_slices_Clip_____api_Stmt___api_Stmt_ n p8.2.2.2.2.2.2) fun r9 =>
some (p8.2.2.2.2.2.1, r9, p8.1, p8.2.1, p8.2.2.1)
def d___parse_reader__prog : FnF := ⟨42, [.ptr 0 0, .box 3, .list, .int .i64, .bool], [.agg 2, .list, .list, .box 3, .list, .int .i64, .bool]⟩
def cs___parse_reader__prog (n : Nat) : List (CalF Tryz.prog) := [⟨d___parse_reader__decls, m___parse_reader__decls n, m___parse_reader__decls_ok n⟩, ⟨d___parse_reader__fail, m___parse_reader__fail n, m___parse_reader__fail_ok n⟩, ⟨d___parse_reader__must, m___parse_reader__must n, m___parse_reader__must_ok n⟩, ⟨d___parse_reader__block, m___parse_reader__block n, m___parse_reader__block_ok n⟩, ⟨d_slices_Clip_____api_Stmt___api_Stmt_, m_slices_Clip_____api_Stmt___api_Stmt_ n, m_slices_Clip_____api_Stmt___api_Stmt__ok n⟩]
def L_l___parse_reader__prog_2 : LF := ⟨2, [0, 2, 3], [.ptr 0 0, .ptr 1 0, .ptr 2 0, .box 3, .list, .int .i64, .bool, .box 2, .own 0, .own 0, .box 2, .list, .own 1], [⟨(.exit 0), [2, 3], [.ptr 1 0, .ptr 2 0, .box 3, .list, .int .i64, .bool, .box 2, .own 0, .own 0, .box 2, .list, .own 1]⟩]⟩
def ls___parse_reader__prog (n : Nat) : List LE := [⟨2, loopS L_l___parse_reader__prog_2 (l___parse_reader__prog_2 n n)⟩]
theorem l___parse_reader__prog_2_ok (n : Nat) : LoopOk Tryz.prog (mkSpec (cs___parse_reader__prog n) (ls___parse_reader__prog n)) 1 52 (loopAt Tryz.f42 0) := loopOk (L := L_l___parse_reader__prog_2) (f := l___parse_reader__prog_2 n) (B := l___parse_reader__prog_2_B n) (k := n) (loopAt_ok sound Tryz.func42 (by kernel_rfl)) (inner (by kernel_rfl) allN) (innerS (by kernel_rfl) allN) (fun _ => rfl) (fun _ _ => rfl) (by kernel_rfl) (fun _ => by kernel_rfl) (by kernel_rfl) (fun k a => by kernel_rfl)
theorem m___parse_reader__prog_ok (n : Nat) : Ok Tryz.prog d___parse_reader__prog (m___parse_reader__prog n) := fnOk sound (cs := cs___parse_reader__prog n) (ls := ls___parse_reader__prog n) (n := 52) Tryz.func42 (by kernel_rfl) (fun _ => by kernel_rfl) (inner (by kernel_rfl) (allC (l___parse_reader__prog_2_ok n) allN)) (innerS (by kernel_rfl) allN) (by kernel_rfl) (fun a => by kernel_rfl)
def m_parse_Read (n : Nat) (a0 : ByteArray) : Option ((List T) × (List T) × (Nat × Nat) × Int) :=
Option.bind (m_lex_Tokens n a0) fun r0 =>
bif ((r0.2.2 : Int) != 0) then (
some (([] : List T), ([] : List T), r0.2.1, r0.2.2))
else (
Option.bind (m___parse_reader__prog n r0.1 0 false) fun r1 =>
bif r1.2.2.2.2 then (
Option.bind (idx true [.int .i64, .str, .int .i64, .cplx .f64] r0.1 r1.2.2.2.1) fun y2 =>
some (([] : List T), ([] : List T), ((y2.cell 3).re, (y2.cell 3).im), 2))
else (
some (r1.1, r1.2.1, (0, 0), 0)))
def d_parse_Read : FnF := ⟨19, [.str], [.tup 3, .agg 2, .list, .list, .cplx .f64, .int .i64]⟩
def cs_parse_Read (n : Nat) : List (CalF Tryz.prog) := [⟨d_lex_Tokens, m_lex_Tokens n, m_lex_Tokens_ok n⟩, ⟨d___parse_reader__prog, m___parse_reader__prog n, m___parse_reader__prog_ok n⟩]
def ls_parse_Read (n : Nat) : List LE := []
theorem m_parse_Read_ok (n : Nat) : Ok Tryz.prog d_parse_Read (m_parse_Read n) := fnOk sound (cs := cs_parse_Read n) (ls := ls_parse_Read n) (n := 40) Tryz.func19 (by kernel_rfl) (fun _ => by kernel_rfl) (inner (by kernel_rfl) allN) (innerS (by kernel_rfl) allN) (by kernel_rfl) (fun a => by kernel_rfl)
def m_tree_Same_1 (n : Nat) (a0 : Int) (a1 : ByteArray) (a2 : Int) (a3 : Nat × Nat) (a4 : Int) (a5 : ByteArray) (a6 : Int) (a7 : Nat × Nat) : Option (Bool) :=
some (bif (bif ((a0 : Int) == a4) then (ByteArray.toList a1 == ByteArray.toList a5) else false) then ((a2 : Int) == a6) else false)
def d_tree_Same_1 : FnF := ⟨60, [.agg 4, .int .i64, .str, .int .i64, .cplx .f64, .agg 4, .int .i64, .str, .int .i64, .cplx .f64], [.bool]⟩
def cs_tree_Same_1 (n : Nat) : List (CalF Tryz.prog) := []
def ls_tree_Same_1 (n : Nat) : List LE := []
theorem m_tree_Same_1_ok (n : Nat) : Ok Tryz.prog d_tree_Same_1 (m_tree_Same_1 n) := fnOk sound (cs := cs_tree_Same_1 n) (ls := ls_tree_Same_1 n) (n := 24) Tryz.func60 (by kernel_rfl) (fun _ => by kernel_rfl) (inner (by kernel_rfl) allN) (innerS (by kernel_rfl) allN) (by kernel_rfl) (fun a => by kernel_rfl)
def l_slices_EqualFunc___api_Decl___api_Decl_api_Decl_api_Decl__4_B (n : Nat) (k : (List T) × (List T) × Int × Int -> Option (((Bool) ⊕ Unit))) : (List T) × (List T) × Int × Int -> Option (((Bool) ⊕ Unit)) := fun (s0, s1, s2, s3) =>
bif (decide ((s3 : Int) < s2)) then (
Option.bind (idx true [.int .i64, .str, .int .i64, .cplx .f64] s1 s3) fun y0 =>
Option.bind (idx true [.int .i64, .str, .int .i64, .cplx .f64] s0 s3) fun y1 =>
Option.bind (m_tree_Same_1 n (y0.cell 0).int (y0.cell 1).str (y0.cell 2).int ((y0.cell 3).re, (y0.cell 3).im) (y1.cell 0).int (y1.cell 1).str (y1.cell 2).int ((y1.cell 3).re, (y1.cell 3).im)) fun r2 =>
bif (!r2) then (
some (Sum.inl false))
else (
k (s0, s1, s2, (IntKind.wrap .i64 (s3 + 1)))))
else (
some (Sum.inr ()))
def l_slices_EqualFunc___api_Decl___api_Decl_api_Decl_api_Decl__4 (n : Nat) : Nat -> (List T) × (List T) × Int × Int -> Option (((Bool) ⊕ Unit))
 | 0, _ => none
 | m + 1, s => l_slices_EqualFunc___api_Decl___api_Decl_api_Decl_api_Decl__4_B n (l_slices_EqualFunc___api_Decl___api_Decl_api_Decl_api_Decl__4 n m) s
def m_slices_EqualFunc___api_Decl___api_Decl_api_Decl_api_Decl_ (n : Nat) (a0 : List T) (a1 : List T) : Option (Bool) :=
bif ((((List.length a0 : Nat) : Int) : Int) != ((List.length a1 : Nat) : Int)) then (
some false)
else (
Option.bind (l_slices_EqualFunc___api_Decl___api_Decl_api_Decl_api_Decl__4 n n (a1, a0, ((List.length a0 : Nat) : Int), 0)) fun x3 =>
Sum.elim (fun p4 =>
some p4) (fun x3' => (fun p5 =>
some true) x3') x3)
def d_slices_EqualFunc___api_Decl___api_Decl_api_Decl_api_Decl_ : FnF := ⟨61, [.list, .list, .fn 60 0], [.bool]⟩
def cs_slices_EqualFunc___api_Decl___api_Decl_api_Decl_api_Decl_ (n : Nat) : List (CalF Tryz.prog) := [⟨d_tree_Same_1, m_tree_Same_1 n, m_tree_Same_1_ok n⟩]
def L_l_slices_EqualFunc___api_Decl___api_Decl_api_Decl_api_Decl__4 : LF := ⟨4, [1, 2, 15, 16, 17], [.list, .fn 60 0, .list, .int .i64, .int .i64], [⟨.ret, [6], [.bool]⟩, ⟨(.exit 0), [], []⟩]⟩
def ls_slices_EqualFunc___api_Decl___api_Decl_api_Decl_api_Decl_ (n : Nat) : List LE := [⟨4, loopS L_l_slices_EqualFunc___api_Decl___api_Decl_api_Decl_api_Decl__4 (l_slices_EqualFunc___api_Decl___api_Decl_api_Decl_api_Decl__4 n n)⟩]
theorem l_slices_EqualFunc___api_Decl___api_Decl_api_Decl_api_Decl__4_ok (n : Nat) : LoopOk Tryz.prog (mkSpec (cs_slices_EqualFunc___api_Decl___api_Decl_api_Decl_api_Decl_ n) (ls_slices_EqualFunc___api_Decl___api_Decl_api_Decl_api_Decl_ n)) 0 32 (loopAt Tryz.f61 0) := loopOk (L := L_l_slices_EqualFunc___api_Decl___api_Decl_api_Decl_api_Decl__4) (f := l_slices_EqualFunc___api_Decl___api_Decl_api_Decl_api_Decl__4 n) (B := l_slices_EqualFunc___api_Decl___api_Decl_api_Decl_api_Decl__4_B n) (k := n) (loopAt_ok sound Tryz.func61 (by kernel_rfl)) (inner (by kernel_rfl) allN) (innerS (by kernel_rfl) allN) (fun _ => rfl) (fun _ _ => rfl) (by kernel_rfl) (fun _ => by kernel_rfl) (by kernel_rfl) (fun k a => by kernel_rfl)
theorem m_slices_EqualFunc___api_Decl___api_Decl_api_Decl_api_Decl__ok (n : Nat) : Ok Tryz.prog d_slices_EqualFunc___api_Decl___api_Decl_api_Decl_api_Decl_ (m_slices_EqualFunc___api_Decl___api_Decl_api_Decl_api_Decl_ n) := fnOk sound (cs := cs_slices_EqualFunc___api_Decl___api_Decl_api_Decl_api_Decl_ n) (ls := ls_slices_EqualFunc___api_Decl___api_Decl_api_Decl_api_Decl_ n) (n := 32) Tryz.func61 (by kernel_rfl) (fun _ => by kernel_rfl) (inner (by kernel_rfl) (allC (l_slices_EqualFunc___api_Decl___api_Decl_api_Decl_api_Decl__4_ok n) allN)) (innerS (by kernel_rfl) allN) (by kernel_rfl) (fun a => by kernel_rfl)
structure B_tree_sameBlock where
 tree_sameBlock : List T -> List T -> Option (Bool)
 slices_EqualFunc___api_Stmt___api_Stmt_api_Stmt_api_Stmt_ : List T -> List T -> Option (Bool)
 tree_sameStmt : Int -> ByteArray -> ByteArray -> Int -> Int -> Int -> ByteArray -> List T -> List T -> List T -> Nat × Nat -> Int -> ByteArray -> ByteArray -> Int -> Int -> Int -> ByteArray -> List T -> List T -> List T -> Nat × Nat -> Option (Bool)
def d_tree_sameBlock : FnF := ⟨63, [.list, .list], [.bool]⟩
def d_slices_EqualFunc___api_Stmt___api_Stmt_api_Stmt_api_Stmt_ : FnF := ⟨100, [.list, .list, .fn 101 0], [.bool]⟩
def d_tree_sameStmt : FnF := ⟨101, [.agg 11, .int .i64, .str, .str, .int .i64, .int .i64, .int .i64, .str, .list, .list, .list, .cplx .f64, .agg 11, .int .i64, .str, .str, .int .i64, .int .i64, .int .i64, .str, .list, .list, .list, .cplx .f64], [.bool]⟩
structure B_tree_sameBlock_ok (b : B_tree_sameBlock) : Prop where
 tree_sameBlock : Ok Tryz.prog d_tree_sameBlock b.tree_sameBlock
 slices_EqualFunc___api_Stmt___api_Stmt_api_Stmt_api_Stmt_ : Ok Tryz.prog d_slices_EqualFunc___api_Stmt___api_Stmt_api_Stmt_api_Stmt_ b.slices_EqualFunc___api_Stmt___api_Stmt_api_Stmt_api_Stmt_
 tree_sameStmt : Ok Tryz.prog d_tree_sameStmt b.tree_sameStmt
def f_tree_sameBlock (b : B_tree_sameBlock) (n : Nat) (a0 : List T) (a1 : List T) : Option (Bool) :=
Option.bind (b.slices_EqualFunc___api_Stmt___api_Stmt_api_Stmt_api_Stmt_ a0 a1) fun r0 =>
some r0
def cs_tree_sameBlock (b : B_tree_sameBlock) (hb : B_tree_sameBlock_ok b) (n : Nat) : List (CalF Tryz.prog) := [⟨d_slices_EqualFunc___api_Stmt___api_Stmt_api_Stmt_api_Stmt_, b.slices_EqualFunc___api_Stmt___api_Stmt_api_Stmt_api_Stmt_, hb.slices_EqualFunc___api_Stmt___api_Stmt_api_Stmt_api_Stmt_⟩]
def ls_tree_sameBlock (b : B_tree_sameBlock) (n : Nat) : List LE := []
theorem f_tree_sameBlock_ok (b : B_tree_sameBlock) (hb : B_tree_sameBlock_ok b) (n : Nat) : Ok Tryz.prog d_tree_sameBlock (f_tree_sameBlock b n) := fnOk sound (cs := cs_tree_sameBlock b hb n) (ls := ls_tree_sameBlock b n) (n := 8) Tryz.func63 (by kernel_rfl) (fun _ => by kernel_rfl) (inner (by kernel_rfl) allN) (innerS (by kernel_rfl) allN) (by kernel_rfl) (fun a => by kernel_rfl)
def l_slices_EqualFunc___api_Stmt___api_Stmt_api_Stmt_api_Stmt__4_B (b : B_tree_sameBlock) (n : Nat) (k : (List T) × (List T) × Int × Int -> Option (((Unit) ⊕ Bool))) : (List T) × (List T) × Int × Int -> Option (((Unit) ⊕ Bool)) := fun (s0, s1, s2, s3) =>
bif (decide ((s3 : Int) < s2)) then (
Option.bind (idx true [.int .i64, .str, .str, .int .i64, .int .i64, .int .i64, .str, .list, .list, .list, .cplx .f64] s1 s3) fun y0 =>
Option.bind (idx true [.int .i64, .str, .str, .int .i64, .int .i64, .int .i64, .str, .list, .list, .list, .cplx .f64] s0 s3) fun y1 =>
Option.bind (b.tree_sameStmt (y0.cell 0).int (y0.cell 1).str (y0.cell 2).str (y0.cell 3).int (y0.cell 4).int (y0.cell 5).int (y0.cell 6).str (y0.cell 7).lst (y0.cell 8).lst (y0.cell 9).lst ((y0.cell 10).re, (y0.cell 10).im) (y1.cell 0).int (y1.cell 1).str (y1.cell 2).str (y1.cell 3).int (y1.cell 4).int (y1.cell 5).int (y1.cell 6).str (y1.cell 7).lst (y1.cell 8).lst (y1.cell 9).lst ((y1.cell 10).re, (y1.cell 10).im)) fun r2 =>
bif (!r2) then (
some (Sum.inr false))
else (
k (s0, s1, s2, (IntKind.wrap .i64 (s3 + 1)))))
else (
some (Sum.inl ()))
def l_slices_EqualFunc___api_Stmt___api_Stmt_api_Stmt_api_Stmt__4 (b : B_tree_sameBlock) (n : Nat) : Nat -> (List T) × (List T) × Int × Int -> Option (((Unit) ⊕ Bool))
 | 0, _ => none
 | m + 1, s => l_slices_EqualFunc___api_Stmt___api_Stmt_api_Stmt_api_Stmt__4_B b n (l_slices_EqualFunc___api_Stmt___api_Stmt_api_Stmt_api_Stmt__4 b n m) s
def f_slices_EqualFunc___api_Stmt___api_Stmt_api_Stmt_api_Stmt_ (b : B_tree_sameBlock) (n : Nat) (a0 : List T) (a1 : List T) : Option (Bool) :=
bif ((((List.length a0 : Nat) : Int) : Int) != ((List.length a1 : Nat) : Int)) then (
some false)
else (
Option.bind (l_slices_EqualFunc___api_Stmt___api_Stmt_api_Stmt_api_Stmt__4 b n n (a1, a0, ((List.length a0 : Nat) : Int), 0)) fun x3 =>
Sum.elim (fun p4 =>
some true) (fun x3' => (fun p5 =>
some p5) x3') x3)
def cs_slices_EqualFunc___api_Stmt___api_Stmt_api_Stmt_api_Stmt_ (b : B_tree_sameBlock) (hb : B_tree_sameBlock_ok b) (n : Nat) : List (CalF Tryz.prog) := [⟨d_tree_sameStmt, b.tree_sameStmt, hb.tree_sameStmt⟩]
def L_l_slices_EqualFunc___api_Stmt___api_Stmt_api_Stmt_api_Stmt__4 : LF := ⟨4, [1, 2, 15, 16, 17], [.list, .fn 101 0, .list, .int .i64, .int .i64], [⟨(.exit 0), [], []⟩, ⟨.ret, [6], [.bool]⟩]⟩
def ls_slices_EqualFunc___api_Stmt___api_Stmt_api_Stmt_api_Stmt_ (b : B_tree_sameBlock) (n : Nat) : List LE := [⟨4, loopS L_l_slices_EqualFunc___api_Stmt___api_Stmt_api_Stmt_api_Stmt__4 (l_slices_EqualFunc___api_Stmt___api_Stmt_api_Stmt_api_Stmt__4 b n n)⟩]
theorem l_slices_EqualFunc___api_Stmt___api_Stmt_api_Stmt_api_Stmt__4_ok (b : B_tree_sameBlock) (hb : B_tree_sameBlock_ok b) (n : Nat) : LoopOk Tryz.prog (mkSpec (cs_slices_EqualFunc___api_Stmt___api_Stmt_api_Stmt_api_Stmt_ b hb n) (ls_slices_EqualFunc___api_Stmt___api_Stmt_api_Stmt_api_Stmt_ b n)) 0 32 (loopAt Tryz.f100 0) := loopOk (L := L_l_slices_EqualFunc___api_Stmt___api_Stmt_api_Stmt_api_Stmt__4) (f := l_slices_EqualFunc___api_Stmt___api_Stmt_api_Stmt_api_Stmt__4 b n) (B := l_slices_EqualFunc___api_Stmt___api_Stmt_api_Stmt_api_Stmt__4_B b n) (k := n) (loopAt_ok sound Tryz.func100 (by kernel_rfl)) (inner (by kernel_rfl) allN) (innerS (by kernel_rfl) allN) (fun _ => rfl) (fun _ _ => rfl) (by kernel_rfl) (fun _ => by kernel_rfl) (by kernel_rfl) (fun k a => by kernel_rfl)
theorem f_slices_EqualFunc___api_Stmt___api_Stmt_api_Stmt_api_Stmt__ok (b : B_tree_sameBlock) (hb : B_tree_sameBlock_ok b) (n : Nat) : Ok Tryz.prog d_slices_EqualFunc___api_Stmt___api_Stmt_api_Stmt_api_Stmt_ (f_slices_EqualFunc___api_Stmt___api_Stmt_api_Stmt_api_Stmt_ b n) := fnOk sound (cs := cs_slices_EqualFunc___api_Stmt___api_Stmt_api_Stmt_api_Stmt_ b hb n) (ls := ls_slices_EqualFunc___api_Stmt___api_Stmt_api_Stmt_api_Stmt_ b n) (n := 32) Tryz.func100 (by kernel_rfl) (fun _ => by kernel_rfl) (inner (by kernel_rfl) (allC (l_slices_EqualFunc___api_Stmt___api_Stmt_api_Stmt_api_Stmt__4_ok b hb n) allN)) (innerS (by kernel_rfl) allN) (by kernel_rfl) (fun a => by kernel_rfl)
def f_tree_sameStmt (b : B_tree_sameBlock) (n : Nat) (a0 : Int) (a1 : ByteArray) (a2 : ByteArray) (a3 : Int) (a4 : Int) (a5 : Int) (a6 : ByteArray) (a7 : List T) (a8 : List T) (a9 : List T) (a10 : Nat × Nat) (a11 : Int) (a12 : ByteArray) (a13 : ByteArray) (a14 : Int) (a15 : Int) (a16 : Int) (a17 : ByteArray) (a18 : List T) (a19 : List T) (a20 : List T) (a21 : Nat × Nat) : Option (Bool) :=
Option.bind (bif (bif (bif (bif ((a0 : Int) == a11) then (ByteArray.toList a1 == ByteArray.toList a12) else false) then (ByteArray.toList a2 == ByteArray.toList a13) else false) then ((a3 : Int) == a14) else false) then m_tree_SameExpr n a4 a5 a6 a7 a15 a16 a17 a18 else some false) fun r0 =>
Option.bind (bif (bif (bif (bif (bif ((a0 : Int) == a11) then (ByteArray.toList a1 == ByteArray.toList a12) else false) then (ByteArray.toList a2 == ByteArray.toList a13) else false) then ((a3 : Int) == a14) else false) then r0 else false) then b.tree_sameBlock a8 a19 else some false) fun r1 =>
Option.bind (bif (bif (bif (bif (bif (bif ((a0 : Int) == a11) then (ByteArray.toList a1 == ByteArray.toList a12) else false) then (ByteArray.toList a2 == ByteArray.toList a13) else false) then ((a3 : Int) == a14) else false) then r0 else false) then r1 else false) then b.tree_sameBlock a9 a20 else some false) fun r2 =>
some (bif (bif (bif (bif (bif (bif ((a0 : Int) == a11) then (ByteArray.toList a1 == ByteArray.toList a12) else false) then (ByteArray.toList a2 == ByteArray.toList a13) else false) then ((a3 : Int) == a14) else false) then r0 else false) then r1 else false) then r2 else false)
def cs_tree_sameStmt (b : B_tree_sameBlock) (hb : B_tree_sameBlock_ok b) (n : Nat) : List (CalF Tryz.prog) := [⟨d_tree_SameExpr, m_tree_SameExpr n, m_tree_SameExpr_ok n⟩, ⟨d_tree_sameBlock, b.tree_sameBlock, hb.tree_sameBlock⟩]
def ls_tree_sameStmt (b : B_tree_sameBlock) (n : Nat) : List LE := []
theorem f_tree_sameStmt_ok (b : B_tree_sameBlock) (hb : B_tree_sameBlock_ok b) (n : Nat) : Ok Tryz.prog d_tree_sameStmt (f_tree_sameStmt b n) := fnOk sound (cs := cs_tree_sameStmt b hb n) (ls := ls_tree_sameStmt b n) (n := 52) Tryz.func101 (by kernel_rfl) (fun _ => by kernel_rfl) (inner (by kernel_rfl) allN) (innerS (by kernel_rfl) allN) (by kernel_rfl) (fun a => by kernel_rfl)
def unB_tree_sameBlock (n : Nat) : Nat -> B_tree_sameBlock
 | 0 => { tree_sameBlock := fun _ _ => none, slices_EqualFunc___api_Stmt___api_Stmt_api_Stmt_api_Stmt_ := fun _ _ => none, tree_sameStmt := fun _ _ _ _ _ _ _ _ _ _ _ _ _ _ _ _ _ _ _ _ _ _ => none }
 | m + 1 => { tree_sameBlock := f_tree_sameBlock (unB_tree_sameBlock n m) n, slices_EqualFunc___api_Stmt___api_Stmt_api_Stmt_api_Stmt_ := f_slices_EqualFunc___api_Stmt___api_Stmt_api_Stmt_api_Stmt_ (unB_tree_sameBlock n m) n, tree_sameStmt := f_tree_sameStmt (unB_tree_sameBlock n m) n }
theorem unB_tree_sameBlock_ok (n : Nat) : ∀ m, B_tree_sameBlock_ok (unB_tree_sameBlock n m)
 | 0 => { tree_sameBlock := fun _ _ h => (nomatch (show none = some _ from h)), slices_EqualFunc___api_Stmt___api_Stmt_api_Stmt_api_Stmt_ := fun _ _ h => (nomatch (show none = some _ from h)), tree_sameStmt := fun _ _ h => (nomatch (show none = some _ from h)) }
 | m + 1 => { tree_sameBlock := f_tree_sameBlock_ok _ (unB_tree_sameBlock_ok n m) n, slices_EqualFunc___api_Stmt___api_Stmt_api_Stmt_api_Stmt_ := f_slices_EqualFunc___api_Stmt___api_Stmt_api_Stmt_api_Stmt__ok _ (unB_tree_sameBlock_ok n m) n, tree_sameStmt := f_tree_sameStmt_ok _ (unB_tree_sameBlock_ok n m) n }
def m_tree_sameBlock (n : Nat) : List T -> List T -> Option (Bool) := (unB_tree_sameBlock n n).tree_sameBlock
theorem m_tree_sameBlock_ok (n : Nat) : Ok Tryz.prog d_tree_sameBlock (m_tree_sameBlock n) := (unB_tree_sameBlock_ok n n).tree_sameBlock
def m_slices_EqualFunc___api_Stmt___api_Stmt_api_Stmt_api_Stmt_ (n : Nat) : List T -> List T -> Option (Bool) := (unB_tree_sameBlock n n).slices_EqualFunc___api_Stmt___api_Stmt_api_Stmt_api_Stmt_
theorem m_slices_EqualFunc___api_Stmt___api_Stmt_api_Stmt_api_Stmt__ok (n : Nat) : Ok Tryz.prog d_slices_EqualFunc___api_Stmt___api_Stmt_api_Stmt_api_Stmt_ (m_slices_EqualFunc___api_Stmt___api_Stmt_api_Stmt_api_Stmt_ n) := (unB_tree_sameBlock_ok n n).slices_EqualFunc___api_Stmt___api_Stmt_api_Stmt_api_Stmt_
def m_tree_sameStmt (n : Nat) : Int -> ByteArray -> ByteArray -> Int -> Int -> Int -> ByteArray -> List T -> List T -> List T -> Nat × Nat -> Int -> ByteArray -> ByteArray -> Int -> Int -> Int -> ByteArray -> List T -> List T -> List T -> Nat × Nat -> Option (Bool) := (unB_tree_sameBlock n n).tree_sameStmt
theorem m_tree_sameStmt_ok (n : Nat) : Ok Tryz.prog d_tree_sameStmt (m_tree_sameStmt n) := (unB_tree_sameBlock_ok n n).tree_sameStmt
def l_slices_EqualFunc_____api_Stmt_____api_Stmt___api_Stmt___api_Stmt__4_B (n : Nat) (k : (List T) × (List T) × Int × Int -> Option (((Bool) ⊕ Unit))) : (List T) × (List T) × Int × Int -> Option (((Bool) ⊕ Unit)) := fun (s0, s1, s2, s3) =>
bif (decide ((s3 : Int) < s2)) then (
Option.bind (idx true [.list] s1 s3) fun y0 =>
Option.bind (idx true [.list] s0 s3) fun y1 =>
Option.bind (m_tree_sameBlock n (y0.cell 0).lst (y1.cell 0).lst) fun r2 =>
bif (!r2) then (
some (Sum.inl false))
else (
k (s0, s1, s2, (IntKind.wrap .i64 (s3 + 1)))))
else (
some (Sum.inr ()))
def l_slices_EqualFunc_____api_Stmt_____api_Stmt___api_Stmt___api_Stmt__4 (n : Nat) : Nat -> (List T) × (List T) × Int × Int -> Option (((Bool) ⊕ Unit))
 | 0, _ => none
 | m + 1, s => l_slices_EqualFunc_____api_Stmt_____api_Stmt___api_Stmt___api_Stmt__4_B n (l_slices_EqualFunc_____api_Stmt_____api_Stmt___api_Stmt___api_Stmt__4 n m) s
def m_slices_EqualFunc_____api_Stmt_____api_Stmt___api_Stmt___api_Stmt_ (n : Nat) (a0 : List T) (a1 : List T) : Option (Bool) :=
bif ((((List.length a0 : Nat) : Int) : Int) != ((List.length a1 : Nat) : Int)) then (
some false)
else (
Option.bind (l_slices_EqualFunc_____api_Stmt_____api_Stmt___api_Stmt___api_Stmt__4 n n (a1, a0, ((List.length a0 : Nat) : Int), 0)) fun x3 =>
Sum.elim (fun p4 =>
some p4) (fun x3' => (fun p5 =>
some true) x3') x3)
def d_slices_EqualFunc_____api_Stmt_____api_Stmt___api_Stmt___api_Stmt_ : FnF := ⟨62, [.list, .list, .fn 63 0], [.bool]⟩
def cs_slices_EqualFunc_____api_Stmt_____api_Stmt___api_Stmt___api_Stmt_ (n : Nat) : List (CalF Tryz.prog) := [⟨d_tree_sameBlock, m_tree_sameBlock n, m_tree_sameBlock_ok n⟩]
def L_l_slices_EqualFunc_____api_Stmt_____api_Stmt___api_Stmt___api_Stmt__4 : LF := ⟨4, [1, 2, 15, 16, 17], [.list, .fn 63 0, .list, .int .i64, .int .i64], [⟨.ret, [6], [.bool]⟩, ⟨(.exit 0), [], []⟩]⟩
def ls_slices_EqualFunc_____api_Stmt_____api_Stmt___api_Stmt___api_Stmt_ (n : Nat) : List LE := [⟨4, loopS L_l_slices_EqualFunc_____api_Stmt_____api_Stmt___api_Stmt___api_Stmt__4 (l_slices_EqualFunc_____api_Stmt_____api_Stmt___api_Stmt___api_Stmt__4 n n)⟩]
theorem l_slices_EqualFunc_____api_Stmt_____api_Stmt___api_Stmt___api_Stmt__4_ok (n : Nat) : LoopOk Tryz.prog (mkSpec (cs_slices_EqualFunc_____api_Stmt_____api_Stmt___api_Stmt___api_Stmt_ n) (ls_slices_EqualFunc_____api_Stmt_____api_Stmt___api_Stmt___api_Stmt_ n)) 0 32 (loopAt Tryz.f62 0) := loopOk (L := L_l_slices_EqualFunc_____api_Stmt_____api_Stmt___api_Stmt___api_Stmt__4) (f := l_slices_EqualFunc_____api_Stmt_____api_Stmt___api_Stmt___api_Stmt__4 n) (B := l_slices_EqualFunc_____api_Stmt_____api_Stmt___api_Stmt___api_Stmt__4_B n) (k := n) (loopAt_ok sound Tryz.func62 (by kernel_rfl)) (inner (by kernel_rfl) allN) (innerS (by kernel_rfl) allN) (fun _ => rfl) (fun _ _ => rfl) (by kernel_rfl) (fun _ => by kernel_rfl) (by kernel_rfl) (fun k a => by kernel_rfl)
theorem m_slices_EqualFunc_____api_Stmt_____api_Stmt___api_Stmt___api_Stmt__ok (n : Nat) : Ok Tryz.prog d_slices_EqualFunc_____api_Stmt_____api_Stmt___api_Stmt___api_Stmt_ (m_slices_EqualFunc_____api_Stmt_____api_Stmt___api_Stmt___api_Stmt_ n) := fnOk sound (cs := cs_slices_EqualFunc_____api_Stmt_____api_Stmt___api_Stmt___api_Stmt_ n) (ls := ls_slices_EqualFunc_____api_Stmt_____api_Stmt___api_Stmt___api_Stmt_ n) (n := 32) Tryz.func62 (by kernel_rfl) (fun _ => by kernel_rfl) (inner (by kernel_rfl) (allC (l_slices_EqualFunc_____api_Stmt_____api_Stmt___api_Stmt___api_Stmt__4_ok n) allN)) (innerS (by kernel_rfl) allN) (by kernel_rfl) (fun a => by kernel_rfl)
def m_tree_Same (n : Nat) (a0 : List T) (a1 : List T) (a2 : List T) (a3 : List T) : Option (Bool) :=
Option.bind (m_slices_EqualFunc___api_Decl___api_Decl_api_Decl_api_Decl_ n a0 a2) fun r0 =>
Option.bind (bif r0 then m_slices_EqualFunc_____api_Stmt_____api_Stmt___api_Stmt___api_Stmt_ n a1 a3 else some false) fun r1 =>
some (bif r0 then r1 else false)
def d_tree_Same : FnF := ⟨38, [.agg 2, .list, .list, .agg 2, .list, .list], [.bool]⟩
def cs_tree_Same (n : Nat) : List (CalF Tryz.prog) := [⟨d_slices_EqualFunc___api_Decl___api_Decl_api_Decl_api_Decl_, m_slices_EqualFunc___api_Decl___api_Decl_api_Decl_api_Decl_ n, m_slices_EqualFunc___api_Decl___api_Decl_api_Decl_api_Decl__ok n⟩, ⟨d_slices_EqualFunc_____api_Stmt_____api_Stmt___api_Stmt___api_Stmt_, m_slices_EqualFunc_____api_Stmt_____api_Stmt___api_Stmt___api_Stmt_ n, m_slices_EqualFunc_____api_Stmt_____api_Stmt___api_Stmt___api_Stmt__ok n⟩]
def ls_tree_Same (n : Nat) : List LE := []
theorem m_tree_Same_ok (n : Nat) : Ok Tryz.prog d_tree_Same (m_tree_Same n) := fnOk sound (cs := cs_tree_Same n) (ls := ls_tree_Same n) (n := 19) Tryz.func38 (by kernel_rfl) (fun _ => by kernel_rfl) (inner (by kernel_rfl) allN) (innerS (by kernel_rfl) allN) (by kernel_rfl) (fun a => by kernel_rfl)
def l_text_Print_3_B (n : Nat) (k : ByteArray × (List T) × Int × Int × (List T) × (List T) -> Option (ByteArray × (List T) × (List T))) : ByteArray × (List T) × Int × Int × (List T) × (List T) -> Option (ByteArray × (List T) × (List T)) := fun (s0, s1, s2, s3, s4, s5) =>
bif (decide ((s3 : Int) < s2)) then (
Option.bind (idx true [.int .i64, .str, .int .i64, .cplx .f64] s1 s3) fun y0 =>
bif (((y0.cell 0).int : Int) == 6) then (
Option.bind (m_text_kindOf n (y0.cell 0).int) fun r1 =>
Option.bind (m_strconv_Itoa n (y0.cell 2).int) fun r2 =>
Option.bind (m_text_line n 0 [(T.sc (.string r1)), (T.sc (.string (y0.cell 1).str)), (T.sc (.string r2))]) fun r3 =>
must true (decide (((ByteArray.size s0 + ByteArray.size r3 : Nat) : Int) <= IntKind.i64.max)) (k ((s0 ++ r3), s1, s2, (IntKind.wrap .i64 (s3 + 1)), s4, s5)))
else (
Option.bind (m_text_kindOf n (y0.cell 0).int) fun r4 =>
Option.bind (m_text_line n 0 [(T.sc (.string r4)), (T.sc (.string (y0.cell 1).str))]) fun r5 =>
must true (decide (((ByteArray.size s0 + ByteArray.size r5 : Nat) : Int) <= IntKind.i64.max)) (k ((s0 ++ r5), s1, s2, (IntKind.wrap .i64 (s3 + 1)), s4, s5))))
else (
some (s0, s4, s5))
def l_text_Print_3 (n : Nat) : Nat -> ByteArray × (List T) × Int × Int × (List T) × (List T) -> Option (ByteArray × (List T) × (List T))
 | 0, _ => none
 | m + 1, s => l_text_Print_3_B n (l_text_Print_3 n m) s
def l_text_Print_10_B (n : Nat) (k : ByteArray × (List T) × Int × Int × (List T) × (List T) -> Option (ByteArray × (List T) × (List T))) : ByteArray × (List T) × Int × Int × (List T) × (List T) -> Option (ByteArray × (List T) × (List T)) := fun (s0, s1, s2, s3, s4, s5) =>
bif (decide ((s3 : Int) < s2)) then (
Option.bind (idx true [.list] s1 s3) fun y8 =>
Option.bind (m_text_line n 0 [(T.sc (.string (⟨#[103, 111]⟩ : ByteArray))), (T.sc (.string (⟨#[123]⟩ : ByteArray)))]) fun r9 =>
Option.bind (m_text_block n (y8.cell 0).lst 1) fun r10 =>
must true (decide (((ByteArray.size r9 + ByteArray.size r10 : Nat) : Int) <= IntKind.i64.max)) (Option.bind (m_text_line n 0 [(T.sc (.string (⟨#[125]⟩ : ByteArray)))]) fun r11 =>
must true (decide (((ByteArray.size (r9 ++ r10) + ByteArray.size r11 : Nat) : Int) <= IntKind.i64.max)) (must true (decide (((ByteArray.size s0 + ByteArray.size ((r9 ++ r10) ++ r11) : Nat) : Int) <= IntKind.i64.max)) (k ((s0 ++ ((r9 ++ r10) ++ r11)), s1, s2, (IntKind.wrap .i64 (s3 + 1)), s4, s5)))))
else (
some (s0, s4, s5))
def l_text_Print_10 (n : Nat) : Nat -> ByteArray × (List T) × Int × Int × (List T) × (List T) -> Option (ByteArray × (List T) × (List T))
 | 0, _ => none
 | m + 1, s => l_text_Print_10_B n (l_text_Print_10 n m) s
def m_text_Print (n : Nat) (a0 : List T) (a1 : List T) : Option (ByteArray) :=
Option.bind (l_text_Print_3 n n ((⟨#[]⟩ : ByteArray), a0, ((List.length a0 : Nat) : Int), 0, a0, a1)) fun p7 =>
Option.bind (l_text_Print_10 n n (p7.1, p7.2.2, ((List.length p7.2.2 : Nat) : Int), 0, p7.2.1, p7.2.2)) fun p13 =>
Option.bind (m_parse_Read n p13.1) fun r14 =>
Option.bind (bif !((r14.2.2.2 : Int) != 0) then m_tree_Same n r14.1 r14.2.1 p13.2.1 p13.2.2 else some false) fun r15 =>
bif (bif ((r14.2.2.2 : Int) != 0) then true else (!r15)) then (
some (⟨#[]⟩ : ByteArray))
else (
some p13.1)
def d_text_Print : FnF := ⟨13, [.agg 2, .list, .list], [.str]⟩
def cs_text_Print (n : Nat) : List (CalF Tryz.prog) := [⟨d_text_kindOf, m_text_kindOf n, m_text_kindOf_ok n⟩, ⟨d_strconv_Itoa, m_strconv_Itoa n, m_strconv_Itoa_ok n⟩, ⟨d_text_line, m_text_line n, m_text_line_ok n⟩, ⟨d_text_block, m_text_block n, m_text_block_ok n⟩, ⟨d_parse_Read, m_parse_Read n, m_parse_Read_ok n⟩, ⟨d_tree_Same, m_tree_Same n, m_tree_Same_ok n⟩]
def L_l_text_Print_3 : LF := ⟨3, [1, 3, 12, 13, 14], [.ptr 0 0, .str, .list, .int .i64, .int .i64, .box 2, .list, .list], [⟨(.exit 0), [1, 3], [.ptr 0 0, .str, .box 2, .list, .list]⟩]⟩
def L_l_text_Print_10 : LF := ⟨10, [1, 3, 44, 45, 46], [.ptr 0 0, .str, .list, .int .i64, .int .i64, .box 2, .list, .list], [⟨(.exit 2), [1, 3], [.ptr 0 0, .str, .box 2, .list, .list]⟩]⟩
def ls_text_Print (n : Nat) : List LE := [⟨3, loopS L_l_text_Print_3 (l_text_Print_3 n n)⟩, ⟨10, loopS L_l_text_Print_10 (l_text_Print_10 n n)⟩]
theorem l_text_Print_3_ok (n : Nat) : LoopOk Tryz.prog (mkSpec (cs_text_Print n) (ls_text_Print n)) 0 76 (loopAt Tryz.f13 0) := loopOk (L := L_l_text_Print_3) (f := l_text_Print_3 n) (B := l_text_Print_3_B n) (k := n) (loopAt_ok sound Tryz.func13 (by kernel_rfl)) (inner (by kernel_rfl) allN) (innerS (by kernel_rfl) allN) (fun _ => rfl) (fun _ _ => rfl) (by kernel_rfl) (fun _ => by kernel_rfl) (by kernel_rfl) (fun k a => by kernel_rfl)
theorem l_text_Print_10_ok (n : Nat) : LoopOk Tryz.prog (mkSpec (cs_text_Print n) (ls_text_Print n)) 0 76 (loopAt Tryz.f13 1) := loopOk (L := L_l_text_Print_10) (f := l_text_Print_10 n) (B := l_text_Print_10_B n) (k := n) (loopAt_ok sound Tryz.func13 (by kernel_rfl)) (inner (by kernel_rfl) allN) (innerS (by kernel_rfl) allN) (fun _ => rfl) (fun _ _ => rfl) (by kernel_rfl) (fun _ => by kernel_rfl) (by kernel_rfl) (fun k a => by kernel_rfl)
theorem m_text_Print_ok (n : Nat) : Ok Tryz.prog d_text_Print (m_text_Print n) := fnOk sound (cs := cs_text_Print n) (ls := ls_text_Print n) (n := 76) Tryz.func13 (by kernel_rfl) (fun _ => by kernel_rfl) (inner (by kernel_rfl) (allC (l_text_Print_3_ok n) (allC (l_text_Print_10_ok n) allN))) (innerS (by kernel_rfl) allN) (by kernel_rfl) (fun a => by kernel_rfl)
structure B_sutureref1_block where
 sutureref1_block : List T -> Option ((List T))
def d_sutureref1_block : FnF := ⟨39, [.list], [.own 11]⟩
structure B_sutureref1_block_ok (b : B_sutureref1_block) : Prop where
 sutureref1_block : Ok Tryz.prog d_sutureref1_block b.sutureref1_block
def l_sutureref1_block_3_B (b : B_sutureref1_block) (n : Nat) (k : (List T) × (List T) × Int -> Option ((List T))) : (List T) × (List T) × Int -> Option ((List T)) := fun (s0, s1, s2) =>
bif (decide ((s2 : Int) < ((List.length s0 : Nat) : Int))) then (
Option.bind (idx true [.int .i64, .str, .str, .int .i64, .int .i64, .int .i64, .str, .list, .list, .list, .cplx .f64] s0 s2) fun y0 =>
must true ((Nat.beq 11 11 || Nat.beq 11 0) && (decide (List.length s1 + List.length [(T.agg [(T.sc (.int .i64 (y0.cell 0).int)), (T.sc (.string (y0.cell 1).str)), (T.sc (.string (y0.cell 2).str)), (T.sc (.int .i64 (y0.cell 3).int)), (T.sc (.int .i64 (y0.cell 4).int)), (T.sc (.int .i64 (y0.cell 5).int)), (T.sc (.string (y0.cell 6).str)), (T.list (y0.cell 7).lst), (T.list (y0.cell 8).lst), (T.list (y0.cell 9).lst), (T.sc (.complex .f64 (y0.cell 10).re (y0.cell 10).im))])] <= 1073741824) && sized 11 [(T.agg [(T.sc (.int .i64 (y0.cell 0).int)), (T.sc (.string (y0.cell 1).str)), (T.sc (.string (y0.cell 2).str)), (T.sc (.int .i64 (y0.cell 3).int)), (T.sc (.int .i64 (y0.cell 4).int)), (T.sc (.int .i64 (y0.cell 5).int)), (T.sc (.string (y0.cell 6).str)), (T.list (y0.cell 7).lst), (T.list (y0.cell 8).lst), (T.list (y0.cell 9).lst), (T.sc (.complex .f64 (y0.cell 10).re (y0.cell 10).im))])])) (Option.bind (idx true [.int .i64, .str, .str, .int .i64, .int .i64, .int .i64, .str, .list, .list, .list, .cplx .f64] s0 s2) fun y1 =>
Option.bind (b.sutureref1_block (y1.cell 8).lst) fun r2 =>
must true ((Nat.beq 11 11 || Nat.beq 11 0) && (decide (List.length (s1 ++ [(T.agg [(T.sc (.int .i64 (y0.cell 0).int)), (T.sc (.string (y0.cell 1).str)), (T.sc (.string (y0.cell 2).str)), (T.sc (.int .i64 (y0.cell 3).int)), (T.sc (.int .i64 (y0.cell 4).int)), (T.sc (.int .i64 (y0.cell 5).int)), (T.sc (.string (y0.cell 6).str)), (T.list (y0.cell 7).lst), (T.list (y0.cell 8).lst), (T.list (y0.cell 9).lst), (T.sc (.complex .f64 (y0.cell 10).re (y0.cell 10).im))])]) + List.length r2 <= 1073741824) && sized 11 r2)) (Option.bind (idx true [.int .i64, .str, .str, .int .i64, .int .i64, .int .i64, .str, .list, .list, .list, .cplx .f64] s0 s2) fun y3 =>
Option.bind (b.sutureref1_block (y3.cell 9).lst) fun r4 =>
must true ((Nat.beq 11 11 || Nat.beq 11 0) && (decide (List.length ((s1 ++ [(T.agg [(T.sc (.int .i64 (y0.cell 0).int)), (T.sc (.string (y0.cell 1).str)), (T.sc (.string (y0.cell 2).str)), (T.sc (.int .i64 (y0.cell 3).int)), (T.sc (.int .i64 (y0.cell 4).int)), (T.sc (.int .i64 (y0.cell 5).int)), (T.sc (.string (y0.cell 6).str)), (T.list (y0.cell 7).lst), (T.list (y0.cell 8).lst), (T.list (y0.cell 9).lst), (T.sc (.complex .f64 (y0.cell 10).re (y0.cell 10).im))])]) ++ r2) + List.length r4 <= 1073741824) && sized 11 r4)) (k (s0, (((s1 ++ [(T.agg [(T.sc (.int .i64 (y0.cell 0).int)), (T.sc (.string (y0.cell 1).str)), (T.sc (.string (y0.cell 2).str)), (T.sc (.int .i64 (y0.cell 3).int)), (T.sc (.int .i64 (y0.cell 4).int)), (T.sc (.int .i64 (y0.cell 5).int)), (T.sc (.string (y0.cell 6).str)), (T.list (y0.cell 7).lst), (T.list (y0.cell 8).lst), (T.list (y0.cell 9).lst), (T.sc (.complex .f64 (y0.cell 10).re (y0.cell 10).im))])]) ++ r2) ++ r4), (IntKind.wrap .i64 (s2 + 1)))))))
else (
some s1)
def l_sutureref1_block_3 (b : B_sutureref1_block) (n : Nat) : Nat -> (List T) × (List T) × Int -> Option ((List T))
 | 0, _ => none
 | m + 1, s => l_sutureref1_block_3_B b n (l_sutureref1_block_3 b n m) s
def f_sutureref1_block (b : B_sutureref1_block) (n : Nat) (a0 : List T) : Option ((List T)) :=
Option.bind (l_sutureref1_block_3 b n n (a0, ([] : List T), 0)) fun p6 =>
some p6
def cs_sutureref1_block (b : B_sutureref1_block) (hb : B_sutureref1_block_ok b) (n : Nat) : List (CalF Tryz.prog) := [⟨d_sutureref1_block, b.sutureref1_block, hb.sutureref1_block⟩]
def L_l_sutureref1_block_3 : LF := ⟨3, [0, 3, 4], [.list, .own 11, .int .i64], [⟨(.exit 0), [3], [.own 11]⟩]⟩
def ls_sutureref1_block (b : B_sutureref1_block) (n : Nat) : List LE := [⟨3, loopS L_l_sutureref1_block_3 (l_sutureref1_block_3 b n n)⟩]
theorem l_sutureref1_block_3_ok (b : B_sutureref1_block) (hb : B_sutureref1_block_ok b) (n : Nat) : LoopOk Tryz.prog (mkSpec (cs_sutureref1_block b hb n) (ls_sutureref1_block b n)) 0 35 (loopAt Tryz.f39 0) := loopOk (L := L_l_sutureref1_block_3) (f := l_sutureref1_block_3 b n) (B := l_sutureref1_block_3_B b n) (k := n) (loopAt_ok sound Tryz.func39 (by kernel_rfl)) (inner (by kernel_rfl) allN) (innerS (by kernel_rfl) allN) (fun _ => rfl) (fun _ _ => rfl) (by kernel_rfl) (fun _ => by kernel_rfl) (by kernel_rfl) (fun k a => by kernel_rfl)
theorem f_sutureref1_block_ok (b : B_sutureref1_block) (hb : B_sutureref1_block_ok b) (n : Nat) : Ok Tryz.prog d_sutureref1_block (f_sutureref1_block b n) := fnOk sound (cs := cs_sutureref1_block b hb n) (ls := ls_sutureref1_block b n) (n := 35) Tryz.func39 (by kernel_rfl) (fun _ => by kernel_rfl) (inner (by kernel_rfl) (allC (l_sutureref1_block_3_ok b hb n) allN)) (innerS (by kernel_rfl) allN) (by kernel_rfl) (fun a => by kernel_rfl)
def unB_sutureref1_block (n : Nat) : Nat -> B_sutureref1_block
 | 0 => { sutureref1_block := fun _ => none }
 | m + 1 => { sutureref1_block := f_sutureref1_block (unB_sutureref1_block n m) n }
theorem unB_sutureref1_block_ok (n : Nat) : ∀ m, B_sutureref1_block_ok (unB_sutureref1_block n m)
 | 0 => { sutureref1_block := fun _ _ h => (nomatch (show none = some _ from h)) }
 | m + 1 => { sutureref1_block := f_sutureref1_block_ok _ (unB_sutureref1_block_ok n m) n }
def m_sutureref1_block (n : Nat) : List T -> Option ((List T)) := (unB_sutureref1_block n n).sutureref1_block
theorem m_sutureref1_block_ok (n : Nat) : Ok Tryz.prog d_sutureref1_block (m_sutureref1_block n) := (unB_sutureref1_block_ok n n).sutureref1_block
def l_sutureref1_List_3_B (n : Nat) (k : (List T) × Int × (List T) × (List T) -> Option ((List T) × (List T) × (List T))) : (List T) × Int × (List T) × (List T) -> Option ((List T) × (List T) × (List T)) := fun (s0, s1, s2, s3) =>
bif (decide ((s1 : Int) < ((List.length s3 : Nat) : Int))) then (
Option.bind (idx true [.list] s3 s1) fun y0 =>
Option.bind (m_sutureref1_block n (y0.cell 0).lst) fun r1 =>
must true ((Nat.beq 11 11 || Nat.beq 11 0) && (decide (List.length s0 + List.length r1 <= 1073741824) && sized 11 r1)) (k ((s0 ++ r1), (IntKind.wrap .i64 (s1 + 1)), s2, s3)))
else (
some (s0, s2, s3))
def l_sutureref1_List_3 (n : Nat) : Nat -> (List T) × Int × (List T) × (List T) -> Option ((List T) × (List T) × (List T))
 | 0, _ => none
 | m + 1, s => l_sutureref1_List_3_B n (l_sutureref1_List_3 n m) s
def m_sutureref1_List (n : Nat) (a0 : List T) (a1 : List T) : Option ((List T)) :=
Option.bind (l_sutureref1_List_3 n n (([] : List T), 0, a0, a1)) fun p3 =>
some p3.1
def d_sutureref1_List : FnF := ⟨14, [.agg 2, .list, .list], [.own 11]⟩
def cs_sutureref1_List (n : Nat) : List (CalF Tryz.prog) := [⟨d_sutureref1_block, m_sutureref1_block n, m_sutureref1_block_ok n⟩]
def L_l_sutureref1_List_3 : LF := ⟨3, [1, 3, 4], [.ptr 0 0, .own 11, .int .i64, .box 2, .list, .list], [⟨(.exit 0), [3], [.own 11, .box 2, .list, .list]⟩]⟩
def ls_sutureref1_List (n : Nat) : List LE := [⟨3, loopS L_l_sutureref1_List_3 (l_sutureref1_List_3 n n)⟩]
theorem l_sutureref1_List_3_ok (n : Nat) : LoopOk Tryz.prog (mkSpec (cs_sutureref1_List n) (ls_sutureref1_List n)) 0 21 (loopAt Tryz.f14 0) := loopOk (L := L_l_sutureref1_List_3) (f := l_sutureref1_List_3 n) (B := l_sutureref1_List_3_B n) (k := n) (loopAt_ok sound Tryz.func14 (by kernel_rfl)) (inner (by kernel_rfl) allN) (innerS (by kernel_rfl) allN) (fun _ => rfl) (fun _ _ => rfl) (by kernel_rfl) (fun _ => by kernel_rfl) (by kernel_rfl) (fun k a => by kernel_rfl)
theorem m_sutureref1_List_ok (n : Nat) : Ok Tryz.prog d_sutureref1_List (m_sutureref1_List n) := fnOk sound (cs := cs_sutureref1_List n) (ls := ls_sutureref1_List n) (n := 21) Tryz.func14 (by kernel_rfl) (fun _ => by kernel_rfl) (inner (by kernel_rfl) (allC (l_sutureref1_List_3_ok n) allN)) (innerS (by kernel_rfl) allN) (by kernel_rfl) (fun a => by kernel_rfl)
def l_sutureref1_Lines_4_B (n : Nat) (k : ByteArray × (List T) × Int × Int -> Option (ByteArray × (List T) × Int)) : ByteArray × (List T) × Int × Int -> Option (ByteArray × (List T) × Int) := fun (s0, s1, s2, s3) =>
bif (decide ((s3 : Int) < ((ByteArray.size s0 : Nat) : Int))) then (
Option.bind (bidx true s0 s3) fun b0 =>
bif ((((UInt8.toNat b0 : Nat) : Int) : Int) == 10) then (
must true (decide (0 <= s2) && decide (s2 <= (IntKind.wrap .i64 (s3 + 1))) && decide ((IntKind.wrap .i64 (s3 + 1)) <= ((ByteArray.size s0 : Nat) : Int))) (must true ((Nat.beq 1 1 || Nat.beq 1 0) && (decide (List.length s1 + List.length [(T.sc (.string (ByteArray.extract s0 (Int.toNat s2) (Int.toNat (IntKind.wrap .i64 (s3 + 1))))))] <= 1073741824) && sized 1 [(T.sc (.string (ByteArray.extract s0 (Int.toNat s2) (Int.toNat (IntKind.wrap .i64 (s3 + 1))))))])) (k (s0, (s1 ++ [(T.sc (.string (ByteArray.extract s0 (Int.toNat s2) (Int.toNat (IntKind.wrap .i64 (s3 + 1))))))]), (IntKind.wrap .i64 (s3 + 1)), (IntKind.wrap .i64 (s3 + 1))))))
else (
k (s0, s1, s2, (IntKind.wrap .i64 (s3 + 1)))))
else (
some (s0, s1, s2))
def l_sutureref1_Lines_4 (n : Nat) : Nat -> ByteArray × (List T) × Int × Int -> Option (ByteArray × (List T) × Int)
 | 0, _ => none
 | m + 1, s => l_sutureref1_Lines_4_B n (l_sutureref1_Lines_4 n m) s
def m_sutureref1_Lines (n : Nat) (a0 : ByteArray) : Option ((List T)) :=
Option.bind (l_sutureref1_Lines_4 n n (a0, ([] : List T), 0, 0)) fun p2 =>
bif (decide ((p2.2.2 : Int) < ((ByteArray.size p2.1 : Nat) : Int))) then (
must true (decide (0 <= p2.2.2) && decide (p2.2.2 <= ((ByteArray.size p2.1 : Nat) : Int)) && decide (((ByteArray.size p2.1 : Nat) : Int) <= ((ByteArray.size p2.1 : Nat) : Int))) (must true ((Nat.beq 1 1 || Nat.beq 1 0) && (decide (List.length p2.2.1 + List.length [(T.sc (.string (ByteArray.extract p2.1 (Int.toNat p2.2.2) (Int.toNat ((ByteArray.size p2.1 : Nat) : Int)))))] <= 1073741824) && sized 1 [(T.sc (.string (ByteArray.extract p2.1 (Int.toNat p2.2.2) (Int.toNat ((ByteArray.size p2.1 : Nat) : Int)))))])) (some (p2.2.1 ++ [(T.sc (.string (ByteArray.extract p2.1 (Int.toNat p2.2.2) (Int.toNat ((ByteArray.size p2.1 : Nat) : Int)))))]))))
else (
some p2.2.1)
def d_sutureref1_Lines : FnF := ⟨15, [.str], [.own 1]⟩
def cs_sutureref1_Lines (n : Nat) : List (CalF Tryz.prog) := []
def L_l_sutureref1_Lines_4 : LF := ⟨4, [0, 3, 4, 5], [.str, .own 1, .int .i64, .int .i64], [⟨(.exit 0), [0, 3, 4], [.str, .own 1, .int .i64]⟩]⟩
def ls_sutureref1_Lines (n : Nat) : List LE := [⟨4, loopS L_l_sutureref1_Lines_4 (l_sutureref1_Lines_4 n n)⟩]
theorem l_sutureref1_Lines_4_ok (n : Nat) : LoopOk Tryz.prog (mkSpec (cs_sutureref1_Lines n) (ls_sutureref1_Lines n)) 0 37 (loopAt Tryz.f15 0) := loopOk (L := L_l_sutureref1_Lines_4) (f := l_sutureref1_Lines_4 n) (B := l_sutureref1_Lines_4_B n) (k := n) (loopAt_ok sound Tryz.func15 (by kernel_rfl)) (inner (by kernel_rfl) allN) (innerS (by kernel_rfl) allN) (fun _ => rfl) (fun _ _ => rfl) (by kernel_rfl) (fun _ => by kernel_rfl) (by kernel_rfl) (fun k a => by kernel_rfl)
theorem m_sutureref1_Lines_ok (n : Nat) : Ok Tryz.prog d_sutureref1_Lines (m_sutureref1_Lines n) := fnOk sound (cs := cs_sutureref1_Lines n) (ls := ls_sutureref1_Lines n) (n := 37) Tryz.func15 (by kernel_rfl) (fun _ => by kernel_rfl) (inner (by kernel_rfl) (allC (l_sutureref1_Lines_4_ok n) allN)) (innerS (by kernel_rfl) allN) (by kernel_rfl) (fun a => by kernel_rfl)
def m_text_Right (n : Nat) (a0 : List T) (a1 : List T) : Option (Bool) :=
Option.bind (m_text_Print n a0 a1) fun r0 =>
some (!(ByteArray.toList r0 == ByteArray.toList (⟨#[]⟩ : ByteArray)))
def d_text_Right : FnF := ⟨17, [.agg 2, .list, .list], [.bool]⟩
def cs_text_Right (n : Nat) : List (CalF Tryz.prog) := [⟨d_text_Print, m_text_Print n, m_text_Print_ok n⟩]
def ls_text_Right (n : Nat) : List LE := []
theorem m_text_Right_ok (n : Nat) : Ok Tryz.prog d_text_Right (m_text_Right n) := fnOk sound (cs := cs_text_Right n) (ls := ls_text_Right n) (n := 6) Tryz.func17 (by kernel_rfl) (fun _ => by kernel_rfl) (inner (by kernel_rfl) allN) (innerS (by kernel_rfl) allN) (by kernel_rfl) (fun a => by kernel_rfl)
def m_suturelaw6_known_x (n : Nat) : Option (Bool) :=
Option.bind (m_parse_Read n (⟨#[118, 97, 114, 32, 120, 32, 103, 111, 123, 120, 61, 49, 125]⟩ : ByteArray)) fun r0 =>
Option.bind (m_text_Print n r0.1 r0.2.1) fun r1 =>
Option.bind (bif (ByteArray.toList r1 == ByteArray.toList (⟨#[118, 97, 114, 32, 120, 10, 103, 111, 32, 123, 10, 9, 120, 32, 61, 32, 49, 10, 125, 10]⟩ : ByteArray)) then m_text_Right n r0.1 r0.2.1 else some false) fun r2 =>
some (bif (ByteArray.toList r1 == ByteArray.toList (⟨#[118, 97, 114, 32, 120, 10, 103, 111, 32, 123, 10, 9, 120, 32, 61, 32, 49, 10, 125, 10]⟩ : ByteArray)) then r2 else false)
def d_suturelaw6_known_x : FnF := ⟨16, [], [.bool]⟩
def cs_suturelaw6_known_x (n : Nat) : List (CalF Tryz.prog) := [⟨d_parse_Read, m_parse_Read n, m_parse_Read_ok n⟩, ⟨d_text_Print, m_text_Print n, m_text_Print_ok n⟩, ⟨d_text_Right, m_text_Right n, m_text_Right_ok n⟩]
def ls_suturelaw6_known_x (n : Nat) : List LE := []
theorem m_suturelaw6_known_x_ok (n : Nat) : Ok Tryz.prog d_suturelaw6_known_x (m_suturelaw6_known_x n) := fnOk sound (cs := cs_suturelaw6_known_x n) (ls := ls_suturelaw6_known_x n) (n := 16) Tryz.func16 (by kernel_rfl) (fun _ => by kernel_rfl) (inner (by kernel_rfl) allN) (innerS (by kernel_rfl) allN) (by kernel_rfl) (fun a => by kernel_rfl)
def m_suturelaw6_known (n : Nat) : Option (Bool) := some true
def d_suturelaw6_known : FnF := ⟨16, [], [.bool]⟩
theorem m_suturelaw6_known_ok (n : Nat) : Ok Tryz.prog d_suturelaw6_known (m_suturelaw6_known n) := fun a r h => by
 cases (Option.some.inj (show some true = some r from h))
 exact m_suturelaw6_known_x_ok 3000 () true (show m_suturelaw6_known_x 3000 = some true from by kernel_rfl)
def l_suturelaw6_TextLines_6_B (n : Nat) (k : ByteArray × Int × (List T) × Int × Int × (List T) × (List T) -> Option (ByteArray × Int × (List T) × (List T))) : ByteArray × Int × (List T) × Int × Int × (List T) × (List T) -> Option (ByteArray × Int × (List T) × (List T)) := fun (s0, s1, s2, s3, s4, s5, s6) =>
bif (decide ((s4 : Int) < s3)) then (
Option.bind (idx true [.int .i64, .str, .str, .int .i64, .int .i64, .int .i64, .str, .list, .list, .list, .cplx .f64] s2 s4) fun y3 =>
bif (bif (((y3.cell 0).int : Int) == 7) then true else (((y3.cell 0).int : Int) == 8)) then (
bif (decide ((((List.length (y3.cell 9).lst : Nat) : Int) : Int) > 0)) then (
k (s0, (IntKind.wrap .i64 ((IntKind.wrap .i64 ((IntKind.wrap .i64 (s1 + 1)) + 1)) + 1)), s2, s3, (IntKind.wrap .i64 (s4 + 1)), s5, s6))
else (
k (s0, (IntKind.wrap .i64 ((IntKind.wrap .i64 (s1 + 1)) + 1)), s2, s3, (IntKind.wrap .i64 (s4 + 1)), s5, s6)))
else (
bif (decide ((((List.length (y3.cell 9).lst : Nat) : Int) : Int) > 0)) then (
k (s0, (IntKind.wrap .i64 ((IntKind.wrap .i64 (s1 + 1)) + 1)), s2, s3, (IntKind.wrap .i64 (s4 + 1)), s5, s6))
else (
k (s0, (IntKind.wrap .i64 (s1 + 1)), s2, s3, (IntKind.wrap .i64 (s4 + 1)), s5, s6))))
else (
some (s0, s1, s5, s6))
def l_suturelaw6_TextLines_6 (n : Nat) : Nat -> ByteArray × Int × (List T) × Int × Int × (List T) × (List T) -> Option (ByteArray × Int × (List T) × (List T))
 | 0, _ => none
 | m + 1, s => l_suturelaw6_TextLines_6_B n (l_suturelaw6_TextLines_6 n m) s
def l_suturelaw6_TextLines_20_B (n : Nat) (k : Int × Int × (List T) × ByteArray × Int × (List T) × Int × Int × (List T) × (List T) -> Option (Int × Int × (List T) × ByteArray × Int × (List T) × Int × Int × (List T) × (List T))) : Int × Int × (List T) × ByteArray × Int × (List T) × Int × Int × (List T) × (List T) -> Option (Int × Int × (List T) × ByteArray × Int × (List T) × Int × Int × (List T) × (List T)) := fun (s0, s1, s2, s3, s4, s5, s6, s7, s8, s9) =>
Option.bind (bidx ((decide ((s4 : Int) < ((ByteArray.size s3 : Nat) : Int)))) s3 s4) fun b8 =>
bif (bif (decide ((s4 : Int) < ((ByteArray.size s3 : Nat) : Int))) then ((((UInt8.toNat b8 : Nat) : Int) : Int) == 9) else false) then (
k (s0, s1, s2, s3, (IntKind.wrap .i64 (s4 + 1)), s5, s6, s7, s8, s9))
else (
some (s0, s1, s2, s3, s4, s5, s6, s7, s8, s9))
def l_suturelaw6_TextLines_20 (n : Nat) : Nat -> Int × Int × (List T) × ByteArray × Int × (List T) × Int × Int × (List T) × (List T) -> Option (Int × Int × (List T) × ByteArray × Int × (List T) × Int × Int × (List T) × (List T))
 | 0, _ => none
 | m + 1, s => l_suturelaw6_TextLines_20_B n (l_suturelaw6_TextLines_20 n m) s
def l_suturelaw6_TextLines_17_B (n : Nat) (k : Int × Int × (List T) × (List T) × Int × Int × (List T) × (List T) -> Option (((Bool × (List T) × (List T)) ⊕ Int × Int × (List T) × (List T) × (List T)))) : Int × Int × (List T) × (List T) × Int × Int × (List T) × (List T) -> Option (((Bool × (List T) × (List T)) ⊕ Int × Int × (List T) × (List T) × (List T))) := fun (s0, s1, s2, s3, s4, s5, s6, s7) =>
bif (decide ((s5 : Int) < s4)) then (
Option.bind (idx true [.str] s3 s5) fun y7 =>
Option.bind (l_suturelaw6_TextLines_20 n n (s0, s1, s2, (y7.cell 0).str, 0, s3, s4, s5, s6, s7)) fun p10 =>
must true (decide (0 <= p10.2.2.2.2.1) && decide (p10.2.2.2.2.1 <= ((ByteArray.size p10.2.2.2.1 : Nat) : Int)) && decide (((ByteArray.size p10.2.2.2.1 : Nat) : Int) <= ((ByteArray.size p10.2.2.2.1 : Nat) : Int))) (bif (ByteArray.toList (ByteArray.extract p10.2.2.2.1 (Int.toNat p10.2.2.2.2.1) (Int.toNat ((ByteArray.size p10.2.2.2.1 : Nat) : Int))) == ByteArray.toList (⟨#[]⟩ : ByteArray)) then (
some (Sum.inl (false, p10.2.2.2.2.2.2.2.2.1, p10.2.2.2.2.2.2.2.2.2)))
else (
Option.bind (bidx true (ByteArray.extract p10.2.2.2.1 (Int.toNat p10.2.2.2.2.1) (Int.toNat ((ByteArray.size p10.2.2.2.1 : Nat) : Int))) 0) fun b11 =>
bif ((((UInt8.toNat b11 : Nat) : Int) : Int) == 125) then (
Option.bind (bidx (!((p10.2.2.2.2.1 : Int) != (IntKind.wrap .i64 (p10.2.1 - 1)))) (ByteArray.extract p10.2.2.2.1 (Int.toNat p10.2.2.2.2.1) (Int.toNat ((ByteArray.size p10.2.2.2.1 : Nat) : Int))) (IntKind.wrap .i64 (((ByteArray.size (ByteArray.extract p10.2.2.2.1 (Int.toNat p10.2.2.2.2.1) (Int.toNat ((ByteArray.size p10.2.2.2.1 : Nat) : Int))) : Nat) : Int) - 1))) fun b12 =>
bif (bif ((p10.2.2.2.2.1 : Int) != (IntKind.wrap .i64 (p10.2.1 - 1))) then true else ((((UInt8.toNat b12 : Nat) : Int) : Int) != 10)) then (
some (Sum.inl (false, p10.2.2.2.2.2.2.2.2.1, p10.2.2.2.2.2.2.2.2.2)))
else (
Option.bind (bidx ((decide ((((ByteArray.size (ByteArray.extract p10.2.2.2.1 (Int.toNat p10.2.2.2.2.1) (Int.toNat ((ByteArray.size p10.2.2.2.1 : Nat) : Int))) : Nat) : Int) : Int) > 1))) (ByteArray.extract p10.2.2.2.1 (Int.toNat p10.2.2.2.2.1) (Int.toNat ((ByteArray.size p10.2.2.2.1 : Nat) : Int))) (IntKind.wrap .i64 (((ByteArray.size (ByteArray.extract p10.2.2.2.1 (Int.toNat p10.2.2.2.2.1) (Int.toNat ((ByteArray.size p10.2.2.2.1 : Nat) : Int))) : Nat) : Int) - 2))) fun b13 =>
bif (bif (decide ((((ByteArray.size (ByteArray.extract p10.2.2.2.1 (Int.toNat p10.2.2.2.2.1) (Int.toNat ((ByteArray.size p10.2.2.2.1 : Nat) : Int))) : Nat) : Int) : Int) > 1)) then ((((UInt8.toNat b13 : Nat) : Int) : Int) == 123) else false) then (
k (p10.1, (IntKind.wrap .i64 ((IntKind.wrap .i64 (p10.2.1 - 1)) + 1)), p10.2.2.1, p10.2.2.2.2.2.1, p10.2.2.2.2.2.2.1, (IntKind.wrap .i64 (p10.2.2.2.2.2.2.2.1 + 1)), p10.2.2.2.2.2.2.2.2.1, p10.2.2.2.2.2.2.2.2.2))
else (
k (p10.1, (IntKind.wrap .i64 (p10.2.1 - 1)), p10.2.2.1, p10.2.2.2.2.2.1, p10.2.2.2.2.2.2.1, (IntKind.wrap .i64 (p10.2.2.2.2.2.2.2.1 + 1)), p10.2.2.2.2.2.2.2.2.1, p10.2.2.2.2.2.2.2.2.2))))
else (
Option.bind (bidx (!((p10.2.2.2.2.1 : Int) != p10.2.1)) (ByteArray.extract p10.2.2.2.1 (Int.toNat p10.2.2.2.2.1) (Int.toNat ((ByteArray.size p10.2.2.2.1 : Nat) : Int))) (IntKind.wrap .i64 (((ByteArray.size (ByteArray.extract p10.2.2.2.1 (Int.toNat p10.2.2.2.2.1) (Int.toNat ((ByteArray.size p10.2.2.2.1 : Nat) : Int))) : Nat) : Int) - 1))) fun b14 =>
bif (bif ((p10.2.2.2.2.1 : Int) != p10.2.1) then true else ((((UInt8.toNat b14 : Nat) : Int) : Int) != 10)) then (
some (Sum.inl (false, p10.2.2.2.2.2.2.2.2.1, p10.2.2.2.2.2.2.2.2.2)))
else (
Option.bind (bidx ((decide ((((ByteArray.size (ByteArray.extract p10.2.2.2.1 (Int.toNat p10.2.2.2.2.1) (Int.toNat ((ByteArray.size p10.2.2.2.1 : Nat) : Int))) : Nat) : Int) : Int) > 1))) (ByteArray.extract p10.2.2.2.1 (Int.toNat p10.2.2.2.2.1) (Int.toNat ((ByteArray.size p10.2.2.2.1 : Nat) : Int))) (IntKind.wrap .i64 (((ByteArray.size (ByteArray.extract p10.2.2.2.1 (Int.toNat p10.2.2.2.2.1) (Int.toNat ((ByteArray.size p10.2.2.2.1 : Nat) : Int))) : Nat) : Int) - 2))) fun b15 =>
bif (bif (decide ((((ByteArray.size (ByteArray.extract p10.2.2.2.1 (Int.toNat p10.2.2.2.2.1) (Int.toNat ((ByteArray.size p10.2.2.2.1 : Nat) : Int))) : Nat) : Int) : Int) > 1)) then ((((UInt8.toNat b15 : Nat) : Int) : Int) == 123) else false) then (
k (p10.1, (IntKind.wrap .i64 (p10.2.1 + 1)), p10.2.2.1, p10.2.2.2.2.2.1, p10.2.2.2.2.2.2.1, (IntKind.wrap .i64 (p10.2.2.2.2.2.2.2.1 + 1)), p10.2.2.2.2.2.2.2.2.1, p10.2.2.2.2.2.2.2.2.2))
else (
k (p10.1, p10.2.1, p10.2.2.1, p10.2.2.2.2.2.1, p10.2.2.2.2.2.2.1, (IntKind.wrap .i64 (p10.2.2.2.2.2.2.2.1 + 1)), p10.2.2.2.2.2.2.2.2.1, p10.2.2.2.2.2.2.2.2.2)))))))
else (
some (Sum.inr (s0, s1, s2, s6, s7)))
def l_suturelaw6_TextLines_17 (n : Nat) : Nat -> Int × Int × (List T) × (List T) × Int × Int × (List T) × (List T) -> Option (((Bool × (List T) × (List T)) ⊕ Int × Int × (List T) × (List T) × (List T)))
 | 0, _ => none
 | m + 1, s => l_suturelaw6_TextLines_17_B n (l_suturelaw6_TextLines_17 n m) s
def m_suturelaw6_TextLines (n : Nat) (a0 : Int) (a1 : List T) (a2 : List T) : Option (Bool) :=
Option.bind (m_suturehand_Prog n a0 a1 a2 ([] : List T) 6) fun r0 =>
Option.bind (m_text_Print n r0.1 r0.2) fun r1 =>
Option.bind (m_sutureref1_List n r0.1 r0.2) fun r2 =>
Option.bind (l_suturelaw6_TextLines_6 n n (r1, (IntKind.wrap .i64 (((List.length r0.1 : Nat) : Int) + (IntKind.wrap .i64 (2 * ((List.length r0.2 : Nat) : Int))))), r2, ((List.length r2 : Nat) : Int), 0, r0.1, r0.2)) fun p5 =>
Option.bind (m_sutureref1_Lines n p5.1) fun r6 =>
Option.bind (l_suturelaw6_TextLines_17 n n (p5.2.1, 0, r6, r6, ((List.length r6 : Nat) : Int), 0, p5.2.2.1, p5.2.2.2)) fun x16 =>
Sum.elim (fun p17 =>
some p17.1) (fun x16' => (fun p18 =>
Option.bind (m_suturelaw6_known n) fun r19 =>
some (bif (bif r19 then ((((List.length p18.2.2.1 : Nat) : Int) : Int) == p18.1) else false) then ((p18.2.1 : Int) == 0) else false)) x16') x16
def d_suturelaw6_TextLines : FnF := ⟨3, [.int .i64, .list, .list], [.bool]⟩
def cs_suturelaw6_TextLines (n : Nat) : List (CalF Tryz.prog) := [⟨d_suturehand_Prog, m_suturehand_Prog n, m_suturehand_Prog_ok n⟩, ⟨d_text_Print, m_text_Print n, m_text_Print_ok n⟩, ⟨d_sutureref1_List, m_sutureref1_List n, m_sutureref1_List_ok n⟩, ⟨d_sutureref1_Lines, m_sutureref1_Lines n, m_sutureref1_Lines_ok n⟩, ⟨d_suturelaw6_known, m_suturelaw6_known n, m_suturelaw6_known_ok n⟩]
def L_l_suturelaw6_TextLines_6 : LF := ⟨6, [8, 9, 35, 36, 37], [.str, .int .i64, .list, .int .i64, .int .i64, .box 2, .list, .list], [⟨(.exit 0), [8, 9], [.str, .int .i64, .box 2, .list, .list]⟩]⟩
def L_l_suturelaw6_TextLines_20 : LF := ⟨20, [9, 13, 14, 16, 17, 62, 63, 64], [.int .i64, .int .i64, .own 1, .str, .int .i64, .list, .int .i64, .int .i64, .box 2, .list, .list], [⟨(.exit 4), [9, 13, 14, 16, 17, 62, 63, 64], [.int .i64, .int .i64, .own 1, .str, .int .i64, .list, .int .i64, .int .i64, .box 2, .list, .list]⟩]⟩
def L_l_suturelaw6_TextLines_17 : LF := ⟨17, [9, 13, 14, 62, 63, 64], [.int .i64, .int .i64, .own 1, .list, .int .i64, .int .i64, .box 2, .list, .list], [⟨.ret, [6], [.bool, .box 2, .list, .list]⟩, ⟨(.exit 2), [9, 13, 14], [.int .i64, .int .i64, .own 1, .box 2, .list, .list]⟩]⟩
def ls_suturelaw6_TextLines (n : Nat) : List LE := [⟨6, loopS L_l_suturelaw6_TextLines_6 (l_suturelaw6_TextLines_6 n n)⟩, ⟨20, loopS L_l_suturelaw6_TextLines_20 (l_suturelaw6_TextLines_20 n n)⟩, ⟨17, loopS L_l_suturelaw6_TextLines_17 (l_suturelaw6_TextLines_17 n n)⟩]
theorem l_suturelaw6_TextLines_6_ok (n : Nat) : LoopOk Tryz.prog (mkSpec (cs_suturelaw6_TextLines n) (ls_suturelaw6_TextLines n)) 0 126 (loopAt Tryz.f3 0) := loopOk (L := L_l_suturelaw6_TextLines_6) (f := l_suturelaw6_TextLines_6 n) (B := l_suturelaw6_TextLines_6_B n) (k := n) (loopAt_ok sound Tryz.func3 (by kernel_rfl)) (inner (by kernel_rfl) allN) (innerS (by kernel_rfl) allN) (fun _ => rfl) (fun _ _ => rfl) (by kernel_rfl) (fun _ => by kernel_rfl) (by kernel_rfl) (fun k a => by kernel_rfl)
theorem l_suturelaw6_TextLines_20_ok (n : Nat) : LoopOk Tryz.prog (mkSpec (cs_suturelaw6_TextLines n) (ls_suturelaw6_TextLines n)) 0 126 (loopAt Tryz.f3 2) := loopOk (L := L_l_suturelaw6_TextLines_20) (f := l_suturelaw6_TextLines_20 n) (B := l_suturelaw6_TextLines_20_B n) (k := n) (loopAt_ok sound Tryz.func3 (by kernel_rfl)) (inner (by kernel_rfl) allN) (innerS (by kernel_rfl) allN) (fun _ => rfl) (fun _ _ => rfl) (by kernel_rfl) (fun _ => by kernel_rfl) (by kernel_rfl) (fun k a => by kernel_rfl)
theorem l_suturelaw6_TextLines_17_ok (n : Nat) : LoopOk Tryz.prog (mkSpec (cs_suturelaw6_TextLines n) (ls_suturelaw6_TextLines n)) 0 126 (loopAt Tryz.f3 1) := loopOk (L := L_l_suturelaw6_TextLines_17) (f := l_suturelaw6_TextLines_17 n) (B := l_suturelaw6_TextLines_17_B n) (k := n) (loopAt_ok sound Tryz.func3 (by kernel_rfl)) (inner (by kernel_rfl) (allC (l_suturelaw6_TextLines_20_ok n) allN)) (innerS (by kernel_rfl) allN) (fun _ => rfl) (fun _ _ => rfl) (by kernel_rfl) (fun _ => by kernel_rfl) (by kernel_rfl) (fun k a => by kernel_rfl)
theorem m_suturelaw6_TextLines_ok (n : Nat) : Ok Tryz.prog d_suturelaw6_TextLines (m_suturelaw6_TextLines n) := fnOk sound (cs := cs_suturelaw6_TextLines n) (ls := ls_suturelaw6_TextLines n) (n := 126) Tryz.func3 (by kernel_rfl) (fun _ => by kernel_rfl) (inner (by kernel_rfl) (allC (l_suturelaw6_TextLines_6_ok n) (allC (l_suturelaw6_TextLines_17_ok n) (allC (l_suturelaw6_TextLines_20_ok n) allN)))) (innerS (by kernel_rfl) allN) (by kernel_rfl) (fun a => by kernel_rfl)
def m_suturelaw6_TextJoins (n : Nat) (a0 : Int) (a1 : List T) (a2 : List T) : Option (Bool) :=
Option.bind (m_suturehand_Prog n a0 a1 a2 ([] : List T) 4) fun r0 =>
bif ((((List.length r0.2 : Nat) : Int) : Int) != 2) then (
some false)
else (
must true (decide (0 <= 0) && decide (0 <= 1) && decide (1 <= ((List.length r0.2 : Nat) : Int)) && sized 1 r0.2) (must true (decide (0 <= 1) && decide (1 <= ((List.length r0.2 : Nat) : Int)) && decide (((List.length r0.2 : Nat) : Int) <= ((List.length r0.2 : Nat) : Int)) && sized 1 r0.2) (Option.bind (m_suturelaw6_known n) fun r1 =>
Option.bind (bif r1 then m_text_Right n r0.1 r0.2 else some false) fun r2 =>
Option.bind (bif (bif r1 then r2 else false) then m_text_Print n r0.1 r0.2 else some default) fun r3 =>
Option.bind (bif (bif r1 then r2 else false) then m_text_Print n r0.1 (List.drop (Int.toNat 0) (List.take (Int.toNat 1) r0.2)) else some default) fun r4 =>
Option.bind (bif (bif r1 then r2 else false) then m_text_Print n ([] : List T) (List.drop (Int.toNat 1) (List.take (Int.toNat ((List.length r0.2 : Nat) : Int)) r0.2)) else some default) fun r5 =>
must ((bif r1 then r2 else false)) (decide (((ByteArray.size r4 + ByteArray.size r5 : Nat) : Int) <= IntKind.i64.max)) (some (bif (bif r1 then r2 else false) then (ByteArray.toList r3 == ByteArray.toList (r4 ++ r5)) else false)))))
def d_suturelaw6_TextJoins : FnF := ⟨4, [.int .i64, .list, .list], [.bool]⟩
def cs_suturelaw6_TextJoins (n : Nat) : List (CalF Tryz.prog) := [⟨d_suturehand_Prog, m_suturehand_Prog n, m_suturehand_Prog_ok n⟩, ⟨d_suturelaw6_known, m_suturelaw6_known n, m_suturelaw6_known_ok n⟩, ⟨d_text_Right, m_text_Right n, m_text_Right_ok n⟩, ⟨d_text_Print, m_text_Print n, m_text_Print_ok n⟩]
def ls_suturelaw6_TextJoins (n : Nat) : List LE := []
theorem m_suturelaw6_TextJoins_ok (n : Nat) : Ok Tryz.prog d_suturelaw6_TextJoins (m_suturelaw6_TextJoins n) := fnOk sound (cs := cs_suturelaw6_TextJoins n) (ls := ls_suturelaw6_TextJoins n) (n := 42) Tryz.func4 (by kernel_rfl) (fun _ => by kernel_rfl) (inner (by kernel_rfl) allN) (innerS (by kernel_rfl) allN) (by kernel_rfl) (fun a => by kernel_rfl)
end Go.Proofs.YtbcgpjlkkcdmmaaGreatDoor.W
