/- What the engine's walk comes to, printed by a program of this work: for each function its model, and that it is one. No conditions. -/
import Derived.Test.YtimkclpogbfciaaDoorCon
namespace Go.Proofs.YtimkclpogbfciaaDoor.W
open Go Go.Eng
set_option linter.unusedVariables false
set_option linter.unusedSimpArgs false
set_option maxRecDepth 100000


/-! suture/diff.Apply: from elsewhere -/
def m_diff_Apply (n : Nat) (a0 : ByteArray) (a1 : ByteArray) : Option (ByteArray × Int) := applyM a0 a1
def d_diff_Apply : FnF := ⟨9, [.str, .str], [.tup 2, .str, .int .i64]⟩
theorem m_diff_Apply_ok (n : Nat) : Ok Tryd.prog d_diff_Apply (m_diff_Apply n) := fun a r h => x_diff_Apply (show applyM a.1 a.2.1 = some r from h)


/-! suture/diff.Lines: from elsewhere -/
def m_diff_Lines (n : Nat) (a0 : ByteArray) : Option ((List T)) := linesM a0
def d_diff_Lines : FnF := ⟨10, [.str], [.list]⟩
theorem m_diff_Lines_ok (n : Nat) : Ok Tryd.prog d_diff_Lines (m_diff_Lines n) := fun a r h => x_diff_Lines (show linesM a.1 = some r from h)


/-! suture/diff.Of: from elsewhere -/
def m_diff_Of (n : Nat) (a0 : ByteArray) (a1 : ByteArray) : Option (ByteArray) := ofM a0 a1
def d_diff_Of : FnF := ⟨12, [.str, .str], [.str]⟩
theorem m_diff_Of_ok (n : Nat) : Ok Tryd.prog d_diff_Of (m_diff_Of n) := fun a r h => x_diff_Of (show ofM a.1 a.2.1 = some r from h)


/-! suture/suturelaw7.known -/
def m_suturelaw7_known_x (n : Nat) : Option (Bool) :=
Option.bind (m_diff_Apply n (⟨#[120, 10]⟩ : ByteArray) (⟨#[61, 49, 10, 43, 49, 58, 121, 10]⟩ : ByteArray)) fun r0 =>
Option.bind (m_diff_Of n (⟨#[120, 10]⟩ : ByteArray) (⟨#[120, 10, 121]⟩ : ByteArray)) fun r1 =>
some (bif (bif (ByteArray.toList r1 == ByteArray.toList (⟨#[61, 49, 10, 43, 49, 58, 121, 10]⟩ : ByteArray)) then ((r0.2 : Int) == 0) else false) then (ByteArray.toList r0.1 == ByteArray.toList (⟨#[120, 10, 121]⟩ : ByteArray)) else false)
def d_suturelaw7_known_x : FnF := ⟨11, [], [.bool]⟩
theorem m_suturelaw7_known_x_ok (n : Nat) : Ok Tryd.prog d_suturelaw7_known_x (m_suturelaw7_known_x n) := fnOk0 sound [⟨d_diff_Apply, m_diff_Apply n, m_diff_Apply_ok n⟩, ⟨d_diff_Of, m_diff_Of n, m_diff_Of_ok n⟩] Tryd.func11 (by kernel_rfl) (fun a => by kernel_rfl)


/-! suture/suturelaw7.known: closed -/
def m_suturelaw7_known (n : Nat) : Option (Bool) := some true
def d_suturelaw7_known : FnF := ⟨11, [], [.bool]⟩
theorem m_suturelaw7_known_ok (n : Nat) : Ok Tryd.prog d_suturelaw7_known (m_suturelaw7_known n) := fun a r h => by
  cases (Option.some.inj (show some true = some r from h))
  exact m_suturelaw7_known_x_ok 3000 () true (show m_suturelaw7_known_x 3000 = some true from by kernel_rfl)


/-! suture/suturelaw7.DiffKnown -/
def l_suturelaw7_DiffKnown_x_2_B (n : Nat) (k : ByteArray × ByteArray × ByteArray × ByteArray × ByteArray × ByteArray × ByteArray × ByteArray × ByteArray × ByteArray × ByteArray × ByteArray × ByteArray × ByteArray × Int → Option (((Bool) ⊕ Unit))) : ByteArray × ByteArray × ByteArray × ByteArray × ByteArray × ByteArray × ByteArray × ByteArray × ByteArray × ByteArray × ByteArray × ByteArray × ByteArray × ByteArray × Int → Option (((Bool) ⊕ Unit)) := fun (s0, s1, s2, s3, s4, s5, s6, s7, s8, s9, s10, s11, s12, s13, s14) =>
bif (decide ((s14 : Int) < 14)) then (
Option.bind (idx1 true (.str) [(T.sc (.string s0)), (T.sc (.string s1)), (T.sc (.string s2)), (T.sc (.string s3)), (T.sc (.string s4)), (T.sc (.string s5)), (T.sc (.string s6)), (T.sc (.string s7)), (T.sc (.string s8)), (T.sc (.string s9)), (T.sc (.string s10)), (T.sc (.string s11)), (T.sc (.string s12)), (T.sc (.string s13))] s14) fun y0 =>
Option.bind (m_diff_Apply n (⟨#[97, 10, 98, 10]⟩ : ByteArray) y0.str) fun r1 =>
bif (bif ((r1.2 : Int) != 2) then true else (!(ByteArray.toList r1.1 == ByteArray.toList (⟨#[]⟩ : ByteArray)))) then (
some (Sum.inl false))
else (
k (s0, s1, s2, s3, s4, s5, s6, s7, s8, s9, s10, s11, s12, s13, (IntKind.wrap .i64 (s14 + 1)))))
else (
some (Sum.inr ()))
def l_suturelaw7_DiffKnown_x_2 (n : Nat) : Nat → ByteArray × ByteArray × ByteArray × ByteArray × ByteArray × ByteArray × ByteArray × ByteArray × ByteArray × ByteArray × ByteArray × ByteArray × ByteArray × ByteArray × Int → Option (((Bool) ⊕ Unit))
  | 0, _ => none
  | m + 1, s => l_suturelaw7_DiffKnown_x_2_B n (l_suturelaw7_DiffKnown_x_2 n m) s
def m_suturelaw7_DiffKnown_x (n : Nat) : Option (Bool) :=
Option.bind (l_suturelaw7_DiffKnown_x_2 n n ((⟨#[61, 48, 10]⟩ : ByteArray), (⟨#[61, 48, 49, 10, 61, 49, 10]⟩ : ByteArray), (⟨#[61, 50]⟩ : ByteArray), (⟨#[61, 49, 10, 61, 49, 10]⟩ : ByteArray), (⟨#[61, 51, 10]⟩ : ByteArray), (⟨#[61, 49, 10]⟩ : ByteArray), (⟨#[43, 48, 58, 10, 61, 50, 10]⟩ : ByteArray), (⟨#[43, 50, 58, 97, 10, 61, 50, 10]⟩ : ByteArray), (⟨#[43, 51, 58, 97, 10, 98, 10, 61, 50, 10]⟩ : ByteArray), (⟨#[43, 49, 58, 97, 61, 50, 10]⟩ : ByteArray), (⟨#[120]⟩ : ByteArray), (⟨#[45, 49, 10, 45, 49, 10]⟩ : ByteArray), (⟨#[61, 50, 10, 45, 49, 10]⟩ : ByteArray), (⟨#[43, 57, 57, 57, 57, 57, 57, 57, 57, 57, 57, 57, 57, 57, 57, 57, 57, 57, 57, 57, 57, 58, 97, 10]⟩ : ByteArray), 0)) fun x2 =>
Sum.elim (fun p3 => 
some p3) (fun x2' => (fun p4 => 
Option.bind (m_diff_Apply n (⟨#[97, 10, 98, 10]⟩ : ByteArray) (⟨#[45, 49, 10, 43, 50, 58, 113, 10, 10, 43, 49, 58, 122, 10, 61, 49, 10]⟩ : ByteArray)) fun r5 =>
Option.bind (m_diff_Apply n (⟨#[]⟩ : ByteArray) (⟨#[]⟩ : ByteArray)) fun r6 =>
Option.bind (m_diff_Lines n (⟨#[97, 10, 10, 98]⟩ : ByteArray)) fun r7 =>
Option.bind (m_suturelaw7_known n) fun r8 =>
Option.bind (idx ((bif (bif (bif (bif (bif r8 then ((r5.2 : Int) == 0) else false) then (ByteArray.toList r5.1 == ByteArray.toList (⟨#[113, 10, 122, 98, 10]⟩ : ByteArray)) else false) then ((r6.2 : Int) == 0) else false) then (ByteArray.toList r6.1 == ByteArray.toList (⟨#[]⟩ : ByteArray)) else false) then ((((List.length r7 : Nat) : Int) : Int) == 3) else false)) [.str] r7 0) fun y9 =>
Option.bind (idx ((bif (bif (bif (bif (bif (bif r8 then ((r5.2 : Int) == 0) else false) then (ByteArray.toList r5.1 == ByteArray.toList (⟨#[113, 10, 122, 98, 10]⟩ : ByteArray)) else false) then ((r6.2 : Int) == 0) else false) then (ByteArray.toList r6.1 == ByteArray.toList (⟨#[]⟩ : ByteArray)) else false) then ((((List.length r7 : Nat) : Int) : Int) == 3) else false) then (ByteArray.toList (y9.cell 0).str == ByteArray.toList (⟨#[97, 10]⟩ : ByteArray)) else false)) [.str] r7 1) fun y10 =>
Option.bind (idx ((bif (bif (bif (bif (bif (bif (bif r8 then ((r5.2 : Int) == 0) else false) then (ByteArray.toList r5.1 == ByteArray.toList (⟨#[113, 10, 122, 98, 10]⟩ : ByteArray)) else false) then ((r6.2 : Int) == 0) else false) then (ByteArray.toList r6.1 == ByteArray.toList (⟨#[]⟩ : ByteArray)) else false) then ((((List.length r7 : Nat) : Int) : Int) == 3) else false) then (ByteArray.toList (y9.cell 0).str == ByteArray.toList (⟨#[97, 10]⟩ : ByteArray)) else false) then (ByteArray.toList (y10.cell 0).str == ByteArray.toList (⟨#[10]⟩ : ByteArray)) else false)) [.str] r7 2) fun y11 =>
Option.bind (bif (bif (bif (bif (bif (bif (bif (bif (bif r8 then ((r5.2 : Int) == 0) else false) then (ByteArray.toList r5.1 == ByteArray.toList (⟨#[113, 10, 122, 98, 10]⟩ : ByteArray)) else false) then ((r6.2 : Int) == 0) else false) then (ByteArray.toList r6.1 == ByteArray.toList (⟨#[]⟩ : ByteArray)) else false) then ((((List.length r7 : Nat) : Int) : Int) == 3) else false) then (ByteArray.toList (y9.cell 0).str == ByteArray.toList (⟨#[97, 10]⟩ : ByteArray)) else false) then (ByteArray.toList (y10.cell 0).str == ByteArray.toList (⟨#[10]⟩ : ByteArray)) else false) then (ByteArray.toList (y11.cell 0).str == ByteArray.toList (⟨#[98]⟩ : ByteArray)) else false) then m_diff_Lines n (⟨#[]⟩ : ByteArray) else some []) fun r12 =>
Option.bind (bif (bif (bif (bif (bif (bif (bif (bif (bif (bif r8 then ((r5.2 : Int) == 0) else false) then (ByteArray.toList r5.1 == ByteArray.toList (⟨#[113, 10, 122, 98, 10]⟩ : ByteArray)) else false) then ((r6.2 : Int) == 0) else false) then (ByteArray.toList r6.1 == ByteArray.toList (⟨#[]⟩ : ByteArray)) else false) then ((((List.length r7 : Nat) : Int) : Int) == 3) else false) then (ByteArray.toList (y9.cell 0).str == ByteArray.toList (⟨#[97, 10]⟩ : ByteArray)) else false) then (ByteArray.toList (y10.cell 0).str == ByteArray.toList (⟨#[10]⟩ : ByteArray)) else false) then (ByteArray.toList (y11.cell 0).str == ByteArray.toList (⟨#[98]⟩ : ByteArray)) else false) then ((((List.length r12 : Nat) : Int) : Int) == 0) else false) then m_diff_Of n (⟨#[97, 10, 98, 10]⟩ : ByteArray) (⟨#[98, 10, 97, 10]⟩ : ByteArray) else some default) fun r13 =>
Option.bind (bif (bif (bif (bif (bif (bif (bif (bif (bif (bif (bif r8 then ((r5.2 : Int) == 0) else false) then (ByteArray.toList r5.1 == ByteArray.toList (⟨#[113, 10, 122, 98, 10]⟩ : ByteArray)) else false) then ((r6.2 : Int) == 0) else false) then (ByteArray.toList r6.1 == ByteArray.toList (⟨#[]⟩ : ByteArray)) else false) then ((((List.length r7 : Nat) : Int) : Int) == 3) else false) then (ByteArray.toList (y9.cell 0).str == ByteArray.toList (⟨#[97, 10]⟩ : ByteArray)) else false) then (ByteArray.toList (y10.cell 0).str == ByteArray.toList (⟨#[10]⟩ : ByteArray)) else false) then (ByteArray.toList (y11.cell 0).str == ByteArray.toList (⟨#[98]⟩ : ByteArray)) else false) then ((((List.length r12 : Nat) : Int) : Int) == 0) else false) then (ByteArray.toList r13 == ByteArray.toList (⟨#[45, 49, 10, 61, 49, 10, 43, 50, 58, 97, 10, 10]⟩ : ByteArray)) else false) then m_diff_Of n (⟨#[]⟩ : ByteArray) (⟨#[]⟩ : ByteArray) else some default) fun r14 =>
Option.bind (bif (bif (bif (bif (bif (bif (bif (bif (bif (bif (bif (bif r8 then ((r5.2 : Int) == 0) else false) then (ByteArray.toList r5.1 == ByteArray.toList (⟨#[113, 10, 122, 98, 10]⟩ : ByteArray)) else false) then ((r6.2 : Int) == 0) else false) then (ByteArray.toList r6.1 == ByteArray.toList (⟨#[]⟩ : ByteArray)) else false) then ((((List.length r7 : Nat) : Int) : Int) == 3) else false) then (ByteArray.toList (y9.cell 0).str == ByteArray.toList (⟨#[97, 10]⟩ : ByteArray)) else false) then (ByteArray.toList (y10.cell 0).str == ByteArray.toList (⟨#[10]⟩ : ByteArray)) else false) then (ByteArray.toList (y11.cell 0).str == ByteArray.toList (⟨#[98]⟩ : ByteArray)) else false) then ((((List.length r12 : Nat) : Int) : Int) == 0) else false) then (ByteArray.toList r13 == ByteArray.toList (⟨#[45, 49, 10, 61, 49, 10, 43, 50, 58, 97, 10, 10]⟩ : ByteArray)) else false) then (ByteArray.toList r14 == ByteArray.toList (⟨#[]⟩ : ByteArray)) else false) then m_diff_Of n (⟨#[97]⟩ : ByteArray) (⟨#[]⟩ : ByteArray) else some default) fun r15 =>
Option.bind (bif (bif (bif (bif (bif (bif (bif (bif (bif (bif (bif (bif (bif r8 then ((r5.2 : Int) == 0) else false) then (ByteArray.toList r5.1 == ByteArray.toList (⟨#[113, 10, 122, 98, 10]⟩ : ByteArray)) else false) then ((r6.2 : Int) == 0) else false) then (ByteArray.toList r6.1 == ByteArray.toList (⟨#[]⟩ : ByteArray)) else false) then ((((List.length r7 : Nat) : Int) : Int) == 3) else false) then (ByteArray.toList (y9.cell 0).str == ByteArray.toList (⟨#[97, 10]⟩ : ByteArray)) else false) then (ByteArray.toList (y10.cell 0).str == ByteArray.toList (⟨#[10]⟩ : ByteArray)) else false) then (ByteArray.toList (y11.cell 0).str == ByteArray.toList (⟨#[98]⟩ : ByteArray)) else false) then ((((List.length r12 : Nat) : Int) : Int) == 0) else false) then (ByteArray.toList r13 == ByteArray.toList (⟨#[45, 49, 10, 61, 49, 10, 43, 50, 58, 97, 10, 10]⟩ : ByteArray)) else false) then (ByteArray.toList r14 == ByteArray.toList (⟨#[]⟩ : ByteArray)) else false) then (ByteArray.toList r15 == ByteArray.toList (⟨#[45, 49, 10]⟩ : ByteArray)) else false) then m_diff_Of n (⟨#[]⟩ : ByteArray) (⟨#[97]⟩ : ByteArray) else some default) fun r16 =>
Option.bind (bif (bif (bif (bif (bif (bif (bif (bif (bif (bif (bif (bif (bif (bif r8 then ((r5.2 : Int) == 0) else false) then (ByteArray.toList r5.1 == ByteArray.toList (⟨#[113, 10, 122, 98, 10]⟩ : ByteArray)) else false) then ((r6.2 : Int) == 0) else false) then (ByteArray.toList r6.1 == ByteArray.toList (⟨#[]⟩ : ByteArray)) else false) then ((((List.length r7 : Nat) : Int) : Int) == 3) else false) then (ByteArray.toList (y9.cell 0).str == ByteArray.toList (⟨#[97, 10]⟩ : ByteArray)) else false) then (ByteArray.toList (y10.cell 0).str == ByteArray.toList (⟨#[10]⟩ : ByteArray)) else false) then (ByteArray.toList (y11.cell 0).str == ByteArray.toList (⟨#[98]⟩ : ByteArray)) else false) then ((((List.length r12 : Nat) : Int) : Int) == 0) else false) then (ByteArray.toList r13 == ByteArray.toList (⟨#[45, 49, 10, 61, 49, 10, 43, 50, 58, 97, 10, 10]⟩ : ByteArray)) else false) then (ByteArray.toList r14 == ByteArray.toList (⟨#[]⟩ : ByteArray)) else false) then (ByteArray.toList r15 == ByteArray.toList (⟨#[45, 49, 10]⟩ : ByteArray)) else false) then (ByteArray.toList r16 == ByteArray.toList (⟨#[43, 49, 58, 97, 10]⟩ : ByteArray)) else false) then m_diff_Of n (⟨#[97, 10, 98, 10, 99, 10]⟩ : ByteArray) (⟨#[97, 10, 120, 10, 99, 10]⟩ : ByteArray) else some default) fun r17 =>
some (bif (bif (bif (bif (bif (bif (bif (bif (bif (bif (bif (bif (bif (bif r8 then ((r5.2 : Int) == 0) else false) then (ByteArray.toList r5.1 == ByteArray.toList (⟨#[113, 10, 122, 98, 10]⟩ : ByteArray)) else false) then ((r6.2 : Int) == 0) else false) then (ByteArray.toList r6.1 == ByteArray.toList (⟨#[]⟩ : ByteArray)) else false) then ((((List.length r7 : Nat) : Int) : Int) == 3) else false) then (ByteArray.toList (y9.cell 0).str == ByteArray.toList (⟨#[97, 10]⟩ : ByteArray)) else false) then (ByteArray.toList (y10.cell 0).str == ByteArray.toList (⟨#[10]⟩ : ByteArray)) else false) then (ByteArray.toList (y11.cell 0).str == ByteArray.toList (⟨#[98]⟩ : ByteArray)) else false) then ((((List.length r12 : Nat) : Int) : Int) == 0) else false) then (ByteArray.toList r13 == ByteArray.toList (⟨#[45, 49, 10, 61, 49, 10, 43, 50, 58, 97, 10, 10]⟩ : ByteArray)) else false) then (ByteArray.toList r14 == ByteArray.toList (⟨#[]⟩ : ByteArray)) else false) then (ByteArray.toList r15 == ByteArray.toList (⟨#[45, 49, 10]⟩ : ByteArray)) else false) then (ByteArray.toList r16 == ByteArray.toList (⟨#[43, 49, 58, 97, 10]⟩ : ByteArray)) else false) then (ByteArray.toList r17 == ByteArray.toList (⟨#[61, 49, 10, 45, 49, 10, 43, 50, 58, 120, 10, 10, 61, 49, 10]⟩ : ByteArray)) else false)) x2') x2
def d_suturelaw7_DiffKnown_x : FnF := ⟨3, [], [.bool]⟩
def cs_suturelaw7_DiffKnown_x (n : Nat) : List (CalF Tryd.prog) := [⟨d_diff_Apply, m_diff_Apply n, m_diff_Apply_ok n⟩, ⟨d_diff_Lines, m_diff_Lines n, m_diff_Lines_ok n⟩, ⟨d_suturelaw7_known, m_suturelaw7_known n, m_suturelaw7_known_ok n⟩, ⟨d_diff_Of, m_diff_Of n, m_diff_Of_ok n⟩]
def L_l_suturelaw7_DiffKnown_x_2 : LF := ⟨2, [10, 11], [.agg 14, .str, .str, .str, .str, .str, .str, .str, .str, .str, .str, .str, .str, .str, .str, .int .i64], [⟨.ret, [0], [.bool]⟩, ⟨(.exit 0), [], []⟩]⟩
def ls_suturelaw7_DiffKnown_x (n : Nat) : List LE := [⟨2, loopS L_l_suturelaw7_DiffKnown_x_2 (l_suturelaw7_DiffKnown_x_2 n n)⟩]
theorem l_suturelaw7_DiffKnown_x_2_ok (n : Nat) : LoopOk Tryd.prog (mkSpec (cs_suturelaw7_DiffKnown_x n) (ls_suturelaw7_DiffKnown_x n)) 0 100 (loopAt Tryd.f3 0) := loopOk (L := L_l_suturelaw7_DiffKnown_x_2) (f := l_suturelaw7_DiffKnown_x_2 n) (B := l_suturelaw7_DiffKnown_x_2_B n) (k := n) (loopAt_ok sound Tryd.func3 (by kernel_rfl)) (inner (by kernel_rfl) allN) (innerS (by kernel_rfl) allN) (fun _ => rfl) (fun _ _ => rfl) (by kernel_rfl) (fun _ => by kernel_rfl) (by kernel_rfl) (fun k a => by kernel_rfl)
theorem m_suturelaw7_DiffKnown_x_ok (n : Nat) : Ok Tryd.prog d_suturelaw7_DiffKnown_x (m_suturelaw7_DiffKnown_x n) := fnOk sound (cs := cs_suturelaw7_DiffKnown_x n) (ls := ls_suturelaw7_DiffKnown_x n) (n := 100) Tryd.func3 (by kernel_rfl) (fun _ => by kernel_rfl) (inner (by kernel_rfl) (allC (l_suturelaw7_DiffKnown_x_2_ok n) allN)) (innerS (by kernel_rfl) allN) (by kernel_rfl) (fun a => by kernel_rfl)


/-! suture/suturelaw7.DiffKnown: closed -/
def m_suturelaw7_DiffKnown (n : Nat) : Option (Bool) := some true
def d_suturelaw7_DiffKnown : FnF := ⟨3, [], [.bool]⟩
theorem m_suturelaw7_DiffKnown_ok (n : Nat) : Ok Tryd.prog d_suturelaw7_DiffKnown (m_suturelaw7_DiffKnown n) := fun a r h => by
  cases (Option.some.inj (show some true = some r from h))
  exact m_suturelaw7_DiffKnown_x_ok 3000 () true (show m_suturelaw7_DiffKnown_x 3000 = some true from by kernel_rfl)

end Go.Proofs.YtimkclpogbfciaaDoor.W
